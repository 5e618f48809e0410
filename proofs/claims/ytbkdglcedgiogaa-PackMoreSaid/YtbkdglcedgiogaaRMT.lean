/-
  Printed by a program of this session out of the loaded functions: models and their proofs. Own text.
-/
import Derived.Test.YtbkdglcedgiogaaVCopy
import Derived.Test.YtbkdglcedgiogaaProg
import Derived.KernelRfl
namespace Go.Proofs.Ytbkdglcedgiogaa.M
open Go Go.Proofs Go.Proofs.Ytbkdglcedgiogaa.V
open Go.IntKind (i64)
set_option linter.unusedVariables false
set_option maxRecDepth 20000
set_option maxHeartbeats 4000000
structure T_api_Res where
  Cpu : Int
  Mem : Int
  Disk : Int
  Pods : Int
  Dev : Int
  deriving DecidableEq
def T_api_Res.cells (x : T_api_Res) : List VV := [.int .i64 x.Cpu, .int .i64 x.Mem, .int .i64 x.Disk, .int .i64 x.Pods, .int .i64 x.Dev]
def T_api_Res.vv (x : T_api_Res) : VV := .agg x.cells

structure T_api_Label where
  Key : ByteArray
  Val : ByteArray
  deriving DecidableEq
def T_api_Label.cells (x : T_api_Label) : List VV := [.str x.Key, .str x.Val]
def T_api_Label.vv (x : T_api_Label) : VV := .agg x.cells

structure T_api_Taint where
  Key : ByteArray
  Val : ByteArray
  Effect : Int
  deriving DecidableEq
def T_api_Taint.cells (x : T_api_Taint) : List VV := [.str x.Key, .str x.Val, .int .i64 x.Effect]
def T_api_Taint.vv (x : T_api_Taint) : VV := .agg x.cells

structure T_api_Machine where
  Name : ByteArray
  Group : ByteArray
  Has : T_api_Res
  Labels : List T_api_Label
  Taints : List T_api_Taint
  Ready : Bool
  deriving DecidableEq
def T_api_Machine.cells (x : T_api_Machine) : List VV := [.str x.Name, .str x.Group, .int .i64 x.Has.Cpu, .int .i64 x.Has.Mem, .int .i64 x.Has.Disk, .int .i64 x.Has.Pods, .int .i64 x.Has.Dev, .list 92 (List.map T_api_Label.vv x.Labels), .list 96 (List.map T_api_Taint.vv x.Taints), .bool x.Ready]
def T_api_Machine.vv (x : T_api_Machine) : VV := .agg x.cells

structure T_api_Term where
  Key : ByteArray
  Op : Int
  Vals : List ByteArray
  deriving DecidableEq
def T_api_Term.cells (x : T_api_Term) : List VV := [.str x.Key, .int .i64 x.Op, .list 9 (List.map VV.str x.Vals)]
def T_api_Term.vv (x : T_api_Term) : VV := .agg x.cells

structure T_api_Toleration where
  Key : ByteArray
  Val : ByteArray
  Any : Bool
  Effect : Int
  deriving DecidableEq
def T_api_Toleration.cells (x : T_api_Toleration) : List VV := [.str x.Key, .str x.Val, .bool x.Any, .int .i64 x.Effect]
def T_api_Toleration.vv (x : T_api_Toleration) : VV := .agg x.cells

structure T_api_Pod where
  Name : ByteArray
  Need : T_api_Res
  Labels : List T_api_Label
  Select : List T_api_Label
  Terms : List T_api_Term
  Bears : List T_api_Toleration
  Ports : List Int
  Apart : List T_api_Label
  Wide : Bool
  Spread : List T_api_Label
  Skew : Int
  Rank : Int
  Owner : ByteArray
  Daemon : Bool
  Pinned : Bool
  Local : Bool
  deriving DecidableEq
def T_api_Pod.cells (x : T_api_Pod) : List VV := [.str x.Name, .int .i64 x.Need.Cpu, .int .i64 x.Need.Mem, .int .i64 x.Need.Disk, .int .i64 x.Need.Pods, .int .i64 x.Need.Dev, .list 92 (List.map T_api_Label.vv x.Labels), .list 92 (List.map T_api_Label.vv x.Select), .list 90 (List.map T_api_Term.vv x.Terms), .list 94 (List.map T_api_Toleration.vv x.Bears), .list 3 (List.map (VV.int .i64) x.Ports), .list 92 (List.map T_api_Label.vv x.Apart), .bool x.Wide, .list 92 (List.map T_api_Label.vv x.Spread), .int .i64 x.Skew, .int .i64 x.Rank, .str x.Owner, .bool x.Daemon, .bool x.Pinned, .bool x.Local]
def T_api_Pod.vv (x : T_api_Pod) : VV := .agg x.cells

structure T_api_Bound where
  Pod : T_api_Pod
  On : ByteArray
  deriving DecidableEq
def T_api_Bound.cells (x : T_api_Bound) : List VV := [.str x.Pod.Name, .int .i64 x.Pod.Need.Cpu, .int .i64 x.Pod.Need.Mem, .int .i64 x.Pod.Need.Disk, .int .i64 x.Pod.Need.Pods, .int .i64 x.Pod.Need.Dev, .list 92 (List.map T_api_Label.vv x.Pod.Labels), .list 92 (List.map T_api_Label.vv x.Pod.Select), .list 90 (List.map T_api_Term.vv x.Pod.Terms), .list 94 (List.map T_api_Toleration.vv x.Pod.Bears), .list 3 (List.map (VV.int .i64) x.Pod.Ports), .list 92 (List.map T_api_Label.vv x.Pod.Apart), .bool x.Pod.Wide, .list 92 (List.map T_api_Label.vv x.Pod.Spread), .int .i64 x.Pod.Skew, .int .i64 x.Pod.Rank, .str x.Pod.Owner, .bool x.Pod.Daemon, .bool x.Pod.Pinned, .bool x.Pod.Local, .str x.On]
def T_api_Bound.vv (x : T_api_Bound) : VV := .agg x.cells

structure T_law19_Case where
  Ms : List T_api_Machine
  Bs : List T_api_Bound
  L : List T_api_Pod
  Like : T_api_Machine
  Limit : Int
  deriving DecidableEq
def T_law19_Case.cells (x : T_law19_Case) : List VV := [.list 30 (List.map T_api_Machine.vv x.Ms), .list 50 (List.map T_api_Bound.vv x.Bs), .list 39 (List.map T_api_Pod.vv x.L), .str x.Like.Name, .str x.Like.Group, .int .i64 x.Like.Has.Cpu, .int .i64 x.Like.Has.Mem, .int .i64 x.Like.Has.Disk, .int .i64 x.Like.Has.Pods, .int .i64 x.Like.Has.Dev, .list 92 (List.map T_api_Label.vv x.Like.Labels), .list 96 (List.map T_api_Taint.vv x.Like.Taints), .bool x.Like.Ready, .int .i64 x.Limit]
def T_law19_Case.vv (x : T_law19_Case) : VV := .agg x.cells

structure T_api_Move where
  Pod : ByteArray
  To : ByteArray
  deriving DecidableEq
def T_api_Move.cells (x : T_api_Move) : List VV := [.str x.Pod, .str x.To]
def T_api_Move.vv (x : T_api_Move) : VV := .agg x.cells

structure Arr5_Int where
  x0 : Int
  x1 : Int
  x2 : Int
  x3 : Int
  x4 : Int
  deriving DecidableEq
def Arr5_Int.cells (x : Arr5_Int) : List VV := [.int .i64 x.x0, .int .i64 x.x1, .int .i64 x.x2, .int .i64 x.x3, .int .i64 x.x4]
def Arr5_Int.vv (x : Arr5_Int) : VV := .agg x.cells
def Arr5_Int.l (x : Arr5_Int) : List Int := [x.x0, x.x1, x.x2, x.x3, x.x4]
def Arr5_Int.put (x : Arr5_Int) (n : Int) (v : Int) : Option Arr5_Int :=
  if n = 0 then some ⟨v, x.x1, x.x2, x.x3, x.x4⟩ else
  if n = 1 then some ⟨x.x0, v, x.x2, x.x3, x.x4⟩ else
  if n = 2 then some ⟨x.x0, x.x1, v, x.x3, x.x4⟩ else
  if n = 3 then some ⟨x.x0, x.x1, x.x2, v, x.x4⟩ else
  if n = 4 then some ⟨x.x0, x.x1, x.x2, x.x3, v⟩ else
  none
theorem Arr5_Int.put_some {x y : Arr5_Int} {n : Int} {v : Int} (h : Arr5_Int.put x n v = some y) : (0 ≤ n ∧ n < ((Arr5_Int.l x).length : Int)) ∧ y.cells = ((Arr5_Int.l x).set n.toNat v).map (VV.int .i64) := by
  unfold Arr5_Int.put at h
  split at h
  · rename_i hn; subst hn; cases h; exact ⟨⟨by decide, by show (0 : Int) < 5; decide⟩, rfl⟩
  split at h
  · rename_i hn; subst hn; cases h; exact ⟨⟨by decide, by show (1 : Int) < 5; decide⟩, rfl⟩
  split at h
  · rename_i hn; subst hn; cases h; exact ⟨⟨by decide, by show (2 : Int) < 5; decide⟩, rfl⟩
  split at h
  · rename_i hn; subst hn; cases h; exact ⟨⟨by decide, by show (3 : Int) < 5; decide⟩, rfl⟩
  split at h
  · rename_i hn; subst hn; cases h; exact ⟨⟨by decide, by show (4 : Int) < 5; decide⟩, rfl⟩
  cases h

structure T_pack_packer where
  ms : List T_api_Machine
  bs : List T_api_Bound
  like : T_api_Machine
  names : List ByteArray
  limit : Int
  deriving DecidableEq
def T_pack_packer.cells (x : T_pack_packer) : List VV := [.list 30 (List.map T_api_Machine.vv x.ms), .list 50 (List.map T_api_Bound.vv x.bs), .str x.like.Name, .str x.like.Group, .int .i64 x.like.Has.Cpu, .int .i64 x.like.Has.Mem, .int .i64 x.like.Has.Disk, .int .i64 x.like.Has.Pods, .int .i64 x.like.Has.Dev, .list 92 (List.map T_api_Label.vv x.like.Labels), .list 96 (List.map T_api_Taint.vv x.like.Taints), .bool x.like.Ready, .list 9 (List.map VV.str x.names), .int .i64 x.limit]
def T_pack_packer.vv (x : T_pack_packer) : VV := .agg x.cells

structure T_fit_asker where
  ms : List T_api_Machine
  bs : List T_api_Bound
  p : T_api_Pod
  deriving DecidableEq
def T_fit_asker.cells (x : T_fit_asker) : List VV := [.list 30 (List.map T_api_Machine.vv x.ms), .list 50 (List.map T_api_Bound.vv x.bs), .str x.p.Name, .int .i64 x.p.Need.Cpu, .int .i64 x.p.Need.Mem, .int .i64 x.p.Need.Disk, .int .i64 x.p.Need.Pods, .int .i64 x.p.Need.Dev, .list 92 (List.map T_api_Label.vv x.p.Labels), .list 92 (List.map T_api_Label.vv x.p.Select), .list 90 (List.map T_api_Term.vv x.p.Terms), .list 94 (List.map T_api_Toleration.vv x.p.Bears), .list 3 (List.map (VV.int .i64) x.p.Ports), .list 92 (List.map T_api_Label.vv x.p.Apart), .bool x.p.Wide, .list 92 (List.map T_api_Label.vv x.p.Spread), .int .i64 x.p.Skew, .int .i64 x.p.Rank, .str x.p.Owner, .bool x.p.Daemon, .bool x.p.Pinned, .bool x.p.Local]
def T_fit_asker.vv (x : T_fit_asker) : VV := .agg x.cells

structure T_apart_place where
  zones : List (ByteArray × ByteArray)

structure T_sched_score where
  prefers : Int
  share : Int
  deriving DecidableEq
def T_sched_score.cells (x : T_sched_score) : List VV := [.int .i64 x.prefers, .int .i64 x.share]
def T_sched_score.vv (x : T_sched_score) : VV := .agg x.cells

abbrev L30 (l : List T_api_Machine) : VV := .list 30 (List.map T_api_Machine.vv l)
abbrev L39 (l : List T_api_Pod) : VV := .list 39 (List.map T_api_Pod.vv l)
abbrev Z50 (ob : Option Nat) (l : List T_api_Bound) (cap : Nat) : VV := .sl ob (List.map T_api_Bound.vv l).length cap
abbrev Q50 (ob : Option Nat) (cap : Nat) (l : List T_api_Bound) : HE := .row ob 50 cap (List.map T_api_Bound.vv l)
abbrev X30 (b : Nat) (x : T_api_Machine) : HE := .box b 30 (T_api_Machine.cells x)
abbrev L50 (l : List T_api_Bound) : VV := .list 50 (List.map T_api_Bound.vv l)
abbrev L92 (l : List T_api_Label) : VV := .list 92 (List.map T_api_Label.vv l)
abbrev L94 (l : List T_api_Toleration) : VV := .list 94 (List.map T_api_Toleration.vv l)
abbrev L96 (l : List T_api_Taint) : VV := .list 96 (List.map T_api_Taint.vv l)
abbrev X90 (b : Nat) (x : T_api_Term) : HE := .box b 90 (T_api_Term.cells x)
abbrev X39 (b : Nat) (x : T_api_Pod) : HE := .box b 39 (T_api_Pod.cells x)
abbrev L90 (l : List T_api_Term) : VV := .list 90 (List.map T_api_Term.vv l)
abbrev Z3 (ob : Option Nat) (l : List Int) (cap : Nat) : VV := .sl ob (List.map (VV.int .i64) l).length cap
abbrev Q3 (ob : Option Nat) (cap : Nat) (l : List Int) : HE := .row ob 3 cap (List.map (VV.int .i64) l)
abbrev L3 (l : List Int) : VV := .list 3 (List.map (VV.int .i64) l)
abbrev L9 (l : List ByteArray) : VV := .list 9 (List.map VV.str l)
abbrev X96 (b : Nat) (x : T_api_Taint) : HE := .box b 96 (T_api_Taint.cells x)
abbrev Z96 (ob : Option Nat) (l : List T_api_Taint) (cap : Nat) : VV := .sl ob (List.map T_api_Taint.vv l).length cap
abbrev Q96 (ob : Option Nat) (cap : Nat) (l : List T_api_Taint) : HE := .row ob 96 cap (List.map T_api_Taint.vv l)
abbrev Z39 (ob : Option Nat) (l : List T_api_Pod) (cap : Nat) : VV := .sl ob (List.map T_api_Pod.vv l).length cap
abbrev Q39 (ob : Option Nat) (cap : Nat) (l : List T_api_Pod) : HE := .row ob 39 cap (List.map T_api_Pod.vv l)
abbrev X115 (b : Nat) (x : Arr5_Int) : HE := .box b 115 (Arr5_Int.cells x)
abbrev X26 (b : Nat) (x : T_api_Res) : HE := .box b 26 (T_api_Res.cells x)
abbrev Z9 (ob : Option Nat) (l : List ByteArray) (cap : Nat) : VV := .sl ob (List.map VV.str l).length cap
abbrev Q9 (ob : Option Nat) (cap : Nat) (l : List ByteArray) : HE := .row ob 9 cap (List.map VV.str l)
abbrev L5 (l : List Int) : VV := .list 5 (List.map (VV.int .u8) l)
abbrev Z53 (ob : Option Nat) (l : List T_api_Move) (cap : Nat) : VV := .sl ob (List.map T_api_Move.vv l).length cap
abbrev Q53 (ob : Option Nat) (cap : Nat) (l : List T_api_Move) : HE := .row ob 53 cap (List.map T_api_Move.vv l)
abbrev L53 (l : List T_api_Move) : VV := .list 53 (List.map T_api_Move.vv l)
abbrev X32 (b : Nat) (x : T_law19_Case) : HE := .box b 32 (T_law19_Case.cells x)
abbrev X84 (b : Nat) (x : T_sched_score) : HE := .box b 84 (T_sched_score.cells x)
theorem ld24 : ldB Try.prog 24 1 false = true := by kernel_rfl
theorem ld22 : ldB Try.prog 22 1 false = true := by kernel_rfl
theorem ld23 : ldB Try.prog 23 1 false = true := by kernel_rfl
theorem el24 : elB Try.prog 24 39 20 = true := by kernel_rfl
theorem ld30 : ldB Try.prog 30 10 true = true := by kernel_rfl
theorem el23 : elB Try.prog 23 50 21 = true := by kernel_rfl
theorem ld39 : ldB Try.prog 39 20 true = true := by kernel_rfl
theorem pl50 : plV Try.prog 50 = some (fun i => [(0, 20), (20, 1)].toArray[i]?, [.str (⟨#[]⟩ : ByteArray), .int .i64 (0 : Int), .int .i64 (0 : Int), .int .i64 (0 : Int), .int .i64 (0 : Int), .int .i64 (0 : Int), .sl none 0 0, .sl none 0 0, .sl none 0 0, .sl none 0 0, .sl none 0 0, .sl none 0 0, .bool false, .sl none 0 0, .int .i64 (0 : Int), .int .i64 (0 : Int), .str (⟨#[]⟩ : ByteArray), .bool false, .bool false, .bool false, .str (⟨#[]⟩ : ByteArray)]) := by kernel_rfl
theorem ap23 : apB Try.prog 23 50 21 288 = true := by kernel_rfl
theorem el22 : elB Try.prog 22 30 10 = true := by kernel_rfl
theorem fa30_0 : faB Try.prog 30 0 0 = true := by kernel_rfl
theorem ld9 : ldB Try.prog 9 1 false = true := by kernel_rfl
theorem fa30_3 : faB Try.prog 30 3 7 = true := by kernel_rfl
theorem ld27 : ldB Try.prog 27 1 false = true := by kernel_rfl
theorem el27 : elB Try.prog 27 92 2 = true := by kernel_rfl
theorem fn31 : fnB Try.prog 31 = true := by kernel_rfl
theorem fa30_4 : faB Try.prog 30 4 8 = true := by kernel_rfl
theorem ld28 : ldB Try.prog 28 1 false = true := by kernel_rfl
theorem el36 : elB Try.prog 36 94 4 = true := by kernel_rfl
theorem el28 : elB Try.prog 28 96 3 = true := by kernel_rfl
theorem fn32 : fnB Try.prog 32 = true := by kernel_rfl
theorem fn16 : fnB Try.prog 16 = true := by kernel_rfl
theorem fa50_0 : faB Try.prog 50 0 0 = true := by kernel_rfl
theorem fa39_0 : faB Try.prog 39 0 0 = true := by kernel_rfl
theorem fa39_9 : faB Try.prog 39 9 13 = true := by kernel_rfl
theorem el35 : elB Try.prog 35 90 3 = true := by kernel_rfl
theorem ld90 : ldB Try.prog 90 3 true = true := by kernel_rfl
theorem ld66 : ldB Try.prog 66 1 false = true := by kernel_rfl
theorem el66 : elB Try.prog 66 9 1 = true := by kernel_rfl
theorem fn46 : fnB Try.prog 46 = true := by kernel_rfl
theorem fa50_1 : faB Try.prog 50 1 20 = true := by kernel_rfl
theorem fn30 : fnB Try.prog 30 = true := by kernel_rfl
theorem fn75 : fnB Try.prog 75 = true := by kernel_rfl
theorem mixed : Try.prog.follows .mixedOrders = true := by kernel_rfl
theorem fn66 : fnB Try.prog 66 = true := by kernel_rfl
theorem fn65 : fnB Try.prog 65 = true := by kernel_rfl
theorem fn47 : fnB Try.prog 47 = true := by kernel_rfl
theorem fn33 : fnB Try.prog 33 = true := by kernel_rfl
theorem ld26 : ldB Try.prog 26 5 true = true := by kernel_rfl
theorem ld3 : ldB Try.prog 3 1 false = true := by kernel_rfl
theorem fn48 : fnB Try.prog 48 = true := by kernel_rfl
theorem fn34 : fnB Try.prog 34 = true := by kernel_rfl
theorem fn49 : fnB Try.prog 49 = true := by kernel_rfl
theorem fn50 : fnB Try.prog 50 = true := by kernel_rfl
theorem fn35 : fnB Try.prog 35 = true := by kernel_rfl
theorem fn51 : fnB Try.prog 51 = true := by kernel_rfl
theorem fn52 : fnB Try.prog 52 = true := by kernel_rfl
theorem fn36 : fnB Try.prog 36 = true := by kernel_rfl
theorem fn17 : fnB Try.prog 17 = true := by kernel_rfl
theorem fn53 : fnB Try.prog 53 = true := by kernel_rfl
theorem fn85 : fnB Try.prog 85 = true := by kernel_rfl
theorem fn76 : fnB Try.prog 76 = true := by kernel_rfl
theorem fn77 : fnB Try.prog 77 = true := by kernel_rfl
theorem fn67 : fnB Try.prog 67 = true := by kernel_rfl
theorem fn54 : fnB Try.prog 54 = true := by kernel_rfl
theorem el37 : elB Try.prog 37 3 1 = true := by kernel_rfl
theorem fa39_10 : faB Try.prog 39 10 14 = true := by kernel_rfl
theorem ld94 : ldB Try.prog 94 4 true = true := by kernel_rfl
theorem z94 : zV Try.prog 94 = some [.str (⟨#[]⟩ : ByteArray), .str (⟨#[]⟩ : ByteArray), .bool false, .int .i64 (0 : Int)] := by kernel_rfl
theorem fn55 : fnB Try.prog 55 = true := by kernel_rfl
theorem fn37 : fnB Try.prog 37 = true := by kernel_rfl
theorem fn13 : fnB Try.prog 13 = true := by kernel_rfl
theorem fn12 : fnB Try.prog 12 = true := by kernel_rfl
theorem fn18 : fnB Try.prog 18 = true := by kernel_rfl
theorem fn15 : fnB Try.prog 15 = true := by kernel_rfl
theorem fn19 : fnB Try.prog 19 = true := by kernel_rfl
theorem fn5 : fnB Try.prog 5 = true := by kernel_rfl
theorem pl26 : plV Try.prog 26 = some (fun i => [(0, 1), (1, 1), (2, 1), (3, 1), (4, 1)].toArray[i]?, [.int .i64 (0 : Int), .int .i64 (0 : Int), .int .i64 (0 : Int), .int .i64 (0 : Int), .int .i64 (0 : Int)]) := by kernel_rfl
theorem pl30 : plV Try.prog 30 = some (fun i => [(0, 1), (1, 1), (2, 5), (7, 1), (8, 1), (9, 1)].toArray[i]?, [.str (⟨#[]⟩ : ByteArray), .str (⟨#[]⟩ : ByteArray), .int .i64 (0 : Int), .int .i64 (0 : Int), .int .i64 (0 : Int), .int .i64 (0 : Int), .int .i64 (0 : Int), .sl none 0 0, .sl none 0 0, .bool false]) := by kernel_rfl
theorem pl39 : plV Try.prog 39 = some (fun i => [(0, 1), (1, 5), (6, 1), (7, 1), (8, 1), (9, 1), (10, 1), (11, 1), (12, 1), (13, 1), (14, 1), (15, 1), (16, 1), (17, 1), (18, 1), (19, 1)].toArray[i]?, [.str (⟨#[]⟩ : ByteArray), .int .i64 (0 : Int), .int .i64 (0 : Int), .int .i64 (0 : Int), .int .i64 (0 : Int), .int .i64 (0 : Int), .sl none 0 0, .sl none 0 0, .sl none 0 0, .sl none 0 0, .sl none 0 0, .sl none 0 0, .bool false, .sl none 0 0, .int .i64 (0 : Int), .int .i64 (0 : Int), .str (⟨#[]⟩ : ByteArray), .bool false, .bool false, .bool false]) := by kernel_rfl
theorem z39 : zV Try.prog 39 = some [.str (⟨#[]⟩ : ByteArray), .int .i64 (0 : Int), .int .i64 (0 : Int), .int .i64 (0 : Int), .int .i64 (0 : Int), .int .i64 (0 : Int), .sl none 0 0, .sl none 0 0, .sl none 0 0, .sl none 0 0, .sl none 0 0, .sl none 0 0, .bool false, .sl none 0 0, .int .i64 (0 : Int), .int .i64 (0 : Int), .str (⟨#[]⟩ : ByteArray), .bool false, .bool false, .bool false] := by kernel_rfl
theorem pl68 : plV Try.prog 68 = some (fun i => [(0, 1), (1, 1), (2, 10), (12, 1), (13, 1)].toArray[i]?, [.sl none 0 0, .sl none 0 0, .str (⟨#[]⟩ : ByteArray), .str (⟨#[]⟩ : ByteArray), .int .i64 (0 : Int), .int .i64 (0 : Int), .int .i64 (0 : Int), .int .i64 (0 : Int), .int .i64 (0 : Int), .sl none 0 0, .sl none 0 0, .bool false, .sl none 0 0, .int .i64 (0 : Int)]) := by kernel_rfl
theorem ap37 : apB Try.prog 37 3 1 8 = true := by kernel_rfl
theorem pl115 : plV Try.prog 115 = some (fun i => some (i * 1, 1), [.int .i64 (0 : Int), .int .i64 (0 : Int), .int .i64 (0 : Int), .int .i64 (0 : Int), .int .i64 (0 : Int)]) := by kernel_rfl
theorem ld115 : ldB Try.prog 115 5 true = true := by kernel_rfl
theorem z115 : zV Try.prog 115 = some [.int .i64 (0 : Int), .int .i64 (0 : Int), .int .i64 (0 : Int), .int .i64 (0 : Int), .int .i64 (0 : Int)] := by kernel_rfl
theorem ar115 : arB Try.prog 115 3 5 1 = true := by kernel_rfl
theorem fn68 : fnB Try.prog 68 = true := by kernel_rfl
theorem fn56 : fnB Try.prog 56 = true := by kernel_rfl
theorem fn57 : fnB Try.prog 57 = true := by kernel_rfl
theorem fn39 : fnB Try.prog 39 = true := by kernel_rfl
theorem fn38 : fnB Try.prog 38 = true := by kernel_rfl
theorem fn64 : fnB Try.prog 64 = true := by kernel_rfl
theorem fn63 : fnB Try.prog 63 = true := by kernel_rfl
theorem pl103 : plV Try.prog 103 = some (fun i => [(0, 1), (1, 1), (2, 20)].toArray[i]?, [.sl none 0 0, .sl none 0 0, .str (⟨#[]⟩ : ByteArray), .int .i64 (0 : Int), .int .i64 (0 : Int), .int .i64 (0 : Int), .int .i64 (0 : Int), .int .i64 (0 : Int), .sl none 0 0, .sl none 0 0, .sl none 0 0, .sl none 0 0, .sl none 0 0, .sl none 0 0, .bool false, .sl none 0 0, .int .i64 (0 : Int), .int .i64 (0 : Int), .str (⟨#[]⟩ : ByteArray), .bool false, .bool false, .bool false]) := by kernel_rfl
theorem ld92 : ldB Try.prog 92 2 true = true := by kernel_rfl
theorem z92 : zV Try.prog 92 = some [.str (⟨#[]⟩ : ByteArray), .str (⟨#[]⟩ : ByteArray)] := by kernel_rfl
theorem fn109 : fnB Try.prog 109 = true := by kernel_rfl
theorem fn101 : fnB Try.prog 101 = true := by kernel_rfl
theorem fn110 : fnB Try.prog 110 = true := by kernel_rfl
theorem fn115 : fnB Try.prog 115 = true := by kernel_rfl
theorem fn116 : fnB Try.prog 116 = true := by kernel_rfl
theorem fn114 : fnB Try.prog 114 = true := by kernel_rfl
theorem fn111 : fnB Try.prog 111 = true := by kernel_rfl
theorem fn102 : fnB Try.prog 102 = true := by kernel_rfl
theorem z90 : zV Try.prog 90 = some [.str (⟨#[]⟩ : ByteArray), .int .i64 (0 : Int), .sl none 0 0] := by kernel_rfl
theorem ld96 : ldB Try.prog 96 3 true = true := by kernel_rfl
theorem fn108 : fnB Try.prog 108 = true := by kernel_rfl
theorem fn100 : fnB Try.prog 100 = true := by kernel_rfl
theorem fn99 : fnB Try.prog 99 = true := by kernel_rfl
theorem ap28 : apB Try.prog 28 96 3 40 = true := by kernel_rfl
theorem fn98 : fnB Try.prog 98 = true := by kernel_rfl
theorem z96 : zV Try.prog 96 = some [.str (⟨#[]⟩ : ByteArray), .str (⟨#[]⟩ : ByteArray), .int .i64 (0 : Int)] := by kernel_rfl
theorem fn97 : fnB Try.prog 97 = true := by kernel_rfl
theorem fn84 : fnB Try.prog 84 = true := by kernel_rfl
theorem fn88 : fnB Try.prog 88 = true := by kernel_rfl
theorem fn87 : fnB Try.prog 87 = true := by kernel_rfl
theorem fn86 : fnB Try.prog 86 = true := by kernel_rfl
theorem ld50 : ldB Try.prog 50 21 true = true := by kernel_rfl
theorem z50 : zV Try.prog 50 = some [.str (⟨#[]⟩ : ByteArray), .int .i64 (0 : Int), .int .i64 (0 : Int), .int .i64 (0 : Int), .int .i64 (0 : Int), .int .i64 (0 : Int), .sl none 0 0, .sl none 0 0, .sl none 0 0, .sl none 0 0, .sl none 0 0, .sl none 0 0, .bool false, .sl none 0 0, .int .i64 (0 : Int), .int .i64 (0 : Int), .str (⟨#[]⟩ : ByteArray), .bool false, .bool false, .bool false, .str (⟨#[]⟩ : ByteArray)] := by kernel_rfl
theorem ap24 : apB Try.prog 24 39 20 272 = true := by kernel_rfl
theorem fn72 : fnB Try.prog 72 = true := by kernel_rfl
theorem fn83 : fnB Try.prog 83 = true := by kernel_rfl
theorem z26 : zV Try.prog 26 = some [.int .i64 (0 : Int), .int .i64 (0 : Int), .int .i64 (0 : Int), .int .i64 (0 : Int), .int .i64 (0 : Int)] := by kernel_rfl
theorem fn96 : fnB Try.prog 96 = true := by kernel_rfl
theorem fn82 : fnB Try.prog 82 = true := by kernel_rfl
theorem fn73 : fnB Try.prog 73 = true := by kernel_rfl
theorem z24 : zV Try.prog 24 = some [.sl none 0 0] := by kernel_rfl
theorem fn71 : fnB Try.prog 71 = true := by kernel_rfl
theorem fn113 : fnB Try.prog 113 = true := by kernel_rfl
theorem fn112 : fnB Try.prog 112 = true := by kernel_rfl
theorem fn103 : fnB Try.prog 103 = true := by kernel_rfl
theorem fn104 : fnB Try.prog 104 = true := by kernel_rfl
theorem fn61 : fnB Try.prog 61 = true := by kernel_rfl
theorem fn90 : fnB Try.prog 90 = true := by kernel_rfl
theorem fn91 : fnB Try.prog 91 = true := by kernel_rfl
theorem fn92 : fnB Try.prog 92 = true := by kernel_rfl
theorem fn89 : fnB Try.prog 89 = true := by kernel_rfl
theorem fn79 : fnB Try.prog 79 = true := by kernel_rfl
theorem fn78 : fnB Try.prog 78 = true := by kernel_rfl
theorem fn69 : fnB Try.prog 69 = true := by kernel_rfl
theorem fn44 : fnB Try.prog 44 = true := by kernel_rfl
theorem mk9 : KeyOk Try.prog 9 VV.str Value.string TypeDesc.string := KeyOk.str Try.underlying9
theorem z30 : zV Try.prog 30 = some [.str (⟨#[]⟩ : ByteArray), .str (⟨#[]⟩ : ByteArray), .int .i64 (0 : Int), .int .i64 (0 : Int), .int .i64 (0 : Int), .int .i64 (0 : Int), .int .i64 (0 : Int), .sl none 0 0, .sl none 0 0, .bool false] := by kernel_rfl
theorem pl134 : plV Try.prog 134 = some (fun i => [(0, 1)].toArray[i]?, [.nilmap]) := by kernel_rfl
theorem ld134 : ldB Try.prog 134 1 true = true := by kernel_rfl
theorem zc9 : (Try.prog.info? 9).bind (·.zero) = some (.string ⟨#[]⟩) := by kernel_rfl
theorem fn105 : fnB Try.prog 105 = true := by kernel_rfl
theorem fn94 : fnB Try.prog 94 = true := by kernel_rfl
theorem z134 : zV Try.prog 134 = some [.nilmap] := by kernel_rfl
theorem fn93 : fnB Try.prog 93 = true := by kernel_rfl
theorem zc3 : (Try.prog.info? 3).bind (·.zero) = some (.int .i64 0) := by kernel_rfl
theorem ap66 : apB Try.prog 66 9 1 16 = true := by kernel_rfl
theorem fn107 : fnB Try.prog 107 = true := by kernel_rfl
theorem fn106 : fnB Try.prog 106 = true := by kernel_rfl
theorem fn95 : fnB Try.prog 95 = true := by kernel_rfl
theorem fn81 : fnB Try.prog 81 = true := by kernel_rfl
theorem fn80 : fnB Try.prog 80 = true := by kernel_rfl
theorem fn70 : fnB Try.prog 70 = true := by kernel_rfl
theorem fn58 : fnB Try.prog 58 = true := by kernel_rfl
theorem fn41 : fnB Try.prog 41 = true := by kernel_rfl
theorem el40 : elB Try.prog 40 5 1 = true := by kernel_rfl
theorem ap40 : apB Try.prog 40 5 1 1 = true := by kernel_rfl
theorem fn40 : fnB Try.prog 40 = true := by kernel_rfl
theorem ap27 : apB Try.prog 27 92 2 32 = true := by kernel_rfl
theorem fn24 : fnB Try.prog 24 = true := by kernel_rfl
theorem ap22 : apB Try.prog 22 30 10 128 = true := by kernel_rfl
theorem fn26 : fnB Try.prog 26 = true := by kernel_rfl
theorem pl53 : plV Try.prog 53 = some (fun i => [(0, 1), (1, 1)].toArray[i]?, [.str (⟨#[]⟩ : ByteArray), .str (⟨#[]⟩ : ByteArray)]) := by kernel_rfl
theorem el41 : elB Try.prog 41 53 2 = true := by kernel_rfl
theorem ap41 : apB Try.prog 41 53 2 32 = true := by kernel_rfl
theorem fn25 : fnB Try.prog 25 = true := by kernel_rfl
theorem fn23 : fnB Try.prog 23 = true := by kernel_rfl
theorem ld53 : ldB Try.prog 53 2 true = true := by kernel_rfl
def shp53 : Shp := .st (.cons 0 1 false .str (.cons 1 1 false .str .nil))
theorem eq53 : (shB Try.prog shp53 53 && noif Try.prog 53 && Nat.ble shp53.ht 9998) = true := by kernel_rfl
theorem fn21 : fnB Try.prog 21 = true := by kernel_rfl
theorem fn22 : fnB Try.prog 22 = true := by kernel_rfl
theorem fd30_0 : fdB Try.prog 30 0 0 1 false = true := by kernel_rfl
theorem fn7 : fnB Try.prog 7 = true := by kernel_rfl
theorem fn20 : fnB Try.prog 20 = true := by kernel_rfl
theorem fn6 : fnB Try.prog 6 = true := by kernel_rfl
theorem fn28 : fnB Try.prog 28 = true := by kernel_rfl
theorem fn29 : fnB Try.prog 29 = true := by kernel_rfl
theorem fn60 : fnB Try.prog 60 = true := by kernel_rfl
theorem fn59 : fnB Try.prog 59 = true := by kernel_rfl
theorem z66 : zV Try.prog 66 = some [.sl none 0 0] := by kernel_rfl
theorem fn74 : fnB Try.prog 74 = true := by kernel_rfl
theorem pl84 : plV Try.prog 84 = some (fun i => [(0, 1), (1, 1)].toArray[i]?, [.int .i64 (0 : Int), .int .i64 (0 : Int)]) := by kernel_rfl
theorem ld84 : ldB Try.prog 84 2 true = true := by kernel_rfl
theorem fn62 : fnB Try.prog 62 = true := by kernel_rfl
theorem z84 : zV Try.prog 84 = some [.int .i64 (0 : Int), .int .i64 (0 : Int)] := by kernel_rfl
theorem fn43 : fnB Try.prog 43 = true := by kernel_rfl
theorem fn45 : fnB Try.prog 45 = true := by kernel_rfl
theorem fn42 : fnB Try.prog 42 = true := by kernel_rfl
theorem fn27 : fnB Try.prog 27 = true := by kernel_rfl
theorem fn11 : fnB Try.prog 11 = true := by kernel_rfl
theorem fn10 : fnB Try.prog 10 = true := by kernel_rfl
theorem fn9 : fnB Try.prog 9 = true := by kernel_rfl
theorem fn8 : fnB Try.prog 8 = true := by kernel_rfl
theorem fa53_0 : faB Try.prog 53 0 0 = true := by kernel_rfl
theorem fa53_1 : faB Try.prog 53 1 1 = true := by kernel_rfl
theorem fn14 : fnB Try.prog 14 = true := by kernel_rfl
def tb : Tb := ⟨[(26, 0, 0), (26, 1, 1), (26, 2, 2), (26, 3, 3), (26, 4, 4), (30, 0, 0), (30, 1, 1), (30, 2, 2), (30, 3, 7), (30, 4, 8), (30, 5, 9), (32, 0, 0), (32, 1, 1), (32, 2, 2), (32, 3, 3), (32, 4, 13), (39, 0, 0), (39, 1, 1), (39, 2, 6), (39, 3, 7), (39, 4, 8), (39, 5, 9), (39, 6, 10), (39, 7, 11), (39, 8, 12), (39, 9, 13), (39, 10, 14), (39, 11, 15), (39, 12, 16), (50, 0, 0), (50, 1, 20), (53, 0, 0), (53, 1, 1), (68, 0, 0), (68, 1, 1), (68, 2, 2), (68, 3, 12), (68, 4, 13), (84, 0, 0), (84, 1, 1), (90, 0, 0), (90, 1, 1), (90, 2, 2), (92, 0, 0), (92, 1, 1), (94, 0, 0), (94, 1, 1), (94, 2, 2), (94, 3, 3), (96, 0, 0), (96, 1, 1), (96, 2, 2), (103, 0, 0), (103, 1, 1), (103, 2, 2), (134, 0, 0)], [(3, 1, false), (4, 1, false), (9, 1, false), (22, 1, false), (23, 1, false), (24, 1, false), (26, 5, true), (27, 1, false), (28, 1, false), (30, 10, true), (35, 1, false), (36, 1, false), (37, 1, false), (39, 20, true), (50, 21, true), (53, 2, true), (66, 1, false), (84, 2, true), (90, 3, true), (92, 2, true), (94, 4, true), (96, 3, true), (115, 5, true), (131, 1, false), (134, 1, true)]⟩
theorem tbk : tb.ok Try.prog = true := by kernel_rfl
theorem Aa : type_of% @VR.ru := @VR.ru
theorem Ab : type_of% @VR.p := @VR.p
theorem Ac : type_of% @VR.cons := @VR.cons
theorem Ad : type_of% @VR.nil := @VR.nil
theorem Ae : type_of% @VW.seq := @VW.seq
theorem Af : type_of% @VW.sr := @VW.sr
theorem Ag : type_of% @Shift.pk := @Shift.pk
theorem Ah : type_of% @VW.rr := @VW.rr
theorem Ai : type_of% @VP.assign := @VP.assign
theorem Aj : type_of% @VP.move := @VP.move
theorem Ak : type_of% @VW.skip := @VW.skip
theorem Al : type_of% @VO.storeP := @VO.storeP
theorem Am : type_of% @VO.cl := @VO.cl
theorem An : type_of% @VW.if_ := @VW.if_
theorem Ao : type_of% @VA.one := @VA.one
theorem Aq : type_of% @VB.o := @VB.o
theorem Au : type_of% @VO.alloc := @VO.alloc
theorem Av : type_of% @Try.underlying9 := @Try.underlying9
theorem Aw : type_of% @Shift.freezeE := @Shift.freezeE
theorem Ax : type_of% @VP.lenT := @VP.lenT
theorem Ay : type_of% @VW.block := @VW.block
theorem Az : type_of% @VA.ru := @VA.ru
theorem A0 : type_of% @VS.run := @VS.run
theorem A1 : type_of% @VA.done := @VA.done
theorem A2 : type_of% @VR.consG := @VR.consG
theorem A3 : type_of% @VW.exit := @VW.exit
theorem A4 : type_of% @Shift.trans := @Shift.trans
theorem A5 : type_of% @VP.glE := @VP.glE
theorem A6 : type_of% @Shift.nilRow := @Shift.nilRow
theorem A7 : type_of% @VW.r1 := @VW.r1
theorem A8 : type_of% @VA.p := @VA.p
theorem A9 : type_of% @VP.arith := @VP.arith
theorem Ba : type_of% @VO.box := @VO.box
theorem Bb : type_of% @VO.buildSlice := @VO.buildSlice
theorem Bc : type_of% @VR.sm := @VR.sm
theorem Be : type_of% @VP.buildP := @VP.buildP
theorem Bf : type_of% @VR.pG := @VR.pG
theorem Bg : type_of% @Shift.pick := @Shift.pick
theorem Bh : type_of% @VR.shift := @VR.shift
theorem Bi : type_of% @VW.drawK := @VW.drawK
theorem Bk : type_of% @VP.pickB := @VP.pickB
theorem Bl : type_of% @VP.loadE := @VP.loadE
theorem Bm : type_of% @Try.underlying37 := @Try.underlying37
theorem Bn : type_of% @Try.underlying23 := @Try.underlying23
theorem Bo : type_of% @VW.jo' := @VW.jo'
theorem Bp : type_of% @Try.underlying66 := @Try.underlying66
theorem Bq : type_of% @Try.underlying5 := @Try.underlying5
theorem Br : type_of% @VW.bf := @VW.bf
theorem Bt : type_of% @VW.region := @VW.region
theorem Bu : type_of% @Try.underlying22 := @Try.underlying22
theorem Bv : type_of% @VA.all := @VA.all
theorem Bw : type_of% @VR.gand := @VR.gand
theorem Bx : type_of% @Try.underlying3 := @Try.underlying3
theorem Bz : type_of% @VW.condT := @VW.condT
theorem B0 : type_of% @Try.underlying27 := @Try.underlying27
theorem B1 : type_of% @VP.lenS := @VP.lenS
theorem B2 : type_of% @VW.condF := @VW.condF
theorem B3 : type_of% @VW.shift := @VW.shift
theorem B4 : type_of% @Shift.mem := @Shift.mem
theorem B5 : type_of% @VW.lenM := @VW.lenM
theorem B6 : type_of% @VO.apT := @VO.apT
theorem B7 : type_of% @Try.underlying41 := @Try.underlying41
theorem B8 : type_of% @VP.glK := @VP.glK
theorem B9 : type_of% @VW.js' := @VW.js'
theorem Ca : type_of% @Shift.reSl := @Shift.reSl
theorem Cb : type_of% @Try.underlying28 := @Try.underlying28
theorem Cc : type_of% @VP.indexA := @VP.indexA
theorem Cd : type_of% @VW.be := @VW.be
theorem Ce : type_of% @Try.underlying24 := @Try.underlying24
theorem Cf : type_of% @VP.convI := @VP.convI
theorem Cg : type_of% @Try.underlying148 := @Try.underlying148
theorem Ch : type_of% @VA.pG := @VA.pG
theorem Ci : type_of% @VP.gi := @VP.gi
theorem Cj : type_of% @VS2.run := @VS2.run
theorem Ck : type_of% @VO.cl2 := @VO.cl2
theorem Cl : type_of% @VP.lenRT := @VP.lenRT
theorem Cm : type_of% @Try.underlying131 := @Try.underlying131
theorem Cn : type_of% @Try.underlying36 := @Try.underlying36
theorem Co : type_of% @Try.underlying35 := @Try.underlying35
theorem Cp : type_of% @VP.makeFunc := @VP.makeFunc
theorem Cq : type_of% @VR.gor := @VR.gor
theorem Cr : type_of% @VP.lookup := @VP.lookup
theorem Cs : type_of% @VR.so := @VR.so
theorem Ct : type_of% @VP.not := @VP.not
theorem Cu : type_of% @VR.someRow := @VR.someRow
theorem Cv : type_of% @VW.js := @VW.js
theorem Cw : type_of% @VP.loadR := @VP.loadR
theorem Cx : type_of% @VA.shift := @VA.shift
theorem Cy : type_of% @VR.sa := @VR.sa
theorem Cz : type_of% @VA.sm := @VA.sm
theorem C0 : type_of% @VP.glR := @VP.glR
theorem C1 : type_of% @VP.fieldP := @VP.fieldP
theorem C2 : type_of% @VP.loadA := @VP.loadA
theorem C3 : type_of% @VP.slT := @VP.slT
theorem C4 : type_of% @VO.mapUpdate := @VO.mapUpdate
theorem C5 : type_of% @VP.convBL := @VP.convBL
theorem C6 : type_of% @VP.fieldR := @VP.fieldR
theorem C7 : type_of% @VP.catT := @VP.catT
theorem C8 : type_of% @VO.makeMap := @VO.makeMap
theorem C9 : type_of% @Try.func82 := @Try.func82
end Go.Proofs.Ytbkdglcedgiogaa.M

/-
  Printed by a program of this session out of the loaded functions: models and their proofs. Own text.
-/
import Derived.Test.YtbkdglcedgiogaaGreatVArr
import Derived.Test.YtbkdglcedgiogaaGreatProg
import Derived.KernelRfl
namespace Go.Proofs.YtbkdglcedgiogaaGreat.M
open Go Go.Proofs Go.Proofs.YtbkdglcedgiogaaGreat.V
set_option linter.unusedVariables false
set_option maxRecDepth 20000
set_option maxHeartbeats 4000000
structure T_api_Res where
  Cpu : Int
  Mem : Int
  Disk : Int
  Pods : Int
  Dev : Int
  deriving DecidableEq
def T_api_Res.cells (x : T_api_Res) : List VV := [.int .i64 x.Cpu, .int .i64 x.Mem, .int .i64 x.Disk, .int .i64 x.Pods, .int .i64 x.Dev]
def T_api_Res.vv (x : T_api_Res) : VV := .agg x.cells

structure T_api_Label where
  Key : ByteArray
  Val : ByteArray
  deriving DecidableEq
def T_api_Label.cells (x : T_api_Label) : List VV := [.str x.Key, .str x.Val]
def T_api_Label.vv (x : T_api_Label) : VV := .agg x.cells

structure T_api_Taint where
  Key : ByteArray
  Val : ByteArray
  Effect : Int
  deriving DecidableEq
def T_api_Taint.cells (x : T_api_Taint) : List VV := [.str x.Key, .str x.Val, .int .i64 x.Effect]
def T_api_Taint.vv (x : T_api_Taint) : VV := .agg x.cells

structure T_api_Machine where
  Name : ByteArray
  Group : ByteArray
  Has : T_api_Res
  Labels : List T_api_Label
  Taints : List T_api_Taint
  Ready : Bool
  deriving DecidableEq
def T_api_Machine.cells (x : T_api_Machine) : List VV := [.str x.Name, .str x.Group, .int .i64 x.Has.Cpu, .int .i64 x.Has.Mem, .int .i64 x.Has.Disk, .int .i64 x.Has.Pods, .int .i64 x.Has.Dev, .list 124 (List.map T_api_Label.vv x.Labels), .list 126 (List.map T_api_Taint.vv x.Taints), .bool x.Ready]
def T_api_Machine.vv (x : T_api_Machine) : VV := .agg x.cells

structure T_api_Term where
  Key : ByteArray
  Op : Int
  Vals : List ByteArray
  deriving DecidableEq
def T_api_Term.cells (x : T_api_Term) : List VV := [.str x.Key, .int .i64 x.Op, .list 9 (List.map VV.str x.Vals)]
def T_api_Term.vv (x : T_api_Term) : VV := .agg x.cells

structure T_api_Toleration where
  Key : ByteArray
  Val : ByteArray
  Any : Bool
  Effect : Int
  deriving DecidableEq
def T_api_Toleration.cells (x : T_api_Toleration) : List VV := [.str x.Key, .str x.Val, .bool x.Any, .int .i64 x.Effect]
def T_api_Toleration.vv (x : T_api_Toleration) : VV := .agg x.cells

structure T_api_Pod where
  Name : ByteArray
  Need : T_api_Res
  Labels : List T_api_Label
  Select : List T_api_Label
  Terms : List T_api_Term
  Bears : List T_api_Toleration
  Ports : List Int
  Apart : List T_api_Label
  Wide : Bool
  Spread : List T_api_Label
  Skew : Int
  Rank : Int
  Owner : ByteArray
  Daemon : Bool
  Pinned : Bool
  Local : Bool
  deriving DecidableEq
def T_api_Pod.cells (x : T_api_Pod) : List VV := [.str x.Name, .int .i64 x.Need.Cpu, .int .i64 x.Need.Mem, .int .i64 x.Need.Disk, .int .i64 x.Need.Pods, .int .i64 x.Need.Dev, .list 124 (List.map T_api_Label.vv x.Labels), .list 124 (List.map T_api_Label.vv x.Select), .list 103 (List.map T_api_Term.vv x.Terms), .list 128 (List.map T_api_Toleration.vv x.Bears), .list 3 (List.map (VV.int .i64) x.Ports), .list 124 (List.map T_api_Label.vv x.Apart), .bool x.Wide, .list 124 (List.map T_api_Label.vv x.Spread), .int .i64 x.Skew, .int .i64 x.Rank, .str x.Owner, .bool x.Daemon, .bool x.Pinned, .bool x.Local]
def T_api_Pod.vv (x : T_api_Pod) : VV := .agg x.cells

structure T_api_Bound where
  Pod : T_api_Pod
  On : ByteArray
  deriving DecidableEq
def T_api_Bound.cells (x : T_api_Bound) : List VV := [.str x.Pod.Name, .int .i64 x.Pod.Need.Cpu, .int .i64 x.Pod.Need.Mem, .int .i64 x.Pod.Need.Disk, .int .i64 x.Pod.Need.Pods, .int .i64 x.Pod.Need.Dev, .list 124 (List.map T_api_Label.vv x.Pod.Labels), .list 124 (List.map T_api_Label.vv x.Pod.Select), .list 103 (List.map T_api_Term.vv x.Pod.Terms), .list 128 (List.map T_api_Toleration.vv x.Pod.Bears), .list 3 (List.map (VV.int .i64) x.Pod.Ports), .list 124 (List.map T_api_Label.vv x.Pod.Apart), .bool x.Pod.Wide, .list 124 (List.map T_api_Label.vv x.Pod.Spread), .int .i64 x.Pod.Skew, .int .i64 x.Pod.Rank, .str x.Pod.Owner, .bool x.Pod.Daemon, .bool x.Pod.Pinned, .bool x.Pod.Local, .str x.On]
def T_api_Bound.vv (x : T_api_Bound) : VV := .agg x.cells

structure T_api_Move where
  Pod : ByteArray
  To : ByteArray
  deriving DecidableEq
def T_api_Move.cells (x : T_api_Move) : List VV := [.str x.Pod, .str x.To]
def T_api_Move.vv (x : T_api_Move) : VV := .agg x.cells

structure T_fit_asker where
  ms : List T_api_Machine
  bs : List T_api_Bound
  p : T_api_Pod
  deriving DecidableEq
def T_fit_asker.cells (x : T_fit_asker) : List VV := [.list 30 (List.map T_api_Machine.vv x.ms), .list 50 (List.map T_api_Bound.vv x.bs), .str x.p.Name, .int .i64 x.p.Need.Cpu, .int .i64 x.p.Need.Mem, .int .i64 x.p.Need.Disk, .int .i64 x.p.Need.Pods, .int .i64 x.p.Need.Dev, .list 124 (List.map T_api_Label.vv x.p.Labels), .list 124 (List.map T_api_Label.vv x.p.Select), .list 103 (List.map T_api_Term.vv x.p.Terms), .list 128 (List.map T_api_Toleration.vv x.p.Bears), .list 3 (List.map (VV.int .i64) x.p.Ports), .list 124 (List.map T_api_Label.vv x.p.Apart), .bool x.p.Wide, .list 124 (List.map T_api_Label.vv x.p.Spread), .int .i64 x.p.Skew, .int .i64 x.p.Rank, .str x.p.Owner, .bool x.p.Daemon, .bool x.p.Pinned, .bool x.p.Local]
def T_fit_asker.vv (x : T_fit_asker) : VV := .agg x.cells

structure Arr5_Int where
  x0 : Int
  x1 : Int
  x2 : Int
  x3 : Int
  x4 : Int
  deriving DecidableEq
def Arr5_Int.cells (x : Arr5_Int) : List VV := [.int .i64 x.x0, .int .i64 x.x1, .int .i64 x.x2, .int .i64 x.x3, .int .i64 x.x4]
def Arr5_Int.vv (x : Arr5_Int) : VV := .agg x.cells
def Arr5_Int.l (x : Arr5_Int) : List Int := [x.x0, x.x1, x.x2, x.x3, x.x4]
def Arr5_Int.put (x : Arr5_Int) (n : Int) (v : Int) : Option Arr5_Int :=
  if n = 0 then some ⟨v, x.x1, x.x2, x.x3, x.x4⟩ else
  if n = 1 then some ⟨x.x0, v, x.x2, x.x3, x.x4⟩ else
  if n = 2 then some ⟨x.x0, x.x1, v, x.x3, x.x4⟩ else
  if n = 3 then some ⟨x.x0, x.x1, x.x2, v, x.x4⟩ else
  if n = 4 then some ⟨x.x0, x.x1, x.x2, x.x3, v⟩ else
  none
theorem Arr5_Int.put_some {x y : Arr5_Int} {n : Int} {v : Int} (h : Arr5_Int.put x n v = some y) : (0 ≤ n ∧ n < ((Arr5_Int.l x).length : Int)) ∧ y.cells = ((Arr5_Int.l x).set n.toNat v).map (VV.int .i64) := by
  unfold Arr5_Int.put at h
  split at h
  · rename_i hn; subst hn; cases h; exact ⟨⟨by decide, by show (0 : Int) < 5; decide⟩, rfl⟩
  split at h
  · rename_i hn; subst hn; cases h; exact ⟨⟨by decide, by show (1 : Int) < 5; decide⟩, rfl⟩
  split at h
  · rename_i hn; subst hn; cases h; exact ⟨⟨by decide, by show (2 : Int) < 5; decide⟩, rfl⟩
  split at h
  · rename_i hn; subst hn; cases h; exact ⟨⟨by decide, by show (3 : Int) < 5; decide⟩, rfl⟩
  split at h
  · rename_i hn; subst hn; cases h; exact ⟨⟨by decide, by show (4 : Int) < 5; decide⟩, rfl⟩
  cases h

structure T_apart_place where
  zones : List (ByteArray × ByteArray)

structure T_sched_score where
  prefers : Int
  share : Int
  deriving DecidableEq
def T_sched_score.cells (x : T_sched_score) : List VV := [.int .i64 x.prefers, .int .i64 x.share]
def T_sched_score.vv (x : T_sched_score) : VV := .agg x.cells

theorem el22 : elB Tryz.prog 22 30 10 = true := by kernel_rfl
theorem ld30 : ldB Tryz.prog 30 10 true = true := by kernel_rfl
theorem fa30_0 : faB Tryz.prog 30 0 0 = true := by kernel_rfl
theorem ld9 : ldB Tryz.prog 9 1 false = true := by kernel_rfl
theorem fa30_1 : faB Tryz.prog 30 1 1 = true := by kernel_rfl
theorem fa30_3 : faB Tryz.prog 30 3 7 = true := by kernel_rfl
theorem ld27 : ldB Tryz.prog 27 1 false = true := by kernel_rfl
theorem el27 : elB Tryz.prog 27 124 2 = true := by kernel_rfl
theorem fa124_0 : faB Tryz.prog 124 0 0 = true := by kernel_rfl
theorem fa124_1 : faB Tryz.prog 124 1 1 = true := by kernel_rfl
theorem fn66 : fnB Tryz.prog 66 = true := by kernel_rfl
theorem fa30_4 : faB Tryz.prog 30 4 8 = true := by kernel_rfl
theorem ld28 : ldB Tryz.prog 28 1 false = true := by kernel_rfl
theorem el46 : elB Tryz.prog 46 128 4 = true := by kernel_rfl
theorem fa128_0 : faB Tryz.prog 128 0 0 = true := by kernel_rfl
theorem fa128_1 : faB Tryz.prog 128 1 1 = true := by kernel_rfl
theorem el28 : elB Tryz.prog 28 126 3 = true := by kernel_rfl
theorem fa126_0 : faB Tryz.prog 126 0 0 = true := by kernel_rfl
theorem fa126_1 : faB Tryz.prog 126 1 1 = true := by kernel_rfl
theorem fn67 : fnB Tryz.prog 67 = true := by kernel_rfl
theorem fn46 : fnB Tryz.prog 46 = true := by kernel_rfl
theorem el23 : elB Tryz.prog 23 50 21 = true := by kernel_rfl
theorem fa50_0 : faB Tryz.prog 50 0 0 = true := by kernel_rfl
theorem ld48 : ldB Tryz.prog 48 20 true = true := by kernel_rfl
theorem fa48_0 : faB Tryz.prog 48 0 0 = true := by kernel_rfl
theorem fa48_12 : faB Tryz.prog 48 12 16 = true := by kernel_rfl
theorem fa48_4 : faB Tryz.prog 48 4 8 = true := by kernel_rfl
theorem ld45 : ldB Tryz.prog 45 1 false = true := by kernel_rfl
theorem fa48_6 : faB Tryz.prog 48 6 10 = true := by kernel_rfl
theorem ld41 : ldB Tryz.prog 41 1 false = true := by kernel_rfl
theorem fa48_2 : faB Tryz.prog 48 2 6 = true := by kernel_rfl
theorem fa48_3 : faB Tryz.prog 48 3 7 = true := by kernel_rfl
theorem fa48_7 : faB Tryz.prog 48 7 11 = true := by kernel_rfl
theorem fa48_9 : faB Tryz.prog 48 9 13 = true := by kernel_rfl
theorem fa48_5 : faB Tryz.prog 48 5 9 = true := by kernel_rfl
theorem ld46 : ldB Tryz.prog 46 1 false = true := by kernel_rfl
theorem el45 : elB Tryz.prog 45 103 3 = true := by kernel_rfl
theorem ld103 : ldB Tryz.prog 103 3 true = true := by kernel_rfl
theorem fa103_2 : faB Tryz.prog 103 2 2 = true := by kernel_rfl
theorem ld51 : ldB Tryz.prog 51 1 false = true := by kernel_rfl
theorem fa103_0 : faB Tryz.prog 103 0 0 = true := by kernel_rfl
theorem el51 : elB Tryz.prog 51 9 1 = true := by kernel_rfl
theorem fn68 : fnB Tryz.prog 68 = true := by kernel_rfl
theorem fa50_1 : faB Tryz.prog 50 1 20 = true := by kernel_rfl
theorem fn31 : fnB Tryz.prog 31 = true := by kernel_rfl
theorem fn134 : fnB Tryz.prog 134 = true := by kernel_rfl
theorem mixed : Tryz.prog.follows .mixedOrders = true := by kernel_rfl
theorem fn101 : fnB Tryz.prog 101 = true := by kernel_rfl
theorem fn100 : fnB Tryz.prog 100 = true := by kernel_rfl
theorem fn69 : fnB Tryz.prog 69 = true := by kernel_rfl
theorem fn71 : fnB Tryz.prog 71 = true := by kernel_rfl
theorem fa30_2 : faB Tryz.prog 30 2 2 = true := by kernel_rfl
theorem ld26 : ldB Tryz.prog 26 5 true = true := by kernel_rfl
theorem fa26_0 : faB Tryz.prog 26 0 0 = true := by kernel_rfl
theorem ld3 : ldB Tryz.prog 3 1 false = true := by kernel_rfl
theorem fa26_1 : faB Tryz.prog 26 1 1 = true := by kernel_rfl
theorem fn102 : fnB Tryz.prog 102 = true := by kernel_rfl
theorem fa26_2 : faB Tryz.prog 26 2 2 = true := by kernel_rfl
theorem fa26_3 : faB Tryz.prog 26 3 3 = true := by kernel_rfl
theorem fa26_4 : faB Tryz.prog 26 4 4 = true := by kernel_rfl
theorem fn70 : fnB Tryz.prog 70 = true := by kernel_rfl
theorem fn103 : fnB Tryz.prog 103 = true := by kernel_rfl
theorem fn105 : fnB Tryz.prog 105 = true := by kernel_rfl
theorem fn74 : fnB Tryz.prog 74 = true := by kernel_rfl
theorem fn106 : fnB Tryz.prog 106 = true := by kernel_rfl
theorem fa126_2 : faB Tryz.prog 126 2 2 = true := by kernel_rfl
theorem fn107 : fnB Tryz.prog 107 = true := by kernel_rfl
theorem fn91 : fnB Tryz.prog 91 = true := by kernel_rfl
theorem fn47 : fnB Tryz.prog 47 = true := by kernel_rfl
theorem fa48_1 : faB Tryz.prog 48 1 1 = true := by kernel_rfl
theorem fa48_11 : faB Tryz.prog 48 11 15 = true := by kernel_rfl
theorem fn72 : fnB Tryz.prog 72 = true := by kernel_rfl
theorem fa103_1 : faB Tryz.prog 103 1 1 = true := by kernel_rfl
theorem fn155 : fnB Tryz.prog 155 = true := by kernel_rfl
theorem fn135 : fnB Tryz.prog 135 = true := by kernel_rfl
theorem fn136 : fnB Tryz.prog 136 = true := by kernel_rfl
theorem fn104 : fnB Tryz.prog 104 = true := by kernel_rfl
theorem fn73 : fnB Tryz.prog 73 = true := by kernel_rfl
theorem el41 : elB Tryz.prog 41 3 1 = true := by kernel_rfl
theorem fa48_8 : faB Tryz.prog 48 8 12 = true := by kernel_rfl
theorem ld4 : ldB Tryz.prog 4 1 false = true := by kernel_rfl
theorem fa48_10 : faB Tryz.prog 48 10 14 = true := by kernel_rfl
theorem ld128 : ldB Tryz.prog 128 4 true = true := by kernel_rfl
theorem fa128_3 : faB Tryz.prog 128 3 3 = true := by kernel_rfl
theorem fa128_2 : faB Tryz.prog 128 2 2 = true := by kernel_rfl
theorem z128 : zV Tryz.prog 128 = some [.str (⟨#[]⟩ : ByteArray), .str (⟨#[]⟩ : ByteArray), .bool false, .int .i64 (0 : Int)] := by kernel_rfl
theorem fn75 : fnB Tryz.prog 75 = true := by kernel_rfl
theorem fn32 : fnB Tryz.prog 32 = true := by kernel_rfl
theorem fn80 : fnB Tryz.prog 80 = true := by kernel_rfl
theorem fn84 : fnB Tryz.prog 84 = true := by kernel_rfl
theorem fn37 : fnB Tryz.prog 37 = true := by kernel_rfl
theorem fn50 : fnB Tryz.prog 50 = true := by kernel_rfl
theorem pl26 : plV Tryz.prog 26 = some (fun i => [(0, 1), (1, 1), (2, 1), (3, 1), (4, 1)].toArray[i]?, [.int .i64 (0 : Int), .int .i64 (0 : Int), .int .i64 (0 : Int), .int .i64 (0 : Int), .int .i64 (0 : Int)]) := by kernel_rfl
theorem pl30 : plV Tryz.prog 30 = some (fun i => [(0, 1), (1, 1), (2, 5), (7, 1), (8, 1), (9, 1)].toArray[i]?, [.str (⟨#[]⟩ : ByteArray), .str (⟨#[]⟩ : ByteArray), .int .i64 (0 : Int), .int .i64 (0 : Int), .int .i64 (0 : Int), .int .i64 (0 : Int), .int .i64 (0 : Int), .sl none 0 0, .sl none 0 0, .bool false]) := by kernel_rfl
theorem pl48 : plV Tryz.prog 48 = some (fun i => [(0, 1), (1, 5), (6, 1), (7, 1), (8, 1), (9, 1), (10, 1), (11, 1), (12, 1), (13, 1), (14, 1), (15, 1), (16, 1), (17, 1), (18, 1), (19, 1)].toArray[i]?, [.str (⟨#[]⟩ : ByteArray), .int .i64 (0 : Int), .int .i64 (0 : Int), .int .i64 (0 : Int), .int .i64 (0 : Int), .int .i64 (0 : Int), .sl none 0 0, .sl none 0 0, .sl none 0 0, .sl none 0 0, .sl none 0 0, .sl none 0 0, .bool false, .sl none 0 0, .int .i64 (0 : Int), .int .i64 (0 : Int), .str (⟨#[]⟩ : ByteArray), .bool false, .bool false, .bool false]) := by kernel_rfl
theorem pl50 : plV Tryz.prog 50 = some (fun i => [(0, 20), (20, 1)].toArray[i]?, [.str (⟨#[]⟩ : ByteArray), .int .i64 (0 : Int), .int .i64 (0 : Int), .int .i64 (0 : Int), .int .i64 (0 : Int), .int .i64 (0 : Int), .sl none 0 0, .sl none 0 0, .sl none 0 0, .sl none 0 0, .sl none 0 0, .sl none 0 0, .bool false, .sl none 0 0, .int .i64 (0 : Int), .int .i64 (0 : Int), .str (⟨#[]⟩ : ByteArray), .bool false, .bool false, .bool false, .str (⟨#[]⟩ : ByteArray)]) := by kernel_rfl
theorem ld23 : ldB Tryz.prog 23 1 false = true := by kernel_rfl
theorem ld50 : ldB Tryz.prog 50 21 true = true := by kernel_rfl
theorem ap41 : apB Tryz.prog 41 3 1 8 = true := by kernel_rfl
theorem z50 : zV Tryz.prog 50 = some [.str (⟨#[]⟩ : ByteArray), .int .i64 (0 : Int), .int .i64 (0 : Int), .int .i64 (0 : Int), .int .i64 (0 : Int), .int .i64 (0 : Int), .sl none 0 0, .sl none 0 0, .sl none 0 0, .sl none 0 0, .sl none 0 0, .sl none 0 0, .bool false, .sl none 0 0, .int .i64 (0 : Int), .int .i64 (0 : Int), .str (⟨#[]⟩ : ByteArray), .bool false, .bool false, .bool false, .str (⟨#[]⟩ : ByteArray)] := by kernel_rfl
theorem fn63 : fnB Tryz.prog 63 = true := by kernel_rfl
theorem fn64 : fnB Tryz.prog 64 = true := by kernel_rfl
theorem pl138 : plV Tryz.prog 138 = some (fun i => [(0, 1), (1, 1), (2, 20)].toArray[i]?, [.sl none 0 0, .sl none 0 0, .str (⟨#[]⟩ : ByteArray), .int .i64 (0 : Int), .int .i64 (0 : Int), .int .i64 (0 : Int), .int .i64 (0 : Int), .int .i64 (0 : Int), .sl none 0 0, .sl none 0 0, .sl none 0 0, .sl none 0 0, .sl none 0 0, .sl none 0 0, .bool false, .sl none 0 0, .int .i64 (0 : Int), .int .i64 (0 : Int), .str (⟨#[]⟩ : ByteArray), .bool false, .bool false, .bool false]) := by kernel_rfl
theorem fa138_1 : faB Tryz.prog 138 1 1 = true := by kernel_rfl
theorem fa138_2 : faB Tryz.prog 138 2 2 = true := by kernel_rfl
theorem fa30_5 : faB Tryz.prog 30 5 9 = true := by kernel_rfl
theorem ld124 : ldB Tryz.prog 124 2 true = true := by kernel_rfl
theorem z124 : zV Tryz.prog 124 = some [.str (⟨#[]⟩ : ByteArray), .str (⟨#[]⟩ : ByteArray)] := by kernel_rfl
theorem fn193 : fnB Tryz.prog 193 = true := by kernel_rfl
theorem fn185 : fnB Tryz.prog 185 = true := by kernel_rfl
theorem fn194 : fnB Tryz.prog 194 = true := by kernel_rfl
theorem fn199 : fnB Tryz.prog 199 = true := by kernel_rfl
theorem fn200 : fnB Tryz.prog 200 = true := by kernel_rfl
theorem fn198 : fnB Tryz.prog 198 = true := by kernel_rfl
theorem fn195 : fnB Tryz.prog 195 = true := by kernel_rfl
theorem fn186 : fnB Tryz.prog 186 = true := by kernel_rfl
theorem z103 : zV Tryz.prog 103 = some [.str (⟨#[]⟩ : ByteArray), .int .i64 (0 : Int), .sl none 0 0] := by kernel_rfl
theorem ld126 : ldB Tryz.prog 126 3 true = true := by kernel_rfl
theorem fn192 : fnB Tryz.prog 192 = true := by kernel_rfl
theorem fn183 : fnB Tryz.prog 183 = true := by kernel_rfl
theorem fn182 : fnB Tryz.prog 182 = true := by kernel_rfl
theorem ap28 : apB Tryz.prog 28 126 3 40 = true := by kernel_rfl
theorem fn181 : fnB Tryz.prog 181 = true := by kernel_rfl
theorem z126 : zV Tryz.prog 126 = some [.str (⟨#[]⟩ : ByteArray), .str (⟨#[]⟩ : ByteArray), .int .i64 (0 : Int)] := by kernel_rfl
theorem fn180 : fnB Tryz.prog 180 = true := by kernel_rfl
theorem fn162 : fnB Tryz.prog 162 = true := by kernel_rfl
theorem fn171 : fnB Tryz.prog 171 = true := by kernel_rfl
theorem fn170 : fnB Tryz.prog 170 = true := by kernel_rfl
theorem fn169 : fnB Tryz.prog 169 = true := by kernel_rfl
theorem ap23 : apB Tryz.prog 23 50 21 288 = true := by kernel_rfl
theorem el24 : elB Tryz.prog 24 48 20 = true := by kernel_rfl
theorem ap24 : apB Tryz.prog 24 48 20 272 = true := by kernel_rfl
theorem ld24 : ldB Tryz.prog 24 1 false = true := by kernel_rfl
theorem pl152 : plV Tryz.prog 152 = some (fun i => some (i * 1, 1), [.int .i64 (0 : Int), .int .i64 (0 : Int), .int .i64 (0 : Int), .int .i64 (0 : Int), .int .i64 (0 : Int)]) := by kernel_rfl
theorem ld152 : ldB Tryz.prog 152 5 true = true := by kernel_rfl
theorem z152 : zV Tryz.prog 152 = some [.int .i64 (0 : Int), .int .i64 (0 : Int), .int .i64 (0 : Int), .int .i64 (0 : Int), .int .i64 (0 : Int)] := by kernel_rfl
theorem ar152 : arB Tryz.prog 152 3 5 1 = true := by kernel_rfl
theorem fn125 : fnB Tryz.prog 125 = true := by kernel_rfl
theorem fn96 : fnB Tryz.prog 96 = true := by kernel_rfl
theorem fn140 : fnB Tryz.prog 140 = true := by kernel_rfl
theorem fn113 : fnB Tryz.prog 113 = true := by kernel_rfl
theorem fn161 : fnB Tryz.prog 161 = true := by kernel_rfl
theorem z26 : zV Tryz.prog 26 = some [.int .i64 (0 : Int), .int .i64 (0 : Int), .int .i64 (0 : Int), .int .i64 (0 : Int), .int .i64 (0 : Int)] := by kernel_rfl
theorem fn179 : fnB Tryz.prog 179 = true := by kernel_rfl
theorem fn160 : fnB Tryz.prog 160 = true := by kernel_rfl
theorem fn141 : fnB Tryz.prog 141 = true := by kernel_rfl
theorem z48 : zV Tryz.prog 48 = some [.str (⟨#[]⟩ : ByteArray), .int .i64 (0 : Int), .int .i64 (0 : Int), .int .i64 (0 : Int), .int .i64 (0 : Int), .int .i64 (0 : Int), .sl none 0 0, .sl none 0 0, .sl none 0 0, .sl none 0 0, .sl none 0 0, .sl none 0 0, .bool false, .sl none 0 0, .int .i64 (0 : Int), .int .i64 (0 : Int), .str (⟨#[]⟩ : ByteArray), .bool false, .bool false, .bool false] := by kernel_rfl
theorem z24 : zV Tryz.prog 24 = some [.sl none 0 0] := by kernel_rfl
theorem fn139 : fnB Tryz.prog 139 = true := by kernel_rfl
theorem fn197 : fnB Tryz.prog 197 = true := by kernel_rfl
theorem fn196 : fnB Tryz.prog 196 = true := by kernel_rfl
theorem fn187 : fnB Tryz.prog 187 = true := by kernel_rfl
theorem fn188 : fnB Tryz.prog 188 = true := by kernel_rfl
theorem fn111 : fnB Tryz.prog 111 = true := by kernel_rfl
theorem fn173 : fnB Tryz.prog 173 = true := by kernel_rfl
theorem fn174 : fnB Tryz.prog 174 = true := by kernel_rfl
theorem fn175 : fnB Tryz.prog 175 = true := by kernel_rfl
theorem fn172 : fnB Tryz.prog 172 = true := by kernel_rfl
theorem fn157 : fnB Tryz.prog 157 = true := by kernel_rfl
theorem fn156 : fnB Tryz.prog 156 = true := by kernel_rfl
theorem fn137 : fnB Tryz.prog 137 = true := by kernel_rfl
theorem fa138_0 : faB Tryz.prog 138 0 0 = true := by kernel_rfl
theorem ld22 : ldB Tryz.prog 22 1 false = true := by kernel_rfl
theorem fn114 : fnB Tryz.prog 114 = true := by kernel_rfl
theorem fn78 : fnB Tryz.prog 78 = true := by kernel_rfl
theorem mk9 : KeyOk Tryz.prog 9 VV.str Value.string TypeDesc.string := KeyOk.str Tryz.underlying9
theorem z30 : zV Tryz.prog 30 = some [.str (⟨#[]⟩ : ByteArray), .str (⟨#[]⟩ : ByteArray), .int .i64 (0 : Int), .int .i64 (0 : Int), .int .i64 (0 : Int), .int .i64 (0 : Int), .int .i64 (0 : Int), .sl none 0 0, .sl none 0 0, .bool false] := by kernel_rfl
theorem pl185 : plV Tryz.prog 185 = some (fun i => [(0, 1)].toArray[i]?, [.nilmap]) := by kernel_rfl
theorem ld185 : ldB Tryz.prog 185 1 true = true := by kernel_rfl
theorem fa185_0 : faB Tryz.prog 185 0 0 = true := by kernel_rfl
theorem ld182 : ldB Tryz.prog 182 1 false = true := by kernel_rfl
theorem zc9 : (Tryz.prog.info? 9).bind (·.zero) = some (.string ⟨#[]⟩) := by kernel_rfl
theorem fn189 : fnB Tryz.prog 189 = true := by kernel_rfl
theorem fn177 : fnB Tryz.prog 177 = true := by kernel_rfl
theorem z185 : zV Tryz.prog 185 = some [.nilmap] := by kernel_rfl
theorem fn176 : fnB Tryz.prog 176 = true := by kernel_rfl
theorem zc3 : (Tryz.prog.info? 3).bind (·.zero) = some (.int .i64 0) := by kernel_rfl
theorem ap51 : apB Tryz.prog 51 9 1 16 = true := by kernel_rfl
theorem fn191 : fnB Tryz.prog 191 = true := by kernel_rfl
theorem fn190 : fnB Tryz.prog 190 = true := by kernel_rfl
theorem fn178 : fnB Tryz.prog 178 = true := by kernel_rfl
theorem fn159 : fnB Tryz.prog 159 = true := by kernel_rfl
theorem fn158 : fnB Tryz.prog 158 = true := by kernel_rfl
theorem fn138 : fnB Tryz.prog 138 = true := by kernel_rfl
theorem fn110 : fnB Tryz.prog 110 = true := by kernel_rfl
theorem fn109 : fnB Tryz.prog 109 = true := by kernel_rfl
theorem fn108 : fnB Tryz.prog 108 = true := by kernel_rfl
theorem z51 : zV Tryz.prog 51 = some [.sl none 0 0] := by kernel_rfl
theorem fn142 : fnB Tryz.prog 142 = true := by kernel_rfl
theorem fn97 : fnB Tryz.prog 97 = true := by kernel_rfl
theorem pl108 : plV Tryz.prog 108 = some (fun i => [(0, 1), (1, 1)].toArray[i]?, [.int .i64 (0 : Int), .int .i64 (0 : Int)]) := by kernel_rfl
theorem ld108 : ldB Tryz.prog 108 2 true = true := by kernel_rfl
theorem fn57 : fnB Tryz.prog 57 = true := by kernel_rfl
theorem fn112 : fnB Tryz.prog 112 = true := by kernel_rfl
theorem z108 : zV Tryz.prog 108 = some [.int .i64 (0 : Int), .int .i64 (0 : Int)] := by kernel_rfl
theorem fn77 : fnB Tryz.prog 77 = true := by kernel_rfl
theorem fa108_0 : faB Tryz.prog 108 0 0 = true := by kernel_rfl
theorem fa108_1 : faB Tryz.prog 108 1 1 = true := by kernel_rfl
theorem fn79 : fnB Tryz.prog 79 = true := by kernel_rfl
theorem fn76 : fnB Tryz.prog 76 = true := by kernel_rfl
theorem pl53 : plV Tryz.prog 53 = some (fun i => [(0, 1), (1, 1)].toArray[i]?, [.str (⟨#[]⟩ : ByteArray), .str (⟨#[]⟩ : ByteArray)]) := by kernel_rfl
theorem el35 : elB Tryz.prog 35 53 2 = true := by kernel_rfl
theorem ap35 : apB Tryz.prog 35 53 2 32 = true := by kernel_rfl
theorem fn33 : fnB Tryz.prog 33 = true := by kernel_rfl
theorem fn28 : fnB Tryz.prog 28 = true := by kernel_rfl
theorem ld53 : ldB Tryz.prog 53 2 true = true := by kernel_rfl
def shp53 : Shp := .st (.cons 0 1 false .str (.cons 1 1 false .str .nil))
theorem eq53 : (shB Tryz.prog shp53 53 && noif Tryz.prog 53 && Nat.ble shp53.ht 9998) = true := by kernel_rfl
theorem fn16 : fnB Tryz.prog 16 = true := by kernel_rfl
theorem fn17 : fnB Tryz.prog 17 = true := by kernel_rfl
theorem fn26 : fnB Tryz.prog 26 = true := by kernel_rfl
theorem ap22 : apB Tryz.prog 22 30 10 128 = true := by kernel_rfl
theorem fn25 : fnB Tryz.prog 25 = true := by kernel_rfl
theorem fn24 : fnB Tryz.prog 24 = true := by kernel_rfl
theorem fn163 : fnB Tryz.prog 163 = true := by kernel_rfl
theorem fn143 : fnB Tryz.prog 143 = true := by kernel_rfl
theorem fn164 : fnB Tryz.prog 164 = true := by kernel_rfl
theorem fn144 : fnB Tryz.prog 144 = true := by kernel_rfl
theorem fn184 : fnB Tryz.prog 184 = true := by kernel_rfl
theorem fn166 : fnB Tryz.prog 166 = true := by kernel_rfl
theorem fn165 : fnB Tryz.prog 165 = true := by kernel_rfl
theorem fn145 : fnB Tryz.prog 145 = true := by kernel_rfl
theorem fn153 : fnB Tryz.prog 153 = true := by kernel_rfl
theorem fn148 : fnB Tryz.prog 148 = true := by kernel_rfl
theorem fn120 : fnB Tryz.prog 120 = true := by kernel_rfl
theorem fn146 : fnB Tryz.prog 146 = true := by kernel_rfl
theorem fn147 : fnB Tryz.prog 147 = true := by kernel_rfl
theorem fn62 : fnB Tryz.prog 62 = true := by kernel_rfl
theorem fn116 : fnB Tryz.prog 116 = true := by kernel_rfl
theorem fn115 : fnB Tryz.prog 115 = true := by kernel_rfl
theorem fn81 : fnB Tryz.prog 81 = true := by kernel_rfl
theorem fn150 : fnB Tryz.prog 150 = true := by kernel_rfl
theorem fn149 : fnB Tryz.prog 149 = true := by kernel_rfl
theorem fn117 : fnB Tryz.prog 117 = true := by kernel_rfl
theorem fn167 : fnB Tryz.prog 167 = true := by kernel_rfl
theorem fn151 : fnB Tryz.prog 151 = true := by kernel_rfl
theorem fn118 : fnB Tryz.prog 118 = true := by kernel_rfl
theorem fn82 : fnB Tryz.prog 82 = true := by kernel_rfl
theorem fn34 : fnB Tryz.prog 34 = true := by kernel_rfl
theorem fn152 : fnB Tryz.prog 152 = true := by kernel_rfl
theorem fn98 : fnB Tryz.prog 98 = true := by kernel_rfl
theorem fn58 : fnB Tryz.prog 58 = true := by kernel_rfl
theorem fn119 : fnB Tryz.prog 119 = true := by kernel_rfl
theorem fn83 : fnB Tryz.prog 83 = true := by kernel_rfl
theorem fn36 : fnB Tryz.prog 36 = true := by kernel_rfl
theorem fn35 : fnB Tryz.prog 35 = true := by kernel_rfl
theorem fn23 : fnB Tryz.prog 23 = true := by kernel_rfl
end Go.Proofs.YtbkdglcedgiogaaGreat.M

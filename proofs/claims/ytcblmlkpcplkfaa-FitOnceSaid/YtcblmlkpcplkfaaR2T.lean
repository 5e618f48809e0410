/-
  Printed by a program of this session out of the loaded functions: models and their proofs. Own text.
-/
import Derived.Test.YtcblmlkpcplkfaaVArr
import Derived.Test.YtcblmlkpcplkfaaProg
import Derived.KernelRfl
namespace Go.Proofs.Ytcblmlkpcplkfaa.M
open Go Go.Proofs Go.Proofs.Ytcblmlkpcplkfaa.V
set_option linter.unusedVariables false
set_option maxRecDepth 20000
set_option maxHeartbeats 4000000
structure T_api_Res where
  Cpu : Int
  Mem : Int
  Disk : Int
  Pods : Int
  Dev : Int
  deriving DecidableEq
def T_api_Res.cells (x : T_api_Res) : List VV := [.int .i64 x.Cpu, .int .i64 x.Mem, .int .i64 x.Disk, .int .i64 x.Pods, .int .i64 x.Dev]
def T_api_Res.vv (x : T_api_Res) : VV := .agg x.cells

structure T_api_Label where
  Key : ByteArray
  Val : ByteArray
  deriving DecidableEq
def T_api_Label.cells (x : T_api_Label) : List VV := [.str x.Key, .str x.Val]
def T_api_Label.vv (x : T_api_Label) : VV := .agg x.cells

structure T_api_Taint where
  Key : ByteArray
  Val : ByteArray
  Effect : Int
  deriving DecidableEq
def T_api_Taint.cells (x : T_api_Taint) : List VV := [.str x.Key, .str x.Val, .int .i64 x.Effect]
def T_api_Taint.vv (x : T_api_Taint) : VV := .agg x.cells

structure T_api_Machine where
  Name : ByteArray
  Group : ByteArray
  Has : T_api_Res
  Labels : List T_api_Label
  Taints : List T_api_Taint
  Ready : Bool
  deriving DecidableEq
def T_api_Machine.cells (x : T_api_Machine) : List VV := [.str x.Name, .str x.Group, .int .i64 x.Has.Cpu, .int .i64 x.Has.Mem, .int .i64 x.Has.Disk, .int .i64 x.Has.Pods, .int .i64 x.Has.Dev, .list 79 (List.map T_api_Label.vv x.Labels), .list 97 (List.map T_api_Taint.vv x.Taints), .bool x.Ready]
def T_api_Machine.vv (x : T_api_Machine) : VV := .agg x.cells

structure T_api_Term where
  Key : ByteArray
  Op : Int
  Vals : List ByteArray
  deriving DecidableEq
def T_api_Term.cells (x : T_api_Term) : List VV := [.str x.Key, .int .i64 x.Op, .list 9 (List.map VV.str x.Vals)]
def T_api_Term.vv (x : T_api_Term) : VV := .agg x.cells

structure T_api_Toleration where
  Key : ByteArray
  Val : ByteArray
  Any : Bool
  Effect : Int
  deriving DecidableEq
def T_api_Toleration.cells (x : T_api_Toleration) : List VV := [.str x.Key, .str x.Val, .bool x.Any, .int .i64 x.Effect]
def T_api_Toleration.vv (x : T_api_Toleration) : VV := .agg x.cells

structure T_api_Pod where
  Name : ByteArray
  Need : T_api_Res
  Labels : List T_api_Label
  Select : List T_api_Label
  Terms : List T_api_Term
  Bears : List T_api_Toleration
  Ports : List Int
  Apart : List T_api_Label
  Wide : Bool
  Spread : List T_api_Label
  Skew : Int
  Rank : Int
  Owner : ByteArray
  Daemon : Bool
  Pinned : Bool
  Local : Bool
  deriving DecidableEq
def T_api_Pod.cells (x : T_api_Pod) : List VV := [.str x.Name, .int .i64 x.Need.Cpu, .int .i64 x.Need.Mem, .int .i64 x.Need.Disk, .int .i64 x.Need.Pods, .int .i64 x.Need.Dev, .list 79 (List.map T_api_Label.vv x.Labels), .list 79 (List.map T_api_Label.vv x.Select), .list 74 (List.map T_api_Term.vv x.Terms), .list 55 (List.map T_api_Toleration.vv x.Bears), .list 3 (List.map (VV.int .i64) x.Ports), .list 79 (List.map T_api_Label.vv x.Apart), .bool x.Wide, .list 79 (List.map T_api_Label.vv x.Spread), .int .i64 x.Skew, .int .i64 x.Rank, .str x.Owner, .bool x.Daemon, .bool x.Pinned, .bool x.Local]
def T_api_Pod.vv (x : T_api_Pod) : VV := .agg x.cells

structure T_api_Bound where
  Pod : T_api_Pod
  On : ByteArray
  deriving DecidableEq
def T_api_Bound.cells (x : T_api_Bound) : List VV := [.str x.Pod.Name, .int .i64 x.Pod.Need.Cpu, .int .i64 x.Pod.Need.Mem, .int .i64 x.Pod.Need.Disk, .int .i64 x.Pod.Need.Pods, .int .i64 x.Pod.Need.Dev, .list 79 (List.map T_api_Label.vv x.Pod.Labels), .list 79 (List.map T_api_Label.vv x.Pod.Select), .list 74 (List.map T_api_Term.vv x.Pod.Terms), .list 55 (List.map T_api_Toleration.vv x.Pod.Bears), .list 3 (List.map (VV.int .i64) x.Pod.Ports), .list 79 (List.map T_api_Label.vv x.Pod.Apart), .bool x.Pod.Wide, .list 79 (List.map T_api_Label.vv x.Pod.Spread), .int .i64 x.Pod.Skew, .int .i64 x.Pod.Rank, .str x.Pod.Owner, .bool x.Pod.Daemon, .bool x.Pod.Pinned, .bool x.Pod.Local, .str x.On]
def T_api_Bound.vv (x : T_api_Bound) : VV := .agg x.cells

structure Arr9_Int where
  x0 : Int
  x1 : Int
  x2 : Int
  x3 : Int
  x4 : Int
  x5 : Int
  x6 : Int
  x7 : Int
  x8 : Int
  deriving DecidableEq
def Arr9_Int.cells (x : Arr9_Int) : List VV := [.int .i64 x.x0, .int .i64 x.x1, .int .i64 x.x2, .int .i64 x.x3, .int .i64 x.x4, .int .i64 x.x5, .int .i64 x.x6, .int .i64 x.x7, .int .i64 x.x8]
def Arr9_Int.vv (x : Arr9_Int) : VV := .agg x.cells
def Arr9_Int.l (x : Arr9_Int) : List Int := [x.x0, x.x1, x.x2, x.x3, x.x4, x.x5, x.x6, x.x7, x.x8]
def Arr9_Int.put (x : Arr9_Int) (n : Int) (v : Int) : Option Arr9_Int :=
  if n = 0 then some ⟨v, x.x1, x.x2, x.x3, x.x4, x.x5, x.x6, x.x7, x.x8⟩ else
  if n = 1 then some ⟨x.x0, v, x.x2, x.x3, x.x4, x.x5, x.x6, x.x7, x.x8⟩ else
  if n = 2 then some ⟨x.x0, x.x1, v, x.x3, x.x4, x.x5, x.x6, x.x7, x.x8⟩ else
  if n = 3 then some ⟨x.x0, x.x1, x.x2, v, x.x4, x.x5, x.x6, x.x7, x.x8⟩ else
  if n = 4 then some ⟨x.x0, x.x1, x.x2, x.x3, v, x.x5, x.x6, x.x7, x.x8⟩ else
  if n = 5 then some ⟨x.x0, x.x1, x.x2, x.x3, x.x4, v, x.x6, x.x7, x.x8⟩ else
  if n = 6 then some ⟨x.x0, x.x1, x.x2, x.x3, x.x4, x.x5, v, x.x7, x.x8⟩ else
  if n = 7 then some ⟨x.x0, x.x1, x.x2, x.x3, x.x4, x.x5, x.x6, v, x.x8⟩ else
  if n = 8 then some ⟨x.x0, x.x1, x.x2, x.x3, x.x4, x.x5, x.x6, x.x7, v⟩ else
  none
theorem Arr9_Int.put_some {x y : Arr9_Int} {n : Int} {v : Int} (h : Arr9_Int.put x n v = some y) : (0 ≤ n ∧ n < ((Arr9_Int.l x).length : Int)) ∧ y.cells = ((Arr9_Int.l x).set n.toNat v).map (VV.int .i64) := by
  unfold Arr9_Int.put at h
  split at h
  · rename_i hn; subst hn; cases h; exact ⟨⟨by decide, by show (0 : Int) < 9; decide⟩, rfl⟩
  split at h
  · rename_i hn; subst hn; cases h; exact ⟨⟨by decide, by show (1 : Int) < 9; decide⟩, rfl⟩
  split at h
  · rename_i hn; subst hn; cases h; exact ⟨⟨by decide, by show (2 : Int) < 9; decide⟩, rfl⟩
  split at h
  · rename_i hn; subst hn; cases h; exact ⟨⟨by decide, by show (3 : Int) < 9; decide⟩, rfl⟩
  split at h
  · rename_i hn; subst hn; cases h; exact ⟨⟨by decide, by show (4 : Int) < 9; decide⟩, rfl⟩
  split at h
  · rename_i hn; subst hn; cases h; exact ⟨⟨by decide, by show (5 : Int) < 9; decide⟩, rfl⟩
  split at h
  · rename_i hn; subst hn; cases h; exact ⟨⟨by decide, by show (6 : Int) < 9; decide⟩, rfl⟩
  split at h
  · rename_i hn; subst hn; cases h; exact ⟨⟨by decide, by show (7 : Int) < 9; decide⟩, rfl⟩
  split at h
  · rename_i hn; subst hn; cases h; exact ⟨⟨by decide, by show (8 : Int) < 9; decide⟩, rfl⟩
  cases h

structure T_fit_asker where
  ms : List T_api_Machine
  bs : List T_api_Bound
  p : T_api_Pod
  deriving DecidableEq
def T_fit_asker.cells (x : T_fit_asker) : List VV := [.list 27 (List.map T_api_Machine.vv x.ms), .list 49 (List.map T_api_Bound.vv x.bs), .str x.p.Name, .int .i64 x.p.Need.Cpu, .int .i64 x.p.Need.Mem, .int .i64 x.p.Need.Disk, .int .i64 x.p.Need.Pods, .int .i64 x.p.Need.Dev, .list 79 (List.map T_api_Label.vv x.p.Labels), .list 79 (List.map T_api_Label.vv x.p.Select), .list 74 (List.map T_api_Term.vv x.p.Terms), .list 55 (List.map T_api_Toleration.vv x.p.Bears), .list 3 (List.map (VV.int .i64) x.p.Ports), .list 79 (List.map T_api_Label.vv x.p.Apart), .bool x.p.Wide, .list 79 (List.map T_api_Label.vv x.p.Spread), .int .i64 x.p.Skew, .int .i64 x.p.Rank, .str x.p.Owner, .bool x.p.Daemon, .bool x.p.Pinned, .bool x.p.Local]
def T_fit_asker.vv (x : T_fit_asker) : VV := .agg x.cells

structure Arr5_Int where
  x0 : Int
  x1 : Int
  x2 : Int
  x3 : Int
  x4 : Int
  deriving DecidableEq
def Arr5_Int.cells (x : Arr5_Int) : List VV := [.int .i64 x.x0, .int .i64 x.x1, .int .i64 x.x2, .int .i64 x.x3, .int .i64 x.x4]
def Arr5_Int.vv (x : Arr5_Int) : VV := .agg x.cells
def Arr5_Int.l (x : Arr5_Int) : List Int := [x.x0, x.x1, x.x2, x.x3, x.x4]
def Arr5_Int.put (x : Arr5_Int) (n : Int) (v : Int) : Option Arr5_Int :=
  if n = 0 then some ⟨v, x.x1, x.x2, x.x3, x.x4⟩ else
  if n = 1 then some ⟨x.x0, v, x.x2, x.x3, x.x4⟩ else
  if n = 2 then some ⟨x.x0, x.x1, v, x.x3, x.x4⟩ else
  if n = 3 then some ⟨x.x0, x.x1, x.x2, v, x.x4⟩ else
  if n = 4 then some ⟨x.x0, x.x1, x.x2, x.x3, v⟩ else
  none
theorem Arr5_Int.put_some {x y : Arr5_Int} {n : Int} {v : Int} (h : Arr5_Int.put x n v = some y) : (0 ≤ n ∧ n < ((Arr5_Int.l x).length : Int)) ∧ y.cells = ((Arr5_Int.l x).set n.toNat v).map (VV.int .i64) := by
  unfold Arr5_Int.put at h
  split at h
  · rename_i hn; subst hn; cases h; exact ⟨⟨by decide, by show (0 : Int) < 5; decide⟩, rfl⟩
  split at h
  · rename_i hn; subst hn; cases h; exact ⟨⟨by decide, by show (1 : Int) < 5; decide⟩, rfl⟩
  split at h
  · rename_i hn; subst hn; cases h; exact ⟨⟨by decide, by show (2 : Int) < 5; decide⟩, rfl⟩
  split at h
  · rename_i hn; subst hn; cases h; exact ⟨⟨by decide, by show (3 : Int) < 5; decide⟩, rfl⟩
  split at h
  · rename_i hn; subst hn; cases h; exact ⟨⟨by decide, by show (4 : Int) < 5; decide⟩, rfl⟩
  cases h

structure T_apart_place where
  zones : List (ByteArray × ByteArray)

theorem ld33 : ldB Try.prog 33 20 true = true := by kernel_rfl
theorem el37 : elB Try.prog 37 27 10 = true := by kernel_rfl
theorem ld27 : ldB Try.prog 27 10 true = true := by kernel_rfl
theorem fa27_0 : faB Try.prog 27 0 0 = true := by kernel_rfl
theorem ld9 : ldB Try.prog 9 1 false = true := by kernel_rfl
theorem fa27_1 : faB Try.prog 27 1 1 = true := by kernel_rfl
theorem fa27_3 : faB Try.prog 27 3 7 = true := by kernel_rfl
theorem ld24 : ldB Try.prog 24 1 false = true := by kernel_rfl
theorem el24 : elB Try.prog 24 79 2 = true := by kernel_rfl
theorem fa79_0 : faB Try.prog 79 0 0 = true := by kernel_rfl
theorem fa79_1 : faB Try.prog 79 1 1 = true := by kernel_rfl
theorem fn42 : fnB Try.prog 42 = true := by kernel_rfl
theorem fa27_4 : faB Try.prog 27 4 8 = true := by kernel_rfl
theorem ld25 : ldB Try.prog 25 1 false = true := by kernel_rfl
theorem el30 : elB Try.prog 30 55 4 = true := by kernel_rfl
theorem fa55_0 : faB Try.prog 55 0 0 = true := by kernel_rfl
theorem fa55_1 : faB Try.prog 55 1 1 = true := by kernel_rfl
theorem el25 : elB Try.prog 25 97 3 = true := by kernel_rfl
theorem fa97_0 : faB Try.prog 97 0 0 = true := by kernel_rfl
theorem fa97_1 : faB Try.prog 97 1 1 = true := by kernel_rfl
theorem fn43 : fnB Try.prog 43 = true := by kernel_rfl
theorem fn41 : fnB Try.prog 41 = true := by kernel_rfl
theorem el28 : elB Try.prog 28 49 21 = true := by kernel_rfl
theorem fa49_0 : faB Try.prog 49 0 0 = true := by kernel_rfl
theorem fa33_0 : faB Try.prog 33 0 0 = true := by kernel_rfl
theorem fa33_12 : faB Try.prog 33 12 16 = true := by kernel_rfl
theorem fa33_4 : faB Try.prog 33 4 8 = true := by kernel_rfl
theorem ld29 : ldB Try.prog 29 1 false = true := by kernel_rfl
theorem fa33_6 : faB Try.prog 33 6 10 = true := by kernel_rfl
theorem ld31 : ldB Try.prog 31 1 false = true := by kernel_rfl
theorem fa33_2 : faB Try.prog 33 2 6 = true := by kernel_rfl
theorem fa33_3 : faB Try.prog 33 3 7 = true := by kernel_rfl
theorem fa33_7 : faB Try.prog 33 7 11 = true := by kernel_rfl
theorem fa33_9 : faB Try.prog 33 9 13 = true := by kernel_rfl
theorem fa33_5 : faB Try.prog 33 5 9 = true := by kernel_rfl
theorem ld30 : ldB Try.prog 30 1 false = true := by kernel_rfl
theorem el29 : elB Try.prog 29 74 3 = true := by kernel_rfl
theorem ld74 : ldB Try.prog 74 3 true = true := by kernel_rfl
theorem fa74_2 : faB Try.prog 74 2 2 = true := by kernel_rfl
theorem ld65 : ldB Try.prog 65 1 false = true := by kernel_rfl
theorem fa74_0 : faB Try.prog 74 0 0 = true := by kernel_rfl
theorem el65 : elB Try.prog 65 9 1 = true := by kernel_rfl
theorem fn44 : fnB Try.prog 44 = true := by kernel_rfl
theorem fa49_1 : faB Try.prog 49 1 20 = true := by kernel_rfl
theorem fn13 : fnB Try.prog 13 = true := by kernel_rfl
theorem fn108 : fnB Try.prog 108 = true := by kernel_rfl
theorem mixed : Try.prog.follows .mixedOrders = true := by kernel_rfl
theorem fn84 : fnB Try.prog 84 = true := by kernel_rfl
theorem fn83 : fnB Try.prog 83 = true := by kernel_rfl
theorem fn47 : fnB Try.prog 47 = true := by kernel_rfl
theorem fn48 : fnB Try.prog 48 = true := by kernel_rfl
theorem fa27_2 : faB Try.prog 27 2 2 = true := by kernel_rfl
theorem ld23 : ldB Try.prog 23 5 true = true := by kernel_rfl
theorem fa23_0 : faB Try.prog 23 0 0 = true := by kernel_rfl
theorem ld3 : ldB Try.prog 3 1 false = true := by kernel_rfl
theorem fa23_1 : faB Try.prog 23 1 1 = true := by kernel_rfl
theorem fn53 : fnB Try.prog 53 = true := by kernel_rfl
theorem fa23_2 : faB Try.prog 23 2 2 = true := by kernel_rfl
theorem fa23_3 : faB Try.prog 23 3 3 = true := by kernel_rfl
theorem fa23_4 : faB Try.prog 23 4 4 = true := by kernel_rfl
theorem fn18 : fnB Try.prog 18 = true := by kernel_rfl
theorem fn85 : fnB Try.prog 85 = true := by kernel_rfl
theorem fn87 : fnB Try.prog 87 = true := by kernel_rfl
theorem fn51 : fnB Try.prog 51 = true := by kernel_rfl
theorem fn88 : fnB Try.prog 88 = true := by kernel_rfl
theorem fa97_2 : faB Try.prog 97 2 2 = true := by kernel_rfl
theorem fn89 : fnB Try.prog 89 = true := by kernel_rfl
theorem fn82 : fnB Try.prog 82 = true := by kernel_rfl
theorem fn45 : fnB Try.prog 45 = true := by kernel_rfl
theorem fa33_1 : faB Try.prog 33 1 1 = true := by kernel_rfl
theorem fa33_11 : faB Try.prog 33 11 15 = true := by kernel_rfl
theorem fn49 : fnB Try.prog 49 = true := by kernel_rfl
theorem fa74_1 : faB Try.prog 74 1 1 = true := by kernel_rfl
theorem fn128 : fnB Try.prog 128 = true := by kernel_rfl
theorem fn109 : fnB Try.prog 109 = true := by kernel_rfl
theorem fn110 : fnB Try.prog 110 = true := by kernel_rfl
theorem fn86 : fnB Try.prog 86 = true := by kernel_rfl
theorem fn50 : fnB Try.prog 50 = true := by kernel_rfl
theorem el31 : elB Try.prog 31 3 1 = true := by kernel_rfl
theorem fa33_8 : faB Try.prog 33 8 12 = true := by kernel_rfl
theorem ld4 : ldB Try.prog 4 1 false = true := by kernel_rfl
theorem fa33_10 : faB Try.prog 33 10 14 = true := by kernel_rfl
theorem ld55 : ldB Try.prog 55 4 true = true := by kernel_rfl
theorem fa55_3 : faB Try.prog 55 3 3 = true := by kernel_rfl
theorem fa55_2 : faB Try.prog 55 2 2 = true := by kernel_rfl
theorem z55 : zV Try.prog 55 = some [.str (⟨#[]⟩ : ByteArray), .str (⟨#[]⟩ : ByteArray), .bool false, .int .i64 (0 : Int)] := by kernel_rfl
theorem fn52 : fnB Try.prog 52 = true := by kernel_rfl
theorem fn15 : fnB Try.prog 15 = true := by kernel_rfl
theorem fn46 : fnB Try.prog 46 = true := by kernel_rfl
theorem fn20 : fnB Try.prog 20 = true := by kernel_rfl
theorem fn14 : fnB Try.prog 14 = true := by kernel_rfl
theorem fn12 : fnB Try.prog 12 = true := by kernel_rfl
theorem pl23 : plV Try.prog 23 = some (fun i => [(0, 1), (1, 1), (2, 1), (3, 1), (4, 1)].toArray[i]?, [.int .i64 (0 : Int), .int .i64 (0 : Int), .int .i64 (0 : Int), .int .i64 (0 : Int), .int .i64 (0 : Int)]) := by kernel_rfl
theorem pl27 : plV Try.prog 27 = some (fun i => [(0, 1), (1, 1), (2, 5), (7, 1), (8, 1), (9, 1)].toArray[i]?, [.str (⟨#[]⟩ : ByteArray), .str (⟨#[]⟩ : ByteArray), .int .i64 (0 : Int), .int .i64 (0 : Int), .int .i64 (0 : Int), .int .i64 (0 : Int), .int .i64 (0 : Int), .sl none 0 0, .sl none 0 0, .bool false]) := by kernel_rfl
theorem pl33 : plV Try.prog 33 = some (fun i => [(0, 1), (1, 5), (6, 1), (7, 1), (8, 1), (9, 1), (10, 1), (11, 1), (12, 1), (13, 1), (14, 1), (15, 1), (16, 1), (17, 1), (18, 1), (19, 1)].toArray[i]?, [.str (⟨#[]⟩ : ByteArray), .int .i64 (0 : Int), .int .i64 (0 : Int), .int .i64 (0 : Int), .int .i64 (0 : Int), .int .i64 (0 : Int), .sl none 0 0, .sl none 0 0, .sl none 0 0, .sl none 0 0, .sl none 0 0, .sl none 0 0, .bool false, .sl none 0 0, .int .i64 (0 : Int), .int .i64 (0 : Int), .str (⟨#[]⟩ : ByteArray), .bool false, .bool false, .bool false]) := by kernel_rfl
theorem ld49 : ldB Try.prog 49 21 true = true := by kernel_rfl
theorem ap28 : apB Try.prog 28 49 21 288 = true := by kernel_rfl
theorem z49 : zV Try.prog 49 = some [.str (⟨#[]⟩ : ByteArray), .int .i64 (0 : Int), .int .i64 (0 : Int), .int .i64 (0 : Int), .int .i64 (0 : Int), .int .i64 (0 : Int), .sl none 0 0, .sl none 0 0, .sl none 0 0, .sl none 0 0, .sl none 0 0, .sl none 0 0, .bool false, .sl none 0 0, .int .i64 (0 : Int), .int .i64 (0 : Int), .str (⟨#[]⟩ : ByteArray), .bool false, .bool false, .bool false, .str (⟨#[]⟩ : ByteArray)] := by kernel_rfl
theorem pl49 : plV Try.prog 49 = some (fun i => [(0, 20), (20, 1)].toArray[i]?, [.str (⟨#[]⟩ : ByteArray), .int .i64 (0 : Int), .int .i64 (0 : Int), .int .i64 (0 : Int), .int .i64 (0 : Int), .int .i64 (0 : Int), .sl none 0 0, .sl none 0 0, .sl none 0 0, .sl none 0 0, .sl none 0 0, .sl none 0 0, .bool false, .sl none 0 0, .int .i64 (0 : Int), .int .i64 (0 : Int), .str (⟨#[]⟩ : ByteArray), .bool false, .bool false, .bool false, .str (⟨#[]⟩ : ByteArray)]) := by kernel_rfl
theorem pl94 : plV Try.prog 94 = some (fun i => [(0, 1), (1, 1), (2, 20)].toArray[i]?, [.sl none 0 0, .sl none 0 0, .str (⟨#[]⟩ : ByteArray), .int .i64 (0 : Int), .int .i64 (0 : Int), .int .i64 (0 : Int), .int .i64 (0 : Int), .int .i64 (0 : Int), .sl none 0 0, .sl none 0 0, .sl none 0 0, .sl none 0 0, .sl none 0 0, .sl none 0 0, .bool false, .sl none 0 0, .int .i64 (0 : Int), .int .i64 (0 : Int), .str (⟨#[]⟩ : ByteArray), .bool false, .bool false, .bool false]) := by kernel_rfl
theorem fa94_1 : faB Try.prog 94 1 1 = true := by kernel_rfl
theorem ld28 : ldB Try.prog 28 1 false = true := by kernel_rfl
theorem fa94_2 : faB Try.prog 94 2 2 = true := by kernel_rfl
theorem fa27_5 : faB Try.prog 27 5 9 = true := by kernel_rfl
theorem ld79 : ldB Try.prog 79 2 true = true := by kernel_rfl
theorem z79 : zV Try.prog 79 = some [.str (⟨#[]⟩ : ByteArray), .str (⟨#[]⟩ : ByteArray)] := by kernel_rfl
theorem fn111 : fnB Try.prog 111 = true := by kernel_rfl
theorem fn91 : fnB Try.prog 91 = true := by kernel_rfl
theorem fn112 : fnB Try.prog 112 = true := by kernel_rfl
theorem fn135 : fnB Try.prog 135 = true := by kernel_rfl
theorem fn136 : fnB Try.prog 136 = true := by kernel_rfl
theorem fn129 : fnB Try.prog 129 = true := by kernel_rfl
theorem fn113 : fnB Try.prog 113 = true := by kernel_rfl
theorem fn92 : fnB Try.prog 92 = true := by kernel_rfl
theorem z74 : zV Try.prog 74 = some [.str (⟨#[]⟩ : ByteArray), .int .i64 (0 : Int), .sl none 0 0] := by kernel_rfl
theorem ld97 : ldB Try.prog 97 3 true = true := by kernel_rfl
theorem fn130 : fnB Try.prog 130 = true := by kernel_rfl
theorem fn117 : fnB Try.prog 117 = true := by kernel_rfl
theorem fn116 : fnB Try.prog 116 = true := by kernel_rfl
theorem ap25 : apB Try.prog 25 97 3 40 = true := by kernel_rfl
theorem fn115 : fnB Try.prog 115 = true := by kernel_rfl
theorem z97 : zV Try.prog 97 = some [.str (⟨#[]⟩ : ByteArray), .str (⟨#[]⟩ : ByteArray), .int .i64 (0 : Int)] := by kernel_rfl
theorem fn114 : fnB Try.prog 114 = true := by kernel_rfl
theorem fn93 : fnB Try.prog 93 = true := by kernel_rfl
theorem fn57 : fnB Try.prog 57 = true := by kernel_rfl
theorem fn56 : fnB Try.prog 56 = true := by kernel_rfl
theorem fn55 : fnB Try.prog 55 = true := by kernel_rfl
theorem el59 : elB Try.prog 59 33 20 = true := by kernel_rfl
theorem ap59 : apB Try.prog 59 33 20 272 = true := by kernel_rfl
theorem ld59 : ldB Try.prog 59 1 false = true := by kernel_rfl
theorem pl109 : plV Try.prog 109 = some (fun i => some (i * 1, 1), [.int .i64 (0 : Int), .int .i64 (0 : Int), .int .i64 (0 : Int), .int .i64 (0 : Int), .int .i64 (0 : Int)]) := by kernel_rfl
theorem ld109 : ldB Try.prog 109 5 true = true := by kernel_rfl
theorem z109 : zV Try.prog 109 = some [.int .i64 (0 : Int), .int .i64 (0 : Int), .int .i64 (0 : Int), .int .i64 (0 : Int), .int .i64 (0 : Int)] := by kernel_rfl
theorem ar109 : arB Try.prog 109 3 5 1 = true := by kernel_rfl
theorem fn102 : fnB Try.prog 102 = true := by kernel_rfl
theorem fn73 : fnB Try.prog 73 = true := by kernel_rfl
theorem fn72 : fnB Try.prog 72 = true := by kernel_rfl
theorem fn66 : fnB Try.prog 66 = true := by kernel_rfl
theorem fn104 : fnB Try.prog 104 = true := by kernel_rfl
theorem z23 : zV Try.prog 23 = some [.int .i64 (0 : Int), .int .i64 (0 : Int), .int .i64 (0 : Int), .int .i64 (0 : Int), .int .i64 (0 : Int)] := by kernel_rfl
theorem fn125 : fnB Try.prog 125 = true := by kernel_rfl
theorem fn103 : fnB Try.prog 103 = true := by kernel_rfl
theorem fn74 : fnB Try.prog 74 = true := by kernel_rfl
theorem z33 : zV Try.prog 33 = some [.str (⟨#[]⟩ : ByteArray), .int .i64 (0 : Int), .int .i64 (0 : Int), .int .i64 (0 : Int), .int .i64 (0 : Int), .int .i64 (0 : Int), .sl none 0 0, .sl none 0 0, .sl none 0 0, .sl none 0 0, .sl none 0 0, .sl none 0 0, .bool false, .sl none 0 0, .int .i64 (0 : Int), .int .i64 (0 : Int), .str (⟨#[]⟩ : ByteArray), .bool false, .bool false, .bool false] := by kernel_rfl
theorem z59 : zV Try.prog 59 = some [.sl none 0 0] := by kernel_rfl
theorem fn32 : fnB Try.prog 32 = true := by kernel_rfl
theorem fn106 : fnB Try.prog 106 = true := by kernel_rfl
theorem fn105 : fnB Try.prog 105 = true := by kernel_rfl
theorem fn75 : fnB Try.prog 75 = true := by kernel_rfl
theorem fn76 : fnB Try.prog 76 = true := by kernel_rfl
theorem fn29 : fnB Try.prog 29 = true := by kernel_rfl
theorem fn60 : fnB Try.prog 60 = true := by kernel_rfl
theorem fn30 : fnB Try.prog 30 = true := by kernel_rfl
theorem fn61 : fnB Try.prog 61 = true := by kernel_rfl
theorem fn59 : fnB Try.prog 59 = true := by kernel_rfl
theorem fn26 : fnB Try.prog 26 = true := by kernel_rfl
theorem fn24 : fnB Try.prog 24 = true := by kernel_rfl
theorem fn17 : fnB Try.prog 17 = true := by kernel_rfl
theorem fa94_0 : faB Try.prog 94 0 0 = true := by kernel_rfl
theorem ld37 : ldB Try.prog 37 1 false = true := by kernel_rfl
theorem fn77 : fnB Try.prog 77 = true := by kernel_rfl
theorem fn33 : fnB Try.prog 33 = true := by kernel_rfl
theorem mk9 : KeyOk Try.prog 9 VV.str Value.string TypeDesc.string := KeyOk.str Try.underlying9
theorem z27 : zV Try.prog 27 = some [.str (⟨#[]⟩ : ByteArray), .str (⟨#[]⟩ : ByteArray), .int .i64 (0 : Int), .int .i64 (0 : Int), .int .i64 (0 : Int), .int .i64 (0 : Int), .int .i64 (0 : Int), .sl none 0 0, .sl none 0 0, .bool false] := by kernel_rfl
theorem pl134 : plV Try.prog 134 = some (fun i => [(0, 1)].toArray[i]?, [.nilmap]) := by kernel_rfl
theorem ld134 : ldB Try.prog 134 1 true = true := by kernel_rfl
theorem fa134_0 : faB Try.prog 134 0 0 = true := by kernel_rfl
theorem ld131 : ldB Try.prog 131 1 false = true := by kernel_rfl
theorem zc9 : (Try.prog.info? 9).bind (·.zero) = some (.string ⟨#[]⟩) := by kernel_rfl
theorem fn137 : fnB Try.prog 137 = true := by kernel_rfl
theorem fn133 : fnB Try.prog 133 = true := by kernel_rfl
theorem z134 : zV Try.prog 134 = some [.nilmap] := by kernel_rfl
theorem fn132 : fnB Try.prog 132 = true := by kernel_rfl
theorem zc3 : (Try.prog.info? 3).bind (·.zero) = some (.int .i64 0) := by kernel_rfl
theorem ap65 : apB Try.prog 65 9 1 16 = true := by kernel_rfl
theorem ap31 : apB Try.prog 31 3 1 8 = true := by kernel_rfl
theorem fn64 : fnB Try.prog 64 = true := by kernel_rfl
theorem fn138 : fnB Try.prog 138 = true := by kernel_rfl
theorem fn134 : fnB Try.prog 134 = true := by kernel_rfl
theorem fn127 : fnB Try.prog 127 = true := by kernel_rfl
theorem fn126 : fnB Try.prog 126 = true := by kernel_rfl
theorem fn107 : fnB Try.prog 107 = true := by kernel_rfl
theorem ar63 : arB Try.prog 63 3 9 1 = true := by kernel_rfl
theorem fn80 : fnB Try.prog 80 = true := by kernel_rfl
theorem fn79 : fnB Try.prog 79 = true := by kernel_rfl
theorem ld63 : ldB Try.prog 63 9 true = true := by kernel_rfl
theorem fn78 : fnB Try.prog 78 = true := by kernel_rfl
theorem z63 : zV Try.prog 63 = some [.int .i64 (0 : Int), .int .i64 (0 : Int), .int .i64 (0 : Int), .int .i64 (0 : Int), .int .i64 (0 : Int), .int .i64 (0 : Int), .int .i64 (0 : Int), .int .i64 (0 : Int), .int .i64 (0 : Int)] := by kernel_rfl
theorem fn81 : fnB Try.prog 81 = true := by kernel_rfl
theorem z65 : zV Try.prog 65 = some [.sl none 0 0] := by kernel_rfl
theorem fn37 : fnB Try.prog 37 = true := by kernel_rfl
theorem fn38 : fnB Try.prog 38 = true := by kernel_rfl
theorem fn39 : fnB Try.prog 39 = true := by kernel_rfl
theorem fn40 : fnB Try.prog 40 = true := by kernel_rfl
theorem fn63 : fnB Try.prog 63 = true := by kernel_rfl
theorem fn36 : fnB Try.prog 36 = true := by kernel_rfl
theorem ap37 : apB Try.prog 37 27 10 128 = true := by kernel_rfl
theorem fn35 : fnB Try.prog 35 = true := by kernel_rfl
theorem fn34 : fnB Try.prog 34 = true := by kernel_rfl
end Go.Proofs.Ytcblmlkpcplkfaa.M

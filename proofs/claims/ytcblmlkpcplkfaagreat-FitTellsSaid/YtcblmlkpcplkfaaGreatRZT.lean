/-
  Printed by a program of this session out of the loaded functions: models and their proofs. Own text.
-/
import Derived.Test.YtcblmlkpcplkfaaGreatVArr
import Derived.Test.YtcblmlkpcplkfaaGreatProg
import Derived.KernelRfl
namespace Go.Proofs.YtcblmlkpcplkfaaGreat.M
open Go Go.Proofs Go.Proofs.YtcblmlkpcplkfaaGreat.V
set_option linter.unusedVariables false
set_option maxRecDepth 20000
set_option maxHeartbeats 4000000
structure T_api_Res where
  Cpu : Int
  Mem : Int
  Disk : Int
  Pods : Int
  Dev : Int
  deriving DecidableEq
def T_api_Res.cells (x : T_api_Res) : List VV := [.int .i64 x.Cpu, .int .i64 x.Mem, .int .i64 x.Disk, .int .i64 x.Pods, .int .i64 x.Dev]
def T_api_Res.vv (x : T_api_Res) : VV := .agg x.cells

structure T_api_Label where
  Key : ByteArray
  Val : ByteArray
  deriving DecidableEq
def T_api_Label.cells (x : T_api_Label) : List VV := [.str x.Key, .str x.Val]
def T_api_Label.vv (x : T_api_Label) : VV := .agg x.cells

structure T_api_Taint where
  Key : ByteArray
  Val : ByteArray
  Effect : Int
  deriving DecidableEq
def T_api_Taint.cells (x : T_api_Taint) : List VV := [.str x.Key, .str x.Val, .int .i64 x.Effect]
def T_api_Taint.vv (x : T_api_Taint) : VV := .agg x.cells

structure T_api_Machine where
  Name : ByteArray
  Group : ByteArray
  Has : T_api_Res
  Labels : List T_api_Label
  Taints : List T_api_Taint
  Ready : Bool
  deriving DecidableEq
def T_api_Machine.cells (x : T_api_Machine) : List VV := [.str x.Name, .str x.Group, .int .i64 x.Has.Cpu, .int .i64 x.Has.Mem, .int .i64 x.Has.Disk, .int .i64 x.Has.Pods, .int .i64 x.Has.Dev, .list 73 (List.map T_api_Label.vv x.Labels), .list 77 (List.map T_api_Taint.vv x.Taints), .bool x.Ready]
def T_api_Machine.vv (x : T_api_Machine) : VV := .agg x.cells

structure T_api_Term where
  Key : ByteArray
  Op : Int
  Vals : List ByteArray
  deriving DecidableEq
def T_api_Term.cells (x : T_api_Term) : List VV := [.str x.Key, .int .i64 x.Op, .list 9 (List.map VV.str x.Vals)]
def T_api_Term.vv (x : T_api_Term) : VV := .agg x.cells

structure T_api_Toleration where
  Key : ByteArray
  Val : ByteArray
  Any : Bool
  Effect : Int
  deriving DecidableEq
def T_api_Toleration.cells (x : T_api_Toleration) : List VV := [.str x.Key, .str x.Val, .bool x.Any, .int .i64 x.Effect]
def T_api_Toleration.vv (x : T_api_Toleration) : VV := .agg x.cells

structure T_api_Pod where
  Name : ByteArray
  Need : T_api_Res
  Labels : List T_api_Label
  Select : List T_api_Label
  Terms : List T_api_Term
  Bears : List T_api_Toleration
  Ports : List Int
  Apart : List T_api_Label
  Wide : Bool
  Spread : List T_api_Label
  Skew : Int
  Rank : Int
  Owner : ByteArray
  Daemon : Bool
  Pinned : Bool
  Local : Bool
  deriving DecidableEq
def T_api_Pod.cells (x : T_api_Pod) : List VV := [.str x.Name, .int .i64 x.Need.Cpu, .int .i64 x.Need.Mem, .int .i64 x.Need.Disk, .int .i64 x.Need.Pods, .int .i64 x.Need.Dev, .list 73 (List.map T_api_Label.vv x.Labels), .list 73 (List.map T_api_Label.vv x.Select), .list 62 (List.map T_api_Term.vv x.Terms), .list 75 (List.map T_api_Toleration.vv x.Bears), .list 3 (List.map (VV.int .i64) x.Ports), .list 73 (List.map T_api_Label.vv x.Apart), .bool x.Wide, .list 73 (List.map T_api_Label.vv x.Spread), .int .i64 x.Skew, .int .i64 x.Rank, .str x.Owner, .bool x.Daemon, .bool x.Pinned, .bool x.Local]
def T_api_Pod.vv (x : T_api_Pod) : VV := .agg x.cells

structure T_api_Bound where
  Pod : T_api_Pod
  On : ByteArray
  deriving DecidableEq
def T_api_Bound.cells (x : T_api_Bound) : List VV := [.str x.Pod.Name, .int .i64 x.Pod.Need.Cpu, .int .i64 x.Pod.Need.Mem, .int .i64 x.Pod.Need.Disk, .int .i64 x.Pod.Need.Pods, .int .i64 x.Pod.Need.Dev, .list 73 (List.map T_api_Label.vv x.Pod.Labels), .list 73 (List.map T_api_Label.vv x.Pod.Select), .list 62 (List.map T_api_Term.vv x.Pod.Terms), .list 75 (List.map T_api_Toleration.vv x.Pod.Bears), .list 3 (List.map (VV.int .i64) x.Pod.Ports), .list 73 (List.map T_api_Label.vv x.Pod.Apart), .bool x.Pod.Wide, .list 73 (List.map T_api_Label.vv x.Pod.Spread), .int .i64 x.Pod.Skew, .int .i64 x.Pod.Rank, .str x.Pod.Owner, .bool x.Pod.Daemon, .bool x.Pod.Pinned, .bool x.Pod.Local, .str x.On]
def T_api_Bound.vv (x : T_api_Bound) : VV := .agg x.cells

structure Arr9_Int where
  x0 : Int
  x1 : Int
  x2 : Int
  x3 : Int
  x4 : Int
  x5 : Int
  x6 : Int
  x7 : Int
  x8 : Int
  deriving DecidableEq
def Arr9_Int.cells (x : Arr9_Int) : List VV := [.int .i64 x.x0, .int .i64 x.x1, .int .i64 x.x2, .int .i64 x.x3, .int .i64 x.x4, .int .i64 x.x5, .int .i64 x.x6, .int .i64 x.x7, .int .i64 x.x8]
def Arr9_Int.vv (x : Arr9_Int) : VV := .agg x.cells
def Arr9_Int.l (x : Arr9_Int) : List Int := [x.x0, x.x1, x.x2, x.x3, x.x4, x.x5, x.x6, x.x7, x.x8]
def Arr9_Int.put (x : Arr9_Int) (n : Int) (v : Int) : Option Arr9_Int :=
  if n = 0 then some ⟨v, x.x1, x.x2, x.x3, x.x4, x.x5, x.x6, x.x7, x.x8⟩ else
  if n = 1 then some ⟨x.x0, v, x.x2, x.x3, x.x4, x.x5, x.x6, x.x7, x.x8⟩ else
  if n = 2 then some ⟨x.x0, x.x1, v, x.x3, x.x4, x.x5, x.x6, x.x7, x.x8⟩ else
  if n = 3 then some ⟨x.x0, x.x1, x.x2, v, x.x4, x.x5, x.x6, x.x7, x.x8⟩ else
  if n = 4 then some ⟨x.x0, x.x1, x.x2, x.x3, v, x.x5, x.x6, x.x7, x.x8⟩ else
  if n = 5 then some ⟨x.x0, x.x1, x.x2, x.x3, x.x4, v, x.x6, x.x7, x.x8⟩ else
  if n = 6 then some ⟨x.x0, x.x1, x.x2, x.x3, x.x4, x.x5, v, x.x7, x.x8⟩ else
  if n = 7 then some ⟨x.x0, x.x1, x.x2, x.x3, x.x4, x.x5, x.x6, v, x.x8⟩ else
  if n = 8 then some ⟨x.x0, x.x1, x.x2, x.x3, x.x4, x.x5, x.x6, x.x7, v⟩ else
  none
theorem Arr9_Int.put_some {x y : Arr9_Int} {n : Int} {v : Int} (h : Arr9_Int.put x n v = some y) : (0 ≤ n ∧ n < ((Arr9_Int.l x).length : Int)) ∧ y.cells = ((Arr9_Int.l x).set n.toNat v).map (VV.int .i64) := by
  unfold Arr9_Int.put at h
  split at h
  · rename_i hn; subst hn; cases h; exact ⟨⟨by decide, by show (0 : Int) < 9; decide⟩, rfl⟩
  split at h
  · rename_i hn; subst hn; cases h; exact ⟨⟨by decide, by show (1 : Int) < 9; decide⟩, rfl⟩
  split at h
  · rename_i hn; subst hn; cases h; exact ⟨⟨by decide, by show (2 : Int) < 9; decide⟩, rfl⟩
  split at h
  · rename_i hn; subst hn; cases h; exact ⟨⟨by decide, by show (3 : Int) < 9; decide⟩, rfl⟩
  split at h
  · rename_i hn; subst hn; cases h; exact ⟨⟨by decide, by show (4 : Int) < 9; decide⟩, rfl⟩
  split at h
  · rename_i hn; subst hn; cases h; exact ⟨⟨by decide, by show (5 : Int) < 9; decide⟩, rfl⟩
  split at h
  · rename_i hn; subst hn; cases h; exact ⟨⟨by decide, by show (6 : Int) < 9; decide⟩, rfl⟩
  split at h
  · rename_i hn; subst hn; cases h; exact ⟨⟨by decide, by show (7 : Int) < 9; decide⟩, rfl⟩
  split at h
  · rename_i hn; subst hn; cases h; exact ⟨⟨by decide, by show (8 : Int) < 9; decide⟩, rfl⟩
  cases h

structure T_fit_asker where
  ms : List T_api_Machine
  bs : List T_api_Bound
  p : T_api_Pod
  deriving DecidableEq
def T_fit_asker.cells (x : T_fit_asker) : List VV := [.list 37 (List.map T_api_Machine.vv x.ms), .list 56 (List.map T_api_Bound.vv x.bs), .str x.p.Name, .int .i64 x.p.Need.Cpu, .int .i64 x.p.Need.Mem, .int .i64 x.p.Need.Disk, .int .i64 x.p.Need.Pods, .int .i64 x.p.Need.Dev, .list 73 (List.map T_api_Label.vv x.p.Labels), .list 73 (List.map T_api_Label.vv x.p.Select), .list 62 (List.map T_api_Term.vv x.p.Terms), .list 75 (List.map T_api_Toleration.vv x.p.Bears), .list 3 (List.map (VV.int .i64) x.p.Ports), .list 73 (List.map T_api_Label.vv x.p.Apart), .bool x.p.Wide, .list 73 (List.map T_api_Label.vv x.p.Spread), .int .i64 x.p.Skew, .int .i64 x.p.Rank, .str x.p.Owner, .bool x.p.Daemon, .bool x.p.Pinned, .bool x.p.Local]
def T_fit_asker.vv (x : T_fit_asker) : VV := .agg x.cells

structure Arr5_Int where
  x0 : Int
  x1 : Int
  x2 : Int
  x3 : Int
  x4 : Int
  deriving DecidableEq
def Arr5_Int.cells (x : Arr5_Int) : List VV := [.int .i64 x.x0, .int .i64 x.x1, .int .i64 x.x2, .int .i64 x.x3, .int .i64 x.x4]
def Arr5_Int.vv (x : Arr5_Int) : VV := .agg x.cells
def Arr5_Int.l (x : Arr5_Int) : List Int := [x.x0, x.x1, x.x2, x.x3, x.x4]
def Arr5_Int.put (x : Arr5_Int) (n : Int) (v : Int) : Option Arr5_Int :=
  if n = 0 then some ⟨v, x.x1, x.x2, x.x3, x.x4⟩ else
  if n = 1 then some ⟨x.x0, v, x.x2, x.x3, x.x4⟩ else
  if n = 2 then some ⟨x.x0, x.x1, v, x.x3, x.x4⟩ else
  if n = 3 then some ⟨x.x0, x.x1, x.x2, v, x.x4⟩ else
  if n = 4 then some ⟨x.x0, x.x1, x.x2, x.x3, v⟩ else
  none
theorem Arr5_Int.put_some {x y : Arr5_Int} {n : Int} {v : Int} (h : Arr5_Int.put x n v = some y) : (0 ≤ n ∧ n < ((Arr5_Int.l x).length : Int)) ∧ y.cells = ((Arr5_Int.l x).set n.toNat v).map (VV.int .i64) := by
  unfold Arr5_Int.put at h
  split at h
  · rename_i hn; subst hn; cases h; exact ⟨⟨by decide, by show (0 : Int) < 5; decide⟩, rfl⟩
  split at h
  · rename_i hn; subst hn; cases h; exact ⟨⟨by decide, by show (1 : Int) < 5; decide⟩, rfl⟩
  split at h
  · rename_i hn; subst hn; cases h; exact ⟨⟨by decide, by show (2 : Int) < 5; decide⟩, rfl⟩
  split at h
  · rename_i hn; subst hn; cases h; exact ⟨⟨by decide, by show (3 : Int) < 5; decide⟩, rfl⟩
  split at h
  · rename_i hn; subst hn; cases h; exact ⟨⟨by decide, by show (4 : Int) < 5; decide⟩, rfl⟩
  cases h

structure T_apart_place where
  zones : List (ByteArray × ByteArray)

theorem ld31 : ldB Tryz.prog 31 20 true = true := by kernel_rfl
theorem el22 : elB Tryz.prog 22 37 10 = true := by kernel_rfl
theorem ld37 : ldB Tryz.prog 37 10 true = true := by kernel_rfl
theorem fa37_0 : faB Tryz.prog 37 0 0 = true := by kernel_rfl
theorem ld9 : ldB Tryz.prog 9 1 false = true := by kernel_rfl
theorem fa37_1 : faB Tryz.prog 37 1 1 = true := by kernel_rfl
theorem fa37_3 : faB Tryz.prog 37 3 7 = true := by kernel_rfl
theorem ld26 : ldB Tryz.prog 26 1 false = true := by kernel_rfl
theorem el26 : elB Tryz.prog 26 73 2 = true := by kernel_rfl
theorem fa73_0 : faB Tryz.prog 73 0 0 = true := by kernel_rfl
theorem fa73_1 : faB Tryz.prog 73 1 1 = true := by kernel_rfl
theorem fn29 : fnB Tryz.prog 29 = true := by kernel_rfl
theorem fa37_4 : faB Tryz.prog 37 4 8 = true := by kernel_rfl
theorem ld35 : ldB Tryz.prog 35 1 false = true := by kernel_rfl
theorem el28 : elB Tryz.prog 28 75 4 = true := by kernel_rfl
theorem fa75_0 : faB Tryz.prog 75 0 0 = true := by kernel_rfl
theorem fa75_1 : faB Tryz.prog 75 1 1 = true := by kernel_rfl
theorem el35 : elB Tryz.prog 35 77 3 = true := by kernel_rfl
theorem fa77_0 : faB Tryz.prog 77 0 0 = true := by kernel_rfl
theorem fa77_1 : faB Tryz.prog 77 1 1 = true := by kernel_rfl
theorem fn30 : fnB Tryz.prog 30 = true := by kernel_rfl
theorem fn28 : fnB Tryz.prog 28 = true := by kernel_rfl
theorem el23 : elB Tryz.prog 23 56 21 = true := by kernel_rfl
theorem fa56_0 : faB Tryz.prog 56 0 0 = true := by kernel_rfl
theorem fa31_0 : faB Tryz.prog 31 0 0 = true := by kernel_rfl
theorem fa31_12 : faB Tryz.prog 31 12 16 = true := by kernel_rfl
theorem fa31_4 : faB Tryz.prog 31 4 8 = true := by kernel_rfl
theorem ld27 : ldB Tryz.prog 27 1 false = true := by kernel_rfl
theorem fa31_6 : faB Tryz.prog 31 6 10 = true := by kernel_rfl
theorem ld29 : ldB Tryz.prog 29 1 false = true := by kernel_rfl
theorem fa31_2 : faB Tryz.prog 31 2 6 = true := by kernel_rfl
theorem fa31_3 : faB Tryz.prog 31 3 7 = true := by kernel_rfl
theorem fa31_7 : faB Tryz.prog 31 7 11 = true := by kernel_rfl
theorem fa31_9 : faB Tryz.prog 31 9 13 = true := by kernel_rfl
theorem fa31_5 : faB Tryz.prog 31 5 9 = true := by kernel_rfl
theorem ld28 : ldB Tryz.prog 28 1 false = true := by kernel_rfl
theorem el27 : elB Tryz.prog 27 62 3 = true := by kernel_rfl
theorem ld62 : ldB Tryz.prog 62 3 true = true := by kernel_rfl
theorem fa62_2 : faB Tryz.prog 62 2 2 = true := by kernel_rfl
theorem ld39 : ldB Tryz.prog 39 1 false = true := by kernel_rfl
theorem fa62_0 : faB Tryz.prog 62 0 0 = true := by kernel_rfl
theorem el39 : elB Tryz.prog 39 9 1 = true := by kernel_rfl
theorem fn31 : fnB Tryz.prog 31 = true := by kernel_rfl
theorem fa56_1 : faB Tryz.prog 56 1 20 = true := by kernel_rfl
theorem fn16 : fnB Tryz.prog 16 = true := by kernel_rfl
theorem fn72 : fnB Tryz.prog 72 = true := by kernel_rfl
theorem mixed : Tryz.prog.follows .mixedOrders = true := by kernel_rfl
theorem fn51 : fnB Tryz.prog 51 = true := by kernel_rfl
theorem fn50 : fnB Tryz.prog 50 = true := by kernel_rfl
theorem fn34 : fnB Tryz.prog 34 = true := by kernel_rfl
theorem fn36 : fnB Tryz.prog 36 = true := by kernel_rfl
theorem fa37_2 : faB Tryz.prog 37 2 2 = true := by kernel_rfl
theorem ld25 : ldB Tryz.prog 25 5 true = true := by kernel_rfl
theorem fa25_0 : faB Tryz.prog 25 0 0 = true := by kernel_rfl
theorem ld3 : ldB Tryz.prog 3 1 false = true := by kernel_rfl
theorem fa25_1 : faB Tryz.prog 25 1 1 = true := by kernel_rfl
theorem fn52 : fnB Tryz.prog 52 = true := by kernel_rfl
theorem fa25_2 : faB Tryz.prog 25 2 2 = true := by kernel_rfl
theorem fa25_3 : faB Tryz.prog 25 3 3 = true := by kernel_rfl
theorem fa25_4 : faB Tryz.prog 25 4 4 = true := by kernel_rfl
theorem fn35 : fnB Tryz.prog 35 = true := by kernel_rfl
theorem fn53 : fnB Tryz.prog 53 = true := by kernel_rfl
theorem fn55 : fnB Tryz.prog 55 = true := by kernel_rfl
theorem fn39 : fnB Tryz.prog 39 = true := by kernel_rfl
theorem fn56 : fnB Tryz.prog 56 = true := by kernel_rfl
theorem fa77_2 : faB Tryz.prog 77 2 2 = true := by kernel_rfl
theorem fn57 : fnB Tryz.prog 57 = true := by kernel_rfl
theorem fn49 : fnB Tryz.prog 49 = true := by kernel_rfl
theorem fn32 : fnB Tryz.prog 32 = true := by kernel_rfl
theorem fa31_1 : faB Tryz.prog 31 1 1 = true := by kernel_rfl
theorem fa31_11 : faB Tryz.prog 31 11 15 = true := by kernel_rfl
theorem fn37 : fnB Tryz.prog 37 = true := by kernel_rfl
theorem fa62_1 : faB Tryz.prog 62 1 1 = true := by kernel_rfl
theorem fn92 : fnB Tryz.prog 92 = true := by kernel_rfl
theorem fn73 : fnB Tryz.prog 73 = true := by kernel_rfl
theorem fn74 : fnB Tryz.prog 74 = true := by kernel_rfl
theorem fn54 : fnB Tryz.prog 54 = true := by kernel_rfl
theorem fn38 : fnB Tryz.prog 38 = true := by kernel_rfl
theorem el29 : elB Tryz.prog 29 3 1 = true := by kernel_rfl
theorem fa31_8 : faB Tryz.prog 31 8 12 = true := by kernel_rfl
theorem ld4 : ldB Tryz.prog 4 1 false = true := by kernel_rfl
theorem fa31_10 : faB Tryz.prog 31 10 14 = true := by kernel_rfl
theorem ld75 : ldB Tryz.prog 75 4 true = true := by kernel_rfl
theorem fa75_3 : faB Tryz.prog 75 3 3 = true := by kernel_rfl
theorem fa75_2 : faB Tryz.prog 75 2 2 = true := by kernel_rfl
theorem z75 : zV Tryz.prog 75 = some [.str (⟨#[]⟩ : ByteArray), .str (⟨#[]⟩ : ByteArray), .bool false, .int .i64 (0 : Int)] := by kernel_rfl
theorem fn40 : fnB Tryz.prog 40 = true := by kernel_rfl
theorem fn18 : fnB Tryz.prog 18 = true := by kernel_rfl
theorem fn22 : fnB Tryz.prog 22 = true := by kernel_rfl
theorem fn33 : fnB Tryz.prog 33 = true := by kernel_rfl
theorem fn17 : fnB Tryz.prog 17 = true := by kernel_rfl
theorem fn15 : fnB Tryz.prog 15 = true := by kernel_rfl
theorem pl25 : plV Tryz.prog 25 = some (fun i => [(0, 1), (1, 1), (2, 1), (3, 1), (4, 1)].toArray[i]?, [.int .i64 (0 : Int), .int .i64 (0 : Int), .int .i64 (0 : Int), .int .i64 (0 : Int), .int .i64 (0 : Int)]) := by kernel_rfl
theorem pl37 : plV Tryz.prog 37 = some (fun i => [(0, 1), (1, 1), (2, 5), (7, 1), (8, 1), (9, 1)].toArray[i]?, [.str (⟨#[]⟩ : ByteArray), .str (⟨#[]⟩ : ByteArray), .int .i64 (0 : Int), .int .i64 (0 : Int), .int .i64 (0 : Int), .int .i64 (0 : Int), .int .i64 (0 : Int), .sl none 0 0, .sl none 0 0, .bool false]) := by kernel_rfl
theorem pl31 : plV Tryz.prog 31 = some (fun i => [(0, 1), (1, 5), (6, 1), (7, 1), (8, 1), (9, 1), (10, 1), (11, 1), (12, 1), (13, 1), (14, 1), (15, 1), (16, 1), (17, 1), (18, 1), (19, 1)].toArray[i]?, [.str (⟨#[]⟩ : ByteArray), .int .i64 (0 : Int), .int .i64 (0 : Int), .int .i64 (0 : Int), .int .i64 (0 : Int), .int .i64 (0 : Int), .sl none 0 0, .sl none 0 0, .sl none 0 0, .sl none 0 0, .sl none 0 0, .sl none 0 0, .bool false, .sl none 0 0, .int .i64 (0 : Int), .int .i64 (0 : Int), .str (⟨#[]⟩ : ByteArray), .bool false, .bool false, .bool false]) := by kernel_rfl
theorem ld56 : ldB Tryz.prog 56 21 true = true := by kernel_rfl
theorem ap23 : apB Tryz.prog 23 56 21 288 = true := by kernel_rfl
theorem z56 : zV Tryz.prog 56 = some [.str (⟨#[]⟩ : ByteArray), .int .i64 (0 : Int), .int .i64 (0 : Int), .int .i64 (0 : Int), .int .i64 (0 : Int), .int .i64 (0 : Int), .sl none 0 0, .sl none 0 0, .sl none 0 0, .sl none 0 0, .sl none 0 0, .sl none 0 0, .bool false, .sl none 0 0, .int .i64 (0 : Int), .int .i64 (0 : Int), .str (⟨#[]⟩ : ByteArray), .bool false, .bool false, .bool false, .str (⟨#[]⟩ : ByteArray)] := by kernel_rfl
theorem pl56 : plV Tryz.prog 56 = some (fun i => [(0, 20), (20, 1)].toArray[i]?, [.str (⟨#[]⟩ : ByteArray), .int .i64 (0 : Int), .int .i64 (0 : Int), .int .i64 (0 : Int), .int .i64 (0 : Int), .int .i64 (0 : Int), .sl none 0 0, .sl none 0 0, .sl none 0 0, .sl none 0 0, .sl none 0 0, .sl none 0 0, .bool false, .sl none 0 0, .int .i64 (0 : Int), .int .i64 (0 : Int), .str (⟨#[]⟩ : ByteArray), .bool false, .bool false, .bool false, .str (⟨#[]⟩ : ByteArray)]) := by kernel_rfl
theorem pl50 : plV Tryz.prog 50 = some (fun i => [(0, 1), (1, 1), (2, 20)].toArray[i]?, [.sl none 0 0, .sl none 0 0, .str (⟨#[]⟩ : ByteArray), .int .i64 (0 : Int), .int .i64 (0 : Int), .int .i64 (0 : Int), .int .i64 (0 : Int), .int .i64 (0 : Int), .sl none 0 0, .sl none 0 0, .sl none 0 0, .sl none 0 0, .sl none 0 0, .sl none 0 0, .bool false, .sl none 0 0, .int .i64 (0 : Int), .int .i64 (0 : Int), .str (⟨#[]⟩ : ByteArray), .bool false, .bool false, .bool false]) := by kernel_rfl
theorem fa50_1 : faB Tryz.prog 50 1 1 = true := by kernel_rfl
theorem ld23 : ldB Tryz.prog 23 1 false = true := by kernel_rfl
theorem fa50_2 : faB Tryz.prog 50 2 2 = true := by kernel_rfl
theorem fa37_5 : faB Tryz.prog 37 5 9 = true := by kernel_rfl
theorem ld73 : ldB Tryz.prog 73 2 true = true := by kernel_rfl
theorem z73 : zV Tryz.prog 73 = some [.str (⟨#[]⟩ : ByteArray), .str (⟨#[]⟩ : ByteArray)] := by kernel_rfl
theorem fn104 : fnB Tryz.prog 104 = true := by kernel_rfl
theorem fn93 : fnB Tryz.prog 93 = true := by kernel_rfl
theorem fn105 : fnB Tryz.prog 105 = true := by kernel_rfl
theorem fn122 : fnB Tryz.prog 122 = true := by kernel_rfl
theorem fn123 : fnB Tryz.prog 123 = true := by kernel_rfl
theorem fn117 : fnB Tryz.prog 117 = true := by kernel_rfl
theorem fn106 : fnB Tryz.prog 106 = true := by kernel_rfl
theorem fn94 : fnB Tryz.prog 94 = true := by kernel_rfl
theorem z62 : zV Tryz.prog 62 = some [.str (⟨#[]⟩ : ByteArray), .int .i64 (0 : Int), .sl none 0 0] := by kernel_rfl
theorem ld77 : ldB Tryz.prog 77 3 true = true := by kernel_rfl
theorem fn118 : fnB Tryz.prog 118 = true := by kernel_rfl
theorem fn110 : fnB Tryz.prog 110 = true := by kernel_rfl
theorem fn109 : fnB Tryz.prog 109 = true := by kernel_rfl
theorem ap35 : apB Tryz.prog 35 77 3 40 = true := by kernel_rfl
theorem fn108 : fnB Tryz.prog 108 = true := by kernel_rfl
theorem z77 : zV Tryz.prog 77 = some [.str (⟨#[]⟩ : ByteArray), .str (⟨#[]⟩ : ByteArray), .int .i64 (0 : Int)] := by kernel_rfl
theorem fn107 : fnB Tryz.prog 107 = true := by kernel_rfl
theorem fn95 : fnB Tryz.prog 95 = true := by kernel_rfl
theorem fn77 : fnB Tryz.prog 77 = true := by kernel_rfl
theorem fn76 : fnB Tryz.prog 76 = true := by kernel_rfl
theorem fn75 : fnB Tryz.prog 75 = true := by kernel_rfl
theorem el89 : elB Tryz.prog 89 31 20 = true := by kernel_rfl
theorem ap89 : apB Tryz.prog 89 31 20 272 = true := by kernel_rfl
theorem ld89 : ldB Tryz.prog 89 1 false = true := by kernel_rfl
theorem pl127 : plV Tryz.prog 127 = some (fun i => some (i * 1, 1), [.int .i64 (0 : Int), .int .i64 (0 : Int), .int .i64 (0 : Int), .int .i64 (0 : Int), .int .i64 (0 : Int)]) := by kernel_rfl
theorem ld127 : ldB Tryz.prog 127 5 true = true := by kernel_rfl
theorem z127 : zV Tryz.prog 127 = some [.int .i64 (0 : Int), .int .i64 (0 : Int), .int .i64 (0 : Int), .int .i64 (0 : Int), .int .i64 (0 : Int)] := by kernel_rfl
theorem ar127 : arB Tryz.prog 127 3 5 1 = true := by kernel_rfl
theorem fn119 : fnB Tryz.prog 119 = true := by kernel_rfl
theorem fn114 : fnB Tryz.prog 114 = true := by kernel_rfl
theorem fn113 : fnB Tryz.prog 113 = true := by kernel_rfl
theorem fn41 : fnB Tryz.prog 41 = true := by kernel_rfl
theorem fn121 : fnB Tryz.prog 121 = true := by kernel_rfl
theorem z25 : zV Tryz.prog 25 = some [.int .i64 (0 : Int), .int .i64 (0 : Int), .int .i64 (0 : Int), .int .i64 (0 : Int), .int .i64 (0 : Int)] := by kernel_rfl
theorem fn120 : fnB Tryz.prog 120 = true := by kernel_rfl
theorem fn111 : fnB Tryz.prog 111 = true := by kernel_rfl
theorem fn115 : fnB Tryz.prog 115 = true := by kernel_rfl
theorem z31 : zV Tryz.prog 31 = some [.str (⟨#[]⟩ : ByteArray), .int .i64 (0 : Int), .int .i64 (0 : Int), .int .i64 (0 : Int), .int .i64 (0 : Int), .int .i64 (0 : Int), .sl none 0 0, .sl none 0 0, .sl none 0 0, .sl none 0 0, .sl none 0 0, .sl none 0 0, .bool false, .sl none 0 0, .int .i64 (0 : Int), .int .i64 (0 : Int), .str (⟨#[]⟩ : ByteArray), .bool false, .bool false, .bool false] := by kernel_rfl
theorem z89 : zV Tryz.prog 89 = some [.sl none 0 0] := by kernel_rfl
theorem fn81 : fnB Tryz.prog 81 = true := by kernel_rfl
theorem fn116 : fnB Tryz.prog 116 = true := by kernel_rfl
theorem fn112 : fnB Tryz.prog 112 = true := by kernel_rfl
theorem fn96 : fnB Tryz.prog 96 = true := by kernel_rfl
theorem fn98 : fnB Tryz.prog 98 = true := by kernel_rfl
theorem fn97 : fnB Tryz.prog 97 = true := by kernel_rfl
theorem fn79 : fnB Tryz.prog 79 = true := by kernel_rfl
theorem fn80 : fnB Tryz.prog 80 = true := by kernel_rfl
theorem fn82 : fnB Tryz.prog 82 = true := by kernel_rfl
theorem fn78 : fnB Tryz.prog 78 = true := by kernel_rfl
theorem fn59 : fnB Tryz.prog 59 = true := by kernel_rfl
theorem fn58 : fnB Tryz.prog 58 = true := by kernel_rfl
theorem fn43 : fnB Tryz.prog 43 = true := by kernel_rfl
theorem fa50_0 : faB Tryz.prog 50 0 0 = true := by kernel_rfl
theorem ld22 : ldB Tryz.prog 22 1 false = true := by kernel_rfl
theorem fn42 : fnB Tryz.prog 42 = true := by kernel_rfl
theorem fn20 : fnB Tryz.prog 20 = true := by kernel_rfl
theorem mk9 : KeyOk Tryz.prog 9 VV.str Value.string TypeDesc.string := KeyOk.str Tryz.underlying9
theorem z37 : zV Tryz.prog 37 = some [.str (⟨#[]⟩ : ByteArray), .str (⟨#[]⟩ : ByteArray), .int .i64 (0 : Int), .int .i64 (0 : Int), .int .i64 (0 : Int), .int .i64 (0 : Int), .int .i64 (0 : Int), .sl none 0 0, .sl none 0 0, .bool false] := by kernel_rfl
theorem pl102 : plV Tryz.prog 102 = some (fun i => [(0, 1)].toArray[i]?, [.nilmap]) := by kernel_rfl
theorem ld102 : ldB Tryz.prog 102 1 true = true := by kernel_rfl
theorem fa102_0 : faB Tryz.prog 102 0 0 = true := by kernel_rfl
theorem ld99 : ldB Tryz.prog 99 1 false = true := by kernel_rfl
theorem zc9 : (Tryz.prog.info? 9).bind (·.zero) = some (.string ⟨#[]⟩) := by kernel_rfl
theorem fn99 : fnB Tryz.prog 99 = true := by kernel_rfl
theorem fn84 : fnB Tryz.prog 84 = true := by kernel_rfl
theorem z102 : zV Tryz.prog 102 = some [.nilmap] := by kernel_rfl
theorem fn83 : fnB Tryz.prog 83 = true := by kernel_rfl
theorem zc3 : (Tryz.prog.info? 3).bind (·.zero) = some (.int .i64 0) := by kernel_rfl
theorem ap39 : apB Tryz.prog 39 9 1 16 = true := by kernel_rfl
theorem ap29 : apB Tryz.prog 29 3 1 8 = true := by kernel_rfl
theorem fn101 : fnB Tryz.prog 101 = true := by kernel_rfl
theorem fn100 : fnB Tryz.prog 100 = true := by kernel_rfl
theorem fn85 : fnB Tryz.prog 85 = true := by kernel_rfl
theorem fn61 : fnB Tryz.prog 61 = true := by kernel_rfl
theorem fn60 : fnB Tryz.prog 60 = true := by kernel_rfl
theorem fn44 : fnB Tryz.prog 44 = true := by kernel_rfl
theorem ar41 : arB Tryz.prog 41 3 9 1 = true := by kernel_rfl
theorem fn27 : fnB Tryz.prog 27 = true := by kernel_rfl
theorem fn21 : fnB Tryz.prog 21 = true := by kernel_rfl
theorem ld41 : ldB Tryz.prog 41 9 true = true := by kernel_rfl
theorem fn25 : fnB Tryz.prog 25 = true := by kernel_rfl
theorem z41 : zV Tryz.prog 41 = some [.int .i64 (0 : Int), .int .i64 (0 : Int), .int .i64 (0 : Int), .int .i64 (0 : Int), .int .i64 (0 : Int), .int .i64 (0 : Int), .int .i64 (0 : Int), .int .i64 (0 : Int), .int .i64 (0 : Int)] := by kernel_rfl
theorem fn26 : fnB Tryz.prog 26 = true := by kernel_rfl
theorem z39 : zV Tryz.prog 39 = some [.sl none 0 0] := by kernel_rfl
theorem fn9 : fnB Tryz.prog 9 = true := by kernel_rfl
theorem fn6 : fnB Tryz.prog 6 = true := by kernel_rfl
theorem fn13 : fnB Tryz.prog 13 = true := by kernel_rfl
theorem fn19 : fnB Tryz.prog 19 = true := by kernel_rfl
theorem fn8 : fnB Tryz.prog 8 = true := by kernel_rfl
theorem fn11 : fnB Tryz.prog 11 = true := by kernel_rfl
theorem ap22 : apB Tryz.prog 22 37 10 128 = true := by kernel_rfl
theorem fn5 : fnB Tryz.prog 5 = true := by kernel_rfl
theorem fn4 : fnB Tryz.prog 4 = true := by kernel_rfl
theorem fn86 : fnB Tryz.prog 86 = true := by kernel_rfl
theorem fn62 : fnB Tryz.prog 62 = true := by kernel_rfl
theorem fn87 : fnB Tryz.prog 87 = true := by kernel_rfl
theorem fn63 : fnB Tryz.prog 63 = true := by kernel_rfl
theorem fn102 : fnB Tryz.prog 102 = true := by kernel_rfl
theorem fn89 : fnB Tryz.prog 89 = true := by kernel_rfl
theorem fn88 : fnB Tryz.prog 88 = true := by kernel_rfl
theorem fn64 : fnB Tryz.prog 64 = true := by kernel_rfl
theorem fn103 : fnB Tryz.prog 103 = true := by kernel_rfl
theorem fn68 : fnB Tryz.prog 68 = true := by kernel_rfl
theorem fn90 : fnB Tryz.prog 90 = true := by kernel_rfl
theorem fn66 : fnB Tryz.prog 66 = true := by kernel_rfl
theorem fn67 : fnB Tryz.prog 67 = true := by kernel_rfl
theorem fn65 : fnB Tryz.prog 65 = true := by kernel_rfl
theorem fn46 : fnB Tryz.prog 46 = true := by kernel_rfl
theorem fn45 : fnB Tryz.prog 45 = true := by kernel_rfl
theorem fn23 : fnB Tryz.prog 23 = true := by kernel_rfl
theorem fn70 : fnB Tryz.prog 70 = true := by kernel_rfl
theorem fn69 : fnB Tryz.prog 69 = true := by kernel_rfl
theorem fn47 : fnB Tryz.prog 47 = true := by kernel_rfl
theorem fn91 : fnB Tryz.prog 91 = true := by kernel_rfl
theorem fn71 : fnB Tryz.prog 71 = true := by kernel_rfl
theorem fn48 : fnB Tryz.prog 48 = true := by kernel_rfl
theorem fn24 : fnB Tryz.prog 24 = true := by kernel_rfl
theorem fn7 : fnB Tryz.prog 7 = true := by kernel_rfl
def shp3 : Shp := .int
theorem eqa41 : (shaB Tryz.prog shp3 1 false 3 9 41 && noif Tryz.prog 41) = true := by kernel_rfl
theorem fn12 : fnB Tryz.prog 12 = true := by kernel_rfl
theorem fn14 : fnB Tryz.prog 14 = true := by kernel_rfl
theorem fn10 : fnB Tryz.prog 10 = true := by kernel_rfl
end Go.Proofs.YtcblmlkpcplkfaaGreat.M

/-
  Printed by a program of this session out of the loaded functions: models and their proofs. Own text.
-/
import Derived.Test.YtkondhigbbgidaaGreatVTab
import Derived.Test.YtkondhigbbgidaaGreatProg
import Derived.KernelRfl
namespace Go.Proofs.YtkondhigbbgidaaGreat.M
open Go Go.Proofs Go.Proofs.YtkondhigbbgidaaGreat.V
open Go.IntKind (i64)
set_option linter.unusedVariables false
set_option linter.unusedSimpArgs false
set_option maxRecDepth 20000
set_option maxHeartbeats 40000000
structure T_api_Res where
  Cpu : Int
  Mem : Int
  Disk : Int
  Pods : Int
  Dev : Int
  deriving DecidableEq
def T_api_Res.cells (x : T_api_Res) : List VV := [.int .i64 x.Cpu, .int .i64 x.Mem, .int .i64 x.Disk, .int .i64 x.Pods, .int .i64 x.Dev]
def T_api_Res.vv (x : T_api_Res) : VV := .agg (T_api_Res.cells x)

structure T_api_Label where
  Key : ByteArray
  Val : ByteArray
  deriving DecidableEq
def T_api_Label.cells (x : T_api_Label) : List VV := [.str x.Key, .str x.Val]
def T_api_Label.vv (x : T_api_Label) : VV := .agg (T_api_Label.cells x)

structure T_api_Taint where
  Key : ByteArray
  Val : ByteArray
  Effect : Int
  deriving DecidableEq
def T_api_Taint.cells (x : T_api_Taint) : List VV := [.str x.Key, .str x.Val, .int .i64 x.Effect]
def T_api_Taint.vv (x : T_api_Taint) : VV := .agg (T_api_Taint.cells x)

structure T_api_Machine where
  Name : ByteArray
  Group : ByteArray
  Has : T_api_Res
  Labels : List T_api_Label
  Taints : List T_api_Taint
  Ready : Bool
  deriving DecidableEq
def T_api_Machine.cells (x : T_api_Machine) : List VV := [.str x.Name, .str x.Group, .int .i64 x.Has.Cpu, .int .i64 x.Has.Mem, .int .i64 x.Has.Disk, .int .i64 x.Has.Pods, .int .i64 x.Has.Dev, .list 141 (List.map T_api_Label.vv x.Labels), .list 143 (List.map T_api_Taint.vv x.Taints), .bool x.Ready]
def T_api_Machine.vv (x : T_api_Machine) : VV := .agg (T_api_Machine.cells x)

structure T_api_Group where
  Name : ByteArray
  Min : Int
  Max : Int
  Like : T_api_Machine
  Price : Int
  Rank : Int
  deriving DecidableEq
def T_api_Group.cells (x : T_api_Group) : List VV := [.str x.Name, .int .i64 x.Min, .int .i64 x.Max, .str x.Like.Name, .str x.Like.Group, .int .i64 x.Like.Has.Cpu, .int .i64 x.Like.Has.Mem, .int .i64 x.Like.Has.Disk, .int .i64 x.Like.Has.Pods, .int .i64 x.Like.Has.Dev, .list 141 (List.map T_api_Label.vv x.Like.Labels), .list 143 (List.map T_api_Taint.vv x.Like.Taints), .bool x.Like.Ready, .int .i64 x.Price, .int .i64 x.Rank]
def T_api_Group.vv (x : T_api_Group) : VV := .agg (T_api_Group.cells x)

structure T_api_Toleration where
  Key : ByteArray
  Val : ByteArray
  Any : Bool
  Effect : Int
  deriving DecidableEq
def T_api_Toleration.cells (x : T_api_Toleration) : List VV := [.str x.Key, .str x.Val, .bool x.Any, .int .i64 x.Effect]
def T_api_Toleration.vv (x : T_api_Toleration) : VV := .agg (T_api_Toleration.cells x)

structure T_api_Node where
  Kind : Int
  Text : ByteArray
  Kids : Int
  At : Int
  deriving DecidableEq
def T_api_Node.cells (x : T_api_Node) : List VV := [.int .i64 x.Kind, .str x.Text, .int .i64 x.Kids, .int .i64 x.At]
def T_api_Node.vv (x : T_api_Node) : VV := .agg (T_api_Node.cells x)

structure T_api_Token where
  Kind : Int
  Text : ByteArray
  At : Int
  Line : Int
  Col : Int
  deriving DecidableEq
def T_api_Token.cells (x : T_api_Token) : List VV := [.int .i64 x.Kind, .str x.Text, .int .i64 x.At, .int .i64 x.Line, .int .i64 x.Col]
def T_api_Token.vv (x : T_api_Token) : VV := .agg (T_api_Token.cells x)

structure T_api_Term where
  Key : ByteArray
  Op : Int
  Vals : List ByteArray
  deriving DecidableEq
def T_api_Term.cells (x : T_api_Term) : List VV := [.str x.Key, .int .i64 x.Op, .list 9 (List.map VV.str x.Vals)]
def T_api_Term.vv (x : T_api_Term) : VV := .agg (T_api_Term.cells x)

structure T_api_Pod where
  Name : ByteArray
  Need : T_api_Res
  Labels : List T_api_Label
  Select : List T_api_Label
  Terms : List T_api_Term
  Bears : List T_api_Toleration
  Ports : List Int
  Apart : List T_api_Label
  Wide : Bool
  Spread : List T_api_Label
  Skew : Int
  Rank : Int
  Owner : ByteArray
  Daemon : Bool
  Pinned : Bool
  Local : Bool
  deriving DecidableEq
def T_api_Pod.cells (x : T_api_Pod) : List VV := [.str x.Name, .int .i64 x.Need.Cpu, .int .i64 x.Need.Mem, .int .i64 x.Need.Disk, .int .i64 x.Need.Pods, .int .i64 x.Need.Dev, .list 141 (List.map T_api_Label.vv x.Labels), .list 141 (List.map T_api_Label.vv x.Select), .list 73 (List.map T_api_Term.vv x.Terms), .list 83 (List.map T_api_Toleration.vv x.Bears), .list 3 (List.map (VV.int .i64) x.Ports), .list 141 (List.map T_api_Label.vv x.Apart), .bool x.Wide, .list 141 (List.map T_api_Label.vv x.Spread), .int .i64 x.Skew, .int .i64 x.Rank, .str x.Owner, .bool x.Daemon, .bool x.Pinned, .bool x.Local]
def T_api_Pod.vv (x : T_api_Pod) : VV := .agg (T_api_Pod.cells x)

structure T_spec_reader where
  l : List T_api_Node
  fields : Unit
  had : List (ByteArray × Int)
  e : Int
  at_ : Int

structure T_quant_none where

  deriving DecidableEq
def T_quant_none.cells (x : T_quant_none) : List VV := []
def T_quant_none.vv (x : T_quant_none) : VV := .agg (T_quant_none.cells x)

inductive I_any20 where
  | nil
  | c9 (x : ByteArray)
  | c3 (x : Int)
  | c228 (x : Int)
  | c234 (x : T_quant_none)
  deriving DecidableEq
def I_any20.isNil : I_any20 → Bool
  | .nil => true
  | .c9 _ => false
  | .c3 _ => false
  | .c228 _ => false
  | .c234 _ => false
def I_any20.ty : I_any20 → Nat
  | .nil => 0
  | .c9 _ => 9
  | .c3 _ => 3
  | .c228 _ => 228
  | .c234 _ => 234
def I_any20.val : I_any20 → VV
  | .nil => .any
  | .c9 x => VV.str x
  | .c3 x => (VV.int .i64) x
  | .c228 x => (VV.int .i64) x
  | .c234 x => T_quant_none.vv x
def I_any20.vv (x : I_any20) : VV := .ifo x.isNil x.ty x.val
def I_any20.is9 : I_any20 → Bool
  | .c9 _ => true
  | _ => false
def I_any20.as9 : I_any20 → ByteArray
  | .c9 x => x
  | _ => (⟨#[]⟩ : ByteArray)
def I_any20.is3 : I_any20 → Bool
  | .c3 _ => true
  | _ => false
def I_any20.as3 : I_any20 → Int
  | .c3 x => x
  | _ => (0 : Int)
def I_any20.is228 : I_any20 → Bool
  | .c228 _ => true
  | _ => false
def I_any20.as228 : I_any20 → Int
  | .c228 x => x
  | _ => (0 : Int)
def I_any20.is234 : I_any20 → Bool
  | .c234 _ => true
  | _ => false
def I_any20.as234 : I_any20 → T_quant_none
  | .c234 x => x
  | _ => (⟨⟩ : T_quant_none)

structure Arr5_Int where
  x0 : Int
  x1 : Int
  x2 : Int
  x3 : Int
  x4 : Int
  deriving DecidableEq
def Arr5_Int.cells (x : Arr5_Int) : List VV := [.int .i64 x.x0, .int .i64 x.x1, .int .i64 x.x2, .int .i64 x.x3, .int .i64 x.x4]
def Arr5_Int.vv (x : Arr5_Int) : VV := .agg (Arr5_Int.cells x)
def Arr5_Int.l (x : Arr5_Int) : List Int := [x.x0, x.x1, x.x2, x.x3, x.x4]
def Arr5_Int.put (x : Arr5_Int) (n : Int) (v : Int) : Option Arr5_Int :=
  if n = 0 then some ⟨v, x.x1, x.x2, x.x3, x.x4⟩ else
  if n = 1 then some ⟨x.x0, v, x.x2, x.x3, x.x4⟩ else
  if n = 2 then some ⟨x.x0, x.x1, v, x.x3, x.x4⟩ else
  if n = 3 then some ⟨x.x0, x.x1, x.x2, v, x.x4⟩ else
  if n = 4 then some ⟨x.x0, x.x1, x.x2, x.x3, v⟩ else
  none
theorem Arr5_Int.put_some {x y : Arr5_Int} {n : Int} {v : Int} (h : Arr5_Int.put x n v = some y) : (0 ≤ n ∧ n < ((Arr5_Int.l x).length : Int)) ∧ y.cells = ((Arr5_Int.l x).set n.toNat v).map (VV.int .i64) := by
  unfold Arr5_Int.put at h
  split at h
  · rename_i hn; subst hn; cases h; exact ⟨⟨by decide, by show (0 : Int) < 5; decide⟩, rfl⟩
  split at h
  · rename_i hn; subst hn; cases h; exact ⟨⟨by decide, by show (1 : Int) < 5; decide⟩, rfl⟩
  split at h
  · rename_i hn; subst hn; cases h; exact ⟨⟨by decide, by show (2 : Int) < 5; decide⟩, rfl⟩
  split at h
  · rename_i hn; subst hn; cases h; exact ⟨⟨by decide, by show (3 : Int) < 5; decide⟩, rfl⟩
  split at h
  · rename_i hn; subst hn; cases h; exact ⟨⟨by decide, by show (4 : Int) < 5; decide⟩, rfl⟩
  cases h

structure Arr20_Int where
  x0 : Int
  x1 : Int
  x2 : Int
  x3 : Int
  x4 : Int
  x5 : Int
  x6 : Int
  x7 : Int
  x8 : Int
  x9 : Int
  x10 : Int
  x11 : Int
  x12 : Int
  x13 : Int
  x14 : Int
  x15 : Int
  x16 : Int
  x17 : Int
  x18 : Int
  x19 : Int
  deriving DecidableEq
def Arr20_Int.cells (x : Arr20_Int) : List VV := [.int .u8 x.x0, .int .u8 x.x1, .int .u8 x.x2, .int .u8 x.x3, .int .u8 x.x4, .int .u8 x.x5, .int .u8 x.x6, .int .u8 x.x7, .int .u8 x.x8, .int .u8 x.x9, .int .u8 x.x10, .int .u8 x.x11, .int .u8 x.x12, .int .u8 x.x13, .int .u8 x.x14, .int .u8 x.x15, .int .u8 x.x16, .int .u8 x.x17, .int .u8 x.x18, .int .u8 x.x19]
def Arr20_Int.vv (x : Arr20_Int) : VV := .agg (Arr20_Int.cells x)
def Arr20_Int.l (x : Arr20_Int) : List Int := [x.x0, x.x1, x.x2, x.x3, x.x4, x.x5, x.x6, x.x7, x.x8, x.x9, x.x10, x.x11, x.x12, x.x13, x.x14, x.x15, x.x16, x.x17, x.x18, x.x19]
def Arr20_Int.put (x : Arr20_Int) (n : Int) (v : Int) : Option Arr20_Int :=
  if 0 ≤ n ∧ n < 20 then some ⟨if n = 0 then v else x.x0, if n = 1 then v else x.x1, if n = 2 then v else x.x2, if n = 3 then v else x.x3, if n = 4 then v else x.x4, if n = 5 then v else x.x5, if n = 6 then v else x.x6, if n = 7 then v else x.x7, if n = 8 then v else x.x8, if n = 9 then v else x.x9, if n = 10 then v else x.x10, if n = 11 then v else x.x11, if n = 12 then v else x.x12, if n = 13 then v else x.x13, if n = 14 then v else x.x14, if n = 15 then v else x.x15, if n = 16 then v else x.x16, if n = 17 then v else x.x17, if n = 18 then v else x.x18, if n = 19 then v else x.x19⟩ else none
theorem Arr20_Int.put_some {x y : Arr20_Int} {n : Int} {v : Int} (h : Arr20_Int.put x n v = some y) : (0 ≤ n ∧ n < ((Arr20_Int.l x).length : Int)) ∧ y.cells = ((Arr20_Int.l x).set n.toNat v).map (VV.int .u8) := by
  unfold Arr20_Int.put at h
  split at h
  · rename_i hn
    cases h
    refine ⟨hn, ?_⟩
    have hc : n = 0 ∨ n = 1 ∨ n = 2 ∨ n = 3 ∨ n = 4 ∨ n = 5 ∨ n = 6 ∨ n = 7 ∨ n = 8 ∨ n = 9 ∨ n = 10 ∨ n = 11 ∨ n = 12 ∨ n = 13 ∨ n = 14 ∨ n = 15 ∨ n = 16 ∨ n = 17 ∨ n = 18 ∨ n = 19 := by omega
    rcases hc with rfl | rfl | rfl | rfl | rfl | rfl | rfl | rfl | rfl | rfl | rfl | rfl | rfl | rfl | rfl | rfl | rfl | rfl | rfl | rfl <;> rfl
  · cases h

structure Arr5_ByteArray where
  x0 : ByteArray
  x1 : ByteArray
  x2 : ByteArray
  x3 : ByteArray
  x4 : ByteArray
  deriving DecidableEq
def Arr5_ByteArray.cells (x : Arr5_ByteArray) : List VV := [.str x.x0, .str x.x1, .str x.x2, .str x.x3, .str x.x4]
def Arr5_ByteArray.vv (x : Arr5_ByteArray) : VV := .agg (Arr5_ByteArray.cells x)
def Arr5_ByteArray.l (x : Arr5_ByteArray) : List ByteArray := [x.x0, x.x1, x.x2, x.x3, x.x4]
def Arr5_ByteArray.put (x : Arr5_ByteArray) (n : Int) (v : ByteArray) : Option Arr5_ByteArray :=
  if n = 0 then some ⟨v, x.x1, x.x2, x.x3, x.x4⟩ else
  if n = 1 then some ⟨x.x0, v, x.x2, x.x3, x.x4⟩ else
  if n = 2 then some ⟨x.x0, x.x1, v, x.x3, x.x4⟩ else
  if n = 3 then some ⟨x.x0, x.x1, x.x2, v, x.x4⟩ else
  if n = 4 then some ⟨x.x0, x.x1, x.x2, x.x3, v⟩ else
  none
theorem Arr5_ByteArray.put_some {x y : Arr5_ByteArray} {n : Int} {v : ByteArray} (h : Arr5_ByteArray.put x n v = some y) : (0 ≤ n ∧ n < ((Arr5_ByteArray.l x).length : Int)) ∧ y.cells = ((Arr5_ByteArray.l x).set n.toNat v).map VV.str := by
  unfold Arr5_ByteArray.put at h
  split at h
  · rename_i hn; subst hn; cases h; exact ⟨⟨by decide, by show (0 : Int) < 5; decide⟩, rfl⟩
  split at h
  · rename_i hn; subst hn; cases h; exact ⟨⟨by decide, by show (1 : Int) < 5; decide⟩, rfl⟩
  split at h
  · rename_i hn; subst hn; cases h; exact ⟨⟨by decide, by show (2 : Int) < 5; decide⟩, rfl⟩
  split at h
  · rename_i hn; subst hn; cases h; exact ⟨⟨by decide, by show (3 : Int) < 5; decide⟩, rfl⟩
  split at h
  · rename_i hn; subst hn; cases h; exact ⟨⟨by decide, by show (4 : Int) < 5; decide⟩, rfl⟩
  cases h

structure T_spec_writer where
  s : ByteArray
  deriving DecidableEq
def T_spec_writer.cells (x : T_spec_writer) : List VV := [.str x.s]
def T_spec_writer.vv (x : T_spec_writer) : VV := .agg (T_spec_writer.cells x)

abbrev L141 (l : List T_api_Label) : VV := .list 141 (List.map T_api_Label.vv l)
abbrev L83 (l : List T_api_Toleration) : VV := .list 83 (List.map T_api_Toleration.vv l)
abbrev L143 (l : List T_api_Taint) : VV := .list 143 (List.map T_api_Taint.vv l)
abbrev X174 (b : Nat) (x : T_api_Token) : HE := .box b 174 (T_api_Token.cells x)
abbrev Z5 (ob : Option Nat) (l : List Int) (cap : Nat) : VV := .sl ob (List.map (VV.int .u8) l).length cap
abbrev Q5 (ob : Option Nat) (cap : Nat) (l : List Int) : HE := .row ob 5 cap (List.map (VV.int .u8) l)
abbrev Z174 (ob : Option Nat) (l : List T_api_Token) (cap : Nat) : VV := .sl ob (List.map T_api_Token.vv l).length cap
abbrev Q174 (ob : Option Nat) (cap : Nat) (l : List T_api_Token) : HE := .row ob 174 cap (List.map T_api_Token.vv l)
abbrev Z100 (ob : Option Nat) (l : List T_api_Node) (cap : Nat) : VV := .sl ob (List.map T_api_Node.vv l).length cap
abbrev Z3 (ob : Option Nat) (l : List Int) (cap : Nat) : VV := .sl ob (List.map (VV.int .i64) l).length cap
abbrev Q100 (ob : Option Nat) (cap : Nat) (l : List T_api_Node) : HE := .row ob 100 cap (List.map T_api_Node.vv l)
abbrev Q3 (ob : Option Nat) (cap : Nat) (l : List Int) : HE := .row ob 3 cap (List.map (VV.int .i64) l)
abbrev L100 (l : List T_api_Node) : VV := .list 100 (List.map T_api_Node.vv l)
abbrev KR0 (p0 p1 p2 p3 p4 p5 p6 p7 p8 p9 p10 p11 : Nat) : List VV := [.agg [.str (⟨#[110, 101, 101, 100]⟩ : ByteArray), .str (⟨#[109, 112, 112, 110]⟩ : ByteArray), .bool false, .clo (.func 127) [] [.ptr p0 0]], .agg [.str (⟨#[108, 97, 98, 101, 108]⟩ : ByteArray), .str (⟨#[119, 97]⟩ : ByteArray), .bool true, .clo (.func 166) [] [.ptr p1 0]], .agg [.str (⟨#[115, 101, 108, 101, 99, 116]⟩ : ByteArray), .str (⟨#[119, 97]⟩ : ByteArray), .bool true, .clo (.func 166) [] [.ptr p2 0]], .agg [.str (⟨#[97, 112, 97, 114, 116]⟩ : ByteArray), .str (⟨#[119, 97]⟩ : ByteArray), .bool true, .clo (.func 166) [] [.ptr p3 0]], .agg [.str (⟨#[111, 118, 101, 114]⟩ : ByteArray), .str (⟨#[119, 97]⟩ : ByteArray), .bool true, .clo (.func 166) [] [.ptr p4 0]], .agg [.str (⟨#[116, 101, 114, 109]⟩ : ByteArray), .str (⟨#[119, 111, 43]⟩ : ByteArray), .bool true, .clo (.func 130) [] [.ptr p0 0]], .agg [.str (⟨#[98, 101, 97, 114]⟩ : ByteArray), .str (⟨#[97, 97, 101]⟩ : ByteArray), .bool true, .clo (.func 132) [] [.ptr p0 0]], .agg [.str (⟨#[98, 101, 97, 114, 97, 110, 121]⟩ : ByteArray), .str (⟨#[97, 101]⟩ : ByteArray), .bool true, .clo (.func 133) [] [.ptr p0 0]], .agg [.str (⟨#[112, 111, 114, 116]⟩ : ByteArray), .str (⟨#[110]⟩ : ByteArray), .bool true, .clo (.func 134) [] [.ptr p0 0]], .agg [.str (⟨#[115, 112, 114, 101, 97, 100]⟩ : ByteArray), .str (⟨#[110]⟩ : ByteArray), .bool false, .clo (.func 141) [] [.ptr p5 0]], .agg [.str (⟨#[114, 97, 110, 107]⟩ : ByteArray), .str (⟨#[110]⟩ : ByteArray), .bool false, .clo (.func 141) [] [.ptr p6 0]], .agg [.str (⟨#[111, 119, 110, 101, 114]⟩ : ByteArray), .str (⟨#[119]⟩ : ByteArray), .bool false, .clo (.func 137) [] [.ptr p7 0]], .agg [.str (⟨#[119, 105, 100, 101]⟩ : ByteArray), .str (⟨#[]⟩ : ByteArray), .bool false, .clo (.func 138) [] [.ptr p8 0]], .agg [.str (⟨#[100, 97, 101, 109, 111, 110]⟩ : ByteArray), .str (⟨#[]⟩ : ByteArray), .bool false, .clo (.func 138) [] [.ptr p9 0]], .agg [.str (⟨#[112, 105, 110, 110, 101, 100]⟩ : ByteArray), .str (⟨#[]⟩ : ByteArray), .bool false, .clo (.func 138) [] [.ptr p10 0]], .agg [.str (⟨#[108, 111, 99, 97, 108]⟩ : ByteArray), .str (⟨#[]⟩ : ByteArray), .bool false, .clo (.func 138) [] [.ptr p11 0]]]
abbrev L3 (l : List Int) : VV := .list 3 (List.map (VV.int .i64) l)
abbrev Z141 (ob : Option Nat) (l : List T_api_Label) (cap : Nat) : VV := .sl ob (List.map T_api_Label.vv l).length cap
abbrev Z73 (ob : Option Nat) (l : List T_api_Term) (cap : Nat) : VV := .sl ob (List.map T_api_Term.vv l).length cap
abbrev Z83 (ob : Option Nat) (l : List T_api_Toleration) (cap : Nat) : VV := .sl ob (List.map T_api_Toleration.vv l).length cap
abbrev Q141 (ob : Option Nat) (cap : Nat) (l : List T_api_Label) : HE := .row ob 141 cap (List.map T_api_Label.vv l)
abbrev Q73 (ob : Option Nat) (cap : Nat) (l : List T_api_Term) : HE := .row ob 73 cap (List.map T_api_Term.vv l)
abbrev Q83 (ob : Option Nat) (cap : Nat) (l : List T_api_Toleration) : HE := .row ob 83 cap (List.map T_api_Toleration.vv l)
abbrev AL1 (k p0 p1 p2 p3 p4 p5 p6 p7 p8 p9 p10 p11 : Nat) : VV := V.alt k [.nilfn, .clo (.func 127) [] [.ptr p0 0], .clo (.func 166) [] [.ptr p1 0], .clo (.func 166) [] [.ptr p2 0], .clo (.func 166) [] [.ptr p3 0], .clo (.func 166) [] [.ptr p4 0], .clo (.func 130) [] [.ptr p0 0], .clo (.func 132) [] [.ptr p0 0], .clo (.func 133) [] [.ptr p0 0], .clo (.func 134) [] [.ptr p0 0], .clo (.func 141) [] [.ptr p5 0], .clo (.func 141) [] [.ptr p6 0], .clo (.func 137) [] [.ptr p7 0], .clo (.func 138) [] [.ptr p8 0], .clo (.func 138) [] [.ptr p9 0], .clo (.func 138) [] [.ptr p10 0], .clo (.func 138) [] [.ptr p11 0]]
abbrev L9 (l : List ByteArray) : VV := .list 9 (List.map VV.str l)
abbrev Z20 (ob : Option Nat) (l : List I_any20) (cap : Nat) : VV := .sl ob (List.map I_any20.vv l).length cap
abbrev Q20 (ob : Option Nat) (cap : Nat) (l : List I_any20) : HE := .row ob 20 cap (List.map I_any20.vv l)
abbrev L20 (l : List I_any20) : VV := .list 20 (List.map I_any20.vv l)
abbrev X23 (b : Nat) (x : T_api_Res) : HE := .box b 23 (T_api_Res.cells x)
abbrev Q9 (ob : Option Nat) (cap : Nat) (l : List ByteArray) : HE := .row ob 9 cap (List.map VV.str l)
abbrev Z9 (ob : Option Nat) (l : List ByteArray) (cap : Nat) : VV := .sl ob (List.map VV.str l).length cap
abbrev X73 (b : Nat) (x : T_api_Term) : HE := .box b 73 (T_api_Term.cells x)
abbrev X100 (b : Nat) (x : T_api_Node) : HE := .box b 100 (T_api_Node.cells x)
abbrev L73 (l : List T_api_Term) : VV := .list 73 (List.map T_api_Term.vv l)
abbrev X29 (b : Nat) (x : T_api_Pod) : HE := .box b 29 (T_api_Pod.cells x)
abbrev L24 (l : List (List T_api_Label)) : VV := .list 24 (List.map (fun (q : List T_api_Label) => VV.list 141 (List.map T_api_Label.vv q)) l)
abbrev KR2 (p0 p1 : Nat) : List VV := [.agg [.str (⟨#[104, 97, 115]⟩ : ByteArray), .str (⟨#[109, 112, 112, 110, 110]⟩ : ByteArray), .bool false, .clo (.func 139) [] [.ptr p0 0]], .agg [.str (⟨#[108, 97, 98, 101, 108]⟩ : ByteArray), .str (⟨#[119, 97]⟩ : ByteArray), .bool true, .clo (.func 166) [] [.ptr p1 0]], .agg [.str (⟨#[116, 97, 105, 110, 116]⟩ : ByteArray), .str (⟨#[119, 97, 101]⟩ : ByteArray), .bool true, .clo (.func 140) [] [.ptr p0 0]]]
abbrev KR3 (p0 p1 p2 p3 : Nat) : List VV := [.agg [.str (⟨#[103, 114, 111, 117, 112]⟩ : ByteArray), .str (⟨#[119]⟩ : ByteArray), .bool false, .clo (.func 137) [] [.ptr p0 0]], .agg [.str (⟨#[114, 101, 97, 100, 121]⟩ : ByteArray), .str (⟨#[]⟩ : ByteArray), .bool false, .clo (.func 138) [] [.ptr p1 0]], .agg [.str (⟨#[104, 97, 115]⟩ : ByteArray), .str (⟨#[109, 112, 112, 110, 110]⟩ : ByteArray), .bool false, .clo (.func 139) [] [.ptr p2 0]], .agg [.str (⟨#[108, 97, 98, 101, 108]⟩ : ByteArray), .str (⟨#[119, 97]⟩ : ByteArray), .bool true, .clo (.func 166) [] [.ptr p3 0]], .agg [.str (⟨#[116, 97, 105, 110, 116]⟩ : ByteArray), .str (⟨#[119, 97, 101]⟩ : ByteArray), .bool true, .clo (.func 140) [] [.ptr p2 0]]]
abbrev Z143 (ob : Option Nat) (l : List T_api_Taint) (cap : Nat) : VV := .sl ob (List.map T_api_Taint.vv l).length cap
abbrev Q143 (ob : Option Nat) (cap : Nat) (l : List T_api_Taint) : HE := .row ob 143 cap (List.map T_api_Taint.vv l)
abbrev AL4 (k p0 p1 p2 p3 : Nat) : VV := V.alt k [.nilfn, .clo (.func 137) [] [.ptr p0 0], .clo (.func 138) [] [.ptr p1 0], .clo (.func 139) [] [.ptr p2 0], .clo (.func 166) [] [.ptr p3 0], .clo (.func 140) [] [.ptr p2 0]]
abbrev X41 (b : Nat) (x : T_api_Machine) : HE := .box b 41 (T_api_Machine.cells x)
abbrev X143 (b : Nat) (x : T_api_Taint) : HE := .box b 143 (T_api_Taint.cells x)
abbrev KR5 (p0 p1 p2 p3 p4 : Nat) : List VV := [.agg [.str (⟨#[115, 105, 122, 101]⟩ : ByteArray), .str (⟨#[110, 110]⟩ : ByteArray), .bool false, .clo (.func 89) [] [.ptr p0 0]], .agg [.str (⟨#[112, 114, 105, 99, 101]⟩ : ByteArray), .str (⟨#[110]⟩ : ByteArray), .bool false, .clo (.func 141) [] [.ptr p1 0]], .agg [.str (⟨#[114, 97, 110, 107]⟩ : ByteArray), .str (⟨#[110]⟩ : ByteArray), .bool false, .clo (.func 141) [] [.ptr p2 0]], .agg [.str (⟨#[104, 97, 115]⟩ : ByteArray), .str (⟨#[109, 112, 112, 110, 110]⟩ : ByteArray), .bool false, .clo (.func 139) [] [.ptr p3 0]], .agg [.str (⟨#[108, 97, 98, 101, 108]⟩ : ByteArray), .str (⟨#[119, 97]⟩ : ByteArray), .bool true, .clo (.func 166) [] [.ptr p4 0]], .agg [.str (⟨#[116, 97, 105, 110, 116]⟩ : ByteArray), .str (⟨#[119, 97, 101]⟩ : ByteArray), .bool true, .clo (.func 140) [] [.ptr p3 0]]]
abbrev AL6 (k p0 p1 p2 p3 p4 : Nat) : VV := V.alt k [.nilfn, .clo (.func 89) [] [.ptr p0 0], .clo (.func 141) [] [.ptr p1 0], .clo (.func 141) [] [.ptr p2 0], .clo (.func 139) [] [.ptr p3 0], .clo (.func 166) [] [.ptr p4 0], .clo (.func 140) [] [.ptr p3 0]]
abbrev X48 (b : Nat) (x : T_api_Group) : HE := .box b 48 (T_api_Group.cells x)
abbrev X189 (b : Nat) (x : Arr20_Int) : HE := .box b 189 (Arr20_Int.cells x)
abbrev X144 (b : Nat) (x : Arr5_ByteArray) : HE := .box b 144 (Arr5_ByteArray.cells x)
abbrev L5 (l : List Int) : VV := .list 5 (List.map (VV.int .u8) l)
abbrev X76 (b : Nat) (x : T_spec_writer) : HE := .box b 76 (T_spec_writer.cells x)
theorem ld41 : ldB Tryz.prog 41 10 true = true := by kernel_rfl
theorem ld9 : ldB Tryz.prog 9 1 false = true := by kernel_rfl
theorem fa41_1 : faB Tryz.prog 41 1 1 = true := by kernel_rfl
theorem ld24 : ldB Tryz.prog 24 1 false = true := by kernel_rfl
theorem el24 : elB Tryz.prog 24 141 2 = true := by kernel_rfl
theorem fn42 : fnB Tryz.prog 42 = true := by kernel_rfl
theorem ld39 : ldB Tryz.prog 39 1 false = true := by kernel_rfl
theorem el26 : elB Tryz.prog 26 83 4 = true := by kernel_rfl
theorem el39 : elB Tryz.prog 39 143 3 = true := by kernel_rfl
theorem fa143_1 : faB Tryz.prog 143 1 1 = true := by kernel_rfl
theorem fn43 : fnB Tryz.prog 43 = true := by kernel_rfl
theorem fn160 : fnB Tryz.prog 160 = true := by kernel_rfl
theorem mixed : Tryz.prog.follows .mixedOrders = true := by kernel_rfl
theorem fn116 : fnB Tryz.prog 116 = true := by kernel_rfl
theorem fn183 : fnB Tryz.prog 183 = true := by kernel_rfl
theorem pl174 : plV Tryz.prog 174 = some (fun i => [(0, 1), (1, 1), (2, 1), (3, 1), (4, 1)].toArray[i]?, [.int .i64 (0 : Int), .str (⟨#[]⟩ : ByteArray), .int .i64 (0 : Int), .int .i64 (0 : Int), .int .i64 (0 : Int)]) := by kernel_rfl
theorem fn169 : fnB Tryz.prog 169 = true := by kernel_rfl
theorem fa174_0 : faB Tryz.prog 174 0 0 = true := by kernel_rfl
theorem ld3 : ldB Tryz.prog 3 1 false = true := by kernel_rfl
theorem fa174_1 : faB Tryz.prog 174 1 1 = true := by kernel_rfl
theorem el160 : elB Tryz.prog 160 5 1 = true := by kernel_rfl
theorem ap160 : apB Tryz.prog 160 5 1 1 = true := by kernel_rfl
theorem u8z5 : (Tryz.prog.info? 5).bind (·.zero) = some (.int .u8 0) := by kernel_rfl
theorem fn170 : fnB Tryz.prog 170 = true := by kernel_rfl
theorem fn117 : fnB Tryz.prog 117 = true := by kernel_rfl
theorem fn171 : fnB Tryz.prog 171 = true := by kernel_rfl
theorem fn168 : fnB Tryz.prog 168 = true := by kernel_rfl
theorem ld174 : ldB Tryz.prog 174 5 true = true := by kernel_rfl
theorem el170 : elB Tryz.prog 170 174 5 = true := by kernel_rfl
theorem ap170 : apB Tryz.prog 170 174 5 48 = true := by kernel_rfl
theorem z174 : zV Tryz.prog 174 = some [.int .i64 (0 : Int), .str (⟨#[]⟩ : ByteArray), .int .i64 (0 : Int), .int .i64 (0 : Int), .int .i64 (0 : Int)] := by kernel_rfl
theorem fn167 : fnB Tryz.prog 167 = true := by kernel_rfl
theorem fa174_2 : faB Tryz.prog 174 2 2 = true := by kernel_rfl
theorem el27 : elB Tryz.prog 27 3 1 = true := by kernel_rfl
theorem pl100 : plV Tryz.prog 100 = some (fun i => [(0, 1), (1, 1), (2, 1), (3, 1)].toArray[i]?, [.int .i64 (0 : Int), .str (⟨#[]⟩ : ByteArray), .int .i64 (0 : Int), .int .i64 (0 : Int)]) := by kernel_rfl
theorem el36 : elB Tryz.prog 36 100 4 = true := by kernel_rfl
theorem ap36 : apB Tryz.prog 36 100 4 40 = true := by kernel_rfl
theorem ap27 : apB Tryz.prog 27 3 1 8 = true := by kernel_rfl
theorem fa100_2 : faB Tryz.prog 100 2 2 = true := by kernel_rfl
theorem fa100_3 : faB Tryz.prog 100 3 3 = true := by kernel_rfl
theorem fn135 : fnB Tryz.prog 135 = true := by kernel_rfl
theorem fn78 : fnB Tryz.prog 78 = true := by kernel_rfl
theorem pl23 : plV Tryz.prog 23 = some (fun i => [(0, 1), (1, 1), (2, 1), (3, 1), (4, 1)].toArray[i]?, [.int .i64 (0 : Int), .int .i64 (0 : Int), .int .i64 (0 : Int), .int .i64 (0 : Int), .int .i64 (0 : Int)]) := by kernel_rfl
theorem pl29 : plV Tryz.prog 29 = some (fun i => [(0, 1), (1, 5), (6, 1), (7, 1), (8, 1), (9, 1), (10, 1), (11, 1), (12, 1), (13, 1), (14, 1), (15, 1), (16, 1), (17, 1), (18, 1), (19, 1)].toArray[i]?, [.str (⟨#[]⟩ : ByteArray), .int .i64 (0 : Int), .int .i64 (0 : Int), .int .i64 (0 : Int), .int .i64 (0 : Int), .int .i64 (0 : Int), .sl none 0 0, .sl none 0 0, .sl none 0 0, .sl none 0 0, .sl none 0 0, .sl none 0 0, .bool false, .sl none 0 0, .int .i64 (0 : Int), .int .i64 (0 : Int), .str (⟨#[]⟩ : ByteArray), .bool false, .bool false, .bool false]) := by kernel_rfl
theorem pl110 : plV Tryz.prog 110 = some (fun i => [(0, 1), (1, 1), (2, 1), (3, 1)].toArray[i]?, [.str (⟨#[]⟩ : ByteArray), .str (⟨#[]⟩ : ByteArray), .bool false, .nilfn]) := by kernel_rfl
theorem ap96 : apB Tryz.prog 96 110 4 48 = true := by kernel_rfl
theorem fn85 : fnB Tryz.prog 85 = true := by kernel_rfl
theorem fn84 : fnB Tryz.prog 84 = true := by kernel_rfl
theorem fn91 : fnB Tryz.prog 91 = true := by kernel_rfl
theorem fn129 : fnB Tryz.prog 129 = true := by kernel_rfl
theorem fn124 : fnB Tryz.prog 124 = true := by kernel_rfl
theorem ld27 : ldB Tryz.prog 27 1 false = true := by kernel_rfl
theorem fn174 : fnB Tryz.prog 174 = true := by kernel_rfl
theorem fn173 : fnB Tryz.prog 173 = true := by kernel_rfl
theorem z27 : zV Tryz.prog 27 = some [.sl none 0 0] := by kernel_rfl
theorem fn148 : fnB Tryz.prog 148 = true := by kernel_rfl
theorem ld100 : ldB Tryz.prog 100 4 true = true := by kernel_rfl
theorem z100 : zV Tryz.prog 100 = some [.int .i64 (0 : Int), .str (⟨#[]⟩ : ByteArray), .int .i64 (0 : Int), .int .i64 (0 : Int)] := by kernel_rfl
theorem pl165 : plV Tryz.prog 165 = some (fun i => [(0, 1), (1, 1), (2, 1), (3, 1), (4, 1)].toArray[i]?, [.sl none 0 0, .sl none 0 0, .nilmap, .int .i64 (0 : Int), .int .i64 (0 : Int)]) := by kernel_rfl
theorem fn125 : fnB Tryz.prog 125 = true := by kernel_rfl
theorem el96 : elB Tryz.prog 96 110 4 = true := by kernel_rfl
theorem ld110 : ldB Tryz.prog 110 4 true = true := by kernel_rfl
theorem z110 : zV Tryz.prog 110 = some [.str (⟨#[]⟩ : ByteArray), .str (⟨#[]⟩ : ByteArray), .bool false, .nilfn] := by kernel_rfl
theorem zc3 : (Tryz.prog.info? 3).bind (·.zero) = some (.int .i64 0) := by kernel_rfl
theorem mk9 : KeyOk Tryz.prog 9 VV.str Value.string TypeDesc.string := KeyOk.str Tryz.underlying9
theorem ld4 : ldB Tryz.prog 4 1 false = true := by kernel_rfl
theorem ld33 : ldB Tryz.prog 33 1 false = true := by kernel_rfl
theorem fn164 : fnB Tryz.prog 164 = true := by kernel_rfl
theorem nif9 : nifB Tryz.prog 9 = true := by kernel_rfl
theorem fn178 : fnB Tryz.prog 178 = true := by kernel_rfl
theorem fn177 : fnB Tryz.prog 177 = true := by kernel_rfl
theorem nif228 : nifB Tryz.prog 228 = true := by kernel_rfl
theorem fn204 : fnB Tryz.prog 204 = true := by kernel_rfl
theorem fn205 : fnB Tryz.prog 205 = true := by kernel_rfl
theorem pl234 : plV Tryz.prog 234 = some (fun i => [].toArray[i]?, []) := by kernel_rfl
theorem nif234 : nifB Tryz.prog 234 = true := by kernel_rfl
theorem zg228 : zgV Tryz.prog 228 = some (.int .i64 (0 : Int)) := by kernel_rfl
theorem I_any20_ta228 : ∀ x : I_any20, VV.tup [if (!x.isNil && x.ty == 228) = true then x.val else (.int .i64 (0 : Int)), .bool (!x.isNil && x.ty == 228)] = .tup [(VV.int .i64) (x.as228), .bool x.is228] := fun x => by cases x <;> rfl
theorem fn201 : fnB Tryz.prog 201 = true := by kernel_rfl
theorem fn212 : fnB Tryz.prog 212 = true := by kernel_rfl
theorem fn211 : fnB Tryz.prog 211 = true := by kernel_rfl
theorem fn207 : fnB Tryz.prog 207 = true := by kernel_rfl
theorem fn206 : fnB Tryz.prog 206 = true := by kernel_rfl
theorem fn202 : fnB Tryz.prog 202 = true := by kernel_rfl
theorem fn200 : fnB Tryz.prog 200 = true := by kernel_rfl
theorem fn199 : fnB Tryz.prog 199 = true := by kernel_rfl
theorem fn193 : fnB Tryz.prog 193 = true := by kernel_rfl
theorem fn180 : fnB Tryz.prog 180 = true := by kernel_rfl
theorem fn181 : fnB Tryz.prog 181 = true := by kernel_rfl
theorem fn158 : fnB Tryz.prog 158 = true := by kernel_rfl
theorem ap65 : apB Tryz.prog 65 9 1 16 = true := by kernel_rfl
theorem el65 : elB Tryz.prog 65 9 1 = true := by kernel_rfl
theorem fn182 : fnB Tryz.prog 182 = true := by kernel_rfl
theorem fn49 : fnB Tryz.prog 49 = true := by kernel_rfl
theorem fn50 : fnB Tryz.prog 50 = true := by kernel_rfl
theorem nif3 : nifB Tryz.prog 3 = true := by kernel_rfl
theorem fn165 : fnB Tryz.prog 165 = true := by kernel_rfl
theorem el81 : elB Tryz.prog 81 20 1 = true := by kernel_rfl
theorem ap81 : apB Tryz.prog 81 20 1 16 = true := by kernel_rfl
theorem ld20 : ldB Tryz.prog 20 1 false = true := by kernel_rfl
theorem I_any20_tp3 : ∀ {x : I_any20}, x.is3 = true → (!x.isNil && x.ty == 3) = true ∧ x.val = (VV.int .i64) (x.as3) := by intro x h; cases x <;> first | exact ⟨rfl, rfl⟩ | cases h
theorem ld23 : ldB Tryz.prog 23 5 true = true := by kernel_rfl
theorem z23 : zV Tryz.prog 23 = some [.int .i64 (0 : Int), .int .i64 (0 : Int), .int .i64 (0 : Int), .int .i64 (0 : Int), .int .i64 (0 : Int)] := by kernel_rfl
theorem fn90 : fnB Tryz.prog 90 = true := by kernel_rfl
theorem fa23_4 : faB Tryz.prog 23 4 4 = true := by kernel_rfl
theorem fa23_3 : faB Tryz.prog 23 3 3 = true := by kernel_rfl
theorem fn128 : fnB Tryz.prog 128 = true := by kernel_rfl
theorem fn127 : fnB Tryz.prog 127 = true := by kernel_rfl
theorem I_any20_tp9 : ∀ {x : I_any20}, x.is9 = true → (!x.isNil && x.ty == 9) = true ∧ x.val = VV.str (x.as9) := by intro x h; cases x <;> first | exact ⟨rfl, rfl⟩ | cases h
theorem pl141 : plV Tryz.prog 141 = some (fun i => [(0, 1), (1, 1)].toArray[i]?, [.str (⟨#[]⟩ : ByteArray), .str (⟨#[]⟩ : ByteArray)]) := by kernel_rfl
theorem ap24 : apB Tryz.prog 24 141 2 32 = true := by kernel_rfl
theorem fn131 : fnB Tryz.prog 131 = true := by kernel_rfl
theorem fn166 : fnB Tryz.prog 166 = true := by kernel_rfl
theorem pl73 : plV Tryz.prog 73 = some (fun i => [(0, 1), (1, 1), (2, 1)].toArray[i]?, [.str (⟨#[]⟩ : ByteArray), .int .i64 (0 : Int), .sl none 0 0]) := by kernel_rfl
theorem ld73 : ldB Tryz.prog 73 3 true = true := by kernel_rfl
theorem z73 : zV Tryz.prog 73 = some [.str (⟨#[]⟩ : ByteArray), .int .i64 (0 : Int), .sl none 0 0] := by kernel_rfl
theorem fa73_2 : faB Tryz.prog 73 2 2 = true := by kernel_rfl
theorem ld65 : ldB Tryz.prog 65 1 false = true := by kernel_rfl
theorem ld25 : ldB Tryz.prog 25 1 false = true := by kernel_rfl
theorem el25 : elB Tryz.prog 25 73 3 = true := by kernel_rfl
theorem ap25 : apB Tryz.prog 25 73 3 48 = true := by kernel_rfl
theorem fn130 : fnB Tryz.prog 130 = true := by kernel_rfl
theorem ld26 : ldB Tryz.prog 26 1 false = true := by kernel_rfl
theorem pl83 : plV Tryz.prog 83 = some (fun i => [(0, 1), (1, 1), (2, 1), (3, 1)].toArray[i]?, [.str (⟨#[]⟩ : ByteArray), .str (⟨#[]⟩ : ByteArray), .bool false, .int .i64 (0 : Int)]) := by kernel_rfl
theorem ap26 : apB Tryz.prog 26 83 4 48 = true := by kernel_rfl
theorem fn132 : fnB Tryz.prog 132 = true := by kernel_rfl
theorem fn133 : fnB Tryz.prog 133 = true := by kernel_rfl
theorem fn134 : fnB Tryz.prog 134 = true := by kernel_rfl
theorem fn141 : fnB Tryz.prog 141 = true := by kernel_rfl
theorem fn137 : fnB Tryz.prog 137 = true := by kernel_rfl
theorem fn138 : fnB Tryz.prog 138 = true := by kernel_rfl
theorem fn163 : fnB Tryz.prog 163 = true := by kernel_rfl
theorem fn126 : fnB Tryz.prog 126 = true := by kernel_rfl
theorem ld29 : ldB Tryz.prog 29 20 true = true := by kernel_rfl
theorem fn159 : fnB Tryz.prog 159 = true := by kernel_rfl
theorem fn111 : fnB Tryz.prog 111 = true := by kernel_rfl
theorem fn112 : fnB Tryz.prog 112 = true := by kernel_rfl
theorem fn110 : fnB Tryz.prog 110 = true := by kernel_rfl
theorem fn55 : fnB Tryz.prog 55 = true := by kernel_rfl
theorem fn108 : fnB Tryz.prog 108 = true := by kernel_rfl
theorem fn109 : fnB Tryz.prog 109 = true := by kernel_rfl
theorem fn53 : fnB Tryz.prog 53 = true := by kernel_rfl
theorem el86 : elB Tryz.prog 86 24 1 = true := by kernel_rfl
theorem ld141 : ldB Tryz.prog 141 2 true = true := by kernel_rfl
theorem z141 : zV Tryz.prog 141 = some [.str (⟨#[]⟩ : ByteArray), .str (⟨#[]⟩ : ByteArray)] := by kernel_rfl
theorem fn54 : fnB Tryz.prog 54 = true := by kernel_rfl
theorem ap86 : apB Tryz.prog 86 24 1 24 = true := by kernel_rfl
theorem fn56 : fnB Tryz.prog 56 = true := by kernel_rfl
theorem pl151 : plV Tryz.prog 151 = some (fun i => some (i * 1, 1), [.int .i64 (0 : Int), .int .i64 (0 : Int), .int .i64 (0 : Int), .int .i64 (0 : Int), .int .i64 (0 : Int)]) := by kernel_rfl
theorem ld151 : ldB Tryz.prog 151 5 true = true := by kernel_rfl
theorem z151 : zV Tryz.prog 151 = some [.int .i64 (0 : Int), .int .i64 (0 : Int), .int .i64 (0 : Int), .int .i64 (0 : Int), .int .i64 (0 : Int)] := by kernel_rfl
theorem ar151 : arB Tryz.prog 151 3 5 1 = true := by kernel_rfl
theorem fn113 : fnB Tryz.prog 113 = true := by kernel_rfl
theorem fn58 : fnB Tryz.prog 58 = true := by kernel_rfl
theorem fn57 : fnB Tryz.prog 57 = true := by kernel_rfl
theorem ld83 : ldB Tryz.prog 83 4 true = true := by kernel_rfl
theorem fn114 : fnB Tryz.prog 114 = true := by kernel_rfl
theorem fn115 : fnB Tryz.prog 115 = true := by kernel_rfl
theorem z83 : zV Tryz.prog 83 = some [.str (⟨#[]⟩ : ByteArray), .str (⟨#[]⟩ : ByteArray), .bool false, .int .i64 (0 : Int)] := by kernel_rfl
theorem fn59 : fnB Tryz.prog 59 = true := by kernel_rfl
theorem fn12 : fnB Tryz.prog 12 = true := by kernel_rfl
theorem fn76 : fnB Tryz.prog 76 = true := by kernel_rfl
theorem fn77 : fnB Tryz.prog 77 = true := by kernel_rfl
theorem z29 : zV Tryz.prog 29 = some [.str (⟨#[]⟩ : ByteArray), .int .i64 (0 : Int), .int .i64 (0 : Int), .int .i64 (0 : Int), .int .i64 (0 : Int), .int .i64 (0 : Int), .sl none 0 0, .sl none 0 0, .sl none 0 0, .sl none 0 0, .sl none 0 0, .sl none 0 0, .bool false, .sl none 0 0, .int .i64 (0 : Int), .int .i64 (0 : Int), .str (⟨#[]⟩ : ByteArray), .bool false, .bool false, .bool false] := by kernel_rfl
theorem fa41_5 : faB Tryz.prog 41 5 9 = true := by kernel_rfl
theorem fn139 : fnB Tryz.prog 139 = true := by kernel_rfl
theorem pl143 : plV Tryz.prog 143 = some (fun i => [(0, 1), (1, 1), (2, 1)].toArray[i]?, [.str (⟨#[]⟩ : ByteArray), .str (⟨#[]⟩ : ByteArray), .int .i64 (0 : Int)]) := by kernel_rfl
theorem ap39 : apB Tryz.prog 39 143 3 40 = true := by kernel_rfl
theorem fn140 : fnB Tryz.prog 140 = true := by kernel_rfl
theorem pl41 : plV Tryz.prog 41 = some (fun i => [(0, 1), (1, 1), (2, 5), (7, 1), (8, 1), (9, 1)].toArray[i]?, [.str (⟨#[]⟩ : ByteArray), .str (⟨#[]⟩ : ByteArray), .int .i64 (0 : Int), .int .i64 (0 : Int), .int .i64 (0 : Int), .int .i64 (0 : Int), .int .i64 (0 : Int), .sl none 0 0, .sl none 0 0, .bool false]) := by kernel_rfl
theorem ld143 : ldB Tryz.prog 143 3 true = true := by kernel_rfl
theorem z143 : zV Tryz.prog 143 = some [.str (⟨#[]⟩ : ByteArray), .str (⟨#[]⟩ : ByteArray), .int .i64 (0 : Int)] := by kernel_rfl
def shp143 : Shp := .st (.cons 0 1 false .str (.cons 1 1 false .str (.cons 2 1 false .int .nil)))
theorem eq143 : (shB Tryz.prog shp143 143 && noif Tryz.prog 143 && Nat.ble shp143.ht 9998) = true := by kernel_rfl
theorem fn136 : fnB Tryz.prog 136 = true := by kernel_rfl
theorem fn81 : fnB Tryz.prog 81 = true := by kernel_rfl
theorem fn20 : fnB Tryz.prog 20 = true := by kernel_rfl
theorem fn86 : fnB Tryz.prog 86 = true := by kernel_rfl
theorem z41 : zV Tryz.prog 41 = some [.str (⟨#[]⟩ : ByteArray), .str (⟨#[]⟩ : ByteArray), .int .i64 (0 : Int), .int .i64 (0 : Int), .int .i64 (0 : Int), .int .i64 (0 : Int), .int .i64 (0 : Int), .sl none 0 0, .sl none 0 0, .bool false] := by kernel_rfl
theorem fa48_4 : faB Tryz.prog 48 4 13 = true := by kernel_rfl
theorem fa48_5 : faB Tryz.prog 48 5 14 = true := by kernel_rfl
theorem fa48_1 : faB Tryz.prog 48 1 1 = true := by kernel_rfl
theorem fa48_2 : faB Tryz.prog 48 2 2 = true := by kernel_rfl
theorem fn89 : fnB Tryz.prog 89 = true := by kernel_rfl
theorem pl48 : plV Tryz.prog 48 = some (fun i => [(0, 1), (1, 1), (2, 1), (3, 10), (13, 1), (14, 1)].toArray[i]?, [.str (⟨#[]⟩ : ByteArray), .int .i64 (0 : Int), .int .i64 (0 : Int), .str (⟨#[]⟩ : ByteArray), .str (⟨#[]⟩ : ByteArray), .int .i64 (0 : Int), .int .i64 (0 : Int), .int .i64 (0 : Int), .int .i64 (0 : Int), .int .i64 (0 : Int), .sl none 0 0, .sl none 0 0, .bool false, .int .i64 (0 : Int), .int .i64 (0 : Int)]) := by kernel_rfl
theorem ld48 : ldB Tryz.prog 48 15 true = true := by kernel_rfl
theorem fn26 : fnB Tryz.prog 26 = true := by kernel_rfl
theorem z48 : zV Tryz.prog 48 = some [.str (⟨#[]⟩ : ByteArray), .int .i64 (0 : Int), .int .i64 (0 : Int), .str (⟨#[]⟩ : ByteArray), .str (⟨#[]⟩ : ByteArray), .int .i64 (0 : Int), .int .i64 (0 : Int), .int .i64 (0 : Int), .int .i64 (0 : Int), .int .i64 (0 : Int), .sl none 0 0, .sl none 0 0, .bool false, .int .i64 (0 : Int), .int .i64 (0 : Int)] := by kernel_rfl
def shp23 : Shp := .st (.cons 0 1 false .int (.cons 1 1 false .int (.cons 2 1 false .int (.cons 3 1 false .int (.cons 4 1 false .int .nil)))))
theorem eq23 : (shB Tryz.prog shp23 23 && noif Tryz.prog 23 && Nat.ble shp23.ht 9998) = true := by kernel_rfl
theorem pl76 : plV Tryz.prog 76 = some (fun i => [(0, 1)].toArray[i]?, [.str (⟨#[]⟩ : ByteArray)]) := by kernel_rfl
theorem ar189 : arB Tryz.prog 189 5 20 1 = true := by kernel_rfl
theorem ld5 : ldB Tryz.prog 5 1 false = true := by kernel_rfl
theorem z189 : zV Tryz.prog 189 = some [.int .u8 (0 : Int), .int .u8 (0 : Int), .int .u8 (0 : Int), .int .u8 (0 : Int), .int .u8 (0 : Int), .int .u8 (0 : Int), .int .u8 (0 : Int), .int .u8 (0 : Int), .int .u8 (0 : Int), .int .u8 (0 : Int), .int .u8 (0 : Int), .int .u8 (0 : Int), .int .u8 (0 : Int), .int .u8 (0 : Int), .int .u8 (0 : Int), .int .u8 (0 : Int), .int .u8 (0 : Int), .int .u8 (0 : Int), .int .u8 (0 : Int), .int .u8 (0 : Int)] := by kernel_rfl
theorem fn107 : fnB Tryz.prog 107 = true := by kernel_rfl
theorem pl144 : plV Tryz.prog 144 = some (fun i => some (i * 1, 1), [.str (⟨#[]⟩ : ByteArray), .str (⟨#[]⟩ : ByteArray), .str (⟨#[]⟩ : ByteArray), .str (⟨#[]⟩ : ByteArray), .str (⟨#[]⟩ : ByteArray)]) := by kernel_rfl
theorem ar144 : arB Tryz.prog 144 9 5 1 = true := by kernel_rfl
theorem ld144 : ldB Tryz.prog 144 5 true = true := by kernel_rfl
theorem z144 : zV Tryz.prog 144 = some [.str (⟨#[]⟩ : ByteArray), .str (⟨#[]⟩ : ByteArray), .str (⟨#[]⟩ : ByteArray), .str (⟨#[]⟩ : ByteArray), .str (⟨#[]⟩ : ByteArray)] := by kernel_rfl
theorem zg9 : zgV Tryz.prog 9 = some (.str (⟨#[]⟩ : ByteArray)) := by kernel_rfl
theorem I_any20_ta9 : ∀ x : I_any20, VV.tup [if (!x.isNil && x.ty == 9) = true then x.val else (.str (⟨#[]⟩ : ByteArray)), .bool (!x.isNil && x.ty == 9)] = .tup [VV.str (x.as9), .bool x.is9] := fun x => by cases x <;> rfl
theorem fn79 : fnB Tryz.prog 79 = true := by kernel_rfl
theorem fn45 : fnB Tryz.prog 45 = true := by kernel_rfl
theorem fn47 : fnB Tryz.prog 47 = true := by kernel_rfl
theorem fn46 : fnB Tryz.prog 46 = true := by kernel_rfl
theorem fn52 : fnB Tryz.prog 52 = true := by kernel_rfl
theorem fn51 : fnB Tryz.prog 51 = true := by kernel_rfl
theorem fn48 : fnB Tryz.prog 48 = true := by kernel_rfl
theorem fn11 : fnB Tryz.prog 11 = true := by kernel_rfl
theorem fn80 : fnB Tryz.prog 80 = true := by kernel_rfl
theorem fn25 : fnB Tryz.prog 25 = true := by kernel_rfl
theorem fn19 : fnB Tryz.prog 19 = true := by kernel_rfl
theorem fn29 : fnB Tryz.prog 29 = true := by kernel_rfl
theorem fn16 : fnB Tryz.prog 16 = true := by kernel_rfl
theorem fn23 : fnB Tryz.prog 23 = true := by kernel_rfl
theorem fn15 : fnB Tryz.prog 15 = true := by kernel_rfl
theorem fn10 : fnB Tryz.prog 10 = true := by kernel_rfl
theorem fn18 : fnB Tryz.prog 18 = true := by kernel_rfl
theorem fn63 : fnB Tryz.prog 63 = true := by kernel_rfl
theorem fn60 : fnB Tryz.prog 60 = true := by kernel_rfl
theorem fn62 : fnB Tryz.prog 62 = true := by kernel_rfl
theorem fn118 : fnB Tryz.prog 118 = true := by kernel_rfl
theorem fn61 : fnB Tryz.prog 61 = true := by kernel_rfl
theorem fn119 : fnB Tryz.prog 119 = true := by kernel_rfl
theorem fn121 : fnB Tryz.prog 121 = true := by kernel_rfl
theorem fn65 : fnB Tryz.prog 65 = true := by kernel_rfl
theorem fn122 : fnB Tryz.prog 122 = true := by kernel_rfl
theorem fn123 : fnB Tryz.prog 123 = true := by kernel_rfl
theorem fn82 : fnB Tryz.prog 82 = true := by kernel_rfl
theorem fn21 : fnB Tryz.prog 21 = true := by kernel_rfl
theorem fn27 : fnB Tryz.prog 27 = true := by kernel_rfl
theorem fn69 : fnB Tryz.prog 69 = true := by kernel_rfl
theorem fn72 : fnB Tryz.prog 72 = true := by kernel_rfl
theorem fn70 : fnB Tryz.prog 70 = true := by kernel_rfl
theorem fn68 : fnB Tryz.prog 68 = true := by kernel_rfl
theorem fn67 : fnB Tryz.prog 67 = true := by kernel_rfl
theorem fn73 : fnB Tryz.prog 73 = true := by kernel_rfl
theorem fn83 : fnB Tryz.prog 83 = true := by kernel_rfl
theorem fn74 : fnB Tryz.prog 74 = true := by kernel_rfl
theorem fn28 : fnB Tryz.prog 28 = true := by kernel_rfl
def shp141 : Shp := .st (.cons 0 1 false .str (.cons 1 1 false .str .nil))
theorem eq141 : (shB Tryz.prog shp141 141 && noif Tryz.prog 141 && Nat.ble shp141.ht 9998) = true := by kernel_rfl
theorem fn87 : fnB Tryz.prog 87 = true := by kernel_rfl
theorem fn88 : fnB Tryz.prog 88 = true := by kernel_rfl
theorem fn24 : fnB Tryz.prog 24 = true := by kernel_rfl
theorem fn30 : fnB Tryz.prog 30 = true := by kernel_rfl
def tb : Tb := ⟨[(23, 0, 0), (23, 1, 1), (23, 2, 2), (23, 3, 3), (23, 4, 4), (29, 0, 0), (29, 1, 1), (29, 2, 6), (29, 3, 7), (29, 4, 8), (29, 5, 9), (29, 6, 10), (29, 7, 11), (29, 8, 12), (29, 9, 13), (29, 10, 14), (29, 11, 15), (29, 12, 16), (29, 13, 17), (29, 14, 18), (29, 15, 19), (41, 0, 0), (41, 1, 1), (41, 2, 2), (41, 3, 7), (41, 4, 8), (41, 5, 9), (48, 0, 0), (48, 1, 1), (48, 2, 2), (48, 3, 3), (48, 4, 13), (48, 5, 14), (73, 0, 0), (73, 1, 1), (73, 2, 2), (76, 0, 0), (83, 0, 0), (83, 1, 1), (83, 2, 2), (83, 3, 3), (100, 0, 0), (100, 1, 1), (100, 2, 2), (100, 3, 3), (110, 0, 0), (110, 1, 1), (110, 2, 2), (110, 3, 3), (141, 0, 0), (141, 1, 1), (143, 0, 0), (143, 1, 1), (143, 2, 2), (165, 0, 0), (165, 1, 1), (165, 2, 2), (165, 3, 3), (165, 4, 4), (174, 0, 0), (174, 1, 1), (174, 2, 2)], [(3, 1, false), (4, 1, false), (5, 1, false), (9, 1, false), (20, 1, false), (23, 5, true), (24, 1, false), (25, 1, false), (26, 1, false), (27, 1, false), (29, 20, true), (33, 1, false), (36, 1, false), (39, 1, false), (41, 10, true), (48, 15, true), (65, 1, false), (73, 3, true), (83, 4, true), (96, 1, false), (98, 1, false), (100, 4, true), (106, 1, false), (108, 1, false), (110, 4, true), (112, 1, false), (114, 1, false), (119, 1, false), (141, 2, true), (143, 3, true), (144, 5, true), (147, 1, false), (151, 5, true), (169, 1, false), (174, 5, true)]⟩
theorem tbk : tb.ok Tryz.prog = true := by kernel_rfl
theorem Aa : type_of% @VR.p := @VR.p
theorem Ab : type_of% @VR.ru := @VR.ru
theorem Ac : type_of% @VR.nil := @VR.nil
theorem Ad : type_of% @VR.cons := @VR.cons
theorem Ae : type_of% @VW.sr := @VW.sr
theorem Af : type_of% @VW.seq := @VW.seq
theorem Ag : type_of% @VW.rr := @VW.rr
theorem Ah : type_of% @Shift.pk := @Shift.pk
theorem Ai : type_of% @VA.one := @VA.one
theorem Aj : type_of% @VW.skip := @VW.skip
theorem Ak : type_of% @VP.move := @VP.move
theorem Al : type_of% @VO.storeP := @VO.storeP
theorem Am : type_of% @VP.assign := @VP.assign
theorem An : type_of% @VA.ru := @VA.ru
theorem Ao : type_of% @VB.o := @VB.o
theorem Aq : type_of% @Tryz.underlying9 := @Tryz.underlying9
theorem Au : type_of% @VA.p := @VA.p
theorem Av : type_of% @VW.if_ := @VW.if_
theorem Aw : type_of% @VO.callK := @VO.callK
theorem Ax : type_of% @VO.buildSlice := @VO.buildSlice
theorem Ay : type_of% @VA.done := @VA.done
theorem Az : type_of% @Shift.freezeE := @Shift.freezeE
theorem A0 : type_of% @VR.shift := @VR.shift
theorem A1 : type_of% @VO.cl := @VO.cl
theorem A2 : type_of% @VP.glE := @VP.glE
theorem A3 : type_of% @VW.drawK := @VW.drawK
theorem A4 : type_of% @VW.block := @VW.block
theorem A5 : type_of% @VP.buildP := @VP.buildP
theorem A6 : type_of% @VP.pickB := @VP.pickB
theorem A7 : type_of% @Shift.mem := @Shift.mem
theorem A8 : type_of% @VS.run := @VS.run
theorem A9 : type_of% @VO.alloc := @VO.alloc
theorem Ba : type_of% @VW.shift := @VW.shift
theorem Bb : type_of% @VW.region := @VW.region
theorem Bc : type_of% @Shift.nilRow := @Shift.nilRow
theorem Be : type_of% @VW.exit := @VW.exit
theorem Bf : type_of% @VW.r1 := @VW.r1
theorem Bg : type_of% @VP.lenT := @VP.lenT
theorem Bh : type_of% @VP.arith := @VP.arith
theorem Bi : type_of% @Tryz.underlying27 := @Tryz.underlying27
theorem Bk : type_of% @VR.consG := @VR.consG
theorem Bl : type_of% @VP.catT := @VP.catT
theorem Bm : type_of% @Tryz.underlying4 := @Tryz.underlying4
theorem Bn : type_of% @VP.loadE := @VP.loadE
theorem Bo : type_of% @Tryz.underlying5 := @Tryz.underlying5
theorem Bp : type_of% @VW.condT := @VW.condT
theorem Bq : type_of% @VP.loadP := @VP.loadP
theorem Br : type_of% @VR.sm := @VR.sm
theorem Bs : type_of% @VO.apT := @VO.apT
theorem Bt : type_of% @VR.pG := @VR.pG
theorem Bu : type_of% @Tryz.underlying3 := @Tryz.underlying3
theorem Bv : type_of% @VA.pG := @VA.pG
theorem Bw : type_of% @VP.nilCheckP := @VP.nilCheckP
theorem Bx : type_of% @VR.gand := @VR.gand
theorem Bz : type_of% @VP.loadR := @VP.loadR
theorem B0 : type_of% @VA.all := @VA.all
theorem B1 : type_of% @VP.lenS := @VP.lenS
theorem B2 : type_of% @VCx.run := @VCx.run
theorem B3 : type_of% @Shift.pick := @Shift.pick
theorem B4 : type_of% @VP.vo := @VP.vo
theorem B5 : type_of% @Shift.trans := @Shift.trans
theorem B6 : type_of% @VP.boolop := @VP.boolop
theorem B7 : type_of% @VP.indexR := @VP.indexR
theorem B8 : type_of% @Tryz.underlying24 := @Tryz.underlying24
theorem B9 : type_of% @VP.convI := @VP.convI
theorem Ca : type_of% @VW.js := @VW.js
theorem Cb : type_of% @VP.mkI := @VP.mkI
theorem Cc : type_of% @VW.condF := @VW.condF
theorem Cd : type_of% @Tryz.underlying39 := @Tryz.underlying39
theorem Ce : type_of% @VW.jo' := @VW.jo'
theorem Cf : type_of% @Tryz.underlying147 := @Tryz.underlying147
theorem Cg : type_of% @Shift.re := @Shift.re
theorem Ch : type_of% @VO.box := @VO.box
theorem Ci : type_of% @VP.gi := @VP.gi
theorem Cj : type_of% @VA.sm := @VA.sm
theorem Ck : type_of% @VW.bf := @VW.bf
theorem Cl : type_of% @VP.fieldP := @VP.fieldP
theorem Cm : type_of% @VW.ret := @VW.ret
theorem Cn : type_of% @VR.gor := @VR.gor
theorem Co : type_of% @Tryz.underlying235 := @Tryz.underlying235
theorem Cp : type_of% @VW.lenM := @VW.lenM
theorem Cq : type_of% @VP.makeFunc := @VP.makeFunc
theorem Cr : type_of% @VP.glK := @VP.glK
theorem Cs : type_of% @Tryz.underlying65 := @Tryz.underlying65
theorem Ct : type_of% @VL.s := @VL.s
theorem Cu : type_of% @VW.be := @VW.be
theorem Cv : type_of% @VP.fieldR := @VP.fieldR
theorem Cw : type_of% @VP.not := @VP.not
theorem Cx : type_of% @VW.js' := @VW.js'
theorem Cy : type_of% @VP.quoT := @VP.quoT
theorem Cz : type_of% @Shift.nilList := @Shift.nilList
theorem C0 : type_of% @VP.shrT := @VP.shrT
theorem C1 : type_of% @VP.ssT := @VP.ssT
theorem C2 : type_of% @Tryz.underlying26 := @Tryz.underlying26
theorem C3 : type_of% @VP.remT := @VP.remT
theorem C4 : type_of% @VP.glR := @VP.glR
theorem C5 : type_of% @VR.so := @VR.so
theorem C6 : type_of% @VP.lenRT := @VP.lenRT
theorem C7 : type_of% @Tryz.func166 := @Tryz.func166
theorem C8 : type_of% @VP.lookup := @VP.lookup
theorem C9 : type_of% @Tryz.underlying36 := @Tryz.underlying36
theorem Da : type_of% @VR.sa := @VR.sa
theorem Db : type_of% @VO.cl2 := @VO.cl2
theorem Dc : type_of% @Tryz.func138 := @Tryz.func138
theorem Dd : type_of% @VA.shift := @VA.shift
theorem De : type_of% @VO.cl1 := @VO.cl1
theorem Df : type_of% @Tryz.underlying25 := @Tryz.underlying25
theorem Dg : type_of% @Tryz.underlying81 := @Tryz.underlying81
theorem Dh : type_of% @Tryz.underlying96 := @Tryz.underlying96
theorem Di : type_of% @VP.assignI := @VP.assignI
theorem Dj : type_of% @VP.slT := @VP.slT
theorem Dk : type_of% @Tryz.func141 := @Tryz.func141
theorem Dl : type_of% @VO.mapUpdate := @VO.mapUpdate
theorem Dm : type_of% @VS2.run := @VS2.run
theorem Dn : type_of% @VO.makeMap := @VO.makeMap
theorem Dp : type_of% @VP.extract := @VP.extract
theorem Dq : type_of% @VP.convBL := @VP.convBL
theorem Dr : type_of% @Tryz.underlying159 := @Tryz.underlying159
theorem Ds : type_of% @Tryz.func163 := @Tryz.func163
theorem Dt : type_of% @Tryz.func164 := @Tryz.func164
theorem Du : type_of% @Tryz.func126 := @Tryz.func126
theorem Dv : type_of% @VP.andT := @VP.andT
theorem Dw : type_of% @VP.tassertP := @VP.tassertP
theorem Dx : type_of% @Tryz.func76 := @Tryz.func76
theorem Dy : type_of% @VP.eqS := @VP.eqS
theorem Dz : type_of% @VR.someRow := @VR.someRow
theorem D0 : type_of% @Shift.reSl := @Shift.reSl
end Go.Proofs.YtkondhigbbgidaaGreat.M

/-
  Printed by a program of this session out of the loaded functions: models and their proofs. Own text.
-/
import Derived.Test.YtfenmdnodoogbaaVEq
import Derived.Test.YtfenmdnodoogbaaProg
import Derived.KernelRfl
namespace Go.Proofs.Ytfenmdnodoogbaa.M
open Go Go.Proofs Go.Proofs.Ytfenmdnodoogbaa.V
set_option linter.unusedVariables false
set_option maxRecDepth 20000
set_option maxHeartbeats 4000000
structure T_api_Token where
  Kind : Int
  Text : ByteArray
  At : Int
  Line : Int
  Col : Int
  deriving DecidableEq
def T_api_Token.cells (x : T_api_Token) : List VV := [.int .i64 x.Kind, .str x.Text, .int .i64 x.At, .int .i64 x.Line, .int .i64 x.Col]
def T_api_Token.vv (x : T_api_Token) : VV := .agg x.cells

structure T_lex_scanner where
  s : ByteArray
  at_ : Int
  line : Int
  from_ : Int
  deriving DecidableEq
def T_lex_scanner.cells (x : T_lex_scanner) : List VV := [.str x.s, .int .i64 x.at_, .int .i64 x.line, .int .i64 x.from_]
def T_lex_scanner.vv (x : T_lex_scanner) : VV := .agg x.cells

structure T_lex_fault where
  e : Int
  at_ : Int
  deriving DecidableEq
def T_lex_fault.cells (x : T_lex_fault) : List VV := [.int .i64 x.e, .int .i64 x.at_]
def T_lex_fault.vv (x : T_lex_fault) : VV := .agg x.cells

theorem el26 : elB Try.prog 26 28 5 = true := by kernel_rfl
theorem fa28_0 : faB Try.prog 28 0 0 = true := by kernel_rfl
theorem ld3 : ldB Try.prog 3 1 false = true := by kernel_rfl
theorem fa28_1 : faB Try.prog 28 1 1 = true := by kernel_rfl
theorem ld9 : ldB Try.prog 9 1 false = true := by kernel_rfl
theorem ld28 : ldB Try.prog 28 5 true = true := by kernel_rfl
def shp28 : Shp := .st (.cons 0 1 false .int (.cons 1 1 false .str (.cons 2 1 false .int (.cons 3 1 false .int (.cons 4 1 false .int .nil)))))
theorem eq28 : (shB Try.prog shp28 28 && noif Try.prog 28 && Nat.ble shp28.ht 9998) = true := by kernel_rfl
theorem mixed : Try.prog.follows .mixedOrders = true := by kernel_rfl
theorem pl46 : plV Try.prog 46 = some (fun i => [(0, 1), (1, 1), (2, 1), (3, 1)].toArray[i]?, [.str (⟨#[]⟩ : ByteArray), .int .i64 (0 : Int), .int .i64 (0 : Int), .int .i64 (0 : Int)]) := by kernel_rfl
theorem fa46_1 : faB Try.prog 46 1 1 = true := by kernel_rfl
theorem fa46_0 : faB Try.prog 46 0 0 = true := by kernel_rfl
theorem fa46_2 : faB Try.prog 46 2 2 = true := by kernel_rfl
theorem fa46_3 : faB Try.prog 46 3 3 = true := by kernel_rfl
theorem fn24 : fnB Try.prog 24 = true := by kernel_rfl
theorem pl28 : plV Try.prog 28 = some (fun i => [(0, 1), (1, 1), (2, 1), (3, 1), (4, 1)].toArray[i]?, [.int .i64 (0 : Int), .str (⟨#[]⟩ : ByteArray), .int .i64 (0 : Int), .int .i64 (0 : Int), .int .i64 (0 : Int)]) := by kernel_rfl
theorem z28 : zV Try.prog 28 = some [.int .i64 (0 : Int), .str (⟨#[]⟩ : ByteArray), .int .i64 (0 : Int), .int .i64 (0 : Int), .int .i64 (0 : Int)] := by kernel_rfl
theorem fn14 : fnB Try.prog 14 = true := by kernel_rfl
theorem fn28 : fnB Try.prog 28 = true := by kernel_rfl
theorem fn32 : fnB Try.prog 32 = true := by kernel_rfl
theorem fn20 : fnB Try.prog 20 = true := by kernel_rfl
theorem pl48 : plV Try.prog 48 = some (fun i => [(0, 1), (1, 1)].toArray[i]?, [.int .i64 (0 : Int), .int .i64 (0 : Int)]) := by kernel_rfl
theorem ld48 : ldB Try.prog 48 2 true = true := by kernel_rfl
theorem z48 : zV Try.prog 48 = some [.int .i64 (0 : Int), .int .i64 (0 : Int)] := by kernel_rfl
theorem fa48_0 : faB Try.prog 48 0 0 = true := by kernel_rfl
theorem ld31 : ldB Try.prog 31 1 false = true := by kernel_rfl
theorem fn29 : fnB Try.prog 29 = true := by kernel_rfl
theorem el36 : elB Try.prog 36 5 1 = true := by kernel_rfl
theorem ap36 : apB Try.prog 36 5 1 1 = true := by kernel_rfl
theorem fn33 : fnB Try.prog 33 = true := by kernel_rfl
theorem u8z5 : (Try.prog.info? 5).bind (·.zero) = some (.int .u8 0) := by kernel_rfl
theorem fn30 : fnB Try.prog 30 = true := by kernel_rfl
theorem fn21 : fnB Try.prog 21 = true := by kernel_rfl
theorem fn31 : fnB Try.prog 31 = true := by kernel_rfl
theorem fn27 : fnB Try.prog 27 = true := by kernel_rfl
theorem fa48_1 : faB Try.prog 48 1 1 = true := by kernel_rfl
theorem ap26 : apB Try.prog 26 28 5 48 = true := by kernel_rfl
theorem fn25 : fnB Try.prog 25 = true := by kernel_rfl
theorem fa28_4 : faB Try.prog 28 4 4 = true := by kernel_rfl
theorem fa28_3 : faB Try.prog 28 3 3 = true := by kernel_rfl
theorem fn12 : fnB Try.prog 12 = true := by kernel_rfl
theorem fn10 : fnB Try.prog 10 = true := by kernel_rfl
theorem fn16 : fnB Try.prog 16 = true := by kernel_rfl
theorem fn18 : fnB Try.prog 18 = true := by kernel_rfl
theorem fn9 : fnB Try.prog 9 = true := by kernel_rfl
theorem fn26 : fnB Try.prog 26 = true := by kernel_rfl
theorem fn23 : fnB Try.prog 23 = true := by kernel_rfl
theorem fn22 : fnB Try.prog 22 = true := by kernel_rfl
theorem fn13 : fnB Try.prog 13 = true := by kernel_rfl
theorem fn15 : fnB Try.prog 15 = true := by kernel_rfl
theorem fn11 : fnB Try.prog 11 = true := by kernel_rfl
theorem fn17 : fnB Try.prog 17 = true := by kernel_rfl
theorem fn19 : fnB Try.prog 19 = true := by kernel_rfl
theorem fa28_2 : faB Try.prog 28 2 2 = true := by kernel_rfl
end Go.Proofs.Ytfenmdnodoogbaa.M

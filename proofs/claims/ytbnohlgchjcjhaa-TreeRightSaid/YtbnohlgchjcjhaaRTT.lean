/-
  Printed by a program of this session out of the loaded functions: models and their proofs. Own text.
-/
import Derived.Test.YtbnohlgchjcjhaaVArr
import Derived.Test.YtbnohlgchjcjhaaProg
import Derived.KernelRfl
namespace Go.Proofs.Ytbnohlgchjcjhaa.M
open Go Go.Proofs Go.Proofs.Ytbnohlgchjcjhaa.V
set_option linter.unusedVariables false
set_option maxRecDepth 20000
set_option maxHeartbeats 4000000
structure T_api_Node where
  Kind : Int
  Text : ByteArray
  Kids : Int
  At : Int
  deriving DecidableEq
def T_api_Node.cells (x : T_api_Node) : List VV := [.int .i64 x.Kind, .str x.Text, .int .i64 x.Kids, .int .i64 x.At]
def T_api_Node.vv (x : T_api_Node) : VV := .agg x.cells

structure T_api_Token where
  Kind : Int
  Text : ByteArray
  At : Int
  Line : Int
  Col : Int
  deriving DecidableEq
def T_api_Token.cells (x : T_api_Token) : List VV := [.int .i64 x.Kind, .str x.Text, .int .i64 x.At, .int .i64 x.Line, .int .i64 x.Col]
def T_api_Token.vv (x : T_api_Token) : VV := .agg x.cells

structure T_lex_scanner where
  s : ByteArray
  at_ : Int
  line : Int
  from_ : Int
  deriving DecidableEq
def T_lex_scanner.cells (x : T_lex_scanner) : List VV := [.str x.s, .int .i64 x.at_, .int .i64 x.line, .int .i64 x.from_]
def T_lex_scanner.vv (x : T_lex_scanner) : VV := .agg x.cells

structure T_lex_fault where
  e : Int
  at_ : Int
  deriving DecidableEq
def T_lex_fault.cells (x : T_lex_fault) : List VV := [.int .i64 x.e, .int .i64 x.at_]
def T_lex_fault.vv (x : T_lex_fault) : VV := .agg x.cells

theorem el22 : elB Try.prog 22 40 4 = true := by kernel_rfl
theorem fa40_1 : faB Try.prog 40 1 1 = true := by kernel_rfl
theorem ld9 : ldB Try.prog 9 1 false = true := by kernel_rfl
theorem pl55 : plV Try.prog 55 = some (fun i => [(0, 1), (1, 1), (2, 1), (3, 1)].toArray[i]?, [.str (⟨#[]⟩ : ByteArray), .int .i64 (0 : Int), .int .i64 (0 : Int), .int .i64 (0 : Int)]) := by kernel_rfl
theorem fa55_1 : faB Try.prog 55 1 1 = true := by kernel_rfl
theorem ld3 : ldB Try.prog 3 1 false = true := by kernel_rfl
theorem fa55_0 : faB Try.prog 55 0 0 = true := by kernel_rfl
theorem mixed : Try.prog.follows .mixedOrders = true := by kernel_rfl
theorem fa55_2 : faB Try.prog 55 2 2 = true := by kernel_rfl
theorem fa55_3 : faB Try.prog 55 3 3 = true := by kernel_rfl
theorem fn55 : fnB Try.prog 55 = true := by kernel_rfl
theorem pl51 : plV Try.prog 51 = some (fun i => [(0, 1), (1, 1), (2, 1), (3, 1), (4, 1)].toArray[i]?, [.int .i64 (0 : Int), .str (⟨#[]⟩ : ByteArray), .int .i64 (0 : Int), .int .i64 (0 : Int), .int .i64 (0 : Int)]) := by kernel_rfl
theorem ld51 : ldB Try.prog 51 5 true = true := by kernel_rfl
theorem z51 : zV Try.prog 51 = some [.int .i64 (0 : Int), .str (⟨#[]⟩ : ByteArray), .int .i64 (0 : Int), .int .i64 (0 : Int), .int .i64 (0 : Int)] := by kernel_rfl
theorem fn42 : fnB Try.prog 42 = true := by kernel_rfl
theorem fn51 : fnB Try.prog 51 = true := by kernel_rfl
theorem fn58 : fnB Try.prog 58 = true := by kernel_rfl
theorem fn40 : fnB Try.prog 40 = true := by kernel_rfl
theorem pl57 : plV Try.prog 57 = some (fun i => [(0, 1), (1, 1)].toArray[i]?, [.int .i64 (0 : Int), .int .i64 (0 : Int)]) := by kernel_rfl
theorem ld57 : ldB Try.prog 57 2 true = true := by kernel_rfl
theorem z57 : zV Try.prog 57 = some [.int .i64 (0 : Int), .int .i64 (0 : Int)] := by kernel_rfl
theorem fa57_0 : faB Try.prog 57 0 0 = true := by kernel_rfl
theorem ld25 : ldB Try.prog 25 1 false = true := by kernel_rfl
theorem fn52 : fnB Try.prog 52 = true := by kernel_rfl
theorem fa51_0 : faB Try.prog 51 0 0 = true := by kernel_rfl
theorem fa51_1 : faB Try.prog 51 1 1 = true := by kernel_rfl
theorem el64 : elB Try.prog 64 5 1 = true := by kernel_rfl
theorem ap64 : apB Try.prog 64 5 1 1 = true := by kernel_rfl
theorem fn59 : fnB Try.prog 59 = true := by kernel_rfl
theorem u8z5 : (Try.prog.info? 5).bind (·.zero) = some (.int .u8 0) := by kernel_rfl
theorem fn53 : fnB Try.prog 53 = true := by kernel_rfl
theorem fn41 : fnB Try.prog 41 = true := by kernel_rfl
theorem fn54 : fnB Try.prog 54 = true := by kernel_rfl
theorem fn50 : fnB Try.prog 50 = true := by kernel_rfl
theorem fa57_1 : faB Try.prog 57 1 1 = true := by kernel_rfl
theorem el47 : elB Try.prog 47 51 5 = true := by kernel_rfl
theorem ap47 : apB Try.prog 47 51 5 48 = true := by kernel_rfl
theorem fn39 : fnB Try.prog 39 = true := by kernel_rfl
theorem fa51_2 : faB Try.prog 51 2 2 = true := by kernel_rfl
theorem el30 : elB Try.prog 30 3 1 = true := by kernel_rfl
theorem pl40 : plV Try.prog 40 = some (fun i => [(0, 1), (1, 1), (2, 1), (3, 1)].toArray[i]?, [.int .i64 (0 : Int), .str (⟨#[]⟩ : ByteArray), .int .i64 (0 : Int), .int .i64 (0 : Int)]) := by kernel_rfl
theorem fa40_0 : faB Try.prog 40 0 0 = true := by kernel_rfl
theorem ap30 : apB Try.prog 30 3 1 8 = true := by kernel_rfl
theorem ld40 : ldB Try.prog 40 4 true = true := by kernel_rfl
theorem ap22 : apB Try.prog 22 40 4 40 = true := by kernel_rfl
theorem z40 : zV Try.prog 40 = some [.int .i64 (0 : Int), .str (⟨#[]⟩ : ByteArray), .int .i64 (0 : Int), .int .i64 (0 : Int)] := by kernel_rfl
theorem fa40_2 : faB Try.prog 40 2 2 = true := by kernel_rfl
theorem fa40_3 : faB Try.prog 40 3 3 = true := by kernel_rfl
theorem fn32 : fnB Try.prog 32 = true := by kernel_rfl
theorem fn13 : fnB Try.prog 13 = true := by kernel_rfl
theorem ld30 : ldB Try.prog 30 1 false = true := by kernel_rfl
theorem fn38 : fnB Try.prog 38 = true := by kernel_rfl
theorem fn22 : fnB Try.prog 22 = true := by kernel_rfl
theorem z30 : zV Try.prog 30 = some [.sl none 0 0] := by kernel_rfl
theorem fn31 : fnB Try.prog 31 = true := by kernel_rfl
theorem fn15 : fnB Try.prog 15 = true := by kernel_rfl
theorem fn16 : fnB Try.prog 16 = true := by kernel_rfl
theorem fn18 : fnB Try.prog 18 = true := by kernel_rfl
theorem ld22 : ldB Try.prog 22 1 false = true := by kernel_rfl
theorem fn23 : fnB Try.prog 23 = true := by kernel_rfl
theorem fn33 : fnB Try.prog 33 = true := by kernel_rfl
theorem fn34 : fnB Try.prog 34 = true := by kernel_rfl
theorem fn24 : fnB Try.prog 24 = true := by kernel_rfl
theorem fn25 : fnB Try.prog 25 = true := by kernel_rfl
theorem fn9 : fnB Try.prog 9 = true := by kernel_rfl
theorem fn29 : fnB Try.prog 29 = true := by kernel_rfl
theorem fn28 : fnB Try.prog 28 = true := by kernel_rfl
theorem z9 : zV Try.prog 9 = some [.str (⟨#[]⟩ : ByteArray)] := by kernel_rfl
theorem fn11 : fnB Try.prog 11 = true := by kernel_rfl
theorem fn20 : fnB Try.prog 20 = true := by kernel_rfl
theorem fn8 : fnB Try.prog 8 = true := by kernel_rfl
theorem fn7 : fnB Try.prog 7 = true := by kernel_rfl
theorem fn14 : fnB Try.prog 14 = true := by kernel_rfl
theorem fn56 : fnB Try.prog 56 = true := by kernel_rfl
theorem fn44 : fnB Try.prog 44 = true := by kernel_rfl
theorem fn43 : fnB Try.prog 43 = true := by kernel_rfl
theorem fn35 : fnB Try.prog 35 = true := by kernel_rfl
theorem fn57 : fnB Try.prog 57 = true := by kernel_rfl
theorem fn47 : fnB Try.prog 47 = true := by kernel_rfl
theorem fn48 : fnB Try.prog 48 = true := by kernel_rfl
theorem fn49 : fnB Try.prog 49 = true := by kernel_rfl
theorem fn46 : fnB Try.prog 46 = true := by kernel_rfl
theorem fn45 : fnB Try.prog 45 = true := by kernel_rfl
theorem fn36 : fnB Try.prog 36 = true := by kernel_rfl
theorem fn37 : fnB Try.prog 37 = true := by kernel_rfl
theorem fn26 : fnB Try.prog 26 = true := by kernel_rfl
theorem fn27 : fnB Try.prog 27 = true := by kernel_rfl
theorem fn17 : fnB Try.prog 17 = true := by kernel_rfl
theorem fn19 : fnB Try.prog 19 = true := by kernel_rfl
theorem fn10 : fnB Try.prog 10 = true := by kernel_rfl
theorem fn30 : fnB Try.prog 30 = true := by kernel_rfl
theorem fn12 : fnB Try.prog 12 = true := by kernel_rfl
theorem fn21 : fnB Try.prog 21 = true := by kernel_rfl
end Go.Proofs.Ytbnohlgchjcjhaa.M

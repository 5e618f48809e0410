/-
  Printed by a program of this session out of the loaded functions: models and their proofs. Own text.
-/
import Derived.Test.YtkondhigbbgidaaGreatPSp11
/-
  Plain laws of suit: what the program's functions tell, by definition; SuitTolerant, SuitLess. Own text.
-/
namespace Go.Proofs.YtkondhigbbgidaaGreat.M
open Go Go.Proofs Go.Proofs.YtkondhigbbgidaaGreat.V
set_option linter.unusedVariables false
set_option linter.unusedSimpArgs false
def hit : List Int→List Int→Bool
 | [],_ =>false
 | _ :: _,[] =>false
 | a :: l,b :: m =>if a = b then true else if a < b then hit l (b :: m) else hit (a :: l) m
termination_by l m =>l.length + m.length
end Go.Proofs.YtkondhigbbgidaaGreat.M
/-
  Plain laws: what the document says is on a machine. Own text.
-/
namespace Go.Proofs.YtkondhigbbgidaaGreat.M
open Go Go.Proofs Go.Proofs.YtkondhigbbgidaaGreat.V
set_option linter.unusedVariables false
set_option linter.unusedSimpArgs false
end Go.Proofs.YtkondhigbbgidaaGreat.M
/-
  Plain laws: what the document says is on a machine, used there, and left. Own text.
-/
namespace Go.Proofs.YtkondhigbbgidaaGreat.M
open Go Go.Proofs Go.Proofs.YtkondhigbbgidaaGreat.V
set_option linter.unusedVariables false
set_option linter.unusedSimpArgs false
end Go.Proofs.YtkondhigbbgidaaGreat.M

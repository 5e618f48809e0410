/-
  Printed by a program of this session out of the loaded functions: models and their proofs. Own text.
-/
import Derived.Test.YtkondhigbbgidaaGreatPWordE
import Derived.Test.YtkondhigbbgidaaGreatPTot2
/-
  Plain laws of numbers: the program's and the document's are alike. Own text.
-/
namespace Go.Proofs.YtkondhigbbgidaaGreat.M
open Go Go.Proofs Go.Proofs.YtkondhigbbgidaaGreat.V
set_option linter.unusedVariables false
end Go.Proofs.YtkondhigbbgidaaGreat.M
/-
  Plain laws: words, told alike; with what stands in PNumE. Own text.
-/
namespace Go.Proofs.YtkondhigbbgidaaGreat.M
open Go Go.Proofs Go.Proofs.YtkondhigbbgidaaGreat.V
set_option linter.unusedVariables false
end Go.Proofs.YtkondhigbbgidaaGreat.M
/-
  Plain laws: texts by their order; maps. Own text.
-/
namespace Go.Proofs.YtkondhigbbgidaaGreat.M
open Go Go.Proofs Go.Proofs.YtkondhigbbgidaaGreat.V
set_option linter.unusedVariables false
end Go.Proofs.YtkondhigbbgidaaGreat.M

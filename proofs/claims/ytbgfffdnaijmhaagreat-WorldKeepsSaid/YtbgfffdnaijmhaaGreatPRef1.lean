/-
  Printed by a program of this session out of the loaded functions: models and their proofs. Own text.
-/
import Derived.Test.YtbgfffdnaijmhaaGreatPFit0
import Derived.Test.YtbgfffdnaijmhaaGreatPBor
import Derived.Test.YtbgfffdnaijmhaaGreatPLess
import Derived.Test.YtbgfffdnaijmhaaGreatPYard
/-
  Plain laws: what the document says is on a machine. Own text.
-/
namespace Go.Proofs.YtbgfffdnaijmhaaGreat.M
open Go Go.Proofs Go.Proofs.YtbgfffdnaijmhaaGreat.V
set_option linter.unusedVariables false
end Go.Proofs.YtbgfffdnaijmhaaGreat.M
/-
  Plain laws: what the document says is on a machine, used there, and left. Own text.
-/
namespace Go.Proofs.YtbgfffdnaijmhaaGreat.M
open Go Go.Proofs Go.Proofs.YtbgfffdnaijmhaaGreat.V
set_option linter.unusedVariables false
end Go.Proofs.YtbgfffdnaijmhaaGreat.M
/-
  Plain laws: labels, terms, taints, and whether a pod suits a machine, told alike by the program and the document. Own text.
-/
namespace Go.Proofs.YtbgfffdnaijmhaaGreat.M
open Go Go.Proofs Go.Proofs.YtbgfffdnaijmhaaGreat.V
set_option linter.unusedVariables false
end Go.Proofs.YtbgfffdnaijmhaaGreat.M

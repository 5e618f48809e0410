/-
  The logic over plain values: bits, and shifts to the right. Own text.
-/
import Derived.Test.YtbgfffdnaijmhaaGreatVCopy
namespace Go.Proofs.YtbgfffdnaijmhaaGreat.V
open Go
set_option linter.unusedVariables false
section
variable {P : Program} {N : Nat} {env : Env} {H : List HE} {dst : Option Tmp} {ty : TypeId} {pos : String} {aft : Array Edge} {g : Option (Nat × Bool)}
end
end Go.Proofs.YtbgfffdnaijmhaaGreat.V

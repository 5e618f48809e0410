/-
  The plain law of DrainNil: tables and worlds that are not there are not emptied. No program in sight.
-/
import Derived.Test.YtbgfffdnaijmhaaGreatDNF
import Derived.Test.YtbgfffdnaijmhaaGreatPStr
namespace Go.Proofs.YtbgfffdnaijmhaaGreat.M
open Go Go.Proofs Go.Proofs.YtbgfffdnaijmhaaGreat.V
set_option linter.unusedVariables false
set_option maxRecDepth 100000

theorem DrainNil_true (name : ByteArray) : law28_DrainNil name = some true := by
  unfold law28_DrainNil
  by_cases h : decide ((name.size : Int) > 300) = true
  · rw [if_pos h]
    kernel_rfl
  · rw [if_neg h]
    kernel_rfl

end Go.Proofs.YtbgfffdnaijmhaaGreat.M

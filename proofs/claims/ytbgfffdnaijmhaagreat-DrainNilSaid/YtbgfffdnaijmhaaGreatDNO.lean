/-
  Printed by a program of this session out of the loaded functions: models and their proofs. Own text.
-/
import Derived.Test.YtbgfffdnaijmhaaGreatVOpen
import Derived.Test.YtbgfffdnaijmhaaGreatDNT
namespace Go.Proofs.YtbgfffdnaijmhaaGreat.M
open Go Go.Proofs Go.Proofs.YtbgfffdnaijmhaaGreat.V
open Go.IntKind (i64)
set_option linter.unusedVariables false
set_option maxRecDepth 20000
set_option maxHeartbeats 40000000
theorem op9 (W : World) : Opens Tryz.prog W 9 (fun b : ByteArray => [VV.str b]) (fun b => b.size ≤ maxLen) := .str Tryz.underlying9
end Go.Proofs.YtbgfffdnaijmhaaGreat.M

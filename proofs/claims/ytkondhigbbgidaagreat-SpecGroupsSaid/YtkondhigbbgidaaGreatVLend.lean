/-
  The logic over plain values: rows that are lent to a call that hands back a row of its own, in which nothing of them stands. Own text.
-/
import Derived.Test.YtkondhigbbgidaaGreatVBits
namespace Go.Proofs.YtkondhigbbgidaaGreat.V
open Go
set_option linter.unusedVariables false
section
variable {P : Program} {N : Nat} {env : Env} {H : List HE} {K : VV→List HE→Prop} {dst : Option Tmp} {ty : TypeId} {pos : String} {aft : Array Edge} {g : Option (Nat × Bool)}
variable {ρ β : Type}
end
end Go.Proofs.YtkondhigbbgidaaGreat.V

/-
  The logic over plain values: rows that are lent to a call that hands back a row of its own, in which nothing of them stands. Own text.
-/
import Derived.Test.YtbgfffdnaijmhaaGreatVBits
namespace Go.Proofs.YtbgfffdnaijmhaaGreat.V
open Go
set_option linter.unusedVariables false
section
variable {P : Program} {N : Nat} {env : Env} {H : List HE} {K : VV→List HE→Prop} {dst : Option Tmp} {ty : TypeId} {pos : String} {aft : Array Edge} {g : Option (Nat × Bool)}
variable {ρ β : Type}
theorem Shift.cst {F : VV→List HE} {x y : VV} (e : x = y) : Shift P env (F x) env (F y):=by
 subst e
 exact fun D w t hr hi =>⟨D,hr,hi,Fr.refl D w _⟩
end
end Go.Proofs.YtbgfffdnaijmhaaGreat.V

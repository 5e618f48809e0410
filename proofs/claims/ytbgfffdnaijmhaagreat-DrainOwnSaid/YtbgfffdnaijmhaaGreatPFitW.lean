/-
  Printed by a program of this session out of the loaded functions: models and their proofs. Own text.
-/
import Derived.Test.YtbgfffdnaijmhaaGreatPChk
import Derived.Test.YtbgfffdnaijmhaaGreatPYard
import Derived.Test.YtbgfffdnaijmhaaGreatPBor
/-
  Plain laws of the snapshot: what is light; SnapNil. Own text.
-/
namespace Go.Proofs.YtbgfffdnaijmhaaGreat.M
open Go Go.Proofs Go.Proofs.YtbgfffdnaijmhaaGreat.V
open Go.IntKind (i64)
set_option linter.unusedVariables false
set_option maxRecDepth 20000
end Go.Proofs.YtbgfffdnaijmhaaGreat.M
/-
  Plain law: what is wrong of machines and bound pods is told alike by the program and the document. Own text.
-/
namespace Go.Proofs.YtbgfffdnaijmhaaGreat.M
open Go Go.Proofs Go.Proofs.YtbgfffdnaijmhaaGreat.V
set_option linter.unusedVariables false
def m0 : T_api_Machine:=⟨⟨#[]⟩,⟨#[]⟩,r0,[],[],false⟩
def p0 : T_api_Pod:=⟨⟨#[]⟩,r0,[],[],[],[],[],[],false,[],0,0,⟨#[]⟩,false,false,false⟩
def b0 : T_api_Bound:=⟨p0,⟨#[]⟩⟩
theorem nodup_iff {l : List ByteArray} : l.Nodup↔∀ i j (hi : i < l.length) (hj : j < l.length),i < j→l[i]≠l[j]:=List.pairwise_iff_getElem
end Go.Proofs.YtbgfffdnaijmhaaGreat.M
/-
  Plain laws of fit: why a pod cannot run on a machine of that name. Own text.
-/
namespace Go.Proofs.YtbgfffdnaijmhaaGreat.M
open Go Go.Proofs Go.Proofs.YtbgfffdnaijmhaaGreat.V
set_option linter.unusedVariables false
end Go.Proofs.YtbgfffdnaijmhaaGreat.M

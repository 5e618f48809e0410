/-
  Printed by a program of this session out of the loaded functions: models and their proofs. Own text.
-/
import Derived.Test.YtkondhigbbgidaaGreatPYard
import Derived.Test.YtkondhigbbgidaaGreatPWordE
/-
  Plain law: what is wrong of machines and bound pods is told alike by the program and the document. Own text.
-/
namespace Go.Proofs.YtkondhigbbgidaaGreat.M
open Go Go.Proofs Go.Proofs.YtkondhigbbgidaaGreat.V
set_option linter.unusedVariables false
def m0 : T_api_Machine:=⟨⟨#[]⟩,⟨#[]⟩,r0,[],[],false⟩
def p0 : T_api_Pod:=⟨⟨#[]⟩,r0,[],[],[],[],[],[],false,[],0,0,⟨#[]⟩,false,false,false⟩
def b0 : T_api_Bound:=⟨p0,⟨#[]⟩⟩
theorem nodup_iff {l : List ByteArray} : l.Nodup↔∀ i j (hi : i < l.length) (hj : j < l.length),i < j→l[i]≠l[j]:=List.pairwise_iff_getElem
end Go.Proofs.YtkondhigbbgidaaGreat.M
/-
  Plain laws of suit: what the program's functions tell, by definition; SuitTolerant, SuitLess. Own text.
-/
namespace Go.Proofs.YtkondhigbbgidaaGreat.M
open Go Go.Proofs Go.Proofs.YtkondhigbbgidaaGreat.V
set_option linter.unusedVariables false
theorem ap_ok {α : Type} {b : Nat} {l m : List α} (hb : b≤1000) (h : l.length + m.length≤1000000) : V.ap b l m = some (l++m):=by
 unfold V.ap
 rw [if_pos]
 refine ⟨by unfold maxLen; omega,?_⟩
 have : (l.length + m.length) * b≤1000000 * 1000:=Nat.mul_le_mul h hb
 omega
def hit : List Int→List Int→Bool
 | [],_ =>false
 | _ :: _,[] =>false
 | a :: l,b :: m =>if a = b then true else if a < b then hit l (b :: m) else hit (a :: l) m
termination_by l m =>l.length + m.length
end Go.Proofs.YtkondhigbbgidaaGreat.M
/-
  Plain laws: whether a pod suits a machine, out of its parts; what fewer pods leave. Own text.
-/
namespace Go.Proofs.YtkondhigbbgidaaGreat.M
open Go Go.Proofs Go.Proofs.YtkondhigbbgidaaGreat.V
set_option linter.unusedVariables false
end Go.Proofs.YtkondhigbbgidaaGreat.M

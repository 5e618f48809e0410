/-
  Printed by a program of this session out of the loaded functions: models and their proofs. Own text.
-/
import Derived.Test.YtkondhigbbgidaaGreatPLess
import Derived.Test.YtkondhigbbgidaaGreatPLoop
import Derived.Test.YtkondhigbbgidaaGreatPWordE
/-
  Plain laws: whether labels and terms can be is told alike by the program and the document. Own text.
-/
namespace Go.Proofs.YtkondhigbbgidaaGreat.M
open Go Go.Proofs Go.Proofs.YtkondhigbbgidaaGreat.V
set_option linter.unusedVariables false
end Go.Proofs.YtkondhigbbgidaaGreat.M
/-
  Plain Lean: loops that go on while something is so. Own text.
-/
namespace Go.Proofs.YtkondhigbbgidaaGreat.M
open Go Go.Proofs Go.Proofs.YtkondhigbbgidaaGreat.V
set_option linter.unusedVariables false
def allN (n : Nat) (q : Nat→Bool) : Bool:=(List.range n).all q
theorem allN_iff {n : Nat} {q : Nat→Bool} : allN n q = true↔∀ k,k < n→q k = true:=by simp [allN]
theorem allN_not {n : Nat} {q : Nat→Bool} : allN n q = false↔∃ k,k < n∧q k = false:=by simp [allN]
theorem idxAll {ρ : Type} {F : Nat→Int→Option (Out ρ Unit)} {len : Nat} {r0 : ρ} (q : Nat→Bool) (hl : len < 1000000000000)
  (hs : ∀ n (k : Nat),k < len→F (n + 1) (k : Int) = if q k = true then F n ((k + 1 : Nat) : Int) else some (Out.ret r0))
  (he : ∀ n,F (n + 1) (len : Int) = some (Out.go ())) : F FU 0 = some (if allN len q = true then Out.go () else Out.ret r0):=by
 rcases loopI (Q:=fun r =>r = r0∧allN len q = false) (S:=fun k =>k < len→q k = true) hl (fun n k hk =>by
   rw [hs n k hk]
   cases h : q k with
   | true =>exact .inr ⟨rfl,fun _ =>rfl⟩
   | false =>exact .inl ⟨_,rfl,rfl,allN_not.2 ⟨k,hk,h⟩⟩) he with ⟨r,h1,rfl,h3⟩ | ⟨h1,h2⟩
 ·rw [h1,if_neg (by rw [h3]; simp)]
 ·rw [h1,if_pos (allN_iff.2 fun k hk =>h2 k hk hk)]
end Go.Proofs.YtkondhigbbgidaaGreat.M
/-
  Plain laws: whether machines, pods and yards are right is told alike by the program and the document. Own text.
-/
namespace Go.Proofs.YtkondhigbbgidaaGreat.M
open Go Go.Proofs Go.Proofs.YtkondhigbbgidaaGreat.V
set_option linter.unusedVariables false
def d0 : T_api_Taint:=⟨⟨#[]⟩,⟨#[]⟩,0⟩
end Go.Proofs.YtkondhigbbgidaaGreat.M

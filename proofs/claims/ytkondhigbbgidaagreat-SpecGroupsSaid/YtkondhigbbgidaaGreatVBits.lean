/-
  The logic over plain values: bits, and shifts to the right. Own text.
-/
import Derived.Test.YtkondhigbbgidaaGreatVCopy
namespace Go.Proofs.YtkondhigbbgidaaGreat.V
open Go
set_option linter.unusedVariables false
def shr (k : IntKind) (n m : Int) : Option Int:=if m < 0 then none else some (n.fdiv (2 ^ (min m.toNat k.bits)))
def bAnd (k : IntKind) (n m : Int) : Int:=k.wrap ((BitVec.ofInt k.bits n &&& BitVec.ofInt k.bits m).toNat : Int)
def bOr (k : IntKind) (n m : Int) : Int:=k.wrap ((BitVec.ofInt k.bits n ||| BitVec.ofInt k.bits m).toNat : Int)
section
variable {P : Program} {N : Nat} {env : Env} {H : List HE} {dst : Option Tmp} {ty : TypeId} {pos : String} {aft : Array Edge} {g : Option (Nat × Bool)}
theorem VP.shrT {xt yt : TypeId} {x y : Operand} {k k' : IntKind} {n m c : Int} (hx : ev env x = some (.int k n)) (hy : ev env y = some (.int k' m)) (h : V.shr k n m = some c) : VP P N ⟨dst,.binOp .shr xt x y yt,ty,pos,aft,g⟩ env H (.int k c):=by
 intro D w a hs hr hi
 have h1:=rd_int (ev_rd hx hr)
 have h2:=rd_int (ev_rd hy hr)
 unfold V.shr at h
 split at h
 ·cases h
 ·rename_i hm
  cases h
  refine ⟨_,fun w1 _ =>?_,.int _ _⟩
  simp only [execOp,h1,h2]
  simp [eqGuard,binOp,Op.shift,hm]
theorem VP.andT {xt yt : TypeId} {x y : Operand} {k : IntKind} {n m : Int} (hx : ev env x = some (.int k n)) (hy : ev env y = some (.int k m)) : VP P N ⟨dst,.binOp .and xt x y yt,ty,pos,aft,g⟩ env H (.int k (V.bAnd k n m)):=by
 intro D w a hs hr hi
 have h1:=rd_int (ev_rd hx hr)
 have h2:=rd_int (ev_rd hy hr)
 refine ⟨_,fun w1 _ =>?_,.int _ _⟩
 simp only [execOp,h1,h2]
 simp [eqGuard,binOp,Op.intBits,V.bAnd]
theorem VP.orT {xt yt : TypeId} {x y : Operand} {k : IntKind} {n m : Int} (hx : ev env x = some (.int k n)) (hy : ev env y = some (.int k m)) : VP P N ⟨dst,.binOp .or xt x y yt,ty,pos,aft,g⟩ env H (.int k (V.bOr k n m)):=by
 intro D w a hs hr hi
 have h1:=rd_int (ev_rd hx hr)
 have h2:=rd_int (ev_rd hy hr)
 refine ⟨_,fun w1 _ =>?_,.int _ _⟩
 simp only [execOp,h1,h2]
 simp [eqGuard,binOp,Op.intBits,V.bOr]
end
end Go.Proofs.YtkondhigbbgidaaGreat.V

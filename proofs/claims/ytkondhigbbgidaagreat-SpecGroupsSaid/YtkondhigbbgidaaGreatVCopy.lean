/-
  The logic over plain values: shifts, pieces of rows, copies, lists without room, rows of zeros. Own text.
-/
import Derived.Test.YtkondhigbbgidaaGreatVRun
import Derived.Laws.CopyRow
import Derived.Laws.IdiomCopy
import Derived.Laws.OwnMore
import Derived.Deep.AppendSrc
import Derived.Deep.Upon
namespace Go.Proofs.YtkondhigbbgidaaGreat.V
open Go
set_option linter.unusedVariables false
def shl (k : IntKind) (n m : Int) : Option Int:=if m < 0 then none else some (k.wrap (n * 2 ^ (min m.toNat k.bits)))
def rng (n : Nat) (l h : Option Int) : Option (Nat × Nat):=if (0≤l.getD 0∧0≤h.getD 0)∧lowN l≤highN n h∧highN n h≤n then some (lowN l,highN n h) else none
theorem rng_some {n : Nat} {l h : Option Int} {r : Nat × Nat} (hh : rng n l h = some r) : (nonneg l∧nonneg h)∧(lowN l≤highN n h∧highN n h≤n)∧r = (lowN l,highN n h):=by
 unfold rng at hh; split at hh
 ·rename_i q
  simp only [Option.some.injEq] at hh
  exact ⟨⟨nn q.1.1,nn q.1.2⟩,q.2,hh.symm⟩
 ·cases hh
theorem rng_le {n : Nat} {l h : Option Int} {r : Nat × Nat} (hh : rng n l h = some r) : r.1≤r.2∧r.2≤n:=by
 obtain ⟨_,h1,rfl⟩:=rng_some hh
 exact h1
def mk {α : Type} (by_ : Nat) (z : α) (n : Int) : Option (List α):=if 0≤n∧n≤maxLen∧by_ * n.toNat≤281474976710656 then some (List.replicate n.toNat z) else none
section
variable {P : Program} {N : Nat} {env : Env} {H : List HE} {K : VV→List HE→Prop}
variable {dst : Option Tmp} {ty : TypeId} {pos : String} {aft : Array Edge} {g : Option (Nat × Bool)}
theorem VP.shlT {xt yt : TypeId} {x y : Operand} {k k' : IntKind} {n m c : Int} (hx : ev env x = some (.int k n)) (hy : ev env y = some (.int k' m)) (h : V.shl k n m = some c) : VP P N ⟨dst,.binOp .shl xt x y yt,ty,pos,aft,g⟩ env H (.int k c):=by
 intro D w a hs hr hi
 have h1:=rd_int (ev_rd hx hr)
 have h2:=rd_int (ev_rd hy hr)
 unfold V.shl at h
 split at h
 ·cases h
 ·rename_i hm
  cases h
  refine ⟨_,fun w1 _ =>?_,.int _ _⟩
  simp only [execOp,h1,h2]
  simp [eqGuard,binOp_shl,Op.shift,hm]
end
end Go.Proofs.YtkondhigbbgidaaGreat.V

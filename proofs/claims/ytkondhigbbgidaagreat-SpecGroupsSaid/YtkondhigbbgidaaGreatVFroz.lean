/-
  The logic over plain values: variables that nobody writes any more, pointers held against nil, pointers that are handed back. Own text.
-/
import Derived.Test.YtkondhigbbgidaaGreatVLend
namespace Go.Proofs.YtkondhigbbgidaaGreat.V
open Go
set_option linter.unusedVariables false
section
variable {P : Program} {N : Nat} {env : Env} {H : List HE} {K : VV→List HE→Prop} {D : Cx} {w : World}
variable {dst : Option Tmp} {ty : TypeId} {pos : String} {aft : Array Edge} {g : Option (Nat × Bool)}
theorem VP.as {o : Oper} {z z' : VV} (h : VP P N o env H z) (e : z = z') : VP P N o env H z':=e ▸ h
theorem VO.shift {o : Oper} {H' : List HE} (hs : Shift P env H env H') (h : VO P N o env H' K) : VO P N o env H K:=by
 intro D w a hz hr hi next Qx hn
 obtain ⟨D1,h1,h2,h3⟩:=hs D w a.tmps hr hi
 exact h D1 w a hz h1 h2 next Qx fun v x H1 D2 w2 hx hrd hi2 hf =>hn v x H1 D2 w2 hx hrd hi2 (h3.trans hf)
def nilB : VV→Option Bool
 | .nilptr =>some true
 | .ptr _ _ =>some false
 | .eref _ _ =>some false
 | .rref _ _ _ _ =>some false
 | .aptr _ n _ =>some (n == 0)
 | _ =>none
theorem nilB_rd {v : Value} {x : VV} {b : Bool} (h : nilB x = some b) (r : Rd P D w v x) : ∃ o,v = .pointer o∧o.isNone = b:=by
 cases r<;>simp only [nilB,Option.some.injEq,reduceCtorEq] at h
 all_goals subst h
 all_goals exact ⟨_,rfl,rfl⟩
theorem VP.isNil {xt yt : TypeId} {x : Operand} {e : TypeId} {z : VV} {b : Bool} (hu : P.underlying xt = some (.pointer e)) (hx : ev env x = some z) (hn : nilB z = some b) :
  VP P N ⟨dst,.binOp .eql xt x (.const (.pointer none)) yt,ty,pos,aft,g⟩ env H (.bool b):=fun D w a hs hr hi =>by
 obtain ⟨o,h1,h2⟩:=nilB_rd hn (ev_rd hx hr)
 have he : ∀ w1 : World,(Op.equal xt (.pointer o) (.pointer none)).run P w1 = .ok b w1:=fun w1 =>by
  show (Op.equalIn Op.maxDepth xt (.pointer o) (.pointer none)).run P w1 = _
  have : ∃ n,Op.maxDepth = n + 1:=⟨Op.maxDepth - 1,by decide⟩
  obtain ⟨n,hn⟩:=this
  rw [hn]
  unfold Op.equalIn
  simp only [Sem.run_bind,run_underlying hu,Result.andThen_ok]
  cases o with
  | none =>subst h2; rfl
  | some q =>subst h2; rfl
 refine ⟨.bool b,fun w1 _ =>?_,.bool _⟩
 simp only [execOp,h1,show a.eval (.const (.pointer none)) = .pointer none from rfl]
 simp [eqGuard,binOp,he]
end
end Go.Proofs.YtkondhigbbgidaaGreat.V

/-
  The logic over plain values: from a function's contract to what a row asks. Own text.
-/
import Derived.Test.YtkondhigbbgidaaGreatVEq
namespace Go.Proofs.YtkondhigbbgidaaGreat.V
open Go Go.RowKit
set_option linter.unusedVariables false
def DW (W : World) : Cx:=⟨fun b _ =>b < W.heap.size,fun _ _ _ =>False⟩
theorem VC.law {P : Program} {f : FuncId} {args : List VV} {vs : Array Value} {W : World} (h : VC P f args [] fun x H' =>x = .bool true∧H' = []) (hs : vs.size = args.length)
  (hr : ∀ (j : Nat) (v : Value) (x : VV),vs[j]? = some v→args[j]? = some x→Rd P (DW W) W v x) : Calls P f vs W fun e w' =>e = .returned (.bool true)∧Below W.heap.size W w':=by
 refine (h (DW W) W vs hs hr ⟨by simp [blks],by simp [blks],by simp [blks],fun b e hd =>hd,by simp,by simp [ars]⟩).mono ?_
 rintro e w' ⟨v,x,H',D',rfl,⟨rfl,rfl⟩,hrd,hi,hF⟩
 cases hrd
 exact ⟨rfl,hF.os,hF.tape,hF.output,hF.size,fun k hk =>hF.prot k hk (by simp [blks])⟩
theorem argsL {P : Program} {W : World} {v0 : Value} {x0 : VV} {vs : List Value} {xs : List VV} (h0 : Rd P (DW W) W v0 x0) (h : ∀ (j : Nat) (v : Value) (x : VV),vs[j]? = some v→xs[j]? = some x→Rd P (DW W) W v x) :
  ∀ (j : Nat) (v : Value) (x : VV),(v0 :: vs)[j]? = some v→(x0 :: xs)[j]? = some x→Rd P (DW W) W v x:=by
 intro j v x hv hx
 cases j with
 | zero =>simp at hv hx; subst hv; subst hx; exact h0
 | succ j =>exact h j v x (by simpa using hv) (by simpa using hx)
theorem argsA {P : Program} {W : World} {vs : List Value} {xs : List VV} (h : ∀ (j : Nat) (v : Value) (x : VV),vs[j]? = some v→xs[j]? = some x→Rd P (DW W) W v x) :
  ∀ (j : Nat) (v : Value) (x : VV),vs.toArray[j]? = some v→xs[j]? = some x→Rd P (DW W) W v x:=fun j v x hv hx =>h j v x (by simpa using hv) hx
theorem argsN {P : Program} {W : World} : ∀ (j : Nat) (v : Value) (x : VV),([] : List Value)[j]? = some v→([] : List VV)[j]? = some x→Rd P (DW W) W v x:=by simp
end Go.Proofs.YtkondhigbbgidaaGreat.V

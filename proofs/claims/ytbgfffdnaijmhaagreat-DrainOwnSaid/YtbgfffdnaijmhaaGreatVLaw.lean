/-
  The logic over plain values: from a function's contract to what a row asks. Own text.
-/
import Derived.Test.YtbgfffdnaijmhaaGreatVEq
namespace Go.Proofs.YtbgfffdnaijmhaaGreat.V
open Go Go.RowKit
set_option linter.unusedVariables false
def DW (W : World) : Cx:=⟨fun b _ =>b < W.heap.size,fun _ _ _ =>False⟩
theorem VC.lawA {P : Program} {f : FuncId} {args : List VV} {vs : Array Value} {W : World} {H0 : List HE} (hA : ∀ h,h ∈ H0→∃ a t,h = .ar a t [] []) (hn : (ars H0).Nodup) (h : VC P f args H0 fun x H' =>x = .bool true) (hs : vs.size = args.length)
  (hr : ∀ (j : Nat) (v : Value) (x : VV),vs[j]? = some v→args[j]? = some x→Rd P (DW W) W v x) : Calls P f vs W fun e w' =>e = .returned (.bool true)∧Below W.heap.size W w':=by
 have hb : blks H0 = []:=by
  unfold blks
  rw [List.flatMap_eq_nil_iff]
  intro x hx
  obtain ⟨a,t,rfl⟩:=hA x hx
  rfl
 refine (h (DW W) W vs hs hr ⟨by rw [hb]; exact List.nodup_nil,by rw [hb]; simp,by rw [hb]; simp,fun b e hd =>hd,fun x hx =>?_,hn⟩).mono ?_
 ·obtain ⟨a,t,rfl⟩:=hA x hx
  exact ⟨rfl,fun i b =>⟨fun q =>q.elim,fun q =>by simp at q⟩,fun i b cs q =>by simp at q⟩
 ·rintro e w' ⟨v,x,H',D',rfl,rfl,hrd,hi,hF⟩
  cases hrd
  exact ⟨rfl,hF.os,hF.tape,hF.output,hF.size,fun k hk =>hF.prot k hk (by rw [hb]; simp)⟩
theorem argsL {P : Program} {W : World} {v0 : Value} {x0 : VV} {vs : List Value} {xs : List VV} (h0 : Rd P (DW W) W v0 x0) (h : ∀ (j : Nat) (v : Value) (x : VV),vs[j]? = some v→xs[j]? = some x→Rd P (DW W) W v x) :
  ∀ (j : Nat) (v : Value) (x : VV),(v0 :: vs)[j]? = some v→(x0 :: xs)[j]? = some x→Rd P (DW W) W v x:=by
 intro j v x hv hx
 cases j with
 | zero =>simp at hv hx; subst hv; subst hx; exact h0
 | succ j =>exact h j v x (by simpa using hv) (by simpa using hx)
theorem argsA {P : Program} {W : World} {vs : List Value} {xs : List VV} (h : ∀ (j : Nat) (v : Value) (x : VV),vs[j]? = some v→xs[j]? = some x→Rd P (DW W) W v x) :
  ∀ (j : Nat) (v : Value) (x : VV),vs.toArray[j]? = some v→xs[j]? = some x→Rd P (DW W) W v x:=fun j v x hv hx =>h j v x (by simpa using hv) hx
theorem argsN {P : Program} {W : World} : ∀ (j : Nat) (v : Value) (x : VV),([] : List Value)[j]? = some v→([] : List VV)[j]? = some x→Rd P (DW W) W v x:=by simp
end Go.Proofs.YtbgfffdnaijmhaaGreat.V

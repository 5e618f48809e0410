/-
  The logic over plain values: shifts, pieces of rows, copies, lists without room, rows of zeros. Own text.
-/
import Derived.Test.YtbgfffdnaijmhaaGreatVRun
import Derived.Laws.CopyRow
import Derived.Laws.IdiomCopy
import Derived.Laws.OwnMore
import Derived.Deep.AppendSrc
import Derived.Deep.Upon
namespace Go.Proofs.YtbgfffdnaijmhaaGreat.V
open Go
set_option linter.unusedVariables false
def rng (n : Nat) (l h : Option Int) : Option (Nat × Nat):=if (0≤l.getD 0∧0≤h.getD 0)∧lowN l≤highN n h∧highN n h≤n then some (lowN l,highN n h) else none
theorem rng_some {n : Nat} {l h : Option Int} {r : Nat × Nat} (hh : rng n l h = some r) : (nonneg l∧nonneg h)∧(lowN l≤highN n h∧highN n h≤n)∧r = (lowN l,highN n h):=by
 unfold rng at hh; split at hh
 ·rename_i q
  simp only [Option.some.injEq] at hh
  exact ⟨⟨nn q.1.1,nn q.1.2⟩,q.2,hh.symm⟩
 ·cases hh
theorem rng_le {n : Nat} {l h : Option Int} {r : Nat × Nat} (hh : rng n l h = some r) : r.1≤r.2∧r.2≤n:=by
 obtain ⟨_,h1,rfl⟩:=rng_some hh
 exact h1
def mk {α : Type} (by_ : Nat) (z : α) (n : Int) : Option (List α):=if 0≤n∧n≤maxLen∧by_ * n.toNat≤281474976710656 then some (List.replicate n.toNat z) else none
section
variable {P : Program} {N : Nat} {env : Env} {H : List HE} {K : VV→List HE→Prop}
variable {dst : Option Tmp} {ty : TypeId} {pos : String} {aft : Array Edge} {g : Option (Nat × Bool)}
def VPH (P : Program) (N : Nat) (o : Oper) (env : Env) (H : List HE) (x : VV) : Prop:=∀ (D : Cx) (w : World) (a : Act),a.tmps.size = N→RE P D w env a.tmps→Inv P D w H→∃ v,(∀ w',(execOp a.eval o).run P w' = .ok (.value v) w')∧Rd P D w v x
theorem VA.pH {ops : Array Oper} {Hm Hp : List HE} {L : Env→List HE→Prop} (i : Nat) {dn : List Nat} {o : Oper} {x : VV} (hi : ops[i]? = some o) (hd : dok N o.dst = true) (hg : o.guard = none) (ht : tkB ops dn i = true) (h : VPH P N o env (Hm++Hp) x)
  (k : VA P N ops L (i :: dn) (putd env o.dst x) Hm Hp) : VA P N ops L dn env Hm Hp:=by
 intro D w a hs hr hinv KK hk
 unfold tkB at ht
 simp only [Bool.and_eq_true] at ht
 obtain ⟨⟨⟨t1,t2⟩,t3⟩,t4⟩:=ht
 have t4 : dn.length < ops.size:=by have:=t4; simp [Nat.blt] at this; omega
 obtain ⟨v,y1,y2⟩:=h D w a hs hr hinv
 have e1 : ops.size - dn.length = (ops.size - (i :: dn).length) + 1:=by simp; omega
 rw [e1]
 refine wpAnyH_take hi t1 t2 t3 (fun c a w h =>by cases h.1) (.inl ⟨by unfold Region.wanted; rw [hg],fun w' _ =>y1 w'⟩) (Prot.refl D w Hp) ?_
 rw [← lst_cons]
 refine k D w (a.put o.dst v) ((put_size ..).trans hs) (hr.putd hs hd y2) hinv KK ?_
 intro a' w' env' H' D' h1 h2 h3 h4 h5 h6
 exact hk a' w' env' H' D' h1 (h2.trans (put_defers ..)) h3 h4 h5 h6
theorem VPH.subR {t e : TypeId} {sz : Nat} {x : Operand} {lo hi : Option Operand} {ob : Option Nat} {cap n : Nat} {l h : Option Int} {r : Nat × Nat} (i : Nat) {xs : List VV} (ht : elB P t e sz = true) (hx : ev env x = some (.sl ob n cap)) (hh : H[i]? = some (.row ob e cap xs)) (hn : n = xs.length)
  (hl : evO env lo = some l) (hhi : evO env hi = some h) (hr : rng n l h = some r) : VPH P N ⟨dst,.slice t x lo hi none,ty,pos,aft,g⟩ env H (.sub ob sz r.1 (r.2 - r.1) (cap - r.1)):=fun D w a hs hre hinv =>by
 obtain ⟨⟨l0,h0⟩,⟨h1,h2⟩,rfl⟩:=rng_some hr
 obtain ⟨j,hi1,hi2⟩:=elB_info ht
 have hu:=elB_und ht
 have hsz : ∀ w : World,(sizeOf e).run P w = .ok sz w:=fun w =>by simp [sizeOf,typeInfo,hi1,hi2]
 have hrow:=hinv.rel _ (List.mem_of_getElem? hh)
 have hrd:=ev_rd hx hre
 generalize hq : a.eval x = v at hrd
 cases ob with
 | none =>
  obtain ⟨e1,e2⟩:=hrow
  subst e1; subst e2
  simp only [List.length_nil] at hn
  subst hn
  cases hrd
  have hb:=run_bounds (P:=P) (isSlice:=true) (len:=0) (cap:=0) (bnd_lo hl hre l0) (bnd_hi hhi hre h0) h1 (by omega) (.inr (by omega))
  have z1 : highN 0 h = 0:=by omega
  have z2 : lowN l = 0:=by omega
  refine ⟨.slice none 0 0,fun w1 =>?_,by rw [z1,z2]; exact .subNil _ _ _ _ _⟩
  simp only [execOp,Instr.sliceAt,Sem.run_bind,run_underlying hu,Result.andThen_ok,hq,Instr.slice,Option.map_none,hb,hsz,Sem.run_pure,z1,z2]
  simp
 | some b =>
  obtain ⟨arr,r1,r2,r3,r4,r5,r6⟩:=hrow
  cases hrd with
  | sl b len cap =>
   have hb:=run_bounds (P:=P) (isSlice:=true) (len:=n) (cap:=cap) (bnd_lo hl hre l0) (bnd_hi hhi hre h0) h1 (by omega) (.inr (by omega))
   by_cases hcl : cap = lowN l
   ·have hh0 : highN n h - lowN l = 0:=by omega
    refine ⟨.slice (some ⟨b,0,none⟩) (highN n h - lowN l) (cap - lowN l),fun w1 =>?_,by rw [hh0]; exact .subNil _ _ _ _ _⟩
    simp only [execOp,Instr.sliceAt,Sem.run_bind,run_underlying hu,Result.andThen_ok,hq,Instr.slice,Option.map_none,hb,hsz,Sem.run_pure]
    rw [if_pos hcl]
   ·refine ⟨.slice (some ⟨b,lowN l * sz,none⟩) (highN n h - lowN l) (cap - lowN l),fun w1 =>?_,.sub _ _ _ _ _⟩
    simp only [execOp,Instr.sliceAt,Sem.run_bind,run_underlying hu,Result.andThen_ok,hq,Instr.slice,Option.map_none,hb,hsz,Sem.run_pure]
    rw [if_neg hcl]; simp [Addr.add_mk]
theorem VPH.subT {α : Type} {f : α→VV} {xs : List α} {t e : TypeId} {sz : Nat} {x : Operand} {lo hi : Option Operand} {ob : Option Nat} {cap : Nat} {l h : Option Int} {r : Nat × Nat} (i : Nat) (ht : elB P t e sz = true) (hx : ev env x = some (.sl ob (xs.map f).length cap)) (hh : H[i]? = some (.row ob e cap (xs.map f)))
  (hl : evO env lo = some l) (hhi : evO env hi = some h) (hr : rng xs.length l h = some r) : VPH P N ⟨dst,.slice t x lo hi none,ty,pos,aft,g⟩ env H (.sub ob sz r.1 (r.2 - r.1) (cap - r.1)):=VPH.subR i ht hx hh rfl hl hhi (by rw [List.length_map]; exact hr)
theorem VP.subT {α : Type} {f : α→VV} {xs : List α} {t e : TypeId} {sz : Nat} {x : Operand} {lo hi : Option Operand} {ob : Option Nat} {cap : Nat} {l h : Option Int} {r : Nat × Nat} (i : Nat) (ht : elB P t e sz = true) (hx : ev env x = some (.sl ob (xs.map f).length cap)) (hh : H[i]? = some (.row ob e cap (xs.map f)))
  (hl : evO env lo = some l) (hhi : evO env hi = some h) (hrg : rng xs.length l h = some r) : VP P N ⟨dst,.slice t x lo hi none,ty,pos,aft,g⟩ env H (.sub ob sz r.1 (r.2 - r.1) (cap - r.1)):=fun D w a hs hr hv =>let ⟨v,h1,h2⟩:=VPH.subT i ht hx hh hl hhi hrg D w a hs hr hv; ⟨v,fun w' _ =>h1 w',h2⟩
theorem rd_sub {D : Cx} {w : World} {v : Value} {ob : Option Nat} {sz o l c : Nat} (h : Rd P D w v (.sub ob sz o l c)) : (∃ a,v = .slice a 0 c∧l = 0)∨∃ b,ob = some b∧v = .slice (some ⟨b,o * sz,none⟩) l c:=by
 cases h with
 | sub =>exact .inr ⟨_,rfl,rfl⟩
 | subNil a =>exact .inl ⟨a,rfl,rfl⟩
end
end Go.Proofs.YtbgfffdnaijmhaaGreat.V

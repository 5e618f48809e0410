/-
  The logic over plain values: places: variables of one type that are owned together, and pointers to them, told by numbers. Own text.
-/
import Derived.Test.YtkondhigbbgidaaGreatVDefer
import Derived.LaidEql
namespace Go.Proofs.YtkondhigbbgidaaGreat.V
open Go
set_option linter.unusedVariables false
section
variable {P : Program} {N : Nat} {env : Env} {H : List HE} {K : VV→List HE→Prop} {D : Cx} {w : World}
variable {dst : Option Tmp} {ty : TypeId} {pos : String} {aft : Array Edge} {g : Option (Nat × Bool)}
theorem rd_ifo {v : Value} {b : Bool} {t : TypeId} {x : VV} (h : Rd P D w v (.ifo b t x)) : (b = true∧v = .nilIface)∨(b = false∧∃ u,v = .iface t u∧Rd P D w u x):=by
 cases h with
 | ifo0 _ _ =>exact .inl ⟨rfl,rfl⟩
 | ifo1 _ u _ h =>exact .inr ⟨rfl,u,rfl,h⟩
theorem VP.assignI (t : TypeId) (z : VV) : VP P N ⟨dst,.assign (.const .nilIface),ty,pos,aft,g⟩ env H (.ifo true t z):=fun D w a hs hr hi =>⟨_,fun _ _ =>rfl,.ifo0 t z⟩
def nifB (P : Program) (t : TypeId) : Bool:=match P.underlying t with | some (.interface _) =>false | some _ =>true | none =>false
theorem VP.mkI {t : TypeId} {x : Operand} {z : VV} (h : nifB P t = true) (hx : ev env x = some z) : VP P N ⟨dst,.makeInterface t x,ty,pos,aft,g⟩ env H (.ifo false t z):=fun D w a hs hr hi =>by
 refine ⟨.iface t (a.eval x),fun w1 _ =>?_,.ifo1 t _ _ (ev_rd hx hr)⟩
 unfold nifB at h
 cases hu : P.underlying t with
 | none =>simp [hu] at h
 | some d =>
  simp only [execOp,Instr.makeInterface]
  cases d<;>simp_all [run_underlying hu]
def zgV (P : Program) (t : TypeId) : Option VV:=((P.info? t).bind (·.zero)).bind fun z =>match z with | .agg cs =>(cs.toList.mapM ofC).map VV.agg | v =>ofC v
theorem zgV_run {t : TypeId} {z : VV} (h : zgV P t = some z) : ∃ v,(∀ w : World,(zeroValue t).run P w = .ok v w)∧∀ D w,Rd P D w v z:=by
 unfold zgV at h
 cases hi : P.info? t with
 | none =>simp [hi] at h
 | some i =>
  cases hz : i.zero with
  | none =>simp [hi,hz] at h
  | some v =>
   simp only [hi,hz,Option.bind_some] at h
   refine ⟨v,fun w =>by simp [zeroValue,typeInfo,hi,hz],fun D w =>?_⟩
   split at h
   ·rename_i cs
    rw [Option.map_eq_some_iff] at h
    obtain ⟨xs,h1,rfl⟩:=h
    obtain ⟨h3,h4⟩:=mapM_rel h1
    exact .agg cs xs (by simpa using h3) (fun j u x hu hx =>ofC_rd (h4 j u x (by simpa using hu) hx))
   ·exact ofC_rd h
theorem VP.tassert {x : Operand} {xt T : TypeId} {b : Bool} {t : TypeId} {z zz : VV} (hn : nifB P T = true) (hz : zgV P T = some zz) (hx : ev env x = some (.ifo b t z)) :
  VP P N ⟨dst,.typeAssert x xt T true,ty,pos,aft,g⟩ env H (.tup [if (!b && t == T) = true then z else zz,.bool (!b && t == T)]):=fun D w a hs hr hi =>by
 obtain ⟨v,h1,h2⟩:=zgV_run hz
 have hrd:=ev_rd hx hr
 unfold nifB at hn
 cases hu : P.underlying T with
 | none =>simp [hu] at hn
 | some d =>
  have hd : ∀ ms,d≠.interface ms:=fun ms e =>by subst e; simp [hu] at hn
  rcases rd_ifo hrd with ⟨rfl,h⟩ | ⟨rfl,u,h,hru⟩
  ·refine ⟨.tuple #[v,.bool false],fun w1 _ =>?_,.tup _ _ rfl ?_⟩
   ·simp only [execOp,h,Instr.typeAssert]
    cases d<;>first | exact absurd rfl (hd _) | simp [run_underlying hu,h1]
   ·intro j q x hq hx
    match j with
    | 0 =>simp at hq hx; subst hq; subst hx; exact h2 D w
    | 1 =>simp at hq hx; subst hq; subst hx; exact .bool _
    | j + 2 =>simp at hq
  ·by_cases e : t = T
   ·subst e
    refine ⟨.tuple #[u,.bool true],fun w1 _ =>?_,.tup _ _ rfl ?_⟩
    ·simp only [execOp,h,Instr.typeAssert]
     cases d<;>first | exact absurd rfl (hd _) | simp [run_underlying hu]
    ·intro j q x hq hx
     match j with
     | 0 =>simp at hq hx; subst hq; subst hx; exact hru
     | 1 =>simp at hq hx; subst hq; subst hx; exact .bool _
     | j + 2 =>simp at hq
   ·have e' : (t == T) = false:=by simpa using e
    refine ⟨.tuple #[v,.bool false],fun w1 _ =>?_,.tup _ _ rfl ?_⟩
    ·simp only [execOp,h,Instr.typeAssert]
     cases d<;>first | exact absurd rfl (hd _) | simp [run_underlying hu,h1,e]
    ·intro j q x hq hx
     match j with
     | 0 =>simp [e'] at hq hx; subst hq; subst hx; exact h2 D w
     | 1 =>simp [e'] at hq hx; subst hq; subst hx; exact .bool _
     | j + 2 =>simp at hq
end
def grd (b : Bool) : Option Unit:=if b = true then some () else none
theorem grd_t {b : Bool} {u : Unit} (h : grd b = some u) : b = true:=by
 cases b
 ·cases h
 ·rfl
section
variable {P : Program} {N : Nat} {env : Env} {H : List HE} {K : VV→List HE→Prop} {D : Cx} {w : World}
variable {dst : Option Tmp} {ty : TypeId} {pos : String} {aft : Array Edge} {g : Option (Nat × Bool)}
theorem VL.s {c : Code} {Q : Post} {n : Nat} (h : VW P N c (Post.then (VL P N c Q n) Q) env H) : VL P N c Q (n + 1) env H:=h
variable {κ υ : Type} [DecidableEq κ] {kf : κ→VV} {kv : κ→Value} {kind : TypeDesc} {vf : υ→VV} {kt : TypeId}
end
section
variable {P : Program} {N : Nat} {env : Env} {H : List HE} {K : VV→List HE→Prop} {D : Cx} {w : World}
variable {dst : Option Tmp} {ty : TypeId} {pos : String} {aft : Array Edge} {g : Option (Nat × Bool)}
end
section
variable {P : Program} {N : Nat} {env : Env} {H : List HE} {K : VV→List HE→Prop} {D : Cx} {w : World}
variable {dst : Option Tmp} {ty : TypeId} {pos : String} {aft : Array Edge} {g : Option (Nat × Bool)}
end
section
variable {P : Program} {N : Nat} {env : Env} {H : List HE}
def Post.sh (P : Program) (Q : Post) : Post
 | .normal,env,H =>∃ env' H',Shift P env H env' H'∧Q .normal env' H'
 | e,env,H =>Q e env H
theorem Shift.refl : Shift P env H env H:=fun D w t hr hi =>⟨D,hr,hi,Fr.refl D w H⟩
end
end Go.Proofs.YtkondhigbbgidaaGreat.V

/-
  The logic over plain values: a function that defers a call. Own text.
-/
import Derived.Test.YtkondhigbbgidaaGreatVFroz
import Derived.Defers
namespace Go.Proofs.YtkondhigbbgidaaGreat.V
open Go
set_option linter.unusedVariables false
section
variable {P : Program} {N : Nat} {env : Env} {H : List HE} {D : Cx} {w : World} {zs : List VV}
variable {ρ β : Type}
def DR (P : Program) (D : Cx) (w : World) (d : Deferred) (z : VV) : Prop:=∃ fn fa cs,d = { target:=.fn fn cs,args:=fa }∧Rd P D w (.func fn fa cs) z
def DRs (P : Program) (D : Cx) (w : World) : List Deferred→List VV→Prop
 | [],[] =>True
 | d :: ds,z :: zs =>DR P D w d z∧DRs P D w ds zs
 | _,_ =>False
theorem DRs.keep {D' : Cx} {w' : World} {H' : List HE} (hI : Inv P D w H) (hF : Fr D w H D' w' H') : ∀ {ds : List Deferred} {zs : List VV},DRs P D w ds zs→DRs P D' w' ds zs
 | [],[],_ =>trivial
 | d :: ds,z :: zs,⟨⟨fn,fa,cs,h1,h2⟩,h3⟩ =>⟨⟨fn,fa,cs,h1,h2.keep hI hF⟩,DRs.keep hI hF h3⟩
 | [],_ :: _,h =>h.elim
 | _ :: _,[],h =>h.elim
abbrev PostD:=Exit→Env→List HE→List VV→Prop
def EndsD (P : Program) (N : Nat) (D : Cx) (w : World) (H : List HE) (Q : PostD) : Exit→Act→World→Prop :=
 fun e a' w' =>a'.tmps.size = N∧∃ env' H' D' zs,Q e env' H' zs∧DRs P D' w' a'.defers zs∧RE P D' w' env' a'.tmps∧Inv P D' w' H'∧Fr D w H D' w' H'
def VD (P : Program) (N : Nat) (c : Code) (Q : PostD) (env : Env) (H : List HE) (zs : List VV) : Prop :=
 ∀ D w a,a.tmps.size = N→DRs P D w a.defers zs→RE P D w env a.tmps→Inv P D w H→c.wp P (EndsD P N D w H Q) a w
theorem VD.of {c : Code} {Q : PostD} (h : VW P N c (fun e env' H' =>Q e env' H' zs) env H) : VD P N c Q env H zs:=fun D w a hs hd hr hi =>
 wp_mono (h D w a hs hr hi) fun _ _ _ ⟨h1,h2,env',H',D',h3,h4,h5,h6⟩ =>⟨h1,env',H',D',zs,h3,by rw [h2]; exact hd.keep hi h6,h4,h5,h6⟩
def PostD.then (K : Env→List HE→List VV→Prop) (Q : PostD) : PostD
 | .normal,env,H,zs =>K env H zs
 | e,env,H,zs =>Q e env H zs
theorem VD.seq {x y : Code} {Q : PostD} (h : VD P N x (PostD.then (VD P N y Q) Q) env H zs) : VD P N (.seq x y) Q env H zs:=by
 intro D w a hs hd hr hi
 refine wp_seq (wp_mono (h D w a hs hd hr hi) ?_)
 rintro e a' w' ⟨h1,env',H',D',zs',h3,h4,h5,h6,h7⟩
 cases e with
 | normal =>
  refine wp_mono (h3 D' w' a' h1 h4 h5 h6) ?_
  rintro e2 a2 w2 ⟨g1,env2,H2,D2,zs2,g3,g4,g5,g6,g7⟩
  exact ⟨g1,env2,H2,D2,zs2,g3,g4,g5,g6,h7.trans g7⟩
 | exit id =>exact ⟨h1,env',H',D',zs',h3,h4,h5,h6,h7⟩
 | goto l =>exact ⟨h1,env',H',D',zs',h3,h4,h5,h6,h7⟩
 | ret =>exact ⟨h1,env',H',D',zs',h3,h4,h5,h6,h7⟩
 | panic c =>exact ⟨h1,env',H',D',zs',h3,h4,h5,h6,h7⟩
 | outgrown =>exact ⟨h1,env',H',D',zs',h3,h4,h5,h6,h7⟩
theorem VD.if_ {t : Nat} {b : Bool} {x y : Code} {Q : PostD} {m1 m2 : Option β} {z : β} (hm : (if b = true then m1 else m2) = some z) (hb : get env t = some (.bool b)) (h1 : b = true→m1 = some z→VD P N x Q env H zs) (h2 : b = false→m2 = some z→VD P N y Q env H zs) : VD P N (.cond (.tmp t) x y) Q env H zs:=by
 intro D w a hs hd hr hi
 obtain ⟨v,hv,hrd⟩:=hr t _ hb
 cases hrd
 refine wp_cond (t:=b) (by simp [Act.eval,Array.getD_eq_getD_getElem?,hv]) ?_
 cases b with
 | true =>exact h1 rfl (by simpa using hm) D w a hs hd hr hi
 | false =>exact h2 rfl (by simpa using hm) D w a hs hd hr hi
def VCd (P : Program) (f : FuncId) (args : List VV) (H : List HE) (R : VV→List HE→Prop) : Prop :=
 ∀ (D : Cx) (w : World) (vs : Array Value) (u : FrameMode),vs.size = args.length→(∀ (j : Nat) (v : Value) (x : VV),vs[j]? = some v→args[j]? = some x→Rd P D w v x)→Inv P D w H →
  CallsD P f vs u w fun e u' w' =>u' = u∧∃ v x H' D',e = .returned v∧R x H'∧Rd P D' w' v x∧Inv P D' w' H'∧Fr D w H D' w' H'
theorem VCd.run {f : FuncId} {fn : Func} {c : Code} {args : List VV} {rs : List ResultVar} {R : VV→List HE→Prop} (hf : P.funcs[f]? = some fn) (hb : fn.body = some c) (hrs : fn.results = rs.toArray) (hn' : Nat.ble args.length fn.ntmps = true)
  (h : VW P fn.ntmps c (Fin' P rs R) (env0 args) H) : VCd P f args H R:=by
 have hn:=Nat.le_of_ble_eq_true hn'
 intro D w vs u hs hr hi
 refine callsD_of_wp hf hb (R:=fun e w' =>∃ v x H' D',e = .returned v∧R x H'∧Rd P D' w' v x∧Inv P D' w' H'∧Fr D w H D' w' H') (wp_mono (h D w _ ?_ ?_ hi) ?_)
 ·simp [hs]; omega
 ·intro s x hx
  have:=get_env0 args 0 s
  simp only [Nat.zero_le,if_true,Nat.sub_zero] at this
  unfold env0 at hx
  rw [this] at hx
  have hlt : s < args.length:=(List.getElem?_eq_some_iff.1 hx).1
  have hlv : s < vs.size:=by omega
  exact ⟨vs[s],by simp [Array.getElem?_append_left hlv],hr s _ x (Array.getElem?_eq_getElem hlv) hx⟩
 ·rintro e a' w' ⟨h1,h2,env',H',D',⟨he,xs,hres,idx,H'',hp,hR⟩,hre,hi',hf'⟩
  obtain ⟨v,hv,hrd⟩:=results_run hrs hres hre hi'
  obtain ⟨D2,b1,b2,b3⟩:=(Shift.pick (P:=P) (env:=[(0,resV xs)]) (env':=[(0,resV xs)]) idx hp ⟨rfl,trivial⟩) D' w' #[v] (fun s y hy =>by
   simp only [get] at hy
   split at hy
   ·rename_i e'
    have e2 : s = 0:=by simpa using e'
    subst e2
    cases hy
    exact ⟨v,rfl,hrd⟩
   ·cases hy) hi'
  obtain ⟨v2,hv2,hrd2⟩:=b1 0 (resV xs) rfl
  have : v2 = v:=by simpa using hv2.symm
  subst this
  rcases he with rfl | rfl
  ·exact ⟨h2,v2,hv,v2,_,H'',D2,rfl,hR,hrd2,b2,hf'.trans b3⟩
  ·exact ⟨h2,v2,hv,v2,_,H'',D2,rfl,hR,hrd2,b2,hf'.trans b3⟩
def Gd (P : Program) (rs : List ResultVar) (R : VV→List HE→Prop) (z : VV) (env : Env) (H : List HE) : Prop :=
 ∃ f fi ca,z = .clo (.func f) fi ca∧fnB P f = true∧∃ k R',VCd P f (fi++ca) (H.take k) R'∧∀ x H1,R' x H1→∃ xs,ResA P env (H1++H.drop k) rs xs∧∃ idx H'',pick idx (H1++H.drop k) = some H''∧R (resV xs) H''
def FinD (P : Program) (rs : List ResultVar) (R : VV→List HE→Prop) : PostD
 | e,env,H,[] =>Fin' P rs R e env H
 | e,env,H,[z] =>(e = .ret∨e = .normal)∧∃ H0,Shift P env H env H0∧Gd P rs R z env H0
 | _,_,_,_ =>False
def VS2d (P : Program) (f : FuncId) {ρ : Type} (F : Option ρ) (args : List VV) (H : List HE) (V : ρ→Option Nat→Nat→VV) (Hf : ρ→Option Nat→Nat→List HE) : Prop:=∀ r,F = some r→VCd P f args H (Po2 V Hf r)
def VSd (P : Program) (f : FuncId) {ρ : Type} (F : Option ρ) (args : List VV) (H : List HE) (V : ρ→VV) (Hf : ρ→List HE) : Prop:=∀ r,F = some r→VCd P f args H (Po V Hf r)
theorem VS2d.run {f : FuncId} {fn : Func} {c : Code} {args : List VV} {F : Option ρ} {V : ρ→Option Nat→Nat→VV} {Hf : ρ→Option Nat→Nat→List HE} (rs : List ResultVar) (hf : P.funcs[f]? = some fn) (hb : fn.body = some c) (hrs : fn.results = rs.toArray) (hn' : Nat.ble args.length fn.ntmps = true)
  (h : ∀ r,F = some r→VW P fn.ntmps c (Fin' P rs (Po2 V Hf r)) (env0 args) H) : VS2d P f F args H V Hf:=fun r hm =>VCd.run hf hb hrs hn' (h r hm)
theorem VSd.run {f : FuncId} {fn : Func} {c : Code} {args : List VV} {F : Option ρ} {V : ρ→VV} {Hf : ρ→List HE} (rs : List ResultVar) (hf : P.funcs[f]? = some fn) (hb : fn.body = some c) (hrs : fn.results = rs.toArray) (hn' : Nat.ble args.length fn.ntmps = true)
  (h : ∀ r,F = some r→VW P fn.ntmps c (Fin' P rs (Po V Hf r)) (env0 args) H) : VSd P f F args H V Hf:=fun r hm =>VCd.run hf hb hrs hn' (h r hm)
theorem VR.cs {ops : Array Oper} {l : List Oper} {L : Env→List HE→Prop} {b : Bool} {m1 m2 : Option β} {z : β} (hm : (if b = true then m1 else m2) = some z) (t : Nat) (hb : get env t = some (.bool b))
  (h1 : b = true→m1 = some z→VR P N ops l L ((t,.bool true) :: env) H) (h2 : b = false→m2 = some z→VR P N ops l L ((t,.bool false) :: env) H) : VR P N ops l L env H:=by
 cases hc : b with
 | true =>subst hc; exact VR.known hb rfl (h1 rfl (by simpa using hm))
 | false =>subst hc; exact VR.known hb rfl (h2 rfl (by simpa using hm))
theorem FinD.c0 {rs : List ResultVar} {R : VV→List HE→Prop} {f : FuncId} {fi ca : List VV} {H0 : List HE} {F : Option ρ} {kf : ρ→Option β} {z : β} {V : ρ→VV} {Hf : ρ→List HE} {e : Exit} (he : e = .ret∨e = .normal) (hm : F.bind kf = some z) (sh : Shift P env H env H0) (k : Nat) (hf : fnB P f = true) (hc : VSd P f F (fi++ca) (H0.take k) V Hf)
  (kk : ∀ r,kf r = some z→Fin' P rs R .normal env (Hf r++H0.drop k)) : FinD P rs R e env H [.clo (.func f) fi ca]:=by
 obtain ⟨r,a,b⟩:=bnd hm
 exact ⟨he,H0,sh,f,fi,ca,rfl,hf,k,_,hc r a,fun x H1 ⟨e1,e2⟩ =>by subst e1; subst e2; exact (kk r b).2⟩
theorem FinD.c2 {rs : List ResultVar} {R : VV→List HE→Prop} {f : FuncId} {fi ca : List VV} {H0 : List HE} {F : Option ρ} {kf : ρ→Option β} {z : β} {V : ρ→Option Nat→Nat→VV} {Hf : ρ→Option Nat→Nat→List HE} {e : Exit} (he : e = .ret∨e = .normal) (hm : F.bind kf = some z) (sh : Shift P env H env H0) (k : Nat) (hf : fnB P f = true) (hc : VS2d P f F (fi++ca) (H0.take k) V Hf)
  (kk : ∀ r a c,kf r = some z→Fin' P rs R .normal env (Hf r a c++H0.drop k)) : FinD P rs R e env H [.clo (.func f) fi ca]:=by
 obtain ⟨r,a,b⟩:=bnd hm
 exact ⟨he,H0,sh,f,fi,ca,rfl,hf,k,_,hc r a,fun x H1 ⟨p,q,e1,e2⟩ =>by subst e1; subst e2; exact (kk r p q b).2⟩
end
end Go.Proofs.YtkondhigbbgidaaGreat.V

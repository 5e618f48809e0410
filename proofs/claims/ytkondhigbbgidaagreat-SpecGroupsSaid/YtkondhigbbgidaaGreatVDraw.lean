/-
  The logic over plain values: regions that draw the order of their operations. Own text.
-/
import Derived.Test.YtkondhigbbgidaaGreatVMore
import Derived.OrdersHeld
namespace Go.Proofs.YtkondhigbbgidaaGreat.V
open Go
set_option linter.unusedVariables false
theorem wpAnyH_more {P : Program} {md : Region.Mode} {ops : Array Oper} {Q : Exit→Act→World→Prop} {S S' : World→Prop} (h : ∀ w,S' w→S w) : ∀ (n : Nat) (listed : Array Bool) (a : Act) (w : World),
  wpAnyH P md ops Q S' n listed a w→wpAnyH P md ops Q S n listed a w
 | 0,_,_,_,hh =>hh
 | n + 1,_,_,_,hh =>⟨hh.1,fun i hi =>wpOp_mono (fun a' w' h' =>⟨h w' h'.1,wpAnyH_more h n _ a' w' h'.2⟩) (hh.2 i hi)⟩
section
variable {P : Program} {N : Nat} {env : Env} {Hm Hp : List HE} {K : Env→List HE→Prop} {ops : Array Oper}
def lst (ops : Array Oper) (dn : List Nat) : Array Bool:=Array.ofFn fun i : Fin ops.size =>dn.contains i.val
theorem lst_cons (i : Nat) (dn : List Nat) : lst ops (i :: dn) = (lst ops dn).setIfInBounds i true:=by
 apply Array.ext
 ·simp [lst]
 ·intro j h1 h2
  have hj : j < ops.size:=by simpa [lst] using h1
  simp only [lst,Array.getElem_ofFn,Array.getElem_setIfInBounds (xs:=Array.ofFn _) (i:=i) (a:=true) (by simpa using hj)]
  by_cases e : i = j
  ·subst e; simp
  ·have e' : ¬ j = i:=fun h =>e h.symm
   simp [e,e']
theorem lst_nil : lst ops [] = Array.replicate ops.size false:=by
 apply Array.ext
 ·simp [lst]
 ·intro j h1 h2
  simp [lst]
def VA (P : Program) (N : Nat) (ops : Array Oper) (K : Env→List HE→Prop) (dn : List Nat) (env : Env) (Hm Hp : List HE) : Prop :=
 ∀ D w a,a.tmps.size = N→RE P D w env a.tmps→Inv P D w (Hm++Hp)→∀ (KK : Act→World→Prop),
  (∀ a' w' env' H' D',a'.tmps.size = N→a'.defers = a.defers→K env' H'→RE P D' w' env' a'.tmps→Inv P D' w' H'→Fr D w (Hm++Hp) D' w' H'→KK a' w') →
  wpAnyH P .any ops (fun e a' w' =>e = .normal∧KK a' w') (Prot D w Hp) (ops.size - dn.length) (lst ops dn) a w
theorem Inv.right {D : Cx} {w : World} (hi : Inv P D w (Hm++Hp)) : Inv P D w Hp:=by
 obtain ⟨nd,lt,ap,dlt,rel,arn⟩:=hi
 rw [blks_append] at nd lt ap
 rw [ars_append] at arn
 exact ⟨(List.nodup_append.1 nd).2.1,fun b hb =>lt b (by simp [hb]),fun b e hd hb =>ap b e hd (by simp [hb]),dlt,fun h hh =>rel h (by simp [hh]),(List.nodup_append.1 arn).2.1⟩
theorem Rd.drawn {D : Cx} {w : World} {n : Nat} {v : Value} {x : VV} (h : Rd P D w v x) : Rd P D { w with drawn:=n } v x :=
 h.mono (fun _ _ h =>h) (fun _ _ _ h =>h) (fun _ _ _ =>rfl)
theorem Inv.drawn {D : Cx} {w : World} {n : Nat} {H : List HE} (h : Inv P D w H) : Inv P D { w with drawn:=n } H :=
 ⟨h.nodup,h.lt,h.apart,h.dlt,fun x hx =>(h.rel x hx).keep (fun _ _ =>rfl) (fun _ _ h =>h) (fun _ _ _ h =>h) (fun _ _ _ _ h =>h) (fun _ _ _ =>rfl),h.arn⟩
theorem VW.draw {id : Nat} {l : List Oper} {Q : Post} (hm : P.follows .mixedOrders = true) (h : VA P N l.toArray (fun env H =>Q .normal env H) [] env Hm Hp) :
  VW P N (.region id l.toArray true) Q env (Hm++Hp):=by
 intro D w a hs hr hi
 refine wp_mono (wp_region_held (S:=Prot D { w with drawn:=w.drawn + 1 } Hp) (Q:=fun e a' w' =>e = .normal∧Ends P N D w a (Hm++Hp) Q .normal a' w') hm ?_) ?_
 ·have:=h D { w with drawn:=w.drawn + 1 } a hs (fun s x hx =>let ⟨v,h1,h2⟩:=hr s x hx; ⟨v,h1,h2.drawn⟩) hi.drawn (fun a' w' =>Ends P N D w a (Hm++Hp) Q .normal a' w') ?_
  ·rw [lst_nil] at this; simpa using this
  ·intro a' w' env' H' D' h1 h2 h3 h4 h5 h6
   exact ⟨h1,h2,env',H',D',h3,h4,h5,⟨h6.size,h6.prot,h6.dmono,h6.dnew,h6.hnew,h6.os,h6.tape,h6.output,h6.nmono,h6.nnew,h6.anew⟩⟩
 ·rintro e a' w' ⟨rfl,h⟩
  exact h
theorem VA.done {dn : List Nat} (hr : (Region.ready .any ops (lst ops dn)).isEmpty = true) (h : K env (Hm++Hp)) : VA P N ops K dn env Hm Hp:=by
 intro D w a hs hre hi KK hk
 exact wpAnyH_done (by simpa using hr) ⟨rfl,hk a w env _ D hs rfl h hre hi (Fr.refl D w _)⟩ _
def tkB (ops : Array Oper) (dn : List Nat) (i : Nat) : Bool :=
 Region.noSelect ops && Region.free .any ops (lst ops dn) i && (Region.ready .any ops (lst ops dn)).contains i && Nat.blt dn.length ops.size
theorem va_take {dn : List Nat} {i : Nat} {o : Oper} {env1 : Env} (hi : ops[i]? = some o) (ht : tkB ops dn i = true)
  (hy : ∀ D w a,a.tmps.size = N→RE P D w env a.tmps→Inv P D w Hp→∃ v,YieldsIf P ops (Prot D w Hp) o v a∧RE P D w env1 (a.put o.dst v).tmps)
  (k : VA P N ops K (i :: dn) env1 Hm Hp) : VA P N ops K dn env Hm Hp:=by
 intro D w a hs hr hinv KK hk
 unfold tkB at ht
 simp only [Bool.and_eq_true] at ht
 obtain ⟨⟨⟨t1,t2⟩,t3⟩,t4⟩:=ht
 have t4 : dn.length < ops.size:=by have:=t4; simp [Nat.blt] at this; omega
 obtain ⟨v,y1,y2⟩:=hy D w a hs hr hinv.right
 have e1 : ops.size - dn.length = (ops.size - (i :: dn).length) + 1:=by simp; omega
 rw [e1]
 refine wpAnyH_take hi t1 t2 t3 (fun c a w h =>by cases h.1) y1 (Prot.refl D w Hp) ?_
 rw [← lst_cons]
 refine k D w (a.put o.dst v) ((put_size ..).trans hs) y2 hinv KK ?_
 intro a' w' env' H' D' h1 h2 h3 h4 h5 h6
 exact hk a' w' env' H' D' h1 (h2.trans (put_defers ..)) h3 h4 h5 h6
theorem VA.p (i : Nat) {dn : List Nat} {o : Oper} {x : VV} (hi : ops[i]? = some o) (hd : dok N o.dst = true) (hg : o.guard = none) (ht : tkB ops dn i = true) (h : VP P N o env Hp x)
  (k : VA P N ops K (i :: dn) (putd env o.dst x) Hm Hp) : VA P N ops K dn env Hm Hp:=by
 refine va_take hi ht (fun D w a hs hr hinv =>?_) k
 obtain ⟨v,hv,hrd⟩:=h D w a hs hr hinv
 exact ⟨v,.inl ⟨by unfold Region.wanted; rw [hg],hv⟩,hr.putd hs hd hrd⟩
theorem VA.pG (i : Nat) {dn : List Nat} {j t : Nat} {want b : Bool} {o : Oper} {x : VV} (hi : ops[i]? = some o) (hd : dok N o.dst = true) (hg : o.guard = some (j,want)) (hj : gslot ops j = some t)
  (hb : get env t = some (.bool b)) (hw : b = want) (ht : tkB ops dn i = true) (h : VP P N o env Hp x)
  (k : VA P N ops K (i :: dn) (putd env o.dst x) Hm Hp) : VA P N ops K dn env Hm Hp:=by
 subst hw
 refine va_take hi ht (fun D w a hs hr hinv =>?_) k
 obtain ⟨v,hv,hrd⟩:=h D w a hs hr hinv
 exact ⟨v,.inl ⟨by rw [wanted_of hg hj hb hr,beq_self_eq_true],hv⟩,hr.putd hs hd hrd⟩
theorem VA.skipG (i : Nat) {dn : List Nat} {j t : Nat} {want b : Bool} {o : Oper} (hi : ops[i]? = some o) (hd : dok N o.dst = true) (hg : o.guard = some (j,want)) (hj : gslot ops j = some t)
  (hb : get env t = some (.bool b)) (hw : b = !want) (ht : tkB ops dn i = true)
  (k : VA P N ops K (i :: dn) (putd env o.dst (.tup [])) Hm Hp) : VA P N ops K dn env Hm Hp:=by
 subst hw
 refine va_take hi ht (fun D w a hs hr hinv =>?_) k
 exact ⟨undef,.inr ⟨by rw [wanted_of hg hj hb hr]; cases want<;>decide,rfl⟩,hr.putd hs hd rd_undef⟩
theorem VA.skipU (i : Nat) {dn : List Nat} {j t : Nat} {want : Bool} {o : Oper} (hi : ops[i]? = some o) (hd : dok N o.dst = true) (hg : o.guard = some (j,want)) (hj : gslot ops j = some t)
  (hb : get env t = some (.tup [])) (ht : tkB ops dn i = true)
  (k : VA P N ops K (i :: dn) (putd env o.dst (.tup [])) Hm Hp) : VA P N ops K dn env Hm Hp:=by
 refine va_take hi ht (fun D w a hs hr hinv =>?_) k
 exact ⟨undef,.inr ⟨unwanted_of hg hj hb hr,rfl⟩,hr.putd hs hd rd_undef⟩
def VB (P : Program) (N : Nat) (ops : Array Oper) (K : Env→List HE→Prop) (dn : List Nat) (env : Env) (Hm Hp : List HE) (i : Nat) : Prop :=
 ∃ o,ops[i]? = some o∧(∀ D w (a : Act),RE P D w env a.tmps→Region.wanted o (yielded ops a.tmps) = true)∧dok N o.dst = true ∧
  VO P N o env Hm fun x H' =>VA P N ops K (i :: dn) (putd env o.dst x) H' Hp
theorem VB.o {dn : List Nat} {i : Nat} {o : Oper} (hi : ops[i]? = some o) (hd : dok N o.dst = true) (hg : o.guard = none)
  (h : VO P N o env Hm fun x H' =>VA P N ops K (i :: dn) (putd env o.dst x) H' Hp) : VB P N ops K dn env Hm Hp i :=
 ⟨o,hi,fun D w a hr =>by unfold Region.wanted; rw [hg],hd,h⟩
theorem VB.oG {dn : List Nat} {i j t : Nat} {want b : Bool} {o : Oper} (hi : ops[i]? = some o) (hd : dok N o.dst = true) (hg : o.guard = some (j,want)) (hj : gslot ops j = some t) (hb : get env t = some (.bool b)) (hw : b = want)
  (h : VO P N o env Hm fun x H' =>VA P N ops K (i :: dn) (putd env o.dst x) H' Hp) : VB P N ops K dn env Hm Hp i :=
 ⟨o,hi,fun D w a hr =>by subst hw; rw [wanted_of hg hj hb hr,beq_self_eq_true],hd,h⟩
def VBs (P : Program) (N : Nat) (ops : Array Oper) (K : Env→List HE→Prop) (dn : List Nat) (env : Env) (Hm Hp : List HE) : List Nat→Prop
 | [] =>True
 | i :: r =>VB P N ops K dn env Hm Hp i∧VBs P N ops K dn env Hm Hp r
theorem VBs.mem {dn : List Nat} : ∀ {rs : List Nat},VBs P N ops K dn env Hm Hp rs→∀ i,i ∈ rs→VB P N ops K dn env Hm Hp i
 | j :: r,⟨h1,h2⟩,i,hi =>by
  rcases List.mem_cons.1 hi with rfl | hi
  ·exact h1
  ·exact h2.mem i hi
def rdB (ops : Array Oper) (dn : List Nat) (rs : List Nat) : Bool:=(Region.ready .any ops (lst ops dn)) == rs && !rs.isEmpty && Nat.blt dn.length ops.size
theorem VA.all (rs : List Nat) {dn : List Nat} (hr : rdB ops dn rs = true) (h : VBs P N ops K dn env Hm Hp rs) : VA P N ops K dn env Hm Hp:=by
 intro D w a hs hre hinv KK hk
 unfold rdB at hr
 simp only [Bool.and_eq_true,beq_iff_eq,Bool.not_eq_true',List.isEmpty_eq_false_iff] at hr
 have t4 : dn.length < ops.size:=by have:=hr.2; simp [Nat.blt] at this; omega
 have e1 : ops.size - dn.length = (ops.size - (dn.length + 1)) + 1:=by omega
 rw [e1]
 refine wpAnyH_all hr.1.1 hr.1.2 fun i hi =>?_
 obtain ⟨o,h1,h2,h3,h4⟩:=h.mem i hi
 unfold wpOp
 simp only [h1,h2 D w a hre,if_true]
 refine .inl (h4 D w a hs hre hinv.sub _ _ ?_)
 intro v x H' D' w' hx hrd hi' hf
 obtain ⟨hI,hF⟩:=hinv.frame hi' hf
 have hpr : ∀ w2,Prot D' w' Hp w2→Prot D w Hp w2:=fun w2 hp b hb =>by
  have e1 : w'.heap[b]? = w.heap[b]?:=by
   rcases hb with ⟨e,hd⟩ | hb
   ·exact hF.dsame hinv b e hd
   ·refine hf.prot b (hinv.right.lt b hb) fun hbm =>?_
    have nd:=hinv.nodup
    rw [blks_append] at nd
    exact (List.nodup_append.1 nd).2.2 b hbm b hb rfl
  refine (hp b ?_).trans e1
  rcases hb with ⟨e,hd⟩ | hb
  ·exact .inl ⟨e,hF.dmono b e hd⟩
  ·exact .inr hb
 refine ⟨hpr w' (Prot.refl D' w' Hp),wpAnyH_more hpr _ _ _ _ ?_⟩
 rw [← lst_cons]
 refine hx D' w' (a.put o.dst v) ((put_size ..).trans hs) ((hre.keep hinv hF).putd hs h3 hrd) hI KK ?_
 intro a' w2 env2 H2 D2 g1 g2 g3 g4 g5 g6
 exact hk a' w2 env2 H2 D2 g1 (g2.trans (put_defers ..)) g3 g4 g5 (hF.trans g6)
theorem VA.weak {dn : List Nat} {env' : Env} (he : Sub env env') (h : VA P N ops K dn env' Hm Hp) : VA P N ops K dn env Hm Hp :=
 fun D w a hs hr hi =>h D w a hs (fun s x hx =>hr s x (he.get s x hx)) hi
theorem VA.join {σ : Type} (dn2 : List Nat) {dn : List Nat} (Ok : σ→Prop) (tm : σ→Env) (h1 : ∀ K',(∀ env',(∃ s,Ok s∧Sub env' (tm s))→VA P N ops K' dn2 env' Hm Hp)→VA P N ops K' dn env Hm Hp)
  (h2 : ∀ s,Ok s→VA P N ops K dn2 (tm s) Hm Hp) : VA P N ops K dn env Hm Hp :=
 h1 K fun _ ⟨s,hs,he⟩ =>VA.weak he (h2 s hs)
end
end Go.Proofs.YtkondhigbbgidaaGreat.V

/-
  The logic over plain values: turns of what is known (no code runs), pieces of slices. Own text.
-/
import Derived.Test.YtkondhigbbgidaaGreatVRow2
namespace Go.Proofs.YtkondhigbbgidaaGreat.V
open Go
set_option linter.unusedVariables false
section
variable {P : Program} {N : Nat} {env : Env} {H : List HE} {K : VV→List HE→Prop} {D : Cx} {w : World} {Q : Post}
variable {dst : Option Tmp} {ty : TypeId} {pos : String} {aft : Array Edge} {g : Option (Nat × Bool)}
def Shift (P : Program) (env : Env) (H : List HE) (env' : Env) (H' : List HE) : Prop :=
 ∀ (D : Cx) (w : World) (tmps : Array Value),RE P D w env tmps→Inv P D w H→∃ D',RE P D' w env' tmps∧Inv P D' w H'∧Fr D w H D' w H'
theorem VW.shift {c : Code} {env' : Env} {H' : List HE} (hs : Shift P env H env' H') (h : VW P N c Q env' H') : VW P N c Q env H:=by
 intro D w a hz hr hi
 obtain ⟨D',h1,h2,h3⟩:=hs D w a.tmps hr hi
 exact wp_mono (h D' w a hz h1 h2) (ends_trans rfl h3)
theorem VR.shift {ops : Array Oper} {l : List Oper} {K : Env→List HE→Prop} {env' : Env} {H' : List HE} (hs : Shift P env H env' H') (h : VR P N ops l K env' H') : VR P N ops l K env H:=by
 intro D w a hz hr hi Q hq
 obtain ⟨D',h1,h2,h3⟩:=hs D w a.tmps hr hi
 exact h D' w a hz h1 h2 Q fun a' w' env1 H1 D1 q1 q2 q3 q4 q5 q6 =>hq a' w' env1 H1 D1 q1 q2 q3 q4 q5 (h3.trans q6)
theorem Shift.trans {env1 env2 : Env} {H1 H2 : List HE} (h : Shift P env H env1 H1) (k : Shift P env1 H1 env2 H2) : Shift P env H env2 H2:=fun D w t hr hi =>
 let ⟨D1,a1,a2,a3⟩:=h D w t hr hi
 let ⟨D2,b1,b2,b3⟩:=k D1 w t a1 a2
 ⟨D2,b1,b2,a3.trans b3⟩
theorem Shift.weak {env' : Env} {H' : List HE} (he : Sub env env') (hs : H'.Sublist H) : Shift P env H env' H':=by
 intro D w t hr hi
 have hb:=blks_sub hs
 exact ⟨D,fun s x hx =>hr s x (he.get s x hx),⟨hi.nodup.sublist hb,fun b hm =>hi.lt b (hb.subset hm),fun b e hd hm =>hi.apart b e hd (hb.subset hm),hi.dlt,fun x hx =>hi.rel x (hs.subset hx),hi.arn.sublist (ars_sub hs)⟩,
  ⟨Nat.le_refl _,fun _ _ _ =>rfl,fun _ _ h =>h,fun _ _ h =>.inl h,fun b hm =>.inl (hb.subset hm),rfl,rfl,rfl,fun _ _ _ h =>h,fun _ _ _ h =>.inl h,fun a ha =>(ars_sub hs).subset ha⟩⟩
theorem Shift.nilRow (e : TypeId) : Shift P env H env (.row none e 0 [] :: H):=fun D w t hr hi =>
 ⟨D,hr,⟨hi.nodup,hi.lt,hi.apart,hi.dlt,fun x hx =>by
  rcases List.mem_cons.1 hx with rfl | hx
  ·exact ⟨rfl,rfl⟩
  ·exact hi.rel x hx,hi.arn⟩,⟨Nat.le_refl _,fun _ _ _ =>rfl,fun _ _ h =>h,fun _ _ h =>.inl h,fun b hm =>.inl hm,rfl,rfl,rfl,fun _ _ _ h =>h,fun _ _ _ h =>.inl h,fun a ha =>ha⟩⟩
theorem Shift.nilList (s : Nat) (e : TypeId) (h : get env s = some (.sl none 0 0)) : Shift P env H ((s,.list e []) :: env) H:=by
 intro D w t hr hi
 refine ⟨D,fun s' x hx =>?_,hi,Fr.refl D w H⟩
 simp only [get] at hx
 split at hx
 ·rename_i e'
  have e2 : s' = s:=by simpa using e'
  subst e2
  simp only [Option.some.injEq] at hx
  subst hx
  obtain ⟨v,hv,hrd⟩:=hr s' _ h
  cases hrd
  exact ⟨_,hv,.listNil e none⟩
 ·exact hr s' x hx
theorem eraseIdx_split {i : Nat} {h : HE} (hh : H[i]? = some h) : H.eraseIdx i = H.take i++H.drop (i + 1):=by
 rw [List.eraseIdx_eq_take_drop_succ]
theorem freeze_core2 {i : Nat} {ob : Option Nat} {e : TypeId} {cap : Nat} {xs : List VV} (hh : H[i]? = some (.row ob e cap xs)) (hi : Inv P D w H) :
  ∃ D',(∀ b e,D b e→D' b e)∧Inv P D' w (H.eraseIdx i)∧Fr D w H D' w (H.eraseIdx i)∧(∀ v,Rd P D w v (.sl ob xs.length cap)→Rd P D' w v (.list e xs))∧(∀ b e',D' b e'→D b e'∨e' = e)∧∀ a i b,D'.nm a i b→D.nm a i b:=by
 have hrow:=hi.rel _ (List.mem_of_getElem? hh)
 obtain ⟨e1,_⟩:=split_at hh (.row none 0 0 [])
 have hsub : (H.eraseIdx i).Sublist H:=List.eraseIdx_sublist ..
 have hb:=blks_sub hsub
 cases ob with
 | none =>
  obtain ⟨h1,h2⟩:=hrow
  subst h1; subst h2
  refine ⟨D,fun _ _ h =>h,⟨hi.nodup.sublist hb,fun b hm =>hi.lt b (hb.subset hm),fun b e hd hm =>hi.apart b e hd (hb.subset hm),hi.dlt,fun x hx =>hi.rel x (hsub.subset hx),hi.arn.sublist (ars_sub hsub)⟩,
   ⟨Nat.le_refl _,fun _ _ _ =>rfl,fun _ _ h =>h,fun _ _ h =>.inl h,fun b hm =>.inl (hb.subset hm),rfl,rfl,rfl,fun _ _ _ h =>h,fun _ _ _ h =>.inl h,fun a ha =>(ars_sub hsub).subset ha⟩,fun v hrd =>?_,fun _ _ h =>.inl h,fun _ _ _ h =>h⟩
  cases hrd
  exact .listNil e none
 | some b =>
  obtain ⟨arr,h1,h2,h3,h4,h5,h6⟩:=hrow
  have hbm : b ∈ blks H:=mem_blks (List.mem_of_getElem? hh) (by simp [HE.bl])
  have hbn : b ∉ blks (H.eraseIdx i):=by
   have nd:=hi.nodup
   rw [e1,blks_append,blks_cons] at nd
   rw [eraseIdx_split hh,blks_append]
   simp only [HE.bl,Option.toList_some,List.singleton_append,List.nodup_append,List.nodup_cons] at nd
   intro hm
   rcases List.mem_append.1 hm with hm | hm
   ·exact nd.2.2 b hm b (by simp) rfl
   ·exact nd.2.1.1 hm
  let D' : Cx:=⟨fun b' e' =>D b' e'∨(b' = b∧e' = e),D.nm⟩
  have hDD : ∀ b e,D b e→D' b e:=fun b e h =>.inl h
  have hmono : ∀ {v : Value} {x : VV},Rd P D w v x→Rd P D' w v x:=fun h =>h.mono hDD (fun _ _ _ h =>h) (fun _ _ _ =>rfl)
  refine ⟨D',hDD,⟨hi.nodup.sublist hb,fun b hm =>hi.lt b (hb.subset hm),?_,?_,?_,hi.arn.sublist (ars_sub hsub)⟩,⟨Nat.le_refl _,fun _ _ _ =>rfl,hDD,?_,fun b hm =>.inl (hb.subset hm),rfl,rfl,rfl,fun _ _ _ h =>h,fun _ _ _ h =>.inl h,fun a ha =>(ars_sub hsub).subset ha⟩,fun v hrd =>?_,fun b' e' hd =>hd.imp id (·.2),fun _ _ _ h =>h⟩
  ·intro b' e' hd hm
   rcases hd with hd | ⟨rfl,rfl⟩
   ·exact hi.apart b' e' hd (hb.subset hm)
   ·exact hbn hm
  ·intro b' e' hd
   rcases hd with hd | ⟨rfl,rfl⟩
   ·exact hi.dlt b' e' hd
   ·exact hi.lt b' hbm
  ·intro x hx
   exact (hi.rel x (hsub.subset hx)).keep (fun _ _ =>rfl) hDD (fun _ _ _ h =>h) (fun _ _ _ _ h =>h) (fun _ _ _ =>rfl)
  ·intro b' e' hd
   rcases hd with hd | ⟨rfl,rfl⟩
   ·exact .inl hd
   ·exact .inr (.inl hbm)
  ·cases hrd
   have hfl:=flat_length h5
   have key : ∀ (i : Nat) (x : VV),xs[i]? = some x→∀ (j : Nat) (y : VV),x.cells[j]? = some y→arr[i * P.cellsOf e + j]? = some (arr.getD (i * P.cellsOf e + j) undef)∧(flat xs)[i * P.cellsOf e + j]? = some y:=by
    intro i x hx j y hy
    have hj : j < P.cellsOf e:=by rw [← (h5 x (List.mem_of_getElem? hx)).1]; exact (List.getElem?_eq_some_iff.1 hy).1
    have hg:=flat_get h5 hx hj
    rw [hy] at hg
    have hlt : i * P.cellsOf e + j < arr.size:=by
     have h7:=(List.getElem?_eq_some_iff.1 hg).1
     rw [hfl] at h7
     have h8 : xs.length * P.cellsOf e≤cap * P.cellsOf e:=Nat.mul_le_mul_right _ h3
     omega
    exact ⟨by simp [Array.getD_eq_getD_getElem?,hlt],hg⟩
   refine .list e xs b 0 cap (fun i j =>arr.getD (i * P.cellsOf e + j) undef) h3 h4 (.inr ⟨rfl,rfl⟩) h5 ?_ ?_
   ·intro i x hx j y hy
    rw [cell_of_row w b _ arr e (0,0) h1,Nat.zero_add]
    exact (key i x hx j y hy).1
   ·intro i x hx j y hy
    obtain ⟨k1,k2⟩:=key i x hx j y hy
    exact hmono (h6 _ _ _ k1 k2)
inductive Fz (ob : Option Nat) (e : TypeId) (cap : Nat) (xs : List VV) : VV→VV→Prop
 | same (x : VV) : Fz ob e cap xs x x
 | here (n : Nat) (hn : n = xs.length) : Fz ob e cap xs (.sl ob n cap) (.list e xs)
 | agg (cs cs' : List VV) (hl : cs.length = cs'.length) (h : ∀ (j : Nat) (x y : VV),cs[j]? = some x→cs'[j]? = some y→Fz ob e cap xs x y) : Fz ob e cap xs (.agg cs) (.agg cs')
 | tup (cs cs' : List VV) (hl : cs.length = cs'.length) (h : ∀ (j : Nat) (x y : VV),cs[j]? = some x→cs'[j]? = some y→Fz ob e cap xs x y) : Fz ob e cap xs (.tup cs) (.tup cs')
def FzL (ob : Option Nat) (e : TypeId) (cap : Nat) (xs : List VV) : List VV→List VV→Prop
 | [],[] =>True
 | x :: r,y :: s =>Fz ob e cap xs x y∧FzL ob e cap xs r s
 | _,_ =>False
theorem FzL.get {ob : Option Nat} {e : TypeId} {cap : Nat} {xs : List VV} : ∀ {l l' : List VV},FzL ob e cap xs l l'→l.length = l'.length∧∀ (j : Nat) (x y : VV),l[j]? = some x→l'[j]? = some y→Fz ob e cap xs x y
 | [],[],_ =>⟨rfl,by simp⟩
 | x :: r,y :: s,⟨h1,h2⟩ =>by
  obtain ⟨a,b⟩:=FzL.get h2
  refine ⟨by simp [a],fun j u v hu hv =>?_⟩
  cases j with
  | zero =>simp at hu hv; subst hu; subst hv; exact h1
  | succ j =>exact b j u v (by simpa using hu) (by simpa using hv)
theorem Fz.aggL {ob : Option Nat} {e : TypeId} {cap : Nat} {xs cs cs' : List VV} (h : FzL ob e cap xs cs cs') : Fz ob e cap xs (.agg cs) (.agg cs'):=.agg _ _ h.get.1 h.get.2
def FzE (ob : Option Nat) (e : TypeId) (cap : Nat) (xs : List VV) (env : Env) : Env→Prop
 | [] =>True
 | (s,y) :: r =>(∃ x,get env s = some x∧Fz ob e cap xs x y)∧FzE ob e cap xs env r
theorem FzE.get {ob : Option Nat} {e : TypeId} {cap : Nat} {xs : List VV} : ∀ {env' : Env},FzE ob e cap xs env env'→∀ s y,V.get env' s = some y→∃ x,V.get env s = some x∧Fz ob e cap xs x y
 | (s',z) :: r,⟨h1,h2⟩,s,y,h =>by
  simp only [V.get] at h
  split at h
  ·rename_i e'
   have e2 : s = s':=by simpa using e'
   subst e2
   simp only [Option.some.injEq] at h
   subst h
   exact h1
  ·exact FzE.get h2 s y h
inductive FzB (ob : Option Nat) (e : TypeId) (cap : Nat) (xs : List VV) : HE→HE→Prop
 | same (h : HE) : FzB ob e cap xs h h
 | box (b : Nat) (t : TypeId) (cs cs' : List VV) (h : FzL ob e cap xs cs cs') : FzB ob e cap xs (.box b t cs) (.box b t cs')
def FzH (ob : Option Nat) (e : TypeId) (cap : Nat) (xs : List VV) : List HE→List HE→Prop
 | [],[] =>True
 | x :: r,y :: s =>FzB ob e cap xs x y∧FzH ob e cap xs r s
 | _,_ =>False
theorem FzH.get {ob : Option Nat} {e : TypeId} {cap : Nat} {xs : List VV} : ∀ {l l' : List HE},FzH ob e cap xs l l'→(blks l' = blks l∧ars l' = ars l)∧∀ y,y ∈ l'→∃ x,x ∈ l∧FzB ob e cap xs x y
 | [],[],_ =>⟨⟨rfl,rfl⟩,by simp⟩
 | x :: r,y :: s,⟨h1,h2⟩ =>by
  obtain ⟨⟨a,a2⟩,b⟩:=FzH.get h2
  refine ⟨⟨?_,?_⟩,fun z hz =>?_⟩
  ·rw [blks_cons,blks_cons,a]
   cases h1<;>rfl
  ·rw [ars_cons,ars_cons,a2]
   cases h1<;>rfl
  ·rcases List.mem_cons.1 hz with rfl | hz
   ·exact ⟨x,by simp,h1⟩
   ·obtain ⟨u,hu,hb⟩:=b z hz
    exact ⟨u,by simp [hu],hb⟩
theorem FzH.refl {ob : Option Nat} {e : TypeId} {cap : Nat} {xs : List VV} : ∀ (l : List HE),FzH ob e cap xs l l
 | [] =>trivial
 | x :: r =>⟨.same x,FzH.refl r⟩
def LS (es : List Nat) (P : Program) (env : Env) (H : List HE) (env' : Env) (H' : List HE) : Prop :=
 ∀ (D : Cx) (w : World) (tmps : Array Value),RE P D w env tmps→Inv P D w H→∃ D',RE P D' w env' tmps∧Inv P D' w H'∧Fr D w H D' w H'∧(∀ b e,D' b e→D b e∨es.contains e = true)∧∀ a i b,D'.nm a i b→D.nm a i b
theorem LS.shift {es : List Nat} {env' : Env} {H' : List HE} (h : LS es P env H env' H') : Shift P env H env' H':=fun D w t hr hi =>
 let ⟨D',a,b,c,_⟩:=h D w t hr hi
 ⟨D',a,b,c⟩
theorem LS.trans {es : List Nat} {env1 env2 : Env} {H1 H2 : List HE} (h : LS es P env H env1 H1) (k : LS es P env1 H1 env2 H2) : LS es P env H env2 H2:=fun D w t hr hi =>
 let ⟨D1,a1,a2,a3,a4,a5⟩:=h D w t hr hi
 let ⟨D2,b1,b2,b3,b4,b5⟩:=k D1 w t a1 a2
 ⟨D2,b1,b2,a3.trans b3,fun b e hd =>(b4 b e hd).elim (fun q =>a4 b e q) .inr,fun a i b hd =>a5 a i b (b5 a i b hd)⟩
theorem LS.freezes (es : List Nat) (i : Nat) {ob : Option Nat} {e : TypeId} {cap : Nat} {xs : List VV} {env' : Env} {H' : List HE} (hes : es.contains e = true) (hh : H[i]? = some (.row ob e cap xs)) (he : FzE ob e cap xs env env') (hH : FzH ob e cap xs (H.eraseIdx i) H') : LS es P env H env' H':=by
 intro D w t hr hi
 obtain ⟨D',hDD,hI,hF,hfz,hnew,hnmm⟩:=freeze_core2 hh hi
 have hmono : ∀ {v : Value} {x : VV},Rd P D w v x→Rd P D' w v x:=fun h =>h.mono hDD hF.nmono (fun _ _ _ =>rfl)
 have hfz' : ∀ {x y : VV},Fz ob e cap xs x y→∀ v,Rd P D w v x→Rd P D' w v y:=by
  intro x y hxy
  induction hxy with
  | same x =>exact fun v h =>hmono h
  | here n hn =>intro v h; subst hn; exact hfz v h
  | agg cs cs' hl _ ih =>
   intro v h
   cases h with
   | agg arr _ hs hrr =>
    refine .agg arr cs' (hs.trans hl) fun j u y hu hy =>?_
    have hlt : j < cs.length:=by rw [hl]; exact (List.getElem?_eq_some_iff.1 hy).1
    exact ih j cs[j] y (List.getElem?_eq_getElem hlt) hy u (hrr j u _ hu (List.getElem?_eq_getElem hlt))
  | tup cs cs' hl _ ih =>
   intro v h
   cases h with
   | tup arr _ hs hrr =>
    refine .tup arr cs' (hs.trans hl) fun j u y hu hy =>?_
    have hlt : j < cs.length:=by rw [hl]; exact (List.getElem?_eq_some_iff.1 hy).1
    exact ih j cs[j] y (List.getElem?_eq_getElem hlt) hy u (hrr j u _ hu (List.getElem?_eq_getElem hlt))
 obtain ⟨⟨hb,hba⟩,hm⟩:=hH.get
 refine ⟨D',fun s y hy =>?_,⟨by rw [hb]; exact hI.nodup,by rw [hb]; exact hI.lt,by rw [hb]; exact hI.apart,hI.dlt,fun y hy =>?_,by rw [hba]; exact hI.arn⟩,⟨hF.size,hF.prot,hF.dmono,hF.dnew,by rw [hb]; exact hF.hnew,hF.os,hF.tape,hF.output,hF.nmono,hF.nnew,by rw [hba]; exact hF.anew⟩,fun b' e' hd =>(hnew b' e' hd).imp id fun z =>by rw [z]; exact hes,hnmm⟩
 ·obtain ⟨x,hx,hxy⟩:=he.get s y hy
  obtain ⟨v,hv,hrd⟩:=hr s x hx
  exact ⟨v,hv,hfz' hxy v hrd⟩
 ·obtain ⟨x,hx,hxy⟩:=hm y hy
  cases hxy with
  | same =>exact hI.rel _ hx
  | box b t cs cs' hcs =>
   obtain ⟨arr,a1,a2,a3⟩:=hi.rel _ ((List.eraseIdx_sublist ..).subset hx)
   refine ⟨arr,a1,a2.trans hcs.get.1,fun j v y hv hy =>?_⟩
   have hlt : j < cs.length:=by rw [hcs.get.1]; exact (List.getElem?_eq_some_iff.1 hy).1
   exact hfz' (hcs.get.2 j cs[j] y (List.getElem?_eq_getElem hlt) hy) v (a3 j v _ hv (List.getElem?_eq_getElem hlt))
theorem Shift.freezes (i : Nat) {ob : Option Nat} {e : TypeId} {cap : Nat} {xs : List VV} {env' : Env} {H' : List HE} (hh : H[i]? = some (.row ob e cap xs)) (he : FzE ob e cap xs env env') (hH : FzH ob e cap xs (H.eraseIdx i) H') : Shift P env H env' H' :=
 (LS.freezes [e] i (by simp) hh he hH).shift
theorem get_app_none {s : Nat} : ∀ {l : Env},get l s = none→get (l++env) s = get env s
 | [],_ =>rfl
 | (u,x) :: r,h =>by
  simp only [get,List.cons_append] at h ⊢
  split at h
  ·cases h
  ·rename_i hne
   rw [if_neg hne]
   exact get_app_none h
theorem get_app_some {s : Nat} : ∀ {l : Env},get l s≠none→get (l++env) s = get l s
 | [],h =>absurd rfl h
 | (u,x) :: r,h =>by
  simp only [get,List.cons_append] at h ⊢
  split
  ·rfl
  ·rename_i hne
   rw [if_neg hne] at h
   exact get_app_some h
theorem LS.freezeE (es : List Nat) (i : Nat) (l : Env) {ob : Option Nat} {e : TypeId} {cap : Nat} {xs : List VV} {H' : List HE} (hes : es.contains e = true) (hh : H[i]? = some (.row ob e cap xs)) (he : FzE ob e cap xs env l) (hH : FzH ob e cap xs (H.eraseIdx i) H') : LS es P env H (l++env) H':=by
 intro D w t hr hi
 obtain ⟨D',h1,h2,h3,h4⟩:=(LS.freezes es (env':=l) i hes hh he hH) D w t hr hi
 refine ⟨D',fun s y hy =>?_,h2,h3,h4⟩
 by_cases hq : get l s = none
 ·rw [get_app_none hq] at hy
  obtain ⟨v,hv,hrd⟩:=hr s y hy
  exact ⟨v,hv,hrd.mono h3.dmono h3.nmono (fun _ _ _ =>rfl)⟩
 ·rw [get_app_some hq] at hy
  exact h1 s y hy
theorem Shift.freezeE (i : Nat) (l : Env) {ob : Option Nat} {e : TypeId} {cap : Nat} {xs : List VV} {H' : List HE} (hh : H[i]? = some (.row ob e cap xs)) (he : FzE ob e cap xs env l) (hH : FzH ob e cap xs (H.eraseIdx i) H') : Shift P env H (l++env) H' :=
 (LS.freezeE [e] i l (by simp) hh he hH).shift
theorem Inv.perm {H' : List HE} (hp : H.Perm H') (hi : Inv P D w H) : Inv P D w H':=by
 have hb : (blks H).Perm (blks H'):=hp.flatMap_right _
 have ha : (ars H).Perm (ars H'):=hp.flatMap_right _
 exact ⟨hb.nodup_iff.1 hi.nodup,fun b hm =>hi.lt b (hb.mem_iff.2 hm),fun b e hd hm =>hi.apart b e hd (hb.mem_iff.2 hm),hi.dlt,fun x hx =>hi.rel x (hp.mem_iff.2 hx),ha.nodup_iff.1 hi.arn⟩
def ndB : List Nat→Bool
 | [] =>true
 | i :: r =>and (r.all fun j =>!(Nat.beq i j)) (ndB r)
def gets : List Nat→List HE→Option (List HE)
 | [],_ =>some []
 | i :: r,H =>match H[i]? with
  | some h =>(gets r H).map (h :: ·)
  | none =>none
def pick (idx : List Nat) (H : List HE) : Option (List HE):=match ndB idx with
 | true =>gets idx H
 | false =>none
theorem gets_erase (i : Nat) : ∀ {r : List Nat} {H H1 : List HE},(r.all fun j =>!(Nat.beq i j)) = true→gets r H = some H1→gets (r.map fun j =>if i < j then j - 1 else j) (H.eraseIdx i) = some H1
 | [],H,H1,_,h =>h
 | j :: r,H,H1,hn,h =>by
  simp only [List.all_cons,Bool.and_eq_true,Bool.not_eq_true'] at hn
  have hij : ¬ i = j:=fun e =>by
   have:=hn.1
   rw [e,Nat.beq_refl] at this
   cases this
  rw [gets] at h
  rw [List.map_cons,gets]
  have e : (H.eraseIdx i)[if i < j then j - 1 else j]? = H[j]?:=by
   rw [List.getElem?_eraseIdx]
   split
   ·rw [if_neg (by omega)]
    congr 1
    omega
   ·rw [if_pos (by omega)]
  rw [e]
  cases hx : H[j]? with
  | none =>rw [hx] at h; cases h
  | some x =>
   rw [hx] at h
   simp only [Option.map_eq_some_iff] at h ⊢
   obtain ⟨H2,h2,rfl⟩:=h
   exact ⟨H2,gets_erase i hn.2 h2,rfl⟩
theorem ndB_map (i : Nat) : ∀ {r : List Nat},(r.all fun j =>!(Nat.beq i j)) = true→ndB r = true→ndB (r.map fun j =>if i < j then j - 1 else j) = true
 | [],_,_ =>rfl
 | j :: r,hn,h =>by
  simp only [List.all_cons,Bool.and_eq_true,Bool.not_eq_true'] at hn
  simp only [ndB,Bool.and_eq_true] at h
  simp only [List.map_cons,ndB,Bool.and_eq_true]
  refine ⟨?_,ndB_map i hn.2 h.2⟩
  rw [List.all_map,List.all_eq_true]
  intro k hk
  have h1:=List.all_eq_true.1 h.1 k hk
  have h2:=List.all_eq_true.1 hn.2 k hk
  have ne : ∀ a b : Nat,(Nat.beq a b) = false↔a≠b:=fun a b =>by
   constructor
   ·intro e f; rw [f,Nat.beq_refl] at e; cases e
   ·intro e
    cases q : Nat.beq a b with
    | false =>rfl
    | true =>exact absurd (Nat.eq_of_beq_eq_true q) e
  simp only [Bool.not_eq_true',Function.comp] at h1 h2 ⊢
  rw [ne] at h1 h2 ⊢
  have h3:=(ne _ _).1 hn.1
  split<;>split<;>omega
theorem gets_perm : ∀ (n : Nat) {r : List Nat} {H H' : List HE},r.length = n→ndB r = true→gets r H = some H'→∃ rest,H.Perm (H'++rest)
 | 0,r,H,H',hl,_,h =>by
  obtain rfl:=List.length_eq_zero_iff.1 hl
  rw [gets] at h
  obtain rfl:=Option.some.inj h
  exact ⟨H,List.Perm.refl _⟩
 | n + 1,[],H,H',hl,_,h =>by simp at hl
 | n + 1,i :: r,H,H',hl,hn,h =>by
  simp only [ndB,Bool.and_eq_true] at hn
  rw [gets] at h
  split at h
  ·rename_i x hx
   simp only [Option.map_eq_some_iff] at h
   obtain ⟨H1,h1,rfl⟩:=h
   obtain ⟨rest,hp⟩:=gets_perm n (r:=r.map fun j =>if i < j then j - 1 else j) (by simpa using hl) (ndB_map i hn.1 hn.2) (gets_erase i hn.1 h1)
   refine ⟨rest,?_⟩
   have e1:=(split_at hx (.row none 0 0 [])).1
   rw [eraseIdx_split hx] at hp
   refine List.Perm.trans (e1 ▸ List.perm_middle) ?_
   exact hp.cons x
  ·cases h
theorem pick_perm {r : List Nat} {H H' : List HE} (h : pick r H = some H') : ∃ rest,H.Perm (H'++rest):=by
 unfold pick at h
 split at h
 ·rename_i hn
  exact gets_perm _ rfl hn h
 ·cases h
theorem Shift.pick (idx : List Nat) {env' : Env} {H' : List HE} (hp : V.pick idx H = some H') (he : Sub env env') : Shift P env H env' H':=by
 obtain ⟨rest,hp⟩:=pick_perm hp
 refine Shift.trans (env1:=env) (H1:=H'++rest) (fun D w t hr hi =>⟨D,hr,hi.perm hp,?_⟩) (Shift.weak he (List.sublist_append_left ..))
 have hb : (blks H).Perm (blks (H'++rest)):=hp.flatMap_right _
 have ha : (ars H).Perm (ars (H'++rest)):=hp.flatMap_right _
 exact ⟨Nat.le_refl _,fun _ _ _ =>rfl,fun _ _ h =>h,fun _ _ h =>.inl h,fun b hm =>.inl (hb.mem_iff.2 hm),rfl,rfl,rfl,fun _ _ _ h =>h,fun _ _ _ h =>.inl h,fun a hm =>ha.mem_iff.2 hm⟩
theorem Shift.mem (idx : List Nat) {H' : List HE} (hp : V.pick idx H = some H') : Shift P env H env H':=by
 intro D w t hr hi
 obtain ⟨D',_,h2,h3⟩:=(Shift.pick (env:=env) (env':=[]) idx hp trivial) D w t hr hi
 exact ⟨D',fun s x hx =>let ⟨v,hv,hrd⟩:=hr s x hx; ⟨v,hv,hrd.mono h3.dmono h3.nmono (fun _ _ _ =>rfl)⟩,h2,h3⟩
theorem VR.mono {ops : Array Oper} {l : List Oper} {K K' : Env→List HE→Prop} (h : VR P N ops l K env H) (hk : ∀ env' H',K env' H'→K' env' H') : VR P N ops l K' env H :=
 fun D w a hs hr hi Q hq =>h D w a hs hr hi Q fun a' w' env' H' D' h1 h2 h3 =>hq a' w' env' H' D' h1 h2 (hk _ _ h3)
theorem VR.join {σ : Type} {ops : Array Oper} {l : List Oper} {L : Env→List HE→Prop} (rest : List Oper) (Ok : σ→Prop) (tm : σ→Env) (th : σ→List HE)
  (h1 : ∀ K',(∀ env' H',(∃ s,Ok s∧Shift P env' H' (tm s) (th s))→VR P N ops rest K' env' H')→VR P N ops l K' env H) (h2 : ∀ s,Ok s→VR P N ops rest L (tm s) (th s)) : VR P N ops l L env H :=
 h1 L fun _ _ ⟨s,hs,hsh⟩ =>VR.shift hsh (h2 s hs)
theorem VW.join {σ γ : Type} {x y : Code} (Ok : σ→Prop) (tm : σ→γ→Env) (th : σ→γ→List HE)
  (h1 : VW P N x (Post.then (fun env' H' =>∃ s g,Ok s∧Shift P env' H' (tm s g) (th s g)) Q) env H) (h2 : ∀ s g,Ok s→VW P N y Q (tm s g) (th s g)) : VW P N (.seq x y) Q env H:=by
 refine VW.seq (h1.mono fun e env' H' he =>?_)
 cases e with
 | normal =>
  obtain ⟨s,g,hs,hsh⟩:=he
  exact VW.shift hsh (h2 s g hs)
 | exit id =>exact he
 | goto l =>exact he
 | ret =>exact he
 | panic c =>exact he
 | outgrown =>exact he
theorem VW.joinE {σ γ : Type} {x : Code} (Ok : σ→Prop) (tm : σ→γ→Env) (th : σ→γ→List HE)
  (h1 : VW P N x (Post.then (fun env' H' =>∃ s g,Ok s∧Shift P env' H' (tm s g) (th s g)) Q) env H) (h2 : ∀ s g,Ok s→Q .normal (tm s g) (th s g)) : VW P N x Q env H:=by
 intro D w a hs hr hi
 refine wp_mono (h1 D w a hs hr hi) ?_
 rintro e a' w' ⟨q1,q2,env',H',D',q3,q4,q5,q6⟩
 cases e with
 | normal =>
  obtain ⟨s,g,ho,hsh⟩:=q3
  obtain ⟨D2,p1,p2,p3⟩:=hsh D' w' a'.tmps q4 q5
  exact ⟨q1,q2,_,_,D2,h2 s g ho,p1,p2,q6.trans p3⟩
 | exit id =>exact ⟨q1,q2,env',H',D',q3,q4,q5,q6⟩
 | goto l =>exact ⟨q1,q2,env',H',D',q3,q4,q5,q6⟩
 | ret =>exact ⟨q1,q2,env',H',D',q3,q4,q5,q6⟩
 | panic c =>exact ⟨q1,q2,env',H',D',q3,q4,q5,q6⟩
 | outgrown =>exact ⟨q1,q2,env',H',D',q3,q4,q5,q6⟩
theorem VL.shift {c : Code} {env' : Env} {H' : List HE} (hs : Shift P env H env' H') : ∀ {n : Nat},VL P N c Q n env' H'→VL P N c Q n env H
 | 0,h =>h.elim
 | _ + 1,h =>VW.shift hs h
theorem VL.each {α σ γ ρ : Type} {c : Code} {l : List α} {R : ρ} (m : List α→Nat→σ→Option ρ) (tm : Nat→σ→γ→Env) (th : Nat→σ→γ→List HE)
  (hnil : ∀ k s g,k = l.length→m [] k s = some R→VW P N c (Post.then (fun _ _ =>False) Q) (tm k s g) (th k s g))
  (hcons : ∀ k x rest s g,l[k]? = some x→m (x :: rest) k s = some R →
   VW P N c (Post.then (fun env' H' =>∃ s' g',m rest (k + 1) s' = some R∧Shift P env' H' (tm (k + 1) s' g') (th (k + 1) s' g')) Q) (tm k s g) (th k s g)) :
  ∀ (rest : List α) (k : Nat) (s : σ) (g : γ),l.drop k = rest→k≤l.length→m rest k s = some R→VL P N c Q (rest.length + 1) (tm k s g) (th k s g):=by
 intro rest
 induction rest with
 | nil =>
  intro k s g hp hk hm
  have hk' : k = l.length:=by
   have:=congrArg List.length hp
   simp at this; omega
  exact (hnil k s g hk' hm).mono fun e env H he =>by cases e<;>first | exact he.elim | exact he
 | cons x rest ih =>
  intro k s g hp hk hm
  have hx : l[k]? = some x:=by
   have:=congrArg (fun q =>q[0]?) hp
   simpa using this
  have hd : l.drop (k + 1) = rest:=by
   have:=congrArg List.tail hp
   simpa using this
  have hlt : k < l.length:=(List.getElem?_eq_some_iff.1 hx).1
  refine (hcons k x rest s g hx hm).mono fun e env H he =>?_
  cases e with
  | normal =>
   obtain ⟨s',g',h1,h2⟩:=he
   exact VL.shift h2 (ih (k + 1) s' g' hd hlt h1)
  | exit id =>exact he
  | goto l =>exact he
  | ret =>exact he
  | panic c =>exact he
  | outgrown =>exact he
theorem VL.fuel {σ γ ρ : Type} {c : Code} {R : ρ} (m : Nat→σ→Option ρ) (tm : σ→γ→Env) (th : σ→γ→List HE) (h0 : ∀ s,m 0 s = none)
  (hs : ∀ n s g,m (n + 1) s = some R→VW P N c (Post.then (fun env' H' =>∃ s' g',m n s' = some R∧Shift P env' H' (tm s' g') (th s' g')) Q) (tm s g) (th s g)) :
  ∀ (n : Nat) (s : σ) (g : γ),m n s = some R→VL P N c Q n (tm s g) (th s g):=by
 intro n
 induction n with
 | zero =>intro s g hm; rw [h0] at hm; cases hm
 | succ n ih =>
  intro s g hm
  refine (hs n s g hm).mono fun e env H he =>?_
  cases e with
  | normal =>
   obtain ⟨s',g',h1,h2⟩:=he
   exact VL.shift h2 (ih s' g' h1)
  | exit id =>exact he
  | goto l =>exact he
  | ret =>exact he
  | panic c =>exact he
  | outgrown =>exact he
theorem VO.appendT {α : Type} {f : α→VV} {l l2 : List α} {t e : TypeId} {s x : Operand} {sz by_ : Nat} {ob : Option Nat} {cap i : Nat} (ht : apB P t e sz by_ = true) (hs : ev env s = some (.sl ob (l.map f).length cap))
  (hh : H[i]? = some (.row ob e cap (l.map f))) (hx : ∀ (D : Cx) (w : World) (a : Act),RE P D w env a.tmps→Inv P D w H→SrcV P D w sz (a.eval x) (l2.map f))
  (h1 : l.length + l2.length≤maxLen) (h2 : (l.length + l2.length) * by_≤140737488355328)
  (k : ∀ ob' cap',K (.sl ob' ((l++l2).map f).length cap') (H.set i (.row ob' e cap' ((l++l2).map f)))) : VO P N ⟨dst,.call ⟨.builtin .append,#[s,x],#[t,t]⟩,ty,pos,aft,g⟩ env H K:=by
 refine VO.append ht hs hh hx (by simpa using h1) (by simpa using h2) fun ob' cap' =>?_
 have:=k ob' cap'
 rw [List.map_append,List.length_append] at this
 exact this
end
end Go.Proofs.YtkondhigbbgidaaGreat.V

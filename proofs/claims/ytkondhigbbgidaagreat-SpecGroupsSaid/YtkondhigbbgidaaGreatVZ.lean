/-
  The logic over plain values: laws that make printed proofs short. Own text.
-/
import Derived.Test.YtkondhigbbgidaaGreatVArr
namespace Go.Proofs.YtkondhigbbgidaaGreat.V
open Go
set_option linter.unusedVariables false
abbrev N0 {ρ : Type} : ρ→List HE:=fun _ =>[]
abbrev Iw (n : Int) : VV:=.int .i64 n
theorem Bd {α β : Type} {o : Option α} {k : α→Option β} {z : β} {G : Prop} (hm : o.bind k = some z) (h : ∀ x,o = some x→k x = some z→G) : G:=let ⟨x,h1,h2⟩:=bnd hm; h x h1 h2
theorem Lr {ρ σ : Type} {v : ρ} {o : Out ρ σ} {k : σ→Option ρ} {z : ρ} (hm : some (Out.ret v) = some o) (h : o.on k = some z) : some v = some z:=by cases hm; exact h
theorem Lr2 {ρ σ : Type} {F : Option ρ} {o : Out ρ σ} {k : σ→Option ρ} {z : ρ} (hm : (F.bind fun q =>some (Out.ret q)) = some o) (h : o.on k = some z) : F = some z:=by
 obtain ⟨q,h1,h2⟩:=bnd hm
 cases h2
 rw [h1]; exact h
def VS (P : Program) (f : FuncId) {ρ : Type} (F : Option ρ) (args : List VV) (H : List HE) (V : ρ→VV) (Hf : ρ→List HE) : Prop:=∀ r,F = some r→VC P f args H fun zx zH =>zx = V r∧zH = Hf r
def VS1 (P : Program) (f : FuncId) {ρ : Type} (F : Option ρ) (args : List VV) (H : List HE) (V : ρ→Nat→VV) (Hf : ρ→Nat→List HE) : Prop:=∀ r,F = some r→VC P f args H fun zx zH =>∃ a,zx = V r a∧zH = Hf r a
def VS2 (P : Program) (f : FuncId) {ρ : Type} (F : Option ρ) (args : List VV) (H : List HE) (V : ρ→Option Nat→Nat→VV) (Hf : ρ→Option Nat→Nat→List HE) : Prop:=∀ r,F = some r→VC P f args H fun zx zH =>∃ a b,zx = V r a b∧zH = Hf r a b
def Po {ρ : Type} (V : ρ→VV) (Hf : ρ→List HE) (r : ρ) : VV→List HE→Prop:=fun zx zH =>zx = V r∧zH = Hf r
def Po1 {ρ : Type} (V : ρ→Nat→VV) (Hf : ρ→Nat→List HE) (r : ρ) : VV→List HE→Prop:=fun zx zH =>∃ a,zx = V r a∧zH = Hf r a
def Po2 {ρ : Type} (V : ρ→Option Nat→Nat→VV) (Hf : ρ→Option Nat→Nat→List HE) (r : ρ) : VV→List HE→Prop:=fun zx zH =>∃ a b,zx = V r a b∧zH = Hf r a b
def Fin' (P : Program) (rs : List ResultVar) (R : VV→List HE→Prop) : Post:=fun e env' H' =>(e = .ret∨e = .normal)∧∃ xs,ResA P env' H' rs xs∧∃ idx H'',pick idx H' = some H''∧R (resV xs) H''
section
variable {P : Program} {N : Nat} {env : Env} {H : List HE} {Q : Post} {K : VV→List HE→Prop} {ρ β : Type}
theorem VS.run {f : FuncId} {fn : Func} {c : Code} {args : List VV} {F : Option ρ} {V : ρ→VV} {Hf : ρ→List HE} (rs : List ResultVar) (hf : P.funcs[f]? = some fn) (hb : fn.body = some c) (hrs : fn.results = rs.toArray) (hn' : Nat.ble args.length fn.ntmps = true)
  (h : ∀ r,F = some r→VW P fn.ntmps c (Fin' P rs (Po V Hf r)) (env0 args) H) : VS P f F args H V Hf:=fun r hm =>VC.run hf hb hrs hn' (h r hm)
theorem VS1.run {f : FuncId} {fn : Func} {c : Code} {args : List VV} {F : Option ρ} {V : ρ→Nat→VV} {Hf : ρ→Nat→List HE} (rs : List ResultVar) (hf : P.funcs[f]? = some fn) (hb : fn.body = some c) (hrs : fn.results = rs.toArray) (hn' : Nat.ble args.length fn.ntmps = true)
  (h : ∀ r,F = some r→VW P fn.ntmps c (Fin' P rs (Po1 V Hf r)) (env0 args) H) : VS1 P f F args H V Hf:=fun r hm =>VC.run hf hb hrs hn' (h r hm)
theorem VS2.run {f : FuncId} {fn : Func} {c : Code} {args : List VV} {F : Option ρ} {V : ρ→Option Nat→Nat→VV} {Hf : ρ→Option Nat→Nat→List HE} (rs : List ResultVar) (hf : P.funcs[f]? = some fn) (hb : fn.body = some c) (hrs : fn.results = rs.toArray) (hn' : Nat.ble args.length fn.ntmps = true)
  (h : ∀ r,F = some r→VW P fn.ntmps c (Fin' P rs (Po2 V Hf r)) (env0 args) H) : VS2 P f F args H V Hf:=fun r hm =>VC.run hf hb hrs hn' (h r hm)
theorem VCx.run {f : FuncId} {fn : Func} {c : Code} {args : List VV} {F : Option ρ} {R : ρ→VV→List HE→Prop} (rs : List ResultVar) (hf : P.funcs[f]? = some fn) (hb : fn.body = some c) (hrs : fn.results = rs.toArray) (hn' : Nat.ble args.length fn.ntmps = true)
  (h : ∀ r,F = some r→VW P fn.ntmps c (Fin' P rs (R r)) (env0 args) H) : ∀ r,F = some r→VC P f args H (R r):=fun r hm =>VC.run hf hb hrs hn' (h r hm)
theorem VS.none {f : FuncId} {args : List VV} {F : Option ρ} {V : ρ→VV} {Hf : ρ→List HE} (h : F = none) : VS P f F args H V Hf:=fun r hr =>by rw [h] at hr; cases hr
theorem VS1.none {f : FuncId} {args : List VV} {F : Option ρ} {V : ρ→Nat→VV} {Hf : ρ→Nat→List HE} (h : F = none) : VS1 P f F args H V Hf:=fun r hr =>by rw [h] at hr; cases hr
theorem VS2.none {f : FuncId} {args : List VV} {F : Option ρ} {V : ρ→Option Nat→Nat→VV} {Hf : ρ→Option Nat→Nat→List HE} (h : F = none) : VS2 P f F args H V Hf:=fun r hr =>by rw [h] at hr; cases hr
theorem VCx.none {f : FuncId} {args : List VV} {F : Option ρ} {R : ρ→VV→List HE→Prop} (h : F = none) : ∀ r,F = some r→VC P f args H (R r):=fun r hr =>by rw [h] at hr; cases hr
theorem Rt0 {v r : ρ} {V : ρ→VV} {Hf : ρ→List HE} {rs : List ResultVar} {xs : List VV} (hm : some v = some r) (hq : Q .ret env H = Fin' P rs (Po V Hf r) .ret env H) (idx : List Nat) (ha : ResA P env H rs xs) (hx : resV xs = V v) (hp : pick idx H = some (Hf v)) : VW P N .ret Q env H:=by
 cases hm
 exact VW.ret (by rw [hq]; exact ⟨.inl rfl,_,ha,idx,_,hp,hx,rfl⟩)
theorem Rt1 {v r : ρ} {V : ρ→VV} {Hf : ρ→List HE} {t : Nat} {x : VV} (hm : some v = some r) (hq : Q .ret env H = Fin' P [.tmp t] (Po V Hf r) .ret env H) (idx : List Nat) (hg : get env t = some x) (hx : x = V v) (hp : pick idx H = some (Hf v)) : VW P N .ret Q env H :=
 Rt0 (xs:=[x]) hm hq idx (.cons (.tmp _ _ hg) .nil) hx hp
theorem Rt2 {v r : ρ} {V : ρ→VV} {Hf : ρ→List HE} {t u : Nat} {x y : VV} (hm : some v = some r) (hq : Q .ret env H = Fin' P [.tmp t,.tmp u] (Po V Hf r) .ret env H) (idx : List Nat) (hg : get env t = some x) (hh : get env u = some y) (hx : VV.tup [x,y] = V v) (hp : pick idx H = some (Hf v)) : VW P N .ret Q env H :=
 Rt0 (xs:=[x,y]) hm hq idx (.cons (.tmp _ _ hg) (.cons (.tmp _ _ hh) .nil)) hx hp
theorem Rn0 {v r : ρ} {V : ρ→VV} {Hf : ρ→List HE} {rs : List ResultVar} {xs : List VV} {G : Prop} (hm : some v = some r) (hq : G = Fin' P rs (Po V Hf r) .normal env H) (idx : List Nat) (ha : ResA P env H rs xs) (hx : resV xs = V v) (hp : pick idx H = some (Hf v)) : G:=by
 cases hm
 rw [hq]; exact ⟨.inr rfl,_,ha,idx,_,hp,hx,rfl⟩
theorem Rg2 {v r : ρ} {V : ρ→Option Nat→Nat→VV} {Hf : ρ→Option Nat→Nat→List HE} {rs : List ResultVar} {xs : List VV} (hm : some v = some r) (hq : Q .ret env H = Fin' P rs (Po2 V Hf r) .ret env H) (idx : List Nat) (a : Option Nat) (b : Nat) (ha : ResA P env H rs xs) (hx : resV xs = V v a b) (hp : pick idx H = some (Hf v a b)) : VW P N .ret Q env H:=by
 cases hm
 exact VW.ret (by rw [hq]; exact ⟨.inl rfl,_,ha,idx,_,hp,a,b,hx,rfl⟩)
theorem VW.if_ {t : Nat} {b : Bool} {x y : Code} {m1 m2 : Option β} {z : β} (hm : (if b = true then m1 else m2) = some z) (hb : get env t = some (.bool b)) (h1 : b = true→m1 = some z→VW P N x Q env H) (h2 : b = false→m2 = some z→VW P N y Q env H) : VW P N (.cond (.tmp t) x y) Q env H:=by
 cases b with
 | true =>exact VW.condT hb rfl (h1 rfl (by simpa using hm))
 | false =>exact VW.condF hb rfl (h2 rfl (by simpa using hm))
theorem VW.sr {id : Nat} {l : List Oper} {y : Code} (h : VR P N l.toArray l (fun env H =>VW P N y Q env H) env H) : VW P N (.seq (.region id l.toArray false) y) Q env H:=VW.seq (VW.region h)
theorem VW.jo {σ γ : Type} {x y : Code} {X : Option (Out ρ σ)} {kf : σ→Option ρ} {z : ρ} (hm : (X.bind fun o =>o.on kf) = some z) (tm : σ→γ→Env) (th : σ→γ→List HE)
  (h1 : ∀ o,X = some o→o.on kf = some z→VW P N x (Post.then (fun env' H' =>∃ s g,o = Out.go s∧Shift P env' H' (tm s g) (th s g)) Q) env H) (h2 : ∀ s g,kf s = some z→VW P N y Q (tm s g) (th s g)) : VW P N (.seq x y) Q env H:=by
 obtain ⟨o,a,b⟩:=bnd hm
 exact VW.join (fun q =>o = Out.go q) tm th (h1 o a b) fun s g hs =>h2 s g (by subst hs; exact b)
theorem VW.js {α σ γ : Type} {x y : Code} {X : Option σ} {kf : σ→Option α} {z : α} (hm : X.bind kf = some z) (tm : σ→γ→Env) (th : σ→γ→List HE)
  (h1 : ∀ o,X = some o→VW P N x (Post.then (fun env' H' =>∃ s g,s = o∧Shift P env' H' (tm s g) (th s g)) Q) env H) (h2 : ∀ s g,kf s = some z→VW P N y Q (tm s g) (th s g)) : VW P N (.seq x y) Q env H:=by
 obtain ⟨o,a,b⟩:=bnd hm
 exact VW.join (fun q =>q = o) tm th (h1 o a) fun s g hs =>h2 s g (by subst hs; exact b)
theorem VW.jo' {σ γ : Type} {x : Code} {X : Option (Out ρ σ)} {kf : σ→Option ρ} {z : ρ} (hm : (X.bind fun o =>o.on kf) = some z) (tm : σ→γ→Env) (th : σ→γ→List HE)
  (h1 : ∀ o,X = some o→o.on kf = some z→VW P N x (Post.then (fun env' H' =>∃ s g,o = Out.go s∧Shift P env' H' (tm s g) (th s g)) Q) env H) (h2 : ∀ s g,kf s = some z→Q .normal (tm s g) (th s g)) : VW P N x Q env H:=by
 obtain ⟨o,a,b⟩:=bnd hm
 exact VW.joinE (fun q =>o = Out.go q) tm th (h1 o a b) fun s g hs =>h2 s g (by subst hs; exact b)
theorem VW.js' {α σ γ : Type} {x : Code} {X : Option σ} {kf : σ→Option α} {z : α} (hm : X.bind kf = some z) (tm : σ→γ→Env) (th : σ→γ→List HE)
  (h1 : ∀ o,X = some o→VW P N x (Post.then (fun env' H' =>∃ s g,s = o∧Shift P env' H' (tm s g) (th s g)) Q) env H) (h2 : ∀ s g,kf s = some z→Q .normal (tm s g) (th s g)) : VW P N x Q env H:=by
 obtain ⟨o,a,b⟩:=bnd hm
 exact VW.joinE (fun q =>q = o) tm th (h1 o a) fun s g hs =>h2 s g (by subst hs; exact b)
theorem Sub.of_map {env : Env} : ∀ {t : Env},t.map (fun p =>V.get env p.1) = t.map (fun p =>some p.2)→Sub env t
 | [],_ =>trivial
 | (s,x) :: r,h =>by
  simp only [List.map_cons,List.cons.injEq] at h
  exact ⟨h.1,Sub.of_map h.2⟩
theorem Shift.pk (idx : List Nat) {env' : Env} {H' : List HE} (hp : V.pick idx H = some H') (he : env'.map (fun p =>get env p.1) = env'.map (fun p =>some p.2)) : Shift P env H env' H':=Shift.pick idx hp (Sub.of_map he)
theorem Ar {σ γ : Type} {o : Out ρ σ} {s : σ} {tm : σ→γ→Env} {th : σ→γ→List HE} (g : γ) (hm : some (Out.go s) = some o) (h : Shift P env H (tm s g) (th s g)) : ∃ s g,o = Out.go s∧Shift P env H (tm s g) (th s g):=⟨s,g,(Option.some.inj hm).symm,h⟩
theorem As {σ γ : Type} {o s : σ} {tm : σ→γ→Env} {th : σ→γ→List HE} (g : γ) (hm : some s = some o) (h : Shift P env H (tm s g) (th s g)) : ∃ s g,s = o∧Shift P env H (tm s g) (th s g):=⟨s,g,Option.some.inj hm,h⟩
theorem Ap {σ γ τ : Type} {R : τ} {m : σ→Option τ} {tm : σ→γ→Env} {th : σ→γ→List HE} (s : σ) (g : γ) (hm : m s = some R) (h : Shift P env H (tm s g) (th s g)) : ∃ s g,m s = some R∧Shift P env H (tm s g) (th s g):=⟨s,g,hm,h⟩
theorem VW.bf {σ γ : Type} {id : Nat} {c : Code} {R : ρ} (m : Nat→σ→Option ρ) (tm : σ→γ→Env) (th : σ→γ→List HE) (s : σ) (g : γ) (h0 : ∀ s,m 0 s = none) (hm : m FU s = some R) (hsh : Shift P env H (tm s g) (th s g))
  (hs : ∀ n s g,m (n + 1) s = some R→VW P N c (Post.then (fun env' H' =>∃ s' g',m n s' = some R∧Shift P env' H' (tm s' g') (th s' g')) (Post.blk id Q)) (tm s g) (th s g)) : VW P N (.block id (.loop c)) Q env H:=VW.block (VW.loop FU (VL.fuelS m tm th s g h0 hsh hm hs))
theorem VW.be {α σ γ : Type} {id : Nat} {c : Code} {R : ρ} (l : List α) (m : List α→Nat→σ→Option ρ) (tm : Nat→σ→γ→Env) (th : Nat→σ→γ→List HE) (s : σ) (g : γ) (hm : m l 0 s = some R) (hsh : Shift P env H (tm 0 s g) (th 0 s g))
  (hnil : ∀ k s g,k = l.length→m [] k s = some R→VW P N c (Post.then (fun _ _ =>False) (Post.blk id Q)) (tm k s g) (th k s g))
  (hcons : ∀ k x rest s g,l[k]? = some x→m (x :: rest) k s = some R→VW P N c (Post.then (fun env' H' =>∃ s' g',m rest (k + 1) s' = some R∧Shift P env' H' (tm (k + 1) s' g') (th (k + 1) s' g')) (Post.blk id Q)) (tm k s g) (th k s g)) : VW P N (.block id (.loop c)) Q env H :=
 VW.block (VW.loop (l.length + 1) (VL.eachS m tm th s g hsh hm hnil hcons))
theorem VW.lenM {α : Type} {c : Code} {f : α→VV} {l : List α} (t : Nat) {e : TypeId} (hx : get env t = some (.list e (l.map f))) (h : l.length≤maxLen→VW P N c Q env H) : VW P N c Q env H:=VW.lenL t hx fun q =>h (by simpa using q)
theorem set_env {env E : Env} {t d m : Nat} {b b' : Bool} {x : VV} (hb : get env t = some (.bool b)) (he : b = b') (hE : E.drop m = (t,.bool b') :: env) (hp : ((E.take m).all fun p =>(get env p.1).isNone) = true) :
  ∀ s y,get ((d,x) :: env) s = some y→get ((d,x) :: E) s = some y:=by
 intro s y h
 simp only [get] at h ⊢
 split
 ·rename_i q; rw [if_pos q] at h; exact h
 ·rename_i q
  rw [if_neg q] at h
  rw [← List.take_append_drop m E,hE]
  have key : ∀ pre : Env,(pre.all fun p =>(get env p.1).isNone) = true→get (pre++(t,.bool b') :: env) s = some y:=by
   intro pre
   induction pre with
   | nil =>
    intro _
    simp only [List.nil_append,get]
    split
    ·rename_i e
     have : s = t:=by simpa using e
     subst this
     rw [hb,he] at h
     exact h
    ·exact h
   | cons p r ih =>
    obtain ⟨u,z⟩:=p
    intro hp
    simp only [List.all_cons,Bool.and_eq_true] at hp
    simp only [List.cons_append,get]
    split
    ·rename_i e
     have : s = u:=by simpa using e
     subst this
     rw [h] at hp
     simp at hp
    ·exact ih hp.2
  exact key _ hp
theorem VR.known {ops : Array Oper} {l : List Oper} {L : Env→List HE→Prop} {t : Nat} {b b' : Bool} (hb : get env t = some (.bool b)) (he : b = b') (h : VR P N ops l L ((t,.bool b') :: env) H) : VR P N ops l L env H:=fun D w a hs hr hi =>h D w a hs (fun s x hx =>by
 simp only [get] at hx
 split at hx
 ·rename_i q
  have : s = t:=by simpa using q
  subst this
  cases hx
  exact hr s _ (by rw [hb,he])
 ·exact hr s x hx) hi
theorem VA.known {ops : Array Oper} {dn : List Nat} {Hm Hp : List HE} {L : Env→List HE→Prop} {t : Nat} {b b' : Bool} (hb : get env t = some (.bool b)) (he : b = b') (h : VA P N ops L dn ((t,.bool b') :: env) Hm Hp) : VA P N ops L dn env Hm Hp:=fun D w a hs hr hi =>h D w a hs (fun s x hx =>by
 simp only [get] at hx
 split at hx
 ·rename_i q
  have : s = t:=by simpa using q
  subst this
  cases hx
  exact hr s _ (by rw [hb,he])
 ·exact hr s x hx) hi
def JR (P : Program) (N : Nat) (ops : Array Oper) (l : List Oper) (K' : Env→List HE→Prop) (d : Nat) (e : VV) (env : Env) (H : List HE) : Prop:=∀ (m : Nat) {E : Env} {x : VV},E.drop m = env→((E.take m).all fun p =>(get (env.drop 1) p.1).isNone) = true→x = e→VR P N ops l K' ((d,x) :: E) H
def JA (P : Program) (N : Nat) (ops : Array Oper) (dn : List Nat) (K' : Env→List HE→Prop) (d : Nat) (e : VV) (env : Env) (Hm Hp : List HE) : Prop:=∀ (m : Nat) {E : Env} {x : VV},E.drop m = env→((E.take m).all fun p =>(get (env.drop 1) p.1).isNone) = true→x = e→VA P N ops K' dn ((d,x) :: E) Hm Hp
theorem JR.mk {ops : Array Oper} {l : List Oper} {L : Env→List HE→Prop} {d t : Nat} {b b' : Bool} {e e' : VV} (hb : get env t = some (.bool b)) (he : b = b') (hx : e' = e) (h : VR P N ops l L ((d,e) :: env) H) : JR P N ops l L d e' ((t,.bool b') :: env) H:=by
 intro m E x hE hp hxe
 subst hxe; subst hx
 exact VR.shift (Shift.envs (set_env hb he hE hp)) h
theorem JA.mk {ops : Array Oper} {dn : List Nat} {Hm Hp : List HE} {L : Env→List HE→Prop} {d t : Nat} {b b' : Bool} {e e' : VV} (hb : get env t = some (.bool b)) (he : b = b') (hx : e' = e) (h : VA P N ops L dn ((d,e) :: env) Hm Hp) : JA P N ops dn L d e' ((t,.bool b') :: env) Hm Hp:=by
 intro m E x hE hp hxe
 subst hxe; subst hx
 exact fun D w a hs hr hi =>h D w a hs (fun s x hx =>hr s x (set_env hb he hE hp s x hx)) hi
theorem VR.so {ops : Array Oper} {l : List Oper} {L : Env→List HE→Prop} (n d t : Nat) {b x : Bool} (hb : get env t = some (.bool b)) (h1 : ∀ K',JR P N ops (l.drop n) K' d (.bool true) ((t,.bool true) :: env) H→VR P N ops l K' ((t,.bool true) :: env) H)
  (h2 : b = false→∀ K',JR P N ops (l.drop n) K' d (.bool x) ((t,.bool false) :: env) H→VR P N ops l K' ((t,.bool false) :: env) H) (h : VR P N ops (l.drop n) L ((d,.bool (b || x)) :: env) H) : VR P N ops l L env H:=by
 cases hc : b with
 | true =>subst hc; exact VR.known hb rfl (h1 L (JR.mk hb rfl (by simp) h))
 | false =>subst hc; exact VR.known hb rfl (h2 rfl L (JR.mk hb rfl (by simp) h))
theorem VR.sa {ops : Array Oper} {l : List Oper} {L : Env→List HE→Prop} (n d t : Nat) {b x : Bool} (hb : get env t = some (.bool b)) (h1 : b = true→∀ K',JR P N ops (l.drop n) K' d (.bool x) ((t,.bool true) :: env) H→VR P N ops l K' ((t,.bool true) :: env) H)
  (h2 : ∀ K',JR P N ops (l.drop n) K' d (.bool false) ((t,.bool false) :: env) H→VR P N ops l K' ((t,.bool false) :: env) H) (h : VR P N ops (l.drop n) L ((d,.bool (b && x)) :: env) H) : VR P N ops l L env H:=by
 cases hc : b with
 | true =>subst hc; exact VR.known hb rfl (h1 rfl L (JR.mk hb rfl (by simp) h))
 | false =>subst hc; exact VR.known hb rfl (h2 L (JR.mk hb rfl (by simp) h))
theorem VA.so {ops : Array Oper} {dn : List Nat} {Hm Hp : List HE} {L : Env→List HE→Prop} (dn2 : List Nat) (d t : Nat) {b x : Bool} (hb : get env t = some (.bool b)) (h1 : ∀ K',JA P N ops dn2 K' d (.bool true) ((t,.bool true) :: env) Hm Hp→VA P N ops K' dn ((t,.bool true) :: env) Hm Hp)
  (h2 : b = false→∀ K',JA P N ops dn2 K' d (.bool x) ((t,.bool false) :: env) Hm Hp→VA P N ops K' dn ((t,.bool false) :: env) Hm Hp) (h : VA P N ops L dn2 ((d,.bool (b || x)) :: env) Hm Hp) : VA P N ops L dn env Hm Hp:=by
 cases hc : b with
 | true =>subst hc; exact VA.known hb rfl (h1 L (JA.mk hb rfl (by simp) h))
 | false =>subst hc; exact VA.known hb rfl (h2 rfl L (JA.mk hb rfl (by simp) h))
theorem VA.sa {ops : Array Oper} {dn : List Nat} {Hm Hp : List HE} {L : Env→List HE→Prop} (dn2 : List Nat) (d t : Nat) {b x : Bool} (hb : get env t = some (.bool b)) (h1 : b = true→∀ K',JA P N ops dn2 K' d (.bool x) ((t,.bool true) :: env) Hm Hp→VA P N ops K' dn ((t,.bool true) :: env) Hm Hp)
  (h2 : ∀ K',JA P N ops dn2 K' d (.bool false) ((t,.bool false) :: env) Hm Hp→VA P N ops K' dn ((t,.bool false) :: env) Hm Hp) (h : VA P N ops L dn2 ((d,.bool (b && x)) :: env) Hm Hp) : VA P N ops L dn env Hm Hp:=by
 cases hc : b with
 | true =>subst hc; exact VA.known hb rfl (h1 rfl L (JA.mk hb rfl (by simp) h))
 | false =>subst hc; exact VA.known hb rfl (h2 L (JA.mk hb rfl (by simp) h))
theorem VR.sm {ops : Array Oper} {l : List Oper} {L : Env→List HE→Prop} {b : Bool} {m1 m2 : Option Bool} {kf : Bool→Option β} {z : β} (hm : ((if b = true then m1 else m2).bind kf) = some z) (n d t : Nat) (hb : get env t = some (.bool b))
  (h1 : ∀ (v : Bool) K',b = true→JR P N ops (l.drop n) K' d (.bool v) ((t,.bool true) :: env) H→m1 = some v→VR P N ops l K' ((t,.bool true) :: env) H)
  (h2 : ∀ (v : Bool) K',b = false→JR P N ops (l.drop n) K' d (.bool v) ((t,.bool false) :: env) H→m2 = some v→VR P N ops l K' ((t,.bool false) :: env) H)
  (h : ∀ v,kf v = some z→VR P N ops (l.drop n) L ((d,.bool v) :: env) H) : VR P N ops l L env H:=by
 obtain ⟨v,a,c⟩:=bnd hm
 cases hc : b with
 | true =>subst hc; exact VR.known hb rfl (h1 v L rfl (JR.mk hb rfl rfl (h v c)) (by simpa using a))
 | false =>subst hc; exact VR.known hb rfl (h2 v L rfl (JR.mk hb rfl rfl (h v c)) (by simpa using a))
theorem VA.sm {ops : Array Oper} {dn : List Nat} {Hm Hp : List HE} {L : Env→List HE→Prop} {b : Bool} {m1 m2 : Option Bool} {kf : Bool→Option β} {z : β} (hm : ((if b = true then m1 else m2).bind kf) = some z) (dn2 : List Nat) (d t : Nat) (hb : get env t = some (.bool b))
  (h1 : ∀ (v : Bool) K',b = true→JA P N ops dn2 K' d (.bool v) ((t,.bool true) :: env) Hm Hp→m1 = some v→VA P N ops K' dn ((t,.bool true) :: env) Hm Hp)
  (h2 : ∀ (v : Bool) K',b = false→JA P N ops dn2 K' d (.bool v) ((t,.bool false) :: env) Hm Hp→m2 = some v→VA P N ops K' dn ((t,.bool false) :: env) Hm Hp)
  (h : ∀ v,kf v = some z→VA P N ops L dn2 ((d,.bool v) :: env) Hm Hp) : VA P N ops L dn env Hm Hp:=by
 obtain ⟨v,a,c⟩:=bnd hm
 cases hc : b with
 | true =>subst hc; exact VA.known hb rfl (h1 v L rfl (JA.mk hb rfl rfl (h v c)) (by simpa using a))
 | false =>subst hc; exact VA.known hb rfl (h2 v L rfl (JA.mk hb rfl rfl (h v c)) (by simpa using a))
theorem Bj {a b : Bool} (hm : some a = some b) : VV.bool a = VV.bool b:=congrArg VV.bool (Option.some.inj hm)
variable {dst : Option Tmp} {ty : TypeId} {pos : String} {aft : Array Edge} {g : Option (Nat × Bool)}
theorem VO.cl {F : Option ρ} {kf : ρ→Option β} {z : β} {V : ρ→VV} {Hf : ρ→List HE} (hm : F.bind kf = some z) (k : Nat) {f : FuncId} {fo : Operand} {args : Array Operand} {ats : Array TypeId} {fi ca xs : List VV} (hfo : ev env fo = some (.clo (.func f) fi ca)) (hf : fnB P f = true)
  (hx : evl env args.toList = some xs) (hc : VS P f F (fi++xs++ca) (H.take k) V Hf) (kk : ∀ r,kf r = some z→K (V r) (Hf r++H.drop k)) : VO P N ⟨dst,.call ⟨.value fo,args,ats⟩,ty,pos,aft,g⟩ env H K:=by
 obtain ⟨r,a,b⟩:=bnd hm
 exact VO.callK k hfo hf hx (hc r a) fun x H1 ⟨e1,e2⟩ =>by subst e1; subst e2; exact kk r b
theorem VO.cl1 {F : Option ρ} {kf : ρ→Option β} {z : β} {V : ρ→Nat→VV} {Hf : ρ→Nat→List HE} (hm : F.bind kf = some z) (k : Nat) {f : FuncId} {fo : Operand} {args : Array Operand} {ats : Array TypeId} {fi ca xs : List VV} (hfo : ev env fo = some (.clo (.func f) fi ca)) (hf : fnB P f = true)
  (hx : evl env args.toList = some xs) (hc : VS1 P f F (fi++xs++ca) (H.take k) V Hf) (kk : ∀ r a,kf r = some z→K (V r a) (Hf r a++H.drop k)) : VO P N ⟨dst,.call ⟨.value fo,args,ats⟩,ty,pos,aft,g⟩ env H K:=by
 obtain ⟨r,a,b⟩:=bnd hm
 exact VO.callK k hfo hf hx (hc r a) fun x H1 ⟨p,e1,e2⟩ =>by subst e1; subst e2; exact kk r p b
theorem VO.cl2 {F : Option ρ} {kf : ρ→Option β} {z : β} {V : ρ→Option Nat→Nat→VV} {Hf : ρ→Option Nat→Nat→List HE} (hm : F.bind kf = some z) (k : Nat) {f : FuncId} {fo : Operand} {args : Array Operand} {ats : Array TypeId} {fi ca xs : List VV} (hfo : ev env fo = some (.clo (.func f) fi ca)) (hf : fnB P f = true)
  (hx : evl env args.toList = some xs) (hc : VS2 P f F (fi++xs++ca) (H.take k) V Hf) (kk : ∀ r a c,kf r = some z→K (V r a c) (Hf r a c++H.drop k)) : VO P N ⟨dst,.call ⟨.value fo,args,ats⟩,ty,pos,aft,g⟩ env H K:=by
 obtain ⟨r,a,b⟩:=bnd hm
 exact VO.callK k hfo hf hx (hc r a) fun x H1 ⟨p,q,e1,e2⟩ =>by subst e1; subst e2; exact kk r p q b
theorem VO.cn {F : Option ρ} {kf : ρ→Option β} {z : β} {V : ρ→VV} {Hf : ρ→List HE} (hm : F.bind kf = some z) (k : Nat) (ns : List Hn) {f : FuncId} {fo : Operand} {args : Array Operand} {ats : Array TypeId} {fi ca xs : List VV} (hfo : ev env fo = some (.clo (.func f) fi ca)) (hf : fnB P f = true)
  (hx : evlN env ns args.toList = some xs) (hc : VS P f F (fi++xs++ca) (H.take k) V Hf) (kk : ∀ r,kf r = some z→K (V r) (Hf r++H.drop k)) : VO P N ⟨dst,.call ⟨.value fo,args,ats⟩,ty,pos,aft,g⟩ env H K:=by
 obtain ⟨r,a,b⟩:=bnd hm
 exact VO.callN k ns hfo hf hx (hc r a) fun x H1 ⟨e1,e2⟩ =>by subst e1; subst e2; exact kk r b
theorem VO.nx {it : Operand} {b pos' : Nat} {s : ByteArray} {m1 m2 : Option β} {z : β} (hm : (if pos' < s.size then m1 else m2) = some z) (i : Nat) (hx : ev env it = some (.ptr b 0)) (hh : H[i]? = some (.iter b s pos'))
  (h1 : pos' < s.size→m1 = some z→K (.tup [.bool true,.int .i64 (pos' : Int),.int .i32 ((Utf8.decode s pos').1 : Int)]) (H.set i (.iter b s (pos' + (Utf8.decode s pos').2)))) (h2 : ¬ pos' < s.size→m2 = some z→K (.tup [.bool false]) H) :
  VO P N ⟨dst,.next it true,ty,pos,aft,g⟩ env H K:=by
 rcases ite_or hm with ⟨a,c⟩ | ⟨a,c⟩
 ·exact VO.nextS hx hh a (h1 a c)
 ·exact VP.vo (VP.nextE hx hh a) (h2 a c)
theorem VA.one {ops : Array Oper} {dn : List Nat} {Hm Hp : List HE} {L : Env→List HE→Prop} (i : Nat) (hr : rdB ops dn [i] = true) (h : VB P N ops L dn env Hm Hp i) : VA P N ops L dn env Hm Hp:=VA.all [i] hr ⟨h,trivial⟩
theorem Pq {α β : Type} {M : α × β→Prop} (h : ∀ a b,M (a,b)) : ∀ g,M g:=fun ⟨a,b⟩ =>h a b
end
end Go.Proofs.YtkondhigbbgidaaGreat.V

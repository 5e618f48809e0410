/-
  The logic over plain values: several operations at once, told by a function. Own text.
-/
import Derived.Test.YtkondhigbbgidaaGreatVZ
namespace Go.Proofs.YtkondhigbbgidaaGreat.V
open Go
set_option linter.unusedVariables false
structure Tb where
 fa : List (Nat × Nat × Nat)
 ld : List (Nat × Nat × Bool)
def Tb.ok (T : Tb) (P : Program) : Bool:=T.fa.all (fun p =>faB P p.1 p.2.1 p.2.2) && T.ld.all fun p =>ldB P p.1 p.2.1 p.2.2
def fo : List (Nat × Nat × Nat)→Nat→Nat→Option Nat
 | [],_,_ =>none
 | (t,f,o) :: r,t',f' =>if t == t' && f == f' then some o else fo r t' f'
def lo : List (Nat × Nat × Bool)→Nat→Option (Nat × Bool)
 | [],_ =>none
 | (t,n,a) :: r,t' =>if t == t' then some (n,a) else lo r t'
theorem fo_mem : ∀ {l : List (Nat × Nat × Nat)} {t f o : Nat},fo l t f = some o→(t,f,o) ∈ l
 | (t',f',o') :: r,t,f,o,h =>by
  simp only [fo] at h
  split at h
  ·rename_i q
   simp only [Bool.and_eq_true,beq_iff_eq] at q
   obtain ⟨rfl,rfl⟩:=q
   cases h
   exact List.mem_cons_self ..
  ·exact List.mem_cons_of_mem _ (fo_mem h)
theorem lo_mem : ∀ {l : List (Nat × Nat × Bool)} {t n : Nat} {a : Bool},lo l t = some (n,a)→(t,n,a) ∈ l
 | (t',n',a') :: r,t,n,a,h =>by
  simp only [lo] at h
  split at h
  ·rename_i q
   simp only [beq_iff_eq] at q
   subst q
   cases h
   exact List.mem_cons_self ..
  ·exact List.mem_cons_of_mem _ (lo_mem h)
theorem tb_fa {T : Tb} {P : Program} (h : T.ok P = true) {t f o : Nat} (q : fo T.fa t f = some o) : faB P t f o = true:=by
 unfold Tb.ok at h
 rw [Bool.and_eq_true] at h
 exact List.all_eq_true.1 h.1 _ (fo_mem q)
theorem tb_ld {T : Tb} {P : Program} (h : T.ok P = true) {t n : Nat} {a : Bool} (q : lo T.ld t = some (n,a)) : ldB P t n a = true:=by
 unfold Tb.ok at h
 rw [Bool.and_eq_true] at h
 exact List.all_eq_true.1 h.2 _ (lo_mem q)
def stp (T : Tb) (env : Env) : Op→Option VV
 | .move x =>ev env x
 | .assign x =>ev env x
 | .binOp op _ x y _ =>match ev env x,ev env y with
  | some (.int k n),some (.int k' m) =>if k = k' then arith op k n m else none
  | some (.str s),some (.str t) =>strop op s t
  | _,_ =>none
 | .unOp .not _ x =>match ev env x with
  | some (.bool b) =>some (.bool (!b))
  | _ =>none
 | .nilCheck x =>match ev env x with
  | some (.ptr b o) =>some (.ptr b o)
  | some (.eref e xs) =>some (.eref e xs)
  | some (.rref b s i o) =>some (.rref b s i o)
  | _ =>none
 | .fieldAddr t x f =>match ev env x,fo T.fa t f with
  | some (.ptr b o),some off =>some (.ptr b (o + off))
  | some (.eref e xs),some off =>some (.eref e (xs.drop off))
  | some (.rref b s i o),some off =>some (.rref b s i (o + off))
  | _,_ =>none
 | .extract x i =>match ev env x with
  | some (.tup xs) =>xs[i]?
  | _ =>none
 | .pick c x y =>match ev env c with
  | some (.bool true) =>ev env x
  | some (.bool false) =>ev env y
  | _ =>none
 | _ =>none
def gk (ops : Array Oper) (env : Env) : Option (Nat × Bool)→Option Bool
 | none =>some true
 | some (j,w) =>match gslot ops j with
  | some s =>match get env s with
   | some (.bool true) =>some w
   | some (.bool false) =>some (!w)
   | some (.tup []) =>some false
   | _ =>none
  | none =>none
def takeL {β : Type} : Nat→List VV→(List VV→Option β)→Option β
 | 0,_,k =>k []
 | _ + 1,[],_ =>none
 | n + 1,x :: xs,k =>takeL n xs fun ys =>k (x :: ys)
theorem takeL_some {β : Type} : ∀ {n : Nat} {xs : List VV} {k : List VV→Option β} {r : β},takeL n xs k = some r→n≤xs.length∧k (xs.take n) = some r
 | 0,xs,k,r,h =>⟨Nat.zero_le _,by simpa [takeL] using h⟩
 | n + 1,[],k,r,h =>by cases h
 | n + 1,x :: xs,k,r,h =>by
  obtain ⟨h1,h2⟩:=takeL_some (n:=n) h
  exact ⟨by simp; omega,h2⟩
def run (T : Tb) (N : Nat) (ops : Array Oper) (H : List HE) : List Nat→Nat→List Oper→Env→List (Nat × Nat)→Option (Env × List (Nat × Nat))
 | _,0,_,env,q =>some (env,q)
 | _,_ + 1,[],_,_ =>none
 | hs,n + 1,o :: l,env,q =>match gk ops env o.guard,dok N o.dst with
  | some false,true =>match o.dst with
   | some d =>run T N ops H hs n l ((d,.tup []) :: env) q
   | none =>none
  | some true,true =>match o.op,o.dst with
   | .load t x,some d =>match ev env x,lo T.ld t with
    | some (.eref _ xs),some (k,true) =>takeL k xs fun ys =>run T N ops H hs n l ((d,.agg ys) :: env) q
    | some (.eref _ xs),some (1,false) =>match xs with
     | y :: _ =>run T N ops H hs n l ((d,y) :: env) q
     | [] =>none
    | some (.ptr b off),some (k,agg) =>match hs with
     | [] =>none
     | i :: hs =>match H[i]? with
      | some (.box b' _ cs) =>match agg,k,cs.drop off with
       | true,k,xs =>takeL k xs fun ys =>run T N ops H hs n l ((d,.agg ys) :: env) ((b,b') :: q)
       | false,1,y :: _ =>run T N ops H hs n l ((d,y) :: env) ((b,b') :: q)
       | _,_,_ =>none
      | _ =>none
    | _,_ =>none
   | op,some d =>match stp T env op with
    | some v =>run T N ops H hs n l ((d,v) :: env) q
    | none =>none
   | _,none =>none
  | _,_ =>none
section
variable {P : Program} {N : Nat} {env : Env} {H : List HE}
theorem stp_ok {T : Tb} (hT : T.ok P = true) {o : Oper} {v : VV} (h : stp T env o.op = some v) : VP P N o env H v:=by
 obtain ⟨dst,op,ty,pos,aft,g⟩:=o
 simp only at h
 unfold stp at h
 split at h
 ·exact VP.move h
 ·exact VP.assign h
 ·split at h
  ·rename_i h1 h2
   split at h
   ·rename_i hk
    subst hk
    exact VP.arith h1 h2 h
   ·cases h
  ·rename_i h1 h2
   exact VP.strop h1 h2 h
  ·cases h
 ·split at h
  ·rename_i h1
   cases h
   exact VP.not h1
  ·cases h
 ·split at h
  ·rename_i h1; cases h; exact VP.nilCheckP h1
  ·rename_i h1; cases h; exact VP.nilCheckE h1
  ·rename_i h1; cases h; exact VP.nilCheckR h1
  ·cases h
 ·split at h
  ·rename_i h1 h2; cases h; exact VP.fieldP h1 (tb_fa hT h2)
  ·rename_i h1 h2; cases h; exact VP.fieldE h1 (tb_fa hT h2)
  ·rename_i h1 h2; cases h; exact VP.fieldR h1 (tb_fa hT h2)
  ·cases h
 ·split at h
  ·rename_i h1; exact VP.extract h1 h
  ·cases h
 ·split at h
  ·rename_i h1; exact VP.pickB true h1 rfl h
  ·rename_i h1; exact VP.pickB false h1 rfl h
  ·cases h
 ·cases h
theorem VR.px {ops : Array Oper} {o : Oper} {rest : List Oper} {L : Env→List HE→Prop} {x : VV} (hd : dok N o.dst = true) (hg : gk ops env o.guard = some true) (h : VP P N o env H x) (k : VR P N ops rest L (putd env o.dst x) H) : VR P N ops (o :: rest) L env H:=by
 cases hgd : o.guard with
 | none =>exact VR.p hd hgd h k
 | some p =>
  obtain ⟨j,w⟩:=p
  rw [hgd] at hg
  simp only [gk] at hg
  split at hg
  ·rename_i s hs
   split at hg
   ·rename_i hb; cases hg; exact VR.pG hd hgd hs hb rfl h k
   ·rename_i hb
    cases w with
    | true =>cases hg
    | false =>exact VR.pG hd hgd hs hb rfl h k
   ·cases hg
   ·cases hg
  ·cases hg
theorem VR.sx {ops : Array Oper} {o : Oper} {rest : List Oper} {L : Env→List HE→Prop} (hd : dok N o.dst = true) (hg : gk ops env o.guard = some false) (k : VR P N ops rest L (putd env o.dst (.tup [])) H) : VR P N ops (o :: rest) L env H:=by
 cases hgd : o.guard with
 | none =>rw [hgd] at hg; cases hg
 | some p =>
  obtain ⟨j,w⟩:=p
  rw [hgd] at hg
  simp only [gk] at hg
  split at hg
  ·rename_i s hs
   split at hg
   ·rename_i hb; cases hg; exact VR.skipG hd hgd hs hb rfl k
   ·rename_i hb
    cases w with
    | true =>exact VR.skipG hd hgd hs hb rfl k
    | false =>cases hg
   ·rename_i hb; exact VR.skipU hd hgd hs hb k
   ·cases hg
  ·cases hg
theorem VA.px (i : Nat) {ops : Array Oper} {dn : List Nat} {Hm Hp : List HE} {o : Oper} {L : Env→List HE→Prop} {x : VV} (hi : ops[i]? = some o) (hd : dok N o.dst = true) (hg : gk ops env o.guard = some true) (ht : tkB ops dn i = true) (h : VP P N o env Hp x) (k : VA P N ops L (i :: dn) (putd env o.dst x) Hm Hp) : VA P N ops L dn env Hm Hp:=by
 cases hgd : o.guard with
 | none =>exact VA.p i hi hd hgd ht h k
 | some p =>
  obtain ⟨j,w⟩:=p
  rw [hgd] at hg
  simp only [gk] at hg
  split at hg
  ·rename_i s hs
   split at hg
   ·rename_i hb; cases hg; exact VA.pG i hi hd hgd hs hb rfl ht h k
   ·rename_i hb
    cases w with
    | true =>cases hg
    | false =>exact VA.pG i hi hd hgd hs hb rfl ht h k
   ·cases hg
   ·cases hg
  ·cases hg
theorem VA.sx (i : Nat) {ops : Array Oper} {dn : List Nat} {Hm Hp : List HE} {o : Oper} {L : Env→List HE→Prop} (hi : ops[i]? = some o) (hd : dok N o.dst = true) (hg : gk ops env o.guard = some false) (ht : tkB ops dn i = true) (k : VA P N ops L (i :: dn) (putd env o.dst (.tup [])) Hm Hp) : VA P N ops L dn env Hm Hp:=by
 cases hgd : o.guard with
 | none =>rw [hgd] at hg; cases hg
 | some p =>
  obtain ⟨j,w⟩:=p
  rw [hgd] at hg
  simp only [gk] at hg
  split at hg
  ·rename_i s hs
   split at hg
   ·rename_i hb; cases hg; exact VA.skipG i hi hd hgd hs hb rfl ht k
   ·rename_i hb
    cases w with
    | true =>exact VA.skipG i hi hd hgd hs hb rfl ht k
    | false =>cases hg
   ·rename_i hb; exact VA.skipU i hi hd hgd hs hb ht k
   ·cases hg
  ·cases hg
theorem eqs_mem {q : List (Nat × Nat)} (h : q.map Prod.fst = q.map Prod.snd) : ∀ p,p ∈ q→p.1 = p.2:=by
 induction q with
 | nil =>intro p hp; cases hp
 | cons a r ih =>
  simp only [List.map_cons,List.cons.injEq] at h
  intro p hp
  rcases List.mem_cons.1 hp with rfl | hp
  ·exact h.1
  ·exact ih h.2 p hp
theorem run_keeps {T : Tb} {ops : Array Oper} : ∀ (n : Nat) (hs : List Nat) (l : List Oper) (env : Env) (q : List (Nat × Nat)) (e : Env) (q' : List (Nat × Nat)),run T N ops H hs n l env q = some (e,q')→∀ p,p ∈ q→p ∈ q'
 | 0,hs,l,env,q,e,q',h,p,hp =>by simp only [run,Option.some.injEq,Prod.mk.injEq] at h; rw [← h.2]; exact hp
 | n + 1,hs,[],env,q,e,q',h,p,hp =>by simp [run] at h
 | n + 1,hs,o :: l,env,q,e,q',h,p,hp =>by
  have ih:=run_keeps (T:=T) (ops:=ops) n
  simp only [run] at h
  split at h
  ·split at h
   ·exact ih _ _ _ _ _ _ h p hp
   ·cases h
  ·split at h
   ·split at h
    ·exact ih _ _ _ _ _ _ (takeL_some h).2 p hp
    ·split at h
     ·exact ih _ _ _ _ _ _ h p hp
     ·cases h
    ·split at h
     ·cases h
     ·split at h
      ·split at h
       ·exact ih _ _ _ _ _ _ (takeL_some h).2 p (List.mem_cons_of_mem _ hp)
       ·exact ih _ _ _ _ _ _ h p (List.mem_cons_of_mem _ hp)
       ·cases h
      ·cases h
    ·cases h
   ·split at h
    ·exact ih _ _ _ _ _ _ h p hp
    ·cases h
   ·cases h
  ·cases h
theorem run_ok {T : Tb} (hT : T.ok P = true) {ops : Array Oper} {L : Env→List HE→Prop} : ∀ (n : Nat) (hs : List Nat) (l : List Oper) (env : Env) (q : List (Nat × Nat)) (e : Env) (q' : List (Nat × Nat)),run T N ops H hs n l env q = some (e,q')→(∀ p,p ∈ q'→p.1 = p.2) →
  VR P N ops (l.drop n) L e H→VR P N ops l L env H
 | 0,hs,l,env,q,e,q',h,hq,k =>by simp only [run,Option.some.injEq,Prod.mk.injEq] at h; rw [h.1]; exact k
 | n + 1,hs,[],env,q,e,q',h,hq,k =>by simp [run] at h
 | n + 1,hs,o :: l,env,q,e,q',h,hq,k =>by
  have ih:=run_ok hT (ops:=ops) (L:=L) n
  rw [List.drop_succ_cons] at k
  simp only [run] at h
  split at h
  ·rename_i hg hd
   split at h
   ·rename_i d hdst
    refine VR.sx hd hg ?_
    rw [hdst]
    exact ih _ _ _ _ _ _ h hq k
   ·cases h
  ·rename_i hg hd
   split at h
   ·rename_i t x d ho hdst
    obtain ⟨dst,op,ty,pos,aft,g⟩:=o
    simp only at ho hdst hg
    subst ho; subst hdst
    split at h
    ·rename_i h1 h2
     obtain ⟨h3,h4⟩:=takeL_some h
     exact VR.px hd hg (VP.loadE (agg:=true) h1 (tb_ld hT h2) (by simpa using h3)) (ih _ _ _ _ _ _ h4 hq k)
    ·rename_i h1 h2
     split at h
     ·exact VR.px hd hg (VP.loadE (n:=1) (agg:=false) h1 (tb_ld hT h2) (by simp)) (ih _ _ _ _ _ _ h hq k)
     ·cases h
    ·rename_i h1 h2
     split at h
     ·cases h
     ·split at h
      ·rename_i hh
       split at h
       ·obtain ⟨h3,h4⟩:=takeL_some h
        have hb:=hq _ (run_keeps _ _ _ _ _ _ _ h4 _ (List.mem_cons_self ..))
        simp only at hb
        subst hb
        exact VR.px hd hg (VP.loadP (agg:=true) h1 hh (tb_ld hT h2) (by simpa using h3)) (ih _ _ _ _ _ _ h4 hq k)
       ·rename_i hcs
        have hb:=hq _ (run_keeps _ _ _ _ _ _ _ h _ (List.mem_cons_self ..))
        simp only at hb
        subst hb
        refine VR.px hd hg (VP.loadP (n:=1) (agg:=false) h1 hh (tb_ld hT h2) (by rw [hcs]; simp)) ?_
        rw [hcs]
        exact ih _ _ _ _ _ _ h hq k
       ·cases h
      ·cases h
    ·cases h
   ·rename_i hdst hne
    split at h
    ·rename_i v hv
     refine VR.px hd hg (stp_ok hT hv) ?_
     rw [hdst]
     exact ih _ _ _ _ _ _ h hq k
    ·cases h
   ·cases h
  ·cases h
theorem VR.ru {T : Tb} (hT : T.ok P = true) {ops : Array Oper} {l : List Oper} {L : Env→List HE→Prop} {e : Env} {q : List (Nat × Nat)} (hs : List Nat) (n : Nat) (h : run T N ops H hs n l env [] = some (e,q)) (hq : q.map Prod.fst = q.map Prod.snd)
  (k : VR P N ops (l.drop n) L e H) : VR P N ops l L env H:=run_ok hT n hs l env [] e q h (eqs_mem hq) k
def tkL (ops : Array Oper) : List Nat→List Nat→Bool
 | _,[] =>true
 | dn,i :: r =>tkB ops dn i && tkL ops (i :: dn) r
def opsAt (ops : Array Oper) : List Nat→Option (List Oper)
 | [] =>some []
 | i :: r =>match ops[i]?,opsAt ops r with
  | some o,some l =>some (o :: l)
  | _,_ =>none
theorem runA_ok {T : Tb} (hT : T.ok P = true) {ops : Array Oper} {Hm Hp : List HE} {L : Env→List HE→Prop} : ∀ (is : List Nat) (dn hs : List Nat) (l : List Oper) (env : Env) (q : List (Nat × Nat)) (e : Env) (q' : List (Nat × Nat)),opsAt ops is = some l→tkL ops dn is = true→run T N ops Hp hs is.length l env q = some (e,q')→(∀ p,p ∈ q'→p.1 = p.2) →
  VA P N ops L (is.reverse++dn) e Hm Hp→VA P N ops L dn env Hm Hp
 | [],dn,hs,l,env,q,e,q',ho,ht,h,hq,k =>by simp only [List.length_nil,run,Option.some.injEq,Prod.mk.injEq] at h; rw [h.1]; exact k
 | i :: is,dn,hs,l,env,q,e,q',ho,ht,h,hq,k =>by
  have ih:=runA_ok hT (ops:=ops) (Hm:=Hm) (Hp:=Hp) (L:=L) is (i :: dn)
  rw [tkL,Bool.and_eq_true] at ht
  rw [List.reverse_cons,List.append_assoc,List.singleton_append] at k
  simp only [opsAt] at ho
  split at ho
  ·rename_i o l' hi hl'
   cases ho
   simp only [List.length_cons,run] at h
   split at h
   ·rename_i hg hd
    split at h
    ·rename_i d hdst
     refine VA.sx i hi hd hg ht.1 ?_
     rw [hdst]
     exact ih _ _ _ _ _ _ hl' ht.2 h hq k
    ·cases h
   ·rename_i hg hd
    split at h
    ·rename_i t x d ho hdst
     obtain ⟨dst,op,ty,pos,aft,g⟩:=o
     simp only at ho hdst hg
     subst ho; subst hdst
     split at h
     ·rename_i h1 h2
      obtain ⟨h3,h4⟩:=takeL_some h
      exact VA.px i hi hd hg ht.1 (VP.loadE (agg:=true) h1 (tb_ld hT h2) (by simpa using h3)) (ih _ _ _ _ _ _ hl' ht.2 h4 hq k)
     ·rename_i h1 h2
      split at h
      ·exact VA.px i hi hd hg ht.1 (VP.loadE (n:=1) (agg:=false) h1 (tb_ld hT h2) (by simp)) (ih _ _ _ _ _ _ hl' ht.2 h hq k)
      ·cases h
     ·rename_i h1 h2
      split at h
      ·cases h
      ·split at h
       ·rename_i hh
        split at h
        ·obtain ⟨h3,h4⟩:=takeL_some h
         have hb:=hq _ (run_keeps _ _ _ _ _ _ _ h4 _ (List.mem_cons_self ..))
         simp only at hb
         subst hb
         exact VA.px i hi hd hg ht.1 (VP.loadP (agg:=true) h1 hh (tb_ld hT h2) (by simpa using h3)) (ih _ _ _ _ _ _ hl' ht.2 h4 hq k)
        ·rename_i hcs
         have hb:=hq _ (run_keeps _ _ _ _ _ _ _ h _ (List.mem_cons_self ..))
         simp only at hb
         subst hb
         refine VA.px i hi hd hg ht.1 (VP.loadP (n:=1) (agg:=false) h1 hh (tb_ld hT h2) (by rw [hcs]; simp)) ?_
         rw [hcs]
         exact ih _ _ _ _ _ _ hl' ht.2 h hq k
        ·cases h
       ·cases h
     ·cases h
    ·rename_i hdst hne
     split at h
     ·rename_i v hv
      refine VA.px i hi hd hg ht.1 (stp_ok hT hv) ?_
      rw [hdst]
      exact ih _ _ _ _ _ _ hl' ht.2 h hq k
     ·cases h
    ·cases h
   ·cases h
  ·cases ho
theorem VA.ru {T : Tb} (hT : T.ok P = true) {ops : Array Oper} {Hm Hp : List HE} {L : Env→List HE→Prop} {dn : List Nat} {l : List Oper} {e : Env} {q : List (Nat × Nat)} (is hs : List Nat) (ht : tkL ops dn is = true) (ho : opsAt ops is = some l) (h : run T N ops Hp hs is.length l env [] = some (e,q))
  (hq : q.map Prod.fst = q.map Prod.snd) (k : VA P N ops L (is.reverse++dn) e Hm Hp) : VA P N ops L dn env Hm Hp:=runA_ok hT is dn hs l env [] e q ho ht h (eqs_mem hq) k
theorem VW.rr {T : Tb} (hT : T.ok P = true) {id : Nat} {l : List Oper} {y : Code} {Q : Post} {e : Env} {q : List (Nat × Nat)} (hs : List Nat) (h : run T N l.toArray H hs l.length l env [] = some (e,q)) (hq : q.map Prod.fst = q.map Prod.snd) (k : VW P N y Q e H) : VW P N (.seq (.region id l.toArray false) y) Q env H :=
 VW.sr (run_ok hT l.length hs l env [] e q h (eqs_mem hq) (by rw [List.drop_eq_nil_of_le (Nat.le_refl _)]; exact VR.nil k))
theorem VW.r1 {T : Tb} (hT : T.ok P = true) {id : Nat} {l : List Oper} {Q : Post} {e : Env} {q : List (Nat × Nat)} (hs : List Nat) (h : run T N l.toArray H hs l.length l env [] = some (e,q)) (hq : q.map Prod.fst = q.map Prod.snd) (k : Q .normal e H) : VW P N (.region id l.toArray false) Q env H :=
 VW.region (run_ok hT l.length hs l env [] e q h (eqs_mem hq) (by rw [List.drop_eq_nil_of_le (Nat.le_refl _)]; exact VR.nil k))
theorem run_drop {T : Tb} {ops : Array Oper} : ∀ (n : Nat) (hs : List Nat) (l : List Oper) (env : Env) (q : List (Nat × Nat)) (e : Env) (q' : List (Nat × Nat)),run T N ops H hs n l env q = some (e,q')→e.drop n = env
 | 0,hs,l,env,q,e,q',h =>by simp only [run,Option.some.injEq,Prod.mk.injEq] at h; rw [h.1]; rfl
 | n + 1,hs,[],env,q,e,q',h =>by simp [run] at h
 | n + 1,hs,o :: l,env,q,e,q',h =>by
  have ih:=run_drop (T:=T) (ops:=ops) n
  have up : ∀ {p : Nat × VV},e.drop n = p :: env→e.drop (n + 1) = env:=fun {p} hp =>by
   rw [← List.drop_drop,hp]; rfl
  simp only [run] at h
  split at h
  ·split at h
   ·exact up (ih _ _ _ _ _ _ h)
   ·cases h
  ·split at h
   ·split at h
    ·exact up (ih _ _ _ _ _ _ (takeL_some h).2)
    ·split at h
     ·exact up (ih _ _ _ _ _ _ h)
     ·cases h
    ·split at h
     ·cases h
     ·split at h
      ·split at h
       ·exact up (ih _ _ _ _ _ _ (takeL_some h).2)
       ·exact up (ih _ _ _ _ _ _ h)
       ·cases h
      ·cases h
    ·cases h
   ·split at h
    ·exact up (ih _ _ _ _ _ _ h)
    ·cases h
   ·cases h
  ·cases h
def grp (T : Tb) (N : Nat) (ops : Array Oper) (H : List HE) (hs : List Nat) (n : Nat) (l : List Oper) (env : Env) (t d : Nat) (b : Bool) : Option (VV × List (Nat × Nat)):=match n with
 | 0 =>none
 | m + 1 =>match run T N ops H hs (m + 1) l ((t,.bool b) :: env) [] with
  | some ((d',v) :: E,q) =>if d' == d && (E.take m).all (fun p =>(get env p.1).isNone) then some (v,q) else none
  | _ =>none
theorem grp_ok {T : Tb} (hT : T.ok P = true) {ops : Array Oper} {l : List Oper} {L : Env→List HE→Prop} {hs : List Nat} {n t d : Nat} {b : Bool} {v e : VV} {q : List (Nat × Nat)} (h : grp T N ops H hs n l env t d b = some (v,q)) (hq : q.map Prod.fst = q.map Prod.snd) (J : JR P N ops (l.drop n) L d e ((t,.bool b) :: env) H) (hv : v = e) : VR P N ops l L ((t,.bool b) :: env) H:=by
 unfold grp at h
 split at h
 ·cases h
 ·rename_i m
  split at h
  ·rename_i d' v' E q' hr
   split at h
   ·rename_i hc
    simp only [Bool.and_eq_true,beq_iff_eq] at hc
    obtain ⟨rfl,hc⟩:=hc
    cases h
    have hd:=run_drop _ _ _ _ _ _ _ hr
    exact run_ok hT _ _ _ _ _ _ _ hr (eqs_mem hq) (J m (by simpa using hd) (by simpa using hc) hv)
   ·cases h
  ·cases h
theorem VR.gor {T : Tb} (hT : T.ok P = true) {ops : Array Oper} {l : List Oper} {L : Env→List HE→Prop} (hs : List Nat) (n d t : Nat) {b x : Bool} {q1 q2 : List (Nat × Nat)} (hb : get env t = some (.bool b)) (h1 : grp T N ops H [] n l env t d true = some (.bool true,q1)) (h2 : grp T N ops H hs n l env t d false = some (.bool x,q2))
  (e1 : q1.map Prod.fst = q1.map Prod.snd) (e2 : q2.map Prod.fst = q2.map Prod.snd) (h : VR P N ops (l.drop n) L ((d,.bool (b || x)) :: env) H) : VR P N ops l L env H:=VR.so n d t hb (fun K' J =>grp_ok hT h1 e1 J rfl) (fun _ K' J =>grp_ok hT h2 e2 J rfl) h
theorem VR.gand {T : Tb} (hT : T.ok P = true) {ops : Array Oper} {l : List Oper} {L : Env→List HE→Prop} (hs : List Nat) (n d t : Nat) {b x : Bool} {q1 q2 : List (Nat × Nat)} (hb : get env t = some (.bool b)) (h1 : grp T N ops H hs n l env t d true = some (.bool x,q1)) (h2 : grp T N ops H [] n l env t d false = some (.bool false,q2))
  (e1 : q1.map Prod.fst = q1.map Prod.snd) (e2 : q2.map Prod.fst = q2.map Prod.snd) (h : VR P N ops (l.drop n) L ((d,.bool (b && x)) :: env) H) : VR P N ops l L env H:=VR.sa n d t hb (fun _ K' J =>grp_ok hT h1 e1 J rfl) (fun K' J =>grp_ok hT h2 e2 J rfl) h
end
end Go.Proofs.YtkondhigbbgidaaGreat.V

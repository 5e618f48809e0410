/-
  The logic over plain values: places: variables of one type that are owned together, and pointers to them, told by numbers. Own text.
-/
import Derived.Test.YtkondhigbbgidaaGreatVDefer
import Derived.LaidEql
namespace Go.Proofs.YtkondhigbbgidaaGreat.V
open Go
set_option linter.unusedVariables false
section
variable {P : Program} {N : Nat} {env : Env} {H : List HE} {K : VV→List HE→Prop} {D : Cx} {w : World}
variable {dst : Option Tmp} {ty : TypeId} {pos : String} {aft : Array Edge} {g : Option (Nat × Bool)}
theorem rd_ifo {v : Value} {b : Bool} {t : TypeId} {x : VV} (h : Rd P D w v (.ifo b t x)) : (b = true∧v = .nilIface)∨(b = false∧∃ u,v = .iface t u∧Rd P D w u x):=by
 cases h with
 | ifo0 _ _ =>exact .inl ⟨rfl,rfl⟩
 | ifo1 _ u _ h =>exact .inr ⟨rfl,u,rfl,h⟩
theorem VP.assignI (t : TypeId) (z : VV) : VP P N ⟨dst,.assign (.const .nilIface),ty,pos,aft,g⟩ env H (.ifo true t z):=fun D w a hs hr hi =>⟨_,fun _ _ =>rfl,.ifo0 t z⟩
def nifB (P : Program) (t : TypeId) : Bool:=match P.underlying t with | some (.interface _) =>false | some _ =>true | none =>false
theorem VP.mkI {t : TypeId} {x : Operand} {z : VV} (h : nifB P t = true) (hx : ev env x = some z) : VP P N ⟨dst,.makeInterface t x,ty,pos,aft,g⟩ env H (.ifo false t z):=fun D w a hs hr hi =>by
 refine ⟨.iface t (a.eval x),fun w1 _ =>?_,.ifo1 t _ _ (ev_rd hx hr)⟩
 unfold nifB at h
 cases hu : P.underlying t with
 | none =>simp [hu] at h
 | some d =>
  simp only [execOp,Instr.makeInterface]
  cases d<;>simp_all [run_underlying hu]
def zgV (P : Program) (t : TypeId) : Option VV:=((P.info? t).bind (·.zero)).bind fun z =>match z with | .agg cs =>(cs.toList.mapM ofC).map VV.agg | v =>ofC v
theorem zgV_run {t : TypeId} {z : VV} (h : zgV P t = some z) : ∃ v,(∀ w : World,(zeroValue t).run P w = .ok v w)∧∀ D w,Rd P D w v z:=by
 unfold zgV at h
 cases hi : P.info? t with
 | none =>simp [hi] at h
 | some i =>
  cases hz : i.zero with
  | none =>simp [hi,hz] at h
  | some v =>
   simp only [hi,hz,Option.bind_some] at h
   refine ⟨v,fun w =>by simp [zeroValue,typeInfo,hi,hz],fun D w =>?_⟩
   split at h
   ·rename_i cs
    rw [Option.map_eq_some_iff] at h
    obtain ⟨xs,h1,rfl⟩:=h
    obtain ⟨h3,h4⟩:=mapM_rel h1
    exact .agg cs xs (by simpa using h3) (fun j u x hu hx =>ofC_rd (h4 j u x (by simpa using hu) hx))
   ·exact ofC_rd h
theorem VP.tassert {x : Operand} {xt T : TypeId} {b : Bool} {t : TypeId} {z zz : VV} (hn : nifB P T = true) (hz : zgV P T = some zz) (hx : ev env x = some (.ifo b t z)) :
  VP P N ⟨dst,.typeAssert x xt T true,ty,pos,aft,g⟩ env H (.tup [if (!b && t == T) = true then z else zz,.bool (!b && t == T)]):=fun D w a hs hr hi =>by
 obtain ⟨v,h1,h2⟩:=zgV_run hz
 have hrd:=ev_rd hx hr
 unfold nifB at hn
 cases hu : P.underlying T with
 | none =>simp [hu] at hn
 | some d =>
  have hd : ∀ ms,d≠.interface ms:=fun ms e =>by subst e; simp [hu] at hn
  rcases rd_ifo hrd with ⟨rfl,h⟩ | ⟨rfl,u,h,hru⟩
  ·refine ⟨.tuple #[v,.bool false],fun w1 _ =>?_,.tup _ _ rfl ?_⟩
   ·simp only [execOp,h,Instr.typeAssert]
    cases d<;>first | exact absurd rfl (hd _) | simp [run_underlying hu,h1]
   ·intro j q x hq hx
    match j with
    | 0 =>simp at hq hx; subst hq; subst hx; exact h2 D w
    | 1 =>simp at hq hx; subst hq; subst hx; exact .bool _
    | j + 2 =>simp at hq
  ·by_cases e : t = T
   ·subst e
    refine ⟨.tuple #[u,.bool true],fun w1 _ =>?_,.tup _ _ rfl ?_⟩
    ·simp only [execOp,h,Instr.typeAssert]
     cases d<;>first | exact absurd rfl (hd _) | simp [run_underlying hu]
    ·intro j q x hq hx
     match j with
     | 0 =>simp at hq hx; subst hq; subst hx; exact hru
     | 1 =>simp at hq hx; subst hq; subst hx; exact .bool _
     | j + 2 =>simp at hq
   ·have e' : (t == T) = false:=by simpa using e
    refine ⟨.tuple #[v,.bool false],fun w1 _ =>?_,.tup _ _ rfl ?_⟩
    ·simp only [execOp,h,Instr.typeAssert]
     cases d<;>first | exact absurd rfl (hd _) | simp [run_underlying hu,h1,e]
    ·intro j q x hq hx
     match j with
     | 0 =>simp [e'] at hq hx; subst hq; subst hx; exact h2 D w
     | 1 =>simp [e'] at hq hx; subst hq; subst hx; exact .bool _
     | j + 2 =>simp at hq
def mtB (P : Program) (t : TypeId) (name : String) (f : FuncId) : Bool :=
 (match P.info? t with | some i =>(match i.methods.find? (·.name == name) with | some m =>m.path.isEmpty && (match m.func with | some (q,p) =>q == f && !p | none =>false) | none =>false) | none =>false) &&
 (match P.underlying t with | some (.pointer _) =>false | some _ =>true | none =>false)
theorem mtB_run {t : TypeId} {name : String} {f : FuncId} (h : mtB P t name f = true) (n : Nat) (v : Value) (w : World) : (method (n + 1) t v name).run P w = .ok (f,v) w:=by
 unfold mtB at h
 simp only [Bool.and_eq_true] at h
 obtain ⟨h1,h2⟩:=h
 cases hi : P.info? t with
 | none =>simp [hi] at h1
 | some i =>
  simp only [hi] at h1
  cases hm : i.methods.find? (·.name == name) with
  | none =>simp [hm] at h1
  | some m =>
   simp only [hm,Bool.and_eq_true] at h1
   obtain ⟨h3,h4⟩:=h1
   cases hf : m.func with
   | none =>simp [hf] at h4
   | some q =>
    obtain ⟨q,p⟩:=q
    simp only [hf,Bool.and_eq_true,beq_iff_eq,Bool.not_eq_true'] at h4
    obtain ⟨rfl,rfl⟩:=h4
    have hp : m.path.toList = []:=by simpa using h3
    unfold method
    have h5 : (follow m.path.toList t (.val v)).run P w = .ok (t,.val v) w:=by rw [hp]; rfl
    have h6 : ∀ wr,(receiverAt t (.val v) false wr).run P w = .ok v w:=fun wr =>by
     unfold receiverAt
     cases hu : P.underlying t with
     | none =>simp [hu] at h2
     | some d =>
      simp only [Sem.run_bind,run_underlying hu,Result.andThen_ok]
      cases d<;>first | rfl | simp [hu] at h2
    simp [typeInfo,hi,hm,h5,hf,h6]
theorem VO.invK (k : Nat) {f : FuncId} {recv : Operand} {name : String} {t : TypeId} {z : VV} {args : Array Operand} {ats : Array TypeId} {xs : List VV} {R : VV→List HE→Prop} (hrv : ev env recv = some (.ifo false t z)) (hm : mtB P t name f = true) (hf : fnB P f = true)
  (hx : evl env args.toList = some xs) (hc : VC P f (z :: xs) (H.take k) R) (kk : ∀ x H1,R x H1→K x (H1++H.drop k)) : VO P N ⟨dst,.call ⟨.invoke recv name,args,ats⟩,ty,pos,aft,g⟩ env H K:=by
 intro D w a hs hr hi next Qx hn
 rw [evl_mapM] at hx
 obtain ⟨h1,h2⟩:=mapM_rel hx
 rcases rd_ifo (ev_rd hrv hr) with ⟨h,_⟩ | ⟨_,u,hv,hru⟩
 ·cases h
 have hrun : (execOp a.eval ⟨dst,.call ⟨.invoke recv name,args,ats⟩,ty,pos,aft,g⟩).run P w = .ok (.enter f (#[u]++args.map a.eval)) w:=by
  obtain ⟨n,hn⟩ : ∃ n,P.types.size + Made.depth = n + 1:=⟨P.types.size + Made.depth - 1,by have h0 : 0 < Made.depth:=(by decide); omega⟩
  have e2 : (#[Value.iface t u]++args.map a.eval).extract 1 (#[Value.iface t u]++args.map a.eval).size = args.map a.eval:=by
   apply Array.ext
   ·simp
   ·intro i h1 h2; simp
  have e3 : (callMethod (.iface t u) name (args.map a.eval)).run P w = .ok (.enter f (#[u]++args.map a.eval)) w:=by
   simp only [callMethod]
   simp [hn,mtB_run hm,run_callFunc hf]
  have e4 : (invoke (.fn (.method name) #[]) (#[Value.iface t u]++args.map a.eval)).run P w = .ok (.enter f (#[u]++args.map a.eval)) w:=by
   have e5 : (#[Value.iface t u]++args.map a.eval)[0]? = some (.iface t u):=by rw [Array.getElem?_append_left (by simp)]; rfl
   unfold invoke
   simp only [e5]
   rw [e2]
   exact e3
  simp only [execOp,resolve,hv,Sem.run_bind,Sem.run_pure,Result.andThen_ok]
  exact e4
 have hargs : ∀ (j : Nat) (v : Value) (x : VV),(#[u]++args.map a.eval)[j]? = some v→(z :: xs)[j]? = some x→Rd P D w v x:=by
  intro j v x hj hjx
  cases j with
  | zero =>
   rw [Array.getElem?_append_left (by simp)] at hj
   simp at hj hjx; subst hj; subst hjx; exact hru
  | succ j =>
   rw [Array.getElem?_append_right (by simp)] at hj
   simp only [List.getElem?_cons_succ] at hjx
   simp only [Array.getElem?_map,Option.map_eq_some_iff] at hj
   obtain ⟨o,ho,rfl⟩:=hj
   exact ev_rd (h2 _ o x (by simpa using ho) hjx) hr
 unfold Oper.wp
 rw [hrun]
 have hi' : Inv P D w (H.take k++H.drop k):=by rw [List.take_append_drop]; exact hi
 refine Calls.mono (hc D w _ ?_ hargs hi'.sub) ?_
 ·simp only [Array.size_append,List.length_cons,Array.size_map]
  rw [Array.length_toList] at h1
  simp; omega
 ·rintro e w' ⟨v,x,H',D',rfl,hR,hrv,hi2,hf'⟩
  obtain ⟨hI,hF⟩:=hi'.frame hi2 hf'
  rw [List.take_append_drop] at hF
  exact hn v x (H'++H.drop k) D' w' (kk x H' hR) hrv hI hF
def VI (P : Program) (b : Bool) (t : TypeId) (z : VV) (name : String) (xs : List VV) (V : VV) : Prop:=b = false∧∃ f,mtB P t name f = true∧fnB P f = true∧VC P f (z :: xs) [] fun zx zH =>zx = V∧zH = []
theorem VO.inv {recv : Operand} {name : String} {b : Bool} {t : TypeId} {z : VV} {args : Array Operand} {ats : Array TypeId} {xs : List VV} {V : VV} (hrv : ev env recv = some (.ifo b t z)) (hx : evl env args.toList = some xs) (h : VI P b t z name xs V) (kk : K V H) :
  VO P N ⟨dst,.call ⟨.invoke recv name,args,ats⟩,ty,pos,aft,g⟩ env H K:=by
 obtain ⟨rfl,f,h1,h2,h3⟩:=h
 exact VO.invK (R:=fun zx zH =>zx = V∧zH = []) 0 hrv h1 h2 hx (by simpa using h3) fun x H1 ⟨e1,e2⟩ =>by subst e1; subst e2; simpa using kk
end
def grd (b : Bool) : Option Unit:=if b = true then some () else none
theorem grd_t {b : Bool} {u : Unit} (h : grd b = some u) : b = true:=by
 cases b
 ·cases h
 ·rfl
section
variable {P : Program} {N : Nat} {env : Env} {H : List HE} {K : VV→List HE→Prop} {D : Cx} {w : World}
variable {dst : Option Tmp} {ty : TypeId} {pos : String} {aft : Array Edge} {g : Option (Nat × Bool)}
theorem VL.s {c : Code} {Q : Post} {n : Nat} (h : VW P N c (Post.then (VL P N c Q n) Q) env H) : VL P N c Q (n + 1) env H:=h
variable {κ υ : Type} [DecidableEq κ] {kf : κ→VV} {kv : κ→Value} {kind : TypeDesc} {vf : υ→VV} {kt : TypeId}
end
section
variable {P : Program} {N : Nat} {env : Env} {H : List HE} {K : VV→List HE→Prop} {D : Cx} {w : World}
variable {dst : Option Tmp} {ty : TypeId} {pos : String} {aft : Array Edge} {g : Option (Nat × Bool)}
end
 mutual
def noT (es : List Nat) : VV→Bool
 | .list e xs =>!es.contains e && noTs es xs
 | .fl e xs =>!es.contains e && noTs es xs
 | .eref e xs =>!es.contains e && noTs es xs
 | .agg cs =>noTs es cs
 | .tup cs =>noTs es cs
 | .iface _ v =>noT es v
 | .ifo _ _ v =>noT es v
 | .clo _ _ _ =>false
 | _ =>true
def noTs (es : List Nat) : List VV→Bool
 | [] =>true
 | x :: r =>noT es x && noTs es r
end
theorem noTs_mem {es : List Nat} : ∀ {l : List VV},noTs es l = true→∀ x,x ∈ l→noT es x = true
 | [],_,_,h =>by cases h
 | y :: l,h,x,hx =>by
  unfold noTs at h
  rw [Bool.and_eq_true] at h
  rcases List.mem_cons.1 hx with rfl | hx
  ·exact h.1
  ·exact noTs_mem h.2 x hx
theorem noTs_map {es : List Nat} {α : Type} {f : α→VV} (h : ∀ a,noT es (f a) = true) : ∀ l : List α,noTs es (l.map f) = true
 | [] =>rfl
 | a :: l =>by rw [List.map_cons,noTs,h a,noTs_map h l]; rfl
section
variable {P : Program} {N : Nat} {env : Env} {H : List HE} {K : VV→List HE→Prop} {D : Cx} {w : World}
variable {dst : Option Tmp} {ty : TypeId} {pos : String} {aft : Array Edge} {g : Option (Nat × Bool)}
theorem noT_rd {es : List Nat} {D' : Cx} (hD : ∀ b e,D b e→es.contains e = false→D' b e) (hn : ∀ a i b,D.nm a i b→D'.nm a i b) {v : Value} {x : VV} (r : Rd P D w v x) : noT es x = true→Rd P D' w v x:=by
 induction r with
 | any v =>exact fun _ =>.any v
 | bool b =>exact fun _ =>.bool b
 | int k n =>exact fun _ =>.int k n
 | str s hs =>exact fun _ =>.str s hs
 | agg cs xs hs _ ih =>
  intro h
  refine .agg cs xs hs fun j v x hv hx =>ih j v x hv hx ?_
  unfold noT at h
  exact noTs_mem h x (List.mem_of_getElem? hx)
 | tup cs xs hs _ ih =>
  intro h
  refine .tup cs xs hs fun j v x hv hx =>ih j v x hv hx ?_
  unfold noT at h
  exact noTs_mem h x (List.mem_of_getElem? hx)
 | listNil e a =>exact fun _ =>.listNil e a
 | list e xs b off c f hc hm hd hz hv _ ih =>
  intro h
  unfold noT at h
  simp only [Bool.and_eq_true,Bool.not_eq_true'] at h
  refine .list e xs b off c f hc hm (hD b e hd h.1) hz hv fun i x hx j y hy =>ih i x hx j y hy ?_
  have hx':=noTs_mem h.2 x (List.mem_of_getElem? hx)
  cases x with
  | agg cs =>unfold noT at hx'; exact noTs_mem hx' y (List.mem_of_getElem? hy)
  | _ =>
   have e1 : y ∈ [_]:=List.mem_of_getElem? hy
   rw [List.mem_singleton] at e1
   rw [e1]; exact hx'
 | slNil =>exact fun _ =>.slNil
 | sl b len cap =>exact fun _ =>.sl b len cap
 | ptr b off =>exact fun _ =>.ptr b off
 | rref b sz i o =>exact fun _ =>.rref b sz i o
 | eref e xs b off f hd hv _ ih =>
  intro h
  unfold noT at h
  simp only [Bool.and_eq_true,Bool.not_eq_true'] at h
  exact .eref e xs b off f (hD b e hd h.1) hv fun j y hy =>ih j y hy (noTs_mem h.2 y (List.mem_of_getElem? hy))
 | nilptr =>exact fun _ =>.nilptr
 | nilmap =>exact fun _ =>.nilmap
 | nilfn =>exact fun _ =>.nilfn
 | flNil e =>exact fun _ =>.flNil e
 | fl e xs a n hn' _ ih =>
  intro h
  refine .fl e xs a n hn' (ih ?_)
  unfold noT at h ⊢
  exact h
 | clo fn fi ca xs ys hs _ hs' _ ih ih' =>intro h; unfold noT at h; cases h
 | map b =>exact fun _ =>.map b
 | iface t v x _ ih =>intro h; unfold noT at h; exact .iface t v x (ih h)
 | nilif =>exact fun _ =>.nilif
 | iter b v =>exact fun _ =>.iter b v
 | sub b sz o len cap =>exact fun _ =>.sub b sz o len cap
 | subNil a b sz o cap =>exact fun _ =>.subNil a b sz o cap
 | ap0 a =>exact fun _ =>.ap0 a
 | ap a i off b h =>exact fun _ =>.ap a i off b (hn a i b h)
 | ifo0 t x =>exact fun _ =>.ifo0 t x
 | ifo1 t v x _ ih =>intro h; unfold noT at h; exact .ifo1 t v x (ih h)
def noH (es : List Nat) : HE→Bool
 | .row _ _ _ xs =>noTs es xs
 | _ =>false
theorem noT_cells {es : List Nat} {x : VV} (h : noT es x = true) : ∀ y,y ∈ x.cells→noT es y = true:=by
 intro y hy
 cases x with
 | agg cs =>unfold noT at h; exact noTs_mem h y hy
 | _ =>simp only [VV.cells,List.mem_singleton] at hy; subst hy; exact h
theorem noH_rel {es : List Nat} {D' : Cx} {h : HE} (hD : ∀ b e,D b e→es.contains e = false→D' b e) (hn : ∀ a i b,D.nm a i b→D'.nm a i b) (hf : noH es h = true) (r : HR P D w h) : HR P D' w h:=by
 cases h with
 | row b e cap xs =>
  cases b with
  | none =>exact r
  | some b =>
   obtain ⟨arr,h1,h2,h3,h4,h5,h6⟩:=r
   refine ⟨arr,h1,h2,h3,h4,h5,fun j v y hv hy =>?_⟩
   obtain ⟨x,hx,hyx⟩:=List.mem_flatMap.1 (List.mem_of_getElem? hy)
   exact noT_rd hD hn (h6 j v y hv hy) (noT_cells (noTs_mem hf x hx) y hyx)
 | _ =>simp [noH] at hf
theorem VO.callT (es : List Nat) {env' : Env} {H' : List HE} (hsh : LS es P env H env' H') (ns : List Hn) {f : FuncId} {fo : Operand} {args : Array Operand} {ats : Array TypeId} {fi ca xs : List VV} {R : VV→List HE→Prop} (hfo : ev env' fo = some (.clo (.func f) fi ca)) (hf : fnB P f = true)
  (hx : evlN env' ns args.toList = some xs) (hc : VC P f (fi++xs++ca) [] R) (kk : ∀ x H1,R x H1→noT es x = true∧(∀ h,h ∈ H1→noH es h = true)∧K x (H1++H)) : VO P N ⟨dst,.call ⟨.value fo,args,ats⟩,ty,pos,aft,g⟩ env H K:=by
 intro D w a hs hr hi next Qx hn
 obtain ⟨D1,hr1,hi1,hF1,hD1,hN1⟩:=hsh D w a.tmps hr hi
 obtain ⟨h1,h2⟩:=evlN_rel (P:=P) (D:=D1) (w:=w) hr1 ns _ _ hx
 have hrd:=ev_rd hfo hr1
 generalize hv : a.eval fo = v at hrd
 cases hrd with
 | clo fn fa cs _ _ hs1 hr1 hs2 hr2 =>
  have hrun : (execOp a.eval ⟨dst,.call ⟨.value fo,args,ats⟩,ty,pos,aft,g⟩).run P w = .ok (.enter f (fa++args.map a.eval++cs)) w:=by
   simp only [execOp,resolve,hv,Deferred.ofValue,Sem.run_bind,Sem.run_pure,Result.andThen_ok,invoke]
   exact run_callFunc hf _ w
  have hargs : ∀ (j : Nat) (v : Value) (x : VV),(fa++args.map a.eval++cs)[j]? = some v→(fi++xs++ca)[j]? = some x→Rd P D1 w v x:=by
   intro j v x hj hjx
   have e1 : fa.size = fi.length:=hs1
   have e2 : (args.map a.eval).size = xs.length:=by simpa using h1
   by_cases ha : j < fa.size
   ·rw [Array.append_assoc,Array.getElem?_append_left ha] at hj
    rw [List.append_assoc,List.getElem?_append_left (by omega)] at hjx
    exact hr1 j v x hj hjx
   ·by_cases hb : j < fa.size + (args.map a.eval).size
    ·rw [Array.getElem?_append_left (by rw [Array.size_append]; exact hb),Array.getElem?_append_right (by omega)] at hj
     rw [List.getElem?_append_left (by rw [List.length_append]; omega),List.getElem?_append_right (by omega)] at hjx
     rw [e1] at hj
     simp only [Array.getElem?_map,Option.map_eq_some_iff] at hj
     obtain ⟨o,ho,rfl⟩:=hj
     exact h2 _ o x (by simpa using ho) hjx
    ·rw [Array.getElem?_append_right (by rw [Array.size_append]; omega)] at hj
     rw [List.getElem?_append_right (by rw [List.length_append]; omega)] at hjx
     have e3 : (fa++args.map a.eval).size = (fi++xs).length:=by rw [Array.size_append,List.length_append]; omega
     rw [e3] at hj
     exact hr2 _ v x hj hjx
  unfold Oper.wp
  rw [hrun]
  have hi0 : Inv P D1 w ([]++H'):=hi1
  refine Calls.mono (hc D1 w _ ?_ hargs hi0.sub) ?_
  ·simp only [Array.size_append,List.length_append,Array.size_map]
   rw [Array.length_toList] at h1
   omega
  ·rintro e w' ⟨v,x,H1,D',rfl,hR,hrv,hi',hf'⟩
   obtain ⟨hfl,hall,hK⟩:=kk x H1 hR
   have hnw : ∀ b,b ∈ blks H1→w.heap.size≤b:=fun b hb =>by
    rcases hf'.hnew b hb with h | h
    ·cases h
    ·exact h
   -- what may be read behind: what could be read ahead,and what is new
   let D2 : Cx:=⟨fun b e =>D' b e∧(D b e∨w.heap.size≤b),fun a i b =>D.nm a i b⟩
   have hback : ∀ b e,D' b e→D1 b e∨w.heap.size≤b:=fun b e hd =>by
    rcases hf'.dnew b e hd with h | h | h
    ·exact .inl h
    ·cases h
    ·exact .inr h
   have hD2 : ∀ b e,D' b e→es.contains e = false→D2 b e:=fun b e hd he =>⟨hd,by
    rcases hback b e hd with h | h
    ·rcases hD1 b e h with h | h
     ·exact .inl h
     ·rw [h] at he; cases he
    ·exact .inr h⟩
   have hnm : ∀ a i b,D'.nm a i b→D2.nm a i b:=fun a i b hd =>by
    rcases hf'.nnew a i b hd with h | h
    ·exact hN1 a i b h
    ·cases h
   have hI0 : Inv P D2 w' H1:=⟨hi'.nodup,hi'.lt,fun b e hd =>hi'.apart b e hd.1,fun b e hd =>hi'.dlt b e hd.1,fun h hh =>noH_rel hD2 hnm (hall h hh) (hi'.rel h hh),hi'.arn⟩
   have hF0 : Fr D w [] D2 w' H1:=⟨hf'.size,hf'.prot,fun b e hd =>⟨hf'.dmono b e (hF1.dmono b e hd),.inl hd⟩,fun b e hd =>hd.2.elim .inl (fun h =>.inr (.inr h)),fun b hb =>.inr (hnw b hb),hf'.os,hf'.tape,hf'.output,fun _ _ _ h =>h,fun _ _ _ h =>.inl h,hf'.anew⟩
   have hi2 : Inv P D w ([]++H):=hi
   obtain ⟨hI,hF⟩:=hi2.frame hI0 hF0
   exact hn v x (H1++H) D2 w' hK (noT_rd hD2 hnm hrv hfl) hI hF
end
section
variable {P : Program} {N : Nat} {env : Env} {H : List HE}
def Post.sh (P : Program) (Q : Post) : Post
 | .normal,env,H =>∃ env' H',Shift P env H env' H'∧Q .normal env' H'
 | e,env,H =>Q e env H
theorem Shift.refl : Shift P env H env H:=fun D w t hr hi =>⟨D,hr,hi,Fr.refl D w H⟩
end
end Go.Proofs.YtkondhigbbgidaaGreat.V

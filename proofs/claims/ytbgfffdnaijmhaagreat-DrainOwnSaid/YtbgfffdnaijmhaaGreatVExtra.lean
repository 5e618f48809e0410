/-
  The logic over plain values: bytes of a text put behind a row, nil checks, literals by their places, typed pieces. Own text.
-/
import Derived.Test.YtbgfffdnaijmhaaGreatVPre
import Derived.Lib.AppendStr
namespace Go.Proofs.YtbgfffdnaijmhaaGreat.V
open Go Go.Lib
set_option linter.unusedVariables false
section
variable {P : Program} {N : Nat} {env : Env} {H : List HE} {K : VV→List HE→Prop} {D : Cx} {w : World}
variable {dst : Option Tmp} {ty : TypeId} {pos : String} {aft : Array Edge} {g : Option (Nat × Bool)}
theorem VP.nilCheckP {x : Operand} {b off : Nat} (hx : ev env x = some (.ptr b off)) : VP P N ⟨dst,.nilCheck x,ty,pos,aft,g⟩ env H (.ptr b off):=fun D w a hs hr hi =>by
 have hrd:=ev_rd hx hr
 generalize hv : a.eval x = v at hrd
 cases hrd with
 | ptr b off =>exact ⟨.pointer (some ⟨b,off,none⟩),fun w1 _ =>by simp only [execOp,hv]; rfl,.ptr _ _⟩
theorem VP.nilCheckE {x : Operand} {e : TypeId} {xs : List VV} (hx : ev env x = some (.eref e xs)) : VP P N ⟨dst,.nilCheck x,ty,pos,aft,g⟩ env H (.eref e xs):=fun D w a hs hr hi =>by
 have hrd:=ev_rd hx hr
 generalize hv : a.eval x = v at hrd
 cases hrd with
 | eref e xs b o q hD hc hrr =>exact ⟨.pointer (some ⟨b,o,none⟩),fun w1 _ =>by simp only [execOp,hv]; rfl,.eref e xs b o q hD hc hrr⟩
theorem VP.nilCheckR {x : Operand} {b sz i o : Nat} (hx : ev env x = some (.rref b sz i o)) : VP P N ⟨dst,.nilCheck x,ty,pos,aft,g⟩ env H (.rref b sz i o):=fun D w a hs hr hi =>by
 have hrd:=ev_rd hx hr
 generalize hv : a.eval x = v at hrd
 cases hrd with
 | rref b sz i o =>exact ⟨.pointer (some ⟨b,i * sz + o,none⟩),fun w1 _ =>by simp only [execOp,hv]; rfl,.rref _ _ _ _⟩
theorem VP.buildP {t : TypeId} {parts : Array (Nat × Operand)} {zs : List (Nat × VV)} {pl : Nat→Option (Nat × Nat)} {z cs : List VV} (hpl : plV P t = some (pl,z)) (hp : evs env parts.toList = some zs) (hb : vfill pl z zs = some cs) :
  VP P N ⟨dst,.build t parts,ty,pos,aft,g⟩ env H (.agg cs):=VP.build hp (by unfold vbuild; rw [hpl]; exact hb)
def boolop : BinOp→Bool→Bool→Option VV
 | .eql,x,y =>some (.bool (x == y))
 | .neq,x,y =>some (.bool (!(x == y)))
 | _,_,_ =>none
theorem VP.boolop {op : BinOp} {xt yt : TypeId} {x y : Operand} {s t : Bool} {z : VV} (hu : P.underlying xt = some .bool) (hx : ev env x = some (.bool s)) (hy : ev env y = some (.bool t)) (hz : V.boolop op s t = some z) : VP P N ⟨dst,.binOp op xt x y yt,ty,pos,aft,g⟩ env H z:=fun D w a hs hr hi =>by
 have h1:=rd_bool (ev_rd hx hr)
 have h2:=rd_bool (ev_rd hy hr)
 have he : ∀ w1 : World,(Op.equal xt (.bool s) (.bool t)).run P w1 = .ok (s == t) w1:=fun w1 =>by
  show (Op.equalIn Op.maxDepth xt (.bool s) (.bool t)).run P w1 = _
  have : ∃ n,Op.maxDepth = n + 1:=⟨Op.maxDepth - 1,by decide⟩
  obtain ⟨n,hn⟩:=this
  rw [hn]
  unfold Op.equalIn
  simp only [Sem.run_bind,run_underlying hu,Result.andThen_ok]
  rfl
 cases op<;>simp only [V.boolop,Option.some.injEq,reduceCtorEq] at hz<;>subst hz
 all_goals refine ⟨_,fun w1 _ =>?_,.bool _⟩
 all_goals simp only [execOp,h1,h2]
 all_goals simp [eqGuard,binOp,he]
theorem VP.sliceT {α : Type} {f : α→VV} {xs : List α} {t e : TypeId} {sz : Nat} {x : Operand} {lo hi : Option Operand} {l h : Option Int} (ht : elB P t e sz = true) (hx : ev env x = some (.list e (xs.map f))) (hl : evO env lo = some l) (hh : evO env hi = some h) (l0 : nonneg l)
  (h0 : nonneg h) (h1 : lowN l≤highN xs.length h) (h2 : highN xs.length h≤xs.length) : VP P N ⟨dst,.slice t x lo hi none,ty,pos,aft,g⟩ env H (.list e (((xs.take (highN xs.length h)).drop (lowN l)).map f)):=by
 have e1 : (xs.map f).length = xs.length:=List.length_map ..
 have:=VP.sliceL (P:=P) (N:=N) (H:=H) (dst:=dst) (ty:=ty) (pos:=pos) (aft:=aft) (g:=g) ht hx hl hh l0 h0 (by rw [e1]; exact h1) (by rw [e1]; exact h2)
 rw [e1] at this
 rw [List.map_drop,List.map_take]
 exact this
theorem Shift.envs {env' : Env} (he : ∀ s x,get env' s = some x→get env s = some x) : Shift P env H env' H:=fun D w t hr hi =>⟨D,fun s x hx =>hr s x (he s x hx),hi,Fr.refl D w H⟩
theorem sc_get {d : Nat} {e : VV} {pre : Env} (hp : (pre.all fun p =>(get env p.1).isNone) = true) : ∀ s x,get ((d,e) :: env) s = some x→get ((d,e) :: (pre++env)) s = some x:=by
 intro s x h
 simp only [get] at h ⊢
 split
 ·rename_i q; rw [if_pos q] at h; exact h
 ·rename_i q
  rw [if_neg q] at h
  rw [get_app_none]
  ·exact h
  ·clear q
   induction pre with
   | nil =>rfl
   | cons p r ih =>
    obtain ⟨u,y⟩:=p
    simp only [List.all_cons,Bool.and_eq_true] at hp
    simp only [get]
    split
    ·rename_i q
     have : s = u:=by simpa using q
     subst this
     rw [h] at hp
     simp at hp
    ·exact ih hp.2
theorem VR.sc {ops : Array Oper} {l : List Oper} {L : Env→List HE→Prop} (n d : Nat) (e : VV)
  (h1 : ∀ K',(∀ (pre : Env) (x : VV),(pre.all fun p =>(get env p.1).isNone) = true→x = e→VR P N ops (l.drop n) K' ((d,x) :: (pre++env)) H)→VR P N ops l K' env H)
  (h2 : VR P N ops (l.drop n) L ((d,e) :: env) H) : VR P N ops l L env H:=by
 refine h1 L fun pre x hp hx =>?_
 subst hx
 exact VR.shift (Shift.envs (sc_get hp)) h2
theorem VA.sc {ops : Array Oper} {Hm Hp : List HE} {L : Env→List HE→Prop} (dn2 : List Nat) (d : Nat) (e : VV) {dn : List Nat}
  (h1 : ∀ K',(∀ (pre : Env) (x : VV),(pre.all fun p =>(get env p.1).isNone) = true→x = e→VA P N ops K' dn2 ((d,x) :: (pre++env)) Hm Hp)→VA P N ops K' dn env Hm Hp)
  (h2 : VA P N ops L dn2 ((d,e) :: env) Hm Hp) : VA P N ops L dn env Hm Hp:=by
 refine h1 L fun pre x hp hx =>?_
 subst hx
 exact fun D w a hs hr hi =>h2 D w a hs (fun s x hx =>hr s x (sc_get hp s x hx)) hi
theorem VP.gi {t : TypeId} {x ix : Operand} {s : ByteArray} {kd : IntKind} {n c : Int} (hx : ev env x = some (.str s)) (hi : ev env ix = some (.int kd n)) (ht : P.underlying t = some .string) (h : V.gi s n = some c) :
  VP P N ⟨dst,.index t x ix,ty,pos,aft,g⟩ env H (.int .u8 c):=by
 obtain ⟨⟨h0,h1⟩,rfl⟩:=gi_some h
 exact VP.indexS hx hi ht h0 h1
theorem VP.ssT {t : TypeId} {x : Operand} {lo hi : Option Operand} {s u : ByteArray} {l h : Option Int} (hx : ev env x = some (.str s)) (hl : evO env lo = some l) (hh : evO env hi = some h) (ht : P.underlying t = some .string) (hs : ss s l h = some u) :
  VP P N ⟨dst,.slice t x lo hi none,ty,pos,aft,g⟩ env H (.str u):=by
 obtain ⟨⟨h0,h1⟩,⟨h2,h3⟩,rfl⟩:=ss_some hs
 exact VP.sliceS ht hx hl hh h0 h1 h2 h3
theorem VP.slT {α : Type} {f : α→VV} {xs u : List α} {t e : TypeId} {sz : Nat} {x : Operand} {lo hi : Option Operand} {l h : Option Int} (hx : ev env x = some (.list e (xs.map f))) (hl : evO env lo = some l) (hh : evO env hi = some h) (ht : elB P t e sz = true) (hs : V.sl xs l h = some u) :
  VP P N ⟨dst,.slice t x lo hi none,ty,pos,aft,g⟩ env H (.list e (u.map f)):=by
 obtain ⟨⟨h0,h1⟩,⟨h2,h3⟩,rfl⟩:=sl_some hs
 exact VP.sliceT ht hx hl hh h0 h1 h2 h3
theorem VP.catT {xt yt : TypeId} {x y : Operand} {s t u : ByteArray} (hx : ev env x = some (.str s)) (hy : ev env y = some (.str t)) (h : cat s t = some u) : VP P N ⟨dst,.binOp .add xt x y yt,ty,pos,aft,g⟩ env H (.str u):=by
 obtain ⟨h1,rfl⟩:=cat_some h
 exact VP.concat hx hy h1
theorem VP.quoT {xt yt : TypeId} {x y : Operand} {k : IntKind} {n m c : Int} (hx : ev env x = some (.int k n)) (hy : ev env y = some (.int k m)) (h : V.quo n m = some c) : VP P N ⟨dst,.binOp .quo xt x y yt,ty,pos,aft,g⟩ env H (.int k (k.wrap c)):=by
 obtain ⟨h1,rfl⟩:=quo_some h
 exact VP.quo hx hy h1
theorem VP.remT {xt yt : TypeId} {x y : Operand} {k : IntKind} {n m c : Int} (hx : ev env x = some (.int k n)) (hy : ev env y = some (.int k m)) (h : V.rem n m = some c) : VP P N ⟨dst,.binOp .rem xt x y yt,ty,pos,aft,g⟩ env H (.int k c):=by
 obtain ⟨h1,rfl⟩:=rem_some h
 exact VP.rem hx hy h1
theorem VP.glE {α : Type} (f : α→VV) {l : List α} {v : α} {t : TypeId} {x ix : Operand} {e : TypeId} {sz : Nat} {kd : IntKind} {n : Int} (hx : ev env x = some (.list e (l.map f))) (hi : ev env ix = some (.int kd n)) (ht : elB P t e sz = true) (h : gl l n = some v) :
  VP P N ⟨dst,.indexAddr t x ix,ty,pos,aft,g⟩ env H (.eref e (f v).cells):=by
 have:=gl_some h
 exact VP.indexE hx hi ht this.1 (gl_map f this.2)
theorem VP.glK {α : Type} (f : α→VV) {l : List α} {v : α} {t : TypeId} {x ix : Operand} {e : TypeId} {sz k : Nat} {kd : IntKind} (hx : ev env x = some (.list e (l.map f))) (hi : ev env ix = some (.int kd (k : Int))) (ht : elB P t e sz = true) (h : l[k]? = some v) :
  VP P N ⟨dst,.indexAddr t x ix,ty,pos,aft,g⟩ env H (.eref e (f v).cells) :=
 VP.indexE hx hi ht (Int.natCast_nonneg _) (gl_map f (by simpa using h))
theorem VP.glR {α : Type} (f : α→VV) {l : List α} {v : α} {t : TypeId} {x ix : Operand} {e : TypeId} {sz b cap : Nat} {kd : IntKind} {n : Int} (hx : ev env x = some (.sl (some b) (l.map f).length cap)) (hi : ev env ix = some (.int kd n)) (ht : elB P t e sz = true) (h : gl l n = some v) :
  VP P N ⟨dst,.indexAddr t x ix,ty,pos,aft,g⟩ env H (.rref b sz n.toNat 0):=by
 have:=gl_some h
 exact VP.indexR hx hi ht this.1 (gl_lt f this)
theorem VP.lenT {α : Type} (f : α→VV) {l : List α} {x : Operand} {t e e' : TypeId} (hx : ev env x = some (.list e' (l.map f))) (ht : P.underlying t = some (.slice e)) : VP P N ⟨dst,.call ⟨.builtin .len,#[x],#[t]⟩,ty,pos,aft,g⟩ env H (.int .i64 (l.length : Int)):=by
 have:=VP.lenL (P:=P) (N:=N) (H:=H) (dst:=dst) (ty:=ty) (pos:=pos) (aft:=aft) (g:=g) hx ht
 rw [List.length_map] at this
 exact this
theorem VP.lenRT {α : Type} (f : α→VV) {l : List α} {x : Operand} {t e : TypeId} {b : Option Nat} {cap : Nat} (hx : ev env x = some (.sl b (l.map f).length cap)) (ht : P.underlying t = some (.slice e)) : VP P N ⟨dst,.call ⟨.builtin .len,#[x],#[t]⟩,ty,pos,aft,g⟩ env H (.int .i64 (l.length : Int)):=by
 have:=VP.lenR (P:=P) (N:=N) (H:=H) (dst:=dst) (ty:=ty) (pos:=pos) (aft:=aft) (g:=g) hx ht
 rw [List.length_map] at this
 exact this
theorem VO.apT {α : Type} (i : Nat) (f : α→VV) {l l2 u : List α} {t e : TypeId} {s x : Operand} {sz by_ : Nat} {ob : Option Nat} {cap : Nat} (ht : apB P t e sz by_ = true) (hs : ev env s = some (.sl ob (l.map f).length cap))
  (hh : H[i]? = some (.row ob e cap (l.map f))) (hx : ∀ (D : Cx) (w : World) (a : Act),RE P D w env a.tmps→Inv P D w H→SrcV P D w sz (a.eval x) (l2.map f)) (h : ap by_ l l2 = some u)
  (k : ∀ ob' cap',K (.sl ob' (u.map f).length cap') (H.set i (.row ob' e cap' (u.map f)))) : VO P N ⟨dst,.call ⟨.builtin .append,#[s,x],#[t,t]⟩,ty,pos,aft,g⟩ env H K:=by
 obtain ⟨⟨h1,h2⟩,rfl⟩:=ap_some h
 exact VO.appendT ht hs hh hx h1 h2 k
theorem sT_row {α : Type} (j : Nat) (f : α→VV) {x : Operand} {e : TypeId} {sz : Nat} {ob : Option Nat} {cap : Nat} {l : List α} {t : TypeId} (ht : elB P t e sz = true) (hx : ev env x = some (.sl ob (l.map f).length cap)) (hh : H[j]? = some (.row ob e cap (l.map f))) :
  ∀ (D : Cx) (w : World) (a : Act),RE P D w env a.tmps→Inv P D w H→SrcV P D w sz (a.eval x) (l.map f):=src_row (elB_cells ht) hx hh
theorem sT_list {α : Type} (f : α→VV) {x : Operand} {e : TypeId} {sz : Nat} {l : List α} {t : TypeId} (ht : elB P t e sz = true) (h0 : Nat.blt 0 sz = true) (hx : ev env x = some (.list e (l.map f))) :
  ∀ (D : Cx) (w : World) (a : Act),RE P D w env a.tmps→Inv P D w H→SrcV P D w sz (a.eval x) (l.map f):=src_list (elB_cells ht) (by have:=h0; simp [Nat.blt] at this; omega) hx
def evl (env : Env) : List Operand→Option (List VV)
 | [] =>some []
 | x :: r =>match ev env x,evl env r with
  | some z,some zs =>some (z :: zs)
  | _,_ =>none
theorem evl_mapM : ∀ (l : List Operand),evl env l = l.mapM (ev env)
 | [] =>rfl
 | x :: r =>by
  simp only [evl,List.mapM_cons,evl_mapM r]
  cases ev env x<;>cases r.mapM (ev env)<;>rfl
theorem VO.callK (k : Nat) {f : FuncId} {fo : Operand} {args : Array Operand} {ats : Array TypeId} {fi ca xs : List VV} {R : VV→List HE→Prop} (hfo : ev env fo = some (.clo (.func f) fi ca)) (hf : fnB P f = true)
  (hx : evl env args.toList = some xs) (hc : VC P f (fi++xs++ca) (H.take k) R) (kk : ∀ x H1,R x H1→K x (H1++H.drop k)) : VO P N ⟨dst,.call ⟨.value fo,args,ats⟩,ty,pos,aft,g⟩ env H K:=by
 have:=VO.call (N:=N) (H2:=H.drop k) (K:=K) (dst:=dst) (ty:=ty) (pos:=pos) (aft:=aft) (g:=g) (ats:=ats) hfo hf (by rw [← evl_mapM]; exact hx) hc kk
 rw [List.take_append_drop] at this
 exact this
theorem VW.drawK (k : Nat) {id : Nat} {l : List Oper} {Q : Post} (hm : P.follows .mixedOrders = true) (h : VA P N l.toArray (fun env H =>Q .normal env H) [] env (H.take k) (H.drop k)) :
  VW P N (.region id l.toArray true) Q env H:=by
 have:=VW.draw (id:=id) hm h
 rw [List.take_append_drop] at this
 exact this
end
end Go.Proofs.YtbgfffdnaijmhaaGreat.V

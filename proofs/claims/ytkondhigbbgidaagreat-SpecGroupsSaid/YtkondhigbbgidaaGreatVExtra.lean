/-
  The logic over plain values: bytes of a text put behind a row, nil checks, literals by their places, typed pieces. Own text.
-/
import Derived.Test.YtkondhigbbgidaaGreatVPre
import Derived.Lib.AppendStr
namespace Go.Proofs.YtkondhigbbgidaaGreat.V
open Go Go.Lib
set_option linter.unusedVariables false
section
variable {P : Program} {N : Nat} {env : Env} {H : List HE} {K : VV→List HE→Prop} {D : Cx} {w : World}
variable {dst : Option Tmp} {ty : TypeId} {pos : String} {aft : Array Edge} {g : Option (Nat × Bool)}
theorem VP.nilCheckP {x : Operand} {b off : Nat} (hx : ev env x = some (.ptr b off)) : VP P N ⟨dst,.nilCheck x,ty,pos,aft,g⟩ env H (.ptr b off):=fun D w a hs hr hi =>by
 have hrd:=ev_rd hx hr
 generalize hv : a.eval x = v at hrd
 cases hrd with
 | ptr b off =>exact ⟨.pointer (some ⟨b,off,none⟩),fun w1 _ =>by simp only [execOp,hv]; rfl,.ptr _ _⟩
theorem VP.nilCheckE {x : Operand} {e : TypeId} {xs : List VV} (hx : ev env x = some (.eref e xs)) : VP P N ⟨dst,.nilCheck x,ty,pos,aft,g⟩ env H (.eref e xs):=fun D w a hs hr hi =>by
 have hrd:=ev_rd hx hr
 generalize hv : a.eval x = v at hrd
 cases hrd with
 | eref e xs b o q hD hc hrr =>exact ⟨.pointer (some ⟨b,o,none⟩),fun w1 _ =>by simp only [execOp,hv]; rfl,.eref e xs b o q hD hc hrr⟩
theorem VP.nilCheckR {x : Operand} {b sz i o : Nat} (hx : ev env x = some (.rref b sz i o)) : VP P N ⟨dst,.nilCheck x,ty,pos,aft,g⟩ env H (.rref b sz i o):=fun D w a hs hr hi =>by
 have hrd:=ev_rd hx hr
 generalize hv : a.eval x = v at hrd
 cases hrd with
 | rref b sz i o =>exact ⟨.pointer (some ⟨b,i * sz + o,none⟩),fun w1 _ =>by simp only [execOp,hv]; rfl,.rref _ _ _ _⟩
theorem VP.buildP {t : TypeId} {parts : Array (Nat × Operand)} {zs : List (Nat × VV)} {pl : Nat→Option (Nat × Nat)} {z cs : List VV} (hpl : plV P t = some (pl,z)) (hp : evs env parts.toList = some zs) (hb : vfill pl z zs = some cs) :
  VP P N ⟨dst,.build t parts,ty,pos,aft,g⟩ env H (.agg cs):=VP.build hp (by unfold vbuild; rw [hpl]; exact hb)
def boolop : BinOp→Bool→Bool→Option VV
 | .eql,x,y =>some (.bool (x == y))
 | .neq,x,y =>some (.bool (!(x == y)))
 | _,_,_ =>none
theorem VP.boolop {op : BinOp} {xt yt : TypeId} {x y : Operand} {s t : Bool} {z : VV} (hu : P.underlying xt = some .bool) (hx : ev env x = some (.bool s)) (hy : ev env y = some (.bool t)) (hz : V.boolop op s t = some z) : VP P N ⟨dst,.binOp op xt x y yt,ty,pos,aft,g⟩ env H z:=fun D w a hs hr hi =>by
 have h1:=rd_bool (ev_rd hx hr)
 have h2:=rd_bool (ev_rd hy hr)
 have he : ∀ w1 : World,(Op.equal xt (.bool s) (.bool t)).run P w1 = .ok (s == t) w1:=fun w1 =>by
  show (Op.equalIn Op.maxDepth xt (.bool s) (.bool t)).run P w1 = _
  have : ∃ n,Op.maxDepth = n + 1:=⟨Op.maxDepth - 1,by decide⟩
  obtain ⟨n,hn⟩:=this
  rw [hn]
  unfold Op.equalIn
  simp only [Sem.run_bind,run_underlying hu,Result.andThen_ok]
  rfl
 cases op<;>simp only [V.boolop,Option.some.injEq,reduceCtorEq] at hz<;>subst hz
 all_goals refine ⟨_,fun w1 _ =>?_,.bool _⟩
 all_goals simp only [execOp,h1,h2]
 all_goals simp [eqGuard,binOp,he]
theorem VP.sliceT {α : Type} {f : α→VV} {xs : List α} {t e : TypeId} {sz : Nat} {x : Operand} {lo hi : Option Operand} {l h : Option Int} (ht : elB P t e sz = true) (hx : ev env x = some (.list e (xs.map f))) (hl : evO env lo = some l) (hh : evO env hi = some h) (l0 : nonneg l)
  (h0 : nonneg h) (h1 : lowN l≤highN xs.length h) (h2 : highN xs.length h≤xs.length) : VP P N ⟨dst,.slice t x lo hi none,ty,pos,aft,g⟩ env H (.list e (((xs.take (highN xs.length h)).drop (lowN l)).map f)):=by
 have e1 : (xs.map f).length = xs.length:=List.length_map ..
 have:=VP.sliceL (P:=P) (N:=N) (H:=H) (dst:=dst) (ty:=ty) (pos:=pos) (aft:=aft) (g:=g) ht hx hl hh l0 h0 (by rw [e1]; exact h1) (by rw [e1]; exact h2)
 rw [e1] at this
 rw [List.map_drop,List.map_take]
 exact this
theorem VO.sliceRT {α : Type} {f : α→VV} {xs : List α} {t e : TypeId} {sz : Nat} {x : Operand} {hi : Operand} {ob : Option Nat} {cap i : Nat} {kd : IntKind} {n : Int} (ht : elB P t e sz = true) (hx : ev env x = some (.sl ob (xs.map f).length cap)) (hh : H[i]? = some (.row ob e cap (xs.map f)))
  (hn : ev env hi = some (.int kd n)) (h0 : 0≤n) (h1 : n≤xs.length) (k : K (.sl ob ((xs.take n.toNat).map f).length cap) (H.set i (.row ob e cap ((xs.take n.toNat).map f)))) : VO P N ⟨dst,.slice t x none (some hi) none,ty,pos,aft,g⟩ env H K:=by
 refine VO.sliceR ht hx hh hn h0 (by simpa using h1) ?_
 rw [List.map_take] at k
 exact k
theorem flat_bytes : ∀ (l : List UInt8),flat (l.map fun b =>VV.int .u8 (b.toNat : Int)) = l.map fun b =>VV.int .u8 (b.toNat : Int)
 | [] =>rfl
 | n :: l =>by rw [List.map_cons,flat_cons,flat_bytes l]; rfl
theorem VO.appendS {l : List Int} {t u e : TypeId} {s x : Operand} {tx : ByteArray} {ob : Option Nat} {cap i : Nat} (ht : apB P t e 1 1 = true) (hz' : (P.info? e).bind (·.zero) = some (.int .u8 0)) (hu : P.underlying u = some .string)
  (hs : ev env s = some (.sl ob (l.map (VV.int .u8)).length cap)) (hh : H[i]? = some (.row ob e cap (l.map (VV.int .u8)))) (hx : ev env x = some (.str tx))
  (h1 : l.length + (bytesL tx).length≤maxLen) (h2 : (l.length + (bytesL tx).length) * 1≤140737488355328)
  (k : ∀ ob' cap',K (.sl ob' ((l++bytesL tx).map (VV.int .u8)).length cap') (H.set i (.row ob' e cap' ((l++bytesL tx).map (VV.int .u8))))) : VO P N ⟨dst,.call ⟨.builtin .append,#[s,x],#[t,u]⟩,ty,pos,aft,g⟩ env H K:=by
 intro D w a hsz hr hi next Qx hn
 have hsc:=elB_cells (apB_el ht)
 have hrow:=hi.rel _ (List.mem_of_getElem? hh)
 obtain ⟨vals,ho,hob,hl,hel,hrd⟩:=row_owns hsc hrow (ev_rd hs hr) (row_exact hsc rfl hrow)
 obtain ⟨ie,z,hie,hze,hs1,hb1,hzs,hp⟩:=apB_info ht
 have hz0 : z = .int .u8 0:=by simpa [hie,hze] using hz'
 subst hz0
 have hut:=elB_und (apB_el ht)
 have hsl : (bytesL tx).length = tx.size:=by simp [bytesL]
 have hxs:=rd_str (ev_rd hx hr)
 rw [hsl] at h1 h2
 rw [Nat.mul_one] at h2
 have hlen : (l.map (VV.int .u8)).length = l.length:=List.length_map ..
 obtain ⟨v',w',g1,g2,g3,g4⟩:=run_append_own_string (P:=P) w 0 t u ty e ie hut hu hie hze hs1 hb1 (a.eval s) _ vals ho tx (by rw [hlen]; exact h1) (by rw [hlen]; exact h2) (Nat.zero_le _)
 have g5 : v'.ownBlock = (a.eval s).ownBlock∨v'.ownBlock = some w.heap.size:=by
  have hrs:=ev_rd hs hr
  cases ob with
  | none =>
   obtain ⟨e1,e2⟩:=hrow
   simp at e1
   subst e1; subst e2
   generalize hv : a.eval s = v at *
   cases hrs
   by_cases hm : tx.size = 0
   ·exact .inl (by rw [g4.2 ⟨rfl,hm⟩])
   ·have:=run_append_nil_string (P:=P) w t u ty e ie (.int .u8 0) hut hu hie hze tx (by omega) (by simp at h1; unfold maxLen at h1; omega) (by rw [hb1]; simp at h2; omega)
    rw [this] at g1
    simp only [Result.ok.injEq] at g1
    exact .inr (by rw [← g1.1]; rfl)
  | some b =>
   obtain ⟨arr,r1,r2,r3,r4,r5,r6⟩:=hrow
   generalize hv : a.eval s = v at *
   cases hrs
   rw [hsc,Nat.mul_one] at r2
   rw [hlen] at r3 g1
   by_cases hroom : l.length + tx.size≤cap
   ·have:=run_append_room_string (P:=P) w t u ty e ie hut hu hie hs1 b l.length cap arr r1 tx hroom (by omega)
    rw [this] at g1
    simp only [Result.ok.injEq] at g1
    exact .inl (by rw [← g1.1]; rfl)
   ·have holds : ∀ j u,vals[j]? = some u→w.cell? ((⟨b,0,none⟩ : Addr).add j) = some u:=ho.cells (g:=b) rfl
    have hvl : vals.length = l.length * ie.size:=by rw [hl,hlen,hs1]
    have:=run_append_grow_string (P:=P) w t u ty e ie (.int .u8 0) hut hu hie hze ⟨b,0,none⟩ l.length cap vals hvl holds tx (by omega) (by unfold maxLen at h1; omega) (by rw [hb1]; exact growslice_fits (by omega) (by omega))
    rw [this] at g1
    simp only [Result.ok.injEq] at g1
    exact .inr (by rw [← g1.1]; rfl)
 have hrun : (execOp a.eval ⟨dst,.call ⟨.builtin .append,#[s,x],#[t,u]⟩,ty,pos,aft,g⟩).run P w = .ok (.value v') w':=by
  rw [← hxs] at g1
  simp [execOp,resolve,invoke,builtin,g1]
 refine wp_value_of hrun ?_
 have hD : ∀ b e,D b e→w'.heap[b]? = w.heap[b]?:=fun b e' hd =>g3.block b (hi.dlt b e' hd) (fun e2 =>by
  rw [hob] at e2
  exact hi.apart b e' hd (mem_blks (List.mem_of_getElem? hh) (by rw [← e2]; simp [HE.bl])))
 have hbl : (bytesL tx).map (VV.int .u8) = tx.data.toList.map fun b =>VV.int .u8 (b.toNat : Int):=bytesL_get tx
 have hflb : flat ((bytesL tx).map (VV.int .u8)) = tx.data.toList.map fun b =>VV.int .u8 (b.toNat : Int):=by rw [hbl,flat_bytes]
 have g7 : ∀ (j : Nat) (u : Value) (y : VV),(strCells tx)[j]? = some u→(flat ((bytesL tx).map (VV.int .u8)))[j]? = some y→Rd P D w' u y:=by
  intro j u y hu hy
  rw [hflb] at hy
  unfold strCells at hu
  simp only [List.getElem?_map,Option.map_eq_some_iff] at hu hy
  obtain ⟨c,hc,rfl⟩:=hu
  obtain ⟨c',hc',rfl⟩:=hy
  rw [hc] at hc'
  simp only [Option.some.injEq] at hc'
  subst hc'
  exact .int _ _
 have hall:=rel_append (n:=0) (P:=P) (D:=D) (w':=w') (by rw [hl,flat_length hel]) (fun j u y hu hy =>(hrd j u y hu hy).mono (fun _ _ h =>h) (fun _ _ _ h =>h) hD) g7
 have helb : ∀ y,y ∈ (bytesL tx).map (VV.int .u8)→y.el 1:=by
  intro y hy
  obtain ⟨n,_,rfl⟩:=List.mem_map.1 hy
  exact ⟨rfl,fun q hq =>by simp [VV.cells] at hq; subst hq; rfl⟩
 obtain ⟨cap',q1,q2,q3⟩:=owns_row (P:=P) (D:=D) hsc g2 (xs:=l.map (VV.int .u8)++(bytesL tx).map (VV.int .u8)) (by rw [List.length_append,List.length_map,List.length_map,hsl])
  (fun x hx =>by rcases List.mem_append.1 hx with h | h; exact hel x h; exact helb x h) hall
 obtain ⟨hI,hF⟩:=hi.turnAt (w':=w') (h':=.row v'.ownBlock e cap' (l.map (VV.int .u8)++(bytesL tx).map (VV.int .u8))) hh g3.size g3.os g3.tape g3.output (fun k' hk hne =>g3.block k' hk (by rw [hob]; exact hne))
  (fun b hb =>⟨by
   simp only [HE.blk] at hb ⊢
   rcases g5 with h | h
   ·rw [h,hob] at hb; exact .inl hb
   ·rw [h,Option.some.injEq] at hb; exact .inr (by omega),q3 b hb⟩) q1
 have kk:=k v'.ownBlock cap'
 rw [List.map_append] at kk
 have e3 : (l.map (VV.int .u8)++(bytesL tx).map (VV.int .u8)).length = (l.map (VV.int .u8)).length + tx.size:=by rw [List.length_append,List.length_map,List.length_map,hsl]
 rw [e3] at kk
 exact hn v' _ _ D w' kk q2 hI hF
theorem Shift.envs {env' : Env} (he : ∀ s x,get env' s = some x→get env s = some x) : Shift P env H env' H:=fun D w t hr hi =>⟨D,fun s x hx =>hr s x (he s x hx),hi,Fr.refl D w H⟩
theorem sc_get {d : Nat} {e : VV} {pre : Env} (hp : (pre.all fun p =>(get env p.1).isNone) = true) : ∀ s x,get ((d,e) :: env) s = some x→get ((d,e) :: (pre++env)) s = some x:=by
 intro s x h
 simp only [get] at h ⊢
 split
 ·rename_i q; rw [if_pos q] at h; exact h
 ·rename_i q
  rw [if_neg q] at h
  rw [get_app_none]
  ·exact h
  ·clear q
   induction pre with
   | nil =>rfl
   | cons p r ih =>
    obtain ⟨u,y⟩:=p
    simp only [List.all_cons,Bool.and_eq_true] at hp
    simp only [get]
    split
    ·rename_i q
     have : s = u:=by simpa using q
     subst this
     rw [h] at hp
     simp at hp
    ·exact ih hp.2
theorem VR.sc {ops : Array Oper} {l : List Oper} {L : Env→List HE→Prop} (n d : Nat) (e : VV)
  (h1 : ∀ K',(∀ (pre : Env) (x : VV),(pre.all fun p =>(get env p.1).isNone) = true→x = e→VR P N ops (l.drop n) K' ((d,x) :: (pre++env)) H)→VR P N ops l K' env H)
  (h2 : VR P N ops (l.drop n) L ((d,e) :: env) H) : VR P N ops l L env H:=by
 refine h1 L fun pre x hp hx =>?_
 subst hx
 exact VR.shift (Shift.envs (sc_get hp)) h2
theorem VA.sc {ops : Array Oper} {Hm Hp : List HE} {L : Env→List HE→Prop} (dn2 : List Nat) (d : Nat) (e : VV) {dn : List Nat}
  (h1 : ∀ K',(∀ (pre : Env) (x : VV),(pre.all fun p =>(get env p.1).isNone) = true→x = e→VA P N ops K' dn2 ((d,x) :: (pre++env)) Hm Hp)→VA P N ops K' dn env Hm Hp)
  (h2 : VA P N ops L dn2 ((d,e) :: env) Hm Hp) : VA P N ops L dn env Hm Hp:=by
 refine h1 L fun pre x hp hx =>?_
 subst hx
 exact fun D w a hs hr hi =>h2 D w a hs (fun s x hx =>hr s x (sc_get hp s x hx)) hi
theorem andT {b x : Bool} (h : b = true) : VV.bool x = VV.bool (b && x):=by subst h; rfl
theorem orT {b x : Bool} (h : b = true) : VV.bool true = VV.bool (b || x):=by subst h; rfl
theorem VP.gi {t : TypeId} {x ix : Operand} {s : ByteArray} {kd : IntKind} {n c : Int} (hx : ev env x = some (.str s)) (hi : ev env ix = some (.int kd n)) (ht : P.underlying t = some .string) (h : V.gi s n = some c) :
  VP P N ⟨dst,.index t x ix,ty,pos,aft,g⟩ env H (.int .u8 c):=by
 obtain ⟨⟨h0,h1⟩,rfl⟩:=gi_some h
 exact VP.indexS hx hi ht h0 h1
theorem VP.ssT {t : TypeId} {x : Operand} {lo hi : Option Operand} {s u : ByteArray} {l h : Option Int} (hx : ev env x = some (.str s)) (hl : evO env lo = some l) (hh : evO env hi = some h) (ht : P.underlying t = some .string) (hs : ss s l h = some u) :
  VP P N ⟨dst,.slice t x lo hi none,ty,pos,aft,g⟩ env H (.str u):=by
 obtain ⟨⟨h0,h1⟩,⟨h2,h3⟩,rfl⟩:=ss_some hs
 exact VP.sliceS ht hx hl hh h0 h1 h2 h3
theorem VP.slT {α : Type} {f : α→VV} {xs u : List α} {t e : TypeId} {sz : Nat} {x : Operand} {lo hi : Option Operand} {l h : Option Int} (hx : ev env x = some (.list e (xs.map f))) (hl : evO env lo = some l) (hh : evO env hi = some h) (ht : elB P t e sz = true) (hs : V.sl xs l h = some u) :
  VP P N ⟨dst,.slice t x lo hi none,ty,pos,aft,g⟩ env H (.list e (u.map f)):=by
 obtain ⟨⟨h0,h1⟩,⟨h2,h3⟩,rfl⟩:=sl_some hs
 exact VP.sliceT ht hx hl hh h0 h1 h2 h3
theorem VP.catT {xt yt : TypeId} {x y : Operand} {s t u : ByteArray} (hx : ev env x = some (.str s)) (hy : ev env y = some (.str t)) (h : cat s t = some u) : VP P N ⟨dst,.binOp .add xt x y yt,ty,pos,aft,g⟩ env H (.str u):=by
 obtain ⟨h1,rfl⟩:=cat_some h
 exact VP.concat hx hy h1
theorem VP.quoT {xt yt : TypeId} {x y : Operand} {k : IntKind} {n m c : Int} (hx : ev env x = some (.int k n)) (hy : ev env y = some (.int k m)) (h : V.quo n m = some c) : VP P N ⟨dst,.binOp .quo xt x y yt,ty,pos,aft,g⟩ env H (.int k (k.wrap c)):=by
 obtain ⟨h1,rfl⟩:=quo_some h
 exact VP.quo hx hy h1
theorem VP.remT {xt yt : TypeId} {x y : Operand} {k : IntKind} {n m c : Int} (hx : ev env x = some (.int k n)) (hy : ev env y = some (.int k m)) (h : V.rem n m = some c) : VP P N ⟨dst,.binOp .rem xt x y yt,ty,pos,aft,g⟩ env H (.int k c):=by
 obtain ⟨h1,rfl⟩:=rem_some h
 exact VP.rem hx hy h1
theorem VP.glE {α : Type} (f : α→VV) {l : List α} {v : α} {t : TypeId} {x ix : Operand} {e : TypeId} {sz : Nat} {kd : IntKind} {n : Int} (hx : ev env x = some (.list e (l.map f))) (hi : ev env ix = some (.int kd n)) (ht : elB P t e sz = true) (h : gl l n = some v) :
  VP P N ⟨dst,.indexAddr t x ix,ty,pos,aft,g⟩ env H (.eref e (f v).cells):=by
 have:=gl_some h
 exact VP.indexE hx hi ht this.1 (gl_map f this.2)
theorem VP.glK {α : Type} (f : α→VV) {l : List α} {v : α} {t : TypeId} {x ix : Operand} {e : TypeId} {sz k : Nat} {kd : IntKind} (hx : ev env x = some (.list e (l.map f))) (hi : ev env ix = some (.int kd (k : Int))) (ht : elB P t e sz = true) (h : l[k]? = some v) :
  VP P N ⟨dst,.indexAddr t x ix,ty,pos,aft,g⟩ env H (.eref e (f v).cells) :=
 VP.indexE hx hi ht (Int.natCast_nonneg _) (gl_map f (by simpa using h))
theorem VP.glR {α : Type} (f : α→VV) {l : List α} {v : α} {t : TypeId} {x ix : Operand} {e : TypeId} {sz b cap : Nat} {kd : IntKind} {n : Int} (hx : ev env x = some (.sl (some b) (l.map f).length cap)) (hi : ev env ix = some (.int kd n)) (ht : elB P t e sz = true) (h : gl l n = some v) :
  VP P N ⟨dst,.indexAddr t x ix,ty,pos,aft,g⟩ env H (.rref b sz n.toNat 0):=by
 have:=gl_some h
 exact VP.indexR hx hi ht this.1 (gl_lt f this)
theorem VP.lenT {α : Type} (f : α→VV) {l : List α} {x : Operand} {t e e' : TypeId} (hx : ev env x = some (.list e' (l.map f))) (ht : P.underlying t = some (.slice e)) : VP P N ⟨dst,.call ⟨.builtin .len,#[x],#[t]⟩,ty,pos,aft,g⟩ env H (.int .i64 (l.length : Int)):=by
 have:=VP.lenL (P:=P) (N:=N) (H:=H) (dst:=dst) (ty:=ty) (pos:=pos) (aft:=aft) (g:=g) hx ht
 rw [List.length_map] at this
 exact this
theorem VP.lenRT {α : Type} (f : α→VV) {l : List α} {x : Operand} {t e : TypeId} {b : Option Nat} {cap : Nat} (hx : ev env x = some (.sl b (l.map f).length cap)) (ht : P.underlying t = some (.slice e)) : VP P N ⟨dst,.call ⟨.builtin .len,#[x],#[t]⟩,ty,pos,aft,g⟩ env H (.int .i64 (l.length : Int)):=by
 have:=VP.lenR (P:=P) (N:=N) (H:=H) (dst:=dst) (ty:=ty) (pos:=pos) (aft:=aft) (g:=g) hx ht
 rw [List.length_map] at this
 exact this
theorem VO.apT {α : Type} (i : Nat) (f : α→VV) {l l2 u : List α} {t e : TypeId} {s x : Operand} {sz by_ : Nat} {ob : Option Nat} {cap : Nat} (ht : apB P t e sz by_ = true) (hs : ev env s = some (.sl ob (l.map f).length cap))
  (hh : H[i]? = some (.row ob e cap (l.map f))) (hx : ∀ (D : Cx) (w : World) (a : Act),RE P D w env a.tmps→Inv P D w H→SrcV P D w sz (a.eval x) (l2.map f)) (h : ap by_ l l2 = some u)
  (k : ∀ ob' cap',K (.sl ob' (u.map f).length cap') (H.set i (.row ob' e cap' (u.map f)))) : VO P N ⟨dst,.call ⟨.builtin .append,#[s,x],#[t,t]⟩,ty,pos,aft,g⟩ env H K:=by
 obtain ⟨⟨h1,h2⟩,rfl⟩:=ap_some h
 exact VO.appendT ht hs hh hx h1 h2 k
theorem VO.apS (i : Nat) {l v : List Int} {t u e : TypeId} {s x : Operand} {tx : ByteArray} {ob : Option Nat} {cap : Nat} (ht : apB P t e 1 1 = true) (hz' : (P.info? e).bind (·.zero) = some (.int .u8 0)) (hu : P.underlying u = some .string)
  (hs : ev env s = some (.sl ob (l.map (VV.int .u8)).length cap)) (hh : H[i]? = some (.row ob e cap (l.map (VV.int .u8)))) (hx : ev env x = some (.str tx)) (h : ap 1 l (bytesL tx) = some v)
  (k : ∀ ob' cap',K (.sl ob' (v.map (VV.int .u8)).length cap') (H.set i (.row ob' e cap' (v.map (VV.int .u8))))) : VO P N ⟨dst,.call ⟨.builtin .append,#[s,x],#[t,u]⟩,ty,pos,aft,g⟩ env H K:=by
 obtain ⟨⟨h1,h2⟩,rfl⟩:=ap_some h
 exact VO.appendS ht hz' hu hs hh hx h1 h2 k
theorem sT_row {α : Type} (j : Nat) (f : α→VV) {x : Operand} {e : TypeId} {sz : Nat} {ob : Option Nat} {cap : Nat} {l : List α} {t : TypeId} (ht : elB P t e sz = true) (hx : ev env x = some (.sl ob (l.map f).length cap)) (hh : H[j]? = some (.row ob e cap (l.map f))) :
  ∀ (D : Cx) (w : World) (a : Act),RE P D w env a.tmps→Inv P D w H→SrcV P D w sz (a.eval x) (l.map f):=src_row (elB_cells ht) hx hh
def evl (env : Env) : List Operand→Option (List VV)
 | [] =>some []
 | x :: r =>match ev env x,evl env r with
  | some z,some zs =>some (z :: zs)
  | _,_ =>none
theorem evl_mapM : ∀ (l : List Operand),evl env l = l.mapM (ev env)
 | [] =>rfl
 | x :: r =>by
  simp only [evl,List.mapM_cons,evl_mapM r]
  cases ev env x<;>cases r.mapM (ev env)<;>rfl
theorem VO.callK (k : Nat) {f : FuncId} {fo : Operand} {args : Array Operand} {ats : Array TypeId} {fi ca xs : List VV} {R : VV→List HE→Prop} (hfo : ev env fo = some (.clo (.func f) fi ca)) (hf : fnB P f = true)
  (hx : evl env args.toList = some xs) (hc : VC P f (fi++xs++ca) (H.take k) R) (kk : ∀ x H1,R x H1→K x (H1++H.drop k)) : VO P N ⟨dst,.call ⟨.value fo,args,ats⟩,ty,pos,aft,g⟩ env H K:=by
 have:=VO.call (N:=N) (H2:=H.drop k) (K:=K) (dst:=dst) (ty:=ty) (pos:=pos) (aft:=aft) (g:=g) (ats:=ats) hfo hf (by rw [← evl_mapM]; exact hx) hc kk
 rw [List.take_append_drop] at this
 exact this
theorem VW.drawK (k : Nat) {id : Nat} {l : List Oper} {Q : Post} (hm : P.follows .mixedOrders = true) (h : VA P N l.toArray (fun env H =>Q .normal env H) [] env (H.take k) (H.drop k)) :
  VW P N (.region id l.toArray true) Q env H:=by
 have:=VW.draw (id:=id) hm h
 rw [List.take_append_drop] at this
 exact this
end
end Go.Proofs.YtkondhigbbgidaaGreat.V

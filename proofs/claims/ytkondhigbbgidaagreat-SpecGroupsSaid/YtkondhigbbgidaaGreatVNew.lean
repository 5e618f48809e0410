/-
  The logic over plain values: further rules: nil arguments, stores into a row's element, arrays by index. Own text.
-/
import Derived.Test.YtkondhigbbgidaaGreatVEq
import Derived.Laws.MakeOwn
namespace Go.Proofs.YtkondhigbbgidaaGreat.V
open Go
set_option linter.unusedVariables false
section
variable {P : Program} {N : Nat} {env : Env} {H : List HE} {K : VV→List HE→Prop} {dst : Option Tmp} {ty : TypeId} {pos : String} {aft : Array Edge} {g : Option (Nat × Bool)}
inductive Hn where
 | same
 | nil (e : TypeId)
 | agg (l : List (Option TypeId))
def hint (n : Option TypeId) (o : VV) : Option VV :=
 match n with
 | none =>some o
 | some e =>match o with | .sl none 0 0 =>some (.list e []) | _ =>none
def hintL : List (Option TypeId)→List VV→Option (List VV)
 | [],xs =>some xs
 | _ :: _,[] =>none
 | n :: ns,x :: xs =>match hint n x,hintL ns xs with
  | some z,some zs =>some (z :: zs)
  | _,_ =>none
def hintH : Hn→VV→Option VV
 | .same,o =>some o
 | .nil e,o =>hint (some e) o
 | .agg l,o =>match o with | .agg xs =>(match hintL l xs with | some zs =>some (.agg zs) | none =>none) | _ =>none
def evlN (env : Env) : List Hn→List Operand→Option (List VV)
 | _,[] =>some []
 | [],x :: r =>match ev env x,evlN env [] r with
  | some z,some zs =>some (z :: zs)
  | _,_ =>none
 | n :: ns,x :: r =>match ev env x,evlN env ns r with
  | some y,some zs =>(match hintH n y with | some z =>some (z :: zs) | none =>none)
  | _,_ =>none
theorem hint_rd {D : Cx} {w : World} {v : Value} {n : Option TypeId} {o z : VV} (h : hint n o = some z) (hr : Rd P D w v o) : Rd P D w v z:=by
 unfold hint at h
 split at h
 ·cases h; exact hr
 ·split at h
  ·cases h
   cases hr
   exact .listNil _ none
  ·cases h
theorem hintL_rd (P : Program) (D : Cx) (w : World) : ∀ {l : List (Option TypeId)} {xs zs : List VV},hintL l xs = some zs→xs.length = zs.length∧∀ (v : Value) (j : Nat) (x z : VV),xs[j]? = some x→zs[j]? = some z→Rd P D w v x→Rd P D w v z
 | [],xs,zs,h =>by simp only [hintL,Option.some.injEq] at h; subst h; exact ⟨rfl,fun v j x z hx hz hr =>by rw [hx] at hz; cases hz; exact hr⟩
 | n :: ns,[],zs,h =>by simp [hintL] at h
 | n :: ns,x0 :: xs,zs,h =>by
  simp only [hintL] at h
  split at h
  ·rename_i z1 zs1 h1 h2
   cases h
   obtain ⟨k1,k2⟩:=hintL_rd P D w h2
   refine ⟨by simp [k1],fun v j x z hx hz hr =>?_⟩
   cases j with
   | zero =>simp at hx hz; subst hx; subst hz; exact hint_rd h1 hr
   | succ j =>exact k2 v j x z (by simpa using hx) (by simpa using hz) hr
  ·cases h
theorem hintH_rd {D : Cx} {w : World} {v : Value} {n : Hn} {o z : VV} (h : hintH n o = some z) (hr : Rd P D w v o) : Rd P D w v z:=by
 cases n with
 | same =>simp only [hintH,Option.some.injEq] at h; subst h; exact hr
 | nil e =>exact hint_rd (n:=some e) h hr
 | agg l =>
  simp only [hintH] at h
  split at h
  ·split at h
   ·rename_i zs hz
    cases h
    obtain ⟨k1,k2⟩:=hintL_rd P D w hz
    cases hr with
    | agg cs _ hs hr =>
     refine .agg cs _ (by omega) fun j v x hv hx =>?_
     have hj:=(List.getElem?_eq_some_iff.1 hx).1
     rw [← k1] at hj
     exact k2 v j _ x (List.getElem?_eq_getElem hj) hx (hr j v _ hv (List.getElem?_eq_getElem hj))
   ·cases h
  ·cases h
theorem evlN_rel {D : Cx} {w : World} {a : Act} (hr : RE P D w env a.tmps) : ∀ (ns : List Hn) (l : List Operand) (xs : List VV),evlN env ns l = some xs →
  l.length = xs.length∧∀ (j : Nat) (o : Operand) (x : VV),l[j]? = some o→xs[j]? = some x→Rd P D w (a.eval o) x
 | _,[],xs,h =>by simp only [evlN,Option.some.injEq] at h; subst h; exact ⟨rfl,by simp⟩
 | [],o :: r,xs,h =>by
  simp only [evlN] at h
  split at h
  ·rename_i z zs h1 h2
   cases h
   obtain ⟨k1,k2⟩:=evlN_rel hr [] r zs h2
   refine ⟨by simp [k1],fun j o' x ho hx =>?_⟩
   cases j with
   | zero =>simp at ho hx; subst ho; subst hx; exact ev_rd h1 hr
   | succ j =>exact k2 j o' x (by simpa using ho) (by simpa using hx)
  ·cases h
 | n :: ns,o :: r,xs,h =>by
  simp only [evlN] at h
  split at h
  ·rename_i z zs h1 h2
   split at h
   ·rename_i z' h3
    cases h
    obtain ⟨k1,k2⟩:=evlN_rel hr ns r zs h2
    refine ⟨by simp [k1],fun j o' x ho hx =>?_⟩
    cases j with
    | zero =>simp at ho hx; subst ho; subst hx; exact hintH_rd h3 (ev_rd h1 hr)
    | succ j =>exact k2 j o' x (by simpa using ho) (by simpa using hx)
   ·cases h
  ·cases h
theorem VO.callN (k : Nat) (ns : List Hn) {f : FuncId} {fo : Operand} {args : Array Operand} {ats : Array TypeId} {fi ca xs : List VV} {R : VV→List HE→Prop} (hfo : ev env fo = some (.clo (.func f) fi ca)) (hf : fnB P f = true)
  (hx : evlN env ns args.toList = some xs) (hc : VC P f (fi++xs++ca) (H.take k) R) (kk : ∀ x H1,R x H1→K x (H1++H.drop k)) : VO P N ⟨dst,.call ⟨.value fo,args,ats⟩,ty,pos,aft,g⟩ env H K:=by
 intro D w a hs hr hi next Qx hn
 obtain ⟨h1,h2⟩:=evlN_rel (P:=P) (D:=D) (w:=w) hr ns _ _ hx
 have hrd:=ev_rd hfo hr
 generalize hv : a.eval fo = v at hrd
 cases hrd with
 | clo fn fa cs _ _ hs1 hr1 hs2 hr2 =>
  have hrun : (execOp a.eval ⟨dst,.call ⟨.value fo,args,ats⟩,ty,pos,aft,g⟩).run P w = .ok (.enter f (fa++args.map a.eval++cs)) w:=by
   simp only [execOp,resolve,hv,Deferred.ofValue,Sem.run_bind,Sem.run_pure,Result.andThen_ok,invoke]
   exact run_callFunc hf _ w
  have hargs : ∀ (j : Nat) (v : Value) (x : VV),(fa++args.map a.eval++cs)[j]? = some v→(fi++xs++ca)[j]? = some x→Rd P D w v x:=by
   intro j v x hj hjx
   have e1 : fa.size = fi.length:=hs1
   have e2 : (args.map a.eval).size = xs.length:=by simpa using h1
   by_cases ha : j < fa.size
   ·rw [Array.append_assoc,Array.getElem?_append_left ha] at hj
    rw [List.append_assoc,List.getElem?_append_left (by omega)] at hjx
    exact hr1 j v x hj hjx
   ·by_cases hb : j < fa.size + (args.map a.eval).size
    ·rw [Array.getElem?_append_left (by rw [Array.size_append]; exact hb),Array.getElem?_append_right (by omega)] at hj
     rw [List.getElem?_append_left (by rw [List.length_append]; omega),List.getElem?_append_right (by omega)] at hjx
     rw [e1] at hj
     simp only [Array.getElem?_map,Option.map_eq_some_iff] at hj
     obtain ⟨o,ho,rfl⟩:=hj
     exact h2 _ o x (by simpa using ho) hjx
    ·rw [Array.getElem?_append_right (by rw [Array.size_append]; omega)] at hj
     rw [List.getElem?_append_right (by rw [List.length_append]; omega)] at hjx
     have e3 : (fa++args.map a.eval).size = (fi++xs).length:=by rw [Array.size_append,List.length_append]; omega
     rw [e3] at hj
     exact hr2 _ v x hj hjx
  unfold Oper.wp
  rw [hrun]
  have hi' : Inv P D w (H.take k++H.drop k):=by rw [List.take_append_drop]; exact hi
  refine Calls.mono (hc D w _ ?_ hargs hi'.sub) ?_
  ·simp only [Array.size_append,List.length_append,Array.size_map]
   rw [Array.length_toList] at h1
   omega
  ·rintro e w' ⟨v,x,H',D',rfl,hR,hrv,hi2,hf'⟩
   obtain ⟨hI,hF⟩:=hi'.frame hi2 hf'
   rw [List.take_append_drop] at hF
   exact hn v x (H'++H.drop k) D' w' (kk x H' hR) hrv hI hF
theorem flat_set {sz : Nat} : ∀ {xs : List VV} (_ : ∀ x,x ∈ xs→x.el sz) {j : Nat} {y y' : VV} {o : Nat} {zs : List VV} (_ : xs[j]? = some y) (_ : y'.cells = splice y.cells o zs) (_ : o + zs.length≤sz),
  flat (xs.set j y') = splice (flat xs) (j * sz + o) zs
 | [],_,j,y,y',o,zs,hy,_,_ =>by simp at hy
 | x :: xs,h,0,y,y',o,zs,hy,he,hz =>by
  simp at hy; subst hy
  have hx:=(h x (by simp)).1
  rw [List.set_cons_zero,flat_cons,flat_cons,he,Nat.zero_mul,Nat.zero_add]
  unfold splice
  rw [List.take_append_of_le_length (by omega),List.drop_append_of_le_length (by omega)]
  simp only [List.append_assoc]
 | x :: xs,h,j + 1,y,y',o,zs,hy,he,hz =>by
  have hx:=(h x (by simp)).1
  rw [List.set_cons_succ,flat_cons,flat_cons,flat_set (fun z hz =>h z (by simp [hz])) (by simpa using hy) he hz]
  have e : (j + 1) * sz + o = x.cells.length + (j * sz + o):=by rw [hx,Nat.add_mul]; omega
  unfold splice
  rw [e,List.take_length_add_append,show x.cells.length + (j * sz + o) + zs.length = x.cells.length + (j * sz + o + zs.length) by omega,List.drop_length_add_append]
  simp only [List.append_assoc]
theorem VO.storeR {t : TypeId} {x y : Operand} {b sz j o i : Nat} {e : TypeId} {cap : Nat} {xs : List VV} {q q' z : VV} {n : Nat} {agg : Bool} (hx : ev env x = some (.rref b sz j o)) (hy : ev env y = some z)
  (hh : H[i]? = some (.row (some b) e cap xs)) (hsz : P.cellsOf e = sz) (hq : xs[j]? = some q) (ht : ldB P t n agg = true) (ho : z.told = true) (hn : z.cells.length = n) (hfit : o + n≤sz) (hq' : q'.cells = splice q.cells o z.cells) (hel : q'.el sz)
  (k : K .any (H.set i (.row (some b) e cap (xs.set j q')))) : VO P N ⟨dst,.store t x y,ty,pos,aft,g⟩ env H K:=by
 intro D w a hs hr hi next Qx hnext
 have hrd:=ev_rd hx hr
 have hrz:=ev_rd hy hr
 generalize hv : a.eval x = v at hrd
 cases hrd with
 | rref b sz j o =>
  obtain ⟨arr,h1,h2,h3,h4,h5,h6⟩:=hi.rel _ (List.mem_of_getElem? hh)
  rw [hsz] at h2 h5
  have hfl:=flat_length h5
  have hjl : j < xs.length:=(List.getElem?_eq_some_iff.1 hq).1
  have hfit2 : j * sz + o + n≤xs.length * sz:=by
   have : (j + 1) * sz≤xs.length * sz:=Nat.mul_le_mul_right _ hjl
   rw [Nat.add_mul] at this
   omega
  have h20:=h2
  have h2 : cap * sz≤arr.size:=by rcases h2 with h2 | h2<;>omega
  have hcap : xs.length * sz≤arr.size:=Nat.le_trans (Nat.mul_le_mul_right _ h3) h2
  have hst:=run_storeVar (P:=P) (D:=D) (off:=j * sz + o) ht h1 hrz ho hn (by omega)
  -- all cells,those behind the row's end too
  have hs0 : arr.size = (flat xs++List.replicate (arr.size - xs.length * sz) VV.any).length:=by
   rw [List.length_append,List.length_replicate,hfl]; omega
  have hr0 : ∀ (p : Nat) (v : Value) (x : VV),arr[p]? = some v→(flat xs++List.replicate (arr.size - xs.length * sz) VV.any)[p]? = some x→Rd P D w v x:=by
   intro p v x hv hx
   by_cases hp : p < (flat xs).length
   ·rw [List.getElem?_append_left hp] at hx
    exact h6 p v x hv hx
   ·rw [List.getElem?_append_right (by omega),List.getElem?_replicate] at hx
    split at hx
    ·cases hx; exact .any v
    ·cases hx
  obtain ⟨hsz2,hrr⟩:=splice_rd (off:=j * sz + o) hs0 hr0 hrz ho hn (by rw [← hs0]; omega)
  have hel' : ∀ x,x ∈ xs.set j q'→x.el sz:=fun x hx =>by
   rcases List.mem_or_eq_of_mem_set hx with hx | rfl
   ·exact h5 x hx
   ·exact hel
  have hfs : flat (xs.set j q') = splice (flat xs) (j * sz + o) z.cells:=flat_set h5 hq hq' (by rw [hn]; exact hfit)
  have hspl : ∀ (p : Nat) (u : VV),(flat (xs.set j q'))[p]? = some u→(splice (flat xs++List.replicate (arr.size - xs.length * sz) VV.any) (j * sz + o) z.cells)[p]? = some u:=by
   intro p u hu
   rw [hfs] at hu
   unfold splice at hu ⊢
   rw [List.take_append_of_le_length (by rw [hfl]; omega),List.drop_append_of_le_length (by rw [hfl,hn]; omega),← List.append_assoc]
   have hpl:=(List.getElem?_eq_some_iff.1 hu).1
   rw [List.getElem?_append_left hpl]
   exact hu
  refine wp_skip_of (w':=w.setRow b (arr.toList.take (j * sz + o)++(a.eval y).cells.toList++arr.toList.drop (j * sz + o + n)).toArray) ?_ ?_
  ·simp only [execOp,hv,Instr.storeAt,Instr.sureAddr]
   simp [hst]
  ·have hD : ∀ b' e,D b' e→(w.setRow b (arr.toList.take (j * sz + o)++(a.eval y).cells.toList++arr.toList.drop (j * sz + o + n)).toArray).heap[b']? = w.heap[b']?:=fun b' e hd =>
    setRow_other w b b' _ (fun e' =>hi.apart b' e hd (by subst e'; exact mem_blks (List.mem_of_getElem? hh) (by simp [HE.bl])))
   obtain ⟨hI,hF⟩:=hi.turnAt (w':=w.setRow b (arr.toList.take (j * sz + o)++(a.eval y).cells.toList++arr.toList.drop (j * sz + o + n)).toArray) (h':=.row (some b) e cap (xs.set j q')) hh (by simp) rfl rfl rfl
    (fun k _ hk =>setRow_other w b k _ (fun e =>hk (by subst e; rfl)))
    (fun b' hb' =>by simp only [HE.blk,Option.some.injEq] at hb'; subst hb'; exact ⟨.inl rfl,by simpa using (Array.getElem?_eq_some_iff.1 h1).1⟩)
    ⟨_,setRow_heap w b arr _ e (0,0) h1,by rw [hsz]; have e9 : (arr.toList.take (j * sz + o)++(a.eval y).cells.toList++arr.toList.drop (j * sz + o + n)).toArray.size = arr.size:=(by rw [hsz2]; unfold splice; simp only [List.length_append,List.length_take,List.length_drop,List.length_replicate,hn,hfl]; omega); rw [e9]; exact h20,by rw [List.length_set]; exact h3,h4,by rw [hsz]; exact hel',
     fun p u x' hu hx' =>(hrr p u x' hu (hspl p x' hx')).mono (fun _ _ h =>h) (fun _ _ _ h =>h) hD⟩
   exact hnext undef .any _ D _ k (.any _) hI hF
theorem VO.storeRT (i : Nat) {α : Type} {f : α→VV} {l : List α} {t : TypeId} {x y : Operand} {b sz o : Nat} {ix : Int} {e : TypeId} {cap : Nat} {q q' : α} {z : VV} {n : Nat} {agg : Bool} (hx : ev env x = some (.rref b sz ix.toNat o)) (hy : ev env y = some z)
  (hh : H[i]? = some (.row (some b) e cap (l.map f))) (hsz : P.cellsOf e = sz) (hq : gl l ix = some q) (ht : ldB P t n agg = true) (ho : z.told = true) (hn : z.cells.length = n) (hfit : Nat.ble (o + n) sz = true) (hq' : (f q').cells = splice (f q).cells o z.cells) (hel : (f q').el sz)
  (k : K .any (H.set i (.row (some b) e cap ((l.set ix.toNat q').map f)))) : VO P N ⟨dst,.store t x y,ty,pos,aft,g⟩ env H K:=by
 refine VO.storeR hx hy hh hsz (gl_map f (gl_some hq).2) ht ho hn (Nat.le_of_ble_eq_true hfit) hq' hel ?_
 rw [List.map_set] at k
 exact k
theorem VP.indexG {α : Type} {f : α→VV} {l : List α} {t : TypeId} {x ix : Operand} {e : TypeId} {len : Nat} {kd : IntKind} {n : Int} {v : α} (hx : ev env x = some (.agg (l.map f))) (hi : ev env ix = some (.int kd n)) (ht : arB P t e len 1 = true)
  (hl : l.length = len) (hld : ldB P e 1 false = true) (hg : gl l n = some v) : VP P N ⟨dst,.index t x ix,ty,pos,aft,g⟩ env H (f v) :=
 fun D w a hs hr hinv =>by
  have h2:=rd_int (ev_rd hi hr)
  have hrd:=ev_rd hx hr
  obtain ⟨h0,hv⟩:=gl_some hg
  have hlt : n.toNat < l.length:=(List.getElem?_eq_some_iff.1 hv).1
  unfold arB at ht
  simp only [Bool.and_eq_true] at ht
  obtain ⟨ht1,ht2⟩:=ht
  split at ht1
  ·rename_i m e' hu
   simp only [Bool.and_eq_true,beq_iff_eq] at ht1
   obtain ⟨rfl,rfl⟩:=ht1
   generalize hvv : a.eval x = vv at hrd
   cases hrd with
   | agg cs xs hs' hr' =>
    rw [List.length_map] at hs'
    have hc : cs[n.toNat]? = some cs[n.toNat]:=Array.getElem?_eq_getElem (by omega)
    refine ⟨cs[n.toNat],fun w1 hp1 =>?_,hr' n.toNat _ _ hc (by rw [List.getElem?_map,hv]; rfl)⟩
    have hb : 0≤n∧n < (m : Int):=by omega
    simp only [execOp,h2,hvv,Instr.index,asIntOf,Sem.run_bind,Sem.run_pure,Result.andThen_ok,run_underlying hu]
    rw [if_pos hb]
    simp [part,ldB_agg hld,ldB_size hld,hc]
  ·cases ht1
theorem VP.loadA (i : Nat) {α : Type} {f : α→VV} {l : List α} {t : TypeId} {x : Operand} {b : Nat} {n : Int} {bt : TypeId} {v : α} (hx : ev env x = some (.ptr b (0 + n.toNat * 1))) (hh : H[i]? = some (.box b bt (l.map f))) (ht : ldB P t 1 false = true) (hf : (f v).one = true)
  (hg : gl l n = some v) : VP P N ⟨dst,.load t x,ty,pos,aft,g⟩ env H (f v):=by
 obtain ⟨h0,hv⟩:=gl_some hg
 have hlt : n.toNat < l.length:=(List.getElem?_eq_some_iff.1 hv).1
 have e : (l.map f).drop (0 + n.toNat * 1) = f v :: (l.map f).drop (n.toNat + 1):=by
  rw [Nat.zero_add,Nat.mul_one,List.drop_eq_getElem_cons (by simpa using hlt)]
  congr 1
  rw [List.getElem_map]
  congr 1
  exact (List.getElem?_eq_some_iff.1 hv).2
 have:=VP.loadP (P:=P) (N:=N) (dst:=dst) (ty:=ty) (pos:=pos) (aft:=aft) (g:=g) hx hh ht (by rw [e]; rfl)
 rw [e] at this
 exact this
theorem VO.storeA (i : Nat) {α : Type} {f : α→VV} {l : List α} {t : TypeId} {x y : Operand} {b : Nat} {n : Int} {bt : TypeId} {v : α} (hx : ev env x = some (.ptr b (0 + n.toNat * 1))) (hy : ev env y = some (f v)) (hh : H[i]? = some (.box b bt (l.map f))) (ht : ldB P t 1 false = true)
  (ho : (f v).told = true) (hc : (f v).cells = [f v]) {cs' : List VV} (hp : (0≤n∧n < l.length)∧cs' = (l.set n.toNat v).map f) (k : K .any (H.set i (.box b bt cs'))) : VO P N ⟨dst,.store t x y,ty,pos,aft,g⟩ env H K:=by
 obtain ⟨⟨h0,h1⟩,rfl⟩:=hp
 have hlt : n.toNat < (l.map f).length:=by simp; omega
 refine VO.storeP hx hy hh ht ho (by rw [hc]; rfl) (Nat.ble_eq_true_of_le (by omega)) ?_
 have e : splice (l.map f) (0 + n.toNat * 1) (f v).cells = (l.set n.toNat v).map f:=by
  rw [hc,Nat.zero_add,Nat.mul_one,List.map_set]
  unfold splice
  rw [List.set_eq_take_append_cons_drop,if_pos hlt]
  simp
 rw [e]
 exact k
theorem Shift.reSl (s : Nat) {ob : Option Nat} {n cap : Nat} (n' : Nat) (h : get env s = some (.sl ob n cap)) (e : n = n') : Shift P env H ((s,.sl ob n' cap) :: env) H:=by
 subst e
 intro D w t hr hi
 refine ⟨D,fun s' x hx =>?_,hi,Fr.refl D w H⟩
 simp only [get] at hx
 split at hx
 ·rename_i e'
  have e2 : s' = s:=by simpa using e'
  subst e2
  cases hx
  exact hr _ _ h
 ·exact hr s' x hx
theorem len_set {α : Type} (f : α→VV) (l : List α) (n : Nat) (v : α) : (l.map f).length = ((l.set n v).map f).length:=by simp
theorem VA.shift {K : Env→List HE→Prop} {ops : Array Oper} {dn : List Nat} {env' : Env} {Hm Hm' Hp : List HE} (hs : Shift P env Hm env' Hm') (h : VA P N ops K dn env' Hm' Hp) : VA P N ops K dn env Hm Hp:=by
 intro D w a hz hre hinv KK hk
 obtain ⟨D',h1,h2,h3⟩:=hs D w a.tmps hre hinv.sub
 obtain ⟨hI,hF⟩:=hinv.frame h2 h3
 have hpr : ∀ w2,Prot D' w Hp w2→Prot D w Hp w2:=fun w2 hp b hb =>hp b (by
  rcases hb with ⟨e,hd⟩ | hb
  ·exact .inl ⟨e,h3.dmono b e hd⟩
  ·exact .inr hb)
 refine wpAnyH_more hpr _ _ _ _ (h D' w a hz h1 hI KK ?_)
 intro a' w2 env2 H2 D2 g1 g2 g3 g4 g5 g6
 exact hk a' w2 env2 H2 D2 g1 g2 g3 g4 g5 (hF.trans g6)
theorem gl_pos2 {α : Type} {l : List α} {n : Int} {v : α} (h : gl l n = some v) : 0≤n∧n < (l.length : Int):=by
 obtain ⟨h0,hv⟩:=gl_some h
 have:=(List.getElem?_eq_some_iff.1 hv).1
 omega
theorem VO.sliceRV (i : Nat) {α : Type} {f : α→VV} {l m : List α} {t e : TypeId} {sz : Nat} {x hi : Operand} {ob : Option Nat} {cap : Nat} {kd : IntKind} {n : Int} (ht : elB P t e sz = true) (hx : ev env x = some (.sl ob (l.map f).length cap)) (hh : H[i]? = some (.row ob e cap (l.map f)))
  (hn : ev env hi = some (.int kd n)) (hs : sl l none (some n) = some m) (k : K (.sl ob (m.map f).length cap) (H.set i (.row ob e cap (m.map f)))) : VO P N ⟨dst,.slice t x none (some hi) none,ty,pos,aft,g⟩ env H K:=by
 obtain ⟨⟨_,h0⟩,⟨_,h1⟩,rfl⟩:=sl_some hs
 simp only [nonneg,highN,lowN,List.drop_zero] at h0 h1 k
 exact VO.sliceRT ht hx hh hn (by simpa [nonneg] using h0) (by simp at h1; omega) (by simpa [highN,lowN] using k)
def st {α : Type} (l : List α) (i : Int) (v : α) : Option (List α):=if 0≤i∧i < l.length then some (l.set i.toNat v) else none
end
end Go.Proofs.YtkondhigbbgidaaGreat.V

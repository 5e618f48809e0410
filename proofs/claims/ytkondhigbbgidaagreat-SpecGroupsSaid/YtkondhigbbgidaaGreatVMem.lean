/-
  The logic over plain values: its rules for memory. Own text.
-/
import Derived.Test.YtkondhigbbgidaaGreatVOps
import Derived.Deep.AppendSrc
import Derived.Laws.AppendOwn
import Derived.Maps.AppendAt
namespace Go.Proofs.YtkondhigbbgidaaGreat.V
open Go
set_option linter.unusedVariables false
section
variable {P : Program} {N : Nat} {env : Env} {H : List HE} {K : VV→List HE→Prop} {D : Cx} {w : World}
theorem blks_append (l l' : List HE) : blks (l++l') = blks l++blks l':=by simp [blks]
theorem blks_cons (h : HE) (l : List HE) : blks (h :: l) = h.bl++blks l:=by simp [blks]
theorem ars_append (l l' : List HE) : ars (l++l') = ars l++ars l':=by simp [ars]
theorem ars_cons (h : HE) (l : List HE) : ars (h :: l) = h.pl++ars l:=by simp [ars]
theorem HR.keep {D' : Cx} {w' : World} {h : HE} (r : HR P D w h) (hb : ∀ b,b ∈ h.bl→w'.heap[b]? = w.heap[b]?) (hD : ∀ b e,D b e→D' b e) (hn : ∀ a i b,D.nm a i b→D'.nm a i b) (hA : ∀ a,a ∈ h.pl→∀ i b,D'.nm a i b→D.nm a i b) (hw : ∀ b e,D b e→w'.heap[b]? = w.heap[b]?) :
  HR P D' w' h:=by
 cases h with
 | box b t cs =>
  obtain ⟨arr,h1,h2,h3⟩:=r
  exact ⟨arr,(hb b (by simp [HE.bl])).trans h1,h2,fun j v x hv hx =>(h3 j v x hv hx).mono hD hn hw⟩
 | row b e cap xs =>
  cases b with
  | none =>exact r
  | some b =>
   obtain ⟨arr,h1,h2,h3,h4,h5,h6⟩:=r
   exact ⟨arr,(hb b (by simp [HE.bl])).trans h1,h2,h3,h4,h5,fun j v x hv hx =>(h6 j v x hv hx).mono hD hn hw⟩
 | iter b s pos =>exact (hb b (by simp [HE.bl])).trans r
 | map b es =>
  obtain ⟨mes,clock,h1,h2,h3⟩:=r
  exact ⟨mes,clock,(hb b (by simp [HE.bl])).trans h1,h2,fun j e p he hp =>⟨(h3 j e p he hp).1.mono hD hn hw,(h3 j e p he hp).2.mono hD hn hw⟩⟩
 | ar a t bs xs =>
  obtain ⟨h1,h2,h3⟩:=r
  refine ⟨h1,fun i b =>⟨fun q =>(h2 i b).1 (hA a (by simp [HE.pl]) i b q),fun q =>hn a i b ((h2 i b).2 q)⟩,fun i b cs q1 q2 =>?_⟩
  obtain ⟨arr,g1,g2,g3⟩:=h3 i b cs q1 q2
  exact ⟨arr,(hb b (by simp only [HE.bl]; exact List.mem_of_getElem? q1)).trans g1,g2,fun j v x hv hx =>(g3 j v x hv hx).mono hD hn hw⟩
theorem Inv.turnG {D' : Cx} {w' : World} {l l' : List HE} {h h' : HE} (hi : Inv P D w (l++h :: l')) (hsz : w.heap.size≤w'.heap.size) (hos : w'.os = w.os) (htp : w'.tape = w.tape) (hout : w'.output = w.output)
  (hfz : D'.fz = D.fz) (hnm : ∀ a i b,D.nm a i b→D'.nm a i b) (hnn : ∀ a i b,D'.nm a i b→D.nm a i b∨a ∈ h.pl) (hpl : h'.pl = h.pl)
  (hk : ∀ k,k < w.heap.size→k ∉ h.bl→w'.heap[k]? = w.heap[k]?)
  (hnd : h'.bl.Nodup) (hb : ∀ b,b ∈ h'.bl→(b ∈ h.bl∨w.heap.size≤b)∧b < w'.heap.size) (hr : HR P D' w' h') :
  Inv P D' w' (l++h' :: l')∧Fr D w (l++h :: l') D' w' (l++h' :: l'):=by
 obtain ⟨nd,lt,ap,dlt,rel,arn⟩:=hi
 rw [blks_append,blks_cons] at nd lt ap
 rw [ars_append,ars_cons] at arn
 have hfe : ∀ b e,D' b e↔D b e:=fun b e =>by show D'.fz b e↔D.fz b e; rw [hfz]
 have hDsame : ∀ b e,D b e→w'.heap[b]? = w.heap[b]?:=fun b e hd =>by
  refine hk b (dlt b e hd) fun e' =>?_
  exact ap b e hd (by simp [e'])
 have nd1:=List.nodup_append.1 nd
 have nd2:=List.nodup_append.1 nd1.2.1
 have hothers : ∀ b,(b ∈ blks l∨b ∈ blks l')→b ∉ h.bl:=by
  intro b hbm e'
  rcases hbm with hbm | hbm
  ·exact nd1.2.2 b hbm b (by simp [e']) rfl
  ·exact nd2.2.2 b e' b hbm rfl
 have an1:=List.nodup_append.1 arn
 have an2:=List.nodup_append.1 an1.2.1
 have hothersA : ∀ a,(a ∈ ars l∨a ∈ ars l')→a ∉ h.pl:=by
  intro a ham e'
  rcases ham with ham | ham
  ·exact an1.2.2 a ham a (by simp [e']) rfl
  ·exact an2.2.2 a e' a ham rfl
 have hother : ∀ x,x ∈ l∨x ∈ l'→HR P D' w' x:=by
  intro x hx
  have hr0 : HR P D w x:=rel x (by rcases hx with hx | hx<;>simp [hx])
  refine hr0.keep (fun b hbx =>?_) (fun b e q =>(hfe b e).2 q) hnm (fun a ha i b q =>?_) hDsame
  ·have hbm : b ∈ blks l∨b ∈ blks l':=by
    rcases hx with hx | hx
    ·exact .inl (mem_blks hx hbx)
    ·exact .inr (mem_blks hx hbx)
   exact hk b (lt b (by rcases hbm with hbm | hbm<;>simp [hbm])) (hothers b hbm)
  ·have ham : a ∈ ars l∨a ∈ ars l':=by
    rcases hx with hx | hx
    ·exact .inl (List.mem_flatMap.2 ⟨x,hx,ha⟩)
    ·exact .inr (List.mem_flatMap.2 ⟨x,hx,ha⟩)
   rcases hnn a i b q with q | q
   ·exact q
   ·exact absurd q (hothersA a ham)
 refine ⟨⟨?_,?_,?_,?_,?_,?_⟩,⟨hsz,?_,fun b e q =>(hfe b e).2 q,fun b e q =>.inl ((hfe b e).1 q),?_,hos,htp,hout,hnm,?_,?_⟩⟩
 ·rw [blks_append,blks_cons,List.nodup_append,List.nodup_append]
  have hnl : ∀ b,b ∈ h'.bl→b ∉ blks l∧b ∉ blks l':=fun b hbm =>by
   rcases (hb b hbm).1 with q | q
   ·exact ⟨fun z =>hothers b (.inl z) q,fun z =>hothers b (.inr z) q⟩
   ·exact ⟨fun z =>by have:=lt b (by simp [z]); omega,fun z =>by have:=lt b (by simp [z]); omega⟩
  refine ⟨nd1.1,⟨hnd,nd2.2.1,fun x hx y hy e =>(hnl x hx).2 (e ▸ hy)⟩,fun x hx y hy e =>?_⟩
  subst e
  rcases List.mem_append.1 hy with hy | hy
  ·exact (hnl x hy).1 hx
  ·exact nd1.2.2 x hx x (by simp [hy]) rfl
 ·intro b hm
  rw [blks_append,blks_cons] at hm
  rcases List.mem_append.1 hm with hm | hm
  ·exact Nat.lt_of_lt_of_le (lt b (by simp [hm])) hsz
  ·rcases List.mem_append.1 hm with hm | hm
   ·exact (hb b hm).2
   ·exact Nat.lt_of_lt_of_le (lt b (by simp [hm])) hsz
 ·intro b e hd' hm
  have hd:=(hfe b e).1 hd'
  have:=ap b e hd
  rw [blks_append,blks_cons] at hm
  rcases List.mem_append.1 hm with hm | hm
  ·exact this (by simp [hm])
  ·rcases List.mem_append.1 hm with hm | hm
   ·rcases (hb b hm).1 with e' | e'
    ·exact this (by simp [e'])
    ·have:=dlt b e hd; omega
   ·exact this (by simp [hm])
 ·intro b e hd
  exact Nat.lt_of_lt_of_le (dlt b e ((hfe b e).1 hd)) hsz
 ·intro x hx
  rcases List.mem_append.1 hx with hx | hx
  ·exact hother x (.inl hx)
  ·rcases List.mem_cons.1 hx with rfl | hx
   ·exact hr
   ·exact hother x (.inr hx)
 ·rw [ars_append,ars_cons,hpl]; exact arn
 ·intro b hlt hn
  refine hk b hlt fun e' =>hn ?_
  rw [blks_append,blks_cons]
  simp [e']
 ·intro b hm
  rw [blks_append,blks_cons] at hm ⊢
  rcases List.mem_append.1 hm with hm | hm
  ·exact .inl (by simp [hm])
  ·rcases List.mem_append.1 hm with hm | hm
   ·rcases (hb b hm).1 with e' | e'
    ·exact .inl (by simp [e'])
    ·exact .inr e'
   ·exact .inl (by simp [hm])
 ·intro a i b hd
  rcases hnn a i b hd with q | q
  ·exact .inl q
  ·exact .inr (by rw [ars_append,ars_cons]; simp [q])
 ·intro a ha
  rw [ars_append,ars_cons,hpl] at ha
  rw [ars_append,ars_cons]
  exact ha
theorem Inv.turn {w' : World} {l l' : List HE} {h h' : HE} (hi : Inv P D w (l++h :: l')) (hsz : w.heap.size≤w'.heap.size) (hos : w'.os = w.os) (htp : w'.tape = w.tape) (hout : w'.output = w.output) (hpl : h'.pl = h.pl)
  (hk : ∀ k,k < w.heap.size→k ∉ h.bl→w'.heap[k]? = w.heap[k]?)
  (hnd : h'.bl.Nodup) (hb : ∀ b,b ∈ h'.bl→(b ∈ h.bl∨w.heap.size≤b)∧b < w'.heap.size) (hr : HR P D w' h') :
  Inv P D w' (l++h' :: l')∧Fr D w (l++h :: l') D w' (l++h' :: l') :=
 hi.turnG hsz hos htp hout rfl (fun _ _ _ q =>q) (fun _ _ _ q =>.inl q) hpl hk hnd hb hr
theorem alloc_old (w : World) (o : Obj) (k : Nat) (hk : k < w.heap.size) : (w.alloc o).heap[k]? = w.heap[k]?:=by
 show (w.heap.push o)[k]? = _
 rw [Array.getElem?_push,if_neg (by omega)]
theorem alloc_new (w : World) (o : Obj) : (w.alloc o).heap[w.heap.size]? = some o:=by
 show (w.heap.push o)[w.heap.size]? = _
 rw [Array.getElem?_push,if_pos rfl]
theorem Inv.alloc {o : Obj} {h : HE} (hi : Inv P D w H) (hb : h.blk = some w.heap.size) (hr : HR P D (w.alloc o) h) (q1 : h.bl = h.blk.toList:=by rfl) (q2 : h.pl = []:=by rfl) : Inv P D (w.alloc o) (h :: H)∧Fr D w H D (w.alloc o) (h :: H):=by
 have hi0 : Inv P D w ([]++HE.row none 0 0 [] :: H):=by
  refine ⟨?_,?_,?_,hi.dlt,?_,?_⟩
  ·simpa [blks_cons,HE.bl] using hi.nodup
  ·simpa [blks_cons,HE.bl] using hi.lt
  ·simpa [blks_cons,HE.bl] using hi.apart
  ·intro x hx
   rcases List.mem_cons.1 hx with rfl | hx
   ·exact ⟨rfl,rfl⟩
   ·exact hi.rel x hx
  ·simpa [ars_cons,HE.pl] using hi.arn
 have hbl : h.bl = [w.heap.size]:=by rw [q1,hb]; rfl
 have:=hi0.turn (w':=w.alloc o) (h':=h) (by simp) rfl rfl rfl q2 (fun k hk _ =>alloc_old w o k hk) (by rw [hbl]; simp) (fun b hb' =>by
  rw [hbl,List.mem_singleton] at hb'; subst hb'; exact ⟨.inr (Nat.le_refl _),by simp⟩) hr
 refine ⟨this.1,?_⟩
 obtain ⟨h1,h2,h3,h4,h5,h6,h7,h8,h9,h10,h11⟩:=this.2
 exact ⟨h1,fun b hlt hn =>h2 b hlt (by simpa [blks_cons,HE.bl] using hn),h3,fun b e hd =>.inl hd,fun b hb =>by
  have:=h5 b hb
  simpa [blks_cons,HE.bl] using this,h6,h7,h8,h9,fun a i b q =>.inl q,fun a ha =>by
  have:=h11 a ha
  simpa [ars_cons,HE.pl] using this⟩
theorem split_at {i : Nat} {h : HE} (hh : H[i]? = some h) (h' : HE) : H = H.take i++h :: H.drop (i + 1)∧H.set i h' = H.take i++h' :: H.drop (i + 1):=by
 have hlt : i < H.length:=(List.getElem?_eq_some_iff.1 hh).1
 have hv : H[i] = h:=(List.getElem?_eq_some_iff.1 hh).2
 constructor
 ·rw [← hv,List.getElem_cons_drop,List.take_append_drop]
 ·exact List.set_eq_take_append_cons_drop.trans (if_pos hlt)
theorem Inv.turnAt {w' : World} {i : Nat} {h h' : HE} (hi : Inv P D w H) (hh : H[i]? = some h) (hsz : w.heap.size≤w'.heap.size) (hos : w'.os = w.os) (htp : w'.tape = w.tape) (hout : w'.output = w.output)
  (hk : ∀ k,k < w.heap.size→some k≠h.blk→w'.heap[k]? = w.heap[k]?)
  (hb : ∀ b,h'.blk = some b→(h.blk = some b∨w.heap.size≤b)∧b < w'.heap.size) (hr : HR P D w' h') (q1 : h.bl = h.blk.toList:=by rfl) (q2 : h'.bl = h'.blk.toList:=by rfl) (q3 : h'.pl = h.pl:=by rfl) :
  Inv P D w' (H.set i h')∧Fr D w H D w' (H.set i h'):=by
 obtain ⟨e1,e2⟩:=split_at hh h'
 have:=Inv.turn (l:=H.take i) (l':=H.drop (i + 1)) (h:=h) (h':=h') (e1 ▸ hi) hsz hos htp hout q3 (fun k hk' hn =>hk k hk' fun e =>hn (by rw [q1,← e]; simp)) (by rw [q2]; cases h'.blk<;>simp) (fun b hbm =>by
  rw [q2] at hbm
  have e : h'.blk = some b:=by
   cases hz : h'.blk with
   | none =>rw [hz] at hbm; cases hbm
   | some c =>rw [hz] at hbm; exact congrArg some (List.mem_singleton.1 hbm).symm
  obtain ⟨z1,z2⟩:=hb b e
  exact ⟨z1.imp (fun z =>by rw [q1,z]; simp) id,z2⟩) hr
 rw [← e1,← e2] at this
 exact this
theorem one_cell {v : Value} {x : VV} (h : Rd P D w v x) (ho : x.one = true) : v.oneCell' = true∧v.cells = #[v]∧x.cells = [x]:=by
 cases h<;>simp_all [VV.one,Value.oneCell',Value.cells,VV.cells]
def VV.told : VV→Bool
 | .any | .iter _ =>false
 | .agg cs =>cs.all VV.one
 | .tup _ =>false
 | _ =>true
theorem rd_cells {v : Value} {x : VV} (h : Rd P D w v x) (ho : x.told = true) :
  v.cells.size = x.cells.length∧(∀ u,u ∈ v.cells→u.oneCell' = true)∧∀ (j : Nat) (u : Value) (y : VV),v.cells[j]? = some u→x.cells[j]? = some y→Rd P D w u y:=by
 by_cases h1 : x.one = true
 ·obtain ⟨a,b,c⟩:=one_cell h h1
  rw [b,c]
  refine ⟨rfl,by simpa using a,fun j u y hu hy =>?_⟩
  cases j with
  | zero =>simp at hu hy; subst hu; subst hy; exact h
  | succ j =>simp at hy
 ·cases h with
  | agg cs xs hs hr =>
   refine ⟨hs,fun u hu =>?_,hr⟩
   simp only [VV.told,List.all_eq_true] at ho
   obtain ⟨j,hj,rfl⟩:=Array.mem_iff_getElem.1 hu
   have hjx : j < xs.length:=by simpa [Value.cells,hs] using hj
   have hjc : j < cs.size:=hj
   have:=hr j cs[j] xs[j] (Array.getElem?_eq_getElem hjc) (List.getElem?_eq_getElem hjx)
   exact (one_cell this (ho _ (List.getElem_mem _))).1
  | _ =>simp_all [VV.one,VV.told]
theorem flat_cons (x : VV) (xs : List VV) : flat (x :: xs) = x.cells++flat xs:=rfl
theorem flat_append (xs ys : List VV) : flat (xs++ys) = flat xs++flat ys:=by simp [flat]
theorem flat_length {sz : Nat} : ∀ {xs : List VV},(∀ x,x ∈ xs→x.el sz)→(flat xs).length = xs.length * sz
 | [],_ =>by simp [flat]
 | x :: xs,h =>by
  rw [flat_cons,List.length_append,(h x (by simp)).1,flat_length (fun y hy =>h y (by simp [hy])),List.length_cons,Nat.add_mul,Nat.one_mul,Nat.add_comm]
theorem flat_get {sz : Nat} : ∀ {xs : List VV} (_ : ∀ x,x ∈ xs→x.el sz) {i : Nat} {x : VV} (_ : xs[i]? = some x) {j : Nat} (_ : j < sz),(flat xs)[i * sz + j]? = x.cells[j]?
 | [],_,i,x,hx,_,_ =>by simp at hx
 | y :: xs,h,0,x,hx,j,hj =>by
  simp at hx; subst hx
  rw [flat_cons,Nat.zero_mul,Nat.zero_add,List.getElem?_append_left (by rw [(h y (by simp)).1]; exact hj)]
 | y :: xs,h,i + 1,x,hx,j,hj =>by
  have hy:=(h y (by simp)).1
  rw [flat_cons,List.getElem?_append_right (by rw [hy,Nat.add_mul]; omega)]
  have:=flat_get (xs:=xs) (fun z hz =>h z (by simp [hz])) (i:=i) (x:=x) (by simpa using hx) hj
  rw [← this]
  congr 1
  rw [hy,Nat.add_mul]; omega
theorem flat_one {sz : Nat} {xs : List VV} (h : ∀ x,x ∈ xs→x.el sz) : ∀ y,y ∈ flat xs→y.one = true:=by
 intro y hy
 obtain ⟨x,hx,hyx⟩:=List.mem_flatMap.1 hy
 exact (h x hx).2 y hyx
theorem wp_skip_of {o : Oper} {a : Act} {w' : World} {next : Act→World→Prop} {Qx : Exit→Act→World→Prop} (h : (execOp a.eval o).run P w = .ok .skip w') (hn : next (a.put o.dst undef) w') : o.wp P a w next Qx:=by
 unfold Oper.wp; rw [h]; exact hn
theorem wp_value_of {o : Oper} {a : Act} {w' : World} {v : Value} {next : Act→World→Prop} {Qx : Exit→Act→World→Prop} (h : (execOp a.eval o).run P w = .ok (.value v) w') (hn : next (a.put o.dst v) w') : o.wp P a w next Qx:=by
 unfold Oper.wp; rw [h]; exact hn
variable {dst : Option Tmp} {ty : TypeId} {pos : String} {aft : Array Edge} {g : Option (Nat × Bool)}
theorem VP.loadE {t : TypeId} {x : Operand} {e : TypeId} {xs : List VV} {n : Nat} {agg : Bool} (hx : ev env x = some (.eref e xs)) (ht : ldB P t n agg = true) (hn : Nat.ble n xs.length = true) :
  VP P N ⟨dst,.load t x,ty,pos,aft,g⟩ env H (whole agg n xs) :=
 fun D w a hs hr hi =>by
  have hrd:=ev_rd hx hr
  generalize hv : a.eval x = v at hrd
  cases hrd with
  | eref e xs b off f hD hc hrr =>
   obtain ⟨u,hu,hru⟩:=run_loadVarP (S:=Prot D w H) ht (Nat.le_of_ble_eq_true hn) f (fun w1 hp j y hy =>(cell_of_block (hp b (.inl ⟨e,hD⟩))).trans (hc j y hy)) hrr
   refine ⟨u,fun w1 hp1 =>?_,hru⟩
   simp only [execOp,hv,Instr.loadAt,Instr.sureAddr]
   simp [hu w1 hp1]
theorem VP.loadP {t : TypeId} {x : Operand} {b off i : Nat} {bt : TypeId} {cs : List VV} {n : Nat} {agg : Bool} (hx : ev env x = some (.ptr b off)) (hh : H[i]? = some (.box b bt cs)) (ht : ldB P t n agg = true)
  (hn : Nat.ble n (cs.drop off).length = true) : VP P N ⟨dst,.load t x,ty,pos,aft,g⟩ env H (whole agg n (cs.drop off)) :=
 fun D w a hs hr hi =>by
  have hrd:=ev_rd hx hr
  generalize hv : a.eval x = v at hrd
  cases hrd with
  | ptr b off =>
   obtain ⟨arr,h1,h2,h3⟩:=hi.rel _ (List.mem_of_getElem? hh)
   have hcell : ∀ (j : Nat) (y : VV),(cs.drop off)[j]? = some y→w.cell? ⟨b,off + j,none⟩ = some (arr.getD (off + j) undef)∧Rd P D w (arr.getD (off + j) undef) y:=by
    intro j y hy
    rw [List.getElem?_drop] at hy
    have hlt : off + j < arr.size:=by rw [h2]; exact (List.getElem?_eq_some_iff.1 hy).1
    rw [cell_of_row w b (off + j) arr bt (0,0) h1]
    simp only [Array.getD_eq_getD_getElem?,Array.getElem?_eq_getElem hlt,Option.getD_some,true_and]
    exact h3 _ _ _ (Array.getElem?_eq_getElem hlt) hy
   have hmem : b ∈ blks H:=mem_blks (List.mem_of_getElem? hh) (by simp [HE.bl])
   obtain ⟨u,hu,hru⟩:=run_loadVarP (P:=P) (S:=Prot D w H) (D:=D) (w:=w) ht (Nat.le_of_ble_eq_true hn) (fun j =>arr.getD (off + j) undef) (fun w1 hp j y hy =>(cell_of_block (hp b (.inr hmem))).trans (hcell j y hy).1) (fun j y hy =>(hcell j y hy).2)
   refine ⟨u,fun w1 hp1 =>?_,hru⟩
   simp only [execOp,hv,Instr.loadAt,Instr.sureAddr]
   simp [hu w1 hp1]
theorem VP.loadR {t : TypeId} {x : Operand} {b sz j o i : Nat} {e : TypeId} {cap : Nat} {xs : List VV} {y : VV} {n : Nat} {agg : Bool} (hx : ev env x = some (.rref b sz j o)) (hh : H[i]? = some (.row (some b) e cap xs))
  (hsz : P.cellsOf e = sz) (hy : xs[j]? = some y) (ht : ldB P t n agg = true) (hn : Nat.ble n (y.cells.drop o).length = true) : VP P N ⟨dst,.load t x,ty,pos,aft,g⟩ env H (whole agg n (y.cells.drop o)) :=
 fun D w a hs hr hi =>by
  have hrd:=ev_rd hx hr
  generalize hv : a.eval x = v at hrd
  cases hrd with
  | rref b sz j o =>
   obtain ⟨arr,h1,h2,h3,h4,h5,h6⟩:=hi.rel _ (List.mem_of_getElem? hh)
   rw [hsz] at h2 h5
   have hfl:=flat_length h5
   have hcell : ∀ (q : Nat) (z : VV),(y.cells.drop o)[q]? = some z→w.cell? ⟨b,j * sz + o + q,none⟩ = some (arr.getD (j * sz + o + q) undef)∧Rd P D w (arr.getD (j * sz + o + q) undef) z:=by
    intro q z hz
    rw [List.getElem?_drop] at hz
    have hq : o + q < sz:=by rw [← (h5 y (List.mem_of_getElem? hy)).1]; exact (List.getElem?_eq_some_iff.1 hz).1
    have hg:=flat_get h5 hy hq
    rw [hz] at hg
    have h2 : cap * sz≤arr.size:=by rcases h2 with h2 | h2<;>omega
    have hlt : j * sz + o + q < arr.size:=by
     have h7 : j * sz + (o + q) < (flat xs).length:=(List.getElem?_eq_some_iff.1 hg).1
     rw [hfl] at h7
     have h8 : xs.length * sz≤cap * sz:=Nat.mul_le_mul_right _ h3
     omega
    rw [cell_of_row w b _ arr e (0,0) h1]
    simp only [Array.getD_eq_getD_getElem?,Array.getElem?_eq_getElem hlt,Option.getD_some,true_and]
    refine h6 _ _ _ (Array.getElem?_eq_getElem hlt) ?_
    rw [Nat.add_assoc]
    exact hg
   have hmem : b ∈ blks H:=mem_blks (List.mem_of_getElem? hh) (by simp [HE.bl])
   obtain ⟨u,hu,hru⟩:=run_loadVarP (P:=P) (S:=Prot D w H) (D:=D) (w:=w) ht (Nat.le_of_ble_eq_true hn) (fun q =>arr.getD (j * sz + o + q) undef) (fun w1 hp q z hz =>(cell_of_block (hp b (.inr hmem))).trans (hcell q z hz).1) (fun q z hz =>(hcell q z hz).2)
   refine ⟨u,fun w1 hp1 =>?_,hru⟩
   simp only [execOp,hv,Instr.loadAt,Instr.sureAddr]
   simp [hu w1 hp1]
def splice (cs : List VV) (off : Nat) (zs : List VV) : List VV:=cs.take off++zs++cs.drop (off + zs.length)
theorem run_storeVar {t : TypeId} {n : Nat} {agg : Bool} {b off : Nat} {arr : Array Value} {bt : TypeId} {v : Value} {z : VV} (ht : ldB P t n agg = true) (hg : w.heap[b]? = some (.cells arr bt (0,0)))
  (hr : Rd P D w v z) (ho : z.told = true) (hn : z.cells.length = n) (hfit : off + n≤arr.size) :
  (storeVar t ⟨b,off,none⟩ v).run P w = .ok () (w.setRow b (arr.toList.take off++v.cells.toList++arr.toList.drop (off + n)).toArray):=by
 obtain ⟨h1,h2,h3⟩:=rd_cells hr ho
 have h4 : v.cells.toList.length = n:=by rw [Array.length_toList,h1,hn]
 have hst:=run_storeCells_at P b off bt v.cells.toList 0 arr w hg (by rw [h4]; simpa using hfit) (fun u hu =>h2 u (Array.mem_toList_iff.1 hu))
 simp only [storeVar,Sem.run_bind,ldB_size ht,Result.andThen_ok]
 rw [if_neg (by simp [h1,hn])]
 rw [Nat.add_zero,h4] at hst
 simp [hst]
theorem splice_rd {arr : Array Value} {cs : List VV} {v : Value} {z : VV} {off n : Nat} (hs : arr.size = cs.length) (hr : ∀ (j : Nat) (v : Value) (x : VV),arr[j]? = some v→cs[j]? = some x→Rd P D w v x)
  (hz : Rd P D w v z) (ho : z.told = true) (hn : z.cells.length = n) (hfit : off + n≤cs.length) :
  (arr.toList.take off++v.cells.toList++arr.toList.drop (off + n)).toArray.size = (splice cs off z.cells).length ∧
  ∀ (j : Nat) (u : Value) (x : VV),(arr.toList.take off++v.cells.toList++arr.toList.drop (off + n)).toArray[j]? = some u→(splice cs off z.cells)[j]? = some x→Rd P D w u x:=by
 obtain ⟨h1,h2,h3⟩:=rd_cells hz ho
 have h4 : v.cells.toList.length = n:=by rw [Array.length_toList,h1,hn]
 have hlt : arr.toList.length = cs.length:=by simp [hs]
 constructor
 ·simp only [splice,List.size_toArray,List.length_append,List.length_take,List.length_drop,h4,hlt,hn]
 ·intro j u x hu hx
  rw [List.getElem?_toArray] at hu
  unfold splice at hx
  rw [hn] at hx
  by_cases ha : j < off
  ·rw [List.append_assoc,List.getElem?_append_left (by simp; omega),List.getElem?_take_of_lt ha] at hu
   rw [List.append_assoc,List.getElem?_append_left (by simp; omega),List.getElem?_take_of_lt ha] at hx
   exact hr j u x (by simpa using hu) hx
  ·by_cases hb : j < off + n
   ·rw [List.append_assoc,List.getElem?_append_right (by simp; omega),List.getElem?_append_left (by simp only [List.length_take,h4]; omega)] at hu
    rw [List.append_assoc,List.getElem?_append_right (by simp; omega),List.getElem?_append_left (by simp only [List.length_take,hn]; omega)] at hx
    have e1 : (arr.toList.take off).length = (cs.take off).length:=by simp [hs]
    rw [e1] at hu
    exact h3 _ u x (by simpa using hu) hx
   ·rw [List.getElem?_append_right (by simp only [List.length_append,List.length_take,h4]; omega),List.getElem?_drop] at hu
    rw [List.getElem?_append_right (by simp only [List.length_append,List.length_take,hn]; omega),List.getElem?_drop] at hx
    have e1 : (arr.toList.take off++v.cells.toList).length = (cs.take off++z.cells).length:=by simp [hs,h1]
    rw [e1] at hu
    exact hr _ u x (by simpa using hu) hx
theorem VO.storeP {t : TypeId} {x y : Operand} {b off i : Nat} {bt : TypeId} {cs : List VV} {z : VV} {n : Nat} {agg : Bool} (hx : ev env x = some (.ptr b off)) (hy : ev env y = some z) (hh : H[i]? = some (.box b bt cs))
  (ht : ldB P t n agg = true) (ho : z.told = true) (hn : z.cells.length = n) (hfit' : Nat.ble (off + n) cs.length = true) (k : K .any (H.set i (.box b bt (splice cs off z.cells)))) : VO P N ⟨dst,.store t x y,ty,pos,aft,g⟩ env H K:=by
 intro D w a hs hr hi next Qx hnext
 have hfit:=Nat.le_of_ble_eq_true hfit'
 have hrd:=ev_rd hx hr
 have hrz:=ev_rd hy hr
 generalize hv : a.eval x = v at hrd
 cases hrd with
 | ptr b off =>
  obtain ⟨arr,h1,h2,h3⟩:=hi.rel _ (List.mem_of_getElem? hh)
  have hst:=run_storeVar (P:=P) (D:=D) ht h1 hrz ho hn (by rw [h2]; exact hfit)
  refine wp_skip_of (w':=w.setRow b (arr.toList.take off++(a.eval y).cells.toList++arr.toList.drop (off + n)).toArray) ?_ ?_
  ·simp only [execOp,hv,Instr.storeAt,Instr.sureAddr]
   simp [hst]
  ·obtain ⟨hsz,hrr⟩:=splice_rd h2 h3 hrz ho hn hfit
   have hD : ∀ b' e,D b' e→(w.setRow b (arr.toList.take off++(a.eval y).cells.toList++arr.toList.drop (off + n)).toArray).heap[b']? = w.heap[b']?:=fun b' e hd =>
    setRow_other w b b' _ (fun e' =>hi.apart b' e hd (by subst e'; exact mem_blks (List.mem_of_getElem? hh) (by simp [HE.bl])))
   obtain ⟨hI,hF⟩:=hi.turnAt (w':=w.setRow b (arr.toList.take off++(a.eval y).cells.toList++arr.toList.drop (off + n)).toArray) (h':=.box b bt (splice cs off z.cells)) hh (by simp) rfl rfl rfl
    (fun k _ hk =>setRow_other w b k _ (fun e =>hk (by subst e; rfl)))
    (fun b' hb' =>by simp only [HE.blk,Option.some.injEq] at hb'; subst hb'; exact ⟨.inl rfl,by simpa using (Array.getElem?_eq_some_iff.1 h1).1⟩)
    ⟨_,setRow_heap w b arr _ bt (0,0) h1,hsz,fun j u x' hu hx' =>(hrr j u x' hu hx').mono (fun _ _ h =>h) (fun _ _ _ h =>h) hD⟩
   exact hnext undef .any _ D _ k (.any _) hI hF
end
end Go.Proofs.YtkondhigbbgidaaGreat.V

/-
  The logic over plain values: places: variables of one type that are owned together, and pointers to them, told by numbers. Own text.
-/
import Derived.Test.YtbgfffdnaijmhaaGreatVDefer
import Derived.LaidEql
namespace Go.Proofs.YtbgfffdnaijmhaaGreat.V
open Go
set_option linter.unusedVariables false
def pg {α : Type} (l : List α) : Nat→Option α
  | 0 =>none
  | n + 1 =>l[n]?
def pst {α : Type} (l : List α) (n : Nat) (x : α) : List α:=l.set (n - 1) x
theorem pg_pos {α : Type} {l : List α} {n : Nat} {x : α} (h : pg l n = some x) : ∃ k,n = k + 1∧l[k]? = some x:=by
  cases n with
  | zero =>simp [pg] at h
  | succ k =>exact ⟨k,rfl,h⟩
abbrev Pp (a n : Nat) : VV:=.aptr a n 0
section
variable {P : Program} {N : Nat} {env : Env} {H : List HE} {K : VV→List HE→Prop} {D : Cx} {w : World}
variable {dst : Option Tmp} {ty : TypeId} {pos : String} {aft : Array Edge} {g : Option (Nat × Bool)}
theorem rd_aptr {v : Value} {A n off k : Nat} (h : Rd P D w v (.aptr A n off)) (hn : n = k + 1) : ∃ b,v = .pointer (some ⟨b,off,none⟩)∧D.nm A k b:=by
  subst hn
  cases h with
  | ap a i off b h =>exact ⟨b,rfl,h⟩
theorem VP.assignQ (A : Nat) : VP P N ⟨dst,.assign (.const (.pointer none)),ty,pos,aft,g⟩ env H (.aptr A 0 0):=fun D w a hs hr hi =>⟨_,fun _ _ =>rfl,.ap0 A⟩
theorem VP.fieldQ {s : TypeId} {x : Operand} {f off A n o : Nat} {α : Type} {l : List α} {y : α} (hx : ev env x = some (.aptr A n o)) (hv : pg l n = some y) (hf : faB P s f off = true) : VP P N ⟨dst,.fieldAddr s x f,ty,pos,aft,g⟩ env H (.aptr A n (o + off)) :=
  fun D w a hs hr hi =>by
    obtain ⟨k,hk,_⟩:=pg_pos hv
    obtain ⟨b,hb,hd⟩:=rd_aptr (ev_rd hx hr) hk
    refine ⟨_,fun w1 _ =>?_,by rw [hk]; exact .ap A k (o + off) b hd⟩
    simp only [execOp,hb]
    simp [run_fieldAt hf w1]
theorem VP.nilCheckQ {x : Operand} {A n o : Nat} {α : Type} {l : List α} {y : α} (hx : ev env x = some (.aptr A n o)) (hv : pg l n = some y) : VP P N ⟨dst,.nilCheck x,ty,pos,aft,g⟩ env H (.aptr A n o) :=
  fun D w a hs hr hi =>by
    obtain ⟨k,hk,_⟩:=pg_pos hv
    have hrd:=ev_rd hx hr
    obtain ⟨b,hb,hd⟩:=rd_aptr hrd hk
    refine ⟨_,fun w1 _ =>?_,hrd⟩
    simp only [execOp,hb]
    first | rfl | simp [Instr.nilCheck]
theorem ar_get {i A : Nat} {t : TypeId} {bs : List Nat} {α : Type} {f : α→List VV} {l : List α} {n k b : Nat} {y : α} (hi : Inv P D w H) (hh : H[i]? = some (.ar A t bs (List.map f l))) (hv : pg l (k + 1) = some y) (hd : D.nm A k b) :
    bs[k]? = some b∧b ∈ blks H∧∃ arr,w.heap[b]? = some (.cells arr t (0,0))∧arr.size = (f y).length∧∀ (j : Nat) (v : Value) (x : VV),arr[j]? = some v→(f y)[j]? = some x→Rd P D w v x:=by
  obtain ⟨h1,h2,h3⟩:=hi.rel _ (List.mem_of_getElem? hh)
  have hb:=(h2 k b).1 hd
  exact ⟨hb,mem_blks (List.mem_of_getElem? hh) (by simp only [HE.bl]; exact List.mem_of_getElem? hb),h3 k b (f y) hb (by rw [List.getElem?_map]; show Option.map f (l[k]?) = _; rw [show l[k]? = some y from hv]; rfl)⟩
theorem VP.loadQ (i : Nat) {t : TypeId} {x : Operand} {A n off : Nat} {at_ : TypeId} {bs : List Nat} {α : Type} {f : α→List VV} {l : List α} {y : α} {m : Nat} {agg : Bool} (hx : ev env x = some (.aptr A n off)) (hh : H[i]? = some (.ar A at_ bs (List.map f l)))
    (hv : pg l n = some y) (ht : ldB P t m agg = true) (hn : Nat.ble m ((f y).drop off).length = true) : VP P N ⟨dst,.load t x,ty,pos,aft,g⟩ env H (whole agg m ((f y).drop off)) :=
  fun D w a hs hr hi =>by
    obtain ⟨k,hk,_⟩:=pg_pos hv
    obtain ⟨b,hb,hd⟩:=rd_aptr (ev_rd hx hr) hk
    subst hk
    obtain ⟨_,hmem,arr,h1,h2,h3⟩:=ar_get (n:=0) hi hh hv hd
    have hcell : ∀ (j : Nat) (z : VV),((f y).drop off)[j]? = some z→w.cell? ⟨b,off + j,none⟩ = some (arr.getD (off + j) undef)∧Rd P D w (arr.getD (off + j) undef) z:=by
      intro j z hz
      rw [List.getElem?_drop] at hz
      have hlt : off + j < arr.size:=by rw [h2]; exact (List.getElem?_eq_some_iff.1 hz).1
      rw [cell_of_row w b (off + j) arr at_ (0,0) h1]
      simp only [Array.getD_eq_getD_getElem?,Array.getElem?_eq_getElem hlt,Option.getD_some,true_and]
      exact h3 _ _ _ (Array.getElem?_eq_getElem hlt) hz
    obtain ⟨u,hu,hru⟩:=run_loadVarP (P:=P) (S:=Prot D w H) (D:=D) (w:=w) ht (Nat.le_of_ble_eq_true hn) (fun j =>arr.getD (off + j) undef) (fun w1 hp j z hz =>(cell_of_block (hp b (.inr hmem))).trans (hcell j z hz).1) (fun j z hz =>(hcell j z hz).2)
    refine ⟨u,fun w1 hp1 =>?_,hru⟩
    simp only [execOp,hb,Instr.loadAt,Instr.sureAddr]
    simp [hu w1 hp1]
theorem Inv.arTurn {i A : Nat} {t : TypeId} {bs : List Nat} {xs : List (List VV)} {k b : Nat} {cs' : List VV} {arr arr' : Array Value} (hi : Inv P D w H) (hh : H[i]? = some (.ar A t bs xs)) (hb : bs[k]? = some b) (ha : w.heap[b]? = some (.cells arr t (0,0)))
    (hsz : arr'.size = cs'.length) (hr : ∀ (j : Nat) (v : Value) (x : VV),arr'[j]? = some v→cs'[j]? = some x→Rd P D w v x) :
    Inv P D (w.setRow b arr') (H.set i (.ar A t bs (xs.set k cs')))∧Fr D w H D (w.setRow b arr') (H.set i (.ar A t bs (xs.set k cs'))):=by
  obtain ⟨e1,e2⟩:=split_at hh (.ar A t bs (xs.set k cs'))
  obtain ⟨h1,h2,h3⟩:=hi.rel _ (List.mem_of_getElem? hh)
  have hbm : b ∈ bs:=List.mem_of_getElem? hb
  have hnd : bs.Nodup:=by
    have nd:=hi.nodup
    rw [e1,blks_append,blks_cons] at nd
    exact (List.nodup_append.1 (List.nodup_append.1 nd).2.1).1
  have hD : ∀ b' e,D b' e→(w.setRow b arr').heap[b']? = w.heap[b']?:=fun b' e hd =>
    setRow_other w b b' _ (fun e' =>hi.apart b' e hd (by subst e'; exact mem_blks (List.mem_of_getElem? hh) (by simpa [HE.bl] using hbm)))
  have hlt : ∀ b',b' ∈ bs→b' < w.heap.size:=fun b' hm =>hi.lt b' (mem_blks (List.mem_of_getElem? hh) (by simpa [HE.bl] using hm))
  have:=Inv.turn (P:=P) (D:=D) (w:=w) (w':=w.setRow b arr') (l:=H.take i) (l':=H.drop (i + 1)) (h:=.ar A t bs xs) (h':=.ar A t bs (xs.set k cs')) (e1 ▸ hi) (by simp) rfl rfl rfl rfl
    (fun q _ hn =>setRow_other w b q _ (fun e =>hn (by subst e; exact hbm))) hnd (fun b' hm =>⟨.inl hm,by simpa using hlt b' hm⟩)
    ⟨by simpa using h1,h2,fun j c cs hc hcs =>by
      by_cases e : k = j
      · subst e
        have ec : c = b:=by rw [hb] at hc; exact (Option.some.inj hc).symm
        subst ec
        have hk : k < xs.length:=by have:=(List.getElem?_eq_some_iff.1 hcs).1; simpa using this
        rw [List.getElem?_set_self hk] at hcs
        have ecs:=Option.some.inj hcs
        subst ecs
        exact ⟨arr',setRow_heap w c arr _ t (0,0) ha,hsz,fun q u x' hu hx' =>(hr q u x' hu hx').mono (fun _ _ h =>h) (fun _ _ _ h =>h) hD⟩
      · rw [List.getElem?_set_ne e] at hcs
        obtain ⟨arr1,g1,g2,g3⟩:=h3 j c cs hc hcs
        have hne : c≠b:=fun ec =>by
          subst ec
          exact e ((List.getElem?_inj (List.getElem?_eq_some_iff.1 hb).1 hnd).1 (hb.trans hc.symm))
        exact ⟨arr1,(setRow_other w b c _ hne).trans g1,g2,fun q u x' hu hx' =>(g3 q u x' hu hx').mono (fun _ _ h =>h) (fun _ _ _ h =>h) hD⟩⟩
  rw [← e1,← e2] at this
  exact this
theorem VO.storeQ (i : Nat) {t : TypeId} {x y : Operand} {A n off : Nat} {at_ : TypeId} {bs : List Nat} {α : Type} {f : α→List VV} {l : List α} {u u' : α} {z : VV} {m : Nat} {agg : Bool} (hx : ev env x = some (.aptr A n off)) (hy : ev env y = some z)
    (hh : H[i]? = some (.ar A at_ bs (List.map f l))) (hv : pg l n = some u) (ht : ldB P t m agg = true) (ho : z.told = true) (hn : z.cells.length = m) (hfit' : Nat.ble (off + m) (f u).length = true) (hu : splice (f u) off z.cells = f u')
    (k : K .any (H.set i (.ar A at_ bs (List.map f (pst l n u'))))) : VO P N ⟨dst,.store t x y,ty,pos,aft,g⟩ env H K:=by
  intro D w a hs hr hi next Qx hnext
  obtain ⟨q,hq,hq'⟩:=pg_pos hv
  subst hq
  have hfit:=Nat.le_of_ble_eq_true hfit'
  obtain ⟨b,hb,hd⟩:=rd_aptr (ev_rd hx hr) rfl
  have hrz:=ev_rd hy hr
  obtain ⟨hbk,hmem,arr,h1,h2,h3⟩:=ar_get (n:=0) hi hh hv hd
  have hst:=run_storeVar (P:=P) (D:=D) ht h1 hrz ho hn (by rw [h2]; exact hfit)
  refine wp_skip_of (w':=w.setRow b (arr.toList.take off++(a.eval y).cells.toList++arr.toList.drop (off + m)).toArray) ?_ ?_
  · simp only [execOp,hb,Instr.storeAt,Instr.sureAddr]
    simp [hst]
  · obtain ⟨hsz,hrr⟩:=splice_rd h2 h3 hrz ho hn hfit
    rw [hu] at hsz hrr
    obtain ⟨hI,hF⟩:=hi.arTurn hh hbk h1 hsz hrr
    have e : (List.map f l).set q (f u') = List.map f (pst l (q + 1) u'):=by rw [pst,Nat.add_sub_cancel,List.map_set]
    rw [e] at hI hF
    exact hnext undef .any _ D _ k (.any _) hI hF
theorem Inv.arNew {i A : Nat} {t : TypeId} {bs : List Nat} {xs : List (List VV)} {cs : List VV} {arr : Array Value} (hi : Inv P D w H) (hh : H[i]? = some (.ar A t bs xs)) (hsz : arr.size = cs.length)
    (hr : ∀ (j : Nat) (v : Value) (x : VV),arr[j]? = some v→cs[j]? = some x→Rd P D w v x) :
    ∃ D' : Cx,D'.nm A xs.length w.heap.size∧Inv P D' (w.alloc (.cells arr t)) (H.set i (.ar A t (bs++[w.heap.size]) (xs++[cs])))∧Fr D w H D' (w.alloc (.cells arr t)) (H.set i (.ar A t (bs++[w.heap.size]) (xs++[cs]))):=by
  obtain ⟨e1,e2⟩:=split_at hh (.ar A t (bs++[w.heap.size]) (xs++[cs]))
  obtain ⟨h1,h2,h3⟩:=hi.rel _ (List.mem_of_getElem? hh)
  have hlt : ∀ b',b' ∈ bs→b' < w.heap.size:=fun b' hm =>hi.lt b' (mem_blks (List.mem_of_getElem? hh) (by simpa [HE.bl] using hm))
  have hnd : bs.Nodup:=by
    have nd:=hi.nodup
    rw [e1,blks_append,blks_cons] at nd
    exact (List.nodup_append.1 (List.nodup_append.1 nd).2.1).1
  let D' : Cx:=⟨D.fz,fun a j b =>D.nm a j b∨(a = A∧j = xs.length∧b = w.heap.size)⟩
  have hD : ∀ b' e,D b' e→(w.alloc (.cells arr t)).heap[b']? = w.heap[b']?:=fun b' e hd =>alloc_old w _ b' (hi.dlt b' e hd)
  have hmono : ∀ {v : Value} {x : VV},Rd P D w v x→Rd P D' (w.alloc (.cells arr t)) v x:=fun h =>h.mono (fun _ _ q =>q) (fun _ _ _ q =>.inl q) hD
  refine ⟨D',.inr ⟨rfl,rfl,rfl⟩,?_⟩
  have:=Inv.turnG (P:=P) (D:=D) (w:=w) (D':=D') (w':=w.alloc (.cells arr t)) (l:=H.take i) (l':=H.drop (i + 1)) (h:=.ar A t bs xs) (h':=.ar A t (bs++[w.heap.size]) (xs++[cs])) (e1 ▸ hi) (by simp) rfl rfl rfl rfl
    (fun _ _ _ q =>.inl q) (fun a j b q =>q.imp id fun z =>by rw [z.1]; simp [HE.pl]) rfl (fun q hq _ =>alloc_old w _ q hq)
    (by
      show (bs++[w.heap.size]).Nodup
      rw [List.nodup_append]
      refine ⟨hnd,List.nodup_cons.2 ⟨by simp,List.nodup_nil⟩,fun a ha b hb e =>?_⟩
      have:=hlt a ha
      simp only [List.mem_singleton] at hb
      omega)
    (fun b hb =>by
      simp only [HE.bl,List.mem_append,List.mem_singleton] at hb
      rcases hb with hb | hb
      · exact ⟨.inl hb,by have:=hlt b hb; simp; omega⟩
      · subst hb; exact ⟨.inr (Nat.le_refl _),by simp⟩)
    ⟨by simp [h1],fun j b =>?_,fun j b cs' hb hcs =>?_⟩
  · rw [← e1,← e2] at this
    exact this
  · constructor
    · rintro (q | ⟨_,rfl,rfl⟩)
      · have:=(h2 j b).1 q
        rw [List.getElem?_append_left (List.getElem?_eq_some_iff.1 this).1]; exact this
      · rw [← h1,List.getElem?_append_right (Nat.le_refl _)]; simp
    · intro q
      by_cases hj : j < bs.length
      · rw [List.getElem?_append_left hj] at q; exact .inl ((h2 j b).2 q)
      · rw [List.getElem?_append_right (by omega)] at q
        have hz : j - bs.length = 0:=by have:=(List.getElem?_eq_some_iff.1 q).1; simp at this; omega
        rw [hz] at q
        simp only [List.getElem?_cons_zero,Option.some.injEq] at q
        exact .inr ⟨rfl,by omega,q.symm⟩
  · by_cases hj : j < bs.length
    · rw [List.getElem?_append_left hj] at hb
      rw [List.getElem?_append_left (by omega)] at hcs
      obtain ⟨arr1,g1,g2,g3⟩:=h3 j b cs' hb hcs
      exact ⟨arr1,(alloc_old w _ b (hlt b (List.mem_of_getElem? hb))).trans g1,g2,fun q u x' hu hx' =>hmono (g3 q u x' hu hx')⟩
    · rw [List.getElem?_append_right (by omega)] at hb
      rw [List.getElem?_append_right (by omega)] at hcs
      have hz : j - bs.length = 0:=by have:=(List.getElem?_eq_some_iff.1 hb).1; simp at this; omega
      rw [hz] at hb
      rw [← h1,hz] at hcs
      simp only [List.getElem?_cons_zero,Option.some.injEq] at hb hcs
      subst hb; subst hcs
      exact ⟨arr,alloc_new w _,hsz,fun q u x' hu hx' =>hmono (hr q u x' hu hx')⟩
theorem VO.boxQ (i : Nat) {t : TypeId} {x : Operand} {z : VV} {A : Nat} {bs : List Nat} {α : Type} {f : α→List VV} {l : List α} {y : α} (hx : ev env x = some z) (hh : H[i]? = some (.ar A t bs (List.map f l))) (ho : z.told = true) (hz : z.cells = f y)
    (k : ∀ b,K (.aptr A (l.length + 1) 0) (H.set i (.ar A t (bs++[b]) (List.map f (l++[y]))))) : VO P N ⟨dst,.box t x,ty,pos,aft,g⟩ env H K:=by
  intro D w a hs hr hi next Qx hn
  have hrd:=ev_rd hx hr
  obtain ⟨h1,h2,h3⟩:=rd_cells hrd ho
  have hrun : (execOp a.eval ⟨dst,.box t x,ty,pos,aft,g⟩).run P w = .ok (.value (.pointer (some ⟨w.heap.size,0,none⟩))) (w.alloc (.cells (a.eval x).cells t)):=by
    simp only [execOp,Instr.box]
    simp [newVar,newRow]
  refine wp_value_of hrun ?_
  rw [hz] at h1 h3
  obtain ⟨D',hnm,hI,hF⟩:=hi.arNew hh h1 h3
  have e : List.map f l++[f y] = List.map f (l++[y]):=by simp
  rw [e] at hI hF
  rw [List.length_map] at hnm
  exact hn _ _ _ _ _ (k _) (.ap A l.length 0 _ hnm) hI hF
theorem rd_ifo {v : Value} {b : Bool} {t : TypeId} {x : VV} (h : Rd P D w v (.ifo b t x)) : (b = true∧v = .nilIface)∨(b = false∧∃ u,v = .iface t u∧Rd P D w u x):=by
  cases h with
  | ifo0 _ _ =>exact .inl ⟨rfl,rfl⟩
  | ifo1 _ u _ h =>exact .inr ⟨rfl,u,rfl,h⟩
theorem VP.assignI (t : TypeId) (z : VV) : VP P N ⟨dst,.assign (.const .nilIface),ty,pos,aft,g⟩ env H (.ifo true t z):=fun D w a hs hr hi =>⟨_,fun _ _ =>rfl,.ifo0 t z⟩
def nifB (P : Program) (t : TypeId) : Bool:=match P.underlying t with | some (.interface _) =>false | some _ =>true | none =>false
theorem VP.mkI {t : TypeId} {x : Operand} {z : VV} (h : nifB P t = true) (hx : ev env x = some z) : VP P N ⟨dst,.makeInterface t x,ty,pos,aft,g⟩ env H (.ifo false t z):=fun D w a hs hr hi =>by
  refine ⟨.iface t (a.eval x),fun w1 _ =>?_,.ifo1 t _ _ (ev_rd hx hr)⟩
  unfold nifB at h
  cases hu : P.underlying t with
  | none =>simp [hu] at h
  | some d =>
    simp only [execOp,Instr.makeInterface]
    cases d<;>simp_all [run_underlying hu]
theorem VP.nilCheckI {x : Operand} {b : Bool} {t : TypeId} {z : VV} (hx : ev env x = some (.ifo b t z)) (hb : b = false) : VP P N ⟨dst,.nilCheck x,ty,pos,aft,g⟩ env H (.ifo b t z):=fun D w a hs hr hi =>by
  have hrd:=ev_rd hx hr
  rcases rd_ifo hrd with ⟨h,_⟩ | ⟨_,u,h,_⟩
  · rw [hb] at h; cases h
  · refine ⟨_,fun w1 _ =>?_,hrd⟩
    simp only [execOp,h]
    rfl
theorem run_ifNil {xt : TypeId} {ms : Array (String × TypeId)} {v : Value} {b : Bool} {t : TypeId} {z : VV} (hu : P.underlying xt = some (.interface ms)) (h : Rd P D w v (.ifo b t z)) (w1 : World) : (Op.equal xt v .nilIface).run P w1 = .ok b w1:=by
  show (Op.equalIn Op.maxDepth xt _ _).run P w1 = _
  obtain ⟨k,hk⟩ : ∃ n,Op.maxDepth = n + 1:=⟨Op.maxDepth - 1,by decide⟩
  rw [hk]; unfold Op.equalIn
  simp only [Sem.run_bind,run_underlying hu,Result.andThen_ok]
  rcases rd_ifo h with ⟨rfl,rfl⟩ | ⟨rfl,u,rfl,_⟩<;>rfl
def ifB (P : Program) (t : TypeId) : Bool:=match P.underlying t with | some (.interface _) =>true | _ =>false
theorem ifB_u {t : TypeId} (h : ifB P t = true) : ∃ ms,P.underlying t = some (.interface ms):=by
  unfold ifB at h
  split at h
  · exact ⟨_,by assumption⟩
  · cases h
theorem VP.ifNot {xt yt : TypeId} {x : Operand} {b : Bool} {t : TypeId} {z : VV} (hu : ifB P xt = true) (hx : ev env x = some (.ifo b t z)) :
    VP P N ⟨dst,.binOp .neq xt x (.const .nilIface) yt,ty,pos,aft,g⟩ env H (.bool (!b)):=fun D w a hs hr hi =>by
  obtain ⟨ms,hu⟩:=ifB_u hu
  have hrd:=ev_rd hx hr
  refine ⟨.bool (!b),fun w1 _ =>?_,.bool _⟩
  have:=run_ifNil hu hrd w1
  rcases rd_ifo hrd with ⟨_,h⟩ | ⟨_,u,h,_⟩<;>simp only [execOp,h,show a.eval (.const .nilIface) = .nilIface from rfl]<;>rw [h] at this<;>simp [eqGuard,binOp,this]
def zgV (P : Program) (t : TypeId) : Option VV:=((P.info? t).bind (·.zero)).bind fun z =>match z with | .agg cs =>(cs.toList.mapM ofC).map VV.agg | v =>ofC v
theorem zgV_run {t : TypeId} {z : VV} (h : zgV P t = some z) : ∃ v,(∀ w : World,(zeroValue t).run P w = .ok v w)∧∀ D w,Rd P D w v z:=by
  unfold zgV at h
  cases hi : P.info? t with
  | none =>simp [hi] at h
  | some i =>
    cases hz : i.zero with
    | none =>simp [hi,hz] at h
    | some v =>
      simp only [hi,hz,Option.bind_some] at h
      refine ⟨v,fun w =>by simp [zeroValue,typeInfo,hi,hz],fun D w =>?_⟩
      split at h
      · rename_i cs
        rw [Option.map_eq_some_iff] at h
        obtain ⟨xs,h1,rfl⟩:=h
        obtain ⟨h3,h4⟩:=mapM_rel h1
        exact .agg cs xs (by simpa using h3) (fun j u x hu hx =>ofC_rd (h4 j u x (by simpa using hu) hx))
      · exact ofC_rd h
theorem VP.tassert {x : Operand} {xt T : TypeId} {b : Bool} {t : TypeId} {z zz : VV} (hn : nifB P T = true) (hz : zgV P T = some zz) (hx : ev env x = some (.ifo b t z)) :
    VP P N ⟨dst,.typeAssert x xt T true,ty,pos,aft,g⟩ env H (.tup [if (!b && t == T) = true then z else zz,.bool (!b && t == T)]):=fun D w a hs hr hi =>by
  obtain ⟨v,h1,h2⟩:=zgV_run hz
  have hrd:=ev_rd hx hr
  unfold nifB at hn
  cases hu : P.underlying T with
  | none =>simp [hu] at hn
  | some d =>
    have hd : ∀ ms,d≠.interface ms:=fun ms e =>by subst e; simp [hu] at hn
    rcases rd_ifo hrd with ⟨rfl,h⟩ | ⟨rfl,u,h,hru⟩
    · refine ⟨.tuple #[v,.bool false],fun w1 _ =>?_,.tup _ _ rfl ?_⟩
      · simp only [execOp,h,Instr.typeAssert]
        cases d<;>first | exact absurd rfl (hd _) | simp [run_underlying hu,h1]
      · intro j q x hq hx
        match j with
        | 0 =>simp at hq hx; subst hq; subst hx; exact h2 D w
        | 1 =>simp at hq hx; subst hq; subst hx; exact .bool _
        | j + 2 =>simp at hq
    · by_cases e : t = T
      · subst e
        refine ⟨.tuple #[u,.bool true],fun w1 _ =>?_,.tup _ _ rfl ?_⟩
        · simp only [execOp,h,Instr.typeAssert]
          cases d<;>first | exact absurd rfl (hd _) | simp [run_underlying hu]
        · intro j q x hq hx
          match j with
          | 0 =>simp at hq hx; subst hq; subst hx; exact hru
          | 1 =>simp at hq hx; subst hq; subst hx; exact .bool _
          | j + 2 =>simp at hq
      · have e' : (t == T) = false:=by simpa using e
        refine ⟨.tuple #[v,.bool false],fun w1 _ =>?_,.tup _ _ rfl ?_⟩
        · simp only [execOp,h,Instr.typeAssert]
          cases d<;>first | exact absurd rfl (hd _) | simp [run_underlying hu,h1,e]
        · intro j q x hq hx
          match j with
          | 0 =>simp [e'] at hq hx; subst hq; subst hx; exact h2 D w
          | 1 =>simp [e'] at hq hx; subst hq; subst hx; exact .bool _
          | j + 2 =>simp at hq
def mtB (P : Program) (t : TypeId) (name : String) (f : FuncId) : Bool :=
  (match P.info? t with | some i =>(match i.methods.find? (·.name == name) with | some m =>m.path.isEmpty && (match m.func with | some (q,p) =>q == f && !p | none =>false) | none =>false) | none =>false) &&
  (match P.underlying t with | some (.pointer _) =>false | some _ =>true | none =>false)
theorem mtB_run {t : TypeId} {name : String} {f : FuncId} (h : mtB P t name f = true) (n : Nat) (v : Value) (w : World) : (method (n + 1) t v name).run P w = .ok (f,v) w:=by
  unfold mtB at h
  simp only [Bool.and_eq_true] at h
  obtain ⟨h1,h2⟩:=h
  cases hi : P.info? t with
  | none =>simp [hi] at h1
  | some i =>
    simp only [hi] at h1
    cases hm : i.methods.find? (·.name == name) with
    | none =>simp [hm] at h1
    | some m =>
      simp only [hm,Bool.and_eq_true] at h1
      obtain ⟨h3,h4⟩:=h1
      cases hf : m.func with
      | none =>simp [hf] at h4
      | some q =>
        obtain ⟨q,p⟩:=q
        simp only [hf,Bool.and_eq_true,beq_iff_eq,Bool.not_eq_true'] at h4
        obtain ⟨rfl,rfl⟩:=h4
        have hp : m.path.toList = []:=by simpa using h3
        unfold method
        have h5 : (follow m.path.toList t (.val v)).run P w = .ok (t,.val v) w:=by rw [hp]; rfl
        have h6 : ∀ wr,(receiverAt t (.val v) false wr).run P w = .ok v w:=fun wr =>by
          unfold receiverAt
          cases hu : P.underlying t with
          | none =>simp [hu] at h2
          | some d =>
            simp only [Sem.run_bind,run_underlying hu,Result.andThen_ok]
            cases d<;>first | rfl | simp [hu] at h2
        simp [typeInfo,hi,hm,h5,hf,h6]
theorem VO.invK (k : Nat) {f : FuncId} {recv : Operand} {name : String} {t : TypeId} {z : VV} {args : Array Operand} {ats : Array TypeId} {xs : List VV} {R : VV→List HE→Prop} (hrv : ev env recv = some (.ifo false t z)) (hm : mtB P t name f = true) (hf : fnB P f = true)
    (hx : evl env args.toList = some xs) (hc : VC P f (z :: xs) (H.take k) R) (kk : ∀ x H1,R x H1→K x (H1++H.drop k)) : VO P N ⟨dst,.call ⟨.invoke recv name,args,ats⟩,ty,pos,aft,g⟩ env H K:=by
  intro D w a hs hr hi next Qx hn
  rw [evl_mapM] at hx
  obtain ⟨h1,h2⟩:=mapM_rel hx
  rcases rd_ifo (ev_rd hrv hr) with ⟨h,_⟩ | ⟨_,u,hv,hru⟩
  · cases h
  have hrun : (execOp a.eval ⟨dst,.call ⟨.invoke recv name,args,ats⟩,ty,pos,aft,g⟩).run P w = .ok (.enter f (#[u]++args.map a.eval)) w:=by
    obtain ⟨n,hn⟩ : ∃ n,P.types.size + Made.depth = n + 1:=⟨P.types.size + Made.depth - 1,by have h0 : 0 < Made.depth:=(by decide); omega⟩
    have e2 : (#[Value.iface t u]++args.map a.eval).extract 1 (#[Value.iface t u]++args.map a.eval).size = args.map a.eval:=by
      apply Array.ext
      · simp
      · intro i h1 h2; simp
    have e3 : (callMethod (.iface t u) name (args.map a.eval)).run P w = .ok (.enter f (#[u]++args.map a.eval)) w:=by
      simp only [callMethod]
      simp [hn,mtB_run hm,run_callFunc hf]
    have e4 : (invoke (.fn (.method name) #[]) (#[Value.iface t u]++args.map a.eval)).run P w = .ok (.enter f (#[u]++args.map a.eval)) w:=by
      have e5 : (#[Value.iface t u]++args.map a.eval)[0]? = some (.iface t u):=by rw [Array.getElem?_append_left (by simp)]; rfl
      unfold invoke
      simp only [e5]
      rw [e2]
      exact e3
    simp only [execOp,resolve,hv,Sem.run_bind,Sem.run_pure,Result.andThen_ok]
    exact e4
  have hargs : ∀ (j : Nat) (v : Value) (x : VV),(#[u]++args.map a.eval)[j]? = some v→(z :: xs)[j]? = some x→Rd P D w v x:=by
    intro j v x hj hjx
    cases j with
    | zero =>
      rw [Array.getElem?_append_left (by simp)] at hj
      simp at hj hjx; subst hj; subst hjx; exact hru
    | succ j =>
      rw [Array.getElem?_append_right (by simp)] at hj
      simp only [List.getElem?_cons_succ] at hjx
      simp only [Array.getElem?_map,Option.map_eq_some_iff] at hj
      obtain ⟨o,ho,rfl⟩:=hj
      exact ev_rd (h2 _ o x (by simpa using ho) hjx) hr
  unfold Oper.wp
  rw [hrun]
  have hi' : Inv P D w (H.take k++H.drop k):=by rw [List.take_append_drop]; exact hi
  refine Calls.mono (hc D w _ ?_ hargs hi'.sub) ?_
  · simp only [Array.size_append,List.length_cons,Array.size_map]
    rw [Array.length_toList] at h1
    simp; omega
  · rintro e w' ⟨v,x,H',D',rfl,hR,hrv,hi2,hf'⟩
    obtain ⟨hI,hF⟩:=hi'.frame hi2 hf'
    rw [List.take_append_drop] at hF
    exact hn v x (H'++H.drop k) D' w' (kk x H' hR) hrv hI hF
def VI (P : Program) (b : Bool) (t : TypeId) (z : VV) (name : String) (xs : List VV) (V : VV) : Prop:=b = false∧∃ f,mtB P t name f = true∧fnB P f = true∧VC P f (z :: xs) [] fun zx zH =>zx = V∧zH = []
theorem VO.inv {recv : Operand} {name : String} {b : Bool} {t : TypeId} {z : VV} {args : Array Operand} {ats : Array TypeId} {xs : List VV} {V : VV} (hrv : ev env recv = some (.ifo b t z)) (hx : evl env args.toList = some xs) (h : VI P b t z name xs V) (kk : K V H) :
    VO P N ⟨dst,.call ⟨.invoke recv name,args,ats⟩,ty,pos,aft,g⟩ env H K:=by
  obtain ⟨rfl,f,h1,h2,h3⟩:=h
  exact VO.invK (R:=fun zx zH =>zx = V∧zH = []) 0 hrv h1 h2 hx (by simpa using h3) fun x H1 ⟨e1,e2⟩ =>by subst e1; subst e2; simpa using kk
end
def grd (b : Bool) : Option Unit:=if b = true then some () else none
theorem grd_f {b : Bool} {u : Unit} (h : grd (!b) = some u) : b = false:=by
  cases b
  · rfl
  · cases h
section
variable {P : Program} {N : Nat} {env : Env} {H : List HE} {K : VV→List HE→Prop} {D : Cx} {w : World}
variable {dst : Option Tmp} {ty : TypeId} {pos : String} {aft : Array Edge} {g : Option (Nat × Bool)}
theorem VL.s {c : Code} {Q : Post} {n : Nat} (h : VW P N c (Post.then (VL P N c Q n) Q) env H) : VL P N c Q (n + 1) env H:=h
variable {κ υ : Type} [DecidableEq κ] {kf : κ→VV} {kv : κ→Value} {kind : TypeDesc} {vf : υ→VV} {kt : TypeId}
end
section
variable {P : Program} {N : Nat} {env : Env} {H : List HE} {K : VV→List HE→Prop} {D : Cx} {w : World}
variable {dst : Option Tmp} {ty : TypeId} {pos : String} {aft : Array Edge} {g : Option (Nat × Bool)}
theorem VPH.sub3 {t e : TypeId} {sz : Nat} {x hi mx : Operand} {k k' : IntKind} {b len cap N0 : Nat} {n m : Int} {r : Nat × Nat} {i : Nat} {xs : List VV} (ht : elB P t e sz = true) (hx : ev env x = some (.sl (some b) len cap)) (hh : H[i]? = some (.row (some b) e cap xs)) (hN : N0 = xs.length) (hhi : ev env hi = some (.int k n)) (hmx : ev env mx = some (.int k' m))
    (hnm : m = n) (hr : rng N0 none (some n) = some r) : VPH P N ⟨dst,.slice t x none (some hi) (some mx),ty,pos,aft,g⟩ env H (.sl (some b) (r.2 - r.1) (r.2 - r.1)):=fun D w a hs hre hinv =>by
  subst hnm
  obtain ⟨⟨l0,h0⟩,⟨h1,h2⟩,rfl⟩:=rng_some hr
  have h0 : 0≤m:=h0
  simp only [highN,lowN] at h1 h2 ⊢
  obtain ⟨j,hi1,hi2⟩:=elB_info ht
  have hu:=elB_und ht
  have hsz : ∀ w : World,(sizeOf e).run P w = .ok sz w:=fun w =>by simp [sizeOf,typeInfo,hi1,hi2]
  obtain ⟨arr,r1,r2,r3,r4,r5,r6⟩:=hinv.rel _ (List.mem_of_getElem? hh)
  have hev:=rd_int (ev_rd hhi hre)
  have hevm:=rd_int (ev_rd hmx hre)
  have hrd:=ev_rd hx hre
  generalize hq : a.eval x = v at hrd
  cases hrd with
  | sl b len cap =>
    have hc : m.toNat≤cap:=by omega
    have hb : ∀ w1 : World,(Instr.sliceBounds true len cap none (some (.int k m)) (some (.int k' m))).run P w1 = .ok (0,m.toNat,m.toNat) w1:=by
      intro w1
      simp only [Instr.sliceBounds,Sem.run_bind,Sem.run_pure,Result.andThen_ok,Instr.sliceBound,asIntOf,if_true]
      rw [if_pos ⟨h0,by omega⟩]
      simp only [Sem.run_pure,Result.andThen_ok]
      rw [if_pos ⟨h0,by omega⟩]
      simp
    refine ⟨.slice (some ⟨b,0,none⟩) m.toNat m.toNat,fun w1 =>?_,.sl _ _ _⟩
    simp only [execOp,Instr.sliceAt,Sem.run_bind,run_underlying hu,Result.andThen_ok,hq,Instr.slice,Option.map_none,Option.map_some,hev,hevm,hb w1,hsz,Sem.run_pure]
    by_cases hz : m.toNat = 0
    · rw [if_pos hz]; simp [hz]
    · rw [if_neg hz]; simp [Addr.add_mk]
theorem VP.sub3T {α : Type} {f : α→VV} {xs : List α} {t e : TypeId} {sz : Nat} {x hi mx : Operand} {k k' : IntKind} {b cap : Nat} {n m : Int} {r : Nat × Nat} (i : Nat) (ht : elB P t e sz = true) (hx : ev env x = some (.sl (some b) (xs.map f).length cap)) (hh : H[i]? = some (.row (some b) e cap (xs.map f))) (hhi : ev env hi = some (.int k n)) (hmx : ev env mx = some (.int k' m))
    (hnm : m = n) (hr : rng xs.length none (some n) = some r) : VP P N ⟨dst,.slice t x none (some hi) (some mx),ty,pos,aft,g⟩ env H (.sl (some b) (r.2 - r.1) (r.2 - r.1)):=fun D w a hs hre hv =>let ⟨v,h1,h2⟩:=VPH.sub3 (i:=i) ht hx hh (List.length_map ..).symm hhi hmx hnm hr D w a hs hre hv; ⟨v,fun w' _ =>h1 w',h2⟩
theorem VPH.sub3T {α : Type} {f : α→VV} {xs : List α} {t e : TypeId} {sz : Nat} {x hi mx : Operand} {k k' : IntKind} {b cap : Nat} {n m : Int} {r : Nat × Nat} (i : Nat) (ht : elB P t e sz = true) (hx : ev env x = some (.sl (some b) (xs.map f).length cap)) (hh : H[i]? = some (.row (some b) e cap (xs.map f))) (hhi : ev env hi = some (.int k n)) (hmx : ev env mx = some (.int k' m))
    (hnm : m = n) (hr : rng xs.length none (some n) = some r) : VPH P N ⟨dst,.slice t x none (some hi) (some mx),ty,pos,aft,g⟩ env H (.sl (some b) (r.2 - r.1) (r.2 - r.1)):=VPH.sub3 (i:=i) ht hx hh (List.length_map ..).symm hhi hmx hnm hr
theorem rng_0 {n : Nat} {h : Option Int} {r : Nat × Nat} (hh : rng n none h = some r) : r.1 = 0:=by
  obtain ⟨_,_,rfl⟩:=rng_some hh
  rfl
def aps {α : Type} (by_ : Nat) (l : List α) (r q : Nat × Nat) : Option (List α):=ap by_ (l.take r.2) ((l.drop q.1).take (q.2 - q.1))
theorem VO.appSub {α : Type} {f : α→VV} {l u : List α} (i : Nat) {t e : TypeId} {s x : Operand} {sz by_ b cap c2 : Nat} {r q : Nat × Nat} (ht : apB P t e sz by_ = true) (hs2 : Nat.ble 2 sz = true) (hs : ev env s = some (.sl (some b) (r.2 - r.1) (r.2 - r.1))) (hx : ev env x = some (.sub (some b) sz q.1 (q.2 - q.1) c2))
    (hh : H[i]? = some (.row (some b) e cap (l.map f))) (hr0 : r.1 = 0) (hr : r.1≤r.2∧r.2≤l.length) (hq : q.1≤q.2∧q.2≤l.length) (hap : aps by_ l r q = some u)
    (k : ∀ ob' cap',K (.sl ob' (u.map f).length cap') (H.set i (.row ob' e cap' (u.map f)))) : VO P N ⟨dst,.call ⟨.builtin .append,#[s,x],#[t,t]⟩,ty,pos,aft,g⟩ env H K:=by
  intro D w a hsz hre hi next Qx hn
  have hs2:=Nat.le_of_ble_eq_true hs2
  obtain ⟨⟨m1,m2⟩,rfl⟩:=ap_some hap
  rw [hr0,Nat.sub_zero] at hs
  have hut:=elB_und (apB_el ht)
  have hsc:=elB_cells (apB_el ht)
  obtain ⟨it,iz,hie,hz,hs1,hb,hzs,hpos⟩:=apB_info ht
  obtain ⟨arr,e1,e2,e3,e4,e5,e6⟩:=hi.rel _ (List.mem_of_getElem? hh)
  rw [hsc] at e2 e5
  have e2' : cap * sz≤arr.size:=by rcases e2 with e2 | e2<;>omega
  simp only [List.length_map] at e3
  have hall : l.length * sz≤arr.size:=Nat.le_trans (Nat.mul_le_mul_right _ e3) e2'
  have hfl : (flat (l.map f)).length = l.length * sz:=by rw [flat_length e5,List.length_map]
  have hsv : a.eval s = .slice (some ⟨b,0,none⟩) r.2 r.2:=by
    have:=ev_rd hs hre
    generalize a.eval s = v at this
    cases this
    rfl
  have hlt : ((l.take r.2).map f).length = r.2:=by rw [List.length_map,List.length_take]; omega
  have hld : (((l.drop q.1).take (q.2 - q.1)).map f).length = q.2 - q.1:=by rw [List.length_map,List.length_take,List.length_drop]; omega
  have helt : ∀ y,y ∈ (l.take r.2).map f→y.el sz:=fun y hy =>by
    obtain ⟨z,hz,rfl⟩:=List.mem_map.1 hy
    exact e5 _ (List.mem_map.2 ⟨z,List.mem_of_mem_take hz,rfl⟩)
  have held : ∀ y,y ∈ ((l.drop q.1).take (q.2 - q.1)).map f→y.el sz:=fun y hy =>by
    obtain ⟨z,hz,rfl⟩:=List.mem_map.1 hy
    exact e5 _ (List.mem_map.2 ⟨z,List.mem_of_mem_drop (List.mem_of_mem_take hz),rfl⟩)
  have hft : ∀ (j : Nat) (y : VV),(flat ((l.take r.2).map f))[j]? = some y→(flat (l.map f))[j]? = some y:=fun j y hy =>by
    have e : l.map f = (l.take r.2).map f++(l.drop r.2).map f:=by rw [← List.map_append,List.take_append_drop]
    rw [e,flat_append,List.getElem?_append_left (List.getElem?_eq_some_iff.1 hy).1]
    exact hy
  have hfd : ∀ (j : Nat) (y : VV),(flat (((l.drop q.1).take (q.2 - q.1)).map f))[j]? = some y→(flat (l.map f))[q.1 * sz + j]? = some y:=fun j y hy =>by
    have e : l.map f = (l.take q.1).map f++(((l.drop q.1).take (q.2 - q.1)).map f++((l.drop q.1).drop (q.2 - q.1)).map f):=by rw [← List.map_append,← List.map_append,List.take_append_drop,List.take_append_drop]
    have e3 : (flat ((l.take q.1).map f)).length = q.1 * sz:=by
      rw [flat_length (sz:=sz) (fun y hy =>by
        obtain ⟨z,hz,rfl⟩:=List.mem_map.1 hy
        exact e5 _ (List.mem_map.2 ⟨z,List.mem_of_mem_take hz,rfl⟩)),List.length_map,List.length_take,Nat.min_eq_left (by omega)]
    rw [e,flat_append,flat_append,List.getElem?_append_right (by omega),e3,Nat.add_sub_cancel_left,List.getElem?_append_left (List.getElem?_eq_some_iff.1 hy).1]
    exact hy
  have hold : SrcV P D w sz (.slice (some ⟨b,0,none⟩) r.2 r.2) ((l.take r.2).map f):=by
    have hle : r.2 * sz≤l.length * sz:=Nat.mul_le_mul_right _ hr.2
    refine .inr ⟨⟨b,0,none⟩,r.2,arr.toList.take (r.2 * sz),by rw [hlt],by rw [hlt,List.length_take,show arr.toList.length = arr.size from rfl]; omega,fun j u hu =>?_,helt,fun j u y hu hy =>?_⟩
    · rw [List.getElem?_take] at hu
      split at hu
      · rw [Addr.add_mk,cell_of_row w b _ arr e (0,0) e1,Nat.zero_add]; simpa using hu
      · cases hu
    · rw [List.getElem?_take] at hu
      split at hu
      · exact e6 j u y (by simpa using hu) (hft j y hy)
      · cases hu
  have hsrc : ∃ news,Src P sz t (a.eval x) (((l.drop q.1).take (q.2 - q.1)).map f).length news w∧(∀ y,y ∈ ((l.drop q.1).take (q.2 - q.1)).map f→y.el sz)∧∀ (j : Nat) (u : Value) (y : VV),news[j]? = some u→(flat (((l.drop q.1).take (q.2 - q.1)).map f))[j]? = some y→Rd P D w u y:=by
    have hqe : q.2 * sz≤l.length * sz:=Nat.mul_le_mul_right _ hq.2
    have hqq : q.1 * sz + (q.2 - q.1) * sz = q.2 * sz:=by rw [← Nat.add_mul]; congr 1; omega
    rcases rd_sub (ev_rd hx hre) with ⟨v,h,h'⟩ | ⟨b',hb',h⟩
    · rw [h,hld]
      cases v with
      | none =>exact ⟨[],by rw [h']; exact Src.ofNil w hut c2,held,by simp⟩
      | some v =>exact ⟨[],by rw [h']; exact Src.ofSlice w hut v 0 c2 [] (by simp) (by simp) (by simp),held,by simp⟩
    · cases hb'
      rw [h,hld]
      have one : ∀ u,u ∈ (arr.toList.drop (q.1 * sz)).take ((q.2 - q.1) * sz)→u.oneCell' = true:=fun u hu =>by
        obtain ⟨j,hj,rfl⟩:=List.mem_iff_getElem.1 hu
        rw [List.length_take,List.length_drop,show arr.toList.length = arr.size from rfl] at hj
        have hjf : q.1 * sz + j < (flat (l.map f)).length:=by rw [hfl]; omega
        have hja : q.1 * sz + j < arr.size:=by omega
        have:=e6 (q.1 * sz + j) arr[q.1 * sz + j] _ (Array.getElem?_eq_getElem hja) (List.getElem?_eq_getElem hjf)
        have h9:=(one_cell this (flat_one e5 _ (List.getElem_mem _))).1
        simpa using h9
      refine ⟨(arr.toList.drop (q.1 * sz)).take ((q.2 - q.1) * sz),Src.ofSlice w hut ⟨b,q.1 * sz,none⟩ (q.2 - q.1) c2 _ (by rw [List.length_take,List.length_drop,show arr.toList.length = arr.size from rfl]; omega) (fun j u hu =>?_) one,held,fun j u y hu hy =>?_⟩
      · rw [List.getElem?_take] at hu
        split at hu
        · rw [Addr.add_mk,cell_of_row w b _ arr e (0,0) e1]
          rw [List.getElem?_drop] at hu
          simpa using hu
        · cases hu
      · rw [List.getElem?_take] at hu
        split at hu
        · rw [List.getElem?_drop] at hu
          exact e6 _ u y (by simpa using hu) (hfd j y hy)
        · cases hu
  have hmap : (l.take r.2++(l.drop q.1).take (q.2 - q.1)).map f = (l.take r.2).map f++((l.drop q.1).take (q.2 - q.1)).map f:=List.map_append ..
  by_cases hm : q.2 - q.1 = 0
  · obtain ⟨news,q1,q2,q3⟩:=hsrc
    have hnw : news = []:=List.eq_nil_of_length_eq_zero (by have hl:=q1.newsLen; rw [hld,hm,Nat.zero_mul] at hl; exact hl)
    subst hnw
    rw [hld,hm] at q1
    have hrun0:=run_append_nothing (P:=P) w t t ty e it hut hie (some ⟨b,0,none⟩) r.2 r.2 (Nat.le_refl _) (a.eval x) (by rw [hs1]; exact q1)
    have hrun : (execOp a.eval ⟨dst,.call ⟨.builtin .append,#[s,x],#[t,t]⟩,ty,pos,aft,g⟩).run P w = .ok (.value (.slice (some ⟨b,0,none⟩) r.2 r.2)) w:=by
      simp [execOp,resolve,invoke,builtin,hsv,hrun0]
    refine wp_value_of hrun ?_
    have hnil : ((l.drop q.1).take (q.2 - q.1)) = []:=by rw [hm]; rfl
    have hle : r.2 * sz≤l.length * sz:=Nat.mul_le_mul_right _ hr.2
    have hrl : r.2≤maxLen:=by omega
    obtain ⟨hI,hF⟩:=hi.turnAt (w':=w) (h':=.row (some b) e r.2 ((l.take r.2).map f)) hh (Nat.le_refl _) rfl rfl rfl (fun _ _ _ =>rfl)
      (fun b' hb' =>by simp only [HE.blk,Option.some.injEq] at hb'; subst hb'; exact ⟨.inl rfl,(Array.getElem?_eq_some_iff.1 e1).1⟩)
      ⟨arr,e1,.inr ⟨by rw [hsc]; omega,by rw [hsc]; exact hs2⟩,by rw [hlt]; exact Nat.le_refl _,hrl,by rw [hsc]; exact helt,fun j v y hv hy =>e6 j v y hv (hft j y hy)⟩
    have k':=k (some b) r.2
    rw [hnil,List.append_nil] at k'
    refine hn _ _ _ D w k' ?_ hI hF
    rw [hlt]
    exact .sl _ _ _
  · obtain ⟨cap',w',g1,g2,g3,g4,g5,g6,g7⟩:=row_grow (z:=iz) (i:=it) ht hlt.symm rfl (by rw [hlt,hld]; omega) hold hsrc hi (by rw [hlt,hld]; rw [List.length_take,List.length_take,List.length_drop] at m1; omega) (by
      rw [hlt,hld]
      have e9 : (l.take r.2).length + ((l.drop q.1).take (q.2 - q.1)).length = r.2 + (q.2 - q.1):=by rw [List.length_take,List.length_take,List.length_drop]; omega
      rw [e9] at m2
      omega) ty
    have hrun : (execOp a.eval ⟨dst,.call ⟨.builtin .append,#[s,x],#[t,t]⟩,ty,pos,aft,g⟩).run P w = .ok (.value (.slice (some ⟨w.heap.size,0,none⟩) (((l.take r.2).map f).length + (((l.drop q.1).take (q.2 - q.1)).map f).length) cap')) w':=by
      simp [execOp,resolve,invoke,builtin,hsv,g1]
    refine wp_value_of hrun ?_
    obtain ⟨hI,hF⟩:=hi.turnAt (w':=w') (h':=.row (some w.heap.size) e cap' ((l.take r.2).map f++((l.drop q.1).take (q.2 - q.1)).map f)) hh (by omega) g4 g5 g6 (fun k' hk _ =>g3 k' hk)
      (fun b' hb' =>by simp only [HE.blk,Option.some.injEq] at hb'; subst hb'; exact ⟨.inr (Nat.le_refl _),by omega⟩) g7
    have k':=k (some w.heap.size) cap'
    rw [hmap] at k'
    refine hn _ _ _ D w' k' ?_ hI hF
    rw [List.length_append]
    exact .sl _ _ _
end
 mutual
def noT (es : List Nat) : VV→Bool
  | .list e xs =>!es.contains e && noTs es xs
  | .fl e xs =>!es.contains e && noTs es xs
  | .eref e xs =>!es.contains e && noTs es xs
  | .agg cs =>noTs es cs
  | .tup cs =>noTs es cs
  | .iface _ v =>noT es v
  | .ifo _ _ v =>noT es v
  | .clo _ _ _ =>false
  | _ =>true
def noTs (es : List Nat) : List VV→Bool
  | [] =>true
  | x :: r =>noT es x && noTs es r
end
theorem noTs_mem {es : List Nat} : ∀ {l : List VV},noTs es l = true→∀ x,x ∈ l→noT es x = true
  | [],_,_,h =>by cases h
  | y :: l,h,x,hx =>by
    unfold noTs at h
    rw [Bool.and_eq_true] at h
    rcases List.mem_cons.1 hx with rfl | hx
    · exact h.1
    · exact noTs_mem h.2 x hx
theorem noTs_map {es : List Nat} {α : Type} {f : α→VV} (h : ∀ a,noT es (f a) = true) : ∀ l : List α,noTs es (l.map f) = true
  | [] =>rfl
  | a :: l =>by rw [List.map_cons,noTs,h a,noTs_map h l]; rfl
section
variable {P : Program} {N : Nat} {env : Env} {H : List HE} {K : VV→List HE→Prop} {D : Cx} {w : World}
variable {dst : Option Tmp} {ty : TypeId} {pos : String} {aft : Array Edge} {g : Option (Nat × Bool)}
theorem noT_rd {es : List Nat} {D' : Cx} (hD : ∀ b e,D b e→es.contains e = false→D' b e) (hn : ∀ a i b,D.nm a i b→D'.nm a i b) {v : Value} {x : VV} (r : Rd P D w v x) : noT es x = true→Rd P D' w v x:=by
  induction r with
  | any v =>exact fun _ =>.any v
  | bool b =>exact fun _ =>.bool b
  | int k n =>exact fun _ =>.int k n
  | str s hs =>exact fun _ =>.str s hs
  | agg cs xs hs _ ih =>
    intro h
    refine .agg cs xs hs fun j v x hv hx =>ih j v x hv hx ?_
    unfold noT at h
    exact noTs_mem h x (List.mem_of_getElem? hx)
  | tup cs xs hs _ ih =>
    intro h
    refine .tup cs xs hs fun j v x hv hx =>ih j v x hv hx ?_
    unfold noT at h
    exact noTs_mem h x (List.mem_of_getElem? hx)
  | listNil e a =>exact fun _ =>.listNil e a
  | list e xs b off c f hc hm hd hz hv _ ih =>
    intro h
    unfold noT at h
    simp only [Bool.and_eq_true,Bool.not_eq_true'] at h
    refine .list e xs b off c f hc hm (hD b e hd h.1) hz hv fun i x hx j y hy =>ih i x hx j y hy ?_
    have hx':=noTs_mem h.2 x (List.mem_of_getElem? hx)
    cases x with
    | agg cs =>unfold noT at hx'; exact noTs_mem hx' y (List.mem_of_getElem? hy)
    | _ =>
      have e1 : y ∈ [_]:=List.mem_of_getElem? hy
      rw [List.mem_singleton] at e1
      rw [e1]; exact hx'
  | slNil =>exact fun _ =>.slNil
  | sl b len cap =>exact fun _ =>.sl b len cap
  | ptr b off =>exact fun _ =>.ptr b off
  | rref b sz i o =>exact fun _ =>.rref b sz i o
  | eref e xs b off f hd hv _ ih =>
    intro h
    unfold noT at h
    simp only [Bool.and_eq_true,Bool.not_eq_true'] at h
    exact .eref e xs b off f (hD b e hd h.1) hv fun j y hy =>ih j y hy (noTs_mem h.2 y (List.mem_of_getElem? hy))
  | nilptr =>exact fun _ =>.nilptr
  | nilmap =>exact fun _ =>.nilmap
  | nilfn =>exact fun _ =>.nilfn
  | flNil e =>exact fun _ =>.flNil e
  | fl e xs a n hn' _ ih =>
    intro h
    refine .fl e xs a n hn' (ih ?_)
    unfold noT at h ⊢
    exact h
  | clo fn fi ca xs ys hs _ hs' _ ih ih' =>intro h; unfold noT at h; cases h
  | map b =>exact fun _ =>.map b
  | iface t v x _ ih =>intro h; unfold noT at h; exact .iface t v x (ih h)
  | nilif =>exact fun _ =>.nilif
  | iter b v =>exact fun _ =>.iter b v
  | sub b sz o len cap =>exact fun _ =>.sub b sz o len cap
  | subNil a b sz o cap =>exact fun _ =>.subNil a b sz o cap
  | ap0 a =>exact fun _ =>.ap0 a
  | ap a i off b h =>exact fun _ =>.ap a i off b (hn a i b h)
  | ifo0 t x =>exact fun _ =>.ifo0 t x
  | ifo1 t v x _ ih =>intro h; unfold noT at h; exact .ifo1 t v x (ih h)
def noH (es : List Nat) : HE→Bool
  | .row _ _ _ xs =>noTs es xs
  | _ =>false
theorem noT_cells {es : List Nat} {x : VV} (h : noT es x = true) : ∀ y,y ∈ x.cells→noT es y = true:=by
  intro y hy
  cases x with
  | agg cs =>unfold noT at h; exact noTs_mem h y hy
  | _ =>simp only [VV.cells,List.mem_singleton] at hy; subst hy; exact h
theorem noH_rel {es : List Nat} {D' : Cx} {h : HE} (hD : ∀ b e,D b e→es.contains e = false→D' b e) (hn : ∀ a i b,D.nm a i b→D'.nm a i b) (hf : noH es h = true) (r : HR P D w h) : HR P D' w h:=by
  cases h with
  | row b e cap xs =>
    cases b with
    | none =>exact r
    | some b =>
      obtain ⟨arr,h1,h2,h3,h4,h5,h6⟩:=r
      refine ⟨arr,h1,h2,h3,h4,h5,fun j v y hv hy =>?_⟩
      obtain ⟨x,hx,hyx⟩:=List.mem_flatMap.1 (List.mem_of_getElem? hy)
      exact noT_rd hD hn (h6 j v y hv hy) (noT_cells (noTs_mem hf x hx) y hyx)
  | _ =>simp [noH] at hf
theorem VO.callT (es : List Nat) {env' : Env} {H' : List HE} (hsh : LS es P env H env' H') (ns : List Hn) {f : FuncId} {fo : Operand} {args : Array Operand} {ats : Array TypeId} {fi ca xs : List VV} {R : VV→List HE→Prop} (hfo : ev env' fo = some (.clo (.func f) fi ca)) (hf : fnB P f = true)
    (hx : evlN env' ns args.toList = some xs) (hc : VC P f (fi++xs++ca) [] R) (kk : ∀ x H1,R x H1→noT es x = true∧(∀ h,h ∈ H1→noH es h = true)∧K x (H1++H)) : VO P N ⟨dst,.call ⟨.value fo,args,ats⟩,ty,pos,aft,g⟩ env H K:=by
  intro D w a hs hr hi next Qx hn
  obtain ⟨D1,hr1,hi1,hF1,hD1,hN1⟩:=hsh D w a.tmps hr hi
  obtain ⟨h1,h2⟩:=evlN_rel (P:=P) (D:=D1) (w:=w) hr1 ns _ _ hx
  have hrd:=ev_rd hfo hr1
  generalize hv : a.eval fo = v at hrd
  cases hrd with
  | clo fn fa cs _ _ hs1 hr1 hs2 hr2 =>
    have hrun : (execOp a.eval ⟨dst,.call ⟨.value fo,args,ats⟩,ty,pos,aft,g⟩).run P w = .ok (.enter f (fa++args.map a.eval++cs)) w:=by
      simp only [execOp,resolve,hv,Deferred.ofValue,Sem.run_bind,Sem.run_pure,Result.andThen_ok,invoke]
      exact run_callFunc hf _ w
    have hargs : ∀ (j : Nat) (v : Value) (x : VV),(fa++args.map a.eval++cs)[j]? = some v→(fi++xs++ca)[j]? = some x→Rd P D1 w v x:=by
      intro j v x hj hjx
      have e1 : fa.size = fi.length:=hs1
      have e2 : (args.map a.eval).size = xs.length:=by simpa using h1
      by_cases ha : j < fa.size
      · rw [Array.append_assoc,Array.getElem?_append_left ha] at hj
        rw [List.append_assoc,List.getElem?_append_left (by omega)] at hjx
        exact hr1 j v x hj hjx
      · by_cases hb : j < fa.size + (args.map a.eval).size
        · rw [Array.getElem?_append_left (by rw [Array.size_append]; exact hb),Array.getElem?_append_right (by omega)] at hj
          rw [List.getElem?_append_left (by rw [List.length_append]; omega),List.getElem?_append_right (by omega)] at hjx
          rw [e1] at hj
          simp only [Array.getElem?_map,Option.map_eq_some_iff] at hj
          obtain ⟨o,ho,rfl⟩:=hj
          exact h2 _ o x (by simpa using ho) hjx
        · rw [Array.getElem?_append_right (by rw [Array.size_append]; omega)] at hj
          rw [List.getElem?_append_right (by rw [List.length_append]; omega)] at hjx
          have e3 : (fa++args.map a.eval).size = (fi++xs).length:=by rw [Array.size_append,List.length_append]; omega
          rw [e3] at hj
          exact hr2 _ v x hj hjx
    unfold Oper.wp
    rw [hrun]
    have hi0 : Inv P D1 w ([]++H'):=hi1
    refine Calls.mono (hc D1 w _ ?_ hargs hi0.sub) ?_
    · simp only [Array.size_append,List.length_append,Array.size_map]
      rw [Array.length_toList] at h1
      omega
    · rintro e w' ⟨v,x,H1,D',rfl,hR,hrv,hi',hf'⟩
      obtain ⟨hfl,hall,hK⟩:=kk x H1 hR
      have hnw : ∀ b,b ∈ blks H1→w.heap.size≤b:=fun b hb =>by
        rcases hf'.hnew b hb with h | h
        · cases h
        · exact h
      -- what may be read behind: what could be read ahead,and what is new
      let D2 : Cx:=⟨fun b e =>D' b e∧(D b e∨w.heap.size≤b),fun a i b =>D.nm a i b⟩
      have hback : ∀ b e,D' b e→D1 b e∨w.heap.size≤b:=fun b e hd =>by
        rcases hf'.dnew b e hd with h | h | h
        · exact .inl h
        · cases h
        · exact .inr h
      have hD2 : ∀ b e,D' b e→es.contains e = false→D2 b e:=fun b e hd he =>⟨hd,by
        rcases hback b e hd with h | h
        · rcases hD1 b e h with h | h
          · exact .inl h
          · rw [h] at he; cases he
        · exact .inr h⟩
      have hnm : ∀ a i b,D'.nm a i b→D2.nm a i b:=fun a i b hd =>by
        rcases hf'.nnew a i b hd with h | h
        · exact hN1 a i b h
        · cases h
      have hI0 : Inv P D2 w' H1:=⟨hi'.nodup,hi'.lt,fun b e hd =>hi'.apart b e hd.1,fun b e hd =>hi'.dlt b e hd.1,fun h hh =>noH_rel hD2 hnm (hall h hh) (hi'.rel h hh),hi'.arn⟩
      have hF0 : Fr D w [] D2 w' H1:=⟨hf'.size,hf'.prot,fun b e hd =>⟨hf'.dmono b e (hF1.dmono b e hd),.inl hd⟩,fun b e hd =>hd.2.elim .inl (fun h =>.inr (.inr h)),fun b hb =>.inr (hnw b hb),hf'.os,hf'.tape,hf'.output,fun _ _ _ h =>h,fun _ _ _ h =>.inl h,hf'.anew⟩
      have hi2 : Inv P D w ([]++H):=hi
      obtain ⟨hI,hF⟩:=hi2.frame hI0 hF0
      exact hn v x (H1++H) D2 w' hK (noT_rd hD2 hnm hrv hfl) hI hF
end
section
variable {P : Program} {N : Nat} {env : Env} {H : List HE}
def Post.sh (P : Program) (Q : Post) : Post
  | .normal,env,H =>∃ env' H',Shift P env H env' H'∧Q .normal env' H'
  | e,env,H =>Q e env H
theorem Shift.refl : Shift P env H env H:=fun D w t hr hi =>⟨D,hr,hi,Fr.refl D w H⟩
end
end Go.Proofs.YtbgfffdnaijmhaaGreat.V

/-
  The logic over plain values: rows of one's own. Own text.
-/
import Derived.Test.YtkondhigbbgidaaGreatVMem2
import Derived.Lib.AppendStr
import Derived.Laws.OwnMore
import Derived.Laws.Slices
import Derived.Laws.BytesArg
import Derived.Deep.AppendSrc
import Derived.Deep.Upon
namespace Go.Proofs.YtkondhigbbgidaaGreat.V
open Go
set_option linter.unusedVariables false
section
variable {P : Program} {N : Nat} {env : Env} {H : List HE} {K : VV→List HE→Prop} {D : Cx} {w : World}
variable {dst : Option Tmp} {ty : TypeId} {pos : String} {aft : Array Edge} {g : Option (Nat × Bool)}
def apB (P : Program) (t e : TypeId) (sz by_ : Nat) : Bool :=
 elB P t e sz && (match P.info? e with | some i =>i.bytes == by_ && (match i.zero with | some z =>z.cells.size == sz | none =>false) | none =>false) && decide (0 < sz)
theorem apB_el {t e : TypeId} {sz by_ : Nat} (h : apB P t e sz by_ = true) : elB P t e sz = true:=by
 unfold apB at h; simp only [Bool.and_eq_true] at h; exact h.1.1
theorem apB_info {t e : TypeId} {sz by_ : Nat} (h : apB P t e sz by_ = true) : ∃ i z,P.info? e = some i∧i.zero = some z∧i.size = sz∧i.bytes = by_∧z.cells.size = sz∧0 < sz:=by
 have hel:=apB_el h
 obtain ⟨i,hi,hs⟩:=elB_info hel
 unfold apB at h
 simp only [Bool.and_eq_true,hi,beq_iff_eq,decide_eq_true_eq] at h
 obtain ⟨⟨_,h1,h2⟩,h3⟩:=h
 cases hz : i.zero with
 | none =>simp [hz] at h2
 | some z =>simp only [hz,beq_iff_eq] at h2; exact ⟨i,z,hi,hz,hs,h1,h2,h3⟩
theorem row_owns {ob : Option Nat} {e : TypeId} {cap : Nat} {xs : List VV} {sz : Nat} (hsz : P.cellsOf e = sz) (hr : HR P D w (.row ob e cap xs)) {v : Value} (hv : Rd P D w v (.sl ob xs.length cap))
  (hx : ∀ b arr,ob = some b→w.heap[b]? = some (.cells arr e (0,0))→arr.size = cap * sz) :
  ∃ vals : List Value,w.ownsRow 0 e sz v xs.length vals∧v.ownBlock = ob∧vals.length = xs.length * sz∧(∀ x,x ∈ xs→x.el sz)∧∀ (j : Nat) (u : Value) (y : VV),vals[j]? = some u→(flat xs)[j]? = some y→Rd P D w u y:=by
 cases ob with
 | none =>
  obtain ⟨h1,h2⟩:=hr
  subst h1; subst h2
  cases hv
  exact ⟨[],World.ownsRow_nil w 0 e sz,rfl,by simp,by simp,by simp⟩
 | some b =>
  obtain ⟨arr,h1,h2,h3,h4,h5,h6⟩:=hr
  have h2:=hx b arr rfl h1
  rw [hsz] at h5
  cases hv
  have hl : xs.length * sz≤arr.size:=by rw [h2]; exact Nat.mul_le_mul_right _ h3
  refine ⟨arr.toList.take (xs.length * sz),⟨by simp; omega,.inr ⟨b,cap,arr,rfl,Nat.zero_le _,h1,h3,h4,h2,rfl⟩⟩,rfl,by simp; omega,h5,fun j u y hu hy =>?_⟩
  rw [List.getElem?_take] at hu
  split at hu
  ·exact h6 j u y (by simpa using hu) hy
  ·cases hu
theorem row_exact {ob : Option Nat} {e : TypeId} {cap : Nat} {xs : List VV} {sz : Nat} (hsz : P.cellsOf e = sz) (h1 : sz = 1) (hr : HR P D w (.row ob e cap xs)) : ∀ b arr,ob = some b→w.heap[b]? = some (.cells arr e (0,0))→arr.size = cap * sz:=by
 intro b arr hb ha
 subst hb
 obtain ⟨arr',g1,g2,_⟩:=hr
 rw [g1] at ha
 cases ha
 rcases g2 with g2 | g2
 ·rw [g2,hsz]
 ·omega
def SrcV (P : Program) (D : Cx) (w : World) (sz : Nat) (v : Value) (ys : List VV) : Prop :=
 (v = .slice none 0 0∧ys = [])∨∃ (a : Addr) (c : Nat) (vals : List Value),v = .slice (some a) ys.length c∧vals.length = ys.length * sz∧(∀ (j : Nat) (u : Value),vals[j]? = some u→w.cell? (a.add j) = some u) ∧
  (∀ y,y ∈ ys→y.el sz)∧∀ (j : Nat) (u : Value) (y : VV),vals[j]? = some u→(flat ys)[j]? = some y→Rd P D w u y
theorem srcRow {ob : Option Nat} {e : TypeId} {cap : Nat} {xs : List VV} {sz : Nat} (hsz : P.cellsOf e = sz) (hr : HR P D w (.row ob e cap xs)) {v : Value} (hv : Rd P D w v (.sl ob xs.length cap)) : SrcV P D w sz v xs:=by
 cases ob with
 | none =>
  obtain ⟨h1,h2⟩:=hr
  subst h1; subst h2
  cases hv
  exact Or.inl ⟨rfl,rfl⟩
 | some b =>
  obtain ⟨arr,h1,h2,h3,h4,h5,h6⟩:=hr
  rw [hsz] at h2 h5
  have h2 : cap * sz≤arr.size:=by rcases h2 with h2 | h2<;>omega
  have hl : xs.length * sz≤arr.size:=Nat.le_trans (Nat.mul_le_mul_right _ h3) h2
  cases hv
  refine Or.inr ⟨⟨b,0,none⟩,cap,arr.toList.take (xs.length * sz),rfl,by simp; omega,fun j u hu =>?_,h5,fun j u y hu hy =>?_⟩
  ·rw [List.getElem?_take] at hu
   split at hu
   ·rw [Addr.add_mk,cell_of_row w b _ arr e (0,0) h1,Nat.zero_add]; simpa using hu
   ·cases hu
  ·rw [List.getElem?_take] at hu
   split at hu
   ·exact h6 j u y (by simpa using hu) hy
   ·cases hu
theorem owns_row {e : TypeId} {sz n : Nat} {v : Value} {vals : List Value} {xs : List VV} (hsz : P.cellsOf e = sz) (ho : w.ownsRow 0 e sz v n vals) (hn : n = xs.length) (hz : ∀ x,x ∈ xs→x.el sz)
  (hr : ∀ (j : Nat) (u : Value) (y : VV),vals[j]? = some u→(flat xs)[j]? = some y→Rd P D w u y) :
  ∃ cap,HR P D w (.row v.ownBlock e cap xs)∧Rd P D w v (.sl v.ownBlock n cap)∧∀ b,v.ownBlock = some b→b < w.heap.size:=by
 rcases ho.2 with ⟨rfl,rfl⟩ | ⟨b,cap,arr,rfl,_,h1,h2,h3,h4,h5⟩
 ·exact ⟨0,⟨List.eq_nil_of_length_eq_zero hn.symm,rfl⟩,.slNil,fun b hb =>by cases hb⟩
 ·refine ⟨cap,⟨arr,h1,.inl (by rw [hsz]; exact h4),by omega,h3,by rw [hsz]; exact hz,fun j u y hu hy =>?_⟩,.sl _ _ _,fun b' hb =>?_⟩
  ·have hj : j < n * sz:=by
    have:=(List.getElem?_eq_some_iff.1 hy).1
    rw [flat_length hz,← hn] at this
    exact this
   refine hr j u y ?_ hy
   rw [← h5,List.getElem?_take_of_lt hj]
   simpa using hu
  ·simp only [Value.ownBlock,Option.some.injEq] at hb
   subst hb
   exact (Array.getElem?_eq_some_iff.1 h1).1
theorem rel_append {w' : World} {vals news : List Value} {xs ys : List VV} {n : Nat} (hl : vals.length = (flat xs).length) (h1 : ∀ (j : Nat) (u : Value) (y : VV),vals[j]? = some u→(flat xs)[j]? = some y→Rd P D w' u y)
  (h2 : ∀ (j : Nat) (u : Value) (y : VV),news[j]? = some u→(flat ys)[j]? = some y→Rd P D w' u y) :
  ∀ (j : Nat) (u : Value) (y : VV),(vals++news)[j]? = some u→(flat (xs++ys))[j]? = some y→Rd P D w' u y:=by
 intro j u y hu hy
 rw [flat_append] at hy
 by_cases hj : j < vals.length
 ·rw [List.getElem?_append_left hj] at hu
  rw [List.getElem?_append_left (by omega)] at hy
  exact h1 j u y hu hy
 ·rw [List.getElem?_append_right (by omega)] at hu hy
  rw [hl] at hu
  exact h2 _ u y hu hy
theorem run_append_src {t e : TypeId} {sz by_ : Nat} {ys : List VV} {v x : Value} {n : Nat} {vals : List Value} (ht : apB P t e sz by_ = true) (ho : w.ownsRow 0 e sz v n vals) (hx : SrcV P D w sz x ys)
  (h1 : n + ys.length≤maxLen) (h2 : (n + ys.length) * by_≤140737488355328) (rt : TypeId) :
  ∃ v' w' news,(Builtin.append_ #[t,t] rt #[v,x]).run P w = .ok v' w'∧w'.ownsRow 0 e sz v' (n + ys.length) (vals++news)∧w.grownBy w' v.ownBlock∧(v'.ownBlock = v.ownBlock∨v'.ownBlock = some w.heap.size) ∧
   (∀ y,y ∈ ys→y.el sz)∧(∀ (j : Nat) (u : Value) (y : VV),news[j]? = some u→(flat ys)[j]? = some y→Rd P D w u y):=by
 obtain ⟨i,z,hi,hz,hs,hb,hzs,hp⟩:=apB_info ht
 have hu:=elB_und (apB_el ht)
 rcases hx with ⟨rfl,rfl⟩ | ⟨a,c,news,rfl,hl,hc,hy,hr⟩
 ·refine ⟨v,w,[],?_,by simpa using ho,⟨rfl,rfl,rfl,Nat.le_refl _,fun _ _ _ =>rfl⟩,.inl rfl,by simp,by simp⟩
  exact run_append_owned_none w 0 t rt e i sz hu hi v n vals ho
 ·have one : ∀ u ∈ news,u.oneCell' = true:=by
   intro u hu'
   obtain ⟨j,hj,rfl⟩:=List.mem_iff_getElem.1 hu'
   have hjf : j < (flat ys).length:=by rw [flat_length hy,← hl]; exact hj
   exact (one_cell (hr j _ _ (List.getElem?_eq_getElem hj) (List.getElem?_eq_getElem hjf)) (flat_one hy _ (List.getElem_mem _))).1
  obtain ⟨v',w',g1,g2,g3,_,g5⟩:=run_append_own_at w 0 t rt e i z sz by_ hu hi hz hs hb hzs hp v n vals ho a ys.length c news hl hc one h1 h2 (Nat.zero_le _)
  exact ⟨v',w',news,g1,g2,g3,g5,hy,hr⟩
theorem src_of {D : Cx} {w : World} {sz : Nat} {t e : TypeId} {x : Value} {ys : List VV} (hk : P.underlying t = some (.slice e)) (h : SrcV P D w sz x ys) : ∃ news,Src P sz t x ys.length news w∧(∀ y,y ∈ ys→y.el sz)∧∀ (j : Nat) (u : Value) (y : VV),news[j]? = some u→(flat ys)[j]? = some y→Rd P D w u y:=by
 rcases h with ⟨rfl,rfl⟩ | ⟨a,c,vals,rfl,h1,h2,h3,h4⟩
 ·exact ⟨[],Src.ofNil w hk 0,by simp,by simp⟩
 ·refine ⟨vals,Src.ofSlice w hk a ys.length c vals h1 h2 fun u hu =>?_,h3,h4⟩
  obtain ⟨j,hj,rfl⟩:=List.mem_iff_getElem.1 hu
  have hjf : j < (flat ys).length:=by rw [flat_length h3,← h1]; exact hj
  exact (one_cell (h4 j _ _ (List.getElem?_eq_getElem hj) (List.getElem?_eq_getElem hjf)) (flat_one h3 _ (List.getElem_mem _))).1
theorem run_append_room_row (t tx ty e : TypeId) (i : TypeInfo) (ht : P.underlying t = some (.slice e)) (hi : P.info? e = some i) (b sLen sCap : Nat) (x : Value) (n : Nat) (news : List Value) (hs : Src P i.size tx x n news w)
  (hroom : sLen + n≤sCap) (arr : Array Value) (hg : w.heap[b]? = some (.cells arr e (0,0))) (hfit : sLen * i.size + news.length≤arr.size) :
  (Builtin.append_ #[t,tx] ty #[.slice (some ⟨b,0,none⟩) sLen sCap,x]).run P w = .ok (.slice (some ⟨b,0,none⟩) (sLen + n) sCap) (w.setRow b (arr.toList.take (sLen * i.size)++news++arr.toList.drop (sLen * i.size + news.length)).toArray):=by
 have hst:=run_storeCells_at P b (sLen * i.size) e news 0 arr w hg (by simpa using hfit) hs.one
 simp only [Nat.add_zero] at hst
 rcases hs.kind with ⟨e',hk⟩ | hk<;>simp [Builtin.append_,run_underlying ht,run_underlying hk,sizeOf,typeInfo,hi,hs.len,hroom,hs.cells,Addr.add_lit,hst]
theorem row_grow {t e : TypeId} {sz by_ len sc : Nat} {base : Option Addr} {xs ys : List VV} {i : TypeInfo} {z sv x : Value} (ht : apB P t e sz by_ = true) (hlen : len = xs.length) (hsv : sv = .slice base len sc) (hg : sc < xs.length + ys.length) (ho : SrcV P D w sz sv xs) (hx : ∃ news,Src P sz t x ys.length news w∧(∀ y,y ∈ ys→y.el sz)∧∀ (j : Nat) (u : Value) (y : VV),news[j]? = some u→(flat ys)[j]? = some y→Rd P D w u y) (hi : Inv P D w H)
  (h1 : xs.length + ys.length≤maxLen) (h2 : (xs.length + ys.length) * by_≤140737488355328) (rt : TypeId) :
  ∃ cap' w',(Builtin.append_ #[t,t] rt #[sv,x]).run P w = .ok (.slice (some ⟨w.heap.size,0,none⟩) (xs.length + ys.length) cap') w'∧w'.heap.size = w.heap.size + 1∧(∀ k,k < w.heap.size→w'.heap[k]? = w.heap[k]?)∧w'.os = w.os∧w'.tape = w.tape∧w'.output = w.output ∧
   HR P D w' (.row (some w.heap.size) e cap' (xs++ys)):=by
 subst hlen; subst hsv
 have hut:=elB_und (apB_el ht)
 have hsc:=elB_cells (apB_el ht)
 obtain ⟨i,z,hie,hz,hs1,hb,hzs,hpos⟩:=apB_info ht
 obtain ⟨olds,o1,o2,o3⟩:=src_of (P:=P) hut ho
 obtain ⟨news,q1,q2,q3⟩:=hx
 have hcellsD:=o1.cellsD
 have hrun0:=run_append_grow_src (P:=P) (w:=w) t t rt e i z hut hie hz base xs.length sc olds (by rw [hs1]; simpa using hcellsD) x ys.length news (by rw [hs1]; exact q1) (by omega) (by unfold maxLen at h1; omega) (by rw [hb]; exact growslice_fits (by omega) (by omega))
 have hge:=grownCap_ge w (xs.length + ys.length) sc e
 have hle:=grownCap_le_maxLen w (xs.length + ys.length) sc e h1
 have hol : olds.length = (flat xs).length:=by rw [flat_length o2]; exact o1.newsLen
 have hnl : news.length = (flat ys).length:=by rw [flat_length q2]; exact q1.newsLen
 have hfl : (flat (xs++ys)).length = (olds++news).length:=by rw [flat_append,List.length_append,List.length_append,hol,hnl]
 refine ⟨_,_,hrun0,by show (w.drew.heap.push _).size = _; rw [Array.size_push]; rfl,fun k hk =>alloc_old w.drew _ k hk,rfl,rfl,rfl,?_⟩
 refine ⟨_,alloc_new w.drew _,.inl ?_,by rw [List.length_append]; exact hge,hle,fun y hy =>?_,?_⟩
 ·rw [Array.size_append,size_zeroCells,hzs,hsc]
  have h2 : (olds++news).toArray.size = (xs.length + ys.length) * sz:=by
   rw [List.size_toArray,List.length_append,hol,hnl,flat_length o2,flat_length q2,Nat.add_mul]
  rw [h2,← Nat.add_mul]
  congr 1
  omega
 ·rw [hsc]
  rcases List.mem_append.1 hy with h | h
  ·exact o2 y h
  ·exact q2 y h
 ·intro j v y hj hy
  have hjl : j < (olds++news).length:=by rw [← hfl]; exact (List.getElem?_eq_some_iff.1 hy).1
  have hj2 : (olds++news)[j]? = some v:=by
   rw [Array.getElem?_append_left (by simpa using hjl)] at hj
   simpa using hj
  have hk' : Rd P D w v y:=by
   rw [flat_append] at hy
   by_cases p : j < olds.length
   ·rw [List.getElem?_append_left p] at hj2
    rw [List.getElem?_append_left (by omega)] at hy
    exact o3 j v y hj2 hy
   ·rw [List.getElem?_append_right (by omega)] at hj2
    rw [List.getElem?_append_right (by omega),← hol] at hy
    exact q3 _ v y hj2 hy
  exact hk'.mono (fun _ _ h =>h) (fun _ _ _ h =>h) (fun b' e' hd =>by
   have:=hi.dlt b' e' hd
   exact alloc_old w.drew _ _ this)
theorem VO.append {t e : TypeId} {s x : Operand} {sz by_ : Nat} {ob : Option Nat} {cap i : Nat} {xs ys : List VV} (ht : apB P t e sz by_ = true) (hs : ev env s = some (.sl ob xs.length cap)) (hh : H[i]? = some (.row ob e cap xs))
  (hx : ∀ (D : Cx) (w : World) (a : Act),RE P D w env a.tmps→Inv P D w H→SrcV P D w sz (a.eval x) ys) (h1 : xs.length + ys.length≤maxLen) (h2 : (xs.length + ys.length) * by_≤140737488355328)
  (k : ∀ ob' cap',K (.sl ob' (xs.length + ys.length) cap') (H.set i (.row ob' e cap' (xs++ys)))) : VO P N ⟨dst,.call ⟨.builtin .append,#[s,x],#[t,t]⟩,ty,pos,aft,g⟩ env H K:=by
 intro D w a hsz hr hi next Qx hn
 have hsc:=elB_cells (apB_el ht)
 have hrow:=hi.rel _ (List.mem_of_getElem? hh)
 by_cases hex : ∀ b arr,ob = some b→w.heap[b]? = some (.cells arr e (0,0))→arr.size = cap * sz
 case neg =>
  -- a row that is full,in a greater block
  cases ob with
  | none =>exact absurd (fun b arr h =>by cases h) hex
  | some b =>
   have hsrc:=srcRow hsc hrow (ev_rd hs hr)
   obtain ⟨arr,e1,e2,e3,e4,e5,e6⟩:=hrow
   have e2' : cap * sz≤arr.size:=by rw [hsc] at e2; rcases e2 with e2 | e2<;>omega
   have hsv : a.eval s = .slice (some ⟨b,0,none⟩) xs.length cap:=by
    have:=ev_rd hs hr
    generalize a.eval s = q at this
    cases this
    rfl
   obtain ⟨it,iz,hie,hz,hs1,hb,hzs,hpos⟩:=apB_info ht
   by_cases hroom : xs.length + ys.length≤cap
   ·obtain ⟨news,q1,q2,q3⟩:=src_of (elB_und (apB_el ht)) (hx D w a hr hi)
    have hnl : news.length = ys.length * sz:=q1.newsLen
    have hfit : (xs.length + ys.length) * sz≤cap * sz:=Nat.mul_le_mul_right _ hroom
    rw [Nat.add_mul] at hfit
    have hrun0:=run_append_room_row (P:=P) t t ty e it (elB_und (apB_el ht)) hie b xs.length cap (a.eval x) ys.length news (by rw [hs1]; exact q1) hroom arr e1 (by rw [hs1,hnl]; omega)
    rw [hs1] at hrun0
    have hrun : (execOp a.eval ⟨dst,.call ⟨.builtin .append,#[s,x],#[t,t]⟩,ty,pos,aft,g⟩).run P w = .ok (.value (.slice (some ⟨b,0,none⟩) (xs.length + ys.length) cap)) (w.setRow b (arr.toList.take (xs.length * sz)++news++arr.toList.drop (xs.length * sz + news.length)).toArray):=by
     simp [execOp,resolve,invoke,builtin,hsv,hrun0]
    refine wp_value_of hrun ?_
    have hmem : b ∈ blks H:=mem_blks (List.mem_of_getElem? hh) (by simp [HE.bl])
    have hD : ∀ b' e',D b' e'→(w.setRow b (arr.toList.take (xs.length * sz)++news++arr.toList.drop (xs.length * sz + news.length)).toArray).heap[b']? = w.heap[b']?:=fun b' e' hd =>
     setRow_other w b b' _ (fun e'' =>hi.apart b' e' hd (by subst e''; exact hmem))
    have hxs : xs.length * sz≤arr.size:=by omega
    rw [hsc] at e2 e5
    have hfl : (flat xs).length = xs.length * sz:=flat_length e5
    have hsz9 : (arr.toList.take (xs.length * sz)++news++arr.toList.drop (xs.length * sz + news.length)).toArray.size = arr.size:=by
     simp only [List.size_toArray,List.length_append,List.length_take,List.length_drop,Array.length_toList,hnl]
     omega
    obtain ⟨hI,hF⟩:=hi.turnAt (w':=w.setRow b (arr.toList.take (xs.length * sz)++news++arr.toList.drop (xs.length * sz + news.length)).toArray) (h':=.row (some b) e cap (xs++ys)) hh (by simp) rfl rfl rfl
     (fun k' _ hk =>setRow_other w b k' _ (fun e'' =>hk (by subst e''; rfl)))
     (fun b' hb' =>by simp only [HE.blk,Option.some.injEq] at hb'; subst hb'; exact ⟨.inl rfl,by simpa using (Array.getElem?_eq_some_iff.1 e1).1⟩)
     ⟨_,setRow_heap w b arr _ e (0,0) e1,by rw [hsz9,hsc]; exact e2,by rw [List.length_append]; exact hroom,e4,fun y hy =>by
       rw [hsc]
       rcases List.mem_append.1 hy with h | h
       ·exact e5 y h
       ·exact q2 y h,fun j v y hv hy =>by
      refine Rd.mono ?_ (fun _ _ h =>h) (fun _ _ _ h =>h) hD
      rw [flat_append] at hy
      rw [List.append_assoc,List.getElem?_toArray] at hv
      by_cases hj : j < (flat xs).length
      ·rw [List.getElem?_append_left hj] at hy
       rw [List.getElem?_append_left (show j < (arr.toList.take (xs.length * sz)).length by rw [List.length_take,show arr.toList.length = arr.size from rfl]; omega),List.getElem?_take_of_lt (by omega)] at hv
       exact e6 j v y (by simpa using hv) hy
      ·rw [List.getElem?_append_right (by omega)] at hy
       have hl9 : (arr.toList.take (xs.length * sz)).length = xs.length * sz:=by rw [List.length_take,Array.length_toList]; exact Nat.min_eq_left hxs
       rw [List.getElem?_append_right (by omega),hl9] at hv
       rw [hfl] at hy
       have hjy:=(List.getElem?_eq_some_iff.1 hy).1
       rw [flat_length q2] at hjy
       rw [List.getElem?_append_left (by omega)] at hv
       exact q3 _ v y hv hy⟩
    exact hn _ _ _ D _ (k (some b) cap) (.sl _ _ _) hI hF
   ·obtain ⟨cap',w',g1,g2,g3,g4,g5,g6,g7⟩:=row_grow (z:=iz) (i:=it) ht rfl hsv (by omega) hsrc (src_of (elB_und (apB_el ht)) (hx D w a hr hi)) hi h1 h2 ty
    have hrun : (execOp a.eval ⟨dst,.call ⟨.builtin .append,#[s,x],#[t,t]⟩,ty,pos,aft,g⟩).run P w = .ok (.value (.slice (some ⟨w.heap.size,0,none⟩) (xs.length + ys.length) cap')) w':=by
     simp [execOp,resolve,invoke,builtin,g1]
    refine wp_value_of hrun ?_
    obtain ⟨hI,hF⟩:=hi.turnAt (w':=w') (h':=.row (some w.heap.size) e cap' (xs++ys)) hh (by omega) g4 g5 g6 (fun k' hk _ =>g3 k' hk)
     (fun b' hb' =>by simp only [HE.blk,Option.some.injEq] at hb'; subst hb'; exact ⟨.inr (Nat.le_refl _),by omega⟩) g7
    exact hn _ _ _ D w' (k (some w.heap.size) cap') (.sl _ _ _) hI hF
 obtain ⟨vals,ho,hob,hl,hel,hrd⟩:=row_owns hsc hrow (ev_rd hs hr) hex
 obtain ⟨v',w',news,g1,g2,g3,g5,g6,g7⟩:=run_append_src (D:=D) ht ho (hx D w a hr hi) h1 h2 ty
 have hrun : (execOp a.eval ⟨dst,.call ⟨.builtin .append,#[s,x],#[t,t]⟩,ty,pos,aft,g⟩).run P w = .ok (.value v') w':=by
  simp [execOp,resolve,invoke,builtin,g1]
 refine wp_value_of hrun ?_
 have hD : ∀ b e,D b e→w'.heap[b]? = w.heap[b]?:=fun b e' hd =>g3.block b (hi.dlt b e' hd) (fun e2 =>by
  rw [hob] at e2
  exact hi.apart b e' hd (mem_blks (List.mem_of_getElem? hh) (by rw [← e2]; simp [HE.bl])))
 have hall:=rel_append (n:=0) (P:=P) (D:=D) (w':=w') (by rw [hl,flat_length hel]) (fun j u y hu hy =>(hrd j u y hu hy).mono (fun _ _ h =>h) (fun _ _ _ h =>h) hD) (fun j u y hu hy =>(g7 j u y hu hy).mono (fun _ _ h =>h) (fun _ _ _ h =>h) hD)
 obtain ⟨cap',q1,q2,q3⟩:=owns_row (P:=P) (D:=D) hsc g2 (xs:=xs++ys) (by simp) (fun x hx =>by rcases List.mem_append.1 hx with h | h; exact hel x h; exact g6 x h) hall
 obtain ⟨hI,hF⟩:=hi.turnAt (w':=w') (h':=.row v'.ownBlock e cap' (xs++ys)) hh g3.size g3.os g3.tape g3.output (fun k' hk hne =>g3.block k' hk (by rw [hob]; exact hne))
  (fun b hb =>⟨by
   simp only [HE.blk] at hb ⊢
   rcases g5 with h | h
   ·rw [h,hob] at hb; exact .inl hb
   ·rw [h,Option.some.injEq] at hb; exact .inr (by omega),q3 b hb⟩) q1
 exact hn v' _ _ D w' (k v'.ownBlock cap') q2 hI hF
theorem src_row {x : Operand} {e : TypeId} {sz : Nat} {ob : Option Nat} {cap j : Nat} {ys : List VV} (hsz : P.cellsOf e = sz) (hx : ev env x = some (.sl ob ys.length cap)) (hh : H[j]? = some (.row ob e cap ys)) :
  ∀ (D : Cx) (w : World) (a : Act),RE P D w env a.tmps→Inv P D w H→SrcV P D w sz (a.eval x) ys :=
 fun D w a hr hi =>srcRow hsz (hi.rel _ (List.mem_of_getElem? hh)) (ev_rd hx hr)
end
end Go.Proofs.YtkondhigbbgidaaGreat.V

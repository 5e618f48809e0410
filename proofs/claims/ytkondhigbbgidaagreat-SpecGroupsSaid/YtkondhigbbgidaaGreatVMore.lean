/-
  The logic over plain values: pieces of slices and texts, turns of kinds, runes. Own text.
-/
import Derived.Test.YtkondhigbbgidaaGreatVShift
import Derived.Laws.RangeString
import Derived.Laws.IdiomStrings
import Derived.Laws.MakeOwn
namespace Go.Proofs.YtkondhigbbgidaaGreat.V
open Go
set_option linter.unusedVariables false
section
variable {P : Program} {N : Nat} {env : Env} {H : List HE} {K : VV→List HE→Prop} {D : Cx} {w : World} {Q : Post}
variable {dst : Option Tmp} {ty : TypeId} {pos : String} {aft : Array Edge} {g : Option (Nat × Bool)}
def evO (env : Env) : Option Operand→Option (Option Int)
 | none =>some none
 | some x =>match ev env x with | some (.int _ n) =>some (some n) | _ =>none
theorem evO_rd {a : Act} {o : Option Operand} {r : Option Int} (h : evO env o = some r) (hr : RE P D w env a.tmps) : (o = none∧r = none)∨∃ x k n,o = some x∧r = some n∧a.eval x = .int k n:=by
 cases o with
 | none =>simp only [evO,Option.some.injEq] at h; exact .inl ⟨rfl,h.symm⟩
 | some x =>
  simp only [evO] at h
  split at h
  ·rename_i k n hx
   simp only [Option.some.injEq] at h
   exact .inr ⟨x,k,n,rfl,h.symm,rd_int (ev_rd hx hr)⟩
  ·cases h
theorem run_bounds {isSlice : Bool} {len cap : Nat} {lo hi : Option Value} {l h : Nat} (hl : (lo = none∧l = 0)∨∃ k n,lo = some (.int k n)∧0≤n∧n.toNat = l) (hh : (hi = none∧h = len)∨∃ k n,hi = some (.int k n)∧0≤n∧n.toNat = h)
  (h1 : l≤h) (h2 : h≤cap) (h3 : hi = none∨h≤cap) (w : World) : (Instr.sliceBounds isSlice len cap lo hi none).run P w = .ok (l,h,cap) w:=by
 rcases hl with ⟨rfl,rfl⟩ | ⟨k,n,rfl,n0,rfl⟩<;>rcases hh with ⟨rfl,rfl⟩ | ⟨k',m,rfl,m0,rfl⟩ <;>
  simp only [Instr.sliceBounds,Sem.run_bind,Sem.run_pure,Result.andThen_ok,Instr.sliceBound,asIntOf,Option.isSome_none]
 ·rw [if_pos ⟨m0,by omega⟩]; simp
 ·rw [if_pos ⟨n0,by omega⟩]; simp
 ·rw [if_pos ⟨m0,by omega⟩]
  simp only [Sem.run_pure,Result.andThen_ok]
  rw [if_pos ⟨n0,by omega⟩]; simp
def lowN : Option Int→Nat
 | none =>0
 | some n =>n.toNat
def highN (len : Nat) : Option Int→Nat
 | none =>len
 | some n =>n.toNat
def nonneg : Option Int→Prop
 | none =>True
 | some n =>0≤n
theorem bnd_lo {a : Act} {o : Option Operand} {r : Option Int} (h : evO env o = some r) (hr : RE P D w env a.tmps) (h0 : nonneg r) : (o.map a.eval = none∧lowN r = 0)∨∃ k n,o.map a.eval = some (.int k n)∧0≤n∧n.toNat = lowN r:=by
 rcases evO_rd h hr with ⟨rfl,rfl⟩ | ⟨x,k,n,rfl,rfl,hx⟩
 ·exact .inl ⟨rfl,rfl⟩
 ·exact .inr ⟨k,n,by simp [hx],h0,rfl⟩
theorem bnd_hi {a : Act} {o : Option Operand} {r : Option Int} {len : Nat} (h : evO env o = some r) (hr : RE P D w env a.tmps) (h0 : nonneg r) : (o.map a.eval = none∧highN len r = len)∨∃ k n,o.map a.eval = some (.int k n)∧0≤n∧n.toNat = highN len r:=by
 rcases evO_rd h hr with ⟨rfl,rfl⟩ | ⟨x,k,n,rfl,rfl,hx⟩
 ·exact .inl ⟨rfl,rfl⟩
 ·exact .inr ⟨k,n,by simp [hx],h0,rfl⟩
theorem VP.sliceS {t : TypeId} {x : Operand} {lo hi : Option Operand} {s : ByteArray} {l h : Option Int} (ht : P.underlying t = some .string) (hx : ev env x = some (.str s)) (hl : evO env lo = some l) (hh : evO env hi = some h) (l0 : nonneg l) (h0 : nonneg h)
  (h1 : lowN l≤highN s.size h) (h2 : highN s.size h≤s.size) : VP P N ⟨dst,.slice t x lo hi none,ty,pos,aft,g⟩ env H (.str (s.extract (lowN l) (highN s.size h))) :=
 fun D w a hs hr hinv =>by
  have hfact:=rd_size (ev_rd hx hr)
  have hv:=rd_str (ev_rd hx hr)
  have hb:=run_bounds (P:=P) (isSlice:=false) (len:=s.size) (cap:=s.size) (bnd_lo hl hr l0) (bnd_hi hh hr h0) h1 h2 (.inr h2)
  refine ⟨.string (s.extract (lowN l) (highN s.size h)),fun w1 hp1 =>?_,.str _ (by rw [ByteArray.size_extract]; omega)⟩
  simp only [execOp,Instr.sliceAt,Sem.run_bind,run_underlying ht,Result.andThen_ok,hv,Instr.slice,Option.map_none,Option.isSome_none,Sem.run_pure]
  simp [hb]
theorem VP.sliceL {t e : TypeId} {sz : Nat} {x : Operand} {lo hi : Option Operand} {xs : List VV} {l h : Option Int} (ht : elB P t e sz = true) (hx : ev env x = some (.list e xs)) (hl : evO env lo = some l) (hh : evO env hi = some h) (l0 : nonneg l)
  (h0 : nonneg h) (h1 : lowN l≤highN xs.length h) (h2 : highN xs.length h≤xs.length) : VP P N ⟨dst,.slice t x lo hi none,ty,pos,aft,g⟩ env H (.list e ((xs.take (highN xs.length h)).drop (lowN l))) :=
 fun D w a hs hr hinv =>by
  obtain ⟨i,hi1,hi2⟩:=elB_info ht
  have hu:=elB_und ht
  have hc:=elB_cells ht
  rcases rd_list (ev_rd hx hr) with ⟨⟨a0,q1⟩,q2⟩ | ⟨b,off,c,q1,q2,q3,q4,f,q5,q6⟩
  ·subst q2
   have e1 : highN ([] : List VV).length h = 0:=by simpa using h2
   have e2 : lowN l = 0:=by omega
   have hb:=run_bounds (P:=P) (isSlice:=true) (len:=0) (cap:=0) (bnd_lo hl hr l0) (bnd_hi (len:=0) hh hr h0) (by simpa using h1) (by simpa using h2) (.inr (by simpa using h2))
   refine ⟨.slice a0 0 0,fun w1 hp1 =>?_,by rw [e1,e2]; exact .listNil e a0⟩
   simp only [List.length_nil] at e1
   simp only [execOp,Instr.sliceAt,Sem.run_bind,run_underlying hu,Result.andThen_ok,q1,Instr.slice,Option.map_none,hb,e1,e2]
   simp [sizeOf,typeInfo,hi1]
  ·have hb:=run_bounds (P:=P) (isSlice:=true) (len:=xs.length) (cap:=c) (bnd_lo hl hr l0) (bnd_hi hh hr h0) h1 (Nat.le_trans h2 q2.1) (.inr (Nat.le_trans h2 q2.1))
   have hlen : ((xs.take (highN xs.length h)).drop (lowN l)).length = highN xs.length h - lowN l:=by simp; omega
   have hrun : ∀ a',(if c = lowN l then some (⟨b,off,none⟩ : Addr) else Option.map (fun (x : Addr) =>x.add (lowN l * sz)) (some ⟨b,off,none⟩)) = some a'→∀ w1 : World,
     (execOp a.eval ⟨dst,.slice t x lo hi none,ty,pos,aft,g⟩).run P w1 = .ok (.value (.slice (some a') (highN xs.length h - lowN l) (c - lowN l))) w1:=by
    intro a' ha' w1
    simp only [execOp,Instr.sliceAt,Sem.run_bind,run_underlying hu,Result.andThen_ok,q1,Instr.slice,Option.map_none,hb]
    have hsz : ∀ w : World,(sizeOf e).run P w = .ok sz w:=fun w =>by simp [sizeOf,typeInfo,hi1,hi2]
    simp only [hsz,Result.andThen_ok,Sem.run_pure,← ha']
   by_cases hcl : c = lowN l
   ·have hh0 : highN xs.length h - lowN l = 0:=by omega
    refine ⟨_,fun w1 _ =>hrun ⟨b,off,none⟩ (by rw [if_pos hcl]) w1,?_⟩
    have hnil : (xs.take (highN xs.length h)).drop (lowN l) = []:=List.eq_nil_of_length_eq_zero (by rw [hlen,hh0])
    rw [hnil,hh0]
    exact .list e [] b off _ (fun _ _ =>undef) (Nat.zero_le _) (by omega) q3 (by simp) (by simp) (by simp)
   ·refine ⟨_,fun w1 _ =>hrun ⟨b,off + lowN l * sz,none⟩ (by rw [if_neg hcl]; simp [Addr.add_mk]) w1,?_⟩
    rw [← hlen]
    refine .list e _ b (off + lowN l * sz) _ (fun i j =>f (lowN l + i) j) (by rw [hlen]; omega) (by omega) q3 (fun x hx =>q4 x (List.mem_of_mem_take (List.mem_of_mem_drop hx))) ?_ ?_
    ·intro i x hx j y hy
     rw [List.getElem?_drop,List.getElem?_take] at hx
     split at hx
     ·have:=q5 _ _ hx _ _ hy
      rw [hc] at this ⊢
      rw [← this]
      congr 2
      rw [Nat.add_mul]; omega
     ·cases hx
    ·intro i x hx j y hy
     rw [List.getElem?_drop,List.getElem?_take] at hx
     split at hx
     ·exact q6 _ _ hx _ _ hy
     ·cases hx
theorem VO.sliceR {t e : TypeId} {sz : Nat} {x : Operand} {hi : Operand} {ob : Option Nat} {cap i : Nat} {xs : List VV} {kd : IntKind} {n : Int} (ht : elB P t e sz = true) (hx : ev env x = some (.sl ob xs.length cap)) (hh : H[i]? = some (.row ob e cap xs))
  (hn : ev env hi = some (.int kd n)) (h0 : 0≤n) (h1 : n≤xs.length) (k : K (.sl ob (xs.take n.toNat).length cap) (H.set i (.row ob e cap (xs.take n.toNat)))) : VO P N ⟨dst,.slice t x none (some hi) none,ty,pos,aft,g⟩ env H K:=by
 intro D w a hs hr hinv next Qx hnext
 obtain ⟨j,hi1,hi2⟩:=elB_info ht
 have hu:=elB_und ht
 have hv:=rd_int (ev_rd hn hr)
 have hrow:=hinv.rel _ (List.mem_of_getElem? hh)
 have hrd:=ev_rd hx hr
 have hlen : (xs.take n.toNat).length = n.toNat:=by simp; omega
 have hle : n.toNat≤cap:=by
  cases ob with
  | none =>obtain ⟨e1,e2⟩:=hrow; rw [e1] at h1; simp at h1; omega
  | some b =>obtain ⟨arr,r1,r2,r3,r4⟩:=hrow; omega
 have hb:=run_bounds (P:=P) (isSlice:=true) (len:=xs.length) (cap:=cap) (lo:=none) (hi:=some (.int kd n)) (.inl ⟨rfl,rfl⟩) (.inr ⟨kd,n,rfl,h0,rfl⟩) (Nat.zero_le _) hle (.inr hle) w
 have hsz : ∀ w : World,(sizeOf e).run P w = .ok sz w:=fun w =>by simp [sizeOf,typeInfo,hi1,hi2]
 have key : ∃ v,(execOp a.eval ⟨dst,.slice t x none (some hi) none,ty,pos,aft,g⟩).run P w = .ok (.value v) w∧Rd P D w v (.sl ob (xs.take n.toNat).length cap):=by
  generalize hq : a.eval x = v at hrd
  cases ob with
  | none =>
   obtain ⟨e1,e2⟩:=hrow
   subst e1
   subst e2
   cases hrd
   simp only [List.length_nil] at hb
   refine ⟨.slice none 0 0,?_,by simpa using (Rd.slNil : Rd P D w _ _)⟩
   have hn0 : n.toNat = 0:=by omega
   rw [hn0] at hb
   simp only [execOp,Instr.sliceAt,Sem.run_bind,run_underlying hu,Result.andThen_ok,hq,Instr.slice,Option.map_none,Option.map_some,hv,hb,hsz,Sem.run_pure]
   rfl
  | some b =>
   cases hrd
   refine ⟨.slice (some ⟨b,0,none⟩) n.toNat cap,?_,by rw [hlen]; exact .sl _ _ _⟩
   simp only [execOp,Instr.sliceAt,Sem.run_bind,run_underlying hu,Result.andThen_ok,hq,Instr.slice,Option.map_none,Option.map_some,hv,hb,hsz,Sem.run_pure]
   by_cases hc0 : cap = 0
   ·rw [if_pos hc0]; rfl
   ·rw [if_neg hc0]; simp [Addr.add_mk]
 obtain ⟨v,hrun,hrv⟩:=key
 refine wp_value_of hrun ?_
 obtain ⟨hI,hF⟩:=hinv.turnAt (w':=w) (h':=.row ob e cap (xs.take n.toNat)) hh (Nat.le_refl _) rfl rfl rfl (fun _ _ _ =>rfl) (fun b hb' =>⟨.inl hb',hinv.lt b (mem_blks (List.mem_of_getElem? hh) (by simp only [HE.blk] at hb'; simp [HE.bl,hb']))⟩) (by
  cases ob with
  | none =>obtain ⟨e1,e2⟩:=hrow; exact ⟨by rw [e1]; simp,e2⟩
  | some b =>
   obtain ⟨arr,r1,r2,r3,r4,r5,r6⟩:=hrow
   refine ⟨arr,r1,r2,by rw [hlen]; exact hle,r4,fun x hx =>r5 x (List.mem_of_mem_take hx),fun j v x hj hx =>r6 j v x hj ?_⟩
   have e3 : xs = xs.take n.toNat++xs.drop n.toNat:=(List.take_append_drop _ _).symm
   rw [e3,flat_append,List.getElem?_append_left (List.getElem?_eq_some_iff.1 hx).1]
   exact hx)
 exact hnext v _ _ D w k hrv hI hF
theorem VP.convI {src dt : TypeId} {x : Operand} {k k' : IntKind} {n : Int} {d : TypeDesc} (hs : P.underlying src = some d) (ht : P.underlying dt = some (.int k')) (hx : ev env x = some (.int k n)) :
  VP P N ⟨dst,.convert src dt x,ty,pos,aft,g⟩ env H (.int k' (k'.wrap n)) :=
 fun D w a hz hr hinv =>by
  have hv:=rd_int (ev_rd hx hr)
  refine ⟨.int k' (k'.wrap n),fun w1 hp1 =>?_,.int _ _⟩
  simp only [execOp,convert,Sem.run_bind,run_underlying hs,run_underlying ht,Result.andThen_ok,hv]
  cases d<;>simp [Conv.intToInt]
theorem flat_ints : ∀ (l : List Int),flat (l.map (VV.int .u8)) = l.map (VV.int .u8)
 | [] =>rfl
 | n :: l =>by rw [List.map_cons,flat_cons,flat_ints l]; rfl
theorem VP.convB {src dt e : TypeId} {x : Operand} {ob : Option Nat} {cap i : Nat} {l : List Int} (hs : elB P src e 1 = true) (he : P.underlying e = some (.int .u8)) (ht : P.underlying dt = some .string) (hx : ev env x = some (.sl ob (l.map (VV.int .u8)).length cap))
  (hh : H[i]? = some (.row ob e cap (l.map (VV.int .u8)))) : VP P N ⟨dst,.convert src dt x,ty,pos,aft,g⟩ env H (.str (strOfNums l)):=by
 have hfact : ∀ (D : Cx) (w : World),HR P D w (.row ob e cap (l.map (VV.int .u8)))→l.length≤maxLen:=by
  intro D w hrow
  cases ob with
  | none =>obtain ⟨e1,e2⟩:=hrow; simp at e1; subst e1; exact Nat.zero_le _
  | some b =>obtain ⟨arr,r1,r2,r3,r4,_⟩:=hrow; simp at r3; omega
 refine fun D w a hz hr hinv =>?_
 have hrow:=hinv.rel _ (List.mem_of_getElem? hh)
 have hm:=hfact D w hrow
 have hrd:=ev_rd hx hr
 have hu:=elB_und hs
 have hc:=elB_cells hs
 refine ⟨.string (strOfNums l),fun w1 hp1 =>?_,.str _ (by rw [strOfNums_size]; exact hm)⟩
 generalize hq : a.eval x = v at hrd
 cases ob with
 | none =>
  obtain ⟨e1,e2⟩:=hrow
  simp at e1
  subst e1
  cases hrd
  have:=run_convert_bytes_nil (P:=P) w1 src e hu he 0 0 dt ht
  simp only [execOp,hq,Sem.run_bind,this,Result.andThen_ok]
  rfl
 | some b =>
  obtain ⟨arr,r1,r2,r3,r4,r5,r6⟩:=hrow
  rw [hc,Nat.mul_one] at r2
  simp only [List.length_map] at r3
  have hfl : flat (l.map (VV.int .u8)) = l.map (VV.int .u8):=flat_ints l
  rw [hfl] at r6
  cases hrd
  have:=run_convert_bytes_arg (P:=P) w1 src e hu he b 0 l.length cap l rfl (fun i hi =>by
   rw [Nat.zero_add,cell_of_row w1 b i arr e (0,0) ((hp1 b (.inr (mem_blks (List.mem_of_getElem? hh) (by simp [HE.bl])))).trans r1)]
   have hlt : i < arr.size:=by omega
   rw [Array.getElem?_eq_getElem hlt]
   have hg : (l.map (VV.int .u8))[i]? = some (.int .u8 l[i]):=by simp [hi]
   have:=rd_int (r6 i _ _ (Array.getElem?_eq_getElem hlt) hg)
   rw [this]
   simp [List.getD,hi]) dt ht
  simp only [List.length_map] at hq
  simp only [execOp,hq,Sem.run_bind,this,Result.andThen_ok]
  rfl
theorem VP.min2 {x y : Operand} {ats : Array TypeId} {k : IntKind} {n m : Int} (hx : ev env x = some (.int k n)) (hy : ev env y = some (.int k m)) : VP P N ⟨dst,.call ⟨.builtin .min,#[x,y],ats⟩,ty,pos,aft,g⟩ env H (.int k (min n m)) :=
 fun D w a hz hr hinv =>by
  have h1:=rd_int (ev_rd hx hr)
  have h2:=rd_int (ev_rd hy hr)
  refine ⟨_,fun w1 hp1 =>?_,.int _ _⟩
  have e : (if m < n then m else n) = min n m:=by rw [Int.min_def]; split<;>split<;>omega
  simp [execOp,resolve,invoke,builtin,Builtin.min_,Builtin.min2,h1,h2,e]
theorem VO.range {t : TypeId} {x : Operand} {s : ByteArray} (ht : P.underlying t = some .string) (hx : ev env x = some (.str s)) (k : ∀ b,K (.ptr b 0) (.iter b s 0 :: H)) : VO P N ⟨dst,.range t x,ty,pos,aft,g⟩ env H K:=by
 intro D w a hs hr hi next Qx hn
 have hv:=rd_str (ev_rd hx hr)
 have hrun : (execOp a.eval ⟨dst,.range t x,ty,pos,aft,g⟩).run P w = .ok (.value (.pointer (some ⟨w.heap.size,0,none⟩))) (w.alloc (.stringIter s 0)):=by
  simp only [execOp,hv,Instr.range,Sem.run_bind,run_underlying ht,Result.andThen_ok]
  simp
 refine wp_value_of hrun ?_
 obtain ⟨hI,hF⟩:=hi.alloc (o:=.stringIter s 0) (h:=.iter w.heap.size s 0) rfl (alloc_new w _)
 exact hn _ _ _ _ _ (k _) (.ptr _ _) hI hF
theorem VO.nextS {it : Operand} {b i pos' : Nat} {s : ByteArray} (hx : ev env it = some (.ptr b 0)) (hh : H[i]? = some (.iter b s pos')) (hlt : pos' < s.size)
  (k : K (.tup [.bool true,.int .i64 (pos' : Int),.int .i32 ((Utf8.decode s pos').1 : Int)]) (H.set i (.iter b s (pos' + (Utf8.decode s pos').2)))) : VO P N ⟨dst,.next it true,ty,pos,aft,g⟩ env H K:=by
 intro D w a hs hr hi next Qx hn
 have hrd:=ev_rd hx hr
 have hit:=hi.rel _ (List.mem_of_getElem? hh)
 generalize hq : a.eval it = v at hrd
 cases hrd with
 | ptr b off =>
  have hit' : w.heap[b]? = some (.stringIter s pos'):=hit
  have hrun : (execOp a.eval ⟨dst,.next it true,ty,pos,aft,g⟩).run P w = .ok (.value (.tuple #[.bool true,.int .i64 (pos' : Int),.int .i32 ((Utf8.decode s pos').1 : Int)])) { w with heap:=w.heap.setIfInBounds b (.stringIter s (pos' + (Utf8.decode s pos').2)) }:=by
   simp only [execOp,hq,Instr.next]
   simp [getObj,setObj,Sem.run,hit',hlt,goInt,Sem.bind,bind,pure]
  refine wp_value_of hrun ?_
  have hltb : b < w.heap.size:=(Array.getElem?_eq_some_iff.1 hit').1
  have hoth : ∀ k,k≠b→(w.heap.setIfInBounds b (.stringIter s (pos' + (Utf8.decode s pos').2)))[k]? = w.heap[k]?:=fun k hk =>Array.getElem?_setIfInBounds_ne (Ne.symm hk)
  obtain ⟨hI,hF⟩:=hi.turnAt (w':={ w with heap:=w.heap.setIfInBounds b (.stringIter s (pos' + (Utf8.decode s pos').2)) }) (h':=.iter b s (pos' + (Utf8.decode s pos').2)) hh (by simp) rfl rfl rfl
   (fun k _ hk =>hoth k (fun e =>hk (by subst e; rfl)))
   (fun b' hb' =>by simp only [HE.blk,Option.some.injEq] at hb'; subst hb'; exact ⟨.inl rfl,by simpa using hltb⟩)
   (by show (w.heap.setIfInBounds b _)[b]? = _; simp [hltb])
  exact hn _ _ _ D _ k (.tup _ _ rfl (fun j v x hv hx =>by
   match j with
   | 0 =>simp at hv hx; subst hv; subst hx; exact .bool _
   | 1 =>simp at hv hx; subst hv; subst hx; exact .int _ _
   | 2 =>simp at hv hx; subst hv; subst hx; exact .int _ _
   | j + 3 =>simp at hv)) hI hF
theorem VP.nextE {it : Operand} {b i pos' : Nat} {s : ByteArray} (hx : ev env it = some (.ptr b 0)) (hh : H[i]? = some (.iter b s pos')) (hlt : ¬ pos' < s.size) : VP P N ⟨dst,.next it true,ty,pos,aft,g⟩ env H (.tup [.bool false]) :=
 fun D w a hs hr hi =>by
  have hrd:=ev_rd hx hr
  have hit:=hi.rel _ (List.mem_of_getElem? hh)
  generalize hq : a.eval it = v at hrd
  cases hrd with
  | ptr b off =>
   have hit' : w.heap[b]? = some (.stringIter s pos'):=hit
   refine ⟨.tuple #[.bool false],fun w1 hp1 =>?_,.tup _ _ rfl (fun j v x hv hx =>by
    match j with
    | 0 =>simp at hv hx; subst hv; subst hx; exact .bool _
    | j + 1 =>simp at hv)⟩
   have hit1 : w1.heap[b]? = some (.stringIter s pos'):=(hp1 b (.inr (mem_blks (List.mem_of_getElem? hh) (by simp [HE.bl])))).trans hit'
   simp only [execOp,hq,Instr.next]
   simp [getObj,Sem.run,hit1,hlt,Sem.bind,bind,pure]
end
end Go.Proofs.YtkondhigbbgidaaGreat.V

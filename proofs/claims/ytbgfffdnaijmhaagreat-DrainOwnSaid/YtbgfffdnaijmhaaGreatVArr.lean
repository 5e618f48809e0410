/-
  The logic over plain values: arrays compared. Own text.
-/
import Derived.Test.YtbgfffdnaijmhaaGreatVMap
namespace Go.Proofs.YtbgfffdnaijmhaaGreat.V
open Go Go.Lib
set_option linter.unusedVariables false
 mutual
def flV : VV→Bool
 | .any =>true
 | .bool _ =>true
 | .int _ _ =>true
 | .str _ =>true
 | .agg cs =>flVs cs
 | .tup cs =>flVs cs
 | _ =>false
def flVs : List VV→Bool
 | [] =>true
 | x :: r =>flV x && flVs r
end
theorem flVs_mem : ∀ {l : List VV},flVs l = true→∀ x,x ∈ l→flV x = true
 | [],_,_,h =>by cases h
 | y :: l,h,x,hx =>by
  unfold flVs at h
  rw [Bool.and_eq_true] at h
  rcases List.mem_cons.1 hx with rfl | hx
  ·exact h.1
  ·exact flVs_mem h.2 x hx
theorem flV_rd {P : Program} {D D' : Cx} {w w' : World} : ∀ (x : VV),flV x = true→∀ {v : Value},Rd P D w v x→Rd P D' w' v x
 | .any,_,_,_ =>.any _
 | .bool _,_,_,h =>by cases h; exact .bool _
 | .int _ _,_,_,h =>by cases h; exact .int _ _
 | .str _,_,_,h =>by cases h with | str _ hs =>exact .str _ hs
 | .agg cs,hf,_,h =>by
  unfold flV at hf
  cases h with
  | agg vs _ hs hr =>
   refine .agg _ _ hs fun j v x hj hx =>?_
   have hm:=List.mem_of_getElem? hx
   exact flV_rd x (flVs_mem hf x hm) (hr j v x hj hx)
 | .tup cs,hf,_,h =>by
  unfold flV at hf
  cases h with
  | tup vs _ hs hr =>
   refine .tup _ _ hs fun j v x hj hx =>?_
   have hm:=List.mem_of_getElem? hx
   exact flV_rd x (flVs_mem hf x hm) (hr j v x hj hx)
termination_by x =>SizeOf.sizeOf x
decreasing_by
 all_goals
  have:=List.sizeOf_lt_of_mem hm
  simp only [VV.agg.sizeOf_spec,VV.tup.sizeOf_spec]
  omega
theorem R {α : Sort _} {a : α} : a = a:=rfl
section
variable {P : Program} {N : Nat} {env : Env} {H : List HE} {K : VV→List HE→Prop} {D : Cx} {w : World}
variable {dst : Option Tmp} {ty : TypeId} {pos : String} {aft : Array Edge} {g : Option (Nat × Bool)}
theorem VO.callL {env' : Env} {H' : List HE} (hsh : Shift P env H env' H') (ns : List Hn) {f : FuncId} {fo : Operand} {args : Array Operand} {ats : Array TypeId} {fi ca xs : List VV} {R : VV→List HE→Prop} (hfo : ev env' fo = some (.clo (.func f) fi ca)) (hf : fnB P f = true)
  (hx : evlN env' ns args.toList = some xs) (hc : VC P f (fi++xs++ca) [] R) (kk : ∀ x H1,R x H1→flV x = true∧H1 = []∧K x H) : VO P N ⟨dst,.call ⟨.value fo,args,ats⟩,ty,pos,aft,g⟩ env H K:=by
 intro D w a hs hr hi next Qx hn
 obtain ⟨D1,hr1,hi1,_⟩:=hsh D w a.tmps hr hi
 obtain ⟨h1,h2⟩:=evlN_rel (P:=P) (D:=D1) (w:=w) hr1 ns _ _ hx
 have hrd:=ev_rd hfo hr1
 generalize hv : a.eval fo = v at hrd
 cases hrd with
 | clo fn fa cs _ _ hs1 hr1 hs2 hr2 =>
  have hrun : (execOp a.eval ⟨dst,.call ⟨.value fo,args,ats⟩,ty,pos,aft,g⟩).run P w = .ok (.enter f (fa++args.map a.eval++cs)) w:=by
   simp only [execOp,resolve,hv,Deferred.ofValue,Sem.run_bind,Sem.run_pure,Result.andThen_ok,invoke]
   exact run_callFunc hf _ w
  have hargs : ∀ (j : Nat) (v : Value) (x : VV),(fa++args.map a.eval++cs)[j]? = some v→(fi++xs++ca)[j]? = some x→Rd P D1 w v x:=by
   intro j v x hj hjx
   have e1 : fa.size = fi.length:=hs1
   have e2 : (args.map a.eval).size = xs.length:=by simpa using h1
   by_cases ha : j < fa.size
   ·rw [Array.append_assoc,Array.getElem?_append_left ha] at hj
    rw [List.append_assoc,List.getElem?_append_left (by omega)] at hjx
    exact hr1 j v x hj hjx
   ·by_cases hb : j < fa.size + (args.map a.eval).size
    ·rw [Array.getElem?_append_left (by rw [Array.size_append]; exact hb),Array.getElem?_append_right (by omega)] at hj
     rw [List.getElem?_append_left (by rw [List.length_append]; omega),List.getElem?_append_right (by omega)] at hjx
     rw [e1] at hj
     simp only [Array.getElem?_map,Option.map_eq_some_iff] at hj
     obtain ⟨o,ho,rfl⟩:=hj
     exact h2 _ o x (by simpa using ho) hjx
    ·rw [Array.getElem?_append_right (by rw [Array.size_append]; omega)] at hj
     rw [List.getElem?_append_right (by rw [List.length_append]; omega)] at hjx
     have e3 : (fa++args.map a.eval).size = (fi++xs).length:=by rw [Array.size_append,List.length_append]; omega
     rw [e3] at hj
     exact hr2 _ v x hj hjx
  unfold Oper.wp
  rw [hrun]
  have hi0 : Inv P D1 w ([]++H'):=hi1
  refine Calls.mono (hc D1 w _ ?_ hargs hi0.sub) ?_
  ·simp only [Array.size_append,List.length_append,Array.size_map]
   rw [Array.length_toList] at h1
   omega
  ·rintro e w' ⟨v,x,H1,D',rfl,hR,hrv,_,hf'⟩
   obtain ⟨hfl,_,hK⟩:=kk x H1 hR
   have hF0 : Fr D w [] D w' []:=⟨hf'.size,fun b hb hm =>hf'.prot b hb hm,fun _ _ h =>h,fun _ _ h =>.inl h,fun _ h =>.inl h,hf'.os,hf'.tape,hf'.output,fun _ _ _ h =>h,fun _ _ _ h =>.inl h,fun _ h =>h⟩
   have hI0 : Inv P D w' []:=⟨List.nodup_nil,fun b hb =>(by cases hb),fun b e _ hb =>(by cases hb),fun b e hd =>Nat.lt_of_lt_of_le (hi.dlt b e hd) hf'.size,fun h hh =>(by cases hh),List.nodup_nil⟩
   have hi2 : Inv P D w ([]++H):=hi
   obtain ⟨hI,hF⟩:=hi2.frame hI0 hF0
   exact hn v x H D w' hK (flV_rd _ hfl hrv) hI hF
theorem VP.convBL {src dt e : TypeId} {x : Operand} {l : List Int} (hs : elB P src e 1 = true) (he : P.underlying e = some (.int .u8)) (ht : P.underlying dt = some .string) (hx : ev env x = some (.list e (l.map (VV.int .u8)))) :
  VP P N ⟨dst,.convert src dt x,ty,pos,aft,g⟩ env H (.str (strOfNums l)):=by
 refine fun D w a hz hr hinv =>?_
 have hrd:=ev_rd hx hr
 have hu:=elB_und hs
 have hc:=elB_cells hs
 generalize hq : a.eval x = v at hrd
 have hmm : ∀ {v : Value} {ys : List VV},ys = l.map (VV.int .u8)→Rd P D w v (.list e ys)→l.length≤maxLen∧∀ w1,Prot D w H w1→(convert src dt v).run P w1 = .ok (.string (strOfNums l)) w1:=by
  intro v ys hys hrd
  cases hrd with
  | listNil _ ad =>
   have : l = []:=by cases l with | nil =>rfl | cons _ _ =>simp at hys
   subst this
   refine ⟨Nat.zero_le _,fun w1 _ =>?_⟩
   cases ad with
   | none =>rw [run_convert_bytes_nil (P:=P) w1 src e hu he 0 0 dt ht]; rfl
   | some ad =>
    rw [run_convert_bytes_string w1 src dt e _ 0 0 hu he ht,run_bytesToString w1 ad 0 0 [] (by simp [loadCells,loadCellsFrom])]
    rfl
  | list _ _ b off c f h1 h2 hD h3 hv hrr =>
   subst hys
   simp only [List.length_map] at h1
   refine ⟨by omega,fun w1 hp1 =>?_⟩
   rw [List.length_map]
   refine run_convert_bytes_arg (P:=P) w1 src e hu he b off l.length c l rfl (fun i hi =>?_) dt ht
   have hg : (l.map (VV.int .u8))[i]? = some (.int .u8 l[i]):=by simp [hi]
   have h4:=hv i _ hg 0 (.int .u8 l[i]) rfl
   have h5:=rd_int (hrr i _ hg 0 (.int .u8 l[i]) rfl)
   rw [hc,Nat.mul_one,Nat.add_zero] at h4
   rw [cell_of_block (hp1 b (.inl ⟨e,hD⟩)),h4,h5]
   simp [List.getD,hi]
 obtain ⟨m1,m2⟩:=hmm rfl hrd
 refine ⟨.string (strOfNums l),fun w1 hp1 =>?_,.str _ (by rw [strOfNums_size]; exact m1)⟩
 have:=m2 w1 hp1
 simp only [execOp,hq,Sem.run_bind,this,Result.andThen_ok]
 rfl
end
end Go.Proofs.YtbgfffdnaijmhaaGreat.V

/-
  The logic over plain values: tables of functions: a value that is one of some, rows of known elements, what a value of an interface type must be. Own text.
-/
import Derived.Test.YtkondhigbbgidaaGreatVPlace
namespace Go.Proofs.YtkondhigbbgidaaGreat.V
open Go
set_option linter.unusedVariables false
def alt (k : Nat) (xs : List VV) : VV:=xs.getD k .any
theorem it_or {α : Type} {p : Prop} [Decidable p] {a b z : α} (h : (if p then a else b) = z) : (p∧a = z)∨(¬ p∧b = z):=by
 split at h
 ·exact .inl ⟨by assumption,h⟩
 ·exact .inr ⟨by assumption,h⟩
section
variable {P : Program} {N : Nat} {env : Env} {H : List HE} {K : VV→List HE→Prop} {dst : Option Tmp} {ty : TypeId} {pos : String} {aft : Array Edge} {g : Option (Nat × Bool)}
theorem Shift.re (s : Nat) {x : VV} (y : VV) (h : get env s = some x) (e : x = y) : Shift P env H ((s,y) :: env) H:=by
 subst e
 intro D w t hr hi
 refine ⟨D,fun s' z hx =>?_,hi,Fr.refl D w H⟩
 simp only [get] at hx
 split at hx
 ·rename_i e'
  have e2 : s' = s:=by simpa using e'
  subst e2
  exact hr s' z (h.trans hx)
 ·exact hr s' z hx
theorem VP.tassertP {x : Operand} {xt T : TypeId} {b : Bool} {t : TypeId} {z : VV} (hn : nifB P T = true) (hx : ev env x = some (.ifo b t z)) (hb : (!b && t == T) = true) :
  VP P N ⟨dst,.typeAssert x xt T false,ty,pos,aft,g⟩ env H z:=fun D w a hs hr hi =>by
 have hrd:=ev_rd hx hr
 unfold nifB at hn
 cases hu : P.underlying T with
 | none =>simp [hu] at hn
 | some d =>
  have hd : ∀ ms,d≠.interface ms:=fun ms e =>by subst e; simp [hu] at hn
  rcases rd_ifo hrd with ⟨rfl,h⟩ | ⟨rfl,u,h,hru⟩
  ·simp at hb
  ·have e : t = T:=by simpa using hb
   subst e
   refine ⟨u,fun w1 _ =>?_,hru⟩
   simp only [execOp,h,Instr.typeAssert]
   cases d<;>first | exact absurd rfl (hd _) | simp [run_underlying hu]
theorem VO.appK (i j : Nat) {t e : TypeId} {s x : Operand} {sz by_ : Nat} {ob ob2 : Option Nat} {cap cap2 : Nat} {xs ys : List VV} (ht : apB P t e sz by_ = true) (hs : ev env s = some (.sl ob xs.length cap)) (hh : H[i]? = some (.row ob e cap xs))
  (hx : ev env x = some (.sl ob2 ys.length cap2)) (hy : H[j]? = some (.row ob2 e cap2 ys)) (h1 : Nat.ble (xs.length + ys.length) maxLen = true) (h2 : Nat.ble ((xs.length + ys.length) * by_) 140737488355328 = true) (h0 : Nat.blt 0 (xs.length + ys.length) = true)
  (k : ∀ b cap',K (.sl (some b) (xs.length + ys.length) cap') (H.set i (.row (some b) e cap' (xs++ys)))) : VO P N ⟨dst,.call ⟨.builtin .append,#[s,x],#[t,t]⟩,ty,pos,aft,g⟩ env H K:=by
 intro D w a hsz hr hi next Qx hn
 have hl : i < H.length:=(List.getElem?_eq_some_iff.1 hh).1
 refine VO.append (K:=fun x H' =>∃ ob' cap',x = .sl ob' (xs.length + ys.length) cap'∧H' = H.set i (.row ob' e cap' (xs++ys))) ht hs hh (src_row (elB_cells (apB_el ht)) hx hy) (Nat.le_of_ble_eq_true h1) (Nat.le_of_ble_eq_true h2) (fun ob' cap' =>⟨ob',cap',rfl,rfl⟩) D w a hsz hr hi next Qx ?_
 rintro v x H' D' w' ⟨ob',cap',rfl,rfl⟩ hv hI hF
 obtain ⟨b,rfl⟩:=some_row (i:=i) (ob:=ob') (xs:=xs++ys) (cap:=cap') (e:=e) hI (by simp [hl]) (by have:=h0; simp [Nat.blt] at this; simp; omega)
 exact hn v _ _ D' w' (k b cap') hv hI hF
theorem VP.subA {t e : TypeId} {len sz b : Nat} {x : Operand} {lo hi : Option Operand} {l h : Option Int} {r : Nat × Nat} (hx : ev env x = some (.ptr b 0)) (ht : arB P t e len sz = true) (hl : evO env lo = some l) (hhi : evO env hi = some h) (hrg : rng len l h = some r) :
  VP P N ⟨dst,.slice t x lo hi none,ty,pos,aft,g⟩ env H (.sub (some b) sz r.1 (r.2 - r.1) (len - r.1)):=fun D w a hs hre hinv =>by
 obtain ⟨⟨l0,h0⟩,⟨h1,h2⟩,rfl⟩:=rng_some hrg
 have hrd:=ev_rd hx hre
 unfold arB at ht
 simp only [Bool.and_eq_true] at ht
 obtain ⟨ht1,ht2⟩:=ht
 split at ht1
 ·rename_i m e' hu
  simp only [Bool.and_eq_true,beq_iff_eq] at ht1
  obtain ⟨rfl,rfl⟩:=ht1
  split at ht2
  ·rename_i i hie
   have hsz : i.size = sz:=by simpa using ht2
   generalize hv : a.eval x = v at hrd
   cases hrd with
   | ptr b o =>
    have hb:=run_bounds (P:=P) (isSlice:=false) (len:=m) (cap:=m) (bnd_lo hl hre l0) (bnd_hi hhi hre h0) h1 (by omega) (.inr (by omega))
    by_cases hcl : m = lowN l
    ·have hh0 : highN m h - lowN l = 0:=by omega
     refine ⟨.slice (some ⟨b,0,none⟩) (highN m h - lowN l) (m - lowN l),fun w1 _ =>?_,by rw [hh0]; exact .subNil _ _ _ _ _⟩
     simp only [execOp,Instr.sliceAt,Sem.run_bind,run_underlying hu,Result.andThen_ok,hv,Instr.sureAddr,Sem.run_pure,Option.map_none,hb]
     simp [hcl.symm,sizeOf,typeInfo,hie]
    ·refine ⟨.slice (some ⟨b,lowN l * sz,none⟩) (highN m h - lowN l) (m - lowN l),fun w1 _ =>?_,.sub _ _ _ _ _⟩
     simp only [execOp,Instr.sliceAt,Sem.run_bind,run_underlying hu,Result.andThen_ok,hv,Instr.sureAddr,Sem.run_pure,Option.map_none,hb]
     simp [hcl,sizeOf,typeInfo,hie,hsz,Addr.add_mk]
  ·cases ht2
 ·cases ht1
theorem VP.convSub {src dt e bt : TypeId} {x : Operand} {b o n c : Nat} {l : List Int} (i : Nat) (hs : elB P src e 1 = true) (he : P.underlying e = some (.int .u8)) (ht : P.underlying dt = some .string) (hx : ev env x = some (.sub (some b) 1 o n c))
  (hh : H[i]? = some (.box b bt (l.map (VV.int .u8)))) (h0 : 0 < n) (hn : o + n≤l.length) (hm : Nat.ble l.length maxLen = true) : VP P N ⟨dst,.convert src dt x,ty,pos,aft,g⟩ env H (.str (strOfNums ((l.drop o).take n))):=by
 refine fun D w a hz hr hinv =>?_
 have hm:=Nat.le_of_ble_eq_true hm
 obtain ⟨arr,r1,r2,r3⟩:=hinv.rel _ (List.mem_of_getElem? hh)
 have hrd:=ev_rd hx hr
 have hu:=elB_und hs
 have hlen : ((l.drop o).take n).length = n:=by simp; omega
 refine ⟨.string (strOfNums ((l.drop o).take n)),fun w1 hp1 =>?_,.str _ (by rw [strOfNums_size,hlen]; omega)⟩
 generalize hq : a.eval x = v at hrd
 cases hrd with
 | subNil =>omega
 | sub =>
  simp only [List.length_map] at r2
  have:=run_convert_bytes_arg (P:=P) w1 src e hu he b (o * 1) n c ((l.drop o).take n) hlen (fun i hi =>by
   rw [Nat.mul_one,cell_of_row w1 b (o + i) arr bt (0,0) ((hp1 b (.inr (mem_blks (List.mem_of_getElem? hh) (by simp [HE.bl])))).trans r1)]
   have hlt : o + i < arr.size:=by omega
   rw [Array.getElem?_eq_getElem hlt]
   have hg : (l.map (VV.int .u8))[o + i]? = some (.int .u8 (l[o + i]'(by omega))):=by simp [show o + i < l.length by omega]
   have:=rd_int (r3 (o + i) _ _ (Array.getElem?_eq_getElem hlt) hg)
   rw [this]
   simp [List.getD,hi,show o + i < l.length by omega]) dt ht
  simp only [execOp,hq,Sem.run_bind,this,Result.andThen_ok]
  rfl
theorem sub_len {r : Nat × Nat} (h : decide (r.1 < r.2) = true) : 0 < r.2 - r.1∧r.1 + (r.2 - r.1) = r.2:=by
 have:=of_decide_eq_true h
 omega
theorem sub_len2 {r : Nat × Nat} {n : Nat} {l h : Option Int} (hd : decide (r.1 < r.2) = true) (hr : rng n l h = some r) : r.1 + (r.2 - r.1)≤n:=by
 have:=of_decide_eq_true hd
 have:=rng_le hr
 omega
theorem VP.nl (n : Hn) {o : Oper} {z z' : VV} (h : VP P N o env H z) (e : hintH n z = some z') : VP P N o env H z' :=
 fun D w a hs hr hi =>let ⟨v,h1,h2⟩:=h D w a hs hr hi; ⟨v,h1,hintH_rd e h2⟩
end
end Go.Proofs.YtkondhigbbgidaaGreat.V

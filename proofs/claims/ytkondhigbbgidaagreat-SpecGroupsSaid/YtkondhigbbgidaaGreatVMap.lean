/-
  The logic over plain values: maps of one's own. Own text.
-/
import Derived.Test.YtkondhigbbgidaaGreatVNew
import Derived.Carry
import Derived.MapKept
namespace Go.Proofs.YtkondhigbbgidaaGreat.V
open Go
set_option linter.unusedVariables false
def mg {κ υ : Type} [DecidableEq κ] : List (κ × υ)→κ→Option υ
 | [],_ =>none
 | (a,b) :: r,k =>if k = a then some b else mg r k
def mp {κ υ : Type} [DecidableEq κ] : List (κ × υ)→κ→υ→List (κ × υ)
 | [],k,v =>[(k,v)]
 | (a,b) :: r,k,v =>if k = a then (a,v) :: r else (a,b) :: mp r k v
def md {κ υ : Type} [DecidableEq κ] : List (κ × υ)→κ→List (κ × υ)
 | [],_ =>[]
 | (a,b) :: r,k =>if k = a then r else (a,b) :: md r k
section
variable {P : Program} {N : Nat} {env : Env} {H : List HE} {K : VV→List HE→Prop} {D : Cx} {w : World} {dst : Option Tmp} {ty : TypeId} {pos : String} {aft : Array Edge} {g : Option (Nat × Bool)}
theorem bytes_beq (a b : ByteArray) : (a == b) = decide (a = b):=by
 obtain ⟨a⟩:=a
 obtain ⟨b⟩:=b
 have e : ((⟨a⟩ : ByteArray) == ⟨b⟩) = (a == b):=rfl
 rw [e]
 by_cases h : a = b
 ·subst h; simp
 ·have h' : ¬ (⟨a⟩ : ByteArray) = ⟨b⟩:=fun q =>h (by injection q)
  simp [h,h']
structure KeyOk (P : Program) (kt : TypeId) {κ : Type} [DecidableEq κ] (kf : κ→VV) (kv : κ→Value) (kind : TypeDesc) : Prop where
 und : P.underlying kt = some kind
 val : ∀ (D : Cx) (w : World) (v : Value) (k : κ),Rd P D w v (kf k)→v = kv k
 same : ∀ a b,Instr.sameNow kind (kv a) (kv b) = some (decide (a = b))
 bits : ∀ a,Instr.sameBits 10000 (kv a) (kv a) = true
 check : ∀ (em : Bool) (a : κ) (w : World),(Instr.checkKey em 10000 kt (kv a)).run P w = .ok () w
theorem KeyOk.str {kt : TypeId} (h : P.underlying kt = some .string) : KeyOk P kt VV.str Value.string .string where
 und:=h
 val:=fun D w v k hr =>by cases hr; rfl
 same:=fun a b =>by
  show some (a == b) = _
  congr 1
  exact bytes_beq a b
 bits:=fun a =>by show (a == a) = true; rw [bytes_beq]; simp
 check:=fun em a w =>by
  rw [show (10000 : Nat) = 9999 + 1 from rfl,Instr.checkKey]
  simp [run_underlying h]
theorem KeyOk.int {kt : TypeId} {ik : IntKind} (h : P.underlying kt = some (.int ik)) : KeyOk P kt (VV.int ik) (Value.int ik) (.int ik) where
 und:=h
 val:=fun D w v k hr =>by cases hr; rfl
 same:=fun a b =>by
  simp only [Instr.sameNow,if_true]
  congr 1
 bits:=fun a =>by simp [Instr.sameBits]
 check:=fun em a w =>by
  rw [show (10000 : Nat) = 9999 + 1 from rfl,Instr.checkKey]
  simp [run_underlying h]
variable {κ υ : Type} [DecidableEq κ] {kf : κ→VV} {vf : υ→VV} {kv : κ→Value} {kind : TypeDesc} {kt : TypeId}
def pf (kf : κ→VV) (vf : υ→VV) (p : κ × υ) : VV × VV:=(kf p.1,vf p.2)
def mi : List (κ × υ)→κ→Option Nat
 | [],_ =>none
 | (a,_) :: r,k =>if k = a then some 0 else (mi r k).map (· + 1)
theorem mi_none {l : List (κ × υ)} {k : κ} (h : mi l k = none) : mg l k = none∧∀ v,mp l k v = l++[(k,v)]:=by
 induction l with
 | nil =>exact ⟨rfl,fun _ =>rfl⟩
 | cons p r ih =>
  obtain ⟨a,b⟩:=p
  simp only [mi] at h
  split at h
  ·cases h
  ·rename_i hk
   obtain ⟨h1,h2⟩:=ih (Option.map_eq_none_iff.1 h)
   exact ⟨by rw [mg,if_neg hk,h1],fun v =>by rw [mp,if_neg hk,h2]; rfl⟩
theorem mi_some {l : List (κ × υ)} {k : κ} {i : Nat} (h : mi l k = some i) : ∃ b,l[i]? = some (k,b)∧mg l k = some b∧(∀ v,mp l k v = l.set i (k,v))∧md l k = l.eraseIdx i:=by
 induction l generalizing i with
 | nil =>cases h
 | cons p r ih =>
  obtain ⟨a,b⟩:=p
  simp only [mi] at h
  split at h
  ·rename_i hk
   subst hk
   cases h
   exact ⟨b,rfl,by rw [mg,if_pos rfl],fun v =>by rw [mp,if_pos rfl]; rfl,by rw [md,if_pos rfl]; rfl⟩
  ·rename_i hk
   obtain ⟨j,h1,rfl⟩:=Option.map_eq_some_iff.1 h
   obtain ⟨c,h2,h3,h4,h5⟩:=ih h1
   exact ⟨c,by simpa using h2,by rw [mg,if_neg hk,h3],fun v =>by rw [mp,if_neg hk,h4]; rfl,by rw [md,if_neg hk,h5]; rfl⟩
theorem findNow_mi (hk : KeyOk P kt kf kv kind) (k : κ) : ∀ (l : List (κ × υ)) (mes : List MapEntry) (n : Nat),mes.length = l.length→(∀ (j : Nat) (e : MapEntry) (p : κ × υ),mes[j]? = some e→l[j]? = some p→e.key = kv p.1) →
  Instr.findNow kind (kv k) mes n = some ((mi l k).bind fun i =>(mes[i]?).map fun e =>(n + i,e.val))
 | [],[],n,_,_ =>rfl
 | p :: l,e :: mes,n,hl,he =>by
  obtain ⟨a,b⟩:=p
  have h0 : e.key = kv a:=he 0 e (a,b) rfl rfl
  rw [Instr.findNow,h0,hk.same k a]
  by_cases h : k = a
  ·subst h
   simp [mi]
  ·simp only [h,decide_false,mi,if_false]
   rw [findNow_mi hk k l mes (n + 1) (by simpa using hl) (fun j e' p' h1 h2 =>he (j + 1) e' p' (by simpa using h1) (by simpa using h2))]
   cases mi l k with
   | none =>rfl
   | some i =>
    simp only [Option.map_some,Option.bind_some,List.getElem?_cons_succ]
    congr 2
    funext e'
    rw [show n + 1 + i = n + (i + 1) by omega]
theorem map_keys (hk : KeyOk P kt kf kv kind) {l : List (κ × υ)} {mes : Array MapEntry} (h2 : mes.size = (l.map (pf kf vf)).length)
  (h3 : ∀ (j : Nat) (e : MapEntry) (p : VV × VV),mes[j]? = some e→(l.map (pf kf vf))[j]? = some p→Rd P D w e.key p.1∧Rd P D w e.val p.2) :
  mes.toList.length = l.length∧∀ (j : Nat) (e : MapEntry) (p : κ × υ),mes.toList[j]? = some e→l[j]? = some p→e.key = kv p.1:=by
 refine ⟨by simpa using h2,fun j e p he hp =>?_⟩
 have:=(h3 j e (pf kf vf p) (by simpa using he) (by rw [List.getElem?_map,hp]; rfl)).1
 exact hk.val D w _ _ this
theorem run_findKey (hk : KeyOk P kt kf kv kind) {l : List (κ × υ)} {mes : Array MapEntry} (k : κ) (h : mes.toList.length = l.length∧∀ (j : Nat) (e : MapEntry) (p : κ × υ),mes.toList[j]? = some e→l[j]? = some p→e.key = kv p.1) (w : World) :
  (Instr.findKey kt (kv k) mes.toList).run P w = .ok ((mi l k).bind fun i =>(mes.toList[i]?).map fun e =>(i,e.val)) w:=by
 have:=findNow_mi hk k l mes.toList 0 h.1 h.2
 simp only [Instr.findKey,Sem.run_bind,run_underlying hk.und,Result.andThen_ok,this,Sem.run_pure]
 simp
theorem VP.lookup (i : Nat) {t e : TypeId} {m ix : Operand} {b : Nat} {l : List (κ × υ)} {k : κ} {z : υ} {zv : Value} (ok : Bool) (hk : KeyOk P kt kf kv kind) (ht : P.underlying t = some (.map kt e)) (hm : ev env m = some (.map b)) (hh : H[i]? = some (.map b (l.map (pf kf vf))))
  (hi : ev env ix = some (kf k)) (hz : (P.info? e).bind (·.zero) = some zv) (hzr : ofC zv = some (vf z)) :
  VP P N ⟨dst,.lookup t m ix ok,ty,pos,aft,g⟩ env H (if ok then .tup [vf ((mg l k).getD z),.bool (mg l k).isSome] else vf ((mg l k).getD z)) :=
 fun D w a hs hr hinv =>by
  have hkv:=hk.val D w _ _ (ev_rd hi hr)
  have hrd:=ev_rd hm hr
  generalize hv : a.eval m = v at hrd
  cases hrd with
  | map b =>
   obtain ⟨mes,clock,h1,h2,h3⟩:=hinv.rel _ (List.mem_of_getElem? hh)
   have hmem : b ∈ blks H:=mem_blks (List.mem_of_getElem? hh) (by simp [HE.bl])
   have hkeys:=map_keys (D:=D) (w:=w) hk h2 h3
   have hzero : ∀ w1 : World,(zeroValue e).run P w1 = .ok zv w1:=fun w1 =>by
    obtain ⟨inf,hi1,hi2⟩:=Option.bind_eq_some_iff.1 hz
    simp [zeroValue,typeInfo,hi1,hi2]
   have core : ∃ u,Rd P D w u (vf ((mg l k).getD z))∧∀ w1 : World,w1.heap[b]? = w.heap[b]?→(Instr.lookup t (.map (some b)) (kv k) ok).run P w1 = .ok (if ok then .tuple #[u,.bool (mg l k).isSome] else u) w1:=by
    cases hmi : mi l k with
    | none =>
     obtain ⟨q1,q2⟩:=mi_none hmi
     refine ⟨zv,by rw [q1]; exact ofC_rd hzr,fun w1 hw1 =>?_⟩
     have hf:=run_findKey hk k hkeys w1
     rw [hmi] at hf
     simp only [Instr.lookup,Sem.run_bind,run_underlying ht,Result.andThen_ok,MapKept.run_getObj_map (hw1.trans h1),Sem.run_pure,hk.check,hf,Option.bind_none,hzero,q1,Option.isSome_none]
    | some j =>
     obtain ⟨c,q1,q2,q3,q4⟩:=mi_some hmi
     have hj : j < mes.toList.length:=by rw [hkeys.1]; exact (List.getElem?_eq_some_iff.1 q1).1
     have he : mes.toList[j]? = some mes.toList[j]:=List.getElem?_eq_getElem hj
     have hval:=(h3 j mes.toList[j] (pf kf vf (k,c)) (by simp) (by rw [List.getElem?_map,q1]; rfl)).2
     refine ⟨mes.toList[j].val,by rw [q2]; exact hval,fun w1 hw1 =>?_⟩
     have hf:=run_findKey hk k hkeys w1
     rw [hmi] at hf
     simp only [Option.bind_some,he,Option.map_some] at hf
     simp only [Instr.lookup,Sem.run_bind,run_underlying ht,Result.andThen_ok,MapKept.run_getObj_map (hw1.trans h1),Sem.run_pure,hk.check,hf,q2,Option.isSome_some]
   obtain ⟨u,hu,hrun⟩:=core
   refine ⟨if ok then .tuple #[u,.bool (mg l k).isSome] else u,fun w1 hp1 =>?_,?_⟩
   ·simp only [execOp,hv,hkv,Sem.run_bind,hrun w1 (hp1 b (.inr hmem)),Result.andThen_ok]; rfl
   ·cases ok with
    | false =>exact hu
    | true =>
     refine .tup _ _ rfl fun j v x hj hx =>?_
     match j with
     | 0 =>simp at hj hx; subst hj; subst hx; exact hu
     | 1 =>simp at hj hx; subst hj; subst hx; exact .bool _
     | j + 2 =>simp at hj
theorem VO.makeMap {t : TypeId} (k : ∀ b,K (.map b) (.map b [] :: H)) : VO P N ⟨dst,.makeMap t none,ty,pos,aft,g⟩ env H K:=by
 intro D w a hs hr hi next Qx hn
 have hrun : (execOp a.eval ⟨dst,.makeMap t none,ty,pos,aft,g⟩).run P w = .ok (.value (.map (some w.heap.size))) (w.alloc (.map #[] 0)):=by
  simp only [execOp,Option.map_none]
  rfl
 obtain ⟨hI,hF⟩:=hi.alloc (o:=.map #[] 0) (h:=.map w.heap.size []) rfl ⟨#[],0,alloc_new w _,rfl,by simp⟩
 unfold Oper.wp
 rw [hrun]
 exact hn _ _ _ D _ (k w.heap.size) (.map _) hI hF
theorem VO.mapUpdate (i : Nat) {t e : TypeId} {m ix y : Operand} {b : Nat} {l : List (κ × υ)} {k : κ} {z : υ} (hk : KeyOk P kt kf kv kind) (ht : P.underlying t = some (.map kt e)) (hm : ev env m = some (.map b)) (hh : H[i]? = some (.map b (l.map (pf kf vf))))
  (hi : ev env ix = some (kf k)) (hy : ev env y = some (vf z)) (kk : K .any (H.set i (.map b ((mp l k z).map (pf kf vf))))) : VO P N ⟨dst,.mapUpdate t m ix y,ty,pos,aft,g⟩ env H K:=by
 intro D w a hs hr hinv next Qx hnext
 have hkr:=ev_rd hi hr
 have hkv:=hk.val D w _ _ hkr
 have hyr:=ev_rd hy hr
 have hrd:=ev_rd hm hr
 generalize hv : a.eval m = v at hrd
 cases hrd with
 | map b =>
  obtain ⟨mes,clock,h1,h2,h3⟩:=hinv.rel _ (List.mem_of_getElem? hh)
  have hkeys:=map_keys (D:=D) (w:=w) hk h2 h3
  have hmem : b ∈ blks H:=mem_blks (List.mem_of_getElem? hh) (by simp [HE.bl])
  have hlt:=(Array.getElem?_eq_some_iff.1 h1).1
  have core : ∃ (mes' : Array MapEntry) (clock' : Nat),(Instr.mapUpdate t (.map (some b)) (kv k) (a.eval y)).run P w = .ok () { w with heap:=w.heap.setIfInBounds b (.map mes' clock') } ∧
    mes'.size = ((mp l k z).map (pf kf vf)).length∧∀ (j : Nat) (e : MapEntry) (p : VV × VV),mes'[j]? = some e→((mp l k z).map (pf kf vf))[j]? = some p→Rd P D w e.key p.1∧Rd P D w e.val p.2:=by
   have hf:=run_findKey hk k hkeys w
   cases hmi : mi l k with
   | none =>
    obtain ⟨q1,q2⟩:=mi_none hmi
    rw [hmi] at hf
    refine ⟨mes.push { key:=kv k,val:=a.eval y,born:=clock },clock + 1,?_,?_,?_⟩
    ·simp only [Instr.mapUpdate,Sem.run_bind,run_underlying ht,Result.andThen_ok,MapKept.run_getObj_map h1,hk.check,hf,Option.bind_none,MapKept.run_setObj_map _ h1]
    ·rw [q2,List.map_append,List.length_append,Array.size_push,h2]; rfl
    ·intro j e p he hp
     rw [q2,List.map_append] at hp
     by_cases hj : j < mes.size
     ·rw [Array.getElem?_push,if_neg (by omega)] at he
      rw [List.getElem?_append_left (by rw [← h2]; exact hj)] at hp
      exact h3 j e p he hp
     ·have hj2 : j = mes.size:=by
       have:=(Array.getElem?_eq_some_iff.1 he).1
       rw [Array.size_push] at this
       omega
      subst hj2
      rw [Array.getElem?_push,if_pos rfl] at he
      rw [List.getElem?_append_right (by rw [← h2]; exact Nat.le_refl _),← h2,Nat.sub_self] at hp
      cases he
      simp at hp
      subst hp
      exact ⟨hkv ▸ hkr,hyr⟩
   | some j0 =>
    obtain ⟨c,q1,q2,q3,q4⟩:=mi_some hmi
    have hj : j0 < mes.toList.length:=by rw [hkeys.1]; exact (List.getElem?_eq_some_iff.1 q1).1
    have he : mes.toList[j0]? = some mes.toList[j0]:=List.getElem?_eq_getElem hj
    have hje : mes[j0]? = some mes.toList[j0]:=by simp
    have hkey : (mes.toList[j0]).key = kv k:=hkeys.2 j0 _ (k,c) he q1
    rw [hmi] at hf
    simp only [Option.bind_some,he,Option.map_some] at hf
    refine ⟨mes.modify j0 fun e =>{ e with key:=kv k,val:=a.eval y },clock,?_,?_,?_⟩
    ·simp only [Instr.mapUpdate,Sem.run_bind,run_underlying ht,Result.andThen_ok,MapKept.run_getObj_map h1,hk.check,hf,hje,Option.map_some,Option.getD_some,hkey]
     simp only [Instr.keyThatStays,hk.bits,if_true,Sem.run_pure,Result.andThen_ok,MapKept.run_setObj_map _ h1]
    ·rw [q3,List.map_set,List.length_set,Array.size_modify,h2]
    ·intro j e p he' hp
     rw [q3,List.map_set] at hp
     rw [Array.getElem?_modify] at he'
     by_cases hjj : j0 = j
     ·subst hjj
      rw [if_pos rfl,hje] at he'
      rw [List.getElem?_set_self (by rw [← h2]; simpa using hj)] at hp
      simp only [Option.map_some,Option.some.injEq] at he' hp
      subst he'; subst hp
      exact ⟨hkv ▸ hkr,hyr⟩
     ·rw [if_neg hjj] at he'
      rw [List.getElem?_set_ne hjj] at hp
      exact h3 j e p he' hp
  obtain ⟨mes',clock',hrun,hsz,hrel⟩:=core
  have hset : ∀ k,k≠b→({ w with heap:=w.heap.setIfInBounds b (.map mes' clock') } : World).heap[k]? = w.heap[k]?:=fun k hk =>by
   show (w.heap.setIfInBounds b _)[k]? = _
   simp [Ne.symm hk]
  have hD : ∀ b' e,D b' e→({ w with heap:=w.heap.setIfInBounds b (.map mes' clock') } : World).heap[b']? = w.heap[b']?:=fun b' e hd =>hset b' fun q =>hinv.apart b' e hd (q ▸ hmem)
  obtain ⟨hI,hF⟩:=hinv.turnAt (w':={ w with heap:=w.heap.setIfInBounds b (.map mes' clock') }) (h':=.map b ((mp l k z).map (pf kf vf))) hh (by simp) rfl rfl rfl
   (fun q _ hq =>hset q (fun e =>hq (by subst e; rfl)))
   (fun b' hb' =>by simp only [HE.blk,Option.some.injEq] at hb'; subst hb'; exact ⟨.inl rfl,by simpa using hlt⟩)
   ⟨mes',clock',by show (w.heap.setIfInBounds b _)[b]? = _; simp [hlt],hsz,fun j e p he hp =>⟨(hrel j e p he hp).1.mono (fun _ _ h =>h) (fun _ _ _ h =>h) hD,(hrel j e p he hp).2.mono (fun _ _ h =>h) (fun _ _ _ h =>h) hD⟩⟩
  refine wp_skip_of (w':={ w with heap:=w.heap.setIfInBounds b (.map mes' clock') }) ?_ ?_
  ·simp only [execOp,hv,hkv,Sem.run_bind,hrun,Result.andThen_ok]
   rfl
  ·exact hnext undef .any _ D _ kk (.any _) hI hF
end
section
variable {P : Program} {N : Nat} {env : Env} {H : List HE} {dst : Option Tmp} {ty : TypeId} {pos : String} {aft : Array Edge} {g : Option (Nat × Bool)} {κ υ : Type} {kf : κ→VV} {vf : υ→VV}
theorem VP.lenM (i : Nat) {x : Operand} {t kt' e : TypeId} {b : Nat} {l : List (κ × υ)} (hx : ev env x = some (.map b)) (hh : H[i]? = some (.map b (l.map (pf kf vf)))) (ht : P.underlying t = some (.map kt' e)) :
  VP P N ⟨dst,.call ⟨.builtin .len,#[x],#[t]⟩,ty,pos,aft,g⟩ env H (.int .i64 (l.length : Int)) :=
 fun D w a hs hr hinv =>by
  have hrd:=ev_rd hx hr
  generalize hv : a.eval x = v at hrd
  cases hrd with
  | map b =>
   obtain ⟨mes,clock,h1,h2,h3⟩:=hinv.rel _ (List.mem_of_getElem? hh)
   have hmem : b ∈ blks H:=mem_blks (List.mem_of_getElem? hh) (by simp [HE.bl])
   have e : mes.size = l.length:=by simpa using h2
   refine ⟨.int .i64 l.length,fun w1 hp1 =>?_,.int _ _⟩
   simp [execOp,resolve,invoke,builtin,Builtin.len_,hv,run_underlying ht,goInt,MapKept.run_getObj_map ((hp1 b (.inr hmem)).trans h1),e]
end
end Go.Proofs.YtkondhigbbgidaaGreat.V

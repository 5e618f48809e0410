/-
  The logic over plain values: new memory, addresses, rows of one's own, calls. Own text.
-/
import Derived.Test.YtkondhigbbgidaaGreatVMem
namespace Go.Proofs.YtkondhigbbgidaaGreat.V
open Go
set_option linter.unusedVariables false
section
variable {P : Program} {N : Nat} {env : Env} {H : List HE} {K : VV→List HE→Prop} {D : Cx} {w : World}
variable {dst : Option Tmp} {ty : TypeId} {pos : String} {aft : Array Edge} {g : Option (Nat × Bool)}
def zV (P : Program) (t : TypeId) : Option (List VV):=((P.info? t).bind (·.zero)).bind fun z =>z.cells.toList.mapM ofC
theorem mapM_rel {α β : Type} {f : α→Option β} : ∀ {l : List α} {r : List β},l.mapM f = some r→l.length = r.length∧∀ (j : Nat) (a : α) (b : β),l[j]? = some a→r[j]? = some b→f a = some b
 | [],r,h =>by simp at h; subst h; simp
 | a :: l,r,h =>by
  simp only [List.mapM_cons,Option.bind_eq_bind,Option.pure_def] at h
  cases ha : f a with
  | none =>simp [ha] at h
  | some b =>
   cases hl : l.mapM f with
   | none =>simp [ha,hl] at h
   | some r' =>
    simp [ha,hl] at h
    subst h
    obtain ⟨h1,h2⟩:=mapM_rel hl
    refine ⟨by simp [h1],fun j x y hx hy =>?_⟩
    cases j with
    | zero =>simp at hx hy; subst hx; subst hy; exact ha
    | succ j =>exact h2 j x y (by simpa using hx) (by simpa using hy)
theorem zV_run {t : TypeId} {zs : List VV} (h : zV P t = some zs) : ∃ z,(∀ w : World,(zeroValue t).run P w = .ok z w)∧z.cells.size = zs.length∧∀ D w (j : Nat) (v : Value) (x : VV),z.cells[j]? = some v→zs[j]? = some x→Rd P D w v x:=by
 unfold zV at h
 cases hi : P.info? t with
 | none =>simp [hi] at h
 | some i =>
  cases hz : i.zero with
  | none =>simp [hi,hz] at h
  | some z =>
   simp only [hi,hz,Option.bind_some] at h
   obtain ⟨h1,h2⟩:=mapM_rel h
   refine ⟨z,fun w =>by simp [zeroValue,typeInfo,hi,hz],by simpa using h1,fun D w j v x hv hx =>ofC_rd (h2 j v x (by simpa using hv) hx)⟩
theorem VO.alloc {t : TypeId} {zs : List VV} (hz : zV P t = some zs) (k : ∀ b,K (.ptr b 0) (.box b t zs :: H)) : VO P N ⟨dst,.alloc t,ty,pos,aft,g⟩ env H K:=by
 intro D w a hs hr hi next Qx hn
 obtain ⟨z,h1,h2,h3⟩:=zV_run hz
 have hrun : (execOp a.eval ⟨dst,.alloc t,ty,pos,aft,g⟩).run P w = .ok (.value (.pointer (some ⟨w.heap.size,0,none⟩))) (w.alloc (.cells z.cells t)):=by
  simp only [execOp,Instr.alloc]
  simp [h1,newVar,newRow]
 refine wp_value_of hrun ?_
 obtain ⟨hI,hF⟩:=hi.alloc (o:=.cells z.cells t) (h:=.box w.heap.size t zs) rfl ⟨z.cells,alloc_new w _,h2,fun j v x hv hx =>h3 D _ j v x hv hx⟩
 exact hn _ _ _ _ _ (k _) (.ptr _ _) hI hF
theorem VO.box {t : TypeId} {x : Operand} {z : VV} (hx : ev env x = some z) (ho : z.told = true) (k : ∀ b,K (.ptr b 0) (.box b t z.cells :: H)) : VO P N ⟨dst,.box t x,ty,pos,aft,g⟩ env H K:=by
 intro D w a hs hr hi next Qx hn
 have hrd:=ev_rd hx hr
 obtain ⟨h1,h2,h3⟩:=rd_cells hrd ho
 have hrun : (execOp a.eval ⟨dst,.box t x,ty,pos,aft,g⟩).run P w = .ok (.value (.pointer (some ⟨w.heap.size,0,none⟩))) (w.alloc (.cells (a.eval x).cells t)):=by
  simp only [execOp,Instr.box]
  simp [newVar,newRow]
 refine wp_value_of hrun ?_
 have hD : ∀ b e,D b e→(w.alloc (.cells (a.eval x).cells t)).heap[b]? = w.heap[b]?:=fun b e hd =>alloc_old w _ b (hi.dlt b e hd)
 obtain ⟨hI,hF⟩:=hi.alloc (o:=.cells (a.eval x).cells t) (h:=.box w.heap.size t z.cells) rfl ⟨_,alloc_new w _,h1,fun j v x hv hx =>(h3 j v x hv hx).mono (fun _ _ h =>h) (fun _ _ _ h =>h) hD⟩
 exact hn _ _ _ _ _ (k _) (.ptr _ _) hI hF
def faB (P : Program) (s : TypeId) (f off : Nat) : Bool :=
 match P.underlying s with
 | some (.struct fs) =>(match fs[f]? with
  | some fd =>fd.offset == off && (match P.info? fd.type with | some i =>i.size != 0 | none =>false)
  | none =>false)
 | _ =>false
theorem run_fieldAt {s : TypeId} {f off b o : Nat} (h : faB P s f off = true) (w : World) : (Instr.fieldAt s (.pointer (some ⟨b,o,none⟩)) f).run P w = .ok (.pointer (some ⟨b,o + off,none⟩)) w:=by
 unfold faB at h
 split at h
 ·rename_i fs hu
  split at h
  ·rename_i fd hf
   simp only [Bool.and_eq_true,beq_iff_eq] at h
   obtain ⟨h1,h2⟩:=h
   split at h2
   ·rename_i i hi
    have h3 : i.size≠0:=by simpa using h2
    simp only [Instr.fieldAt,Sem.run_bind,run_underlying hu,Result.andThen_ok,hf,Instr.sureAddr,fieldPlace]
    simp [sizeOf,typeInfo,hi,h3,h1,Addr.add_mk]
   ·cases h2
  ·cases h
 ·cases h
theorem VP.fieldP {s : TypeId} {x : Operand} {f off b o : Nat} (hx : ev env x = some (.ptr b o)) (hf : faB P s f off = true) : VP P N ⟨dst,.fieldAddr s x f,ty,pos,aft,g⟩ env H (.ptr b (o + off)) :=
 fun D w a hs hr hi =>by
  have hrd:=ev_rd hx hr
  generalize hv : a.eval x = v at hrd
  cases hrd with
  | ptr b o =>exact ⟨.pointer (some ⟨b,o + off,none⟩),fun w1 hp1 =>by simp only [execOp,hv,Sem.run_bind,run_fieldAt hf,Result.andThen_ok]; rfl,.ptr _ _⟩
theorem VP.fieldE {s : TypeId} {x : Operand} {f off : Nat} {e : TypeId} {xs : List VV} (hx : ev env x = some (.eref e xs)) (hf : faB P s f off = true) : VP P N ⟨dst,.fieldAddr s x f,ty,pos,aft,g⟩ env H (.eref e (xs.drop off)) :=
 fun D w a hs hr hi =>by
  have hrd:=ev_rd hx hr
  generalize hv : a.eval x = v at hrd
  cases hrd with
  | eref e xs b o q hD hc hrr =>
   refine ⟨.pointer (some ⟨b,o + off,none⟩),fun w1 hp1 =>by simp only [execOp,hv,Sem.run_bind,run_fieldAt hf,Result.andThen_ok]; rfl,.eref e _ b (o + off) (fun j =>q (off + j)) hD ?_ ?_⟩
   ·intro j y hy
    rw [List.getElem?_drop] at hy
    rw [Nat.add_assoc]
    exact hc _ y hy
   ·intro j y hy
    rw [List.getElem?_drop] at hy
    exact hrr _ y hy
theorem VP.fieldR {s : TypeId} {x : Operand} {f off b sz i o : Nat} (hx : ev env x = some (.rref b sz i o)) (hf : faB P s f off = true) : VP P N ⟨dst,.fieldAddr s x f,ty,pos,aft,g⟩ env H (.rref b sz i (o + off)) :=
 fun D w a hs hr hi =>by
  have hrd:=ev_rd hx hr
  generalize hv : a.eval x = v at hrd
  cases hrd with
  | rref b sz i o =>
   refine ⟨.pointer (some ⟨b,i * sz + (o + off),none⟩),fun w1 hp1 =>?_,.rref _ _ _ _⟩
   simp only [execOp,hv,Sem.run_bind,run_fieldAt hf,Result.andThen_ok,Nat.add_assoc]; rfl
def elB (P : Program) (t e : TypeId) (sz : Nat) : Bool :=
 (match P.underlying t with | some (.slice e') =>e' == e | _ =>false) && (match P.info? e with | some i =>i.size == sz | none =>false)
theorem elB_und {t e : TypeId} {sz : Nat} (h : elB P t e sz = true) : P.underlying t = some (.slice e):=by
 unfold elB at h
 simp only [Bool.and_eq_true] at h
 have h1:=h.1
 split at h1
 ·rename_i e' hu
  rw [hu]
  simp only [beq_iff_eq] at h1
  rw [h1]
 ·cases h1
theorem elB_info {t e : TypeId} {sz : Nat} (h : elB P t e sz = true) : ∃ i,P.info? e = some i∧i.size = sz:=by
 unfold elB at h
 simp only [Bool.and_eq_true] at h
 have h1:=h.2
 split at h1
 ·rename_i i hi
  exact ⟨i,hi,by simpa using h1⟩
 ·cases h1
theorem elB_cells {t e : TypeId} {sz : Nat} (h : elB P t e sz = true) : P.cellsOf e = sz:=by
 obtain ⟨i,h1,h2⟩:=elB_info h
 simp [Program.cellsOf,h1,h2]
theorem run_indexAt {t e : TypeId} {sz : Nat} (h : elB P t e sz = true) (b o len cap : Nat) (kd : IntKind) (n : Int) (h0 : 0≤n) (h1 : n < len) (w : World) :
  (Instr.indexAt t (.slice (some ⟨b,o,none⟩) len cap) (.int kd n)).run P w = .ok (.pointer (some ⟨b,o + n.toNat * sz,none⟩)) w:=by
 obtain ⟨i,h2,h3⟩:=elB_info h
 simp only [Instr.indexAt,asIntOf,Sem.run_bind,Sem.run_pure,Result.andThen_ok,run_underlying (elB_und h)]
 simp [h0,h1,sizeOf,typeInfo,h2,h3,Addr.add_mk]
theorem rd_list {v : Value} {e : TypeId} {xs : List VV} (h : Rd P D w v (.list e xs)) : ((∃ a,v = .slice a 0 0)∧xs = [])∨∃ b off c,v = .slice (some ⟨b,off,none⟩) xs.length c∧(xs.length≤c∧c≤maxLen)∧D b e ∧
  (∀ x,x ∈ xs→x.el (P.cellsOf e))∧∃ f : Nat→Nat→Value,(∀ (i : Nat) (x : VV),xs[i]? = some x→∀ (j : Nat) (y : VV),x.cells[j]? = some y→w.cell? ⟨b,off + i * P.cellsOf e + j,none⟩ = some (f i j)) ∧
  ∀ (i : Nat) (x : VV),xs[i]? = some x→∀ (j : Nat) (y : VV),x.cells[j]? = some y→Rd P D w (f i j) y:=by
 cases h with
 | listNil e a =>exact .inl ⟨⟨a,rfl⟩,rfl⟩
 | list e xs b off c f hc hm hD hz hv hr =>exact .inr ⟨b,off,c,rfl,⟨hc,hm⟩,hD,hz,f,hv,hr⟩
theorem VP.indexE {t : TypeId} {x ix : Operand} {e : TypeId} {sz : Nat} {xs : List VV} {kd : IntKind} {n : Int} {y : VV} (hx : ev env x = some (.list e xs)) (hi : ev env ix = some (.int kd n)) (ht : elB P t e sz = true)
  (h0 : 0≤n) (hy : xs[n.toNat]? = some y) : VP P N ⟨dst,.indexAddr t x ix,ty,pos,aft,g⟩ env H (.eref e y.cells) :=
 fun D w a hs hr hinv =>by
  have h1:=rd_int (ev_rd hi hr)
  have hlt : n.toNat < xs.length:=(List.getElem?_eq_some_iff.1 hy).1
  rcases rd_list (ev_rd hx hr) with ⟨h2,h3⟩ | ⟨b,off,c,h2,h3,h4,h5,f,h6,h7⟩
  ·rw [h3] at hlt; simp at hlt
  ·refine ⟨.pointer (some ⟨b,off + n.toNat * sz,none⟩),fun w1 hp1 =>?_,.eref e _ b (off + n.toNat * sz) (f n.toNat) h4 ?_ (h7 _ _ hy)⟩
   ·simp only [execOp,h1,h2,Sem.run_bind,run_indexAt ht b off xs.length c kd n h0 (by omega),Result.andThen_ok]; rfl
   ·have:=h6 _ _ hy
    rw [elB_cells ht] at this
    exact this
theorem VP.indexR {t : TypeId} {x ix : Operand} {e : TypeId} {sz b len cap : Nat} {kd : IntKind} {n : Int} (hx : ev env x = some (.sl (some b) len cap)) (hi : ev env ix = some (.int kd n)) (ht : elB P t e sz = true)
  (h0 : 0≤n) (h1 : n < len) : VP P N ⟨dst,.indexAddr t x ix,ty,pos,aft,g⟩ env H (.rref b sz n.toNat 0) :=
 fun D w a hs hr hinv =>by
  have h2:=rd_int (ev_rd hi hr)
  have hrd:=ev_rd hx hr
  generalize hv : a.eval x = v at hrd
  cases hrd with
  | sl b len cap =>
   refine ⟨.pointer (some ⟨b,n.toNat * sz + 0,none⟩),fun w1 hp1 =>?_,.rref _ _ _ _⟩
   simp only [execOp,h2,hv,Sem.run_bind,run_indexAt ht b 0 len cap kd n h0 h1,Result.andThen_ok,Nat.zero_add,Nat.add_zero]; rfl
def arB (P : Program) (t e : TypeId) (len sz : Nat) : Bool :=
 (match P.underlying t with | some (.array n e') =>n == len && e' == e | _ =>false) && (match P.info? e with | some i =>i.size == sz | none =>false)
theorem VP.indexA {t : TypeId} {x ix : Operand} {e : TypeId} {b o len sz : Nat} {kd : IntKind} {n : Int} (hx : ev env x = some (.ptr b o)) (hi : ev env ix = some (.int kd n)) (ht : arB P t e len sz = true)
  (h0 : 0≤n) (h1 : n < len) : VP P N ⟨dst,.indexAddr t x ix,ty,pos,aft,g⟩ env H (.ptr b (o + n.toNat * sz)) :=
 fun D w a hs hr hinv =>by
  have h2:=rd_int (ev_rd hi hr)
  have hrd:=ev_rd hx hr
  unfold arB at ht
  simp only [Bool.and_eq_true] at ht
  obtain ⟨ht1,ht2⟩:=ht
  split at ht1
  ·rename_i m e' hu
   simp only [Bool.and_eq_true,beq_iff_eq] at ht1
   obtain ⟨rfl,rfl⟩:=ht1
   split at ht2
   ·rename_i i hie
    have hsz : i.size = sz:=by simpa using ht2
    generalize hv : a.eval x = v at hrd
    cases hrd with
    | ptr b o =>
     refine ⟨.pointer (some ⟨b,o + n.toNat * sz,none⟩),fun w1 hp1 =>?_,.ptr _ _⟩
     have hrun : (Instr.indexAt t (.pointer (some ⟨b,o,none⟩)) (.int kd n)).run P w1 = .ok (.pointer (some ⟨b,o + n.toNat * sz,none⟩)) w1:=by
      simp only [Instr.indexAt,asIntOf,Sem.run_bind,Sem.run_pure,Result.andThen_ok,run_underlying hu,Instr.sureAddr]
      simp [h0,h1,sizeOf,typeInfo,hie,hsz,Addr.add_mk]
     simp only [execOp,h2,hv,Sem.run_bind,hrun,Result.andThen_ok]; rfl
   ·cases ht2
  ·cases ht1
def bt (s : ByteArray) (i : Nat) : Int:=((s.data.toList.getD i 0).toNat : Int)
theorem VP.indexS {t : TypeId} {x ix : Operand} {s : ByteArray} {kd : IntKind} {n : Int} (hx : ev env x = some (.str s)) (hi : ev env ix = some (.int kd n)) (ht : P.underlying t = some .string)
  (h0 : 0≤n) (h1 : n < s.size) : VP P N ⟨dst,.index t x ix,ty,pos,aft,g⟩ env H (.int .u8 (bt s n.toNat)) :=
 fun D w a hs hr hinv =>by
  have h2:=rd_int (ev_rd hi hr)
  have h3:=rd_str (ev_rd hx hr)
  refine ⟨.int .u8 (bt s n.toNat),fun w1 hp1 =>?_,.int _ _⟩
  have hlt : n.toNat < s.size:=by omega
  have hg : s[n.toNat]? = some (s[n.toNat]'hlt):=ByteArray.getElem?_lt' s n.toNat hlt
  have hb : (bt s n.toNat) = ((s[n.toNat]'hlt).toNat : Int):=by
   unfold bt
   have h5 : n.toNat < s.data.toList.length:=by simpa using hlt
   rw [List.getD_eq_getElem?_getD,List.getElem?_eq_getElem h5]
   rfl
  simp only [execOp,h2,h3,Instr.index,asIntOf,Sem.run_bind,Sem.run_pure,Result.andThen_ok,run_underlying ht]
  simp [h0,hg,hb]
theorem VP.extract {x : Operand} {i : Nat} {xs : List VV} {y : VV} (hx : ev env x = some (.tup xs)) (hy : xs[i]? = some y) : VP P N ⟨dst,.extract x i,ty,pos,aft,g⟩ env H y :=
 fun D w a hs hr hinv =>by
  have hrd:=ev_rd hx hr
  generalize hv : a.eval x = v at hrd
  cases hrd with
  | tup cs xs hsz hrr =>
   have hlt : i < cs.size:=by rw [hsz]; exact (List.getElem?_eq_some_iff.1 hy).1
   exact ⟨cs[i],fun w1 hp1 =>by simp [execOp,hv,Instr.extract,hlt],hrr i _ _ (Array.getElem?_eq_getElem hlt) hy⟩
theorem VP.lenS {x : Operand} {t : TypeId} {s : ByteArray} (hx : ev env x = some (.str s)) (ht : P.underlying t = some .string) :
  VP P N ⟨dst,.call ⟨.builtin .len,#[x],#[t]⟩,ty,pos,aft,g⟩ env H (.int .i64 (s.size : Int)) :=
 fun D w a hs hr hinv =>by
  have hfact:=rd_size (ev_rd hx hr)
  have h3:=rd_str (ev_rd hx hr)
  refine ⟨.int .i64 s.size,fun w1 hp1 =>?_,.int _ _⟩
  simp [execOp,resolve,invoke,builtin,Builtin.len_,h3,run_underlying ht,goInt]
theorem rd_list_len {v : Value} {e : TypeId} {xs : List VV} (h : Rd P D w v (.list e xs)) : ∃ a c,v = .slice a xs.length c:=by
 rcases rd_list h with ⟨⟨a,h2⟩,h3⟩ | ⟨b,off,c,h2,_⟩
 ·exact ⟨a,0,by rw [h2,h3]; rfl⟩
 ·exact ⟨_,_,h2⟩
theorem rd_list_max {v : Value} {e : TypeId} {xs : List VV} (h : Rd P D w v (.list e xs)) : xs.length≤maxLen:=by
 rcases rd_list h with ⟨h2,h3⟩ | ⟨b,off,c,h2,h3,_⟩
 ·rw [h3]; exact Nat.zero_le _
 ·exact Nat.le_trans h3.1 h3.2
theorem VP.lenL {x : Operand} {t e e' : TypeId} {xs : List VV} (hx : ev env x = some (.list e' xs)) (ht : P.underlying t = some (.slice e)) :
  VP P N ⟨dst,.call ⟨.builtin .len,#[x],#[t]⟩,ty,pos,aft,g⟩ env H (.int .i64 (xs.length : Int)) :=
 fun D w a hs hr hinv =>by
  have hfact:=rd_list_max (ev_rd hx hr)
  obtain ⟨ad,c,h3⟩:=rd_list_len (ev_rd hx hr)
  refine ⟨.int .i64 xs.length,fun w1 hp1 =>?_,.int _ _⟩
  simp [execOp,resolve,invoke,builtin,Builtin.len_,h3,run_underlying ht,goInt]
theorem VP.lenR {x : Operand} {t e : TypeId} {b : Option Nat} {len cap : Nat} (hx : ev env x = some (.sl b len cap)) (ht : P.underlying t = some (.slice e)) :
  VP P N ⟨dst,.call ⟨.builtin .len,#[x],#[t]⟩,ty,pos,aft,g⟩ env H (.int .i64 (len : Int)) :=
 fun D w a hs hr hinv =>by
  have hrd:=ev_rd hx hr
  have h3 : ∃ ad,a.eval x = .slice ad len cap:=by
   generalize hv : a.eval x = v at hrd
   cases hrd with
   | slNil =>exact ⟨none,rfl⟩
   | sl b len cap =>exact ⟨_,rfl⟩
  obtain ⟨ad,h3⟩:=h3
  refine ⟨.int .i64 len,fun w1 hp1 =>?_,.int _ _⟩
  simp [execOp,resolve,invoke,builtin,Builtin.len_,h3,run_underlying ht,goInt]
theorem VW.lenS {c : Code} {Q : Post} (t : Nat) {s : ByteArray} (hx : get env t = some (.str s)) (h : s.size≤maxLen→VW P N c Q env H) : VW P N c Q env H:=fun D w a hs hr hi =>by
 obtain ⟨v,hv,hrd⟩:=hr t _ hx
 exact h (rd_size hrd) D w a hs hr hi
theorem VW.lenL {c : Code} {Q : Post} (t : Nat) {e : TypeId} {xs : List VV} (hx : get env t = some (.list e xs)) (h : xs.length≤maxLen→VW P N c Q env H) : VW P N c Q env H:=fun D w a hs hr hi =>by
 obtain ⟨v,hv,hrd⟩:=hr t _ hx
 exact h (rd_list_max hrd) D w a hs hr hi
theorem VW.lenR {c : Code} {Q : Post} (i : Nat) {ob : Option Nat} {cap : Nat} {e : TypeId} {xs : List VV} (hh : H[i]? = some (.row ob e cap xs)) (h : xs.length≤maxLen→VW P N c Q env H) : VW P N c Q env H:=fun D w a hs hr hi =>by
 refine h ?_ D w a hs hr hi
 have hrow:=hi.rel _ (List.mem_of_getElem? hh)
 cases ob with
 | none =>obtain ⟨e1,e2⟩:=hrow; subst e1; exact Nat.zero_le _
 | some b =>obtain ⟨arr,r1,r2,r3,r4,_⟩:=hrow; omega
theorem VP.makeFunc {fn : Fn} {first caps : Array Operand} {fs cs : List VV} (hf : first.toList.mapM (ev env) = some fs) (hc : caps.toList.mapM (ev env) = some cs) :
  VP P N ⟨dst,.makeFunc fn first caps,ty,pos,aft,g⟩ env H (.clo fn fs cs) :=
 fun D w a hs hr hinv =>by
  obtain ⟨h1,h2⟩:=mapM_rel hf
  obtain ⟨h3,h4⟩:=mapM_rel hc
  refine ⟨.func fn (first.map a.eval) (caps.map a.eval),fun _ _ =>rfl,.clo _ _ _ _ _ (by simpa using h1) ?_ (by simpa using h3) ?_⟩
  ·intro j v x hv hx
   simp only [Array.getElem?_map,Option.map_eq_some_iff] at hv
   obtain ⟨o,ho,rfl⟩:=hv
   exact ev_rd (h2 j o x (by simpa using ho) hx) hr
  ·intro j v x hv hx
   simp only [Array.getElem?_map,Option.map_eq_some_iff] at hv
   obtain ⟨o,ho,rfl⟩:=hv
   exact ev_rd (h4 j o x (by simpa using ho) hx) hr
def VC (P : Program) (f : FuncId) (args : List VV) (H : List HE) (R : VV→List HE→Prop) : Prop :=
 ∀ (D : Cx) (w : World) (vs : Array Value),vs.size = args.length→(∀ (j : Nat) (v : Value) (x : VV),vs[j]? = some v→args[j]? = some x→Rd P D w v x)→Inv P D w H →
  Calls P f vs w fun e w' =>∃ v x H' D',e = .returned v∧R x H'∧Rd P D' w' v x∧Inv P D' w' H'∧Fr D w H D' w' H'
theorem VC.mono {f : FuncId} {args : List VV} {R R' : VV→List HE→Prop} (h : VC P f args H R) (hr : ∀ x H,R x H→R' x H) : VC P f args H R' :=
 fun D w vs h1 h2 h3 =>(h D w vs h1 h2 h3).mono fun _ _ ⟨v,x,H',D',a,b,c⟩ =>⟨v,x,H',D',a,hr _ _ b,c⟩
def fnB (P : Program) (f : FuncId) : Bool :=
 match P.funcs[f]? with
 | some fn =>fn.body.isSome && !(fn.name == "runtime.NumGoroutine")
 | none =>false
theorem run_callFunc {f : FuncId} (h : fnB P f = true) (args : Array Value) (w : World) : (callFunc f args).run P w = .ok (.enter f args) w:=by
 unfold fnB at h
 split at h
 ·rename_i fn hf
  simp only [Bool.and_eq_true,Bool.not_eq_true'] at h
  obtain ⟨h1,h2⟩:=h
  have h2' : ¬ fn.name = "runtime.NumGoroutine":=by simpa using h2
  have h3 : ¬ fn.body = none:=fun e =>by simp [e] at h1
  simp [callFunc,hf,h2',h3]
 ·cases h
theorem Inv.frame {H1 H2 Hc : List HE} {D' : Cx} {w' : World} (hi : Inv P D w (Hc++H2)) (hi' : Inv P D' w' H1) (hf : Fr D w Hc D' w' H1) : Inv P D' w' (H1++H2)∧Fr D w (Hc++H2) D' w' (H1++H2):=by
 obtain ⟨nd,lt,ap,dlt,rel,arn⟩:=hi
 rw [blks_append] at nd lt ap
 rw [ars_append] at arn
 have hn2 : ∀ b,b ∈ blks H2→b ∉ blks Hc:=fun b hb hb' =>(List.nodup_append.1 nd).2.2 b hb' b hb rfl
 have hsame : ∀ b,b ∈ blks H2→w'.heap[b]? = w.heap[b]?:=fun b hb =>hf.prot b (lt b (by simp [hb])) (hn2 b hb)
 have hDs : ∀ b e,D b e→w'.heap[b]? = w.heap[b]?:=fun b e hd =>hf.prot b (dlt b e hd) (fun hb =>ap b e hd (by simp [hb]))
 have hn1 : ∀ b,b ∈ blks H2→b ∉ blks H1:=fun b hb hb' =>by
  rcases hf.hnew b hb' with h | h
  ·exact hn2 b hb h
  ·have:=lt b (by simp [hb]); omega
 refine ⟨⟨?_,?_,?_,hi'.dlt,?_,?_⟩,⟨hf.size,?_,hf.dmono,?_,?_,hf.os,hf.tape,hf.output,hf.nmono,?_,?_⟩⟩
 ·rw [blks_append,List.nodup_append]
  exact ⟨hi'.nodup,(List.nodup_append.1 nd).2.1,fun a ha b hb e =>hn1 b hb (e ▸ ha)⟩
 ·intro b hb
  rw [blks_append] at hb
  rcases List.mem_append.1 hb with hb | hb
  ·exact hi'.lt b hb
  ·exact Nat.lt_of_lt_of_le (lt b (by simp [hb])) hf.size
 ·intro b e hd hb
  rw [blks_append] at hb
  rcases List.mem_append.1 hb with hb | hb
  ·exact hi'.apart b e hd hb
  ·rcases hf.dnew b e hd with h | h | h
   ·exact ap b e h (by simp [hb])
   ·exact hn2 b hb h
   ·have:=lt b (by simp [hb]); omega
 ·intro h hh
  rcases List.mem_append.1 hh with hh | hh
  ·exact hi'.rel h hh
  ·refine (rel h (by simp [hh])).keep (fun b hb =>hsame b (mem_blks hh hb)) hf.dmono hf.nmono (fun a ha i b q =>?_) hDs
   rcases hf.nnew a i b q with q | q
   ·exact q
   ·exact absurd rfl ((List.nodup_append.1 arn).2.2 a q a (List.mem_flatMap.2 ⟨h,hh,ha⟩))
 ·rw [ars_append,List.nodup_append]
  exact ⟨hi'.arn,(List.nodup_append.1 arn).2.1,fun a ha b hb e =>(List.nodup_append.1 arn).2.2 a (hf.anew a ha) b hb e⟩
 ·intro b hlt hn
  rw [blks_append] at hn
  exact hf.prot b hlt (fun h =>hn (by simp [h]))
 ·intro b e hd
  rcases hf.dnew b e hd with h | h | h
  ·exact .inl h
  ·exact .inr (.inl (by rw [blks_append]; simp [h]))
  ·exact .inr (.inr h)
 ·intro b hb
  rw [blks_append] at hb ⊢
  rcases List.mem_append.1 hb with hb | hb
  ·rcases hf.hnew b hb with h | h
   ·exact .inl (by simp [h])
   ·exact .inr h
  ·exact .inl (by simp [hb])
 ·intro a i b hd
  rcases hf.nnew a i b hd with h | h
  ·exact .inl h
  ·exact .inr (by rw [ars_append]; simp [h])
 ·intro a ha
  rw [ars_append] at ha ⊢
  rcases List.mem_append.1 ha with ha | ha
  ·exact List.mem_append.2 (.inl (hf.anew a ha))
  ·exact List.mem_append.2 (.inr ha)
theorem Inv.sub {Hc H2 : List HE} (hi : Inv P D w (Hc++H2)) : Inv P D w Hc:=by
 obtain ⟨nd,lt,ap,dlt,rel,arn⟩:=hi
 rw [blks_append] at nd lt ap
 rw [ars_append] at arn
 exact ⟨(List.nodup_append.1 nd).1,fun b hb =>lt b (by simp [hb]),fun b e hd hb =>ap b e hd (by simp [hb]),dlt,fun h hh =>rel h (by simp [hh]),(List.nodup_append.1 arn).1⟩
theorem VO.call {f : FuncId} {fo : Operand} {args : Array Operand} {ats : Array TypeId} {fi ca xs : List VV} {Hc H2 : List HE} {R : VV→List HE→Prop} (hfo : ev env fo = some (.clo (.func f) fi ca)) (hf : fnB P f = true)
  (hx : args.toList.mapM (ev env) = some xs) (hc : VC P f (fi++xs++ca) Hc R) (k : ∀ x H1,R x H1→K x (H1++H2)) : VO P N ⟨dst,.call ⟨.value fo,args,ats⟩,ty,pos,aft,g⟩ env (Hc++H2) K:=by
 intro D w a hs hr hi next Qx hn
 obtain ⟨h1,h2⟩:=mapM_rel hx
 have hrd:=ev_rd hfo hr
 generalize hv : a.eval fo = v at hrd
 cases hrd with
 | clo fn fa cs _ _ hs1 hr1 hs2 hr2 =>
  have hrun : (execOp a.eval ⟨dst,.call ⟨.value fo,args,ats⟩,ty,pos,aft,g⟩).run P w = .ok (.enter f (fa++args.map a.eval++cs)) w:=by
   simp only [execOp,resolve,hv,Deferred.ofValue,Sem.run_bind,Sem.run_pure,Result.andThen_ok,invoke]
   exact run_callFunc hf _ w
  have hargs : ∀ (j : Nat) (v : Value) (x : VV),(fa++args.map a.eval++cs)[j]? = some v→(fi++xs++ca)[j]? = some x→Rd P D w v x:=by
   intro j v x hj hjx
   have e1 : fa.size = fi.length:=hs1
   have e2 : (args.map a.eval).size = xs.length:=by simpa using h1
   by_cases ha : j < fa.size
   ·rw [Array.append_assoc,Array.getElem?_append_left ha] at hj
    rw [List.append_assoc,List.getElem?_append_left (by omega)] at hjx
    exact hr1 j v x hj hjx
   ·by_cases hb : j < fa.size + (args.map a.eval).size
    ·rw [Array.getElem?_append_left (by rw [Array.size_append]; exact hb),Array.getElem?_append_right (by omega)] at hj
     rw [List.getElem?_append_left (by rw [List.length_append]; omega),List.getElem?_append_right (by omega)] at hjx
     rw [e1] at hj
     simp only [Array.getElem?_map,Option.map_eq_some_iff] at hj
     obtain ⟨o,ho,rfl⟩:=hj
     exact ev_rd (h2 _ o x (by simpa using ho) hjx) hr
    ·rw [Array.getElem?_append_right (by rw [Array.size_append]; omega)] at hj
     rw [List.getElem?_append_right (by rw [List.length_append]; omega)] at hjx
     have e3 : (fa++args.map a.eval).size = (fi++xs).length:=by rw [Array.size_append,List.length_append]; omega
     rw [e3] at hj
     exact hr2 _ v x hj hjx
  unfold Oper.wp
  rw [hrun]
  refine Calls.mono (hc D w _ ?_ hargs hi.sub) ?_
  ·simp only [Array.size_append,List.length_append,Array.size_map]
   rw [Array.length_toList] at h1
   omega
  ·rintro e w' ⟨v,x,H',D',rfl,hR,hrv,hi',hf'⟩
   obtain ⟨hI,hF⟩:=hi.frame hi' hf'
   exact hn v x (H'++H2) D' w' (k x H' hR) hrv hI hF
def env0 (args : List VV) : Env:=args.zipIdx.map fun (x,i) =>(i,x)
theorem get_env0 : ∀ (args : List VV) (k : Nat) (s : Nat),get ((args.zipIdx k).map fun (x,i) =>(i,x)) s = if k≤s then args[s - k]? else none
 | [],k,s =>by simp [get]
 | x :: r,k,s =>by
  simp only [List.zipIdx_cons,List.map_cons,get]
  by_cases e : s = k
  ·subst e; simp
  ·have e' : (s == k) = false:=by simpa using e
   simp only [e',Bool.false_eq_true,if_false,get_env0 r (k + 1) s]
   by_cases h : k≤s
   ·have h1 : k + 1≤s:=by omega
    simp only [h,h1,if_true]
    rw [show s - k = (s - (k + 1)) + 1 by omega,List.getElem?_cons_succ]
   ·simp only [h,show ¬ k + 1≤s by omega,if_false]
inductive ResR (P : Program) (env : Env) (H : List HE) : ResultVar→VV→Prop
 | tmp (t : Nat) (x : VV) (h : get env t = some x) : ResR P env H (.tmp t) x
 | cell (t : TypeId) (s b off i n : Nat) (bt : TypeId) (cs : List VV) (agg : Bool) (h : get env s = some (.ptr b off)) (hh : H[i]? = some (.box b bt cs)) (ht : ldB P t n agg = true)
   (hn : Nat.ble n (cs.drop off).length = true) : ResR P env H (.cell s t) (whole agg n (cs.drop off))
inductive ResA (P : Program) (env : Env) (H : List HE) : List ResultVar→List VV→Prop
 | nil : ResA P env H [] []
 | cons {r : ResultVar} {x : VV} {rs : List ResultVar} {xs : List VV} (h : ResR P env H r x) (t : ResA P env H rs xs) : ResA P env H (r :: rs) (x :: xs)
def resV : List VV→VV
 | [x] =>x
 | xs =>.tup xs
def resSem (tmps : Array Value) : ResultVar→Sem Value
 | .tmp t =>pure (tmps.getD t undef)
 | .cell s t =>do loadVar t (← asAddr (tmps.getD s undef))
theorem resR_run {a : Act} {r : ResultVar} {x : VV} (h : ResR P env H r x) (hr : RE P D w env a.tmps) (hi : Inv P D w H) :
  ∃ v,(resSem a.tmps r).run P w = .ok v w∧Rd P D w v x:=by
 cases h with
 | tmp t x h =>
  obtain ⟨v,hv,hrd⟩:=hr t x h
  exact ⟨v,by simp [resSem,Array.getD_eq_getD_getElem?,hv],hrd⟩
 | cell t s b off i n bt cs agg h hh ht hn =>
  obtain ⟨v,hv,hrd⟩:=hr s _ h
  cases hrd with
  | ptr b off =>
   obtain ⟨arr,h1,h2,h3⟩:=hi.rel _ (List.mem_of_getElem? hh)
   have hcell : ∀ (j : Nat) (y : VV),(cs.drop off)[j]? = some y→w.cell? ⟨b,off + j,none⟩ = some (arr.getD (off + j) undef)∧Rd P D w (arr.getD (off + j) undef) y:=by
    intro j y hy
    rw [List.getElem?_drop] at hy
    have hlt : off + j < arr.size:=by rw [h2]; exact (List.getElem?_eq_some_iff.1 hy).1
    rw [cell_of_row w b (off + j) arr bt (0,0) h1]
    simp only [Array.getD_eq_getD_getElem?,Array.getElem?_eq_getElem hlt,Option.getD_some,true_and]
    exact h3 _ _ _ (Array.getElem?_eq_getElem hlt) hy
   obtain ⟨u,hu,hru⟩:=run_loadVar (P:=P) (D:=D) (w:=w) ht (Nat.le_of_ble_eq_true hn) (fun j =>arr.getD (off + j) undef) (fun j y hy =>(hcell j y hy).1) (fun j y hy =>(hcell j y hy).2)
   exact ⟨u,by simp [resSem,Array.getD_eq_getD_getElem?,hv,asAddr,hu],hru⟩
theorem resA_run {a : Act} : ∀ {rs : List ResultVar} {xs : List VV},ResA P env H rs xs→RE P D w env a.tmps→Inv P D w H →
  ∃ vs : List Value,(rs.mapM (resSem a.tmps)).run P w = .ok vs w∧vs.length = xs.length ∧
   ∀ (j : Nat) (v : Value) (x : VV),vs[j]? = some v→xs[j]? = some x→Rd P D w v x
 | _,_,.nil,hr,hi =>⟨[],by simp,rfl,by simp⟩
 | _,_,.cons h t,hr,hi =>by
  obtain ⟨v,hv,hrd⟩:=resR_run h hr hi
  obtain ⟨vs,hvs,hl,hall⟩:=resA_run t hr hi
  refine ⟨v :: vs,?_,by simp [hl],fun j u x hu hx =>?_⟩
  ·simp only [List.mapM_cons,Sem.run_bind,hv,Result.andThen_ok,hvs,Sem.run_pure]
  ·cases j with
   | zero =>simp at hu hx; subst hu; subst hx; exact hrd
   | succ j =>exact hall j u x (by simpa using hu) (by simpa using hx)
theorem results_run {a : Act} {fn : Func} {rs : List ResultVar} {xs : List VV} (hrs : fn.results = rs.toArray) (h : ResA P env H rs xs) (hr : RE P D w env a.tmps) (hi : Inv P D w H) :
  ∃ v,(results fn a.tmps).run P w = .ok v w∧Rd P D w v (resV xs):=by
 obtain ⟨vs,hvs,hl,hall⟩:=resA_run h hr hi
 have hm : (fn.results.mapM (resSem a.tmps)).run P w = .ok vs.toArray w:=by
  rw [hrs,Array.mapM_eq_mapM_toList]
  simp [hvs]
 refine ⟨if h : vs.toArray.size = 1 then vs.toArray[0] else .tuple vs.toArray,?_,?_⟩
 ·have hres : results fn a.tmps = ((fn.results.mapM (resSem a.tmps)) >>= fun vs =>pure (if h : vs.size = 1 then vs[0] else .tuple vs)):=rfl
  rw [hres]
  simp only [Sem.run_bind,hm,Result.andThen_ok,Sem.run_pure]
 ·match xs,vs,hl,hall with
  | [x],[v],_,hall =>
   simpa [resV] using hall 0 v x rfl rfl
  | [],[],_,_ =>exact .tup _ _ rfl (by simp)
  | x :: y :: xs,u :: v :: vs,hl,hall =>
   simp only [resV,List.size_toArray,List.length_cons]
   rw [dif_neg (by omega)]
   exact .tup _ _ (by simpa using hl) (fun j c z hc hz =>hall j c z (by simpa using hc) hz)
theorem VC.body {f : FuncId} {fn : Func} {c : Code} {args : List VV} {rs : List ResultVar} {R : VV→List HE→Prop} (hf : P.funcs[f]? = some fn) (hb : fn.body = some c) (hrs : fn.results = rs.toArray) (hn : args.length≤fn.ntmps)
  (h : VW P fn.ntmps c (fun e env' H' =>(e = .ret∨e = .normal)∧∃ xs,ResA P env' H' rs xs∧R (resV xs) H') (env0 args) H) : VC P f args H R:=by
 intro D w vs hs hr hi
 refine calls_of_wp hf hb (wp_mono (h D w _ ?_ ?_ hi) ?_)
 ·simp [hs]; omega
 ·intro s x hx
  have:=get_env0 args 0 s
  simp only [Nat.zero_le,if_true,Nat.sub_zero] at this
  unfold env0 at hx
  rw [this] at hx
  have hlt : s < args.length:=(List.getElem?_eq_some_iff.1 hx).1
  have hlv : s < vs.size:=by omega
  exact ⟨vs[s],by simp [Array.getElem?_append_left hlv],hr s _ x (Array.getElem?_eq_getElem hlv) hx⟩
 ·rintro e a' w' ⟨h1,h2,env',H',D',⟨he,xs,hres,hR⟩,hre,hi',hf'⟩
  obtain ⟨v,hv,hrd⟩:=results_run hrs hres hre hi'
  rcases he with rfl | rfl
  ·exact ⟨h2,v,hv,v,_,H',D',rfl,hR,hrd,hi',hf'⟩
  ·exact ⟨h2,v,hv,v,_,H',D',rfl,hR,hrd,hi',hf'⟩
end
end Go.Proofs.YtkondhigbbgidaaGreat.V

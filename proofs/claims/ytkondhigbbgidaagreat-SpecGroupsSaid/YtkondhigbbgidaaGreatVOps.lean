/-
  The logic over plain values: its rules for operations. Own text.
-/
import Derived.Test.YtkondhigbbgidaaGreatVBase
import Derived.Laws.Rows
import Derived.Laws.Entries
import Derived.WalkKit
namespace Go.Proofs.YtkondhigbbgidaaGreat.V
open Go
set_option linter.unusedVariables false
def ofC : Value→Option VV
 | .bool b =>some (.bool b)
 | .int k n =>some (.int k n)
 | .string s =>if Nat.ble s.size maxLen then some (.str s) else none
 | .slice none 0 0 =>some (.sl none 0 0)
 | .pointer none =>some .nilptr
 | .nilIface =>some .nilif
 | .map none =>some .nilmap
 | .nilFunc =>some .nilfn
 | _ =>none
theorem ofC_rd {P : Program} {D : Cx} {w : World} {v : Value} {x : VV} (h : ofC v = some x) : Rd P D w v x:=by
 unfold ofC at h
 split at h<;>try (simp only [Option.some.injEq,reduceCtorEq] at h<;>subst h)
 ·exact .bool _
 ·exact .int _ _
 ·split at h
  ·rename_i hs
   simp only [Option.some.injEq] at h
   subst h
   exact .str _ (Nat.le_of_ble_eq_true hs)
  ·cases h
 ·exact .slNil
 ·exact .nilptr
 ·exact .nilif
 ·exact .nilmap
 ·exact .nilfn
def ev (env : Env) : Operand→Option VV
 | .tmp t =>get env t
 | .const v =>ofC v
 | .func f =>some (.clo (.func f) [] [])
 | .global _ =>none
section
variable {P : Program} {N : Nat} {env : Env} {H : List HE} {K : VV→List HE→Prop}
theorem ev_rd {D : Cx} {w : World} {a : Act} {x : Operand} {y : VV} (h : ev env x = some y) (hr : RE P D w env a.tmps) : Rd P D w (a.eval x) y:=by
 cases x with
 | tmp t =>
  obtain ⟨v,hv,hrd⟩:=hr t y h
  have : a.eval (.tmp t) = v:=by simp [Act.eval,Array.getD_eq_getD_getElem?,hv]
  rw [this]; exact hrd
 | const v =>exact ofC_rd h
 | func f =>
  simp only [ev,Option.some.injEq] at h
  subst h
  exact .clo _ _ _ _ _ rfl (by simp) rfl (by simp)
 | global g =>simp [ev] at h
def Prot (D : Cx) (w : World) (H : List HE) (w' : World) : Prop:=∀ b,((∃ e,D b e)∨b ∈ blks H)→w'.heap[b]? = w.heap[b]?
theorem Prot.refl (D : Cx) (w : World) (H : List HE) : Prot D w H w:=fun _ _ =>rfl
def VP (P : Program) (N : Nat) (o : Oper) (env : Env) (H : List HE) (x : VV) : Prop :=
 ∀ (D : Cx) (w : World) (a : Act),a.tmps.size = N→RE P D w env a.tmps→Inv P D w H→∃ v,(∀ w',Prot D w H w'→(execOp a.eval o).run P w' = .ok (.value v) w')∧Rd P D w v x
theorem VP.vo {o : Oper} {x : VV} (h : VP P N o env H x) (hk : K x H) : VO P N o env H K:=by
 intro D w a hs hr hi next Qx hn
 obtain ⟨v,hv,hrd⟩:=h D w a hs hr hi
 unfold Oper.wp
 rw [hv w (Prot.refl D w H)]
 exact hn v x H D w hk hrd hi (Fr.refl D w H)
theorem VR.p {ops : Array Oper} {o : Oper} {rest : List Oper} {L : Env→List HE→Prop} {x : VV} (hd : dok N o.dst = true) (hg : o.guard = none) (h : VP P N o env H x) (k : VR P N ops rest L (putd env o.dst x) H) :
  VR P N ops (o :: rest) L env H:=VR.cons hd hg (h.vo k)
theorem VR.pG {ops : Array Oper} {o : Oper} {rest : List Oper} {L : Env→List HE→Prop} {x : VV} {j t : Nat} {want b : Bool} (hd : dok N o.dst = true) (hg : o.guard = some (j,want)) (hj : gslot ops j = some t)
  (hb : get env t = some (.bool b)) (hw : b = want) (h : VP P N o env H x) (k : VR P N ops rest L (putd env o.dst x) H) : VR P N ops (o :: rest) L env H:=VR.consG hd hg hj hb hw (h.vo k)
variable {dst : Option Tmp} {ty : TypeId} {pos : String} {aft : Array Edge} {g : Option (Nat × Bool)}
theorem VP.move {x : Operand} {y : VV} (h : ev env x = some y) : VP P N ⟨dst,.move x,ty,pos,aft,g⟩ env H y :=
 fun D w a hs hr hi =>⟨_,fun _ _ =>rfl,ev_rd h hr⟩
theorem VP.assign {x : Operand} {y : VV} (h : ev env x = some y) : VP P N ⟨dst,.assign x,ty,pos,aft,g⟩ env H y :=
 fun D w a hs hr hi =>⟨_,fun _ _ =>rfl,ev_rd h hr⟩
theorem rd_bool {D : Cx} {w : World} {v : Value} {b : Bool} (h : Rd P D w v (.bool b)) : v = .bool b:=by cases h; rfl
theorem rd_int {D : Cx} {w : World} {v : Value} {k : IntKind} {n : Int} (h : Rd P D w v (.int k n)) : v = .int k n:=by cases h; rfl
theorem rd_size {D : Cx} {w : World} {v : Value} {s : ByteArray} (h : Rd P D w v (.str s)) : s.size≤maxLen:=by cases h; assumption
theorem rd_str {D : Cx} {w : World} {v : Value} {s : ByteArray} (h : Rd P D w v (.str s)) : v = .string s:=by cases h; rfl
theorem VP.pick {c x x' : Operand} {b : Bool} {y : VV} (hc : ev env c = some (.bool b)) (h : ev env (if b then x else x') = some y) : VP P N ⟨dst,.pick c x x',ty,pos,aft,g⟩ env H y :=
 fun D w a hs hr hi =>by
  have h1:=rd_bool (ev_rd hc hr)
  refine ⟨a.eval (if b then x else x'),fun w1 hp1 =>?_,ev_rd h hr⟩
  simp only [execOp,h1,asBool]
  cases b<;>rfl
def arith : BinOp→IntKind→Int→Int→Option VV
 | .add,k,x,y =>some (.int k (k.wrap (x + y)))
 | .sub,k,x,y =>some (.int k (k.wrap (x - y)))
 | .mul,k,x,y =>some (.int k (k.wrap (x * y)))
 | .eql,_,x,y =>some (.bool (x == y))
 | .neq,_,x,y =>some (.bool (x != y))
 | .lss,_,x,y =>some (.bool (decide (x < y)))
 | .leq,_,x,y =>some (.bool (decide (x≤y)))
 | .gtr,_,x,y =>some (.bool (decide (x > y)))
 | .geq,_,x,y =>some (.bool (decide (x≥y)))
 | _,_,_,_ =>none
theorem VP.arith {op : BinOp} {xt yt : TypeId} {x y : Operand} {k : IntKind} {n m : Int} {z : VV} (hx : ev env x = some (.int k n)) (hy : ev env y = some (.int k m)) (hz : arith op k n m = some z) :
  VP P N ⟨dst,.binOp op xt x y yt,ty,pos,aft,g⟩ env H z :=
 fun D w a hs hr hi =>by
  have h1:=rd_int (ev_rd hx hr)
  have h2:=rd_int (ev_rd hy hr)
  have hg : eqGuard op xt x y (.int k n) (.int k m) = pure ():=eqGuard_at_int ..
  cases op<;>simp only [V.arith,Option.some.injEq,reduceCtorEq] at hz<;>subst hz
  case add =>exact ⟨.int k (k.wrap (n + m)),fun w1 hp1 =>by simp only [execOp,h1,h2,hg]; simp [binOp_add,Op.intArith],.int _ _⟩
  case sub =>exact ⟨.int k (k.wrap (n - m)),fun w1 hp1 =>by simp only [execOp,h1,h2,hg]; simp [binOp_sub,Op.intArith],.int _ _⟩
  case mul =>exact ⟨.int k (k.wrap (n * m)),fun w1 hp1 =>by simp only [execOp,h1,h2,hg]; simp [binOp_mul,Op.intArith],.int _ _⟩
  case eql =>exact ⟨.bool (n == m),fun w1 hp1 =>by simp only [execOp,h1,h2,hg]; simp [binOp_eql],.bool _⟩
  case neq =>exact ⟨.bool (n != m),fun w1 hp1 =>by simp only [execOp,h1,h2,hg]; simp [binOp_neq],.bool _⟩
  case lss =>exact ⟨.bool (decide (n < m)),fun w1 hp1 =>by simp only [execOp,h1,h2,hg]; simp [binOp_lss],.bool _⟩
  case leq =>exact ⟨.bool (decide (n≤m)),fun w1 hp1 =>by simp only [execOp,h1,h2,hg]; simp [binOp_leq],.bool _⟩
  case gtr =>exact ⟨.bool (decide (n > m)),fun w1 hp1 =>by simp only [execOp,h1,h2,hg]; simp [binOp_gtr],.bool _⟩
  case geq =>exact ⟨.bool (decide (n≥m)),fun w1 hp1 =>by simp only [execOp,h1,h2,hg]; simp [binOp_geq],.bool _⟩
theorem VP.quo {xt yt : TypeId} {x y : Operand} {k : IntKind} {n m : Int} (hx : ev env x = some (.int k n)) (hy : ev env y = some (.int k m)) (hm : m≠0) :
  VP P N ⟨dst,.binOp .quo xt x y yt,ty,pos,aft,g⟩ env H (.int k (k.wrap (n.tdiv m))) :=
 fun D w a hs hr hi =>by
  have h1:=rd_int (ev_rd hx hr)
  have h2:=rd_int (ev_rd hy hr)
  refine ⟨_,fun w1 hp1 =>?_,.int _ _⟩
  simp only [execOp,h1,h2,eqGuard_quo]
  simp [binOp_quo,Op.intDiv,hm]
theorem VP.rem {xt yt : TypeId} {x y : Operand} {k : IntKind} {n m : Int} (hx : ev env x = some (.int k n)) (hy : ev env y = some (.int k m)) (hm : m≠0) :
  VP P N ⟨dst,.binOp .rem xt x y yt,ty,pos,aft,g⟩ env H (.int k (n.tmod m)) :=
 fun D w a hs hr hi =>by
  have h1:=rd_int (ev_rd hx hr)
  have h2:=rd_int (ev_rd hy hr)
  refine ⟨_,fun w1 hp1 =>?_,.int _ _⟩
  simp only [execOp,h1,h2,eqGuard_rem]
  simp [binOp_rem,Op.intDiv,hm]
def strop : BinOp→ByteArray→ByteArray→Option VV
 | .eql,x,y =>some (.bool (x.toList == y.toList))
 | .neq,x,y =>some (.bool (!(x.toList == y.toList)))
 | .lss,x,y =>some (.bool (Op.bytesLess x.toList y.toList))
 | .leq,x,y =>some (.bool (Op.bytesLess x.toList y.toList || x.toList == y.toList))
 | .gtr,x,y =>some (.bool (!(Op.bytesLess x.toList y.toList || x.toList == y.toList)))
 | .geq,x,y =>some (.bool (!(Op.bytesLess x.toList y.toList)))
 | _,_,_ =>none
theorem VP.strop {op : BinOp} {xt yt : TypeId} {x y : Operand} {s t : ByteArray} {z : VV} (hx : ev env x = some (.str s)) (hy : ev env y = some (.str t)) (hz : strop op s t = some z) :
  VP P N ⟨dst,.binOp op xt x y yt,ty,pos,aft,g⟩ env H z :=
 fun D w a hs hr hi =>by
  have h1:=rd_str (ev_rd hx hr)
  have h2:=rd_str (ev_rd hy hr)
  cases op<;>simp only [V.strop,Option.some.injEq,reduceCtorEq] at hz<;>subst hz
  all_goals exact ⟨_,fun _ _ =>by simp only [execOp,h1,h2,eqGuard_at_string]; rfl,.bool _⟩
theorem VP.concat {xt yt : TypeId} {x y : Operand} {s t : ByteArray} (hx : ev env x = some (.str s)) (hy : ev env y = some (.str t)) (hn : s.size + t.size≤maxLen) :
  VP P N ⟨dst,.binOp .add xt x y yt,ty,pos,aft,g⟩ env H (.str (s++t)) :=
 fun D w a hs hr hi =>by
  have h1:=rd_str (ev_rd hx hr)
  have h2:=rd_str (ev_rd hy hr)
  refine ⟨_,fun w1 hp1 =>?_,.str _ (by rw [ByteArray.size_append]; exact hn)⟩
  simp only [execOp,h1,h2,eqGuard_at_string]
  unfold maxLen at hn
  have h3 : ¬ (((s.size + t.size : Nat) : Int) > IntKind.i64.max):=by rw [IntKind.max_i64]; omega
  simp only [binOp,Op.stringOp,if_neg h3]
  rfl
theorem VP.not {xt : TypeId} {x : Operand} {b : Bool} (hx : ev env x = some (.bool b)) : VP P N ⟨dst,.unOp .not xt x,ty,pos,aft,g⟩ env H (.bool (!b)) :=
 fun D w a hs hr hi =>by
  have h1:=rd_bool (ev_rd hx hr)
  refine ⟨_,fun w1 hp1 =>?_,.bool _⟩
  simp only [execOp,h1]
  rfl
theorem VP.neg {xt : TypeId} {x : Operand} {k : IntKind} {n : Int} (hx : ev env x = some (.int k n)) : VP P N ⟨dst,.unOp .neg xt x,ty,pos,aft,g⟩ env H (.int k (k.wrap (0 - n))) :=
 fun D w a hs hr hi =>by
  have h1:=rd_int (ev_rd hx hr)
  refine ⟨_,fun w1 hp1 =>?_,.int _ _⟩
  simp only [execOp,h1]
  rfl
def ldB (P : Program) (t : TypeId) (n : Nat) (agg : Bool) : Bool :=
 (match P.info? t with | some i =>i.size == n | none =>false) &&
 (match P.underlying t with | some (.struct _) =>agg | some (.array _ _) =>agg | some _ =>!agg && n == 1 | none =>false)
theorem ldB_size {t : TypeId} {n : Nat} {agg : Bool} (h : ldB P t n agg = true) (w : World) : (sizeOf t).run P w = .ok n w:=by
 unfold ldB at h
 cases hi : P.info? t with
 | none =>simp [hi] at h
 | some i =>
  simp only [hi,Bool.and_eq_true,beq_iff_eq] at h
  simp [sizeOf,typeInfo,hi,h.1]
theorem ldB_agg {t : TypeId} {n : Nat} {agg : Bool} (h : ldB P t n agg = true) (w : World) : (isAgg t).run P w = .ok agg w:=by
 unfold ldB at h
 simp only [Bool.and_eq_true] at h
 have h2:=h.2
 cases hu : P.underlying t with
 | none =>simp [hu] at h2
 | some d =>
  simp only [hu] at h2
  simp only [isAgg,Sem.run_bind,run_underlying hu,Result.andThen_ok]
  cases d<;>simp_all
theorem ldB_one {t : TypeId} {n : Nat} (h : ldB P t n false = true) : n = 1:=by
 unfold ldB at h
 simp only [Bool.and_eq_true] at h
 have h2:=h.2
 cases hu : P.underlying t with
 | none =>simp [hu] at h2
 | some d =>simp only [hu] at h2; cases d<;>simp_all
def whole (agg : Bool) (n : Nat) (xs : List VV) : VV:=if agg then .agg (xs.take n) else xs.headD .any
theorem Addr.add_mk (b o n : Nat) : Addr.add ⟨b,o,none⟩ n = ⟨b,o + n,none⟩:=Addr.add_lit b o n
theorem run_loadVarP {S : World→Prop} {D : Cx} {w : World} {t : TypeId} {n : Nat} {agg : Bool} {b off : Nat} {xs : List VV} (h : ldB P t n agg = true) (hn : n≤xs.length)
  (f : Nat→Value) (hv : ∀ w1,S w1→∀ (j : Nat) (y : VV),xs[j]? = some y→w1.cell? ⟨b,off + j,none⟩ = some (f j)) (hr : ∀ (j : Nat) (y : VV),xs[j]? = some y→Rd P D w (f j) y) :
  ∃ v,(∀ w1,S w1→(loadVar t ⟨b,off,none⟩).run P w1 = .ok v w1)∧Rd P D w v (whole agg n xs):=by
 cases agg with
 | true =>
  refine ⟨.agg ((List.range n).map f).toArray,fun w1 hw1 =>?_,?_⟩
  ·simp only [loadVar,Sem.run_bind,ldB_agg h,Result.andThen_ok]
   simp only [if_true,Sem.run_bind,ldB_size h,Result.andThen_ok]
   have hl:=run_loadCells (P:=P) (w:=w1) ⟨b,off,none⟩ n f (fun j hj =>by
    rw [Addr.add_mk]
    exact hv w1 hw1 j xs[j] (by simp))
   rw [hl]
   rfl
  ·simp only [whole,if_true]
   refine .agg _ _ ?_ ?_
   ·simp; omega
   ·intro j v x hj hx
    rw [List.getElem?_take] at hx
    split at hx
    ·rename_i hjn
     have hv' : f j = v:=by simpa [List.getElem?_range hjn] using hj
     subst hv'
     exact hr j x hx
    ·simp at hx
 | false =>
  have h1:=ldB_one h
  subst h1
  simp only [whole]
  cases xs with
  | nil =>simp at hn
  | cons x r =>
   refine ⟨f 0,fun w1 hw1 =>?_,hr 0 x (by simp)⟩
   have hc:=hv w1 hw1 0 x (by simp)
   simp only [Nat.add_zero] at hc
   simp only [loadVar,Sem.run_bind,ldB_agg h,Result.andThen_ok,Bool.false_eq_true,if_false]
   simp [load,Sem.run,hc]
theorem run_loadVar {D : Cx} {w : World} {t : TypeId} {n : Nat} {agg : Bool} {b off : Nat} {xs : List VV} (h : ldB P t n agg = true) (hn : n≤xs.length)
  (f : Nat→Value) (hv : ∀ (j : Nat) (y : VV),xs[j]? = some y→w.cell? ⟨b,off + j,none⟩ = some (f j)) (hr : ∀ (j : Nat) (y : VV),xs[j]? = some y→Rd P D w (f j) y) :
  ∃ v,(loadVar t ⟨b,off,none⟩).run P w = .ok v w∧Rd P D w v (whole agg n xs):=by
 obtain ⟨v,h1,h2⟩:=run_loadVarP (S:=fun w1 =>w1 = w) h hn f (fun w1 e =>e ▸ hv) hr
 exact ⟨v,h1 w rfl,h2⟩
end
end Go.Proofs.YtkondhigbbgidaaGreat.V

/-
  A logic over plain values for loaded Go code: what a stretch of code does to its slots (as plain values) and to the memory that it owns. Own text.
-/
import Derived.Calls
import Derived.Tactics
import Derived.Orders
import Derived.LoopN
import Derived.Below
import Derived.RowKit3
namespace Go.Proofs.YtkondhigbbgidaaGreat.V
open Go
set_option linter.unusedVariables false
inductive VV where
 | any
 | bool (b : Bool)
 | int (k : IntKind) (n : Int)
 | str (s : ByteArray)
 | agg (cs : List VV)
 | tup (cs : List VV)
 | list (e : TypeId) (xs : List VV)
 | sl (b : Option Nat) (len cap : Nat)
 | ptr (b : Nat) (off : Nat)
 | rref (b sz i o : Nat)
 | eref (e : TypeId) (xs : List VV)
 | nilptr
 | nilmap
 | nilfn
 | fl (e : TypeId) (xs : List VV)
 | clo (fn : Fn) (first caps : List VV)
 | map (b : Nat)
 | iface (t : TypeId) (v : VV)
 | nilif
 | iter (b : Nat)
 | sub (b : Option Nat) (sz off len cap : Nat)
 | aptr (a n off : Nat)
 | ifo (n : Bool) (t : TypeId) (v : VV)
def VV.cells : VV→List VV
 | .agg cs =>cs
 | v =>[v]
def VV.one : VV→Bool
 | .any | .agg _ | .tup _ | .iter _ =>false
 | _ =>true
def VV.el (sz : Nat) (x : VV) : Prop:=x.cells.length = sz∧∀ y,y ∈ x.cells→y.one = true
def flat (xs : List VV) : List VV:=xs.flatMap VV.cells
structure Cx where
 fz : Nat→TypeId→Prop
 nm : Nat→Nat→Nat→Prop
instance : CoeFun Cx (fun _ =>Nat→TypeId→Prop):=⟨Cx.fz⟩
inductive Rd (P : Program) (D : Cx) (w : World) : Value→VV→Prop
 | any (v : Value) : Rd P D w v .any
 | bool (b : Bool) : Rd P D w (.bool b) (.bool b)
 | int (k : IntKind) (n : Int) : Rd P D w (.int k n) (.int k n)
 | str (s : ByteArray) (hs : s.size≤maxLen) : Rd P D w (.string s) (.str s)
 | agg (cs : Array Value) (xs : List VV) (hs : cs.size = xs.length) (hr : ∀ (j : Nat) (v : Value) (x : VV),cs[j]? = some v→xs[j]? = some x→Rd P D w v x) : Rd P D w (.agg cs) (.agg xs)
 | tup (cs : Array Value) (xs : List VV) (hs : cs.size = xs.length) (hr : ∀ (j : Nat) (v : Value) (x : VV),cs[j]? = some v→xs[j]? = some x→Rd P D w v x) : Rd P D w (.tuple cs) (.tup xs)
 | listNil (e : TypeId) (a : Option Addr) : Rd P D w (.slice a 0 0) (.list e [])
 | list (e : TypeId) (xs : List VV) (b off c : Nat) (f : Nat→Nat→Value) (hc : xs.length≤c) (hm : c≤maxLen) (hD : D b e)
   (hz : ∀ x,x ∈ xs→x.el (P.cellsOf e))
   (hv : ∀ (i : Nat) (x : VV),xs[i]? = some x→∀ (j : Nat) (y : VV),x.cells[j]? = some y→w.cell? ⟨b,off + i * P.cellsOf e + j,none⟩ = some (f i j))
   (hr : ∀ (i : Nat) (x : VV),xs[i]? = some x→∀ (j : Nat) (y : VV),x.cells[j]? = some y→Rd P D w (f i j) y) : Rd P D w (.slice (some ⟨b,off,none⟩) xs.length c) (.list e xs)
 | slNil : Rd P D w (.slice none 0 0) (.sl none 0 0)
 | sl (b len cap : Nat) : Rd P D w (.slice (some ⟨b,0,none⟩) len cap) (.sl (some b) len cap)
 | ptr (b off : Nat) : Rd P D w (.pointer (some ⟨b,off,none⟩)) (.ptr b off)
 | rref (b sz i o : Nat) : Rd P D w (.pointer (some ⟨b,i * sz + o,none⟩)) (.rref b sz i o)
 | eref (e : TypeId) (xs : List VV) (b off : Nat) (f : Nat→Value) (hD : D b e)
   (hv : ∀ (j : Nat) (y : VV),xs[j]? = some y→w.cell? ⟨b,off + j,none⟩ = some (f j))
   (hr : ∀ (j : Nat) (y : VV),xs[j]? = some y→Rd P D w (f j) y) : Rd P D w (.pointer (some ⟨b,off,none⟩)) (.eref e xs)
 | nilptr : Rd P D w (.pointer none) .nilptr
 | nilmap : Rd P D w (.map none) .nilmap
 | nilfn : Rd P D w .nilFunc .nilfn
 | flNil (e : TypeId) : Rd P D w (.slice none 0 0) (.fl e [])
 | fl (e : TypeId) (xs : List VV) (a : Option Addr) (n : Nat) (hn : n = xs.length) (h : Rd P D w (.slice a n n) (.list e xs)) : Rd P D w (.slice a n n) (.fl e xs)
 | clo (fn : Fn) (fi ca : Array Value) (xs ys : List VV) (hs : fi.size = xs.length) (hr : ∀ (j : Nat) (v : Value) (x : VV),fi[j]? = some v→xs[j]? = some x→Rd P D w v x)
   (hs' : ca.size = ys.length) (hr' : ∀ (j : Nat) (v : Value) (x : VV),ca[j]? = some v→ys[j]? = some x→Rd P D w v x) : Rd P D w (.func fn fi ca) (.clo fn xs ys)
 | map (b : Nat) : Rd P D w (.map (some b)) (.map b)
 | iface (t : TypeId) (v : Value) (x : VV) (h : Rd P D w v x) : Rd P D w (.iface t v) (.iface t x)
 | nilif : Rd P D w .nilIface .nilif
 | iter (b : Nat) (v : Value) : Rd P D w v (.iter b)
 | sub (b sz o len cap : Nat) : Rd P D w (.slice (some ⟨b,o * sz,none⟩) len cap) (.sub (some b) sz o len cap)
 | subNil (a : Option Addr) (b : Option Nat) (sz o cap : Nat) : Rd P D w (.slice a 0 cap) (.sub b sz o 0 cap)
 | ap0 (a : Nat) : Rd P D w (.pointer none) (.aptr a 0 0)
 | ap (a i off b : Nat) (h : D.nm a i b) : Rd P D w (.pointer (some ⟨b,off,none⟩)) (.aptr a (i + 1) off)
 | ifo0 (t : TypeId) (x : VV) : Rd P D w .nilIface (.ifo true t x)
 | ifo1 (t : TypeId) (v : Value) (x : VV) (h : Rd P D w v x) : Rd P D w (.iface t v) (.ifo false t x)
theorem cell_of_block {w w' : World} {a : Addr} (h : w'.heap[a.block]? = w.heap[a.block]?) : w'.cell? a = w.cell? a:=by
 unfold World.cell?; rw [h]
theorem Rd.mono {P : Program} {D D' : Cx} {w w' : World} {v : Value} {x : VV} (h : Rd P D w v x)
  (hD : ∀ b e,D b e→D' b e) (hn : ∀ a i b,D.nm a i b→D'.nm a i b) (hw : ∀ b e,D b e→w'.heap[b]? = w.heap[b]?) : Rd P D' w' v x:=by
 induction h with
 | any v =>exact .any v
 | bool b =>exact .bool b
 | int k n =>exact .int k n
 | str s hs =>exact .str s hs
 | agg cs xs hs _ ih =>exact .agg cs xs hs ih
 | tup cs xs hs _ ih =>exact .tup cs xs hs ih
 | listNil e a =>exact .listNil e a
 | list e xs b off c f hc hm hd hz hv _ ih =>
  exact .list e xs b off c f hc hm (hD _ _ hd) hz (fun i x hx j y hy =>(cell_of_block (hw b e hd)).trans (hv i x hx j y hy)) ih
 | slNil =>exact .slNil
 | sl b len cap =>exact .sl b len cap
 | ptr b off =>exact .ptr b off
 | rref b sz i o =>exact .rref b sz i o
 | eref e xs b off f hd hv _ ih =>exact .eref e xs b off f (hD _ _ hd) (fun j y hy =>(cell_of_block (hw b e hd)).trans (hv j y hy)) ih
 | nilptr =>exact .nilptr
 | nilmap =>exact .nilmap
 | nilfn =>exact .nilfn
 | flNil e =>exact .flNil e
 | fl e xs a n hn _ ih =>exact .fl e xs a n hn ih
 | clo fn fi ca xs ys hs _ hs' _ ih ih' =>exact .clo fn fi ca xs ys hs ih hs' ih'
 | map b =>exact .map b
 | iface t v x _ ih =>exact .iface t v x ih
 | nilif =>exact .nilif
 | iter b v =>exact .iter b v
 | sub b sz o len cap =>exact .sub b sz o len cap
 | subNil a b sz o cap =>exact .subNil a b sz o cap
 | ap0 a =>exact .ap0 a
 | ap a i off b h =>exact .ap a i off b (hn a i b h)
 | ifo0 t x =>exact .ifo0 t x
 | ifo1 t v x _ ih =>exact .ifo1 t v x ih
inductive HE where
 | box (b : Nat) (t : TypeId) (cs : List VV)
 | row (b : Option Nat) (e : TypeId) (cap : Nat) (xs : List VV)
 | iter (b : Nat) (s : ByteArray) (pos : Nat)
 | map (b : Nat) (es : List (VV × VV))
 | ar (a : Nat) (t : TypeId) (bs : List Nat) (xs : List (List VV))
def HE.bl : HE→List Nat
 | .box b _ _ =>[b]
 | .row b _ _ _ =>b.toList
 | .iter b _ _ =>[b]
 | .map b _ =>[b]
 | .ar _ _ bs _ =>bs
def HE.blk : HE→Option Nat
 | .box b _ _ =>some b
 | .row b _ _ _ =>b
 | .iter b _ _ =>some b
 | .map b _ =>some b
 | .ar _ _ _ _ =>none
def HE.pl : HE→List Nat
 | .ar a _ _ _ =>[a]
 | _ =>[]
def HR (P : Program) (D : Cx) (w : World) : HE→Prop
 | .box b t cs =>∃ arr,w.heap[b]? = some (.cells arr t (0,0))∧arr.size = cs.length∧∀ (j : Nat) (v : Value) (x : VV),arr[j]? = some v→cs[j]? = some x→Rd P D w v x
 | .row none _ cap xs =>xs = []∧cap = 0
 | .row (some b) e cap xs =>∃ arr,w.heap[b]? = some (.cells arr e (0,0))∧(arr.size = cap * P.cellsOf e∨(cap * P.cellsOf e≤arr.size∧2≤P.cellsOf e))∧xs.length≤cap∧cap≤maxLen ∧
   (∀ x,x ∈ xs→x.el (P.cellsOf e)) ∧
   ∀ (j : Nat) (v : Value) (y : VV),arr[j]? = some v→(flat xs)[j]? = some y→Rd P D w v y
 | .iter b s pos =>w.heap[b]? = some (.stringIter s pos)
 | .map b es =>∃ (mes : Array MapEntry) (clock : Nat),w.heap[b]? = some (.map mes clock)∧mes.size = es.length∧∀ (j : Nat) (e : MapEntry) (p : VV × VV),mes[j]? = some e→es[j]? = some p→Rd P D w e.key p.1∧Rd P D w e.val p.2
 | .ar a t bs xs =>bs.length = xs.length∧(∀ i b,D.nm a i b↔bs[i]? = some b)∧∀ (i b : Nat) (cs : List VV),bs[i]? = some b→xs[i]? = some cs →
   ∃ arr,w.heap[b]? = some (.cells arr t (0,0))∧arr.size = cs.length∧∀ (j : Nat) (v : Value) (x : VV),arr[j]? = some v→cs[j]? = some x→Rd P D w v x
def blks (H : List HE) : List Nat:=H.flatMap HE.bl
def ars (H : List HE) : List Nat:=H.flatMap HE.pl
theorem mem_blks {H : List HE} {h : HE} {b : Nat} (hm : h ∈ H) (hb : b ∈ h.bl) : b ∈ blks H:=List.mem_flatMap.2 ⟨h,hm,hb⟩
structure Inv (P : Program) (D : Cx) (w : World) (H : List HE) : Prop where
 nodup : (blks H).Nodup
 lt : ∀ b,b ∈ blks H→b < w.heap.size
 apart : ∀ b e,D b e→b ∉ blks H
 dlt : ∀ b e,D b e→b < w.heap.size
 rel : ∀ h,h ∈ H→HR P D w h
 arn : (ars H).Nodup
structure Fr (D : Cx) (w : World) (H : List HE) (D' : Cx) (w' : World) (H' : List HE) : Prop where
 size : w.heap.size≤w'.heap.size
 prot : ∀ b,b < w.heap.size→b ∉ blks H→w'.heap[b]? = w.heap[b]?
 dmono : ∀ b e,D b e→D' b e
 dnew : ∀ b e,D' b e→D b e∨b ∈ blks H∨w.heap.size≤b
 hnew : ∀ b,b ∈ blks H'→b ∈ blks H∨w.heap.size≤b
 os : w'.os = w.os
 tape : w'.tape = w.tape
 output : w'.output = w.output
 nmono : ∀ a i b,D.nm a i b→D'.nm a i b
 nnew : ∀ a i b,D'.nm a i b→D.nm a i b∨a ∈ ars H
 anew : ∀ a,a ∈ ars H'→a ∈ ars H
theorem Fr.refl (D : Cx) (w : World) (H : List HE) : Fr D w H D w H :=
 ⟨Nat.le_refl _,fun _ _ _ =>rfl,fun _ _ h =>h,fun _ _ h =>.inl h,fun _ h =>.inl h,rfl,rfl,rfl,fun _ _ _ h =>h,fun _ _ _ h =>.inl h,fun _ h =>h⟩
theorem Fr.trans {D D1 D2 : Cx} {w w1 w2 : World} {H H1 H2 : List HE} (h : Fr D w H D1 w1 H1) (k : Fr D1 w1 H1 D2 w2 H2) : Fr D w H D2 w2 H2:=by
 refine ⟨Nat.le_trans h.size k.size,fun b hb hn =>?_,fun b e hd =>k.dmono b e (h.dmono b e hd),fun b e hd =>?_,fun b hb =>?_,k.os.trans h.os,k.tape.trans h.tape,k.output.trans h.output,fun a i b hd =>k.nmono a i b (h.nmono a i b hd),fun a i b hd =>?_,fun a ha =>h.anew a (k.anew a ha)⟩
 ·have hn1 : b ∉ blks H1:=fun hm =>by
   rcases h.hnew b hm with h1 | h1
   ·exact hn h1
   ·omega
  exact (k.prot b (Nat.lt_of_lt_of_le hb h.size) hn1).trans (h.prot b hb hn)
 ·rcases k.dnew b e hd with h1 | h1 | h1
  ·exact h.dnew b e h1
  ·rcases h.hnew b h1 with h2 | h2
   ·exact .inr (.inl h2)
   ·exact .inr (.inr h2)
  ·exact .inr (.inr (Nat.le_trans h.size h1))
 ·rcases k.hnew b hb with h1 | h1
  ·exact h.hnew b h1
  ·exact .inr (Nat.le_trans h.size h1)
 ·rcases k.nnew a i b hd with h1 | h1
  ·exact h.nnew a i b h1
  ·exact .inr (h.anew a h1)
theorem Fr.dsame {P : Program} {D D' : Cx} {w w' : World} {H H' : List HE} (hI : Inv P D w H) (h : Fr D w H D' w' H') :
  ∀ b e,D b e→w'.heap[b]? = w.heap[b]?:=fun b e hd =>h.prot b (hI.dlt b e hd) (hI.apart b e hd)
theorem Rd.keep {P : Program} {D D' : Cx} {w w' : World} {H H' : List HE} (hI : Inv P D w H) (h : Fr D w H D' w' H') {v : Value} {x : VV} (r : Rd P D w v x) :
  Rd P D' w' v x:=r.mono h.dmono h.nmono (h.dsame hI)
abbrev Env:=List (Nat × VV)
def get : Env→Nat→Option VV
 | [],_ =>none
 | (s,x) :: r,t =>if t == s then some x else get r t
def RE (P : Program) (D : Cx) (w : World) (env : Env) (tmps : Array Value) : Prop :=
 ∀ s x,get env s = some x→∃ v,tmps[s]? = some v∧Rd P D w v x
theorem RE.keep {P : Program} {D D' : Cx} {w w' : World} {H H' : List HE} (hI : Inv P D w H) (h : Fr D w H D' w' H') {env : Env} {tmps : Array Value} (r : RE P D w env tmps) :
  RE P D' w' env tmps:=fun s x hx =>let ⟨v,hv,hr⟩:=r s x hx; ⟨v,hv,hr.keep hI h⟩
theorem RE.put {P : Program} {D : Cx} {w : World} {env : Env} {a : Act} {d : Nat} {v : Value} {x : VV} (r : RE P D w env a.tmps) (hd : d < a.tmps.size) (h : Rd P D w v x) :
  RE P D w ((d,x) :: env) (a.put (some d) v).tmps:=by
 intro s y hy
 simp only [get] at hy
 by_cases e : s = d
 ·subst e
  simp only [beq_self_eq_true,if_true,Option.some.injEq] at hy
  subst hy
  exact ⟨v,by simp [Act.put,hd],h⟩
 ·have e' : (s == d) = false:=by simpa using e
  simp only [e',Bool.false_eq_true,if_false] at hy
  obtain ⟨u,hu,hr⟩:=r s y hy
  exact ⟨u,by simpa [Act.put,Array.getElem?_setIfInBounds_ne (Ne.symm e)] using hu,hr⟩
abbrev Post:=Exit→Env→List HE→Prop
def Ends (P : Program) (N : Nat) (D : Cx) (w : World) (a : Act) (H : List HE) (Q : Post) : Exit→Act→World→Prop :=
 fun e a' w' =>a'.tmps.size = N∧a'.defers = a.defers∧∃ env' H' D',Q e env' H'∧RE P D' w' env' a'.tmps∧Inv P D' w' H'∧Fr D w H D' w' H'
def VW (P : Program) (N : Nat) (c : Code) (Q : Post) (env : Env) (H : List HE) : Prop :=
 ∀ D w a,a.tmps.size = N→RE P D w env a.tmps→Inv P D w H→c.wp P (Ends P N D w a H Q) a w
section
variable {P : Program} {N : Nat} {Q : Post} {env : Env} {H : List HE}
theorem VW.mono {c : Code} {Q' : Post} (h : VW P N c Q env H) (hq : ∀ e env H,Q e env H→Q' e env H) : VW P N c Q' env H :=
 fun D w a hs hr hi =>wp_mono (h D w a hs hr hi) fun _ _ _ ⟨h1,h2,env',H',D',h3,h4⟩ =>⟨h1,h2,env',H',D',hq _ _ _ h3,h4⟩
theorem VW.skip (h : Q .normal env H) : VW P N .skip Q env H :=
 fun D w a hs hr hi =>wp_skip ⟨hs,rfl,env,H,D,h,hr,hi,Fr.refl D w H⟩
theorem VW.exit {id : Nat} (h : Q (.exit id) env H) : VW P N (.exit id) Q env H :=
 fun D w a hs hr hi =>wp_exit ⟨hs,rfl,env,H,D,h,hr,hi,Fr.refl D w H⟩
theorem VW.ret (h : Q .ret env H) : VW P N .ret Q env H :=
 fun D w a hs hr hi =>wp_ret ⟨hs,rfl,env,H,D,h,hr,hi,Fr.refl D w H⟩
def Post.then (K : Env→List HE→Prop) (Q : Post) : Post
 | .normal,env,H =>K env H
 | e,env,H =>Q e env H
theorem ends_then {K : Env→List HE→Prop} {D : Cx} {w : World} {a : Act} {K' : Act→World→Prop}
  (hk : ∀ a' w' env' H' D',a'.tmps.size = N→a'.defers = a.defers→K env' H'→RE P D' w' env' a'.tmps→Inv P D' w' H'→Fr D w H D' w' H'→K' a' w') :
  ∀ e a' w',Ends P N D w a H (Post.then K Q) e a' w'→Exit.then K' (Ends P N D w a H Q) e a' w':=by
 rintro e a' w' ⟨h1,h2,env',H',D',h3,h4,h5,h6⟩
 cases e with
 | normal =>exact hk a' w' env' H' D' h1 h2 h3 h4 h5 h6
 | exit id =>exact ⟨h1,h2,env',H',D',h3,h4,h5,h6⟩
 | goto l =>exact ⟨h1,h2,env',H',D',h3,h4,h5,h6⟩
 | ret =>exact ⟨h1,h2,env',H',D',h3,h4,h5,h6⟩
 | panic c =>exact ⟨h1,h2,env',H',D',h3,h4,h5,h6⟩
 | outgrown =>exact ⟨h1,h2,env',H',D',h3,h4,h5,h6⟩
theorem ends_trans {D D' : Cx} {w w' : World} {a a' : Act} {H' : List HE} (hd : a'.defers = a.defers) (hf : Fr D w H D' w' H') :
  ∀ e a1 w1,Ends P N D' w' a' H' Q e a1 w1→Ends P N D w a H Q e a1 w1 :=
 fun _ _ _ ⟨h1,h2,env1,H1,D1,h3,h4,h5,h6⟩ =>⟨h1,h2.trans hd,env1,H1,D1,h3,h4,h5,hf.trans h6⟩
theorem VW.seq {x y : Code} (h : VW P N x (Post.then (VW P N y Q) Q) env H) : VW P N (.seq x y) Q env H:=by
 intro D w a hs hr hi
 refine wp_seq (wp_mono (h D w a hs hr hi) (ends_then ?_))
 intro a' w' env' H' D' h1 h2 h3 h4 h5 h6
 exact wp_mono (h3 D' w' a' h1 h4 h5) (ends_trans h2 h6)
def Post.blk (id : Nat) (Q : Post) : Post
 | .exit id',env,H =>if id' = id then Q .normal env H else Q (.exit id') env H
 | e,env,H =>Q e env H
theorem VW.block {id : Nat} {c : Code} (h : VW P N c (Post.blk id Q) env H) : VW P N (.block id c) Q env H:=by
 intro D w a hs hr hi
 refine wp_block (wp_mono (h D w a hs hr hi) ?_)
 rintro e a' w' ⟨h1,h2,env',H',D',h3,h4,h5,h6⟩
 cases e with
 | exit id' =>
  by_cases hid : id' = id
  ·simp only [Post.blk,hid,if_true] at h3
   simp only [Exit.inBlock,hid,if_true]
   exact ⟨h1,h2,env',H',D',h3,h4,h5,h6⟩
  ·simp only [Post.blk,hid,if_false] at h3
   simp only [Exit.inBlock,hid,if_false]
   exact ⟨h1,h2,env',H',D',h3,h4,h5,h6⟩
 | normal =>exact ⟨h1,h2,env',H',D',h3,h4,h5,h6⟩
 | goto l =>exact ⟨h1,h2,env',H',D',h3,h4,h5,h6⟩
 | ret =>exact ⟨h1,h2,env',H',D',h3,h4,h5,h6⟩
 | panic c =>exact ⟨h1,h2,env',H',D',h3,h4,h5,h6⟩
 | outgrown =>exact ⟨h1,h2,env',H',D',h3,h4,h5,h6⟩
theorem VW.cond {t : Nat} {b : Bool} {x y : Code} (hb : get env t = some (.bool b)) (h : VW P N (if b then x else y) Q env H) : VW P N (.cond (.tmp t) x y) Q env H:=by
 intro D w a hs hr hi
 obtain ⟨v,hv,hrd⟩:=hr t _ hb
 cases hrd
 exact wp_cond (t:=b) (by simp [Act.eval,Array.getD_eq_getD_getElem?,hv]) (h D w a hs hr hi)
theorem VW.condT {t : Nat} {b : Bool} {x y : Code} (hb : get env t = some (.bool b)) (h1 : b = true) (h : VW P N x Q env H) : VW P N (.cond (.tmp t) x y) Q env H:=by
 subst h1; exact VW.cond hb h
theorem VW.condF {t : Nat} {b : Bool} {x y : Code} (hb : get env t = some (.bool b)) (h1 : b = false) (h : VW P N y Q env H) : VW P N (.cond (.tmp t) x y) Q env H:=by
 subst h1; exact VW.cond hb h
def VL (P : Program) (N : Nat) (c : Code) (Q : Post) : Nat→Env→List HE→Prop
 | 0,_,_ =>False
 | n + 1,env,H =>VW P N c (Post.then (VL P N c Q n) Q) env H
theorem vl_rounds {c : Code} : ∀ (n : Nat) {env : Env} {H : List HE},VL P N c Q n env H→∀ D w a,a.tmps.size = N→RE P D w env a.tmps→Inv P D w H →
  Code.rounds P c (Ends P N D w a H Q) n a w
 | 0,_,_,h,_,_,_,_,_,_ =>h.elim
 | n + 1,env,H,h,D,w,a,hs,hr,hi =>by
  refine wp_mono (h D w a hs hr hi) (ends_then ?_)
  intro a' w' env' H' D' h1 h2 h3 h4 h5 h6
  have:=vl_rounds n h3 D' w' a' h1 h4 h5
  exact rounds_mono n (ends_trans h2 h6) this
where
 rounds_mono {c : Code} {Q Q' : Exit→Act→World→Prop} : ∀ (n : Nat),(∀ e a w,Q e a w→Q' e a w)→∀ {a : Act} {w : World},Code.rounds P c Q n a w→Code.rounds P c Q' n a w
  | 0,_,_,_,h =>h
  | n + 1,hq,a,w,h =>wp_mono (c:=c) (P:=P) (a:=a) (w:=w) h fun e a w he =>by
   cases e with
   | normal =>exact rounds_mono n hq he
   | exit id =>exact hq _ _ _ he
   | goto l =>exact hq _ _ _ he
   | ret =>exact hq _ _ _ he
   | panic ch =>exact hq _ _ _ he
   | outgrown =>exact hq _ _ _ he
theorem VW.loop {c : Code} (n : Nat) (h : VL P N c Q n env H) : VW P N (.loop c) Q env H :=
 fun D w a hs hr hi =>wp_loop_rounds n (vl_rounds n h D w a hs hr hi)
theorem VW.weak {c : Code} {env' : Env} (he : ∀ s x,get env' s = some x→get env s = some x) (h : VW P N c Q env' H) : VW P N c Q env H :=
 fun D w a hs hr hi =>h D w a hs (fun s x hx =>hr s x (he s x hx)) hi
theorem VW.nilRow {c : Code} (e : TypeId) (h : VW P N c Q env (.row none e 0 [] :: H)) : VW P N c Q env H:=by
 intro D w a hs hr hi
 have hi' : Inv P D w (.row none e 0 [] :: H):=⟨hi.nodup,hi.lt,hi.apart,hi.dlt,fun x hx =>by
  rcases List.mem_cons.1 hx with rfl | hx
  ·exact ⟨rfl,rfl⟩
  ·exact hi.rel x hx,hi.arn⟩
 refine wp_mono (h D w a hs hr hi') ?_
 rintro e' a' w' ⟨h1,h2,env',H',D',h3,h4,h5,h6⟩
 exact ⟨h1,h2,env',H',D',h3,h4,h5,⟨h6.size,h6.prot,h6.dmono,h6.dnew,h6.hnew,h6.os,h6.tape,h6.output,h6.nmono,h6.nnew,h6.anew⟩⟩
theorem sub_flat {α β : Type} (f : α→List β) {l l' : List α} (h : l.Sublist l') : (l.flatMap f).Sublist (l'.flatMap f):=by
 induction h with
 | slnil =>exact .slnil
 | cons a _ ih =>rw [List.flatMap_cons]; exact ih.trans (List.sublist_append_right _ _)
 | cons_cons a _ ih =>rw [List.flatMap_cons,List.flatMap_cons]; exact List.Sublist.append (List.Sublist.refl _) ih
theorem blks_sub {l l' : List HE} (h : l.Sublist l') : (blks l).Sublist (blks l'):=sub_flat _ h
theorem ars_sub {l l' : List HE} (h : l.Sublist l') : (ars l).Sublist (ars l'):=sub_flat _ h
theorem VW.drop {c : Code} {H' : List HE} (hs : H'.Sublist H) (h : VW P N c Q env H') : VW P N c Q env H:=by
 intro D w a hz hr hi
 have hb:=blks_sub hs
 have hi' : Inv P D w H':=⟨hi.nodup.sublist hb,fun b hm =>hi.lt b (hb.subset hm),fun b e hd hm =>hi.apart b e hd (hb.subset hm),hi.dlt,fun x hx =>hi.rel x (hs.subset hx),hi.arn.sublist (ars_sub hs)⟩
 refine wp_mono (h D w a hz hr hi') ?_
 rintro e' a' w' ⟨h1,h2,env',H1,D',h3,h4,h5,h6⟩
 refine ⟨h1,h2,env',H1,D',h3,h4,h5,⟨h6.size,fun b hl hn =>h6.prot b hl (fun hm =>hn (hb.subset hm)),h6.dmono,fun b e hd =>?_,fun b hm =>?_,h6.os,h6.tape,h6.output,h6.nmono,fun a i b hd =>?_,fun a ha =>(ars_sub hs).subset (h6.anew a ha)⟩⟩
 ·rcases h6.dnew b e hd with q | q | q
  ·exact .inl q
  ·exact .inr (.inl (hb.subset q))
  ·exact .inr (.inr q)
 ·rcases h6.hnew b hm with q | q
  ·exact .inl (hb.subset q)
  ·exact .inr q
 ·rcases h6.nnew a i b hd with q | q
  ·exact .inl q
  ·exact .inr ((ars_sub hs).subset q)
def Sub (env : Env) : Env→Prop
 | [] =>True
 | (s,x) :: r =>get env s = some x∧Sub env r
theorem Sub.get {env : Env} : ∀ {t : Env},Sub env t→∀ s x,V.get t s = some x→V.get env s = some x
 | [],_,s,x,h =>by simp [V.get] at h
 | (s',y) :: r,⟨h1,h2⟩,s,x,h =>by
  simp only [V.get] at h
  split at h
  ·rename_i e
   have e' : s = s':=by simpa using e
   subst e'
   simp only [Option.some.injEq] at h
   subst h
   exact h1
  ·exact Sub.get h2 s x h
theorem VW.to {c : Code} {env' : Env} {H' : List HE} (he : Sub env env') (hs : H'.Sublist H) (h : VW P N c Q env' H') : VW P N c Q env H:=VW.drop hs (VW.weak he.get h)
theorem VL.list {α σ γ ρ : Type} {c : Code} {l : List α} {R : ρ} (m : List α→σ→Option ρ) (tm : List α→σ→γ→Env) (th : List α→σ→γ→List HE)
  (hnil : ∀ s g,m [] s = some R→VW P N c (Post.then (fun _ _ =>False) Q) (tm l s g) (th l s g))
  (hcons : ∀ pre x rest s g,l = pre++x :: rest→m (x :: rest) s = some R →
   VW P N c (Post.then (fun env' H' =>∃ s' g',m rest s' = some R∧Sub env' (tm (pre++[x]) s' g')∧(th (pre++[x]) s' g').Sublist H') Q) (tm pre s g) (th pre s g)) :
  ∀ (rest pre : List α) (s : σ) (g : γ),l = pre++rest→m rest s = some R→VL P N c Q (rest.length + 1) (tm pre s g) (th pre s g):=by
 intro rest
 induction rest with
 | nil =>
  intro pre s g hp hm
  simp only [List.append_nil] at hp
  subst hp
  exact (hnil s g hm).mono fun e env H he =>by cases e<;>first | exact he.elim | exact he
 | cons x rest ih =>
  intro pre s g hp hm
  refine (hcons pre x rest s g hp hm).mono fun e env H he =>?_
  cases e with
  | normal =>
   obtain ⟨s',g',h1,h2,h3⟩:=he
   have:=ih (pre++[x]) s' g' (by rw [hp]; simp) h1
   exact VW.to h2 h3 this
  | exit id =>exact he
  | goto l =>exact he
  | ret =>exact he
  | panic c =>exact he
  | outgrown =>exact he
def VO (P : Program) (N : Nat) (o : Oper) (env : Env) (H : List HE) (K : VV→List HE→Prop) : Prop :=
 ∀ D w a,a.tmps.size = N→RE P D w env a.tmps→Inv P D w H→∀ (next : Act→World→Prop) (Qx : Exit→Act→World→Prop),
  (∀ v x H' D' w',K x H'→Rd P D' w' v x→Inv P D' w' H'→Fr D w H D' w' H'→next (a.put o.dst v) w')→o.wp P a w next Qx
theorem VO.mono {o : Oper} {K K' : VV→List HE→Prop} (h : VO P N o env H K) (hk : ∀ x H,K x H→K' x H) : VO P N o env H K' :=
 fun D w a hs hr hi next Qx hn =>h D w a hs hr hi next Qx fun v x H' D' w' hx =>hn v x H' D' w' (hk x H' hx)
def putd (env : Env) (d : Option Nat) (x : VV) : Env:=match d with | none =>env | some d =>(d,x) :: env
def VR (P : Program) (N : Nat) (ops : Array Oper) (l : List Oper) (K : Env→List HE→Prop) (env : Env) (H : List HE) : Prop :=
 ∀ D w a,a.tmps.size = N→RE P D w env a.tmps→Inv P D w H→∀ (Q : Exit→Act→World→Prop),
  (∀ a' w' env' H' D',a'.tmps.size = N→a'.defers = a.defers→K env' H'→RE P D' w' env' a'.tmps→Inv P D' w' H'→Fr D w H D' w' H'→Q .normal a' w')→wpList P ops Q l a w
theorem VW.region {id : Nat} {l : List Oper} (h : VR P N l.toArray l (fun env H =>Q .normal env H) env H) : VW P N (.region id l.toArray false) Q env H:=by
 intro D w a hs hr hi
 refine wp_region_lit (h D w a hs hr hi _ ?_)
 intro a' w' env' H' D' h1 h2 h3 h4 h5 h6
 exact ⟨h1,h2,env',H',D',h3,h4,h5,h6⟩
theorem VR.nil {ops : Array Oper} {K : Env→List HE→Prop} (h : K env H) : VR P N ops [] K env H :=
 fun D w a hs hr hi _ hq =>wpList_nil (hq a w env H D hs rfl h hr hi (Fr.refl D w H))
theorem put_size (a : Act) (d : Option Nat) (v : Value) : (a.put d v).tmps.size = a.tmps.size:=by cases d<;>simp [Act.put]
theorem put_defers (a : Act) (d : Option Nat) (v : Value) : (a.put d v).defers = a.defers:=by cases d<;>rfl
def dok (N : Nat) : Option Nat→Bool
 | none =>true
 | some d =>decide (d < N)
theorem RE.putd {D : Cx} {w : World} {a : Act} {d : Option Nat} {v : Value} {x : VV} (r : RE P D w env a.tmps) (hs : a.tmps.size = N) (hd : dok N d = true) (h : Rd P D w v x) :
  RE P D w (V.putd env d x) (a.put d v).tmps:=by
 cases d with
 | none =>exact r
 | some d =>exact r.put (by simpa [dok,hs] using hd) h
theorem VR.cons {ops : Array Oper} {o : Oper} {rest : List Oper} {K : Env→List HE→Prop} (hd : dok N o.dst = true) (hg : o.guard = none)
  (h : VO P N o env H fun x H' =>VR P N ops rest K (putd env o.dst x) H') : VR P N ops (o :: rest) K env H:=by
 intro D w a hs hr hi Q hq
 refine wpList_plain hg fun K' hK =>?_
 refine h D w a hs hr hi K' Q fun v x H' D' w' hx hrd hi' hf =>hK _ _ ?_
 refine hx D' w' (a.put o.dst v) ((put_size ..).trans hs) ((hr.keep hi hf).putd hs hd hrd) hi' Q ?_
 intro a' w1 env1 H1 D1 h1 h2 h3 h4 h5 h6
 exact hq a' w1 env1 H1 D1 h1 (h2.trans (put_defers ..)) h3 h4 h5 (hf.trans h6)
def gslot (ops : Array Oper) (j : Nat) : Option Nat:=(ops[j]?).bind (·.dst)
theorem wanted_of {ops : Array Oper} {o : Oper} {j t : Nat} {want b : Bool} {a : Act} {D : Cx} {w : World} (hg : o.guard = some (j,want)) (hj : gslot ops j = some t) (hb : get env t = some (.bool b))
  (hr : RE P D w env a.tmps) : Region.wanted o (yielded ops a.tmps) = (b == want):=by
 obtain ⟨v,hv,hrd⟩:=hr t _ hb
 cases hrd
 unfold gslot at hj
 have hy : yielded ops a.tmps j = some b:=by
  unfold yielded
  rw [hj]
  simp [hv]
 unfold Region.wanted
 rw [hg]
 simp only [hy]
 cases b<;>cases want<;>rfl
theorem VR.consG {ops : Array Oper} {o : Oper} {rest : List Oper} {K : Env→List HE→Prop} {j t : Nat} {want b : Bool} (hd : dok N o.dst = true) (hg : o.guard = some (j,want)) (hj : gslot ops j = some t)
  (hb : get env t = some (.bool b)) (hw : b = want) (h : VO P N o env H fun x H' =>VR P N ops rest K (putd env o.dst x) H') : VR P N ops (o :: rest) K env H:=by
 subst hw
 intro D w a hs hr hi Q hq
 refine wpList_step fun K' hK =>?_
 rw [wanted_of hg hj hb hr,beq_self_eq_true,if_pos rfl]
 refine h D w a hs hr hi K' Q fun v x H' D' w' hx hrd hi' hf =>hK _ _ ?_
 refine hx D' w' (a.put o.dst v) ((put_size ..).trans hs) ((hr.keep hi hf).putd hs hd hrd) hi' Q ?_
 intro a' w1 env1 H1 D1 h1 h2 h3 h4 h5 h6
 exact hq a' w1 env1 H1 D1 h1 (h2.trans (put_defers ..)) h3 h4 h5 (hf.trans h6)
theorem rd_undef {D : Cx} {w : World} : Rd P D w undef (.tup []):=.tup #[] [] rfl (by simp)
theorem unwanted_of {ops : Array Oper} {o : Oper} {j t : Nat} {want : Bool} {a : Act} {D : Cx} {w : World} (hg : o.guard = some (j,want)) (hj : gslot ops j = some t) (hb : get env t = some (.tup []))
  (hr : RE P D w env a.tmps) : Region.wanted o (yielded ops a.tmps) = false:=by
 obtain ⟨v,hv,hrd⟩:=hr t _ hb
 cases hrd with
 | tup cs _ hs _ =>
  unfold gslot at hj
  have hy : yielded ops a.tmps j = none:=by
   unfold yielded
   rw [hj]
   simp [hv]
  unfold Region.wanted
  rw [hg]
  simp only [hy]
  rfl
theorem VR.skipG {ops : Array Oper} {o : Oper} {rest : List Oper} {K : Env→List HE→Prop} {j t : Nat} {want b : Bool} (hd : dok N o.dst = true) (hg : o.guard = some (j,want)) (hj : gslot ops j = some t)
  (hb : get env t = some (.bool b)) (hw : b = !want) (h : VR P N ops rest K (putd env o.dst (.tup [])) H) : VR P N ops (o :: rest) K env H:=by
 subst hw
 intro D w a hs hr hi Q hq
 refine wpList_step fun K' hK =>?_
 rw [wanted_of hg hj hb hr,if_neg (by cases want<;>decide)]
 refine hK _ _ (h D w (a.put o.dst undef) ((put_size ..).trans hs) (hr.putd hs hd rd_undef) hi Q ?_)
 intro a' w1 env1 H1 D1 h1 h2 h3 h4 h5 h6
 exact hq a' w1 env1 H1 D1 h1 (h2.trans (put_defers ..)) h3 h4 h5 h6
theorem VR.skipU {ops : Array Oper} {o : Oper} {rest : List Oper} {K : Env→List HE→Prop} {j t : Nat} {want : Bool} (hd : dok N o.dst = true) (hg : o.guard = some (j,want)) (hj : gslot ops j = some t)
  (hb : get env t = some (.tup [])) (h : VR P N ops rest K (putd env o.dst (.tup [])) H) : VR P N ops (o :: rest) K env H:=by
 intro D w a hs hr hi Q hq
 refine wpList_step fun K' hK =>?_
 rw [unwanted_of hg hj hb hr,if_neg (by decide)]
 refine hK _ _ (h D w (a.put o.dst undef) ((put_size ..).trans hs) (hr.putd hs hd rd_undef) hi Q ?_)
 intro a' w1 env1 H1 D1 h1 h2 h3 h4 h5 h6
 exact hq a' w1 env1 H1 D1 h1 (h2.trans (put_defers ..)) h3 h4 h5 h6
end
end Go.Proofs.YtkondhigbbgidaaGreat.V

/-
  Printed by a program of this session out of the loaded functions: models and their proofs. Own text.
-/
import Derived.Test.YtkondhigbbgidaaGreatPSp7
/-
  Plain laws of a machine's form: its fields, one by one, and the whole. Own text; the look-up, the rest and their lemmas printed by formgen.py.
-/
namespace Go.Proofs.YtkondhigbbgidaaGreat.M
open Go Go.Proofs Go.Proofs.YtkondhigbbgidaaGreat.V
open Go.IntKind (i64)
set_option linter.unusedVariables false
set_option linter.unusedSimpArgs false
set_option maxRecDepth 20000
def bump (r : T_spec_reader) (n : ByteArray) : T_spec_reader:=⟨r.l,(),V.mp r.had n (i64.wrap (((V.mg r.had n).getD 0) + 1)),r.e,r.at_⟩
theorem had_bump {r : T_spec_reader} {n k : ByteArray} (h : k≠n) : V.mg (bump r n).had k = V.mg r.had k:=by
 unfold bump
 simp only
 rw [mg_mp,if_neg h]
theorem seqf {a : ByteArray} (h : a≠⟨#[]⟩) : V.seq a (⟨#[]⟩ : ByteArray) = false:=by
 rw [← Bool.not_eq_true,seq_nil]; exact h
def nGroup : ByteArray:=⟨#[103,114,111,117,112]⟩
def nHas : ByteArray:=⟨#[104,97,115]⟩
def nLabel : ByteArray:=⟨#[108,97,98,101,108]⟩
def nTaint : ByteArray:=⟨#[116,97,105,110,116]⟩
theorem Vn.one {l : List T_api_Node} {ks : List Int} {v : ByteArray} {vs : List ByteArray} (h : Vn l ks (v :: vs)) : ∃ p ps y,ks = p :: ps∧V.gl l p = some y∧y.Kind = kA v∧y.Text = v∧Vn l ps vs:=by
 cases h with
 | cons h1 h2 h3 h4 =>exact ⟨_,_,_,rfl,h1,h2,h3,h4⟩
theorem Vn.non {l : List T_api_Node} {ks : List Int} (h : Vn l ks []) : ks = []:=by cases h; rfl
end Go.Proofs.YtkondhigbbgidaaGreat.M
/-
  Plain laws of a machine's form: what is read of it. Own text.
-/
namespace Go.Proofs.YtkondhigbbgidaaGreat.M
open Go Go.Proofs Go.Proofs.YtkondhigbbgidaaGreat.V
open Go.IntKind (i64)
set_option linter.unusedVariables false
set_option linter.unusedSimpArgs false
set_option maxRecDepth 20000
def atIt (l : List T_api_Node) (p : Int) : It→Prop
 | .flag n =>FA l p n true [] []
 | .li n vs =>∃ ks,FA l p n false ks vs
theorem it_at (it : It) {φ r : Fo} (h : φ.strip = itF it r) {pre post l : List T_api_Node} (hl : l = pre++(φ.flat++post)) (hll : l.length≤1000000) : ∃ (r' : Fo) (pre' : List T_api_Node),r'.strip = r∧φ.cnt = r'.cnt + 1∧posF pre.length φ = (pre.length : Int) :: posF pre'.length r'∧l = pre'++(r'.flat++post)∧atIt l pre.length it:=by
 cases it with
 | flag n =>
  obtain ⟨r',h1,h2,h3,⟨pre',h4,h5⟩,h6⟩:=flag_at h hl
  exact ⟨r',pre',h1,h2,by rw [h4]; exact h3,h5,h6⟩
 | li n vs =>
  obtain ⟨r',ks,h1,h2,h3,⟨pre',h4,h5⟩,h6⟩:=li_at h hl hll
  exact ⟨r',pre',h1,h2,by rw [h4]; exact h3,h5,ks,h6⟩
inductive Steps : List It→T_spec_reader→T_api_Machine→T_spec_reader→T_api_Machine→Prop
 | nil (r : T_spec_reader) (x : T_api_Machine) : Steps [] r x r x
 | cons {it : It} {its : List It} {r r1 r2 : T_spec_reader} {x x1 x2 : T_api_Machine} (h : ∀ p,atIt r.l p it→spec_reader_field_x r x p = some (r1,x1)) (hl : r1.l = r.l) (he : r1.e = 0) (t : Steps its r1 x1 r2 x2) : Steps (it :: its) r x r2 x2
theorem Steps.append {a b : List It} {r r1 r2 : T_spec_reader} {x x1 x2 : T_api_Machine} (h : Steps a r x r1 x1) (k : Steps b r1 x1 r2 x2) : Steps (a++b) r x r2 x2:=by
 induction h with
 | nil =>exact k
 | cons h hl he _ ih =>exact .cons h hl he (ih k)
theorem Steps.one {it : It} {r r1 : T_spec_reader} {x x1 : T_api_Machine} (h : ∀ p,atIt r.l p it→spec_reader_field_x r x p = some (r1,x1)) (hl : r1.l = r.l) (he : r1.e = 0) : Steps [it] r x r1 x1:=.cons h hl he (.nil _ _)
def labI (x : T_api_Label) : It:=.li nLabel [x.Key,x.Val]
def taiI (x : T_api_Taint) : It:=.li nTaint [x.Key,x.Val,effT x.Effect.toNat]
structure RR (x : T_api_Res) : Prop where
 cpu : 0≤x.Cpu∧x.Cpu≤1125899906842624
 mem : 0≤x.Mem∧x.Mem≤1125899906842624
 disk : 0≤x.Disk∧x.Disk≤1125899906842624
 pods : 0≤x.Pods∧x.Pods≤1125899906842624
 dev : 0≤x.Dev∧x.Dev≤1125899906842624
def hasI (x : T_api_Res) : It:=.li nHas [milliB x.Cpu.toNat,memB x.Mem.toNat,memB x.Disk.toNat,numB x.Pods.toNat,numB x.Dev.toNat]
def restI (m : T_api_Machine) : List It:=[hasI m.Has]++(m.Labels.map labI++m.Taints.map taiI)
end Go.Proofs.YtkondhigbbgidaaGreat.M
/-
  Plain laws of forms: how the program and the document write them. Own text.
-/
namespace Go.Proofs.YtkondhigbbgidaaGreat.M
open Go Go.Proofs Go.Proofs.YtkondhigbbgidaaGreat.V
open Go.IntKind (i64)
set_option linter.unusedVariables false
set_option linter.unusedSimpArgs false
set_option maxRecDepth 20000
def atB (v : ByteArray) : ByteArray:=if v = ⟨#[]⟩ then ⟨#[34,34]⟩ else v
theorem atB_l (v : ByteArray) : bytesL (atB v) = atL v:=by unfold atB atL; split<;>rfl
theorem atB_size (v : ByteArray) : (atB v).size≤v.size + 2:=by
 unfold atB; split
 ·exact Nat.le_add_left 2 _
 ·omega
theorem atL_len (v : ByteArray) : (atL v).length = (atB v).size:=by rw [← atB_l,bytesS]
theorem atB_num (n : Nat) : atB (numB n) = numB n:=by unfold atB; rw [if_neg (num_ne n)]
inductive Sh : I_any20→ByteArray→Prop
 | s (v : ByteArray) : Sh (.c9 v) v
 | n {k : Nat} (h : k≤1125899906842624) : Sh (.c3 (k : Int)) (numB k)
theorem shown_ok {x : I_any20} {v : ByteArray} (h : Sh x v) : spec_shown FU x = some (atB v):=by
 cases h with
 | s v =>
  obtain ⟨f,hf⟩ : ∃ f,FU = f + 1:=⟨FU - 1,by unfold FU; omega⟩
  rw [hf,spec_shown,if_neg (show ¬ (!(I_any20.c9 v).is9) = true by simp [I_any20.is9]),show (I_any20.c9 v).as9 = v from rfl]
  unfold atB
  by_cases e : v = ⟨#[]⟩
  ·rw [if_pos ((seq_nil _).2 e),if_pos e]
  ·rw [if_neg (mt (seq_nil _).1 e),if_neg e]
 | n h =>rw [shown_n h,atB_num]
inductive Shs : List I_any20→List ByteArray→Prop
 | nil : Shs [] []
 | cons {x : I_any20} {v : ByteArray} {xs : List I_any20} {vs : List ByteArray} (h : Sh x v) (t : Shs xs vs) : Shs (x :: xs) (v :: vs)
theorem wlist_l1 {xs : List I_any20} {vs : List ByteArray} (h : Shs xs vs) : ∀ (k : Nat) (w : T_spec_writer),w.s.size + (valsL vs).length≤900000→∃ t,spec_writer_list.l1 xs k w = some ⟨t⟩∧bytesL t = bytesL w.s++valsL vs:=by
 induction h with
 | nil =>intro k w _; exact ⟨w.s,rfl,by simp [valsL]⟩
 | @cons x v xs vs h t ih =>
  intro k w hl
  have hv : valsL (v :: vs) = (32 :: atL v)++valsL vs:=by simp [valsL]
  rw [hv,List.length_append,List.length_cons,atL_len] at hl
  rw [spec_writer_list.l1,shown_ok h]
  simp only [Option.bind_some]
  have s1 : (⟨#[32]⟩ : ByteArray).size = 1:=rfl
  rw [catB (by omega)]
  simp only [Option.bind_some]
  rw [catB (by rw [ByteArray.size_append]; omega)]
  simp only [Option.bind_some]
  obtain ⟨t,t1,t2⟩:=ih (k + 1) ⟨w.s++((⟨#[32]⟩ : ByteArray)++atB v)⟩ (by simp only [ByteArray.size_append]; omega)
  refine ⟨t,t1,?_⟩
  rw [t2,hv]
  simp only [b_cat,atB_l,List.append_assoc]
  rfl
theorem wlist {xs : List I_any20} {vs : List ByteArray} (h : Shs xs vs) (w : T_spec_writer) (n : ByteArray) (hl : w.s.size + (itL (.li n vs)).length≤900000) : ∃ t,spec_writer_list w n xs = some ⟨t⟩∧bytesL t = bytesL w.s++itL (.li n vs):=by
 simp only [itL,List.length_cons,List.length_append,bytesS,List.length_nil] at hl
 unfold spec_writer_list
 have s1 : (⟨#[32,40]⟩ : ByteArray).size = 2:=rfl
 have s2 : (⟨#[41]⟩ : ByteArray).size = 1:=rfl
 rw [catB (by omega)]
 simp only [Option.bind_some]
 rw [catB (by rw [ByteArray.size_append]; omega)]
 simp only [Option.bind_some]
 obtain ⟨t,t1,t2⟩:=wlist_l1 h 0 ⟨w.s++((⟨#[32,40]⟩ : ByteArray)++n)⟩ (by simp only [ByteArray.size_append]; omega)
 rw [t1]
 simp only [Option.bind_some]
 have hsz : t.size = w.s.size + (2 + n.size) + (valsL vs).length:=by rw [← bytesS,t2,List.length_append,bytesS]; simp only [ByteArray.size_append]; omega
 rw [catB (by omega)]
 simp only [Option.bind_some]
 refine ⟨_,rfl,?_⟩
 simp only [b_cat,t2,itL,List.append_assoc]
 rfl
theorem wpairs_l1 (n : ByteArray) : ∀ (L : List T_api_Label) (k : Nat) (w : T_spec_writer),w.s.size + (itsL (L.map fun x =>.li n [x.Key,x.Val])).length≤900000→∃ t,spec_writer_pairs.l1 n L k w = some ⟨t⟩∧bytesL t = bytesL w.s++itsL (L.map fun x =>.li n [x.Key,x.Val])
 | [],k,w,_ =>⟨w.s,rfl,by simp [itsL]⟩
 | x :: L,k,w,hl =>by
  have e : itsL ((x :: L).map fun x =>It.li n [x.Key,x.Val]) = itL (.li n [x.Key,x.Val])++itsL (L.map fun x =>.li n [x.Key,x.Val]):=by simp [itsL]
  rw [e,List.length_append] at hl
  rw [spec_writer_pairs.l1]
  obtain ⟨t,t1,t2⟩:=wlist (.cons (.s x.Key) (.cons (.s x.Val) .nil)) w n (by omega)
  rw [t1]
  simp only [Option.bind_some]
  have hsz : t.size = w.s.size + (itL (.li n [x.Key,x.Val])).length:=by rw [← bytesS,t2,List.length_append,bytesS]
  obtain ⟨u,u1,u2⟩:=wpairs_l1 n L (k + 1) ⟨t⟩ (by show t.size + _≤_; omega)
  exact ⟨u,u1,by rw [u2,e]; simp [t2]⟩
theorem wpairs (n : ByteArray) (L : List T_api_Label) (w : T_spec_writer) (hl : w.s.size + (itsL (L.map fun x =>.li n [x.Key,x.Val])).length≤900000) : ∃ t,spec_writer_pairs w n L = some ⟨t⟩∧bytesL t = bytesL w.s++itsL (L.map fun x =>.li n [x.Key,x.Val]):=by
 obtain ⟨t,t1,t2⟩:=wpairs_l1 n L 0 w hl
 exact ⟨t,by unfold spec_writer_pairs; rw [t1]; rfl,t2⟩
theorem eff_gl {k : Int} (h : 0≤k∧k≤3) : V.gl [(⟨#[97,110,121]⟩ : ByteArray),(⟨#[110,111]⟩ : ByteArray),(⟨#[112,114,101,102,101,114]⟩ : ByteArray),(⟨#[111,117,116]⟩ : ByteArray)] k = some (effT k.toNat):=by
 rcases (by omega : k = 0∨k = 1∨k = 2∨k = 3) with rfl | rfl | rfl | rfl<;>rfl
theorem eff_size (k : Nat) : (effT k).size≤6:=by unfold effT; split<;>decide
theorem wtaints : ∀ (L : List T_api_Taint) (k : Nat) (w : T_spec_writer),(∀ a,a ∈ L→0≤a.Effect∧a.Effect≤3)→w.s.size + (itsL (L.map taiI)).length≤900000→∃ t,spec_writer_rest.l1 L k w = some ⟨t⟩∧bytesL t = bytesL w.s++itsL (L.map taiI)
 | [],k,w,_,_ =>⟨w.s,rfl,by simp [itsL]⟩
 | x :: L,k,w,ha,hl =>by
  have e : itsL ((x :: L).map taiI) = itL (taiI x)++itsL (L.map taiI):=by simp [itsL]
  rw [e,List.length_append] at hl
  rw [spec_writer_rest.l1]
  unfold spec_effects
  simp only [Option.bind_some]
  rw [eff_gl (ha x (List.mem_cons_self ..))]
  simp only [Option.bind_some]
  obtain ⟨t,t1,t2⟩:=wlist (.cons (.s x.Key) (.cons (.s x.Val) (.cons (.s (effT x.Effect.toNat)) .nil))) w nTaint (by unfold taiI at hl; omega)
  rw [show (⟨#[116,97,105,110,116]⟩ : ByteArray) = nTaint from rfl,t1]
  simp only [Option.bind_some]
  have hsz : t.size = w.s.size + (itL (taiI x)).length:=by rw [← bytesS,t2,List.length_append,bytesS]; rfl
  obtain ⟨u,u1,u2⟩:=wtaints L (k + 1) ⟨t⟩ (fun b hb =>ha b (List.mem_cons_of_mem _ hb)) (by show t.size + _≤_; omega)
  exact ⟨u,u1,by rw [u2,e]; simp [t2,taiI]⟩
theorem milli_size {n : Nat} (h : n≤1125899906842624) : (milliB n).size≤17:=by
 unfold milliB; split
 ·have:=numB_size (n:=n / 1000) (by omega); omega
 ·rw [ByteArray.size_append]; have:=numB_size h; have : (ByteArray.mk #[109]).size = 1:=rfl; omega
theorem mem_size {n : Nat} (h : n≤1125899906842624) : (memB n).size≤18:=by
 unfold memB
 have hle : n / kp (kk n)≤n:=Nat.div_le_self ..
 have hus : (unitB (kk n)).size≤2:=by rcases kk_cases n with ⟨e,_⟩ | ⟨e,_⟩ | ⟨e,_⟩ | ⟨e,_⟩ | ⟨e,_⟩<;>rw [e]<;>decide
 rw [ByteArray.size_append]; have:=numB_size (n:=n / kp (kk n)) (by omega); omega
theorem wrest {m : T_api_Machine} (hr : RR m.Has) (hta : ∀ a,a ∈ m.Taints→0≤a.Effect∧a.Effect≤3) (w : T_spec_writer) (hl : w.s.size + (itsL (restI m)).length≤900000) : ∃ t,spec_writer_rest w m = some ⟨t⟩∧bytesL t = bytesL w.s++itsL (restI m):=by
 have e : itsL (restI m) = itL (hasI m.Has)++(itsL (m.Labels.map labI)++itsL (m.Taints.map taiI)):=by simp [itsL,restI]
 rw [e,List.length_append,List.length_append] at hl
 have h1:=hr.cpu; have h2:=hr.mem; have h3:=hr.disk; have h4:=hr.pods; have h5:=hr.dev
 unfold spec_writer_rest
 rw [show m.Has.Cpu = (m.Has.Cpu.toNat : Int) by omega,milli_p (by omega)]
 simp only [Option.bind_some]
 rw [show m.Has.Mem = (m.Has.Mem.toNat : Int) by omega,mem_p (by omega)]
 simp only [Option.bind_some]
 rw [show m.Has.Disk = (m.Has.Disk.toNat : Int) by omega,mem_p (by omega)]
 simp only [Option.bind_some]
 rw [show m.Has.Pods = (m.Has.Pods.toNat : Int) by omega,show m.Has.Dev = (m.Has.Dev.toNat : Int) by omega]
 obtain ⟨t,t1,t2⟩:=wlist (xs:=[.c9 (milliB m.Has.Cpu.toNat),.c9 (memB m.Has.Mem.toNat),.c9 (memB m.Has.Disk.toNat),.c3 (m.Has.Pods.toNat : Int),.c3 (m.Has.Dev.toNat : Int)]) (.cons (.s _) (.cons (.s _) (.cons (.s _) (.cons (.n (by omega)) (.cons (.n (by omega)) .nil))))) w nHas (by unfold hasI at hl; omega)
 rw [show (⟨#[104,97,115]⟩ : ByteArray) = nHas from rfl,t1]
 simp only [Option.bind_some]
 have hsz : t.size = w.s.size + (itL (hasI m.Has)).length:=by rw [← bytesS,t2,List.length_append,bytesS]; rfl
 obtain ⟨u,u1,u2⟩:=wpairs nLabel m.Labels ⟨t⟩ (by show t.size + _≤_; have : itsL (m.Labels.map fun x =>.li nLabel [x.Key,x.Val]) = itsL (m.Labels.map labI):=rfl; rw [this]; omega)
 have u2 : bytesL u = bytesL t++itsL (m.Labels.map labI):=u2
 rw [show (⟨#[108,97,98,101,108]⟩ : ByteArray) = nLabel from rfl,u1]
 simp only [Option.bind_some]
 have husz : u.size = t.size + (itsL (m.Labels.map labI)).length:=by rw [← bytesS,u2,List.length_append,bytesS]
 obtain ⟨z,z1,z2⟩:=wtaints m.Taints 0 ⟨u⟩ hta (by show u.size + _≤_; omega)
 rw [z1]
 refine ⟨z,rfl,?_⟩
 rw [z2,e]
 simp [u2,t2,hasI]
theorem itsL_app (a b : List It) : itsL (a++b) = itsL a++itsL b:=by simp [itsL]
end Go.Proofs.YtkondhigbbgidaaGreat.M

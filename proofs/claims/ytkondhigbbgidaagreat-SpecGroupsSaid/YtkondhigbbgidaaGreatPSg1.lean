/-
  Printed by a program of this session out of the loaded functions: models and their proofs. Own text.
-/
import Derived.Test.YtkondhigbbgidaaGreatPBor
/-
  Plain laws: labels, terms, taints, and whether a pod suits a machine, told alike by the program and the document. Own text.
-/
namespace Go.Proofs.YtkondhigbbgidaaGreat.M
open Go Go.Proofs Go.Proofs.YtkondhigbbgidaaGreat.V
set_option linter.unusedVariables false
set_option linter.unusedSimpArgs false
end Go.Proofs.YtkondhigbbgidaaGreat.M
/-
  Plain law: whether any machine is right, and what is shown of it; it is read as it was. Own text.
-/
namespace Go.Proofs.YtkondhigbbgidaaGreat.M
open Go Go.Proofs Go.Proofs.YtkondhigbbgidaaGreat.V
open Go.IntKind (i64)
set_option linter.unusedVariables false
set_option linter.unusedSimpArgs false
set_option maxRecDepth 20000
theorem wordB_L {s : ByteArray} (h : s.size≤300) : wordB s = wordL (bytesL s):=by
 have h1:=lword_B h
 rw [Word_list (by omega)] at h1
 exact (Option.some.inj h1).symm
theorem mayB_wv {s : ByteArray} (h : s.size≤300) (hm : mayB s = true) : wv s:=by
 unfold mayB at hm
 rw [Bool.or_eq_true,decide_eq_true_eq] at hm
 rcases hm with hm | hm
 ·exact .inl hm
 ·exact .inr (by rw [← wordB_L h]; exact hm)
theorem word_ne {s : ByteArray} (h : wordL (bytesL s) = true) : s≠⟨#[]⟩:=fun e =>by
 subst e
 have : wordL [] = false:=by unfold wordL; rw [headL_nil]; rfl
 rw [show bytesL ⟨#[]⟩ = [] from rfl,this] at h
 cases h
theorem may5_B {s : ByteArray} (h : s.size≤300) : ref05_maybe s = some (mayB s):=by
 unfold ref05_maybe mayB
 rw [word_B h,seq_eq]
 by_cases e : s = ⟨#[]⟩<;>simp [e]
theorem lab_words {l : List T_api_Label} (h : LL l) (hr : labB l = true) : l.length≤16∧∀ k (hk : k < l.length),wordB l[k].Key = true∧mayB l[k].Val = true:=by
 have hr':=lab_B h
 rw [hr] at hr'
 obtain ⟨hl,hs⟩:=h
 unfold ref05_Right at hr'
 split at hr'
 ·cases hr'
 rename_i h16
 refine ⟨by simp at h16; omega,?_⟩
 rcases loopI (F:=fun n i =>ref05_Right.l1 l n i) (Q:=fun r =>r = false) (S:=fun k =>∀ hk : k < l.length,wordB l[k].Key = true∧mayB l[k].Val = true) (len:=l.length) (by omega) (fun n k hk =>by
   have hsk:=hs k hk
   rw [ref05_Right.l1,if_pos (dlt hk),glk hk,wk1 (by omega)]
   simp only [Option.bind_some]
   rw [word_B hsk.1]
   simp only [Option.bind_some,may5_B hsk.2]
   cases hw : wordB l[k].Key with
   | false =>left; exact ⟨false,rfl,rfl⟩
   | true =>
    cases hm : mayB l[k].Val with
    | false =>left; exact ⟨false,rfl,rfl⟩
    | true =>
     by_cases h0 : 0 < k
     ·have h0' : (decide ((k : Int) > 0)) = true:=by simp; omega
      simp only [h0',if_true,glp hk h0 (by omega),Option.bind_some]
      rw [Less_eq (hs (k - 1) (by omega)).1 hsk.1]
      cases hlt : V.slt (l[k - 1]'(by omega)).Key l[k].Key with
      | false =>left; exact ⟨false,rfl,rfl⟩
      | true =>exact .inr ⟨rfl,fun _ =>⟨hw,hm⟩⟩
     ·have h0' : (decide ((k : Int) > 0)) = false:=by simp; omega
      simp only [h0',Bool.false_eq_true,if_false,Option.bind_some]
      exact .inr ⟨rfl,fun _ =>⟨hw,hm⟩⟩) (fun n =>by rw [ref05_Right.l1,if_neg dnl]) with ⟨r,h1,rfl⟩ | ⟨h1,h2⟩
 ·rw [h1] at hr'; cases hr'
 ·exact fun k hk =>h2 k hk hk
theorem tai_words {l : List T_api_Taint} (hr : taintsB l = true) : l.length≤16∧∀ k (hk : k < l.length),wordB l[k].Key = true∧mayB l[k].Val = true∧0≤l[k].Effect∧l[k].Effect≤3:=by
 unfold taintsB at hr
 rw [Bool.and_eq_true,allN_iff,decide_eq_true_eq] at hr
 refine ⟨hr.2,fun k hk =>?_⟩
 have:=hr.1 k hk
 unfold tQ at this
 rw [List.getD_eq_getElem?_getD,List.getElem?_eq_getElem hk,Option.getD_some] at this
 simp only [Bool.and_eq_true] at this
 obtain ⟨a1,a2,a3,_⟩:=this
 unfold effB at a3
 simp only [Bool.and_eq_true,decide_eq_true_eq] at a3
 exact ⟨a1,a2,by omega,by omega⟩
theorem res_RR {x : T_api_Res} (h : resOK x = true) : RR x:=by
 unfold resOK rOK at h
 simp only [Bool.and_eq_true,decide_eq_true_eq] at h
 obtain ⟨h1,h2,h3,h4,h5⟩:=h
 exact ⟨h1,h2,h3,h4,h5⟩
structure MW (m : T_api_Machine) : Prop where
 name : wv m.Name
 group : wv m.Group
 has : RR m.Has
 nl : m.Labels.length≤16
 nt : m.Taints.length≤16
 lab : ∀ a,a ∈ m.Labels→wordL (bytesL a.Key) = true∧wv a.Val∧a.Key.size≤300∧a.Val.size≤300
 tai : ∀ a,a ∈ m.Taints→wordL (bytesL a.Key) = true∧wv a.Val∧a.Key.size≤300∧a.Val.size≤300∧0≤a.Effect∧a.Effect≤3
theorem mach_MW {m : T_api_Machine} (h : LM m) (hr : machB m = true) : MW m:=by
 unfold machB at hr
 simp only [Bool.and_eq_true] at hr
 obtain ⟨h1,h2,h3,h4,h5⟩:=hr
 obtain ⟨l1,l2⟩:=lab_words h.labels h4
 obtain ⟨t1,t2⟩:=tai_words h5
 refine ⟨mayB_wv h.name h1,mayB_wv h.group h2,res_RR h3,l1,t1,fun a ha =>?_,fun a ha =>?_⟩
 ·obtain ⟨k,hk,rfl⟩:=List.getElem_of_mem ha
  have hs:=h.labels.2 k hk
  exact ⟨by rw [← wordB_L hs.1]; exact (l2 k hk).1,mayB_wv hs.2 (l2 k hk).2,hs.1,hs.2⟩
 ·obtain ⟨k,hk,rfl⟩:=List.getElem_of_mem ha
  have hs:=h.taints.2 k hk
  obtain ⟨q1,q2,q3,q4⟩:=t2 k hk
  exact ⟨by rw [← wordB_L hs.1]; exact q1,mayB_wv hs.2 q2,hs.1,hs.2,q3,q4⟩
theorem ascii_head : ∀ l : List Int,(∀ b,b ∈ l→b < 128∧plainB b = true)→headL plainB l = (l.length,true)
 | [],_ =>headL_nil _
 | b :: l,h =>by
  obtain ⟨h1,h2⟩:=h b (List.mem_cons_self ..)
  rw [headL_go (rl_ascii h1) h2,show (b :: l).drop 1 = l from rfl,ascii_head l fun x hx =>h x (List.mem_cons_of_mem _ hx)]
  rfl
theorem ascii_cnt : ∀ l : List Int,(∀ b,b ∈ l→b < 128∧plainB b = true)→cnt l = some l.length
 | [],_ =>cnt_nil
 | b :: l,h =>by
  obtain ⟨h1,h2⟩:=h b (List.mem_cons_self ..)
  rw [cnt_go (rl_ascii h1),show (b :: l).drop 1 = l from rfl,ascii_cnt l fun x hx =>h x (List.mem_cons_of_mem _ hx)]
  rfl
theorem ascii_word {l : List Int} (h : ∀ b,b ∈ l→b < 128∧plainB b = true) (h1 : 0 < l.length) (h2 : l.length≤64) : wordL l = true:=by
 unfold wordL
 rw [ascii_head l h,ascii_cnt l h]
 simp [longB,h1]; omega
theorem plain_of {b : Int} (h : 48≤b∧b≤57∨65≤b∧b≤90∨97≤b∧b≤122) : b < 128∧plainB b = true:=by
 refine ⟨by omega,?_⟩
 unfold plainB
 simp only [Bool.and_eq_true,decide_eq_true_eq,bne_iff_ne,ne_eq]
 omega
theorem num_word {n : Nat} (h : n≤1125899906842624) {u : ByteArray} (hu : u.size≤2) (hb : ∀ b,b ∈ bytesL u→65≤b∧b≤90∨97≤b∧b≤122) : wordL (bytesL (numB n++u)) = true:=by
 have h1:=dg_pos n
 have h2:=dg16 h
 rw [b_cat,numB_l]
 refine ascii_word (fun b hb' =>plain_of ?_) (by simp; omega) (by rw [List.length_append,bytesS]; omega)
 rcases List.mem_append.1 hb' with hb' | hb'
 ·exact .inl (dg_mem n b hb')
 ·rcases hb b hb' with h | h
  ·exact .inr (.inl h)
  ·exact .inr (.inr h)
theorem numB_word {n : Nat} (h : n≤1125899906842624) : wordL (bytesL (numB n)) = true:=by
 have:=num_word h (u:=⟨#[]⟩) (by decide) (by intro b hb; cases hb)
 rwa [app_nilB] at this
theorem milli_word {n : Nat} (h : n≤1125899906842624) : wordL (bytesL (milliB n)) = true:=by
 unfold milliB; split
 ·exact numB_word (by omega)
 ·exact num_word h (by decide) (by decide)
theorem mem_word {n : Nat} (h : n≤1125899906842624) : wordL (bytesL (memB n)) = true:=by
 unfold memB
 have hle : n / kp (kk n)≤n:=Nat.div_le_self ..
 rcases kk_cases n with ⟨e,_⟩ | ⟨e,_⟩ | ⟨e,_⟩ | ⟨e,_⟩ | ⟨e,_⟩<;>rw [e] at hle ⊢<;>exact num_word (by omega) (by decide) (by decide)
theorem eff_word (k : Nat) : wordL (bytesL (effT k)) = true:=by unfold effT; split<;>exact ascii_word (by decide) (by decide) (by decide)
theorem rest_ok {m : T_api_Machine} (h : MW m) : ∀ i,i ∈ restI m→i.ok:=by
 have h1:=h.has.cpu; have h2:=h.has.mem; have h3:=h.has.disk; have h4:=h.has.pods; have h5:=h.has.dev
 intro i hi
 unfold restI at hi
 simp only [List.mem_append,List.mem_singleton,List.mem_map] at hi
 rcases hi with rfl | ⟨a,ha,rfl⟩ | ⟨a,ha,rfl⟩
 ·refine ⟨ascii_word (by decide) (by decide) (by decide),fun v hv =>.inr ?_⟩
  simp only [List.mem_cons,List.not_mem_nil,or_false] at hv
  rcases hv with rfl | rfl | rfl | rfl | rfl
  ·exact milli_word (by omega)
  ·exact mem_word (by omega)
  ·exact mem_word (by omega)
  ·exact numB_word (by omega)
  ·exact numB_word (by omega)
 ·obtain ⟨q1,q2,_⟩:=h.lab a ha
  refine ⟨ascii_word (by decide) (by decide) (by decide),fun v hv =>?_⟩
  simp only [List.mem_cons,List.not_mem_nil,or_false] at hv
  rcases hv with rfl | rfl
  ·exact .inr q1
  ·exact q2
 ·obtain ⟨q1,q2,_⟩:=h.tai a ha
  refine ⟨ascii_word (by decide) (by decide) (by decide),fun v hv =>?_⟩
  simp only [List.mem_cons,List.not_mem_nil,or_false] at hv
  rcases hv with rfl | rfl | rfl
  ·exact .inr q1
  ·exact q2
  ·exact .inr (eff_word _)
theorem fm_bound {α β : Type} {f : α→List β} {c : Nat} : ∀ l : List α,(∀ a,a ∈ l→(f a).length≤c)→(l.flatMap f).length≤c * l.length
 | [],_ =>Nat.zero_le _
 | a :: l,h =>by
  rw [List.flatMap_cons,List.length_append,List.length_cons,Nat.mul_add]
  have:=h a (List.mem_cons_self ..)
  have:=fm_bound l fun x hx =>h x (List.mem_cons_of_mem _ hx)
  omega
theorem atL_le (v : ByteArray) : (atL v).length≤v.size + 2:=by rw [atL_len]; exact atB_size v
theorem rest_len {m : T_api_Machine} (h : MW m) : (itsL (restI m)).length≤21000:=by
 have h1:=h.has.cpu; have h2:=h.has.mem; have h3:=h.has.disk; have h4:=h.has.pods; have h5:=h.has.dev
 have e : itsL (restI m) = itL (hasI m.Has)++(itsL (m.Labels.map labI)++itsL (m.Taints.map taiI)):=by simp [itsL,restI]
 rw [e,List.length_append,List.length_append]
 have z1:=milli_size (n:=m.Has.Cpu.toNat) (by omega)
 have z2:=mem_size (n:=m.Has.Mem.toNat) (by omega)
 have z3:=mem_size (n:=m.Has.Disk.toNat) (by omega)
 have z4:=numB_size (n:=m.Has.Pods.toNat) (by omega)
 have z5:=numB_size (n:=m.Has.Dev.toNat) (by omega)
 have a1:=atL_le (milliB m.Has.Cpu.toNat); have a2:=atL_le (memB m.Has.Mem.toNat); have a3:=atL_le (memB m.Has.Disk.toNat); have a4:=atL_le (numB m.Has.Pods.toNat); have a5:=atL_le (numB m.Has.Dev.toNat)
 have b1 : (itL (hasI m.Has)).length≤200:=by
  have : nHas.size = 3:=rfl
  simp only [hasI,itL,valsL,List.flatMap_cons,List.flatMap_nil,List.length_cons,List.length_append,bytesS,List.length_nil]
  omega
 have b2 : (itsL (m.Labels.map labI)).length≤620 * m.Labels.length:=by
  have:=fm_bound (f:=itL) (c:=620) (m.Labels.map labI) (fun i hi =>by
   obtain ⟨a,ha,rfl⟩:=List.mem_map.1 hi
   obtain ⟨_,_,q1,q2⟩:=h.lab a ha
   have:=atL_le a.Key; have:=atL_le a.Val; have : nLabel.size = 5:=rfl
   simp only [labI,itL,valsL,List.flatMap_cons,List.flatMap_nil,List.length_cons,List.length_append,bytesS,List.length_nil]
   omega)
  rwa [List.length_map] at this
 have b3 : (itsL (m.Taints.map taiI)).length≤640 * m.Taints.length:=by
  have:=fm_bound (f:=itL) (c:=640) (m.Taints.map taiI) (fun i hi =>by
   obtain ⟨a,ha,rfl⟩:=List.mem_map.1 hi
   obtain ⟨_,_,q1,q2,_⟩:=h.tai a ha
   have:=atL_le a.Key; have:=atL_le a.Val; have:=atL_le (effT a.Effect.toNat); have:=eff_size a.Effect.toNat; have : nTaint.size = 5:=rfl
   simp only [taiI,itL,valsL,List.flatMap_cons,List.flatMap_nil,List.length_cons,List.length_append,bytesS,List.length_nil]
   omega)
  rwa [List.length_map] at this
 have:=h.nl; have:=h.nt
 omega
theorem itsN_app (a b : List It) : itsN (a++b) = itsN a + itsN b:=by simp [itsN]
theorem rest_n {m : T_api_Machine} (h : MW m) : itsN (restI m)≤200:=by
 have a : itsN (m.Labels.map labI) = 4 * m.Labels.length:=by
  have : ∀ l : List T_api_Label,itsN (l.map labI) = 4 * l.length:=fun l =>by
   induction l with
   | nil =>rfl
   | cons x l ih =>rw [List.map_cons,show labI x :: l.map labI = [labI x]++l.map labI from rfl,itsN_app,ih,List.length_cons]; simp [itsN,It.n,labI]; omega
  exact this _
 have b : itsN (m.Taints.map taiI) = 5 * m.Taints.length:=by
  have : ∀ l : List T_api_Taint,itsN (l.map taiI) = 5 * l.length:=fun l =>by
   induction l with
   | nil =>rfl
   | cons x l ih =>rw [List.map_cons,show taiI x :: l.map taiI = [taiI x]++l.map taiI from rfl,itsN_app,ih,List.length_cons]; simp [itsN,It.n,taiI]; omega
  exact this _
 have:=h.nl; have:=h.nt
 unfold restI
 rw [itsN_app,itsN_app,a,b]
 have : itsN [hasI m.Has] = 7:=rfl
 omega
theorem beqBB (a : ByteArray) : (a == a) = true:=by
 obtain ⟨a⟩:=a
 show (a == a) = true
 simp
theorem SameL {l : List T_api_Label} (hl : l.length≤1000) : ref05_Same l l = some true:=by
 unfold ref05_Same
 rw [if_neg (by simp)]
 rcases loopI (F:=fun n i =>ref05_Same.l1 l l n i) (Q:=fun _ =>False) (S:=fun _ =>True) (len:=l.length) (by omega) (fun n k hk =>by
  rw [ref05_Same.l1,if_pos (dlt hk),glk hk,wk1 (by omega)]
  simp only [Option.bind_some]
  rw [if_neg (by simp [beqBB])]
  exact .inr ⟨rfl,trivial⟩) (fun n =>by rw [ref05_Same.l1,if_neg dnl]) with ⟨r,_,h⟩ | ⟨h,_⟩
 ·exact h.elim
 ·rw [h]; rfl
theorem SameT {l : List T_api_Taint} (hl : l.length≤1000) : ref06_Same l l = some true:=by
 unfold ref06_Same
 rw [if_neg (by simp)]
 rcases loopI (F:=fun n i =>ref06_Same.l1 l l n i) (Q:=fun _ =>False) (S:=fun _ =>True) (len:=l.length) (by omega) (fun n k hk =>by
  rw [ref06_Same.l1,if_pos (dlt hk),glk hk,wk1 (by omega)]
  simp only [Option.bind_some]
  rw [if_neg (by simp [beqBB])]
  exact .inr ⟨rfl,trivial⟩) (fun n =>by rw [ref06_Same.l1,if_neg dnl]) with ⟨r,_,h⟩ | ⟨h,_⟩
 ·exact h.elim
 ·rw [h]; rfl
theorem SameM {m : T_api_Machine} (h : LM m) : ref07_SameMachine m m = some true:=by
 unfold ref07_SameMachine
 have h1:=h.labels.1; have h2:=h.taints.1
 rw [seq_eq,seq_eq,SameL (by omega),SameT (by omega)]
 simp
end Go.Proofs.YtkondhigbbgidaaGreat.M
/-
  Plain laws of a group's form: its fields, the whole; how it is written; the law. Own text; the look-up, the rest, the loop printed by formgen.py, formgen2.py.
-/
namespace Go.Proofs.YtkondhigbbgidaaGreat.M
open Go Go.Proofs Go.Proofs.YtkondhigbbgidaaGreat.V
open Go.IntKind (i64)
set_option linter.unusedVariables false
set_option linter.unusedSimpArgs false
set_option maxRecDepth 20000
def glook (alone : Bool) (r : ByteArray × List Int) : Option (ByteArray × ByteArray × Bool × Nat) :=
 ((if (V.seq (⟨#[115,105,122,101]⟩ : ByteArray) r.1) = true then some ((V.seq (⟨#[110,110]⟩ : ByteArray) (⟨#[]⟩ : ByteArray)) == alone) else some false).bind fun c2 =>
 if c2 = true then
  some ((⟨#[115,105,122,101]⟩ : ByteArray),(⟨#[110,110]⟩ : ByteArray),1)
 else
  some ((⟨#[]⟩ : ByteArray),(⟨#[]⟩ : ByteArray),0)).bind fun j =>
 ((if (V.seq (⟨#[112,114,105,99,101]⟩ : ByteArray) r.1) = true then some ((V.seq (⟨#[110]⟩ : ByteArray) (⟨#[]⟩ : ByteArray)) == alone) else some false).bind fun c3 =>
 if c3 = true then
  some ((⟨#[112,114,105,99,101]⟩ : ByteArray),(⟨#[110]⟩ : ByteArray),2)
 else
  some (j.1,j.2.1,j.2.2)).bind fun j2 =>
 ((if (V.seq (⟨#[114,97,110,107]⟩ : ByteArray) r.1) = true then some ((V.seq (⟨#[110]⟩ : ByteArray) (⟨#[]⟩ : ByteArray)) == alone) else some false).bind fun c4 =>
 if c4 = true then
  some ((⟨#[114,97,110,107]⟩ : ByteArray),(⟨#[110]⟩ : ByteArray),3)
 else
  some (j2.1,j2.2.1,j2.2.2)).bind fun j3 =>
 ((if (V.seq (⟨#[104,97,115]⟩ : ByteArray) r.1) = true then some ((V.seq (⟨#[109,112,112,110,110]⟩ : ByteArray) (⟨#[]⟩ : ByteArray)) == alone) else some false).bind fun c5 =>
 if c5 = true then
  some ((⟨#[104,97,115]⟩ : ByteArray),(⟨#[109,112,112,110,110]⟩ : ByteArray),4)
 else
  some (j3.1,j3.2.1,j3.2.2)).bind fun j4 =>
 ((if (V.seq (⟨#[108,97,98,101,108]⟩ : ByteArray) r.1) = true then some ((V.seq (⟨#[119,97]⟩ : ByteArray) (⟨#[]⟩ : ByteArray)) == alone) else some false).bind fun c6 =>
 if c6 = true then
  some ((⟨#[108,97,98,101,108]⟩ : ByteArray),(⟨#[119,97]⟩ : ByteArray),true,5)
 else
  some (j4.1,j4.2.1,false,j4.2.2)).bind fun j5 =>
 ((if (V.seq (⟨#[116,97,105,110,116]⟩ : ByteArray) r.1) = true then some ((V.seq (⟨#[119,97,101]⟩ : ByteArray) (⟨#[]⟩ : ByteArray)) == alone) else some false).bind fun c7 =>
 if c7 = true then
  some ((⟨#[116,97,105,110,116]⟩ : ByteArray),(⟨#[119,97,101]⟩ : ByteArray),true,6)
 else
  some (j5.1,j5.2.1,j5.2.2.1,j5.2.2.2)).bind fun j6 =>
 some j6
def grest (r_ : T_spec_reader) (c : T_api_Group) (x : T_api_Node) (r : ByteArray × List Int) (j6 : ByteArray × ByteArray × Bool × Nat) : Option (T_spec_reader × T_api_Group) :=
 if ((V.seq j6.1 (⟨#[]⟩ : ByteArray)) || ((decide (((V.mg (V.mp r_.had r.1 (i64.wrap (((V.mg r_.had r.1).getD 0) + 1))) r.1).getD 0) > 1)) && (!j6.2.2.1))) = true then
  (spec_reader_fail_x_x (⟨r_.l,(),(V.mp r_.had r.1 (i64.wrap (((V.mg r_.had r.1).getD 0) + 1))),r_.e,r_.at_⟩ : T_spec_reader) c 13 x.At).bind fun r2 =>
  some (r2,c)
 else
  ((if (decide ((j6.2.1.size : Int) > 0)) = true then (V.gi j6.2.1 (i64.wrap ((j6.2.1.size : Int) - 1))).bind fun v =>
  some (v == 43) else some false).bind fun c8 =>
  if c8 = true then
   (V.ss j6.2.1 none (some (i64.wrap ((j6.2.1.size : Int) - 1)))).bind fun v2 =>
   (spec_reader_field_x_x.l1 r FU v2).bind fun says52 =>
   some says52
  else
   some j6.2.1).bind fun says2 =>
  if ((r.2.length : Int) != (says2.size : Int)) = true then
   (spec_reader_fail_x_x (⟨r_.l,(),(V.mp r_.had r.1 (i64.wrap (((V.mg r_.had r.1).getD 0) + 1))),r_.e,r_.at_⟩ : T_spec_reader) c 12 x.At).bind fun r3 =>
   some (r3,c)
  else
   (spec_reader_field_x_x.l2 r_ c r says2 r.2 0 ([] : List I_any20)).bind fun o9 =>
   o9.on fun x102 =>
   if j6.2.2.2 = 1 then
    (spec_Group_1 x102 c).bind fun r6 =>
    some ((⟨r_.l,(),(V.mp r_.had r.1 (i64.wrap (((V.mg r_.had r.1).getD 0) + 1))),r_.e,r_.at_⟩ : T_spec_reader),r6)
   else
   if j6.2.2.2 = 2 then
    (spec_number_1_x_x x102 c).bind fun r7 =>
    some ((⟨r_.l,(),(V.mp r_.had r.1 (i64.wrap (((V.mg r_.had r.1).getD 0) + 1))),r_.e,r_.at_⟩ : T_spec_reader),r7)
   else
   if j6.2.2.2 = 3 then
    (spec_number_1_x_x_x x102 c).bind fun r8 =>
    some ((⟨r_.l,(),(V.mp r_.had r.1 (i64.wrap (((V.mg r_.had r.1).getD 0) + 1))),r_.e,r_.at_⟩ : T_spec_reader),r8)
   else
   if j6.2.2.2 = 4 then
    (spec_common_1_x x102 c).bind fun r9 =>
    some ((⟨r_.l,(),(V.mp r_.had r.1 (i64.wrap (((V.mg r_.had r.1).getD 0) + 1))),r_.e,r_.at_⟩ : T_spec_reader),r9)
   else
   if j6.2.2.2 = 5 then
    (spec_pair_1_x_x_x_x_x x102 c).bind fun r10 =>
    some ((⟨r_.l,(),(V.mp r_.had r.1 (i64.wrap (((V.mg r_.had r.1).getD 0) + 1))),r_.e,r_.at_⟩ : T_spec_reader),r10)
   else
   if j6.2.2.2 = 6 then
    (spec_common_2_x x102 c).bind fun r11 =>
    some ((⟨r_.l,(),(V.mp r_.had r.1 (i64.wrap (((V.mg r_.had r.1).getD 0) + 1))),r_.e,r_.at_⟩ : T_spec_reader),r11)
   else
    none
theorem gfield {r : T_spec_reader} {x : T_api_Group} {i : Int} {y : T_api_Node} {q : ByteArray × List Int} {alone : Bool} (hg : V.gl r.l i = some y) (hk : (y.Kind == 3) = alone) (hh : spec_reader_head_x_x r x i = some q) : spec_reader_field_x_x r x i = (glook alone q).bind fun j =>grest r x y q j:=by
  unfold spec_reader_field_x_x glook grest
  rw [hg,hh]
  simp only [Option.bind_some,hg,hk,Option.bind_assoc]
def gput (k : Nat) (v : List I_any20) (x : T_api_Group) : Option T_api_Group :=
 if k = 1 then spec_Group_1 v x else
 if k = 2 then spec_number_1_x_x v x else
 if k = 3 then spec_number_1_x_x_x v x else
 if k = 4 then spec_common_1_x v x else
 if k = 5 then spec_pair_1_x_x_x_x_x v x else
 if k = 6 then spec_common_2_x v x else
 none
theorem gl2 {r : T_spec_reader} {x : T_api_Group} {q : ByteArray × List Int} {says : ByteArray} : ∀ {k : Nat} {ps : List Int} {vs : List I_any20} (acc : List I_any20),Vk r.l says k ps vs→acc.length + vs.length≤1000000→spec_reader_field_x_x.l2 r x q says ps k acc = some (Out.go (acc++vs)):=by
  intro k ps vs acc h
  induction h generalizing acc with
  | nil =>intro _; rw [spec_reader_field_x_x.l2]; simp
  | @cons k p c ps v vs y h hc hv hr ih =>
    intro hl
    simp only [List.length_cons] at hl
    rw [spec_reader_field_x_x.l2]
    simp only [h,Option.bind_some,hc,hv]
    rw [if_neg (by decide),ap16 (by omega)]
    simp only [Option.bind_some]
    rw [ih _ (by simp; omega)]
    simp
theorem grest_ok {r : T_spec_reader} {x : T_api_Group} {y : T_api_Node} {n nm says : ByteArray} {many : Bool} {k : Nat} {ks : List Int} {vs : List I_any20} (h1 : V.seq nm (⟨#[]⟩ : ByteArray) = false) (h2 : many = true∨V.mg r.had n = none)
    (h3 : says.size = 0∨0 < says.size∧∃ c,V.gi says (i64.wrap ((says.size : Int) - 1)) = some c∧c≠43) (hv : Vk r.l says 0 ks vs) (h4 : vs.length = says.size) (hl : vs.length≤1000000) : grest r x y (n,ks) (nm,says,many,k) = (gput k vs x).bind fun z =>some (bump r n,z):=by
  have hk:=hv.len
  unfold grest gput bump
  rw [if_neg (by
    rw [h1]
    rcases h2 with rfl | h2
    · simp
    · rw [mg_mp,if_pos rfl,h2]; simp [show i64.wrap 1 = 1 from rfl])]
  dsimp only
  have hs : (if (decide ((says.size : Int) > 0)) = true then (V.gi says (i64.wrap ((says.size : Int) - 1))).bind fun v =>some (v == 43) else some false) = some false:=by
    rcases h3 with h3 | ⟨h3,c,h5,h6⟩
    · rw [if_neg (by simp only [decide_eq_true_eq]; omega)]
    · rw [if_pos (by simp only [decide_eq_true_eq]; omega),h5]; simp [h6]
  rw [hs]
  simp only [Option.bind_some]
  rw [if_neg (by simp)]
  simp only [Option.bind_some]
  rw [if_neg (by simp; omega),gl2 [] hv (by simpa using hl)]
  simp only [Option.bind_some,Out.on,List.nil_append]
  repeat' (first | rfl | split)
inductive gSteps : List It→T_spec_reader→T_api_Group→T_spec_reader→T_api_Group→Prop
  | nil (r : T_spec_reader) (x : T_api_Group) : gSteps [] r x r x
  | cons {it : It} {its : List It} {r r1 r2 : T_spec_reader} {x x1 x2 : T_api_Group} (h : ∀ p,atIt r.l p it→spec_reader_field_x_x r x p = some (r1,x1)) (hl : r1.l = r.l) (he : r1.e = 0) (t : gSteps its r1 x1 r2 x2) : gSteps (it :: its) r x r2 x2
theorem gSteps.append {a b : List It} {r r1 r2 : T_spec_reader} {x x1 x2 : T_api_Group} (h : gSteps a r x r1 x1) (k : gSteps b r1 x1 r2 x2) : gSteps (a++b) r x r2 x2:=by
  induction h with
  | nil =>exact k
  | cons h hl he _ ih =>exact .cons h hl he (ih k)
theorem gSteps.one {it : It} {r r1 : T_spec_reader} {x x1 : T_api_Group} (h : ∀ p,atIt r.l p it→spec_reader_field_x_x r x p = some (r1,x1)) (hl : r1.l = r.l) (he : r1.e = 0) : gSteps [it] r x r1 x1:=.cons h hl he (.nil _ _)
theorem gsteps_l1 {its : List It} {r r2 : T_spec_reader} {x x2 : T_api_Group} (h : gSteps its r x r2 x2) : ∀ (φ : Fo) (pre post : List T_api_Node) (k : Nat),φ.strip = itsF its→r.l = pre++(φ.flat++post)→r.l.length≤1000000 →
    spec_form_x_x.l1 (posF pre.length φ) k r x = some (Out.go x2):=by
  induction h with
  | nil r x =>
    intro φ pre post k hs _ _
    rw [strip_nil hs]
    rfl
  | @cons it its r r1 r2 x x1 x2 h hl he t ih =>
    intro φ pre post k hs hr hll
    obtain ⟨r',pre',h1,h2,h3,h4,h5⟩:=it_at it hs hr hll
    rw [h3,spec_form_x_x.l1,h _ h5]
    simp only [Option.bind_some]
    rw [he,if_neg (by decide)]
    exact ih r' pre' post (k + 1) h1 (by rw [hl]; exact h4) (by rw [hl]; exact hll)
theorem gform {kind name : ByteArray} {its : List It} {φ : Fo} (hs : φ.strip = formF kind name its) (hl : φ.flat.length≤1000000) (hk : kind≠⟨#[]⟩) (hne : name≠⟨#[]⟩) {r2 : T_spec_reader} {x x2 : T_api_Group} (h : gSteps its ⟨φ.flat,(),[],0,0⟩ x r2 x2) :
    spec_form_x_x φ.flat 0 kind false x = some (name,0,0,x2):=by
  obtain ⟨a,c,e,rfl,h1,h2⟩:=strip_nd hs
  obtain rfl:=strip_nil h2
  obtain ⟨a1,c1,e1,rfl,h3,h4⟩:=strip_nd h1
  obtain rfl:=strip_nil h3
  obtain ⟨a2,c2,e2,rfl,h5,h6⟩:=strip_nd h4
  obtain rfl:=strip_nil h5
  obtain ⟨l,hL⟩ : ∃ l,l = (Fo.nd 5 ⟨#[]⟩ a (Fo.nd 3 kind a1 .nil (Fo.nd (kA name) name a2 .nil e2)) .nil).flat:=⟨_,rfl⟩
  have el : l = (⟨5,⟨#[]⟩,(((Fo.nd 3 kind a1 .nil (Fo.nd (kA name) name a2 .nil e2)).cnt : Nat) : Int),a⟩ : T_api_Node) :: ((⟨3,kind,((Fo.nil.cnt : Nat) : Int),a1⟩ : T_api_Node) :: ((⟨kA name,name,((Fo.nil.cnt : Nat) : Int),a2⟩ : T_api_Node) :: e2.flat)):=by rw [hL]; simp [Fo.flat]
  rw [← hL] at hl h ⊢
  have g0 : V.gl l (0 : Int) = some ⟨5,⟨#[]⟩,(((Fo.nd 3 kind a1 .nil (Fo.nd (kA name) name a2 .nil e2)).cnt : Nat) : Int),a⟩:=by rw [el]; rfl
  have g1 : V.gl l ((1 : Nat) : Int) = some ⟨3,kind,((Fo.nil.cnt : Nat) : Int),a1⟩:=by rw [el]; rfl
  have g2 : V.gl l ((2 : Nat) : Int) = some ⟨kA name,name,((Fo.nil.cnt : Nat) : Int),a2⟩:=by rw [el]; rfl
  have hE:=End_tree (k:=5) (s:=⟨#[]⟩) (a:=a) (c:=Fo.nd 3 kind a1 .nil (Fo.nd (kA name) name a2 .nil e2)) (pre:=[]) (post:=[]) (l:=l) (by rw [hL]; simp) hl
  have hK:=Kids_flat (k:=5) (s:=⟨#[]⟩) (a:=a) (c:=Fo.nd 3 kind a1 .nil (Fo.nd (kA name) name a2 .nil e2)) (pre:=[]) (post:=[]) (l:=l) (by rw [hL]; simp) hl
  have hpos : posF ([] : List T_api_Node).length.succ (Fo.nd 3 kind a1 .nil (Fo.nd (kA name) name a2 .nil e2)) = ((1 : Nat) : Int) :: ((2 : Nat) : Int) :: posF 3 e2:=by simp [posF,Fo.flat]
  have hloop:=gsteps_l1 h e2 [(⟨5,⟨#[]⟩,(((Fo.nd 3 kind a1 .nil (Fo.nd (kA name) name a2 .nil e2)).cnt : Nat) : Int),a⟩ : T_api_Node),(⟨3,kind,((Fo.nil.cnt : Nat) : Int),a1⟩ : T_api_Node),(⟨kA name,name,((Fo.nil.cnt : Nat) : Int),a2⟩ : T_api_Node)] [] 0 h6 (by rw [el]; simp) hl
  unfold spec_form_x_x
  rw [show ((([] : List T_api_Node).length : Nat) : Int) = (0 : Int) from rfl] at hE hK
  rw [hE]
  simp only [Option.bind_some]
  rw [if_neg (by simp; omega),hK,hpos]
  simp only [Option.bind_some]
  rw [g0]
  simp only [Option.bind_some]
  rw [if_neg (by simp only [List.length_cons,bne_self_eq_false,Bool.false_or,decide_eq_true_eq]; omega)]
  rw [show V.gl (((1 : Nat) : Int) :: ((2 : Nat) : Int) :: posF 3 e2) (0 : Int) = some ((1 : Nat) : Int) from rfl]
  simp only [Option.bind_some]
  rw [g1]
  simp only [Option.bind_some]
  rw [show V.gl (((1 : Nat) : Int) :: ((2 : Nat) : Int) :: posF 3 e2) (1 : Int) = some ((2 : Nat) : Int) from rfl]
  simp only [Option.bind_some]
  rw [g2]
  simp only [Option.bind_some]
  have hseq : V.seq kind kind = true:=by rw [seq_iff]; simp
  rw [if_neg]
  · have hsl : V.sl (((1 : Nat) : Int) :: ((2 : Nat) : Int) :: posF 3 e2) (some 2) none = some (posF 3 e2):=by
      unfold V.sl
      rw [if_pos ⟨⟨by simp,by simp⟩,by simp [lowN,highN],by simp [highN]⟩]
      simp [lowN,highN]
    rw [hsl]
    simp only [Option.bind_some]
    simp only [List.length_cons,List.length_nil] at hloop
    rw [hloop]
    rfl
  · rw [hseq,kA3 hne]
    simp
theorem ghead {l : List T_api_Node} {p : Int} {n : ByteArray} {b : Bool} {ks : List Int} {vs : List ByteArray} (h : FA l p n b ks vs) (r : T_spec_reader) (x : T_api_Group) (hr : r.l = l) : spec_reader_head_x_x r x p = some (n,ks):=h.head r x.Like hr
def nSize : ByteArray:=⟨#[115,105,122,101]⟩
def nPrice : ByteArray:=⟨#[112,114,105,99,101]⟩
def nRank : ByteArray:=⟨#[114,97,110,107]⟩
theorem gl_size (ks : List Int) : glook false (nSize,ks) = some (nSize,⟨#[110,110]⟩,false,1):=by kernel_rfl
theorem gl_price (ks : List Int) : glook false (nPrice,ks) = some (nPrice,⟨#[110]⟩,false,2):=by kernel_rfl
theorem gl_rank (ks : List Int) : glook false (nRank,ks) = some (nRank,⟨#[110]⟩,false,3):=by kernel_rfl
theorem gl_has (ks : List Int) : glook false (nHas,ks) = some (nHas,⟨#[109,112,112,110,110]⟩,false,4):=by kernel_rfl
theorem gl_label (ks : List Int) : glook false (nLabel,ks) = some (nLabel,⟨#[119,97]⟩,true,5):=by kernel_rfl
theorem gl_taint (ks : List Int) : glook false (nTaint,ks) = some (nTaint,⟨#[119,97,101]⟩,true,6):=by kernel_rfl
theorem gf_size {l : List T_api_Node} {r : T_spec_reader} {x : T_api_Group} {p : Int} {ks : List Int} {a b : Nat} (h : FA l p nSize false ks [numB a,numB b]) (hr : r.l = l) (hh : V.mg r.had nSize = none) (ha : a≤1125899906842624) (hb : b≤1125899906842624) :
    spec_reader_field_x_x r x p = some (bump r nSize,⟨x.Name,a,b,x.Like,x.Price,x.Rank⟩):=by
  obtain ⟨y,h1,h2⟩:=h.node
  subst hr
  obtain ⟨p1,q1,z1,rfl,e1,k1,t1,w1⟩:=h.vals.one
  obtain ⟨p2,q2,z2,rfl,e2,k2,t2,w2⟩:=w1.one
  obtain rfl:=w2.non
  rw [gfield h1 h2 (ghead h r x rfl),gl_size]
  simp only [Option.bind_some]
  rw [grest_ok (vs:=[.c3 a,.c3 b]) (seqf (by decide)) (.inr hh) (.inr ⟨by decide,110,rfl,by decide⟩)
    (.cons (c:=110) e1 rfl (value_n' (by rw [k1,kA3 (num_ne _)]) t1 ha) (.cons (c:=110) e2 rfl (value_n' (by rw [k2,kA3 (num_ne _)]) t2 hb) .nil)) rfl (by simp)]
  rfl
theorem gf_price {l : List T_api_Node} {r : T_spec_reader} {x : T_api_Group} {p : Int} {ks : List Int} {a : Nat} (h : FA l p nPrice false ks [numB a]) (hr : r.l = l) (hh : V.mg r.had nPrice = none) (ha : a≤1125899906842624) :
    spec_reader_field_x_x r x p = some (bump r nPrice,⟨x.Name,x.Min,x.Max,x.Like,a,x.Rank⟩):=by
  obtain ⟨y,h1,h2⟩:=h.node
  subst hr
  obtain ⟨p1,q1,z1,rfl,e1,k1,t1,w1⟩:=h.vals.one
  obtain rfl:=w1.non
  rw [gfield h1 h2 (ghead h r x rfl),gl_price]
  simp only [Option.bind_some]
  rw [grest_ok (vs:=[.c3 a]) (seqf (by decide)) (.inr hh) (.inr ⟨by decide,110,rfl,by decide⟩) (.cons (c:=110) e1 rfl (value_n' (by rw [k1,kA3 (num_ne _)]) t1 ha) .nil) rfl (by simp)]
  rfl
theorem gf_rank {l : List T_api_Node} {r : T_spec_reader} {x : T_api_Group} {p : Int} {ks : List Int} {a : Nat} (h : FA l p nRank false ks [numB a]) (hr : r.l = l) (hh : V.mg r.had nRank = none) (ha : a≤1125899906842624) :
    spec_reader_field_x_x r x p = some (bump r nRank,⟨x.Name,x.Min,x.Max,x.Like,x.Price,a⟩):=by
  obtain ⟨y,h1,h2⟩:=h.node
  subst hr
  obtain ⟨p1,q1,z1,rfl,e1,k1,t1,w1⟩:=h.vals.one
  obtain rfl:=w1.non
  rw [gfield h1 h2 (ghead h r x rfl),gl_rank]
  simp only [Option.bind_some]
  rw [grest_ok (vs:=[.c3 a]) (seqf (by decide)) (.inr hh) (.inr ⟨by decide,110,rfl,by decide⟩) (.cons (c:=110) e1 rfl (value_n' (by rw [k1,kA3 (num_ne _)]) t1 ha) .nil) rfl (by simp)]
  rfl
theorem gf_has {l : List T_api_Node} {r : T_spec_reader} {x : T_api_Group} {p : Int} {ks : List Int} {a b c d e : Nat} (h : FA l p nHas false ks [milliB a,memB b,memB c,numB d,numB e]) (hr : r.l = l) (hh : V.mg r.had nHas = none)
    (ha : a≤1125899906842624) (hb : b≤1125899906842624) (hc : c≤1125899906842624) (hd : d≤1125899906842624) (he : e≤1125899906842624) :
    spec_reader_field_x_x r x p = some (bump r nHas,⟨x.Name,x.Min,x.Max,⟨x.Like.Name,x.Like.Group,⟨a,b,c,d,e⟩,x.Like.Labels,x.Like.Taints,x.Like.Ready⟩,x.Price,x.Rank⟩):=by
  obtain ⟨y,h1,h2⟩:=h.node
  subst hr
  obtain ⟨p1,q1,z1,rfl,e1,k1,t1,w1⟩:=h.vals.one
  obtain ⟨p2,q2,z2,rfl,e2,k2,t2,w2⟩:=w1.one
  obtain ⟨p3,q3,z3,rfl,e3,k3,t3,w3⟩:=w2.one
  obtain ⟨p4,q4,z4,rfl,e4,k4,t4,w4⟩:=w3.one
  obtain ⟨p5,q5,z5,rfl,e5,k5,t5,w5⟩:=w4.one
  obtain rfl:=w5.non
  rw [gfield h1 h2 (ghead h r x rfl),gl_has]
  simp only [Option.bind_some]
  rw [grest_ok (vs:=[.c3 a,.c3 b,.c3 c,.c3 d,.c3 e]) (seqf (by decide)) (.inr hh) (.inr ⟨by decide,110,rfl,by decide⟩)
    (.cons (c:=109) e1 rfl (value_m (by rw [k1,kA3 (milli_ne _)]) t1 ha) (.cons (c:=112) e2 rfl (value_p (by rw [k2,kA3 (mem_ne _)]) t2 hb) (.cons (c:=112) e3 rfl (value_p (by rw [k3,kA3 (mem_ne _)]) t3 hc) (.cons (c:=110) e4 rfl (value_n' (by rw [k4,kA3 (num_ne _)]) t4 hd) (.cons (c:=110) e5 rfl (value_n' (by rw [k5,kA3 (num_ne _)]) t5 he) .nil))))) rfl (by simp)]
  rfl
theorem gf_label {l : List T_api_Node} {r : T_spec_reader} {x : T_api_Group} {p : Int} {ks : List Int} {a b : ByteArray} (h : FA l p nLabel false ks [a,b]) (hr : r.l = l) (ha : a≠⟨#[]⟩) (hx : x.Like.Labels.length≤1000) :
    spec_reader_field_x_x r x p = some (bump r nLabel,⟨x.Name,x.Min,x.Max,⟨x.Like.Name,x.Like.Group,x.Like.Has,x.Like.Labels++[⟨a,b⟩],x.Like.Taints,x.Like.Ready⟩,x.Price,x.Rank⟩):=by
  obtain ⟨y,h1,h2⟩:=h.node
  subst hr
  obtain ⟨p1,q1,z1,rfl,e1,k1,t1,w1⟩:=h.vals.one
  obtain ⟨p2,q2,z2,rfl,e2,k2,t2,w2⟩:=w1.one
  obtain rfl:=w2.non
  rw [gfield h1 h2 (ghead h r x rfl),gl_label]
  simp only [Option.bind_some]
  rw [grest_ok (vs:=[.c9 a,.c9 b]) (seqf (by decide)) (.inl rfl) (.inr ⟨by decide,97,rfl,by decide⟩)
    (.cons (c:=119) e1 rfl (by rw [value_w (by rw [k1,kA3 ha]) (.inl rfl),t1]) (.cons (c:=97) e2 rfl (value_a k2 t2 (.inl rfl)) .nil)) rfl (by simp)]
  have hap : V.ap 32 x.Like.Labels [(⟨a,b⟩ : T_api_Label)] = some (x.Like.Labels++[⟨a,b⟩]):=by
    unfold V.ap
    rw [if_pos ⟨by simp only [List.length_cons,List.length_nil]; unfold maxLen; omega,by simp only [List.length_cons,List.length_nil]; omega⟩]
  show (spec_pair_1_x_x_x_x_x [.c9 a,.c9 b] x).bind _ = _
  have : spec_pair_1_x_x_x_x_x [.c9 a,.c9 b] x = (V.ap 32 x.Like.Labels [(⟨a,b⟩ : T_api_Label)]).bind fun l =>some (⟨x.Name,x.Min,x.Max,⟨x.Like.Name,x.Like.Group,x.Like.Has,l,x.Like.Taints,x.Like.Ready⟩,x.Price,x.Rank⟩ : T_api_Group):=rfl
  rw [this,hap]
  rfl
theorem gf_taint {l : List T_api_Node} {r : T_spec_reader} {x : T_api_Group} {p : Int} {ks : List Int} {a b : ByteArray} {k : Nat} (h : FA l p nTaint false ks [a,b,effT k]) (hr : r.l = l) (ha : a≠⟨#[]⟩) (hk : k≤3) (hx : x.Like.Taints.length≤1000) :
    spec_reader_field_x_x r x p = some (bump r nTaint,⟨x.Name,x.Min,x.Max,⟨x.Like.Name,x.Like.Group,x.Like.Has,x.Like.Labels,x.Like.Taints++[⟨a,b,k⟩],x.Like.Ready⟩,x.Price,x.Rank⟩):=by
  obtain ⟨y,h1,h2⟩:=h.node
  subst hr
  obtain ⟨p1,q1,z1,rfl,e1,k1,t1,w1⟩:=h.vals.one
  obtain ⟨p2,q2,z2,rfl,e2,k2,t2,w2⟩:=w1.one
  obtain ⟨p3,q3,z3,rfl,e3,k3,t3,w3⟩:=w2.one
  obtain rfl:=w3.non
  rw [gfield h1 h2 (ghead h r x rfl),gl_taint]
  simp only [Option.bind_some]
  rw [grest_ok (vs:=[.c9 a,.c9 b,.c3 k]) (seqf (by decide)) (.inl rfl) (.inr ⟨by decide,101,rfl,by decide⟩)
    (.cons (c:=119) e1 rfl (by rw [value_w (by rw [k1,kA3 ha]) (.inl rfl),t1]) (.cons (c:=97) e2 rfl (value_a k2 t2 (.inl rfl)) (.cons (c:=101) e3 rfl (value_e hk (by rw [k3,kA3 (eff_ne _)]) t3) .nil))) rfl (by simp)]
  have hap : V.ap 40 x.Like.Taints [(⟨a,b,(k : Int)⟩ : T_api_Taint)] = some (x.Like.Taints++[⟨a,b,k⟩]):=by
    unfold V.ap
    rw [if_pos ⟨by simp only [List.length_cons,List.length_nil]; unfold maxLen; omega,by simp only [List.length_cons,List.length_nil]; omega⟩]
  show (spec_common_2_x [.c9 a,.c9 b,.c3 k] x).bind _ = _
  have : spec_common_2_x [.c9 a,.c9 b,.c3 (k : Int)] x = (V.ap 40 x.Like.Taints [(⟨a,b,(k : Int)⟩ : T_api_Taint)]).bind fun l =>some (⟨x.Name,x.Min,x.Max,⟨x.Like.Name,x.Like.Group,x.Like.Has,x.Like.Labels,l,x.Like.Ready⟩,x.Price,x.Rank⟩ : T_api_Group):=rfl
  rw [this,hap]
  rfl
end Go.Proofs.YtkondhigbbgidaaGreat.M

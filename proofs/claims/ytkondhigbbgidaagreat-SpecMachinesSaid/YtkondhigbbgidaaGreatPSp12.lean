/-
  Printed by a program of this session out of the loaded functions: models and their proofs. Own text.
-/
import Derived.Test.YtkondhigbbgidaaGreatPBor
/-
  Plain laws: labels, terms, taints, and whether a pod suits a machine, told alike by the program and the document. Own text.
-/
namespace Go.Proofs.YtkondhigbbgidaaGreat.M
open Go Go.Proofs Go.Proofs.YtkondhigbbgidaaGreat.V
set_option linter.unusedVariables false
set_option linter.unusedSimpArgs false
end Go.Proofs.YtkondhigbbgidaaGreat.M
/-
  Plain law: whether any machine is right, and what is shown of it; it is read as it was. Own text.
-/
namespace Go.Proofs.YtkondhigbbgidaaGreat.M
open Go Go.Proofs Go.Proofs.YtkondhigbbgidaaGreat.V
open Go.IntKind (i64)
set_option linter.unusedVariables false
set_option linter.unusedSimpArgs false
set_option maxRecDepth 20000
theorem wordB_L {s : ByteArray} (h : s.size≤300) : wordB s = wordL (bytesL s):=by
 have h1:=lword_B h
 rw [Word_list (by omega)] at h1
 exact (Option.some.inj h1).symm
theorem mayB_wv {s : ByteArray} (h : s.size≤300) (hm : mayB s = true) : wv s:=by
 unfold mayB at hm
 rw [Bool.or_eq_true,decide_eq_true_eq] at hm
 rcases hm with hm | hm
 ·exact .inl hm
 ·exact .inr (by rw [← wordB_L h]; exact hm)
theorem word_ne {s : ByteArray} (h : wordL (bytesL s) = true) : s≠⟨#[]⟩:=fun e =>by
 subst e
 have : wordL [] = false:=by unfold wordL; rw [headL_nil]; rfl
 rw [show bytesL ⟨#[]⟩ = [] from rfl,this] at h
 cases h
theorem may5_B {s : ByteArray} (h : s.size≤300) : ref05_maybe s = some (mayB s):=by
 unfold ref05_maybe mayB
 rw [word_B h,seq_eq]
 by_cases e : s = ⟨#[]⟩<;>simp [e]
theorem lab_words {l : List T_api_Label} (h : LL l) (hr : labB l = true) : l.length≤16∧∀ k (hk : k < l.length),wordB l[k].Key = true∧mayB l[k].Val = true:=by
 have hr':=lab_B h
 rw [hr] at hr'
 obtain ⟨hl,hs⟩:=h
 unfold ref05_Right at hr'
 split at hr'
 ·cases hr'
 rename_i h16
 refine ⟨by simp at h16; omega,?_⟩
 rcases loopI (F:=fun n i =>ref05_Right.l1 l n i) (Q:=fun r =>r = false) (S:=fun k =>∀ hk : k < l.length,wordB l[k].Key = true∧mayB l[k].Val = true) (len:=l.length) (by omega) (fun n k hk =>by
   have hsk:=hs k hk
   rw [ref05_Right.l1,if_pos (dlt hk),glk hk,wk1 (by omega)]
   simp only [Option.bind_some]
   rw [word_B hsk.1]
   simp only [Option.bind_some,may5_B hsk.2]
   cases hw : wordB l[k].Key with
   | false =>left; exact ⟨false,rfl,rfl⟩
   | true =>
    cases hm : mayB l[k].Val with
    | false =>left; exact ⟨false,rfl,rfl⟩
    | true =>
     by_cases h0 : 0 < k
     ·have h0' : (decide ((k : Int) > 0)) = true:=by simp; omega
      simp only [h0',if_true,glp hk h0 (by omega),Option.bind_some]
      rw [Less_eq (hs (k - 1) (by omega)).1 hsk.1]
      cases hlt : V.slt (l[k - 1]'(by omega)).Key l[k].Key with
      | false =>left; exact ⟨false,rfl,rfl⟩
      | true =>exact .inr ⟨rfl,fun _ =>⟨hw,hm⟩⟩
     ·have h0' : (decide ((k : Int) > 0)) = false:=by simp; omega
      simp only [h0',Bool.false_eq_true,if_false,Option.bind_some]
      exact .inr ⟨rfl,fun _ =>⟨hw,hm⟩⟩) (fun n =>by rw [ref05_Right.l1,if_neg dnl]) with ⟨r,h1,rfl⟩ | ⟨h1,h2⟩
 ·rw [h1] at hr'; cases hr'
 ·exact fun k hk =>h2 k hk hk
theorem tai_words {l : List T_api_Taint} (hr : taintsB l = true) : l.length≤16∧∀ k (hk : k < l.length),wordB l[k].Key = true∧mayB l[k].Val = true∧0≤l[k].Effect∧l[k].Effect≤3:=by
 unfold taintsB at hr
 rw [Bool.and_eq_true,allN_iff,decide_eq_true_eq] at hr
 refine ⟨hr.2,fun k hk =>?_⟩
 have:=hr.1 k hk
 unfold tQ at this
 rw [List.getD_eq_getElem?_getD,List.getElem?_eq_getElem hk,Option.getD_some] at this
 simp only [Bool.and_eq_true] at this
 obtain ⟨a1,a2,a3,_⟩:=this
 unfold effB at a3
 simp only [Bool.and_eq_true,decide_eq_true_eq] at a3
 exact ⟨a1,a2,by omega,by omega⟩
theorem res_RR {x : T_api_Res} (h : resOK x = true) : RR x:=by
 unfold resOK rOK at h
 simp only [Bool.and_eq_true,decide_eq_true_eq] at h
 obtain ⟨h1,h2,h3,h4,h5⟩:=h
 exact ⟨h1,h2,h3,h4,h5⟩
structure MW (m : T_api_Machine) : Prop where
 name : wv m.Name
 group : wv m.Group
 has : RR m.Has
 nl : m.Labels.length≤16
 nt : m.Taints.length≤16
 lab : ∀ a,a ∈ m.Labels→wordL (bytesL a.Key) = true∧wv a.Val∧a.Key.size≤300∧a.Val.size≤300
 tai : ∀ a,a ∈ m.Taints→wordL (bytesL a.Key) = true∧wv a.Val∧a.Key.size≤300∧a.Val.size≤300∧0≤a.Effect∧a.Effect≤3
theorem mach_MW {m : T_api_Machine} (h : LM m) (hr : machB m = true) : MW m:=by
 unfold machB at hr
 simp only [Bool.and_eq_true] at hr
 obtain ⟨h1,h2,h3,h4,h5⟩:=hr
 obtain ⟨l1,l2⟩:=lab_words h.labels h4
 obtain ⟨t1,t2⟩:=tai_words h5
 refine ⟨mayB_wv h.name h1,mayB_wv h.group h2,res_RR h3,l1,t1,fun a ha =>?_,fun a ha =>?_⟩
 ·obtain ⟨k,hk,rfl⟩:=List.getElem_of_mem ha
  have hs:=h.labels.2 k hk
  exact ⟨by rw [← wordB_L hs.1]; exact (l2 k hk).1,mayB_wv hs.2 (l2 k hk).2,hs.1,hs.2⟩
 ·obtain ⟨k,hk,rfl⟩:=List.getElem_of_mem ha
  have hs:=h.taints.2 k hk
  obtain ⟨q1,q2,q3,q4⟩:=t2 k hk
  exact ⟨by rw [← wordB_L hs.1]; exact q1,mayB_wv hs.2 q2,hs.1,hs.2,q3,q4⟩
theorem ascii_head : ∀ l : List Int,(∀ b,b ∈ l→b < 128∧plainB b = true)→headL plainB l = (l.length,true)
 | [],_ =>headL_nil _
 | b :: l,h =>by
  obtain ⟨h1,h2⟩:=h b (List.mem_cons_self ..)
  rw [headL_go (rl_ascii h1) h2,show (b :: l).drop 1 = l from rfl,ascii_head l fun x hx =>h x (List.mem_cons_of_mem _ hx)]
  rfl
theorem ascii_cnt : ∀ l : List Int,(∀ b,b ∈ l→b < 128∧plainB b = true)→cnt l = some l.length
 | [],_ =>cnt_nil
 | b :: l,h =>by
  obtain ⟨h1,h2⟩:=h b (List.mem_cons_self ..)
  rw [cnt_go (rl_ascii h1),show (b :: l).drop 1 = l from rfl,ascii_cnt l fun x hx =>h x (List.mem_cons_of_mem _ hx)]
  rfl
theorem ascii_word {l : List Int} (h : ∀ b,b ∈ l→b < 128∧plainB b = true) (h1 : 0 < l.length) (h2 : l.length≤64) : wordL l = true:=by
 unfold wordL
 rw [ascii_head l h,ascii_cnt l h]
 simp [longB,h1]; omega
theorem plain_of {b : Int} (h : 48≤b∧b≤57∨65≤b∧b≤90∨97≤b∧b≤122) : b < 128∧plainB b = true:=by
 refine ⟨by omega,?_⟩
 unfold plainB
 simp only [Bool.and_eq_true,decide_eq_true_eq,bne_iff_ne,ne_eq]
 omega
theorem num_word {n : Nat} (h : n≤1125899906842624) {u : ByteArray} (hu : u.size≤2) (hb : ∀ b,b ∈ bytesL u→65≤b∧b≤90∨97≤b∧b≤122) : wordL (bytesL (numB n++u)) = true:=by
 have h1:=dg_pos n
 have h2:=dg16 h
 rw [b_cat,numB_l]
 refine ascii_word (fun b hb' =>plain_of ?_) (by simp; omega) (by rw [List.length_append,bytesS]; omega)
 rcases List.mem_append.1 hb' with hb' | hb'
 ·exact .inl (dg_mem n b hb')
 ·rcases hb b hb' with h | h
  ·exact .inr (.inl h)
  ·exact .inr (.inr h)
theorem numB_word {n : Nat} (h : n≤1125899906842624) : wordL (bytesL (numB n)) = true:=by
 have:=num_word h (u:=⟨#[]⟩) (by decide) (by intro b hb; cases hb)
 rwa [app_nilB] at this
theorem milli_word {n : Nat} (h : n≤1125899906842624) : wordL (bytesL (milliB n)) = true:=by
 unfold milliB; split
 ·exact numB_word (by omega)
 ·exact num_word h (by decide) (by decide)
theorem mem_word {n : Nat} (h : n≤1125899906842624) : wordL (bytesL (memB n)) = true:=by
 unfold memB
 have hle : n / kp (kk n)≤n:=Nat.div_le_self ..
 rcases kk_cases n with ⟨e,_⟩ | ⟨e,_⟩ | ⟨e,_⟩ | ⟨e,_⟩ | ⟨e,_⟩<;>rw [e] at hle ⊢<;>exact num_word (by omega) (by decide) (by decide)
theorem eff_word (k : Nat) : wordL (bytesL (effT k)) = true:=by unfold effT; split<;>exact ascii_word (by decide) (by decide) (by decide)
theorem rest_ok {m : T_api_Machine} (h : MW m) : ∀ i,i ∈ restI m→i.ok:=by
 have h1:=h.has.cpu; have h2:=h.has.mem; have h3:=h.has.disk; have h4:=h.has.pods; have h5:=h.has.dev
 intro i hi
 unfold restI at hi
 simp only [List.mem_append,List.mem_singleton,List.mem_map] at hi
 rcases hi with rfl | ⟨a,ha,rfl⟩ | ⟨a,ha,rfl⟩
 ·refine ⟨ascii_word (by decide) (by decide) (by decide),fun v hv =>.inr ?_⟩
  simp only [List.mem_cons,List.not_mem_nil,or_false] at hv
  rcases hv with rfl | rfl | rfl | rfl | rfl
  ·exact milli_word (by omega)
  ·exact mem_word (by omega)
  ·exact mem_word (by omega)
  ·exact numB_word (by omega)
  ·exact numB_word (by omega)
 ·obtain ⟨q1,q2,_⟩:=h.lab a ha
  refine ⟨ascii_word (by decide) (by decide) (by decide),fun v hv =>?_⟩
  simp only [List.mem_cons,List.not_mem_nil,or_false] at hv
  rcases hv with rfl | rfl
  ·exact .inr q1
  ·exact q2
 ·obtain ⟨q1,q2,_⟩:=h.tai a ha
  refine ⟨ascii_word (by decide) (by decide) (by decide),fun v hv =>?_⟩
  simp only [List.mem_cons,List.not_mem_nil,or_false] at hv
  rcases hv with rfl | rfl | rfl
  ·exact .inr q1
  ·exact q2
  ·exact .inr (eff_word _)
theorem mach_ok {m : T_api_Machine} (h : MW m) : ∀ i,i ∈ machI m→i.ok:=by
 intro i hi
 unfold machI at hi
 rcases List.mem_append.1 hi with hi | hi
 ·split at hi
  ·cases hi
  ·rename_i e
   rw [List.mem_singleton] at hi
   subst hi
   refine ⟨ascii_word (by decide) (by decide) (by decide),fun v hv =>?_⟩
   rw [List.mem_singleton] at hv
   subst hv
   exact h.group
 ·rcases List.mem_append.1 hi with hi | hi
  ·exact rest_ok h i hi
  ·split at hi
   ·rw [List.mem_singleton] at hi
    subst hi
    exact ascii_word (by decide) (by decide) (by decide)
   ·cases hi
theorem fm_bound {α β : Type} {f : α→List β} {c : Nat} : ∀ l : List α,(∀ a,a ∈ l→(f a).length≤c)→(l.flatMap f).length≤c * l.length
 | [],_ =>Nat.zero_le _
 | a :: l,h =>by
  rw [List.flatMap_cons,List.length_append,List.length_cons,Nat.mul_add]
  have:=h a (List.mem_cons_self ..)
  have:=fm_bound l fun x hx =>h x (List.mem_cons_of_mem _ hx)
  omega
theorem atL_le (v : ByteArray) : (atL v).length≤v.size + 2:=by rw [atL_len]; exact atB_size v
theorem rest_len {m : T_api_Machine} (h : MW m) : (itsL (restI m)).length≤21000:=by
 have h1:=h.has.cpu; have h2:=h.has.mem; have h3:=h.has.disk; have h4:=h.has.pods; have h5:=h.has.dev
 have e : itsL (restI m) = itL (hasI m.Has)++(itsL (m.Labels.map labI)++itsL (m.Taints.map taiI)):=by simp [itsL,restI]
 rw [e,List.length_append,List.length_append]
 have z1:=milli_size (n:=m.Has.Cpu.toNat) (by omega)
 have z2:=mem_size (n:=m.Has.Mem.toNat) (by omega)
 have z3:=mem_size (n:=m.Has.Disk.toNat) (by omega)
 have z4:=numB_size (n:=m.Has.Pods.toNat) (by omega)
 have z5:=numB_size (n:=m.Has.Dev.toNat) (by omega)
 have a1:=atL_le (milliB m.Has.Cpu.toNat); have a2:=atL_le (memB m.Has.Mem.toNat); have a3:=atL_le (memB m.Has.Disk.toNat); have a4:=atL_le (numB m.Has.Pods.toNat); have a5:=atL_le (numB m.Has.Dev.toNat)
 have b1 : (itL (hasI m.Has)).length≤200:=by
  have : nHas.size = 3:=rfl
  simp only [hasI,itL,valsL,List.flatMap_cons,List.flatMap_nil,List.length_cons,List.length_append,bytesS,List.length_nil]
  omega
 have b2 : (itsL (m.Labels.map labI)).length≤620 * m.Labels.length:=by
  have:=fm_bound (f:=itL) (c:=620) (m.Labels.map labI) (fun i hi =>by
   obtain ⟨a,ha,rfl⟩:=List.mem_map.1 hi
   obtain ⟨_,_,q1,q2⟩:=h.lab a ha
   have:=atL_le a.Key; have:=atL_le a.Val; have : nLabel.size = 5:=rfl
   simp only [labI,itL,valsL,List.flatMap_cons,List.flatMap_nil,List.length_cons,List.length_append,bytesS,List.length_nil]
   omega)
  rwa [List.length_map] at this
 have b3 : (itsL (m.Taints.map taiI)).length≤640 * m.Taints.length:=by
  have:=fm_bound (f:=itL) (c:=640) (m.Taints.map taiI) (fun i hi =>by
   obtain ⟨a,ha,rfl⟩:=List.mem_map.1 hi
   obtain ⟨_,_,q1,q2,_⟩:=h.tai a ha
   have:=atL_le a.Key; have:=atL_le a.Val; have:=atL_le (effT a.Effect.toNat); have:=eff_size a.Effect.toNat; have : nTaint.size = 5:=rfl
   simp only [taiI,itL,valsL,List.flatMap_cons,List.flatMap_nil,List.length_cons,List.length_append,bytesS,List.length_nil]
   omega)
  rwa [List.length_map] at this
 have:=h.nl; have:=h.nt
 omega
theorem mach_len {m : T_api_Machine} (h : MW m) (hg : m.Group.size≤300) : (itsL (machI m)).length≤22000:=by
 unfold machI
 rw [itsL_app,itsL_app,List.length_append,List.length_append]
 have:=rest_len h
 have a : (itsL (if m.Group = ⟨#[]⟩ then [] else [It.li nGroup [m.Group]])).length≤400:=by
  split
  ·simp [itsL]
  ·have:=atL_le m.Group; have : nGroup.size = 5:=rfl
   simp only [itsL,itL,valsL,List.flatMap_cons,List.flatMap_nil,List.length_cons,List.length_append,bytesS,List.length_nil]
   omega
 have b : (itsL (if m.Ready = true then [It.flag nReady] else [])).length≤6:=by
  split
  ·decide
  ·simp [itsL]
 omega
theorem itsN_app (a b : List It) : itsN (a++b) = itsN a + itsN b:=by simp [itsN]
theorem rest_n {m : T_api_Machine} (h : MW m) : itsN (restI m)≤200:=by
 have a : itsN (m.Labels.map labI) = 4 * m.Labels.length:=by
  have : ∀ l : List T_api_Label,itsN (l.map labI) = 4 * l.length:=fun l =>by
   induction l with
   | nil =>rfl
   | cons x l ih =>rw [List.map_cons,show labI x :: l.map labI = [labI x]++l.map labI from rfl,itsN_app,ih,List.length_cons]; simp [itsN,It.n,labI]; omega
  exact this _
 have b : itsN (m.Taints.map taiI) = 5 * m.Taints.length:=by
  have : ∀ l : List T_api_Taint,itsN (l.map taiI) = 5 * l.length:=fun l =>by
   induction l with
   | nil =>rfl
   | cons x l ih =>rw [List.map_cons,show taiI x :: l.map taiI = [taiI x]++l.map taiI from rfl,itsN_app,ih,List.length_cons]; simp [itsN,It.n,taiI]; omega
  exact this _
 have:=h.nl; have:=h.nt
 unfold restI
 rw [itsN_app,itsN_app,a,b]
 have : itsN [hasI m.Has] = 7:=rfl
 omega
theorem mach_n {m : T_api_Machine} (h : MW m) : itsN (machI m)≤300:=by
 have:=rest_n h
 unfold machI
 rw [itsN_app,itsN_app]
 have a : itsN (if m.Group = ⟨#[]⟩ then [] else [It.li nGroup [m.Group]])≤3:=by split<;>simp [itsN,It.n]
 have b : itsN (if m.Ready = true then [It.flag nReady] else [])≤1:=by split<;>simp [itsN,It.n]
 omega
theorem mach_steps {m : T_api_Machine} (h : MW m) {l : List T_api_Node} : ∃ r',Steps (machI m) ⟨l,(),[],0,0⟩ ⟨⟨#[]⟩,⟨#[]⟩,⟨0,0,0,0,0⟩,[],[],false⟩ r' ⟨⟨#[]⟩,m.Group,m.Has,m.Labels,m.Taints,m.Ready⟩:=by
 have hla : ∀ a,a ∈ m.Labels→a.Key≠⟨#[]⟩:=fun a ha =>word_ne (h.lab a ha).1
 have hta : ∀ a,a ∈ m.Taints→a.Key≠⟨#[]⟩∧0≤a.Effect∧a.Effect≤3:=fun a ha =>let ⟨q1,_,_,_,q2,q3⟩:=h.tai a ha; ⟨word_ne q1,q2,q3⟩
 have hnl:=h.nl; have hnt:=h.nt
 obtain ⟨r1,s1,e1,d1,f1,f2⟩ : ∃ r1,Steps (if m.Group = ⟨#[]⟩ then [] else [It.li nGroup [m.Group]]) ⟨l,(),[],0,0⟩ ⟨⟨#[]⟩,⟨#[]⟩,⟨0,0,0,0,0⟩,[],[],false⟩ r1 ⟨⟨#[]⟩,m.Group,⟨0,0,0,0,0⟩,[],[],false⟩∧r1.l = l∧r1.e = 0∧V.mg r1.had nHas = none∧V.mg r1.had nReady = none:=by
  by_cases e : m.Group = ⟨#[]⟩
  ·rw [if_pos e,e]
   exact ⟨_,.nil _ _,rfl,rfl,rfl,rfl⟩
  ·rw [if_neg e]
   exact ⟨bump ⟨l,(),[],0,0⟩ nGroup,.one (fun p ⟨ks,hp⟩ =>mf_group (x:=⟨⟨#[]⟩,⟨#[]⟩,⟨0,0,0,0,0⟩,[],[],false⟩) hp rfl e rfl) rfl rfl,rfl,rfl,by rw [had_bump (by decide)]; rfl,by rw [had_bump (by decide)]; rfl⟩
 obtain ⟨r2,s2,e2,d2,f3⟩:=rest_steps h.has hla hta (by omega) (by omega) (r:=r1) (x:=⟨⟨#[]⟩,m.Group,⟨0,0,0,0,0⟩,[],[],false⟩) d1 rfl rfl f1
 obtain ⟨r3,s3⟩ : ∃ r3,Steps (if m.Ready = true then [It.flag nReady] else []) r2 ⟨⟨#[]⟩,m.Group,m.Has,m.Labels,m.Taints,false⟩ r3 ⟨⟨#[]⟩,m.Group,m.Has,m.Labels,m.Taints,m.Ready⟩:=by
  by_cases e : m.Ready = true
  ·rw [if_pos e,e]
   exact ⟨bump r2 nReady,.one (fun p hp =>mf_ready (x:=⟨⟨#[]⟩,m.Group,m.Has,m.Labels,m.Taints,false⟩) hp rfl (by rw [f3,f2])) rfl d2⟩
  ·rw [if_neg e,(by simpa using e : m.Ready = false)]
   exact ⟨_,.nil _ _⟩
 exact ⟨r3,s1.append (s2.append s3)⟩
theorem read_mach {m : T_api_Machine} (hm : LM m) (hr : machB m = true) {φ : Fo} (hs : φ.strip = formF kMachine m.Name (machI m)) (hl : φ.flat.length≤1000000) : spec_Machine φ.flat 0 = some (m,0,0):=by
 have h:=mach_MW hm hr
 obtain ⟨r',hst⟩:=mach_steps h (l:=φ.flat)
 unfold spec_Machine spec_text spec_flag spec_common spec_pair
 simp only [Option.bind_some]
 have hf:=mform hs hl (by decide) hst
 rw [show (⟨#[109,97,99,104,105,110,101]⟩ : ByteArray) = kMachine from rfl,hf]
 simp only [Option.bind_some]
 rw [if_neg (by decide)]
 have : spec_RightMachine ⟨m.Name,m.Group,m.Has,m.Labels,m.Taints,m.Ready⟩ = some true:=by rw [spec_Mach_eq hm,hr]
 rw [this]
 rfl
theorem beqBB (a : ByteArray) : (a == a) = true:=by
 obtain ⟨a⟩:=a
 show (a == a) = true
 simp
theorem SameL {l : List T_api_Label} (hl : l.length≤1000) : ref05_Same l l = some true:=by
 unfold ref05_Same
 rw [if_neg (by simp)]
 rcases loopI (F:=fun n i =>ref05_Same.l1 l l n i) (Q:=fun _ =>False) (S:=fun _ =>True) (len:=l.length) (by omega) (fun n k hk =>by
  rw [ref05_Same.l1,if_pos (dlt hk),glk hk,wk1 (by omega)]
  simp only [Option.bind_some]
  rw [if_neg (by simp [beqBB])]
  exact .inr ⟨rfl,trivial⟩) (fun n =>by rw [ref05_Same.l1,if_neg dnl]) with ⟨r,_,h⟩ | ⟨h,_⟩
 ·exact h.elim
 ·rw [h]; rfl
theorem SameT {l : List T_api_Taint} (hl : l.length≤1000) : ref06_Same l l = some true:=by
 unfold ref06_Same
 rw [if_neg (by simp)]
 rcases loopI (F:=fun n i =>ref06_Same.l1 l l n i) (Q:=fun _ =>False) (S:=fun _ =>True) (len:=l.length) (by omega) (fun n k hk =>by
  rw [ref06_Same.l1,if_pos (dlt hk),glk hk,wk1 (by omega)]
  simp only [Option.bind_some]
  rw [if_neg (by simp [beqBB])]
  exact .inr ⟨rfl,trivial⟩) (fun n =>by rw [ref06_Same.l1,if_neg dnl]) with ⟨r,_,h⟩ | ⟨h,_⟩
 ·exact h.elim
 ·rw [h]; rfl
theorem SameM {m : T_api_Machine} (h : LM m) : ref07_SameMachine m m = some true:=by
 unfold ref07_SameMachine
 have h1:=h.labels.1; have h2:=h.taints.1
 rw [seq_eq,seq_eq,SameL (by omega),SameT (by omega)]
 simp
theorem SpecMachines_true (m : T_api_Machine) {p : Prop} (_ : p) : law07_SpecMachines m = some true:=by
 unfold law07_SpecMachines
 obtain ⟨b,h1,h2⟩:=ref07_LightMachine_eq m
 rw [h1]
 simp only [Option.bind_some]
 rw [known07_true]
 cases b with
 | false =>rfl
 | true =>
  have hm:=h2 rfl
  have e1:=spec_Mach_eq hm
  have e2:=ref07_Mach_eq hm
  rw [if_neg (by simp)]
  cases hb : machB m with
  | false =>
   rw [hb] at e1 e2
   have s1 : spec_ShowMachine m = some ⟨#[]⟩:=by unfold spec_ShowMachine; rw [e1]; rfl
   have s2 : ref07_ShowMachine m = some ⟨#[]⟩:=by unfold ref07_ShowMachine; rw [e2]; rfl
   rw [s1,e1,e2,s2]
   simp only [Option.bind_some]
   rw [show V.seq (⟨#[]⟩ : ByteArray) (⟨#[]⟩ : ByteArray) = true from (seq_nil _).2 rfl]
   rfl
  | true =>
   rw [hb] at e1 e2
   have h:=mach_MW hm hb
   have hnl:=h.nl; have hnt:=h.nt
   have hla : ∀ a,a ∈ m.Labels→a.Key≠⟨#[]⟩:=fun a ha =>word_ne (h.lab a ha).1
   have hta : ∀ a,a ∈ m.Taints→a.Key≠⟨#[]⟩∧0≤a.Effect∧a.Effect≤3:=fun a ha =>let ⟨q1,_,_,_,q2,q3⟩:=h.tai a ha; ⟨word_ne q1,q2,q3⟩
   have hlen:=mach_len h hm.group
   obtain ⟨t,t1,t2⟩:=showM_p e1 h.has (fun a ha =>(hta a ha).2) hm.name hm.group (by omega)
   obtain ⟨u,u1,u2⟩:=showM_r e2 h.has (by omega) hla (by omega) hta hm.name hm.group (by omega)
   have htu : t = u:=bytesL_inj (by rw [t2,u2])
   subst htu
   have hts : t.size≤65536:=by
    rw [← bytesS,t2]
    have:=atL_le m.Name; have:=hm.name; have : kMachine.size = 7:=rfl
    simp only [formL,List.length_cons,List.length_append,bytesS,List.length_nil]
    omega
   have hn:=mach_n h
   obtain ⟨φ,p1,p2⟩:=form_parse hts t2 (ascii_word (by decide) (by decide) (by decide)) h.name (mach_ok h) (by omega)
   rw [form_strip] at p1
   have hφ : φ.flat.length≤1000000:=by
    have e:=congrArg List.length (Fo.strip_flat φ (formF kMachine m.Name (machI m)) (by rw [p1,form_strip]))
    rw [List.length_map,List.length_map] at e
    rw [e]
    have : (formF kMachine m.Name (machI m)).flat.length = itsN (machI m) + 3:=by unfold formF; simp [Fo.flat,its_flat]
    omega
   have hp : law07_parsed t = some φ.flat:=by unfold law07_parsed; rw [p2]; rfl
   rw [t1,e1,e2]
   simp only [Option.bind_some]
   rw [if_neg (by decide),u1]
   simp only [Option.bind_some]
   rw [show V.seq t t = true by rw [seq_eq]; simp]
   simp only [Bool.not_true,Bool.false_eq_true,if_false]
   rw [hp]
   simp only [Option.bind_some]
   rw [read_mach hm hb p1 hφ]
   simp only [Option.bind_some]
   rw [if_pos (by decide),SameM hm]
   rfl
end Go.Proofs.YtkondhigbbgidaaGreat.M

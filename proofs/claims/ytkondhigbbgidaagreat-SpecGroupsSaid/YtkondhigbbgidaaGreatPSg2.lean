/-
  Printed by a program of this session out of the loaded functions: models and their proofs. Own text.
-/
import Derived.Test.YtkondhigbbgidaaGreatPSg1
/-
  Plain law: whether any group is right, and what is shown of it; it is read as it was. Own text.
-/
namespace Go.Proofs.YtkondhigbbgidaaGreat.M
open Go Go.Proofs Go.Proofs.YtkondhigbbgidaaGreat.V
open Go.IntKind (i64)
set_option linter.unusedVariables false
set_option linter.unusedSimpArgs false
set_option maxRecDepth 20000
def grpB (g : T_api_Group) : Bool:=wordB g.Name && (decide (1≤g.Max∧g.Max≤200) && (decide (0≤g.Min∧g.Min≤g.Max) && (decide (0≤g.Price∧g.Price≤1125899906842624) && (decide (0≤g.Rank∧g.Rank≤1000) && (machB g.Like && (decide (g.Like.Name = ⟨#[]⟩) && (decide (g.Like.Group = g.Name) && g.Like.Ready)))))))
theorem btw (n a b : Int) : spec_between n a b = some (decide (a≤n∧n≤b)):=by
 unfold spec_between
 by_cases h1 : a≤n<;>by_cases h2 : n≤b<;>simp [h1,h2]
theorem rin (n a b : Int) : ref07_in n a b = some (decide (a≤n∧n≤b)):=by
 unfold ref07_in
 by_cases h1 : a≤n<;>by_cases h2 : n≤b<;>simp [h1,h2]
theorem grp_p {g : T_api_Group} (h : LM g.Like) (hn : g.Name.size≤300) : spec_RightGroup g = some (grpB g):=by
 unfold spec_RightGroup grpB
 rw [lword_B hn]
 simp only [Option.bind_some,btw,seq_eq,spec_Mach_eq h]
 cases wordB g.Name<;>cases decide (1≤g.Max∧g.Max≤200)<;>cases decide (0≤g.Min∧g.Min≤g.Max)<;>cases decide (0≤g.Price∧g.Price≤1125899906842624)<;>cases decide (0≤g.Rank∧g.Rank≤1000)<;>cases machB g.Like<;>cases decide (g.Like.Name = ⟨#[]⟩)<;>cases decide (g.Like.Group = g.Name)<;>cases g.Like.Ready<;>rfl
theorem grp_r {g : T_api_Group} (h : LM g.Like) (hn : g.Name.size≤300) : ref07_RightGroup g = some (grpB g):=by
 unfold ref07_RightGroup grpB
 rw [word_B hn]
 simp only [Option.bind_some,rin,seq_eq,ref07_Mach_eq h]
 cases wordB g.Name<;>cases decide (1≤g.Max∧g.Max≤200)<;>cases decide (0≤g.Min∧g.Min≤g.Max)<;>cases decide (0≤g.Price∧g.Price≤1125899906842624)<;>cases decide (0≤g.Rank∧g.Rank≤1000)<;>cases machB g.Like<;>cases decide (g.Like.Name = ⟨#[]⟩)<;>cases decide (g.Like.Group = g.Name)<;>cases g.Like.Ready<;>rfl
structure GW (g : T_api_Group) : Prop where
 name : wordL (bytesL g.Name) = true
 max : 1≤g.Max∧g.Max≤200
 min : 0≤g.Min∧g.Min≤g.Max
 price : 0≤g.Price∧g.Price≤1125899906842624
 rank : 0≤g.Rank∧g.Rank≤1000
 like : MW g.Like
 lname : g.Like.Name = ⟨#[]⟩
 lgroup : g.Like.Group = g.Name
 ready : g.Like.Ready = true
theorem grp_GW {g : T_api_Group} (h : LM g.Like) (hn : g.Name.size≤300) (hb : grpB g = true) : GW g:=by
 unfold grpB at hb
 simp only [Bool.and_eq_true,decide_eq_true_eq] at hb
 obtain ⟨h1,h2,h3,h4,h5,h6,h7,h8,h9⟩:=hb
 exact ⟨by rw [← wordB_L hn]; exact h1,h2,h3,h4,h5,mach_MW h h6,h7,h8,h9⟩
def numI (n : ByteArray) (k : Int) : List It:=if k = 0 then [] else [It.li n [numB k.toNat]]
def grpI (g : T_api_Group) : List It:=[It.li nSize [numB g.Min.toNat,numB g.Max.toNat]]++(numI nPrice g.Price++(numI nRank g.Rank++restI g.Like))
theorem glabs_steps : ∀ (L : List T_api_Label) (r : T_spec_reader) (x : T_api_Group),(∀ a,a ∈ L→a.Key≠⟨#[]⟩)→r.e = 0→x.Like.Labels.length + L.length≤1000 →
  ∃ r',gSteps (L.map labI) r x r' ⟨x.Name,x.Min,x.Max,⟨x.Like.Name,x.Like.Group,x.Like.Has,x.Like.Labels++L,x.Like.Taints,x.Like.Ready⟩,x.Price,x.Rank⟩∧r'.l = r.l∧r'.e = 0
 | [],r,x,_,he,_ =>⟨r,by rw [List.append_nil]; exact .nil _ _,rfl,he⟩
 | a :: L,r,x,ha,he,hl =>by
  simp only [List.length_cons] at hl
  obtain ⟨r',h1,h2,h3⟩:=glabs_steps L (bump r nLabel) ⟨x.Name,x.Min,x.Max,⟨x.Like.Name,x.Like.Group,x.Like.Has,x.Like.Labels++[a],x.Like.Taints,x.Like.Ready⟩,x.Price,x.Rank⟩ (fun b hb =>ha b (List.mem_cons_of_mem _ hb)) he (by simp; omega)
  refine ⟨r',.cons (r1:=bump r nLabel) (fun p ⟨ks,hp⟩ =>gf_label hp rfl (ha a (List.mem_cons_self ..)) (by omega)) rfl he ?_,h2,h3⟩
  simpa using h1
theorem gtais_steps : ∀ (L : List T_api_Taint) (r : T_spec_reader) (x : T_api_Group),(∀ a,a ∈ L→a.Key≠⟨#[]⟩∧0≤a.Effect∧a.Effect≤3)→r.e = 0→x.Like.Taints.length + L.length≤1000 →
  ∃ r',gSteps (L.map taiI) r x r' ⟨x.Name,x.Min,x.Max,⟨x.Like.Name,x.Like.Group,x.Like.Has,x.Like.Labels,x.Like.Taints++L,x.Like.Ready⟩,x.Price,x.Rank⟩∧r'.l = r.l∧r'.e = 0
 | [],r,x,_,he,_ =>⟨r,by rw [List.append_nil]; exact .nil _ _,rfl,he⟩
 | a :: L,r,x,ha,he,hl =>by
  simp only [List.length_cons] at hl
  obtain ⟨a1,a2,a3⟩:=ha a (List.mem_cons_self ..)
  have ea : (⟨a.Key,a.Val,(a.Effect.toNat : Int)⟩ : T_api_Taint) = a:=by
   have : (a.Effect.toNat : Int) = a.Effect:=by omega
   rw [this]
  obtain ⟨r',h1,h2,h3⟩:=gtais_steps L (bump r nTaint) ⟨x.Name,x.Min,x.Max,⟨x.Like.Name,x.Like.Group,x.Like.Has,x.Like.Labels,x.Like.Taints++[a],x.Like.Ready⟩,x.Price,x.Rank⟩ (fun b hb =>ha b (List.mem_cons_of_mem _ hb)) he (by simp; omega)
  refine ⟨r',.cons (r1:=bump r nTaint) (fun p ⟨ks,hp⟩ =>by have:=gf_taint (r:=r) (x:=x) hp rfl a1 (by omega) (by omega); rw [ea] at this; exact this) rfl he ?_,h2,h3⟩
  simpa using h1
theorem grp_steps {g : T_api_Group} (h : GW g) {l : List T_api_Node} : ∃ r',gSteps (grpI g) ⟨l,(),[],0,0⟩ ⟨⟨#[]⟩,0,0,⟨⟨#[]⟩,⟨#[]⟩,⟨0,0,0,0,0⟩,[],[],false⟩,0,0⟩ r' ⟨⟨#[]⟩,g.Min,g.Max,⟨⟨#[]⟩,⟨#[]⟩,g.Like.Has,g.Like.Labels,g.Like.Taints,false⟩,g.Price,g.Rank⟩:=by
 have hm:=h.min; have hM:=h.max; have hp:=h.price; have hk:=h.rank; have hw:=h.like
 have hla : ∀ a,a ∈ g.Like.Labels→a.Key≠⟨#[]⟩:=fun a ha =>word_ne (hw.lab a ha).1
 have hta : ∀ a,a ∈ g.Like.Taints→a.Key≠⟨#[]⟩∧0≤a.Effect∧a.Effect≤3:=fun a ha =>let ⟨q1,_,_,_,q2,q3⟩:=hw.tai a ha; ⟨word_ne q1,q2,q3⟩
 have hnl:=hw.nl; have hnt:=hw.nt
 obtain ⟨m,em⟩ : ∃ m,m = g.Like:=⟨_,rfl⟩
 have s1 : gSteps [It.li nSize [numB g.Min.toNat,numB g.Max.toNat]] ⟨l,(),[],0,0⟩ ⟨⟨#[]⟩,0,0,⟨⟨#[]⟩,⟨#[]⟩,⟨0,0,0,0,0⟩,[],[],false⟩,0,0⟩ (bump ⟨l,(),[],0,0⟩ nSize) ⟨⟨#[]⟩,g.Min,g.Max,⟨⟨#[]⟩,⟨#[]⟩,⟨0,0,0,0,0⟩,[],[],false⟩,0,0⟩:=.one (fun p ⟨ks,hp⟩ =>by
  have:=gf_size (r:=⟨l,(),[],0,0⟩) (x:=⟨⟨#[]⟩,0,0,⟨⟨#[]⟩,⟨#[]⟩,⟨0,0,0,0,0⟩,[],[],false⟩,0,0⟩) hp rfl rfl (by omega) (by omega)
  rw [show (g.Min.toNat : Int) = g.Min by omega,show (g.Max.toNat : Int) = g.Max by omega] at this
  exact this) rfl rfl
 obtain ⟨r2,s2,l2,d2,f2,f2'⟩ : ∃ r2,gSteps (numI nPrice g.Price) (bump ⟨l,(),[],0,0⟩ nSize) ⟨⟨#[]⟩,g.Min,g.Max,⟨⟨#[]⟩,⟨#[]⟩,⟨0,0,0,0,0⟩,[],[],false⟩,0,0⟩ r2 ⟨⟨#[]⟩,g.Min,g.Max,⟨⟨#[]⟩,⟨#[]⟩,⟨0,0,0,0,0⟩,[],[],false⟩,g.Price,0⟩∧r2.l = l∧r2.e = 0∧V.mg r2.had nRank = none∧V.mg r2.had nHas = none:=by
  unfold numI
  by_cases e : g.Price = 0
  ·rw [if_pos e,e]
   exact ⟨_,.nil _ _,rfl,rfl,by rw [had_bump (by decide)]; rfl,by rw [had_bump (by decide)]; rfl⟩
  ·rw [if_neg e]
   refine ⟨bump (bump ⟨l,(),[],0,0⟩ nSize) nPrice,.one (fun p ⟨ks,hq⟩ =>?_) rfl rfl,rfl,rfl,by rw [had_bump (by decide),had_bump (by decide)]; rfl,by rw [had_bump (by decide),had_bump (by decide)]; rfl⟩
   have:=gf_price (r:=bump ⟨l,(),[],0,0⟩ nSize) (x:=⟨⟨#[]⟩,g.Min,g.Max,⟨⟨#[]⟩,⟨#[]⟩,⟨0,0,0,0,0⟩,[],[],false⟩,0,0⟩) hq rfl (by rw [had_bump (by decide)]; rfl) (by omega)
   rw [show (g.Price.toNat : Int) = g.Price by omega] at this
   exact this
 obtain ⟨r3,s3,l3,d3,f3⟩ : ∃ r3,gSteps (numI nRank g.Rank) r2 ⟨⟨#[]⟩,g.Min,g.Max,⟨⟨#[]⟩,⟨#[]⟩,⟨0,0,0,0,0⟩,[],[],false⟩,g.Price,0⟩ r3 ⟨⟨#[]⟩,g.Min,g.Max,⟨⟨#[]⟩,⟨#[]⟩,⟨0,0,0,0,0⟩,[],[],false⟩,g.Price,g.Rank⟩∧r3.l = l∧r3.e = 0∧V.mg r3.had nHas = none:=by
  unfold numI
  by_cases e : g.Rank = 0
  ·rw [if_pos e,e]
   exact ⟨_,.nil _ _,l2,d2,f2'⟩
  ·rw [if_neg e]
   refine ⟨bump r2 nRank,.one (fun p ⟨ks,hq⟩ =>?_) rfl d2,l2,d2,by rw [had_bump (by decide),f2']⟩
   have:=gf_rank (r:=r2) (x:=⟨⟨#[]⟩,g.Min,g.Max,⟨⟨#[]⟩,⟨#[]⟩,⟨0,0,0,0,0⟩,[],[],false⟩,g.Price,0⟩) hq rfl f2 (by omega)
   rw [show (g.Rank.toNat : Int) = g.Rank by omega] at this
   exact this
 have hr:=hw.has
 have h1:=hr.cpu; have h2:=hr.mem; have h3:=hr.disk; have h4:=hr.pods; have h5:=hr.dev
 have eh : (⟨(g.Like.Has.Cpu.toNat : Int),(g.Like.Has.Mem.toNat : Int),(g.Like.Has.Disk.toNat : Int),(g.Like.Has.Pods.toNat : Int),(g.Like.Has.Dev.toNat : Int)⟩ : T_api_Res) = g.Like.Has:=by
  rw [show (g.Like.Has.Cpu.toNat : Int) = g.Like.Has.Cpu by omega,show (g.Like.Has.Mem.toNat : Int) = g.Like.Has.Mem by omega,show (g.Like.Has.Disk.toNat : Int) = g.Like.Has.Disk by omega,show (g.Like.Has.Pods.toNat : Int) = g.Like.Has.Pods by omega,show (g.Like.Has.Dev.toNat : Int) = g.Like.Has.Dev by omega]
 have s4 : gSteps [hasI g.Like.Has] r3 ⟨⟨#[]⟩,g.Min,g.Max,⟨⟨#[]⟩,⟨#[]⟩,⟨0,0,0,0,0⟩,[],[],false⟩,g.Price,g.Rank⟩ (bump r3 nHas) ⟨⟨#[]⟩,g.Min,g.Max,⟨⟨#[]⟩,⟨#[]⟩,g.Like.Has,[],[],false⟩,g.Price,g.Rank⟩:=.one (fun p ⟨ks,hq⟩ =>by
  have:=gf_has (r:=r3) (x:=⟨⟨#[]⟩,g.Min,g.Max,⟨⟨#[]⟩,⟨#[]⟩,⟨0,0,0,0,0⟩,[],[],false⟩,g.Price,g.Rank⟩) hq rfl f3 (by omega) (by omega) (by omega) (by omega) (by omega)
  rw [eh] at this; exact this) rfl d3
 obtain ⟨r5,s5,l5,d5⟩:=glabs_steps g.Like.Labels (bump r3 nHas) ⟨⟨#[]⟩,g.Min,g.Max,⟨⟨#[]⟩,⟨#[]⟩,g.Like.Has,[],[],false⟩,g.Price,g.Rank⟩ hla d3 (by simp; omega)
 obtain ⟨r6,s6,l6,d6⟩:=gtais_steps g.Like.Taints r5 ⟨⟨#[]⟩,g.Min,g.Max,⟨⟨#[]⟩,⟨#[]⟩,g.Like.Has,[]++g.Like.Labels,[],false⟩,g.Price,g.Rank⟩ hta d5 (by simp; omega)
 exact ⟨r6,s1.append (s2.append (s3.append (s4.append (s5.append s6))))⟩
theorem wsome (w : T_spec_writer) (n : ByteArray) {k : Int} (h : 0≤k∧k≤1125899906842624) (hl : w.s.size + (itsL (numI n k)).length≤900000) : ∃ t,spec_writer_some w n k = some ⟨t⟩∧bytesL t = bytesL w.s++itsL (numI n k):=by
 unfold spec_writer_some numI at *
 by_cases e : k = 0
 ·rw [if_neg (by simp [e]),if_pos e]
  exact ⟨w.s,rfl,by simp [itsL]⟩
 ·rw [if_pos (by simpa using e),if_neg e]
  rw [if_neg e] at hl
  have e1 : itsL [It.li n [numB k.toNat]] = itL (It.li n [numB k.toNat]):=by simp [itsL]
  rw [e1] at hl ⊢
  obtain ⟨t,t1,t2⟩:=wlist (xs:=[.c3 (k.toNat : Int)]) (.cons (.n (by omega)) .nil) w n hl
  rw [show (k.toNat : Int) = k by omega] at t1
  rw [t1]
  exact ⟨t,rfl,t2⟩
theorem rnumber (n : ByteArray) {k : Int} (h : 0≤k∧k≤1125899906842624) (hn : n.size≤1000) : ∃ t,ref07_number n k = some t∧bytesL t = itsL (numI n k):=by
 unfold ref07_number numI
 by_cases e : k = 0
 ·rw [if_pos (by simp [e]),if_pos e]
  exact ⟨_,rfl,rfl⟩
 ·have hz:=numB_size (n:=k.toNat) (by omega)
  have s1 : (⟨#[32,40]⟩ : ByteArray).size = 2:=rfl
  have s2 : (⟨#[32]⟩ : ByteArray).size = 1:=rfl
  have s3 : (⟨#[41]⟩ : ByteArray).size = 1:=rfl
  rw [if_neg (by simpa using e),if_neg e,catB (by omega)]
  simp only [Option.bind_some]
  rw [catB (by simp only [ByteArray.size_append]; omega)]
  simp only [Option.bind_some]
  rw [show k = (k.toNat : Int) by omega,Digits_n (by omega)]
  simp only [Option.bind_some]
  rw [catB (by simp only [ByteArray.size_append]; omega)]
  simp only [Option.bind_some]
  rw [catB (by simp only [ByteArray.size_append]; omega)]
  refine ⟨_,rfl,?_⟩
  have a : atL (numB k.toNat) = bytesL (numB k.toNat):=by unfold atL; rw [if_neg (num_ne _)]
  simp only [b_cat,itsL,itL,valsL,List.flatMap_cons,List.flatMap_nil,List.append_nil,Int.toNat_natCast,a,List.append_assoc,List.cons_append]
  rfl
theorem numI_len (n : ByteArray) {k : Int} (h : 0≤k∧k≤1125899906842624) (hn : n.size≤10) : (itsL (numI n k)).length≤40:=by
 unfold numI
 split
 ·simp [itsL]
 ·have hz:=numB_size (n:=k.toNat) (by omega)
  have:=atL_le (numB k.toNat)
  simp only [itsL,itL,valsL,List.flatMap_cons,List.flatMap_nil,List.length_cons,List.length_append,bytesS,List.length_nil]
  omega
theorem size_len {a b : Int} (ha : 0≤a∧a≤200) (hb : 0≤b∧b≤200) : (itL (It.li nSize [numB a.toNat,numB b.toNat])).length≤60:=by
 have h1:=numB_size (n:=a.toNat) (by omega); have h2:=numB_size (n:=b.toNat) (by omega)
 have:=atL_le (numB a.toNat); have:=atL_le (numB b.toNat); have : nSize.size = 4:=rfl
 simp only [itL,valsL,List.flatMap_cons,List.flatMap_nil,List.length_cons,List.length_append,bytesS,List.length_nil]
 omega
theorem grpI_L (g : T_api_Group) : itsL (grpI g) = itL (It.li nSize [numB g.Min.toNat,numB g.Max.toNat])++(itsL (numI nPrice g.Price)++(itsL (numI nRank g.Rank)++itsL (restI g.Like))):=by
 unfold grpI
 rw [itsL_app,itsL_app,itsL_app]
 simp [itsL]
theorem showG_p {g : T_api_Group} (hR : spec_RightGroup g = some true) (h : GW g) (hn : g.Name.size≤300) : ∃ t,spec_ShowGroup g = some t∧bytesL t = formL nGroup g.Name (grpI g):=by
 have hm:=h.min; have hM:=h.max
 have z1:=size_len (a:=g.Min) (b:=g.Max) (by omega) (by omega)
 have z2:=numI_len nPrice h.price (by decide)
 have hrk : 0≤g.Rank∧g.Rank≤1125899906842624:=by have:=h.rank; omega
 have z3:=numI_len nRank hrk (by decide)
 have z4:=rest_len h.like
 have s1 : (⟨#[40,103,114,111,117,112,32]⟩ : ByteArray).size = 7:=rfl
 have s2 : (⟨#[41]⟩ : ByteArray).size = 1:=rfl
 unfold spec_ShowGroup
 rw [hR]
 simp only [Option.bind_some]
 rw [if_neg (by decide),catB (by omega)]
 simp only [Option.bind_some]
 obtain ⟨v,hv⟩ : ∃ v,v = (⟨#[40,103,114,111,117,112,32]⟩ : ByteArray)++g.Name:=⟨_,rfl⟩
 have hvs : v.size≤307:=by rw [hv,ByteArray.size_append]; omega
 rw [← hv]
 obtain ⟨t1,a1,b1⟩:=wlist (xs:=[.c3 (g.Min.toNat : Int),.c3 (g.Max.toNat : Int)]) (.cons (.n (by omega)) (.cons (.n (by omega)) .nil)) ⟨v⟩ nSize (by show v.size + _≤_; omega)
 have q1 : t1.size = v.size + (itL (It.li nSize [numB g.Min.toNat,numB g.Max.toNat])).length:=by rw [← bytesS,b1,List.length_append,bytesS]
 rw [show (g.Min.toNat : Int) = g.Min by omega,show (g.Max.toNat : Int) = g.Max by omega] at a1
 rw [show (⟨#[115,105,122,101]⟩ : ByteArray) = nSize from rfl,a1]
 simp only [Option.bind_some]
 obtain ⟨t2,a2,b2⟩:=wsome ⟨t1⟩ nPrice h.price (by show t1.size + _≤_; omega)
 have q2 : t2.size = t1.size + (itsL (numI nPrice g.Price)).length:=by rw [← bytesS,b2,List.length_append,bytesS]
 rw [show (⟨#[112,114,105,99,101]⟩ : ByteArray) = nPrice from rfl,a2]
 simp only [Option.bind_some]
 obtain ⟨t3,a3,b3⟩:=wsome ⟨t2⟩ nRank hrk (by show t2.size + _≤_; omega)
 have q3 : t3.size = t2.size + (itsL (numI nRank g.Rank)).length:=by rw [← bytesS,b3,List.length_append,bytesS]
 rw [show (⟨#[114,97,110,107]⟩ : ByteArray) = nRank from rfl,a3]
 simp only [Option.bind_some]
 obtain ⟨t4,a4,b4⟩:=wrest h.like.has (fun a ha =>let ⟨_,_,_,_,q2,q3⟩:=h.like.tai a ha; ⟨q2,q3⟩) ⟨t3⟩ (by show t3.size + _≤_; omega)
 have q4 : t4.size = t3.size + (itsL (restI g.Like)).length:=by rw [← bytesS,b4,List.length_append,bytesS]
 rw [a4]
 simp only [Option.bind_some]
 rw [catB (by omega)]
 refine ⟨_,rfl,?_⟩
 have en : atL g.Name = bytesL g.Name:=by unfold atL; rw [if_neg (word_ne h.name)]
 rw [b_cat,b4,formL,grpI_L,en]
 simp only [b3,b2,b1,hv,b_cat]
 simp
 rfl
theorem showG_r {g : T_api_Group} (hR : ref07_RightGroup g = some true) (h : GW g) (hn : g.Name.size≤300) : ∃ t,ref07_ShowGroup g = some t∧bytesL t = formL nGroup g.Name (grpI g):=by
 have hm:=h.min; have hM:=h.max; have hw:=h.like
 have hnl:=hw.nl; have hnt:=hw.nt
 have z2:=numI_len nPrice h.price (by decide)
 have hrk : 0≤g.Rank∧g.Rank≤1125899906842624:=by have:=h.rank; omega
 have z3:=numI_len nRank hrk (by decide)
 have z4:=rest_len h.like
 have n1:=numB_size (n:=g.Min.toNat) (by omega); have n2:=numB_size (n:=g.Max.toNat) (by omega)
 have s1 : (⟨#[40,103,114,111,117,112,32]⟩ : ByteArray).size = 7:=rfl
 have s2 : (⟨#[41]⟩ : ByteArray).size = 1:=rfl
 have s3 : (⟨#[32,40,115,105,122,101,32]⟩ : ByteArray).size = 7:=rfl
 have s4 : (⟨#[32]⟩ : ByteArray).size = 1:=rfl
 unfold ref07_ShowGroup
 rw [hR]
 simp only [Option.bind_some]
 rw [if_neg (by decide),catB (by omega)]
 simp only [Option.bind_some]
 rw [catB (by simp only [ByteArray.size_append]; omega)]
 simp only [Option.bind_some]
 rw [show g.Min = (g.Min.toNat : Int) by omega,Digits_n (by omega)]
 simp only [Option.bind_some]
 rw [catB (by simp only [ByteArray.size_append]; omega)]
 simp only [Option.bind_some]
 rw [catB (by simp only [ByteArray.size_append]; omega)]
 simp only [Option.bind_some]
 rw [show g.Max = (g.Max.toNat : Int) by omega,Digits_n (by omega)]
 simp only [Option.bind_some]
 rw [catB (by simp only [ByteArray.size_append]; omega)]
 simp only [Option.bind_some]
 rw [catB (by simp only [ByteArray.size_append]; omega)]
 simp only [Option.bind_some]
 obtain ⟨t2,a2,b2⟩:=rnumber nPrice h.price (by decide)
 have q2 : t2.size = (itsL (numI nPrice g.Price)).length:=by rw [← bytesS,b2]
 rw [show (⟨#[112,114,105,99,101]⟩ : ByteArray) = nPrice from rfl,a2]
 simp only [Option.bind_some]
 rw [catB (by simp only [ByteArray.size_append]; omega)]
 simp only [Option.bind_some]
 obtain ⟨t3,a3,b3⟩:=rnumber nRank hrk (by decide)
 have q3 : t3.size = (itsL (numI nRank g.Rank)).length:=by rw [← bytesS,b3]
 rw [show (⟨#[114,97,110,107]⟩ : ByteArray) = nRank from rfl,a3]
 simp only [Option.bind_some]
 rw [catB (by simp only [ByteArray.size_append]; omega)]
 simp only [Option.bind_some]
 obtain ⟨t4,a4,b4⟩:=rrest hw.has (by omega) (fun a ha =>word_ne (hw.lab a ha).1) (by omega) (fun a ha =>let ⟨q1,_,_,_,q2,q3⟩:=hw.tai a ha; ⟨word_ne q1,q2,q3⟩) (by omega)
 have q4 : t4.size = (itsL (restI g.Like)).length:=by rw [← bytesS,b4]
 rw [a4]
 simp only [Option.bind_some]
 rw [catB (by simp only [ByteArray.size_append]; omega)]
 simp only [Option.bind_some]
 rw [catB (by simp only [ByteArray.size_append]; omega)]
 refine ⟨_,rfl,?_⟩
 have en : atL g.Name = bytesL g.Name:=by unfold atL; rw [if_neg (word_ne h.name)]
 have c1 : atL (numB g.Min.toNat) = bytesL (numB g.Min.toNat):=by unfold atL; rw [if_neg (num_ne _)]
 have c2 : atL (numB g.Max.toNat) = bytesL (numB g.Max.toNat):=by unfold atL; rw [if_neg (num_ne _)]
 rw [formL,grpI_L,en]
 simp only [b_cat,b4,b3,b2,itL,valsL,List.flatMap_cons,List.flatMap_nil,List.append_nil,c1,c2]
 simp
 rfl
theorem grp_ok {g : T_api_Group} (h : GW g) : ∀ i,i ∈ grpI g→i.ok:=by
 have hm:=h.min; have hM:=h.max; have hp:=h.price; have hk:=h.rank
 have nums : ∀ (n : ByteArray) (k : Int),wordL (bytesL n) = true→0≤k∧k≤1125899906842624→∀ i,i ∈ numI n k→i.ok:=by
  intro n k hn hk i hi
  unfold numI at hi
  split at hi
  ·cases hi
  ·rw [List.mem_singleton] at hi
   subst hi
   refine ⟨hn,fun v hv =>.inr ?_⟩
   rw [List.mem_singleton] at hv
   subst hv
   exact numB_word (by omega)
 intro i hi
 unfold grpI at hi
 rcases List.mem_append.1 hi with hi | hi
 ·rw [List.mem_singleton] at hi
  subst hi
  refine ⟨ascii_word (by decide) (by decide) (by decide),fun v hv =>.inr ?_⟩
  simp only [List.mem_cons,List.not_mem_nil,or_false] at hv
  rcases hv with rfl | rfl
  ·exact numB_word (by omega)
  ·exact numB_word (by omega)
 ·rcases List.mem_append.1 hi with hi | hi
  ·exact nums nPrice _ (ascii_word (by decide) (by decide) (by decide)) hp i hi
  ·rcases List.mem_append.1 hi with hi | hi
   ·exact nums nRank _ (ascii_word (by decide) (by decide) (by decide)) (by omega) i hi
   ·exact rest_ok h.like i hi
theorem grp_n {g : T_api_Group} (h : GW g) : itsN (grpI g)≤300:=by
 have:=rest_n h.like
 unfold grpI numI
 rw [itsN_app,itsN_app,itsN_app]
 have a : itsN (if g.Price = 0 then [] else [It.li nPrice [numB g.Price.toNat]])≤3:=by split<;>simp [itsN,It.n]
 have b : itsN (if g.Rank = 0 then [] else [It.li nRank [numB g.Rank.toNat]])≤3:=by split<;>simp [itsN,It.n]
 have c : itsN [It.li nSize [numB g.Min.toNat,numB g.Max.toNat]] = 4:=rfl
 omega
theorem SpecGroups_true (g : T_api_Group) {p : Prop} (_ : p) : law07_SpecGroups g = some true:=by
 unfold law07_SpecGroups
 obtain ⟨b,h1,h2⟩:=ref07_LightMachine_eq g.Like
 rw [h1]
 simp only [Option.bind_some]
 rw [known07_true]
 cases b with
 | false =>rfl
 | true =>
  by_cases hn : g.Name.size≤300
  case neg =>rw [if_pos (by simp; omega)]; rfl
  have hm:=h2 rfl
  have e1:=grp_p hm hn
  have e2:=grp_r hm hn
  rw [if_neg (by simp; omega)]
  cases hb : grpB g with
  | false =>
   rw [hb] at e1 e2
   have s1 : spec_ShowGroup g = some ⟨#[]⟩:=by unfold spec_ShowGroup; rw [e1]; rfl
   have s2 : ref07_ShowGroup g = some ⟨#[]⟩:=by unfold ref07_ShowGroup; rw [e2]; rfl
   rw [s1,e1,e2,s2]
   simp only [Option.bind_some]
   rw [show V.seq (⟨#[]⟩ : ByteArray) (⟨#[]⟩ : ByteArray) = true from (seq_nil _).2 rfl]
   rfl
  | true =>
   rw [hb] at e1 e2
   have h:=grp_GW hm hn hb
   obtain ⟨t,t1,t2⟩:=showG_p e1 h hn
   obtain ⟨u,u1,u2⟩:=showG_r e2 h hn
   have htu : t = u:=bytesL_inj (by rw [t2,u2])
   subst htu
   have z4:=rest_len h.like
   have hts : t.size≤65536:=by
    have hmn:=h.min; have hmx:=h.max
    have z1:=size_len (a:=g.Min) (b:=g.Max) (by omega) (by omega)
    have z2:=numI_len nPrice h.price (by decide)
    have z3:=numI_len nRank (k:=g.Rank) (by have:=h.rank; omega) (by decide)
    have:=atL_le g.Name; have : nGroup.size = 5:=rfl
    rw [← bytesS,t2]
    simp only [formL,grpI_L,List.length_cons,List.length_append,bytesS,List.length_nil]
    omega
   have hN:=grp_n h
   obtain ⟨φ,p1,p2⟩:=form_parse hts t2 (ascii_word (by decide) (by decide) (by decide)) (.inr h.name) (grp_ok h) (by omega)
   rw [form_strip] at p1
   have hφ : φ.flat.length≤1000000:=by
    have e:=congrArg List.length (Fo.strip_flat φ (formF nGroup g.Name (grpI g)) (by rw [p1,form_strip]))
    rw [List.length_map,List.length_map] at e
    rw [e]
    have : (formF nGroup g.Name (grpI g)).flat.length = itsN (grpI g) + 3:=by unfold formF; simp [Fo.flat,its_flat]
    omega
   have hp : law07_parsed t = some φ.flat:=by unfold law07_parsed; rw [p2]; rfl
   have hread : spec_Group φ.flat 0 = some (g,0,0):=by
    obtain ⟨r',hst⟩:=grp_steps h (l:=φ.flat)
    unfold spec_Group spec_number spec_common spec_pair
    simp only [Option.bind_some]
    have hf:=gform p1 hφ (by decide) (word_ne h.name) hst
    rw [show (⟨#[103,114,111,117,112]⟩ : ByteArray) = nGroup from rfl,hf]
    simp only [Option.bind_some]
    rw [if_neg (by decide)]
    have eg : (⟨g.Name,g.Min,g.Max,⟨⟨#[]⟩,g.Name,g.Like.Has,g.Like.Labels,g.Like.Taints,true⟩,g.Price,g.Rank⟩ : T_api_Group) = g:=by
     have a1:=h.lname; have a2:=h.lgroup; have a3:=h.ready
     obtain ⟨n,mi,ma,⟨ln,lg,lh,ll,lt,lr⟩,pr,rk⟩:=g
     simp only at a1 a2 a3
     subst a1; subst a2; subst a3
     rfl
    rw [eg,e1]
    rfl
   rw [t1,e1,e2]
   simp only [Option.bind_some]
   rw [if_neg (by decide),u1]
   simp only [Option.bind_some]
   rw [show V.seq t t = true by rw [seq_eq]; simp]
   simp only [Bool.not_true,Bool.false_eq_true,if_false]
   rw [hp]
   simp only [Option.bind_some]
   rw [hread]
   simp only [Option.bind_some]
   have hs : ref07_SameGroup g g = some true:=by
    unfold ref07_SameGroup
    rw [seq_eq,SameM hm]
    simp
   rw [if_pos (by decide),hs]
   rfl
end Go.Proofs.YtkondhigbbgidaaGreat.M

/-
  Printed by a program of this session out of the loaded functions: models and their proofs. Own text.
-/
import Derived.Test.YtbgfffdnaijmhaaGreatWNF1
namespace Go.Proofs.YtbgfffdnaijmhaaGreat.M
open Go Go.Proofs Go.Proofs.YtbgfffdnaijmhaaGreat.V
open Go.IntKind (i64)
set_option linter.unusedVariables false
set_option maxRecDepth 20000
set_option maxHeartbeats 40000000
/-! trireme/sched.Step -/
def sched_Step.l1 (ms : List T_api_Machine) : List Int → Nat → (List T_api_Bound) → (List T_api_Move) → Option (List T_api_Bound × List T_api_Move)
 | [], k, out2, moves2 => some (out2, moves2)
 | x :: l2, k, out2, moves2 =>
  (V.gl out2 x).bind fun x2 =>
  (sched_Best ms out2 x2.Pod).bind fun r2 =>
  if (!(V.seq r2 (⟨#[]⟩ : ByteArray))) = true then
   (V.gl out2 x).bind fun x3 =>
   (V.ap 32 moves2 [(⟨x2.Pod.Name, r2⟩ : T_api_Move)]).bind fun moves4 =>
   sched_Step.l1 ms l2 (k + 1) (List.set out2 (x).toNat (⟨x3.Pod, r2⟩ : T_api_Bound)) moves4
  else
   sched_Step.l1 ms l2 (k + 1) out2 moves2
def sched_Step (ms : List T_api_Machine) (bs : List T_api_Bound) : Option (List T_api_Bound × List T_api_Move) :=
 (V.ap 288 ([] : List T_api_Bound) bs).bind fun l =>
 (sched_Order bs).bind fun r =>
 (sched_Step.l1 ms r 0 l ([] : List T_api_Move)).bind fun j =>
 some (j.1, j.2)
theorem K0 (ms : List T_api_Machine) (bs : List T_api_Bound) : ∀ r : List T_api_Bound × List T_api_Move, sched_Step ms bs = some r → VC Tryz.prog 64 [L68 ms, L64 bs] [] fun zx zH => ∃ (ob0 : Option Nat) (cap0 : Nat) (ob1 : Option Nat) (cap1 : Nat), zx = .tup [Z64 ob0 r.1 cap0, Z201 ob1 r.2 cap1] ∧ zH = [Q64 ob0 cap0 r.1, Q201 ob1 cap1 r.2] := by
 refine Cj [.tmp 4,.tmp 5] Tryz.func64 R R R fun r hm=>?_
 unfold sched_Step at hm
 refine Af tbk [] R R<|Ae<|Aa R R (Ah R)<|A4 (A9 64)<|Bd hm fun l h2 hm=>Ab R R<|Bp 0 T_api_Bound.vv (l:=([] : List T_api_Bound)) (l2:=bs) ap40 R R (sT_list T_api_Bound.vv el40 R R) h2 fun ob cap=>Aa R R (Ai R)<|Ac<|Af tbk [] R R<|Ag<|Ae<|Aa R R (Ah R)<|Ab R R<|Ay hm 0 R fn127 R (K114 _) fun r hm=>Aa R R (A5 (VV.int .i64) R Cg)<|Aa R R (Ah R)<|Ac<|Bx 15 R fun h8=>Cb hm (fun j (gg:Option Nat × Option Nat × Nat)=>[(6,Z64 gg.1 j.1 cap),(7,Z201 gg.2.1 j.2 gg.2.2)]) (fun j (gg:Option Nat × Option Nat × Nat)=>[Q201 gg.2.1 gg.2.2 j.2,Q64 gg.1 cap j.1]) (fun o hm=>?_) fun j=>Pq fun ob6=>Pq fun ob7 cap4 hm=> ?_
 ·refine Ca (r) (fun zl zk (zs:List T_api_Bound × List T_api_Move)=>sched_Step.l1 ms zl zk zs.1 zs.2) (fun k zs (zg:Option Nat × Option Nat × Nat)=>[(0,L68 ms),(6,Z64 zg.1 zs.1 cap),(7,Z201 zg.2.1 zs.2 zg.2.2),(15,L3 r),(16,Iw (r.length : Int)),(17,Iw (k : Int))]) (fun _ zs (zg:Option Nat × Option Nat × Nat)=>[Q201 zg.2.1 zg.2.2 zs.2,Q64 zg.1 cap zs.1]) (l,([] : List T_api_Move)) (ob,none,0) hm (Br (A9 201) (Ak [0,0] R R)) (fun k=>Pq fun out2 moves2=>Pq fun ob4=>Pq fun ob5 cap3 hk hm=>?_) fun k x l2=>Pq fun out2 moves2=>Pq fun ob4=>Pq fun ob5 cap3 h9 hm=> ?_
  ·rw [sched_Step.l1] at hm
   exact Af tbk [] R R<|Ag<|Bm R (k_end hk)<|A8<|As (ob4,ob5,cap3) hm (Ak [0,0] R R)
  rw [sched_Step.l1] at hm
  refine Af tbk [] R R<|Ag<|Bg R (k_lt h9)<|An<|Ag<|Aw<|Ae<|Aa R R (B3 (VV.int .i64) R R el27 h9)<|Ad tbk [] 2 R R<|Ac<|Ae<|Ad tbk [] 2 R R<|Bd hm fun x2 h10 hm=>Cn 1 R (gl_pos T_api_Bound.vv h10) fun b h11=> ?_
  subst h11
  exact Aa R R (Ct T_api_Bound.vv R R el40 h10)<|Aa R R (Dn R fa64_0)<|Aa R R (Ce (i:=1) (y:=T_api_Bound.vv x2) R R R (gl_map _ (gl_some h10).2) ld29 R)<|Ab R R<|Au z29 fun b2=>Ab R R<|Aj (i:=0) R R R ld29 R R R<|Ac<|Ae<|Ad tbk [0] 3 R R<|Ab R R<|Df hm (Av 2 [(6,L64 out2),(21,L64 out2),(27,L64 out2)] R ⟨⟨_,R,.here _ R⟩,⟨_,R,.here _ R⟩,⟨_,R,.here _ R⟩,trivial⟩ (FzH.refl _)) [.same,.same,.same] R fn128 R (K167 _ _ _) (fun _=>R) (fun _=>R) fun r2 hm=>Aa R R (Ai R)<|Ac<|Af tbk [] R R<|Aq hm R (fun h14 hm=>Ae<|Ad tbk [] 3 R R<|Bd hm fun x3 h15 hm=>Aa R R (Ct T_api_Bound.vv R R el40 h15)<|Aa R R (Dn R fa64_1)<|Ab R R<|Ed 2 (f:=T_api_Bound.vv) (l:=out2) (q:=x3) (q':=(⟨x3.Pod,r2⟩ : T_api_Bound)) R R R R h15 ld9 R R R R ⟨R,List.all_eq_true.1 R⟩<|A4 (C0 6 (List.map T_api_Bound.vv (List.set out2 (x).toNat (⟨x3.Pod,r2⟩ : T_api_Bound))).length R (len_set _ _ _ _))<|A4 (C0 21 (List.map T_api_Bound.vv (List.set out2 (x).toNat (⟨x3.Pod,r2⟩ : T_api_Bound))).length R (len_set _ _ _ _))<|A4 (C0 27 (List.map T_api_Bound.vv (List.set out2 (x).toNat (⟨x3.Pod,r2⟩ : T_api_Bound))).length R (len_set _ _ _ _))<|A4 (C0 32 (List.map T_api_Bound.vv (List.set out2 (x).toNat (⟨x3.Pod,r2⟩ : T_api_Bound))).length R (len_set _ _ _ _))<|Ac<|Bz<|Ad tbk [0] 4 R R<|Aa R R (Bl pl201 R R)<|Ab R R<|A6 ap122 R R R R R fun b3=>Bd hm fun moves4 h17 hm=>Ab R R<|Bp 2 T_api_Move.vv (l:=moves2) (l2:=[(⟨x2.Pod.Name,r2⟩ : T_api_Move)]) ap122 R R (sT_row 0 T_api_Move.vv el122 R R) h17 fun ob8 cap5=>Aa R R (Ai R)<|Ac<|Ba tbk [] R R<|Ap ((List.set out2 (x).toNat (⟨x3.Pod,r2⟩ : T_api_Bound)),moves4) ((some b),ob8,cap5) hm (Bb [2,2] R ⟨R,R,R,R,R,congrArg some (k_next h9 h8),trivial⟩)) fun h14 hm=>An<|Ba tbk [] R R<|Ap (out2,moves2) ((some b),ob5,cap3) hm (Bb [1,1] R ⟨R,R,R,R,R,congrArg some (k_next h9 h8),trivial⟩)
 refine Af tbk [] R R<|?_
 obtain rfl:=Option.some.inj hm
 exact Bs ⟨.inl R,_,.cons (.tmp _ _ R) (.cons (.tmp _ _ R) .nil),[1,0],_,R,ob6,cap,ob7,cap4,R,R⟩

/-! (*trireme/world.World).Pass -/
def world_World_Pass_x (w : T_world_World) (c : T_cloud_Cloud) (pools : List T_cloud_pool) (insts : List T_cloud_inst) : Option (T_world_World × T_cloud_Cloud × List T_cloud_inst) :=
 (world_World_there_x w c).bind fun r =>
 (cloud_Cloud_Tick c pools insts).bind fun r2 =>
 (world_World_leave w r2.1 pools r2.2).bind fun r3 =>
 (world_World_register r3.1 r3.2 pools r2.2).bind fun r4 =>
 (sched_Step r4.1.ms r4.1.bs).bind fun r5 =>
 some ((⟨(), r4.1.groups, r4.1.budgets, r4.1.ms, r5.1, r4.1.held⟩ : T_world_World), r4.2, r2.2)
theorem K1 (A0 A1 : Nat) (w : T_world_World) (c : T_cloud_Cloud) (pools : List T_cloud_pool) (insts : List T_cloud_inst) (b : Nat) (ob : Option Nat) (cap : Nat) (ob2 : Option Nat) (cap2 : Nat) (ob3 : Option Nat) (cap3 : Nat) (ob4 : Option Nat) (cap4 : Nat) (b2 : Nat) (b3 : Nat) (ob5 : Option Nat) (cap5 : Nat) (ob6 : Option Nat) (cap6 : Nat) (bs : List Nat) (bs2 : List Nat) : ∀ r : T_world_World × T_cloud_Cloud × List T_cloud_inst, world_World_Pass_x w c pools insts = some r → VC Tryz.prog 11 [.ptr b 0] [.box b 43 [.ptr b3 0, Z139 ob w.groups cap, Z103 ob2 w.budgets cap2, Z68 ob3 w.ms cap3, Z64 ob4 w.bs cap4, .map b2], Q139 ob cap w.groups, Q103 ob2 cap2 w.budgets, Q68 ob3 cap3 w.ms, Q64 ob4 cap4 w.bs, .map b2 (List.map (pf VV.str (VV.int .i64)) w.held), .box b3 149 [Z140 A0 A1 ob5 c.pools cap5, Z152 A0 A1 ob6 c.insts cap6, Iw c.delay, Iw c.now, Iw c.calls], Q140 A0 A1 ob5 cap5 c.pools, Q152 A0 A1 ob6 cap6 c.insts, .ar A0 144 bs (List.map T_cloud_pool.cells pools), .ar A1 157 bs2 (List.map (T_cloud_inst.cells A0 A1) insts)] fun zx zH => ∃ (ob0_1 : Option Nat) (cap0_1 : Nat) (ob0_2 : Option Nat) (cap0_2 : Nat) (ob0_3 : Option Nat) (cap0_3 : Nat) (ob0_4 : Option Nat) (cap0_4 : Nat) (b0_5 : Nat) (ob1_0 : Option Nat) (cap1_0 : Nat) (ob1_1 : Option Nat) (cap1_1 : Nat) (bs_3 : List Nat), zx = .tup [] ∧ zH = [.box b 43 [.ptr b3 0, Z139 ob0_1 r.1.groups cap0_1, Z103 ob0_2 r.1.budgets cap0_2, Z68 ob0_3 r.1.ms cap0_3, Z64 ob0_4 r.1.bs cap0_4, .map b0_5], Q139 ob0_1 cap0_1 r.1.groups, Q103 ob0_2 cap0_2 r.1.budgets, Q68 ob0_3 cap0_3 r.1.ms, Q64 ob0_4 cap0_4 r.1.bs, .map b0_5 (List.map (pf VV.str (VV.int .i64)) r.1.held), .box b3 149 [Z140 A0 A1 ob1_0 r.2.1.pools cap1_0, Z152 A0 A1 ob1_1 r.2.1.insts cap1_1, Iw r.2.1.delay, Iw r.2.1.now, Iw r.2.1.calls], Q140 A0 A1 ob1_0 cap1_0 r.2.1.pools, Q152 A0 A1 ob1_1 cap1_1 r.2.1.insts, .ar A0 144 bs (List.map T_cloud_pool.cells pools), .ar A1 157 bs_3 (List.map (T_cloud_inst.cells A0 A1) r.2.2)] := by
 refine Cj [] D2 R R R fun r hm=>?_
 unfold world_World_Pass_x at hm
 refine Ag<|Ae<|Aa R R (Ah R)<|Bd hm fun r h1 hm=>Ab R R<|Ao 9 R fn60 R (K91 A0 A1 w c b ob cap ob2 cap2 ob3 cap3 ob4 cap4 b2 b3 ob5 cap5 ob6 cap6 r h1) fun _ _ h16=> ?_
 obtain ⟨rfl,rfl⟩:=h16
 refine Aa R R (B6 R)<|Ac<|Bm R (congrArg not (Option.some.inj (show some true = some r from h1)).symm)<|An<|Ae<|Ad tbk [0] 4 R R<|Bd hm fun r2 h2 hm=>A4 (Bh [6,6,6,6,6,0,0,0,0,0,0] R)<|Ab R R<|Ao 5 R fn61 R (K108 A0 A1 c pools insts b3 ob5 cap5 ob6 cap6 bs bs2 r2 h2) fun _ _ h15=> ?_
 obtain ⟨ob7,cap7,ob8,cap8,bs3,rfl,rfl⟩:=h15
 refine Ac<|Ae<|Aa R R (Ah R)<|Bd hm fun r3 h3 hm=>A4 (Bh [5,5,5,5,5,5,0,0,0,0,0] R)<|Ab R R<|Ao 11 R fn62 R (K111 A0 A1 w r2.1 pools r2.2 b ob cap ob2 cap2 ob3 cap3 ob4 cap4 b2 b3 ob7 cap7 ob8 cap8 bs bs3 r3 h3) fun _ _ h14=> ?_
 obtain ⟨ob9,cap9,ob10,cap10,ob11,cap11,ob12,cap12,b4,ob13,cap13,ob14,cap14,rfl,rfl⟩:=h14
 refine Ac<|Ae<|Aa R R (Ah R)<|Bd hm fun r4 h4 hm=>Ab R R<|Ao 11 R fn63 R (K78 A0 A1 r3.1 r3.2 pools r2.2 b ob9 cap9 ob10 cap10 ob11 cap11 ob12 cap12 b4 b3 ob13 cap13 ob14 cap14 bs bs3 r4 h4) fun _ _ h13=> ?_
 obtain ⟨ob15,cap15,ob16,cap16,ob17,cap17,ob18,cap18,b5,ob19,cap19,ob20,cap20,rfl,rfl⟩:=h13
 refine Ac<|Bq (Bh [0,2,2,0,0,0,0,0,0,0,0] R)<|Bn 3 mixed<|Bf tbk [0,1,2,3,5,6,7] [] (by kernel_rfl) R R R<|?_
 refine Bu [4,8] (by kernel_rfl) ⟨?_,?_,trivial⟩
 ·refine Am R R R<|B5 (Bw (i:=0) R R ld39 R)<|Al 8 (by kernel_rfl)<|Am R R R<|B5 (Bw (i:=0) R R ld40 R)<|Al 9 (by kernel_rfl)<|Bd hm fun r5 h5 hm=>Am R R R<|D9 [64,68] (LS.trans (LS.freezeE [64,68] (H':=[.box b 43 [.ptr b3 0,Z139 ob15 r4.1.groups cap15,Z103 ob16 r4.1.budgets cap16,L68 r4.1.ms,Z64 ob18 r4.1.bs cap18,.map b5],Q64 ob18 cap18 r4.1.bs]) 1 [(19,L68 r4.1.ms)] R R ⟨⟨_,R,.here _ R⟩,trivial⟩ (by exact ⟨.box _ _ _ _ ⟨.same _,.same _,.same _,.here _ R,.same _,.same _,trivial⟩,.same _,trivial⟩)) (LS.freezeE [64,68] (H':=[.box b 43 [.ptr b3 0,Z139 ob15 r4.1.groups cap15,Z103 ob16 r4.1.budgets cap16,L68 r4.1.ms,L64 r4.1.bs,.map b5]]) 1 [(23,L64 r4.1.bs)] R R ⟨⟨_,R,.here _ R⟩,trivial⟩ (by exact ⟨.box _ _ _ _ ⟨.same _,.same _,.same _,.same _,.here _ R,.same _,trivial⟩,trivial⟩))) [.same,.same] R fn64 R (K0 r4.1.ms r4.1.bs r5 h5) fun _ _ h8=> ?_
  obtain ⟨ob21,cap21,ob22,cap22,rfl,rfl⟩:=h8
  refine ⟨by simp [noT,noTs],by simp [noH,noTs_map no201_64_68,noTs_map no64_64_68],?_⟩
  refine Bf tbk [10,11,12,13,14] [] (by kernel_rfl) R R R<|Al 15 (by kernel_rfl)<|Am R R R<|Aj (i:=2) R R R ld40 R R R<|Az (by kernel_rfl)<|?_
  obtain rfl:=Option.some.inj hm
  exact ⟨.inr R,_,.nil,[2,4,4,2,0,2,2,2,2,2,2],_,R,ob15,cap15,ob16,cap16,ob17,cap17,ob21,cap21,b5,ob19,cap19,ob20,cap20,bs3,R,R⟩
 ·refine Am R R R<|B5 (Bw (i:=0) R R ld40 R)<|Al 4 (by kernel_rfl)<|Am R R R<|B5 (Bw (i:=0) R R ld39 R)<|Al 9 (by kernel_rfl)<|Bd hm fun r6 h9 hm=>Am R R R<|D9 [64,68] (LS.trans (LS.freezeE [64,68] (H':=[.box b 43 [.ptr b3 0,Z139 ob15 r4.1.groups cap15,Z103 ob16 r4.1.budgets cap16,L68 r4.1.ms,Z64 ob18 r4.1.bs cap18,.map b5],Q64 ob18 cap18 r4.1.bs]) 1 [(19,L68 r4.1.ms)] R R ⟨⟨_,R,.here _ R⟩,trivial⟩ (by exact ⟨.box _ _ _ _ ⟨.same _,.same _,.same _,.here _ R,.same _,.same _,trivial⟩,.same _,trivial⟩)) (LS.freezeE [64,68] (H':=[.box b 43 [.ptr b3 0,Z139 ob15 r4.1.groups cap15,Z103 ob16 r4.1.budgets cap16,L68 r4.1.ms,L64 r4.1.bs,.map b5]]) 1 [(23,L64 r4.1.bs)] R R ⟨⟨_,R,.here _ R⟩,trivial⟩ (by exact ⟨.box _ _ _ _ ⟨.same _,.same _,.same _,.same _,.here _ R,.same _,trivial⟩,trivial⟩))) [.same,.same] R fn64 R (K0 r4.1.ms r4.1.bs r6 h9) fun _ _ h12=> ?_
  obtain ⟨ob23,cap23,ob24,cap24,rfl,rfl⟩:=h12
  refine ⟨by simp [noT,noTs],by simp [noH,noTs_map no201_64_68,noTs_map no64_64_68],?_⟩
  refine Bf tbk [10,11,12,13,14] [] (by kernel_rfl) R R R<|Al 15 (by kernel_rfl)<|Am R R R<|Aj (i:=2) R R R ld40 R R R<|Az (by kernel_rfl)<|?_
  obtain rfl:=Option.some.inj hm
  exact ⟨.inr R,_,.nil,[2,4,4,2,0,2,2,2,2,2,2],_,R,ob15,cap15,ob16,cap16,ob17,cap17,ob23,cap23,b5,ob19,cap19,ob20,cap20,bs3,R,R⟩

/-! (*trireme/world.World).Bounds -/
def world_World_Bounds_x.l1 (w : T_world_World) : Nat → (List T_api_Bound) → Int → Option (List T_api_Bound)
 | 0, _, _ => none
 | n + 1, l2, v2 =>
  if (decide (v2 < (w.bs.length : Int))) = true then
   (V.gl w.bs v2).bind fun x =>
   (world_pod x.Pod).bind fun r2 =>
   (V.ap 288 l2 [(⟨r2, x.On⟩ : T_api_Bound)]).bind fun l5 =>
   world_World_Bounds_x.l1 w n l5 (i64.wrap (v2 + 1))
  else
   some l2
def world_World_Bounds_x (w : T_world_World) (c : T_cloud_Cloud) : Option (List T_api_Bound × T_world_World) :=
 (world_World_there_x w c).bind fun r =>
 (world_World_Bounds_x.l1 w FU ([] : List T_api_Bound) (0 : Int)).bind fun l32 =>
 some (l32, w)
theorem K2 (A0 A1 : Nat) (w : T_world_World) (c : T_cloud_Cloud) (b : Nat) (ob : Option Nat) (cap : Nat) (ob2 : Option Nat) (cap2 : Nat) (ob3 : Option Nat) (cap3 : Nat) (ob4 : Option Nat) (cap4 : Nat) (b2 : Nat) (b3 : Nat) (ob5 : Option Nat) (cap5 : Nat) (ob6 : Option Nat) (cap6 : Nat) : ∀ r : List T_api_Bound × T_world_World, world_World_Bounds_x w c = some r → VC Tryz.prog 20 [.ptr b 0] [.box b 43 [.ptr b3 0, Z139 ob w.groups cap, Z103 ob2 w.budgets cap2, Z68 ob3 w.ms cap3, Z64 ob4 w.bs cap4, .map b2], Q139 ob cap w.groups, Q103 ob2 cap2 w.budgets, Q68 ob3 cap3 w.ms, Q64 ob4 cap4 w.bs, .map b2 (List.map (pf VV.str (VV.int .i64)) w.held), .box b3 149 [Z140 A0 A1 ob5 c.pools cap5, Z152 A0 A1 ob6 c.insts cap6, Iw c.delay, Iw c.now, Iw c.calls], Q140 A0 A1 ob5 cap5 c.pools, Q152 A0 A1 ob6 cap6 c.insts] fun zx zH => ∃ (ob0 : Option Nat) (cap0 : Nat) (ob0_1 : Option Nat) (cap0_1 : Nat) (ob0_2 : Option Nat) (cap0_2 : Nat) (ob0_3 : Option Nat) (cap0_3 : Nat) (ob0_4 : Option Nat) (cap0_4 : Nat) (b0_5 : Nat), zx = Z64 ob0 r.1 cap0 ∧ zH = [Q64 ob0 cap0 r.1, .box b 43 [.ptr b3 0, Z139 ob0_1 r.2.groups cap0_1, Z103 ob0_2 r.2.budgets cap0_2, Z68 ob0_3 r.2.ms cap0_3, Z64 ob0_4 r.2.bs cap0_4, .map b0_5], Q139 ob0_1 cap0_1 r.2.groups, Q103 ob0_2 cap0_2 r.2.budgets, Q68 ob0_3 cap0_3 r.2.ms, Q64 ob0_4 cap0_4 r.2.bs, .map b0_5 (List.map (pf VV.str (VV.int .i64)) r.2.held), .box b3 149 [Z140 A0 A1 ob5 c.pools cap5, Z152 A0 A1 ob6 c.insts cap6, Iw c.delay, Iw c.now, Iw c.calls], Q140 A0 A1 ob5 cap5 c.pools, Q152 A0 A1 ob6 cap6 c.insts] := by
 refine Cj [.tmp 2] Tryz.func20 R R R fun r hm=>?_
 unfold world_World_Bounds_x at hm
 refine Af tbk [] R R<|Ag<|Ae<|Aa R R (Ah R)<|Bd hm fun r h1 hm=>Ab R R<|Ao 9 R fn60 R (K91 A0 A1 w c b ob cap ob2 cap2 ob3 cap3 ob4 cap4 b2 b3 ob5 cap5 ob6 cap6 r h1) fun _ _ h14=> ?_
 obtain ⟨rfl,rfl⟩:=h14
 refine Aa R R (B6 R)<|Ac<|Bm R (congrArg not (Option.some.inj (show some true = some r from h1)).symm)<|An<|Af tbk [] R R<|Ag<|Ae<|Ad tbk [0] 4 R R<|Aa R R (C1 T_api_Bound.vv R B1)<|Aa R R (Ah R)<|Ac<|Cb hm (fun l32 (gg:Option Nat × Nat × Option Nat)=>[(3,Z64 gg.1 l32 gg.2.1)]) (fun l32 (gg:Option Nat × Nat × Option Nat)=>[Q64 gg.1 gg.2.1 l32,.box b 43 [.ptr b3 0,Z139 ob w.groups cap,Z103 ob2 w.budgets cap2,Z68 ob3 w.ms cap3,Z64 gg.2.2 w.bs cap4,.map b2],Q139 ob cap w.groups,Q103 ob2 cap2 w.budgets,Q68 ob3 cap3 w.ms,Q64 gg.2.2 cap4 w.bs,.map b2 (List.map (pf VV.str (VV.int .i64)) w.held),.box b3 149 [Z140 A0 A1 ob5 c.pools cap5,Z152 A0 A1 ob6 c.insts cap6,Iw c.delay,Iw c.now,Iw c.calls],Q140 A0 A1 ob5 cap5 c.pools,Q152 A0 A1 ob6 cap6 c.insts]) (fun o hm=>?_) fun l32=>Pq fun ob11=>Pq fun cap9 ob12 hm=> ?_
 ·refine Ck (fun zn (zs:List T_api_Bound × Int)=>world_World_Bounds_x.l1 w zn zs.1 zs.2) (fun zs (zg:Option Nat × Nat × Option Nat)=>[(3,Z64 zg.1 zs.1 zg.2.1),(12,Z64 zg.2.2 w.bs cap4),(13,Iw (w.bs.length : Int)),(14,Iw zs.2)]) (fun zs (zg:Option Nat × Nat × Option Nat)=>[Q64 zg.1 zg.2.1 zs.1,.box b 43 [.ptr b3 0,Z139 ob w.groups cap,Z103 ob2 w.budgets cap2,Z68 ob3 w.ms cap3,Z64 zg.2.2 w.bs cap4,.map b2],Q139 ob cap w.groups,Q103 ob2 cap2 w.budgets,Q68 ob3 cap3 w.ms,Q64 zg.2.2 cap4 w.bs,.map b2 (List.map (pf VV.str (VV.int .i64)) w.held),.box b3 149 [Z140 A0 A1 ob5 c.pools cap5,Z152 A0 A1 ob6 c.insts cap6,Iw c.delay,Iw c.now,Iw c.calls],Q140 A0 A1 ob5 cap5 c.pools,Q152 A0 A1 ob6 cap6 c.insts]) (([] : List T_api_Bound),(0 : Int)) (none,0,ob4) (fun _=>R) hm (Br (A9 64) (Ak [0,0,0,0,0,0,0,0,0,0] (by kernel_rfl) (by kernel_rfl))) fun n=>Pq fun l2 v2=>Pq fun ob9=>Pq fun cap8 ob10 hm=> ?_
  rw [world_World_Bounds_x.l1] at hm
  refine Af tbk [] R R<|Ag<|Aq hm R (fun h6 hm=>?_) fun h6 hm=> ?_
  ·refine An<|Ag<|Aw<|Ae<|Bd hm fun x h7 hm=>Cn 5 R (gl_pos T_api_Bound.vv h7) fun b4 h8=> ?_
   subst h8
   exact Aa R R (Ct T_api_Bound.vv R R el40 h7)<|Aa R R (Ce (i:=5) (y:=T_api_Bound.vv x) R R R (gl_map _ (gl_some h7).2) ld64 R)<|Ab R R<|Au z64 fun b5=>Ab R R<|Aj (i:=0) R R R ld64 R R R<|Ac<|Bq (Bh [1,0,0,0,0,0,0,0,0,0,0] R)<|Bn 1 mixed<|Bf tbk [0,1,2,4,5] [0,0] (by kernel_rfl) R R R<|Al 3 (by kernel_rfl)<|Am R R R<|Ay hm 0 R fn67 R (K102 _) fun r2 hm=>Bc 6 R R R (by kernel_rfl) (Bl pl64 R R)<|Al 7 (by kernel_rfl)<|Am R R R<|A6 ap40 R R R R R fun b6=>Al 8 (by kernel_rfl)<|Bd hm fun l5 h12 hm=>Am R R R<|Bp 1 T_api_Bound.vv (l:=l2) (l2:=[(⟨r2,x.On⟩ : T_api_Bound)]) ap40 R R (sT_row 0 T_api_Bound.vv el40 R R) h12 fun ob13 cap10=>Bc 9 R R R (by kernel_rfl) (Ai R)<|Az (by kernel_rfl)<|Ba tbk [] R R<|Ap (l5,(IntKind.i64.wrap (v2 + (1 : Int)))) (ob13,cap10,(some b4)) hm (Ak [1,2,2,2,2,2,2,2,2,2] (by kernel_rfl) (by kernel_rfl))
  exact A8<|As (ob9,cap8,ob10) hm (Ak [0,0,0,0,0,0,0,0,0,0] (by kernel_rfl) (by kernel_rfl))
 refine Af tbk [] R R<|?_
 obtain rfl:=Option.some.inj hm
 exact Bs ⟨.inl R,_,.cons (.tmp _ _ R) .nil,[0,0,0,0,0,0,0,0,0,0],_,R,ob11,cap9,ob,cap,ob2,cap2,ob3,cap3,ob12,cap4,b2,R,R⟩

/-! (*trireme/cloud.Cloud).pool -/
def cloud_Cloud_pool.l1 (c : T_cloud_Cloud) (name : ByteArray) (pools : List T_cloud_pool) : Nat → Int → Option (Out (Nat × T_cloud_Cloud) Unit)
 | 0, _ => none
 | n + 1, v2 =>
  if (decide (v2 < (c.pools.length : Int))) = true then
   (V.gl c.pools v2).bind fun x =>
   (V.pg pools x).bind fun x2 =>
   if (V.seq x2.Group.Name name) = true then
    some (Out.ret (x, c))
   else
    cloud_Cloud_pool.l1 c name pools n (i64.wrap (v2 + 1))
  else
   some (Out.go ())
def cloud_Cloud_pool (c : T_cloud_Cloud) (name : ByteArray) (pools : List T_cloud_pool) : Option (Nat × T_cloud_Cloud) :=
 (cloud_Cloud_pool.l1 c name pools FU (0 : Int)).bind fun o =>
 o.on fun j =>
 some (0, c)
theorem K3 (A0 A1 : Nat) (c : T_cloud_Cloud) (name : ByteArray) (pools : List T_cloud_pool) (b : Nat) (ob : Option Nat) (cap : Nat) (ob2 : Option Nat) (cap2 : Nat) (bs : List Nat) : ∀ r : Nat × T_cloud_Cloud, cloud_Cloud_pool c name pools = some r → VC Tryz.prog 148 [.ptr b 0, .str name] [.box b 149 [Z140 A0 A1 ob c.pools cap, Z152 A0 A1 ob2 c.insts cap2, Iw c.delay, Iw c.now, Iw c.calls], Q140 A0 A1 ob cap c.pools, Q152 A0 A1 ob2 cap2 c.insts, .ar A0 144 bs (List.map T_cloud_pool.cells pools)] fun zx zH => ∃ (ob0_0 : Option Nat) (cap0_0 : Nat) (ob0_1 : Option Nat) (cap0_1 : Nat), zx = V.Pp A0 r.1 ∧ zH = [.box b 149 [Z140 A0 A1 ob0_0 r.2.pools cap0_0, Z152 A0 A1 ob0_1 r.2.insts cap0_1, Iw r.2.delay, Iw r.2.now, Iw r.2.calls], Q140 A0 A1 ob0_0 cap0_0 r.2.pools, Q152 A0 A1 ob0_1 cap0_1 r.2.insts, .ar A0 144 bs (List.map T_cloud_pool.cells pools)] := by
 refine Cj [.tmp 4] Tryz.func148 R R R fun r hm=>?_
 unfold cloud_Cloud_pool at hm
 refine Ae<|Aa R R (Dd A0)<|Ac<|Ag<|Ae<|Ad tbk [0] 4 R R<|Aa R R (C1 (V.Pp A0) R Tryz.underlying146)<|Aa R R (Ah R)<|Ac<|B8 hm (fun _ (gg:Option Nat)=>[]) (fun _ (gg:Option Nat)=>[.box b 149 [Z140 A0 A1 gg c.pools cap,Z152 A0 A1 ob2 c.insts cap2,Iw c.delay,Iw c.now,Iw c.calls],Q140 A0 A1 gg cap c.pools,Q152 A0 A1 ob2 cap2 c.insts,.ar A0 144 bs (List.map T_cloud_pool.cells pools)]) (fun o hm h2=>?_) fun j ob5 hm=> ?_
 ·refine Ck (fun zn (zs:Int)=>cloud_Cloud_pool.l1 c name pools zn zs) (fun zs (zg:Option Nat)=>[(1,.str name),(10,Z140 A0 A1 zg c.pools cap),(11,Iw (c.pools.length : Int)),(12,Iw zs)]) (fun _ (zg:Option Nat)=>[.box b 149 [Z140 A0 A1 zg c.pools cap,Z152 A0 A1 ob2 c.insts cap2,Iw c.delay,Iw c.now,Iw c.calls],Q140 A0 A1 zg cap c.pools,Q152 A0 A1 ob2 cap2 c.insts,.ar A0 144 bs (List.map T_cloud_pool.cells pools)]) _ _ (fun _=>R) hm (Ak [0,0,0,0] R R) fun n v2 ob4 hm=> ?_
  rw [cloud_Cloud_pool.l1] at hm
  refine Af tbk [] R R<|Ag<|Aq hm R (fun h3 hm=>?_) fun h3 hm=> ?_
  ·refine An<|Ag<|Aw<|Ae<|Bd hm fun x h4 hm=>Cn 1 R (gl_pos (V.Pp A0) h4) fun b2 h5=> ?_
   subst h5
   refine Aa R R (Ct (V.Pp A0) R R el146 h4)<|Aa R R (Ce (i:=1) (y:=(V.Pp A0) x) R R R (gl_map _ (gl_some h4).2) ld140 R)<|Aa R R (Ai R)<|Ac<|Ae<|Aa R R (Ah R)<|Bd hm fun x2 h6 hm=>Aa R R (B0 R h6)<|Aa R R (B4 R h6 fa144_0)<|Aa R R (B4 R h6 fa139_0)<|Aa R R (Cf 3 (f:=T_cloud_pool.cells) (y:=x2) R R h6 ld9 R)<|Ad tbk [] 2 R R<|Ac<|Aq hm R (fun h7 hm=>?_) fun h7 hm=> ?_
   ·refine Af tbk [] R R<|have hm:=Lr hm h2; ?_
    obtain rfl:=Option.some.inj hm
    exact Bs ⟨.inl R,_,.cons (.tmp _ _ R) .nil,[0,0,0,0],_,R,(some b2),cap,ob2,cap2,R,R⟩
   exact An<|Ba tbk [] R R<|Ap _ _ hm (Ak [0,0,0,0] R R)
  exact A8<|Ar _ hm (Ak [0,0,0,0] R R)
 refine Ae<|Aa R R (Dd A0)<|Ac<|?_
 obtain rfl:=Option.some.inj hm
 exact Bs ⟨.inl R,_,.cons (.tmp _ _ R) .nil,[0,0,0,0],_,R,ob5,cap,ob2,cap2,R,R⟩

/-! (*trireme/cloud.Cloud).find -/
def cloud_Cloud_find (c : T_cloud_Cloud) (name : ByteArray) (n : Int) (pools : List T_cloud_pool) : Option (Nat × Int × T_cloud_Cloud) :=
 (cloud_Cloud_there c).bind fun r =>
 if (!r) = true then
  some (0, 23, c)
 else
  (cloud_Cloud_pool c name pools).bind fun r2 =>
  if (r2.1 == 0) = true then
   some (0, 16, r2.2)
  else
   if (decide (n < 1)) = true then
    some (0, 1, r2.2)
   else
    some (r2.1, 0, r2.2)
theorem K4 (A0 A1 : Nat) (c : T_cloud_Cloud) (name : ByteArray) (n : Int) (pools : List T_cloud_pool) (b : Nat) (ob : Option Nat) (cap : Nat) (ob2 : Option Nat) (cap2 : Nat) (bs : List Nat) : ∀ r : Nat × Int × T_cloud_Cloud, cloud_Cloud_find c name n pools = some r → VC Tryz.prog 81 [.ptr b 0, .str name, Iw n] [.box b 149 [Z140 A0 A1 ob c.pools cap, Z152 A0 A1 ob2 c.insts cap2, Iw c.delay, Iw c.now, Iw c.calls], Q140 A0 A1 ob cap c.pools, Q152 A0 A1 ob2 cap2 c.insts, .ar A0 144 bs (List.map T_cloud_pool.cells pools)] fun zx zH => ∃ (ob0_0 : Option Nat) (cap0_0 : Nat) (ob0_1 : Option Nat) (cap0_1 : Nat), zx = .tup [V.Pp A0 r.1, Iw r.2.1] ∧ zH = [.box b 149 [Z140 A0 A1 ob0_0 r.2.2.pools cap0_0, Z152 A0 A1 ob0_1 r.2.2.insts cap0_1, Iw r.2.2.delay, Iw r.2.2.now, Iw r.2.2.calls], Q140 A0 A1 ob0_0 cap0_0 r.2.2.pools, Q152 A0 A1 ob0_1 cap0_1 r.2.2.insts, .ar A0 144 bs (List.map T_cloud_pool.cells pools)] := by
 refine Cj [.tmp 6,.tmp 7] Tryz.func81 R R R fun r hm=>?_
 unfold cloud_Cloud_find at hm
 refine Ae<|Aa R R (Dd A0)<|Aa R R (Ai R)<|Ac<|Ag<|Ae<|Aa R R (Ah R)<|Ab R R<|Ay hm 3 R fn83 R (K64 A0 A1 _ _ _ _ _ _) fun r hm=>Aa R R (B6 R)<|Ac<|Aq hm R (fun h2 hm=>?_) fun h2 hm=> ?_
 ·refine Ae<|Aa R R (Dd A0)<|Aa R R (Ai R)<|Ac<|?_
  obtain rfl:=Option.some.inj hm
  exact Bs ⟨.inl R,_,.cons (.tmp _ _ R) (.cons (.tmp _ _ R) .nil),[0,0,0,0],_,R,ob,cap,ob2,cap2,R,R⟩
 refine An<|Ae<|Ad tbk [] 2 R R<|Bd hm fun r2 h3 hm=>Ab R R<|Ao 4 R fn148 R (K3 A0 A1 c name pools b ob cap ob2 cap2 bs r2 h3) fun _ _ h6=> ?_
 obtain ⟨ob3,cap3,ob4,cap4,rfl,rfl⟩:=h6
 refine Aa R R (Ai R)<|Ac<|Ag<|Aw<|Ae<|Aa R R (Ah R)<|Aa R R (Ea Tryz.underlying140 R R)<|Aa R R (Ai R)<|Ac<|Aq hm R (fun h4 hm=>?_) fun h4 hm=> ?_
 ·refine Ae<|Aa R R (Dd A0)<|Aa R R (Ai R)<|Ac<|?_
  obtain rfl:=Option.some.inj hm
  exact Bs ⟨.inl R,_,.cons (.tmp _ _ R) (.cons (.tmp _ _ R) .nil),[0,0,0,0],_,R,ob3,cap3,ob4,cap4,R,R⟩
 refine Af tbk [] R R<|Aq hm R (fun h5 hm=>?_) fun h5 hm=> ?_
 ·refine Ae<|Aa R R (Dd A0)<|Aa R R (Ai R)<|Ac<|?_
  obtain rfl:=Option.some.inj hm
  exact Bs ⟨.inl R,_,.cons (.tmp _ _ R) (.cons (.tmp _ _ R) .nil),[0,0,0,0],_,R,ob3,cap3,ob4,cap4,R,R⟩
 refine An<|Af tbk [] R R<|?_
 obtain rfl:=Option.some.inj hm
 exact Bs ⟨.inl R,_,.cons (.tmp _ _ R) (.cons (.tmp _ _ R) .nil),[0,0,0,0],_,R,ob3,cap3,ob4,cap4,R,R⟩

/-! (*trireme/cloud.Cloud).Increase -/
def cloud_Cloud_Increase (c : T_cloud_Cloud) (name : ByteArray) (n : Int) (pools : List T_cloud_pool) (insts : List T_cloud_inst) : Option (Int × T_cloud_Cloud × List T_cloud_pool × List T_cloud_inst) :=
 (cloud_Cloud_find c name n pools).bind fun r =>
 if (r.2.1 != 0) = true then
  some (r.2.1, r.2.2, pools, insts)
 else
  (V.pg pools r.1).bind fun x =>
  (V.pg pools r.1).bind fun x2 =>
  if (decide (n > (i64.wrap (x.Group.Max - x2.target)))) = true then
   some (21, r.2.2, pools, insts)
  else
   (V.pg pools r.1).bind fun x3 =>
   if x3.broken = true then
    some (26, r.2.2, pools, insts)
   else
    (V.pg pools r.1).bind fun x4 =>
    (V.pg pools r.1).bind fun x5 =>
    (cloud_Cloud_more r.2.2 r.1 n (I_cloud_state.c151 (⟨r.2.2.delay⟩ : T_cloud_creating)) (V.pst pools r.1 (⟨x5.Group, (i64.wrap (x4.target + n)), x5.last, x5.broken⟩ : T_cloud_pool)) insts).bind fun r2 =>
    some (0, (⟨r2.1.pools, r2.1.insts, r2.1.delay, r2.1.now, (i64.wrap (r2.1.calls + 1))⟩ : T_cloud_Cloud), r2.2.1, r2.2.2)
theorem K5 (A0 A1 : Nat) (c : T_cloud_Cloud) (name : ByteArray) (n : Int) (pools : List T_cloud_pool) (insts : List T_cloud_inst) (b : Nat) (ob : Option Nat) (cap : Nat) (ob2 : Option Nat) (cap2 : Nat) (bs : List Nat) (bs2 : List Nat) : ∀ r : Int × T_cloud_Cloud × List T_cloud_pool × List T_cloud_inst, cloud_Cloud_Increase c name n pools insts = some r → VC Tryz.prog 24 [.ptr b 0, .str name, Iw n] [.box b 149 [Z140 A0 A1 ob c.pools cap, Z152 A0 A1 ob2 c.insts cap2, Iw c.delay, Iw c.now, Iw c.calls], Q140 A0 A1 ob cap c.pools, Q152 A0 A1 ob2 cap2 c.insts, .ar A0 144 bs (List.map T_cloud_pool.cells pools), .ar A1 157 bs2 (List.map (T_cloud_inst.cells A0 A1) insts)] fun zx zH => ∃ (ob0_0 : Option Nat) (cap0_0 : Nat) (ob0_1 : Option Nat) (cap0_1 : Nat) (bs_1 : List Nat) (bs_2 : List Nat), zx = Iw r.1 ∧ zH = [.box b 149 [Z140 A0 A1 ob0_0 r.2.1.pools cap0_0, Z152 A0 A1 ob0_1 r.2.1.insts cap0_1, Iw r.2.1.delay, Iw r.2.1.now, Iw r.2.1.calls], Q140 A0 A1 ob0_0 cap0_0 r.2.1.pools, Q152 A0 A1 ob0_1 cap0_1 r.2.1.insts, .ar A0 144 bs_1 (List.map T_cloud_pool.cells r.2.2.1), .ar A1 157 bs_2 (List.map (T_cloud_inst.cells A0 A1) r.2.2.2)] := by
 refine Cj [.tmp 6] Tryz.func24 R R R fun r hm=>?_
 unfold cloud_Cloud_Increase at hm
 refine Af tbk [] R R<|Ae<|Ad tbk [] 3 R R<|Bd hm fun r h1 hm=>Ab R R<|Ao 4 R fn81 R (K4 A0 A1 c name n pools b ob cap ob2 cap2 bs r h1) fun _ _ h12=> ?_
 obtain ⟨ob3,cap3,ob4,cap4,rfl,rfl⟩:=h12
 refine Ad tbk [] 5 R R<|Ac<|Ag<|Aw<|Af tbk [] R R<|Aq hm R (fun h2 hm=>?_) fun h2 hm=> ?_
 ·refine Af tbk [] R R<|?_
  obtain rfl:=Option.some.inj hm
  exact Bs ⟨.inl R,_,.cons (.tmp _ _ R) .nil,[0,0,0,0,0],_,R,ob3,cap3,ob4,cap4,bs,bs2,R,R⟩
 refine Ag<|Bn 0 mixed<|Bf tbk [0,1] [] (by kernel_rfl) R R R<|Bd hm fun x h3 hm=>Bc 2 R R R (by kernel_rfl) (B0 R h3)<|Bc 3 R R R (by kernel_rfl) (B4 R h3 fa144_0)<|Bc 4 R R R (by kernel_rfl) (B4 R h3 fa139_2)<|Bc 5 R R R (by kernel_rfl) (Cf 3 (f:=T_cloud_pool.cells) (y:=x) R R h3 ld3 R)<|Bc 6 R R R (by kernel_rfl) (Ah R)<|Bd hm fun x2 h4 hm=>Bc 7 R R R (by kernel_rfl) (B0 R h4)<|Bc 8 R R R (by kernel_rfl) (B4 R h4 fa144_1)<|Bc 9 R R R (by kernel_rfl) (Cf 3 (f:=T_cloud_pool.cells) (y:=x2) R R h4 ld3 R)<|Bf tbk [10,11,12] [] (by kernel_rfl) R R R<|Az (by kernel_rfl)<|Aq hm R (fun h5 hm=>?_) fun h5 hm=> ?_
 ·refine Af tbk [] R R<|?_
  obtain rfl:=Option.some.inj hm
  exact Bs ⟨.inl R,_,.cons (.tmp _ _ R) .nil,[0,0,0,0,0],_,R,ob3,cap3,ob4,cap4,bs,bs2,R,R⟩
 refine Ae<|Aa R R (Ah R)<|Bd hm fun x3 h6 hm=>Aa R R (B0 R h6)<|Aa R R (B4 R h6 fa144_3)<|Aa R R (Cf 3 (f:=T_cloud_pool.cells) (y:=x3) R R h6 ld4 R)<|Aa R R (Ai R)<|Ac<|Aq hm R (fun h7 hm=>?_) fun h7 hm=> ?_
 ·refine Af tbk [] R R<|?_
  obtain rfl:=Option.some.inj hm
  exact Bs ⟨.inl R,_,.cons (.tmp _ _ R) .nil,[0,0,0,0,0],_,R,ob3,cap3,ob4,cap4,bs,bs2,R,R⟩
 refine An<|Ae<|Aa R R (Ah R)<|Bd hm fun x4 h8 hm=>Aa R R (B0 R h8)<|Aa R R (B4 R h8 fa144_1)<|Aa R R (Cf 3 (f:=T_cloud_pool.cells) (y:=x4) R R h8 ld3 R)<|Ad tbk [] 2 R R<|Bd hm fun x5 h9 hm=>Aa R R (B0 R h9)<|Aa R R (B4 R h9 fa144_1)<|Ab R R<|Dv 3 (f:=T_cloud_pool.cells) (u:=x5) (u':=(⟨x5.Group,(IntKind.i64.wrap (x4.target + n)),x5.last,x5.broken⟩ : T_cloud_pool)) R R R h9 ld3 R R R R<|Ac<|Ae<|Ad tbk [0] 7 R R<|Aa R R (Bl pl151 R R)<|Aa R R (Dr nif151 R)<|Bd hm fun r2 h10 hm=>Ab R R<|Ao 5 R fn82 R (K59 A0 A1 r.2.2 r.1 n (I_cloud_state.c151 (⟨r.2.2.delay⟩ : T_cloud_creating)) (V.pst pools r.1 (⟨x5.Group,(IntKind.i64.wrap (x4.target + n)),x5.last,x5.broken⟩ : T_cloud_pool)) insts b ob3 cap3 ob4 cap4 bs bs2 r2 h10) fun _ _ h11=> ?_
 obtain ⟨ob5,cap5,ob6,cap6,bs3,bs4,rfl,rfl⟩:=h11
 refine Ac<|Ae<|Ad tbk [0] 7 R R<|Ab R R<|Aj (i:=0) R R R ld3 R R R<|Ac<|Af tbk [] R R<|?_
 obtain rfl:=Option.some.inj hm
 exact Bs ⟨.inl R,_,.cons (.tmp _ _ R) .nil,[0,0,0,0,0],_,R,ob5,cap5,ob6,cap6,bs3,bs4,R,R⟩

/-! (*trireme/world.World).Missing -/
def world_World_Missing_x.l1 (w : T_world_World) : List T_api_Inst → Nat → (List T_api_Inst) → Option (List T_api_Inst)
 | [], k, l2 => some l2
 | x :: l4, k, l2 =>
  (if (x.State != 3) = true then (yard_Find w.ms x.Name).bind fun r3 =>
  some (decide (r3 < 0)) else some false).bind fun c2 =>
  if c2 = true then
   (V.ap 56 l2 [x]).bind fun l5 =>
   world_World_Missing_x.l1 w l4 (k + 1) l5
  else
   world_World_Missing_x.l1 w l4 (k + 1) l2
def world_World_Missing_x (w : T_world_World) (c : T_cloud_Cloud) (pools : List T_cloud_pool) (insts : List T_cloud_inst) : Option (List T_api_Inst × T_cloud_Cloud) :=
 (world_World_there_x w c).bind fun r =>
 (cloud_Cloud_Insts c pools insts).bind fun r2 =>
 (world_World_Missing_x.l1 w r2.1 0 ([] : List T_api_Inst)).bind fun l32 =>
 some (l32, r2.2)
theorem K6 (A0 A1 : Nat) (w : T_world_World) (c : T_cloud_Cloud) (pools : List T_cloud_pool) (insts : List T_cloud_inst) (b : Nat) (ob : Option Nat) (cap : Nat) (ob2 : Option Nat) (cap2 : Nat) (ob3 : Option Nat) (cap3 : Nat) (ob4 : Option Nat) (cap4 : Nat) (b2 : Nat) (b3 : Nat) (ob5 : Option Nat) (cap5 : Nat) (ob6 : Option Nat) (cap6 : Nat) (bs : List Nat) (bs2 : List Nat) : ∀ r : List T_api_Inst × T_cloud_Cloud, world_World_Missing_x w c pools insts = some r → VC Tryz.prog 22 [.ptr b 0] [.box b 43 [.ptr b3 0, Z139 ob w.groups cap, Z103 ob2 w.budgets cap2, Z68 ob3 w.ms cap3, Z64 ob4 w.bs cap4, .map b2], Q139 ob cap w.groups, Q103 ob2 cap2 w.budgets, Q68 ob3 cap3 w.ms, Q64 ob4 cap4 w.bs, .map b2 (List.map (pf VV.str (VV.int .i64)) w.held), .box b3 149 [Z140 A0 A1 ob5 c.pools cap5, Z152 A0 A1 ob6 c.insts cap6, Iw c.delay, Iw c.now, Iw c.calls], Q140 A0 A1 ob5 cap5 c.pools, Q152 A0 A1 ob6 cap6 c.insts, .ar A0 144 bs (List.map T_cloud_pool.cells pools), .ar A1 157 bs2 (List.map (T_cloud_inst.cells A0 A1) insts)] fun zx zH => ∃ (ob0 : Option Nat) (cap0 : Nat) (ob1_0 : Option Nat) (cap1_0 : Nat) (ob1_1 : Option Nat) (cap1_1 : Nat), zx = Z70 ob0 r.1 cap0 ∧ zH = [Q70 ob0 cap0 r.1, .box b 43 [.ptr b3 0, Z139 ob w.groups cap, Z103 ob2 w.budgets cap2, Z68 ob3 w.ms cap3, Z64 ob4 w.bs cap4, .map b2], Q139 ob cap w.groups, Q103 ob2 cap2 w.budgets, Q68 ob3 cap3 w.ms, Q64 ob4 cap4 w.bs, .map b2 (List.map (pf VV.str (VV.int .i64)) w.held), .box b3 149 [Z140 A0 A1 ob1_0 r.2.pools cap1_0, Z152 A0 A1 ob1_1 r.2.insts cap1_1, Iw r.2.delay, Iw r.2.now, Iw r.2.calls], Q140 A0 A1 ob1_0 cap1_0 r.2.pools, Q152 A0 A1 ob1_1 cap1_1 r.2.insts, .ar A0 144 bs (List.map T_cloud_pool.cells pools), .ar A1 157 bs2 (List.map (T_cloud_inst.cells A0 A1) insts)] := by
 refine Cj [.tmp 2] Tryz.func22 R R R fun r hm=>?_
 unfold world_World_Missing_x at hm
 refine Af tbk [] R R<|Ag<|Ae<|Aa R R (Ah R)<|Bd hm fun r h1 hm=>Ab R R<|Ao 9 R fn60 R (K91 A0 A1 w c b ob cap ob2 cap2 ob3 cap3 ob4 cap4 b2 b3 ob5 cap5 ob6 cap6 r h1) fun _ _ h19=> ?_
 obtain ⟨rfl,rfl⟩:=h19
 refine Aa R R (B6 R)<|Ac<|Bm R (congrArg not (Option.some.inj (show some true = some r from h1)).symm)<|An<|Af tbk [] R R<|Ag<|Ae<|Ad tbk [0] 4 R R<|Bd hm fun r2 h2 hm=>A4 (Bh [6,6,6,6,6,0,0,0,0,0,0] R)<|Ab R R<|Ao 5 R fn27 R (K73 A0 A1 c pools insts b3 ob5 cap5 ob6 cap6 bs bs2 r2 h2) fun _ _ h18=> ?_
 obtain ⟨ob7,cap7,ob8,cap8,ob9,cap9,rfl,rfl⟩:=h18
 refine A4 (Av 0 [(13,L70 r2.1)] R ⟨⟨_,R,.here _ R⟩,trivial⟩ (FzH.refl _))<|Aa R R (A5 T_api_Inst.vv R Co)<|Aa R R (Ah R)<|Ac<|Bx 13 R fun h8=>Cb hm (fun l32 (gg:Option Nat × Nat)=>[(3,Z70 gg.1 l32 gg.2)]) (fun l32 (gg:Option Nat × Nat)=>[Q70 gg.1 gg.2 l32,.box b3 149 [Z140 A0 A1 ob8 r2.2.pools cap8,Z152 A0 A1 ob9 r2.2.insts cap9,Iw r2.2.delay,Iw r2.2.now,Iw r2.2.calls],Q140 A0 A1 ob8 cap8 r2.2.pools,Q152 A0 A1 ob9 cap9 r2.2.insts,.ar A0 144 bs (List.map T_cloud_pool.cells pools),.ar A1 157 bs2 (List.map (T_cloud_inst.cells A0 A1) insts),.box b 43 [.ptr b3 0,Z139 ob w.groups cap,Z103 ob2 w.budgets cap2,Z68 ob3 w.ms cap3,Z64 ob4 w.bs cap4,.map b2],Q139 ob cap w.groups,Q103 ob2 cap2 w.budgets,Q68 ob3 cap3 w.ms,Q64 ob4 cap4 w.bs,.map b2 (List.map (pf VV.str (VV.int .i64)) w.held)]) (fun o hm=>?_) fun l32=>Pq fun ob12 cap12 hm=> ?_
 ·refine Ca (r2.1) (fun zl zk (zs:List T_api_Inst)=>world_World_Missing_x.l1 w zl zk zs) (fun k zs (zg:Option Nat × Nat)=>[(0,.ptr b 0),(3,Z70 zg.1 zs zg.2),(13,L70 r2.1),(14,Iw (r2.1.length : Int)),(15,Iw (k : Int))]) (fun _ zs (zg:Option Nat × Nat)=>[Q70 zg.1 zg.2 zs,.box b3 149 [Z140 A0 A1 ob8 r2.2.pools cap8,Z152 A0 A1 ob9 r2.2.insts cap9,Iw r2.2.delay,Iw r2.2.now,Iw r2.2.calls],Q140 A0 A1 ob8 cap8 r2.2.pools,Q152 A0 A1 ob9 cap9 r2.2.insts,.ar A0 144 bs (List.map T_cloud_pool.cells pools),.ar A1 157 bs2 (List.map (T_cloud_inst.cells A0 A1) insts),.box b 43 [.ptr b3 0,Z139 ob w.groups cap,Z103 ob2 w.budgets cap2,Z68 ob3 w.ms cap3,Z64 ob4 w.bs cap4,.map b2],Q139 ob cap w.groups,Q103 ob2 cap2 w.budgets,Q68 ob3 cap3 w.ms,Q64 ob4 cap4 w.bs,.map b2 (List.map (pf VV.str (VV.int .i64)) w.held)]) ([] : List T_api_Inst) (none,0) hm (Br (A9 70) (Ak [0,0,0,0,0,0,0,0,0,0,0,0] (by kernel_rfl) (by kernel_rfl))) (fun k l2=>Pq fun ob11 cap11 hk hm=>?_) fun k x l4 l2=>Pq fun ob11 cap11 h9 hm=> ?_
  ·rw [world_World_Missing_x.l1] at hm
   exact Af tbk [] R R<|Ag<|Bm R (k_end hk)<|A8<|As (ob11,cap11) hm (Ak [0,0,0,0,0,0,0,0,0,0,0,0] (by kernel_rfl) (by kernel_rfl))
  rw [world_World_Missing_x.l1] at hm
  exact Af tbk [] R R<|Ag<|Bg R (k_lt h9)<|An<|Ag<|Aw<|Ae<|Aa R R (B3 T_api_Inst.vv R R el54 h9)<|Aa R R (Bt R ld70 R)<|Ab R R<|Au z70 fun b4=>Ab R R<|Aj (i:=0) R R R ld70 R R R<|Ac<|Ag<|Bq (Bh [10,0,0,0,0,0,0,0,0,0,0,0,0] R)<|Bn 1 mixed<|Bf tbk [0,1,2,3] [0] (by kernel_rfl) R R R<|D0 hm [12,11,10,9,8,7,6,5,4,3,2,1,0] 31 22 R (fun _ K' h11 J hm=>Bf tbk [4,5,6,7,8,9] [7,0] (by kernel_rfl) R R R<|Al 10 (by kernel_rfl)<|VB.oG R R R R R R<|Df hm (Av 0 [(26,L68 w.ms)] R ⟨⟨_,R,.here _ R⟩,trivial⟩ (FzH.refl _)) [.same,.same] R fn72 R (K76 _ _) (fun _=>R) (fun _=>R) fun r3 hm=>Bf tbk [11,12] [] (by kernel_rfl) R R R<|J 8 R R (Bj hm)) (fun _ K' h11 J hm=>Bf tbk [4,5,6,7,8,9,10,11,12] [] (by kernel_rfl) R R R<|J 8 R R (Bj hm)) fun c2 hm=>Az (by kernel_rfl)<|Aq hm R (fun h14 hm=>Bz<|Ad tbk [1] 2 R R<|Ab R R<|A6 ap54 R R R R R fun b5=>Bd hm fun l5 h16 hm=>Ab R R<|Bp 3 T_api_Inst.vv (l:=l2) (l2:=[x]) ap54 R R (sT_row 0 T_api_Inst.vv el54 R R) h16 fun ob13 cap13=>Aa R R (Ai R)<|Ac<|Ba tbk [] R R<|Ap l5 (ob13,cap13) hm (Bb [3,3,3,3,3,3,3,3,3,1,2,2] (by kernel_rfl) ⟨R,R,R,R,congrArg some (k_next h9 h8),trivial⟩)) fun h14 hm=>An<|Ba tbk [] R R<|Ap l2 (ob11,cap11) hm (Bb [2,2,2,2,2,2,2,2,2,0,1,1] (by kernel_rfl) ⟨R,R,R,R,congrArg some (k_next h9 h8),trivial⟩)
 refine Af tbk [] R R<|?_
 obtain rfl:=Option.some.inj hm
 exact Bs ⟨.inl R,_,.cons (.tmp _ _ R) .nil,[0,5,5,5,5,5,5,0,0,0,0,0],_,R,ob12,cap12,ob8,cap8,ob9,cap9,R,R⟩

/-! (*trireme/world.World).Machines -/
def world_World_Machines_x.l1 (w : T_world_World) : Nat → (List T_api_Machine) → Int → Option (List T_api_Machine)
 | 0, _, _ => none
 | n + 1, l2, v2 =>
  if (decide (v2 < (w.ms.length : Int))) = true then
   (V.gl w.ms v2).bind fun x =>
   (world_machine x).bind fun r2 =>
   (V.ap 128 l2 [r2]).bind fun l5 =>
   world_World_Machines_x.l1 w n l5 (i64.wrap (v2 + 1))
  else
   some l2
def world_World_Machines_x (w : T_world_World) (c : T_cloud_Cloud) : Option (List T_api_Machine × T_world_World) :=
 (world_World_there_x w c).bind fun r =>
 (world_World_Machines_x.l1 w FU ([] : List T_api_Machine) (0 : Int)).bind fun l32 =>
 some (l32, w)
theorem K7 (A0 A1 : Nat) (w : T_world_World) (c : T_cloud_Cloud) (b : Nat) (ob : Option Nat) (cap : Nat) (ob2 : Option Nat) (cap2 : Nat) (ob3 : Option Nat) (cap3 : Nat) (ob4 : Option Nat) (cap4 : Nat) (b2 : Nat) (b3 : Nat) (ob5 : Option Nat) (cap5 : Nat) (ob6 : Option Nat) (cap6 : Nat) : ∀ r : List T_api_Machine × T_world_World, world_World_Machines_x w c = some r → VC Tryz.prog 19 [.ptr b 0] [.box b 43 [.ptr b3 0, Z139 ob w.groups cap, Z103 ob2 w.budgets cap2, Z68 ob3 w.ms cap3, Z64 ob4 w.bs cap4, .map b2], Q139 ob cap w.groups, Q103 ob2 cap2 w.budgets, Q68 ob3 cap3 w.ms, Q64 ob4 cap4 w.bs, .map b2 (List.map (pf VV.str (VV.int .i64)) w.held), .box b3 149 [Z140 A0 A1 ob5 c.pools cap5, Z152 A0 A1 ob6 c.insts cap6, Iw c.delay, Iw c.now, Iw c.calls], Q140 A0 A1 ob5 cap5 c.pools, Q152 A0 A1 ob6 cap6 c.insts] fun zx zH => ∃ (ob0 : Option Nat) (cap0 : Nat) (ob0_1 : Option Nat) (cap0_1 : Nat) (ob0_2 : Option Nat) (cap0_2 : Nat) (ob0_3 : Option Nat) (cap0_3 : Nat) (ob0_4 : Option Nat) (cap0_4 : Nat) (b0_5 : Nat), zx = Z68 ob0 r.1 cap0 ∧ zH = [Q68 ob0 cap0 r.1, .box b 43 [.ptr b3 0, Z139 ob0_1 r.2.groups cap0_1, Z103 ob0_2 r.2.budgets cap0_2, Z68 ob0_3 r.2.ms cap0_3, Z64 ob0_4 r.2.bs cap0_4, .map b0_5], Q139 ob0_1 cap0_1 r.2.groups, Q103 ob0_2 cap0_2 r.2.budgets, Q68 ob0_3 cap0_3 r.2.ms, Q64 ob0_4 cap0_4 r.2.bs, .map b0_5 (List.map (pf VV.str (VV.int .i64)) r.2.held), .box b3 149 [Z140 A0 A1 ob5 c.pools cap5, Z152 A0 A1 ob6 c.insts cap6, Iw c.delay, Iw c.now, Iw c.calls], Q140 A0 A1 ob5 cap5 c.pools, Q152 A0 A1 ob6 cap6 c.insts] := by
 refine Cj [.tmp 2] D3 R R R fun r hm=>?_
 unfold world_World_Machines_x at hm
 refine Af tbk [] R R<|Ag<|Ae<|Aa R R (Ah R)<|Bd hm fun r h1 hm=>Ab R R<|Ao 9 R fn60 R (K91 A0 A1 w c b ob cap ob2 cap2 ob3 cap3 ob4 cap4 b2 b3 ob5 cap5 ob6 cap6 r h1) fun _ _ h14=> ?_
 obtain ⟨rfl,rfl⟩:=h14
 refine Aa R R (B6 R)<|Ac<|Bm R (congrArg not (Option.some.inj (show some true = some r from h1)).symm)<|An<|Af tbk [] R R<|Ag<|Ae<|Ad tbk [0] 4 R R<|Aa R R (C1 T_api_Machine.vv R Ch)<|Aa R R (Ah R)<|Ac<|Cb hm (fun l32 (gg:Option Nat × Nat × Option Nat)=>[(3,Z68 gg.1 l32 gg.2.1)]) (fun l32 (gg:Option Nat × Nat × Option Nat)=>[Q68 gg.1 gg.2.1 l32,.box b 43 [.ptr b3 0,Z139 ob w.groups cap,Z103 ob2 w.budgets cap2,Z68 gg.2.2 w.ms cap3,Z64 ob4 w.bs cap4,.map b2],Q139 ob cap w.groups,Q103 ob2 cap2 w.budgets,Q68 gg.2.2 cap3 w.ms,Q64 ob4 cap4 w.bs,.map b2 (List.map (pf VV.str (VV.int .i64)) w.held),.box b3 149 [Z140 A0 A1 ob5 c.pools cap5,Z152 A0 A1 ob6 c.insts cap6,Iw c.delay,Iw c.now,Iw c.calls],Q140 A0 A1 ob5 cap5 c.pools,Q152 A0 A1 ob6 cap6 c.insts]) (fun o hm=>?_) fun l32=>Pq fun ob11=>Pq fun cap9 ob12 hm=> ?_
 ·refine Ck (fun zn (zs:List T_api_Machine × Int)=>world_World_Machines_x.l1 w zn zs.1 zs.2) (fun zs (zg:Option Nat × Nat × Option Nat)=>[(3,Z68 zg.1 zs.1 zg.2.1),(12,Z68 zg.2.2 w.ms cap3),(13,Iw (w.ms.length : Int)),(14,Iw zs.2)]) (fun zs (zg:Option Nat × Nat × Option Nat)=>[Q68 zg.1 zg.2.1 zs.1,.box b 43 [.ptr b3 0,Z139 ob w.groups cap,Z103 ob2 w.budgets cap2,Z68 zg.2.2 w.ms cap3,Z64 ob4 w.bs cap4,.map b2],Q139 ob cap w.groups,Q103 ob2 cap2 w.budgets,Q68 zg.2.2 cap3 w.ms,Q64 ob4 cap4 w.bs,.map b2 (List.map (pf VV.str (VV.int .i64)) w.held),.box b3 149 [Z140 A0 A1 ob5 c.pools cap5,Z152 A0 A1 ob6 c.insts cap6,Iw c.delay,Iw c.now,Iw c.calls],Q140 A0 A1 ob5 cap5 c.pools,Q152 A0 A1 ob6 cap6 c.insts]) (([] : List T_api_Machine),(0 : Int)) (none,0,ob3) (fun _=>R) hm (Br (A9 68) (Ak [0,0,0,0,0,0,0,0,0,0] (by kernel_rfl) (by kernel_rfl))) fun n=>Pq fun l2 v2=>Pq fun ob9=>Pq fun cap8 ob10 hm=> ?_
  rw [world_World_Machines_x.l1] at hm
  refine Af tbk [] R R<|Ag<|Aq hm R (fun h6 hm=>?_) fun h6 hm=> ?_
  ·refine An<|Ag<|Aw<|Ae<|Bd hm fun x h7 hm=>Cn 4 R (gl_pos T_api_Machine.vv h7) fun b4 h8=> ?_
   subst h8
   exact Aa R R (Ct T_api_Machine.vv R R el39 h7)<|Aa R R (Ce (i:=4) (y:=T_api_Machine.vv x) R R R (gl_map _ (gl_some h7).2) ld68 R)<|Ab R R<|Au z68 fun b5=>Ab R R<|Aj (i:=0) R R R ld68 R R R<|Ac<|Bz<|Ad tbk [0] 2 R R<|Ab R R<|Ay hm 0 R fn79 R (K62 _) fun r2 hm=>Ab R R<|A6 ap39 R R R R R fun b6=>Bd hm fun l5 h12 hm=>Ab R R<|Bp 2 T_api_Machine.vv (l:=l2) (l2:=[r2]) ap39 R R (sT_row 0 T_api_Machine.vv el39 R R) h12 fun ob13 cap10=>Aa R R (Ai R)<|Ac<|Ba tbk [] R R<|Ap (l5,(IntKind.i64.wrap (v2 + (1 : Int)))) (ob13,cap10,(some b4)) hm (Ak [2,2,2,2,2,2,2,2,2,2] (by kernel_rfl) (by kernel_rfl))
  exact A8<|As (ob9,cap8,ob10) hm (Ak [0,0,0,0,0,0,0,0,0,0] (by kernel_rfl) (by kernel_rfl))
 refine Af tbk [] R R<|?_
 obtain rfl:=Option.some.inj hm
 exact Bs ⟨.inl R,_,.cons (.tmp _ _ R) .nil,[0,0,0,0,0,0,0,0,0,0],_,R,ob11,cap9,ob,cap,ob2,cap2,ob12,cap3,ob4,cap4,b2,R,R⟩

/-! (*trireme/cloud.Cloud).Now -/
def cloud_Cloud_Now (c : T_cloud_Cloud) : Option Int :=
 (cloud_Cloud_there c).bind fun r =>
 if (!r) = true then
  some 0
 else
  some c.now
theorem K8 (A0 A1 : Nat) (c : T_cloud_Cloud) (b : Nat) (ob : Option Nat) (cap : Nat) (ob2 : Option Nat) (cap2 : Nat) : VS Tryz.prog 59 (cloud_Cloud_Now c) [.ptr b 0] [.box b 149 [Z140 A0 A1 ob c.pools cap, Z152 A0 A1 ob2 c.insts cap2, Iw c.delay, Iw c.now, Iw c.calls], Q140 A0 A1 ob cap c.pools, Q152 A0 A1 ob2 cap2 c.insts] Iw (fun r=>[.box b 149 [Z140 A0 A1 ob c.pools cap, Z152 A0 A1 ob2 c.insts cap2, Iw c.delay, Iw c.now, Iw c.calls], Q140 A0 A1 ob cap c.pools, Q152 A0 A1 ob2 cap2 c.insts]) := by
 refine Ax [.tmp 2] Tryz.func59 R R R fun r hm=>?_
 unfold cloud_Cloud_Now at hm
 exact Af tbk [] R R<|Ag<|Ae<|Aa R R (Ah R)<|Ab R R<|Ay hm 3 R fn83 R (K64 A0 A1 _ _ _ _ _ _) fun r hm=>Aa R R (B6 R)<|Ac<|Aq hm R (fun h2 hm=>Af tbk [] R R<|Rt1 hm R [0,0,0] R R R) fun h2 hm=>An<|Af tbk [0] R R<|Rt1 hm R [0,0,0] R R R

/-! trireme/budget.counts -/
def budget_counts (b : T_api_Budget) (p : T_api_Pod) : Option Bool :=
 (labels_Has p.Labels b.Match).bind fun r =>
 some r
theorem K9 (b : T_api_Budget) (p : T_api_Pod) : VS Tryz.prog 146 (budget_counts b p) [T_api_Budget.vv b, T_api_Pod.vv p] [] .bool N0 := by
 refine Ax [.tmp 4] Tryz.func146 R R R fun r hm=>?_
 unfold budget_counts at hm
 exact Ae<|Ab R R<|Be R R fun b2=>Ab R R<|Be R R fun b3=>Aa R R (Ai R)<|Ac<|Ae<|Ad tbk [0,1] 4 R R<|Ab R R<|Ay hm 0 R fn191 R (K117 _ _) fun r hm=>Aa R R (Ai R)<|Ac<|Rt1 hm R [] R R R

/-! trireme/budget.Spare -/
def budget_Spare.l1 (b : T_api_Budget) : List T_api_Bound → Nat → Int → Option Int
 | [], k, n2 => some n2
 | x :: l, k, n2 =>
  (if (!(V.seq x.On (⟨#[]⟩ : ByteArray))) = true then (budget_counts b x.Pod).bind fun r =>
  some r else some false).bind fun c =>
  if c = true then
   budget_Spare.l1 b l (k + 1) (i64.wrap (n2 + 1))
  else
   budget_Spare.l1 b l (k + 1) n2
def budget_Spare (b : T_api_Budget) (bs : List T_api_Bound) : Option Int :=
 (budget_Spare.l1 b bs 0 (i64.wrap (0 - b.Least))).bind fun n32 =>
 some n32
theorem K10 (b : T_api_Budget) (bs : List T_api_Bound) : VS Tryz.prog 147 (budget_Spare b bs) [T_api_Budget.vv b, L64 bs] [] Iw N0 := by
 refine Ax [.tmp 4] Tryz.func147 R R R fun r hm=>?_
 unfold budget_Spare at hm
 refine Ae<|Ab R R<|Be R R fun b2=>Aa R R (Ai R)<|Ac<|Ae<|Ad tbk [0] 2 R R<|Aa R R (VP.neg R)<|Aa R R (Ai R)<|Ac<|Ag<|Ae<|Aa R R (Ah R)<|Aa R R (A5 T_api_Bound.vv R B1)<|Aa R R (Ah R)<|Ac<|Bx 11 R fun h4=>Cb hm (fun n32 (_:Unit)=>[(5,Iw n32)]) (fun _ (_:Unit)=>[]) (fun o hm=>?_) fun n32 _ hm=> ?_
 ·refine Ca (bs) (fun zl zk (zs:Int)=>budget_Spare.l1 b zl zk zs) (fun k zs (_:Unit)=>[(2,.ptr b2 0),(5,Iw zs),(11,L64 bs),(12,Iw (bs.length : Int)),(13,Iw (k : Int))]) (fun _ _ (_:Unit)=>[X103 b2 b]) _ () hm (Ak [0] R R) (fun k n2 _ hk hm=>?_) fun k x l n2 _ h5 hm=> ?_
  ·rw [budget_Spare.l1] at hm
   exact Af tbk [] R R<|Ag<|Bm R (k_end hk)<|A8<|As () hm (Ak [] R R)
  rw [budget_Spare.l1] at hm
  exact Af tbk [] R R<|Ag<|Bg R (k_lt h5)<|An<|Ag<|Aw<|Ae<|Aa R R (B3 T_api_Bound.vv R R el40 h5)<|Aa R R (Bt R ld64 R)<|Ab R R<|Au z64 fun b3=>Ab R R<|Aj (i:=0) R R R ld64 R R R<|Ac<|Ae<|Ad tbk [0] 4 R R<|Bo hm 5 25 20 R (fun _ K' h7 J hm=>Ad tbk [1,0] 3 R R<|Bi R R R R R<|Ay hm 0 R fn146 R (K9 _ _) fun r hm=>Aa R R (Cd true R R R)<|J 4 R R (Bj hm)) (fun _ K' h7 J hm=>Ad tbk [] 5 R R<|J 4 R R (Bj hm)) fun c hm=>Ac<|Aq hm R (fun h10 hm=>Ba tbk [] R R<|Ba tbk [] R R<|Ap _ () hm (Bb [1] R ⟨R,R,R,R,congrArg some (k_next h5 h4),trivial⟩)) fun h10 hm=>An<|Ba tbk [] R R<|Ap _ () hm (Bb [1] R ⟨R,R,R,R,congrArg some (k_next h5 h4),trivial⟩)
 exact Af tbk [] R R<|Rt1 hm R [] R R R

/-! trireme/budget.May -/
def budget_May.l1 (bs : List T_api_Bound) (r : Int) : List T_api_Budget → Nat → Option (Out Int Unit)
 | [], k => some (Out.go ())
 | x2 :: l2, k =>
  (V.gl bs r).bind fun x3 =>
  (budget_counts x2 x3.Pod).bind fun r2 =>
  (if r2 = true then (budget_Spare x2 bs).bind fun r3 =>
  some (decide (r3 ≤ 0)) else some false).bind fun c =>
  if c = true then
   some (Out.ret 20)
  else
   budget_May.l1 bs r l2 (k + 1)
def budget_May (l : List T_api_Budget) (bs : List T_api_Bound) (name : ByteArray) : Option Int :=
 (yard_Place bs name).bind fun r =>
 if (decide (r < 0)) = true then
  some 16
 else
  (V.gl bs r).bind fun x =>
  if (V.seq x.On (⟨#[]⟩ : ByteArray)) = true then
   some 22
  else
   (budget_May.l1 bs r l 0).bind fun o =>
   o.on fun j =>
   some 0
theorem K11 (l : List T_api_Budget) (bs : List T_api_Bound) (name : ByteArray) : VS Tryz.prog 78 (budget_May l bs name) [L103 l, L64 bs, .str name] [] Iw N0 := by
 refine Ax [.tmp 6] Tryz.func78 R R R fun r hm=>?_
 unfold budget_May at hm
 refine Af tbk [] R R<|Ae<|Ad tbk [] 2 R R<|Ab R R<|Ay hm 0 R fn66 R (K101 _ _) fun r hm=>Aa R R (Ai R)<|Ac<|Ag<|Aw<|Af tbk [] R R<|Aq hm R (fun h2 hm=>Af tbk [] R R<|Rt1 hm R [] R R R) fun h2 hm=>Ae<|Ad tbk [] 2 R R<|Bd hm fun x h3 hm=>Aa R R (B7 T_api_Bound.vv R R el40 h3)<|Ad tbk [] 4 R R<|Ac<|Aq hm R (fun h4 hm=>Af tbk [] R R<|Rt1 hm R [] R R R) fun h4 hm=>An<|Ag<|Ae<|Aa R R (Ah R)<|Aa R R (A5 T_api_Budget.vv R Cp)<|Aa R R (Ah R)<|Ac<|Bx 23 R fun h7=>B8 hm (fun _ (_:Unit)=>[]) (fun _ (_:Unit)=>[]) (fun o hm h6=>?_) fun j _ hm=> ?_
 ·refine Ca (l) (fun zl zk (zs:Unit)=>budget_May.l1 bs r zl zk) (fun k _ (_:Unit)=>[(1,L64 bs),(7,Iw r),(23,L103 l),(24,Iw (l.length : Int)),(25,Iw (k : Int))]) (fun _ _ (_:Unit)=>[]) () () hm (Ak [] R R) (fun k _ _ hk hm=>?_) fun k x2 l2 _ _ h8 hm=> ?_
  ·rw [budget_May.l1] at hm
   exact Af tbk [] R R<|Ag<|Bm R (k_end hk)<|A8<|Ar () hm (Ak [] R R)
  rw [budget_May.l1] at hm
  refine Af tbk [] R R<|Ag<|Bg R (k_lt h8)<|An<|Ag<|Aw<|Ae<|Aa R R (B3 T_api_Budget.vv R R el38 h8)<|Aa R R (Bt R ld103 R)<|Ab R R<|Au z103 fun b=>Ab R R<|Aj (i:=0) R R R ld103 R R R<|Ac<|Ag<|Bn 0 mixed<|Bf tbk [0,1,2] [0] (by kernel_rfl) R R R<|Bd hm fun x3 h10 hm=>Bc 3 R R R (by kernel_rfl) (B7 T_api_Bound.vv R R el40 h10)<|Bf tbk [4,5] [] (by kernel_rfl) R R R<|Al 6 (by kernel_rfl)<|Bd hm fun r2 h11 hm=>Am R R R<|Ao 0 R fn146 R (K9 x2 x3.Pod r2 h11) fun _ _ h16=> ?_
  obtain ⟨rfl,rfl⟩:=h16
  exact Bc 7 R R R (by kernel_rfl) (Ah R)<|D0 hm [12,11,10,9,8,7,6,5,4,3,2,1,0] 41 36 R (fun _ K' h12 J hm=>Bf tbk [8,9] [0] (by kernel_rfl) R R R<|Al 10 (by kernel_rfl)<|VB.oG R R R R R R<|Ay hm 0 R fn147 R (K10 _ _) fun r3 hm=>Bf tbk [11,12] [] (by kernel_rfl) R R R<|J 4 R R (Bj hm)) (fun _ K' h12 J hm=>Bf tbk [8,9,10,11,12] [] (by kernel_rfl) R R R<|J 4 R R (Bj hm)) fun c hm=>Az (by kernel_rfl)<|Aq hm R (fun h15 hm=>Af tbk [] R R<|have hm:=Lr hm h6;Rt1 hm R [] R R R) fun h15 hm=>An<|Ba tbk [] R R<|Ap () () hm (Bb [] R ⟨R,R,R,R,congrArg some (k_next h8 h7),trivial⟩)
 exact Af tbk [] R R<|Rt1 hm R [] R R R

/-! (*trireme/world.World).cut -/
def world_World_cut (w : T_world_World) (c : T_cloud_Cloud) (i : Int) : Option (T_api_Pod × T_world_World) :=
 (V.gl w.bs i).bind fun x =>
 (V.rng w.bs.length none (some i)).bind fun r =>
 (V.rng w.bs.length (some (i64.wrap (i + 1))) none).bind fun r2 =>
 (V.aps 288 w.bs r r2).bind fun l =>
 some (x.Pod, (⟨(), w.groups, w.budgets, w.ms, l, w.held⟩ : T_world_World))
theorem K12 (A0 A1 : Nat) (w : T_world_World) (c : T_cloud_Cloud) (i : Int) (b : Nat) (ob : Option Nat) (cap : Nat) (ob2 : Option Nat) (cap2 : Nat) (ob3 : Option Nat) (cap3 : Nat) (ob4 : Option Nat) (cap4 : Nat) (b2 : Nat) (b3 : Nat) (ob5 : Option Nat) (cap5 : Nat) (ob6 : Option Nat) (cap6 : Nat) : ∀ r : T_api_Pod × T_world_World, world_World_cut w c i = some r → VC Tryz.prog 68 [.ptr b 0, Iw i] [.box b 43 [.ptr b3 0, Z139 ob w.groups cap, Z103 ob2 w.budgets cap2, Z68 ob3 w.ms cap3, Z64 ob4 w.bs cap4, .map b2], Q139 ob cap w.groups, Q103 ob2 cap2 w.budgets, Q68 ob3 cap3 w.ms, Q64 ob4 cap4 w.bs, .map b2 (List.map (pf VV.str (VV.int .i64)) w.held), .box b3 149 [Z140 A0 A1 ob5 c.pools cap5, Z152 A0 A1 ob6 c.insts cap6, Iw c.delay, Iw c.now, Iw c.calls], Q140 A0 A1 ob5 cap5 c.pools, Q152 A0 A1 ob6 cap6 c.insts] fun zx zH => ∃ (ob0_1 : Option Nat) (cap0_1 : Nat) (ob0_2 : Option Nat) (cap0_2 : Nat) (ob0_3 : Option Nat) (cap0_3 : Nat) (ob0_4 : Option Nat) (cap0_4 : Nat) (b0_5 : Nat), zx = T_api_Pod.vv r.1 ∧ zH = [.box b 43 [.ptr b3 0, Z139 ob0_1 r.2.groups cap0_1, Z103 ob0_2 r.2.budgets cap0_2, Z68 ob0_3 r.2.ms cap0_3, Z64 ob0_4 r.2.bs cap0_4, .map b0_5], Q139 ob0_1 cap0_1 r.2.groups, Q103 ob0_2 cap0_2 r.2.budgets, Q68 ob0_3 cap0_3 r.2.ms, Q64 ob0_4 cap0_4 r.2.bs, .map b0_5 (List.map (pf VV.str (VV.int .i64)) r.2.held), .box b3 149 [Z140 A0 A1 ob5 c.pools cap5, Z152 A0 A1 ob6 c.insts cap6, Iw c.delay, Iw c.now, Iw c.calls], Q140 A0 A1 ob5 cap5 c.pools, Q152 A0 A1 ob6 cap6 c.insts] := by
 refine Cj [.cell 4 29] Tryz.func68 R R R fun r hm=>?_
 unfold world_World_cut at hm
 refine Ae<|Ab R R<|Au z29 fun b4=>Ac<|Ae<|Ad tbk [1] 5 R R<|Bd hm fun x h2 hm=>Cn 5 R (gl_pos T_api_Bound.vv h2) fun b5 h3=> ?_
 subst h3
 refine Aa R R (Ct T_api_Bound.vv R R el40 h2)<|Aa R R (Dn R fa64_0)<|Aa R R (Ce (i:=5) (y:=T_api_Bound.vv x) R R R (gl_map _ (gl_some h2).2) ld29 R)<|Ab R R<|Au z29 fun b6=>Ab R R<|Aj (i:=0) R R R ld29 R R R<|Ac<|Ag<|Bq (Bh [2,5,0,0,0,0,0,0,0,0,0] R)<|Bn 2 mixed<|Bf tbk [0,1,2,3,5,6,8,9,10,12,13] [] (by kernel_rfl) R R R<|?_
 refine Bu [4,11] (by kernel_rfl) ⟨?_,?_,trivial⟩
 ·refine Am R R R<|B5 (Bw (i:=0) R R ld40 R)<|Bd hm fun r h5 hm=>VA.pH 7 R R R (by kernel_rfl) (VPH.sub3T (f:=T_api_Bound.vv) (xs:=w.bs) 1 el40 R R R R R h5)<|Al 11 (by kernel_rfl)<|Am R R R<|B5 (Bw (i:=0) R R ld40 R)<|Bd hm fun r2 h6 hm=>VA.pH 14 R R R (by kernel_rfl) (VPH.subT (f:=T_api_Bound.vv) (xs:=w.bs) 1 el40 R R R R h6)<|Al 15 (by kernel_rfl)<|Bd hm fun l h7 hm=>Am R R R<|VO.appSub 1 (f:=T_api_Bound.vv) (l:=w.bs) ap40 R R R R (V.rng_0 h5) (rng_le h5) (rng_le h6) h7 fun ob7 cap7=>Bf tbk [16,17] [] (by kernel_rfl) R R R<|Al 18 (by kernel_rfl)<|Am R R R<|Aj (i:=0) R R R ld40 R R R<|Az (by kernel_rfl)<|Ae<|Ad tbk [2] 1 R R<|Ab R R<|Aj (i:=3) R R R ld29 R R R<|Ac<|?_
  obtain rfl:=Option.some.inj hm
  exact Bs ⟨.inl R,_,.cons (.cell _ _ _ _ 3 _ _ _ _ R R ld29 R) .nil,[0,3,3,3,0,2,2,2,2],_,R,ob,cap,ob2,cap2,ob3,cap3,ob7,cap7,b2,R,R⟩
 ·refine Am R R R<|B5 (Bw (i:=0) R R ld40 R)<|Bd hm fun r3 h8 hm=>Bd hm fun r4 h9 hm=>VA.pH 14 R R R (by kernel_rfl) (VPH.subT (f:=T_api_Bound.vv) (xs:=w.bs) 1 el40 R R R R h9)<|Al 4 (by kernel_rfl)<|Am R R R<|B5 (Bw (i:=0) R R ld40 R)<|VA.pH 7 R R R (by kernel_rfl) (VPH.sub3T (f:=T_api_Bound.vv) (xs:=w.bs) 1 el40 R R R R R h8)<|Al 15 (by kernel_rfl)<|Bd hm fun l2 h10 hm=>Am R R R<|VO.appSub 1 (f:=T_api_Bound.vv) (l:=w.bs) ap40 R R R R (V.rng_0 h8) (rng_le h8) (rng_le h9) h10 fun ob8 cap8=>Bf tbk [16,17] [] (by kernel_rfl) R R R<|Al 18 (by kernel_rfl)<|Am R R R<|Aj (i:=0) R R R ld40 R R R<|Az (by kernel_rfl)<|Ae<|Ad tbk [2] 1 R R<|Ab R R<|Aj (i:=3) R R R ld29 R R R<|Ac<|?_
  obtain rfl:=Option.some.inj hm
  exact Bs ⟨.inl R,_,.cons (.cell _ _ _ _ 3 _ _ _ _ R R ld29 R) .nil,[0,3,3,3,0,2,2,2,2],_,R,ob,cap,ob2,cap2,ob3,cap3,ob8,cap8,b2,R,R⟩

/-! (*trireme/world.World).Evict -/
def world_World_Evict_x (w : T_world_World) (c : T_cloud_Cloud) (name : ByteArray) : Option (Int × T_world_World) :=
 (world_World_there_x w c).bind fun r =>
 (budget_May w.budgets w.bs name).bind fun r2 =>
 if (r2 != 0) = true then
  some (r2, w)
 else
  (yard_Place w.bs name).bind fun r3 =>
  (world_World_cut w c r3).bind fun r4 =>
  (V.ap 288 r4.2.bs [(⟨r4.1, (⟨#[]⟩ : ByteArray)⟩ : T_api_Bound)]).bind fun l =>
  some (0, (⟨(), r4.2.groups, r4.2.budgets, r4.2.ms, l, r4.2.held⟩ : T_world_World))
theorem K13 (A0 A1 : Nat) (w : T_world_World) (c : T_cloud_Cloud) (name : ByteArray) (b : Nat) (ob : Option Nat) (cap : Nat) (ob2 : Option Nat) (cap2 : Nat) (ob3 : Option Nat) (cap3 : Nat) (ob4 : Option Nat) (cap4 : Nat) (b2 : Nat) (b3 : Nat) (ob5 : Option Nat) (cap5 : Nat) (ob6 : Option Nat) (cap6 : Nat) : ∀ r : Int × T_world_World, world_World_Evict_x w c name = some r → VC Tryz.prog 18 [.ptr b 0, .str name] [.box b 43 [.ptr b3 0, Z139 ob w.groups cap, Z103 ob2 w.budgets cap2, Z68 ob3 w.ms cap3, Z64 ob4 w.bs cap4, .map b2], Q139 ob cap w.groups, Q103 ob2 cap2 w.budgets, Q68 ob3 cap3 w.ms, Q64 ob4 cap4 w.bs, .map b2 (List.map (pf VV.str (VV.int .i64)) w.held), .box b3 149 [Z140 A0 A1 ob5 c.pools cap5, Z152 A0 A1 ob6 c.insts cap6, Iw c.delay, Iw c.now, Iw c.calls], Q140 A0 A1 ob5 cap5 c.pools, Q152 A0 A1 ob6 cap6 c.insts] fun zx zH => ∃ (ob0_1 : Option Nat) (cap0_1 : Nat) (ob0_2 : Option Nat) (cap0_2 : Nat) (ob0_3 : Option Nat) (cap0_3 : Nat) (ob0_4 : Option Nat) (cap0_4 : Nat) (b0_5 : Nat), zx = Iw r.1 ∧ zH = [.box b 43 [.ptr b3 0, Z139 ob0_1 r.2.groups cap0_1, Z103 ob0_2 r.2.budgets cap0_2, Z68 ob0_3 r.2.ms cap0_3, Z64 ob0_4 r.2.bs cap0_4, .map b0_5], Q139 ob0_1 cap0_1 r.2.groups, Q103 ob0_2 cap0_2 r.2.budgets, Q68 ob0_3 cap0_3 r.2.ms, Q64 ob0_4 cap0_4 r.2.bs, .map b0_5 (List.map (pf VV.str (VV.int .i64)) r.2.held), .box b3 149 [Z140 A0 A1 ob5 c.pools cap5, Z152 A0 A1 ob6 c.insts cap6, Iw c.delay, Iw c.now, Iw c.calls], Q140 A0 A1 ob5 cap5 c.pools, Q152 A0 A1 ob6 cap6 c.insts] := by
 refine Cj [.tmp 4] D4 R R R fun r hm=>?_
 unfold world_World_Evict_x at hm
 refine Af tbk [] R R<|Ag<|Ae<|Aa R R (Ah R)<|Bd hm fun r h1 hm=>Ab R R<|Ao 9 R fn60 R (K91 A0 A1 w c b ob cap ob2 cap2 ob3 cap3 ob4 cap4 b2 b3 ob5 cap5 ob6 cap6 r h1) fun _ _ h12=> ?_
 obtain ⟨rfl,rfl⟩:=h12
 refine Aa R R (B6 R)<|Ac<|Bm R (congrArg not (Option.some.inj (show some true = some r from h1)).symm)<|An<|Ag<|Ag<|Bq (Bh [2,3,0,0,0,0,0,0,0] R)<|Bn 2 mixed<|Bf tbk [0,1,2,3,4,5,6,7,8] [0,0] (by kernel_rfl) R R R<|Al 9 (by kernel_rfl)<|Am R R R<|Df hm (Br (Av 0 [(13,L103 w.budgets)] R ⟨⟨_,R,.here _ R⟩,trivial⟩ (FzH.refl _)) (Av 0 [(17,L64 w.bs)] R ⟨⟨_,R,.here _ R⟩,trivial⟩ (FzH.refl _))) [.same,.same,.same] R fn78 R (K11 _ _ _) (fun _=>R) (fun _=>R) fun r2 hm=>Bc 10 R R R (by kernel_rfl) (Ai R)<|Az (by kernel_rfl)<|Af tbk [] R R<|Aq hm R (fun h3 hm=>?_) fun h3 hm=> ?_
 ·refine Af tbk [] R R<|?_
  obtain rfl:=Option.some.inj hm
  exact Bs ⟨.inl R,_,.cons (.tmp _ _ R) .nil,[2,2,0,1,0,0,0,0,0],_,R,ob,cap,ob2,cap2,ob3,cap3,ob4,cap4,b2,R,R⟩
 refine An<|Ae<|Ad tbk [2] 6 R R<|Ab R R<|Df hm (Av (H':=[Q103 ob2 cap2 w.budgets,.box b 43 [.ptr b3 0,Z139 ob w.groups cap,Z103 ob2 w.budgets cap2,Z68 ob3 w.ms cap3,L64 w.bs,.map b2],Q139 ob cap w.groups,Q68 ob3 cap3 w.ms,.map b2 (List.map (pf VV.str (VV.int .i64)) w.held),.box b3 149 [Z140 A0 A1 ob5 c.pools cap5,Z152 A0 A1 ob6 c.insts cap6,Iw c.delay,Iw c.now,Iw c.calls],Q140 A0 A1 ob5 cap5 c.pools,Q152 A0 A1 ob6 cap6 c.insts]) 1 [(17,L64 w.bs),(27,L64 w.bs)] R ⟨⟨_,R,.here _ R⟩,⟨_,R,.here _ R⟩,trivial⟩ (by exact ⟨.same _,.box _ _ _ _ ⟨.same _,.same _,.same _,.same _,.here _ R,.same _,trivial⟩,.same _,.same _,.same _,.same _,.same _,.same _,trivial⟩)) [.same,.same] R fn66 R (K101 _ _) (fun _=>R) (fun _=>R) fun r3 hm=>Bd hm fun r4 h5 hm=>A4 (Bh [2,2,0,1,0,0,0,0,0] R)<|Ab R R<|Ao 9 R fn68 R (K12 A0 A1 w c r3 b ob cap ob2 cap2 ob3 cap3 ob4 cap4 b2 b3 ob5 cap5 ob6 cap6 r4 h5) fun _ _ h11=> ?_
 obtain ⟨ob7,cap7,ob8,cap8,ob9,cap9,ob10,cap10,b4,rfl,rfl⟩:=h11
 refine Ab R R<|Au z29 fun b5=>Ab R R<|Aj (i:=0) R R R ld29 R R R<|Ac<|Ag<|Bq (Bh [1,4,0,0,0,0,0,0,0,0] R)<|Bn 2 mixed<|Bf tbk [0,1,2,3,5] [0] (by kernel_rfl) R R R<|Bc 6 R R R (by kernel_rfl) (Bl pl64 R R)<|?_
 refine Bu [4,7] (by kernel_rfl) ⟨?_,?_,trivial⟩
 ·refine Am R R R<|B5 (Bw (i:=0) R R ld40 R)<|Al 7 (by kernel_rfl)<|Am R R R<|A6 ap40 R R R R R fun b6=>Al 8 (by kernel_rfl)<|Bd hm fun l h8 hm=>Am R R R<|Bp 2 T_api_Bound.vv (l:=r4.2.bs) (l2:=[(⟨r4.1,(⟨#[]⟩ : ByteArray)⟩ : T_api_Bound)]) ap40 R R (sT_row 0 T_api_Bound.vv el40 R R) h8 fun ob11 cap11=>Bf tbk [9,10] [] (by kernel_rfl) R R R<|Al 11 (by kernel_rfl)<|Am R R R<|Aj (i:=1) R R R ld40 R R R<|Az (by kernel_rfl)<|Af tbk [] R R<|?_
  obtain rfl:=Option.some.inj hm
  exact Bs ⟨.inl R,_,.cons (.tmp _ _ R) .nil,[1,3,3,3,1,2,2,2,2],_,R,ob7,cap7,ob8,cap8,ob9,cap9,ob11,cap11,b4,R,R⟩
 ·refine Am R R R<|A6 ap40 R R R R R fun b7=>Al 4 (by kernel_rfl)<|Am R R R<|B5 (Bw (i:=1) R R ld40 R)<|Al 8 (by kernel_rfl)<|Bd hm fun l2 h10 hm=>Am R R R<|Bp 2 T_api_Bound.vv (l:=r4.2.bs) (l2:=[(⟨r4.1,(⟨#[]⟩ : ByteArray)⟩ : T_api_Bound)]) ap40 R R (sT_row 0 T_api_Bound.vv el40 R R) h10 fun ob12 cap12=>Bf tbk [9,10] [] (by kernel_rfl) R R R<|Al 11 (by kernel_rfl)<|Am R R R<|Aj (i:=1) R R R ld40 R R R<|Az (by kernel_rfl)<|Af tbk [] R R<|?_
  obtain rfl:=Option.some.inj hm
  exact Bs ⟨.inl R,_,.cons (.tmp _ _ R) .nil,[1,3,3,3,1,2,2,2,2],_,R,ob7,cap7,ob8,cap8,ob9,cap9,ob12,cap12,b4,R,R⟩

/-! (*trireme/world.World).Ready$1 -/
def world_World_Ready_1 (m : T_api_Machine) (a : Bool) : Option (Int × T_api_Machine) :=
 some (0, (⟨m.Name, m.Group, m.Has, m.Labels, m.Taints, a⟩ : T_api_Machine))
theorem K14 (m : T_api_Machine) (a : Bool) (b : Nat) (b2 : Nat) : VS Tryz.prog 70 (world_World_Ready_1 m a) [.ptr b 0, .ptr b2 0] [X68 b m, .box b2 4 [.bool a]] (fun r=>Iw r.1) (fun r=>[X68 b r.2, .box b2 4 [.bool a]]) := by
 refine Ax [.tmp 3] Tryz.func70 R R R fun r hm=>?_
 unfold world_World_Ready_1 at hm
 exact Af tbk [] R R<|Ae<|Ad tbk [1] 4 R R<|Ab R R<|Aj (i:=0) R R R ld4 R R R<|Ac<|Af tbk [] R R<|Rt1 hm R [0,0] R R R

/-! (*trireme/world.World).on -/
def world_World_on_world_World_Ready_1_x (w : T_world_World) (c : T_cloud_Cloud) (name : ByteArray) (c2 : Bool) : Option (Int × T_world_World) :=
 (world_World_there_x w c).bind fun r =>
 (yard_Find w.ms name).bind fun r2 =>
 if (decide (r2 < 0)) = true then
  some (16, w)
 else
  (V.gl w.ms r2).bind fun x =>
  (world_World_Ready_1 x c2).bind fun r3 =>
  if (r3.1 == 0) = true then
   (V.gl w.ms r2).bind fun x2 =>
   some (r3.1, (⟨(), w.groups, w.budgets, (List.set w.ms (r2).toNat r3.2), w.bs, w.held⟩ : T_world_World))
  else
   some (r3.1, w)
theorem K15 (A0 A1 : Nat) (w : T_world_World) (c : T_cloud_Cloud) (name : ByteArray) (c2 : Bool) (b : Nat) (ob : Option Nat) (cap : Nat) (ob2 : Option Nat) (cap2 : Nat) (ob3 : Option Nat) (cap3 : Nat) (ob4 : Option Nat) (cap4 : Nat) (b2 : Nat) (b3 : Nat) (ob5 : Option Nat) (cap5 : Nat) (ob6 : Option Nat) (cap6 : Nat) (b4 : Nat) : ∀ r : Int × T_world_World, world_World_on_world_World_Ready_1_x w c name c2 = some r → VC Tryz.prog 69 [.ptr b 0, .str name, .clo (.func 70) [] [.ptr b4 0]] [.box b 43 [.ptr b3 0, Z139 ob w.groups cap, Z103 ob2 w.budgets cap2, Z68 ob3 w.ms cap3, Z64 ob4 w.bs cap4, .map b2], Q139 ob cap w.groups, Q103 ob2 cap2 w.budgets, Q68 ob3 cap3 w.ms, Q64 ob4 cap4 w.bs, .map b2 (List.map (pf VV.str (VV.int .i64)) w.held), .box b3 149 [Z140 A0 A1 ob5 c.pools cap5, Z152 A0 A1 ob6 c.insts cap6, Iw c.delay, Iw c.now, Iw c.calls], Q140 A0 A1 ob5 cap5 c.pools, Q152 A0 A1 ob6 cap6 c.insts, .box b4 4 [.bool c2]] fun zx zH => ∃ (ob0_1 : Option Nat) (cap0_1 : Nat) (ob0_2 : Option Nat) (cap0_2 : Nat) (ob0_3 : Option Nat) (cap0_3 : Nat) (ob0_4 : Option Nat) (cap0_4 : Nat) (b0_5 : Nat), zx = Iw r.1 ∧ zH = [.box b 43 [.ptr b3 0, Z139 ob0_1 r.2.groups cap0_1, Z103 ob0_2 r.2.budgets cap0_2, Z68 ob0_3 r.2.ms cap0_3, Z64 ob0_4 r.2.bs cap0_4, .map b0_5], Q139 ob0_1 cap0_1 r.2.groups, Q103 ob0_2 cap0_2 r.2.budgets, Q68 ob0_3 cap0_3 r.2.ms, Q64 ob0_4 cap0_4 r.2.bs, .map b0_5 (List.map (pf VV.str (VV.int .i64)) r.2.held), .box b3 149 [Z140 A0 A1 ob5 c.pools cap5, Z152 A0 A1 ob6 c.insts cap6, Iw c.delay, Iw c.now, Iw c.calls], Q140 A0 A1 ob5 cap5 c.pools, Q152 A0 A1 ob6 cap6 c.insts, .box b4 4 [.bool c2]] := by
 refine Cj [.tmp 6] Dg R R R fun r hm=>?_
 unfold world_World_on_world_World_Ready_1_x at hm
 refine Af tbk [] R R<|Ag<|Ae<|Aa R R (Ah R)<|Bd hm fun r h1 hm=>Ab R R<|Ao 9 R fn60 R (K91 A0 A1 w c b ob cap ob2 cap2 ob3 cap3 ob4 cap4 b2 b3 ob5 cap5 ob6 cap6 r h1) fun _ _ h10=> ?_
 obtain ⟨rfl,rfl⟩:=h10
 refine Aa R R (B6 R)<|Ac<|Bm R (congrArg not (Option.some.inj (show some true = some r from h1)).symm)<|An<|Ae<|Ad tbk [0] 5 R R<|Ab R R<|Df hm (Av (H':=[.box b 43 [.ptr b3 0,Z139 ob w.groups cap,Z103 ob2 w.budgets cap2,L68 w.ms,Z64 ob4 w.bs cap4,.map b2],Q139 ob cap w.groups,Q103 ob2 cap2 w.budgets,Q64 ob4 cap4 w.bs,.map b2 (List.map (pf VV.str (VV.int .i64)) w.held),.box b3 149 [Z140 A0 A1 ob5 c.pools cap5,Z152 A0 A1 ob6 c.insts cap6,Iw c.delay,Iw c.now,Iw c.calls],Q140 A0 A1 ob5 cap5 c.pools,Q152 A0 A1 ob6 cap6 c.insts,.box b4 4 [.bool c2]]) 3 [(16,L68 w.ms)] R ⟨⟨_,R,.here _ R⟩,trivial⟩ (by exact ⟨.box _ _ _ _ ⟨.same _,.same _,.same _,.here _ R,.same _,.same _,trivial⟩,.same _,.same _,.same _,.same _,.same _,.same _,.same _,.same _,trivial⟩)) [.same,.same] R fn72 R (K76 _ _) (fun _=>R) (fun _=>R) fun r2 hm=>Aa R R (Ai R)<|Ac<|Ag<|Af tbk [] R R<|Aq hm R (fun h3 hm=>?_) fun h3 hm=> ?_
 ·refine Af tbk [] R R<|?_
  obtain rfl:=Option.some.inj hm
  exact Bs ⟨.inl R,_,.cons (.tmp _ _ R) .nil,[0,0,0,0,0,0,0,0,0,0],_,R,ob,cap,ob2,cap2,ob3,cap3,ob4,cap4,b2,R,R⟩
 refine An<|Ae<|Ad tbk [0] 5 R R<|Bd hm fun x h4 hm=>Cn 3 R (gl_pos T_api_Machine.vv h4) fun b5 h5=> ?_
 subst h5
 refine Aa R R (Ct T_api_Machine.vv R R el39 h4)<|Aa R R (Ce (i:=3) (y:=T_api_Machine.vv x) R R R (gl_map _ (gl_some h4).2) ld68 R)<|Ab R R<|Au z68 fun b6=>Ab R R<|Aj (i:=0) R R R ld68 R R R<|Ac<|Ae<|Aa R R (Ah R)<|A4 (Bh [0,9,0,0,0,0,0,0,0,0,0] R)<|Ab R R<|Ay hm 2 R fn70 R (K14 _ _ _ _) fun r3 hm=>Aa R R (Ai R)<|Ac<|Ag<|Af tbk [] R R<|Aq hm R (fun h8 hm=>?_) fun h8 hm=> ?_
 ·refine Bq (Bh [2,4,0,0,0,0,0,0,0,0,0] R)<|Bn 2 mixed<|Bf tbk [0,1,2,4,5] [0] (by kernel_rfl) R R R<|Al 3 (by kernel_rfl)<|Am R R R<|B5 (Bw (i:=0) R R ld39 R)<|Bd hm fun x2 h9 hm=>Bc 6 R R R (by kernel_rfl) (Ct T_api_Machine.vv R R el39 h9)<|Al 7 (by kernel_rfl)<|Am R R R<|Ed 1 (f:=T_api_Machine.vv) (l:=w.ms) (q:=x2) (q':=r3.2) R R R R h9 ld68 R R R R ⟨R,List.all_eq_true.1 R⟩<|De (Shift.cst (F:=fun zv=>[.box b 43 [.ptr b3 0,Z139 ob w.groups cap,Z103 ob2 w.budgets cap2,zv,Z64 ob4 w.bs cap4,.map b2],Q68 (some b5) cap3 (List.set w.ms (r2).toNat r3.2)]) (congrArg (fun zn=>VV.sl (some b5) zn cap3) (len_set T_api_Machine.vv w.ms (r2).toNat r3.2)))<|De (C0 16 (List.map T_api_Machine.vv (List.set w.ms (r2).toNat r3.2)).length R (len_set _ _ _ _))<|De (C0 24 (List.map T_api_Machine.vv (List.set w.ms (r2).toNat r3.2)).length R (len_set _ _ _ _))<|De (C0 35 (List.map T_api_Machine.vv (List.set w.ms (r2).toNat r3.2)).length R (len_set _ _ _ _))<|Az (by kernel_rfl)<|Af tbk [] R R<|?_
  obtain rfl:=Option.some.inj hm
  exact Bs ⟨.inl R,_,.cons (.tmp _ _ R) .nil,[0,3,3,0,2,2,2,2,2,1],_,R,ob,cap,ob2,cap2,(some b5),cap3,ob4,cap4,b2,R,R⟩
 refine An<|Af tbk [] R R<|?_
 obtain rfl:=Option.some.inj hm
 exact Bs ⟨.inl R,_,.cons (.tmp _ _ R) .nil,[2,2,2,2,2,2,2,2,2,1],_,R,ob,cap,ob2,cap2,(some b5),cap3,ob4,cap4,b2,R,R⟩

/-! (*trireme/world.World).Ready -/
def world_World_Ready_x (w : T_world_World) (c : T_cloud_Cloud) (name : ByteArray) (is : Bool) : Option (Int × T_world_World) :=
 (world_World_on_world_World_Ready_1_x w c name is).bind fun r =>
 some (r.1, r.2)
theorem K16 (A0 A1 : Nat) (w : T_world_World) (c : T_cloud_Cloud) (name : ByteArray) (is : Bool) (b : Nat) (ob : Option Nat) (cap : Nat) (ob2 : Option Nat) (cap2 : Nat) (ob3 : Option Nat) (cap3 : Nat) (ob4 : Option Nat) (cap4 : Nat) (b2 : Nat) (b3 : Nat) (ob5 : Option Nat) (cap5 : Nat) (ob6 : Option Nat) (cap6 : Nat) : ∀ r : Int × T_world_World, world_World_Ready_x w c name is = some r → VC Tryz.prog 14 [.ptr b 0, .str name, .bool is] [.box b 43 [.ptr b3 0, Z139 ob w.groups cap, Z103 ob2 w.budgets cap2, Z68 ob3 w.ms cap3, Z64 ob4 w.bs cap4, .map b2], Q139 ob cap w.groups, Q103 ob2 cap2 w.budgets, Q68 ob3 cap3 w.ms, Q64 ob4 cap4 w.bs, .map b2 (List.map (pf VV.str (VV.int .i64)) w.held), .box b3 149 [Z140 A0 A1 ob5 c.pools cap5, Z152 A0 A1 ob6 c.insts cap6, Iw c.delay, Iw c.now, Iw c.calls], Q140 A0 A1 ob5 cap5 c.pools, Q152 A0 A1 ob6 cap6 c.insts] fun zx zH => ∃ (ob0_1 : Option Nat) (cap0_1 : Nat) (ob0_2 : Option Nat) (cap0_2 : Nat) (ob0_3 : Option Nat) (cap0_3 : Nat) (ob0_4 : Option Nat) (cap0_4 : Nat) (b0_5 : Nat), zx = Iw r.1 ∧ zH = [.box b 43 [.ptr b3 0, Z139 ob0_1 r.2.groups cap0_1, Z103 ob0_2 r.2.budgets cap0_2, Z68 ob0_3 r.2.ms cap0_3, Z64 ob0_4 r.2.bs cap0_4, .map b0_5], Q139 ob0_1 cap0_1 r.2.groups, Q103 ob0_2 cap0_2 r.2.budgets, Q68 ob0_3 cap0_3 r.2.ms, Q64 ob0_4 cap0_4 r.2.bs, .map b0_5 (List.map (pf VV.str (VV.int .i64)) r.2.held), .box b3 149 [Z140 A0 A1 ob5 c.pools cap5, Z152 A0 A1 ob6 c.insts cap6, Iw c.delay, Iw c.now, Iw c.calls], Q140 A0 A1 ob5 cap5 c.pools, Q152 A0 A1 ob6 cap6 c.insts] := by
 refine Cj [.tmp 6] D5 R R R fun r hm=>?_
 unfold world_World_Ready_x at hm
 refine Ae<|Ab R R<|Be R R fun b4=>Aa R R (Ai R)<|Ac<|Ae<|Ad tbk [] 2 R R<|Aa R R (Cq R R)<|Bd hm fun r h2 hm=>A4 (Bh [1,1,1,1,1,1,1,1,1,0] R)<|Ab R R<|Ao 10 R fn69 R (K15 A0 A1 w c name is b ob cap ob2 cap2 ob3 cap3 ob4 cap4 b2 b3 ob5 cap5 ob6 cap6 b4 r h2) fun _ _ h3=> ?_
 obtain ⟨ob7,cap7,ob8,cap8,ob9,cap9,ob10,cap10,b5,rfl,rfl⟩:=h3
 refine Aa R R (Ai R)<|Ac<|?_
 obtain rfl:=Option.some.inj hm
 exact Bs ⟨.inl R,_,.cons (.tmp _ _ R) .nil,[0,0,0,0,0,0,0,0,0],_,R,ob7,cap7,ob8,cap8,ob9,cap9,ob10,cap10,b5,R,R⟩

/-! (*trireme/world.World).Hold -/
def world_World_Hold_x (w : T_world_World) (c : T_cloud_Cloud) (name : ByteArray) (is : Bool) (pools : List T_cloud_pool) (insts : List T_cloud_inst) : Option (Int × T_world_World × T_cloud_Cloud) :=
 (world_World_there_x w c).bind fun r =>
 (world_World_names w c pools insts).bind fun r2 =>
 if (((V.mg r2.1 name).getD 0) == 0) = true then
  some (16, w, r2.2)
 else
  (yard_Find w.ms name).bind fun r3 =>
  if (decide (r3 ≥ 0)) = true then
   some (22, w, r2.2)
  else
   if is = true then
    some (0, (⟨(), w.groups, w.budgets, w.ms, w.bs, (V.mp (V.md w.held name) name 1)⟩ : T_world_World), r2.2)
   else
    some (0, (⟨(), w.groups, w.budgets, w.ms, w.bs, (V.md w.held name)⟩ : T_world_World), r2.2)
theorem K17 (A0 A1 : Nat) (w : T_world_World) (c : T_cloud_Cloud) (name : ByteArray) (is : Bool) (pools : List T_cloud_pool) (insts : List T_cloud_inst) (b : Nat) (ob : Option Nat) (cap : Nat) (ob2 : Option Nat) (cap2 : Nat) (ob3 : Option Nat) (cap3 : Nat) (ob4 : Option Nat) (cap4 : Nat) (b2 : Nat) (b3 : Nat) (ob5 : Option Nat) (cap5 : Nat) (ob6 : Option Nat) (cap6 : Nat) (bs : List Nat) (bs2 : List Nat) : ∀ r : Int × T_world_World × T_cloud_Cloud, world_World_Hold_x w c name is pools insts = some r → VC Tryz.prog 15 [.ptr b 0, .str name, .bool is] [.box b 43 [.ptr b3 0, Z139 ob w.groups cap, Z103 ob2 w.budgets cap2, Z68 ob3 w.ms cap3, Z64 ob4 w.bs cap4, .map b2], Q139 ob cap w.groups, Q103 ob2 cap2 w.budgets, Q68 ob3 cap3 w.ms, Q64 ob4 cap4 w.bs, .map b2 (List.map (pf VV.str (VV.int .i64)) w.held), .box b3 149 [Z140 A0 A1 ob5 c.pools cap5, Z152 A0 A1 ob6 c.insts cap6, Iw c.delay, Iw c.now, Iw c.calls], Q140 A0 A1 ob5 cap5 c.pools, Q152 A0 A1 ob6 cap6 c.insts, .ar A0 144 bs (List.map T_cloud_pool.cells pools), .ar A1 157 bs2 (List.map (T_cloud_inst.cells A0 A1) insts)] fun zx zH => ∃ (ob0_1 : Option Nat) (cap0_1 : Nat) (ob0_2 : Option Nat) (cap0_2 : Nat) (ob0_3 : Option Nat) (cap0_3 : Nat) (ob0_4 : Option Nat) (cap0_4 : Nat) (b0_5 : Nat) (ob1_0 : Option Nat) (cap1_0 : Nat) (ob1_1 : Option Nat) (cap1_1 : Nat), zx = Iw r.1 ∧ zH = [.box b 43 [.ptr b3 0, Z139 ob0_1 r.2.1.groups cap0_1, Z103 ob0_2 r.2.1.budgets cap0_2, Z68 ob0_3 r.2.1.ms cap0_3, Z64 ob0_4 r.2.1.bs cap0_4, .map b0_5], Q139 ob0_1 cap0_1 r.2.1.groups, Q103 ob0_2 cap0_2 r.2.1.budgets, Q68 ob0_3 cap0_3 r.2.1.ms, Q64 ob0_4 cap0_4 r.2.1.bs, .map b0_5 (List.map (pf VV.str (VV.int .i64)) r.2.1.held), .box b3 149 [Z140 A0 A1 ob1_0 r.2.2.pools cap1_0, Z152 A0 A1 ob1_1 r.2.2.insts cap1_1, Iw r.2.2.delay, Iw r.2.2.now, Iw r.2.2.calls], Q140 A0 A1 ob1_0 cap1_0 r.2.2.pools, Q152 A0 A1 ob1_1 cap1_1 r.2.2.insts, .ar A0 144 bs (List.map T_cloud_pool.cells pools), .ar A1 157 bs2 (List.map (T_cloud_inst.cells A0 A1) insts)] := by
 refine Cj [.tmp 6] Tryz.func15 R R R fun r hm=>?_
 unfold world_World_Hold_x at hm
 refine Af tbk [] R R<|Ag<|Aw<|Ae<|Aa R R (Ah R)<|Bd hm fun r h1 hm=>Ab R R<|Ao 9 R fn60 R (K91 A0 A1 w c b ob cap ob2 cap2 ob3 cap3 ob4 cap4 b2 b3 ob5 cap5 ob6 cap6 r h1) fun _ _ h9=> ?_
 obtain ⟨rfl,rfl⟩:=h9
 refine Ad tbk [] 2 R R<|Ac<|Bm R (congrArg not (Option.some.inj (show some true = some r from h1)).symm)<|Ae<|Aa R R (Ah R)<|Bd hm fun r2 h2 hm=>Ab R R<|Ao 11 R fn71 R (K109 A0 A1 w c pools insts b ob cap ob2 cap2 ob3 cap3 ob4 cap4 b2 b3 ob5 cap5 ob6 cap6 bs bs2 r2 h2) fun _ _ h8=> ?_
 obtain ⟨b4,ob7,cap7,ob8,cap8,rfl,rfl⟩:=h8
 refine Aa R R (Ah R)<|Aa R R (Cm 0 (kf:=VV.str) (vf:=(VV.int .i64)) (l:=r2.1) (k:=name) (z:=(0 : Int)) false mk9 Bv R R R zc3 R)<|Ad tbk [] 2 R R<|Ac<|Aq hm R (fun h4 hm=>?_) fun h4 hm=> ?_
 ·refine Af tbk [] R R<|?_
  obtain rfl:=Option.some.inj hm
  exact Bs ⟨.inl R,_,.cons (.tmp _ _ R) .nil,[1,1,1,1,1,1,1,1,1,1,1],_,R,ob,cap,ob2,cap2,ob3,cap3,ob4,cap4,b2,ob7,cap7,ob8,cap8,R,R⟩
 refine Ae<|Ad tbk [1] 5 R R<|Ab R R<|Df hm (Av (H':=[.map b4 (List.map (pf VV.str (VV.int .i64)) r2.1),.box b 43 [.ptr b3 0,Z139 ob w.groups cap,Z103 ob2 w.budgets cap2,L68 w.ms,Z64 ob4 w.bs cap4,.map b2],Q139 ob cap w.groups,Q103 ob2 cap2 w.budgets,Q64 ob4 cap4 w.bs,.map b2 (List.map (pf VV.str (VV.int .i64)) w.held),.box b3 149 [Z140 A0 A1 ob7 r2.2.pools cap7,Z152 A0 A1 ob8 r2.2.insts cap8,Iw r2.2.delay,Iw r2.2.now,Iw r2.2.calls],Q140 A0 A1 ob7 cap7 r2.2.pools,Q152 A0 A1 ob8 cap8 r2.2.insts,.ar A0 144 bs (List.map T_cloud_pool.cells pools),.ar A1 157 bs2 (List.map (T_cloud_inst.cells A0 A1) insts)]) 4 [(21,L68 w.ms)] R ⟨⟨_,R,.here _ R⟩,trivial⟩ (by exact ⟨.same _,.box _ _ _ _ ⟨.same _,.same _,.same _,.here _ R,.same _,.same _,trivial⟩,.same _,.same _,.same _,.same _,.same _,.same _,.same _,.same _,.same _,trivial⟩)) [.same,.same] R fn72 R (K76 _ _) (fun _=>R) (fun _=>R) fun r3 hm=>Ad tbk [] 2 R R<|Ac<|Aq hm R (fun h6 hm=>?_) fun h6 hm=> ?_
 ·refine Af tbk [] R R<|?_
  obtain rfl:=Option.some.inj hm
  exact Bs ⟨.inl R,_,.cons (.tmp _ _ R) .nil,[1,1,1,1,1,1,1,1,1,1,1],_,R,ob,cap,ob2,cap2,ob3,cap3,ob4,cap4,b2,ob7,cap7,ob8,cap8,R,R⟩
 refine An<|Ae<|Ad tbk [1] 5 R R<|Ab R R<|VO.mapDelete 6 (kf:=VV.str) (vf:=(VV.int .i64)) (l:=w.held) (k:=name) mk9 Bv R R R R<|Ac<|Ag<|Af tbk [] R R<|Aq hm R (fun h7 hm=>?_) fun h7 hm=> ?_
 ·refine Bz<|Ad tbk [1] 5 R R<|Ab R R<|C6 6 (kf:=VV.str) (vf:=(VV.int .i64)) (l:=(V.md w.held name)) (k:=name) (z:=(1 : Int)) mk9 Bv R R R R<|Ac<|Af tbk [] R R<|?_
  obtain rfl:=Option.some.inj hm
  exact Bs ⟨.inl R,_,.cons (.tmp _ _ R) .nil,[1,1,1,1,1,1,1,1,1,1,1],_,R,ob,cap,ob2,cap2,ob3,cap3,ob4,cap4,b2,ob7,cap7,ob8,cap8,R,R⟩
 refine An<|Af tbk [] R R<|?_
 obtain rfl:=Option.some.inj hm
 exact Bs ⟨.inl R,_,.cons (.tmp _ _ R) .nil,[1,1,1,1,1,1,1,1,1,1,1],_,R,ob,cap,ob2,cap2,ob3,cap3,ob4,cap4,b2,ob7,cap7,ob8,cap8,R,R⟩

/-! (*trireme/world.World).Budgets -/
def world_World_Budgets_x (w : T_world_World) (c : T_cloud_Cloud) : Option (List T_api_Budget) :=
 (world_World_there_x w c).bind fun r =>
 (world_own w.budgets).bind fun r2 =>
 some r2
theorem K18 (A0 A1 : Nat) (w : T_world_World) (c : T_cloud_Cloud) (b : Nat) (ob : Option Nat) (cap : Nat) (ob2 : Option Nat) (cap2 : Nat) (ob3 : Option Nat) (cap3 : Nat) (ob4 : Option Nat) (cap4 : Nat) (b2 : Nat) (b3 : Nat) (ob5 : Option Nat) (cap5 : Nat) (ob6 : Option Nat) (cap6 : Nat) : VS2 Tryz.prog 21 (world_World_Budgets_x w c) [.ptr b 0] [.box b 43 [.ptr b3 0, Z139 ob w.groups cap, Z103 ob2 w.budgets cap2, Z68 ob3 w.ms cap3, Z64 ob4 w.bs cap4, .map b2], Q139 ob cap w.groups, Q103 ob2 cap2 w.budgets, Q68 ob3 cap3 w.ms, Q64 ob4 cap4 w.bs, .map b2 (List.map (pf VV.str (VV.int .i64)) w.held), .box b3 149 [Z140 A0 A1 ob5 c.pools cap5, Z152 A0 A1 ob6 c.insts cap6, Iw c.delay, Iw c.now, Iw c.calls], Q140 A0 A1 ob5 cap5 c.pools, Q152 A0 A1 ob6 cap6 c.insts] (fun r ob0 cap0=>Z103 ob0 r cap0) (fun r ob0 cap0=>[Q103 ob0 cap0 r, .box b 43 [.ptr b3 0, Z139 ob w.groups cap, Z103 ob2 w.budgets cap2, Z68 ob3 w.ms cap3, Z64 ob4 w.bs cap4, .map b2], Q139 ob cap w.groups, Q103 ob2 cap2 w.budgets, Q68 ob3 cap3 w.ms, Q64 ob4 cap4 w.bs, .map b2 (List.map (pf VV.str (VV.int .i64)) w.held), .box b3 149 [Z140 A0 A1 ob5 c.pools cap5, Z152 A0 A1 ob6 c.insts cap6, Iw c.delay, Iw c.now, Iw c.calls], Q140 A0 A1 ob5 cap5 c.pools, Q152 A0 A1 ob6 cap6 c.insts]) := by
 refine Cw [.tmp 2] D6 R R R fun r hm=>?_
 unfold world_World_Budgets_x at hm
 refine Af tbk [] R R<|Ag<|Ae<|Aa R R (Ah R)<|Bd hm fun r h1 hm=>Ab R R<|Ao 9 R fn60 R (K91 A0 A1 w c b ob cap ob2 cap2 ob3 cap3 ob4 cap4 b2 b3 ob5 cap5 ob6 cap6 r h1) fun _ _ h5=> ?_
 obtain ⟨rfl,rfl⟩:=h5
 refine Aa R R (B6 R)<|Ac<|Bm R (congrArg not (Option.some.inj (show some true = some r from h1)).symm)<|An<|Ae<|Ad tbk [0] 4 R R<|Bd hm fun r2 h2 hm=>Ab R R<|D9 [103] (LS.freezeE [103] (H':=[.box b 43 [.ptr b3 0,Z139 ob w.groups cap,L103 w.budgets,Z68 ob3 w.ms cap3,Z64 ob4 w.bs cap4,.map b2],Q139 ob cap w.groups,Q68 ob3 cap3 w.ms,Q64 ob4 cap4 w.bs,.map b2 (List.map (pf VV.str (VV.int .i64)) w.held),.box b3 149 [Z140 A0 A1 ob5 c.pools cap5,Z152 A0 A1 ob6 c.insts cap6,Iw c.delay,Iw c.now,Iw c.calls],Q140 A0 A1 ob5 cap5 c.pools,Q152 A0 A1 ob6 cap6 c.insts]) 2 [(9,L103 w.budgets)] R R ⟨⟨_,R,.here _ R⟩,trivial⟩ (by exact ⟨.box _ _ _ _ ⟨.same _,.same _,.here _ R,.same _,.same _,.same _,trivial⟩,.same _,.same _,.same _,.same _,.same _,.same _,.same _,trivial⟩)) [.same] R fn80 R (K63 w.budgets r2 h2) fun _ _ h4=> ?_
 obtain ⟨ob7,cap7,rfl,rfl⟩:=h4
 refine ⟨by simp [noT,noTs],by simp [noH,noTs_map no103_103],?_⟩
 exact Aa R R (Ai R)<|Ac<|Rg2 hm R [0,0,0,0,0,0,0,0,0,0] ob7 cap7 (.cons (.tmp _ _ R) .nil) R R

/-! trireme/triremelaw18.known -/
def law18_known (pools : List T_cloud_pool) (insts : List T_cloud_inst) : Option (Bool × List T_cloud_pool × List T_cloud_inst) :=
 (law18_one).bind fun r =>
 (world_New r ([] : List T_api_Budget) 1 pools insts).bind fun r2 =>
 po r2.1 (
  (if ((r2.2.1 != 0) || true) = true then some true else none).bind fun c =>
  if c = true then
   some (false, r2.2.2.1, r2.2.2.2)
  else
   (world_World_AddPod (⟨(⟨#[112]⟩ : ByteArray), (⟨600, 0, 0, 1, 0⟩ : T_api_Res), ([] : List T_api_Label), ([] : List T_api_Label), ([] : List T_api_Term), ([] : List T_api_Toleration), ([] : List Int), ([] : List T_api_Label), false, ([] : List T_api_Label), 0, 0, (⟨#[]⟩ : ByteArray), false, false, false⟩ : T_api_Pod)).bind fun r3 =>
   (world_World_AddPod (⟨(⟨#[113]⟩ : ByteArray), (⟨600, 0, 0, 1, 0⟩ : T_api_Res), ([] : List T_api_Label), ([] : List T_api_Label), ([] : List T_api_Term), ([] : List T_api_Toleration), ([] : List Int), ([] : List T_api_Label), false, ([] : List T_api_Label), 0, 0, (⟨#[]⟩ : ByteArray), false, false, false⟩ : T_api_Pod)).bind fun r4 =>
   (world_World_AddPod (⟨(⟨#[113]⟩ : ByteArray), (⟨600, 0, 0, 1, 0⟩ : T_api_Res), ([] : List T_api_Label), ([] : List T_api_Label), ([] : List T_api_Term), ([] : List T_api_Toleration), ([] : List Int), ([] : List T_api_Label), false, ([] : List T_api_Label), 0, 0, (⟨#[]⟩ : ByteArray), false, false, false⟩ : T_api_Pod)).bind fun r5 =>
   (world_World_Pass r2.2.2.1 r2.2.2.2).bind fun r6 =>
   (world_World_Bounds).bind fun r7 =>
   (if ((r7.length : Int) != 2) = true then some true else (V.gl r7 (0 : Int)).bind fun x2 =>
   some (!(V.seq x2.On (⟨#[103, 45, 49]⟩ : ByteArray)))).bind fun c2 =>
   (if c2 = true then some true else (V.gl r7 (1 : Int)).bind fun x3 =>
   some (!(V.seq x3.On (⟨#[]⟩ : ByteArray)))).bind fun c3 =>
   (if c3 = true then some true else none).bind fun c4 =>
   (if c4 = true then some true else (world_World_Missing r2.2.2.1 r2.2.2.2).bind fun r8 =>
   some ((r8.length : Int) != 1)).bind fun c5 =>
   if c5 = true then
    some (false, r2.2.2.1, r2.2.2.2)
   else
    (world_World_Pass r2.2.2.1 r2.2.2.2).bind fun r9 =>
    (world_World_Bounds).bind fun r10 =>
    (if ((((r3 == 0) && (r4 == 0)) && (r5 == 15)) && ((r10.length : Int) == 2)) = true then (V.gl r10 (1 : Int)).bind fun x4 =>
    some (V.seq x4.On (⟨#[103, 45, 50]⟩ : ByteArray)) else some false).bind fun c6 =>
    (if c6 = true then (world_World_Machines).bind fun r11 =>
    some ((r11.length : Int) == 2) else some false).bind fun c7 =>
    (if c7 = true then (world_World_Missing r2.2.2.1 r2.2.2.2).bind fun r12 =>
    some ((r12.length : Int) == 0) else some false).bind fun c8 =>
    (if c8 = true then none else some false).bind fun c9 =>
    (if c9 = true then (world_World_Evict (⟨#[122]⟩ : ByteArray)).bind fun r13 =>
    some (r13 == 16) else some false).bind fun c10 =>
    (if c10 = true then (world_World_Evict (⟨#[112]⟩ : ByteArray)).bind fun r14 =>
    some (r14 == 0) else some false).bind fun c11 =>
    (if c11 = true then (world_World_Ready (⟨#[120]⟩ : ByteArray) true).bind fun r15 =>
    some (r15 == 16) else some false).bind fun c12 =>
    (if c12 = true then (world_World_Hold (⟨#[103, 45, 49]⟩ : ByteArray) true r2.2.2.1 r2.2.2.2).bind fun r16 =>
    some (r16 == 22) else some false).bind fun c13 =>
    (if c13 = true then (world_World_Budgets).bind fun r17 =>
    some ((r17.length : Int) == 0) else some false).bind fun c14 =>
    some (c14, r2.2.2.1, r2.2.2.2)) fun x =>
 if (((r2.2.1 != 0) || false) || false) = true then
  some (false, r2.2.2.1, r2.2.2.2)
 else
  (world_World_AddPod_x x.1 x.2 (⟨(⟨#[112]⟩ : ByteArray), (⟨600, 0, 0, 1, 0⟩ : T_api_Res), ([] : List T_api_Label), ([] : List T_api_Label), ([] : List T_api_Term), ([] : List T_api_Toleration), ([] : List Int), ([] : List T_api_Label), false, ([] : List T_api_Label), 0, 0, (⟨#[]⟩ : ByteArray), false, false, false⟩ : T_api_Pod)).bind fun r18 =>
  (world_World_AddPod_x r18.2 x.2 (⟨(⟨#[113]⟩ : ByteArray), (⟨600, 0, 0, 1, 0⟩ : T_api_Res), ([] : List T_api_Label), ([] : List T_api_Label), ([] : List T_api_Term), ([] : List T_api_Toleration), ([] : List Int), ([] : List T_api_Label), false, ([] : List T_api_Label), 0, 0, (⟨#[]⟩ : ByteArray), false, false, false⟩ : T_api_Pod)).bind fun r19 =>
  (world_World_AddPod_x r19.2 x.2 (⟨(⟨#[113]⟩ : ByteArray), (⟨600, 0, 0, 1, 0⟩ : T_api_Res), ([] : List T_api_Label), ([] : List T_api_Label), ([] : List T_api_Term), ([] : List T_api_Toleration), ([] : List Int), ([] : List T_api_Label), false, ([] : List T_api_Label), 0, 0, (⟨#[]⟩ : ByteArray), false, false, false⟩ : T_api_Pod)).bind fun r20 =>
  (world_World_Pass_x r20.2 x.2 r2.2.2.1 r2.2.2.2).bind fun r21 =>
  (world_World_Bounds_x r21.1 r21.2.1).bind fun r22 =>
  (if ((r22.1.length : Int) != 2) = true then some true else (V.gl r22.1 (0 : Int)).bind fun x5 =>
  some (!(V.seq x5.On (⟨#[103, 45, 49]⟩ : ByteArray)))).bind fun c15 =>
  (if c15 = true then some true else (V.gl r22.1 (1 : Int)).bind fun x6 =>
  some (!(V.seq x6.On (⟨#[]⟩ : ByteArray)))).bind fun c16 =>
  if c16 = true then
   some (false, r2.2.2.1, r21.2.2)
  else
   (cloud_Cloud_Increase r21.2.1 (⟨#[103]⟩ : ByteArray) 1 r2.2.2.1 r21.2.2).bind fun r24 =>
   if (r24.1 != 0) = true then
    some (false, r24.2.2.1, r24.2.2.2)
   else
    (world_World_Missing_x r22.2 r24.2.1 r24.2.2.1 r24.2.2.2).bind fun r26 =>
    if ((r26.1.length : Int) != 1) = true then
     some (false, r24.2.2.1, r24.2.2.2)
    else
     (world_World_Pass_x r22.2 r26.2 r24.2.2.1 r24.2.2.2).bind fun r27 =>
     (world_World_Bounds_x r27.1 r27.2.1).bind fun r28 =>
     (if ((((r18.1 == 0) && (r19.1 == 0)) && (r20.1 == 15)) && ((r28.1.length : Int) == 2)) = true then (V.gl r28.1 (1 : Int)).bind fun x7 =>
     some (V.seq x7.On (⟨#[103, 45, 50]⟩ : ByteArray)) else some false).bind fun c17 =>
     if c17 = true then
      (world_World_Machines_x r28.2 r27.2.1).bind fun r30 =>
      if ((r30.1.length : Int) == 2) = true then
       (world_World_Missing_x r30.2 r27.2.1 r24.2.2.1 r27.2.2).bind fun r32 =>
       (if ((r32.1.length : Int) == 0) = true then (cloud_Cloud_Now r32.2).bind fun r33 =>
       some (r33 == 2) else some false).bind fun c18 =>
       if c18 = true then
        (world_World_Evict_x r30.2 r32.2 (⟨#[122]⟩ : ByteArray)).bind fun r35 =>
        if (r35.1 == 16) = true then
         (world_World_Evict_x r35.2 r32.2 (⟨#[112]⟩ : ByteArray)).bind fun r37 =>
         if (r37.1 == 0) = true then
          (world_World_Ready_x r37.2 r32.2 (⟨#[120]⟩ : ByteArray) true).bind fun r39 =>
          if (r39.1 == 16) = true then
           (world_World_Hold_x r39.2 r32.2 (⟨#[103, 45, 49]⟩ : ByteArray) true r24.2.2.1 r27.2.2).bind fun r41 =>
           (if (r41.1 == 22) = true then (world_World_Budgets_x r41.2.1 r41.2.2).bind fun r42 =>
           some ((r42.length : Int) == 0) else some false).bind fun c19 =>
           some (c19, r24.2.2.1, r27.2.2)
          else
           some (false, r24.2.2.1, r27.2.2)
         else
          some (false, r24.2.2.1, r27.2.2)
        else
         some (false, r24.2.2.1, r27.2.2)
       else
        some (false, r24.2.2.1, r27.2.2)
      else
       some (false, r24.2.2.1, r27.2.2)
     else
      some (false, r24.2.2.1, r27.2.2)
theorem K19 (A0 A1 : Nat) (pools : List T_cloud_pool) (insts : List T_cloud_inst) (bs : List Nat) (bs2 : List Nat) : ∀ r : Bool × List T_cloud_pool × List T_cloud_inst, law18_known pools insts = some r → VC Tryz.prog 10 [] [.ar A0 144 bs (List.map T_cloud_pool.cells pools), .ar A1 157 bs2 (List.map (T_cloud_inst.cells A0 A1) insts)] fun zx zH => ∃ (bs_0 : List Nat) (bs_1 : List Nat), zx = .bool r.1 ∧ zH = [.ar A0 144 bs_0 (List.map T_cloud_pool.cells r.2.1), .ar A1 157 bs_1 (List.map (T_cloud_inst.cells A0 A1) r.2.2)] := by
 refine Cj [.tmp 0] Tryz.func10 R R R fun r hm=>?_
 unfold law18_known at hm
 refine Af tbk [] R R<|Ae<|Ab R R<|Ay hm 0 R fn58 R (K37) fun r hm=>Bd hm fun r2 h2 hm=>Ab R R<|Eb 2 [.same,.nil 103,.same] R fn30 R (K79 A0 A1 r ([] : List T_api_Budget) (1 : Int) pools insts bs bs2 r2 h2) fun _ _ h160=> ?_
 obtain ⟨b,b2,ob,cap,ob2,cap2,ob3,cap3,ob4,cap4,ob5,cap5,ob6,cap6,b3,bs3,bs4,rfl,rfl⟩:=h160
 rcases po_or hm with ⟨h159,hm⟩ | ⟨x,h159,hm⟩
 ·rw [h159]
  refine Ad tbk [] 5 R R<|Ac<|Ag<|Ae<|Ad tbk [] 3 R R<|C7 3 19 16 R (fun K' J=>Ad tbk [] 3 R R<|J 2 R R R) (fun h12 K' J=>Bk R R R R R (Ah R)<|Bk R R R R R (Ea C4 R R)<|Aa R R (Cd false R R R)<|J 2 R R R)<|Aa R R (Ah R)<|Bo hm 6 26 20 R (fun _ K' h13 J hm=>Ad tbk [] 6 R R<|J 5 R R (Bj hm)) (fun _ K' h13 J hm=>Bk R R R R R (Ah R)<|absurd hm nofun) fun c hm=>Ac<|Aq hm R (fun h15 hm=>?_) fun h15 hm=> ?_
  ·refine Af tbk [] R R<|?_
   obtain rfl:=Option.some.inj hm
   exact Bs ⟨.inl R,_,.cons (.tmp _ _ R) .nil,[0,0],_,R,bs3,bs4,R,R⟩
  refine An<|Ae<|Aa R R (Bl pl23 R R)<|Aa R R (Bl pl29 R R)<|Ab R R<|Au z29 fun b4=>Ab R R<|Aj (i:=0) R R R ld29 R R R<|Ac<|Ae<|Aa R R (Bl pl23 R R)<|Aa R R (Bl pl29 R R)<|Ab R R<|Au z29 fun b5=>Ab R R<|Aj (i:=0) R R R ld29 R R R<|Ac<|Ae<|Ad tbk [1] 2 R R<|Ab R R<|VO.cn hm 0 [.same,.agg [none,none,none,none,none,none,some 232,some 232,some 189,some 191,some 3,some 232,none,some 232]] R fn12 R (K81 _) fun r3 hm=>Aa R R (Ai R)<|Ac<|Ae<|Ad tbk [0] 2 R R<|Ab R R<|VO.cn hm 0 [.same,.agg [none,none,none,none,none,none,some 232,some 232,some 189,some 191,some 3,some 232,none,some 232]] R fn12 R (K81 _) fun r4 hm=>Aa R R (Ai R)<|Ac<|Ae<|Ad tbk [0] 2 R R<|Ab R R<|VO.cn hm 0 [.same,.agg [none,none,none,none,none,none,some 232,some 232,some 189,some 191,some 3,some 232,none,some 232]] R fn12 R (K81 _) fun r5 hm=>Aa R R (Ai R)<|Ac<|Ae<|Aa R R (Ah R)<|A4 (Bh [2,2,0,0] R)<|Ab R R<|Ay hm 2 R fn11 R (K82 A0 A1 _ _ _ _) fun r6 hm=>Ac<|Ae<|Aa R R (Ah R)<|Ab R R<|Cr hm 0 R fn20 R (K83) fun r7 ob7 cap7 hm=>A4 (Av 0 [(43,L64 r7)] R ⟨⟨_,R,.here _ R⟩,trivial⟩ (FzH.refl _))<|Aa R R (Ai R)<|Ac<|Ag<|Ae<|Aa R R (Ah R)<|Aa R R (A5 T_api_Bound.vv R B1)<|Ad tbk [] 2 R R<|Bo hm 6 53 47 R (fun _ K' h24 J hm=>Ad tbk [] 6 R R<|J 5 R R (Bj hm)) (fun _ K' h24 J hm=>Bk R R R R R (Ah R)<|Bd hm fun x2 h25 hm=>Bk R R R R R (B7 T_api_Bound.vv R R el40 h25)<|Ad tbk [] 4 R R<|J 5 R R (Bj hm)) fun c2 hm=>Aa R R (Ah R)<|Bo hm 6 60 54 R (fun _ K' h27 J hm=>Ad tbk [] 6 R R<|J 5 R R (Bj hm)) (fun _ K' h27 J hm=>Bk R R R R R (Ah R)<|Bd hm fun x3 h28 hm=>Bk R R R R R (B7 T_api_Bound.vv R R el40 h28)<|Ad tbk [] 4 R R<|J 5 R R (Bj hm)) fun c3 hm=>Aa R R (Ah R)<|Bo hm 7 68 61 R (fun _ K' h30 J hm=>Ad tbk [] 7 R R<|J 6 R R (Bj hm)) (fun _ K' h30 J hm=>Bk R R R R R (Ah R)<|absurd hm nofun) fun c4 hm=>Aa R R (Ah R)<|Bo hm 5 74 69 R (fun _ K' h32 J hm=>Ad tbk [] 5 R R<|J 4 R R (Bj hm)) (fun _ K' h32 J hm=>Bk R R R R R (Ah R)<|Bi R R R R R<|Cr hm 2 R fn22 R (K84 A0 A1 _ _ _ _) fun r8 ob8 cap8 hm=>A4 (Av 0 [(71,L70 r8)] R ⟨⟨_,R,.here _ R⟩,trivial⟩ (FzH.refl _))<|Bk R R R R R (A5 T_api_Inst.vv R Co)<|Ad tbk [] 2 R R<|J 5 R R (Bj hm)) fun c5 hm=>Ac<|?_
  refine Aq hm R (fun h36 hm=>?_) fun h36 hm=> ?_
  ·refine Af tbk [] R R<|?_
   obtain rfl:=Option.some.inj hm
   exact Bs ⟨.inl R,_,.cons (.tmp _ _ R) .nil,[0,0],_,R,bs3,bs4,R,R⟩
  refine An<|Ae<|Aa R R (Ah R)<|Ab R R<|Ay hm 2 R fn11 R (K82 A0 A1 _ _ _ _) fun r9 hm=>Ac<|Ae<|Aa R R (Ah R)<|Ab R R<|Cr hm 0 R fn20 R (K83) fun r10 ob9 cap9 hm=>A4 (Av 0 [(78,L64 r10)] R ⟨⟨_,R,.here _ R⟩,trivial⟩ (FzH.refl _))<|Aa R R (Ai R)<|Ac<|Ae<|Ad tbk [] 3 R R<|Cu tbk [] 3 84 81 R R R R R<|Aa R R (Ah R)<|Cu tbk [] 3 88 85 R R R R R<|Aa R R (Ah R)<|Ds 4 93 89 R (fun h42 K' J=>Bk R R R R R (Ah R)<|Bk R R R R R (A5 T_api_Bound.vv R B1)<|Ad tbk [] 2 R R<|J 3 R R R) (fun K' J=>Ad tbk [] 4 R R<|J 3 R R R)<|Aa R R (Ah R)<|Bo hm 6 100 94 R (fun _ K' h43 J hm=>Bk R R R R R (Ah R)<|Bd hm fun x4 h44 hm=>Bk R R R R R (B7 T_api_Bound.vv R R el40 h44)<|Ad tbk [] 4 R R<|J 5 R R (Bj hm)) (fun _ K' h43 J hm=>Ad tbk [] 6 R R<|J 5 R R (Bj hm)) fun c6 hm=>Aa R R (Ah R)<|Bo hm 5 106 101 R (fun _ K' h46 J hm=>Bk R R R R R (Ah R)<|Bi R R R R R<|Cr hm 0 R fn19 R (K85) fun r11 ob10 cap10 hm=>A4 (Av 0 [(103,L68 r11)] R ⟨⟨_,R,.here _ R⟩,trivial⟩ (FzH.refl _))<|Bk R R R R R (A5 T_api_Machine.vv R Ch)<|Ad tbk [] 2 R R<|J 5 R R (Bj hm)) (fun _ K' h46 J hm=>Ad tbk [] 5 R R<|J 4 R R (Bj hm)) fun c7 hm=>Aa R R (Ah R)<|Bo hm 5 112 107 R (fun _ K' h50 J hm=>Bk R R R R R (Ah R)<|Bi R R R R R<|Cr hm 2 R fn22 R (K84 A0 A1 _ _ _ _) fun r12 ob11 cap11 hm=>A4 (Av 0 [(109,L70 r12)] R ⟨⟨_,R,.here _ R⟩,trivial⟩ (FzH.refl _))<|Bk R R R R R (A5 T_api_Inst.vv R Co)<|Ad tbk [] 2 R R<|J 5 R R (Bj hm)) (fun _ K' h50 J hm=>Ad tbk [] 5 R R<|J 4 R R (Bj hm)) fun c8 hm=>Aa R R (Ah R)<|Bo hm 7 120 113 R (fun _ K' h54 J hm=>Bk R R R R R (Ah R)<|absurd hm nofun) (fun _ K' h54 J hm=>Ad tbk [] 7 R R<|J 6 R R (Bj hm)) fun c9 hm=>Aa R R (Ah R)<|Bo hm 4 125 121 R (fun _ K' h56 J hm=>Bk R R R R R (Ah R)<|Bi R R R R R<|Ay hm 0 R fn18 R (K86 _) fun r13 hm=>Ad tbk [] 2 R R<|J 3 R R (Bj hm)) (fun _ K' h56 J hm=>Ad tbk [] 4 R R<|J 3 R R (Bj hm)) fun c10 hm=>Aa R R (Ah R)<|Bo hm 4 130 126 R (fun _ K' h59 J hm=>Bk R R R R R (Ah R)<|Bi R R R R R<|Ay hm 0 R fn18 R (K86 _) fun r14 hm=>Ad tbk [] 2 R R<|J 3 R R (Bj hm)) (fun _ K' h59 J hm=>Ad tbk [] 4 R R<|J 3 R R (Bj hm)) fun c11 hm=>Aa R R (Ah R)<|Bo hm 4 135 131 R (fun _ K' h62 J hm=>Bk R R R R R (Ah R)<|Bi R R R R R<|Ay hm 0 R fn14 R (K88 _ _) fun r15 hm=>Ad tbk [] 2 R R<|J 3 R R (Bj hm)) (fun _ K' h62 J hm=>Ad tbk [] 4 R R<|J 3 R R (Bj hm)) fun c12 hm=>Aa R R (Ah R)<|?_
  refine Bo hm 4 140 136 R (fun _ K' h65 J hm=>Bk R R R R R (Ah R)<|Bi R R R R R<|Ay hm 2 R fn15 R (K89 A0 A1 _ _ _ _ _ _) fun r16 hm=>Ad tbk [] 2 R R<|J 3 R R (Bj hm)) (fun _ K' h65 J hm=>Ad tbk [] 4 R R<|J 3 R R (Bj hm)) fun c13 hm=>Aa R R (Ah R)<|Bo hm 5 146 141 R (fun _ K' h68 J hm=>Bk R R R R R (Ah R)<|Bi R R R R R<|Cr hm 0 R fn21 R (K90) fun r17 ob12 cap12 hm=>A4 (Av 0 [(143,L103 r17)] R ⟨⟨_,R,.here _ R⟩,trivial⟩ (FzH.refl _))<|Bk R R R R R (A5 T_api_Budget.vv R Cp)<|Ad tbk [] 2 R R<|J 5 R R (Bj hm)) (fun _ K' h68 J hm=>Ad tbk [] 5 R R<|J 4 R R (Bj hm)) fun c14 hm=>Aa R R (Ai R)<|Ac<|?_
  obtain rfl:=Option.some.inj hm
  exact Bs ⟨.inl R,_,.cons (.tmp _ _ R) .nil,[0,0],_,R,bs3,bs4,R,R⟩
 ·rw [h159]
  refine Ad tbk [] 5 R R<|Ac<|Ag<|Ae<|Ad tbk [] 3 R R<|C7 3 19 16 R (fun K' J=>Ad tbk [] 3 R R<|J 2 R R R) (fun h72 K' J=>Bk R R R R R (Ah R)<|Bk R R R R R (Ea C4 R R)<|Aa R R (Cd false R R R)<|J 2 R R R)<|Aa R R (Ah R)<|C7 6 26 20 R (fun K' J=>Ad tbk [] 6 R R<|J 5 R R R) (fun h73 K' J=>Ad tbk [0] 4 R R<|Bk R R R R R (Ea Da R R)<|Aa R R (Cd false R R R)<|J 5 R R R)<|Ac<|Aq hm R (fun h74 hm=>?_) fun h74 hm=> ?_
  ·refine Af tbk [] R R<|?_
   obtain rfl:=Option.some.inj hm
   exact Bs ⟨.inl R,_,.cons (.tmp _ _ R) .nil,[9,9],_,R,bs3,bs4,R,R⟩
  refine An<|Ae<|Aa R R (Bl pl23 R R)<|Aa R R (Bl pl29 R R)<|Ab R R<|Au z29 fun b6=>Ab R R<|Aj (i:=0) R R R ld29 R R R<|Ac<|Ae<|Aa R R (Bl pl23 R R)<|Aa R R (Bl pl29 R R)<|Ab R R<|Au z29 fun b7=>Ab R R<|Aj (i:=0) R R R ld29 R R R<|Ac<|Ae<|Ad tbk [1] 2 R R<|Bd hm fun r18 h77 hm=>A4 (Bh [2,2,2,2,2,2,2,2,2,0,0,0,0] R)<|Ab R R<|Eb 9 [.same,.agg [none,none,none,none,none,none,some 232,some 232,some 189,some 191,some 3,some 232,none,some 232]] R fn12 R (K103 A0 A1 x.1 x.2 (⟨(⟨#[112]⟩ : ByteArray),(⟨(600 : Int),(0 : Int),(0 : Int),(1 : Int),(0 : Int)⟩ : T_api_Res),([] : List T_api_Label),([] : List T_api_Label),([] : List T_api_Term),([] : List T_api_Toleration),([] : List Int),([] : List T_api_Label),false,([] : List T_api_Label),(0 : Int),(0 : Int),(⟨#[]⟩ : ByteArray),false,false,false⟩ : T_api_Pod) b ob3 cap3 ob4 cap4 ob5 cap5 ob6 cap6 b3 b2 ob cap ob2 cap2 r18 h77) fun _ _ h158=> ?_
  obtain ⟨ob13,cap13,ob14,cap14,ob15,cap15,ob16,cap16,b8,rfl,rfl⟩:=h158
  refine Aa R R (Ai R)<|Ac<|Ae<|Ad tbk [9] 2 R R<|Bd hm fun r19 h78 hm=>Ab R R<|Eb 9 [.same,.agg [none,none,none,none,none,none,some 232,some 232,some 189,some 191,some 3,some 232,none,some 232]] R fn12 R (K103 A0 A1 r18.2 x.2 (⟨(⟨#[113]⟩ : ByteArray),(⟨(600 : Int),(0 : Int),(0 : Int),(1 : Int),(0 : Int)⟩ : T_api_Res),([] : List T_api_Label),([] : List T_api_Label),([] : List T_api_Term),([] : List T_api_Toleration),([] : List Int),([] : List T_api_Label),false,([] : List T_api_Label),(0 : Int),(0 : Int),(⟨#[]⟩ : ByteArray),false,false,false⟩ : T_api_Pod) b ob13 cap13 ob14 cap14 ob15 cap15 ob16 cap16 b8 b2 ob cap ob2 cap2 r19 h78) fun _ _ h157=> ?_
  obtain ⟨ob17,cap17,ob18,cap18,ob19,cap19,ob20,cap20,b9,rfl,rfl⟩:=h157
  refine Aa R R (Ai R)<|Ac<|Ae<|Ad tbk [9] 2 R R<|Bd hm fun r20 h79 hm=>Ab R R<|Eb 9 [.same,.agg [none,none,none,none,none,none,some 232,some 232,some 189,some 191,some 3,some 232,none,some 232]] R fn12 R (K103 A0 A1 r19.2 x.2 (⟨(⟨#[113]⟩ : ByteArray),(⟨(600 : Int),(0 : Int),(0 : Int),(1 : Int),(0 : Int)⟩ : T_api_Res),([] : List T_api_Label),([] : List T_api_Label),([] : List T_api_Term),([] : List T_api_Toleration),([] : List Int),([] : List T_api_Label),false,([] : List T_api_Label),(0 : Int),(0 : Int),(⟨#[]⟩ : ByteArray),false,false,false⟩ : T_api_Pod) b ob17 cap17 ob18 cap18 ob19 cap19 ob20 cap20 b9 b2 ob cap ob2 cap2 r20 h79) fun _ _ h156=> ?_
  obtain ⟨ob21,cap21,ob22,cap22,ob23,cap23,ob24,cap24,b10,rfl,rfl⟩:=h156
  refine Aa R R (Ai R)<|Ac<|Ae<|Aa R R (Ah R)<|Bd hm fun r21 h80 hm=>A4 (Bh [0,0,0,0,0,0,0,0,0,2,2,0,0] R)<|Ab R R<|Ao 11 R fn11 R (K1 A0 A1 r20.2 x.2 r2.2.2.1 r2.2.2.2 b ob21 cap21 ob22 cap22 ob23 cap23 ob24 cap24 b10 b2 ob cap ob2 cap2 bs3 bs4 r21 h80) fun _ _ h155=> ?_
  obtain ⟨ob25,cap25,ob26,cap26,ob27,cap27,ob28,cap28,b11,ob29,cap29,ob30,cap30,bs5,rfl,rfl⟩:=h155
  refine Ac<|Ae<|Aa R R (Ah R)<|Bd hm fun r22 h81 hm=>Ab R R<|Ao 9 R fn20 R (K2 A0 A1 r21.1 r21.2.1 b ob25 cap25 ob26 cap26 ob27 cap27 ob28 cap28 b11 b2 ob29 cap29 ob30 cap30 r22 h81) fun _ _ h154=> ?_
  obtain ⟨ob31,cap31,ob32,cap32,ob33,cap33,ob34,cap34,ob35,cap35,b12,rfl,rfl⟩:=h154
  refine A4 (Av 0 [(43,L64 r22.1)] R ⟨⟨_,R,.here _ R⟩,trivial⟩ (FzH.refl _))<|Aa R R (Ai R)<|Ac<|Ag<|Ae<|Aa R R (Ah R)<|Aa R R (A5 T_api_Bound.vv R B1)<|Ad tbk [] 2 R R<|Bo hm 6 53 47 R (fun _ K' h83 J hm=>Ad tbk [] 6 R R<|J 5 R R (Bj hm)) (fun _ K' h83 J hm=>Bk R R R R R (Ah R)<|Bd hm fun x5 h84 hm=>Bk R R R R R (B7 T_api_Bound.vv R R el40 h84)<|Ad tbk [] 4 R R<|J 5 R R (Bj hm)) fun c15 hm=>Aa R R (Ah R)<|Bo hm 6 60 54 R (fun _ K' h86 J hm=>Ad tbk [] 6 R R<|J 5 R R (Bj hm)) (fun _ K' h86 J hm=>Bk R R R R R (Ah R)<|Bd hm fun x6 h87 hm=>Bk R R R R R (B7 T_api_Bound.vv R R el40 h87)<|Ad tbk [] 4 R R<|J 5 R R (Bj hm)) fun c16 hm=>Aa R R (Ah R)<|Dp hm 61 R (fun h91 hm=>?_) fun h91 hm=> ?_
  ·refine Ad tbk [] 13 R R<|Ac<|Bg R R<|Af tbk [] R R<|?_
   obtain rfl:=Option.some.inj hm
   exact Bs ⟨.inl R,_,.cons (.tmp _ _ R) .nil,[9,9],_,R,bs3,bs5,R,R⟩
  refine Ad tbk [0] 4 R R<|Bd hm fun r24 h92 hm=>A4 (Bh [6,6,6,6,6,0,0,0,0,0,0,0,0] R)<|Bi R R R R R<|Ao 5 R fn24 R (K5 A0 A1 r21.2.1 (⟨#[103]⟩ : ByteArray) (1 : Int) r2.2.2.1 r21.2.2 b2 ob29 cap29 ob30 cap30 bs3 bs5 r24 h92) fun _ _ h153=> ?_
  obtain ⟨ob38,cap38,ob39,cap39,bs8,bs9,rfl,rfl⟩:=h153
  refine Ad tbk [] 3 R R<|Dp hm 69 R (fun h96 hm=>?_) fun h96 hm=> ?_
  ·refine Ad tbk [] 5 R R<|Ac<|Bg R R<|Af tbk [] R R<|?_
   obtain rfl:=Option.some.inj hm
   exact Bs ⟨.inl R,_,.cons (.tmp _ _ R) .nil,[3,3],_,R,bs8,bs9,R,R⟩
  refine Bk R R R R R (Ah R)<|Bd hm fun r26 h97 hm=>A4 (Bh [5,5,5,5,5,5,0,0,0,0,0,0,0] R)<|Bi R R R R R<|Ao 11 R fn22 R (K6 A0 A1 r22.2 r24.2.1 r24.2.2.1 r24.2.2.2 b ob32 cap32 ob33 cap33 ob34 cap34 ob35 cap35 b12 b2 ob38 cap38 ob39 cap39 bs8 bs9 r26 h97) fun _ _ h152=> ?_
  obtain ⟨ob43,cap43,ob44,cap44,ob45,cap45,rfl,rfl⟩:=h152
  refine A4 (Av 0 [(71,L70 r26.1)] R ⟨⟨_,R,.here _ R⟩,trivial⟩ (FzH.refl _))<|Bk R R R R R (A5 T_api_Inst.vv R Co)<|Ad tbk [] 2 R R<|Ac<|Aq hm R (fun h99 hm=>?_) fun h99 hm=> ?_
  ·refine Af tbk [] R R<|?_
   obtain rfl:=Option.some.inj hm
   exact Bs ⟨.inl R,_,.cons (.tmp _ _ R) .nil,[9,9],_,R,bs8,bs9,R,R⟩
  refine An<|Ae<|Aa R R (Ah R)<|Bd hm fun r27 h100 hm=>Ab R R<|Ao 11 R fn11 R (K1 A0 A1 r22.2 r26.2 r24.2.2.1 r24.2.2.2 b ob32 cap32 ob33 cap33 ob34 cap34 ob35 cap35 b12 b2 ob44 cap44 ob45 cap45 bs8 bs9 r27 h100) fun _ _ h151=> ?_
  obtain ⟨ob46,cap46,ob47,cap47,ob48,cap48,ob49,cap49,b13,ob50,cap50,ob51,cap51,bs10,rfl,rfl⟩:=h151
  refine Ac<|Ae<|Aa R R (Ah R)<|Bd hm fun r28 h101 hm=>Ab R R<|Ao 9 R fn20 R (K2 A0 A1 r27.1 r27.2.1 b ob46 cap46 ob47 cap47 ob48 cap48 ob49 cap49 b13 b2 ob50 cap50 ob51 cap51 r28 h101) fun _ _ h150=> ?_
  obtain ⟨ob52,cap52,ob53,cap53,ob54,cap54,ob55,cap55,ob56,cap56,b14,rfl,rfl⟩:=h150
  refine A4 (Av 0 [(78,L64 r28.1)] R ⟨⟨_,R,.here _ R⟩,trivial⟩ (FzH.refl _))<|Aa R R (Ai R)<|Ac<|Ae<|Ad tbk [] 3 R R<|Cu tbk [] 3 84 81 R R R R R<|Aa R R (Ah R)<|Cu tbk [] 3 88 85 R R R R R<|Aa R R (Ah R)<|Ds 4 93 89 R (fun h105 K' J=>Bk R R R R R (Ah R)<|Bk R R R R R (A5 T_api_Bound.vv R B1)<|Ad tbk [] 2 R R<|J 3 R R R) (fun K' J=>Ad tbk [] 4 R R<|J 3 R R R)<|Aa R R (Ah R)<|Bo hm 6 100 94 R (fun _ K' h106 J hm=>Bk R R R R R (Ah R)<|Bd hm fun x7 h107 hm=>Bk R R R R R (B7 T_api_Bound.vv R R el40 h107)<|Ad tbk [] 4 R R<|J 5 R R (Bj hm)) (fun _ K' h106 J hm=>Ad tbk [] 6 R R<|J 5 R R (Bj hm)) fun c17 hm=>Aa R R (Ah R)<|Dp hm 101 R (fun h112 hm=>?_) fun h112 hm=> ?_
  ·refine Bk R R R R R (Ah R)<|Bd hm fun r30 h113 hm=>Bi R R R R R<|Ao 9 R fn19 R (K7 A0 A1 r28.2 r27.2.1 b ob53 cap53 ob54 cap54 ob55 cap55 ob56 cap56 b14 b2 ob50 cap50 ob51 cap51 r30 h113) fun _ _ h149=> ?_
   obtain ⟨ob62,cap62,ob63,cap63,ob64,cap64,ob65,cap65,ob66,cap66,b16,rfl,rfl⟩:=h149
   refine A4 (Av 0 [(103,L68 r30.1)] R ⟨⟨_,R,.here _ R⟩,trivial⟩ (FzH.refl _))<|Bk R R R R R (A5 T_api_Machine.vv R Ch)<|Ad tbk [] 3 R R<|Dp hm 107 R (fun h118 hm=>?_) fun h118 hm=> ?_
   ·refine Bk R R R R R (Ah R)<|Bd hm fun r32 h119 hm=>Bi R R R R R<|Ao 11 R fn22 R (K6 A0 A1 r30.2 r27.2.1 r24.2.2.1 r27.2.2 b ob63 cap63 ob64 cap64 ob65 cap65 ob66 cap66 b16 b2 ob50 cap50 ob51 cap51 bs8 bs10 r32 h119) fun _ _ h148=> ?_
    obtain ⟨ob70,cap70,ob71,cap71,ob72,cap72,rfl,rfl⟩:=h148
    refine A4 (Av 0 [(109,L70 r32.1)] R ⟨⟨_,R,.here _ R⟩,trivial⟩ (FzH.refl _))<|Bk R R R R R (A5 T_api_Inst.vv R Co)<|Ad tbk [] 3 R R<|Bo hm 7 120 113 R (fun _ K' h121 J hm=>Ad tbk [0] 4 R R<|A4 (Bh [6,6,6,0,0,0,0,0,0,0,0,0,0] R)<|Bi R R R R R<|Ay hm 3 R fn59 R (K8 A0 A1 _ _ _ _ _ _) fun r33 hm=>Ad tbk [] 2 R R<|A4 (Bh [3,3,3,3,3,3,0,0,0,0,0,0,0] R)<|J 6 R R (Bj hm)) (fun _ K' h121 J hm=>Ad tbk [] 7 R R<|J 6 R R (Bj hm)) fun c18 hm=>Aa R R (Ah R)<|Dp hm 121 R (fun h126 hm=>?_) fun h126 hm=> ?_
    ·refine Bk R R R R R (Ah R)<|Bd hm fun r35 h127 hm=>Bi R R R R R<|Ao 9 R fn18 R (K13 A0 A1 r30.2 r32.2 (⟨#[122]⟩ : ByteArray) b ob63 cap63 ob64 cap64 ob65 cap65 ob66 cap66 b16 b2 ob71 cap71 ob72 cap72 r35 h127) fun _ _ h147=> ?_
     obtain ⟨ob77,cap77,ob78,cap78,ob79,cap79,ob80,cap80,b18,rfl,rfl⟩:=h147
     refine Ad tbk [] 3 R R<|Dp hm 126 R (fun h130 hm=>?_) fun h130 hm=> ?_
     ·refine Bk R R R R R (Ah R)<|Bd hm fun r37 h131 hm=>Bi R R R R R<|Ao 9 R fn18 R (K13 A0 A1 r35.2 r32.2 (⟨#[112]⟩ : ByteArray) b ob77 cap77 ob78 cap78 ob79 cap79 ob80 cap80 b18 b2 ob71 cap71 ob72 cap72 r37 h131) fun _ _ h146=> ?_
      obtain ⟨ob85,cap85,ob86,cap86,ob87,cap87,ob88,cap88,b20,rfl,rfl⟩:=h146
      refine Ad tbk [] 3 R R<|Dp hm 131 R (fun h134 hm=>?_) fun h134 hm=> ?_
      ·refine Bk R R R R R (Ah R)<|Bd hm fun r39 h135 hm=>Bi R R R R R<|Ao 9 R fn14 R (K16 A0 A1 r37.2 r32.2 (⟨#[120]⟩ : ByteArray) true b ob85 cap85 ob86 cap86 ob87 cap87 ob88 cap88 b20 b2 ob71 cap71 ob72 cap72 r39 h135) fun _ _ h145=> ?_
       obtain ⟨ob93,cap93,ob94,cap94,ob95,cap95,ob96,cap96,b22,rfl,rfl⟩:=h145
       refine Ad tbk [] 3 R R<|Dp hm 136 R (fun h138 hm=>?_) fun h138 hm=> ?_
       ·refine Bk R R R R R (Ah R)<|Bd hm fun r41 h139 hm=>Bi R R R R R<|Ao 11 R fn15 R (K17 A0 A1 r39.2 r32.2 (⟨#[103,45,49]⟩ : ByteArray) true r24.2.2.1 r27.2.2 b ob93 cap93 ob94 cap94 ob95 cap95 ob96 cap96 b22 b2 ob71 cap71 ob72 cap72 bs8 bs10 r41 h139) fun _ _ h144=> ?_
        obtain ⟨ob103,cap103,ob104,cap104,ob105,cap105,ob106,cap106,b24,ob107,cap107,ob108,cap108,rfl,rfl⟩:=h144
        refine Ad tbk [] 3 R R<|Bo hm 5 146 141 R (fun _ K' h140 J hm=>Bk R R R R R (Ah R)<|Bi R R R R R<|Cr hm 9 R fn21 R (K18 A0 A1 _ _ _ _ _ _ _ _ _ _ _ _ _ _ _ _ _) fun r42 ob109 cap109 hm=>A4 (Av 0 [(143,L103 r42)] R ⟨⟨_,R,.here _ R⟩,trivial⟩ (FzH.refl _))<|Bk R R R R R (A5 T_api_Budget.vv R Cp)<|Ad tbk [] 2 R R<|J 5 R R (Bj hm)) (fun _ K' h140 J hm=>Ad tbk [] 5 R R<|J 4 R R (Bj hm)) fun c19 hm=>Aa R R (Ai R)<|Ac<|?_
        obtain rfl:=Option.some.inj hm
        exact Bs ⟨.inl R,_,.cons (.tmp _ _ R) .nil,[9,9],_,R,bs8,bs10,R,R⟩
       refine Ad tbk [] 11 R R<|Ac<|?_
       obtain rfl:=Option.some.inj hm
       exact Bs ⟨.inl R,_,.cons (.tmp _ _ R) .nil,[9,9],_,R,bs8,bs10,R,R⟩
      refine Ad tbk [] 16 R R<|Ac<|?_
      obtain rfl:=Option.some.inj hm
      exact Bs ⟨.inl R,_,.cons (.tmp _ _ R) .nil,[9,9],_,R,bs8,bs10,R,R⟩
     refine Ad tbk [] 21 R R<|Ac<|?_
     obtain rfl:=Option.some.inj hm
     exact Bs ⟨.inl R,_,.cons (.tmp _ _ R) .nil,[9,9],_,R,bs8,bs10,R,R⟩
    refine Ad tbk [] 26 R R<|Ac<|?_
    obtain rfl:=Option.some.inj hm
    exact Bs ⟨.inl R,_,.cons (.tmp _ _ R) .nil,[9,9],_,R,bs8,bs10,R,R⟩
   refine Ad tbk [] 40 R R<|Ac<|?_
   obtain rfl:=Option.some.inj hm
   exact Bs ⟨.inl R,_,.cons (.tmp _ _ R) .nil,[9,9],_,R,bs8,bs10,R,R⟩
  refine Ad tbk [] 46 R R<|Ac<|?_
  obtain rfl:=Option.some.inj hm
  exact Bs ⟨.inl R,_,.cons (.tmp _ _ R) .nil,[9,9],_,R,bs8,bs10,R,R⟩

/-! (*trireme/world.World).there -/
def world_World_there_x_x (w : T_world_World) : Option Bool :=
 some false
theorem K20 (w : T_world_World) (b : Nat) : VS Tryz.prog 60 (world_World_there_x_x w) [.ptr b 0] [.box b 43 [.nilptr, L139 w.groups, L103 w.budgets, L68 w.ms, L64 w.bs, .nilmap]] .bool (fun r=>[.box b 43 [.nilptr, L139 w.groups, L103 w.budgets, L68 w.ms, L64 w.bs, .nilmap]]) := by
 refine Ax [.tmp 2] D7 R R R fun r hm=>?_
 unfold world_World_there_x_x at hm
 exact Af tbk [] R R<|Ae<|Aa R R (Ah R)<|Aa R R (Dj C4 R R)<|Ad tbk [0] 5 R R<|Bk R R R R R (Dj Da R R)<|Ad tbk [] 2 R R<|Ac<|Rt1 hm R [0] R R R

/-! (*trireme/world.World).Pass -/
def world_World_Pass_x_x (w : T_world_World) (pools : List T_cloud_pool) (insts : List T_cloud_inst) : Option Unit :=
 (world_World_there_x_x w).bind fun r =>
 some ()
theorem K21 (A0 A1 : Nat) (w : T_world_World) (pools : List T_cloud_pool) (insts : List T_cloud_inst) (b : Nat) (bs : List Nat) (bs2 : List Nat) : VS Tryz.prog 11 (world_World_Pass_x_x w pools insts) [.ptr b 0] [.box b 43 [.nilptr, L139 w.groups, L103 w.budgets, L68 w.ms, L64 w.bs, .nilmap], .ar A0 144 bs (List.map T_cloud_pool.cells pools), .ar A1 157 bs2 (List.map (T_cloud_inst.cells A0 A1) insts)] (fun r=>.tup []) (fun r=>[.box b 43 [.nilptr, L139 w.groups, L103 w.budgets, L68 w.ms, L64 w.bs, .nilmap], .ar A0 144 bs (List.map T_cloud_pool.cells pools), .ar A1 157 bs2 (List.map (T_cloud_inst.cells A0 A1) insts)]) := by
 refine Ax [] D2 R R R fun r hm=>?_
 unfold world_World_Pass_x_x at hm
 refine Ag<|Ae<|Aa R R (Ah R)<|Bd hm fun r h1 hm=>Ab R R<|Ao 1 R fn60 R (K20 w b r h1) fun _ _ h2=> ?_
 obtain ⟨rfl,rfl⟩:=h2
 exact Aa R R (B6 R)<|Ac<|Bg R (congrArg not (Option.some.inj (show some false = some r from h1)).symm)<|Rt0 hm R [0,0,0] (.nil) R R

/-! (*trireme/world.World).AddPod -/
def world_World_AddPod_x_x (w : T_world_World) (p : T_api_Pod) : Option Int :=
 (world_World_there_x_x w).bind fun r =>
 some 23
theorem K22 (w : T_world_World) (p : T_api_Pod) (b : Nat) : VS Tryz.prog 12 (world_World_AddPod_x_x w p) [.ptr b 0, T_api_Pod.vv p] [.box b 43 [.nilptr, L139 w.groups, L103 w.budgets, L68 w.ms, L64 w.bs, .nilmap]] Iw (fun r=>[.box b 43 [.nilptr, L139 w.groups, L103 w.budgets, L68 w.ms, L64 w.bs, .nilmap]]) := by
 refine Ax [.tmp 4] D8 R R R fun r hm=>?_
 unfold world_World_AddPod_x_x at hm
 refine Ae<|Ab R R<|Be R R fun b2=>Aa R R (Ai R)<|Ac<|Ag<|Aw<|Ae<|Aa R R (Ah R)<|Bd hm fun r h2 hm=>A4 (Bh [1,0] R)<|Ab R R<|Ao 1 R fn60 R (K20 w b r h2) fun _ _ h3=> ?_
 obtain ⟨rfl,rfl⟩:=h3
 exact Ad tbk [] 2 R R<|Ac<|Bg R (congrArg not (Option.some.inj (show some false = some r from h2)).symm)<|Af tbk [] R R<|Rt1 hm R [0] R R R

/-! (*trireme/world.World).DropPod -/
def world_World_DropPod (name : ByteArray) : Option Int :=
 (world_World_there).bind fun r =>
 some 23
theorem K23 (name : ByteArray) : VS Tryz.prog 13 (world_World_DropPod name) [.nilptr, .str name] [] Iw N0 := by
 refine Ax [.tmp 4] Tryz.func13 R R R fun r hm=>?_
 unfold world_World_DropPod at hm
 refine Af tbk [] R R<|Ag<|Ae<|Aa R R (Ah R)<|Bd hm fun r h1 hm=>Ab R R<|Ao 0 R fn60 R (K80 r h1) fun _ _ h2=> ?_
 obtain ⟨rfl,rfl⟩:=h2
 exact Aa R R (B6 R)<|Ac<|Bg R (congrArg not (Option.some.inj (show some false = some r from h1)).symm)<|Af tbk [] R R<|Rt1 hm R [] R R R

/-! (*trireme/world.World).on -/
def world_World_on_world_World_Ready_1_x_x (w : T_world_World) (name : ByteArray) (c : Bool) : Option Int :=
 (world_World_there_x_x w).bind fun r =>
 some 23
theorem K24 (w : T_world_World) (name : ByteArray) (c : Bool) (b : Nat) (b2 : Nat) : VS Tryz.prog 69 (world_World_on_world_World_Ready_1_x_x w name c) [.ptr b 0, .str name, .clo (.func 70) [] [.ptr b2 0]] [.box b 43 [.nilptr, L139 w.groups, L103 w.budgets, L68 w.ms, L64 w.bs, .nilmap], .box b2 4 [.bool c]] Iw (fun r=>[.box b 43 [.nilptr, L139 w.groups, L103 w.budgets, L68 w.ms, L64 w.bs, .nilmap], .box b2 4 [.bool c]]) := by
 refine Ax [.tmp 6] Dg R R R fun r hm=>?_
 unfold world_World_on_world_World_Ready_1_x_x at hm
 refine Af tbk [] R R<|Ag<|Ae<|Aa R R (Ah R)<|Bd hm fun r h1 hm=>Ab R R<|Ao 1 R fn60 R (K20 w b r h1) fun _ _ h2=> ?_
 obtain ⟨rfl,rfl⟩:=h2
 exact Aa R R (B6 R)<|Ac<|Bg R (congrArg not (Option.some.inj (show some false = some r from h1)).symm)<|Af tbk [] R R<|Rt1 hm R [0,0] R R R

/-! (*trireme/world.World).Ready -/
def world_World_Ready_x_x (w : T_world_World) (name : ByteArray) (is : Bool) : Option Int :=
 (world_World_on_world_World_Ready_1_x_x w name is).bind fun r =>
 some r
theorem K25 (w : T_world_World) (name : ByteArray) (is : Bool) (b : Nat) : VS Tryz.prog 14 (world_World_Ready_x_x w name is) [.ptr b 0, .str name, .bool is] [.box b 43 [.nilptr, L139 w.groups, L103 w.budgets, L68 w.ms, L64 w.bs, .nilmap]] Iw (fun r=>[.box b 43 [.nilptr, L139 w.groups, L103 w.budgets, L68 w.ms, L64 w.bs, .nilmap]]) := by
 refine Ax [.tmp 6] D5 R R R fun r hm=>?_
 unfold world_World_Ready_x_x at hm
 exact Ae<|Ab R R<|Be R R fun b2=>Aa R R (Ai R)<|Ac<|Ae<|Ad tbk [] 2 R R<|Aa R R (Cq R R)<|A4 (Bh [1,0] R)<|Ab R R<|Ay hm 2 R fn69 R (K24 _ _ _ _ _) fun r hm=>Aa R R (Ai R)<|Ac<|Rt1 hm R [0] R R R

/-! (*trireme/world.World).on -/
def world_World_on_world_World_Taint_1 (w : T_world_World) (name : ByteArray) (c : T_api_Taint) : Option Int :=
 (world_World_there_x_x w).bind fun r =>
 some 23
theorem K26 (w : T_world_World) (name : ByteArray) (c : T_api_Taint) (b : Nat) (b2 : Nat) : VS Tryz.prog 69 (world_World_on_world_World_Taint_1 w name c) [.ptr b 0, .str name, .clo (.func 73) [] [.ptr b2 0]] [.box b 43 [.nilptr, L139 w.groups, L103 w.budgets, L68 w.ms, L64 w.bs, .nilmap], X31 b2 c] Iw (fun r=>[.box b 43 [.nilptr, L139 w.groups, L103 w.budgets, L68 w.ms, L64 w.bs, .nilmap], X31 b2 c]) := by
 refine Ax [.tmp 6] Dg R R R fun r hm=>?_
 unfold world_World_on_world_World_Taint_1 at hm
 refine Af tbk [] R R<|Ag<|Ae<|Aa R R (Ah R)<|Bd hm fun r h1 hm=>Ab R R<|Ao 1 R fn60 R (K20 w b r h1) fun _ _ h2=> ?_
 obtain ⟨rfl,rfl⟩:=h2
 exact Aa R R (B6 R)<|Ac<|Bg R (congrArg not (Option.some.inj (show some false = some r from h1)).symm)<|Af tbk [] R R<|Rt1 hm R [0,0] R R R

/-! (*trireme/world.World).Taint -/
def world_World_Taint (w : T_world_World) (name : ByteArray) (x : T_api_Taint) : Option Int :=
 (world_World_on_world_World_Taint_1 w name x).bind fun r =>
 some r
theorem K27 (w : T_world_World) (name : ByteArray) (x : T_api_Taint) (b : Nat) : VS Tryz.prog 16 (world_World_Taint w name x) [.ptr b 0, .str name, T_api_Taint.vv x] [.box b 43 [.nilptr, L139 w.groups, L103 w.budgets, L68 w.ms, L64 w.bs, .nilmap]] Iw (fun r=>[.box b 43 [.nilptr, L139 w.groups, L103 w.budgets, L68 w.ms, L64 w.bs, .nilmap]]) := by
 refine Ax [.tmp 6] Tryz.func16 R R R fun r hm=>?_
 unfold world_World_Taint at hm
 exact Ae<|Ab R R<|Be R R fun b2=>Aa R R (Ai R)<|Ac<|Ae<|Ad tbk [] 2 R R<|Aa R R (Cq R R)<|A4 (Bh [1,0] R)<|Ab R R<|Ay hm 2 R fn69 R (K26 _ _ _ _ _) fun r hm=>Aa R R (Ai R)<|Ac<|Rt1 hm R [0] R R R

/-! (*trireme/world.World).on -/
def world_World_on_world_World_Untaint_1 (name : ByteArray) (c : ByteArray) : Option Int :=
 (world_World_there).bind fun r =>
 some 23
theorem K28 (name : ByteArray) (c : ByteArray) (b : Nat) : VS Tryz.prog 69 (world_World_on_world_World_Untaint_1 name c) [.nilptr, .str name, .clo (.func 76) [] [.ptr b 0]] [.box b 9 [.str c]] Iw (fun r=>[.box b 9 [.str c]]) := by
 refine Ax [.tmp 6] Dg R R R fun r hm=>?_
 unfold world_World_on_world_World_Untaint_1 at hm
 refine Af tbk [] R R<|Ag<|Ae<|Aa R R (Ah R)<|Bd hm fun r h1 hm=>Ab R R<|Ao 0 R fn60 R (K80 r h1) fun _ _ h2=> ?_
 obtain ⟨rfl,rfl⟩:=h2
 exact Aa R R (B6 R)<|Ac<|Bg R (congrArg not (Option.some.inj (show some false = some r from h1)).symm)<|Af tbk [] R R<|Rt1 hm R [0] R R R

/-! (*trireme/world.World).Untaint -/
def world_World_Untaint (name : ByteArray) (key : ByteArray) : Option Int :=
 (world_World_on_world_World_Untaint_1 name key).bind fun r =>
 some r
theorem K29 (name : ByteArray) (key : ByteArray) : VS Tryz.prog 17 (world_World_Untaint name key) [.nilptr, .str name, .str key] [] Iw N0 := by
 refine Ax [.tmp 6] Tryz.func17 R R R fun r hm=>?_
 unfold world_World_Untaint at hm
 exact Ae<|Ab R R<|Be R R fun b=>Aa R R (Ai R)<|Ac<|Ae<|Ad tbk [] 2 R R<|Aa R R (Cq R R)<|Ab R R<|Ay hm 1 R fn69 R (K28 _ _ _) fun r hm=>Aa R R (Ai R)<|Ac<|Rt1 hm R [] R R R

/-! (*trireme/world.World).Evict -/
def world_World_Evict_x_x (w : T_world_World) (name : ByteArray) : Option Int :=
 (world_World_there_x_x w).bind fun r =>
 some 23
theorem K30 (w : T_world_World) (name : ByteArray) (b : Nat) : VS Tryz.prog 18 (world_World_Evict_x_x w name) [.ptr b 0, .str name] [.box b 43 [.nilptr, L139 w.groups, L103 w.budgets, L68 w.ms, L64 w.bs, .nilmap]] Iw (fun r=>[.box b 43 [.nilptr, L139 w.groups, L103 w.budgets, L68 w.ms, L64 w.bs, .nilmap]]) := by
 refine Ax [.tmp 4] D4 R R R fun r hm=>?_
 unfold world_World_Evict_x_x at hm
 refine Af tbk [] R R<|Ag<|Ae<|Aa R R (Ah R)<|Bd hm fun r h1 hm=>Ab R R<|Ao 1 R fn60 R (K20 w b r h1) fun _ _ h2=> ?_
 obtain ⟨rfl,rfl⟩:=h2
 exact Aa R R (B6 R)<|Ac<|Bg R (congrArg not (Option.some.inj (show some false = some r from h1)).symm)<|Af tbk [] R R<|Rt1 hm R [0] R R R

/-! (*trireme/world.World).Machines -/
def world_World_Machines_x_x (w : T_world_World) : Option (List T_api_Machine) :=
 (world_World_there_x_x w).bind fun r =>
 some ([] : List T_api_Machine)
theorem K31 (w : T_world_World) (b : Nat) : VS2 Tryz.prog 19 (world_World_Machines_x_x w) [.ptr b 0] [.box b 43 [.nilptr, L139 w.groups, L103 w.budgets, L68 w.ms, L64 w.bs, .nilmap]] (fun r ob0 cap0=>Z68 ob0 r cap0) (fun r ob0 cap0=>[Q68 ob0 cap0 r, .box b 43 [.nilptr, L139 w.groups, L103 w.budgets, L68 w.ms, L64 w.bs, .nilmap]]) := by
 refine Cw [.tmp 2] D3 R R R fun r hm=>?_
 unfold world_World_Machines_x_x at hm
 refine Af tbk [] R R<|Ag<|Ae<|Aa R R (Ah R)<|Bd hm fun r h1 hm=>Ab R R<|Ao 1 R fn60 R (K20 w b r h1) fun _ _ h3=> ?_
 obtain ⟨rfl,rfl⟩:=h3
 exact Aa R R (B6 R)<|Ac<|Bg R (congrArg not (Option.some.inj (show some false = some r from h1)).symm)<|Af tbk [] R R<|Bq (A9 68)<|Rg2 hm R [0,0] none 0 (.cons (.tmp _ _ R) .nil) R R

/-! (*trireme/world.World).Budgets -/
def world_World_Budgets_x_x (w : T_world_World) : Option (List T_api_Budget) :=
 (world_World_there_x_x w).bind fun r =>
 some ([] : List T_api_Budget)
theorem K32 (w : T_world_World) (b : Nat) : VS2 Tryz.prog 21 (world_World_Budgets_x_x w) [.ptr b 0] [.box b 43 [.nilptr, L139 w.groups, L103 w.budgets, L68 w.ms, L64 w.bs, .nilmap]] (fun r ob0 cap0=>Z103 ob0 r cap0) (fun r ob0 cap0=>[Q103 ob0 cap0 r, .box b 43 [.nilptr, L139 w.groups, L103 w.budgets, L68 w.ms, L64 w.bs, .nilmap]]) := by
 refine Cw [.tmp 2] D6 R R R fun r hm=>?_
 unfold world_World_Budgets_x_x at hm
 refine Af tbk [] R R<|Ag<|Ae<|Aa R R (Ah R)<|Bd hm fun r h1 hm=>Ab R R<|Ao 1 R fn60 R (K20 w b r h1) fun _ _ h3=> ?_
 obtain ⟨rfl,rfl⟩:=h3
 exact Aa R R (B6 R)<|Ac<|Bg R (congrArg not (Option.some.inj (show some false = some r from h1)).symm)<|Af tbk [] R R<|Bq (A9 103)<|Rg2 hm R [0,0] none 0 (.cons (.tmp _ _ R) .nil) R R

/-! trireme/triremelaw18.WorldNil -/
def law18_WorldNil.l1 (r5 : Int) (r6 : Int) (r7 : Int) (r8 : Int) (r9 : Int) (r10 : Int) (r11 : Int) (r12 : Int) : Nat → Int → Option (Out Bool Unit)
 | 0, _ => none
 | n + 1, i2 =>
  if (decide (i2 < ([r5, r6, r7, r8, r9, r10, r11, r12].length : Int))) = true then
   (V.gl [r5, r6, r7, r8, r9, r10, r11, r12] i2).bind fun x =>
   if (x != 23) = true then
    some (Out.ret false)
   else
    law18_WorldNil.l1 r5 r6 r7 r8 r9 r10 r11 r12 n (i64.wrap (i2 + 1))
  else
   some (Out.go ())
def law18_WorldNil (o : T_law18_Op) : Option Bool :=
 (law18_Op_Light o).bind fun r =>
 if (!r) = true then
  (law18_known ([] : List T_cloud_pool) ([] : List T_cloud_inst)).bind fun r2 =>
  some r2.1
 else
  (world_World_Pass ([] : List T_cloud_pool) ([] : List T_cloud_inst)).bind fun r3 =>
  (world_World_Pass_x_x (⟨(), ([] : List T_api_Group), ([] : List T_api_Budget), ([] : List T_api_Machine), ([] : List T_api_Bound), []⟩ : T_world_World) ([] : List T_cloud_pool) ([] : List T_cloud_inst)).bind fun r4 =>
  (world_World_AddPod o.P_).bind fun r5 =>
  (world_World_AddPod_x_x (⟨(), ([] : List T_api_Group), ([] : List T_api_Budget), ([] : List T_api_Machine), ([] : List T_api_Bound), []⟩ : T_world_World) o.P_).bind fun r6 =>
  (world_World_DropPod o.Name).bind fun r7 =>
  (world_World_Ready_x_x (⟨(), ([] : List T_api_Group), ([] : List T_api_Budget), ([] : List T_api_Machine), ([] : List T_api_Bound), []⟩ : T_world_World) o.Name true).bind fun r8 =>
  (world_World_Hold o.Name true ([] : List T_cloud_pool) ([] : List T_cloud_inst)).bind fun r9 =>
  (world_World_Taint (⟨(), ([] : List T_api_Group), ([] : List T_api_Budget), ([] : List T_api_Machine), ([] : List T_api_Bound), []⟩ : T_world_World) o.Name o.X).bind fun r10 =>
  (world_World_Untaint o.Name (⟨#[97]⟩ : ByteArray)).bind fun r11 =>
  (world_World_Evict_x_x (⟨(), ([] : List T_api_Group), ([] : List T_api_Budget), ([] : List T_api_Machine), ([] : List T_api_Bound), []⟩ : T_world_World) o.Name).bind fun r12 =>
  (law18_WorldNil.l1 r5 r6 r7 r8 r9 r10 r11 r12 FU (0 : Int)).bind fun o2 =>
  o2.on fun j =>
  (world_World_Machines).bind fun r13 =>
  (if ((r13.length : Int) == 0) = true then (world_World_Machines_x_x (⟨(), ([] : List T_api_Group), ([] : List T_api_Budget), ([] : List T_api_Machine), ([] : List T_api_Bound), []⟩ : T_world_World)).bind fun r14 =>
  some ((r14.length : Int) == 0) else some false).bind fun c =>
  (if c = true then (world_World_Bounds).bind fun r15 =>
  some ((r15.length : Int) == 0) else some false).bind fun c2 =>
  (if c2 = true then (world_World_Budgets_x_x (⟨(), ([] : List T_api_Group), ([] : List T_api_Budget), ([] : List T_api_Machine), ([] : List T_api_Bound), []⟩ : T_world_World)).bind fun r16 =>
  some ((r16.length : Int) == 0) else some false).bind fun c3 =>
  (if c3 = true then (world_World_Missing ([] : List T_cloud_pool) ([] : List T_cloud_inst)).bind fun r17 =>
  some ((r17.length : Int) == 0) else some false).bind fun c4 =>
  if c4 = true then
   (law18_known ([] : List T_cloud_pool) ([] : List T_cloud_inst)).bind fun r19 =>
   some r19.1
  else
   some false
theorem law18_WorldNil_ok (A0 A1 A2 A3 : Nat) (o : T_law18_Op) : VS Tryz.prog 3 (law18_WorldNil o) [T_law18_Op.vv o] [.ar A0 144 ([] : List Nat) (List.map T_cloud_pool.cells ([] : List T_cloud_pool)), .ar A1 157 ([] : List Nat) (List.map (T_cloud_inst.cells A0 A1) ([] : List T_cloud_inst)), .ar A2 144 ([] : List Nat) (List.map T_cloud_pool.cells ([] : List T_cloud_pool)), .ar A3 157 ([] : List Nat) (List.map (T_cloud_inst.cells A0 A1) ([] : List T_cloud_inst))] .bool N0 := by
 refine Ax [.tmp 2] Tryz.func3 R R R fun r hm=>?_
 unfold law18_WorldNil at hm
 refine Ae<|Ab R R<|Be R R fun b=>Aa R R (Ai R)<|Ac<|Ag<|Ae<|Ad tbk [0] 1 R R<|Ab R R<|Ay hm 0 R fn9 R (law18_Op_Light_ok _) fun r hm=>Aa R R (B6 R)<|Ac<|Aq hm R (fun h3 hm=>?_) fun h3 hm=> ?_
 ·refine Ae<|Bd hm fun r2 h4 hm=>A4 (Bh [3,3,0,0,0] R)<|Ab R R<|Ao 2 R fn10 R (K19 A2 A3 ([] : List T_cloud_pool) ([] : List T_cloud_inst) ([] : List Nat) ([] : List Nat) r2 h4) fun _ _ h5=> ?_
  obtain ⟨bs,bs2,rfl,rfl⟩:=h5
  exact Aa R R (Ai R)<|Ac<|Rt1 hm R [] R R R
 refine An<|Af tbk [] R R<|Ae<|Aa R R (Bl pl43 R R)<|Ab R R<|Be R R fun b2=>Aa R R (Ai R)<|Ac<|Ae<|Aa R R (Ah R)<|A4 (Bh [2,2,0,0,0,0] R)<|Ab R R<|Ay hm 2 R fn11 R (K82 A0 A1 _ _ _ _) fun r3 hm=>Ac<|Ae<|Aa R R (Ah R)<|A4 (Br (A9 139) (Br (Av (H':=[.ar A0 144 ([] : List Nat) (List.map T_cloud_pool.cells ([] : List T_cloud_pool)),.ar A1 157 ([] : List Nat) (List.map (T_cloud_inst.cells A0 A1) ([] : List T_cloud_inst)),.box b2 43 [.nilptr,L139 ([] : List T_api_Group),.sl none 0 0,.sl none 0 0,.sl none 0 0,.nilmap],X33 b o,.ar A2 144 ([] : List Nat) (List.map T_cloud_pool.cells ([] : List T_cloud_pool)),.ar A3 157 ([] : List Nat) (List.map (T_cloud_inst.cells A0 A1) ([] : List T_cloud_inst))]) 0 [] R trivial ⟨.same _,.same _,.box _ _ _ _ ⟨.same _,.here _ R,.same _,.same _,.same _,.same _,trivial⟩,.same _,.same _,.same _,trivial⟩) (Br (A9 103) (Br (Av (H':=[.ar A0 144 ([] : List Nat) (List.map T_cloud_pool.cells ([] : List T_cloud_pool)),.ar A1 157 ([] : List Nat) (List.map (T_cloud_inst.cells A0 A1) ([] : List T_cloud_inst)),.box b2 43 [.nilptr,L139 ([] : List T_api_Group),L103 ([] : List T_api_Budget),.sl none 0 0,.sl none 0 0,.nilmap],X33 b o,.ar A2 144 ([] : List Nat) (List.map T_cloud_pool.cells ([] : List T_cloud_pool)),.ar A3 157 ([] : List Nat) (List.map (T_cloud_inst.cells A0 A1) ([] : List T_cloud_inst))]) 0 [] R trivial ⟨.same _,.same _,.box _ _ _ _ ⟨.same _,.same _,.here _ R,.same _,.same _,.same _,trivial⟩,.same _,.same _,.same _,trivial⟩) (Br (A9 68) (Br (Av (H':=[.ar A0 144 ([] : List Nat) (List.map T_cloud_pool.cells ([] : List T_cloud_pool)),.ar A1 157 ([] : List Nat) (List.map (T_cloud_inst.cells A0 A1) ([] : List T_cloud_inst)),.box b2 43 [.nilptr,L139 ([] : List T_api_Group),L103 ([] : List T_api_Budget),L68 ([] : List T_api_Machine),.sl none 0 0,.nilmap],X33 b o,.ar A2 144 ([] : List Nat) (List.map T_cloud_pool.cells ([] : List T_cloud_pool)),.ar A3 157 ([] : List Nat) (List.map (T_cloud_inst.cells A0 A1) ([] : List T_cloud_inst))]) 0 [] R trivial ⟨.same _,.same _,.box _ _ _ _ ⟨.same _,.same _,.same _,.here _ R,.same _,.same _,trivial⟩,.same _,.same _,.same _,trivial⟩) (Br (A9 64) (Av (H':=[.ar A0 144 ([] : List Nat) (List.map T_cloud_pool.cells ([] : List T_cloud_pool)),.ar A1 157 ([] : List Nat) (List.map (T_cloud_inst.cells A0 A1) ([] : List T_cloud_inst)),.box b2 43 [.nilptr,L139 ([] : List T_api_Group),L103 ([] : List T_api_Budget),L68 ([] : List T_api_Machine),L64 ([] : List T_api_Bound),.nilmap],X33 b o,.ar A2 144 ([] : List Nat) (List.map T_cloud_pool.cells ([] : List T_cloud_pool)),.ar A3 157 ([] : List Nat) (List.map (T_cloud_inst.cells A0 A1) ([] : List T_cloud_inst))]) 0 [] R trivial ⟨.same _,.same _,.box _ _ _ _ ⟨.same _,.same _,.same _,.same _,.here _ R,.same _,trivial⟩,.same _,.same _,.same _,trivial⟩))))))))<|?_
 refine A4 (Bh [2,0,0,0,0,0] R)<|Ab R R<|Ay hm 3 R fn11 R (K21 A0 A1 _ _ _ _ _ _) fun r4 hm=>Ac<|Ag<|Bn 3 mixed<|Bf tbk [0,1,2,4,5,6,8,9,10,12,13,14,16,17,18,20,21,22,23,24,26,27,28,30,31,32] [0,0,0,0,0,0,0,0,0] (by kernel_rfl) R R R<|Al 3 (by kernel_rfl)<|Bd hm fun r5 h9 hm=>Am R R R<|Ao 0 R fn12 R (K81 o.P_ r5 h9) fun _ _ h53=> ?_
 obtain ⟨rfl,rfl⟩:=h53
 refine Al 7 (by kernel_rfl)<|Bd hm fun r6 h10 hm=>Am R R R<|Ao 1 R fn12 R (K22 (⟨(),([] : List T_api_Group),([] : List T_api_Budget),([] : List T_api_Machine),([] : List T_api_Bound),[]⟩ : T_world_World) o.P_ b2 r6 h10) fun _ _ h52=> ?_
 obtain ⟨rfl,rfl⟩:=h52
 refine Al 11 (by kernel_rfl)<|Bd hm fun r7 h11 hm=>Am R R R<|Ao 0 R fn13 R (K23 o.Name r7 h11) fun _ _ h51=> ?_
 obtain ⟨rfl,rfl⟩:=h51
 refine Al 15 (by kernel_rfl)<|Bd hm fun r8 h12 hm=>Am R R R<|Ao 1 R fn14 R (K25 (⟨(),([] : List T_api_Group),([] : List T_api_Budget),([] : List T_api_Machine),([] : List T_api_Bound),[]⟩ : T_world_World) o.Name true b2 r8 h12) fun _ _ h50=> ?_
 obtain ⟨rfl,rfl⟩:=h50
 refine Al 19 (by kernel_rfl)<|Bd hm fun r9 h13 hm=>Am R R R<|VO.shift (Bh [1,1,0] R)<|Ao 2 R fn15 R (K89 A0 A1 o.Name true ([] : List T_cloud_pool) ([] : List T_cloud_inst) ([] : List Nat) ([] : List Nat) r9 h13) fun _ _ h49=> ?_
 obtain ⟨rfl,rfl⟩:=h49
 refine Al 25 (by kernel_rfl)<|Bd hm fun r10 h14 hm=>Am R R R<|VO.shift (Bh [2,0,0] R)<|Ao 1 R fn16 R (K27 (⟨(),([] : List T_api_Group),([] : List T_api_Budget),([] : List T_api_Machine),([] : List T_api_Bound),[]⟩ : T_world_World) o.Name o.X b2 r10 h14) fun _ _ h48=> ?_
 obtain ⟨rfl,rfl⟩:=h48
 refine Al 29 (by kernel_rfl)<|Bd hm fun r11 h15 hm=>Am R R R<|Ao 0 R fn17 R (K29 o.Name (⟨#[97]⟩ : ByteArray) r11 h15) fun _ _ h47=> ?_
 obtain ⟨rfl,rfl⟩:=h47
 refine Al 33 (by kernel_rfl)<|Bd hm fun r12 h16 hm=>Am R R R<|Ao 1 R fn18 R (K30 (⟨(),([] : List T_api_Group),([] : List T_api_Budget),([] : List T_api_Machine),([] : List T_api_Bound),[]⟩ : T_world_World) o.Name b2 r12 h16) fun _ _ h46=> ?_
 obtain ⟨rfl,rfl⟩:=h46
 refine Al 34 (by kernel_rfl)<|Am R R R<|A6 ap50 R R R R R fun b3=>De (Av 0 [(51,L44 [r5,r6,r7,r8,r9,r10,r11,r12])] R ⟨⟨_,R,.here _ R⟩,trivial⟩ (FzH.refl _))<|Bc 35 R R R (by kernel_rfl) (Ai R)<|Az (by kernel_rfl)<|Ag<|Af tbk [] R R<|B8 hm (fun _ (_:Unit)=>[(3,.nilptr),(4,.ptr b2 0)]) (fun _ (_:Unit)=>[.box b2 43 [.nilptr,L139 ([] : List T_api_Group),L103 ([] : List T_api_Budget),L68 ([] : List T_api_Machine),L64 ([] : List T_api_Bound),.nilmap],.ar A0 144 ([] : List Nat) (List.map T_cloud_pool.cells ([] : List T_cloud_pool)),.ar A1 157 ([] : List Nat) (List.map (T_cloud_inst.cells A0 A1) ([] : List T_cloud_inst)),.ar A2 144 ([] : List Nat) (List.map T_cloud_pool.cells ([] : List T_cloud_pool)),.ar A3 157 ([] : List Nat) (List.map (T_cloud_inst.cells A0 A1) ([] : List T_cloud_inst))]) (fun o2 hm h19=>?_) fun j _ hm=> ?_
 ·refine Ck (fun zn (zs:Int)=>law18_WorldNil.l1 r5 r6 r7 r8 r9 r10 r11 r12 zn zs) (fun zs (_:Unit)=>[(3,.nilptr),(4,.ptr b2 0),(5,L44 [r5,r6,r7,r8,r9,r10,r11,r12]),(6,Iw zs)]) (fun _ (_:Unit)=>[.box b2 43 [.nilptr,L139 ([] : List T_api_Group),L103 ([] : List T_api_Budget),L68 ([] : List T_api_Machine),L64 ([] : List T_api_Bound),.nilmap],.ar A0 144 ([] : List Nat) (List.map T_cloud_pool.cells ([] : List T_cloud_pool)),.ar A1 157 ([] : List Nat) (List.map (T_cloud_inst.cells A0 A1) ([] : List T_cloud_inst)),.ar A2 144 ([] : List Nat) (List.map T_cloud_pool.cells ([] : List T_cloud_pool)),.ar A3 157 ([] : List Nat) (List.map (T_cloud_inst.cells A0 A1) ([] : List T_cloud_inst))]) _ () (fun _=>R) hm (Ak [0,0,0,1,1] R R) fun n i2 _ hm=> ?_
  rw [law18_WorldNil.l1] at hm
  exact Ag<|Ae<|Ad tbk [] 2 R R<|Aa R R (A5 (VV.int .i64) R Tryz.underlying50)<|Aa R R (B9 R R R)<|Ac<|Aq hm R (fun h20 hm=>An<|Ag<|Aw<|Ae<|Ad tbk [] 2 R R<|Bd hm fun x h21 hm=>Aa R R (B7 (VV.int .i64) R R el50 h21)<|Ad tbk [] 2 R R<|Ac<|Aq hm R (fun h22 hm=>Af tbk [] R R<|have hm:=Lr hm h19;Rt1 hm R [] R R R) fun h22 hm=>An<|Ba tbk [] R R<|Ap _ () hm (Ak [0,0,0,0,0] R R)) fun h20 hm=>A8<|Ar () hm (Ak [0,0,0,0,0] R R)
 refine Ae<|Aa R R (Ah R)<|Ab R R<|Cr hm 0 R fn19 R (K85) fun r13 ob cap hm=>A4 (Av 0 [(64,L68 r13)] R ⟨⟨_,R,.here _ R⟩,trivial⟩ (FzH.refl _))<|Aa R R (A5 T_api_Machine.vv R Ch)<|Ad tbk [] 2 R R<|Bo hm 5 72 67 R (fun _ K' h25 J hm=>Bk R R R R R (Ah R)<|Bi R R R R R<|Cr hm 1 R fn19 R (K31 _ _) fun r14 ob2 cap2 hm=>A4 (Av 0 [(69,L68 r14)] R ⟨⟨_,R,.here _ R⟩,trivial⟩ (FzH.refl _))<|Bk R R R R R (A5 T_api_Machine.vv R Ch)<|Ad tbk [] 2 R R<|J 5 R R (Bj hm)) (fun _ K' h25 J hm=>Ad tbk [] 5 R R<|J 4 R R (Bj hm)) fun c hm=>Aa R R (Ah R)<|Bo hm 5 78 73 R (fun _ K' h29 J hm=>Bk R R R R R (Ah R)<|Bi R R R R R<|Cr hm 0 R fn20 R (K83) fun r15 ob3 cap3 hm=>A4 (Av 0 [(75,L64 r15)] R ⟨⟨_,R,.here _ R⟩,trivial⟩ (FzH.refl _))<|Bk R R R R R (A5 T_api_Bound.vv R B1)<|Ad tbk [] 2 R R<|J 5 R R (Bj hm)) (fun _ K' h29 J hm=>Ad tbk [] 5 R R<|J 4 R R (Bj hm)) fun c2 hm=>Aa R R (Ah R)<|Bo hm 5 84 79 R (fun _ K' h33 J hm=>Bk R R R R R (Ah R)<|Bi R R R R R<|Cr hm 1 R fn21 R (K32 _ _) fun r16 ob4 cap4 hm=>A4 (Av 0 [(81,L103 r16)] R ⟨⟨_,R,.here _ R⟩,trivial⟩ (FzH.refl _))<|Bk R R R R R (A5 T_api_Budget.vv R Cp)<|Ad tbk [] 2 R R<|J 5 R R (Bj hm)) (fun _ K' h33 J hm=>Ad tbk [] 5 R R<|J 4 R R (Bj hm)) fun c3 hm=>Aa R R (Ah R)<|Bo hm 5 90 85 R (fun _ K' h37 J hm=>Bk R R R R R (Ah R)<|A4 (Bh [1,1,0,0,0] R)<|Bi R R R R R<|Cr hm 2 R fn22 R (K84 A0 A1 _ _ _ _) fun r17 ob5 cap5 hm=>A4 (Av 0 [(87,L70 r17)] R ⟨⟨_,R,.here _ R⟩,trivial⟩ (FzH.refl _))<|Bk R R R R R (A5 T_api_Inst.vv R Co)<|Ad tbk [] 2 R R<|A4 (Bh [2,0,0,0,0] R)<|J 5 R R (Bj hm)) (fun _ K' h37 J hm=>Ad tbk [] 5 R R<|J 4 R R (Bj hm)) fun c4 hm=>Aa R R (Ah R)<|Dp hm 91 R (fun h43 hm=>?_) fun h43 hm=> ?_
 ·refine Bd hm fun r19 h44 hm=>A4 (Bh [3,3,0,0,0] R)<|Bi R R R R R<|Ao 2 R fn10 R (K19 A2 A3 ([] : List T_cloud_pool) ([] : List T_cloud_inst) ([] : List Nat) ([] : List Nat) r19 h44) fun _ _ h45=> ?_
  obtain ⟨bs5,bs6,rfl,rfl⟩:=h45
  exact Ad tbk [] 2 R R<|Ac<|Rt1 hm R [] R R R
 exact Ad tbk [] 3 R R<|Ac<|Rt1 hm R [] R R R

end Go.Proofs.YtbgfffdnaijmhaaGreat.M

/-
  Printed by a program of this session out of the loaded functions: models and their proofs. Own text.
-/
import Derived.Test.YtbgfffdnaijmhaaGreatDWF1
namespace Go.Proofs.YtbgfffdnaijmhaaGreat.M
open Go Go.Proofs Go.Proofs.YtbgfffdnaijmhaaGreat.V
open Go.IntKind (i64)
set_option linter.unusedVariables false
set_option maxRecDepth 20000
set_option maxHeartbeats 40000000
/-! trireme/sched.Step -/
def sched_Step.l1 (ms : List T_api_Machine) : List Int → Nat → (List T_api_Bound) → (List T_api_Move) → Option (List T_api_Bound × List T_api_Move)
 | [], k, out2, moves2 => some (out2, moves2)
 | x :: l2, k, out2, moves2 =>
  (V.gl out2 x).bind fun x2 =>
  (sched_Best ms out2 x2.Pod).bind fun r2 =>
  if (!(V.seq r2 (⟨#[]⟩ : ByteArray))) = true then
   (V.gl out2 x).bind fun x3 =>
   (V.ap 32 moves2 [(⟨x2.Pod.Name, r2⟩ : T_api_Move)]).bind fun moves4 =>
   sched_Step.l1 ms l2 (k + 1) (List.set out2 (x).toNat (⟨x3.Pod, r2⟩ : T_api_Bound)) moves4
  else
   sched_Step.l1 ms l2 (k + 1) out2 moves2
def sched_Step (ms : List T_api_Machine) (bs : List T_api_Bound) : Option (List T_api_Bound × List T_api_Move) :=
 (V.ap 288 ([] : List T_api_Bound) bs).bind fun l =>
 (sched_Order bs).bind fun r =>
 (sched_Step.l1 ms r 0 l ([] : List T_api_Move)).bind fun j =>
 some (j.1, j.2)
theorem K134 (ms : List T_api_Machine) (bs : List T_api_Bound) : ∀ r : List T_api_Bound × List T_api_Move, sched_Step ms bs = some r → VC Tryz.prog 64 [L68 ms, L64 bs] [] fun zx zH => ∃ (ob0 : Option Nat) (cap0 : Nat) (ob1 : Option Nat) (cap1 : Nat), zx = .tup [Z64 ob0 r.1 cap0, Z201 ob1 r.2 cap1] ∧ zH = [Q64 ob0 cap0 r.1, Q201 ob1 cap1 r.2] := by
 refine Cl [.tmp 4,.tmp 5] Tryz.func64 R R R fun r hm=>?_
 unfold sched_Step at hm
 refine Ag tbk [] R R<|Ae<|Aa R R (Ai R)<|Av (Bf 64)<|Bd hm fun l h2 hm=>Ab R R<|Bo 0 T_api_Bound.vv (l:=([] : List T_api_Bound)) (l2:=bs) ap40 R R (sT_list T_api_Bound.vv el40 R R) h2 fun ob cap=>Aa R R (Aj R)<|Ac<|Ag tbk [] R R<|Af<|Ae<|Aa R R (Ai R)<|Ab R R<|Ay hm 0 R fn127 R (K80 _) fun r hm=>Aa R R (A7 (VV.int .i64) R Co)<|Aa R R (Ai R)<|Ac<|B4 15 R fun h8=>Cc hm (fun j (gg:Option Nat × Nat)=>[(6,Z64 ob j.1 cap),(7,Z201 gg.1 j.2 gg.2)]) (fun j (gg:Option Nat × Nat)=>[Q201 gg.1 gg.2 j.2,Q64 ob cap j.1]) (fun o hm=>?_) fun j=>Pq fun ob4 cap4 hm=> ?_
 ·refine Cf (r) (fun zl zk (zs:List T_api_Bound × List T_api_Move)=>sched_Step.l1 ms zl zk zs.1 zs.2) (fun k zs (zg:Option Nat × Nat)=>[(0,L68 ms),(6,Z64 ob zs.1 cap),(7,Z201 zg.1 zs.2 zg.2),(15,L3 r),(16,Iw (r.length : Int)),(17,Iw (k : Int))]) (fun _ zs (zg:Option Nat × Nat)=>[Q201 zg.1 zg.2 zs.2,Q64 ob cap zs.1]) (l,([] : List T_api_Move)) (none,0) hm (B1 (Bf 201) (Ah [0,1] R R)) (fun k=>Pq fun out2 moves2=>Pq fun ob3 cap3 hk hm=>?_) fun k x l2=>Pq fun out2 moves2=>Pq fun ob3 cap3 h9 hm=> ?_
  ·rw [sched_Step.l1] at hm
   exact Ag tbk [] R R<|Af<|Bm R (k_end hk)<|A6<|As (ob3,cap3) hm (Ah [0,1] R R)
  rw [sched_Step.l1] at hm
  refine Ag tbk [] R R<|Af<|Bl R (k_lt h9)<|Al<|Af<|Aw<|Ae<|Aa R R (B8 (VV.int .i64) R R el27 h9)<|Ad tbk [] 2 R R<|Ac<|Ae<|Ad tbk [] 2 R R<|Bd hm fun x2 h10 hm=>Cg 1 R (gl_pos T_api_Bound.vv h10) fun b h11=> ?_
  subst h11
  exact Aa R R (Cm T_api_Bound.vv R R el40 h10)<|Aa R R (D1 R fa64_0)<|Aa R R (Ce (i:=1) (y:=T_api_Bound.vv x2) R R R (gl_map _ (gl_some h10).2) ld29 R)<|Ab R R<|Au z29 fun b2=>Ab R R<|Ak (i:=0) R R R ld29 R R R<|Ac<|Ae<|Ad tbk [0] 3 R R<|Ab R R<|Dn hm (Az 2 [(6,L64 out2),(21,L64 out2),(27,L64 out2)] R ⟨⟨_,R,.here _ R⟩,⟨_,R,.here _ R⟩,⟨_,R,.here _ R⟩,trivial⟩ (FzH.refl _)) [.same,.same,.same] R fn128 R (K133 _ _ _) (fun _=>R) (fun _=>R) fun r2 hm=>Aa R R (Aj R)<|Ac<|Ag tbk [] R R<|Ao hm R (fun h14 hm=>Ae<|Ad tbk [] 3 R R<|Bd hm fun x3 h15 hm=>Aa R R (Cm T_api_Bound.vv R R el40 h15)<|Aa R R (D1 R fa64_1)<|Ab R R<|Ds 2 (f:=T_api_Bound.vv) (l:=out2) (q:=x3) (q':=(⟨x3.Pod,r2⟩ : T_api_Bound)) R R R R h15 ld9 R R R R ⟨R,List.all_eq_true.1 R⟩<|Av (Cr 6 (List.map T_api_Bound.vv (List.set out2 (x).toNat (⟨x3.Pod,r2⟩ : T_api_Bound))).length R (len_set _ _ _ _))<|Av (Cr 21 (List.map T_api_Bound.vv (List.set out2 (x).toNat (⟨x3.Pod,r2⟩ : T_api_Bound))).length R (len_set _ _ _ _))<|Av (Cr 27 (List.map T_api_Bound.vv (List.set out2 (x).toNat (⟨x3.Pod,r2⟩ : T_api_Bound))).length R (len_set _ _ _ _))<|Av (Cr 32 (List.map T_api_Bound.vv (List.set out2 (x).toNat (⟨x3.Pod,r2⟩ : T_api_Bound))).length R (len_set _ _ _ _))<|Ac<|Bv<|Ad tbk [0] 4 R R<|Aa R R (Bn pl201 R R)<|Ab R R<|A4 ap122 R R R R R fun b3=>Bd hm fun moves4 h17 hm=>Ab R R<|Bo 2 T_api_Move.vv (l:=moves2) (l2:=[(⟨x2.Pod.Name,r2⟩ : T_api_Move)]) ap122 R R (sT_row 0 T_api_Move.vv el122 R R) h17 fun ob5 cap5=>Aa R R (Aj R)<|Ac<|Ba tbk [] R R<|Ap ((List.set out2 (x).toNat (⟨x3.Pod,r2⟩ : T_api_Bound)),moves4) (ob5,cap5) hm (Be [2,3] R ⟨R,R,R,R,R,congrArg some (k_next h9 h8),trivial⟩)) fun h14 hm=>Al<|Ba tbk [] R R<|Ap (out2,moves2) (ob3,cap3) hm (Be [1,2] R ⟨R,R,R,R,R,congrArg some (k_next h9 h8),trivial⟩)
 refine Ag tbk [] R R<|?_
 obtain rfl:=Option.some.inj hm
 exact Bq ⟨.inl R,_,.cons (.tmp _ _ R) (.cons (.tmp _ _ R) .nil),[1,0],_,R,ob,cap,ob4,cap4,R,R⟩

/-! (*trireme/world.World).Pass -/
def world_World_Pass (w : T_world_World) (c : T_cloud_Cloud) (pools : List T_cloud_pool) (insts : List T_cloud_inst) : Option (T_world_World × T_cloud_Cloud × List T_cloud_inst) :=
 (world_World_there w c).bind fun r =>
 (cloud_Cloud_Tick c pools insts).bind fun r2 =>
 (world_World_leave w r2.1 pools r2.2).bind fun r3 =>
 (world_World_register r3 r2.1 pools r2.2).bind fun r4 =>
 (sched_Step r4.ms r4.bs).bind fun r5 =>
 some ((⟨(), r4.groups, r4.budgets, r4.ms, r5.1, r4.held⟩ : T_world_World), r2.1, r2.2)
theorem K135 (A0 A1 : Nat) (w : T_world_World) (c : T_cloud_Cloud) (pools : List T_cloud_pool) (insts : List T_cloud_inst) (b : Nat) (ob : Option Nat) (cap : Nat) (ob2 : Option Nat) (cap2 : Nat) (ob3 : Option Nat) (cap3 : Nat) (ob4 : Option Nat) (cap4 : Nat) (b2 : Nat) (b3 : Nat) (ob5 : Option Nat) (cap5 : Nat) (ob6 : Option Nat) (cap6 : Nat) (bs : List Nat) (bs2 : List Nat) : ∀ r : T_world_World × T_cloud_Cloud × List T_cloud_inst, world_World_Pass w c pools insts = some r → VC Tryz.prog 11 [.ptr b 0] [.box b 43 [.ptr b3 0, Z139 ob w.groups cap, Z103 ob2 w.budgets cap2, Z68 ob3 w.ms cap3, Z64 ob4 w.bs cap4, .map b2], Q139 ob cap w.groups, Q103 ob2 cap2 w.budgets, Q68 ob3 cap3 w.ms, Q64 ob4 cap4 w.bs, .map b2 (List.map (pf VV.str (VV.int .i64)) w.held), .box b3 149 [Z140 A0 A1 ob5 c.pools cap5, Z152 A0 A1 ob6 c.insts cap6, Iw c.delay, Iw c.now, Iw c.calls], Q140 A0 A1 ob5 cap5 c.pools, Q152 A0 A1 ob6 cap6 c.insts, .ar A0 144 bs (List.map T_cloud_pool.cells pools), .ar A1 157 bs2 (List.map (T_cloud_inst.cells A0 A1) insts)] fun zx zH => ∃ (ob0_1 : Option Nat) (cap0_1 : Nat) (ob0_2 : Option Nat) (cap0_2 : Nat) (ob0_3 : Option Nat) (cap0_3 : Nat) (ob0_4 : Option Nat) (cap0_4 : Nat) (b0_5 : Nat) (ob1_0 : Option Nat) (cap1_0 : Nat) (ob1_1 : Option Nat) (cap1_1 : Nat) (bs_3 : List Nat), zx = .tup [] ∧ zH = [.box b 43 [.ptr b3 0, Z139 ob0_1 r.1.groups cap0_1, Z103 ob0_2 r.1.budgets cap0_2, Z68 ob0_3 r.1.ms cap0_3, Z64 ob0_4 r.1.bs cap0_4, .map b0_5], Q139 ob0_1 cap0_1 r.1.groups, Q103 ob0_2 cap0_2 r.1.budgets, Q68 ob0_3 cap0_3 r.1.ms, Q64 ob0_4 cap0_4 r.1.bs, .map b0_5 (List.map (pf VV.str (VV.int .i64)) r.1.held), .box b3 149 [Z140 A0 A1 ob1_0 r.2.1.pools cap1_0, Z152 A0 A1 ob1_1 r.2.1.insts cap1_1, Iw r.2.1.delay, Iw r.2.1.now, Iw r.2.1.calls], Q140 A0 A1 ob1_0 cap1_0 r.2.1.pools, Q152 A0 A1 ob1_1 cap1_1 r.2.1.insts, .ar A0 144 bs (List.map T_cloud_pool.cells pools), .ar A1 157 bs_3 (List.map (T_cloud_inst.cells A0 A1) r.2.2)] := by
 refine Cl [] Tryz.func11 R R R fun r hm=>?_
 unfold world_World_Pass at hm
 refine Af<|Ae<|Aa R R (Ai R)<|Bd hm fun r h1 hm=>Ab R R<|Aq 9 R fn60 R (K54 A0 A1 w c b ob cap ob2 cap2 ob3 cap3 ob4 cap4 b2 b3 ob5 cap5 ob6 cap6 r h1) fun _ _ h16=> ?_
 obtain ⟨rfl,rfl⟩:=h16
 refine Aa R R (Cp R)<|Ac<|Bm R (congrArg not (Option.some.inj (show some true = some r from h1)).symm)<|Al<|Ae<|Ad tbk [0] 4 R R<|Bd hm fun r2 h2 hm=>Av (Ax [6,7,8,9,10,0,1,2,3,4,5] R)<|Ab R R<|Aq 5 R fn61 R (K74 A0 A1 c pools insts b3 ob5 cap5 ob6 cap6 bs bs2 r2 h2) fun _ _ h15=> ?_
 obtain ⟨ob7,cap7,ob8,cap8,bs3,rfl,rfl⟩:=h15
 refine Ac<|Ae<|Aa R R (Ai R)<|Bd hm fun r3 h3 hm=>Av (Ax [5,6,7,8,9,10,0,1,2,3,4] R)<|Ab R R<|Aq 11 R fn62 R (K77 A0 A1 w r2.1 pools r2.2 b ob cap ob2 cap2 ob3 cap3 ob4 cap4 b2 b3 ob7 cap7 ob8 cap8 bs bs3 r3 h3) fun _ _ h14=> ?_
 obtain ⟨ob9,cap9,ob10,cap10,ob11,cap11,ob12,cap12,b4,rfl,rfl⟩:=h14
 refine Ac<|Ae<|Aa R R (Ai R)<|Bd hm fun r4 h4 hm=>Ab R R<|Aq 11 R fn63 R (K51 A0 A1 r3 r2.1 pools r2.2 b ob9 cap9 ob10 cap10 ob11 cap11 ob12 cap12 b4 b3 ob7 cap7 ob8 cap8 bs bs3 r4 h4) fun _ _ h13=> ?_
 obtain ⟨ob13,cap13,ob14,cap14,ob15,cap15,ob16,cap16,b5,rfl,rfl⟩:=h13
 refine Ac<|Bu (Ax [0,3,4,1,2,5,6,7,8,9,10] R)<|Bi 3 mixed<|A9 tbk [0,1,2,3,5,6,7] [] (by kernel_rfl) R R R<|?_
 refine B3 [4,8] (by kernel_rfl) ⟨?_,?_,trivial⟩
 ·refine An R R R<|B7 (B0 (i:=0) R R ld39 R)<|Am 8 (by kernel_rfl)<|An R R R<|B7 (B0 (i:=0) R R ld40 R)<|Am 9 (by kernel_rfl)<|Bd hm fun r5 h5 hm=>An R R R<|VO.callT [64,68] (LS.trans (LS.freezeE [64,68] (H':=[.box b 43 [.ptr b3 0,Z139 ob13 r4.groups cap13,Z103 ob14 r4.budgets cap14,L68 r4.ms,Z64 ob16 r4.bs cap16,.map b5],Q64 ob16 cap16 r4.bs]) 1 [(19,L68 r4.ms)] R R ⟨⟨_,R,.here _ R⟩,trivial⟩ (by exact ⟨.box _ _ _ _ ⟨.same _,.same _,.same _,.here _ R,.same _,.same _,trivial⟩,.same _,trivial⟩)) (LS.freezeE [64,68] (H':=[.box b 43 [.ptr b3 0,Z139 ob13 r4.groups cap13,Z103 ob14 r4.budgets cap14,L68 r4.ms,L64 r4.bs,.map b5]]) 1 [(23,L64 r4.bs)] R R ⟨⟨_,R,.here _ R⟩,trivial⟩ (by exact ⟨.box _ _ _ _ ⟨.same _,.same _,.same _,.same _,.here _ R,.same _,trivial⟩,trivial⟩))) [.same,.same] R fn64 R (K134 r4.ms r4.bs r5 h5) fun _ _ h8=> ?_
  obtain ⟨ob17,cap17,ob18,cap18,rfl,rfl⟩:=h8
  refine ⟨by simp [noT,noTs],by simp [noH,noTs_map no201_64_68,noTs_map no64_64_68],?_⟩
  refine A9 tbk [10,11,12,13,14] [] (by kernel_rfl) R R R<|Am 15 (by kernel_rfl)<|An R R R<|Ak (i:=2) R R R ld40 R R R<|A5 (by kernel_rfl)<|?_
  obtain rfl:=Option.some.inj hm
  exact ⟨.inr R,_,.nil,[2,5,6,3,0,7,8,9,10,11,12],_,R,ob13,cap13,ob14,cap14,ob15,cap15,ob17,cap17,b5,ob7,cap7,ob8,cap8,bs3,R,R⟩
 ·refine An R R R<|B7 (B0 (i:=0) R R ld40 R)<|Am 4 (by kernel_rfl)<|An R R R<|B7 (B0 (i:=0) R R ld39 R)<|Am 9 (by kernel_rfl)<|Bd hm fun r6 h9 hm=>An R R R<|VO.callT [64,68] (LS.trans (LS.freezeE [64,68] (H':=[.box b 43 [.ptr b3 0,Z139 ob13 r4.groups cap13,Z103 ob14 r4.budgets cap14,L68 r4.ms,Z64 ob16 r4.bs cap16,.map b5],Q64 ob16 cap16 r4.bs]) 1 [(19,L68 r4.ms)] R R ⟨⟨_,R,.here _ R⟩,trivial⟩ (by exact ⟨.box _ _ _ _ ⟨.same _,.same _,.same _,.here _ R,.same _,.same _,trivial⟩,.same _,trivial⟩)) (LS.freezeE [64,68] (H':=[.box b 43 [.ptr b3 0,Z139 ob13 r4.groups cap13,Z103 ob14 r4.budgets cap14,L68 r4.ms,L64 r4.bs,.map b5]]) 1 [(23,L64 r4.bs)] R R ⟨⟨_,R,.here _ R⟩,trivial⟩ (by exact ⟨.box _ _ _ _ ⟨.same _,.same _,.same _,.same _,.here _ R,.same _,trivial⟩,trivial⟩))) [.same,.same] R fn64 R (K134 r4.ms r4.bs r6 h9) fun _ _ h12=> ?_
  obtain ⟨ob19,cap19,ob20,cap20,rfl,rfl⟩:=h12
  refine ⟨by simp [noT,noTs],by simp [noH,noTs_map no201_64_68,noTs_map no64_64_68],?_⟩
  refine A9 tbk [10,11,12,13,14] [] (by kernel_rfl) R R R<|Am 15 (by kernel_rfl)<|An R R R<|Ak (i:=2) R R R ld40 R R R<|A5 (by kernel_rfl)<|?_
  obtain rfl:=Option.some.inj hm
  exact ⟨.inr R,_,.nil,[2,5,6,3,0,7,8,9,10,11,12],_,R,ob13,cap13,ob14,cap14,ob15,cap15,ob19,cap19,b5,ob7,cap7,ob8,cap8,bs3,R,R⟩

/-! (*trireme/drain.Table).there -/
def drain_Table_there (t : T_drain_Table) : Option Bool :=
 some t.made
theorem K136 (t : T_drain_Table) (b : Nat) (ob : Option Nat) (cap : Nat) : VS Tryz.prog 111 (drain_Table_there t) [.ptr b 0] [.box b 108 [Z172 ob t.l cap, Iw t.grace, .bool t.made], Q172 ob cap t.l] .bool (fun r=>[.box b 108 [Z172 ob t.l cap, Iw t.grace, .bool t.made], Q172 ob cap t.l]) := by
 refine A8 [.tmp 2] Tryz.func111 R R R fun r hm=>?_
 unfold drain_Table_there at hm
 exact Ag tbk [] R R<|Ae<|Aa R R (Ai R)<|Aa R R (Dx Da R R)<|Ad tbk [0] 7 R R<|Ac<|Rt1 hm R [0,1] R R R

/-! trireme/drain.is -/
def drain_is (w : T_world_World) (c : T_cloud_Cloud) : Option Bool :=
 some true
theorem K137 (A0 A1 : Nat) (w : T_world_World) (c : T_cloud_Cloud) (b : Nat) (ob : Option Nat) (cap : Nat) (ob2 : Option Nat) (cap2 : Nat) (ob3 : Option Nat) (cap3 : Nat) (ob4 : Option Nat) (cap4 : Nat) (b2 : Nat) (b3 : Nat) (ob5 : Option Nat) (cap5 : Nat) (ob6 : Option Nat) (cap6 : Nat) : VS Tryz.prog 112 (drain_is w c) [.ptr b 0] [.box b 43 [.ptr b3 0, Z139 ob w.groups cap, Z103 ob2 w.budgets cap2, Z68 ob3 w.ms cap3, Z64 ob4 w.bs cap4, .map b2], Q139 ob cap w.groups, Q103 ob2 cap2 w.budgets, Q68 ob3 cap3 w.ms, Q64 ob4 cap4 w.bs, .map b2 (List.map (pf VV.str (VV.int .i64)) w.held), .box b3 149 [Z140 A0 A1 ob5 c.pools cap5, Z152 A0 A1 ob6 c.insts cap6, Iw c.delay, Iw c.now, Iw c.calls], Q140 A0 A1 ob5 cap5 c.pools, Q152 A0 A1 ob6 cap6 c.insts] .bool (fun r=>[.box b 43 [.ptr b3 0, Z139 ob w.groups cap, Z103 ob2 w.budgets cap2, Z68 ob3 w.ms cap3, Z64 ob4 w.bs cap4, .map b2], Q139 ob cap w.groups, Q103 ob2 cap2 w.budgets, Q68 ob3 cap3 w.ms, Q64 ob4 cap4 w.bs, .map b2 (List.map (pf VV.str (VV.int .i64)) w.held), .box b3 149 [Z140 A0 A1 ob5 c.pools cap5, Z152 A0 A1 ob6 c.insts cap6, Iw c.delay, Iw c.now, Iw c.calls], Q140 A0 A1 ob5 cap5 c.pools, Q152 A0 A1 ob6 cap6 c.insts]) := by
 refine A8 [.tmp 2] Tryz.func112 R R R fun r hm=>?_
 unfold drain_is at hm
 exact Ag tbk [] R R<|Ae<|Aa R R (Ai R)<|Aa R R (Dx Cn R R)<|Ad tbk [0] 5 R R<|Bk R R R R R (Dx Dg R R)<|Ad tbk [] 2 R R<|Ac<|Rt1 hm R [0,1,2,3,4,5,6,7,8] R R R

/-! (*trireme/world.World).Machines -/
def world_World_Machines.l1 (w : T_world_World) : Nat → (List T_api_Machine) → Int → Option (List T_api_Machine)
 | 0, _, _ => none
 | n + 1, l2, v2 =>
  if (decide (v2 < (w.ms.length : Int))) = true then
   (V.gl w.ms v2).bind fun x =>
   (world_machine x).bind fun r2 =>
   (V.ap 128 l2 [r2]).bind fun l5 =>
   world_World_Machines.l1 w n l5 (i64.wrap (v2 + 1))
  else
   some l2
def world_World_Machines (w : T_world_World) (c : T_cloud_Cloud) : Option (List T_api_Machine) :=
 (world_World_there w c).bind fun r =>
 (world_World_Machines.l1 w FU ([] : List T_api_Machine) (0 : Int)).bind fun l32 =>
 some l32
theorem K138 (A0 A1 : Nat) (w : T_world_World) (c : T_cloud_Cloud) (b : Nat) (ob : Option Nat) (cap : Nat) (ob2 : Option Nat) (cap2 : Nat) (ob3 : Option Nat) (cap3 : Nat) (ob4 : Option Nat) (cap4 : Nat) (b2 : Nat) (b3 : Nat) (ob5 : Option Nat) (cap5 : Nat) (ob6 : Option Nat) (cap6 : Nat) : VS2 Tryz.prog 19 (world_World_Machines w c) [.ptr b 0] [.box b 43 [.ptr b3 0, Z139 ob w.groups cap, Z103 ob2 w.budgets cap2, Z68 ob3 w.ms cap3, Z64 ob4 w.bs cap4, .map b2], Q139 ob cap w.groups, Q103 ob2 cap2 w.budgets, Q68 ob3 cap3 w.ms, Q64 ob4 cap4 w.bs, .map b2 (List.map (pf VV.str (VV.int .i64)) w.held), .box b3 149 [Z140 A0 A1 ob5 c.pools cap5, Z152 A0 A1 ob6 c.insts cap6, Iw c.delay, Iw c.now, Iw c.calls], Q140 A0 A1 ob5 cap5 c.pools, Q152 A0 A1 ob6 cap6 c.insts] (fun r ob0 cap0=>Z68 ob0 r cap0) (fun r ob0 cap0=>[Q68 ob0 cap0 r, .box b 43 [.ptr b3 0, Z139 ob w.groups cap, Z103 ob2 w.budgets cap2, Z68 ob3 w.ms cap3, Z64 ob4 w.bs cap4, .map b2], Q139 ob cap w.groups, Q103 ob2 cap2 w.budgets, Q68 ob3 cap3 w.ms, Q64 ob4 cap4 w.bs, .map b2 (List.map (pf VV.str (VV.int .i64)) w.held), .box b3 149 [Z140 A0 A1 ob5 c.pools cap5, Z152 A0 A1 ob6 c.insts cap6, Iw c.delay, Iw c.now, Iw c.calls], Q140 A0 A1 ob5 cap5 c.pools, Q152 A0 A1 ob6 cap6 c.insts]) := by
 refine Cz [.tmp 2] Tryz.func19 R R R fun r hm=>?_
 unfold world_World_Machines at hm
 refine Ag tbk [] R R<|Af<|Ae<|Aa R R (Ai R)<|Bd hm fun r h1 hm=>Ab R R<|Aq 9 R fn60 R (K54 A0 A1 w c b ob cap ob2 cap2 ob3 cap3 ob4 cap4 b2 b3 ob5 cap5 ob6 cap6 r h1) fun _ _ h14=> ?_
 obtain ⟨rfl,rfl⟩:=h14
 refine Aa R R (Cp R)<|Ac<|Bm R (congrArg not (Option.some.inj (show some true = some r from h1)).symm)<|Al<|Ag tbk [] R R<|Af<|Ae<|Ad tbk [0] 4 R R<|Aa R R (Cx T_api_Machine.vv R Cv)<|Aa R R (Ai R)<|Ac<|Cc hm (fun l32 (gg:Option Nat × Nat)=>[(3,Z68 gg.1 l32 gg.2)]) (fun l32 (gg:Option Nat × Nat)=>[Q68 gg.1 gg.2 l32,.box b 43 [.ptr b3 0,Z139 ob w.groups cap,Z103 ob2 w.budgets cap2,Z68 ob3 w.ms cap3,Z64 ob4 w.bs cap4,.map b2],Q139 ob cap w.groups,Q103 ob2 cap2 w.budgets,Q68 ob3 cap3 w.ms,Q64 ob4 cap4 w.bs,.map b2 (List.map (pf VV.str (VV.int .i64)) w.held),.box b3 149 [Z140 A0 A1 ob5 c.pools cap5,Z152 A0 A1 ob6 c.insts cap6,Iw c.delay,Iw c.now,Iw c.calls],Q140 A0 A1 ob5 cap5 c.pools,Q152 A0 A1 ob6 cap6 c.insts]) (fun o hm=>?_) fun l32=>Pq fun ob9 cap9 hm=> ?_
 ·refine Ca (fun zn (zs:List T_api_Machine × Int)=>world_World_Machines.l1 w zn zs.1 zs.2) (fun zs (zg:Option Nat × Nat)=>[(3,Z68 zg.1 zs.1 zg.2),(12,Z68 ob3 w.ms cap3),(13,Iw (w.ms.length : Int)),(14,Iw zs.2)]) (fun zs (zg:Option Nat × Nat)=>[Q68 zg.1 zg.2 zs.1,.box b 43 [.ptr b3 0,Z139 ob w.groups cap,Z103 ob2 w.budgets cap2,Z68 ob3 w.ms cap3,Z64 ob4 w.bs cap4,.map b2],Q139 ob cap w.groups,Q103 ob2 cap2 w.budgets,Q68 ob3 cap3 w.ms,Q64 ob4 cap4 w.bs,.map b2 (List.map (pf VV.str (VV.int .i64)) w.held),.box b3 149 [Z140 A0 A1 ob5 c.pools cap5,Z152 A0 A1 ob6 c.insts cap6,Iw c.delay,Iw c.now,Iw c.calls],Q140 A0 A1 ob5 cap5 c.pools,Q152 A0 A1 ob6 cap6 c.insts]) (([] : List T_api_Machine),(0 : Int)) (none,0) (fun _=>R) hm (B1 (Bf 68) (Ah [0,1,2,3,4,5,6,7,8,9] (by kernel_rfl) (by kernel_rfl))) fun n=>Pq fun l2 v2=>Pq fun ob8 cap8 hm=> ?_
  rw [world_World_Machines.l1] at hm
  refine Ag tbk [] R R<|Af<|Ao hm R (fun h6 hm=>?_) fun h6 hm=> ?_
  ·refine Al<|Af<|Aw<|Ae<|Bd hm fun x h7 hm=>Cg 4 R (gl_pos T_api_Machine.vv h7) fun b4 h8=> ?_
   subst h8
   exact Aa R R (Cm T_api_Machine.vv R R el39 h7)<|Aa R R (Ce (i:=4) (y:=T_api_Machine.vv x) R R R (gl_map _ (gl_some h7).2) ld68 R)<|Ab R R<|Au z68 fun b5=>Ab R R<|Ak (i:=0) R R R ld68 R R R<|Ac<|Bv<|Ad tbk [0] 2 R R<|Ab R R<|Ay hm 0 R fn79 R (K35 _) fun r2 hm=>Ab R R<|A4 ap39 R R R R R fun b6=>Bd hm fun l5 h12 hm=>Ab R R<|Bo 2 T_api_Machine.vv (l:=l2) (l2:=[r2]) ap39 R R (sT_row 0 T_api_Machine.vv el39 R R) h12 fun ob10 cap10=>Aa R R (Aj R)<|Ac<|Ba tbk [] R R<|Ap (l5,(IntKind.i64.wrap (v2 + (1 : Int)))) (ob10,cap10) hm (Ah [2,3,4,5,6,7,8,9,10,11] (by kernel_rfl) (by kernel_rfl))
  exact A6<|As (ob8,cap8) hm (Ah [0,1,2,3,4,5,6,7,8,9] (by kernel_rfl) (by kernel_rfl))
 exact Ag tbk [] R R<|Rg2 hm R [0,1,2,3,4,5,6,7,8,9] ob9 cap9 (.cons (.tmp _ _ R) .nil) R R

/-! trireme/drain.has -/
def drain_has (w : T_world_World) (c : T_cloud_Cloud) (name : ByteArray) : Option Bool :=
 (world_World_Machines w c).bind fun r =>
 (yard_Find r name).bind fun r2 =>
 some (decide (r2 ≥ 0))
theorem K139 (A0 A1 : Nat) (w : T_world_World) (c : T_cloud_Cloud) (name : ByteArray) (b : Nat) (ob : Option Nat) (cap : Nat) (ob2 : Option Nat) (cap2 : Nat) (ob3 : Option Nat) (cap3 : Nat) (ob4 : Option Nat) (cap4 : Nat) (b2 : Nat) (b3 : Nat) (ob5 : Option Nat) (cap5 : Nat) (ob6 : Option Nat) (cap6 : Nat) : VS Tryz.prog 113 (drain_has w c name) [.ptr b 0, .str name] [.box b 43 [.ptr b3 0, Z139 ob w.groups cap, Z103 ob2 w.budgets cap2, Z68 ob3 w.ms cap3, Z64 ob4 w.bs cap4, .map b2], Q139 ob cap w.groups, Q103 ob2 cap2 w.budgets, Q68 ob3 cap3 w.ms, Q64 ob4 cap4 w.bs, .map b2 (List.map (pf VV.str (VV.int .i64)) w.held), .box b3 149 [Z140 A0 A1 ob5 c.pools cap5, Z152 A0 A1 ob6 c.insts cap6, Iw c.delay, Iw c.now, Iw c.calls], Q140 A0 A1 ob5 cap5 c.pools, Q152 A0 A1 ob6 cap6 c.insts] .bool (fun r=>[.box b 43 [.ptr b3 0, Z139 ob w.groups cap, Z103 ob2 w.budgets cap2, Z68 ob3 w.ms cap3, Z64 ob4 w.bs cap4, .map b2], Q139 ob cap w.groups, Q103 ob2 cap2 w.budgets, Q68 ob3 cap3 w.ms, Q64 ob4 cap4 w.bs, .map b2 (List.map (pf VV.str (VV.int .i64)) w.held), .box b3 149 [Z140 A0 A1 ob5 c.pools cap5, Z152 A0 A1 ob6 c.insts cap6, Iw c.delay, Iw c.now, Iw c.calls], Q140 A0 A1 ob5 cap5 c.pools, Q152 A0 A1 ob6 cap6 c.insts]) := by
 refine A8 [.tmp 4] Tryz.func113 R R R fun r hm=>?_
 unfold drain_has at hm
 exact Ag tbk [] R R<|Ae<|Aa R R (Ai R)<|Ab R R<|Cj hm 9 R fn19 R (K138 A0 A1 _ _ _ _ _ _ _ _ _ _ _ _ _ _ _ _ _) fun r ob7 cap7 hm=>Av (Az 0 [(6,L68 r)] R ⟨⟨_,R,.here _ R⟩,trivial⟩ (FzH.refl _))<|Aa R R (Ai R)<|Ab R R<|Ay hm 0 R fn72 R (K49 _ _) fun r2 hm=>Ad tbk [] 2 R R<|Ac<|Rt1 hm R [0,1,2,3,4,5,6,7,8] R R R

/-! trireme/taints.Add$1 -/
def taints_Add_1 (y : T_api_Taint) (a : T_api_Taint) : Option Bool :=
 (taints_like a).bind fun r =>
 (taints_like y).bind fun r2 =>
 some (!(((r.Key == r2.Key) && ((r.Val == r2.Val) && ((r.Effect == r2.Effect) && true))) == true))
theorem K140 (y : T_api_Taint) (a : T_api_Taint) (b : Nat) : VS Tryz.prog 140 (taints_Add_1 y a) [T_api_Taint.vv y, .ptr b 0] [X31 b a] .bool (fun r=>[X31 b a]) := by
 refine A8 [.tmp 3] Tryz.func140 R R R fun r hm=>?_
 unfold taints_Add_1 at hm
 refine Ae<|Ab R R<|Bg R R fun b2=>Aa R R (Aj R)<|Ac<|Af<|Bi 0 mixed<|A9 tbk [0,2] [1,0] (by kernel_rfl) R R R<|Am 1 (by kernel_rfl)<|Bd hm fun r h2 hm=>An R R R<|Aq 0 R fn141 R (K24 a r h2) fun _ _ h5=> ?_
 obtain ⟨rfl,rfl⟩:=h5
 refine Am 3 (by kernel_rfl)<|Bd hm fun r2 h3 hm=>An R R R<|Aq 0 R fn141 R (K24 y r2 h3) fun _ _ h4=> ?_
 obtain ⟨rfl,rfl⟩:=h4
 exact Bb 4 R R R (by kernel_rfl) (VP.eqS shp31 eq31 R R R R)<|Bb 5 R R R (by kernel_rfl) (Aj R)<|A5 (by kernel_rfl)<|Rt1 hm R [1] R R R

/-! trireme/taints.some -/
def taints_some_taints_Add_1.l1 (c : T_api_Taint) : List T_api_Taint → Nat → (List T_api_Taint) → Option (List T_api_Taint)
 | [], k, out2 => some out2
 | x :: l2, k, out2 =>
  (taints_Add_1 x c).bind fun r =>
  if r = true then
   (V.ap 40 out2 [x]).bind fun out4 =>
   taints_some_taints_Add_1.l1 c l2 (k + 1) out4
  else
   taints_some_taints_Add_1.l1 c l2 (k + 1) out2
def taints_some_taints_Add_1 (l : List T_api_Taint) (c : T_api_Taint) : Option (List T_api_Taint) :=
 (taints_some_taints_Add_1.l1 c l 0 ([] : List T_api_Taint)).bind fun out32 =>
 some out32
theorem K141 (l : List T_api_Taint) (c : T_api_Taint) (b : Nat) : VS2 Tryz.prog 139 (taints_some_taints_Add_1 l c) [L31 l, .clo (.func 140) [] [.ptr b 0]] [X31 b c] (fun r ob0 cap0=>Z31 ob0 r cap0) (fun r ob0 cap0=>[Q31 ob0 cap0 r, X31 b c]) := by
 refine Cz [.tmp 4] D6 R R R fun r hm=>?_
 unfold taints_some_taints_Add_1 at hm
 refine Ag tbk [] R R<|Ag tbk [] R R<|Af<|Ae<|Aa R R (Ai R)<|Aa R R (A7 T_api_Taint.vv R Ch)<|Aa R R (Ai R)<|Ac<|B4 8 R fun h5=>Cc hm (fun out32 (gg:Option Nat × Nat)=>[(5,Z31 gg.1 out32 gg.2)]) (fun out32 (gg:Option Nat × Nat)=>[Q31 gg.1 gg.2 out32,X31 b c]) (fun o hm=>?_) fun out32=>Pq fun ob3 cap3 hm=> ?_
 ·refine Cf (l) (fun zl zk (zs:List T_api_Taint)=>taints_some_taints_Add_1.l1 c zl zk zs) (fun k zs (zg:Option Nat × Nat)=>[(1,.clo (.func 140) [] [.ptr b 0]),(5,Z31 zg.1 zs zg.2),(8,L31 l),(9,Iw (l.length : Int)),(10,Iw (k : Int))]) (fun _ zs (zg:Option Nat × Nat)=>[Q31 zg.1 zg.2 zs,X31 b c]) _ (none,0) hm (B1 (Bf 31) (Ah [0,1] R R)) (fun k out2=>Pq fun ob2 cap2 hk hm=>?_) fun k x l2 out2=>Pq fun ob2 cap2 h6 hm=> ?_
  ·rw [taints_some_taints_Add_1.l1] at hm
   exact Ag tbk [] R R<|Af<|Bm R (k_end hk)<|A6<|As (ob2,cap2) hm (Ah [0,1] R R)
  rw [taints_some_taints_Add_1.l1] at hm
  exact Ag tbk [] R R<|Af<|Bl R (k_lt h6)<|Al<|Af<|Aw<|Ae<|Aa R R (B8 T_api_Taint.vv R R el66 h6)<|Aa R R (Bt R ld31 R)<|Ab R R<|Au z31 fun b2=>Ab R R<|Ak (i:=0) R R R ld31 R R R<|Ac<|Ae<|Ad tbk [0] 2 R R<|Av (Ax [2,0,1] R)<|Ab R R<|Ay hm 1 R fn140 R (K140 _ _ _) fun r hm=>Ac<|Ao hm R (fun h9 hm=>Bv<|Ad tbk [1] 2 R R<|Ab R R<|A4 ap66 R R R R R fun b3=>Bd hm fun out4 h11 hm=>Ab R R<|Bo 3 T_api_Taint.vv (l:=out2) (l2:=[x]) ap66 R R (sT_row 0 T_api_Taint.vv el66 R R) h11 fun ob4 cap4=>Aa R R (Aj R)<|Ac<|Ba tbk [] R R<|Ap _ (ob4,cap4) hm (Be [3,1] R ⟨R,R,R,R,congrArg some (k_next h6 h5),trivial⟩)) fun h9 hm=>Al<|Ba tbk [] R R<|Ap _ (ob2,cap2) hm (Be [2,0] R ⟨R,R,R,R,congrArg some (k_next h6 h5),trivial⟩)
 exact Ag tbk [] R R<|Rg2 hm R [0,1] ob3 cap3 (.cons (.tmp _ _ R) .nil) R R

/-! trireme/taints.Add -/
def taints_Add (l : List T_api_Taint) (x : T_api_Taint) : Option (List T_api_Taint) :=
 (taints_some_taints_Add_1 l x).bind fun r =>
 (V.ap 40 r [x]).bind fun l2 =>
 some l2
theorem K142 (l : List T_api_Taint) (x : T_api_Taint) : VS2 Tryz.prog 74 (taints_Add l x) [L31 l, T_api_Taint.vv x] [] (fun r ob0 cap0=>Z31 ob0 r cap0) (fun r ob0 cap0=>[Q31 ob0 cap0 r]) := by
 refine Cz [.tmp 4] Tryz.func74 R R R fun r hm=>?_
 unfold taints_Add at hm
 refine Ae<|Ab R R<|Bg R R fun b=>Aa R R (Aj R)<|Ac<|Af<|Bi 1 mixed<|Bb 0 R R R (by kernel_rfl) (Ai R)<|Bb 1 R R R (by kernel_rfl) (Ct R R)<|?_
 refine B3 [2,3] (by kernel_rfl) ⟨?_,?_,trivial⟩
 ·exact An R R R<|Cj hm 1 R fn139 R (K141 _ _ _) fun r ob cap hm=>Am 3 (by kernel_rfl)<|An R R R<|B7 (B0 (i:=1) R R ld31 R)<|Am 4 (by kernel_rfl)<|An R R R<|A4 ap66 R R R R R fun b2=>Am 5 (by kernel_rfl)<|Bd hm fun l2 h5 hm=>An R R R<|Bo 1 T_api_Taint.vv (l:=r) (l2:=[x]) ap66 R R (sT_row 0 T_api_Taint.vv el66 R R) h5 fun ob2 cap2=>Bb 6 R R R (by kernel_rfl) (Aj R)<|A5 (by kernel_rfl)<|Rg2 hm R [1] ob2 cap2 (.cons (.tmp _ _ R) .nil) R R
 ·refine An R R R<|B7 (B0 (i:=0) R R ld31 R)<|?_
  refine B3 [2,4] (by kernel_rfl) ⟨?_,?_,trivial⟩
  ·exact An R R R<|Cj hm 1 R fn139 R (K141 _ _ _) fun r2 ob3 cap3 hm=>Am 4 (by kernel_rfl)<|An R R R<|A4 ap66 R R R R R fun b3=>Am 5 (by kernel_rfl)<|Bd hm fun l3 h9 hm=>An R R R<|Bo 1 T_api_Taint.vv (l:=r2) (l2:=[x]) ap66 R R (sT_row 0 T_api_Taint.vv el66 R R) h9 fun ob4 cap4=>Bb 6 R R R (by kernel_rfl) (Aj R)<|A5 (by kernel_rfl)<|Rg2 hm R [1] ob4 cap4 (.cons (.tmp _ _ R) .nil) R R
  ·exact An R R R<|A4 ap66 R R R R R fun b4=>Am 2 (by kernel_rfl)<|An R R R<|VO.shift (Ax [1,0] R)<|Cj hm 1 R fn139 R (K141 _ _ _) fun r3 ob5 cap5 hm=>Am 5 (by kernel_rfl)<|Bd hm fun l4 h13 hm=>An R R R<|Bo 0 T_api_Taint.vv (l:=r3) (l2:=[x]) ap66 R R (sT_row 2 T_api_Taint.vv el66 R R) h13 fun ob6 cap6=>Bb 6 R R R (by kernel_rfl) (Aj R)<|A5 (by kernel_rfl)<|Rg2 hm R [0] ob6 cap6 (.cons (.tmp _ _ R) .nil) R R

/-! (*trireme/world.World).Taint$1 -/
def world_World_Taint_1 (m : T_api_Machine) (a : T_api_Taint) : Option (Int × T_api_Machine) :=
 (taints_Add m.Taints a).bind fun r =>
 (taints_Right r).bind fun r2 =>
 if (!r2) = true then
  some (12, (⟨m.Name, m.Group, m.Has, m.Labels, r, m.Ready⟩ : T_api_Machine))
 else
  some (0, (⟨m.Name, m.Group, m.Has, m.Labels, r, m.Ready⟩ : T_api_Machine))
theorem K143 (m : T_api_Machine) (a : T_api_Taint) (b : Nat) (b2 : Nat) : VS Tryz.prog 73 (world_World_Taint_1 m a) [.ptr b 0, .ptr b2 0] [X68 b m, X31 b2 a] (fun r=>Iw r.1) (fun r=>[X68 b r.2, X31 b2 a]) := by
 refine A8 [.tmp 3] Tryz.func73 R R R fun r hm=>?_
 unfold world_World_Taint_1 at hm
 exact Ag tbk [] R R<|Af<|Bi 1 mixed<|A9 tbk [0,1,2,3,5] [0] (by kernel_rfl) R R R<|Am 4 (by kernel_rfl)<|An R R R<|B7 (B0 (i:=0) R R ld66 R)<|Am 6 (by kernel_rfl)<|An R R R<|Cj hm 0 R fn74 R (K142 _ _) fun r ob cap hm=>Cs (Az 0 [(10,L31 r)] R ⟨⟨_,R,.here _ R⟩,trivial⟩ (FzH.refl _))<|A9 tbk [7,8] [] (by kernel_rfl) R R R<|Am 9 (by kernel_rfl)<|An R R R<|Ak (i:=0) R R R ld66 R R R<|A5 (by kernel_rfl)<|Af<|Ae<|Ad tbk [0] 4 R R<|Ab R R<|Ay hm 0 R fn75 R (K25 _) fun r2 hm=>Aa R R (Cp R)<|Ac<|Ao hm R (fun h4 hm=>Ag tbk [] R R<|Rt1 hm R [0,1] R R R) fun h4 hm=>Al<|Ag tbk [] R R<|Rt1 hm R [0,1] R R R

/-! (*trireme/world.World).on -/
def world_World_on_world_World_Taint_1 (w : T_world_World) (c : T_cloud_Cloud) (name : ByteArray) (c2 : T_api_Taint) : Option (Int × T_world_World) :=
 (world_World_there w c).bind fun r =>
 (yard_Find w.ms name).bind fun r2 =>
 if (decide (r2 < 0)) = true then
  some (16, w)
 else
  (V.gl w.ms r2).bind fun x =>
  (world_World_Taint_1 x c2).bind fun r3 =>
  if (r3.1 == 0) = true then
   (V.gl w.ms r2).bind fun x2 =>
   some (r3.1, (⟨(), w.groups, w.budgets, (List.set w.ms (r2).toNat r3.2), w.bs, w.held⟩ : T_world_World))
  else
   some (r3.1, w)
theorem K144 (A0 A1 : Nat) (w : T_world_World) (c : T_cloud_Cloud) (name : ByteArray) (c2 : T_api_Taint) (b : Nat) (ob : Option Nat) (cap : Nat) (ob2 : Option Nat) (cap2 : Nat) (ob3 : Option Nat) (cap3 : Nat) (ob4 : Option Nat) (cap4 : Nat) (b2 : Nat) (b3 : Nat) (ob5 : Option Nat) (cap5 : Nat) (ob6 : Option Nat) (cap6 : Nat) (b4 : Nat) : ∀ r : Int × T_world_World, world_World_on_world_World_Taint_1 w c name c2 = some r → VC Tryz.prog 69 [.ptr b 0, .str name, .clo (.func 73) [] [.ptr b4 0]] [.box b 43 [.ptr b3 0, Z139 ob w.groups cap, Z103 ob2 w.budgets cap2, Z68 ob3 w.ms cap3, Z64 ob4 w.bs cap4, .map b2], Q139 ob cap w.groups, Q103 ob2 cap2 w.budgets, Q68 ob3 cap3 w.ms, Q64 ob4 cap4 w.bs, .map b2 (List.map (pf VV.str (VV.int .i64)) w.held), .box b3 149 [Z140 A0 A1 ob5 c.pools cap5, Z152 A0 A1 ob6 c.insts cap6, Iw c.delay, Iw c.now, Iw c.calls], Q140 A0 A1 ob5 cap5 c.pools, Q152 A0 A1 ob6 cap6 c.insts, X31 b4 c2] fun zx zH => ∃ (ob0_1 : Option Nat) (cap0_1 : Nat) (ob0_2 : Option Nat) (cap0_2 : Nat) (ob0_3 : Option Nat) (cap0_3 : Nat) (ob0_4 : Option Nat) (cap0_4 : Nat) (b0_5 : Nat), zx = Iw r.1 ∧ zH = [.box b 43 [.ptr b3 0, Z139 ob0_1 r.2.groups cap0_1, Z103 ob0_2 r.2.budgets cap0_2, Z68 ob0_3 r.2.ms cap0_3, Z64 ob0_4 r.2.bs cap0_4, .map b0_5], Q139 ob0_1 cap0_1 r.2.groups, Q103 ob0_2 cap0_2 r.2.budgets, Q68 ob0_3 cap0_3 r.2.ms, Q64 ob0_4 cap0_4 r.2.bs, .map b0_5 (List.map (pf VV.str (VV.int .i64)) r.2.held), .box b3 149 [Z140 A0 A1 ob5 c.pools cap5, Z152 A0 A1 ob6 c.insts cap6, Iw c.delay, Iw c.now, Iw c.calls], Q140 A0 A1 ob5 cap5 c.pools, Q152 A0 A1 ob6 cap6 c.insts, X31 b4 c2] := by
 refine Cl [.tmp 6] D8 R R R fun r hm=>?_
 unfold world_World_on_world_World_Taint_1 at hm
 refine Ag tbk [] R R<|Af<|Ae<|Aa R R (Ai R)<|Bd hm fun r h1 hm=>Ab R R<|Aq 9 R fn60 R (K54 A0 A1 w c b ob cap ob2 cap2 ob3 cap3 ob4 cap4 b2 b3 ob5 cap5 ob6 cap6 r h1) fun _ _ h10=> ?_
 obtain ⟨rfl,rfl⟩:=h10
 refine Aa R R (Cp R)<|Ac<|Bm R (congrArg not (Option.some.inj (show some true = some r from h1)).symm)<|Al<|Ae<|Ad tbk [0] 5 R R<|Ab R R<|Dn hm (Az (H':=[.box b 43 [.ptr b3 0,Z139 ob w.groups cap,Z103 ob2 w.budgets cap2,L68 w.ms,Z64 ob4 w.bs cap4,.map b2],Q139 ob cap w.groups,Q103 ob2 cap2 w.budgets,Q64 ob4 cap4 w.bs,.map b2 (List.map (pf VV.str (VV.int .i64)) w.held),.box b3 149 [Z140 A0 A1 ob5 c.pools cap5,Z152 A0 A1 ob6 c.insts cap6,Iw c.delay,Iw c.now,Iw c.calls],Q140 A0 A1 ob5 cap5 c.pools,Q152 A0 A1 ob6 cap6 c.insts,X31 b4 c2]) 3 [(16,L68 w.ms)] R ⟨⟨_,R,.here _ R⟩,trivial⟩ (by exact ⟨.box _ _ _ _ ⟨.same _,.same _,.same _,.here _ R,.same _,.same _,trivial⟩,.same _,.same _,.same _,.same _,.same _,.same _,.same _,.same _,trivial⟩)) [.same,.same] R fn72 R (K49 _ _) (fun _=>R) (fun _=>R) fun r2 hm=>Aa R R (Aj R)<|Ac<|Af<|Ag tbk [] R R<|Ao hm R (fun h3 hm=>?_) fun h3 hm=> ?_
 ·refine Ag tbk [] R R<|?_
  obtain rfl:=Option.some.inj hm
  exact Bq ⟨.inl R,_,.cons (.tmp _ _ R) .nil,[0,1,2,3,4,5,6,7,8,9],_,R,ob,cap,ob2,cap2,ob3,cap3,ob4,cap4,b2,R,R⟩
 refine Al<|Ae<|Ad tbk [0] 5 R R<|Bd hm fun x h4 hm=>Cg 3 R (gl_pos T_api_Machine.vv h4) fun b5 h5=> ?_
 subst h5
 refine Aa R R (Cm T_api_Machine.vv R R el39 h4)<|Aa R R (Ce (i:=3) (y:=T_api_Machine.vv x) R R R (gl_map _ (gl_some h4).2) ld68 R)<|Ab R R<|Au z68 fun b6=>Ab R R<|Ak (i:=0) R R R ld68 R R R<|Ac<|Ae<|Aa R R (Ai R)<|Av (Ax [0,10,1,2,3,4,5,6,7,8,9] R)<|Ab R R<|Ay hm 2 R fn73 R (K143 _ _ _ _) fun r3 hm=>Aa R R (Aj R)<|Ac<|Af<|Ag tbk [] R R<|Ao hm R (fun h8 hm=>?_) fun h8 hm=> ?_
 ·refine Bu (Ax [2,5,0,1,3,4,6,7,8,9,10] R)<|Bi 2 mixed<|A9 tbk [0,1,2,4,5] [0] (by kernel_rfl) R R R<|Am 3 (by kernel_rfl)<|An R R R<|B7 (B0 (i:=0) R R ld39 R)<|Bd hm fun x2 h9 hm=>Bb 6 R R R (by kernel_rfl) (Cm T_api_Machine.vv R R el39 h9)<|Am 7 (by kernel_rfl)<|An R R R<|Ds 1 (f:=T_api_Machine.vv) (l:=w.ms) (q:=x2) (q':=r3.2) R R R R h9 ld68 R R R R ⟨R,List.all_eq_true.1 R⟩<|Cs (Shift.cst (F:=fun zv=>[.box b 43 [.ptr b3 0,Z139 ob w.groups cap,Z103 ob2 w.budgets cap2,zv,Z64 ob4 w.bs cap4,.map b2],Q68 (some b5) cap3 (List.set w.ms (r2).toNat r3.2)]) (congrArg (fun zn=>VV.sl (some b5) zn cap3) (len_set T_api_Machine.vv w.ms (r2).toNat r3.2)))<|Cs (Cr 16 (List.map T_api_Machine.vv (List.set w.ms (r2).toNat r3.2)).length R (len_set _ _ _ _))<|Cs (Cr 24 (List.map T_api_Machine.vv (List.set w.ms (r2).toNat r3.2)).length R (len_set _ _ _ _))<|Cs (Cr 35 (List.map T_api_Machine.vv (List.set w.ms (r2).toNat r3.2)).length R (len_set _ _ _ _))<|A5 (by kernel_rfl)<|Ag tbk [] R R<|?_
  obtain rfl:=Option.some.inj hm
  exact Bq ⟨.inl R,_,.cons (.tmp _ _ R) .nil,[0,4,5,1,6,7,8,9,10,3],_,R,ob,cap,ob2,cap2,(some b5),cap3,ob4,cap4,b2,R,R⟩
 refine Al<|Ag tbk [] R R<|?_
 obtain rfl:=Option.some.inj hm
 exact Bq ⟨.inl R,_,.cons (.tmp _ _ R) .nil,[2,3,4,5,6,7,8,9,10,1],_,R,ob,cap,ob2,cap2,(some b5),cap3,ob4,cap4,b2,R,R⟩

/-! (*trireme/world.World).Taint -/
def world_World_Taint (w : T_world_World) (c : T_cloud_Cloud) (name : ByteArray) (x : T_api_Taint) : Option (Int × T_world_World) :=
 (world_World_on_world_World_Taint_1 w c name x).bind fun r =>
 some (r.1, r.2)
theorem K145 (A0 A1 : Nat) (w : T_world_World) (c : T_cloud_Cloud) (name : ByteArray) (x : T_api_Taint) (b : Nat) (ob : Option Nat) (cap : Nat) (ob2 : Option Nat) (cap2 : Nat) (ob3 : Option Nat) (cap3 : Nat) (ob4 : Option Nat) (cap4 : Nat) (b2 : Nat) (b3 : Nat) (ob5 : Option Nat) (cap5 : Nat) (ob6 : Option Nat) (cap6 : Nat) : ∀ r : Int × T_world_World, world_World_Taint w c name x = some r → VC Tryz.prog 16 [.ptr b 0, .str name, T_api_Taint.vv x] [.box b 43 [.ptr b3 0, Z139 ob w.groups cap, Z103 ob2 w.budgets cap2, Z68 ob3 w.ms cap3, Z64 ob4 w.bs cap4, .map b2], Q139 ob cap w.groups, Q103 ob2 cap2 w.budgets, Q68 ob3 cap3 w.ms, Q64 ob4 cap4 w.bs, .map b2 (List.map (pf VV.str (VV.int .i64)) w.held), .box b3 149 [Z140 A0 A1 ob5 c.pools cap5, Z152 A0 A1 ob6 c.insts cap6, Iw c.delay, Iw c.now, Iw c.calls], Q140 A0 A1 ob5 cap5 c.pools, Q152 A0 A1 ob6 cap6 c.insts] fun zx zH => ∃ (ob0_1 : Option Nat) (cap0_1 : Nat) (ob0_2 : Option Nat) (cap0_2 : Nat) (ob0_3 : Option Nat) (cap0_3 : Nat) (ob0_4 : Option Nat) (cap0_4 : Nat) (b0_5 : Nat), zx = Iw r.1 ∧ zH = [.box b 43 [.ptr b3 0, Z139 ob0_1 r.2.groups cap0_1, Z103 ob0_2 r.2.budgets cap0_2, Z68 ob0_3 r.2.ms cap0_3, Z64 ob0_4 r.2.bs cap0_4, .map b0_5], Q139 ob0_1 cap0_1 r.2.groups, Q103 ob0_2 cap0_2 r.2.budgets, Q68 ob0_3 cap0_3 r.2.ms, Q64 ob0_4 cap0_4 r.2.bs, .map b0_5 (List.map (pf VV.str (VV.int .i64)) r.2.held), .box b3 149 [Z140 A0 A1 ob5 c.pools cap5, Z152 A0 A1 ob6 c.insts cap6, Iw c.delay, Iw c.now, Iw c.calls], Q140 A0 A1 ob5 cap5 c.pools, Q152 A0 A1 ob6 cap6 c.insts] := by
 refine Cl [.tmp 6] Tryz.func16 R R R fun r hm=>?_
 unfold world_World_Taint at hm
 refine Ae<|Ab R R<|Bg R R fun b4=>Aa R R (Aj R)<|Ac<|Ae<|Ad tbk [] 2 R R<|Aa R R (Ct R R)<|Bd hm fun r h2 hm=>Av (Ax [1,2,3,4,5,6,7,8,9,0] R)<|Ab R R<|Aq 10 R fn69 R (K144 A0 A1 w c name x b ob cap ob2 cap2 ob3 cap3 ob4 cap4 b2 b3 ob5 cap5 ob6 cap6 b4 r h2) fun _ _ h3=> ?_
 obtain ⟨ob7,cap7,ob8,cap8,ob9,cap9,ob10,cap10,b5,rfl,rfl⟩:=h3
 refine Aa R R (Aj R)<|Ac<|?_
 obtain rfl:=Option.some.inj hm
 exact Bq ⟨.inl R,_,.cons (.tmp _ _ R) .nil,[0,1,2,3,4,5,6,7,8],_,R,ob7,cap7,ob8,cap8,ob9,cap9,ob10,cap10,b5,R,R⟩

/-! (*trireme/drain.Table).Start -/
def drain_Table_Start.l1 (t : T_drain_Table) (w : T_world_World) (name : ByteArray) : Nat → Int → Option (Out (Int × T_drain_Table × T_world_World) Unit)
 | 0, _ => none
 | n + 1, v2 =>
  if (decide (v2 < (t.l.length : Int))) = true then
   (V.gl t.l v2).bind fun x =>
   if (V.seq x.name name) = true then
    some (Out.ret (15, t, w))
   else
    drain_Table_Start.l1 t w name n (i64.wrap (v2 + 1))
  else
   some (Out.go ())
def drain_Table_Start (t : T_drain_Table) (w : T_world_World) (c : T_cloud_Cloud) (name : ByteArray) : Option (Int × T_drain_Table × T_world_World) :=
 (drain_Table_there t).bind fun r =>
 (if (!r) = true then some true else (drain_is w c).bind fun r2 =>
 some (!r2)).bind fun c2 =>
 if c2 = true then
  some (23, t, w)
 else
  (drain_has w c name).bind fun r3 =>
  if (!r3) = true then
   some (16, t, w)
  else
   (drain_Table_Start.l1 t w name FU (0 : Int)).bind fun o =>
   o.on fun j =>
   (world_World_Taint w c name (⟨(⟨#[100, 114, 97, 105, 110, 105, 110, 103]⟩ : ByteArray), (⟨#[]⟩ : ByteArray), 1⟩ : T_api_Taint)).bind fun r4 =>
   if (r4.1 != 0) = true then
    some (r4.1, t, r4.2)
   else
    (V.ap 32 t.l [(⟨name, 0, false⟩ : T_drain_one)]).bind fun l2 =>
    some (0, (⟨l2, t.grace, t.made⟩ : T_drain_Table), r4.2)
theorem K146 (A0 A1 : Nat) (t : T_drain_Table) (w : T_world_World) (c : T_cloud_Cloud) (name : ByteArray) (b : Nat) (ob : Option Nat) (cap : Nat) (b2 : Nat) (ob2 : Option Nat) (cap2 : Nat) (ob3 : Option Nat) (cap3 : Nat) (ob4 : Option Nat) (cap4 : Nat) (ob5 : Option Nat) (cap5 : Nat) (b3 : Nat) (b4 : Nat) (ob6 : Option Nat) (cap6 : Nat) (ob7 : Option Nat) (cap7 : Nat) : ∀ r : Int × T_drain_Table × T_world_World, drain_Table_Start t w c name = some r → VC Tryz.prog 39 [.ptr b 0, .ptr b2 0, .str name] [.box b 108 [Z172 ob t.l cap, Iw t.grace, .bool t.made], Q172 ob cap t.l, .box b2 43 [.ptr b4 0, Z139 ob2 w.groups cap2, Z103 ob3 w.budgets cap3, Z68 ob4 w.ms cap4, Z64 ob5 w.bs cap5, .map b3], Q139 ob2 cap2 w.groups, Q103 ob3 cap3 w.budgets, Q68 ob4 cap4 w.ms, Q64 ob5 cap5 w.bs, .map b3 (List.map (pf VV.str (VV.int .i64)) w.held), .box b4 149 [Z140 A0 A1 ob6 c.pools cap6, Z152 A0 A1 ob7 c.insts cap7, Iw c.delay, Iw c.now, Iw c.calls], Q140 A0 A1 ob6 cap6 c.pools, Q152 A0 A1 ob7 cap7 c.insts] fun zx zH => ∃ (ob0_0 : Option Nat) (cap0_0 : Nat) (ob1_1 : Option Nat) (cap1_1 : Nat) (ob1_2 : Option Nat) (cap1_2 : Nat) (ob1_3 : Option Nat) (cap1_3 : Nat) (ob1_4 : Option Nat) (cap1_4 : Nat) (b1_5 : Nat), zx = Iw r.1 ∧ zH = [.box b 108 [Z172 ob0_0 r.2.1.l cap0_0, Iw r.2.1.grace, .bool r.2.1.made], Q172 ob0_0 cap0_0 r.2.1.l, .box b2 43 [.ptr b4 0, Z139 ob1_1 r.2.2.groups cap1_1, Z103 ob1_2 r.2.2.budgets cap1_2, Z68 ob1_3 r.2.2.ms cap1_3, Z64 ob1_4 r.2.2.bs cap1_4, .map b1_5], Q139 ob1_1 cap1_1 r.2.2.groups, Q103 ob1_2 cap1_2 r.2.2.budgets, Q68 ob1_3 cap1_3 r.2.2.ms, Q64 ob1_4 cap1_4 r.2.2.bs, .map b1_5 (List.map (pf VV.str (VV.int .i64)) r.2.2.held), .box b4 149 [Z140 A0 A1 ob6 c.pools cap6, Z152 A0 A1 ob7 c.insts cap7, Iw c.delay, Iw c.now, Iw c.calls], Q140 A0 A1 ob6 cap6 c.pools, Q152 A0 A1 ob7 cap7 c.insts] := by
 refine Cl [.tmp 6] Tryz.func39 R R R fun r hm=>?_
 unfold drain_Table_Start at hm
 refine Ag tbk [] R R<|Af<|Aw<|Ae<|Aa R R (Ai R)<|Ab R R<|Ay hm 2 R fn111 R (K136 _ _ _ _) fun r hm=>Ad tbk [] 2 R R<|Bx hm 4 18 14 R (fun _ K' h2 J hm=>Ad tbk [] 4 R R<|J 3 R R (Bj hm)) (fun _ K' h2 J hm=>?_) fun c2 hm=> ?_
 ·refine Bk R R R R R (Ai R)<|Bd hm fun r2 h3 hm=>Av (Ax [2,3,4,5,6,7,8,9,10,0,1] R)<|Bh R R R R R<|Aq 9 R fn112 R (K137 A0 A1 w c b2 ob2 cap2 ob3 cap3 ob4 cap4 ob5 cap5 b3 b4 ob6 cap6 ob7 cap7 r2 h3) fun _ _ h4=> ?_
  obtain ⟨rfl,rfl⟩:=h4
  exact Ad tbk [] 2 R R<|Av (Ax [9,10,0,1,2,3,4,5,6,7,8] R)<|J 3 R R (Bj hm)
 refine Aa R R (Aj R)<|Ac<|Ao hm R (fun h6 hm=>?_) fun h6 hm=> ?_
 ·refine Ag tbk [] R R<|?_
  obtain rfl:=Option.some.inj hm
  exact Bq ⟨.inl R,_,.cons (.tmp _ _ R) .nil,[0,1,2,3,4,5,6,7,8,9,10],_,R,ob,cap,ob2,cap2,ob3,cap3,ob4,cap4,ob5,cap5,b3,R,R⟩
 refine Ae<|Ad tbk [] 2 R R<|Av (Ax [2,3,4,5,6,7,8,9,10,0,1] R)<|Ab R R<|Ay hm 9 R fn113 R (K139 A0 A1 _ _ _ _ _ _ _ _ _ _ _ _ _ _ _ _ _ _) fun r3 hm=>Ad tbk [] 2 R R<|Ac<|Ao hm R (fun h8 hm=>?_) fun h8 hm=> ?_
 ·refine Ag tbk [] R R<|?_
  obtain rfl:=Option.some.inj hm
  exact Bq ⟨.inl R,_,.cons (.tmp _ _ R) .nil,[9,10,0,1,2,3,4,5,6,7,8],_,R,ob,cap,ob2,cap2,ob3,cap3,ob4,cap4,ob5,cap5,b3,R,R⟩
 refine Al<|Af<|Ae<|Ad tbk [9] 4 R R<|Aa R R (Cx T_drain_one.vv R Df)<|Aa R R (Ai R)<|Ac<|B5 hm (fun _ (_:Unit)=>[(0,.ptr b 0),(1,.ptr b2 0),(2,.str name)]) (fun _ (_:Unit)=>[.box b2 43 [.ptr b4 0,Z139 ob2 w.groups cap2,Z103 ob3 w.budgets cap3,Z68 ob4 w.ms cap4,Z64 ob5 w.bs cap5,.map b3],Q139 ob2 cap2 w.groups,Q103 ob3 cap3 w.budgets,Q68 ob4 cap4 w.ms,Q64 ob5 cap5 w.bs,.map b3 (List.map (pf VV.str (VV.int .i64)) w.held),.box b4 149 [Z140 A0 A1 ob6 c.pools cap6,Z152 A0 A1 ob7 c.insts cap7,Iw c.delay,Iw c.now,Iw c.calls],Q140 A0 A1 ob6 cap6 c.pools,Q152 A0 A1 ob7 cap7 c.insts,.box b 108 [Z172 ob t.l cap,Iw t.grace,.bool t.made],Q172 ob cap t.l]) (fun o hm h10=>?_) fun j _ hm=> ?_
 ·refine Ca (fun zn (zs:Int)=>drain_Table_Start.l1 t w name zn zs) (fun zs (_:Unit)=>[(0,.ptr b 0),(1,.ptr b2 0),(2,.str name),(27,Z172 ob t.l cap),(28,Iw (t.l.length : Int)),(29,Iw zs)]) (fun _ (_:Unit)=>[.box b2 43 [.ptr b4 0,Z139 ob2 w.groups cap2,Z103 ob3 w.budgets cap3,Z68 ob4 w.ms cap4,Z64 ob5 w.bs cap5,.map b3],Q139 ob2 cap2 w.groups,Q103 ob3 cap3 w.budgets,Q68 ob4 cap4 w.ms,Q64 ob5 cap5 w.bs,.map b3 (List.map (pf VV.str (VV.int .i64)) w.held),.box b4 149 [Z140 A0 A1 ob6 c.pools cap6,Z152 A0 A1 ob7 c.insts cap7,Iw c.delay,Iw c.now,Iw c.calls],Q140 A0 A1 ob6 cap6 c.pools,Q152 A0 A1 ob7 cap7 c.insts,.box b 108 [Z172 ob t.l cap,Iw t.grace,.bool t.made],Q172 ob cap t.l]) (0 : Int) () (fun _=>R) hm (Ah [0,1,2,3,4,5,6,7,8,9,10] (by kernel_rfl) (by kernel_rfl)) fun n v2 _ hm=> ?_
  rw [drain_Table_Start.l1] at hm
  refine Ag tbk [] R R<|Af<|Ao hm R (fun h11 hm=>?_) fun h11 hm=> ?_
  ·refine Al<|Af<|Aw<|Ae<|Bd hm fun x h12 hm=>Cg 10 R (gl_pos T_drain_one.vv h12) fun b5 h13=> ?_
   subst h13
   refine Aa R R (Cm T_drain_one.vv R R el106 h12)<|Aa R R (Ce (i:=10) (y:=T_drain_one.vv x) R R R (gl_map _ (gl_some h12).2) ld172 R)<|Ab R R<|Au z172 fun b6=>Ab R R<|Ak (i:=0) R R R ld172 R R R<|Ac<|Ag tbk [0] R R<|Ao hm R (fun h15 hm=>?_) fun h15 hm=> ?_
   ·refine Ag tbk [] R R<|have hm:=Lr hm h10; ?_
    obtain rfl:=Option.some.inj hm
    exact Bq ⟨.inl R,_,.cons (.tmp _ _ R) .nil,[10,11,1,2,3,4,5,6,7,8,9],_,R,(some b5),cap,ob2,cap2,ob3,cap3,ob4,cap4,ob5,cap5,b3,R,R⟩
   exact Al<|Ba tbk [] R R<|Ap (IntKind.i64.wrap (v2 + (1 : Int))) () hm (Ah [1,2,3,4,5,6,7,8,9,10,11] (by kernel_rfl) (by kernel_rfl))
  exact A6<|Ar () hm (Ah [0,1,2,3,4,5,6,7,8,9,10] (by kernel_rfl) (by kernel_rfl))
 refine Af<|Ae<|Ad tbk [] 2 R R<|Aa R R (Bn pl31 R R)<|Bd hm fun r4 h16 hm=>Ab R R<|Aq 9 R fn16 R (K145 A0 A1 w c name (⟨(⟨#[100,114,97,105,110,105,110,103]⟩ : ByteArray),(⟨#[]⟩ : ByteArray),(1 : Int)⟩ : T_api_Taint) b2 ob2 cap2 ob3 cap3 ob4 cap4 ob5 cap5 b3 b4 ob6 cap6 ob7 cap7 r4 h16) fun _ _ h20=> ?_
 obtain ⟨ob8,cap8,ob9,cap9,ob10,cap10,ob11,cap11,b7,rfl,rfl⟩:=h20
 refine Aa R R (Aj R)<|Ac<|Ag tbk [] R R<|Ao hm R (fun h17 hm=>?_) fun h17 hm=> ?_
 ·refine Ag tbk [] R R<|?_
  obtain rfl:=Option.some.inj hm
  exact Bq ⟨.inl R,_,.cons (.tmp _ _ R) .nil,[9,10,0,1,2,3,4,5,6,7,8],_,R,ob,cap,ob8,cap8,ob9,cap9,ob10,cap10,ob11,cap11,b7,R,R⟩
 refine Al<|Ae<|Ad tbk [9] 6 R R<|Aa R R (Bn pl172 R R)<|Ab R R<|A4 ap106 R R R R R fun b8=>Bd hm fun l2 h19 hm=>Ab R R<|Bo 11 T_drain_one.vv (l:=t.l) (l2:=[(⟨name,(0 : Int),false⟩ : T_drain_one)]) ap106 R R (sT_row 0 T_drain_one.vv el106 R R) h19 fun ob12 cap12=>Ad tbk [] 2 R R<|Ab R R<|Ak (i:=10) R R R ld106 R R R<|Ac<|Ag tbk [] R R<|?_
 obtain rfl:=Option.some.inj hm
 exact Bq ⟨.inl R,_,.cons (.tmp _ _ R) .nil,[10,11,1,2,3,4,5,6,7,8,9],_,R,ob12,cap12,ob8,cap8,ob9,cap9,ob10,cap10,ob11,cap11,b7,R,R⟩

/-! (*trireme/drain.Table).Step$1 -/
def drain_Table_Step_1 (what : ByteArray) (name : ByteArray) (a : List ByteArray) : Option (List ByteArray) :=
 (V.cat what (⟨#[32]⟩ : ByteArray)).bind fun v =>
 (V.cat v name).bind fun v2 =>
 (V.ap 16 a [v2]).bind fun l =>
 some l
theorem K147 (what : ByteArray) (name : ByteArray) (a : List ByteArray) (b : Nat) (ob : Option Nat) (cap : Nat) : VS2 Tryz.prog 117 (drain_Table_Step_1 what name a) [.str what, .str name, .ptr b 0] [.box b 61 [Z9 ob a cap], Q9 ob cap a] (fun r ob0_0 cap0_0=>.tup []) (fun r ob0_0 cap0_0=>[.box b 61 [Z9 ob0_0 r cap0_0], Q9 ob0_0 cap0_0 r]) := by
 refine Cz [] Tryz.func117 R R R fun r hm=>?_
 unfold drain_Table_Step_1 at hm
 refine Bv<|Ad tbk [0] 2 R R<|Bd hm fun v h1 hm=>Aa R R (Du R R h1)<|Aa R R (Ai R)<|Bd hm fun v2 h2 hm=>Aa R R (Du R R h2)<|Ab R R<|A4 ap61 R R R R R fun b2=>Bd hm fun l h4 hm=>Ab R R<|Bo 2 VV.str (l:=a) (l2:=[v2]) ap61 R R (sT_row 0 VV.str el61 R R) h4 fun ob2 cap2=>Ab R R<|Ak (i:=1) R R R ld61 R R R<|Ac<|?_
 obtain rfl:=Option.some.inj hm
 exact ⟨.inr R,_,.nil,[1,2],_,R,ob2,cap2,R,R⟩

/-! (*trireme/world.World).Bounds -/
def world_World_Bounds.l1 (w : T_world_World) : Nat → (List T_api_Bound) → Int → Option (List T_api_Bound)
 | 0, _, _ => none
 | n + 1, l2, v2 =>
  if (decide (v2 < (w.bs.length : Int))) = true then
   (V.gl w.bs v2).bind fun x =>
   (world_pod x.Pod).bind fun r2 =>
   (V.ap 288 l2 [(⟨r2, x.On⟩ : T_api_Bound)]).bind fun l5 =>
   world_World_Bounds.l1 w n l5 (i64.wrap (v2 + 1))
  else
   some l2
def world_World_Bounds (w : T_world_World) (c : T_cloud_Cloud) : Option (List T_api_Bound) :=
 (world_World_there w c).bind fun r =>
 (world_World_Bounds.l1 w FU ([] : List T_api_Bound) (0 : Int)).bind fun l32 =>
 some l32
theorem K148 (A0 A1 : Nat) (w : T_world_World) (c : T_cloud_Cloud) (b : Nat) (ob : Option Nat) (cap : Nat) (ob2 : Option Nat) (cap2 : Nat) (ob3 : Option Nat) (cap3 : Nat) (ob4 : Option Nat) (cap4 : Nat) (b2 : Nat) (b3 : Nat) (ob5 : Option Nat) (cap5 : Nat) (ob6 : Option Nat) (cap6 : Nat) : VS2 Tryz.prog 20 (world_World_Bounds w c) [.ptr b 0] [.box b 43 [.ptr b3 0, Z139 ob w.groups cap, Z103 ob2 w.budgets cap2, Z68 ob3 w.ms cap3, Z64 ob4 w.bs cap4, .map b2], Q139 ob cap w.groups, Q103 ob2 cap2 w.budgets, Q68 ob3 cap3 w.ms, Q64 ob4 cap4 w.bs, .map b2 (List.map (pf VV.str (VV.int .i64)) w.held), .box b3 149 [Z140 A0 A1 ob5 c.pools cap5, Z152 A0 A1 ob6 c.insts cap6, Iw c.delay, Iw c.now, Iw c.calls], Q140 A0 A1 ob5 cap5 c.pools, Q152 A0 A1 ob6 cap6 c.insts] (fun r ob0 cap0=>Z64 ob0 r cap0) (fun r ob0 cap0=>[Q64 ob0 cap0 r, .box b 43 [.ptr b3 0, Z139 ob w.groups cap, Z103 ob2 w.budgets cap2, Z68 ob3 w.ms cap3, Z64 ob4 w.bs cap4, .map b2], Q139 ob cap w.groups, Q103 ob2 cap2 w.budgets, Q68 ob3 cap3 w.ms, Q64 ob4 cap4 w.bs, .map b2 (List.map (pf VV.str (VV.int .i64)) w.held), .box b3 149 [Z140 A0 A1 ob5 c.pools cap5, Z152 A0 A1 ob6 c.insts cap6, Iw c.delay, Iw c.now, Iw c.calls], Q140 A0 A1 ob5 cap5 c.pools, Q152 A0 A1 ob6 cap6 c.insts]) := by
 refine Cz [.tmp 2] Tryz.func20 R R R fun r hm=>?_
 unfold world_World_Bounds at hm
 refine Ag tbk [] R R<|Af<|Ae<|Aa R R (Ai R)<|Bd hm fun r h1 hm=>Ab R R<|Aq 9 R fn60 R (K54 A0 A1 w c b ob cap ob2 cap2 ob3 cap3 ob4 cap4 b2 b3 ob5 cap5 ob6 cap6 r h1) fun _ _ h14=> ?_
 obtain ⟨rfl,rfl⟩:=h14
 refine Aa R R (Cp R)<|Ac<|Bm R (congrArg not (Option.some.inj (show some true = some r from h1)).symm)<|Al<|Ag tbk [] R R<|Af<|Ae<|Ad tbk [0] 4 R R<|Aa R R (Cx T_api_Bound.vv R B6)<|Aa R R (Ai R)<|Ac<|Cc hm (fun l32 (gg:Option Nat × Nat)=>[(3,Z64 gg.1 l32 gg.2)]) (fun l32 (gg:Option Nat × Nat)=>[Q64 gg.1 gg.2 l32,.box b 43 [.ptr b3 0,Z139 ob w.groups cap,Z103 ob2 w.budgets cap2,Z68 ob3 w.ms cap3,Z64 ob4 w.bs cap4,.map b2],Q139 ob cap w.groups,Q103 ob2 cap2 w.budgets,Q68 ob3 cap3 w.ms,Q64 ob4 cap4 w.bs,.map b2 (List.map (pf VV.str (VV.int .i64)) w.held),.box b3 149 [Z140 A0 A1 ob5 c.pools cap5,Z152 A0 A1 ob6 c.insts cap6,Iw c.delay,Iw c.now,Iw c.calls],Q140 A0 A1 ob5 cap5 c.pools,Q152 A0 A1 ob6 cap6 c.insts]) (fun o hm=>?_) fun l32=>Pq fun ob9 cap9 hm=> ?_
 ·refine Ca (fun zn (zs:List T_api_Bound × Int)=>world_World_Bounds.l1 w zn zs.1 zs.2) (fun zs (zg:Option Nat × Nat)=>[(3,Z64 zg.1 zs.1 zg.2),(12,Z64 ob4 w.bs cap4),(13,Iw (w.bs.length : Int)),(14,Iw zs.2)]) (fun zs (zg:Option Nat × Nat)=>[Q64 zg.1 zg.2 zs.1,.box b 43 [.ptr b3 0,Z139 ob w.groups cap,Z103 ob2 w.budgets cap2,Z68 ob3 w.ms cap3,Z64 ob4 w.bs cap4,.map b2],Q139 ob cap w.groups,Q103 ob2 cap2 w.budgets,Q68 ob3 cap3 w.ms,Q64 ob4 cap4 w.bs,.map b2 (List.map (pf VV.str (VV.int .i64)) w.held),.box b3 149 [Z140 A0 A1 ob5 c.pools cap5,Z152 A0 A1 ob6 c.insts cap6,Iw c.delay,Iw c.now,Iw c.calls],Q140 A0 A1 ob5 cap5 c.pools,Q152 A0 A1 ob6 cap6 c.insts]) (([] : List T_api_Bound),(0 : Int)) (none,0) (fun _=>R) hm (B1 (Bf 64) (Ah [0,1,2,3,4,5,6,7,8,9] (by kernel_rfl) (by kernel_rfl))) fun n=>Pq fun l2 v2=>Pq fun ob8 cap8 hm=> ?_
  rw [world_World_Bounds.l1] at hm
  refine Ag tbk [] R R<|Af<|Ao hm R (fun h6 hm=>?_) fun h6 hm=> ?_
  ·refine Al<|Af<|Aw<|Ae<|Bd hm fun x h7 hm=>Cg 5 R (gl_pos T_api_Bound.vv h7) fun b4 h8=> ?_
   subst h8
   exact Aa R R (Cm T_api_Bound.vv R R el40 h7)<|Aa R R (Ce (i:=5) (y:=T_api_Bound.vv x) R R R (gl_map _ (gl_some h7).2) ld64 R)<|Ab R R<|Au z64 fun b5=>Ab R R<|Ak (i:=0) R R R ld64 R R R<|Ac<|Bu (Ax [1,0,2,3,4,5,6,7,8,9,10] R)<|Bi 1 mixed<|A9 tbk [0,1,2,4,5] [0,0] (by kernel_rfl) R R R<|Am 3 (by kernel_rfl)<|An R R R<|Ay hm 0 R fn67 R (K65 _) fun r2 hm=>Bb 6 R R R (by kernel_rfl) (Bn pl64 R R)<|Am 7 (by kernel_rfl)<|An R R R<|A4 ap40 R R R R R fun b6=>Am 8 (by kernel_rfl)<|Bd hm fun l5 h12 hm=>An R R R<|Bo 1 T_api_Bound.vv (l:=l2) (l2:=[(⟨r2,x.On⟩ : T_api_Bound)]) ap40 R R (sT_row 0 T_api_Bound.vv el40 R R) h12 fun ob10 cap10=>Bb 9 R R R (by kernel_rfl) (Aj R)<|A5 (by kernel_rfl)<|Ba tbk [] R R<|Ap (l5,(IntKind.i64.wrap (v2 + (1 : Int)))) (ob10,cap10) hm (Ah [1,3,4,5,6,7,8,9,10,11] (by kernel_rfl) (by kernel_rfl))
  exact A6<|As (ob8,cap8) hm (Ah [0,1,2,3,4,5,6,7,8,9] (by kernel_rfl) (by kernel_rfl))
 exact Ag tbk [] R R<|Rg2 hm R [0,1,2,3,4,5,6,7,8,9] ob9 cap9 (.cons (.tmp _ _ R) .nil) R R

/-! trireme/block.Movable -/
def block_Movable.l1 : List T_api_Pod → Nat → (List T_api_Pod) → Option (List T_api_Pod)
 | [], k, l2 => some l2
 | x :: l4, k, l2 =>
  if (!x.Daemon) = true then
   (V.ap 272 l2 [x]).bind fun l5 =>
   block_Movable.l1 l4 (k + 1) l5
  else
   block_Movable.l1 l4 (k + 1) l2
def block_Movable (bs : List T_api_Bound) (name : ByteArray) : Option (List T_api_Pod) :=
 (yard_On bs name).bind fun r =>
 (block_Movable.l1 r 0 ([] : List T_api_Pod)).bind fun l32 =>
 some l32
theorem K149 (bs : List T_api_Bound) (name : ByteArray) : VS2 Tryz.prog 175 (block_Movable bs name) [L64 bs, .str name] [] (fun r ob0 cap0=>Z29 ob0 r cap0) (fun r ob0 cap0=>[Q29 ob0 cap0 r]) := by
 refine Cz [.tmp 4] Tryz.func175 R R R fun r hm=>?_
 unfold block_Movable at hm
 refine Ag tbk [] R R<|Ag tbk [] R R<|Af<|Ae<|Ad tbk [] 2 R R<|Ab R R<|Cj hm 0 R fn123 R (K76 _ _) fun r ob cap hm=>Av (Az 0 [(10,L29 r)] R ⟨⟨_,R,.here _ R⟩,trivial⟩ (FzH.refl _))<|Aa R R (A7 T_api_Pod.vv R C4)<|Aa R R (Ai R)<|Ac<|B4 10 R fun h7=>Cc hm (fun l32 (gg:Option Nat × Nat)=>[(5,Z29 gg.1 l32 gg.2)]) (fun l32 (gg:Option Nat × Nat)=>[Q29 gg.1 gg.2 l32]) (fun o hm=>?_) fun l32=>Pq fun ob4 cap4 hm=> ?_
 ·refine Cf (r) (fun zl zk (zs:List T_api_Pod)=>block_Movable.l1 zl zk zs) (fun k zs (zg:Option Nat × Nat)=>[(5,Z29 zg.1 zs zg.2),(10,L29 r),(11,Iw (r.length : Int)),(12,Iw (k : Int))]) (fun _ zs (zg:Option Nat × Nat)=>[Q29 zg.1 zg.2 zs]) _ (none,0) hm (B1 (Bf 29) (Ah [0] R R)) (fun k l2=>Pq fun ob3 cap3 hk hm=>?_) fun k x l4 l2=>Pq fun ob3 cap3 h8 hm=> ?_
  ·rw [block_Movable.l1] at hm
   exact Ag tbk [] R R<|Af<|Bm R (k_end hk)<|A6<|As (ob3,cap3) hm (Ah [0] R R)
  rw [block_Movable.l1] at hm
  exact Ag tbk [] R R<|Af<|Bl R (k_lt h8)<|Al<|Af<|Aw<|Ae<|Aa R R (B8 T_api_Pod.vv R R el193 h8)<|Aa R R (Bt R ld29 R)<|Ab R R<|Au z29 fun b=>Ab R R<|Ak (i:=0) R R R ld29 R R R<|Ac<|Ag tbk [0] R R<|Ao hm R (fun h10 hm=>Bv<|Ad tbk [0] 2 R R<|Ab R R<|A4 ap193 R R R R R fun b2=>Bd hm fun l5 h12 hm=>Ab R R<|Bo 2 T_api_Pod.vv (l:=l2) (l2:=[x]) ap193 R R (sT_row 0 T_api_Pod.vv el193 R R) h12 fun ob5 cap5=>Aa R R (Aj R)<|Ac<|Ba tbk [] R R<|Ap _ (ob5,cap5) hm (Be [2] R ⟨R,R,R,congrArg some (k_next h8 h7),trivial⟩)) fun h10 hm=>Al<|Ba tbk [] R R<|Ap _ (ob3,cap3) hm (Be [1] R ⟨R,R,R,congrArg some (k_next h8 h7),trivial⟩)
 exact Ag tbk [] R R<|Rg2 hm R [0] ob4 cap4 (.cons (.tmp _ _ R) .nil) R R

/-! trireme/budget.counts -/
def budget_counts (b : T_api_Budget) (p : T_api_Pod) : Option Bool :=
 (labels_Has p.Labels b.Match).bind fun r =>
 some r
theorem K150 (b : T_api_Budget) (p : T_api_Pod) : VS Tryz.prog 146 (budget_counts b p) [T_api_Budget.vv b, T_api_Pod.vv p] [] .bool N0 := by
 refine A8 [.tmp 4] Tryz.func146 R R R fun r hm=>?_
 unfold budget_counts at hm
 exact Ae<|Ab R R<|Bg R R fun b2=>Ab R R<|Bg R R fun b3=>Aa R R (Aj R)<|Ac<|Ae<|Ad tbk [0,1] 4 R R<|Ab R R<|Ay hm 0 R fn191 R (K83 _ _) fun r hm=>Aa R R (Aj R)<|Ac<|Rt1 hm R [] R R R

/-! trireme/budget.Spare -/
def budget_Spare.l1 (b : T_api_Budget) : List T_api_Bound → Nat → Int → Option Int
 | [], k, n2 => some n2
 | x :: l, k, n2 =>
  (if (!(V.seq x.On (⟨#[]⟩ : ByteArray))) = true then (budget_counts b x.Pod).bind fun r =>
  some r else some false).bind fun c =>
  if c = true then
   budget_Spare.l1 b l (k + 1) (i64.wrap (n2 + 1))
  else
   budget_Spare.l1 b l (k + 1) n2
def budget_Spare (b : T_api_Budget) (bs : List T_api_Bound) : Option Int :=
 (budget_Spare.l1 b bs 0 (i64.wrap (0 - b.Least))).bind fun n32 =>
 some n32
theorem K151 (b : T_api_Budget) (bs : List T_api_Bound) : VS Tryz.prog 147 (budget_Spare b bs) [T_api_Budget.vv b, L64 bs] [] Iw N0 := by
 refine A8 [.tmp 4] Tryz.func147 R R R fun r hm=>?_
 unfold budget_Spare at hm
 refine Ae<|Ab R R<|Bg R R fun b2=>Aa R R (Aj R)<|Ac<|Ae<|Ad tbk [0] 2 R R<|Aa R R (VP.neg R)<|Aa R R (Aj R)<|Ac<|Af<|Ae<|Aa R R (Ai R)<|Aa R R (A7 T_api_Bound.vv R B6)<|Aa R R (Ai R)<|Ac<|B4 11 R fun h4=>Cc hm (fun n32 (_:Unit)=>[(5,Iw n32)]) (fun _ (_:Unit)=>[]) (fun o hm=>?_) fun n32 _ hm=> ?_
 ·refine Cf (bs) (fun zl zk (zs:Int)=>budget_Spare.l1 b zl zk zs) (fun k zs (_:Unit)=>[(2,.ptr b2 0),(5,Iw zs),(11,L64 bs),(12,Iw (bs.length : Int)),(13,Iw (k : Int))]) (fun _ _ (_:Unit)=>[X103 b2 b]) _ () hm (Ah [0] R R) (fun k n2 _ hk hm=>?_) fun k x l n2 _ h5 hm=> ?_
  ·rw [budget_Spare.l1] at hm
   exact Ag tbk [] R R<|Af<|Bm R (k_end hk)<|A6<|As () hm (Ah [] R R)
  rw [budget_Spare.l1] at hm
  exact Ag tbk [] R R<|Af<|Bl R (k_lt h5)<|Al<|Af<|Aw<|Ae<|Aa R R (B8 T_api_Bound.vv R R el40 h5)<|Aa R R (Bt R ld64 R)<|Ab R R<|Au z64 fun b3=>Ab R R<|Ak (i:=0) R R R ld64 R R R<|Ac<|Ae<|Ad tbk [0] 4 R R<|Bx hm 5 25 20 R (fun _ K' h7 J hm=>Ad tbk [1,0] 3 R R<|Bh R R R R R<|Ay hm 0 R fn146 R (K150 _ _) fun r hm=>Aa R R (Bs true R R R)<|J 4 R R (Bj hm)) (fun _ K' h7 J hm=>Ad tbk [] 5 R R<|J 4 R R (Bj hm)) fun c hm=>Ac<|Ao hm R (fun h10 hm=>Ba tbk [] R R<|Ba tbk [] R R<|Ap _ () hm (Be [1] R ⟨R,R,R,R,congrArg some (k_next h5 h4),trivial⟩)) fun h10 hm=>Al<|Ba tbk [] R R<|Ap _ () hm (Be [1] R ⟨R,R,R,R,congrArg some (k_next h5 h4),trivial⟩)
 exact Ag tbk [] R R<|Rt1 hm R [] R R R

/-! trireme/budget.May -/
def budget_May.l1 (bs : List T_api_Bound) (r : Int) : List T_api_Budget → Nat → Option (Out Int Unit)
 | [], k => some (Out.go ())
 | x2 :: l2, k =>
  (V.gl bs r).bind fun x3 =>
  (budget_counts x2 x3.Pod).bind fun r2 =>
  (if r2 = true then (budget_Spare x2 bs).bind fun r3 =>
  some (decide (r3 ≤ 0)) else some false).bind fun c =>
  if c = true then
   some (Out.ret 20)
  else
   budget_May.l1 bs r l2 (k + 1)
def budget_May (l : List T_api_Budget) (bs : List T_api_Bound) (name : ByteArray) : Option Int :=
 (yard_Place bs name).bind fun r =>
 if (decide (r < 0)) = true then
  some 16
 else
  (V.gl bs r).bind fun x =>
  if (V.seq x.On (⟨#[]⟩ : ByteArray)) = true then
   some 22
  else
   (budget_May.l1 bs r l 0).bind fun o =>
   o.on fun j =>
   some 0
theorem K152 (l : List T_api_Budget) (bs : List T_api_Bound) (name : ByteArray) : VS Tryz.prog 78 (budget_May l bs name) [L103 l, L64 bs, .str name] [] Iw N0 := by
 refine A8 [.tmp 6] Tryz.func78 R R R fun r hm=>?_
 unfold budget_May at hm
 refine Ag tbk [] R R<|Ae<|Ad tbk [] 2 R R<|Ab R R<|Ay hm 0 R fn66 R (K64 _ _) fun r hm=>Aa R R (Aj R)<|Ac<|Af<|Aw<|Ag tbk [] R R<|Ao hm R (fun h2 hm=>Ag tbk [] R R<|Rt1 hm R [] R R R) fun h2 hm=>Ae<|Ad tbk [] 2 R R<|Bd hm fun x h3 hm=>Aa R R (Bw T_api_Bound.vv R R el40 h3)<|Ad tbk [] 4 R R<|Ac<|Ao hm R (fun h4 hm=>Ag tbk [] R R<|Rt1 hm R [] R R R) fun h4 hm=>Al<|Af<|Ae<|Aa R R (Ai R)<|Aa R R (A7 T_api_Budget.vv R Cw)<|Aa R R (Ai R)<|Ac<|B4 23 R fun h7=>B5 hm (fun _ (_:Unit)=>[]) (fun _ (_:Unit)=>[]) (fun o hm h6=>?_) fun j _ hm=> ?_
 ·refine Cf (l) (fun zl zk (zs:Unit)=>budget_May.l1 bs r zl zk) (fun k _ (_:Unit)=>[(1,L64 bs),(7,Iw r),(23,L103 l),(24,Iw (l.length : Int)),(25,Iw (k : Int))]) (fun _ _ (_:Unit)=>[]) () () hm (Ah [] R R) (fun k _ _ hk hm=>?_) fun k x2 l2 _ _ h8 hm=> ?_
  ·rw [budget_May.l1] at hm
   exact Ag tbk [] R R<|Af<|Bm R (k_end hk)<|A6<|Ar () hm (Ah [] R R)
  rw [budget_May.l1] at hm
  refine Ag tbk [] R R<|Af<|Bl R (k_lt h8)<|Al<|Af<|Aw<|Ae<|Aa R R (B8 T_api_Budget.vv R R el38 h8)<|Aa R R (Bt R ld103 R)<|Ab R R<|Au z103 fun b=>Ab R R<|Ak (i:=0) R R R ld103 R R R<|Ac<|Af<|Bi 0 mixed<|A9 tbk [0,1,2] [0] (by kernel_rfl) R R R<|Bd hm fun x3 h10 hm=>Bb 3 R R R (by kernel_rfl) (Bw T_api_Bound.vv R R el40 h10)<|A9 tbk [4,5] [] (by kernel_rfl) R R R<|Am 6 (by kernel_rfl)<|Bd hm fun r2 h11 hm=>An R R R<|Aq 0 R fn146 R (K150 x2 x3.Pod r2 h11) fun _ _ h16=> ?_
  obtain ⟨rfl,rfl⟩:=h16
  exact Bb 7 R R R (by kernel_rfl) (Ai R)<|Dk hm [12,11,10,9,8,7,6,5,4,3,2,1,0] 41 36 R (fun _ K' h12 J hm=>A9 tbk [8,9] [0] (by kernel_rfl) R R R<|Am 10 (by kernel_rfl)<|Dm R R R R R R<|Ay hm 0 R fn147 R (K151 _ _) fun r3 hm=>A9 tbk [11,12] [] (by kernel_rfl) R R R<|J 4 R R (Bj hm)) (fun _ K' h12 J hm=>A9 tbk [8,9,10,11,12] [] (by kernel_rfl) R R R<|J 4 R R (Bj hm)) fun c hm=>A5 (by kernel_rfl)<|Ao hm R (fun h15 hm=>Ag tbk [] R R<|have hm:=Lr hm h6;Rt1 hm R [] R R R) fun h15 hm=>Al<|Ba tbk [] R R<|Ap () () hm (Be [] R ⟨R,R,R,R,congrArg some (k_next h8 h7),trivial⟩)
 exact Ag tbk [] R R<|Rt1 hm R [] R R R

/-! (*trireme/world.World).cut -/
def world_World_cut (w : T_world_World) (c : T_cloud_Cloud) (i : Int) : Option (T_api_Pod × T_world_World) :=
 (V.gl w.bs i).bind fun x =>
 (V.rng w.bs.length none (some i)).bind fun r =>
 (V.rng w.bs.length (some (i64.wrap (i + 1))) none).bind fun r2 =>
 (V.aps 288 w.bs r r2).bind fun l =>
 some (x.Pod, (⟨(), w.groups, w.budgets, w.ms, l, w.held⟩ : T_world_World))
theorem K153 (A0 A1 : Nat) (w : T_world_World) (c : T_cloud_Cloud) (i : Int) (b : Nat) (ob : Option Nat) (cap : Nat) (ob2 : Option Nat) (cap2 : Nat) (ob3 : Option Nat) (cap3 : Nat) (ob4 : Option Nat) (cap4 : Nat) (b2 : Nat) (b3 : Nat) (ob5 : Option Nat) (cap5 : Nat) (ob6 : Option Nat) (cap6 : Nat) : ∀ r : T_api_Pod × T_world_World, world_World_cut w c i = some r → VC Tryz.prog 68 [.ptr b 0, Iw i] [.box b 43 [.ptr b3 0, Z139 ob w.groups cap, Z103 ob2 w.budgets cap2, Z68 ob3 w.ms cap3, Z64 ob4 w.bs cap4, .map b2], Q139 ob cap w.groups, Q103 ob2 cap2 w.budgets, Q68 ob3 cap3 w.ms, Q64 ob4 cap4 w.bs, .map b2 (List.map (pf VV.str (VV.int .i64)) w.held), .box b3 149 [Z140 A0 A1 ob5 c.pools cap5, Z152 A0 A1 ob6 c.insts cap6, Iw c.delay, Iw c.now, Iw c.calls], Q140 A0 A1 ob5 cap5 c.pools, Q152 A0 A1 ob6 cap6 c.insts] fun zx zH => ∃ (ob0_1 : Option Nat) (cap0_1 : Nat) (ob0_2 : Option Nat) (cap0_2 : Nat) (ob0_3 : Option Nat) (cap0_3 : Nat) (ob0_4 : Option Nat) (cap0_4 : Nat) (b0_5 : Nat), zx = T_api_Pod.vv r.1 ∧ zH = [.box b 43 [.ptr b3 0, Z139 ob0_1 r.2.groups cap0_1, Z103 ob0_2 r.2.budgets cap0_2, Z68 ob0_3 r.2.ms cap0_3, Z64 ob0_4 r.2.bs cap0_4, .map b0_5], Q139 ob0_1 cap0_1 r.2.groups, Q103 ob0_2 cap0_2 r.2.budgets, Q68 ob0_3 cap0_3 r.2.ms, Q64 ob0_4 cap0_4 r.2.bs, .map b0_5 (List.map (pf VV.str (VV.int .i64)) r.2.held), .box b3 149 [Z140 A0 A1 ob5 c.pools cap5, Z152 A0 A1 ob6 c.insts cap6, Iw c.delay, Iw c.now, Iw c.calls], Q140 A0 A1 ob5 cap5 c.pools, Q152 A0 A1 ob6 cap6 c.insts] := by
 refine Cl [.cell 4 29] Tryz.func68 R R R fun r hm=>?_
 unfold world_World_cut at hm
 refine Ae<|Ab R R<|Au z29 fun b4=>Ac<|Ae<|Ad tbk [1] 5 R R<|Bd hm fun x h2 hm=>Cg 5 R (gl_pos T_api_Bound.vv h2) fun b5 h3=> ?_
 subst h3
 refine Aa R R (Cm T_api_Bound.vv R R el40 h2)<|Aa R R (D1 R fa64_0)<|Aa R R (Ce (i:=5) (y:=T_api_Bound.vv x) R R R (gl_map _ (gl_some h2).2) ld29 R)<|Ab R R<|Au z29 fun b6=>Ab R R<|Ak (i:=0) R R R ld29 R R R<|Ac<|Af<|Bu (Ax [2,6,0,1,3,4,5,7,8,9,10] R)<|Bi 2 mixed<|A9 tbk [0,1,2,3,5,6,8,9,10,12,13] [] (by kernel_rfl) R R R<|?_
 refine B3 [4,11] (by kernel_rfl) ⟨?_,?_,trivial⟩
 ·refine An R R R<|B7 (B0 (i:=0) R R ld40 R)<|Bd hm fun r h5 hm=>VA.pH 7 R R R (by kernel_rfl) (VPH.sub3T (f:=T_api_Bound.vv) (xs:=w.bs) 1 el40 R R R R R h5)<|Am 11 (by kernel_rfl)<|An R R R<|B7 (B0 (i:=0) R R ld40 R)<|Bd hm fun r2 h6 hm=>VA.pH 14 R R R (by kernel_rfl) (VPH.subT (f:=T_api_Bound.vv) (xs:=w.bs) 1 el40 R R R R h6)<|Am 15 (by kernel_rfl)<|Bd hm fun l h7 hm=>An R R R<|VO.appSub 1 (f:=T_api_Bound.vv) (l:=w.bs) ap40 R R R R (V.rng_0 h5) (rng_le h5) (rng_le h6) h7 fun ob7 cap7=>A9 tbk [16,17] [] (by kernel_rfl) R R R<|Am 18 (by kernel_rfl)<|An R R R<|Ak (i:=0) R R R ld40 R R R<|A5 (by kernel_rfl)<|Ae<|Ad tbk [2] 1 R R<|Ab R R<|Ak (i:=3) R R R ld29 R R R<|Ac<|?_
  obtain rfl:=Option.some.inj hm
  exact Bq ⟨.inl R,_,.cons (.cell _ _ _ _ 3 _ _ _ _ R R ld29 R) .nil,[0,4,5,6,1,7,8,9,10],_,R,ob,cap,ob2,cap2,ob3,cap3,ob7,cap7,b2,R,R⟩
 ·refine An R R R<|B7 (B0 (i:=0) R R ld40 R)<|Bd hm fun r3 h8 hm=>Bd hm fun r4 h9 hm=>VA.pH 14 R R R (by kernel_rfl) (VPH.subT (f:=T_api_Bound.vv) (xs:=w.bs) 1 el40 R R R R h9)<|Am 4 (by kernel_rfl)<|An R R R<|B7 (B0 (i:=0) R R ld40 R)<|VA.pH 7 R R R (by kernel_rfl) (VPH.sub3T (f:=T_api_Bound.vv) (xs:=w.bs) 1 el40 R R R R R h8)<|Am 15 (by kernel_rfl)<|Bd hm fun l2 h10 hm=>An R R R<|VO.appSub 1 (f:=T_api_Bound.vv) (l:=w.bs) ap40 R R R R (V.rng_0 h8) (rng_le h8) (rng_le h9) h10 fun ob8 cap8=>A9 tbk [16,17] [] (by kernel_rfl) R R R<|Am 18 (by kernel_rfl)<|An R R R<|Ak (i:=0) R R R ld40 R R R<|A5 (by kernel_rfl)<|Ae<|Ad tbk [2] 1 R R<|Ab R R<|Ak (i:=3) R R R ld29 R R R<|Ac<|?_
  obtain rfl:=Option.some.inj hm
  exact Bq ⟨.inl R,_,.cons (.cell _ _ _ _ 3 _ _ _ _ R R ld29 R) .nil,[0,4,5,6,1,7,8,9,10],_,R,ob,cap,ob2,cap2,ob3,cap3,ob8,cap8,b2,R,R⟩

/-! (*trireme/world.World).Evict -/
def world_World_Evict (w : T_world_World) (c : T_cloud_Cloud) (name : ByteArray) : Option (Int × T_world_World) :=
 (world_World_there w c).bind fun r =>
 (budget_May w.budgets w.bs name).bind fun r2 =>
 if (r2 != 0) = true then
  some (r2, w)
 else
  (yard_Place w.bs name).bind fun r3 =>
  (world_World_cut w c r3).bind fun r4 =>
  (V.ap 288 r4.2.bs [(⟨r4.1, (⟨#[]⟩ : ByteArray)⟩ : T_api_Bound)]).bind fun l =>
  some (0, (⟨(), r4.2.groups, r4.2.budgets, r4.2.ms, l, r4.2.held⟩ : T_world_World))
theorem K154 (A0 A1 : Nat) (w : T_world_World) (c : T_cloud_Cloud) (name : ByteArray) (b : Nat) (ob : Option Nat) (cap : Nat) (ob2 : Option Nat) (cap2 : Nat) (ob3 : Option Nat) (cap3 : Nat) (ob4 : Option Nat) (cap4 : Nat) (b2 : Nat) (b3 : Nat) (ob5 : Option Nat) (cap5 : Nat) (ob6 : Option Nat) (cap6 : Nat) : ∀ r : Int × T_world_World, world_World_Evict w c name = some r → VC Tryz.prog 18 [.ptr b 0, .str name] [.box b 43 [.ptr b3 0, Z139 ob w.groups cap, Z103 ob2 w.budgets cap2, Z68 ob3 w.ms cap3, Z64 ob4 w.bs cap4, .map b2], Q139 ob cap w.groups, Q103 ob2 cap2 w.budgets, Q68 ob3 cap3 w.ms, Q64 ob4 cap4 w.bs, .map b2 (List.map (pf VV.str (VV.int .i64)) w.held), .box b3 149 [Z140 A0 A1 ob5 c.pools cap5, Z152 A0 A1 ob6 c.insts cap6, Iw c.delay, Iw c.now, Iw c.calls], Q140 A0 A1 ob5 cap5 c.pools, Q152 A0 A1 ob6 cap6 c.insts] fun zx zH => ∃ (ob0_1 : Option Nat) (cap0_1 : Nat) (ob0_2 : Option Nat) (cap0_2 : Nat) (ob0_3 : Option Nat) (cap0_3 : Nat) (ob0_4 : Option Nat) (cap0_4 : Nat) (b0_5 : Nat), zx = Iw r.1 ∧ zH = [.box b 43 [.ptr b3 0, Z139 ob0_1 r.2.groups cap0_1, Z103 ob0_2 r.2.budgets cap0_2, Z68 ob0_3 r.2.ms cap0_3, Z64 ob0_4 r.2.bs cap0_4, .map b0_5], Q139 ob0_1 cap0_1 r.2.groups, Q103 ob0_2 cap0_2 r.2.budgets, Q68 ob0_3 cap0_3 r.2.ms, Q64 ob0_4 cap0_4 r.2.bs, .map b0_5 (List.map (pf VV.str (VV.int .i64)) r.2.held), .box b3 149 [Z140 A0 A1 ob5 c.pools cap5, Z152 A0 A1 ob6 c.insts cap6, Iw c.delay, Iw c.now, Iw c.calls], Q140 A0 A1 ob5 cap5 c.pools, Q152 A0 A1 ob6 cap6 c.insts] := by
 refine Cl [.tmp 4] Tryz.func18 R R R fun r hm=>?_
 unfold world_World_Evict at hm
 refine Ag tbk [] R R<|Af<|Ae<|Aa R R (Ai R)<|Bd hm fun r h1 hm=>Ab R R<|Aq 9 R fn60 R (K54 A0 A1 w c b ob cap ob2 cap2 ob3 cap3 ob4 cap4 b2 b3 ob5 cap5 ob6 cap6 r h1) fun _ _ h12=> ?_
 obtain ⟨rfl,rfl⟩:=h12
 refine Aa R R (Cp R)<|Ac<|Bm R (congrArg not (Option.some.inj (show some true = some r from h1)).symm)<|Al<|Af<|Af<|Bu (Ax [2,4,0,1,3,5,6,7,8] R)<|Bi 2 mixed<|A9 tbk [0,1,2,3,4,5,6,7,8] [0,0] (by kernel_rfl) R R R<|Am 9 (by kernel_rfl)<|An R R R<|Dn hm (B1 (Az 0 [(13,L103 w.budgets)] R ⟨⟨_,R,.here _ R⟩,trivial⟩ (FzH.refl _)) (Az 0 [(17,L64 w.bs)] R ⟨⟨_,R,.here _ R⟩,trivial⟩ (FzH.refl _))) [.same,.same,.same] R fn78 R (K152 _ _ _) (fun _=>R) (fun _=>R) fun r2 hm=>Bb 10 R R R (by kernel_rfl) (Aj R)<|A5 (by kernel_rfl)<|Ag tbk [] R R<|Ao hm R (fun h3 hm=>?_) fun h3 hm=> ?_
 ·refine Ag tbk [] R R<|?_
  obtain rfl:=Option.some.inj hm
  exact Bq ⟨.inl R,_,.cons (.tmp _ _ R) .nil,[2,3,0,4,1,5,6,7,8],_,R,ob,cap,ob2,cap2,ob3,cap3,ob4,cap4,b2,R,R⟩
 refine Al<|Ae<|Ad tbk [2] 6 R R<|Ab R R<|Dn hm (Az (H':=[Q103 ob2 cap2 w.budgets,.box b 43 [.ptr b3 0,Z139 ob w.groups cap,Z103 ob2 w.budgets cap2,Z68 ob3 w.ms cap3,L64 w.bs,.map b2],Q139 ob cap w.groups,Q68 ob3 cap3 w.ms,.map b2 (List.map (pf VV.str (VV.int .i64)) w.held),.box b3 149 [Z140 A0 A1 ob5 c.pools cap5,Z152 A0 A1 ob6 c.insts cap6,Iw c.delay,Iw c.now,Iw c.calls],Q140 A0 A1 ob5 cap5 c.pools,Q152 A0 A1 ob6 cap6 c.insts]) 1 [(17,L64 w.bs),(27,L64 w.bs)] R ⟨⟨_,R,.here _ R⟩,⟨_,R,.here _ R⟩,trivial⟩ (by exact ⟨.same _,.box _ _ _ _ ⟨.same _,.same _,.same _,.same _,.here _ R,.same _,trivial⟩,.same _,.same _,.same _,.same _,.same _,.same _,trivial⟩)) [.same,.same] R fn66 R (K64 _ _) (fun _=>R) (fun _=>R) fun r3 hm=>Bd hm fun r4 h5 hm=>Av (Ax [2,3,0,4,1,5,6,7,8] R)<|Ab R R<|Aq 9 R fn68 R (K153 A0 A1 w c r3 b ob cap ob2 cap2 ob3 cap3 ob4 cap4 b2 b3 ob5 cap5 ob6 cap6 r4 h5) fun _ _ h11=> ?_
 obtain ⟨ob7,cap7,ob8,cap8,ob9,cap9,ob10,cap10,b4,rfl,rfl⟩:=h11
 refine Ab R R<|Au z29 fun b5=>Ab R R<|Ak (i:=0) R R R ld29 R R R<|Ac<|Af<|Bu (Ax [1,5,0,2,3,4,6,7,8,9] R)<|Bi 2 mixed<|A9 tbk [0,1,2,3,5] [0] (by kernel_rfl) R R R<|Bb 6 R R R (by kernel_rfl) (Bn pl64 R R)<|?_
 refine B3 [4,7] (by kernel_rfl) ⟨?_,?_,trivial⟩
 ·refine An R R R<|B7 (B0 (i:=0) R R ld40 R)<|Am 7 (by kernel_rfl)<|An R R R<|A4 ap40 R R R R R fun b6=>Am 8 (by kernel_rfl)<|Bd hm fun l h8 hm=>An R R R<|Bo 2 T_api_Bound.vv (l:=r4.2.bs) (l2:=[(⟨r4.1,(⟨#[]⟩ : ByteArray)⟩ : T_api_Bound)]) ap40 R R (sT_row 0 T_api_Bound.vv el40 R R) h8 fun ob11 cap11=>A9 tbk [9,10] [] (by kernel_rfl) R R R<|Am 11 (by kernel_rfl)<|An R R R<|Ak (i:=1) R R R ld40 R R R<|A5 (by kernel_rfl)<|Ag tbk [] R R<|?_
  obtain rfl:=Option.some.inj hm
  exact Bq ⟨.inl R,_,.cons (.tmp _ _ R) .nil,[1,4,5,6,2,7,8,9,10],_,R,ob7,cap7,ob8,cap8,ob9,cap9,ob11,cap11,b4,R,R⟩
 ·refine An R R R<|A4 ap40 R R R R R fun b7=>Am 4 (by kernel_rfl)<|An R R R<|B7 (B0 (i:=1) R R ld40 R)<|Am 8 (by kernel_rfl)<|Bd hm fun l2 h10 hm=>An R R R<|Bo 2 T_api_Bound.vv (l:=r4.2.bs) (l2:=[(⟨r4.1,(⟨#[]⟩ : ByteArray)⟩ : T_api_Bound)]) ap40 R R (sT_row 0 T_api_Bound.vv el40 R R) h10 fun ob12 cap12=>A9 tbk [9,10] [] (by kernel_rfl) R R R<|Am 11 (by kernel_rfl)<|An R R R<|Ak (i:=1) R R R ld40 R R R<|A5 (by kernel_rfl)<|Ag tbk [] R R<|?_
  obtain rfl:=Option.some.inj hm
  exact Bq ⟨.inl R,_,.cons (.tmp _ _ R) .nil,[1,4,5,6,2,7,8,9,10],_,R,ob7,cap7,ob8,cap8,ob9,cap9,ob12,cap12,b4,R,R⟩

/-! trireme/taints.Drop$1 -/
def taints_Drop_1 (x : T_api_Taint) (a : ByteArray) (a2 : Int) : Option Bool :=
 (if (!(V.seq x.Key a)) = true then some true else (taints_of x a2).bind fun r =>
 some (!r)).bind fun c =>
 some c
theorem K155 (x : T_api_Taint) (a : ByteArray) (a2 : Int) (b : Nat) (b2 : Nat) : VS Tryz.prog 144 (taints_Drop_1 x a a2) [T_api_Taint.vv x, .ptr b 0, .ptr b2 0] [.box b 9 [.str a], .box b2 3 [Iw a2]] .bool (fun r=>[.box b 9 [.str a], .box b2 3 [Iw a2]]) := by
 refine A8 [.tmp 4] Tryz.func144 R R R fun r hm=>?_
 unfold taints_Drop_1 at hm
 exact Ae<|Ab R R<|Bg R R fun b3=>Aa R R (Aj R)<|Ac<|Ae<|Ad tbk [0,1] 5 R R<|Bx hm 5 14 9 R (fun _ K' h2 J hm=>Ad tbk [] 5 R R<|J 4 R R (Bj hm)) (fun _ K' h2 J hm=>Ad tbk [0,2] 2 R R<|Bh R R R R R<|Ay hm 0 R fn145 R (K87 _ _) fun r hm=>Ad tbk [] 2 R R<|J 4 R R (Bj hm)) fun c hm=>Aa R R (Aj R)<|Ac<|Rt1 hm R [1,2] R R R

/-! trireme/taints.some -/
def taints_some_taints_Drop_1.l1 (c : ByteArray) (c2 : Int) : List T_api_Taint → Nat → (List T_api_Taint) → Option (List T_api_Taint)
 | [], k, out2 => some out2
 | x :: l2, k, out2 =>
  (taints_Drop_1 x c c2).bind fun r =>
  if r = true then
   (V.ap 40 out2 [x]).bind fun out4 =>
   taints_some_taints_Drop_1.l1 c c2 l2 (k + 1) out4
  else
   taints_some_taints_Drop_1.l1 c c2 l2 (k + 1) out2
def taints_some_taints_Drop_1 (l : List T_api_Taint) (c : ByteArray) (c2 : Int) : Option (List T_api_Taint) :=
 (taints_some_taints_Drop_1.l1 c c2 l 0 ([] : List T_api_Taint)).bind fun out32 =>
 some out32
theorem K156 (l : List T_api_Taint) (c : ByteArray) (c2 : Int) (b : Nat) (b2 : Nat) : VS2 Tryz.prog 139 (taints_some_taints_Drop_1 l c c2) [L31 l, .clo (.func 144) [] [.ptr b 0, .ptr b2 0]] [.box b 9 [.str c], .box b2 3 [Iw c2]] (fun r ob0 cap0=>Z31 ob0 r cap0) (fun r ob0 cap0=>[Q31 ob0 cap0 r, .box b 9 [.str c], .box b2 3 [Iw c2]]) := by
 refine Cz [.tmp 4] D6 R R R fun r hm=>?_
 unfold taints_some_taints_Drop_1 at hm
 refine Ag tbk [] R R<|Ag tbk [] R R<|Af<|Ae<|Aa R R (Ai R)<|Aa R R (A7 T_api_Taint.vv R Ch)<|Aa R R (Ai R)<|Ac<|B4 8 R fun h5=>Cc hm (fun out32 (gg:Option Nat × Nat)=>[(5,Z31 gg.1 out32 gg.2)]) (fun out32 (gg:Option Nat × Nat)=>[Q31 gg.1 gg.2 out32,.box b 9 [.str c],.box b2 3 [Iw c2]]) (fun o hm=>?_) fun out32=>Pq fun ob3 cap3 hm=> ?_
 ·refine Cf (l) (fun zl zk (zs:List T_api_Taint)=>taints_some_taints_Drop_1.l1 c c2 zl zk zs) (fun k zs (zg:Option Nat × Nat)=>[(1,.clo (.func 144) [] [.ptr b 0,.ptr b2 0]),(5,Z31 zg.1 zs zg.2),(8,L31 l),(9,Iw (l.length : Int)),(10,Iw (k : Int))]) (fun _ zs (zg:Option Nat × Nat)=>[Q31 zg.1 zg.2 zs,.box b 9 [.str c],.box b2 3 [Iw c2]]) _ (none,0) hm (B1 (Bf 31) (Ah [0,1,2] R R)) (fun k out2=>Pq fun ob2 cap2 hk hm=>?_) fun k x l2 out2=>Pq fun ob2 cap2 h6 hm=> ?_
  ·rw [taints_some_taints_Drop_1.l1] at hm
   exact Ag tbk [] R R<|Af<|Bm R (k_end hk)<|A6<|As (ob2,cap2) hm (Ah [0,1,2] R R)
  rw [taints_some_taints_Drop_1.l1] at hm
  exact Ag tbk [] R R<|Af<|Bl R (k_lt h6)<|Al<|Af<|Aw<|Ae<|Aa R R (B8 T_api_Taint.vv R R el66 h6)<|Aa R R (Bt R ld31 R)<|Ab R R<|Au z31 fun b3=>Ab R R<|Ak (i:=0) R R R ld31 R R R<|Ac<|Ae<|Ad tbk [0] 2 R R<|Av (Ax [2,3,0,1] R)<|Ab R R<|Ay hm 2 R fn144 R (K155 _ _ _ _ _) fun r hm=>Ac<|Ao hm R (fun h9 hm=>Bv<|Ad tbk [2] 2 R R<|Ab R R<|A4 ap66 R R R R R fun b4=>Bd hm fun out4 h11 hm=>Ab R R<|Bo 4 T_api_Taint.vv (l:=out2) (l2:=[x]) ap66 R R (sT_row 0 T_api_Taint.vv el66 R R) h11 fun ob4 cap4=>Aa R R (Aj R)<|Ac<|Ba tbk [] R R<|Ap _ (ob4,cap4) hm (Be [4,1,2] R ⟨R,R,R,R,congrArg some (k_next h6 h5),trivial⟩)) fun h9 hm=>Al<|Ba tbk [] R R<|Ap _ (ob2,cap2) hm (Be [3,0,1] R ⟨R,R,R,R,congrArg some (k_next h6 h5),trivial⟩)
 exact Ag tbk [] R R<|Rg2 hm R [0,1,2] ob3 cap3 (.cons (.tmp _ _ R) .nil) R R

/-! trireme/taints.Drop -/
def taints_Drop (l : List T_api_Taint) (key : ByteArray) (effect : Int) : Option (List T_api_Taint) :=
 (taints_some_taints_Drop_1 l key effect).bind fun r =>
 some r
theorem K157 (l : List T_api_Taint) (key : ByteArray) (effect : Int) : VS Tryz.prog 77 (taints_Drop l key effect) [L31 l, .str key, Iw effect] [] (fun r=>L31 r) N0 := by
 refine A8 [.tmp 6] Tryz.func77 R R R fun r hm=>?_
 unfold taints_Drop at hm
 exact Ae<|Ab R R<|Bg R R fun b=>Ab R R<|Bg R R fun b2=>Aa R R (Aj R)<|Ac<|Ae<|Aa R R (Ai R)<|Aa R R (Ct R R)<|Av (Ax [1,0] R)<|Ab R R<|Cj hm 2 R fn139 R (K156 _ _ _ _ _) fun r ob cap hm=>Av (Az 0 [(9,L31 r)] R ⟨⟨_,R,.here _ R⟩,trivial⟩ (FzH.refl _))<|Aa R R (Aj R)<|Ac<|Rt1 hm R [] R R R

/-! (*trireme/world.World).Untaint$1 -/
def world_World_Untaint_1 (m : T_api_Machine) (a : ByteArray) : Option (Int × T_api_Machine) :=
 (taints_Drop m.Taints a (0 : Int)).bind fun r =>
 some (0, (⟨m.Name, m.Group, m.Has, m.Labels, r, m.Ready⟩ : T_api_Machine))
theorem K158 (m : T_api_Machine) (a : ByteArray) (b : Nat) (b2 : Nat) : VS Tryz.prog 76 (world_World_Untaint_1 m a) [.ptr b 0, .ptr b2 0] [X68 b m, .box b2 9 [.str a]] (fun r=>Iw r.1) (fun r=>[X68 b r.2, .box b2 9 [.str a]]) := by
 refine A8 [.tmp 3] Tryz.func76 R R R fun r hm=>?_
 unfold world_World_Untaint_1 at hm
 exact Ag tbk [] R R<|Af<|Bi 1 mixed<|A9 tbk [0,1,2,3,5] [0] (by kernel_rfl) R R R<|Am 4 (by kernel_rfl)<|An R R R<|B7 (B0 (i:=0) R R ld66 R)<|Am 6 (by kernel_rfl)<|An R R R<|Ay hm 0 R fn77 R (K157 _ _ _) fun r hm=>A9 tbk [7,8] [] (by kernel_rfl) R R R<|Am 9 (by kernel_rfl)<|An R R R<|Ak (i:=0) R R R ld66 R R R<|A5 (by kernel_rfl)<|Ag tbk [] R R<|Rt1 hm R [0,1] R R R

/-! (*trireme/world.World).on -/
def world_World_on_world_World_Untaint_1 (w : T_world_World) (c : T_cloud_Cloud) (name : ByteArray) (c2 : ByteArray) : Option (Int × T_world_World) :=
 (world_World_there w c).bind fun r =>
 (yard_Find w.ms name).bind fun r2 =>
 if (decide (r2 < 0)) = true then
  some (16, w)
 else
  (V.gl w.ms r2).bind fun x =>
  (world_World_Untaint_1 x c2).bind fun r3 =>
  if (r3.1 == 0) = true then
   (V.gl w.ms r2).bind fun x2 =>
   some (r3.1, (⟨(), w.groups, w.budgets, (List.set w.ms (r2).toNat r3.2), w.bs, w.held⟩ : T_world_World))
  else
   some (r3.1, w)
theorem K159 (A0 A1 : Nat) (w : T_world_World) (c : T_cloud_Cloud) (name : ByteArray) (c2 : ByteArray) (b : Nat) (ob : Option Nat) (cap : Nat) (ob2 : Option Nat) (cap2 : Nat) (ob3 : Option Nat) (cap3 : Nat) (ob4 : Option Nat) (cap4 : Nat) (b2 : Nat) (b3 : Nat) (ob5 : Option Nat) (cap5 : Nat) (ob6 : Option Nat) (cap6 : Nat) (b4 : Nat) : ∀ r : Int × T_world_World, world_World_on_world_World_Untaint_1 w c name c2 = some r → VC Tryz.prog 69 [.ptr b 0, .str name, .clo (.func 76) [] [.ptr b4 0]] [.box b 43 [.ptr b3 0, Z139 ob w.groups cap, Z103 ob2 w.budgets cap2, Z68 ob3 w.ms cap3, Z64 ob4 w.bs cap4, .map b2], Q139 ob cap w.groups, Q103 ob2 cap2 w.budgets, Q68 ob3 cap3 w.ms, Q64 ob4 cap4 w.bs, .map b2 (List.map (pf VV.str (VV.int .i64)) w.held), .box b3 149 [Z140 A0 A1 ob5 c.pools cap5, Z152 A0 A1 ob6 c.insts cap6, Iw c.delay, Iw c.now, Iw c.calls], Q140 A0 A1 ob5 cap5 c.pools, Q152 A0 A1 ob6 cap6 c.insts, .box b4 9 [.str c2]] fun zx zH => ∃ (ob0_1 : Option Nat) (cap0_1 : Nat) (ob0_2 : Option Nat) (cap0_2 : Nat) (ob0_3 : Option Nat) (cap0_3 : Nat) (ob0_4 : Option Nat) (cap0_4 : Nat) (b0_5 : Nat), zx = Iw r.1 ∧ zH = [.box b 43 [.ptr b3 0, Z139 ob0_1 r.2.groups cap0_1, Z103 ob0_2 r.2.budgets cap0_2, Z68 ob0_3 r.2.ms cap0_3, Z64 ob0_4 r.2.bs cap0_4, .map b0_5], Q139 ob0_1 cap0_1 r.2.groups, Q103 ob0_2 cap0_2 r.2.budgets, Q68 ob0_3 cap0_3 r.2.ms, Q64 ob0_4 cap0_4 r.2.bs, .map b0_5 (List.map (pf VV.str (VV.int .i64)) r.2.held), .box b3 149 [Z140 A0 A1 ob5 c.pools cap5, Z152 A0 A1 ob6 c.insts cap6, Iw c.delay, Iw c.now, Iw c.calls], Q140 A0 A1 ob5 cap5 c.pools, Q152 A0 A1 ob6 cap6 c.insts, .box b4 9 [.str c2]] := by
 refine Cl [.tmp 6] D8 R R R fun r hm=>?_
 unfold world_World_on_world_World_Untaint_1 at hm
 refine Ag tbk [] R R<|Af<|Ae<|Aa R R (Ai R)<|Bd hm fun r h1 hm=>Ab R R<|Aq 9 R fn60 R (K54 A0 A1 w c b ob cap ob2 cap2 ob3 cap3 ob4 cap4 b2 b3 ob5 cap5 ob6 cap6 r h1) fun _ _ h10=> ?_
 obtain ⟨rfl,rfl⟩:=h10
 refine Aa R R (Cp R)<|Ac<|Bm R (congrArg not (Option.some.inj (show some true = some r from h1)).symm)<|Al<|Ae<|Ad tbk [0] 5 R R<|Ab R R<|Dn hm (Az (H':=[.box b 43 [.ptr b3 0,Z139 ob w.groups cap,Z103 ob2 w.budgets cap2,L68 w.ms,Z64 ob4 w.bs cap4,.map b2],Q139 ob cap w.groups,Q103 ob2 cap2 w.budgets,Q64 ob4 cap4 w.bs,.map b2 (List.map (pf VV.str (VV.int .i64)) w.held),.box b3 149 [Z140 A0 A1 ob5 c.pools cap5,Z152 A0 A1 ob6 c.insts cap6,Iw c.delay,Iw c.now,Iw c.calls],Q140 A0 A1 ob5 cap5 c.pools,Q152 A0 A1 ob6 cap6 c.insts,.box b4 9 [.str c2]]) 3 [(16,L68 w.ms)] R ⟨⟨_,R,.here _ R⟩,trivial⟩ (by exact ⟨.box _ _ _ _ ⟨.same _,.same _,.same _,.here _ R,.same _,.same _,trivial⟩,.same _,.same _,.same _,.same _,.same _,.same _,.same _,.same _,trivial⟩)) [.same,.same] R fn72 R (K49 _ _) (fun _=>R) (fun _=>R) fun r2 hm=>Aa R R (Aj R)<|Ac<|Af<|Ag tbk [] R R<|Ao hm R (fun h3 hm=>?_) fun h3 hm=> ?_
 ·refine Ag tbk [] R R<|?_
  obtain rfl:=Option.some.inj hm
  exact Bq ⟨.inl R,_,.cons (.tmp _ _ R) .nil,[0,1,2,3,4,5,6,7,8,9],_,R,ob,cap,ob2,cap2,ob3,cap3,ob4,cap4,b2,R,R⟩
 refine Al<|Ae<|Ad tbk [0] 5 R R<|Bd hm fun x h4 hm=>Cg 3 R (gl_pos T_api_Machine.vv h4) fun b5 h5=> ?_
 subst h5
 refine Aa R R (Cm T_api_Machine.vv R R el39 h4)<|Aa R R (Ce (i:=3) (y:=T_api_Machine.vv x) R R R (gl_map _ (gl_some h4).2) ld68 R)<|Ab R R<|Au z68 fun b6=>Ab R R<|Ak (i:=0) R R R ld68 R R R<|Ac<|Ae<|Aa R R (Ai R)<|Av (Ax [0,10,1,2,3,4,5,6,7,8,9] R)<|Ab R R<|Ay hm 2 R fn76 R (K158 _ _ _ _) fun r3 hm=>Aa R R (Aj R)<|Ac<|Af<|Ag tbk [] R R<|Ao hm R (fun h8 hm=>?_) fun h8 hm=> ?_
 ·refine Bu (Ax [2,5,0,1,3,4,6,7,8,9,10] R)<|Bi 2 mixed<|A9 tbk [0,1,2,4,5] [0] (by kernel_rfl) R R R<|Am 3 (by kernel_rfl)<|An R R R<|B7 (B0 (i:=0) R R ld39 R)<|Bd hm fun x2 h9 hm=>Bb 6 R R R (by kernel_rfl) (Cm T_api_Machine.vv R R el39 h9)<|Am 7 (by kernel_rfl)<|An R R R<|Ds 1 (f:=T_api_Machine.vv) (l:=w.ms) (q:=x2) (q':=r3.2) R R R R h9 ld68 R R R R ⟨R,List.all_eq_true.1 R⟩<|Cs (Shift.cst (F:=fun zv=>[.box b 43 [.ptr b3 0,Z139 ob w.groups cap,Z103 ob2 w.budgets cap2,zv,Z64 ob4 w.bs cap4,.map b2],Q68 (some b5) cap3 (List.set w.ms (r2).toNat r3.2)]) (congrArg (fun zn=>VV.sl (some b5) zn cap3) (len_set T_api_Machine.vv w.ms (r2).toNat r3.2)))<|Cs (Cr 16 (List.map T_api_Machine.vv (List.set w.ms (r2).toNat r3.2)).length R (len_set _ _ _ _))<|Cs (Cr 24 (List.map T_api_Machine.vv (List.set w.ms (r2).toNat r3.2)).length R (len_set _ _ _ _))<|Cs (Cr 35 (List.map T_api_Machine.vv (List.set w.ms (r2).toNat r3.2)).length R (len_set _ _ _ _))<|A5 (by kernel_rfl)<|Ag tbk [] R R<|?_
  obtain rfl:=Option.some.inj hm
  exact Bq ⟨.inl R,_,.cons (.tmp _ _ R) .nil,[0,4,5,1,6,7,8,9,10,3],_,R,ob,cap,ob2,cap2,(some b5),cap3,ob4,cap4,b2,R,R⟩
 refine Al<|Ag tbk [] R R<|?_
 obtain rfl:=Option.some.inj hm
 exact Bq ⟨.inl R,_,.cons (.tmp _ _ R) .nil,[2,3,4,5,6,7,8,9,10,1],_,R,ob,cap,ob2,cap2,(some b5),cap3,ob4,cap4,b2,R,R⟩

/-! (*trireme/world.World).Untaint -/
def world_World_Untaint (w : T_world_World) (c : T_cloud_Cloud) (name : ByteArray) (key : ByteArray) : Option (Int × T_world_World) :=
 (world_World_on_world_World_Untaint_1 w c name key).bind fun r =>
 some (r.1, r.2)
theorem K160 (A0 A1 : Nat) (w : T_world_World) (c : T_cloud_Cloud) (name : ByteArray) (key : ByteArray) (b : Nat) (ob : Option Nat) (cap : Nat) (ob2 : Option Nat) (cap2 : Nat) (ob3 : Option Nat) (cap3 : Nat) (ob4 : Option Nat) (cap4 : Nat) (b2 : Nat) (b3 : Nat) (ob5 : Option Nat) (cap5 : Nat) (ob6 : Option Nat) (cap6 : Nat) : ∀ r : Int × T_world_World, world_World_Untaint w c name key = some r → VC Tryz.prog 17 [.ptr b 0, .str name, .str key] [.box b 43 [.ptr b3 0, Z139 ob w.groups cap, Z103 ob2 w.budgets cap2, Z68 ob3 w.ms cap3, Z64 ob4 w.bs cap4, .map b2], Q139 ob cap w.groups, Q103 ob2 cap2 w.budgets, Q68 ob3 cap3 w.ms, Q64 ob4 cap4 w.bs, .map b2 (List.map (pf VV.str (VV.int .i64)) w.held), .box b3 149 [Z140 A0 A1 ob5 c.pools cap5, Z152 A0 A1 ob6 c.insts cap6, Iw c.delay, Iw c.now, Iw c.calls], Q140 A0 A1 ob5 cap5 c.pools, Q152 A0 A1 ob6 cap6 c.insts] fun zx zH => ∃ (ob0_1 : Option Nat) (cap0_1 : Nat) (ob0_2 : Option Nat) (cap0_2 : Nat) (ob0_3 : Option Nat) (cap0_3 : Nat) (ob0_4 : Option Nat) (cap0_4 : Nat) (b0_5 : Nat), zx = Iw r.1 ∧ zH = [.box b 43 [.ptr b3 0, Z139 ob0_1 r.2.groups cap0_1, Z103 ob0_2 r.2.budgets cap0_2, Z68 ob0_3 r.2.ms cap0_3, Z64 ob0_4 r.2.bs cap0_4, .map b0_5], Q139 ob0_1 cap0_1 r.2.groups, Q103 ob0_2 cap0_2 r.2.budgets, Q68 ob0_3 cap0_3 r.2.ms, Q64 ob0_4 cap0_4 r.2.bs, .map b0_5 (List.map (pf VV.str (VV.int .i64)) r.2.held), .box b3 149 [Z140 A0 A1 ob5 c.pools cap5, Z152 A0 A1 ob6 c.insts cap6, Iw c.delay, Iw c.now, Iw c.calls], Q140 A0 A1 ob5 cap5 c.pools, Q152 A0 A1 ob6 cap6 c.insts] := by
 refine Cl [.tmp 6] Tryz.func17 R R R fun r hm=>?_
 unfold world_World_Untaint at hm
 refine Ae<|Ab R R<|Bg R R fun b4=>Aa R R (Aj R)<|Ac<|Ae<|Ad tbk [] 2 R R<|Aa R R (Ct R R)<|Bd hm fun r h2 hm=>Av (Ax [1,2,3,4,5,6,7,8,9,0] R)<|Ab R R<|Aq 10 R fn69 R (K159 A0 A1 w c name key b ob cap ob2 cap2 ob3 cap3 ob4 cap4 b2 b3 ob5 cap5 ob6 cap6 b4 r h2) fun _ _ h3=> ?_
 obtain ⟨ob7,cap7,ob8,cap8,ob9,cap9,ob10,cap10,b5,rfl,rfl⟩:=h3
 refine Aa R R (Aj R)<|Ac<|?_
 obtain rfl:=Option.some.inj hm
 exact Bq ⟨.inl R,_,.cons (.tmp _ _ R) .nil,[0,1,2,3,4,5,6,7,8],_,R,ob7,cap7,ob8,cap8,ob9,cap9,ob10,cap10,b5,R,R⟩

/-! (*trireme/drain.Table).leave -/
def drain_Table_leave_drain_Table_Step_1 (t : T_drain_Table) (w : T_world_World) (c : T_cloud_Cloud) (what : ByteArray) (x : T_drain_one) (c2 : List ByteArray) : Option (Bool × T_world_World × List ByteArray) :=
 (world_World_Untaint w c x.name (⟨#[100, 114, 97, 105, 110, 105, 110, 103]⟩ : ByteArray)).bind fun r =>
 (drain_Table_Step_1 what x.name c2).bind fun r2 =>
 some (false, r.2, r2)
theorem K161 (A0 A1 : Nat) (t : T_drain_Table) (w : T_world_World) (c : T_cloud_Cloud) (what : ByteArray) (x : T_drain_one) (c2 : List ByteArray) (b : Nat) (ob : Option Nat) (cap : Nat) (b2 : Nat) (ob2 : Option Nat) (cap2 : Nat) (ob3 : Option Nat) (cap3 : Nat) (ob4 : Option Nat) (cap4 : Nat) (ob5 : Option Nat) (cap5 : Nat) (b3 : Nat) (b4 : Nat) (ob6 : Option Nat) (cap6 : Nat) (ob7 : Option Nat) (cap7 : Nat) (b5 : Nat) (b6 : Nat) (ob8 : Option Nat) (cap8 : Nat) : ∀ r : Bool × T_world_World × List ByteArray, drain_Table_leave_drain_Table_Step_1 t w c what x c2 = some r → VC Tryz.prog 176 [.ptr b 0, .ptr b2 0, .str what, .ptr b5 0, .clo (.func 117) [] [.ptr b6 0]] [.box b 108 [Z172 ob t.l cap, Iw t.grace, .bool t.made], Q172 ob cap t.l, .box b2 43 [.ptr b4 0, Z139 ob2 w.groups cap2, Z103 ob3 w.budgets cap3, Z68 ob4 w.ms cap4, Z64 ob5 w.bs cap5, .map b3], Q139 ob2 cap2 w.groups, Q103 ob3 cap3 w.budgets, Q68 ob4 cap4 w.ms, Q64 ob5 cap5 w.bs, .map b3 (List.map (pf VV.str (VV.int .i64)) w.held), .box b4 149 [Z140 A0 A1 ob6 c.pools cap6, Z152 A0 A1 ob7 c.insts cap7, Iw c.delay, Iw c.now, Iw c.calls], Q140 A0 A1 ob6 cap6 c.pools, Q152 A0 A1 ob7 cap7 c.insts, X172 b5 x, .box b6 61 [Z9 ob8 c2 cap8], Q9 ob8 cap8 c2] fun zx zH => ∃ (ob1_1 : Option Nat) (cap1_1 : Nat) (ob1_2 : Option Nat) (cap1_2 : Nat) (ob1_3 : Option Nat) (cap1_3 : Nat) (ob1_4 : Option Nat) (cap1_4 : Nat) (b1_5 : Nat) (ob4_0 : Option Nat) (cap4_0 : Nat), zx = .bool r.1 ∧ zH = [.box b 108 [Z172 ob t.l cap, Iw t.grace, .bool t.made], Q172 ob cap t.l, .box b2 43 [.ptr b4 0, Z139 ob1_1 r.2.1.groups cap1_1, Z103 ob1_2 r.2.1.budgets cap1_2, Z68 ob1_3 r.2.1.ms cap1_3, Z64 ob1_4 r.2.1.bs cap1_4, .map b1_5], Q139 ob1_1 cap1_1 r.2.1.groups, Q103 ob1_2 cap1_2 r.2.1.budgets, Q68 ob1_3 cap1_3 r.2.1.ms, Q64 ob1_4 cap1_4 r.2.1.bs, .map b1_5 (List.map (pf VV.str (VV.int .i64)) r.2.1.held), .box b4 149 [Z140 A0 A1 ob6 c.pools cap6, Z152 A0 A1 ob7 c.insts cap7, Iw c.delay, Iw c.now, Iw c.calls], Q140 A0 A1 ob6 cap6 c.pools, Q152 A0 A1 ob7 cap7 c.insts, X172 b5 x, .box b6 61 [Z9 ob4_0 r.2.2 cap4_0], Q9 ob4_0 cap4_0 r.2.2] := by
 refine Cl [.tmp 10] Tryz.func176 R R R fun r hm=>?_
 unfold drain_Table_leave_drain_Table_Step_1 at hm
 refine Ag tbk [] R R<|Ae<|Ad tbk [11] 5 R R<|Bd hm fun r h1 hm=>Av (Ax [2,3,4,5,6,7,8,9,10,0,1,11,12,13] R)<|Ab R R<|Aq 9 R fn17 R (K160 A0 A1 w c x.name (⟨#[100,114,97,105,110,105,110,103]⟩ : ByteArray) b2 ob2 cap2 ob3 cap3 ob4 cap4 ob5 cap5 b3 b4 ob6 cap6 ob7 cap7 r h1) fun _ _ h3=> ?_
 obtain ⟨ob9,cap9,ob10,cap10,ob11,cap11,ob12,cap12,b7,rfl,rfl⟩:=h3
 refine Ac<|Ae<|Ad tbk [11] 6 R R<|Av (Ax [12,13,0,1,2,3,4,5,6,7,8,9,10,11] R)<|Ab R R<|Cj hm 2 R fn117 R (K147 _ _ _ _ _ _) fun r2 ob13 cap13 hm=>Ac<|Ag tbk [] R R<|?_
 obtain rfl:=Option.some.inj hm
 exact Bq ⟨.inl R,_,.cons (.tmp _ _ R) .nil,[11,12,2,3,4,5,6,7,8,9,10,13,0,1],_,R,ob9,cap9,ob10,cap10,ob11,cap11,ob12,cap12,b7,ob13,cap13,R,R⟩

/-! (*trireme/cloud.Cloud).inst -/
def cloud_Cloud_inst.l1 (c : T_cloud_Cloud) (name : ByteArray) (insts : List T_cloud_inst) : Nat → Int → Option (Out Nat Unit)
 | 0, _ => none
 | n + 1, v2 =>
  if (decide (v2 < (c.insts.length : Int))) = true then
   (V.gl c.insts v2).bind fun x =>
   (V.pg insts x).bind fun x2 =>
   if (V.seq x2.name name) = true then
    some (Out.ret x)
   else
    cloud_Cloud_inst.l1 c name insts n (i64.wrap (v2 + 1))
  else
   some (Out.go ())
def cloud_Cloud_inst (c : T_cloud_Cloud) (name : ByteArray) (insts : List T_cloud_inst) : Option Nat :=
 (cloud_Cloud_inst.l1 c name insts FU (0 : Int)).bind fun o =>
 o.on fun j =>
 some 0
theorem K162 (A0 A1 : Nat) (c : T_cloud_Cloud) (name : ByteArray) (insts : List T_cloud_inst) (b : Nat) (ob : Option Nat) (cap : Nat) (ob2 : Option Nat) (cap2 : Nat) (bs : List Nat) : VS Tryz.prog 84 (cloud_Cloud_inst c name insts) [.ptr b 0, .str name] [.box b 149 [Z140 A0 A1 ob c.pools cap, Z152 A0 A1 ob2 c.insts cap2, Iw c.delay, Iw c.now, Iw c.calls], Q140 A0 A1 ob cap c.pools, Q152 A0 A1 ob2 cap2 c.insts, .ar A1 157 bs (List.map (T_cloud_inst.cells A0 A1) insts)] (fun r=>V.Pp A1 r) (fun r=>[.box b 149 [Z140 A0 A1 ob c.pools cap, Z152 A0 A1 ob2 c.insts cap2, Iw c.delay, Iw c.now, Iw c.calls], Q140 A0 A1 ob cap c.pools, Q152 A0 A1 ob2 cap2 c.insts, .ar A1 157 bs (List.map (T_cloud_inst.cells A0 A1) insts)]) := by
 refine A8 [.tmp 4] Tryz.func84 R R R fun r hm=>?_
 unfold cloud_Cloud_inst at hm
 refine Ae<|Aa R R (Dd A1)<|Ac<|Af<|Ae<|Ad tbk [0] 4 R R<|Aa R R (Cx (V.Pp A1) R Dp)<|Aa R R (Ai R)<|Ac<|B5 hm (fun _ (_:Unit)=>[]) (fun _ (_:Unit)=>[.box b 149 [Z140 A0 A1 ob c.pools cap,Z152 A0 A1 ob2 c.insts cap2,Iw c.delay,Iw c.now,Iw c.calls],Q140 A0 A1 ob cap c.pools,Q152 A0 A1 ob2 cap2 c.insts,.ar A1 157 bs (List.map (T_cloud_inst.cells A0 A1) insts)]) (fun o hm h2=>?_) fun j _ hm=> ?_
 ·refine Ca (fun zn (zs:Int)=>cloud_Cloud_inst.l1 c name insts zn zs) (fun zs (_:Unit)=>[(1,.str name),(10,Z152 A0 A1 ob2 c.insts cap2),(11,Iw (c.insts.length : Int)),(12,Iw zs)]) (fun _ (_:Unit)=>[.box b 149 [Z140 A0 A1 ob c.pools cap,Z152 A0 A1 ob2 c.insts cap2,Iw c.delay,Iw c.now,Iw c.calls],Q140 A0 A1 ob cap c.pools,Q152 A0 A1 ob2 cap2 c.insts,.ar A1 157 bs (List.map (T_cloud_inst.cells A0 A1) insts)]) _ () (fun _=>R) hm (Ah [0,1,2,3] R R) fun n v2 _ hm=> ?_
  rw [cloud_Cloud_inst.l1] at hm
  refine Ag tbk [] R R<|Af<|Ao hm R (fun h3 hm=>?_) fun h3 hm=> ?_
  ·refine Al<|Af<|Aw<|Ae<|Bd hm fun x h4 hm=>Cg 2 R (gl_pos (V.Pp A1) h4) fun b2 h5=> ?_
   subst h5
   exact Aa R R (Cm (V.Pp A1) R R el147 h4)<|Aa R R (Ce (i:=2) (y:=(V.Pp A1) x) R R R (gl_map _ (gl_some h4).2) ld152 R)<|Aa R R (Aj R)<|Ac<|Ae<|Aa R R (Ai R)<|Bd hm fun x2 h6 hm=>Aa R R (Bp R h6)<|Aa R R (B2 R h6 fa157_0)<|Aa R R (Cb 3 (f:=(T_cloud_inst.cells A0 A1)) (y:=x2) R R h6 ld9 R)<|Ad tbk [] 2 R R<|Ac<|Ao hm R (fun h7 hm=>Ag tbk [] R R<|have hm:=Lr hm h2;Rt1 hm R [0,1,2,3] R R R) fun h7 hm=>Al<|Ba tbk [] R R<|Ap _ () hm (Ah [0,1,2,3] R R)
  exact A6<|Ar () hm (Ah [0,1,2,3] R R)
 exact Ae<|Aa R R (Dd A1)<|Ac<|Rt1 hm R [0,1,2,3] R R R

/-! (*trireme/cloud.Cloud).Delete -/
def cloud_Cloud_Delete (c : T_cloud_Cloud) (name : ByteArray) (pools : List T_cloud_pool) (insts : List T_cloud_inst) : Option (Int × T_cloud_Cloud × List T_cloud_pool × List T_cloud_inst) :=
 (cloud_Cloud_there c).bind fun r =>
 if (!r) = true then
  some (23, c, pools, insts)
 else
  (cloud_Cloud_inst c name insts).bind fun r2 =>
  if (r2 == 0) = true then
   some (16, c, pools, insts)
  else
   (V.pg insts r2).bind fun x =>
   ((V.pg insts r2).bind fun x2 =>
   if (I_cloud_state.is159 x2.in_) = true then
    some (Out.ret (22, c, pools, insts))
   else
    if (I_cloud_state.is160 x2.in_) = true then
     (V.pg pools x.of).bind fun x3 =>
     (V.pg pools x.of).bind fun x4 =>
     if (decide (x3.target ≤ x4.Group.Min)) = true then
      some (Out.ret (20, c, pools, insts))
     else
      some (Out.go ())
    else
     some (Out.go ())).bind fun o =>
   o.on fun j =>
   (V.pg insts r2).bind fun x5 =>
   (V.pg pools x.of).bind fun x6 =>
   (V.pg pools x.of).bind fun x7 =>
   (V.pg pools x.of).bind fun x8 =>
   some (0, (⟨c.pools, c.insts, c.delay, c.now, (i64.wrap (c.calls + 1))⟩ : T_cloud_Cloud), (V.pst pools x.of (⟨x8.Group, (max x6.Group.Min (i64.wrap (x7.target - 1))), x8.last, x8.broken⟩ : T_cloud_pool)), (V.pst insts r2 (⟨x5.name, x5.of, x5.since, (I_cloud_state.c159 (⟨⟩ : T_cloud_leaving))⟩ : T_cloud_inst)))
theorem K163 (A0 A1 : Nat) (c : T_cloud_Cloud) (name : ByteArray) (pools : List T_cloud_pool) (insts : List T_cloud_inst) (b : Nat) (ob : Option Nat) (cap : Nat) (ob2 : Option Nat) (cap2 : Nat) (bs : List Nat) (bs2 : List Nat) : ∀ r : Int × T_cloud_Cloud × List T_cloud_pool × List T_cloud_inst, cloud_Cloud_Delete c name pools insts = some r → VC Tryz.prog 25 [.ptr b 0, .str name] [.box b 149 [Z140 A0 A1 ob c.pools cap, Z152 A0 A1 ob2 c.insts cap2, Iw c.delay, Iw c.now, Iw c.calls], Q140 A0 A1 ob cap c.pools, Q152 A0 A1 ob2 cap2 c.insts, .ar A0 144 bs (List.map T_cloud_pool.cells pools), .ar A1 157 bs2 (List.map (T_cloud_inst.cells A0 A1) insts)] fun zx zH => ∃ (ob0_0 : Option Nat) (cap0_0 : Nat) (ob0_1 : Option Nat) (cap0_1 : Nat) (bs_1 : List Nat) (bs_2 : List Nat), zx = Iw r.1 ∧ zH = [.box b 149 [Z140 A0 A1 ob0_0 r.2.1.pools cap0_0, Z152 A0 A1 ob0_1 r.2.1.insts cap0_1, Iw r.2.1.delay, Iw r.2.1.now, Iw r.2.1.calls], Q140 A0 A1 ob0_0 cap0_0 r.2.1.pools, Q152 A0 A1 ob0_1 cap0_1 r.2.1.insts, .ar A0 144 bs_1 (List.map T_cloud_pool.cells r.2.2.1), .ar A1 157 bs_2 (List.map (T_cloud_inst.cells A0 A1) r.2.2.2)] := by
 refine Cl [.tmp 4] Tryz.func25 R R R fun r hm=>?_
 unfold cloud_Cloud_Delete at hm
 refine Ag tbk [] R R<|Af<|Ae<|Aa R R (Ai R)<|Ab R R<|Ay hm 3 R fn83 R (K37 A0 A1 _ _ _ _ _ _) fun r hm=>Aa R R (Cp R)<|Ac<|Ao hm R (fun h2 hm=>?_) fun h2 hm=> ?_
 ·refine Ag tbk [] R R<|?_
  obtain rfl:=Option.some.inj hm
  exact Bq ⟨.inl R,_,.cons (.tmp _ _ R) .nil,[0,1,2,3,4],_,R,ob,cap,ob2,cap2,bs,bs2,R,R⟩
 refine Al<|Ae<|Ad tbk [] 2 R R<|Av (Ax [0,1,2,4,3] R)<|Ab R R<|Ay hm 4 R fn84 R (K162 A0 A1 _ _ _ _ _ _ _ _ _) fun r2 hm=>Aa R R (Aj R)<|Ac<|Af<|Ae<|Aa R R (Ai R)<|Aa R R (C2 Tryz.underlying152 R R)<|Ac<|Ao hm R (fun h4 hm=>?_) fun h4 hm=> ?_
 ·refine Ag tbk [] R R<|?_
  obtain rfl:=Option.some.inj hm
  exact Bq ⟨.inl R,_,.cons (.tmp _ _ R) .nil,[0,1,2,4,3],_,R,ob,cap,ob2,cap2,bs,bs2,R,R⟩
 refine Al<|Ae<|Aa R R (Ai R)<|Bd hm fun x h5 hm=>Aa R R (Bp R h5)<|Aa R R (B2 R h5 fa157_1)<|Aa R R (Cb 3 (f:=(T_cloud_inst.cells A0 A1)) (y:=x) R R h5 ld140 R)<|Aa R R (Aj R)<|Ac<|VW.jo hm (fun _ (_:Unit)=>[(0,.ptr b 0),(5,V.Pp A1 r2),(6,V.Pp A0 x.of)]) (fun _ (_:Unit)=>[.box b 149 [Z140 A0 A1 ob c.pools cap,Z152 A0 A1 ob2 c.insts cap2,Iw c.delay,Iw c.now,Iw c.calls],Q140 A0 A1 ob cap c.pools,Q152 A0 A1 ob2 cap2 c.insts,.ar A1 157 bs2 (List.map (T_cloud_inst.cells A0 A1) insts),.ar A0 144 bs (List.map T_cloud_pool.cells pools)]) (fun o hm h7=>?_) fun j _ hm=> ?_
 ·refine Ae<|Aa R R (Ai R)<|Bd hm fun x2 h8 hm=>Aa R R (Bp R h8)<|Aa R R (B2 R h8 fa157_3)<|Aa R R (Cb 3 (f:=(T_cloud_inst.cells A0 A1)) (y:=x2) R R h8 ld155 R)<|Ac<|Aw<|Ae<|Aa R R (VP.as (VP.tassert nif159 zg159 R) (I_cloud_state.ta159 x2.in_))<|Ad tbk [] 2 R R<|Ac<|Ao hm R (fun h9 hm=>?_) fun h9 hm=> ?_
  ·refine Ag tbk [] R R<|have hm:=Lr hm h7; ?_
   obtain rfl:=Option.some.inj hm
   exact Bq ⟨.inl R,_,.cons (.tmp _ _ R) .nil,[0,1,2,4,3],_,R,ob,cap,ob2,cap2,bs,bs2,R,R⟩
  refine Ae<|Aa R R (VP.as (VP.tassert nif160 zg160 R) (I_cloud_state.ta160 x2.in_))<|Ad tbk [] 2 R R<|Ac<|Ao hm R (fun h10 hm=>?_) fun h10 hm=> ?_
  ·refine Af<|Bi 0 mixed<|Bb 0 R R R (by kernel_rfl) (Ai R)<|Bd hm fun x3 h11 hm=>Bb 1 R R R (by kernel_rfl) (Bp R h11)<|Bb 2 R R R (by kernel_rfl) (B2 R h11 fa144_1)<|Bb 3 R R R (by kernel_rfl) (Cb 4 (f:=T_cloud_pool.cells) (y:=x3) R R h11 ld3 R)<|Bb 4 R R R (by kernel_rfl) (Ai R)<|Bd hm fun x4 h12 hm=>Bb 5 R R R (by kernel_rfl) (Bp R h12)<|Bb 6 R R R (by kernel_rfl) (B2 R h12 fa144_0)<|Bb 7 R R R (by kernel_rfl) (B2 R h12 fa139_1)<|Bb 8 R R R (by kernel_rfl) (Cb 4 (f:=T_cloud_pool.cells) (y:=x4) R R h12 ld3 R)<|Bb 9 R R R (by kernel_rfl) (Br R R R)<|A5 (by kernel_rfl)<|Ao hm R (fun h13 hm=>?_) fun h13 hm=> ?_
   ·refine Ag tbk [] R R<|have hm:=Lr hm h7; ?_
    obtain rfl:=Option.some.inj hm
    exact Bq ⟨.inl R,_,.cons (.tmp _ _ R) .nil,[0,1,2,4,3],_,R,ob,cap,ob2,cap2,bs,bs2,R,R⟩
   exact Al<|Ar () hm (Ah [0,1,2,3,4] R R)
  exact Al<|Ar () hm (Ah [0,1,2,3,4] R R)
 refine Ae<|Aa R R (Ai R)<|Aa R R (Bn pl159 R R)<|Aa R R (Dw nif159 R)<|Bd hm fun x5 h14 hm=>Aa R R (Bp R h14)<|Aa R R (B2 R h14 fa157_3)<|Ab R R<|Di 3 (f:=(T_cloud_inst.cells A0 A1)) (u:=x5) (u':=(⟨x5.name,x5.of,x5.since,(I_cloud_state.c159 (⟨⟩ : T_cloud_leaving))⟩ : T_cloud_inst)) R R R h14 ld155 R R R R<|Ac<|Af<|Bu (Ax [4,0,1,2,3] R)<|Bi 1 mixed<|A9 tbk [0,1] [] (by kernel_rfl) R R R<|Bd hm fun x6 h15 hm=>Bb 2 R R R (by kernel_rfl) (Bp R h15)<|Bb 3 R R R (by kernel_rfl) (B2 R h15 fa144_0)<|Bb 4 R R R (by kernel_rfl) (B2 R h15 fa139_1)<|Bb 6 R R R (by kernel_rfl) (Ai R)<|Bd hm fun x7 h16 hm=>Bb 7 R R R (by kernel_rfl) (Bp R h16)<|Bb 8 R R R (by kernel_rfl) (B2 R h16 fa144_1)<|?_
 refine B3 [5,9] (by kernel_rfl) ⟨?_,?_,trivial⟩
 ·refine An R R R<|B7 (Cb 0 (f:=T_cloud_pool.cells) (y:=x6) R R h15 ld3 R)<|Am 9 (by kernel_rfl)<|An R R R<|B7 (Cb 0 (f:=T_cloud_pool.cells) (y:=x7) R R h16 ld3 R)<|Bb 10 R R R (by kernel_rfl) (Br R R R)<|Bb 11 R R R (by kernel_rfl) (VP.max2 R R)<|Bd hm fun x8 h17 hm=>Bb 12 R R R (by kernel_rfl) (Bp R h17)<|Bb 13 R R R (by kernel_rfl) (B2 R h17 fa144_1)<|Am 14 (by kernel_rfl)<|An R R R<|Di 0 (f:=T_cloud_pool.cells) (u:=x8) (u':=(⟨x8.Group,(max x6.Group.Min (IntKind.i64.wrap (x7.target - (1 : Int)))),x8.last,x8.broken⟩ : T_cloud_pool)) R R R h17 ld3 R R R R<|A5 (by kernel_rfl)<|Ae<|Ad tbk [1] 7 R R<|Ab R R<|Ak (i:=1) R R R ld3 R R R<|Ac<|Ag tbk [] R R<|?_
  obtain rfl:=Option.some.inj hm
  exact Bq ⟨.inl R,_,.cons (.tmp _ _ R) .nil,[1,2,3,0,4],_,R,ob,cap,ob2,cap2,bs,bs2,R,R⟩
 ·refine An R R R<|B7 (Cb 0 (f:=T_cloud_pool.cells) (y:=x7) R R h16 ld3 R)<|Bb 10 R R R (by kernel_rfl) (Br R R R)<|Am 5 (by kernel_rfl)<|An R R R<|B7 (Cb 0 (f:=T_cloud_pool.cells) (y:=x6) R R h15 ld3 R)<|Bb 11 R R R (by kernel_rfl) (VP.max2 R R)<|Bd hm fun x9 h18 hm=>Bb 12 R R R (by kernel_rfl) (Bp R h18)<|Bb 13 R R R (by kernel_rfl) (B2 R h18 fa144_1)<|Am 14 (by kernel_rfl)<|An R R R<|Di 0 (f:=T_cloud_pool.cells) (u:=x9) (u':=(⟨x9.Group,(max x6.Group.Min (IntKind.i64.wrap (x7.target - (1 : Int)))),x9.last,x9.broken⟩ : T_cloud_pool)) R R R h18 ld3 R R R R<|A5 (by kernel_rfl)<|Ae<|Ad tbk [1] 7 R R<|Ab R R<|Ak (i:=1) R R R ld3 R R R<|Ac<|Ag tbk [] R R<|?_
  obtain rfl:=Option.some.inj hm
  exact Bq ⟨.inl R,_,.cons (.tmp _ _ R) .nil,[1,2,3,0,4],_,R,ob,cap,ob2,cap2,bs,bs2,R,R⟩

/-! (*trireme/drain.Table).goes -/
def drain_Table_goes_drain_Table_Step_1.l1 (t : T_drain_Table) (c : T_cloud_Cloud) (x : T_drain_one) (pools : List T_cloud_pool) (insts : List T_cloud_inst) : List T_api_Pod → Nat → T_world_World → (List ByteArray) → Option (Out (Bool × T_world_World × T_cloud_Cloud × T_drain_one × List ByteArray × List T_cloud_pool × List T_cloud_inst) (T_world_World × List ByteArray))
 | [], k, w3, tell2 => some (Out.go (w3, tell2))
 | x2 :: l, k, w3, tell2 =>
  (world_World_Evict w3 c x2.Name).bind fun r5 =>
  if (r5.1 != 0) = true then
   if (decide ((i64.wrap (x.steps + 1)) ≤ t.grace)) = true then
    some (Out.ret (true, r5.2, c, (⟨x.name, (i64.wrap (x.steps + 1)), x.back⟩ : T_drain_one), tell2, pools, insts))
   else
    (drain_Table_leave_drain_Table_Step_1 t r5.2 c (⟨#[115, 116, 111, 112]⟩ : ByteArray) (⟨x.name, (i64.wrap (x.steps + 1)), x.back⟩ : T_drain_one) tell2).bind fun r6 =>
    some (Out.ret (r6.1, r6.2.1, c, (⟨x.name, (i64.wrap (x.steps + 1)), x.back⟩ : T_drain_one), r6.2.2, pools, insts))
  else
   (drain_Table_Step_1 (⟨#[101, 118, 105, 99, 116]⟩ : ByteArray) x2.Name tell2).bind fun r7 =>
   drain_Table_goes_drain_Table_Step_1.l1 t c x pools insts l (k + 1) r5.2 r7
def drain_Table_goes_drain_Table_Step_1 (t : T_drain_Table) (w : T_world_World) (c : T_cloud_Cloud) (x : T_drain_one) (c2 : List ByteArray) (pools : List T_cloud_pool) (insts : List T_cloud_inst) : Option (Bool × T_world_World × T_cloud_Cloud × T_drain_one × List ByteArray × List T_cloud_pool × List T_cloud_inst) :=
 (drain_has w c x.name).bind fun r =>
 if (!r) = true then
  (drain_Table_Step_1 (⟨#[103, 111, 110, 101]⟩ : ByteArray) x.name c2).bind fun r2 =>
  some (false, w, c, x, r2, pools, insts)
 else
  if x.back = true then
   some (true, w, c, x, c2, pools, insts)
  else
   (world_World_Bounds w c).bind fun r3 =>
   (block_Movable r3 x.name).bind fun r4 =>
   (drain_Table_goes_drain_Table_Step_1.l1 t c x pools insts r4 0 w c2).bind fun o =>
   o.on fun j =>
   (cloud_Cloud_Delete c x.name pools insts).bind fun r8 =>
   if (r8.1 != 0) = true then
    (drain_Table_leave_drain_Table_Step_1 t j.1 r8.2.1 (⟨#[107, 101, 101, 112]⟩ : ByteArray) x j.2).bind fun r9 =>
    some (r9.1, r9.2.1, r8.2.1, x, r9.2.2, r8.2.2.1, r8.2.2.2)
   else
    (drain_Table_Step_1 (⟨#[100, 101, 108, 101, 116, 101]⟩ : ByteArray) x.name j.2).bind fun r10 =>
    some (true, j.1, r8.2.1, (⟨x.name, x.steps, true⟩ : T_drain_one), r10, r8.2.2.1, r8.2.2.2)
theorem K164 (A0 A1 : Nat) (t : T_drain_Table) (w : T_world_World) (c : T_cloud_Cloud) (x : T_drain_one) (c2 : List ByteArray) (pools : List T_cloud_pool) (insts : List T_cloud_inst) (b : Nat) (ob : Option Nat) (cap : Nat) (b2 : Nat) (ob2 : Option Nat) (cap2 : Nat) (ob3 : Option Nat) (cap3 : Nat) (ob4 : Option Nat) (cap4 : Nat) (ob5 : Option Nat) (cap5 : Nat) (b3 : Nat) (b4 : Nat) (ob6 : Option Nat) (cap6 : Nat) (ob7 : Option Nat) (cap7 : Nat) (b5 : Nat) (b6 : Nat) (ob8 : Option Nat) (cap8 : Nat) (bs : List Nat) (bs2 : List Nat) : ∀ r : Bool × T_world_World × T_cloud_Cloud × T_drain_one × List ByteArray × List T_cloud_pool × List T_cloud_inst, drain_Table_goes_drain_Table_Step_1 t w c x c2 pools insts = some r → VC Tryz.prog 116 [.ptr b 0, .ptr b2 0, .ptr b5 0, .clo (.func 117) [] [.ptr b6 0]] [.box b 108 [Z172 ob t.l cap, Iw t.grace, .bool t.made], Q172 ob cap t.l, .box b2 43 [.ptr b4 0, Z139 ob2 w.groups cap2, Z103 ob3 w.budgets cap3, Z68 ob4 w.ms cap4, Z64 ob5 w.bs cap5, .map b3], Q139 ob2 cap2 w.groups, Q103 ob3 cap3 w.budgets, Q68 ob4 cap4 w.ms, Q64 ob5 cap5 w.bs, .map b3 (List.map (pf VV.str (VV.int .i64)) w.held), .box b4 149 [Z140 A0 A1 ob6 c.pools cap6, Z152 A0 A1 ob7 c.insts cap7, Iw c.delay, Iw c.now, Iw c.calls], Q140 A0 A1 ob6 cap6 c.pools, Q152 A0 A1 ob7 cap7 c.insts, X172 b5 x, .box b6 61 [Z9 ob8 c2 cap8], Q9 ob8 cap8 c2, .ar A0 144 bs (List.map T_cloud_pool.cells pools), .ar A1 157 bs2 (List.map (T_cloud_inst.cells A0 A1) insts)] fun zx zH => ∃ (ob1_1 : Option Nat) (cap1_1 : Nat) (ob1_2 : Option Nat) (cap1_2 : Nat) (ob1_3 : Option Nat) (cap1_3 : Nat) (ob1_4 : Option Nat) (cap1_4 : Nat) (b1_5 : Nat) (ob2_0 : Option Nat) (cap2_0 : Nat) (ob2_1 : Option Nat) (cap2_1 : Nat) (ob4_0 : Option Nat) (cap4_0 : Nat) (bs_5 : List Nat) (bs_6 : List Nat), zx = .bool r.1 ∧ zH = [.box b 108 [Z172 ob t.l cap, Iw t.grace, .bool t.made], Q172 ob cap t.l, .box b2 43 [.ptr b4 0, Z139 ob1_1 r.2.1.groups cap1_1, Z103 ob1_2 r.2.1.budgets cap1_2, Z68 ob1_3 r.2.1.ms cap1_3, Z64 ob1_4 r.2.1.bs cap1_4, .map b1_5], Q139 ob1_1 cap1_1 r.2.1.groups, Q103 ob1_2 cap1_2 r.2.1.budgets, Q68 ob1_3 cap1_3 r.2.1.ms, Q64 ob1_4 cap1_4 r.2.1.bs, .map b1_5 (List.map (pf VV.str (VV.int .i64)) r.2.1.held), .box b4 149 [Z140 A0 A1 ob2_0 r.2.2.1.pools cap2_0, Z152 A0 A1 ob2_1 r.2.2.1.insts cap2_1, Iw r.2.2.1.delay, Iw r.2.2.1.now, Iw r.2.2.1.calls], Q140 A0 A1 ob2_0 cap2_0 r.2.2.1.pools, Q152 A0 A1 ob2_1 cap2_1 r.2.2.1.insts, X172 b5 r.2.2.2.1, .box b6 61 [Z9 ob4_0 r.2.2.2.2.1 cap4_0], Q9 ob4_0 cap4_0 r.2.2.2.2.1, .ar A0 144 bs_5 (List.map T_cloud_pool.cells r.2.2.2.2.2.1), .ar A1 157 bs_6 (List.map (T_cloud_inst.cells A0 A1) r.2.2.2.2.2.2)] := by
 refine Cl [.tmp 8] Tryz.func116 R R R fun r hm=>?_
 unfold drain_Table_goes_drain_Table_Step_1 at hm
 refine Ag tbk [] R R<|Af<|Aw<|Ae<|Ad tbk [11] 5 R R<|Av (Ax [2,3,4,5,6,7,8,9,10,0,1,11,12,13,14,15] R)<|Ab R R<|Ay hm 9 R fn113 R (K139 A0 A1 _ _ _ _ _ _ _ _ _ _ _ _ _ _ _ _ _ _) fun r hm=>Ad tbk [] 2 R R<|Ac<|Ao hm R (fun h2 hm=>?_) fun h2 hm=> ?_
 ·refine Ae<|Ad tbk [11] 5 R R<|Av (Ax [12,13,0,1,2,3,4,5,6,7,8,9,10,11,14,15] R)<|Ab R R<|Cj hm 2 R fn117 R (K147 _ _ _ _ _ _) fun r2 ob9 cap9 hm=>Ac<|Ag tbk [] R R<|?_
  obtain rfl:=Option.some.inj hm
  exact Bq ⟨.inl R,_,.cons (.tmp _ _ R) .nil,[11,12,2,3,4,5,6,7,8,9,10,13,0,1,14,15],_,R,ob2,cap2,ob3,cap3,ob4,cap4,ob5,cap5,b3,ob6,cap6,ob7,cap7,ob9,cap9,bs,bs2,R,R⟩
 refine Ag tbk [11] R R<|Ao hm R (fun h4 hm=>?_) fun h4 hm=> ?_
 ·refine Ag tbk [] R R<|?_
  obtain rfl:=Option.some.inj hm
  exact Bq ⟨.inl R,_,.cons (.tmp _ _ R) .nil,[9,10,0,1,2,3,4,5,6,7,8,11,12,13,14,15],_,R,ob2,cap2,ob3,cap3,ob4,cap4,ob5,cap5,b3,ob6,cap6,ob7,cap7,ob8,cap8,bs,bs2,R,R⟩
 refine Al<|Af<|Af<|Bi 9 mixed<|A9 tbk [0,2,3,4,5,8] [2] (by kernel_rfl) R R R<|Am 1 (by kernel_rfl)<|Bd hm fun r3 h5 hm=>An R R R<|Aq 9 R fn20 R (K148 A0 A1 w c b2 ob2 cap2 ob3 cap3 ob4 cap4 ob5 cap5 b3 b4 ob6 cap6 ob7 cap7 r3 h5) fun _ _ h28=> ?_
 obtain ⟨ob10,cap10,rfl,rfl⟩:=h28
 refine Cs (Az 0 [(31,L64 r3)] R ⟨⟨_,R,.here _ R⟩,trivial⟩ (FzH.refl _))<|Am 6 (by kernel_rfl)<|Bd hm fun r4 h7 hm=>An R R R<|Aq 0 R fn175 R (K149 r3 x.name r4 h7) fun _ _ h27=> ?_
 obtain ⟨ob11,cap11,rfl,rfl⟩:=h27
 refine Cs (Az 0 [(36,L29 r4)] R ⟨⟨_,R,.here _ R⟩,trivial⟩ (FzH.refl _))<|Bb 7 R R R (by kernel_rfl) (A7 T_api_Pod.vv R C4)<|A5 (by kernel_rfl)<|B4 36 R fun h11=>B5 hm (fun _ (gg:Option Nat × Nat × Option Nat × Nat × Option Nat × Nat × Option Nat × Nat × Nat × Option Nat × Nat)=>[(0,.ptr b 0),(1,.ptr b2 0),(2,.ptr b5 0),(3,.clo (.func 117) [] [.ptr b6 0])]) (fun j (gg:Option Nat × Nat × Option Nat × Nat × Option Nat × Nat × Option Nat × Nat × Nat × Option Nat × Nat)=>[.box b2 43 [.ptr b4 0,Z139 gg.1 j.1.groups gg.2.1,Z103 gg.2.2.1 j.1.budgets gg.2.2.2.1,Z68 gg.2.2.2.2.1 j.1.ms gg.2.2.2.2.2.1,Z64 gg.2.2.2.2.2.2.1 j.1.bs gg.2.2.2.2.2.2.2.1,.map gg.2.2.2.2.2.2.2.2.1],Q139 gg.1 gg.2.1 j.1.groups,Q103 gg.2.2.1 gg.2.2.2.1 j.1.budgets,Q68 gg.2.2.2.2.1 gg.2.2.2.2.2.1 j.1.ms,Q64 gg.2.2.2.2.2.2.1 gg.2.2.2.2.2.2.2.1 j.1.bs,.map gg.2.2.2.2.2.2.2.2.1 (List.map (pf VV.str (VV.int .i64)) j.1.held),.box b4 149 [Z140 A0 A1 ob6 c.pools cap6,Z152 A0 A1 ob7 c.insts cap7,Iw c.delay,Iw c.now,Iw c.calls],Q140 A0 A1 ob6 cap6 c.pools,Q152 A0 A1 ob7 cap7 c.insts,.box b 108 [Z172 ob t.l cap,Iw t.grace,.bool t.made],Q172 ob cap t.l,X172 b5 x,.box b6 61 [Z9 gg.2.2.2.2.2.2.2.2.2.1 j.2 gg.2.2.2.2.2.2.2.2.2.2],Q9 gg.2.2.2.2.2.2.2.2.2.1 gg.2.2.2.2.2.2.2.2.2.2 j.2,.ar A0 144 bs (List.map T_cloud_pool.cells pools),.ar A1 157 bs2 (List.map (T_cloud_inst.cells A0 A1) insts)]) (fun o hm h10=>?_) fun j=>Pq fun ob22=>Pq fun cap22=>Pq fun ob23=>Pq fun cap23=>Pq fun ob24=>Pq fun cap24=>Pq fun ob25=>Pq fun cap25=>Pq fun b9=>Pq fun ob26 cap26 hm=> ?_
 ·refine Cf (r4) (fun zl zk (zs:T_world_World × List ByteArray)=>drain_Table_goes_drain_Table_Step_1.l1 t c x pools insts zl zk zs.1 zs.2) (fun k _ (_:Option Nat × Nat × Option Nat × Nat × Option Nat × Nat × Option Nat × Nat × Nat × Option Nat × Nat)=>[(0,.ptr b 0),(1,.ptr b2 0),(2,.ptr b5 0),(3,.clo (.func 117) [] [.ptr b6 0]),(36,L29 r4),(37,Iw (r4.length : Int)),(38,Iw (k : Int))]) (fun _ zs (zg:Option Nat × Nat × Option Nat × Nat × Option Nat × Nat × Option Nat × Nat × Nat × Option Nat × Nat)=>[.box b2 43 [.ptr b4 0,Z139 zg.1 zs.1.groups zg.2.1,Z103 zg.2.2.1 zs.1.budgets zg.2.2.2.1,Z68 zg.2.2.2.2.1 zs.1.ms zg.2.2.2.2.2.1,Z64 zg.2.2.2.2.2.2.1 zs.1.bs zg.2.2.2.2.2.2.2.1,.map zg.2.2.2.2.2.2.2.2.1],Q139 zg.1 zg.2.1 zs.1.groups,Q103 zg.2.2.1 zg.2.2.2.1 zs.1.budgets,Q68 zg.2.2.2.2.1 zg.2.2.2.2.2.1 zs.1.ms,Q64 zg.2.2.2.2.2.2.1 zg.2.2.2.2.2.2.2.1 zs.1.bs,.map zg.2.2.2.2.2.2.2.2.1 (List.map (pf VV.str (VV.int .i64)) zs.1.held),.box b4 149 [Z140 A0 A1 ob6 c.pools cap6,Z152 A0 A1 ob7 c.insts cap7,Iw c.delay,Iw c.now,Iw c.calls],Q140 A0 A1 ob6 cap6 c.pools,Q152 A0 A1 ob7 cap7 c.insts,.box b 108 [Z172 ob t.l cap,Iw t.grace,.bool t.made],Q172 ob cap t.l,X172 b5 x,.box b6 61 [Z9 zg.2.2.2.2.2.2.2.2.2.1 zs.2 zg.2.2.2.2.2.2.2.2.2.2],Q9 zg.2.2.2.2.2.2.2.2.2.1 zg.2.2.2.2.2.2.2.2.2.2 zs.2,.ar A0 144 bs (List.map T_cloud_pool.cells pools),.ar A1 157 bs2 (List.map (T_cloud_inst.cells A0 A1) insts)]) (w,c2) (ob2,cap2,ob3,cap3,ob4,cap4,ob5,cap5,b3,ob8,cap8) hm (Ah [0,1,2,3,4,5,6,7,8,9,10,11,12,13,14,15] (by kernel_rfl) (by kernel_rfl)) (fun k=>Pq fun w3 tell2=>Pq fun ob17=>Pq fun cap17=>Pq fun ob18=>Pq fun cap18=>Pq fun ob19=>Pq fun cap19=>Pq fun ob20=>Pq fun cap20=>Pq fun b8=>Pq fun ob21 cap21 hk hm=>?_) fun k x2 l=>Pq fun w3 tell2=>Pq fun ob17=>Pq fun cap17=>Pq fun ob18=>Pq fun cap18=>Pq fun ob19=>Pq fun cap19=>Pq fun ob20=>Pq fun cap20=>Pq fun b8=>Pq fun ob21 cap21 h12 hm=> ?_
  ·rw [drain_Table_goes_drain_Table_Step_1.l1] at hm
   exact Ag tbk [] R R<|Af<|Bm R (k_end hk)<|A6<|Ar (ob17,cap17,ob18,cap18,ob19,cap19,ob20,cap20,b8,ob21,cap21) hm (Ah [0,1,2,3,4,5,6,7,8,9,10,11,12,13,14,15] (by kernel_rfl) (by kernel_rfl))
  rw [drain_Table_goes_drain_Table_Step_1.l1] at hm
  refine Ag tbk [] R R<|Af<|Bl R (k_lt h12)<|Al<|Af<|Aw<|Ae<|Aa R R (B8 T_api_Pod.vv R R el193 h12)<|Aa R R (Bt R ld29 R)<|Ab R R<|Au z29 fun b10=>Ab R R<|Ak (i:=0) R R R ld29 R R R<|Ac<|Af<|Ae<|Ad tbk [0] 3 R R<|Bd hm fun r5 h14 hm=>Av (Ax [1,2,3,4,5,6,7,8,9,0,10,11,12,13,14,15,16] R)<|Ab R R<|Aq 9 R fn18 R (K154 A0 A1 w3 c x2.Name b2 ob17 cap17 ob18 cap18 ob19 cap19 ob20 cap20 b8 b4 ob6 cap6 ob7 cap7 r5 h14) fun _ _ h20=> ?_
  obtain ⟨ob27,cap27,ob28,cap28,ob29,cap29,ob30,cap30,b11,rfl,rfl⟩:=h20
  refine Aa R R (Br R R R)<|Ac<|Ao hm R (fun h15 hm=>?_) fun h15 hm=> ?_
  ·refine Af<|Ae<|Ad tbk [12] 7 R R<|Ab R R<|Ak (i:=12) R R R ld3 R R R<|Ac<|Af<|Bi 0 mixed<|A9 tbk [0,1,2,3,4,5,6,7,8] [12,10] (by kernel_rfl) R R R<|A5 (by kernel_rfl)<|Ao hm R (fun h16 hm=>?_) fun h16 hm=> ?_
   ·refine Ag tbk [] R R<|have hm:=Lr hm h10; ?_
    obtain rfl:=Option.some.inj hm
    exact Bq ⟨.inl R,_,.cons (.tmp _ _ R) .nil,[10,11,0,1,2,3,4,5,6,7,8,12,13,14,15,16],_,R,ob27,cap27,ob28,cap28,ob29,cap29,ob30,cap30,b11,ob6,cap6,ob7,cap7,ob21,cap21,bs,bs2,R,R⟩
   refine Al<|Ae<|Ad tbk [] 4 R R<|Bd hm fun r6 h17 hm=>Av (Ax [10,11,0,1,2,3,4,5,6,7,8,12,13,14,9,15,16] R)<|Ab R R<|Aq 14 R fn176 R (K161 A0 A1 t r5.2 c (⟨#[115,116,111,112]⟩ : ByteArray) (⟨x.name,(IntKind.i64.wrap (x.steps + (1 : Int))),x.back⟩ : T_drain_one) tell2 b ob cap b2 ob27 cap27 ob28 cap28 ob29 cap29 ob30 cap30 b11 b4 ob6 cap6 ob7 cap7 b5 b6 ob21 cap21 r6 h17) fun _ _ h18=> ?_
   obtain ⟨ob31,cap31,ob32,cap32,ob33,cap33,ob34,cap34,b12,ob35,cap35,rfl,rfl⟩:=h18
   refine Aa R R (Aj R)<|Ac<|have hm:=Lr hm h10; ?_
   obtain rfl:=Option.some.inj hm
   exact Bq ⟨.inl R,_,.cons (.tmp _ _ R) .nil,[0,1,2,3,4,5,6,7,8,9,10,11,12,13,15,16],_,R,ob31,cap31,ob32,cap32,ob33,cap33,ob34,cap34,b12,ob6,cap6,ob7,cap7,ob35,cap35,bs,bs2,R,R⟩
  exact Al<|Bv<|Ad tbk [9] 3 R R<|Av (Ax [13,14,0,1,2,3,4,5,6,7,8,9,10,11,12,15,16] R)<|Ab R R<|Cj hm 2 R fn117 R (K147 _ _ _ _ _ _) fun r7 ob36 cap36 hm=>Ac<|Ba tbk [] R R<|Ap (r5.2,r7) (ob27,cap27,ob28,cap28,ob29,cap29,ob30,cap30,b11,ob36,cap36) hm (Be [2,3,4,5,6,7,8,9,10,12,13,14,0,1,15,16] (by kernel_rfl) ⟨R,R,R,R,R,R,congrArg some (k_next h12 h11),trivial⟩)
 refine Af<|Af<|Bu (Ax [6,7,8,14,15,0,1,2,3,4,5,9,10,11,12,13] R)<|Bi 5 mixed<|A9 tbk [0,1,2,3,4,5,6,7] [0,8] (by kernel_rfl) R R R<|Am 8 (by kernel_rfl)<|Bd hm fun r8 h21 hm=>An R R R<|Aq 5 R fn25 R (K163 A0 A1 c x.name pools insts b4 ob6 cap6 ob7 cap7 bs bs2 r8 h21) fun _ _ h26=> ?_
 obtain ⟨ob37,cap37,ob38,cap38,bs3,bs4,rfl,rfl⟩:=h26
 refine Bb 9 R R R (by kernel_rfl) (Br R R R)<|A5 (by kernel_rfl)<|Ao hm R (fun h22 hm=>?_) fun h22 hm=> ?_
 ·refine Ae<|Ad tbk [] 4 R R<|Bd hm fun r9 h23 hm=>Av (Ax [11,12,5,6,7,8,9,10,0,1,2,13,14,15,3,4] R)<|Ab R R<|Aq 14 R fn176 R (K161 A0 A1 t j.1 r8.2.1 (⟨#[107,101,101,112]⟩ : ByteArray) x j.2 b ob cap b2 ob22 cap22 ob23 cap23 ob24 cap24 ob25 cap25 b9 b4 ob37 cap37 ob38 cap38 b5 b6 ob26 cap26 r9 h23) fun _ _ h24=> ?_
  obtain ⟨ob39,cap39,ob40,cap40,ob41,cap41,ob42,cap42,b13,ob43,cap43,rfl,rfl⟩:=h24
  refine Aa R R (Aj R)<|Ac<|?_
  obtain rfl:=Option.some.inj hm
  exact Bq ⟨.inl R,_,.cons (.tmp _ _ R) .nil,[0,1,2,3,4,5,6,7,8,9,10,11,12,13,14,15],_,R,ob39,cap39,ob40,cap40,ob41,cap41,ob42,cap42,b13,ob37,cap37,ob38,cap38,ob43,cap43,bs3,bs4,R,R⟩
 refine Al<|Ae<|Ad tbk [] 3 R R<|Ab R R<|Ak (i:=13) R R R ld4 R R R<|Ac<|Ae<|Ad tbk [13] 5 R R<|Av (Ax [14,15,0,1,2,3,4,5,6,7,8,9,10,11,12,13] R)<|Ab R R<|Cj hm 2 R fn117 R (K147 _ _ _ _ _ _) fun r10 ob44 cap44 hm=>Ac<|Ag tbk [] R R<|?_
 obtain rfl:=Option.some.inj hm
 exact Bq ⟨.inl R,_,.cons (.tmp _ _ R) .nil,[13,14,7,8,9,10,11,12,2,3,4,15,0,1,5,6],_,R,ob22,cap22,ob23,cap23,ob24,cap24,ob25,cap25,b9,ob37,cap37,ob38,cap38,ob44,cap44,bs3,bs4,R,R⟩

/-! (*trireme/drain.Table).Step -/
def drain_Table_Step.l1 (t : T_drain_Table) : Nat → T_world_World → T_cloud_Cloud → (List ByteArray) → (List T_drain_one) → Int → (List T_cloud_pool) → (List T_cloud_inst) → Option (List ByteArray × List T_drain_one × T_world_World × T_cloud_Cloud × List T_cloud_pool × List T_cloud_inst)
 | 0, _, _, _, _, _, _, _ => none
 | n + 1, w4, w5, told2, l2, v2, ps2, xs2 =>
  if (decide (v2 < (t.l.length : Int))) = true then
   (V.gl t.l v2).bind fun x3 =>
   (drain_Table_goes_drain_Table_Step_1 t w4 w5 x3 told2 ps2 xs2).bind fun r3 =>
   if r3.1 = true then
    (V.ap 32 l2 [r3.2.2.2.1]).bind fun l5 =>
    drain_Table_Step.l1 t n r3.2.1 r3.2.2.1 r3.2.2.2.2.1 l5 (i64.wrap (v2 + 1)) r3.2.2.2.2.2.1 r3.2.2.2.2.2.2
   else
    drain_Table_Step.l1 t n r3.2.1 r3.2.2.1 r3.2.2.2.2.1 l2 (i64.wrap (v2 + 1)) r3.2.2.2.2.2.1 r3.2.2.2.2.2.2
  else
   some (told2, l2, w4, w5, ps2, xs2)
def drain_Table_Step (t : T_drain_Table) (w : T_world_World) (c : T_cloud_Cloud) (pools : List T_cloud_pool) (insts : List T_cloud_inst) : Option (List ByteArray × T_drain_Table × T_world_World × T_cloud_Cloud × List T_cloud_pool × List T_cloud_inst) :=
 (drain_Table_there t).bind fun r =>
 (if (!r) = true then some true else (drain_is w c).bind fun r2 =>
 some (!r2)).bind fun c2 =>
 if c2 = true then
  some (([] : List ByteArray), t, w, c, pools, insts)
 else
  (drain_Table_Step.l1 t FU w c ([] : List ByteArray) ([] : List T_drain_one) 0 pools insts).bind fun j =>
  some (j.1, (⟨j.2.1, t.grace, t.made⟩ : T_drain_Table), j.2.2.1, j.2.2.2.1, j.2.2.2.2.1, j.2.2.2.2.2)
theorem K165 (A0 A1 : Nat) (t : T_drain_Table) (w : T_world_World) (c : T_cloud_Cloud) (pools : List T_cloud_pool) (insts : List T_cloud_inst) (b : Nat) (ob : Option Nat) (cap : Nat) (b2 : Nat) (ob2 : Option Nat) (cap2 : Nat) (ob3 : Option Nat) (cap3 : Nat) (ob4 : Option Nat) (cap4 : Nat) (ob5 : Option Nat) (cap5 : Nat) (b3 : Nat) (b4 : Nat) (ob6 : Option Nat) (cap6 : Nat) (ob7 : Option Nat) (cap7 : Nat) (bs : List Nat) (bs2 : List Nat) : ∀ r : List ByteArray × T_drain_Table × T_world_World × T_cloud_Cloud × List T_cloud_pool × List T_cloud_inst, drain_Table_Step t w c pools insts = some r → VC Tryz.prog 42 [.ptr b 0, .ptr b2 0] [.box b 108 [Z172 ob t.l cap, Iw t.grace, .bool t.made], Q172 ob cap t.l, .box b2 43 [.ptr b4 0, Z139 ob2 w.groups cap2, Z103 ob3 w.budgets cap3, Z68 ob4 w.ms cap4, Z64 ob5 w.bs cap5, .map b3], Q139 ob2 cap2 w.groups, Q103 ob3 cap3 w.budgets, Q68 ob4 cap4 w.ms, Q64 ob5 cap5 w.bs, .map b3 (List.map (pf VV.str (VV.int .i64)) w.held), .box b4 149 [Z140 A0 A1 ob6 c.pools cap6, Z152 A0 A1 ob7 c.insts cap7, Iw c.delay, Iw c.now, Iw c.calls], Q140 A0 A1 ob6 cap6 c.pools, Q152 A0 A1 ob7 cap7 c.insts, .ar A0 144 bs (List.map T_cloud_pool.cells pools), .ar A1 157 bs2 (List.map (T_cloud_inst.cells A0 A1) insts)] fun zx zH => ∃ (ob0 : Option Nat) (cap0 : Nat) (ob0_0 : Option Nat) (cap0_0 : Nat) (ob1_1 : Option Nat) (cap1_1 : Nat) (ob1_2 : Option Nat) (cap1_2 : Nat) (ob1_3 : Option Nat) (cap1_3 : Nat) (ob1_4 : Option Nat) (cap1_4 : Nat) (b1_5 : Nat) (ob2_0 : Option Nat) (cap2_0 : Nat) (ob2_1 : Option Nat) (cap2_1 : Nat) (bs_3 : List Nat) (bs_4 : List Nat), zx = Z9 ob0 r.1 cap0 ∧ zH = [Q9 ob0 cap0 r.1, .box b 108 [Z172 ob0_0 r.2.1.l cap0_0, Iw r.2.1.grace, .bool r.2.1.made], Q172 ob0_0 cap0_0 r.2.1.l, .box b2 43 [.ptr b4 0, Z139 ob1_1 r.2.2.1.groups cap1_1, Z103 ob1_2 r.2.2.1.budgets cap1_2, Z68 ob1_3 r.2.2.1.ms cap1_3, Z64 ob1_4 r.2.2.1.bs cap1_4, .map b1_5], Q139 ob1_1 cap1_1 r.2.2.1.groups, Q103 ob1_2 cap1_2 r.2.2.1.budgets, Q68 ob1_3 cap1_3 r.2.2.1.ms, Q64 ob1_4 cap1_4 r.2.2.1.bs, .map b1_5 (List.map (pf VV.str (VV.int .i64)) r.2.2.1.held), .box b4 149 [Z140 A0 A1 ob2_0 r.2.2.2.1.pools cap2_0, Z152 A0 A1 ob2_1 r.2.2.2.1.insts cap2_1, Iw r.2.2.2.1.delay, Iw r.2.2.2.1.now, Iw r.2.2.2.1.calls], Q140 A0 A1 ob2_0 cap2_0 r.2.2.2.1.pools, Q152 A0 A1 ob2_1 cap2_1 r.2.2.2.1.insts, .ar A0 144 bs_3 (List.map T_cloud_pool.cells r.2.2.2.2.1), .ar A1 157 bs_4 (List.map (T_cloud_inst.cells A0 A1) r.2.2.2.2.2)] := by
 refine Cl [.tmp 4] Tryz.func42 R R R fun r hm=>?_
 unfold drain_Table_Step at hm
 refine Ag tbk [] R R<|Af<|Ae<|Aa R R (Ai R)<|Ab R R<|Ay hm 2 R fn111 R (K136 _ _ _ _) fun r hm=>Ad tbk [] 2 R R<|Bx hm 4 16 12 R (fun _ K' h2 J hm=>Ad tbk [] 4 R R<|J 3 R R (Bj hm)) (fun _ K' h2 J hm=>?_) fun c2 hm=> ?_
 ·refine Bk R R R R R (Ai R)<|Bd hm fun r2 h3 hm=>Av (Ax [2,3,4,5,6,7,8,9,10,0,1,11,12] R)<|Bh R R R R R<|Aq 9 R fn112 R (K137 A0 A1 w c b2 ob2 cap2 ob3 cap3 ob4 cap4 ob5 cap5 b3 b4 ob6 cap6 ob7 cap7 r2 h3) fun _ _ h4=> ?_
  obtain ⟨rfl,rfl⟩:=h4
  exact Ad tbk [] 2 R R<|Av (Ax [9,10,0,1,2,3,4,5,6,7,8,11,12] R)<|J 3 R R (Bj hm)
 refine Ac<|Ao hm R (fun h6 hm=>?_) fun h6 hm=> ?_
 ·refine Ag tbk [] R R<|?_
  obtain rfl:=Option.some.inj hm
  exact Bu (Bf 9)<|Bq ⟨.inl R,_,.cons (.tmp _ _ R) .nil,[0,1,2,3,4,5,6,7,8,9,10,11,12,13],_,R,none,0,ob,cap,ob2,cap2,ob3,cap3,ob4,cap4,ob5,cap5,b3,ob6,cap6,ob7,cap7,bs,bs2,R,R⟩
 refine Al<|Ae<|Ab R R<|Au z61 fun b5=>Ac<|Ag tbk [] R R<|Af<|Ae<|Ad tbk [1] 4 R R<|Aa R R (Cx T_drain_one.vv R Df)<|Aa R R (Ai R)<|Ac<|Cc hm (fun j (gg:Option Nat × Nat × Option Nat × Nat × Option Nat × Nat × Option Nat × Nat × Option Nat × Nat × Option Nat × Nat × Option Nat × Nat × Option Nat × Nat × Nat × List Nat × List Nat)=>[(0,.ptr b 0),(5,.ptr b5 0),(6,Z172 gg.2.2.1 j.2.1 gg.2.2.2.1)]) (fun j (gg:Option Nat × Nat × Option Nat × Nat × Option Nat × Nat × Option Nat × Nat × Option Nat × Nat × Option Nat × Nat × Option Nat × Nat × Option Nat × Nat × Nat × List Nat × List Nat)=>[Q9 gg.1 gg.2.1 j.1,Q172 gg.2.2.1 gg.2.2.2.1 j.2.1,.box b5 61 [Z9 gg.1 j.1 gg.2.1],.box b 108 [Z172 ob t.l cap,Iw t.grace,.bool t.made],Q172 ob cap t.l,.box b2 43 [.ptr b4 0,Z139 gg.2.2.2.2.2.2.2.2.1 j.2.2.1.groups gg.2.2.2.2.2.2.2.2.2.1,Z103 gg.2.2.2.2.2.2.2.2.2.2.1 j.2.2.1.budgets gg.2.2.2.2.2.2.2.2.2.2.2.1,Z68 gg.2.2.2.2.2.2.2.2.2.2.2.2.1 j.2.2.1.ms gg.2.2.2.2.2.2.2.2.2.2.2.2.2.1,Z64 gg.2.2.2.2.2.2.2.2.2.2.2.2.2.2.1 j.2.2.1.bs gg.2.2.2.2.2.2.2.2.2.2.2.2.2.2.2.1,.map gg.2.2.2.2.2.2.2.2.2.2.2.2.2.2.2.2.1],Q139 gg.2.2.2.2.2.2.2.2.1 gg.2.2.2.2.2.2.2.2.2.1 j.2.2.1.groups,Q103 gg.2.2.2.2.2.2.2.2.2.2.1 gg.2.2.2.2.2.2.2.2.2.2.2.1 j.2.2.1.budgets,Q68 gg.2.2.2.2.2.2.2.2.2.2.2.2.1 gg.2.2.2.2.2.2.2.2.2.2.2.2.2.1 j.2.2.1.ms,Q64 gg.2.2.2.2.2.2.2.2.2.2.2.2.2.2.1 gg.2.2.2.2.2.2.2.2.2.2.2.2.2.2.2.1 j.2.2.1.bs,.map gg.2.2.2.2.2.2.2.2.2.2.2.2.2.2.2.2.1 (List.map (pf VV.str (VV.int .i64)) j.2.2.1.held),.box b4 149 [Z140 A0 A1 gg.2.2.2.2.1 j.2.2.2.1.pools gg.2.2.2.2.2.1,Z152 A0 A1 gg.2.2.2.2.2.2.1 j.2.2.2.1.insts gg.2.2.2.2.2.2.2.1,Iw j.2.2.2.1.delay,Iw j.2.2.2.1.now,Iw j.2.2.2.1.calls],Q140 A0 A1 gg.2.2.2.2.1 gg.2.2.2.2.2.1 j.2.2.2.1.pools,Q152 A0 A1 gg.2.2.2.2.2.2.1 gg.2.2.2.2.2.2.2.1 j.2.2.2.1.insts,.ar A0 144 gg.2.2.2.2.2.2.2.2.2.2.2.2.2.2.2.2.2.1 (List.map T_cloud_pool.cells j.2.2.2.2.1),.ar A1 157 gg.2.2.2.2.2.2.2.2.2.2.2.2.2.2.2.2.2.2 (List.map (T_cloud_inst.cells A0 A1) j.2.2.2.2.2)]) (fun o hm=>?_) fun j=>Pq fun ob24=>Pq fun cap24=>Pq fun ob25=>Pq fun cap25=>Pq fun ob26=>Pq fun cap26=>Pq fun ob27=>Pq fun cap27=>Pq fun ob28=>Pq fun cap28=>Pq fun ob29=>Pq fun cap29=>Pq fun ob30=>Pq fun cap30=>Pq fun ob31=>Pq fun cap31=>Pq fun b8=>Pq fun bs7 bs8 hm=> ?_
 ·refine Ca (fun zn (zs:T_world_World × T_cloud_Cloud × List ByteArray × List T_drain_one × Int × List T_cloud_pool × List T_cloud_inst)=>drain_Table_Step.l1 t zn zs.1 zs.2.1 zs.2.2.1 zs.2.2.2.1 zs.2.2.2.2.1 zs.2.2.2.2.2.1 zs.2.2.2.2.2.2) (fun zs (zg:Option Nat × Nat × Option Nat × Nat × Option Nat × Nat × Option Nat × Nat × Option Nat × Nat × Option Nat × Nat × Nat × Option Nat × Nat × Option Nat × Nat × List Nat × List Nat)=>[(0,.ptr b 0),(1,.ptr b2 0),(5,.ptr b5 0),(6,Z172 zg.2.2.2.2.2.2.2.2.2.2.2.2.2.2.2.1 zs.2.2.2.1 zg.2.2.2.2.2.2.2.2.2.2.2.2.2.2.2.2.1),(20,Z172 ob t.l cap),(21,Iw (t.l.length : Int)),(22,Iw zs.2.2.2.2.1)]) (fun zs (zg:Option Nat × Nat × Option Nat × Nat × Option Nat × Nat × Option Nat × Nat × Option Nat × Nat × Option Nat × Nat × Nat × Option Nat × Nat × Option Nat × Nat × List Nat × List Nat)=>[Q9 zg.2.2.2.2.2.2.2.2.2.2.2.2.2.1 zg.2.2.2.2.2.2.2.2.2.2.2.2.2.2.1 zs.2.2.1,Q172 zg.2.2.2.2.2.2.2.2.2.2.2.2.2.2.2.1 zg.2.2.2.2.2.2.2.2.2.2.2.2.2.2.2.2.1 zs.2.2.2.1,.box b5 61 [Z9 zg.2.2.2.2.2.2.2.2.2.2.2.2.2.1 zs.2.2.1 zg.2.2.2.2.2.2.2.2.2.2.2.2.2.2.1],.box b 108 [Z172 ob t.l cap,Iw t.grace,.bool t.made],Q172 ob cap t.l,.box b2 43 [.ptr b4 0,Z139 zg.2.2.2.2.1 zs.1.groups zg.2.2.2.2.2.1,Z103 zg.2.2.2.2.2.2.1 zs.1.budgets zg.2.2.2.2.2.2.2.1,Z68 zg.2.2.2.2.2.2.2.2.1 zs.1.ms zg.2.2.2.2.2.2.2.2.2.1,Z64 zg.2.2.2.2.2.2.2.2.2.2.1 zs.1.bs zg.2.2.2.2.2.2.2.2.2.2.2.1,.map zg.2.2.2.2.2.2.2.2.2.2.2.2.1],Q139 zg.2.2.2.2.1 zg.2.2.2.2.2.1 zs.1.groups,Q103 zg.2.2.2.2.2.2.1 zg.2.2.2.2.2.2.2.1 zs.1.budgets,Q68 zg.2.2.2.2.2.2.2.2.1 zg.2.2.2.2.2.2.2.2.2.1 zs.1.ms,Q64 zg.2.2.2.2.2.2.2.2.2.2.1 zg.2.2.2.2.2.2.2.2.2.2.2.1 zs.1.bs,.map zg.2.2.2.2.2.2.2.2.2.2.2.2.1 (List.map (pf VV.str (VV.int .i64)) zs.1.held),.box b4 149 [Z140 A0 A1 zg.1 zs.2.1.pools zg.2.1,Z152 A0 A1 zg.2.2.1 zs.2.1.insts zg.2.2.2.1,Iw zs.2.1.delay,Iw zs.2.1.now,Iw zs.2.1.calls],Q140 A0 A1 zg.1 zg.2.1 zs.2.1.pools,Q152 A0 A1 zg.2.2.1 zg.2.2.2.1 zs.2.1.insts,.ar A0 144 zg.2.2.2.2.2.2.2.2.2.2.2.2.2.2.2.2.2.1 (List.map T_cloud_pool.cells zs.2.2.2.2.2.1),.ar A1 157 zg.2.2.2.2.2.2.2.2.2.2.2.2.2.2.2.2.2.2 (List.map (T_cloud_inst.cells A0 A1) zs.2.2.2.2.2.2)]) (w,c,([] : List ByteArray),([] : List T_drain_one),(0 : Int),pools,insts) (ob6,cap6,ob7,cap7,ob2,cap2,ob3,cap3,ob4,cap4,ob5,cap5,b3,none,0,none,0,bs,bs2) (fun _=>R) hm (B1 (Bf 172) (B1 (Bf 9) (Ah [0,1,2,3,4,5,6,7,8,9,10,11,12,13,14,15] (by kernel_rfl) (by kernel_rfl)))) fun n=>Pq fun w4=>Pq fun w5=>Pq fun told2=>Pq fun l2=>Pq fun v2=>Pq fun ps2 xs2=>Pq fun ob16=>Pq fun cap16=>Pq fun ob17=>Pq fun cap17=>Pq fun ob18=>Pq fun cap18=>Pq fun ob19=>Pq fun cap19=>Pq fun ob20=>Pq fun cap20=>Pq fun ob21=>Pq fun cap21=>Pq fun b7=>Pq fun ob22=>Pq fun cap22=>Pq fun ob23=>Pq fun cap23=>Pq fun bs5 bs6 hm=> ?_
  rw [drain_Table_Step.l1] at hm
  refine Ag tbk [] R R<|Af<|Ao hm R (fun h15 hm=>?_) fun h15 hm=> ?_
  ·refine Al<|Af<|Aw<|Ae<|Bd hm fun x3 h16 hm=>Cg 4 R (gl_pos T_drain_one.vv h16) fun b9 h17=> ?_
   subst h17
   refine Aa R R (Cm T_drain_one.vv R R el106 h16)<|Aa R R (Ce (i:=4) (y:=T_drain_one.vv x3) R R R (gl_map _ (gl_some h16).2) ld172 R)<|Ab R R<|Au z172 fun b10=>Ab R R<|Ak (i:=0) R R R ld172 R R R<|Ac<|Ae<|Ad tbk [] 2 R R<|Aa R R (Ct R R)<|Bd hm fun r3 h19 hm=>Av (Ax [4,5,6,7,8,9,10,11,12,13,14,0,3,1,15,16,2] R)<|Ab R R<|Aq 16 R fn116 R (K164 A0 A1 t w4 w5 x3 told2 ps2 xs2 b (some b9) cap b2 ob18 cap18 ob19 cap19 ob20 cap20 ob21 cap21 b7 b4 ob16 cap16 ob17 cap17 b10 b5 ob22 cap22 bs5 bs6 r3 h19) fun _ _ h23=> ?_
   obtain ⟨ob32,cap32,ob33,cap33,ob34,cap34,ob35,cap35,b11,ob36,cap36,ob37,cap37,ob38,cap38,bs9,bs10,rfl,rfl⟩:=h23
   exact Ac<|Ao hm R (fun h20 hm=>Bv<|Ad tbk [11] 2 R R<|Ab R R<|A4 ap106 R R R R R fun b12=>Bd hm fun l5 h22 hm=>Ab R R<|Bo 17 T_drain_one.vv (l:=l2) (l2:=[r3.2.2.2.1]) ap106 R R (sT_row 0 T_drain_one.vv el106 R R) h22 fun ob39 cap39=>Aa R R (Aj R)<|Ac<|Ba tbk [] R R<|Ap (r3.2.1,r3.2.2.1,r3.2.2.2.2.1,l5,(IntKind.i64.wrap (v2 + (1 : Int))),r3.2.2.2.2.2.1,r3.2.2.2.2.2.2) (ob36,cap36,ob37,cap37,ob32,cap32,ob33,cap33,ob34,cap34,ob35,cap35,b11,ob38,cap38,ob39,cap39,bs9,bs10) hm (Ah [14,17,13,1,2,3,4,5,6,7,8,9,10,11,15,16] (by kernel_rfl) (by kernel_rfl))) fun h20 hm=>Al<|Ba tbk [] R R<|Ap (r3.2.1,r3.2.2.1,r3.2.2.2.2.1,l2,(IntKind.i64.wrap (v2 + (1 : Int))),r3.2.2.2.2.2.1,r3.2.2.2.2.2.2) (ob36,cap36,ob37,cap37,ob32,cap32,ob33,cap33,ob34,cap34,ob35,cap35,b11,ob38,cap38,ob23,cap23,bs9,bs10) hm (Ah [13,16,12,0,1,2,3,4,5,6,7,8,9,10,14,15] (by kernel_rfl) (by kernel_rfl))
  exact A6<|As (ob22,cap22,ob23,cap23,ob16,cap16,ob17,cap17,ob18,cap18,ob19,cap19,ob20,cap20,ob21,cap21,b7,bs5,bs6) hm (Ah [0,1,2,3,4,5,6,7,8,9,10,11,12,13,14,15] (by kernel_rfl) (by kernel_rfl))
 refine Ae<|Ad tbk [] 4 R R<|Ab R R<|Ak (i:=3) R R R ld106 R R R<|Ac<|Ag tbk [2] R R<|?_
 obtain rfl:=Option.some.inj hm
 exact Bq ⟨.inl R,_,.cons (.tmp _ _ R) .nil,[0,3,1,5,6,7,8,9,10,11,12,13,14,15],_,R,ob24,cap24,ob25,cap25,ob28,cap28,ob29,cap29,ob30,cap30,ob31,cap31,b8,ob26,cap26,ob27,cap27,bs7,bs8,R,R⟩

/-! (*trireme/drain.Table).Leaving$1 -/
def drain_Table_Leaving_1 (x : T_drain_one) : Option Bool :=
 some x.back
theorem K166 (x : T_drain_one) : VS Tryz.prog 119 (drain_Table_Leaving_1 x) [T_drain_one.vv x] [] .bool N0 := by
 refine A8 [.tmp 2] Tryz.func119 R R R fun r hm=>?_
 unfold drain_Table_Leaving_1 at hm
 exact Ae<|Ab R R<|Bg R R fun b=>Aa R R (Aj R)<|Ac<|Ag tbk [0] R R<|Rt1 hm R [] R R R

/-! (*trireme/drain.Table).names -/
def drain_Table_names_drain_Table_Leaving_1.l1 (t : T_drain_Table) : Nat → (List ByteArray) → Int → Option (List ByteArray)
 | 0, _, _ => none
 | n + 1, l2, v2 =>
  if (decide (v2 < (t.l.length : Int))) = true then
   (V.gl t.l v2).bind fun x =>
   (drain_Table_Leaving_1 x).bind fun r2 =>
   if r2 = true then
    (V.ap 16 l2 [x.name]).bind fun l5 =>
    drain_Table_names_drain_Table_Leaving_1.l1 t n l5 (i64.wrap (v2 + 1))
   else
    drain_Table_names_drain_Table_Leaving_1.l1 t n l2 (i64.wrap (v2 + 1))
  else
   some l2
def drain_Table_names_drain_Table_Leaving_1 (t : T_drain_Table) : Option (List ByteArray) :=
 (drain_Table_there t).bind fun r =>
 if (!r) = true then
  some ([] : List ByteArray)
 else
  (drain_Table_names_drain_Table_Leaving_1.l1 t FU ([] : List ByteArray) (0 : Int)).bind fun l32 =>
  some l32
theorem K167 (t : T_drain_Table) (b : Nat) (ob : Option Nat) (cap : Nat) : VS2 Tryz.prog 114 (drain_Table_names_drain_Table_Leaving_1 t) [.ptr b 0, .clo (.func 119) [] []] [.box b 108 [Z172 ob t.l cap, Iw t.grace, .bool t.made], Q172 ob cap t.l] (fun r ob0 cap0=>Z9 ob0 r cap0) (fun r ob0 cap0=>[Q9 ob0 cap0 r, .box b 108 [Z172 ob t.l cap, Iw t.grace, .bool t.made], Q172 ob cap t.l]) := by
 refine Cz [.tmp 4] Tryz.func114 R R R fun r hm=>?_
 unfold drain_Table_names_drain_Table_Leaving_1 at hm
 refine Ag tbk [] R R<|Af<|Ae<|Aa R R (Ai R)<|Ab R R<|Ay hm 2 R fn111 R (K136 _ _ _ _) fun r hm=>Aa R R (Cp R)<|Ac<|Ao hm R (fun h2 hm=>Ag tbk [] R R<|Bu (Bf 9)<|Rg2 hm R [0,1,2] none 0 (.cons (.tmp _ _ R) .nil) R R) fun h2 hm=>Al<|Ag tbk [] R R<|Af<|Ae<|Ad tbk [0] 4 R R<|Aa R R (Cx T_drain_one.vv R Df)<|Aa R R (Ai R)<|Ac<|Cc hm (fun l32 (gg:Option Nat × Nat)=>[(5,Z9 gg.1 l32 gg.2)]) (fun l32 (gg:Option Nat × Nat)=>[Q9 gg.1 gg.2 l32,.box b 108 [Z172 ob t.l cap,Iw t.grace,.bool t.made],Q172 ob cap t.l]) (fun o hm=>?_) fun l32=>Pq fun ob4 cap4 hm=> ?_
 ·refine Ca (fun zn (zs:List ByteArray × Int)=>drain_Table_names_drain_Table_Leaving_1.l1 t zn zs.1 zs.2) (fun zs (zg:Option Nat × Nat)=>[(1,.clo (.func 119) [] []),(5,Z9 zg.1 zs.1 zg.2),(14,Z172 ob t.l cap),(15,Iw (t.l.length : Int)),(16,Iw zs.2)]) (fun zs (zg:Option Nat × Nat)=>[Q9 zg.1 zg.2 zs.1,.box b 108 [Z172 ob t.l cap,Iw t.grace,.bool t.made],Q172 ob cap t.l]) (([] : List ByteArray),(0 : Int)) (none,0) (fun _=>R) hm (B1 (Bf 9) (Ah [0,1,2] R R)) fun n=>Pq fun l2 v2=>Pq fun ob3 cap3 hm=> ?_
  rw [drain_Table_names_drain_Table_Leaving_1.l1] at hm
  refine Ag tbk [] R R<|Af<|Ao hm R (fun h8 hm=>?_) fun h8 hm=> ?_
  ·refine Al<|Af<|Aw<|Ae<|Bd hm fun x h9 hm=>Cg 2 R (gl_pos T_drain_one.vv h9) fun b2 h10=> ?_
   subst h10
   exact Aa R R (Cm T_drain_one.vv R R el106 h9)<|Aa R R (Ce (i:=2) (y:=T_drain_one.vv x) R R R (gl_map _ (gl_some h9).2) ld172 R)<|Ab R R<|Au z172 fun b3=>Ab R R<|Ak (i:=0) R R R ld172 R R R<|Ac<|Ae<|Ad tbk [0] 2 R R<|Ab R R<|Ay hm 0 R fn119 R (K166 _) fun r2 hm=>Ac<|Ao hm R (fun h13 hm=>Bv<|Ad tbk [0] 3 R R<|Ab R R<|A4 ap61 R R R R R fun b4=>Bd hm fun l5 h15 hm=>Ab R R<|Bo 2 VV.str (l:=l2) (l2:=[x.name]) ap61 R R (sT_row 0 VV.str el61 R R) h15 fun ob5 cap5=>Aa R R (Aj R)<|Ac<|Ba tbk [] R R<|Ap (l5,(IntKind.i64.wrap (v2 + (1 : Int)))) (ob5,cap5) hm (Ah [2,3,4] R R)) fun h13 hm=>Al<|Ba tbk [] R R<|Ap (l2,(IntKind.i64.wrap (v2 + (1 : Int)))) (ob3,cap3) hm (Ah [1,2,3] R R)
  exact A6<|As (ob3,cap3) hm (Ah [0,1,2] R R)
 exact Ag tbk [] R R<|Rg2 hm R [0,1,2] ob4 cap4 (.cons (.tmp _ _ R) .nil) R R

/-! (*trireme/drain.Table).Leaving -/
def drain_Table_Leaving (t : T_drain_Table) : Option (List ByteArray) :=
 (drain_Table_names_drain_Table_Leaving_1 t).bind fun r =>
 some r
theorem K168 (t : T_drain_Table) (b : Nat) (ob : Option Nat) (cap : Nat) : VS Tryz.prog 47 (drain_Table_Leaving t) [.ptr b 0] [.box b 108 [Z172 ob t.l cap, Iw t.grace, .bool t.made], Q172 ob cap t.l] (fun r=>L9 r) (fun r=>[.box b 108 [Z172 ob t.l cap, Iw t.grace, .bool t.made], Q172 ob cap t.l]) := by
 refine A8 [.tmp 2] Tryz.func47 R R R fun r hm=>?_
 unfold drain_Table_Leaving at hm
 exact Ag tbk [] R R<|Ae<|Aa R R (Ai R)<|Ab R R<|Cj hm 2 R fn114 R (K167 _ _ _ _) fun r ob2 cap2 hm=>Av (Az 0 [(4,L9 r)] R ⟨⟨_,R,.here _ R⟩,trivial⟩ (FzH.refl _))<|Aa R R (Aj R)<|Ac<|Rt1 hm R [0,1] R R R

/-! trireme/triremeref09.Texts -/
def ref09_Texts.l1 (a : List ByteArray) (b : List ByteArray) : Nat → Int → Option (Out Bool Unit)
 | 0, _ => none
 | n + 1, i2 =>
  if (decide (i2 < (a.length : Int))) = true then
   (V.gl a i2).bind fun x =>
   (V.gl b i2).bind fun x2 =>
   if (!(V.seq x x2)) = true then
    some (Out.ret false)
   else
    ref09_Texts.l1 a b n (i64.wrap (i2 + 1))
  else
   some (Out.go ())
def ref09_Texts (a : List ByteArray) (b : List ByteArray) : Option Bool :=
 if ((a.length : Int) != (b.length : Int)) = true then
  some false
 else
  (ref09_Texts.l1 a b FU (0 : Int)).bind fun o =>
  o.on fun j =>
  some true
theorem K169 (a : List ByteArray) (b : List ByteArray) : VS Tryz.prog 51 (ref09_Texts a b) [L9 a, L9 b] [] .bool N0 := by
 refine A8 [.tmp 4] Tryz.func51 R R R fun r hm=>?_
 unfold ref09_Texts at hm
 refine Ag tbk [] R R<|Af<|Ae<|Aa R R (Ai R)<|Aa R R (A7 VV.str R Bz)<|Aa R R (Ai R)<|Aa R R (A7 VV.str R Bz)<|Aa R R (Br R R R)<|Ac<|Ao hm R (fun h1 hm=>Ag tbk [] R R<|Rt1 hm R [] R R R) fun h1 hm=>Al<|Af<|Ag tbk [] R R<|B5 hm (fun _ (_:Unit)=>[]) (fun _ (_:Unit)=>[]) (fun o hm h3=>?_) fun j _ hm=> ?_
 ·refine Ca (fun zn (zs:Int)=>ref09_Texts.l1 a b zn zs) (fun zs (_:Unit)=>[(0,L9 a),(1,L9 b),(5,Iw zs)]) (fun _ (_:Unit)=>[]) _ () (fun _=>R) hm (Ah [] R R) fun n i2 _ hm=> ?_
  rw [ref09_Texts.l1] at hm
  exact Af<|Ae<|Ad tbk [] 2 R R<|Aa R R (A7 VV.str R Bz)<|Aa R R (Br R R R)<|Ac<|Ao hm R (fun h4 hm=>Al<|Af<|Aw<|Af<|Bi 0 mixed<|A9 tbk [0,1] [] (by kernel_rfl) R R R<|Bd hm fun x h5 hm=>Bb 2 R R R (by kernel_rfl) (Bw VV.str R R el61 h5)<|A9 tbk [3,4,5] [] (by kernel_rfl) R R R<|Bd hm fun x2 h6 hm=>Bb 6 R R R (by kernel_rfl) (Bw VV.str R R el61 h6)<|A9 tbk [7,8] [] (by kernel_rfl) R R R<|A5 (by kernel_rfl)<|Ao hm R (fun h7 hm=>Ag tbk [] R R<|have hm:=Lr hm h3;Rt1 hm R [] R R R) fun h7 hm=>Al<|Ba tbk [] R R<|Ap _ () hm (Ah [] R R)) fun h4 hm=>A6<|Ar () hm (Ah [] R R)
 exact Ag tbk [] R R<|Rt1 hm R [] R R R

/-! (*trireme/drain.Table).Busy$1 -/
def drain_Table_Busy_1 (a : T_drain_one) : Option Bool :=
 some true
theorem K170 (a : T_drain_one) : VS Tryz.prog 115 (drain_Table_Busy_1 a) [T_drain_one.vv a] [] .bool N0 := by
 refine A8 [.tmp 2] Tryz.func115 R R R fun r hm=>?_
 unfold drain_Table_Busy_1 at hm
 exact Ae<|Ab R R<|Bg R R fun b=>Aa R R (Aj R)<|Ac<|Ag tbk [] R R<|Rt1 hm R [] R R R

/-! (*trireme/drain.Table).names -/
def drain_Table_names_drain_Table_Busy_1.l1 (t : T_drain_Table) : Nat → (List ByteArray) → Int → Option (List ByteArray)
 | 0, _, _ => none
 | n + 1, l2, v2 =>
  if (decide (v2 < (t.l.length : Int))) = true then
   (V.gl t.l v2).bind fun x =>
   (drain_Table_Busy_1 x).bind fun r2 =>
   (V.ap 16 l2 [x.name]).bind fun l5 =>
   drain_Table_names_drain_Table_Busy_1.l1 t n l5 (i64.wrap (v2 + 1))
  else
   some l2
def drain_Table_names_drain_Table_Busy_1 (t : T_drain_Table) : Option (List ByteArray) :=
 (drain_Table_there t).bind fun r =>
 if (!r) = true then
  some ([] : List ByteArray)
 else
  (drain_Table_names_drain_Table_Busy_1.l1 t FU ([] : List ByteArray) (0 : Int)).bind fun l32 =>
  some l32
theorem K171 (t : T_drain_Table) (b : Nat) (ob : Option Nat) (cap : Nat) : VS2 Tryz.prog 114 (drain_Table_names_drain_Table_Busy_1 t) [.ptr b 0, .clo (.func 115) [] []] [.box b 108 [Z172 ob t.l cap, Iw t.grace, .bool t.made], Q172 ob cap t.l] (fun r ob0 cap0=>Z9 ob0 r cap0) (fun r ob0 cap0=>[Q9 ob0 cap0 r, .box b 108 [Z172 ob t.l cap, Iw t.grace, .bool t.made], Q172 ob cap t.l]) := by
 refine Cz [.tmp 4] Tryz.func114 R R R fun r hm=>?_
 unfold drain_Table_names_drain_Table_Busy_1 at hm
 refine Ag tbk [] R R<|Af<|Ae<|Aa R R (Ai R)<|Ab R R<|Ay hm 2 R fn111 R (K136 _ _ _ _) fun r hm=>Aa R R (Cp R)<|Ac<|Ao hm R (fun h2 hm=>Ag tbk [] R R<|Bu (Bf 9)<|Rg2 hm R [0,1,2] none 0 (.cons (.tmp _ _ R) .nil) R R) fun h2 hm=>Al<|Ag tbk [] R R<|Af<|Ae<|Ad tbk [0] 4 R R<|Aa R R (Cx T_drain_one.vv R Df)<|Aa R R (Ai R)<|Ac<|Cc hm (fun l32 (gg:Option Nat × Nat)=>[(5,Z9 gg.1 l32 gg.2)]) (fun l32 (gg:Option Nat × Nat)=>[Q9 gg.1 gg.2 l32,.box b 108 [Z172 ob t.l cap,Iw t.grace,.bool t.made],Q172 ob cap t.l]) (fun o hm=>?_) fun l32=>Pq fun ob4 cap4 hm=> ?_
 ·refine Ca (fun zn (zs:List ByteArray × Int)=>drain_Table_names_drain_Table_Busy_1.l1 t zn zs.1 zs.2) (fun zs (zg:Option Nat × Nat)=>[(1,.clo (.func 115) [] []),(5,Z9 zg.1 zs.1 zg.2),(14,Z172 ob t.l cap),(15,Iw (t.l.length : Int)),(16,Iw zs.2)]) (fun zs (zg:Option Nat × Nat)=>[Q9 zg.1 zg.2 zs.1,.box b 108 [Z172 ob t.l cap,Iw t.grace,.bool t.made],Q172 ob cap t.l]) (([] : List ByteArray),(0 : Int)) (none,0) (fun _=>R) hm (B1 (Bf 9) (Ah [0,1,2] R R)) fun n=>Pq fun l2 v2=>Pq fun ob3 cap3 hm=> ?_
  rw [drain_Table_names_drain_Table_Busy_1.l1] at hm
  refine Ag tbk [] R R<|Af<|Ao hm R (fun h8 hm=>?_) fun h8 hm=> ?_
  ·refine Al<|Af<|Aw<|Ae<|Bd hm fun x h9 hm=>Cg 2 R (gl_pos T_drain_one.vv h9) fun b2 h10=> ?_
   subst h10
   refine Aa R R (Cm T_drain_one.vv R R el106 h9)<|Aa R R (Ce (i:=2) (y:=T_drain_one.vv x) R R R (gl_map _ (gl_some h9).2) ld172 R)<|Ab R R<|Au z172 fun b3=>Ab R R<|Ak (i:=0) R R R ld172 R R R<|Ac<|Ae<|Ad tbk [0] 2 R R<|Bd hm fun r2 h12 hm=>Ab R R<|Aq 0 R fn115 R (K170 x r2 h12) fun _ _ h15=> ?_
   obtain ⟨rfl,rfl⟩:=h15
   exact Ac<|Bl R (Option.some.inj (show some true = some r2 from h12)).symm<|Bv<|Ad tbk [0] 3 R R<|Ab R R<|A4 ap61 R R R R R fun b4=>Bd hm fun l5 h14 hm=>Ab R R<|Bo 2 VV.str (l:=l2) (l2:=[x.name]) ap61 R R (sT_row 0 VV.str el61 R R) h14 fun ob5 cap5=>Aa R R (Aj R)<|Ac<|Ba tbk [] R R<|Ap (l5,(IntKind.i64.wrap (v2 + (1 : Int)))) (ob5,cap5) hm (Ah [2,3,4] R R)
  exact A6<|As (ob3,cap3) hm (Ah [0,1,2] R R)
 exact Ag tbk [] R R<|Rg2 hm R [0,1,2] ob4 cap4 (.cons (.tmp _ _ R) .nil) R R

/-! (*trireme/drain.Table).Busy -/
def drain_Table_Busy (t : T_drain_Table) : Option (List ByteArray) :=
 (drain_Table_names_drain_Table_Busy_1 t).bind fun r =>
 some r
theorem K172 (t : T_drain_Table) (b : Nat) (ob : Option Nat) (cap : Nat) : VS Tryz.prog 41 (drain_Table_Busy t) [.ptr b 0] [.box b 108 [Z172 ob t.l cap, Iw t.grace, .bool t.made], Q172 ob cap t.l] (fun r=>L9 r) (fun r=>[.box b 108 [Z172 ob t.l cap, Iw t.grace, .bool t.made], Q172 ob cap t.l]) := by
 refine A8 [.tmp 2] Tryz.func41 R R R fun r hm=>?_
 unfold drain_Table_Busy at hm
 exact Ag tbk [] R R<|Ae<|Aa R R (Ai R)<|Ab R R<|Cj hm 2 R fn114 R (K171 _ _ _ _) fun r ob2 cap2 hm=>Av (Az 0 [(4,L9 r)] R ⟨⟨_,R,.here _ R⟩,trivial⟩ (FzH.refl _))<|Aa R R (Aj R)<|Ac<|Rt1 hm R [0,1] R R R

/-! trireme/triremelaw28.known -/
def law28_known (pools : List T_cloud_pool) (insts : List T_cloud_inst) : Option (Bool × List T_cloud_pool × List T_cloud_inst) :=
 (world_New [(⟨(⟨#[103]⟩ : ByteArray), 1, 3, (⟨(⟨#[]⟩ : ByteArray), (⟨#[103]⟩ : ByteArray), (⟨1000, 0, 0, 5, 0⟩ : T_api_Res), ([] : List T_api_Label), ([] : List T_api_Taint), true⟩ : T_api_Machine), 0, 0⟩ : T_api_Group)] ([] : List T_api_Budget) 1 pools insts).bind fun r =>
 po r.1 (
  (drain_New (1 : Int)).bind fun r2 =>
  po r2.1 (
   some (false, r.2.2.1, r.2.2.2)) fun x2 =>
  some (false, r.2.2.1, r.2.2.2)) fun x =>
 (drain_New (1 : Int)).bind fun r3 =>
 po r3.1 (
  some (false, r.2.2.1, r.2.2.2)) fun x3 =>
 if (((((r.2.1 != 0) || (r3.2 != 0)) || false) || false) || false) = true then
  some (false, r.2.2.1, r.2.2.2)
 else
  (world_World_AddPod x.1 x.2 (⟨(⟨#[112]⟩ : ByteArray), (⟨600, 0, 0, 1, 0⟩ : T_api_Res), ([] : List T_api_Label), ([] : List T_api_Label), ([] : List T_api_Term), ([] : List T_api_Toleration), ([] : List Int), ([] : List T_api_Label), false, ([] : List T_api_Label), 0, 0, (⟨#[115]⟩ : ByteArray), false, false, false⟩ : T_api_Pod)).bind fun r4 =>
  (cloud_Cloud_Increase x.2 (⟨#[103]⟩ : ByteArray) 1 r.2.2.1 r.2.2.2).bind fun r5 =>
  (world_World_Pass r4.2 r5.2.1 r5.2.2.1 r5.2.2.2).bind fun r6 =>
  (drain_Table_Start x3 r6.1 r6.2.1 (⟨#[103, 45, 49]⟩ : ByteArray)).bind fun r7 =>
  (drain_Table_Start r7.2.1 r7.2.2 r6.2.1 (⟨#[103, 45, 49]⟩ : ByteArray)).bind fun r8 =>
  (drain_Table_Start r8.2.1 r8.2.2 r6.2.1 (⟨#[120]⟩ : ByteArray)).bind fun r9 =>
  (drain_Table_Step r9.2.1 r9.2.2 r6.2.1 r5.2.2.1 r6.2.2).bind fun r10 =>
  (drain_Table_Leaving r10.2.1).bind fun r11 =>
  (world_World_Pass r10.2.2.1 r10.2.2.2.1 r10.2.2.2.2.1 r10.2.2.2.2.2).bind fun r12 =>
  (drain_Table_Step r10.2.1 r12.1 r12.2.1 r10.2.2.2.2.1 r12.2.2).bind fun r13 =>
  (world_World_Bounds r13.2.2.1 r13.2.2.2.1).bind fun r14 =>
  (drain_New (-1 : Int)).bind fun r15 =>
  po r15.1 (
   (if (((r7.1 == 0) && (r8.1 == 15)) && (r9.1 == 16)) = true then (ref09_Texts r10.1 [(⟨#[101, 118, 105, 99, 116, 32, 112]⟩ : ByteArray), (⟨#[100, 101, 108, 101, 116, 101, 32, 103, 45, 49]⟩ : ByteArray)]).bind fun r16 =>
   some r16 else some false).bind fun c =>
   (if c = true then (ref09_Texts r11 [(⟨#[103, 45, 49]⟩ : ByteArray)]).bind fun r17 =>
   some r17 else some false).bind fun c2 =>
   (if c2 = true then (ref09_Texts r13.1 [(⟨#[103, 111, 110, 101, 32, 103, 45, 49]⟩ : ByteArray)]).bind fun r18 =>
   some r18 else some false).bind fun c3 =>
   (if c3 = true then (drain_Table_Busy r13.2.1).bind fun r19 =>
   some ((r19.length : Int) == 0) else some false).bind fun c4 =>
   (if (c4 && ((r14.length : Int) == 1)) = true then (V.gl r14 (0 : Int)).bind fun x5 =>
   some (V.seq x5.On (⟨#[103, 45, 50]⟩ : ByteArray)) else some false).bind fun c5 =>
   some ((if (c5 && (r15.2 == 1)) = true then true else false), r13.2.2.2.2.1, r13.2.2.2.2.2)) fun x4 =>
  (if (((r7.1 == 0) && (r8.1 == 15)) && (r9.1 == 16)) = true then (ref09_Texts r10.1 [(⟨#[101, 118, 105, 99, 116, 32, 112]⟩ : ByteArray), (⟨#[100, 101, 108, 101, 116, 101, 32, 103, 45, 49]⟩ : ByteArray)]).bind fun r20 =>
  some r20 else some false).bind fun c6 =>
  (if c6 = true then (ref09_Texts r11 [(⟨#[103, 45, 49]⟩ : ByteArray)]).bind fun r21 =>
  some r21 else some false).bind fun c7 =>
  (if c7 = true then (ref09_Texts r13.1 [(⟨#[103, 111, 110, 101, 32, 103, 45, 49]⟩ : ByteArray)]).bind fun r22 =>
  some r22 else some false).bind fun c8 =>
  (if c8 = true then (drain_Table_Busy r13.2.1).bind fun r23 =>
  some ((r23.length : Int) == 0) else some false).bind fun c9 =>
  (if (c9 && ((r14.length : Int) == 1)) = true then (V.gl r14 (0 : Int)).bind fun x6 =>
  some (V.seq x6.On (⟨#[103, 45, 50]⟩ : ByteArray)) else some false).bind fun c10 =>
  some ((if (c10 && (r15.2 == 1)) = true then true else false), r13.2.2.2.2.1, r13.2.2.2.2.2)
theorem K173 (A0 A1 : Nat) (pools : List T_cloud_pool) (insts : List T_cloud_inst) (bs : List Nat) (bs2 : List Nat) : ∀ r : Bool × List T_cloud_pool × List T_cloud_inst, law28_known pools insts = some r → VC Tryz.prog 37 [] [.ar A0 144 bs (List.map T_cloud_pool.cells pools), .ar A1 157 bs2 (List.map (T_cloud_inst.cells A0 A1) insts)] fun zx zH => ∃ (bs_0 : List Nat) (bs_1 : List Nat), zx = .bool r.1 ∧ zH = [.ar A0 144 bs_0 (List.map T_cloud_pool.cells r.2.1), .ar A1 157 bs_1 (List.map (T_cloud_inst.cells A0 A1) r.2.2)] := by
 refine Cl [.tmp 0] Tryz.func37 R R R fun r hm=>?_
 unfold law28_known at hm
 refine Ag tbk [] R R<|Ae<|Aa R R (Bn pl23 R R)<|Aa R R (Bn pl68 R R)<|Aa R R (Bn pl139 R R)<|Av (B1 (Bf 232) (B1 (Az 0 [(17,.agg [.str (⟨#[103]⟩ : ByteArray),Iw (1 : Int),Iw (3 : Int),.str (⟨#[]⟩ : ByteArray),.str (⟨#[103]⟩ : ByteArray),Iw (1000 : Int),Iw (0 : Int),Iw (0 : Int),Iw (5 : Int),Iw (0 : Int),L232 ([] : List T_api_Label),.sl none 0 0,.bool true,Iw (0 : Int),Iw (0 : Int)])] R ⟨⟨_,R,.aggL ⟨.same _,.same _,.same _,.same _,.same _,.same _,.same _,.same _,.same _,.same _,.here _ R,.same _,.same _,.same _,.same _,trivial⟩⟩,trivial⟩ (FzH.refl _)) (B1 (Bf 31) (Az 0 [(17,T_api_Group.vv (⟨(⟨#[103]⟩ : ByteArray),(1 : Int),(3 : Int),(⟨(⟨#[]⟩ : ByteArray),(⟨#[103]⟩ : ByteArray),(⟨(1000 : Int),(0 : Int),(0 : Int),(5 : Int),(0 : Int)⟩ : T_api_Res),([] : List T_api_Label),([] : List T_api_Taint),true⟩ : T_api_Machine),(0 : Int),(0 : Int)⟩ : T_api_Group))] R ⟨⟨_,R,.aggL ⟨.same _,.same _,.same _,.same _,.same _,.same _,.same _,.same _,.same _,.same _,.same _,.here _ R,.same _,.same _,.same _,trivial⟩⟩,trivial⟩ (FzH.refl _)))))<|Ab R R<|A4 ap37 R R R R R fun b=>Av (Az 0 [(18,L139 [(⟨(⟨#[103]⟩ : ByteArray),(1 : Int),(3 : Int),(⟨(⟨#[]⟩ : ByteArray),(⟨#[103]⟩ : ByteArray),(⟨(1000 : Int),(0 : Int),(0 : Int),(5 : Int),(0 : Int)⟩ : T_api_Res),([] : List T_api_Label),([] : List T_api_Taint),true⟩ : T_api_Machine),(0 : Int),(0 : Int)⟩ : T_api_Group)])] R ⟨⟨_,R,.here _ R⟩,trivial⟩ (FzH.refl _))<|Aa R R (Aj R)<|Ac<|Ae<|Aa R R (Ai R)<|Bd hm fun r h2 hm=>Ab R R<|VO.callN 2 [.same,.nil 103,.same] R fn30 R (K52 A0 A1 [(⟨(⟨#[103]⟩ : ByteArray),(1 : Int),(3 : Int),(⟨(⟨#[]⟩ : ByteArray),(⟨#[103]⟩ : ByteArray),(⟨(1000 : Int),(0 : Int),(0 : Int),(5 : Int),(0 : Int)⟩ : T_api_Res),([] : List T_api_Label),([] : List T_api_Taint),true⟩ : T_api_Machine),(0 : Int),(0 : Int)⟩ : T_api_Group)] ([] : List T_api_Budget) (1 : Int) pools insts bs bs2 r h2) fun _ _ h107=> ?_
 obtain ⟨b2,b3,ob,cap,ob2,cap2,ob3,cap3,ob4,cap4,ob5,cap5,ob6,cap6,b4,bs3,bs4,rfl,rfl⟩:=h107
 rcases po_or hm with ⟨h106,hm⟩ | ⟨x,h106,hm⟩
 ·rw [h106]
  refine Ad tbk [] 5 R R<|Ac<|Ae<|Bd hm fun r2 h12 hm=>Ab R R<|Aq 0 R fn38 R (K53 (1 : Int) r2 h12) fun _ _ h20=> ?_
  obtain ⟨b5,ob7,cap7,rfl,rfl⟩:=h20
  rcases po_or hm with ⟨h19,hm⟩ | ⟨x2,h19,hm⟩
  ·rw [h19]
   refine Ad tbk [] 5 R R<|Ac<|Af<|Ae<|Ad tbk [] 3 R R<|Cq tbk [] 3 33 30 R R R R R<|Aa R R (Ai R)<|C0 3 37 34 R (fun K' J=>Ad tbk [] 3 R R<|J 2 R R R) (fun h16 K' J=>Bk R R R R R (Ai R)<|Bk R R R R R (C2 Cn R R)<|Aa R R (Bs false R R R)<|J 2 R R R)<|Aa R R (Ai R)<|C5 R R R R (by simp)<|C5 R R R R (by simp)<|Aa R R (Bs true R (by simp) R)<|Ad tbk [] 7 R R<|Ac<|Bl R R<|Ag tbk [] R R<|?_
   obtain rfl:=Option.some.inj hm
   exact Bq ⟨.inl R,_,.cons (.tmp _ _ R) .nil,[0,1],_,R,bs3,bs4,R,R⟩
  ·rw [h19]
   refine Ad tbk [] 5 R R<|Ac<|Af<|Ae<|Ad tbk [] 3 R R<|Cq tbk [] 3 33 30 R R R R R<|Aa R R (Ai R)<|C0 3 37 34 R (fun K' J=>Ad tbk [] 3 R R<|J 2 R R R) (fun h18 K' J=>Bk R R R R R (Ai R)<|Bk R R R R R (C2 Cn R R)<|Aa R R (Bs false R R R)<|J 2 R R R)<|Aa R R (Ai R)<|C5 R R R R (by simp)<|C5 R R R R (by simp)<|Aa R R (Bs true R (by simp) R)<|Ad tbk [] 7 R R<|Ac<|Bl R R<|Ag tbk [] R R<|?_
   obtain rfl:=Option.some.inj hm
   exact Bq ⟨.inl R,_,.cons (.tmp _ _ R) .nil,[2,3],_,R,bs3,bs4,R,R⟩
 ·rw [h106]
  refine Ad tbk [] 5 R R<|Ac<|Ae<|Bd hm fun r3 h21 hm=>Ab R R<|Aq 0 R fn38 R (K53 (1 : Int) r3 h21) fun _ _ h105=> ?_
  obtain ⟨b6,ob8,cap8,rfl,rfl⟩:=h105
  rcases po_or hm with ⟨h104,hm⟩ | ⟨x3,h104,hm⟩
  ·rw [h104]
   refine Ad tbk [] 5 R R<|Ac<|Af<|Ae<|Ad tbk [] 3 R R<|Cq tbk [] 3 33 30 R R R R R<|Aa R R (Ai R)<|C0 3 37 34 R (fun K' J=>Ad tbk [] 3 R R<|J 2 R R R) (fun h25 K' J=>Bk R R R R R (Ai R)<|Bk R R R R R (C2 Cn R R)<|Aa R R (Bs false R R R)<|J 2 R R R)<|Aa R R (Ai R)<|C0 3 41 38 R (fun K' J=>Ad tbk [] 3 R R<|J 2 R R R) (fun h26 K' J=>Bk R R R R R (Ai R)<|Bk R R R R R (C2 Da R R)<|Aa R R (Bs false R R R)<|J 2 R R R)<|Aa R R (Ai R)<|C5 R R R R (by simp)<|C5 R R R R (by simp)<|C5 R R R R (by simp)<|C5 R R R R (by simp)<|C5 R R R R (by simp)<|Aa R R (Bs true R (by simp) R)<|Ac<|Bl R R<|Ag tbk [] R R<|?_
   obtain rfl:=Option.some.inj hm
   exact Bq ⟨.inl R,_,.cons (.tmp _ _ R) .nil,[9,10],_,R,bs3,bs4,R,R⟩
  ·rw [h104]
   refine Ad tbk [] 5 R R<|Ac<|Af<|Ae<|Ad tbk [] 3 R R<|Cq tbk [] 3 33 30 R R R R R<|Aa R R (Ai R)<|C0 3 37 34 R (fun K' J=>Ad tbk [] 3 R R<|J 2 R R R) (fun h28 K' J=>Bk R R R R R (Ai R)<|Bk R R R R R (C2 Cn R R)<|Aa R R (Bs false R R R)<|J 2 R R R)<|Aa R R (Ai R)<|C0 3 41 38 R (fun K' J=>Ad tbk [] 3 R R<|J 2 R R R) (fun h29 K' J=>Bk R R R R R (Ai R)<|Bk R R R R R (C2 Da R R)<|Aa R R (Bs false R R R)<|J 2 R R R)<|Aa R R (Ai R)<|C0 6 48 42 R (fun K' J=>Ad tbk [] 6 R R<|J 5 R R R) (fun h30 K' J=>Ad tbk [2] 4 R R<|Bk R R R R R (C2 Dg R R)<|Aa R R (Bs false R R R)<|J 5 R R R)<|Ac<|Ao hm R (fun h31 hm=>?_) fun h31 hm=> ?_
   ·refine Ag tbk [] R R<|?_
    obtain rfl:=Option.some.inj hm
    exact Bq ⟨.inl R,_,.cons (.tmp _ _ R) .nil,[11,12],_,R,bs3,bs4,R,R⟩
   refine Al<|Ae<|Aa R R (Ai R)<|Aa R R (Bn pl23 R R)<|Aa R R (Bn pl29 R R)<|Bd hm fun r4 h32 hm=>Av (Ax [2,3,4,5,6,7,8,9,10,0,1,11,12] R)<|Ab R R<|VO.callN 9 [.same,.agg [none,none,none,none,none,none,some 232,some 232,some 189,some 191,some 3,some 232,none,some 232]] R fn12 R (K66 A0 A1 x.1 x.2 (⟨(⟨#[112]⟩ : ByteArray),(⟨(600 : Int),(0 : Int),(0 : Int),(1 : Int),(0 : Int)⟩ : T_api_Res),([] : List T_api_Label),([] : List T_api_Label),([] : List T_api_Term),([] : List T_api_Toleration),([] : List Int),([] : List T_api_Label),false,([] : List T_api_Label),(0 : Int),(0 : Int),(⟨#[115]⟩ : ByteArray),false,false,false⟩ : T_api_Pod) b2 ob3 cap3 ob4 cap4 ob5 cap5 ob6 cap6 b4 b3 ob cap ob2 cap2 r4 h32) fun _ _ h103=> ?_
   obtain ⟨ob9,cap9,ob10,cap10,ob11,cap11,ob12,cap12,b7,rfl,rfl⟩:=h103
   refine Ac<|Ae<|Ad tbk [0] 4 R R<|Bd hm fun r5 h33 hm=>Av (Ax [6,7,8,11,12,0,1,2,3,4,5,9,10] R)<|Ab R R<|Aq 5 R fn24 R (K69 A0 A1 x.2 (⟨#[103]⟩ : ByteArray) (1 : Int) r.2.2.1 r.2.2.2 b3 ob cap ob2 cap2 bs3 bs4 r5 h33) fun _ _ h102=> ?_
   obtain ⟨ob13,cap13,ob14,cap14,bs5,bs6,rfl,rfl⟩:=h102
   refine Ac<|Ae<|Aa R R (Ai R)<|Bd hm fun r6 h34 hm=>Av (Ax [5,6,7,8,9,10,0,1,2,3,4,11,12] R)<|Ab R R<|Aq 11 R fn11 R (K135 A0 A1 r4.2 r5.2.1 r5.2.2.1 r5.2.2.2 b2 ob9 cap9 ob10 cap10 ob11 cap11 ob12 cap12 b7 b3 ob13 cap13 ob14 cap14 bs5 bs6 r6 h34) fun _ _ h101=> ?_
   obtain ⟨ob15,cap15,ob16,cap16,ob17,cap17,ob18,cap18,b8,ob19,cap19,ob20,cap20,bs7,rfl,rfl⟩:=h101
   refine Ac<|Ae<|Ad tbk [] 2 R R<|Bd hm fun r7 h35 hm=>Av (Ax [11,12,0,1,2,3,4,5,6,7,8,9,10] R)<|Ab R R<|Aq 11 R fn39 R (K146 A0 A1 x3 r6.1 r6.2.1 (⟨#[103,45,49]⟩ : ByteArray) b6 ob8 cap8 b2 ob15 cap15 ob16 cap16 ob17 cap17 ob18 cap18 b8 b3 ob19 cap19 ob20 cap20 r7 h35) fun _ _ h100=> ?_
   obtain ⟨ob21,cap21,ob22,cap22,ob23,cap23,ob24,cap24,ob25,cap25,b9,rfl,rfl⟩:=h100
   refine Aa R R (Aj R)<|Ac<|Ae<|Ad tbk [] 2 R R<|Bd hm fun r8 h36 hm=>Ab R R<|Aq 11 R fn39 R (K146 A0 A1 r7.2.1 r7.2.2 r6.2.1 (⟨#[103,45,49]⟩ : ByteArray) b6 ob21 cap21 b2 ob22 cap22 ob23 cap23 ob24 cap24 ob25 cap25 b9 b3 ob19 cap19 ob20 cap20 r8 h36) fun _ _ h99=> ?_
   obtain ⟨ob26,cap26,ob27,cap27,ob28,cap28,ob29,cap29,ob30,cap30,b10,rfl,rfl⟩:=h99
   refine Aa R R (Aj R)<|Ac<|Ae<|Ad tbk [] 2 R R<|Bd hm fun r9 h37 hm=>Ab R R<|Aq 11 R fn39 R (K146 A0 A1 r8.2.1 r8.2.2 r6.2.1 (⟨#[120]⟩ : ByteArray) b6 ob26 cap26 b2 ob27 cap27 ob28 cap28 ob29 cap29 ob30 cap30 b10 b3 ob19 cap19 ob20 cap20 r9 h37) fun _ _ h98=> ?_
   obtain ⟨ob31,cap31,ob32,cap32,ob33,cap33,ob34,cap34,ob35,cap35,b11,rfl,rfl⟩:=h98
   refine Aa R R (Aj R)<|Ac<|Ae<|Ad tbk [] 2 R R<|Bd hm fun r10 h38 hm=>Ab R R<|Aq 13 R fn42 R (K165 A0 A1 r9.2.1 r9.2.2 r6.2.1 r5.2.2.1 r6.2.2 b6 ob31 cap31 b2 ob32 cap32 ob33 cap33 ob34 cap34 ob35 cap35 b11 b3 ob19 cap19 ob20 cap20 bs5 bs7 r10 h38) fun _ _ h97=> ?_
   obtain ⟨ob36,cap36,ob37,cap37,ob38,cap38,ob39,cap39,ob40,cap40,ob41,cap41,b12,ob42,cap42,ob43,cap43,bs8,bs9,rfl,rfl⟩:=h97
   refine Av (Az 0 [(71,L9 r10.1)] R ⟨⟨_,R,.here _ R⟩,trivial⟩ (FzH.refl _))<|Aa R R (Aj R)<|Ac<|Ae<|Aa R R (Ai R)<|Ab R R<|Ay hm 2 R fn47 R (K168 _ _ _ _) fun r11 hm=>Aa R R (Aj R)<|Ac<|Ae<|Aa R R (Ai R)<|Bd hm fun r12 h41 hm=>Av (Ax [2,3,4,5,6,7,8,9,10,11,12,0,1] R)<|Ab R R<|Aq 11 R fn11 R (K135 A0 A1 r10.2.2.1 r10.2.2.2.1 r10.2.2.2.2.1 r10.2.2.2.2.2 b2 ob38 cap38 ob39 cap39 ob40 cap40 ob41 cap41 b12 b3 ob42 cap42 ob43 cap43 bs8 bs9 r12 h41) fun _ _ h96=> ?_
   obtain ⟨ob44,cap44,ob45,cap45,ob46,cap46,ob47,cap47,b13,ob48,cap48,ob49,cap49,bs10,rfl,rfl⟩:=h96
   refine Ac<|Ae<|Ad tbk [] 2 R R<|Bd hm fun r13 h42 hm=>Av (Ax [11,12,0,1,2,3,4,5,6,7,8,9,10] R)<|Ab R R<|Aq 13 R fn42 R (K165 A0 A1 r10.2.1 r12.1 r12.2.1 r10.2.2.2.2.1 r12.2.2 b6 ob37 cap37 b2 ob44 cap44 ob45 cap45 ob46 cap46 ob47 cap47 b13 b3 ob48 cap48 ob49 cap49 bs8 bs10 r13 h42) fun _ _ h95=> ?_
   obtain ⟨ob50,cap50,ob51,cap51,ob52,cap52,ob53,cap53,ob54,cap54,ob55,cap55,b14,ob56,cap56,ob57,cap57,bs11,bs12,rfl,rfl⟩:=h95
   refine Av (Az 0 [(78,L9 r13.1)] R ⟨⟨_,R,.here _ R⟩,trivial⟩ (FzH.refl _))<|Aa R R (Aj R)<|Ac<|Ae<|Aa R R (Ai R)<|Av (Ax [2,3,4,5,6,7,8,9,10,0,1,11,12] R)<|Ab R R<|Cj hm 9 R fn20 R (K148 A0 A1 _ _ _ _ _ _ _ _ _ _ _ _ _ _ _ _ _) fun r14 ob58 cap58 hm=>Av (Az 0 [(80,L64 r14)] R ⟨⟨_,R,.here _ R⟩,trivial⟩ (FzH.refl _))<|Aa R R (Aj R)<|Ac<|Ae<|Bd hm fun r15 h46 hm=>Ab R R<|Aq 0 R fn38 R (K53 (-1 : Int) r15 h46) fun _ _ h94=> ?_
   obtain ⟨b15,ob59,cap59,rfl,rfl⟩:=h94
   rcases po_or hm with ⟨h93,hm⟩ | ⟨x4,h93,hm⟩
   ·rw [h93]
    refine Ad tbk [] 5 R R<|Ac<|Ae<|Ad tbk [] 3 R R<|Cu tbk [] 3 90 87 R R R R R<|Aa R R (Ai R)<|Cu tbk [] 3 94 91 R R R R R<|Aa R R (Ai R)<|Bx hm 4 99 95 R (fun _ K' h51 J hm=>Bk R R R R R (Ai R)<|Bh R R R R R<|A4 ap61 R R R R R fun b16=>Av (Az 0 [(97,L9 [(⟨#[101,118,105,99,116,32,112]⟩ : ByteArray),(⟨#[100,101,108,101,116,101,32,103,45,49]⟩ : ByteArray)])] R ⟨⟨_,R,.here _ R⟩,trivial⟩ (FzH.refl _))<|Bh R R R R R<|Ay hm 0 R fn51 R (K169 _ _) fun r16 hm=>Aa R R (Bs true R R R)<|J 4 R R (Bj hm)) (fun _ K' h51 J hm=>Ad tbk [] 4 R R<|J 3 R R (Bj hm)) fun c hm=>Aa R R (Ai R)<|Bx hm 4 104 100 R (fun _ K' h55 J hm=>Bk R R R R R (Ai R)<|Bh R R R R R<|A4 ap61 R R R R R fun b17=>Av (Az 0 [(102,L9 [(⟨#[103,45,49]⟩ : ByteArray)])] R ⟨⟨_,R,.here _ R⟩,trivial⟩ (FzH.refl _))<|Bh R R R R R<|Ay hm 0 R fn51 R (K169 _ _) fun r17 hm=>Aa R R (Bs true R R R)<|J 4 R R (Bj hm)) (fun _ K' h55 J hm=>Ad tbk [] 4 R R<|J 3 R R (Bj hm)) fun c2 hm=>Aa R R (Ai R)<|Bx hm 4 109 105 R (fun _ K' h59 J hm=>Bk R R R R R (Ai R)<|Bh R R R R R<|A4 ap61 R R R R R fun b18=>Av (Az 0 [(107,L9 [(⟨#[103,111,110,101,32,103,45,49]⟩ : ByteArray)])] R ⟨⟨_,R,.here _ R⟩,trivial⟩ (FzH.refl _))<|Bh R R R R R<|Ay hm 0 R fn51 R (K169 _ _) fun r18 hm=>Aa R R (Bs true R R R)<|J 4 R R (Bj hm)) (fun _ K' h59 J hm=>Ad tbk [] 4 R R<|J 3 R R (Bj hm)) fun c3 hm=>Aa R R (Ai R)<|Bx hm 5 115 110 R (fun _ K' h63 J hm=>Bk R R R R R (Ai R)<|Av (Ax [9,10,0,1,2,3,4,5,6,7,8,11,12] R)<|Bh R R R R R<|Ay hm 2 R fn41 R (K172 _ _ _ _) fun r19 hm=>Bk R R R R R (A7 VV.str R Bz)<|Ad tbk [] 2 R R<|Av (Ax [2,3,4,5,6,7,8,9,10,0,1,11,12] R)<|J 4 R R (Bj hm)) (fun _ K' h63 J hm=>Ad tbk [] 5 R R<|J 4 R R (Bj hm)) fun c4 hm=>Aa R R (Ai R)<|D0 4 120 116 R (fun h66 K' J=>Bk R R R R R (Ai R)<|Bk R R R R R (A7 T_api_Bound.vv R B6)<|Ad tbk [] 2 R R<|J 3 R R R) (fun K' J=>Ad tbk [] 4 R R<|J 3 R R R)<|Aa R R (Ai R)<|Bx hm 6 127 121 R (fun _ K' h67 J hm=>Bk R R R R R (Ai R)<|Bd hm fun x5 h68 hm=>Bk R R R R R (Bw T_api_Bound.vv R R el40 h68)<|Ad tbk [] 4 R R<|J 5 R R (Bj hm)) (fun _ K' h67 J hm=>Ad tbk [] 6 R R<|J 5 R R (Bj hm)) fun c5 hm=>Aa R R (Ai R)<|Cu tbk [] 3 131 128 R R R R R<|?_
    refine Aa R R (Ai R)<|Aa R R (VP.pickU VV.bool R R R)<|Aa R R (Aj R)<|Ac<|?_
    obtain rfl:=Option.some.inj hm
    exact Bq ⟨.inl R,_,.cons (.tmp _ _ R) .nil,[11,12],_,R,bs11,bs12,R,R⟩
   ·rw [h93]
    refine Ad tbk [] 5 R R<|Ac<|Ae<|Ad tbk [] 3 R R<|Cu tbk [] 3 90 87 R R R R R<|Aa R R (Ai R)<|Cu tbk [] 3 94 91 R R R R R<|Aa R R (Ai R)<|Bx hm 4 99 95 R (fun _ K' h73 J hm=>Bk R R R R R (Ai R)<|Bh R R R R R<|A4 ap61 R R R R R fun b19=>Av (Az 0 [(97,L9 [(⟨#[101,118,105,99,116,32,112]⟩ : ByteArray),(⟨#[100,101,108,101,116,101,32,103,45,49]⟩ : ByteArray)])] R ⟨⟨_,R,.here _ R⟩,trivial⟩ (FzH.refl _))<|Bh R R R R R<|Ay hm 0 R fn51 R (K169 _ _) fun r20 hm=>Aa R R (Bs true R R R)<|J 4 R R (Bj hm)) (fun _ K' h73 J hm=>Ad tbk [] 4 R R<|J 3 R R (Bj hm)) fun c6 hm=>Aa R R (Ai R)<|Bx hm 4 104 100 R (fun _ K' h77 J hm=>Bk R R R R R (Ai R)<|Bh R R R R R<|A4 ap61 R R R R R fun b20=>Av (Az 0 [(102,L9 [(⟨#[103,45,49]⟩ : ByteArray)])] R ⟨⟨_,R,.here _ R⟩,trivial⟩ (FzH.refl _))<|Bh R R R R R<|Ay hm 0 R fn51 R (K169 _ _) fun r21 hm=>Aa R R (Bs true R R R)<|J 4 R R (Bj hm)) (fun _ K' h77 J hm=>Ad tbk [] 4 R R<|J 3 R R (Bj hm)) fun c7 hm=>Aa R R (Ai R)<|Bx hm 4 109 105 R (fun _ K' h81 J hm=>Bk R R R R R (Ai R)<|Bh R R R R R<|A4 ap61 R R R R R fun b21=>Av (Az 0 [(107,L9 [(⟨#[103,111,110,101,32,103,45,49]⟩ : ByteArray)])] R ⟨⟨_,R,.here _ R⟩,trivial⟩ (FzH.refl _))<|Bh R R R R R<|Ay hm 0 R fn51 R (K169 _ _) fun r22 hm=>Aa R R (Bs true R R R)<|J 4 R R (Bj hm)) (fun _ K' h81 J hm=>Ad tbk [] 4 R R<|J 3 R R (Bj hm)) fun c8 hm=>Aa R R (Ai R)<|Bx hm 5 115 110 R (fun _ K' h85 J hm=>Bk R R R R R (Ai R)<|Av (Ax [11,12,0,1,2,3,4,5,6,7,8,9,10,13,14] R)<|Bh R R R R R<|Ay hm 2 R fn41 R (K172 _ _ _ _) fun r23 hm=>Bk R R R R R (A7 VV.str R Bz)<|Ad tbk [] 2 R R<|Av (Ax [2,3,4,5,6,7,8,9,10,11,12,0,1,13,14] R)<|J 4 R R (Bj hm)) (fun _ K' h85 J hm=>Ad tbk [] 5 R R<|J 4 R R (Bj hm)) fun c9 hm=>Aa R R (Ai R)<|D0 4 120 116 R (fun h88 K' J=>Bk R R R R R (Ai R)<|Bk R R R R R (A7 T_api_Bound.vv R B6)<|Ad tbk [] 2 R R<|J 3 R R R) (fun K' J=>Ad tbk [] 4 R R<|J 3 R R R)<|Aa R R (Ai R)<|Bx hm 6 127 121 R (fun _ K' h89 J hm=>Bk R R R R R (Ai R)<|Bd hm fun x6 h90 hm=>Bk R R R R R (Bw T_api_Bound.vv R R el40 h90)<|Ad tbk [] 4 R R<|J 5 R R (Bj hm)) (fun _ K' h89 J hm=>Ad tbk [] 6 R R<|J 5 R R (Bj hm)) fun c10 hm=>Aa R R (Ai R)<|?_
    refine Cu tbk [] 3 131 128 R R R R R<|Aa R R (Ai R)<|Aa R R (VP.pickU VV.bool R R R)<|Aa R R (Aj R)<|Ac<|?_
    obtain rfl:=Option.some.inj hm
    exact Bq ⟨.inl R,_,.cons (.tmp _ _ R) .nil,[13,14],_,R,bs11,bs12,R,R⟩

/-! trireme/triremeref05.LightTerm -/
def ref05_LightTerm.l1 (t : T_api_Term) : Nat → Int → Option (Out Bool Unit)
 | 0, _ => none
 | n + 1, i2 =>
  if (decide (i2 < (t.Vals.length : Int))) = true then
   (V.gl t.Vals i2).bind fun x =>
   if (decide ((x.size : Int) > 300)) = true then
    some (Out.ret false)
   else
    ref05_LightTerm.l1 t n (i64.wrap (i2 + 1))
  else
   some (Out.go ())
def ref05_LightTerm (t : T_api_Term) : Option Bool :=
 if ((decide ((t.Vals.length : Int) > 40)) || (decide ((t.Key.size : Int) > 300))) = true then
  some false
 else
  (ref05_LightTerm.l1 t FU (0 : Int)).bind fun o =>
  o.on fun j =>
  some true
theorem K174 (t : T_api_Term) : VS Tryz.prog 122 (ref05_LightTerm t) [T_api_Term.vv t] [] .bool N0 := by
 refine A8 [.tmp 2] Tryz.func122 R R R fun r hm=>?_
 unfold ref05_LightTerm at hm
 refine Ae<|Ab R R<|Bg R R fun b=>Aa R R (Aj R)<|Ac<|Af<|Ae<|Ad tbk [0] 2 R R<|Aa R R (A7 VV.str R Bz)<|Ad tbk [] 2 R R<|C0 5 13 8 R (fun K' J=>Ad tbk [] 5 R R<|J 4 R R R) (fun h2 K' J=>Ad tbk [0] 2 R R<|Bk R R R R R (Ci R Bc)<|Ad tbk [] 2 R R<|J 4 R R R)<|Ac<|Ao hm R (fun h3 hm=>Ag tbk [] R R<|Rt1 hm R [] R R R) fun h3 hm=>Al<|Af<|Ag tbk [] R R<|B5 hm (fun _ (_:Unit)=>[]) (fun _ (_:Unit)=>[]) (fun o hm h5=>?_) fun j _ hm=> ?_
 ·refine Ca (fun zn (zs:Int)=>ref05_LightTerm.l1 t zn zs) (fun zs (_:Unit)=>[(1,.ptr b 0),(3,Iw zs)]) (fun _ (_:Unit)=>[X189 b t]) _ () (fun _=>R) hm (Ah [0] R R) fun n i2 _ hm=> ?_
  rw [ref05_LightTerm.l1] at hm
  exact Af<|Ae<|Ad tbk [0] 3 R R<|Aa R R (A7 VV.str R Bz)<|Aa R R (Br R R R)<|Ac<|Ao hm R (fun h6 hm=>Al<|Af<|Aw<|Ae<|Ad tbk [0] 3 R R<|Bd hm fun x h7 hm=>Aa R R (Bw VV.str R R el61 h7)<|Aa R R (Bt R ld9 R)<|Aa R R (Ci R Bc)<|Aa R R (Br R R R)<|Ac<|Ao hm R (fun h8 hm=>Ag tbk [] R R<|have hm:=Lr hm h5;Rt1 hm R [] R R R) fun h8 hm=>Al<|Ba tbk [] R R<|Ap _ () hm (Ah [0] R R)) fun h6 hm=>A6<|Ar () hm (Ah [] R R)
 exact Ag tbk [] R R<|Rt1 hm R [] R R R

/-! trireme/triremeref07.LightPod -/
def ref07_LightPod.l1 (p : T_api_Pod) : Nat → Int → Option (Out Bool Unit)
 | 0, _ => none
 | n + 1, i2 =>
  if (decide (i2 < (p.Terms.length : Int))) = true then
   (V.gl p.Terms i2).bind fun x =>
   (ref05_LightTerm x).bind fun r6 =>
   if (!r6) = true then
    some (Out.ret false)
   else
    ref07_LightPod.l1 p n (i64.wrap (i2 + 1))
  else
   some (Out.go ())
def ref07_LightPod (p : T_api_Pod) : Option Bool :=
 (if ((((decide ((p.Name.size : Int) > 300)) || (decide ((p.Owner.size : Int) > 300))) || (decide ((p.Terms.length : Int) > 30))) || (decide ((p.Ports.length : Int) > 30))) = true then some true else (ref05_Light p.Labels).bind fun r =>
 some (!r)).bind fun c =>
 (if c = true then some true else (ref05_Light p.Select).bind fun r2 =>
 some (!r2)).bind fun c2 =>
 (if c2 = true then some true else (ref05_Light p.Apart).bind fun r3 =>
 some (!r3)).bind fun c3 =>
 (if c3 = true then some true else (ref05_Light p.Spread).bind fun r4 =>
 some (!r4)).bind fun c4 =>
 (if c4 = true then some true else (ref06_Light p.Bears ([] : List T_api_Taint)).bind fun r5 =>
 some (!r5)).bind fun c5 =>
 if c5 = true then
  some false
 else
  (ref07_LightPod.l1 p FU (0 : Int)).bind fun o =>
  o.on fun j =>
  some true
theorem K175 (p : T_api_Pod) : VS Tryz.prog 56 (ref07_LightPod p) [T_api_Pod.vv p] [] .bool N0 := by
 refine A8 [.tmp 2] Tryz.func56 R R R fun r hm=>?_
 unfold ref07_LightPod at hm
 refine Ae<|Ab R R<|Bg R R fun b=>Aa R R (Aj R)<|Ac<|Af<|Ae<|Ad tbk [0] 2 R R<|Aa R R (Ci R Bc)<|Ad tbk [] 2 R R<|C0 5 13 8 R (fun K' J=>Ad tbk [] 5 R R<|J 4 R R R) (fun h2 K' J=>Ad tbk [0] 2 R R<|Bk R R R R R (Ci R Bc)<|Ad tbk [] 2 R R<|J 4 R R R)<|Aa R R (Ai R)<|C0 5 19 14 R (fun K' J=>Ad tbk [] 5 R R<|J 4 R R R) (fun h3 K' J=>Ad tbk [0] 2 R R<|Bk R R R R R (A7 T_api_Term.vv R C6)<|Ad tbk [] 2 R R<|J 4 R R R)<|Aa R R (Ai R)<|C0 5 25 20 R (fun K' J=>Ad tbk [] 5 R R<|J 4 R R R) (fun h4 K' J=>Ad tbk [0] 2 R R<|Bk R R R R R (A7 (VV.int .i64) R Co)<|Ad tbk [] 2 R R<|J 4 R R R)<|Aa R R (Ai R)<|Bx hm 5 31 26 R (fun _ K' h5 J hm=>Ad tbk [] 5 R R<|J 4 R R (Bj hm)) (fun _ K' h5 J hm=>Ad tbk [0] 2 R R<|Bh R R R R R<|Ay hm 0 R fn121 R (K5 _) fun r hm=>Ad tbk [] 2 R R<|J 4 R R (Bj hm)) fun c hm=>Aa R R (Ai R)<|Bx hm 5 37 32 R (fun _ K' h8 J hm=>Ad tbk [] 5 R R<|J 4 R R (Bj hm)) (fun _ K' h8 J hm=>Ad tbk [0] 2 R R<|Bh R R R R R<|Ay hm 0 R fn121 R (K5 _) fun r2 hm=>Ad tbk [] 2 R R<|J 4 R R (Bj hm)) fun c2 hm=>Aa R R (Ai R)<|Bx hm 5 43 38 R (fun _ K' h11 J hm=>Ad tbk [] 5 R R<|J 4 R R (Bj hm)) (fun _ K' h11 J hm=>Ad tbk [0] 2 R R<|Bh R R R R R<|Ay hm 0 R fn121 R (K5 _) fun r3 hm=>Ad tbk [] 2 R R<|J 4 R R (Bj hm)) fun c3 hm=>Aa R R (Ai R)<|Bx hm 5 49 44 R (fun _ K' h14 J hm=>Ad tbk [] 5 R R<|J 4 R R (Bj hm)) (fun _ K' h14 J hm=>Ad tbk [0] 2 R R<|Bh R R R R R<|Ay hm 0 R fn121 R (K5 _) fun r4 hm=>Ad tbk [] 2 R R<|J 4 R R (Bj hm)) fun c4 hm=>Aa R R (Ai R)<|Bx hm 5 55 50 R (fun _ K' h17 J hm=>Ad tbk [] 5 R R<|J 4 R R (Bj hm)) (fun _ K' h17 J hm=>Ad tbk [0] 2 R R<|Bh R R R R R<|VO.cn hm 0 [.same,.nil 31] R fn57 R (K6 _ _) fun r5 hm=>Ad tbk [] 2 R R<|J 4 R R (Bj hm)) fun c5 hm=>Ac<|Ao hm R (fun h20 hm=>Ag tbk [] R R<|Rt1 hm R [] R R R) fun h20 hm=>Al<|Af<|Ag tbk [] R R<|B5 hm (fun _ (_:Unit)=>[]) (fun _ (_:Unit)=>[]) (fun o hm h22=>?_) fun j _ hm=> ?_
 ·refine Ca (fun zn (zs:Int)=>ref07_LightPod.l1 p zn zs) (fun zs (_:Unit)=>[(1,.ptr b 0),(3,Iw zs)]) (fun _ (_:Unit)=>[X29 b p]) _ () (fun _=>R) hm (Ah [0] R R) fun n i2 _ hm=> ?_
  rw [ref07_LightPod.l1] at hm
  exact Af<|Ae<|Ad tbk [0] 3 R R<|Aa R R (A7 T_api_Term.vv R C6)<|Aa R R (Br R R R)<|Ac<|Ao hm R (fun h23 hm=>Al<|Af<|Aw<|Ae<|Ad tbk [0] 3 R R<|Bd hm fun x h24 hm=>Aa R R (Bw T_api_Term.vv R R el25 h24)<|Aa R R (Bt R ld189 R)<|Ab R R<|Ay hm 0 R fn122 R (K174 _) fun r6 hm=>Aa R R (Cp R)<|Ac<|Ao hm R (fun h26 hm=>Ag tbk [] R R<|have hm:=Lr hm h22;Rt1 hm R [] R R R) fun h26 hm=>Al<|Ba tbk [] R R<|Ap _ () hm (Ah [0] R R)) fun h23 hm=>A6<|Ar () hm (Ah [] R R)
 exact Ag tbk [] R R<|Rt1 hm R [] R R R

/-! (trireme/triremelaw18.Op).Light -/
def law18_Op_Light (o : T_law18_Op) : Option Bool :=
 (ref07_LightPod o.P_).bind fun r =>
 (if (r && (decide ((o.Name.size : Int) ≤ 300))) = true then (ref06_Light ([] : List T_api_Toleration) [o.X]).bind fun r2 =>
 some r2 else some false).bind fun c =>
 some c
theorem law18_Op_Light_ok (o : T_law18_Op) : VS Tryz.prog 9 (law18_Op_Light o) [T_law18_Op.vv o] [] .bool N0 := by
 refine A8 [.tmp 2] Tryz.func9 R R R fun r hm=>?_
 unfold law18_Op_Light at hm
 exact Ae<|Ab R R<|Bg R R fun b=>Aa R R (Aj R)<|Ac<|Ae<|Ad tbk [0] 2 R R<|Ab R R<|Ay hm 0 R fn56 R (K175 _) fun r hm=>Aa R R (Ai R)<|D0 5 11 6 R (fun h3 K' J=>Ad tbk [0] 2 R R<|Bk R R R R R (Ci R Bc)<|Ad tbk [] 2 R R<|J 4 R R R) (fun K' J=>Ad tbk [] 5 R R<|J 4 R R R)<|Aa R R (Ai R)<|Bx hm 5 17 12 R (fun _ K' h4 J hm=>Ad tbk [0] 2 R R<|Bh R R R R R<|A4 ap66 R R R R R fun b2=>Av (Az 0 [(15,L31 [o.X])] R ⟨⟨_,R,.here _ R⟩,trivial⟩ (FzH.refl _))<|Bh R R R R R<|VO.cn hm 0 [.nil 191,.same] R fn57 R (K6 _ _) fun r2 hm=>Aa R R (Bs true R R R)<|J 5 R R (Bj hm)) (fun _ K' h4 J hm=>Ad tbk [] 5 R R<|J 4 R R (Bj hm)) fun c hm=>Aa R R (Aj R)<|Ac<|Rt1 hm R [] R R R

/-! (*trireme/world.World).Ready$1 -/
def world_World_Ready_1 (m : T_api_Machine) (a : Bool) : Option (Int × T_api_Machine) :=
 some (0, (⟨m.Name, m.Group, m.Has, m.Labels, m.Taints, a⟩ : T_api_Machine))
theorem K176 (m : T_api_Machine) (a : Bool) (b : Nat) (b2 : Nat) : VS Tryz.prog 70 (world_World_Ready_1 m a) [.ptr b 0, .ptr b2 0] [X68 b m, .box b2 4 [.bool a]] (fun r=>Iw r.1) (fun r=>[X68 b r.2, .box b2 4 [.bool a]]) := by
 refine A8 [.tmp 3] Tryz.func70 R R R fun r hm=>?_
 unfold world_World_Ready_1 at hm
 exact Ag tbk [] R R<|Ae<|Ad tbk [1] 4 R R<|Ab R R<|Ak (i:=0) R R R ld4 R R R<|Ac<|Ag tbk [] R R<|Rt1 hm R [0,1] R R R

/-! (*trireme/world.World).on -/
def world_World_on_world_World_Ready_1 (w : T_world_World) (c : T_cloud_Cloud) (name : ByteArray) (c2 : Bool) : Option (Int × T_world_World) :=
 (world_World_there w c).bind fun r =>
 (yard_Find w.ms name).bind fun r2 =>
 if (decide (r2 < 0)) = true then
  some (16, w)
 else
  (V.gl w.ms r2).bind fun x =>
  (world_World_Ready_1 x c2).bind fun r3 =>
  if (r3.1 == 0) = true then
   (V.gl w.ms r2).bind fun x2 =>
   some (r3.1, (⟨(), w.groups, w.budgets, (List.set w.ms (r2).toNat r3.2), w.bs, w.held⟩ : T_world_World))
  else
   some (r3.1, w)
theorem K177 (A0 A1 : Nat) (w : T_world_World) (c : T_cloud_Cloud) (name : ByteArray) (c2 : Bool) (b : Nat) (ob : Option Nat) (cap : Nat) (ob2 : Option Nat) (cap2 : Nat) (ob3 : Option Nat) (cap3 : Nat) (ob4 : Option Nat) (cap4 : Nat) (b2 : Nat) (b3 : Nat) (ob5 : Option Nat) (cap5 : Nat) (ob6 : Option Nat) (cap6 : Nat) (b4 : Nat) : ∀ r : Int × T_world_World, world_World_on_world_World_Ready_1 w c name c2 = some r → VC Tryz.prog 69 [.ptr b 0, .str name, .clo (.func 70) [] [.ptr b4 0]] [.box b 43 [.ptr b3 0, Z139 ob w.groups cap, Z103 ob2 w.budgets cap2, Z68 ob3 w.ms cap3, Z64 ob4 w.bs cap4, .map b2], Q139 ob cap w.groups, Q103 ob2 cap2 w.budgets, Q68 ob3 cap3 w.ms, Q64 ob4 cap4 w.bs, .map b2 (List.map (pf VV.str (VV.int .i64)) w.held), .box b3 149 [Z140 A0 A1 ob5 c.pools cap5, Z152 A0 A1 ob6 c.insts cap6, Iw c.delay, Iw c.now, Iw c.calls], Q140 A0 A1 ob5 cap5 c.pools, Q152 A0 A1 ob6 cap6 c.insts, .box b4 4 [.bool c2]] fun zx zH => ∃ (ob0_1 : Option Nat) (cap0_1 : Nat) (ob0_2 : Option Nat) (cap0_2 : Nat) (ob0_3 : Option Nat) (cap0_3 : Nat) (ob0_4 : Option Nat) (cap0_4 : Nat) (b0_5 : Nat), zx = Iw r.1 ∧ zH = [.box b 43 [.ptr b3 0, Z139 ob0_1 r.2.groups cap0_1, Z103 ob0_2 r.2.budgets cap0_2, Z68 ob0_3 r.2.ms cap0_3, Z64 ob0_4 r.2.bs cap0_4, .map b0_5], Q139 ob0_1 cap0_1 r.2.groups, Q103 ob0_2 cap0_2 r.2.budgets, Q68 ob0_3 cap0_3 r.2.ms, Q64 ob0_4 cap0_4 r.2.bs, .map b0_5 (List.map (pf VV.str (VV.int .i64)) r.2.held), .box b3 149 [Z140 A0 A1 ob5 c.pools cap5, Z152 A0 A1 ob6 c.insts cap6, Iw c.delay, Iw c.now, Iw c.calls], Q140 A0 A1 ob5 cap5 c.pools, Q152 A0 A1 ob6 cap6 c.insts, .box b4 4 [.bool c2]] := by
 refine Cl [.tmp 6] D8 R R R fun r hm=>?_
 unfold world_World_on_world_World_Ready_1 at hm
 refine Ag tbk [] R R<|Af<|Ae<|Aa R R (Ai R)<|Bd hm fun r h1 hm=>Ab R R<|Aq 9 R fn60 R (K54 A0 A1 w c b ob cap ob2 cap2 ob3 cap3 ob4 cap4 b2 b3 ob5 cap5 ob6 cap6 r h1) fun _ _ h10=> ?_
 obtain ⟨rfl,rfl⟩:=h10
 refine Aa R R (Cp R)<|Ac<|Bm R (congrArg not (Option.some.inj (show some true = some r from h1)).symm)<|Al<|Ae<|Ad tbk [0] 5 R R<|Ab R R<|Dn hm (Az (H':=[.box b 43 [.ptr b3 0,Z139 ob w.groups cap,Z103 ob2 w.budgets cap2,L68 w.ms,Z64 ob4 w.bs cap4,.map b2],Q139 ob cap w.groups,Q103 ob2 cap2 w.budgets,Q64 ob4 cap4 w.bs,.map b2 (List.map (pf VV.str (VV.int .i64)) w.held),.box b3 149 [Z140 A0 A1 ob5 c.pools cap5,Z152 A0 A1 ob6 c.insts cap6,Iw c.delay,Iw c.now,Iw c.calls],Q140 A0 A1 ob5 cap5 c.pools,Q152 A0 A1 ob6 cap6 c.insts,.box b4 4 [.bool c2]]) 3 [(16,L68 w.ms)] R ⟨⟨_,R,.here _ R⟩,trivial⟩ (by exact ⟨.box _ _ _ _ ⟨.same _,.same _,.same _,.here _ R,.same _,.same _,trivial⟩,.same _,.same _,.same _,.same _,.same _,.same _,.same _,.same _,trivial⟩)) [.same,.same] R fn72 R (K49 _ _) (fun _=>R) (fun _=>R) fun r2 hm=>Aa R R (Aj R)<|Ac<|Af<|Ag tbk [] R R<|Ao hm R (fun h3 hm=>?_) fun h3 hm=> ?_
 ·refine Ag tbk [] R R<|?_
  obtain rfl:=Option.some.inj hm
  exact Bq ⟨.inl R,_,.cons (.tmp _ _ R) .nil,[0,1,2,3,4,5,6,7,8,9],_,R,ob,cap,ob2,cap2,ob3,cap3,ob4,cap4,b2,R,R⟩
 refine Al<|Ae<|Ad tbk [0] 5 R R<|Bd hm fun x h4 hm=>Cg 3 R (gl_pos T_api_Machine.vv h4) fun b5 h5=> ?_
 subst h5
 refine Aa R R (Cm T_api_Machine.vv R R el39 h4)<|Aa R R (Ce (i:=3) (y:=T_api_Machine.vv x) R R R (gl_map _ (gl_some h4).2) ld68 R)<|Ab R R<|Au z68 fun b6=>Ab R R<|Ak (i:=0) R R R ld68 R R R<|Ac<|Ae<|Aa R R (Ai R)<|Av (Ax [0,10,1,2,3,4,5,6,7,8,9] R)<|Ab R R<|Ay hm 2 R fn70 R (K176 _ _ _ _) fun r3 hm=>Aa R R (Aj R)<|Ac<|Af<|Ag tbk [] R R<|Ao hm R (fun h8 hm=>?_) fun h8 hm=> ?_
 ·refine Bu (Ax [2,5,0,1,3,4,6,7,8,9,10] R)<|Bi 2 mixed<|A9 tbk [0,1,2,4,5] [0] (by kernel_rfl) R R R<|Am 3 (by kernel_rfl)<|An R R R<|B7 (B0 (i:=0) R R ld39 R)<|Bd hm fun x2 h9 hm=>Bb 6 R R R (by kernel_rfl) (Cm T_api_Machine.vv R R el39 h9)<|Am 7 (by kernel_rfl)<|An R R R<|Ds 1 (f:=T_api_Machine.vv) (l:=w.ms) (q:=x2) (q':=r3.2) R R R R h9 ld68 R R R R ⟨R,List.all_eq_true.1 R⟩<|Cs (Shift.cst (F:=fun zv=>[.box b 43 [.ptr b3 0,Z139 ob w.groups cap,Z103 ob2 w.budgets cap2,zv,Z64 ob4 w.bs cap4,.map b2],Q68 (some b5) cap3 (List.set w.ms (r2).toNat r3.2)]) (congrArg (fun zn=>VV.sl (some b5) zn cap3) (len_set T_api_Machine.vv w.ms (r2).toNat r3.2)))<|Cs (Cr 16 (List.map T_api_Machine.vv (List.set w.ms (r2).toNat r3.2)).length R (len_set _ _ _ _))<|Cs (Cr 24 (List.map T_api_Machine.vv (List.set w.ms (r2).toNat r3.2)).length R (len_set _ _ _ _))<|Cs (Cr 35 (List.map T_api_Machine.vv (List.set w.ms (r2).toNat r3.2)).length R (len_set _ _ _ _))<|A5 (by kernel_rfl)<|Ag tbk [] R R<|?_
  obtain rfl:=Option.some.inj hm
  exact Bq ⟨.inl R,_,.cons (.tmp _ _ R) .nil,[0,4,5,1,6,7,8,9,10,3],_,R,ob,cap,ob2,cap2,(some b5),cap3,ob4,cap4,b2,R,R⟩
 refine Al<|Ag tbk [] R R<|?_
 obtain rfl:=Option.some.inj hm
 exact Bq ⟨.inl R,_,.cons (.tmp _ _ R) .nil,[2,3,4,5,6,7,8,9,10,1],_,R,ob,cap,ob2,cap2,(some b5),cap3,ob4,cap4,b2,R,R⟩

/-! (*trireme/world.World).Ready -/
def world_World_Ready (w : T_world_World) (c : T_cloud_Cloud) (name : ByteArray) (is : Bool) : Option (Int × T_world_World) :=
 (world_World_on_world_World_Ready_1 w c name is).bind fun r =>
 some (r.1, r.2)
theorem K178 (A0 A1 : Nat) (w : T_world_World) (c : T_cloud_Cloud) (name : ByteArray) (is : Bool) (b : Nat) (ob : Option Nat) (cap : Nat) (ob2 : Option Nat) (cap2 : Nat) (ob3 : Option Nat) (cap3 : Nat) (ob4 : Option Nat) (cap4 : Nat) (b2 : Nat) (b3 : Nat) (ob5 : Option Nat) (cap5 : Nat) (ob6 : Option Nat) (cap6 : Nat) : ∀ r : Int × T_world_World, world_World_Ready w c name is = some r → VC Tryz.prog 14 [.ptr b 0, .str name, .bool is] [.box b 43 [.ptr b3 0, Z139 ob w.groups cap, Z103 ob2 w.budgets cap2, Z68 ob3 w.ms cap3, Z64 ob4 w.bs cap4, .map b2], Q139 ob cap w.groups, Q103 ob2 cap2 w.budgets, Q68 ob3 cap3 w.ms, Q64 ob4 cap4 w.bs, .map b2 (List.map (pf VV.str (VV.int .i64)) w.held), .box b3 149 [Z140 A0 A1 ob5 c.pools cap5, Z152 A0 A1 ob6 c.insts cap6, Iw c.delay, Iw c.now, Iw c.calls], Q140 A0 A1 ob5 cap5 c.pools, Q152 A0 A1 ob6 cap6 c.insts] fun zx zH => ∃ (ob0_1 : Option Nat) (cap0_1 : Nat) (ob0_2 : Option Nat) (cap0_2 : Nat) (ob0_3 : Option Nat) (cap0_3 : Nat) (ob0_4 : Option Nat) (cap0_4 : Nat) (b0_5 : Nat), zx = Iw r.1 ∧ zH = [.box b 43 [.ptr b3 0, Z139 ob0_1 r.2.groups cap0_1, Z103 ob0_2 r.2.budgets cap0_2, Z68 ob0_3 r.2.ms cap0_3, Z64 ob0_4 r.2.bs cap0_4, .map b0_5], Q139 ob0_1 cap0_1 r.2.groups, Q103 ob0_2 cap0_2 r.2.budgets, Q68 ob0_3 cap0_3 r.2.ms, Q64 ob0_4 cap0_4 r.2.bs, .map b0_5 (List.map (pf VV.str (VV.int .i64)) r.2.held), .box b3 149 [Z140 A0 A1 ob5 c.pools cap5, Z152 A0 A1 ob6 c.insts cap6, Iw c.delay, Iw c.now, Iw c.calls], Q140 A0 A1 ob5 cap5 c.pools, Q152 A0 A1 ob6 cap6 c.insts] := by
 refine Cl [.tmp 6] Tryz.func14 R R R fun r hm=>?_
 unfold world_World_Ready at hm
 refine Ae<|Ab R R<|Bg R R fun b4=>Aa R R (Aj R)<|Ac<|Ae<|Ad tbk [] 2 R R<|Aa R R (Ct R R)<|Bd hm fun r h2 hm=>Av (Ax [1,2,3,4,5,6,7,8,9,0] R)<|Ab R R<|Aq 10 R fn69 R (K177 A0 A1 w c name is b ob cap ob2 cap2 ob3 cap3 ob4 cap4 b2 b3 ob5 cap5 ob6 cap6 b4 r h2) fun _ _ h3=> ?_
 obtain ⟨ob7,cap7,ob8,cap8,ob9,cap9,ob10,cap10,b5,rfl,rfl⟩:=h3
 refine Aa R R (Aj R)<|Ac<|?_
 obtain rfl:=Option.some.inj hm
 exact Bq ⟨.inl R,_,.cons (.tmp _ _ R) .nil,[0,1,2,3,4,5,6,7,8],_,R,ob7,cap7,ob8,cap8,ob9,cap9,ob10,cap10,b5,R,R⟩

/-! trireme/triremelaw28.acts -/
def law28_acts (w : T_world_World) (c : T_cloud_Cloud) (o : T_law18_Op) (pools : List T_cloud_pool) (insts : List T_cloud_inst) : Option (T_world_World × T_cloud_Cloud × List T_cloud_pool × List T_cloud_inst) :=
 if (o.Kind == 0) = true then
  (world_World_AddPod w c o.P_).bind fun r =>
  some (r.2, c, pools, insts)
 else
  if (o.Kind == 2) = true then
   (world_World_Ready w c o.Name o.Is).bind fun r2 =>
   some (r2.2, c, pools, insts)
  else
   if (o.Kind == 4) = true then
    (world_World_Taint w c o.Name o.X).bind fun r3 =>
    some (r3.2, c, pools, insts)
   else
    if (o.Kind == 8) = true then
     (cloud_Cloud_Increase c o.Name o.N_ pools insts).bind fun r4 =>
     some (w, r4.2.1, r4.2.2.1, r4.2.2.2)
    else
     if (o.Kind == 9) = true then
      (cloud_Cloud_Delete c o.Name pools insts).bind fun r5 =>
      some (w, r5.2.1, r5.2.2.1, r5.2.2.2)
     else
      (world_World_Pass w c pools insts).bind fun r6 =>
      some (r6.1, r6.2.1, pools, r6.2.2)
theorem K179 (A0 A1 : Nat) (w : T_world_World) (c : T_cloud_Cloud) (o : T_law18_Op) (pools : List T_cloud_pool) (insts : List T_cloud_inst) (b : Nat) (ob : Option Nat) (cap : Nat) (ob2 : Option Nat) (cap2 : Nat) (ob3 : Option Nat) (cap3 : Nat) (ob4 : Option Nat) (cap4 : Nat) (b2 : Nat) (b3 : Nat) (ob5 : Option Nat) (cap5 : Nat) (ob6 : Option Nat) (cap6 : Nat) (bs : List Nat) (bs2 : List Nat) : ∀ r : T_world_World × T_cloud_Cloud × List T_cloud_pool × List T_cloud_inst, law28_acts w c o pools insts = some r → VC Tryz.prog 40 [.ptr b 0, T_law18_Op.vv o] [.box b 43 [.ptr b3 0, Z139 ob w.groups cap, Z103 ob2 w.budgets cap2, Z68 ob3 w.ms cap3, Z64 ob4 w.bs cap4, .map b2], Q139 ob cap w.groups, Q103 ob2 cap2 w.budgets, Q68 ob3 cap3 w.ms, Q64 ob4 cap4 w.bs, .map b2 (List.map (pf VV.str (VV.int .i64)) w.held), .box b3 149 [Z140 A0 A1 ob5 c.pools cap5, Z152 A0 A1 ob6 c.insts cap6, Iw c.delay, Iw c.now, Iw c.calls], Q140 A0 A1 ob5 cap5 c.pools, Q152 A0 A1 ob6 cap6 c.insts, .ar A0 144 bs (List.map T_cloud_pool.cells pools), .ar A1 157 bs2 (List.map (T_cloud_inst.cells A0 A1) insts)] fun zx zH => ∃ (ob0_1 : Option Nat) (cap0_1 : Nat) (ob0_2 : Option Nat) (cap0_2 : Nat) (ob0_3 : Option Nat) (cap0_3 : Nat) (ob0_4 : Option Nat) (cap0_4 : Nat) (b0_5 : Nat) (ob1_0 : Option Nat) (cap1_0 : Nat) (ob1_1 : Option Nat) (cap1_1 : Nat) (bs_2 : List Nat) (bs_3 : List Nat), zx = .tup [] ∧ zH = [.box b 43 [.ptr b3 0, Z139 ob0_1 r.1.groups cap0_1, Z103 ob0_2 r.1.budgets cap0_2, Z68 ob0_3 r.1.ms cap0_3, Z64 ob0_4 r.1.bs cap0_4, .map b0_5], Q139 ob0_1 cap0_1 r.1.groups, Q103 ob0_2 cap0_2 r.1.budgets, Q68 ob0_3 cap0_3 r.1.ms, Q64 ob0_4 cap0_4 r.1.bs, .map b0_5 (List.map (pf VV.str (VV.int .i64)) r.1.held), .box b3 149 [Z140 A0 A1 ob1_0 r.2.1.pools cap1_0, Z152 A0 A1 ob1_1 r.2.1.insts cap1_1, Iw r.2.1.delay, Iw r.2.1.now, Iw r.2.1.calls], Q140 A0 A1 ob1_0 cap1_0 r.2.1.pools, Q152 A0 A1 ob1_1 cap1_1 r.2.1.insts, .ar A0 144 bs_2 (List.map T_cloud_pool.cells r.2.2.1), .ar A1 157 bs_3 (List.map (T_cloud_inst.cells A0 A1) r.2.2.2)] := by
 refine Cl [] Tryz.func40 R R R fun r hm=>?_
 unfold law28_acts at hm
 refine Ae<|Ab R R<|Bg R R fun b4=>Ac<|Ag tbk [0] R R<|Aw<|Ag tbk [] R R<|Ao hm R (fun h2 hm=>?_) fun h2 hm=> ?_
 ·refine Bv<|Ad tbk [0] 3 R R<|Bd hm fun r h3 hm=>Av (Ax [1,2,3,4,5,6,7,8,9,0,10,11] R)<|Ab R R<|Aq 9 R fn12 R (K66 A0 A1 w c o.P_ b ob cap ob2 cap2 ob3 cap3 ob4 cap4 b2 b3 ob5 cap5 ob6 cap6 r h3) fun _ _ h4=> ?_
  obtain ⟨ob7,cap7,ob8,cap8,ob9,cap9,ob10,cap10,b5,rfl,rfl⟩:=h4
  refine Ac<|?_
  obtain rfl:=Option.some.inj hm
  exact ⟨.inr R,_,.nil,[0,1,2,3,4,5,6,7,8,10,11],_,R,ob7,cap7,ob8,cap8,ob9,cap9,ob10,cap10,b5,ob5,cap5,ob6,cap6,bs,bs2,R,R⟩
 refine Ag tbk [] R R<|Ao hm R (fun h5 hm=>?_) fun h5 hm=> ?_
 ·refine Bv<|Ad tbk [0,0] 5 R R<|Bd hm fun r2 h6 hm=>Av (Ax [1,2,3,4,5,6,7,8,9,0,10,11] R)<|Ab R R<|Aq 9 R fn14 R (K178 A0 A1 w c o.Name o.Is b ob cap ob2 cap2 ob3 cap3 ob4 cap4 b2 b3 ob5 cap5 ob6 cap6 r2 h6) fun _ _ h7=> ?_
  obtain ⟨ob11,cap11,ob12,cap12,ob13,cap13,ob14,cap14,b6,rfl,rfl⟩:=h7
  refine Ac<|?_
  obtain rfl:=Option.some.inj hm
  exact ⟨.inr R,_,.nil,[0,1,2,3,4,5,6,7,8,10,11],_,R,ob11,cap11,ob12,cap12,ob13,cap13,ob14,cap14,b6,ob5,cap5,ob6,cap6,bs,bs2,R,R⟩
 refine Ag tbk [] R R<|Ao hm R (fun h8 hm=>?_) fun h8 hm=> ?_
 ·refine Bv<|Ad tbk [0,0] 5 R R<|Bd hm fun r3 h9 hm=>Av (Ax [1,2,3,4,5,6,7,8,9,0,10,11] R)<|Ab R R<|Aq 9 R fn16 R (K145 A0 A1 w c o.Name o.X b ob cap ob2 cap2 ob3 cap3 ob4 cap4 b2 b3 ob5 cap5 ob6 cap6 r3 h9) fun _ _ h10=> ?_
  obtain ⟨ob15,cap15,ob16,cap16,ob17,cap17,ob18,cap18,b7,rfl,rfl⟩:=h10
  refine Ac<|?_
  obtain rfl:=Option.some.inj hm
  exact ⟨.inr R,_,.nil,[0,1,2,3,4,5,6,7,8,10,11],_,R,ob15,cap15,ob16,cap16,ob17,cap17,ob18,cap18,b7,ob5,cap5,ob6,cap6,bs,bs2,R,R⟩
 refine Ag tbk [] R R<|Ao hm R (fun h11 hm=>?_) fun h11 hm=> ?_
 ·refine Bu (Ax [7,8,9,10,11,0,1,2,3,4,5,6] R)<|Bi 5 mixed<|A9 tbk [0,1,2,3,4,5,6,7] [1,0,0] (by kernel_rfl) R R R<|Am 8 (by kernel_rfl)<|Bd hm fun r4 h12 hm=>An R R R<|Aq 5 R fn24 R (K69 A0 A1 c o.Name o.N_ pools insts b3 ob5 cap5 ob6 cap6 bs bs2 r4 h12) fun _ _ h13=> ?_
  obtain ⟨ob19,cap19,ob20,cap20,bs3,bs4,rfl,rfl⟩:=h13
  refine A5 (by kernel_rfl)<|?_
  obtain rfl:=Option.some.inj hm
  exact ⟨.inr R,_,.nil,[6,7,8,9,10,11,0,1,2,3,4],_,R,ob,cap,ob2,cap2,ob3,cap3,ob4,cap4,b2,ob19,cap19,ob20,cap20,bs3,bs4,R,R⟩
 refine Ag tbk [] R R<|Ao hm R (fun h14 hm=>?_) fun h14 hm=> ?_
 ·refine Bu (Ax [7,8,9,10,11,0,1,2,3,4,5,6] R)<|Bi 5 mixed<|A9 tbk [0,1,2,3,4,5] [1,0] (by kernel_rfl) R R R<|Am 6 (by kernel_rfl)<|Bd hm fun r5 h15 hm=>An R R R<|Aq 5 R fn25 R (K163 A0 A1 c o.Name pools insts b3 ob5 cap5 ob6 cap6 bs bs2 r5 h15) fun _ _ h16=> ?_
  obtain ⟨ob21,cap21,ob22,cap22,bs5,bs6,rfl,rfl⟩:=h16
  refine A5 (by kernel_rfl)<|?_
  obtain rfl:=Option.some.inj hm
  exact ⟨.inr R,_,.nil,[6,7,8,9,10,11,0,1,2,3,4],_,R,ob,cap,ob2,cap2,ob3,cap3,ob4,cap4,b2,ob21,cap21,ob22,cap22,bs5,bs6,R,R⟩
 refine Bv<|Aa R R (Ai R)<|Bd hm fun r6 h17 hm=>Av (Ax [1,2,3,4,5,6,7,8,9,10,11,0] R)<|Ab R R<|Aq 11 R fn11 R (K135 A0 A1 w c pools insts b ob cap ob2 cap2 ob3 cap3 ob4 cap4 b2 b3 ob5 cap5 ob6 cap6 bs bs2 r6 h17) fun _ _ h18=> ?_
 obtain ⟨ob23,cap23,ob24,cap24,ob25,cap25,ob26,cap26,b8,ob27,cap27,ob28,cap28,bs7,rfl,rfl⟩:=h18
 refine Ac<|?_
 obtain rfl:=Option.some.inj hm
 exact ⟨.inr R,_,.nil,[0,1,2,3,4,5,6,7,8,9,10],_,R,ob23,cap23,ob24,cap24,ob25,cap25,ob26,cap26,b8,ob27,cap27,ob28,cap28,bs,bs7,R,R⟩

/-! trireme/triremeref09.Place -/
def ref09_Place.l1 (bs : List T_api_Bound) (name : ByteArray) : Nat → Int → Option (Out Int Unit)
 | 0, _ => none
 | n + 1, i2 =>
  if (decide (i2 < (bs.length : Int))) = true then
   (V.gl bs i2).bind fun x =>
   if (V.seq x.Pod.Name name) = true then
    some (Out.ret i2)
   else
    ref09_Place.l1 bs name n (i64.wrap (i2 + 1))
  else
   some (Out.go ())
def ref09_Place (bs : List T_api_Bound) (name : ByteArray) : Option Int :=
 (ref09_Place.l1 bs name FU (0 : Int)).bind fun o =>
 o.on fun j =>
 some (-1)
theorem K180 (bs : List T_api_Bound) (name : ByteArray) : VS Tryz.prog 26 (ref09_Place bs name) [L64 bs, .str name] [] Iw N0 := by
 refine A8 [.tmp 4] Tryz.func26 R R R fun r hm=>?_
 unfold ref09_Place at hm
 refine Ag tbk [] R R<|Af<|Ag tbk [] R R<|B5 hm (fun _ (_:Unit)=>[]) (fun _ (_:Unit)=>[]) (fun o hm h2=>?_) fun j _ hm=> ?_
 ·refine Ca (fun zn (zs:Int)=>ref09_Place.l1 bs name zn zs) (fun zs (_:Unit)=>[(0,L64 bs),(1,.str name),(5,Iw zs)]) (fun _ (_:Unit)=>[]) _ () (fun _=>R) hm (Ah [] R R) fun n i2 _ hm=> ?_
  rw [ref09_Place.l1] at hm
  exact Af<|Ae<|Ad tbk [] 2 R R<|Aa R R (A7 T_api_Bound.vv R B6)<|Aa R R (Br R R R)<|Ac<|Ao hm R (fun h3 hm=>Al<|Af<|Aw<|Ae<|Ad tbk [] 2 R R<|Bd hm fun x h4 hm=>Aa R R (Bw T_api_Bound.vv R R el40 h4)<|Ad tbk [] 5 R R<|Ac<|Ao hm R (fun h5 hm=>Ag tbk [] R R<|have hm:=Lr hm h2;Rt1 hm R [] R R R) fun h5 hm=>Al<|Ba tbk [] R R<|Ap _ () hm (Ah [] R R)) fun h3 hm=>A6<|Ar () hm (Ah [] R R)
 exact Ag tbk [] R R<|Rt1 hm R [] R R R

/-! trireme/triremelaw28.among -/
def law28_among.l1 (l : List ByteArray) (s : ByteArray) : Nat → Int → Option (Out Bool Unit)
 | 0, _ => none
 | n + 1, i2 =>
  if (decide (i2 < (l.length : Int))) = true then
   (V.gl l i2).bind fun x =>
   if (V.seq x s) = true then
    some (Out.ret true)
   else
    law28_among.l1 l s n (i64.wrap (i2 + 1))
  else
   some (Out.go ())
def law28_among (l : List ByteArray) (s : ByteArray) : Option Bool :=
 (law28_among.l1 l s FU (0 : Int)).bind fun o =>
 o.on fun j =>
 some false
theorem K181 (l : List ByteArray) (s : ByteArray) : VS Tryz.prog 45 (law28_among l s) [L9 l, .str s] [] .bool N0 := by
 refine A8 [.tmp 4] Tryz.func45 R R R fun r hm=>?_
 unfold law28_among at hm
 refine Ag tbk [] R R<|Af<|Ag tbk [] R R<|B5 hm (fun _ (_:Unit)=>[]) (fun _ (_:Unit)=>[]) (fun o hm h2=>?_) fun j _ hm=> ?_
 ·refine Ca (fun zn (zs:Int)=>law28_among.l1 l s zn zs) (fun zs (_:Unit)=>[(0,L9 l),(1,.str s),(5,Iw zs)]) (fun _ (_:Unit)=>[]) _ () (fun _=>R) hm (Ah [] R R) fun n i2 _ hm=> ?_
  rw [law28_among.l1] at hm
  exact Af<|Ae<|Ad tbk [] 2 R R<|Aa R R (A7 VV.str R Bz)<|Aa R R (Br R R R)<|Ac<|Ao hm R (fun h3 hm=>Al<|Af<|Aw<|Ae<|Ad tbk [] 2 R R<|Bd hm fun x h4 hm=>Aa R R (Bw VV.str R R el61 h4)<|Ad tbk [] 3 R R<|Ac<|Ao hm R (fun h5 hm=>Ag tbk [] R R<|have hm:=Lr hm h2;Rt1 hm R [] R R R) fun h5 hm=>Al<|Ba tbk [] R R<|Ap _ () hm (Ah [] R R)) fun h3 hm=>A6<|Ar () hm (Ah [] R R)
 exact Ag tbk [] R R<|Rt1 hm R [] R R R

end Go.Proofs.YtbgfffdnaijmhaaGreat.M

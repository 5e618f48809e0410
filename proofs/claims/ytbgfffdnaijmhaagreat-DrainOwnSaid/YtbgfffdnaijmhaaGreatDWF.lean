/-
  Printed by a program of this session out of the loaded functions: models and their proofs. Own text.
-/
import Derived.Test.YtbgfffdnaijmhaaGreatDWF2
namespace Go.Proofs.YtbgfffdnaijmhaaGreat.M
open Go Go.Proofs Go.Proofs.YtbgfffdnaijmhaaGreat.V
open Go.IntKind (i64)
set_option linter.unusedVariables false
set_option maxRecDepth 20000
set_option maxHeartbeats 40000000
/-! trireme/triremelaw28.own -/
def law28_own.l1 (busy : List ByteArray) (was : List T_api_Bound) (r : List T_api_Bound) : Nat → Int → Option (Out Bool Unit)
 | 0, _ => none
 | n + 1, i2 =>
  if (decide (i2 < (was.length : Int))) = true then
   (V.gl was i2).bind fun x =>
   (ref09_Place r x.Pod.Name).bind fun r2 =>
   (if (decide (r2 < 0)) = true then some true else (V.gl r r2).bind fun x2 =>
   (V.gl was i2).bind fun x3 =>
   (if (!(V.seq x2.On x3.On)) = true then (V.gl was i2).bind fun x4 =>
   (law28_among busy x4.On).bind fun r3 =>
   some (!r3) else some false).bind fun c2 =>
   some c2).bind fun c3 =>
   if c3 = true then
    some (Out.ret false)
   else
    law28_own.l1 busy was r n (i64.wrap (i2 + 1))
  else
   some (Out.go ())
def law28_own.l2 (busy : List ByteArray) (had : List T_api_Inst) (r4 : List T_api_Inst) : Nat → Int → Option (Out Bool Unit)
 | 0, _ => none
 | n2 + 1, i4 =>
  if (decide (i4 < (r4.length : Int))) = true then
   (V.gl r4 i4).bind fun x5 =>
   (V.gl had i4).bind fun x6 =>
   (if (!(((x5.Name == x6.Name) && ((x5.Group == x6.Group) && ((x5.State == x6.State) && ((x5.Left == x6.Left) && ((x5.Since == x6.Since) && true))))) == true)) = true then (V.gl r4 i4).bind fun x7 =>
   (law28_among busy x7.Name).bind fun r5 =>
   some (!r5) else some false).bind fun c4 =>
   if c4 = true then
    some (Out.ret false)
   else
    law28_own.l2 busy had r4 n2 (i64.wrap (i4 + 1))
  else
   some (Out.go ())
def law28_own (busy : List ByteArray) (was : List T_api_Bound) (had : List T_api_Inst) (w : T_world_World) (c : T_cloud_Cloud) (pools : List T_cloud_pool) (insts : List T_cloud_inst) : Option Bool :=
 (world_World_Bounds w c).bind fun r =>
 if ((r.length : Int) != (was.length : Int)) = true then
  some false
 else
  (law28_own.l1 busy was r FU (0 : Int)).bind fun o =>
  o.on fun j =>
  (cloud_Cloud_Insts c pools insts).bind fun r4 =>
  if ((r4.length : Int) != (had.length : Int)) = true then
   some false
  else
   (law28_own.l2 busy had r4 FU (0 : Int)).bind fun o2 =>
   o2.on fun j2 =>
   some true
theorem K0 (A0 A1 : Nat) (busy : List ByteArray) (was : List T_api_Bound) (had : List T_api_Inst) (w : T_world_World) (c : T_cloud_Cloud) (pools : List T_cloud_pool) (insts : List T_cloud_inst) (b : Nat) (ob : Option Nat) (cap : Nat) (ob2 : Option Nat) (cap2 : Nat) (ob3 : Option Nat) (cap3 : Nat) (ob4 : Option Nat) (cap4 : Nat) (b2 : Nat) (b3 : Nat) (ob5 : Option Nat) (cap5 : Nat) (ob6 : Option Nat) (cap6 : Nat) (bs : List Nat) (bs2 : List Nat) : VS Tryz.prog 43 (law28_own busy was had w c pools insts) [L9 busy, L64 was, L70 had, .ptr b 0] [.box b 43 [.ptr b3 0, Z139 ob w.groups cap, Z103 ob2 w.budgets cap2, Z68 ob3 w.ms cap3, Z64 ob4 w.bs cap4, .map b2], Q139 ob cap w.groups, Q103 ob2 cap2 w.budgets, Q68 ob3 cap3 w.ms, Q64 ob4 cap4 w.bs, .map b2 (List.map (pf VV.str (VV.int .i64)) w.held), .box b3 149 [Z140 A0 A1 ob5 c.pools cap5, Z152 A0 A1 ob6 c.insts cap6, Iw c.delay, Iw c.now, Iw c.calls], Q140 A0 A1 ob5 cap5 c.pools, Q152 A0 A1 ob6 cap6 c.insts, .ar A0 144 bs (List.map T_cloud_pool.cells pools), .ar A1 157 bs2 (List.map (T_cloud_inst.cells A0 A1) insts)] .bool (fun r=>[.box b 43 [.ptr b3 0, Z139 ob w.groups cap, Z103 ob2 w.budgets cap2, Z68 ob3 w.ms cap3, Z64 ob4 w.bs cap4, .map b2], Q139 ob cap w.groups, Q103 ob2 cap2 w.budgets, Q68 ob3 cap3 w.ms, Q64 ob4 cap4 w.bs, .map b2 (List.map (pf VV.str (VV.int .i64)) w.held), .box b3 149 [Z140 A0 A1 ob5 c.pools cap5, Z152 A0 A1 ob6 c.insts cap6, Iw c.delay, Iw c.now, Iw c.calls], Q140 A0 A1 ob5 cap5 c.pools, Q152 A0 A1 ob6 cap6 c.insts, .ar A0 144 bs (List.map T_cloud_pool.cells pools), .ar A1 157 bs2 (List.map (T_cloud_inst.cells A0 A1) insts)]) := by
 refine A8 [.tmp 8] Tryz.func43 R R R fun r hm=>?_
 unfold law28_own at hm
 refine Ag tbk [] R R<|Ae<|Aa R R (Ai R)<|Ab R R<|Cj hm 9 R fn20 R (K148 A0 A1 _ _ _ _ _ _ _ _ _ _ _ _ _ _ _ _ _) fun r ob7 cap7 hm=>Av (Az 0 [(15,L64 r)] R ⟨⟨_,R,.here _ R⟩,trivial⟩ (FzH.refl _))<|Aa R R (Aj R)<|Ac<|Af<|Ae<|Aa R R (Ai R)<|Aa R R (A7 T_api_Bound.vv R B6)<|Aa R R (Ai R)<|Aa R R (A7 T_api_Bound.vv R B6)<|Aa R R (Br R R R)<|Ac<|Ao hm R (fun h3 hm=>Ag tbk [] R R<|Rt1 hm R [0,1,2,3,4,5,6,7,8,9,10] R R R) fun h3 hm=>Al<|Af<|Ag tbk [] R R<|B5 hm (fun _ (_:Unit)=>[(0,L9 busy),(2,L70 had),(3,.ptr b 0)]) (fun _ (_:Unit)=>[.box b 43 [.ptr b3 0,Z139 ob w.groups cap,Z103 ob2 w.budgets cap2,Z68 ob3 w.ms cap3,Z64 ob4 w.bs cap4,.map b2],Q139 ob cap w.groups,Q103 ob2 cap2 w.budgets,Q68 ob3 cap3 w.ms,Q64 ob4 cap4 w.bs,.map b2 (List.map (pf VV.str (VV.int .i64)) w.held),.box b3 149 [Z140 A0 A1 ob5 c.pools cap5,Z152 A0 A1 ob6 c.insts cap6,Iw c.delay,Iw c.now,Iw c.calls],Q140 A0 A1 ob5 cap5 c.pools,Q152 A0 A1 ob6 cap6 c.insts,.ar A0 144 bs (List.map T_cloud_pool.cells pools),.ar A1 157 bs2 (List.map (T_cloud_inst.cells A0 A1) insts)]) (fun o hm h5=>?_) fun j _ hm=> ?_
 ·refine Ca (fun zn (zs:Int)=>law28_own.l1 busy was r zn zs) (fun zs (_:Unit)=>[(0,L9 busy),(1,L64 was),(2,L70 had),(3,.ptr b 0),(9,L64 r),(10,Iw zs)]) (fun _ (_:Unit)=>[.box b 43 [.ptr b3 0,Z139 ob w.groups cap,Z103 ob2 w.budgets cap2,Z68 ob3 w.ms cap3,Z64 ob4 w.bs cap4,.map b2],Q139 ob cap w.groups,Q103 ob2 cap2 w.budgets,Q68 ob3 cap3 w.ms,Q64 ob4 cap4 w.bs,.map b2 (List.map (pf VV.str (VV.int .i64)) w.held),.box b3 149 [Z140 A0 A1 ob5 c.pools cap5,Z152 A0 A1 ob6 c.insts cap6,Iw c.delay,Iw c.now,Iw c.calls],Q140 A0 A1 ob5 cap5 c.pools,Q152 A0 A1 ob6 cap6 c.insts,.ar A0 144 bs (List.map T_cloud_pool.cells pools),.ar A1 157 bs2 (List.map (T_cloud_inst.cells A0 A1) insts)]) (0 : Int) () (fun _=>R) hm (Ah [0,1,2,3,4,5,6,7,8,9,10] (by kernel_rfl) (by kernel_rfl)) fun n i2 _ hm=> ?_
  rw [law28_own.l1] at hm
  refine Af<|Ae<|Ad tbk [] 2 R R<|Aa R R (A7 T_api_Bound.vv R B6)<|Aa R R (Br R R R)<|Ac<|Ao hm R (fun h6 hm=>?_) fun h6 hm=> ?_
  ·exact Al<|Af<|Aw<|Ae<|Ad tbk [] 3 R R<|Bd hm fun x h7 hm=>Aa R R (Bw T_api_Bound.vv R R el40 h7)<|Ad tbk [] 3 R R<|Ab R R<|Ay hm 0 R fn26 R (K180 _ _) fun r2 hm=>Aa R R (Aj R)<|Ac<|Af<|Bi 0 mixed<|A9 tbk [0,1,2] [] (by kernel_rfl) R R R<|Dk hm [24,23,22,21,20,19,18,17,16,15,14,13,12,11,10,9,8,7,6,5,4,3,2,1,0] 59 37 R (fun _ K' h9 J hm=>A9 tbk [3,4,5,6,7,8,9,10,11,12,13,14,15,16,17,18,19,20,21,22,23,24] [] (by kernel_rfl) R R R<|J 21 R R (Bj hm)) (fun _ K' h9 J hm=>A9 tbk [3,4] [] (by kernel_rfl) R R R<|Bd hm fun x2 h10 hm=>Dl 5 R R R R R R (by kernel_rfl) (Bw T_api_Bound.vv R R el40 h10)<|A9 tbk [6,7,8,9] [] (by kernel_rfl) R R R<|Bd hm fun x3 h11 hm=>Dl 10 R R R R R R (by kernel_rfl) (Bw T_api_Bound.vv R R el40 h11)<|A9 tbk [11,12,13,14] [] (by kernel_rfl) R R R<|Dk hm [23,22,21,20,19,18,17,16,15,14,13,12,11,10,9,8,7,6,5,4,3,2,1,0] 58 49 R (fun _ K' h12 J hm=>A9 tbk [15,16,17] [] (by kernel_rfl) R R R<|Bd hm fun x4 h13 hm=>Dl 18 R R R R R R (by kernel_rfl) (Bw T_api_Bound.vv R R el40 h13)<|A9 tbk [19,20] [] (by kernel_rfl) R R R<|Am 21 (by kernel_rfl)<|Dm R R R R R R<|Ay hm 0 R fn45 R (K181 _ _) fun r3 hm=>A9 tbk [22,23] [] (by kernel_rfl) R R R<|J 8 R R (Bj hm)) (fun _ K' h12 J hm=>A9 tbk [15,16,17,18,19,20,21,22,23] [] (by kernel_rfl) R R R<|J 8 R R (Bj hm)) fun c2 hm=>Bb 24 R R R (by kernel_rfl) (Bs false R R R)<|J 13 R R (Bj hm)) fun c3 hm=>A5 (by kernel_rfl)<|Ao hm R (fun h17 hm=>Ag tbk [] R R<|have hm:=Lr hm h5;Rt1 hm R [0,1,2,3,4,5,6,7,8,9,10] R R R) fun h17 hm=>Al<|Ba tbk [] R R<|Ap (IntKind.i64.wrap (i2 + (1 : Int))) () hm (Ah [0,1,2,3,4,5,6,7,8,9,10] (by kernel_rfl) (by kernel_rfl))
  exact A6<|Ar () hm (Ah [0,1,2,3,4,5,6,7,8,9,10] (by kernel_rfl) (by kernel_rfl))
 refine Ae<|Ad tbk [0] 4 R R<|Av (Ax [6,7,8,9,10,0,1,2,3,4,5] R)<|Ab R R<|Cj hm 5 R fn27 R (K46 A0 A1 _ _ _ _ _ _ _ _ _ _) fun r4 ob8 cap8 hm=>Av (Az 0 [(64,L70 r4)] R ⟨⟨_,R,.here _ R⟩,trivial⟩ (FzH.refl _))<|Aa R R (Aj R)<|Ac<|Af<|Ae<|Aa R R (Ai R)<|Aa R R (A7 T_api_Inst.vv R C9)<|Aa R R (Ai R)<|Aa R R (A7 T_api_Inst.vv R C9)<|Aa R R (Br R R R)<|Ac<|Ao hm R (fun h20 hm=>Ag tbk [] R R<|Rt1 hm R [5,6,7,8,9,10,0,1,2,3,4] R R R) fun h20 hm=>Al<|Af<|Ag tbk [] R R<|B5 hm (fun _ (_:Unit)=>[]) (fun _ (_:Unit)=>[.box b3 149 [Z140 A0 A1 ob5 c.pools cap5,Z152 A0 A1 ob6 c.insts cap6,Iw c.delay,Iw c.now,Iw c.calls],Q140 A0 A1 ob5 cap5 c.pools,Q152 A0 A1 ob6 cap6 c.insts,.ar A0 144 bs (List.map T_cloud_pool.cells pools),.ar A1 157 bs2 (List.map (T_cloud_inst.cells A0 A1) insts),.box b 43 [.ptr b3 0,Z139 ob w.groups cap,Z103 ob2 w.budgets cap2,Z68 ob3 w.ms cap3,Z64 ob4 w.bs cap4,.map b2],Q139 ob cap w.groups,Q103 ob2 cap2 w.budgets,Q68 ob3 cap3 w.ms,Q64 ob4 cap4 w.bs,.map b2 (List.map (pf VV.str (VV.int .i64)) w.held)]) (fun o2 hm h22=>?_) fun j2 _ hm=> ?_
 ·refine Ca (fun zn (zs:Int)=>law28_own.l2 busy had r4 zn zs) (fun zs (_:Unit)=>[(0,L9 busy),(2,L70 had),(12,L70 r4),(13,Iw zs)]) (fun _ (_:Unit)=>[.box b3 149 [Z140 A0 A1 ob5 c.pools cap5,Z152 A0 A1 ob6 c.insts cap6,Iw c.delay,Iw c.now,Iw c.calls],Q140 A0 A1 ob5 cap5 c.pools,Q152 A0 A1 ob6 cap6 c.insts,.ar A0 144 bs (List.map T_cloud_pool.cells pools),.ar A1 157 bs2 (List.map (T_cloud_inst.cells A0 A1) insts),.box b 43 [.ptr b3 0,Z139 ob w.groups cap,Z103 ob2 w.budgets cap2,Z68 ob3 w.ms cap3,Z64 ob4 w.bs cap4,.map b2],Q139 ob cap w.groups,Q103 ob2 cap2 w.budgets,Q68 ob3 cap3 w.ms,Q64 ob4 cap4 w.bs,.map b2 (List.map (pf VV.str (VV.int .i64)) w.held)]) (0 : Int) () (fun _=>R) hm (Ah [0,1,2,3,4,5,6,7,8,9,10] (by kernel_rfl) (by kernel_rfl)) fun n2 i4 _ hm=> ?_
  rw [law28_own.l2] at hm
  exact Af<|Ae<|Ad tbk [] 2 R R<|Aa R R (A7 T_api_Inst.vv R C9)<|Aa R R (Br R R R)<|Ac<|Ao hm R (fun h23 hm=>Al<|Af<|Aw<|Af<|Bi 0 mixed<|A9 tbk [0,1] [] (by kernel_rfl) R R R<|Bd hm fun x5 h24 hm=>Bb 2 R R R (by kernel_rfl) (Bw T_api_Inst.vv R R el54 h24)<|A9 tbk [3,4,5] [] (by kernel_rfl) R R R<|Bd hm fun x6 h25 hm=>Bb 6 R R R (by kernel_rfl) (Bw T_api_Inst.vv R R el54 h25)<|Bb 7 R R R (by kernel_rfl) (Bt R ld70 R)<|Bb 8 R R R (by kernel_rfl) (VP.eqS shp70 eq70 R R R R)<|Bb 9 R R R (by kernel_rfl) (Ai R)<|Dk hm [18,17,16,15,14,13,12,11,10,9,8,7,6,5,4,3,2,1,0] 94 85 R (fun _ K' h26 J hm=>A9 tbk [10,11,12] [] (by kernel_rfl) R R R<|Bd hm fun x7 h27 hm=>Dl 13 R R R R R R (by kernel_rfl) (Bw T_api_Inst.vv R R el54 h27)<|A9 tbk [14,15] [] (by kernel_rfl) R R R<|Am 16 (by kernel_rfl)<|Dm R R R R R R<|Ay hm 0 R fn45 R (K181 _ _) fun r5 hm=>A9 tbk [17,18] [] (by kernel_rfl) R R R<|J 8 R R (Bj hm)) (fun _ K' h26 J hm=>A9 tbk [10,11,12,13,14,15,16,17,18] [] (by kernel_rfl) R R R<|J 8 R R (Bj hm)) fun c4 hm=>A5 (by kernel_rfl)<|Ao hm R (fun h30 hm=>Ag tbk [] R R<|have hm:=Lr hm h22;Rt1 hm R [5,6,7,8,9,10,0,1,2,3,4] R R R) fun h30 hm=>Al<|Ba tbk [] R R<|Ap (IntKind.i64.wrap (i4 + (1 : Int))) () hm (Ah [0,1,2,3,4,5,6,7,8,9,10] (by kernel_rfl) (by kernel_rfl))) fun h23 hm=>A6<|Ar () hm (Ah [0,1,2,3,4,5,6,7,8,9,10] (by kernel_rfl) (by kernel_rfl))
 exact Ag tbk [] R R<|Rt1 hm R [5,6,7,8,9,10,0,1,2,3,4] R R R

/-! trireme/triremeref05.Get -/
def ref05_Get.l1 (l : List T_api_Label) (key : ByteArray) : Nat → Int → Option (Out (ByteArray × Bool) Unit)
 | 0, _ => none
 | n + 1, i2 =>
  if (decide (i2 < (l.length : Int))) = true then
   (V.gl l i2).bind fun x =>
   if (V.seq x.Key key) = true then
    (V.gl l i2).bind fun x2 =>
    some (Out.ret (x2.Val, true))
   else
    ref05_Get.l1 l key n (i64.wrap (i2 + 1))
  else
   some (Out.go ())
def ref05_Get (l : List T_api_Label) (key : ByteArray) : Option (ByteArray × Bool) :=
 (ref05_Get.l1 l key FU (0 : Int)).bind fun o =>
 o.on fun j =>
 some ((⟨#[]⟩ : ByteArray), false)
theorem K1 (l : List T_api_Label) (key : ByteArray) : VS Tryz.prog 177 (ref05_Get l key) [L232 l, .str key] [] (fun r=>.tup [.str r.1, .bool r.2]) N0 := by
 refine A8 [.tmp 4,.tmp 5] Tryz.func177 R R R fun r hm=>?_
 unfold ref05_Get at hm
 refine Ag tbk [] R R<|Af<|Ag tbk [] R R<|B5 hm (fun _ (_:Unit)=>[]) (fun _ (_:Unit)=>[]) (fun o hm h2=>?_) fun j _ hm=> ?_
 ·refine Ca (fun zn (zs:Int)=>ref05_Get.l1 l key zn zs) (fun zs (_:Unit)=>[(0,L232 l),(1,.str key),(6,Iw zs)]) (fun _ (_:Unit)=>[]) _ () (fun _=>R) hm (Ah [] R R) fun n i2 _ hm=> ?_
  rw [ref05_Get.l1] at hm
  exact Af<|Ae<|Ad tbk [] 2 R R<|Aa R R (A7 T_api_Label.vv R Cd)<|Aa R R (Br R R R)<|Ac<|Ao hm R (fun h3 hm=>Al<|Af<|Aw<|Ae<|Ad tbk [] 2 R R<|Bd hm fun x h4 hm=>Aa R R (Bw T_api_Label.vv R R el24 h4)<|Ad tbk [] 4 R R<|Ac<|Ao hm R (fun h5 hm=>Ae<|Ad tbk [] 2 R R<|Bd hm fun x2 h6 hm=>Aa R R (Bw T_api_Label.vv R R el24 h6)<|Ad tbk [] 4 R R<|Ac<|have hm:=Lr hm h2;Rt2 hm R [] R R R R) fun h5 hm=>Al<|Ba tbk [] R R<|Ap _ () hm (Ah [] R R)) fun h3 hm=>A6<|Ar () hm (Ah [] R R)
 exact Ag tbk [] R R<|Rt2 hm R [] R R R R

/-! trireme/triremeref05.Has -/
def ref05_Has.l1 (l : List T_api_Label) (some_ : List T_api_Label) : Nat → Int → Option (Out Bool Unit)
 | 0, _ => none
 | n + 1, i2 =>
  if (decide (i2 < (some_.length : Int))) = true then
   (V.gl some_ i2).bind fun x =>
   (ref05_Get l x.Key).bind fun r =>
   (if (!r.2) = true then some true else (V.gl some_ i2).bind fun x2 =>
   some (!(V.seq r.1 x2.Val))).bind fun c =>
   if c = true then
    some (Out.ret false)
   else
    ref05_Has.l1 l some_ n (i64.wrap (i2 + 1))
  else
   some (Out.go ())
def ref05_Has (l : List T_api_Label) (some_ : List T_api_Label) : Option Bool :=
 (ref05_Has.l1 l some_ FU (0 : Int)).bind fun o =>
 o.on fun j =>
 some true
theorem K2 (l : List T_api_Label) (some_ : List T_api_Label) : VS Tryz.prog 118 (ref05_Has l some_) [L232 l, L232 some_] [] .bool N0 := by
 refine A8 [.tmp 4] Tryz.func118 R R R fun r hm=>?_
 unfold ref05_Has at hm
 refine Ag tbk [] R R<|Af<|Ag tbk [] R R<|B5 hm (fun _ (_:Unit)=>[]) (fun _ (_:Unit)=>[]) (fun o hm h2=>?_) fun j _ hm=> ?_
 ·refine Ca (fun zn (zs:Int)=>ref05_Has.l1 l some_ zn zs) (fun zs (_:Unit)=>[(0,L232 l),(1,L232 some_),(5,Iw zs)]) (fun _ (_:Unit)=>[]) _ () (fun _=>R) hm (Ah [] R R) fun n i2 _ hm=> ?_
  rw [ref05_Has.l1] at hm
  exact Af<|Ae<|Ad tbk [] 2 R R<|Aa R R (A7 T_api_Label.vv R Cd)<|Aa R R (Br R R R)<|Ac<|Ao hm R (fun h3 hm=>Al<|Af<|Aw<|Ae<|Ad tbk [] 3 R R<|Bd hm fun x h4 hm=>Aa R R (Bw T_api_Label.vv R R el24 h4)<|Ad tbk [] 2 R R<|Ab R R<|Ay hm 0 R fn177 R (K1 _ _) fun r hm=>Ad tbk [] 5 R R<|Ac<|Ae<|Ad tbk [] 3 R R<|Bx hm 8 34 26 R (fun _ K' h6 J hm=>Ad tbk [] 8 R R<|J 7 R R (Bj hm)) (fun _ K' h6 J hm=>Ad tbk [] 3 R R<|Bd hm fun x2 h7 hm=>Bk R R R R R (Bw T_api_Label.vv R R el24 h7)<|Ad tbk [] 4 R R<|J 7 R R (Bj hm)) fun c hm=>Ac<|Ao hm R (fun h9 hm=>Ag tbk [] R R<|have hm:=Lr hm h2;Rt1 hm R [] R R R) fun h9 hm=>Al<|Ba tbk [] R R<|Ap _ () hm (Ah [] R R)) fun h3 hm=>A6<|Ar () hm (Ah [] R R)
 exact Ag tbk [] R R<|Rt1 hm R [] R R R

/-! trireme/triremeref15.Spare -/
def ref15_Spare.l1 (b : T_api_Budget) (bs : List T_api_Bound) : Nat → Int → Int → Option Int
 | 0, _, _ => none
 | n4 + 1, n2, i2 =>
  if (decide (i2 < (bs.length : Int))) = true then
   (V.gl bs i2).bind fun x =>
   (if (!(V.seq x.On (⟨#[]⟩ : ByteArray))) = true then (V.gl bs i2).bind fun x2 =>
   (ref05_Has x2.Pod.Labels b.Match).bind fun r =>
   some r else some false).bind fun c =>
   if c = true then
    ref15_Spare.l1 b bs n4 (i64.wrap (n2 + 1)) (i64.wrap (i2 + 1))
   else
    ref15_Spare.l1 b bs n4 n2 (i64.wrap (i2 + 1))
  else
   some n2
def ref15_Spare (b : T_api_Budget) (bs : List T_api_Bound) : Option Int :=
 (ref15_Spare.l1 b bs FU 0 (0 : Int)).bind fun n32 =>
 some (i64.wrap (n32 - b.Least))
theorem K3 (b : T_api_Budget) (bs : List T_api_Bound) : VS Tryz.prog 44 (ref15_Spare b bs) [T_api_Budget.vv b, L64 bs] [] Iw N0 := by
 refine A8 [.tmp 4] Tryz.func44 R R R fun r hm=>?_
 unfold ref15_Spare at hm
 refine Ae<|Ab R R<|Bg R R fun b2=>Aa R R (Aj R)<|Ac<|Ag tbk [] R R<|Af<|Ag tbk [] R R<|Cc hm (fun n32 (_:Unit)=>[(2,.ptr b2 0),(5,Iw n32)]) (fun _ (_:Unit)=>[X103 b2 b]) (fun o hm=>?_) fun n32 _ hm=> ?_
 ·refine Ca (fun zn (zs:Int × Int)=>ref15_Spare.l1 b bs zn zs.1 zs.2) (fun zs (_:Unit)=>[(1,L64 bs),(2,.ptr b2 0),(5,Iw zs.1),(6,Iw zs.2)]) (fun _ (_:Unit)=>[X103 b2 b]) ((0 : Int),(0 : Int)) () (fun _=>R) hm (Ah [0] R R) fun n4=>Pq fun n2 i2 _ hm=> ?_
  rw [ref15_Spare.l1] at hm
  exact Af<|Ae<|Ad tbk [] 2 R R<|Aa R R (A7 T_api_Bound.vv R B6)<|Aa R R (Br R R R)<|Ac<|Ao hm R (fun h4 hm=>Al<|Af<|Aw<|Af<|Bi 0 mixed<|A9 tbk [0,1] [] (by kernel_rfl) R R R<|Bd hm fun x h5 hm=>Bb 2 R R R (by kernel_rfl) (Bw T_api_Bound.vv R R el40 h5)<|A9 tbk [3,4,5,6] [] (by kernel_rfl) R R R<|Dk hm [16,15,14,13,12,11,10,9,8,7,6,5,4,3,2,1,0] 29 19 R (fun _ K' h6 J hm=>A9 tbk [7,8] [] (by kernel_rfl) R R R<|Bd hm fun x2 h7 hm=>Dl 9 R R R R R R (by kernel_rfl) (Bw T_api_Bound.vv R R el40 h7)<|A9 tbk [10,11,12,13,14] [0] (by kernel_rfl) R R R<|Am 15 (by kernel_rfl)<|Dm R R R R R R<|Ay hm 0 R fn118 R (K2 _ _) fun r hm=>Bb 16 R R R (by kernel_rfl) (Bs true R R R)<|J 9 R R (Bj hm)) (fun _ K' h6 J hm=>A9 tbk [7,8,9,10,11,12,13,14,15,16] [] (by kernel_rfl) R R R<|J 9 R R (Bj hm)) fun c hm=>A5 (by kernel_rfl)<|Ao hm R (fun h10 hm=>Ba tbk [] R R<|Ba tbk [] R R<|Ap ((IntKind.i64.wrap (n2 + (1 : Int))),(IntKind.i64.wrap (i2 + (1 : Int)))) () hm (Ah [0] R R)) fun h10 hm=>Al<|Ba tbk [] R R<|Ap (n2,(IntKind.i64.wrap (i2 + (1 : Int)))) () hm (Ah [0] R R)) fun h4 hm=>A6<|As () hm (Ah [0] R R)
 exact Ag tbk [0] R R<|Rt1 hm R [] R R R

/-! trireme/triremelaw28.tainted -/
def law28_tainted.l1 (m : T_api_Machine) : Nat → Int → Option (Out Bool Unit)
 | 0, _ => none
 | n + 1, i2 =>
  if (decide (i2 < (m.Taints.length : Int))) = true then
   (V.gl m.Taints i2).bind fun x =>
   if (V.seq x.Key (⟨#[100, 114, 97, 105, 110, 105, 110, 103]⟩ : ByteArray)) = true then
    some (Out.ret true)
   else
    law28_tainted.l1 m n (i64.wrap (i2 + 1))
  else
   some (Out.go ())
def law28_tainted (m : T_api_Machine) : Option Bool :=
 (law28_tainted.l1 m FU (0 : Int)).bind fun o =>
 o.on fun j =>
 some false
theorem K4 (m : T_api_Machine) : VS Tryz.prog 46 (law28_tainted m) [T_api_Machine.vv m] [] .bool N0 := by
 refine A8 [.tmp 2] Tryz.func46 R R R fun r hm=>?_
 unfold law28_tainted at hm
 refine Ae<|Ab R R<|Bg R R fun b=>Aa R R (Aj R)<|Ac<|Af<|Ag tbk [] R R<|B5 hm (fun _ (_:Unit)=>[]) (fun _ (_:Unit)=>[]) (fun o hm h3=>?_) fun j _ hm=> ?_
 ·refine Ca (fun zn (zs:Int)=>law28_tainted.l1 m zn zs) (fun zs (_:Unit)=>[(1,.ptr b 0),(3,Iw zs)]) (fun _ (_:Unit)=>[X68 b m]) _ () (fun _=>R) hm (Ah [0] R R) fun n i2 _ hm=> ?_
  rw [law28_tainted.l1] at hm
  exact Af<|Ae<|Ad tbk [0] 3 R R<|Aa R R (A7 T_api_Taint.vv R Ch)<|Aa R R (Br R R R)<|Ac<|Ao hm R (fun h4 hm=>Al<|Af<|Aw<|Ae<|Ad tbk [0] 3 R R<|Bd hm fun x h5 hm=>Aa R R (Bw T_api_Taint.vv R R el66 h5)<|Ad tbk [] 3 R R<|Ac<|Ao hm R (fun h6 hm=>Ag tbk [] R R<|have hm:=Lr hm h3;Rt1 hm R [] R R R) fun h6 hm=>Al<|Ba tbk [] R R<|Ap _ () hm (Ah [0] R R)) fun h4 hm=>A6<|Ar () hm (Ah [] R R)
 exact Ag tbk [] R R<|Rt1 hm R [] R R R

/-! trireme/triremelaw28.DrainOwn -/
def law28_DrainOwn.l2 (c : T_law28_Case) (r15 : List T_api_Bound) (r17 : List ByteArray × T_drain_Table × T_world_World × T_cloud_Cloud × List T_cloud_pool × List T_cloud_inst) : Nat → Int → Option (Out (Out Bool (List T_cloud_pool × List T_cloud_inst)) Unit)
 | 0, _ => none
 | n2 + 1, k2 =>
  if (decide (k2 < (c.B.length : Int))) = true then
   (V.gl c.B k2).bind fun x5 =>
   (ref15_Spare x5 r15).bind fun r19 =>
   (if (decide (r19 ≥ 0)) = true then (V.gl c.B k2).bind fun x6 =>
   (world_World_Bounds r17.2.2.1 r17.2.2.2.1).bind fun r20 =>
   (ref15_Spare x6 r20).bind fun r21 =>
   some (decide (r21 < 0)) else some false).bind fun c3 =>
   if c3 = true then
    some (Out.ret (Out.ret false))
   else
    law28_DrainOwn.l2 c r15 r17 n2 (i64.wrap (k2 + 1))
  else
   some (Out.go ())
def law28_DrainOwn.l3 (r14 : List ByteArray) (r22 : List ByteArray) (r23 : List T_api_Machine) : Nat → Int → Option (Out (Out Bool (List T_cloud_pool × List T_cloud_inst)) Unit)
 | 0, _ => none
 | n3 + 1, k4 =>
  if (decide (k4 < (r23.length : Int))) = true then
   (V.gl r23 k4).bind fun x7 =>
   (law28_among r14 x7.Name).bind fun r24 =>
   (if r24 = true then (V.gl r23 k4).bind fun x8 =>
   (V.gl r23 k4).bind fun x9 =>
   (law28_tainted x8).bind fun r25 =>
   (law28_among r22 x9.Name).bind fun r26 =>
   some (!(r25 == r26)) else some false).bind fun c4 =>
   if c4 = true then
    some (Out.ret (Out.ret false))
   else
    law28_DrainOwn.l3 r14 r22 r23 n3 (i64.wrap (k4 + 1))
  else
   some (Out.go ())
def law28_DrainOwn.l1 (c : T_law28_Case) : Nat → T_world_World → T_cloud_Cloud → T_drain_Table → Int → (List T_cloud_pool) → (List T_cloud_inst) → Option (Out Bool (List T_cloud_pool × List T_cloud_inst))
 | 0, _, _, _, _, _, _ => none
 | n + 1, w3, w4, t2, i2, ps2, xs2 =>
  if ((decide (i2 < (c.L.length : Int))) && (decide (i2 < 30))) = true then
   (V.gl c.L i2).bind fun x4 =>
   (law18_Op_Light x4.W).bind fun r10 =>
   (if (!r10) = true then some true else (world_World_Machines w3 w4).bind fun r11 =>
   some (decide ((r11.length : Int) > 30))).bind fun c2 =>
   if c2 = true then
    law28_DrainOwn.l1 c n w3 w4 t2 (i64.wrap (i2 + 1)) ps2 xs2
   else
    if (x4.Drain == 0) = true then
     (drain_Table_Start t2 w3 w4 x4.W.Name).bind fun r12 =>
     law28_DrainOwn.l1 c n r12.2.2 w4 r12.2.1 (i64.wrap (i2 + 1)) ps2 xs2
    else
     if (x4.Drain != 1) = true then
      (if (x4.W.Kind != 4) = true then
       (law28_acts w3 w4 x4.W ps2 xs2).bind fun r13 =>
       some (r13.1, r13.2.1, r13.2.2.1, r13.2.2.2)
      else
       some (w3, w4, ps2, xs2)).bind fun j2 =>
      law28_DrainOwn.l1 c n j2.1 j2.2.1 t2 (i64.wrap (i2 + 1)) j2.2.2.1 j2.2.2.2
     else
      (drain_Table_Busy t2).bind fun r14 =>
      (world_World_Bounds w3 w4).bind fun r15 =>
      (cloud_Cloud_Insts w4 ps2 xs2).bind fun r16 =>
      (drain_Table_Step t2 w3 w4 ps2 xs2).bind fun r17 =>
      (law28_own r14 r15 r16 r17.2.2.1 r17.2.2.2.1 r17.2.2.2.2.1 r17.2.2.2.2.2).bind fun r18 =>
      if (!r18) = true then
       some (Out.ret false)
      else
       (law28_DrainOwn.l2 c r15 r17 FU (0 : Int)).bind fun o3 =>
       o3.on fun j3 =>
       (drain_Table_Busy r17.2.1).bind fun r22 =>
       (world_World_Machines r17.2.2.1 r17.2.2.2.1).bind fun r23 =>
       (law28_DrainOwn.l3 r14 r22 r23 FU (0 : Int)).bind fun o4 =>
       o4.on fun j4 =>
       law28_DrainOwn.l1 c n r17.2.2.1 r17.2.2.2.1 r17.2.1 (i64.wrap (i2 + 1)) r17.2.2.2.2.1 r17.2.2.2.2.2
  else
   some (Out.go (ps2, xs2))
def law28_DrainOwn (c : T_law28_Case) : Option Bool :=
 (law28_light c).bind fun r =>
 if (!r) = true then
  (law28_known ([] : List T_cloud_pool) ([] : List T_cloud_inst)).bind fun r2 =>
  some r2.1
 else
  (world_New c.G c.B c.Delay ([] : List T_cloud_pool) ([] : List T_cloud_inst)).bind fun r3 =>
  po r3.1 (
   (drain_New c.Grace).bind fun r4 =>
   po r4.1 (
    (law28_known ([] : List T_cloud_pool) ([] : List T_cloud_inst)).bind fun r5 =>
    some r5.1) fun x2 =>
   (law28_known ([] : List T_cloud_pool) ([] : List T_cloud_inst)).bind fun r6 =>
   some r6.1) fun x =>
  (drain_New c.Grace).bind fun r7 =>
  po r7.1 (
   (law28_known ([] : List T_cloud_pool) ([] : List T_cloud_inst)).bind fun r8 =>
   some r8.1) fun x3 =>
  if ((((r3.2.1 != 0) || (r7.2 != 0)) || false) || false) = true then
   (law28_known ([] : List T_cloud_pool) ([] : List T_cloud_inst)).bind fun r9 =>
   some r9.1
  else
   (law28_DrainOwn.l1 c FU x.1 x.2 x3 0 r3.2.2.1 r3.2.2.2).bind fun o =>
   o.on fun j =>
   (law28_known ([] : List T_cloud_pool) ([] : List T_cloud_inst)).bind fun r27 =>
   some r27.1
theorem law28_DrainOwn_ok (A0 A1 A2 A3 : Nat) (c : T_law28_Case) : VS Tryz.prog 6 (law28_DrainOwn c) [T_law28_Case.vv c] [.ar A0 144 ([] : List Nat) (List.map T_cloud_pool.cells ([] : List T_cloud_pool)), .ar A1 157 ([] : List Nat) (List.map (T_cloud_inst.cells A0 A1) ([] : List T_cloud_inst)), .ar A2 144 ([] : List Nat) (List.map T_cloud_pool.cells ([] : List T_cloud_pool)), .ar A3 157 ([] : List Nat) (List.map (T_cloud_inst.cells A0 A1) ([] : List T_cloud_inst))] .bool N0 := by
 refine A8 [.tmp 2] Tryz.func6 R R R fun r hm=>?_
 unfold law28_DrainOwn at hm
 refine Ae<|Ab R R<|Bg R R fun b=>Aa R R (Aj R)<|Ac<|Af<|Ae<|Ad tbk [0] 1 R R<|Ab R R<|Ay hm 0 R fn36 R (K10 _) fun r hm=>Aa R R (Cp R)<|Ac<|Ao hm R (fun h3 hm=>?_) fun h3 hm=> ?_
 ·refine Ae<|Bd hm fun r2 h4 hm=>Av (Ax [3,4,0,1,2] R)<|Ab R R<|Aq 2 R fn37 R (K173 A2 A3 ([] : List T_cloud_pool) ([] : List T_cloud_inst) ([] : List Nat) ([] : List Nat) r2 h4) fun _ _ h5=> ?_
  obtain ⟨bs,bs2,rfl,rfl⟩:=h5
  exact Aa R R (Aj R)<|Ac<|Rt1 hm R [] R R R
 refine Al<|Ae<|Ad tbk [0,0,0] 6 R R<|Bd hm fun r3 h6 hm=>Av (Ax [1,2,0,3,4] R)<|Ab R R<|Aq 2 R fn30 R (K52 A0 A1 c.G c.B c.Delay ([] : List T_cloud_pool) ([] : List T_cloud_inst) ([] : List Nat) ([] : List Nat) r3 h6) fun _ _ h108=> ?_
 obtain ⟨b2,b3,ob,cap,ob2,cap2,ob3,cap3,ob4,cap4,ob5,cap5,ob6,cap6,b4,bs3,bs4,rfl,rfl⟩:=h108
 rcases po_or hm with ⟨h107,hm⟩ | ⟨x,h107,hm⟩
 ·rw [h107]
  refine Ad tbk [] 5 R R<|Ac<|Ae<|Ad tbk [2] 2 R R<|Bd hm fun r4 h16 hm=>Ab R R<|Aq 0 R fn38 R (K53 c.Grace r4 h16) fun _ _ h28=> ?_
  obtain ⟨b5,ob7,cap7,rfl,rfl⟩:=h28
  rcases po_or hm with ⟨h27,hm⟩ | ⟨x2,h27,hm⟩
  ·rw [h27]
   refine Ad tbk [] 5 R R<|Ac<|Af<|Ae<|Ad tbk [] 3 R R<|Cq tbk [] 3 41 38 R R R R R<|Aa R R (Ai R)<|C0 3 45 42 R (fun K' J=>Ad tbk [] 3 R R<|J 2 R R R) (fun h20 K' J=>Bk R R R R R (Ai R)<|Bk R R R R R (C2 Cn R R)<|Aa R R (Bs false R R R)<|J 2 R R R)<|Aa R R (Ai R)<|C5 R R R R (by simp)<|C5 R R R R (by simp)<|Aa R R (Bs true R (by simp) R)<|Ac<|Bl R R<|Ae<|Bd hm fun r5 h21 hm=>Av (Ax [3,4,0,1,2] R)<|Ab R R<|Aq 2 R fn37 R (K173 A2 A3 ([] : List T_cloud_pool) ([] : List T_cloud_inst) ([] : List Nat) ([] : List Nat) r5 h21) fun _ _ h22=> ?_
   obtain ⟨bs5,bs6,rfl,rfl⟩:=h22
   exact Aa R R (Aj R)<|Ac<|Rt1 hm R [] R R R
  ·rw [h27]
   refine Ad tbk [] 5 R R<|Ac<|Af<|Ae<|Ad tbk [] 3 R R<|Cq tbk [] 3 41 38 R R R R R<|Aa R R (Ai R)<|C0 3 45 42 R (fun K' J=>Ad tbk [] 3 R R<|J 2 R R R) (fun h24 K' J=>Bk R R R R R (Ai R)<|Bk R R R R R (C2 Cn R R)<|Aa R R (Bs false R R R)<|J 2 R R R)<|Aa R R (Ai R)<|C5 R R R R (by simp)<|C5 R R R R (by simp)<|Aa R R (Bs true R (by simp) R)<|Ac<|Bl R R<|Ae<|Bd hm fun r6 h25 hm=>Av (Ax [5,6,0,1,2,3,4] R)<|Ab R R<|Aq 2 R fn37 R (K173 A2 A3 ([] : List T_cloud_pool) ([] : List T_cloud_inst) ([] : List Nat) ([] : List Nat) r6 h25) fun _ _ h26=> ?_
   obtain ⟨bs7,bs8,rfl,rfl⟩:=h26
   exact Aa R R (Aj R)<|Ac<|Rt1 hm R [] R R R
 ·rw [h107]
  refine Ad tbk [] 5 R R<|Ac<|Ae<|Ad tbk [11] 2 R R<|Bd hm fun r7 h29 hm=>Ab R R<|Aq 0 R fn38 R (K53 c.Grace r7 h29) fun _ _ h106=> ?_
  obtain ⟨b6,ob8,cap8,rfl,rfl⟩:=h106
  rcases po_or hm with ⟨h105,hm⟩ | ⟨x3,h105,hm⟩
  ·rw [h105]
   refine Ad tbk [] 5 R R<|Ac<|Af<|Ae<|Ad tbk [] 3 R R<|Cq tbk [] 3 41 38 R R R R R<|Aa R R (Ai R)<|C0 3 45 42 R (fun K' J=>Ad tbk [] 3 R R<|J 2 R R R) (fun h33 K' J=>Bk R R R R R (Ai R)<|Bk R R R R R (C2 Cn R R)<|Aa R R (Bs false R R R)<|J 2 R R R)<|Aa R R (Ai R)<|C0 3 49 46 R (fun K' J=>Ad tbk [] 3 R R<|J 2 R R R) (fun h34 K' J=>Bk R R R R R (Ai R)<|Bk R R R R R (C2 Da R R)<|Aa R R (Bs false R R R)<|J 2 R R R)<|Ac<|Bl R (by simp)<|Ae<|Bd hm fun r8 h35 hm=>Av (Ax [12,13,0,1,2,3,4,5,6,7,8,9,10,11] R)<|Ab R R<|Aq 2 R fn37 R (K173 A2 A3 ([] : List T_cloud_pool) ([] : List T_cloud_inst) ([] : List Nat) ([] : List Nat) r8 h35) fun _ _ h36=> ?_
   obtain ⟨bs9,bs10,rfl,rfl⟩:=h36
   exact Aa R R (Aj R)<|Ac<|Rt1 hm R [] R R R
  ·rw [h105]
   refine Ad tbk [] 5 R R<|Ac<|Af<|Ae<|Ad tbk [] 3 R R<|Cq tbk [] 3 41 38 R R R R R<|Aa R R (Ai R)<|C0 3 45 42 R (fun K' J=>Ad tbk [] 3 R R<|J 2 R R R) (fun h38 K' J=>Bk R R R R R (Ai R)<|Bk R R R R R (C2 Cn R R)<|Aa R R (Bs false R R R)<|J 2 R R R)<|Aa R R (Ai R)<|C0 3 49 46 R (fun K' J=>Ad tbk [] 3 R R<|J 2 R R R) (fun h39 K' J=>Bk R R R R R (Ai R)<|Bk R R R R R (C2 Da R R)<|Aa R R (Bs false R R R)<|J 2 R R R)<|Ac<|Ao hm R (fun h40 hm=>?_) fun h40 hm=> ?_
   ·refine Ae<|Bd hm fun r9 h41 hm=>Av (Ax [14,15,0,1,2,3,4,5,6,7,8,9,10,11,12,13] R)<|Ab R R<|Aq 2 R fn37 R (K173 A2 A3 ([] : List T_cloud_pool) ([] : List T_cloud_inst) ([] : List Nat) ([] : List Nat) r9 h41) fun _ _ h42=> ?_
    obtain ⟨bs11,bs12,rfl,rfl⟩:=h42
    exact Aa R R (Aj R)<|Ac<|Rt1 hm R [] R R R
   refine Al<|Af<|Ag tbk [] R R<|B5 hm (fun _ (gg:List Nat × List Nat)=>[]) (fun j (gg:List Nat × List Nat)=>[.ar A0 144 gg.1 (List.map T_cloud_pool.cells j.1),.ar A1 157 gg.2 (List.map (T_cloud_inst.cells A0 A1) j.2),.ar A2 144 ([] : List Nat) (List.map T_cloud_pool.cells ([] : List T_cloud_pool)),.ar A3 157 ([] : List Nat) (List.map (T_cloud_inst.cells A0 A1) ([] : List T_cloud_inst))]) (fun o hm h44=>?_) fun j=>Pq fun bs17 bs18 hm=> ?_
   ·refine Ca (fun zn (zs:T_world_World × T_cloud_Cloud × T_drain_Table × Int × List T_cloud_pool × List T_cloud_inst)=>law28_DrainOwn.l1 c zn zs.1 zs.2.1 zs.2.2.1 zs.2.2.2.1 zs.2.2.2.2.1 zs.2.2.2.2.2) (fun zs (_:Option Nat × Nat × Option Nat × Nat × Option Nat × Nat × Option Nat × Nat × Option Nat × Nat × Option Nat × Nat × Nat × Option Nat × Nat × List Nat × List Nat)=>[(1,.ptr b 0),(3,.ptr b2 0),(5,.ptr b6 0),(7,Iw zs.2.2.2.1)]) (fun zs (zg:Option Nat × Nat × Option Nat × Nat × Option Nat × Nat × Option Nat × Nat × Option Nat × Nat × Option Nat × Nat × Nat × Option Nat × Nat × List Nat × List Nat)=>[.box b6 108 [Z172 zg.2.2.2.2.2.2.2.2.2.2.2.2.2.1 zs.2.2.1.l zg.2.2.2.2.2.2.2.2.2.2.2.2.2.2.1,Iw zs.2.2.1.grace,.bool zs.2.2.1.made],Q172 zg.2.2.2.2.2.2.2.2.2.2.2.2.2.1 zg.2.2.2.2.2.2.2.2.2.2.2.2.2.2.1 zs.2.2.1.l,.box b2 43 [.ptr b3 0,Z139 zg.2.2.2.2.1 zs.1.groups zg.2.2.2.2.2.1,Z103 zg.2.2.2.2.2.2.1 zs.1.budgets zg.2.2.2.2.2.2.2.1,Z68 zg.2.2.2.2.2.2.2.2.1 zs.1.ms zg.2.2.2.2.2.2.2.2.2.1,Z64 zg.2.2.2.2.2.2.2.2.2.2.1 zs.1.bs zg.2.2.2.2.2.2.2.2.2.2.2.1,.map zg.2.2.2.2.2.2.2.2.2.2.2.2.1],Q139 zg.2.2.2.2.1 zg.2.2.2.2.2.1 zs.1.groups,Q103 zg.2.2.2.2.2.2.1 zg.2.2.2.2.2.2.2.1 zs.1.budgets,Q68 zg.2.2.2.2.2.2.2.2.1 zg.2.2.2.2.2.2.2.2.2.1 zs.1.ms,Q64 zg.2.2.2.2.2.2.2.2.2.2.1 zg.2.2.2.2.2.2.2.2.2.2.2.1 zs.1.bs,.map zg.2.2.2.2.2.2.2.2.2.2.2.2.1 (List.map (pf VV.str (VV.int .i64)) zs.1.held),.box b3 149 [Z140 A0 A1 zg.1 zs.2.1.pools zg.2.1,Z152 A0 A1 zg.2.2.1 zs.2.1.insts zg.2.2.2.1,Iw zs.2.1.delay,Iw zs.2.1.now,Iw zs.2.1.calls],Q140 A0 A1 zg.1 zg.2.1 zs.2.1.pools,Q152 A0 A1 zg.2.2.1 zg.2.2.2.1 zs.2.1.insts,.ar A0 144 zg.2.2.2.2.2.2.2.2.2.2.2.2.2.2.2.1 (List.map T_cloud_pool.cells zs.2.2.2.2.1),.ar A1 157 zg.2.2.2.2.2.2.2.2.2.2.2.2.2.2.2.2 (List.map (T_cloud_inst.cells A0 A1) zs.2.2.2.2.2),X89 b c,.ar A2 144 ([] : List Nat) (List.map T_cloud_pool.cells ([] : List T_cloud_pool)),.ar A3 157 ([] : List Nat) (List.map (T_cloud_inst.cells A0 A1) ([] : List T_cloud_inst))]) (x.1,x.2,x3,(0 : Int),r3.2.2.1,r3.2.2.2) (ob,cap,ob2,cap2,ob3,cap3,ob4,cap4,ob5,cap5,ob6,cap6,b4,ob8,cap8,bs3,bs4) (fun _=>R) hm (Ah [0,1,2,3,4,5,6,7,8,9,10,11,12,13,14,15] (by kernel_rfl) (by kernel_rfl)) fun n=>Pq fun w3=>Pq fun w4=>Pq fun t2=>Pq fun i2=>Pq fun ps2 xs2=>Pq fun ob16=>Pq fun cap16=>Pq fun ob17=>Pq fun cap17=>Pq fun ob18=>Pq fun cap18=>Pq fun ob19=>Pq fun cap19=>Pq fun ob20=>Pq fun cap20=>Pq fun ob21=>Pq fun cap21=>Pq fun b8=>Pq fun ob22=>Pq fun cap22=>Pq fun bs15 bs16 hm=> ?_
    rw [law28_DrainOwn.l1] at hm
    refine Af<|Ae<|Ad tbk [13] 3 R R<|Aa R R (A7 T_law28_Op.vv R Tryz.underlying87)<|Ad tbk [] 2 R R<|Cu tbk [] 3 59 56 R R R R R<|Ac<|Ao hm R (fun h46 hm=>?_) fun h46 hm=> ?_
    ·refine Al<|Af<|Aw<|Ae<|Ad tbk [13] 3 R R<|Bd hm fun x4 h47 hm=>Aa R R (Bw T_law28_Op.vv R R el87 h47)<|Aa R R (Bt R ld95 R)<|Ab R R<|Au z95 fun b9=>Ab R R<|Ak (i:=0) R R R ld95 R R R<|Ac<|Af<|Ae<|Ad tbk [0] 2 R R<|Ab R R<|Ay hm 0 R fn9 R (law18_Op_Light_ok _) fun r10 hm=>Ad tbk [] 2 R R<|Bx hm 5 76 71 R (fun _ K' h50 J hm=>Ad tbk [] 5 R R<|J 4 R R (Bj hm)) (fun _ K' h50 J hm=>Bk R R R R R (Ai R)<|Av (Ax [3,4,5,6,7,8,9,10,11,0,1,2,12,13,14,15,16] R)<|Bh R R R R R<|Cj hm 9 R fn19 R (K138 A0 A1 _ _ _ _ _ _ _ _ _ _ _ _ _ _ _ _ _) fun r11 ob23 cap23 hm=>Av (Az 0 [(73,L68 r11)] R ⟨⟨_,R,.here _ R⟩,trivial⟩ (FzH.refl _))<|Bk R R R R R (A7 T_api_Machine.vv R Cv)<|Ad tbk [] 2 R R<|Av (Ax [9,10,11,0,1,2,3,4,5,6,7,8,12,13,14,15,16] R)<|J 5 R R (Bj hm)) fun c2 hm=>Ac<|Ao hm R (fun h54 hm=>A6<|Ba tbk [] R R<|Ap (w3,w4,t2,(IntKind.i64.wrap (i2 + (1 : Int))),ps2,xs2) (ob16,cap16,ob17,cap17,ob18,cap18,ob19,cap19,ob20,cap20,ob21,cap21,b8,ob22,cap22,bs15,bs16) hm (Ah [1,2,3,4,5,6,7,8,9,10,11,12,13,14,15,16] (by kernel_rfl) (by kernel_rfl))) fun h54 hm=>Al<|Af<|Ag tbk [0] R R<|Ao hm R (fun h55 hm=>?_) fun h55 hm=> ?_
     ·refine Ae<|Ad tbk [0] 5 R R<|Bd hm fun r12 h56 hm=>Av (Ax [1,2,3,4,5,6,7,8,9,10,11,0,12,13,14,15,16] R)<|Ab R R<|Aq 11 R fn39 R (K146 A0 A1 t2 w3 w4 x4.W.Name b6 ob22 cap22 b2 ob18 cap18 ob19 cap19 ob20 cap20 ob21 cap21 b8 b3 ob16 cap16 ob17 cap17 r12 h56) fun _ _ h57=> ?_
      obtain ⟨ob24,cap24,ob25,cap25,ob26,cap26,ob27,cap27,ob28,cap28,b10,rfl,rfl⟩:=h57
      exact Ac<|A6<|Ba tbk [] R R<|Ap (r12.2.2,w4,r12.2.1,(IntKind.i64.wrap (i2 + (1 : Int))),ps2,xs2) (ob16,cap16,ob17,cap17,ob25,cap25,ob26,cap26,ob27,cap27,ob28,cap28,b10,ob24,cap24,bs15,bs16) hm (Ah [0,1,2,3,4,5,6,7,8,9,10,12,13,14,15,16] (by kernel_rfl) (by kernel_rfl))
     refine Al<|Af<|Ag tbk [0] R R<|Ao hm R (fun h58 hm=>?_) fun h58 hm=> ?_
     ·refine Dq hm (fun _ (gg:Option Nat × Nat × Option Nat × Nat × Option Nat × Nat × Option Nat × Nat × Option Nat × Nat × Option Nat × Nat × Nat × List Nat × List Nat)=>[(1,.ptr b 0),(3,.ptr b2 0),(5,.ptr b6 0),(7,Iw i2)]) (fun j2 (gg:Option Nat × Nat × Option Nat × Nat × Option Nat × Nat × Option Nat × Nat × Option Nat × Nat × Option Nat × Nat × Nat × List Nat × List Nat)=>[.box b2 43 [.ptr b3 0,Z139 gg.2.2.2.2.1 j2.1.groups gg.2.2.2.2.2.1,Z103 gg.2.2.2.2.2.2.1 j2.1.budgets gg.2.2.2.2.2.2.2.1,Z68 gg.2.2.2.2.2.2.2.2.1 j2.1.ms gg.2.2.2.2.2.2.2.2.2.1,Z64 gg.2.2.2.2.2.2.2.2.2.2.1 j2.1.bs gg.2.2.2.2.2.2.2.2.2.2.2.1,.map gg.2.2.2.2.2.2.2.2.2.2.2.2.1],Q139 gg.2.2.2.2.1 gg.2.2.2.2.2.1 j2.1.groups,Q103 gg.2.2.2.2.2.2.1 gg.2.2.2.2.2.2.2.1 j2.1.budgets,Q68 gg.2.2.2.2.2.2.2.2.1 gg.2.2.2.2.2.2.2.2.2.1 j2.1.ms,Q64 gg.2.2.2.2.2.2.2.2.2.2.1 gg.2.2.2.2.2.2.2.2.2.2.2.1 j2.1.bs,.map gg.2.2.2.2.2.2.2.2.2.2.2.2.1 (List.map (pf VV.str (VV.int .i64)) j2.1.held),.box b3 149 [Z140 A0 A1 gg.1 j2.2.1.pools gg.2.1,Z152 A0 A1 gg.2.2.1 j2.2.1.insts gg.2.2.2.1,Iw j2.2.1.delay,Iw j2.2.1.now,Iw j2.2.1.calls],Q140 A0 A1 gg.1 gg.2.1 j2.2.1.pools,Q152 A0 A1 gg.2.2.1 gg.2.2.2.1 j2.2.1.insts,.ar A0 144 gg.2.2.2.2.2.2.2.2.2.2.2.2.2.1 (List.map T_cloud_pool.cells j2.2.2.1),.ar A1 157 gg.2.2.2.2.2.2.2.2.2.2.2.2.2.2 (List.map (T_cloud_inst.cells A0 A1) j2.2.2.2),.box b6 108 [Z172 ob22 t2.l cap22,Iw t2.grace,.bool t2.made],Q172 ob22 cap22 t2.l,X89 b c,.ar A2 144 ([] : List Nat) (List.map T_cloud_pool.cells ([] : List T_cloud_pool)),.ar A3 157 ([] : List Nat) (List.map (T_cloud_inst.cells A0 A1) ([] : List T_cloud_inst))]) (fun o2 hm=>?_) fun j2=>Pq fun ob29=>Pq fun cap29=>Pq fun ob30=>Pq fun cap30=>Pq fun ob31=>Pq fun cap31=>Pq fun ob32=>Pq fun cap32=>Pq fun ob33=>Pq fun cap33=>Pq fun ob34=>Pq fun cap34=>Pq fun b11=>Pq fun bs19 bs20 hm=> ?_
      ·refine Ag tbk [0] R R<|Ao hm R (fun h61 hm=>?_) fun h61 hm=> ?_
       ·refine Bv<|Ad tbk [0] 3 R R<|Bd hm fun r13 h62 hm=>Av (Ax [3,4,5,6,7,8,9,10,11,12,13,0,1,2,14,15,16] R)<|Ab R R<|Aq 11 R fn40 R (K179 A0 A1 w3 w4 x4.W ps2 xs2 b2 ob18 cap18 ob19 cap19 ob20 cap20 ob21 cap21 b8 b3 ob16 cap16 ob17 cap17 bs15 bs16 r13 h62) fun _ _ h63=> ?_
        obtain ⟨ob35,cap35,ob36,cap36,ob37,cap37,ob38,cap38,b12,ob39,cap39,ob40,cap40,bs21,bs22,rfl,rfl⟩:=h63
        exact Ac<|As (ob39,cap39,ob40,cap40,ob35,cap35,ob36,cap36,ob37,cap37,ob38,cap38,b12,bs21,bs22) hm (Ah [0,1,2,3,4,5,6,7,8,9,10,12,13,14,15,16] (by kernel_rfl) (by kernel_rfl))
       exact Al<|As (ob16,cap16,ob17,cap17,ob18,cap18,ob19,cap19,ob20,cap20,ob21,cap21,b8,bs15,bs16) hm (Ah [3,4,5,6,7,8,9,10,11,12,13,1,2,14,15,16] (by kernel_rfl) (by kernel_rfl))
      exact A6<|Ba tbk [] R R<|Ap (j2.1,j2.2.1,t2,(IntKind.i64.wrap (i2 + (1 : Int))),j2.2.2.1,j2.2.2.2) (ob29,cap29,ob30,cap30,ob31,cap31,ob32,cap32,ob33,cap33,ob34,cap34,b11,ob22,cap22,bs19,bs20) hm (Ah [11,12,0,1,2,3,4,5,6,7,8,9,10,13,14,15] (by kernel_rfl) (by kernel_rfl))
     refine Al<|Ae<|Aa R R (Ai R)<|Av (Ax [1,2,0,3,4,5,6,7,8,9,10,11,12,13,14,15,16] R)<|Ab R R<|Ay hm 2 R fn41 R (K172 _ _ _ _) fun r14 hm=>Aa R R (Aj R)<|Ac<|Ae<|Aa R R (Ai R)<|Av (Ax [3,4,5,6,7,8,9,10,11,0,1,2,12,13,14,15,16] R)<|Ab R R<|Cj hm 9 R fn20 R (K148 A0 A1 _ _ _ _ _ _ _ _ _ _ _ _ _ _ _ _ _) fun r15 ob41 cap41 hm=>Av (Az 0 [(100,L64 r15)] R ⟨⟨_,R,.here _ R⟩,trivial⟩ (FzH.refl _))<|Aa R R (Aj R)<|Ac<|Ae<|Ad tbk [0] 4 R R<|Av (Ax [6,7,8,12,13,0,1,2,3,4,5,9,10,11,14,15,16] R)<|Ab R R<|Cj hm 5 R fn27 R (K46 A0 A1 _ _ _ _ _ _ _ _ _ _) fun r16 ob42 cap42 hm=>Av (Az 0 [(105,L70 r16)] R ⟨⟨_,R,.here _ R⟩,trivial⟩ (FzH.refl _))<|Aa R R (Aj R)<|Ac<|Ae<|Ad tbk [] 2 R R<|Bd hm fun r17 h69 hm=>Av (Ax [11,12,5,6,7,8,9,10,0,1,2,3,4,13,14,15,16] R)<|Ab R R<|Aq 13 R fn42 R (K165 A0 A1 t2 w3 w4 ps2 xs2 b6 ob22 cap22 b2 ob18 cap18 ob19 cap19 ob20 cap20 ob21 cap21 b8 b3 ob16 cap16 ob17 cap17 bs15 bs16 r17 h69) fun _ _ h102=> ?_
     obtain ⟨ob43,cap43,ob44,cap44,ob45,cap45,ob46,cap46,ob47,cap47,ob48,cap48,b13,ob49,cap49,ob50,cap50,bs23,bs24,rfl,rfl⟩:=h102
     refine Av (Az 0 [(108,L9 r17.1)] R ⟨⟨_,R,.here _ R⟩,trivial⟩ (FzH.refl _))<|Ac<|Af<|Ae<|Ad tbk [] 4 R R<|Av (Ax [2,3,4,5,6,7,8,9,10,11,12,0,1,13,14,15,16] R)<|Ab R R<|Ay hm 11 R fn43 R (K0 A0 A1 _ _ _ _ _ _ _ _ _ _ _ _ _ _ _ _ _ _ _ _ _ _ _ _) fun r18 hm=>Aa R R (Cp R)<|Ac<|Ao hm R (fun h72 hm=>Ag tbk [] R R<|have hm:=Lr hm h44;Rt1 hm R [] R R R) fun h72 hm=>Al<|Af<|Ag tbk [] R R<|B5 hm (fun _ (_:Unit)=>[(1,.ptr b 0),(3,.ptr b2 0),(5,.ptr b6 0),(7,Iw i2),(9,L9 r14)]) (fun _ (_:Unit)=>[.box b2 43 [.ptr b3 0,Z139 ob45 r17.2.2.1.groups cap45,Z103 ob46 r17.2.2.1.budgets cap46,Z68 ob47 r17.2.2.1.ms cap47,Z64 ob48 r17.2.2.1.bs cap48,.map b13],Q139 ob45 cap45 r17.2.2.1.groups,Q103 ob46 cap46 r17.2.2.1.budgets,Q68 ob47 cap47 r17.2.2.1.ms,Q64 ob48 cap48 r17.2.2.1.bs,.map b13 (List.map (pf VV.str (VV.int .i64)) r17.2.2.1.held),.box b3 149 [Z140 A0 A1 ob49 r17.2.2.2.1.pools cap49,Z152 A0 A1 ob50 r17.2.2.2.1.insts cap50,Iw r17.2.2.2.1.delay,Iw r17.2.2.2.1.now,Iw r17.2.2.2.1.calls],Q140 A0 A1 ob49 cap49 r17.2.2.2.1.pools,Q152 A0 A1 ob50 cap50 r17.2.2.2.1.insts,.ar A0 144 bs23 (List.map T_cloud_pool.cells r17.2.2.2.2.1),.ar A1 157 bs24 (List.map (T_cloud_inst.cells A0 A1) r17.2.2.2.2.2),.box b6 108 [Z172 ob44 r17.2.1.l cap44,Iw r17.2.1.grace,.bool r17.2.1.made],Q172 ob44 cap44 r17.2.1.l,X89 b c,.ar A2 144 ([] : List Nat) (List.map T_cloud_pool.cells ([] : List T_cloud_pool)),.ar A3 157 ([] : List Nat) (List.map (T_cloud_inst.cells A0 A1) ([] : List T_cloud_inst))]) (fun o3 hm h74=>?_) fun j3 _ hm=> ?_
     ·refine Ca (fun zn (zs:Int)=>law28_DrainOwn.l2 c r15 r17 zn zs) (fun zs (_:Unit)=>[(1,.ptr b 0),(3,.ptr b2 0),(5,.ptr b6 0),(7,Iw i2),(9,L9 r14),(10,L64 r15),(12,Iw zs)]) (fun _ (_:Unit)=>[.box b2 43 [.ptr b3 0,Z139 ob45 r17.2.2.1.groups cap45,Z103 ob46 r17.2.2.1.budgets cap46,Z68 ob47 r17.2.2.1.ms cap47,Z64 ob48 r17.2.2.1.bs cap48,.map b13],Q139 ob45 cap45 r17.2.2.1.groups,Q103 ob46 cap46 r17.2.2.1.budgets,Q68 ob47 cap47 r17.2.2.1.ms,Q64 ob48 cap48 r17.2.2.1.bs,.map b13 (List.map (pf VV.str (VV.int .i64)) r17.2.2.1.held),.box b3 149 [Z140 A0 A1 ob49 r17.2.2.2.1.pools cap49,Z152 A0 A1 ob50 r17.2.2.2.1.insts cap50,Iw r17.2.2.2.1.delay,Iw r17.2.2.2.1.now,Iw r17.2.2.2.1.calls],Q140 A0 A1 ob49 cap49 r17.2.2.2.1.pools,Q152 A0 A1 ob50 cap50 r17.2.2.2.1.insts,.ar A0 144 bs23 (List.map T_cloud_pool.cells r17.2.2.2.2.1),.ar A1 157 bs24 (List.map (T_cloud_inst.cells A0 A1) r17.2.2.2.2.2),.box b6 108 [Z172 ob44 r17.2.1.l cap44,Iw r17.2.1.grace,.bool r17.2.1.made],Q172 ob44 cap44 r17.2.1.l,X89 b c,.ar A2 144 ([] : List Nat) (List.map T_cloud_pool.cells ([] : List T_cloud_pool)),.ar A3 157 ([] : List Nat) (List.map (T_cloud_inst.cells A0 A1) ([] : List T_cloud_inst))]) (0 : Int) () (fun _=>R) hm (Ah [0,1,2,3,4,5,6,7,8,9,10,11,12,14,15,16] (by kernel_rfl) (by kernel_rfl)) fun n2 k2 _ hm=> ?_
      rw [law28_DrainOwn.l2] at hm
      refine Af<|Ae<|Ad tbk [13] 3 R R<|Aa R R (A7 T_api_Budget.vv R Cw)<|Aa R R (Br R R R)<|Ac<|Ao hm R (fun h75 hm=>?_) fun h75 hm=> ?_
      ·refine Al<|Af<|Aw<|Af<|Bi 9 mixed<|A9 tbk [0,1,2] [4] (by kernel_rfl) R R R<|Bd hm fun x5 h76 hm=>Bb 3 R R R (by kernel_rfl) (Bw T_api_Budget.vv R R el38 h76)<|A9 tbk [4,5] [] (by kernel_rfl) R R R<|Am 6 (by kernel_rfl)<|Bd hm fun r19 h77 hm=>An R R R<|Aq 0 R fn44 R (K3 x5 r15 r19 h77) fun _ _ h85=> ?_
       obtain ⟨rfl,rfl⟩:=h85
       exact A9 tbk [7,8] [] (by kernel_rfl) R R R<|Dk hm [18,17,16,15,14,13,12,11,10,9,8,7,6,5,4,3,2,1,0] 140 130 R (fun _ K' h78 J hm=>A9 tbk [9,10,11] [4] (by kernel_rfl) R R R<|Bd hm fun x6 h79 hm=>Dl 12 R R R R R R (by kernel_rfl) (Bw T_api_Budget.vv R R el38 h79)<|A9 tbk [13,14] [] (by kernel_rfl) R R R<|Am 15 (by kernel_rfl)<|Dm R R R R R R<|Cj hm 9 R fn20 R (K148 A0 A1 _ _ _ _ _ _ _ _ _ _ _ _ _ _ _ _ _) fun r20 ob51 cap51 hm=>Cs (Az 0 [(137,L64 r20)] R ⟨⟨_,R,.here _ R⟩,trivial⟩ (FzH.refl _))<|Am 16 (by kernel_rfl)<|Dm R R R R R R<|Ay hm 0 R fn44 R (K3 _ _) fun r21 hm=>A9 tbk [17,18] [] (by kernel_rfl) R R R<|J 10 R R (Bj hm)) (fun _ K' h78 J hm=>A9 tbk [9,10,11,12,13,14,15,16,17,18] [] (by kernel_rfl) R R R<|J 9 R R (Bj hm)) fun c3 hm=>A5 (by kernel_rfl)<|Ao hm R (fun h84 hm=>Ag tbk [] R R<|have hm:=Lr hm h74;have hm:=Lr hm h44;Rt1 hm R [] R R R) fun h84 hm=>Al<|Ba tbk [] R R<|Ap (IntKind.i64.wrap (k2 + (1 : Int))) () hm (Ah [0,1,2,3,4,5,6,7,8,9,10,11,12,13,14,15] (by kernel_rfl) (by kernel_rfl))
      exact A6<|Ar () hm (Ah [0,1,2,3,4,5,6,7,8,9,10,11,12,13,14,15] (by kernel_rfl) (by kernel_rfl))
     refine Ae<|Aa R R (Ai R)<|Av (Ax [11,12,0,1,2,3,4,5,6,7,8,9,10,13,14,15] R)<|Ab R R<|Ay hm 2 R fn41 R (K172 _ _ _ _) fun r22 hm=>Aa R R (Aj R)<|Ac<|Ae<|Aa R R (Ai R)<|Av (Ax [2,3,4,5,6,7,8,9,10,0,1,11,12,13,14,15] R)<|Ab R R<|Cj hm 9 R fn19 R (K138 A0 A1 _ _ _ _ _ _ _ _ _ _ _ _ _ _ _ _ _) fun r23 ob52 cap52 hm=>Av (Az 0 [(144,L68 r23)] R ⟨⟨_,R,.here _ R⟩,trivial⟩ (FzH.refl _))<|Aa R R (Aj R)<|Ac<|Ag tbk [] R R<|B5 hm (fun _ (_:Unit)=>[(1,.ptr b 0),(3,.ptr b2 0),(5,.ptr b6 0),(7,Iw i2)]) (fun _ (_:Unit)=>[.box b2 43 [.ptr b3 0,Z139 ob45 r17.2.2.1.groups cap45,Z103 ob46 r17.2.2.1.budgets cap46,Z68 ob47 r17.2.2.1.ms cap47,Z64 ob48 r17.2.2.1.bs cap48,.map b13],Q139 ob45 cap45 r17.2.2.1.groups,Q103 ob46 cap46 r17.2.2.1.budgets,Q68 ob47 cap47 r17.2.2.1.ms,Q64 ob48 cap48 r17.2.2.1.bs,.map b13 (List.map (pf VV.str (VV.int .i64)) r17.2.2.1.held),.box b3 149 [Z140 A0 A1 ob49 r17.2.2.2.1.pools cap49,Z152 A0 A1 ob50 r17.2.2.2.1.insts cap50,Iw r17.2.2.2.1.delay,Iw r17.2.2.2.1.now,Iw r17.2.2.2.1.calls],Q140 A0 A1 ob49 cap49 r17.2.2.2.1.pools,Q152 A0 A1 ob50 cap50 r17.2.2.2.1.insts,.box b6 108 [Z172 ob44 r17.2.1.l cap44,Iw r17.2.1.grace,.bool r17.2.1.made],Q172 ob44 cap44 r17.2.1.l,.ar A0 144 bs23 (List.map T_cloud_pool.cells r17.2.2.2.2.1),.ar A1 157 bs24 (List.map (T_cloud_inst.cells A0 A1) r17.2.2.2.2.2),X89 b c,.ar A2 144 ([] : List Nat) (List.map T_cloud_pool.cells ([] : List T_cloud_pool)),.ar A3 157 ([] : List Nat) (List.map (T_cloud_inst.cells A0 A1) ([] : List T_cloud_inst))]) (fun o4 hm h90=>?_) fun j4 _ hm=> ?_
     ·refine Ca (fun zn (zs:Int)=>law28_DrainOwn.l3 r14 r22 r23 zn zs) (fun zs (_:Unit)=>[(1,.ptr b 0),(3,.ptr b2 0),(5,.ptr b6 0),(7,Iw i2),(9,L9 r14),(13,L9 r22),(14,L68 r23),(15,Iw zs)]) (fun _ (_:Unit)=>[.box b2 43 [.ptr b3 0,Z139 ob45 r17.2.2.1.groups cap45,Z103 ob46 r17.2.2.1.budgets cap46,Z68 ob47 r17.2.2.1.ms cap47,Z64 ob48 r17.2.2.1.bs cap48,.map b13],Q139 ob45 cap45 r17.2.2.1.groups,Q103 ob46 cap46 r17.2.2.1.budgets,Q68 ob47 cap47 r17.2.2.1.ms,Q64 ob48 cap48 r17.2.2.1.bs,.map b13 (List.map (pf VV.str (VV.int .i64)) r17.2.2.1.held),.box b3 149 [Z140 A0 A1 ob49 r17.2.2.2.1.pools cap49,Z152 A0 A1 ob50 r17.2.2.2.1.insts cap50,Iw r17.2.2.2.1.delay,Iw r17.2.2.2.1.now,Iw r17.2.2.2.1.calls],Q140 A0 A1 ob49 cap49 r17.2.2.2.1.pools,Q152 A0 A1 ob50 cap50 r17.2.2.2.1.insts,.box b6 108 [Z172 ob44 r17.2.1.l cap44,Iw r17.2.1.grace,.bool r17.2.1.made],Q172 ob44 cap44 r17.2.1.l,.ar A0 144 bs23 (List.map T_cloud_pool.cells r17.2.2.2.2.1),.ar A1 157 bs24 (List.map (T_cloud_inst.cells A0 A1) r17.2.2.2.2.2),X89 b c,.ar A2 144 ([] : List Nat) (List.map T_cloud_pool.cells ([] : List T_cloud_pool)),.ar A3 157 ([] : List Nat) (List.map (T_cloud_inst.cells A0 A1) ([] : List T_cloud_inst))]) (0 : Int) () (fun _=>R) hm (Ah [0,1,2,3,4,5,6,7,8,9,10,11,12,13,14,15] (by kernel_rfl) (by kernel_rfl)) fun n3 k4 _ hm=> ?_
      rw [law28_DrainOwn.l3] at hm
      refine Af<|Ae<|Ad tbk [] 2 R R<|Aa R R (A7 T_api_Machine.vv R Cv)<|Aa R R (Br R R R)<|Ac<|Ao hm R (fun h91 hm=>?_) fun h91 hm=> ?_
      ·refine Al<|Af<|Aw<|Af<|Bi 0 mixed<|A9 tbk [0,1,2] [] (by kernel_rfl) R R R<|Bd hm fun x7 h92 hm=>Bb 3 R R R (by kernel_rfl) (Bw T_api_Machine.vv R R el39 h92)<|A9 tbk [4,5] [] (by kernel_rfl) R R R<|Am 6 (by kernel_rfl)<|Bd hm fun r24 h93 hm=>An R R R<|Aq 0 R fn45 R (K181 r14 x7.Name r24 h93) fun _ _ h101=> ?_
       obtain ⟨rfl,rfl⟩:=h101
       exact Bb 7 R R R (by kernel_rfl) (Ai R)<|Dk hm [21,20,19,18,17,16,15,14,13,12,11,10,9,8,7,6,5,4,3,2,1,0] 172 158 R (fun _ K' h94 J hm=>A9 tbk [8,9] [] (by kernel_rfl) R R R<|Bd hm fun x8 h95 hm=>Dl 10 R R R R R R (by kernel_rfl) (Bw T_api_Machine.vv R R el39 h95)<|A9 tbk [11,13,14,15] [] (by kernel_rfl) R R R<|Bd hm fun x9 h96 hm=>Dl 16 R R R R R R (by kernel_rfl) (Bw T_api_Machine.vv R R el39 h96)<|A9 tbk [17,18] [] (by kernel_rfl) R R R<|Am 12 (by kernel_rfl)<|Dm R R R R R R<|Ay hm 0 R fn46 R (K4 _) fun r25 hm=>Am 19 (by kernel_rfl)<|Dm R R R R R R<|Ay hm 0 R fn45 R (K181 _ _) fun r26 hm=>Dl 20 R R R R R R (by kernel_rfl) (VP.boolop Tryz.underlying4 R R R)<|Bb 21 R R R (by kernel_rfl) (Bs true R R R)<|VA.reord [21,20,19,18,17,16,15,14,13,12,11,10,9,8,7,6,5,4,3,2,1,0] (by kernel_rfl) R<|J 13 R R (Bj hm)) (fun _ K' h94 J hm=>A9 tbk [8,9,10,11,12,13,14,15,16,17,18,19,20,21] [] (by kernel_rfl) R R R<|J 13 R R (Bj hm)) fun c4 hm=>A5 (by kernel_rfl)<|Ao hm R (fun h100 hm=>Ag tbk [] R R<|have hm:=Lr hm h90;have hm:=Lr hm h44;Rt1 hm R [] R R R) fun h100 hm=>Al<|Ba tbk [] R R<|Ap (IntKind.i64.wrap (k4 + (1 : Int))) () hm (Ah [0,1,2,3,4,5,6,7,8,9,10,11,12,13,14,15] (by kernel_rfl) (by kernel_rfl))
      exact A6<|Ar () hm (Ah [0,1,2,3,4,5,6,7,8,9,10,11,12,13,14,15] (by kernel_rfl) (by kernel_rfl))
     exact Ba tbk [] R R<|Ap (r17.2.2.1,r17.2.2.2.1,r17.2.1,(IntKind.i64.wrap (i2 + (1 : Int))),r17.2.2.2.2.1,r17.2.2.2.2.2) (ob49,cap49,ob50,cap50,ob45,cap45,ob46,cap46,ob47,cap47,ob48,cap48,b13,ob44,cap44,bs23,bs24) hm (Ah [9,10,0,1,2,3,4,5,6,7,8,11,12,13,14,15] (by kernel_rfl) (by kernel_rfl))
    exact A6<|Ar (bs15,bs16) hm (Ah [11,12,14,15] R R)
   refine Ae<|Bd hm fun r27 h103 hm=>Av (Ax [2,3,0,1] R)<|Ab R R<|Aq 2 R fn37 R (K173 A2 A3 ([] : List T_cloud_pool) ([] : List T_cloud_inst) ([] : List Nat) ([] : List Nat) r27 h103) fun _ _ h104=> ?_
   obtain ⟨bs25,bs26,rfl,rfl⟩:=h104
   exact Aa R R (Aj R)<|Ac<|Rt1 hm R [] R R R

def ref01_more (s : ByteArray) (i : Int) : Option Bool :=
 (if (decide (i < (s.size : Int))) = true then (V.gi s i).bind fun v =>
 some (decide (v ≥ 128)) else some false).bind fun c =>
 (if c = true then (V.gi s i).bind fun v2 =>
 some (decide (v2 < 192)) else some false).bind fun c2 =>
 some c2
def ref01_Rune (s : ByteArray) (i : Int) : Option (Int × Int) :=
 (V.gi s i).bind fun v =>
 if (decide ((i64.wrap v) < 128)) = true then
  some ((i64.wrap v), 1)
 else
  (if ((decide ((i64.wrap v) ≥ 192)) && (decide ((i64.wrap v) < 224))) = true then (ref01_more s (i64.wrap (i + 1))).bind fun r =>
  some r else some false).bind fun c =>
  if c = true then
   (V.gi s (i64.wrap (i + 1))).bind fun v2 =>
   if (decide ((i64.wrap ((i64.wrap ((i64.wrap ((i64.wrap ((i64.wrap v) - 192)) * 64)) + (i64.wrap v2))) - 128)) ≥ 128)) = true then
    some ((i64.wrap ((i64.wrap ((i64.wrap ((i64.wrap ((i64.wrap v) - 192)) * 64)) + (i64.wrap v2))) - 128)), 2)
   else
    some (0, 0)
  else
   (if ((decide ((i64.wrap v) ≥ 224)) && (decide ((i64.wrap v) < 240))) = true then (ref01_more s (i64.wrap (i + 1))).bind fun r2 =>
   some r2 else some false).bind fun c2 =>
   (if c2 = true then (ref01_more s (i64.wrap (i + 2))).bind fun r3 =>
   some r3 else some false).bind fun c3 =>
   if c3 = true then
    (V.gi s (i64.wrap (i + 1))).bind fun v3 =>
    (V.gi s (i64.wrap (i + 2))).bind fun v4 =>
    if ((decide ((i64.wrap ((i64.wrap ((i64.wrap ((i64.wrap ((i64.wrap ((i64.wrap v) - 224)) * 4096)) + (i64.wrap ((i64.wrap ((i64.wrap v3) - 128)) * 64)))) + (i64.wrap v4))) - 128)) ≥ 2048)) && ((decide ((i64.wrap ((i64.wrap ((i64.wrap ((i64.wrap ((i64.wrap ((i64.wrap v) - 224)) * 4096)) + (i64.wrap ((i64.wrap ((i64.wrap v3) - 128)) * 64)))) + (i64.wrap v4))) - 128)) < 55296)) || (decide ((i64.wrap ((i64.wrap ((i64.wrap ((i64.wrap ((i64.wrap ((i64.wrap v) - 224)) * 4096)) + (i64.wrap ((i64.wrap ((i64.wrap v3) - 128)) * 64)))) + (i64.wrap v4))) - 128)) > 57343)))) = true then
     some ((i64.wrap ((i64.wrap ((i64.wrap ((i64.wrap ((i64.wrap ((i64.wrap v) - 224)) * 4096)) + (i64.wrap ((i64.wrap ((i64.wrap v3) - 128)) * 64)))) + (i64.wrap v4))) - 128)), 3)
    else
     some (0, 0)
   else
    (if ((decide ((i64.wrap v) ≥ 240)) && (decide ((i64.wrap v) < 248))) = true then (ref01_more s (i64.wrap (i + 1))).bind fun r4 =>
    some r4 else some false).bind fun c4 =>
    (if c4 = true then (ref01_more s (i64.wrap (i + 2))).bind fun r5 =>
    some r5 else some false).bind fun c5 =>
    (if c5 = true then (ref01_more s (i64.wrap (i + 3))).bind fun r6 =>
    some r6 else some false).bind fun c6 =>
    if c6 = true then
     (V.gi s (i64.wrap (i + 1))).bind fun v5 =>
     (V.gi s (i64.wrap (i + 2))).bind fun v6 =>
     (V.gi s (i64.wrap (i + 3))).bind fun v7 =>
     if ((decide ((i64.wrap ((i64.wrap ((i64.wrap ((i64.wrap ((i64.wrap ((i64.wrap ((i64.wrap v) - 240)) * 262144)) + (i64.wrap ((i64.wrap ((i64.wrap v5) - 128)) * 4096)))) + (i64.wrap ((i64.wrap ((i64.wrap v6) - 128)) * 64)))) + (i64.wrap v7))) - 128)) ≥ 65536)) && (decide ((i64.wrap ((i64.wrap ((i64.wrap ((i64.wrap ((i64.wrap ((i64.wrap ((i64.wrap v) - 240)) * 262144)) + (i64.wrap ((i64.wrap ((i64.wrap v5) - 128)) * 4096)))) + (i64.wrap ((i64.wrap ((i64.wrap v6) - 128)) * 64)))) + (i64.wrap v7))) - 128)) ≤ 1114111))) = true then
      some ((i64.wrap ((i64.wrap ((i64.wrap ((i64.wrap ((i64.wrap ((i64.wrap ((i64.wrap v) - 240)) * 262144)) + (i64.wrap ((i64.wrap ((i64.wrap v5) - 128)) * 4096)))) + (i64.wrap ((i64.wrap ((i64.wrap v6) - 128)) * 64)))) + (i64.wrap v7))) - 128)), 4)
     else
      some (0, 0)
    else
     some (0, 0)
def ref01_plain (c : Int) : Option Bool :=
 some ((((((decide (c > 32)) && (c != 127)) && (c != 40)) && (c != 41)) && (c != 34)) && (c != 59))
def ref01_Word.l1 (s : ByteArray) : Nat → Int → Int → Option (Out Bool Int)
 | 0, _, _ => none
 | n4 + 1, n2, i2 =>
  if (decide (i2 < (s.size : Int))) = true then
   (ref01_Rune s i2).bind fun r =>
   (if (r.2 == 0) = true then some true else (ref01_plain r.1).bind fun r2 =>
   some (!r2)).bind fun c =>
   if c = true then
    some (Out.ret false)
   else
    ref01_Word.l1 s n4 (i64.wrap (n2 + 1)) (i64.wrap (i2 + r.2))
  else
   some (Out.go n2)
def ref01_Word (s : ByteArray) : Option Bool :=
 (ref01_Word.l1 s FU 0 (0 : Int)).bind fun o =>
 o.on fun n32 =>
 some ((decide (n32 ≥ 1)) && (decide (n32 ≤ 64)))
def ref07_maybe (s : ByteArray) : Option Bool :=
 (if (V.seq s (⟨#[]⟩ : ByteArray)) = true then some true else (ref01_Word s).bind fun r =>
 some r).bind fun c =>
 some c
def ref04_one (n : Int) : Option Bool :=
 some ((decide (n ≥ 0)) && (decide (n ≤ 1125899906842624)))
def ref04_Right (a : T_api_Res) : Option Bool :=
 (ref04_one a.Cpu).bind fun r =>
 (if r = true then (ref04_one a.Mem).bind fun r2 =>
 some r2 else some false).bind fun c =>
 (if c = true then (ref04_one a.Disk).bind fun r3 =>
 some r3 else some false).bind fun c2 =>
 (if c2 = true then (ref04_one a.Pods).bind fun r4 =>
 some r4 else some false).bind fun c3 =>
 (if c3 = true then (ref04_one a.Dev).bind fun r5 =>
 some r5 else some false).bind fun c4 =>
 some c4
def ref05_maybe (s : ByteArray) : Option Bool :=
 (if (V.seq s (⟨#[]⟩ : ByteArray)) = true then some true else (ref01_Word s).bind fun r =>
 some r).bind fun c =>
 some c
def ref05_Less.l1 (a : ByteArray) (b : ByteArray) : Nat → Int → Option (Out Bool Unit)
 | 0, _ => none
 | n + 1, i2 =>
  if ((decide (i2 < (a.size : Int))) && (decide (i2 < (b.size : Int)))) = true then
   (V.gi a i2).bind fun v =>
   (V.gi b i2).bind fun v2 =>
   if (v != v2) = true then
    (V.gi a i2).bind fun v3 =>
    (V.gi b i2).bind fun v4 =>
    some (Out.ret (decide (v3 < v4)))
   else
    ref05_Less.l1 a b n (i64.wrap (i2 + 1))
  else
   some (Out.go ())
def ref05_Less (a : ByteArray) (b : ByteArray) : Option Bool :=
 (ref05_Less.l1 a b FU (0 : Int)).bind fun o =>
 o.on fun j =>
 some (decide ((a.size : Int) < (b.size : Int)))
def ref05_Right.l1 (l : List T_api_Label) : Nat → Int → Option (Out Bool Unit)
 | 0, _ => none
 | n + 1, i2 =>
  if (decide (i2 < (l.length : Int))) = true then
   (V.gl l i2).bind fun x =>
   (ref01_Word x.Key).bind fun r =>
   (if (!r) = true then some true else (V.gl l i2).bind fun x2 =>
   (ref05_maybe x2.Val).bind fun r2 =>
   some (!r2)).bind fun c =>
   (if c = true then some true else (if (decide (i2 > 0)) = true then (V.gl l (i64.wrap (i2 - 1))).bind fun x3 =>
   (V.gl l i2).bind fun x4 =>
   (ref05_Less x3.Key x4.Key).bind fun r3 =>
   some (!r3) else some false).bind fun c2 =>
   some c2).bind fun c3 =>
   if c3 = true then
    some (Out.ret false)
   else
    ref05_Right.l1 l n (i64.wrap (i2 + 1))
  else
   some (Out.go ())
def ref05_Right (l : List T_api_Label) : Option Bool :=
 if (decide ((l.length : Int) > 16)) = true then
  some false
 else
  (ref05_Right.l1 l FU (0 : Int)).bind fun o =>
  o.on fun j =>
  some true
def ref06_maybe (s : ByteArray) : Option Bool :=
 (if (V.seq s (⟨#[]⟩ : ByteArray)) = true then some true else (ref01_Word s).bind fun r =>
 some r).bind fun c =>
 some c
def ref06_effect (n : Int) : Option Bool :=
 some ((decide (n ≥ 1)) && (decide (n ≤ 3)))
def ref06_Right.l2 (l : List T_api_Taint) (i2 : Int) : Nat → Int → Option (Out (Out Bool Unit) Unit)
 | 0, _ => none
 | n2 + 1, k2 =>
  if (decide (k2 < i2)) = true then
   (V.gl l k2).bind fun x4 =>
   (V.gl l i2).bind fun x5 =>
   (if (V.seq x4.Key x5.Key) = true then (V.gl l k2).bind fun x6 =>
   (V.gl l i2).bind fun x7 =>
   some (x6.Effect == x7.Effect) else some false).bind fun c3 =>
   if c3 = true then
    some (Out.ret (Out.ret false))
   else
    ref06_Right.l2 l i2 n2 (i64.wrap (k2 + 1))
  else
   some (Out.go ())
def ref06_Right.l1 (l : List T_api_Taint) : Nat → Int → Option (Out Bool Unit)
 | 0, _ => none
 | n + 1, i2 =>
  if (decide (i2 < (l.length : Int))) = true then
   (V.gl l i2).bind fun x =>
   (ref01_Word x.Key).bind fun r =>
   (if (!r) = true then some true else (V.gl l i2).bind fun x2 =>
   (ref06_maybe x2.Val).bind fun r2 =>
   some (!r2)).bind fun c =>
   (if c = true then some true else (V.gl l i2).bind fun x3 =>
   (ref06_effect x3.Effect).bind fun r3 =>
   some (!r3)).bind fun c2 =>
   if c2 = true then
    some (Out.ret false)
   else
    (ref06_Right.l2 l i2 FU (0 : Int)).bind fun o2 =>
    o2.on fun j2 =>
    ref06_Right.l1 l n (i64.wrap (i2 + 1))
  else
   some (Out.go ())
def ref06_Right (l : List T_api_Taint) : Option Bool :=
 if (decide ((l.length : Int) > 16)) = true then
  some false
 else
  (ref06_Right.l1 l FU (0 : Int)).bind fun o =>
  o.on fun j =>
  some true
def ref07_RightMachine (m : T_api_Machine) : Option Bool :=
 (ref07_maybe m.Name).bind fun r =>
 (if r = true then (ref07_maybe m.Group).bind fun r2 =>
 some r2 else some false).bind fun c =>
 (if c = true then (ref04_Right m.Has).bind fun r3 =>
 some r3 else some false).bind fun c2 =>
 (if c2 = true then (ref05_Right m.Labels).bind fun r4 =>
 some r4 else some false).bind fun c3 =>
 (if c3 = true then (ref06_Right m.Taints).bind fun r5 =>
 some r5 else some false).bind fun c4 =>
 some c4
def ref07_in (n : Int) (low : Int) (high : Int) : Option Bool :=
 some ((decide (n ≥ low)) && (decide (n ≤ high)))
def ref03_digit (c : Int) : Option Bool :=
 some ((decide (c ≥ 48)) && (decide (c ≤ 57)))
def ref03_digits.l1 (s : ByteArray) : Nat → Int → Option Int
 | 0, _ => none
 | n4 + 1, n2 =>
  (if (decide (n2 < (s.size : Int))) = true then (V.gi s n2).bind fun v =>
  (ref03_digit v).bind fun r =>
  some r else some false).bind fun c =>
  if c = true then
   ref03_digits.l1 s n4 (i64.wrap (n2 + 1))
  else
   some n2
def ref03_digits (s : ByteArray) : Option Int :=
 (ref03_digits.l1 s FU (0 : Int)).bind fun n32 =>
 some n32
def ref03_value.l1 (s : ByteArray) : Nat → Int → Int → Option Int
 | 0, _, _ => none
 | n4 + 1, n2, i2 =>
  if (decide (i2 < (s.size : Int))) = true then
   (V.gi s i2).bind fun v =>
   ref03_value.l1 s n4 (min (i64.wrap ((i64.wrap (10 * n2)) + (i64.wrap (IntKind.u8.wrap (v - 48))))) 1125899906842625) (i64.wrap (i2 + 1))
  else
   some n2
def ref03_value (s : ByteArray) : Option Int :=
 (ref03_value.l1 s FU 0 (0 : Int)).bind fun n32 =>
 some n32
def ref03_Number (s : ByteArray) : Option (Int × Int) :=
 (if ((s.size : Int) == 0) = true then some true else (ref03_digits s).bind fun r =>
 some (decide (r < (s.size : Int)))).bind fun c =>
 if c = true then
  some (0, 8)
 else
  (ref03_value s).bind fun r2 =>
  if (decide (r2 > 1125899906842624)) = true then
   some (0, 10)
  else
   some (r2, 0)
def ref05_RightTerm.l1 (t : T_api_Term) : Nat → Int → Option (Out Bool Unit)
 | 0, _ => none
 | n + 1, i2 =>
  if (decide (i2 < (t.Vals.length : Int))) = true then
   (V.gl t.Vals i2).bind fun x =>
   (ref05_maybe x).bind fun r2 =>
   if (!r2) = true then
    some (Out.ret false)
   else
    ref05_RightTerm.l1 t n (i64.wrap (i2 + 1))
  else
   some (Out.go ())
def ref05_RightTerm (t : T_api_Term) : Option Bool :=
 (ref01_Word t.Key).bind fun r =>
 if (!r) = true then
  some false
 else
  (if (t.Op == 1) = true then
   some (t.Op == 1)
  else
   some (t.Op == 2)).bind fun v2 =>
  if v2 = true then
   (ref05_RightTerm.l1 t FU (0 : Int)).bind fun o2 =>
   o2.on fun j =>
   some ((decide ((t.Vals.length : Int) ≥ 1)) && (decide ((t.Vals.length : Int) ≤ 16)))
  else
   (if (t.Op == 3) = true then
    some (t.Op == 3)
   else
    some (t.Op == 4)).bind fun v32 =>
   if v32 = true then
    some ((t.Vals.length : Int) == 0)
   else
    (if (t.Op == 5) = true then
     some (t.Op == 5)
    else
     some (t.Op == 6)).bind fun v42 =>
    if v42 = true then
     if ((t.Vals.length : Int) != 1) = true then
      some false
     else
      (V.gl t.Vals (0 : Int)).bind fun x2 =>
      (ref03_Number x2).bind fun r3 =>
      some (r3.2 == 0)
    else
     some false
def ref06_RightBears.l1 (l : List T_api_Toleration) : Nat → Int → Option (Out Bool Unit)
 | 0, _ => none
 | n + 1, i2 =>
  if (decide (i2 < (l.length : Int))) = true then
   (V.gl l i2).bind fun x =>
   (ref06_maybe x.Key).bind fun r =>
   (if (!r) = true then some true else (ref06_maybe x.Val).bind fun r2 =>
   some (!r2)).bind fun c =>
   (if c = true then some true else (if (x.Effect != 0) = true then (ref06_effect x.Effect).bind fun r3 =>
   some (!r3) else some false).bind fun c2 =>
   some c2).bind fun c3 =>
   if ((c3 || (x.Any && (!(V.seq x.Val (⟨#[]⟩ : ByteArray))))) || ((V.seq x.Key (⟨#[]⟩ : ByteArray)) && (!x.Any))) = true then
    some (Out.ret false)
   else
    ref06_RightBears.l1 l n (i64.wrap (i2 + 1))
  else
   some (Out.go ())
def ref06_RightBears (l : List T_api_Toleration) : Option Bool :=
 if (decide ((l.length : Int) > 16)) = true then
  some false
 else
  (ref06_RightBears.l1 l FU (0 : Int)).bind fun o =>
  o.on fun j =>
  some true
def ref07_RightPod.l1 (p : T_api_Pod) : Nat → Int → Option (Out Bool Unit)
 | 0, _ => none
 | n + 1, i2 =>
  if (decide (i2 < (p.Terms.length : Int))) = true then
   (V.gl p.Terms i2).bind fun x =>
   (ref05_RightTerm x).bind fun r5 =>
   if (!r5) = true then
    some (Out.ret false)
   else
    ref07_RightPod.l1 p n (i64.wrap (i2 + 1))
  else
   some (Out.go ())
def ref07_RightPod.l2 (p : T_api_Pod) : Nat → Int → Option (Out Bool Unit)
 | 0, _ => none
 | n2 + 1, i4 =>
  if (decide (i4 < (p.Ports.length : Int))) = true then
   (V.gl p.Ports i4).bind fun x2 =>
   (ref07_in x2 1 (65535 : Int)).bind fun r6 =>
   (if (!r6) = true then some true else (if (decide (i4 > 0)) = true then (V.gl p.Ports i4).bind fun x3 =>
   (V.gl p.Ports (i64.wrap (i4 - 1))).bind fun x4 =>
   some (decide (x3 ≤ x4)) else some false).bind fun c4 =>
   some c4).bind fun c5 =>
   if c5 = true then
    some (Out.ret false)
   else
    ref07_RightPod.l2 p n2 (i64.wrap (i4 + 1))
  else
   some (Out.go ())
def ref07_RightPod (p : T_api_Pod) : Option Bool :=
 (ref01_Word p.Name).bind fun r =>
 (if (!r) = true then some true else (ref04_Right p.Need).bind fun r2 =>
 some (!r2)).bind fun c =>
 (if (c || (p.Need.Pods != 1)) = true then some true else (ref07_maybe p.Owner).bind fun r3 =>
 some (!r3)).bind fun c2 =>
 (if c2 = true then some true else (ref07_in p.Rank 0 (1000 : Int)).bind fun r4 =>
 some (!r4)).bind fun c3 =>
 if ((c3 || (decide ((p.Terms.length : Int) > 16))) || (decide ((p.Ports.length : Int) > 16))) = true then
  some false
 else
  (ref07_RightPod.l1 p FU (0 : Int)).bind fun o =>
  o.on fun j =>
  (ref07_RightPod.l2 p FU (0 : Int)).bind fun o2 =>
  o2.on fun j2 =>
  (if ((p.Wide && ((p.Apart.length : Int) == 0)) || (((p.Spread.length : Int) == 0) && (p.Skew != 0))) = true then some true else (if (decide ((p.Spread.length : Int) > 0)) = true then (ref07_in p.Skew 1 (100 : Int)).bind fun r7 =>
  some (!r7) else some false).bind fun c6 =>
  some c6).bind fun c7 =>
  if c7 = true then
   some false
  else
   (ref05_Right p.Labels).bind fun r8 =>
   (if r8 = true then (ref05_Right p.Select).bind fun r9 =>
   some r9 else some false).bind fun c8 =>
   (if c8 = true then (ref05_Right p.Apart).bind fun r10 =>
   some r10 else some false).bind fun c9 =>
   (if c9 = true then (ref05_Right p.Spread).bind fun r11 =>
   some r11 else some false).bind fun c10 =>
   (if c10 = true then (ref06_RightBears p.Bears).bind fun r12 =>
   some r12 else some false).bind fun c11 =>
   some c11
def ref09_Find.l1 (ms : List T_api_Machine) (name : ByteArray) : Nat → Int → Option (Out Int Unit)
 | 0, _ => none
 | n + 1, i2 =>
  if (decide (i2 < (ms.length : Int))) = true then
   (V.gl ms i2).bind fun x =>
   if (V.seq x.Name name) = true then
    some (Out.ret i2)
   else
    ref09_Find.l1 ms name n (i64.wrap (i2 + 1))
  else
   some (Out.go ())
def ref09_Find (ms : List T_api_Machine) (name : ByteArray) : Option Int :=
 (ref09_Find.l1 ms name FU (0 : Int)).bind fun o =>
 o.on fun j =>
 some (-1)
def ref09_Check.l1 (ms : List T_api_Machine) : Nat → Int → Option (Out Int Unit)
 | 0, _ => none
 | n + 1, i2 =>
  if (decide (i2 < (ms.length : Int))) = true then
   (V.gl ms i2).bind fun x =>
   (if (V.seq x.Name (⟨#[]⟩ : ByteArray)) = true then some true else (V.gl ms i2).bind fun x2 =>
   (ref07_RightMachine x2).bind fun r =>
   some (!r)).bind fun c =>
   if c = true then
    some (Out.ret 12)
   else
    ref09_Check.l1 ms n (i64.wrap (i2 + 1))
  else
   some (Out.go ())
def ref09_Check.l2 (bs : List T_api_Bound) : Nat → Int → Option (Out Int Unit)
 | 0, _ => none
 | n2 + 1, i4 =>
  if (decide (i4 < (bs.length : Int))) = true then
   (V.gl bs i4).bind fun x3 =>
   (ref07_RightPod x3.Pod).bind fun r2 =>
   if (!r2) = true then
    some (Out.ret 12)
   else
    ref09_Check.l2 bs n2 (i64.wrap (i4 + 1))
  else
   some (Out.go ())
def ref09_Check.l3 (ms : List T_api_Machine) : Nat → Int → Option (Out Int Unit)
 | 0, _ => none
 | n3 + 1, i6 =>
  if (decide (i6 < (ms.length : Int))) = true then
   (V.gl ms i6).bind fun x4 =>
   (ref09_Find ms x4.Name).bind fun r3 =>
   if (r3 != i6) = true then
    some (Out.ret 15)
   else
    ref09_Check.l3 ms n3 (i64.wrap (i6 + 1))
  else
   some (Out.go ())
def ref09_Check.l4 (bs : List T_api_Bound) : Nat → Int → Option (Out Int Unit)
 | 0, _ => none
 | n4 + 1, i8 =>
  if (decide (i8 < (bs.length : Int))) = true then
   (V.gl bs i8).bind fun x5 =>
   (ref09_Place bs x5.Pod.Name).bind fun r4 =>
   if (r4 != i8) = true then
    some (Out.ret 15)
   else
    ref09_Check.l4 bs n4 (i64.wrap (i8 + 1))
  else
   some (Out.go ())
def ref09_Check.l5 (ms : List T_api_Machine) (bs : List T_api_Bound) : Nat → Int → Option (Out Int Unit)
 | 0, _ => none
 | n5 + 1, i10 =>
  if (decide (i10 < (bs.length : Int))) = true then
   (V.gl bs i10).bind fun x6 =>
   (if (!(V.seq x6.On (⟨#[]⟩ : ByteArray))) = true then (V.gl bs i10).bind fun x7 =>
   (ref09_Find ms x7.On).bind fun r5 =>
   some (decide (r5 < 0)) else some false).bind fun c2 =>
   if c2 = true then
    some (Out.ret 16)
   else
    ref09_Check.l5 ms bs n5 (i64.wrap (i10 + 1))
  else
   some (Out.go ())
def ref09_Check (ms : List T_api_Machine) (bs : List T_api_Bound) : Option Int :=
 if ((decide ((ms.length : Int) > 200)) || (decide ((bs.length : Int) > 400))) = true then
  some 7
 else
  (ref09_Check.l1 ms FU (0 : Int)).bind fun o =>
  o.on fun j =>
  (ref09_Check.l2 bs FU (0 : Int)).bind fun o2 =>
  o2.on fun j2 =>
  (ref09_Check.l3 ms FU (0 : Int)).bind fun o3 =>
  o3.on fun j3 =>
  (ref09_Check.l4 bs FU (0 : Int)).bind fun o4 =>
  o4.on fun j4 =>
  (ref09_Check.l5 ms bs FU (0 : Int)).bind fun o5 =>
  o5.on fun j5 =>
  some 0

end Go.Proofs.YtbgfffdnaijmhaaGreat.M

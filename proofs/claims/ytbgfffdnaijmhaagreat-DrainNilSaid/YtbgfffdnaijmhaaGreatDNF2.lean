/-
  Printed by a program of this session out of the loaded functions: models and their proofs. Own text.
-/
import Derived.Test.YtbgfffdnaijmhaaGreatDNF1
namespace Go.Proofs.YtbgfffdnaijmhaaGreat.M
open Go Go.Proofs Go.Proofs.YtbgfffdnaijmhaaGreat.V
open Go.IntKind (i64)
set_option linter.unusedVariables false
set_option maxRecDepth 20000
set_option maxHeartbeats 40000000
/-! (*trireme/drain.Table).Step -/
def drain_Table_Step (w : T_world_World) (c : T_cloud_Cloud) (pools : List T_cloud_pool) (insts : List T_cloud_inst) : Option (List ByteArray) :=
 (drain_Table_there).bind fun r =>
 some ([] : List ByteArray)
theorem K135 (A0 A1 : Nat) (w : T_world_World) (c : T_cloud_Cloud) (pools : List T_cloud_pool) (insts : List T_cloud_inst) (b : Nat) (ob : Option Nat) (cap : Nat) (ob2 : Option Nat) (cap2 : Nat) (ob3 : Option Nat) (cap3 : Nat) (ob4 : Option Nat) (cap4 : Nat) (b2 : Nat) (b3 : Nat) (ob5 : Option Nat) (cap5 : Nat) (ob6 : Option Nat) (cap6 : Nat) (bs : List Nat) (bs2 : List Nat) : VS2 Tryz.prog 42 (drain_Table_Step w c pools insts) [.nilptr, .ptr b 0] [.box b 43 [.ptr b3 0, Z139 ob w.groups cap, Z103 ob2 w.budgets cap2, Z68 ob3 w.ms cap3, Z64 ob4 w.bs cap4, .map b2], Q139 ob cap w.groups, Q103 ob2 cap2 w.budgets, Q68 ob3 cap3 w.ms, Q64 ob4 cap4 w.bs, .map b2 (List.map (pf VV.str (VV.int .i64)) w.held), .box b3 149 [Z140 A0 A1 ob5 c.pools cap5, Z152 A0 A1 ob6 c.insts cap6, Iw c.delay, Iw c.now, Iw c.calls], Q140 A0 A1 ob5 cap5 c.pools, Q152 A0 A1 ob6 cap6 c.insts, .ar A0 144 bs (List.map T_cloud_pool.cells pools), .ar A1 157 bs2 (List.map (T_cloud_inst.cells A0 A1) insts)] (fun r ob0 cap0=>Z9 ob0 r cap0) (fun r ob0 cap0=>[Q9 ob0 cap0 r, .box b 43 [.ptr b3 0, Z139 ob w.groups cap, Z103 ob2 w.budgets cap2, Z68 ob3 w.ms cap3, Z64 ob4 w.bs cap4, .map b2], Q139 ob cap w.groups, Q103 ob2 cap2 w.budgets, Q68 ob3 cap3 w.ms, Q64 ob4 cap4 w.bs, .map b2 (List.map (pf VV.str (VV.int .i64)) w.held), .box b3 149 [Z140 A0 A1 ob5 c.pools cap5, Z152 A0 A1 ob6 c.insts cap6, Iw c.delay, Iw c.now, Iw c.calls], Q140 A0 A1 ob5 cap5 c.pools, Q152 A0 A1 ob6 cap6 c.insts, .ar A0 144 bs (List.map T_cloud_pool.cells pools), .ar A1 157 bs2 (List.map (T_cloud_inst.cells A0 A1) insts)]) := by
 refine Ch [.tmp 4] D1 R R R fun r hm=>?_
 unfold drain_Table_Step at hm
 refine Ag tbk [] R R<|Ah<|Ae<|Aa R R (Af R)<|Bd hm fun r h1 hm=>Ab R R<|Aq 0 R fn111 R (K133 r h1) fun _ _ h3=> ?_
 obtain ⟨rfl,rfl⟩:=h3
 exact Ad tbk [] 2 R R<|C1 R R R R (congrArg not (Option.some.inj (show some false = some r from h1)).symm)<|C1 R R R R (congrArg not (Option.some.inj (show some false = some r from h1)).symm)<|C1 R R R R (congrArg not (Option.some.inj (show some false = some r from h1)).symm)<|Aa R R (Bs true R (congrArg not (Option.some.inj (show some false = some r from h1)).symm) R)<|Ac<|Bk R R<|Ag tbk [] R R<|Br (Az 9)<|Rg2 hm R [0,1,2,3,4,5,6,7,8,9,10,11] none 0 (.cons (.tmp _ _ R) .nil) R R

/-! (*trireme/drain.Table).names -/
def drain_Table_names_drain_Table_Leaving_1 : Option (List ByteArray) :=
 (drain_Table_there).bind fun r =>
 some ([] : List ByteArray)
theorem K136 : VS2 Tryz.prog 114 (drain_Table_names_drain_Table_Leaving_1) [.nilptr, .clo (.func 119) [] []] [] (fun r ob0 cap0=>Z9 ob0 r cap0) (fun r ob0 cap0=>[Q9 ob0 cap0 r]) := by
 refine Ch [.tmp 4] Dw R R R fun r hm=>?_
 unfold drain_Table_names_drain_Table_Leaving_1 at hm
 refine Ag tbk [] R R<|Ah<|Ae<|Aa R R (Af R)<|Bd hm fun r h1 hm=>Ab R R<|Aq 0 R fn111 R (K133 r h1) fun _ _ h3=> ?_
 obtain ⟨rfl,rfl⟩:=h3
 exact Aa R R (Cg R)<|Ac<|Bk R (congrArg not (Option.some.inj (show some false = some r from h1)).symm)<|Ag tbk [] R R<|Br (Az 9)<|Rg2 hm R [0] none 0 (.cons (.tmp _ _ R) .nil) R R

/-! (*trireme/drain.Table).Leaving -/
def drain_Table_Leaving : Option (List ByteArray) :=
 (drain_Table_names_drain_Table_Leaving_1).bind fun r =>
 some r
theorem K137 : VS Tryz.prog 47 (drain_Table_Leaving) [.nilptr] [] (fun r=>L9 r) N0 := by
 refine A7 [.tmp 2] Tryz.func47 R R R fun r hm=>?_
 unfold drain_Table_Leaving at hm
 exact Ag tbk [] R R<|Ae<|Aa R R (Af R)<|Ab R R<|B6 hm 0 R fn114 R (K136) fun r ob cap hm=>Au (Av 0 [(4,L9 r)] R ⟨⟨_,R,.here _ R⟩,trivial⟩ (FzH.refl _))<|Aa R R (Ai R)<|Ac<|Rt1 hm R [] R R R

/-! (*trireme/world.World).Bounds -/
def world_World_Bounds.l1 (w : T_world_World) : Nat → (List T_api_Bound) → Int → Option (List T_api_Bound)
 | 0, _, _ => none
 | n + 1, l2, v2 =>
  if (decide (v2 < (w.bs.length : Int))) = true then
   (V.gl w.bs v2).bind fun x =>
   (world_pod x.Pod).bind fun r2 =>
   (V.ap 288 l2 [(⟨r2, x.On⟩ : T_api_Bound)]).bind fun l5 =>
   world_World_Bounds.l1 w n l5 (i64.wrap (v2 + 1))
  else
   some l2
def world_World_Bounds (w : T_world_World) (c : T_cloud_Cloud) : Option (List T_api_Bound) :=
 (world_World_there_x w c).bind fun r =>
 (world_World_Bounds.l1 w FU ([] : List T_api_Bound) (0 : Int)).bind fun l32 =>
 some l32
theorem K138 (A0 A1 : Nat) (w : T_world_World) (c : T_cloud_Cloud) (b : Nat) (ob : Option Nat) (cap : Nat) (ob2 : Option Nat) (cap2 : Nat) (ob3 : Option Nat) (cap3 : Nat) (ob4 : Option Nat) (cap4 : Nat) (b2 : Nat) (b3 : Nat) (ob5 : Option Nat) (cap5 : Nat) (ob6 : Option Nat) (cap6 : Nat) : VS2 Tryz.prog 20 (world_World_Bounds w c) [.ptr b 0] [.box b 43 [.ptr b3 0, Z139 ob w.groups cap, Z103 ob2 w.budgets cap2, Z68 ob3 w.ms cap3, Z64 ob4 w.bs cap4, .map b2], Q139 ob cap w.groups, Q103 ob2 cap2 w.budgets, Q68 ob3 cap3 w.ms, Q64 ob4 cap4 w.bs, .map b2 (List.map (pf VV.str (VV.int .i64)) w.held), .box b3 149 [Z140 A0 A1 ob5 c.pools cap5, Z152 A0 A1 ob6 c.insts cap6, Iw c.delay, Iw c.now, Iw c.calls], Q140 A0 A1 ob5 cap5 c.pools, Q152 A0 A1 ob6 cap6 c.insts] (fun r ob0 cap0=>Z64 ob0 r cap0) (fun r ob0 cap0=>[Q64 ob0 cap0 r, .box b 43 [.ptr b3 0, Z139 ob w.groups cap, Z103 ob2 w.budgets cap2, Z68 ob3 w.ms cap3, Z64 ob4 w.bs cap4, .map b2], Q139 ob cap w.groups, Q103 ob2 cap2 w.budgets, Q68 ob3 cap3 w.ms, Q64 ob4 cap4 w.bs, .map b2 (List.map (pf VV.str (VV.int .i64)) w.held), .box b3 149 [Z140 A0 A1 ob5 c.pools cap5, Z152 A0 A1 ob6 c.insts cap6, Iw c.delay, Iw c.now, Iw c.calls], Q140 A0 A1 ob5 cap5 c.pools, Q152 A0 A1 ob6 cap6 c.insts]) := by
 refine Ch [.tmp 2] Tryz.func20 R R R fun r hm=>?_
 unfold world_World_Bounds at hm
 refine Ag tbk [] R R<|Ah<|Ae<|Aa R R (Af R)<|Bd hm fun r h1 hm=>Ab R R<|Aq 9 R fn60 R (K51 A0 A1 w c b ob cap ob2 cap2 ob3 cap3 ob4 cap4 b2 b3 ob5 cap5 ob6 cap6 r h1) fun _ _ h14=> ?_
 obtain ⟨rfl,rfl⟩:=h14
 refine Aa R R (Cg R)<|Ac<|Bq R (congrArg not (Option.some.inj (show some true = some r from h1)).symm)<|Am<|Ag tbk [] R R<|Ah<|Ae<|Ad tbk [0] 4 R R<|Aa R R (Cq T_api_Bound.vv R B7)<|Aa R R (Af R)<|Ac<|Ca hm (fun l32 (gg:Option Nat × Nat)=>[(3,Z64 gg.1 l32 gg.2)]) (fun l32 (gg:Option Nat × Nat)=>[Q64 gg.1 gg.2 l32,.box b 43 [.ptr b3 0,Z139 ob w.groups cap,Z103 ob2 w.budgets cap2,Z68 ob3 w.ms cap3,Z64 ob4 w.bs cap4,.map b2],Q139 ob cap w.groups,Q103 ob2 cap2 w.budgets,Q68 ob3 cap3 w.ms,Q64 ob4 cap4 w.bs,.map b2 (List.map (pf VV.str (VV.int .i64)) w.held),.box b3 149 [Z140 A0 A1 ob5 c.pools cap5,Z152 A0 A1 ob6 c.insts cap6,Iw c.delay,Iw c.now,Iw c.calls],Q140 A0 A1 ob5 cap5 c.pools,Q152 A0 A1 ob6 cap6 c.insts]) (fun o hm=>?_) fun l32=>Pq fun ob9 cap9 hm=> ?_
 ·refine Cm (fun zn (zs:List T_api_Bound × Int)=>world_World_Bounds.l1 w zn zs.1 zs.2) (fun zs (zg:Option Nat × Nat)=>[(3,Z64 zg.1 zs.1 zg.2),(12,Z64 ob4 w.bs cap4),(13,Iw (w.bs.length : Int)),(14,Iw zs.2)]) (fun zs (zg:Option Nat × Nat)=>[Q64 zg.1 zg.2 zs.1,.box b 43 [.ptr b3 0,Z139 ob w.groups cap,Z103 ob2 w.budgets cap2,Z68 ob3 w.ms cap3,Z64 ob4 w.bs cap4,.map b2],Q139 ob cap w.groups,Q103 ob2 cap2 w.budgets,Q68 ob3 cap3 w.ms,Q64 ob4 cap4 w.bs,.map b2 (List.map (pf VV.str (VV.int .i64)) w.held),.box b3 149 [Z140 A0 A1 ob5 c.pools cap5,Z152 A0 A1 ob6 c.insts cap6,Iw c.delay,Iw c.now,Iw c.calls],Q140 A0 A1 ob5 cap5 c.pools,Q152 A0 A1 ob6 cap6 c.insts]) (([] : List T_api_Bound),(0 : Int)) (none,0) (fun _=>R) hm (Bg (Az 64) (Ak [0,1,2,3,4,5,6,7,8,9] (by kernel_rfl) (by kernel_rfl))) fun n=>Pq fun l2 v2=>Pq fun ob8 cap8 hm=> ?_
  rw [world_World_Bounds.l1] at hm
  refine Ag tbk [] R R<|Ah<|Ao hm R (fun h6 hm=>?_) fun h6 hm=> ?_
  ·refine Am<|Ah<|A4<|Ae<|Bd hm fun x h7 hm=>Cd 5 R (gl_pos T_api_Bound.vv h7) fun b4 h8=> ?_
   subst h8
   exact Aa R R (Ci T_api_Bound.vv R R el40 h7)<|Aa R R (B8 (i:=5) (y:=T_api_Bound.vv x) R R R (gl_map _ (gl_some h7).2) ld64 R)<|Ab R R<|Aw z64 fun b5=>Ab R R<|Aj (i:=0) R R R ld64 R R R<|Ac<|Br (A5 [1,0,2,3,4,5,6,7,8,9,10] R)<|Bo 1 mixed<|Bh tbk [0,1,2,4,5] [0,0] (by kernel_rfl) R R R<|Al 3 (by kernel_rfl)<|An R R R<|Ay hm 0 R fn67 R (K62 _) fun r2 hm=>A9 6 R R R (by kernel_rfl) (Bl pl64 R R)<|Al 7 (by kernel_rfl)<|An R R R<|Ax ap40 R R R R R fun b6=>Al 8 (by kernel_rfl)<|Bd hm fun l5 h12 hm=>An R R R<|Bp 1 T_api_Bound.vv (l:=l2) (l2:=[(⟨r2,x.On⟩ : T_api_Bound)]) ap40 R R (sT_row 0 T_api_Bound.vv el40 R R) h12 fun ob10 cap10=>A9 9 R R R (by kernel_rfl) (Ai R)<|A6 (by kernel_rfl)<|Bc tbk [] R R<|Ap (l5,(IntKind.i64.wrap (v2 + (1 : Int)))) (ob10,cap10) hm (Ak [1,3,4,5,6,7,8,9,10,11] (by kernel_rfl) (by kernel_rfl))
  exact Bb<|As (ob8,cap8) hm (Ak [0,1,2,3,4,5,6,7,8,9] (by kernel_rfl) (by kernel_rfl))
 exact Ag tbk [] R R<|Rg2 hm R [0,1,2,3,4,5,6,7,8,9] ob9 cap9 (.cons (.tmp _ _ R) .nil) R R

/-! trireme/triremeref09.Texts -/
def ref09_Texts.l1 (a : List ByteArray) (b : List ByteArray) : Nat → Int → Option (Out Bool Unit)
 | 0, _ => none
 | n + 1, i2 =>
  if (decide (i2 < (a.length : Int))) = true then
   (V.gl a i2).bind fun x =>
   (V.gl b i2).bind fun x2 =>
   if (!(V.seq x x2)) = true then
    some (Out.ret false)
   else
    ref09_Texts.l1 a b n (i64.wrap (i2 + 1))
  else
   some (Out.go ())
def ref09_Texts (a : List ByteArray) (b : List ByteArray) : Option Bool :=
 if ((a.length : Int) != (b.length : Int)) = true then
  some false
 else
  (ref09_Texts.l1 a b FU (0 : Int)).bind fun o =>
  o.on fun j =>
  some true
theorem K139 (a : List ByteArray) (b : List ByteArray) : VS Tryz.prog 51 (ref09_Texts a b) [L9 a, L9 b] [] .bool N0 := by
 refine A7 [.tmp 4] Tryz.func51 R R R fun r hm=>?_
 unfold ref09_Texts at hm
 refine Ag tbk [] R R<|Ah<|Ae<|Aa R R (Af R)<|Aa R R (Be VV.str R Bm)<|Aa R R (Af R)<|Aa R R (Be VV.str R Bm)<|Aa R R (Ce R R R)<|Ac<|Ao hm R (fun h1 hm=>Ag tbk [] R R<|Rt1 hm R [] R R R) fun h1 hm=>Am<|Ah<|Ag tbk [] R R<|Cf hm (fun _ (_:Unit)=>[]) (fun _ (_:Unit)=>[]) (fun o hm h3=>?_) fun j _ hm=> ?_
 ·refine Cm (fun zn (zs:Int)=>ref09_Texts.l1 a b zn zs) (fun zs (_:Unit)=>[(0,L9 a),(1,L9 b),(5,Iw zs)]) (fun _ (_:Unit)=>[]) _ () (fun _=>R) hm (Ak [] R R) fun n i2 _ hm=> ?_
  rw [ref09_Texts.l1] at hm
  exact Ah<|Ae<|Ad tbk [] 2 R R<|Aa R R (Be VV.str R Bm)<|Aa R R (Ce R R R)<|Ac<|Ao hm R (fun h4 hm=>Am<|Ah<|A4<|Ah<|Bo 0 mixed<|Bh tbk [0,1] [] (by kernel_rfl) R R R<|Bd hm fun x h5 hm=>A9 2 R R R (by kernel_rfl) (Cp VV.str R R el61 h5)<|Bh tbk [3,4,5] [] (by kernel_rfl) R R R<|Bd hm fun x2 h6 hm=>A9 6 R R R (by kernel_rfl) (Cp VV.str R R el61 h6)<|Bh tbk [7,8] [] (by kernel_rfl) R R R<|A6 (by kernel_rfl)<|Ao hm R (fun h7 hm=>Ag tbk [] R R<|have hm:=Lr hm h3;Rt1 hm R [] R R R) fun h7 hm=>Am<|Bc tbk [] R R<|Ap _ () hm (Ak [] R R)) fun h4 hm=>Bb<|Ar () hm (Ak [] R R)
 exact Ag tbk [] R R<|Rt1 hm R [] R R R

/-! (*trireme/drain.Table).names -/
def drain_Table_names_drain_Table_Busy_1 : Option (List ByteArray) :=
 (drain_Table_there).bind fun r =>
 some ([] : List ByteArray)
theorem K140 : VS2 Tryz.prog 114 (drain_Table_names_drain_Table_Busy_1) [.nilptr, .clo (.func 115) [] []] [] (fun r ob0 cap0=>Z9 ob0 r cap0) (fun r ob0 cap0=>[Q9 ob0 cap0 r]) := by
 refine Ch [.tmp 4] Dw R R R fun r hm=>?_
 unfold drain_Table_names_drain_Table_Busy_1 at hm
 refine Ag tbk [] R R<|Ah<|Ae<|Aa R R (Af R)<|Bd hm fun r h1 hm=>Ab R R<|Aq 0 R fn111 R (K133 r h1) fun _ _ h3=> ?_
 obtain ⟨rfl,rfl⟩:=h3
 exact Aa R R (Cg R)<|Ac<|Bk R (congrArg not (Option.some.inj (show some false = some r from h1)).symm)<|Ag tbk [] R R<|Br (Az 9)<|Rg2 hm R [0] none 0 (.cons (.tmp _ _ R) .nil) R R

/-! (*trireme/drain.Table).Busy -/
def drain_Table_Busy : Option (List ByteArray) :=
 (drain_Table_names_drain_Table_Busy_1).bind fun r =>
 some r
theorem K141 : VS Tryz.prog 41 (drain_Table_Busy) [.nilptr] [] (fun r=>L9 r) N0 := by
 refine A7 [.tmp 2] Tryz.func41 R R R fun r hm=>?_
 unfold drain_Table_Busy at hm
 exact Ag tbk [] R R<|Ae<|Aa R R (Af R)<|Ab R R<|B6 hm 0 R fn114 R (K140) fun r ob cap hm=>Au (Av 0 [(4,L9 r)] R ⟨⟨_,R,.here _ R⟩,trivial⟩ (FzH.refl _))<|Aa R R (Ai R)<|Ac<|Rt1 hm R [] R R R

/-! (*trireme/drain.Table).there -/
def drain_Table_there_x (t : T_drain_Table) : Option Bool :=
 some t.made
theorem K142 (t : T_drain_Table) (b : Nat) (ob : Option Nat) (cap : Nat) : VS Tryz.prog 111 (drain_Table_there_x t) [.ptr b 0] [.box b 108 [Z172 ob t.l cap, Iw t.grace, .bool t.made], Q172 ob cap t.l] .bool (fun r=>[.box b 108 [Z172 ob t.l cap, Iw t.grace, .bool t.made], Q172 ob cap t.l]) := by
 refine A7 [.tmp 2] Tryz.func111 R R R fun r hm=>?_
 unfold drain_Table_there_x at hm
 exact Ag tbk [] R R<|Ae<|Aa R R (Af R)<|Aa R R (C5 Cb R R)<|Ad tbk [0] 7 R R<|Ac<|Rt1 hm R [0,1] R R R

/-! trireme/drain.is -/
def drain_is (w : T_world_World) (c : T_cloud_Cloud) : Option Bool :=
 some true
theorem K143 (A0 A1 : Nat) (w : T_world_World) (c : T_cloud_Cloud) (b : Nat) (ob : Option Nat) (cap : Nat) (ob2 : Option Nat) (cap2 : Nat) (ob3 : Option Nat) (cap3 : Nat) (ob4 : Option Nat) (cap4 : Nat) (b2 : Nat) (b3 : Nat) (ob5 : Option Nat) (cap5 : Nat) (ob6 : Option Nat) (cap6 : Nat) : VS Tryz.prog 112 (drain_is w c) [.ptr b 0] [.box b 43 [.ptr b3 0, Z139 ob w.groups cap, Z103 ob2 w.budgets cap2, Z68 ob3 w.ms cap3, Z64 ob4 w.bs cap4, .map b2], Q139 ob cap w.groups, Q103 ob2 cap2 w.budgets, Q68 ob3 cap3 w.ms, Q64 ob4 cap4 w.bs, .map b2 (List.map (pf VV.str (VV.int .i64)) w.held), .box b3 149 [Z140 A0 A1 ob5 c.pools cap5, Z152 A0 A1 ob6 c.insts cap6, Iw c.delay, Iw c.now, Iw c.calls], Q140 A0 A1 ob5 cap5 c.pools, Q152 A0 A1 ob6 cap6 c.insts] .bool (fun r=>[.box b 43 [.ptr b3 0, Z139 ob w.groups cap, Z103 ob2 w.budgets cap2, Z68 ob3 w.ms cap3, Z64 ob4 w.bs cap4, .map b2], Q139 ob cap w.groups, Q103 ob2 cap2 w.budgets, Q68 ob3 cap3 w.ms, Q64 ob4 cap4 w.bs, .map b2 (List.map (pf VV.str (VV.int .i64)) w.held), .box b3 149 [Z140 A0 A1 ob5 c.pools cap5, Z152 A0 A1 ob6 c.insts cap6, Iw c.delay, Iw c.now, Iw c.calls], Q140 A0 A1 ob5 cap5 c.pools, Q152 A0 A1 ob6 cap6 c.insts]) := by
 refine A7 [.tmp 2] D9 R R R fun r hm=>?_
 unfold drain_is at hm
 exact Ag tbk [] R R<|Ae<|Aa R R (Af R)<|Aa R R (C5 Co R R)<|Ad tbk [0] 5 R R<|Ba R R R R R (C5 C3 R R)<|Ad tbk [] 2 R R<|Ac<|Rt1 hm R [0,1,2,3,4,5,6,7,8] R R R

/-! (*trireme/world.World).Machines -/
def world_World_Machines.l1 (w : T_world_World) : Nat → (List T_api_Machine) → Int → Option (List T_api_Machine)
 | 0, _, _ => none
 | n + 1, l2, v2 =>
  if (decide (v2 < (w.ms.length : Int))) = true then
   (V.gl w.ms v2).bind fun x =>
   (world_machine x).bind fun r2 =>
   (V.ap 128 l2 [r2]).bind fun l5 =>
   world_World_Machines.l1 w n l5 (i64.wrap (v2 + 1))
  else
   some l2
def world_World_Machines (w : T_world_World) (c : T_cloud_Cloud) : Option (List T_api_Machine) :=
 (world_World_there_x w c).bind fun r =>
 (world_World_Machines.l1 w FU ([] : List T_api_Machine) (0 : Int)).bind fun l32 =>
 some l32
theorem K144 (A0 A1 : Nat) (w : T_world_World) (c : T_cloud_Cloud) (b : Nat) (ob : Option Nat) (cap : Nat) (ob2 : Option Nat) (cap2 : Nat) (ob3 : Option Nat) (cap3 : Nat) (ob4 : Option Nat) (cap4 : Nat) (b2 : Nat) (b3 : Nat) (ob5 : Option Nat) (cap5 : Nat) (ob6 : Option Nat) (cap6 : Nat) : VS2 Tryz.prog 19 (world_World_Machines w c) [.ptr b 0] [.box b 43 [.ptr b3 0, Z139 ob w.groups cap, Z103 ob2 w.budgets cap2, Z68 ob3 w.ms cap3, Z64 ob4 w.bs cap4, .map b2], Q139 ob cap w.groups, Q103 ob2 cap2 w.budgets, Q68 ob3 cap3 w.ms, Q64 ob4 cap4 w.bs, .map b2 (List.map (pf VV.str (VV.int .i64)) w.held), .box b3 149 [Z140 A0 A1 ob5 c.pools cap5, Z152 A0 A1 ob6 c.insts cap6, Iw c.delay, Iw c.now, Iw c.calls], Q140 A0 A1 ob5 cap5 c.pools, Q152 A0 A1 ob6 cap6 c.insts] (fun r ob0 cap0=>Z68 ob0 r cap0) (fun r ob0 cap0=>[Q68 ob0 cap0 r, .box b 43 [.ptr b3 0, Z139 ob w.groups cap, Z103 ob2 w.budgets cap2, Z68 ob3 w.ms cap3, Z64 ob4 w.bs cap4, .map b2], Q139 ob cap w.groups, Q103 ob2 cap2 w.budgets, Q68 ob3 cap3 w.ms, Q64 ob4 cap4 w.bs, .map b2 (List.map (pf VV.str (VV.int .i64)) w.held), .box b3 149 [Z140 A0 A1 ob5 c.pools cap5, Z152 A0 A1 ob6 c.insts cap6, Iw c.delay, Iw c.now, Iw c.calls], Q140 A0 A1 ob5 cap5 c.pools, Q152 A0 A1 ob6 cap6 c.insts]) := by
 refine Ch [.tmp 2] Ed R R R fun r hm=>?_
 unfold world_World_Machines at hm
 refine Ag tbk [] R R<|Ah<|Ae<|Aa R R (Af R)<|Bd hm fun r h1 hm=>Ab R R<|Aq 9 R fn60 R (K51 A0 A1 w c b ob cap ob2 cap2 ob3 cap3 ob4 cap4 b2 b3 ob5 cap5 ob6 cap6 r h1) fun _ _ h14=> ?_
 obtain ⟨rfl,rfl⟩:=h14
 refine Aa R R (Cg R)<|Ac<|Bq R (congrArg not (Option.some.inj (show some true = some r from h1)).symm)<|Am<|Ag tbk [] R R<|Ah<|Ae<|Ad tbk [0] 4 R R<|Aa R R (Cq T_api_Machine.vv R C6)<|Aa R R (Af R)<|Ac<|Ca hm (fun l32 (gg:Option Nat × Nat)=>[(3,Z68 gg.1 l32 gg.2)]) (fun l32 (gg:Option Nat × Nat)=>[Q68 gg.1 gg.2 l32,.box b 43 [.ptr b3 0,Z139 ob w.groups cap,Z103 ob2 w.budgets cap2,Z68 ob3 w.ms cap3,Z64 ob4 w.bs cap4,.map b2],Q139 ob cap w.groups,Q103 ob2 cap2 w.budgets,Q68 ob3 cap3 w.ms,Q64 ob4 cap4 w.bs,.map b2 (List.map (pf VV.str (VV.int .i64)) w.held),.box b3 149 [Z140 A0 A1 ob5 c.pools cap5,Z152 A0 A1 ob6 c.insts cap6,Iw c.delay,Iw c.now,Iw c.calls],Q140 A0 A1 ob5 cap5 c.pools,Q152 A0 A1 ob6 cap6 c.insts]) (fun o hm=>?_) fun l32=>Pq fun ob9 cap9 hm=> ?_
 ·refine Cm (fun zn (zs:List T_api_Machine × Int)=>world_World_Machines.l1 w zn zs.1 zs.2) (fun zs (zg:Option Nat × Nat)=>[(3,Z68 zg.1 zs.1 zg.2),(12,Z68 ob3 w.ms cap3),(13,Iw (w.ms.length : Int)),(14,Iw zs.2)]) (fun zs (zg:Option Nat × Nat)=>[Q68 zg.1 zg.2 zs.1,.box b 43 [.ptr b3 0,Z139 ob w.groups cap,Z103 ob2 w.budgets cap2,Z68 ob3 w.ms cap3,Z64 ob4 w.bs cap4,.map b2],Q139 ob cap w.groups,Q103 ob2 cap2 w.budgets,Q68 ob3 cap3 w.ms,Q64 ob4 cap4 w.bs,.map b2 (List.map (pf VV.str (VV.int .i64)) w.held),.box b3 149 [Z140 A0 A1 ob5 c.pools cap5,Z152 A0 A1 ob6 c.insts cap6,Iw c.delay,Iw c.now,Iw c.calls],Q140 A0 A1 ob5 cap5 c.pools,Q152 A0 A1 ob6 cap6 c.insts]) (([] : List T_api_Machine),(0 : Int)) (none,0) (fun _=>R) hm (Bg (Az 68) (Ak [0,1,2,3,4,5,6,7,8,9] (by kernel_rfl) (by kernel_rfl))) fun n=>Pq fun l2 v2=>Pq fun ob8 cap8 hm=> ?_
  rw [world_World_Machines.l1] at hm
  refine Ag tbk [] R R<|Ah<|Ao hm R (fun h6 hm=>?_) fun h6 hm=> ?_
  ·refine Am<|Ah<|A4<|Ae<|Bd hm fun x h7 hm=>Cd 4 R (gl_pos T_api_Machine.vv h7) fun b4 h8=> ?_
   subst h8
   exact Aa R R (Ci T_api_Machine.vv R R el39 h7)<|Aa R R (B8 (i:=4) (y:=T_api_Machine.vv x) R R R (gl_map _ (gl_some h7).2) ld68 R)<|Ab R R<|Aw z68 fun b5=>Ab R R<|Aj (i:=0) R R R ld68 R R R<|Ac<|Bw<|Ad tbk [0] 2 R R<|Ab R R<|Ay hm 0 R fn79 R (K30 _) fun r2 hm=>Ab R R<|Ax ap39 R R R R R fun b6=>Bd hm fun l5 h12 hm=>Ab R R<|Bp 2 T_api_Machine.vv (l:=l2) (l2:=[r2]) ap39 R R (sT_row 0 T_api_Machine.vv el39 R R) h12 fun ob10 cap10=>Aa R R (Ai R)<|Ac<|Bc tbk [] R R<|Ap (l5,(IntKind.i64.wrap (v2 + (1 : Int)))) (ob10,cap10) hm (Ak [2,3,4,5,6,7,8,9,10,11] (by kernel_rfl) (by kernel_rfl))
  exact Bb<|As (ob8,cap8) hm (Ak [0,1,2,3,4,5,6,7,8,9] (by kernel_rfl) (by kernel_rfl))
 exact Ag tbk [] R R<|Rg2 hm R [0,1,2,3,4,5,6,7,8,9] ob9 cap9 (.cons (.tmp _ _ R) .nil) R R

/-! trireme/drain.has -/
def drain_has (w : T_world_World) (c : T_cloud_Cloud) (name : ByteArray) : Option Bool :=
 (world_World_Machines w c).bind fun r =>
 (yard_Find r name).bind fun r2 =>
 some (decide (r2 ≥ 0))
theorem K145 (A0 A1 : Nat) (w : T_world_World) (c : T_cloud_Cloud) (name : ByteArray) (b : Nat) (ob : Option Nat) (cap : Nat) (ob2 : Option Nat) (cap2 : Nat) (ob3 : Option Nat) (cap3 : Nat) (ob4 : Option Nat) (cap4 : Nat) (b2 : Nat) (b3 : Nat) (ob5 : Option Nat) (cap5 : Nat) (ob6 : Option Nat) (cap6 : Nat) : VS Tryz.prog 113 (drain_has w c name) [.ptr b 0, .str name] [.box b 43 [.ptr b3 0, Z139 ob w.groups cap, Z103 ob2 w.budgets cap2, Z68 ob3 w.ms cap3, Z64 ob4 w.bs cap4, .map b2], Q139 ob cap w.groups, Q103 ob2 cap2 w.budgets, Q68 ob3 cap3 w.ms, Q64 ob4 cap4 w.bs, .map b2 (List.map (pf VV.str (VV.int .i64)) w.held), .box b3 149 [Z140 A0 A1 ob5 c.pools cap5, Z152 A0 A1 ob6 c.insts cap6, Iw c.delay, Iw c.now, Iw c.calls], Q140 A0 A1 ob5 cap5 c.pools, Q152 A0 A1 ob6 cap6 c.insts] .bool (fun r=>[.box b 43 [.ptr b3 0, Z139 ob w.groups cap, Z103 ob2 w.budgets cap2, Z68 ob3 w.ms cap3, Z64 ob4 w.bs cap4, .map b2], Q139 ob cap w.groups, Q103 ob2 cap2 w.budgets, Q68 ob3 cap3 w.ms, Q64 ob4 cap4 w.bs, .map b2 (List.map (pf VV.str (VV.int .i64)) w.held), .box b3 149 [Z140 A0 A1 ob5 c.pools cap5, Z152 A0 A1 ob6 c.insts cap6, Iw c.delay, Iw c.now, Iw c.calls], Q140 A0 A1 ob5 cap5 c.pools, Q152 A0 A1 ob6 cap6 c.insts]) := by
 refine A7 [.tmp 4] Ea R R R fun r hm=>?_
 unfold drain_has at hm
 exact Ag tbk [] R R<|Ae<|Aa R R (Af R)<|Ab R R<|B6 hm 9 R fn19 R (K144 A0 A1 _ _ _ _ _ _ _ _ _ _ _ _ _ _ _ _ _) fun r ob7 cap7 hm=>Au (Av 0 [(6,L68 r)] R ⟨⟨_,R,.here _ R⟩,trivial⟩ (FzH.refl _))<|Aa R R (Af R)<|Ab R R<|Ay hm 0 R fn72 R (K44 _ _) fun r2 hm=>Ad tbk [] 2 R R<|Ac<|Rt1 hm R [0,1,2,3,4,5,6,7,8] R R R

/-! trireme/taints.Add$1 -/
def taints_Add_1 (y : T_api_Taint) (a : T_api_Taint) : Option Bool :=
 (taints_like a).bind fun r =>
 (taints_like y).bind fun r2 =>
 some (!(((r.Key == r2.Key) && ((r.Val == r2.Val) && ((r.Effect == r2.Effect) && true))) == true))
theorem K146 (y : T_api_Taint) (a : T_api_Taint) (b : Nat) : VS Tryz.prog 140 (taints_Add_1 y a) [T_api_Taint.vv y, .ptr b 0] [X31 b a] .bool (fun r=>[X31 b a]) := by
 refine A7 [.tmp 3] Tryz.func140 R R R fun r hm=>?_
 unfold taints_Add_1 at hm
 refine Ae<|Ab R R<|Bi R R fun b2=>Aa R R (Ai R)<|Ac<|Ah<|Bo 0 mixed<|Bh tbk [0,2] [1,0] (by kernel_rfl) R R R<|Al 1 (by kernel_rfl)<|Bd hm fun r h2 hm=>An R R R<|Aq 0 R fn141 R (K19 a r h2) fun _ _ h5=> ?_
 obtain ⟨rfl,rfl⟩:=h5
 refine Al 3 (by kernel_rfl)<|Bd hm fun r2 h3 hm=>An R R R<|Aq 0 R fn141 R (K19 y r2 h3) fun _ _ h4=> ?_
 obtain ⟨rfl,rfl⟩:=h4
 exact A9 4 R R R (by kernel_rfl) (VP.eqS shp31 eq31 R R R R)<|A9 5 R R R (by kernel_rfl) (Ai R)<|A6 (by kernel_rfl)<|Rt1 hm R [1] R R R

/-! trireme/taints.some -/
def taints_some_taints_Add_1.l1 (c : T_api_Taint) : List T_api_Taint → Nat → (List T_api_Taint) → Option (List T_api_Taint)
 | [], k, out2 => some out2
 | x :: l2, k, out2 =>
  (taints_Add_1 x c).bind fun r =>
  if r = true then
   (V.ap 40 out2 [x]).bind fun out4 =>
   taints_some_taints_Add_1.l1 c l2 (k + 1) out4
  else
   taints_some_taints_Add_1.l1 c l2 (k + 1) out2
def taints_some_taints_Add_1 (l : List T_api_Taint) (c : T_api_Taint) : Option (List T_api_Taint) :=
 (taints_some_taints_Add_1.l1 c l 0 ([] : List T_api_Taint)).bind fun out32 =>
 some out32
theorem K147 (l : List T_api_Taint) (c : T_api_Taint) (b : Nat) : VS2 Tryz.prog 139 (taints_some_taints_Add_1 l c) [L31 l, .clo (.func 140) [] [.ptr b 0]] [X31 b c] (fun r ob0 cap0=>Z31 ob0 r cap0) (fun r ob0 cap0=>[Q31 ob0 cap0 r, X31 b c]) := by
 refine Ch [.tmp 4] D7 R R R fun r hm=>?_
 unfold taints_some_taints_Add_1 at hm
 refine Ag tbk [] R R<|Ag tbk [] R R<|Ah<|Ae<|Aa R R (Af R)<|Aa R R (Be T_api_Taint.vv R Cs)<|Aa R R (Af R)<|Ac<|B2 8 R fun h5=>Ca hm (fun out32 (gg:Option Nat × Nat)=>[(5,Z31 gg.1 out32 gg.2)]) (fun out32 (gg:Option Nat × Nat)=>[Q31 gg.1 gg.2 out32,X31 b c]) (fun o hm=>?_) fun out32=>Pq fun ob3 cap3 hm=> ?_
 ·refine Cc (l) (fun zl zk (zs:List T_api_Taint)=>taints_some_taints_Add_1.l1 c zl zk zs) (fun k zs (zg:Option Nat × Nat)=>[(1,.clo (.func 140) [] [.ptr b 0]),(5,Z31 zg.1 zs zg.2),(8,L31 l),(9,Iw (l.length : Int)),(10,Iw (k : Int))]) (fun _ zs (zg:Option Nat × Nat)=>[Q31 zg.1 zg.2 zs,X31 b c]) _ (none,0) hm (Bg (Az 31) (Ak [0,1] R R)) (fun k out2=>Pq fun ob2 cap2 hk hm=>?_) fun k x l2 out2=>Pq fun ob2 cap2 h6 hm=> ?_
  ·rw [taints_some_taints_Add_1.l1] at hm
   exact Ag tbk [] R R<|Ah<|Bq R (k_end hk)<|Bb<|As (ob2,cap2) hm (Ak [0,1] R R)
  rw [taints_some_taints_Add_1.l1] at hm
  exact Ag tbk [] R R<|Ah<|Bk R (k_lt h6)<|Am<|Ah<|A4<|Ae<|Aa R R (B4 T_api_Taint.vv R R el66 h6)<|Aa R R (Bx R ld31 R)<|Ab R R<|Aw z31 fun b2=>Ab R R<|Aj (i:=0) R R R ld31 R R R<|Ac<|Ae<|Ad tbk [0] 2 R R<|Au (A5 [2,0,1] R)<|Ab R R<|Ay hm 1 R fn140 R (K146 _ _ _) fun r hm=>Ac<|Ao hm R (fun h9 hm=>Bw<|Ad tbk [1] 2 R R<|Ab R R<|Ax ap66 R R R R R fun b3=>Bd hm fun out4 h11 hm=>Ab R R<|Bp 3 T_api_Taint.vv (l:=out2) (l2:=[x]) ap66 R R (sT_row 0 T_api_Taint.vv el66 R R) h11 fun ob4 cap4=>Aa R R (Ai R)<|Ac<|Bc tbk [] R R<|Ap _ (ob4,cap4) hm (Bf [3,1] R ⟨R,R,R,R,congrArg some (k_next h6 h5),trivial⟩)) fun h9 hm=>Am<|Bc tbk [] R R<|Ap _ (ob2,cap2) hm (Bf [2,0] R ⟨R,R,R,R,congrArg some (k_next h6 h5),trivial⟩)
 exact Ag tbk [] R R<|Rg2 hm R [0,1] ob3 cap3 (.cons (.tmp _ _ R) .nil) R R

/-! trireme/taints.Add -/
def taints_Add (l : List T_api_Taint) (x : T_api_Taint) : Option (List T_api_Taint) :=
 (taints_some_taints_Add_1 l x).bind fun r =>
 (V.ap 40 r [x]).bind fun l2 =>
 some l2
theorem K148 (l : List T_api_Taint) (x : T_api_Taint) : VS2 Tryz.prog 74 (taints_Add l x) [L31 l, T_api_Taint.vv x] [] (fun r ob0 cap0=>Z31 ob0 r cap0) (fun r ob0 cap0=>[Q31 ob0 cap0 r]) := by
 refine Ch [.tmp 4] Tryz.func74 R R R fun r hm=>?_
 unfold taints_Add at hm
 refine Ae<|Ab R R<|Bi R R fun b=>Aa R R (Ai R)<|Ac<|Ah<|Bo 1 mixed<|A9 0 R R R (by kernel_rfl) (Af R)<|A9 1 R R R (by kernel_rfl) (Cj R R)<|?_
 refine B1 [2,3] (by kernel_rfl) ⟨?_,?_,trivial⟩
 ·exact An R R R<|B6 hm 1 R fn139 R (K147 _ _ _) fun r ob cap hm=>Al 3 (by kernel_rfl)<|An R R R<|B3 (B0 (i:=1) R R ld31 R)<|Al 4 (by kernel_rfl)<|An R R R<|Ax ap66 R R R R R fun b2=>Al 5 (by kernel_rfl)<|Bd hm fun l2 h5 hm=>An R R R<|Bp 1 T_api_Taint.vv (l:=r) (l2:=[x]) ap66 R R (sT_row 0 T_api_Taint.vv el66 R R) h5 fun ob2 cap2=>A9 6 R R R (by kernel_rfl) (Ai R)<|A6 (by kernel_rfl)<|Rg2 hm R [1] ob2 cap2 (.cons (.tmp _ _ R) .nil) R R
 ·refine An R R R<|B3 (B0 (i:=0) R R ld31 R)<|?_
  refine B1 [2,4] (by kernel_rfl) ⟨?_,?_,trivial⟩
  ·exact An R R R<|B6 hm 1 R fn139 R (K147 _ _ _) fun r2 ob3 cap3 hm=>Al 4 (by kernel_rfl)<|An R R R<|Ax ap66 R R R R R fun b3=>Al 5 (by kernel_rfl)<|Bd hm fun l3 h9 hm=>An R R R<|Bp 1 T_api_Taint.vv (l:=r2) (l2:=[x]) ap66 R R (sT_row 0 T_api_Taint.vv el66 R R) h9 fun ob4 cap4=>A9 6 R R R (by kernel_rfl) (Ai R)<|A6 (by kernel_rfl)<|Rg2 hm R [1] ob4 cap4 (.cons (.tmp _ _ R) .nil) R R
  ·exact An R R R<|Ax ap66 R R R R R fun b4=>Al 2 (by kernel_rfl)<|An R R R<|VO.shift (A5 [1,0] R)<|B6 hm 1 R fn139 R (K147 _ _ _) fun r3 ob5 cap5 hm=>Al 5 (by kernel_rfl)<|Bd hm fun l4 h13 hm=>An R R R<|Bp 0 T_api_Taint.vv (l:=r3) (l2:=[x]) ap66 R R (sT_row 2 T_api_Taint.vv el66 R R) h13 fun ob6 cap6=>A9 6 R R R (by kernel_rfl) (Ai R)<|A6 (by kernel_rfl)<|Rg2 hm R [0] ob6 cap6 (.cons (.tmp _ _ R) .nil) R R

/-! (*trireme/world.World).Taint$1 -/
def world_World_Taint_1 (m : T_api_Machine) (a : T_api_Taint) : Option (Int × T_api_Machine) :=
 (taints_Add m.Taints a).bind fun r =>
 (taints_Right r).bind fun r2 =>
 if (!r2) = true then
  some (12, (⟨m.Name, m.Group, m.Has, m.Labels, r, m.Ready⟩ : T_api_Machine))
 else
  some (0, (⟨m.Name, m.Group, m.Has, m.Labels, r, m.Ready⟩ : T_api_Machine))
theorem K149 (m : T_api_Machine) (a : T_api_Taint) (b : Nat) (b2 : Nat) : VS Tryz.prog 73 (world_World_Taint_1 m a) [.ptr b 0, .ptr b2 0] [X68 b m, X31 b2 a] (fun r=>Iw r.1) (fun r=>[X68 b r.2, X31 b2 a]) := by
 refine A7 [.tmp 3] Tryz.func73 R R R fun r hm=>?_
 unfold world_World_Taint_1 at hm
 exact Ag tbk [] R R<|Ah<|Bo 1 mixed<|Bh tbk [0,1,2,3,5] [0] (by kernel_rfl) R R R<|Al 4 (by kernel_rfl)<|An R R R<|B3 (B0 (i:=0) R R ld66 R)<|Al 6 (by kernel_rfl)<|An R R R<|B6 hm 0 R fn74 R (K148 _ _) fun r ob cap hm=>C0 (Av 0 [(10,L31 r)] R ⟨⟨_,R,.here _ R⟩,trivial⟩ (FzH.refl _))<|Bh tbk [7,8] [] (by kernel_rfl) R R R<|Al 9 (by kernel_rfl)<|An R R R<|Aj (i:=0) R R R ld66 R R R<|A6 (by kernel_rfl)<|Ah<|Ae<|Ad tbk [0] 4 R R<|Ab R R<|Ay hm 0 R fn75 R (K20 _) fun r2 hm=>Aa R R (Cg R)<|Ac<|Ao hm R (fun h4 hm=>Ag tbk [] R R<|Rt1 hm R [0,1] R R R) fun h4 hm=>Am<|Ag tbk [] R R<|Rt1 hm R [0,1] R R R

/-! (*trireme/world.World).on -/
def world_World_on_world_World_Taint_1 (w : T_world_World) (c : T_cloud_Cloud) (name : ByteArray) (c2 : T_api_Taint) : Option (Int × T_world_World) :=
 (world_World_there_x w c).bind fun r =>
 (yard_Find w.ms name).bind fun r2 =>
 if (decide (r2 < 0)) = true then
  some (16, w)
 else
  (V.gl w.ms r2).bind fun x =>
  (world_World_Taint_1 x c2).bind fun r3 =>
  if (r3.1 == 0) = true then
   (V.gl w.ms r2).bind fun x2 =>
   some (r3.1, (⟨(), w.groups, w.budgets, (List.set w.ms (r2).toNat r3.2), w.bs, w.held⟩ : T_world_World))
  else
   some (r3.1, w)
theorem K150 (A0 A1 : Nat) (w : T_world_World) (c : T_cloud_Cloud) (name : ByteArray) (c2 : T_api_Taint) (b : Nat) (ob : Option Nat) (cap : Nat) (ob2 : Option Nat) (cap2 : Nat) (ob3 : Option Nat) (cap3 : Nat) (ob4 : Option Nat) (cap4 : Nat) (b2 : Nat) (b3 : Nat) (ob5 : Option Nat) (cap5 : Nat) (ob6 : Option Nat) (cap6 : Nat) (b4 : Nat) : ∀ r : Int × T_world_World, world_World_on_world_World_Taint_1 w c name c2 = some r → VC Tryz.prog 69 [.ptr b 0, .str name, .clo (.func 73) [] [.ptr b4 0]] [.box b 43 [.ptr b3 0, Z139 ob w.groups cap, Z103 ob2 w.budgets cap2, Z68 ob3 w.ms cap3, Z64 ob4 w.bs cap4, .map b2], Q139 ob cap w.groups, Q103 ob2 cap2 w.budgets, Q68 ob3 cap3 w.ms, Q64 ob4 cap4 w.bs, .map b2 (List.map (pf VV.str (VV.int .i64)) w.held), .box b3 149 [Z140 A0 A1 ob5 c.pools cap5, Z152 A0 A1 ob6 c.insts cap6, Iw c.delay, Iw c.now, Iw c.calls], Q140 A0 A1 ob5 cap5 c.pools, Q152 A0 A1 ob6 cap6 c.insts, X31 b4 c2] fun zx zH => ∃ (ob0_1 : Option Nat) (cap0_1 : Nat) (ob0_2 : Option Nat) (cap0_2 : Nat) (ob0_3 : Option Nat) (cap0_3 : Nat) (ob0_4 : Option Nat) (cap0_4 : Nat) (b0_5 : Nat), zx = Iw r.1 ∧ zH = [.box b 43 [.ptr b3 0, Z139 ob0_1 r.2.groups cap0_1, Z103 ob0_2 r.2.budgets cap0_2, Z68 ob0_3 r.2.ms cap0_3, Z64 ob0_4 r.2.bs cap0_4, .map b0_5], Q139 ob0_1 cap0_1 r.2.groups, Q103 ob0_2 cap0_2 r.2.budgets, Q68 ob0_3 cap0_3 r.2.ms, Q64 ob0_4 cap0_4 r.2.bs, .map b0_5 (List.map (pf VV.str (VV.int .i64)) r.2.held), .box b3 149 [Z140 A0 A1 ob5 c.pools cap5, Z152 A0 A1 ob6 c.insts cap6, Iw c.delay, Iw c.now, Iw c.calls], Q140 A0 A1 ob5 cap5 c.pools, Q152 A0 A1 ob6 cap6 c.insts, X31 b4 c2] := by
 refine Ck [.tmp 6] Dk R R R fun r hm=>?_
 unfold world_World_on_world_World_Taint_1 at hm
 refine Ag tbk [] R R<|Ah<|Ae<|Aa R R (Af R)<|Bd hm fun r h1 hm=>Ab R R<|Aq 9 R fn60 R (K51 A0 A1 w c b ob cap ob2 cap2 ob3 cap3 ob4 cap4 b2 b3 ob5 cap5 ob6 cap6 r h1) fun _ _ h10=> ?_
 obtain ⟨rfl,rfl⟩:=h10
 refine Aa R R (Cg R)<|Ac<|Bq R (congrArg not (Option.some.inj (show some true = some r from h1)).symm)<|Am<|Ae<|Ad tbk [0] 5 R R<|Ab R R<|Dp hm (Av (H':=[.box b 43 [.ptr b3 0,Z139 ob w.groups cap,Z103 ob2 w.budgets cap2,L68 w.ms,Z64 ob4 w.bs cap4,.map b2],Q139 ob cap w.groups,Q103 ob2 cap2 w.budgets,Q64 ob4 cap4 w.bs,.map b2 (List.map (pf VV.str (VV.int .i64)) w.held),.box b3 149 [Z140 A0 A1 ob5 c.pools cap5,Z152 A0 A1 ob6 c.insts cap6,Iw c.delay,Iw c.now,Iw c.calls],Q140 A0 A1 ob5 cap5 c.pools,Q152 A0 A1 ob6 cap6 c.insts,X31 b4 c2]) 3 [(16,L68 w.ms)] R ⟨⟨_,R,.here _ R⟩,trivial⟩ (by exact ⟨.box _ _ _ _ ⟨.same _,.same _,.same _,.here _ R,.same _,.same _,trivial⟩,.same _,.same _,.same _,.same _,.same _,.same _,.same _,.same _,trivial⟩)) [.same,.same] R fn72 R (K44 _ _) (fun _=>R) (fun _=>R) fun r2 hm=>Aa R R (Ai R)<|Ac<|Ah<|Ag tbk [] R R<|Ao hm R (fun h3 hm=>?_) fun h3 hm=> ?_
 ·refine Ag tbk [] R R<|?_
  obtain rfl:=Option.some.inj hm
  exact Bu ⟨.inl R,_,.cons (.tmp _ _ R) .nil,[0,1,2,3,4,5,6,7,8,9],_,R,ob,cap,ob2,cap2,ob3,cap3,ob4,cap4,b2,R,R⟩
 refine Am<|Ae<|Ad tbk [0] 5 R R<|Bd hm fun x h4 hm=>Cd 3 R (gl_pos T_api_Machine.vv h4) fun b5 h5=> ?_
 subst h5
 refine Aa R R (Ci T_api_Machine.vv R R el39 h4)<|Aa R R (B8 (i:=3) (y:=T_api_Machine.vv x) R R R (gl_map _ (gl_some h4).2) ld68 R)<|Ab R R<|Aw z68 fun b6=>Ab R R<|Aj (i:=0) R R R ld68 R R R<|Ac<|Ae<|Aa R R (Af R)<|Au (A5 [0,10,1,2,3,4,5,6,7,8,9] R)<|Ab R R<|Ay hm 2 R fn73 R (K149 _ _ _ _) fun r3 hm=>Aa R R (Ai R)<|Ac<|Ah<|Ag tbk [] R R<|Ao hm R (fun h8 hm=>?_) fun h8 hm=> ?_
 ·refine Br (A5 [2,5,0,1,3,4,6,7,8,9,10] R)<|Bo 2 mixed<|Bh tbk [0,1,2,4,5] [0] (by kernel_rfl) R R R<|Al 3 (by kernel_rfl)<|An R R R<|B3 (B0 (i:=0) R R ld39 R)<|Bd hm fun x2 h9 hm=>A9 6 R R R (by kernel_rfl) (Ci T_api_Machine.vv R R el39 h9)<|Al 7 (by kernel_rfl)<|An R R R<|D4 1 (f:=T_api_Machine.vv) (l:=w.ms) (q:=x2) (q':=r3.2) R R R R h9 ld68 R R R R ⟨R,List.all_eq_true.1 R⟩<|C0 (Shift.cst (F:=fun zv=>[.box b 43 [.ptr b3 0,Z139 ob w.groups cap,Z103 ob2 w.budgets cap2,zv,Z64 ob4 w.bs cap4,.map b2],Q68 (some b5) cap3 (List.set w.ms (r2).toNat r3.2)]) (congrArg (fun zn=>VV.sl (some b5) zn cap3) (len_set T_api_Machine.vv w.ms (r2).toNat r3.2)))<|C0 (Cw 16 (List.map T_api_Machine.vv (List.set w.ms (r2).toNat r3.2)).length R (len_set _ _ _ _))<|C0 (Cw 24 (List.map T_api_Machine.vv (List.set w.ms (r2).toNat r3.2)).length R (len_set _ _ _ _))<|C0 (Cw 35 (List.map T_api_Machine.vv (List.set w.ms (r2).toNat r3.2)).length R (len_set _ _ _ _))<|A6 (by kernel_rfl)<|Ag tbk [] R R<|?_
  obtain rfl:=Option.some.inj hm
  exact Bu ⟨.inl R,_,.cons (.tmp _ _ R) .nil,[0,4,5,1,6,7,8,9,10,3],_,R,ob,cap,ob2,cap2,(some b5),cap3,ob4,cap4,b2,R,R⟩
 refine Am<|Ag tbk [] R R<|?_
 obtain rfl:=Option.some.inj hm
 exact Bu ⟨.inl R,_,.cons (.tmp _ _ R) .nil,[2,3,4,5,6,7,8,9,10,1],_,R,ob,cap,ob2,cap2,(some b5),cap3,ob4,cap4,b2,R,R⟩

/-! (*trireme/world.World).Taint -/
def world_World_Taint (w : T_world_World) (c : T_cloud_Cloud) (name : ByteArray) (x : T_api_Taint) : Option (Int × T_world_World) :=
 (world_World_on_world_World_Taint_1 w c name x).bind fun r =>
 some (r.1, r.2)
theorem K151 (A0 A1 : Nat) (w : T_world_World) (c : T_cloud_Cloud) (name : ByteArray) (x : T_api_Taint) (b : Nat) (ob : Option Nat) (cap : Nat) (ob2 : Option Nat) (cap2 : Nat) (ob3 : Option Nat) (cap3 : Nat) (ob4 : Option Nat) (cap4 : Nat) (b2 : Nat) (b3 : Nat) (ob5 : Option Nat) (cap5 : Nat) (ob6 : Option Nat) (cap6 : Nat) : ∀ r : Int × T_world_World, world_World_Taint w c name x = some r → VC Tryz.prog 16 [.ptr b 0, .str name, T_api_Taint.vv x] [.box b 43 [.ptr b3 0, Z139 ob w.groups cap, Z103 ob2 w.budgets cap2, Z68 ob3 w.ms cap3, Z64 ob4 w.bs cap4, .map b2], Q139 ob cap w.groups, Q103 ob2 cap2 w.budgets, Q68 ob3 cap3 w.ms, Q64 ob4 cap4 w.bs, .map b2 (List.map (pf VV.str (VV.int .i64)) w.held), .box b3 149 [Z140 A0 A1 ob5 c.pools cap5, Z152 A0 A1 ob6 c.insts cap6, Iw c.delay, Iw c.now, Iw c.calls], Q140 A0 A1 ob5 cap5 c.pools, Q152 A0 A1 ob6 cap6 c.insts] fun zx zH => ∃ (ob0_1 : Option Nat) (cap0_1 : Nat) (ob0_2 : Option Nat) (cap0_2 : Nat) (ob0_3 : Option Nat) (cap0_3 : Nat) (ob0_4 : Option Nat) (cap0_4 : Nat) (b0_5 : Nat), zx = Iw r.1 ∧ zH = [.box b 43 [.ptr b3 0, Z139 ob0_1 r.2.groups cap0_1, Z103 ob0_2 r.2.budgets cap0_2, Z68 ob0_3 r.2.ms cap0_3, Z64 ob0_4 r.2.bs cap0_4, .map b0_5], Q139 ob0_1 cap0_1 r.2.groups, Q103 ob0_2 cap0_2 r.2.budgets, Q68 ob0_3 cap0_3 r.2.ms, Q64 ob0_4 cap0_4 r.2.bs, .map b0_5 (List.map (pf VV.str (VV.int .i64)) r.2.held), .box b3 149 [Z140 A0 A1 ob5 c.pools cap5, Z152 A0 A1 ob6 c.insts cap6, Iw c.delay, Iw c.now, Iw c.calls], Q140 A0 A1 ob5 cap5 c.pools, Q152 A0 A1 ob6 cap6 c.insts] := by
 refine Ck [.tmp 6] Eb R R R fun r hm=>?_
 unfold world_World_Taint at hm
 refine Ae<|Ab R R<|Bi R R fun b4=>Aa R R (Ai R)<|Ac<|Ae<|Ad tbk [] 2 R R<|Aa R R (Cj R R)<|Bd hm fun r h2 hm=>Au (A5 [1,2,3,4,5,6,7,8,9,0] R)<|Ab R R<|Aq 10 R fn69 R (K150 A0 A1 w c name x b ob cap ob2 cap2 ob3 cap3 ob4 cap4 b2 b3 ob5 cap5 ob6 cap6 b4 r h2) fun _ _ h3=> ?_
 obtain ⟨ob7,cap7,ob8,cap8,ob9,cap9,ob10,cap10,b5,rfl,rfl⟩:=h3
 refine Aa R R (Ai R)<|Ac<|?_
 obtain rfl:=Option.some.inj hm
 exact Bu ⟨.inl R,_,.cons (.tmp _ _ R) .nil,[0,1,2,3,4,5,6,7,8],_,R,ob7,cap7,ob8,cap8,ob9,cap9,ob10,cap10,b5,R,R⟩

/-! (*trireme/drain.Table).Start -/
def drain_Table_Start_x.l1 (t : T_drain_Table) (w : T_world_World) (name : ByteArray) : Nat → Int → Option (Out (Int × T_drain_Table × T_world_World) Unit)
 | 0, _ => none
 | n + 1, v2 =>
  if (decide (v2 < (t.l.length : Int))) = true then
   (V.gl t.l v2).bind fun x =>
   if (V.seq x.name name) = true then
    some (Out.ret (15, t, w))
   else
    drain_Table_Start_x.l1 t w name n (i64.wrap (v2 + 1))
  else
   some (Out.go ())
def drain_Table_Start_x (t : T_drain_Table) (w : T_world_World) (c : T_cloud_Cloud) (name : ByteArray) : Option (Int × T_drain_Table × T_world_World) :=
 (drain_Table_there_x t).bind fun r =>
 (if (!r) = true then some true else (drain_is w c).bind fun r2 =>
 some (!r2)).bind fun c2 =>
 if c2 = true then
  some (23, t, w)
 else
  (drain_has w c name).bind fun r3 =>
  if (!r3) = true then
   some (16, t, w)
  else
   (drain_Table_Start_x.l1 t w name FU (0 : Int)).bind fun o =>
   o.on fun j =>
   (world_World_Taint w c name (⟨(⟨#[100, 114, 97, 105, 110, 105, 110, 103]⟩ : ByteArray), (⟨#[]⟩ : ByteArray), 1⟩ : T_api_Taint)).bind fun r4 =>
   if (r4.1 != 0) = true then
    some (r4.1, t, r4.2)
   else
    (V.ap 32 t.l [(⟨name, 0, false⟩ : T_drain_one)]).bind fun l2 =>
    some (0, (⟨l2, t.grace, t.made⟩ : T_drain_Table), r4.2)
theorem K152 (A0 A1 : Nat) (t : T_drain_Table) (w : T_world_World) (c : T_cloud_Cloud) (name : ByteArray) (b : Nat) (ob : Option Nat) (cap : Nat) (b2 : Nat) (ob2 : Option Nat) (cap2 : Nat) (ob3 : Option Nat) (cap3 : Nat) (ob4 : Option Nat) (cap4 : Nat) (ob5 : Option Nat) (cap5 : Nat) (b3 : Nat) (b4 : Nat) (ob6 : Option Nat) (cap6 : Nat) (ob7 : Option Nat) (cap7 : Nat) : ∀ r : Int × T_drain_Table × T_world_World, drain_Table_Start_x t w c name = some r → VC Tryz.prog 39 [.ptr b 0, .ptr b2 0, .str name] [.box b 108 [Z172 ob t.l cap, Iw t.grace, .bool t.made], Q172 ob cap t.l, .box b2 43 [.ptr b4 0, Z139 ob2 w.groups cap2, Z103 ob3 w.budgets cap3, Z68 ob4 w.ms cap4, Z64 ob5 w.bs cap5, .map b3], Q139 ob2 cap2 w.groups, Q103 ob3 cap3 w.budgets, Q68 ob4 cap4 w.ms, Q64 ob5 cap5 w.bs, .map b3 (List.map (pf VV.str (VV.int .i64)) w.held), .box b4 149 [Z140 A0 A1 ob6 c.pools cap6, Z152 A0 A1 ob7 c.insts cap7, Iw c.delay, Iw c.now, Iw c.calls], Q140 A0 A1 ob6 cap6 c.pools, Q152 A0 A1 ob7 cap7 c.insts] fun zx zH => ∃ (ob0_0 : Option Nat) (cap0_0 : Nat) (ob1_1 : Option Nat) (cap1_1 : Nat) (ob1_2 : Option Nat) (cap1_2 : Nat) (ob1_3 : Option Nat) (cap1_3 : Nat) (ob1_4 : Option Nat) (cap1_4 : Nat) (b1_5 : Nat), zx = Iw r.1 ∧ zH = [.box b 108 [Z172 ob0_0 r.2.1.l cap0_0, Iw r.2.1.grace, .bool r.2.1.made], Q172 ob0_0 cap0_0 r.2.1.l, .box b2 43 [.ptr b4 0, Z139 ob1_1 r.2.2.groups cap1_1, Z103 ob1_2 r.2.2.budgets cap1_2, Z68 ob1_3 r.2.2.ms cap1_3, Z64 ob1_4 r.2.2.bs cap1_4, .map b1_5], Q139 ob1_1 cap1_1 r.2.2.groups, Q103 ob1_2 cap1_2 r.2.2.budgets, Q68 ob1_3 cap1_3 r.2.2.ms, Q64 ob1_4 cap1_4 r.2.2.bs, .map b1_5 (List.map (pf VV.str (VV.int .i64)) r.2.2.held), .box b4 149 [Z140 A0 A1 ob6 c.pools cap6, Z152 A0 A1 ob7 c.insts cap7, Iw c.delay, Iw c.now, Iw c.calls], Q140 A0 A1 ob6 cap6 c.pools, Q152 A0 A1 ob7 cap7 c.insts] := by
 refine Ck [.tmp 6] Dg R R R fun r hm=>?_
 unfold drain_Table_Start_x at hm
 refine Ag tbk [] R R<|Ah<|A4<|Ae<|Aa R R (Af R)<|Ab R R<|Ay hm 2 R fn111 R (K142 _ _ _ _) fun r hm=>Ad tbk [] 2 R R<|Bt hm 4 18 14 R (fun _ K' h2 J hm=>Ad tbk [] 4 R R<|J 3 R R (Bj hm)) (fun _ K' h2 J hm=>?_) fun c2 hm=> ?_
 ·refine Ba R R R R R (Af R)<|Bd hm fun r2 h3 hm=>Au (A5 [2,3,4,5,6,7,8,9,10,0,1] R)<|A8 R R R R R<|Aq 9 R fn112 R (K143 A0 A1 w c b2 ob2 cap2 ob3 cap3 ob4 cap4 ob5 cap5 b3 b4 ob6 cap6 ob7 cap7 r2 h3) fun _ _ h4=> ?_
  obtain ⟨rfl,rfl⟩:=h4
  exact Ad tbk [] 2 R R<|Au (A5 [9,10,0,1,2,3,4,5,6,7,8] R)<|J 3 R R (Bj hm)
 refine Aa R R (Ai R)<|Ac<|Ao hm R (fun h6 hm=>?_) fun h6 hm=> ?_
 ·refine Ag tbk [] R R<|?_
  obtain rfl:=Option.some.inj hm
  exact Bu ⟨.inl R,_,.cons (.tmp _ _ R) .nil,[0,1,2,3,4,5,6,7,8,9,10],_,R,ob,cap,ob2,cap2,ob3,cap3,ob4,cap4,ob5,cap5,b3,R,R⟩
 refine Ae<|Ad tbk [] 2 R R<|Au (A5 [2,3,4,5,6,7,8,9,10,0,1] R)<|Ab R R<|Ay hm 9 R fn113 R (K145 A0 A1 _ _ _ _ _ _ _ _ _ _ _ _ _ _ _ _ _ _) fun r3 hm=>Ad tbk [] 2 R R<|Ac<|Ao hm R (fun h8 hm=>?_) fun h8 hm=> ?_
 ·refine Ag tbk [] R R<|?_
  obtain rfl:=Option.some.inj hm
  exact Bu ⟨.inl R,_,.cons (.tmp _ _ R) .nil,[9,10,0,1,2,3,4,5,6,7,8],_,R,ob,cap,ob2,cap2,ob3,cap3,ob4,cap4,ob5,cap5,b3,R,R⟩
 refine Am<|Ah<|Ae<|Ad tbk [9] 4 R R<|Aa R R (Cq T_drain_one.vv R Cx)<|Aa R R (Af R)<|Ac<|Cf hm (fun _ (_:Unit)=>[(0,.ptr b 0),(1,.ptr b2 0),(2,.str name)]) (fun _ (_:Unit)=>[.box b2 43 [.ptr b4 0,Z139 ob2 w.groups cap2,Z103 ob3 w.budgets cap3,Z68 ob4 w.ms cap4,Z64 ob5 w.bs cap5,.map b3],Q139 ob2 cap2 w.groups,Q103 ob3 cap3 w.budgets,Q68 ob4 cap4 w.ms,Q64 ob5 cap5 w.bs,.map b3 (List.map (pf VV.str (VV.int .i64)) w.held),.box b4 149 [Z140 A0 A1 ob6 c.pools cap6,Z152 A0 A1 ob7 c.insts cap7,Iw c.delay,Iw c.now,Iw c.calls],Q140 A0 A1 ob6 cap6 c.pools,Q152 A0 A1 ob7 cap7 c.insts,.box b 108 [Z172 ob t.l cap,Iw t.grace,.bool t.made],Q172 ob cap t.l]) (fun o hm h10=>?_) fun j _ hm=> ?_
 ·refine Cm (fun zn (zs:Int)=>drain_Table_Start_x.l1 t w name zn zs) (fun zs (_:Unit)=>[(0,.ptr b 0),(1,.ptr b2 0),(2,.str name),(27,Z172 ob t.l cap),(28,Iw (t.l.length : Int)),(29,Iw zs)]) (fun _ (_:Unit)=>[.box b2 43 [.ptr b4 0,Z139 ob2 w.groups cap2,Z103 ob3 w.budgets cap3,Z68 ob4 w.ms cap4,Z64 ob5 w.bs cap5,.map b3],Q139 ob2 cap2 w.groups,Q103 ob3 cap3 w.budgets,Q68 ob4 cap4 w.ms,Q64 ob5 cap5 w.bs,.map b3 (List.map (pf VV.str (VV.int .i64)) w.held),.box b4 149 [Z140 A0 A1 ob6 c.pools cap6,Z152 A0 A1 ob7 c.insts cap7,Iw c.delay,Iw c.now,Iw c.calls],Q140 A0 A1 ob6 cap6 c.pools,Q152 A0 A1 ob7 cap7 c.insts,.box b 108 [Z172 ob t.l cap,Iw t.grace,.bool t.made],Q172 ob cap t.l]) (0 : Int) () (fun _=>R) hm (Ak [0,1,2,3,4,5,6,7,8,9,10] (by kernel_rfl) (by kernel_rfl)) fun n v2 _ hm=> ?_
  rw [drain_Table_Start_x.l1] at hm
  refine Ag tbk [] R R<|Ah<|Ao hm R (fun h11 hm=>?_) fun h11 hm=> ?_
  ·refine Am<|Ah<|A4<|Ae<|Bd hm fun x h12 hm=>Cd 10 R (gl_pos T_drain_one.vv h12) fun b5 h13=> ?_
   subst h13
   refine Aa R R (Ci T_drain_one.vv R R el106 h12)<|Aa R R (B8 (i:=10) (y:=T_drain_one.vv x) R R R (gl_map _ (gl_some h12).2) ld172 R)<|Ab R R<|Aw z172 fun b6=>Ab R R<|Aj (i:=0) R R R ld172 R R R<|Ac<|Ag tbk [0] R R<|Ao hm R (fun h15 hm=>?_) fun h15 hm=> ?_
   ·refine Ag tbk [] R R<|have hm:=Lr hm h10; ?_
    obtain rfl:=Option.some.inj hm
    exact Bu ⟨.inl R,_,.cons (.tmp _ _ R) .nil,[10,11,1,2,3,4,5,6,7,8,9],_,R,(some b5),cap,ob2,cap2,ob3,cap3,ob4,cap4,ob5,cap5,b3,R,R⟩
   exact Am<|Bc tbk [] R R<|Ap (IntKind.i64.wrap (v2 + (1 : Int))) () hm (Ak [1,2,3,4,5,6,7,8,9,10,11] (by kernel_rfl) (by kernel_rfl))
  exact Bb<|Ar () hm (Ak [0,1,2,3,4,5,6,7,8,9,10] (by kernel_rfl) (by kernel_rfl))
 refine Ah<|Ae<|Ad tbk [] 2 R R<|Aa R R (Bl pl31 R R)<|Bd hm fun r4 h16 hm=>Ab R R<|Aq 9 R fn16 R (K151 A0 A1 w c name (⟨(⟨#[100,114,97,105,110,105,110,103]⟩ : ByteArray),(⟨#[]⟩ : ByteArray),(1 : Int)⟩ : T_api_Taint) b2 ob2 cap2 ob3 cap3 ob4 cap4 ob5 cap5 b3 b4 ob6 cap6 ob7 cap7 r4 h16) fun _ _ h20=> ?_
 obtain ⟨ob8,cap8,ob9,cap9,ob10,cap10,ob11,cap11,b7,rfl,rfl⟩:=h20
 refine Aa R R (Ai R)<|Ac<|Ag tbk [] R R<|Ao hm R (fun h17 hm=>?_) fun h17 hm=> ?_
 ·refine Ag tbk [] R R<|?_
  obtain rfl:=Option.some.inj hm
  exact Bu ⟨.inl R,_,.cons (.tmp _ _ R) .nil,[9,10,0,1,2,3,4,5,6,7,8],_,R,ob,cap,ob8,cap8,ob9,cap9,ob10,cap10,ob11,cap11,b7,R,R⟩
 refine Am<|Ae<|Ad tbk [9] 6 R R<|Aa R R (Bl pl172 R R)<|Ab R R<|Ax ap106 R R R R R fun b8=>Bd hm fun l2 h19 hm=>Ab R R<|Bp 11 T_drain_one.vv (l:=t.l) (l2:=[(⟨name,(0 : Int),false⟩ : T_drain_one)]) ap106 R R (sT_row 0 T_drain_one.vv el106 R R) h19 fun ob12 cap12=>Ad tbk [] 2 R R<|Ab R R<|Aj (i:=10) R R R ld106 R R R<|Ac<|Ag tbk [] R R<|?_
 obtain rfl:=Option.some.inj hm
 exact Bu ⟨.inl R,_,.cons (.tmp _ _ R) .nil,[10,11,1,2,3,4,5,6,7,8,9],_,R,ob12,cap12,ob8,cap8,ob9,cap9,ob10,cap10,ob11,cap11,b7,R,R⟩

/-! (*trireme/drain.Table).Step$1 -/
def drain_Table_Step_1 (what : ByteArray) (name : ByteArray) (a : List ByteArray) : Option (List ByteArray) :=
 (V.cat what (⟨#[32]⟩ : ByteArray)).bind fun v =>
 (V.cat v name).bind fun v2 =>
 (V.ap 16 a [v2]).bind fun l =>
 some l
theorem K153 (what : ByteArray) (name : ByteArray) (a : List ByteArray) (b : Nat) (ob : Option Nat) (cap : Nat) : VS2 Tryz.prog 117 (drain_Table_Step_1 what name a) [.str what, .str name, .ptr b 0] [.box b 61 [Z9 ob a cap], Q9 ob cap a] (fun r ob0_0 cap0_0=>.tup []) (fun r ob0_0 cap0_0=>[.box b 61 [Z9 ob0_0 r cap0_0], Q9 ob0_0 cap0_0 r]) := by
 refine Ch [] Tryz.func117 R R R fun r hm=>?_
 unfold drain_Table_Step_1 at hm
 refine Bw<|Ad tbk [0] 2 R R<|Bd hm fun v h1 hm=>Aa R R (Dr R R h1)<|Aa R R (Af R)<|Bd hm fun v2 h2 hm=>Aa R R (Dr R R h2)<|Ab R R<|Ax ap61 R R R R R fun b2=>Bd hm fun l h4 hm=>Ab R R<|Bp 2 VV.str (l:=a) (l2:=[v2]) ap61 R R (sT_row 0 VV.str el61 R R) h4 fun ob2 cap2=>Ab R R<|Aj (i:=1) R R R ld61 R R R<|Ac<|?_
 obtain rfl:=Option.some.inj hm
 exact ⟨.inr R,_,.nil,[1,2],_,R,ob2,cap2,R,R⟩

/-! trireme/block.Movable -/
def block_Movable.l1 : List T_api_Pod → Nat → (List T_api_Pod) → Option (List T_api_Pod)
 | [], k, l2 => some l2
 | x :: l4, k, l2 =>
  if (!x.Daemon) = true then
   (V.ap 272 l2 [x]).bind fun l5 =>
   block_Movable.l1 l4 (k + 1) l5
  else
   block_Movable.l1 l4 (k + 1) l2
def block_Movable (bs : List T_api_Bound) (name : ByteArray) : Option (List T_api_Pod) :=
 (yard_On bs name).bind fun r =>
 (block_Movable.l1 r 0 ([] : List T_api_Pod)).bind fun l32 =>
 some l32
theorem K154 (bs : List T_api_Bound) (name : ByteArray) : VS2 Tryz.prog 175 (block_Movable bs name) [L64 bs, .str name] [] (fun r ob0 cap0=>Z29 ob0 r cap0) (fun r ob0 cap0=>[Q29 ob0 cap0 r]) := by
 refine Ch [.tmp 4] Tryz.func175 R R R fun r hm=>?_
 unfold block_Movable at hm
 refine Ag tbk [] R R<|Ag tbk [] R R<|Ah<|Ae<|Ad tbk [] 2 R R<|Ab R R<|B6 hm 0 R fn123 R (K73 _ _) fun r ob cap hm=>Au (Av 0 [(10,L29 r)] R ⟨⟨_,R,.here _ R⟩,trivial⟩ (FzH.refl _))<|Aa R R (Be T_api_Pod.vv R Cy)<|Aa R R (Af R)<|Ac<|B2 10 R fun h7=>Ca hm (fun l32 (gg:Option Nat × Nat)=>[(5,Z29 gg.1 l32 gg.2)]) (fun l32 (gg:Option Nat × Nat)=>[Q29 gg.1 gg.2 l32]) (fun o hm=>?_) fun l32=>Pq fun ob4 cap4 hm=> ?_
 ·refine Cc (r) (fun zl zk (zs:List T_api_Pod)=>block_Movable.l1 zl zk zs) (fun k zs (zg:Option Nat × Nat)=>[(5,Z29 zg.1 zs zg.2),(10,L29 r),(11,Iw (r.length : Int)),(12,Iw (k : Int))]) (fun _ zs (zg:Option Nat × Nat)=>[Q29 zg.1 zg.2 zs]) _ (none,0) hm (Bg (Az 29) (Ak [0] R R)) (fun k l2=>Pq fun ob3 cap3 hk hm=>?_) fun k x l4 l2=>Pq fun ob3 cap3 h8 hm=> ?_
  ·rw [block_Movable.l1] at hm
   exact Ag tbk [] R R<|Ah<|Bq R (k_end hk)<|Bb<|As (ob3,cap3) hm (Ak [0] R R)
  rw [block_Movable.l1] at hm
  exact Ag tbk [] R R<|Ah<|Bk R (k_lt h8)<|Am<|Ah<|A4<|Ae<|Aa R R (B4 T_api_Pod.vv R R el193 h8)<|Aa R R (Bx R ld29 R)<|Ab R R<|Aw z29 fun b=>Ab R R<|Aj (i:=0) R R R ld29 R R R<|Ac<|Ag tbk [0] R R<|Ao hm R (fun h10 hm=>Bw<|Ad tbk [0] 2 R R<|Ab R R<|Ax ap193 R R R R R fun b2=>Bd hm fun l5 h12 hm=>Ab R R<|Bp 2 T_api_Pod.vv (l:=l2) (l2:=[x]) ap193 R R (sT_row 0 T_api_Pod.vv el193 R R) h12 fun ob5 cap5=>Aa R R (Ai R)<|Ac<|Bc tbk [] R R<|Ap _ (ob5,cap5) hm (Bf [2] R ⟨R,R,R,congrArg some (k_next h8 h7),trivial⟩)) fun h10 hm=>Am<|Bc tbk [] R R<|Ap _ (ob3,cap3) hm (Bf [1] R ⟨R,R,R,congrArg some (k_next h8 h7),trivial⟩)
 exact Ag tbk [] R R<|Rg2 hm R [0] ob4 cap4 (.cons (.tmp _ _ R) .nil) R R

/-! trireme/budget.counts -/
def budget_counts (b : T_api_Budget) (p : T_api_Pod) : Option Bool :=
 (labels_Has p.Labels b.Match).bind fun r =>
 some r
theorem K155 (b : T_api_Budget) (p : T_api_Pod) : VS Tryz.prog 146 (budget_counts b p) [T_api_Budget.vv b, T_api_Pod.vv p] [] .bool N0 := by
 refine A7 [.tmp 4] Tryz.func146 R R R fun r hm=>?_
 unfold budget_counts at hm
 exact Ae<|Ab R R<|Bi R R fun b2=>Ab R R<|Bi R R fun b3=>Aa R R (Ai R)<|Ac<|Ae<|Ad tbk [0,1] 4 R R<|Ab R R<|Ay hm 0 R fn191 R (K80 _ _) fun r hm=>Aa R R (Ai R)<|Ac<|Rt1 hm R [] R R R

/-! trireme/budget.Spare -/
def budget_Spare.l1 (b : T_api_Budget) : List T_api_Bound → Nat → Int → Option Int
 | [], k, n2 => some n2
 | x :: l, k, n2 =>
  (if (!(V.seq x.On (⟨#[]⟩ : ByteArray))) = true then (budget_counts b x.Pod).bind fun r =>
  some r else some false).bind fun c =>
  if c = true then
   budget_Spare.l1 b l (k + 1) (i64.wrap (n2 + 1))
  else
   budget_Spare.l1 b l (k + 1) n2
def budget_Spare (b : T_api_Budget) (bs : List T_api_Bound) : Option Int :=
 (budget_Spare.l1 b bs 0 (i64.wrap (0 - b.Least))).bind fun n32 =>
 some n32
theorem K156 (b : T_api_Budget) (bs : List T_api_Bound) : VS Tryz.prog 147 (budget_Spare b bs) [T_api_Budget.vv b, L64 bs] [] Iw N0 := by
 refine A7 [.tmp 4] Tryz.func147 R R R fun r hm=>?_
 unfold budget_Spare at hm
 refine Ae<|Ab R R<|Bi R R fun b2=>Aa R R (Ai R)<|Ac<|Ae<|Ad tbk [0] 2 R R<|Aa R R (VP.neg R)<|Aa R R (Ai R)<|Ac<|Ah<|Ae<|Aa R R (Af R)<|Aa R R (Be T_api_Bound.vv R B7)<|Aa R R (Af R)<|Ac<|B2 11 R fun h4=>Ca hm (fun n32 (_:Unit)=>[(5,Iw n32)]) (fun _ (_:Unit)=>[]) (fun o hm=>?_) fun n32 _ hm=> ?_
 ·refine Cc (bs) (fun zl zk (zs:Int)=>budget_Spare.l1 b zl zk zs) (fun k zs (_:Unit)=>[(2,.ptr b2 0),(5,Iw zs),(11,L64 bs),(12,Iw (bs.length : Int)),(13,Iw (k : Int))]) (fun _ _ (_:Unit)=>[X103 b2 b]) _ () hm (Ak [0] R R) (fun k n2 _ hk hm=>?_) fun k x l n2 _ h5 hm=> ?_
  ·rw [budget_Spare.l1] at hm
   exact Ag tbk [] R R<|Ah<|Bq R (k_end hk)<|Bb<|As () hm (Ak [] R R)
  rw [budget_Spare.l1] at hm
  exact Ag tbk [] R R<|Ah<|Bk R (k_lt h5)<|Am<|Ah<|A4<|Ae<|Aa R R (B4 T_api_Bound.vv R R el40 h5)<|Aa R R (Bx R ld64 R)<|Ab R R<|Aw z64 fun b3=>Ab R R<|Aj (i:=0) R R R ld64 R R R<|Ac<|Ae<|Ad tbk [0] 4 R R<|Bt hm 5 25 20 R (fun _ K' h7 J hm=>Ad tbk [1,0] 3 R R<|A8 R R R R R<|Ay hm 0 R fn146 R (K155 _ _) fun r hm=>Aa R R (Bs true R R R)<|J 4 R R (Bj hm)) (fun _ K' h7 J hm=>Ad tbk [] 5 R R<|J 4 R R (Bj hm)) fun c hm=>Ac<|Ao hm R (fun h10 hm=>Bc tbk [] R R<|Bc tbk [] R R<|Ap _ () hm (Bf [1] R ⟨R,R,R,R,congrArg some (k_next h5 h4),trivial⟩)) fun h10 hm=>Am<|Bc tbk [] R R<|Ap _ () hm (Bf [1] R ⟨R,R,R,R,congrArg some (k_next h5 h4),trivial⟩)
 exact Ag tbk [] R R<|Rt1 hm R [] R R R

/-! trireme/budget.May -/
def budget_May.l1 (bs : List T_api_Bound) (r : Int) : List T_api_Budget → Nat → Option (Out Int Unit)
 | [], k => some (Out.go ())
 | x2 :: l2, k =>
  (V.gl bs r).bind fun x3 =>
  (budget_counts x2 x3.Pod).bind fun r2 =>
  (if r2 = true then (budget_Spare x2 bs).bind fun r3 =>
  some (decide (r3 ≤ 0)) else some false).bind fun c =>
  if c = true then
   some (Out.ret 20)
  else
   budget_May.l1 bs r l2 (k + 1)
def budget_May (l : List T_api_Budget) (bs : List T_api_Bound) (name : ByteArray) : Option Int :=
 (yard_Place bs name).bind fun r =>
 if (decide (r < 0)) = true then
  some 16
 else
  (V.gl bs r).bind fun x =>
  if (V.seq x.On (⟨#[]⟩ : ByteArray)) = true then
   some 22
  else
   (budget_May.l1 bs r l 0).bind fun o =>
   o.on fun j =>
   some 0
theorem K157 (l : List T_api_Budget) (bs : List T_api_Bound) (name : ByteArray) : VS Tryz.prog 78 (budget_May l bs name) [L103 l, L64 bs, .str name] [] Iw N0 := by
 refine A7 [.tmp 6] Tryz.func78 R R R fun r hm=>?_
 unfold budget_May at hm
 refine Ag tbk [] R R<|Ae<|Ad tbk [] 2 R R<|Ab R R<|Ay hm 0 R fn66 R (K61 _ _) fun r hm=>Aa R R (Ai R)<|Ac<|Ah<|A4<|Ag tbk [] R R<|Ao hm R (fun h2 hm=>Ag tbk [] R R<|Rt1 hm R [] R R R) fun h2 hm=>Ae<|Ad tbk [] 2 R R<|Bd hm fun x h3 hm=>Aa R R (Cp T_api_Bound.vv R R el40 h3)<|Ad tbk [] 4 R R<|Ac<|Ao hm R (fun h4 hm=>Ag tbk [] R R<|Rt1 hm R [] R R R) fun h4 hm=>Am<|Ah<|Ae<|Aa R R (Af R)<|Aa R R (Be T_api_Budget.vv R Db)<|Aa R R (Af R)<|Ac<|B2 23 R fun h7=>Cf hm (fun _ (_:Unit)=>[]) (fun _ (_:Unit)=>[]) (fun o hm h6=>?_) fun j _ hm=> ?_
 ·refine Cc (l) (fun zl zk (zs:Unit)=>budget_May.l1 bs r zl zk) (fun k _ (_:Unit)=>[(1,L64 bs),(7,Iw r),(23,L103 l),(24,Iw (l.length : Int)),(25,Iw (k : Int))]) (fun _ _ (_:Unit)=>[]) () () hm (Ak [] R R) (fun k _ _ hk hm=>?_) fun k x2 l2 _ _ h8 hm=> ?_
  ·rw [budget_May.l1] at hm
   exact Ag tbk [] R R<|Ah<|Bq R (k_end hk)<|Bb<|Ar () hm (Ak [] R R)
  rw [budget_May.l1] at hm
  refine Ag tbk [] R R<|Ah<|Bk R (k_lt h8)<|Am<|Ah<|A4<|Ae<|Aa R R (B4 T_api_Budget.vv R R el38 h8)<|Aa R R (Bx R ld103 R)<|Ab R R<|Aw z103 fun b=>Ab R R<|Aj (i:=0) R R R ld103 R R R<|Ac<|Ah<|Bo 0 mixed<|Bh tbk [0,1,2] [0] (by kernel_rfl) R R R<|Bd hm fun x3 h10 hm=>A9 3 R R R (by kernel_rfl) (Cp T_api_Bound.vv R R el40 h10)<|Bh tbk [4,5] [] (by kernel_rfl) R R R<|Al 6 (by kernel_rfl)<|Bd hm fun r2 h11 hm=>An R R R<|Aq 0 R fn146 R (K155 x2 x3.Pod r2 h11) fun _ _ h16=> ?_
  obtain ⟨rfl,rfl⟩:=h16
  exact A9 7 R R R (by kernel_rfl) (Af R)<|VA.sm hm [12,11,10,9,8,7,6,5,4,3,2,1,0] 41 36 R (fun _ K' h12 J hm=>Bh tbk [8,9] [0] (by kernel_rfl) R R R<|Al 10 (by kernel_rfl)<|VB.oG R R R R R R<|Ay hm 0 R fn147 R (K156 _ _) fun r3 hm=>Bh tbk [11,12] [] (by kernel_rfl) R R R<|J 4 R R (Bj hm)) (fun _ K' h12 J hm=>Bh tbk [8,9,10,11,12] [] (by kernel_rfl) R R R<|J 4 R R (Bj hm)) fun c hm=>A6 (by kernel_rfl)<|Ao hm R (fun h15 hm=>Ag tbk [] R R<|have hm:=Lr hm h6;Rt1 hm R [] R R R) fun h15 hm=>Am<|Bc tbk [] R R<|Ap () () hm (Bf [] R ⟨R,R,R,R,congrArg some (k_next h8 h7),trivial⟩)
 exact Ag tbk [] R R<|Rt1 hm R [] R R R

/-! (*trireme/world.World).cut -/
def world_World_cut (w : T_world_World) (c : T_cloud_Cloud) (i : Int) : Option (T_api_Pod × T_world_World) :=
 (V.gl w.bs i).bind fun x =>
 (V.rng w.bs.length none (some i)).bind fun r =>
 (V.rng w.bs.length (some (i64.wrap (i + 1))) none).bind fun r2 =>
 (V.aps 288 w.bs r r2).bind fun l =>
 some (x.Pod, (⟨(), w.groups, w.budgets, w.ms, l, w.held⟩ : T_world_World))
theorem K158 (A0 A1 : Nat) (w : T_world_World) (c : T_cloud_Cloud) (i : Int) (b : Nat) (ob : Option Nat) (cap : Nat) (ob2 : Option Nat) (cap2 : Nat) (ob3 : Option Nat) (cap3 : Nat) (ob4 : Option Nat) (cap4 : Nat) (b2 : Nat) (b3 : Nat) (ob5 : Option Nat) (cap5 : Nat) (ob6 : Option Nat) (cap6 : Nat) : ∀ r : T_api_Pod × T_world_World, world_World_cut w c i = some r → VC Tryz.prog 68 [.ptr b 0, Iw i] [.box b 43 [.ptr b3 0, Z139 ob w.groups cap, Z103 ob2 w.budgets cap2, Z68 ob3 w.ms cap3, Z64 ob4 w.bs cap4, .map b2], Q139 ob cap w.groups, Q103 ob2 cap2 w.budgets, Q68 ob3 cap3 w.ms, Q64 ob4 cap4 w.bs, .map b2 (List.map (pf VV.str (VV.int .i64)) w.held), .box b3 149 [Z140 A0 A1 ob5 c.pools cap5, Z152 A0 A1 ob6 c.insts cap6, Iw c.delay, Iw c.now, Iw c.calls], Q140 A0 A1 ob5 cap5 c.pools, Q152 A0 A1 ob6 cap6 c.insts] fun zx zH => ∃ (ob0_1 : Option Nat) (cap0_1 : Nat) (ob0_2 : Option Nat) (cap0_2 : Nat) (ob0_3 : Option Nat) (cap0_3 : Nat) (ob0_4 : Option Nat) (cap0_4 : Nat) (b0_5 : Nat), zx = T_api_Pod.vv r.1 ∧ zH = [.box b 43 [.ptr b3 0, Z139 ob0_1 r.2.groups cap0_1, Z103 ob0_2 r.2.budgets cap0_2, Z68 ob0_3 r.2.ms cap0_3, Z64 ob0_4 r.2.bs cap0_4, .map b0_5], Q139 ob0_1 cap0_1 r.2.groups, Q103 ob0_2 cap0_2 r.2.budgets, Q68 ob0_3 cap0_3 r.2.ms, Q64 ob0_4 cap0_4 r.2.bs, .map b0_5 (List.map (pf VV.str (VV.int .i64)) r.2.held), .box b3 149 [Z140 A0 A1 ob5 c.pools cap5, Z152 A0 A1 ob6 c.insts cap6, Iw c.delay, Iw c.now, Iw c.calls], Q140 A0 A1 ob5 cap5 c.pools, Q152 A0 A1 ob6 cap6 c.insts] := by
 refine Ck [.cell 4 29] Tryz.func68 R R R fun r hm=>?_
 unfold world_World_cut at hm
 refine Ae<|Ab R R<|Aw z29 fun b4=>Ac<|Ae<|Ad tbk [1] 5 R R<|Bd hm fun x h2 hm=>Cd 5 R (gl_pos T_api_Bound.vv h2) fun b5 h3=> ?_
 subst h3
 refine Aa R R (Ci T_api_Bound.vv R R el40 h2)<|Aa R R (D0 R fa64_0)<|Aa R R (B8 (i:=5) (y:=T_api_Bound.vv x) R R R (gl_map _ (gl_some h2).2) ld29 R)<|Ab R R<|Aw z29 fun b6=>Ab R R<|Aj (i:=0) R R R ld29 R R R<|Ac<|Ah<|Br (A5 [2,6,0,1,3,4,5,7,8,9,10] R)<|Bo 2 mixed<|Bh tbk [0,1,2,3,5,6,8,9,10,12,13] [] (by kernel_rfl) R R R<|?_
 refine B1 [4,11] (by kernel_rfl) ⟨?_,?_,trivial⟩
 ·refine An R R R<|B3 (B0 (i:=0) R R ld40 R)<|Bd hm fun r h5 hm=>VA.pH 7 R R R (by kernel_rfl) (VPH.sub3T (f:=T_api_Bound.vv) (xs:=w.bs) 1 el40 R R R R R h5)<|Al 11 (by kernel_rfl)<|An R R R<|B3 (B0 (i:=0) R R ld40 R)<|Bd hm fun r2 h6 hm=>VA.pH 14 R R R (by kernel_rfl) (VPH.subT (f:=T_api_Bound.vv) (xs:=w.bs) 1 el40 R R R R h6)<|Al 15 (by kernel_rfl)<|Bd hm fun l h7 hm=>An R R R<|VO.appSub 1 (f:=T_api_Bound.vv) (l:=w.bs) ap40 R R R R (V.rng_0 h5) (rng_le h5) (rng_le h6) h7 fun ob7 cap7=>Bh tbk [16,17] [] (by kernel_rfl) R R R<|Al 18 (by kernel_rfl)<|An R R R<|Aj (i:=0) R R R ld40 R R R<|A6 (by kernel_rfl)<|Ae<|Ad tbk [2] 1 R R<|Ab R R<|Aj (i:=3) R R R ld29 R R R<|Ac<|?_
  obtain rfl:=Option.some.inj hm
  exact Bu ⟨.inl R,_,.cons (.cell _ _ _ _ 3 _ _ _ _ R R ld29 R) .nil,[0,4,5,6,1,7,8,9,10],_,R,ob,cap,ob2,cap2,ob3,cap3,ob7,cap7,b2,R,R⟩
 ·refine An R R R<|B3 (B0 (i:=0) R R ld40 R)<|Bd hm fun r3 h8 hm=>Bd hm fun r4 h9 hm=>VA.pH 14 R R R (by kernel_rfl) (VPH.subT (f:=T_api_Bound.vv) (xs:=w.bs) 1 el40 R R R R h9)<|Al 4 (by kernel_rfl)<|An R R R<|B3 (B0 (i:=0) R R ld40 R)<|VA.pH 7 R R R (by kernel_rfl) (VPH.sub3T (f:=T_api_Bound.vv) (xs:=w.bs) 1 el40 R R R R R h8)<|Al 15 (by kernel_rfl)<|Bd hm fun l2 h10 hm=>An R R R<|VO.appSub 1 (f:=T_api_Bound.vv) (l:=w.bs) ap40 R R R R (V.rng_0 h8) (rng_le h8) (rng_le h9) h10 fun ob8 cap8=>Bh tbk [16,17] [] (by kernel_rfl) R R R<|Al 18 (by kernel_rfl)<|An R R R<|Aj (i:=0) R R R ld40 R R R<|A6 (by kernel_rfl)<|Ae<|Ad tbk [2] 1 R R<|Ab R R<|Aj (i:=3) R R R ld29 R R R<|Ac<|?_
  obtain rfl:=Option.some.inj hm
  exact Bu ⟨.inl R,_,.cons (.cell _ _ _ _ 3 _ _ _ _ R R ld29 R) .nil,[0,4,5,6,1,7,8,9,10],_,R,ob,cap,ob2,cap2,ob3,cap3,ob8,cap8,b2,R,R⟩

/-! (*trireme/world.World).Evict -/
def world_World_Evict (w : T_world_World) (c : T_cloud_Cloud) (name : ByteArray) : Option (Int × T_world_World) :=
 (world_World_there_x w c).bind fun r =>
 (budget_May w.budgets w.bs name).bind fun r2 =>
 if (r2 != 0) = true then
  some (r2, w)
 else
  (yard_Place w.bs name).bind fun r3 =>
  (world_World_cut w c r3).bind fun r4 =>
  (V.ap 288 r4.2.bs [(⟨r4.1, (⟨#[]⟩ : ByteArray)⟩ : T_api_Bound)]).bind fun l =>
  some (0, (⟨(), r4.2.groups, r4.2.budgets, r4.2.ms, l, r4.2.held⟩ : T_world_World))
theorem K159 (A0 A1 : Nat) (w : T_world_World) (c : T_cloud_Cloud) (name : ByteArray) (b : Nat) (ob : Option Nat) (cap : Nat) (ob2 : Option Nat) (cap2 : Nat) (ob3 : Option Nat) (cap3 : Nat) (ob4 : Option Nat) (cap4 : Nat) (b2 : Nat) (b3 : Nat) (ob5 : Option Nat) (cap5 : Nat) (ob6 : Option Nat) (cap6 : Nat) : ∀ r : Int × T_world_World, world_World_Evict w c name = some r → VC Tryz.prog 18 [.ptr b 0, .str name] [.box b 43 [.ptr b3 0, Z139 ob w.groups cap, Z103 ob2 w.budgets cap2, Z68 ob3 w.ms cap3, Z64 ob4 w.bs cap4, .map b2], Q139 ob cap w.groups, Q103 ob2 cap2 w.budgets, Q68 ob3 cap3 w.ms, Q64 ob4 cap4 w.bs, .map b2 (List.map (pf VV.str (VV.int .i64)) w.held), .box b3 149 [Z140 A0 A1 ob5 c.pools cap5, Z152 A0 A1 ob6 c.insts cap6, Iw c.delay, Iw c.now, Iw c.calls], Q140 A0 A1 ob5 cap5 c.pools, Q152 A0 A1 ob6 cap6 c.insts] fun zx zH => ∃ (ob0_1 : Option Nat) (cap0_1 : Nat) (ob0_2 : Option Nat) (cap0_2 : Nat) (ob0_3 : Option Nat) (cap0_3 : Nat) (ob0_4 : Option Nat) (cap0_4 : Nat) (b0_5 : Nat), zx = Iw r.1 ∧ zH = [.box b 43 [.ptr b3 0, Z139 ob0_1 r.2.groups cap0_1, Z103 ob0_2 r.2.budgets cap0_2, Z68 ob0_3 r.2.ms cap0_3, Z64 ob0_4 r.2.bs cap0_4, .map b0_5], Q139 ob0_1 cap0_1 r.2.groups, Q103 ob0_2 cap0_2 r.2.budgets, Q68 ob0_3 cap0_3 r.2.ms, Q64 ob0_4 cap0_4 r.2.bs, .map b0_5 (List.map (pf VV.str (VV.int .i64)) r.2.held), .box b3 149 [Z140 A0 A1 ob5 c.pools cap5, Z152 A0 A1 ob6 c.insts cap6, Iw c.delay, Iw c.now, Iw c.calls], Q140 A0 A1 ob5 cap5 c.pools, Q152 A0 A1 ob6 cap6 c.insts] := by
 refine Ck [.tmp 4] Tryz.func18 R R R fun r hm=>?_
 unfold world_World_Evict at hm
 refine Ag tbk [] R R<|Ah<|Ae<|Aa R R (Af R)<|Bd hm fun r h1 hm=>Ab R R<|Aq 9 R fn60 R (K51 A0 A1 w c b ob cap ob2 cap2 ob3 cap3 ob4 cap4 b2 b3 ob5 cap5 ob6 cap6 r h1) fun _ _ h12=> ?_
 obtain ⟨rfl,rfl⟩:=h12
 refine Aa R R (Cg R)<|Ac<|Bq R (congrArg not (Option.some.inj (show some true = some r from h1)).symm)<|Am<|Ah<|Ah<|Br (A5 [2,4,0,1,3,5,6,7,8] R)<|Bo 2 mixed<|Bh tbk [0,1,2,3,4,5,6,7,8] [0,0] (by kernel_rfl) R R R<|Al 9 (by kernel_rfl)<|An R R R<|Dp hm (Bg (Av 0 [(13,L103 w.budgets)] R ⟨⟨_,R,.here _ R⟩,trivial⟩ (FzH.refl _)) (Av 0 [(17,L64 w.bs)] R ⟨⟨_,R,.here _ R⟩,trivial⟩ (FzH.refl _))) [.same,.same,.same] R fn78 R (K157 _ _ _) (fun _=>R) (fun _=>R) fun r2 hm=>A9 10 R R R (by kernel_rfl) (Ai R)<|A6 (by kernel_rfl)<|Ag tbk [] R R<|Ao hm R (fun h3 hm=>?_) fun h3 hm=> ?_
 ·refine Ag tbk [] R R<|?_
  obtain rfl:=Option.some.inj hm
  exact Bu ⟨.inl R,_,.cons (.tmp _ _ R) .nil,[2,3,0,4,1,5,6,7,8],_,R,ob,cap,ob2,cap2,ob3,cap3,ob4,cap4,b2,R,R⟩
 refine Am<|Ae<|Ad tbk [2] 6 R R<|Ab R R<|Dp hm (Av (H':=[Q103 ob2 cap2 w.budgets,.box b 43 [.ptr b3 0,Z139 ob w.groups cap,Z103 ob2 w.budgets cap2,Z68 ob3 w.ms cap3,L64 w.bs,.map b2],Q139 ob cap w.groups,Q68 ob3 cap3 w.ms,.map b2 (List.map (pf VV.str (VV.int .i64)) w.held),.box b3 149 [Z140 A0 A1 ob5 c.pools cap5,Z152 A0 A1 ob6 c.insts cap6,Iw c.delay,Iw c.now,Iw c.calls],Q140 A0 A1 ob5 cap5 c.pools,Q152 A0 A1 ob6 cap6 c.insts]) 1 [(17,L64 w.bs),(27,L64 w.bs)] R ⟨⟨_,R,.here _ R⟩,⟨_,R,.here _ R⟩,trivial⟩ (by exact ⟨.same _,.box _ _ _ _ ⟨.same _,.same _,.same _,.same _,.here _ R,.same _,trivial⟩,.same _,.same _,.same _,.same _,.same _,.same _,trivial⟩)) [.same,.same] R fn66 R (K61 _ _) (fun _=>R) (fun _=>R) fun r3 hm=>Bd hm fun r4 h5 hm=>Au (A5 [2,3,0,4,1,5,6,7,8] R)<|Ab R R<|Aq 9 R fn68 R (K158 A0 A1 w c r3 b ob cap ob2 cap2 ob3 cap3 ob4 cap4 b2 b3 ob5 cap5 ob6 cap6 r4 h5) fun _ _ h11=> ?_
 obtain ⟨ob7,cap7,ob8,cap8,ob9,cap9,ob10,cap10,b4,rfl,rfl⟩:=h11
 refine Ab R R<|Aw z29 fun b5=>Ab R R<|Aj (i:=0) R R R ld29 R R R<|Ac<|Ah<|Br (A5 [1,5,0,2,3,4,6,7,8,9] R)<|Bo 2 mixed<|Bh tbk [0,1,2,3,5] [0] (by kernel_rfl) R R R<|A9 6 R R R (by kernel_rfl) (Bl pl64 R R)<|?_
 refine B1 [4,7] (by kernel_rfl) ⟨?_,?_,trivial⟩
 ·refine An R R R<|B3 (B0 (i:=0) R R ld40 R)<|Al 7 (by kernel_rfl)<|An R R R<|Ax ap40 R R R R R fun b6=>Al 8 (by kernel_rfl)<|Bd hm fun l h8 hm=>An R R R<|Bp 2 T_api_Bound.vv (l:=r4.2.bs) (l2:=[(⟨r4.1,(⟨#[]⟩ : ByteArray)⟩ : T_api_Bound)]) ap40 R R (sT_row 0 T_api_Bound.vv el40 R R) h8 fun ob11 cap11=>Bh tbk [9,10] [] (by kernel_rfl) R R R<|Al 11 (by kernel_rfl)<|An R R R<|Aj (i:=1) R R R ld40 R R R<|A6 (by kernel_rfl)<|Ag tbk [] R R<|?_
  obtain rfl:=Option.some.inj hm
  exact Bu ⟨.inl R,_,.cons (.tmp _ _ R) .nil,[1,4,5,6,2,7,8,9,10],_,R,ob7,cap7,ob8,cap8,ob9,cap9,ob11,cap11,b4,R,R⟩
 ·refine An R R R<|Ax ap40 R R R R R fun b7=>Al 4 (by kernel_rfl)<|An R R R<|B3 (B0 (i:=1) R R ld40 R)<|Al 8 (by kernel_rfl)<|Bd hm fun l2 h10 hm=>An R R R<|Bp 2 T_api_Bound.vv (l:=r4.2.bs) (l2:=[(⟨r4.1,(⟨#[]⟩ : ByteArray)⟩ : T_api_Bound)]) ap40 R R (sT_row 0 T_api_Bound.vv el40 R R) h10 fun ob12 cap12=>Bh tbk [9,10] [] (by kernel_rfl) R R R<|Al 11 (by kernel_rfl)<|An R R R<|Aj (i:=1) R R R ld40 R R R<|A6 (by kernel_rfl)<|Ag tbk [] R R<|?_
  obtain rfl:=Option.some.inj hm
  exact Bu ⟨.inl R,_,.cons (.tmp _ _ R) .nil,[1,4,5,6,2,7,8,9,10],_,R,ob7,cap7,ob8,cap8,ob9,cap9,ob12,cap12,b4,R,R⟩

/-! trireme/taints.Drop$1 -/
def taints_Drop_1 (x : T_api_Taint) (a : ByteArray) (a2 : Int) : Option Bool :=
 (if (!(V.seq x.Key a)) = true then some true else (taints_of x a2).bind fun r =>
 some (!r)).bind fun c =>
 some c
theorem K160 (x : T_api_Taint) (a : ByteArray) (a2 : Int) (b : Nat) (b2 : Nat) : VS Tryz.prog 144 (taints_Drop_1 x a a2) [T_api_Taint.vv x, .ptr b 0, .ptr b2 0] [.box b 9 [.str a], .box b2 3 [Iw a2]] .bool (fun r=>[.box b 9 [.str a], .box b2 3 [Iw a2]]) := by
 refine A7 [.tmp 4] Tryz.func144 R R R fun r hm=>?_
 unfold taints_Drop_1 at hm
 exact Ae<|Ab R R<|Bi R R fun b3=>Aa R R (Ai R)<|Ac<|Ae<|Ad tbk [0,1] 5 R R<|Bt hm 5 14 9 R (fun _ K' h2 J hm=>Ad tbk [] 5 R R<|J 4 R R (Bj hm)) (fun _ K' h2 J hm=>Ad tbk [0,2] 2 R R<|A8 R R R R R<|Ay hm 0 R fn145 R (K84 _ _) fun r hm=>Ad tbk [] 2 R R<|J 4 R R (Bj hm)) fun c hm=>Aa R R (Ai R)<|Ac<|Rt1 hm R [1,2] R R R

/-! trireme/taints.some -/
def taints_some_taints_Drop_1.l1 (c : ByteArray) (c2 : Int) : List T_api_Taint → Nat → (List T_api_Taint) → Option (List T_api_Taint)
 | [], k, out2 => some out2
 | x :: l2, k, out2 =>
  (taints_Drop_1 x c c2).bind fun r =>
  if r = true then
   (V.ap 40 out2 [x]).bind fun out4 =>
   taints_some_taints_Drop_1.l1 c c2 l2 (k + 1) out4
  else
   taints_some_taints_Drop_1.l1 c c2 l2 (k + 1) out2
def taints_some_taints_Drop_1 (l : List T_api_Taint) (c : ByteArray) (c2 : Int) : Option (List T_api_Taint) :=
 (taints_some_taints_Drop_1.l1 c c2 l 0 ([] : List T_api_Taint)).bind fun out32 =>
 some out32
theorem K161 (l : List T_api_Taint) (c : ByteArray) (c2 : Int) (b : Nat) (b2 : Nat) : VS2 Tryz.prog 139 (taints_some_taints_Drop_1 l c c2) [L31 l, .clo (.func 144) [] [.ptr b 0, .ptr b2 0]] [.box b 9 [.str c], .box b2 3 [Iw c2]] (fun r ob0 cap0=>Z31 ob0 r cap0) (fun r ob0 cap0=>[Q31 ob0 cap0 r, .box b 9 [.str c], .box b2 3 [Iw c2]]) := by
 refine Ch [.tmp 4] D7 R R R fun r hm=>?_
 unfold taints_some_taints_Drop_1 at hm
 refine Ag tbk [] R R<|Ag tbk [] R R<|Ah<|Ae<|Aa R R (Af R)<|Aa R R (Be T_api_Taint.vv R Cs)<|Aa R R (Af R)<|Ac<|B2 8 R fun h5=>Ca hm (fun out32 (gg:Option Nat × Nat)=>[(5,Z31 gg.1 out32 gg.2)]) (fun out32 (gg:Option Nat × Nat)=>[Q31 gg.1 gg.2 out32,.box b 9 [.str c],.box b2 3 [Iw c2]]) (fun o hm=>?_) fun out32=>Pq fun ob3 cap3 hm=> ?_
 ·refine Cc (l) (fun zl zk (zs:List T_api_Taint)=>taints_some_taints_Drop_1.l1 c c2 zl zk zs) (fun k zs (zg:Option Nat × Nat)=>[(1,.clo (.func 144) [] [.ptr b 0,.ptr b2 0]),(5,Z31 zg.1 zs zg.2),(8,L31 l),(9,Iw (l.length : Int)),(10,Iw (k : Int))]) (fun _ zs (zg:Option Nat × Nat)=>[Q31 zg.1 zg.2 zs,.box b 9 [.str c],.box b2 3 [Iw c2]]) _ (none,0) hm (Bg (Az 31) (Ak [0,1,2] R R)) (fun k out2=>Pq fun ob2 cap2 hk hm=>?_) fun k x l2 out2=>Pq fun ob2 cap2 h6 hm=> ?_
  ·rw [taints_some_taints_Drop_1.l1] at hm
   exact Ag tbk [] R R<|Ah<|Bq R (k_end hk)<|Bb<|As (ob2,cap2) hm (Ak [0,1,2] R R)
  rw [taints_some_taints_Drop_1.l1] at hm
  exact Ag tbk [] R R<|Ah<|Bk R (k_lt h6)<|Am<|Ah<|A4<|Ae<|Aa R R (B4 T_api_Taint.vv R R el66 h6)<|Aa R R (Bx R ld31 R)<|Ab R R<|Aw z31 fun b3=>Ab R R<|Aj (i:=0) R R R ld31 R R R<|Ac<|Ae<|Ad tbk [0] 2 R R<|Au (A5 [2,3,0,1] R)<|Ab R R<|Ay hm 2 R fn144 R (K160 _ _ _ _ _) fun r hm=>Ac<|Ao hm R (fun h9 hm=>Bw<|Ad tbk [2] 2 R R<|Ab R R<|Ax ap66 R R R R R fun b4=>Bd hm fun out4 h11 hm=>Ab R R<|Bp 4 T_api_Taint.vv (l:=out2) (l2:=[x]) ap66 R R (sT_row 0 T_api_Taint.vv el66 R R) h11 fun ob4 cap4=>Aa R R (Ai R)<|Ac<|Bc tbk [] R R<|Ap _ (ob4,cap4) hm (Bf [4,1,2] R ⟨R,R,R,R,congrArg some (k_next h6 h5),trivial⟩)) fun h9 hm=>Am<|Bc tbk [] R R<|Ap _ (ob2,cap2) hm (Bf [3,0,1] R ⟨R,R,R,R,congrArg some (k_next h6 h5),trivial⟩)
 exact Ag tbk [] R R<|Rg2 hm R [0,1,2] ob3 cap3 (.cons (.tmp _ _ R) .nil) R R

/-! trireme/taints.Drop -/
def taints_Drop (l : List T_api_Taint) (key : ByteArray) (effect : Int) : Option (List T_api_Taint) :=
 (taints_some_taints_Drop_1 l key effect).bind fun r =>
 some r
theorem K162 (l : List T_api_Taint) (key : ByteArray) (effect : Int) : VS Tryz.prog 77 (taints_Drop l key effect) [L31 l, .str key, Iw effect] [] (fun r=>L31 r) N0 := by
 refine A7 [.tmp 6] Tryz.func77 R R R fun r hm=>?_
 unfold taints_Drop at hm
 exact Ae<|Ab R R<|Bi R R fun b=>Ab R R<|Bi R R fun b2=>Aa R R (Ai R)<|Ac<|Ae<|Aa R R (Af R)<|Aa R R (Cj R R)<|Au (A5 [1,0] R)<|Ab R R<|B6 hm 2 R fn139 R (K161 _ _ _ _ _) fun r ob cap hm=>Au (Av 0 [(9,L31 r)] R ⟨⟨_,R,.here _ R⟩,trivial⟩ (FzH.refl _))<|Aa R R (Ai R)<|Ac<|Rt1 hm R [] R R R

/-! (*trireme/world.World).Untaint$1 -/
def world_World_Untaint_1 (m : T_api_Machine) (a : ByteArray) : Option (Int × T_api_Machine) :=
 (taints_Drop m.Taints a (0 : Int)).bind fun r =>
 some (0, (⟨m.Name, m.Group, m.Has, m.Labels, r, m.Ready⟩ : T_api_Machine))
theorem K163 (m : T_api_Machine) (a : ByteArray) (b : Nat) (b2 : Nat) : VS Tryz.prog 76 (world_World_Untaint_1 m a) [.ptr b 0, .ptr b2 0] [X68 b m, .box b2 9 [.str a]] (fun r=>Iw r.1) (fun r=>[X68 b r.2, .box b2 9 [.str a]]) := by
 refine A7 [.tmp 3] Tryz.func76 R R R fun r hm=>?_
 unfold world_World_Untaint_1 at hm
 exact Ag tbk [] R R<|Ah<|Bo 1 mixed<|Bh tbk [0,1,2,3,5] [0] (by kernel_rfl) R R R<|Al 4 (by kernel_rfl)<|An R R R<|B3 (B0 (i:=0) R R ld66 R)<|Al 6 (by kernel_rfl)<|An R R R<|Ay hm 0 R fn77 R (K162 _ _ _) fun r hm=>Bh tbk [7,8] [] (by kernel_rfl) R R R<|Al 9 (by kernel_rfl)<|An R R R<|Aj (i:=0) R R R ld66 R R R<|A6 (by kernel_rfl)<|Ag tbk [] R R<|Rt1 hm R [0,1] R R R

/-! (*trireme/world.World).on -/
def world_World_on_world_World_Untaint_1 (w : T_world_World) (c : T_cloud_Cloud) (name : ByteArray) (c2 : ByteArray) : Option (Int × T_world_World) :=
 (world_World_there_x w c).bind fun r =>
 (yard_Find w.ms name).bind fun r2 =>
 if (decide (r2 < 0)) = true then
  some (16, w)
 else
  (V.gl w.ms r2).bind fun x =>
  (world_World_Untaint_1 x c2).bind fun r3 =>
  if (r3.1 == 0) = true then
   (V.gl w.ms r2).bind fun x2 =>
   some (r3.1, (⟨(), w.groups, w.budgets, (List.set w.ms (r2).toNat r3.2), w.bs, w.held⟩ : T_world_World))
  else
   some (r3.1, w)
theorem K164 (A0 A1 : Nat) (w : T_world_World) (c : T_cloud_Cloud) (name : ByteArray) (c2 : ByteArray) (b : Nat) (ob : Option Nat) (cap : Nat) (ob2 : Option Nat) (cap2 : Nat) (ob3 : Option Nat) (cap3 : Nat) (ob4 : Option Nat) (cap4 : Nat) (b2 : Nat) (b3 : Nat) (ob5 : Option Nat) (cap5 : Nat) (ob6 : Option Nat) (cap6 : Nat) (b4 : Nat) : ∀ r : Int × T_world_World, world_World_on_world_World_Untaint_1 w c name c2 = some r → VC Tryz.prog 69 [.ptr b 0, .str name, .clo (.func 76) [] [.ptr b4 0]] [.box b 43 [.ptr b3 0, Z139 ob w.groups cap, Z103 ob2 w.budgets cap2, Z68 ob3 w.ms cap3, Z64 ob4 w.bs cap4, .map b2], Q139 ob cap w.groups, Q103 ob2 cap2 w.budgets, Q68 ob3 cap3 w.ms, Q64 ob4 cap4 w.bs, .map b2 (List.map (pf VV.str (VV.int .i64)) w.held), .box b3 149 [Z140 A0 A1 ob5 c.pools cap5, Z152 A0 A1 ob6 c.insts cap6, Iw c.delay, Iw c.now, Iw c.calls], Q140 A0 A1 ob5 cap5 c.pools, Q152 A0 A1 ob6 cap6 c.insts, .box b4 9 [.str c2]] fun zx zH => ∃ (ob0_1 : Option Nat) (cap0_1 : Nat) (ob0_2 : Option Nat) (cap0_2 : Nat) (ob0_3 : Option Nat) (cap0_3 : Nat) (ob0_4 : Option Nat) (cap0_4 : Nat) (b0_5 : Nat), zx = Iw r.1 ∧ zH = [.box b 43 [.ptr b3 0, Z139 ob0_1 r.2.groups cap0_1, Z103 ob0_2 r.2.budgets cap0_2, Z68 ob0_3 r.2.ms cap0_3, Z64 ob0_4 r.2.bs cap0_4, .map b0_5], Q139 ob0_1 cap0_1 r.2.groups, Q103 ob0_2 cap0_2 r.2.budgets, Q68 ob0_3 cap0_3 r.2.ms, Q64 ob0_4 cap0_4 r.2.bs, .map b0_5 (List.map (pf VV.str (VV.int .i64)) r.2.held), .box b3 149 [Z140 A0 A1 ob5 c.pools cap5, Z152 A0 A1 ob6 c.insts cap6, Iw c.delay, Iw c.now, Iw c.calls], Q140 A0 A1 ob5 cap5 c.pools, Q152 A0 A1 ob6 cap6 c.insts, .box b4 9 [.str c2]] := by
 refine Ck [.tmp 6] Dk R R R fun r hm=>?_
 unfold world_World_on_world_World_Untaint_1 at hm
 refine Ag tbk [] R R<|Ah<|Ae<|Aa R R (Af R)<|Bd hm fun r h1 hm=>Ab R R<|Aq 9 R fn60 R (K51 A0 A1 w c b ob cap ob2 cap2 ob3 cap3 ob4 cap4 b2 b3 ob5 cap5 ob6 cap6 r h1) fun _ _ h10=> ?_
 obtain ⟨rfl,rfl⟩:=h10
 refine Aa R R (Cg R)<|Ac<|Bq R (congrArg not (Option.some.inj (show some true = some r from h1)).symm)<|Am<|Ae<|Ad tbk [0] 5 R R<|Ab R R<|Dp hm (Av (H':=[.box b 43 [.ptr b3 0,Z139 ob w.groups cap,Z103 ob2 w.budgets cap2,L68 w.ms,Z64 ob4 w.bs cap4,.map b2],Q139 ob cap w.groups,Q103 ob2 cap2 w.budgets,Q64 ob4 cap4 w.bs,.map b2 (List.map (pf VV.str (VV.int .i64)) w.held),.box b3 149 [Z140 A0 A1 ob5 c.pools cap5,Z152 A0 A1 ob6 c.insts cap6,Iw c.delay,Iw c.now,Iw c.calls],Q140 A0 A1 ob5 cap5 c.pools,Q152 A0 A1 ob6 cap6 c.insts,.box b4 9 [.str c2]]) 3 [(16,L68 w.ms)] R ⟨⟨_,R,.here _ R⟩,trivial⟩ (by exact ⟨.box _ _ _ _ ⟨.same _,.same _,.same _,.here _ R,.same _,.same _,trivial⟩,.same _,.same _,.same _,.same _,.same _,.same _,.same _,.same _,trivial⟩)) [.same,.same] R fn72 R (K44 _ _) (fun _=>R) (fun _=>R) fun r2 hm=>Aa R R (Ai R)<|Ac<|Ah<|Ag tbk [] R R<|Ao hm R (fun h3 hm=>?_) fun h3 hm=> ?_
 ·refine Ag tbk [] R R<|?_
  obtain rfl:=Option.some.inj hm
  exact Bu ⟨.inl R,_,.cons (.tmp _ _ R) .nil,[0,1,2,3,4,5,6,7,8,9],_,R,ob,cap,ob2,cap2,ob3,cap3,ob4,cap4,b2,R,R⟩
 refine Am<|Ae<|Ad tbk [0] 5 R R<|Bd hm fun x h4 hm=>Cd 3 R (gl_pos T_api_Machine.vv h4) fun b5 h5=> ?_
 subst h5
 refine Aa R R (Ci T_api_Machine.vv R R el39 h4)<|Aa R R (B8 (i:=3) (y:=T_api_Machine.vv x) R R R (gl_map _ (gl_some h4).2) ld68 R)<|Ab R R<|Aw z68 fun b6=>Ab R R<|Aj (i:=0) R R R ld68 R R R<|Ac<|Ae<|Aa R R (Af R)<|Au (A5 [0,10,1,2,3,4,5,6,7,8,9] R)<|Ab R R<|Ay hm 2 R fn76 R (K163 _ _ _ _) fun r3 hm=>Aa R R (Ai R)<|Ac<|Ah<|Ag tbk [] R R<|Ao hm R (fun h8 hm=>?_) fun h8 hm=> ?_
 ·refine Br (A5 [2,5,0,1,3,4,6,7,8,9,10] R)<|Bo 2 mixed<|Bh tbk [0,1,2,4,5] [0] (by kernel_rfl) R R R<|Al 3 (by kernel_rfl)<|An R R R<|B3 (B0 (i:=0) R R ld39 R)<|Bd hm fun x2 h9 hm=>A9 6 R R R (by kernel_rfl) (Ci T_api_Machine.vv R R el39 h9)<|Al 7 (by kernel_rfl)<|An R R R<|D4 1 (f:=T_api_Machine.vv) (l:=w.ms) (q:=x2) (q':=r3.2) R R R R h9 ld68 R R R R ⟨R,List.all_eq_true.1 R⟩<|C0 (Shift.cst (F:=fun zv=>[.box b 43 [.ptr b3 0,Z139 ob w.groups cap,Z103 ob2 w.budgets cap2,zv,Z64 ob4 w.bs cap4,.map b2],Q68 (some b5) cap3 (List.set w.ms (r2).toNat r3.2)]) (congrArg (fun zn=>VV.sl (some b5) zn cap3) (len_set T_api_Machine.vv w.ms (r2).toNat r3.2)))<|C0 (Cw 16 (List.map T_api_Machine.vv (List.set w.ms (r2).toNat r3.2)).length R (len_set _ _ _ _))<|C0 (Cw 24 (List.map T_api_Machine.vv (List.set w.ms (r2).toNat r3.2)).length R (len_set _ _ _ _))<|C0 (Cw 35 (List.map T_api_Machine.vv (List.set w.ms (r2).toNat r3.2)).length R (len_set _ _ _ _))<|A6 (by kernel_rfl)<|Ag tbk [] R R<|?_
  obtain rfl:=Option.some.inj hm
  exact Bu ⟨.inl R,_,.cons (.tmp _ _ R) .nil,[0,4,5,1,6,7,8,9,10,3],_,R,ob,cap,ob2,cap2,(some b5),cap3,ob4,cap4,b2,R,R⟩
 refine Am<|Ag tbk [] R R<|?_
 obtain rfl:=Option.some.inj hm
 exact Bu ⟨.inl R,_,.cons (.tmp _ _ R) .nil,[2,3,4,5,6,7,8,9,10,1],_,R,ob,cap,ob2,cap2,(some b5),cap3,ob4,cap4,b2,R,R⟩

/-! (*trireme/world.World).Untaint -/
def world_World_Untaint (w : T_world_World) (c : T_cloud_Cloud) (name : ByteArray) (key : ByteArray) : Option (Int × T_world_World) :=
 (world_World_on_world_World_Untaint_1 w c name key).bind fun r =>
 some (r.1, r.2)
theorem K165 (A0 A1 : Nat) (w : T_world_World) (c : T_cloud_Cloud) (name : ByteArray) (key : ByteArray) (b : Nat) (ob : Option Nat) (cap : Nat) (ob2 : Option Nat) (cap2 : Nat) (ob3 : Option Nat) (cap3 : Nat) (ob4 : Option Nat) (cap4 : Nat) (b2 : Nat) (b3 : Nat) (ob5 : Option Nat) (cap5 : Nat) (ob6 : Option Nat) (cap6 : Nat) : ∀ r : Int × T_world_World, world_World_Untaint w c name key = some r → VC Tryz.prog 17 [.ptr b 0, .str name, .str key] [.box b 43 [.ptr b3 0, Z139 ob w.groups cap, Z103 ob2 w.budgets cap2, Z68 ob3 w.ms cap3, Z64 ob4 w.bs cap4, .map b2], Q139 ob cap w.groups, Q103 ob2 cap2 w.budgets, Q68 ob3 cap3 w.ms, Q64 ob4 cap4 w.bs, .map b2 (List.map (pf VV.str (VV.int .i64)) w.held), .box b3 149 [Z140 A0 A1 ob5 c.pools cap5, Z152 A0 A1 ob6 c.insts cap6, Iw c.delay, Iw c.now, Iw c.calls], Q140 A0 A1 ob5 cap5 c.pools, Q152 A0 A1 ob6 cap6 c.insts] fun zx zH => ∃ (ob0_1 : Option Nat) (cap0_1 : Nat) (ob0_2 : Option Nat) (cap0_2 : Nat) (ob0_3 : Option Nat) (cap0_3 : Nat) (ob0_4 : Option Nat) (cap0_4 : Nat) (b0_5 : Nat), zx = Iw r.1 ∧ zH = [.box b 43 [.ptr b3 0, Z139 ob0_1 r.2.groups cap0_1, Z103 ob0_2 r.2.budgets cap0_2, Z68 ob0_3 r.2.ms cap0_3, Z64 ob0_4 r.2.bs cap0_4, .map b0_5], Q139 ob0_1 cap0_1 r.2.groups, Q103 ob0_2 cap0_2 r.2.budgets, Q68 ob0_3 cap0_3 r.2.ms, Q64 ob0_4 cap0_4 r.2.bs, .map b0_5 (List.map (pf VV.str (VV.int .i64)) r.2.held), .box b3 149 [Z140 A0 A1 ob5 c.pools cap5, Z152 A0 A1 ob6 c.insts cap6, Iw c.delay, Iw c.now, Iw c.calls], Q140 A0 A1 ob5 cap5 c.pools, Q152 A0 A1 ob6 cap6 c.insts] := by
 refine Ck [.tmp 6] Tryz.func17 R R R fun r hm=>?_
 unfold world_World_Untaint at hm
 refine Ae<|Ab R R<|Bi R R fun b4=>Aa R R (Ai R)<|Ac<|Ae<|Ad tbk [] 2 R R<|Aa R R (Cj R R)<|Bd hm fun r h2 hm=>Au (A5 [1,2,3,4,5,6,7,8,9,0] R)<|Ab R R<|Aq 10 R fn69 R (K164 A0 A1 w c name key b ob cap ob2 cap2 ob3 cap3 ob4 cap4 b2 b3 ob5 cap5 ob6 cap6 b4 r h2) fun _ _ h3=> ?_
 obtain ⟨ob7,cap7,ob8,cap8,ob9,cap9,ob10,cap10,b5,rfl,rfl⟩:=h3
 refine Aa R R (Ai R)<|Ac<|?_
 obtain rfl:=Option.some.inj hm
 exact Bu ⟨.inl R,_,.cons (.tmp _ _ R) .nil,[0,1,2,3,4,5,6,7,8],_,R,ob7,cap7,ob8,cap8,ob9,cap9,ob10,cap10,b5,R,R⟩

/-! (*trireme/drain.Table).leave -/
def drain_Table_leave_drain_Table_Step_1 (t : T_drain_Table) (w : T_world_World) (c : T_cloud_Cloud) (what : ByteArray) (x : T_drain_one) (c2 : List ByteArray) : Option (Bool × T_world_World × List ByteArray) :=
 (world_World_Untaint w c x.name (⟨#[100, 114, 97, 105, 110, 105, 110, 103]⟩ : ByteArray)).bind fun r =>
 (drain_Table_Step_1 what x.name c2).bind fun r2 =>
 some (false, r.2, r2)
theorem K166 (A0 A1 : Nat) (t : T_drain_Table) (w : T_world_World) (c : T_cloud_Cloud) (what : ByteArray) (x : T_drain_one) (c2 : List ByteArray) (b : Nat) (ob : Option Nat) (cap : Nat) (b2 : Nat) (ob2 : Option Nat) (cap2 : Nat) (ob3 : Option Nat) (cap3 : Nat) (ob4 : Option Nat) (cap4 : Nat) (ob5 : Option Nat) (cap5 : Nat) (b3 : Nat) (b4 : Nat) (ob6 : Option Nat) (cap6 : Nat) (ob7 : Option Nat) (cap7 : Nat) (b5 : Nat) (b6 : Nat) (ob8 : Option Nat) (cap8 : Nat) : ∀ r : Bool × T_world_World × List ByteArray, drain_Table_leave_drain_Table_Step_1 t w c what x c2 = some r → VC Tryz.prog 176 [.ptr b 0, .ptr b2 0, .str what, .ptr b5 0, .clo (.func 117) [] [.ptr b6 0]] [.box b 108 [Z172 ob t.l cap, Iw t.grace, .bool t.made], Q172 ob cap t.l, .box b2 43 [.ptr b4 0, Z139 ob2 w.groups cap2, Z103 ob3 w.budgets cap3, Z68 ob4 w.ms cap4, Z64 ob5 w.bs cap5, .map b3], Q139 ob2 cap2 w.groups, Q103 ob3 cap3 w.budgets, Q68 ob4 cap4 w.ms, Q64 ob5 cap5 w.bs, .map b3 (List.map (pf VV.str (VV.int .i64)) w.held), .box b4 149 [Z140 A0 A1 ob6 c.pools cap6, Z152 A0 A1 ob7 c.insts cap7, Iw c.delay, Iw c.now, Iw c.calls], Q140 A0 A1 ob6 cap6 c.pools, Q152 A0 A1 ob7 cap7 c.insts, X172 b5 x, .box b6 61 [Z9 ob8 c2 cap8], Q9 ob8 cap8 c2] fun zx zH => ∃ (ob1_1 : Option Nat) (cap1_1 : Nat) (ob1_2 : Option Nat) (cap1_2 : Nat) (ob1_3 : Option Nat) (cap1_3 : Nat) (ob1_4 : Option Nat) (cap1_4 : Nat) (b1_5 : Nat) (ob4_0 : Option Nat) (cap4_0 : Nat), zx = .bool r.1 ∧ zH = [.box b 108 [Z172 ob t.l cap, Iw t.grace, .bool t.made], Q172 ob cap t.l, .box b2 43 [.ptr b4 0, Z139 ob1_1 r.2.1.groups cap1_1, Z103 ob1_2 r.2.1.budgets cap1_2, Z68 ob1_3 r.2.1.ms cap1_3, Z64 ob1_4 r.2.1.bs cap1_4, .map b1_5], Q139 ob1_1 cap1_1 r.2.1.groups, Q103 ob1_2 cap1_2 r.2.1.budgets, Q68 ob1_3 cap1_3 r.2.1.ms, Q64 ob1_4 cap1_4 r.2.1.bs, .map b1_5 (List.map (pf VV.str (VV.int .i64)) r.2.1.held), .box b4 149 [Z140 A0 A1 ob6 c.pools cap6, Z152 A0 A1 ob7 c.insts cap7, Iw c.delay, Iw c.now, Iw c.calls], Q140 A0 A1 ob6 cap6 c.pools, Q152 A0 A1 ob7 cap7 c.insts, X172 b5 x, .box b6 61 [Z9 ob4_0 r.2.2 cap4_0], Q9 ob4_0 cap4_0 r.2.2] := by
 refine Ck [.tmp 10] Tryz.func176 R R R fun r hm=>?_
 unfold drain_Table_leave_drain_Table_Step_1 at hm
 refine Ag tbk [] R R<|Ae<|Ad tbk [11] 5 R R<|Bd hm fun r h1 hm=>Au (A5 [2,3,4,5,6,7,8,9,10,0,1,11,12,13] R)<|Ab R R<|Aq 9 R fn17 R (K165 A0 A1 w c x.name (⟨#[100,114,97,105,110,105,110,103]⟩ : ByteArray) b2 ob2 cap2 ob3 cap3 ob4 cap4 ob5 cap5 b3 b4 ob6 cap6 ob7 cap7 r h1) fun _ _ h3=> ?_
 obtain ⟨ob9,cap9,ob10,cap10,ob11,cap11,ob12,cap12,b7,rfl,rfl⟩:=h3
 refine Ac<|Ae<|Ad tbk [11] 6 R R<|Au (A5 [12,13,0,1,2,3,4,5,6,7,8,9,10,11] R)<|Ab R R<|B6 hm 2 R fn117 R (K153 _ _ _ _ _ _) fun r2 ob13 cap13 hm=>Ac<|Ag tbk [] R R<|?_
 obtain rfl:=Option.some.inj hm
 exact Bu ⟨.inl R,_,.cons (.tmp _ _ R) .nil,[11,12,2,3,4,5,6,7,8,9,10,13,0,1],_,R,ob9,cap9,ob10,cap10,ob11,cap11,ob12,cap12,b7,ob13,cap13,R,R⟩

/-! (*trireme/cloud.Cloud).inst -/
def cloud_Cloud_inst.l1 (c : T_cloud_Cloud) (name : ByteArray) (insts : List T_cloud_inst) : Nat → Int → Option (Out Nat Unit)
 | 0, _ => none
 | n + 1, v2 =>
  if (decide (v2 < (c.insts.length : Int))) = true then
   (V.gl c.insts v2).bind fun x =>
   (V.pg insts x).bind fun x2 =>
   if (V.seq x2.name name) = true then
    some (Out.ret x)
   else
    cloud_Cloud_inst.l1 c name insts n (i64.wrap (v2 + 1))
  else
   some (Out.go ())
def cloud_Cloud_inst (c : T_cloud_Cloud) (name : ByteArray) (insts : List T_cloud_inst) : Option Nat :=
 (cloud_Cloud_inst.l1 c name insts FU (0 : Int)).bind fun o =>
 o.on fun j =>
 some 0
theorem K167 (A0 A1 : Nat) (c : T_cloud_Cloud) (name : ByteArray) (insts : List T_cloud_inst) (b : Nat) (ob : Option Nat) (cap : Nat) (ob2 : Option Nat) (cap2 : Nat) (bs : List Nat) : VS Tryz.prog 84 (cloud_Cloud_inst c name insts) [.ptr b 0, .str name] [.box b 149 [Z140 A0 A1 ob c.pools cap, Z152 A0 A1 ob2 c.insts cap2, Iw c.delay, Iw c.now, Iw c.calls], Q140 A0 A1 ob cap c.pools, Q152 A0 A1 ob2 cap2 c.insts, .ar A1 157 bs (List.map (T_cloud_inst.cells A0 A1) insts)] (fun r=>V.Pp A1 r) (fun r=>[.box b 149 [Z140 A0 A1 ob c.pools cap, Z152 A0 A1 ob2 c.insts cap2, Iw c.delay, Iw c.now, Iw c.calls], Q140 A0 A1 ob cap c.pools, Q152 A0 A1 ob2 cap2 c.insts, .ar A1 157 bs (List.map (T_cloud_inst.cells A0 A1) insts)]) := by
 refine A7 [.tmp 4] Tryz.func84 R R R fun r hm=>?_
 unfold cloud_Cloud_inst at hm
 refine Ae<|Aa R R (Dd A1)<|Ac<|Ah<|Ae<|Ad tbk [0] 4 R R<|Aa R R (Cq (V.Pp A1) R Dl)<|Aa R R (Af R)<|Ac<|Cf hm (fun _ (_:Unit)=>[]) (fun _ (_:Unit)=>[.box b 149 [Z140 A0 A1 ob c.pools cap,Z152 A0 A1 ob2 c.insts cap2,Iw c.delay,Iw c.now,Iw c.calls],Q140 A0 A1 ob cap c.pools,Q152 A0 A1 ob2 cap2 c.insts,.ar A1 157 bs (List.map (T_cloud_inst.cells A0 A1) insts)]) (fun o hm h2=>?_) fun j _ hm=> ?_
 ·refine Cm (fun zn (zs:Int)=>cloud_Cloud_inst.l1 c name insts zn zs) (fun zs (_:Unit)=>[(1,.str name),(10,Z152 A0 A1 ob2 c.insts cap2),(11,Iw (c.insts.length : Int)),(12,Iw zs)]) (fun _ (_:Unit)=>[.box b 149 [Z140 A0 A1 ob c.pools cap,Z152 A0 A1 ob2 c.insts cap2,Iw c.delay,Iw c.now,Iw c.calls],Q140 A0 A1 ob cap c.pools,Q152 A0 A1 ob2 cap2 c.insts,.ar A1 157 bs (List.map (T_cloud_inst.cells A0 A1) insts)]) _ () (fun _=>R) hm (Ak [0,1,2,3] R R) fun n v2 _ hm=> ?_
  rw [cloud_Cloud_inst.l1] at hm
  refine Ag tbk [] R R<|Ah<|Ao hm R (fun h3 hm=>?_) fun h3 hm=> ?_
  ·refine Am<|Ah<|A4<|Ae<|Bd hm fun x h4 hm=>Cd 2 R (gl_pos (V.Pp A1) h4) fun b2 h5=> ?_
   subst h5
   exact Aa R R (Ci (V.Pp A1) R R el147 h4)<|Aa R R (B8 (i:=2) (y:=(V.Pp A1) x) R R R (gl_map _ (gl_some h4).2) ld152 R)<|Aa R R (Ai R)<|Ac<|Ae<|Aa R R (Af R)<|Bd hm fun x2 h6 hm=>Aa R R (Bv R h6)<|Aa R R (Bz R h6 fa157_0)<|Aa R R (B9 3 (f:=(T_cloud_inst.cells A0 A1)) (y:=x2) R R h6 ld9 R)<|Ad tbk [] 2 R R<|Ac<|Ao hm R (fun h7 hm=>Ag tbk [] R R<|have hm:=Lr hm h2;Rt1 hm R [0,1,2,3] R R R) fun h7 hm=>Am<|Bc tbk [] R R<|Ap _ () hm (Ak [0,1,2,3] R R)
  exact Bb<|Ar () hm (Ak [0,1,2,3] R R)
 exact Ae<|Aa R R (Dd A1)<|Ac<|Rt1 hm R [0,1,2,3] R R R

/-! (*trireme/cloud.Cloud).Delete -/
def cloud_Cloud_Delete (c : T_cloud_Cloud) (name : ByteArray) (pools : List T_cloud_pool) (insts : List T_cloud_inst) : Option (Int × T_cloud_Cloud × List T_cloud_pool × List T_cloud_inst) :=
 (cloud_Cloud_there c).bind fun r =>
 if (!r) = true then
  some (23, c, pools, insts)
 else
  (cloud_Cloud_inst c name insts).bind fun r2 =>
  if (r2 == 0) = true then
   some (16, c, pools, insts)
  else
   (V.pg insts r2).bind fun x =>
   ((V.pg insts r2).bind fun x2 =>
   if (I_cloud_state.is159 x2.in_) = true then
    some (Out.ret (22, c, pools, insts))
   else
    if (I_cloud_state.is160 x2.in_) = true then
     (V.pg pools x.of).bind fun x3 =>
     (V.pg pools x.of).bind fun x4 =>
     if (decide (x3.target ≤ x4.Group.Min)) = true then
      some (Out.ret (20, c, pools, insts))
     else
      some (Out.go ())
    else
     some (Out.go ())).bind fun o =>
   o.on fun j =>
   (V.pg insts r2).bind fun x5 =>
   (V.pg pools x.of).bind fun x6 =>
   (V.pg pools x.of).bind fun x7 =>
   (V.pg pools x.of).bind fun x8 =>
   some (0, (⟨c.pools, c.insts, c.delay, c.now, (i64.wrap (c.calls + 1))⟩ : T_cloud_Cloud), (V.pst pools x.of (⟨x8.Group, (max x6.Group.Min (i64.wrap (x7.target - 1))), x8.last, x8.broken⟩ : T_cloud_pool)), (V.pst insts r2 (⟨x5.name, x5.of, x5.since, (I_cloud_state.c159 (⟨⟩ : T_cloud_leaving))⟩ : T_cloud_inst)))
theorem K168 (A0 A1 : Nat) (c : T_cloud_Cloud) (name : ByteArray) (pools : List T_cloud_pool) (insts : List T_cloud_inst) (b : Nat) (ob : Option Nat) (cap : Nat) (ob2 : Option Nat) (cap2 : Nat) (bs : List Nat) (bs2 : List Nat) : ∀ r : Int × T_cloud_Cloud × List T_cloud_pool × List T_cloud_inst, cloud_Cloud_Delete c name pools insts = some r → VC Tryz.prog 25 [.ptr b 0, .str name] [.box b 149 [Z140 A0 A1 ob c.pools cap, Z152 A0 A1 ob2 c.insts cap2, Iw c.delay, Iw c.now, Iw c.calls], Q140 A0 A1 ob cap c.pools, Q152 A0 A1 ob2 cap2 c.insts, .ar A0 144 bs (List.map T_cloud_pool.cells pools), .ar A1 157 bs2 (List.map (T_cloud_inst.cells A0 A1) insts)] fun zx zH => ∃ (ob0_0 : Option Nat) (cap0_0 : Nat) (ob0_1 : Option Nat) (cap0_1 : Nat) (bs_1 : List Nat) (bs_2 : List Nat), zx = Iw r.1 ∧ zH = [.box b 149 [Z140 A0 A1 ob0_0 r.2.1.pools cap0_0, Z152 A0 A1 ob0_1 r.2.1.insts cap0_1, Iw r.2.1.delay, Iw r.2.1.now, Iw r.2.1.calls], Q140 A0 A1 ob0_0 cap0_0 r.2.1.pools, Q152 A0 A1 ob0_1 cap0_1 r.2.1.insts, .ar A0 144 bs_1 (List.map T_cloud_pool.cells r.2.2.1), .ar A1 157 bs_2 (List.map (T_cloud_inst.cells A0 A1) r.2.2.2)] := by
 refine Ck [.tmp 4] Tryz.func25 R R R fun r hm=>?_
 unfold cloud_Cloud_Delete at hm
 refine Ag tbk [] R R<|Ah<|Ae<|Aa R R (Af R)<|Ab R R<|Ay hm 3 R fn83 R (K32 A0 A1 _ _ _ _ _ _) fun r hm=>Aa R R (Cg R)<|Ac<|Ao hm R (fun h2 hm=>?_) fun h2 hm=> ?_
 ·refine Ag tbk [] R R<|?_
  obtain rfl:=Option.some.inj hm
  exact Bu ⟨.inl R,_,.cons (.tmp _ _ R) .nil,[0,1,2,3,4],_,R,ob,cap,ob2,cap2,bs,bs2,R,R⟩
 refine Am<|Ae<|Ad tbk [] 2 R R<|Au (A5 [0,1,2,4,3] R)<|Ab R R<|Ay hm 4 R fn84 R (K167 A0 A1 _ _ _ _ _ _ _ _ _) fun r2 hm=>Aa R R (Ai R)<|Ac<|Ah<|Ae<|Aa R R (Af R)<|Aa R R (Cr Tryz.underlying152 R R)<|Ac<|Ao hm R (fun h4 hm=>?_) fun h4 hm=> ?_
 ·refine Ag tbk [] R R<|?_
  obtain rfl:=Option.some.inj hm
  exact Bu ⟨.inl R,_,.cons (.tmp _ _ R) .nil,[0,1,2,4,3],_,R,ob,cap,ob2,cap2,bs,bs2,R,R⟩
 refine Am<|Ae<|Aa R R (Af R)<|Bd hm fun x h5 hm=>Aa R R (Bv R h5)<|Aa R R (Bz R h5 fa157_1)<|Aa R R (B9 3 (f:=(T_cloud_inst.cells A0 A1)) (y:=x) R R h5 ld140 R)<|Aa R R (Ai R)<|Ac<|VW.jo hm (fun _ (_:Unit)=>[(0,.ptr b 0),(5,V.Pp A1 r2),(6,V.Pp A0 x.of)]) (fun _ (_:Unit)=>[.box b 149 [Z140 A0 A1 ob c.pools cap,Z152 A0 A1 ob2 c.insts cap2,Iw c.delay,Iw c.now,Iw c.calls],Q140 A0 A1 ob cap c.pools,Q152 A0 A1 ob2 cap2 c.insts,.ar A1 157 bs2 (List.map (T_cloud_inst.cells A0 A1) insts),.ar A0 144 bs (List.map T_cloud_pool.cells pools)]) (fun o hm h7=>?_) fun j _ hm=> ?_
 ·refine Ae<|Aa R R (Af R)<|Bd hm fun x2 h8 hm=>Aa R R (Bv R h8)<|Aa R R (Bz R h8 fa157_3)<|Aa R R (B9 3 (f:=(T_cloud_inst.cells A0 A1)) (y:=x2) R R h8 ld155 R)<|Ac<|A4<|Ae<|Aa R R (VP.as (VP.tassert nif159 zg159 R) (I_cloud_state.ta159 x2.in_))<|Ad tbk [] 2 R R<|Ac<|Ao hm R (fun h9 hm=>?_) fun h9 hm=> ?_
  ·refine Ag tbk [] R R<|have hm:=Lr hm h7; ?_
   obtain rfl:=Option.some.inj hm
   exact Bu ⟨.inl R,_,.cons (.tmp _ _ R) .nil,[0,1,2,4,3],_,R,ob,cap,ob2,cap2,bs,bs2,R,R⟩
  refine Ae<|Aa R R (VP.as (VP.tassert nif160 zg160 R) (I_cloud_state.ta160 x2.in_))<|Ad tbk [] 2 R R<|Ac<|Ao hm R (fun h10 hm=>?_) fun h10 hm=> ?_
  ·refine Ah<|Bo 0 mixed<|A9 0 R R R (by kernel_rfl) (Af R)<|Bd hm fun x3 h11 hm=>A9 1 R R R (by kernel_rfl) (Bv R h11)<|A9 2 R R R (by kernel_rfl) (Bz R h11 fa144_1)<|A9 3 R R R (by kernel_rfl) (B9 4 (f:=T_cloud_pool.cells) (y:=x3) R R h11 ld3 R)<|A9 4 R R R (by kernel_rfl) (Af R)<|Bd hm fun x4 h12 hm=>A9 5 R R R (by kernel_rfl) (Bv R h12)<|A9 6 R R R (by kernel_rfl) (Bz R h12 fa144_0)<|A9 7 R R R (by kernel_rfl) (Bz R h12 fa139_1)<|A9 8 R R R (by kernel_rfl) (B9 4 (f:=T_cloud_pool.cells) (y:=x4) R R h12 ld3 R)<|A9 9 R R R (by kernel_rfl) (Ce R R R)<|A6 (by kernel_rfl)<|Ao hm R (fun h13 hm=>?_) fun h13 hm=> ?_
   ·refine Ag tbk [] R R<|have hm:=Lr hm h7; ?_
    obtain rfl:=Option.some.inj hm
    exact Bu ⟨.inl R,_,.cons (.tmp _ _ R) .nil,[0,1,2,4,3],_,R,ob,cap,ob2,cap2,bs,bs2,R,R⟩
   exact Am<|Ar () hm (Ak [0,1,2,3,4] R R)
  exact Am<|Ar () hm (Ak [0,1,2,3,4] R R)
 refine Ae<|Aa R R (Af R)<|Aa R R (Bl pl159 R R)<|Aa R R (Dt nif159 R)<|Bd hm fun x5 h14 hm=>Aa R R (Bv R h14)<|Aa R R (Bz R h14 fa157_3)<|Ab R R<|Di 3 (f:=(T_cloud_inst.cells A0 A1)) (u:=x5) (u':=(⟨x5.name,x5.of,x5.since,(I_cloud_state.c159 (⟨⟩ : T_cloud_leaving))⟩ : T_cloud_inst)) R R R h14 ld155 R R R R<|Ac<|Ah<|Br (A5 [4,0,1,2,3] R)<|Bo 1 mixed<|Bh tbk [0,1] [] (by kernel_rfl) R R R<|Bd hm fun x6 h15 hm=>A9 2 R R R (by kernel_rfl) (Bv R h15)<|A9 3 R R R (by kernel_rfl) (Bz R h15 fa144_0)<|A9 4 R R R (by kernel_rfl) (Bz R h15 fa139_1)<|A9 6 R R R (by kernel_rfl) (Af R)<|Bd hm fun x7 h16 hm=>A9 7 R R R (by kernel_rfl) (Bv R h16)<|A9 8 R R R (by kernel_rfl) (Bz R h16 fa144_1)<|?_
 refine B1 [5,9] (by kernel_rfl) ⟨?_,?_,trivial⟩
 ·refine An R R R<|B3 (B9 0 (f:=T_cloud_pool.cells) (y:=x6) R R h15 ld3 R)<|Al 9 (by kernel_rfl)<|An R R R<|B3 (B9 0 (f:=T_cloud_pool.cells) (y:=x7) R R h16 ld3 R)<|A9 10 R R R (by kernel_rfl) (Ce R R R)<|A9 11 R R R (by kernel_rfl) (VP.max2 R R)<|Bd hm fun x8 h17 hm=>A9 12 R R R (by kernel_rfl) (Bv R h17)<|A9 13 R R R (by kernel_rfl) (Bz R h17 fa144_1)<|Al 14 (by kernel_rfl)<|An R R R<|Di 0 (f:=T_cloud_pool.cells) (u:=x8) (u':=(⟨x8.Group,(max x6.Group.Min (IntKind.i64.wrap (x7.target - (1 : Int)))),x8.last,x8.broken⟩ : T_cloud_pool)) R R R h17 ld3 R R R R<|A6 (by kernel_rfl)<|Ae<|Ad tbk [1] 7 R R<|Ab R R<|Aj (i:=1) R R R ld3 R R R<|Ac<|Ag tbk [] R R<|?_
  obtain rfl:=Option.some.inj hm
  exact Bu ⟨.inl R,_,.cons (.tmp _ _ R) .nil,[1,2,3,0,4],_,R,ob,cap,ob2,cap2,bs,bs2,R,R⟩
 ·refine An R R R<|B3 (B9 0 (f:=T_cloud_pool.cells) (y:=x7) R R h16 ld3 R)<|A9 10 R R R (by kernel_rfl) (Ce R R R)<|Al 5 (by kernel_rfl)<|An R R R<|B3 (B9 0 (f:=T_cloud_pool.cells) (y:=x6) R R h15 ld3 R)<|A9 11 R R R (by kernel_rfl) (VP.max2 R R)<|Bd hm fun x9 h18 hm=>A9 12 R R R (by kernel_rfl) (Bv R h18)<|A9 13 R R R (by kernel_rfl) (Bz R h18 fa144_1)<|Al 14 (by kernel_rfl)<|An R R R<|Di 0 (f:=T_cloud_pool.cells) (u:=x9) (u':=(⟨x9.Group,(max x6.Group.Min (IntKind.i64.wrap (x7.target - (1 : Int)))),x9.last,x9.broken⟩ : T_cloud_pool)) R R R h18 ld3 R R R R<|A6 (by kernel_rfl)<|Ae<|Ad tbk [1] 7 R R<|Ab R R<|Aj (i:=1) R R R ld3 R R R<|Ac<|Ag tbk [] R R<|?_
  obtain rfl:=Option.some.inj hm
  exact Bu ⟨.inl R,_,.cons (.tmp _ _ R) .nil,[1,2,3,0,4],_,R,ob,cap,ob2,cap2,bs,bs2,R,R⟩

/-! (*trireme/drain.Table).goes -/
def drain_Table_goes_drain_Table_Step_1.l1 (t : T_drain_Table) (c : T_cloud_Cloud) (x : T_drain_one) (pools : List T_cloud_pool) (insts : List T_cloud_inst) : List T_api_Pod → Nat → T_world_World → (List ByteArray) → Option (Out (Bool × T_world_World × T_cloud_Cloud × T_drain_one × List ByteArray × List T_cloud_pool × List T_cloud_inst) (T_world_World × List ByteArray))
 | [], k, w3, tell2 => some (Out.go (w3, tell2))
 | x2 :: l, k, w3, tell2 =>
  (world_World_Evict w3 c x2.Name).bind fun r5 =>
  if (r5.1 != 0) = true then
   if (decide ((i64.wrap (x.steps + 1)) ≤ t.grace)) = true then
    some (Out.ret (true, r5.2, c, (⟨x.name, (i64.wrap (x.steps + 1)), x.back⟩ : T_drain_one), tell2, pools, insts))
   else
    (drain_Table_leave_drain_Table_Step_1 t r5.2 c (⟨#[115, 116, 111, 112]⟩ : ByteArray) (⟨x.name, (i64.wrap (x.steps + 1)), x.back⟩ : T_drain_one) tell2).bind fun r6 =>
    some (Out.ret (r6.1, r6.2.1, c, (⟨x.name, (i64.wrap (x.steps + 1)), x.back⟩ : T_drain_one), r6.2.2, pools, insts))
  else
   (drain_Table_Step_1 (⟨#[101, 118, 105, 99, 116]⟩ : ByteArray) x2.Name tell2).bind fun r7 =>
   drain_Table_goes_drain_Table_Step_1.l1 t c x pools insts l (k + 1) r5.2 r7
def drain_Table_goes_drain_Table_Step_1 (t : T_drain_Table) (w : T_world_World) (c : T_cloud_Cloud) (x : T_drain_one) (c2 : List ByteArray) (pools : List T_cloud_pool) (insts : List T_cloud_inst) : Option (Bool × T_world_World × T_cloud_Cloud × T_drain_one × List ByteArray × List T_cloud_pool × List T_cloud_inst) :=
 (drain_has w c x.name).bind fun r =>
 if (!r) = true then
  (drain_Table_Step_1 (⟨#[103, 111, 110, 101]⟩ : ByteArray) x.name c2).bind fun r2 =>
  some (false, w, c, x, r2, pools, insts)
 else
  if x.back = true then
   some (true, w, c, x, c2, pools, insts)
  else
   (world_World_Bounds w c).bind fun r3 =>
   (block_Movable r3 x.name).bind fun r4 =>
   (drain_Table_goes_drain_Table_Step_1.l1 t c x pools insts r4 0 w c2).bind fun o =>
   o.on fun j =>
   (cloud_Cloud_Delete c x.name pools insts).bind fun r8 =>
   if (r8.1 != 0) = true then
    (drain_Table_leave_drain_Table_Step_1 t j.1 r8.2.1 (⟨#[107, 101, 101, 112]⟩ : ByteArray) x j.2).bind fun r9 =>
    some (r9.1, r9.2.1, r8.2.1, x, r9.2.2, r8.2.2.1, r8.2.2.2)
   else
    (drain_Table_Step_1 (⟨#[100, 101, 108, 101, 116, 101]⟩ : ByteArray) x.name j.2).bind fun r10 =>
    some (true, j.1, r8.2.1, (⟨x.name, x.steps, true⟩ : T_drain_one), r10, r8.2.2.1, r8.2.2.2)
theorem K169 (A0 A1 : Nat) (t : T_drain_Table) (w : T_world_World) (c : T_cloud_Cloud) (x : T_drain_one) (c2 : List ByteArray) (pools : List T_cloud_pool) (insts : List T_cloud_inst) (b : Nat) (ob : Option Nat) (cap : Nat) (b2 : Nat) (ob2 : Option Nat) (cap2 : Nat) (ob3 : Option Nat) (cap3 : Nat) (ob4 : Option Nat) (cap4 : Nat) (ob5 : Option Nat) (cap5 : Nat) (b3 : Nat) (b4 : Nat) (ob6 : Option Nat) (cap6 : Nat) (ob7 : Option Nat) (cap7 : Nat) (b5 : Nat) (b6 : Nat) (ob8 : Option Nat) (cap8 : Nat) (bs : List Nat) (bs2 : List Nat) : ∀ r : Bool × T_world_World × T_cloud_Cloud × T_drain_one × List ByteArray × List T_cloud_pool × List T_cloud_inst, drain_Table_goes_drain_Table_Step_1 t w c x c2 pools insts = some r → VC Tryz.prog 116 [.ptr b 0, .ptr b2 0, .ptr b5 0, .clo (.func 117) [] [.ptr b6 0]] [.box b 108 [Z172 ob t.l cap, Iw t.grace, .bool t.made], Q172 ob cap t.l, .box b2 43 [.ptr b4 0, Z139 ob2 w.groups cap2, Z103 ob3 w.budgets cap3, Z68 ob4 w.ms cap4, Z64 ob5 w.bs cap5, .map b3], Q139 ob2 cap2 w.groups, Q103 ob3 cap3 w.budgets, Q68 ob4 cap4 w.ms, Q64 ob5 cap5 w.bs, .map b3 (List.map (pf VV.str (VV.int .i64)) w.held), .box b4 149 [Z140 A0 A1 ob6 c.pools cap6, Z152 A0 A1 ob7 c.insts cap7, Iw c.delay, Iw c.now, Iw c.calls], Q140 A0 A1 ob6 cap6 c.pools, Q152 A0 A1 ob7 cap7 c.insts, X172 b5 x, .box b6 61 [Z9 ob8 c2 cap8], Q9 ob8 cap8 c2, .ar A0 144 bs (List.map T_cloud_pool.cells pools), .ar A1 157 bs2 (List.map (T_cloud_inst.cells A0 A1) insts)] fun zx zH => ∃ (ob1_1 : Option Nat) (cap1_1 : Nat) (ob1_2 : Option Nat) (cap1_2 : Nat) (ob1_3 : Option Nat) (cap1_3 : Nat) (ob1_4 : Option Nat) (cap1_4 : Nat) (b1_5 : Nat) (ob2_0 : Option Nat) (cap2_0 : Nat) (ob2_1 : Option Nat) (cap2_1 : Nat) (ob4_0 : Option Nat) (cap4_0 : Nat) (bs_5 : List Nat) (bs_6 : List Nat), zx = .bool r.1 ∧ zH = [.box b 108 [Z172 ob t.l cap, Iw t.grace, .bool t.made], Q172 ob cap t.l, .box b2 43 [.ptr b4 0, Z139 ob1_1 r.2.1.groups cap1_1, Z103 ob1_2 r.2.1.budgets cap1_2, Z68 ob1_3 r.2.1.ms cap1_3, Z64 ob1_4 r.2.1.bs cap1_4, .map b1_5], Q139 ob1_1 cap1_1 r.2.1.groups, Q103 ob1_2 cap1_2 r.2.1.budgets, Q68 ob1_3 cap1_3 r.2.1.ms, Q64 ob1_4 cap1_4 r.2.1.bs, .map b1_5 (List.map (pf VV.str (VV.int .i64)) r.2.1.held), .box b4 149 [Z140 A0 A1 ob2_0 r.2.2.1.pools cap2_0, Z152 A0 A1 ob2_1 r.2.2.1.insts cap2_1, Iw r.2.2.1.delay, Iw r.2.2.1.now, Iw r.2.2.1.calls], Q140 A0 A1 ob2_0 cap2_0 r.2.2.1.pools, Q152 A0 A1 ob2_1 cap2_1 r.2.2.1.insts, X172 b5 r.2.2.2.1, .box b6 61 [Z9 ob4_0 r.2.2.2.2.1 cap4_0], Q9 ob4_0 cap4_0 r.2.2.2.2.1, .ar A0 144 bs_5 (List.map T_cloud_pool.cells r.2.2.2.2.2.1), .ar A1 157 bs_6 (List.map (T_cloud_inst.cells A0 A1) r.2.2.2.2.2.2)] := by
 refine Ck [.tmp 8] Tryz.func116 R R R fun r hm=>?_
 unfold drain_Table_goes_drain_Table_Step_1 at hm
 refine Ag tbk [] R R<|Ah<|A4<|Ae<|Ad tbk [11] 5 R R<|Au (A5 [2,3,4,5,6,7,8,9,10,0,1,11,12,13,14,15] R)<|Ab R R<|Ay hm 9 R fn113 R (K145 A0 A1 _ _ _ _ _ _ _ _ _ _ _ _ _ _ _ _ _ _) fun r hm=>Ad tbk [] 2 R R<|Ac<|Ao hm R (fun h2 hm=>?_) fun h2 hm=> ?_
 ·refine Ae<|Ad tbk [11] 5 R R<|Au (A5 [12,13,0,1,2,3,4,5,6,7,8,9,10,11,14,15] R)<|Ab R R<|B6 hm 2 R fn117 R (K153 _ _ _ _ _ _) fun r2 ob9 cap9 hm=>Ac<|Ag tbk [] R R<|?_
  obtain rfl:=Option.some.inj hm
  exact Bu ⟨.inl R,_,.cons (.tmp _ _ R) .nil,[11,12,2,3,4,5,6,7,8,9,10,13,0,1,14,15],_,R,ob2,cap2,ob3,cap3,ob4,cap4,ob5,cap5,b3,ob6,cap6,ob7,cap7,ob9,cap9,bs,bs2,R,R⟩
 refine Ag tbk [11] R R<|Ao hm R (fun h4 hm=>?_) fun h4 hm=> ?_
 ·refine Ag tbk [] R R<|?_
  obtain rfl:=Option.some.inj hm
  exact Bu ⟨.inl R,_,.cons (.tmp _ _ R) .nil,[9,10,0,1,2,3,4,5,6,7,8,11,12,13,14,15],_,R,ob2,cap2,ob3,cap3,ob4,cap4,ob5,cap5,b3,ob6,cap6,ob7,cap7,ob8,cap8,bs,bs2,R,R⟩
 refine Am<|Ah<|Ah<|Bo 9 mixed<|Bh tbk [0,2,3,4,5,8] [2] (by kernel_rfl) R R R<|Al 1 (by kernel_rfl)<|Bd hm fun r3 h5 hm=>An R R R<|Aq 9 R fn20 R (K138 A0 A1 w c b2 ob2 cap2 ob3 cap3 ob4 cap4 ob5 cap5 b3 b4 ob6 cap6 ob7 cap7 r3 h5) fun _ _ h28=> ?_
 obtain ⟨ob10,cap10,rfl,rfl⟩:=h28
 refine C0 (Av 0 [(31,L64 r3)] R ⟨⟨_,R,.here _ R⟩,trivial⟩ (FzH.refl _))<|Al 6 (by kernel_rfl)<|Bd hm fun r4 h7 hm=>An R R R<|Aq 0 R fn175 R (K154 r3 x.name r4 h7) fun _ _ h27=> ?_
 obtain ⟨ob11,cap11,rfl,rfl⟩:=h27
 refine C0 (Av 0 [(36,L29 r4)] R ⟨⟨_,R,.here _ R⟩,trivial⟩ (FzH.refl _))<|A9 7 R R R (by kernel_rfl) (Be T_api_Pod.vv R Cy)<|A6 (by kernel_rfl)<|B2 36 R fun h11=>Cf hm (fun _ (gg:Option Nat × Nat × Option Nat × Nat × Option Nat × Nat × Option Nat × Nat × Nat × Option Nat × Nat)=>[(0,.ptr b 0),(1,.ptr b2 0),(2,.ptr b5 0),(3,.clo (.func 117) [] [.ptr b6 0])]) (fun j (gg:Option Nat × Nat × Option Nat × Nat × Option Nat × Nat × Option Nat × Nat × Nat × Option Nat × Nat)=>[.box b2 43 [.ptr b4 0,Z139 gg.1 j.1.groups gg.2.1,Z103 gg.2.2.1 j.1.budgets gg.2.2.2.1,Z68 gg.2.2.2.2.1 j.1.ms gg.2.2.2.2.2.1,Z64 gg.2.2.2.2.2.2.1 j.1.bs gg.2.2.2.2.2.2.2.1,.map gg.2.2.2.2.2.2.2.2.1],Q139 gg.1 gg.2.1 j.1.groups,Q103 gg.2.2.1 gg.2.2.2.1 j.1.budgets,Q68 gg.2.2.2.2.1 gg.2.2.2.2.2.1 j.1.ms,Q64 gg.2.2.2.2.2.2.1 gg.2.2.2.2.2.2.2.1 j.1.bs,.map gg.2.2.2.2.2.2.2.2.1 (List.map (pf VV.str (VV.int .i64)) j.1.held),.box b4 149 [Z140 A0 A1 ob6 c.pools cap6,Z152 A0 A1 ob7 c.insts cap7,Iw c.delay,Iw c.now,Iw c.calls],Q140 A0 A1 ob6 cap6 c.pools,Q152 A0 A1 ob7 cap7 c.insts,.box b 108 [Z172 ob t.l cap,Iw t.grace,.bool t.made],Q172 ob cap t.l,X172 b5 x,.box b6 61 [Z9 gg.2.2.2.2.2.2.2.2.2.1 j.2 gg.2.2.2.2.2.2.2.2.2.2],Q9 gg.2.2.2.2.2.2.2.2.2.1 gg.2.2.2.2.2.2.2.2.2.2 j.2,.ar A0 144 bs (List.map T_cloud_pool.cells pools),.ar A1 157 bs2 (List.map (T_cloud_inst.cells A0 A1) insts)]) (fun o hm h10=>?_) fun j=>Pq fun ob22=>Pq fun cap22=>Pq fun ob23=>Pq fun cap23=>Pq fun ob24=>Pq fun cap24=>Pq fun ob25=>Pq fun cap25=>Pq fun b9=>Pq fun ob26 cap26 hm=> ?_
 ·refine Cc (r4) (fun zl zk (zs:T_world_World × List ByteArray)=>drain_Table_goes_drain_Table_Step_1.l1 t c x pools insts zl zk zs.1 zs.2) (fun k _ (_:Option Nat × Nat × Option Nat × Nat × Option Nat × Nat × Option Nat × Nat × Nat × Option Nat × Nat)=>[(0,.ptr b 0),(1,.ptr b2 0),(2,.ptr b5 0),(3,.clo (.func 117) [] [.ptr b6 0]),(36,L29 r4),(37,Iw (r4.length : Int)),(38,Iw (k : Int))]) (fun _ zs (zg:Option Nat × Nat × Option Nat × Nat × Option Nat × Nat × Option Nat × Nat × Nat × Option Nat × Nat)=>[.box b2 43 [.ptr b4 0,Z139 zg.1 zs.1.groups zg.2.1,Z103 zg.2.2.1 zs.1.budgets zg.2.2.2.1,Z68 zg.2.2.2.2.1 zs.1.ms zg.2.2.2.2.2.1,Z64 zg.2.2.2.2.2.2.1 zs.1.bs zg.2.2.2.2.2.2.2.1,.map zg.2.2.2.2.2.2.2.2.1],Q139 zg.1 zg.2.1 zs.1.groups,Q103 zg.2.2.1 zg.2.2.2.1 zs.1.budgets,Q68 zg.2.2.2.2.1 zg.2.2.2.2.2.1 zs.1.ms,Q64 zg.2.2.2.2.2.2.1 zg.2.2.2.2.2.2.2.1 zs.1.bs,.map zg.2.2.2.2.2.2.2.2.1 (List.map (pf VV.str (VV.int .i64)) zs.1.held),.box b4 149 [Z140 A0 A1 ob6 c.pools cap6,Z152 A0 A1 ob7 c.insts cap7,Iw c.delay,Iw c.now,Iw c.calls],Q140 A0 A1 ob6 cap6 c.pools,Q152 A0 A1 ob7 cap7 c.insts,.box b 108 [Z172 ob t.l cap,Iw t.grace,.bool t.made],Q172 ob cap t.l,X172 b5 x,.box b6 61 [Z9 zg.2.2.2.2.2.2.2.2.2.1 zs.2 zg.2.2.2.2.2.2.2.2.2.2],Q9 zg.2.2.2.2.2.2.2.2.2.1 zg.2.2.2.2.2.2.2.2.2.2 zs.2,.ar A0 144 bs (List.map T_cloud_pool.cells pools),.ar A1 157 bs2 (List.map (T_cloud_inst.cells A0 A1) insts)]) (w,c2) (ob2,cap2,ob3,cap3,ob4,cap4,ob5,cap5,b3,ob8,cap8) hm (Ak [0,1,2,3,4,5,6,7,8,9,10,11,12,13,14,15] (by kernel_rfl) (by kernel_rfl)) (fun k=>Pq fun w3 tell2=>Pq fun ob17=>Pq fun cap17=>Pq fun ob18=>Pq fun cap18=>Pq fun ob19=>Pq fun cap19=>Pq fun ob20=>Pq fun cap20=>Pq fun b8=>Pq fun ob21 cap21 hk hm=>?_) fun k x2 l=>Pq fun w3 tell2=>Pq fun ob17=>Pq fun cap17=>Pq fun ob18=>Pq fun cap18=>Pq fun ob19=>Pq fun cap19=>Pq fun ob20=>Pq fun cap20=>Pq fun b8=>Pq fun ob21 cap21 h12 hm=> ?_
  ·rw [drain_Table_goes_drain_Table_Step_1.l1] at hm
   exact Ag tbk [] R R<|Ah<|Bq R (k_end hk)<|Bb<|Ar (ob17,cap17,ob18,cap18,ob19,cap19,ob20,cap20,b8,ob21,cap21) hm (Ak [0,1,2,3,4,5,6,7,8,9,10,11,12,13,14,15] (by kernel_rfl) (by kernel_rfl))
  rw [drain_Table_goes_drain_Table_Step_1.l1] at hm
  refine Ag tbk [] R R<|Ah<|Bk R (k_lt h12)<|Am<|Ah<|A4<|Ae<|Aa R R (B4 T_api_Pod.vv R R el193 h12)<|Aa R R (Bx R ld29 R)<|Ab R R<|Aw z29 fun b10=>Ab R R<|Aj (i:=0) R R R ld29 R R R<|Ac<|Ah<|Ae<|Ad tbk [0] 3 R R<|Bd hm fun r5 h14 hm=>Au (A5 [1,2,3,4,5,6,7,8,9,0,10,11,12,13,14,15,16] R)<|Ab R R<|Aq 9 R fn18 R (K159 A0 A1 w3 c x2.Name b2 ob17 cap17 ob18 cap18 ob19 cap19 ob20 cap20 b8 b4 ob6 cap6 ob7 cap7 r5 h14) fun _ _ h20=> ?_
  obtain ⟨ob27,cap27,ob28,cap28,ob29,cap29,ob30,cap30,b11,rfl,rfl⟩:=h20
  refine Aa R R (Ce R R R)<|Ac<|Ao hm R (fun h15 hm=>?_) fun h15 hm=> ?_
  ·refine Ah<|Ae<|Ad tbk [12] 7 R R<|Ab R R<|Aj (i:=12) R R R ld3 R R R<|Ac<|Ah<|Bo 0 mixed<|Bh tbk [0,1,2,3,4,5,6,7,8] [12,10] (by kernel_rfl) R R R<|A6 (by kernel_rfl)<|Ao hm R (fun h16 hm=>?_) fun h16 hm=> ?_
   ·refine Ag tbk [] R R<|have hm:=Lr hm h10; ?_
    obtain rfl:=Option.some.inj hm
    exact Bu ⟨.inl R,_,.cons (.tmp _ _ R) .nil,[10,11,0,1,2,3,4,5,6,7,8,12,13,14,15,16],_,R,ob27,cap27,ob28,cap28,ob29,cap29,ob30,cap30,b11,ob6,cap6,ob7,cap7,ob21,cap21,bs,bs2,R,R⟩
   refine Am<|Ae<|Ad tbk [] 4 R R<|Bd hm fun r6 h17 hm=>Au (A5 [10,11,0,1,2,3,4,5,6,7,8,12,13,14,9,15,16] R)<|Ab R R<|Aq 14 R fn176 R (K166 A0 A1 t r5.2 c (⟨#[115,116,111,112]⟩ : ByteArray) (⟨x.name,(IntKind.i64.wrap (x.steps + (1 : Int))),x.back⟩ : T_drain_one) tell2 b ob cap b2 ob27 cap27 ob28 cap28 ob29 cap29 ob30 cap30 b11 b4 ob6 cap6 ob7 cap7 b5 b6 ob21 cap21 r6 h17) fun _ _ h18=> ?_
   obtain ⟨ob31,cap31,ob32,cap32,ob33,cap33,ob34,cap34,b12,ob35,cap35,rfl,rfl⟩:=h18
   refine Aa R R (Ai R)<|Ac<|have hm:=Lr hm h10; ?_
   obtain rfl:=Option.some.inj hm
   exact Bu ⟨.inl R,_,.cons (.tmp _ _ R) .nil,[0,1,2,3,4,5,6,7,8,9,10,11,12,13,15,16],_,R,ob31,cap31,ob32,cap32,ob33,cap33,ob34,cap34,b12,ob6,cap6,ob7,cap7,ob35,cap35,bs,bs2,R,R⟩
  exact Am<|Bw<|Ad tbk [9] 3 R R<|Au (A5 [13,14,0,1,2,3,4,5,6,7,8,9,10,11,12,15,16] R)<|Ab R R<|B6 hm 2 R fn117 R (K153 _ _ _ _ _ _) fun r7 ob36 cap36 hm=>Ac<|Bc tbk [] R R<|Ap (r5.2,r7) (ob27,cap27,ob28,cap28,ob29,cap29,ob30,cap30,b11,ob36,cap36) hm (Bf [2,3,4,5,6,7,8,9,10,12,13,14,0,1,15,16] (by kernel_rfl) ⟨R,R,R,R,R,R,congrArg some (k_next h12 h11),trivial⟩)
 refine Ah<|Ah<|Br (A5 [6,7,8,14,15,0,1,2,3,4,5,9,10,11,12,13] R)<|Bo 5 mixed<|Bh tbk [0,1,2,3,4,5,6,7] [0,8] (by kernel_rfl) R R R<|Al 8 (by kernel_rfl)<|Bd hm fun r8 h21 hm=>An R R R<|Aq 5 R fn25 R (K168 A0 A1 c x.name pools insts b4 ob6 cap6 ob7 cap7 bs bs2 r8 h21) fun _ _ h26=> ?_
 obtain ⟨ob37,cap37,ob38,cap38,bs3,bs4,rfl,rfl⟩:=h26
 refine A9 9 R R R (by kernel_rfl) (Ce R R R)<|A6 (by kernel_rfl)<|Ao hm R (fun h22 hm=>?_) fun h22 hm=> ?_
 ·refine Ae<|Ad tbk [] 4 R R<|Bd hm fun r9 h23 hm=>Au (A5 [11,12,5,6,7,8,9,10,0,1,2,13,14,15,3,4] R)<|Ab R R<|Aq 14 R fn176 R (K166 A0 A1 t j.1 r8.2.1 (⟨#[107,101,101,112]⟩ : ByteArray) x j.2 b ob cap b2 ob22 cap22 ob23 cap23 ob24 cap24 ob25 cap25 b9 b4 ob37 cap37 ob38 cap38 b5 b6 ob26 cap26 r9 h23) fun _ _ h24=> ?_
  obtain ⟨ob39,cap39,ob40,cap40,ob41,cap41,ob42,cap42,b13,ob43,cap43,rfl,rfl⟩:=h24
  refine Aa R R (Ai R)<|Ac<|?_
  obtain rfl:=Option.some.inj hm
  exact Bu ⟨.inl R,_,.cons (.tmp _ _ R) .nil,[0,1,2,3,4,5,6,7,8,9,10,11,12,13,14,15],_,R,ob39,cap39,ob40,cap40,ob41,cap41,ob42,cap42,b13,ob37,cap37,ob38,cap38,ob43,cap43,bs3,bs4,R,R⟩
 refine Am<|Ae<|Ad tbk [] 3 R R<|Ab R R<|Aj (i:=13) R R R ld4 R R R<|Ac<|Ae<|Ad tbk [13] 5 R R<|Au (A5 [14,15,0,1,2,3,4,5,6,7,8,9,10,11,12,13] R)<|Ab R R<|B6 hm 2 R fn117 R (K153 _ _ _ _ _ _) fun r10 ob44 cap44 hm=>Ac<|Ag tbk [] R R<|?_
 obtain rfl:=Option.some.inj hm
 exact Bu ⟨.inl R,_,.cons (.tmp _ _ R) .nil,[13,14,7,8,9,10,11,12,2,3,4,15,0,1,5,6],_,R,ob22,cap22,ob23,cap23,ob24,cap24,ob25,cap25,b9,ob37,cap37,ob38,cap38,ob44,cap44,bs3,bs4,R,R⟩

/-! (*trireme/drain.Table).Step -/
def drain_Table_Step_x.l1 (t : T_drain_Table) : Nat → T_world_World → T_cloud_Cloud → (List ByteArray) → (List T_drain_one) → Int → (List T_cloud_pool) → (List T_cloud_inst) → Option (List ByteArray × List T_drain_one × T_world_World × T_cloud_Cloud × List T_cloud_pool × List T_cloud_inst)
 | 0, _, _, _, _, _, _, _ => none
 | n + 1, w4, w5, told2, l2, v2, ps2, xs2 =>
  if (decide (v2 < (t.l.length : Int))) = true then
   (V.gl t.l v2).bind fun x3 =>
   (drain_Table_goes_drain_Table_Step_1 t w4 w5 x3 told2 ps2 xs2).bind fun r3 =>
   if r3.1 = true then
    (V.ap 32 l2 [r3.2.2.2.1]).bind fun l5 =>
    drain_Table_Step_x.l1 t n r3.2.1 r3.2.2.1 r3.2.2.2.2.1 l5 (i64.wrap (v2 + 1)) r3.2.2.2.2.2.1 r3.2.2.2.2.2.2
   else
    drain_Table_Step_x.l1 t n r3.2.1 r3.2.2.1 r3.2.2.2.2.1 l2 (i64.wrap (v2 + 1)) r3.2.2.2.2.2.1 r3.2.2.2.2.2.2
  else
   some (told2, l2, w4, w5, ps2, xs2)
def drain_Table_Step_x (t : T_drain_Table) (w : T_world_World) (c : T_cloud_Cloud) (pools : List T_cloud_pool) (insts : List T_cloud_inst) : Option (List ByteArray × T_drain_Table × T_world_World × T_cloud_Cloud × List T_cloud_pool × List T_cloud_inst) :=
 (drain_Table_there_x t).bind fun r =>
 (if (!r) = true then some true else (drain_is w c).bind fun r2 =>
 some (!r2)).bind fun c2 =>
 if c2 = true then
  some (([] : List ByteArray), t, w, c, pools, insts)
 else
  (drain_Table_Step_x.l1 t FU w c ([] : List ByteArray) ([] : List T_drain_one) 0 pools insts).bind fun j =>
  some (j.1, (⟨j.2.1, t.grace, t.made⟩ : T_drain_Table), j.2.2.1, j.2.2.2.1, j.2.2.2.2.1, j.2.2.2.2.2)
theorem K170 (A0 A1 : Nat) (t : T_drain_Table) (w : T_world_World) (c : T_cloud_Cloud) (pools : List T_cloud_pool) (insts : List T_cloud_inst) (b : Nat) (ob : Option Nat) (cap : Nat) (b2 : Nat) (ob2 : Option Nat) (cap2 : Nat) (ob3 : Option Nat) (cap3 : Nat) (ob4 : Option Nat) (cap4 : Nat) (ob5 : Option Nat) (cap5 : Nat) (b3 : Nat) (b4 : Nat) (ob6 : Option Nat) (cap6 : Nat) (ob7 : Option Nat) (cap7 : Nat) (bs : List Nat) (bs2 : List Nat) : ∀ r : List ByteArray × T_drain_Table × T_world_World × T_cloud_Cloud × List T_cloud_pool × List T_cloud_inst, drain_Table_Step_x t w c pools insts = some r → VC Tryz.prog 42 [.ptr b 0, .ptr b2 0] [.box b 108 [Z172 ob t.l cap, Iw t.grace, .bool t.made], Q172 ob cap t.l, .box b2 43 [.ptr b4 0, Z139 ob2 w.groups cap2, Z103 ob3 w.budgets cap3, Z68 ob4 w.ms cap4, Z64 ob5 w.bs cap5, .map b3], Q139 ob2 cap2 w.groups, Q103 ob3 cap3 w.budgets, Q68 ob4 cap4 w.ms, Q64 ob5 cap5 w.bs, .map b3 (List.map (pf VV.str (VV.int .i64)) w.held), .box b4 149 [Z140 A0 A1 ob6 c.pools cap6, Z152 A0 A1 ob7 c.insts cap7, Iw c.delay, Iw c.now, Iw c.calls], Q140 A0 A1 ob6 cap6 c.pools, Q152 A0 A1 ob7 cap7 c.insts, .ar A0 144 bs (List.map T_cloud_pool.cells pools), .ar A1 157 bs2 (List.map (T_cloud_inst.cells A0 A1) insts)] fun zx zH => ∃ (ob0 : Option Nat) (cap0 : Nat) (ob0_0 : Option Nat) (cap0_0 : Nat) (ob1_1 : Option Nat) (cap1_1 : Nat) (ob1_2 : Option Nat) (cap1_2 : Nat) (ob1_3 : Option Nat) (cap1_3 : Nat) (ob1_4 : Option Nat) (cap1_4 : Nat) (b1_5 : Nat) (ob2_0 : Option Nat) (cap2_0 : Nat) (ob2_1 : Option Nat) (cap2_1 : Nat) (bs_3 : List Nat) (bs_4 : List Nat), zx = Z9 ob0 r.1 cap0 ∧ zH = [Q9 ob0 cap0 r.1, .box b 108 [Z172 ob0_0 r.2.1.l cap0_0, Iw r.2.1.grace, .bool r.2.1.made], Q172 ob0_0 cap0_0 r.2.1.l, .box b2 43 [.ptr b4 0, Z139 ob1_1 r.2.2.1.groups cap1_1, Z103 ob1_2 r.2.2.1.budgets cap1_2, Z68 ob1_3 r.2.2.1.ms cap1_3, Z64 ob1_4 r.2.2.1.bs cap1_4, .map b1_5], Q139 ob1_1 cap1_1 r.2.2.1.groups, Q103 ob1_2 cap1_2 r.2.2.1.budgets, Q68 ob1_3 cap1_3 r.2.2.1.ms, Q64 ob1_4 cap1_4 r.2.2.1.bs, .map b1_5 (List.map (pf VV.str (VV.int .i64)) r.2.2.1.held), .box b4 149 [Z140 A0 A1 ob2_0 r.2.2.2.1.pools cap2_0, Z152 A0 A1 ob2_1 r.2.2.2.1.insts cap2_1, Iw r.2.2.2.1.delay, Iw r.2.2.2.1.now, Iw r.2.2.2.1.calls], Q140 A0 A1 ob2_0 cap2_0 r.2.2.2.1.pools, Q152 A0 A1 ob2_1 cap2_1 r.2.2.2.1.insts, .ar A0 144 bs_3 (List.map T_cloud_pool.cells r.2.2.2.2.1), .ar A1 157 bs_4 (List.map (T_cloud_inst.cells A0 A1) r.2.2.2.2.2)] := by
 refine Ck [.tmp 4] D1 R R R fun r hm=>?_
 unfold drain_Table_Step_x at hm
 refine Ag tbk [] R R<|Ah<|Ae<|Aa R R (Af R)<|Ab R R<|Ay hm 2 R fn111 R (K142 _ _ _ _) fun r hm=>Ad tbk [] 2 R R<|Bt hm 4 16 12 R (fun _ K' h2 J hm=>Ad tbk [] 4 R R<|J 3 R R (Bj hm)) (fun _ K' h2 J hm=>?_) fun c2 hm=> ?_
 ·refine Ba R R R R R (Af R)<|Bd hm fun r2 h3 hm=>Au (A5 [2,3,4,5,6,7,8,9,10,0,1,11,12] R)<|A8 R R R R R<|Aq 9 R fn112 R (K143 A0 A1 w c b2 ob2 cap2 ob3 cap3 ob4 cap4 ob5 cap5 b3 b4 ob6 cap6 ob7 cap7 r2 h3) fun _ _ h4=> ?_
  obtain ⟨rfl,rfl⟩:=h4
  exact Ad tbk [] 2 R R<|Au (A5 [9,10,0,1,2,3,4,5,6,7,8,11,12] R)<|J 3 R R (Bj hm)
 refine Ac<|Ao hm R (fun h6 hm=>?_) fun h6 hm=> ?_
 ·refine Ag tbk [] R R<|?_
  obtain rfl:=Option.some.inj hm
  exact Br (Az 9)<|Bu ⟨.inl R,_,.cons (.tmp _ _ R) .nil,[0,1,2,3,4,5,6,7,8,9,10,11,12,13],_,R,none,0,ob,cap,ob2,cap2,ob3,cap3,ob4,cap4,ob5,cap5,b3,ob6,cap6,ob7,cap7,bs,bs2,R,R⟩
 refine Am<|Ae<|Ab R R<|Aw z61 fun b5=>Ac<|Ag tbk [] R R<|Ah<|Ae<|Ad tbk [1] 4 R R<|Aa R R (Cq T_drain_one.vv R Cx)<|Aa R R (Af R)<|Ac<|Ca hm (fun j (gg:Option Nat × Nat × Option Nat × Nat × Option Nat × Nat × Option Nat × Nat × Option Nat × Nat × Option Nat × Nat × Option Nat × Nat × Option Nat × Nat × Nat × List Nat × List Nat)=>[(0,.ptr b 0),(5,.ptr b5 0),(6,Z172 gg.2.2.1 j.2.1 gg.2.2.2.1)]) (fun j (gg:Option Nat × Nat × Option Nat × Nat × Option Nat × Nat × Option Nat × Nat × Option Nat × Nat × Option Nat × Nat × Option Nat × Nat × Option Nat × Nat × Nat × List Nat × List Nat)=>[Q9 gg.1 gg.2.1 j.1,Q172 gg.2.2.1 gg.2.2.2.1 j.2.1,.box b5 61 [Z9 gg.1 j.1 gg.2.1],.box b 108 [Z172 ob t.l cap,Iw t.grace,.bool t.made],Q172 ob cap t.l,.box b2 43 [.ptr b4 0,Z139 gg.2.2.2.2.2.2.2.2.1 j.2.2.1.groups gg.2.2.2.2.2.2.2.2.2.1,Z103 gg.2.2.2.2.2.2.2.2.2.2.1 j.2.2.1.budgets gg.2.2.2.2.2.2.2.2.2.2.2.1,Z68 gg.2.2.2.2.2.2.2.2.2.2.2.2.1 j.2.2.1.ms gg.2.2.2.2.2.2.2.2.2.2.2.2.2.1,Z64 gg.2.2.2.2.2.2.2.2.2.2.2.2.2.2.1 j.2.2.1.bs gg.2.2.2.2.2.2.2.2.2.2.2.2.2.2.2.1,.map gg.2.2.2.2.2.2.2.2.2.2.2.2.2.2.2.2.1],Q139 gg.2.2.2.2.2.2.2.2.1 gg.2.2.2.2.2.2.2.2.2.1 j.2.2.1.groups,Q103 gg.2.2.2.2.2.2.2.2.2.2.1 gg.2.2.2.2.2.2.2.2.2.2.2.1 j.2.2.1.budgets,Q68 gg.2.2.2.2.2.2.2.2.2.2.2.2.1 gg.2.2.2.2.2.2.2.2.2.2.2.2.2.1 j.2.2.1.ms,Q64 gg.2.2.2.2.2.2.2.2.2.2.2.2.2.2.1 gg.2.2.2.2.2.2.2.2.2.2.2.2.2.2.2.1 j.2.2.1.bs,.map gg.2.2.2.2.2.2.2.2.2.2.2.2.2.2.2.2.1 (List.map (pf VV.str (VV.int .i64)) j.2.2.1.held),.box b4 149 [Z140 A0 A1 gg.2.2.2.2.1 j.2.2.2.1.pools gg.2.2.2.2.2.1,Z152 A0 A1 gg.2.2.2.2.2.2.1 j.2.2.2.1.insts gg.2.2.2.2.2.2.2.1,Iw j.2.2.2.1.delay,Iw j.2.2.2.1.now,Iw j.2.2.2.1.calls],Q140 A0 A1 gg.2.2.2.2.1 gg.2.2.2.2.2.1 j.2.2.2.1.pools,Q152 A0 A1 gg.2.2.2.2.2.2.1 gg.2.2.2.2.2.2.2.1 j.2.2.2.1.insts,.ar A0 144 gg.2.2.2.2.2.2.2.2.2.2.2.2.2.2.2.2.2.1 (List.map T_cloud_pool.cells j.2.2.2.2.1),.ar A1 157 gg.2.2.2.2.2.2.2.2.2.2.2.2.2.2.2.2.2.2 (List.map (T_cloud_inst.cells A0 A1) j.2.2.2.2.2)]) (fun o hm=>?_) fun j=>Pq fun ob24=>Pq fun cap24=>Pq fun ob25=>Pq fun cap25=>Pq fun ob26=>Pq fun cap26=>Pq fun ob27=>Pq fun cap27=>Pq fun ob28=>Pq fun cap28=>Pq fun ob29=>Pq fun cap29=>Pq fun ob30=>Pq fun cap30=>Pq fun ob31=>Pq fun cap31=>Pq fun b8=>Pq fun bs7 bs8 hm=> ?_
 ·refine Cm (fun zn (zs:T_world_World × T_cloud_Cloud × List ByteArray × List T_drain_one × Int × List T_cloud_pool × List T_cloud_inst)=>drain_Table_Step_x.l1 t zn zs.1 zs.2.1 zs.2.2.1 zs.2.2.2.1 zs.2.2.2.2.1 zs.2.2.2.2.2.1 zs.2.2.2.2.2.2) (fun zs (zg:Option Nat × Nat × Option Nat × Nat × Option Nat × Nat × Option Nat × Nat × Option Nat × Nat × Option Nat × Nat × Nat × Option Nat × Nat × Option Nat × Nat × List Nat × List Nat)=>[(0,.ptr b 0),(1,.ptr b2 0),(5,.ptr b5 0),(6,Z172 zg.2.2.2.2.2.2.2.2.2.2.2.2.2.2.2.1 zs.2.2.2.1 zg.2.2.2.2.2.2.2.2.2.2.2.2.2.2.2.2.1),(20,Z172 ob t.l cap),(21,Iw (t.l.length : Int)),(22,Iw zs.2.2.2.2.1)]) (fun zs (zg:Option Nat × Nat × Option Nat × Nat × Option Nat × Nat × Option Nat × Nat × Option Nat × Nat × Option Nat × Nat × Nat × Option Nat × Nat × Option Nat × Nat × List Nat × List Nat)=>[Q9 zg.2.2.2.2.2.2.2.2.2.2.2.2.2.1 zg.2.2.2.2.2.2.2.2.2.2.2.2.2.2.1 zs.2.2.1,Q172 zg.2.2.2.2.2.2.2.2.2.2.2.2.2.2.2.1 zg.2.2.2.2.2.2.2.2.2.2.2.2.2.2.2.2.1 zs.2.2.2.1,.box b5 61 [Z9 zg.2.2.2.2.2.2.2.2.2.2.2.2.2.1 zs.2.2.1 zg.2.2.2.2.2.2.2.2.2.2.2.2.2.2.1],.box b 108 [Z172 ob t.l cap,Iw t.grace,.bool t.made],Q172 ob cap t.l,.box b2 43 [.ptr b4 0,Z139 zg.2.2.2.2.1 zs.1.groups zg.2.2.2.2.2.1,Z103 zg.2.2.2.2.2.2.1 zs.1.budgets zg.2.2.2.2.2.2.2.1,Z68 zg.2.2.2.2.2.2.2.2.1 zs.1.ms zg.2.2.2.2.2.2.2.2.2.1,Z64 zg.2.2.2.2.2.2.2.2.2.2.1 zs.1.bs zg.2.2.2.2.2.2.2.2.2.2.2.1,.map zg.2.2.2.2.2.2.2.2.2.2.2.2.1],Q139 zg.2.2.2.2.1 zg.2.2.2.2.2.1 zs.1.groups,Q103 zg.2.2.2.2.2.2.1 zg.2.2.2.2.2.2.2.1 zs.1.budgets,Q68 zg.2.2.2.2.2.2.2.2.1 zg.2.2.2.2.2.2.2.2.2.1 zs.1.ms,Q64 zg.2.2.2.2.2.2.2.2.2.2.1 zg.2.2.2.2.2.2.2.2.2.2.2.1 zs.1.bs,.map zg.2.2.2.2.2.2.2.2.2.2.2.2.1 (List.map (pf VV.str (VV.int .i64)) zs.1.held),.box b4 149 [Z140 A0 A1 zg.1 zs.2.1.pools zg.2.1,Z152 A0 A1 zg.2.2.1 zs.2.1.insts zg.2.2.2.1,Iw zs.2.1.delay,Iw zs.2.1.now,Iw zs.2.1.calls],Q140 A0 A1 zg.1 zg.2.1 zs.2.1.pools,Q152 A0 A1 zg.2.2.1 zg.2.2.2.1 zs.2.1.insts,.ar A0 144 zg.2.2.2.2.2.2.2.2.2.2.2.2.2.2.2.2.2.1 (List.map T_cloud_pool.cells zs.2.2.2.2.2.1),.ar A1 157 zg.2.2.2.2.2.2.2.2.2.2.2.2.2.2.2.2.2.2 (List.map (T_cloud_inst.cells A0 A1) zs.2.2.2.2.2.2)]) (w,c,([] : List ByteArray),([] : List T_drain_one),(0 : Int),pools,insts) (ob6,cap6,ob7,cap7,ob2,cap2,ob3,cap3,ob4,cap4,ob5,cap5,b3,none,0,none,0,bs,bs2) (fun _=>R) hm (Bg (Az 172) (Bg (Az 9) (Ak [0,1,2,3,4,5,6,7,8,9,10,11,12,13,14,15] (by kernel_rfl) (by kernel_rfl)))) fun n=>Pq fun w4=>Pq fun w5=>Pq fun told2=>Pq fun l2=>Pq fun v2=>Pq fun ps2 xs2=>Pq fun ob16=>Pq fun cap16=>Pq fun ob17=>Pq fun cap17=>Pq fun ob18=>Pq fun cap18=>Pq fun ob19=>Pq fun cap19=>Pq fun ob20=>Pq fun cap20=>Pq fun ob21=>Pq fun cap21=>Pq fun b7=>Pq fun ob22=>Pq fun cap22=>Pq fun ob23=>Pq fun cap23=>Pq fun bs5 bs6 hm=> ?_
  rw [drain_Table_Step_x.l1] at hm
  refine Ag tbk [] R R<|Ah<|Ao hm R (fun h15 hm=>?_) fun h15 hm=> ?_
  ·refine Am<|Ah<|A4<|Ae<|Bd hm fun x3 h16 hm=>Cd 4 R (gl_pos T_drain_one.vv h16) fun b9 h17=> ?_
   subst h17
   refine Aa R R (Ci T_drain_one.vv R R el106 h16)<|Aa R R (B8 (i:=4) (y:=T_drain_one.vv x3) R R R (gl_map _ (gl_some h16).2) ld172 R)<|Ab R R<|Aw z172 fun b10=>Ab R R<|Aj (i:=0) R R R ld172 R R R<|Ac<|Ae<|Ad tbk [] 2 R R<|Aa R R (Cj R R)<|Bd hm fun r3 h19 hm=>Au (A5 [4,5,6,7,8,9,10,11,12,13,14,0,3,1,15,16,2] R)<|Ab R R<|Aq 16 R fn116 R (K169 A0 A1 t w4 w5 x3 told2 ps2 xs2 b (some b9) cap b2 ob18 cap18 ob19 cap19 ob20 cap20 ob21 cap21 b7 b4 ob16 cap16 ob17 cap17 b10 b5 ob22 cap22 bs5 bs6 r3 h19) fun _ _ h23=> ?_
   obtain ⟨ob32,cap32,ob33,cap33,ob34,cap34,ob35,cap35,b11,ob36,cap36,ob37,cap37,ob38,cap38,bs9,bs10,rfl,rfl⟩:=h23
   exact Ac<|Ao hm R (fun h20 hm=>Bw<|Ad tbk [11] 2 R R<|Ab R R<|Ax ap106 R R R R R fun b12=>Bd hm fun l5 h22 hm=>Ab R R<|Bp 17 T_drain_one.vv (l:=l2) (l2:=[r3.2.2.2.1]) ap106 R R (sT_row 0 T_drain_one.vv el106 R R) h22 fun ob39 cap39=>Aa R R (Ai R)<|Ac<|Bc tbk [] R R<|Ap (r3.2.1,r3.2.2.1,r3.2.2.2.2.1,l5,(IntKind.i64.wrap (v2 + (1 : Int))),r3.2.2.2.2.2.1,r3.2.2.2.2.2.2) (ob36,cap36,ob37,cap37,ob32,cap32,ob33,cap33,ob34,cap34,ob35,cap35,b11,ob38,cap38,ob39,cap39,bs9,bs10) hm (Ak [14,17,13,1,2,3,4,5,6,7,8,9,10,11,15,16] (by kernel_rfl) (by kernel_rfl))) fun h20 hm=>Am<|Bc tbk [] R R<|Ap (r3.2.1,r3.2.2.1,r3.2.2.2.2.1,l2,(IntKind.i64.wrap (v2 + (1 : Int))),r3.2.2.2.2.2.1,r3.2.2.2.2.2.2) (ob36,cap36,ob37,cap37,ob32,cap32,ob33,cap33,ob34,cap34,ob35,cap35,b11,ob38,cap38,ob23,cap23,bs9,bs10) hm (Ak [13,16,12,0,1,2,3,4,5,6,7,8,9,10,14,15] (by kernel_rfl) (by kernel_rfl))
  exact Bb<|As (ob22,cap22,ob23,cap23,ob16,cap16,ob17,cap17,ob18,cap18,ob19,cap19,ob20,cap20,ob21,cap21,b7,bs5,bs6) hm (Ak [0,1,2,3,4,5,6,7,8,9,10,11,12,13,14,15] (by kernel_rfl) (by kernel_rfl))
 refine Ae<|Ad tbk [] 4 R R<|Ab R R<|Aj (i:=3) R R R ld106 R R R<|Ac<|Ag tbk [2] R R<|?_
 obtain rfl:=Option.some.inj hm
 exact Bu ⟨.inl R,_,.cons (.tmp _ _ R) .nil,[0,3,1,5,6,7,8,9,10,11,12,13,14,15],_,R,ob24,cap24,ob25,cap25,ob28,cap28,ob29,cap29,ob30,cap30,ob31,cap31,b8,ob26,cap26,ob27,cap27,bs7,bs8,R,R⟩

/-! (*trireme/drain.Table).Leaving$1 -/
def drain_Table_Leaving_1 (x : T_drain_one) : Option Bool :=
 some x.back
theorem K171 (x : T_drain_one) : VS Tryz.prog 119 (drain_Table_Leaving_1 x) [T_drain_one.vv x] [] .bool N0 := by
 refine A7 [.tmp 2] Tryz.func119 R R R fun r hm=>?_
 unfold drain_Table_Leaving_1 at hm
 exact Ae<|Ab R R<|Bi R R fun b=>Aa R R (Ai R)<|Ac<|Ag tbk [0] R R<|Rt1 hm R [] R R R

/-! (*trireme/drain.Table).names -/
def drain_Table_names_drain_Table_Leaving_1_x.l1 (t : T_drain_Table) : Nat → (List ByteArray) → Int → Option (List ByteArray)
 | 0, _, _ => none
 | n + 1, l2, v2 =>
  if (decide (v2 < (t.l.length : Int))) = true then
   (V.gl t.l v2).bind fun x =>
   (drain_Table_Leaving_1 x).bind fun r2 =>
   if r2 = true then
    (V.ap 16 l2 [x.name]).bind fun l5 =>
    drain_Table_names_drain_Table_Leaving_1_x.l1 t n l5 (i64.wrap (v2 + 1))
   else
    drain_Table_names_drain_Table_Leaving_1_x.l1 t n l2 (i64.wrap (v2 + 1))
  else
   some l2
def drain_Table_names_drain_Table_Leaving_1_x (t : T_drain_Table) : Option (List ByteArray) :=
 (drain_Table_there_x t).bind fun r =>
 if (!r) = true then
  some ([] : List ByteArray)
 else
  (drain_Table_names_drain_Table_Leaving_1_x.l1 t FU ([] : List ByteArray) (0 : Int)).bind fun l32 =>
  some l32
theorem K172 (t : T_drain_Table) (b : Nat) (ob : Option Nat) (cap : Nat) : VS2 Tryz.prog 114 (drain_Table_names_drain_Table_Leaving_1_x t) [.ptr b 0, .clo (.func 119) [] []] [.box b 108 [Z172 ob t.l cap, Iw t.grace, .bool t.made], Q172 ob cap t.l] (fun r ob0 cap0=>Z9 ob0 r cap0) (fun r ob0 cap0=>[Q9 ob0 cap0 r, .box b 108 [Z172 ob t.l cap, Iw t.grace, .bool t.made], Q172 ob cap t.l]) := by
 refine Ch [.tmp 4] Dw R R R fun r hm=>?_
 unfold drain_Table_names_drain_Table_Leaving_1_x at hm
 refine Ag tbk [] R R<|Ah<|Ae<|Aa R R (Af R)<|Ab R R<|Ay hm 2 R fn111 R (K142 _ _ _ _) fun r hm=>Aa R R (Cg R)<|Ac<|Ao hm R (fun h2 hm=>Ag tbk [] R R<|Br (Az 9)<|Rg2 hm R [0,1,2] none 0 (.cons (.tmp _ _ R) .nil) R R) fun h2 hm=>Am<|Ag tbk [] R R<|Ah<|Ae<|Ad tbk [0] 4 R R<|Aa R R (Cq T_drain_one.vv R Cx)<|Aa R R (Af R)<|Ac<|Ca hm (fun l32 (gg:Option Nat × Nat)=>[(5,Z9 gg.1 l32 gg.2)]) (fun l32 (gg:Option Nat × Nat)=>[Q9 gg.1 gg.2 l32,.box b 108 [Z172 ob t.l cap,Iw t.grace,.bool t.made],Q172 ob cap t.l]) (fun o hm=>?_) fun l32=>Pq fun ob4 cap4 hm=> ?_
 ·refine Cm (fun zn (zs:List ByteArray × Int)=>drain_Table_names_drain_Table_Leaving_1_x.l1 t zn zs.1 zs.2) (fun zs (zg:Option Nat × Nat)=>[(1,.clo (.func 119) [] []),(5,Z9 zg.1 zs.1 zg.2),(14,Z172 ob t.l cap),(15,Iw (t.l.length : Int)),(16,Iw zs.2)]) (fun zs (zg:Option Nat × Nat)=>[Q9 zg.1 zg.2 zs.1,.box b 108 [Z172 ob t.l cap,Iw t.grace,.bool t.made],Q172 ob cap t.l]) (([] : List ByteArray),(0 : Int)) (none,0) (fun _=>R) hm (Bg (Az 9) (Ak [0,1,2] R R)) fun n=>Pq fun l2 v2=>Pq fun ob3 cap3 hm=> ?_
  rw [drain_Table_names_drain_Table_Leaving_1_x.l1] at hm
  refine Ag tbk [] R R<|Ah<|Ao hm R (fun h8 hm=>?_) fun h8 hm=> ?_
  ·refine Am<|Ah<|A4<|Ae<|Bd hm fun x h9 hm=>Cd 2 R (gl_pos T_drain_one.vv h9) fun b2 h10=> ?_
   subst h10
   exact Aa R R (Ci T_drain_one.vv R R el106 h9)<|Aa R R (B8 (i:=2) (y:=T_drain_one.vv x) R R R (gl_map _ (gl_some h9).2) ld172 R)<|Ab R R<|Aw z172 fun b3=>Ab R R<|Aj (i:=0) R R R ld172 R R R<|Ac<|Ae<|Ad tbk [0] 2 R R<|Ab R R<|Ay hm 0 R fn119 R (K171 _) fun r2 hm=>Ac<|Ao hm R (fun h13 hm=>Bw<|Ad tbk [0] 3 R R<|Ab R R<|Ax ap61 R R R R R fun b4=>Bd hm fun l5 h15 hm=>Ab R R<|Bp 2 VV.str (l:=l2) (l2:=[x.name]) ap61 R R (sT_row 0 VV.str el61 R R) h15 fun ob5 cap5=>Aa R R (Ai R)<|Ac<|Bc tbk [] R R<|Ap (l5,(IntKind.i64.wrap (v2 + (1 : Int)))) (ob5,cap5) hm (Ak [2,3,4] R R)) fun h13 hm=>Am<|Bc tbk [] R R<|Ap (l2,(IntKind.i64.wrap (v2 + (1 : Int)))) (ob3,cap3) hm (Ak [1,2,3] R R)
  exact Bb<|As (ob3,cap3) hm (Ak [0,1,2] R R)
 exact Ag tbk [] R R<|Rg2 hm R [0,1,2] ob4 cap4 (.cons (.tmp _ _ R) .nil) R R

/-! (*trireme/drain.Table).Leaving -/
def drain_Table_Leaving_x (t : T_drain_Table) : Option (List ByteArray) :=
 (drain_Table_names_drain_Table_Leaving_1_x t).bind fun r =>
 some r
theorem K173 (t : T_drain_Table) (b : Nat) (ob : Option Nat) (cap : Nat) : VS Tryz.prog 47 (drain_Table_Leaving_x t) [.ptr b 0] [.box b 108 [Z172 ob t.l cap, Iw t.grace, .bool t.made], Q172 ob cap t.l] (fun r=>L9 r) (fun r=>[.box b 108 [Z172 ob t.l cap, Iw t.grace, .bool t.made], Q172 ob cap t.l]) := by
 refine A7 [.tmp 2] Tryz.func47 R R R fun r hm=>?_
 unfold drain_Table_Leaving_x at hm
 exact Ag tbk [] R R<|Ae<|Aa R R (Af R)<|Ab R R<|B6 hm 2 R fn114 R (K172 _ _ _ _) fun r ob2 cap2 hm=>Au (Av 0 [(4,L9 r)] R ⟨⟨_,R,.here _ R⟩,trivial⟩ (FzH.refl _))<|Aa R R (Ai R)<|Ac<|Rt1 hm R [0,1] R R R

/-! (*trireme/drain.Table).Busy$1 -/
def drain_Table_Busy_1 (a : T_drain_one) : Option Bool :=
 some true
theorem K174 (a : T_drain_one) : VS Tryz.prog 115 (drain_Table_Busy_1 a) [T_drain_one.vv a] [] .bool N0 := by
 refine A7 [.tmp 2] Tryz.func115 R R R fun r hm=>?_
 unfold drain_Table_Busy_1 at hm
 exact Ae<|Ab R R<|Bi R R fun b=>Aa R R (Ai R)<|Ac<|Ag tbk [] R R<|Rt1 hm R [] R R R

/-! (*trireme/drain.Table).names -/
def drain_Table_names_drain_Table_Busy_1_x.l1 (t : T_drain_Table) : Nat → (List ByteArray) → Int → Option (List ByteArray)
 | 0, _, _ => none
 | n + 1, l2, v2 =>
  if (decide (v2 < (t.l.length : Int))) = true then
   (V.gl t.l v2).bind fun x =>
   (drain_Table_Busy_1 x).bind fun r2 =>
   (V.ap 16 l2 [x.name]).bind fun l5 =>
   drain_Table_names_drain_Table_Busy_1_x.l1 t n l5 (i64.wrap (v2 + 1))
  else
   some l2
def drain_Table_names_drain_Table_Busy_1_x (t : T_drain_Table) : Option (List ByteArray) :=
 (drain_Table_there_x t).bind fun r =>
 if (!r) = true then
  some ([] : List ByteArray)
 else
  (drain_Table_names_drain_Table_Busy_1_x.l1 t FU ([] : List ByteArray) (0 : Int)).bind fun l32 =>
  some l32
theorem K175 (t : T_drain_Table) (b : Nat) (ob : Option Nat) (cap : Nat) : VS2 Tryz.prog 114 (drain_Table_names_drain_Table_Busy_1_x t) [.ptr b 0, .clo (.func 115) [] []] [.box b 108 [Z172 ob t.l cap, Iw t.grace, .bool t.made], Q172 ob cap t.l] (fun r ob0 cap0=>Z9 ob0 r cap0) (fun r ob0 cap0=>[Q9 ob0 cap0 r, .box b 108 [Z172 ob t.l cap, Iw t.grace, .bool t.made], Q172 ob cap t.l]) := by
 refine Ch [.tmp 4] Dw R R R fun r hm=>?_
 unfold drain_Table_names_drain_Table_Busy_1_x at hm
 refine Ag tbk [] R R<|Ah<|Ae<|Aa R R (Af R)<|Ab R R<|Ay hm 2 R fn111 R (K142 _ _ _ _) fun r hm=>Aa R R (Cg R)<|Ac<|Ao hm R (fun h2 hm=>Ag tbk [] R R<|Br (Az 9)<|Rg2 hm R [0,1,2] none 0 (.cons (.tmp _ _ R) .nil) R R) fun h2 hm=>Am<|Ag tbk [] R R<|Ah<|Ae<|Ad tbk [0] 4 R R<|Aa R R (Cq T_drain_one.vv R Cx)<|Aa R R (Af R)<|Ac<|Ca hm (fun l32 (gg:Option Nat × Nat)=>[(5,Z9 gg.1 l32 gg.2)]) (fun l32 (gg:Option Nat × Nat)=>[Q9 gg.1 gg.2 l32,.box b 108 [Z172 ob t.l cap,Iw t.grace,.bool t.made],Q172 ob cap t.l]) (fun o hm=>?_) fun l32=>Pq fun ob4 cap4 hm=> ?_
 ·refine Cm (fun zn (zs:List ByteArray × Int)=>drain_Table_names_drain_Table_Busy_1_x.l1 t zn zs.1 zs.2) (fun zs (zg:Option Nat × Nat)=>[(1,.clo (.func 115) [] []),(5,Z9 zg.1 zs.1 zg.2),(14,Z172 ob t.l cap),(15,Iw (t.l.length : Int)),(16,Iw zs.2)]) (fun zs (zg:Option Nat × Nat)=>[Q9 zg.1 zg.2 zs.1,.box b 108 [Z172 ob t.l cap,Iw t.grace,.bool t.made],Q172 ob cap t.l]) (([] : List ByteArray),(0 : Int)) (none,0) (fun _=>R) hm (Bg (Az 9) (Ak [0,1,2] R R)) fun n=>Pq fun l2 v2=>Pq fun ob3 cap3 hm=> ?_
  rw [drain_Table_names_drain_Table_Busy_1_x.l1] at hm
  refine Ag tbk [] R R<|Ah<|Ao hm R (fun h8 hm=>?_) fun h8 hm=> ?_
  ·refine Am<|Ah<|A4<|Ae<|Bd hm fun x h9 hm=>Cd 2 R (gl_pos T_drain_one.vv h9) fun b2 h10=> ?_
   subst h10
   refine Aa R R (Ci T_drain_one.vv R R el106 h9)<|Aa R R (B8 (i:=2) (y:=T_drain_one.vv x) R R R (gl_map _ (gl_some h9).2) ld172 R)<|Ab R R<|Aw z172 fun b3=>Ab R R<|Aj (i:=0) R R R ld172 R R R<|Ac<|Ae<|Ad tbk [0] 2 R R<|Bd hm fun r2 h12 hm=>Ab R R<|Aq 0 R fn115 R (K174 x r2 h12) fun _ _ h15=> ?_
   obtain ⟨rfl,rfl⟩:=h15
   exact Ac<|Bk R (Option.some.inj (show some true = some r2 from h12)).symm<|Bw<|Ad tbk [0] 3 R R<|Ab R R<|Ax ap61 R R R R R fun b4=>Bd hm fun l5 h14 hm=>Ab R R<|Bp 2 VV.str (l:=l2) (l2:=[x.name]) ap61 R R (sT_row 0 VV.str el61 R R) h14 fun ob5 cap5=>Aa R R (Ai R)<|Ac<|Bc tbk [] R R<|Ap (l5,(IntKind.i64.wrap (v2 + (1 : Int)))) (ob5,cap5) hm (Ak [2,3,4] R R)
  exact Bb<|As (ob3,cap3) hm (Ak [0,1,2] R R)
 exact Ag tbk [] R R<|Rg2 hm R [0,1,2] ob4 cap4 (.cons (.tmp _ _ R) .nil) R R

/-! (*trireme/drain.Table).Busy -/
def drain_Table_Busy_x (t : T_drain_Table) : Option (List ByteArray) :=
 (drain_Table_names_drain_Table_Busy_1_x t).bind fun r =>
 some r
theorem K176 (t : T_drain_Table) (b : Nat) (ob : Option Nat) (cap : Nat) : VS Tryz.prog 41 (drain_Table_Busy_x t) [.ptr b 0] [.box b 108 [Z172 ob t.l cap, Iw t.grace, .bool t.made], Q172 ob cap t.l] (fun r=>L9 r) (fun r=>[.box b 108 [Z172 ob t.l cap, Iw t.grace, .bool t.made], Q172 ob cap t.l]) := by
 refine A7 [.tmp 2] Tryz.func41 R R R fun r hm=>?_
 unfold drain_Table_Busy_x at hm
 exact Ag tbk [] R R<|Ae<|Aa R R (Af R)<|Ab R R<|B6 hm 2 R fn114 R (K175 _ _ _ _) fun r ob2 cap2 hm=>Au (Av 0 [(4,L9 r)] R ⟨⟨_,R,.here _ R⟩,trivial⟩ (FzH.refl _))<|Aa R R (Ai R)<|Ac<|Rt1 hm R [0,1] R R R

/-! trireme/triremelaw28.known -/
def law28_known (pools : List T_cloud_pool) (insts : List T_cloud_inst) : Option (Bool × List T_cloud_pool × List T_cloud_inst) :=
 (world_New [(⟨(⟨#[103]⟩ : ByteArray), 1, 3, (⟨(⟨#[]⟩ : ByteArray), (⟨#[103]⟩ : ByteArray), (⟨1000, 0, 0, 5, 0⟩ : T_api_Res), ([] : List T_api_Label), ([] : List T_api_Taint), true⟩ : T_api_Machine), 0, 0⟩ : T_api_Group)] ([] : List T_api_Budget) 1 pools insts).bind fun r =>
 po r.1 (
  (drain_New (1 : Int)).bind fun r2 =>
  po r2.1 (
   (if ((((r.2.1 != 0) || (r2.2 != 0)) || true) || true) = true then some true else none).bind fun c =>
   if c = true then
    some (false, r.2.2.1, r.2.2.2)
   else
    (world_World_AddPod (⟨(⟨#[112]⟩ : ByteArray), (⟨600, 0, 0, 1, 0⟩ : T_api_Res), ([] : List T_api_Label), ([] : List T_api_Label), ([] : List T_api_Term), ([] : List T_api_Toleration), ([] : List Int), ([] : List T_api_Label), false, ([] : List T_api_Label), 0, 0, (⟨#[115]⟩ : ByteArray), false, false, false⟩ : T_api_Pod)).bind fun r3 =>
    none) fun x2 =>
  (if ((((r.2.1 != 0) || (r2.2 != 0)) || true) || false) = true then some true else none).bind fun c2 =>
  if c2 = true then
   some (false, r.2.2.1, r.2.2.2)
  else
   (world_World_AddPod (⟨(⟨#[112]⟩ : ByteArray), (⟨600, 0, 0, 1, 0⟩ : T_api_Res), ([] : List T_api_Label), ([] : List T_api_Label), ([] : List T_api_Term), ([] : List T_api_Toleration), ([] : List Int), ([] : List T_api_Label), false, ([] : List T_api_Label), 0, 0, (⟨#[115]⟩ : ByteArray), false, false, false⟩ : T_api_Pod)).bind fun r4 =>
   none) fun x =>
 (drain_New (1 : Int)).bind fun r5 =>
 po r5.1 (
  if (((((r.2.1 != 0) || (r5.2 != 0)) || false) || true) || false) = true then
   some (false, r.2.2.1, r.2.2.2)
  else
   (world_World_AddPod_x x.1 x.2 (⟨(⟨#[112]⟩ : ByteArray), (⟨600, 0, 0, 1, 0⟩ : T_api_Res), ([] : List T_api_Label), ([] : List T_api_Label), ([] : List T_api_Term), ([] : List T_api_Toleration), ([] : List Int), ([] : List T_api_Label), false, ([] : List T_api_Label), 0, 0, (⟨#[115]⟩ : ByteArray), false, false, false⟩ : T_api_Pod)).bind fun r6 =>
   (cloud_Cloud_Increase x.2 (⟨#[103]⟩ : ByteArray) 1 r.2.2.1 r.2.2.2).bind fun r7 =>
   (world_World_Pass r6.2 r7.2.1 r7.2.2.1 r7.2.2.2).bind fun r8 =>
   (drain_Table_Start r8.1 r8.2.1 (⟨#[103, 45, 49]⟩ : ByteArray)).bind fun r9 =>
   (drain_Table_Start r8.1 r8.2.1 (⟨#[103, 45, 49]⟩ : ByteArray)).bind fun r10 =>
   (drain_Table_Start r8.1 r8.2.1 (⟨#[120]⟩ : ByteArray)).bind fun r11 =>
   (drain_Table_Step r8.1 r8.2.1 r7.2.2.1 r8.2.2).bind fun r12 =>
   (drain_Table_Leaving).bind fun r13 =>
   (world_World_Pass r8.1 r8.2.1 r7.2.2.1 r8.2.2).bind fun r14 =>
   (drain_Table_Step r14.1 r14.2.1 r7.2.2.1 r14.2.2).bind fun r15 =>
   (world_World_Bounds r14.1 r14.2.1).bind fun r16 =>
   (drain_New (-1 : Int)).bind fun r17 =>
   po r17.1 (
    (if (((r9 == 0) && (r10 == 15)) && (r11 == 16)) = true then (ref09_Texts r12 [(⟨#[101, 118, 105, 99, 116, 32, 112]⟩ : ByteArray), (⟨#[100, 101, 108, 101, 116, 101, 32, 103, 45, 49]⟩ : ByteArray)]).bind fun r18 =>
    some r18 else some false).bind fun c3 =>
    (if c3 = true then (ref09_Texts r13 [(⟨#[103, 45, 49]⟩ : ByteArray)]).bind fun r19 =>
    some r19 else some false).bind fun c4 =>
    (if c4 = true then (ref09_Texts r15 [(⟨#[103, 111, 110, 101, 32, 103, 45, 49]⟩ : ByteArray)]).bind fun r20 =>
    some r20 else some false).bind fun c5 =>
    (if c5 = true then (drain_Table_Busy).bind fun r21 =>
    some ((r21.length : Int) == 0) else some false).bind fun c6 =>
    (if (c6 && ((r16.length : Int) == 1)) = true then (V.gl r16 (0 : Int)).bind fun x5 =>
    some (V.seq x5.On (⟨#[103, 45, 50]⟩ : ByteArray)) else some false).bind fun c7 =>
    some ((if (c7 && (r17.2 == 1)) = true then true else false), r7.2.2.1, r14.2.2)) fun x4 =>
   (if (((r9 == 0) && (r10 == 15)) && (r11 == 16)) = true then (ref09_Texts r12 [(⟨#[101, 118, 105, 99, 116, 32, 112]⟩ : ByteArray), (⟨#[100, 101, 108, 101, 116, 101, 32, 103, 45, 49]⟩ : ByteArray)]).bind fun r22 =>
   some r22 else some false).bind fun c8 =>
   (if c8 = true then (ref09_Texts r13 [(⟨#[103, 45, 49]⟩ : ByteArray)]).bind fun r23 =>
   some r23 else some false).bind fun c9 =>
   (if c9 = true then (ref09_Texts r15 [(⟨#[103, 111, 110, 101, 32, 103, 45, 49]⟩ : ByteArray)]).bind fun r24 =>
   some r24 else some false).bind fun c10 =>
   (if c10 = true then (drain_Table_Busy).bind fun r25 =>
   some ((r25.length : Int) == 0) else some false).bind fun c11 =>
   (if (c11 && ((r16.length : Int) == 1)) = true then (V.gl r16 (0 : Int)).bind fun x6 =>
   some (V.seq x6.On (⟨#[103, 45, 50]⟩ : ByteArray)) else some false).bind fun c12 =>
   some ((if (c12 && (r17.2 == 1)) = true then true else false), r7.2.2.1, r14.2.2)) fun x3 =>
 if (((((r.2.1 != 0) || (r5.2 != 0)) || false) || false) || false) = true then
  some (false, r.2.2.1, r.2.2.2)
 else
  (world_World_AddPod_x x.1 x.2 (⟨(⟨#[112]⟩ : ByteArray), (⟨600, 0, 0, 1, 0⟩ : T_api_Res), ([] : List T_api_Label), ([] : List T_api_Label), ([] : List T_api_Term), ([] : List T_api_Toleration), ([] : List Int), ([] : List T_api_Label), false, ([] : List T_api_Label), 0, 0, (⟨#[115]⟩ : ByteArray), false, false, false⟩ : T_api_Pod)).bind fun r26 =>
  (cloud_Cloud_Increase x.2 (⟨#[103]⟩ : ByteArray) 1 r.2.2.1 r.2.2.2).bind fun r27 =>
  (world_World_Pass r26.2 r27.2.1 r27.2.2.1 r27.2.2.2).bind fun r28 =>
  (drain_Table_Start_x x3 r28.1 r28.2.1 (⟨#[103, 45, 49]⟩ : ByteArray)).bind fun r29 =>
  (drain_Table_Start_x r29.2.1 r29.2.2 r28.2.1 (⟨#[103, 45, 49]⟩ : ByteArray)).bind fun r30 =>
  (drain_Table_Start_x r30.2.1 r30.2.2 r28.2.1 (⟨#[120]⟩ : ByteArray)).bind fun r31 =>
  (drain_Table_Step_x r31.2.1 r31.2.2 r28.2.1 r27.2.2.1 r28.2.2).bind fun r32 =>
  (drain_Table_Leaving_x r32.2.1).bind fun r33 =>
  (world_World_Pass r32.2.2.1 r32.2.2.2.1 r32.2.2.2.2.1 r32.2.2.2.2.2).bind fun r34 =>
  (drain_Table_Step_x r32.2.1 r34.1 r34.2.1 r32.2.2.2.2.1 r34.2.2).bind fun r35 =>
  (world_World_Bounds r35.2.2.1 r35.2.2.2.1).bind fun r36 =>
  (drain_New (-1 : Int)).bind fun r37 =>
  po r37.1 (
   (if (((r29.1 == 0) && (r30.1 == 15)) && (r31.1 == 16)) = true then (ref09_Texts r32.1 [(⟨#[101, 118, 105, 99, 116, 32, 112]⟩ : ByteArray), (⟨#[100, 101, 108, 101, 116, 101, 32, 103, 45, 49]⟩ : ByteArray)]).bind fun r38 =>
   some r38 else some false).bind fun c13 =>
   (if c13 = true then (ref09_Texts r33 [(⟨#[103, 45, 49]⟩ : ByteArray)]).bind fun r39 =>
   some r39 else some false).bind fun c14 =>
   (if c14 = true then (ref09_Texts r35.1 [(⟨#[103, 111, 110, 101, 32, 103, 45, 49]⟩ : ByteArray)]).bind fun r40 =>
   some r40 else some false).bind fun c15 =>
   (if c15 = true then (drain_Table_Busy_x r35.2.1).bind fun r41 =>
   some ((r41.length : Int) == 0) else some false).bind fun c16 =>
   (if (c16 && ((r36.length : Int) == 1)) = true then (V.gl r36 (0 : Int)).bind fun x8 =>
   some (V.seq x8.On (⟨#[103, 45, 50]⟩ : ByteArray)) else some false).bind fun c17 =>
   some ((if (c17 && (r37.2 == 1)) = true then true else false), r35.2.2.2.2.1, r35.2.2.2.2.2)) fun x7 =>
  (if (((r29.1 == 0) && (r30.1 == 15)) && (r31.1 == 16)) = true then (ref09_Texts r32.1 [(⟨#[101, 118, 105, 99, 116, 32, 112]⟩ : ByteArray), (⟨#[100, 101, 108, 101, 116, 101, 32, 103, 45, 49]⟩ : ByteArray)]).bind fun r42 =>
  some r42 else some false).bind fun c18 =>
  (if c18 = true then (ref09_Texts r33 [(⟨#[103, 45, 49]⟩ : ByteArray)]).bind fun r43 =>
  some r43 else some false).bind fun c19 =>
  (if c19 = true then (ref09_Texts r35.1 [(⟨#[103, 111, 110, 101, 32, 103, 45, 49]⟩ : ByteArray)]).bind fun r44 =>
  some r44 else some false).bind fun c20 =>
  (if c20 = true then (drain_Table_Busy_x r35.2.1).bind fun r45 =>
  some ((r45.length : Int) == 0) else some false).bind fun c21 =>
  (if (c21 && ((r36.length : Int) == 1)) = true then (V.gl r36 (0 : Int)).bind fun x9 =>
  some (V.seq x9.On (⟨#[103, 45, 50]⟩ : ByteArray)) else some false).bind fun c22 =>
  some ((if (c22 && (r37.2 == 1)) = true then true else false), r35.2.2.2.2.1, r35.2.2.2.2.2)
theorem K177 (A0 A1 : Nat) (pools : List T_cloud_pool) (insts : List T_cloud_inst) (bs : List Nat) (bs2 : List Nat) : ∀ r : Bool × List T_cloud_pool × List T_cloud_inst, law28_known pools insts = some r → VC Tryz.prog 37 [] [.ar A0 144 bs (List.map T_cloud_pool.cells pools), .ar A1 157 bs2 (List.map (T_cloud_inst.cells A0 A1) insts)] fun zx zH => ∃ (bs_0 : List Nat) (bs_1 : List Nat), zx = .bool r.1 ∧ zH = [.ar A0 144 bs_0 (List.map T_cloud_pool.cells r.2.1), .ar A1 157 bs_1 (List.map (T_cloud_inst.cells A0 A1) r.2.2)] := by
 refine Ck [.tmp 0] Tryz.func37 R R R fun r hm=>?_
 unfold law28_known at hm
 refine Ag tbk [] R R<|Ae<|Aa R R (Bl pl23 R R)<|Aa R R (Bl pl68 R R)<|Aa R R (Bl pl139 R R)<|Au (Bg (Az 232) (Bg (Av 0 [(17,.agg [.str (⟨#[103]⟩ : ByteArray),Iw (1 : Int),Iw (3 : Int),.str (⟨#[]⟩ : ByteArray),.str (⟨#[103]⟩ : ByteArray),Iw (1000 : Int),Iw (0 : Int),Iw (0 : Int),Iw (5 : Int),Iw (0 : Int),L232 ([] : List T_api_Label),.sl none 0 0,.bool true,Iw (0 : Int),Iw (0 : Int)])] R ⟨⟨_,R,.aggL ⟨.same _,.same _,.same _,.same _,.same _,.same _,.same _,.same _,.same _,.same _,.here _ R,.same _,.same _,.same _,.same _,trivial⟩⟩,trivial⟩ (FzH.refl _)) (Bg (Az 31) (Av 0 [(17,T_api_Group.vv (⟨(⟨#[103]⟩ : ByteArray),(1 : Int),(3 : Int),(⟨(⟨#[]⟩ : ByteArray),(⟨#[103]⟩ : ByteArray),(⟨(1000 : Int),(0 : Int),(0 : Int),(5 : Int),(0 : Int)⟩ : T_api_Res),([] : List T_api_Label),([] : List T_api_Taint),true⟩ : T_api_Machine),(0 : Int),(0 : Int)⟩ : T_api_Group))] R ⟨⟨_,R,.aggL ⟨.same _,.same _,.same _,.same _,.same _,.same _,.same _,.same _,.same _,.same _,.same _,.here _ R,.same _,.same _,.same _,trivial⟩⟩,trivial⟩ (FzH.refl _)))))<|Ab R R<|Ax ap37 R R R R R fun b=>Au (Av 0 [(18,L139 [(⟨(⟨#[103]⟩ : ByteArray),(1 : Int),(3 : Int),(⟨(⟨#[]⟩ : ByteArray),(⟨#[103]⟩ : ByteArray),(⟨(1000 : Int),(0 : Int),(0 : Int),(5 : Int),(0 : Int)⟩ : T_api_Res),([] : List T_api_Label),([] : List T_api_Taint),true⟩ : T_api_Machine),(0 : Int),(0 : Int)⟩ : T_api_Group)])] R ⟨⟨_,R,.here _ R⟩,trivial⟩ (FzH.refl _))<|Aa R R (Ai R)<|Ac<|Ae<|Aa R R (Af R)<|Bd hm fun r h2 hm=>Ab R R<|VO.callN 2 [.same,.nil 103,.same] R fn30 R (K47 A0 A1 [(⟨(⟨#[103]⟩ : ByteArray),(1 : Int),(3 : Int),(⟨(⟨#[]⟩ : ByteArray),(⟨#[103]⟩ : ByteArray),(⟨(1000 : Int),(0 : Int),(0 : Int),(5 : Int),(0 : Int)⟩ : T_api_Res),([] : List T_api_Label),([] : List T_api_Taint),true⟩ : T_api_Machine),(0 : Int),(0 : Int)⟩ : T_api_Group)] ([] : List T_api_Budget) (1 : Int) pools insts bs bs2 r h2) fun _ _ h186=> ?_
 obtain ⟨b2,b3,ob,cap,ob2,cap2,ob3,cap3,ob4,cap4,ob5,cap5,ob6,cap6,b4,bs3,bs4,rfl,rfl⟩:=h186
 rcases po_or hm with ⟨h185,hm⟩ | ⟨x,h185,hm⟩
 ·rw [h185]
  refine Ad tbk [] 5 R R<|Ac<|Ae<|Bd hm fun r2 h12 hm=>Ab R R<|Aq 0 R fn38 R (K48 (1 : Int) r2 h12) fun _ _ h30=> ?_
  obtain ⟨b5,ob7,cap7,rfl,rfl⟩:=h30
  rcases po_or hm with ⟨h29,hm⟩ | ⟨x2,h29,hm⟩
  ·rw [h29]
   refine Ad tbk [] 5 R R<|Ac<|Ah<|Ae<|Ad tbk [] 3 R R<|Cu tbk [] 3 33 30 R R R R R<|Aa R R (Af R)<|C9 3 37 34 R (fun K' J=>Ad tbk [] 3 R R<|J 2 R R R) (fun h16 K' J=>Ba R R R R R (Af R)<|Ba R R R R R (Cr Co R R)<|Aa R R (Bs false R R R)<|J 2 R R R)<|Aa R R (Af R)<|C9 3 41 38 R (fun K' J=>Ad tbk [] 3 R R<|J 2 R R R) (fun h17 K' J=>Ba R R R R R (Af R)<|Ba R R R R R (Cr Cb R R)<|Aa R R (Bs false R R R)<|J 2 R R R)<|Aa R R (Af R)<|Bt hm 6 48 42 R (fun _ K' h18 J hm=>Ad tbk [] 6 R R<|J 5 R R (Bj hm)) (fun _ K' h18 J hm=>Ba R R R R R (Af R)<|absurd hm nofun) fun c hm=>Ac<|Ao hm R (fun h20 hm=>?_) fun h20 hm=> ?_
   ·refine Ag tbk [] R R<|?_
    obtain rfl:=Option.some.inj hm
    exact Bu ⟨.inl R,_,.cons (.tmp _ _ R) .nil,[0,1],_,R,bs3,bs4,R,R⟩
   exact Am<|Ae<|Aa R R (Af R)<|Aa R R (Bl pl23 R R)<|Aa R R (Bl pl29 R R)<|Ab R R<|VO.cn hm 0 [.same,.agg [none,none,none,none,none,none,some 232,some 232,some 189,some 191,some 3,some 232,none,some 232]] R fn12 R (K50 _) fun r3 hm=>Ac<|Ae<|Aa R R (Af R)<|absurd hm nofun
  ·rw [h29]
   refine Ad tbk [] 5 R R<|Ac<|Ah<|Ae<|Ad tbk [] 3 R R<|Cu tbk [] 3 33 30 R R R R R<|Aa R R (Af R)<|C9 3 37 34 R (fun K' J=>Ad tbk [] 3 R R<|J 2 R R R) (fun h23 K' J=>Ba R R R R R (Af R)<|Ba R R R R R (Cr Co R R)<|Aa R R (Bs false R R R)<|J 2 R R R)<|Aa R R (Af R)<|C9 3 41 38 R (fun K' J=>Ad tbk [] 3 R R<|J 2 R R R) (fun h24 K' J=>Ba R R R R R (Af R)<|Ba R R R R R (Cr Cb R R)<|Aa R R (Bs false R R R)<|J 2 R R R)<|Aa R R (Af R)<|Bt hm 6 48 42 R (fun _ K' h25 J hm=>Ad tbk [] 6 R R<|J 5 R R (Bj hm)) (fun _ K' h25 J hm=>Ba R R R R R (Af R)<|absurd hm nofun) fun c2 hm=>Ac<|Ao hm R (fun h27 hm=>?_) fun h27 hm=> ?_
   ·refine Ag tbk [] R R<|?_
    obtain rfl:=Option.some.inj hm
    exact Bu ⟨.inl R,_,.cons (.tmp _ _ R) .nil,[2,3],_,R,bs3,bs4,R,R⟩
   exact Am<|Ae<|Aa R R (Af R)<|Aa R R (Bl pl23 R R)<|Aa R R (Bl pl29 R R)<|Ab R R<|VO.cn hm 0 [.same,.agg [none,none,none,none,none,none,some 232,some 232,some 189,some 191,some 3,some 232,none,some 232]] R fn12 R (K50 _) fun r4 hm=>Ac<|Ae<|Aa R R (Af R)<|absurd hm nofun
 ·rw [h185]
  refine Ad tbk [] 5 R R<|Ac<|Ae<|Bd hm fun r5 h31 hm=>Ab R R<|Aq 0 R fn38 R (K48 (1 : Int) r5 h31) fun _ _ h184=> ?_
  obtain ⟨b6,ob8,cap8,rfl,rfl⟩:=h184
  rcases po_or hm with ⟨h183,hm⟩ | ⟨x3,h183,hm⟩
  ·rw [h183]
   refine Ad tbk [] 5 R R<|Ac<|Ah<|Ae<|Ad tbk [] 3 R R<|Cu tbk [] 3 33 30 R R R R R<|Aa R R (Af R)<|C9 3 37 34 R (fun K' J=>Ad tbk [] 3 R R<|J 2 R R R) (fun h35 K' J=>Ba R R R R R (Af R)<|Ba R R R R R (Cr Co R R)<|Aa R R (Bs false R R R)<|J 2 R R R)<|Aa R R (Af R)<|C9 3 41 38 R (fun K' J=>Ad tbk [] 3 R R<|J 2 R R R) (fun h36 K' J=>Ba R R R R R (Af R)<|Ba R R R R R (Cr Cb R R)<|Aa R R (Bs false R R R)<|J 2 R R R)<|Aa R R (Af R)<|C9 6 48 42 R (fun K' J=>Ad tbk [] 6 R R<|J 5 R R R) (fun h37 K' J=>Ad tbk [0] 4 R R<|Ba R R R R R (Cr C3 R R)<|Aa R R (Bs false R R R)<|J 5 R R R)<|Ac<|Ao hm R (fun h38 hm=>?_) fun h38 hm=> ?_
   ·refine Ag tbk [] R R<|?_
    obtain rfl:=Option.some.inj hm
    exact Bu ⟨.inl R,_,.cons (.tmp _ _ R) .nil,[9,10],_,R,bs3,bs4,R,R⟩
   refine Am<|Ae<|Aa R R (Af R)<|Aa R R (Bl pl23 R R)<|Aa R R (Bl pl29 R R)<|Bd hm fun r6 h39 hm=>Ab R R<|VO.callN 9 [.same,.agg [none,none,none,none,none,none,some 232,some 232,some 189,some 191,some 3,some 232,none,some 232]] R fn12 R (K63 A0 A1 x.1 x.2 (⟨(⟨#[112]⟩ : ByteArray),(⟨(600 : Int),(0 : Int),(0 : Int),(1 : Int),(0 : Int)⟩ : T_api_Res),([] : List T_api_Label),([] : List T_api_Label),([] : List T_api_Term),([] : List T_api_Toleration),([] : List Int),([] : List T_api_Label),false,([] : List T_api_Label),(0 : Int),(0 : Int),(⟨#[115]⟩ : ByteArray),false,false,false⟩ : T_api_Pod) b2 ob3 cap3 ob4 cap4 ob5 cap5 ob6 cap6 b4 b3 ob cap ob2 cap2 r6 h39) fun _ _ h105=> ?_
   obtain ⟨ob9,cap9,ob10,cap10,ob11,cap11,ob12,cap12,b7,rfl,rfl⟩:=h105
   refine Ac<|Ae<|Ad tbk [0] 4 R R<|Bd hm fun r7 h40 hm=>Au (A5 [6,7,8,9,10,0,1,2,3,4,5] R)<|Ab R R<|Aq 5 R fn24 R (K66 A0 A1 x.2 (⟨#[103]⟩ : ByteArray) (1 : Int) r.2.2.1 r.2.2.2 b3 ob cap ob2 cap2 bs3 bs4 r7 h40) fun _ _ h104=> ?_
   obtain ⟨ob13,cap13,ob14,cap14,bs5,bs6,rfl,rfl⟩:=h104
   refine Ac<|Ae<|Aa R R (Af R)<|Bd hm fun r8 h41 hm=>Au (A5 [5,6,7,8,9,10,0,1,2,3,4] R)<|Ab R R<|Aq 11 R fn11 R (K132 A0 A1 r6.2 r7.2.1 r7.2.2.1 r7.2.2.2 b2 ob9 cap9 ob10 cap10 ob11 cap11 ob12 cap12 b7 b3 ob13 cap13 ob14 cap14 bs5 bs6 r8 h41) fun _ _ h103=> ?_
   obtain ⟨ob15,cap15,ob16,cap16,ob17,cap17,ob18,cap18,b8,ob19,cap19,ob20,cap20,bs7,rfl,rfl⟩:=h103
   refine Ac<|Ae<|Ad tbk [] 2 R R<|Ab R R<|Ay hm 9 R fn39 R (K134 A0 A1 _ _ _ _ _ _ _ _ _ _ _ _ _ _ _ _ _ _) fun r9 hm=>Aa R R (Ai R)<|Ac<|Ae<|Ad tbk [] 2 R R<|Ab R R<|Ay hm 9 R fn39 R (K134 A0 A1 _ _ _ _ _ _ _ _ _ _ _ _ _ _ _ _ _ _) fun r10 hm=>Aa R R (Ai R)<|Ac<|Ae<|Ad tbk [] 2 R R<|Ab R R<|Ay hm 9 R fn39 R (K134 A0 A1 _ _ _ _ _ _ _ _ _ _ _ _ _ _ _ _ _ _) fun r11 hm=>Aa R R (Ai R)<|Ac<|Ae<|Ad tbk [] 2 R R<|Ab R R<|B6 hm 11 R fn42 R (K135 A0 A1 _ _ _ _ _ _ _ _ _ _ _ _ _ _ _ _ _ _ _ _ _) fun r12 ob21 cap21 hm=>Au (Av 0 [(71,L9 r12)] R ⟨⟨_,R,.here _ R⟩,trivial⟩ (FzH.refl _))<|Aa R R (Ai R)<|Ac<|Ae<|Aa R R (Af R)<|Ab R R<|Ay hm 0 R fn47 R (K137) fun r13 hm=>Aa R R (Ai R)<|Ac<|Ae<|Aa R R (Af R)<|Bd hm fun r14 h48 hm=>Ab R R<|Aq 11 R fn11 R (K132 A0 A1 r8.1 r8.2.1 r7.2.2.1 r8.2.2 b2 ob15 cap15 ob16 cap16 ob17 cap17 ob18 cap18 b8 b3 ob19 cap19 ob20 cap20 bs5 bs7 r14 h48) fun _ _ h102=> ?_
   obtain ⟨ob22,cap22,ob23,cap23,ob24,cap24,ob25,cap25,b9,ob26,cap26,ob27,cap27,bs8,rfl,rfl⟩:=h102
   refine Ac<|Ae<|Ad tbk [] 2 R R<|Ab R R<|B6 hm 11 R fn42 R (K135 A0 A1 _ _ _ _ _ _ _ _ _ _ _ _ _ _ _ _ _ _ _ _ _) fun r15 ob28 cap28 hm=>Au (Av 0 [(78,L9 r15)] R ⟨⟨_,R,.here _ R⟩,trivial⟩ (FzH.refl _))<|Aa R R (Ai R)<|Ac<|Ae<|Aa R R (Af R)<|Ab R R<|B6 hm 9 R fn20 R (K138 A0 A1 _ _ _ _ _ _ _ _ _ _ _ _ _ _ _ _ _) fun r16 ob29 cap29 hm=>Au (Av 0 [(80,L64 r16)] R ⟨⟨_,R,.here _ R⟩,trivial⟩ (FzH.refl _))<|Aa R R (Ai R)<|Ac<|Ae<|Bd hm fun r17 h53 hm=>Ab R R<|Aq 0 R fn38 R (K48 (-1 : Int) r17 h53) fun _ _ h101=> ?_
   obtain ⟨b10,ob30,cap30,rfl,rfl⟩:=h101
   rcases po_or hm with ⟨h100,hm⟩ | ⟨x4,h100,hm⟩
   ·rw [h100]
    refine Ad tbk [] 5 R R<|Ac<|Ae<|Ad tbk [] 3 R R<|Cl tbk [] 3 90 87 R R R R R<|Aa R R (Af R)<|Cl tbk [] 3 94 91 R R R R R<|Aa R R (Af R)<|Bt hm 4 99 95 R (fun _ K' h58 J hm=>Ba R R R R R (Af R)<|A8 R R R R R<|Ax ap61 R R R R R fun b11=>Au (Av 0 [(97,L9 [(⟨#[101,118,105,99,116,32,112]⟩ : ByteArray),(⟨#[100,101,108,101,116,101,32,103,45,49]⟩ : ByteArray)])] R ⟨⟨_,R,.here _ R⟩,trivial⟩ (FzH.refl _))<|A8 R R R R R<|Ay hm 0 R fn51 R (K139 _ _) fun r18 hm=>Aa R R (Bs true R R R)<|J 4 R R (Bj hm)) (fun _ K' h58 J hm=>Ad tbk [] 4 R R<|J 3 R R (Bj hm)) fun c3 hm=>Aa R R (Af R)<|Bt hm 4 104 100 R (fun _ K' h62 J hm=>Ba R R R R R (Af R)<|A8 R R R R R<|Ax ap61 R R R R R fun b12=>Au (Av 0 [(102,L9 [(⟨#[103,45,49]⟩ : ByteArray)])] R ⟨⟨_,R,.here _ R⟩,trivial⟩ (FzH.refl _))<|A8 R R R R R<|Ay hm 0 R fn51 R (K139 _ _) fun r19 hm=>Aa R R (Bs true R R R)<|J 4 R R (Bj hm)) (fun _ K' h62 J hm=>Ad tbk [] 4 R R<|J 3 R R (Bj hm)) fun c4 hm=>Aa R R (Af R)<|Bt hm 4 109 105 R (fun _ K' h66 J hm=>Ba R R R R R (Af R)<|A8 R R R R R<|Ax ap61 R R R R R fun b13=>Au (Av 0 [(107,L9 [(⟨#[103,111,110,101,32,103,45,49]⟩ : ByteArray)])] R ⟨⟨_,R,.here _ R⟩,trivial⟩ (FzH.refl _))<|A8 R R R R R<|Ay hm 0 R fn51 R (K139 _ _) fun r20 hm=>Aa R R (Bs true R R R)<|J 4 R R (Bj hm)) (fun _ K' h66 J hm=>Ad tbk [] 4 R R<|J 3 R R (Bj hm)) fun c5 hm=>Aa R R (Af R)<|Bt hm 5 115 110 R (fun _ K' h70 J hm=>Ba R R R R R (Af R)<|A8 R R R R R<|Ay hm 0 R fn41 R (K141) fun r21 hm=>Ba R R R R R (Be VV.str R Bm)<|Ad tbk [] 2 R R<|J 4 R R (Bj hm)) (fun _ K' h70 J hm=>Ad tbk [] 5 R R<|J 4 R R (Bj hm)) fun c6 hm=>Aa R R (Af R)<|Dz 4 120 116 R (fun h73 K' J=>Ba R R R R R (Af R)<|Ba R R R R R (Be T_api_Bound.vv R B7)<|Ad tbk [] 2 R R<|J 3 R R R) (fun K' J=>Ad tbk [] 4 R R<|J 3 R R R)<|Aa R R (Af R)<|Bt hm 6 127 121 R (fun _ K' h74 J hm=>Ba R R R R R (Af R)<|Bd hm fun x5 h75 hm=>Ba R R R R R (Cp T_api_Bound.vv R R el40 h75)<|Ad tbk [] 4 R R<|J 5 R R (Bj hm)) (fun _ K' h74 J hm=>Ad tbk [] 6 R R<|J 5 R R (Bj hm)) fun c7 hm=>Aa R R (Af R)<|Cl tbk [] 3 131 128 R R R R R<|Aa R R (Af R)<|Aa R R (Ef VV.bool R R R)<|Aa R R (Ai R)<|Ac<|?_
    obtain rfl:=Option.some.inj hm
    exact Bu ⟨.inl R,_,.cons (.tmp _ _ R) .nil,[9,10],_,R,bs5,bs8,R,R⟩
   ·rw [h100]
    refine Ad tbk [] 5 R R<|Ac<|Ae<|Ad tbk [] 3 R R<|Cl tbk [] 3 90 87 R R R R R<|Aa R R (Af R)<|Cl tbk [] 3 94 91 R R R R R<|Aa R R (Af R)<|Bt hm 4 99 95 R (fun _ K' h80 J hm=>Ba R R R R R (Af R)<|A8 R R R R R<|Ax ap61 R R R R R fun b14=>Au (Av 0 [(97,L9 [(⟨#[101,118,105,99,116,32,112]⟩ : ByteArray),(⟨#[100,101,108,101,116,101,32,103,45,49]⟩ : ByteArray)])] R ⟨⟨_,R,.here _ R⟩,trivial⟩ (FzH.refl _))<|A8 R R R R R<|Ay hm 0 R fn51 R (K139 _ _) fun r22 hm=>Aa R R (Bs true R R R)<|J 4 R R (Bj hm)) (fun _ K' h80 J hm=>Ad tbk [] 4 R R<|J 3 R R (Bj hm)) fun c8 hm=>Aa R R (Af R)<|Bt hm 4 104 100 R (fun _ K' h84 J hm=>Ba R R R R R (Af R)<|A8 R R R R R<|Ax ap61 R R R R R fun b15=>Au (Av 0 [(102,L9 [(⟨#[103,45,49]⟩ : ByteArray)])] R ⟨⟨_,R,.here _ R⟩,trivial⟩ (FzH.refl _))<|A8 R R R R R<|Ay hm 0 R fn51 R (K139 _ _) fun r23 hm=>Aa R R (Bs true R R R)<|J 4 R R (Bj hm)) (fun _ K' h84 J hm=>Ad tbk [] 4 R R<|J 3 R R (Bj hm)) fun c9 hm=>Aa R R (Af R)<|Bt hm 4 109 105 R (fun _ K' h88 J hm=>Ba R R R R R (Af R)<|A8 R R R R R<|Ax ap61 R R R R R fun b16=>Au (Av 0 [(107,L9 [(⟨#[103,111,110,101,32,103,45,49]⟩ : ByteArray)])] R ⟨⟨_,R,.here _ R⟩,trivial⟩ (FzH.refl _))<|A8 R R R R R<|Ay hm 0 R fn51 R (K139 _ _) fun r24 hm=>Aa R R (Bs true R R R)<|J 4 R R (Bj hm)) (fun _ K' h88 J hm=>Ad tbk [] 4 R R<|J 3 R R (Bj hm)) fun c10 hm=>Aa R R (Af R)<|Bt hm 5 115 110 R (fun _ K' h92 J hm=>Ba R R R R R (Af R)<|A8 R R R R R<|Ay hm 0 R fn41 R (K141) fun r25 hm=>Ba R R R R R (Be VV.str R Bm)<|Ad tbk [] 2 R R<|J 4 R R (Bj hm)) (fun _ K' h92 J hm=>Ad tbk [] 5 R R<|J 4 R R (Bj hm)) fun c11 hm=>Aa R R (Af R)<|Dz 4 120 116 R (fun h95 K' J=>Ba R R R R R (Af R)<|Ba R R R R R (Be T_api_Bound.vv R B7)<|Ad tbk [] 2 R R<|J 3 R R R) (fun K' J=>Ad tbk [] 4 R R<|J 3 R R R)<|Aa R R (Af R)<|Bt hm 6 127 121 R (fun _ K' h96 J hm=>Ba R R R R R (Af R)<|Bd hm fun x6 h97 hm=>Ba R R R R R (Cp T_api_Bound.vv R R el40 h97)<|Ad tbk [] 4 R R<|J 5 R R (Bj hm)) (fun _ K' h96 J hm=>Ad tbk [] 6 R R<|J 5 R R (Bj hm)) fun c12 hm=>Aa R R (Af R)<|Cl tbk [] 3 131 128 R R R R R<|Aa R R (Af R)<|Aa R R (Ef VV.bool R R R)<|Aa R R (Ai R)<|?_
    refine Ac<|?_
    obtain rfl:=Option.some.inj hm
    exact Bu ⟨.inl R,_,.cons (.tmp _ _ R) .nil,[11,12],_,R,bs5,bs8,R,R⟩
  ·rw [h183]
   refine Ad tbk [] 5 R R<|Ac<|Ah<|Ae<|Ad tbk [] 3 R R<|Cu tbk [] 3 33 30 R R R R R<|Aa R R (Af R)<|C9 3 37 34 R (fun K' J=>Ad tbk [] 3 R R<|J 2 R R R) (fun h107 K' J=>Ba R R R R R (Af R)<|Ba R R R R R (Cr Co R R)<|Aa R R (Bs false R R R)<|J 2 R R R)<|Aa R R (Af R)<|C9 3 41 38 R (fun K' J=>Ad tbk [] 3 R R<|J 2 R R R) (fun h108 K' J=>Ba R R R R R (Af R)<|Ba R R R R R (Cr Cb R R)<|Aa R R (Bs false R R R)<|J 2 R R R)<|Aa R R (Af R)<|C9 6 48 42 R (fun K' J=>Ad tbk [] 6 R R<|J 5 R R R) (fun h109 K' J=>Ad tbk [2] 4 R R<|Ba R R R R R (Cr C3 R R)<|Aa R R (Bs false R R R)<|J 5 R R R)<|Ac<|Ao hm R (fun h110 hm=>?_) fun h110 hm=> ?_
   ·refine Ag tbk [] R R<|?_
    obtain rfl:=Option.some.inj hm
    exact Bu ⟨.inl R,_,.cons (.tmp _ _ R) .nil,[11,12],_,R,bs3,bs4,R,R⟩
   refine Am<|Ae<|Aa R R (Af R)<|Aa R R (Bl pl23 R R)<|Aa R R (Bl pl29 R R)<|Bd hm fun r26 h111 hm=>Au (A5 [2,3,4,5,6,7,8,9,10,0,1,11,12] R)<|Ab R R<|VO.callN 9 [.same,.agg [none,none,none,none,none,none,some 232,some 232,some 189,some 191,some 3,some 232,none,some 232]] R fn12 R (K63 A0 A1 x.1 x.2 (⟨(⟨#[112]⟩ : ByteArray),(⟨(600 : Int),(0 : Int),(0 : Int),(1 : Int),(0 : Int)⟩ : T_api_Res),([] : List T_api_Label),([] : List T_api_Label),([] : List T_api_Term),([] : List T_api_Toleration),([] : List Int),([] : List T_api_Label),false,([] : List T_api_Label),(0 : Int),(0 : Int),(⟨#[115]⟩ : ByteArray),false,false,false⟩ : T_api_Pod) b2 ob3 cap3 ob4 cap4 ob5 cap5 ob6 cap6 b4 b3 ob cap ob2 cap2 r26 h111) fun _ _ h182=> ?_
   obtain ⟨ob31,cap31,ob32,cap32,ob33,cap33,ob34,cap34,b17,rfl,rfl⟩:=h182
   refine Ac<|Ae<|Ad tbk [0] 4 R R<|Bd hm fun r27 h112 hm=>Au (A5 [6,7,8,11,12,0,1,2,3,4,5,9,10] R)<|Ab R R<|Aq 5 R fn24 R (K66 A0 A1 x.2 (⟨#[103]⟩ : ByteArray) (1 : Int) r.2.2.1 r.2.2.2 b3 ob cap ob2 cap2 bs3 bs4 r27 h112) fun _ _ h181=> ?_
   obtain ⟨ob35,cap35,ob36,cap36,bs9,bs10,rfl,rfl⟩:=h181
   refine Ac<|Ae<|Aa R R (Af R)<|Bd hm fun r28 h113 hm=>Au (A5 [5,6,7,8,9,10,0,1,2,3,4,11,12] R)<|Ab R R<|Aq 11 R fn11 R (K132 A0 A1 r26.2 r27.2.1 r27.2.2.1 r27.2.2.2 b2 ob31 cap31 ob32 cap32 ob33 cap33 ob34 cap34 b17 b3 ob35 cap35 ob36 cap36 bs9 bs10 r28 h113) fun _ _ h180=> ?_
   obtain ⟨ob37,cap37,ob38,cap38,ob39,cap39,ob40,cap40,b18,ob41,cap41,ob42,cap42,bs11,rfl,rfl⟩:=h180
   refine Ac<|Ae<|Ad tbk [] 2 R R<|Bd hm fun r29 h114 hm=>Au (A5 [11,12,0,1,2,3,4,5,6,7,8,9,10] R)<|Ab R R<|Aq 11 R fn39 R (K152 A0 A1 x3 r28.1 r28.2.1 (⟨#[103,45,49]⟩ : ByteArray) b6 ob8 cap8 b2 ob37 cap37 ob38 cap38 ob39 cap39 ob40 cap40 b18 b3 ob41 cap41 ob42 cap42 r29 h114) fun _ _ h179=> ?_
   obtain ⟨ob43,cap43,ob44,cap44,ob45,cap45,ob46,cap46,ob47,cap47,b19,rfl,rfl⟩:=h179
   refine Aa R R (Ai R)<|Ac<|Ae<|Ad tbk [] 2 R R<|Bd hm fun r30 h115 hm=>Ab R R<|Aq 11 R fn39 R (K152 A0 A1 r29.2.1 r29.2.2 r28.2.1 (⟨#[103,45,49]⟩ : ByteArray) b6 ob43 cap43 b2 ob44 cap44 ob45 cap45 ob46 cap46 ob47 cap47 b19 b3 ob41 cap41 ob42 cap42 r30 h115) fun _ _ h178=> ?_
   obtain ⟨ob48,cap48,ob49,cap49,ob50,cap50,ob51,cap51,ob52,cap52,b20,rfl,rfl⟩:=h178
   refine Aa R R (Ai R)<|Ac<|Ae<|Ad tbk [] 2 R R<|Bd hm fun r31 h116 hm=>Ab R R<|Aq 11 R fn39 R (K152 A0 A1 r30.2.1 r30.2.2 r28.2.1 (⟨#[120]⟩ : ByteArray) b6 ob48 cap48 b2 ob49 cap49 ob50 cap50 ob51 cap51 ob52 cap52 b20 b3 ob41 cap41 ob42 cap42 r31 h116) fun _ _ h177=> ?_
   obtain ⟨ob53,cap53,ob54,cap54,ob55,cap55,ob56,cap56,ob57,cap57,b21,rfl,rfl⟩:=h177
   refine Aa R R (Ai R)<|Ac<|Ae<|Ad tbk [] 2 R R<|Bd hm fun r32 h117 hm=>Ab R R<|Aq 13 R fn42 R (K170 A0 A1 r31.2.1 r31.2.2 r28.2.1 r27.2.2.1 r28.2.2 b6 ob53 cap53 b2 ob54 cap54 ob55 cap55 ob56 cap56 ob57 cap57 b21 b3 ob41 cap41 ob42 cap42 bs9 bs11 r32 h117) fun _ _ h176=> ?_
   obtain ⟨ob58,cap58,ob59,cap59,ob60,cap60,ob61,cap61,ob62,cap62,ob63,cap63,b22,ob64,cap64,ob65,cap65,bs12,bs13,rfl,rfl⟩:=h176
   refine Au (Av 0 [(71,L9 r32.1)] R ⟨⟨_,R,.here _ R⟩,trivial⟩ (FzH.refl _))<|Aa R R (Ai R)<|Ac<|Ae<|Aa R R (Af R)<|Ab R R<|Ay hm 2 R fn47 R (K173 _ _ _ _) fun r33 hm=>Aa R R (Ai R)<|Ac<|Ae<|Aa R R (Af R)<|Bd hm fun r34 h120 hm=>Au (A5 [2,3,4,5,6,7,8,9,10,11,12,0,1] R)<|Ab R R<|Aq 11 R fn11 R (K132 A0 A1 r32.2.2.1 r32.2.2.2.1 r32.2.2.2.2.1 r32.2.2.2.2.2 b2 ob60 cap60 ob61 cap61 ob62 cap62 ob63 cap63 b22 b3 ob64 cap64 ob65 cap65 bs12 bs13 r34 h120) fun _ _ h175=> ?_
   obtain ⟨ob66,cap66,ob67,cap67,ob68,cap68,ob69,cap69,b23,ob70,cap70,ob71,cap71,bs14,rfl,rfl⟩:=h175
   refine Ac<|Ae<|Ad tbk [] 2 R R<|Bd hm fun r35 h121 hm=>Au (A5 [11,12,0,1,2,3,4,5,6,7,8,9,10] R)<|Ab R R<|Aq 13 R fn42 R (K170 A0 A1 r32.2.1 r34.1 r34.2.1 r32.2.2.2.2.1 r34.2.2 b6 ob59 cap59 b2 ob66 cap66 ob67 cap67 ob68 cap68 ob69 cap69 b23 b3 ob70 cap70 ob71 cap71 bs12 bs14 r35 h121) fun _ _ h174=> ?_
   obtain ⟨ob72,cap72,ob73,cap73,ob74,cap74,ob75,cap75,ob76,cap76,ob77,cap77,b24,ob78,cap78,ob79,cap79,bs15,bs16,rfl,rfl⟩:=h174
   refine Au (Av 0 [(78,L9 r35.1)] R ⟨⟨_,R,.here _ R⟩,trivial⟩ (FzH.refl _))<|Aa R R (Ai R)<|Ac<|Ae<|Aa R R (Af R)<|Au (A5 [2,3,4,5,6,7,8,9,10,0,1,11,12] R)<|Ab R R<|B6 hm 9 R fn20 R (K138 A0 A1 _ _ _ _ _ _ _ _ _ _ _ _ _ _ _ _ _) fun r36 ob80 cap80 hm=>Au (Av 0 [(80,L64 r36)] R ⟨⟨_,R,.here _ R⟩,trivial⟩ (FzH.refl _))<|Aa R R (Ai R)<|Ac<|Ae<|Bd hm fun r37 h125 hm=>Ab R R<|Aq 0 R fn38 R (K48 (-1 : Int) r37 h125) fun _ _ h173=> ?_
   obtain ⟨b25,ob81,cap81,rfl,rfl⟩:=h173
   rcases po_or hm with ⟨h172,hm⟩ | ⟨x7,h172,hm⟩
   ·rw [h172]
    refine Ad tbk [] 5 R R<|Ac<|Ae<|Ad tbk [] 3 R R<|Cl tbk [] 3 90 87 R R R R R<|Aa R R (Af R)<|Cl tbk [] 3 94 91 R R R R R<|Aa R R (Af R)<|Bt hm 4 99 95 R (fun _ K' h130 J hm=>Ba R R R R R (Af R)<|A8 R R R R R<|Ax ap61 R R R R R fun b26=>Au (Av 0 [(97,L9 [(⟨#[101,118,105,99,116,32,112]⟩ : ByteArray),(⟨#[100,101,108,101,116,101,32,103,45,49]⟩ : ByteArray)])] R ⟨⟨_,R,.here _ R⟩,trivial⟩ (FzH.refl _))<|A8 R R R R R<|Ay hm 0 R fn51 R (K139 _ _) fun r38 hm=>Aa R R (Bs true R R R)<|J 4 R R (Bj hm)) (fun _ K' h130 J hm=>Ad tbk [] 4 R R<|J 3 R R (Bj hm)) fun c13 hm=>Aa R R (Af R)<|Bt hm 4 104 100 R (fun _ K' h134 J hm=>Ba R R R R R (Af R)<|A8 R R R R R<|Ax ap61 R R R R R fun b27=>Au (Av 0 [(102,L9 [(⟨#[103,45,49]⟩ : ByteArray)])] R ⟨⟨_,R,.here _ R⟩,trivial⟩ (FzH.refl _))<|A8 R R R R R<|Ay hm 0 R fn51 R (K139 _ _) fun r39 hm=>Aa R R (Bs true R R R)<|J 4 R R (Bj hm)) (fun _ K' h134 J hm=>Ad tbk [] 4 R R<|J 3 R R (Bj hm)) fun c14 hm=>Aa R R (Af R)<|Bt hm 4 109 105 R (fun _ K' h138 J hm=>Ba R R R R R (Af R)<|A8 R R R R R<|Ax ap61 R R R R R fun b28=>Au (Av 0 [(107,L9 [(⟨#[103,111,110,101,32,103,45,49]⟩ : ByteArray)])] R ⟨⟨_,R,.here _ R⟩,trivial⟩ (FzH.refl _))<|A8 R R R R R<|Ay hm 0 R fn51 R (K139 _ _) fun r40 hm=>Aa R R (Bs true R R R)<|J 4 R R (Bj hm)) (fun _ K' h138 J hm=>Ad tbk [] 4 R R<|J 3 R R (Bj hm)) fun c15 hm=>Aa R R (Af R)<|Bt hm 5 115 110 R (fun _ K' h142 J hm=>Ba R R R R R (Af R)<|Au (A5 [9,10,0,1,2,3,4,5,6,7,8,11,12] R)<|A8 R R R R R<|Ay hm 2 R fn41 R (K176 _ _ _ _) fun r41 hm=>Ba R R R R R (Be VV.str R Bm)<|Ad tbk [] 2 R R<|Au (A5 [2,3,4,5,6,7,8,9,10,0,1,11,12] R)<|J 4 R R (Bj hm)) (fun _ K' h142 J hm=>Ad tbk [] 5 R R<|J 4 R R (Bj hm)) fun c16 hm=>Aa R R (Af R)<|Dz 4 120 116 R (fun h145 K' J=>Ba R R R R R (Af R)<|Ba R R R R R (Be T_api_Bound.vv R B7)<|Ad tbk [] 2 R R<|J 3 R R R) (fun K' J=>Ad tbk [] 4 R R<|J 3 R R R)<|Aa R R (Af R)<|Bt hm 6 127 121 R (fun _ K' h146 J hm=>Ba R R R R R (Af R)<|Bd hm fun x8 h147 hm=>Ba R R R R R (Cp T_api_Bound.vv R R el40 h147)<|Ad tbk [] 4 R R<|J 5 R R (Bj hm)) (fun _ K' h146 J hm=>Ad tbk [] 6 R R<|J 5 R R (Bj hm)) fun c17 hm=>Aa R R (Af R)<|?_
    refine Cl tbk [] 3 131 128 R R R R R<|Aa R R (Af R)<|Aa R R (Ef VV.bool R R R)<|Aa R R (Ai R)<|Ac<|?_
    obtain rfl:=Option.some.inj hm
    exact Bu ⟨.inl R,_,.cons (.tmp _ _ R) .nil,[11,12],_,R,bs15,bs16,R,R⟩
   ·rw [h172]
    refine Ad tbk [] 5 R R<|Ac<|Ae<|Ad tbk [] 3 R R<|Cl tbk [] 3 90 87 R R R R R<|Aa R R (Af R)<|Cl tbk [] 3 94 91 R R R R R<|Aa R R (Af R)<|Bt hm 4 99 95 R (fun _ K' h152 J hm=>Ba R R R R R (Af R)<|A8 R R R R R<|Ax ap61 R R R R R fun b29=>Au (Av 0 [(97,L9 [(⟨#[101,118,105,99,116,32,112]⟩ : ByteArray),(⟨#[100,101,108,101,116,101,32,103,45,49]⟩ : ByteArray)])] R ⟨⟨_,R,.here _ R⟩,trivial⟩ (FzH.refl _))<|A8 R R R R R<|Ay hm 0 R fn51 R (K139 _ _) fun r42 hm=>Aa R R (Bs true R R R)<|J 4 R R (Bj hm)) (fun _ K' h152 J hm=>Ad tbk [] 4 R R<|J 3 R R (Bj hm)) fun c18 hm=>Aa R R (Af R)<|Bt hm 4 104 100 R (fun _ K' h156 J hm=>Ba R R R R R (Af R)<|A8 R R R R R<|Ax ap61 R R R R R fun b30=>Au (Av 0 [(102,L9 [(⟨#[103,45,49]⟩ : ByteArray)])] R ⟨⟨_,R,.here _ R⟩,trivial⟩ (FzH.refl _))<|A8 R R R R R<|Ay hm 0 R fn51 R (K139 _ _) fun r43 hm=>Aa R R (Bs true R R R)<|J 4 R R (Bj hm)) (fun _ K' h156 J hm=>Ad tbk [] 4 R R<|J 3 R R (Bj hm)) fun c19 hm=>Aa R R (Af R)<|Bt hm 4 109 105 R (fun _ K' h160 J hm=>Ba R R R R R (Af R)<|A8 R R R R R<|Ax ap61 R R R R R fun b31=>Au (Av 0 [(107,L9 [(⟨#[103,111,110,101,32,103,45,49]⟩ : ByteArray)])] R ⟨⟨_,R,.here _ R⟩,trivial⟩ (FzH.refl _))<|A8 R R R R R<|Ay hm 0 R fn51 R (K139 _ _) fun r44 hm=>Aa R R (Bs true R R R)<|J 4 R R (Bj hm)) (fun _ K' h160 J hm=>Ad tbk [] 4 R R<|J 3 R R (Bj hm)) fun c20 hm=>Aa R R (Af R)<|Bt hm 5 115 110 R (fun _ K' h164 J hm=>Ba R R R R R (Af R)<|Au (A5 [11,12,0,1,2,3,4,5,6,7,8,9,10,13,14] R)<|A8 R R R R R<|Ay hm 2 R fn41 R (K176 _ _ _ _) fun r45 hm=>Ba R R R R R (Be VV.str R Bm)<|Ad tbk [] 2 R R<|Au (A5 [2,3,4,5,6,7,8,9,10,11,12,0,1,13,14] R)<|J 4 R R (Bj hm)) (fun _ K' h164 J hm=>Ad tbk [] 5 R R<|J 4 R R (Bj hm)) fun c21 hm=>Aa R R (Af R)<|Dz 4 120 116 R (fun h167 K' J=>Ba R R R R R (Af R)<|Ba R R R R R (Be T_api_Bound.vv R B7)<|Ad tbk [] 2 R R<|J 3 R R R) (fun K' J=>Ad tbk [] 4 R R<|J 3 R R R)<|Aa R R (Af R)<|Bt hm 6 127 121 R (fun _ K' h168 J hm=>Ba R R R R R (Af R)<|Bd hm fun x9 h169 hm=>Ba R R R R R (Cp T_api_Bound.vv R R el40 h169)<|Ad tbk [] 4 R R<|J 5 R R (Bj hm)) (fun _ K' h168 J hm=>Ad tbk [] 6 R R<|J 5 R R (Bj hm)) fun c22 hm=>Aa R R (Af R)<|?_
    refine Cl tbk [] 3 131 128 R R R R R<|Aa R R (Af R)<|Aa R R (Ef VV.bool R R R)<|Aa R R (Ai R)<|Ac<|?_
    obtain rfl:=Option.some.inj hm
    exact Bu ⟨.inl R,_,.cons (.tmp _ _ R) .nil,[13,14],_,R,bs15,bs16,R,R⟩

/-! (*trireme/drain.Table).Start -/
def drain_Table_Start_x_x (name : ByteArray) : Option Int :=
 (drain_Table_there).bind fun r =>
 some 23
theorem K178 (name : ByteArray) : VS Tryz.prog 39 (drain_Table_Start_x_x name) [.nilptr, .nilptr, .str name] [] Iw N0 := by
 refine A7 [.tmp 6] Dg R R R fun r hm=>?_
 unfold drain_Table_Start_x_x at hm
 refine Ag tbk [] R R<|Ah<|A4<|Ae<|Aa R R (Af R)<|Bd hm fun r h1 hm=>Ab R R<|Aq 0 R fn111 R (K133 r h1) fun _ _ h2=> ?_
 obtain ⟨rfl,rfl⟩:=h2
 exact Ad tbk [] 2 R R<|C1 R R R R (congrArg not (Option.some.inj (show some false = some r from h1)).symm)<|C1 R R R R (congrArg not (Option.some.inj (show some false = some r from h1)).symm)<|C1 R R R R (congrArg not (Option.some.inj (show some false = some r from h1)).symm)<|Aa R R (Bs true R (congrArg not (Option.some.inj (show some false = some r from h1)).symm) R)<|Aa R R (Ai R)<|Ac<|Bk R R<|Ag tbk [] R R<|Rt1 hm R [] R R R

/-! trireme/drain.is -/
def drain_is_x (w : T_world_World) : Option Bool :=
 some false
theorem K179 (w : T_world_World) (b : Nat) : VS Tryz.prog 112 (drain_is_x w) [.ptr b 0] [.box b 43 [.nilptr, L139 w.groups, L103 w.budgets, L68 w.ms, L64 w.bs, .nilmap]] .bool (fun r=>[.box b 43 [.nilptr, L139 w.groups, L103 w.budgets, L68 w.ms, L64 w.bs, .nilmap]]) := by
 refine A7 [.tmp 2] D9 R R R fun r hm=>?_
 unfold drain_is_x at hm
 exact Ag tbk [] R R<|Ae<|Aa R R (Af R)<|Aa R R (C5 Co R R)<|Ad tbk [0] 5 R R<|Ba R R R R R (C5 C3 R R)<|Ad tbk [] 2 R R<|Ac<|Rt1 hm R [0] R R R

/-! (*trireme/world.World).there -/
def world_World_there_x_x (w : T_world_World) : Option Bool :=
 some false
theorem K180 (w : T_world_World) (b : Nat) : VS Tryz.prog 60 (world_World_there_x_x w) [.ptr b 0] [.box b 43 [.nilptr, L139 w.groups, L103 w.budgets, L68 w.ms, L64 w.bs, .nilmap]] .bool (fun r=>[.box b 43 [.nilptr, L139 w.groups, L103 w.budgets, L68 w.ms, L64 w.bs, .nilmap]]) := by
 refine A7 [.tmp 2] Ec R R R fun r hm=>?_
 unfold world_World_there_x_x at hm
 exact Ag tbk [] R R<|Ae<|Aa R R (Af R)<|Aa R R (C5 Co R R)<|Ad tbk [0] 5 R R<|Ba R R R R R (C5 C3 R R)<|Ad tbk [] 2 R R<|Ac<|Rt1 hm R [0] R R R

/-! (*trireme/world.World).Machines -/
def world_World_Machines_x (w : T_world_World) : Option (List T_api_Machine) :=
 (world_World_there_x_x w).bind fun r =>
 some ([] : List T_api_Machine)
theorem K181 (w : T_world_World) (b : Nat) : VS2 Tryz.prog 19 (world_World_Machines_x w) [.ptr b 0] [.box b 43 [.nilptr, L139 w.groups, L103 w.budgets, L68 w.ms, L64 w.bs, .nilmap]] (fun r ob0 cap0=>Z68 ob0 r cap0) (fun r ob0 cap0=>[Q68 ob0 cap0 r, .box b 43 [.nilptr, L139 w.groups, L103 w.budgets, L68 w.ms, L64 w.bs, .nilmap]]) := by
 refine Ch [.tmp 2] Ed R R R fun r hm=>?_
 unfold world_World_Machines_x at hm
 refine Ag tbk [] R R<|Ah<|Ae<|Aa R R (Af R)<|Bd hm fun r h1 hm=>Ab R R<|Aq 1 R fn60 R (K180 w b r h1) fun _ _ h3=> ?_
 obtain ⟨rfl,rfl⟩:=h3
 exact Aa R R (Cg R)<|Ac<|Bk R (congrArg not (Option.some.inj (show some false = some r from h1)).symm)<|Ag tbk [] R R<|Br (Az 68)<|Rg2 hm R [0,1] none 0 (.cons (.tmp _ _ R) .nil) R R

/-! trireme/drain.has -/
def drain_has_x (w : T_world_World) (name : ByteArray) : Option Bool :=
 (world_World_Machines_x w).bind fun r =>
 (yard_Find r name).bind fun r2 =>
 some (decide (r2 ≥ 0))
theorem K182 (w : T_world_World) (name : ByteArray) (b : Nat) : VS Tryz.prog 113 (drain_has_x w name) [.ptr b 0, .str name] [.box b 43 [.nilptr, L139 w.groups, L103 w.budgets, L68 w.ms, L64 w.bs, .nilmap]] .bool (fun r=>[.box b 43 [.nilptr, L139 w.groups, L103 w.budgets, L68 w.ms, L64 w.bs, .nilmap]]) := by
 refine A7 [.tmp 4] Ea R R R fun r hm=>?_
 unfold drain_has_x at hm
 exact Ag tbk [] R R<|Ae<|Aa R R (Af R)<|Ab R R<|B6 hm 1 R fn19 R (K181 _ _) fun r ob cap hm=>Au (Av 0 [(6,L68 r)] R ⟨⟨_,R,.here _ R⟩,trivial⟩ (FzH.refl _))<|Aa R R (Af R)<|Ab R R<|Ay hm 0 R fn72 R (K44 _ _) fun r2 hm=>Ad tbk [] 2 R R<|Ac<|Rt1 hm R [0] R R R

/-! (*trireme/world.World).on -/
def world_World_on_world_World_Taint_1_x (w : T_world_World) (name : ByteArray) (c : T_api_Taint) : Option Int :=
 (world_World_there_x_x w).bind fun r =>
 some 23
theorem K183 (w : T_world_World) (name : ByteArray) (c : T_api_Taint) (b : Nat) (b2 : Nat) : VS Tryz.prog 69 (world_World_on_world_World_Taint_1_x w name c) [.ptr b 0, .str name, .clo (.func 73) [] [.ptr b2 0]] [.box b 43 [.nilptr, L139 w.groups, L103 w.budgets, L68 w.ms, L64 w.bs, .nilmap], X31 b2 c] Iw (fun r=>[.box b 43 [.nilptr, L139 w.groups, L103 w.budgets, L68 w.ms, L64 w.bs, .nilmap], X31 b2 c]) := by
 refine A7 [.tmp 6] Dk R R R fun r hm=>?_
 unfold world_World_on_world_World_Taint_1_x at hm
 refine Ag tbk [] R R<|Ah<|Ae<|Aa R R (Af R)<|Bd hm fun r h1 hm=>Ab R R<|Aq 1 R fn60 R (K180 w b r h1) fun _ _ h2=> ?_
 obtain ⟨rfl,rfl⟩:=h2
 exact Aa R R (Cg R)<|Ac<|Bk R (congrArg not (Option.some.inj (show some false = some r from h1)).symm)<|Ag tbk [] R R<|Rt1 hm R [0,1] R R R

/-! (*trireme/world.World).Taint -/
def world_World_Taint_x (w : T_world_World) (name : ByteArray) (x : T_api_Taint) : Option Int :=
 (world_World_on_world_World_Taint_1_x w name x).bind fun r =>
 some r
theorem K184 (w : T_world_World) (name : ByteArray) (x : T_api_Taint) (b : Nat) : VS Tryz.prog 16 (world_World_Taint_x w name x) [.ptr b 0, .str name, T_api_Taint.vv x] [.box b 43 [.nilptr, L139 w.groups, L103 w.budgets, L68 w.ms, L64 w.bs, .nilmap]] Iw (fun r=>[.box b 43 [.nilptr, L139 w.groups, L103 w.budgets, L68 w.ms, L64 w.bs, .nilmap]]) := by
 refine A7 [.tmp 6] Eb R R R fun r hm=>?_
 unfold world_World_Taint_x at hm
 exact Ae<|Ab R R<|Bi R R fun b2=>Aa R R (Ai R)<|Ac<|Ae<|Ad tbk [] 2 R R<|Aa R R (Cj R R)<|Au (A5 [1,0] R)<|Ab R R<|Ay hm 2 R fn69 R (K183 _ _ _ _ _) fun r hm=>Aa R R (Ai R)<|Ac<|Rt1 hm R [0] R R R

/-! (*trireme/drain.Table).Start -/
def drain_Table_Start_x_x_x.l1 (t : T_drain_Table) (w : T_world_World) (name : ByteArray) : Nat → Int → Option (Out (Int × T_drain_Table × T_world_World) Unit)
 | 0, _ => none
 | n + 1, v2 =>
  if (decide (v2 < (t.l.length : Int))) = true then
   (V.gl t.l v2).bind fun x =>
   if (V.seq x.name name) = true then
    some (Out.ret (15, t, (⟨(), w.groups, w.budgets, w.ms, w.bs, []⟩ : T_world_World)))
   else
    drain_Table_Start_x_x_x.l1 t w name n (i64.wrap (v2 + 1))
  else
   some (Out.go ())
def drain_Table_Start_x_x_x (t : T_drain_Table) (w : T_world_World) (name : ByteArray) : Option (Int × T_drain_Table × T_world_World) :=
 (drain_Table_there_x t).bind fun r =>
 (if (!r) = true then some true else (drain_is_x w).bind fun r2 =>
 some (!r2)).bind fun c =>
 if c = true then
  some (23, t, w)
 else
  (drain_has_x w name).bind fun r3 =>
  if (!r3) = true then
   some (16, t, w)
  else
   (drain_Table_Start_x_x_x.l1 t w name FU (0 : Int)).bind fun o =>
   o.on fun j =>
   (world_World_Taint_x (⟨(), w.groups, w.budgets, w.ms, w.bs, []⟩ : T_world_World) name (⟨(⟨#[100, 114, 97, 105, 110, 105, 110, 103]⟩ : ByteArray), (⟨#[]⟩ : ByteArray), 1⟩ : T_api_Taint)).bind fun r4 =>
   if (r4 != 0) = true then
    some (r4, t, (⟨(), w.groups, w.budgets, w.ms, w.bs, []⟩ : T_world_World))
   else
    (V.ap 32 t.l [(⟨name, 0, false⟩ : T_drain_one)]).bind fun l2 =>
    some (0, (⟨l2, t.grace, t.made⟩ : T_drain_Table), (⟨(), w.groups, w.budgets, w.ms, w.bs, []⟩ : T_world_World))
theorem K185 (t : T_drain_Table) (w : T_world_World) (name : ByteArray) (b : Nat) (ob : Option Nat) (cap : Nat) (b2 : Nat) : VS2 Tryz.prog 39 (drain_Table_Start_x_x_x t w name) [.ptr b 0, .ptr b2 0, .str name] [.box b 108 [Z172 ob t.l cap, Iw t.grace, .bool t.made], Q172 ob cap t.l, .box b2 43 [.nilptr, L139 w.groups, L103 w.budgets, L68 w.ms, L64 w.bs, .nilmap]] (fun r ob0_0 cap0_0=>Iw r.1) (fun r ob0_0 cap0_0=>[.box b 108 [Z172 ob0_0 r.2.1.l cap0_0, Iw r.2.1.grace, .bool r.2.1.made], Q172 ob0_0 cap0_0 r.2.1.l, .box b2 43 [.nilptr, L139 r.2.2.groups, L103 r.2.2.budgets, L68 r.2.2.ms, L64 r.2.2.bs, .nilmap]]) := by
 refine Ch [.tmp 6] Dg R R R fun r hm=>?_
 unfold drain_Table_Start_x_x_x at hm
 refine Ag tbk [] R R<|Ah<|A4<|Ae<|Aa R R (Af R)<|Ab R R<|Ay hm 2 R fn111 R (K142 _ _ _ _) fun r hm=>Ad tbk [] 2 R R<|Bt hm 4 18 14 R (fun _ K' h2 J hm=>Ad tbk [] 4 R R<|J 3 R R (Bj hm)) (fun _ K' h2 J hm=>?_) fun c hm=> ?_
 ·refine Ba R R R R R (Af R)<|Bd hm fun r2 h3 hm=>Au (A5 [2,0,1] R)<|A8 R R R R R<|Aq 1 R fn112 R (K179 w b2 r2 h3) fun _ _ h4=> ?_
  obtain ⟨rfl,rfl⟩:=h4
  exact Ad tbk [] 2 R R<|Au (A5 [1,2,0] R)<|J 3 R R (Bj hm)
 refine Aa R R (Ai R)<|Ac<|Ao hm R (fun h6 hm=>Ag tbk [] R R<|Rg2 hm R [0,1,2] ob cap (.cons (.tmp _ _ R) .nil) R R) fun h6 hm=>Ae<|Ad tbk [] 2 R R<|Au (A5 [2,0,1] R)<|Ab R R<|Ay hm 1 R fn113 R (K182 _ _ _) fun r3 hm=>Ad tbk [] 2 R R<|Ac<|Ao hm R (fun h8 hm=>Ag tbk [] R R<|Rg2 hm R [1,2,0] ob cap (.cons (.tmp _ _ R) .nil) R R) fun h8 hm=>Am<|Ah<|Ae<|Ad tbk [1] 4 R R<|Aa R R (Cq T_drain_one.vv R Cx)<|Aa R R (Af R)<|Ac<|Cf hm (fun _ (_:Unit)=>[(0,.ptr b 0),(1,.ptr b2 0),(2,.str name)]) (fun _ (_:Unit)=>[.box b2 43 [.nilptr,L139 w.groups,L103 w.budgets,L68 w.ms,L64 w.bs,.nilmap],.box b 108 [Z172 ob t.l cap,Iw t.grace,.bool t.made],Q172 ob cap t.l]) (fun o hm h10=>?_) fun j _ hm=> ?_
 ·refine Cm (fun zn (zs:Int)=>drain_Table_Start_x_x_x.l1 t w name zn zs) (fun zs (_:Unit)=>[(0,.ptr b 0),(1,.ptr b2 0),(2,.str name),(27,Z172 ob t.l cap),(28,Iw (t.l.length : Int)),(29,Iw zs)]) (fun _ (_:Unit)=>[.box b2 43 [.nilptr,L139 w.groups,L103 w.budgets,L68 w.ms,L64 w.bs,.nilmap],.box b 108 [Z172 ob t.l cap,Iw t.grace,.bool t.made],Q172 ob cap t.l]) _ () (fun _=>R) hm (Ak [0,1,2] R R) fun n v2 _ hm=> ?_
  rw [drain_Table_Start_x_x_x.l1] at hm
  refine Ag tbk [] R R<|Ah<|Ao hm R (fun h11 hm=>?_) fun h11 hm=> ?_
  ·refine Am<|Ah<|A4<|Ae<|Bd hm fun x h12 hm=>Cd 2 R (gl_pos T_drain_one.vv h12) fun b3 h13=> ?_
   subst h13
   exact Aa R R (Ci T_drain_one.vv R R el106 h12)<|Aa R R (B8 (i:=2) (y:=T_drain_one.vv x) R R R (gl_map _ (gl_some h12).2) ld172 R)<|Ab R R<|Aw z172 fun b4=>Ab R R<|Aj (i:=0) R R R ld172 R R R<|Ac<|Ag tbk [0] R R<|Ao hm R (fun h15 hm=>Ag tbk [] R R<|have hm:=Lr hm h10;Rg2 hm R [2,3,1] (some b3) cap (.cons (.tmp _ _ R) .nil) R R) fun h15 hm=>Am<|Bc tbk [] R R<|Ap _ () hm (Ak [1,2,3] R R)
  exact Bb<|Ar () hm (Ak [0,1,2] R R)
 exact Ah<|Ae<|Ad tbk [] 2 R R<|Aa R R (Bl pl31 R R)<|Ab R R<|Ay hm 1 R fn16 R (K184 _ _ _ _) fun r4 hm=>Aa R R (Ai R)<|Ac<|Ag tbk [] R R<|Ao hm R (fun h17 hm=>Ag tbk [] R R<|Rg2 hm R [1,2,0] ob cap (.cons (.tmp _ _ R) .nil) R R) fun h17 hm=>Am<|Ae<|Ad tbk [1] 6 R R<|Aa R R (Bl pl172 R R)<|Ab R R<|Ax ap106 R R R R R fun b5=>Bd hm fun l2 h19 hm=>Ab R R<|Bp 3 T_drain_one.vv (l:=t.l) (l2:=[(⟨name,(0 : Int),false⟩ : T_drain_one)]) ap106 R R (sT_row 0 T_drain_one.vv el106 R R) h19 fun ob2 cap2=>Ad tbk [] 2 R R<|Ab R R<|Aj (i:=2) R R R ld106 R R R<|Ac<|Ag tbk [] R R<|Rg2 hm R [2,3,1] ob2 cap2 (.cons (.tmp _ _ R) .nil) R R

/-! (*trireme/drain.Table).Start -/
def drain_Table_Start_x_x_x_x (w : T_world_World) (name : ByteArray) : Option Int :=
 (drain_Table_there).bind fun r =>
 some 23
theorem K186 (w : T_world_World) (name : ByteArray) (b : Nat) : VS Tryz.prog 39 (drain_Table_Start_x_x_x_x w name) [.nilptr, .ptr b 0, .str name] [.box b 43 [.nilptr, L139 w.groups, L103 w.budgets, L68 w.ms, L64 w.bs, .nilmap]] Iw (fun r=>[.box b 43 [.nilptr, L139 w.groups, L103 w.budgets, L68 w.ms, L64 w.bs, .nilmap]]) := by
 refine A7 [.tmp 6] Dg R R R fun r hm=>?_
 unfold drain_Table_Start_x_x_x_x at hm
 refine Ag tbk [] R R<|Ah<|A4<|Ae<|Aa R R (Af R)<|Bd hm fun r h1 hm=>Ab R R<|Aq 0 R fn111 R (K133 r h1) fun _ _ h2=> ?_
 obtain ⟨rfl,rfl⟩:=h2
 exact Ad tbk [] 2 R R<|C1 R R R R (congrArg not (Option.some.inj (show some false = some r from h1)).symm)<|C1 R R R R (congrArg not (Option.some.inj (show some false = some r from h1)).symm)<|C1 R R R R (congrArg not (Option.some.inj (show some false = some r from h1)).symm)<|Aa R R (Bs true R (congrArg not (Option.some.inj (show some false = some r from h1)).symm) R)<|Aa R R (Ai R)<|Ac<|Bk R R<|Ag tbk [] R R<|Rt1 hm R [0] R R R

/-! (*trireme/drain.Table).Step -/
def drain_Table_Step_x_x (pools : List T_cloud_pool) (insts : List T_cloud_inst) : Option (List ByteArray) :=
 (drain_Table_there).bind fun r =>
 some ([] : List ByteArray)
theorem K187 (A0 A1 : Nat) (pools : List T_cloud_pool) (insts : List T_cloud_inst) (bs : List Nat) (bs2 : List Nat) : VS2 Tryz.prog 42 (drain_Table_Step_x_x pools insts) [.nilptr, .nilptr] [.ar A0 144 bs (List.map T_cloud_pool.cells pools), .ar A1 157 bs2 (List.map (T_cloud_inst.cells A0 A1) insts)] (fun r ob0 cap0=>Z9 ob0 r cap0) (fun r ob0 cap0=>[Q9 ob0 cap0 r, .ar A0 144 bs (List.map T_cloud_pool.cells pools), .ar A1 157 bs2 (List.map (T_cloud_inst.cells A0 A1) insts)]) := by
 refine Ch [.tmp 4] D1 R R R fun r hm=>?_
 unfold drain_Table_Step_x_x at hm
 refine Ag tbk [] R R<|Ah<|Ae<|Aa R R (Af R)<|Bd hm fun r h1 hm=>Ab R R<|Aq 0 R fn111 R (K133 r h1) fun _ _ h3=> ?_
 obtain ⟨rfl,rfl⟩:=h3
 exact Ad tbk [] 2 R R<|C1 R R R R (congrArg not (Option.some.inj (show some false = some r from h1)).symm)<|C1 R R R R (congrArg not (Option.some.inj (show some false = some r from h1)).symm)<|C1 R R R R (congrArg not (Option.some.inj (show some false = some r from h1)).symm)<|Aa R R (Bs true R (congrArg not (Option.some.inj (show some false = some r from h1)).symm) R)<|Ac<|Bk R R<|Ag tbk [] R R<|Br (Az 9)<|Rg2 hm R [0,1,2] none 0 (.cons (.tmp _ _ R) .nil) R R

/-! trireme/drain.is -/
def drain_is_x_x : Option Bool :=
 some false
theorem K188 : VS Tryz.prog 112 (drain_is_x_x) [.nilptr] [] .bool N0 := by
 refine A7 [.tmp 2] D9 R R R fun r hm=>?_
 unfold drain_is_x_x at hm
 exact Ag tbk [] R R<|Ae<|Aa R R (Af R)<|Aa R R (C5 Co R R)<|Ad tbk [] 8 R R<|Ac<|Rt1 hm R [] R R R

/-! (*trireme/world.World).Machines -/
def world_World_Machines_x_x : Option (List T_api_Machine) :=
 (world_World_there).bind fun r =>
 some ([] : List T_api_Machine)
theorem K189 : VS2 Tryz.prog 19 (world_World_Machines_x_x) [.nilptr] [] (fun r ob0 cap0=>Z68 ob0 r cap0) (fun r ob0 cap0=>[Q68 ob0 cap0 r]) := by
 refine Ch [.tmp 2] Ed R R R fun r hm=>?_
 unfold world_World_Machines_x_x at hm
 refine Ag tbk [] R R<|Ah<|Ae<|Aa R R (Af R)<|Bd hm fun r h1 hm=>Ab R R<|Aq 0 R fn60 R (K49 r h1) fun _ _ h3=> ?_
 obtain ⟨rfl,rfl⟩:=h3
 exact Aa R R (Cg R)<|Ac<|Bk R (congrArg not (Option.some.inj (show some false = some r from h1)).symm)<|Ag tbk [] R R<|Br (Az 68)<|Rg2 hm R [0] none 0 (.cons (.tmp _ _ R) .nil) R R

/-! trireme/drain.has -/
def drain_has_x_x (name : ByteArray) : Option Bool :=
 (world_World_Machines_x_x).bind fun r =>
 (yard_Find r name).bind fun r2 =>
 some (decide (r2 ≥ 0))
theorem K190 (name : ByteArray) : VS Tryz.prog 113 (drain_has_x_x name) [.nilptr, .str name] [] .bool N0 := by
 refine A7 [.tmp 4] Ea R R R fun r hm=>?_
 unfold drain_has_x_x at hm
 exact Ag tbk [] R R<|Ae<|Aa R R (Af R)<|Ab R R<|B6 hm 0 R fn19 R (K189) fun r ob cap hm=>Au (Av 0 [(6,L68 r)] R ⟨⟨_,R,.here _ R⟩,trivial⟩ (FzH.refl _))<|Aa R R (Af R)<|Ab R R<|Ay hm 0 R fn72 R (K44 _ _) fun r2 hm=>Ad tbk [] 2 R R<|Ac<|Rt1 hm R [] R R R

/-! (*trireme/world.World).Bounds -/
def world_World_Bounds_x : Option (List T_api_Bound) :=
 (world_World_there).bind fun r =>
 some ([] : List T_api_Bound)
theorem K191 : VS2 Tryz.prog 20 (world_World_Bounds_x) [.nilptr] [] (fun r ob0 cap0=>Z64 ob0 r cap0) (fun r ob0 cap0=>[Q64 ob0 cap0 r]) := by
 refine Ch [.tmp 2] Tryz.func20 R R R fun r hm=>?_
 unfold world_World_Bounds_x at hm
 refine Ag tbk [] R R<|Ah<|Ae<|Aa R R (Af R)<|Bd hm fun r h1 hm=>Ab R R<|Aq 0 R fn60 R (K49 r h1) fun _ _ h3=> ?_
 obtain ⟨rfl,rfl⟩:=h3
 exact Aa R R (Cg R)<|Ac<|Bk R (congrArg not (Option.some.inj (show some false = some r from h1)).symm)<|Ag tbk [] R R<|Br (Az 64)<|Rg2 hm R [0] none 0 (.cons (.tmp _ _ R) .nil) R R

/-! (*trireme/world.World).Evict -/
def world_World_Evict_x (name : ByteArray) : Option Int :=
 (world_World_there).bind fun r =>
 some 23
theorem K192 (name : ByteArray) : VS Tryz.prog 18 (world_World_Evict_x name) [.nilptr, .str name] [] Iw N0 := by
 refine A7 [.tmp 4] Tryz.func18 R R R fun r hm=>?_
 unfold world_World_Evict_x at hm
 refine Ag tbk [] R R<|Ah<|Ae<|Aa R R (Af R)<|Bd hm fun r h1 hm=>Ab R R<|Aq 0 R fn60 R (K49 r h1) fun _ _ h2=> ?_
 obtain ⟨rfl,rfl⟩:=h2
 exact Aa R R (Cg R)<|Ac<|Bk R (congrArg not (Option.some.inj (show some false = some r from h1)).symm)<|Ag tbk [] R R<|Rt1 hm R [] R R R

/-! (*trireme/world.World).on -/
def world_World_on_world_World_Untaint_1_x (name : ByteArray) (c : ByteArray) : Option Int :=
 (world_World_there).bind fun r =>
 some 23
theorem K193 (name : ByteArray) (c : ByteArray) (b : Nat) : VS Tryz.prog 69 (world_World_on_world_World_Untaint_1_x name c) [.nilptr, .str name, .clo (.func 76) [] [.ptr b 0]] [.box b 9 [.str c]] Iw (fun r=>[.box b 9 [.str c]]) := by
 refine A7 [.tmp 6] Dk R R R fun r hm=>?_
 unfold world_World_on_world_World_Untaint_1_x at hm
 refine Ag tbk [] R R<|Ah<|Ae<|Aa R R (Af R)<|Bd hm fun r h1 hm=>Ab R R<|Aq 0 R fn60 R (K49 r h1) fun _ _ h2=> ?_
 obtain ⟨rfl,rfl⟩:=h2
 exact Aa R R (Cg R)<|Ac<|Bk R (congrArg not (Option.some.inj (show some false = some r from h1)).symm)<|Ag tbk [] R R<|Rt1 hm R [0] R R R

/-! (*trireme/world.World).Untaint -/
def world_World_Untaint_x (name : ByteArray) (key : ByteArray) : Option Int :=
 (world_World_on_world_World_Untaint_1_x name key).bind fun r =>
 some r
theorem K194 (name : ByteArray) (key : ByteArray) : VS Tryz.prog 17 (world_World_Untaint_x name key) [.nilptr, .str name, .str key] [] Iw N0 := by
 refine A7 [.tmp 6] Tryz.func17 R R R fun r hm=>?_
 unfold world_World_Untaint_x at hm
 exact Ae<|Ab R R<|Bi R R fun b=>Aa R R (Ai R)<|Ac<|Ae<|Ad tbk [] 2 R R<|Aa R R (Cj R R)<|Ab R R<|Ay hm 1 R fn69 R (K193 _ _ _) fun r hm=>Aa R R (Ai R)<|Ac<|Rt1 hm R [] R R R

/-! (*trireme/drain.Table).leave -/
def drain_Table_leave_drain_Table_Step_1_x (t : T_drain_Table) (what : ByteArray) (x : T_drain_one) (c : List ByteArray) : Option (Bool × List ByteArray) :=
 (world_World_Untaint_x x.name (⟨#[100, 114, 97, 105, 110, 105, 110, 103]⟩ : ByteArray)).bind fun r =>
 (drain_Table_Step_1 what x.name c).bind fun r2 =>
 some (false, r2)
theorem K195 (t : T_drain_Table) (what : ByteArray) (x : T_drain_one) (c : List ByteArray) (b : Nat) (ob : Option Nat) (cap : Nat) (b2 : Nat) (b3 : Nat) (ob2 : Option Nat) (cap2 : Nat) : VS2 Tryz.prog 176 (drain_Table_leave_drain_Table_Step_1_x t what x c) [.ptr b 0, .nilptr, .str what, .ptr b2 0, .clo (.func 117) [] [.ptr b3 0]] [.box b 108 [Z172 ob t.l cap, Iw t.grace, .bool t.made], Q172 ob cap t.l, X172 b2 x, .box b3 61 [Z9 ob2 c cap2], Q9 ob2 cap2 c] (fun r ob2_0 cap2_0=>.bool r.1) (fun r ob2_0 cap2_0=>[.box b 108 [Z172 ob t.l cap, Iw t.grace, .bool t.made], Q172 ob cap t.l, X172 b2 x, .box b3 61 [Z9 ob2_0 r.2 cap2_0], Q9 ob2_0 cap2_0 r.2]) := by
 refine Ch [.tmp 10] Tryz.func176 R R R fun r hm=>?_
 unfold drain_Table_leave_drain_Table_Step_1_x at hm
 exact Ag tbk [] R R<|Ae<|Ad tbk [2] 5 R R<|Ab R R<|Ay hm 0 R fn17 R (K194 _ _) fun r hm=>Ac<|Ae<|Ad tbk [2] 6 R R<|Au (A5 [3,4,0,1,2] R)<|Ab R R<|B6 hm 2 R fn117 R (K153 _ _ _ _ _ _) fun r2 ob3 cap3 hm=>Ac<|Ag tbk [] R R<|Rg2 hm R [2,3,4,0,1] ob3 cap3 (.cons (.tmp _ _ R) .nil) R R

/-! (*trireme/drain.Table).goes -/
def drain_Table_goes_drain_Table_Step_1_x.l1 (t : T_drain_Table) (x : T_drain_one) : List T_api_Pod → Nat → (List ByteArray) → Option (Out (Bool × T_drain_one × List ByteArray) (List ByteArray))
 | [], k, tell2 => some (Out.go tell2)
 | x2 :: l, k, tell2 =>
  (world_World_Evict_x x2.Name).bind fun r5 =>
  if (r5 != 0) = true then
   if (decide ((i64.wrap (x.steps + 1)) ≤ t.grace)) = true then
    some (Out.ret (true, (⟨x.name, (i64.wrap (x.steps + 1)), x.back⟩ : T_drain_one), tell2))
   else
    (drain_Table_leave_drain_Table_Step_1_x t (⟨#[115, 116, 111, 112]⟩ : ByteArray) (⟨x.name, (i64.wrap (x.steps + 1)), x.back⟩ : T_drain_one) tell2).bind fun r6 =>
    some (Out.ret (r6.1, (⟨x.name, (i64.wrap (x.steps + 1)), x.back⟩ : T_drain_one), r6.2))
  else
   (drain_Table_Step_1 (⟨#[101, 118, 105, 99, 116]⟩ : ByteArray) x2.Name tell2).bind fun r7 =>
   drain_Table_goes_drain_Table_Step_1_x.l1 t x l (k + 1) r7
def drain_Table_goes_drain_Table_Step_1_x (t : T_drain_Table) (x : T_drain_one) (c : List ByteArray) (pools : List T_cloud_pool) (insts : List T_cloud_inst) : Option (Bool × T_drain_one × List ByteArray) :=
 (drain_has_x_x x.name).bind fun r =>
 if (!r) = true then
  (drain_Table_Step_1 (⟨#[103, 111, 110, 101]⟩ : ByteArray) x.name c).bind fun r2 =>
  some (false, x, r2)
 else
  if x.back = true then
   some (true, x, c)
  else
   (world_World_Bounds_x).bind fun r3 =>
   (block_Movable r3 x.name).bind fun r4 =>
   (drain_Table_goes_drain_Table_Step_1_x.l1 t x r4 0 c).bind fun o =>
   o.on fun tell32 =>
   none
theorem K196 (A0 A1 : Nat) (t : T_drain_Table) (x : T_drain_one) (c : List ByteArray) (pools : List T_cloud_pool) (insts : List T_cloud_inst) (b : Nat) (ob : Option Nat) (cap : Nat) (b2 : Nat) (b3 : Nat) (ob2 : Option Nat) (cap2 : Nat) (bs : List Nat) (bs2 : List Nat) : VS2 Tryz.prog 116 (drain_Table_goes_drain_Table_Step_1_x t x c pools insts) [.ptr b 0, .nilptr, .ptr b2 0, .clo (.func 117) [] [.ptr b3 0]] [.box b 108 [Z172 ob t.l cap, Iw t.grace, .bool t.made], Q172 ob cap t.l, X172 b2 x, .box b3 61 [Z9 ob2 c cap2], Q9 ob2 cap2 c, .ar A0 144 bs (List.map T_cloud_pool.cells pools), .ar A1 157 bs2 (List.map (T_cloud_inst.cells A0 A1) insts)] (fun r ob2_0 cap2_0=>.bool r.1) (fun r ob2_0 cap2_0=>[.box b 108 [Z172 ob t.l cap, Iw t.grace, .bool t.made], Q172 ob cap t.l, X172 b2 r.2.1, .box b3 61 [Z9 ob2_0 r.2.2 cap2_0], Q9 ob2_0 cap2_0 r.2.2, .ar A0 144 bs (List.map T_cloud_pool.cells pools), .ar A1 157 bs2 (List.map (T_cloud_inst.cells A0 A1) insts)]) := by
 refine Ch [.tmp 8] Tryz.func116 R R R fun r hm=>?_
 unfold drain_Table_goes_drain_Table_Step_1_x at hm
 refine Ag tbk [] R R<|Ah<|A4<|Ae<|Ad tbk [2] 5 R R<|Ab R R<|Ay hm 0 R fn113 R (K190 _) fun r hm=>Ad tbk [] 2 R R<|Ac<|Ao hm R (fun h2 hm=>Ae<|Ad tbk [2] 5 R R<|Au (A5 [3,4,0,1,2,5,6] R)<|Ab R R<|B6 hm 2 R fn117 R (K153 _ _ _ _ _ _) fun r2 ob3 cap3 hm=>Ac<|Ag tbk [] R R<|Rg2 hm R [2,3,4,0,1,5,6] ob3 cap3 (.cons (.tmp _ _ R) .nil) R R) fun h2 hm=>Ag tbk [2] R R<|Ao hm R (fun h4 hm=>Ag tbk [] R R<|Rg2 hm R [0,1,2,3,4,5,6] ob2 cap2 (.cons (.tmp _ _ R) .nil) R R) fun h4 hm=>Am<|Ah<|Ah<|Bo 0 mixed<|Bh tbk [0,2,3,4,5,8] [2] (by kernel_rfl) R R R<|Al 1 (by kernel_rfl)<|Bd hm fun r3 h5 hm=>An R R R<|Aq 0 R fn20 R (K191 r3 h5) fun _ _ h20=> ?_
 obtain ⟨ob4,cap4,rfl,rfl⟩:=h20
 refine C0 (Av 0 [(31,L64 r3)] R ⟨⟨_,R,.here _ R⟩,trivial⟩ (FzH.refl _))<|Al 6 (by kernel_rfl)<|Bd hm fun r4 h7 hm=>An R R R<|Aq 0 R fn175 R (K154 r3 x.name r4 h7) fun _ _ h19=> ?_
 obtain ⟨ob5,cap5,rfl,rfl⟩:=h19
 refine C0 (Av 0 [(36,L29 r4)] R ⟨⟨_,R,.here _ R⟩,trivial⟩ (FzH.refl _))<|A9 7 R R R (by kernel_rfl) (Be T_api_Pod.vv R Cy)<|A6 (by kernel_rfl)<|B2 36 R fun h11=>Cf hm (fun _ (gg:Option Nat × Nat)=>[(0,.ptr b 0),(1,.nilptr),(2,.ptr b2 0),(3,.clo (.func 117) [] [.ptr b3 0])]) (fun tell32 (gg:Option Nat × Nat)=>[.box b 108 [Z172 ob t.l cap,Iw t.grace,.bool t.made],Q172 ob cap t.l,X172 b2 x,.box b3 61 [Z9 gg.1 tell32 gg.2],Q9 gg.1 gg.2 tell32,.ar A0 144 bs (List.map T_cloud_pool.cells pools),.ar A1 157 bs2 (List.map (T_cloud_inst.cells A0 A1) insts)]) (fun o hm h10=>?_) fun tell32=>Pq fun ob8 cap8 hm=> ?_
 ·refine Cc (r4) (fun zl zk (zs:List ByteArray)=>drain_Table_goes_drain_Table_Step_1_x.l1 t x zl zk zs) (fun k _ (_:Option Nat × Nat)=>[(0,.ptr b 0),(1,.nilptr),(2,.ptr b2 0),(3,.clo (.func 117) [] [.ptr b3 0]),(36,L29 r4),(37,Iw (r4.length : Int)),(38,Iw (k : Int))]) (fun _ zs (zg:Option Nat × Nat)=>[.box b 108 [Z172 ob t.l cap,Iw t.grace,.bool t.made],Q172 ob cap t.l,X172 b2 x,.box b3 61 [Z9 zg.1 zs zg.2],Q9 zg.1 zg.2 zs,.ar A0 144 bs (List.map T_cloud_pool.cells pools),.ar A1 157 bs2 (List.map (T_cloud_inst.cells A0 A1) insts)]) c (ob2,cap2) hm (Ak [0,1,2,3,4,5,6] (by kernel_rfl) (by kernel_rfl)) (fun k tell2=>Pq fun ob7 cap7 hk hm=>?_) fun k x2 l tell2=>Pq fun ob7 cap7 h12 hm=> ?_
  ·rw [drain_Table_goes_drain_Table_Step_1_x.l1] at hm
   exact Ag tbk [] R R<|Ah<|Bq R (k_end hk)<|Bb<|Ar (ob7,cap7) hm (Ak [0,1,2,3,4,5,6] (by kernel_rfl) (by kernel_rfl))
  rw [drain_Table_goes_drain_Table_Step_1_x.l1] at hm
  exact Ag tbk [] R R<|Ah<|Bk R (k_lt h12)<|Am<|Ah<|A4<|Ae<|Aa R R (B4 T_api_Pod.vv R R el193 h12)<|Aa R R (Bx R ld29 R)<|Ab R R<|Aw z29 fun b4=>Ab R R<|Aj (i:=0) R R R ld29 R R R<|Ac<|Ah<|Ae<|Ad tbk [0] 3 R R<|Ab R R<|Ay hm 0 R fn18 R (K192 _) fun r5 hm=>Aa R R (Ce R R R)<|Ac<|Ao hm R (fun h15 hm=>Ah<|Ae<|Ad tbk [3] 7 R R<|Ab R R<|Aj (i:=3) R R R ld3 R R R<|Ac<|Ah<|Bo 0 mixed<|Bh tbk [0,1,2,3,4,5,6,7,8] [3,1] (by kernel_rfl) R R R<|A6 (by kernel_rfl)<|Ao hm R (fun h16 hm=>Ag tbk [] R R<|have hm:=Lr hm h10;Rg2 hm R [1,2,3,4,5,6,7] ob7 cap7 (.cons (.tmp _ _ R) .nil) R R) fun h16 hm=>Am<|Ae<|Ad tbk [] 4 R R<|Au (A5 [1,2,3,4,5,0,6,7] R)<|Ab R R<|B6 hm 5 R fn176 R (K195 _ _ _ _ _ _ _ _ _ _ _) fun r6 ob9 cap9 hm=>Aa R R (Ai R)<|Ac<|have hm:=Lr hm h10;Rg2 hm R [0,1,2,3,4,6,7] ob9 cap9 (.cons (.tmp _ _ R) .nil) R R) fun h15 hm=>Am<|Bw<|Ad tbk [0] 3 R R<|Au (A5 [4,5,0,1,2,3,6,7] R)<|Ab R R<|B6 hm 2 R fn117 R (K153 _ _ _ _ _ _) fun r7 ob10 cap10 hm=>Ac<|Bc tbk [] R R<|Ap r7 (ob10,cap10) hm (Bf [3,4,5,0,1,6,7] (by kernel_rfl) ⟨R,R,R,R,R,R,congrArg some (k_next h12 h11),trivial⟩)
 exact Ah<|Ah<|Bo 0 mixed<|A9 0 R R R (by kernel_rfl) (Af R)<|absurd hm nofun

end Go.Proofs.YtbgfffdnaijmhaaGreat.M

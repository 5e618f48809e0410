/-
  Printed by a program of this session out of the loaded functions: models and their proofs. Own text.
-/
import Derived.Test.YtbgfffdnaijmhaaGreatDNF2
namespace Go.Proofs.YtbgfffdnaijmhaaGreat.M
open Go Go.Proofs Go.Proofs.YtbgfffdnaijmhaaGreat.V
open Go.IntKind (i64)
set_option linter.unusedVariables false
set_option maxRecDepth 20000
set_option maxHeartbeats 40000000
/-! (*trireme/drain.Table).Step -/
def drain_Table_Step_x_x_x.l1 (t : T_drain_Table) (pools : List T_cloud_pool) (insts : List T_cloud_inst) : Nat → (List ByteArray) → (List T_drain_one) → Int → Option (List ByteArray × List T_drain_one)
 | 0, _, _, _ => none
 | n + 1, told2, l2, v2 =>
  if (decide (v2 < (t.l.length : Int))) = true then
   (V.gl t.l v2).bind fun x =>
   (drain_Table_goes_drain_Table_Step_1_x t x told2 pools insts).bind fun r3 =>
   if r3.1 = true then
    (V.ap 32 l2 [r3.2.1]).bind fun l5 =>
    drain_Table_Step_x_x_x.l1 t pools insts n r3.2.2 l5 (i64.wrap (v2 + 1))
   else
    drain_Table_Step_x_x_x.l1 t pools insts n r3.2.2 l2 (i64.wrap (v2 + 1))
  else
   some (told2, l2)
def drain_Table_Step_x_x_x (t : T_drain_Table) (pools : List T_cloud_pool) (insts : List T_cloud_inst) : Option (List ByteArray × T_drain_Table) :=
 (drain_Table_there_x t).bind fun r =>
 (if (!r) = true then some true else (drain_is_x_x).bind fun r2 =>
 some (!r2)).bind fun c =>
 if c = true then
  some (([] : List ByteArray), t)
 else
  (drain_Table_Step_x_x_x.l1 t pools insts FU ([] : List ByteArray) ([] : List T_drain_one) (0 : Int)).bind fun j =>
  some (j.1, (⟨j.2, t.grace, t.made⟩ : T_drain_Table))
theorem K0 (A0 A1 : Nat) (t : T_drain_Table) (pools : List T_cloud_pool) (insts : List T_cloud_inst) (b : Nat) (ob : Option Nat) (cap : Nat) (bs : List Nat) (bs2 : List Nat) : ∀ r : List ByteArray × T_drain_Table, drain_Table_Step_x_x_x t pools insts = some r → VC Tryz.prog 42 [.ptr b 0, .nilptr] [.box b 108 [Z172 ob t.l cap, Iw t.grace, .bool t.made], Q172 ob cap t.l, .ar A0 144 bs (List.map T_cloud_pool.cells pools), .ar A1 157 bs2 (List.map (T_cloud_inst.cells A0 A1) insts)] fun zx zH => ∃ (ob0 : Option Nat) (cap0 : Nat) (ob0_0 : Option Nat) (cap0_0 : Nat), zx = Z9 ob0 r.1 cap0 ∧ zH = [Q9 ob0 cap0 r.1, .box b 108 [Z172 ob0_0 r.2.l cap0_0, Iw r.2.grace, .bool r.2.made], Q172 ob0_0 cap0_0 r.2.l, .ar A0 144 bs (List.map T_cloud_pool.cells pools), .ar A1 157 bs2 (List.map (T_cloud_inst.cells A0 A1) insts)] := by
 refine Ck [.tmp 4] D1 R R R fun r hm=>?_
 unfold drain_Table_Step_x_x_x at hm
 refine Ag tbk [] R R<|Ah<|Ae<|Aa R R (Af R)<|Ab R R<|Ay hm 2 R fn111 R (K142 _ _ _ _) fun r hm=>Ad tbk [] 2 R R<|Bt hm 4 16 12 R (fun _ K' h2 J hm=>Ad tbk [] 4 R R<|J 3 R R (Bj hm)) (fun _ K' h2 J hm=>?_) fun c hm=> ?_
 ·refine Ba R R R R R (Af R)<|Bd hm fun r2 h3 hm=>A8 R R R R R<|Aq 0 R fn112 R (K188 r2 h3) fun _ _ h4=> ?_
  obtain ⟨rfl,rfl⟩:=h4
  exact Ad tbk [] 2 R R<|J 3 R R (Bj hm)
 refine Ac<|Ao hm R (fun h6 hm=>?_) fun h6 hm=> ?_
 ·refine Ag tbk [] R R<|?_
  obtain rfl:=Option.some.inj hm
  exact Br (Az 9)<|Bu ⟨.inl R,_,.cons (.tmp _ _ R) .nil,[0,1,2,3,4],_,R,none,0,ob,cap,R,R⟩
 refine Am<|Ae<|Ab R R<|Aw z61 fun b2=>Ac<|Ag tbk [] R R<|Ah<|Ae<|Ad tbk [1] 4 R R<|Aa R R (Cq T_drain_one.vv R Cx)<|Aa R R (Af R)<|Ac<|Ca hm (fun j (gg:Option Nat × Nat × Option Nat × Nat)=>[(0,.ptr b 0),(5,.ptr b2 0),(6,Z172 gg.2.2.1 j.2 gg.2.2.2)]) (fun j (gg:Option Nat × Nat × Option Nat × Nat)=>[Q9 gg.1 gg.2.1 j.1,Q172 gg.2.2.1 gg.2.2.2 j.2,.box b2 61 [Z9 gg.1 j.1 gg.2.1],.box b 108 [Z172 ob t.l cap,Iw t.grace,.bool t.made],Q172 ob cap t.l,.ar A0 144 bs (List.map T_cloud_pool.cells pools),.ar A1 157 bs2 (List.map (T_cloud_inst.cells A0 A1) insts)]) (fun o hm=>?_) fun j=>Pq fun ob6=>Pq fun cap6=>Pq fun ob7 cap7 hm=> ?_
 ·refine Cm (fun zn (zs:List ByteArray × List T_drain_one × Int)=>drain_Table_Step_x_x_x.l1 t pools insts zn zs.1 zs.2.1 zs.2.2) (fun zs (zg:Option Nat × Nat × Option Nat × Nat)=>[(0,.ptr b 0),(1,.nilptr),(5,.ptr b2 0),(6,Z172 zg.2.2.1 zs.2.1 zg.2.2.2),(20,Z172 ob t.l cap),(21,Iw (t.l.length : Int)),(22,Iw zs.2.2)]) (fun zs (zg:Option Nat × Nat × Option Nat × Nat)=>[Q9 zg.1 zg.2.1 zs.1,Q172 zg.2.2.1 zg.2.2.2 zs.2.1,.box b2 61 [Z9 zg.1 zs.1 zg.2.1],.box b 108 [Z172 ob t.l cap,Iw t.grace,.bool t.made],Q172 ob cap t.l,.ar A0 144 bs (List.map T_cloud_pool.cells pools),.ar A1 157 bs2 (List.map (T_cloud_inst.cells A0 A1) insts)]) (([] : List ByteArray),([] : List T_drain_one),(0 : Int)) (none,0,none,0) (fun _=>R) hm (Bg (Az 172) (Bg (Az 9) (Ak [0,1,2,3,4,5,6] (by kernel_rfl) (by kernel_rfl)))) fun n=>Pq fun told2=>Pq fun l2 v2=>Pq fun ob4=>Pq fun cap4=>Pq fun ob5 cap5 hm=> ?_
  rw [drain_Table_Step_x_x_x.l1] at hm
  refine Ag tbk [] R R<|Ah<|Ao hm R (fun h15 hm=>?_) fun h15 hm=> ?_
  ·refine Am<|Ah<|A4<|Ae<|Bd hm fun x h16 hm=>Cd 4 R (gl_pos T_drain_one.vv h16) fun b3 h17=> ?_
   subst h17
   exact Aa R R (Ci T_drain_one.vv R R el106 h16)<|Aa R R (B8 (i:=4) (y:=T_drain_one.vv x) R R R (gl_map _ (gl_some h16).2) ld172 R)<|Ab R R<|Aw z172 fun b4=>Ab R R<|Aj (i:=0) R R R ld172 R R R<|Ac<|Ae<|Ad tbk [] 2 R R<|Aa R R (Cj R R)<|Au (A5 [4,5,0,3,1,6,7,2] R)<|Ab R R<|B6 hm 7 R fn116 R (K196 A0 A1 _ _ _ _ _ _ _ _ _ _ _ _ _ _) fun r3 ob8 cap8 hm=>Ac<|Ao hm R (fun h20 hm=>Bw<|Ad tbk [2] 2 R R<|Ab R R<|Ax ap106 R R R R R fun b5=>Bd hm fun l5 h22 hm=>Ab R R<|Bp 8 T_drain_one.vv (l:=l2) (l2:=[r3.2.1]) ap106 R R (sT_row 0 T_drain_one.vv el106 R R) h22 fun ob9 cap9=>Aa R R (Ai R)<|Ac<|Bc tbk [] R R<|Ap (r3.2.2,l5,(IntKind.i64.wrap (v2 + (1 : Int)))) (ob8,cap8,ob9,cap9) hm (Ak [5,8,4,1,2,6,7] (by kernel_rfl) (by kernel_rfl))) fun h20 hm=>Am<|Bc tbk [] R R<|Ap (r3.2.2,l2,(IntKind.i64.wrap (v2 + (1 : Int)))) (ob8,cap8,ob5,cap5) hm (Ak [4,7,3,0,1,5,6] (by kernel_rfl) (by kernel_rfl))
  exact Bb<|As (ob4,cap4,ob5,cap5) hm (Ak [0,1,2,3,4,5,6] (by kernel_rfl) (by kernel_rfl))
 refine Ae<|Ad tbk [] 4 R R<|Ab R R<|Aj (i:=3) R R R ld106 R R R<|Ac<|Ag tbk [2] R R<|?_
 obtain rfl:=Option.some.inj hm
 exact Bu ⟨.inl R,_,.cons (.tmp _ _ R) .nil,[0,3,1,5,6],_,R,ob6,cap6,ob7,cap7,R,R⟩

/-! (*trireme/drain.Table).Copy -/
def drain_Table_Copy : Option Unit :=
 (drain_Table_there).bind fun r =>
 some ()
theorem K1 : VS Tryz.prog 48 (drain_Table_Copy) [.nilptr] [] (fun r=>.nilptr) N0 := by
 refine A7 [.tmp 2] Tryz.func48 R R R fun r hm=>?_
 unfold drain_Table_Copy at hm
 refine Ag tbk [] R R<|Ah<|Ae<|Aa R R (Af R)<|Bd hm fun r h1 hm=>Ab R R<|Aq 0 R fn111 R (K133 r h1) fun _ _ h2=> ?_
 obtain ⟨rfl,rfl⟩:=h2
 exact Aa R R (Cg R)<|Ac<|Bk R (congrArg not (Option.some.inj (show some false = some r from h1)).symm)<|Ag tbk [] R R<|Rt1 hm R [] R R R

/-! (*trireme/drain.Table).Copy -/
def drain_Table_Copy_x (t : T_drain_Table) : Option (Option T_drain_Table) :=
 (drain_Table_there_x t).bind fun r =>
 if (!r) = true then
  some none
 else
  (V.ap 32 ([] : List T_drain_one) t.l).bind fun l =>
  some (some (⟨l, t.grace, t.made⟩ : T_drain_Table))
theorem K2 (t : T_drain_Table) (b : Nat) (ob : Option Nat) (cap : Nat) : ∀ r : Option T_drain_Table, drain_Table_Copy_x t = some r → VC Tryz.prog 48 [.ptr b 0] [.box b 108 [Z172 ob t.l cap, Iw t.grace, .bool t.made], Q172 ob cap t.l] fun zx zH => ∃ (b_0_1 : Nat) (ob_0_2 : Option Nat) (cap_0_3 : Nat), zx = (po r .nilptr fun _ => .ptr b_0_1 0) ∧ zH = (po r [] fun zb => [.box b_0_1 108 [Z172 ob_0_2 zb.l cap_0_3, Iw zb.grace, .bool zb.made], Q172 ob_0_2 cap_0_3 zb.l]) ++ [.box b 108 [Z172 ob t.l cap, Iw t.grace, .bool t.made], Q172 ob cap t.l] := by
 refine Ck [.tmp 2] Tryz.func48 R R R fun r hm=>?_
 unfold drain_Table_Copy_x at hm
 refine Ag tbk [] R R<|Ah<|Ae<|Aa R R (Af R)<|Ab R R<|Ay hm 2 R fn111 R (K142 _ _ _ _) fun r hm=>Aa R R (Cg R)<|Ac<|Ao hm R (fun h2 hm=>?_) fun h2 hm=> ?_
 ·refine Ag tbk [] R R<|?_
  obtain rfl:=Option.some.inj hm
  exact Bu ⟨.inl R,_,.cons (.tmp _ _ R) .nil,[0,1],_,R,0,none,0,R,R⟩
 refine Am<|Ae<|Ad tbk [0] 3 R R<|Ab R R<|Aw z108 fun b2=>Ab R R<|Aj (i:=0) R R R ld108 R R R<|Ac<|Ae<|Ad tbk [1] 4 R R<|Au (Az 172)<|Bd hm fun l h5 hm=>Ab R R<|Bp 0 T_drain_one.vv (l:=([] : List T_drain_one)) (l2:=t.l) ap106 R R (sT_row 3 T_drain_one.vv el106 R R) h5 fun ob2 cap2=>Aa R R (C7 R fa108_0)<|Ab R R<|Aj (i:=1) R R R ld106 R R R<|Ac<|Ag tbk [] R R<|?_
 obtain rfl:=Option.some.inj hm
 exact Bu ⟨.inl R,_,.cons (.tmp _ _ R) .nil,[1,0,2,3],_,R,b2,ob2,cap2,R,R⟩

/-! (*trireme/world.World).on -/
def world_World_on_world_World_Taint_1_x_x (name : ByteArray) (c : T_api_Taint) : Option Int :=
 (world_World_there).bind fun r =>
 some 23
theorem K3 (name : ByteArray) (c : T_api_Taint) (b : Nat) : VS Tryz.prog 69 (world_World_on_world_World_Taint_1_x_x name c) [.nilptr, .str name, .clo (.func 73) [] [.ptr b 0]] [X31 b c] Iw (fun r=>[X31 b c]) := by
 refine A7 [.tmp 6] Dk R R R fun r hm=>?_
 unfold world_World_on_world_World_Taint_1_x_x at hm
 refine Ag tbk [] R R<|Ah<|Ae<|Aa R R (Af R)<|Bd hm fun r h1 hm=>Ab R R<|Aq 0 R fn60 R (K49 r h1) fun _ _ h2=> ?_
 obtain ⟨rfl,rfl⟩:=h2
 exact Aa R R (Cg R)<|Ac<|Bk R (congrArg not (Option.some.inj (show some false = some r from h1)).symm)<|Ag tbk [] R R<|Rt1 hm R [0] R R R

/-! (*trireme/world.World).Taint -/
def world_World_Taint_x_x (name : ByteArray) (x : T_api_Taint) : Option Int :=
 (world_World_on_world_World_Taint_1_x_x name x).bind fun r =>
 some r
theorem K4 (name : ByteArray) (x : T_api_Taint) : VS Tryz.prog 16 (world_World_Taint_x_x name x) [.nilptr, .str name, T_api_Taint.vv x] [] Iw N0 := by
 refine A7 [.tmp 6] Eb R R R fun r hm=>?_
 unfold world_World_Taint_x_x at hm
 exact Ae<|Ab R R<|Bi R R fun b=>Aa R R (Ai R)<|Ac<|Ae<|Ad tbk [] 2 R R<|Aa R R (Cj R R)<|Ab R R<|Ay hm 1 R fn69 R (K3 _ _ _) fun r hm=>Aa R R (Ai R)<|Ac<|Rt1 hm R [] R R R

/-! (*trireme/drain.Table).Start -/
def drain_Table_Start_x_x_x_x_x.l1 (t : T_drain_Table) (name : ByteArray) : Nat → Int → Option (Out (Int × T_drain_Table) Unit)
 | 0, _ => none
 | n + 1, v2 =>
  if (decide (v2 < (t.l.length : Int))) = true then
   (V.gl t.l v2).bind fun x =>
   if (V.seq x.name name) = true then
    some (Out.ret (15, t))
   else
    drain_Table_Start_x_x_x_x_x.l1 t name n (i64.wrap (v2 + 1))
  else
   some (Out.go ())
def drain_Table_Start_x_x_x_x_x (t : T_drain_Table) (name : ByteArray) : Option (Int × T_drain_Table) :=
 (drain_Table_there_x t).bind fun r =>
 (if (!r) = true then some true else (drain_is_x_x).bind fun r2 =>
 some (!r2)).bind fun c =>
 if c = true then
  some (23, t)
 else
  (drain_has_x_x name).bind fun r3 =>
  if (!r3) = true then
   some (16, t)
  else
   (drain_Table_Start_x_x_x_x_x.l1 t name FU (0 : Int)).bind fun o =>
   o.on fun j =>
   (world_World_Taint_x_x name (⟨(⟨#[100, 114, 97, 105, 110, 105, 110, 103]⟩ : ByteArray), (⟨#[]⟩ : ByteArray), 1⟩ : T_api_Taint)).bind fun r4 =>
   if (r4 != 0) = true then
    some (r4, t)
   else
    (V.ap 32 t.l [(⟨name, 0, false⟩ : T_drain_one)]).bind fun l2 =>
    some (0, (⟨l2, t.grace, t.made⟩ : T_drain_Table))
theorem K5 (t : T_drain_Table) (name : ByteArray) (b : Nat) (ob : Option Nat) (cap : Nat) : VS2 Tryz.prog 39 (drain_Table_Start_x_x_x_x_x t name) [.ptr b 0, .nilptr, .str name] [.box b 108 [Z172 ob t.l cap, Iw t.grace, .bool t.made], Q172 ob cap t.l] (fun r ob0_0 cap0_0=>Iw r.1) (fun r ob0_0 cap0_0=>[.box b 108 [Z172 ob0_0 r.2.l cap0_0, Iw r.2.grace, .bool r.2.made], Q172 ob0_0 cap0_0 r.2.l]) := by
 refine Ch [.tmp 6] Dg R R R fun r hm=>?_
 unfold drain_Table_Start_x_x_x_x_x at hm
 refine Ag tbk [] R R<|Ah<|A4<|Ae<|Aa R R (Af R)<|Ab R R<|Ay hm 2 R fn111 R (K142 _ _ _ _) fun r hm=>Ad tbk [] 2 R R<|Bt hm 4 18 14 R (fun _ K' h2 J hm=>Ad tbk [] 4 R R<|J 3 R R (Bj hm)) (fun _ K' h2 J hm=>?_) fun c hm=> ?_
 ·refine Ba R R R R R (Af R)<|Bd hm fun r2 h3 hm=>A8 R R R R R<|Aq 0 R fn112 R (K188 r2 h3) fun _ _ h4=> ?_
  obtain ⟨rfl,rfl⟩:=h4
  exact Ad tbk [] 2 R R<|J 3 R R (Bj hm)
 refine Aa R R (Ai R)<|Ac<|Ao hm R (fun h6 hm=>Ag tbk [] R R<|Rg2 hm R [0,1] ob cap (.cons (.tmp _ _ R) .nil) R R) fun h6 hm=>Ae<|Ad tbk [] 2 R R<|Ab R R<|Ay hm 0 R fn113 R (K190 _) fun r3 hm=>Ad tbk [] 2 R R<|Ac<|Ao hm R (fun h8 hm=>Ag tbk [] R R<|Rg2 hm R [0,1] ob cap (.cons (.tmp _ _ R) .nil) R R) fun h8 hm=>Am<|Ah<|Ae<|Ad tbk [0] 4 R R<|Aa R R (Cq T_drain_one.vv R Cx)<|Aa R R (Af R)<|Ac<|Cf hm (fun _ (_:Unit)=>[(0,.ptr b 0),(1,.nilptr),(2,.str name)]) (fun _ (_:Unit)=>[.box b 108 [Z172 ob t.l cap,Iw t.grace,.bool t.made],Q172 ob cap t.l]) (fun o hm h10=>?_) fun j _ hm=> ?_
 ·refine Cm (fun zn (zs:Int)=>drain_Table_Start_x_x_x_x_x.l1 t name zn zs) (fun zs (_:Unit)=>[(0,.ptr b 0),(1,.nilptr),(2,.str name),(27,Z172 ob t.l cap),(28,Iw (t.l.length : Int)),(29,Iw zs)]) (fun _ (_:Unit)=>[.box b 108 [Z172 ob t.l cap,Iw t.grace,.bool t.made],Q172 ob cap t.l]) _ () (fun _=>R) hm (Ak [0,1] R R) fun n v2 _ hm=> ?_
  rw [drain_Table_Start_x_x_x_x_x.l1] at hm
  refine Ag tbk [] R R<|Ah<|Ao hm R (fun h11 hm=>?_) fun h11 hm=> ?_
  ·refine Am<|Ah<|A4<|Ae<|Bd hm fun x h12 hm=>Cd 1 R (gl_pos T_drain_one.vv h12) fun b2 h13=> ?_
   subst h13
   exact Aa R R (Ci T_drain_one.vv R R el106 h12)<|Aa R R (B8 (i:=1) (y:=T_drain_one.vv x) R R R (gl_map _ (gl_some h12).2) ld172 R)<|Ab R R<|Aw z172 fun b3=>Ab R R<|Aj (i:=0) R R R ld172 R R R<|Ac<|Ag tbk [0] R R<|Ao hm R (fun h15 hm=>Ag tbk [] R R<|have hm:=Lr hm h10;Rg2 hm R [1,2] (some b2) cap (.cons (.tmp _ _ R) .nil) R R) fun h15 hm=>Am<|Bc tbk [] R R<|Ap _ () hm (Ak [1,2] R R)
  exact Bb<|Ar () hm (Ak [0,1] R R)
 exact Ah<|Ae<|Ad tbk [] 2 R R<|Aa R R (Bl pl31 R R)<|Ab R R<|Ay hm 0 R fn16 R (K4 _ _) fun r4 hm=>Aa R R (Ai R)<|Ac<|Ag tbk [] R R<|Ao hm R (fun h17 hm=>Ag tbk [] R R<|Rg2 hm R [0,1] ob cap (.cons (.tmp _ _ R) .nil) R R) fun h17 hm=>Am<|Ae<|Ad tbk [0] 6 R R<|Aa R R (Bl pl172 R R)<|Ab R R<|Ax ap106 R R R R R fun b4=>Bd hm fun l2 h19 hm=>Ab R R<|Bp 2 T_drain_one.vv (l:=t.l) (l2:=[(⟨name,(0 : Int),false⟩ : T_drain_one)]) ap106 R R (sT_row 0 T_drain_one.vv el106 R R) h19 fun ob2 cap2=>Ad tbk [] 2 R R<|Ab R R<|Aj (i:=1) R R R ld106 R R R<|Ac<|Ag tbk [] R R<|Rg2 hm R [1,2] ob2 cap2 (.cons (.tmp _ _ R) .nil) R R

/-! trireme/triremelaw28.DrainNil -/
def law28_DrainNil (name : ByteArray) : Option Bool :=
 if (decide ((name.size : Int) > 300)) = true then
  (law28_known ([] : List T_cloud_pool) ([] : List T_cloud_inst)).bind fun r =>
  some r.1
 else
  (drain_New (3 : Int)).bind fun r2 =>
  po r2.1 (
   if ((r2.2 != 0) || true) = true then
    some false
   else
    (drain_Table_Start_x_x name).bind fun r4 =>
    if (r4 == 23) = true then
     (drain_Table_Start_x_x_x (⟨([] : List T_drain_one), 0, false⟩ : T_drain_Table) (⟨(), ([] : List T_api_Group), ([] : List T_api_Budget), ([] : List T_api_Machine), ([] : List T_api_Bound), []⟩ : T_world_World) name).bind fun r6 =>
     (if (r6.1 == 23) = true then (drain_Table_Start_x_x name).bind fun r7 =>
     some (r7 == 23) else some false).bind fun c =>
     (if c = true then (drain_Table_Start_x_x_x_x (⟨(), ([] : List T_api_Group), ([] : List T_api_Budget), ([] : List T_api_Machine), ([] : List T_api_Bound), []⟩ : T_world_World) name).bind fun r8 =>
     some (r8 == 23) else some false).bind fun c2 =>
     (if c2 = true then (drain_Table_Step_x_x ([] : List T_cloud_pool) ([] : List T_cloud_inst)).bind fun r9 =>
     some ((r9.length : Int) == 0) else some false).bind fun c3 =>
     if c3 = true then
      (drain_Table_Step_x_x_x r6.2.1 ([] : List T_cloud_pool) ([] : List T_cloud_inst)).bind fun r11 =>
      (if ((r11.1.length : Int) == 0) = true then (drain_Table_Step_x_x ([] : List T_cloud_pool) ([] : List T_cloud_inst)).bind fun r12 =>
      some ((r12.length : Int) == 0) else some false).bind fun c4 =>
      (if c4 = true then (drain_Table_Busy).bind fun r13 =>
      some ((r13.length : Int) == 0) else some false).bind fun c5 =>
      (if c5 = true then (drain_Table_Leaving_x r11.2).bind fun r14 =>
      some ((r14.length : Int) == 0) else some false).bind fun c6 =>
      (if c6 = true then (drain_Table_Copy).bind fun r15 =>
      some true else some false).bind fun c7 =>
      (if c7 = true then (drain_Table_Copy_x r11.2).bind fun r16 =>
      po r16 (
       some true) fun x2 =>
      some false else some false).bind fun c8 =>
      if c8 = true then
       (law28_known ([] : List T_cloud_pool) ([] : List T_cloud_inst)).bind fun r18 =>
       some r18.1
      else
       some false
     else
      some false
    else
     some false) fun x =>
  if ((r2.2 != 0) || false) = true then
   some false
  else
   (drain_Table_Start_x_x name).bind fun r20 =>
   if (r20 == 23) = true then
    (drain_Table_Start_x_x_x (⟨([] : List T_drain_one), 0, false⟩ : T_drain_Table) (⟨(), ([] : List T_api_Group), ([] : List T_api_Budget), ([] : List T_api_Machine), ([] : List T_api_Bound), []⟩ : T_world_World) name).bind fun r22 =>
    if (r22.1 == 23) = true then
     (drain_Table_Start_x_x_x_x_x x name).bind fun r24 =>
     if (r24.1 == 23) = true then
      (drain_Table_Start_x_x_x r24.2 (⟨(), ([] : List T_api_Group), ([] : List T_api_Budget), ([] : List T_api_Machine), ([] : List T_api_Bound), []⟩ : T_world_World) name).bind fun r26 =>
      (if (r26.1 == 23) = true then (drain_Table_Step_x_x ([] : List T_cloud_pool) ([] : List T_cloud_inst)).bind fun r27 =>
      some ((r27.length : Int) == 0) else some false).bind fun c9 =>
      if c9 = true then
       (drain_Table_Step_x_x_x r22.2.1 ([] : List T_cloud_pool) ([] : List T_cloud_inst)).bind fun r29 =>
       if ((r29.1.length : Int) == 0) = true then
        (drain_Table_Step_x_x_x r26.2.1 ([] : List T_cloud_pool) ([] : List T_cloud_inst)).bind fun r31 =>
        (if ((r31.1.length : Int) == 0) = true then (drain_Table_Busy).bind fun r32 =>
        some ((r32.length : Int) == 0) else some false).bind fun c10 =>
        (if c10 = true then (drain_Table_Leaving_x r29.2).bind fun r33 =>
        some ((r33.length : Int) == 0) else some false).bind fun c11 =>
        (if c11 = true then (drain_Table_Copy).bind fun r34 =>
        some true else some false).bind fun c12 =>
        (if c12 = true then (drain_Table_Copy_x r29.2).bind fun r35 =>
        po r35 (
         some true) fun x3 =>
        some false else some false).bind fun c13 =>
        if c13 = true then
         (law28_known ([] : List T_cloud_pool) ([] : List T_cloud_inst)).bind fun r37 =>
         some r37.1
        else
         some false
       else
        some false
      else
       some false
     else
      some false
    else
     some false
   else
    some false
theorem law28_DrainNil_ok (A0 A1 A2 A3 : Nat) (name : ByteArray) : VS Tryz.prog 7 (law28_DrainNil name) [.str name] [.ar A0 144 ([] : List Nat) (List.map T_cloud_pool.cells ([] : List T_cloud_pool)), .ar A1 157 ([] : List Nat) (List.map (T_cloud_inst.cells A0 A1) ([] : List T_cloud_inst)), .ar A2 144 ([] : List Nat) (List.map T_cloud_pool.cells ([] : List T_cloud_pool)), .ar A3 157 ([] : List Nat) (List.map (T_cloud_inst.cells A0 A1) ([] : List T_cloud_inst))] .bool N0 := by
 refine A7 [.tmp 2] Tryz.func7 R R R fun r hm=>?_
 unfold law28_DrainNil at hm
 refine Ag tbk [] R R<|Ah<|Ae<|Aa R R (Af R)<|Aa R R (C8 R Bn)<|Aa R R (Ce R R R)<|Ac<|Ao hm R (fun h1 hm=>?_) fun h1 hm=> ?_
 ·refine Ae<|Bd hm fun r h2 hm=>Au (A5 [2,3,0,1] R)<|Ab R R<|Aq 2 R fn37 R (K177 A2 A3 ([] : List T_cloud_pool) ([] : List T_cloud_inst) ([] : List Nat) ([] : List Nat) r h2) fun _ _ h3=> ?_
  obtain ⟨bs,bs2,rfl,rfl⟩:=h3
  exact Aa R R (Ai R)<|Ac<|Rt1 hm R [] R R R
 refine Am<|Ag tbk [] R R<|Ae<|Aa R R (Bl pl108 R R)<|Ab R R<|Bi R R fun b=>Aa R R (Ai R)<|Ac<|Ae<|Bd hm fun r2 h5 hm=>Ab R R<|Aq 0 R fn38 R (K48 (3 : Int) r2 h5) fun _ _ h127=> ?_
 obtain ⟨b2,ob,cap,rfl,rfl⟩:=h127
 rcases po_or hm with ⟨h126,hm⟩ | ⟨x,h126,hm⟩
 ·rw [h126]
  refine Ad tbk [] 5 R R<|Ac<|Ah<|Ae<|Ad tbk [] 3 R R<|C9 3 22 19 R (fun K' J=>Ad tbk [] 3 R R<|J 2 R R R) (fun h8 K' J=>Ba R R R R R (Af R)<|Ba R R R R R (Cr Cb R R)<|Aa R R (Bs false R R R)<|J 2 R R R)<|Ac<|Ao hm R (fun h9 hm=>Ag tbk [] R R<|Rt1 hm R [] R R R) fun h9 hm=>Am<|Ah<|Br (Az 172)<|Bw<|Ad tbk [] 2 R R<|Ab R R<|Ay hm 0 R fn39 R (K178 _) fun r4 hm=>Ad tbk [] 2 R R<|Dx hm 27 R (fun h18 hm=>?_) fun h18 hm=> ?_
  ·refine Ba R R R R R (Af R)<|Ba R R R R R (Bl pl43 R R)<|A8 R R R R R<|Bi R R fun b5=>Ba R R R R R (Af R)<|Au (Bg (Az 139) (Bg (Av (H':=[.box b5 43 [.nilptr,L139 ([] : List T_api_Group),.sl none 0 0,.sl none 0 0,.sl none 0 0,.nilmap],Q172 none 0 ([] : List T_drain_one),.box b 108 [Z172 none ([] : List T_drain_one) 0,Iw (0 : Int),.bool false],.ar A0 144 ([] : List Nat) (List.map T_cloud_pool.cells ([] : List T_cloud_pool)),.ar A1 157 ([] : List Nat) (List.map (T_cloud_inst.cells A0 A1) ([] : List T_cloud_inst)),.ar A2 144 ([] : List Nat) (List.map T_cloud_pool.cells ([] : List T_cloud_pool)),.ar A3 157 ([] : List Nat) (List.map (T_cloud_inst.cells A0 A1) ([] : List T_cloud_inst))]) 0 [] R trivial ⟨.box _ _ _ _ ⟨.same _,.here _ R,.same _,.same _,.same _,.same _,trivial⟩,.same _,.same _,.same _,.same _,.same _,.same _,trivial⟩) (Bg (Az 103) (Bg (Av (H':=[.box b5 43 [.nilptr,L139 ([] : List T_api_Group),L103 ([] : List T_api_Budget),.sl none 0 0,.sl none 0 0,.nilmap],Q172 none 0 ([] : List T_drain_one),.box b 108 [Z172 none ([] : List T_drain_one) 0,Iw (0 : Int),.bool false],.ar A0 144 ([] : List Nat) (List.map T_cloud_pool.cells ([] : List T_cloud_pool)),.ar A1 157 ([] : List Nat) (List.map (T_cloud_inst.cells A0 A1) ([] : List T_cloud_inst)),.ar A2 144 ([] : List Nat) (List.map T_cloud_pool.cells ([] : List T_cloud_pool)),.ar A3 157 ([] : List Nat) (List.map (T_cloud_inst.cells A0 A1) ([] : List T_cloud_inst))]) 0 [] R trivial ⟨.box _ _ _ _ ⟨.same _,.same _,.here _ R,.same _,.same _,.same _,trivial⟩,.same _,.same _,.same _,.same _,.same _,.same _,trivial⟩) (Bg (Az 68) (Bg (Av (H':=[.box b5 43 [.nilptr,L139 ([] : List T_api_Group),L103 ([] : List T_api_Budget),L68 ([] : List T_api_Machine),.sl none 0 0,.nilmap],Q172 none 0 ([] : List T_drain_one),.box b 108 [Z172 none ([] : List T_drain_one) 0,Iw (0 : Int),.bool false],.ar A0 144 ([] : List Nat) (List.map T_cloud_pool.cells ([] : List T_cloud_pool)),.ar A1 157 ([] : List Nat) (List.map (T_cloud_inst.cells A0 A1) ([] : List T_cloud_inst)),.ar A2 144 ([] : List Nat) (List.map T_cloud_pool.cells ([] : List T_cloud_pool)),.ar A3 157 ([] : List Nat) (List.map (T_cloud_inst.cells A0 A1) ([] : List T_cloud_inst))]) 0 [] R trivial ⟨.box _ _ _ _ ⟨.same _,.same _,.same _,.here _ R,.same _,.same _,trivial⟩,.same _,.same _,.same _,.same _,.same _,.same _,trivial⟩) (Bg (Az 64) (Av (H':=[.box b5 43 [.nilptr,L139 ([] : List T_api_Group),L103 ([] : List T_api_Budget),L68 ([] : List T_api_Machine),L64 ([] : List T_api_Bound),.nilmap],Q172 none 0 ([] : List T_drain_one),.box b 108 [Z172 none ([] : List T_drain_one) 0,Iw (0 : Int),.bool false],.ar A0 144 ([] : List Nat) (List.map T_cloud_pool.cells ([] : List T_cloud_pool)),.ar A1 157 ([] : List Nat) (List.map (T_cloud_inst.cells A0 A1) ([] : List T_cloud_inst)),.ar A2 144 ([] : List Nat) (List.map T_cloud_pool.cells ([] : List T_cloud_pool)),.ar A3 157 ([] : List Nat) (List.map (T_cloud_inst.cells A0 A1) ([] : List T_cloud_inst))]) 0 [] R trivial ⟨.box _ _ _ _ ⟨.same _,.same _,.same _,.same _,.here _ R,.same _,trivial⟩,.same _,.same _,.same _,.same _,.same _,.same _,trivial⟩))))))))<|?_
   refine Au (A5 [2,1,0,3,4,5,6] R)<|A8 R R R R R<|B6 hm 3 R fn39 R (K185 _ _ _ _ _ _ _) fun r6 ob3 cap3 hm=>Ad tbk [] 3 R R<|Bt hm 5 40 35 R (fun _ K' h21 J hm=>Ad tbk [] 2 R R<|A8 R R R R R<|Ay hm 0 R fn39 R (K178 _) fun r7 hm=>Ad tbk [] 2 R R<|J 4 R R (Bj hm)) (fun _ K' h21 J hm=>Ad tbk [] 5 R R<|J 4 R R (Bj hm)) fun c hm=>Aa R R (Af R)<|Bt hm 7 48 41 R (fun _ K' h24 J hm=>?_) (fun _ K' h24 J hm=>Ad tbk [] 7 R R<|J 6 R R (Bj hm)) fun c2 hm=> ?_
   ·refine Ba R R R R R (Af R)<|Ba R R R R R (Bl pl43 R R)<|A8 R R R R R<|Bi R R fun b6=>Ba R R R R R (Af R)<|Au (Bg (Az 139) (Bg (Av (H':=[.box b6 43 [.nilptr,L139 ([] : List T_api_Group),.sl none 0 0,.sl none 0 0,.sl none 0 0,.nilmap],.box b 108 [Z172 ob3 r6.2.1.l cap3,Iw r6.2.1.grace,.bool r6.2.1.made],Q172 ob3 cap3 r6.2.1.l,.box b5 43 [.nilptr,L139 r6.2.2.groups,L103 r6.2.2.budgets,L68 r6.2.2.ms,L64 r6.2.2.bs,.nilmap],.ar A0 144 ([] : List Nat) (List.map T_cloud_pool.cells ([] : List T_cloud_pool)),.ar A1 157 ([] : List Nat) (List.map (T_cloud_inst.cells A0 A1) ([] : List T_cloud_inst)),.ar A2 144 ([] : List Nat) (List.map T_cloud_pool.cells ([] : List T_cloud_pool)),.ar A3 157 ([] : List Nat) (List.map (T_cloud_inst.cells A0 A1) ([] : List T_cloud_inst))]) 0 [] R trivial ⟨.box _ _ _ _ ⟨.same _,.here _ R,.same _,.same _,.same _,.same _,trivial⟩,.same _,.same _,.same _,.same _,.same _,.same _,.same _,trivial⟩) (Bg (Az 103) (Bg (Av (H':=[.box b6 43 [.nilptr,L139 ([] : List T_api_Group),L103 ([] : List T_api_Budget),.sl none 0 0,.sl none 0 0,.nilmap],.box b 108 [Z172 ob3 r6.2.1.l cap3,Iw r6.2.1.grace,.bool r6.2.1.made],Q172 ob3 cap3 r6.2.1.l,.box b5 43 [.nilptr,L139 r6.2.2.groups,L103 r6.2.2.budgets,L68 r6.2.2.ms,L64 r6.2.2.bs,.nilmap],.ar A0 144 ([] : List Nat) (List.map T_cloud_pool.cells ([] : List T_cloud_pool)),.ar A1 157 ([] : List Nat) (List.map (T_cloud_inst.cells A0 A1) ([] : List T_cloud_inst)),.ar A2 144 ([] : List Nat) (List.map T_cloud_pool.cells ([] : List T_cloud_pool)),.ar A3 157 ([] : List Nat) (List.map (T_cloud_inst.cells A0 A1) ([] : List T_cloud_inst))]) 0 [] R trivial ⟨.box _ _ _ _ ⟨.same _,.same _,.here _ R,.same _,.same _,.same _,trivial⟩,.same _,.same _,.same _,.same _,.same _,.same _,.same _,trivial⟩) (Bg (Az 68) (Bg (Av (H':=[.box b6 43 [.nilptr,L139 ([] : List T_api_Group),L103 ([] : List T_api_Budget),L68 ([] : List T_api_Machine),.sl none 0 0,.nilmap],.box b 108 [Z172 ob3 r6.2.1.l cap3,Iw r6.2.1.grace,.bool r6.2.1.made],Q172 ob3 cap3 r6.2.1.l,.box b5 43 [.nilptr,L139 r6.2.2.groups,L103 r6.2.2.budgets,L68 r6.2.2.ms,L64 r6.2.2.bs,.nilmap],.ar A0 144 ([] : List Nat) (List.map T_cloud_pool.cells ([] : List T_cloud_pool)),.ar A1 157 ([] : List Nat) (List.map (T_cloud_inst.cells A0 A1) ([] : List T_cloud_inst)),.ar A2 144 ([] : List Nat) (List.map T_cloud_pool.cells ([] : List T_cloud_pool)),.ar A3 157 ([] : List Nat) (List.map (T_cloud_inst.cells A0 A1) ([] : List T_cloud_inst))]) 0 [] R trivial ⟨.box _ _ _ _ ⟨.same _,.same _,.same _,.here _ R,.same _,.same _,trivial⟩,.same _,.same _,.same _,.same _,.same _,.same _,.same _,trivial⟩) (Bg (Az 64) (Av (H':=[.box b6 43 [.nilptr,L139 ([] : List T_api_Group),L103 ([] : List T_api_Budget),L68 ([] : List T_api_Machine),L64 ([] : List T_api_Bound),.nilmap],.box b 108 [Z172 ob3 r6.2.1.l cap3,Iw r6.2.1.grace,.bool r6.2.1.made],Q172 ob3 cap3 r6.2.1.l,.box b5 43 [.nilptr,L139 r6.2.2.groups,L103 r6.2.2.budgets,L68 r6.2.2.ms,L64 r6.2.2.bs,.nilmap],.ar A0 144 ([] : List Nat) (List.map T_cloud_pool.cells ([] : List T_cloud_pool)),.ar A1 157 ([] : List Nat) (List.map (T_cloud_inst.cells A0 A1) ([] : List T_cloud_inst)),.ar A2 144 ([] : List Nat) (List.map T_cloud_pool.cells ([] : List T_cloud_pool)),.ar A3 157 ([] : List Nat) (List.map (T_cloud_inst.cells A0 A1) ([] : List T_cloud_inst))]) 0 [] R trivial ⟨.box _ _ _ _ ⟨.same _,.same _,.same _,.same _,.here _ R,.same _,trivial⟩,.same _,.same _,.same _,.same _,.same _,.same _,.same _,trivial⟩))))))))<|?_
    exact A8 R R R R R<|Ay hm 1 R fn39 R (K186 _ _ _) fun r8 hm=>Ad tbk [] 2 R R<|Au (A5 [1,2,3,4,5,6,7] R)<|J 6 R R (Bj hm)
   refine Aa R R (Af R)<|Bt hm 5 54 49 R (fun _ K' h28 J hm=>Ba R R R R R (Af R)<|Au (A5 [3,4,0,1,2,5,6] R)<|A8 R R R R R<|B6 hm 2 R fn42 R (K187 A0 A1 _ _ _ _) fun r9 ob4 cap4 hm=>Au (Av 0 [(51,L9 r9)] R ⟨⟨_,R,.here _ R⟩,trivial⟩ (FzH.refl _))<|Ba R R R R R (Be VV.str R Bm)<|Ad tbk [] 2 R R<|Au (A5 [2,3,4,0,1,5,6] R)<|J 5 R R (Bj hm)) (fun _ K' h28 J hm=>Ad tbk [] 5 R R<|J 4 R R (Bj hm)) fun c3 hm=>Aa R R (Af R)<|Dx hm 55 R (fun h35 hm=>?_) fun h35 hm=> ?_
   ·refine Ba R R R R R (Af R)<|Bd hm fun r11 h36 hm=>Au (A5 [0,1,3,4,2,5,6] R)<|A8 R R R R R<|Aq 4 R fn42 R (K0 A0 A1 r6.2.1 ([] : List T_cloud_pool) ([] : List T_cloud_inst) b ob3 cap3 ([] : List Nat) ([] : List Nat) r11 h36) fun _ _ h63=> ?_
    obtain ⟨ob7,cap7,ob8,cap8,rfl,rfl⟩:=h63
    refine Au (Av 0 [(57,L9 r11.1)] R ⟨⟨_,R,.here _ R⟩,trivial⟩ (FzH.refl _))<|Ba R R R R R (Be VV.str R Bm)<|Ad tbk [] 3 R R<|Bt hm 5 66 61 R (fun _ K' h38 J hm=>Ba R R R R R (Af R)<|Au (A5 [2,3,0,1,4,5,6] R)<|A8 R R R R R<|B6 hm 2 R fn42 R (K187 A0 A1 _ _ _ _) fun r12 ob9 cap9 hm=>Au (Av 0 [(63,L9 r12)] R ⟨⟨_,R,.here _ R⟩,trivial⟩ (FzH.refl _))<|Ba R R R R R (Be VV.str R Bm)<|Ad tbk [] 2 R R<|Au (A5 [2,3,0,1,4,5,6] R)<|J 5 R R (Bj hm)) (fun _ K' h38 J hm=>Ad tbk [] 5 R R<|J 4 R R (Bj hm)) fun c4 hm=>Aa R R (Af R)<|Bt hm 5 72 67 R (fun _ K' h42 J hm=>Ba R R R R R (Af R)<|A8 R R R R R<|Ay hm 0 R fn41 R (K141) fun r13 hm=>Ba R R R R R (Be VV.str R Bm)<|Ad tbk [] 2 R R<|J 4 R R (Bj hm)) (fun _ K' h42 J hm=>Ad tbk [] 5 R R<|J 4 R R (Bj hm)) fun c5 hm=>Aa R R (Af R)<|Bt hm 5 78 73 R (fun _ K' h45 J hm=>Ba R R R R R (Af R)<|A8 R R R R R<|Ay hm 2 R fn47 R (K173 _ _ _ _) fun r14 hm=>Ba R R R R R (Be VV.str R Bm)<|Ad tbk [] 2 R R<|J 4 R R (Bj hm)) (fun _ K' h45 J hm=>Ad tbk [] 5 R R<|J 4 R R (Bj hm)) fun c6 hm=>Aa R R (Af R)<|Bt hm 4 83 79 R (fun _ K' h48 J hm=>Ba R R R R R (Af R)<|A8 R R R R R<|Ay hm 0 R fn48 R (K1) fun r15 hm=>Ba R R R R R (Cr Cb R R)<|Aa R R (Bs true R R R)<|J 3 R R (Bj hm)) (fun _ K' h48 J hm=>Ad tbk [] 4 R R<|J 3 R R (Bj hm)) fun c7 hm=>Aa R R (Af R)<|Bt hm 4 88 84 R (fun _ K' h51 J hm=>?_) (fun _ K' h51 J hm=>Ad tbk [] 4 R R<|J 3 R R (Bj hm)) fun c8 hm=> ?_
    ·refine Ba R R R R R (Af R)<|Bd hm fun r16 h52 hm=>A8 R R R R R<|Aq 2 R fn48 R (K2 r11.2 b ob8 cap8 r16 h52) fun _ _ h56=> ?_
     obtain ⟨b7,ob10,cap10,rfl,rfl⟩:=h56
     rcases po_or hm with ⟨h55,hm⟩ | ⟨x2,h55,hm⟩
     ·rw [h55]
      exact Ba R R R R R (Cr Cb R R)<|Aa R R (Bs true R R R)<|J 3 R R (Bj hm)
     ·rw [h55]
      exact Ba R R R R R (Cr Cb R R)<|Aa R R (Bs true R R R)<|Au (A5 [2,3,4,5,6,7,8] R)<|J 3 R R (Bj hm)
    refine Aa R R (Af R)<|Dx hm 89 R (fun h60 hm=>?_) fun h60 hm=> ?_
    ·refine Bd hm fun r18 h61 hm=>Au (A5 [5,6,0,1,2,3,4] R)<|A8 R R R R R<|Aq 2 R fn37 R (K177 A2 A3 ([] : List T_cloud_pool) ([] : List T_cloud_inst) ([] : List Nat) ([] : List Nat) r18 h61) fun _ _ h62=> ?_
     obtain ⟨bs5,bs6,rfl,rfl⟩:=h62
     exact Ad tbk [] 2 R R<|Ac<|Rt1 hm R [] R R R
    exact Ad tbk [] 3 R R<|Ac<|Rt1 hm R [] R R R
   exact Ad tbk [] 37 R R<|Ac<|Rt1 hm R [] R R R
  exact Ad tbk [] 65 R R<|Ac<|Rt1 hm R [] R R R
 ·rw [h126]
  refine Ad tbk [] 5 R R<|Ac<|Ah<|Ae<|Ad tbk [] 3 R R<|C9 3 22 19 R (fun K' J=>Ad tbk [] 3 R R<|J 2 R R R) (fun h64 K' J=>Ba R R R R R (Af R)<|Ba R R R R R (Cr Cb R R)<|Aa R R (Bs false R R R)<|J 2 R R R)<|Ac<|Ao hm R (fun h65 hm=>Ag tbk [] R R<|Rt1 hm R [] R R R) fun h65 hm=>Am<|Ah<|Br (Az 172)<|Bw<|Ad tbk [] 2 R R<|Ab R R<|Ay hm 0 R fn39 R (K178 _) fun r20 hm=>Ad tbk [] 2 R R<|Dx hm 27 R (fun h74 hm=>?_) fun h74 hm=> ?_
  ·refine Ba R R R R R (Af R)<|Ba R R R R R (Bl pl43 R R)<|A8 R R R R R<|Bi R R fun b10=>Ba R R R R R (Af R)<|Au (Bg (Az 139) (Bg (Av (H':=[.box b10 43 [.nilptr,L139 ([] : List T_api_Group),.sl none 0 0,.sl none 0 0,.sl none 0 0,.nilmap],Q172 none 0 ([] : List T_drain_one),.box b2 108 [Z172 ob x.l cap,Iw x.grace,.bool x.made],Q172 ob cap x.l,.box b 108 [Z172 none ([] : List T_drain_one) 0,Iw (0 : Int),.bool false],.ar A0 144 ([] : List Nat) (List.map T_cloud_pool.cells ([] : List T_cloud_pool)),.ar A1 157 ([] : List Nat) (List.map (T_cloud_inst.cells A0 A1) ([] : List T_cloud_inst)),.ar A2 144 ([] : List Nat) (List.map T_cloud_pool.cells ([] : List T_cloud_pool)),.ar A3 157 ([] : List Nat) (List.map (T_cloud_inst.cells A0 A1) ([] : List T_cloud_inst))]) 0 [] R trivial ⟨.box _ _ _ _ ⟨.same _,.here _ R,.same _,.same _,.same _,.same _,trivial⟩,.same _,.same _,.same _,.same _,.same _,.same _,.same _,.same _,trivial⟩) (Bg (Az 103) (Bg (Av (H':=[.box b10 43 [.nilptr,L139 ([] : List T_api_Group),L103 ([] : List T_api_Budget),.sl none 0 0,.sl none 0 0,.nilmap],Q172 none 0 ([] : List T_drain_one),.box b2 108 [Z172 ob x.l cap,Iw x.grace,.bool x.made],Q172 ob cap x.l,.box b 108 [Z172 none ([] : List T_drain_one) 0,Iw (0 : Int),.bool false],.ar A0 144 ([] : List Nat) (List.map T_cloud_pool.cells ([] : List T_cloud_pool)),.ar A1 157 ([] : List Nat) (List.map (T_cloud_inst.cells A0 A1) ([] : List T_cloud_inst)),.ar A2 144 ([] : List Nat) (List.map T_cloud_pool.cells ([] : List T_cloud_pool)),.ar A3 157 ([] : List Nat) (List.map (T_cloud_inst.cells A0 A1) ([] : List T_cloud_inst))]) 0 [] R trivial ⟨.box _ _ _ _ ⟨.same _,.same _,.here _ R,.same _,.same _,.same _,trivial⟩,.same _,.same _,.same _,.same _,.same _,.same _,.same _,.same _,trivial⟩) (Bg (Az 68) (Bg (Av (H':=[.box b10 43 [.nilptr,L139 ([] : List T_api_Group),L103 ([] : List T_api_Budget),L68 ([] : List T_api_Machine),.sl none 0 0,.nilmap],Q172 none 0 ([] : List T_drain_one),.box b2 108 [Z172 ob x.l cap,Iw x.grace,.bool x.made],Q172 ob cap x.l,.box b 108 [Z172 none ([] : List T_drain_one) 0,Iw (0 : Int),.bool false],.ar A0 144 ([] : List Nat) (List.map T_cloud_pool.cells ([] : List T_cloud_pool)),.ar A1 157 ([] : List Nat) (List.map (T_cloud_inst.cells A0 A1) ([] : List T_cloud_inst)),.ar A2 144 ([] : List Nat) (List.map T_cloud_pool.cells ([] : List T_cloud_pool)),.ar A3 157 ([] : List Nat) (List.map (T_cloud_inst.cells A0 A1) ([] : List T_cloud_inst))]) 0 [] R trivial ⟨.box _ _ _ _ ⟨.same _,.same _,.same _,.here _ R,.same _,.same _,trivial⟩,.same _,.same _,.same _,.same _,.same _,.same _,.same _,.same _,trivial⟩) (Bg (Az 64) (Av (H':=[.box b10 43 [.nilptr,L139 ([] : List T_api_Group),L103 ([] : List T_api_Budget),L68 ([] : List T_api_Machine),L64 ([] : List T_api_Bound),.nilmap],Q172 none 0 ([] : List T_drain_one),.box b2 108 [Z172 ob x.l cap,Iw x.grace,.bool x.made],Q172 ob cap x.l,.box b 108 [Z172 none ([] : List T_drain_one) 0,Iw (0 : Int),.bool false],.ar A0 144 ([] : List Nat) (List.map T_cloud_pool.cells ([] : List T_cloud_pool)),.ar A1 157 ([] : List Nat) (List.map (T_cloud_inst.cells A0 A1) ([] : List T_cloud_inst)),.ar A2 144 ([] : List Nat) (List.map T_cloud_pool.cells ([] : List T_cloud_pool)),.ar A3 157 ([] : List Nat) (List.map (T_cloud_inst.cells A0 A1) ([] : List T_cloud_inst))]) 0 [] R trivial ⟨.box _ _ _ _ ⟨.same _,.same _,.same _,.same _,.here _ R,.same _,trivial⟩,.same _,.same _,.same _,.same _,.same _,.same _,.same _,.same _,trivial⟩))))))))<|?_
   refine Au (A5 [4,1,0,2,3,5,6,7,8] R)<|A8 R R R R R<|B6 hm 3 R fn39 R (K185 _ _ _ _ _ _ _) fun r22 ob12 cap12 hm=>Ad tbk [] 3 R R<|Dx hm 35 R (fun h79 hm=>?_) fun h79 hm=> ?_
   ·refine Ad tbk [] 2 R R<|Au (A5 [3,4,0,1,2,5,6,7,8] R)<|A8 R R R R R<|B6 hm 2 R fn39 R (K5 _ _ _ _ _) fun r24 ob14 cap14 hm=>Ad tbk [] 3 R R<|Dx hm 41 R (fun h84 hm=>?_) fun h84 hm=> ?_
    ·refine Ba R R R R R (Af R)<|Ba R R R R R (Bl pl43 R R)<|A8 R R R R R<|Bi R R fun b12=>Ba R R R R R (Af R)<|Au (Bg (Az 139) (Bg (Av (H':=[.box b12 43 [.nilptr,L139 ([] : List T_api_Group),.sl none 0 0,.sl none 0 0,.sl none 0 0,.nilmap],.box b2 108 [Z172 ob14 r24.2.l cap14,Iw r24.2.grace,.bool r24.2.made],Q172 ob14 cap14 r24.2.l,.box b 108 [Z172 ob12 r22.2.1.l cap12,Iw r22.2.1.grace,.bool r22.2.1.made],Q172 ob12 cap12 r22.2.1.l,.box b10 43 [.nilptr,L139 r22.2.2.groups,L103 r22.2.2.budgets,L68 r22.2.2.ms,L64 r22.2.2.bs,.nilmap],.ar A0 144 ([] : List Nat) (List.map T_cloud_pool.cells ([] : List T_cloud_pool)),.ar A1 157 ([] : List Nat) (List.map (T_cloud_inst.cells A0 A1) ([] : List T_cloud_inst)),.ar A2 144 ([] : List Nat) (List.map T_cloud_pool.cells ([] : List T_cloud_pool)),.ar A3 157 ([] : List Nat) (List.map (T_cloud_inst.cells A0 A1) ([] : List T_cloud_inst))]) 0 [] R trivial ⟨.box _ _ _ _ ⟨.same _,.here _ R,.same _,.same _,.same _,.same _,trivial⟩,.same _,.same _,.same _,.same _,.same _,.same _,.same _,.same _,.same _,trivial⟩) (Bg (Az 103) (Bg (Av (H':=[.box b12 43 [.nilptr,L139 ([] : List T_api_Group),L103 ([] : List T_api_Budget),.sl none 0 0,.sl none 0 0,.nilmap],.box b2 108 [Z172 ob14 r24.2.l cap14,Iw r24.2.grace,.bool r24.2.made],Q172 ob14 cap14 r24.2.l,.box b 108 [Z172 ob12 r22.2.1.l cap12,Iw r22.2.1.grace,.bool r22.2.1.made],Q172 ob12 cap12 r22.2.1.l,.box b10 43 [.nilptr,L139 r22.2.2.groups,L103 r22.2.2.budgets,L68 r22.2.2.ms,L64 r22.2.2.bs,.nilmap],.ar A0 144 ([] : List Nat) (List.map T_cloud_pool.cells ([] : List T_cloud_pool)),.ar A1 157 ([] : List Nat) (List.map (T_cloud_inst.cells A0 A1) ([] : List T_cloud_inst)),.ar A2 144 ([] : List Nat) (List.map T_cloud_pool.cells ([] : List T_cloud_pool)),.ar A3 157 ([] : List Nat) (List.map (T_cloud_inst.cells A0 A1) ([] : List T_cloud_inst))]) 0 [] R trivial ⟨.box _ _ _ _ ⟨.same _,.same _,.here _ R,.same _,.same _,.same _,trivial⟩,.same _,.same _,.same _,.same _,.same _,.same _,.same _,.same _,.same _,trivial⟩) (Bg (Az 68) (Bg (Av (H':=[.box b12 43 [.nilptr,L139 ([] : List T_api_Group),L103 ([] : List T_api_Budget),L68 ([] : List T_api_Machine),.sl none 0 0,.nilmap],.box b2 108 [Z172 ob14 r24.2.l cap14,Iw r24.2.grace,.bool r24.2.made],Q172 ob14 cap14 r24.2.l,.box b 108 [Z172 ob12 r22.2.1.l cap12,Iw r22.2.1.grace,.bool r22.2.1.made],Q172 ob12 cap12 r22.2.1.l,.box b10 43 [.nilptr,L139 r22.2.2.groups,L103 r22.2.2.budgets,L68 r22.2.2.ms,L64 r22.2.2.bs,.nilmap],.ar A0 144 ([] : List Nat) (List.map T_cloud_pool.cells ([] : List T_cloud_pool)),.ar A1 157 ([] : List Nat) (List.map (T_cloud_inst.cells A0 A1) ([] : List T_cloud_inst)),.ar A2 144 ([] : List Nat) (List.map T_cloud_pool.cells ([] : List T_cloud_pool)),.ar A3 157 ([] : List Nat) (List.map (T_cloud_inst.cells A0 A1) ([] : List T_cloud_inst))]) 0 [] R trivial ⟨.box _ _ _ _ ⟨.same _,.same _,.same _,.here _ R,.same _,.same _,trivial⟩,.same _,.same _,.same _,.same _,.same _,.same _,.same _,.same _,.same _,trivial⟩) (Bg (Az 64) (Av (H':=[.box b12 43 [.nilptr,L139 ([] : List T_api_Group),L103 ([] : List T_api_Budget),L68 ([] : List T_api_Machine),L64 ([] : List T_api_Bound),.nilmap],.box b2 108 [Z172 ob14 r24.2.l cap14,Iw r24.2.grace,.bool r24.2.made],Q172 ob14 cap14 r24.2.l,.box b 108 [Z172 ob12 r22.2.1.l cap12,Iw r22.2.1.grace,.bool r22.2.1.made],Q172 ob12 cap12 r22.2.1.l,.box b10 43 [.nilptr,L139 r22.2.2.groups,L103 r22.2.2.budgets,L68 r22.2.2.ms,L64 r22.2.2.bs,.nilmap],.ar A0 144 ([] : List Nat) (List.map T_cloud_pool.cells ([] : List T_cloud_pool)),.ar A1 157 ([] : List Nat) (List.map (T_cloud_inst.cells A0 A1) ([] : List T_cloud_inst)),.ar A2 144 ([] : List Nat) (List.map T_cloud_pool.cells ([] : List T_cloud_pool)),.ar A3 157 ([] : List Nat) (List.map (T_cloud_inst.cells A0 A1) ([] : List T_cloud_inst))]) 0 [] R trivial ⟨.box _ _ _ _ ⟨.same _,.same _,.same _,.same _,.here _ R,.same _,trivial⟩,.same _,.same _,.same _,.same _,.same _,.same _,.same _,.same _,.same _,trivial⟩))))))))<|?_
     refine Au (A5 [1,2,0,3,4,5,6,7,8,9] R)<|A8 R R R R R<|B6 hm 3 R fn39 R (K185 _ _ _ _ _ _ _) fun r26 ob16 cap16 hm=>Ad tbk [] 3 R R<|Bt hm 5 54 49 R (fun _ K' h87 J hm=>Ba R R R R R (Af R)<|Au (A5 [6,7,0,1,2,3,4,5,8,9] R)<|A8 R R R R R<|B6 hm 2 R fn42 R (K187 A0 A1 _ _ _ _) fun r27 ob17 cap17 hm=>Au (Av 0 [(51,L9 r27)] R ⟨⟨_,R,.here _ R⟩,trivial⟩ (FzH.refl _))<|Ba R R R R R (Be VV.str R Bm)<|Ad tbk [] 2 R R<|Au (A5 [2,3,4,5,6,7,0,1,8,9] R)<|J 5 R R (Bj hm)) (fun _ K' h87 J hm=>Ad tbk [] 5 R R<|J 4 R R (Bj hm)) fun c9 hm=>Aa R R (Af R)<|Dx hm 55 R (fun h94 hm=>?_) fun h94 hm=> ?_
     ·refine Ba R R R R R (Af R)<|Bd hm fun r29 h95 hm=>Au (A5 [3,4,6,7,0,1,2,5,8,9] R)<|A8 R R R R R<|Aq 4 R fn42 R (K0 A0 A1 r22.2.1 ([] : List T_cloud_pool) ([] : List T_cloud_inst) b ob12 cap12 ([] : List Nat) ([] : List Nat) r29 h95) fun _ _ h125=> ?_
      obtain ⟨ob20,cap20,ob21,cap21,rfl,rfl⟩:=h125
      refine Au (Av 0 [(57,L9 r29.1)] R ⟨⟨_,R,.here _ R⟩,trivial⟩ (FzH.refl _))<|Ba R R R R R (Be VV.str R Bm)<|Ad tbk [] 3 R R<|Dx hm 61 R (fun h100 hm=>?_) fun h100 hm=> ?_
      ·refine Ba R R R R R (Af R)<|Bd hm fun r31 h101 hm=>Au (A5 [4,5,2,3,0,1,6,7,8,9] R)<|A8 R R R R R<|Aq 4 R fn42 R (K0 A0 A1 r26.2.1 ([] : List T_cloud_pool) ([] : List T_cloud_inst) b2 ob16 cap16 ([] : List Nat) ([] : List Nat) r31 h101) fun _ _ h124=> ?_
       obtain ⟨ob24,cap24,ob25,cap25,rfl,rfl⟩:=h124
       refine Au (Av 0 [(63,L9 r31.1)] R ⟨⟨_,R,.here _ R⟩,trivial⟩ (FzH.refl _))<|Ba R R R R R (Be VV.str R Bm)<|Ad tbk [] 3 R R<|Bt hm 5 72 67 R (fun _ K' h103 J hm=>Ba R R R R R (Af R)<|A8 R R R R R<|Ay hm 0 R fn41 R (K141) fun r32 hm=>Ba R R R R R (Be VV.str R Bm)<|Ad tbk [] 2 R R<|J 4 R R (Bj hm)) (fun _ K' h103 J hm=>Ad tbk [] 5 R R<|J 4 R R (Bj hm)) fun c10 hm=>Aa R R (Af R)<|Bt hm 5 78 73 R (fun _ K' h106 J hm=>Ba R R R R R (Af R)<|Au (A5 [4,5,0,1,2,3,6,7,8,9] R)<|A8 R R R R R<|Ay hm 2 R fn47 R (K173 _ _ _ _) fun r33 hm=>Ba R R R R R (Be VV.str R Bm)<|Ad tbk [] 2 R R<|Au (A5 [2,3,4,5,0,1,6,7,8,9] R)<|J 4 R R (Bj hm)) (fun _ K' h106 J hm=>Ad tbk [] 5 R R<|J 4 R R (Bj hm)) fun c11 hm=>Aa R R (Af R)<|Bt hm 4 83 79 R (fun _ K' h109 J hm=>Ba R R R R R (Af R)<|A8 R R R R R<|Ay hm 0 R fn48 R (K1) fun r34 hm=>Ba R R R R R (Cr Cb R R)<|Aa R R (Bs true R R R)<|J 3 R R (Bj hm)) (fun _ K' h109 J hm=>Ad tbk [] 4 R R<|J 3 R R (Bj hm)) fun c12 hm=>Aa R R (Af R)<|Bt hm 4 88 84 R (fun _ K' h112 J hm=>?_) (fun _ K' h112 J hm=>Ad tbk [] 4 R R<|J 3 R R (Bj hm)) fun c13 hm=> ?_
       ·refine Ba R R R R R (Af R)<|Bd hm fun r35 h113 hm=>Au (A5 [4,5,0,1,2,3,6,7,8,9] R)<|A8 R R R R R<|Aq 2 R fn48 R (K2 r29.2 b ob21 cap21 r35 h113) fun _ _ h117=> ?_
        obtain ⟨b13,ob26,cap26,rfl,rfl⟩:=h117
        rcases po_or hm with ⟨h116,hm⟩ | ⟨x3,h116,hm⟩
        ·rw [h116]
         exact Ba R R R R R (Cr Cb R R)<|Aa R R (Bs true R R R)<|Au (A5 [2,3,4,5,0,1,6,7,8,9] R)<|J 3 R R (Bj hm)
        ·rw [h116]
         exact Ba R R R R R (Cr Cb R R)<|Aa R R (Bs true R R R)<|Au (A5 [4,5,6,7,2,3,8,9,10,11] R)<|J 3 R R (Bj hm)
       refine Aa R R (Af R)<|Dx hm 89 R (fun h121 hm=>?_) fun h121 hm=> ?_
       ·refine Bd hm fun r37 h122 hm=>Au (A5 [8,9,0,1,2,3,4,5,6,7] R)<|A8 R R R R R<|Aq 2 R fn37 R (K177 A2 A3 ([] : List T_cloud_pool) ([] : List T_cloud_inst) ([] : List Nat) ([] : List Nat) r37 h122) fun _ _ h123=> ?_
        obtain ⟨bs9,bs10,rfl,rfl⟩:=h123
        exact Ad tbk [] 2 R R<|Ac<|Rt1 hm R [] R R R
       exact Ad tbk [] 3 R R<|Ac<|Rt1 hm R [] R R R
      exact Ad tbk [] 31 R R<|Ac<|Rt1 hm R [] R R R
     exact Ad tbk [] 37 R R<|Ac<|Rt1 hm R [] R R R
    exact Ad tbk [] 51 R R<|Ac<|Rt1 hm R [] R R R
   exact Ad tbk [] 57 R R<|Ac<|Rt1 hm R [] R R R
  exact Ad tbk [] 65 R R<|Ac<|Rt1 hm R [] R R R

end Go.Proofs.YtbgfffdnaijmhaaGreat.M

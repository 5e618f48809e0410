/-
  Printed by a program of this session out of the loaded functions: models and their proofs. Own text.
-/
import Derived.Test.YtbgfffdnaijmhaaGreatWKF2
namespace Go.Proofs.YtbgfffdnaijmhaaGreat.M
open Go Go.Proofs Go.Proofs.YtbgfffdnaijmhaaGreat.V
open Go.IntKind (i64)
set_option linter.unusedVariables false
set_option maxRecDepth 20000
set_option maxHeartbeats 40000000
/-! trireme/triremeref09.Find -/
def ref09_Find.l1 (ms : List T_api_Machine) (name : ByteArray) : Nat → Int → Option (Out Int Unit)
 | 0, _ => none
 | n + 1, i2 =>
  if (decide (i2 < (ms.length : Int))) = true then
   (V.gl ms i2).bind fun x =>
   if (V.seq x.Name name) = true then
    some (Out.ret i2)
   else
    ref09_Find.l1 ms name n (i64.wrap (i2 + 1))
  else
   some (Out.go ())
def ref09_Find (ms : List T_api_Machine) (name : ByteArray) : Option Int :=
 (ref09_Find.l1 ms name FU (0 : Int)).bind fun o =>
 o.on fun j =>
 some (-1)
theorem K0 (ms : List T_api_Machine) (name : ByteArray) : VS Tryz.prog 87 (ref09_Find ms name) [L68 ms, .str name] [] Iw N0 := by
 refine Az [.tmp 4] Tryz.func87 R R R fun r hm=>?_
 unfold ref09_Find at hm
 refine Af tbk [] R R<|Ag<|Af tbk [] R R<|B1 hm (fun _ (_:Unit)=>[]) (fun _ (_:Unit)=>[]) (fun o hm h2=>?_) fun j _ hm=> ?_
 ·refine B8 (fun zn (zs:Int)=>ref09_Find.l1 ms name zn zs) (fun zs (_:Unit)=>[(0,L68 ms),(1,.str name),(5,Iw zs)]) (fun _ (_:Unit)=>[]) _ () (fun _=>R) hm (Ah [] R R) fun n i2 _ hm=> ?_
  rw [ref09_Find.l1] at hm
  exact Ag<|Ae<|Ab tbk [] 2 R R<|Aa R R (Ay T_api_Machine.vv R Ch)<|Aa R R (Bl R R R)<|Ac<|An hm R (fun h3 hm=>Ak<|Ag<|Au<|Ae<|Ab tbk [] 2 R R<|Bd hm fun x h4 hm=>Aa R R (Br T_api_Machine.vv R R el39 h4)<|Ab tbk [] 4 R R<|Ac<|An hm R (fun h5 hm=>Af tbk [] R R<|have hm:=Lr hm h2;Rt1 hm R [] R R R) fun h5 hm=>Ak<|A9 tbk [] R R<|Ap _ () hm (Ah [] R R)) fun h3 hm=>A4<|Ar () hm (Ah [] R R)
 exact Af tbk [] R R<|Rt1 hm R [] R R R

/-! trireme/triremeref09.Check -/
def ref09_Check.l1 (ms : List T_api_Machine) : Nat → Int → Option (Out Int Unit)
 | 0, _ => none
 | n + 1, i2 =>
  if (decide (i2 < (ms.length : Int))) = true then
   (V.gl ms i2).bind fun x =>
   (if (V.seq x.Name (⟨#[]⟩ : ByteArray)) = true then some true else (V.gl ms i2).bind fun x2 =>
   (ref07_RightMachine x2).bind fun r =>
   some (!r)).bind fun c =>
   if c = true then
    some (Out.ret 12)
   else
    ref09_Check.l1 ms n (i64.wrap (i2 + 1))
  else
   some (Out.go ())
def ref09_Check.l2 (bs : List T_api_Bound) : Nat → Int → Option (Out Int Unit)
 | 0, _ => none
 | n2 + 1, i4 =>
  if (decide (i4 < (bs.length : Int))) = true then
   (V.gl bs i4).bind fun x3 =>
   (ref07_RightPod x3.Pod).bind fun r2 =>
   if (!r2) = true then
    some (Out.ret 12)
   else
    ref09_Check.l2 bs n2 (i64.wrap (i4 + 1))
  else
   some (Out.go ())
def ref09_Check.l3 (ms : List T_api_Machine) : Nat → Int → Option (Out Int Unit)
 | 0, _ => none
 | n3 + 1, i6 =>
  if (decide (i6 < (ms.length : Int))) = true then
   (V.gl ms i6).bind fun x4 =>
   (ref09_Find ms x4.Name).bind fun r3 =>
   if (r3 != i6) = true then
    some (Out.ret 15)
   else
    ref09_Check.l3 ms n3 (i64.wrap (i6 + 1))
  else
   some (Out.go ())
def ref09_Check.l4 (bs : List T_api_Bound) : Nat → Int → Option (Out Int Unit)
 | 0, _ => none
 | n4 + 1, i8 =>
  if (decide (i8 < (bs.length : Int))) = true then
   (V.gl bs i8).bind fun x5 =>
   (ref09_Place bs x5.Pod.Name).bind fun r4 =>
   if (r4 != i8) = true then
    some (Out.ret 15)
   else
    ref09_Check.l4 bs n4 (i64.wrap (i8 + 1))
  else
   some (Out.go ())
def ref09_Check.l5 (ms : List T_api_Machine) (bs : List T_api_Bound) : Nat → Int → Option (Out Int Unit)
 | 0, _ => none
 | n5 + 1, i10 =>
  if (decide (i10 < (bs.length : Int))) = true then
   (V.gl bs i10).bind fun x6 =>
   (if (!(V.seq x6.On (⟨#[]⟩ : ByteArray))) = true then (V.gl bs i10).bind fun x7 =>
   (ref09_Find ms x7.On).bind fun r5 =>
   some (decide (r5 < 0)) else some false).bind fun c2 =>
   if c2 = true then
    some (Out.ret 16)
   else
    ref09_Check.l5 ms bs n5 (i64.wrap (i10 + 1))
  else
   some (Out.go ())
def ref09_Check (ms : List T_api_Machine) (bs : List T_api_Bound) : Option Int :=
 if ((decide ((ms.length : Int) > 200)) || (decide ((bs.length : Int) > 400))) = true then
  some 7
 else
  (ref09_Check.l1 ms FU (0 : Int)).bind fun o =>
  o.on fun j =>
  (ref09_Check.l2 bs FU (0 : Int)).bind fun o2 =>
  o2.on fun j2 =>
  (ref09_Check.l3 ms FU (0 : Int)).bind fun o3 =>
  o3.on fun j3 =>
  (ref09_Check.l4 bs FU (0 : Int)).bind fun o4 =>
  o4.on fun j4 =>
  (ref09_Check.l5 ms bs FU (0 : Int)).bind fun o5 =>
  o5.on fun j5 =>
  some 0
theorem K1 (ms : List T_api_Machine) (bs : List T_api_Bound) : VS Tryz.prog 28 (ref09_Check ms bs) [L68 ms, L64 bs] [] Iw N0 := by
 refine Az [.tmp 4] Tryz.func28 R R R fun r hm=>?_
 unfold ref09_Check at hm
 refine Af tbk [] R R<|Ag<|Ae<|Aa R R (Ai R)<|Aa R R (Ay T_api_Machine.vv R Ch)<|Ab tbk [] 2 R R<|C3 4 17 13 R (fun K' J=>Ab tbk [] 4 R R<|J 3 R R R) (fun h1 K' J=>Bf R R R R R (Ai R)<|Bf R R R R R (Ay T_api_Bound.vv R Bz)<|Ab tbk [] 2 R R<|J 3 R R R)<|Ac<|An hm R (fun h2 hm=>Af tbk [] R R<|Rt1 hm R [] R R R) fun h2 hm=>Ak<|Ag<|Af tbk [] R R<|B1 hm (fun _ (_:Unit)=>[(0,L68 ms),(1,L64 bs)]) (fun _ (_:Unit)=>[]) (fun o hm h4=>?_) fun j _ hm=> ?_
 ·refine B8 (fun zn (zs:Int)=>ref09_Check.l1 ms zn zs) (fun zs (_:Unit)=>[(0,L68 ms),(1,L64 bs),(5,Iw zs)]) (fun _ (_:Unit)=>[]) _ () (fun _=>R) hm (Ah [] R R) fun n i2 _ hm=> ?_
  rw [ref09_Check.l1] at hm
  exact Ag<|Ae<|Ab tbk [] 2 R R<|Aa R R (Ay T_api_Machine.vv R Ch)<|Aa R R (Bl R R R)<|Ac<|An hm R (fun h5 hm=>Ak<|Ag<|Au<|Ae<|Ab tbk [] 2 R R<|Bd hm fun x h6 hm=>Aa R R (Br T_api_Machine.vv R R el39 h6)<|Ab tbk [] 4 R R<|Bh hm 7 37 30 R (fun _ K' h7 J hm=>Ab tbk [] 7 R R<|J 6 R R (Bj hm)) (fun _ K' h7 J hm=>Ab tbk [] 2 R R<|Bd hm fun x2 h8 hm=>Bf R R R R R (Br T_api_Machine.vv R R el39 h8)<|Bf R R R R R (Bs R ld68 R)<|A8 R R R R R<|Ax hm 0 R fn85 R (K179 _) fun r hm=>Ab tbk [] 2 R R<|J 6 R R (Bj hm)) fun c hm=>Ac<|An hm R (fun h11 hm=>Af tbk [] R R<|have hm:=Lr hm h4;Rt1 hm R [] R R R) fun h11 hm=>Ak<|A9 tbk [] R R<|Ap _ () hm (Ah [] R R)) fun h5 hm=>A4<|Ar () hm (Ah [] R R)
 refine Ag<|Af tbk [] R R<|B1 hm (fun _ (_:Unit)=>[(0,L68 ms),(1,L64 bs)]) (fun _ (_:Unit)=>[]) (fun o2 hm h13=>?_) fun j2 _ hm=> ?_
 ·refine B8 (fun zn (zs:Int)=>ref09_Check.l2 bs zn zs) (fun zs (_:Unit)=>[(0,L68 ms),(1,L64 bs),(6,Iw zs)]) (fun _ (_:Unit)=>[]) _ () (fun _=>R) hm (Ah [] R R) fun n2 i4 _ hm=> ?_
  rw [ref09_Check.l2] at hm
  exact Ag<|Ae<|Ab tbk [] 2 R R<|Aa R R (Ay T_api_Bound.vv R Bz)<|Aa R R (Bl R R R)<|Ac<|An hm R (fun h14 hm=>Ak<|Ag<|Au<|Ae<|Ab tbk [] 2 R R<|Bd hm fun x3 h15 hm=>Aa R R (Br T_api_Bound.vv R R el40 h15)<|Ab tbk [] 2 R R<|Ad R R<|Ax hm 0 R fn86 R (K187 _) fun r2 hm=>Aa R R (Ci R)<|Ac<|An hm R (fun h17 hm=>Af tbk [] R R<|have hm:=Lr hm h13;Rt1 hm R [] R R R) fun h17 hm=>Ak<|A9 tbk [] R R<|Ap _ () hm (Ah [] R R)) fun h14 hm=>A4<|Ar () hm (Ah [] R R)
 refine Ag<|Af tbk [] R R<|B1 hm (fun _ (_:Unit)=>[(0,L68 ms),(1,L64 bs)]) (fun _ (_:Unit)=>[]) (fun o3 hm h19=>?_) fun j3 _ hm=> ?_
 ·refine B8 (fun zn (zs:Int)=>ref09_Check.l3 ms zn zs) (fun zs (_:Unit)=>[(0,L68 ms),(1,L64 bs),(7,Iw zs)]) (fun _ (_:Unit)=>[]) _ () (fun _=>R) hm (Ah [] R R) fun n3 i6 _ hm=> ?_
  rw [ref09_Check.l3] at hm
  exact Ag<|Ae<|Ab tbk [] 2 R R<|Aa R R (Ay T_api_Machine.vv R Ch)<|Aa R R (Bl R R R)<|Ac<|An hm R (fun h20 hm=>Ak<|Ag<|Au<|Ae<|Ab tbk [] 3 R R<|Bd hm fun x4 h21 hm=>Aa R R (Br T_api_Machine.vv R R el39 h21)<|Ab tbk [] 2 R R<|Ad R R<|Ax hm 0 R fn87 R (K0 _ _) fun r3 hm=>Ab tbk [] 2 R R<|Ac<|An hm R (fun h23 hm=>Af tbk [] R R<|have hm:=Lr hm h19;Rt1 hm R [] R R R) fun h23 hm=>Ak<|A9 tbk [] R R<|Ap _ () hm (Ah [] R R)) fun h20 hm=>A4<|Ar () hm (Ah [] R R)
 refine Ag<|Af tbk [] R R<|B1 hm (fun _ (_:Unit)=>[(0,L68 ms),(1,L64 bs)]) (fun _ (_:Unit)=>[]) (fun o4 hm h25=>?_) fun j4 _ hm=> ?_
 ·refine B8 (fun zn (zs:Int)=>ref09_Check.l4 bs zn zs) (fun zs (_:Unit)=>[(0,L68 ms),(1,L64 bs),(8,Iw zs)]) (fun _ (_:Unit)=>[]) _ () (fun _=>R) hm (Ah [] R R) fun n4 i8 _ hm=> ?_
  rw [ref09_Check.l4] at hm
  exact Ag<|Ae<|Ab tbk [] 2 R R<|Aa R R (Ay T_api_Bound.vv R Bz)<|Aa R R (Bl R R R)<|Ac<|An hm R (fun h26 hm=>Ak<|Ag<|Au<|Ae<|Ab tbk [] 3 R R<|Bd hm fun x5 h27 hm=>Aa R R (Br T_api_Bound.vv R R el40 h27)<|Ab tbk [] 3 R R<|Ad R R<|Ax hm 0 R fn26 R (K165 _ _) fun r4 hm=>Ab tbk [] 2 R R<|Ac<|An hm R (fun h29 hm=>Af tbk [] R R<|have hm:=Lr hm h25;Rt1 hm R [] R R R) fun h29 hm=>Ak<|A9 tbk [] R R<|Ap _ () hm (Ah [] R R)) fun h26 hm=>A4<|Ar () hm (Ah [] R R)
 refine Ag<|Af tbk [] R R<|B1 hm (fun _ (_:Unit)=>[]) (fun _ (_:Unit)=>[]) (fun o5 hm h31=>?_) fun j5 _ hm=> ?_
 ·refine B8 (fun zn (zs:Int)=>ref09_Check.l5 ms bs zn zs) (fun zs (_:Unit)=>[(0,L68 ms),(1,L64 bs),(9,Iw zs)]) (fun _ (_:Unit)=>[]) _ () (fun _=>R) hm (Ah [] R R) fun n5 i10 _ hm=> ?_
  rw [ref09_Check.l5] at hm
  exact Ag<|Ae<|Ab tbk [] 2 R R<|Aa R R (Ay T_api_Bound.vv R Bz)<|Aa R R (Bl R R R)<|Ac<|An hm R (fun h32 hm=>Ak<|Ag<|Au<|Ae<|Ab tbk [] 2 R R<|Bd hm fun x6 h33 hm=>Aa R R (Br T_api_Bound.vv R R el40 h33)<|Ab tbk [] 4 R R<|Bh hm 9 103 94 R (fun _ K' h34 J hm=>Ab tbk [] 3 R R<|Bd hm fun x7 h35 hm=>Bf R R R R R (Br T_api_Bound.vv R R el40 h35)<|Ab tbk [] 2 R R<|A8 R R R R R<|Ax hm 0 R fn87 R (K0 _ _) fun r5 hm=>Ab tbk [] 2 R R<|J 8 R R (Bj hm)) (fun _ K' h34 J hm=>Ab tbk [] 9 R R<|J 8 R R (Bj hm)) fun c2 hm=>Ac<|An hm R (fun h38 hm=>Af tbk [] R R<|have hm:=Lr hm h31;Rt1 hm R [] R R R) fun h38 hm=>Ak<|A9 tbk [] R R<|Ap _ () hm (Ah [] R R)) fun h32 hm=>A4<|Ar () hm (Ah [] R R)
 exact Af tbk [] R R<|Rt1 hm R [] R R R

/-! trireme/triremelaw18.WorldKeeps -/
def law18_WorldKeeps.l2 (want2 : List ByteArray) (x2 : T_law18_Op) : Nat → (List ByteArray) → Int → Option (List ByteArray)
 | 0, _, _ => none
 | n2 + 1, less2, k2 =>
  if (decide (k2 < (want2.length : Int))) = true then
   (V.gl want2 k2).bind fun x3 =>
   if (!(V.seq x3 x2.Name)) = true then
    (V.gl want2 k2).bind fun x4 =>
    (V.ap 16 less2 [x4]).bind fun less4 =>
    law18_WorldKeeps.l2 want2 x2 n2 less4 (i64.wrap (k2 + 1))
   else
    law18_WorldKeeps.l2 want2 x2 n2 less2 (i64.wrap (k2 + 1))
  else
   some less2
def law18_WorldKeeps.l1 (c : T_law18_Case) : Nat → T_world_World → T_cloud_Cloud → (List ByteArray) → Int → (List T_cloud_pool) → (List T_cloud_inst) → Option (T_world_World × T_cloud_Cloud × List ByteArray × List T_cloud_pool × List T_cloud_inst)
 | 0, _, _, _, _, _, _ => none
 | n + 1, w3, w4, want2, i2, ps2, xs2 =>
  if ((decide (i2 < (c.L.length : Int))) && (decide (i2 < 30))) = true then
   ((V.gl c.L i2).bind fun x2 =>
   (law18_Op_Light x2).bind fun r3 =>
   (if (!r3) = true then some true else (world_World_Machines_x w3 w4).bind fun r4 =>
   some (decide ((r4.length : Int) > 30))).bind fun c2 =>
   if c2 = true then
    some (w3, w4, want2, ps2, xs2)
   else
    if (x2.Kind == 0) = true then
     (world_World_AddPod_x w3 w4 x2.P_).bind fun r5 =>
     if ((r5.1 == 0) && (!x2.P_.Daemon)) = true then
      (V.ap 16 want2 [x2.P_.Name]).bind fun want5 =>
      some (r5.2, w4, want5, ps2, xs2)
     else
      some (r5.2, w4, want2, ps2, xs2)
    else
     if (x2.Kind == 1) = true then
      (world_World_DropPod w3 w4 x2.Name).bind fun r6 =>
      if (r6.1 == 0) = true then
       (law18_WorldKeeps.l2 want2 x2 FU ([] : List ByteArray) (0 : Int)).bind fun less32 =>
       some (r6.2, w4, less32, ps2, xs2)
      else
       some (r6.2, w4, want2, ps2, xs2)
     else
      if (x2.Kind == 2) = true then
       (world_World_Ready_x w3 w4 x2.Name x2.Is).bind fun r7 =>
       some (r7.2, w4, want2, ps2, xs2)
      else
       if (x2.Kind == 6) = true then
        (world_World_Evict_x w3 w4 x2.Name).bind fun r8 =>
        some (r8.2, w4, want2, ps2, xs2)
       else
        if (x2.Kind == 8) = true then
         (cloud_Cloud_Increase w4 x2.Name x2.N_ ps2 xs2).bind fun r9 =>
         some (w3, r9.2.1, want2, r9.2.2.1, r9.2.2.2)
        else
         if (x2.Kind == 9) = true then
          (cloud_Cloud_Delete w4 x2.Name ps2 xs2).bind fun r10 =>
          some (w3, r10.2.1, want2, r10.2.2.1, r10.2.2.2)
         else
          (world_World_Pass_x w3 w4 ps2 xs2).bind fun r11 =>
          some (r11.1, r11.2.1, want2, ps2, r11.2.2)).bind fun j2 =>
   law18_WorldKeeps.l1 c n j2.1 j2.2.1 j2.2.2.1 (i64.wrap (i2 + 1)) j2.2.2.2.1 j2.2.2.2.2
  else
   some (w3, w4, want2, ps2, xs2)
def law18_WorldKeeps.l3 (r13 : List T_api_Bound) : Nat → Int → Int → Option Int
 | 0, _, _ => none
 | n3 + 1, count2, i4 =>
  if (decide (i4 < (r13.length : Int))) = true then
   (V.gl r13 i4).bind fun x5 =>
   if (!x5.Pod.Daemon) = true then
    law18_WorldKeeps.l3 r13 n3 (i64.wrap (count2 + 1)) (i64.wrap (i4 + 1))
   else
    law18_WorldKeeps.l3 r13 n3 count2 (i64.wrap (i4 + 1))
  else
   some count2
def law18_WorldKeeps.l4 (j : T_world_World × T_cloud_Cloud × List ByteArray × List T_cloud_pool × List T_cloud_inst) (r13 : List T_api_Bound) : Nat → Int → Option (Out Bool Unit)
 | 0, _ => none
 | n4 + 1, k4 =>
  if (decide (k4 < (j.2.2.1.length : Int))) = true then
   (V.gl j.2.2.1 k4).bind fun x6 =>
   (ref09_Place r13 x6).bind fun r14 =>
   if (decide (r14 < 0)) = true then
    some (Out.ret false)
   else
    law18_WorldKeeps.l4 j r13 n4 (i64.wrap (k4 + 1))
  else
   some (Out.go ())
def law18_WorldKeeps.l6 (r15 : List T_api_Machine) (r16 : List T_api_Inst) (i6 : Int) : Nat → Bool → Int → Option Bool
 | 0, _, _ => none
 | n6 + 1, met2, k6 =>
  if (decide (k6 < (r16.length : Int))) = true then
   (if met2 = true then some true else (V.gl r16 k6).bind fun x8 =>
   (V.gl r15 i6).bind fun x9 =>
   some (V.seq x8.Name x9.Name)).bind fun c3 =>
   law18_WorldKeeps.l6 r15 r16 i6 n6 c3 (i64.wrap (k6 + 1))
  else
   some met2
def law18_WorldKeeps.l5 (r15 : List T_api_Machine) (r16 : List T_api_Inst) : Nat → Int → Option (Out Bool Unit)
 | 0, _ => none
 | n5 + 1, i6 =>
  if (decide (i6 < (r15.length : Int))) = true then
   (V.gl r15 i6).bind fun x7 =>
   (law18_WorldKeeps.l6 r15 r16 i6 FU (V.seq x7.Group (⟨#[]⟩ : ByteArray)) (0 : Int)).bind fun met32 =>
   if (!met32) = true then
    some (Out.ret false)
   else
    law18_WorldKeeps.l5 r15 r16 n5 (i64.wrap (i6 + 1))
  else
   some (Out.go ())
def law18_WorldKeeps (c : T_law18_Case) : Option Bool :=
 (law18_made c ([] : List T_cloud_pool) ([] : List T_cloud_inst)).bind fun r =>
 po r.1 (
  (law18_known ([] : List T_cloud_pool) ([] : List T_cloud_inst)).bind fun r2 =>
  some r2.1) fun x =>
 (law18_WorldKeeps.l1 c FU x.1 x.2 ([] : List ByteArray) 0 r.2.1 r.2.2).bind fun j =>
 (world_World_Pass_x j.1 j.2.1 j.2.2.2.1 j.2.2.2.2).bind fun r12 =>
 (world_World_Bounds_x r12.1 r12.2.1).bind fun r13 =>
 (law18_WorldKeeps.l3 r13 FU 0 (0 : Int)).bind fun count32 =>
 (law18_WorldKeeps.l4 j r13 FU (0 : Int)).bind fun o5 =>
 o5.on fun j3 =>
 (world_World_Machines_x r12.1 r12.2.1).bind fun r15 =>
 (cloud_Cloud_Insts r12.2.1 j.2.2.2.1 r12.2.2).bind fun r16 =>
 (law18_WorldKeeps.l5 r15 r16 FU (0 : Int)).bind fun o6 =>
 o6.on fun j4 =>
 (if (count32 == (j.2.2.1.length : Int)) = true then (ref09_Check r15 r13).bind fun r17 =>
 some (r17 == 0) else some false).bind fun c4 =>
 if c4 = true then
  (law18_known ([] : List T_cloud_pool) ([] : List T_cloud_inst)).bind fun r19 =>
  some r19.1
 else
  some false
theorem law18_WorldKeeps_ok (A0 A1 A2 A3 : Nat) (c : T_law18_Case) : VS Tryz.prog 4 (law18_WorldKeeps c) [T_law18_Case.vv c] [.ar A0 144 ([] : List Nat) (List.map T_cloud_pool.cells ([] : List T_cloud_pool)), .ar A1 157 ([] : List Nat) (List.map (T_cloud_inst.cells A0 A1) ([] : List T_cloud_inst)), .ar A2 144 ([] : List Nat) (List.map T_cloud_pool.cells ([] : List T_cloud_pool)), .ar A3 157 ([] : List Nat) (List.map (T_cloud_inst.cells A0 A1) ([] : List T_cloud_inst))] .bool N0 := by
 refine Az [.tmp 2] Tryz.func4 R R R fun r hm=>?_
 unfold law18_WorldKeeps at hm
 refine Ae<|Ad R R<|Bi R R fun b=>Aa R R (Aj R)<|Ac<|Ae<|Ab tbk [0] 1 R R<|Bd hm fun r h2 hm=>Bb (Bg [1,2,0,3,4] R)<|Ad R R<|Aw 2 R fn23 R (K50 A0 A1 c ([] : List T_cloud_pool) ([] : List T_cloud_inst) ([] : List Nat) ([] : List Nat) r h2) fun _ _ h110=> ?_
 obtain ⟨b2,b3,ob,cap,ob2,cap2,ob3,cap3,ob4,cap4,ob5,cap5,ob6,cap6,b4,bs,bs2,rfl,rfl⟩:=h110
 rcases po_or hm with ⟨h109,hm⟩ | ⟨x,h109,hm⟩
 ·rw [h109]
  refine Aa R R (Aj R)<|Ac<|Ag<|Ae<|Aa R R (Ai R)<|Aa R R (Dk C4 R R)<|Ac<|Bm R R<|Ae<|Bd hm fun r2 h12 hm=>Bb (Bg [3,4,0,1,2] R)<|Ad R R<|Aw 2 R fn10 R (K159 A2 A3 ([] : List T_cloud_pool) ([] : List T_cloud_inst) ([] : List Nat) ([] : List Nat) r2 h12) fun _ _ h13=> ?_
  obtain ⟨bs3,bs4,rfl,rfl⟩:=h13
  exact Aa R R (Aj R)<|Ac<|Rt1 hm R [] R R R
 ·rw [h109]
  refine Aa R R (Aj R)<|Ac<|Ag<|Ae<|Aa R R (Ai R)<|Aa R R (Dk C4 R R)<|Ac<|Bp R R<|Ak<|Af tbk [] R R<|Ag<|Af tbk [] R R<|Cf hm (fun j (gg:Option Nat × Nat × Option Nat × Nat × Option Nat × Nat × Option Nat × Nat × Option Nat × Nat × Option Nat × Nat × Nat × Option Nat × Nat × List Nat × List Nat)=>[(3,.ptr b2 0),(4,Z9 gg.2.2.2.2.2.2.2.2.2.2.2.2.2.1 j.2.2.1 gg.2.2.2.2.2.2.2.2.2.2.2.2.2.2.1)]) (fun j (gg:Option Nat × Nat × Option Nat × Nat × Option Nat × Nat × Option Nat × Nat × Option Nat × Nat × Option Nat × Nat × Nat × Option Nat × Nat × List Nat × List Nat)=>[Q9 gg.2.2.2.2.2.2.2.2.2.2.2.2.2.1 gg.2.2.2.2.2.2.2.2.2.2.2.2.2.2.1 j.2.2.1,.box b2 43 [.ptr b3 0,Z139 gg.2.2.2.2.1 j.1.groups gg.2.2.2.2.2.1,Z103 gg.2.2.2.2.2.2.1 j.1.budgets gg.2.2.2.2.2.2.2.1,Z68 gg.2.2.2.2.2.2.2.2.1 j.1.ms gg.2.2.2.2.2.2.2.2.2.1,Z64 gg.2.2.2.2.2.2.2.2.2.2.1 j.1.bs gg.2.2.2.2.2.2.2.2.2.2.2.1,.map gg.2.2.2.2.2.2.2.2.2.2.2.2.1],Q139 gg.2.2.2.2.1 gg.2.2.2.2.2.1 j.1.groups,Q103 gg.2.2.2.2.2.2.1 gg.2.2.2.2.2.2.2.1 j.1.budgets,Q68 gg.2.2.2.2.2.2.2.2.1 gg.2.2.2.2.2.2.2.2.2.1 j.1.ms,Q64 gg.2.2.2.2.2.2.2.2.2.2.1 gg.2.2.2.2.2.2.2.2.2.2.2.1 j.1.bs,.map gg.2.2.2.2.2.2.2.2.2.2.2.2.1 (List.map (pf VV.str (VV.int .i64)) j.1.held),.box b3 149 [Z140 A0 A1 gg.1 j.2.1.pools gg.2.1,Z152 A0 A1 gg.2.2.1 j.2.1.insts gg.2.2.2.1,Iw j.2.1.delay,Iw j.2.1.now,Iw j.2.1.calls],Q140 A0 A1 gg.1 gg.2.1 j.2.1.pools,Q152 A0 A1 gg.2.2.1 gg.2.2.2.1 j.2.1.insts,.ar A0 144 gg.2.2.2.2.2.2.2.2.2.2.2.2.2.2.2.1 (List.map T_cloud_pool.cells j.2.2.2.1),.ar A1 157 gg.2.2.2.2.2.2.2.2.2.2.2.2.2.2.2.2 (List.map (T_cloud_inst.cells A0 A1) j.2.2.2.2),.ar A2 144 ([] : List Nat) (List.map T_cloud_pool.cells ([] : List T_cloud_pool)),.ar A3 157 ([] : List Nat) (List.map (T_cloud_inst.cells A0 A1) ([] : List T_cloud_inst))]) (fun o hm=>?_) fun j=>Pq fun ob21=>Pq fun cap21=>Pq fun ob22=>Pq fun cap22=>Pq fun ob23=>Pq fun cap23=>Pq fun ob24=>Pq fun cap24=>Pq fun ob25=>Pq fun cap25=>Pq fun ob26=>Pq fun cap26=>Pq fun b7=>Pq fun ob27=>Pq fun cap27=>Pq fun bs9 bs10 hm=> ?_
  ·refine B8 (fun zn (zs:T_world_World × T_cloud_Cloud × List ByteArray × Int × List T_cloud_pool × List T_cloud_inst)=>law18_WorldKeeps.l1 c zn zs.1 zs.2.1 zs.2.2.1 zs.2.2.2.1 zs.2.2.2.2.1 zs.2.2.2.2.2) (fun zs (zg:Option Nat × Nat × Option Nat × Nat × Option Nat × Nat × Option Nat × Nat × Option Nat × Nat × Option Nat × Nat × Nat × Option Nat × Nat × List Nat × List Nat)=>[(1,.ptr b 0),(3,.ptr b2 0),(4,Z9 zg.2.2.2.2.2.2.2.2.2.2.2.2.2.1 zs.2.2.1 zg.2.2.2.2.2.2.2.2.2.2.2.2.2.2.1),(5,Iw zs.2.2.2.1)]) (fun zs (zg:Option Nat × Nat × Option Nat × Nat × Option Nat × Nat × Option Nat × Nat × Option Nat × Nat × Option Nat × Nat × Nat × Option Nat × Nat × List Nat × List Nat)=>[Q9 zg.2.2.2.2.2.2.2.2.2.2.2.2.2.1 zg.2.2.2.2.2.2.2.2.2.2.2.2.2.2.1 zs.2.2.1,.box b2 43 [.ptr b3 0,Z139 zg.2.2.2.2.1 zs.1.groups zg.2.2.2.2.2.1,Z103 zg.2.2.2.2.2.2.1 zs.1.budgets zg.2.2.2.2.2.2.2.1,Z68 zg.2.2.2.2.2.2.2.2.1 zs.1.ms zg.2.2.2.2.2.2.2.2.2.1,Z64 zg.2.2.2.2.2.2.2.2.2.2.1 zs.1.bs zg.2.2.2.2.2.2.2.2.2.2.2.1,.map zg.2.2.2.2.2.2.2.2.2.2.2.2.1],Q139 zg.2.2.2.2.1 zg.2.2.2.2.2.1 zs.1.groups,Q103 zg.2.2.2.2.2.2.1 zg.2.2.2.2.2.2.2.1 zs.1.budgets,Q68 zg.2.2.2.2.2.2.2.2.1 zg.2.2.2.2.2.2.2.2.2.1 zs.1.ms,Q64 zg.2.2.2.2.2.2.2.2.2.2.1 zg.2.2.2.2.2.2.2.2.2.2.2.1 zs.1.bs,.map zg.2.2.2.2.2.2.2.2.2.2.2.2.1 (List.map (pf VV.str (VV.int .i64)) zs.1.held),.box b3 149 [Z140 A0 A1 zg.1 zs.2.1.pools zg.2.1,Z152 A0 A1 zg.2.2.1 zs.2.1.insts zg.2.2.2.1,Iw zs.2.1.delay,Iw zs.2.1.now,Iw zs.2.1.calls],Q140 A0 A1 zg.1 zg.2.1 zs.2.1.pools,Q152 A0 A1 zg.2.2.1 zg.2.2.2.1 zs.2.1.insts,.ar A0 144 zg.2.2.2.2.2.2.2.2.2.2.2.2.2.2.2.1 (List.map T_cloud_pool.cells zs.2.2.2.2.1),.ar A1 157 zg.2.2.2.2.2.2.2.2.2.2.2.2.2.2.2.2 (List.map (T_cloud_inst.cells A0 A1) zs.2.2.2.2.2),X59 b c,.ar A2 144 ([] : List Nat) (List.map T_cloud_pool.cells ([] : List T_cloud_pool)),.ar A3 157 ([] : List Nat) (List.map (T_cloud_inst.cells A0 A1) ([] : List T_cloud_inst))]) (x.1,x.2,([] : List ByteArray),(0 : Int),r.2.1,r.2.2) (ob,cap,ob2,cap2,ob3,cap3,ob4,cap4,ob5,cap5,ob6,cap6,b4,none,0,bs,bs2) (fun _=>R) hm (B5 (Bk 9) (Ah [0,1,2,3,4,5,6,7,8,9,10,11,12,13,14] (by kernel_rfl) (by kernel_rfl))) fun n=>Pq fun w3=>Pq fun w4=>Pq fun want2=>Pq fun i2=>Pq fun ps2 xs2=>Pq fun ob14=>Pq fun cap14=>Pq fun ob15=>Pq fun cap15=>Pq fun ob16=>Pq fun cap16=>Pq fun ob17=>Pq fun cap17=>Pq fun ob18=>Pq fun cap18=>Pq fun ob19=>Pq fun cap19=>Pq fun b6=>Pq fun ob20=>Pq fun cap20=>Pq fun bs7 bs8 hm=> ?_
   rw [law18_WorldKeeps.l1] at hm
   refine Ag<|Ae<|Ab tbk [12] 3 R R<|Aa R R (Ay T_law18_Op.vv R Tryz.underlying57)<|Ab tbk [] 2 R R<|Cd tbk [] 3 31 28 R R R R R<|Ac<|An hm R (fun h19 hm=>?_) fun h19 hm=> ?_
   ·refine Ak<|De hm (fun j2 (gg:Option Nat × Nat × Option Nat × Nat × Option Nat × Nat × Option Nat × Nat × Option Nat × Nat × Option Nat × Nat × Nat × Option Nat × Nat × List Nat × List Nat)=>[(1,.ptr b 0),(3,.ptr b2 0),(4,Z9 gg.2.2.2.2.2.2.2.2.2.2.2.2.2.1 j2.2.2.1 gg.2.2.2.2.2.2.2.2.2.2.2.2.2.2.1),(5,Iw i2)]) (fun j2 (gg:Option Nat × Nat × Option Nat × Nat × Option Nat × Nat × Option Nat × Nat × Option Nat × Nat × Option Nat × Nat × Nat × Option Nat × Nat × List Nat × List Nat)=>[Q9 gg.2.2.2.2.2.2.2.2.2.2.2.2.2.1 gg.2.2.2.2.2.2.2.2.2.2.2.2.2.2.1 j2.2.2.1,.box b2 43 [.ptr b3 0,Z139 gg.2.2.2.2.1 j2.1.groups gg.2.2.2.2.2.1,Z103 gg.2.2.2.2.2.2.1 j2.1.budgets gg.2.2.2.2.2.2.2.1,Z68 gg.2.2.2.2.2.2.2.2.1 j2.1.ms gg.2.2.2.2.2.2.2.2.2.1,Z64 gg.2.2.2.2.2.2.2.2.2.2.1 j2.1.bs gg.2.2.2.2.2.2.2.2.2.2.2.1,.map gg.2.2.2.2.2.2.2.2.2.2.2.2.1],Q139 gg.2.2.2.2.1 gg.2.2.2.2.2.1 j2.1.groups,Q103 gg.2.2.2.2.2.2.1 gg.2.2.2.2.2.2.2.1 j2.1.budgets,Q68 gg.2.2.2.2.2.2.2.2.1 gg.2.2.2.2.2.2.2.2.2.1 j2.1.ms,Q64 gg.2.2.2.2.2.2.2.2.2.2.1 gg.2.2.2.2.2.2.2.2.2.2.2.1 j2.1.bs,.map gg.2.2.2.2.2.2.2.2.2.2.2.2.1 (List.map (pf VV.str (VV.int .i64)) j2.1.held),.box b3 149 [Z140 A0 A1 gg.1 j2.2.1.pools gg.2.1,Z152 A0 A1 gg.2.2.1 j2.2.1.insts gg.2.2.2.1,Iw j2.2.1.delay,Iw j2.2.1.now,Iw j2.2.1.calls],Q140 A0 A1 gg.1 gg.2.1 j2.2.1.pools,Q152 A0 A1 gg.2.2.1 gg.2.2.2.1 j2.2.1.insts,.ar A0 144 gg.2.2.2.2.2.2.2.2.2.2.2.2.2.2.2.1 (List.map T_cloud_pool.cells j2.2.2.2.1),.ar A1 157 gg.2.2.2.2.2.2.2.2.2.2.2.2.2.2.2.2 (List.map (T_cloud_inst.cells A0 A1) j2.2.2.2.2),X59 b c,.ar A2 144 ([] : List Nat) (List.map T_cloud_pool.cells ([] : List T_cloud_pool)),.ar A3 157 ([] : List Nat) (List.map (T_cloud_inst.cells A0 A1) ([] : List T_cloud_inst))]) (fun o2 hm=>?_) fun j2=>Pq fun ob28=>Pq fun cap28=>Pq fun ob29=>Pq fun cap29=>Pq fun ob30=>Pq fun cap30=>Pq fun ob31=>Pq fun cap31=>Pq fun ob32=>Pq fun cap32=>Pq fun ob33=>Pq fun cap33=>Pq fun b8=>Pq fun ob34=>Pq fun cap34=>Pq fun bs11 bs12 hm=> ?_
    ·refine Au<|Ae<|Ab tbk [12] 3 R R<|Bd hm fun x2 h23 hm=>Aa R R (Br T_law18_Op.vv R R el57 h23)<|Aa R R (Bs R ld33 R)<|Ad R R<|Aq z33 fun b9=>Ad R R<|Al (i:=0) R R R ld33 R R R<|Ac<|Ag<|Ae<|Ab tbk [0] 1 R R<|Ad R R<|Ax hm 0 R fn9 R (law18_Op_Light_ok _) fun r3 hm=>Ab tbk [] 2 R R<|Bh hm 5 47 42 R (fun _ K' h26 J hm=>Ab tbk [] 5 R R<|J 4 R R (Bj hm)) (fun _ K' h26 J hm=>Bf R R R R R (Ai R)<|Bb (Bg [2,3,4,5,6,7,8,9,10,0,1,11,12,13,14,15] R)<|A8 R R R R R<|Cp hm 9 R fn19 R (K147 A0 A1 _ _ _ _ _ _ _ _ _ _ _ _ _ _ _ _ _) fun r4 ob35 cap35 hm=>Bb (A7 0 [(44,L68 r4)] R ⟨⟨_,R,.here _ R⟩,trivial⟩ (FzH.refl _))<|Bf R R R R R (Ay T_api_Machine.vv R Ch)<|Ab tbk [] 2 R R<|Bb (Bg [9,10,0,1,2,3,4,5,6,7,8,11,12,13,14,15] R)<|J 5 R R (Bj hm)) fun c2 hm=>Ac<|An hm R (fun h30 hm=>A4<|As (ob14,cap14,ob15,cap15,ob16,cap16,ob17,cap17,ob18,cap18,ob19,cap19,b6,ob20,cap20,bs7,bs8) hm (Ah [1,2,3,4,5,6,7,8,9,10,11,12,13,14,15] (by kernel_rfl) (by kernel_rfl))) fun h30 hm=>Ak<|Af tbk [0] R R<|Au<|Af tbk [] R R<|An hm R (fun h31 hm=>?_) fun h31 hm=> ?_
     ·refine Ae<|Ab tbk [0] 3 R R<|Bd hm fun r5 h32 hm=>Bb (Bg [2,3,4,5,6,7,8,9,10,0,1,11,12,13,14,15] R)<|Ad R R<|Aw 9 R fn12 R (K75 A0 A1 w3 w4 x2.P_ b2 ob16 cap16 ob17 cap17 ob18 cap18 ob19 cap19 b6 b3 ob14 cap14 ob15 cap15 r5 h32) fun _ _ h37=> ?_
      obtain ⟨ob36,cap36,ob37,cap37,ob38,cap38,ob39,cap39,b10,rfl,rfl⟩:=h37
      exact Ab tbk [] 2 R R<|Cd tbk [9] 5 64 59 R R R R R<|Ac<|An hm R (fun h34 hm=>B2<|Ab tbk [9] 4 R R<|Ad R R<|Bc ap61 R R R R R fun b11=>Bd hm fun want5 h36 hm=>Ad R R<|Bv 11 VV.str (l:=want2) (l2:=[x2.P_.Name]) ap61 R R (sT_row 0 VV.str el61 R R) h36 fun ob40 cap40=>Aa R R (Aj R)<|Ac<|As (ob14,cap14,ob15,cap15,ob36,cap36,ob37,cap37,ob38,cap38,ob39,cap39,b10,ob40,cap40,bs7,bs8) hm (Ah [11,1,2,3,4,5,6,7,8,9,12,13,14,15,16] (by kernel_rfl) (by kernel_rfl))) fun h34 hm=>Ak<|As (ob14,cap14,ob15,cap15,ob36,cap36,ob37,cap37,ob38,cap38,ob39,cap39,b10,ob20,cap20,bs7,bs8) hm (Ah [10,0,1,2,3,4,5,6,7,8,11,12,13,14,15] (by kernel_rfl) (by kernel_rfl))
     refine Af tbk [] R R<|An hm R (fun h38 hm=>?_) fun h38 hm=> ?_
     ·refine Ae<|Ab tbk [0] 3 R R<|Bd hm fun r6 h39 hm=>Bb (Bg [2,3,4,5,6,7,8,9,10,0,1,11,12,13,14,15] R)<|Ad R R<|Aw 9 R fn13 R (K162 A0 A1 w3 w4 x2.Name b2 ob16 cap16 ob17 cap17 ob18 cap18 ob19 cap19 b6 b3 ob14 cap14 ob15 cap15 r6 h39) fun _ _ h53=> ?_
      obtain ⟨ob41,cap41,ob42,cap42,ob43,cap43,ob44,cap44,b12,rfl,rfl⟩:=h53
      refine Aa R R (Bl R R R)<|Ac<|An hm R (fun h40 hm=>?_) fun h40 hm=> ?_
      ·refine Af tbk [] R R<|Ag<|Af tbk [] R R<|Cf hm (fun less32 (gg:Option Nat × Nat)=>[(1,.ptr b 0),(3,.ptr b2 0),(5,Iw i2),(7,Z9 gg.1 less32 gg.2)]) (fun less32 (gg:Option Nat × Nat)=>[Q9 gg.1 gg.2 less32,.box b2 43 [.ptr b3 0,Z139 ob41 r6.2.groups cap41,Z103 ob42 r6.2.budgets cap42,Z68 ob43 r6.2.ms cap43,Z64 ob44 r6.2.bs cap44,.map b12],Q139 ob41 cap41 r6.2.groups,Q103 ob42 cap42 r6.2.budgets,Q68 ob43 cap43 r6.2.ms,Q64 ob44 cap44 r6.2.bs,.map b12 (List.map (pf VV.str (VV.int .i64)) r6.2.held),.box b3 149 [Z140 A0 A1 ob14 w4.pools cap14,Z152 A0 A1 ob15 w4.insts cap15,Iw w4.delay,Iw w4.now,Iw w4.calls],Q140 A0 A1 ob14 cap14 w4.pools,Q152 A0 A1 ob15 cap15 w4.insts,.ar A0 144 bs7 (List.map T_cloud_pool.cells ps2),.ar A1 157 bs8 (List.map (T_cloud_inst.cells A0 A1) xs2),X59 b c,.ar A2 144 ([] : List Nat) (List.map T_cloud_pool.cells ([] : List T_cloud_pool)),.ar A3 157 ([] : List Nat) (List.map (T_cloud_inst.cells A0 A1) ([] : List T_cloud_inst))]) (fun o3 hm=>?_) fun less32=>Pq fun ob47 cap47 hm=> ?_
       ·refine B8 (fun zn (zs:List ByteArray × Int)=>law18_WorldKeeps.l2 want2 x2 zn zs.1 zs.2) (fun zs (zg:Option Nat × Nat)=>[(1,.ptr b 0),(3,.ptr b2 0),(4,Z9 ob20 want2 cap20),(5,Iw i2),(6,.ptr b9 0),(7,Z9 zg.1 zs.1 zg.2),(8,Iw zs.2)]) (fun zs (zg:Option Nat × Nat)=>[Q9 zg.1 zg.2 zs.1,.box b2 43 [.ptr b3 0,Z139 ob41 r6.2.groups cap41,Z103 ob42 r6.2.budgets cap42,Z68 ob43 r6.2.ms cap43,Z64 ob44 r6.2.bs cap44,.map b12],Q139 ob41 cap41 r6.2.groups,Q103 ob42 cap42 r6.2.budgets,Q68 ob43 cap43 r6.2.ms,Q64 ob44 cap44 r6.2.bs,.map b12 (List.map (pf VV.str (VV.int .i64)) r6.2.held),.box b3 149 [Z140 A0 A1 ob14 w4.pools cap14,Z152 A0 A1 ob15 w4.insts cap15,Iw w4.delay,Iw w4.now,Iw w4.calls],Q140 A0 A1 ob14 cap14 w4.pools,Q152 A0 A1 ob15 cap15 w4.insts,X33 b9 x2,Q9 ob20 cap20 want2,.ar A0 144 bs7 (List.map T_cloud_pool.cells ps2),.ar A1 157 bs8 (List.map (T_cloud_inst.cells A0 A1) xs2),X59 b c,.ar A2 144 ([] : List Nat) (List.map T_cloud_pool.cells ([] : List T_cloud_pool)),.ar A3 157 ([] : List Nat) (List.map (T_cloud_inst.cells A0 A1) ([] : List T_cloud_inst))]) (([] : List ByteArray),(0 : Int)) (none,0) (fun _=>R) hm (B5 (Bk 9) (Ah [0,1,2,3,4,5,6,7,8,9,10,11,12,13,14,15,16] (by kernel_rfl) (by kernel_rfl))) fun n2=>Pq fun less2 k2=>Pq fun ob46 cap46 hm=> ?_
        rw [law18_WorldKeeps.l2] at hm
        refine Ag<|Ae<|Ab tbk [] 2 R R<|Aa R R (Cx VV.str R Bu)<|Aa R R (Bl R R R)<|Ac<|An hm R (fun h45 hm=>?_) fun h45 hm=> ?_
        ·refine Ak<|Ag<|Au<|Ag<|Bn 0 mixed<|A6 tbk [0,1] [] (by kernel_rfl) R R R<|Bd hm fun x3 h46 hm=>D7 11 R (gl_pos VV.str h46) fun b13 h47=> ?_
         subst h47
         exact Ba 2 R R R (by kernel_rfl) (Cs VV.str R R el61 h46)<|Ba 3 R R R (by kernel_rfl) (Ck (i:=11) (y:=VV.str x3) R R R (gl_map _ (gl_some h46).2) ld9 R)<|A6 tbk [4,5,6] [10] (by kernel_rfl) R R R<|A5 (by kernel_rfl)<|An hm R (fun h48 hm=>B2<|Ab tbk [] 3 R R<|Bd hm fun x4 h49 hm=>Aa R R (Cs VV.str R R el61 h49)<|Aa R R (Ck (i:=11) (y:=VV.str x4) R R R (gl_map _ (gl_some h49).2) ld9 R)<|Ad R R<|Bc ap61 R R R R R fun b14=>Bd hm fun less4 h51 hm=>Ad R R<|Bv 1 VV.str (l:=less2) (l2:=[x4]) ap61 R R (sT_row 0 VV.str el61 R R) h51 fun ob48 cap48=>Aa R R (Aj R)<|Ac<|A9 tbk [] R R<|Ap (less4,(IntKind.i64.wrap (k2 + (1 : Int)))) (ob48,cap48) hm (Ah [1,2,3,4,5,6,7,8,9,10,11,12,13,14,15,16,17] (by kernel_rfl) (by kernel_rfl))) fun h48 hm=>Ak<|A9 tbk [] R R<|Ap (less2,(IntKind.i64.wrap (k2 + (1 : Int)))) (ob46,cap46) hm (Ah [0,1,2,3,4,5,6,7,8,9,10,11,12,13,14,15,16] (by kernel_rfl) (by kernel_rfl))
        exact A4<|As (ob46,cap46) hm (Ah [0,1,2,3,4,5,6,7,8,9,12,13,14,15,16] (by kernel_rfl) (by kernel_rfl))
       exact A9 tbk [] R R<|As (ob14,cap14,ob15,cap15,ob41,cap41,ob42,cap42,ob43,cap43,ob44,cap44,b12,ob47,cap47,bs7,bs8) hm (Ah [0,1,2,3,4,5,6,7,8,9,10,11,12,13,14] (by kernel_rfl) (by kernel_rfl))
      exact Ak<|As (ob14,cap14,ob15,cap15,ob41,cap41,ob42,cap42,ob43,cap43,ob44,cap44,b12,ob20,cap20,bs7,bs8) hm (Ah [10,0,1,2,3,4,5,6,7,8,11,12,13,14,15] (by kernel_rfl) (by kernel_rfl))
     refine Af tbk [] R R<|An hm R (fun h54 hm=>?_) fun h54 hm=> ?_
     ·refine B2<|Ab tbk [0,0] 5 R R<|Bd hm fun r7 h55 hm=>Bb (Bg [2,3,4,5,6,7,8,9,10,0,1,11,12,13,14,15] R)<|Ad R R<|Aw 9 R fn14 R (K156 A0 A1 w3 w4 x2.Name x2.Is b2 ob16 cap16 ob17 cap17 ob18 cap18 ob19 cap19 b6 b3 ob14 cap14 ob15 cap15 r7 h55) fun _ _ h56=> ?_
      obtain ⟨ob49,cap49,ob50,cap50,ob51,cap51,ob52,cap52,b15,rfl,rfl⟩:=h56
      exact Ac<|As (ob14,cap14,ob15,cap15,ob49,cap49,ob50,cap50,ob51,cap51,ob52,cap52,b15,ob20,cap20,bs7,bs8) hm (Ah [10,0,1,2,3,4,5,6,7,8,11,12,13,14,15] (by kernel_rfl) (by kernel_rfl))
     refine Af tbk [] R R<|An hm R (fun h57 hm=>?_) fun h57 hm=> ?_
     ·refine B2<|Ab tbk [0] 3 R R<|Bd hm fun r8 h58 hm=>Bb (Bg [2,3,4,5,6,7,8,9,10,0,1,11,12,13,14,15] R)<|Ad R R<|Aw 9 R fn18 R (K153 A0 A1 w3 w4 x2.Name b2 ob16 cap16 ob17 cap17 ob18 cap18 ob19 cap19 b6 b3 ob14 cap14 ob15 cap15 r8 h58) fun _ _ h59=> ?_
      obtain ⟨ob53,cap53,ob54,cap54,ob55,cap55,ob56,cap56,b16,rfl,rfl⟩:=h59
      exact Ac<|As (ob14,cap14,ob15,cap15,ob53,cap53,ob54,cap54,ob55,cap55,ob56,cap56,b16,ob20,cap20,bs7,bs8) hm (Ah [10,0,1,2,3,4,5,6,7,8,11,12,13,14,15] (by kernel_rfl) (by kernel_rfl))
     refine Af tbk [] R R<|An hm R (fun h60 hm=>?_) fun h60 hm=> ?_
     ·refine Bw (Bg [8,9,10,11,12,0,1,2,3,4,5,6,7,13,14,15] R)<|Bn 5 mixed<|A6 tbk [0,1,2,3,4,5,6,7] [2,0,0] (by kernel_rfl) R R R<|Am 8 (by kernel_rfl)<|Bd hm fun r9 h61 hm=>Ao R R R<|Aw 5 R fn24 R (K145 A0 A1 w4 x2.Name x2.N_ ps2 xs2 b3 ob14 cap14 ob15 cap15 bs7 bs8 r9 h61) fun _ _ h62=> ?_
      obtain ⟨ob57,cap57,ob58,cap58,bs13,bs14,rfl,rfl⟩:=h62
      exact A5 (by kernel_rfl)<|As (ob57,cap57,ob58,cap58,ob16,cap16,ob17,cap17,ob18,cap18,ob19,cap19,b6,ob20,cap20,bs13,bs14) hm (Ah [6,7,8,9,10,11,12,0,1,2,3,4,13,14,15] (by kernel_rfl) (by kernel_rfl))
     refine Af tbk [] R R<|An hm R (fun h63 hm=>?_) fun h63 hm=> ?_
     ·refine Bw (Bg [8,9,10,11,12,0,1,2,3,4,5,6,7,13,14,15] R)<|Bn 5 mixed<|A6 tbk [0,1,2,3,4,5] [2,0] (by kernel_rfl) R R R<|Am 6 (by kernel_rfl)<|Bd hm fun r10 h64 hm=>Ao R R R<|Aw 5 R fn25 R (K164 A0 A1 w4 x2.Name ps2 xs2 b3 ob14 cap14 ob15 cap15 bs7 bs8 r10 h64) fun _ _ h65=> ?_
      obtain ⟨ob59,cap59,ob60,cap60,bs15,bs16,rfl,rfl⟩:=h65
      exact A5 (by kernel_rfl)<|As (ob59,cap59,ob60,cap60,ob16,cap16,ob17,cap17,ob18,cap18,ob19,cap19,b6,ob20,cap20,bs15,bs16) hm (Ah [6,7,8,9,10,11,12,0,1,2,3,4,13,14,15] (by kernel_rfl) (by kernel_rfl))
     refine B2<|Aa R R (Ai R)<|Bd hm fun r11 h66 hm=>Bb (Bg [2,3,4,5,6,7,8,9,10,11,12,0,1,13,14,15] R)<|Ad R R<|Aw 11 R fn11 R (K141 A0 A1 w3 w4 ps2 xs2 b2 ob16 cap16 ob17 cap17 ob18 cap18 ob19 cap19 b6 b3 ob14 cap14 ob15 cap15 bs7 bs8 r11 h66) fun _ _ h67=> ?_
     obtain ⟨ob61,cap61,ob62,cap62,ob63,cap63,ob64,cap64,b17,ob65,cap65,ob66,cap66,bs17,rfl,rfl⟩:=h67
     exact Ac<|As (ob65,cap65,ob66,cap66,ob61,cap61,ob62,cap62,ob63,cap63,ob64,cap64,b17,ob20,cap20,bs7,bs17) hm (Ah [12,0,1,2,3,4,5,6,7,8,9,10,13,14,15] (by kernel_rfl) (by kernel_rfl))
    exact A9 tbk [] R R<|Ap (j2.1,j2.2.1,j2.2.2.1,(IntKind.i64.wrap (i2 + (1 : Int))),j2.2.2.2.1,j2.2.2.2.2) (ob28,cap28,ob29,cap29,ob30,cap30,ob31,cap31,ob32,cap32,ob33,cap33,b8,ob34,cap34,bs11,bs12) hm (Ah [0,1,2,3,4,5,6,7,8,9,10,11,12,13,14] (by kernel_rfl) (by kernel_rfl))
   exact A4<|As (ob14,cap14,ob15,cap15,ob16,cap16,ob17,cap17,ob18,cap18,ob19,cap19,b6,ob20,cap20,bs7,bs8) hm (Ah [0,1,2,3,4,5,6,7,8,9,10,11,13,14] (by kernel_rfl) (by kernel_rfl))
  refine Ae<|Aa R R (Ai R)<|Bd hm fun r12 h69 hm=>Bb (Bg [1,2,3,4,5,6,7,8,9,10,11,0,12,13] R)<|Ad R R<|Aw 11 R fn11 R (K141 A0 A1 j.1 j.2.1 j.2.2.2.1 j.2.2.2.2 b2 ob23 cap23 ob24 cap24 ob25 cap25 ob26 cap26 b7 b3 ob21 cap21 ob22 cap22 bs9 bs10 r12 h69) fun _ _ h108=> ?_
  obtain ⟨ob67,cap67,ob68,cap68,ob69,cap69,ob70,cap70,b18,ob71,cap71,ob72,cap72,bs18,rfl,rfl⟩:=h108
  refine Ac<|Ae<|Aa R R (Ai R)<|Ad R R<|Cp hm 9 R fn20 R (K142 A0 A1 _ _ _ _ _ _ _ _ _ _ _ _ _ _ _ _ _) fun r13 ob73 cap73 hm=>Bb (A7 0 [(136,L64 r13)] R ⟨⟨_,R,.here _ R⟩,trivial⟩ (FzH.refl _))<|Aa R R (Aj R)<|Ac<|Af tbk [] R R<|Ag<|Af tbk [] R R<|Cf hm (fun count32 (_:Unit)=>[(3,.ptr b2 0),(4,Z9 ob27 j.2.2.1 cap27),(9,L64 r13),(10,Iw count32)]) (fun _ (_:Unit)=>[.box b2 43 [.ptr b3 0,Z139 ob67 r12.1.groups cap67,Z103 ob68 r12.1.budgets cap68,Z68 ob69 r12.1.ms cap69,Z64 ob70 r12.1.bs cap70,.map b18],Q139 ob67 cap67 r12.1.groups,Q103 ob68 cap68 r12.1.budgets,Q68 ob69 cap69 r12.1.ms,Q64 ob70 cap70 r12.1.bs,.map b18 (List.map (pf VV.str (VV.int .i64)) r12.1.held),.box b3 149 [Z140 A0 A1 ob71 r12.2.1.pools cap71,Z152 A0 A1 ob72 r12.2.1.insts cap72,Iw r12.2.1.delay,Iw r12.2.1.now,Iw r12.2.1.calls],Q140 A0 A1 ob71 cap71 r12.2.1.pools,Q152 A0 A1 ob72 cap72 r12.2.1.insts,.ar A0 144 bs9 (List.map T_cloud_pool.cells j.2.2.2.1),.ar A1 157 bs18 (List.map (T_cloud_inst.cells A0 A1) r12.2.2),Q9 ob27 cap27 j.2.2.1,.ar A2 144 ([] : List Nat) (List.map T_cloud_pool.cells ([] : List T_cloud_pool)),.ar A3 157 ([] : List Nat) (List.map (T_cloud_inst.cells A0 A1) ([] : List T_cloud_inst))]) (fun o4 hm=>?_) fun count32 _ hm=> ?_
  ·refine B8 (fun zn (zs:Int × Int)=>law18_WorldKeeps.l3 r13 zn zs.1 zs.2) (fun zs (_:Unit)=>[(3,.ptr b2 0),(4,Z9 ob27 j.2.2.1 cap27),(9,L64 r13),(10,Iw zs.1),(11,Iw zs.2)]) (fun _ (_:Unit)=>[.box b2 43 [.ptr b3 0,Z139 ob67 r12.1.groups cap67,Z103 ob68 r12.1.budgets cap68,Z68 ob69 r12.1.ms cap69,Z64 ob70 r12.1.bs cap70,.map b18],Q139 ob67 cap67 r12.1.groups,Q103 ob68 cap68 r12.1.budgets,Q68 ob69 cap69 r12.1.ms,Q64 ob70 cap70 r12.1.bs,.map b18 (List.map (pf VV.str (VV.int .i64)) r12.1.held),.box b3 149 [Z140 A0 A1 ob71 r12.2.1.pools cap71,Z152 A0 A1 ob72 r12.2.1.insts cap72,Iw r12.2.1.delay,Iw r12.2.1.now,Iw r12.2.1.calls],Q140 A0 A1 ob71 cap71 r12.2.1.pools,Q152 A0 A1 ob72 cap72 r12.2.1.insts,.ar A0 144 bs9 (List.map T_cloud_pool.cells j.2.2.2.1),.ar A1 157 bs18 (List.map (T_cloud_inst.cells A0 A1) r12.2.2),Q9 ob27 cap27 j.2.2.1,.ar A2 144 ([] : List Nat) (List.map T_cloud_pool.cells ([] : List T_cloud_pool)),.ar A3 157 ([] : List Nat) (List.map (T_cloud_inst.cells A0 A1) ([] : List T_cloud_inst))]) ((0 : Int),(0 : Int)) () (fun _=>R) hm (Ah [0,1,2,3,4,5,6,7,8,9,10,11,12,13] (by kernel_rfl) (by kernel_rfl)) fun n3=>Pq fun count2 i4 _ hm=> ?_
   rw [law18_WorldKeeps.l3] at hm
   exact Ag<|Ae<|Ab tbk [] 2 R R<|Aa R R (Ay T_api_Bound.vv R Bz)<|Aa R R (Bl R R R)<|Ac<|An hm R (fun h74 hm=>Ak<|Ag<|Au<|Ae<|Ab tbk [] 2 R R<|Bd hm fun x5 h75 hm=>Aa R R (Br T_api_Bound.vv R R el40 h75)<|Ab tbk [] 4 R R<|Ac<|An hm R (fun h76 hm=>A9 tbk [] R R<|A9 tbk [] R R<|Ap ((IntKind.i64.wrap (count2 + (1 : Int))),(IntKind.i64.wrap (i4 + (1 : Int)))) () hm (Ah [0,1,2,3,4,5,6,7,8,9,10,11,12,13] (by kernel_rfl) (by kernel_rfl))) fun h76 hm=>Ak<|A9 tbk [] R R<|Ap (count2,(IntKind.i64.wrap (i4 + (1 : Int)))) () hm (Ah [0,1,2,3,4,5,6,7,8,9,10,11,12,13] (by kernel_rfl) (by kernel_rfl))) fun h74 hm=>A4<|As () hm (Ah [0,1,2,3,4,5,6,7,8,9,10,11,12,13] (by kernel_rfl) (by kernel_rfl))
  refine Ag<|Af tbk [] R R<|B1 hm (fun _ (_:Unit)=>[(3,.ptr b2 0),(4,Z9 ob27 j.2.2.1 cap27),(9,L64 r13),(10,Iw count32)]) (fun _ (_:Unit)=>[.box b2 43 [.ptr b3 0,Z139 ob67 r12.1.groups cap67,Z103 ob68 r12.1.budgets cap68,Z68 ob69 r12.1.ms cap69,Z64 ob70 r12.1.bs cap70,.map b18],Q139 ob67 cap67 r12.1.groups,Q103 ob68 cap68 r12.1.budgets,Q68 ob69 cap69 r12.1.ms,Q64 ob70 cap70 r12.1.bs,.map b18 (List.map (pf VV.str (VV.int .i64)) r12.1.held),.box b3 149 [Z140 A0 A1 ob71 r12.2.1.pools cap71,Z152 A0 A1 ob72 r12.2.1.insts cap72,Iw r12.2.1.delay,Iw r12.2.1.now,Iw r12.2.1.calls],Q140 A0 A1 ob71 cap71 r12.2.1.pools,Q152 A0 A1 ob72 cap72 r12.2.1.insts,.ar A0 144 bs9 (List.map T_cloud_pool.cells j.2.2.2.1),.ar A1 157 bs18 (List.map (T_cloud_inst.cells A0 A1) r12.2.2),Q9 ob27 cap27 j.2.2.1,.ar A2 144 ([] : List Nat) (List.map T_cloud_pool.cells ([] : List T_cloud_pool)),.ar A3 157 ([] : List Nat) (List.map (T_cloud_inst.cells A0 A1) ([] : List T_cloud_inst))]) (fun o5 hm h78=>?_) fun j3 _ hm=> ?_
  ·refine B8 (fun zn (zs:Int)=>law18_WorldKeeps.l4 j r13 zn zs) (fun zs (_:Unit)=>[(3,.ptr b2 0),(4,Z9 ob27 j.2.2.1 cap27),(9,L64 r13),(10,Iw count32),(12,Iw zs)]) (fun _ (_:Unit)=>[.box b2 43 [.ptr b3 0,Z139 ob67 r12.1.groups cap67,Z103 ob68 r12.1.budgets cap68,Z68 ob69 r12.1.ms cap69,Z64 ob70 r12.1.bs cap70,.map b18],Q139 ob67 cap67 r12.1.groups,Q103 ob68 cap68 r12.1.budgets,Q68 ob69 cap69 r12.1.ms,Q64 ob70 cap70 r12.1.bs,.map b18 (List.map (pf VV.str (VV.int .i64)) r12.1.held),.box b3 149 [Z140 A0 A1 ob71 r12.2.1.pools cap71,Z152 A0 A1 ob72 r12.2.1.insts cap72,Iw r12.2.1.delay,Iw r12.2.1.now,Iw r12.2.1.calls],Q140 A0 A1 ob71 cap71 r12.2.1.pools,Q152 A0 A1 ob72 cap72 r12.2.1.insts,.ar A0 144 bs9 (List.map T_cloud_pool.cells j.2.2.2.1),.ar A1 157 bs18 (List.map (T_cloud_inst.cells A0 A1) r12.2.2),Q9 ob27 cap27 j.2.2.1,.ar A2 144 ([] : List Nat) (List.map T_cloud_pool.cells ([] : List T_cloud_pool)),.ar A3 157 ([] : List Nat) (List.map (T_cloud_inst.cells A0 A1) ([] : List T_cloud_inst))]) (0 : Int) () (fun _=>R) hm (Ah [0,1,2,3,4,5,6,7,8,9,10,11,12,13] (by kernel_rfl) (by kernel_rfl)) fun n4 k4 _ hm=> ?_
   rw [law18_WorldKeeps.l4] at hm
   refine Ag<|Ae<|Ab tbk [] 2 R R<|Aa R R (Cx VV.str R Bu)<|Aa R R (Bl R R R)<|Ac<|An hm R (fun h79 hm=>?_) fun h79 hm=> ?_
   ·refine Ak<|Ag<|Au<|Ae<|Ab tbk [] 3 R R<|Bd hm fun x6 h80 hm=>Cq 11 R (gl_pos VV.str h80) fun b19 h81=> ?_
    subst h81
    exact Aa R R (Cs VV.str R R el61 h80)<|Aa R R (Ck (i:=11) (y:=VV.str x6) R R R (gl_map _ (gl_some h80).2) ld9 R)<|Ad R R<|Ax hm 0 R fn26 R (K165 _ _) fun r14 hm=>Aa R R (Bl R R R)<|Ac<|An hm R (fun h83 hm=>Af tbk [] R R<|have hm:=Lr hm h78;Rt1 hm R [] R R R) fun h83 hm=>Ak<|A9 tbk [] R R<|Ap (IntKind.i64.wrap (k4 + (1 : Int))) () hm (Ah [0,1,2,3,4,5,6,7,8,9,10,11,12,13] (by kernel_rfl) (by kernel_rfl))
   exact A4<|Ar () hm (Ah [0,1,2,3,4,5,6,7,8,9,10,11,12,13] (by kernel_rfl) (by kernel_rfl))
  refine Ae<|Aa R R (Ai R)<|Ad R R<|Cp hm 9 R fn19 R (K147 A0 A1 _ _ _ _ _ _ _ _ _ _ _ _ _ _ _ _ _) fun r15 ob74 cap74 hm=>Bb (A7 0 [(166,L68 r15)] R ⟨⟨_,R,.here _ R⟩,trivial⟩ (FzH.refl _))<|Aa R R (Aj R)<|Ac<|Ae<|Ab tbk [0] 4 R R<|Bb (Bg [6,7,8,9,10,0,1,2,3,4,5,11,12,13] R)<|Ad R R<|Cp hm 5 R fn27 R (K43 A0 A1 _ _ _ _ _ _ _ _ _ _) fun r16 ob75 cap75 hm=>Bb (A7 0 [(171,L70 r16)] R ⟨⟨_,R,.here _ R⟩,trivial⟩ (FzH.refl _))<|Aa R R (Aj R)<|Ac<|Ag<|Af tbk [] R R<|B1 hm (fun _ (_:Unit)=>[(4,Z9 ob27 j.2.2.1 cap27),(9,L64 r13),(10,Iw count32),(13,L68 r15)]) (fun _ (_:Unit)=>[.ar A0 144 bs9 (List.map T_cloud_pool.cells j.2.2.2.1),.ar A1 157 bs18 (List.map (T_cloud_inst.cells A0 A1) r12.2.2),Q9 ob27 cap27 j.2.2.1,.ar A2 144 ([] : List Nat) (List.map T_cloud_pool.cells ([] : List T_cloud_pool)),.ar A3 157 ([] : List Nat) (List.map (T_cloud_inst.cells A0 A1) ([] : List T_cloud_inst))]) (fun o6 hm h89=>?_) fun j4 _ hm=> ?_
  ·refine B8 (fun zn (zs:Int)=>law18_WorldKeeps.l5 r15 r16 zn zs) (fun zs (_:Unit)=>[(4,Z9 ob27 j.2.2.1 cap27),(9,L64 r13),(10,Iw count32),(13,L68 r15),(14,L70 r16),(15,Iw zs)]) (fun _ (_:Unit)=>[.ar A0 144 bs9 (List.map T_cloud_pool.cells j.2.2.2.1),.ar A1 157 bs18 (List.map (T_cloud_inst.cells A0 A1) r12.2.2),Q9 ob27 cap27 j.2.2.1,.ar A2 144 ([] : List Nat) (List.map T_cloud_pool.cells ([] : List T_cloud_pool)),.ar A3 157 ([] : List Nat) (List.map (T_cloud_inst.cells A0 A1) ([] : List T_cloud_inst))]) _ () (fun _=>R) hm (Ah [3,4,11,12,13] R R) fun n5 i6 _ hm=> ?_
   rw [law18_WorldKeeps.l5] at hm
   refine Ag<|Ae<|Ab tbk [] 2 R R<|Aa R R (Ay T_api_Machine.vv R Ch)<|Aa R R (Bl R R R)<|Ac<|An hm R (fun h90 hm=>?_) fun h90 hm=> ?_
   ·refine Ak<|Ag<|Au<|Ae<|Ab tbk [] 2 R R<|Bd hm fun x7 h91 hm=>Aa R R (Br T_api_Machine.vv R R el39 h91)<|Ab tbk [] 4 R R<|Ac<|Ag<|Af tbk [] R R<|Cf hm (fun met32 (_:Unit)=>[(4,Z9 ob27 j.2.2.1 cap27),(9,L64 r13),(10,Iw count32),(13,L68 r15),(14,L70 r16),(15,Iw i6),(16,.bool met32)]) (fun _ (_:Unit)=>[.ar A0 144 bs9 (List.map T_cloud_pool.cells j.2.2.2.1),.ar A1 157 bs18 (List.map (T_cloud_inst.cells A0 A1) r12.2.2),Q9 ob27 cap27 j.2.2.1,.ar A2 144 ([] : List Nat) (List.map T_cloud_pool.cells ([] : List T_cloud_pool)),.ar A3 157 ([] : List Nat) (List.map (T_cloud_inst.cells A0 A1) ([] : List T_cloud_inst))]) (fun o7 hm=>?_) fun met32 _ hm=> ?_
    ·refine B8 (fun zn (zs:Bool × Int)=>law18_WorldKeeps.l6 r15 r16 i6 zn zs.1 zs.2) (fun zs (_:Unit)=>[(4,Z9 ob27 j.2.2.1 cap27),(9,L64 r13),(10,Iw count32),(13,L68 r15),(14,L70 r16),(15,Iw i6),(16,.bool zs.1),(17,Iw zs.2)]) (fun _ (_:Unit)=>[.ar A0 144 bs9 (List.map T_cloud_pool.cells j.2.2.2.1),.ar A1 157 bs18 (List.map (T_cloud_inst.cells A0 A1) r12.2.2),Q9 ob27 cap27 j.2.2.1,.ar A2 144 ([] : List Nat) (List.map T_cloud_pool.cells ([] : List T_cloud_pool)),.ar A3 157 ([] : List Nat) (List.map (T_cloud_inst.cells A0 A1) ([] : List T_cloud_inst))]) ((V.seq x7.Group (⟨#[]⟩ : ByteArray)),(0 : Int)) () (fun _=>R) hm (Ah [0,1,2,3,4] R R) fun n6=>Pq fun met2 k6 _ hm=> ?_
     rw [law18_WorldKeeps.l6] at hm
     exact Ag<|Ae<|Ab tbk [] 2 R R<|Aa R R (Ay T_api_Inst.vv R Cu)<|Aa R R (Bl R R R)<|Ac<|An hm R (fun h94 hm=>Ak<|Ag<|Au<|Bn 0 mixed<|A6 tbk [0,1] [] (by kernel_rfl) R R R<|Df hm [13,12,11,10,9,8,7,6,5,4,3,2,1,0] 203 191 R (fun _ K' h95 J hm=>A6 tbk [2,3,4,5,6,7,8,9,10,11,12,13] [] (by kernel_rfl) R R R<|J 11 R R (Bj hm)) (fun _ K' h95 J hm=>A6 tbk [2,3] [] (by kernel_rfl) R R R<|Bd hm fun x8 h96 hm=>Dl 4 R R R R R R (by kernel_rfl) (Br T_api_Inst.vv R R el54 h96)<|A6 tbk [5,6,7,8] [] (by kernel_rfl) R R R<|Bd hm fun x9 h97 hm=>Dl 9 R R R R R R (by kernel_rfl) (Br T_api_Machine.vv R R el39 h97)<|A6 tbk [10,11,12,13] [] (by kernel_rfl) R R R<|J 11 R R (Bj hm)) fun c3 hm=>Ba 14 R R R (by kernel_rfl) (Aj R)<|A5 (by kernel_rfl)<|A9 tbk [] R R<|Ap (c3,(IntKind.i64.wrap (k6 + (1 : Int)))) () hm (Ah [0,1,2,3,4] R R)) fun h94 hm=>A4<|As () hm (Ah [0,1,2,3,4] R R)
    exact Af tbk [] R R<|An hm R (fun h99 hm=>Af tbk [] R R<|have hm:=Lr hm h89;Rt1 hm R [] R R R) fun h99 hm=>Ak<|A9 tbk [] R R<|Ap _ () hm (Ah [0,1,2,3,4] R R)
   exact A4<|Ar () hm (Ah [0,1,2,3,4] R R)
  refine Ae<|Ab tbk [] 2 R R<|Aa R R (Cx VV.str R Bu)<|Ab tbk [] 2 R R<|Bh hm 5 215 210 R (fun _ K' h100 J hm=>Ab tbk [] 2 R R<|A8 R R R R R<|Ax hm 0 R fn28 R (K1 _ _) fun r17 hm=>Ab tbk [] 2 R R<|J 4 R R (Bj hm)) (fun _ K' h100 J hm=>Ab tbk [] 5 R R<|J 4 R R (Bj hm)) fun c4 hm=>Aa R R (Ai R)<|VR.cs hm 216 R (fun h105 hm=>?_) fun h105 hm=> ?_
  ·refine Bd hm fun r19 h106 hm=>Bb (Bg [3,4,0,1,2] R)<|A8 R R R R R<|Aw 2 R fn10 R (K159 A2 A3 ([] : List T_cloud_pool) ([] : List T_cloud_inst) ([] : List Nat) ([] : List Nat) r19 h106) fun _ _ h107=> ?_
   obtain ⟨bs21,bs22,rfl,rfl⟩:=h107
   exact Ab tbk [] 2 R R<|Ac<|Rt1 hm R [] R R R
  exact Ab tbk [] 3 R R<|Ac<|Rt1 hm R [] R R R

end Go.Proofs.YtbgfffdnaijmhaaGreat.M

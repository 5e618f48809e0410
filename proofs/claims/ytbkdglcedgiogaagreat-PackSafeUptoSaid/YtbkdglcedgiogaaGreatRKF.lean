/-
  Printed by a program of this session out of the loaded functions: models and their proofs. Own text.
-/
import Derived.Test.YtbkdglcedgiogaaGreatRKF1
namespace Go.Proofs.YtbkdglcedgiogaaGreat.M
open Go Go.Proofs Go.Proofs.YtbkdglcedgiogaaGreat.V
open Go.IntKind (i64)
set_option linter.unusedVariables false
set_option maxRecDepth 20000
set_option maxHeartbeats 4000000
/-! trireme/triremelaw19.PackSafe -/
def law19_PackSafe.l1 (c : T_law19_Case) (r3 : List T_api_Move × Int) : Nat → (List T_api_Machine) → Int → Option (List T_api_Machine)
 | 0, _, _ => none
 | n + 1, all2, k2 =>
  if (decide (k2 ≤ r3.2)) = true then
   (ref19_Fresh c.Like k2).bind fun r4 =>
   (V.ap 128 all2 [r4]).bind fun all4 =>
   law19_PackSafe.l1 c r3 n all4 (i64.wrap (k2 + 1))
  else
   some all2
def law19_PackSafe.l2 (c : T_law19_Case) : Nat → Bool → Int → Option Bool
 | 0, _, _ => none
 | n2 + 1, free2, i2 =>
  if (decide (i2 < (c.Bs.length : Int))) = true then
   (if free2 = true then (V.gl c.Bs i2).bind fun x =>
   some ((x.Pod.Spread.length : Int) == 0) else some false).bind fun c2 =>
   law19_PackSafe.l2 c n2 c2 (i64.wrap (i2 + 1))
  else
   some free2
def law19_PackSafe.l4 (r3 : List T_api_Move × Int) (had2 : List ByteArray) (i4 : Int) : Nat → Int → Option (Out (Out Bool (List Int × List T_api_Bound × Bool)) Unit)
 | 0, _ => none
 | n4 + 1, k4 =>
  if (decide (k4 < (had2.length : Int))) = true then
   (V.gl had2 k4).bind fun x2 =>
   (V.gl r3.1 i4).bind fun x3 =>
   if (V.seq x2 x3.Pod) = true then
    some (Out.ret (Out.ret false))
   else
    law19_PackSafe.l4 r3 had2 i4 n4 (i64.wrap (k4 + 1))
  else
   some (Out.go ())
def law19_PackSafe.l5 (c : T_law19_Case) (r3 : List T_api_Move × Int) (i4 : Int) : Nat → (List T_api_Bound) → Bool → Bool → Int → Option (List T_api_Bound × Bool × Bool)
 | 0, _, _, _, _ => none
 | n5 + 1, bs5, free8, met2, k6 =>
  if (decide (k6 < (c.L.length : Int))) = true then
   (V.gl c.L k6).bind fun x5 =>
   (V.gl r3.1 i4).bind fun x6 =>
   if (V.seq x5.Name x6.Pod) = true then
    (if free8 = true then (V.gl c.L k6).bind fun x7 =>
    some ((x7.Spread.length : Int) == 0) else some false).bind fun c3 =>
    (V.gl c.L k6).bind fun x8 =>
    (V.gl r3.1 i4).bind fun x9 =>
    (ref12_Put bs5 x8 x9.To).bind fun r5 =>
    law19_PackSafe.l5 c r3 i4 n5 r5 c3 true (i64.wrap (k6 + 1))
   else
    law19_PackSafe.l5 c r3 i4 n5 bs5 free8 met2 (i64.wrap (k6 + 1))
  else
   some (bs5, free8, met2)
def law19_PackSafe.l6 (c : T_law19_Case) (r3 : List T_api_Move × Int) (i4 : Int) : Nat → (List Int) → Bool → Int → Option (List Int × Bool)
 | 0, _, _, _ => none
 | n6 + 1, used5, on_2, k8 =>
  if (decide (k8 ≤ r3.2)) = true then
   (V.gl r3.1 i4).bind fun x10 =>
   (ref19_Fresh c.Like k8).bind fun r6 =>
   if (V.seq r6.Name x10.To) = true then
    (V.gl used5 k8).bind fun x11 =>
    (V.gl used5 k8).bind fun x12 =>
    law19_PackSafe.l6 c r3 i4 n6 (List.set used5 (k8).toNat (i64.wrap (x11 + 1))) true (i64.wrap (k8 + 1))
   else
    law19_PackSafe.l6 c r3 i4 n6 used5 on_2 (i64.wrap (k8 + 1))
  else
   some (used5, on_2)
def law19_PackSafe.l3 (c : T_law19_Case) (r3 : List T_api_Move × Int) : Nat → (List Int) → (List T_api_Bound) → Bool → (List ByteArray) → Int → Option (Out Bool (List Int × List T_api_Bound × Bool))
 | 0, _, _, _, _, _ => none
 | n3 + 1, used2, bs2, free5, had2, i4 =>
  if (decide (i4 < (r3.1.length : Int))) = true then
   (law19_PackSafe.l4 r3 had2 i4 FU (0 : Int)).bind fun o4 =>
   o4.on fun j2 =>
   (V.gl r3.1 i4).bind fun x4 =>
   (V.ap 16 had2 [x4.Pod]).bind fun had3 =>
   (law19_PackSafe.l5 c r3 i4 FU bs2 free5 false (0 : Int)).bind fun j3 =>
   (law19_PackSafe.l6 c r3 i4 FU used2 false (1 : Int)).bind fun j4 =>
   if ((!j3.2.2) || (!j4.2)) = true then
    some (Out.ret false)
   else
    law19_PackSafe.l3 c r3 n3 j4.1 j3.1 j3.2.1 had3 (i64.wrap (i4 + 1))
  else
   some (Out.go (used2, bs2, free5))
def law19_PackSafe.l7 (r3 : List T_api_Move × Int) (j : List Int × List T_api_Bound × Bool) : Nat → Int → Option (Out Bool Unit)
 | 0, _ => none
 | n7 + 1, k10 =>
  if (decide (k10 ≤ r3.2)) = true then
   (V.gl j.1 k10).bind fun x13 =>
   if (x13 == 0) = true then
    some (Out.ret false)
   else
    law19_PackSafe.l7 r3 j n7 (i64.wrap (k10 + 1))
  else
   some (Out.go ())
def law19_PackSafe (c : T_law19_Case) : Option Bool :=
 (ref19_Right c.Ms c.Bs c.L c.Like).bind fun r =>
 if (!r) = true then
  (law19_known).bind fun r2 =>
  some r2
 else
  (pack_Estimate c.Ms c.Bs c.L c.Like c.Limit).bind fun r3 =>
  if ((((decide (r3.2 < 0)) || (decide (r3.2 > (max c.Limit 0)))) || (decide (r3.2 > (r3.1.length : Int)))) || (decide ((r3.1.length : Int) > (c.L.length : Int)))) = true then
   some false
  else
   (V.ap 128 [] c.Ms).bind fun l =>
   (V.mk 8 0 (i64.wrap (r3.2 + 1))).bind fun l2 =>
   (law19_PackSafe.l1 c r3 FU l (1 : Int)).bind fun all32 =>
   (law19_PackSafe.l2 c FU true (0 : Int)).bind fun free32 =>
   (law19_PackSafe.l3 c r3 FU l2 c.Bs free32 ([] : List ByteArray) (0 : Int)).bind fun o3 =>
   o3.on fun j =>
   (law19_PackSafe.l7 r3 j FU (1 : Int)).bind fun o7 =>
   o7.on fun j5 =>
   (if (!j.2.2) = true then some true else (ref12_Feasible c.Ms c.Bs).bind fun r7 =>
   some (!r7)).bind fun c4 =>
   (if c4 = true then some true else (ref12_Feasible all32 j.2.1).bind fun r8 =>
   some r8).bind fun c5 =>
   (if c5 = true then (law19_known).bind fun r9 =>
   some r9 else some false).bind fun c6 =>
   some c6
theorem law19_PackSafe_ok (c : T_law19_Case) : VS Tryz.prog 4 (law19_PackSafe c) [T_law19_Case.vv c] [] .bool N0 := by
 refine A2 [.tmp 2] Tryz.func4 R R R fun r hm=>?_
 unfold law19_PackSafe at hm
 refine Ah<|Ac R R<|A9 R R fun b=>Ab R R (Ai R)<|Ad<|Ae<|Ah<|Aa tbk [0,0,0,0] 8 R R<|Ac R R<|Am hm 0 R fn11 R (K64 _ _ _ _) fun r hm=>Ab R R (Cl R)<|Ad<|Ak hm R (fun h3 hm=>Ah<|Ac R R<|Am hm 0 R fn12 R (K131) fun r2 hm=>Ab R R (Ai R)<|Ad<|Rt1 hm R [] R R R) fun h3 hm=>Aj<|Ah<|Aa tbk [0,0,0,0,0] 10 R R<|Ac R R<|B7 hm 0 R fn13 R (K128 _ _ _ _ _) fun r3 ob cap hm=>Aa tbk [] 5 R R<|Ad<|Ae<|Ah<|Aa tbk [] 3 R R<|Cx 6 52 46 R (fun K' J=>Aa tbk [] 6 R R<|J 5 R R R) (fun h7 K' J=>Aa tbk [1] 3 R R<|Bk R R R R R (C4 R R)<|Aa tbk [] 2 R R<|J 5 R R R)<|Ab R R (Al R)<|Cx 5 58 53 R (fun K' J=>Aa tbk [] 5 R R<|J 4 R R R) (fun h8 K' J=>Aa tbk [] 2 R R<|Bk R R R R R (Cr T_api_Move.vv R Co)<|Aa tbk [] 2 R R<|J 4 R R R)<|Ab R R (Al R)<|Cx 7 66 59 R (fun K' J=>Aa tbk [] 7 R R<|J 6 R R R) (fun h9 K' J=>Bk R R R R R (Al R)<|Bk R R R R R (Cr T_api_Move.vv R Co)<|Aa tbk [1] 2 R R<|Bk R R R R R (Ax T_api_Pod.vv R B4)<|Aa tbk [] 2 R R<|J 6 R R R)<|Ad<|Ak hm R (fun h10 hm=>Ag tbk [] R R<|Rt1 hm R [] R R R) fun h10 hm=>Aj<|Ah<|Ac R R<|A7 ap22 R R R R R fun b2=>Aa tbk [2] 2 R R<|Bd hm fun l h12 hm=>Ac R R<|Bz 0 T_api_Machine.vv (l:=[]) (l2:=c.Ms) ap22 R R (sT_list T_api_Machine.vv el22 R R) h12 fun ob2 cap2=>Ab R R (Ai R)<|Ad<|Ah<|Aa tbk [] 2 R R<|Bd hm fun l2 h13 hm=>Ac R R<|VO.makeS (f:=(VV.int .i64)) (0 : Int) ap41 zc3 (fun _ _ => .int _ _) (fun _ => ⟨R,R⟩) R R R h13 fun b3=>Ab R R (Ai R)<|Ad<|Ae<|Ag tbk [] R R<|Bx hm (fun all32 (gg:Option Nat × Nat)=>[(1,.ptr b 0),(3,Z53 ob r3.1 cap),(4,Iw r3.2),(5,Z30 gg.1 all32 gg.2),(6,Z3 (some b3) l2 l2.length)]) (fun all32 (gg:Option Nat × Nat)=>[Q3 (some b3) l2.length l2,Q30 gg.1 gg.2 all32,Q53 ob cap r3.1,X32 b c]) (fun o hm=>?_) fun all32=>Pq fun ob5 cap5 hm=> ?_
 ·refine Bm (fun zn (zs:List T_api_Machine × Int)=>law19_PackSafe.l1 c r3 zn zs.1 zs.2) (fun zs (zg:Option Nat × Nat)=>[(1,.ptr b 0),(3,Z53 ob r3.1 cap),(4,Iw r3.2),(5,Z30 zg.1 zs.1 zg.2),(6,Z3 (some b3) l2 l2.length),(7,Iw zs.2)]) (fun zs (zg:Option Nat × Nat)=>[Q3 (some b3) l2.length l2,Q30 zg.1 zg.2 zs.1,Q53 ob cap r3.1,X32 b c]) (l,(1 : Int)) (ob2,cap2) (fun _=>R) hm (Af [0,0,0,0] R R) fun n=>Pq fun all2 k2=>Pq fun ob4 cap4 hm=> ?_
  rw [law19_PackSafe.l1] at hm
  exact Ae<|Ag tbk [] R R<|Ak hm R (fun h17 hm=>Aj<|Ae<|Az<|Bo<|Aa tbk [3] 4 R R<|Ac R R<|Am hm 0 R fn21 R (K136 _ _) fun r4 hm=>Ac R R<|A7 ap22 R R R R R fun b4=>Bd hm fun all4 h20 hm=>Ac R R<|Bz 2 T_api_Machine.vv (l:=all2) (l2:=[r4]) ap22 R R (sT_row 0 T_api_Machine.vv el22 R R) h20 fun ob6 cap6=>Ab R R (Ai R)<|Ad<|A6 tbk [] R R<|Ap (all4,(IntKind.i64.wrap (k2 + (1 : Int)))) (ob6,cap6) hm (Af [1,1,1,1] R R)) fun h17 hm=>A3<|As (ob4,cap4) hm (Af [0,0,0,0] R R)
 refine Ag tbk [3] R R<|Ag tbk [] R R<|Ae<|Ag tbk [] R R<|Bx hm (fun free32 (_:Unit)=>[(1,.ptr b 0),(3,Z53 ob r3.1 cap),(4,Iw r3.2),(5,Z30 ob5 all32 cap5),(6,Z3 (some b3) l2 l2.length),(8,L50 c.Bs),(9,.bool free32)]) (fun _ (_:Unit)=>[Q3 (some b3) l2.length l2,Q30 ob5 cap5 all32,Q53 ob cap r3.1,X32 b c]) (fun o2 hm=>?_) fun free32 _ hm=> ?_
 ·refine Bm (fun zn (zs:Bool × Int)=>law19_PackSafe.l2 c zn zs.1 zs.2) (fun zs (_:Unit)=>[(1,.ptr b 0),(3,Z53 ob r3.1 cap),(4,Iw r3.2),(5,Z30 ob5 all32 cap5),(6,Z3 (some b3) l2 l2.length),(8,L50 c.Bs),(9,.bool zs.1),(10,Iw zs.2)]) (fun _ (_:Unit)=>[Q3 (some b3) l2.length l2,Q30 ob5 cap5 all32,Q53 ob cap r3.1,X32 b c]) (true,(0 : Int)) () (fun _=>R) hm (Af [0,0,0,0] R R) fun n2=>Pq fun free2 i2 _ hm=> ?_
  rw [law19_PackSafe.l2] at hm
  exact Ae<|Ah<|Aa tbk [3] 3 R R<|Ab R R (Ax T_api_Bound.vv R Bn)<|Ab R R (A5 R R R)<|Ad<|Ak hm R (fun h23 hm=>Aj<|Ae<|Az<|Bo<|Aa tbk [] 2 R R<|Bf hm 10 106 96 R (fun _ K' h24 J hm=>Aa tbk [3] 3 R R<|Bd hm fun x h25 hm=>Bk R R R R R (A0 T_api_Bound.vv R R el23 h25)<|Aa tbk [] 3 R R<|Bk R R R R R (Ax T_api_Label.vv R Bp)<|Aa tbk [] 2 R R<|J 9 R R (Bj hm)) (fun _ K' h24 J hm=>Aa tbk [] 10 R R<|J 9 R R (Bj hm)) fun c2 hm=>Ab R R (Ai R)<|Ad<|A6 tbk [] R R<|Ap (c2,(IntKind.i64.wrap (i2 + (1 : Int)))) () hm (Af [0,0,0,0] R R)) fun h23 hm=>A3<|As () hm (Af [0,0,0,0] R R)
 refine Ag tbk [] R R<|Ae<|Ag tbk [] R R<|Bu hm (fun j (_:Unit)=>[(1,.ptr b 0),(4,Iw r3.2),(5,Z30 ob5 all32 cap5),(6,Z3 (some b3) j.1 l2.length),(8,L50 j.2.1),(9,.bool j.2.2)]) (fun j (_:Unit)=>[Q3 (some b3) l2.length j.1,Q30 ob5 cap5 all32,X32 b c]) (fun o3 hm h30=>?_) fun j _ hm=> ?_
 ·refine Bm (fun zn (zs:List Int × List T_api_Bound × Bool × List ByteArray × Int)=>law19_PackSafe.l3 c r3 zn zs.1 zs.2.1 zs.2.2.1 zs.2.2.2.1 zs.2.2.2.2) (fun zs (zg:Option Nat × Option Nat × Nat)=>[(1,.ptr b 0),(3,Z53 zg.1 r3.1 cap),(4,Iw r3.2),(5,Z30 ob5 all32 cap5),(6,Z3 (some b3) zs.1 l2.length),(8,L50 zs.2.1),(9,.bool zs.2.2.1),(11,Z9 zg.2.1 zs.2.2.2.1 zg.2.2),(12,Iw zs.2.2.2.2)]) (fun zs (zg:Option Nat × Option Nat × Nat)=>[Q9 zg.2.1 zg.2.2 zs.2.2.2.1,Q3 (some b3) l2.length zs.1,Q30 ob5 cap5 all32,Q53 zg.1 cap r3.1,X32 b c]) (l2,c.Bs,free32,([] : List ByteArray),(0 : Int)) (ob,none,0) (fun _=>R) hm (Ba (Bb 9) (Af [0,0,0,0,0] R R)) fun n3=>Pq fun used2=>Pq fun bs2=>Pq fun free5=>Pq fun had2 i4=>Pq fun ob9=>Pq fun ob10 cap8 hm=> ?_
  rw [law19_PackSafe.l3] at hm
  refine Ae<|Ah<|Aa tbk [] 2 R R<|Ab R R (Cr T_api_Move.vv R Co)<|Ab R R (A5 R R R)<|Ad<|Ak hm R (fun h31 hm=>?_) fun h31 hm=> ?_
  ·refine Aj<|Ae<|Az<|Ae<|Ag tbk [] R R<|Bu hm (fun _ (gg:Option Nat × Option Nat)=>[(1,.ptr b 0),(3,Z53 gg.1 r3.1 cap),(4,Iw r3.2),(5,Z30 ob5 all32 cap5),(6,Z3 (some b3) used2 l2.length),(8,L50 bs2),(9,.bool free5),(11,Z9 gg.2 had2 cap8),(12,Iw i4)]) (fun _ (gg:Option Nat × Option Nat)=>[Q9 gg.2 cap8 had2,Q3 (some b3) l2.length used2,Q30 ob5 cap5 all32,Q53 gg.1 cap r3.1,X32 b c]) (fun o4 hm h33=>?_) fun j2=>Pq fun ob15 ob16 hm=> ?_
   ·refine Bm (fun zn (zs:Int)=>law19_PackSafe.l4 r3 had2 i4 zn zs) (fun zs (zg:Option Nat × Option Nat)=>[(1,.ptr b 0),(3,Z53 zg.1 r3.1 cap),(4,Iw r3.2),(5,Z30 ob5 all32 cap5),(6,Z3 (some b3) used2 l2.length),(8,L50 bs2),(9,.bool free5),(11,Z9 zg.2 had2 cap8),(12,Iw i4),(13,Iw zs)]) (fun _ (zg:Option Nat × Option Nat)=>[Q9 zg.2 cap8 had2,Q3 (some b3) l2.length used2,Q30 ob5 cap5 all32,Q53 zg.1 cap r3.1,X32 b c]) _ (ob9,ob10) (fun _=>R) hm (Af [0,0,0,0,0] R R) fun n4 k4=>Pq fun ob13 ob14 hm=> ?_
    rw [law19_PackSafe.l4] at hm
    refine Ae<|Ah<|Aa tbk [] 2 R R<|Ab R R (Cr VV.str R Br)<|Ab R R (A5 R R R)<|Ad<|Ak hm R (fun h34 hm=>?_) fun h34 hm=> ?_
    ·refine Aj<|Ae<|Az<|Ae<|Bc 0 mixed<|Au tbk [0,1] [] (by kernel_rfl) R R R<|Bd hm fun x2 h35 hm=>Dd 0 R (gl_pos VV.str h35) fun b5 h36=> ?_
     subst h36
     refine Av 2 R R R (by kernel_rfl) (Cd VV.str R R el51 h35)<|Av 3 R R R (by kernel_rfl) (Cb (i:=0) (y:=VV.str x2) R R R (gl_map _ (gl_some h35).2) ld9 R)<|Au tbk [4,5] [] (by kernel_rfl) R R R<|Bd hm fun x3 h37 hm=>Dd 3 R (gl_pos T_api_Move.vv h37) fun b6 h38=> ?_
     subst h38
     exact Av 6 R R R (by kernel_rfl) (Cd T_api_Move.vv R R el35 h37)<|Av 7 R R R (by kernel_rfl) (Cz R fa53_0)<|Av 8 R R R (by kernel_rfl) (Cb (i:=3) (y:=T_api_Move.vv x3) R R R (gl_map _ (gl_some h37).2) ld9 R)<|Av 9 R R R (by kernel_rfl) (VP.strop R R R)<|A1 (by kernel_rfl)<|Ak hm R (fun h39 hm=>Ag tbk [] R R<|have hm:=Lr hm h33;have hm:=Lr hm h30;Rt1 hm R [] R R R) fun h39 hm=>Aj<|A6 tbk [] R R<|Ap _ ((some b6),(some b5)) hm (Af [0,0,0,0,0] R R)
    exact A3<|Ar (ob13,ob14) hm (Af [0,0,0,0,0] R R)
   refine Ah<|Aa tbk [] 3 R R<|Bd hm fun x4 h40 hm=>Ci 3 R (gl_pos T_api_Move.vv h40) fun b7 h41=> ?_
   subst h41
   refine Ab R R (Cd T_api_Move.vv R R el35 h40)<|Ab R R (Cz R fa53_0)<|Ab R R (Cb (i:=3) (y:=T_api_Move.vv x4) R R R (gl_map _ (gl_some h40).2) ld9 R)<|Ac R R<|A7 ap51 R R R R R fun b8=>Bd hm fun had3 h43 hm=>Ac R R<|Bz 1 VV.str (l:=had2) (l2:=[x4.Pod]) ap51 R R (sT_row 0 VV.str el51 R R) h43 fun ob17 cap9=>Ab R R (Ai R)<|Ad<|Ag tbk [] R R<|Ae<|Ag tbk [] R R<|Bx hm (fun j3 (_:Unit)=>[(1,.ptr b 0),(3,Z53 (some b7) r3.1 cap),(4,Iw r3.2),(5,Z30 ob5 all32 cap5),(6,Z3 (some b3) used2 l2.length),(8,L50 j3.1),(9,.bool j3.2.1),(11,Z9 ob17 had3 cap9),(12,Iw i4),(14,.bool j3.2.2)]) (fun _ (_:Unit)=>[Q9 ob17 cap9 had3,Q3 (some b3) l2.length used2,Q30 ob5 cap5 all32,Q53 (some b7) cap r3.1,X32 b c]) (fun o5 hm=>?_) fun j3 _ hm=> ?_
   ·refine Bm (fun zn (zs:List T_api_Bound × Bool × Bool × Int)=>law19_PackSafe.l5 c r3 i4 zn zs.1 zs.2.1 zs.2.2.1 zs.2.2.2) (fun zs (_:Unit)=>[(1,.ptr b 0),(3,Z53 (some b7) r3.1 cap),(4,Iw r3.2),(5,Z30 ob5 all32 cap5),(6,Z3 (some b3) used2 l2.length),(8,L50 zs.1),(9,.bool zs.2.1),(11,Z9 ob17 had3 cap9),(12,Iw i4),(14,.bool zs.2.2.1),(15,Iw zs.2.2.2)]) (fun _ (_:Unit)=>[Q9 ob17 cap9 had3,Q3 (some b3) l2.length used2,Q30 ob5 cap5 all32,Q53 (some b7) cap r3.1,X32 b c]) (bs2,free5,false,(0 : Int)) () (fun _=>R) hm (Af [1,1,1,1,1] R R) fun n5=>Pq fun bs5=>Pq fun free8=>Pq fun met2 k6 _ hm=> ?_
    rw [law19_PackSafe.l5] at hm
    refine Ae<|Ah<|Aa tbk [4] 3 R R<|Ab R R (Ax T_api_Pod.vv R B4)<|Ab R R (A5 R R R)<|Ad<|Ak hm R (fun h46 hm=>?_) fun h46 hm=> ?_
    ·exact Aj<|Ae<|Az<|Ae<|Bc 0 mixed<|Au tbk [0,1,2] [4] (by kernel_rfl) R R R<|Bd hm fun x5 h47 hm=>Av 3 R R R (by kernel_rfl) (A0 T_api_Pod.vv R R el24 h47)<|Au tbk [4,5,6,7] [] (by kernel_rfl) R R R<|Bd hm fun x6 h48 hm=>Av 8 R R R (by kernel_rfl) (Cd T_api_Move.vv R R el35 h48)<|Av 9 R R R (by kernel_rfl) (Cz R fa53_0)<|Av 10 R R R (by kernel_rfl) (Cb (i:=3) (y:=T_api_Move.vv x6) R R R (gl_map _ (gl_some h48).2) ld9 R)<|Av 11 R R R (by kernel_rfl) (VP.strop R R R)<|A1 (by kernel_rfl)<|Ak hm R (fun h49 hm=>Ag tbk [] R R<|Ah<|Aa tbk [] 2 R R<|Bf hm 9 166 157 R (fun _ K' h50 J hm=>Aa tbk [4] 3 R R<|Bd hm fun x7 h51 hm=>Bk R R R R R (A0 T_api_Pod.vv R R el24 h51)<|Aa tbk [] 2 R R<|Bk R R R R R (Ax T_api_Label.vv R Bp)<|Aa tbk [] 2 R R<|J 8 R R (Bj hm)) (fun _ K' h50 J hm=>Aa tbk [] 9 R R<|J 8 R R (Bj hm)) fun c3 hm=>Ab R R (Ai R)<|Ad<|Bc 0 mixed<|Au tbk [0,1,2,3] [4] (by kernel_rfl) R R R<|Bd hm fun x8 h53 hm=>Av 4 R R R (by kernel_rfl) (A0 T_api_Pod.vv R R el24 h53)<|Au tbk [5,6,7] [] (by kernel_rfl) R R R<|Bd hm fun x9 h54 hm=>Av 8 R R R (by kernel_rfl) (Cd T_api_Move.vv R R el35 h54)<|Av 9 R R R (by kernel_rfl) (Cz R fa53_1)<|Av 10 R R R (by kernel_rfl) (Cb (i:=3) (y:=T_api_Move.vv x9) R R R (gl_map _ (gl_some h54).2) ld9 R)<|Ao 11 (by kernel_rfl)<|Aq R R R<|B7 hm 0 R fn22 R (K162 _ _ _) fun r5 ob18 cap10 hm=>Cm (Aw 0 [(178,L50 r5)] R ⟨⟨_,R,.here _ R⟩,trivial⟩ (FzH.refl _))<|Av 12 R R R (by kernel_rfl) (Ai R)<|A1 (by kernel_rfl)<|A6 tbk [] R R<|Ap (r5,c3,true,(IntKind.i64.wrap (k6 + (1 : Int)))) () hm (Af [0,0,0,0,0] R R)) fun h49 hm=>Aj<|A6 tbk [] R R<|Ap (bs5,free8,met2,(IntKind.i64.wrap (k6 + (1 : Int)))) () hm (Af [0,0,0,0,0] R R)
    exact A3<|As () hm (Af [0,0,0,0,0] R R)
   refine Ag tbk [] R R<|Ae<|Ag tbk [] R R<|Bx hm (fun j4 (_:Unit)=>[(1,.ptr b 0),(3,Z53 (some b7) r3.1 cap),(4,Iw r3.2),(5,Z30 ob5 all32 cap5),(6,Z3 (some b3) j4.1 l2.length),(8,L50 j3.1),(9,.bool j3.2.1),(11,Z9 ob17 had3 cap9),(12,Iw i4),(14,.bool j3.2.2),(16,.bool j4.2)]) (fun j4 (_:Unit)=>[Q9 ob17 cap9 had3,Q3 (some b3) l2.length j4.1,Q30 ob5 cap5 all32,Q53 (some b7) cap r3.1,X32 b c]) (fun o6 hm=>?_) fun j4 _ hm=> ?_
   ·refine Bm (fun zn (zs:List Int × Bool × Int)=>law19_PackSafe.l6 c r3 i4 zn zs.1 zs.2.1 zs.2.2) (fun zs (_:Unit)=>[(1,.ptr b 0),(3,Z53 (some b7) r3.1 cap),(4,Iw r3.2),(5,Z30 ob5 all32 cap5),(6,Z3 (some b3) zs.1 l2.length),(8,L50 j3.1),(9,.bool j3.2.1),(11,Z9 ob17 had3 cap9),(12,Iw i4),(14,.bool j3.2.2),(16,.bool zs.2.1),(17,Iw zs.2.2)]) (fun zs (_:Unit)=>[Q9 ob17 cap9 had3,Q3 (some b3) l2.length zs.1,Q30 ob5 cap5 all32,Q53 (some b7) cap r3.1,X32 b c]) (used2,false,(1 : Int)) () (fun _=>R) hm (Af [0,0,0,0,0] R R) fun n6=>Pq fun used5=>Pq fun on_2 k8 _ hm=> ?_
    rw [law19_PackSafe.l6] at hm
    refine Ae<|Ag tbk [] R R<|Ak hm R (fun h59 hm=>?_) fun h59 hm=> ?_
    ·exact Aj<|Ae<|Az<|Ae<|Bc 0 mixed<|Au tbk [0,1,2,5,6] [4] (by kernel_rfl) R R R<|Bd hm fun x10 h60 hm=>Av 7 R R R (by kernel_rfl) (Cd T_api_Move.vv R R el35 h60)<|Av 8 R R R (by kernel_rfl) (Cz R fa53_1)<|Av 9 R R R (by kernel_rfl) (Cb (i:=3) (y:=T_api_Move.vv x10) R R R (gl_map _ (gl_some h60).2) ld9 R)<|Ao 3 (by kernel_rfl)<|Aq R R R<|Am hm 0 R fn21 R (K136 _ _) fun r6 hm=>Av 4 R R R (by kernel_rfl) (VP.field R fd30_0 R)<|Av 10 R R R (by kernel_rfl) (VP.strop R R R)<|A1 (by kernel_rfl)<|Ak hm R (fun h62 hm=>Ag tbk [] R R<|Bo<|Aa tbk [] 2 R R<|Bd hm fun x11 h63 hm=>Ab R R (Cd (VV.int .i64) R R el41 h63)<|Ab R R (Cb (i:=1) (y:=(VV.int .i64) x11) R R R (gl_map _ (gl_some h63).2) ld3 R)<|Ab R R (A5 R R R)<|Bd hm fun x12 h64 hm=>Ab R R (Cd (VV.int .i64) R R el41 h64)<|Ac R R<|C7 1 (f:=(VV.int .i64)) (l:=used5) (q:=x12) (q':=(IntKind.i64.wrap (x11 + (1 : Int)))) R R R R h64 ld3 R R R R ⟨R,List.all_eq_true.1 R⟩<|Be (B5 6 (List.map (VV.int .i64) (List.set used5 (k8).toNat (IntKind.i64.wrap (x11 + (1 : Int))))).length R (len_set _ _ _ _))<|Be (B5 195 (List.map (VV.int .i64) (List.set used5 (k8).toNat (IntKind.i64.wrap (x11 + (1 : Int))))).length R (len_set _ _ _ _))<|Ad<|A6 tbk [] R R<|Ap ((List.set used5 (k8).toNat (IntKind.i64.wrap (x11 + (1 : Int)))),true,(IntKind.i64.wrap (k8 + (1 : Int)))) () hm (Af [0,0,0,0,0] R R)) fun h62 hm=>Aj<|A6 tbk [] R R<|Ap (used5,on_2,(IntKind.i64.wrap (k8 + (1 : Int)))) () hm (Af [0,0,0,0,0] R R)
    exact A3<|As () hm (Af [0,0,0,0,0] R R)
   exact Ah<|Aa tbk [] 3 R R<|Cn tbk [] 3 206 203 R R R R R<|Ad<|Ak hm R (fun h66 hm=>Ag tbk [] R R<|have hm:=Lr hm h30;Rt1 hm R [] R R R) fun h66 hm=>Aj<|A6 tbk [] R R<|Ap (j4.1,j3.1,j3.2.1,had3,(IntKind.i64.wrap (i4 + (1 : Int)))) ((some b7),ob17,cap9) hm (Af [0,0,0,0,0] R R)
  exact A3<|Ar () hm (Af [1,1,2] R R)
 refine Ae<|Ag tbk [] R R<|Bu hm (fun _ (_:Unit)=>[(1,.ptr b 0),(5,Z30 ob5 all32 cap5),(8,L50 j.2.1),(9,.bool j.2.2)]) (fun _ (_:Unit)=>[Q30 ob5 cap5 all32,X32 b c]) (fun o7 hm h69=>?_) fun j5 _ hm=> ?_
 ·refine Bm (fun zn (zs:Int)=>law19_PackSafe.l7 r3 j zn zs) (fun zs (_:Unit)=>[(1,.ptr b 0),(4,Iw r3.2),(5,Z30 ob5 all32 cap5),(6,Z3 (some b3) j.1 l2.length),(8,L50 j.2.1),(9,.bool j.2.2),(18,Iw zs)]) (fun _ (_:Unit)=>[Q3 (some b3) l2.length j.1,Q30 ob5 cap5 all32,X32 b c]) _ () (fun _=>R) hm (Af [0,0,0] R R) fun n7 k10 _ hm=> ?_
  rw [law19_PackSafe.l7] at hm
  exact Ae<|Ag tbk [] R R<|Ak hm R (fun h70 hm=>Aj<|Ae<|Az<|Ah<|Aa tbk [] 2 R R<|Bd hm fun x13 h71 hm=>Ab R R (Cd (VV.int .i64) R R el41 h71)<|Ab R R (Cb (i:=0) (y:=(VV.int .i64) x13) R R R (gl_map _ (gl_some h71).2) ld3 R)<|Ab R R (A5 R R R)<|Ad<|Ak hm R (fun h72 hm=>Ag tbk [] R R<|have hm:=Lr hm h69;Rt1 hm R [] R R R) fun h72 hm=>Aj<|A6 tbk [] R R<|Ap _ () hm (Af [0,0,0] R R)) fun h70 hm=>A3<|Ar () hm (Af [1,1] R R)
 exact Ah<|Aa tbk [] 3 R R<|Bf hm 7 226 219 R (fun _ K' h73 J hm=>Aa tbk [] 7 R R<|J 6 R R (Bj hm)) (fun _ K' h73 J hm=>Aa tbk [1,1] 4 R R<|A8 R R R R R<|Am hm 0 R fn23 R (K167 _ _) fun r7 hm=>Aa tbk [] 2 R R<|J 6 R R (Bj hm)) fun c4 hm=>Ab R R (Al R)<|Bf hm 4 231 227 R (fun _ K' h76 J hm=>Aa tbk [] 4 R R<|J 3 R R (Bj hm)) (fun _ K' h76 J hm=>Aa tbk [] 2 R R<|A8 R R R R R<|Da hm (Aw 0 [(5,L30 all32),(228,L30 all32)] R ⟨⟨_,R,.here _ R⟩,⟨_,R,.here _ R⟩,trivial⟩ (FzH.refl _)) [.same,.same] R fn23 R (K167 _ _) (fun _=>R) (fun _=>R) fun r8 hm=>Ab R R (Bg false R R R)<|J 3 R R (Bj hm)) fun c5 hm=>Ab R R (Al R)<|Bf hm 2 234 232 R (fun _ K' h79 J hm=>A8 R R R R R<|Am hm 0 R fn12 R (K131) fun r9 hm=>Ab R R (Bg true R R R)<|J 1 R R (Bj hm)) (fun _ K' h79 J hm=>Aa tbk [] 2 R R<|J 1 R R (Bj hm)) fun c6 hm=>Ab R R (Ai R)<|Ad<|Rt1 hm R [] R R R

/-! trireme/triremelaw14.right -/
def law14_right (ms : List T_api_Machine) (bs : List T_api_Bound) : Option Bool :=
 (ref09_Light ms bs).bind fun r =>
 (if r = true then (ref09_Check ms bs).bind fun r2 =>
 some (r2 == 0) else some false).bind fun c =>
 some c
theorem K0 (ms : List T_api_Machine) (bs : List T_api_Bound) : VS Tryz.prog 24 (law14_right ms bs) [L30 ms, L50 bs] [] .bool N0 := by
 refine A2 [.tmp 4] Tryz.func24 R R R fun r hm=>?_
 unfold law14_right at hm
 exact Ag tbk [] R R<|Ah<|Aa tbk [] 2 R R<|Ac R R<|Am hm 0 R fn50 R (K37 _ _) fun r hm=>Ab R R (Al R)<|Bf hm 5 13 8 R (fun _ K' h2 J hm=>Aa tbk [] 2 R R<|A8 R R R R R<|Am hm 0 R fn37 R (K62 _ _) fun r2 hm=>Aa tbk [] 2 R R<|J 4 R R (Bj hm)) (fun _ K' h2 J hm=>Aa tbk [] 5 R R<|J 4 R R (Bj hm)) fun c hm=>Ab R R (Ai R)<|Ad<|Rt1 hm R [] R R R

/-! trireme/sched.Order$1 -/
def sched_Order_1 (a : Int) (b : Int) (a2 : List T_api_Bound) : Option Bool :=
 (V.gl a2 a).bind fun x =>
 (V.gl a2 b).bind fun x2 =>
 some (decide (x.Pod.Rank > x2.Pod.Rank))
theorem K1 (a : Int) (b : Int) (a2 : List T_api_Bound) (b2 : Nat) : VS Tryz.prog 64 (sched_Order_1 a b a2) [Iw a, Iw b, .ptr b2 0] [.box b2 23 [L50 a2]] .bool (fun r=>[.box b2 23 [L50 a2]]) := by
 refine A2 [.tmp 5] Tryz.func64 R R R fun r hm=>?_
 unfold sched_Order_1 at hm
 exact Ag tbk [] R R<|Ae<|Bc 0 mixed<|Au tbk [0,1] [0] (by kernel_rfl) R R R<|Bd hm fun x h1 hm=>Av 2 R R R (by kernel_rfl) (A0 T_api_Bound.vv R R el23 h1)<|Au tbk [3,4,5,6,7] [0] (by kernel_rfl) R R R<|Bd hm fun x2 h2 hm=>Av 8 R R R (by kernel_rfl) (A0 T_api_Bound.vv R R el23 h2)<|Au tbk [9,10,11,12,13] [] (by kernel_rfl) R R R<|A1 (by kernel_rfl)<|Rt1 hm R [0] R R R

/-! trireme/sched.sorted -/
def sched_sorted_sched_Order_1.l1 (c : List T_api_Bound) : Nat → (List Int) → (List Int) → (List Int) → Option (List Int × List Int × List Int)
 | 0, _, _, _ => none
 | n + 1, a2, b3, out2 =>
  if ((decide ((a2.length : Int) > 0)) && (decide ((b3.length : Int) > 0))) = true then
   (V.gl b3 (0 : Int)).bind fun x =>
   (V.gl a2 (0 : Int)).bind fun x2 =>
   (sched_Order_1 x x2 c).bind fun r3 =>
   if r3 = true then
    (V.gl b3 (0 : Int)).bind fun x3 =>
    (V.ap 8 out2 [x3]).bind fun out4 =>
    (V.sl b3 (some 1) none).bind fun v4 =>
    sched_sorted_sched_Order_1.l1 c n a2 v4 out4
   else
    (V.gl a2 (0 : Int)).bind fun x4 =>
    (V.ap 8 out2 [x4]).bind fun out5 =>
    (V.sl a2 (some 1) none).bind fun v5 =>
    sched_sorted_sched_Order_1.l1 c n v5 b3 out5
  else
   some (a2, b3, out2)
def sched_sorted_sched_Order_1 : Nat → (List Int) → (List T_api_Bound) → Option (List Int)
 | 0, _, _ => none
 | nn + 1, l, c =>
  if (decide ((l.length : Int) < 2)) = true then
   some l
  else
   (V.quo (l.length : Int) (2 : Int)).bind fun v =>
   (V.sl l none (some (i64.wrap v))).bind fun v2 =>
   (V.sl l (some (i64.wrap v)) none).bind fun v3 =>
   ((sched_sorted_sched_Order_1 nn) v2 c).bind fun r =>
   ((sched_sorted_sched_Order_1 nn) v3 c).bind fun r2 =>
   (sched_sorted_sched_Order_1.l1 c FU r r2 ([] : List Int)).bind fun j =>
   (V.ap 8 j.2.2 j.1).bind fun out6 =>
   (V.ap 8 out6 j.2.1).bind fun out7 =>
   some out7
theorem K2 (nn : Nat) : ∀ (l : List Int) (c : List T_api_Bound) (b : Nat), VS Tryz.prog 63 (sched_sorted_sched_Order_1 nn l c) [L3 l, .clo (.func 64) [] [.ptr b 0]] [.box b 23 [L50 c]] (fun r=>L3 r) (fun r=>[.box b 23 [L50 c]]) := by
 induction nn with
 | zero => intro l c b; exact VS.none (by rw [sched_sorted_sched_Order_1])
 | succ nn ih =>
  intro l c b
  refine A2 [.tmp 4] Tryz.func63 R R R fun r hm=>?_
  rw [sched_sorted_sched_Order_1] at hm
  refine Ag tbk [] R R<|Ae<|Ah<|Ab R R (Al R)<|Ab R R (Ax (VV.int .i64) R Bq)<|Ab R R (A5 R R R)<|Ad<|Ak hm R (fun h1 hm=>Ag tbk [] R R<|Rt1 hm R [0] R R R) fun h1 hm=>Aj<|Ah<|Ab R R (Al R)<|Ab R R (Ax (VV.int .i64) R Bq)<|Bd hm fun v h2 hm=>Ab R R (C5 R R h2)<|Ab R R (Ai R)<|Ad<|Ae<|Bc 1 mixed<|Au tbk [0,1] [] (by kernel_rfl) R R R<|Bd hm fun v2 h3 hm=>Av 2 R R R (by kernel_rfl) (C8 R R R el41 h3)<|Au tbk [3,5,6] [] (by kernel_rfl) R R R<|Bd hm fun v3 h4 hm=>Av 7 R R R (by kernel_rfl) (C8 R R R el41 h4)<|Av 8 R R R (by kernel_rfl) (Al R)<|Ao 4 (by kernel_rfl)<|Aq R R R<|Am hm 1 R fn63 R (ih _ _ _) fun r hm=>Ao 9 (by kernel_rfl)<|Aq R R R<|Am hm 1 R fn63 R (ih _ _ _) fun r2 hm=>Au tbk [10,11] [] (by kernel_rfl) R R R<|A1 (by kernel_rfl)<|Ag tbk [] R R<|C0 hm (fun j (gg:Option Nat × Nat)=>[(6,L3 j.1),(7,L3 j.2.1),(8,Z3 gg.1 j.2.2 gg.2)]) (fun j (gg:Option Nat × Nat)=>[Q3 gg.1 gg.2 j.2.2,.box b 23 [L50 c]]) (fun o hm=>?_) fun j=>Pq fun ob3 cap3 hm=> ?_
  ·refine Bm (fun zn (zs:List Int × List Int × List Int)=>sched_sorted_sched_Order_1.l1 c zn zs.1 zs.2.1 zs.2.2) (fun zs (zg:Option Nat × Nat)=>[(1,.clo (.func 64) [] [.ptr b 0]),(6,L3 zs.1),(7,L3 zs.2.1),(8,Z3 zg.1 zs.2.2 zg.2)]) (fun zs (zg:Option Nat × Nat)=>[Q3 zg.1 zg.2 zs.2.2,.box b 23 [L50 c]]) (r,r2,([] : List Int)) (none,0) (fun _=>R) hm (Ba (Bb 3) (Af [0,0] R R)) fun n=>Pq fun a2=>Pq fun b3 out2=>Pq fun ob2 cap2 hm=> ?_
   rw [sched_sorted_sched_Order_1.l1] at hm
   refine Ae<|Ah<|Ab R R (Al R)<|Ab R R (Ax (VV.int .i64) R Bq)<|Aa tbk [] 2 R R<|C3 4 33 29 R (fun h11 K' J=>Bk R R R R R (Al R)<|Bk R R R R R (Ax (VV.int .i64) R Bq)<|Aa tbk [] 2 R R<|J 3 R R R) (fun K' J=>Aa tbk [] 4 R R<|J 3 R R R)<|Ad<|Ak hm R (fun h12 hm=>?_) fun h12 hm=> ?_
   ·exact Aj<|Az<|Ae<|B6 (Ce [1,0] R)<|Bc 1 mixed<|Au tbk [0,1] [] (by kernel_rfl) R R R<|Bd hm fun x h13 hm=>Av 2 R R R (by kernel_rfl) (A0 (VV.int .i64) R R el41 h13)<|Au tbk [3,4] [] (by kernel_rfl) R R R<|Bd hm fun x2 h14 hm=>Av 5 R R R (by kernel_rfl) (A0 (VV.int .i64) R R el41 h14)<|Av 6 R R R (by kernel_rfl) (Bl R ld3 R)<|Ao 7 (by kernel_rfl)<|Aq R R R<|Am hm 1 R fn64 R (K1 _ _ _ _) fun r3 hm=>A1 (by kernel_rfl)<|Ak hm R (fun h16 hm=>Ah<|Aa tbk [] 2 R R<|Bd hm fun x3 h17 hm=>Ab R R (A0 (VV.int .i64) R R el41 h17)<|Ab R R (Bl R ld3 R)<|Ac R R<|A7 ap41 R R R R R fun b5=>Bd hm fun out4 h19 hm=>Ac R R<|Bz 2 (VV.int .i64) (l:=out2) (l2:=[x3]) ap41 R R (sT_row 0 (VV.int .i64) el41 R R) h19 fun ob4 cap4=>Ab R R (Ai R)<|Ad<|Bo<|Ab R R (Al R)<|Bd hm fun v4 h20 hm=>Ab R R (C8 R R R el41 h20)<|Ab R R (Ai R)<|Ad<|Ap (a2,v4,out4) (ob4,cap4) hm (Af [2,1] R R)) fun h16 hm=>Ah<|Aa tbk [] 2 R R<|Bd hm fun x4 h21 hm=>Ab R R (A0 (VV.int .i64) R R el41 h21)<|Ab R R (Bl R ld3 R)<|Ac R R<|A7 ap41 R R R R R fun b6=>Bd hm fun out5 h23 hm=>Ac R R<|Bz 2 (VV.int .i64) (l:=out2) (l2:=[x4]) ap41 R R (sT_row 0 (VV.int .i64) el41 R R) h23 fun ob5 cap5=>Ab R R (Ai R)<|Ad<|Bo<|Ab R R (Al R)<|Bd hm fun v5 h24 hm=>Ab R R (C8 R R R el41 h24)<|Ab R R (Ai R)<|Ad<|Ap (v5,b3,out5) (ob5,cap5) hm (Af [2,1] R R)
   exact A3<|As (ob2,cap2) hm (Af [0,0] R R)
  exact Ah<|Aa tbk [] 2 R R<|Bd hm fun out6 h26 hm=>Ac R R<|Bz 0 (VV.int .i64) (l:=j.2.2) (l2:=j.1) ap41 R R (sT_list (VV.int .i64) el41 R R) h26 fun ob6 cap6=>Ab R R (Ai R)<|Ad<|Ah<|Aa tbk [] 2 R R<|Bd hm fun out7 h27 hm=>Ac R R<|Bz 0 (VV.int .i64) (l:=out6) (l2:=j.2.1) ap41 R R (sT_list (VV.int .i64) el41 R R) h27 fun ob7 cap7=>Ab R R (Ai R)<|Ad<|B6 (Aw 0 [(63,L3 out7),(4,L3 out7)] R ⟨⟨_,R,.here _ R⟩,⟨_,R,.here _ R⟩,trivial⟩ (FzH.refl _))<|Rt1 hm R [0] R R R

/-! trireme/sched.Order -/
def sched_Order.l1 : List T_api_Bound → Nat → (List Int) → Option (List Int)
 | [], k, l2 => some l2
 | x :: l4, k, l2 =>
  if (V.seq x.On (⟨#[]⟩ : ByteArray)) = true then
   (V.ap 8 l2 [(k : Int)]).bind fun l5 =>
   sched_Order.l1 l4 (k + 1) l5
  else
   sched_Order.l1 l4 (k + 1) l2
def sched_Order (bs : List T_api_Bound) : Option (List Int) :=
 (sched_Order.l1 bs 0 ([] : List Int)).bind fun l32 =>
 (sched_sorted_sched_Order_1 FU l32 bs).bind fun r =>
 some r
theorem K3 (bs : List T_api_Bound) : VS Tryz.prog 28 (sched_Order bs) [L50 bs] [] (fun r=>L3 r) N0 := by
 refine A2 [.tmp 2] Tryz.func28 R R R fun r hm=>?_
 unfold sched_Order at hm
 refine Ah<|Ac R R<|A9 R R fun b=>Ab R R (Ai R)<|Ad<|Ag tbk [] R R<|Ae<|Ah<|Aa tbk [0] 1 R R<|Ab R R (Ax T_api_Bound.vv R Bn)<|Ab R R (Al R)<|Ad<|Cf 6 R fun h6=>Bx hm (fun l32 (gg:Option Nat × Nat)=>[(1,.ptr b 0),(3,Z3 gg.1 l32 gg.2)]) (fun l32 (gg:Option Nat × Nat)=>[Q3 gg.1 gg.2 l32,.box b 23 [L50 bs]]) (fun o hm=>?_) fun l32=>Pq fun ob3 cap3 hm=> ?_
 ·refine Cq (bs) (fun zl zk (zs:List Int)=>sched_Order.l1 zl zk zs) (fun k zs (zg:Option Nat × Nat)=>[(1,.ptr b 0),(3,Z3 zg.1 zs zg.2),(6,L50 bs),(7,Iw (bs.length : Int)),(8,Iw (k : Int))]) (fun _ zs (zg:Option Nat × Nat)=>[Q3 zg.1 zg.2 zs,.box b 23 [L50 bs]]) _ (none,0) hm (Ba (Bb 3) (Af [0,0] R R)) (fun k l2=>Pq fun ob2 cap2 hk hm=>?_) fun k x l4 l2=>Pq fun ob2 cap2 h7 hm=> ?_
  ·rw [sched_Order.l1] at hm
   exact Ag tbk [] R R<|Ae<|Ca R (k_end hk)<|A3<|As (ob2,cap2) hm (Af [0,0] R R)
  rw [sched_Order.l1] at hm
  exact Ag tbk [] R R<|Ae<|B8 R (k_lt h7)<|Aj<|Ae<|Az<|Ah<|Ab R R (Al R)<|Ab R R (Cj T_api_Bound.vv R R el23 h7)<|Ab R R (Bl R ld50 R)<|Ac R R<|Ay z50 fun b2=>Ab R R (Ai R)<|Ac R R<|An (i:=0) R R R ld50 R R R<|Ad<|Ag tbk [0] R R<|Ak hm R (fun h9 hm=>Bo<|Aa tbk [] 2 R R<|Ac R R<|A7 ap41 R R R R R fun b3=>Bd hm fun l5 h11 hm=>Ac R R<|Bz 2 (VV.int .i64) (l:=l2) (l2:=[(k : Int)]) ap41 R R (sT_row 0 (VV.int .i64) el41 R R) h11 fun ob4 cap4=>Ab R R (Ai R)<|Ad<|A6 tbk [] R R<|Ap _ (ob4,cap4) hm (Bt [2,2] R ⟨R,R,R,R,congrArg some (k_next h7 h6),trivial⟩)) fun h9 hm=>Aj<|A6 tbk [] R R<|Ap _ (ob2,cap2) hm (Bt [1,1] R ⟨R,R,R,R,congrArg some (k_next h7 h6),trivial⟩)
 exact Ah<|Ab R R (Al R)<|Ab R R (C1 R R)<|Be (Aw 0 [(3,L3 l32),(21,L3 l32)] R ⟨⟨_,R,.here _ R⟩,⟨_,R,.here _ R⟩,trivial⟩ (FzH.refl _))<|Ac R R<|Am hm 1 R fn63 R (K2 FU _ _ _) fun r hm=>Ab R R (Ai R)<|Ad<|Rt1 hm R [] R R R

/-! trireme/fit.Where$1 -/
def fit_Where_1 (name : ByteArray) (why : Int) (a : List ByteArray) : Option (List ByteArray) :=
 if (why == 0) = true then
  (V.ap 16 a [name]).bind fun l =>
  some l
 else
  some a
theorem K4 (name : ByteArray) (why : Int) (a : List ByteArray) (b : Nat) (ob : Option Nat) (cap : Nat) : VS2 Tryz.prog 110 (fit_Where_1 name why a) [.str name, Iw why, .ptr b 0] [.box b 51 [Z9 ob a cap], Q9 ob cap a] (fun r ob0_0 cap0_0=>.tup []) (fun r ob0_0 cap0_0=>[.box b 51 [Z9 ob0_0 r cap0_0], Q9 ob0_0 cap0_0 r]) := by
 refine Cg [] Tryz.func110 R R R fun r hm=>?_
 unfold fit_Where_1 at hm
 refine Ag tbk [] R R<|Ak hm R (fun h1 hm=>?_) fun h1 hm=> ?_
 ·refine Bo<|Aa tbk [0] 2 R R<|Ac R R<|A7 ap51 R R R R R fun b2=>Bd hm fun l h3 hm=>Ac R R<|Bz 2 VV.str (l:=a) (l2:=[name]) ap51 R R (sT_row 0 VV.str el51 R R) h3 fun ob2 cap2=>Ac R R<|An (i:=1) R R R ld51 R R R<|Ad<|?_
  obtain rfl:=Option.some.inj hm
  exact ⟨.inr R,_,.nil,[1,1],_,R,ob2,cap2,R,R⟩
 refine Aj<|?_
 obtain rfl:=Option.some.inj hm
 exact ⟨.inr R,_,.nil,[0,0],_,R,ob,cap,R,R⟩

/-! trireme/fit.each -/
def fit_each_fit_asker_why_fit_Where_1.l1 (c : T_fit_asker) : List T_api_Machine → Nat → (List ByteArray) → Option (List ByteArray)
 | [], k, do_2 => some do_2
 | x :: l3, k, do_2 =>
  (fit_asker_why c x).bind fun r =>
  (fit_Where_1 x.Name r do_2).bind fun r2 =>
  fit_each_fit_asker_why_fit_Where_1.l1 c l3 (k + 1) r2
def fit_each_fit_asker_why_fit_Where_1 (ms : List T_api_Machine) (c : T_fit_asker) (c2 : List ByteArray) : Option (List ByteArray) :=
 (fit_each_fit_asker_why_fit_Where_1.l1 c ms 0 c2).bind fun l2 =>
 some l2
theorem K5 (ms : List T_api_Machine) (c : T_fit_asker) (c2 : List ByteArray) (b : Nat) (ob : Option Nat) (cap : Nat) : VS2 Tryz.prog 108 (fit_each_fit_asker_why_fit_Where_1 ms c c2) [L30 ms, .clo (.func 109) [T_fit_asker.vv c] [], .clo (.func 110) [] [.ptr b 0]] [.box b 51 [Z9 ob c2 cap], Q9 ob cap c2] (fun r ob0_0 cap0_0=>.tup []) (fun r ob0_0 cap0_0=>[.box b 51 [Z9 ob0_0 r cap0_0], Q9 ob0_0 cap0_0 r]) := by
 refine Cg [] Tryz.func108 R R R fun r hm=>?_
 unfold fit_each_fit_asker_why_fit_Where_1 at hm
 refine Ah<|Ab R R (Al R)<|Ab R R (Ax T_api_Machine.vv R Bv)<|Ab R R (Al R)<|Ad<|Cf 8 R fun h3=>Bx hm (fun _ (gg:Option Nat × Nat)=>[]) (fun l2 (gg:Option Nat × Nat)=>[.box b 51 [Z9 gg.1 l2 gg.2],Q9 gg.1 gg.2 l2]) (fun o hm=>?_) fun l2=>Pq fun ob4 cap4 hm=> ?_
 ·refine Cq (ms) (fun zl zk (zs:List ByteArray)=>fit_each_fit_asker_why_fit_Where_1.l1 c zl zk zs) (fun k _ (_:Option Nat × Nat)=>[(1,.clo (.func 109) [T_fit_asker.vv c] []),(2,.clo (.func 110) [] [.ptr b 0]),(8,L30 ms),(9,Iw (ms.length : Int)),(10,Iw (k : Int))]) (fun _ zs (zg:Option Nat × Nat)=>[.box b 51 [Z9 zg.1 zs zg.2],Q9 zg.1 zg.2 zs]) _ (ob,cap) hm (Af [0,0] R R) (fun k do_2=>Pq fun ob3 cap3 hk hm=>?_) fun k x l3 do_2=>Pq fun ob3 cap3 h4 hm=> ?_
  ·rw [fit_each_fit_asker_why_fit_Where_1.l1] at hm
   exact Ag tbk [] R R<|Ae<|Ca R (k_end hk)<|A3<|As (ob3,cap3) hm (Af [0,0] R R)
  rw [fit_each_fit_asker_why_fit_Where_1.l1] at hm
  exact Ag tbk [] R R<|Ae<|B8 R (k_lt h4)<|Aj<|Ae<|Az<|Ah<|Ab R R (Cj T_api_Machine.vv R R el22 h4)<|Ab R R (Bl R ld30 R)<|Ac R R<|Ay z30 fun b2=>Ac R R<|An (i:=0) R R R ld30 R R R<|Ad<|B6 (Ce [1,1,0] R)<|Bc 2 mixed<|Au tbk [0,1,2,3,4] [0,0] (by kernel_rfl) R R R<|Ao 5 (by kernel_rfl)<|Aq R R R<|Am hm 0 R fn109 R (K122 _ _) fun r hm=>Ao 6 (by kernel_rfl)<|Aq R R R<|B7 hm 2 R fn110 R (K4 _ _ _ _ _ _) fun r2 ob5 cap5 hm=>A1 (by kernel_rfl)<|A6 tbk [] R R<|Ap _ (ob5,cap5) hm (Bt [0,0] R ⟨R,R,R,R,congrArg some (k_next h4 h3),trivial⟩)
 obtain rfl:=Option.some.inj hm
 exact ⟨.inr R,_,.nil,[0,0],_,R,ob4,cap4,R,R⟩

/-! trireme/fit.Where -/
def fit_Where (ms : List T_api_Machine) (bs : List T_api_Bound) (p : T_api_Pod) : Option (List ByteArray) :=
 (fit_each_fit_asker_why_fit_Where_1 ms (⟨ms, bs, p⟩ : T_fit_asker) ([] : List ByteArray)).bind fun r =>
 some r
theorem K6 (ms : List T_api_Machine) (bs : List T_api_Bound) (p : T_api_Pod) : VS2 Tryz.prog 76 (fit_Where ms bs p) [L30 ms, L50 bs, T_api_Pod.vv p] [] (fun r ob0 cap0=>Z9 ob0 r cap0) (fun r ob0 cap0=>[Q9 ob0 cap0 r]) := by
 refine Cg [.tmp 6] Tryz.func76 R R R fun r hm=>?_
 unfold fit_Where at hm
 exact Ah<|Ac R R<|A9 R R fun b=>Ab R R (Ai R)<|Ad<|Ah<|Ac R R<|Ay z51 fun b2=>Ad<|Ah<|Aa tbk [1] 4 R R<|Ab R R (Bi pl138 R R)<|Ab R R (C1 R R)<|Ab R R (C1 R R)<|Be (Bb 9)<|Be (Ce [1,0,0] R)<|Ac R R<|B7 hm 2 R fn108 R (K5 _ _ _ _ _ _) fun r ob cap hm=>Ad<|Ag tbk [0] R R<|Rg2 hm R [1] ob cap (.cons (.tmp _ _ R) .nil) R R

/-! trireme/taints.Prefers -/
def taints_Prefers (l : List T_api_Toleration) (taints : List T_api_Taint) : Option Int :=
 (taints_Unborne l taints (2 : Int)).bind fun r =>
 some (r.length : Int)
theorem K7 (l : List T_api_Toleration) (taints : List T_api_Taint) : VS Tryz.prog 142 (taints_Prefers l taints) [L128 l, L126 taints] [] Iw N0 := by
 refine A2 [.tmp 4] Tryz.func142 R R R fun r hm=>?_
 unfold taints_Prefers at hm
 exact Ag tbk [] R R<|Ah<|Aa tbk [] 2 R R<|Ac R R<|Am hm 0 R fn162 R (K90 _ _ _) fun r hm=>Ab R R (Ax T_api_Taint.vv R B1)<|Ab R R (Ai R)<|Ad<|Rt1 hm R [] R R R

/-! trireme/suit.Prefers -/
def suit_Prefers (m : T_api_Machine) (p : T_api_Pod) : Option Int :=
 (taints_Prefers p.Bears m.Taints).bind fun r =>
 some r
theorem K8 (m : T_api_Machine) (p : T_api_Pod) : VS Tryz.prog 112 (suit_Prefers m p) [T_api_Machine.vv m, T_api_Pod.vv p] [] Iw N0 := by
 refine A2 [.tmp 4] Tryz.func112 R R R fun r hm=>?_
 unfold suit_Prefers at hm
 exact Ah<|Ac R R<|A9 R R fun b=>Ac R R<|A9 R R fun b2=>Ab R R (Ai R)<|Ad<|Ah<|Aa tbk [0,1] 4 R R<|Ac R R<|Am hm 0 R fn142 R (K7 _ _) fun r hm=>Ab R R (Ai R)<|Ad<|Rt1 hm R [] R R R

/-! trireme/sched.of -/
def sched_of.l1 (p : T_api_Pod) : List T_api_Bound → Nat → (List T_api_Bound) → Option (List T_api_Bound)
 | [], k, others2 => some others2
 | x :: l, k, others2 =>
  if (!(V.seq x.Pod.Name p.Name)) = true then
   (V.ap 288 others2 [x]).bind fun others4 =>
   sched_of.l1 p l (k + 1) others4
  else
   sched_of.l1 p l (k + 1) others2
def sched_of (m : T_api_Machine) (bs : List T_api_Bound) (p : T_api_Pod) : Option T_sched_score :=
 (sched_of.l1 p bs 0 ([] : List T_api_Bound)).bind fun others32 =>
 (yard_Used others32 m.Name).bind fun r =>
 (suit_Prefers m p).bind fun r2 =>
 (res_Share r.1 m.Has).bind fun r3 =>
 some (⟨r2, r3⟩ : T_sched_score)
theorem K9 (m : T_api_Machine) (bs : List T_api_Bound) (p : T_api_Pod) : VS Tryz.prog 77 (sched_of m bs p) [T_api_Machine.vv m, L50 bs, T_api_Pod.vv p] [] (fun r=>T_sched_score.vv r) N0 := by
 refine A2 [.cell 6 108] Tryz.func77 R R R fun r hm=>?_
 unfold sched_of at hm
 refine Ah<|Ac R R<|A9 R R fun b=>Ac R R<|A9 R R fun b2=>Ac R R<|Ay z108 fun b3=>Ad<|Ag tbk [] R R<|Ae<|Ah<|Ab R R (Al R)<|Ab R R (Ax T_api_Bound.vv R Bn)<|Ab R R (Al R)<|Ad<|Cf 12 R fun h8=>Bx hm (fun others32 (gg:Option Nat × Nat)=>[(3,.ptr b 0),(5,.ptr b2 0),(6,.ptr b3 0),(7,Z50 gg.1 others32 gg.2)]) (fun others32 (gg:Option Nat × Nat)=>[Q50 gg.1 gg.2 others32,X108 b3 (⟨(0 : Int),(0 : Int)⟩ : T_sched_score),X48 b2 p,X30 b m]) (fun o hm=>?_) fun others32=>Pq fun ob3 cap3 hm=> ?_
 ·refine Cq (bs) (fun zl zk (zs:List T_api_Bound)=>sched_of.l1 p zl zk zs) (fun k zs (zg:Option Nat × Nat)=>[(3,.ptr b 0),(5,.ptr b2 0),(6,.ptr b3 0),(7,Z50 zg.1 zs zg.2),(12,L50 bs),(13,Iw (bs.length : Int)),(14,Iw (k : Int))]) (fun _ zs (zg:Option Nat × Nat)=>[Q50 zg.1 zg.2 zs,X108 b3 (⟨(0 : Int),(0 : Int)⟩ : T_sched_score),X48 b2 p,X30 b m]) _ (none,0) hm (Ba (Bb 50) (Af [0,0,0,0] R R)) (fun k others2=>Pq fun ob2 cap2 hk hm=>?_) fun k x l others2=>Pq fun ob2 cap2 h9 hm=> ?_
  ·rw [sched_of.l1] at hm
   exact Ag tbk [] R R<|Ae<|Ca R (k_end hk)<|A3<|As (ob2,cap2) hm (Af [0,0,0,0] R R)
  rw [sched_of.l1] at hm
  exact Ag tbk [] R R<|Ae<|B8 R (k_lt h9)<|Aj<|Ae<|Az<|Ah<|Ab R R (Cj T_api_Bound.vv R R el23 h9)<|Ab R R (Bl R ld50 R)<|Ac R R<|Ay z50 fun b4=>Ac R R<|An (i:=0) R R R ld50 R R R<|Ad<|Ag tbk [0,3] R R<|Ak hm R (fun h11 hm=>Bo<|Aa tbk [0] 2 R R<|Ac R R<|A7 ap23 R R R R R fun b5=>Bd hm fun others4 h13 hm=>Ac R R<|Bz 2 T_api_Bound.vv (l:=others2) (l2:=[x]) ap23 R R (sT_row 0 T_api_Bound.vv el23 R R) h13 fun ob4 cap4=>Ab R R (Ai R)<|Ad<|A6 tbk [] R R<|Ap _ (ob4,cap4) hm (Bt [2,2,2,2] R ⟨R,R,R,R,R,R,congrArg some (k_next h9 h8),trivial⟩)) fun h11 hm=>Aj<|A6 tbk [] R R<|Ap _ (ob2,cap2) hm (Bt [1,1,1,1] R ⟨R,R,R,R,R,R,congrArg some (k_next h9 h8),trivial⟩)
 exact Ah<|Aa tbk [3] 3 R R<|Ac R R<|Da hm (Aw 0 [(7,L50 others32),(30,L50 others32)] R ⟨⟨_,R,.here _ R⟩,⟨_,R,.here _ R⟩,trivial⟩ (FzH.refl _)) [.same,.same] R fn111 R (K101 _ _) (fun _=>R) (fun _=>R) fun r hm=>Aa tbk [] 3 R R<|Ac R R<|Ay z26 fun b6=>Ac R R<|An (i:=0) R R R ld26 R R R<|Ab R R (Ai R)<|Ad<|Ae<|B6 (Ce [2,0,0,0,0] R)<|Bc 1 mixed<|Au tbk [0,1,3,4,5] [3,2,0,3] (by kernel_rfl) R R R<|Ao 2 (by kernel_rfl)<|Aq R R R<|Am hm 0 R fn112 R (K8 _ _) fun r2 hm=>Ao 6 (by kernel_rfl)<|Aq R R R<|Am hm 0 R fn57 R (K69 _ _) fun r3 hm=>Av 7 R R R (by kernel_rfl) (Bi pl108 R R)<|Ao 8 (by kernel_rfl)<|Aq R R R<|An (i:=0) R R R ld108 R R R<|A1 (by kernel_rfl)<|Rt0 hm R [] (.cons (.cell _ _ _ _ 0 _ _ _ _ R R ld108 R) .nil) R R

/-! (trireme/sched.score).less -/
def sched_score_less (a : T_sched_score) (b : T_sched_score) : Option Bool :=
 if (a.prefers != b.prefers) = true then
  some (decide (a.prefers < b.prefers))
 else
  some (decide (a.share < b.share))
theorem K10 (a : T_sched_score) (b : T_sched_score) : VS Tryz.prog 79 (sched_score_less a b) [T_sched_score.vv a, T_sched_score.vv b] [] .bool N0 := by
 refine A2 [.tmp 4] Tryz.func79 R R R fun r hm=>?_
 unfold sched_score_less at hm
 exact Ah<|Ac R R<|A9 R R fun b2=>Ac R R<|A9 R R fun b3=>Ab R R (Ai R)<|Ad<|Ae<|Ag tbk [1,0] R R<|Ak hm R (fun h3 hm=>Ag tbk [1,0] R R<|Rt1 hm R [] R R R) fun h3 hm=>Aj<|Ag tbk [1,0] R R<|Rt1 hm R [] R R R

/-! trireme/sched.Best -/
def sched_Best.l1 (ms : List T_api_Machine) (bs : List T_api_Bound) (p : T_api_Pod) : List ByteArray → Nat → ByteArray → T_sched_score → Option ByteArray
 | [], k, best2, least2 => some best2
 | x :: l, k, best2, least2 =>
  ((yard_Find ms x).bind fun r2 =>
  (V.gl ms r2).bind fun x3 =>
  (sched_of x3 bs p).bind fun r3 =>
  some r3).bind fun x22 =>
  (if (V.seq best2 (⟨#[]⟩ : ByteArray)) = true then some true else (sched_score_less x22 least2).bind fun r7 =>
  some r7).bind fun c =>
  if c = true then
   sched_Best.l1 ms bs p l (k + 1) x x22
  else
   sched_Best.l1 ms bs p l (k + 1) best2 least2
def sched_Best (ms : List T_api_Machine) (bs : List T_api_Bound) (p : T_api_Pod) : Option ByteArray :=
 (fit_Where ms bs p).bind fun r =>
 (sched_Best.l1 ms bs p r 0 (⟨#[]⟩ : ByteArray) (⟨0, 0⟩ : T_sched_score)).bind fun best32 =>
 some best32
theorem K11 (ms : List T_api_Machine) (bs : List T_api_Bound) (p : T_api_Pod) : VS Tryz.prog 33 (sched_Best ms bs p) [L30 ms, L50 bs, T_api_Pod.vv p] [] .str N0 := by
 refine A2 [.tmp 6] Tryz.func33 R R R fun r hm=>?_
 unfold sched_Best at hm
 refine Ah<|Ac R R<|A9 R R fun b=>Ab R R (Ai R)<|Ad<|Ag tbk [] R R<|Ah<|Ac R R<|Ay z108 fun b2=>Ad<|Ae<|Ah<|Aa tbk [1] 3 R R<|Ac R R<|B7 hm 0 R fn76 R (K6 _ _ _) fun r ob cap hm=>Be (Aw 0 [(15,L9 r)] R ⟨⟨_,R,.here _ R⟩,trivial⟩ (FzH.refl _))<|Ab R R (Ax VV.str R Br)<|Ab R R (Al R)<|Ad<|Cf 15 R fun h7=>Bx hm (fun best32 (_:Unit)=>[(7,.str best32)]) (fun _ (_:Unit)=>[]) (fun o hm=>?_) fun best32 _ hm=> ?_
 ·refine Cq (r) (fun zl zk (zs:ByteArray × T_sched_score)=>sched_Best.l1 ms bs p zl zk zs.1 zs.2) (fun k zs (_:Unit)=>[(0,L30 ms),(1,L50 bs),(5,.ptr b 0),(7,.str zs.1),(8,.ptr b2 0),(15,L9 r),(16,Iw (r.length : Int)),(17,Iw (k : Int))]) (fun _ zs (_:Unit)=>[X108 b2 zs.2,X48 b p]) ((⟨#[]⟩ : ByteArray),(⟨(0 : Int),(0 : Int)⟩ : T_sched_score)) () hm (Af [0,0] R R) (fun k=>Pq fun best2 least2 _ hk hm=>?_) fun k x l=>Pq fun best2 least2 _ h8 hm=> ?_
  ·rw [sched_Best.l1] at hm
   exact Ag tbk [] R R<|Ae<|Ca R (k_end hk)<|A3<|As () hm (Af [] R R)
  rw [sched_Best.l1] at hm
  refine Ag tbk [] R R<|Ae<|B8 R (k_lt h8)<|Aj<|Ae<|Az<|Ah<|Ab R R (Cj VV.str R R el51 h8)<|Aa tbk [] 2 R R<|Ad<|C0 hm (fun _ (gg:Nat)=>[(0,L30 ms),(1,L50 bs),(5,.ptr b 0),(7,.str best2),(8,.ptr b2 0),(10,.str x),(11,.ptr gg 0),(15,L9 r),(16,Iw (r.length : Int)),(17,Iw (k : Int))]) (fun x22 (gg:Nat)=>[X108 gg x22,X108 b2 least2,X48 b p]) (fun o2 hm=>?_) fun x22 b3 hm=> ?_
  ·refine Bc 0 mixed<|Au tbk [0,1,2,6,7] [1] (by kernel_rfl) R R R<|?_
   refine B2 [3,9] (by kernel_rfl) ⟨?_,?_,trivial⟩
   ·refine Aq R R R<|Am hm 0 R fn78 R (K74 _ _) fun r2 hm=>Bd hm fun x3 h13 hm=>Av 4 R R R (by kernel_rfl) (A0 T_api_Machine.vv R R el22 h13)<|Av 5 R R R (by kernel_rfl) (Bl R ld30 R)<|?_
    refine B2 [8,9] (by kernel_rfl) ⟨?_,?_,trivial⟩
    ·exact Aq R R R<|Am hm 0 R fn77 R (K9 _ _ _) fun r3 hm=>Ao 9 (by kernel_rfl)<|Aq R R R<|Ay z108 fun b4=>Ao 10 (by kernel_rfl)<|Aq R R R<|An (i:=0) R R R ld108 R R R<|A1 (by kernel_rfl)<|As _ hm (Af [0,0,0] R R)
    ·exact Aq R R R<|Ay z108 fun b5=>Ao 8 (by kernel_rfl)<|Aq R R R<|Am hm 0 R fn77 R (K9 _ _ _) fun r4 hm=>Ao 10 (by kernel_rfl)<|Aq R R R<|An (i:=0) R R R ld108 R R R<|A1 (by kernel_rfl)<|As _ hm (Af [0,0,0] R R)
   ·exact Aq R R R<|Ay z108 fun b6=>Ao 3 (by kernel_rfl)<|Aq R R R<|Am hm 0 R fn78 R (K74 _ _) fun r5 hm=>Bd hm fun x4 h20 hm=>Av 4 R R R (by kernel_rfl) (A0 T_api_Machine.vv R R el22 h20)<|Av 5 R R R (by kernel_rfl) (Bl R ld30 R)<|Ao 8 (by kernel_rfl)<|Aq R R R<|Am hm 0 R fn77 R (K9 _ _ _) fun r6 hm=>Ao 10 (by kernel_rfl)<|Aq R R R<|An (i:=0) R R R ld108 R R R<|A1 (by kernel_rfl)<|As _ hm (Af [0,0,0] R R)
  exact Ah<|Aa tbk [] 3 R R<|Bf hm 4 36 32 R (fun _ K' h22 J hm=>Aa tbk [] 4 R R<|J 3 R R (Bj hm)) (fun _ K' h22 J hm=>Aa tbk [0,1] 2 R R<|A8 R R R R R<|Am hm 0 R fn79 R (K10 _ _) fun r7 hm=>Ab R R (Bg false R R R)<|J 3 R R (Bj hm)) fun c hm=>Ad<|Ak hm R (fun h25 hm=>B6 (Ce [1,0,0] R)<|Bc 1 mixed<|Au tbk [0,1,2] [0] (by kernel_rfl) R R R<|Ao 3 (by kernel_rfl)<|Aq R R R<|An (i:=0) R R R ld108 R R R<|A1 (by kernel_rfl)<|A6 tbk [] R R<|Ap (x,x22) () hm (Bt [0,1] R ⟨R,R,R,R,R,R,R,congrArg some (k_next h8 h7),trivial⟩)) fun h25 hm=>Aj<|A6 tbk [] R R<|Ap (best2,least2) () hm (Bt [1,1] R ⟨R,R,R,R,R,R,R,congrArg some (k_next h8 h7),trivial⟩)
 exact Ag tbk [] R R<|Rt1 hm R [] R R R

/-! trireme/sched.Step -/
def sched_Step.l1 (ms : List T_api_Machine) : List Int → Nat → (List T_api_Bound) → (List T_api_Move) → Option (List T_api_Bound × List T_api_Move)
 | [], k, out2, moves2 => some (out2, moves2)
 | x :: l2, k, out2, moves2 =>
  (V.gl out2 x).bind fun x2 =>
  (sched_Best ms out2 x2.Pod).bind fun r2 =>
  if (!(V.seq r2 (⟨#[]⟩ : ByteArray))) = true then
   (V.gl out2 x).bind fun x3 =>
   (V.ap 32 moves2 [(⟨x2.Pod.Name, r2⟩ : T_api_Move)]).bind fun moves4 =>
   sched_Step.l1 ms l2 (k + 1) (List.set out2 (x).toNat (⟨x3.Pod, r2⟩ : T_api_Bound)) moves4
  else
   sched_Step.l1 ms l2 (k + 1) out2 moves2
def sched_Step (ms : List T_api_Machine) (bs : List T_api_Bound) : Option (List T_api_Bound × List T_api_Move) :=
 (V.ap 288 ([] : List T_api_Bound) bs).bind fun l =>
 (sched_Order bs).bind fun r =>
 (sched_Step.l1 ms r 0 l ([] : List T_api_Move)).bind fun j =>
 some (j.1, j.2)
theorem K12 (ms : List T_api_Machine) (bs : List T_api_Bound) : ∀ r : List T_api_Bound × List T_api_Move, sched_Step ms bs = some r → VC Tryz.prog 26 [L30 ms, L50 bs] [] fun zx zH => ∃ (ob0 : Option Nat) (cap0 : Nat) (ob1 : Option Nat) (cap1 : Nat), zx = .tup [Z50 ob0 r.1 cap0, Z53 ob1 r.2 cap1] ∧ zH = [Q50 ob0 cap0 r.1, Q53 ob1 cap1 r.2] := by
 refine VCx.run [.tmp 4,.tmp 5] Tryz.func26 R R R fun r hm=>?_
 unfold sched_Step at hm
 refine Ag tbk [] R R<|Ah<|Ab R R (Al R)<|Be (Bb 50)<|Bd hm fun l h2 hm=>Ac R R<|Bz 0 T_api_Bound.vv (l:=([] : List T_api_Bound)) (l2:=bs) ap23 R R (sT_list T_api_Bound.vv el23 R R) h2 fun ob cap=>Ab R R (Ai R)<|Ad<|Ag tbk [] R R<|Ae<|Ah<|Ab R R (Al R)<|Ac R R<|Am hm 0 R fn28 R (K3 _) fun r hm=>Ab R R (Ax (VV.int .i64) R Bq)<|Ab R R (Al R)<|Ad<|Cf 15 R fun h8=>Bx hm (fun j (gg:Option Nat × Option Nat × Nat)=>[(6,Z50 gg.1 j.1 cap),(7,Z53 gg.2.1 j.2 gg.2.2)]) (fun j (gg:Option Nat × Option Nat × Nat)=>[Q53 gg.2.1 gg.2.2 j.2,Q50 gg.1 cap j.1]) (fun o hm=>?_) fun j=>Pq fun ob6=>Pq fun ob7 cap4 hm=> ?_
 ·refine Cq (r) (fun zl zk (zs:List T_api_Bound × List T_api_Move)=>sched_Step.l1 ms zl zk zs.1 zs.2) (fun k zs (zg:Option Nat × Option Nat × Nat)=>[(0,L30 ms),(6,Z50 zg.1 zs.1 cap),(7,Z53 zg.2.1 zs.2 zg.2.2),(15,L3 r),(16,Iw (r.length : Int)),(17,Iw (k : Int))]) (fun _ zs (zg:Option Nat × Option Nat × Nat)=>[Q53 zg.2.1 zg.2.2 zs.2,Q50 zg.1 cap zs.1]) (l,([] : List T_api_Move)) (ob,none,0) hm (Ba (Bb 53) (Af [0,0] R R)) (fun k=>Pq fun out2 moves2=>Pq fun ob4=>Pq fun ob5 cap3 hk hm=>?_) fun k x l2=>Pq fun out2 moves2=>Pq fun ob4=>Pq fun ob5 cap3 h9 hm=> ?_
  ·rw [sched_Step.l1] at hm
   exact Ag tbk [] R R<|Ae<|Ca R (k_end hk)<|A3<|As (ob4,ob5,cap3) hm (Af [0,0] R R)
  rw [sched_Step.l1] at hm
  refine Ag tbk [] R R<|Ae<|B8 R (k_lt h9)<|Aj<|Ae<|Az<|Ah<|Ab R R (Cj (VV.int .i64) R R el41 h9)<|Aa tbk [] 2 R R<|Ad<|Ah<|Aa tbk [] 2 R R<|Bd hm fun x2 h10 hm=>Ci 1 R (gl_pos T_api_Bound.vv h10) fun b h11=> ?_
  subst h11
  exact Ab R R (Cd T_api_Bound.vv R R el23 h10)<|Ab R R (Cz R fa50_0)<|Ab R R (Cb (i:=1) (y:=T_api_Bound.vv x2) R R R (gl_map _ (gl_some h10).2) ld48 R)<|Ac R R<|Ay z48 fun b2=>Ac R R<|An (i:=0) R R R ld48 R R R<|Ad<|Ah<|Aa tbk [0] 3 R R<|Ac R R<|Da hm (Aw 2 [(6,L50 out2),(21,L50 out2),(27,L50 out2)] R ⟨⟨_,R,.here _ R⟩,⟨_,R,.here _ R⟩,⟨_,R,.here _ R⟩,trivial⟩ (FzH.refl _)) [.same,.same,.same] R fn33 R (K11 _ _ _) (fun _=>R) (fun _=>R) fun r2 hm=>Ab R R (Ai R)<|Ad<|Ag tbk [] R R<|Ak hm R (fun h14 hm=>Ah<|Aa tbk [] 3 R R<|Bd hm fun x3 h15 hm=>Ab R R (Cd T_api_Bound.vv R R el23 h15)<|Ab R R (Cz R fa50_1)<|Ac R R<|C7 2 (f:=T_api_Bound.vv) (l:=out2) (q:=x3) (q':=(⟨x3.Pod,r2⟩ : T_api_Bound)) R R R R h15 ld9 R R R R ⟨R,List.all_eq_true.1 R⟩<|Be (B5 6 (List.map T_api_Bound.vv (List.set out2 (x).toNat (⟨x3.Pod,r2⟩ : T_api_Bound))).length R (len_set _ _ _ _))<|Be (B5 21 (List.map T_api_Bound.vv (List.set out2 (x).toNat (⟨x3.Pod,r2⟩ : T_api_Bound))).length R (len_set _ _ _ _))<|Be (B5 27 (List.map T_api_Bound.vv (List.set out2 (x).toNat (⟨x3.Pod,r2⟩ : T_api_Bound))).length R (len_set _ _ _ _))<|Be (B5 32 (List.map T_api_Bound.vv (List.set out2 (x).toNat (⟨x3.Pod,r2⟩ : T_api_Bound))).length R (len_set _ _ _ _))<|Ad<|Bo<|Aa tbk [0] 4 R R<|Ab R R (Bi pl53 R R)<|Ac R R<|A7 ap35 R R R R R fun b3=>Bd hm fun moves4 h17 hm=>Ac R R<|Bz 2 T_api_Move.vv (l:=moves2) (l2:=[(⟨x2.Pod.Name,r2⟩ : T_api_Move)]) ap35 R R (sT_row 0 T_api_Move.vv el35 R R) h17 fun ob8 cap5=>Ab R R (Ai R)<|Ad<|A6 tbk [] R R<|Ap ((List.set out2 (x).toNat (⟨x3.Pod,r2⟩ : T_api_Bound)),moves4) ((some b),ob8,cap5) hm (Bt [2,2] R ⟨R,R,R,R,R,congrArg some (k_next h9 h8),trivial⟩)) fun h14 hm=>Aj<|A6 tbk [] R R<|Ap (out2,moves2) ((some b),ob5,cap3) hm (Bt [1,1] R ⟨R,R,R,R,R,congrArg some (k_next h9 h8),trivial⟩)
 refine Ag tbk [] R R<|?_
 obtain rfl:=Option.some.inj hm
 exact VW.ret ⟨.inl R,_,.cons (.tmp _ _ R) (.cons (.tmp _ _ R) .nil),[1,0],_,R,ob6,cap,ob7,cap4,R,R⟩

/-! trireme/triremelaw14.known -/
def law14_known : Option Bool :=
 (sched_Step [(⟨(⟨#[109]⟩ : ByteArray), (⟨#[]⟩ : ByteArray), (⟨1000, 0, 0, 9, 0⟩ : T_api_Res), ([] : List T_api_Label), ([] : List T_api_Taint), true⟩ : T_api_Machine), (⟨(⟨#[110]⟩ : ByteArray), (⟨#[]⟩ : ByteArray), (⟨1000, 0, 0, 9, 0⟩ : T_api_Res), ([] : List T_api_Label), ([] : List T_api_Taint), true⟩ : T_api_Machine)] [(⟨(⟨(⟨#[112]⟩ : ByteArray), (⟨600, 0, 0, 1, 0⟩ : T_api_Res), ([] : List T_api_Label), ([] : List T_api_Label), ([] : List T_api_Term), ([] : List T_api_Toleration), ([] : List Int), ([] : List T_api_Label), false, ([] : List T_api_Label), 0, 0, (⟨#[]⟩ : ByteArray), false, false, false⟩ : T_api_Pod), (⟨#[]⟩ : ByteArray)⟩ : T_api_Bound), (⟨(⟨(⟨#[113]⟩ : ByteArray), (⟨600, 0, 0, 1, 0⟩ : T_api_Res), ([] : List T_api_Label), ([] : List T_api_Label), ([] : List T_api_Term), ([] : List T_api_Toleration), ([] : List Int), ([] : List T_api_Label), false, ([] : List T_api_Label), 0, 5, (⟨#[]⟩ : ByteArray), false, false, false⟩ : T_api_Pod), (⟨#[]⟩ : ByteArray)⟩ : T_api_Bound), (⟨(⟨(⟨#[114]⟩ : ByteArray), (⟨600, 0, 0, 1, 0⟩ : T_api_Res), ([] : List T_api_Label), ([] : List T_api_Label), ([] : List T_api_Term), ([] : List T_api_Toleration), ([] : List Int), ([] : List T_api_Label), false, ([] : List T_api_Label), 0, 0, (⟨#[]⟩ : ByteArray), false, false, false⟩ : T_api_Pod), (⟨#[]⟩ : ByteArray)⟩ : T_api_Bound)]).bind fun r =>
 (sched_Order [(⟨(⟨(⟨#[112]⟩ : ByteArray), (⟨600, 0, 0, 1, 0⟩ : T_api_Res), ([] : List T_api_Label), ([] : List T_api_Label), ([] : List T_api_Term), ([] : List T_api_Toleration), ([] : List Int), ([] : List T_api_Label), false, ([] : List T_api_Label), 0, 0, (⟨#[]⟩ : ByteArray), false, false, false⟩ : T_api_Pod), (⟨#[]⟩ : ByteArray)⟩ : T_api_Bound), (⟨(⟨(⟨#[113]⟩ : ByteArray), (⟨600, 0, 0, 1, 0⟩ : T_api_Res), ([] : List T_api_Label), ([] : List T_api_Label), ([] : List T_api_Term), ([] : List T_api_Toleration), ([] : List Int), ([] : List T_api_Label), false, ([] : List T_api_Label), 0, 5, (⟨#[]⟩ : ByteArray), false, false, false⟩ : T_api_Pod), (⟨#[]⟩ : ByteArray)⟩ : T_api_Bound), (⟨(⟨(⟨#[114]⟩ : ByteArray), (⟨600, 0, 0, 1, 0⟩ : T_api_Res), ([] : List T_api_Label), ([] : List T_api_Label), ([] : List T_api_Term), ([] : List T_api_Toleration), ([] : List Int), ([] : List T_api_Label), false, ([] : List T_api_Label), 0, 0, (⟨#[]⟩ : ByteArray), false, false, false⟩ : T_api_Pod), (⟨#[]⟩ : ByteArray)⟩ : T_api_Bound)]).bind fun r7 =>
 (ref02_Ints r7 [1, 0, 2]).bind fun r8 =>
 (if (r8 && ((r.1.length : Int) == 3)) = true then (V.gl r.1 (0 : Int)).bind fun x8 =>
 some (V.seq x8.On (⟨#[110]⟩ : ByteArray)) else some false).bind fun c8 =>
 (if c8 = true then (V.gl r.1 (1 : Int)).bind fun x9 =>
 some (V.seq x9.On (⟨#[109]⟩ : ByteArray)) else some false).bind fun c9 =>
 (if c9 = true then (V.gl r.1 (2 : Int)).bind fun x10 =>
 some (V.seq x10.On (⟨#[]⟩ : ByteArray)) else some false).bind fun c10 =>
 (if c10 = true then (ref14_Moves r.2 [(⟨(⟨#[113]⟩ : ByteArray), (⟨#[109]⟩ : ByteArray)⟩ : T_api_Move), (⟨(⟨#[112]⟩ : ByteArray), (⟨#[110]⟩ : ByteArray)⟩ : T_api_Move)]).bind fun r9 =>
 some r9 else some false).bind fun c11 =>
 (if c11 = true then (V.gl [(⟨(⟨(⟨#[112]⟩ : ByteArray), (⟨600, 0, 0, 1, 0⟩ : T_api_Res), ([] : List T_api_Label), ([] : List T_api_Label), ([] : List T_api_Term), ([] : List T_api_Toleration), ([] : List Int), ([] : List T_api_Label), false, ([] : List T_api_Label), 0, 0, (⟨#[]⟩ : ByteArray), false, false, false⟩ : T_api_Pod), (⟨#[]⟩ : ByteArray)⟩ : T_api_Bound), (⟨(⟨(⟨#[113]⟩ : ByteArray), (⟨600, 0, 0, 1, 0⟩ : T_api_Res), ([] : List T_api_Label), ([] : List T_api_Label), ([] : List T_api_Term), ([] : List T_api_Toleration), ([] : List Int), ([] : List T_api_Label), false, ([] : List T_api_Label), 0, 5, (⟨#[]⟩ : ByteArray), false, false, false⟩ : T_api_Pod), (⟨#[]⟩ : ByteArray)⟩ : T_api_Bound), (⟨(⟨(⟨#[114]⟩ : ByteArray), (⟨600, 0, 0, 1, 0⟩ : T_api_Res), ([] : List T_api_Label), ([] : List T_api_Label), ([] : List T_api_Term), ([] : List T_api_Toleration), ([] : List Int), ([] : List T_api_Label), false, ([] : List T_api_Label), 0, 0, (⟨#[]⟩ : ByteArray), false, false, false⟩ : T_api_Pod), (⟨#[]⟩ : ByteArray)⟩ : T_api_Bound)] (2 : Int)).bind fun x11 =>
 (sched_Best [(⟨(⟨#[109]⟩ : ByteArray), (⟨#[]⟩ : ByteArray), (⟨1000, 0, 0, 9, 0⟩ : T_api_Res), ([] : List T_api_Label), ([] : List T_api_Taint), true⟩ : T_api_Machine), (⟨(⟨#[110]⟩ : ByteArray), (⟨#[]⟩ : ByteArray), (⟨1000, 0, 0, 9, 0⟩ : T_api_Res), ([] : List T_api_Label), ([] : List T_api_Taint), true⟩ : T_api_Machine)] r.1 x11.Pod).bind fun r10 =>
 some (V.seq r10 (⟨#[]⟩ : ByteArray)) else some false).bind fun c12 =>
 (if c12 = true then (V.gl [(⟨(⟨(⟨#[112]⟩ : ByteArray), (⟨600, 0, 0, 1, 0⟩ : T_api_Res), ([] : List T_api_Label), ([] : List T_api_Label), ([] : List T_api_Term), ([] : List T_api_Toleration), ([] : List Int), ([] : List T_api_Label), false, ([] : List T_api_Label), 0, 0, (⟨#[]⟩ : ByteArray), false, false, false⟩ : T_api_Pod), (⟨#[]⟩ : ByteArray)⟩ : T_api_Bound), (⟨(⟨(⟨#[113]⟩ : ByteArray), (⟨600, 0, 0, 1, 0⟩ : T_api_Res), ([] : List T_api_Label), ([] : List T_api_Label), ([] : List T_api_Term), ([] : List T_api_Toleration), ([] : List Int), ([] : List T_api_Label), false, ([] : List T_api_Label), 0, 5, (⟨#[]⟩ : ByteArray), false, false, false⟩ : T_api_Pod), (⟨#[]⟩ : ByteArray)⟩ : T_api_Bound), (⟨(⟨(⟨#[114]⟩ : ByteArray), (⟨600, 0, 0, 1, 0⟩ : T_api_Res), ([] : List T_api_Label), ([] : List T_api_Label), ([] : List T_api_Term), ([] : List T_api_Toleration), ([] : List Int), ([] : List T_api_Label), false, ([] : List T_api_Label), 0, 0, (⟨#[]⟩ : ByteArray), false, false, false⟩ : T_api_Pod), (⟨#[]⟩ : ByteArray)⟩ : T_api_Bound)] (2 : Int)).bind fun x12 =>
 (sched_Best [(⟨(⟨#[109]⟩ : ByteArray), (⟨#[]⟩ : ByteArray), (⟨1000, 0, 0, 9, 0⟩ : T_api_Res), ([] : List T_api_Label), ([] : List T_api_Taint), true⟩ : T_api_Machine), (⟨(⟨#[110]⟩ : ByteArray), (⟨#[]⟩ : ByteArray), (⟨1000, 0, 0, 9, 0⟩ : T_api_Res), ([] : List T_api_Label), ([] : List T_api_Taint), true⟩ : T_api_Machine)] ([] : List T_api_Bound) x12.Pod).bind fun r11 =>
 some (V.seq r11 (⟨#[109]⟩ : ByteArray)) else some false).bind fun c13 =>
 some c13
theorem K13 : VS Tryz.prog 25 (law14_known) [] [] .bool N0 := by
 refine A2 [.tmp 0] Tryz.func25 R R R fun r hm=>?_
 unfold law14_known at hm
 refine Ag tbk [] R R<|Ah<|Ab R R (Bi pl26 R R)<|Ab R R (Bi pl30 R R)<|Ab R R (Bi pl26 R R)<|Ab R R (Bi pl30 R R)<|Be (Ba (Bb 124) (Ba (Aw 0 [(6,.agg [.str (⟨#[109]⟩ : ByteArray),.str (⟨#[]⟩ : ByteArray),Iw (1000 : Int),Iw (0 : Int),Iw (0 : Int),Iw (9 : Int),Iw (0 : Int),L124 ([] : List T_api_Label),.sl none 0 0,.bool true])] R ⟨⟨_,R,.aggL ⟨.same _,.same _,.same _,.same _,.same _,.same _,.same _,.here _ R,.same _,.same _,trivial⟩⟩,trivial⟩ (FzH.refl _)) (Ba (Bb 126) (Ba (Aw 0 [(6,T_api_Machine.vv (⟨(⟨#[109]⟩ : ByteArray),(⟨#[]⟩ : ByteArray),(⟨(1000 : Int),(0 : Int),(0 : Int),(9 : Int),(0 : Int)⟩ : T_api_Res),([] : List T_api_Label),([] : List T_api_Taint),true⟩ : T_api_Machine))] R ⟨⟨_,R,.aggL ⟨.same _,.same _,.same _,.same _,.same _,.same _,.same _,.same _,.here _ R,.same _,trivial⟩⟩,trivial⟩ (FzH.refl _)) (Ba (Bb 124) (Ba (Aw 0 [(8,.agg [.str (⟨#[110]⟩ : ByteArray),.str (⟨#[]⟩ : ByteArray),Iw (1000 : Int),Iw (0 : Int),Iw (0 : Int),Iw (9 : Int),Iw (0 : Int),L124 ([] : List T_api_Label),.sl none 0 0,.bool true])] R ⟨⟨_,R,.aggL ⟨.same _,.same _,.same _,.same _,.same _,.same _,.same _,.here _ R,.same _,.same _,trivial⟩⟩,trivial⟩ (FzH.refl _)) (Ba (Bb 126) (Aw 0 [(8,T_api_Machine.vv (⟨(⟨#[110]⟩ : ByteArray),(⟨#[]⟩ : ByteArray),(⟨(1000 : Int),(0 : Int),(0 : Int),(9 : Int),(0 : Int)⟩ : T_api_Res),([] : List T_api_Label),([] : List T_api_Taint),true⟩ : T_api_Machine))] R ⟨⟨_,R,.aggL ⟨.same _,.same _,.same _,.same _,.same _,.same _,.same _,.same _,.here _ R,.same _,trivial⟩⟩,trivial⟩ (FzH.refl _)))))))))<|Ac R R<|A7 ap22 R R R R R fun b=>Be (Aw 0 [(9,L30 [(⟨(⟨#[109]⟩ : ByteArray),(⟨#[]⟩ : ByteArray),(⟨(1000 : Int),(0 : Int),(0 : Int),(9 : Int),(0 : Int)⟩ : T_api_Res),([] : List T_api_Label),([] : List T_api_Taint),true⟩ : T_api_Machine),(⟨(⟨#[110]⟩ : ByteArray),(⟨#[]⟩ : ByteArray),(⟨(1000 : Int),(0 : Int),(0 : Int),(9 : Int),(0 : Int)⟩ : T_api_Res),([] : List T_api_Label),([] : List T_api_Taint),true⟩ : T_api_Machine)])] R ⟨⟨_,R,.here _ R⟩,trivial⟩ (FzH.refl _))<|Ab R R (Ai R)<|Ad<|Ah<|Ab R R (Bi pl26 R R)<|Ab R R (Bi pl48 R R)<|Ab R R (Bi pl50 R R)<|Ab R R (Bi pl26 R R)<|Ab R R (Bi pl48 R R)<|Ab R R (Bi pl50 R R)<|Ab R R (Bi pl26 R R)<|Ab R R (Bi pl48 R R)<|Ab R R (Bi pl50 R R)<|Be (Ba (Bb 124) (Ba (Aw 0 [(12,.agg [.str (⟨#[112]⟩ : ByteArray),Iw (600 : Int),Iw (0 : Int),Iw (0 : Int),Iw (1 : Int),Iw (0 : Int),L124 ([] : List T_api_Label),L124 ([] : List T_api_Label),.sl none 0 0,.sl none 0 0,.sl none 0 0,L124 ([] : List T_api_Label),.bool false,L124 ([] : List T_api_Label),Iw (0 : Int),Iw (0 : Int),.str (⟨#[]⟩ : ByteArray),.bool false,.bool false,.bool false,.str (⟨#[]⟩ : ByteArray)])] R ⟨⟨_,R,.aggL ⟨.same _,.same _,.same _,.same _,.same _,.same _,.here _ R,.here _ R,.same _,.same _,.same _,.here _ R,.same _,.here _ R,.same _,.same _,.same _,.same _,.same _,.same _,.same _,trivial⟩⟩,trivial⟩ (FzH.refl _)) (Ba (Bb 103) (Ba (Aw 0 [(12,.agg [.str (⟨#[112]⟩ : ByteArray),Iw (600 : Int),Iw (0 : Int),Iw (0 : Int),Iw (1 : Int),Iw (0 : Int),L124 ([] : List T_api_Label),L124 ([] : List T_api_Label),L103 ([] : List T_api_Term),.sl none 0 0,.sl none 0 0,L124 ([] : List T_api_Label),.bool false,L124 ([] : List T_api_Label),Iw (0 : Int),Iw (0 : Int),.str (⟨#[]⟩ : ByteArray),.bool false,.bool false,.bool false,.str (⟨#[]⟩ : ByteArray)])] R ⟨⟨_,R,.aggL ⟨.same _,.same _,.same _,.same _,.same _,.same _,.same _,.same _,.here _ R,.same _,.same _,.same _,.same _,.same _,.same _,.same _,.same _,.same _,.same _,.same _,.same _,trivial⟩⟩,trivial⟩ (FzH.refl _)) (Ba (Bb 128) (Ba (Aw 0 [(12,.agg [.str (⟨#[112]⟩ : ByteArray),Iw (600 : Int),Iw (0 : Int),Iw (0 : Int),Iw (1 : Int),Iw (0 : Int),L124 ([] : List T_api_Label),L124 ([] : List T_api_Label),L103 ([] : List T_api_Term),L128 ([] : List T_api_Toleration),.sl none 0 0,L124 ([] : List T_api_Label),.bool false,L124 ([] : List T_api_Label),Iw (0 : Int),Iw (0 : Int),.str (⟨#[]⟩ : ByteArray),.bool false,.bool false,.bool false,.str (⟨#[]⟩ : ByteArray)])] R ⟨⟨_,R,.aggL ⟨.same _,.same _,.same _,.same _,.same _,.same _,.same _,.same _,.same _,.here _ R,.same _,.same _,.same _,.same _,.same _,.same _,.same _,.same _,.same _,.same _,.same _,trivial⟩⟩,trivial⟩ (FzH.refl _)) (Ba (Bb 3) (Ba (Aw 0 [(12,T_api_Bound.vv (⟨(⟨(⟨#[112]⟩ : ByteArray),(⟨(600 : Int),(0 : Int),(0 : Int),(1 : Int),(0 : Int)⟩ : T_api_Res),([] : List T_api_Label),([] : List T_api_Label),([] : List T_api_Term),([] : List T_api_Toleration),([] : List Int),([] : List T_api_Label),false,([] : List T_api_Label),(0 : Int),(0 : Int),(⟨#[]⟩ : ByteArray),false,false,false⟩ : T_api_Pod),(⟨#[]⟩ : ByteArray)⟩ : T_api_Bound))] R ⟨⟨_,R,.aggL ⟨.same _,.same _,.same _,.same _,.same _,.same _,.same _,.same _,.same _,.same _,.here _ R,.same _,.same _,.same _,.same _,.same _,.same _,.same _,.same _,.same _,.same _,trivial⟩⟩,trivial⟩ (FzH.refl _)) (Ba (Bb 124) (Ba (Aw 0 [(15,.agg [.str (⟨#[113]⟩ : ByteArray),Iw (600 : Int),Iw (0 : Int),Iw (0 : Int),Iw (1 : Int),Iw (0 : Int),L124 ([] : List T_api_Label),L124 ([] : List T_api_Label),.sl none 0 0,.sl none 0 0,.sl none 0 0,L124 ([] : List T_api_Label),.bool false,L124 ([] : List T_api_Label),Iw (0 : Int),Iw (5 : Int),.str (⟨#[]⟩ : ByteArray),.bool false,.bool false,.bool false,.str (⟨#[]⟩ : ByteArray)])] R ⟨⟨_,R,.aggL ⟨.same _,.same _,.same _,.same _,.same _,.same _,.here _ R,.here _ R,.same _,.same _,.same _,.here _ R,.same _,.here _ R,.same _,.same _,.same _,.same _,.same _,.same _,.same _,trivial⟩⟩,trivial⟩ (FzH.refl _)) (Ba (Bb 103) (Ba (Aw 0 [(15,.agg [.str (⟨#[113]⟩ : ByteArray),Iw (600 : Int),Iw (0 : Int),Iw (0 : Int),Iw (1 : Int),Iw (0 : Int),L124 ([] : List T_api_Label),L124 ([] : List T_api_Label),L103 ([] : List T_api_Term),.sl none 0 0,.sl none 0 0,L124 ([] : List T_api_Label),.bool false,L124 ([] : List T_api_Label),Iw (0 : Int),Iw (5 : Int),.str (⟨#[]⟩ : ByteArray),.bool false,.bool false,.bool false,.str (⟨#[]⟩ : ByteArray)])] R ⟨⟨_,R,.aggL ⟨.same _,.same _,.same _,.same _,.same _,.same _,.same _,.same _,.here _ R,.same _,.same _,.same _,.same _,.same _,.same _,.same _,.same _,.same _,.same _,.same _,.same _,trivial⟩⟩,trivial⟩ (FzH.refl _)) (Ba (Bb 128) (Ba (Aw 0 [(15,.agg [.str (⟨#[113]⟩ : ByteArray),Iw (600 : Int),Iw (0 : Int),Iw (0 : Int),Iw (1 : Int),Iw (0 : Int),L124 ([] : List T_api_Label),L124 ([] : List T_api_Label),L103 ([] : List T_api_Term),L128 ([] : List T_api_Toleration),.sl none 0 0,L124 ([] : List T_api_Label),.bool false,L124 ([] : List T_api_Label),Iw (0 : Int),Iw (5 : Int),.str (⟨#[]⟩ : ByteArray),.bool false,.bool false,.bool false,.str (⟨#[]⟩ : ByteArray)])] R ⟨⟨_,R,.aggL ⟨.same _,.same _,.same _,.same _,.same _,.same _,.same _,.same _,.same _,.here _ R,.same _,.same _,.same _,.same _,.same _,.same _,.same _,.same _,.same _,.same _,.same _,trivial⟩⟩,trivial⟩ (FzH.refl _)) (Ba (Bb 3) (Ba (Aw 0 [(15,T_api_Bound.vv (⟨(⟨(⟨#[113]⟩ : ByteArray),(⟨(600 : Int),(0 : Int),(0 : Int),(1 : Int),(0 : Int)⟩ : T_api_Res),([] : List T_api_Label),([] : List T_api_Label),([] : List T_api_Term),([] : List T_api_Toleration),([] : List Int),([] : List T_api_Label),false,([] : List T_api_Label),(0 : Int),(5 : Int),(⟨#[]⟩ : ByteArray),false,false,false⟩ : T_api_Pod),(⟨#[]⟩ : ByteArray)⟩ : T_api_Bound))] R ⟨⟨_,R,.aggL ⟨.same _,.same _,.same _,.same _,.same _,.same _,.same _,.same _,.same _,.same _,.here _ R,.same _,.same _,.same _,.same _,.same _,.same _,.same _,.same _,.same _,.same _,trivial⟩⟩,trivial⟩ (FzH.refl _)) (Ba (Bb 124) (Ba (Aw 0 [(18,.agg [.str (⟨#[114]⟩ : ByteArray),Iw (600 : Int),Iw (0 : Int),Iw (0 : Int),Iw (1 : Int),Iw (0 : Int),L124 ([] : List T_api_Label),L124 ([] : List T_api_Label),.sl none 0 0,.sl none 0 0,.sl none 0 0,L124 ([] : List T_api_Label),.bool false,L124 ([] : List T_api_Label),Iw (0 : Int),Iw (0 : Int),.str (⟨#[]⟩ : ByteArray),.bool false,.bool false,.bool false,.str (⟨#[]⟩ : ByteArray)])] R ⟨⟨_,R,.aggL ⟨.same _,.same _,.same _,.same _,.same _,.same _,.here _ R,.here _ R,.same _,.same _,.same _,.here _ R,.same _,.here _ R,.same _,.same _,.same _,.same _,.same _,.same _,.same _,trivial⟩⟩,trivial⟩ (FzH.refl _)) (Ba (Bb 103) (Ba (Aw 0 [(18,.agg [.str (⟨#[114]⟩ : ByteArray),Iw (600 : Int),Iw (0 : Int),Iw (0 : Int),Iw (1 : Int),Iw (0 : Int),L124 ([] : List T_api_Label),L124 ([] : List T_api_Label),L103 ([] : List T_api_Term),.sl none 0 0,.sl none 0 0,L124 ([] : List T_api_Label),.bool false,L124 ([] : List T_api_Label),Iw (0 : Int),Iw (0 : Int),.str (⟨#[]⟩ : ByteArray),.bool false,.bool false,.bool false,.str (⟨#[]⟩ : ByteArray)])] R ⟨⟨_,R,.aggL ⟨.same _,.same _,.same _,.same _,.same _,.same _,.same _,.same _,.here _ R,.same _,.same _,.same _,.same _,.same _,.same _,.same _,.same _,.same _,.same _,.same _,.same _,trivial⟩⟩,trivial⟩ (FzH.refl _)) (Ba (Bb 128) (Ba (Aw 0 [(18,.agg [.str (⟨#[114]⟩ : ByteArray),Iw (600 : Int),Iw (0 : Int),Iw (0 : Int),Iw (1 : Int),Iw (0 : Int),L124 ([] : List T_api_Label),L124 ([] : List T_api_Label),L103 ([] : List T_api_Term),L128 ([] : List T_api_Toleration),.sl none 0 0,L124 ([] : List T_api_Label),.bool false,L124 ([] : List T_api_Label),Iw (0 : Int),Iw (0 : Int),.str (⟨#[]⟩ : ByteArray),.bool false,.bool false,.bool false,.str (⟨#[]⟩ : ByteArray)])] R ⟨⟨_,R,.aggL ⟨.same _,.same _,.same _,.same _,.same _,.same _,.same _,.same _,.same _,.here _ R,.same _,.same _,.same _,.same _,.same _,.same _,.same _,.same _,.same _,.same _,.same _,trivial⟩⟩,trivial⟩ (FzH.refl _)) (Ba (Bb 3) (Aw 0 [(18,T_api_Bound.vv (⟨(⟨(⟨#[114]⟩ : ByteArray),(⟨(600 : Int),(0 : Int),(0 : Int),(1 : Int),(0 : Int)⟩ : T_api_Res),([] : List T_api_Label),([] : List T_api_Label),([] : List T_api_Term),([] : List T_api_Toleration),([] : List Int),([] : List T_api_Label),false,([] : List T_api_Label),(0 : Int),(0 : Int),(⟨#[]⟩ : ByteArray),false,false,false⟩ : T_api_Pod),(⟨#[]⟩ : ByteArray)⟩ : T_api_Bound))] R ⟨⟨_,R,.aggL ⟨.same _,.same _,.same _,.same _,.same _,.same _,.same _,.same _,.same _,.same _,.here _ R,.same _,.same _,.same _,.same _,.same _,.same _,.same _,.same _,.same _,.same _,trivial⟩⟩,trivial⟩ (FzH.refl _)))))))))))))))))))))))))<|?_
 refine Ac R R<|A7 ap23 R R R R R fun b2=>Be (Aw 0 [(19,L50 [(⟨(⟨(⟨#[112]⟩ : ByteArray),(⟨(600 : Int),(0 : Int),(0 : Int),(1 : Int),(0 : Int)⟩ : T_api_Res),([] : List T_api_Label),([] : List T_api_Label),([] : List T_api_Term),([] : List T_api_Toleration),([] : List Int),([] : List T_api_Label),false,([] : List T_api_Label),(0 : Int),(0 : Int),(⟨#[]⟩ : ByteArray),false,false,false⟩ : T_api_Pod),(⟨#[]⟩ : ByteArray)⟩ : T_api_Bound),(⟨(⟨(⟨#[113]⟩ : ByteArray),(⟨(600 : Int),(0 : Int),(0 : Int),(1 : Int),(0 : Int)⟩ : T_api_Res),([] : List T_api_Label),([] : List T_api_Label),([] : List T_api_Term),([] : List T_api_Toleration),([] : List Int),([] : List T_api_Label),false,([] : List T_api_Label),(0 : Int),(5 : Int),(⟨#[]⟩ : ByteArray),false,false,false⟩ : T_api_Pod),(⟨#[]⟩ : ByteArray)⟩ : T_api_Bound),(⟨(⟨(⟨#[114]⟩ : ByteArray),(⟨(600 : Int),(0 : Int),(0 : Int),(1 : Int),(0 : Int)⟩ : T_api_Res),([] : List T_api_Label),([] : List T_api_Label),([] : List T_api_Term),([] : List T_api_Toleration),([] : List Int),([] : List T_api_Label),false,([] : List T_api_Label),(0 : Int),(0 : Int),(⟨#[]⟩ : ByteArray),false,false,false⟩ : T_api_Pod),(⟨#[]⟩ : ByteArray)⟩ : T_api_Bound)])] R ⟨⟨_,R,.here _ R⟩,trivial⟩ (FzH.refl _))<|Ab R R (Ai R)<|Ad<|Ah<|Aa tbk [] 2 R R<|Bd hm fun r h3 hm=>Ac R R<|VO.callK 0 R fn26 R (K12 [(⟨(⟨#[109]⟩ : ByteArray),(⟨#[]⟩ : ByteArray),(⟨(1000 : Int),(0 : Int),(0 : Int),(9 : Int),(0 : Int)⟩ : T_api_Res),([] : List T_api_Label),([] : List T_api_Taint),true⟩ : T_api_Machine),(⟨(⟨#[110]⟩ : ByteArray),(⟨#[]⟩ : ByteArray),(⟨(1000 : Int),(0 : Int),(0 : Int),(9 : Int),(0 : Int)⟩ : T_api_Res),([] : List T_api_Label),([] : List T_api_Taint),true⟩ : T_api_Machine)] [(⟨(⟨(⟨#[112]⟩ : ByteArray),(⟨(600 : Int),(0 : Int),(0 : Int),(1 : Int),(0 : Int)⟩ : T_api_Res),([] : List T_api_Label),([] : List T_api_Label),([] : List T_api_Term),([] : List T_api_Toleration),([] : List Int),([] : List T_api_Label),false,([] : List T_api_Label),(0 : Int),(0 : Int),(⟨#[]⟩ : ByteArray),false,false,false⟩ : T_api_Pod),(⟨#[]⟩ : ByteArray)⟩ : T_api_Bound),(⟨(⟨(⟨#[113]⟩ : ByteArray),(⟨(600 : Int),(0 : Int),(0 : Int),(1 : Int),(0 : Int)⟩ : T_api_Res),([] : List T_api_Label),([] : List T_api_Label),([] : List T_api_Term),([] : List T_api_Toleration),([] : List Int),([] : List T_api_Label),false,([] : List T_api_Label),(0 : Int),(5 : Int),(⟨#[]⟩ : ByteArray),false,false,false⟩ : T_api_Pod),(⟨#[]⟩ : ByteArray)⟩ : T_api_Bound),(⟨(⟨(⟨#[114]⟩ : ByteArray),(⟨(600 : Int),(0 : Int),(0 : Int),(1 : Int),(0 : Int)⟩ : T_api_Res),([] : List T_api_Label),([] : List T_api_Label),([] : List T_api_Term),([] : List T_api_Toleration),([] : List Int),([] : List T_api_Label),false,([] : List T_api_Label),(0 : Int),(0 : Int),(⟨#[]⟩ : ByteArray),false,false,false⟩ : T_api_Pod),(⟨#[]⟩ : ByteArray)⟩ : T_api_Bound)] r h3) fun _ _ h71=> ?_
 obtain ⟨ob,cap,ob2,cap2,rfl,rfl⟩:=h71
 refine Aa tbk [] 5 R R<|Ad<|Ae<|B6 (Aw 1 [(25,L53 r.2),(4,L53 r.2)] R ⟨⟨_,R,.here _ R⟩,⟨_,R,.here _ R⟩,trivial⟩ (FzH.refl _))<|B6 (Aw 0 [(24,L50 r.1),(3,L50 r.1)] R ⟨⟨_,R,.here _ R⟩,⟨_,R,.here _ R⟩,trivial⟩ (FzH.refl _))<|Bo<|Ab R R (Al R)<|Ac R R<|Am hm 0 R fn28 R (K3 _) fun r7 hm=>Ac R R<|A7 ap41 R R R R R fun b13=>Be (Aw 0 [(28,L3 [(1 : Int),(0 : Int),(2 : Int)])] R ⟨⟨_,R,.here _ R⟩,trivial⟩ (FzH.refl _))<|Ac R R<|Am hm 0 R fn17 R (K130 _ _) fun r8 hm=>Ab R R (Al R)<|C3 4 34 30 R (fun h49 K' J=>Bk R R R R R (Al R)<|Bk R R R R R (Ax T_api_Bound.vv R Bn)<|Aa tbk [] 2 R R<|J 3 R R R) (fun K' J=>Aa tbk [] 4 R R<|J 3 R R R)<|Ab R R (Al R)<|Bf hm 6 41 35 R (fun _ K' h50 J hm=>Bk R R R R R (Al R)<|Bd hm fun x8 h51 hm=>Bk R R R R R (A0 T_api_Bound.vv R R el23 h51)<|Aa tbk [] 4 R R<|J 5 R R (Bj hm)) (fun _ K' h50 J hm=>Aa tbk [] 6 R R<|J 5 R R (Bj hm)) fun c8 hm=>Ab R R (Al R)<|Bf hm 6 48 42 R (fun _ K' h53 J hm=>Bk R R R R R (Al R)<|Bd hm fun x9 h54 hm=>Bk R R R R R (A0 T_api_Bound.vv R R el23 h54)<|Aa tbk [] 4 R R<|J 5 R R (Bj hm)) (fun _ K' h53 J hm=>Aa tbk [] 6 R R<|J 5 R R (Bj hm)) fun c9 hm=>Ab R R (Al R)<|Bf hm 6 55 49 R (fun _ K' h56 J hm=>Bk R R R R R (Al R)<|Bd hm fun x10 h57 hm=>Bk R R R R R (A0 T_api_Bound.vv R R el23 h57)<|Aa tbk [] 4 R R<|J 5 R R (Bj hm)) (fun _ K' h56 J hm=>Aa tbk [] 6 R R<|J 5 R R (Bj hm)) fun c10 hm=>Ab R R (Al R)<|Bf hm 6 62 56 R (fun _ K' h59 J hm=>Bk R R R R R (Al R)<|Bk R R R R R (Bi pl53 R R)<|Bk R R R R R (Bi pl53 R R)<|A8 R R R R R<|A7 ap35 R R R R R fun b14=>Be (Aw 0 [(60,L53 [(⟨(⟨#[113]⟩ : ByteArray),(⟨#[109]⟩ : ByteArray)⟩ : T_api_Move),(⟨(⟨#[112]⟩ : ByteArray),(⟨#[110]⟩ : ByteArray)⟩ : T_api_Move)])] R ⟨⟨_,R,.here _ R⟩,trivial⟩ (FzH.refl _))<|A8 R R R R R<|Am hm 0 R fn16 R (K129 _ _) fun r9 hm=>Ab R R (Bg true R R R)<|J 6 R R (Bj hm)) (fun _ K' h59 J hm=>Aa tbk [] 6 R R<|J 5 R R (Bj hm)) fun c11 hm=>Ab R R (Al R)<|Bf hm 9 72 63 R (fun _ K' h63 J hm=>Aa tbk [] 3 R R<|Bd hm fun x11 h64 hm=>Bk R R R R R (A0 T_api_Bound.vv R R el23 h64)<|Aa tbk [] 2 R R<|A8 R R R R R<|Am hm 0 R fn33 R (K11 _ _ _) fun r10 hm=>Aa tbk [] 2 R R<|J 8 R R (Bj hm)) (fun _ K' h63 J hm=>Aa tbk [] 9 R R<|J 8 R R (Bj hm)) fun c12 hm=>Ab R R (Al R)<|?_
 exact Bf hm 8 81 73 R (fun _ K' h67 J hm=>Aa tbk [] 2 R R<|Bd hm fun x12 h68 hm=>Bk R R R R R (A0 T_api_Bound.vv R R el23 h68)<|Aa tbk [] 2 R R<|A8 R R R R R<|VO.cn hm 0 [.same,.nil 50,.same] R fn33 R (K11 _ _ _) fun r11 hm=>Aa tbk [] 2 R R<|J 7 R R (Bj hm)) (fun _ K' h67 J hm=>Aa tbk [] 8 R R<|J 7 R R (Bj hm)) fun c13 hm=>Ab R R (Ai R)<|Ad<|Rt1 hm R [] R R R

/-! trireme/triremeref14.Order -/
def ref14_Order.l2 (bs : List T_api_Bound) (out2 : List Int) (i2 : Int) : Nat → Int → (List Int) → Option (Int × List Int)
 | 0, _, _ => none
 | n2 + 1, k2, next2 =>
  (if (decide (k2 < (out2.length : Int))) = true then (V.gl out2 k2).bind fun x2 =>
  (V.gl bs x2).bind fun x3 =>
  (V.gl bs i2).bind fun x4 =>
  some (decide (x3.Pod.Rank ≥ x4.Pod.Rank)) else some false).bind fun c =>
  if c = true then
   (V.gl out2 k2).bind fun x5 =>
   (V.ap 8 next2 [x5]).bind fun next4 =>
   ref14_Order.l2 bs out2 i2 n2 (i64.wrap (k2 + 1)) next4
  else
   some (k2, next2)
def ref14_Order.l1 (bs : List T_api_Bound) : Nat → (List Int) → Int → Option (List Int)
 | 0, _, _ => none
 | n + 1, out2, i2 =>
  if (decide (i2 < (bs.length : Int))) = true then
   (V.gl bs i2).bind fun x =>
   if (!(V.seq x.On (⟨#[]⟩ : ByteArray))) = true then
    ref14_Order.l1 bs n out2 (i64.wrap (i2 + 1))
   else
    (ref14_Order.l2 bs out2 i2 FU 0 ([] : List Int)).bind fun j =>
    (V.ap 8 j.2 [i2]).bind fun next5 =>
    (V.sl out2 (some j.1) none).bind fun v =>
    (V.ap 8 next5 v).bind fun next6 =>
    ref14_Order.l1 bs n next6 (i64.wrap (i2 + 1))
  else
   some out2
def ref14_Order (bs : List T_api_Bound) : Option (List Int) :=
 (ref14_Order.l1 bs FU ([] : List Int) (0 : Int)).bind fun out32 =>
 some out32
theorem K14 (bs : List T_api_Bound) : VS2 Tryz.prog 29 (ref14_Order bs) [L50 bs] [] (fun r ob0 cap0=>Z3 ob0 r cap0) (fun r ob0 cap0=>[Q3 ob0 cap0 r]) := by
 refine Cg [.tmp 2] Tryz.func29 R R R fun r hm=>?_
 unfold ref14_Order at hm
 refine Ag tbk [] R R<|Ag tbk [] R R<|Ae<|Ag tbk [] R R<|Bx hm (fun out32 (gg:Option Nat × Nat)=>[(3,Z3 gg.1 out32 gg.2)]) (fun out32 (gg:Option Nat × Nat)=>[Q3 gg.1 gg.2 out32]) (fun o hm=>?_) fun out32=>Pq fun ob3 cap3 hm=> ?_
 ·refine Bm (fun zn (zs:List Int × Int)=>ref14_Order.l1 bs zn zs.1 zs.2) (fun zs (zg:Option Nat × Nat)=>[(0,L50 bs),(3,Z3 zg.1 zs.1 zg.2),(4,Iw zs.2)]) (fun zs (zg:Option Nat × Nat)=>[Q3 zg.1 zg.2 zs.1]) (([] : List Int),(0 : Int)) (none,0) (fun _=>R) hm (Ba (Bb 3) (Af [0] R R)) fun n=>Pq fun out2 i2=>Pq fun ob2 cap2 hm=> ?_
  rw [ref14_Order.l1] at hm
  refine Ae<|Ah<|Aa tbk [] 2 R R<|Ab R R (Ax T_api_Bound.vv R Bn)<|Ab R R (A5 R R R)<|Ad<|Ak hm R (fun h5 hm=>?_) fun h5 hm=> ?_
  ·refine Aj<|Ae<|Az<|Ae<|Ah<|Aa tbk [] 2 R R<|Bd hm fun x h6 hm=>Ab R R (A0 T_api_Bound.vv R R el23 h6)<|Aa tbk [] 3 R R<|Ad<|Ak hm R (fun h7 hm=>A3<|A6 tbk [] R R<|Ap (out2,(IntKind.i64.wrap (i2 + (1 : Int)))) (ob2,cap2) hm (Af [0] R R)) fun h7 hm=>Aj<|Ag tbk [] R R<|Ag tbk [] R R<|C0 hm (fun j (gg:Option Nat × Option Nat × Nat)=>[(0,L50 bs),(3,Z3 gg.1 out2 cap2),(4,Iw i2),(5,Iw j.1),(6,Z3 gg.2.1 j.2 gg.2.2)]) (fun j (gg:Option Nat × Option Nat × Nat)=>[Q3 gg.2.1 gg.2.2 j.2,Q3 gg.1 cap2 out2]) (fun o2 hm=>?_) fun j=>Pq fun ob8=>Pq fun ob9 cap6 hm=> ?_
   ·refine Bm (fun zn (zs:Int × List Int)=>ref14_Order.l2 bs out2 i2 zn zs.1 zs.2) (fun zs (zg:Option Nat × Option Nat × Nat)=>[(0,L50 bs),(3,Z3 zg.1 out2 cap2),(4,Iw i2),(5,Iw zs.1),(6,Z3 zg.2.1 zs.2 zg.2.2)]) (fun zs (zg:Option Nat × Option Nat × Nat)=>[Q3 zg.2.1 zg.2.2 zs.2,Q3 zg.1 cap2 out2]) ((0 : Int),([] : List Int)) (ob2,none,0) (fun _=>R) hm (Ba (Bb 3) (Af [0,0] R R)) fun n2=>Pq fun k2 next2=>Pq fun ob6=>Pq fun ob7 cap5 hm=> ?_
    rw [ref14_Order.l2] at hm
    refine Ae<|Ae<|Bc 0 mixed<|Au tbk [0,1] [] (by kernel_rfl) R R R<|Av 2 R R R (by kernel_rfl) (Cr (VV.int .i64) R Bq)<|Au tbk [3,4] [] (by kernel_rfl) R R R<|Ct hm [21,20,19,18,17,16,15,14,13,12,11,10,9,8,7,6,5,4,3,2,1,0] 40 23 R (fun _ K' h12 J hm=>?_) (fun _ K' h12 J hm=>Au tbk [5,6,7,8,9,10,11,12,13,14,15,16,17,18,19,20,21] [] (by kernel_rfl) R R R<|J 16 R R (Bj hm)) fun c hm=> ?_
    ·refine Au tbk [5,6,7] [] (by kernel_rfl) R R R<|Bd hm fun x2 h13 hm=>Dd 1 R (gl_pos (VV.int .i64) h13) fun b h14=> ?_
     subst h14
     exact Cc 8 R R R R R R (by kernel_rfl) (Cd (VV.int .i64) R R el41 h13)<|Cc 9 R R R R R R (by kernel_rfl) (Cb (i:=1) (y:=(VV.int .i64) x2) R R R (gl_map _ (gl_some h13).2) ld3 R)<|Bd hm fun x3 h15 hm=>Cc 10 R R R R R R (by kernel_rfl) (A0 T_api_Bound.vv R R el23 h15)<|Au tbk [11,12,13,14,15] [] (by kernel_rfl) R R R<|Bd hm fun x4 h16 hm=>Cc 16 R R R R R R (by kernel_rfl) (A0 T_api_Bound.vv R R el23 h16)<|Au tbk [17,18,19,20,21] [] (by kernel_rfl) R R R<|J 16 R R (Bj hm)
    refine A1 (by kernel_rfl)<|Ak hm R (fun h18 hm=>?_) fun h18 hm=> ?_
    ·refine Aj<|Az<|Ah<|Aa tbk [] 3 R R<|Bd hm fun x5 h19 hm=>Ci 1 R (gl_pos (VV.int .i64) h19) fun b2 h20=> ?_
     subst h20
     exact Ab R R (Cd (VV.int .i64) R R el41 h19)<|Ab R R (Cb (i:=1) (y:=(VV.int .i64) x5) R R R (gl_map _ (gl_some h19).2) ld3 R)<|Ac R R<|A7 ap41 R R R R R fun b3=>Bd hm fun next4 h22 hm=>Ac R R<|Bz 1 (VV.int .i64) (l:=next2) (l2:=[x5]) ap41 R R (sT_row 0 (VV.int .i64) el41 R R) h22 fun ob10 cap7=>Ab R R (Ai R)<|Ad<|A6 tbk [] R R<|Ap ((IntKind.i64.wrap (k2 + (1 : Int))),next4) ((some b2),ob10,cap7) hm (Af [1,1] R R)
    exact A3<|As (ob6,ob7,cap5) hm (Af [0,0] R R)
   exact Ah<|Aa tbk [] 2 R R<|Ac R R<|A7 ap41 R R R R R fun b4=>Bd hm fun next5 h25 hm=>Ac R R<|Bz 1 (VV.int .i64) (l:=j.2) (l2:=[i2]) ap41 R R (sT_row 0 (VV.int .i64) el41 R R) h25 fun ob11 cap8=>Ab R R (Ai R)<|Ad<|Bo<|Aa tbk [] 3 R R<|Be (Aw 2 [(3,L3 out2),(55,L3 out2)] R ⟨⟨_,R,.here _ R⟩,⟨_,R,.here _ R⟩,trivial⟩ (FzH.refl _))<|Bd hm fun v h26 hm=>Ab R R (C8 R R R el41 h26)<|Bd hm fun next6 h27 hm=>Ac R R<|Bz 1 (VV.int .i64) (l:=next5) (l2:=v) ap41 R R (sT_list (VV.int .i64) el41 R R) h27 fun ob12 cap9=>Ab R R (Ai R)<|Ad<|A6 tbk [] R R<|Ap (next6,(IntKind.i64.wrap (i2 + (1 : Int)))) (ob12,cap9) hm (Af [1] R R)
  exact A3<|As (ob2,cap2) hm (Af [0] R R)
 exact Ag tbk [] R R<|Rg2 hm R [0] ob3 cap3 (.cons (.tmp _ _ R) .nil) R R

/-! trireme/triremeref12.Where -/
def ref12_Where.l1 (ms : List T_api_Machine) (bs : List T_api_Bound) (p : T_api_Pod) : Nat → (List ByteArray) → Int → Option (List ByteArray)
 | 0, _, _ => none
 | n + 1, out2, i2 =>
  if (decide (i2 < (ms.length : Int))) = true then
   (V.gl ms i2).bind fun x =>
   (ref12_Why ms bs p x.Name).bind fun r =>
   if (r == 0) = true then
    (V.gl ms i2).bind fun x2 =>
    (V.ap 16 out2 [x2.Name]).bind fun out4 =>
    ref12_Where.l1 ms bs p n out4 (i64.wrap (i2 + 1))
   else
    ref12_Where.l1 ms bs p n out2 (i64.wrap (i2 + 1))
  else
   some out2
def ref12_Where (ms : List T_api_Machine) (bs : List T_api_Bound) (p : T_api_Pod) : Option (List ByteArray) :=
 (ref12_Where.l1 ms bs p FU ([] : List ByteArray) (0 : Int)).bind fun out32 =>
 some out32
theorem K15 (ms : List T_api_Machine) (bs : List T_api_Bound) (p : T_api_Pod) : VS2 Tryz.prog 36 (ref12_Where ms bs p) [L30 ms, L50 bs, T_api_Pod.vv p] [] (fun r ob0 cap0=>Z9 ob0 r cap0) (fun r ob0 cap0=>[Q9 ob0 cap0 r]) := by
 refine Cg [.tmp 6] Tryz.func36 R R R fun r hm=>?_
 unfold ref12_Where at hm
 refine Ah<|Ac R R<|A9 R R fun b=>Ab R R (Ai R)<|Ad<|Ag tbk [] R R<|Ae<|Ag tbk [] R R<|Bx hm (fun out32 (gg:Option Nat × Nat)=>[(7,Z9 gg.1 out32 gg.2)]) (fun out32 (gg:Option Nat × Nat)=>[Q9 gg.1 gg.2 out32]) (fun o hm=>?_) fun out32=>Pq fun ob3 cap3 hm=> ?_
 ·refine Bm (fun zn (zs:List ByteArray × Int)=>ref12_Where.l1 ms bs p zn zs.1 zs.2) (fun zs (zg:Option Nat × Nat)=>[(0,L30 ms),(1,L50 bs),(5,.ptr b 0),(7,Z9 zg.1 zs.1 zg.2),(8,Iw zs.2)]) (fun zs (zg:Option Nat × Nat)=>[Q9 zg.1 zg.2 zs.1,X48 b p]) (([] : List ByteArray),(0 : Int)) (none,0) (fun _=>R) hm (Ba (Bb 9) (Af [0,0] R R)) fun n=>Pq fun out2 i2=>Pq fun ob2 cap2 hm=> ?_
  rw [ref12_Where.l1] at hm
  exact Ae<|Ah<|Aa tbk [] 2 R R<|Ab R R (Ax T_api_Machine.vv R Bv)<|Ab R R (A5 R R R)<|Ad<|Ak hm R (fun h6 hm=>Aj<|Ae<|Az<|Ae<|Bc 0 mixed<|Au tbk [0,1,2,3,4] [1] (by kernel_rfl) R R R<|Bd hm fun x h7 hm=>Av 5 R R R (by kernel_rfl) (A0 T_api_Machine.vv R R el22 h7)<|Au tbk [6,7] [] (by kernel_rfl) R R R<|Ao 8 (by kernel_rfl)<|Aq R R R<|Am hm 0 R fn34 R (K161 _ _ _ _) fun r hm=>Av 9 R R R (by kernel_rfl) (A5 R R R)<|A1 (by kernel_rfl)<|Ak hm R (fun h9 hm=>Bo<|Aa tbk [] 3 R R<|Bd hm fun x2 h10 hm=>Ab R R (A0 T_api_Machine.vv R R el22 h10)<|Aa tbk [] 2 R R<|Ac R R<|A7 ap51 R R R R R fun b2=>Bd hm fun out4 h12 hm=>Ac R R<|Bz 1 VV.str (l:=out2) (l2:=[x2.Name]) ap51 R R (sT_row 0 VV.str el51 R R) h12 fun ob4 cap4=>Ab R R (Ai R)<|Ad<|A6 tbk [] R R<|Ap (out4,(IntKind.i64.wrap (i2 + (1 : Int)))) (ob4,cap4) hm (Af [1,1] R R)) fun h9 hm=>Aj<|A6 tbk [] R R<|Ap (out2,(IntKind.i64.wrap (i2 + (1 : Int)))) (ob2,cap2) hm (Af [0,0] R R)) fun h6 hm=>A3<|As (ob2,cap2) hm (Af [0] R R)
 exact Ag tbk [] R R<|Rg2 hm R [0] ob3 cap3 (.cons (.tmp _ _ R) .nil) R R

/-! trireme/triremeref06.Prefers -/
def ref06_Prefers (l : List T_api_Toleration) (taints : List T_api_Taint) : Option Int :=
 (ref06_Unborne l taints (2 : Int)).bind fun r =>
 some (r.length : Int)
theorem K16 (l : List T_api_Toleration) (taints : List T_api_Taint) : VS Tryz.prog 152 (ref06_Prefers l taints) [L128 l, L126 taints] [] Iw N0 := by
 refine A2 [.tmp 4] Tryz.func152 R R R fun r hm=>?_
 unfold ref06_Prefers at hm
 exact Ag tbk [] R R<|Ah<|Aa tbk [] 2 R R<|Ac R R<|B7 hm 0 R fn165 R (K142 _ _ _) fun r ob cap hm=>Be (Aw 0 [(7,L126 r)] R ⟨⟨_,R,.here _ R⟩,trivial⟩ (FzH.refl _))<|Ab R R (Ax T_api_Taint.vv R B1)<|Ab R R (Ai R)<|Ad<|Rt1 hm R [] R R R

/-! trireme/triremeref10.Prefers -/
def ref10_Prefers (m : T_api_Machine) (p : T_api_Pod) : Option Int :=
 (ref06_Prefers p.Bears m.Taints).bind fun r =>
 some r
theorem K17 (m : T_api_Machine) (p : T_api_Pod) : VS Tryz.prog 119 (ref10_Prefers m p) [T_api_Machine.vv m, T_api_Pod.vv p] [] Iw N0 := by
 refine A2 [.tmp 4] Tryz.func119 R R R fun r hm=>?_
 unfold ref10_Prefers at hm
 exact Ah<|Ac R R<|A9 R R fun b=>Ac R R<|A9 R R fun b2=>Ab R R (Ai R)<|Ad<|Ah<|Aa tbk [0,1] 4 R R<|Ac R R<|Am hm 0 R fn152 R (K16 _ _) fun r hm=>Ab R R (Ai R)<|Ad<|Rt1 hm R [] R R R

/-! trireme/triremeref14.Among -/
def ref14_Among.l1 (ms : List T_api_Machine) (bs : List T_api_Bound) (p : T_api_Pod) (l : List ByteArray) : Nat → ByteArray → Int → Int → Int → Option ByteArray
 | 0, _, _, _, _ => none
 | n + 1, best2, worst2, share2, i2 =>
  if (decide (i2 < (l.length : Int))) = true then
   (V.gl l i2).bind fun x =>
   (ref09_Find ms x).bind fun r =>
   (V.gl ms r).bind fun x2 =>
   (ref10_Prefers x2 p).bind fun r2 =>
   ((ref10_Others bs p.Name).bind fun r3 =>
   (ref09_Used r3 x2.Name).bind fun r4 =>
   some r4.1).bind fun u2 =>
   (ref04_Share u2 x2.Has).bind fun r8 =>
   if (((V.seq best2 (⟨#[]⟩ : ByteArray)) || (decide (r2 < worst2))) || ((r2 == worst2) && (decide (r8 < share2)))) = true then
    ref14_Among.l1 ms bs p l n x2.Name r2 r8 (i64.wrap (i2 + 1))
   else
    ref14_Among.l1 ms bs p l n best2 worst2 share2 (i64.wrap (i2 + 1))
  else
   some best2
def ref14_Among (ms : List T_api_Machine) (bs : List T_api_Bound) (p : T_api_Pod) (l : List ByteArray) : Option ByteArray :=
 (ref14_Among.l1 ms bs p l FU (⟨#[]⟩ : ByteArray) 0 0 (0 : Int)).bind fun best32 =>
 some best32
theorem K18 (ms : List T_api_Machine) (bs : List T_api_Bound) (p : T_api_Pod) (l : List ByteArray) : VS Tryz.prog 83 (ref14_Among ms bs p l) [L30 ms, L50 bs, T_api_Pod.vv p, L9 l] [] .str N0 := by
 refine A2 [.tmp 8] Tryz.func83 R R R fun r hm=>?_
 unfold ref14_Among at hm
 refine Ah<|Ac R R<|A9 R R fun b=>Ab R R (Ai R)<|Ad<|Ag tbk [] R R<|Ag tbk [] R R<|Ag tbk [] R R<|Ae<|Ag tbk [] R R<|Bx hm (fun best32 (_:Unit)=>[(9,.str best32)]) (fun _ (_:Unit)=>[]) (fun o hm=>?_) fun best32 _ hm=> ?_
 ·refine Bm (fun zn (zs:ByteArray × Int × Int × Int)=>ref14_Among.l1 ms bs p l zn zs.1 zs.2.1 zs.2.2.1 zs.2.2.2) (fun zs (_:Unit)=>[(0,L30 ms),(1,L50 bs),(3,L9 l),(6,.ptr b 0),(9,.str zs.1),(10,Iw zs.2.1),(11,Iw zs.2.2.1),(12,Iw zs.2.2.2)]) (fun _ (_:Unit)=>[X48 b p]) ((⟨#[]⟩ : ByteArray),(0 : Int),(0 : Int),(0 : Int)) () (fun _=>R) hm (Af [0] R R) fun n=>Pq fun best2=>Pq fun worst2=>Pq fun share2 i2 _ hm=> ?_
  rw [ref14_Among.l1] at hm
  refine Ae<|Ah<|Aa tbk [] 2 R R<|Ab R R (Ax VV.str R Br)<|Ab R R (A5 R R R)<|Ad<|Ak hm R (fun h4 hm=>?_) fun h4 hm=> ?_
  ·refine Aj<|Ae<|Az<|Ah<|Aa tbk [] 4 R R<|Bd hm fun x h5 hm=>Ab R R (A0 VV.str R R el51 h5)<|Ab R R (Bl R ld9 R)<|Ac R R<|Am hm 0 R fn80 R (K60 _ _) fun r hm=>Bd hm fun x2 h7 hm=>Ab R R (A0 T_api_Machine.vv R R el22 h7)<|Ab R R (Bl R ld30 R)<|Ac R R<|Ay z30 fun b2=>Ac R R<|An (i:=0) R R R ld30 R R R<|Ad<|Ah<|Aa tbk [0,1] 2 R R<|Ac R R<|Am hm 0 R fn119 R (K17 _ _) fun r2 hm=>Ab R R (Ai R)<|Ad<|C0 hm (fun _ (gg:Nat)=>[(0,L30 ms),(1,L50 bs),(3,L9 l),(6,.ptr b 0),(9,.str best2),(10,Iw worst2),(11,Iw share2),(12,Iw i2),(13,.ptr b2 0),(14,Iw r2),(15,.ptr gg 0)]) (fun u2 (gg:Nat)=>[X26 gg u2,X30 b2 x2,X48 b p]) (fun o2 hm=>?_) fun u2 b3 hm=> ?_
   ·refine Bc 0 mixed<|Au tbk [0,1,2,4,5] [1,0] (by kernel_rfl) R R R<|?_
    refine B2 [3,10] (by kernel_rfl) ⟨?_,?_,trivial⟩
    ·refine Aq R R R<|B7 hm 0 R fn62 R (K146 _ _) fun r3 ob cap hm=>Cm (Aw 0 [(40,L50 r3)] R ⟨⟨_,R,.here _ R⟩,trivial⟩ (FzH.refl _))<|?_
     refine B2 [6,10] (by kernel_rfl) ⟨?_,?_,trivial⟩
     ·exact Aq R R R<|Am hm 0 R fn120 R (K149 _ _) fun r4 hm=>Au tbk [7,8,9] [] (by kernel_rfl) R R R<|Ao 10 (by kernel_rfl)<|Aq R R R<|Ay z26 fun b4=>Ao 11 (by kernel_rfl)<|Aq R R R<|An (i:=0) R R R ld26 R R R<|Av 12 R R R (by kernel_rfl) (Ai R)<|A1 (by kernel_rfl)<|As _ hm (Af [0,0,0] R R)
     ·exact Aq R R R<|Ay z26 fun b5=>Ao 6 (by kernel_rfl)<|Aq R R R<|Am hm 0 R fn120 R (K149 _ _) fun r5 hm=>Au tbk [7,8,9] [] (by kernel_rfl) R R R<|Ao 11 (by kernel_rfl)<|Aq R R R<|An (i:=0) R R R ld26 R R R<|Av 12 R R R (by kernel_rfl) (Ai R)<|A1 (by kernel_rfl)<|As _ hm (Af [0,0,0] R R)
    ·exact Aq R R R<|Ay z26 fun b6=>Ao 3 (by kernel_rfl)<|Aq R R R<|B7 hm 0 R fn62 R (K146 _ _) fun r6 ob2 cap2 hm=>Cm (Aw 0 [(40,L50 r6)] R ⟨⟨_,R,.here _ R⟩,trivial⟩ (FzH.refl _))<|Ao 6 (by kernel_rfl)<|Aq R R R<|Am hm 0 R fn120 R (K149 _ _) fun r7 hm=>Au tbk [7,8,9] [] (by kernel_rfl) R R R<|Ao 11 (by kernel_rfl)<|Aq R R R<|An (i:=0) R R R ld26 R R R<|Av 12 R R R (by kernel_rfl) (Ai R)<|A1 (by kernel_rfl)<|As _ hm (Af [0,0,0] R R)
   exact Ah<|Aa tbk [0,1] 3 R R<|Ac R R<|Am hm 0 R fn58 R (K133 _ _) fun r8 hm=>Ab R R (Ai R)<|Ad<|Ah<|Aa tbk [] 3 R R<|Cn tbk [] 4 56 52 R R R R R<|Ab R R (Al R)<|Cx 9 66 57 R (fun K' J=>Aa tbk [] 9 R R<|J 8 R R R) (fun h25 K' J=>Aa tbk [] 4 R R<|B0 tbk [] 4 65 61 R R R R R<|Ab R R (Bg false R R R)<|J 5 R R R)<|Ad<|Ak hm R (fun h27 hm=>Ag tbk [1] R R<|Ag tbk [] R R<|A6 tbk [] R R<|A6 tbk [] R R<|Ap (x2.Name,r2,r8,(IntKind.i64.wrap (i2 + (1 : Int)))) () hm (Af [2] R R)) fun h27 hm=>Aj<|A6 tbk [] R R<|Ap (best2,worst2,share2,(IntKind.i64.wrap (i2 + (1 : Int)))) () hm (Af [2] R R)
  exact A3<|As () hm (Af [] R R)
 exact Ag tbk [] R R<|Rt1 hm R [] R R R

/-! trireme/triremeref14.Best -/
def ref14_Best (ms : List T_api_Machine) (bs : List T_api_Bound) (p : T_api_Pod) : Option ByteArray :=
 (ref12_Where ms bs p).bind fun r =>
 (ref14_Among ms bs p r).bind fun r2 =>
 some r2
theorem K19 (ms : List T_api_Machine) (bs : List T_api_Bound) (p : T_api_Pod) : VS Tryz.prog 35 (ref14_Best ms bs p) [L30 ms, L50 bs, T_api_Pod.vv p] [] .str N0 := by
 refine A2 [.tmp 6] Tryz.func35 R R R fun r hm=>?_
 unfold ref14_Best at hm
 exact Ah<|Ac R R<|A9 R R fun b=>Ab R R (Ai R)<|Ad<|Ae<|Bc 0 mixed<|Au tbk [0,1,2,3,4,5] [0,0] (by kernel_rfl) R R R<|Ao 6 (by kernel_rfl)<|Aq R R R<|B7 hm 0 R fn36 R (K15 _ _ _) fun r ob cap hm=>Cm (Aw 0 [(13,L9 r)] R ⟨⟨_,R,.here _ R⟩,trivial⟩ (FzH.refl _))<|Ao 7 (by kernel_rfl)<|Aq R R R<|Am hm 0 R fn83 R (K18 _ _ _ _) fun r2 hm=>Av 8 R R R (by kernel_rfl) (Ai R)<|A1 (by kernel_rfl)<|Rt1 hm R [] R R R

/-! trireme/triremeref14.Step -/
def ref14_Step.l1 (ms : List T_api_Machine) (bs : List T_api_Bound) (r : List Int) : Nat → (List T_api_Bound) → (List T_api_Move) → Int → Option (List T_api_Bound × List T_api_Move)
 | 0, _, _, _ => none
 | n + 1, out2, moves2, i2 =>
  if (decide (i2 < (r.length : Int))) = true then
   (V.gl r i2).bind fun x =>
   (V.gl bs x).bind fun x2 =>
   (ref14_Best ms out2 x2.Pod).bind fun r2 =>
   if (!(V.seq r2 (⟨#[]⟩ : ByteArray))) = true then
    (V.gl r i2).bind fun x3 =>
    (V.gl out2 x3).bind fun x4 =>
    (V.ap 32 moves2 [(⟨x2.Pod.Name, r2⟩ : T_api_Move)]).bind fun moves4 =>
    ref14_Step.l1 ms bs r n (List.set out2 (x3).toNat (⟨x4.Pod, r2⟩ : T_api_Bound)) moves4 (i64.wrap (i2 + 1))
   else
    ref14_Step.l1 ms bs r n out2 moves2 (i64.wrap (i2 + 1))
  else
   some (out2, moves2)
def ref14_Step (ms : List T_api_Machine) (bs : List T_api_Bound) : Option (List T_api_Bound × List T_api_Move) :=
 (V.ap 288 ([] : List T_api_Bound) bs).bind fun l =>
 (ref14_Order bs).bind fun r =>
 (ref14_Step.l1 ms bs r FU l ([] : List T_api_Move) (0 : Int)).bind fun j =>
 some (j.1, j.2)
theorem K20 (ms : List T_api_Machine) (bs : List T_api_Bound) : ∀ r : List T_api_Bound × List T_api_Move, ref14_Step ms bs = some r → VC Tryz.prog 27 [L30 ms, L50 bs] [] fun zx zH => ∃ (ob0 : Option Nat) (cap0 : Nat) (ob1 : Option Nat) (cap1 : Nat), zx = .tup [Z50 ob0 r.1 cap0, Z53 ob1 r.2 cap1] ∧ zH = [Q50 ob0 cap0 r.1, Q53 ob1 cap1 r.2] := by
 refine VCx.run [.tmp 4,.tmp 5] Tryz.func27 R R R fun r hm=>?_
 unfold ref14_Step at hm
 refine Ag tbk [] R R<|Ag tbk [] R R<|Ah<|Aa tbk [] 2 R R<|Be (Bb 50)<|Bd hm fun l h2 hm=>Ac R R<|Bz 0 T_api_Bound.vv (l:=([] : List T_api_Bound)) (l2:=bs) ap23 R R (sT_list T_api_Bound.vv el23 R R) h2 fun ob cap=>Ab R R (Ai R)<|Ad<|Ag tbk [] R R<|Ah<|Ab R R (Al R)<|Ac R R<|B7 hm 0 R fn29 R (K14 _) fun r ob2 cap2 hm=>Be (Aw 0 [(16,L3 r)] R ⟨⟨_,R,.here _ R⟩,trivial⟩ (FzH.refl _))<|Ab R R (Ai R)<|Ad<|Ae<|Ag tbk [] R R<|Bx hm (fun j (gg:Option Nat × Option Nat × Nat)=>[(6,Z50 gg.1 j.1 cap),(7,Z53 gg.2.1 j.2 gg.2.2)]) (fun j (gg:Option Nat × Option Nat × Nat)=>[Q53 gg.2.1 gg.2.2 j.2,Q50 gg.1 cap j.1]) (fun o hm=>?_) fun j=>Pq fun ob7=>Pq fun ob8 cap5 hm=> ?_
 ·refine Bm (fun zn (zs:List T_api_Bound × List T_api_Move × Int)=>ref14_Step.l1 ms bs r zn zs.1 zs.2.1 zs.2.2) (fun zs (zg:Option Nat × Option Nat × Nat)=>[(0,L30 ms),(1,L50 bs),(6,Z50 zg.1 zs.1 cap),(7,Z53 zg.2.1 zs.2.1 zg.2.2),(8,L3 r),(9,Iw zs.2.2)]) (fun zs (zg:Option Nat × Option Nat × Nat)=>[Q53 zg.2.1 zg.2.2 zs.2.1,Q50 zg.1 cap zs.1]) (l,([] : List T_api_Move),(0 : Int)) (ob,none,0) (fun _=>R) hm (Ba (Bb 53) (Af [0,0] R R)) fun n=>Pq fun out2=>Pq fun moves2 i2=>Pq fun ob5=>Pq fun ob6 cap4 hm=> ?_
  rw [ref14_Step.l1] at hm
  refine Ae<|Ah<|Aa tbk [] 2 R R<|Ab R R (Ax (VV.int .i64) R Bq)<|Ab R R (A5 R R R)<|Ad<|Ak hm R (fun h9 hm=>?_) fun h9 hm=> ?_
  ·refine Aj<|Ae<|Az<|Ah<|Aa tbk [] 3 R R<|Bd hm fun x h10 hm=>Ab R R (A0 (VV.int .i64) R R el41 h10)<|Ab R R (Bl R ld3 R)<|Bd hm fun x2 h11 hm=>Ab R R (A0 T_api_Bound.vv R R el23 h11)<|Aa tbk [] 2 R R<|Ac R R<|Ay z48 fun b=>Ac R R<|An (i:=0) R R R ld48 R R R<|Ad<|Ah<|Aa tbk [0] 3 R R<|Ac R R<|Da hm (Aw 2 [(6,L50 out2),(32,L50 out2)] R ⟨⟨_,R,.here _ R⟩,⟨_,R,.here _ R⟩,trivial⟩ (FzH.refl _)) [.same,.same,.same] R fn35 R (K19 _ _ _) (fun _=>R) (fun _=>R) fun r2 hm=>Ab R R (Ai R)<|Ad<|Ag tbk [] R R<|Ak hm R (fun h14 hm=>?_) fun h14 hm=> ?_
   ·refine Ah<|Aa tbk [] 3 R R<|Bd hm fun x3 h15 hm=>Ab R R (A0 (VV.int .i64) R R el41 h15)<|Aa tbk [] 2 R R<|Bd hm fun x4 h16 hm=>Ci 2 R (gl_pos T_api_Bound.vv h16) fun b2 h17=> ?_
    subst h17
    exact Ab R R (Cd T_api_Bound.vv R R el23 h16)<|Ab R R (Cz R fa50_1)<|Ac R R<|C7 2 (f:=T_api_Bound.vv) (l:=out2) (q:=x4) (q':=(⟨x4.Pod,r2⟩ : T_api_Bound)) R R R R h16 ld9 R R R R ⟨R,List.all_eq_true.1 R⟩<|Be (B5 6 (List.map T_api_Bound.vv (List.set out2 (x3).toNat (⟨x4.Pod,r2⟩ : T_api_Bound))).length R (len_set _ _ _ _))<|Be (B5 32 (List.map T_api_Bound.vv (List.set out2 (x3).toNat (⟨x4.Pod,r2⟩ : T_api_Bound))).length R (len_set _ _ _ _))<|Be (B5 37 (List.map T_api_Bound.vv (List.set out2 (x3).toNat (⟨x4.Pod,r2⟩ : T_api_Bound))).length R (len_set _ _ _ _))<|Ad<|Bo<|Aa tbk [0] 4 R R<|Ab R R (Bi pl53 R R)<|Ac R R<|A7 ap35 R R R R R fun b3=>Bd hm fun moves4 h19 hm=>Ac R R<|Bz 2 T_api_Move.vv (l:=moves2) (l2:=[(⟨x2.Pod.Name,r2⟩ : T_api_Move)]) ap35 R R (sT_row 0 T_api_Move.vv el35 R R) h19 fun ob9 cap6=>Ab R R (Ai R)<|Ad<|A6 tbk [] R R<|Ap ((List.set out2 (x3).toNat (⟨x4.Pod,r2⟩ : T_api_Bound)),moves4,(IntKind.i64.wrap (i2 + (1 : Int)))) ((some b2),ob9,cap6) hm (Af [2,2] R R)
   exact Aj<|A6 tbk [] R R<|Ap (out2,moves2,(IntKind.i64.wrap (i2 + (1 : Int)))) (ob5,ob6,cap4) hm (Af [1,1] R R)
  exact A3<|As (ob5,ob6,cap4) hm (Af [0,0] R R)
 refine Ag tbk [] R R<|?_
 obtain rfl:=Option.some.inj hm
 exact VW.ret ⟨.inl R,_,.cons (.tmp _ _ R) (.cons (.tmp _ _ R) .nil),[1,0],_,R,ob7,cap,ob8,cap5,R,R⟩

/-! trireme/triremeref03.ShowMilli -/
def ref03_ShowMilli (n : Int) : Option ByteArray :=
 if ((decide (n < 0)) || (decide (n > 1125899906842624))) = true then
  some (⟨#[]⟩ : ByteArray)
 else
  (V.rem n (1000 : Int)).bind fun v =>
  if (v == 0) = true then
   (V.quo n (1000 : Int)).bind fun v2 =>
   (ref01_Digits FU (i64.wrap v2)).bind fun r =>
   some r
  else
   (ref01_Digits FU n).bind fun r2 =>
   (V.cat r2 (⟨#[109]⟩ : ByteArray)).bind fun v3 =>
   some v3
theorem K21 (n : Int) : VS Tryz.prog 126 (ref03_ShowMilli n) [Iw n] [] .str N0 := by
 refine A2 [.tmp 2] Tryz.func126 R R R fun r hm=>?_
 unfold ref03_ShowMilli at hm
 exact Ag tbk [] R R<|Ae<|Ah<|Aa tbk [] 3 R R<|Cn tbk [] 3 8 5 R R R R R<|Ad<|Ak hm R (fun h2 hm=>Ag tbk [] R R<|Rt1 hm R [] R R R) fun h2 hm=>Aj<|Ae<|Ah<|Ab R R (Al R)<|Bd hm fun v h3 hm=>Ab R R (VP.remT R R h3)<|Ab R R (A5 R R R)<|Ad<|Ak hm R (fun h4 hm=>Ah<|Ab R R (Al R)<|Bd hm fun v2 h5 hm=>Ab R R (C5 R R h5)<|Ac R R<|Am hm 0 R fn61 R (K135 FU _) fun r hm=>Ab R R (Ai R)<|Ad<|Rt1 hm R [] R R R) fun h4 hm=>Aj<|Ah<|Ab R R (Al R)<|Ac R R<|Am hm 0 R fn61 R (K135 FU _) fun r2 hm=>Bd hm fun v3 h8 hm=>Ab R R (Bh R R h8)<|Ab R R (Ai R)<|Ad<|Rt1 hm R [] R R R

/-! trireme/triremeref03.Show -/
def ref03_Show.l1 (n : Int) : Nat → Int → Option (Out ByteArray Unit)
 | 0, _ => none
 | n2 + 1, i2 =>
  if (decide (i2 < 4)) = true then
   (V.shl .i64 1 (IntKind.u64.wrap (i64.wrap (40 - (i64.wrap (10 * i2)))))).bind fun v =>
   (if (decide (n > 0)) = true then (V.rem n v).bind fun v2 =>
   some (v2 == 0) else some false).bind fun c =>
   if c = true then
    (V.quo n v).bind fun v3 =>
    (V.gl [(⟨#[84, 105]⟩ : ByteArray), (⟨#[71, 105]⟩ : ByteArray), (⟨#[77, 105]⟩ : ByteArray), (⟨#[75, 105]⟩ : ByteArray)] i2).bind fun x =>
    (ref01_Digits FU (i64.wrap v3)).bind fun r =>
    (V.cat r x).bind fun v4 =>
    some (Out.ret v4)
   else
    ref03_Show.l1 n n2 (i64.wrap (i2 + 1))
  else
   some (Out.go ())
def ref03_Show (n : Int) : Option ByteArray :=
 if ((decide (n < 0)) || (decide (n > 1125899906842624))) = true then
  some (⟨#[]⟩ : ByteArray)
 else
  (ref03_Show.l1 n FU (0 : Int)).bind fun o =>
  o.on fun j =>
  (ref01_Digits FU n).bind fun r2 =>
  some r2
theorem K22 (n : Int) : VS Tryz.prog 127 (ref03_Show n) [Iw n] [] .str N0 := by
 refine A2 [.tmp 2] Tryz.func127 R R R fun r hm=>?_
 unfold ref03_Show at hm
 refine Ag tbk [] R R<|Ae<|Ah<|Aa tbk [] 3 R R<|Cn tbk [] 3 11 8 R R R R R<|Ad<|Ak hm R (fun h2 hm=>Ag tbk [] R R<|Rt1 hm R [] R R R) fun h2 hm=>Aj<|Ah<|Ac R R<|A7 ap51 R R R R R fun b=>Be (Aw 0 [(12,L9 [(⟨#[84,105]⟩ : ByteArray),(⟨#[71,105]⟩ : ByteArray),(⟨#[77,105]⟩ : ByteArray),(⟨#[75,105]⟩ : ByteArray)])] R ⟨⟨_,R,.here _ R⟩,trivial⟩ (FzH.refl _))<|Ab R R (Ai R)<|Ad<|Ae<|Ag tbk [] R R<|Bu hm (fun _ (_:Unit)=>[(0,Iw n)]) (fun _ (_:Unit)=>[]) (fun o hm h5=>?_) fun j _ hm=> ?_
 ·refine Bm (fun zn (zs:Int)=>ref03_Show.l1 n zn zs) (fun zs (_:Unit)=>[(0,Iw n),(3,L9 [(⟨#[84,105]⟩ : ByteArray),(⟨#[71,105]⟩ : ByteArray),(⟨#[77,105]⟩ : ByteArray),(⟨#[75,105]⟩ : ByteArray)]),(4,Iw zs)]) (fun _ (_:Unit)=>[]) _ () (fun _=>R) hm (Af [] R R) fun n2 i2 _ hm=> ?_
  rw [ref03_Show.l1] at hm
  exact Ae<|Ag tbk [] R R<|Ak hm R (fun h6 hm=>Aj<|Ae<|Az<|Ah<|Aa tbk [] 3 R R<|Ab R R (Cs B3 Tryz.underlying172 R)<|Bd hm fun v h7 hm=>Ab R R (VP.shlT R R h7)<|Ab R R (Ai R)<|Ad<|Ah<|Aa tbk [] 3 R R<|Bf hm 5 29 24 R (fun _ K' h8 J hm=>Aa tbk [] 2 R R<|Bd hm fun v2 h9 hm=>Bk R R R R R (VP.remT R R h9)<|Aa tbk [] 2 R R<|J 4 R R (Bj hm)) (fun _ K' h8 J hm=>Aa tbk [] 5 R R<|J 4 R R (Bj hm)) fun c hm=>Ad<|Ak hm R (fun h11 hm=>Ae<|Bc 0 mixed<|Au tbk [0,1] [] (by kernel_rfl) R R R<|Bd hm fun v3 h12 hm=>Av 2 R R R (by kernel_rfl) (C5 R R h12)<|Au tbk [4,5] [] (by kernel_rfl) R R R<|Bd hm fun x h13 hm=>Av 6 R R R (by kernel_rfl) (A0 VV.str R R el51 h13)<|Av 7 R R R (by kernel_rfl) (Bl R ld9 R)<|Ao 3 (by kernel_rfl)<|Aq R R R<|Am hm 0 R fn61 R (K135 FU _) fun r hm=>Bd hm fun v4 h15 hm=>Av 8 R R R (by kernel_rfl) (Bh R R h15)<|Av 9 R R R (by kernel_rfl) (Ai R)<|A1 (by kernel_rfl)<|have hm:=Lr hm h5;Rt1 hm R [] R R R) fun h11 hm=>Aj<|A6 tbk [] R R<|Ap _ () hm (Af [] R R)) fun h6 hm=>A3<|Ar () hm (Af [] R R)
 exact Ah<|Ab R R (Al R)<|Ac R R<|Am hm 0 R fn61 R (K135 FU _) fun r2 hm=>Ab R R (Ai R)<|Ad<|Rt1 hm R [] R R R

/-! trireme/triremeref07.atom -/
def ref07_atom (s : ByteArray) : Option ByteArray :=
 if (V.seq s (⟨#[]⟩ : ByteArray)) = true then
  some (⟨#[34, 34]⟩ : ByteArray)
 else
  some s
theorem K23 (s : ByteArray) : VS Tryz.prog 130 (ref07_atom s) [.str s] [] .str N0 := by
 refine A2 [.tmp 2] Tryz.func130 R R R fun r hm=>?_
 unfold ref07_atom at hm
 exact Ag tbk [] R R<|Ae<|Ag tbk [] R R<|Ak hm R (fun h1 hm=>Ag tbk [] R R<|Rt1 hm R [] R R R) fun h1 hm=>Aj<|Ag tbk [] R R<|Rt1 hm R [] R R R

/-! trireme/triremeref07.pairs -/
def ref07_pairs.l1 (name : ByteArray) (l : List T_api_Label) : Nat → ByteArray → Int → Option ByteArray
 | 0, _, _ => none
 | n + 1, s2, i2 =>
  if (decide (i2 < (l.length : Int))) = true then
   (V.cat s2 (⟨#[32, 40]⟩ : ByteArray)).bind fun v =>
   (V.cat v name).bind fun v2 =>
   (V.cat v2 (⟨#[32]⟩ : ByteArray)).bind fun v3 =>
   (V.gl l i2).bind fun x =>
   (V.cat v3 x.Key).bind fun v4 =>
   (V.cat v4 (⟨#[32]⟩ : ByteArray)).bind fun v5 =>
   (V.gl l i2).bind fun x2 =>
   (ref07_atom x2.Val).bind fun r =>
   (V.cat v5 r).bind fun v6 =>
   (V.cat v6 (⟨#[41]⟩ : ByteArray)).bind fun v7 =>
   ref07_pairs.l1 name l n v7 (i64.wrap (i2 + 1))
  else
   some s2
def ref07_pairs (name : ByteArray) (l : List T_api_Label) : Option ByteArray :=
 (ref07_pairs.l1 name l FU (⟨#[]⟩ : ByteArray) (0 : Int)).bind fun s32 =>
 some s32
theorem K24 (name : ByteArray) (l : List T_api_Label) : VS Tryz.prog 128 (ref07_pairs name l) [.str name, L124 l] [] .str N0 := by
 refine A2 [.tmp 4] Tryz.func128 R R R fun r hm=>?_
 unfold ref07_pairs at hm
 refine Ag tbk [] R R<|Ag tbk [] R R<|Ae<|Ag tbk [] R R<|Bx hm (fun s32 (_:Unit)=>[(5,.str s32)]) (fun _ (_:Unit)=>[]) (fun o hm=>?_) fun s32 _ hm=> ?_
 ·refine Bm (fun zn (zs:ByteArray × Int)=>ref07_pairs.l1 name l zn zs.1 zs.2) (fun zs (_:Unit)=>[(0,.str name),(1,L124 l),(5,.str zs.1),(6,Iw zs.2)]) (fun _ (_:Unit)=>[]) ((⟨#[]⟩ : ByteArray),(0 : Int)) () (fun _=>R) hm (Af [] R R) fun n=>Pq fun s2 i2 _ hm=> ?_
  rw [ref07_pairs.l1] at hm
  exact Ae<|Ah<|Aa tbk [] 2 R R<|Ab R R (Ax T_api_Label.vv R Bp)<|Ab R R (A5 R R R)<|Ad<|Ak hm R (fun h3 hm=>Aj<|Ae<|Az<|Bc 0 mixed<|Av 0 R R R (by kernel_rfl) (Al R)<|Bd hm fun v h4 hm=>Av 1 R R R (by kernel_rfl) (Bh R R h4)<|Av 2 R R R (by kernel_rfl) (Al R)<|Bd hm fun v2 h5 hm=>Av 3 R R R (by kernel_rfl) (Bh R R h5)<|Bd hm fun v3 h6 hm=>Av 4 R R R (by kernel_rfl) (Bh R R h6)<|Au tbk [5,6] [] (by kernel_rfl) R R R<|Bd hm fun x h7 hm=>Av 7 R R R (by kernel_rfl) (A0 T_api_Label.vv R R el27 h7)<|Au tbk [8,9] [] (by kernel_rfl) R R R<|Bd hm fun v4 h8 hm=>Av 10 R R R (by kernel_rfl) (Bh R R h8)<|Bd hm fun v5 h9 hm=>Av 11 R R R (by kernel_rfl) (Bh R R h9)<|Au tbk [12,13] [] (by kernel_rfl) R R R<|Bd hm fun x2 h10 hm=>Av 14 R R R (by kernel_rfl) (A0 T_api_Label.vv R R el27 h10)<|Au tbk [15,16] [] (by kernel_rfl) R R R<|Ao 17 (by kernel_rfl)<|Aq R R R<|Am hm 0 R fn130 R (K23 _) fun r hm=>Bd hm fun v6 h12 hm=>Av 18 R R R (by kernel_rfl) (Bh R R h12)<|Bd hm fun v7 h13 hm=>Av 19 R R R (by kernel_rfl) (Bh R R h13)<|Av 20 R R R (by kernel_rfl) (Ai R)<|A1 (by kernel_rfl)<|A6 tbk [] R R<|Ap (v7,(IntKind.i64.wrap (i2 + (1 : Int)))) () hm (Af [] R R)) fun h3 hm=>A3<|As () hm (Af [] R R)
 exact Ag tbk [] R R<|Rt1 hm R [] R R R

/-! trireme/triremeref07.ops -/
def ref07_ops : Option (List ByteArray) :=
 some [(⟨#[]⟩ : ByteArray), (⟨#[105, 110]⟩ : ByteArray), (⟨#[110, 111, 116, 105, 110]⟩ : ByteArray), (⟨#[101, 120, 105, 115, 116, 115]⟩ : ByteArray), (⟨#[109, 105, 115, 115, 105, 110, 103]⟩ : ByteArray), (⟨#[97, 98, 111, 118, 101]⟩ : ByteArray), (⟨#[98, 101, 108, 111, 119]⟩ : ByteArray)]
theorem K25 : VS Tryz.prog 129 (ref07_ops) [] [] (fun r=>L9 r) N0 := by
 refine A2 [.tmp 0] Tryz.func129 R R R fun r hm=>?_
 unfold ref07_ops at hm
 exact Ag tbk [] R R<|Ah<|Ac R R<|A7 ap51 R R R R R fun b=>Be (Aw 0 [(1,L9 [(⟨#[]⟩ : ByteArray),(⟨#[105,110]⟩ : ByteArray),(⟨#[110,111,116,105,110]⟩ : ByteArray),(⟨#[101,120,105,115,116,115]⟩ : ByteArray),(⟨#[109,105,115,115,105,110,103]⟩ : ByteArray),(⟨#[97,98,111,118,101]⟩ : ByteArray),(⟨#[98,101,108,111,119]⟩ : ByteArray)])] R ⟨⟨_,R,.here _ R⟩,trivial⟩ (FzH.refl _))<|Ab R R (Ai R)<|Ad<|Rt1 hm R [] R R R

/-! trireme/triremeref07.effects -/
def ref07_effects : Option (List ByteArray) :=
 some [(⟨#[97, 110, 121]⟩ : ByteArray), (⟨#[110, 111]⟩ : ByteArray), (⟨#[112, 114, 101, 102, 101, 114]⟩ : ByteArray), (⟨#[111, 117, 116]⟩ : ByteArray)]
theorem K26 : VS Tryz.prog 131 (ref07_effects) [] [] (fun r=>L9 r) N0 := by
 refine A2 [.tmp 0] Tryz.func131 R R R fun r hm=>?_
 unfold ref07_effects at hm
 exact Ag tbk [] R R<|Ah<|Ac R R<|A7 ap51 R R R R R fun b=>Be (Aw 0 [(1,L9 [(⟨#[97,110,121]⟩ : ByteArray),(⟨#[110,111]⟩ : ByteArray),(⟨#[112,114,101,102,101,114]⟩ : ByteArray),(⟨#[111,117,116]⟩ : ByteArray)])] R ⟨⟨_,R,.here _ R⟩,trivial⟩ (FzH.refl _))<|Ab R R (Ai R)<|Ad<|Rt1 hm R [] R R R

/-! trireme/triremeref07.number -/
def ref07_number (name : ByteArray) (n : Int) : Option ByteArray :=
 if (n == 0) = true then
  some (⟨#[]⟩ : ByteArray)
 else
  (V.cat (⟨#[32, 40]⟩ : ByteArray) name).bind fun v =>
  (V.cat v (⟨#[32]⟩ : ByteArray)).bind fun v2 =>
  (ref01_Digits FU n).bind fun r =>
  (V.cat v2 r).bind fun v3 =>
  (V.cat v3 (⟨#[41]⟩ : ByteArray)).bind fun v4 =>
  some v4
theorem K27 (name : ByteArray) (n : Int) : VS Tryz.prog 132 (ref07_number name n) [.str name, Iw n] [] .str N0 := by
 refine A2 [.tmp 4] Tryz.func132 R R R fun r hm=>?_
 unfold ref07_number at hm
 exact Ag tbk [] R R<|Ae<|Ag tbk [] R R<|Ak hm R (fun h1 hm=>Ag tbk [] R R<|Rt1 hm R [] R R R) fun h1 hm=>Aj<|Ah<|Ab R R (Al R)<|Bd hm fun v h2 hm=>Ab R R (Bh R R h2)<|Bd hm fun v2 h3 hm=>Ab R R (Bh R R h3)<|Ab R R (Al R)<|Ac R R<|Am hm 0 R fn61 R (K135 FU _) fun r hm=>Bd hm fun v3 h5 hm=>Ab R R (Bh R R h5)<|Bd hm fun v4 h6 hm=>Ab R R (Bh R R h6)<|Ab R R (Ai R)<|Ad<|Rt1 hm R [] R R R

/-! trireme/triremeref07.flag -/
def ref07_flag (name : ByteArray) (is : Bool) : Option ByteArray :=
 if is = true then
  (V.cat (⟨#[32]⟩ : ByteArray) name).bind fun v =>
  some v
 else
  some (⟨#[]⟩ : ByteArray)
theorem K28 (name : ByteArray) (is : Bool) : VS Tryz.prog 133 (ref07_flag name is) [.str name, .bool is] [] .str N0 := by
 refine A2 [.tmp 4] Tryz.func133 R R R fun r hm=>?_
 unfold ref07_flag at hm
 exact Ag tbk [] R R<|Ae<|Ag tbk [] R R<|Ak hm R (fun h1 hm=>Ah<|Ab R R (Al R)<|Bd hm fun v h2 hm=>Ab R R (Bh R R h2)<|Ab R R (Ai R)<|Ad<|Rt1 hm R [] R R R) fun h1 hm=>Aj<|Ag tbk [] R R<|Rt1 hm R [] R R R

/-! trireme/triremeref07.ShowPod -/
def ref07_ShowPod.l2 (x : T_api_Term) : Nat → ByteArray → Int → Option ByteArray
 | 0, _, _ => none
 | n2 + 1, s5, k2 =>
  if (decide (k2 < (x.Vals.length : Int))) = true then
   (V.cat s5 (⟨#[32]⟩ : ByteArray)).bind fun v18 =>
   (V.gl x.Vals k2).bind fun x3 =>
   (ref07_atom x3).bind fun r10 =>
   (V.cat v18 r10).bind fun v19 =>
   ref07_ShowPod.l2 x n2 v19 (i64.wrap (k2 + 1))
  else
   some s5
def ref07_ShowPod.l1 (p : T_api_Pod) : Nat → ByteArray → Int → Option ByteArray
 | 0, _, _ => none
 | n + 1, s2, i2 =>
  if (decide (i2 < (p.Terms.length : Int))) = true then
   (V.gl p.Terms i2).bind fun x =>
   (V.cat s2 (⟨#[32, 40, 116, 101, 114, 109, 32]⟩ : ByteArray)).bind fun v14 =>
   (V.cat v14 x.Key).bind fun v15 =>
   (V.cat v15 (⟨#[32]⟩ : ByteArray)).bind fun v16 =>
   (ref07_ops).bind fun r9 =>
   (V.gl r9 x.Op).bind fun x2 =>
   (V.cat v16 x2).bind fun v17 =>
   (ref07_ShowPod.l2 x FU v17 (0 : Int)).bind fun s62 =>
   (V.cat s62 (⟨#[41]⟩ : ByteArray)).bind fun v20 =>
   ref07_ShowPod.l1 p n v20 (i64.wrap (i2 + 1))
  else
   some s2
def ref07_ShowPod.l3 (p : T_api_Pod) : Nat → ByteArray → Int → Option ByteArray
 | 0, _, _ => none
 | n3 + 1, s8, i4 =>
  if (decide (i4 < (p.Bears.length : Int))) = true then
   (V.gl p.Bears i4).bind fun x4 =>
   if x4.Any = true then
    (V.cat s8 (⟨#[32, 40, 98, 101, 97, 114, 97, 110, 121, 32]⟩ : ByteArray)).bind fun v21 =>
    (ref07_atom x4.Key).bind fun r11 =>
    (V.cat v21 r11).bind fun v22 =>
    (V.cat v22 (⟨#[32]⟩ : ByteArray)).bind fun v23 =>
    (ref07_effects).bind fun r12 =>
    (V.gl r12 x4.Effect).bind fun x5 =>
    (V.cat v23 x5).bind fun v24 =>
    (V.cat v24 (⟨#[41]⟩ : ByteArray)).bind fun v25 =>
    ref07_ShowPod.l3 p n3 v25 (i64.wrap (i4 + 1))
   else
    (V.cat s8 (⟨#[32, 40, 98, 101, 97, 114, 32]⟩ : ByteArray)).bind fun v26 =>
    (ref07_atom x4.Key).bind fun r13 =>
    (V.cat v26 r13).bind fun v27 =>
    (V.cat v27 (⟨#[32]⟩ : ByteArray)).bind fun v28 =>
    (ref07_atom x4.Val).bind fun r14 =>
    (V.cat v28 r14).bind fun v29 =>
    (V.cat v29 (⟨#[32]⟩ : ByteArray)).bind fun v30 =>
    (ref07_effects).bind fun r15 =>
    (V.gl r15 x4.Effect).bind fun x6 =>
    (V.cat v30 x6).bind fun v31 =>
    (V.cat v31 (⟨#[41]⟩ : ByteArray)).bind fun v32 =>
    ref07_ShowPod.l3 p n3 v32 (i64.wrap (i4 + 1))
  else
   some s8
def ref07_ShowPod.l4 (p : T_api_Pod) : Nat → ByteArray → Int → Option ByteArray
 | 0, _, _ => none
 | n4 + 1, s11, i6 =>
  if (decide (i6 < (p.Ports.length : Int))) = true then
   (V.gl p.Ports i6).bind fun x7 =>
   (ref07_number (⟨#[112, 111, 114, 116]⟩ : ByteArray) x7).bind fun r16 =>
   (V.cat s11 r16).bind fun v33 =>
   ref07_ShowPod.l4 p n4 v33 (i64.wrap (i6 + 1))
  else
   some s11
def ref07_ShowPod (p : T_api_Pod) : Option ByteArray :=
 (ref07_RightPod p).bind fun r =>
 if (!r) = true then
  some (⟨#[]⟩ : ByteArray)
 else
  (V.cat (⟨#[40, 112, 111, 100, 32]⟩ : ByteArray) p.Name).bind fun v =>
  (V.cat v (⟨#[32, 40, 110, 101, 101, 100, 32]⟩ : ByteArray)).bind fun v2 =>
  (ref03_ShowMilli p.Need.Cpu).bind fun r2 =>
  (V.cat v2 r2).bind fun v3 =>
  (V.cat v3 (⟨#[32]⟩ : ByteArray)).bind fun v4 =>
  (ref03_Show p.Need.Mem).bind fun r3 =>
  (V.cat v4 r3).bind fun v5 =>
  (V.cat v5 (⟨#[32]⟩ : ByteArray)).bind fun v6 =>
  (ref03_Show p.Need.Disk).bind fun r4 =>
  (V.cat v6 r4).bind fun v7 =>
  (V.cat v7 (⟨#[32]⟩ : ByteArray)).bind fun v8 =>
  (ref01_Digits FU p.Need.Dev).bind fun r5 =>
  (V.cat v8 r5).bind fun v9 =>
  (V.cat v9 (⟨#[41]⟩ : ByteArray)).bind fun v10 =>
  (ref07_pairs (⟨#[108, 97, 98, 101, 108]⟩ : ByteArray) p.Labels).bind fun r6 =>
  (V.cat v10 r6).bind fun v11 =>
  (ref07_pairs (⟨#[115, 101, 108, 101, 99, 116]⟩ : ByteArray) p.Select).bind fun r7 =>
  (V.cat v11 r7).bind fun v12 =>
  (ref07_pairs (⟨#[97, 112, 97, 114, 116]⟩ : ByteArray) p.Apart).bind fun r8 =>
  (V.cat v12 r8).bind fun v13 =>
  (ref07_ShowPod.l1 p FU v13 (0 : Int)).bind fun s32 =>
  (ref07_ShowPod.l3 p FU s32 (0 : Int)).bind fun s92 =>
  (ref07_ShowPod.l4 p FU s92 (0 : Int)).bind fun s122 =>
  (ref07_number (⟨#[115, 112, 114, 101, 97, 100]⟩ : ByteArray) p.Skew).bind fun r17 =>
  (V.cat s122 r17).bind fun v34 =>
  (ref07_pairs (⟨#[111, 118, 101, 114]⟩ : ByteArray) p.Spread).bind fun r18 =>
  (V.cat v34 r18).bind fun v35 =>
  (ref07_number (⟨#[114, 97, 110, 107]⟩ : ByteArray) p.Rank).bind fun r19 =>
  (V.cat v35 r19).bind fun v36 =>
  if (!(V.seq p.Owner (⟨#[]⟩ : ByteArray))) = true then
   (V.cat v36 (⟨#[32, 40, 111, 119, 110, 101, 114, 32]⟩ : ByteArray)).bind fun v37 =>
   (V.cat v37 p.Owner).bind fun v38 =>
   (V.cat v38 (⟨#[41]⟩ : ByteArray)).bind fun v39 =>
   (ref07_flag (⟨#[119, 105, 100, 101]⟩ : ByteArray) p.Wide).bind fun r20 =>
   (V.cat v39 r20).bind fun v40 =>
   (ref07_flag (⟨#[100, 97, 101, 109, 111, 110]⟩ : ByteArray) p.Daemon).bind fun r21 =>
   (V.cat v40 r21).bind fun v41 =>
   (ref07_flag (⟨#[112, 105, 110, 110, 101, 100]⟩ : ByteArray) p.Pinned).bind fun r22 =>
   (V.cat v41 r22).bind fun v42 =>
   (ref07_flag (⟨#[108, 111, 99, 97, 108]⟩ : ByteArray) p.Local).bind fun r23 =>
   (V.cat v42 r23).bind fun v43 =>
   (V.cat v43 (⟨#[41]⟩ : ByteArray)).bind fun v44 =>
   some v44
  else
   (ref07_flag (⟨#[119, 105, 100, 101]⟩ : ByteArray) p.Wide).bind fun r24 =>
   (V.cat v36 r24).bind fun v45 =>
   (ref07_flag (⟨#[100, 97, 101, 109, 111, 110]⟩ : ByteArray) p.Daemon).bind fun r25 =>
   (V.cat v45 r25).bind fun v46 =>
   (ref07_flag (⟨#[112, 105, 110, 110, 101, 100]⟩ : ByteArray) p.Pinned).bind fun r26 =>
   (V.cat v46 r26).bind fun v47 =>
   (ref07_flag (⟨#[108, 111, 99, 97, 108]⟩ : ByteArray) p.Local).bind fun r27 =>
   (V.cat v47 r27).bind fun v48 =>
   (V.cat v48 (⟨#[41]⟩ : ByteArray)).bind fun v49 =>
   some v49
theorem K29 (p : T_api_Pod) : VS Tryz.prog 99 (ref07_ShowPod p) [T_api_Pod.vv p] [] .str N0 := by
 refine A2 [.tmp 2] Tryz.func99 R R R fun r hm=>?_
 unfold ref07_ShowPod at hm
 refine Ah<|Ac R R<|A9 R R fun b=>Ab R R (Ai R)<|Ad<|Ae<|Ah<|Aa tbk [0] 1 R R<|Ac R R<|Am hm 0 R fn32 R (K59 _) fun r hm=>Ab R R (Cl R)<|Ad<|Ak hm R (fun h3 hm=>Ag tbk [] R R<|Rt1 hm R [] R R R) fun h3 hm=>Aj<|Ae<|Bc 0 mixed<|Au tbk [0,1] [0] (by kernel_rfl) R R R<|Bd hm fun v h4 hm=>Av 2 R R R (by kernel_rfl) (Bh R R h4)<|Bd hm fun v2 h5 hm=>Av 3 R R R (by kernel_rfl) (Bh R R h5)<|Au tbk [4,5,6,10,11,12,16,17,18,22,23,24] [0,0,0,0] (by kernel_rfl) R R R<|Ao 7 (by kernel_rfl)<|Aq R R R<|Am hm 0 R fn126 R (K21 _) fun r2 hm=>Bd hm fun v3 h7 hm=>Av 8 R R R (by kernel_rfl) (Bh R R h7)<|Bd hm fun v4 h8 hm=>Av 9 R R R (by kernel_rfl) (Bh R R h8)<|Ao 13 (by kernel_rfl)<|Aq R R R<|Am hm 0 R fn127 R (K22 _) fun r3 hm=>Bd hm fun v5 h10 hm=>Av 14 R R R (by kernel_rfl) (Bh R R h10)<|Bd hm fun v6 h11 hm=>Av 15 R R R (by kernel_rfl) (Bh R R h11)<|Ao 19 (by kernel_rfl)<|Aq R R R<|Am hm 0 R fn127 R (K22 _) fun r4 hm=>Bd hm fun v7 h13 hm=>Av 20 R R R (by kernel_rfl) (Bh R R h13)<|Bd hm fun v8 h14 hm=>Av 21 R R R (by kernel_rfl) (Bh R R h14)<|Ao 25 (by kernel_rfl)<|Aq R R R<|Am hm 0 R fn61 R (K135 FU _) fun r5 hm=>Bd hm fun v9 h16 hm=>Av 26 R R R (by kernel_rfl) (Bh R R h16)<|Bd hm fun v10 h17 hm=>Av 27 R R R (by kernel_rfl) (Bh R R h17)<|Av 28 R R R (by kernel_rfl) (Ai R)<|A1 (by kernel_rfl)<|Ae<|Bc 0 mixed<|Au tbk [0,1,2,5,6,9,10] [0,0,0] (by kernel_rfl) R R R<|Ao 3 (by kernel_rfl)<|Aq R R R<|Am hm 0 R fn128 R (K24 _ _) fun r6 hm=>Bd hm fun v11 h19 hm=>Av 4 R R R (by kernel_rfl) (Bh R R h19)<|Ao 7 (by kernel_rfl)<|Aq R R R<|Am hm 0 R fn128 R (K24 _ _) fun r7 hm=>Bd hm fun v12 h21 hm=>Av 8 R R R (by kernel_rfl) (Bh R R h21)<|Ao 11 (by kernel_rfl)<|Aq R R R<|Am hm 0 R fn128 R (K24 _ _) fun r8 hm=>Bd hm fun v13 h23 hm=>Av 12 R R R (by kernel_rfl) (Bh R R h23)<|Av 13 R R R (by kernel_rfl) (Ai R)<|A1 (by kernel_rfl)<|Ae<|Ag tbk [] R R<|Bx hm (fun s32 (_:Unit)=>[(1,.ptr b 0),(3,.str s32)]) (fun _ (_:Unit)=>[X48 b p]) (fun o hm=>?_) fun s32 _ hm=> ?_
 ·refine Bm (fun zn (zs:ByteArray × Int)=>ref07_ShowPod.l1 p zn zs.1 zs.2) (fun zs (_:Unit)=>[(1,.ptr b 0),(3,.str zs.1),(4,Iw zs.2)]) (fun _ (_:Unit)=>[X48 b p]) (v13,(0 : Int)) () (fun _=>R) hm (Af [0] R R) fun n=>Pq fun s2 i2 _ hm=> ?_
  rw [ref07_ShowPod.l1] at hm
  refine Ae<|Ah<|Aa tbk [0] 3 R R<|Ab R R (Ax T_api_Term.vv R Ch)<|Ab R R (A5 R R R)<|Ad<|Ak hm R (fun h26 hm=>?_) fun h26 hm=> ?_
  ·refine Aj<|Ae<|Az<|Ah<|Aa tbk [0] 3 R R<|Bd hm fun x h27 hm=>Ab R R (A0 T_api_Term.vv R R el45 h27)<|Ab R R (Bl R ld103 R)<|Ac R R<|Ay z103 fun b2=>Ac R R<|An (i:=0) R R R ld103 R R R<|Ad<|Ae<|Bc 0 mixed<|Av 0 R R R (by kernel_rfl) (Al R)<|Bd hm fun v14 h29 hm=>Av 1 R R R (by kernel_rfl) (Bh R R h29)<|Au tbk [2,3] [0] (by kernel_rfl) R R R<|Bd hm fun v15 h30 hm=>Av 4 R R R (by kernel_rfl) (Bh R R h30)<|Bd hm fun v16 h31 hm=>Av 5 R R R (by kernel_rfl) (Bh R R h31)<|Au tbk [7,8] [0] (by kernel_rfl) R R R<|Ao 6 (by kernel_rfl)<|Aq R R R<|Am hm 0 R fn129 R (K25) fun r9 hm=>Bd hm fun x2 h33 hm=>Av 9 R R R (by kernel_rfl) (A0 VV.str R R el51 h33)<|Av 10 R R R (by kernel_rfl) (Bl R ld9 R)<|Bd hm fun v17 h34 hm=>Av 11 R R R (by kernel_rfl) (Bh R R h34)<|Av 12 R R R (by kernel_rfl) (Ai R)<|A1 (by kernel_rfl)<|Ae<|Ag tbk [] R R<|Bx hm (fun s62 (_:Unit)=>[(1,.ptr b 0),(3,.str s62),(4,Iw i2)]) (fun _ (_:Unit)=>[X48 b p]) (fun o2 hm=>?_) fun s62 _ hm=> ?_
   ·refine Bm (fun zn (zs:ByteArray × Int)=>ref07_ShowPod.l2 x zn zs.1 zs.2) (fun zs (_:Unit)=>[(1,.ptr b 0),(3,.str zs.1),(4,Iw i2),(5,.ptr b2 0),(6,Iw zs.2)]) (fun _ (_:Unit)=>[X103 b2 x,X48 b p]) (v17,(0 : Int)) () (fun _=>R) hm (Af [0,0] R R) fun n2=>Pq fun s5 k2 _ hm=> ?_
    rw [ref07_ShowPod.l2] at hm
    exact Ae<|Ah<|Aa tbk [0] 3 R R<|Ab R R (Ax VV.str R Br)<|Ab R R (A5 R R R)<|Ad<|Ak hm R (fun h37 hm=>Aj<|Ae<|Az<|Bo<|Ab R R (Al R)<|Bd hm fun v18 h38 hm=>Ab R R (Bh R R h38)<|Aa tbk [0] 3 R R<|Bd hm fun x3 h39 hm=>Ab R R (A0 VV.str R R el51 h39)<|Ab R R (Bl R ld9 R)<|Ac R R<|Am hm 0 R fn130 R (K23 _) fun r10 hm=>Bd hm fun v19 h41 hm=>Ab R R (Bh R R h41)<|Ab R R (Ai R)<|Ad<|A6 tbk [] R R<|Ap (v19,(IntKind.i64.wrap (k2 + (1 : Int)))) () hm (Af [0,0] R R)) fun h37 hm=>A3<|As () hm (Af [1] R R)
   exact Bo<|Ab R R (Al R)<|Bd hm fun v20 h42 hm=>Ab R R (Bh R R h42)<|Ab R R (Ai R)<|Ad<|A6 tbk [] R R<|Ap (v20,(IntKind.i64.wrap (i2 + (1 : Int)))) () hm (Af [0] R R)
  exact A3<|As () hm (Af [0] R R)
 refine Ae<|Ag tbk [] R R<|Bx hm (fun s92 (_:Unit)=>[(1,.ptr b 0),(3,.str s92)]) (fun _ (_:Unit)=>[X48 b p]) (fun o3 hm=>?_) fun s92 _ hm=> ?_
 ·refine Bm (fun zn (zs:ByteArray × Int)=>ref07_ShowPod.l3 p zn zs.1 zs.2) (fun zs (_:Unit)=>[(1,.ptr b 0),(3,.str zs.1),(7,Iw zs.2)]) (fun _ (_:Unit)=>[X48 b p]) (s32,(0 : Int)) () (fun _=>R) hm (Af [0] R R) fun n3=>Pq fun s8 i4 _ hm=> ?_
  rw [ref07_ShowPod.l3] at hm
  refine Ae<|Ah<|Aa tbk [0] 3 R R<|Ab R R (Ax T_api_Toleration.vv R Cp)<|Ab R R (A5 R R R)<|Ad<|Ak hm R (fun h45 hm=>?_) fun h45 hm=> ?_
  ·exact Aj<|Ae<|Az<|Ah<|Aa tbk [0] 3 R R<|Bd hm fun x4 h46 hm=>Ab R R (A0 T_api_Toleration.vv R R el46 h46)<|Ab R R (Bl R ld128 R)<|Ac R R<|Ay z128 fun b3=>Ac R R<|An (i:=0) R R R ld128 R R R<|Ad<|Ag tbk [0] R R<|Ak hm R (fun h48 hm=>Bc 0 mixed<|Av 0 R R R (by kernel_rfl) (Al R)<|Bd hm fun v21 h49 hm=>Av 1 R R R (by kernel_rfl) (Bh R R h49)<|Au tbk [2,3,8,9] [0,0] (by kernel_rfl) R R R<|Ao 4 (by kernel_rfl)<|Aq R R R<|Am hm 0 R fn130 R (K23 _) fun r11 hm=>Bd hm fun v22 h51 hm=>Av 5 R R R (by kernel_rfl) (Bh R R h51)<|Bd hm fun v23 h52 hm=>Av 6 R R R (by kernel_rfl) (Bh R R h52)<|Ao 7 (by kernel_rfl)<|Aq R R R<|Am hm 0 R fn131 R (K26) fun r12 hm=>Bd hm fun x5 h54 hm=>Av 10 R R R (by kernel_rfl) (A0 VV.str R R el51 h54)<|Av 11 R R R (by kernel_rfl) (Bl R ld9 R)<|Bd hm fun v24 h55 hm=>Av 12 R R R (by kernel_rfl) (Bh R R h55)<|Bd hm fun v25 h56 hm=>Av 13 R R R (by kernel_rfl) (Bh R R h56)<|Av 14 R R R (by kernel_rfl) (Ai R)<|A1 (by kernel_rfl)<|A6 tbk [] R R<|Ap (v25,(IntKind.i64.wrap (i4 + (1 : Int)))) () hm (Af [1] R R)) fun h48 hm=>Bc 0 mixed<|Av 0 R R R (by kernel_rfl) (Al R)<|Bd hm fun v26 h57 hm=>Av 1 R R R (by kernel_rfl) (Bh R R h57)<|Au tbk [2,3,7,8,13,14] [0,0,0] (by kernel_rfl) R R R<|Ao 4 (by kernel_rfl)<|Aq R R R<|Am hm 0 R fn130 R (K23 _) fun r13 hm=>Bd hm fun v27 h59 hm=>Av 5 R R R (by kernel_rfl) (Bh R R h59)<|Bd hm fun v28 h60 hm=>Av 6 R R R (by kernel_rfl) (Bh R R h60)<|Ao 9 (by kernel_rfl)<|Aq R R R<|Am hm 0 R fn130 R (K23 _) fun r14 hm=>Bd hm fun v29 h62 hm=>Av 10 R R R (by kernel_rfl) (Bh R R h62)<|Bd hm fun v30 h63 hm=>Av 11 R R R (by kernel_rfl) (Bh R R h63)<|Ao 12 (by kernel_rfl)<|Aq R R R<|Am hm 0 R fn131 R (K26) fun r15 hm=>Bd hm fun x6 h65 hm=>Av 15 R R R (by kernel_rfl) (A0 VV.str R R el51 h65)<|Av 16 R R R (by kernel_rfl) (Bl R ld9 R)<|Bd hm fun v31 h66 hm=>Av 17 R R R (by kernel_rfl) (Bh R R h66)<|Bd hm fun v32 h67 hm=>Av 18 R R R (by kernel_rfl) (Bh R R h67)<|Av 19 R R R (by kernel_rfl) (Ai R)<|A1 (by kernel_rfl)<|A6 tbk [] R R<|Ap (v32,(IntKind.i64.wrap (i4 + (1 : Int)))) () hm (Af [1] R R)
  exact A3<|As () hm (Af [0] R R)
 refine Ae<|Ag tbk [] R R<|Bx hm (fun s122 (_:Unit)=>[(1,.ptr b 0),(3,.str s122)]) (fun _ (_:Unit)=>[X48 b p]) (fun o4 hm=>?_) fun s122 _ hm=> ?_
 ·refine Bm (fun zn (zs:ByteArray × Int)=>ref07_ShowPod.l4 p zn zs.1 zs.2) (fun zs (_:Unit)=>[(1,.ptr b 0),(3,.str zs.1),(9,Iw zs.2)]) (fun _ (_:Unit)=>[X48 b p]) (s92,(0 : Int)) () (fun _=>R) hm (Af [0] R R) fun n4=>Pq fun s11 i6 _ hm=> ?_
  rw [ref07_ShowPod.l4] at hm
  exact Ae<|Ah<|Aa tbk [0] 3 R R<|Ab R R (Ax (VV.int .i64) R Bq)<|Ab R R (A5 R R R)<|Ad<|Ak hm R (fun h70 hm=>Aj<|Ae<|Az<|Bo<|Aa tbk [0] 4 R R<|Bd hm fun x7 h71 hm=>Ab R R (A0 (VV.int .i64) R R el41 h71)<|Ab R R (Bl R ld3 R)<|Ac R R<|Am hm 0 R fn132 R (K27 _ _) fun r16 hm=>Bd hm fun v33 h73 hm=>Ab R R (Bh R R h73)<|Ab R R (Ai R)<|Ad<|A6 tbk [] R R<|Ap (v33,(IntKind.i64.wrap (i6 + (1 : Int)))) () hm (Af [0] R R)) fun h70 hm=>A3<|As () hm (Af [0] R R)
 refine Ae<|Bc 0 mixed<|Au tbk [0,1,2,5,6,9,10] [0,0,0] (by kernel_rfl) R R R<|Ao 3 (by kernel_rfl)<|Aq R R R<|Am hm 0 R fn132 R (K27 _ _) fun r17 hm=>Bd hm fun v34 h75 hm=>Av 4 R R R (by kernel_rfl) (Bh R R h75)<|Ao 7 (by kernel_rfl)<|Aq R R R<|Am hm 0 R fn128 R (K24 _ _) fun r18 hm=>Bd hm fun v35 h77 hm=>Av 8 R R R (by kernel_rfl) (Bh R R h77)<|Ao 11 (by kernel_rfl)<|Aq R R R<|Am hm 0 R fn132 R (K27 _ _) fun r19 hm=>Bd hm fun v36 h79 hm=>Av 12 R R R (by kernel_rfl) (Bh R R h79)<|Av 13 R R R (by kernel_rfl) (Ai R)<|A1 (by kernel_rfl)<|Ae<|Ag tbk [0] R R<|Ak hm R (fun h80 hm=>Bo<|Ab R R (Al R)<|Bd hm fun v37 h81 hm=>Ab R R (Bh R R h81)<|Aa tbk [0] 2 R R<|Bd hm fun v38 h82 hm=>Ab R R (Bh R R h82)<|Bd hm fun v39 h83 hm=>Ab R R (Bh R R h83)<|Ab R R (Ai R)<|Ad<|Ae<|Bc 0 mixed<|Au tbk [0,1,2,5,6,9,10,13,14] [0,0,0,0] (by kernel_rfl) R R R<|Ao 3 (by kernel_rfl)<|Aq R R R<|Am hm 0 R fn133 R (K28 _ _) fun r20 hm=>Bd hm fun v40 h85 hm=>Av 4 R R R (by kernel_rfl) (Bh R R h85)<|Ao 7 (by kernel_rfl)<|Aq R R R<|Am hm 0 R fn133 R (K28 _ _) fun r21 hm=>Bd hm fun v41 h87 hm=>Av 8 R R R (by kernel_rfl) (Bh R R h87)<|Ao 11 (by kernel_rfl)<|Aq R R R<|Am hm 0 R fn133 R (K28 _ _) fun r22 hm=>Bd hm fun v42 h89 hm=>Av 12 R R R (by kernel_rfl) (Bh R R h89)<|Ao 15 (by kernel_rfl)<|Aq R R R<|Am hm 0 R fn133 R (K28 _ _) fun r23 hm=>Bd hm fun v43 h91 hm=>Av 16 R R R (by kernel_rfl) (Bh R R h91)<|Bd hm fun v44 h92 hm=>Av 17 R R R (by kernel_rfl) (Bh R R h92)<|Av 18 R R R (by kernel_rfl) (Ai R)<|A1 (by kernel_rfl)<|Rt1 hm R [] R R R) fun h80 hm=>Aj<|Ae<|Bc 0 mixed<|Au tbk [0,1,2,5,6,9,10,13,14] [0,0,0,0] (by kernel_rfl) R R R<|Ao 3 (by kernel_rfl)<|Aq R R R<|Am hm 0 R fn133 R (K28 _ _) fun r24 hm=>Bd hm fun v45 h94 hm=>Av 4 R R R (by kernel_rfl) (Bh R R h94)<|Ao 7 (by kernel_rfl)<|Aq R R R<|Am hm 0 R fn133 R (K28 _ _) fun r25 hm=>Bd hm fun v46 h96 hm=>Av 8 R R R (by kernel_rfl) (Bh R R h96)<|Ao 11 (by kernel_rfl)<|Aq R R R<|Am hm 0 R fn133 R (K28 _ _) fun r26 hm=>Bd hm fun v47 h98 hm=>Av 12 R R R (by kernel_rfl) (Bh R R h98)<|Ao 15 (by kernel_rfl)<|Aq R R R<|Am hm 0 R fn133 R (K28 _ _) fun r27 hm=>Bd hm fun v48 h100 hm=>Av 16 R R R (by kernel_rfl) (Bh R R h100)<|Bd hm fun v49 h101 hm=>Av 17 R R R (by kernel_rfl) (Bh R R h101)<|Av 18 R R R (by kernel_rfl) (Ai R)<|A1 (by kernel_rfl)<|?_
 exact Rt1 hm R [] R R R

/-! trireme/triremeref07.SamePod -/
def ref07_SamePod (a : T_api_Pod) (b : T_api_Pod) : Option Bool :=
 (if (((((V.seq a.Name b.Name) && (((a.Need.Cpu == b.Need.Cpu) && ((a.Need.Mem == b.Need.Mem) && ((a.Need.Disk == b.Need.Disk) && ((a.Need.Pods == b.Need.Pods) && ((a.Need.Dev == b.Need.Dev) && true))))) == true)) && (a.Skew == b.Skew)) && (a.Rank == b.Rank)) && (V.seq a.Owner b.Owner)) = true then (ref07_ShowPod a).bind fun r =>
 (ref07_ShowPod b).bind fun r2 =>
 some (V.seq r r2) else some false).bind fun c =>
 some (((c && ((a.Labels.length : Int) == (b.Labels.length : Int))) && ((a.Terms.length : Int) == (b.Terms.length : Int))) && ((a.Ports.length : Int) == (b.Ports.length : Int)))
theorem K30 (a : T_api_Pod) (b : T_api_Pod) : VS Tryz.prog 65 (ref07_SamePod a b) [T_api_Pod.vv a, T_api_Pod.vv b] [] .bool N0 := by
 refine A2 [.tmp 4] Tryz.func65 R R R fun r hm=>?_
 unfold ref07_SamePod at hm
 refine Ah<|Ac R R<|A9 R R fun b2=>Ac R R<|A9 R R fun b3=>Ab R R (Ai R)<|Ad<|Ae<|Bc 0 mixed<|Au tbk [0,1,2,3,4,5] [1,0] (by kernel_rfl) R R R<|Db [11,10,9,8,7,6,5,4,3,2,1,0] 16 10 R (fun h3 K' J=>Au tbk [6,7,8,9] [1,0] (by kernel_rfl) R R R<|Cc 10 R R R R R R (by kernel_rfl) (Dh shp26 eq26 R R R R)<|Av 11 R R R (by kernel_rfl) (Bg true R R R)<|J 5 R R R) (fun K' J=>Au tbk [6,7,8,9,10,11] [] (by kernel_rfl) R R R<|J 5 R R R)<|Av 12 R R R (by kernel_rfl) (Al R)<|Db [18,17,16,15,14,13,12,11,10,9,8,7,6,5,4,3,2,1,0] 23 17 R (fun h4 K' J=>Au tbk [13,14,15,16,17,18] [1,0] (by kernel_rfl) R R R<|J 5 R R R) (fun K' J=>Au tbk [13,14,15,16,17,18] [] (by kernel_rfl) R R R<|J 5 R R R)<|Av 19 R R R (by kernel_rfl) (Al R)<|Db [25,24,23,22,21,20,19,18,17,16,15,14,13,12,11,10,9,8,7,6,5,4,3,2,1,0] 30 24 R (fun h5 K' J=>Au tbk [20,21,22,23,24,25] [1,0] (by kernel_rfl) R R R<|J 5 R R R) (fun K' J=>Au tbk [20,21,22,23,24,25] [] (by kernel_rfl) R R R<|J 5 R R R)<|Av 26 R R R (by kernel_rfl) (Al R)<|Db [32,31,30,29,28,27,26,25,24,23,22,21,20,19,18,17,16,15,14,13,12,11,10,9,8,7,6,5,4,3,2,1,0] 37 31 R (fun h6 K' J=>Au tbk [27,28,29,30,31,32] [1,0] (by kernel_rfl) R R R<|J 5 R R R) (fun K' J=>Au tbk [27,28,29,30,31,32] [] (by kernel_rfl) R R R<|J 5 R R R)<|Av 33 R R R (by kernel_rfl) (Al R)<|Ct hm [39,38,37,36,35,34,33,32,31,30,29,28,27,26,25,24,23,22,21,20,19,18,17,16,15,14,13,12,11,10,9,8,7,6,5,4,3,2,1,0] 44 38 R (fun _ K' h7 J hm=>Au tbk [34,36] [1,0] (by kernel_rfl) R R R<|Ao 35 (by kernel_rfl)<|Cv R R R R R R<|Am hm 0 R fn99 R (K29 _) fun r hm=>Ao 37 (by kernel_rfl)<|Cv R R R R R R<|Am hm 0 R fn99 R (K29 _) fun r2 hm=>Au tbk [38,39] [] (by kernel_rfl) R R R<|VA.reord [39,38,37,36,35,34,33,32,31,30,29,28,27,26,25,24,23,22,21,20,19,18,17,16,15,14,13,12,11,10,9,8,7,6,5,4,3,2,1,0] (by kernel_rfl) R<|J 5 R R (Bj hm)) (fun _ K' h7 J hm=>Au tbk [34,35,36,37,38,39] [] (by kernel_rfl) R R R<|J 5 R R (Bj hm)) fun c hm=>Av 40 R R R (by kernel_rfl) (Al R)<|Db [48,47,46,45,44,43,42,41,40,39,38,37,36,35,34,33,32,31,30,29,28,27,26,25,24,23,22,21,20,19,18,17,16,15,14,13,12,11,10,9,8,7,6,5,4,3,2,1,0] 53 45 R (fun h11 K' J=>Au tbk [41,42] [1] (by kernel_rfl) R R R<|Cc 43 R R R R R R (by kernel_rfl) (Ax T_api_Label.vv R Bp)<|Au tbk [44,45] [0] (by kernel_rfl) R R R<|Cc 46 R R R R R R (by kernel_rfl) (Ax T_api_Label.vv R Bp)<|Au tbk [47,48] [] (by kernel_rfl) R R R<|J 7 R R R) (fun K' J=>Au tbk [41,42,43,44,45,46,47,48] [] (by kernel_rfl) R R R<|J 7 R R R)<|Av 49 R R R (by kernel_rfl) (Al R)<|?_
 exact Db [57,56,55,54,53,52,51,50,49,48,47,46,45,44,43,42,41,40,39,38,37,36,35,34,33,32,31,30,29,28,27,26,25,24,23,22,21,20,19,18,17,16,15,14,13,12,11,10,9,8,7,6,5,4,3,2,1,0] 62 54 R (fun h12 K' J=>Au tbk [50,51] [1] (by kernel_rfl) R R R<|Cc 52 R R R R R R (by kernel_rfl) (Ax T_api_Term.vv R Ch)<|Au tbk [53,54] [0] (by kernel_rfl) R R R<|Cc 55 R R R R R R (by kernel_rfl) (Ax T_api_Term.vv R Ch)<|Au tbk [56,57] [] (by kernel_rfl) R R R<|J 7 R R R) (fun K' J=>Au tbk [50,51,52,53,54,55,56,57] [] (by kernel_rfl) R R R<|J 7 R R R)<|Av 58 R R R (by kernel_rfl) (Al R)<|Db [66,65,64,63,62,61,60,59,58,57,56,55,54,53,52,51,50,49,48,47,46,45,44,43,42,41,40,39,38,37,36,35,34,33,32,31,30,29,28,27,26,25,24,23,22,21,20,19,18,17,16,15,14,13,12,11,10,9,8,7,6,5,4,3,2,1,0] 71 63 R (fun h13 K' J=>Au tbk [59,60] [1] (by kernel_rfl) R R R<|Cc 61 R R R R R R (by kernel_rfl) (Ax (VV.int .i64) R Bq)<|Au tbk [62,63] [0] (by kernel_rfl) R R R<|Cc 64 R R R R R R (by kernel_rfl) (Ax (VV.int .i64) R Bq)<|Au tbk [65,66] [] (by kernel_rfl) R R R<|J 7 R R R) (fun K' J=>Au tbk [59,60,61,62,63,64,65,66] [] (by kernel_rfl) R R R<|J 7 R R R)<|Av 67 R R R (by kernel_rfl) (Ai R)<|A1 (by kernel_rfl)<|Rt1 hm R [] R R R

/-! trireme/triremeref09.Same -/
def ref09_Same.l1 (ms : List T_api_Machine) (ns : List T_api_Machine) : Nat → Int → Option (Out Bool Unit)
 | 0, _ => none
 | n + 1, i2 =>
  if (decide (i2 < (ms.length : Int))) = true then
   (V.gl ms i2).bind fun x =>
   (V.gl ns i2).bind fun x2 =>
   (ref07_SameMachine x x2).bind fun r =>
   if (!r) = true then
    some (Out.ret false)
   else
    ref09_Same.l1 ms ns n (i64.wrap (i2 + 1))
  else
   some (Out.go ())
def ref09_Same.l2 (bs : List T_api_Bound) (cs : List T_api_Bound) : Nat → Int → Option (Out Bool Unit)
 | 0, _ => none
 | n2 + 1, i4 =>
  if (decide (i4 < (bs.length : Int))) = true then
   (V.gl bs i4).bind fun x3 =>
   (V.gl cs i4).bind fun x4 =>
   (if (!(V.seq x3.On x4.On)) = true then some true else (V.gl bs i4).bind fun x5 =>
   (V.gl cs i4).bind fun x6 =>
   (ref07_SamePod x5.Pod x6.Pod).bind fun r2 =>
   some (!r2)).bind fun c =>
   if c = true then
    some (Out.ret false)
   else
    ref09_Same.l2 bs cs n2 (i64.wrap (i4 + 1))
  else
   some (Out.go ())
def ref09_Same (ms : List T_api_Machine) (bs : List T_api_Bound) (ns : List T_api_Machine) (cs : List T_api_Bound) : Option Bool :=
 if (((ms.length : Int) != (ns.length : Int)) || ((bs.length : Int) != (cs.length : Int))) = true then
  some false
 else
  (ref09_Same.l1 ms ns FU (0 : Int)).bind fun o =>
  o.on fun j =>
  (ref09_Same.l2 bs cs FU (0 : Int)).bind fun o2 =>
  o2.on fun j2 =>
  some true
theorem K31 (ms : List T_api_Machine) (bs : List T_api_Bound) (ns : List T_api_Machine) (cs : List T_api_Bound) : VS Tryz.prog 30 (ref09_Same ms bs ns cs) [L30 ms, L50 bs, L30 ns, L50 cs] [] .bool N0 := by
 refine A2 [.tmp 8] Tryz.func30 R R R fun r hm=>?_
 unfold ref09_Same at hm
 refine Ag tbk [] R R<|Ae<|Ah<|Ab R R (Al R)<|Ab R R (Ax T_api_Machine.vv R Bv)<|Ab R R (Al R)<|Ab R R (Ax T_api_Machine.vv R Bv)<|Aa tbk [] 2 R R<|Cx 6 22 16 R (fun K' J=>Aa tbk [] 6 R R<|J 5 R R R) (fun h1 K' J=>Bk R R R R R (Al R)<|Bk R R R R R (Ax T_api_Bound.vv R Bn)<|Bk R R R R R (Al R)<|Bk R R R R R (Ax T_api_Bound.vv R Bn)<|Aa tbk [] 2 R R<|J 5 R R R)<|Ad<|Ak hm R (fun h2 hm=>Ag tbk [] R R<|Rt1 hm R [] R R R) fun h2 hm=>Aj<|Ae<|Ag tbk [] R R<|Bu hm (fun _ (_:Unit)=>[(1,L50 bs),(3,L50 cs)]) (fun _ (_:Unit)=>[]) (fun o hm h4=>?_) fun j _ hm=> ?_
 ·refine Bm (fun zn (zs:Int)=>ref09_Same.l1 ms ns zn zs) (fun zs (_:Unit)=>[(0,L30 ms),(1,L50 bs),(2,L30 ns),(3,L50 cs),(9,Iw zs)]) (fun _ (_:Unit)=>[]) _ () (fun _=>R) hm (Af [] R R) fun n i2 _ hm=> ?_
  rw [ref09_Same.l1] at hm
  exact Ae<|Ah<|Aa tbk [] 2 R R<|Ab R R (Ax T_api_Machine.vv R Bv)<|Ab R R (A5 R R R)<|Ad<|Ak hm R (fun h5 hm=>Aj<|Ae<|Az<|Ae<|Bc 0 mixed<|Au tbk [0,1] [] (by kernel_rfl) R R R<|Bd hm fun x h6 hm=>Av 2 R R R (by kernel_rfl) (A0 T_api_Machine.vv R R el22 h6)<|Au tbk [3,4,5] [] (by kernel_rfl) R R R<|Bd hm fun x2 h7 hm=>Av 6 R R R (by kernel_rfl) (A0 T_api_Machine.vv R R el22 h7)<|Av 7 R R R (by kernel_rfl) (Bl R ld30 R)<|Ao 8 (by kernel_rfl)<|Aq R R R<|Am hm 0 R fn20 R (K166 _ _) fun r hm=>Av 9 R R R (by kernel_rfl) (Cl R)<|A1 (by kernel_rfl)<|Ak hm R (fun h9 hm=>Ag tbk [] R R<|have hm:=Lr hm h4;Rt1 hm R [] R R R) fun h9 hm=>Aj<|A6 tbk [] R R<|Ap _ () hm (Af [] R R)) fun h5 hm=>A3<|Ar () hm (Af [] R R)
 refine Ae<|Ag tbk [] R R<|Bu hm (fun _ (_:Unit)=>[]) (fun _ (_:Unit)=>[]) (fun o2 hm h11=>?_) fun j2 _ hm=> ?_
 ·refine Bm (fun zn (zs:Int)=>ref09_Same.l2 bs cs zn zs) (fun zs (_:Unit)=>[(1,L50 bs),(3,L50 cs),(10,Iw zs)]) (fun _ (_:Unit)=>[]) _ () (fun _=>R) hm (Af [] R R) fun n2 i4 _ hm=> ?_
  rw [ref09_Same.l2] at hm
  exact Ae<|Ah<|Aa tbk [] 2 R R<|Ab R R (Ax T_api_Bound.vv R Bn)<|Ab R R (A5 R R R)<|Ad<|Ak hm R (fun h12 hm=>Aj<|Ae<|Az<|Ae<|Bc 0 mixed<|Au tbk [0,1] [] (by kernel_rfl) R R R<|Bd hm fun x3 h13 hm=>Av 2 R R R (by kernel_rfl) (A0 T_api_Bound.vv R R el23 h13)<|Au tbk [3,4,5,6] [] (by kernel_rfl) R R R<|Bd hm fun x4 h14 hm=>Av 7 R R R (by kernel_rfl) (A0 T_api_Bound.vv R R el23 h14)<|Au tbk [8,9,10,11] [] (by kernel_rfl) R R R<|Ct hm [24,23,22,21,20,19,18,17,16,15,14,13,12,11,10,9,8,7,6,5,4,3,2,1,0] 69 56 R (fun _ K' h15 J hm=>Au tbk [12,13,14,15,16,17,18,19,20,21,22,23,24] [] (by kernel_rfl) R R R<|J 12 R R (Bj hm)) (fun _ K' h15 J hm=>Au tbk [12,13] [] (by kernel_rfl) R R R<|Bd hm fun x5 h16 hm=>Cc 14 R R R R R R (by kernel_rfl) (A0 T_api_Bound.vv R R el23 h16)<|Au tbk [15,16,17,18] [] (by kernel_rfl) R R R<|Bd hm fun x6 h17 hm=>Cc 19 R R R R R R (by kernel_rfl) (A0 T_api_Bound.vv R R el23 h17)<|Au tbk [20,21] [] (by kernel_rfl) R R R<|Ao 22 (by kernel_rfl)<|Cv R R R R R R<|Am hm 0 R fn65 R (K30 _ _) fun r2 hm=>Au tbk [23,24] [] (by kernel_rfl) R R R<|J 12 R R (Bj hm)) fun c hm=>A1 (by kernel_rfl)<|Ak hm R (fun h20 hm=>Ag tbk [] R R<|have hm:=Lr hm h11;Rt1 hm R [] R R R) fun h20 hm=>Aj<|A6 tbk [] R R<|Ap _ () hm (Af [] R R)) fun h12 hm=>A3<|Ar () hm (Af [] R R)
 exact Ag tbk [] R R<|Rt1 hm R [] R R R

/-! trireme/triremelaw14.SchedSteps -/
def law14_SchedSteps.l1 : Nat → (List T_api_Bound) → Int → Option Unit
 | 0, _, _ => none
 | n + 1, a2, i2 =>
  if (decide (i2 < (a2.length : Int))) = true then
   (V.gl a2 i2).bind fun x =>
   law14_SchedSteps.l1 n (List.set a2 (i2).toNat (⟨x.Pod, (⟨#[115, 112, 111, 105, 108, 116]⟩ : ByteArray)⟩ : T_api_Bound)) (i64.wrap (i2 + 1))
  else
   some ()
def law14_SchedSteps (ms : List T_api_Machine) (bs : List T_api_Bound) : Option Bool :=
 (law14_right ms bs).bind fun r =>
 if (!r) = true then
  (law14_known).bind fun r2 =>
  some r2
 else
  (V.ap 288 [] bs).bind fun l =>
  (sched_Step ms l).bind fun r3 =>
  (ref14_Step ms bs).bind fun r4 =>
  (sched_Order bs).bind fun r9 =>
  (ref14_Order bs).bind fun r10 =>
  (ref02_Ints r9 r10).bind fun r11 =>
  (if r11 = true then (ref09_Same ([] : List T_api_Machine) r3.1 ([] : List T_api_Machine) r4.1).bind fun r12 =>
  some r12 else some false).bind fun c2 =>
  (if c2 = true then (ref14_Moves r3.2 r4.2).bind fun r13 =>
  some r13 else some false).bind fun c3 =>
  (law14_SchedSteps.l1 FU r3.1 (0 : Int)).bind fun j =>
  (if c3 = true then (ref09_Same ([] : List T_api_Machine) l ([] : List T_api_Machine) bs).bind fun r14 =>
  some r14 else some false).bind fun c4 =>
  (if c4 = true then (law14_known).bind fun r15 =>
  some r15 else some false).bind fun c5 =>
  some c5
theorem law14_SchedSteps_ok (ms : List T_api_Machine) (bs : List T_api_Bound) : VS Tryz.prog 5 (law14_SchedSteps ms bs) [L30 ms, L50 bs] [] .bool N0 := by
 refine A2 [.tmp 4] Tryz.func5 R R R fun r hm=>?_
 unfold law14_SchedSteps at hm
 refine Ag tbk [] R R<|Ae<|Ah<|Aa tbk [] 2 R R<|Ac R R<|Am hm 0 R fn24 R (K0 _ _) fun r hm=>Ab R R (Cl R)<|Ad<|Ak hm R (fun h2 hm=>Ah<|Ac R R<|Am hm 0 R fn25 R (K13) fun r2 hm=>Ab R R (Ai R)<|Ad<|Rt1 hm R [] R R R) fun h2 hm=>Aj<|Ah<|Ac R R<|A7 ap23 R R R R R fun b=>Ab R R (Al R)<|Bd hm fun l h5 hm=>Ac R R<|Bz 0 T_api_Bound.vv (l:=[]) (l2:=bs) ap23 R R (sT_list T_api_Bound.vv el23 R R) h5 fun ob cap=>Ab R R (Ai R)<|Ad<|Ah<|Aa tbk [] 2 R R<|Be (Aw 0 [(19,L50 l),(5,L50 l),(22,L50 l)] R ⟨⟨_,R,.here _ R⟩,⟨_,R,.here _ R⟩,⟨_,R,.here _ R⟩,trivial⟩ (FzH.refl _))<|Bd hm fun r3 h6 hm=>Ac R R<|VO.callK 0 R fn26 R (K12 ms l r3 h6) fun _ _ h42=> ?_
 obtain ⟨ob2,cap2,ob3,cap3,rfl,rfl⟩:=h42
 refine Aa tbk [] 5 R R<|Ad<|Ah<|Aa tbk [] 2 R R<|Bd hm fun r4 h9 hm=>Ac R R<|VO.callK 0 R fn27 R (K20 ms bs r4 h9) fun _ _ h41=> ?_
 obtain ⟨ob4,cap4,ob5,cap5,rfl,rfl⟩:=h41
 refine Aa tbk [] 5 R R<|Ad<|Ae<|B6 (Ba (Aw 3 [(25,L53 r3.2),(7,L53 r3.2)] R ⟨⟨_,R,.here _ R⟩,⟨_,R,.here _ R⟩,trivial⟩ (FzH.refl _)) (Aw 1 [(31,L53 r4.2),(9,L53 r4.2)] R ⟨⟨_,R,.here _ R⟩,⟨_,R,.here _ R⟩,trivial⟩ (FzH.refl _)))<|Bo<|Ab R R (Al R)<|Ac R R<|Am hm 0 R fn28 R (K3 _) fun r9 hm=>Ab R R (Al R)<|Ac R R<|B7 hm 0 R fn29 R (K14 _) fun r10 ob7 cap7 hm=>Be (Aw 0 [(35,L3 r10)] R ⟨⟨_,R,.here _ R⟩,trivial⟩ (FzH.refl _))<|Ac R R<|Am hm 0 R fn17 R (K130 _ _) fun r11 hm=>Ab R R (Al R)<|Bf hm 4 41 37 R (fun _ K' h24 J hm=>Aa tbk [] 2 R R<|A8 R R R R R<|Da hm (Ba (Aw 1 [(24,L50 r3.1),(6,L50 r3.1),(38,L50 r3.1)] R ⟨⟨_,R,.here _ R⟩,⟨_,R,.here _ R⟩,⟨_,R,.here _ R⟩,trivial⟩ (FzH.refl _)) (Aw 0 [(30,L50 r4.1),(8,L50 r4.1),(39,L50 r4.1)] R ⟨⟨_,R,.here _ R⟩,⟨_,R,.here _ R⟩,⟨_,R,.here _ R⟩,trivial⟩ (FzH.refl _))) [.nil 30,.same,.nil 30,.same] R fn30 R (K31 _ _ _ _) (fun _=>R) (fun _=>R) fun r12 hm=>Ab R R (Bg true R R R)<|J 3 R R (Bj hm)) (fun _ K' h24 J hm=>Aa tbk [] 4 R R<|J 3 R R (Bj hm)) fun c2 hm=>Ab R R (Al R)<|Bf hm 4 46 42 R (fun _ K' h27 J hm=>Aa tbk [] 2 R R<|A8 R R R R R<|Am hm 0 R fn16 R (K129 _ _) fun r13 hm=>Ab R R (Bg true R R R)<|J 3 R R (Bj hm)) (fun _ K' h27 J hm=>Aa tbk [] 4 R R<|J 3 R R (Bj hm)) fun c3 hm=>Ab R R (Ai R)<|Ad<|Ae<|Ag tbk [] R R<|Bx hm (fun _ (_:Unit)=>[(1,L50 bs),(5,L50 l),(10,.bool c3)]) (fun _ (_:Unit)=>[]) (fun o hm=>?_) fun j _ hm=> ?_
 ·refine Bm (fun zn (zs:List T_api_Bound × Int)=>law14_SchedSteps.l1 zn zs.1 zs.2) (fun zs (zg:Option Nat)=>[(1,L50 bs),(5,L50 l),(6,Z50 zg zs.1 cap2),(10,.bool c3),(11,Iw zs.2)]) (fun zs (zg:Option Nat)=>[Q50 zg cap2 zs.1]) (r3.1,(0 : Int)) _ (fun _=>R) hm (Af [1] R R) fun n=>Pq fun a2 i2 ob9 hm=> ?_
  rw [law14_SchedSteps.l1] at hm
  refine Ae<|Ah<|Aa tbk [] 2 R R<|Ab R R (Cr T_api_Bound.vv R Bn)<|Ab R R (A5 R R R)<|Ad<|Ak hm R (fun h32 hm=>?_) fun h32 hm=> ?_
  ·refine Aj<|Ae<|Az<|Bo<|Aa tbk [] 2 R R<|Bd hm fun x h33 hm=>Ci 0 R (gl_pos T_api_Bound.vv h33) fun b2 h34=> ?_
   subst h34
   exact Ab R R (Cd T_api_Bound.vv R R el23 h33)<|Ab R R (Cz R fa50_1)<|Ac R R<|C7 0 (f:=T_api_Bound.vv) (l:=a2) (q:=x) (q':=(⟨x.Pod,(⟨#[115,112,111,105,108,116]⟩ : ByteArray)⟩ : T_api_Bound)) R R R R h33 ld9 R R R R ⟨R,List.all_eq_true.1 R⟩<|Be (B5 6 (List.map T_api_Bound.vv (List.set a2 (i2).toNat (⟨x.Pod,(⟨#[115,112,111,105,108,116]⟩ : ByteArray)⟩ : T_api_Bound))).length R (len_set _ _ _ _))<|Be (B5 48 (List.map T_api_Bound.vv (List.set a2 (i2).toNat (⟨x.Pod,(⟨#[115,112,111,105,108,116]⟩ : ByteArray)⟩ : T_api_Bound))).length R (len_set _ _ _ _))<|Be (B5 53 (List.map T_api_Bound.vv (List.set a2 (i2).toNat (⟨x.Pod,(⟨#[115,112,111,105,108,116]⟩ : ByteArray)⟩ : T_api_Bound))).length R (len_set _ _ _ _))<|Ad<|A6 tbk [] R R<|Ap ((List.set a2 (i2).toNat (⟨x.Pod,(⟨#[115,112,111,105,108,116]⟩ : ByteArray)⟩ : T_api_Bound)),(IntKind.i64.wrap (i2 + (1 : Int)))) _ hm (Af [0] R R)
  exact A3<|As () hm (Af [] R R)
 exact Ah<|Aa tbk [] 2 R R<|Bf hm 4 62 58 R (fun _ K' h35 J hm=>Aa tbk [] 2 R R<|A8 R R R R R<|VO.cn hm 0 [.nil 30,.same,.nil 30,.same] R fn30 R (K31 _ _ _ _) fun r14 hm=>Ab R R (Bg true R R R)<|J 3 R R (Bj hm)) (fun _ K' h35 J hm=>Aa tbk [] 4 R R<|J 3 R R (Bj hm)) fun c4 hm=>Ab R R (Al R)<|Bf hm 2 65 63 R (fun _ K' h38 J hm=>A8 R R R R R<|Am hm 0 R fn25 R (K13) fun r15 hm=>Ab R R (Bg true R R R)<|J 1 R R (Bj hm)) (fun _ K' h38 J hm=>Aa tbk [] 2 R R<|J 1 R R (Bj hm)) fun c5 hm=>Ab R R (Ai R)<|Ad<|Rt1 hm R [] R R R

end Go.Proofs.YtbkdglcedgiogaaGreat.M

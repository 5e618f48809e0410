/-
  Printed by a program of this session out of the loaded functions: models and their proofs. Own text.
-/
import Derived.Test.YtbgfffdnaijmhaaGreatDWT
namespace Go.Proofs.YtbgfffdnaijmhaaGreat.M
open Go Go.Proofs Go.Proofs.YtbgfffdnaijmhaaGreat.V
open Go.IntKind (i64)
set_option linter.unusedVariables false
set_option maxRecDepth 20000
set_option maxHeartbeats 40000000
/-! trireme/triremeref05.Light -/
def ref05_Light.l1 (l : List T_api_Label) : Nat → Int → Option (Out Bool Unit)
 | 0, _ => none
 | n + 1, i2 =>
  if (decide (i2 < (l.length : Int))) = true then
   (V.gl l i2).bind fun x =>
   (if (decide ((x.Key.size : Int) > 300)) = true then some true else (V.gl l i2).bind fun x2 =>
   some (decide ((x2.Val.size : Int) > 300))).bind fun c =>
   if c = true then
    some (Out.ret false)
   else
    ref05_Light.l1 l n (i64.wrap (i2 + 1))
  else
   some (Out.go ())
def ref05_Light (l : List T_api_Label) : Option Bool :=
 if (decide ((l.length : Int) > 40)) = true then
  some false
 else
  (ref05_Light.l1 l FU (0 : Int)).bind fun o =>
  o.on fun j =>
  some true
theorem K5 (l : List T_api_Label) : VS Tryz.prog 121 (ref05_Light l) [L232 l] [] .bool N0 := by
 refine A8 [.tmp 2] Tryz.func121 R R R fun r hm=>?_
 unfold ref05_Light at hm
 refine Ag tbk [] R R<|Af<|Ae<|Aa R R (Ai R)<|Aa R R (A7 T_api_Label.vv R Cd)<|Aa R R (Br R R R)<|Ac<|Ao hm R (fun h1 hm=>Ag tbk [] R R<|Rt1 hm R [] R R R) fun h1 hm=>Al<|Af<|Ag tbk [] R R<|B5 hm (fun _ (_:Unit)=>[]) (fun _ (_:Unit)=>[]) (fun o hm h3=>?_) fun j _ hm=> ?_
 ·refine Ca (fun zn (zs:Int)=>ref05_Light.l1 l zn zs) (fun zs (_:Unit)=>[(0,L232 l),(3,Iw zs)]) (fun _ (_:Unit)=>[]) _ () (fun _=>R) hm (Ah [] R R) fun n i2 _ hm=> ?_
  rw [ref05_Light.l1] at hm
  exact Af<|Ae<|Ad tbk [] 2 R R<|Aa R R (A7 T_api_Label.vv R Cd)<|Aa R R (Br R R R)<|Ac<|Ao hm R (fun h4 hm=>Al<|Af<|Aw<|Ae<|Ad tbk [] 2 R R<|Bd hm fun x h5 hm=>Aa R R (Bw T_api_Label.vv R R el24 h5)<|Ad tbk [] 2 R R<|Aa R R (Ci R Bc)<|Ad tbk [] 2 R R<|Bx hm 8 28 20 R (fun _ K' h6 J hm=>Ad tbk [] 8 R R<|J 7 R R (Bj hm)) (fun _ K' h6 J hm=>Ad tbk [] 2 R R<|Bd hm fun x2 h7 hm=>Bk R R R R R (Bw T_api_Label.vv R R el24 h7)<|Ad tbk [] 2 R R<|Bk R R R R R (Ci R Bc)<|Ad tbk [] 2 R R<|J 7 R R (Bj hm)) fun c hm=>Ac<|Ao hm R (fun h9 hm=>Ag tbk [] R R<|have hm:=Lr hm h3;Rt1 hm R [] R R R) fun h9 hm=>Al<|Ba tbk [] R R<|Ap _ () hm (Ah [] R R)) fun h4 hm=>A6<|Ar () hm (Ah [] R R)
 exact Ag tbk [] R R<|Rt1 hm R [] R R R

/-! trireme/triremeref06.Light -/
def ref06_Light.l1 (l : List T_api_Toleration) : Nat → Int → Option (Out Bool Unit)
 | 0, _ => none
 | n + 1, i2 =>
  if (decide (i2 < (l.length : Int))) = true then
   (V.gl l i2).bind fun x =>
   (if (decide ((x.Key.size : Int) > 300)) = true then some true else (V.gl l i2).bind fun x2 =>
   some (decide ((x2.Val.size : Int) > 300))).bind fun c =>
   if c = true then
    some (Out.ret false)
   else
    ref06_Light.l1 l n (i64.wrap (i2 + 1))
  else
   some (Out.go ())
def ref06_Light.l2 (taints : List T_api_Taint) : Nat → Int → Option (Out Bool Unit)
 | 0, _ => none
 | n2 + 1, i4 =>
  if (decide (i4 < (taints.length : Int))) = true then
   (V.gl taints i4).bind fun x3 =>
   (if (decide ((x3.Key.size : Int) > 300)) = true then some true else (V.gl taints i4).bind fun x4 =>
   some (decide ((x4.Val.size : Int) > 300))).bind fun c2 =>
   if c2 = true then
    some (Out.ret false)
   else
    ref06_Light.l2 taints n2 (i64.wrap (i4 + 1))
  else
   some (Out.go ())
def ref06_Light (l : List T_api_Toleration) (taints : List T_api_Taint) : Option Bool :=
 if ((decide ((l.length : Int) > 40)) || (decide ((taints.length : Int) > 40))) = true then
  some false
 else
  (ref06_Light.l1 l FU (0 : Int)).bind fun o =>
  o.on fun j =>
  (ref06_Light.l2 taints FU (0 : Int)).bind fun o2 =>
  o2.on fun j2 =>
  some true
theorem K6 (l : List T_api_Toleration) (taints : List T_api_Taint) : VS Tryz.prog 57 (ref06_Light l taints) [L191 l, L31 taints] [] .bool N0 := by
 refine A8 [.tmp 4] Tryz.func57 R R R fun r hm=>?_
 unfold ref06_Light at hm
 refine Ag tbk [] R R<|Af<|Ae<|Aa R R (Ai R)<|Aa R R (A7 T_api_Toleration.vv R Db)<|Ad tbk [] 2 R R<|C0 4 14 10 R (fun K' J=>Ad tbk [] 4 R R<|J 3 R R R) (fun h1 K' J=>Bk R R R R R (Ai R)<|Bk R R R R R (A7 T_api_Taint.vv R Ch)<|Ad tbk [] 2 R R<|J 3 R R R)<|Ac<|Ao hm R (fun h2 hm=>Ag tbk [] R R<|Rt1 hm R [] R R R) fun h2 hm=>Al<|Af<|Ag tbk [] R R<|B5 hm (fun _ (_:Unit)=>[(1,L31 taints)]) (fun _ (_:Unit)=>[]) (fun o hm h4=>?_) fun j _ hm=> ?_
 ·refine Ca (fun zn (zs:Int)=>ref06_Light.l1 l zn zs) (fun zs (_:Unit)=>[(0,L191 l),(1,L31 taints),(5,Iw zs)]) (fun _ (_:Unit)=>[]) _ () (fun _=>R) hm (Ah [] R R) fun n i2 _ hm=> ?_
  rw [ref06_Light.l1] at hm
  exact Af<|Ae<|Ad tbk [] 2 R R<|Aa R R (A7 T_api_Toleration.vv R Db)<|Aa R R (Br R R R)<|Ac<|Ao hm R (fun h5 hm=>Al<|Af<|Aw<|Ae<|Ad tbk [] 2 R R<|Bd hm fun x h6 hm=>Aa R R (Bw T_api_Toleration.vv R R el26 h6)<|Ad tbk [] 2 R R<|Aa R R (Ci R Bc)<|Ad tbk [] 2 R R<|Bx hm 8 36 28 R (fun _ K' h7 J hm=>Ad tbk [] 8 R R<|J 7 R R (Bj hm)) (fun _ K' h7 J hm=>Ad tbk [] 2 R R<|Bd hm fun x2 h8 hm=>Bk R R R R R (Bw T_api_Toleration.vv R R el26 h8)<|Ad tbk [] 2 R R<|Bk R R R R R (Ci R Bc)<|Ad tbk [] 2 R R<|J 7 R R (Bj hm)) fun c hm=>Ac<|Ao hm R (fun h10 hm=>Ag tbk [] R R<|have hm:=Lr hm h4;Rt1 hm R [] R R R) fun h10 hm=>Al<|Ba tbk [] R R<|Ap _ () hm (Ah [] R R)) fun h5 hm=>A6<|Ar () hm (Ah [] R R)
 refine Af<|Ag tbk [] R R<|B5 hm (fun _ (_:Unit)=>[]) (fun _ (_:Unit)=>[]) (fun o2 hm h12=>?_) fun j2 _ hm=> ?_
 ·refine Ca (fun zn (zs:Int)=>ref06_Light.l2 taints zn zs) (fun zs (_:Unit)=>[(1,L31 taints),(6,Iw zs)]) (fun _ (_:Unit)=>[]) _ () (fun _=>R) hm (Ah [] R R) fun n2 i4 _ hm=> ?_
  rw [ref06_Light.l2] at hm
  exact Af<|Ae<|Ad tbk [] 2 R R<|Aa R R (A7 T_api_Taint.vv R Ch)<|Aa R R (Br R R R)<|Ac<|Ao hm R (fun h13 hm=>Al<|Af<|Aw<|Ae<|Ad tbk [] 2 R R<|Bd hm fun x3 h14 hm=>Aa R R (Bw T_api_Taint.vv R R el66 h14)<|Ad tbk [] 2 R R<|Aa R R (Ci R Bc)<|Ad tbk [] 2 R R<|Bx hm 8 58 50 R (fun _ K' h15 J hm=>Ad tbk [] 8 R R<|J 7 R R (Bj hm)) (fun _ K' h15 J hm=>Ad tbk [] 2 R R<|Bd hm fun x4 h16 hm=>Bk R R R R R (Bw T_api_Taint.vv R R el66 h16)<|Ad tbk [] 2 R R<|Bk R R R R R (Ci R Bc)<|Ad tbk [] 2 R R<|J 7 R R (Bj hm)) fun c2 hm=>Ac<|Ao hm R (fun h18 hm=>Ag tbk [] R R<|have hm:=Lr hm h12;Rt1 hm R [] R R R) fun h18 hm=>Al<|Ba tbk [] R R<|Ap _ () hm (Ah [] R R)) fun h13 hm=>A6<|Ar () hm (Ah [] R R)
 exact Ag tbk [] R R<|Rt1 hm R [] R R R

/-! trireme/triremeref07.LightMachine -/
def ref07_LightMachine (m : T_api_Machine) : Option Bool :=
 (if ((decide ((m.Name.size : Int) ≤ 300)) && (decide ((m.Group.size : Int) ≤ 300))) = true then (ref05_Light m.Labels).bind fun r =>
 some r else some false).bind fun c =>
 (if c = true then (ref06_Light ([] : List T_api_Toleration) m.Taints).bind fun r2 =>
 some r2 else some false).bind fun c2 =>
 some c2
theorem K7 (m : T_api_Machine) : VS Tryz.prog 157 (ref07_LightMachine m) [T_api_Machine.vv m] [] .bool N0 := by
 refine A8 [.tmp 2] Tryz.func157 R R R fun r hm=>?_
 unfold ref07_LightMachine at hm
 exact Ae<|Ab R R<|Bg R R fun b=>Aa R R (Aj R)<|Ac<|Ae<|Ad tbk [0] 2 R R<|Aa R R (Ci R Bc)<|Ad tbk [] 2 R R<|D0 5 12 7 R (fun h2 K' J=>Ad tbk [0] 2 R R<|Bk R R R R R (Ci R Bc)<|Ad tbk [] 2 R R<|J 4 R R R) (fun K' J=>Ad tbk [] 5 R R<|J 4 R R R)<|Aa R R (Ai R)<|Bx hm 4 17 13 R (fun _ K' h3 J hm=>Ad tbk [0] 2 R R<|Bh R R R R R<|Ay hm 0 R fn121 R (K5 _) fun r hm=>Aa R R (Bs true R R R)<|J 3 R R (Bj hm)) (fun _ K' h3 J hm=>Ad tbk [] 4 R R<|J 3 R R (Bj hm)) fun c hm=>Aa R R (Ai R)<|Bx hm 4 22 18 R (fun _ K' h6 J hm=>Ad tbk [0] 2 R R<|Bh R R R R R<|VO.cn hm 0 [.nil 191,.same] R fn57 R (K6 _ _) fun r2 hm=>Aa R R (Bs true R R R)<|J 3 R R (Bj hm)) (fun _ K' h6 J hm=>Ad tbk [] 4 R R<|J 3 R R (Bj hm)) fun c2 hm=>Aa R R (Aj R)<|Ac<|Rt1 hm R [] R R R

/-! trireme/triremeref16.Light -/
def ref16_Light.l1 (l : List T_api_Group) : Nat → Int → Option (Out Bool Unit)
 | 0, _ => none
 | n + 1, i2 =>
  if (decide (i2 < (l.length : Int))) = true then
   (V.gl l i2).bind fun x =>
   (if (decide ((x.Name.size : Int) > 300)) = true then some true else (V.gl l i2).bind fun x2 =>
   (ref07_LightMachine x2.Like).bind fun r =>
   some (!r)).bind fun c =>
   if c = true then
    some (Out.ret false)
   else
    ref16_Light.l1 l n (i64.wrap (i2 + 1))
  else
   some (Out.go ())
def ref16_Light (l : List T_api_Group) : Option Bool :=
 if (decide ((l.length : Int) > 20)) = true then
  some false
 else
  (ref16_Light.l1 l FU (0 : Int)).bind fun o =>
  o.on fun j =>
  some true
theorem K8 (l : List T_api_Group) : VS Tryz.prog 88 (ref16_Light l) [L139 l] [] .bool N0 := by
 refine A8 [.tmp 2] Tryz.func88 R R R fun r hm=>?_
 unfold ref16_Light at hm
 refine Ag tbk [] R R<|Af<|Ae<|Aa R R (Ai R)<|Aa R R (A7 T_api_Group.vv R Ck)<|Aa R R (Br R R R)<|Ac<|Ao hm R (fun h1 hm=>Ag tbk [] R R<|Rt1 hm R [] R R R) fun h1 hm=>Al<|Af<|Ag tbk [] R R<|B5 hm (fun _ (_:Unit)=>[]) (fun _ (_:Unit)=>[]) (fun o hm h3=>?_) fun j _ hm=> ?_
 ·refine Ca (fun zn (zs:Int)=>ref16_Light.l1 l zn zs) (fun zs (_:Unit)=>[(0,L139 l),(3,Iw zs)]) (fun _ (_:Unit)=>[]) _ () (fun _=>R) hm (Ah [] R R) fun n i2 _ hm=> ?_
  rw [ref16_Light.l1] at hm
  exact Af<|Ae<|Ad tbk [] 2 R R<|Aa R R (A7 T_api_Group.vv R Ck)<|Aa R R (Br R R R)<|Ac<|Ao hm R (fun h4 hm=>Al<|Af<|Aw<|Ae<|Ad tbk [] 2 R R<|Bd hm fun x h5 hm=>Aa R R (Bw T_api_Group.vv R R el37 h5)<|Ad tbk [] 2 R R<|Aa R R (Ci R Bc)<|Ad tbk [] 2 R R<|Bx hm 8 28 20 R (fun _ K' h6 J hm=>Ad tbk [] 8 R R<|J 7 R R (Bj hm)) (fun _ K' h6 J hm=>Ad tbk [] 2 R R<|Bd hm fun x2 h7 hm=>Bk R R R R R (Bw T_api_Group.vv R R el37 h7)<|Ad tbk [] 2 R R<|Bh R R R R R<|Ay hm 0 R fn157 R (K7 _) fun r hm=>Ad tbk [] 2 R R<|J 7 R R (Bj hm)) fun c hm=>Ac<|Ao hm R (fun h10 hm=>Ag tbk [] R R<|have hm:=Lr hm h3;Rt1 hm R [] R R R) fun h10 hm=>Al<|Ba tbk [] R R<|Ap _ () hm (Ah [] R R)) fun h4 hm=>A6<|Ar () hm (Ah [] R R)
 exact Ag tbk [] R R<|Rt1 hm R [] R R R

/-! trireme/triremeref15.Light -/
def ref15_Light.l1 (l : List T_api_Budget) : Nat → Int → Option (Out Bool Unit)
 | 0, _ => none
 | n + 1, i2 =>
  if (decide (i2 < (l.length : Int))) = true then
   (V.gl l i2).bind fun x =>
   (if (decide ((x.Name.size : Int) > 300)) = true then some true else (V.gl l i2).bind fun x2 =>
   (ref05_Light x2.Match).bind fun r =>
   some (!r)).bind fun c =>
   if c = true then
    some (Out.ret false)
   else
    ref15_Light.l1 l n (i64.wrap (i2 + 1))
  else
   some (Out.go ())
def ref15_Light (l : List T_api_Budget) : Option Bool :=
 if (decide ((l.length : Int) > 30)) = true then
  some false
 else
  (ref15_Light.l1 l FU (0 : Int)).bind fun o =>
  o.on fun j =>
  some true
theorem K9 (l : List T_api_Budget) : VS Tryz.prog 89 (ref15_Light l) [L103 l] [] .bool N0 := by
 refine A8 [.tmp 2] Tryz.func89 R R R fun r hm=>?_
 unfold ref15_Light at hm
 refine Ag tbk [] R R<|Af<|Ae<|Aa R R (Ai R)<|Aa R R (A7 T_api_Budget.vv R Cw)<|Aa R R (Br R R R)<|Ac<|Ao hm R (fun h1 hm=>Ag tbk [] R R<|Rt1 hm R [] R R R) fun h1 hm=>Al<|Af<|Ag tbk [] R R<|B5 hm (fun _ (_:Unit)=>[]) (fun _ (_:Unit)=>[]) (fun o hm h3=>?_) fun j _ hm=> ?_
 ·refine Ca (fun zn (zs:Int)=>ref15_Light.l1 l zn zs) (fun zs (_:Unit)=>[(0,L103 l),(3,Iw zs)]) (fun _ (_:Unit)=>[]) _ () (fun _=>R) hm (Ah [] R R) fun n i2 _ hm=> ?_
  rw [ref15_Light.l1] at hm
  exact Af<|Ae<|Ad tbk [] 2 R R<|Aa R R (A7 T_api_Budget.vv R Cw)<|Aa R R (Br R R R)<|Ac<|Ao hm R (fun h4 hm=>Al<|Af<|Aw<|Ae<|Ad tbk [] 2 R R<|Bd hm fun x h5 hm=>Aa R R (Bw T_api_Budget.vv R R el38 h5)<|Ad tbk [] 2 R R<|Aa R R (Ci R Bc)<|Ad tbk [] 2 R R<|Bx hm 8 28 20 R (fun _ K' h6 J hm=>Ad tbk [] 8 R R<|J 7 R R (Bj hm)) (fun _ K' h6 J hm=>Ad tbk [] 2 R R<|Bd hm fun x2 h7 hm=>Bk R R R R R (Bw T_api_Budget.vv R R el38 h7)<|Ad tbk [] 2 R R<|Bh R R R R R<|Ay hm 0 R fn121 R (K5 _) fun r hm=>Ad tbk [] 2 R R<|J 7 R R (Bj hm)) fun c hm=>Ac<|Ao hm R (fun h10 hm=>Ag tbk [] R R<|have hm:=Lr hm h3;Rt1 hm R [] R R R) fun h10 hm=>Al<|Ba tbk [] R R<|Ap _ () hm (Ah [] R R)) fun h4 hm=>A6<|Ar () hm (Ah [] R R)
 exact Ag tbk [] R R<|Rt1 hm R [] R R R

/-! trireme/triremelaw28.light -/
def law28_light.l1 (c : T_law28_Case) : Nat → Int → Option (Out Bool Unit)
 | 0, _ => none
 | n + 1, i2 =>
  if (decide (i2 < (c.G.length : Int))) = true then
   (V.gl c.G i2).bind fun x =>
   if (decide (x.Min > 6)) = true then
    some (Out.ret false)
   else
    law28_light.l1 c n (i64.wrap (i2 + 1))
  else
   some (Out.go ())
def law28_light (c : T_law28_Case) : Option Bool :=
 (ref16_Light c.G).bind fun r =>
 (if (!r) = true then some true else (ref15_Light c.B).bind fun r2 =>
 some (!r2)).bind fun c2 =>
 if (c2 || (decide ((c.G.length : Int) > 4))) = true then
  some false
 else
  (law28_light.l1 c FU (0 : Int)).bind fun o =>
  o.on fun j =>
  some true
theorem K10 (c : T_law28_Case) : VS Tryz.prog 36 (law28_light c) [T_law28_Case.vv c] [] .bool N0 := by
 refine A8 [.tmp 2] Tryz.func36 R R R fun r hm=>?_
 unfold law28_light at hm
 refine Ae<|Ab R R<|Bg R R fun b=>Aa R R (Aj R)<|Ac<|Af<|Ae<|Ad tbk [0] 2 R R<|Ab R R<|Ay hm 0 R fn88 R (K8 _) fun r hm=>Ad tbk [] 2 R R<|Bx hm 5 13 8 R (fun _ K' h3 J hm=>Ad tbk [] 5 R R<|J 4 R R (Bj hm)) (fun _ K' h3 J hm=>Ad tbk [0] 2 R R<|Bh R R R R R<|Ay hm 0 R fn89 R (K9 _) fun r2 hm=>Ad tbk [] 2 R R<|J 4 R R (Bj hm)) fun c2 hm=>Aa R R (Ai R)<|C0 5 19 14 R (fun K' J=>Ad tbk [] 5 R R<|J 4 R R R) (fun h6 K' J=>Ad tbk [0] 2 R R<|Bk R R R R R (A7 T_api_Group.vv R Ck)<|Ad tbk [] 2 R R<|J 4 R R R)<|Ac<|Ao hm R (fun h7 hm=>Ag tbk [] R R<|Rt1 hm R [] R R R) fun h7 hm=>Al<|Af<|Ag tbk [] R R<|B5 hm (fun _ (_:Unit)=>[]) (fun _ (_:Unit)=>[]) (fun o hm h9=>?_) fun j _ hm=> ?_
 ·refine Ca (fun zn (zs:Int)=>law28_light.l1 c zn zs) (fun zs (_:Unit)=>[(1,.ptr b 0),(3,Iw zs)]) (fun _ (_:Unit)=>[X89 b c]) _ () (fun _=>R) hm (Ah [0] R R) fun n i2 _ hm=> ?_
  rw [law28_light.l1] at hm
  exact Af<|Ae<|Ad tbk [0] 3 R R<|Aa R R (A7 T_api_Group.vv R Ck)<|Aa R R (Br R R R)<|Ac<|Ao hm R (fun h10 hm=>Al<|Af<|Aw<|Ae<|Ad tbk [0] 3 R R<|Bd hm fun x h11 hm=>Aa R R (Bw T_api_Group.vv R R el37 h11)<|Ad tbk [] 3 R R<|Ac<|Ao hm R (fun h12 hm=>Ag tbk [] R R<|have hm:=Lr hm h9;Rt1 hm R [] R R R) fun h12 hm=>Al<|Ba tbk [] R R<|Ap _ () hm (Ah [0] R R)) fun h10 hm=>A6<|Ar () hm (Ah [] R R)
 exact Ag tbk [] R R<|Rt1 hm R [] R R R

/-! trireme/lex.right -/
def lex_right (s : ByteArray) (i : Int) (c : Int) : Option Bool :=
 (if (c != 65533) = true then some true else (if (decide ((i64.wrap (i + 2)) < (s.size : Int))) = true then (V.gi s i).bind fun v =>
 some (v == 239) else some false).bind fun c2 =>
 (if c2 = true then (V.gi s (i64.wrap (i + 1))).bind fun v2 =>
 some (v2 == 191) else some false).bind fun c3 =>
 (if c3 = true then (V.gi s (i64.wrap (i + 2))).bind fun v3 =>
 some (v3 == 189) else some false).bind fun c4 =>
 some c4).bind fun c5 =>
 some c5
theorem K11 (s : ByteArray) (i : Int) (c : Int) : VS Tryz.prog 223 (lex_right s i c) [.str s, Iw i, .int .i32 c] [] .bool N0 := by
 refine A8 [.tmp 6] Tryz.func223 R R R fun r hm=>?_
 unfold lex_right at hm
 exact Ag tbk [] R R<|Ae<|Ad tbk [] 3 R R<|Bx hm 26 35 9 R (fun _ K' h1 J hm=>Ad tbk [] 26 R R<|J 25 R R (Bj hm)) (fun _ K' h1 J hm=>Ad tbk [] 3 R R<|Bk R R R R R (Ci R Bc)<|Ad tbk [] 2 R R<|Bx hm 5 20 15 R (fun _ K' h2 J hm=>Ad tbk [] 2 R R<|Bd hm fun v h3 hm=>Bk R R R R R (Dr R R Bc h3)<|Ad tbk [] 2 R R<|J 4 R R (Bj hm)) (fun _ K' h2 J hm=>Ad tbk [] 5 R R<|J 4 R R (Bj hm)) fun c2 hm=>Bk R R R R R (Ai R)<|Bx hm 6 27 21 R (fun _ K' h5 J hm=>Ad tbk [] 3 R R<|Bd hm fun v2 h6 hm=>Bk R R R R R (Dr R R Bc h6)<|Ad tbk [] 2 R R<|J 5 R R (Bj hm)) (fun _ K' h5 J hm=>Ad tbk [] 6 R R<|J 5 R R (Bj hm)) fun c3 hm=>Bk R R R R R (Ai R)<|Bx hm 6 34 28 R (fun _ K' h8 J hm=>Ad tbk [] 3 R R<|Bd hm fun v3 h9 hm=>Bk R R R R R (Dr R R Bc h9)<|Ad tbk [] 2 R R<|J 5 R R (Bj hm)) (fun _ K' h8 J hm=>Ad tbk [] 6 R R<|J 5 R R (Bj hm)) fun c4 hm=>Aa R R (Bs false R R R)<|J 11 R R (Bj hm)) fun c5 hm=>Aa R R (Aj R)<|Ac<|Rt1 hm R [] R R R

/-! trireme/lex.plain -/
def lex_plain (c : Int) : Option Bool :=
 (if (c == 40) = true then
  some (c == 40)
 else
  if (c == 41) = true then
   some (c == 41)
  else
   if (c == 34) = true then
    some (c == 34)
   else
    if (c == 59) = true then
     some (c == 59)
    else
     some (c == 127)).bind fun v2 =>
 if v2 = true then
  some false
 else
  some (decide (c > 32))
theorem K12 (c : Int) : VS Tryz.prog 188 (lex_plain c) [.int .i32 c] [] .bool N0 := by
 refine A8 [.tmp 2] Tryz.func188 R R R fun r hm=>?_
 unfold lex_plain at hm
 exact Ag tbk [] R R<|Af<|Ag tbk [] R R<|Aw<|Dq hm (fun v2 (_:Unit)=>[(0,.int .i32 c),(4,.bool v2)]) (fun _ (_:Unit)=>[]) (fun o hm=>Ag tbk [] R R<|Ao hm R (fun h3 hm=>Al<|As () hm (Ah [] R R)) fun h3 hm=>Ag tbk [] R R<|Ao hm R (fun h4 hm=>Al<|As () hm (Ah [] R R)) fun h4 hm=>Ag tbk [] R R<|Ao hm R (fun h5 hm=>Al<|As () hm (Ah [] R R)) fun h5 hm=>Ag tbk [] R R<|Ao hm R (fun h6 hm=>Al<|As () hm (Ah [] R R)) fun h6 hm=>Ba tbk [] R R<|As () hm (Ah [] R R)) fun v2 _ hm=>Ao hm R (fun h7 hm=>Ag tbk [] R R<|Rt1 hm R [] R R R) fun h7 hm=>Al<|Ag tbk [] R R<|Rt1 hm R [] R R R

/-! trireme/lex.head -/
def lex_head_lex_plain.l1 (s : ByteArray) : Nat → Nat → Option (Out (Int × Bool) Unit)
 | 0, _ => none
 | n + 1, pos2 =>
  if pos2 < s.size then
   (lex_right s (pos2 : Int) ((Utf8.decode s pos2).1 : Int)).bind fun r =>
   if (!r) = true then
    some (Out.ret ((pos2 : Int), false))
   else
    (lex_plain ((Utf8.decode s pos2).1 : Int)).bind fun r2 =>
    if (!r2) = true then
     some (Out.ret ((pos2 : Int), true))
    else
     lex_head_lex_plain.l1 s n (pos2 + (Utf8.decode s pos2).2)
  else
   some (Out.go ())
def lex_head_lex_plain (s : ByteArray) : Option (Int × Bool) :=
 (lex_head_lex_plain.l1 s FU 0).bind fun o =>
 o.on fun j =>
 some ((s.size : Int), true)
theorem K13 (s : ByteArray) : VS Tryz.prog 187 (lex_head_lex_plain s) [.str s, .clo (.func 188) [] []] [] (fun r=>.tup [Iw r.1, .bool r.2]) N0 := by
 refine A8 [.tmp 4,.tmp 5] Tryz.func187 R R R fun r hm=>?_
 unfold lex_head_lex_plain at hm
 refine Ag tbk [] R R<|Af<|Ae<|Aa R R (Ai R)<|Ab R R<|VO.range Bc R fun b=>Ac<|B5 hm (fun _ (_:Unit)=>[(0,.str s)]) (fun _ (_:Unit)=>[]) (fun o hm h3=>?_) fun j _ hm=> ?_
 ·refine Ca (fun zn (zs:Nat)=>lex_head_lex_plain.l1 s zn zs) (fun _ (_:Unit)=>[(0,.str s),(1,.clo (.func 188) [] []),(9,.ptr b 0)]) (fun zs (_:Unit)=>[.iter b s zs]) _ () (fun _=>R) hm (Ah [0] R R) fun n pos2 _ hm=> ?_
  rw [lex_head_lex_plain.l1] at hm
  exact Ae<|Ab R R<|VO.nx hm 0 R R (fun h4 hm=>Aa R R (D2 R R)<|Ac<|Af<|Bl R R<|Al<|Aw<|Ag tbk [] R R<|Af<|Ae<|Ad tbk [] 3 R R<|Ab R R<|Ay hm 0 R fn223 R (K11 _ _ _) fun r hm=>Aa R R (Cp R)<|Ac<|Ao hm R (fun h6 hm=>Ag tbk [] R R<|have hm:=Lr hm h3;Rt2 hm R [] R R R R) fun h6 hm=>Al<|Ae<|Ad tbk [] 2 R R<|Ab R R<|Ay hm 0 R fn188 R (K12 _) fun r2 hm=>Aa R R (Cp R)<|Ac<|Ao hm R (fun h8 hm=>Ag tbk [] R R<|have hm:=Lr hm h3;Rt2 hm R [] R R R R) fun h8 hm=>Al<|Ap _ () hm (Ah [0] R R)) fun h4 hm=>Aa R R (D2 R R)<|Ac<|Af<|Bm R R<|A6<|Ar () hm (Ah [] R R)
 exact Ae<|Aa R R (Ai R)<|Aa R R (Ci R Bc)<|Ad tbk [] 2 R R<|Ac<|Rt2 hm R [] R R R R

/-! trireme/lex.Runes -/
def lex_Runes.l1 (s : ByteArray) : Nat → Int → Nat → Option (Out Int Int)
 | 0, _, _ => none
 | n4 + 1, n2, pos2 =>
  if pos2 < s.size then
   (lex_right s (pos2 : Int) ((Utf8.decode s pos2).1 : Int)).bind fun r =>
   if (!r) = true then
    some (Out.ret (-1))
   else
    lex_Runes.l1 s n4 (i64.wrap (n2 + 1)) (pos2 + (Utf8.decode s pos2).2)
  else
   some (Out.go n2)
def lex_Runes (s : ByteArray) : Option Int :=
 (lex_Runes.l1 s FU 0 0).bind fun o =>
 o.on fun n32 =>
 some n32
theorem K14 (s : ByteArray) : VS Tryz.prog 189 (lex_Runes s) [.str s] [] Iw N0 := by
 refine A8 [.tmp 2] Tryz.func189 R R R fun r hm=>?_
 unfold lex_Runes at hm
 refine Ag tbk [] R R<|Ag tbk [] R R<|Af<|Ae<|Aa R R (Ai R)<|Ab R R<|VO.range Bc R fun b=>Ac<|B5 hm (fun n32 (_:Unit)=>[(3,Iw n32)]) (fun _ (_:Unit)=>[]) (fun o hm h3=>?_) fun n32 _ hm=> ?_
 ·refine Ca (fun zn (zs:Int × Nat)=>lex_Runes.l1 s zn zs.1 zs.2) (fun zs (_:Unit)=>[(0,.str s),(3,Iw zs.1),(7,.ptr b 0)]) (fun zs (_:Unit)=>[.iter b s zs.2]) ((0 : Int),0) () (fun _=>R) hm (Ah [0] R R) fun n4=>Pq fun n2 pos2 _ hm=> ?_
  rw [lex_Runes.l1] at hm
  exact Ae<|Ab R R<|VO.nx hm 0 R R (fun h4 hm=>Aa R R (D2 R R)<|Ac<|Af<|Bl R R<|Al<|Aw<|Ag tbk [] R R<|Af<|Ae<|Ad tbk [] 3 R R<|Ab R R<|Ay hm 0 R fn223 R (K11 _ _ _) fun r hm=>Aa R R (Cp R)<|Ac<|Ao hm R (fun h6 hm=>Ag tbk [] R R<|have hm:=Lr hm h3;Rt1 hm R [] R R R) fun h6 hm=>Al<|Ba tbk [] R R<|Ap ((IntKind.i64.wrap (n2 + (1 : Int))),(pos2 + (Utf8.decode s pos2).2)) () hm (Ah [0] R R)) fun h4 hm=>Aa R R (D2 R R)<|Ac<|Af<|Bm R R<|A6<|Ar () hm (Ah [] R R)
 exact Ag tbk [] R R<|Rt1 hm R [] R R R

/-! trireme/lex.Word -/
def lex_Word (s : ByteArray) : Option Bool :=
 (lex_head_lex_plain s).bind fun r =>
 (if ((r.2 && (r.1 == (s.size : Int))) && (decide (r.1 > 0))) = true then (lex_Runes s).bind fun r2 =>
 some (decide (r2 ≤ 64)) else some false).bind fun c =>
 some c
theorem K15 (s : ByteArray) : VS Tryz.prog 131 (lex_Word s) [.str s] [] .bool N0 := by
 refine A8 [.tmp 2] Tryz.func131 R R R fun r hm=>?_
 unfold lex_Word at hm
 exact Ag tbk [] R R<|Ae<|Aa R R (Ai R)<|Ab R R<|Ay hm 0 R fn187 R (K13 _) fun r hm=>Ad tbk [] 5 R R<|Ac<|Ae<|Ad tbk [] 2 R R<|D0 5 16 11 R (fun h2 K' J=>Ad tbk [] 2 R R<|Bk R R R R R (Ci R Bc)<|Ad tbk [] 2 R R<|J 4 R R R) (fun K' J=>Ad tbk [] 5 R R<|J 4 R R R)<|Aa R R (Ai R)<|Cu tbk [] 3 20 17 R R R R R<|Aa R R (Ai R)<|Bx hm 4 25 21 R (fun _ K' h4 J hm=>Bk R R R R R (Ai R)<|Bh R R R R R<|Ay hm 0 R fn189 R (K14 _) fun r2 hm=>Ad tbk [] 2 R R<|J 3 R R (Bj hm)) (fun _ K' h4 J hm=>Ad tbk [] 4 R R<|J 3 R R (Bj hm)) fun c hm=>Aa R R (Aj R)<|Ac<|Rt1 hm R [] R R R

/-! trireme/spec.between -/
def spec_between (n : Int) (low : Int) (high : Int) : Option Bool :=
 some ((decide (n ≥ low)) && (decide (n ≤ high)))
theorem K16 (n : Int) (low : Int) (high : Int) : VS Tryz.prog 134 (spec_between n low high) [Iw n, Iw low, Iw high] [] .bool N0 := by
 refine A8 [.tmp 6] Tryz.func134 R R R fun r hm=>?_
 unfold spec_between at hm
 exact Ag tbk [] R R<|Ae<|Ad tbk [] 4 R R<|Cu tbk [] 4 14 10 R R R R R<|Aa R R (Aj R)<|Ac<|Rt1 hm R [] R R R

/-! trireme/spec.maybe -/
def spec_maybe (s : ByteArray) : Option Bool :=
 (if (V.seq s (⟨#[]⟩ : ByteArray)) = true then some true else (lex_Word s).bind fun r =>
 some r).bind fun c =>
 some c
theorem K17 (s : ByteArray) : VS Tryz.prog 132 (spec_maybe s) [.str s] [] .bool N0 := by
 refine A8 [.tmp 2] Tryz.func132 R R R fun r hm=>?_
 unfold spec_maybe at hm
 exact Ag tbk [] R R<|Ae<|Ad tbk [] 3 R R<|Bx hm 3 8 5 R (fun _ K' h1 J hm=>Ad tbk [] 3 R R<|J 2 R R (Bj hm)) (fun _ K' h1 J hm=>Bk R R R R R (Ai R)<|Bh R R R R R<|Ay hm 0 R fn131 R (K15 _) fun r hm=>Aa R R (Bs false R R R)<|J 2 R R (Bj hm)) fun c hm=>Aa R R (Aj R)<|Ac<|Rt1 hm R [] R R R

/-! trireme/res.row -/
def res_row (a : T_api_Res) : Option Arr5_Int :=
 some (⟨a.Cpu, a.Mem, a.Disk, a.Pods, a.Dev⟩ : Arr5_Int)
theorem K18 (a : T_api_Res) : VS Tryz.prog 190 (res_row a) [T_api_Res.vv a] [] (fun r=>Arr5_Int.vv r) N0 := by
 refine A8 [.cell 2 247] Tryz.func190 R R R fun r hm=>?_
 unfold res_row at hm
 exact Ae<|Ab R R<|Bg R R fun b=>Ab R R<|Au z247 fun b2=>Ac<|Ae<|Ad tbk [1,1,1,1,1] 10 R R<|Aa R R (Bn pl247 R R)<|Ab R R<|Ak (i:=0) R R R ld247 R R R<|Ac<|Rt0 hm R [] (.cons (.cell _ _ _ _ 0 _ _ _ _ R R ld247 R) .nil) R R

/-! trireme/res.Right -/
def res_Right.l1 (r : Arr5_Int) : Nat → Int → Option (Out Bool Unit)
 | 0, _ => none
 | n + 1, v2 =>
  if (decide (v2 < 5)) = true then
   (V.gl (Arr5_Int.l r) v2).bind fun x =>
   if ((decide (x < 0)) || (decide (x > 1125899906842624))) = true then
    some (Out.ret false)
   else
    res_Right.l1 r n (i64.wrap (v2 + 1))
  else
   some (Out.go ())
def res_Right (a : T_api_Res) : Option Bool :=
 (res_row a).bind fun r =>
 (res_Right.l1 r FU (0 : Int)).bind fun o =>
 o.on fun j =>
 some true
theorem K19 (a : T_api_Res) : VS Tryz.prog 133 (res_Right a) [T_api_Res.vv a] [] .bool N0 := by
 refine A8 [.tmp 2] Tryz.func133 R R R fun r hm=>?_
 unfold res_Right at hm
 refine Ae<|Ab R R<|Bg R R fun b=>Aa R R (Aj R)<|Ac<|Af<|Ae<|Ad tbk [0] 1 R R<|Ab R R<|Ay hm 0 R fn190 R (K18 _) fun r hm=>Aa R R (Ai R)<|Ac<|B5 hm (fun _ (_:Unit)=>[]) (fun _ (_:Unit)=>[]) (fun o hm h4=>?_) fun j _ hm=> ?_
 ·refine Ca (fun zn (zs:Int)=>res_Right.l1 r zn zs) (fun zs (_:Unit)=>[(6,Arr5_Int.vv r),(7,Iw zs)]) (fun _ (_:Unit)=>[]) _ () (fun _=>R) hm (Ah [] R R) fun n v2 _ hm=> ?_
  rw [res_Right.l1] at hm
  exact Ag tbk [] R R<|Af<|Ao hm R (fun h5 hm=>Al<|Af<|Aw<|Ae<|Bd hm fun x h6 hm=>Aa R R (VP.indexG (f:=(VV.int .i64)) R R ar247 R ld3 h6)<|Aa R R (Aj R)<|Ac<|Ae<|Ad tbk [] 3 R R<|Cq tbk [] 3 15 12 R R R R R<|Ac<|Ao hm R (fun h8 hm=>Ag tbk [] R R<|have hm:=Lr hm h4;Rt1 hm R [] R R R) fun h8 hm=>Al<|Ba tbk [] R R<|Ap _ () hm (Ah [] R R)) fun h5 hm=>A6<|Ar () hm (Ah [] R R)
 exact Ag tbk [] R R<|Rt1 hm R [] R R R

/-! trireme/labels.maybe -/
def labels_maybe (s : ByteArray) : Option Bool :=
 (if (V.seq s (⟨#[]⟩ : ByteArray)) = true then some true else (lex_Word s).bind fun r =>
 some r).bind fun c =>
 some c
theorem K20 (s : ByteArray) : VS Tryz.prog 185 (labels_maybe s) [.str s] [] .bool N0 := by
 refine A8 [.tmp 2] Tryz.func185 R R R fun r hm=>?_
 unfold labels_maybe at hm
 exact Ag tbk [] R R<|Ae<|Ad tbk [] 3 R R<|Bx hm 3 8 5 R (fun _ K' h1 J hm=>Ad tbk [] 3 R R<|J 2 R R (Bj hm)) (fun _ K' h1 J hm=>Bk R R R R R (Ai R)<|Bh R R R R R<|Ay hm 0 R fn131 R (K15 _) fun r hm=>Aa R R (Bs false R R R)<|J 2 R R (Bj hm)) fun c hm=>Aa R R (Aj R)<|Ac<|Rt1 hm R [] R R R

/-! trireme/labels.Right -/
def labels_Right.l1 (l : List T_api_Label) : List T_api_Label → Nat → (List (ByteArray × Int)) → Option (Out Bool Unit)
 | [], k, had2 => some (Out.go ())
 | x :: l2, k, had2 =>
  (if (decide (((V.mg (V.mp had2 x.Key (i64.wrap (((V.mg had2 x.Key).getD 0) + 1))) x.Key).getD 0) > 1)) = true then some true else (lex_Word x.Key).bind fun r =>
  some (!r)).bind fun c =>
  (if c = true then some true else (labels_maybe x.Val).bind fun r2 =>
  some (!r2)).bind fun c2 =>
  (if c2 = true then some true else (if (decide ((k : Int) > 0)) = true then (V.gl l (i64.wrap ((k : Int) - 1))).bind fun x2 =>
  some (!(V.slt x2.Key x.Key || V.seq x2.Key x.Key)) else some false).bind fun c3 =>
  some c3).bind fun c4 =>
  if c4 = true then
   some (Out.ret false)
  else
   labels_Right.l1 l l2 (k + 1) (V.mp had2 x.Key (i64.wrap (((V.mg had2 x.Key).getD 0) + 1)))
def labels_Right (l : List T_api_Label) : Option Bool :=
 (labels_Right.l1 l l 0 ([] : List (ByteArray × Int))).bind fun o =>
 o.on fun j =>
 some (decide ((l.length : Int) ≤ 16))
theorem K21 (l : List T_api_Label) : VS Tryz.prog 130 (labels_Right l) [L232 l] [] .bool N0 := by
 refine A8 [.tmp 2] Tryz.func130 R R R fun r hm=>?_
 unfold labels_Right at hm
 refine Ag tbk [] R R<|Ae<|Ab R R<|Dc fun b=>Aa R R (Aj R)<|Ac<|Af<|Ae<|Aa R R (Ai R)<|Aa R R (A7 T_api_Label.vv R Cd)<|Aa R R (Ai R)<|Ac<|B4 0 R fun h4=>B5 hm (fun _ (_:Unit)=>[(0,L232 l)]) (fun _ (_:Unit)=>[]) (fun o hm h3=>?_) fun j _ hm=> ?_
 ·refine Cf (l) (fun zl zk (zs:List (ByteArray × Int))=>labels_Right.l1 l zl zk zs) (fun k _ (_:Unit)=>[(0,L232 l),(3,.map b),(7,L232 l),(8,Iw (l.length : Int)),(9,Iw (k : Int))]) (fun _ zs (_:Unit)=>[.map b (List.map (pf VV.str (VV.int .i64)) zs)]) _ () hm (Ah [0] R R) (fun k had2 _ hk hm=>?_) fun k x l2 had2 _ h5 hm=> ?_
  ·rw [labels_Right.l1] at hm
   exact Ag tbk [] R R<|Af<|Bm R (k_end hk)<|A6<|Ar () hm (Ah [] R R)
  rw [labels_Right.l1] at hm
  refine Ag tbk [] R R<|Af<|Bl R (k_lt h5)<|Al<|Af<|Aw<|Ae<|Aa R R (Ai R)<|Aa R R (B8 T_api_Label.vv R R el24 h5)<|Aa R R (Bt R ld232 R)<|Ab R R<|Au z232 fun b2=>Aa R R (Aj R)<|Ab R R<|Ak (i:=0) R R R ld232 R R R<|Ac<|Ae<|Ad tbk [0] 3 R R<|Aa R R (Cy 1 (kf:=VV.str) (vf:=(VV.int .i64)) (l:=had2) (k:=x.Key) (z:=(0 : Int)) false mk9 B9 R R R zc3 R)<|Aa R R (Br R R R)<|Ab R R<|De 1 (kf:=VV.str) (vf:=(VV.int .i64)) (l:=had2) (k:=x.Key) (z:=(IntKind.i64.wrap (((V.mg had2 x.Key).getD (0 : Int)) + (1 : Int)))) mk9 B9 R R R R<|Ac<|Af<|Bi 0 mixed<|A9 tbk [0,1,2] [0] (by kernel_rfl) R R R<|Bb 3 R R R (by kernel_rfl) (Cy 1 (kf:=VV.str) (vf:=(VV.int .i64)) (l:=(V.mp had2 x.Key (IntKind.i64.wrap (((V.mg had2 x.Key).getD (0 : Int)) + (1 : Int))))) (k:=x.Key) (z:=(0 : Int)) false mk9 B9 R R R zc3 R)<|A9 tbk [4,5] [] (by kernel_rfl) R R R<|Dk hm [10,9,8,7,6,5,4,3,2,1,0] 29 24 R (fun _ K' h7 J hm=>A9 tbk [6,7,8,9,10] [] (by kernel_rfl) R R R<|J 4 R R (Bj hm)) (fun _ K' h7 J hm=>A9 tbk [6,7] [0] (by kernel_rfl) R R R<|Am 8 (by kernel_rfl)<|Dm R R R R R R<|Ay hm 0 R fn131 R (K15 _) fun r hm=>A9 tbk [9,10] [] (by kernel_rfl) R R R<|J 4 R R (Bj hm)) fun c hm=>Bb 11 R R R (by kernel_rfl) (Ai R)<|Dk hm [16,15,14,13,12,11,10,9,8,7,6,5,4,3,2,1,0] 35 30 R (fun _ K' h10 J hm=>A9 tbk [12,13,14,15,16] [] (by kernel_rfl) R R R<|J 4 R R (Bj hm)) (fun _ K' h10 J hm=>A9 tbk [12,13] [0] (by kernel_rfl) R R R<|Am 14 (by kernel_rfl)<|Dm R R R R R R<|Ay hm 0 R fn185 R (K20 _) fun r2 hm=>A9 tbk [15,16] [] (by kernel_rfl) R R R<|J 4 R R (Bj hm)) fun c2 hm=>Bb 17 R R R (by kernel_rfl) (Ai R)<|Dk hm [31,30,29,28,27,26,25,24,23,22,21,20,19,18,17,16,15,14,13,12,11,10,9,8,7,6,5,4,3,2,1,0] 50 36 R (fun _ K' h13 J hm=>A9 tbk [18,19,20,21,22,23,24,25,26,27,28,29,30,31] [] (by kernel_rfl) R R R<|J 13 R R (Bj hm)) (fun _ K' h13 J hm=>A9 tbk [18,19,20] [] (by kernel_rfl) R R R<|Dk hm [30,29,28,27,26,25,24,23,22,21,20,19,18,17,16,15,14,13,12,11,10,9,8,7,6,5,4,3,2,1,0] 49 39 R (fun _ K' h14 J hm=>A9 tbk [21,22,23] [] (by kernel_rfl) R R R<|Bd hm fun x2 h15 hm=>Dl 24 R R R R R R (by kernel_rfl) (Bw T_api_Label.vv R R el24 h15)<|A9 tbk [25,26,27,28,29,30] [0] (by kernel_rfl) R R R<|J 9 R R (Bj hm)) (fun _ K' h14 J hm=>A9 tbk [21,22,23,24,25,26,27,28,29,30] [] (by kernel_rfl) R R R<|J 9 R R (Bj hm)) fun c3 hm=>Bb 31 R R R (by kernel_rfl) (Bs false R R R)<|J 4 R R (Bj hm)) fun c4 hm=>A5 (by kernel_rfl)<|?_
  exact Ao hm R (fun h18 hm=>Ag tbk [] R R<|have hm:=Lr hm h3;Rt1 hm R [] R R R) fun h18 hm=>Al<|Ba tbk [] R R<|Ap _ () hm (Be [1] R ⟨R,R,R,R,congrArg some (k_next h5 h4),trivial⟩)
 exact Ae<|Aa R R (Ai R)<|Aa R R (A7 T_api_Label.vv R Cd)<|Ad tbk [] 2 R R<|Ac<|Rt1 hm R [] R R R

/-! trireme/taints.maybe -/
def taints_maybe (s : ByteArray) : Option Bool :=
 (if (V.seq s (⟨#[]⟩ : ByteArray)) = true then some true else (lex_Word s).bind fun r =>
 some r).bind fun c =>
 some c
theorem K22 (s : ByteArray) : VS Tryz.prog 142 (taints_maybe s) [.str s] [] .bool N0 := by
 refine A8 [.tmp 2] Tryz.func142 R R R fun r hm=>?_
 unfold taints_maybe at hm
 exact Ag tbk [] R R<|Ae<|Ad tbk [] 3 R R<|Bx hm 3 8 5 R (fun _ K' h1 J hm=>Ad tbk [] 3 R R<|J 2 R R (Bj hm)) (fun _ K' h1 J hm=>Bk R R R R R (Ai R)<|Bh R R R R R<|Ay hm 0 R fn131 R (K15 _) fun r hm=>Aa R R (Bs false R R R)<|J 2 R R (Bj hm)) fun c hm=>Aa R R (Aj R)<|Ac<|Rt1 hm R [] R R R

/-! trireme/taints.known -/
def taints_known (effect : Int) : Option Bool :=
 some (((effect == 1) || (effect == 2)) || (effect == 3))
theorem K23 (effect : Int) : VS Tryz.prog 143 (taints_known effect) [Iw effect] [] .bool N0 := by
 refine A8 [.tmp 2] Tryz.func143 R R R fun r hm=>?_
 unfold taints_known at hm
 exact Ag tbk [] R R<|Ae<|Ad tbk [] 3 R R<|Cq tbk [] 3 8 5 R R R R R<|Aa R R (Ai R)<|Cq tbk [] 3 12 9 R R R R R<|Aa R R (Aj R)<|Ac<|Rt1 hm R [] R R R

/-! trireme/taints.like -/
def taints_like (x : T_api_Taint) : Option T_api_Taint :=
 some (⟨x.Key, (⟨#[]⟩ : ByteArray), x.Effect⟩ : T_api_Taint)
theorem K24 (x : T_api_Taint) : VS Tryz.prog 141 (taints_like x) [T_api_Taint.vv x] [] (fun r=>T_api_Taint.vv r) N0 := by
 refine A8 [.cell 2 31] Tryz.func141 R R R fun r hm=>?_
 unfold taints_like at hm
 exact Ae<|Ab R R<|Bg R R fun b=>Ab R R<|Au z31 fun b2=>Ac<|Ae<|Aa R R (C7 R fa31_1)<|Ab R R<|Ak (i:=1) R R R ld9 R R R<|Ac<|Ae<|Ad tbk [1] 1 R R<|Ab R R<|Ak (i:=0) R R R ld31 R R R<|Ac<|Rt0 hm R [] (.cons (.cell _ _ _ _ 0 _ _ _ _ R R ld31 R) .nil) R R

/-! trireme/taints.Right -/
def taints_Right.l2 (x : T_api_Taint) : List T_api_Taint → Nat → Option (Out (Out Bool Unit) Unit)
 | [], k2 => some (Out.go ())
 | x2 :: l3, k2 =>
  (taints_like x).bind fun r4 =>
  (taints_like x2).bind fun r5 =>
  if (((r4.Key == r5.Key) && ((r4.Val == r5.Val) && ((r4.Effect == r5.Effect) && true))) == true) = true then
   some (Out.ret (Out.ret false))
  else
   taints_Right.l2 x l3 (k2 + 1)
def taints_Right.l1 (l : List T_api_Taint) : List T_api_Taint → Nat → Option (Out Bool Unit)
 | [], k => some (Out.go ())
 | x :: l2, k =>
  (lex_Word x.Key).bind fun r =>
  (if (!r) = true then some true else (taints_maybe x.Val).bind fun r2 =>
  some (!r2)).bind fun c =>
  (if c = true then some true else (taints_known x.Effect).bind fun r3 =>
  some (!r3)).bind fun c2 =>
  if c2 = true then
   some (Out.ret false)
  else
   (V.sl l none (some (k : Int))).bind fun v =>
   (taints_Right.l2 x v 0).bind fun o2 =>
   o2.on fun j2 =>
   taints_Right.l1 l l2 (k + 1)
def taints_Right (l : List T_api_Taint) : Option Bool :=
 (taints_Right.l1 l l 0).bind fun o =>
 o.on fun j =>
 some (decide ((l.length : Int) ≤ 16))
theorem K25 (l : List T_api_Taint) : VS Tryz.prog 75 (taints_Right l) [L31 l] [] .bool N0 := by
 refine A8 [.tmp 2] Tryz.func75 R R R fun r hm=>?_
 unfold taints_Right at hm
 refine Ag tbk [] R R<|Af<|Ae<|Aa R R (Ai R)<|Aa R R (A7 T_api_Taint.vv R Ch)<|Aa R R (Ai R)<|Ac<|B4 0 R fun h3=>B5 hm (fun _ (_:Unit)=>[(0,L31 l)]) (fun _ (_:Unit)=>[]) (fun o hm h2=>?_) fun j _ hm=> ?_
 ·refine Cf (l) (fun zl zk (zs:Unit)=>taints_Right.l1 l zl zk) (fun k _ (_:Unit)=>[(0,L31 l),(7,L31 l),(8,Iw (l.length : Int)),(9,Iw (k : Int))]) (fun _ _ (_:Unit)=>[]) () () hm (Ah [] R R) (fun k _ _ hk hm=>?_) fun k x l2 _ _ h4 hm=> ?_
  ·rw [taints_Right.l1] at hm
   exact Ag tbk [] R R<|Af<|Bm R (k_end hk)<|A6<|Ar () hm (Ah [] R R)
  rw [taints_Right.l1] at hm
  refine Ag tbk [] R R<|Af<|Bl R (k_lt h4)<|Al<|Af<|Aw<|Ae<|Aa R R (Ai R)<|Aa R R (B8 T_api_Taint.vv R R el66 h4)<|Aa R R (Bt R ld31 R)<|Ab R R<|Au z31 fun b=>Aa R R (Aj R)<|Ab R R<|Ak (i:=0) R R R ld31 R R R<|Ac<|Af<|Ae<|Ad tbk [0] 2 R R<|Ab R R<|Ay hm 0 R fn131 R (K15 _) fun r hm=>Ad tbk [] 2 R R<|Bx hm 5 23 18 R (fun _ K' h7 J hm=>Ad tbk [] 5 R R<|J 4 R R (Bj hm)) (fun _ K' h7 J hm=>Ad tbk [0] 2 R R<|Bh R R R R R<|Ay hm 0 R fn142 R (K22 _) fun r2 hm=>Ad tbk [] 2 R R<|J 4 R R (Bj hm)) fun c hm=>Aa R R (Ai R)<|Bx hm 5 29 24 R (fun _ K' h10 J hm=>Ad tbk [] 5 R R<|J 4 R R (Bj hm)) (fun _ K' h10 J hm=>Ad tbk [0] 2 R R<|Bh R R R R R<|Ay hm 0 R fn143 R (K23 _) fun r3 hm=>Ad tbk [] 2 R R<|J 4 R R (Bj hm)) fun c2 hm=>Ac<|Ao hm R (fun h13 hm=>Ag tbk [] R R<|have hm:=Lr hm h2;Rt1 hm R [] R R R) fun h13 hm=>Al<|Ae<|Ad tbk [] 2 R R<|Bd hm fun v h14 hm=>Aa R R (Dv R R R el66 h14)<|Aa R R (A7 T_api_Taint.vv R Ch)<|Aa R R (Ai R)<|Ac<|B4 32 R fun h17=>B5 hm (fun _ (_:Unit)=>[(0,L31 l),(7,L31 l),(8,Iw (l.length : Int)),(9,Iw (k : Int))]) (fun _ (_:Unit)=>[]) (fun o2 hm h16=>?_) fun j2 _ hm=> ?_
  ·refine Cf (v) (fun zl zk (zs:Unit)=>taints_Right.l2 x zl zk) (fun k2 _ (_:Unit)=>[(0,L31 l),(4,.ptr b 0),(7,L31 l),(8,Iw (l.length : Int)),(9,Iw (k : Int)),(32,L31 v),(33,Iw (v.length : Int)),(34,Iw (k2 : Int))]) (fun _ _ (_:Unit)=>[X31 b x]) () () hm (Ah [0] R R) (fun k2 _ _ hk hm=>?_) fun k2 x2 l3 _ _ h18 hm=> ?_
   ·rw [taints_Right.l2] at hm
    exact Ag tbk [] R R<|Af<|Bm R (k_end hk)<|A6<|Ar () hm (Ah [] R R)
   rw [taints_Right.l2] at hm
   refine Ag tbk [] R R<|Af<|Bl R (k_lt h18)<|Al<|Af<|Aw<|Ae<|Aa R R (B8 T_api_Taint.vv R R el66 h18)<|Aa R R (Bt R ld31 R)<|Ab R R<|Au z31 fun b2=>Ab R R<|Ak (i:=0) R R R ld31 R R R<|Ac<|Af<|Bi 0 mixed<|A9 tbk [0,2] [1,0] (by kernel_rfl) R R R<|Am 1 (by kernel_rfl)<|Bd hm fun r4 h20 hm=>An R R R<|Aq 0 R fn141 R (K24 x r4 h20) fun _ _ h24=> ?_
   obtain ⟨rfl,rfl⟩:=h24
   refine Am 3 (by kernel_rfl)<|Bd hm fun r5 h21 hm=>An R R R<|Aq 0 R fn141 R (K24 x2 r5 h21) fun _ _ h23=> ?_
   obtain ⟨rfl,rfl⟩:=h23
   exact Bb 4 R R R (by kernel_rfl) (VP.eqS shp31 eq31 R R R R)<|A5 (by kernel_rfl)<|Ao hm R (fun h22 hm=>Ag tbk [] R R<|have hm:=Lr hm h16;have hm:=Lr hm h2;Rt1 hm R [] R R R) fun h22 hm=>Al<|Ba tbk [] R R<|Ap () () hm (Be [1] R ⟨R,R,R,R,R,R,R,congrArg some (k_next h18 h17),trivial⟩)
  exact Ba tbk [] R R<|Ap () () hm (Be [] R ⟨R,R,R,congrArg some (k_next h4 h3),trivial⟩)
 exact Ae<|Aa R R (Ai R)<|Aa R R (A7 T_api_Taint.vv R Ch)<|Ad tbk [] 2 R R<|Ac<|Rt1 hm R [] R R R

/-! trireme/spec.RightMachine -/
def spec_RightMachine (m : T_api_Machine) : Option Bool :=
 (spec_maybe m.Name).bind fun r =>
 (if r = true then (spec_maybe m.Group).bind fun r2 =>
 some r2 else some false).bind fun c =>
 (if c = true then (res_Right m.Has).bind fun r3 =>
 some r3 else some false).bind fun c2 =>
 (if c2 = true then (labels_Right m.Labels).bind fun r4 =>
 some r4 else some false).bind fun c3 =>
 (if c3 = true then (taints_Right m.Taints).bind fun r5 =>
 some r5 else some false).bind fun c4 =>
 some c4
theorem K26 (m : T_api_Machine) : VS Tryz.prog 228 (spec_RightMachine m) [T_api_Machine.vv m] [] .bool N0 := by
 refine A8 [.tmp 2] Tryz.func228 R R R fun r hm=>?_
 unfold spec_RightMachine at hm
 exact Ae<|Ab R R<|Bg R R fun b=>Aa R R (Aj R)<|Ac<|Ae<|Ad tbk [0] 2 R R<|Ab R R<|Ay hm 0 R fn132 R (K17 _) fun r hm=>Aa R R (Ai R)<|Bx hm 4 10 6 R (fun _ K' h3 J hm=>Ad tbk [0] 2 R R<|Bh R R R R R<|Ay hm 0 R fn132 R (K17 _) fun r2 hm=>Aa R R (Bs true R R R)<|J 3 R R (Bj hm)) (fun _ K' h3 J hm=>Ad tbk [] 4 R R<|J 3 R R (Bj hm)) fun c hm=>Aa R R (Ai R)<|Bx hm 4 15 11 R (fun _ K' h6 J hm=>Ad tbk [0] 2 R R<|Bh R R R R R<|Ay hm 0 R fn133 R (K19 _) fun r3 hm=>Aa R R (Bs true R R R)<|J 3 R R (Bj hm)) (fun _ K' h6 J hm=>Ad tbk [] 4 R R<|J 3 R R (Bj hm)) fun c2 hm=>Aa R R (Ai R)<|Bx hm 4 20 16 R (fun _ K' h9 J hm=>Ad tbk [0] 2 R R<|Bh R R R R R<|Ay hm 0 R fn130 R (K21 _) fun r4 hm=>Aa R R (Bs true R R R)<|J 3 R R (Bj hm)) (fun _ K' h9 J hm=>Ad tbk [] 4 R R<|J 3 R R (Bj hm)) fun c3 hm=>Aa R R (Ai R)<|Bx hm 4 25 21 R (fun _ K' h12 J hm=>Ad tbk [0] 2 R R<|Bh R R R R R<|Ay hm 0 R fn75 R (K25 _) fun r5 hm=>Aa R R (Bs true R R R)<|J 3 R R (Bj hm)) (fun _ K' h12 J hm=>Ad tbk [] 4 R R<|J 3 R R (Bj hm)) fun c4 hm=>Aa R R (Aj R)<|Ac<|Rt1 hm R [] R R R

/-! trireme/spec.RightGroup -/
def spec_RightGroup (g : T_api_Group) : Option Bool :=
 (lex_Word g.Name).bind fun r =>
 if ((((!r) || (!(V.seq g.Like.Name (⟨#[]⟩ : ByteArray)))) || (!(V.seq g.Like.Group g.Name))) || (!g.Like.Ready)) = true then
  some false
 else
  (spec_between g.Max 1 (200 : Int)).bind fun r2 =>
  (if (!r2) = true then some true else (spec_between g.Min 0 g.Max).bind fun r3 =>
  some (!r3)).bind fun c =>
  if c = true then
   some false
  else
   (spec_between g.Price 0 (1125899906842624 : Int)).bind fun r4 =>
   (if r4 = true then (spec_between g.Rank 0 (1000 : Int)).bind fun r5 =>
   some r5 else some false).bind fun c2 =>
   (if c2 = true then (spec_RightMachine g.Like).bind fun r6 =>
   some r6 else some false).bind fun c3 =>
   some c3
theorem K27 (g : T_api_Group) : VS Tryz.prog 200 (spec_RightGroup g) [T_api_Group.vv g] [] .bool N0 := by
 refine A8 [.tmp 2] Tryz.func200 R R R fun r hm=>?_
 unfold spec_RightGroup at hm
 exact Ae<|Ab R R<|Bg R R fun b=>Aa R R (Aj R)<|Ac<|Ae<|Ad tbk [0] 2 R R<|Ab R R<|Au z68 fun b2=>Ab R R<|Ak (i:=0) R R R ld68 R R R<|Ac<|Af<|Aw<|Ae<|Ad tbk [1] 2 R R<|Ab R R<|Ay hm 0 R fn131 R (K15 _) fun r hm=>Ad tbk [] 2 R R<|Cq tbk [0] 4 15 11 R R R R R<|Aa R R (Ai R)<|Cq tbk [0,1] 6 22 16 R R R R R<|Aa R R (Ai R)<|Cq tbk [0] 4 27 23 R R R R R<|Aa R R (Aj R)<|Ac<|Ao hm R (fun h7 hm=>Ag tbk [] R R<|Rt1 hm R [] R R R) fun h7 hm=>Ae<|Ad tbk [1] 2 R R<|Ab R R<|Ay hm 0 R fn134 R (K16 _ _ _) fun r2 hm=>Ad tbk [] 2 R R<|Bx hm 7 40 33 R (fun _ K' h9 J hm=>Ad tbk [] 7 R R<|J 6 R R (Bj hm)) (fun _ K' h9 J hm=>Ad tbk [1,1] 4 R R<|Bh R R R R R<|Ay hm 0 R fn134 R (K16 _ _ _) fun r3 hm=>Ad tbk [] 2 R R<|J 6 R R (Bj hm)) fun c hm=>Aa R R (Aj R)<|Ac<|Ao hm R (fun h12 hm=>Ag tbk [] R R<|Rt1 hm R [] R R R) fun h12 hm=>Al<|Ae<|Ad tbk [1] 2 R R<|Ab R R<|Ay hm 0 R fn134 R (K16 _ _ _) fun r4 hm=>Aa R R (Ai R)<|Bx hm 4 48 44 R (fun _ K' h14 J hm=>Ad tbk [1] 2 R R<|Bh R R R R R<|Ay hm 0 R fn134 R (K16 _ _ _) fun r5 hm=>Aa R R (Bs true R R R)<|J 3 R R (Bj hm)) (fun _ K' h14 J hm=>Ad tbk [] 4 R R<|J 3 R R (Bj hm)) fun c2 hm=>Aa R R (Ai R)<|Bx hm 3 52 49 R (fun _ K' h17 J hm=>Ad tbk [0] 1 R R<|Bh R R R R R<|Ay hm 0 R fn228 R (K26 _) fun r6 hm=>Aa R R (Bs true R R R)<|J 2 R R (Bj hm)) (fun _ K' h17 J hm=>Ad tbk [] 3 R R<|J 2 R R (Bj hm)) fun c3 hm=>Aa R R (Aj R)<|Ac<|Rt1 hm R [] R R R

/-! trireme/group.Find -/
def group_Find.l1 (name : ByteArray) : List T_api_Group → Nat → Option (Out Int Unit)
 | [], k => some (Out.go ())
 | x :: l2, k =>
  if (V.seq x.Name name) = true then
   some (Out.ret (k : Int))
  else
   group_Find.l1 name l2 (k + 1)
def group_Find (l : List T_api_Group) (name : ByteArray) : Option Int :=
 (group_Find.l1 name l 0).bind fun o =>
 o.on fun j =>
 some (-1)
theorem K28 (l : List T_api_Group) (name : ByteArray) : VS Tryz.prog 124 (group_Find l name) [L139 l, .str name] [] Iw N0 := by
 refine A8 [.tmp 4] Tryz.func124 R R R fun r hm=>?_
 unfold group_Find at hm
 refine Ag tbk [] R R<|Af<|Ae<|Aa R R (Ai R)<|Aa R R (A7 T_api_Group.vv R Ck)<|Aa R R (Ai R)<|Ac<|B4 7 R fun h3=>B5 hm (fun _ (_:Unit)=>[]) (fun _ (_:Unit)=>[]) (fun o hm h2=>?_) fun j _ hm=> ?_
 ·refine Cf (l) (fun zl zk (zs:Unit)=>group_Find.l1 name zl zk) (fun k _ (_:Unit)=>[(1,.str name),(7,L139 l),(8,Iw (l.length : Int)),(9,Iw (k : Int))]) (fun _ _ (_:Unit)=>[]) () () hm (Ah [] R R) (fun k _ _ hk hm=>?_) fun k x l2 _ _ h4 hm=> ?_
  ·rw [group_Find.l1] at hm
   exact Ag tbk [] R R<|Af<|Bm R (k_end hk)<|A6<|Ar () hm (Ah [] R R)
  rw [group_Find.l1] at hm
  exact Ag tbk [] R R<|Af<|Bl R (k_lt h4)<|Al<|Af<|Aw<|Ae<|Aa R R (Ai R)<|Aa R R (B8 T_api_Group.vv R R el37 h4)<|Aa R R (Bt R ld139 R)<|Ab R R<|Au z139 fun b=>Aa R R (Aj R)<|Ab R R<|Ak (i:=0) R R R ld139 R R R<|Ac<|Ag tbk [0] R R<|Ao hm R (fun h6 hm=>Ag tbk [] R R<|have hm:=Lr hm h2;Rt1 hm R [] R R R) fun h6 hm=>Al<|Ba tbk [] R R<|Ap () () hm (Be [] R ⟨R,R,R,congrArg some (k_next h4 h3),trivial⟩)
 exact Ag tbk [] R R<|Rt1 hm R [] R R R

/-! trireme/group.Right -/
def group_Right.l1 (l : List T_api_Group) : List T_api_Group → Nat → Option (Out Bool Unit)
 | [], k => some (Out.go ())
 | x :: l2, k =>
  (spec_RightGroup x).bind fun r =>
  (if ((!r) || (decide ((x.Name.size : Int) > 48))) = true then some true else (group_Find l x.Name).bind fun r2 =>
  some (r2 != (k : Int))).bind fun c =>
  if c = true then
   some (Out.ret false)
  else
   group_Right.l1 l l2 (k + 1)
def group_Right (l : List T_api_Group) : Option Bool :=
 (group_Right.l1 l l 0).bind fun o =>
 o.on fun j =>
 some (decide ((l.length : Int) ≤ 16))
theorem K29 (l : List T_api_Group) : VS Tryz.prog 158 (group_Right l) [L139 l] [] .bool N0 := by
 refine A8 [.tmp 2] Tryz.func158 R R R fun r hm=>?_
 unfold group_Right at hm
 refine Ag tbk [] R R<|Af<|Ae<|Aa R R (Ai R)<|Aa R R (A7 T_api_Group.vv R Ck)<|Aa R R (Ai R)<|Ac<|B4 0 R fun h3=>B5 hm (fun _ (_:Unit)=>[(0,L139 l)]) (fun _ (_:Unit)=>[]) (fun o hm h2=>?_) fun j _ hm=> ?_
 ·refine Cf (l) (fun zl zk (zs:Unit)=>group_Right.l1 l zl zk) (fun k _ (_:Unit)=>[(0,L139 l),(5,L139 l),(6,Iw (l.length : Int)),(7,Iw (k : Int))]) (fun _ _ (_:Unit)=>[]) () () hm (Ah [] R R) (fun k _ _ hk hm=>?_) fun k x l2 _ _ h4 hm=> ?_
  ·rw [group_Right.l1] at hm
   exact Ag tbk [] R R<|Af<|Bm R (k_end hk)<|A6<|Ar () hm (Ah [] R R)
  rw [group_Right.l1] at hm
  exact Ag tbk [] R R<|Af<|Bl R (k_lt h4)<|Al<|Af<|Aw<|Ae<|Aa R R (Ai R)<|Aa R R (B8 T_api_Group.vv R R el37 h4)<|Aa R R (Bt R ld139 R)<|Ab R R<|Au z139 fun b=>Aa R R (Aj R)<|Ab R R<|Ak (i:=0) R R R ld139 R R R<|Ac<|Ae<|Ad tbk [0] 1 R R<|Ab R R<|Ay hm 0 R fn200 R (K27 _) fun r hm=>Ad tbk [] 2 R R<|C0 5 20 15 R (fun K' J=>Ad tbk [] 5 R R<|J 4 R R R) (fun h7 K' J=>Ad tbk [0] 2 R R<|Bk R R R R R (Ci R Bc)<|Ad tbk [] 2 R R<|J 4 R R R)<|Aa R R (Ai R)<|Bx hm 7 28 21 R (fun _ K' h8 J hm=>Ad tbk [] 7 R R<|J 6 R R (Bj hm)) (fun _ K' h8 J hm=>Ad tbk [0] 3 R R<|Bh R R R R R<|Ay hm 0 R fn124 R (K28 _ _) fun r2 hm=>Ad tbk [] 3 R R<|J 6 R R (Bj hm)) fun c hm=>Ac<|Ao hm R (fun h11 hm=>Ag tbk [] R R<|have hm:=Lr hm h2;Rt1 hm R [] R R R) fun h11 hm=>Al<|Ba tbk [] R R<|Ap () () hm (Be [] R ⟨R,R,R,congrArg some (k_next h4 h3),trivial⟩)
 exact Ae<|Aa R R (Ai R)<|Aa R R (A7 T_api_Group.vv R Ck)<|Ad tbk [] 2 R R<|Ac<|Rt1 hm R [] R R R

/-! trireme/group.decimal -/
def group_decimal : Nat → Int → Option ByteArray
 | 0, _ => none
 | nn + 1, n =>
  if (decide (n < 10)) = true then
   some (strOfNums [(IntKind.u8.wrap (i64.wrap (48 + n)))])
  else
   (V.quo n (10 : Int)).bind fun v =>
   (V.rem n (10 : Int)).bind fun v2 =>
   ((group_decimal nn) (i64.wrap v)).bind fun r =>
   (V.cat r (strOfNums [(IntKind.u8.wrap (i64.wrap (48 + v2)))])).bind fun v3 =>
   some v3
theorem K30 (nn : Nat) : ∀ (n : Int), VS Tryz.prog 179 (group_decimal nn n) [Iw n] [] .str N0 := by
 induction nn with
 | zero => intro n; exact VS.none (by rw [group_decimal])
 | succ nn ih =>
  intro n
  refine A8 [.tmp 2] Tryz.func179 R R R fun r hm=>?_
  rw [group_decimal] at hm
  refine Ag tbk [] R R<|Af<|Ag tbk [] R R<|Ao hm R (fun h1 hm=>Ae<|Ad tbk [] 2 R R<|Aa R R (D9 Dh C3 R)<|Ab R R<|A4 ap259 R R R R R fun b=>Av (Az 0 [(8,L5 [(IntKind.u8.wrap (IntKind.i64.wrap ((48 : Int) + n)))])] R ⟨⟨_,R,.here _ R⟩,trivial⟩ (FzH.refl _))<|Aa R R (VP.convBL (l:=[(IntKind.u8.wrap (IntKind.i64.wrap ((48 : Int) + n)))]) el259 C3 Bc R)<|Aa R R (Aj R)<|Ac<|Rt1 hm R [] R R R) fun h1 hm=>Al<|Af<|Bi 0 mixed<|Bb 0 R R R (by kernel_rfl) (Ai R)<|Bd hm fun v h3 hm=>Bb 1 R R R (by kernel_rfl) (VP.quoT R R h3)<|Bb 3 R R R (by kernel_rfl) (Ai R)<|Bd hm fun v2 h4 hm=>Bb 4 R R R (by kernel_rfl) (VP.remT R R h4)<|Bb 5 R R R (by kernel_rfl) (Br R R R)<|Bb 6 R R R (by kernel_rfl) (D9 Dh C3 R)<|?_
  refine B3 [2,7] (by kernel_rfl) ⟨?_,?_,trivial⟩
  ·refine Bd hm fun r h5 hm=>An R R R<|Aq 0 R fn179 R (ih (IntKind.i64.wrap v) r h5) fun _ _ h8=> ?_
   obtain ⟨rfl,rfl⟩:=h8
   exact Am 7 (by kernel_rfl)<|An R R R<|A4 ap259 R R R R R fun b2=>Cs (Az 0 [(17,L5 [(IntKind.u8.wrap (IntKind.i64.wrap ((48 : Int) + v2)))])] R ⟨⟨_,R,.here _ R⟩,trivial⟩ (FzH.refl _))<|Bb 8 R R R (by kernel_rfl) (VP.convBL (l:=[(IntKind.u8.wrap (IntKind.i64.wrap ((48 : Int) + v2)))]) el259 C3 Bc R)<|Bd hm fun v3 h7 hm=>Bb 9 R R R (by kernel_rfl) (Du R R h7)<|Bb 10 R R R (by kernel_rfl) (Aj R)<|A5 (by kernel_rfl)<|Rt1 hm R [] R R R
  ·refine An R R R<|A4 ap259 R R R R R fun b3=>Cs (Az 0 [(17,L5 [(IntKind.u8.wrap (IntKind.i64.wrap ((48 : Int) + v2)))])] R ⟨⟨_,R,.here _ R⟩,trivial⟩ (FzH.refl _))<|Bb 8 R R R (by kernel_rfl) (VP.convBL (l:=[(IntKind.u8.wrap (IntKind.i64.wrap ((48 : Int) + v2)))]) el259 C3 Bc R)<|Am 2 (by kernel_rfl)<|Bd hm fun r2 h10 hm=>An R R R<|Aq 0 R fn179 R (ih (IntKind.i64.wrap v) r2 h10) fun _ _ h12=> ?_
   obtain ⟨rfl,rfl⟩:=h12
   exact Bd hm fun v4 h11 hm=>Bb 9 R R R (by kernel_rfl) (Du R R h11)<|Bb 10 R R R (by kernel_rfl) (Aj R)<|A5 (by kernel_rfl)<|Rt1 hm R [] R R R

/-! trireme/group.Machine -/
def group_Machine (g : T_api_Group) (n : Int) : Option T_api_Machine :=
 if ((decide (n < 1)) || (decide (n > 999999999))) = true then
  some (⟨(⟨#[]⟩ : ByteArray), (⟨#[]⟩ : ByteArray), (⟨0, 0, 0, 0, 0⟩ : T_api_Res), ([] : List T_api_Label), ([] : List T_api_Taint), false⟩ : T_api_Machine)
 else
  (V.cat g.Name (⟨#[45]⟩ : ByteArray)).bind fun v =>
  (group_decimal FU n).bind fun r =>
  (V.cat v r).bind fun v2 =>
  (V.ap 32 ([] : List T_api_Label) g.Like.Labels).bind fun l =>
  (V.ap 40 ([] : List T_api_Taint) g.Like.Taints).bind fun l2 =>
  some (⟨v2, g.Like.Group, g.Like.Has, l, l2, g.Like.Ready⟩ : T_api_Machine)
theorem K31 (g : T_api_Group) (n : Int) : VS Tryz.prog 125 (group_Machine g n) [T_api_Group.vv g, Iw n] [] (fun r=>T_api_Machine.vv r) N0 := by
 refine A8 [.cell 4 68] Tryz.func125 R R R fun r hm=>?_
 unfold group_Machine at hm
 refine Ae<|Ab R R<|Bg R R fun b=>Ab R R<|Au z68 fun b2=>Ac<|Af<|Ae<|Ad tbk [] 3 R R<|Cq tbk [] 3 11 8 R R R R R<|Ac<|Ao hm R (fun h4 hm=>Ae<|Aa R R (Bn pl68 R R)<|Ab R R<|Ak (i:=0) R R R ld68 R R R<|Ac<|Bu (Bf 232)<|Bu (Az (H':=[.box b2 68 [.str (⟨#[]⟩ : ByteArray),.str (⟨#[]⟩ : ByteArray),Iw (0 : Int),Iw (0 : Int),Iw (0 : Int),Iw (0 : Int),Iw (0 : Int),L232 ([] : List T_api_Label),.sl none 0 0,.bool false],X139 b g]) 0 [] R trivial ⟨.box _ _ _ _ ⟨.same _,.same _,.same _,.same _,.same _,.same _,.same _,.here _ R,.same _,.same _,trivial⟩,.same _,trivial⟩)<|Bu (Bf 31)<|Bu (Az (H':=[X68 b2 (⟨(⟨#[]⟩ : ByteArray),(⟨#[]⟩ : ByteArray),(⟨(0 : Int),(0 : Int),(0 : Int),(0 : Int),(0 : Int)⟩ : T_api_Res),([] : List T_api_Label),([] : List T_api_Taint),false⟩ : T_api_Machine),X139 b g]) 0 [] R trivial ⟨.box _ _ _ _ ⟨.same _,.same _,.same _,.same _,.same _,.same _,.same _,.same _,.here _ R,.same _,trivial⟩,.same _,trivial⟩)<|Rt0 hm R [] (.cons (.cell _ _ _ _ 0 _ _ _ _ R R ld68 R) .nil) R R) fun h4 hm=>Al<|Ae<|Ad tbk [1] 2 R R<|Ab R R<|Au z68 fun b3=>Ab R R<|Ak (i:=0) R R R ld68 R R R<|Ac<|Af<|Bi 1 mixed<|A9 tbk [0,1] [1] (by kernel_rfl) R R R<|Bd hm fun v h6 hm=>Bb 2 R R R (by kernel_rfl) (Du R R h6)<|Bb 3 R R R (by kernel_rfl) (Ai R)<|Am 4 (by kernel_rfl)<|Bd hm fun r h7 hm=>An R R R<|Aq 0 R fn179 R (K30 FU n r h7) fun _ _ h13=> ?_
 obtain ⟨rfl,rfl⟩:=h13
 exact Bd hm fun v2 h8 hm=>Bb 5 R R R (by kernel_rfl) (Du R R h8)<|Bb 6 R R R (by kernel_rfl) (C7 R fa68_0)<|Am 7 (by kernel_rfl)<|An R R R<|Ak (i:=0) R R R ld9 R R R<|A5 (by kernel_rfl)<|Ae<|Ad tbk [0] 2 R R<|Av (Bf 232)<|Bd hm fun l h10 hm=>Ab R R<|Bo 0 T_api_Label.vv (l:=([] : List T_api_Label)) (l2:=g.Like.Labels) ap24 R R (sT_list T_api_Label.vv el24 R R) h10 fun ob cap=>Aa R R (C7 R fa68_3)<|Ab R R<|Ak (i:=1) R R R ld24 R R R<|Ac<|Ae<|Ad tbk [1] 2 R R<|Av (Bf 31)<|Bd hm fun l2 h12 hm=>Ab R R<|Bo 0 T_api_Taint.vv (l:=([] : List T_api_Taint)) (l2:=g.Like.Taints) ap66 R R (sT_list T_api_Taint.vv el66 R R) h12 fun ob2 cap2=>Aa R R (C7 R fa68_4)<|Ab R R<|Ak (i:=2) R R R ld66 R R R<|Ac<|Ae<|Ad tbk [2] 1 R R<|Ab R R<|Ak (i:=3) R R R ld68 R R R<|Ac<|Bu (Az (H':=[Q31 ob2 cap2 l2,.box b3 68 [.str v2,.str g.Like.Group,Iw g.Like.Has.Cpu,Iw g.Like.Has.Mem,Iw g.Like.Has.Disk,Iw g.Like.Has.Pods,Iw g.Like.Has.Dev,L232 l,Z31 ob2 l2 cap2,.bool g.Like.Ready],.box b2 68 [.str v2,.str g.Like.Group,Iw g.Like.Has.Cpu,Iw g.Like.Has.Mem,Iw g.Like.Has.Disk,Iw g.Like.Has.Pods,Iw g.Like.Has.Dev,L232 l,Z31 ob2 l2 cap2,.bool g.Like.Ready],X139 b g]) 1 [(24,L232 l),(30,.agg [.str v2,.str g.Like.Group,Iw g.Like.Has.Cpu,Iw g.Like.Has.Mem,Iw g.Like.Has.Disk,Iw g.Like.Has.Pods,Iw g.Like.Has.Dev,L232 l,Z31 ob2 l2 cap2,.bool g.Like.Ready])] R ⟨⟨_,R,.here _ R⟩,⟨_,R,.aggL ⟨.same _,.same _,.same _,.same _,.same _,.same _,.same _,.here _ R,.same _,.same _,trivial⟩⟩,trivial⟩ ⟨.same _,.box _ _ _ _ ⟨.same _,.same _,.same _,.same _,.same _,.same _,.same _,.here _ R,.same _,.same _,trivial⟩,.box _ _ _ _ ⟨.same _,.same _,.same _,.same _,.same _,.same _,.same _,.here _ R,.same _,.same _,trivial⟩,.same _,trivial⟩)<|Bu (Az (H':=[X68 b3 (⟨v2,g.Like.Group,g.Like.Has,l,l2,g.Like.Ready⟩ : T_api_Machine),X68 b2 (⟨v2,g.Like.Group,g.Like.Has,l,l2,g.Like.Ready⟩ : T_api_Machine),X139 b g]) 0 [(28,L31 l2),(30,T_api_Machine.vv (⟨v2,g.Like.Group,g.Like.Has,l,l2,g.Like.Ready⟩ : T_api_Machine))] R ⟨⟨_,R,.here _ R⟩,⟨_,R,.aggL ⟨.same _,.same _,.same _,.same _,.same _,.same _,.same _,.same _,.here _ R,.same _,trivial⟩⟩,trivial⟩ ⟨.box _ _ _ _ ⟨.same _,.same _,.same _,.same _,.same _,.same _,.same _,.same _,.here _ R,.same _,trivial⟩,.box _ _ _ _ ⟨.same _,.same _,.same _,.same _,.same _,.same _,.same _,.same _,.here _ R,.same _,trivial⟩,.same _,trivial⟩)<|Rt0 hm R [] (.cons (.cell _ _ _ _ 1 _ _ _ _ R R ld68 R) .nil) R R

/-! (*trireme/cloud.Cloud).more -/
def cloud_Cloud_more.l1 (p : Nat) (n : Int) (in_ : I_cloud_state) : Nat → T_cloud_Cloud → Int → (List T_cloud_pool) → (List T_cloud_inst) → Option (T_cloud_Cloud × List T_cloud_pool × List T_cloud_inst)
 | 0, _, _, _, _ => none
 | n2 + 1, c3, v2, ps2, xs2 =>
  if (decide (v2 < n)) = true then
   (V.pg ps2 p).bind fun x2 =>
   (V.pg ps2 p).bind fun x3 =>
   (V.pg (V.pst ps2 p (⟨x3.Group, x3.target, (i64.wrap (x2.last + 1)), x3.broken⟩ : T_cloud_pool)) p).bind fun x4 =>
   (V.pg (V.pst ps2 p (⟨x3.Group, x3.target, (i64.wrap (x2.last + 1)), x3.broken⟩ : T_cloud_pool)) p).bind fun x5 =>
   (group_Machine x4.Group x5.last).bind fun r =>
   (V.ap 8 c3.insts [(xs2.length + 1)]).bind fun l2 =>
   cloud_Cloud_more.l1 p n in_ n2 (⟨c3.pools, l2, c3.delay, c3.now, c3.calls⟩ : T_cloud_Cloud) (i64.wrap (v2 + 1)) (V.pst ps2 p (⟨x3.Group, x3.target, (i64.wrap (x2.last + 1)), x3.broken⟩ : T_cloud_pool)) (xs2 ++ [(⟨r.Name, p, c3.now, in_⟩ : T_cloud_inst)])
  else
   some (c3, ps2, xs2)
def cloud_Cloud_more (c : T_cloud_Cloud) (p : Nat) (n : Int) (in_ : I_cloud_state) (pools : List T_cloud_pool) (insts : List T_cloud_inst) : Option (T_cloud_Cloud × List T_cloud_pool × List T_cloud_inst) :=
 (cloud_Cloud_more.l1 p n in_ FU c 0 pools insts).bind fun j =>
 some (j.1, j.2.1, j.2.2)
theorem K32 (A0 A1 : Nat) (c : T_cloud_Cloud) (p : Nat) (n : Int) (in_ : I_cloud_state) (pools : List T_cloud_pool) (insts : List T_cloud_inst) (b : Nat) (ob : Option Nat) (cap : Nat) (ob2 : Option Nat) (cap2 : Nat) (bs : List Nat) (bs2 : List Nat) : ∀ r : T_cloud_Cloud × List T_cloud_pool × List T_cloud_inst, cloud_Cloud_more c p n in_ pools insts = some r → VC Tryz.prog 82 [.ptr b 0, V.Pp A0 p, Iw n, I_cloud_state.vv in_] [.box b 149 [Z140 A0 A1 ob c.pools cap, Z152 A0 A1 ob2 c.insts cap2, Iw c.delay, Iw c.now, Iw c.calls], Q140 A0 A1 ob cap c.pools, Q152 A0 A1 ob2 cap2 c.insts, .ar A0 144 bs (List.map T_cloud_pool.cells pools), .ar A1 157 bs2 (List.map (T_cloud_inst.cells A0 A1) insts)] fun zx zH => ∃ (ob0_0 : Option Nat) (cap0_0 : Nat) (ob0_1 : Option Nat) (cap0_1 : Nat) (bs_1 : List Nat) (bs_2 : List Nat), zx = .tup [] ∧ zH = [.box b 149 [Z140 A0 A1 ob0_0 r.1.pools cap0_0, Z152 A0 A1 ob0_1 r.1.insts cap0_1, Iw r.1.delay, Iw r.1.now, Iw r.1.calls], Q140 A0 A1 ob0_0 cap0_0 r.1.pools, Q152 A0 A1 ob0_1 cap0_1 r.1.insts, .ar A0 144 bs_1 (List.map T_cloud_pool.cells r.2.1), .ar A1 157 bs_2 (List.map (T_cloud_inst.cells A0 A1) r.2.2)] := by
 refine Cl [] Tryz.func82 R R R fun r hm=>?_
 unfold cloud_Cloud_more at hm
 refine Ag tbk [] R R<|Cc hm (fun _ (gg:Option Nat × Nat × List Nat)=>[]) (fun j (gg:Option Nat × Nat × List Nat)=>[.box b 149 [Z140 A0 A1 ob j.1.pools cap,Z152 A0 A1 gg.1 j.1.insts gg.2.1,Iw j.1.delay,Iw j.1.now,Iw j.1.calls],Q140 A0 A1 ob cap j.1.pools,Q152 A0 A1 gg.1 gg.2.1 j.1.insts,.ar A0 144 bs (List.map T_cloud_pool.cells j.2.1),.ar A1 157 gg.2.2 (List.map (T_cloud_inst.cells A0 A1) j.2.2)]) (fun o hm=>?_) fun j=>Pq fun ob5=>Pq fun cap5 bs5 hm=> ?_
 ·refine Ca (fun zn (zs:T_cloud_Cloud × Int × List T_cloud_pool × List T_cloud_inst)=>cloud_Cloud_more.l1 p n in_ zn zs.1 zs.2.1 zs.2.2.1 zs.2.2.2) (fun zs (_:Option Nat × Nat × List Nat)=>[(0,.ptr b 0),(1,V.Pp A0 p),(3,I_cloud_state.vv in_),(8,Iw n),(9,Iw zs.2.1)]) (fun zs (zg:Option Nat × Nat × List Nat)=>[.box b 149 [Z140 A0 A1 ob zs.1.pools cap,Z152 A0 A1 zg.1 zs.1.insts zg.2.1,Iw zs.1.delay,Iw zs.1.now,Iw zs.1.calls],Q140 A0 A1 ob cap zs.1.pools,Q152 A0 A1 zg.1 zg.2.1 zs.1.insts,.ar A0 144 bs (List.map T_cloud_pool.cells zs.2.2.1),.ar A1 157 zg.2.2 (List.map (T_cloud_inst.cells A0 A1) zs.2.2.2)]) (c,(0 : Int),pools,insts) (ob2,cap2,bs2) (fun _=>R) hm (Ah [0,1,2,3,4] R R) fun n2=>Pq fun c3=>Pq fun v2=>Pq fun ps2 xs2=>Pq fun ob4=>Pq fun cap4 bs4 hm=> ?_
  rw [cloud_Cloud_more.l1] at hm
  refine Ag tbk [] R R<|Af<|Ao hm R (fun h3 hm=>?_) fun h3 hm=> ?_
  ·refine Al<|Af<|Aw<|Ae<|Aa R R (Ai R)<|Bd hm fun x2 h4 hm=>Aa R R (Bp R h4)<|Aa R R (B2 R h4 fa144_2)<|Aa R R (Cb 3 (f:=T_cloud_pool.cells) (y:=x2) R R h4 ld3 R)<|Aa R R (Br R R R)<|Bd hm fun x3 h5 hm=>Aa R R (Bp R h5)<|Aa R R (B2 R h5 fa144_2)<|Ab R R<|Di 3 (f:=T_cloud_pool.cells) (u:=x3) (u':=(⟨x3.Group,x3.target,(IntKind.i64.wrap (x2.last + (1 : Int))),x3.broken⟩ : T_cloud_pool)) R R R h5 ld3 R R R R<|Ac<|Bu (Ax [0,2,4,1,3] R)<|Bi 3 mixed<|A9 tbk [0,1,2,3,5] [] (by kernel_rfl) R R R<|Bd hm fun x4 h6 hm=>Bb 6 R R R (by kernel_rfl) (Bp R h6)<|Bb 7 R R R (by kernel_rfl) (B2 R h6 fa144_0)<|Bb 8 R R R (by kernel_rfl) (Cb 1 (f:=T_cloud_pool.cells) (y:=x4) R R h6 ld139 R)<|Bb 9 R R R (by kernel_rfl) (Ai R)<|Bd hm fun x5 h7 hm=>Bb 10 R R R (by kernel_rfl) (Bp R h7)<|Bb 11 R R R (by kernel_rfl) (B2 R h7 fa144_2)<|Bb 12 R R R (by kernel_rfl) (Cb 1 (f:=T_cloud_pool.cells) (y:=x5) R R h7 ld3 R)<|A9 tbk [15,16,17,18,20] [] (by kernel_rfl) R R R<|?_
   refine B3 [4,13,19] (by kernel_rfl) ⟨?_,?_,?_,trivial⟩
   ·refine An R R R<|B7 (B0 (i:=0) R R ld147 R)<|?_
    refine B3 [13,19] (by kernel_rfl) ⟨?_,?_,trivial⟩
    ·refine Bd hm fun r h8 hm=>An R R R<|Aq 0 R fn125 R (K31 x4.Group x5.last r h8) fun _ _ h11=> ?_
     obtain ⟨rfl,rfl⟩:=h11
     exact Bb 14 R R R (by kernel_rfl) (D3 R fd68_0 R)<|Am 19 (by kernel_rfl)<|An R R R<|B7 (B0 (i:=0) R R ld3 R)<|Bb 21 R R R (by kernel_rfl) (Bn pl157 R R)<|Am 22 (by kernel_rfl)<|An R R R<|Dj 2 (f:=(T_cloud_inst.cells A0 A1)) (l:=xs2) (y:=(⟨r.Name,p,c3.now,in_⟩ : T_cloud_inst)) R R R R fun b2=>Am 23 (by kernel_rfl)<|An R R R<|A4 ap147 R R R R R fun b3=>Am 24 (by kernel_rfl)<|Bd hm fun l2 h10 hm=>An R R R<|Bo 2 (V.Pp A1) (l:=c3.insts) (l2:=[(xs2.length + 1)]) ap147 R R (sT_row 0 (V.Pp A1) el147 R R) h10 fun ob6 cap6=>A9 tbk [25,26] [] (by kernel_rfl) R R R<|Am 27 (by kernel_rfl)<|An R R R<|Ak (i:=1) R R R ld147 R R R<|A5 (by kernel_rfl)<|Ba tbk [] R R<|Ap ((⟨c3.pools,l2,c3.delay,c3.now,c3.calls⟩ : T_cloud_Cloud),(IntKind.i64.wrap (v2 + (1 : Int))),(V.pst ps2 p (⟨x3.Group,x3.target,(IntKind.i64.wrap (x2.last + (1 : Int))),x3.broken⟩ : T_cloud_pool)),(xs2 ++ [(⟨r.Name,p,c3.now,in_⟩ : T_cloud_inst)])) (ob6,cap6,(bs4 ++ [b2])) hm (Ah [1,4,2,5,3] R R)
    ·refine An R R R<|B7 (B0 (i:=0) R R ld3 R)<|Am 13 (by kernel_rfl)<|Bd hm fun r2 h12 hm=>An R R R<|Aq 0 R fn125 R (K31 x4.Group x5.last r2 h12) fun _ _ h15=> ?_
     obtain ⟨rfl,rfl⟩:=h15
     exact Bb 14 R R R (by kernel_rfl) (D3 R fd68_0 R)<|Bb 21 R R R (by kernel_rfl) (Bn pl157 R R)<|Am 22 (by kernel_rfl)<|An R R R<|Dj 2 (f:=(T_cloud_inst.cells A0 A1)) (l:=xs2) (y:=(⟨r2.Name,p,c3.now,in_⟩ : T_cloud_inst)) R R R R fun b4=>Am 23 (by kernel_rfl)<|An R R R<|A4 ap147 R R R R R fun b5=>Am 24 (by kernel_rfl)<|Bd hm fun l3 h14 hm=>An R R R<|Bo 2 (V.Pp A1) (l:=c3.insts) (l2:=[(xs2.length + 1)]) ap147 R R (sT_row 0 (V.Pp A1) el147 R R) h14 fun ob7 cap7=>A9 tbk [25,26] [] (by kernel_rfl) R R R<|Am 27 (by kernel_rfl)<|An R R R<|Ak (i:=1) R R R ld147 R R R<|A5 (by kernel_rfl)<|Ba tbk [] R R<|Ap ((⟨c3.pools,l3,c3.delay,c3.now,c3.calls⟩ : T_cloud_Cloud),(IntKind.i64.wrap (v2 + (1 : Int))),(V.pst ps2 p (⟨x3.Group,x3.target,(IntKind.i64.wrap (x2.last + (1 : Int))),x3.broken⟩ : T_cloud_pool)),(xs2 ++ [(⟨r2.Name,p,c3.now,in_⟩ : T_cloud_inst)])) (ob7,cap7,(bs4 ++ [b4])) hm (Ah [1,4,2,5,3] R R)
   ·refine Bd hm fun r3 h16 hm=>An R R R<|Aq 0 R fn125 R (K31 x4.Group x5.last r3 h16) fun _ _ h25=> ?_
    obtain ⟨rfl,rfl⟩:=h25
    refine Bb 14 R R R (by kernel_rfl) (D3 R fd68_0 R)<|?_
    refine B3 [4,19] (by kernel_rfl) ⟨?_,?_,trivial⟩
    ·exact An R R R<|B7 (B0 (i:=0) R R ld147 R)<|Am 19 (by kernel_rfl)<|An R R R<|B7 (B0 (i:=0) R R ld3 R)<|Bb 21 R R R (by kernel_rfl) (Bn pl157 R R)<|Am 22 (by kernel_rfl)<|An R R R<|Dj 2 (f:=(T_cloud_inst.cells A0 A1)) (l:=xs2) (y:=(⟨r3.Name,p,c3.now,in_⟩ : T_cloud_inst)) R R R R fun b6=>Am 23 (by kernel_rfl)<|An R R R<|A4 ap147 R R R R R fun b7=>Am 24 (by kernel_rfl)<|Bd hm fun l4 h18 hm=>An R R R<|Bo 2 (V.Pp A1) (l:=c3.insts) (l2:=[(xs2.length + 1)]) ap147 R R (sT_row 0 (V.Pp A1) el147 R R) h18 fun ob8 cap8=>A9 tbk [25,26] [] (by kernel_rfl) R R R<|Am 27 (by kernel_rfl)<|An R R R<|Ak (i:=1) R R R ld147 R R R<|A5 (by kernel_rfl)<|Ba tbk [] R R<|Ap ((⟨c3.pools,l4,c3.delay,c3.now,c3.calls⟩ : T_cloud_Cloud),(IntKind.i64.wrap (v2 + (1 : Int))),(V.pst ps2 p (⟨x3.Group,x3.target,(IntKind.i64.wrap (x2.last + (1 : Int))),x3.broken⟩ : T_cloud_pool)),(xs2 ++ [(⟨r3.Name,p,c3.now,in_⟩ : T_cloud_inst)])) (ob8,cap8,(bs4 ++ [b6])) hm (Ah [1,4,2,5,3] R R)
    ·refine An R R R<|B7 (B0 (i:=0) R R ld3 R)<|Bb 21 R R R (by kernel_rfl) (Bn pl157 R R)<|?_
     refine B3 [4,22] (by kernel_rfl) ⟨?_,?_,trivial⟩
     ·exact An R R R<|B7 (B0 (i:=0) R R ld147 R)<|Am 22 (by kernel_rfl)<|An R R R<|Dj 2 (f:=(T_cloud_inst.cells A0 A1)) (l:=xs2) (y:=(⟨r3.Name,p,c3.now,in_⟩ : T_cloud_inst)) R R R R fun b8=>Am 23 (by kernel_rfl)<|An R R R<|A4 ap147 R R R R R fun b9=>Am 24 (by kernel_rfl)<|Bd hm fun l5 h20 hm=>An R R R<|Bo 2 (V.Pp A1) (l:=c3.insts) (l2:=[(xs2.length + 1)]) ap147 R R (sT_row 0 (V.Pp A1) el147 R R) h20 fun ob9 cap9=>A9 tbk [25,26] [] (by kernel_rfl) R R R<|Am 27 (by kernel_rfl)<|An R R R<|Ak (i:=1) R R R ld147 R R R<|A5 (by kernel_rfl)<|Ba tbk [] R R<|Ap ((⟨c3.pools,l5,c3.delay,c3.now,c3.calls⟩ : T_cloud_Cloud),(IntKind.i64.wrap (v2 + (1 : Int))),(V.pst ps2 p (⟨x3.Group,x3.target,(IntKind.i64.wrap (x2.last + (1 : Int))),x3.broken⟩ : T_cloud_pool)),(xs2 ++ [(⟨r3.Name,p,c3.now,in_⟩ : T_cloud_inst)])) (ob9,cap9,(bs4 ++ [b8])) hm (Ah [1,4,2,5,3] R R)
     ·refine An R R R<|Dj 2 (f:=(T_cloud_inst.cells A0 A1)) (l:=xs2) (y:=(⟨r3.Name,p,c3.now,in_⟩ : T_cloud_inst)) R R R R fun b10=> ?_
      refine B3 [4,23] (by kernel_rfl) ⟨?_,?_,trivial⟩
      ·exact An R R R<|B7 (B0 (i:=0) R R ld147 R)<|Am 23 (by kernel_rfl)<|An R R R<|A4 ap147 R R R R R fun b11=>Am 24 (by kernel_rfl)<|Bd hm fun l6 h22 hm=>An R R R<|Bo 2 (V.Pp A1) (l:=c3.insts) (l2:=[(xs2.length + 1)]) ap147 R R (sT_row 0 (V.Pp A1) el147 R R) h22 fun ob10 cap10=>A9 tbk [25,26] [] (by kernel_rfl) R R R<|Am 27 (by kernel_rfl)<|An R R R<|Ak (i:=1) R R R ld147 R R R<|A5 (by kernel_rfl)<|Ba tbk [] R R<|Ap ((⟨c3.pools,l6,c3.delay,c3.now,c3.calls⟩ : T_cloud_Cloud),(IntKind.i64.wrap (v2 + (1 : Int))),(V.pst ps2 p (⟨x3.Group,x3.target,(IntKind.i64.wrap (x2.last + (1 : Int))),x3.broken⟩ : T_cloud_pool)),(xs2 ++ [(⟨r3.Name,p,c3.now,in_⟩ : T_cloud_inst)])) (ob10,cap10,(bs4 ++ [b10])) hm (Ah [1,4,2,5,3] R R)
      ·exact An R R R<|A4 ap147 R R R R R fun b12=>Am 4 (by kernel_rfl)<|An R R R<|B7 (B0 (i:=1) R R ld147 R)<|Am 24 (by kernel_rfl)<|Bd hm fun l7 h24 hm=>An R R R<|Bo 2 (V.Pp A1) (l:=c3.insts) (l2:=[(xs2.length + 1)]) ap147 R R (sT_row 0 (V.Pp A1) el147 R R) h24 fun ob11 cap11=>A9 tbk [25,26] [] (by kernel_rfl) R R R<|Am 27 (by kernel_rfl)<|An R R R<|Ak (i:=1) R R R ld147 R R R<|A5 (by kernel_rfl)<|Ba tbk [] R R<|Ap ((⟨c3.pools,l7,c3.delay,c3.now,c3.calls⟩ : T_cloud_Cloud),(IntKind.i64.wrap (v2 + (1 : Int))),(V.pst ps2 p (⟨x3.Group,x3.target,(IntKind.i64.wrap (x2.last + (1 : Int))),x3.broken⟩ : T_cloud_pool)),(xs2 ++ [(⟨r3.Name,p,c3.now,in_⟩ : T_cloud_inst)])) (ob11,cap11,(bs4 ++ [b10])) hm (Ah [1,4,2,5,3] R R)
   ·refine An R R R<|B7 (B0 (i:=0) R R ld3 R)<|?_
    refine B3 [4,13] (by kernel_rfl) ⟨?_,?_,trivial⟩
    ·refine An R R R<|B7 (B0 (i:=0) R R ld147 R)<|Am 13 (by kernel_rfl)<|Bd hm fun r4 h26 hm=>An R R R<|Aq 0 R fn125 R (K31 x4.Group x5.last r4 h26) fun _ _ h29=> ?_
     obtain ⟨rfl,rfl⟩:=h29
     exact Bb 14 R R R (by kernel_rfl) (D3 R fd68_0 R)<|Bb 21 R R R (by kernel_rfl) (Bn pl157 R R)<|Am 22 (by kernel_rfl)<|An R R R<|Dj 2 (f:=(T_cloud_inst.cells A0 A1)) (l:=xs2) (y:=(⟨r4.Name,p,c3.now,in_⟩ : T_cloud_inst)) R R R R fun b13=>Am 23 (by kernel_rfl)<|An R R R<|A4 ap147 R R R R R fun b14=>Am 24 (by kernel_rfl)<|Bd hm fun l8 h28 hm=>An R R R<|Bo 2 (V.Pp A1) (l:=c3.insts) (l2:=[(xs2.length + 1)]) ap147 R R (sT_row 0 (V.Pp A1) el147 R R) h28 fun ob12 cap12=>A9 tbk [25,26] [] (by kernel_rfl) R R R<|Am 27 (by kernel_rfl)<|An R R R<|Ak (i:=1) R R R ld147 R R R<|A5 (by kernel_rfl)<|Ba tbk [] R R<|Ap ((⟨c3.pools,l8,c3.delay,c3.now,c3.calls⟩ : T_cloud_Cloud),(IntKind.i64.wrap (v2 + (1 : Int))),(V.pst ps2 p (⟨x3.Group,x3.target,(IntKind.i64.wrap (x2.last + (1 : Int))),x3.broken⟩ : T_cloud_pool)),(xs2 ++ [(⟨r4.Name,p,c3.now,in_⟩ : T_cloud_inst)])) (ob12,cap12,(bs4 ++ [b13])) hm (Ah [1,4,2,5,3] R R)
    ·refine Bd hm fun r5 h30 hm=>An R R R<|Aq 0 R fn125 R (K31 x4.Group x5.last r5 h30) fun _ _ h37=> ?_
     obtain ⟨rfl,rfl⟩:=h37
     refine Bb 14 R R R (by kernel_rfl) (D3 R fd68_0 R)<|Bb 21 R R R (by kernel_rfl) (Bn pl157 R R)<|?_
     refine B3 [4,22] (by kernel_rfl) ⟨?_,?_,trivial⟩
     ·exact An R R R<|B7 (B0 (i:=0) R R ld147 R)<|Am 22 (by kernel_rfl)<|An R R R<|Dj 2 (f:=(T_cloud_inst.cells A0 A1)) (l:=xs2) (y:=(⟨r5.Name,p,c3.now,in_⟩ : T_cloud_inst)) R R R R fun b15=>Am 23 (by kernel_rfl)<|An R R R<|A4 ap147 R R R R R fun b16=>Am 24 (by kernel_rfl)<|Bd hm fun l9 h32 hm=>An R R R<|Bo 2 (V.Pp A1) (l:=c3.insts) (l2:=[(xs2.length + 1)]) ap147 R R (sT_row 0 (V.Pp A1) el147 R R) h32 fun ob13 cap13=>A9 tbk [25,26] [] (by kernel_rfl) R R R<|Am 27 (by kernel_rfl)<|An R R R<|Ak (i:=1) R R R ld147 R R R<|A5 (by kernel_rfl)<|Ba tbk [] R R<|Ap ((⟨c3.pools,l9,c3.delay,c3.now,c3.calls⟩ : T_cloud_Cloud),(IntKind.i64.wrap (v2 + (1 : Int))),(V.pst ps2 p (⟨x3.Group,x3.target,(IntKind.i64.wrap (x2.last + (1 : Int))),x3.broken⟩ : T_cloud_pool)),(xs2 ++ [(⟨r5.Name,p,c3.now,in_⟩ : T_cloud_inst)])) (ob13,cap13,(bs4 ++ [b15])) hm (Ah [1,4,2,5,3] R R)
     ·refine An R R R<|Dj 2 (f:=(T_cloud_inst.cells A0 A1)) (l:=xs2) (y:=(⟨r5.Name,p,c3.now,in_⟩ : T_cloud_inst)) R R R R fun b17=> ?_
      refine B3 [4,23] (by kernel_rfl) ⟨?_,?_,trivial⟩
      ·exact An R R R<|B7 (B0 (i:=0) R R ld147 R)<|Am 23 (by kernel_rfl)<|An R R R<|A4 ap147 R R R R R fun b18=>Am 24 (by kernel_rfl)<|Bd hm fun l10 h34 hm=>An R R R<|Bo 2 (V.Pp A1) (l:=c3.insts) (l2:=[(xs2.length + 1)]) ap147 R R (sT_row 0 (V.Pp A1) el147 R R) h34 fun ob14 cap14=>A9 tbk [25,26] [] (by kernel_rfl) R R R<|Am 27 (by kernel_rfl)<|An R R R<|Ak (i:=1) R R R ld147 R R R<|A5 (by kernel_rfl)<|Ba tbk [] R R<|Ap ((⟨c3.pools,l10,c3.delay,c3.now,c3.calls⟩ : T_cloud_Cloud),(IntKind.i64.wrap (v2 + (1 : Int))),(V.pst ps2 p (⟨x3.Group,x3.target,(IntKind.i64.wrap (x2.last + (1 : Int))),x3.broken⟩ : T_cloud_pool)),(xs2 ++ [(⟨r5.Name,p,c3.now,in_⟩ : T_cloud_inst)])) (ob14,cap14,(bs4 ++ [b17])) hm (Ah [1,4,2,5,3] R R)
      ·exact An R R R<|A4 ap147 R R R R R fun b19=>Am 4 (by kernel_rfl)<|An R R R<|B7 (B0 (i:=1) R R ld147 R)<|Am 24 (by kernel_rfl)<|Bd hm fun l11 h36 hm=>An R R R<|Bo 2 (V.Pp A1) (l:=c3.insts) (l2:=[(xs2.length + 1)]) ap147 R R (sT_row 0 (V.Pp A1) el147 R R) h36 fun ob15 cap15=>A9 tbk [25,26] [] (by kernel_rfl) R R R<|Am 27 (by kernel_rfl)<|An R R R<|Ak (i:=1) R R R ld147 R R R<|A5 (by kernel_rfl)<|Ba tbk [] R R<|Ap ((⟨c3.pools,l11,c3.delay,c3.now,c3.calls⟩ : T_cloud_Cloud),(IntKind.i64.wrap (v2 + (1 : Int))),(V.pst ps2 p (⟨x3.Group,x3.target,(IntKind.i64.wrap (x2.last + (1 : Int))),x3.broken⟩ : T_cloud_pool)),(xs2 ++ [(⟨r5.Name,p,c3.now,in_⟩ : T_cloud_inst)])) (ob15,cap15,(bs4 ++ [b17])) hm (Ah [1,4,2,5,3] R R)
  exact A6<|As (ob4,cap4,bs4) hm (Ah [0,1,2,3,4] R R)
 obtain rfl:=Option.some.inj hm
 exact ⟨.inr R,_,.nil,[0,1,2,3,4],_,R,ob,cap,ob5,cap5,bs,bs5,R,R⟩

/-! trireme/cloud.New -/
def cloud_New.l1 : List T_api_Group → Nat → T_cloud_Cloud → (List T_cloud_pool) → (List T_cloud_inst) → Option (T_cloud_Cloud × List T_cloud_pool × List T_cloud_inst)
 | [], k, c2, ps2, xs2 => some (c2, ps2, xs2)
 | x :: l2, k, c2, ps2, xs2 =>
  (V.ap 8 c2.pools [(ps2.length + 1)]).bind fun l3 =>
  (cloud_Cloud_more (⟨l3, c2.insts, c2.delay, c2.now, c2.calls⟩ : T_cloud_Cloud) (ps2.length + 1) x.Min (I_cloud_state.c160 (⟨⟩ : T_cloud_running)) (ps2 ++ [(⟨x, x.Min, 0, false⟩ : T_cloud_pool)]) xs2).bind fun r2 =>
  cloud_New.l1 l2 (k + 1) r2.1 r2.2.1 r2.2.2
def cloud_New (l : List T_api_Group) (delay : Int) (pools : List T_cloud_pool) (insts : List T_cloud_inst) : Option (Option T_cloud_Cloud × Int × List T_cloud_pool × List T_cloud_inst) :=
 (group_Right l).bind fun r =>
 if (!r) = true then
  some (none, 12, pools, insts)
 else
  if ((decide (delay < 1)) || (decide (delay > 1000))) = true then
   some (none, 1, pools, insts)
  else
   (cloud_New.l1 l 0 (⟨([] : List Nat), ([] : List Nat), delay, 0, 0⟩ : T_cloud_Cloud) pools insts).bind fun j =>
   some ((some j.1), 0, j.2.1, j.2.2)
theorem K33 (A0 A1 : Nat) (l : List T_api_Group) (delay : Int) (pools : List T_cloud_pool) (insts : List T_cloud_inst) (bs : List Nat) (bs2 : List Nat) : ∀ r : Option T_cloud_Cloud × Int × List T_cloud_pool × List T_cloud_inst, cloud_New l delay pools insts = some r → VC Tryz.prog 90 [L139 l, Iw delay] [.ar A0 144 bs (List.map T_cloud_pool.cells pools), .ar A1 157 bs2 (List.map (T_cloud_inst.cells A0 A1) insts)] fun zx zH => ∃ (b_0_1 : Nat) (ob_0_2 : Option Nat) (cap_0_3 : Nat) (ob_0_4 : Option Nat) (cap_0_5 : Nat) (bs_0 : List Nat) (bs_1 : List Nat), zx = .tup [(po r.1 .nilptr fun _ => .ptr b_0_1 0), Iw r.2.1] ∧ zH = (po r.1 [] fun zb => [.box b_0_1 149 [Z140 A0 A1 ob_0_2 zb.pools cap_0_3, Z152 A0 A1 ob_0_4 zb.insts cap_0_5, Iw zb.delay, Iw zb.now, Iw zb.calls], Q140 A0 A1 ob_0_2 cap_0_3 zb.pools, Q152 A0 A1 ob_0_4 cap_0_5 zb.insts]) ++ [.ar A0 144 bs_0 (List.map T_cloud_pool.cells r.2.2.1), .ar A1 157 bs_1 (List.map (T_cloud_inst.cells A0 A1) r.2.2.2)] := by
 refine Cl [.tmp 4,.tmp 5] Tryz.func90 R R R fun r hm=>?_
 unfold cloud_New at hm
 refine Ag tbk [] R R<|Af<|Aw<|Ae<|Aa R R (Ai R)<|Ab R R<|Ay hm 0 R fn158 R (K29 _) fun r hm=>Ad tbk [] 2 R R<|Ac<|Ao hm R (fun h2 hm=>?_) fun h2 hm=> ?_
 ·refine Ag tbk [] R R<|?_
  obtain rfl:=Option.some.inj hm
  exact Bq ⟨.inl R,_,.cons (.tmp _ _ R) (.cons (.tmp _ _ R) .nil),[0,1],_,R,0,none,0,none,0,bs,bs2,R,R⟩
 refine Ae<|Ad tbk [] 3 R R<|Cq tbk [] 3 20 17 R R R R R<|Aa R R (Aj R)<|Ac<|Ao hm R (fun h4 hm=>?_) fun h4 hm=> ?_
 ·refine Ag tbk [] R R<|?_
  obtain rfl:=Option.some.inj hm
  exact Bq ⟨.inl R,_,.cons (.tmp _ _ R) (.cons (.tmp _ _ R) .nil),[0,1],_,R,0,none,0,none,0,bs,bs2,R,R⟩
 refine Al<|Ae<|Aa R R (Ai R)<|Aa R R (Bn pl149 R R)<|Ab R R<|Bg R R fun b=>Aa R R (Aj R)<|Ac<|Af<|Ae<|Aa R R (Ai R)<|Aa R R (A7 T_api_Group.vv R Ck)<|Aa R R (Ai R)<|Ac<|B4 24 R fun h12=>Cc hm (fun _ (gg:Option Nat × Nat × Option Nat × Nat × List Nat × List Nat)=>[(6,.ptr b 0)]) (fun j (gg:Option Nat × Nat × Option Nat × Nat × List Nat × List Nat)=>[Q140 A0 A1 gg.1 gg.2.1 j.1.pools,Q152 A0 A1 gg.2.2.1 gg.2.2.2.1 j.1.insts,.box b 149 [Z140 A0 A1 gg.1 j.1.pools gg.2.1,Z152 A0 A1 gg.2.2.1 j.1.insts gg.2.2.2.1,Iw j.1.delay,Iw j.1.now,Iw j.1.calls],.ar A0 144 gg.2.2.2.2.1 (List.map T_cloud_pool.cells j.2.1),.ar A1 157 gg.2.2.2.2.2 (List.map (T_cloud_inst.cells A0 A1) j.2.2)]) (fun o hm=>?_) fun j=>Pq fun ob5=>Pq fun cap5=>Pq fun ob6=>Pq fun cap6=>Pq fun bs7 bs8 hm=> ?_
 ·refine Cf (l) (fun zl zk (zs:T_cloud_Cloud × List T_cloud_pool × List T_cloud_inst)=>cloud_New.l1 zl zk zs.1 zs.2.1 zs.2.2) (fun k _ (_:Option Nat × Nat × Option Nat × Nat × List Nat × List Nat)=>[(6,.ptr b 0),(24,L139 l),(25,Iw (l.length : Int)),(26,Iw (k : Int))]) (fun _ zs (zg:Option Nat × Nat × Option Nat × Nat × List Nat × List Nat)=>[Q140 A0 A1 zg.1 zg.2.1 zs.1.pools,Q152 A0 A1 zg.2.2.1 zg.2.2.2.1 zs.1.insts,.box b 149 [Z140 A0 A1 zg.1 zs.1.pools zg.2.1,Z152 A0 A1 zg.2.2.1 zs.1.insts zg.2.2.2.1,Iw zs.1.delay,Iw zs.1.now,Iw zs.1.calls],.ar A0 144 zg.2.2.2.2.1 (List.map T_cloud_pool.cells zs.2.1),.ar A1 157 zg.2.2.2.2.2 (List.map (T_cloud_inst.cells A0 A1) zs.2.2)]) ((⟨([] : List Nat),([] : List Nat),delay,(0 : Int),(0 : Int)⟩ : T_cloud_Cloud),pools,insts) (none,0,none,0,bs,bs2) hm (B1 (Bf 140) (B1 (Bf 152) (Ah [1,0,2,3,4] R R))) (fun k=>Pq fun c2=>Pq fun ps2 xs2=>Pq fun ob3=>Pq fun cap3=>Pq fun ob4=>Pq fun cap4=>Pq fun bs5 bs6 hk hm=>?_) fun k x l2=>Pq fun c2=>Pq fun ps2 xs2=>Pq fun ob3=>Pq fun cap3=>Pq fun ob4=>Pq fun cap4=>Pq fun bs5 bs6 h13 hm=> ?_
  ·rw [cloud_New.l1] at hm
   exact Ag tbk [] R R<|Af<|Bm R (k_end hk)<|A6<|As (ob3,cap3,ob4,cap4,bs5,bs6) hm (Ah [0,1,2,3,4] R R)
  rw [cloud_New.l1] at hm
  refine Ag tbk [] R R<|Af<|Bl R (k_lt h13)<|Al<|Af<|Aw<|Ae<|Aa R R (B8 T_api_Group.vv R R el37 h13)<|Aa R R (Bt R ld139 R)<|Ab R R<|Au z139 fun b2=>Ab R R<|Ak (i:=0) R R R ld139 R R R<|Ac<|Ae<|Ad tbk [0,0] 3 R R<|Aa R R (Bn pl144 R R)<|Ab R R<|Dj 4 (f:=T_cloud_pool.cells) (l:=ps2) (y:=(⟨x,x.Min,(0 : Int),false⟩ : T_cloud_pool)) R R R R fun b3=>Aa R R (Aj R)<|Ac<|Ae<|Ad tbk [3] 6 R R<|Ab R R<|A4 ap146 R R R R R fun b4=>Bd hm fun l3 h16 hm=>Ab R R<|Bo 2 (V.Pp A0) (l:=c2.pools) (l2:=[(ps2.length + 1)]) ap146 R R (sT_row 0 (V.Pp A0) el146 R R) h16 fun ob7 cap7=>Ad tbk [] 2 R R<|Ab R R<|Ak (i:=4) R R R ld146 R R R<|Ac<|Bv<|Ad tbk [1] 4 R R<|Aa R R (Bn pl160 R R)<|Aa R R (Dw nif160 R)<|Bd hm fun r2 h17 hm=>Av (Ax [4,2,3,5,6,0,1] R)<|Ab R R<|Aq 5 R fn82 R (K32 A0 A1 (⟨l3,c2.insts,c2.delay,c2.now,c2.calls⟩ : T_cloud_Cloud) (ps2.length + 1) x.Min (I_cloud_state.c160 (⟨⟩ : T_cloud_running)) (ps2 ++ [(⟨x,x.Min,(0 : Int),false⟩ : T_cloud_pool)]) xs2 b ob7 cap7 ob4 cap4 (bs5 ++ [b3]) bs6 r2 h17) fun _ _ h18=> ?_
  obtain ⟨ob8,cap8,ob9,cap9,bs9,bs10,rfl,rfl⟩:=h18
  exact Ac<|Ba tbk [] R R<|Ap (r2.1,r2.2.1,r2.2.2) (ob8,cap8,ob9,cap9,bs9,bs10) hm (Be [1,2,0,3,4] R ⟨R,R,R,congrArg some (k_next h13 h12),trivial⟩)
 refine Ag tbk [] R R<|?_
 obtain rfl:=Option.some.inj hm
 exact Bq ⟨.inl R,_,.cons (.tmp _ _ R) (.cons (.tmp _ _ R) .nil),[2,0,1,3,4],_,R,b,ob5,cap5,ob6,cap6,bs7,bs8,R,R⟩

/-! trireme/budget.Right -/
def budget_Right.l2 (x : T_api_Budget) : List T_api_Budget → Nat → Option (Out (Out Bool Unit) Unit)
 | [], k2 => some (Out.go ())
 | x2 :: l3, k2 =>
  if (((x.Name == x2.Name) && true) == true) = true then
   some (Out.ret (Out.ret false))
  else
   budget_Right.l2 x l3 (k2 + 1)
def budget_Right.l1 (l : List T_api_Budget) : List T_api_Budget → Nat → Option (Out Bool Unit)
 | [], k => some (Out.go ())
 | x :: l2, k =>
  (lex_Word x.Name).bind fun r =>
  (if ((!r) || ((x.Match.length : Int) == 0)) = true then some true else (labels_Right x.Match).bind fun r2 =>
  some (!r2)).bind fun c =>
  if c = true then
   some (Out.ret false)
  else
   if ((decide (x.Least < 0)) || (decide (x.Least > 400))) = true then
    some (Out.ret false)
   else
    (V.sl l none (some (k : Int))).bind fun v =>
    (budget_Right.l2 x v 0).bind fun o2 =>
    o2.on fun j2 =>
    budget_Right.l1 l l2 (k + 1)
def budget_Right (l : List T_api_Budget) : Option Bool :=
 (budget_Right.l1 l l 0).bind fun o =>
 o.on fun j =>
 some (decide ((l.length : Int) ≤ 16))
theorem K34 (l : List T_api_Budget) : VS Tryz.prog 91 (budget_Right l) [L103 l] [] .bool N0 := by
 refine A8 [.tmp 2] Tryz.func91 R R R fun r hm=>?_
 unfold budget_Right at hm
 refine Ag tbk [] R R<|Af<|Ae<|Aa R R (Ai R)<|Aa R R (A7 T_api_Budget.vv R Cw)<|Aa R R (Ai R)<|Ac<|B4 0 R fun h3=>B5 hm (fun _ (_:Unit)=>[(0,L103 l)]) (fun _ (_:Unit)=>[]) (fun o hm h2=>?_) fun j _ hm=> ?_
 ·refine Cf (l) (fun zl zk (zs:Unit)=>budget_Right.l1 l zl zk) (fun k _ (_:Unit)=>[(0,L103 l),(7,L103 l),(8,Iw (l.length : Int)),(9,Iw (k : Int))]) (fun _ _ (_:Unit)=>[]) () () hm (Ah [] R R) (fun k _ _ hk hm=>?_) fun k x l2 _ _ h4 hm=> ?_
  ·rw [budget_Right.l1] at hm
   exact Ag tbk [] R R<|Af<|Bm R (k_end hk)<|A6<|Ar () hm (Ah [] R R)
  rw [budget_Right.l1] at hm
  refine Ag tbk [] R R<|Af<|Bl R (k_lt h4)<|Al<|Af<|Aw<|Ae<|Aa R R (Ai R)<|Aa R R (B8 T_api_Budget.vv R R el38 h4)<|Aa R R (Bt R ld103 R)<|Ab R R<|Au z103 fun b=>Aa R R (Aj R)<|Ab R R<|Ak (i:=0) R R R ld103 R R R<|Ac<|Af<|Aw<|Ae<|Ad tbk [0] 2 R R<|Ab R R<|Ay hm 0 R fn131 R (K15 _) fun r hm=>Ad tbk [] 2 R R<|C0 5 24 19 R (fun K' J=>Ad tbk [] 5 R R<|J 4 R R R) (fun h7 K' J=>Ad tbk [0] 2 R R<|Bk R R R R R (A7 T_api_Label.vv R Cd)<|Ad tbk [] 2 R R<|J 4 R R R)<|Aa R R (Ai R)<|Bx hm 5 30 25 R (fun _ K' h8 J hm=>Ad tbk [] 5 R R<|J 4 R R (Bj hm)) (fun _ K' h8 J hm=>Ad tbk [0] 2 R R<|Bh R R R R R<|Ay hm 0 R fn130 R (K21 _) fun r2 hm=>Ad tbk [] 2 R R<|J 4 R R (Bj hm)) fun c hm=>Aa R R (Aj R)<|Ac<|Ao hm R (fun h11 hm=>Ag tbk [] R R<|have hm:=Lr hm h2;Rt1 hm R [] R R R) fun h11 hm=>Ae<|Ad tbk [0] 4 R R<|Cq tbk [0] 4 39 35 R R R R R<|Aa R R (Aj R)<|Ac<|Ao hm R (fun h13 hm=>Ag tbk [] R R<|have hm:=Lr hm h2;Rt1 hm R [] R R R) fun h13 hm=>Al<|Ae<|Ad tbk [] 2 R R<|Bd hm fun v h14 hm=>Aa R R (Dv R R R el38 h14)<|Aa R R (A7 T_api_Budget.vv R Cw)<|Aa R R (Ai R)<|Ac<|B4 42 R fun h17=>B5 hm (fun _ (_:Unit)=>[(0,L103 l),(7,L103 l),(8,Iw (l.length : Int)),(9,Iw (k : Int))]) (fun _ (_:Unit)=>[]) (fun o2 hm h16=>?_) fun j2 _ hm=> ?_
  ·refine Cf (v) (fun zl zk (zs:Unit)=>budget_Right.l2 x zl zk) (fun k2 _ (_:Unit)=>[(0,L103 l),(4,.ptr b 0),(7,L103 l),(8,Iw (l.length : Int)),(9,Iw (k : Int)),(42,L103 v),(43,Iw (v.length : Int)),(44,Iw (k2 : Int))]) (fun _ _ (_:Unit)=>[X103 b x]) () () hm (Ah [0] R R) (fun k2 _ _ hk hm=>?_) fun k2 x2 l3 _ _ h18 hm=> ?_
   ·rw [budget_Right.l2] at hm
    exact Ag tbk [] R R<|Af<|Bm R (k_end hk)<|A6<|Ar () hm (Ah [] R R)
   rw [budget_Right.l2] at hm
   exact Ag tbk [] R R<|Af<|Bl R (k_lt h18)<|Al<|Af<|Aw<|Ae<|Aa R R (B8 T_api_Budget.vv R R el38 h18)<|Aa R R (Bt R ld103 R)<|Ab R R<|Au z103 fun b2=>Ab R R<|Ak (i:=0) R R R ld103 R R R<|Ac<|Ae<|Ad tbk [1] 2 R R<|Aa R R (Bn pl217 R R)<|Ad tbk [0] 2 R R<|Aa R R (Bn pl217 R R)<|Aa R R (VP.eqS shp217 eq217 R R R R)<|Ac<|Ao hm R (fun h20 hm=>Ag tbk [] R R<|have hm:=Lr hm h16;have hm:=Lr hm h2;Rt1 hm R [] R R R) fun h20 hm=>Al<|Ba tbk [] R R<|Ap () () hm (Be [1] R ⟨R,R,R,R,R,R,R,congrArg some (k_next h18 h17),trivial⟩)
  exact Ba tbk [] R R<|Ap () () hm (Be [] R ⟨R,R,R,congrArg some (k_next h4 h3),trivial⟩)
 exact Ae<|Aa R R (Ai R)<|Aa R R (A7 T_api_Budget.vv R Cw)<|Ad tbk [] 2 R R<|Ac<|Rt1 hm R [] R R R

/-! trireme/world.machine -/
def world_machine (m : T_api_Machine) : Option T_api_Machine :=
 (V.ap 32 ([] : List T_api_Label) m.Labels).bind fun l =>
 (V.ap 40 ([] : List T_api_Taint) m.Taints).bind fun l2 =>
 some (⟨m.Name, m.Group, m.Has, l, l2, m.Ready⟩ : T_api_Machine)
theorem K35 (m : T_api_Machine) : VS Tryz.prog 79 (world_machine m) [T_api_Machine.vv m] [] (fun r=>T_api_Machine.vv r) N0 := by
 refine A8 [.cell 2 68] Tryz.func79 R R R fun r hm=>?_
 unfold world_machine at hm
 exact Ae<|Ab R R<|Bg R R fun b=>Ab R R<|Au z68 fun b2=>Ac<|Ae<|Ad tbk [1] 2 R R<|Av (Bf 232)<|Bd hm fun l h4 hm=>Ab R R<|Bo 0 T_api_Label.vv (l:=([] : List T_api_Label)) (l2:=m.Labels) ap24 R R (sT_list T_api_Label.vv el24 R R) h4 fun ob cap=>Aa R R (C7 R fa68_3)<|Ab R R<|Ak (i:=2) R R R ld24 R R R<|Ac<|Ae<|Ad tbk [2] 2 R R<|Av (Bf 31)<|Bd hm fun l2 h6 hm=>Ab R R<|Bo 0 T_api_Taint.vv (l:=([] : List T_api_Taint)) (l2:=m.Taints) ap66 R R (sT_list T_api_Taint.vv el66 R R) h6 fun ob2 cap2=>Aa R R (C7 R fa68_4)<|Ab R R<|Ak (i:=3) R R R ld66 R R R<|Ac<|Ae<|Ad tbk [3] 1 R R<|Ab R R<|Ak (i:=2) R R R ld68 R R R<|Ac<|Bu (Az (H':=[Q31 ob2 cap2 l2,.box b2 68 [.str m.Name,.str m.Group,Iw m.Has.Cpu,Iw m.Has.Mem,Iw m.Has.Disk,Iw m.Has.Pods,Iw m.Has.Dev,L232 l,Z31 ob2 l2 cap2,.bool m.Ready],.box b 68 [.str m.Name,.str m.Group,Iw m.Has.Cpu,Iw m.Has.Mem,Iw m.Has.Disk,Iw m.Has.Pods,Iw m.Has.Dev,L232 l,Z31 ob2 l2 cap2,.bool m.Ready]]) 1 [(5,L232 l),(11,.agg [.str m.Name,.str m.Group,Iw m.Has.Cpu,Iw m.Has.Mem,Iw m.Has.Disk,Iw m.Has.Pods,Iw m.Has.Dev,L232 l,Z31 ob2 l2 cap2,.bool m.Ready])] R ⟨⟨_,R,.here _ R⟩,⟨_,R,.aggL ⟨.same _,.same _,.same _,.same _,.same _,.same _,.same _,.here _ R,.same _,.same _,trivial⟩⟩,trivial⟩ ⟨.same _,.box _ _ _ _ ⟨.same _,.same _,.same _,.same _,.same _,.same _,.same _,.here _ R,.same _,.same _,trivial⟩,.box _ _ _ _ ⟨.same _,.same _,.same _,.same _,.same _,.same _,.same _,.here _ R,.same _,.same _,trivial⟩,trivial⟩)<|Bu (Az (H':=[X68 b2 (⟨m.Name,m.Group,m.Has,l,l2,m.Ready⟩ : T_api_Machine),X68 b (⟨m.Name,m.Group,m.Has,l,l2,m.Ready⟩ : T_api_Machine)]) 0 [(9,L31 l2),(11,T_api_Machine.vv (⟨m.Name,m.Group,m.Has,l,l2,m.Ready⟩ : T_api_Machine))] R ⟨⟨_,R,.here _ R⟩,⟨_,R,.aggL ⟨.same _,.same _,.same _,.same _,.same _,.same _,.same _,.same _,.here _ R,.same _,trivial⟩⟩,trivial⟩ ⟨.box _ _ _ _ ⟨.same _,.same _,.same _,.same _,.same _,.same _,.same _,.same _,.here _ R,.same _,trivial⟩,.box _ _ _ _ ⟨.same _,.same _,.same _,.same _,.same _,.same _,.same _,.same _,.here _ R,.same _,trivial⟩,trivial⟩)<|Rt0 hm R [] (.cons (.cell _ _ _ _ 0 _ _ _ _ R R ld68 R) .nil) R R

/-! trireme/world.own -/
def world_own.l1 : List T_api_Budget → Nat → (List T_api_Budget) → Option (List T_api_Budget)
 | [], k, out2 => some out2
 | x :: l2, k, out2 =>
  (V.ap 32 ([] : List T_api_Label) x.Match).bind fun l3 =>
  (V.ap 48 out2 [(⟨x.Name, l3, x.Least⟩ : T_api_Budget)]).bind fun out4 =>
  world_own.l1 l2 (k + 1) out4
def world_own (l : List T_api_Budget) : Option (List T_api_Budget) :=
 (world_own.l1 l 0 ([] : List T_api_Budget)).bind fun out32 =>
 some out32
theorem K36 (l : List T_api_Budget) : VS2 Tryz.prog 80 (world_own l) [L103 l] [] (fun r ob0 cap0=>Z103 ob0 r cap0) (fun r ob0 cap0=>[Q103 ob0 cap0 r]) := by
 refine Cz [.tmp 2] Tryz.func80 R R R fun r hm=>?_
 unfold world_own at hm
 refine Ag tbk [] R R<|Ag tbk [] R R<|Af<|Ae<|Aa R R (Ai R)<|Aa R R (A7 T_api_Budget.vv R Cw)<|Aa R R (Ai R)<|Ac<|B4 6 R fun h5=>Cc hm (fun out32 (gg:Option Nat × Nat)=>[(3,Z103 gg.1 out32 gg.2)]) (fun out32 (gg:Option Nat × Nat)=>[Q103 gg.1 gg.2 out32]) (fun o hm=>?_) fun out32=>Pq fun ob3 cap3 hm=> ?_
 ·refine Cf (l) (fun zl zk (zs:List T_api_Budget)=>world_own.l1 zl zk zs) (fun k zs (zg:Option Nat × Nat)=>[(3,Z103 zg.1 zs zg.2),(6,L103 l),(7,Iw (l.length : Int)),(8,Iw (k : Int))]) (fun _ zs (zg:Option Nat × Nat)=>[Q103 zg.1 zg.2 zs]) _ (none,0) hm (B1 (Bf 103) (Ah [0] R R)) (fun k out2=>Pq fun ob2 cap2 hk hm=>?_) fun k x l2 out2=>Pq fun ob2 cap2 h6 hm=> ?_
  ·rw [world_own.l1] at hm
   exact Ag tbk [] R R<|Af<|Bm R (k_end hk)<|A6<|As (ob2,cap2) hm (Ah [0] R R)
  rw [world_own.l1] at hm
  exact Ag tbk [] R R<|Af<|Bl R (k_lt h6)<|Al<|Af<|Aw<|Ae<|Aa R R (B8 T_api_Budget.vv R R el38 h6)<|Aa R R (Bt R ld103 R)<|Ab R R<|Au z103 fun b=>Ab R R<|Ak (i:=0) R R R ld103 R R R<|Ac<|Ae<|Ad tbk [0] 2 R R<|Av (Bf 232)<|Bd hm fun l3 h9 hm=>Ab R R<|Bo 0 T_api_Label.vv (l:=([] : List T_api_Label)) (l2:=x.Match) ap24 R R (sT_list T_api_Label.vv el24 R R) h9 fun ob4 cap4=>Aa R R (C7 R fa103_1)<|Ab R R<|Ak (i:=1) R R R ld24 R R R<|Ac<|Bv<|Ad tbk [1] 2 R R<|Av (Az (H':=[X103 b (⟨x.Name,l3,x.Least⟩ : T_api_Budget),Q103 ob2 cap2 out2]) 0 [(14,L232 l3),(17,T_api_Budget.vv (⟨x.Name,l3,x.Least⟩ : T_api_Budget))] R ⟨⟨_,R,.here _ R⟩,⟨_,R,.aggL ⟨.same _,.here _ R,.same _,trivial⟩⟩,trivial⟩ ⟨.box _ _ _ _ ⟨.same _,.here _ R,.same _,trivial⟩,.same _,trivial⟩)<|Ab R R<|A4 ap38 R R R R R fun b2=>Bd hm fun out4 h11 hm=>Ab R R<|Bo 2 T_api_Budget.vv (l:=out2) (l2:=[(⟨x.Name,l3,x.Least⟩ : T_api_Budget)]) ap38 R R (sT_row 0 T_api_Budget.vv el38 R R) h11 fun ob5 cap5=>Aa R R (Aj R)<|Ac<|Ba tbk [] R R<|Ap _ (ob5,cap5) hm (Be [2] R ⟨R,R,R,congrArg some (k_next h6 h5),trivial⟩)
 exact Ag tbk [] R R<|Rg2 hm R [0] ob3 cap3 (.cons (.tmp _ _ R) .nil) R R

/-! (*trireme/cloud.Cloud).there -/
def cloud_Cloud_there (c : T_cloud_Cloud) : Option Bool :=
 some (decide (c.delay > 0))
theorem K37 (A0 A1 : Nat) (c : T_cloud_Cloud) (b : Nat) (ob : Option Nat) (cap : Nat) (ob2 : Option Nat) (cap2 : Nat) : VS Tryz.prog 83 (cloud_Cloud_there c) [.ptr b 0] [.box b 149 [Z140 A0 A1 ob c.pools cap, Z152 A0 A1 ob2 c.insts cap2, Iw c.delay, Iw c.now, Iw c.calls], Q140 A0 A1 ob cap c.pools, Q152 A0 A1 ob2 cap2 c.insts] .bool (fun r=>[.box b 149 [Z140 A0 A1 ob c.pools cap, Z152 A0 A1 ob2 c.insts cap2, Iw c.delay, Iw c.now, Iw c.calls], Q140 A0 A1 ob cap c.pools, Q152 A0 A1 ob2 cap2 c.insts]) := by
 refine A8 [.tmp 2] Tryz.func83 R R R fun r hm=>?_
 unfold cloud_Cloud_there at hm
 exact Ag tbk [] R R<|Ae<|Aa R R (Ai R)<|Aa R R (Dx Dg R R)<|Ad tbk [0] 8 R R<|Ac<|Rt1 hm R [0,1,2] R R R

/-! (trireme/cloud.creating).number -/
def cloud_creating_number (x : T_cloud_creating) : Option Int :=
 some 1
theorem K38 (x : T_cloud_creating) : VS Tryz.prog 312 (cloud_creating_number x) [T_cloud_creating.vv x] [] Iw N0 := by
 refine A8 [.tmp 2] Tryz.func312 R R R fun r hm=>?_
 unfold cloud_creating_number at hm
 exact Ae<|Ab R R<|Bg R R fun b=>Aa R R (Aj R)<|Ac<|Ag tbk [] R R<|Rt1 hm R [] R R R

/-! (trireme/cloud.leaving).number -/
def cloud_leaving_number (x : T_cloud_leaving) : Option Int :=
 some 3
theorem K39 (x : T_cloud_leaving) : VS Tryz.prog 315 (cloud_leaving_number x) [T_cloud_leaving.vv x] [] Iw N0 := by
 refine A8 [.tmp 2] Tryz.func315 R R R fun r hm=>?_
 unfold cloud_leaving_number at hm
 exact Ae<|Ab R R<|Bg R R fun b=>Aa R R (Aj R)<|Ac<|Ag tbk [] R R<|Rt1 hm R [] R R R

/-! (trireme/cloud.running).number -/
def cloud_running_number (x : T_cloud_running) : Option Int :=
 some 2
theorem K40 (x : T_cloud_running) : VS Tryz.prog 318 (cloud_running_number x) [T_cloud_running.vv x] [] Iw N0 := by
 refine A8 [.tmp 2] Tryz.func318 R R R fun r hm=>?_
 unfold cloud_running_number at hm
 exact Ae<|Ab R R<|Bg R R fun b=>Aa R R (Aj R)<|Ac<|Ag tbk [] R R<|Rt1 hm R [] R R R

/-! (trireme/cloud.failed).number -/
def cloud_failed_number (x : T_cloud_failed) : Option Int :=
 some 4
theorem K41 (x : T_cloud_failed) : VS Tryz.prog 321 (cloud_failed_number x) [T_cloud_failed.vv x] [] Iw N0 := by
 refine A8 [.tmp 2] Tryz.func321 R R R fun r hm=>?_
 unfold cloud_failed_number at hm
 exact Ae<|Ab R R<|Bg R R fun b=>Aa R R (Aj R)<|Ac<|Ag tbk [] R R<|Rt1 hm R [] R R R

def I_cloud_state.m_number : I_cloud_state → Option Int
 | .nil => none
 | .c151 y => cloud_creating_number y
 | .c159 y => cloud_leaving_number y
 | .c160 y => cloud_running_number y
 | .c225 y => cloud_failed_number y
theorem I_cloud_state.m_number_ok (x : I_cloud_state) (r : Int) (h : I_cloud_state.m_number x = some r) : VI Tryz.prog x.isNil x.ty x.val "trireme/cloud.number" [] (.int .i64 r) := by
  cases x with
  | nil => cases h
  | c151 y => exact ⟨R,312,mt151_number,fn312,K38 y r h⟩
  | c159 y => exact ⟨R,315,mt159_number,fn315,K39 y r h⟩
  | c160 y => exact ⟨R,318,mt160_number,fn318,K40 y r h⟩
  | c225 y => exact ⟨R,321,mt225_number,fn321,K41 y r h⟩

/-! (trireme/cloud.creating).left -/
def cloud_creating_left (x : T_cloud_creating) : Option Int :=
 some x.ticks
theorem K42 (x : T_cloud_creating) : VS Tryz.prog 311 (cloud_creating_left x) [T_cloud_creating.vv x] [] Iw N0 := by
 refine A8 [.tmp 2] Tryz.func311 R R R fun r hm=>?_
 unfold cloud_creating_left at hm
 exact Ae<|Ab R R<|Bg R R fun b=>Aa R R (Aj R)<|Ac<|Ag tbk [0] R R<|Rt1 hm R [] R R R

/-! (trireme/cloud.leaving).left -/
def cloud_leaving_left (x : T_cloud_leaving) : Option Int :=
 some 1
theorem K43 (x : T_cloud_leaving) : VS Tryz.prog 314 (cloud_leaving_left x) [T_cloud_leaving.vv x] [] Iw N0 := by
 refine A8 [.tmp 2] Tryz.func314 R R R fun r hm=>?_
 unfold cloud_leaving_left at hm
 exact Ae<|Ab R R<|Bg R R fun b=>Aa R R (Aj R)<|Ac<|Ag tbk [] R R<|Rt1 hm R [] R R R

/-! (trireme/cloud.running).left -/
def cloud_running_left (x : T_cloud_running) : Option Int :=
 some 0
theorem K44 (x : T_cloud_running) : VS Tryz.prog 317 (cloud_running_left x) [T_cloud_running.vv x] [] Iw N0 := by
 refine A8 [.tmp 2] Tryz.func317 R R R fun r hm=>?_
 unfold cloud_running_left at hm
 exact Ae<|Ab R R<|Bg R R fun b=>Aa R R (Aj R)<|Ac<|Ag tbk [] R R<|Rt1 hm R [] R R R

/-! (trireme/cloud.failed).left -/
def cloud_failed_left (x : T_cloud_failed) : Option Int :=
 some 0
theorem K45 (x : T_cloud_failed) : VS Tryz.prog 320 (cloud_failed_left x) [T_cloud_failed.vv x] [] Iw N0 := by
 refine A8 [.tmp 2] Tryz.func320 R R R fun r hm=>?_
 unfold cloud_failed_left at hm
 exact Ae<|Ab R R<|Bg R R fun b=>Aa R R (Aj R)<|Ac<|Ag tbk [] R R<|Rt1 hm R [] R R R

def I_cloud_state.m_left : I_cloud_state → Option Int
 | .nil => none
 | .c151 y => cloud_creating_left y
 | .c159 y => cloud_leaving_left y
 | .c160 y => cloud_running_left y
 | .c225 y => cloud_failed_left y
theorem I_cloud_state.m_left_ok (x : I_cloud_state) (r : Int) (h : I_cloud_state.m_left x = some r) : VI Tryz.prog x.isNil x.ty x.val "trireme/cloud.left" [] (.int .i64 r) := by
  cases x with
  | nil => cases h
  | c151 y => exact ⟨R,311,mt151_left,fn311,K42 y r h⟩
  | c159 y => exact ⟨R,314,mt159_left,fn314,K43 y r h⟩
  | c160 y => exact ⟨R,317,mt160_left,fn317,K44 y r h⟩
  | c225 y => exact ⟨R,320,mt225_left,fn320,K45 y r h⟩

/-! (*trireme/cloud.Cloud).Insts -/
def cloud_Cloud_Insts.l1 (c : T_cloud_Cloud) (pools : List T_cloud_pool) (insts : List T_cloud_inst) : Nat → (List T_api_Inst) → Int → Option (List T_api_Inst)
 | 0, _, _ => none
 | n + 1, l2, v2 =>
  if (decide (v2 < (c.insts.length : Int))) = true then
   (V.gl c.insts v2).bind fun x =>
   (V.pg insts x).bind fun x2 =>
   (V.pg insts x).bind fun x3 =>
   (V.pg pools x3.of).bind fun x4 =>
   (V.pg insts x).bind fun x5 =>
   (V.pg insts x).bind fun x6 =>
   (V.pg insts x).bind fun x7 =>
   (I_cloud_state.m_number x5.in_).bind fun r2 =>
   (I_cloud_state.m_left x6.in_).bind fun r3 =>
   (V.ap 56 l2 [(⟨x2.name, x4.Group.Name, r2, r3, x7.since⟩ : T_api_Inst)]).bind fun l5 =>
   cloud_Cloud_Insts.l1 c pools insts n l5 (i64.wrap (v2 + 1))
  else
   some l2
def cloud_Cloud_Insts (c : T_cloud_Cloud) (pools : List T_cloud_pool) (insts : List T_cloud_inst) : Option (List T_api_Inst) :=
 (cloud_Cloud_there c).bind fun r =>
 if (!r) = true then
  some ([] : List T_api_Inst)
 else
  (cloud_Cloud_Insts.l1 c pools insts FU ([] : List T_api_Inst) (0 : Int)).bind fun l32 =>
  some l32
theorem K46 (A0 A1 : Nat) (c : T_cloud_Cloud) (pools : List T_cloud_pool) (insts : List T_cloud_inst) (b : Nat) (ob : Option Nat) (cap : Nat) (ob2 : Option Nat) (cap2 : Nat) (bs : List Nat) (bs2 : List Nat) : VS2 Tryz.prog 27 (cloud_Cloud_Insts c pools insts) [.ptr b 0] [.box b 149 [Z140 A0 A1 ob c.pools cap, Z152 A0 A1 ob2 c.insts cap2, Iw c.delay, Iw c.now, Iw c.calls], Q140 A0 A1 ob cap c.pools, Q152 A0 A1 ob2 cap2 c.insts, .ar A0 144 bs (List.map T_cloud_pool.cells pools), .ar A1 157 bs2 (List.map (T_cloud_inst.cells A0 A1) insts)] (fun r ob0 cap0=>Z70 ob0 r cap0) (fun r ob0 cap0=>[Q70 ob0 cap0 r, .box b 149 [Z140 A0 A1 ob c.pools cap, Z152 A0 A1 ob2 c.insts cap2, Iw c.delay, Iw c.now, Iw c.calls], Q140 A0 A1 ob cap c.pools, Q152 A0 A1 ob2 cap2 c.insts, .ar A0 144 bs (List.map T_cloud_pool.cells pools), .ar A1 157 bs2 (List.map (T_cloud_inst.cells A0 A1) insts)]) := by
 refine Cz [.tmp 2] Tryz.func27 R R R fun r hm=>?_
 unfold cloud_Cloud_Insts at hm
 refine Ag tbk [] R R<|Af<|Ae<|Aa R R (Ai R)<|Ab R R<|Ay hm 3 R fn83 R (K37 A0 A1 _ _ _ _ _ _) fun r hm=>Aa R R (Cp R)<|Ac<|Ao hm R (fun h2 hm=>Ag tbk [] R R<|Bu (Bf 70)<|Rg2 hm R [0,1,2,3,4,5] none 0 (.cons (.tmp _ _ R) .nil) R R) fun h2 hm=>Al<|Ag tbk [] R R<|Af<|Ae<|Ad tbk [0] 4 R R<|Aa R R (Cx (V.Pp A1) R Dp)<|Aa R R (Ai R)<|Ac<|Cc hm (fun l32 (gg:Option Nat × Nat)=>[(3,Z70 gg.1 l32 gg.2)]) (fun l32 (gg:Option Nat × Nat)=>[Q70 gg.1 gg.2 l32,.box b 149 [Z140 A0 A1 ob c.pools cap,Z152 A0 A1 ob2 c.insts cap2,Iw c.delay,Iw c.now,Iw c.calls],Q140 A0 A1 ob cap c.pools,Q152 A0 A1 ob2 cap2 c.insts,.ar A0 144 bs (List.map T_cloud_pool.cells pools),.ar A1 157 bs2 (List.map (T_cloud_inst.cells A0 A1) insts)]) (fun o hm=>?_) fun l32=>Pq fun ob5 cap5 hm=> ?_
 ·refine Ca (fun zn (zs:List T_api_Inst × Int)=>cloud_Cloud_Insts.l1 c pools insts zn zs.1 zs.2) (fun zs (zg:Option Nat × Nat)=>[(3,Z70 zg.1 zs.1 zg.2),(12,Z152 A0 A1 ob2 c.insts cap2),(13,Iw (c.insts.length : Int)),(14,Iw zs.2)]) (fun zs (zg:Option Nat × Nat)=>[Q70 zg.1 zg.2 zs.1,.box b 149 [Z140 A0 A1 ob c.pools cap,Z152 A0 A1 ob2 c.insts cap2,Iw c.delay,Iw c.now,Iw c.calls],Q140 A0 A1 ob cap c.pools,Q152 A0 A1 ob2 cap2 c.insts,.ar A0 144 bs (List.map T_cloud_pool.cells pools),.ar A1 157 bs2 (List.map (T_cloud_inst.cells A0 A1) insts)]) (([] : List T_api_Inst),(0 : Int)) (none,0) (fun _=>R) hm (B1 (Bf 70) (Ah [0,1,2,3,4,5] (by kernel_rfl) (by kernel_rfl))) fun n=>Pq fun l2 v2=>Pq fun ob4 cap4 hm=> ?_
  rw [cloud_Cloud_Insts.l1] at hm
  refine Ag tbk [] R R<|Af<|Ao hm R (fun h8 hm=>?_) fun h8 hm=> ?_
  ·refine Al<|Af<|Aw<|Ae<|Bd hm fun x h9 hm=>Cg 3 R (gl_pos (V.Pp A1) h9) fun b2 h10=> ?_
   subst h10
   exact Aa R R (Cm (V.Pp A1) R R el147 h9)<|Aa R R (Ce (i:=3) (y:=(V.Pp A1) x) R R R (gl_map _ (gl_some h9).2) ld152 R)<|Aa R R (Aj R)<|Ac<|Bi 1 mixed<|A9 tbk [0,1] [] (by kernel_rfl) R R R<|Bd hm fun x2 h11 hm=>Bb 2 R R R (by kernel_rfl) (Bp R h11)<|Bb 3 R R R (by kernel_rfl) (B2 R h11 fa157_0)<|Bb 4 R R R (by kernel_rfl) (Cb 4 (f:=(T_cloud_inst.cells A0 A1)) (y:=x2) R R h11 ld9 R)<|Bb 5 R R R (by kernel_rfl) (Ai R)<|Bd hm fun x3 h12 hm=>Bb 6 R R R (by kernel_rfl) (Bp R h12)<|Bb 7 R R R (by kernel_rfl) (B2 R h12 fa157_1)<|Bb 8 R R R (by kernel_rfl) (Cb 4 (f:=(T_cloud_inst.cells A0 A1)) (y:=x3) R R h12 ld140 R)<|Bd hm fun x4 h13 hm=>Bb 9 R R R (by kernel_rfl) (Bp R h13)<|Bb 10 R R R (by kernel_rfl) (B2 R h13 fa144_0)<|Bb 11 R R R (by kernel_rfl) (B2 R h13 fa139_0)<|Bb 12 R R R (by kernel_rfl) (Cb 3 (f:=T_cloud_pool.cells) (y:=x4) R R h13 ld9 R)<|Bb 13 R R R (by kernel_rfl) (Ai R)<|Bd hm fun x5 h14 hm=>Bb 14 R R R (by kernel_rfl) (Bp R h14)<|Bb 15 R R R (by kernel_rfl) (B2 R h14 fa157_3)<|Bb 16 R R R (by kernel_rfl) (Cb 4 (f:=(T_cloud_inst.cells A0 A1)) (y:=x5) R R h14 ld155 R)<|Bb 18 R R R (by kernel_rfl) (Ai R)<|Bd hm fun x6 h15 hm=>Bb 19 R R R (by kernel_rfl) (Bp R h15)<|Bb 20 R R R (by kernel_rfl) (B2 R h15 fa157_3)<|Bb 21 R R R (by kernel_rfl) (Cb 4 (f:=(T_cloud_inst.cells A0 A1)) (y:=x6) R R h15 ld155 R)<|Bb 23 R R R (by kernel_rfl) (Ai R)<|Bd hm fun x7 h16 hm=>Bb 24 R R R (by kernel_rfl) (Bp R h16)<|Bb 25 R R R (by kernel_rfl) (B2 R h16 fa157_2)<|Bb 26 R R R (by kernel_rfl) (Cb 4 (f:=(T_cloud_inst.cells A0 A1)) (y:=x7) R R h16 ld3 R)<|Am 17 (by kernel_rfl)<|Bd hm fun r2 h17 hm=>An R R R<|VO.inv R R (I_cloud_state.m_number_ok x5.in_ r2 h17)<|Am 22 (by kernel_rfl)<|Bd hm fun r3 h18 hm=>An R R R<|VO.inv R R (I_cloud_state.m_left_ok x6.in_ r3 h18)<|Bb 27 R R R (by kernel_rfl) (Bn pl70 R R)<|Am 28 (by kernel_rfl)<|An R R R<|A4 ap54 R R R R R fun b3=>Am 29 (by kernel_rfl)<|Bd hm fun l5 h20 hm=>An R R R<|Bo 1 T_api_Inst.vv (l:=l2) (l2:=[(⟨x2.name,x4.Group.Name,r2,r3,x7.since⟩ : T_api_Inst)]) ap54 R R (sT_row 0 T_api_Inst.vv el54 R R) h20 fun ob6 cap6=>Bb 30 R R R (by kernel_rfl) (Aj R)<|A5 (by kernel_rfl)<|Ba tbk [] R R<|Ap (l5,(IntKind.i64.wrap (v2 + (1 : Int)))) (ob6,cap6) hm (Ah [1,2,3,4,5,6] (by kernel_rfl) (by kernel_rfl))
  exact A6<|As (ob4,cap4) hm (Ah [0,1,2,3,4,5] (by kernel_rfl) (by kernel_rfl))
 exact Ag tbk [] R R<|Rg2 hm R [0,1,2,3,4,5] ob5 cap5 (.cons (.tmp _ _ R) .nil) R R

/-! trireme/yard.Find$1 -/
def yard_Find_1 (i : Int) (a : List T_api_Machine) (a2 : ByteArray) : Option Bool :=
 (V.gl a i).bind fun x =>
 some (V.seq x.Name a2)
theorem K47 (i : Int) (a : List T_api_Machine) (a2 : ByteArray) (b : Nat) (b2 : Nat) : VS Tryz.prog 138 (yard_Find_1 i a a2) [Iw i, .ptr b 0, .ptr b2 0] [.box b 39 [L68 a], .box b2 9 [.str a2]] .bool (fun r=>[.box b 39 [L68 a], .box b2 9 [.str a2]]) := by
 refine A8 [.tmp 4] Tryz.func138 R R R fun r hm=>?_
 unfold yard_Find_1 at hm
 exact Ag tbk [] R R<|Af<|Bi 0 mixed<|A9 tbk [0,1] [0] (by kernel_rfl) R R R<|Bd hm fun x h1 hm=>Bb 2 R R R (by kernel_rfl) (Bw T_api_Machine.vv R R el39 h1)<|A9 tbk [3,4,5,6,7] [1] (by kernel_rfl) R R R<|A5 (by kernel_rfl)<|Rt1 hm R [0,1] R R R

/-! trireme/yard.first -/
def yard_first_yard_Find_1.l1 (n : Int) (c : List T_api_Machine) (c2 : ByteArray) : Nat → Int → Option (Out Int Unit)
 | 0, _ => none
 | n2 + 1, v2 =>
  if (decide (v2 < n)) = true then
   (yard_Find_1 v2 c c2).bind fun r =>
   if r = true then
    some (Out.ret v2)
   else
    yard_first_yard_Find_1.l1 n c c2 n2 (i64.wrap (v2 + 1))
  else
   some (Out.go ())
def yard_first_yard_Find_1 (n : Int) (c : List T_api_Machine) (c2 : ByteArray) : Option Int :=
 (yard_first_yard_Find_1.l1 n c c2 FU (0 : Int)).bind fun o =>
 o.on fun j =>
 some (-1)
theorem K48 (n : Int) (c : List T_api_Machine) (c2 : ByteArray) (b : Nat) (b2 : Nat) : VS Tryz.prog 136 (yard_first_yard_Find_1 n c c2) [Iw n, .clo (.func 138) [] [.ptr b 0, .ptr b2 0]] [.box b 39 [L68 c], .box b2 9 [.str c2]] Iw (fun r=>[.box b 39 [L68 c], .box b2 9 [.str c2]]) := by
 refine A8 [.tmp 4] D4 R R R fun r hm=>?_
 unfold yard_first_yard_Find_1 at hm
 refine Ag tbk [] R R<|Af<|Ag tbk [] R R<|B5 hm (fun _ (_:Unit)=>[]) (fun _ (_:Unit)=>[.box b 39 [L68 c],.box b2 9 [.str c2]]) (fun o hm h2=>?_) fun j _ hm=> ?_
 ·refine Ca (fun zn (zs:Int)=>yard_first_yard_Find_1.l1 n c c2 zn zs) (fun zs (_:Unit)=>[(1,.clo (.func 138) [] [.ptr b 0,.ptr b2 0]),(6,Iw n),(7,Iw zs)]) (fun _ (_:Unit)=>[.box b 39 [L68 c],.box b2 9 [.str c2]]) _ () (fun _=>R) hm (Ah [0,1] R R) fun n2 v2 _ hm=> ?_
  rw [yard_first_yard_Find_1.l1] at hm
  exact Ag tbk [] R R<|Af<|Ao hm R (fun h3 hm=>Al<|Af<|Aw<|Ag tbk [] R R<|Ae<|Ad tbk [] 2 R R<|Ab R R<|Ay hm 2 R fn138 R (K47 _ _ _ _ _) fun r hm=>Ac<|Ao hm R (fun h5 hm=>Ag tbk [] R R<|have hm:=Lr hm h2;Rt1 hm R [0,1] R R R) fun h5 hm=>Al<|Ba tbk [] R R<|Ap _ () hm (Ah [0,1] R R)) fun h3 hm=>A6<|Ar () hm (Ah [0,1] R R)
 exact Ag tbk [] R R<|Rt1 hm R [0,1] R R R

/-! trireme/yard.Find -/
def yard_Find (ms : List T_api_Machine) (name : ByteArray) : Option Int :=
 (yard_first_yard_Find_1 (ms.length : Int) ms name).bind fun r =>
 some r
theorem K49 (ms : List T_api_Machine) (name : ByteArray) : VS Tryz.prog 72 (yard_Find ms name) [L68 ms, .str name] [] Iw N0 := by
 refine A8 [.tmp 4] Tryz.func72 R R R fun r hm=>?_
 unfold yard_Find at hm
 exact Ae<|Ab R R<|Bg R R fun b=>Ab R R<|Bg R R fun b2=>Aa R R (Aj R)<|Ac<|Ae<|Ad tbk [1] 1 R R<|Aa R R (A7 T_api_Machine.vv R Cv)<|Aa R R (Ct R R)<|Av (Ax [1,0] R)<|Ab R R<|Ay hm 2 R fn136 R (K48 _ _ _ _ _) fun r hm=>Aa R R (Aj R)<|Ac<|Rt1 hm R [] R R R

/-! trireme/group.Number -/
def group_Number.l1 (v3 : ByteArray) : Nat → Int → Int → Option (Out Int Int)
 | 0, _, _ => none
 | n4 + 1, n2, v6 =>
  if (decide (v6 < (v3.size : Int))) = true then
   (V.gi v3 v6).bind fun v7 =>
   (if (decide (v7 < 48)) = true then some true else (V.gi v3 v6).bind fun v8 =>
   some (decide (v8 > 57))).bind fun c2 =>
   if c2 = true then
    some (Out.ret 0)
   else
    (V.gi v3 v6).bind fun v9 =>
    group_Number.l1 v3 n4 (i64.wrap ((i64.wrap (10 * n2)) + (i64.wrap (IntKind.u8.wrap (v9 - 48))))) (i64.wrap (v6 + 1))
  else
   some (Out.go n2)
def group_Number (g : T_api_Group) (name : ByteArray) : Option Int :=
 (V.cat g.Name (⟨#[45]⟩ : ByteArray)).bind fun v =>
 (if (decide ((name.size : Int) ≤ (v.size : Int))) = true then some true else (V.ss name none (some (v.size : Int))).bind fun v2 =>
 some (!(V.seq v2 v))).bind fun c =>
 if c = true then
  some 0
 else
  (V.ss name (some (v.size : Int)) none).bind fun v3 =>
  (V.gi v3 (0 : Int)).bind fun v4 =>
  if ((v4 == 48) || (decide ((v3.size : Int) > 9))) = true then
   some 0
  else
   (group_Number.l1 v3 FU 0 (0 : Int)).bind fun o =>
   o.on fun n32 =>
   some n32
theorem K50 (g : T_api_Group) (name : ByteArray) : VS Tryz.prog 126 (group_Number g name) [T_api_Group.vv g, .str name] [] Iw N0 := by
 refine A8 [.tmp 4] Tryz.func126 R R R fun r hm=>?_
 unfold group_Number at hm
 refine Ae<|Ab R R<|Bg R R fun b=>Aa R R (Aj R)<|Ac<|Ae<|Ad tbk [0] 2 R R<|Bd hm fun v h2 hm=>Aa R R (Du R R h2)<|Aa R R (Aj R)<|Ac<|Af<|Ae<|Aa R R (Ai R)<|Aa R R (Ci R Bc)<|Aa R R (Ai R)<|Aa R R (Ci R Bc)<|Ad tbk [] 2 R R<|Bx hm 7 24 17 R (fun _ K' h3 J hm=>Ad tbk [] 7 R R<|J 6 R R (Bj hm)) (fun _ K' h3 J hm=>Ad tbk [] 2 R R<|Bk R R R R R (Ci R Bc)<|Bd hm fun v2 h4 hm=>Bk R R R R R (VP.ssT R R R Bc h4)<|Ad tbk [] 3 R R<|J 6 R R (Bj hm)) fun c hm=>Ac<|Ao hm R (fun h6 hm=>Ag tbk [] R R<|Rt1 hm R [] R R R) fun h6 hm=>Al<|Ae<|Ad tbk [] 2 R R<|Aa R R (Ci R Bc)<|Bd hm fun v3 h7 hm=>Aa R R (VP.ssT R R R Bc h7)<|Aa R R (Aj R)<|Ac<|Af<|Ae<|Aa R R (Ai R)<|Bd hm fun v4 h8 hm=>Aa R R (Dr R R Bc h8)<|Ad tbk [] 2 R R<|C0 4 36 32 R (fun K' J=>Ad tbk [] 4 R R<|J 3 R R R) (fun h9 K' J=>Bk R R R R R (Ai R)<|Bk R R R R R (Ci R Bc)<|Ad tbk [] 2 R R<|J 3 R R R)<|Ac<|Ao hm R (fun h10 hm=>Ag tbk [] R R<|Rt1 hm R [] R R R) fun h10 hm=>Al<|Ag tbk [] R R<|Af<|Ae<|Aa R R (Ai R)<|Aa R R (Ci R Bc)<|Aa R R (Ai R)<|Ac<|B5 hm (fun n32 (_:Unit)=>[(7,Iw n32)]) (fun _ (_:Unit)=>[]) (fun o hm h12=>?_) fun n32 _ hm=> ?_
 ·refine Ca (fun zn (zs:Int × Int)=>group_Number.l1 v3 zn zs.1 zs.2) (fun zs (_:Unit)=>[(6,.str v3),(7,Iw zs.1),(38,Iw (v3.size : Int)),(39,Iw zs.2)]) (fun _ (_:Unit)=>[]) ((0 : Int),(0 : Int)) () (fun _=>R) hm (Ah [] R R) fun n4=>Pq fun n2 v6 _ hm=> ?_
  rw [group_Number.l1] at hm
  exact Ag tbk [] R R<|Af<|Ao hm R (fun h13 hm=>Al<|Af<|Aw<|Ag tbk [] R R<|Af<|Ae<|Ad tbk [] 2 R R<|Bd hm fun v7 h14 hm=>Aa R R (Dr R R Bc h14)<|Ad tbk [] 2 R R<|Bx hm 5 51 46 R (fun _ K' h15 J hm=>Ad tbk [] 5 R R<|J 4 R R (Bj hm)) (fun _ K' h15 J hm=>Ad tbk [] 2 R R<|Bd hm fun v8 h16 hm=>Bk R R R R R (Dr R R Bc h16)<|Ad tbk [] 2 R R<|J 4 R R (Bj hm)) fun c2 hm=>Ac<|Ao hm R (fun h18 hm=>Ag tbk [] R R<|have hm:=Lr hm h12;Rt1 hm R [] R R R) fun h18 hm=>Al<|Bv<|Ad tbk [] 4 R R<|Bd hm fun v9 h19 hm=>Aa R R (Dr R R Bc h19)<|Aa R R (Br R R R)<|Aa R R (D9 C3 Dh R)<|Ad tbk [] 2 R R<|Ac<|Ba tbk [] R R<|Ap ((IntKind.i64.wrap ((IntKind.i64.wrap ((10 : Int) * n2)) + (IntKind.i64.wrap (IntKind.u8.wrap (v9 - (48 : Int)))))),(IntKind.i64.wrap (v6 + (1 : Int)))) () hm (Ah [] R R)) fun h13 hm=>A6<|Ar () hm (Ah [] R R)
 exact Ag tbk [] R R<|Rt1 hm R [] R R R

/-! (*trireme/world.World).register -/
def world_World_register.l1 : List T_api_Inst → Nat → T_world_World → Option T_world_World
 | [], k, w3 => some w3
 | x3 :: l, k, w3 =>
  (if ((x3.State != 2) || (decide (((V.mg w3.held x3.Name).getD 0) > 0))) = true then some true else (yard_Find w3.ms x3.Name).bind fun r2 =>
  some (decide (r2 ≥ 0))).bind fun c2 =>
  if c2 = true then
   world_World_register.l1 l (k + 1) w3
  else
   ((group_Find w3.groups x3.Group).bind fun r3 =>
   (V.gl w3.groups r3).bind fun x4 =>
   some x4).bind fun g2 =>
   (group_Number g2 x3.Name).bind fun r5 =>
   (group_Machine g2 r5).bind fun r6 =>
   (V.ap 128 w3.ms [r6]).bind fun l2 =>
   world_World_register.l1 l (k + 1) (⟨(), w3.groups, w3.budgets, l2, w3.bs, w3.held⟩ : T_world_World)
def world_World_register (w : T_world_World) (c : T_cloud_Cloud) (pools : List T_cloud_pool) (insts : List T_cloud_inst) : Option T_world_World :=
 (cloud_Cloud_Insts c pools insts).bind fun r =>
 (world_World_register.l1 r 0 w).bind fun x2 =>
 some x2
theorem K51 (A0 A1 : Nat) (w : T_world_World) (c : T_cloud_Cloud) (pools : List T_cloud_pool) (insts : List T_cloud_inst) (b : Nat) (ob : Option Nat) (cap : Nat) (ob2 : Option Nat) (cap2 : Nat) (ob3 : Option Nat) (cap3 : Nat) (ob4 : Option Nat) (cap4 : Nat) (b2 : Nat) (b3 : Nat) (ob5 : Option Nat) (cap5 : Nat) (ob6 : Option Nat) (cap6 : Nat) (bs : List Nat) (bs2 : List Nat) : ∀ r : T_world_World, world_World_register w c pools insts = some r → VC Tryz.prog 63 [.ptr b 0] [.box b 43 [.ptr b3 0, Z139 ob w.groups cap, Z103 ob2 w.budgets cap2, Z68 ob3 w.ms cap3, Z64 ob4 w.bs cap4, .map b2], Q139 ob cap w.groups, Q103 ob2 cap2 w.budgets, Q68 ob3 cap3 w.ms, Q64 ob4 cap4 w.bs, .map b2 (List.map (pf VV.str (VV.int .i64)) w.held), .box b3 149 [Z140 A0 A1 ob5 c.pools cap5, Z152 A0 A1 ob6 c.insts cap6, Iw c.delay, Iw c.now, Iw c.calls], Q140 A0 A1 ob5 cap5 c.pools, Q152 A0 A1 ob6 cap6 c.insts, .ar A0 144 bs (List.map T_cloud_pool.cells pools), .ar A1 157 bs2 (List.map (T_cloud_inst.cells A0 A1) insts)] fun zx zH => ∃ (ob0_1 : Option Nat) (cap0_1 : Nat) (ob0_2 : Option Nat) (cap0_2 : Nat) (ob0_3 : Option Nat) (cap0_3 : Nat) (ob0_4 : Option Nat) (cap0_4 : Nat) (b0_5 : Nat), zx = .tup [] ∧ zH = [.box b 43 [.ptr b3 0, Z139 ob0_1 r.groups cap0_1, Z103 ob0_2 r.budgets cap0_2, Z68 ob0_3 r.ms cap0_3, Z64 ob0_4 r.bs cap0_4, .map b0_5], Q139 ob0_1 cap0_1 r.groups, Q103 ob0_2 cap0_2 r.budgets, Q68 ob0_3 cap0_3 r.ms, Q64 ob0_4 cap0_4 r.bs, .map b0_5 (List.map (pf VV.str (VV.int .i64)) r.held), .box b3 149 [Z140 A0 A1 ob5 c.pools cap5, Z152 A0 A1 ob6 c.insts cap6, Iw c.delay, Iw c.now, Iw c.calls], Q140 A0 A1 ob5 cap5 c.pools, Q152 A0 A1 ob6 cap6 c.insts, .ar A0 144 bs (List.map T_cloud_pool.cells pools), .ar A1 157 bs2 (List.map (T_cloud_inst.cells A0 A1) insts)] := by
 refine Cl [] Tryz.func63 R R R fun r hm=>?_
 unfold world_World_register at hm
 refine Ae<|Ad tbk [0] 4 R R<|Av (Ax [6,7,8,9,10,0,1,2,3,4,5] R)<|Ab R R<|Cj hm 5 R fn27 R (K46 A0 A1 _ _ _ _ _ _ _ _ _ _) fun r ob7 cap7 hm=>Av (Az 0 [(9,L70 r)] R ⟨⟨_,R,.here _ R⟩,trivial⟩ (FzH.refl _))<|Aa R R (A7 T_api_Inst.vv R C9)<|Aa R R (Ai R)<|Ac<|B4 9 R fun h5=>Cc hm (fun _ (gg:Option Nat × Nat)=>[]) (fun x2 (gg:Option Nat × Nat)=>[.box b3 149 [Z140 A0 A1 ob5 c.pools cap5,Z152 A0 A1 ob6 c.insts cap6,Iw c.delay,Iw c.now,Iw c.calls],Q140 A0 A1 ob5 cap5 c.pools,Q152 A0 A1 ob6 cap6 c.insts,.ar A0 144 bs (List.map T_cloud_pool.cells pools),.ar A1 157 bs2 (List.map (T_cloud_inst.cells A0 A1) insts),.box b 43 [.ptr b3 0,Z139 ob x2.groups cap,Z103 ob2 x2.budgets cap2,Z68 gg.1 x2.ms gg.2,Z64 ob4 x2.bs cap4,.map b2],Q139 ob cap x2.groups,Q103 ob2 cap2 x2.budgets,Q68 gg.1 gg.2 x2.ms,Q64 ob4 cap4 x2.bs,.map b2 (List.map (pf VV.str (VV.int .i64)) x2.held)]) (fun o hm=>?_) fun x2=>Pq fun ob10 cap10 hm=> ?_
 ·refine Cf (r) (fun zl zk (zs:T_world_World)=>world_World_register.l1 zl zk zs) (fun k _ (_:Option Nat × Nat)=>[(0,.ptr b 0),(9,L70 r),(10,Iw (r.length : Int)),(11,Iw (k : Int))]) (fun _ zs (zg:Option Nat × Nat)=>[.box b3 149 [Z140 A0 A1 ob5 c.pools cap5,Z152 A0 A1 ob6 c.insts cap6,Iw c.delay,Iw c.now,Iw c.calls],Q140 A0 A1 ob5 cap5 c.pools,Q152 A0 A1 ob6 cap6 c.insts,.ar A0 144 bs (List.map T_cloud_pool.cells pools),.ar A1 157 bs2 (List.map (T_cloud_inst.cells A0 A1) insts),.box b 43 [.ptr b3 0,Z139 ob zs.groups cap,Z103 ob2 zs.budgets cap2,Z68 zg.1 zs.ms zg.2,Z64 ob4 zs.bs cap4,.map b2],Q139 ob cap zs.groups,Q103 ob2 cap2 zs.budgets,Q68 zg.1 zg.2 zs.ms,Q64 ob4 cap4 zs.bs,.map b2 (List.map (pf VV.str (VV.int .i64)) zs.held)]) w (ob3,cap3) hm (Ah [0,1,2,3,4,5,6,7,8,9,10] (by kernel_rfl) (by kernel_rfl)) (fun k w3=>Pq fun ob9 cap9 hk hm=>?_) fun k x3 l w3=>Pq fun ob9 cap9 h6 hm=> ?_
  ·rw [world_World_register.l1] at hm
   exact Ag tbk [] R R<|Af<|Bm R (k_end hk)<|A6<|As (ob9,cap9) hm (Ah [0,1,2,3,4,5,6,7,8,9,10] (by kernel_rfl) (by kernel_rfl))
  rw [world_World_register.l1] at hm
  refine Ag tbk [] R R<|Af<|Bl R (k_lt h6)<|Al<|Af<|Aw<|Ae<|Aa R R (B8 T_api_Inst.vv R R el54 h6)<|Aa R R (Bt R ld70 R)<|Ab R R<|Au z70 fun b4=>Ab R R<|Ak (i:=0) R R R ld70 R R R<|Ac<|Af<|Af<|Bu (Ax [9,0,1,2,3,4,5,6,7,8,10,11] R)<|Bi 1 mixed<|A9 tbk [0,1,2,3] [0] (by kernel_rfl) R R R<|VA.so [12,11,10,9,8,7,6,5,4,3,2,1,0] 27 18 R (fun K' J=>A9 tbk [4,5,6,7,8,9,10,11,12] [] (by kernel_rfl) R R R<|J 8 R R R) (fun h8 K' J=>A9 tbk [4,5,6,7,8,9] [6,0] (by kernel_rfl) R R R<|Dl 10 R R R R R R (by kernel_rfl) (Cy 10 (kf:=VV.str) (vf:=(VV.int .i64)) (l:=w3.held) (k:=x3.Name) (z:=(0 : Int)) false mk9 B9 R R R zc3 R)<|A9 tbk [11,12] [] (by kernel_rfl) R R R<|J 8 R R R)<|Bb 13 R R R (by kernel_rfl) (Ai R)<|Dk hm [22,21,20,19,18,17,16,15,14,13,12,11,10,9,8,7,6,5,4,3,2,1,0] 37 28 R (fun _ K' h9 J hm=>A9 tbk [14,15,16,17,18,19,20,21,22] [] (by kernel_rfl) R R R<|J 8 R R (Bj hm)) (fun _ K' h9 J hm=>A9 tbk [14,15,16,17,18,19] [6,0] (by kernel_rfl) R R R<|Am 20 (by kernel_rfl)<|Dm R R R R R R<|Dn hm (Az 0 [(32,L68 w3.ms)] R ⟨⟨_,R,.here _ R⟩,trivial⟩ (FzH.refl _)) [.same,.same] R fn72 R (K49 _ _) (fun _=>R) (fun _=>R) fun r2 hm=>A9 tbk [21,22] [] (by kernel_rfl) R R R<|J 8 R R (Bj hm)) fun c2 hm=>A5 (by kernel_rfl)<|Ao hm R (fun h12 hm=>A6<|Ba tbk [] R R<|Ap w3 (ob9,cap9) hm (Be [2,3,4,5,6,7,8,9,0,10,11] (by kernel_rfl) ⟨R,R,R,congrArg some (k_next h6 h5),trivial⟩)) fun h12 hm=>Al<|Dq hm (fun _ (gg:Nat)=>[(0,.ptr b 0),(3,.ptr b4 0),(4,.ptr gg 0),(9,L70 r),(10,Iw (r.length : Int)),(11,Iw (k : Int))]) (fun g2 (gg:Nat)=>[X139 gg g2,Q139 ob cap w3.groups,Q68 ob9 cap9 w3.ms,X70 b4 x3,.box b3 149 [Z140 A0 A1 ob5 c.pools cap5,Z152 A0 A1 ob6 c.insts cap6,Iw c.delay,Iw c.now,Iw c.calls],Q140 A0 A1 ob5 cap5 c.pools,Q152 A0 A1 ob6 cap6 c.insts,.ar A0 144 bs (List.map T_cloud_pool.cells pools),.ar A1 157 bs2 (List.map (T_cloud_inst.cells A0 A1) insts),.box b 43 [.ptr b3 0,Z139 ob w3.groups cap,Z103 ob2 w3.budgets cap2,Z68 ob9 w3.ms cap9,Z64 ob4 w3.bs cap4,.map b2],Q103 ob2 cap2 w3.budgets,Q64 ob4 cap4 w3.bs,.map b2 (List.map (pf VV.str (VV.int .i64)) w3.held)]) (fun o2 hm=>?_) fun g2 b5 hm=> ?_
  ·refine Bu (Ax [8,0,1,2,3,4,5,6,7,9,10,11] R)<|Bi 1 mixed<|A9 tbk [0,1,2,3,4,5,6,7,8,9] [7,7,1] (by kernel_rfl) R R R<|?_
   refine B3 [10,13] (by kernel_rfl) ⟨?_,?_,trivial⟩
   ·refine An R R R<|Dn hm (Az 0 [(41,L139 w3.groups),(45,L139 w3.groups)] R ⟨⟨_,R,.here _ R⟩,⟨_,R,.here _ R⟩,trivial⟩ (FzH.refl _)) [.same,.same] R fn124 R (K28 _ _) (fun _=>R) (fun _=>R) fun r3 hm=>Bd hm fun x4 h17 hm=>VA.someRow 0 R (gl_pos T_api_Group.vv h17) fun b6 h18=> ?_
    subst h18
    refine Bb 11 R R R (by kernel_rfl) (Cm T_api_Group.vv R R el37 h17)<|?_
    refine B3 [12,13] (by kernel_rfl) ⟨?_,?_,trivial⟩
    ·exact An R R R<|B7 (Ce (i:=0) (y:=T_api_Group.vv x4) R R R (gl_map _ (gl_some h17).2) ld139 R)<|Am 13 (by kernel_rfl)<|An R R R<|Au z139 fun b7=>Am 14 (by kernel_rfl)<|An R R R<|Ak (i:=0) R R R ld139 R R R<|A5 (by kernel_rfl)<|As b7 hm (Ah [0,1,2,3,4,5,6,7,8,9,10,11,12] (by kernel_rfl) (by kernel_rfl))
    ·exact An R R R<|Au z139 fun b8=>Am 12 (by kernel_rfl)<|An R R R<|B7 (Ce (i:=1) (y:=T_api_Group.vv x4) R R R (gl_map _ (gl_some h17).2) ld139 R)<|Am 14 (by kernel_rfl)<|An R R R<|Ak (i:=0) R R R ld139 R R R<|A5 (by kernel_rfl)<|As b8 hm (Ah [0,1,2,3,4,5,6,7,8,9,10,11,12] (by kernel_rfl) (by kernel_rfl))
   ·refine An R R R<|Au z139 fun b9=>Am 10 (by kernel_rfl)<|An R R R<|Dn hm (Az 1 [(41,L139 w3.groups),(45,L139 w3.groups)] R ⟨⟨_,R,.here _ R⟩,⟨_,R,.here _ R⟩,trivial⟩ (FzH.refl _)) [.same,.same] R fn124 R (K28 _ _) (fun _=>R) (fun _=>R) fun r4 hm=>Bd hm fun x5 h23 hm=>VA.someRow 1 R (gl_pos T_api_Group.vv h23) fun b10 h24=> ?_
    subst h24
    exact Bb 11 R R R (by kernel_rfl) (Cm T_api_Group.vv R R el37 h23)<|Am 12 (by kernel_rfl)<|An R R R<|B7 (Ce (i:=1) (y:=T_api_Group.vv x5) R R R (gl_map _ (gl_some h23).2) ld139 R)<|Am 14 (by kernel_rfl)<|An R R R<|Ak (i:=0) R R R ld139 R R R<|A5 (by kernel_rfl)<|As b9 hm (Ah [0,1,2,3,4,5,6,7,8,9,10,11,12] (by kernel_rfl) (by kernel_rfl))
  refine Bu (Ax [2,9,0,1,3,4,5,6,7,8,10,11,12] R)<|Bi 2 mixed<|A9 tbk [0,1,2,3,5,6,7,8] [0,0,2] (by kernel_rfl) R R R<|?_
  refine B3 [4,9] (by kernel_rfl) ⟨?_,?_,trivial⟩
  ·refine An R R R<|B7 (B0 (i:=1) R R ld39 R)<|Am 9 (by kernel_rfl)<|Bd hm fun r5 h25 hm=>An R R R<|Aq 0 R fn126 R (K50 g2 x3.Name r5 h25) fun _ _ h30=> ?_
   obtain ⟨rfl,rfl⟩:=h30
   refine Am 10 (by kernel_rfl)<|Bd hm fun r6 h26 hm=>An R R R<|Aq 0 R fn125 R (K31 g2 r5 r6 h26) fun _ _ h29=> ?_
   obtain ⟨rfl,rfl⟩:=h29
   exact Am 11 (by kernel_rfl)<|An R R R<|A4 ap39 R R R R R fun b11=>Am 12 (by kernel_rfl)<|Bd hm fun l2 h28 hm=>An R R R<|Bo 1 T_api_Machine.vv (l:=w3.ms) (l2:=[r6]) ap39 R R (sT_row 0 T_api_Machine.vv el39 R R) h28 fun ob11 cap11=>A9 tbk [13,14] [] (by kernel_rfl) R R R<|Am 15 (by kernel_rfl)<|An R R R<|Ak (i:=2) R R R ld39 R R R<|A5 (by kernel_rfl)<|Ba tbk [] R R<|Ap (⟨(),w3.groups,w3.budgets,l2,w3.bs,w3.held⟩ : T_world_World) (ob11,cap11) hm (Be [6,7,8,9,10,2,4,11,1,12,13] (by kernel_rfl) ⟨R,R,R,congrArg some (k_next h6 h5),trivial⟩)
  ·refine Bd hm fun r7 h31 hm=>An R R R<|Aq 0 R fn126 R (K50 g2 x3.Name r7 h31) fun _ _ h42=> ?_
   obtain ⟨rfl,rfl⟩:=h42
   refine B3 [4,10] (by kernel_rfl) ⟨?_,?_,trivial⟩
   ·refine An R R R<|B7 (B0 (i:=1) R R ld39 R)<|Am 10 (by kernel_rfl)<|Bd hm fun r8 h32 hm=>An R R R<|Aq 0 R fn125 R (K31 g2 r7 r8 h32) fun _ _ h35=> ?_
    obtain ⟨rfl,rfl⟩:=h35
    exact Am 11 (by kernel_rfl)<|An R R R<|A4 ap39 R R R R R fun b12=>Am 12 (by kernel_rfl)<|Bd hm fun l3 h34 hm=>An R R R<|Bo 1 T_api_Machine.vv (l:=w3.ms) (l2:=[r8]) ap39 R R (sT_row 0 T_api_Machine.vv el39 R R) h34 fun ob12 cap12=>A9 tbk [13,14] [] (by kernel_rfl) R R R<|Am 15 (by kernel_rfl)<|An R R R<|Ak (i:=2) R R R ld39 R R R<|A5 (by kernel_rfl)<|Ba tbk [] R R<|Ap (⟨(),w3.groups,w3.budgets,l3,w3.bs,w3.held⟩ : T_world_World) (ob12,cap12) hm (Be [6,7,8,9,10,2,4,11,1,12,13] (by kernel_rfl) ⟨R,R,R,congrArg some (k_next h6 h5),trivial⟩)
   ·refine Bd hm fun r9 h36 hm=>An R R R<|Aq 0 R fn125 R (K31 g2 r7 r9 h36) fun _ _ h41=> ?_
    obtain ⟨rfl,rfl⟩:=h41
    refine B3 [4,11] (by kernel_rfl) ⟨?_,?_,trivial⟩
    ·exact An R R R<|B7 (B0 (i:=1) R R ld39 R)<|Am 11 (by kernel_rfl)<|An R R R<|A4 ap39 R R R R R fun b13=>Am 12 (by kernel_rfl)<|Bd hm fun l4 h38 hm=>An R R R<|Bo 1 T_api_Machine.vv (l:=w3.ms) (l2:=[r9]) ap39 R R (sT_row 0 T_api_Machine.vv el39 R R) h38 fun ob13 cap13=>A9 tbk [13,14] [] (by kernel_rfl) R R R<|Am 15 (by kernel_rfl)<|An R R R<|Ak (i:=2) R R R ld39 R R R<|A5 (by kernel_rfl)<|Ba tbk [] R R<|Ap (⟨(),w3.groups,w3.budgets,l4,w3.bs,w3.held⟩ : T_world_World) (ob13,cap13) hm (Be [6,7,8,9,10,2,4,11,1,12,13] (by kernel_rfl) ⟨R,R,R,congrArg some (k_next h6 h5),trivial⟩)
    ·exact An R R R<|A4 ap39 R R R R R fun b14=>Am 4 (by kernel_rfl)<|An R R R<|B7 (B0 (i:=2) R R ld39 R)<|Am 12 (by kernel_rfl)<|Bd hm fun l5 h40 hm=>An R R R<|Bo 1 T_api_Machine.vv (l:=w3.ms) (l2:=[r9]) ap39 R R (sT_row 0 T_api_Machine.vv el39 R R) h40 fun ob14 cap14=>A9 tbk [13,14] [] (by kernel_rfl) R R R<|Am 15 (by kernel_rfl)<|An R R R<|Ak (i:=2) R R R ld39 R R R<|A5 (by kernel_rfl)<|Ba tbk [] R R<|Ap (⟨(),w3.groups,w3.budgets,l5,w3.bs,w3.held⟩ : T_world_World) (ob14,cap14) hm (Be [6,7,8,9,10,2,4,11,1,12,13] (by kernel_rfl) ⟨R,R,R,congrArg some (k_next h6 h5),trivial⟩)
 obtain rfl:=Option.some.inj hm
 exact ⟨.inr R,_,.nil,[5,6,7,8,9,10,0,1,2,3,4],_,R,ob,cap,ob2,cap2,ob10,cap10,ob4,cap4,b2,R,R⟩

/-! trireme/world.New -/
def world_New.l1 : List T_api_Group → Nat → Int → Option Int
 | [], k, sum2 => some sum2
 | x2 :: l2, k, sum2 =>
  world_New.l1 l2 (k + 1) (i64.wrap (sum2 + x2.Max))
def world_New.l2 : List T_api_Group → Nat → Int → Option Int
 | [], k2, sum5 => some sum5
 | x3 :: l3, k2, sum5 =>
  world_New.l2 l3 (k2 + 1) (i64.wrap (sum5 + x3.Max))
def world_New.l3 : List T_api_Group → Nat → T_world_World → Option T_world_World
 | [], k3, w2 => some (⟨(), w2.groups, [], [], [], w2.held⟩ : T_world_World)
 | x4 :: l4, k3, w2 =>
  (world_machine x4.Like).bind fun r4 =>
  (V.ap 176 w2.groups [(⟨x4.Name, x4.Min, x4.Max, r4, x4.Price, x4.Rank⟩ : T_api_Group)]).bind fun l5 =>
  world_New.l3 l4 (k3 + 1) (⟨(), l5, [], [], [], w2.held⟩ : T_world_World)
def world_New (l : List T_api_Group) (b : List T_api_Budget) (delay : Int) (pools : List T_cloud_pool) (insts : List T_cloud_inst) : Option ((Option (T_world_World × T_cloud_Cloud)) × Int × List T_cloud_pool × List T_cloud_inst) :=
 (cloud_New l delay pools insts).bind fun r =>
 po r.1 (
  if (r.2.1 != 0) = true then
   some (none, r.2.1, r.2.2.1, r.2.2.2)
  else
   (budget_Right b).bind fun r2 =>
   if (!r2) = true then
    some (none, 12, r.2.2.1, r.2.2.2)
   else
    (world_New.l1 l 0 (0 : Int)).bind fun sum32 =>
    if (decide (sum32 > 200)) = true then
     some (none, 7, r.2.2.1, r.2.2.2)
    else
     none) fun x =>
 if (r.2.1 != 0) = true then
  some (none, r.2.1, r.2.2.1, r.2.2.2)
 else
  (budget_Right b).bind fun r3 =>
  if (!r3) = true then
   some (none, 12, r.2.2.1, r.2.2.2)
  else
   (world_New.l2 l 0 (0 : Int)).bind fun sum62 =>
   if (decide (sum62 > 200)) = true then
    some (none, 7, r.2.2.1, r.2.2.2)
   else
    (world_New.l3 l 0 (⟨(), ([] : List T_api_Group), [], [], [], ([] : List (ByteArray × Int))⟩ : T_world_World)).bind fun w32 =>
    (world_own b).bind fun r5 =>
    (world_World_register (⟨(), w32.groups, r5, ([] : List T_api_Machine), ([] : List T_api_Bound), w32.held⟩ : T_world_World) x r.2.2.1 r.2.2.2).bind fun r6 =>
    some ((some (r6, x)), 0, r.2.2.1, r.2.2.2)
theorem K52 (A0 A1 : Nat) (l : List T_api_Group) (b : List T_api_Budget) (delay : Int) (pools : List T_cloud_pool) (insts : List T_cloud_inst) (bs : List Nat) (bs2 : List Nat) : ∀ r : (Option (T_world_World × T_cloud_Cloud)) × Int × List T_cloud_pool × List T_cloud_inst, world_New l b delay pools insts = some r → VC Tryz.prog 30 [L139 l, L103 b, Iw delay] [.ar A0 144 bs (List.map T_cloud_pool.cells pools), .ar A1 157 bs2 (List.map (T_cloud_inst.cells A0 A1) insts)] fun zx zH => ∃ (b_0_1 : Nat) (b_0_2 : Nat) (ob_0_3 : Option Nat) (cap_0_4 : Nat) (ob_0_5 : Option Nat) (cap_0_6 : Nat) (ob_0_7 : Option Nat) (cap_0_8 : Nat) (ob_0_9 : Option Nat) (cap_0_10 : Nat) (ob_0_11 : Option Nat) (cap_0_12 : Nat) (ob_0_13 : Option Nat) (cap_0_14 : Nat) (b_0_15 : Nat) (bs_0 : List Nat) (bs_1 : List Nat), zx = .tup [(po r.1 .nilptr fun _ => .ptr b_0_1 0), Iw r.2.1] ∧ zH = (po r.1 [] fun zb => [.box b_0_1 43 [.ptr b_0_2 0, Z139 ob_0_7 zb.1.groups cap_0_8, Z103 ob_0_9 zb.1.budgets cap_0_10, Z68 ob_0_11 zb.1.ms cap_0_12, Z64 ob_0_13 zb.1.bs cap_0_14, .map b_0_15], Q139 ob_0_7 cap_0_8 zb.1.groups, Q103 ob_0_9 cap_0_10 zb.1.budgets, Q68 ob_0_11 cap_0_12 zb.1.ms, Q64 ob_0_13 cap_0_14 zb.1.bs, .map b_0_15 (List.map (pf VV.str (VV.int .i64)) zb.1.held), .box b_0_2 149 [Z140 A0 A1 ob_0_3 zb.2.pools cap_0_4, Z152 A0 A1 ob_0_5 zb.2.insts cap_0_6, Iw zb.2.delay, Iw zb.2.now, Iw zb.2.calls], Q140 A0 A1 ob_0_3 cap_0_4 zb.2.pools, Q152 A0 A1 ob_0_5 cap_0_6 zb.2.insts]) ++ [.ar A0 144 bs_0 (List.map T_cloud_pool.cells r.2.2.1), .ar A1 157 bs_1 (List.map (T_cloud_inst.cells A0 A1) r.2.2.2)] := by
 refine Cl [.tmp 6,.tmp 7] Tryz.func30 R R R fun r hm=>?_
 unfold world_New at hm
 refine Ag tbk [] R R<|Ae<|Ad tbk [] 2 R R<|Bd hm fun r h1 hm=>Ab R R<|Aq 2 R fn90 R (K33 A0 A1 l delay pools insts bs bs2 r h1) fun _ _ h46=> ?_
 obtain ⟨b2,ob,cap,ob2,cap2,bs3,bs4,rfl,rfl⟩:=h46
 rcases po_or hm with ⟨h45,hm⟩ | ⟨x,h45,hm⟩
 ·rw [h45]
  refine Ad tbk [] 5 R R<|Ac<|Af<|Ag tbk [] R R<|Ao hm R (fun h5 hm=>?_) fun h5 hm=> ?_
  ·refine Ag tbk [] R R<|?_
   obtain rfl:=Option.some.inj hm
   exact Bq ⟨.inl R,_,.cons (.tmp _ _ R) (.cons (.tmp _ _ R) .nil),[0,1],_,R,0,0,none,0,none,0,none,0,none,0,none,0,none,0,0,bs3,bs4,R,R⟩
  refine Al<|Af<|Ae<|Aa R R (Ai R)<|Ab R R<|Ay hm 0 R fn91 R (K34 _) fun r2 hm=>Aa R R (Cp R)<|Ac<|Ao hm R (fun h7 hm=>?_) fun h7 hm=> ?_
  ·refine Ag tbk [] R R<|?_
   obtain rfl:=Option.some.inj hm
   exact Bq ⟨.inl R,_,.cons (.tmp _ _ R) (.cons (.tmp _ _ R) .nil),[0,1],_,R,0,0,none,0,none,0,none,0,none,0,none,0,none,0,0,bs3,bs4,R,R⟩
  refine Al<|Ag tbk [] R R<|Af<|Ae<|Aa R R (Ai R)<|Aa R R (A7 T_api_Group.vv R Ck)<|Aa R R (Ai R)<|Ac<|B4 0 R fun h10=>Cc hm (fun sum32 (_:Unit)=>[(0,L139 l),(1,L103 b),(8,.nilptr),(10,Iw sum32)]) (fun _ (_:Unit)=>[.ar A0 144 bs3 (List.map T_cloud_pool.cells r.2.2.1),.ar A1 157 bs4 (List.map (T_cloud_inst.cells A0 A1) r.2.2.2)]) (fun o hm=>?_) fun sum32 _ hm=> ?_
  ·refine Cf (l) (fun zl zk (zs:Int)=>world_New.l1 zl zk zs) (fun k zs (_:Unit)=>[(0,L139 l),(1,L103 b),(8,.nilptr),(10,Iw zs),(28,L139 l),(29,Iw (l.length : Int)),(30,Iw (k : Int))]) (fun _ _ (_:Unit)=>[.ar A0 144 bs3 (List.map T_cloud_pool.cells r.2.2.1),.ar A1 157 bs4 (List.map (T_cloud_inst.cells A0 A1) r.2.2.2)]) _ () hm (Ah [0,1] R R) (fun k sum2 _ hk hm=>?_) fun k x2 l2 sum2 _ h11 hm=> ?_
   ·rw [world_New.l1] at hm
    exact Ag tbk [] R R<|Af<|Bm R (k_end hk)<|A6<|As () hm (Ah [0,1] R R)
   rw [world_New.l1] at hm
   exact Ag tbk [] R R<|Af<|Bl R (k_lt h11)<|Al<|Af<|Aw<|Ae<|Aa R R (B8 T_api_Group.vv R R el37 h11)<|Aa R R (Bt R ld139 R)<|Ab R R<|Au z139 fun b3=>Ab R R<|Ak (i:=0) R R R ld139 R R R<|Ac<|Ba tbk [0] R R<|Ba tbk [] R R<|Ap _ () hm (Be [1,2] R ⟨R,R,R,R,R,R,congrArg some (k_next h11 h10),trivial⟩)
  refine Af<|Ag tbk [] R R<|Ao hm R (fun h13 hm=>?_) fun h13 hm=> ?_
  ·refine Ag tbk [] R R<|?_
   obtain rfl:=Option.some.inj hm
   exact Bq ⟨.inl R,_,.cons (.tmp _ _ R) (.cons (.tmp _ _ R) .nil),[0,1],_,R,0,0,none,0,none,0,none,0,none,0,none,0,none,0,0,bs3,bs4,R,R⟩
  exact Al<|Ae<|Aa R R (Ai R)<|Ab R R<|Dc fun b4=>absurd hm nofun
 ·rw [h45]
  refine Ad tbk [] 5 R R<|Ac<|Af<|Ag tbk [] R R<|Ao hm R (fun h15 hm=>?_) fun h15 hm=> ?_
  ·refine Ag tbk [] R R<|?_
   obtain rfl:=Option.some.inj hm
   exact Bq ⟨.inl R,_,.cons (.tmp _ _ R) (.cons (.tmp _ _ R) .nil),[3,4],_,R,0,0,none,0,none,0,none,0,none,0,none,0,none,0,0,bs3,bs4,R,R⟩
  refine Al<|Af<|Ae<|Aa R R (Ai R)<|Ab R R<|Ay hm 0 R fn91 R (K34 _) fun r3 hm=>Aa R R (Cp R)<|Ac<|Ao hm R (fun h17 hm=>?_) fun h17 hm=> ?_
  ·refine Ag tbk [] R R<|?_
   obtain rfl:=Option.some.inj hm
   exact Bq ⟨.inl R,_,.cons (.tmp _ _ R) (.cons (.tmp _ _ R) .nil),[3,4],_,R,0,0,none,0,none,0,none,0,none,0,none,0,none,0,0,bs3,bs4,R,R⟩
  refine Al<|Ag tbk [] R R<|Af<|Ae<|Aa R R (Ai R)<|Aa R R (A7 T_api_Group.vv R Ck)<|Aa R R (Ai R)<|Ac<|B4 0 R fun h20=>Cc hm (fun sum62 (_:Unit)=>[(0,L139 l),(1,L103 b),(8,.ptr b2 0),(10,Iw sum62)]) (fun _ (_:Unit)=>[.box b2 149 [Z140 A0 A1 ob x.pools cap,Z152 A0 A1 ob2 x.insts cap2,Iw x.delay,Iw x.now,Iw x.calls],Q140 A0 A1 ob cap x.pools,Q152 A0 A1 ob2 cap2 x.insts,.ar A0 144 bs3 (List.map T_cloud_pool.cells r.2.2.1),.ar A1 157 bs4 (List.map (T_cloud_inst.cells A0 A1) r.2.2.2)]) (fun o2 hm=>?_) fun sum62 _ hm=> ?_
  ·refine Cf (l) (fun zl zk (zs:Int)=>world_New.l2 zl zk zs) (fun k2 zs (_:Unit)=>[(0,L139 l),(1,L103 b),(8,.ptr b2 0),(10,Iw zs),(28,L139 l),(29,Iw (l.length : Int)),(30,Iw (k2 : Int))]) (fun _ _ (_:Unit)=>[.box b2 149 [Z140 A0 A1 ob x.pools cap,Z152 A0 A1 ob2 x.insts cap2,Iw x.delay,Iw x.now,Iw x.calls],Q140 A0 A1 ob cap x.pools,Q152 A0 A1 ob2 cap2 x.insts,.ar A0 144 bs3 (List.map T_cloud_pool.cells r.2.2.1),.ar A1 157 bs4 (List.map (T_cloud_inst.cells A0 A1) r.2.2.2)]) _ () hm (Ah [0,1,2,3,4] R R) (fun k2 sum5 _ hk hm=>?_) fun k2 x3 l3 sum5 _ h21 hm=> ?_
   ·rw [world_New.l2] at hm
    exact Ag tbk [] R R<|Af<|Bm R (k_end hk)<|A6<|As () hm (Ah [0,1,2,3,4] R R)
   rw [world_New.l2] at hm
   exact Ag tbk [] R R<|Af<|Bl R (k_lt h21)<|Al<|Af<|Aw<|Ae<|Aa R R (B8 T_api_Group.vv R R el37 h21)<|Aa R R (Bt R ld139 R)<|Ab R R<|Au z139 fun b5=>Ab R R<|Ak (i:=0) R R R ld139 R R R<|Ac<|Ba tbk [0] R R<|Ba tbk [] R R<|Ap _ () hm (Be [1,2,3,4,5] R ⟨R,R,R,R,R,R,congrArg some (k_next h21 h20),trivial⟩)
  refine Af<|Ag tbk [] R R<|Ao hm R (fun h23 hm=>?_) fun h23 hm=> ?_
  ·refine Ag tbk [] R R<|?_
   obtain rfl:=Option.some.inj hm
   exact Bq ⟨.inl R,_,.cons (.tmp _ _ R) (.cons (.tmp _ _ R) .nil),[3,4],_,R,0,0,none,0,none,0,none,0,none,0,none,0,none,0,0,bs3,bs4,R,R⟩
  refine Al<|Ae<|Aa R R (Ai R)<|Ab R R<|Dc fun b6=>Aa R R (Bn pl43 R R)<|Ab R R<|Bg R R fun b7=>Aa R R (Aj R)<|Ac<|Af<|Ae<|Aa R R (Ai R)<|Aa R R (A7 T_api_Group.vv R Ck)<|Aa R R (Ai R)<|Ac<|B4 45 R fun h30=>Cc hm (fun _ (gg:Option Nat × Nat)=>[(1,L103 b),(13,.ptr b7 0)]) (fun w32 (gg:Option Nat × Nat)=>[Q139 gg.1 gg.2 w32.groups,.box b7 43 [.ptr b2 0,Z139 gg.1 w32.groups gg.2,.sl none 0 0,.sl none 0 0,.sl none 0 0,.map b6],.map b6 (List.map (pf VV.str (VV.int .i64)) w32.held),.box b2 149 [Z140 A0 A1 ob x.pools cap,Z152 A0 A1 ob2 x.insts cap2,Iw x.delay,Iw x.now,Iw x.calls],Q140 A0 A1 ob cap x.pools,Q152 A0 A1 ob2 cap2 x.insts,.ar A0 144 bs3 (List.map T_cloud_pool.cells r.2.2.1),.ar A1 157 bs4 (List.map (T_cloud_inst.cells A0 A1) r.2.2.2)]) (fun o3 hm=>?_) fun w32=>Pq fun ob5 cap5 hm=> ?_
  ·refine Cf (l) (fun zl zk (zs:T_world_World)=>world_New.l3 zl zk zs) (fun k3 _ (_:Option Nat × Nat)=>[(1,L103 b),(13,.ptr b7 0),(45,L139 l),(46,Iw (l.length : Int)),(47,Iw (k3 : Int))]) (fun _ zs (zg:Option Nat × Nat)=>[Q139 zg.1 zg.2 zs.groups,.box b7 43 [.ptr b2 0,Z139 zg.1 zs.groups zg.2,.sl none 0 0,.sl none 0 0,.sl none 0 0,.map b6],.map b6 (List.map (pf VV.str (VV.int .i64)) zs.held),.box b2 149 [Z140 A0 A1 ob x.pools cap,Z152 A0 A1 ob2 x.insts cap2,Iw x.delay,Iw x.now,Iw x.calls],Q140 A0 A1 ob cap x.pools,Q152 A0 A1 ob2 cap2 x.insts,.ar A0 144 bs3 (List.map T_cloud_pool.cells r.2.2.1),.ar A1 157 bs4 (List.map (T_cloud_inst.cells A0 A1) r.2.2.2)]) (⟨(),([] : List T_api_Group),[],[],[],([] : List (ByteArray × Int))⟩ : T_world_World) (none,0) hm (B1 (Bf 139) (Ah [0,1,2,3,4,5,6,7] (by kernel_rfl) (by kernel_rfl))) (fun k3 w2=>Pq fun ob4 cap4 hk hm=>?_) fun k3 x4 l4 w2=>Pq fun ob4 cap4 h31 hm=> ?_
   ·rw [world_New.l3] at hm
    exact Ag tbk [] R R<|Af<|Bm R (k_end hk)<|A6<|As (ob4,cap4) hm (Ah [0,1,2,3,4,5,6,7] (by kernel_rfl) (by kernel_rfl))
   rw [world_New.l3] at hm
   refine Ag tbk [] R R<|Af<|Bl R (k_lt h31)<|Al<|Af<|Aw<|Ae<|Aa R R (B8 T_api_Group.vv R R el37 h31)<|Aa R R (Bt R ld139 R)<|Ab R R<|Au z139 fun b8=>Ab R R<|Ak (i:=0) R R R ld139 R R R<|Ac<|Ae<|Ad tbk [0] 2 R R<|Ab R R<|Ay hm 0 R fn79 R (K35 _) fun r4 hm=>Aa R R (C7 R fa139_3)<|Ab R R<|Ak (i:=0) R R R ld68 R R R<|Ac<|Bu (Ax [1,2,0,3,4,5,6,7,8] R)<|Bi 2 mixed<|A9 tbk [0,1,2,3,5] [0] (by kernel_rfl) R R R<|?_
   refine B3 [4,6] (by kernel_rfl) ⟨?_,?_,trivial⟩
   ·exact An R R R<|B7 (B0 (i:=1) R R ld37 R)<|Am 6 (by kernel_rfl)<|An R R R<|A4 ap37 R R R R R fun b9=>Am 7 (by kernel_rfl)<|Bd hm fun l5 h35 hm=>An R R R<|Bo 1 T_api_Group.vv (l:=w2.groups) (l2:=[(⟨x4.Name,x4.Min,x4.Max,r4,x4.Price,x4.Rank⟩ : T_api_Group)]) ap37 R R (sT_row 0 T_api_Group.vv el37 R R) h35 fun ob6 cap6=>A9 tbk [8,9] [] (by kernel_rfl) R R R<|Am 10 (by kernel_rfl)<|An R R R<|Ak (i:=2) R R R ld37 R R R<|A5 (by kernel_rfl)<|Ba tbk [] R R<|Ap (⟨(),l5,[],[],[],w2.held⟩ : T_world_World) (ob6,cap6) hm (Be [1,2,4,5,6,7,8,9] (by kernel_rfl) ⟨R,R,R,R,congrArg some (k_next h31 h30),trivial⟩)
   ·exact An R R R<|A4 ap37 R R R R R fun b10=>Am 4 (by kernel_rfl)<|An R R R<|B7 (B0 (i:=2) R R ld37 R)<|Am 7 (by kernel_rfl)<|Bd hm fun l6 h37 hm=>An R R R<|Bo 1 T_api_Group.vv (l:=w2.groups) (l2:=[(⟨x4.Name,x4.Min,x4.Max,r4,x4.Price,x4.Rank⟩ : T_api_Group)]) ap37 R R (sT_row 0 T_api_Group.vv el37 R R) h37 fun ob7 cap7=>A9 tbk [8,9] [] (by kernel_rfl) R R R<|Am 10 (by kernel_rfl)<|An R R R<|Ak (i:=2) R R R ld37 R R R<|A5 (by kernel_rfl)<|Ba tbk [] R R<|Ap (⟨(),l6,[],[],[],w2.held⟩ : T_world_World) (ob7,cap7) hm (Be [1,2,4,5,6,7,8,9] (by kernel_rfl) ⟨R,R,R,R,congrArg some (k_next h31 h30),trivial⟩)
  refine Ae<|Ad tbk [] 2 R R<|Ab R R<|Cj hm 0 R fn80 R (K36 _) fun r5 ob8 cap8 hm=>Ad tbk [] 2 R R<|Ab R R<|Ak (i:=2) R R R ld38 R R R<|Ac<|Ae<|Aa R R (Ai R)<|Av (B1 (Bf 68) (Bf 64))<|Bd hm fun r6 h43 hm=>Av (Ax [4,3,2,1,0,5,6,7,8,9,10] R)<|Ab R R<|Aq 11 R fn63 R (K51 A0 A1 (⟨(),w32.groups,r5,([] : List T_api_Machine),([] : List T_api_Bound),w32.held⟩ : T_world_World) x r.2.2.1 r.2.2.2 b7 ob5 cap5 ob8 cap8 none 0 none 0 b6 b2 ob cap ob2 cap2 bs3 bs4 r6 h43) fun _ _ h44=> ?_
  obtain ⟨ob9,cap9,ob10,cap10,ob11,cap11,ob12,cap12,b11,rfl,rfl⟩:=h44
  refine Ac<|Ag tbk [] R R<|?_
  obtain rfl:=Option.some.inj hm
  exact Bq ⟨.inl R,_,.cons (.tmp _ _ R) (.cons (.tmp _ _ R) .nil),[0,1,2,3,4,5,6,7,8,9,10],_,R,b7,b2,ob,cap,ob2,cap2,ob9,cap9,ob10,cap10,ob11,cap11,ob12,cap12,b11,bs3,bs4,R,R⟩

/-! trireme/drain.New -/
def drain_New (grace : Int) : Option (Option T_drain_Table × Int) :=
 if ((decide (grace < 0)) || (decide (grace > 1000))) = true then
  some (none, 1)
 else
  some ((some (⟨([] : List T_drain_one), grace, true⟩ : T_drain_Table)), 0)
theorem K53 (grace : Int) : ∀ r : Option T_drain_Table × Int, drain_New grace = some r → VC Tryz.prog 38 [Iw grace] [] fun zx zH => ∃ (b_0_1 : Nat) (ob_0_2 : Option Nat) (cap_0_3 : Nat), zx = .tup [(po r.1 .nilptr fun _ => .ptr b_0_1 0), Iw r.2] ∧ zH = (po r.1 [] fun zb => [.box b_0_1 108 [Z172 ob_0_2 zb.l cap_0_3, Iw zb.grace, .bool zb.made], Q172 ob_0_2 cap_0_3 zb.l]) ++ [] := by
 refine Cl [.tmp 2,.tmp 3] Tryz.func38 R R R fun r hm=>?_
 unfold drain_New at hm
 refine Ag tbk [] R R<|Af<|Ae<|Ad tbk [] 3 R R<|Cq tbk [] 3 9 6 R R R R R<|Ac<|Ao hm R (fun h2 hm=>?_) fun h2 hm=> ?_
 ·refine Ag tbk [] R R<|?_
  obtain rfl:=Option.some.inj hm
  exact Bq ⟨.inl R,_,.cons (.tmp _ _ R) (.cons (.tmp _ _ R) .nil),[],_,R,0,none,0,R,R⟩
 refine Al<|Ae<|Aa R R (Ai R)<|Aa R R (Bn pl108 R R)<|Ab R R<|Bg R R fun b=>Ad tbk [] 2 R R<|Ac<|?_
 obtain rfl:=Option.some.inj hm
 exact Bu (Bf 172)<|Bq ⟨.inl R,_,.cons (.tmp _ _ R) (.cons (.tmp _ _ R) .nil),[1,0],_,R,b,none,0,R,R⟩

/-! (*trireme/world.World).there -/
def world_World_there (w : T_world_World) (c : T_cloud_Cloud) : Option Bool :=
 some true
theorem K54 (A0 A1 : Nat) (w : T_world_World) (c : T_cloud_Cloud) (b : Nat) (ob : Option Nat) (cap : Nat) (ob2 : Option Nat) (cap2 : Nat) (ob3 : Option Nat) (cap3 : Nat) (ob4 : Option Nat) (cap4 : Nat) (b2 : Nat) (b3 : Nat) (ob5 : Option Nat) (cap5 : Nat) (ob6 : Option Nat) (cap6 : Nat) : VS Tryz.prog 60 (world_World_there w c) [.ptr b 0] [.box b 43 [.ptr b3 0, Z139 ob w.groups cap, Z103 ob2 w.budgets cap2, Z68 ob3 w.ms cap3, Z64 ob4 w.bs cap4, .map b2], Q139 ob cap w.groups, Q103 ob2 cap2 w.budgets, Q68 ob3 cap3 w.ms, Q64 ob4 cap4 w.bs, .map b2 (List.map (pf VV.str (VV.int .i64)) w.held), .box b3 149 [Z140 A0 A1 ob5 c.pools cap5, Z152 A0 A1 ob6 c.insts cap6, Iw c.delay, Iw c.now, Iw c.calls], Q140 A0 A1 ob5 cap5 c.pools, Q152 A0 A1 ob6 cap6 c.insts] .bool (fun r=>[.box b 43 [.ptr b3 0, Z139 ob w.groups cap, Z103 ob2 w.budgets cap2, Z68 ob3 w.ms cap3, Z64 ob4 w.bs cap4, .map b2], Q139 ob cap w.groups, Q103 ob2 cap2 w.budgets, Q68 ob3 cap3 w.ms, Q64 ob4 cap4 w.bs, .map b2 (List.map (pf VV.str (VV.int .i64)) w.held), .box b3 149 [Z140 A0 A1 ob5 c.pools cap5, Z152 A0 A1 ob6 c.insts cap6, Iw c.delay, Iw c.now, Iw c.calls], Q140 A0 A1 ob5 cap5 c.pools, Q152 A0 A1 ob6 cap6 c.insts]) := by
 refine A8 [.tmp 2] Tryz.func60 R R R fun r hm=>?_
 unfold world_World_there at hm
 exact Ag tbk [] R R<|Ae<|Aa R R (Ai R)<|Aa R R (Dx Cn R R)<|Ad tbk [0] 5 R R<|Bk R R R R R (Dx Dg R R)<|Ad tbk [] 2 R R<|Ac<|Rt1 hm R [0,1,2,3,4,5,6,7,8] R R R

/-! trireme/quant.head -/
def quant_head.l1 (s : ByteArray) : Nat → Int → Option Int
 | 0, _ => none
 | n4 + 1, n2 =>
  (if (decide (n2 < (s.size : Int))) = true then (V.gi s n2).bind fun v =>
  some (decide (v ≥ 48)) else some false).bind fun c =>
  (if c = true then (V.gi s n2).bind fun v2 =>
  some (decide (v2 ≤ 57)) else some false).bind fun c2 =>
  if c2 = true then
   quant_head.l1 s n4 (i64.wrap (n2 + 1))
  else
   some n2
def quant_head (s : ByteArray) : Option Int :=
 (quant_head.l1 s FU (0 : Int)).bind fun n32 =>
 some n32
theorem K55 (s : ByteArray) : VS Tryz.prog 238 (quant_head s) [.str s] [] Iw N0 := by
 refine A8 [.tmp 2] Tryz.func238 R R R fun r hm=>?_
 unfold quant_head at hm
 refine Ag tbk [] R R<|Ag tbk [] R R<|Dq hm (fun n32 (_:Unit)=>[(3,Iw n32)]) (fun _ (_:Unit)=>[]) (fun o hm=>?_) fun n32 _ hm=> ?_
 ·refine Ca (fun zn (zs:Int)=>quant_head.l1 s zn zs) (fun zs (_:Unit)=>[(0,.str s),(3,Iw zs)]) (fun _ (_:Unit)=>[]) _ () (fun _=>R) hm (Ah [] R R) fun n4 n2 _ hm=> ?_
  rw [quant_head.l1] at hm
  exact Af<|Ae<|Ad tbk [] 2 R R<|Aa R R (Ci R Bc)<|Ad tbk [] 2 R R<|Bx hm 5 13 8 R (fun _ K' h3 J hm=>Ad tbk [] 2 R R<|Bd hm fun v h4 hm=>Bk R R R R R (Dr R R Bc h4)<|Ad tbk [] 2 R R<|J 4 R R (Bj hm)) (fun _ K' h3 J hm=>Ad tbk [] 5 R R<|J 4 R R (Bj hm)) fun c hm=>Aa R R (Ai R)<|Bx hm 5 19 14 R (fun _ K' h6 J hm=>Ad tbk [] 2 R R<|Bd hm fun v2 h7 hm=>Bk R R R R R (Dr R R Bc h7)<|Ad tbk [] 2 R R<|J 4 R R (Bj hm)) (fun _ K' h6 J hm=>Ad tbk [] 5 R R<|J 4 R R (Bj hm)) fun c2 hm=>Ac<|Ao hm R (fun h9 hm=>Al<|Aw<|Ba tbk [] R R<|Ap _ () hm (Ah [] R R)) fun h9 hm=>A6<|As () hm (Ah [] R R)
 exact Ag tbk [] R R<|Rt1 hm R [] R R R

/-! trireme/quant.value -/
def quant_value.l1 (s : ByteArray) (most : Int) : Nat → Int → Int → Option (Out (Int × Bool) Int)
 | 0, _, _ => none
 | n4 + 1, n2, v2 =>
  if (decide (v2 < (s.size : Int))) = true then
   (V.gi s v2).bind fun v3 =>
   (V.quo (i64.wrap (most - (i64.wrap (IntKind.u8.wrap (v3 - 48))))) (10 : Int)).bind fun v4 =>
   if (decide (n2 > (i64.wrap v4))) = true then
    some (Out.ret (0, false))
   else
    quant_value.l1 s most n4 (i64.wrap ((i64.wrap (10 * n2)) + (i64.wrap (IntKind.u8.wrap (v3 - 48))))) (i64.wrap (v2 + 1))
  else
   some (Out.go n2)
def quant_value (s : ByteArray) (most : Int) : Option (Int × Bool) :=
 (quant_value.l1 s most FU 0 (0 : Int)).bind fun o =>
 o.on fun n32 =>
 some (n32, true)
theorem K56 (s : ByteArray) (most : Int) : VS Tryz.prog 239 (quant_value s most) [.str s, Iw most] [] (fun r=>.tup [Iw r.1, .bool r.2]) N0 := by
 refine A8 [.tmp 4,.tmp 5] Tryz.func239 R R R fun r hm=>?_
 unfold quant_value at hm
 refine Ag tbk [] R R<|Ag tbk [] R R<|Af<|Ae<|Aa R R (Ai R)<|Aa R R (Ci R Bc)<|Aa R R (Ai R)<|Ac<|B5 hm (fun n32 (_:Unit)=>[(6,Iw n32)]) (fun _ (_:Unit)=>[]) (fun o hm h2=>?_) fun n32 _ hm=> ?_
 ·refine Ca (fun zn (zs:Int × Int)=>quant_value.l1 s most zn zs.1 zs.2) (fun zs (_:Unit)=>[(0,.str s),(1,Iw most),(6,Iw zs.1),(10,Iw (s.size : Int)),(11,Iw zs.2)]) (fun _ (_:Unit)=>[]) ((0 : Int),(0 : Int)) () (fun _=>R) hm (Ah [] R R) fun n4=>Pq fun n2 v2 _ hm=> ?_
  rw [quant_value.l1] at hm
  exact Ag tbk [] R R<|Af<|Ao hm R (fun h3 hm=>Al<|Af<|Aw<|Ag tbk [] R R<|Ae<|Ad tbk [] 2 R R<|Bd hm fun v3 h4 hm=>Aa R R (Dr R R Bc h4)<|Aa R R (Br R R R)<|Aa R R (D9 C3 Dh R)<|Aa R R (Aj R)<|Ac<|Af<|Ae<|Ad tbk [] 4 R R<|Bd hm fun v4 h5 hm=>Aa R R (VP.quoT R R h5)<|Aa R R (Br R R R)<|Ac<|Ao hm R (fun h6 hm=>Ag tbk [] R R<|have hm:=Lr hm h2;Rt2 hm R [] R R R R) fun h6 hm=>Al<|Ba tbk [] R R<|Ba tbk [] R R<|Ap ((IntKind.i64.wrap ((IntKind.i64.wrap ((10 : Int) * n2)) + (IntKind.i64.wrap (IntKind.u8.wrap (v3 - (48 : Int)))))),(IntKind.i64.wrap (v2 + (1 : Int)))) () hm (Ah [] R R)) fun h3 hm=>A6<|Ar () hm (Ah [] R R)
 exact Ag tbk [] R R<|Rt2 hm R [] R R R R

/-! trireme/quant.Number -/
def quant_Number (s : ByteArray) : Option (Int × Int) :=
 (if (V.seq s (⟨#[]⟩ : ByteArray)) = true then some true else (quant_head s).bind fun r =>
 some (r != (s.size : Int))).bind fun c =>
 if c = true then
  some (0, 8)
 else
  (quant_value s (1125899906842624 : Int)).bind fun r2 =>
  if (!r2.2) = true then
   some (0, 10)
  else
   some (r2.1, 0)
theorem K57 (s : ByteArray) : VS Tryz.prog 222 (quant_Number s) [.str s] [] (fun r=>.tup [Iw r.1, Iw r.2]) N0 := by
 refine A8 [.tmp 2,.tmp 3] Tryz.func222 R R R fun r hm=>?_
 unfold quant_Number at hm
 exact Ag tbk [] R R<|Af<|Ae<|Ad tbk [] 3 R R<|Bx hm 6 14 8 R (fun _ K' h1 J hm=>Ad tbk [] 6 R R<|J 5 R R (Bj hm)) (fun _ K' h1 J hm=>Bk R R R R R (Ai R)<|Bh R R R R R<|Ay hm 0 R fn238 R (K55 _) fun r hm=>Bk R R R R R (Ai R)<|Bk R R R R R (Ci R Bc)<|Ad tbk [] 2 R R<|J 5 R R (Bj hm)) fun c hm=>Ac<|Ao hm R (fun h4 hm=>Ag tbk [] R R<|Rt2 hm R [] R R R R) fun h4 hm=>Al<|Ae<|Aa R R (Ai R)<|Ab R R<|Ay hm 0 R fn239 R (K56 _ _) fun r2 hm=>Ad tbk [] 5 R R<|Ac<|Af<|Ag tbk [] R R<|Ao hm R (fun h6 hm=>Ag tbk [] R R<|Rt2 hm R [] R R R R) fun h6 hm=>Al<|Ag tbk [] R R<|Rt2 hm R [] R R R R

/-! trireme/labels.number -/
def labels_number (s : ByteArray) : Option (Int × Bool) :=
 (quant_Number s).bind fun r =>
 some (r.1, (r.2 == 0))
theorem K58 (s : ByteArray) : VS Tryz.prog 186 (labels_number s) [.str s] [] (fun r=>.tup [Iw r.1, .bool r.2]) N0 := by
 refine A8 [.tmp 2,.tmp 3] Tryz.func186 R R R fun r hm=>?_
 unfold labels_number at hm
 exact Ag tbk [] R R<|Ae<|Aa R R (Ai R)<|Ab R R<|Ay hm 0 R fn222 R (K57 _) fun r hm=>Ad tbk [] 5 R R<|Ac<|Ag tbk [] R R<|Rt2 hm R [] R R R R

/-! trireme/labels.RightTerm -/
def labels_RightTerm.l1 : List ByteArray → Nat → Option (Out (Out Bool Unit) Unit)
 | [], k => some (Out.go ())
 | x3 :: l, k =>
  (labels_maybe x3).bind fun r4 =>
  if (!r4) = true then
   some (Out.ret (Out.ret false))
  else
   labels_RightTerm.l1 l (k + 1)
def labels_RightTerm (t : T_api_Term) : Option Bool :=
 (lex_Word t.Key).bind fun r =>
 if (!r) = true then
  some false
 else
  ((if (t.Op == 1) = true then
   some (Out.go ())
  else
   if (t.Op == 2) = true then
    some (Out.go ())
   else
    if (t.Op == 3) = true then
     some (Out.ret (Out.go ()))
    else
     if (t.Op == 4) = true then
      some (Out.ret (Out.go ()))
     else
      if (t.Op == 5) = true then
       ((if ((t.Vals.length : Int) == 1) = true then
        (V.gl t.Vals (0 : Int)).bind fun x =>
        (labels_number x).bind fun r2 =>
        some r2.2
       else
        some false).bind fun q => some (Out.ret q)).bind fun q => some (Out.ret q)
      else
       if (t.Op == 6) = true then
        ((if ((t.Vals.length : Int) == 1) = true then
         (V.gl t.Vals (0 : Int)).bind fun x2 =>
         (labels_number x2).bind fun r3 =>
         some r3.2
        else
         some false).bind fun q => some (Out.ret q)).bind fun q => some (Out.ret q)
       else
        some (Out.ret (Out.ret false))).bind fun o2 =>
  o2.on fun j2 =>
  (labels_RightTerm.l1 t.Vals 0).bind fun o3 =>
  o3.on fun j3 =>
  some (Out.ret ((decide ((t.Vals.length : Int) ≥ 1)) && (decide ((t.Vals.length : Int) ≤ 16))))).bind fun o =>
  o.on fun j =>
  some ((t.Vals.length : Int) == 0)
theorem K59 (t : T_api_Term) : VS Tryz.prog 129 (labels_RightTerm t) [T_api_Term.vv t] [] .bool N0 := by
 refine A8 [.tmp 2] Tryz.func129 R R R fun r hm=>?_
 unfold labels_RightTerm at hm
 refine Ae<|Ab R R<|Bg R R fun b=>Aa R R (Aj R)<|Ac<|Af<|Ae<|Ad tbk [0] 2 R R<|Ab R R<|Ay hm 0 R fn131 R (K15 _) fun r hm=>Aa R R (Cp R)<|Ac<|Ao hm R (fun h3 hm=>Ag tbk [] R R<|Rt1 hm R [] R R R) fun h3 hm=>Al<|Af<|Ag tbk [0] R R<|Aw<|Af<|Aw<|VW.jo hm (fun _ (_:Unit)=>[(1,.ptr b 0)]) (fun _ (_:Unit)=>[X189 b t]) (fun o hm h5=>?_) fun j _ hm=> ?_
 ·refine Aw<|Aw<|VW.jo hm (fun _ (_:Unit)=>[(1,.ptr b 0)]) (fun _ (_:Unit)=>[X189 b t]) (fun o2 hm h7=>?_) fun j2 _ hm=> ?_
  ·exact Aw<|Aw<|Af<|Af<|Ag tbk [] R R<|Ao hm R (fun h8 hm=>A6<|Ar () hm (Ah [0] R R)) fun h8 hm=>Al<|Af<|Ag tbk [] R R<|Ao hm R (fun h9 hm=>A6<|Ar () hm (Ah [0] R R)) fun h9 hm=>Al<|Af<|Ag tbk [] R R<|Ao hm R (fun h10 hm=>A6<|have hm:=Lr hm h7;Ar () hm (Ah [0] R R)) fun h10 hm=>Al<|Af<|Ag tbk [] R R<|Ao hm R (fun h11 hm=>A6<|have hm:=Lr hm h7;Ar () hm (Ah [0] R R)) fun h11 hm=>Al<|Af<|Ag tbk [] R R<|Ao hm R (fun h12 hm=>Al<|Bl R h12<|A6<|have hm:=Lr2 hm h7;have hm:=Lr2 hm h5;Af<|Ae<|Ad tbk [0] 2 R R<|Aa R R (A7 VV.str R Bz)<|Aa R R (Br R R R)<|Ac<|Ao hm R (fun h13 hm=>Ae<|Ad tbk [0] 2 R R<|Bd hm fun x h14 hm=>Aa R R (Bw VV.str R R el61 h14)<|Aa R R (Bt R ld9 R)<|Ab R R<|Ay hm 0 R fn186 R (K58 _) fun r2 hm=>Ad tbk [] 5 R R<|Ac<|Ag tbk [] R R<|Rt1 hm R [] R R R) fun h13 hm=>Al<|A6<|Ag tbk [] R R<|Rt1 hm R [] R R R) fun h12 hm=>Ba tbk [] R R<|Ao hm R (fun h18 hm=>A6<|have hm:=Lr2 hm h7;have hm:=Lr2 hm h5;Af<|Ae<|Ad tbk [0] 2 R R<|Aa R R (A7 VV.str R Bz)<|Aa R R (Br R R R)<|Ac<|Ao hm R (fun h19 hm=>Ae<|Ad tbk [0] 2 R R<|Bd hm fun x2 h20 hm=>Aa R R (Bw VV.str R R el61 h20)<|Aa R R (Bt R ld9 R)<|Ab R R<|Ay hm 0 R fn186 R (K58 _) fun r3 hm=>Ad tbk [] 5 R R<|Ac<|Ag tbk [] R R<|Rt1 hm R [] R R R) fun h19 hm=>Al<|A6<|Ag tbk [] R R<|Rt1 hm R [] R R R) fun h18 hm=>Al<|A6<|have hm:=Lr hm h7;have hm:=Lr hm h5;Ag tbk [] R R<|Rt1 hm R [] R R R
  refine Af<|Af<|Ae<|Ad tbk [0] 2 R R<|Aa R R (A7 VV.str R Bz)<|Aa R R (Ai R)<|Ac<|B4 25 R fun h26=>B5 hm (fun _ (_:Unit)=>[(1,.ptr b 0)]) (fun _ (_:Unit)=>[X189 b t]) (fun o3 hm h25=>?_) fun j3 _ hm=> ?_
  ·refine Cf (t.Vals) (fun zl zk (zs:Unit)=>labels_RightTerm.l1 zl zk) (fun k _ (_:Unit)=>[(1,.ptr b 0),(25,L9 t.Vals),(26,Iw (t.Vals.length : Int)),(27,Iw (k : Int))]) (fun _ _ (_:Unit)=>[X189 b t]) () () hm (Ah [0] R R) (fun k _ _ hk hm=>?_) fun k x3 l _ _ h27 hm=> ?_
   ·rw [labels_RightTerm.l1] at hm
    exact Ag tbk [] R R<|Af<|Bm R (k_end hk)<|A6<|Ar () hm (Ah [0] R R)
   rw [labels_RightTerm.l1] at hm
   exact Ag tbk [] R R<|Af<|Bl R (k_lt h27)<|Al<|Af<|Aw<|Ae<|Aa R R (B8 VV.str R R el61 h27)<|Ad tbk [] 2 R R<|Ac<|Ae<|Aa R R (Ai R)<|Ab R R<|Ay hm 0 R fn185 R (K20 _) fun r4 hm=>Aa R R (Cp R)<|Ac<|Ao hm R (fun h29 hm=>Ag tbk [] R R<|have hm:=Lr hm h25;have hm:=Lr hm h5;Rt1 hm R [] R R R) fun h29 hm=>Al<|Ba tbk [] R R<|Ap () () hm (Be [0] R ⟨R,R,R,congrArg some (k_next h27 h26),trivial⟩)
  exact Ae<|Ad tbk [0] 2 R R<|Aa R R (A7 VV.str R Bz)<|Ad tbk [] 2 R R<|D0 5 44 39 R (fun h30 K' J=>Ad tbk [0] 2 R R<|Bk R R R R R (A7 VV.str R Bz)<|Ad tbk [] 2 R R<|J 4 R R R) (fun K' J=>Ad tbk [] 5 R R<|J 4 R R R)<|Aa R R (Aj R)<|Ac<|have hm:=Lr hm h5;Rt1 hm R [] R R R
 exact Af<|Ae<|Ad tbk [0] 2 R R<|Aa R R (A7 VV.str R Bz)<|Ad tbk [] 2 R R<|Ac<|Rt1 hm R [] R R R

/-! trireme/taints.RightBears -/
def taints_RightBears.l1 : List T_api_Toleration → Nat → Option (Out Bool Unit)
 | [], k => some (Out.go ())
 | x :: l2, k =>
  (taints_maybe x.Key).bind fun r =>
  (if (!r) = true then some true else (taints_maybe x.Val).bind fun r2 =>
  some (!r2)).bind fun c =>
  if c = true then
   some (Out.ret false)
  else
   (if (x.Effect != 0) = true then (taints_known x.Effect).bind fun r3 =>
   some (!r3) else some false).bind fun c2 =>
   if c2 = true then
    some (Out.ret false)
   else
    if ((x.Any && (!(V.seq x.Val (⟨#[]⟩ : ByteArray)))) || ((!x.Any) && (V.seq x.Key (⟨#[]⟩ : ByteArray)))) = true then
     some (Out.ret false)
    else
     taints_RightBears.l1 l2 (k + 1)
def taints_RightBears (l : List T_api_Toleration) : Option Bool :=
 (taints_RightBears.l1 l 0).bind fun o =>
 o.on fun j =>
 some (decide ((l.length : Int) ≤ 16))
theorem K60 (l : List T_api_Toleration) : VS Tryz.prog 135 (taints_RightBears l) [L191 l] [] .bool N0 := by
 refine A8 [.tmp 2] Tryz.func135 R R R fun r hm=>?_
 unfold taints_RightBears at hm
 refine Ag tbk [] R R<|Af<|Ae<|Aa R R (Ai R)<|Aa R R (A7 T_api_Toleration.vv R Db)<|Aa R R (Ai R)<|Ac<|B4 0 R fun h3=>B5 hm (fun _ (_:Unit)=>[(0,L191 l)]) (fun _ (_:Unit)=>[]) (fun o hm h2=>?_) fun j _ hm=> ?_
 ·refine Cf (l) (fun zl zk (zs:Unit)=>taints_RightBears.l1 zl zk) (fun k _ (_:Unit)=>[(0,L191 l),(5,L191 l),(6,Iw (l.length : Int)),(7,Iw (k : Int))]) (fun _ _ (_:Unit)=>[]) () () hm (Ah [] R R) (fun k _ _ hk hm=>?_) fun k x l2 _ _ h4 hm=> ?_
  ·rw [taints_RightBears.l1] at hm
   exact Ag tbk [] R R<|Af<|Bm R (k_end hk)<|A6<|Ar () hm (Ah [] R R)
  rw [taints_RightBears.l1] at hm
  exact Ag tbk [] R R<|Af<|Bl R (k_lt h4)<|Al<|Af<|Aw<|Ae<|Aa R R (B8 T_api_Toleration.vv R R el26 h4)<|Aa R R (Bt R ld191 R)<|Ab R R<|Au z191 fun b=>Ab R R<|Ak (i:=0) R R R ld191 R R R<|Ac<|Aw<|Ae<|Ad tbk [0] 2 R R<|Ab R R<|Ay hm 0 R fn142 R (K22 _) fun r hm=>Ad tbk [] 2 R R<|Bx hm 5 21 16 R (fun _ K' h7 J hm=>Ad tbk [] 5 R R<|J 4 R R (Bj hm)) (fun _ K' h7 J hm=>Ad tbk [0] 2 R R<|Bh R R R R R<|Ay hm 0 R fn142 R (K22 _) fun r2 hm=>Ad tbk [] 2 R R<|J 4 R R (Bj hm)) fun c hm=>Aa R R (Aj R)<|Ac<|Ao hm R (fun h10 hm=>Ag tbk [] R R<|have hm:=Lr hm h2;Rt1 hm R [] R R R) fun h10 hm=>Ae<|Ad tbk [0] 4 R R<|Bx hm 5 31 26 R (fun _ K' h11 J hm=>Ad tbk [0] 2 R R<|Bh R R R R R<|Ay hm 0 R fn143 R (K23 _) fun r3 hm=>Ad tbk [] 2 R R<|J 4 R R (Bj hm)) (fun _ K' h11 J hm=>Ad tbk [] 5 R R<|J 4 R R (Bj hm)) fun c2 hm=>Aa R R (Aj R)<|Ac<|Ao hm R (fun h14 hm=>Ag tbk [] R R<|have hm:=Lr hm h2;Rt1 hm R [] R R R) fun h14 hm=>Ae<|Ad tbk [0] 3 R R<|Cu tbk [0] 4 39 35 R R R R R<|Aa R R (Ai R)<|C0 9 49 40 R (fun K' J=>Ad tbk [] 9 R R<|J 8 R R R) (fun h16 K' J=>Ad tbk [0] 4 R R<|Cu tbk [0] 4 48 44 R R R R R<|Aa R R (Bs false R R R)<|J 5 R R R)<|Aa R R (Aj R)<|Ac<|Ao hm R (fun h18 hm=>Ag tbk [] R R<|have hm:=Lr hm h2;Rt1 hm R [] R R R) fun h18 hm=>Al<|Ba tbk [] R R<|Ap () () hm (Be [] R ⟨R,R,R,congrArg some (k_next h4 h3),trivial⟩)
 exact Ae<|Aa R R (Ai R)<|Aa R R (A7 T_api_Toleration.vv R Db)<|Ad tbk [] 2 R R<|Ac<|Rt1 hm R [] R R R

/-! trireme/spec.RightPod -/
def spec_RightPod.l1 : List T_api_Term → Nat → Option (Out Bool Unit)
 | [], k => some (Out.go ())
 | x :: l, k =>
  (labels_RightTerm x).bind fun r =>
  if (!r) = true then
   some (Out.ret false)
  else
   spec_RightPod.l1 l (k + 1)
def spec_RightPod.l2 : List Int → Nat → Int → Option (Out Bool Unit)
 | [], k2, last2 => some (Out.go ())
 | x2 :: l2, k2, last2 =>
  if ((decide (x2 ≤ last2)) || (decide (x2 > 65535))) = true then
   some (Out.ret false)
  else
   spec_RightPod.l2 l2 (k2 + 1) x2
def spec_RightPod.l3 : List (List T_api_Label) → Nat → Option (Out Bool Unit)
 | [], k3 => some (Out.go ())
 | x3 :: l3, k3 =>
  (labels_Right x3).bind fun r2 =>
  if (!r2) = true then
   some (Out.ret false)
  else
   spec_RightPod.l3 l3 (k3 + 1)
def spec_RightPod (p : T_api_Pod) : Option Bool :=
 (spec_RightPod.l1 p.Terms 0).bind fun o =>
 o.on fun j =>
 (spec_RightPod.l2 p.Ports 0 (0 : Int)).bind fun o2 =>
 o2.on fun j2 =>
 (spec_RightPod.l3 [p.Labels, p.Select, p.Apart, p.Spread] 0).bind fun o3 =>
 o3.on fun j3 =>
 (if (decide ((p.Spread.length : Int) > 0)) = true then
  some (1, 100)
 else
  some (0, 0)).bind fun j4 =>
 (lex_Word p.Name).bind fun r3 =>
 (if (!r3) = true then some true else (spec_maybe p.Owner).bind fun r4 =>
 some (!r4)).bind fun c =>
 if c = true then
  some false
 else
  (res_Right p.Need).bind fun r5 =>
  if ((!r5) || (p.Need.Pods != 1)) = true then
   some false
  else
   if ((decide ((p.Terms.length : Int) > 16)) || (decide ((p.Ports.length : Int) > 16))) = true then
    some false
   else
    (if (p.Wide && ((p.Apart.length : Int) == 0)) = true then some true else (spec_between p.Skew j4.1 j4.2).bind fun r6 =>
    some (!r6)).bind fun c2 =>
    if c2 = true then
     some false
    else
     (taints_RightBears p.Bears).bind fun r7 =>
     (if r7 = true then (spec_between p.Rank 0 (1000 : Int)).bind fun r8 =>
     some r8 else some false).bind fun c3 =>
     some c3
theorem K61 (p : T_api_Pod) : VS Tryz.prog 65 (spec_RightPod p) [T_api_Pod.vv p] [] .bool N0 := by
 refine A8 [.tmp 2] Tryz.func65 R R R fun r hm=>?_
 unfold spec_RightPod at hm
 refine Ae<|Ab R R<|Bg R R fun b=>Aa R R (Aj R)<|Ac<|Af<|Ae<|Ad tbk [0] 2 R R<|Aa R R (A7 T_api_Term.vv R C6)<|Aa R R (Ai R)<|Ac<|B4 13 R fun h4=>B5 hm (fun _ (_:Unit)=>[(1,.ptr b 0)]) (fun _ (_:Unit)=>[X29 b p]) (fun o hm h3=>?_) fun j _ hm=> ?_
 ·refine Cf (p.Terms) (fun zl zk (zs:Unit)=>spec_RightPod.l1 zl zk) (fun k _ (_:Unit)=>[(1,.ptr b 0),(13,L189 p.Terms),(14,Iw (p.Terms.length : Int)),(15,Iw (k : Int))]) (fun _ _ (_:Unit)=>[X29 b p]) () () hm (Ah [0] R R) (fun k _ _ hk hm=>?_) fun k x l _ _ h5 hm=> ?_
  ·rw [spec_RightPod.l1] at hm
   exact Ag tbk [] R R<|Af<|Bm R (k_end hk)<|A6<|Ar () hm (Ah [0] R R)
  rw [spec_RightPod.l1] at hm
  exact Ag tbk [] R R<|Af<|Bl R (k_lt h5)<|Al<|Af<|Aw<|Ae<|Aa R R (B8 T_api_Term.vv R R el25 h5)<|Aa R R (Bt R ld189 R)<|Ab R R<|Au z189 fun b2=>Ab R R<|Ak (i:=0) R R R ld189 R R R<|Ac<|Ae<|Ad tbk [0] 1 R R<|Ab R R<|Ay hm 0 R fn129 R (K59 _) fun r hm=>Aa R R (Cp R)<|Ac<|Ao hm R (fun h8 hm=>Ag tbk [] R R<|have hm:=Lr hm h3;Rt1 hm R [] R R R) fun h8 hm=>Al<|Ba tbk [] R R<|Ap () () hm (Be [1] R ⟨R,R,R,congrArg some (k_next h5 h4),trivial⟩)
 refine Ag tbk [] R R<|Af<|Ae<|Ad tbk [0] 2 R R<|Aa R R (A7 (VV.int .i64) R Co)<|Aa R R (Ai R)<|Ac<|B4 24 R fun h11=>B5 hm (fun _ (_:Unit)=>[(1,.ptr b 0)]) (fun _ (_:Unit)=>[X29 b p]) (fun o2 hm h10=>?_) fun j2 _ hm=> ?_
 ·refine Cf (p.Ports) (fun zl zk (zs:Int)=>spec_RightPod.l2 zl zk zs) (fun k2 zs (_:Unit)=>[(1,.ptr b 0),(5,Iw zs),(24,L3 p.Ports),(25,Iw (p.Ports.length : Int)),(26,Iw (k2 : Int))]) (fun _ _ (_:Unit)=>[X29 b p]) _ () hm (Ah [0] R R) (fun k2 last2 _ hk hm=>?_) fun k2 x2 l2 last2 _ h12 hm=> ?_
  ·rw [spec_RightPod.l2] at hm
   exact Ag tbk [] R R<|Af<|Bm R (k_end hk)<|A6<|Ar () hm (Ah [0] R R)
  rw [spec_RightPod.l2] at hm
  exact Ag tbk [] R R<|Af<|Bl R (k_lt h12)<|Al<|Af<|Aw<|Ae<|Aa R R (B8 (VV.int .i64) R R el27 h12)<|Ad tbk [] 2 R R<|Ac<|Af<|Ae<|Ad tbk [] 4 R R<|Cq tbk [] 3 36 33 R R R R R<|Ac<|Ao hm R (fun h14 hm=>Ag tbk [] R R<|have hm:=Lr hm h10;Rt1 hm R [] R R R) fun h14 hm=>Al<|Ba tbk [] R R<|Ba tbk [] R R<|Ap _ () hm (Be [0] R ⟨R,R,R,R,congrArg some (k_next h12 h11),trivial⟩)
 refine Af<|Ae<|Ad tbk [0,0,0,0] 8 R R<|Ab R R<|A4 ap202 R R R R R fun b3=>Av (Az 0 [(47,L24 [p.Labels,p.Select,p.Apart,p.Spread])] R ⟨⟨_,R,.here _ R⟩,trivial⟩ (FzH.refl _))<|Aa R R (A7 (fun (q : List T_api_Label) => VV.list 232 (List.map T_api_Label.vv q)) R Tryz.underlying202)<|Aa R R (Ai R)<|Ac<|B4 47 R fun h18=>B5 hm (fun _ (_:Unit)=>[(1,.ptr b 0)]) (fun _ (_:Unit)=>[X29 b p]) (fun o3 hm h17=>?_) fun j3 _ hm=> ?_
 ·refine Cf ([p.Labels,p.Select,p.Apart,p.Spread]) (fun zl zk (zs:Unit)=>spec_RightPod.l3 zl zk) (fun k3 _ (_:Unit)=>[(1,.ptr b 0),(47,L24 [p.Labels,p.Select,p.Apart,p.Spread]),(48,Iw ([p.Labels,p.Select,p.Apart,p.Spread].length : Int)),(49,Iw (k3 : Int))]) (fun _ _ (_:Unit)=>[X29 b p]) () () hm (Ah [0] R R) (fun k3 _ _ hk hm=>?_) fun k3 x3 l3 _ _ h19 hm=> ?_
  ·rw [spec_RightPod.l3] at hm
   exact Ag tbk [] R R<|Af<|Bm R (k_end hk)<|A6<|Ar () hm (Ah [0] R R)
  rw [spec_RightPod.l3] at hm
  exact Ag tbk [] R R<|Af<|Bl R (k_lt h19)<|Al<|Af<|Aw<|Ae<|Aa R R (B8 (fun (q : List T_api_Label) => VV.list 232 (List.map T_api_Label.vv q)) R R el202 h19)<|Ad tbk [] 2 R R<|Ac<|Ae<|Aa R R (Ai R)<|Ab R R<|Ay hm 0 R fn130 R (K21 _) fun r2 hm=>Aa R R (Cp R)<|Ac<|Ao hm R (fun h21 hm=>Ag tbk [] R R<|have hm:=Lr hm h17;Rt1 hm R [] R R R) fun h21 hm=>Al<|Ba tbk [] R R<|Ap () () hm (Be [0] R ⟨R,R,R,congrArg some (k_next h19 h18),trivial⟩)
 exact Ag tbk [] R R<|Dq hm (fun j4 (_:Unit)=>[(1,.ptr b 0),(10,Iw j4.1),(11,Iw j4.2)]) (fun _ (_:Unit)=>[X29 b p]) (fun o4 hm=>Ae<|Ad tbk [0] 2 R R<|Aa R R (A7 T_api_Label.vv R Cd)<|Aa R R (Br R R R)<|Ac<|Ao hm R (fun h24 hm=>Ba tbk [] R R<|As () hm (Ah [0] R R)) fun h24 hm=>Al<|As () hm (Ah [0] R R)) fun j4 _ hm=>Af<|Aw<|Ae<|Ad tbk [0] 2 R R<|Ab R R<|Ay hm 0 R fn131 R (K15 _) fun r3 hm=>Ad tbk [] 2 R R<|Bx hm 5 71 66 R (fun _ K' h26 J hm=>Ad tbk [] 5 R R<|J 4 R R (Bj hm)) (fun _ K' h26 J hm=>Ad tbk [0] 2 R R<|Bh R R R R R<|Ay hm 0 R fn132 R (K17 _) fun r4 hm=>Ad tbk [] 2 R R<|J 4 R R (Bj hm)) fun c hm=>Aa R R (Aj R)<|Ac<|Ao hm R (fun h29 hm=>Ag tbk [] R R<|Rt1 hm R [] R R R) fun h29 hm=>Ae<|Ad tbk [0] 2 R R<|Ab R R<|Ay hm 0 R fn133 R (K19 _) fun r5 hm=>Ad tbk [] 2 R R<|Cq tbk [0] 5 82 77 R R R R R<|Aa R R (Aj R)<|Ac<|Ao hm R (fun h32 hm=>Ag tbk [] R R<|Rt1 hm R [] R R R) fun h32 hm=>Ae<|Ad tbk [0] 2 R R<|Aa R R (A7 T_api_Term.vv R C6)<|Ad tbk [] 2 R R<|C0 5 93 88 R (fun K' J=>Ad tbk [] 5 R R<|J 4 R R R) (fun h33 K' J=>Ad tbk [0] 2 R R<|Bk R R R R R (A7 (VV.int .i64) R Co)<|Ad tbk [] 2 R R<|J 4 R R R)<|Aa R R (Aj R)<|Ac<|Ao hm R (fun h34 hm=>Ag tbk [] R R<|Rt1 hm R [] R R R) fun h34 hm=>Ae<|Ad tbk [0] 3 R R<|D0 5 102 97 R (fun h35 K' J=>Ad tbk [0] 2 R R<|Bk R R R R R (A7 T_api_Label.vv R Cd)<|Ad tbk [] 2 R R<|J 4 R R R) (fun K' J=>Ad tbk [] 5 R R<|J 4 R R R)<|Aa R R (Ai R)<|Bx hm 7 110 103 R (fun _ K' h36 J hm=>Ad tbk [] 7 R R<|J 6 R R (Bj hm)) (fun _ K' h36 J hm=>Ad tbk [0] 4 R R<|Bh R R R R R<|Ay hm 0 R fn134 R (K16 _ _ _) fun r6 hm=>Ad tbk [] 2 R R<|J 6 R R (Bj hm)) fun c2 hm=>Aa R R (Aj R)<|Ac<|Ao hm R (fun h39 hm=>Ag tbk [] R R<|Rt1 hm R [] R R R) fun h39 hm=>Al<|Ae<|Ad tbk [0] 2 R R<|Ab R R<|Ay hm 0 R fn135 R (K60 _) fun r7 hm=>Aa R R (Ai R)<|Bx hm 4 118 114 R (fun _ K' h41 J hm=>Ad tbk [0] 2 R R<|Bh R R R R R<|Ay hm 0 R fn134 R (K16 _ _ _) fun r8 hm=>Aa R R (Bs true R R R)<|J 3 R R (Bj hm)) (fun _ K' h41 J hm=>Ad tbk [] 4 R R<|J 3 R R (Bj hm)) fun c3 hm=>Aa R R (Aj R)<|Ac<|Rt1 hm R [] R R R

/-! trireme/yard.Place$1 -/
def yard_Place_1 (i : Int) (a : List T_api_Bound) (a2 : ByteArray) : Option Bool :=
 (V.gl a i).bind fun x =>
 some (V.seq x.Pod.Name a2)
theorem K62 (i : Int) (a : List T_api_Bound) (a2 : ByteArray) (b : Nat) (b2 : Nat) : VS Tryz.prog 137 (yard_Place_1 i a a2) [Iw i, .ptr b 0, .ptr b2 0] [.box b 40 [L64 a], .box b2 9 [.str a2]] .bool (fun r=>[.box b 40 [L64 a], .box b2 9 [.str a2]]) := by
 refine A8 [.tmp 4] Tryz.func137 R R R fun r hm=>?_
 unfold yard_Place_1 at hm
 exact Ag tbk [] R R<|Af<|Bi 0 mixed<|A9 tbk [0,1] [0] (by kernel_rfl) R R R<|Bd hm fun x h1 hm=>Bb 2 R R R (by kernel_rfl) (Bw T_api_Bound.vv R R el40 h1)<|A9 tbk [3,4,5,6,7,8] [1] (by kernel_rfl) R R R<|A5 (by kernel_rfl)<|Rt1 hm R [0,1] R R R

/-! trireme/yard.first -/
def yard_first_yard_Place_1.l1 (n : Int) (c : List T_api_Bound) (c2 : ByteArray) : Nat → Int → Option (Out Int Unit)
 | 0, _ => none
 | n2 + 1, v2 =>
  if (decide (v2 < n)) = true then
   (yard_Place_1 v2 c c2).bind fun r =>
   if r = true then
    some (Out.ret v2)
   else
    yard_first_yard_Place_1.l1 n c c2 n2 (i64.wrap (v2 + 1))
  else
   some (Out.go ())
def yard_first_yard_Place_1 (n : Int) (c : List T_api_Bound) (c2 : ByteArray) : Option Int :=
 (yard_first_yard_Place_1.l1 n c c2 FU (0 : Int)).bind fun o =>
 o.on fun j =>
 some (-1)
theorem K63 (n : Int) (c : List T_api_Bound) (c2 : ByteArray) (b : Nat) (b2 : Nat) : VS Tryz.prog 136 (yard_first_yard_Place_1 n c c2) [Iw n, .clo (.func 137) [] [.ptr b 0, .ptr b2 0]] [.box b 40 [L64 c], .box b2 9 [.str c2]] Iw (fun r=>[.box b 40 [L64 c], .box b2 9 [.str c2]]) := by
 refine A8 [.tmp 4] D4 R R R fun r hm=>?_
 unfold yard_first_yard_Place_1 at hm
 refine Ag tbk [] R R<|Af<|Ag tbk [] R R<|B5 hm (fun _ (_:Unit)=>[]) (fun _ (_:Unit)=>[.box b 40 [L64 c],.box b2 9 [.str c2]]) (fun o hm h2=>?_) fun j _ hm=> ?_
 ·refine Ca (fun zn (zs:Int)=>yard_first_yard_Place_1.l1 n c c2 zn zs) (fun zs (_:Unit)=>[(1,.clo (.func 137) [] [.ptr b 0,.ptr b2 0]),(6,Iw n),(7,Iw zs)]) (fun _ (_:Unit)=>[.box b 40 [L64 c],.box b2 9 [.str c2]]) _ () (fun _=>R) hm (Ah [0,1] R R) fun n2 v2 _ hm=> ?_
  rw [yard_first_yard_Place_1.l1] at hm
  exact Ag tbk [] R R<|Af<|Ao hm R (fun h3 hm=>Al<|Af<|Aw<|Ag tbk [] R R<|Ae<|Ad tbk [] 2 R R<|Ab R R<|Ay hm 2 R fn137 R (K62 _ _ _ _ _) fun r hm=>Ac<|Ao hm R (fun h5 hm=>Ag tbk [] R R<|have hm:=Lr hm h2;Rt1 hm R [0,1] R R R) fun h5 hm=>Al<|Ba tbk [] R R<|Ap _ () hm (Ah [0,1] R R)) fun h3 hm=>A6<|Ar () hm (Ah [0,1] R R)
 exact Ag tbk [] R R<|Rt1 hm R [0,1] R R R

/-! trireme/yard.Place -/
def yard_Place (bs : List T_api_Bound) (name : ByteArray) : Option Int :=
 (yard_first_yard_Place_1 (bs.length : Int) bs name).bind fun r =>
 some r
theorem K64 (bs : List T_api_Bound) (name : ByteArray) : VS Tryz.prog 66 (yard_Place bs name) [L64 bs, .str name] [] Iw N0 := by
 refine A8 [.tmp 4] Tryz.func66 R R R fun r hm=>?_
 unfold yard_Place at hm
 exact Ae<|Ab R R<|Bg R R fun b=>Ab R R<|Bg R R fun b2=>Aa R R (Aj R)<|Ac<|Ae<|Ad tbk [1] 1 R R<|Aa R R (A7 T_api_Bound.vv R B6)<|Aa R R (Ct R R)<|Av (Ax [1,0] R)<|Ab R R<|Ay hm 2 R fn136 R (K63 _ _ _ _ _) fun r hm=>Aa R R (Aj R)<|Ac<|Rt1 hm R [] R R R

/-! trireme/world.pod -/
def world_pod.l1 (l7 : List T_api_Term) : Nat → T_api_Pod → (List T_api_Term) → Int → Option (T_api_Pod × List T_api_Term)
 | 0, _, _, _ => none
 | n + 1, p3, terms2, v2 =>
  if (decide (v2 < (l7.length : Int))) = true then
   (V.gl terms2 v2).bind fun x =>
   (V.ap 16 ([] : List ByteArray) x.Vals).bind fun l9 =>
   (V.gl terms2 v2).bind fun x2 =>
   world_pod.l1 l7 n p3 (List.set terms2 (v2).toNat (⟨x2.Key, x2.Op, l9⟩ : T_api_Term)) (i64.wrap (v2 + 1))
  else
   some (p3, terms2)
def world_pod (p : T_api_Pod) : Option T_api_Pod :=
 (V.ap 32 ([] : List T_api_Label) p.Labels).bind fun l =>
 (V.ap 32 ([] : List T_api_Label) p.Select).bind fun l2 =>
 (V.ap 32 ([] : List T_api_Label) p.Apart).bind fun l3 =>
 (V.ap 32 ([] : List T_api_Label) p.Spread).bind fun l4 =>
 (V.ap 48 ([] : List T_api_Toleration) p.Bears).bind fun l5 =>
 (V.ap 8 ([] : List Int) p.Ports).bind fun l6 =>
 (V.ap 48 ([] : List T_api_Term) p.Terms).bind fun l7 =>
 (world_pod.l1 l7 FU (⟨p.Name, p.Need, l, l2, p.Terms, l5, l6, l3, p.Wide, l4, p.Skew, p.Rank, p.Owner, p.Daemon, p.Pinned, p.Local⟩ : T_api_Pod) l7 (0 : Int)).bind fun j =>
 some (⟨j.1.Name, j.1.Need, j.1.Labels, j.1.Select, j.2, j.1.Bears, j.1.Ports, j.1.Apart, j.1.Wide, j.1.Spread, j.1.Skew, j.1.Rank, j.1.Owner, j.1.Daemon, j.1.Pinned, j.1.Local⟩ : T_api_Pod)
theorem K65 (p : T_api_Pod) : VS Tryz.prog 67 (world_pod p) [T_api_Pod.vv p] [] (fun r=>T_api_Pod.vv r) N0 := by
 refine A8 [.cell 2 29] Tryz.func67 R R R fun r hm=>?_
 unfold world_pod at hm
 refine Ae<|Ab R R<|Bg R R fun b=>Ab R R<|Au z29 fun b2=>Ac<|Af<|Ae<|Ad tbk [] 4 R R<|Ab R R<|A4 ap209 R R R R R fun b3=>Aa R R (VP.lenR R Tryz.underlying209)<|Aa R R (Ai R)<|Ac<|Aw<|VW.loop 5<|VL.s<|Ag tbk [] R R<|Af<|Bl R (by decide)<|Al<|Af<|Aw<|Ae<|Aa R R (D5 R R el209 (by decide) (by decide))<|Aa R R (Ce (i:=0) R R R R ld208 R)<|Aa R R (Aj R)<|Ac<|Bv<|Ad tbk [2] 4 R R<|Av (Bf 232)<|Bd hm fun l h5 hm=>Ab R R<|Bo 0 T_api_Label.vv (l:=([] : List T_api_Label)) (l2:=p.Labels) ap24 R R (sT_list T_api_Label.vv el24 R R) h5 fun ob cap=>Aa R R (Dy R)<|Ab R R<|Ak (i:=3) R R R ld24 R R R<|Ac<|Ba tbk [] R R<|VL.s<|Ag tbk [] R R<|Af<|Bl R (by decide)<|Al<|Af<|Aw<|Ae<|Aa R R (D5 R R el209 (by decide) (by decide))<|Aa R R (Ce (i:=1) R R R R ld208 R)<|Aa R R (Aj R)<|Ac<|Bv<|Ad tbk [3] 4 R R<|Av (Bf 232)<|Bd hm fun l2 h7 hm=>Ab R R<|Bo 0 T_api_Label.vv (l:=([] : List T_api_Label)) (l2:=p.Select) ap24 R R (sT_list T_api_Label.vv el24 R R) h7 fun ob2 cap2=>Aa R R (Dy R)<|Ab R R<|Ak (i:=4) R R R ld24 R R R<|Ac<|Ba tbk [] R R<|VL.s<|Ag tbk [] R R<|Af<|Bl R (by decide)<|Al<|Af<|Aw<|Ae<|Aa R R (D5 R R el209 (by decide) (by decide))<|Aa R R (Ce (i:=2) R R R R ld208 R)<|Aa R R (Aj R)<|Ac<|Bv<|Ad tbk [4] 4 R R<|Av (Bf 232)<|Bd hm fun l3 h9 hm=>Ab R R<|Bo 0 T_api_Label.vv (l:=([] : List T_api_Label)) (l2:=p.Apart) ap24 R R (sT_list T_api_Label.vv el24 R R) h9 fun ob3 cap3=>Aa R R (Dy R)<|Ab R R<|Ak (i:=5) R R R ld24 R R R<|Ac<|Ba tbk [] R R<|VL.s<|Ag tbk [] R R<|Af<|Bl R (by decide)<|Al<|Af<|Aw<|Ae<|Aa R R (D5 R R el209 (by decide) (by decide))<|Aa R R (Ce (i:=3) R R R R ld208 R)<|Aa R R (Aj R)<|Ac<|Bv<|Ad tbk [5] 4 R R<|Av (Bf 232)<|Bd hm fun l4 h11 hm=>Ab R R<|Bo 0 T_api_Label.vv (l:=([] : List T_api_Label)) (l2:=p.Spread) ap24 R R (sT_list T_api_Label.vv el24 R R) h11 fun ob4 cap4=>Aa R R (Dy R)<|Ab R R<|Ak (i:=6) R R R ld24 R R R<|Ac<|Ba tbk [] R R<|VL.s<|Ag tbk [] R R<|Af<|Bm R (by decide)<|A6<|Ae<|Ad tbk [6] 2 R R<|Av (Bf 191)<|Bd hm fun l5 h13 hm=>Ab R R<|Bo 0 T_api_Toleration.vv (l:=([] : List T_api_Toleration)) (l2:=p.Bears) ap26 R R (sT_list T_api_Toleration.vv el26 R R) h13 fun ob5 cap5=> ?_
 refine Aa R R (C7 R fa29_5)<|Ab R R<|Ak (i:=7) R R R ld26 R R R<|Ac<|Ae<|Ad tbk [7] 2 R R<|Av (Bf 3)<|Bd hm fun l6 h15 hm=>Ab R R<|Bo 0 (VV.int .i64) (l:=([] : List Int)) (l2:=p.Ports) ap27 R R (sT_list (VV.int .i64) el27 R R) h15 fun ob6 cap6=>Aa R R (C7 R fa29_6)<|Ab R R<|Ak (i:=8) R R R ld27 R R R<|Ac<|Ae<|Ad tbk [8] 2 R R<|Av (Bf 189)<|Bd hm fun l7 h17 hm=>Ab R R<|Bo 0 T_api_Term.vv (l:=([] : List T_api_Term)) (l2:=p.Terms) ap25 R R (sT_list T_api_Term.vv el25 R R) h17 fun ob7 cap7=>Aa R R (Aj R)<|Ac<|Af<|Ae<|Aa R R (Ai R)<|Aa R R (Cx T_api_Term.vv R C6)<|Aa R R (Ai R)<|Ac<|Cc hm (fun j (_:Unit)=>[(1,.ptr b 0),(2,.ptr b2 0),(5,Z189 ob7 j.2 cap7)]) (fun j (_:Unit)=>[Q189 ob7 cap7 j.2,Q3 ob6 cap6 j.1.Ports,Q191 ob5 cap5 j.1.Bears,Q232 ob4 cap4 j.1.Spread,Q232 ob3 cap3 j.1.Apart,Q232 ob2 cap2 j.1.Select,Q232 ob cap j.1.Labels,.box b2 29 [.str (⟨#[]⟩ : ByteArray),Iw (0 : Int),Iw (0 : Int),Iw (0 : Int),Iw (0 : Int),Iw (0 : Int),.sl none 0 0,.sl none 0 0,.sl none 0 0,.sl none 0 0,.sl none 0 0,.sl none 0 0,.bool false,.sl none 0 0,Iw (0 : Int),Iw (0 : Int),.str (⟨#[]⟩ : ByteArray),.bool false,.bool false,.bool false],.box b 29 [.str j.1.Name,Iw j.1.Need.Cpu,Iw j.1.Need.Mem,Iw j.1.Need.Disk,Iw j.1.Need.Pods,Iw j.1.Need.Dev,Z232 ob j.1.Labels cap,Z232 ob2 j.1.Select cap2,L189 j.1.Terms,Z191 ob5 j.1.Bears cap5,Z3 ob6 j.1.Ports cap6,Z232 ob3 j.1.Apart cap3,.bool j.1.Wide,Z232 ob4 j.1.Spread cap4,Iw j.1.Skew,Iw j.1.Rank,.str j.1.Owner,.bool j.1.Daemon,.bool j.1.Pinned,.bool j.1.Local]]) (fun o hm=>?_) fun j _ hm=> ?_
 ·refine Ca (fun zn (zs:T_api_Pod × List T_api_Term × Int)=>world_pod.l1 l7 zn zs.1 zs.2.1 zs.2.2) (fun zs (_:Unit)=>[(1,.ptr b 0),(2,.ptr b2 0),(5,Z189 ob7 zs.2.1 cap7),(36,Iw (l7.length : Int)),(37,Iw zs.2.2)]) (fun zs (_:Unit)=>[Q189 ob7 cap7 zs.2.1,Q3 ob6 cap6 zs.1.Ports,Q191 ob5 cap5 zs.1.Bears,Q232 ob4 cap4 zs.1.Spread,Q232 ob3 cap3 zs.1.Apart,Q232 ob2 cap2 zs.1.Select,Q232 ob cap zs.1.Labels,.box b2 29 [.str (⟨#[]⟩ : ByteArray),Iw (0 : Int),Iw (0 : Int),Iw (0 : Int),Iw (0 : Int),Iw (0 : Int),.sl none 0 0,.sl none 0 0,.sl none 0 0,.sl none 0 0,.sl none 0 0,.sl none 0 0,.bool false,.sl none 0 0,Iw (0 : Int),Iw (0 : Int),.str (⟨#[]⟩ : ByteArray),.bool false,.bool false,.bool false],.box b 29 [.str zs.1.Name,Iw zs.1.Need.Cpu,Iw zs.1.Need.Mem,Iw zs.1.Need.Disk,Iw zs.1.Need.Pods,Iw zs.1.Need.Dev,Z232 ob zs.1.Labels cap,Z232 ob2 zs.1.Select cap2,L189 zs.1.Terms,Z191 ob5 zs.1.Bears cap5,Z3 ob6 zs.1.Ports cap6,Z232 ob3 zs.1.Apart cap3,.bool zs.1.Wide,Z232 ob4 zs.1.Spread cap4,Iw zs.1.Skew,Iw zs.1.Rank,.str zs.1.Owner,.bool zs.1.Daemon,.bool zs.1.Pinned,.bool zs.1.Local]]) ((⟨p.Name,p.Need,l,l2,p.Terms,l5,l6,l3,p.Wide,l4,p.Skew,p.Rank,p.Owner,p.Daemon,p.Pinned,p.Local⟩ : T_api_Pod),l7,(0 : Int)) () (fun _=>R) hm (Ah [0,1,2,3,4,5,6,8,9] (by kernel_rfl) (by kernel_rfl)) fun n=>Pq fun p3=>Pq fun terms2 v2 _ hm=> ?_
  rw [world_pod.l1] at hm
  refine Ag tbk [] R R<|Af<|Ao hm R (fun h20 hm=>?_) fun h20 hm=> ?_
  ·refine Al<|Af<|Aw<|Ag tbk [] R R<|Bv<|Ad tbk [] 4 R R<|Bd hm fun x h21 hm=>Cg 0 R (gl_pos T_api_Term.vv h21) fun b4 h22=> ?_
   subst h22
   exact Aa R R (Cm T_api_Term.vv R R el25 h21)<|Aa R R (D1 R fa189_2)<|Aa R R (Ce (i:=0) (y:=T_api_Term.vv x) R R R (gl_map _ (gl_some h21).2) ld61 R)<|Av (Bf 9)<|Bd hm fun l9 h24 hm=>Ab R R<|Bo 0 VV.str (l:=([] : List ByteArray)) (l2:=x.Vals) ap61 R R (sT_list VV.str el61 R R) h24 fun ob8 cap8=>Bd hm fun x2 h25 hm=>Aa R R (Cm T_api_Term.vv R R el25 h25)<|Aa R R (D1 R fa189_2)<|Av (Az 0 [(47,L9 l9)] R ⟨⟨_,R,.here _ R⟩,trivial⟩ (FzH.refl _))<|Ab R R<|Ds 0 (f:=T_api_Term.vv) (l:=terms2) (q:=x2) (q':=(⟨x2.Key,x2.Op,l9⟩ : T_api_Term)) R R R R h25 ld61 R R R R ⟨R,List.all_eq_true.1 R⟩<|Av (Cr 5 (List.map T_api_Term.vv (List.set terms2 (v2).toNat (⟨x2.Key,x2.Op,l9⟩ : T_api_Term))).length R (len_set _ _ _ _))<|Av (Cr 40 (List.map T_api_Term.vv (List.set terms2 (v2).toNat (⟨x2.Key,x2.Op,l9⟩ : T_api_Term))).length R (len_set _ _ _ _))<|Av (Cr 42 (List.map T_api_Term.vv (List.set terms2 (v2).toNat (⟨x2.Key,x2.Op,l9⟩ : T_api_Term))).length R (len_set _ _ _ _))<|Ac<|Ba tbk [] R R<|Ap (p3,(List.set terms2 (v2).toNat (⟨x2.Key,x2.Op,l9⟩ : T_api_Term)),(IntKind.i64.wrap (v2 + (1 : Int)))) () hm (Ah [0,1,2,3,4,5,6,7,8] (by kernel_rfl) (by kernel_rfl))
  exact A6<|As () hm (Ah [0,1,2,3,4,5,6,7,8] (by kernel_rfl) (by kernel_rfl))
 refine Ae<|Ad tbk [] 2 R R<|Ab R R<|Ak (i:=8) R R R ld25 R R R<|Ac<|Ae<|Ad tbk [8] 1 R R<|Ab R R<|Ak (i:=7) R R R ld29 R R R<|Ac<|Bu (Az (H':=[Q189 ob7 cap7 j.2,Q3 ob6 cap6 j.1.Ports,Q191 ob5 cap5 j.1.Bears,Q232 ob4 cap4 j.1.Spread,Q232 ob3 cap3 j.1.Apart,Q232 ob2 cap2 j.1.Select,.box b2 29 [.str j.1.Name,Iw j.1.Need.Cpu,Iw j.1.Need.Mem,Iw j.1.Need.Disk,Iw j.1.Need.Pods,Iw j.1.Need.Dev,L232 j.1.Labels,Z232 ob2 j.1.Select cap2,Z189 ob7 j.2 cap7,Z191 ob5 j.1.Bears cap5,Z3 ob6 j.1.Ports cap6,Z232 ob3 j.1.Apart cap3,.bool j.1.Wide,Z232 ob4 j.1.Spread cap4,Iw j.1.Skew,Iw j.1.Rank,.str j.1.Owner,.bool j.1.Daemon,.bool j.1.Pinned,.bool j.1.Local],.box b 29 [.str j.1.Name,Iw j.1.Need.Cpu,Iw j.1.Need.Mem,Iw j.1.Need.Disk,Iw j.1.Need.Pods,Iw j.1.Need.Dev,L232 j.1.Labels,Z232 ob2 j.1.Select cap2,Z189 ob7 j.2 cap7,Z191 ob5 j.1.Bears cap5,Z3 ob6 j.1.Ports cap6,Z232 ob3 j.1.Apart cap3,.bool j.1.Wide,Z232 ob4 j.1.Spread cap4,Iw j.1.Skew,Iw j.1.Rank,.str j.1.Owner,.bool j.1.Daemon,.bool j.1.Pinned,.bool j.1.Local]]) 6 [(53,.agg [.str j.1.Name,Iw j.1.Need.Cpu,Iw j.1.Need.Mem,Iw j.1.Need.Disk,Iw j.1.Need.Pods,Iw j.1.Need.Dev,L232 j.1.Labels,Z232 ob2 j.1.Select cap2,Z189 ob7 j.2 cap7,Z191 ob5 j.1.Bears cap5,Z3 ob6 j.1.Ports cap6,Z232 ob3 j.1.Apart cap3,.bool j.1.Wide,Z232 ob4 j.1.Spread cap4,Iw j.1.Skew,Iw j.1.Rank,.str j.1.Owner,.bool j.1.Daemon,.bool j.1.Pinned,.bool j.1.Local])] R ⟨⟨_,R,.aggL ⟨.same _,.same _,.same _,.same _,.same _,.same _,.here _ R,.same _,.same _,.same _,.same _,.same _,.same _,.same _,.same _,.same _,.same _,.same _,.same _,.same _,trivial⟩⟩,trivial⟩ ⟨.same _,.same _,.same _,.same _,.same _,.same _,.box _ _ _ _ ⟨.same _,.same _,.same _,.same _,.same _,.same _,.here _ R,.same _,.same _,.same _,.same _,.same _,.same _,.same _,.same _,.same _,.same _,.same _,.same _,.same _,trivial⟩,.box _ _ _ _ ⟨.same _,.same _,.same _,.same _,.same _,.same _,.here _ R,.same _,.same _,.same _,.same _,.same _,.same _,.same _,.same _,.same _,.same _,.same _,.same _,.same _,trivial⟩,trivial⟩)<|Bu (Az (H':=[Q189 ob7 cap7 j.2,Q3 ob6 cap6 j.1.Ports,Q191 ob5 cap5 j.1.Bears,Q232 ob4 cap4 j.1.Spread,Q232 ob3 cap3 j.1.Apart,.box b2 29 [.str j.1.Name,Iw j.1.Need.Cpu,Iw j.1.Need.Mem,Iw j.1.Need.Disk,Iw j.1.Need.Pods,Iw j.1.Need.Dev,L232 j.1.Labels,L232 j.1.Select,Z189 ob7 j.2 cap7,Z191 ob5 j.1.Bears cap5,Z3 ob6 j.1.Ports cap6,Z232 ob3 j.1.Apart cap3,.bool j.1.Wide,Z232 ob4 j.1.Spread cap4,Iw j.1.Skew,Iw j.1.Rank,.str j.1.Owner,.bool j.1.Daemon,.bool j.1.Pinned,.bool j.1.Local],.box b 29 [.str j.1.Name,Iw j.1.Need.Cpu,Iw j.1.Need.Mem,Iw j.1.Need.Disk,Iw j.1.Need.Pods,Iw j.1.Need.Dev,L232 j.1.Labels,L232 j.1.Select,Z189 ob7 j.2 cap7,Z191 ob5 j.1.Bears cap5,Z3 ob6 j.1.Ports cap6,Z232 ob3 j.1.Apart cap3,.bool j.1.Wide,Z232 ob4 j.1.Spread cap4,Iw j.1.Skew,Iw j.1.Rank,.str j.1.Owner,.bool j.1.Daemon,.bool j.1.Pinned,.bool j.1.Local]]) 5 [(53,.agg [.str j.1.Name,Iw j.1.Need.Cpu,Iw j.1.Need.Mem,Iw j.1.Need.Disk,Iw j.1.Need.Pods,Iw j.1.Need.Dev,L232 j.1.Labels,L232 j.1.Select,Z189 ob7 j.2 cap7,Z191 ob5 j.1.Bears cap5,Z3 ob6 j.1.Ports cap6,Z232 ob3 j.1.Apart cap3,.bool j.1.Wide,Z232 ob4 j.1.Spread cap4,Iw j.1.Skew,Iw j.1.Rank,.str j.1.Owner,.bool j.1.Daemon,.bool j.1.Pinned,.bool j.1.Local])] R ⟨⟨_,R,.aggL ⟨.same _,.same _,.same _,.same _,.same _,.same _,.same _,.here _ R,.same _,.same _,.same _,.same _,.same _,.same _,.same _,.same _,.same _,.same _,.same _,.same _,trivial⟩⟩,trivial⟩ ⟨.same _,.same _,.same _,.same _,.same _,.box _ _ _ _ ⟨.same _,.same _,.same _,.same _,.same _,.same _,.same _,.here _ R,.same _,.same _,.same _,.same _,.same _,.same _,.same _,.same _,.same _,.same _,.same _,.same _,trivial⟩,.box _ _ _ _ ⟨.same _,.same _,.same _,.same _,.same _,.same _,.same _,.here _ R,.same _,.same _,.same _,.same _,.same _,.same _,.same _,.same _,.same _,.same _,.same _,.same _,trivial⟩,trivial⟩)<|?_
 refine Bu (Az (H':=[Q3 ob6 cap6 j.1.Ports,Q191 ob5 cap5 j.1.Bears,Q232 ob4 cap4 j.1.Spread,Q232 ob3 cap3 j.1.Apart,.box b2 29 [.str j.1.Name,Iw j.1.Need.Cpu,Iw j.1.Need.Mem,Iw j.1.Need.Disk,Iw j.1.Need.Pods,Iw j.1.Need.Dev,L232 j.1.Labels,L232 j.1.Select,L189 j.2,Z191 ob5 j.1.Bears cap5,Z3 ob6 j.1.Ports cap6,Z232 ob3 j.1.Apart cap3,.bool j.1.Wide,Z232 ob4 j.1.Spread cap4,Iw j.1.Skew,Iw j.1.Rank,.str j.1.Owner,.bool j.1.Daemon,.bool j.1.Pinned,.bool j.1.Local],.box b 29 [.str j.1.Name,Iw j.1.Need.Cpu,Iw j.1.Need.Mem,Iw j.1.Need.Disk,Iw j.1.Need.Pods,Iw j.1.Need.Dev,L232 j.1.Labels,L232 j.1.Select,L189 j.2,Z191 ob5 j.1.Bears cap5,Z3 ob6 j.1.Ports cap6,Z232 ob3 j.1.Apart cap3,.bool j.1.Wide,Z232 ob4 j.1.Spread cap4,Iw j.1.Skew,Iw j.1.Rank,.str j.1.Owner,.bool j.1.Daemon,.bool j.1.Pinned,.bool j.1.Local]]) 0 [(5,L189 j.2),(51,L189 j.2),(53,.agg [.str j.1.Name,Iw j.1.Need.Cpu,Iw j.1.Need.Mem,Iw j.1.Need.Disk,Iw j.1.Need.Pods,Iw j.1.Need.Dev,L232 j.1.Labels,L232 j.1.Select,L189 j.2,Z191 ob5 j.1.Bears cap5,Z3 ob6 j.1.Ports cap6,Z232 ob3 j.1.Apart cap3,.bool j.1.Wide,Z232 ob4 j.1.Spread cap4,Iw j.1.Skew,Iw j.1.Rank,.str j.1.Owner,.bool j.1.Daemon,.bool j.1.Pinned,.bool j.1.Local])] R ⟨⟨_,R,.here _ R⟩,⟨_,R,.here _ R⟩,⟨_,R,.aggL ⟨.same _,.same _,.same _,.same _,.same _,.same _,.same _,.same _,.here _ R,.same _,.same _,.same _,.same _,.same _,.same _,.same _,.same _,.same _,.same _,.same _,trivial⟩⟩,trivial⟩ ⟨.same _,.same _,.same _,.same _,.box _ _ _ _ ⟨.same _,.same _,.same _,.same _,.same _,.same _,.same _,.same _,.here _ R,.same _,.same _,.same _,.same _,.same _,.same _,.same _,.same _,.same _,.same _,.same _,trivial⟩,.box _ _ _ _ ⟨.same _,.same _,.same _,.same _,.same _,.same _,.same _,.same _,.here _ R,.same _,.same _,.same _,.same _,.same _,.same _,.same _,.same _,.same _,.same _,.same _,trivial⟩,trivial⟩)<|Bu (Az (H':=[Q3 ob6 cap6 j.1.Ports,Q232 ob4 cap4 j.1.Spread,Q232 ob3 cap3 j.1.Apart,.box b2 29 [.str j.1.Name,Iw j.1.Need.Cpu,Iw j.1.Need.Mem,Iw j.1.Need.Disk,Iw j.1.Need.Pods,Iw j.1.Need.Dev,L232 j.1.Labels,L232 j.1.Select,L189 j.2,L191 j.1.Bears,Z3 ob6 j.1.Ports cap6,Z232 ob3 j.1.Apart cap3,.bool j.1.Wide,Z232 ob4 j.1.Spread cap4,Iw j.1.Skew,Iw j.1.Rank,.str j.1.Owner,.bool j.1.Daemon,.bool j.1.Pinned,.bool j.1.Local],.box b 29 [.str j.1.Name,Iw j.1.Need.Cpu,Iw j.1.Need.Mem,Iw j.1.Need.Disk,Iw j.1.Need.Pods,Iw j.1.Need.Dev,L232 j.1.Labels,L232 j.1.Select,L189 j.2,L191 j.1.Bears,Z3 ob6 j.1.Ports cap6,Z232 ob3 j.1.Apart cap3,.bool j.1.Wide,Z232 ob4 j.1.Spread cap4,Iw j.1.Skew,Iw j.1.Rank,.str j.1.Owner,.bool j.1.Daemon,.bool j.1.Pinned,.bool j.1.Local]]) 1 [(53,.agg [.str j.1.Name,Iw j.1.Need.Cpu,Iw j.1.Need.Mem,Iw j.1.Need.Disk,Iw j.1.Need.Pods,Iw j.1.Need.Dev,L232 j.1.Labels,L232 j.1.Select,L189 j.2,L191 j.1.Bears,Z3 ob6 j.1.Ports cap6,Z232 ob3 j.1.Apart cap3,.bool j.1.Wide,Z232 ob4 j.1.Spread cap4,Iw j.1.Skew,Iw j.1.Rank,.str j.1.Owner,.bool j.1.Daemon,.bool j.1.Pinned,.bool j.1.Local])] R ⟨⟨_,R,.aggL ⟨.same _,.same _,.same _,.same _,.same _,.same _,.same _,.same _,.same _,.here _ R,.same _,.same _,.same _,.same _,.same _,.same _,.same _,.same _,.same _,.same _,trivial⟩⟩,trivial⟩ ⟨.same _,.same _,.same _,.box _ _ _ _ ⟨.same _,.same _,.same _,.same _,.same _,.same _,.same _,.same _,.same _,.here _ R,.same _,.same _,.same _,.same _,.same _,.same _,.same _,.same _,.same _,.same _,trivial⟩,.box _ _ _ _ ⟨.same _,.same _,.same _,.same _,.same _,.same _,.same _,.same _,.same _,.here _ R,.same _,.same _,.same _,.same _,.same _,.same _,.same _,.same _,.same _,.same _,trivial⟩,trivial⟩)<|?_
 refine Bu (Az (H':=[Q232 ob4 cap4 j.1.Spread,Q232 ob3 cap3 j.1.Apart,.box b2 29 [.str j.1.Name,Iw j.1.Need.Cpu,Iw j.1.Need.Mem,Iw j.1.Need.Disk,Iw j.1.Need.Pods,Iw j.1.Need.Dev,L232 j.1.Labels,L232 j.1.Select,L189 j.2,L191 j.1.Bears,L3 j.1.Ports,Z232 ob3 j.1.Apart cap3,.bool j.1.Wide,Z232 ob4 j.1.Spread cap4,Iw j.1.Skew,Iw j.1.Rank,.str j.1.Owner,.bool j.1.Daemon,.bool j.1.Pinned,.bool j.1.Local],.box b 29 [.str j.1.Name,Iw j.1.Need.Cpu,Iw j.1.Need.Mem,Iw j.1.Need.Disk,Iw j.1.Need.Pods,Iw j.1.Need.Dev,L232 j.1.Labels,L232 j.1.Select,L189 j.2,L191 j.1.Bears,L3 j.1.Ports,Z232 ob3 j.1.Apart cap3,.bool j.1.Wide,Z232 ob4 j.1.Spread cap4,Iw j.1.Skew,Iw j.1.Rank,.str j.1.Owner,.bool j.1.Daemon,.bool j.1.Pinned,.bool j.1.Local]]) 0 [(53,.agg [.str j.1.Name,Iw j.1.Need.Cpu,Iw j.1.Need.Mem,Iw j.1.Need.Disk,Iw j.1.Need.Pods,Iw j.1.Need.Dev,L232 j.1.Labels,L232 j.1.Select,L189 j.2,L191 j.1.Bears,L3 j.1.Ports,Z232 ob3 j.1.Apart cap3,.bool j.1.Wide,Z232 ob4 j.1.Spread cap4,Iw j.1.Skew,Iw j.1.Rank,.str j.1.Owner,.bool j.1.Daemon,.bool j.1.Pinned,.bool j.1.Local])] R ⟨⟨_,R,.aggL ⟨.same _,.same _,.same _,.same _,.same _,.same _,.same _,.same _,.same _,.same _,.here _ R,.same _,.same _,.same _,.same _,.same _,.same _,.same _,.same _,.same _,trivial⟩⟩,trivial⟩ ⟨.same _,.same _,.box _ _ _ _ ⟨.same _,.same _,.same _,.same _,.same _,.same _,.same _,.same _,.same _,.same _,.here _ R,.same _,.same _,.same _,.same _,.same _,.same _,.same _,.same _,.same _,trivial⟩,.box _ _ _ _ ⟨.same _,.same _,.same _,.same _,.same _,.same _,.same _,.same _,.same _,.same _,.here _ R,.same _,.same _,.same _,.same _,.same _,.same _,.same _,.same _,.same _,trivial⟩,trivial⟩)<|Bu (Az (H':=[Q232 ob4 cap4 j.1.Spread,.box b2 29 [.str j.1.Name,Iw j.1.Need.Cpu,Iw j.1.Need.Mem,Iw j.1.Need.Disk,Iw j.1.Need.Pods,Iw j.1.Need.Dev,L232 j.1.Labels,L232 j.1.Select,L189 j.2,L191 j.1.Bears,L3 j.1.Ports,L232 j.1.Apart,.bool j.1.Wide,Z232 ob4 j.1.Spread cap4,Iw j.1.Skew,Iw j.1.Rank,.str j.1.Owner,.bool j.1.Daemon,.bool j.1.Pinned,.bool j.1.Local],.box b 29 [.str j.1.Name,Iw j.1.Need.Cpu,Iw j.1.Need.Mem,Iw j.1.Need.Disk,Iw j.1.Need.Pods,Iw j.1.Need.Dev,L232 j.1.Labels,L232 j.1.Select,L189 j.2,L191 j.1.Bears,L3 j.1.Ports,L232 j.1.Apart,.bool j.1.Wide,Z232 ob4 j.1.Spread cap4,Iw j.1.Skew,Iw j.1.Rank,.str j.1.Owner,.bool j.1.Daemon,.bool j.1.Pinned,.bool j.1.Local]]) 1 [(53,.agg [.str j.1.Name,Iw j.1.Need.Cpu,Iw j.1.Need.Mem,Iw j.1.Need.Disk,Iw j.1.Need.Pods,Iw j.1.Need.Dev,L232 j.1.Labels,L232 j.1.Select,L189 j.2,L191 j.1.Bears,L3 j.1.Ports,L232 j.1.Apart,.bool j.1.Wide,Z232 ob4 j.1.Spread cap4,Iw j.1.Skew,Iw j.1.Rank,.str j.1.Owner,.bool j.1.Daemon,.bool j.1.Pinned,.bool j.1.Local])] R ⟨⟨_,R,.aggL ⟨.same _,.same _,.same _,.same _,.same _,.same _,.same _,.same _,.same _,.same _,.same _,.here _ R,.same _,.same _,.same _,.same _,.same _,.same _,.same _,.same _,trivial⟩⟩,trivial⟩ ⟨.same _,.box _ _ _ _ ⟨.same _,.same _,.same _,.same _,.same _,.same _,.same _,.same _,.same _,.same _,.same _,.here _ R,.same _,.same _,.same _,.same _,.same _,.same _,.same _,.same _,trivial⟩,.box _ _ _ _ ⟨.same _,.same _,.same _,.same _,.same _,.same _,.same _,.same _,.same _,.same _,.same _,.here _ R,.same _,.same _,.same _,.same _,.same _,.same _,.same _,.same _,trivial⟩,trivial⟩)<|?_
 exact Bu (Az (H':=[X29 b2 (⟨j.1.Name,j.1.Need,j.1.Labels,j.1.Select,j.2,j.1.Bears,j.1.Ports,j.1.Apart,j.1.Wide,j.1.Spread,j.1.Skew,j.1.Rank,j.1.Owner,j.1.Daemon,j.1.Pinned,j.1.Local⟩ : T_api_Pod),X29 b (⟨j.1.Name,j.1.Need,j.1.Labels,j.1.Select,j.2,j.1.Bears,j.1.Ports,j.1.Apart,j.1.Wide,j.1.Spread,j.1.Skew,j.1.Rank,j.1.Owner,j.1.Daemon,j.1.Pinned,j.1.Local⟩ : T_api_Pod)]) 0 [(53,T_api_Pod.vv (⟨j.1.Name,j.1.Need,j.1.Labels,j.1.Select,j.2,j.1.Bears,j.1.Ports,j.1.Apart,j.1.Wide,j.1.Spread,j.1.Skew,j.1.Rank,j.1.Owner,j.1.Daemon,j.1.Pinned,j.1.Local⟩ : T_api_Pod))] R ⟨⟨_,R,.aggL ⟨.same _,.same _,.same _,.same _,.same _,.same _,.same _,.same _,.same _,.same _,.same _,.same _,.same _,.here _ R,.same _,.same _,.same _,.same _,.same _,.same _,trivial⟩⟩,trivial⟩ ⟨.box _ _ _ _ ⟨.same _,.same _,.same _,.same _,.same _,.same _,.same _,.same _,.same _,.same _,.same _,.same _,.same _,.here _ R,.same _,.same _,.same _,.same _,.same _,.same _,trivial⟩,.box _ _ _ _ ⟨.same _,.same _,.same _,.same _,.same _,.same _,.same _,.same _,.same _,.same _,.same _,.same _,.same _,.here _ R,.same _,.same _,.same _,.same _,.same _,.same _,trivial⟩,trivial⟩)<|Rt0 hm R [] (.cons (.cell _ _ _ _ 0 _ _ _ _ R R ld29 R) .nil) R R

/-! (*trireme/world.World).AddPod -/
def world_World_AddPod (w : T_world_World) (c : T_cloud_Cloud) (p : T_api_Pod) : Option (Int × T_world_World) :=
 (world_World_there w c).bind fun r =>
 (spec_RightPod p).bind fun r2 =>
 if (!r2) = true then
  some (12, w)
 else
  (yard_Place w.bs p.Name).bind fun r3 =>
  if (decide (r3 ≥ 0)) = true then
   some (15, w)
  else
   if (decide ((w.bs.length : Int) ≥ 400)) = true then
    some (7, w)
   else
    (world_pod p).bind fun r4 =>
    (V.ap 288 w.bs [(⟨r4, (⟨#[]⟩ : ByteArray)⟩ : T_api_Bound)]).bind fun l =>
    some (0, (⟨(), w.groups, w.budgets, w.ms, l, w.held⟩ : T_world_World))
theorem K66 (A0 A1 : Nat) (w : T_world_World) (c : T_cloud_Cloud) (p : T_api_Pod) (b : Nat) (ob : Option Nat) (cap : Nat) (ob2 : Option Nat) (cap2 : Nat) (ob3 : Option Nat) (cap3 : Nat) (ob4 : Option Nat) (cap4 : Nat) (b2 : Nat) (b3 : Nat) (ob5 : Option Nat) (cap5 : Nat) (ob6 : Option Nat) (cap6 : Nat) : ∀ r : Int × T_world_World, world_World_AddPod w c p = some r → VC Tryz.prog 12 [.ptr b 0, T_api_Pod.vv p] [.box b 43 [.ptr b3 0, Z139 ob w.groups cap, Z103 ob2 w.budgets cap2, Z68 ob3 w.ms cap3, Z64 ob4 w.bs cap4, .map b2], Q139 ob cap w.groups, Q103 ob2 cap2 w.budgets, Q68 ob3 cap3 w.ms, Q64 ob4 cap4 w.bs, .map b2 (List.map (pf VV.str (VV.int .i64)) w.held), .box b3 149 [Z140 A0 A1 ob5 c.pools cap5, Z152 A0 A1 ob6 c.insts cap6, Iw c.delay, Iw c.now, Iw c.calls], Q140 A0 A1 ob5 cap5 c.pools, Q152 A0 A1 ob6 cap6 c.insts] fun zx zH => ∃ (ob0_1 : Option Nat) (cap0_1 : Nat) (ob0_2 : Option Nat) (cap0_2 : Nat) (ob0_3 : Option Nat) (cap0_3 : Nat) (ob0_4 : Option Nat) (cap0_4 : Nat) (b0_5 : Nat), zx = Iw r.1 ∧ zH = [.box b 43 [.ptr b3 0, Z139 ob0_1 r.2.groups cap0_1, Z103 ob0_2 r.2.budgets cap0_2, Z68 ob0_3 r.2.ms cap0_3, Z64 ob0_4 r.2.bs cap0_4, .map b0_5], Q139 ob0_1 cap0_1 r.2.groups, Q103 ob0_2 cap0_2 r.2.budgets, Q68 ob0_3 cap0_3 r.2.ms, Q64 ob0_4 cap0_4 r.2.bs, .map b0_5 (List.map (pf VV.str (VV.int .i64)) r.2.held), .box b3 149 [Z140 A0 A1 ob5 c.pools cap5, Z152 A0 A1 ob6 c.insts cap6, Iw c.delay, Iw c.now, Iw c.calls], Q140 A0 A1 ob5 cap5 c.pools, Q152 A0 A1 ob6 cap6 c.insts] := by
 refine Cl [.tmp 4] Tryz.func12 R R R fun r hm=>?_
 unfold world_World_AddPod at hm
 refine Ae<|Ab R R<|Bg R R fun b4=>Aa R R (Aj R)<|Ac<|Af<|Aw<|Ae<|Aa R R (Ai R)<|Bd hm fun r h2 hm=>Av (Ax [1,2,3,4,5,6,7,8,9,0] R)<|Ab R R<|Aq 9 R fn60 R (K54 A0 A1 w c b ob cap ob2 cap2 ob3 cap3 ob4 cap4 b2 b3 ob5 cap5 ob6 cap6 r h2) fun _ _ h16=> ?_
 obtain ⟨rfl,rfl⟩:=h16
 refine Ad tbk [] 2 R R<|Ac<|Bm R (congrArg not (Option.some.inj (show some true = some r from h2)).symm)<|Ae<|Ad tbk [9] 1 R R<|Ab R R<|Ay hm 0 R fn65 R (K61 _) fun r2 hm=>Ad tbk [] 2 R R<|Ac<|Ao hm R (fun h4 hm=>?_) fun h4 hm=> ?_
 ·refine Ag tbk [] R R<|?_
  obtain rfl:=Option.some.inj hm
  exact Bq ⟨.inl R,_,.cons (.tmp _ _ R) .nil,[0,1,2,3,4,5,6,7,8],_,R,ob,cap,ob2,cap2,ob3,cap3,ob4,cap4,b2,R,R⟩
 refine Af<|Bu (Ax [4,0,1,2,3,5,6,7,8,9] R)<|Bi 1 mixed<|A9 tbk [0,1,2,3,4,5] [0,8] (by kernel_rfl) R R R<|Am 6 (by kernel_rfl)<|An R R R<|Dn hm (Az 0 [(17,L64 w.bs)] R ⟨⟨_,R,.here _ R⟩,trivial⟩ (FzH.refl _)) [.same,.same] R fn66 R (K64 _ _) (fun _=>R) (fun _=>R) fun r3 hm=>A9 tbk [7,8] [] (by kernel_rfl) R R R<|A5 (by kernel_rfl)<|Ao hm R (fun h6 hm=>?_) fun h6 hm=> ?_
 ·refine Ag tbk [] R R<|?_
  obtain rfl:=Option.some.inj hm
  exact Bq ⟨.inl R,_,.cons (.tmp _ _ R) .nil,[1,2,3,4,0,5,6,7,8],_,R,ob,cap,ob2,cap2,ob3,cap3,ob4,cap4,b2,R,R⟩
 refine Ae<|Ad tbk [1] 4 R R<|Aa R R (Cx T_api_Bound.vv R B6)<|Ad tbk [] 2 R R<|Ac<|Ao hm R (fun h7 hm=>?_) fun h7 hm=> ?_
 ·refine Ag tbk [] R R<|?_
  obtain rfl:=Option.some.inj hm
  exact Bq ⟨.inl R,_,.cons (.tmp _ _ R) .nil,[1,2,3,4,0,5,6,7,8],_,R,ob,cap,ob2,cap2,ob3,cap3,ob4,cap4,b2,R,R⟩
 refine Al<|Af<|Bi 2 mixed<|A9 tbk [0,1,2,3,5] [7] (by kernel_rfl) R R R<|?_
 refine B3 [4,6] (by kernel_rfl) ⟨?_,?_,trivial⟩
 ·refine An R R R<|B7 (B0 (i:=1) R R ld40 R)<|Am 6 (by kernel_rfl)<|An R R R<|Ay hm 0 R fn67 R (K65 _) fun r4 hm=>Bb 7 R R R (by kernel_rfl) (Bn pl64 R R)<|Am 8 (by kernel_rfl)<|An R R R<|A4 ap40 R R R R R fun b5=>Am 9 (by kernel_rfl)<|Bd hm fun l h10 hm=>An R R R<|Bo 1 T_api_Bound.vv (l:=w.bs) (l2:=[(⟨r4,(⟨#[]⟩ : ByteArray)⟩ : T_api_Bound)]) ap40 R R (sT_row 0 T_api_Bound.vv el40 R R) h10 fun ob7 cap7=>A9 tbk [10,11] [] (by kernel_rfl) R R R<|Am 12 (by kernel_rfl)<|An R R R<|Ak (i:=2) R R R ld40 R R R<|A5 (by kernel_rfl)<|Ag tbk [] R R<|?_
  obtain rfl:=Option.some.inj hm
  exact Bq ⟨.inl R,_,.cons (.tmp _ _ R) .nil,[2,3,4,5,1,6,7,8,9],_,R,ob,cap,ob2,cap2,ob3,cap3,ob7,cap7,b2,R,R⟩
 ·refine An R R R<|Ay hm 0 R fn67 R (K65 _) fun r5 hm=>Bb 7 R R R (by kernel_rfl) (Bn pl64 R R)<|?_
  refine B3 [4,8] (by kernel_rfl) ⟨?_,?_,trivial⟩
  ·refine An R R R<|B7 (B0 (i:=1) R R ld40 R)<|Am 8 (by kernel_rfl)<|An R R R<|A4 ap40 R R R R R fun b6=>Am 9 (by kernel_rfl)<|Bd hm fun l2 h13 hm=>An R R R<|Bo 1 T_api_Bound.vv (l:=w.bs) (l2:=[(⟨r5,(⟨#[]⟩ : ByteArray)⟩ : T_api_Bound)]) ap40 R R (sT_row 0 T_api_Bound.vv el40 R R) h13 fun ob8 cap8=>A9 tbk [10,11] [] (by kernel_rfl) R R R<|Am 12 (by kernel_rfl)<|An R R R<|Ak (i:=2) R R R ld40 R R R<|A5 (by kernel_rfl)<|Ag tbk [] R R<|?_
   obtain rfl:=Option.some.inj hm
   exact Bq ⟨.inl R,_,.cons (.tmp _ _ R) .nil,[2,3,4,5,1,6,7,8,9],_,R,ob,cap,ob2,cap2,ob3,cap3,ob8,cap8,b2,R,R⟩
  ·refine An R R R<|A4 ap40 R R R R R fun b7=>Am 4 (by kernel_rfl)<|An R R R<|B7 (B0 (i:=2) R R ld40 R)<|Am 9 (by kernel_rfl)<|Bd hm fun l3 h15 hm=>An R R R<|Bo 1 T_api_Bound.vv (l:=w.bs) (l2:=[(⟨r5,(⟨#[]⟩ : ByteArray)⟩ : T_api_Bound)]) ap40 R R (sT_row 0 T_api_Bound.vv el40 R R) h15 fun ob9 cap9=>A9 tbk [10,11] [] (by kernel_rfl) R R R<|Am 12 (by kernel_rfl)<|An R R R<|Ak (i:=2) R R R ld40 R R R<|A5 (by kernel_rfl)<|Ag tbk [] R R<|?_
   obtain rfl:=Option.some.inj hm
   exact Bq ⟨.inl R,_,.cons (.tmp _ _ R) .nil,[2,3,4,5,1,6,7,8,9],_,R,ob,cap,ob2,cap2,ob3,cap3,ob9,cap9,b2,R,R⟩

end Go.Proofs.YtbgfffdnaijmhaaGreat.M

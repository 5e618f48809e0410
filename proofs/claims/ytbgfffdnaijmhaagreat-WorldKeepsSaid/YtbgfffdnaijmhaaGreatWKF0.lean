/-
  Printed by a program of this session out of the loaded functions: models and their proofs. Own text.
-/
import Derived.Test.YtbgfffdnaijmhaaGreatWKT
namespace Go.Proofs.YtbgfffdnaijmhaaGreat.M
open Go Go.Proofs Go.Proofs.YtbgfffdnaijmhaaGreat.V
open Go.IntKind (i64)
set_option linter.unusedVariables false
set_option maxRecDepth 20000
set_option maxHeartbeats 40000000
/-! trireme/triremeref05.Light -/
def ref05_Light.l1 (l : List T_api_Label) : Nat → Int → Option (Out Bool Unit)
 | 0, _ => none
 | n + 1, i2 =>
  if (decide (i2 < (l.length : Int))) = true then
   (V.gl l i2).bind fun x =>
   (if (decide ((x.Key.size : Int) > 300)) = true then some true else (V.gl l i2).bind fun x2 =>
   some (decide ((x2.Val.size : Int) > 300))).bind fun c =>
   if c = true then
    some (Out.ret false)
   else
    ref05_Light.l1 l n (i64.wrap (i2 + 1))
  else
   some (Out.go ())
def ref05_Light (l : List T_api_Label) : Option Bool :=
 if (decide ((l.length : Int) > 40)) = true then
  some false
 else
  (ref05_Light.l1 l FU (0 : Int)).bind fun o =>
  o.on fun j =>
  some true
theorem K2 (l : List T_api_Label) : VS Tryz.prog 121 (ref05_Light l) [L232 l] [] .bool N0 := by
 refine Az [.tmp 2] Tryz.func121 R R R fun r hm=>?_
 unfold ref05_Light at hm
 refine Af tbk [] R R<|Ag<|Ae<|Aa R R (Ai R)<|Aa R R (Ay T_api_Label.vv R B9)<|Aa R R (Bl R R R)<|Ac<|An hm R (fun h1 hm=>Af tbk [] R R<|Rt1 hm R [] R R R) fun h1 hm=>Ak<|Ag<|Af tbk [] R R<|B1 hm (fun _ (_:Unit)=>[]) (fun _ (_:Unit)=>[]) (fun o hm h3=>?_) fun j _ hm=> ?_
 ·refine B8 (fun zn (zs:Int)=>ref05_Light.l1 l zn zs) (fun zs (_:Unit)=>[(0,L232 l),(3,Iw zs)]) (fun _ (_:Unit)=>[]) _ () (fun _=>R) hm (Ah [] R R) fun n i2 _ hm=> ?_
  rw [ref05_Light.l1] at hm
  exact Ag<|Ae<|Ab tbk [] 2 R R<|Aa R R (Ay T_api_Label.vv R B9)<|Aa R R (Bl R R R)<|Ac<|An hm R (fun h4 hm=>Ak<|Ag<|Au<|Ae<|Ab tbk [] 2 R R<|Bd hm fun x h5 hm=>Aa R R (Br T_api_Label.vv R R el24 h5)<|Ab tbk [] 2 R R<|Aa R R (Ca R Av)<|Ab tbk [] 2 R R<|Bh hm 8 28 20 R (fun _ K' h6 J hm=>Ab tbk [] 8 R R<|J 7 R R (Bj hm)) (fun _ K' h6 J hm=>Ab tbk [] 2 R R<|Bd hm fun x2 h7 hm=>Bf R R R R R (Br T_api_Label.vv R R el24 h7)<|Ab tbk [] 2 R R<|Bf R R R R R (Ca R Av)<|Ab tbk [] 2 R R<|J 7 R R (Bj hm)) fun c hm=>Ac<|An hm R (fun h9 hm=>Af tbk [] R R<|have hm:=Lr hm h3;Rt1 hm R [] R R R) fun h9 hm=>Ak<|A9 tbk [] R R<|Ap _ () hm (Ah [] R R)) fun h4 hm=>A4<|Ar () hm (Ah [] R R)
 exact Af tbk [] R R<|Rt1 hm R [] R R R

/-! trireme/triremeref06.Light -/
def ref06_Light.l1 (l : List T_api_Toleration) : Nat → Int → Option (Out Bool Unit)
 | 0, _ => none
 | n + 1, i2 =>
  if (decide (i2 < (l.length : Int))) = true then
   (V.gl l i2).bind fun x =>
   (if (decide ((x.Key.size : Int) > 300)) = true then some true else (V.gl l i2).bind fun x2 =>
   some (decide ((x2.Val.size : Int) > 300))).bind fun c =>
   if c = true then
    some (Out.ret false)
   else
    ref06_Light.l1 l n (i64.wrap (i2 + 1))
  else
   some (Out.go ())
def ref06_Light.l2 (taints : List T_api_Taint) : Nat → Int → Option (Out Bool Unit)
 | 0, _ => none
 | n2 + 1, i4 =>
  if (decide (i4 < (taints.length : Int))) = true then
   (V.gl taints i4).bind fun x3 =>
   (if (decide ((x3.Key.size : Int) > 300)) = true then some true else (V.gl taints i4).bind fun x4 =>
   some (decide ((x4.Val.size : Int) > 300))).bind fun c2 =>
   if c2 = true then
    some (Out.ret false)
   else
    ref06_Light.l2 taints n2 (i64.wrap (i4 + 1))
  else
   some (Out.go ())
def ref06_Light (l : List T_api_Toleration) (taints : List T_api_Taint) : Option Bool :=
 if ((decide ((l.length : Int) > 40)) || (decide ((taints.length : Int) > 40))) = true then
  some false
 else
  (ref06_Light.l1 l FU (0 : Int)).bind fun o =>
  o.on fun j =>
  (ref06_Light.l2 taints FU (0 : Int)).bind fun o2 =>
  o2.on fun j2 =>
  some true
theorem K3 (l : List T_api_Toleration) (taints : List T_api_Taint) : VS Tryz.prog 57 (ref06_Light l taints) [L191 l, L31 taints] [] .bool N0 := by
 refine Az [.tmp 4] Tryz.func57 R R R fun r hm=>?_
 unfold ref06_Light at hm
 refine Af tbk [] R R<|Ag<|Ae<|Aa R R (Ai R)<|Aa R R (Ay T_api_Toleration.vv R C2)<|Ab tbk [] 2 R R<|C3 4 14 10 R (fun K' J=>Ab tbk [] 4 R R<|J 3 R R R) (fun h1 K' J=>Bf R R R R R (Ai R)<|Bf R R R R R (Ay T_api_Taint.vv R Cn)<|Ab tbk [] 2 R R<|J 3 R R R)<|Ac<|An hm R (fun h2 hm=>Af tbk [] R R<|Rt1 hm R [] R R R) fun h2 hm=>Ak<|Ag<|Af tbk [] R R<|B1 hm (fun _ (_:Unit)=>[(1,L31 taints)]) (fun _ (_:Unit)=>[]) (fun o hm h4=>?_) fun j _ hm=> ?_
 ·refine B8 (fun zn (zs:Int)=>ref06_Light.l1 l zn zs) (fun zs (_:Unit)=>[(0,L191 l),(1,L31 taints),(5,Iw zs)]) (fun _ (_:Unit)=>[]) _ () (fun _=>R) hm (Ah [] R R) fun n i2 _ hm=> ?_
  rw [ref06_Light.l1] at hm
  exact Ag<|Ae<|Ab tbk [] 2 R R<|Aa R R (Ay T_api_Toleration.vv R C2)<|Aa R R (Bl R R R)<|Ac<|An hm R (fun h5 hm=>Ak<|Ag<|Au<|Ae<|Ab tbk [] 2 R R<|Bd hm fun x h6 hm=>Aa R R (Br T_api_Toleration.vv R R el26 h6)<|Ab tbk [] 2 R R<|Aa R R (Ca R Av)<|Ab tbk [] 2 R R<|Bh hm 8 36 28 R (fun _ K' h7 J hm=>Ab tbk [] 8 R R<|J 7 R R (Bj hm)) (fun _ K' h7 J hm=>Ab tbk [] 2 R R<|Bd hm fun x2 h8 hm=>Bf R R R R R (Br T_api_Toleration.vv R R el26 h8)<|Ab tbk [] 2 R R<|Bf R R R R R (Ca R Av)<|Ab tbk [] 2 R R<|J 7 R R (Bj hm)) fun c hm=>Ac<|An hm R (fun h10 hm=>Af tbk [] R R<|have hm:=Lr hm h4;Rt1 hm R [] R R R) fun h10 hm=>Ak<|A9 tbk [] R R<|Ap _ () hm (Ah [] R R)) fun h5 hm=>A4<|Ar () hm (Ah [] R R)
 refine Ag<|Af tbk [] R R<|B1 hm (fun _ (_:Unit)=>[]) (fun _ (_:Unit)=>[]) (fun o2 hm h12=>?_) fun j2 _ hm=> ?_
 ·refine B8 (fun zn (zs:Int)=>ref06_Light.l2 taints zn zs) (fun zs (_:Unit)=>[(1,L31 taints),(6,Iw zs)]) (fun _ (_:Unit)=>[]) _ () (fun _=>R) hm (Ah [] R R) fun n2 i4 _ hm=> ?_
  rw [ref06_Light.l2] at hm
  exact Ag<|Ae<|Ab tbk [] 2 R R<|Aa R R (Ay T_api_Taint.vv R Cn)<|Aa R R (Bl R R R)<|Ac<|An hm R (fun h13 hm=>Ak<|Ag<|Au<|Ae<|Ab tbk [] 2 R R<|Bd hm fun x3 h14 hm=>Aa R R (Br T_api_Taint.vv R R el66 h14)<|Ab tbk [] 2 R R<|Aa R R (Ca R Av)<|Ab tbk [] 2 R R<|Bh hm 8 58 50 R (fun _ K' h15 J hm=>Ab tbk [] 8 R R<|J 7 R R (Bj hm)) (fun _ K' h15 J hm=>Ab tbk [] 2 R R<|Bd hm fun x4 h16 hm=>Bf R R R R R (Br T_api_Taint.vv R R el66 h16)<|Ab tbk [] 2 R R<|Bf R R R R R (Ca R Av)<|Ab tbk [] 2 R R<|J 7 R R (Bj hm)) fun c2 hm=>Ac<|An hm R (fun h18 hm=>Af tbk [] R R<|have hm:=Lr hm h12;Rt1 hm R [] R R R) fun h18 hm=>Ak<|A9 tbk [] R R<|Ap _ () hm (Ah [] R R)) fun h13 hm=>A4<|Ar () hm (Ah [] R R)
 exact Af tbk [] R R<|Rt1 hm R [] R R R

/-! trireme/triremeref07.LightMachine -/
def ref07_LightMachine (m : T_api_Machine) : Option Bool :=
 (if ((decide ((m.Name.size : Int) ≤ 300)) && (decide ((m.Group.size : Int) ≤ 300))) = true then (ref05_Light m.Labels).bind fun r =>
 some r else some false).bind fun c =>
 (if c = true then (ref06_Light ([] : List T_api_Toleration) m.Taints).bind fun r2 =>
 some r2 else some false).bind fun c2 =>
 some c2
theorem K4 (m : T_api_Machine) : VS Tryz.prog 157 (ref07_LightMachine m) [T_api_Machine.vv m] [] .bool N0 := by
 refine Az [.tmp 2] Tryz.func157 R R R fun r hm=>?_
 unfold ref07_LightMachine at hm
 exact Ae<|Ad R R<|Bi R R fun b=>Aa R R (Aj R)<|Ac<|Ae<|Ab tbk [0] 2 R R<|Aa R R (Ca R Av)<|Ab tbk [] 2 R R<|Dg 5 12 7 R (fun h2 K' J=>Ab tbk [0] 2 R R<|Bf R R R R R (Ca R Av)<|Ab tbk [] 2 R R<|J 4 R R R) (fun K' J=>Ab tbk [] 5 R R<|J 4 R R R)<|Aa R R (Ai R)<|Bh hm 4 17 13 R (fun _ K' h3 J hm=>Ab tbk [0] 2 R R<|A8 R R R R R<|Ax hm 0 R fn121 R (K2 _) fun r hm=>Aa R R (Bq true R R R)<|J 3 R R (Bj hm)) (fun _ K' h3 J hm=>Ab tbk [] 4 R R<|J 3 R R (Bj hm)) fun c hm=>Aa R R (Ai R)<|Bh hm 4 22 18 R (fun _ K' h6 J hm=>Ab tbk [0] 2 R R<|A8 R R R R R<|VO.cn hm 0 [.nil 191,.same] R fn57 R (K3 _ _) fun r2 hm=>Aa R R (Bq true R R R)<|J 3 R R (Bj hm)) (fun _ K' h6 J hm=>Ab tbk [] 4 R R<|J 3 R R (Bj hm)) fun c2 hm=>Aa R R (Aj R)<|Ac<|Rt1 hm R [] R R R

/-! trireme/triremeref16.Light -/
def ref16_Light.l1 (l : List T_api_Group) : Nat → Int → Option (Out Bool Unit)
 | 0, _ => none
 | n + 1, i2 =>
  if (decide (i2 < (l.length : Int))) = true then
   (V.gl l i2).bind fun x =>
   (if (decide ((x.Name.size : Int) > 300)) = true then some true else (V.gl l i2).bind fun x2 =>
   (ref07_LightMachine x2.Like).bind fun r =>
   some (!r)).bind fun c =>
   if c = true then
    some (Out.ret false)
   else
    ref16_Light.l1 l n (i64.wrap (i2 + 1))
  else
   some (Out.go ())
def ref16_Light (l : List T_api_Group) : Option Bool :=
 if (decide ((l.length : Int) > 20)) = true then
  some false
 else
  (ref16_Light.l1 l FU (0 : Int)).bind fun o =>
  o.on fun j =>
  some true
theorem K5 (l : List T_api_Group) : VS Tryz.prog 88 (ref16_Light l) [L139 l] [] .bool N0 := by
 refine Az [.tmp 2] Tryz.func88 R R R fun r hm=>?_
 unfold ref16_Light at hm
 refine Af tbk [] R R<|Ag<|Ae<|Aa R R (Ai R)<|Aa R R (Ay T_api_Group.vv R Co)<|Aa R R (Bl R R R)<|Ac<|An hm R (fun h1 hm=>Af tbk [] R R<|Rt1 hm R [] R R R) fun h1 hm=>Ak<|Ag<|Af tbk [] R R<|B1 hm (fun _ (_:Unit)=>[]) (fun _ (_:Unit)=>[]) (fun o hm h3=>?_) fun j _ hm=> ?_
 ·refine B8 (fun zn (zs:Int)=>ref16_Light.l1 l zn zs) (fun zs (_:Unit)=>[(0,L139 l),(3,Iw zs)]) (fun _ (_:Unit)=>[]) _ () (fun _=>R) hm (Ah [] R R) fun n i2 _ hm=> ?_
  rw [ref16_Light.l1] at hm
  exact Ag<|Ae<|Ab tbk [] 2 R R<|Aa R R (Ay T_api_Group.vv R Co)<|Aa R R (Bl R R R)<|Ac<|An hm R (fun h4 hm=>Ak<|Ag<|Au<|Ae<|Ab tbk [] 2 R R<|Bd hm fun x h5 hm=>Aa R R (Br T_api_Group.vv R R el37 h5)<|Ab tbk [] 2 R R<|Aa R R (Ca R Av)<|Ab tbk [] 2 R R<|Bh hm 8 28 20 R (fun _ K' h6 J hm=>Ab tbk [] 8 R R<|J 7 R R (Bj hm)) (fun _ K' h6 J hm=>Ab tbk [] 2 R R<|Bd hm fun x2 h7 hm=>Bf R R R R R (Br T_api_Group.vv R R el37 h7)<|Ab tbk [] 2 R R<|A8 R R R R R<|Ax hm 0 R fn157 R (K4 _) fun r hm=>Ab tbk [] 2 R R<|J 7 R R (Bj hm)) fun c hm=>Ac<|An hm R (fun h10 hm=>Af tbk [] R R<|have hm:=Lr hm h3;Rt1 hm R [] R R R) fun h10 hm=>Ak<|A9 tbk [] R R<|Ap _ () hm (Ah [] R R)) fun h4 hm=>A4<|Ar () hm (Ah [] R R)
 exact Af tbk [] R R<|Rt1 hm R [] R R R

/-! trireme/triremeref15.Light -/
def ref15_Light.l1 (l : List T_api_Budget) : Nat → Int → Option (Out Bool Unit)
 | 0, _ => none
 | n + 1, i2 =>
  if (decide (i2 < (l.length : Int))) = true then
   (V.gl l i2).bind fun x =>
   (if (decide ((x.Name.size : Int) > 300)) = true then some true else (V.gl l i2).bind fun x2 =>
   (ref05_Light x2.Match).bind fun r =>
   some (!r)).bind fun c =>
   if c = true then
    some (Out.ret false)
   else
    ref15_Light.l1 l n (i64.wrap (i2 + 1))
  else
   some (Out.go ())
def ref15_Light (l : List T_api_Budget) : Option Bool :=
 if (decide ((l.length : Int) > 30)) = true then
  some false
 else
  (ref15_Light.l1 l FU (0 : Int)).bind fun o =>
  o.on fun j =>
  some true
theorem K6 (l : List T_api_Budget) : VS Tryz.prog 89 (ref15_Light l) [L103 l] [] .bool N0 := by
 refine Az [.tmp 2] Tryz.func89 R R R fun r hm=>?_
 unfold ref15_Light at hm
 refine Af tbk [] R R<|Ag<|Ae<|Aa R R (Ai R)<|Aa R R (Ay T_api_Budget.vv R Cr)<|Aa R R (Bl R R R)<|Ac<|An hm R (fun h1 hm=>Af tbk [] R R<|Rt1 hm R [] R R R) fun h1 hm=>Ak<|Ag<|Af tbk [] R R<|B1 hm (fun _ (_:Unit)=>[]) (fun _ (_:Unit)=>[]) (fun o hm h3=>?_) fun j _ hm=> ?_
 ·refine B8 (fun zn (zs:Int)=>ref15_Light.l1 l zn zs) (fun zs (_:Unit)=>[(0,L103 l),(3,Iw zs)]) (fun _ (_:Unit)=>[]) _ () (fun _=>R) hm (Ah [] R R) fun n i2 _ hm=> ?_
  rw [ref15_Light.l1] at hm
  exact Ag<|Ae<|Ab tbk [] 2 R R<|Aa R R (Ay T_api_Budget.vv R Cr)<|Aa R R (Bl R R R)<|Ac<|An hm R (fun h4 hm=>Ak<|Ag<|Au<|Ae<|Ab tbk [] 2 R R<|Bd hm fun x h5 hm=>Aa R R (Br T_api_Budget.vv R R el38 h5)<|Ab tbk [] 2 R R<|Aa R R (Ca R Av)<|Ab tbk [] 2 R R<|Bh hm 8 28 20 R (fun _ K' h6 J hm=>Ab tbk [] 8 R R<|J 7 R R (Bj hm)) (fun _ K' h6 J hm=>Ab tbk [] 2 R R<|Bd hm fun x2 h7 hm=>Bf R R R R R (Br T_api_Budget.vv R R el38 h7)<|Ab tbk [] 2 R R<|A8 R R R R R<|Ax hm 0 R fn121 R (K2 _) fun r hm=>Ab tbk [] 2 R R<|J 7 R R (Bj hm)) fun c hm=>Ac<|An hm R (fun h10 hm=>Af tbk [] R R<|have hm:=Lr hm h3;Rt1 hm R [] R R R) fun h10 hm=>Ak<|A9 tbk [] R R<|Ap _ () hm (Ah [] R R)) fun h4 hm=>A4<|Ar () hm (Ah [] R R)
 exact Af tbk [] R R<|Rt1 hm R [] R R R

/-! trireme/triremelaw18.fits -/
def law18_fits (c : T_law18_Case) : Option Bool :=
 (ref16_Light c.G).bind fun r =>
 (if r = true then (ref15_Light c.B).bind fun r2 =>
 some r2 else some false).bind fun c2 =>
 some c2
theorem K7 (c : T_law18_Case) : VS Tryz.prog 29 (law18_fits c) [T_law18_Case.vv c] [] .bool N0 := by
 refine Az [.tmp 2] Tryz.func29 R R R fun r hm=>?_
 unfold law18_fits at hm
 exact Ae<|Ad R R<|Bi R R fun b=>Aa R R (Aj R)<|Ac<|Ae<|Ab tbk [0] 2 R R<|Ad R R<|Ax hm 0 R fn88 R (K5 _) fun r hm=>Aa R R (Ai R)<|Bh hm 4 10 6 R (fun _ K' h3 J hm=>Ab tbk [0] 2 R R<|A8 R R R R R<|Ax hm 0 R fn89 R (K6 _) fun r2 hm=>Aa R R (Bq true R R R)<|J 3 R R (Bj hm)) (fun _ K' h3 J hm=>Ab tbk [] 4 R R<|J 3 R R (Bj hm)) fun c2 hm=>Aa R R (Aj R)<|Ac<|Rt1 hm R [] R R R

/-! trireme/lex.right -/
def lex_right (s : ByteArray) (i : Int) (c : Int) : Option Bool :=
 (if (c != 65533) = true then some true else (if (decide ((i64.wrap (i + 2)) < (s.size : Int))) = true then (V.gi s i).bind fun v =>
 some (v == 239) else some false).bind fun c2 =>
 (if c2 = true then (V.gi s (i64.wrap (i + 1))).bind fun v2 =>
 some (v2 == 191) else some false).bind fun c3 =>
 (if c3 = true then (V.gi s (i64.wrap (i + 2))).bind fun v3 =>
 some (v3 == 189) else some false).bind fun c4 =>
 some c4).bind fun c5 =>
 some c5
theorem K8 (s : ByteArray) (i : Int) (c : Int) : VS Tryz.prog 223 (lex_right s i c) [.str s, Iw i, .int .i32 c] [] .bool N0 := by
 refine Az [.tmp 6] Tryz.func223 R R R fun r hm=>?_
 unfold lex_right at hm
 exact Af tbk [] R R<|Ae<|Ab tbk [] 3 R R<|Bh hm 26 35 9 R (fun _ K' h1 J hm=>Ab tbk [] 26 R R<|J 25 R R (Bj hm)) (fun _ K' h1 J hm=>Ab tbk [] 3 R R<|Bf R R R R R (Ca R Av)<|Ab tbk [] 2 R R<|Bh hm 5 20 15 R (fun _ K' h2 J hm=>Ab tbk [] 2 R R<|Bd hm fun v h3 hm=>Bf R R R R R (C1 R R Av h3)<|Ab tbk [] 2 R R<|J 4 R R (Bj hm)) (fun _ K' h2 J hm=>Ab tbk [] 5 R R<|J 4 R R (Bj hm)) fun c2 hm=>Bf R R R R R (Ai R)<|Bh hm 6 27 21 R (fun _ K' h5 J hm=>Ab tbk [] 3 R R<|Bd hm fun v2 h6 hm=>Bf R R R R R (C1 R R Av h6)<|Ab tbk [] 2 R R<|J 5 R R (Bj hm)) (fun _ K' h5 J hm=>Ab tbk [] 6 R R<|J 5 R R (Bj hm)) fun c3 hm=>Bf R R R R R (Ai R)<|Bh hm 6 34 28 R (fun _ K' h8 J hm=>Ab tbk [] 3 R R<|Bd hm fun v3 h9 hm=>Bf R R R R R (C1 R R Av h9)<|Ab tbk [] 2 R R<|J 5 R R (Bj hm)) (fun _ K' h8 J hm=>Ab tbk [] 6 R R<|J 5 R R (Bj hm)) fun c4 hm=>Aa R R (Bq false R R R)<|J 11 R R (Bj hm)) fun c5 hm=>Aa R R (Aj R)<|Ac<|Rt1 hm R [] R R R

/-! trireme/lex.plain -/
def lex_plain (c : Int) : Option Bool :=
 (if (c == 40) = true then
  some (c == 40)
 else
  if (c == 41) = true then
   some (c == 41)
  else
   if (c == 34) = true then
    some (c == 34)
   else
    if (c == 59) = true then
     some (c == 59)
    else
     some (c == 127)).bind fun v2 =>
 if v2 = true then
  some false
 else
  some (decide (c > 32))
theorem K9 (c : Int) : VS Tryz.prog 188 (lex_plain c) [.int .i32 c] [] .bool N0 := by
 refine Az [.tmp 2] Tryz.func188 R R R fun r hm=>?_
 unfold lex_plain at hm
 exact Af tbk [] R R<|Ag<|Af tbk [] R R<|Au<|De hm (fun v2 (_:Unit)=>[(0,.int .i32 c),(4,.bool v2)]) (fun _ (_:Unit)=>[]) (fun o hm=>Af tbk [] R R<|An hm R (fun h3 hm=>Ak<|As () hm (Ah [] R R)) fun h3 hm=>Af tbk [] R R<|An hm R (fun h4 hm=>Ak<|As () hm (Ah [] R R)) fun h4 hm=>Af tbk [] R R<|An hm R (fun h5 hm=>Ak<|As () hm (Ah [] R R)) fun h5 hm=>Af tbk [] R R<|An hm R (fun h6 hm=>Ak<|As () hm (Ah [] R R)) fun h6 hm=>A9 tbk [] R R<|As () hm (Ah [] R R)) fun v2 _ hm=>An hm R (fun h7 hm=>Af tbk [] R R<|Rt1 hm R [] R R R) fun h7 hm=>Ak<|Af tbk [] R R<|Rt1 hm R [] R R R

/-! trireme/lex.head -/
def lex_head_lex_plain.l1 (s : ByteArray) : Nat → Nat → Option (Out (Int × Bool) Unit)
 | 0, _ => none
 | n + 1, pos2 =>
  if pos2 < s.size then
   (lex_right s (pos2 : Int) ((Utf8.decode s pos2).1 : Int)).bind fun r =>
   if (!r) = true then
    some (Out.ret ((pos2 : Int), false))
   else
    (lex_plain ((Utf8.decode s pos2).1 : Int)).bind fun r2 =>
    if (!r2) = true then
     some (Out.ret ((pos2 : Int), true))
    else
     lex_head_lex_plain.l1 s n (pos2 + (Utf8.decode s pos2).2)
  else
   some (Out.go ())
def lex_head_lex_plain (s : ByteArray) : Option (Int × Bool) :=
 (lex_head_lex_plain.l1 s FU 0).bind fun o =>
 o.on fun j =>
 some ((s.size : Int), true)
theorem K10 (s : ByteArray) : VS Tryz.prog 187 (lex_head_lex_plain s) [.str s, .clo (.func 188) [] []] [] (fun r=>.tup [Iw r.1, .bool r.2]) N0 := by
 refine Az [.tmp 4,.tmp 5] Tryz.func187 R R R fun r hm=>?_
 unfold lex_head_lex_plain at hm
 refine Af tbk [] R R<|Ag<|Ae<|Aa R R (Ai R)<|Ad R R<|VO.range Av R fun b=>Ac<|B1 hm (fun _ (_:Unit)=>[(0,.str s)]) (fun _ (_:Unit)=>[]) (fun o hm h3=>?_) fun j _ hm=> ?_
 ·refine B8 (fun zn (zs:Nat)=>lex_head_lex_plain.l1 s zn zs) (fun _ (_:Unit)=>[(0,.str s),(1,.clo (.func 188) [] []),(9,.ptr b 0)]) (fun zs (_:Unit)=>[.iter b s zs]) _ () (fun _=>R) hm (Ah [0] R R) fun n pos2 _ hm=> ?_
  rw [lex_head_lex_plain.l1] at hm
  exact Ae<|Ad R R<|VO.nx hm 0 R R (fun h4 hm=>Aa R R (Dw R R)<|Ac<|Ag<|Bm R R<|Ak<|Au<|Af tbk [] R R<|Ag<|Ae<|Ab tbk [] 3 R R<|Ad R R<|Ax hm 0 R fn223 R (K8 _ _ _) fun r hm=>Aa R R (Ci R)<|Ac<|An hm R (fun h6 hm=>Af tbk [] R R<|have hm:=Lr hm h3;Rt2 hm R [] R R R R) fun h6 hm=>Ak<|Ae<|Ab tbk [] 2 R R<|Ad R R<|Ax hm 0 R fn188 R (K9 _) fun r2 hm=>Aa R R (Ci R)<|Ac<|An hm R (fun h8 hm=>Af tbk [] R R<|have hm:=Lr hm h3;Rt2 hm R [] R R R R) fun h8 hm=>Ak<|Ap _ () hm (Ah [0] R R)) fun h4 hm=>Aa R R (Dw R R)<|Ac<|Ag<|Bp R R<|A4<|Ar () hm (Ah [] R R)
 exact Ae<|Aa R R (Ai R)<|Aa R R (Ca R Av)<|Ab tbk [] 2 R R<|Ac<|Rt2 hm R [] R R R R

/-! trireme/lex.Runes -/
def lex_Runes.l1 (s : ByteArray) : Nat → Int → Nat → Option (Out Int Int)
 | 0, _, _ => none
 | n4 + 1, n2, pos2 =>
  if pos2 < s.size then
   (lex_right s (pos2 : Int) ((Utf8.decode s pos2).1 : Int)).bind fun r =>
   if (!r) = true then
    some (Out.ret (-1))
   else
    lex_Runes.l1 s n4 (i64.wrap (n2 + 1)) (pos2 + (Utf8.decode s pos2).2)
  else
   some (Out.go n2)
def lex_Runes (s : ByteArray) : Option Int :=
 (lex_Runes.l1 s FU 0 0).bind fun o =>
 o.on fun n32 =>
 some n32
theorem K11 (s : ByteArray) : VS Tryz.prog 189 (lex_Runes s) [.str s] [] Iw N0 := by
 refine Az [.tmp 2] Tryz.func189 R R R fun r hm=>?_
 unfold lex_Runes at hm
 refine Af tbk [] R R<|Af tbk [] R R<|Ag<|Ae<|Aa R R (Ai R)<|Ad R R<|VO.range Av R fun b=>Ac<|B1 hm (fun n32 (_:Unit)=>[(3,Iw n32)]) (fun _ (_:Unit)=>[]) (fun o hm h3=>?_) fun n32 _ hm=> ?_
 ·refine B8 (fun zn (zs:Int × Nat)=>lex_Runes.l1 s zn zs.1 zs.2) (fun zs (_:Unit)=>[(0,.str s),(3,Iw zs.1),(7,.ptr b 0)]) (fun zs (_:Unit)=>[.iter b s zs.2]) ((0 : Int),0) () (fun _=>R) hm (Ah [0] R R) fun n4=>Pq fun n2 pos2 _ hm=> ?_
  rw [lex_Runes.l1] at hm
  exact Ae<|Ad R R<|VO.nx hm 0 R R (fun h4 hm=>Aa R R (Dw R R)<|Ac<|Ag<|Bm R R<|Ak<|Au<|Af tbk [] R R<|Ag<|Ae<|Ab tbk [] 3 R R<|Ad R R<|Ax hm 0 R fn223 R (K8 _ _ _) fun r hm=>Aa R R (Ci R)<|Ac<|An hm R (fun h6 hm=>Af tbk [] R R<|have hm:=Lr hm h3;Rt1 hm R [] R R R) fun h6 hm=>Ak<|A9 tbk [] R R<|Ap ((IntKind.i64.wrap (n2 + (1 : Int))),(pos2 + (Utf8.decode s pos2).2)) () hm (Ah [0] R R)) fun h4 hm=>Aa R R (Dw R R)<|Ac<|Ag<|Bp R R<|A4<|Ar () hm (Ah [] R R)
 exact Af tbk [] R R<|Rt1 hm R [] R R R

/-! trireme/lex.Word -/
def lex_Word (s : ByteArray) : Option Bool :=
 (lex_head_lex_plain s).bind fun r =>
 (if ((r.2 && (r.1 == (s.size : Int))) && (decide (r.1 > 0))) = true then (lex_Runes s).bind fun r2 =>
 some (decide (r2 ≤ 64)) else some false).bind fun c =>
 some c
theorem K12 (s : ByteArray) : VS Tryz.prog 131 (lex_Word s) [.str s] [] .bool N0 := by
 refine Az [.tmp 2] Tryz.func131 R R R fun r hm=>?_
 unfold lex_Word at hm
 exact Af tbk [] R R<|Ae<|Aa R R (Ai R)<|Ad R R<|Ax hm 0 R fn187 R (K10 _) fun r hm=>Ab tbk [] 5 R R<|Ac<|Ae<|Ab tbk [] 2 R R<|Dg 5 16 11 R (fun h2 K' J=>Ab tbk [] 2 R R<|Bf R R R R R (Ca R Av)<|Ab tbk [] 2 R R<|J 4 R R R) (fun K' J=>Ab tbk [] 5 R R<|J 4 R R R)<|Aa R R (Ai R)<|Cd tbk [] 3 20 17 R R R R R<|Aa R R (Ai R)<|Bh hm 4 25 21 R (fun _ K' h4 J hm=>Bf R R R R R (Ai R)<|A8 R R R R R<|Ax hm 0 R fn189 R (K11 _) fun r2 hm=>Ab tbk [] 2 R R<|J 3 R R (Bj hm)) (fun _ K' h4 J hm=>Ab tbk [] 4 R R<|J 3 R R (Bj hm)) fun c hm=>Aa R R (Aj R)<|Ac<|Rt1 hm R [] R R R

/-! trireme/spec.between -/
def spec_between (n : Int) (low : Int) (high : Int) : Option Bool :=
 some ((decide (n ≥ low)) && (decide (n ≤ high)))
theorem K13 (n : Int) (low : Int) (high : Int) : VS Tryz.prog 134 (spec_between n low high) [Iw n, Iw low, Iw high] [] .bool N0 := by
 refine Az [.tmp 6] Tryz.func134 R R R fun r hm=>?_
 unfold spec_between at hm
 exact Af tbk [] R R<|Ae<|Ab tbk [] 4 R R<|Cd tbk [] 4 14 10 R R R R R<|Aa R R (Aj R)<|Ac<|Rt1 hm R [] R R R

/-! trireme/spec.maybe -/
def spec_maybe (s : ByteArray) : Option Bool :=
 (if (V.seq s (⟨#[]⟩ : ByteArray)) = true then some true else (lex_Word s).bind fun r =>
 some r).bind fun c =>
 some c
theorem K14 (s : ByteArray) : VS Tryz.prog 132 (spec_maybe s) [.str s] [] .bool N0 := by
 refine Az [.tmp 2] Tryz.func132 R R R fun r hm=>?_
 unfold spec_maybe at hm
 exact Af tbk [] R R<|Ae<|Ab tbk [] 3 R R<|Bh hm 3 8 5 R (fun _ K' h1 J hm=>Ab tbk [] 3 R R<|J 2 R R (Bj hm)) (fun _ K' h1 J hm=>Bf R R R R R (Ai R)<|A8 R R R R R<|Ax hm 0 R fn131 R (K12 _) fun r hm=>Aa R R (Bq false R R R)<|J 2 R R (Bj hm)) fun c hm=>Aa R R (Aj R)<|Ac<|Rt1 hm R [] R R R

/-! trireme/res.row -/
def res_row (a : T_api_Res) : Option Arr5_Int :=
 some (⟨a.Cpu, a.Mem, a.Disk, a.Pods, a.Dev⟩ : Arr5_Int)
theorem K15 (a : T_api_Res) : VS Tryz.prog 190 (res_row a) [T_api_Res.vv a] [] (fun r=>Arr5_Int.vv r) N0 := by
 refine Az [.cell 2 247] Tryz.func190 R R R fun r hm=>?_
 unfold res_row at hm
 exact Ae<|Ad R R<|Bi R R fun b=>Ad R R<|Aq z247 fun b2=>Ac<|Ae<|Ab tbk [1,1,1,1,1] 10 R R<|Aa R R (Bo pl247 R R)<|Ad R R<|Al (i:=0) R R R ld247 R R R<|Ac<|Rt0 hm R [] (.cons (.cell _ _ _ _ 0 _ _ _ _ R R ld247 R) .nil) R R

/-! trireme/res.Right -/
def res_Right.l1 (r : Arr5_Int) : Nat → Int → Option (Out Bool Unit)
 | 0, _ => none
 | n + 1, v2 =>
  if (decide (v2 < 5)) = true then
   (V.gl (Arr5_Int.l r) v2).bind fun x =>
   if ((decide (x < 0)) || (decide (x > 1125899906842624))) = true then
    some (Out.ret false)
   else
    res_Right.l1 r n (i64.wrap (v2 + 1))
  else
   some (Out.go ())
def res_Right (a : T_api_Res) : Option Bool :=
 (res_row a).bind fun r =>
 (res_Right.l1 r FU (0 : Int)).bind fun o =>
 o.on fun j =>
 some true
theorem K16 (a : T_api_Res) : VS Tryz.prog 133 (res_Right a) [T_api_Res.vv a] [] .bool N0 := by
 refine Az [.tmp 2] Tryz.func133 R R R fun r hm=>?_
 unfold res_Right at hm
 refine Ae<|Ad R R<|Bi R R fun b=>Aa R R (Aj R)<|Ac<|Ag<|Ae<|Ab tbk [0] 1 R R<|Ad R R<|Ax hm 0 R fn190 R (K15 _) fun r hm=>Aa R R (Ai R)<|Ac<|B1 hm (fun _ (_:Unit)=>[]) (fun _ (_:Unit)=>[]) (fun o hm h4=>?_) fun j _ hm=> ?_
 ·refine B8 (fun zn (zs:Int)=>res_Right.l1 r zn zs) (fun zs (_:Unit)=>[(6,Arr5_Int.vv r),(7,Iw zs)]) (fun _ (_:Unit)=>[]) _ () (fun _=>R) hm (Ah [] R R) fun n v2 _ hm=> ?_
  rw [res_Right.l1] at hm
  exact Af tbk [] R R<|Ag<|An hm R (fun h5 hm=>Ak<|Ag<|Au<|Ae<|Bd hm fun x h6 hm=>Aa R R (VP.indexG (f:=(VV.int .i64)) R R ar247 R ld3 h6)<|Aa R R (Aj R)<|Ac<|Ae<|Ab tbk [] 3 R R<|Cy tbk [] 3 15 12 R R R R R<|Ac<|An hm R (fun h8 hm=>Af tbk [] R R<|have hm:=Lr hm h4;Rt1 hm R [] R R R) fun h8 hm=>Ak<|A9 tbk [] R R<|Ap _ () hm (Ah [] R R)) fun h5 hm=>A4<|Ar () hm (Ah [] R R)
 exact Af tbk [] R R<|Rt1 hm R [] R R R

/-! trireme/labels.maybe -/
def labels_maybe (s : ByteArray) : Option Bool :=
 (if (V.seq s (⟨#[]⟩ : ByteArray)) = true then some true else (lex_Word s).bind fun r =>
 some r).bind fun c =>
 some c
theorem K17 (s : ByteArray) : VS Tryz.prog 185 (labels_maybe s) [.str s] [] .bool N0 := by
 refine Az [.tmp 2] Tryz.func185 R R R fun r hm=>?_
 unfold labels_maybe at hm
 exact Af tbk [] R R<|Ae<|Ab tbk [] 3 R R<|Bh hm 3 8 5 R (fun _ K' h1 J hm=>Ab tbk [] 3 R R<|J 2 R R (Bj hm)) (fun _ K' h1 J hm=>Bf R R R R R (Ai R)<|A8 R R R R R<|Ax hm 0 R fn131 R (K12 _) fun r hm=>Aa R R (Bq false R R R)<|J 2 R R (Bj hm)) fun c hm=>Aa R R (Aj R)<|Ac<|Rt1 hm R [] R R R

/-! trireme/labels.Right -/
def labels_Right.l1 (l : List T_api_Label) : List T_api_Label → Nat → (List (ByteArray × Int)) → Option (Out Bool Unit)
 | [], k, had2 => some (Out.go ())
 | x :: l2, k, had2 =>
  (if (decide (((V.mg (V.mp had2 x.Key (i64.wrap (((V.mg had2 x.Key).getD 0) + 1))) x.Key).getD 0) > 1)) = true then some true else (lex_Word x.Key).bind fun r =>
  some (!r)).bind fun c =>
  (if c = true then some true else (labels_maybe x.Val).bind fun r2 =>
  some (!r2)).bind fun c2 =>
  (if c2 = true then some true else (if (decide ((k : Int) > 0)) = true then (V.gl l (i64.wrap ((k : Int) - 1))).bind fun x2 =>
  some (!(V.slt x2.Key x.Key || V.seq x2.Key x.Key)) else some false).bind fun c3 =>
  some c3).bind fun c4 =>
  if c4 = true then
   some (Out.ret false)
  else
   labels_Right.l1 l l2 (k + 1) (V.mp had2 x.Key (i64.wrap (((V.mg had2 x.Key).getD 0) + 1)))
def labels_Right (l : List T_api_Label) : Option Bool :=
 (labels_Right.l1 l l 0 ([] : List (ByteArray × Int))).bind fun o =>
 o.on fun j =>
 some (decide ((l.length : Int) ≤ 16))
theorem K18 (l : List T_api_Label) : VS Tryz.prog 130 (labels_Right l) [L232 l] [] .bool N0 := by
 refine Az [.tmp 2] Tryz.func130 R R R fun r hm=>?_
 unfold labels_Right at hm
 refine Af tbk [] R R<|Ae<|Ad R R<|Db fun b=>Aa R R (Aj R)<|Ac<|Ag<|Ae<|Aa R R (Ai R)<|Aa R R (Ay T_api_Label.vv R B9)<|Aa R R (Ai R)<|Ac<|B7 0 R fun h4=>B1 hm (fun _ (_:Unit)=>[(0,L232 l)]) (fun _ (_:Unit)=>[]) (fun o hm h3=>?_) fun j _ hm=> ?_
 ·refine Cj (l) (fun zl zk (zs:List (ByteArray × Int))=>labels_Right.l1 l zl zk zs) (fun k _ (_:Unit)=>[(0,L232 l),(3,.map b),(7,L232 l),(8,Iw (l.length : Int)),(9,Iw (k : Int))]) (fun _ zs (_:Unit)=>[.map b (List.map (pf VV.str (VV.int .i64)) zs)]) _ () hm (Ah [0] R R) (fun k had2 _ hk hm=>?_) fun k x l2 had2 _ h5 hm=> ?_
  ·rw [labels_Right.l1] at hm
   exact Af tbk [] R R<|Ag<|Bp R (k_end hk)<|A4<|Ar () hm (Ah [] R R)
  rw [labels_Right.l1] at hm
  refine Af tbk [] R R<|Ag<|Bm R (k_lt h5)<|Ak<|Ag<|Au<|Ae<|Aa R R (Ai R)<|Aa R R (Cc T_api_Label.vv R R el24 h5)<|Aa R R (Bs R ld232 R)<|Ad R R<|Aq z232 fun b2=>Aa R R (Aj R)<|Ad R R<|Al (i:=0) R R R ld232 R R R<|Ac<|Ae<|Ab tbk [0] 3 R R<|Aa R R (Ct 1 (kf:=VV.str) (vf:=(VV.int .i64)) (l:=had2) (k:=x.Key) (z:=(0 : Int)) false mk9 B4 R R R zc3 R)<|Aa R R (Bl R R R)<|Ad R R<|Da 1 (kf:=VV.str) (vf:=(VV.int .i64)) (l:=had2) (k:=x.Key) (z:=(IntKind.i64.wrap (((V.mg had2 x.Key).getD (0 : Int)) + (1 : Int)))) mk9 B4 R R R R<|Ac<|Ag<|Bn 0 mixed<|A6 tbk [0,1,2] [0] (by kernel_rfl) R R R<|Ba 3 R R R (by kernel_rfl) (Ct 1 (kf:=VV.str) (vf:=(VV.int .i64)) (l:=(V.mp had2 x.Key (IntKind.i64.wrap (((V.mg had2 x.Key).getD (0 : Int)) + (1 : Int))))) (k:=x.Key) (z:=(0 : Int)) false mk9 B4 R R R zc3 R)<|A6 tbk [4,5] [] (by kernel_rfl) R R R<|Df hm [10,9,8,7,6,5,4,3,2,1,0] 29 24 R (fun _ K' h7 J hm=>A6 tbk [6,7,8,9,10] [] (by kernel_rfl) R R R<|J 4 R R (Bj hm)) (fun _ K' h7 J hm=>A6 tbk [6,7] [0] (by kernel_rfl) R R R<|Am 8 (by kernel_rfl)<|D2 R R R R R R<|Ax hm 0 R fn131 R (K12 _) fun r hm=>A6 tbk [9,10] [] (by kernel_rfl) R R R<|J 4 R R (Bj hm)) fun c hm=>Ba 11 R R R (by kernel_rfl) (Ai R)<|Df hm [16,15,14,13,12,11,10,9,8,7,6,5,4,3,2,1,0] 35 30 R (fun _ K' h10 J hm=>A6 tbk [12,13,14,15,16] [] (by kernel_rfl) R R R<|J 4 R R (Bj hm)) (fun _ K' h10 J hm=>A6 tbk [12,13] [0] (by kernel_rfl) R R R<|Am 14 (by kernel_rfl)<|D2 R R R R R R<|Ax hm 0 R fn185 R (K17 _) fun r2 hm=>A6 tbk [15,16] [] (by kernel_rfl) R R R<|J 4 R R (Bj hm)) fun c2 hm=>Ba 17 R R R (by kernel_rfl) (Ai R)<|Df hm [31,30,29,28,27,26,25,24,23,22,21,20,19,18,17,16,15,14,13,12,11,10,9,8,7,6,5,4,3,2,1,0] 50 36 R (fun _ K' h13 J hm=>A6 tbk [18,19,20,21,22,23,24,25,26,27,28,29,30,31] [] (by kernel_rfl) R R R<|J 13 R R (Bj hm)) (fun _ K' h13 J hm=>A6 tbk [18,19,20] [] (by kernel_rfl) R R R<|Df hm [30,29,28,27,26,25,24,23,22,21,20,19,18,17,16,15,14,13,12,11,10,9,8,7,6,5,4,3,2,1,0] 49 39 R (fun _ K' h14 J hm=>A6 tbk [21,22,23] [] (by kernel_rfl) R R R<|Bd hm fun x2 h15 hm=>Dl 24 R R R R R R (by kernel_rfl) (Br T_api_Label.vv R R el24 h15)<|A6 tbk [25,26,27,28,29,30] [0] (by kernel_rfl) R R R<|J 9 R R (Bj hm)) (fun _ K' h14 J hm=>A6 tbk [21,22,23,24,25,26,27,28,29,30] [] (by kernel_rfl) R R R<|J 9 R R (Bj hm)) fun c3 hm=>Ba 31 R R R (by kernel_rfl) (Bq false R R R)<|J 4 R R (Bj hm)) fun c4 hm=>A5 (by kernel_rfl)<|?_
  exact An hm R (fun h18 hm=>Af tbk [] R R<|have hm:=Lr hm h3;Rt1 hm R [] R R R) fun h18 hm=>Ak<|A9 tbk [] R R<|Ap _ () hm (Be [1] R ⟨R,R,R,R,congrArg some (k_next h5 h4),trivial⟩)
 exact Ae<|Aa R R (Ai R)<|Aa R R (Ay T_api_Label.vv R B9)<|Ab tbk [] 2 R R<|Ac<|Rt1 hm R [] R R R

/-! trireme/taints.maybe -/
def taints_maybe (s : ByteArray) : Option Bool :=
 (if (V.seq s (⟨#[]⟩ : ByteArray)) = true then some true else (lex_Word s).bind fun r =>
 some r).bind fun c =>
 some c
theorem K19 (s : ByteArray) : VS Tryz.prog 142 (taints_maybe s) [.str s] [] .bool N0 := by
 refine Az [.tmp 2] Tryz.func142 R R R fun r hm=>?_
 unfold taints_maybe at hm
 exact Af tbk [] R R<|Ae<|Ab tbk [] 3 R R<|Bh hm 3 8 5 R (fun _ K' h1 J hm=>Ab tbk [] 3 R R<|J 2 R R (Bj hm)) (fun _ K' h1 J hm=>Bf R R R R R (Ai R)<|A8 R R R R R<|Ax hm 0 R fn131 R (K12 _) fun r hm=>Aa R R (Bq false R R R)<|J 2 R R (Bj hm)) fun c hm=>Aa R R (Aj R)<|Ac<|Rt1 hm R [] R R R

/-! trireme/taints.known -/
def taints_known (effect : Int) : Option Bool :=
 some (((effect == 1) || (effect == 2)) || (effect == 3))
theorem K20 (effect : Int) : VS Tryz.prog 143 (taints_known effect) [Iw effect] [] .bool N0 := by
 refine Az [.tmp 2] Tryz.func143 R R R fun r hm=>?_
 unfold taints_known at hm
 exact Af tbk [] R R<|Ae<|Ab tbk [] 3 R R<|Cy tbk [] 3 8 5 R R R R R<|Aa R R (Ai R)<|Cy tbk [] 3 12 9 R R R R R<|Aa R R (Aj R)<|Ac<|Rt1 hm R [] R R R

/-! trireme/taints.like -/
def taints_like (x : T_api_Taint) : Option T_api_Taint :=
 some (⟨x.Key, (⟨#[]⟩ : ByteArray), x.Effect⟩ : T_api_Taint)
theorem K21 (x : T_api_Taint) : VS Tryz.prog 141 (taints_like x) [T_api_Taint.vv x] [] (fun r=>T_api_Taint.vv r) N0 := by
 refine Az [.cell 2 31] Tryz.func141 R R R fun r hm=>?_
 unfold taints_like at hm
 exact Ae<|Ad R R<|Bi R R fun b=>Ad R R<|Aq z31 fun b2=>Ac<|Ae<|Aa R R (C8 R fa31_1)<|Ad R R<|Al (i:=1) R R R ld9 R R R<|Ac<|Ae<|Ab tbk [1] 1 R R<|Ad R R<|Al (i:=0) R R R ld31 R R R<|Ac<|Rt0 hm R [] (.cons (.cell _ _ _ _ 0 _ _ _ _ R R ld31 R) .nil) R R

/-! trireme/taints.Right -/
def taints_Right.l2 (x : T_api_Taint) : List T_api_Taint → Nat → Option (Out (Out Bool Unit) Unit)
 | [], k2 => some (Out.go ())
 | x2 :: l3, k2 =>
  (taints_like x).bind fun r4 =>
  (taints_like x2).bind fun r5 =>
  if (((r4.Key == r5.Key) && ((r4.Val == r5.Val) && ((r4.Effect == r5.Effect) && true))) == true) = true then
   some (Out.ret (Out.ret false))
  else
   taints_Right.l2 x l3 (k2 + 1)
def taints_Right.l1 (l : List T_api_Taint) : List T_api_Taint → Nat → Option (Out Bool Unit)
 | [], k => some (Out.go ())
 | x :: l2, k =>
  (lex_Word x.Key).bind fun r =>
  (if (!r) = true then some true else (taints_maybe x.Val).bind fun r2 =>
  some (!r2)).bind fun c =>
  (if c = true then some true else (taints_known x.Effect).bind fun r3 =>
  some (!r3)).bind fun c2 =>
  if c2 = true then
   some (Out.ret false)
  else
   (V.sl l none (some (k : Int))).bind fun v =>
   (taints_Right.l2 x v 0).bind fun o2 =>
   o2.on fun j2 =>
   taints_Right.l1 l l2 (k + 1)
def taints_Right (l : List T_api_Taint) : Option Bool :=
 (taints_Right.l1 l l 0).bind fun o =>
 o.on fun j =>
 some (decide ((l.length : Int) ≤ 16))
theorem K22 (l : List T_api_Taint) : VS Tryz.prog 75 (taints_Right l) [L31 l] [] .bool N0 := by
 refine Az [.tmp 2] Tryz.func75 R R R fun r hm=>?_
 unfold taints_Right at hm
 refine Af tbk [] R R<|Ag<|Ae<|Aa R R (Ai R)<|Aa R R (Ay T_api_Taint.vv R Cn)<|Aa R R (Ai R)<|Ac<|B7 0 R fun h3=>B1 hm (fun _ (_:Unit)=>[(0,L31 l)]) (fun _ (_:Unit)=>[]) (fun o hm h2=>?_) fun j _ hm=> ?_
 ·refine Cj (l) (fun zl zk (zs:Unit)=>taints_Right.l1 l zl zk) (fun k _ (_:Unit)=>[(0,L31 l),(7,L31 l),(8,Iw (l.length : Int)),(9,Iw (k : Int))]) (fun _ _ (_:Unit)=>[]) () () hm (Ah [] R R) (fun k _ _ hk hm=>?_) fun k x l2 _ _ h4 hm=> ?_
  ·rw [taints_Right.l1] at hm
   exact Af tbk [] R R<|Ag<|Bp R (k_end hk)<|A4<|Ar () hm (Ah [] R R)
  rw [taints_Right.l1] at hm
  refine Af tbk [] R R<|Ag<|Bm R (k_lt h4)<|Ak<|Ag<|Au<|Ae<|Aa R R (Ai R)<|Aa R R (Cc T_api_Taint.vv R R el66 h4)<|Aa R R (Bs R ld31 R)<|Ad R R<|Aq z31 fun b=>Aa R R (Aj R)<|Ad R R<|Al (i:=0) R R R ld31 R R R<|Ac<|Ag<|Ae<|Ab tbk [0] 2 R R<|Ad R R<|Ax hm 0 R fn131 R (K12 _) fun r hm=>Ab tbk [] 2 R R<|Bh hm 5 23 18 R (fun _ K' h7 J hm=>Ab tbk [] 5 R R<|J 4 R R (Bj hm)) (fun _ K' h7 J hm=>Ab tbk [0] 2 R R<|A8 R R R R R<|Ax hm 0 R fn142 R (K19 _) fun r2 hm=>Ab tbk [] 2 R R<|J 4 R R (Bj hm)) fun c hm=>Aa R R (Ai R)<|Bh hm 5 29 24 R (fun _ K' h10 J hm=>Ab tbk [] 5 R R<|J 4 R R (Bj hm)) (fun _ K' h10 J hm=>Ab tbk [0] 2 R R<|A8 R R R R R<|Ax hm 0 R fn143 R (K20 _) fun r3 hm=>Ab tbk [] 2 R R<|J 4 R R (Bj hm)) fun c2 hm=>Ac<|An hm R (fun h13 hm=>Af tbk [] R R<|have hm:=Lr hm h2;Rt1 hm R [] R R R) fun h13 hm=>Ak<|Ae<|Ab tbk [] 2 R R<|Bd hm fun v h14 hm=>Aa R R (Dq R R R el66 h14)<|Aa R R (Ay T_api_Taint.vv R Cn)<|Aa R R (Ai R)<|Ac<|B7 32 R fun h17=>B1 hm (fun _ (_:Unit)=>[(0,L31 l),(7,L31 l),(8,Iw (l.length : Int)),(9,Iw (k : Int))]) (fun _ (_:Unit)=>[]) (fun o2 hm h16=>?_) fun j2 _ hm=> ?_
  ·refine Cj (v) (fun zl zk (zs:Unit)=>taints_Right.l2 x zl zk) (fun k2 _ (_:Unit)=>[(0,L31 l),(4,.ptr b 0),(7,L31 l),(8,Iw (l.length : Int)),(9,Iw (k : Int)),(32,L31 v),(33,Iw (v.length : Int)),(34,Iw (k2 : Int))]) (fun _ _ (_:Unit)=>[X31 b x]) () () hm (Ah [0] R R) (fun k2 _ _ hk hm=>?_) fun k2 x2 l3 _ _ h18 hm=> ?_
   ·rw [taints_Right.l2] at hm
    exact Af tbk [] R R<|Ag<|Bp R (k_end hk)<|A4<|Ar () hm (Ah [] R R)
   rw [taints_Right.l2] at hm
   refine Af tbk [] R R<|Ag<|Bm R (k_lt h18)<|Ak<|Ag<|Au<|Ae<|Aa R R (Cc T_api_Taint.vv R R el66 h18)<|Aa R R (Bs R ld31 R)<|Ad R R<|Aq z31 fun b2=>Ad R R<|Al (i:=0) R R R ld31 R R R<|Ac<|Ag<|Bn 0 mixed<|A6 tbk [0,2] [1,0] (by kernel_rfl) R R R<|Am 1 (by kernel_rfl)<|Bd hm fun r4 h20 hm=>Ao R R R<|Aw 0 R fn141 R (K21 x r4 h20) fun _ _ h24=> ?_
   obtain ⟨rfl,rfl⟩:=h24
   refine Am 3 (by kernel_rfl)<|Bd hm fun r5 h21 hm=>Ao R R R<|Aw 0 R fn141 R (K21 x2 r5 h21) fun _ _ h23=> ?_
   obtain ⟨rfl,rfl⟩:=h23
   exact Ba 4 R R R (by kernel_rfl) (VP.eqS shp31 eq31 R R R R)<|A5 (by kernel_rfl)<|An hm R (fun h22 hm=>Af tbk [] R R<|have hm:=Lr hm h16;have hm:=Lr hm h2;Rt1 hm R [] R R R) fun h22 hm=>Ak<|A9 tbk [] R R<|Ap () () hm (Be [1] R ⟨R,R,R,R,R,R,R,congrArg some (k_next h18 h17),trivial⟩)
  exact A9 tbk [] R R<|Ap () () hm (Be [] R ⟨R,R,R,congrArg some (k_next h4 h3),trivial⟩)
 exact Ae<|Aa R R (Ai R)<|Aa R R (Ay T_api_Taint.vv R Cn)<|Ab tbk [] 2 R R<|Ac<|Rt1 hm R [] R R R

/-! trireme/spec.RightMachine -/
def spec_RightMachine (m : T_api_Machine) : Option Bool :=
 (spec_maybe m.Name).bind fun r =>
 (if r = true then (spec_maybe m.Group).bind fun r2 =>
 some r2 else some false).bind fun c =>
 (if c = true then (res_Right m.Has).bind fun r3 =>
 some r3 else some false).bind fun c2 =>
 (if c2 = true then (labels_Right m.Labels).bind fun r4 =>
 some r4 else some false).bind fun c3 =>
 (if c3 = true then (taints_Right m.Taints).bind fun r5 =>
 some r5 else some false).bind fun c4 =>
 some c4
theorem K23 (m : T_api_Machine) : VS Tryz.prog 228 (spec_RightMachine m) [T_api_Machine.vv m] [] .bool N0 := by
 refine Az [.tmp 2] Tryz.func228 R R R fun r hm=>?_
 unfold spec_RightMachine at hm
 exact Ae<|Ad R R<|Bi R R fun b=>Aa R R (Aj R)<|Ac<|Ae<|Ab tbk [0] 2 R R<|Ad R R<|Ax hm 0 R fn132 R (K14 _) fun r hm=>Aa R R (Ai R)<|Bh hm 4 10 6 R (fun _ K' h3 J hm=>Ab tbk [0] 2 R R<|A8 R R R R R<|Ax hm 0 R fn132 R (K14 _) fun r2 hm=>Aa R R (Bq true R R R)<|J 3 R R (Bj hm)) (fun _ K' h3 J hm=>Ab tbk [] 4 R R<|J 3 R R (Bj hm)) fun c hm=>Aa R R (Ai R)<|Bh hm 4 15 11 R (fun _ K' h6 J hm=>Ab tbk [0] 2 R R<|A8 R R R R R<|Ax hm 0 R fn133 R (K16 _) fun r3 hm=>Aa R R (Bq true R R R)<|J 3 R R (Bj hm)) (fun _ K' h6 J hm=>Ab tbk [] 4 R R<|J 3 R R (Bj hm)) fun c2 hm=>Aa R R (Ai R)<|Bh hm 4 20 16 R (fun _ K' h9 J hm=>Ab tbk [0] 2 R R<|A8 R R R R R<|Ax hm 0 R fn130 R (K18 _) fun r4 hm=>Aa R R (Bq true R R R)<|J 3 R R (Bj hm)) (fun _ K' h9 J hm=>Ab tbk [] 4 R R<|J 3 R R (Bj hm)) fun c3 hm=>Aa R R (Ai R)<|Bh hm 4 25 21 R (fun _ K' h12 J hm=>Ab tbk [0] 2 R R<|A8 R R R R R<|Ax hm 0 R fn75 R (K22 _) fun r5 hm=>Aa R R (Bq true R R R)<|J 3 R R (Bj hm)) (fun _ K' h12 J hm=>Ab tbk [] 4 R R<|J 3 R R (Bj hm)) fun c4 hm=>Aa R R (Aj R)<|Ac<|Rt1 hm R [] R R R

/-! trireme/spec.RightGroup -/
def spec_RightGroup (g : T_api_Group) : Option Bool :=
 (lex_Word g.Name).bind fun r =>
 if ((((!r) || (!(V.seq g.Like.Name (⟨#[]⟩ : ByteArray)))) || (!(V.seq g.Like.Group g.Name))) || (!g.Like.Ready)) = true then
  some false
 else
  (spec_between g.Max 1 (200 : Int)).bind fun r2 =>
  (if (!r2) = true then some true else (spec_between g.Min 0 g.Max).bind fun r3 =>
  some (!r3)).bind fun c =>
  if c = true then
   some false
  else
   (spec_between g.Price 0 (1125899906842624 : Int)).bind fun r4 =>
   (if r4 = true then (spec_between g.Rank 0 (1000 : Int)).bind fun r5 =>
   some r5 else some false).bind fun c2 =>
   (if c2 = true then (spec_RightMachine g.Like).bind fun r6 =>
   some r6 else some false).bind fun c3 =>
   some c3
theorem K24 (g : T_api_Group) : VS Tryz.prog 200 (spec_RightGroup g) [T_api_Group.vv g] [] .bool N0 := by
 refine Az [.tmp 2] Tryz.func200 R R R fun r hm=>?_
 unfold spec_RightGroup at hm
 exact Ae<|Ad R R<|Bi R R fun b=>Aa R R (Aj R)<|Ac<|Ae<|Ab tbk [0] 2 R R<|Ad R R<|Aq z68 fun b2=>Ad R R<|Al (i:=0) R R R ld68 R R R<|Ac<|Ag<|Au<|Ae<|Ab tbk [1] 2 R R<|Ad R R<|Ax hm 0 R fn131 R (K12 _) fun r hm=>Ab tbk [] 2 R R<|Cy tbk [0] 4 15 11 R R R R R<|Aa R R (Ai R)<|Cy tbk [0,1] 6 22 16 R R R R R<|Aa R R (Ai R)<|Cy tbk [0] 4 27 23 R R R R R<|Aa R R (Aj R)<|Ac<|An hm R (fun h7 hm=>Af tbk [] R R<|Rt1 hm R [] R R R) fun h7 hm=>Ae<|Ab tbk [1] 2 R R<|Ad R R<|Ax hm 0 R fn134 R (K13 _ _ _) fun r2 hm=>Ab tbk [] 2 R R<|Bh hm 7 40 33 R (fun _ K' h9 J hm=>Ab tbk [] 7 R R<|J 6 R R (Bj hm)) (fun _ K' h9 J hm=>Ab tbk [1,1] 4 R R<|A8 R R R R R<|Ax hm 0 R fn134 R (K13 _ _ _) fun r3 hm=>Ab tbk [] 2 R R<|J 6 R R (Bj hm)) fun c hm=>Aa R R (Aj R)<|Ac<|An hm R (fun h12 hm=>Af tbk [] R R<|Rt1 hm R [] R R R) fun h12 hm=>Ak<|Ae<|Ab tbk [1] 2 R R<|Ad R R<|Ax hm 0 R fn134 R (K13 _ _ _) fun r4 hm=>Aa R R (Ai R)<|Bh hm 4 48 44 R (fun _ K' h14 J hm=>Ab tbk [1] 2 R R<|A8 R R R R R<|Ax hm 0 R fn134 R (K13 _ _ _) fun r5 hm=>Aa R R (Bq true R R R)<|J 3 R R (Bj hm)) (fun _ K' h14 J hm=>Ab tbk [] 4 R R<|J 3 R R (Bj hm)) fun c2 hm=>Aa R R (Ai R)<|Bh hm 3 52 49 R (fun _ K' h17 J hm=>Ab tbk [0] 1 R R<|A8 R R R R R<|Ax hm 0 R fn228 R (K23 _) fun r6 hm=>Aa R R (Bq true R R R)<|J 2 R R (Bj hm)) (fun _ K' h17 J hm=>Ab tbk [] 3 R R<|J 2 R R (Bj hm)) fun c3 hm=>Aa R R (Aj R)<|Ac<|Rt1 hm R [] R R R

/-! trireme/group.Find -/
def group_Find.l1 (name : ByteArray) : List T_api_Group → Nat → Option (Out Int Unit)
 | [], k => some (Out.go ())
 | x :: l2, k =>
  if (V.seq x.Name name) = true then
   some (Out.ret (k : Int))
  else
   group_Find.l1 name l2 (k + 1)
def group_Find (l : List T_api_Group) (name : ByteArray) : Option Int :=
 (group_Find.l1 name l 0).bind fun o =>
 o.on fun j =>
 some (-1)
theorem K25 (l : List T_api_Group) (name : ByteArray) : VS Tryz.prog 124 (group_Find l name) [L139 l, .str name] [] Iw N0 := by
 refine Az [.tmp 4] Tryz.func124 R R R fun r hm=>?_
 unfold group_Find at hm
 refine Af tbk [] R R<|Ag<|Ae<|Aa R R (Ai R)<|Aa R R (Ay T_api_Group.vv R Co)<|Aa R R (Ai R)<|Ac<|B7 7 R fun h3=>B1 hm (fun _ (_:Unit)=>[]) (fun _ (_:Unit)=>[]) (fun o hm h2=>?_) fun j _ hm=> ?_
 ·refine Cj (l) (fun zl zk (zs:Unit)=>group_Find.l1 name zl zk) (fun k _ (_:Unit)=>[(1,.str name),(7,L139 l),(8,Iw (l.length : Int)),(9,Iw (k : Int))]) (fun _ _ (_:Unit)=>[]) () () hm (Ah [] R R) (fun k _ _ hk hm=>?_) fun k x l2 _ _ h4 hm=> ?_
  ·rw [group_Find.l1] at hm
   exact Af tbk [] R R<|Ag<|Bp R (k_end hk)<|A4<|Ar () hm (Ah [] R R)
  rw [group_Find.l1] at hm
  exact Af tbk [] R R<|Ag<|Bm R (k_lt h4)<|Ak<|Ag<|Au<|Ae<|Aa R R (Ai R)<|Aa R R (Cc T_api_Group.vv R R el37 h4)<|Aa R R (Bs R ld139 R)<|Ad R R<|Aq z139 fun b=>Aa R R (Aj R)<|Ad R R<|Al (i:=0) R R R ld139 R R R<|Ac<|Af tbk [0] R R<|An hm R (fun h6 hm=>Af tbk [] R R<|have hm:=Lr hm h2;Rt1 hm R [] R R R) fun h6 hm=>Ak<|A9 tbk [] R R<|Ap () () hm (Be [] R ⟨R,R,R,congrArg some (k_next h4 h3),trivial⟩)
 exact Af tbk [] R R<|Rt1 hm R [] R R R

/-! trireme/group.Right -/
def group_Right.l1 (l : List T_api_Group) : List T_api_Group → Nat → Option (Out Bool Unit)
 | [], k => some (Out.go ())
 | x :: l2, k =>
  (spec_RightGroup x).bind fun r =>
  (if ((!r) || (decide ((x.Name.size : Int) > 48))) = true then some true else (group_Find l x.Name).bind fun r2 =>
  some (r2 != (k : Int))).bind fun c =>
  if c = true then
   some (Out.ret false)
  else
   group_Right.l1 l l2 (k + 1)
def group_Right (l : List T_api_Group) : Option Bool :=
 (group_Right.l1 l l 0).bind fun o =>
 o.on fun j =>
 some (decide ((l.length : Int) ≤ 16))
theorem K26 (l : List T_api_Group) : VS Tryz.prog 158 (group_Right l) [L139 l] [] .bool N0 := by
 refine Az [.tmp 2] Tryz.func158 R R R fun r hm=>?_
 unfold group_Right at hm
 refine Af tbk [] R R<|Ag<|Ae<|Aa R R (Ai R)<|Aa R R (Ay T_api_Group.vv R Co)<|Aa R R (Ai R)<|Ac<|B7 0 R fun h3=>B1 hm (fun _ (_:Unit)=>[(0,L139 l)]) (fun _ (_:Unit)=>[]) (fun o hm h2=>?_) fun j _ hm=> ?_
 ·refine Cj (l) (fun zl zk (zs:Unit)=>group_Right.l1 l zl zk) (fun k _ (_:Unit)=>[(0,L139 l),(5,L139 l),(6,Iw (l.length : Int)),(7,Iw (k : Int))]) (fun _ _ (_:Unit)=>[]) () () hm (Ah [] R R) (fun k _ _ hk hm=>?_) fun k x l2 _ _ h4 hm=> ?_
  ·rw [group_Right.l1] at hm
   exact Af tbk [] R R<|Ag<|Bp R (k_end hk)<|A4<|Ar () hm (Ah [] R R)
  rw [group_Right.l1] at hm
  exact Af tbk [] R R<|Ag<|Bm R (k_lt h4)<|Ak<|Ag<|Au<|Ae<|Aa R R (Ai R)<|Aa R R (Cc T_api_Group.vv R R el37 h4)<|Aa R R (Bs R ld139 R)<|Ad R R<|Aq z139 fun b=>Aa R R (Aj R)<|Ad R R<|Al (i:=0) R R R ld139 R R R<|Ac<|Ae<|Ab tbk [0] 1 R R<|Ad R R<|Ax hm 0 R fn200 R (K24 _) fun r hm=>Ab tbk [] 2 R R<|C3 5 20 15 R (fun K' J=>Ab tbk [] 5 R R<|J 4 R R R) (fun h7 K' J=>Ab tbk [0] 2 R R<|Bf R R R R R (Ca R Av)<|Ab tbk [] 2 R R<|J 4 R R R)<|Aa R R (Ai R)<|Bh hm 7 28 21 R (fun _ K' h8 J hm=>Ab tbk [] 7 R R<|J 6 R R (Bj hm)) (fun _ K' h8 J hm=>Ab tbk [0] 3 R R<|A8 R R R R R<|Ax hm 0 R fn124 R (K25 _ _) fun r2 hm=>Ab tbk [] 3 R R<|J 6 R R (Bj hm)) fun c hm=>Ac<|An hm R (fun h11 hm=>Af tbk [] R R<|have hm:=Lr hm h2;Rt1 hm R [] R R R) fun h11 hm=>Ak<|A9 tbk [] R R<|Ap () () hm (Be [] R ⟨R,R,R,congrArg some (k_next h4 h3),trivial⟩)
 exact Ae<|Aa R R (Ai R)<|Aa R R (Ay T_api_Group.vv R Co)<|Ab tbk [] 2 R R<|Ac<|Rt1 hm R [] R R R

/-! trireme/group.decimal -/
def group_decimal : Nat → Int → Option ByteArray
 | 0, _ => none
 | nn + 1, n =>
  if (decide (n < 10)) = true then
   some (strOfNums [(IntKind.u8.wrap (i64.wrap (48 + n)))])
  else
   (V.quo n (10 : Int)).bind fun v =>
   (V.rem n (10 : Int)).bind fun v2 =>
   ((group_decimal nn) (i64.wrap v)).bind fun r =>
   (V.cat r (strOfNums [(IntKind.u8.wrap (i64.wrap (48 + v2)))])).bind fun v3 =>
   some v3
theorem K27 (nn : Nat) : ∀ (n : Int), VS Tryz.prog 179 (group_decimal nn n) [Iw n] [] .str N0 := by
 induction nn with
 | zero => intro n; exact VS.none (by rw [group_decimal])
 | succ nn ih =>
  intro n
  refine Az [.tmp 2] Tryz.func179 R R R fun r hm=>?_
  rw [group_decimal] at hm
  refine Af tbk [] R R<|Ag<|Af tbk [] R R<|An hm R (fun h1 hm=>Ae<|Ab tbk [] 2 R R<|Aa R R (C7 Cm Cg R)<|Ad R R<|Bc ap259 R R R R R fun b=>Bb (A7 0 [(8,L5 [(IntKind.u8.wrap (IntKind.i64.wrap ((48 : Int) + n)))])] R ⟨⟨_,R,.here _ R⟩,trivial⟩ (FzH.refl _))<|Aa R R (VP.convBL (l:=[(IntKind.u8.wrap (IntKind.i64.wrap ((48 : Int) + n)))]) el259 Cg Av R)<|Aa R R (Aj R)<|Ac<|Rt1 hm R [] R R R) fun h1 hm=>Ak<|Ag<|Bn 0 mixed<|Ba 0 R R R (by kernel_rfl) (Ai R)<|Bd hm fun v h3 hm=>Ba 1 R R R (by kernel_rfl) (VP.quoT R R h3)<|Ba 3 R R R (by kernel_rfl) (Ai R)<|Bd hm fun v2 h4 hm=>Ba 4 R R R (by kernel_rfl) (VP.remT R R h4)<|Ba 5 R R R (by kernel_rfl) (Bl R R R)<|Ba 6 R R R (by kernel_rfl) (C7 Cm Cg R)<|?_
  refine B3 [2,7] (by kernel_rfl) ⟨?_,?_,trivial⟩
  ·refine Bd hm fun r h5 hm=>Ao R R R<|Aw 0 R fn179 R (ih (IntKind.i64.wrap v) r h5) fun _ _ h8=> ?_
   obtain ⟨rfl,rfl⟩:=h8
   exact Am 7 (by kernel_rfl)<|Ao R R R<|Bc ap259 R R R R R fun b2=>Dr (A7 0 [(17,L5 [(IntKind.u8.wrap (IntKind.i64.wrap ((48 : Int) + v2)))])] R ⟨⟨_,R,.here _ R⟩,trivial⟩ (FzH.refl _))<|Ba 8 R R R (by kernel_rfl) (VP.convBL (l:=[(IntKind.u8.wrap (IntKind.i64.wrap ((48 : Int) + v2)))]) el259 Cg Av R)<|Bd hm fun v3 h7 hm=>Ba 9 R R R (by kernel_rfl) (D3 R R h7)<|Ba 10 R R R (by kernel_rfl) (Aj R)<|A5 (by kernel_rfl)<|Rt1 hm R [] R R R
  ·refine Ao R R R<|Bc ap259 R R R R R fun b3=>Dr (A7 0 [(17,L5 [(IntKind.u8.wrap (IntKind.i64.wrap ((48 : Int) + v2)))])] R ⟨⟨_,R,.here _ R⟩,trivial⟩ (FzH.refl _))<|Ba 8 R R R (by kernel_rfl) (VP.convBL (l:=[(IntKind.u8.wrap (IntKind.i64.wrap ((48 : Int) + v2)))]) el259 Cg Av R)<|Am 2 (by kernel_rfl)<|Bd hm fun r2 h10 hm=>Ao R R R<|Aw 0 R fn179 R (ih (IntKind.i64.wrap v) r2 h10) fun _ _ h12=> ?_
   obtain ⟨rfl,rfl⟩:=h12
   exact Bd hm fun v4 h11 hm=>Ba 9 R R R (by kernel_rfl) (D3 R R h11)<|Ba 10 R R R (by kernel_rfl) (Aj R)<|A5 (by kernel_rfl)<|Rt1 hm R [] R R R

/-! trireme/group.Machine -/
def group_Machine (g : T_api_Group) (n : Int) : Option T_api_Machine :=
 if ((decide (n < 1)) || (decide (n > 999999999))) = true then
  some (⟨(⟨#[]⟩ : ByteArray), (⟨#[]⟩ : ByteArray), (⟨0, 0, 0, 0, 0⟩ : T_api_Res), ([] : List T_api_Label), ([] : List T_api_Taint), false⟩ : T_api_Machine)
 else
  (V.cat g.Name (⟨#[45]⟩ : ByteArray)).bind fun v =>
  (group_decimal FU n).bind fun r =>
  (V.cat v r).bind fun v2 =>
  (V.ap 32 ([] : List T_api_Label) g.Like.Labels).bind fun l =>
  (V.ap 40 ([] : List T_api_Taint) g.Like.Taints).bind fun l2 =>
  some (⟨v2, g.Like.Group, g.Like.Has, l, l2, g.Like.Ready⟩ : T_api_Machine)
theorem K28 (g : T_api_Group) (n : Int) : VS Tryz.prog 125 (group_Machine g n) [T_api_Group.vv g, Iw n] [] (fun r=>T_api_Machine.vv r) N0 := by
 refine Az [.cell 4 68] Tryz.func125 R R R fun r hm=>?_
 unfold group_Machine at hm
 refine Ae<|Ad R R<|Bi R R fun b=>Ad R R<|Aq z68 fun b2=>Ac<|Ag<|Ae<|Ab tbk [] 3 R R<|Cy tbk [] 3 11 8 R R R R R<|Ac<|An hm R (fun h4 hm=>Ae<|Aa R R (Bo pl68 R R)<|Ad R R<|Al (i:=0) R R R ld68 R R R<|Ac<|Bw (Bk 232)<|Bw (A7 (H':=[.box b2 68 [.str (⟨#[]⟩ : ByteArray),.str (⟨#[]⟩ : ByteArray),Iw (0 : Int),Iw (0 : Int),Iw (0 : Int),Iw (0 : Int),Iw (0 : Int),L232 ([] : List T_api_Label),.sl none 0 0,.bool false],X139 b g]) 0 [] R trivial ⟨.box _ _ _ _ ⟨.same _,.same _,.same _,.same _,.same _,.same _,.same _,.here _ R,.same _,.same _,trivial⟩,.same _,trivial⟩)<|Bw (Bk 31)<|Bw (A7 (H':=[X68 b2 (⟨(⟨#[]⟩ : ByteArray),(⟨#[]⟩ : ByteArray),(⟨(0 : Int),(0 : Int),(0 : Int),(0 : Int),(0 : Int)⟩ : T_api_Res),([] : List T_api_Label),([] : List T_api_Taint),false⟩ : T_api_Machine),X139 b g]) 0 [] R trivial ⟨.box _ _ _ _ ⟨.same _,.same _,.same _,.same _,.same _,.same _,.same _,.same _,.here _ R,.same _,trivial⟩,.same _,trivial⟩)<|Rt0 hm R [] (.cons (.cell _ _ _ _ 0 _ _ _ _ R R ld68 R) .nil) R R) fun h4 hm=>Ak<|Ae<|Ab tbk [1] 2 R R<|Ad R R<|Aq z68 fun b3=>Ad R R<|Al (i:=0) R R R ld68 R R R<|Ac<|Ag<|Bn 1 mixed<|A6 tbk [0,1] [1] (by kernel_rfl) R R R<|Bd hm fun v h6 hm=>Ba 2 R R R (by kernel_rfl) (D3 R R h6)<|Ba 3 R R R (by kernel_rfl) (Ai R)<|Am 4 (by kernel_rfl)<|Bd hm fun r h7 hm=>Ao R R R<|Aw 0 R fn179 R (K27 FU n r h7) fun _ _ h13=> ?_
 obtain ⟨rfl,rfl⟩:=h13
 exact Bd hm fun v2 h8 hm=>Ba 5 R R R (by kernel_rfl) (D3 R R h8)<|Ba 6 R R R (by kernel_rfl) (C8 R fa68_0)<|Am 7 (by kernel_rfl)<|Ao R R R<|Al (i:=0) R R R ld9 R R R<|A5 (by kernel_rfl)<|Ae<|Ab tbk [0] 2 R R<|Bb (Bk 232)<|Bd hm fun l h10 hm=>Ad R R<|Bv 0 T_api_Label.vv (l:=([] : List T_api_Label)) (l2:=g.Like.Labels) ap24 R R (sT_list T_api_Label.vv el24 R R) h10 fun ob cap=>Aa R R (C8 R fa68_3)<|Ad R R<|Al (i:=1) R R R ld24 R R R<|Ac<|Ae<|Ab tbk [1] 2 R R<|Bb (Bk 31)<|Bd hm fun l2 h12 hm=>Ad R R<|Bv 0 T_api_Taint.vv (l:=([] : List T_api_Taint)) (l2:=g.Like.Taints) ap66 R R (sT_list T_api_Taint.vv el66 R R) h12 fun ob2 cap2=>Aa R R (C8 R fa68_4)<|Ad R R<|Al (i:=2) R R R ld66 R R R<|Ac<|Ae<|Ab tbk [2] 1 R R<|Ad R R<|Al (i:=3) R R R ld68 R R R<|Ac<|Bw (A7 (H':=[Q31 ob2 cap2 l2,.box b3 68 [.str v2,.str g.Like.Group,Iw g.Like.Has.Cpu,Iw g.Like.Has.Mem,Iw g.Like.Has.Disk,Iw g.Like.Has.Pods,Iw g.Like.Has.Dev,L232 l,Z31 ob2 l2 cap2,.bool g.Like.Ready],.box b2 68 [.str v2,.str g.Like.Group,Iw g.Like.Has.Cpu,Iw g.Like.Has.Mem,Iw g.Like.Has.Disk,Iw g.Like.Has.Pods,Iw g.Like.Has.Dev,L232 l,Z31 ob2 l2 cap2,.bool g.Like.Ready],X139 b g]) 1 [(24,L232 l),(30,.agg [.str v2,.str g.Like.Group,Iw g.Like.Has.Cpu,Iw g.Like.Has.Mem,Iw g.Like.Has.Disk,Iw g.Like.Has.Pods,Iw g.Like.Has.Dev,L232 l,Z31 ob2 l2 cap2,.bool g.Like.Ready])] R ⟨⟨_,R,.here _ R⟩,⟨_,R,.aggL ⟨.same _,.same _,.same _,.same _,.same _,.same _,.same _,.here _ R,.same _,.same _,trivial⟩⟩,trivial⟩ ⟨.same _,.box _ _ _ _ ⟨.same _,.same _,.same _,.same _,.same _,.same _,.same _,.here _ R,.same _,.same _,trivial⟩,.box _ _ _ _ ⟨.same _,.same _,.same _,.same _,.same _,.same _,.same _,.here _ R,.same _,.same _,trivial⟩,.same _,trivial⟩)<|Bw (A7 (H':=[X68 b3 (⟨v2,g.Like.Group,g.Like.Has,l,l2,g.Like.Ready⟩ : T_api_Machine),X68 b2 (⟨v2,g.Like.Group,g.Like.Has,l,l2,g.Like.Ready⟩ : T_api_Machine),X139 b g]) 0 [(28,L31 l2),(30,T_api_Machine.vv (⟨v2,g.Like.Group,g.Like.Has,l,l2,g.Like.Ready⟩ : T_api_Machine))] R ⟨⟨_,R,.here _ R⟩,⟨_,R,.aggL ⟨.same _,.same _,.same _,.same _,.same _,.same _,.same _,.same _,.here _ R,.same _,trivial⟩⟩,trivial⟩ ⟨.box _ _ _ _ ⟨.same _,.same _,.same _,.same _,.same _,.same _,.same _,.same _,.here _ R,.same _,trivial⟩,.box _ _ _ _ ⟨.same _,.same _,.same _,.same _,.same _,.same _,.same _,.same _,.here _ R,.same _,trivial⟩,.same _,trivial⟩)<|Rt0 hm R [] (.cons (.cell _ _ _ _ 1 _ _ _ _ R R ld68 R) .nil) R R

/-! (*trireme/cloud.Cloud).more -/
def cloud_Cloud_more.l1 (p : Nat) (n : Int) (in_ : I_cloud_state) : Nat → T_cloud_Cloud → Int → (List T_cloud_pool) → (List T_cloud_inst) → Option (T_cloud_Cloud × List T_cloud_pool × List T_cloud_inst)
 | 0, _, _, _, _ => none
 | n2 + 1, c3, v2, ps2, xs2 =>
  if (decide (v2 < n)) = true then
   (V.pg ps2 p).bind fun x2 =>
   (V.pg ps2 p).bind fun x3 =>
   (V.pg (V.pst ps2 p (⟨x3.Group, x3.target, (i64.wrap (x2.last + 1)), x3.broken⟩ : T_cloud_pool)) p).bind fun x4 =>
   (V.pg (V.pst ps2 p (⟨x3.Group, x3.target, (i64.wrap (x2.last + 1)), x3.broken⟩ : T_cloud_pool)) p).bind fun x5 =>
   (group_Machine x4.Group x5.last).bind fun r =>
   (V.ap 8 c3.insts [(xs2.length + 1)]).bind fun l2 =>
   cloud_Cloud_more.l1 p n in_ n2 (⟨c3.pools, l2, c3.delay, c3.now, c3.calls⟩ : T_cloud_Cloud) (i64.wrap (v2 + 1)) (V.pst ps2 p (⟨x3.Group, x3.target, (i64.wrap (x2.last + 1)), x3.broken⟩ : T_cloud_pool)) (xs2 ++ [(⟨r.Name, p, c3.now, in_⟩ : T_cloud_inst)])
  else
   some (c3, ps2, xs2)
def cloud_Cloud_more (c : T_cloud_Cloud) (p : Nat) (n : Int) (in_ : I_cloud_state) (pools : List T_cloud_pool) (insts : List T_cloud_inst) : Option (T_cloud_Cloud × List T_cloud_pool × List T_cloud_inst) :=
 (cloud_Cloud_more.l1 p n in_ FU c 0 pools insts).bind fun j =>
 some (j.1, j.2.1, j.2.2)
theorem K29 (A0 A1 : Nat) (c : T_cloud_Cloud) (p : Nat) (n : Int) (in_ : I_cloud_state) (pools : List T_cloud_pool) (insts : List T_cloud_inst) (b : Nat) (ob : Option Nat) (cap : Nat) (ob2 : Option Nat) (cap2 : Nat) (bs : List Nat) (bs2 : List Nat) : ∀ r : T_cloud_Cloud × List T_cloud_pool × List T_cloud_inst, cloud_Cloud_more c p n in_ pools insts = some r → VC Tryz.prog 82 [.ptr b 0, V.Pp A0 p, Iw n, I_cloud_state.vv in_] [.box b 149 [Z140 A0 A1 ob c.pools cap, Z152 A0 A1 ob2 c.insts cap2, Iw c.delay, Iw c.now, Iw c.calls], Q140 A0 A1 ob cap c.pools, Q152 A0 A1 ob2 cap2 c.insts, .ar A0 144 bs (List.map T_cloud_pool.cells pools), .ar A1 157 bs2 (List.map (T_cloud_inst.cells A0 A1) insts)] fun zx zH => ∃ (ob0_0 : Option Nat) (cap0_0 : Nat) (ob0_1 : Option Nat) (cap0_1 : Nat) (bs_1 : List Nat) (bs_2 : List Nat), zx = .tup [] ∧ zH = [.box b 149 [Z140 A0 A1 ob0_0 r.1.pools cap0_0, Z152 A0 A1 ob0_1 r.1.insts cap0_1, Iw r.1.delay, Iw r.1.now, Iw r.1.calls], Q140 A0 A1 ob0_0 cap0_0 r.1.pools, Q152 A0 A1 ob0_1 cap0_1 r.1.insts, .ar A0 144 bs_1 (List.map T_cloud_pool.cells r.2.1), .ar A1 157 bs_2 (List.map (T_cloud_inst.cells A0 A1) r.2.2)] := by
 refine Cw [] Tryz.func82 R R R fun r hm=>?_
 unfold cloud_Cloud_more at hm
 refine Af tbk [] R R<|Cf hm (fun _ (gg:Option Nat × Nat × List Nat)=>[]) (fun j (gg:Option Nat × Nat × List Nat)=>[.box b 149 [Z140 A0 A1 ob j.1.pools cap,Z152 A0 A1 gg.1 j.1.insts gg.2.1,Iw j.1.delay,Iw j.1.now,Iw j.1.calls],Q140 A0 A1 ob cap j.1.pools,Q152 A0 A1 gg.1 gg.2.1 j.1.insts,.ar A0 144 bs (List.map T_cloud_pool.cells j.2.1),.ar A1 157 gg.2.2 (List.map (T_cloud_inst.cells A0 A1) j.2.2)]) (fun o hm=>?_) fun j=>Pq fun ob5=>Pq fun cap5 bs5 hm=> ?_
 ·refine B8 (fun zn (zs:T_cloud_Cloud × Int × List T_cloud_pool × List T_cloud_inst)=>cloud_Cloud_more.l1 p n in_ zn zs.1 zs.2.1 zs.2.2.1 zs.2.2.2) (fun zs (_:Option Nat × Nat × List Nat)=>[(0,.ptr b 0),(1,V.Pp A0 p),(3,I_cloud_state.vv in_),(8,Iw n),(9,Iw zs.2.1)]) (fun zs (zg:Option Nat × Nat × List Nat)=>[.box b 149 [Z140 A0 A1 ob zs.1.pools cap,Z152 A0 A1 zg.1 zs.1.insts zg.2.1,Iw zs.1.delay,Iw zs.1.now,Iw zs.1.calls],Q140 A0 A1 ob cap zs.1.pools,Q152 A0 A1 zg.1 zg.2.1 zs.1.insts,.ar A0 144 bs (List.map T_cloud_pool.cells zs.2.2.1),.ar A1 157 zg.2.2 (List.map (T_cloud_inst.cells A0 A1) zs.2.2.2)]) (c,(0 : Int),pools,insts) (ob2,cap2,bs2) (fun _=>R) hm (Ah [0,1,2,3,4] R R) fun n2=>Pq fun c3=>Pq fun v2=>Pq fun ps2 xs2=>Pq fun ob4=>Pq fun cap4 bs4 hm=> ?_
  rw [cloud_Cloud_more.l1] at hm
  refine Af tbk [] R R<|Ag<|An hm R (fun h3 hm=>?_) fun h3 hm=> ?_
  ·refine Ak<|Ag<|Au<|Ae<|Aa R R (Ai R)<|Bd hm fun x2 h4 hm=>Aa R R (Bt R h4)<|Aa R R (B0 R h4 fa144_2)<|Aa R R (Ce 3 (f:=T_cloud_pool.cells) (y:=x2) R R h4 ld3 R)<|Aa R R (Bl R R R)<|Bd hm fun x3 h5 hm=>Aa R R (Bt R h5)<|Aa R R (B0 R h5 fa144_2)<|Ad R R<|Dh 3 (f:=T_cloud_pool.cells) (u:=x3) (u':=(⟨x3.Group,x3.target,(IntKind.i64.wrap (x2.last + (1 : Int))),x3.broken⟩ : T_cloud_pool)) R R R h5 ld3 R R R R<|Ac<|Bw (Bg [0,2,4,1,3] R)<|Bn 3 mixed<|A6 tbk [0,1,2,3,5] [] (by kernel_rfl) R R R<|Bd hm fun x4 h6 hm=>Ba 6 R R R (by kernel_rfl) (Bt R h6)<|Ba 7 R R R (by kernel_rfl) (B0 R h6 fa144_0)<|Ba 8 R R R (by kernel_rfl) (Ce 1 (f:=T_cloud_pool.cells) (y:=x4) R R h6 ld139 R)<|Ba 9 R R R (by kernel_rfl) (Ai R)<|Bd hm fun x5 h7 hm=>Ba 10 R R R (by kernel_rfl) (Bt R h7)<|Ba 11 R R R (by kernel_rfl) (B0 R h7 fa144_2)<|Ba 12 R R R (by kernel_rfl) (Ce 1 (f:=T_cloud_pool.cells) (y:=x5) R R h7 ld3 R)<|A6 tbk [15,16,17,18,20] [] (by kernel_rfl) R R R<|?_
   refine B3 [4,13,19] (by kernel_rfl) ⟨?_,?_,?_,trivial⟩
   ·refine Ao R R R<|Cb (B6 (i:=0) R R ld147 R)<|?_
    refine B3 [13,19] (by kernel_rfl) ⟨?_,?_,trivial⟩
    ·refine Bd hm fun r h8 hm=>Ao R R R<|Aw 0 R fn125 R (K28 x4.Group x5.last r h8) fun _ _ h11=> ?_
     obtain ⟨rfl,rfl⟩:=h11
     exact Ba 14 R R R (by kernel_rfl) (Dx R fd68_0 R)<|Am 19 (by kernel_rfl)<|Ao R R R<|Cb (B6 (i:=0) R R ld3 R)<|Ba 21 R R R (by kernel_rfl) (Bo pl157 R R)<|Am 22 (by kernel_rfl)<|Ao R R R<|Di 2 (f:=(T_cloud_inst.cells A0 A1)) (l:=xs2) (y:=(⟨r.Name,p,c3.now,in_⟩ : T_cloud_inst)) R R R R fun b2=>Am 23 (by kernel_rfl)<|Ao R R R<|Bc ap147 R R R R R fun b3=>Am 24 (by kernel_rfl)<|Bd hm fun l2 h10 hm=>Ao R R R<|Bv 2 (V.Pp A1) (l:=c3.insts) (l2:=[(xs2.length + 1)]) ap147 R R (sT_row 0 (V.Pp A1) el147 R R) h10 fun ob6 cap6=>A6 tbk [25,26] [] (by kernel_rfl) R R R<|Am 27 (by kernel_rfl)<|Ao R R R<|Al (i:=1) R R R ld147 R R R<|A5 (by kernel_rfl)<|A9 tbk [] R R<|Ap ((⟨c3.pools,l2,c3.delay,c3.now,c3.calls⟩ : T_cloud_Cloud),(IntKind.i64.wrap (v2 + (1 : Int))),(V.pst ps2 p (⟨x3.Group,x3.target,(IntKind.i64.wrap (x2.last + (1 : Int))),x3.broken⟩ : T_cloud_pool)),(xs2 ++ [(⟨r.Name,p,c3.now,in_⟩ : T_cloud_inst)])) (ob6,cap6,(bs4 ++ [b2])) hm (Ah [1,4,2,5,3] R R)
    ·refine Ao R R R<|Cb (B6 (i:=0) R R ld3 R)<|Am 13 (by kernel_rfl)<|Bd hm fun r2 h12 hm=>Ao R R R<|Aw 0 R fn125 R (K28 x4.Group x5.last r2 h12) fun _ _ h15=> ?_
     obtain ⟨rfl,rfl⟩:=h15
     exact Ba 14 R R R (by kernel_rfl) (Dx R fd68_0 R)<|Ba 21 R R R (by kernel_rfl) (Bo pl157 R R)<|Am 22 (by kernel_rfl)<|Ao R R R<|Di 2 (f:=(T_cloud_inst.cells A0 A1)) (l:=xs2) (y:=(⟨r2.Name,p,c3.now,in_⟩ : T_cloud_inst)) R R R R fun b4=>Am 23 (by kernel_rfl)<|Ao R R R<|Bc ap147 R R R R R fun b5=>Am 24 (by kernel_rfl)<|Bd hm fun l3 h14 hm=>Ao R R R<|Bv 2 (V.Pp A1) (l:=c3.insts) (l2:=[(xs2.length + 1)]) ap147 R R (sT_row 0 (V.Pp A1) el147 R R) h14 fun ob7 cap7=>A6 tbk [25,26] [] (by kernel_rfl) R R R<|Am 27 (by kernel_rfl)<|Ao R R R<|Al (i:=1) R R R ld147 R R R<|A5 (by kernel_rfl)<|A9 tbk [] R R<|Ap ((⟨c3.pools,l3,c3.delay,c3.now,c3.calls⟩ : T_cloud_Cloud),(IntKind.i64.wrap (v2 + (1 : Int))),(V.pst ps2 p (⟨x3.Group,x3.target,(IntKind.i64.wrap (x2.last + (1 : Int))),x3.broken⟩ : T_cloud_pool)),(xs2 ++ [(⟨r2.Name,p,c3.now,in_⟩ : T_cloud_inst)])) (ob7,cap7,(bs4 ++ [b4])) hm (Ah [1,4,2,5,3] R R)
   ·refine Bd hm fun r3 h16 hm=>Ao R R R<|Aw 0 R fn125 R (K28 x4.Group x5.last r3 h16) fun _ _ h25=> ?_
    obtain ⟨rfl,rfl⟩:=h25
    refine Ba 14 R R R (by kernel_rfl) (Dx R fd68_0 R)<|?_
    refine B3 [4,19] (by kernel_rfl) ⟨?_,?_,trivial⟩
    ·exact Ao R R R<|Cb (B6 (i:=0) R R ld147 R)<|Am 19 (by kernel_rfl)<|Ao R R R<|Cb (B6 (i:=0) R R ld3 R)<|Ba 21 R R R (by kernel_rfl) (Bo pl157 R R)<|Am 22 (by kernel_rfl)<|Ao R R R<|Di 2 (f:=(T_cloud_inst.cells A0 A1)) (l:=xs2) (y:=(⟨r3.Name,p,c3.now,in_⟩ : T_cloud_inst)) R R R R fun b6=>Am 23 (by kernel_rfl)<|Ao R R R<|Bc ap147 R R R R R fun b7=>Am 24 (by kernel_rfl)<|Bd hm fun l4 h18 hm=>Ao R R R<|Bv 2 (V.Pp A1) (l:=c3.insts) (l2:=[(xs2.length + 1)]) ap147 R R (sT_row 0 (V.Pp A1) el147 R R) h18 fun ob8 cap8=>A6 tbk [25,26] [] (by kernel_rfl) R R R<|Am 27 (by kernel_rfl)<|Ao R R R<|Al (i:=1) R R R ld147 R R R<|A5 (by kernel_rfl)<|A9 tbk [] R R<|Ap ((⟨c3.pools,l4,c3.delay,c3.now,c3.calls⟩ : T_cloud_Cloud),(IntKind.i64.wrap (v2 + (1 : Int))),(V.pst ps2 p (⟨x3.Group,x3.target,(IntKind.i64.wrap (x2.last + (1 : Int))),x3.broken⟩ : T_cloud_pool)),(xs2 ++ [(⟨r3.Name,p,c3.now,in_⟩ : T_cloud_inst)])) (ob8,cap8,(bs4 ++ [b6])) hm (Ah [1,4,2,5,3] R R)
    ·refine Ao R R R<|Cb (B6 (i:=0) R R ld3 R)<|Ba 21 R R R (by kernel_rfl) (Bo pl157 R R)<|?_
     refine B3 [4,22] (by kernel_rfl) ⟨?_,?_,trivial⟩
     ·exact Ao R R R<|Cb (B6 (i:=0) R R ld147 R)<|Am 22 (by kernel_rfl)<|Ao R R R<|Di 2 (f:=(T_cloud_inst.cells A0 A1)) (l:=xs2) (y:=(⟨r3.Name,p,c3.now,in_⟩ : T_cloud_inst)) R R R R fun b8=>Am 23 (by kernel_rfl)<|Ao R R R<|Bc ap147 R R R R R fun b9=>Am 24 (by kernel_rfl)<|Bd hm fun l5 h20 hm=>Ao R R R<|Bv 2 (V.Pp A1) (l:=c3.insts) (l2:=[(xs2.length + 1)]) ap147 R R (sT_row 0 (V.Pp A1) el147 R R) h20 fun ob9 cap9=>A6 tbk [25,26] [] (by kernel_rfl) R R R<|Am 27 (by kernel_rfl)<|Ao R R R<|Al (i:=1) R R R ld147 R R R<|A5 (by kernel_rfl)<|A9 tbk [] R R<|Ap ((⟨c3.pools,l5,c3.delay,c3.now,c3.calls⟩ : T_cloud_Cloud),(IntKind.i64.wrap (v2 + (1 : Int))),(V.pst ps2 p (⟨x3.Group,x3.target,(IntKind.i64.wrap (x2.last + (1 : Int))),x3.broken⟩ : T_cloud_pool)),(xs2 ++ [(⟨r3.Name,p,c3.now,in_⟩ : T_cloud_inst)])) (ob9,cap9,(bs4 ++ [b8])) hm (Ah [1,4,2,5,3] R R)
     ·refine Ao R R R<|Di 2 (f:=(T_cloud_inst.cells A0 A1)) (l:=xs2) (y:=(⟨r3.Name,p,c3.now,in_⟩ : T_cloud_inst)) R R R R fun b10=> ?_
      refine B3 [4,23] (by kernel_rfl) ⟨?_,?_,trivial⟩
      ·exact Ao R R R<|Cb (B6 (i:=0) R R ld147 R)<|Am 23 (by kernel_rfl)<|Ao R R R<|Bc ap147 R R R R R fun b11=>Am 24 (by kernel_rfl)<|Bd hm fun l6 h22 hm=>Ao R R R<|Bv 2 (V.Pp A1) (l:=c3.insts) (l2:=[(xs2.length + 1)]) ap147 R R (sT_row 0 (V.Pp A1) el147 R R) h22 fun ob10 cap10=>A6 tbk [25,26] [] (by kernel_rfl) R R R<|Am 27 (by kernel_rfl)<|Ao R R R<|Al (i:=1) R R R ld147 R R R<|A5 (by kernel_rfl)<|A9 tbk [] R R<|Ap ((⟨c3.pools,l6,c3.delay,c3.now,c3.calls⟩ : T_cloud_Cloud),(IntKind.i64.wrap (v2 + (1 : Int))),(V.pst ps2 p (⟨x3.Group,x3.target,(IntKind.i64.wrap (x2.last + (1 : Int))),x3.broken⟩ : T_cloud_pool)),(xs2 ++ [(⟨r3.Name,p,c3.now,in_⟩ : T_cloud_inst)])) (ob10,cap10,(bs4 ++ [b10])) hm (Ah [1,4,2,5,3] R R)
      ·exact Ao R R R<|Bc ap147 R R R R R fun b12=>Am 4 (by kernel_rfl)<|Ao R R R<|Cb (B6 (i:=1) R R ld147 R)<|Am 24 (by kernel_rfl)<|Bd hm fun l7 h24 hm=>Ao R R R<|Bv 2 (V.Pp A1) (l:=c3.insts) (l2:=[(xs2.length + 1)]) ap147 R R (sT_row 0 (V.Pp A1) el147 R R) h24 fun ob11 cap11=>A6 tbk [25,26] [] (by kernel_rfl) R R R<|Am 27 (by kernel_rfl)<|Ao R R R<|Al (i:=1) R R R ld147 R R R<|A5 (by kernel_rfl)<|A9 tbk [] R R<|Ap ((⟨c3.pools,l7,c3.delay,c3.now,c3.calls⟩ : T_cloud_Cloud),(IntKind.i64.wrap (v2 + (1 : Int))),(V.pst ps2 p (⟨x3.Group,x3.target,(IntKind.i64.wrap (x2.last + (1 : Int))),x3.broken⟩ : T_cloud_pool)),(xs2 ++ [(⟨r3.Name,p,c3.now,in_⟩ : T_cloud_inst)])) (ob11,cap11,(bs4 ++ [b10])) hm (Ah [1,4,2,5,3] R R)
   ·refine Ao R R R<|Cb (B6 (i:=0) R R ld3 R)<|?_
    refine B3 [4,13] (by kernel_rfl) ⟨?_,?_,trivial⟩
    ·refine Ao R R R<|Cb (B6 (i:=0) R R ld147 R)<|Am 13 (by kernel_rfl)<|Bd hm fun r4 h26 hm=>Ao R R R<|Aw 0 R fn125 R (K28 x4.Group x5.last r4 h26) fun _ _ h29=> ?_
     obtain ⟨rfl,rfl⟩:=h29
     exact Ba 14 R R R (by kernel_rfl) (Dx R fd68_0 R)<|Ba 21 R R R (by kernel_rfl) (Bo pl157 R R)<|Am 22 (by kernel_rfl)<|Ao R R R<|Di 2 (f:=(T_cloud_inst.cells A0 A1)) (l:=xs2) (y:=(⟨r4.Name,p,c3.now,in_⟩ : T_cloud_inst)) R R R R fun b13=>Am 23 (by kernel_rfl)<|Ao R R R<|Bc ap147 R R R R R fun b14=>Am 24 (by kernel_rfl)<|Bd hm fun l8 h28 hm=>Ao R R R<|Bv 2 (V.Pp A1) (l:=c3.insts) (l2:=[(xs2.length + 1)]) ap147 R R (sT_row 0 (V.Pp A1) el147 R R) h28 fun ob12 cap12=>A6 tbk [25,26] [] (by kernel_rfl) R R R<|Am 27 (by kernel_rfl)<|Ao R R R<|Al (i:=1) R R R ld147 R R R<|A5 (by kernel_rfl)<|A9 tbk [] R R<|Ap ((⟨c3.pools,l8,c3.delay,c3.now,c3.calls⟩ : T_cloud_Cloud),(IntKind.i64.wrap (v2 + (1 : Int))),(V.pst ps2 p (⟨x3.Group,x3.target,(IntKind.i64.wrap (x2.last + (1 : Int))),x3.broken⟩ : T_cloud_pool)),(xs2 ++ [(⟨r4.Name,p,c3.now,in_⟩ : T_cloud_inst)])) (ob12,cap12,(bs4 ++ [b13])) hm (Ah [1,4,2,5,3] R R)
    ·refine Bd hm fun r5 h30 hm=>Ao R R R<|Aw 0 R fn125 R (K28 x4.Group x5.last r5 h30) fun _ _ h37=> ?_
     obtain ⟨rfl,rfl⟩:=h37
     refine Ba 14 R R R (by kernel_rfl) (Dx R fd68_0 R)<|Ba 21 R R R (by kernel_rfl) (Bo pl157 R R)<|?_
     refine B3 [4,22] (by kernel_rfl) ⟨?_,?_,trivial⟩
     ·exact Ao R R R<|Cb (B6 (i:=0) R R ld147 R)<|Am 22 (by kernel_rfl)<|Ao R R R<|Di 2 (f:=(T_cloud_inst.cells A0 A1)) (l:=xs2) (y:=(⟨r5.Name,p,c3.now,in_⟩ : T_cloud_inst)) R R R R fun b15=>Am 23 (by kernel_rfl)<|Ao R R R<|Bc ap147 R R R R R fun b16=>Am 24 (by kernel_rfl)<|Bd hm fun l9 h32 hm=>Ao R R R<|Bv 2 (V.Pp A1) (l:=c3.insts) (l2:=[(xs2.length + 1)]) ap147 R R (sT_row 0 (V.Pp A1) el147 R R) h32 fun ob13 cap13=>A6 tbk [25,26] [] (by kernel_rfl) R R R<|Am 27 (by kernel_rfl)<|Ao R R R<|Al (i:=1) R R R ld147 R R R<|A5 (by kernel_rfl)<|A9 tbk [] R R<|Ap ((⟨c3.pools,l9,c3.delay,c3.now,c3.calls⟩ : T_cloud_Cloud),(IntKind.i64.wrap (v2 + (1 : Int))),(V.pst ps2 p (⟨x3.Group,x3.target,(IntKind.i64.wrap (x2.last + (1 : Int))),x3.broken⟩ : T_cloud_pool)),(xs2 ++ [(⟨r5.Name,p,c3.now,in_⟩ : T_cloud_inst)])) (ob13,cap13,(bs4 ++ [b15])) hm (Ah [1,4,2,5,3] R R)
     ·refine Ao R R R<|Di 2 (f:=(T_cloud_inst.cells A0 A1)) (l:=xs2) (y:=(⟨r5.Name,p,c3.now,in_⟩ : T_cloud_inst)) R R R R fun b17=> ?_
      refine B3 [4,23] (by kernel_rfl) ⟨?_,?_,trivial⟩
      ·exact Ao R R R<|Cb (B6 (i:=0) R R ld147 R)<|Am 23 (by kernel_rfl)<|Ao R R R<|Bc ap147 R R R R R fun b18=>Am 24 (by kernel_rfl)<|Bd hm fun l10 h34 hm=>Ao R R R<|Bv 2 (V.Pp A1) (l:=c3.insts) (l2:=[(xs2.length + 1)]) ap147 R R (sT_row 0 (V.Pp A1) el147 R R) h34 fun ob14 cap14=>A6 tbk [25,26] [] (by kernel_rfl) R R R<|Am 27 (by kernel_rfl)<|Ao R R R<|Al (i:=1) R R R ld147 R R R<|A5 (by kernel_rfl)<|A9 tbk [] R R<|Ap ((⟨c3.pools,l10,c3.delay,c3.now,c3.calls⟩ : T_cloud_Cloud),(IntKind.i64.wrap (v2 + (1 : Int))),(V.pst ps2 p (⟨x3.Group,x3.target,(IntKind.i64.wrap (x2.last + (1 : Int))),x3.broken⟩ : T_cloud_pool)),(xs2 ++ [(⟨r5.Name,p,c3.now,in_⟩ : T_cloud_inst)])) (ob14,cap14,(bs4 ++ [b17])) hm (Ah [1,4,2,5,3] R R)
      ·exact Ao R R R<|Bc ap147 R R R R R fun b19=>Am 4 (by kernel_rfl)<|Ao R R R<|Cb (B6 (i:=1) R R ld147 R)<|Am 24 (by kernel_rfl)<|Bd hm fun l11 h36 hm=>Ao R R R<|Bv 2 (V.Pp A1) (l:=c3.insts) (l2:=[(xs2.length + 1)]) ap147 R R (sT_row 0 (V.Pp A1) el147 R R) h36 fun ob15 cap15=>A6 tbk [25,26] [] (by kernel_rfl) R R R<|Am 27 (by kernel_rfl)<|Ao R R R<|Al (i:=1) R R R ld147 R R R<|A5 (by kernel_rfl)<|A9 tbk [] R R<|Ap ((⟨c3.pools,l11,c3.delay,c3.now,c3.calls⟩ : T_cloud_Cloud),(IntKind.i64.wrap (v2 + (1 : Int))),(V.pst ps2 p (⟨x3.Group,x3.target,(IntKind.i64.wrap (x2.last + (1 : Int))),x3.broken⟩ : T_cloud_pool)),(xs2 ++ [(⟨r5.Name,p,c3.now,in_⟩ : T_cloud_inst)])) (ob15,cap15,(bs4 ++ [b17])) hm (Ah [1,4,2,5,3] R R)
  exact A4<|As (ob4,cap4,bs4) hm (Ah [0,1,2,3,4] R R)
 obtain rfl:=Option.some.inj hm
 exact ⟨.inr R,_,.nil,[0,1,2,3,4],_,R,ob,cap,ob5,cap5,bs,bs5,R,R⟩

/-! trireme/cloud.New -/
def cloud_New.l1 : List T_api_Group → Nat → T_cloud_Cloud → (List T_cloud_pool) → (List T_cloud_inst) → Option (T_cloud_Cloud × List T_cloud_pool × List T_cloud_inst)
 | [], k, c2, ps2, xs2 => some (c2, ps2, xs2)
 | x :: l2, k, c2, ps2, xs2 =>
  (V.ap 8 c2.pools [(ps2.length + 1)]).bind fun l3 =>
  (cloud_Cloud_more (⟨l3, c2.insts, c2.delay, c2.now, c2.calls⟩ : T_cloud_Cloud) (ps2.length + 1) x.Min (I_cloud_state.c160 (⟨⟩ : T_cloud_running)) (ps2 ++ [(⟨x, x.Min, 0, false⟩ : T_cloud_pool)]) xs2).bind fun r2 =>
  cloud_New.l1 l2 (k + 1) r2.1 r2.2.1 r2.2.2
def cloud_New (l : List T_api_Group) (delay : Int) (pools : List T_cloud_pool) (insts : List T_cloud_inst) : Option (Option T_cloud_Cloud × Int × List T_cloud_pool × List T_cloud_inst) :=
 (group_Right l).bind fun r =>
 if (!r) = true then
  some (none, 12, pools, insts)
 else
  if ((decide (delay < 1)) || (decide (delay > 1000))) = true then
   some (none, 1, pools, insts)
  else
   (cloud_New.l1 l 0 (⟨([] : List Nat), ([] : List Nat), delay, 0, 0⟩ : T_cloud_Cloud) pools insts).bind fun j =>
   some ((some j.1), 0, j.2.1, j.2.2)
theorem K30 (A0 A1 : Nat) (l : List T_api_Group) (delay : Int) (pools : List T_cloud_pool) (insts : List T_cloud_inst) (bs : List Nat) (bs2 : List Nat) : ∀ r : Option T_cloud_Cloud × Int × List T_cloud_pool × List T_cloud_inst, cloud_New l delay pools insts = some r → VC Tryz.prog 90 [L139 l, Iw delay] [.ar A0 144 bs (List.map T_cloud_pool.cells pools), .ar A1 157 bs2 (List.map (T_cloud_inst.cells A0 A1) insts)] fun zx zH => ∃ (b_0_1 : Nat) (ob_0_2 : Option Nat) (cap_0_3 : Nat) (ob_0_4 : Option Nat) (cap_0_5 : Nat) (bs_0 : List Nat) (bs_1 : List Nat), zx = .tup [(po r.1 .nilptr fun _ => .ptr b_0_1 0), Iw r.2.1] ∧ zH = (po r.1 [] fun zb => [.box b_0_1 149 [Z140 A0 A1 ob_0_2 zb.pools cap_0_3, Z152 A0 A1 ob_0_4 zb.insts cap_0_5, Iw zb.delay, Iw zb.now, Iw zb.calls], Q140 A0 A1 ob_0_2 cap_0_3 zb.pools, Q152 A0 A1 ob_0_4 cap_0_5 zb.insts]) ++ [.ar A0 144 bs_0 (List.map T_cloud_pool.cells r.2.2.1), .ar A1 157 bs_1 (List.map (T_cloud_inst.cells A0 A1) r.2.2.2)] := by
 refine Cw [.tmp 4,.tmp 5] Tryz.func90 R R R fun r hm=>?_
 unfold cloud_New at hm
 refine Af tbk [] R R<|Ag<|Au<|Ae<|Aa R R (Ai R)<|Ad R R<|Ax hm 0 R fn158 R (K26 _) fun r hm=>Ab tbk [] 2 R R<|Ac<|An hm R (fun h2 hm=>?_) fun h2 hm=> ?_
 ·refine Af tbk [] R R<|?_
  obtain rfl:=Option.some.inj hm
  exact Bx ⟨.inl R,_,.cons (.tmp _ _ R) (.cons (.tmp _ _ R) .nil),[0,1],_,R,0,none,0,none,0,bs,bs2,R,R⟩
 refine Ae<|Ab tbk [] 3 R R<|Cy tbk [] 3 20 17 R R R R R<|Aa R R (Aj R)<|Ac<|An hm R (fun h4 hm=>?_) fun h4 hm=> ?_
 ·refine Af tbk [] R R<|?_
  obtain rfl:=Option.some.inj hm
  exact Bx ⟨.inl R,_,.cons (.tmp _ _ R) (.cons (.tmp _ _ R) .nil),[0,1],_,R,0,none,0,none,0,bs,bs2,R,R⟩
 refine Ak<|Ae<|Aa R R (Ai R)<|Aa R R (Bo pl149 R R)<|Ad R R<|Bi R R fun b=>Aa R R (Aj R)<|Ac<|Ag<|Ae<|Aa R R (Ai R)<|Aa R R (Ay T_api_Group.vv R Co)<|Aa R R (Ai R)<|Ac<|B7 24 R fun h12=>Cf hm (fun _ (gg:Option Nat × Nat × Option Nat × Nat × List Nat × List Nat)=>[(6,.ptr b 0)]) (fun j (gg:Option Nat × Nat × Option Nat × Nat × List Nat × List Nat)=>[Q140 A0 A1 gg.1 gg.2.1 j.1.pools,Q152 A0 A1 gg.2.2.1 gg.2.2.2.1 j.1.insts,.box b 149 [Z140 A0 A1 gg.1 j.1.pools gg.2.1,Z152 A0 A1 gg.2.2.1 j.1.insts gg.2.2.2.1,Iw j.1.delay,Iw j.1.now,Iw j.1.calls],.ar A0 144 gg.2.2.2.2.1 (List.map T_cloud_pool.cells j.2.1),.ar A1 157 gg.2.2.2.2.2 (List.map (T_cloud_inst.cells A0 A1) j.2.2)]) (fun o hm=>?_) fun j=>Pq fun ob5=>Pq fun cap5=>Pq fun ob6=>Pq fun cap6=>Pq fun bs7 bs8 hm=> ?_
 ·refine Cj (l) (fun zl zk (zs:T_cloud_Cloud × List T_cloud_pool × List T_cloud_inst)=>cloud_New.l1 zl zk zs.1 zs.2.1 zs.2.2) (fun k _ (_:Option Nat × Nat × Option Nat × Nat × List Nat × List Nat)=>[(6,.ptr b 0),(24,L139 l),(25,Iw (l.length : Int)),(26,Iw (k : Int))]) (fun _ zs (zg:Option Nat × Nat × Option Nat × Nat × List Nat × List Nat)=>[Q140 A0 A1 zg.1 zg.2.1 zs.1.pools,Q152 A0 A1 zg.2.2.1 zg.2.2.2.1 zs.1.insts,.box b 149 [Z140 A0 A1 zg.1 zs.1.pools zg.2.1,Z152 A0 A1 zg.2.2.1 zs.1.insts zg.2.2.2.1,Iw zs.1.delay,Iw zs.1.now,Iw zs.1.calls],.ar A0 144 zg.2.2.2.2.1 (List.map T_cloud_pool.cells zs.2.1),.ar A1 157 zg.2.2.2.2.2 (List.map (T_cloud_inst.cells A0 A1) zs.2.2)]) ((⟨([] : List Nat),([] : List Nat),delay,(0 : Int),(0 : Int)⟩ : T_cloud_Cloud),pools,insts) (none,0,none,0,bs,bs2) hm (B5 (Bk 140) (B5 (Bk 152) (Ah [1,0,2,3,4] R R))) (fun k=>Pq fun c2=>Pq fun ps2 xs2=>Pq fun ob3=>Pq fun cap3=>Pq fun ob4=>Pq fun cap4=>Pq fun bs5 bs6 hk hm=>?_) fun k x l2=>Pq fun c2=>Pq fun ps2 xs2=>Pq fun ob3=>Pq fun cap3=>Pq fun ob4=>Pq fun cap4=>Pq fun bs5 bs6 h13 hm=> ?_
  ·rw [cloud_New.l1] at hm
   exact Af tbk [] R R<|Ag<|Bp R (k_end hk)<|A4<|As (ob3,cap3,ob4,cap4,bs5,bs6) hm (Ah [0,1,2,3,4] R R)
  rw [cloud_New.l1] at hm
  refine Af tbk [] R R<|Ag<|Bm R (k_lt h13)<|Ak<|Ag<|Au<|Ae<|Aa R R (Cc T_api_Group.vv R R el37 h13)<|Aa R R (Bs R ld139 R)<|Ad R R<|Aq z139 fun b2=>Ad R R<|Al (i:=0) R R R ld139 R R R<|Ac<|Ae<|Ab tbk [0,0] 3 R R<|Aa R R (Bo pl144 R R)<|Ad R R<|Di 4 (f:=T_cloud_pool.cells) (l:=ps2) (y:=(⟨x,x.Min,(0 : Int),false⟩ : T_cloud_pool)) R R R R fun b3=>Aa R R (Aj R)<|Ac<|Ae<|Ab tbk [3] 6 R R<|Ad R R<|Bc ap146 R R R R R fun b4=>Bd hm fun l3 h16 hm=>Ad R R<|Bv 2 (V.Pp A0) (l:=c2.pools) (l2:=[(ps2.length + 1)]) ap146 R R (sT_row 0 (V.Pp A0) el146 R R) h16 fun ob7 cap7=>Ab tbk [] 2 R R<|Ad R R<|Al (i:=4) R R R ld146 R R R<|Ac<|B2<|Ab tbk [1] 4 R R<|Aa R R (Bo pl160 R R)<|Aa R R (Ds nif160 R)<|Bd hm fun r2 h17 hm=>Bb (Bg [4,2,3,5,6,0,1] R)<|Ad R R<|Aw 5 R fn82 R (K29 A0 A1 (⟨l3,c2.insts,c2.delay,c2.now,c2.calls⟩ : T_cloud_Cloud) (ps2.length + 1) x.Min (I_cloud_state.c160 (⟨⟩ : T_cloud_running)) (ps2 ++ [(⟨x,x.Min,(0 : Int),false⟩ : T_cloud_pool)]) xs2 b ob7 cap7 ob4 cap4 (bs5 ++ [b3]) bs6 r2 h17) fun _ _ h18=> ?_
  obtain ⟨ob8,cap8,ob9,cap9,bs9,bs10,rfl,rfl⟩:=h18
  exact Ac<|A9 tbk [] R R<|Ap (r2.1,r2.2.1,r2.2.2) (ob8,cap8,ob9,cap9,bs9,bs10) hm (Be [1,2,0,3,4] R ⟨R,R,R,congrArg some (k_next h13 h12),trivial⟩)
 refine Af tbk [] R R<|?_
 obtain rfl:=Option.some.inj hm
 exact Bx ⟨.inl R,_,.cons (.tmp _ _ R) (.cons (.tmp _ _ R) .nil),[2,0,1,3,4],_,R,b,ob5,cap5,ob6,cap6,bs7,bs8,R,R⟩

/-! trireme/budget.Right -/
def budget_Right.l2 (x : T_api_Budget) : List T_api_Budget → Nat → Option (Out (Out Bool Unit) Unit)
 | [], k2 => some (Out.go ())
 | x2 :: l3, k2 =>
  if (((x.Name == x2.Name) && true) == true) = true then
   some (Out.ret (Out.ret false))
  else
   budget_Right.l2 x l3 (k2 + 1)
def budget_Right.l1 (l : List T_api_Budget) : List T_api_Budget → Nat → Option (Out Bool Unit)
 | [], k => some (Out.go ())
 | x :: l2, k =>
  (lex_Word x.Name).bind fun r =>
  (if ((!r) || ((x.Match.length : Int) == 0)) = true then some true else (labels_Right x.Match).bind fun r2 =>
  some (!r2)).bind fun c =>
  if c = true then
   some (Out.ret false)
  else
   if ((decide (x.Least < 0)) || (decide (x.Least > 400))) = true then
    some (Out.ret false)
   else
    (V.sl l none (some (k : Int))).bind fun v =>
    (budget_Right.l2 x v 0).bind fun o2 =>
    o2.on fun j2 =>
    budget_Right.l1 l l2 (k + 1)
def budget_Right (l : List T_api_Budget) : Option Bool :=
 (budget_Right.l1 l l 0).bind fun o =>
 o.on fun j =>
 some (decide ((l.length : Int) ≤ 16))
theorem K31 (l : List T_api_Budget) : VS Tryz.prog 91 (budget_Right l) [L103 l] [] .bool N0 := by
 refine Az [.tmp 2] Tryz.func91 R R R fun r hm=>?_
 unfold budget_Right at hm
 refine Af tbk [] R R<|Ag<|Ae<|Aa R R (Ai R)<|Aa R R (Ay T_api_Budget.vv R Cr)<|Aa R R (Ai R)<|Ac<|B7 0 R fun h3=>B1 hm (fun _ (_:Unit)=>[(0,L103 l)]) (fun _ (_:Unit)=>[]) (fun o hm h2=>?_) fun j _ hm=> ?_
 ·refine Cj (l) (fun zl zk (zs:Unit)=>budget_Right.l1 l zl zk) (fun k _ (_:Unit)=>[(0,L103 l),(7,L103 l),(8,Iw (l.length : Int)),(9,Iw (k : Int))]) (fun _ _ (_:Unit)=>[]) () () hm (Ah [] R R) (fun k _ _ hk hm=>?_) fun k x l2 _ _ h4 hm=> ?_
  ·rw [budget_Right.l1] at hm
   exact Af tbk [] R R<|Ag<|Bp R (k_end hk)<|A4<|Ar () hm (Ah [] R R)
  rw [budget_Right.l1] at hm
  refine Af tbk [] R R<|Ag<|Bm R (k_lt h4)<|Ak<|Ag<|Au<|Ae<|Aa R R (Ai R)<|Aa R R (Cc T_api_Budget.vv R R el38 h4)<|Aa R R (Bs R ld103 R)<|Ad R R<|Aq z103 fun b=>Aa R R (Aj R)<|Ad R R<|Al (i:=0) R R R ld103 R R R<|Ac<|Ag<|Au<|Ae<|Ab tbk [0] 2 R R<|Ad R R<|Ax hm 0 R fn131 R (K12 _) fun r hm=>Ab tbk [] 2 R R<|C3 5 24 19 R (fun K' J=>Ab tbk [] 5 R R<|J 4 R R R) (fun h7 K' J=>Ab tbk [0] 2 R R<|Bf R R R R R (Ay T_api_Label.vv R B9)<|Ab tbk [] 2 R R<|J 4 R R R)<|Aa R R (Ai R)<|Bh hm 5 30 25 R (fun _ K' h8 J hm=>Ab tbk [] 5 R R<|J 4 R R (Bj hm)) (fun _ K' h8 J hm=>Ab tbk [0] 2 R R<|A8 R R R R R<|Ax hm 0 R fn130 R (K18 _) fun r2 hm=>Ab tbk [] 2 R R<|J 4 R R (Bj hm)) fun c hm=>Aa R R (Aj R)<|Ac<|An hm R (fun h11 hm=>Af tbk [] R R<|have hm:=Lr hm h2;Rt1 hm R [] R R R) fun h11 hm=>Ae<|Ab tbk [0] 4 R R<|Cy tbk [0] 4 39 35 R R R R R<|Aa R R (Aj R)<|Ac<|An hm R (fun h13 hm=>Af tbk [] R R<|have hm:=Lr hm h2;Rt1 hm R [] R R R) fun h13 hm=>Ak<|Ae<|Ab tbk [] 2 R R<|Bd hm fun v h14 hm=>Aa R R (Dq R R R el38 h14)<|Aa R R (Ay T_api_Budget.vv R Cr)<|Aa R R (Ai R)<|Ac<|B7 42 R fun h17=>B1 hm (fun _ (_:Unit)=>[(0,L103 l),(7,L103 l),(8,Iw (l.length : Int)),(9,Iw (k : Int))]) (fun _ (_:Unit)=>[]) (fun o2 hm h16=>?_) fun j2 _ hm=> ?_
  ·refine Cj (v) (fun zl zk (zs:Unit)=>budget_Right.l2 x zl zk) (fun k2 _ (_:Unit)=>[(0,L103 l),(4,.ptr b 0),(7,L103 l),(8,Iw (l.length : Int)),(9,Iw (k : Int)),(42,L103 v),(43,Iw (v.length : Int)),(44,Iw (k2 : Int))]) (fun _ _ (_:Unit)=>[X103 b x]) () () hm (Ah [0] R R) (fun k2 _ _ hk hm=>?_) fun k2 x2 l3 _ _ h18 hm=> ?_
   ·rw [budget_Right.l2] at hm
    exact Af tbk [] R R<|Ag<|Bp R (k_end hk)<|A4<|Ar () hm (Ah [] R R)
   rw [budget_Right.l2] at hm
   exact Af tbk [] R R<|Ag<|Bm R (k_lt h18)<|Ak<|Ag<|Au<|Ae<|Aa R R (Cc T_api_Budget.vv R R el38 h18)<|Aa R R (Bs R ld103 R)<|Ad R R<|Aq z103 fun b2=>Ad R R<|Al (i:=0) R R R ld103 R R R<|Ac<|Ae<|Ab tbk [1] 2 R R<|Aa R R (Bo pl217 R R)<|Ab tbk [0] 2 R R<|Aa R R (Bo pl217 R R)<|Aa R R (VP.eqS shp217 eq217 R R R R)<|Ac<|An hm R (fun h20 hm=>Af tbk [] R R<|have hm:=Lr hm h16;have hm:=Lr hm h2;Rt1 hm R [] R R R) fun h20 hm=>Ak<|A9 tbk [] R R<|Ap () () hm (Be [1] R ⟨R,R,R,R,R,R,R,congrArg some (k_next h18 h17),trivial⟩)
  exact A9 tbk [] R R<|Ap () () hm (Be [] R ⟨R,R,R,congrArg some (k_next h4 h3),trivial⟩)
 exact Ae<|Aa R R (Ai R)<|Aa R R (Ay T_api_Budget.vv R Cr)<|Ab tbk [] 2 R R<|Ac<|Rt1 hm R [] R R R

/-! trireme/world.machine -/
def world_machine (m : T_api_Machine) : Option T_api_Machine :=
 (V.ap 32 ([] : List T_api_Label) m.Labels).bind fun l =>
 (V.ap 40 ([] : List T_api_Taint) m.Taints).bind fun l2 =>
 some (⟨m.Name, m.Group, m.Has, l, l2, m.Ready⟩ : T_api_Machine)
theorem K32 (m : T_api_Machine) : VS Tryz.prog 79 (world_machine m) [T_api_Machine.vv m] [] (fun r=>T_api_Machine.vv r) N0 := by
 refine Az [.cell 2 68] Tryz.func79 R R R fun r hm=>?_
 unfold world_machine at hm
 exact Ae<|Ad R R<|Bi R R fun b=>Ad R R<|Aq z68 fun b2=>Ac<|Ae<|Ab tbk [1] 2 R R<|Bb (Bk 232)<|Bd hm fun l h4 hm=>Ad R R<|Bv 0 T_api_Label.vv (l:=([] : List T_api_Label)) (l2:=m.Labels) ap24 R R (sT_list T_api_Label.vv el24 R R) h4 fun ob cap=>Aa R R (C8 R fa68_3)<|Ad R R<|Al (i:=2) R R R ld24 R R R<|Ac<|Ae<|Ab tbk [2] 2 R R<|Bb (Bk 31)<|Bd hm fun l2 h6 hm=>Ad R R<|Bv 0 T_api_Taint.vv (l:=([] : List T_api_Taint)) (l2:=m.Taints) ap66 R R (sT_list T_api_Taint.vv el66 R R) h6 fun ob2 cap2=>Aa R R (C8 R fa68_4)<|Ad R R<|Al (i:=3) R R R ld66 R R R<|Ac<|Ae<|Ab tbk [3] 1 R R<|Ad R R<|Al (i:=2) R R R ld68 R R R<|Ac<|Bw (A7 (H':=[Q31 ob2 cap2 l2,.box b2 68 [.str m.Name,.str m.Group,Iw m.Has.Cpu,Iw m.Has.Mem,Iw m.Has.Disk,Iw m.Has.Pods,Iw m.Has.Dev,L232 l,Z31 ob2 l2 cap2,.bool m.Ready],.box b 68 [.str m.Name,.str m.Group,Iw m.Has.Cpu,Iw m.Has.Mem,Iw m.Has.Disk,Iw m.Has.Pods,Iw m.Has.Dev,L232 l,Z31 ob2 l2 cap2,.bool m.Ready]]) 1 [(5,L232 l),(11,.agg [.str m.Name,.str m.Group,Iw m.Has.Cpu,Iw m.Has.Mem,Iw m.Has.Disk,Iw m.Has.Pods,Iw m.Has.Dev,L232 l,Z31 ob2 l2 cap2,.bool m.Ready])] R ⟨⟨_,R,.here _ R⟩,⟨_,R,.aggL ⟨.same _,.same _,.same _,.same _,.same _,.same _,.same _,.here _ R,.same _,.same _,trivial⟩⟩,trivial⟩ ⟨.same _,.box _ _ _ _ ⟨.same _,.same _,.same _,.same _,.same _,.same _,.same _,.here _ R,.same _,.same _,trivial⟩,.box _ _ _ _ ⟨.same _,.same _,.same _,.same _,.same _,.same _,.same _,.here _ R,.same _,.same _,trivial⟩,trivial⟩)<|Bw (A7 (H':=[X68 b2 (⟨m.Name,m.Group,m.Has,l,l2,m.Ready⟩ : T_api_Machine),X68 b (⟨m.Name,m.Group,m.Has,l,l2,m.Ready⟩ : T_api_Machine)]) 0 [(9,L31 l2),(11,T_api_Machine.vv (⟨m.Name,m.Group,m.Has,l,l2,m.Ready⟩ : T_api_Machine))] R ⟨⟨_,R,.here _ R⟩,⟨_,R,.aggL ⟨.same _,.same _,.same _,.same _,.same _,.same _,.same _,.same _,.here _ R,.same _,trivial⟩⟩,trivial⟩ ⟨.box _ _ _ _ ⟨.same _,.same _,.same _,.same _,.same _,.same _,.same _,.same _,.here _ R,.same _,trivial⟩,.box _ _ _ _ ⟨.same _,.same _,.same _,.same _,.same _,.same _,.same _,.same _,.here _ R,.same _,trivial⟩,trivial⟩)<|Rt0 hm R [] (.cons (.cell _ _ _ _ 0 _ _ _ _ R R ld68 R) .nil) R R

/-! trireme/world.own -/
def world_own.l1 : List T_api_Budget → Nat → (List T_api_Budget) → Option (List T_api_Budget)
 | [], k, out2 => some out2
 | x :: l2, k, out2 =>
  (V.ap 32 ([] : List T_api_Label) x.Match).bind fun l3 =>
  (V.ap 48 out2 [(⟨x.Name, l3, x.Least⟩ : T_api_Budget)]).bind fun out4 =>
  world_own.l1 l2 (k + 1) out4
def world_own (l : List T_api_Budget) : Option (List T_api_Budget) :=
 (world_own.l1 l 0 ([] : List T_api_Budget)).bind fun out32 =>
 some out32
theorem K33 (l : List T_api_Budget) : VS2 Tryz.prog 80 (world_own l) [L103 l] [] (fun r ob0 cap0=>Z103 ob0 r cap0) (fun r ob0 cap0=>[Q103 ob0 cap0 r]) := by
 refine Cz [.tmp 2] Tryz.func80 R R R fun r hm=>?_
 unfold world_own at hm
 refine Af tbk [] R R<|Af tbk [] R R<|Ag<|Ae<|Aa R R (Ai R)<|Aa R R (Ay T_api_Budget.vv R Cr)<|Aa R R (Ai R)<|Ac<|B7 6 R fun h5=>Cf hm (fun out32 (gg:Option Nat × Nat)=>[(3,Z103 gg.1 out32 gg.2)]) (fun out32 (gg:Option Nat × Nat)=>[Q103 gg.1 gg.2 out32]) (fun o hm=>?_) fun out32=>Pq fun ob3 cap3 hm=> ?_
 ·refine Cj (l) (fun zl zk (zs:List T_api_Budget)=>world_own.l1 zl zk zs) (fun k zs (zg:Option Nat × Nat)=>[(3,Z103 zg.1 zs zg.2),(6,L103 l),(7,Iw (l.length : Int)),(8,Iw (k : Int))]) (fun _ zs (zg:Option Nat × Nat)=>[Q103 zg.1 zg.2 zs]) _ (none,0) hm (B5 (Bk 103) (Ah [0] R R)) (fun k out2=>Pq fun ob2 cap2 hk hm=>?_) fun k x l2 out2=>Pq fun ob2 cap2 h6 hm=> ?_
  ·rw [world_own.l1] at hm
   exact Af tbk [] R R<|Ag<|Bp R (k_end hk)<|A4<|As (ob2,cap2) hm (Ah [0] R R)
  rw [world_own.l1] at hm
  exact Af tbk [] R R<|Ag<|Bm R (k_lt h6)<|Ak<|Ag<|Au<|Ae<|Aa R R (Cc T_api_Budget.vv R R el38 h6)<|Aa R R (Bs R ld103 R)<|Ad R R<|Aq z103 fun b=>Ad R R<|Al (i:=0) R R R ld103 R R R<|Ac<|Ae<|Ab tbk [0] 2 R R<|Bb (Bk 232)<|Bd hm fun l3 h9 hm=>Ad R R<|Bv 0 T_api_Label.vv (l:=([] : List T_api_Label)) (l2:=x.Match) ap24 R R (sT_list T_api_Label.vv el24 R R) h9 fun ob4 cap4=>Aa R R (C8 R fa103_1)<|Ad R R<|Al (i:=1) R R R ld24 R R R<|Ac<|B2<|Ab tbk [1] 2 R R<|Bb (A7 (H':=[X103 b (⟨x.Name,l3,x.Least⟩ : T_api_Budget),Q103 ob2 cap2 out2]) 0 [(14,L232 l3),(17,T_api_Budget.vv (⟨x.Name,l3,x.Least⟩ : T_api_Budget))] R ⟨⟨_,R,.here _ R⟩,⟨_,R,.aggL ⟨.same _,.here _ R,.same _,trivial⟩⟩,trivial⟩ ⟨.box _ _ _ _ ⟨.same _,.here _ R,.same _,trivial⟩,.same _,trivial⟩)<|Ad R R<|Bc ap38 R R R R R fun b2=>Bd hm fun out4 h11 hm=>Ad R R<|Bv 2 T_api_Budget.vv (l:=out2) (l2:=[(⟨x.Name,l3,x.Least⟩ : T_api_Budget)]) ap38 R R (sT_row 0 T_api_Budget.vv el38 R R) h11 fun ob5 cap5=>Aa R R (Aj R)<|Ac<|A9 tbk [] R R<|Ap _ (ob5,cap5) hm (Be [2] R ⟨R,R,R,congrArg some (k_next h6 h5),trivial⟩)
 exact Af tbk [] R R<|Rg2 hm R [0] ob3 cap3 (.cons (.tmp _ _ R) .nil) R R

/-! (*trireme/cloud.Cloud).there -/
def cloud_Cloud_there (c : T_cloud_Cloud) : Option Bool :=
 some (decide (c.delay > 0))
theorem K34 (A0 A1 : Nat) (c : T_cloud_Cloud) (b : Nat) (ob : Option Nat) (cap : Nat) (ob2 : Option Nat) (cap2 : Nat) : VS Tryz.prog 83 (cloud_Cloud_there c) [.ptr b 0] [.box b 149 [Z140 A0 A1 ob c.pools cap, Z152 A0 A1 ob2 c.insts cap2, Iw c.delay, Iw c.now, Iw c.calls], Q140 A0 A1 ob cap c.pools, Q152 A0 A1 ob2 cap2 c.insts] .bool (fun r=>[.box b 149 [Z140 A0 A1 ob c.pools cap, Z152 A0 A1 ob2 c.insts cap2, Iw c.delay, Iw c.now, Iw c.calls], Q140 A0 A1 ob cap c.pools, Q152 A0 A1 ob2 cap2 c.insts]) := by
 refine Az [.tmp 2] Tryz.func83 R R R fun r hm=>?_
 unfold cloud_Cloud_there at hm
 exact Af tbk [] R R<|Ae<|Aa R R (Ai R)<|Aa R R (D4 Dn R R)<|Ab tbk [0] 8 R R<|Ac<|Rt1 hm R [0,1,2] R R R

/-! (trireme/cloud.creating).number -/
def cloud_creating_number (x : T_cloud_creating) : Option Int :=
 some 1
theorem K35 (x : T_cloud_creating) : VS Tryz.prog 312 (cloud_creating_number x) [T_cloud_creating.vv x] [] Iw N0 := by
 refine Az [.tmp 2] Tryz.func312 R R R fun r hm=>?_
 unfold cloud_creating_number at hm
 exact Ae<|Ad R R<|Bi R R fun b=>Aa R R (Aj R)<|Ac<|Af tbk [] R R<|Rt1 hm R [] R R R

/-! (trireme/cloud.leaving).number -/
def cloud_leaving_number (x : T_cloud_leaving) : Option Int :=
 some 3
theorem K36 (x : T_cloud_leaving) : VS Tryz.prog 315 (cloud_leaving_number x) [T_cloud_leaving.vv x] [] Iw N0 := by
 refine Az [.tmp 2] Tryz.func315 R R R fun r hm=>?_
 unfold cloud_leaving_number at hm
 exact Ae<|Ad R R<|Bi R R fun b=>Aa R R (Aj R)<|Ac<|Af tbk [] R R<|Rt1 hm R [] R R R

/-! (trireme/cloud.running).number -/
def cloud_running_number (x : T_cloud_running) : Option Int :=
 some 2
theorem K37 (x : T_cloud_running) : VS Tryz.prog 318 (cloud_running_number x) [T_cloud_running.vv x] [] Iw N0 := by
 refine Az [.tmp 2] Tryz.func318 R R R fun r hm=>?_
 unfold cloud_running_number at hm
 exact Ae<|Ad R R<|Bi R R fun b=>Aa R R (Aj R)<|Ac<|Af tbk [] R R<|Rt1 hm R [] R R R

/-! (trireme/cloud.failed).number -/
def cloud_failed_number (x : T_cloud_failed) : Option Int :=
 some 4
theorem K38 (x : T_cloud_failed) : VS Tryz.prog 321 (cloud_failed_number x) [T_cloud_failed.vv x] [] Iw N0 := by
 refine Az [.tmp 2] Tryz.func321 R R R fun r hm=>?_
 unfold cloud_failed_number at hm
 exact Ae<|Ad R R<|Bi R R fun b=>Aa R R (Aj R)<|Ac<|Af tbk [] R R<|Rt1 hm R [] R R R

def I_cloud_state.m_number : I_cloud_state → Option Int
 | .nil => none
 | .c151 y => cloud_creating_number y
 | .c159 y => cloud_leaving_number y
 | .c160 y => cloud_running_number y
 | .c225 y => cloud_failed_number y
theorem I_cloud_state.m_number_ok (x : I_cloud_state) (r : Int) (h : I_cloud_state.m_number x = some r) : VI Tryz.prog x.isNil x.ty x.val "trireme/cloud.number" [] (.int .i64 r) := by
  cases x with
  | nil => cases h
  | c151 y => exact ⟨R,312,mt151_number,fn312,K35 y r h⟩
  | c159 y => exact ⟨R,315,mt159_number,fn315,K36 y r h⟩
  | c160 y => exact ⟨R,318,mt160_number,fn318,K37 y r h⟩
  | c225 y => exact ⟨R,321,mt225_number,fn321,K38 y r h⟩

/-! (trireme/cloud.creating).left -/
def cloud_creating_left (x : T_cloud_creating) : Option Int :=
 some x.ticks
theorem K39 (x : T_cloud_creating) : VS Tryz.prog 311 (cloud_creating_left x) [T_cloud_creating.vv x] [] Iw N0 := by
 refine Az [.tmp 2] Tryz.func311 R R R fun r hm=>?_
 unfold cloud_creating_left at hm
 exact Ae<|Ad R R<|Bi R R fun b=>Aa R R (Aj R)<|Ac<|Af tbk [0] R R<|Rt1 hm R [] R R R

/-! (trireme/cloud.leaving).left -/
def cloud_leaving_left (x : T_cloud_leaving) : Option Int :=
 some 1
theorem K40 (x : T_cloud_leaving) : VS Tryz.prog 314 (cloud_leaving_left x) [T_cloud_leaving.vv x] [] Iw N0 := by
 refine Az [.tmp 2] Tryz.func314 R R R fun r hm=>?_
 unfold cloud_leaving_left at hm
 exact Ae<|Ad R R<|Bi R R fun b=>Aa R R (Aj R)<|Ac<|Af tbk [] R R<|Rt1 hm R [] R R R

/-! (trireme/cloud.running).left -/
def cloud_running_left (x : T_cloud_running) : Option Int :=
 some 0
theorem K41 (x : T_cloud_running) : VS Tryz.prog 317 (cloud_running_left x) [T_cloud_running.vv x] [] Iw N0 := by
 refine Az [.tmp 2] Tryz.func317 R R R fun r hm=>?_
 unfold cloud_running_left at hm
 exact Ae<|Ad R R<|Bi R R fun b=>Aa R R (Aj R)<|Ac<|Af tbk [] R R<|Rt1 hm R [] R R R

/-! (trireme/cloud.failed).left -/
def cloud_failed_left (x : T_cloud_failed) : Option Int :=
 some 0
theorem K42 (x : T_cloud_failed) : VS Tryz.prog 320 (cloud_failed_left x) [T_cloud_failed.vv x] [] Iw N0 := by
 refine Az [.tmp 2] Tryz.func320 R R R fun r hm=>?_
 unfold cloud_failed_left at hm
 exact Ae<|Ad R R<|Bi R R fun b=>Aa R R (Aj R)<|Ac<|Af tbk [] R R<|Rt1 hm R [] R R R

def I_cloud_state.m_left : I_cloud_state → Option Int
 | .nil => none
 | .c151 y => cloud_creating_left y
 | .c159 y => cloud_leaving_left y
 | .c160 y => cloud_running_left y
 | .c225 y => cloud_failed_left y
theorem I_cloud_state.m_left_ok (x : I_cloud_state) (r : Int) (h : I_cloud_state.m_left x = some r) : VI Tryz.prog x.isNil x.ty x.val "trireme/cloud.left" [] (.int .i64 r) := by
  cases x with
  | nil => cases h
  | c151 y => exact ⟨R,311,mt151_left,fn311,K39 y r h⟩
  | c159 y => exact ⟨R,314,mt159_left,fn314,K40 y r h⟩
  | c160 y => exact ⟨R,317,mt160_left,fn317,K41 y r h⟩
  | c225 y => exact ⟨R,320,mt225_left,fn320,K42 y r h⟩

/-! (*trireme/cloud.Cloud).Insts -/
def cloud_Cloud_Insts.l1 (c : T_cloud_Cloud) (pools : List T_cloud_pool) (insts : List T_cloud_inst) : Nat → (List T_api_Inst) → Int → Option (List T_api_Inst)
 | 0, _, _ => none
 | n + 1, l2, v2 =>
  if (decide (v2 < (c.insts.length : Int))) = true then
   (V.gl c.insts v2).bind fun x =>
   (V.pg insts x).bind fun x2 =>
   (V.pg insts x).bind fun x3 =>
   (V.pg pools x3.of).bind fun x4 =>
   (V.pg insts x).bind fun x5 =>
   (V.pg insts x).bind fun x6 =>
   (V.pg insts x).bind fun x7 =>
   (I_cloud_state.m_number x5.in_).bind fun r2 =>
   (I_cloud_state.m_left x6.in_).bind fun r3 =>
   (V.ap 56 l2 [(⟨x2.name, x4.Group.Name, r2, r3, x7.since⟩ : T_api_Inst)]).bind fun l5 =>
   cloud_Cloud_Insts.l1 c pools insts n l5 (i64.wrap (v2 + 1))
  else
   some l2
def cloud_Cloud_Insts (c : T_cloud_Cloud) (pools : List T_cloud_pool) (insts : List T_cloud_inst) : Option (List T_api_Inst) :=
 (cloud_Cloud_there c).bind fun r =>
 if (!r) = true then
  some ([] : List T_api_Inst)
 else
  (cloud_Cloud_Insts.l1 c pools insts FU ([] : List T_api_Inst) (0 : Int)).bind fun l32 =>
  some l32
theorem K43 (A0 A1 : Nat) (c : T_cloud_Cloud) (pools : List T_cloud_pool) (insts : List T_cloud_inst) (b : Nat) (ob : Option Nat) (cap : Nat) (ob2 : Option Nat) (cap2 : Nat) (bs : List Nat) (bs2 : List Nat) : VS2 Tryz.prog 27 (cloud_Cloud_Insts c pools insts) [.ptr b 0] [.box b 149 [Z140 A0 A1 ob c.pools cap, Z152 A0 A1 ob2 c.insts cap2, Iw c.delay, Iw c.now, Iw c.calls], Q140 A0 A1 ob cap c.pools, Q152 A0 A1 ob2 cap2 c.insts, .ar A0 144 bs (List.map T_cloud_pool.cells pools), .ar A1 157 bs2 (List.map (T_cloud_inst.cells A0 A1) insts)] (fun r ob0 cap0=>Z70 ob0 r cap0) (fun r ob0 cap0=>[Q70 ob0 cap0 r, .box b 149 [Z140 A0 A1 ob c.pools cap, Z152 A0 A1 ob2 c.insts cap2, Iw c.delay, Iw c.now, Iw c.calls], Q140 A0 A1 ob cap c.pools, Q152 A0 A1 ob2 cap2 c.insts, .ar A0 144 bs (List.map T_cloud_pool.cells pools), .ar A1 157 bs2 (List.map (T_cloud_inst.cells A0 A1) insts)]) := by
 refine Cz [.tmp 2] Tryz.func27 R R R fun r hm=>?_
 unfold cloud_Cloud_Insts at hm
 refine Af tbk [] R R<|Ag<|Ae<|Aa R R (Ai R)<|Ad R R<|Ax hm 3 R fn83 R (K34 A0 A1 _ _ _ _ _ _) fun r hm=>Aa R R (Ci R)<|Ac<|An hm R (fun h2 hm=>Af tbk [] R R<|Bw (Bk 70)<|Rg2 hm R [0,1,2,3,4,5] none 0 (.cons (.tmp _ _ R) .nil) R R) fun h2 hm=>Ak<|Af tbk [] R R<|Ag<|Ae<|Ab tbk [0] 4 R R<|Aa R R (Cx (V.Pp A1) R Dm)<|Aa R R (Ai R)<|Ac<|Cf hm (fun l32 (gg:Option Nat × Nat)=>[(3,Z70 gg.1 l32 gg.2)]) (fun l32 (gg:Option Nat × Nat)=>[Q70 gg.1 gg.2 l32,.box b 149 [Z140 A0 A1 ob c.pools cap,Z152 A0 A1 ob2 c.insts cap2,Iw c.delay,Iw c.now,Iw c.calls],Q140 A0 A1 ob cap c.pools,Q152 A0 A1 ob2 cap2 c.insts,.ar A0 144 bs (List.map T_cloud_pool.cells pools),.ar A1 157 bs2 (List.map (T_cloud_inst.cells A0 A1) insts)]) (fun o hm=>?_) fun l32=>Pq fun ob5 cap5 hm=> ?_
 ·refine B8 (fun zn (zs:List T_api_Inst × Int)=>cloud_Cloud_Insts.l1 c pools insts zn zs.1 zs.2) (fun zs (zg:Option Nat × Nat)=>[(3,Z70 zg.1 zs.1 zg.2),(12,Z152 A0 A1 ob2 c.insts cap2),(13,Iw (c.insts.length : Int)),(14,Iw zs.2)]) (fun zs (zg:Option Nat × Nat)=>[Q70 zg.1 zg.2 zs.1,.box b 149 [Z140 A0 A1 ob c.pools cap,Z152 A0 A1 ob2 c.insts cap2,Iw c.delay,Iw c.now,Iw c.calls],Q140 A0 A1 ob cap c.pools,Q152 A0 A1 ob2 cap2 c.insts,.ar A0 144 bs (List.map T_cloud_pool.cells pools),.ar A1 157 bs2 (List.map (T_cloud_inst.cells A0 A1) insts)]) (([] : List T_api_Inst),(0 : Int)) (none,0) (fun _=>R) hm (B5 (Bk 70) (Ah [0,1,2,3,4,5] (by kernel_rfl) (by kernel_rfl))) fun n=>Pq fun l2 v2=>Pq fun ob4 cap4 hm=> ?_
  rw [cloud_Cloud_Insts.l1] at hm
  refine Af tbk [] R R<|Ag<|An hm R (fun h8 hm=>?_) fun h8 hm=> ?_
  ·refine Ak<|Ag<|Au<|Ae<|Bd hm fun x h9 hm=>Cq 3 R (gl_pos (V.Pp A1) h9) fun b2 h10=> ?_
   subst h10
   exact Aa R R (Cs (V.Pp A1) R R el147 h9)<|Aa R R (Ck (i:=3) (y:=(V.Pp A1) x) R R R (gl_map _ (gl_some h9).2) ld152 R)<|Aa R R (Aj R)<|Ac<|Bn 1 mixed<|A6 tbk [0,1] [] (by kernel_rfl) R R R<|Bd hm fun x2 h11 hm=>Ba 2 R R R (by kernel_rfl) (Bt R h11)<|Ba 3 R R R (by kernel_rfl) (B0 R h11 fa157_0)<|Ba 4 R R R (by kernel_rfl) (Ce 4 (f:=(T_cloud_inst.cells A0 A1)) (y:=x2) R R h11 ld9 R)<|Ba 5 R R R (by kernel_rfl) (Ai R)<|Bd hm fun x3 h12 hm=>Ba 6 R R R (by kernel_rfl) (Bt R h12)<|Ba 7 R R R (by kernel_rfl) (B0 R h12 fa157_1)<|Ba 8 R R R (by kernel_rfl) (Ce 4 (f:=(T_cloud_inst.cells A0 A1)) (y:=x3) R R h12 ld140 R)<|Bd hm fun x4 h13 hm=>Ba 9 R R R (by kernel_rfl) (Bt R h13)<|Ba 10 R R R (by kernel_rfl) (B0 R h13 fa144_0)<|Ba 11 R R R (by kernel_rfl) (B0 R h13 fa139_0)<|Ba 12 R R R (by kernel_rfl) (Ce 3 (f:=T_cloud_pool.cells) (y:=x4) R R h13 ld9 R)<|Ba 13 R R R (by kernel_rfl) (Ai R)<|Bd hm fun x5 h14 hm=>Ba 14 R R R (by kernel_rfl) (Bt R h14)<|Ba 15 R R R (by kernel_rfl) (B0 R h14 fa157_3)<|Ba 16 R R R (by kernel_rfl) (Ce 4 (f:=(T_cloud_inst.cells A0 A1)) (y:=x5) R R h14 ld155 R)<|Ba 18 R R R (by kernel_rfl) (Ai R)<|Bd hm fun x6 h15 hm=>Ba 19 R R R (by kernel_rfl) (Bt R h15)<|Ba 20 R R R (by kernel_rfl) (B0 R h15 fa157_3)<|Ba 21 R R R (by kernel_rfl) (Ce 4 (f:=(T_cloud_inst.cells A0 A1)) (y:=x6) R R h15 ld155 R)<|Ba 23 R R R (by kernel_rfl) (Ai R)<|Bd hm fun x7 h16 hm=>Ba 24 R R R (by kernel_rfl) (Bt R h16)<|Ba 25 R R R (by kernel_rfl) (B0 R h16 fa157_2)<|Ba 26 R R R (by kernel_rfl) (Ce 4 (f:=(T_cloud_inst.cells A0 A1)) (y:=x7) R R h16 ld3 R)<|Am 17 (by kernel_rfl)<|Bd hm fun r2 h17 hm=>Ao R R R<|VO.inv R R (I_cloud_state.m_number_ok x5.in_ r2 h17)<|Am 22 (by kernel_rfl)<|Bd hm fun r3 h18 hm=>Ao R R R<|VO.inv R R (I_cloud_state.m_left_ok x6.in_ r3 h18)<|Ba 27 R R R (by kernel_rfl) (Bo pl70 R R)<|Am 28 (by kernel_rfl)<|Ao R R R<|Bc ap54 R R R R R fun b3=>Am 29 (by kernel_rfl)<|Bd hm fun l5 h20 hm=>Ao R R R<|Bv 1 T_api_Inst.vv (l:=l2) (l2:=[(⟨x2.name,x4.Group.Name,r2,r3,x7.since⟩ : T_api_Inst)]) ap54 R R (sT_row 0 T_api_Inst.vv el54 R R) h20 fun ob6 cap6=>Ba 30 R R R (by kernel_rfl) (Aj R)<|A5 (by kernel_rfl)<|A9 tbk [] R R<|Ap (l5,(IntKind.i64.wrap (v2 + (1 : Int)))) (ob6,cap6) hm (Ah [1,2,3,4,5,6] (by kernel_rfl) (by kernel_rfl))
  exact A4<|As (ob4,cap4) hm (Ah [0,1,2,3,4,5] (by kernel_rfl) (by kernel_rfl))
 exact Af tbk [] R R<|Rg2 hm R [0,1,2,3,4,5] ob5 cap5 (.cons (.tmp _ _ R) .nil) R R

/-! trireme/yard.Find$1 -/
def yard_Find_1 (i : Int) (a : List T_api_Machine) (a2 : ByteArray) : Option Bool :=
 (V.gl a i).bind fun x =>
 some (V.seq x.Name a2)
theorem K44 (i : Int) (a : List T_api_Machine) (a2 : ByteArray) (b : Nat) (b2 : Nat) : VS Tryz.prog 138 (yard_Find_1 i a a2) [Iw i, .ptr b 0, .ptr b2 0] [.box b 39 [L68 a], .box b2 9 [.str a2]] .bool (fun r=>[.box b 39 [L68 a], .box b2 9 [.str a2]]) := by
 refine Az [.tmp 4] Tryz.func138 R R R fun r hm=>?_
 unfold yard_Find_1 at hm
 exact Af tbk [] R R<|Ag<|Bn 0 mixed<|A6 tbk [0,1] [0] (by kernel_rfl) R R R<|Bd hm fun x h1 hm=>Ba 2 R R R (by kernel_rfl) (Br T_api_Machine.vv R R el39 h1)<|A6 tbk [3,4,5,6,7] [1] (by kernel_rfl) R R R<|A5 (by kernel_rfl)<|Rt1 hm R [0,1] R R R

/-! trireme/yard.first -/
def yard_first_yard_Find_1.l1 (n : Int) (c : List T_api_Machine) (c2 : ByteArray) : Nat → Int → Option (Out Int Unit)
 | 0, _ => none
 | n2 + 1, v2 =>
  if (decide (v2 < n)) = true then
   (yard_Find_1 v2 c c2).bind fun r =>
   if r = true then
    some (Out.ret v2)
   else
    yard_first_yard_Find_1.l1 n c c2 n2 (i64.wrap (v2 + 1))
  else
   some (Out.go ())
def yard_first_yard_Find_1 (n : Int) (c : List T_api_Machine) (c2 : ByteArray) : Option Int :=
 (yard_first_yard_Find_1.l1 n c c2 FU (0 : Int)).bind fun o =>
 o.on fun j =>
 some (-1)
theorem K45 (n : Int) (c : List T_api_Machine) (c2 : ByteArray) (b : Nat) (b2 : Nat) : VS Tryz.prog 136 (yard_first_yard_Find_1 n c c2) [Iw n, .clo (.func 138) [] [.ptr b 0, .ptr b2 0]] [.box b 39 [L68 c], .box b2 9 [.str c2]] Iw (fun r=>[.box b 39 [L68 c], .box b2 9 [.str c2]]) := by
 refine Az [.tmp 4] Dy R R R fun r hm=>?_
 unfold yard_first_yard_Find_1 at hm
 refine Af tbk [] R R<|Ag<|Af tbk [] R R<|B1 hm (fun _ (_:Unit)=>[]) (fun _ (_:Unit)=>[.box b 39 [L68 c],.box b2 9 [.str c2]]) (fun o hm h2=>?_) fun j _ hm=> ?_
 ·refine B8 (fun zn (zs:Int)=>yard_first_yard_Find_1.l1 n c c2 zn zs) (fun zs (_:Unit)=>[(1,.clo (.func 138) [] [.ptr b 0,.ptr b2 0]),(6,Iw n),(7,Iw zs)]) (fun _ (_:Unit)=>[.box b 39 [L68 c],.box b2 9 [.str c2]]) _ () (fun _=>R) hm (Ah [0,1] R R) fun n2 v2 _ hm=> ?_
  rw [yard_first_yard_Find_1.l1] at hm
  exact Af tbk [] R R<|Ag<|An hm R (fun h3 hm=>Ak<|Ag<|Au<|Af tbk [] R R<|Ae<|Ab tbk [] 2 R R<|Ad R R<|Ax hm 2 R fn138 R (K44 _ _ _ _ _) fun r hm=>Ac<|An hm R (fun h5 hm=>Af tbk [] R R<|have hm:=Lr hm h2;Rt1 hm R [0,1] R R R) fun h5 hm=>Ak<|A9 tbk [] R R<|Ap _ () hm (Ah [0,1] R R)) fun h3 hm=>A4<|Ar () hm (Ah [0,1] R R)
 exact Af tbk [] R R<|Rt1 hm R [0,1] R R R

/-! trireme/yard.Find -/
def yard_Find (ms : List T_api_Machine) (name : ByteArray) : Option Int :=
 (yard_first_yard_Find_1 (ms.length : Int) ms name).bind fun r =>
 some r
theorem K46 (ms : List T_api_Machine) (name : ByteArray) : VS Tryz.prog 72 (yard_Find ms name) [L68 ms, .str name] [] Iw N0 := by
 refine Az [.tmp 4] Tryz.func72 R R R fun r hm=>?_
 unfold yard_Find at hm
 exact Ae<|Ad R R<|Bi R R fun b=>Ad R R<|Bi R R fun b2=>Aa R R (Aj R)<|Ac<|Ae<|Ab tbk [1] 1 R R<|Aa R R (Ay T_api_Machine.vv R Ch)<|Aa R R (C6 R R)<|Bb (Bg [1,0] R)<|Ad R R<|Ax hm 2 R fn136 R (K45 _ _ _ _ _) fun r hm=>Aa R R (Aj R)<|Ac<|Rt1 hm R [] R R R

/-! trireme/group.Number -/
def group_Number.l1 (v3 : ByteArray) : Nat → Int → Int → Option (Out Int Int)
 | 0, _, _ => none
 | n4 + 1, n2, v6 =>
  if (decide (v6 < (v3.size : Int))) = true then
   (V.gi v3 v6).bind fun v7 =>
   (if (decide (v7 < 48)) = true then some true else (V.gi v3 v6).bind fun v8 =>
   some (decide (v8 > 57))).bind fun c2 =>
   if c2 = true then
    some (Out.ret 0)
   else
    (V.gi v3 v6).bind fun v9 =>
    group_Number.l1 v3 n4 (i64.wrap ((i64.wrap (10 * n2)) + (i64.wrap (IntKind.u8.wrap (v9 - 48))))) (i64.wrap (v6 + 1))
  else
   some (Out.go n2)
def group_Number (g : T_api_Group) (name : ByteArray) : Option Int :=
 (V.cat g.Name (⟨#[45]⟩ : ByteArray)).bind fun v =>
 (if (decide ((name.size : Int) ≤ (v.size : Int))) = true then some true else (V.ss name none (some (v.size : Int))).bind fun v2 =>
 some (!(V.seq v2 v))).bind fun c =>
 if c = true then
  some 0
 else
  (V.ss name (some (v.size : Int)) none).bind fun v3 =>
  (V.gi v3 (0 : Int)).bind fun v4 =>
  if ((v4 == 48) || (decide ((v3.size : Int) > 9))) = true then
   some 0
  else
   (group_Number.l1 v3 FU 0 (0 : Int)).bind fun o =>
   o.on fun n32 =>
   some n32
theorem K47 (g : T_api_Group) (name : ByteArray) : VS Tryz.prog 126 (group_Number g name) [T_api_Group.vv g, .str name] [] Iw N0 := by
 refine Az [.tmp 4] Tryz.func126 R R R fun r hm=>?_
 unfold group_Number at hm
 refine Ae<|Ad R R<|Bi R R fun b=>Aa R R (Aj R)<|Ac<|Ae<|Ab tbk [0] 2 R R<|Bd hm fun v h2 hm=>Aa R R (D3 R R h2)<|Aa R R (Aj R)<|Ac<|Ag<|Ae<|Aa R R (Ai R)<|Aa R R (Ca R Av)<|Aa R R (Ai R)<|Aa R R (Ca R Av)<|Ab tbk [] 2 R R<|Bh hm 7 24 17 R (fun _ K' h3 J hm=>Ab tbk [] 7 R R<|J 6 R R (Bj hm)) (fun _ K' h3 J hm=>Ab tbk [] 2 R R<|Bf R R R R R (Ca R Av)<|Bd hm fun v2 h4 hm=>Bf R R R R R (VP.ssT R R R Av h4)<|Ab tbk [] 3 R R<|J 6 R R (Bj hm)) fun c hm=>Ac<|An hm R (fun h6 hm=>Af tbk [] R R<|Rt1 hm R [] R R R) fun h6 hm=>Ak<|Ae<|Ab tbk [] 2 R R<|Aa R R (Ca R Av)<|Bd hm fun v3 h7 hm=>Aa R R (VP.ssT R R R Av h7)<|Aa R R (Aj R)<|Ac<|Ag<|Ae<|Aa R R (Ai R)<|Bd hm fun v4 h8 hm=>Aa R R (C1 R R Av h8)<|Ab tbk [] 2 R R<|C3 4 36 32 R (fun K' J=>Ab tbk [] 4 R R<|J 3 R R R) (fun h9 K' J=>Bf R R R R R (Ai R)<|Bf R R R R R (Ca R Av)<|Ab tbk [] 2 R R<|J 3 R R R)<|Ac<|An hm R (fun h10 hm=>Af tbk [] R R<|Rt1 hm R [] R R R) fun h10 hm=>Ak<|Af tbk [] R R<|Ag<|Ae<|Aa R R (Ai R)<|Aa R R (Ca R Av)<|Aa R R (Ai R)<|Ac<|B1 hm (fun n32 (_:Unit)=>[(7,Iw n32)]) (fun _ (_:Unit)=>[]) (fun o hm h12=>?_) fun n32 _ hm=> ?_
 ·refine B8 (fun zn (zs:Int × Int)=>group_Number.l1 v3 zn zs.1 zs.2) (fun zs (_:Unit)=>[(6,.str v3),(7,Iw zs.1),(38,Iw (v3.size : Int)),(39,Iw zs.2)]) (fun _ (_:Unit)=>[]) ((0 : Int),(0 : Int)) () (fun _=>R) hm (Ah [] R R) fun n4=>Pq fun n2 v6 _ hm=> ?_
  rw [group_Number.l1] at hm
  exact Af tbk [] R R<|Ag<|An hm R (fun h13 hm=>Ak<|Ag<|Au<|Af tbk [] R R<|Ag<|Ae<|Ab tbk [] 2 R R<|Bd hm fun v7 h14 hm=>Aa R R (C1 R R Av h14)<|Ab tbk [] 2 R R<|Bh hm 5 51 46 R (fun _ K' h15 J hm=>Ab tbk [] 5 R R<|J 4 R R (Bj hm)) (fun _ K' h15 J hm=>Ab tbk [] 2 R R<|Bd hm fun v8 h16 hm=>Bf R R R R R (C1 R R Av h16)<|Ab tbk [] 2 R R<|J 4 R R (Bj hm)) fun c2 hm=>Ac<|An hm R (fun h18 hm=>Af tbk [] R R<|have hm:=Lr hm h12;Rt1 hm R [] R R R) fun h18 hm=>Ak<|B2<|Ab tbk [] 4 R R<|Bd hm fun v9 h19 hm=>Aa R R (C1 R R Av h19)<|Aa R R (Bl R R R)<|Aa R R (C7 Cg Cm R)<|Ab tbk [] 2 R R<|Ac<|A9 tbk [] R R<|Ap ((IntKind.i64.wrap ((IntKind.i64.wrap ((10 : Int) * n2)) + (IntKind.i64.wrap (IntKind.u8.wrap (v9 - (48 : Int)))))),(IntKind.i64.wrap (v6 + (1 : Int)))) () hm (Ah [] R R)) fun h13 hm=>A4<|Ar () hm (Ah [] R R)
 exact Af tbk [] R R<|Rt1 hm R [] R R R

/-! (*trireme/world.World).register -/
def world_World_register.l1 : List T_api_Inst → Nat → T_world_World → Option T_world_World
 | [], k, w3 => some w3
 | x3 :: l, k, w3 =>
  (if ((x3.State != 2) || (decide (((V.mg w3.held x3.Name).getD 0) > 0))) = true then some true else (yard_Find w3.ms x3.Name).bind fun r2 =>
  some (decide (r2 ≥ 0))).bind fun c2 =>
  if c2 = true then
   world_World_register.l1 l (k + 1) w3
  else
   ((group_Find w3.groups x3.Group).bind fun r3 =>
   (V.gl w3.groups r3).bind fun x4 =>
   some x4).bind fun g2 =>
   (group_Number g2 x3.Name).bind fun r5 =>
   (group_Machine g2 r5).bind fun r6 =>
   (V.ap 128 w3.ms [r6]).bind fun l2 =>
   world_World_register.l1 l (k + 1) (⟨(), w3.groups, w3.budgets, l2, w3.bs, w3.held⟩ : T_world_World)
def world_World_register (w : T_world_World) (c : T_cloud_Cloud) (pools : List T_cloud_pool) (insts : List T_cloud_inst) : Option T_world_World :=
 (cloud_Cloud_Insts c pools insts).bind fun r =>
 (world_World_register.l1 r 0 w).bind fun x2 =>
 some x2
theorem K48 (A0 A1 : Nat) (w : T_world_World) (c : T_cloud_Cloud) (pools : List T_cloud_pool) (insts : List T_cloud_inst) (b : Nat) (ob : Option Nat) (cap : Nat) (ob2 : Option Nat) (cap2 : Nat) (ob3 : Option Nat) (cap3 : Nat) (ob4 : Option Nat) (cap4 : Nat) (b2 : Nat) (b3 : Nat) (ob5 : Option Nat) (cap5 : Nat) (ob6 : Option Nat) (cap6 : Nat) (bs : List Nat) (bs2 : List Nat) : ∀ r : T_world_World, world_World_register w c pools insts = some r → VC Tryz.prog 63 [.ptr b 0] [.box b 43 [.ptr b3 0, Z139 ob w.groups cap, Z103 ob2 w.budgets cap2, Z68 ob3 w.ms cap3, Z64 ob4 w.bs cap4, .map b2], Q139 ob cap w.groups, Q103 ob2 cap2 w.budgets, Q68 ob3 cap3 w.ms, Q64 ob4 cap4 w.bs, .map b2 (List.map (pf VV.str (VV.int .i64)) w.held), .box b3 149 [Z140 A0 A1 ob5 c.pools cap5, Z152 A0 A1 ob6 c.insts cap6, Iw c.delay, Iw c.now, Iw c.calls], Q140 A0 A1 ob5 cap5 c.pools, Q152 A0 A1 ob6 cap6 c.insts, .ar A0 144 bs (List.map T_cloud_pool.cells pools), .ar A1 157 bs2 (List.map (T_cloud_inst.cells A0 A1) insts)] fun zx zH => ∃ (ob0_1 : Option Nat) (cap0_1 : Nat) (ob0_2 : Option Nat) (cap0_2 : Nat) (ob0_3 : Option Nat) (cap0_3 : Nat) (ob0_4 : Option Nat) (cap0_4 : Nat) (b0_5 : Nat), zx = .tup [] ∧ zH = [.box b 43 [.ptr b3 0, Z139 ob0_1 r.groups cap0_1, Z103 ob0_2 r.budgets cap0_2, Z68 ob0_3 r.ms cap0_3, Z64 ob0_4 r.bs cap0_4, .map b0_5], Q139 ob0_1 cap0_1 r.groups, Q103 ob0_2 cap0_2 r.budgets, Q68 ob0_3 cap0_3 r.ms, Q64 ob0_4 cap0_4 r.bs, .map b0_5 (List.map (pf VV.str (VV.int .i64)) r.held), .box b3 149 [Z140 A0 A1 ob5 c.pools cap5, Z152 A0 A1 ob6 c.insts cap6, Iw c.delay, Iw c.now, Iw c.calls], Q140 A0 A1 ob5 cap5 c.pools, Q152 A0 A1 ob6 cap6 c.insts, .ar A0 144 bs (List.map T_cloud_pool.cells pools), .ar A1 157 bs2 (List.map (T_cloud_inst.cells A0 A1) insts)] := by
 refine Cw [] Tryz.func63 R R R fun r hm=>?_
 unfold world_World_register at hm
 refine Ae<|Ab tbk [0] 4 R R<|Bb (Bg [6,7,8,9,10,0,1,2,3,4,5] R)<|Ad R R<|Cp hm 5 R fn27 R (K43 A0 A1 _ _ _ _ _ _ _ _ _ _) fun r ob7 cap7 hm=>Bb (A7 0 [(9,L70 r)] R ⟨⟨_,R,.here _ R⟩,trivial⟩ (FzH.refl _))<|Aa R R (Ay T_api_Inst.vv R Cu)<|Aa R R (Ai R)<|Ac<|B7 9 R fun h5=>Cf hm (fun _ (gg:Option Nat × Nat)=>[]) (fun x2 (gg:Option Nat × Nat)=>[.box b3 149 [Z140 A0 A1 ob5 c.pools cap5,Z152 A0 A1 ob6 c.insts cap6,Iw c.delay,Iw c.now,Iw c.calls],Q140 A0 A1 ob5 cap5 c.pools,Q152 A0 A1 ob6 cap6 c.insts,.ar A0 144 bs (List.map T_cloud_pool.cells pools),.ar A1 157 bs2 (List.map (T_cloud_inst.cells A0 A1) insts),.box b 43 [.ptr b3 0,Z139 ob x2.groups cap,Z103 ob2 x2.budgets cap2,Z68 gg.1 x2.ms gg.2,Z64 ob4 x2.bs cap4,.map b2],Q139 ob cap x2.groups,Q103 ob2 cap2 x2.budgets,Q68 gg.1 gg.2 x2.ms,Q64 ob4 cap4 x2.bs,.map b2 (List.map (pf VV.str (VV.int .i64)) x2.held)]) (fun o hm=>?_) fun x2=>Pq fun ob10 cap10 hm=> ?_
 ·refine Cj (r) (fun zl zk (zs:T_world_World)=>world_World_register.l1 zl zk zs) (fun k _ (_:Option Nat × Nat)=>[(0,.ptr b 0),(9,L70 r),(10,Iw (r.length : Int)),(11,Iw (k : Int))]) (fun _ zs (zg:Option Nat × Nat)=>[.box b3 149 [Z140 A0 A1 ob5 c.pools cap5,Z152 A0 A1 ob6 c.insts cap6,Iw c.delay,Iw c.now,Iw c.calls],Q140 A0 A1 ob5 cap5 c.pools,Q152 A0 A1 ob6 cap6 c.insts,.ar A0 144 bs (List.map T_cloud_pool.cells pools),.ar A1 157 bs2 (List.map (T_cloud_inst.cells A0 A1) insts),.box b 43 [.ptr b3 0,Z139 ob zs.groups cap,Z103 ob2 zs.budgets cap2,Z68 zg.1 zs.ms zg.2,Z64 ob4 zs.bs cap4,.map b2],Q139 ob cap zs.groups,Q103 ob2 cap2 zs.budgets,Q68 zg.1 zg.2 zs.ms,Q64 ob4 cap4 zs.bs,.map b2 (List.map (pf VV.str (VV.int .i64)) zs.held)]) w (ob3,cap3) hm (Ah [0,1,2,3,4,5,6,7,8,9,10] (by kernel_rfl) (by kernel_rfl)) (fun k w3=>Pq fun ob9 cap9 hk hm=>?_) fun k x3 l w3=>Pq fun ob9 cap9 h6 hm=> ?_
  ·rw [world_World_register.l1] at hm
   exact Af tbk [] R R<|Ag<|Bp R (k_end hk)<|A4<|As (ob9,cap9) hm (Ah [0,1,2,3,4,5,6,7,8,9,10] (by kernel_rfl) (by kernel_rfl))
  rw [world_World_register.l1] at hm
  refine Af tbk [] R R<|Ag<|Bm R (k_lt h6)<|Ak<|Ag<|Au<|Ae<|Aa R R (Cc T_api_Inst.vv R R el54 h6)<|Aa R R (Bs R ld70 R)<|Ad R R<|Aq z70 fun b4=>Ad R R<|Al (i:=0) R R R ld70 R R R<|Ac<|Ag<|Ag<|Bw (Bg [9,0,1,2,3,4,5,6,7,8,10,11] R)<|Bn 1 mixed<|A6 tbk [0,1,2,3] [0] (by kernel_rfl) R R R<|VA.so [12,11,10,9,8,7,6,5,4,3,2,1,0] 27 18 R (fun K' J=>A6 tbk [4,5,6,7,8,9,10,11,12] [] (by kernel_rfl) R R R<|J 8 R R R) (fun h8 K' J=>A6 tbk [4,5,6,7,8,9] [6,0] (by kernel_rfl) R R R<|Dl 10 R R R R R R (by kernel_rfl) (Ct 10 (kf:=VV.str) (vf:=(VV.int .i64)) (l:=w3.held) (k:=x3.Name) (z:=(0 : Int)) false mk9 B4 R R R zc3 R)<|A6 tbk [11,12] [] (by kernel_rfl) R R R<|J 8 R R R)<|Ba 13 R R R (by kernel_rfl) (Ai R)<|Df hm [22,21,20,19,18,17,16,15,14,13,12,11,10,9,8,7,6,5,4,3,2,1,0] 37 28 R (fun _ K' h9 J hm=>A6 tbk [14,15,16,17,18,19,20,21,22] [] (by kernel_rfl) R R R<|J 8 R R (Bj hm)) (fun _ K' h9 J hm=>A6 tbk [14,15,16,17,18,19] [6,0] (by kernel_rfl) R R R<|Am 20 (by kernel_rfl)<|D2 R R R R R R<|Dj hm (A7 0 [(32,L68 w3.ms)] R ⟨⟨_,R,.here _ R⟩,trivial⟩ (FzH.refl _)) [.same,.same] R fn72 R (K46 _ _) (fun _=>R) (fun _=>R) fun r2 hm=>A6 tbk [21,22] [] (by kernel_rfl) R R R<|J 8 R R (Bj hm)) fun c2 hm=>A5 (by kernel_rfl)<|An hm R (fun h12 hm=>A4<|A9 tbk [] R R<|Ap w3 (ob9,cap9) hm (Be [2,3,4,5,6,7,8,9,0,10,11] (by kernel_rfl) ⟨R,R,R,congrArg some (k_next h6 h5),trivial⟩)) fun h12 hm=>Ak<|De hm (fun _ (gg:Nat)=>[(0,.ptr b 0),(3,.ptr b4 0),(4,.ptr gg 0),(9,L70 r),(10,Iw (r.length : Int)),(11,Iw (k : Int))]) (fun g2 (gg:Nat)=>[X139 gg g2,Q139 ob cap w3.groups,Q68 ob9 cap9 w3.ms,X70 b4 x3,.box b3 149 [Z140 A0 A1 ob5 c.pools cap5,Z152 A0 A1 ob6 c.insts cap6,Iw c.delay,Iw c.now,Iw c.calls],Q140 A0 A1 ob5 cap5 c.pools,Q152 A0 A1 ob6 cap6 c.insts,.ar A0 144 bs (List.map T_cloud_pool.cells pools),.ar A1 157 bs2 (List.map (T_cloud_inst.cells A0 A1) insts),.box b 43 [.ptr b3 0,Z139 ob w3.groups cap,Z103 ob2 w3.budgets cap2,Z68 ob9 w3.ms cap9,Z64 ob4 w3.bs cap4,.map b2],Q103 ob2 cap2 w3.budgets,Q64 ob4 cap4 w3.bs,.map b2 (List.map (pf VV.str (VV.int .i64)) w3.held)]) (fun o2 hm=>?_) fun g2 b5 hm=> ?_
  ·refine Bw (Bg [8,0,1,2,3,4,5,6,7,9,10,11] R)<|Bn 1 mixed<|A6 tbk [0,1,2,3,4,5,6,7,8,9] [7,7,1] (by kernel_rfl) R R R<|?_
   refine B3 [10,13] (by kernel_rfl) ⟨?_,?_,trivial⟩
   ·refine Ao R R R<|Dj hm (A7 0 [(41,L139 w3.groups),(45,L139 w3.groups)] R ⟨⟨_,R,.here _ R⟩,⟨_,R,.here _ R⟩,trivial⟩ (FzH.refl _)) [.same,.same] R fn124 R (K25 _ _) (fun _=>R) (fun _=>R) fun r3 hm=>Bd hm fun x4 h17 hm=>D7 0 R (gl_pos T_api_Group.vv h17) fun b6 h18=> ?_
    subst h18
    refine Ba 11 R R R (by kernel_rfl) (Cs T_api_Group.vv R R el37 h17)<|?_
    refine B3 [12,13] (by kernel_rfl) ⟨?_,?_,trivial⟩
    ·exact Ao R R R<|Cb (Ck (i:=0) (y:=T_api_Group.vv x4) R R R (gl_map _ (gl_some h17).2) ld139 R)<|Am 13 (by kernel_rfl)<|Ao R R R<|Aq z139 fun b7=>Am 14 (by kernel_rfl)<|Ao R R R<|Al (i:=0) R R R ld139 R R R<|A5 (by kernel_rfl)<|As b7 hm (Ah [0,1,2,3,4,5,6,7,8,9,10,11,12] (by kernel_rfl) (by kernel_rfl))
    ·exact Ao R R R<|Aq z139 fun b8=>Am 12 (by kernel_rfl)<|Ao R R R<|Cb (Ck (i:=1) (y:=T_api_Group.vv x4) R R R (gl_map _ (gl_some h17).2) ld139 R)<|Am 14 (by kernel_rfl)<|Ao R R R<|Al (i:=0) R R R ld139 R R R<|A5 (by kernel_rfl)<|As b8 hm (Ah [0,1,2,3,4,5,6,7,8,9,10,11,12] (by kernel_rfl) (by kernel_rfl))
   ·refine Ao R R R<|Aq z139 fun b9=>Am 10 (by kernel_rfl)<|Ao R R R<|Dj hm (A7 1 [(41,L139 w3.groups),(45,L139 w3.groups)] R ⟨⟨_,R,.here _ R⟩,⟨_,R,.here _ R⟩,trivial⟩ (FzH.refl _)) [.same,.same] R fn124 R (K25 _ _) (fun _=>R) (fun _=>R) fun r4 hm=>Bd hm fun x5 h23 hm=>D7 1 R (gl_pos T_api_Group.vv h23) fun b10 h24=> ?_
    subst h24
    exact Ba 11 R R R (by kernel_rfl) (Cs T_api_Group.vv R R el37 h23)<|Am 12 (by kernel_rfl)<|Ao R R R<|Cb (Ck (i:=1) (y:=T_api_Group.vv x5) R R R (gl_map _ (gl_some h23).2) ld139 R)<|Am 14 (by kernel_rfl)<|Ao R R R<|Al (i:=0) R R R ld139 R R R<|A5 (by kernel_rfl)<|As b9 hm (Ah [0,1,2,3,4,5,6,7,8,9,10,11,12] (by kernel_rfl) (by kernel_rfl))
  refine Bw (Bg [2,9,0,1,3,4,5,6,7,8,10,11,12] R)<|Bn 2 mixed<|A6 tbk [0,1,2,3,5,6,7,8] [0,0,2] (by kernel_rfl) R R R<|?_
  refine B3 [4,9] (by kernel_rfl) ⟨?_,?_,trivial⟩
  ·refine Ao R R R<|Cb (B6 (i:=1) R R ld39 R)<|Am 9 (by kernel_rfl)<|Bd hm fun r5 h25 hm=>Ao R R R<|Aw 0 R fn126 R (K47 g2 x3.Name r5 h25) fun _ _ h30=> ?_
   obtain ⟨rfl,rfl⟩:=h30
   refine Am 10 (by kernel_rfl)<|Bd hm fun r6 h26 hm=>Ao R R R<|Aw 0 R fn125 R (K28 g2 r5 r6 h26) fun _ _ h29=> ?_
   obtain ⟨rfl,rfl⟩:=h29
   exact Am 11 (by kernel_rfl)<|Ao R R R<|Bc ap39 R R R R R fun b11=>Am 12 (by kernel_rfl)<|Bd hm fun l2 h28 hm=>Ao R R R<|Bv 1 T_api_Machine.vv (l:=w3.ms) (l2:=[r6]) ap39 R R (sT_row 0 T_api_Machine.vv el39 R R) h28 fun ob11 cap11=>A6 tbk [13,14] [] (by kernel_rfl) R R R<|Am 15 (by kernel_rfl)<|Ao R R R<|Al (i:=2) R R R ld39 R R R<|A5 (by kernel_rfl)<|A9 tbk [] R R<|Ap (⟨(),w3.groups,w3.budgets,l2,w3.bs,w3.held⟩ : T_world_World) (ob11,cap11) hm (Be [6,7,8,9,10,2,4,11,1,12,13] (by kernel_rfl) ⟨R,R,R,congrArg some (k_next h6 h5),trivial⟩)
  ·refine Bd hm fun r7 h31 hm=>Ao R R R<|Aw 0 R fn126 R (K47 g2 x3.Name r7 h31) fun _ _ h42=> ?_
   obtain ⟨rfl,rfl⟩:=h42
   refine B3 [4,10] (by kernel_rfl) ⟨?_,?_,trivial⟩
   ·refine Ao R R R<|Cb (B6 (i:=1) R R ld39 R)<|Am 10 (by kernel_rfl)<|Bd hm fun r8 h32 hm=>Ao R R R<|Aw 0 R fn125 R (K28 g2 r7 r8 h32) fun _ _ h35=> ?_
    obtain ⟨rfl,rfl⟩:=h35
    exact Am 11 (by kernel_rfl)<|Ao R R R<|Bc ap39 R R R R R fun b12=>Am 12 (by kernel_rfl)<|Bd hm fun l3 h34 hm=>Ao R R R<|Bv 1 T_api_Machine.vv (l:=w3.ms) (l2:=[r8]) ap39 R R (sT_row 0 T_api_Machine.vv el39 R R) h34 fun ob12 cap12=>A6 tbk [13,14] [] (by kernel_rfl) R R R<|Am 15 (by kernel_rfl)<|Ao R R R<|Al (i:=2) R R R ld39 R R R<|A5 (by kernel_rfl)<|A9 tbk [] R R<|Ap (⟨(),w3.groups,w3.budgets,l3,w3.bs,w3.held⟩ : T_world_World) (ob12,cap12) hm (Be [6,7,8,9,10,2,4,11,1,12,13] (by kernel_rfl) ⟨R,R,R,congrArg some (k_next h6 h5),trivial⟩)
   ·refine Bd hm fun r9 h36 hm=>Ao R R R<|Aw 0 R fn125 R (K28 g2 r7 r9 h36) fun _ _ h41=> ?_
    obtain ⟨rfl,rfl⟩:=h41
    refine B3 [4,11] (by kernel_rfl) ⟨?_,?_,trivial⟩
    ·exact Ao R R R<|Cb (B6 (i:=1) R R ld39 R)<|Am 11 (by kernel_rfl)<|Ao R R R<|Bc ap39 R R R R R fun b13=>Am 12 (by kernel_rfl)<|Bd hm fun l4 h38 hm=>Ao R R R<|Bv 1 T_api_Machine.vv (l:=w3.ms) (l2:=[r9]) ap39 R R (sT_row 0 T_api_Machine.vv el39 R R) h38 fun ob13 cap13=>A6 tbk [13,14] [] (by kernel_rfl) R R R<|Am 15 (by kernel_rfl)<|Ao R R R<|Al (i:=2) R R R ld39 R R R<|A5 (by kernel_rfl)<|A9 tbk [] R R<|Ap (⟨(),w3.groups,w3.budgets,l4,w3.bs,w3.held⟩ : T_world_World) (ob13,cap13) hm (Be [6,7,8,9,10,2,4,11,1,12,13] (by kernel_rfl) ⟨R,R,R,congrArg some (k_next h6 h5),trivial⟩)
    ·exact Ao R R R<|Bc ap39 R R R R R fun b14=>Am 4 (by kernel_rfl)<|Ao R R R<|Cb (B6 (i:=2) R R ld39 R)<|Am 12 (by kernel_rfl)<|Bd hm fun l5 h40 hm=>Ao R R R<|Bv 1 T_api_Machine.vv (l:=w3.ms) (l2:=[r9]) ap39 R R (sT_row 0 T_api_Machine.vv el39 R R) h40 fun ob14 cap14=>A6 tbk [13,14] [] (by kernel_rfl) R R R<|Am 15 (by kernel_rfl)<|Ao R R R<|Al (i:=2) R R R ld39 R R R<|A5 (by kernel_rfl)<|A9 tbk [] R R<|Ap (⟨(),w3.groups,w3.budgets,l5,w3.bs,w3.held⟩ : T_world_World) (ob14,cap14) hm (Be [6,7,8,9,10,2,4,11,1,12,13] (by kernel_rfl) ⟨R,R,R,congrArg some (k_next h6 h5),trivial⟩)
 obtain rfl:=Option.some.inj hm
 exact ⟨.inr R,_,.nil,[5,6,7,8,9,10,0,1,2,3,4],_,R,ob,cap,ob2,cap2,ob10,cap10,ob4,cap4,b2,R,R⟩

/-! trireme/world.New -/
def world_New.l1 : List T_api_Group → Nat → Int → Option Int
 | [], k, sum2 => some sum2
 | x2 :: l2, k, sum2 =>
  world_New.l1 l2 (k + 1) (i64.wrap (sum2 + x2.Max))
def world_New.l2 : List T_api_Group → Nat → Int → Option Int
 | [], k2, sum5 => some sum5
 | x3 :: l3, k2, sum5 =>
  world_New.l2 l3 (k2 + 1) (i64.wrap (sum5 + x3.Max))
def world_New.l3 : List T_api_Group → Nat → T_world_World → Option T_world_World
 | [], k3, w2 => some (⟨(), w2.groups, [], [], [], w2.held⟩ : T_world_World)
 | x4 :: l4, k3, w2 =>
  (world_machine x4.Like).bind fun r4 =>
  (V.ap 176 w2.groups [(⟨x4.Name, x4.Min, x4.Max, r4, x4.Price, x4.Rank⟩ : T_api_Group)]).bind fun l5 =>
  world_New.l3 l4 (k3 + 1) (⟨(), l5, [], [], [], w2.held⟩ : T_world_World)
def world_New (l : List T_api_Group) (b : List T_api_Budget) (delay : Int) (pools : List T_cloud_pool) (insts : List T_cloud_inst) : Option ((Option (T_world_World × T_cloud_Cloud)) × Int × List T_cloud_pool × List T_cloud_inst) :=
 (cloud_New l delay pools insts).bind fun r =>
 po r.1 (
  if (r.2.1 != 0) = true then
   some (none, r.2.1, r.2.2.1, r.2.2.2)
  else
   (budget_Right b).bind fun r2 =>
   if (!r2) = true then
    some (none, 12, r.2.2.1, r.2.2.2)
   else
    (world_New.l1 l 0 (0 : Int)).bind fun sum32 =>
    if (decide (sum32 > 200)) = true then
     some (none, 7, r.2.2.1, r.2.2.2)
    else
     none) fun x =>
 if (r.2.1 != 0) = true then
  some (none, r.2.1, r.2.2.1, r.2.2.2)
 else
  (budget_Right b).bind fun r3 =>
  if (!r3) = true then
   some (none, 12, r.2.2.1, r.2.2.2)
  else
   (world_New.l2 l 0 (0 : Int)).bind fun sum62 =>
   if (decide (sum62 > 200)) = true then
    some (none, 7, r.2.2.1, r.2.2.2)
   else
    (world_New.l3 l 0 (⟨(), ([] : List T_api_Group), [], [], [], ([] : List (ByteArray × Int))⟩ : T_world_World)).bind fun w32 =>
    (world_own b).bind fun r5 =>
    (world_World_register (⟨(), w32.groups, r5, ([] : List T_api_Machine), ([] : List T_api_Bound), w32.held⟩ : T_world_World) x r.2.2.1 r.2.2.2).bind fun r6 =>
    some ((some (r6, x)), 0, r.2.2.1, r.2.2.2)
theorem K49 (A0 A1 : Nat) (l : List T_api_Group) (b : List T_api_Budget) (delay : Int) (pools : List T_cloud_pool) (insts : List T_cloud_inst) (bs : List Nat) (bs2 : List Nat) : ∀ r : (Option (T_world_World × T_cloud_Cloud)) × Int × List T_cloud_pool × List T_cloud_inst, world_New l b delay pools insts = some r → VC Tryz.prog 30 [L139 l, L103 b, Iw delay] [.ar A0 144 bs (List.map T_cloud_pool.cells pools), .ar A1 157 bs2 (List.map (T_cloud_inst.cells A0 A1) insts)] fun zx zH => ∃ (b_0_1 : Nat) (b_0_2 : Nat) (ob_0_3 : Option Nat) (cap_0_4 : Nat) (ob_0_5 : Option Nat) (cap_0_6 : Nat) (ob_0_7 : Option Nat) (cap_0_8 : Nat) (ob_0_9 : Option Nat) (cap_0_10 : Nat) (ob_0_11 : Option Nat) (cap_0_12 : Nat) (ob_0_13 : Option Nat) (cap_0_14 : Nat) (b_0_15 : Nat) (bs_0 : List Nat) (bs_1 : List Nat), zx = .tup [(po r.1 .nilptr fun _ => .ptr b_0_1 0), Iw r.2.1] ∧ zH = (po r.1 [] fun zb => [.box b_0_1 43 [.ptr b_0_2 0, Z139 ob_0_7 zb.1.groups cap_0_8, Z103 ob_0_9 zb.1.budgets cap_0_10, Z68 ob_0_11 zb.1.ms cap_0_12, Z64 ob_0_13 zb.1.bs cap_0_14, .map b_0_15], Q139 ob_0_7 cap_0_8 zb.1.groups, Q103 ob_0_9 cap_0_10 zb.1.budgets, Q68 ob_0_11 cap_0_12 zb.1.ms, Q64 ob_0_13 cap_0_14 zb.1.bs, .map b_0_15 (List.map (pf VV.str (VV.int .i64)) zb.1.held), .box b_0_2 149 [Z140 A0 A1 ob_0_3 zb.2.pools cap_0_4, Z152 A0 A1 ob_0_5 zb.2.insts cap_0_6, Iw zb.2.delay, Iw zb.2.now, Iw zb.2.calls], Q140 A0 A1 ob_0_3 cap_0_4 zb.2.pools, Q152 A0 A1 ob_0_5 cap_0_6 zb.2.insts]) ++ [.ar A0 144 bs_0 (List.map T_cloud_pool.cells r.2.2.1), .ar A1 157 bs_1 (List.map (T_cloud_inst.cells A0 A1) r.2.2.2)] := by
 refine Cw [.tmp 6,.tmp 7] Tryz.func30 R R R fun r hm=>?_
 unfold world_New at hm
 refine Af tbk [] R R<|Ae<|Ab tbk [] 2 R R<|Bd hm fun r h1 hm=>Ad R R<|Aw 2 R fn90 R (K30 A0 A1 l delay pools insts bs bs2 r h1) fun _ _ h46=> ?_
 obtain ⟨b2,ob,cap,ob2,cap2,bs3,bs4,rfl,rfl⟩:=h46
 rcases po_or hm with ⟨h45,hm⟩ | ⟨x,h45,hm⟩
 ·rw [h45]
  refine Ab tbk [] 5 R R<|Ac<|Ag<|Af tbk [] R R<|An hm R (fun h5 hm=>?_) fun h5 hm=> ?_
  ·refine Af tbk [] R R<|?_
   obtain rfl:=Option.some.inj hm
   exact Bx ⟨.inl R,_,.cons (.tmp _ _ R) (.cons (.tmp _ _ R) .nil),[0,1],_,R,0,0,none,0,none,0,none,0,none,0,none,0,none,0,0,bs3,bs4,R,R⟩
  refine Ak<|Ag<|Ae<|Aa R R (Ai R)<|Ad R R<|Ax hm 0 R fn91 R (K31 _) fun r2 hm=>Aa R R (Ci R)<|Ac<|An hm R (fun h7 hm=>?_) fun h7 hm=> ?_
  ·refine Af tbk [] R R<|?_
   obtain rfl:=Option.some.inj hm
   exact Bx ⟨.inl R,_,.cons (.tmp _ _ R) (.cons (.tmp _ _ R) .nil),[0,1],_,R,0,0,none,0,none,0,none,0,none,0,none,0,none,0,0,bs3,bs4,R,R⟩
  refine Ak<|Af tbk [] R R<|Ag<|Ae<|Aa R R (Ai R)<|Aa R R (Ay T_api_Group.vv R Co)<|Aa R R (Ai R)<|Ac<|B7 0 R fun h10=>Cf hm (fun sum32 (_:Unit)=>[(0,L139 l),(1,L103 b),(8,.nilptr),(10,Iw sum32)]) (fun _ (_:Unit)=>[.ar A0 144 bs3 (List.map T_cloud_pool.cells r.2.2.1),.ar A1 157 bs4 (List.map (T_cloud_inst.cells A0 A1) r.2.2.2)]) (fun o hm=>?_) fun sum32 _ hm=> ?_
  ·refine Cj (l) (fun zl zk (zs:Int)=>world_New.l1 zl zk zs) (fun k zs (_:Unit)=>[(0,L139 l),(1,L103 b),(8,.nilptr),(10,Iw zs),(28,L139 l),(29,Iw (l.length : Int)),(30,Iw (k : Int))]) (fun _ _ (_:Unit)=>[.ar A0 144 bs3 (List.map T_cloud_pool.cells r.2.2.1),.ar A1 157 bs4 (List.map (T_cloud_inst.cells A0 A1) r.2.2.2)]) _ () hm (Ah [0,1] R R) (fun k sum2 _ hk hm=>?_) fun k x2 l2 sum2 _ h11 hm=> ?_
   ·rw [world_New.l1] at hm
    exact Af tbk [] R R<|Ag<|Bp R (k_end hk)<|A4<|As () hm (Ah [0,1] R R)
   rw [world_New.l1] at hm
   exact Af tbk [] R R<|Ag<|Bm R (k_lt h11)<|Ak<|Ag<|Au<|Ae<|Aa R R (Cc T_api_Group.vv R R el37 h11)<|Aa R R (Bs R ld139 R)<|Ad R R<|Aq z139 fun b3=>Ad R R<|Al (i:=0) R R R ld139 R R R<|Ac<|A9 tbk [0] R R<|A9 tbk [] R R<|Ap _ () hm (Be [1,2] R ⟨R,R,R,R,R,R,congrArg some (k_next h11 h10),trivial⟩)
  refine Ag<|Af tbk [] R R<|An hm R (fun h13 hm=>?_) fun h13 hm=> ?_
  ·refine Af tbk [] R R<|?_
   obtain rfl:=Option.some.inj hm
   exact Bx ⟨.inl R,_,.cons (.tmp _ _ R) (.cons (.tmp _ _ R) .nil),[0,1],_,R,0,0,none,0,none,0,none,0,none,0,none,0,none,0,0,bs3,bs4,R,R⟩
  exact Ak<|Ae<|Aa R R (Ai R)<|Ad R R<|Db fun b4=>absurd hm nofun
 ·rw [h45]
  refine Ab tbk [] 5 R R<|Ac<|Ag<|Af tbk [] R R<|An hm R (fun h15 hm=>?_) fun h15 hm=> ?_
  ·refine Af tbk [] R R<|?_
   obtain rfl:=Option.some.inj hm
   exact Bx ⟨.inl R,_,.cons (.tmp _ _ R) (.cons (.tmp _ _ R) .nil),[3,4],_,R,0,0,none,0,none,0,none,0,none,0,none,0,none,0,0,bs3,bs4,R,R⟩
  refine Ak<|Ag<|Ae<|Aa R R (Ai R)<|Ad R R<|Ax hm 0 R fn91 R (K31 _) fun r3 hm=>Aa R R (Ci R)<|Ac<|An hm R (fun h17 hm=>?_) fun h17 hm=> ?_
  ·refine Af tbk [] R R<|?_
   obtain rfl:=Option.some.inj hm
   exact Bx ⟨.inl R,_,.cons (.tmp _ _ R) (.cons (.tmp _ _ R) .nil),[3,4],_,R,0,0,none,0,none,0,none,0,none,0,none,0,none,0,0,bs3,bs4,R,R⟩
  refine Ak<|Af tbk [] R R<|Ag<|Ae<|Aa R R (Ai R)<|Aa R R (Ay T_api_Group.vv R Co)<|Aa R R (Ai R)<|Ac<|B7 0 R fun h20=>Cf hm (fun sum62 (_:Unit)=>[(0,L139 l),(1,L103 b),(8,.ptr b2 0),(10,Iw sum62)]) (fun _ (_:Unit)=>[.box b2 149 [Z140 A0 A1 ob x.pools cap,Z152 A0 A1 ob2 x.insts cap2,Iw x.delay,Iw x.now,Iw x.calls],Q140 A0 A1 ob cap x.pools,Q152 A0 A1 ob2 cap2 x.insts,.ar A0 144 bs3 (List.map T_cloud_pool.cells r.2.2.1),.ar A1 157 bs4 (List.map (T_cloud_inst.cells A0 A1) r.2.2.2)]) (fun o2 hm=>?_) fun sum62 _ hm=> ?_
  ·refine Cj (l) (fun zl zk (zs:Int)=>world_New.l2 zl zk zs) (fun k2 zs (_:Unit)=>[(0,L139 l),(1,L103 b),(8,.ptr b2 0),(10,Iw zs),(28,L139 l),(29,Iw (l.length : Int)),(30,Iw (k2 : Int))]) (fun _ _ (_:Unit)=>[.box b2 149 [Z140 A0 A1 ob x.pools cap,Z152 A0 A1 ob2 x.insts cap2,Iw x.delay,Iw x.now,Iw x.calls],Q140 A0 A1 ob cap x.pools,Q152 A0 A1 ob2 cap2 x.insts,.ar A0 144 bs3 (List.map T_cloud_pool.cells r.2.2.1),.ar A1 157 bs4 (List.map (T_cloud_inst.cells A0 A1) r.2.2.2)]) _ () hm (Ah [0,1,2,3,4] R R) (fun k2 sum5 _ hk hm=>?_) fun k2 x3 l3 sum5 _ h21 hm=> ?_
   ·rw [world_New.l2] at hm
    exact Af tbk [] R R<|Ag<|Bp R (k_end hk)<|A4<|As () hm (Ah [0,1,2,3,4] R R)
   rw [world_New.l2] at hm
   exact Af tbk [] R R<|Ag<|Bm R (k_lt h21)<|Ak<|Ag<|Au<|Ae<|Aa R R (Cc T_api_Group.vv R R el37 h21)<|Aa R R (Bs R ld139 R)<|Ad R R<|Aq z139 fun b5=>Ad R R<|Al (i:=0) R R R ld139 R R R<|Ac<|A9 tbk [0] R R<|A9 tbk [] R R<|Ap _ () hm (Be [1,2,3,4,5] R ⟨R,R,R,R,R,R,congrArg some (k_next h21 h20),trivial⟩)
  refine Ag<|Af tbk [] R R<|An hm R (fun h23 hm=>?_) fun h23 hm=> ?_
  ·refine Af tbk [] R R<|?_
   obtain rfl:=Option.some.inj hm
   exact Bx ⟨.inl R,_,.cons (.tmp _ _ R) (.cons (.tmp _ _ R) .nil),[3,4],_,R,0,0,none,0,none,0,none,0,none,0,none,0,none,0,0,bs3,bs4,R,R⟩
  refine Ak<|Ae<|Aa R R (Ai R)<|Ad R R<|Db fun b6=>Aa R R (Bo pl43 R R)<|Ad R R<|Bi R R fun b7=>Aa R R (Aj R)<|Ac<|Ag<|Ae<|Aa R R (Ai R)<|Aa R R (Ay T_api_Group.vv R Co)<|Aa R R (Ai R)<|Ac<|B7 45 R fun h30=>Cf hm (fun _ (gg:Option Nat × Nat)=>[(1,L103 b),(13,.ptr b7 0)]) (fun w32 (gg:Option Nat × Nat)=>[Q139 gg.1 gg.2 w32.groups,.box b7 43 [.ptr b2 0,Z139 gg.1 w32.groups gg.2,.sl none 0 0,.sl none 0 0,.sl none 0 0,.map b6],.map b6 (List.map (pf VV.str (VV.int .i64)) w32.held),.box b2 149 [Z140 A0 A1 ob x.pools cap,Z152 A0 A1 ob2 x.insts cap2,Iw x.delay,Iw x.now,Iw x.calls],Q140 A0 A1 ob cap x.pools,Q152 A0 A1 ob2 cap2 x.insts,.ar A0 144 bs3 (List.map T_cloud_pool.cells r.2.2.1),.ar A1 157 bs4 (List.map (T_cloud_inst.cells A0 A1) r.2.2.2)]) (fun o3 hm=>?_) fun w32=>Pq fun ob5 cap5 hm=> ?_
  ·refine Cj (l) (fun zl zk (zs:T_world_World)=>world_New.l3 zl zk zs) (fun k3 _ (_:Option Nat × Nat)=>[(1,L103 b),(13,.ptr b7 0),(45,L139 l),(46,Iw (l.length : Int)),(47,Iw (k3 : Int))]) (fun _ zs (zg:Option Nat × Nat)=>[Q139 zg.1 zg.2 zs.groups,.box b7 43 [.ptr b2 0,Z139 zg.1 zs.groups zg.2,.sl none 0 0,.sl none 0 0,.sl none 0 0,.map b6],.map b6 (List.map (pf VV.str (VV.int .i64)) zs.held),.box b2 149 [Z140 A0 A1 ob x.pools cap,Z152 A0 A1 ob2 x.insts cap2,Iw x.delay,Iw x.now,Iw x.calls],Q140 A0 A1 ob cap x.pools,Q152 A0 A1 ob2 cap2 x.insts,.ar A0 144 bs3 (List.map T_cloud_pool.cells r.2.2.1),.ar A1 157 bs4 (List.map (T_cloud_inst.cells A0 A1) r.2.2.2)]) (⟨(),([] : List T_api_Group),[],[],[],([] : List (ByteArray × Int))⟩ : T_world_World) (none,0) hm (B5 (Bk 139) (Ah [0,1,2,3,4,5,6,7] (by kernel_rfl) (by kernel_rfl))) (fun k3 w2=>Pq fun ob4 cap4 hk hm=>?_) fun k3 x4 l4 w2=>Pq fun ob4 cap4 h31 hm=> ?_
   ·rw [world_New.l3] at hm
    exact Af tbk [] R R<|Ag<|Bp R (k_end hk)<|A4<|As (ob4,cap4) hm (Ah [0,1,2,3,4,5,6,7] (by kernel_rfl) (by kernel_rfl))
   rw [world_New.l3] at hm
   refine Af tbk [] R R<|Ag<|Bm R (k_lt h31)<|Ak<|Ag<|Au<|Ae<|Aa R R (Cc T_api_Group.vv R R el37 h31)<|Aa R R (Bs R ld139 R)<|Ad R R<|Aq z139 fun b8=>Ad R R<|Al (i:=0) R R R ld139 R R R<|Ac<|Ae<|Ab tbk [0] 2 R R<|Ad R R<|Ax hm 0 R fn79 R (K32 _) fun r4 hm=>Aa R R (C8 R fa139_3)<|Ad R R<|Al (i:=0) R R R ld68 R R R<|Ac<|Bw (Bg [1,2,0,3,4,5,6,7,8] R)<|Bn 2 mixed<|A6 tbk [0,1,2,3,5] [0] (by kernel_rfl) R R R<|?_
   refine B3 [4,6] (by kernel_rfl) ⟨?_,?_,trivial⟩
   ·exact Ao R R R<|Cb (B6 (i:=1) R R ld37 R)<|Am 6 (by kernel_rfl)<|Ao R R R<|Bc ap37 R R R R R fun b9=>Am 7 (by kernel_rfl)<|Bd hm fun l5 h35 hm=>Ao R R R<|Bv 1 T_api_Group.vv (l:=w2.groups) (l2:=[(⟨x4.Name,x4.Min,x4.Max,r4,x4.Price,x4.Rank⟩ : T_api_Group)]) ap37 R R (sT_row 0 T_api_Group.vv el37 R R) h35 fun ob6 cap6=>A6 tbk [8,9] [] (by kernel_rfl) R R R<|Am 10 (by kernel_rfl)<|Ao R R R<|Al (i:=2) R R R ld37 R R R<|A5 (by kernel_rfl)<|A9 tbk [] R R<|Ap (⟨(),l5,[],[],[],w2.held⟩ : T_world_World) (ob6,cap6) hm (Be [1,2,4,5,6,7,8,9] (by kernel_rfl) ⟨R,R,R,R,congrArg some (k_next h31 h30),trivial⟩)
   ·exact Ao R R R<|Bc ap37 R R R R R fun b10=>Am 4 (by kernel_rfl)<|Ao R R R<|Cb (B6 (i:=2) R R ld37 R)<|Am 7 (by kernel_rfl)<|Bd hm fun l6 h37 hm=>Ao R R R<|Bv 1 T_api_Group.vv (l:=w2.groups) (l2:=[(⟨x4.Name,x4.Min,x4.Max,r4,x4.Price,x4.Rank⟩ : T_api_Group)]) ap37 R R (sT_row 0 T_api_Group.vv el37 R R) h37 fun ob7 cap7=>A6 tbk [8,9] [] (by kernel_rfl) R R R<|Am 10 (by kernel_rfl)<|Ao R R R<|Al (i:=2) R R R ld37 R R R<|A5 (by kernel_rfl)<|A9 tbk [] R R<|Ap (⟨(),l6,[],[],[],w2.held⟩ : T_world_World) (ob7,cap7) hm (Be [1,2,4,5,6,7,8,9] (by kernel_rfl) ⟨R,R,R,R,congrArg some (k_next h31 h30),trivial⟩)
  refine Ae<|Ab tbk [] 2 R R<|Ad R R<|Cp hm 0 R fn80 R (K33 _) fun r5 ob8 cap8 hm=>Ab tbk [] 2 R R<|Ad R R<|Al (i:=2) R R R ld38 R R R<|Ac<|Ae<|Aa R R (Ai R)<|Bb (B5 (Bk 68) (Bk 64))<|Bd hm fun r6 h43 hm=>Bb (Bg [4,3,2,1,0,5,6,7,8,9,10] R)<|Ad R R<|Aw 11 R fn63 R (K48 A0 A1 (⟨(),w32.groups,r5,([] : List T_api_Machine),([] : List T_api_Bound),w32.held⟩ : T_world_World) x r.2.2.1 r.2.2.2 b7 ob5 cap5 ob8 cap8 none 0 none 0 b6 b2 ob cap ob2 cap2 bs3 bs4 r6 h43) fun _ _ h44=> ?_
  obtain ⟨ob9,cap9,ob10,cap10,ob11,cap11,ob12,cap12,b11,rfl,rfl⟩:=h44
  refine Ac<|Af tbk [] R R<|?_
  obtain rfl:=Option.some.inj hm
  exact Bx ⟨.inl R,_,.cons (.tmp _ _ R) (.cons (.tmp _ _ R) .nil),[0,1,2,3,4,5,6,7,8,9,10],_,R,b7,b2,ob,cap,ob2,cap2,ob9,cap9,ob10,cap10,ob11,cap11,ob12,cap12,b11,bs3,bs4,R,R⟩

/-! trireme/triremelaw18.made -/
def law18_made.l1 (c : T_law18_Case) (pools : List T_cloud_pool) (insts : List T_cloud_inst) : Nat → Int → Option (Out ((Option (T_world_World × T_cloud_Cloud)) × List T_cloud_pool × List T_cloud_inst) Unit)
 | 0, _ => none
 | n + 1, i2 =>
  if (decide (i2 < (c.G.length : Int))) = true then
   (V.gl c.G i2).bind fun x =>
   if (decide (x.Min > 6)) = true then
    some (Out.ret (none, pools, insts))
   else
    law18_made.l1 c pools insts n (i64.wrap (i2 + 1))
  else
   some (Out.go ())
def law18_made (c : T_law18_Case) (pools : List T_cloud_pool) (insts : List T_cloud_inst) : Option ((Option (T_world_World × T_cloud_Cloud)) × List T_cloud_pool × List T_cloud_inst) :=
 (law18_fits c).bind fun r =>
 if ((!r) || (decide ((c.G.length : Int) > 4))) = true then
  some (none, pools, insts)
 else
  (law18_made.l1 c pools insts FU (0 : Int)).bind fun o =>
  o.on fun j =>
  (world_New c.G c.B c.Delay pools insts).bind fun r2 =>
  po r2.1 (
   if (r2.2.1 != 0) = true then
    some (none, r2.2.2.1, r2.2.2.2)
   else
    some (none, r2.2.2.1, r2.2.2.2)) fun x2 =>
  if (r2.2.1 != 0) = true then
   some (none, r2.2.2.1, r2.2.2.2)
  else
   some ((some (x2.1, x2.2)), r2.2.2.1, r2.2.2.2)
theorem K50 (A0 A1 : Nat) (c : T_law18_Case) (pools : List T_cloud_pool) (insts : List T_cloud_inst) (bs : List Nat) (bs2 : List Nat) : ∀ r : (Option (T_world_World × T_cloud_Cloud)) × List T_cloud_pool × List T_cloud_inst, law18_made c pools insts = some r → VC Tryz.prog 23 [T_law18_Case.vv c] [.ar A0 144 bs (List.map T_cloud_pool.cells pools), .ar A1 157 bs2 (List.map (T_cloud_inst.cells A0 A1) insts)] fun zx zH => ∃ (b_0_1 : Nat) (b_0_2 : Nat) (ob_0_3 : Option Nat) (cap_0_4 : Nat) (ob_0_5 : Option Nat) (cap_0_6 : Nat) (ob_0_7 : Option Nat) (cap_0_8 : Nat) (ob_0_9 : Option Nat) (cap_0_10 : Nat) (ob_0_11 : Option Nat) (cap_0_12 : Nat) (ob_0_13 : Option Nat) (cap_0_14 : Nat) (b_0_15 : Nat) (bs_0 : List Nat) (bs_1 : List Nat), zx = (po r.1 .nilptr fun _ => .ptr b_0_1 0) ∧ zH = (po r.1 [] fun zb => [.box b_0_1 43 [.ptr b_0_2 0, Z139 ob_0_7 zb.1.groups cap_0_8, Z103 ob_0_9 zb.1.budgets cap_0_10, Z68 ob_0_11 zb.1.ms cap_0_12, Z64 ob_0_13 zb.1.bs cap_0_14, .map b_0_15], Q139 ob_0_7 cap_0_8 zb.1.groups, Q103 ob_0_9 cap_0_10 zb.1.budgets, Q68 ob_0_11 cap_0_12 zb.1.ms, Q64 ob_0_13 cap_0_14 zb.1.bs, .map b_0_15 (List.map (pf VV.str (VV.int .i64)) zb.1.held), .box b_0_2 149 [Z140 A0 A1 ob_0_3 zb.2.pools cap_0_4, Z152 A0 A1 ob_0_5 zb.2.insts cap_0_6, Iw zb.2.delay, Iw zb.2.now, Iw zb.2.calls], Q140 A0 A1 ob_0_3 cap_0_4 zb.2.pools, Q152 A0 A1 ob_0_5 cap_0_6 zb.2.insts]) ++ [.ar A0 144 bs_0 (List.map T_cloud_pool.cells r.2.1), .ar A1 157 bs_1 (List.map (T_cloud_inst.cells A0 A1) r.2.2)] := by
 refine Cw [.tmp 2] Tryz.func23 R R R fun r hm=>?_
 unfold law18_made at hm
 refine Ae<|Ad R R<|Bi R R fun b=>Aa R R (Aj R)<|Ac<|Ag<|Ae<|Ab tbk [0] 1 R R<|Ad R R<|Ax hm 0 R fn29 R (K7 _) fun r hm=>Ab tbk [] 2 R R<|C3 5 14 9 R (fun K' J=>Ab tbk [] 5 R R<|J 4 R R R) (fun h3 K' J=>Ab tbk [0] 2 R R<|Bf R R R R R (Ay T_api_Group.vv R Co)<|Ab tbk [] 2 R R<|J 4 R R R)<|Ac<|An hm R (fun h4 hm=>?_) fun h4 hm=> ?_
 ·refine Af tbk [] R R<|?_
  obtain rfl:=Option.some.inj hm
  exact Bx ⟨.inl R,_,.cons (.tmp _ _ R) .nil,[1,2],_,R,0,0,none,0,none,0,none,0,none,0,none,0,none,0,0,bs,bs2,R,R⟩
 refine Ak<|Ag<|Af tbk [] R R<|B1 hm (fun _ (_:Unit)=>[(1,.ptr b 0)]) (fun _ (_:Unit)=>[X59 b c,.ar A0 144 bs (List.map T_cloud_pool.cells pools),.ar A1 157 bs2 (List.map (T_cloud_inst.cells A0 A1) insts)]) (fun o hm h6=>?_) fun j _ hm=> ?_
 ·refine B8 (fun zn (zs:Int)=>law18_made.l1 c pools insts zn zs) (fun zs (_:Unit)=>[(1,.ptr b 0),(3,Iw zs)]) (fun _ (_:Unit)=>[X59 b c,.ar A0 144 bs (List.map T_cloud_pool.cells pools),.ar A1 157 bs2 (List.map (T_cloud_inst.cells A0 A1) insts)]) _ () (fun _=>R) hm (Ah [0,1,2] R R) fun n i2 _ hm=> ?_
  rw [law18_made.l1] at hm
  refine Ag<|Ae<|Ab tbk [0] 3 R R<|Aa R R (Ay T_api_Group.vv R Co)<|Aa R R (Bl R R R)<|Ac<|An hm R (fun h7 hm=>?_) fun h7 hm=> ?_
  ·refine Ak<|Ag<|Au<|Ae<|Ab tbk [0] 3 R R<|Bd hm fun x h8 hm=>Aa R R (Br T_api_Group.vv R R el37 h8)<|Ab tbk [] 3 R R<|Ac<|An hm R (fun h9 hm=>?_) fun h9 hm=> ?_
   ·refine Af tbk [] R R<|have hm:=Lr hm h6; ?_
    obtain rfl:=Option.some.inj hm
    exact Bx ⟨.inl R,_,.cons (.tmp _ _ R) .nil,[1,2],_,R,0,0,none,0,none,0,none,0,none,0,none,0,none,0,0,bs,bs2,R,R⟩
   exact Ak<|A9 tbk [] R R<|Ap _ () hm (Ah [0,1,2] R R)
  exact A4<|Ar () hm (Ah [0,1,2] R R)
 refine Ae<|Ab tbk [0,0,0] 6 R R<|Bd hm fun r2 h10 hm=>Bb (Bg [1,2,0] R)<|Ad R R<|Aw 2 R fn30 R (K49 A0 A1 c.G c.B c.Delay pools insts bs bs2 r2 h10) fun _ _ h23=> ?_
 obtain ⟨b2,b3,ob,cap,ob2,cap2,ob3,cap3,ob4,cap4,ob5,cap5,ob6,cap6,b4,bs3,bs4,rfl,rfl⟩:=h23
 rcases po_or hm with ⟨h22,hm⟩ | ⟨x2,h22,hm⟩
 ·rw [h22]
  refine Ab tbk [] 5 R R<|Ac<|Ag<|Af tbk [] R R<|An hm R (fun h20 hm=>?_) fun h20 hm=> ?_
  ·refine Af tbk [] R R<|?_
   obtain rfl:=Option.some.inj hm
   exact Bx ⟨.inl R,_,.cons (.tmp _ _ R) .nil,[0,1],_,R,0,0,none,0,none,0,none,0,none,0,none,0,none,0,0,bs3,bs4,R,R⟩
  refine Ak<|Af tbk [] R R<|?_
  obtain rfl:=Option.some.inj hm
  exact Bx ⟨.inl R,_,.cons (.tmp _ _ R) .nil,[0,1],_,R,0,0,none,0,none,0,none,0,none,0,none,0,none,0,0,bs3,bs4,R,R⟩
 ·rw [h22]
  refine Ab tbk [] 5 R R<|Ac<|Ag<|Af tbk [] R R<|An hm R (fun h21 hm=>?_) fun h21 hm=> ?_
  ·refine Af tbk [] R R<|?_
   obtain rfl:=Option.some.inj hm
   exact Bx ⟨.inl R,_,.cons (.tmp _ _ R) .nil,[9,10],_,R,0,0,none,0,none,0,none,0,none,0,none,0,none,0,0,bs3,bs4,R,R⟩
  refine Ak<|Af tbk [] R R<|?_
  obtain rfl:=Option.some.inj hm
  exact Bx ⟨.inl R,_,.cons (.tmp _ _ R) .nil,[0,1,2,3,4,5,6,7,8,9,10],_,R,b2,b3,ob,cap,ob2,cap2,ob3,cap3,ob4,cap4,ob5,cap5,ob6,cap6,b4,bs3,bs4,R,R⟩

/-! trireme/triremelaw18.one -/
def law18_one : Option (List T_api_Group) :=
 some [(⟨(⟨#[103]⟩ : ByteArray), 1, 3, (⟨(⟨#[]⟩ : ByteArray), (⟨#[103]⟩ : ByteArray), (⟨1000, 0, 0, 5, 0⟩ : T_api_Res), ([] : List T_api_Label), ([] : List T_api_Taint), true⟩ : T_api_Machine), 0, 0⟩ : T_api_Group)]
theorem K51 : VS Tryz.prog 58 (law18_one) [] [] (fun r=>L139 r) N0 := by
 refine Az [.tmp 0] Tryz.func58 R R R fun r hm=>?_
 unfold law18_one at hm
 exact Af tbk [] R R<|Ae<|Aa R R (Bo pl23 R R)<|Aa R R (Bo pl68 R R)<|Aa R R (Bo pl139 R R)<|Bb (B5 (Bk 232) (B5 (A7 0 [(3,.agg [.str (⟨#[103]⟩ : ByteArray),Iw (1 : Int),Iw (3 : Int),.str (⟨#[]⟩ : ByteArray),.str (⟨#[103]⟩ : ByteArray),Iw (1000 : Int),Iw (0 : Int),Iw (0 : Int),Iw (5 : Int),Iw (0 : Int),L232 ([] : List T_api_Label),.sl none 0 0,.bool true,Iw (0 : Int),Iw (0 : Int)])] R ⟨⟨_,R,.aggL ⟨.same _,.same _,.same _,.same _,.same _,.same _,.same _,.same _,.same _,.same _,.here _ R,.same _,.same _,.same _,.same _,trivial⟩⟩,trivial⟩ (FzH.refl _)) (B5 (Bk 31) (A7 0 [(3,T_api_Group.vv (⟨(⟨#[103]⟩ : ByteArray),(1 : Int),(3 : Int),(⟨(⟨#[]⟩ : ByteArray),(⟨#[103]⟩ : ByteArray),(⟨(1000 : Int),(0 : Int),(0 : Int),(5 : Int),(0 : Int)⟩ : T_api_Res),([] : List T_api_Label),([] : List T_api_Taint),true⟩ : T_api_Machine),(0 : Int),(0 : Int)⟩ : T_api_Group))] R ⟨⟨_,R,.aggL ⟨.same _,.same _,.same _,.same _,.same _,.same _,.same _,.same _,.same _,.same _,.same _,.here _ R,.same _,.same _,.same _,trivial⟩⟩,trivial⟩ (FzH.refl _)))))<|Ad R R<|Bc ap37 R R R R R fun b=>Bb (A7 0 [(4,L139 [(⟨(⟨#[103]⟩ : ByteArray),(1 : Int),(3 : Int),(⟨(⟨#[]⟩ : ByteArray),(⟨#[103]⟩ : ByteArray),(⟨(1000 : Int),(0 : Int),(0 : Int),(5 : Int),(0 : Int)⟩ : T_api_Res),([] : List T_api_Label),([] : List T_api_Taint),true⟩ : T_api_Machine),(0 : Int),(0 : Int)⟩ : T_api_Group)])] R ⟨⟨_,R,.here _ R⟩,trivial⟩ (FzH.refl _))<|Aa R R (Aj R)<|Ac<|Rt1 hm R [] R R R

/-! (*trireme/world.World).there -/
def world_World_there : Option Bool :=
 some false
theorem K52 : VS Tryz.prog 60 (world_World_there) [.nilptr] [] .bool N0 := by
 refine Az [.tmp 2] Tryz.func60 R R R fun r hm=>?_
 unfold world_World_there at hm
 exact Af tbk [] R R<|Ae<|Aa R R (Ai R)<|Aa R R (D4 C4 R R)<|Ab tbk [] 8 R R<|Ac<|Rt1 hm R [] R R R

/-! (*trireme/world.World).AddPod -/
def world_World_AddPod (p : T_api_Pod) : Option Int :=
 (world_World_there).bind fun r =>
 some 23
theorem K53 (p : T_api_Pod) : VS Tryz.prog 12 (world_World_AddPod p) [.nilptr, T_api_Pod.vv p] [] Iw N0 := by
 refine Az [.tmp 4] Tryz.func12 R R R fun r hm=>?_
 unfold world_World_AddPod at hm
 refine Ae<|Ad R R<|Bi R R fun b=>Aa R R (Aj R)<|Ac<|Ag<|Au<|Ae<|Aa R R (Ai R)<|Bd hm fun r h2 hm=>Ad R R<|Aw 0 R fn60 R (K52 r h2) fun _ _ h3=> ?_
 obtain ⟨rfl,rfl⟩:=h3
 exact Ab tbk [] 2 R R<|Ac<|Bm R (congrArg not (Option.some.inj (show some false = some r from h2)).symm)<|Af tbk [] R R<|Rt1 hm R [] R R R

/-! (*trireme/world.World).Pass -/
def world_World_Pass (pools : List T_cloud_pool) (insts : List T_cloud_inst) : Option Unit :=
 (world_World_there).bind fun r =>
 some ()
theorem K54 (A0 A1 : Nat) (pools : List T_cloud_pool) (insts : List T_cloud_inst) (bs : List Nat) (bs2 : List Nat) : VS Tryz.prog 11 (world_World_Pass pools insts) [.nilptr] [.ar A0 144 bs (List.map T_cloud_pool.cells pools), .ar A1 157 bs2 (List.map (T_cloud_inst.cells A0 A1) insts)] (fun r=>.tup []) (fun r=>[.ar A0 144 bs (List.map T_cloud_pool.cells pools), .ar A1 157 bs2 (List.map (T_cloud_inst.cells A0 A1) insts)]) := by
 refine Az [] Tryz.func11 R R R fun r hm=>?_
 unfold world_World_Pass at hm
 refine Ag<|Ae<|Aa R R (Ai R)<|Bd hm fun r h1 hm=>Ad R R<|Aw 0 R fn60 R (K52 r h1) fun _ _ h2=> ?_
 obtain ⟨rfl,rfl⟩:=h2
 exact Aa R R (Ci R)<|Ac<|Bm R (congrArg not (Option.some.inj (show some false = some r from h1)).symm)<|Rt0 hm R [0,1] (.nil) R R

/-! (*trireme/world.World).Bounds -/
def world_World_Bounds : Option (List T_api_Bound) :=
 (world_World_there).bind fun r =>
 some ([] : List T_api_Bound)
theorem K55 : VS2 Tryz.prog 20 (world_World_Bounds) [.nilptr] [] (fun r ob0 cap0=>Z64 ob0 r cap0) (fun r ob0 cap0=>[Q64 ob0 cap0 r]) := by
 refine Cz [.tmp 2] Tryz.func20 R R R fun r hm=>?_
 unfold world_World_Bounds at hm
 refine Af tbk [] R R<|Ag<|Ae<|Aa R R (Ai R)<|Bd hm fun r h1 hm=>Ad R R<|Aw 0 R fn60 R (K52 r h1) fun _ _ h3=> ?_
 obtain ⟨rfl,rfl⟩:=h3
 exact Aa R R (Ci R)<|Ac<|Bm R (congrArg not (Option.some.inj (show some false = some r from h1)).symm)<|Af tbk [] R R<|Bw (Bk 64)<|Rg2 hm R [0] none 0 (.cons (.tmp _ _ R) .nil) R R

/-! (*trireme/world.World).Missing -/
def world_World_Missing (pools : List T_cloud_pool) (insts : List T_cloud_inst) : Option (List T_api_Inst) :=
 (world_World_there).bind fun r =>
 some ([] : List T_api_Inst)
theorem K56 (A0 A1 : Nat) (pools : List T_cloud_pool) (insts : List T_cloud_inst) (bs : List Nat) (bs2 : List Nat) : VS2 Tryz.prog 22 (world_World_Missing pools insts) [.nilptr] [.ar A0 144 bs (List.map T_cloud_pool.cells pools), .ar A1 157 bs2 (List.map (T_cloud_inst.cells A0 A1) insts)] (fun r ob0 cap0=>Z70 ob0 r cap0) (fun r ob0 cap0=>[Q70 ob0 cap0 r, .ar A0 144 bs (List.map T_cloud_pool.cells pools), .ar A1 157 bs2 (List.map (T_cloud_inst.cells A0 A1) insts)]) := by
 refine Cz [.tmp 2] Tryz.func22 R R R fun r hm=>?_
 unfold world_World_Missing at hm
 refine Af tbk [] R R<|Ag<|Ae<|Aa R R (Ai R)<|Bd hm fun r h1 hm=>Ad R R<|Aw 0 R fn60 R (K52 r h1) fun _ _ h3=> ?_
 obtain ⟨rfl,rfl⟩:=h3
 exact Aa R R (Ci R)<|Ac<|Bm R (congrArg not (Option.some.inj (show some false = some r from h1)).symm)<|Af tbk [] R R<|Bw (Bk 70)<|Rg2 hm R [0,1,2] none 0 (.cons (.tmp _ _ R) .nil) R R

/-! (*trireme/world.World).Machines -/
def world_World_Machines : Option (List T_api_Machine) :=
 (world_World_there).bind fun r =>
 some ([] : List T_api_Machine)
theorem K57 : VS2 Tryz.prog 19 (world_World_Machines) [.nilptr] [] (fun r ob0 cap0=>Z68 ob0 r cap0) (fun r ob0 cap0=>[Q68 ob0 cap0 r]) := by
 refine Cz [.tmp 2] Tryz.func19 R R R fun r hm=>?_
 unfold world_World_Machines at hm
 refine Af tbk [] R R<|Ag<|Ae<|Aa R R (Ai R)<|Bd hm fun r h1 hm=>Ad R R<|Aw 0 R fn60 R (K52 r h1) fun _ _ h3=> ?_
 obtain ⟨rfl,rfl⟩:=h3
 exact Aa R R (Ci R)<|Ac<|Bm R (congrArg not (Option.some.inj (show some false = some r from h1)).symm)<|Af tbk [] R R<|Bw (Bk 68)<|Rg2 hm R [0] none 0 (.cons (.tmp _ _ R) .nil) R R

/-! (*trireme/world.World).Evict -/
def world_World_Evict (name : ByteArray) : Option Int :=
 (world_World_there).bind fun r =>
 some 23
theorem K58 (name : ByteArray) : VS Tryz.prog 18 (world_World_Evict name) [.nilptr, .str name] [] Iw N0 := by
 refine Az [.tmp 4] Tryz.func18 R R R fun r hm=>?_
 unfold world_World_Evict at hm
 refine Af tbk [] R R<|Ag<|Ae<|Aa R R (Ai R)<|Bd hm fun r h1 hm=>Ad R R<|Aw 0 R fn60 R (K52 r h1) fun _ _ h2=> ?_
 obtain ⟨rfl,rfl⟩:=h2
 exact Aa R R (Ci R)<|Ac<|Bm R (congrArg not (Option.some.inj (show some false = some r from h1)).symm)<|Af tbk [] R R<|Rt1 hm R [] R R R

/-! (*trireme/world.World).on -/
def world_World_on_world_World_Ready_1 (name : ByteArray) (c : Bool) : Option Int :=
 (world_World_there).bind fun r =>
 some 23
theorem K59 (name : ByteArray) (c : Bool) (b : Nat) : VS Tryz.prog 69 (world_World_on_world_World_Ready_1 name c) [.nilptr, .str name, .clo (.func 70) [] [.ptr b 0]] [.box b 4 [.bool c]] Iw (fun r=>[.box b 4 [.bool c]]) := by
 refine Az [.tmp 6] Tryz.func69 R R R fun r hm=>?_
 unfold world_World_on_world_World_Ready_1 at hm
 refine Af tbk [] R R<|Ag<|Ae<|Aa R R (Ai R)<|Bd hm fun r h1 hm=>Ad R R<|Aw 0 R fn60 R (K52 r h1) fun _ _ h2=> ?_
 obtain ⟨rfl,rfl⟩:=h2
 exact Aa R R (Ci R)<|Ac<|Bm R (congrArg not (Option.some.inj (show some false = some r from h1)).symm)<|Af tbk [] R R<|Rt1 hm R [0] R R R

/-! (*trireme/world.World).Ready -/
def world_World_Ready (name : ByteArray) (is : Bool) : Option Int :=
 (world_World_on_world_World_Ready_1 name is).bind fun r =>
 some r
theorem K60 (name : ByteArray) (is : Bool) : VS Tryz.prog 14 (world_World_Ready name is) [.nilptr, .str name, .bool is] [] Iw N0 := by
 refine Az [.tmp 6] Tryz.func14 R R R fun r hm=>?_
 unfold world_World_Ready at hm
 exact Ae<|Ad R R<|Bi R R fun b=>Aa R R (Aj R)<|Ac<|Ae<|Ab tbk [] 2 R R<|Aa R R (C6 R R)<|Ad R R<|Ax hm 1 R fn69 R (K59 _ _ _) fun r hm=>Aa R R (Aj R)<|Ac<|Rt1 hm R [] R R R

/-! (*trireme/world.World).Hold -/
def world_World_Hold (name : ByteArray) (is : Bool) (pools : List T_cloud_pool) (insts : List T_cloud_inst) : Option Int :=
 (world_World_there).bind fun r =>
 some 23
theorem K61 (A0 A1 : Nat) (name : ByteArray) (is : Bool) (pools : List T_cloud_pool) (insts : List T_cloud_inst) (bs : List Nat) (bs2 : List Nat) : VS Tryz.prog 15 (world_World_Hold name is pools insts) [.nilptr, .str name, .bool is] [.ar A0 144 bs (List.map T_cloud_pool.cells pools), .ar A1 157 bs2 (List.map (T_cloud_inst.cells A0 A1) insts)] Iw (fun r=>[.ar A0 144 bs (List.map T_cloud_pool.cells pools), .ar A1 157 bs2 (List.map (T_cloud_inst.cells A0 A1) insts)]) := by
 refine Az [.tmp 6] Tryz.func15 R R R fun r hm=>?_
 unfold world_World_Hold at hm
 refine Af tbk [] R R<|Ag<|Au<|Ae<|Aa R R (Ai R)<|Bd hm fun r h1 hm=>Ad R R<|Aw 0 R fn60 R (K52 r h1) fun _ _ h2=> ?_
 obtain ⟨rfl,rfl⟩:=h2
 exact Ab tbk [] 2 R R<|Ac<|Bm R (congrArg not (Option.some.inj (show some false = some r from h1)).symm)<|Af tbk [] R R<|Rt1 hm R [0,1] R R R

/-! (*trireme/world.World).Budgets -/
def world_World_Budgets : Option (List T_api_Budget) :=
 (world_World_there).bind fun r =>
 some ([] : List T_api_Budget)
theorem K62 : VS2 Tryz.prog 21 (world_World_Budgets) [.nilptr] [] (fun r ob0 cap0=>Z103 ob0 r cap0) (fun r ob0 cap0=>[Q103 ob0 cap0 r]) := by
 refine Cz [.tmp 2] Tryz.func21 R R R fun r hm=>?_
 unfold world_World_Budgets at hm
 refine Af tbk [] R R<|Ag<|Ae<|Aa R R (Ai R)<|Bd hm fun r h1 hm=>Ad R R<|Aw 0 R fn60 R (K52 r h1) fun _ _ h3=> ?_
 obtain ⟨rfl,rfl⟩:=h3
 exact Aa R R (Ci R)<|Ac<|Bm R (congrArg not (Option.some.inj (show some false = some r from h1)).symm)<|Af tbk [] R R<|Bw (Bk 103)<|Rg2 hm R [0] none 0 (.cons (.tmp _ _ R) .nil) R R

/-! (*trireme/world.World).there -/
def world_World_there_x (w : T_world_World) (c : T_cloud_Cloud) : Option Bool :=
 some true
theorem K63 (A0 A1 : Nat) (w : T_world_World) (c : T_cloud_Cloud) (b : Nat) (ob : Option Nat) (cap : Nat) (ob2 : Option Nat) (cap2 : Nat) (ob3 : Option Nat) (cap3 : Nat) (ob4 : Option Nat) (cap4 : Nat) (b2 : Nat) (b3 : Nat) (ob5 : Option Nat) (cap5 : Nat) (ob6 : Option Nat) (cap6 : Nat) : VS Tryz.prog 60 (world_World_there_x w c) [.ptr b 0] [.box b 43 [.ptr b3 0, Z139 ob w.groups cap, Z103 ob2 w.budgets cap2, Z68 ob3 w.ms cap3, Z64 ob4 w.bs cap4, .map b2], Q139 ob cap w.groups, Q103 ob2 cap2 w.budgets, Q68 ob3 cap3 w.ms, Q64 ob4 cap4 w.bs, .map b2 (List.map (pf VV.str (VV.int .i64)) w.held), .box b3 149 [Z140 A0 A1 ob5 c.pools cap5, Z152 A0 A1 ob6 c.insts cap6, Iw c.delay, Iw c.now, Iw c.calls], Q140 A0 A1 ob5 cap5 c.pools, Q152 A0 A1 ob6 cap6 c.insts] .bool (fun r=>[.box b 43 [.ptr b3 0, Z139 ob w.groups cap, Z103 ob2 w.budgets cap2, Z68 ob3 w.ms cap3, Z64 ob4 w.bs cap4, .map b2], Q139 ob cap w.groups, Q103 ob2 cap2 w.budgets, Q68 ob3 cap3 w.ms, Q64 ob4 cap4 w.bs, .map b2 (List.map (pf VV.str (VV.int .i64)) w.held), .box b3 149 [Z140 A0 A1 ob5 c.pools cap5, Z152 A0 A1 ob6 c.insts cap6, Iw c.delay, Iw c.now, Iw c.calls], Q140 A0 A1 ob5 cap5 c.pools, Q152 A0 A1 ob6 cap6 c.insts]) := by
 refine Az [.tmp 2] Tryz.func60 R R R fun r hm=>?_
 unfold world_World_there_x at hm
 exact Af tbk [] R R<|Ae<|Aa R R (Ai R)<|Aa R R (D4 C4 R R)<|Ab tbk [0] 5 R R<|Bf R R R R R (D4 Dn R R)<|Ab tbk [] 2 R R<|Ac<|Rt1 hm R [0,1,2,3,4,5,6,7,8] R R R

/-! trireme/quant.head -/
def quant_head.l1 (s : ByteArray) : Nat → Int → Option Int
 | 0, _ => none
 | n4 + 1, n2 =>
  (if (decide (n2 < (s.size : Int))) = true then (V.gi s n2).bind fun v =>
  some (decide (v ≥ 48)) else some false).bind fun c =>
  (if c = true then (V.gi s n2).bind fun v2 =>
  some (decide (v2 ≤ 57)) else some false).bind fun c2 =>
  if c2 = true then
   quant_head.l1 s n4 (i64.wrap (n2 + 1))
  else
   some n2
def quant_head (s : ByteArray) : Option Int :=
 (quant_head.l1 s FU (0 : Int)).bind fun n32 =>
 some n32
theorem K64 (s : ByteArray) : VS Tryz.prog 238 (quant_head s) [.str s] [] Iw N0 := by
 refine Az [.tmp 2] Tryz.func238 R R R fun r hm=>?_
 unfold quant_head at hm
 refine Af tbk [] R R<|Af tbk [] R R<|De hm (fun n32 (_:Unit)=>[(3,Iw n32)]) (fun _ (_:Unit)=>[]) (fun o hm=>?_) fun n32 _ hm=> ?_
 ·refine B8 (fun zn (zs:Int)=>quant_head.l1 s zn zs) (fun zs (_:Unit)=>[(0,.str s),(3,Iw zs)]) (fun _ (_:Unit)=>[]) _ () (fun _=>R) hm (Ah [] R R) fun n4 n2 _ hm=> ?_
  rw [quant_head.l1] at hm
  exact Ag<|Ae<|Ab tbk [] 2 R R<|Aa R R (Ca R Av)<|Ab tbk [] 2 R R<|Bh hm 5 13 8 R (fun _ K' h3 J hm=>Ab tbk [] 2 R R<|Bd hm fun v h4 hm=>Bf R R R R R (C1 R R Av h4)<|Ab tbk [] 2 R R<|J 4 R R (Bj hm)) (fun _ K' h3 J hm=>Ab tbk [] 5 R R<|J 4 R R (Bj hm)) fun c hm=>Aa R R (Ai R)<|Bh hm 5 19 14 R (fun _ K' h6 J hm=>Ab tbk [] 2 R R<|Bd hm fun v2 h7 hm=>Bf R R R R R (C1 R R Av h7)<|Ab tbk [] 2 R R<|J 4 R R (Bj hm)) (fun _ K' h6 J hm=>Ab tbk [] 5 R R<|J 4 R R (Bj hm)) fun c2 hm=>Ac<|An hm R (fun h9 hm=>Ak<|Au<|A9 tbk [] R R<|Ap _ () hm (Ah [] R R)) fun h9 hm=>A4<|As () hm (Ah [] R R)
 exact Af tbk [] R R<|Rt1 hm R [] R R R

/-! trireme/quant.value -/
def quant_value.l1 (s : ByteArray) (most : Int) : Nat → Int → Int → Option (Out (Int × Bool) Int)
 | 0, _, _ => none
 | n4 + 1, n2, v2 =>
  if (decide (v2 < (s.size : Int))) = true then
   (V.gi s v2).bind fun v3 =>
   (V.quo (i64.wrap (most - (i64.wrap (IntKind.u8.wrap (v3 - 48))))) (10 : Int)).bind fun v4 =>
   if (decide (n2 > (i64.wrap v4))) = true then
    some (Out.ret (0, false))
   else
    quant_value.l1 s most n4 (i64.wrap ((i64.wrap (10 * n2)) + (i64.wrap (IntKind.u8.wrap (v3 - 48))))) (i64.wrap (v2 + 1))
  else
   some (Out.go n2)
def quant_value (s : ByteArray) (most : Int) : Option (Int × Bool) :=
 (quant_value.l1 s most FU 0 (0 : Int)).bind fun o =>
 o.on fun n32 =>
 some (n32, true)
theorem K65 (s : ByteArray) (most : Int) : VS Tryz.prog 239 (quant_value s most) [.str s, Iw most] [] (fun r=>.tup [Iw r.1, .bool r.2]) N0 := by
 refine Az [.tmp 4,.tmp 5] Tryz.func239 R R R fun r hm=>?_
 unfold quant_value at hm
 refine Af tbk [] R R<|Af tbk [] R R<|Ag<|Ae<|Aa R R (Ai R)<|Aa R R (Ca R Av)<|Aa R R (Ai R)<|Ac<|B1 hm (fun n32 (_:Unit)=>[(6,Iw n32)]) (fun _ (_:Unit)=>[]) (fun o hm h2=>?_) fun n32 _ hm=> ?_
 ·refine B8 (fun zn (zs:Int × Int)=>quant_value.l1 s most zn zs.1 zs.2) (fun zs (_:Unit)=>[(0,.str s),(1,Iw most),(6,Iw zs.1),(10,Iw (s.size : Int)),(11,Iw zs.2)]) (fun _ (_:Unit)=>[]) ((0 : Int),(0 : Int)) () (fun _=>R) hm (Ah [] R R) fun n4=>Pq fun n2 v2 _ hm=> ?_
  rw [quant_value.l1] at hm
  exact Af tbk [] R R<|Ag<|An hm R (fun h3 hm=>Ak<|Ag<|Au<|Af tbk [] R R<|Ae<|Ab tbk [] 2 R R<|Bd hm fun v3 h4 hm=>Aa R R (C1 R R Av h4)<|Aa R R (Bl R R R)<|Aa R R (C7 Cg Cm R)<|Aa R R (Aj R)<|Ac<|Ag<|Ae<|Ab tbk [] 4 R R<|Bd hm fun v4 h5 hm=>Aa R R (VP.quoT R R h5)<|Aa R R (Bl R R R)<|Ac<|An hm R (fun h6 hm=>Af tbk [] R R<|have hm:=Lr hm h2;Rt2 hm R [] R R R R) fun h6 hm=>Ak<|A9 tbk [] R R<|A9 tbk [] R R<|Ap ((IntKind.i64.wrap ((IntKind.i64.wrap ((10 : Int) * n2)) + (IntKind.i64.wrap (IntKind.u8.wrap (v3 - (48 : Int)))))),(IntKind.i64.wrap (v2 + (1 : Int)))) () hm (Ah [] R R)) fun h3 hm=>A4<|Ar () hm (Ah [] R R)
 exact Af tbk [] R R<|Rt2 hm R [] R R R R

/-! trireme/quant.Number -/
def quant_Number (s : ByteArray) : Option (Int × Int) :=
 (if (V.seq s (⟨#[]⟩ : ByteArray)) = true then some true else (quant_head s).bind fun r =>
 some (r != (s.size : Int))).bind fun c =>
 if c = true then
  some (0, 8)
 else
  (quant_value s (1125899906842624 : Int)).bind fun r2 =>
  if (!r2.2) = true then
   some (0, 10)
  else
   some (r2.1, 0)
theorem K66 (s : ByteArray) : VS Tryz.prog 222 (quant_Number s) [.str s] [] (fun r=>.tup [Iw r.1, Iw r.2]) N0 := by
 refine Az [.tmp 2,.tmp 3] Tryz.func222 R R R fun r hm=>?_
 unfold quant_Number at hm
 exact Af tbk [] R R<|Ag<|Ae<|Ab tbk [] 3 R R<|Bh hm 6 14 8 R (fun _ K' h1 J hm=>Ab tbk [] 6 R R<|J 5 R R (Bj hm)) (fun _ K' h1 J hm=>Bf R R R R R (Ai R)<|A8 R R R R R<|Ax hm 0 R fn238 R (K64 _) fun r hm=>Bf R R R R R (Ai R)<|Bf R R R R R (Ca R Av)<|Ab tbk [] 2 R R<|J 5 R R (Bj hm)) fun c hm=>Ac<|An hm R (fun h4 hm=>Af tbk [] R R<|Rt2 hm R [] R R R R) fun h4 hm=>Ak<|Ae<|Aa R R (Ai R)<|Ad R R<|Ax hm 0 R fn239 R (K65 _ _) fun r2 hm=>Ab tbk [] 5 R R<|Ac<|Ag<|Af tbk [] R R<|An hm R (fun h6 hm=>Af tbk [] R R<|Rt2 hm R [] R R R R) fun h6 hm=>Ak<|Af tbk [] R R<|Rt2 hm R [] R R R R

/-! trireme/labels.number -/
def labels_number (s : ByteArray) : Option (Int × Bool) :=
 (quant_Number s).bind fun r =>
 some (r.1, (r.2 == 0))
theorem K67 (s : ByteArray) : VS Tryz.prog 186 (labels_number s) [.str s] [] (fun r=>.tup [Iw r.1, .bool r.2]) N0 := by
 refine Az [.tmp 2,.tmp 3] Tryz.func186 R R R fun r hm=>?_
 unfold labels_number at hm
 exact Af tbk [] R R<|Ae<|Aa R R (Ai R)<|Ad R R<|Ax hm 0 R fn222 R (K66 _) fun r hm=>Ab tbk [] 5 R R<|Ac<|Af tbk [] R R<|Rt2 hm R [] R R R R

/-! trireme/labels.RightTerm -/
def labels_RightTerm.l1 : List ByteArray → Nat → Option (Out (Out Bool Unit) Unit)
 | [], k => some (Out.go ())
 | x3 :: l, k =>
  (labels_maybe x3).bind fun r4 =>
  if (!r4) = true then
   some (Out.ret (Out.ret false))
  else
   labels_RightTerm.l1 l (k + 1)
def labels_RightTerm (t : T_api_Term) : Option Bool :=
 (lex_Word t.Key).bind fun r =>
 if (!r) = true then
  some false
 else
  ((if (t.Op == 1) = true then
   some (Out.go ())
  else
   if (t.Op == 2) = true then
    some (Out.go ())
   else
    if (t.Op == 3) = true then
     some (Out.ret (Out.go ()))
    else
     if (t.Op == 4) = true then
      some (Out.ret (Out.go ()))
     else
      if (t.Op == 5) = true then
       ((if ((t.Vals.length : Int) == 1) = true then
        (V.gl t.Vals (0 : Int)).bind fun x =>
        (labels_number x).bind fun r2 =>
        some r2.2
       else
        some false).bind fun q => some (Out.ret q)).bind fun q => some (Out.ret q)
      else
       if (t.Op == 6) = true then
        ((if ((t.Vals.length : Int) == 1) = true then
         (V.gl t.Vals (0 : Int)).bind fun x2 =>
         (labels_number x2).bind fun r3 =>
         some r3.2
        else
         some false).bind fun q => some (Out.ret q)).bind fun q => some (Out.ret q)
       else
        some (Out.ret (Out.ret false))).bind fun o2 =>
  o2.on fun j2 =>
  (labels_RightTerm.l1 t.Vals 0).bind fun o3 =>
  o3.on fun j3 =>
  some (Out.ret ((decide ((t.Vals.length : Int) ≥ 1)) && (decide ((t.Vals.length : Int) ≤ 16))))).bind fun o =>
  o.on fun j =>
  some ((t.Vals.length : Int) == 0)
theorem K68 (t : T_api_Term) : VS Tryz.prog 129 (labels_RightTerm t) [T_api_Term.vv t] [] .bool N0 := by
 refine Az [.tmp 2] Tryz.func129 R R R fun r hm=>?_
 unfold labels_RightTerm at hm
 refine Ae<|Ad R R<|Bi R R fun b=>Aa R R (Aj R)<|Ac<|Ag<|Ae<|Ab tbk [0] 2 R R<|Ad R R<|Ax hm 0 R fn131 R (K12 _) fun r hm=>Aa R R (Ci R)<|Ac<|An hm R (fun h3 hm=>Af tbk [] R R<|Rt1 hm R [] R R R) fun h3 hm=>Ak<|Ag<|Af tbk [0] R R<|Au<|Ag<|Au<|VW.jo hm (fun _ (_:Unit)=>[(1,.ptr b 0)]) (fun _ (_:Unit)=>[X189 b t]) (fun o hm h5=>?_) fun j _ hm=> ?_
 ·refine Au<|Au<|VW.jo hm (fun _ (_:Unit)=>[(1,.ptr b 0)]) (fun _ (_:Unit)=>[X189 b t]) (fun o2 hm h7=>?_) fun j2 _ hm=> ?_
  ·exact Au<|Au<|Ag<|Ag<|Af tbk [] R R<|An hm R (fun h8 hm=>A4<|Ar () hm (Ah [0] R R)) fun h8 hm=>Ak<|Ag<|Af tbk [] R R<|An hm R (fun h9 hm=>A4<|Ar () hm (Ah [0] R R)) fun h9 hm=>Ak<|Ag<|Af tbk [] R R<|An hm R (fun h10 hm=>A4<|have hm:=Lr hm h7;Ar () hm (Ah [0] R R)) fun h10 hm=>Ak<|Ag<|Af tbk [] R R<|An hm R (fun h11 hm=>A4<|have hm:=Lr hm h7;Ar () hm (Ah [0] R R)) fun h11 hm=>Ak<|Ag<|Af tbk [] R R<|An hm R (fun h12 hm=>Ak<|Bm R h12<|A4<|have hm:=Lr2 hm h7;have hm:=Lr2 hm h5;Ag<|Ae<|Ab tbk [0] 2 R R<|Aa R R (Ay VV.str R Bu)<|Aa R R (Bl R R R)<|Ac<|An hm R (fun h13 hm=>Ae<|Ab tbk [0] 2 R R<|Bd hm fun x h14 hm=>Aa R R (Br VV.str R R el61 h14)<|Aa R R (Bs R ld9 R)<|Ad R R<|Ax hm 0 R fn186 R (K67 _) fun r2 hm=>Ab tbk [] 5 R R<|Ac<|Af tbk [] R R<|Rt1 hm R [] R R R) fun h13 hm=>Ak<|A4<|Af tbk [] R R<|Rt1 hm R [] R R R) fun h12 hm=>A9 tbk [] R R<|An hm R (fun h18 hm=>A4<|have hm:=Lr2 hm h7;have hm:=Lr2 hm h5;Ag<|Ae<|Ab tbk [0] 2 R R<|Aa R R (Ay VV.str R Bu)<|Aa R R (Bl R R R)<|Ac<|An hm R (fun h19 hm=>Ae<|Ab tbk [0] 2 R R<|Bd hm fun x2 h20 hm=>Aa R R (Br VV.str R R el61 h20)<|Aa R R (Bs R ld9 R)<|Ad R R<|Ax hm 0 R fn186 R (K67 _) fun r3 hm=>Ab tbk [] 5 R R<|Ac<|Af tbk [] R R<|Rt1 hm R [] R R R) fun h19 hm=>Ak<|A4<|Af tbk [] R R<|Rt1 hm R [] R R R) fun h18 hm=>Ak<|A4<|have hm:=Lr hm h7;have hm:=Lr hm h5;Af tbk [] R R<|Rt1 hm R [] R R R
  refine Ag<|Ag<|Ae<|Ab tbk [0] 2 R R<|Aa R R (Ay VV.str R Bu)<|Aa R R (Ai R)<|Ac<|B7 25 R fun h26=>B1 hm (fun _ (_:Unit)=>[(1,.ptr b 0)]) (fun _ (_:Unit)=>[X189 b t]) (fun o3 hm h25=>?_) fun j3 _ hm=> ?_
  ·refine Cj (t.Vals) (fun zl zk (zs:Unit)=>labels_RightTerm.l1 zl zk) (fun k _ (_:Unit)=>[(1,.ptr b 0),(25,L9 t.Vals),(26,Iw (t.Vals.length : Int)),(27,Iw (k : Int))]) (fun _ _ (_:Unit)=>[X189 b t]) () () hm (Ah [0] R R) (fun k _ _ hk hm=>?_) fun k x3 l _ _ h27 hm=> ?_
   ·rw [labels_RightTerm.l1] at hm
    exact Af tbk [] R R<|Ag<|Bp R (k_end hk)<|A4<|Ar () hm (Ah [0] R R)
   rw [labels_RightTerm.l1] at hm
   exact Af tbk [] R R<|Ag<|Bm R (k_lt h27)<|Ak<|Ag<|Au<|Ae<|Aa R R (Cc VV.str R R el61 h27)<|Ab tbk [] 2 R R<|Ac<|Ae<|Aa R R (Ai R)<|Ad R R<|Ax hm 0 R fn185 R (K17 _) fun r4 hm=>Aa R R (Ci R)<|Ac<|An hm R (fun h29 hm=>Af tbk [] R R<|have hm:=Lr hm h25;have hm:=Lr hm h5;Rt1 hm R [] R R R) fun h29 hm=>Ak<|A9 tbk [] R R<|Ap () () hm (Be [0] R ⟨R,R,R,congrArg some (k_next h27 h26),trivial⟩)
  exact Ae<|Ab tbk [0] 2 R R<|Aa R R (Ay VV.str R Bu)<|Ab tbk [] 2 R R<|Dg 5 44 39 R (fun h30 K' J=>Ab tbk [0] 2 R R<|Bf R R R R R (Ay VV.str R Bu)<|Ab tbk [] 2 R R<|J 4 R R R) (fun K' J=>Ab tbk [] 5 R R<|J 4 R R R)<|Aa R R (Aj R)<|Ac<|have hm:=Lr hm h5;Rt1 hm R [] R R R
 exact Ag<|Ae<|Ab tbk [0] 2 R R<|Aa R R (Ay VV.str R Bu)<|Ab tbk [] 2 R R<|Ac<|Rt1 hm R [] R R R

/-! trireme/taints.RightBears -/
def taints_RightBears.l1 : List T_api_Toleration → Nat → Option (Out Bool Unit)
 | [], k => some (Out.go ())
 | x :: l2, k =>
  (taints_maybe x.Key).bind fun r =>
  (if (!r) = true then some true else (taints_maybe x.Val).bind fun r2 =>
  some (!r2)).bind fun c =>
  if c = true then
   some (Out.ret false)
  else
   (if (x.Effect != 0) = true then (taints_known x.Effect).bind fun r3 =>
   some (!r3) else some false).bind fun c2 =>
   if c2 = true then
    some (Out.ret false)
   else
    if ((x.Any && (!(V.seq x.Val (⟨#[]⟩ : ByteArray)))) || ((!x.Any) && (V.seq x.Key (⟨#[]⟩ : ByteArray)))) = true then
     some (Out.ret false)
    else
     taints_RightBears.l1 l2 (k + 1)
def taints_RightBears (l : List T_api_Toleration) : Option Bool :=
 (taints_RightBears.l1 l 0).bind fun o =>
 o.on fun j =>
 some (decide ((l.length : Int) ≤ 16))
theorem K69 (l : List T_api_Toleration) : VS Tryz.prog 135 (taints_RightBears l) [L191 l] [] .bool N0 := by
 refine Az [.tmp 2] Tryz.func135 R R R fun r hm=>?_
 unfold taints_RightBears at hm
 refine Af tbk [] R R<|Ag<|Ae<|Aa R R (Ai R)<|Aa R R (Ay T_api_Toleration.vv R C2)<|Aa R R (Ai R)<|Ac<|B7 0 R fun h3=>B1 hm (fun _ (_:Unit)=>[(0,L191 l)]) (fun _ (_:Unit)=>[]) (fun o hm h2=>?_) fun j _ hm=> ?_
 ·refine Cj (l) (fun zl zk (zs:Unit)=>taints_RightBears.l1 zl zk) (fun k _ (_:Unit)=>[(0,L191 l),(5,L191 l),(6,Iw (l.length : Int)),(7,Iw (k : Int))]) (fun _ _ (_:Unit)=>[]) () () hm (Ah [] R R) (fun k _ _ hk hm=>?_) fun k x l2 _ _ h4 hm=> ?_
  ·rw [taints_RightBears.l1] at hm
   exact Af tbk [] R R<|Ag<|Bp R (k_end hk)<|A4<|Ar () hm (Ah [] R R)
  rw [taints_RightBears.l1] at hm
  exact Af tbk [] R R<|Ag<|Bm R (k_lt h4)<|Ak<|Ag<|Au<|Ae<|Aa R R (Cc T_api_Toleration.vv R R el26 h4)<|Aa R R (Bs R ld191 R)<|Ad R R<|Aq z191 fun b=>Ad R R<|Al (i:=0) R R R ld191 R R R<|Ac<|Au<|Ae<|Ab tbk [0] 2 R R<|Ad R R<|Ax hm 0 R fn142 R (K19 _) fun r hm=>Ab tbk [] 2 R R<|Bh hm 5 21 16 R (fun _ K' h7 J hm=>Ab tbk [] 5 R R<|J 4 R R (Bj hm)) (fun _ K' h7 J hm=>Ab tbk [0] 2 R R<|A8 R R R R R<|Ax hm 0 R fn142 R (K19 _) fun r2 hm=>Ab tbk [] 2 R R<|J 4 R R (Bj hm)) fun c hm=>Aa R R (Aj R)<|Ac<|An hm R (fun h10 hm=>Af tbk [] R R<|have hm:=Lr hm h2;Rt1 hm R [] R R R) fun h10 hm=>Ae<|Ab tbk [0] 4 R R<|Bh hm 5 31 26 R (fun _ K' h11 J hm=>Ab tbk [0] 2 R R<|A8 R R R R R<|Ax hm 0 R fn143 R (K20 _) fun r3 hm=>Ab tbk [] 2 R R<|J 4 R R (Bj hm)) (fun _ K' h11 J hm=>Ab tbk [] 5 R R<|J 4 R R (Bj hm)) fun c2 hm=>Aa R R (Aj R)<|Ac<|An hm R (fun h14 hm=>Af tbk [] R R<|have hm:=Lr hm h2;Rt1 hm R [] R R R) fun h14 hm=>Ae<|Ab tbk [0] 3 R R<|Cd tbk [0] 4 39 35 R R R R R<|Aa R R (Ai R)<|C3 9 49 40 R (fun K' J=>Ab tbk [] 9 R R<|J 8 R R R) (fun h16 K' J=>Ab tbk [0] 4 R R<|Cd tbk [0] 4 48 44 R R R R R<|Aa R R (Bq false R R R)<|J 5 R R R)<|Aa R R (Aj R)<|Ac<|An hm R (fun h18 hm=>Af tbk [] R R<|have hm:=Lr hm h2;Rt1 hm R [] R R R) fun h18 hm=>Ak<|A9 tbk [] R R<|Ap () () hm (Be [] R ⟨R,R,R,congrArg some (k_next h4 h3),trivial⟩)
 exact Ae<|Aa R R (Ai R)<|Aa R R (Ay T_api_Toleration.vv R C2)<|Ab tbk [] 2 R R<|Ac<|Rt1 hm R [] R R R

/-! trireme/spec.RightPod -/
def spec_RightPod.l1 : List T_api_Term → Nat → Option (Out Bool Unit)
 | [], k => some (Out.go ())
 | x :: l, k =>
  (labels_RightTerm x).bind fun r =>
  if (!r) = true then
   some (Out.ret false)
  else
   spec_RightPod.l1 l (k + 1)
def spec_RightPod.l2 : List Int → Nat → Int → Option (Out Bool Unit)
 | [], k2, last2 => some (Out.go ())
 | x2 :: l2, k2, last2 =>
  if ((decide (x2 ≤ last2)) || (decide (x2 > 65535))) = true then
   some (Out.ret false)
  else
   spec_RightPod.l2 l2 (k2 + 1) x2
def spec_RightPod.l3 : List (List T_api_Label) → Nat → Option (Out Bool Unit)
 | [], k3 => some (Out.go ())
 | x3 :: l3, k3 =>
  (labels_Right x3).bind fun r2 =>
  if (!r2) = true then
   some (Out.ret false)
  else
   spec_RightPod.l3 l3 (k3 + 1)
def spec_RightPod (p : T_api_Pod) : Option Bool :=
 (spec_RightPod.l1 p.Terms 0).bind fun o =>
 o.on fun j =>
 (spec_RightPod.l2 p.Ports 0 (0 : Int)).bind fun o2 =>
 o2.on fun j2 =>
 (spec_RightPod.l3 [p.Labels, p.Select, p.Apart, p.Spread] 0).bind fun o3 =>
 o3.on fun j3 =>
 (if (decide ((p.Spread.length : Int) > 0)) = true then
  some (1, 100)
 else
  some (0, 0)).bind fun j4 =>
 (lex_Word p.Name).bind fun r3 =>
 (if (!r3) = true then some true else (spec_maybe p.Owner).bind fun r4 =>
 some (!r4)).bind fun c =>
 if c = true then
  some false
 else
  (res_Right p.Need).bind fun r5 =>
  if ((!r5) || (p.Need.Pods != 1)) = true then
   some false
  else
   if ((decide ((p.Terms.length : Int) > 16)) || (decide ((p.Ports.length : Int) > 16))) = true then
    some false
   else
    (if (p.Wide && ((p.Apart.length : Int) == 0)) = true then some true else (spec_between p.Skew j4.1 j4.2).bind fun r6 =>
    some (!r6)).bind fun c2 =>
    if c2 = true then
     some false
    else
     (taints_RightBears p.Bears).bind fun r7 =>
     (if r7 = true then (spec_between p.Rank 0 (1000 : Int)).bind fun r8 =>
     some r8 else some false).bind fun c3 =>
     some c3
theorem K70 (p : T_api_Pod) : VS Tryz.prog 65 (spec_RightPod p) [T_api_Pod.vv p] [] .bool N0 := by
 refine Az [.tmp 2] Tryz.func65 R R R fun r hm=>?_
 unfold spec_RightPod at hm
 refine Ae<|Ad R R<|Bi R R fun b=>Aa R R (Aj R)<|Ac<|Ag<|Ae<|Ab tbk [0] 2 R R<|Aa R R (Ay T_api_Term.vv R Cv)<|Aa R R (Ai R)<|Ac<|B7 13 R fun h4=>B1 hm (fun _ (_:Unit)=>[(1,.ptr b 0)]) (fun _ (_:Unit)=>[X29 b p]) (fun o hm h3=>?_) fun j _ hm=> ?_
 ·refine Cj (p.Terms) (fun zl zk (zs:Unit)=>spec_RightPod.l1 zl zk) (fun k _ (_:Unit)=>[(1,.ptr b 0),(13,L189 p.Terms),(14,Iw (p.Terms.length : Int)),(15,Iw (k : Int))]) (fun _ _ (_:Unit)=>[X29 b p]) () () hm (Ah [0] R R) (fun k _ _ hk hm=>?_) fun k x l _ _ h5 hm=> ?_
  ·rw [spec_RightPod.l1] at hm
   exact Af tbk [] R R<|Ag<|Bp R (k_end hk)<|A4<|Ar () hm (Ah [0] R R)
  rw [spec_RightPod.l1] at hm
  exact Af tbk [] R R<|Ag<|Bm R (k_lt h5)<|Ak<|Ag<|Au<|Ae<|Aa R R (Cc T_api_Term.vv R R el25 h5)<|Aa R R (Bs R ld189 R)<|Ad R R<|Aq z189 fun b2=>Ad R R<|Al (i:=0) R R R ld189 R R R<|Ac<|Ae<|Ab tbk [0] 1 R R<|Ad R R<|Ax hm 0 R fn129 R (K68 _) fun r hm=>Aa R R (Ci R)<|Ac<|An hm R (fun h8 hm=>Af tbk [] R R<|have hm:=Lr hm h3;Rt1 hm R [] R R R) fun h8 hm=>Ak<|A9 tbk [] R R<|Ap () () hm (Be [1] R ⟨R,R,R,congrArg some (k_next h5 h4),trivial⟩)
 refine Af tbk [] R R<|Ag<|Ae<|Ab tbk [0] 2 R R<|Aa R R (Ay (VV.int .i64) R Cl)<|Aa R R (Ai R)<|Ac<|B7 24 R fun h11=>B1 hm (fun _ (_:Unit)=>[(1,.ptr b 0)]) (fun _ (_:Unit)=>[X29 b p]) (fun o2 hm h10=>?_) fun j2 _ hm=> ?_
 ·refine Cj (p.Ports) (fun zl zk (zs:Int)=>spec_RightPod.l2 zl zk zs) (fun k2 zs (_:Unit)=>[(1,.ptr b 0),(5,Iw zs),(24,L3 p.Ports),(25,Iw (p.Ports.length : Int)),(26,Iw (k2 : Int))]) (fun _ _ (_:Unit)=>[X29 b p]) _ () hm (Ah [0] R R) (fun k2 last2 _ hk hm=>?_) fun k2 x2 l2 last2 _ h12 hm=> ?_
  ·rw [spec_RightPod.l2] at hm
   exact Af tbk [] R R<|Ag<|Bp R (k_end hk)<|A4<|Ar () hm (Ah [0] R R)
  rw [spec_RightPod.l2] at hm
  exact Af tbk [] R R<|Ag<|Bm R (k_lt h12)<|Ak<|Ag<|Au<|Ae<|Aa R R (Cc (VV.int .i64) R R el27 h12)<|Ab tbk [] 2 R R<|Ac<|Ag<|Ae<|Ab tbk [] 4 R R<|Cy tbk [] 3 36 33 R R R R R<|Ac<|An hm R (fun h14 hm=>Af tbk [] R R<|have hm:=Lr hm h10;Rt1 hm R [] R R R) fun h14 hm=>Ak<|A9 tbk [] R R<|A9 tbk [] R R<|Ap _ () hm (Be [0] R ⟨R,R,R,R,congrArg some (k_next h12 h11),trivial⟩)
 refine Ag<|Ae<|Ab tbk [0,0,0,0] 8 R R<|Ad R R<|Bc ap202 R R R R R fun b3=>Bb (A7 0 [(47,L24 [p.Labels,p.Select,p.Apart,p.Spread])] R ⟨⟨_,R,.here _ R⟩,trivial⟩ (FzH.refl _))<|Aa R R (Ay (fun (q : List T_api_Label) => VV.list 232 (List.map T_api_Label.vv q)) R Tryz.underlying202)<|Aa R R (Ai R)<|Ac<|B7 47 R fun h18=>B1 hm (fun _ (_:Unit)=>[(1,.ptr b 0)]) (fun _ (_:Unit)=>[X29 b p]) (fun o3 hm h17=>?_) fun j3 _ hm=> ?_
 ·refine Cj ([p.Labels,p.Select,p.Apart,p.Spread]) (fun zl zk (zs:Unit)=>spec_RightPod.l3 zl zk) (fun k3 _ (_:Unit)=>[(1,.ptr b 0),(47,L24 [p.Labels,p.Select,p.Apart,p.Spread]),(48,Iw ([p.Labels,p.Select,p.Apart,p.Spread].length : Int)),(49,Iw (k3 : Int))]) (fun _ _ (_:Unit)=>[X29 b p]) () () hm (Ah [0] R R) (fun k3 _ _ hk hm=>?_) fun k3 x3 l3 _ _ h19 hm=> ?_
  ·rw [spec_RightPod.l3] at hm
   exact Af tbk [] R R<|Ag<|Bp R (k_end hk)<|A4<|Ar () hm (Ah [0] R R)
  rw [spec_RightPod.l3] at hm
  exact Af tbk [] R R<|Ag<|Bm R (k_lt h19)<|Ak<|Ag<|Au<|Ae<|Aa R R (Cc (fun (q : List T_api_Label) => VV.list 232 (List.map T_api_Label.vv q)) R R el202 h19)<|Ab tbk [] 2 R R<|Ac<|Ae<|Aa R R (Ai R)<|Ad R R<|Ax hm 0 R fn130 R (K18 _) fun r2 hm=>Aa R R (Ci R)<|Ac<|An hm R (fun h21 hm=>Af tbk [] R R<|have hm:=Lr hm h17;Rt1 hm R [] R R R) fun h21 hm=>Ak<|A9 tbk [] R R<|Ap () () hm (Be [0] R ⟨R,R,R,congrArg some (k_next h19 h18),trivial⟩)
 exact Af tbk [] R R<|De hm (fun j4 (_:Unit)=>[(1,.ptr b 0),(10,Iw j4.1),(11,Iw j4.2)]) (fun _ (_:Unit)=>[X29 b p]) (fun o4 hm=>Ae<|Ab tbk [0] 2 R R<|Aa R R (Ay T_api_Label.vv R B9)<|Aa R R (Bl R R R)<|Ac<|An hm R (fun h24 hm=>A9 tbk [] R R<|As () hm (Ah [0] R R)) fun h24 hm=>Ak<|As () hm (Ah [0] R R)) fun j4 _ hm=>Ag<|Au<|Ae<|Ab tbk [0] 2 R R<|Ad R R<|Ax hm 0 R fn131 R (K12 _) fun r3 hm=>Ab tbk [] 2 R R<|Bh hm 5 71 66 R (fun _ K' h26 J hm=>Ab tbk [] 5 R R<|J 4 R R (Bj hm)) (fun _ K' h26 J hm=>Ab tbk [0] 2 R R<|A8 R R R R R<|Ax hm 0 R fn132 R (K14 _) fun r4 hm=>Ab tbk [] 2 R R<|J 4 R R (Bj hm)) fun c hm=>Aa R R (Aj R)<|Ac<|An hm R (fun h29 hm=>Af tbk [] R R<|Rt1 hm R [] R R R) fun h29 hm=>Ae<|Ab tbk [0] 2 R R<|Ad R R<|Ax hm 0 R fn133 R (K16 _) fun r5 hm=>Ab tbk [] 2 R R<|Cy tbk [0] 5 82 77 R R R R R<|Aa R R (Aj R)<|Ac<|An hm R (fun h32 hm=>Af tbk [] R R<|Rt1 hm R [] R R R) fun h32 hm=>Ae<|Ab tbk [0] 2 R R<|Aa R R (Ay T_api_Term.vv R Cv)<|Ab tbk [] 2 R R<|C3 5 93 88 R (fun K' J=>Ab tbk [] 5 R R<|J 4 R R R) (fun h33 K' J=>Ab tbk [0] 2 R R<|Bf R R R R R (Ay (VV.int .i64) R Cl)<|Ab tbk [] 2 R R<|J 4 R R R)<|Aa R R (Aj R)<|Ac<|An hm R (fun h34 hm=>Af tbk [] R R<|Rt1 hm R [] R R R) fun h34 hm=>Ae<|Ab tbk [0] 3 R R<|Dg 5 102 97 R (fun h35 K' J=>Ab tbk [0] 2 R R<|Bf R R R R R (Ay T_api_Label.vv R B9)<|Ab tbk [] 2 R R<|J 4 R R R) (fun K' J=>Ab tbk [] 5 R R<|J 4 R R R)<|Aa R R (Ai R)<|Bh hm 7 110 103 R (fun _ K' h36 J hm=>Ab tbk [] 7 R R<|J 6 R R (Bj hm)) (fun _ K' h36 J hm=>Ab tbk [0] 4 R R<|A8 R R R R R<|Ax hm 0 R fn134 R (K13 _ _ _) fun r6 hm=>Ab tbk [] 2 R R<|J 6 R R (Bj hm)) fun c2 hm=>Aa R R (Aj R)<|Ac<|An hm R (fun h39 hm=>Af tbk [] R R<|Rt1 hm R [] R R R) fun h39 hm=>Ak<|Ae<|Ab tbk [0] 2 R R<|Ad R R<|Ax hm 0 R fn135 R (K69 _) fun r7 hm=>Aa R R (Ai R)<|Bh hm 4 118 114 R (fun _ K' h41 J hm=>Ab tbk [0] 2 R R<|A8 R R R R R<|Ax hm 0 R fn134 R (K13 _ _ _) fun r8 hm=>Aa R R (Bq true R R R)<|J 3 R R (Bj hm)) (fun _ K' h41 J hm=>Ab tbk [] 4 R R<|J 3 R R (Bj hm)) fun c3 hm=>Aa R R (Aj R)<|Ac<|Rt1 hm R [] R R R

/-! trireme/yard.Place$1 -/
def yard_Place_1 (i : Int) (a : List T_api_Bound) (a2 : ByteArray) : Option Bool :=
 (V.gl a i).bind fun x =>
 some (V.seq x.Pod.Name a2)
theorem K71 (i : Int) (a : List T_api_Bound) (a2 : ByteArray) (b : Nat) (b2 : Nat) : VS Tryz.prog 137 (yard_Place_1 i a a2) [Iw i, .ptr b 0, .ptr b2 0] [.box b 40 [L64 a], .box b2 9 [.str a2]] .bool (fun r=>[.box b 40 [L64 a], .box b2 9 [.str a2]]) := by
 refine Az [.tmp 4] Tryz.func137 R R R fun r hm=>?_
 unfold yard_Place_1 at hm
 exact Af tbk [] R R<|Ag<|Bn 0 mixed<|A6 tbk [0,1] [0] (by kernel_rfl) R R R<|Bd hm fun x h1 hm=>Ba 2 R R R (by kernel_rfl) (Br T_api_Bound.vv R R el40 h1)<|A6 tbk [3,4,5,6,7,8] [1] (by kernel_rfl) R R R<|A5 (by kernel_rfl)<|Rt1 hm R [0,1] R R R

/-! trireme/yard.first -/
def yard_first_yard_Place_1.l1 (n : Int) (c : List T_api_Bound) (c2 : ByteArray) : Nat → Int → Option (Out Int Unit)
 | 0, _ => none
 | n2 + 1, v2 =>
  if (decide (v2 < n)) = true then
   (yard_Place_1 v2 c c2).bind fun r =>
   if r = true then
    some (Out.ret v2)
   else
    yard_first_yard_Place_1.l1 n c c2 n2 (i64.wrap (v2 + 1))
  else
   some (Out.go ())
def yard_first_yard_Place_1 (n : Int) (c : List T_api_Bound) (c2 : ByteArray) : Option Int :=
 (yard_first_yard_Place_1.l1 n c c2 FU (0 : Int)).bind fun o =>
 o.on fun j =>
 some (-1)
theorem K72 (n : Int) (c : List T_api_Bound) (c2 : ByteArray) (b : Nat) (b2 : Nat) : VS Tryz.prog 136 (yard_first_yard_Place_1 n c c2) [Iw n, .clo (.func 137) [] [.ptr b 0, .ptr b2 0]] [.box b 40 [L64 c], .box b2 9 [.str c2]] Iw (fun r=>[.box b 40 [L64 c], .box b2 9 [.str c2]]) := by
 refine Az [.tmp 4] Dy R R R fun r hm=>?_
 unfold yard_first_yard_Place_1 at hm
 refine Af tbk [] R R<|Ag<|Af tbk [] R R<|B1 hm (fun _ (_:Unit)=>[]) (fun _ (_:Unit)=>[.box b 40 [L64 c],.box b2 9 [.str c2]]) (fun o hm h2=>?_) fun j _ hm=> ?_
 ·refine B8 (fun zn (zs:Int)=>yard_first_yard_Place_1.l1 n c c2 zn zs) (fun zs (_:Unit)=>[(1,.clo (.func 137) [] [.ptr b 0,.ptr b2 0]),(6,Iw n),(7,Iw zs)]) (fun _ (_:Unit)=>[.box b 40 [L64 c],.box b2 9 [.str c2]]) _ () (fun _=>R) hm (Ah [0,1] R R) fun n2 v2 _ hm=> ?_
  rw [yard_first_yard_Place_1.l1] at hm
  exact Af tbk [] R R<|Ag<|An hm R (fun h3 hm=>Ak<|Ag<|Au<|Af tbk [] R R<|Ae<|Ab tbk [] 2 R R<|Ad R R<|Ax hm 2 R fn137 R (K71 _ _ _ _ _) fun r hm=>Ac<|An hm R (fun h5 hm=>Af tbk [] R R<|have hm:=Lr hm h2;Rt1 hm R [0,1] R R R) fun h5 hm=>Ak<|A9 tbk [] R R<|Ap _ () hm (Ah [0,1] R R)) fun h3 hm=>A4<|Ar () hm (Ah [0,1] R R)
 exact Af tbk [] R R<|Rt1 hm R [0,1] R R R

/-! trireme/yard.Place -/
def yard_Place (bs : List T_api_Bound) (name : ByteArray) : Option Int :=
 (yard_first_yard_Place_1 (bs.length : Int) bs name).bind fun r =>
 some r
theorem K73 (bs : List T_api_Bound) (name : ByteArray) : VS Tryz.prog 66 (yard_Place bs name) [L64 bs, .str name] [] Iw N0 := by
 refine Az [.tmp 4] Tryz.func66 R R R fun r hm=>?_
 unfold yard_Place at hm
 exact Ae<|Ad R R<|Bi R R fun b=>Ad R R<|Bi R R fun b2=>Aa R R (Aj R)<|Ac<|Ae<|Ab tbk [1] 1 R R<|Aa R R (Ay T_api_Bound.vv R Bz)<|Aa R R (C6 R R)<|Bb (Bg [1,0] R)<|Ad R R<|Ax hm 2 R fn136 R (K72 _ _ _ _ _) fun r hm=>Aa R R (Aj R)<|Ac<|Rt1 hm R [] R R R

end Go.Proofs.YtbgfffdnaijmhaaGreat.M

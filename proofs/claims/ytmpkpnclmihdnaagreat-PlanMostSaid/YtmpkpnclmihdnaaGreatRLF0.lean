/-
  Printed by a program of this session out of the loaded functions: models and their proofs. Own text.
-/
import Derived.Test.YtmpkpnclmihdnaaGreatRLT
namespace Go.Proofs.YtmpkpnclmihdnaaGreat.M
open Go Go.Proofs Go.Proofs.YtmpkpnclmihdnaaGreat.V
open Go.IntKind (i64)
set_option linter.unusedVariables false
set_option maxRecDepth 20000
set_option maxHeartbeats 4000000
/-! trireme/triremeref05.Light -/
def ref05_Light.l1 (l : List T_api_Label) : Nat → Int → Option (Out Bool Unit)
 | 0, _ => none
 | n + 1, i2 =>
  if (decide (i2 < (l.length : Int))) = true then
   (V.gl l i2).bind fun x =>
   (if (decide ((x.Key.size : Int) > 300)) = true then some true else (V.gl l i2).bind fun x2 =>
   some (decide ((x2.Val.size : Int) > 300))).bind fun c =>
   if c = true then
    some (Out.ret false)
   else
    ref05_Light.l1 l n (i64.wrap (i2 + 1))
  else
   some (Out.go ())
def ref05_Light (l : List T_api_Label) : Option Bool :=
 if (decide ((l.length : Int) > 40)) = true then
  some false
 else
  (ref05_Light.l1 l FU (0 : Int)).bind fun o =>
  o.on fun j =>
  some true
theorem K29 (l : List T_api_Label) : VS Tryz.prog 93 (ref05_Light l) [L92 l] [] .bool N0 := by
 refine A3 [.tmp 2] Tryz.func93 R R R fun r hm=>?_
 unfold ref05_Light at hm
 refine Ag tbk [] R R<|Ae<|Ah<|Ab R R (Al R)<|Ab R R (Av T_api_Label.vv R Br)<|Ab R R (A4 R R R)<|Ac<|Ak hm R (fun h1 hm=>Ag tbk [] R R<|Rt1 hm R [] R R R) fun h1 hm=>Aj<|Ae<|Ag tbk [] R R<|Bn hm (fun _ (_:Unit)=>[]) (fun _ (_:Unit)=>[]) (fun o hm h3=>?_) fun j _ hm=> ?_
 ·refine Bl (fun zn (zs:Int)=>ref05_Light.l1 l zn zs) (fun zs (_:Unit)=>[(0,L92 l),(3,Iw zs)]) (fun _ (_:Unit)=>[]) _ () (fun _=>R) hm (Af [] R R) fun n i2 _ hm=> ?_
  rw [ref05_Light.l1] at hm
  exact Ae<|Ah<|Aa tbk [] 2 R R<|Ab R R (Av T_api_Label.vv R Br)<|Ab R R (A4 R R R)<|Ac<|Ak hm R (fun h4 hm=>Aj<|Ae<|Ay<|Ah<|Aa tbk [] 2 R R<|Bd hm fun x h5 hm=>Ab R R (Az T_api_Label.vv R R el42 h5)<|Aa tbk [] 2 R R<|Ab R R (Cb R A6)<|Aa tbk [] 2 R R<|Be hm 8 28 20 R (fun _ K' h6 J hm=>Aa tbk [] 8 R R<|J 7 R R (Bj hm)) (fun _ K' h6 J hm=>Aa tbk [] 2 R R<|Bd hm fun x2 h7 hm=>Bg R R R R R (Az T_api_Label.vv R R el42 h7)<|Aa tbk [] 2 R R<|Bg R R R R R (Cb R A6)<|Aa tbk [] 2 R R<|J 7 R R (Bj hm)) fun c hm=>Ac<|Ak hm R (fun h9 hm=>Ag tbk [] R R<|have hm:=Lr hm h3;Rt1 hm R [] R R R) fun h9 hm=>Aj<|A2 tbk [] R R<|Ap _ () hm (Af [] R R)) fun h4 hm=>A1<|Ar () hm (Af [] R R)
 exact Ag tbk [] R R<|Rt1 hm R [] R R R

/-! trireme/triremeref06.Light -/
def ref06_Light.l1 (l : List T_api_Toleration) : Nat → Int → Option (Out Bool Unit)
 | 0, _ => none
 | n + 1, i2 =>
  if (decide (i2 < (l.length : Int))) = true then
   (V.gl l i2).bind fun x =>
   (if (decide ((x.Key.size : Int) > 300)) = true then some true else (V.gl l i2).bind fun x2 =>
   some (decide ((x2.Val.size : Int) > 300))).bind fun c =>
   if c = true then
    some (Out.ret false)
   else
    ref06_Light.l1 l n (i64.wrap (i2 + 1))
  else
   some (Out.go ())
def ref06_Light.l2 (taints : List T_api_Taint) : Nat → Int → Option (Out Bool Unit)
 | 0, _ => none
 | n2 + 1, i4 =>
  if (decide (i4 < (taints.length : Int))) = true then
   (V.gl taints i4).bind fun x3 =>
   (if (decide ((x3.Key.size : Int) > 300)) = true then some true else (V.gl taints i4).bind fun x4 =>
   some (decide ((x4.Val.size : Int) > 300))).bind fun c2 =>
   if c2 = true then
    some (Out.ret false)
   else
    ref06_Light.l2 taints n2 (i64.wrap (i4 + 1))
  else
   some (Out.go ())
def ref06_Light (l : List T_api_Toleration) (taints : List T_api_Taint) : Option Bool :=
 if ((decide ((l.length : Int) > 40)) || (decide ((taints.length : Int) > 40))) = true then
  some false
 else
  (ref06_Light.l1 l FU (0 : Int)).bind fun o =>
  o.on fun j =>
  (ref06_Light.l2 taints FU (0 : Int)).bind fun o2 =>
  o2.on fun j2 =>
  some true
theorem K30 (l : List T_api_Toleration) (taints : List T_api_Taint) : VS Tryz.prog 119 (ref06_Light l taints) [L172 l, L166 taints] [] .bool N0 := by
 refine A3 [.tmp 4] Tryz.func119 R R R fun r hm=>?_
 unfold ref06_Light at hm
 refine Ag tbk [] R R<|Ae<|Ah<|Ab R R (Al R)<|Ab R R (Av T_api_Toleration.vv R Ct)<|Aa tbk [] 2 R R<|Cz 4 14 10 R (fun K' J=>Aa tbk [] 4 R R<|J 3 R R R) (fun h1 K' J=>Bg R R R R R (Al R)<|Bg R R R R R (Av T_api_Taint.vv R B1)<|Aa tbk [] 2 R R<|J 3 R R R)<|Ac<|Ak hm R (fun h2 hm=>Ag tbk [] R R<|Rt1 hm R [] R R R) fun h2 hm=>Aj<|Ae<|Ag tbk [] R R<|Bn hm (fun _ (_:Unit)=>[(1,L166 taints)]) (fun _ (_:Unit)=>[]) (fun o hm h4=>?_) fun j _ hm=> ?_
 ·refine Bl (fun zn (zs:Int)=>ref06_Light.l1 l zn zs) (fun zs (_:Unit)=>[(0,L172 l),(1,L166 taints),(5,Iw zs)]) (fun _ (_:Unit)=>[]) _ () (fun _=>R) hm (Af [] R R) fun n i2 _ hm=> ?_
  rw [ref06_Light.l1] at hm
  exact Ae<|Ah<|Aa tbk [] 2 R R<|Ab R R (Av T_api_Toleration.vv R Ct)<|Ab R R (A4 R R R)<|Ac<|Ak hm R (fun h5 hm=>Aj<|Ae<|Ay<|Ah<|Aa tbk [] 2 R R<|Bd hm fun x h6 hm=>Ab R R (Az T_api_Toleration.vv R R el44 h6)<|Aa tbk [] 2 R R<|Ab R R (Cb R A6)<|Aa tbk [] 2 R R<|Be hm 8 36 28 R (fun _ K' h7 J hm=>Aa tbk [] 8 R R<|J 7 R R (Bj hm)) (fun _ K' h7 J hm=>Aa tbk [] 2 R R<|Bd hm fun x2 h8 hm=>Bg R R R R R (Az T_api_Toleration.vv R R el44 h8)<|Aa tbk [] 2 R R<|Bg R R R R R (Cb R A6)<|Aa tbk [] 2 R R<|J 7 R R (Bj hm)) fun c hm=>Ac<|Ak hm R (fun h10 hm=>Ag tbk [] R R<|have hm:=Lr hm h4;Rt1 hm R [] R R R) fun h10 hm=>Aj<|A2 tbk [] R R<|Ap _ () hm (Af [] R R)) fun h5 hm=>A1<|Ar () hm (Af [] R R)
 refine Ae<|Ag tbk [] R R<|Bn hm (fun _ (_:Unit)=>[]) (fun _ (_:Unit)=>[]) (fun o2 hm h12=>?_) fun j2 _ hm=> ?_
 ·refine Bl (fun zn (zs:Int)=>ref06_Light.l2 taints zn zs) (fun zs (_:Unit)=>[(1,L166 taints),(6,Iw zs)]) (fun _ (_:Unit)=>[]) _ () (fun _=>R) hm (Af [] R R) fun n2 i4 _ hm=> ?_
  rw [ref06_Light.l2] at hm
  exact Ae<|Ah<|Aa tbk [] 2 R R<|Ab R R (Av T_api_Taint.vv R B1)<|Ab R R (A4 R R R)<|Ac<|Ak hm R (fun h13 hm=>Aj<|Ae<|Ay<|Ah<|Aa tbk [] 2 R R<|Bd hm fun x3 h14 hm=>Ab R R (Az T_api_Taint.vv R R el59 h14)<|Aa tbk [] 2 R R<|Ab R R (Cb R A6)<|Aa tbk [] 2 R R<|Be hm 8 58 50 R (fun _ K' h15 J hm=>Aa tbk [] 8 R R<|J 7 R R (Bj hm)) (fun _ K' h15 J hm=>Aa tbk [] 2 R R<|Bd hm fun x4 h16 hm=>Bg R R R R R (Az T_api_Taint.vv R R el59 h16)<|Aa tbk [] 2 R R<|Bg R R R R R (Cb R A6)<|Aa tbk [] 2 R R<|J 7 R R (Bj hm)) fun c2 hm=>Ac<|Ak hm R (fun h18 hm=>Ag tbk [] R R<|have hm:=Lr hm h12;Rt1 hm R [] R R R) fun h18 hm=>Aj<|A2 tbk [] R R<|Ap _ () hm (Af [] R R)) fun h13 hm=>A1<|Ar () hm (Af [] R R)
 exact Ag tbk [] R R<|Rt1 hm R [] R R R

/-! trireme/triremeref07.LightMachine -/
def ref07_LightMachine (m : T_api_Machine) : Option Bool :=
 (if ((decide ((m.Name.size : Int) ≤ 300)) && (decide ((m.Group.size : Int) ≤ 300))) = true then (ref05_Light m.Labels).bind fun r =>
 some r else some false).bind fun c =>
 (if c = true then (ref06_Light ([] : List T_api_Toleration) m.Taints).bind fun r2 =>
 some r2 else some false).bind fun c2 =>
 some c2
theorem K31 (m : T_api_Machine) : VS Tryz.prog 65 (ref07_LightMachine m) [T_api_Machine.vv m] [] .bool N0 := by
 refine A3 [.tmp 2] Tryz.func65 R R R fun r hm=>?_
 unfold ref07_LightMachine at hm
 exact Ah<|Ad R R<|Ba R R fun b=>Ab R R (Ai R)<|Ac<|Ah<|Aa tbk [0] 2 R R<|Ab R R (Cb R A6)<|Aa tbk [] 2 R R<|C8 5 12 7 R (fun h2 K' J=>Aa tbk [0] 2 R R<|Bg R R R R R (Cb R A6)<|Aa tbk [] 2 R R<|J 4 R R R) (fun K' J=>Aa tbk [] 5 R R<|J 4 R R R)<|Ab R R (Al R)<|Be hm 4 17 13 R (fun _ K' h3 J hm=>Aa tbk [0] 2 R R<|A7 R R R R R<|Am hm 0 R fn93 R (K29 _) fun r hm=>Ab R R (Bf true R R R)<|J 3 R R (Bj hm)) (fun _ K' h3 J hm=>Aa tbk [] 4 R R<|J 3 R R (Bj hm)) fun c hm=>Ab R R (Al R)<|Be hm 4 22 18 R (fun _ K' h6 J hm=>Aa tbk [0] 2 R R<|A7 R R R R R<|VO.cn hm 0 [.nil 172,.same] R fn119 R (K30 _ _) fun r2 hm=>Ab R R (Bf true R R R)<|J 3 R R (Bj hm)) (fun _ K' h6 J hm=>Aa tbk [] 4 R R<|J 3 R R (Bj hm)) fun c2 hm=>Ab R R (Ai R)<|Ac<|Rt1 hm R [] R R R

/-! trireme/triremeref05.LightTerm -/
def ref05_LightTerm.l1 (t : T_api_Term) : Nat → Int → Option (Out Bool Unit)
 | 0, _ => none
 | n + 1, i2 =>
  if (decide (i2 < (t.Vals.length : Int))) = true then
   (V.gl t.Vals i2).bind fun x =>
   if (decide ((x.size : Int) > 300)) = true then
    some (Out.ret false)
   else
    ref05_LightTerm.l1 t n (i64.wrap (i2 + 1))
  else
   some (Out.go ())
def ref05_LightTerm (t : T_api_Term) : Option Bool :=
 if ((decide ((t.Vals.length : Int) > 40)) || (decide ((t.Key.size : Int) > 300))) = true then
  some false
 else
  (ref05_LightTerm.l1 t FU (0 : Int)).bind fun o =>
  o.on fun j =>
  some true
theorem K32 (t : T_api_Term) : VS Tryz.prog 120 (ref05_LightTerm t) [T_api_Term.vv t] [] .bool N0 := by
 refine A3 [.tmp 2] Tryz.func120 R R R fun r hm=>?_
 unfold ref05_LightTerm at hm
 refine Ah<|Ad R R<|Ba R R fun b=>Ab R R (Ai R)<|Ac<|Ae<|Ah<|Aa tbk [0] 2 R R<|Ab R R (Av VV.str R Bo)<|Aa tbk [] 2 R R<|Cz 5 13 8 R (fun K' J=>Aa tbk [] 5 R R<|J 4 R R R) (fun h2 K' J=>Aa tbk [0] 2 R R<|Bg R R R R R (Cb R A6)<|Aa tbk [] 2 R R<|J 4 R R R)<|Ac<|Ak hm R (fun h3 hm=>Ag tbk [] R R<|Rt1 hm R [] R R R) fun h3 hm=>Aj<|Ae<|Ag tbk [] R R<|Bn hm (fun _ (_:Unit)=>[]) (fun _ (_:Unit)=>[]) (fun o hm h5=>?_) fun j _ hm=> ?_
 ·refine Bl (fun zn (zs:Int)=>ref05_LightTerm.l1 t zn zs) (fun zs (_:Unit)=>[(1,.ptr b 0),(3,Iw zs)]) (fun _ (_:Unit)=>[X142 b t]) _ () (fun _=>R) hm (Af [0] R R) fun n i2 _ hm=> ?_
  rw [ref05_LightTerm.l1] at hm
  exact Ae<|Ah<|Aa tbk [0] 3 R R<|Ab R R (Av VV.str R Bo)<|Ab R R (A4 R R R)<|Ac<|Ak hm R (fun h6 hm=>Aj<|Ae<|Ay<|Ah<|Aa tbk [0] 3 R R<|Bd hm fun x h7 hm=>Ab R R (Az VV.str R R el25 h7)<|Ab R R (Bi R ld9 R)<|Ab R R (Cb R A6)<|Ab R R (A4 R R R)<|Ac<|Ak hm R (fun h8 hm=>Ag tbk [] R R<|have hm:=Lr hm h5;Rt1 hm R [] R R R) fun h8 hm=>Aj<|A2 tbk [] R R<|Ap _ () hm (Af [0] R R)) fun h6 hm=>A1<|Ar () hm (Af [] R R)
 exact Ag tbk [] R R<|Rt1 hm R [] R R R

/-! trireme/triremeref07.LightPod -/
def ref07_LightPod.l1 (p : T_api_Pod) : Nat → Int → Option (Out Bool Unit)
 | 0, _ => none
 | n + 1, i2 =>
  if (decide (i2 < (p.Terms.length : Int))) = true then
   (V.gl p.Terms i2).bind fun x =>
   (ref05_LightTerm x).bind fun r6 =>
   if (!r6) = true then
    some (Out.ret false)
   else
    ref07_LightPod.l1 p n (i64.wrap (i2 + 1))
  else
   some (Out.go ())
def ref07_LightPod (p : T_api_Pod) : Option Bool :=
 (if ((((decide ((p.Name.size : Int) > 300)) || (decide ((p.Owner.size : Int) > 300))) || (decide ((p.Terms.length : Int) > 30))) || (decide ((p.Ports.length : Int) > 30))) = true then some true else (ref05_Light p.Labels).bind fun r =>
 some (!r)).bind fun c =>
 (if c = true then some true else (ref05_Light p.Select).bind fun r2 =>
 some (!r2)).bind fun c2 =>
 (if c2 = true then some true else (ref05_Light p.Apart).bind fun r3 =>
 some (!r3)).bind fun c3 =>
 (if c3 = true then some true else (ref05_Light p.Spread).bind fun r4 =>
 some (!r4)).bind fun c4 =>
 (if c4 = true then some true else (ref06_Light p.Bears ([] : List T_api_Taint)).bind fun r5 =>
 some (!r5)).bind fun c5 =>
 if c5 = true then
  some false
 else
  (ref07_LightPod.l1 p FU (0 : Int)).bind fun o =>
  o.on fun j =>
  some true
theorem K33 (p : T_api_Pod) : VS Tryz.prog 66 (ref07_LightPod p) [T_api_Pod.vv p] [] .bool N0 := by
 refine A3 [.tmp 2] Tryz.func66 R R R fun r hm=>?_
 unfold ref07_LightPod at hm
 refine Ah<|Ad R R<|Ba R R fun b=>Ab R R (Ai R)<|Ac<|Ae<|Ah<|Aa tbk [0] 2 R R<|Ab R R (Cb R A6)<|Aa tbk [] 2 R R<|Cz 5 13 8 R (fun K' J=>Aa tbk [] 5 R R<|J 4 R R R) (fun h2 K' J=>Aa tbk [0] 2 R R<|Bg R R R R R (Cb R A6)<|Aa tbk [] 2 R R<|J 4 R R R)<|Ab R R (Al R)<|Cz 5 19 14 R (fun K' J=>Aa tbk [] 5 R R<|J 4 R R R) (fun h3 K' J=>Aa tbk [0] 2 R R<|Bg R R R R R (Av T_api_Term.vv R Cm)<|Aa tbk [] 2 R R<|J 4 R R R)<|Ab R R (Al R)<|Cz 5 25 20 R (fun K' J=>Aa tbk [] 5 R R<|J 4 R R R) (fun h4 K' J=>Aa tbk [0] 2 R R<|Bg R R R R R (Av (VV.int .i64) R Ck)<|Aa tbk [] 2 R R<|J 4 R R R)<|Ab R R (Al R)<|Be hm 5 31 26 R (fun _ K' h5 J hm=>Aa tbk [] 5 R R<|J 4 R R (Bj hm)) (fun _ K' h5 J hm=>Aa tbk [0] 2 R R<|A7 R R R R R<|Am hm 0 R fn93 R (K29 _) fun r hm=>Aa tbk [] 2 R R<|J 4 R R (Bj hm)) fun c hm=>Ab R R (Al R)<|Be hm 5 37 32 R (fun _ K' h8 J hm=>Aa tbk [] 5 R R<|J 4 R R (Bj hm)) (fun _ K' h8 J hm=>Aa tbk [0] 2 R R<|A7 R R R R R<|Am hm 0 R fn93 R (K29 _) fun r2 hm=>Aa tbk [] 2 R R<|J 4 R R (Bj hm)) fun c2 hm=>Ab R R (Al R)<|Be hm 5 43 38 R (fun _ K' h11 J hm=>Aa tbk [] 5 R R<|J 4 R R (Bj hm)) (fun _ K' h11 J hm=>Aa tbk [0] 2 R R<|A7 R R R R R<|Am hm 0 R fn93 R (K29 _) fun r3 hm=>Aa tbk [] 2 R R<|J 4 R R (Bj hm)) fun c3 hm=>Ab R R (Al R)<|Be hm 5 49 44 R (fun _ K' h14 J hm=>Aa tbk [] 5 R R<|J 4 R R (Bj hm)) (fun _ K' h14 J hm=>Aa tbk [0] 2 R R<|A7 R R R R R<|Am hm 0 R fn93 R (K29 _) fun r4 hm=>Aa tbk [] 2 R R<|J 4 R R (Bj hm)) fun c4 hm=>Ab R R (Al R)<|Be hm 5 55 50 R (fun _ K' h17 J hm=>Aa tbk [] 5 R R<|J 4 R R (Bj hm)) (fun _ K' h17 J hm=>Aa tbk [0] 2 R R<|A7 R R R R R<|VO.cn hm 0 [.same,.nil 166] R fn119 R (K30 _ _) fun r5 hm=>Aa tbk [] 2 R R<|J 4 R R (Bj hm)) fun c5 hm=>Ac<|Ak hm R (fun h20 hm=>Ag tbk [] R R<|Rt1 hm R [] R R R) fun h20 hm=>Aj<|Ae<|Ag tbk [] R R<|Bn hm (fun _ (_:Unit)=>[]) (fun _ (_:Unit)=>[]) (fun o hm h22=>?_) fun j _ hm=> ?_
 ·refine Bl (fun zn (zs:Int)=>ref07_LightPod.l1 p zn zs) (fun zs (_:Unit)=>[(1,.ptr b 0),(3,Iw zs)]) (fun _ (_:Unit)=>[X47 b p]) _ () (fun _=>R) hm (Af [0] R R) fun n i2 _ hm=> ?_
  rw [ref07_LightPod.l1] at hm
  exact Ae<|Ah<|Aa tbk [0] 3 R R<|Ab R R (Av T_api_Term.vv R Cm)<|Ab R R (A4 R R R)<|Ac<|Ak hm R (fun h23 hm=>Aj<|Ae<|Ay<|Ah<|Aa tbk [0] 3 R R<|Bd hm fun x h24 hm=>Ab R R (Az T_api_Term.vv R R el43 h24)<|Ab R R (Bi R ld142 R)<|Ad R R<|Am hm 0 R fn120 R (K32 _) fun r6 hm=>Ab R R (Co R)<|Ac<|Ak hm R (fun h26 hm=>Ag tbk [] R R<|have hm:=Lr hm h22;Rt1 hm R [] R R R) fun h26 hm=>Aj<|A2 tbk [] R R<|Ap _ () hm (Af [0] R R)) fun h23 hm=>A1<|Ar () hm (Af [] R R)
 exact Ag tbk [] R R<|Rt1 hm R [] R R R

/-! trireme/triremeref09.Light -/
def ref09_Light.l1 (ms : List T_api_Machine) : Nat → Int → Option (Out Bool Unit)
 | 0, _ => none
 | n + 1, i2 =>
  if (decide (i2 < (ms.length : Int))) = true then
   (V.gl ms i2).bind fun x =>
   (ref07_LightMachine x).bind fun r =>
   if (!r) = true then
    some (Out.ret false)
   else
    ref09_Light.l1 ms n (i64.wrap (i2 + 1))
  else
   some (Out.go ())
def ref09_Light.l2 (bs : List T_api_Bound) : Nat → Int → Option (Out Bool Unit)
 | 0, _ => none
 | n2 + 1, i4 =>
  if (decide (i4 < (bs.length : Int))) = true then
   (V.gl bs i4).bind fun x2 =>
   (ref07_LightPod x2.Pod).bind fun r2 =>
   (if (!r2) = true then some true else (V.gl bs i4).bind fun x3 =>
   some (decide ((x3.On.size : Int) > 300))).bind fun c =>
   if c = true then
    some (Out.ret false)
   else
    ref09_Light.l2 bs n2 (i64.wrap (i4 + 1))
  else
   some (Out.go ())
def ref09_Light (ms : List T_api_Machine) (bs : List T_api_Bound) : Option Bool :=
 if ((decide ((ms.length : Int) > 20)) || (decide ((bs.length : Int) > 40))) = true then
  some false
 else
  (ref09_Light.l1 ms FU (0 : Int)).bind fun o =>
  o.on fun j =>
  (ref09_Light.l2 bs FU (0 : Int)).bind fun o2 =>
  o2.on fun j2 =>
  some true
theorem K34 (ms : List T_api_Machine) (bs : List T_api_Bound) : VS Tryz.prog 27 (ref09_Light ms bs) [L61 ms, L49 bs] [] .bool N0 := by
 refine A3 [.tmp 4] Tryz.func27 R R R fun r hm=>?_
 unfold ref09_Light at hm
 refine Ag tbk [] R R<|Ae<|Ah<|Ab R R (Al R)<|Ab R R (Av T_api_Machine.vv R Bu)<|Aa tbk [] 2 R R<|Cz 4 14 10 R (fun K' J=>Aa tbk [] 4 R R<|J 3 R R R) (fun h1 K' J=>Bg R R R R R (Al R)<|Bg R R R R R (Av T_api_Bound.vv R Bk)<|Aa tbk [] 2 R R<|J 3 R R R)<|Ac<|Ak hm R (fun h2 hm=>Ag tbk [] R R<|Rt1 hm R [] R R R) fun h2 hm=>Aj<|Ae<|Ag tbk [] R R<|Bn hm (fun _ (_:Unit)=>[(1,L49 bs)]) (fun _ (_:Unit)=>[]) (fun o hm h4=>?_) fun j _ hm=> ?_
 ·refine Bl (fun zn (zs:Int)=>ref09_Light.l1 ms zn zs) (fun zs (_:Unit)=>[(0,L61 ms),(1,L49 bs),(5,Iw zs)]) (fun _ (_:Unit)=>[]) _ () (fun _=>R) hm (Af [] R R) fun n i2 _ hm=> ?_
  rw [ref09_Light.l1] at hm
  exact Ae<|Ah<|Aa tbk [] 2 R R<|Ab R R (Av T_api_Machine.vv R Bu)<|Ab R R (A4 R R R)<|Ac<|Ak hm R (fun h5 hm=>Aj<|Ae<|Ay<|Ah<|Aa tbk [] 2 R R<|Bd hm fun x h6 hm=>Ab R R (Az T_api_Machine.vv R R el22 h6)<|Ab R R (Bi R ld61 R)<|Ad R R<|Am hm 0 R fn65 R (K31 _) fun r hm=>Ab R R (Co R)<|Ac<|Ak hm R (fun h8 hm=>Ag tbk [] R R<|have hm:=Lr hm h4;Rt1 hm R [] R R R) fun h8 hm=>Aj<|A2 tbk [] R R<|Ap _ () hm (Af [] R R)) fun h5 hm=>A1<|Ar () hm (Af [] R R)
 refine Ae<|Ag tbk [] R R<|Bn hm (fun _ (_:Unit)=>[]) (fun _ (_:Unit)=>[]) (fun o2 hm h10=>?_) fun j2 _ hm=> ?_
 ·refine Bl (fun zn (zs:Int)=>ref09_Light.l2 bs zn zs) (fun zs (_:Unit)=>[(1,L49 bs),(6,Iw zs)]) (fun _ (_:Unit)=>[]) _ () (fun _=>R) hm (Af [] R R) fun n2 i4 _ hm=> ?_
  rw [ref09_Light.l2] at hm
  exact Ae<|Ah<|Aa tbk [] 2 R R<|Ab R R (Av T_api_Bound.vv R Bk)<|Ab R R (A4 R R R)<|Ac<|Ak hm R (fun h11 hm=>Aj<|Ae<|Ay<|Ah<|Aa tbk [] 2 R R<|Bd hm fun x2 h12 hm=>Ab R R (Az T_api_Bound.vv R R el23 h12)<|Aa tbk [] 2 R R<|Ad R R<|Am hm 0 R fn66 R (K33 _) fun r2 hm=>Aa tbk [] 2 R R<|Be hm 8 48 40 R (fun _ K' h14 J hm=>Aa tbk [] 8 R R<|J 7 R R (Bj hm)) (fun _ K' h14 J hm=>Aa tbk [] 2 R R<|Bd hm fun x3 h15 hm=>Bg R R R R R (Az T_api_Bound.vv R R el23 h15)<|Aa tbk [] 2 R R<|Bg R R R R R (Cb R A6)<|Aa tbk [] 2 R R<|J 7 R R (Bj hm)) fun c hm=>Ac<|Ak hm R (fun h17 hm=>Ag tbk [] R R<|have hm:=Lr hm h10;Rt1 hm R [] R R R) fun h17 hm=>Aj<|A2 tbk [] R R<|Ap _ () hm (Af [] R R)) fun h11 hm=>A1<|Ar () hm (Af [] R R)
 exact Ag tbk [] R R<|Rt1 hm R [] R R R

/-! trireme/triremeref15.Light -/
def ref15_Light.l1 (l : List T_api_Budget) : Nat → Int → Option (Out Bool Unit)
 | 0, _ => none
 | n + 1, i2 =>
  if (decide (i2 < (l.length : Int))) = true then
   (V.gl l i2).bind fun x =>
   (if (decide ((x.Name.size : Int) > 300)) = true then some true else (V.gl l i2).bind fun x2 =>
   (ref05_Light x2.Match).bind fun r =>
   some (!r)).bind fun c =>
   if c = true then
    some (Out.ret false)
   else
    ref15_Light.l1 l n (i64.wrap (i2 + 1))
  else
   some (Out.go ())
def ref15_Light (l : List T_api_Budget) : Option Bool :=
 if (decide ((l.length : Int) > 30)) = true then
  some false
 else
  (ref15_Light.l1 l FU (0 : Int)).bind fun o =>
  o.on fun j =>
  some true
theorem K35 (l : List T_api_Budget) : VS Tryz.prog 45 (ref15_Light l) [L64 l] [] .bool N0 := by
 refine A3 [.tmp 2] Tryz.func45 R R R fun r hm=>?_
 unfold ref15_Light at hm
 refine Ag tbk [] R R<|Ae<|Ah<|Ab R R (Al R)<|Ab R R (Av T_api_Budget.vv R Cs)<|Ab R R (A4 R R R)<|Ac<|Ak hm R (fun h1 hm=>Ag tbk [] R R<|Rt1 hm R [] R R R) fun h1 hm=>Aj<|Ae<|Ag tbk [] R R<|Bn hm (fun _ (_:Unit)=>[]) (fun _ (_:Unit)=>[]) (fun o hm h3=>?_) fun j _ hm=> ?_
 ·refine Bl (fun zn (zs:Int)=>ref15_Light.l1 l zn zs) (fun zs (_:Unit)=>[(0,L64 l),(3,Iw zs)]) (fun _ (_:Unit)=>[]) _ () (fun _=>R) hm (Af [] R R) fun n i2 _ hm=> ?_
  rw [ref15_Light.l1] at hm
  exact Ae<|Ah<|Aa tbk [] 2 R R<|Ab R R (Av T_api_Budget.vv R Cs)<|Ab R R (A4 R R R)<|Ac<|Ak hm R (fun h4 hm=>Aj<|Ae<|Ay<|Ah<|Aa tbk [] 2 R R<|Bd hm fun x h5 hm=>Ab R R (Az T_api_Budget.vv R R el24 h5)<|Aa tbk [] 2 R R<|Ab R R (Cb R A6)<|Aa tbk [] 2 R R<|Be hm 8 28 20 R (fun _ K' h6 J hm=>Aa tbk [] 8 R R<|J 7 R R (Bj hm)) (fun _ K' h6 J hm=>Aa tbk [] 2 R R<|Bd hm fun x2 h7 hm=>Bg R R R R R (Az T_api_Budget.vv R R el24 h7)<|Aa tbk [] 2 R R<|A7 R R R R R<|Am hm 0 R fn93 R (K29 _) fun r hm=>Aa tbk [] 2 R R<|J 7 R R (Bj hm)) fun c hm=>Ac<|Ak hm R (fun h10 hm=>Ag tbk [] R R<|have hm:=Lr hm h3;Rt1 hm R [] R R R) fun h10 hm=>Aj<|A2 tbk [] R R<|Ap _ () hm (Af [] R R)) fun h4 hm=>A1<|Ar () hm (Af [] R R)
 exact Ag tbk [] R R<|Rt1 hm R [] R R R

/-! trireme/triremeref01.more -/
def ref01_more (s : ByteArray) (i : Int) : Option Bool :=
 (if (decide (i < (s.size : Int))) = true then (V.gi s i).bind fun v =>
 some (decide (v ≥ 128)) else some false).bind fun c =>
 (if c = true then (V.gi s i).bind fun v2 =>
 some (decide (v2 < 192)) else some false).bind fun c2 =>
 some c2
theorem K36 (s : ByteArray) (i : Int) : VS Tryz.prog 180 (ref01_more s i) [.str s, Iw i] [] .bool N0 := by
 refine A3 [.tmp 4] Tryz.func180 R R R fun r hm=>?_
 unfold ref01_more at hm
 exact Ag tbk [] R R<|Ah<|Aa tbk [] 2 R R<|Ab R R (Cb R A6)<|Aa tbk [] 2 R R<|Be hm 5 14 9 R (fun _ K' h1 J hm=>Aa tbk [] 2 R R<|Bd hm fun v h2 hm=>Bg R R R R R (C0 R R A6 h2)<|Aa tbk [] 2 R R<|J 4 R R (Bj hm)) (fun _ K' h1 J hm=>Aa tbk [] 5 R R<|J 4 R R (Bj hm)) fun c hm=>Ab R R (Al R)<|Be hm 5 20 15 R (fun _ K' h4 J hm=>Aa tbk [] 2 R R<|Bd hm fun v2 h5 hm=>Bg R R R R R (C0 R R A6 h5)<|Aa tbk [] 2 R R<|J 4 R R (Bj hm)) (fun _ K' h4 J hm=>Aa tbk [] 5 R R<|J 4 R R (Bj hm)) fun c2 hm=>Ab R R (Ai R)<|Ac<|Rt1 hm R [] R R R

/-! trireme/triremeref01.Rune -/
def ref01_Rune (s : ByteArray) (i : Int) : Option (Int × Int) :=
 (V.gi s i).bind fun v =>
 if (decide ((i64.wrap v) < 128)) = true then
  some ((i64.wrap v), 1)
 else
  (if ((decide ((i64.wrap v) ≥ 192)) && (decide ((i64.wrap v) < 224))) = true then (ref01_more s (i64.wrap (i + 1))).bind fun r =>
  some r else some false).bind fun c =>
  if c = true then
   (V.gi s (i64.wrap (i + 1))).bind fun v2 =>
   if (decide ((i64.wrap ((i64.wrap ((i64.wrap ((i64.wrap ((i64.wrap v) - 192)) * 64)) + (i64.wrap v2))) - 128)) ≥ 128)) = true then
    some ((i64.wrap ((i64.wrap ((i64.wrap ((i64.wrap ((i64.wrap v) - 192)) * 64)) + (i64.wrap v2))) - 128)), 2)
   else
    some (0, 0)
  else
   (if ((decide ((i64.wrap v) ≥ 224)) && (decide ((i64.wrap v) < 240))) = true then (ref01_more s (i64.wrap (i + 1))).bind fun r2 =>
   some r2 else some false).bind fun c2 =>
   (if c2 = true then (ref01_more s (i64.wrap (i + 2))).bind fun r3 =>
   some r3 else some false).bind fun c3 =>
   if c3 = true then
    (V.gi s (i64.wrap (i + 1))).bind fun v3 =>
    (V.gi s (i64.wrap (i + 2))).bind fun v4 =>
    if ((decide ((i64.wrap ((i64.wrap ((i64.wrap ((i64.wrap ((i64.wrap ((i64.wrap v) - 224)) * 4096)) + (i64.wrap ((i64.wrap ((i64.wrap v3) - 128)) * 64)))) + (i64.wrap v4))) - 128)) ≥ 2048)) && ((decide ((i64.wrap ((i64.wrap ((i64.wrap ((i64.wrap ((i64.wrap ((i64.wrap v) - 224)) * 4096)) + (i64.wrap ((i64.wrap ((i64.wrap v3) - 128)) * 64)))) + (i64.wrap v4))) - 128)) < 55296)) || (decide ((i64.wrap ((i64.wrap ((i64.wrap ((i64.wrap ((i64.wrap ((i64.wrap v) - 224)) * 4096)) + (i64.wrap ((i64.wrap ((i64.wrap v3) - 128)) * 64)))) + (i64.wrap v4))) - 128)) > 57343)))) = true then
     some ((i64.wrap ((i64.wrap ((i64.wrap ((i64.wrap ((i64.wrap ((i64.wrap v) - 224)) * 4096)) + (i64.wrap ((i64.wrap ((i64.wrap v3) - 128)) * 64)))) + (i64.wrap v4))) - 128)), 3)
    else
     some (0, 0)
   else
    (if ((decide ((i64.wrap v) ≥ 240)) && (decide ((i64.wrap v) < 248))) = true then (ref01_more s (i64.wrap (i + 1))).bind fun r4 =>
    some r4 else some false).bind fun c4 =>
    (if c4 = true then (ref01_more s (i64.wrap (i + 2))).bind fun r5 =>
    some r5 else some false).bind fun c5 =>
    (if c5 = true then (ref01_more s (i64.wrap (i + 3))).bind fun r6 =>
    some r6 else some false).bind fun c6 =>
    if c6 = true then
     (V.gi s (i64.wrap (i + 1))).bind fun v5 =>
     (V.gi s (i64.wrap (i + 2))).bind fun v6 =>
     (V.gi s (i64.wrap (i + 3))).bind fun v7 =>
     if ((decide ((i64.wrap ((i64.wrap ((i64.wrap ((i64.wrap ((i64.wrap ((i64.wrap ((i64.wrap v) - 240)) * 262144)) + (i64.wrap ((i64.wrap ((i64.wrap v5) - 128)) * 4096)))) + (i64.wrap ((i64.wrap ((i64.wrap v6) - 128)) * 64)))) + (i64.wrap v7))) - 128)) ≥ 65536)) && (decide ((i64.wrap ((i64.wrap ((i64.wrap ((i64.wrap ((i64.wrap ((i64.wrap ((i64.wrap v) - 240)) * 262144)) + (i64.wrap ((i64.wrap ((i64.wrap v5) - 128)) * 4096)))) + (i64.wrap ((i64.wrap ((i64.wrap v6) - 128)) * 64)))) + (i64.wrap v7))) - 128)) ≤ 1114111))) = true then
      some ((i64.wrap ((i64.wrap ((i64.wrap ((i64.wrap ((i64.wrap ((i64.wrap ((i64.wrap v) - 240)) * 262144)) + (i64.wrap ((i64.wrap ((i64.wrap v5) - 128)) * 4096)))) + (i64.wrap ((i64.wrap ((i64.wrap v6) - 128)) * 64)))) + (i64.wrap v7))) - 128)), 4)
     else
      some (0, 0)
    else
     some (0, 0)
theorem K37 (s : ByteArray) (i : Int) : VS Tryz.prog 136 (ref01_Rune s i) [.str s, Iw i] [] (fun r=>.tup [Iw r.1, Iw r.2]) N0 := by
 refine A3 [.tmp 4,.tmp 5] Tryz.func136 R R R fun r hm=>?_
 unfold ref01_Rune at hm
 refine Ag tbk [] R R<|Ah<|Aa tbk [] 2 R R<|Bd hm fun v h1 hm=>Ab R R (C0 R R A6 h1)<|Ab R R (Cy B6 Ca R)<|Ab R R (Ai R)<|Ac<|Ae<|Ay<|Ag tbk [] R R<|Ak hm R (fun h2 hm=>Ag tbk [] R R<|Rt2 hm R [] R R R R) fun h2 hm=>Ah<|Aa tbk [] 3 R R<|Bx tbk [] 3 24 21 R R R R R<|Ab R R (Al R)<|Be hm 5 30 25 R (fun _ K' h4 J hm=>Aa tbk [] 3 R R<|A7 R R R R R<|Am hm 0 R fn180 R (K36 _ _) fun r hm=>Ab R R (Bf true R R R)<|J 4 R R (Bj hm)) (fun _ K' h4 J hm=>Aa tbk [] 5 R R<|J 4 R R (Bj hm)) fun c hm=>Ab R R (Ai R)<|Ac<|Ak hm R (fun h7 hm=>Ah<|Aa tbk [] 6 R R<|Bd hm fun v2 h8 hm=>Ab R R (C0 R R A6 h8)<|Ab R R (Cy B6 Ca R)<|Aa tbk [] 3 R R<|Ac<|Ag tbk [] R R<|Ak hm R (fun h9 hm=>Ag tbk [] R R<|Rt2 hm R [] R R R R) fun h9 hm=>Aj<|Ag tbk [] R R<|Rt2 hm R [] R R R R) fun h7 hm=>Ah<|Aa tbk [] 3 R R<|Bx tbk [] 3 50 47 R R R R R<|Ab R R (Al R)<|Be hm 5 56 51 R (fun _ K' h11 J hm=>Aa tbk [] 3 R R<|A7 R R R R R<|Am hm 0 R fn180 R (K36 _ _) fun r2 hm=>Ab R R (Bf true R R R)<|J 4 R R (Bj hm)) (fun _ K' h11 J hm=>Aa tbk [] 5 R R<|J 4 R R (Bj hm)) fun c2 hm=>Ab R R (Al R)<|Be hm 5 62 57 R (fun _ K' h14 J hm=>Aa tbk [] 3 R R<|A7 R R R R R<|Am hm 0 R fn180 R (K36 _ _) fun r3 hm=>Ab R R (Bf true R R R)<|J 4 R R (Bj hm)) (fun _ K' h14 J hm=>Aa tbk [] 5 R R<|J 4 R R (Bj hm)) fun c3 hm=>Ab R R (Ai R)<|Ac<|Ak hm R (fun h17 hm=>Ae<|A9 0 mixed<|Aq tbk [0,1,2,3,4,5] [] (by kernel_rfl) R R R<|Bd hm fun v3 h18 hm=>Ax 6 R R R (by kernel_rfl) (C0 R R A6 h18)<|Ax 7 R R R (by kernel_rfl) (Cy B6 Ca R)<|Aq tbk [8,9,10,11,12,13] [] (by kernel_rfl) R R R<|Bd hm fun v4 h19 hm=>Ax 14 R R R (by kernel_rfl) (C0 R R A6 h19)<|Ax 15 R R R (by kernel_rfl) (Cy B6 Ca R)<|Aq tbk [16,17,18] [] (by kernel_rfl) R R R<|A5 (by kernel_rfl)<|Ah<|Aa tbk [] 3 R R<|C8 7 90 83 R (fun h20 K' J=>Aa tbk [] 3 R R<|Cp tbk [] 3 89 86 R R R R R<|Ab R R (Bf true R R R)<|J 4 R R R) (fun K' J=>Aa tbk [] 7 R R<|J 6 R R R)<|Ac<|Ak hm R (fun h22 hm=>Ag tbk [] R R<|Rt2 hm R [] R R R R) fun h22 hm=>Aj<|Ag tbk [] R R<|Rt2 hm R [] R R R R) fun h17 hm=>Ah<|Aa tbk [] 3 R R<|Bx tbk [] 3 98 95 R R R R R<|Ab R R (Al R)<|Be hm 5 104 99 R (fun _ K' h24 J hm=>Aa tbk [] 3 R R<|A7 R R R R R<|Am hm 0 R fn180 R (K36 _ _) fun r4 hm=>Ab R R (Bf true R R R)<|J 4 R R (Bj hm)) (fun _ K' h24 J hm=>Aa tbk [] 5 R R<|J 4 R R (Bj hm)) fun c4 hm=>Ab R R (Al R)<|?_
 exact Be hm 5 110 105 R (fun _ K' h27 J hm=>Aa tbk [] 3 R R<|A7 R R R R R<|Am hm 0 R fn180 R (K36 _ _) fun r5 hm=>Ab R R (Bf true R R R)<|J 4 R R (Bj hm)) (fun _ K' h27 J hm=>Aa tbk [] 5 R R<|J 4 R R (Bj hm)) fun c5 hm=>Ab R R (Al R)<|Be hm 5 116 111 R (fun _ K' h30 J hm=>Aa tbk [] 3 R R<|A7 R R R R R<|Am hm 0 R fn180 R (K36 _ _) fun r6 hm=>Ab R R (Bf true R R R)<|J 4 R R (Bj hm)) (fun _ K' h30 J hm=>Aa tbk [] 5 R R<|J 4 R R (Bj hm)) fun c6 hm=>Ab R R (Ai R)<|Ac<|Ak hm R (fun h33 hm=>Ae<|A9 0 mixed<|Aq tbk [0,1,2,3,4,5] [] (by kernel_rfl) R R R<|Bd hm fun v5 h34 hm=>Ax 6 R R R (by kernel_rfl) (C0 R R A6 h34)<|Ax 7 R R R (by kernel_rfl) (Cy B6 Ca R)<|Aq tbk [8,9,10,11,12,13] [] (by kernel_rfl) R R R<|Bd hm fun v6 h35 hm=>Ax 14 R R R (by kernel_rfl) (C0 R R A6 h35)<|Ax 15 R R R (by kernel_rfl) (Cy B6 Ca R)<|Aq tbk [16,17,18,19,20,21] [] (by kernel_rfl) R R R<|Bd hm fun v7 h36 hm=>Ax 22 R R R (by kernel_rfl) (C0 R R A6 h36)<|Ax 23 R R R (by kernel_rfl) (Cy B6 Ca R)<|Aq tbk [24,25,26] [] (by kernel_rfl) R R R<|A5 (by kernel_rfl)<|Ah<|Aa tbk [] 3 R R<|Bx tbk [] 3 148 145 R R R R R<|Ac<|Ak hm R (fun h38 hm=>Ag tbk [] R R<|Rt2 hm R [] R R R R) fun h38 hm=>Aj<|Ag tbk [] R R<|Rt2 hm R [] R R R R) fun h33 hm=>Aj<|Ag tbk [] R R<|Rt2 hm R [] R R R R

/-! trireme/triremeref01.plain -/
def ref01_plain (c : Int) : Option Bool :=
 some ((((((decide (c > 32)) && (c != 127)) && (c != 40)) && (c != 41)) && (c != 34)) && (c != 59))
theorem K38 (c : Int) : VS Tryz.prog 137 (ref01_plain c) [Iw c] [] .bool N0 := by
 refine A3 [.tmp 2] Tryz.func137 R R R fun r hm=>?_
 unfold ref01_plain at hm
 exact Ag tbk [] R R<|Ah<|Aa tbk [] 3 R R<|Bx tbk [] 3 8 5 R R R R R<|Ab R R (Al R)<|Bx tbk [] 3 12 9 R R R R R<|Ab R R (Al R)<|Bx tbk [] 3 16 13 R R R R R<|Ab R R (Al R)<|Bx tbk [] 3 20 17 R R R R R<|Ab R R (Al R)<|Bx tbk [] 3 24 21 R R R R R<|Ab R R (Ai R)<|Ac<|Rt1 hm R [] R R R

/-! trireme/triremeref01.Word -/
def ref01_Word.l1 (s : ByteArray) : Nat → Int → Int → Option (Out Bool Int)
 | 0, _, _ => none
 | n4 + 1, n2, i2 =>
  if (decide (i2 < (s.size : Int))) = true then
   (ref01_Rune s i2).bind fun r =>
   (if (r.2 == 0) = true then some true else (ref01_plain r.1).bind fun r2 =>
   some (!r2)).bind fun c =>
   if c = true then
    some (Out.ret false)
   else
    ref01_Word.l1 s n4 (i64.wrap (n2 + 1)) (i64.wrap (i2 + r.2))
  else
   some (Out.go n2)
def ref01_Word (s : ByteArray) : Option Bool :=
 (ref01_Word.l1 s FU 0 (0 : Int)).bind fun o =>
 o.on fun n32 =>
 some ((decide (n32 ≥ 1)) && (decide (n32 ≤ 64)))
theorem K39 (s : ByteArray) : VS Tryz.prog 94 (ref01_Word s) [.str s] [] .bool N0 := by
 refine A3 [.tmp 2] Tryz.func94 R R R fun r hm=>?_
 unfold ref01_Word at hm
 refine Ag tbk [] R R<|Ag tbk [] R R<|Ae<|Ag tbk [] R R<|Bn hm (fun n32 (_:Unit)=>[(3,Iw n32)]) (fun _ (_:Unit)=>[]) (fun o hm h2=>?_) fun n32 _ hm=> ?_
 ·refine Bl (fun zn (zs:Int × Int)=>ref01_Word.l1 s zn zs.1 zs.2) (fun zs (_:Unit)=>[(0,.str s),(3,Iw zs.1),(4,Iw zs.2)]) (fun _ (_:Unit)=>[]) ((0 : Int),(0 : Int)) () (fun _=>R) hm (Af [] R R) fun n4=>Pq fun n2 i2 _ hm=> ?_
  rw [ref01_Word.l1] at hm
  exact Ae<|Ah<|Aa tbk [] 2 R R<|Ab R R (Cb R A6)<|Ab R R (A4 R R R)<|Ac<|Ak hm R (fun h3 hm=>Aj<|Ay<|Ah<|Aa tbk [] 2 R R<|Ad R R<|Am hm 0 R fn136 R (K37 _ _) fun r hm=>Aa tbk [] 5 R R<|Ac<|Ae<|Ah<|Aa tbk [] 3 R R<|Be hm 4 23 19 R (fun _ K' h5 J hm=>Aa tbk [] 4 R R<|J 3 R R (Bj hm)) (fun _ K' h5 J hm=>Bg R R R R R (Al R)<|A7 R R R R R<|Am hm 0 R fn137 R (K38 _) fun r2 hm=>Aa tbk [] 2 R R<|J 3 R R (Bj hm)) fun c hm=>Ac<|Ak hm R (fun h8 hm=>Ag tbk [] R R<|have hm:=Lr hm h2;Rt1 hm R [] R R R) fun h8 hm=>Aj<|Ag tbk [] R R<|A2 tbk [] R R<|Ap ((IntKind.i64.wrap (n2 + (1 : Int))),(IntKind.i64.wrap (i2 + r.2))) () hm (Af [] R R)) fun h3 hm=>A1<|Ar () hm (Af [] R R)
 exact Ah<|Aa tbk [] 3 R R<|Bx tbk [] 3 34 31 R R R R R<|Ab R R (Ai R)<|Ac<|Rt1 hm R [] R R R

/-! trireme/triremeref07.maybe -/
def ref07_maybe (s : ByteArray) : Option Bool :=
 (if (V.seq s (⟨#[]⟩ : ByteArray)) = true then some true else (ref01_Word s).bind fun r =>
 some r).bind fun c =>
 some c
theorem K40 (s : ByteArray) : VS Tryz.prog 110 (ref07_maybe s) [.str s] [] .bool N0 := by
 refine A3 [.tmp 2] Tryz.func110 R R R fun r hm=>?_
 unfold ref07_maybe at hm
 exact Ag tbk [] R R<|Ah<|Aa tbk [] 3 R R<|Be hm 3 8 5 R (fun _ K' h1 J hm=>Aa tbk [] 3 R R<|J 2 R R (Bj hm)) (fun _ K' h1 J hm=>Bg R R R R R (Al R)<|A7 R R R R R<|Am hm 0 R fn94 R (K39 _) fun r hm=>Ab R R (Bf false R R R)<|J 2 R R (Bj hm)) fun c hm=>Ab R R (Ai R)<|Ac<|Rt1 hm R [] R R R

/-! trireme/triremeref04.one -/
def ref04_one (n : Int) : Option Bool :=
 some ((decide (n ≥ 0)) && (decide (n ≤ 1125899906842624)))
theorem K41 (n : Int) : VS Tryz.prog 161 (ref04_one n) [Iw n] [] .bool N0 := by
 refine A3 [.tmp 2] Tryz.func161 R R R fun r hm=>?_
 unfold ref04_one at hm
 exact Ag tbk [] R R<|Ah<|Aa tbk [] 3 R R<|Bx tbk [] 3 8 5 R R R R R<|Ab R R (Ai R)<|Ac<|Rt1 hm R [] R R R

/-! trireme/triremeref04.Right -/
def ref04_Right (a : T_api_Res) : Option Bool :=
 (ref04_one a.Cpu).bind fun r =>
 (if r = true then (ref04_one a.Mem).bind fun r2 =>
 some r2 else some false).bind fun c =>
 (if c = true then (ref04_one a.Disk).bind fun r3 =>
 some r3 else some false).bind fun c2 =>
 (if c2 = true then (ref04_one a.Pods).bind fun r4 =>
 some r4 else some false).bind fun c3 =>
 (if c3 = true then (ref04_one a.Dev).bind fun r5 =>
 some r5 else some false).bind fun c4 =>
 some c4
theorem K42 (a : T_api_Res) : VS Tryz.prog 111 (ref04_Right a) [T_api_Res.vv a] [] .bool N0 := by
 refine A3 [.tmp 2] Tryz.func111 R R R fun r hm=>?_
 unfold ref04_Right at hm
 exact Ah<|Ad R R<|Ba R R fun b=>Ab R R (Ai R)<|Ac<|Ah<|Aa tbk [0] 2 R R<|Ad R R<|Am hm 0 R fn161 R (K41 _) fun r hm=>Ab R R (Al R)<|Be hm 4 10 6 R (fun _ K' h3 J hm=>Aa tbk [0] 2 R R<|A7 R R R R R<|Am hm 0 R fn161 R (K41 _) fun r2 hm=>Ab R R (Bf true R R R)<|J 3 R R (Bj hm)) (fun _ K' h3 J hm=>Aa tbk [] 4 R R<|J 3 R R (Bj hm)) fun c hm=>Ab R R (Al R)<|Be hm 4 15 11 R (fun _ K' h6 J hm=>Aa tbk [0] 2 R R<|A7 R R R R R<|Am hm 0 R fn161 R (K41 _) fun r3 hm=>Ab R R (Bf true R R R)<|J 3 R R (Bj hm)) (fun _ K' h6 J hm=>Aa tbk [] 4 R R<|J 3 R R (Bj hm)) fun c2 hm=>Ab R R (Al R)<|Be hm 4 20 16 R (fun _ K' h9 J hm=>Aa tbk [0] 2 R R<|A7 R R R R R<|Am hm 0 R fn161 R (K41 _) fun r4 hm=>Ab R R (Bf true R R R)<|J 3 R R (Bj hm)) (fun _ K' h9 J hm=>Aa tbk [] 4 R R<|J 3 R R (Bj hm)) fun c3 hm=>Ab R R (Al R)<|Be hm 4 25 21 R (fun _ K' h12 J hm=>Aa tbk [0] 2 R R<|A7 R R R R R<|Am hm 0 R fn161 R (K41 _) fun r5 hm=>Ab R R (Bf true R R R)<|J 3 R R (Bj hm)) (fun _ K' h12 J hm=>Aa tbk [] 4 R R<|J 3 R R (Bj hm)) fun c4 hm=>Ab R R (Ai R)<|Ac<|Rt1 hm R [] R R R

/-! trireme/triremeref05.maybe -/
def ref05_maybe (s : ByteArray) : Option Bool :=
 (if (V.seq s (⟨#[]⟩ : ByteArray)) = true then some true else (ref01_Word s).bind fun r =>
 some r).bind fun c =>
 some c
theorem K43 (s : ByteArray) : VS Tryz.prog 138 (ref05_maybe s) [.str s] [] .bool N0 := by
 refine A3 [.tmp 2] Tryz.func138 R R R fun r hm=>?_
 unfold ref05_maybe at hm
 exact Ag tbk [] R R<|Ah<|Aa tbk [] 3 R R<|Be hm 3 8 5 R (fun _ K' h1 J hm=>Aa tbk [] 3 R R<|J 2 R R (Bj hm)) (fun _ K' h1 J hm=>Bg R R R R R (Al R)<|A7 R R R R R<|Am hm 0 R fn94 R (K39 _) fun r hm=>Ab R R (Bf false R R R)<|J 2 R R (Bj hm)) fun c hm=>Ab R R (Ai R)<|Ac<|Rt1 hm R [] R R R

/-! trireme/triremeref05.Less -/
def ref05_Less.l1 (a : ByteArray) (b : ByteArray) : Nat → Int → Option (Out Bool Unit)
 | 0, _ => none
 | n + 1, i2 =>
  if ((decide (i2 < (a.size : Int))) && (decide (i2 < (b.size : Int)))) = true then
   (V.gi a i2).bind fun v =>
   (V.gi b i2).bind fun v2 =>
   if (v != v2) = true then
    (V.gi a i2).bind fun v3 =>
    (V.gi b i2).bind fun v4 =>
    some (Out.ret (decide (v3 < v4)))
   else
    ref05_Less.l1 a b n (i64.wrap (i2 + 1))
  else
   some (Out.go ())
def ref05_Less (a : ByteArray) (b : ByteArray) : Option Bool :=
 (ref05_Less.l1 a b FU (0 : Int)).bind fun o =>
 o.on fun j =>
 some (decide ((a.size : Int) < (b.size : Int)))
theorem K44 (a : ByteArray) (b : ByteArray) : VS Tryz.prog 139 (ref05_Less a b) [.str a, .str b] [] .bool N0 := by
 refine A3 [.tmp 4] Tryz.func139 R R R fun r hm=>?_
 unfold ref05_Less at hm
 refine Ag tbk [] R R<|Ae<|Ag tbk [] R R<|Bn hm (fun _ (_:Unit)=>[(0,.str a),(1,.str b)]) (fun _ (_:Unit)=>[]) (fun o hm h2=>?_) fun j _ hm=> ?_
 ·refine Bl (fun zn (zs:Int)=>ref05_Less.l1 a b zn zs) (fun zs (_:Unit)=>[(0,.str a),(1,.str b),(5,Iw zs)]) (fun _ (_:Unit)=>[]) _ () (fun _=>R) hm (Af [] R R) fun n i2 _ hm=> ?_
  rw [ref05_Less.l1] at hm
  exact Ae<|Ah<|Aa tbk [] 2 R R<|Ab R R (Cb R A6)<|Aa tbk [] 2 R R<|C8 5 15 10 R (fun h3 K' J=>Aa tbk [] 2 R R<|Bg R R R R R (Cb R A6)<|Aa tbk [] 2 R R<|J 4 R R R) (fun K' J=>Aa tbk [] 5 R R<|J 4 R R R)<|Ac<|Ak hm R (fun h4 hm=>Aj<|Ae<|Ay<|Ae<|A9 0 mixed<|Aq tbk [0,1] [] (by kernel_rfl) R R R<|Bd hm fun v h5 hm=>Ax 2 R R R (by kernel_rfl) (C0 R R A6 h5)<|Aq tbk [3,4] [] (by kernel_rfl) R R R<|Bd hm fun v2 h6 hm=>Ax 5 R R R (by kernel_rfl) (C0 R R A6 h6)<|Ax 6 R R R (by kernel_rfl) (A4 R R R)<|A5 (by kernel_rfl)<|Ak hm R (fun h7 hm=>Ae<|A9 0 mixed<|Aq tbk [0,1] [] (by kernel_rfl) R R R<|Bd hm fun v3 h8 hm=>Ax 2 R R R (by kernel_rfl) (C0 R R A6 h8)<|Aq tbk [3,4] [] (by kernel_rfl) R R R<|Bd hm fun v4 h9 hm=>Ax 5 R R R (by kernel_rfl) (C0 R R A6 h9)<|Aq tbk [6,7] [] (by kernel_rfl) R R R<|A5 (by kernel_rfl)<|have hm:=Lr hm h2;Rt1 hm R [] R R R) fun h7 hm=>Aj<|A2 tbk [] R R<|Ap _ () hm (Af [] R R)) fun h4 hm=>A1<|Ar () hm (Af [] R R)
 exact Ah<|Ab R R (Al R)<|Ab R R (Cb R A6)<|Ab R R (Al R)<|Ab R R (Cb R A6)<|Aa tbk [] 2 R R<|Ac<|Rt1 hm R [] R R R

/-! trireme/triremeref05.Right -/
def ref05_Right.l1 (l : List T_api_Label) : Nat → Int → Option (Out Bool Unit)
 | 0, _ => none
 | n + 1, i2 =>
  if (decide (i2 < (l.length : Int))) = true then
   (V.gl l i2).bind fun x =>
   (ref01_Word x.Key).bind fun r =>
   (if (!r) = true then some true else (V.gl l i2).bind fun x2 =>
   (ref05_maybe x2.Val).bind fun r2 =>
   some (!r2)).bind fun c =>
   (if c = true then some true else (if (decide (i2 > 0)) = true then (V.gl l (i64.wrap (i2 - 1))).bind fun x3 =>
   (V.gl l i2).bind fun x4 =>
   (ref05_Less x3.Key x4.Key).bind fun r3 =>
   some (!r3) else some false).bind fun c2 =>
   some c2).bind fun c3 =>
   if c3 = true then
    some (Out.ret false)
   else
    ref05_Right.l1 l n (i64.wrap (i2 + 1))
  else
   some (Out.go ())
def ref05_Right (l : List T_api_Label) : Option Bool :=
 if (decide ((l.length : Int) > 16)) = true then
  some false
 else
  (ref05_Right.l1 l FU (0 : Int)).bind fun o =>
  o.on fun j =>
  some true
theorem K45 (l : List T_api_Label) : VS Tryz.prog 95 (ref05_Right l) [L92 l] [] .bool N0 := by
 refine A3 [.tmp 2] Tryz.func95 R R R fun r hm=>?_
 unfold ref05_Right at hm
 refine Ag tbk [] R R<|Ae<|Ah<|Ab R R (Al R)<|Ab R R (Av T_api_Label.vv R Br)<|Ab R R (A4 R R R)<|Ac<|Ak hm R (fun h1 hm=>Ag tbk [] R R<|Rt1 hm R [] R R R) fun h1 hm=>Aj<|Ae<|Ag tbk [] R R<|Bn hm (fun _ (_:Unit)=>[]) (fun _ (_:Unit)=>[]) (fun o hm h3=>?_) fun j _ hm=> ?_
 ·refine Bl (fun zn (zs:Int)=>ref05_Right.l1 l zn zs) (fun zs (_:Unit)=>[(0,L92 l),(3,Iw zs)]) (fun _ (_:Unit)=>[]) _ () (fun _=>R) hm (Af [] R R) fun n i2 _ hm=> ?_
  rw [ref05_Right.l1] at hm
  refine Ae<|Ah<|Aa tbk [] 2 R R<|Ab R R (Av T_api_Label.vv R Br)<|Ab R R (A4 R R R)<|Ac<|Ak hm R (fun h4 hm=>?_) fun h4 hm=> ?_
  ·exact Aj<|Ae<|Ay<|Ae<|A9 0 mixed<|Aq tbk [0,1] [] (by kernel_rfl) R R R<|Bd hm fun x h5 hm=>Ax 2 R R R (by kernel_rfl) (Az T_api_Label.vv R R el42 h5)<|Aq tbk [3,4] [] (by kernel_rfl) R R R<|Ao 5 (by kernel_rfl)<|Au R R R<|Am hm 0 R fn94 R (K39 _) fun r hm=>Aq tbk [6,7] [] (by kernel_rfl) R R R<|Cr hm [15,14,13,12,11,10,9,8,7,6,5,4,3,2,1,0] 28 20 R (fun _ K' h7 J hm=>Aq tbk [8,9,10,11,12,13,14,15] [] (by kernel_rfl) R R R<|J 7 R R (Bj hm)) (fun _ K' h7 J hm=>Aq tbk [8,9] [] (by kernel_rfl) R R R<|Bd hm fun x2 h8 hm=>Ce 10 R R R R R R (by kernel_rfl) (Az T_api_Label.vv R R el42 h8)<|Aq tbk [11,12] [] (by kernel_rfl) R R R<|Ao 13 (by kernel_rfl)<|Cv R R R R R R<|Am hm 0 R fn138 R (K43 _) fun r2 hm=>Aq tbk [14,15] [] (by kernel_rfl) R R R<|J 7 R R (Bj hm)) fun c hm=>Ax 16 R R R (by kernel_rfl) (Al R)<|Cr hm [34,33,32,31,30,29,28,27,26,25,24,23,22,21,20,19,18,17,16,15,14,13,12,11,10,9,8,7,6,5,4,3,2,1,0] 47 29 R (fun _ K' h11 J hm=>Aq tbk [17,18,19,20,21,22,23,24,25,26,27,28,29,30,31,32,33,34] [] (by kernel_rfl) R R R<|J 17 R R (Bj hm)) (fun _ K' h11 J hm=>Aq tbk [17,18,19] [] (by kernel_rfl) R R R<|Cr hm [33,32,31,30,29,28,27,26,25,24,23,22,21,20,19,18,17,16,15,14,13,12,11,10,9,8,7,6,5,4,3,2,1,0] 46 32 R (fun _ K' h12 J hm=>Aq tbk [20,21,22] [] (by kernel_rfl) R R R<|Bd hm fun x3 h13 hm=>Ce 23 R R R R R R (by kernel_rfl) (Az T_api_Label.vv R R el42 h13)<|Aq tbk [24,25,26,27] [] (by kernel_rfl) R R R<|Bd hm fun x4 h14 hm=>Ce 28 R R R R R R (by kernel_rfl) (Az T_api_Label.vv R R el42 h14)<|Aq tbk [29,30] [] (by kernel_rfl) R R R<|Ao 31 (by kernel_rfl)<|Cv R R R R R R<|Am hm 0 R fn139 R (K44 _ _) fun r3 hm=>Aq tbk [32,33] [] (by kernel_rfl) R R R<|J 13 R R (Bj hm)) (fun _ K' h12 J hm=>Aq tbk [20,21,22,23,24,25,26,27,28,29,30,31,32,33] [] (by kernel_rfl) R R R<|J 13 R R (Bj hm)) fun c2 hm=>Ax 34 R R R (by kernel_rfl) (Bf false R R R)<|J 4 R R (Bj hm)) fun c3 hm=>A5 (by kernel_rfl)<|Ak hm R (fun h18 hm=>Ag tbk [] R R<|have hm:=Lr hm h3;Rt1 hm R [] R R R) fun h18 hm=>Aj<|A2 tbk [] R R<|Ap _ () hm (Af [] R R)
  exact A1<|Ar () hm (Af [] R R)
 exact Ag tbk [] R R<|Rt1 hm R [] R R R

/-! trireme/triremeref06.maybe -/
def ref06_maybe (s : ByteArray) : Option Bool :=
 (if (V.seq s (⟨#[]⟩ : ByteArray)) = true then some true else (ref01_Word s).bind fun r =>
 some r).bind fun c =>
 some c
theorem K46 (s : ByteArray) : VS Tryz.prog 162 (ref06_maybe s) [.str s] [] .bool N0 := by
 refine A3 [.tmp 2] Tryz.func162 R R R fun r hm=>?_
 unfold ref06_maybe at hm
 exact Ag tbk [] R R<|Ah<|Aa tbk [] 3 R R<|Be hm 3 8 5 R (fun _ K' h1 J hm=>Aa tbk [] 3 R R<|J 2 R R (Bj hm)) (fun _ K' h1 J hm=>Bg R R R R R (Al R)<|A7 R R R R R<|Am hm 0 R fn94 R (K39 _) fun r hm=>Ab R R (Bf false R R R)<|J 2 R R (Bj hm)) fun c hm=>Ab R R (Ai R)<|Ac<|Rt1 hm R [] R R R

/-! trireme/triremeref06.effect -/
def ref06_effect (n : Int) : Option Bool :=
 some ((decide (n ≥ 1)) && (decide (n ≤ 3)))
theorem K47 (n : Int) : VS Tryz.prog 163 (ref06_effect n) [Iw n] [] .bool N0 := by
 refine A3 [.tmp 2] Tryz.func163 R R R fun r hm=>?_
 unfold ref06_effect at hm
 exact Ag tbk [] R R<|Ah<|Aa tbk [] 3 R R<|Bx tbk [] 3 8 5 R R R R R<|Ab R R (Ai R)<|Ac<|Rt1 hm R [] R R R

/-! trireme/triremeref06.Right -/
def ref06_Right.l2 (l : List T_api_Taint) (i2 : Int) : Nat → Int → Option (Out (Out Bool Unit) Unit)
 | 0, _ => none
 | n2 + 1, k2 =>
  if (decide (k2 < i2)) = true then
   (V.gl l k2).bind fun x4 =>
   (V.gl l i2).bind fun x5 =>
   (if (V.seq x4.Key x5.Key) = true then (V.gl l k2).bind fun x6 =>
   (V.gl l i2).bind fun x7 =>
   some (x6.Effect == x7.Effect) else some false).bind fun c3 =>
   if c3 = true then
    some (Out.ret (Out.ret false))
   else
    ref06_Right.l2 l i2 n2 (i64.wrap (k2 + 1))
  else
   some (Out.go ())
def ref06_Right.l1 (l : List T_api_Taint) : Nat → Int → Option (Out Bool Unit)
 | 0, _ => none
 | n + 1, i2 =>
  if (decide (i2 < (l.length : Int))) = true then
   (V.gl l i2).bind fun x =>
   (ref01_Word x.Key).bind fun r =>
   (if (!r) = true then some true else (V.gl l i2).bind fun x2 =>
   (ref06_maybe x2.Val).bind fun r2 =>
   some (!r2)).bind fun c =>
   (if c = true then some true else (V.gl l i2).bind fun x3 =>
   (ref06_effect x3.Effect).bind fun r3 =>
   some (!r3)).bind fun c2 =>
   if c2 = true then
    some (Out.ret false)
   else
    (ref06_Right.l2 l i2 FU (0 : Int)).bind fun o2 =>
    o2.on fun j2 =>
    ref06_Right.l1 l n (i64.wrap (i2 + 1))
  else
   some (Out.go ())
def ref06_Right (l : List T_api_Taint) : Option Bool :=
 if (decide ((l.length : Int) > 16)) = true then
  some false
 else
  (ref06_Right.l1 l FU (0 : Int)).bind fun o =>
  o.on fun j =>
  some true
theorem K48 (l : List T_api_Taint) : VS Tryz.prog 112 (ref06_Right l) [L166 l] [] .bool N0 := by
 refine A3 [.tmp 2] Tryz.func112 R R R fun r hm=>?_
 unfold ref06_Right at hm
 refine Ag tbk [] R R<|Ae<|Ah<|Ab R R (Al R)<|Ab R R (Av T_api_Taint.vv R B1)<|Ab R R (A4 R R R)<|Ac<|Ak hm R (fun h1 hm=>Ag tbk [] R R<|Rt1 hm R [] R R R) fun h1 hm=>Aj<|Ae<|Ag tbk [] R R<|Bn hm (fun _ (_:Unit)=>[]) (fun _ (_:Unit)=>[]) (fun o hm h3=>?_) fun j _ hm=> ?_
 ·refine Bl (fun zn (zs:Int)=>ref06_Right.l1 l zn zs) (fun zs (_:Unit)=>[(0,L166 l),(3,Iw zs)]) (fun _ (_:Unit)=>[]) _ () (fun _=>R) hm (Af [] R R) fun n i2 _ hm=> ?_
  rw [ref06_Right.l1] at hm
  refine Ae<|Ah<|Aa tbk [] 2 R R<|Ab R R (Av T_api_Taint.vv R B1)<|Ab R R (A4 R R R)<|Ac<|Ak hm R (fun h4 hm=>?_) fun h4 hm=> ?_
  ·refine Aj<|Ae<|Ay<|Ae<|Ah<|Aa tbk [] 2 R R<|Bd hm fun x h5 hm=>Ab R R (Az T_api_Taint.vv R R el59 h5)<|Aa tbk [] 2 R R<|Ad R R<|Am hm 0 R fn94 R (K39 _) fun r hm=>Aa tbk [] 2 R R<|Be hm 8 29 21 R (fun _ K' h7 J hm=>Aa tbk [] 8 R R<|J 7 R R (Bj hm)) (fun _ K' h7 J hm=>Aa tbk [] 2 R R<|Bd hm fun x2 h8 hm=>Bg R R R R R (Az T_api_Taint.vv R R el59 h8)<|Aa tbk [] 2 R R<|A7 R R R R R<|Am hm 0 R fn162 R (K46 _) fun r2 hm=>Aa tbk [] 2 R R<|J 7 R R (Bj hm)) fun c hm=>Ab R R (Al R)<|Be hm 8 38 30 R (fun _ K' h11 J hm=>Aa tbk [] 8 R R<|J 7 R R (Bj hm)) (fun _ K' h11 J hm=>Aa tbk [] 2 R R<|Bd hm fun x3 h12 hm=>Bg R R R R R (Az T_api_Taint.vv R R el59 h12)<|Aa tbk [] 2 R R<|A7 R R R R R<|Am hm 0 R fn163 R (K47 _) fun r3 hm=>Aa tbk [] 2 R R<|J 7 R R (Bj hm)) fun c2 hm=>Ac<|Ak hm R (fun h15 hm=>Ag tbk [] R R<|have hm:=Lr hm h3;Rt1 hm R [] R R R) fun h15 hm=>Aj<|Ag tbk [] R R<|Bn hm (fun _ (_:Unit)=>[(0,L166 l),(3,Iw i2)]) (fun _ (_:Unit)=>[]) (fun o2 hm h17=>?_) fun j2 _ hm=> ?_
   ·refine Bl (fun zn (zs:Int)=>ref06_Right.l2 l i2 zn zs) (fun zs (_:Unit)=>[(0,L166 l),(3,Iw i2),(4,Iw zs)]) (fun _ (_:Unit)=>[]) _ () (fun _=>R) hm (Af [] R R) fun n2 k2 _ hm=> ?_
    rw [ref06_Right.l2] at hm
    exact Ae<|Ag tbk [] R R<|Ak hm R (fun h18 hm=>Aj<|Ae<|Ay<|Ae<|A9 0 mixed<|Aq tbk [0,1] [] (by kernel_rfl) R R R<|Bd hm fun x4 h19 hm=>Ax 2 R R R (by kernel_rfl) (Az T_api_Taint.vv R R el59 h19)<|Aq tbk [3,4,5,6] [] (by kernel_rfl) R R R<|Bd hm fun x5 h20 hm=>Ax 7 R R R (by kernel_rfl) (Az T_api_Taint.vv R R el59 h20)<|Aq tbk [8,9,10,11] [] (by kernel_rfl) R R R<|Cr hm [23,22,21,20,19,18,17,16,15,14,13,12,11,10,9,8,7,6,5,4,3,2,1,0] 67 55 R (fun _ K' h21 J hm=>Aq tbk [12,13] [] (by kernel_rfl) R R R<|Bd hm fun x6 h22 hm=>Ce 14 R R R R R R (by kernel_rfl) (Az T_api_Taint.vv R R el59 h22)<|Aq tbk [15,16,17,18] [] (by kernel_rfl) R R R<|Bd hm fun x7 h23 hm=>Ce 19 R R R R R R (by kernel_rfl) (Az T_api_Taint.vv R R el59 h23)<|Aq tbk [20,21,22,23] [] (by kernel_rfl) R R R<|J 11 R R (Bj hm)) (fun _ K' h21 J hm=>Aq tbk [12,13,14,15,16,17,18,19,20,21,22,23] [] (by kernel_rfl) R R R<|J 11 R R (Bj hm)) fun c3 hm=>A5 (by kernel_rfl)<|Ak hm R (fun h25 hm=>Ag tbk [] R R<|have hm:=Lr hm h17;have hm:=Lr hm h3;Rt1 hm R [] R R R) fun h25 hm=>Aj<|A2 tbk [] R R<|Ap _ () hm (Af [] R R)) fun h18 hm=>A1<|Ar () hm (Af [] R R)
   exact A2 tbk [] R R<|Ap _ () hm (Af [] R R)
  exact A1<|Ar () hm (Af [] R R)
 exact Ag tbk [] R R<|Rt1 hm R [] R R R

/-! trireme/triremeref07.RightMachine -/
def ref07_RightMachine (m : T_api_Machine) : Option Bool :=
 (ref07_maybe m.Name).bind fun r =>
 (if r = true then (ref07_maybe m.Group).bind fun r2 =>
 some r2 else some false).bind fun c =>
 (if c = true then (ref04_Right m.Has).bind fun r3 =>
 some r3 else some false).bind fun c2 =>
 (if c2 = true then (ref05_Right m.Labels).bind fun r4 =>
 some r4 else some false).bind fun c3 =>
 (if c3 = true then (ref06_Right m.Taints).bind fun r5 =>
 some r5 else some false).bind fun c4 =>
 some c4
theorem K49 (m : T_api_Machine) : VS Tryz.prog 60 (ref07_RightMachine m) [T_api_Machine.vv m] [] .bool N0 := by
 refine A3 [.tmp 2] Tryz.func60 R R R fun r hm=>?_
 unfold ref07_RightMachine at hm
 exact Ah<|Ad R R<|Ba R R fun b=>Ab R R (Ai R)<|Ac<|Ah<|Aa tbk [0] 2 R R<|Ad R R<|Am hm 0 R fn110 R (K40 _) fun r hm=>Ab R R (Al R)<|Be hm 4 10 6 R (fun _ K' h3 J hm=>Aa tbk [0] 2 R R<|A7 R R R R R<|Am hm 0 R fn110 R (K40 _) fun r2 hm=>Ab R R (Bf true R R R)<|J 3 R R (Bj hm)) (fun _ K' h3 J hm=>Aa tbk [] 4 R R<|J 3 R R (Bj hm)) fun c hm=>Ab R R (Al R)<|Be hm 4 15 11 R (fun _ K' h6 J hm=>Aa tbk [0] 2 R R<|A7 R R R R R<|Am hm 0 R fn111 R (K42 _) fun r3 hm=>Ab R R (Bf true R R R)<|J 3 R R (Bj hm)) (fun _ K' h6 J hm=>Aa tbk [] 4 R R<|J 3 R R (Bj hm)) fun c2 hm=>Ab R R (Al R)<|Be hm 4 20 16 R (fun _ K' h9 J hm=>Aa tbk [0] 2 R R<|A7 R R R R R<|Am hm 0 R fn95 R (K45 _) fun r4 hm=>Ab R R (Bf true R R R)<|J 3 R R (Bj hm)) (fun _ K' h9 J hm=>Aa tbk [] 4 R R<|J 3 R R (Bj hm)) fun c3 hm=>Ab R R (Al R)<|Be hm 4 25 21 R (fun _ K' h12 J hm=>Aa tbk [0] 2 R R<|A7 R R R R R<|Am hm 0 R fn112 R (K48 _) fun r5 hm=>Ab R R (Bf true R R R)<|J 3 R R (Bj hm)) (fun _ K' h12 J hm=>Aa tbk [] 4 R R<|J 3 R R (Bj hm)) fun c4 hm=>Ab R R (Ai R)<|Ac<|Rt1 hm R [] R R R

/-! trireme/triremeref07.in -/
def ref07_in (n : Int) (low : Int) (high : Int) : Option Bool :=
 some ((decide (n ≥ low)) && (decide (n ≤ high)))
theorem K50 (n : Int) (low : Int) (high : Int) : VS Tryz.prog 113 (ref07_in n low high) [Iw n, Iw low, Iw high] [] .bool N0 := by
 refine A3 [.tmp 6] Tryz.func113 R R R fun r hm=>?_
 unfold ref07_in at hm
 exact Ag tbk [] R R<|Ah<|Aa tbk [] 4 R R<|Bx tbk [] 4 14 10 R R R R R<|Ab R R (Ai R)<|Ac<|Rt1 hm R [] R R R

/-! trireme/triremeref03.digit -/
def ref03_digit (c : Int) : Option Bool :=
 some ((decide (c ≥ 48)) && (decide (c ≤ 57)))
theorem K51 (c : Int) : VS Tryz.prog 213 (ref03_digit c) [.int .u8 c] [] .bool N0 := by
 refine A3 [.tmp 2] Tryz.func213 R R R fun r hm=>?_
 unfold ref03_digit at hm
 exact Ag tbk [] R R<|Ah<|Aa tbk [] 3 R R<|Bx tbk [] 3 8 5 R R R R R<|Ab R R (Ai R)<|Ac<|Rt1 hm R [] R R R

/-! trireme/triremeref03.digits -/
def ref03_digits.l1 (s : ByteArray) : Nat → Int → Option Int
 | 0, _ => none
 | n4 + 1, n2 =>
  (if (decide (n2 < (s.size : Int))) = true then (V.gi s n2).bind fun v =>
  (ref03_digit v).bind fun r =>
  some r else some false).bind fun c =>
  if c = true then
   ref03_digits.l1 s n4 (i64.wrap (n2 + 1))
  else
   some n2
def ref03_digits (s : ByteArray) : Option Int :=
 (ref03_digits.l1 s FU (0 : Int)).bind fun n32 =>
 some n32
theorem K52 (s : ByteArray) : VS Tryz.prog 190 (ref03_digits s) [.str s] [] Iw N0 := by
 refine A3 [.tmp 2] Tryz.func190 R R R fun r hm=>?_
 unfold ref03_digits at hm
 refine Ag tbk [] R R<|Ag tbk [] R R<|Db hm (fun n32 (_:Unit)=>[(3,Iw n32)]) (fun _ (_:Unit)=>[]) (fun o hm=>?_) fun n32 _ hm=> ?_
 ·refine Bl (fun zn (zs:Int)=>ref03_digits.l1 s zn zs) (fun zs (_:Unit)=>[(0,.str s),(3,Iw zs)]) (fun _ (_:Unit)=>[]) _ () (fun _=>R) hm (Af [] R R) fun n4 n2 _ hm=> ?_
  rw [ref03_digits.l1] at hm
  exact Ae<|Ah<|Aa tbk [] 2 R R<|Ab R R (Cb R A6)<|Aa tbk [] 2 R R<|Be hm 5 13 8 R (fun _ K' h3 J hm=>Aa tbk [] 2 R R<|Bd hm fun v h4 hm=>Bg R R R R R (C0 R R A6 h4)<|A7 R R R R R<|Am hm 0 R fn213 R (K51 _) fun r hm=>Ab R R (Bf true R R R)<|J 4 R R (Bj hm)) (fun _ K' h3 J hm=>Aa tbk [] 5 R R<|J 4 R R (Bj hm)) fun c hm=>Ac<|Ak hm R (fun h7 hm=>Aj<|Ay<|A2 tbk [] R R<|Ap _ () hm (Af [] R R)) fun h7 hm=>A1<|As () hm (Af [] R R)
 exact Ag tbk [] R R<|Rt1 hm R [] R R R

/-! trireme/triremeref03.value -/
def ref03_value.l1 (s : ByteArray) : Nat → Int → Int → Option Int
 | 0, _, _ => none
 | n4 + 1, n2, i2 =>
  if (decide (i2 < (s.size : Int))) = true then
   (V.gi s i2).bind fun v =>
   ref03_value.l1 s n4 (min (i64.wrap ((i64.wrap (10 * n2)) + (i64.wrap (IntKind.u8.wrap (v - 48))))) 1125899906842625) (i64.wrap (i2 + 1))
  else
   some n2
def ref03_value (s : ByteArray) : Option Int :=
 (ref03_value.l1 s FU 0 (0 : Int)).bind fun n32 =>
 some n32
theorem K53 (s : ByteArray) : VS Tryz.prog 191 (ref03_value s) [.str s] [] Iw N0 := by
 refine A3 [.tmp 2] Tryz.func191 R R R fun r hm=>?_
 unfold ref03_value at hm
 refine Ag tbk [] R R<|Ag tbk [] R R<|Ae<|Ag tbk [] R R<|Bw hm (fun n32 (_:Unit)=>[(3,Iw n32)]) (fun _ (_:Unit)=>[]) (fun o hm=>?_) fun n32 _ hm=> ?_
 ·refine Bl (fun zn (zs:Int × Int)=>ref03_value.l1 s zn zs.1 zs.2) (fun zs (_:Unit)=>[(0,.str s),(3,Iw zs.1),(4,Iw zs.2)]) (fun _ (_:Unit)=>[]) ((0 : Int),(0 : Int)) () (fun _=>R) hm (Af [] R R) fun n4=>Pq fun n2 i2 _ hm=> ?_
  rw [ref03_value.l1] at hm
  exact Ae<|Ah<|Aa tbk [] 2 R R<|Ab R R (Cb R A6)<|Ab R R (A4 R R R)<|Ac<|Ak hm R (fun h3 hm=>Aj<|Ae<|Ay<|Bq<|Aa tbk [] 4 R R<|Bd hm fun v h4 hm=>Ab R R (C0 R R A6 h4)<|Ab R R (A4 R R R)<|Ab R R (Cy B6 Ca R)<|Ab R R (A4 R R R)<|Ab R R (Di R R)<|Ab R R (Ai R)<|Ac<|A2 tbk [] R R<|Ap ((min (IntKind.i64.wrap ((IntKind.i64.wrap ((10 : Int) * n2)) + (IntKind.i64.wrap (IntKind.u8.wrap (v - (48 : Int)))))) (1125899906842625 : Int)),(IntKind.i64.wrap (i2 + (1 : Int)))) () hm (Af [] R R)) fun h3 hm=>A1<|As () hm (Af [] R R)
 exact Ag tbk [] R R<|Rt1 hm R [] R R R

/-! trireme/triremeref03.Number -/
def ref03_Number (s : ByteArray) : Option (Int × Int) :=
 (if ((s.size : Int) == 0) = true then some true else (ref03_digits s).bind fun r =>
 some (decide (r < (s.size : Int)))).bind fun c =>
 if c = true then
  some (0, 8)
 else
  (ref03_value s).bind fun r2 =>
  if (decide (r2 > 1125899906842624)) = true then
   some (0, 10)
  else
   some (r2, 0)
theorem K54 (s : ByteArray) : VS Tryz.prog 164 (ref03_Number s) [.str s] [] (fun r=>.tup [Iw r.1, Iw r.2]) N0 := by
 refine A3 [.tmp 2,.tmp 3] Tryz.func164 R R R fun r hm=>?_
 unfold ref03_Number at hm
 exact Ag tbk [] R R<|Ae<|Ah<|Ab R R (Al R)<|Ab R R (Cb R A6)<|Aa tbk [] 2 R R<|Be hm 6 14 8 R (fun _ K' h1 J hm=>Aa tbk [] 6 R R<|J 5 R R (Bj hm)) (fun _ K' h1 J hm=>Bg R R R R R (Al R)<|A7 R R R R R<|Am hm 0 R fn190 R (K52 _) fun r hm=>Bg R R R R R (Al R)<|Bg R R R R R (Cb R A6)<|Aa tbk [] 2 R R<|J 5 R R (Bj hm)) fun c hm=>Ac<|Ak hm R (fun h4 hm=>Ag tbk [] R R<|Rt2 hm R [] R R R R) fun h4 hm=>Aj<|Ah<|Ab R R (Al R)<|Ad R R<|Am hm 0 R fn191 R (K53 _) fun r2 hm=>Ab R R (Ai R)<|Ac<|Ae<|Ag tbk [] R R<|Ak hm R (fun h6 hm=>Ag tbk [] R R<|Rt2 hm R [] R R R R) fun h6 hm=>Aj<|Ag tbk [] R R<|Rt2 hm R [] R R R R

/-! trireme/triremeref05.RightTerm -/
def ref05_RightTerm.l1 (t : T_api_Term) : Nat → Int → Option (Out Bool Unit)
 | 0, _ => none
 | n + 1, i2 =>
  if (decide (i2 < (t.Vals.length : Int))) = true then
   (V.gl t.Vals i2).bind fun x =>
   (ref05_maybe x).bind fun r2 =>
   if (!r2) = true then
    some (Out.ret false)
   else
    ref05_RightTerm.l1 t n (i64.wrap (i2 + 1))
  else
   some (Out.go ())
def ref05_RightTerm (t : T_api_Term) : Option Bool :=
 (ref01_Word t.Key).bind fun r =>
 if (!r) = true then
  some false
 else
  (if (t.Op == 1) = true then
   some (t.Op == 1)
  else
   some (t.Op == 2)).bind fun v2 =>
  if v2 = true then
   (ref05_RightTerm.l1 t FU (0 : Int)).bind fun o2 =>
   o2.on fun j =>
   some ((decide ((t.Vals.length : Int) ≥ 1)) && (decide ((t.Vals.length : Int) ≤ 16)))
  else
   (if (t.Op == 3) = true then
    some (t.Op == 3)
   else
    some (t.Op == 4)).bind fun v32 =>
   if v32 = true then
    some ((t.Vals.length : Int) == 0)
   else
    (if (t.Op == 5) = true then
     some (t.Op == 5)
    else
     some (t.Op == 6)).bind fun v42 =>
    if v42 = true then
     if ((t.Vals.length : Int) != 1) = true then
      some false
     else
      (V.gl t.Vals (0 : Int)).bind fun x2 =>
      (ref03_Number x2).bind fun r3 =>
      some (r3.2 == 0)
    else
     some false
theorem K55 (t : T_api_Term) : VS Tryz.prog 114 (ref05_RightTerm t) [T_api_Term.vv t] [] .bool N0 := by
 refine A3 [.tmp 2] Tryz.func114 R R R fun r hm=>?_
 unfold ref05_RightTerm at hm
 refine Ah<|Ad R R<|Ba R R fun b=>Ab R R (Ai R)<|Ac<|Ae<|Ah<|Aa tbk [0] 2 R R<|Ad R R<|Am hm 0 R fn94 R (K39 _) fun r hm=>Ab R R (Co R)<|Ac<|Ak hm R (fun h3 hm=>Ag tbk [] R R<|Rt1 hm R [] R R R) fun h3 hm=>Aj<|Ae<|Ag tbk [0] R R<|Ay<|Db hm (fun v2 (_:Unit)=>[(1,.ptr b 0),(11,Iw t.Op),(12,.bool v2)]) (fun _ (_:Unit)=>[X142 b t]) (fun o hm=>Ag tbk [] R R<|Ak hm R (fun h6 hm=>Aj<|As () hm (Af [0] R R)) fun h6 hm=>A2 tbk [] R R<|As () hm (Af [0] R R)) fun v2 _ hm=>Ak hm R (fun h7 hm=>?_) fun h7 hm=> ?_
 ·refine Ae<|Ag tbk [] R R<|Bn hm (fun _ (_:Unit)=>[(1,.ptr b 0)]) (fun _ (_:Unit)=>[X142 b t]) (fun o2 hm h9=>?_) fun j _ hm=> ?_
  ·refine Bl (fun zn (zs:Int)=>ref05_RightTerm.l1 t zn zs) (fun zs (_:Unit)=>[(1,.ptr b 0),(3,Iw zs)]) (fun _ (_:Unit)=>[X142 b t]) _ () (fun _=>R) hm (Af [0] R R) fun n i2 _ hm=> ?_
   rw [ref05_RightTerm.l1] at hm
   exact Ae<|Ah<|Aa tbk [0] 3 R R<|Ab R R (Av VV.str R Bo)<|Ab R R (A4 R R R)<|Ac<|Ak hm R (fun h10 hm=>Aj<|Ae<|Ay<|Ah<|Aa tbk [0] 3 R R<|Bd hm fun x h11 hm=>Ab R R (Az VV.str R R el25 h11)<|Ab R R (Bi R ld9 R)<|Ad R R<|Am hm 0 R fn138 R (K43 _) fun r2 hm=>Ab R R (Co R)<|Ac<|Ak hm R (fun h13 hm=>Ag tbk [] R R<|have hm:=Lr hm h9;Rt1 hm R [] R R R) fun h13 hm=>Aj<|A2 tbk [] R R<|Ap _ () hm (Af [0] R R)) fun h10 hm=>A1<|Ar () hm (Af [0] R R)
  exact Ah<|Aa tbk [0] 2 R R<|Ab R R (Av VV.str R Bo)<|Aa tbk [] 2 R R<|C8 5 38 33 R (fun h14 K' J=>Aa tbk [0] 2 R R<|Bg R R R R R (Av VV.str R Bo)<|Aa tbk [] 2 R R<|J 4 R R R) (fun K' J=>Aa tbk [] 5 R R<|J 4 R R R)<|Ab R R (Ai R)<|Ac<|Rt1 hm R [] R R R
 exact Db hm (fun v32 (_:Unit)=>[(1,.ptr b 0),(11,Iw t.Op),(39,.bool v32)]) (fun _ (_:Unit)=>[X142 b t]) (fun o3 hm=>Ag tbk [] R R<|Ak hm R (fun h17 hm=>Aj<|As () hm (Af [0] R R)) fun h17 hm=>A2 tbk [] R R<|As () hm (Af [0] R R)) fun v32 _ hm=>Ak hm R (fun h18 hm=>Ah<|Aa tbk [0] 2 R R<|Ab R R (Av VV.str R Bo)<|Aa tbk [] 2 R R<|Ac<|Rt1 hm R [] R R R) fun h18 hm=>Db hm (fun v42 (_:Unit)=>[(1,.ptr b 0),(46,.bool v42)]) (fun _ (_:Unit)=>[X142 b t]) (fun o4 hm=>Ag tbk [] R R<|Ak hm R (fun h21 hm=>Aj<|As () hm (Af [0] R R)) fun h21 hm=>A2 tbk [] R R<|As () hm (Af [0] R R)) fun v42 _ hm=>Ak hm R (fun h22 hm=>Ae<|Ah<|Aa tbk [0] 2 R R<|Ab R R (Av VV.str R Bo)<|Ab R R (A4 R R R)<|Ac<|Ak hm R (fun h23 hm=>Ag tbk [] R R<|Rt1 hm R [] R R R) fun h23 hm=>Aj<|Ah<|Aa tbk [0] 2 R R<|Bd hm fun x2 h24 hm=>Ab R R (Az VV.str R R el25 h24)<|Ab R R (Bi R ld9 R)<|Ad R R<|Am hm 0 R fn164 R (K54 _) fun r3 hm=>Aa tbk [] 5 R R<|Ac<|Ag tbk [] R R<|Rt1 hm R [] R R R) fun h22 hm=>Aj<|Ag tbk [] R R<|Rt1 hm R [] R R R

/-! trireme/triremeref06.RightBears -/
def ref06_RightBears.l1 (l : List T_api_Toleration) : Nat → Int → Option (Out Bool Unit)
 | 0, _ => none
 | n + 1, i2 =>
  if (decide (i2 < (l.length : Int))) = true then
   (V.gl l i2).bind fun x =>
   (ref06_maybe x.Key).bind fun r =>
   (if (!r) = true then some true else (ref06_maybe x.Val).bind fun r2 =>
   some (!r2)).bind fun c =>
   (if c = true then some true else (if (x.Effect != 0) = true then (ref06_effect x.Effect).bind fun r3 =>
   some (!r3) else some false).bind fun c2 =>
   some c2).bind fun c3 =>
   if ((c3 || (x.Any && (!(V.seq x.Val (⟨#[]⟩ : ByteArray))))) || ((V.seq x.Key (⟨#[]⟩ : ByteArray)) && (!x.Any))) = true then
    some (Out.ret false)
   else
    ref06_RightBears.l1 l n (i64.wrap (i2 + 1))
  else
   some (Out.go ())
def ref06_RightBears (l : List T_api_Toleration) : Option Bool :=
 if (decide ((l.length : Int) > 16)) = true then
  some false
 else
  (ref06_RightBears.l1 l FU (0 : Int)).bind fun o =>
  o.on fun j =>
  some true
theorem K56 (l : List T_api_Toleration) : VS Tryz.prog 115 (ref06_RightBears l) [L172 l] [] .bool N0 := by
 refine A3 [.tmp 2] Tryz.func115 R R R fun r hm=>?_
 unfold ref06_RightBears at hm
 refine Ag tbk [] R R<|Ae<|Ah<|Ab R R (Al R)<|Ab R R (Av T_api_Toleration.vv R Ct)<|Ab R R (A4 R R R)<|Ac<|Ak hm R (fun h1 hm=>Ag tbk [] R R<|Rt1 hm R [] R R R) fun h1 hm=>Aj<|Ae<|Ag tbk [] R R<|Bn hm (fun _ (_:Unit)=>[]) (fun _ (_:Unit)=>[]) (fun o hm h3=>?_) fun j _ hm=> ?_
 ·refine Bl (fun zn (zs:Int)=>ref06_RightBears.l1 l zn zs) (fun zs (_:Unit)=>[(0,L172 l),(3,Iw zs)]) (fun _ (_:Unit)=>[]) _ () (fun _=>R) hm (Af [] R R) fun n i2 _ hm=> ?_
  rw [ref06_RightBears.l1] at hm
  refine Ae<|Ah<|Aa tbk [] 2 R R<|Ab R R (Av T_api_Toleration.vv R Ct)<|Ab R R (A4 R R R)<|Ac<|Ak hm R (fun h4 hm=>?_) fun h4 hm=> ?_
  ·exact Aj<|Ae<|Ay<|Ah<|Aa tbk [] 2 R R<|Bd hm fun x h5 hm=>Ab R R (Az T_api_Toleration.vv R R el44 h5)<|Ab R R (Bi R ld172 R)<|Ad R R<|A0 z172 fun b=>Ad R R<|An (i:=0) R R R ld172 R R R<|Ac<|Ah<|Aa tbk [0] 2 R R<|Ad R R<|Am hm 0 R fn162 R (K46 _) fun r hm=>Aa tbk [] 2 R R<|Be hm 5 27 22 R (fun _ K' h8 J hm=>Aa tbk [] 5 R R<|J 4 R R (Bj hm)) (fun _ K' h8 J hm=>Aa tbk [0] 2 R R<|A7 R R R R R<|Am hm 0 R fn162 R (K46 _) fun r2 hm=>Aa tbk [] 2 R R<|J 4 R R (Bj hm)) fun c hm=>Ab R R (Al R)<|Be hm 10 38 28 R (fun _ K' h11 J hm=>Aa tbk [] 10 R R<|J 9 R R (Bj hm)) (fun _ K' h11 J hm=>Aa tbk [0] 4 R R<|Be hm 5 37 32 R (fun _ K' h12 J hm=>Aa tbk [0] 2 R R<|A7 R R R R R<|Am hm 0 R fn163 R (K47 _) fun r3 hm=>Aa tbk [] 2 R R<|J 4 R R (Bj hm)) (fun _ K' h12 J hm=>Aa tbk [] 5 R R<|J 4 R R (Bj hm)) fun c2 hm=>Ab R R (Bf false R R R)<|J 5 R R (Bj hm)) fun c3 hm=>Ab R R (Al R)<|Cz 8 47 39 R (fun K' J=>Aa tbk [] 8 R R<|J 7 R R R) (fun h16 K' J=>Aa tbk [0] 3 R R<|Bx tbk [0] 4 46 42 R R R R R<|Ab R R (Bf false R R R)<|J 4 R R R)<|Ab R R (Al R)<|Cz 9 57 48 R (fun K' J=>Aa tbk [] 9 R R<|J 8 R R R) (fun h18 K' J=>Aa tbk [0] 4 R R<|Bx tbk [0] 4 56 52 R R R R R<|Ab R R (Bf false R R R)<|J 5 R R R)<|Ac<|Ak hm R (fun h20 hm=>Ag tbk [] R R<|have hm:=Lr hm h3;Rt1 hm R [] R R R) fun h20 hm=>Aj<|A2 tbk [] R R<|Ap _ () hm (Af [] R R)
  exact A1<|Ar () hm (Af [] R R)
 exact Ag tbk [] R R<|Rt1 hm R [] R R R

/-! trireme/triremeref07.RightPod -/
def ref07_RightPod.l1 (p : T_api_Pod) : Nat → Int → Option (Out Bool Unit)
 | 0, _ => none
 | n + 1, i2 =>
  if (decide (i2 < (p.Terms.length : Int))) = true then
   (V.gl p.Terms i2).bind fun x =>
   (ref05_RightTerm x).bind fun r5 =>
   if (!r5) = true then
    some (Out.ret false)
   else
    ref07_RightPod.l1 p n (i64.wrap (i2 + 1))
  else
   some (Out.go ())
def ref07_RightPod.l2 (p : T_api_Pod) : Nat → Int → Option (Out Bool Unit)
 | 0, _ => none
 | n2 + 1, i4 =>
  if (decide (i4 < (p.Ports.length : Int))) = true then
   (V.gl p.Ports i4).bind fun x2 =>
   (ref07_in x2 1 (65535 : Int)).bind fun r6 =>
   (if (!r6) = true then some true else (if (decide (i4 > 0)) = true then (V.gl p.Ports i4).bind fun x3 =>
   (V.gl p.Ports (i64.wrap (i4 - 1))).bind fun x4 =>
   some (decide (x3 ≤ x4)) else some false).bind fun c4 =>
   some c4).bind fun c5 =>
   if c5 = true then
    some (Out.ret false)
   else
    ref07_RightPod.l2 p n2 (i64.wrap (i4 + 1))
  else
   some (Out.go ())
def ref07_RightPod (p : T_api_Pod) : Option Bool :=
 (ref01_Word p.Name).bind fun r =>
 (if (!r) = true then some true else (ref04_Right p.Need).bind fun r2 =>
 some (!r2)).bind fun c =>
 (if (c || (p.Need.Pods != 1)) = true then some true else (ref07_maybe p.Owner).bind fun r3 =>
 some (!r3)).bind fun c2 =>
 (if c2 = true then some true else (ref07_in p.Rank 0 (1000 : Int)).bind fun r4 =>
 some (!r4)).bind fun c3 =>
 if ((c3 || (decide ((p.Terms.length : Int) > 16))) || (decide ((p.Ports.length : Int) > 16))) = true then
  some false
 else
  (ref07_RightPod.l1 p FU (0 : Int)).bind fun o =>
  o.on fun j =>
  (ref07_RightPod.l2 p FU (0 : Int)).bind fun o2 =>
  o2.on fun j2 =>
  (if ((p.Wide && ((p.Apart.length : Int) == 0)) || (((p.Spread.length : Int) == 0) && (p.Skew != 0))) = true then some true else (if (decide ((p.Spread.length : Int) > 0)) = true then (ref07_in p.Skew 1 (100 : Int)).bind fun r7 =>
  some (!r7) else some false).bind fun c6 =>
  some c6).bind fun c7 =>
  if c7 = true then
   some false
  else
   (ref05_Right p.Labels).bind fun r8 =>
   (if r8 = true then (ref05_Right p.Select).bind fun r9 =>
   some r9 else some false).bind fun c8 =>
   (if c8 = true then (ref05_Right p.Apart).bind fun r10 =>
   some r10 else some false).bind fun c9 =>
   (if c9 = true then (ref05_Right p.Spread).bind fun r11 =>
   some r11 else some false).bind fun c10 =>
   (if c10 = true then (ref06_RightBears p.Bears).bind fun r12 =>
   some r12 else some false).bind fun c11 =>
   some c11
theorem K57 (p : T_api_Pod) : VS Tryz.prog 61 (ref07_RightPod p) [T_api_Pod.vv p] [] .bool N0 := by
 refine A3 [.tmp 2] Tryz.func61 R R R fun r hm=>?_
 unfold ref07_RightPod at hm
 refine Ah<|Ad R R<|Ba R R fun b=>Ab R R (Ai R)<|Ac<|Ae<|Ah<|Aa tbk [0] 2 R R<|Ad R R<|Am hm 0 R fn94 R (K39 _) fun r hm=>Aa tbk [] 2 R R<|Be hm 5 14 9 R (fun _ K' h3 J hm=>Aa tbk [] 5 R R<|J 4 R R (Bj hm)) (fun _ K' h3 J hm=>Aa tbk [0] 2 R R<|A7 R R R R R<|Am hm 0 R fn111 R (K42 _) fun r2 hm=>Aa tbk [] 2 R R<|J 4 R R (Bj hm)) fun c hm=>Ab R R (Al R)<|Cp tbk [0] 5 20 15 R R R R R<|Ab R R (Al R)<|Be hm 5 26 21 R (fun _ K' h7 J hm=>Aa tbk [] 5 R R<|J 4 R R (Bj hm)) (fun _ K' h7 J hm=>Aa tbk [0] 2 R R<|A7 R R R R R<|Am hm 0 R fn110 R (K40 _) fun r3 hm=>Aa tbk [] 2 R R<|J 4 R R (Bj hm)) fun c2 hm=>Ab R R (Al R)<|Be hm 5 32 27 R (fun _ K' h10 J hm=>Aa tbk [] 5 R R<|J 4 R R (Bj hm)) (fun _ K' h10 J hm=>Aa tbk [0] 2 R R<|A7 R R R R R<|Am hm 0 R fn113 R (K50 _ _ _) fun r4 hm=>Aa tbk [] 2 R R<|J 4 R R (Bj hm)) fun c3 hm=>Ab R R (Al R)<|Cz 5 38 33 R (fun K' J=>Aa tbk [] 5 R R<|J 4 R R R) (fun h13 K' J=>Aa tbk [0] 2 R R<|Bg R R R R R (Av T_api_Term.vv R Cm)<|Aa tbk [] 2 R R<|J 4 R R R)<|Ab R R (Al R)<|Cz 5 44 39 R (fun K' J=>Aa tbk [] 5 R R<|J 4 R R R) (fun h14 K' J=>Aa tbk [0] 2 R R<|Bg R R R R R (Av (VV.int .i64) R Ck)<|Aa tbk [] 2 R R<|J 4 R R R)<|Ac<|Ak hm R (fun h15 hm=>Ag tbk [] R R<|Rt1 hm R [] R R R) fun h15 hm=>Aj<|Ae<|Ag tbk [] R R<|Bn hm (fun _ (_:Unit)=>[(1,.ptr b 0)]) (fun _ (_:Unit)=>[X47 b p]) (fun o hm h17=>?_) fun j _ hm=> ?_
 ·refine Bl (fun zn (zs:Int)=>ref07_RightPod.l1 p zn zs) (fun zs (_:Unit)=>[(1,.ptr b 0),(3,Iw zs)]) (fun _ (_:Unit)=>[X47 b p]) _ () (fun _=>R) hm (Af [0] R R) fun n i2 _ hm=> ?_
  rw [ref07_RightPod.l1] at hm
  exact Ae<|Ah<|Aa tbk [0] 3 R R<|Ab R R (Av T_api_Term.vv R Cm)<|Ab R R (A4 R R R)<|Ac<|Ak hm R (fun h18 hm=>Aj<|Ae<|Ay<|Ah<|Aa tbk [0] 3 R R<|Bd hm fun x h19 hm=>Ab R R (Az T_api_Term.vv R R el43 h19)<|Ab R R (Bi R ld142 R)<|Ad R R<|Am hm 0 R fn114 R (K55 _) fun r5 hm=>Ab R R (Co R)<|Ac<|Ak hm R (fun h21 hm=>Ag tbk [] R R<|have hm:=Lr hm h17;Rt1 hm R [] R R R) fun h21 hm=>Aj<|A2 tbk [] R R<|Ap _ () hm (Af [0] R R)) fun h18 hm=>A1<|Ar () hm (Af [0] R R)
 refine Ae<|Ag tbk [] R R<|Bn hm (fun _ (_:Unit)=>[(1,.ptr b 0)]) (fun _ (_:Unit)=>[X47 b p]) (fun o2 hm h23=>?_) fun j2 _ hm=> ?_
 ·refine Bl (fun zn (zs:Int)=>ref07_RightPod.l2 p zn zs) (fun zs (_:Unit)=>[(1,.ptr b 0),(4,Iw zs)]) (fun _ (_:Unit)=>[X47 b p]) _ () (fun _=>R) hm (Af [0] R R) fun n2 i4 _ hm=> ?_
  rw [ref07_RightPod.l2] at hm
  refine Ae<|Ah<|Aa tbk [0] 3 R R<|Ab R R (Av (VV.int .i64) R Ck)<|Ab R R (A4 R R R)<|Ac<|Ak hm R (fun h24 hm=>?_) fun h24 hm=> ?_
  ·exact Aj<|Ae<|Ay<|Ae<|A9 0 mixed<|Aq tbk [0,1,2] [0] (by kernel_rfl) R R R<|Bd hm fun x2 h25 hm=>Ax 3 R R R (by kernel_rfl) (Az (VV.int .i64) R R el45 h25)<|Ax 4 R R R (by kernel_rfl) (Bi R ld3 R)<|Ao 5 (by kernel_rfl)<|Au R R R<|Am hm 0 R fn113 R (K50 _ _ _) fun r6 hm=>Aq tbk [6,7] [] (by kernel_rfl) R R R<|Cr hm [24,23,22,21,20,19,18,17,16,15,14,13,12,11,10,9,8,7,6,5,4,3,2,1,0] 90 73 R (fun _ K' h27 J hm=>Aq tbk [8,9,10,11,12,13,14,15,16,17,18,19,20,21,22,23,24] [] (by kernel_rfl) R R R<|J 16 R R (Bj hm)) (fun _ K' h27 J hm=>Aq tbk [8,9,10] [] (by kernel_rfl) R R R<|Cr hm [23,22,21,20,19,18,17,16,15,14,13,12,11,10,9,8,7,6,5,4,3,2,1,0] 89 76 R (fun _ K' h28 J hm=>Aq tbk [11,12,13] [0] (by kernel_rfl) R R R<|Bd hm fun x3 h29 hm=>Ce 14 R R R R R R (by kernel_rfl) (Az (VV.int .i64) R R el45 h29)<|Aq tbk [15,16,17,18,19] [0] (by kernel_rfl) R R R<|Bd hm fun x4 h30 hm=>Ce 20 R R R R R R (by kernel_rfl) (Az (VV.int .i64) R R el45 h30)<|Aq tbk [21,22,23] [] (by kernel_rfl) R R R<|J 12 R R (Bj hm)) (fun _ K' h28 J hm=>Aq tbk [11,12,13,14,15,16,17,18,19,20,21,22,23] [] (by kernel_rfl) R R R<|J 12 R R (Bj hm)) fun c4 hm=>Ax 24 R R R (by kernel_rfl) (Bf false R R R)<|J 4 R R (Bj hm)) fun c5 hm=>A5 (by kernel_rfl)<|Ak hm R (fun h33 hm=>Ag tbk [] R R<|have hm:=Lr hm h23;Rt1 hm R [] R R R) fun h33 hm=>Aj<|A2 tbk [] R R<|Ap _ () hm (Af [0] R R)
  exact A1<|Ar () hm (Af [0] R R)
 exact Ae<|Ah<|Aa tbk [0] 3 R R<|C8 5 98 93 R (fun h34 K' J=>Aa tbk [0] 2 R R<|Bg R R R R R (Av T_api_Label.vv R Br)<|Aa tbk [] 2 R R<|J 4 R R R) (fun K' J=>Aa tbk [] 5 R R<|J 4 R R R)<|Ab R R (Al R)<|Cz 10 109 99 R (fun K' J=>Aa tbk [] 10 R R<|J 9 R R R) (fun h35 K' J=>Aa tbk [0] 2 R R<|Bg R R R R R (Av T_api_Label.vv R Br)<|Aa tbk [] 2 R R<|Bx tbk [0] 4 108 104 R R R R R<|Ab R R (Bf false R R R)<|J 6 R R R)<|Ab R R (Al R)<|Be hm 11 121 110 R (fun _ K' h37 J hm=>Aa tbk [] 11 R R<|J 10 R R (Bj hm)) (fun _ K' h37 J hm=>Aa tbk [0] 2 R R<|Bg R R R R R (Av T_api_Label.vv R Br)<|Aa tbk [] 2 R R<|Be hm 5 120 115 R (fun _ K' h38 J hm=>Aa tbk [0] 2 R R<|A7 R R R R R<|Am hm 0 R fn113 R (K50 _ _ _) fun r7 hm=>Aa tbk [] 2 R R<|J 4 R R (Bj hm)) (fun _ K' h38 J hm=>Aa tbk [] 5 R R<|J 4 R R (Bj hm)) fun c6 hm=>Ab R R (Bf false R R R)<|J 6 R R (Bj hm)) fun c7 hm=>Ac<|Ak hm R (fun h42 hm=>Ag tbk [] R R<|Rt1 hm R [] R R R) fun h42 hm=>Aj<|Ah<|Aa tbk [0] 2 R R<|Ad R R<|Am hm 0 R fn95 R (K45 _) fun r8 hm=>Ab R R (Al R)<|Be hm 4 129 125 R (fun _ K' h44 J hm=>Aa tbk [0] 2 R R<|A7 R R R R R<|Am hm 0 R fn95 R (K45 _) fun r9 hm=>Ab R R (Bf true R R R)<|J 3 R R (Bj hm)) (fun _ K' h44 J hm=>Aa tbk [] 4 R R<|J 3 R R (Bj hm)) fun c8 hm=>Ab R R (Al R)<|Be hm 4 134 130 R (fun _ K' h47 J hm=>Aa tbk [0] 2 R R<|A7 R R R R R<|Am hm 0 R fn95 R (K45 _) fun r10 hm=>Ab R R (Bf true R R R)<|J 3 R R (Bj hm)) (fun _ K' h47 J hm=>Aa tbk [] 4 R R<|J 3 R R (Bj hm)) fun c9 hm=>Ab R R (Al R)<|Be hm 4 139 135 R (fun _ K' h50 J hm=>Aa tbk [0] 2 R R<|A7 R R R R R<|Am hm 0 R fn95 R (K45 _) fun r11 hm=>Ab R R (Bf true R R R)<|J 3 R R (Bj hm)) (fun _ K' h50 J hm=>Aa tbk [] 4 R R<|J 3 R R (Bj hm)) fun c10 hm=>Ab R R (Al R)<|Be hm 4 144 140 R (fun _ K' h53 J hm=>Aa tbk [0] 2 R R<|A7 R R R R R<|Am hm 0 R fn115 R (K56 _) fun r12 hm=>Ab R R (Bf true R R R)<|J 3 R R (Bj hm)) (fun _ K' h53 J hm=>Aa tbk [] 4 R R<|J 3 R R (Bj hm)) fun c11 hm=>Ab R R (Ai R)<|Ac<|Rt1 hm R [] R R R

/-! trireme/triremeref09.Find -/
def ref09_Find.l1 (ms : List T_api_Machine) (name : ByteArray) : Nat → Int → Option (Out Int Unit)
 | 0, _ => none
 | n + 1, i2 =>
  if (decide (i2 < (ms.length : Int))) = true then
   (V.gl ms i2).bind fun x =>
   if (V.seq x.Name name) = true then
    some (Out.ret i2)
   else
    ref09_Find.l1 ms name n (i64.wrap (i2 + 1))
  else
   some (Out.go ())
def ref09_Find (ms : List T_api_Machine) (name : ByteArray) : Option Int :=
 (ref09_Find.l1 ms name FU (0 : Int)).bind fun o =>
 o.on fun j =>
 some (-1)
theorem K58 (ms : List T_api_Machine) (name : ByteArray) : VS Tryz.prog 23 (ref09_Find ms name) [L61 ms, .str name] [] Iw N0 := by
 refine A3 [.tmp 4] Tryz.func23 R R R fun r hm=>?_
 unfold ref09_Find at hm
 refine Ag tbk [] R R<|Ae<|Ag tbk [] R R<|Bn hm (fun _ (_:Unit)=>[]) (fun _ (_:Unit)=>[]) (fun o hm h2=>?_) fun j _ hm=> ?_
 ·refine Bl (fun zn (zs:Int)=>ref09_Find.l1 ms name zn zs) (fun zs (_:Unit)=>[(0,L61 ms),(1,.str name),(5,Iw zs)]) (fun _ (_:Unit)=>[]) _ () (fun _=>R) hm (Af [] R R) fun n i2 _ hm=> ?_
  rw [ref09_Find.l1] at hm
  exact Ae<|Ah<|Aa tbk [] 2 R R<|Ab R R (Av T_api_Machine.vv R Bu)<|Ab R R (A4 R R R)<|Ac<|Ak hm R (fun h3 hm=>Aj<|Ae<|Ay<|Ah<|Aa tbk [] 2 R R<|Bd hm fun x h4 hm=>Ab R R (Az T_api_Machine.vv R R el22 h4)<|Aa tbk [] 4 R R<|Ac<|Ak hm R (fun h5 hm=>Ag tbk [] R R<|have hm:=Lr hm h2;Rt1 hm R [] R R R) fun h5 hm=>Aj<|A2 tbk [] R R<|Ap _ () hm (Af [] R R)) fun h3 hm=>A1<|Ar () hm (Af [] R R)
 exact Ag tbk [] R R<|Rt1 hm R [] R R R

/-! trireme/triremeref09.Place -/
def ref09_Place.l1 (bs : List T_api_Bound) (name : ByteArray) : Nat → Int → Option (Out Int Unit)
 | 0, _ => none
 | n + 1, i2 =>
  if (decide (i2 < (bs.length : Int))) = true then
   (V.gl bs i2).bind fun x =>
   if (V.seq x.Pod.Name name) = true then
    some (Out.ret i2)
   else
    ref09_Place.l1 bs name n (i64.wrap (i2 + 1))
  else
   some (Out.go ())
def ref09_Place (bs : List T_api_Bound) (name : ByteArray) : Option Int :=
 (ref09_Place.l1 bs name FU (0 : Int)).bind fun o =>
 o.on fun j =>
 some (-1)
theorem K59 (bs : List T_api_Bound) (name : ByteArray) : VS Tryz.prog 57 (ref09_Place bs name) [L49 bs, .str name] [] Iw N0 := by
 refine A3 [.tmp 4] Tryz.func57 R R R fun r hm=>?_
 unfold ref09_Place at hm
 refine Ag tbk [] R R<|Ae<|Ag tbk [] R R<|Bn hm (fun _ (_:Unit)=>[]) (fun _ (_:Unit)=>[]) (fun o hm h2=>?_) fun j _ hm=> ?_
 ·refine Bl (fun zn (zs:Int)=>ref09_Place.l1 bs name zn zs) (fun zs (_:Unit)=>[(0,L49 bs),(1,.str name),(5,Iw zs)]) (fun _ (_:Unit)=>[]) _ () (fun _=>R) hm (Af [] R R) fun n i2 _ hm=> ?_
  rw [ref09_Place.l1] at hm
  exact Ae<|Ah<|Aa tbk [] 2 R R<|Ab R R (Av T_api_Bound.vv R Bk)<|Ab R R (A4 R R R)<|Ac<|Ak hm R (fun h3 hm=>Aj<|Ae<|Ay<|Ah<|Aa tbk [] 2 R R<|Bd hm fun x h4 hm=>Ab R R (Az T_api_Bound.vv R R el23 h4)<|Aa tbk [] 5 R R<|Ac<|Ak hm R (fun h5 hm=>Ag tbk [] R R<|have hm:=Lr hm h2;Rt1 hm R [] R R R) fun h5 hm=>Aj<|A2 tbk [] R R<|Ap _ () hm (Af [] R R)) fun h3 hm=>A1<|Ar () hm (Af [] R R)
 exact Ag tbk [] R R<|Rt1 hm R [] R R R

/-! trireme/triremeref09.Check -/
def ref09_Check.l1 (ms : List T_api_Machine) : Nat → Int → Option (Out Int Unit)
 | 0, _ => none
 | n + 1, i2 =>
  if (decide (i2 < (ms.length : Int))) = true then
   (V.gl ms i2).bind fun x =>
   (if (V.seq x.Name (⟨#[]⟩ : ByteArray)) = true then some true else (V.gl ms i2).bind fun x2 =>
   (ref07_RightMachine x2).bind fun r =>
   some (!r)).bind fun c =>
   if c = true then
    some (Out.ret 12)
   else
    ref09_Check.l1 ms n (i64.wrap (i2 + 1))
  else
   some (Out.go ())
def ref09_Check.l2 (bs : List T_api_Bound) : Nat → Int → Option (Out Int Unit)
 | 0, _ => none
 | n2 + 1, i4 =>
  if (decide (i4 < (bs.length : Int))) = true then
   (V.gl bs i4).bind fun x3 =>
   (ref07_RightPod x3.Pod).bind fun r2 =>
   if (!r2) = true then
    some (Out.ret 12)
   else
    ref09_Check.l2 bs n2 (i64.wrap (i4 + 1))
  else
   some (Out.go ())
def ref09_Check.l3 (ms : List T_api_Machine) : Nat → Int → Option (Out Int Unit)
 | 0, _ => none
 | n3 + 1, i6 =>
  if (decide (i6 < (ms.length : Int))) = true then
   (V.gl ms i6).bind fun x4 =>
   (ref09_Find ms x4.Name).bind fun r3 =>
   if (r3 != i6) = true then
    some (Out.ret 15)
   else
    ref09_Check.l3 ms n3 (i64.wrap (i6 + 1))
  else
   some (Out.go ())
def ref09_Check.l4 (bs : List T_api_Bound) : Nat → Int → Option (Out Int Unit)
 | 0, _ => none
 | n4 + 1, i8 =>
  if (decide (i8 < (bs.length : Int))) = true then
   (V.gl bs i8).bind fun x5 =>
   (ref09_Place bs x5.Pod.Name).bind fun r4 =>
   if (r4 != i8) = true then
    some (Out.ret 15)
   else
    ref09_Check.l4 bs n4 (i64.wrap (i8 + 1))
  else
   some (Out.go ())
def ref09_Check.l5 (ms : List T_api_Machine) (bs : List T_api_Bound) : Nat → Int → Option (Out Int Unit)
 | 0, _ => none
 | n5 + 1, i10 =>
  if (decide (i10 < (bs.length : Int))) = true then
   (V.gl bs i10).bind fun x6 =>
   (if (!(V.seq x6.On (⟨#[]⟩ : ByteArray))) = true then (V.gl bs i10).bind fun x7 =>
   (ref09_Find ms x7.On).bind fun r5 =>
   some (decide (r5 < 0)) else some false).bind fun c2 =>
   if c2 = true then
    some (Out.ret 16)
   else
    ref09_Check.l5 ms bs n5 (i64.wrap (i10 + 1))
  else
   some (Out.go ())
def ref09_Check (ms : List T_api_Machine) (bs : List T_api_Bound) : Option Int :=
 if ((decide ((ms.length : Int) > 200)) || (decide ((bs.length : Int) > 400))) = true then
  some 7
 else
  (ref09_Check.l1 ms FU (0 : Int)).bind fun o =>
  o.on fun j =>
  (ref09_Check.l2 bs FU (0 : Int)).bind fun o2 =>
  o2.on fun j2 =>
  (ref09_Check.l3 ms FU (0 : Int)).bind fun o3 =>
  o3.on fun j3 =>
  (ref09_Check.l4 bs FU (0 : Int)).bind fun o4 =>
  o4.on fun j4 =>
  (ref09_Check.l5 ms bs FU (0 : Int)).bind fun o5 =>
  o5.on fun j5 =>
  some 0
theorem K60 (ms : List T_api_Machine) (bs : List T_api_Bound) : VS Tryz.prog 22 (ref09_Check ms bs) [L61 ms, L49 bs] [] Iw N0 := by
 refine A3 [.tmp 4] Tryz.func22 R R R fun r hm=>?_
 unfold ref09_Check at hm
 refine Ag tbk [] R R<|Ae<|Ah<|Ab R R (Al R)<|Ab R R (Av T_api_Machine.vv R Bu)<|Aa tbk [] 2 R R<|Cz 4 17 13 R (fun K' J=>Aa tbk [] 4 R R<|J 3 R R R) (fun h1 K' J=>Bg R R R R R (Al R)<|Bg R R R R R (Av T_api_Bound.vv R Bk)<|Aa tbk [] 2 R R<|J 3 R R R)<|Ac<|Ak hm R (fun h2 hm=>Ag tbk [] R R<|Rt1 hm R [] R R R) fun h2 hm=>Aj<|Ae<|Ag tbk [] R R<|Bn hm (fun _ (_:Unit)=>[(0,L61 ms),(1,L49 bs)]) (fun _ (_:Unit)=>[]) (fun o hm h4=>?_) fun j _ hm=> ?_
 ·refine Bl (fun zn (zs:Int)=>ref09_Check.l1 ms zn zs) (fun zs (_:Unit)=>[(0,L61 ms),(1,L49 bs),(5,Iw zs)]) (fun _ (_:Unit)=>[]) _ () (fun _=>R) hm (Af [] R R) fun n i2 _ hm=> ?_
  rw [ref09_Check.l1] at hm
  exact Ae<|Ah<|Aa tbk [] 2 R R<|Ab R R (Av T_api_Machine.vv R Bu)<|Ab R R (A4 R R R)<|Ac<|Ak hm R (fun h5 hm=>Aj<|Ae<|Ay<|Ah<|Aa tbk [] 2 R R<|Bd hm fun x h6 hm=>Ab R R (Az T_api_Machine.vv R R el22 h6)<|Aa tbk [] 4 R R<|Be hm 7 37 30 R (fun _ K' h7 J hm=>Aa tbk [] 7 R R<|J 6 R R (Bj hm)) (fun _ K' h7 J hm=>Aa tbk [] 2 R R<|Bd hm fun x2 h8 hm=>Bg R R R R R (Az T_api_Machine.vv R R el22 h8)<|Bg R R R R R (Bi R ld61 R)<|A7 R R R R R<|Am hm 0 R fn60 R (K49 _) fun r hm=>Aa tbk [] 2 R R<|J 6 R R (Bj hm)) fun c hm=>Ac<|Ak hm R (fun h11 hm=>Ag tbk [] R R<|have hm:=Lr hm h4;Rt1 hm R [] R R R) fun h11 hm=>Aj<|A2 tbk [] R R<|Ap _ () hm (Af [] R R)) fun h5 hm=>A1<|Ar () hm (Af [] R R)
 refine Ae<|Ag tbk [] R R<|Bn hm (fun _ (_:Unit)=>[(0,L61 ms),(1,L49 bs)]) (fun _ (_:Unit)=>[]) (fun o2 hm h13=>?_) fun j2 _ hm=> ?_
 ·refine Bl (fun zn (zs:Int)=>ref09_Check.l2 bs zn zs) (fun zs (_:Unit)=>[(0,L61 ms),(1,L49 bs),(6,Iw zs)]) (fun _ (_:Unit)=>[]) _ () (fun _=>R) hm (Af [] R R) fun n2 i4 _ hm=> ?_
  rw [ref09_Check.l2] at hm
  exact Ae<|Ah<|Aa tbk [] 2 R R<|Ab R R (Av T_api_Bound.vv R Bk)<|Ab R R (A4 R R R)<|Ac<|Ak hm R (fun h14 hm=>Aj<|Ae<|Ay<|Ah<|Aa tbk [] 2 R R<|Bd hm fun x3 h15 hm=>Ab R R (Az T_api_Bound.vv R R el23 h15)<|Aa tbk [] 2 R R<|Ad R R<|Am hm 0 R fn61 R (K57 _) fun r2 hm=>Ab R R (Co R)<|Ac<|Ak hm R (fun h17 hm=>Ag tbk [] R R<|have hm:=Lr hm h13;Rt1 hm R [] R R R) fun h17 hm=>Aj<|A2 tbk [] R R<|Ap _ () hm (Af [] R R)) fun h14 hm=>A1<|Ar () hm (Af [] R R)
 refine Ae<|Ag tbk [] R R<|Bn hm (fun _ (_:Unit)=>[(0,L61 ms),(1,L49 bs)]) (fun _ (_:Unit)=>[]) (fun o3 hm h19=>?_) fun j3 _ hm=> ?_
 ·refine Bl (fun zn (zs:Int)=>ref09_Check.l3 ms zn zs) (fun zs (_:Unit)=>[(0,L61 ms),(1,L49 bs),(7,Iw zs)]) (fun _ (_:Unit)=>[]) _ () (fun _=>R) hm (Af [] R R) fun n3 i6 _ hm=> ?_
  rw [ref09_Check.l3] at hm
  exact Ae<|Ah<|Aa tbk [] 2 R R<|Ab R R (Av T_api_Machine.vv R Bu)<|Ab R R (A4 R R R)<|Ac<|Ak hm R (fun h20 hm=>Aj<|Ae<|Ay<|Ah<|Aa tbk [] 3 R R<|Bd hm fun x4 h21 hm=>Ab R R (Az T_api_Machine.vv R R el22 h21)<|Aa tbk [] 2 R R<|Ad R R<|Am hm 0 R fn23 R (K58 _ _) fun r3 hm=>Aa tbk [] 2 R R<|Ac<|Ak hm R (fun h23 hm=>Ag tbk [] R R<|have hm:=Lr hm h19;Rt1 hm R [] R R R) fun h23 hm=>Aj<|A2 tbk [] R R<|Ap _ () hm (Af [] R R)) fun h20 hm=>A1<|Ar () hm (Af [] R R)
 refine Ae<|Ag tbk [] R R<|Bn hm (fun _ (_:Unit)=>[(0,L61 ms),(1,L49 bs)]) (fun _ (_:Unit)=>[]) (fun o4 hm h25=>?_) fun j4 _ hm=> ?_
 ·refine Bl (fun zn (zs:Int)=>ref09_Check.l4 bs zn zs) (fun zs (_:Unit)=>[(0,L61 ms),(1,L49 bs),(8,Iw zs)]) (fun _ (_:Unit)=>[]) _ () (fun _=>R) hm (Af [] R R) fun n4 i8 _ hm=> ?_
  rw [ref09_Check.l4] at hm
  exact Ae<|Ah<|Aa tbk [] 2 R R<|Ab R R (Av T_api_Bound.vv R Bk)<|Ab R R (A4 R R R)<|Ac<|Ak hm R (fun h26 hm=>Aj<|Ae<|Ay<|Ah<|Aa tbk [] 3 R R<|Bd hm fun x5 h27 hm=>Ab R R (Az T_api_Bound.vv R R el23 h27)<|Aa tbk [] 3 R R<|Ad R R<|Am hm 0 R fn57 R (K59 _ _) fun r4 hm=>Aa tbk [] 2 R R<|Ac<|Ak hm R (fun h29 hm=>Ag tbk [] R R<|have hm:=Lr hm h25;Rt1 hm R [] R R R) fun h29 hm=>Aj<|A2 tbk [] R R<|Ap _ () hm (Af [] R R)) fun h26 hm=>A1<|Ar () hm (Af [] R R)
 refine Ae<|Ag tbk [] R R<|Bn hm (fun _ (_:Unit)=>[]) (fun _ (_:Unit)=>[]) (fun o5 hm h31=>?_) fun j5 _ hm=> ?_
 ·refine Bl (fun zn (zs:Int)=>ref09_Check.l5 ms bs zn zs) (fun zs (_:Unit)=>[(0,L61 ms),(1,L49 bs),(9,Iw zs)]) (fun _ (_:Unit)=>[]) _ () (fun _=>R) hm (Af [] R R) fun n5 i10 _ hm=> ?_
  rw [ref09_Check.l5] at hm
  exact Ae<|Ah<|Aa tbk [] 2 R R<|Ab R R (Av T_api_Bound.vv R Bk)<|Ab R R (A4 R R R)<|Ac<|Ak hm R (fun h32 hm=>Aj<|Ae<|Ay<|Ah<|Aa tbk [] 2 R R<|Bd hm fun x6 h33 hm=>Ab R R (Az T_api_Bound.vv R R el23 h33)<|Aa tbk [] 4 R R<|Be hm 9 103 94 R (fun _ K' h34 J hm=>Aa tbk [] 3 R R<|Bd hm fun x7 h35 hm=>Bg R R R R R (Az T_api_Bound.vv R R el23 h35)<|Aa tbk [] 2 R R<|A7 R R R R R<|Am hm 0 R fn23 R (K58 _ _) fun r5 hm=>Aa tbk [] 2 R R<|J 8 R R (Bj hm)) (fun _ K' h34 J hm=>Aa tbk [] 9 R R<|J 8 R R (Bj hm)) fun c2 hm=>Ac<|Ak hm R (fun h38 hm=>Ag tbk [] R R<|have hm:=Lr hm h31;Rt1 hm R [] R R R) fun h38 hm=>Aj<|A2 tbk [] R R<|Ap _ () hm (Af [] R R)) fun h32 hm=>A1<|Ar () hm (Af [] R R)
 exact Ag tbk [] R R<|Rt1 hm R [] R R R

/-! trireme/triremeref15.Right -/
def ref15_Right.l2 (l : List T_api_Budget) (i2 : Int) : Nat → Int → Option (Out (Out Bool Unit) Unit)
 | 0, _ => none
 | n2 + 1, k2 =>
  if (decide (k2 < i2)) = true then
   (V.gl l k2).bind fun x6 =>
   (V.gl l i2).bind fun x7 =>
   if (V.seq x6.Name x7.Name) = true then
    some (Out.ret (Out.ret false))
   else
    ref15_Right.l2 l i2 n2 (i64.wrap (k2 + 1))
  else
   some (Out.go ())
def ref15_Right.l1 (l : List T_api_Budget) : Nat → Int → Option (Out Bool Unit)
 | 0, _ => none
 | n + 1, i2 =>
  if (decide (i2 < (l.length : Int))) = true then
   (V.gl l i2).bind fun x =>
   (ref01_Word x.Name).bind fun r =>
   (if (!r) = true then some true else (V.gl l i2).bind fun x2 =>
   some ((x2.Match.length : Int) == 0)).bind fun c =>
   (if c = true then some true else (V.gl l i2).bind fun x3 =>
   (ref05_Right x3.Match).bind fun r2 =>
   some (!r2)).bind fun c2 =>
   (if c2 = true then some true else (V.gl l i2).bind fun x4 =>
   some (decide (x4.Least < 0))).bind fun c3 =>
   (if c3 = true then some true else (V.gl l i2).bind fun x5 =>
   some (decide (x5.Least > 400))).bind fun c4 =>
   if c4 = true then
    some (Out.ret false)
   else
    (ref15_Right.l2 l i2 FU (0 : Int)).bind fun o2 =>
    o2.on fun j2 =>
    ref15_Right.l1 l n (i64.wrap (i2 + 1))
  else
   some (Out.go ())
def ref15_Right (l : List T_api_Budget) : Option Bool :=
 if (decide ((l.length : Int) > 16)) = true then
  some false
 else
  (ref15_Right.l1 l FU (0 : Int)).bind fun o =>
  o.on fun j =>
  some true
theorem K61 (l : List T_api_Budget) : VS Tryz.prog 46 (ref15_Right l) [L64 l] [] .bool N0 := by
 refine A3 [.tmp 2] Tryz.func46 R R R fun r hm=>?_
 unfold ref15_Right at hm
 refine Ag tbk [] R R<|Ae<|Ah<|Ab R R (Al R)<|Ab R R (Av T_api_Budget.vv R Cs)<|Ab R R (A4 R R R)<|Ac<|Ak hm R (fun h1 hm=>Ag tbk [] R R<|Rt1 hm R [] R R R) fun h1 hm=>Aj<|Ae<|Ag tbk [] R R<|Bn hm (fun _ (_:Unit)=>[]) (fun _ (_:Unit)=>[]) (fun o hm h3=>?_) fun j _ hm=> ?_
 ·refine Bl (fun zn (zs:Int)=>ref15_Right.l1 l zn zs) (fun zs (_:Unit)=>[(0,L64 l),(3,Iw zs)]) (fun _ (_:Unit)=>[]) _ () (fun _=>R) hm (Af [] R R) fun n i2 _ hm=> ?_
  rw [ref15_Right.l1] at hm
  refine Ae<|Ah<|Aa tbk [] 2 R R<|Ab R R (Av T_api_Budget.vv R Cs)<|Ab R R (A4 R R R)<|Ac<|Ak hm R (fun h4 hm=>?_) fun h4 hm=> ?_
  ·refine Aj<|Ae<|Ay<|Ae<|Ah<|Aa tbk [] 2 R R<|Bd hm fun x h5 hm=>Ab R R (Az T_api_Budget.vv R R el24 h5)<|Aa tbk [] 2 R R<|Ad R R<|Am hm 0 R fn94 R (K39 _) fun r hm=>Aa tbk [] 2 R R<|Be hm 8 29 21 R (fun _ K' h7 J hm=>Aa tbk [] 8 R R<|J 7 R R (Bj hm)) (fun _ K' h7 J hm=>Aa tbk [] 2 R R<|Bd hm fun x2 h8 hm=>Bg R R R R R (Az T_api_Budget.vv R R el24 h8)<|Aa tbk [] 2 R R<|Bg R R R R R (Av T_api_Label.vv R Br)<|Aa tbk [] 2 R R<|J 7 R R (Bj hm)) fun c hm=>Ab R R (Al R)<|Be hm 8 38 30 R (fun _ K' h10 J hm=>Aa tbk [] 8 R R<|J 7 R R (Bj hm)) (fun _ K' h10 J hm=>Aa tbk [] 2 R R<|Bd hm fun x3 h11 hm=>Bg R R R R R (Az T_api_Budget.vv R R el24 h11)<|Aa tbk [] 2 R R<|A7 R R R R R<|Am hm 0 R fn95 R (K45 _) fun r2 hm=>Aa tbk [] 2 R R<|J 7 R R (Bj hm)) fun c2 hm=>Ab R R (Al R)<|Be hm 7 46 39 R (fun _ K' h14 J hm=>Aa tbk [] 7 R R<|J 6 R R (Bj hm)) (fun _ K' h14 J hm=>Aa tbk [] 2 R R<|Bd hm fun x4 h15 hm=>Bg R R R R R (Az T_api_Budget.vv R R el24 h15)<|Aa tbk [] 4 R R<|J 6 R R (Bj hm)) fun c3 hm=>Ab R R (Al R)<|Be hm 7 54 47 R (fun _ K' h17 J hm=>Aa tbk [] 7 R R<|J 6 R R (Bj hm)) (fun _ K' h17 J hm=>Aa tbk [] 2 R R<|Bd hm fun x5 h18 hm=>Bg R R R R R (Az T_api_Budget.vv R R el24 h18)<|Aa tbk [] 4 R R<|J 6 R R (Bj hm)) fun c4 hm=>Ac<|Ak hm R (fun h20 hm=>Ag tbk [] R R<|have hm:=Lr hm h3;Rt1 hm R [] R R R) fun h20 hm=>Aj<|Ag tbk [] R R<|Bn hm (fun _ (_:Unit)=>[(0,L64 l),(3,Iw i2)]) (fun _ (_:Unit)=>[]) (fun o2 hm h22=>?_) fun j2 _ hm=> ?_
   ·refine Bl (fun zn (zs:Int)=>ref15_Right.l2 l i2 zn zs) (fun zs (_:Unit)=>[(0,L64 l),(3,Iw i2),(4,Iw zs)]) (fun _ (_:Unit)=>[]) _ () (fun _=>R) hm (Af [] R R) fun n2 k2 _ hm=> ?_
    rw [ref15_Right.l2] at hm
    exact Ae<|Ag tbk [] R R<|Ak hm R (fun h23 hm=>Aj<|Ae<|Ay<|Ae<|A9 0 mixed<|Aq tbk [0,1] [] (by kernel_rfl) R R R<|Bd hm fun x6 h24 hm=>Ax 2 R R R (by kernel_rfl) (Az T_api_Budget.vv R R el24 h24)<|Aq tbk [3,4,5,6] [] (by kernel_rfl) R R R<|Bd hm fun x7 h25 hm=>Ax 7 R R R (by kernel_rfl) (Az T_api_Budget.vv R R el24 h25)<|Aq tbk [8,9,10] [] (by kernel_rfl) R R R<|A5 (by kernel_rfl)<|Ak hm R (fun h26 hm=>Ag tbk [] R R<|have hm:=Lr hm h22;have hm:=Lr hm h3;Rt1 hm R [] R R R) fun h26 hm=>Aj<|A2 tbk [] R R<|Ap _ () hm (Af [] R R)) fun h23 hm=>A1<|Ar () hm (Af [] R R)
   exact A2 tbk [] R R<|Ap _ () hm (Af [] R R)
  exact A1<|Ar () hm (Af [] R R)
 exact Ag tbk [] R R<|Rt1 hm R [] R R R

/-! trireme/triremelaw26.right -/
def law26_right (c : T_law26_Case) : Option Bool :=
 if ((decide ((c.Names.length : Int) > 20)) || (decide ((c.Barred.length : Int) > 20))) = true then
  some false
 else
  (ref09_Light c.Ms c.Bs).bind fun r =>
  (if r = true then (ref15_Light c.L).bind fun r2 =>
  some r2 else some false).bind fun c2 =>
  (if c2 = true then (ref09_Check c.Ms c.Bs).bind fun r3 =>
  some (r3 == 0) else some false).bind fun c3 =>
  (if c3 = true then (ref15_Right c.L).bind fun r4 =>
  some r4 else some false).bind fun c4 =>
  some c4
theorem K62 (c : T_law26_Case) : VS Tryz.prog 11 (law26_right c) [T_law26_Case.vv c] [] .bool N0 := by
 refine A3 [.tmp 2] Tryz.func11 R R R fun r hm=>?_
 unfold law26_right at hm
 exact Ah<|Ad R R<|Ba R R fun b=>Ab R R (Ai R)<|Ac<|Ae<|Ah<|Aa tbk [0] 2 R R<|Ab R R (Av VV.str R Bo)<|Aa tbk [] 2 R R<|Cz 5 12 7 R (fun K' J=>Aa tbk [] 5 R R<|J 4 R R R) (fun h2 K' J=>Aa tbk [0] 2 R R<|Bg R R R R R (Av VV.str R Bo)<|Aa tbk [] 2 R R<|J 4 R R R)<|Ac<|Ak hm R (fun h3 hm=>Ag tbk [] R R<|Rt1 hm R [] R R R) fun h3 hm=>Aj<|Ah<|Aa tbk [0,0] 4 R R<|Ad R R<|Am hm 0 R fn27 R (K34 _ _) fun r hm=>Ab R R (Al R)<|Be hm 4 22 18 R (fun _ K' h5 J hm=>Aa tbk [0] 2 R R<|A7 R R R R R<|Am hm 0 R fn45 R (K35 _) fun r2 hm=>Ab R R (Bf true R R R)<|J 3 R R (Bj hm)) (fun _ K' h5 J hm=>Aa tbk [] 4 R R<|J 3 R R (Bj hm)) fun c2 hm=>Ab R R (Al R)<|Be hm 7 30 23 R (fun _ K' h8 J hm=>Aa tbk [0,0] 4 R R<|A7 R R R R R<|Am hm 0 R fn22 R (K60 _ _) fun r3 hm=>Aa tbk [] 2 R R<|J 6 R R (Bj hm)) (fun _ K' h8 J hm=>Aa tbk [] 7 R R<|J 6 R R (Bj hm)) fun c3 hm=>Ab R R (Al R)<|Be hm 4 35 31 R (fun _ K' h11 J hm=>Aa tbk [0] 2 R R<|A7 R R R R R<|Am hm 0 R fn46 R (K61 _) fun r4 hm=>Ab R R (Bf true R R R)<|J 3 R R (Bj hm)) (fun _ K' h11 J hm=>Aa tbk [] 4 R R<|J 3 R R (Bj hm)) fun c4 hm=>Ab R R (Ai R)<|Ac<|Rt1 hm R [] R R R

/-! trireme/yard.Find$1 -/
def yard_Find_1 (i : Int) (a : List T_api_Machine) (a2 : ByteArray) : Option Bool :=
 (V.gl a i).bind fun x =>
 some (V.seq x.Name a2)
theorem K63 (i : Int) (a : List T_api_Machine) (a2 : ByteArray) (b : Nat) (b2 : Nat) : VS Tryz.prog 97 (yard_Find_1 i a a2) [Iw i, .ptr b 0, .ptr b2 0] [.box b 22 [L61 a], .box b2 9 [.str a2]] .bool (fun r=>[.box b 22 [L61 a], .box b2 9 [.str a2]]) := by
 refine A3 [.tmp 4] Tryz.func97 R R R fun r hm=>?_
 unfold yard_Find_1 at hm
 exact Ag tbk [] R R<|Ae<|A9 0 mixed<|Aq tbk [0,1] [0] (by kernel_rfl) R R R<|Bd hm fun x h1 hm=>Ax 2 R R R (by kernel_rfl) (Az T_api_Machine.vv R R el22 h1)<|Aq tbk [3,4,5,6,7] [1] (by kernel_rfl) R R R<|A5 (by kernel_rfl)<|Rt1 hm R [0,0] R R R

/-! trireme/yard.first -/
def yard_first_yard_Find_1.l1 (n : Int) (c : List T_api_Machine) (c2 : ByteArray) : Nat → Int → Option (Out Int Unit)
 | 0, _ => none
 | n2 + 1, v2 =>
  if (decide (v2 < n)) = true then
   (yard_Find_1 v2 c c2).bind fun r =>
   if r = true then
    some (Out.ret v2)
   else
    yard_first_yard_Find_1.l1 n c c2 n2 (i64.wrap (v2 + 1))
  else
   some (Out.go ())
def yard_first_yard_Find_1 (n : Int) (c : List T_api_Machine) (c2 : ByteArray) : Option Int :=
 (yard_first_yard_Find_1.l1 n c c2 FU (0 : Int)).bind fun o =>
 o.on fun j =>
 some (-1)
theorem K64 (n : Int) (c : List T_api_Machine) (c2 : ByteArray) (b : Nat) (b2 : Nat) : VS Tryz.prog 96 (yard_first_yard_Find_1 n c c2) [Iw n, .clo (.func 97) [] [.ptr b 0, .ptr b2 0]] [.box b 22 [L61 c], .box b2 9 [.str c2]] Iw (fun r=>[.box b 22 [L61 c], .box b2 9 [.str c2]]) := by
 refine A3 [.tmp 4] Dj R R R fun r hm=>?_
 unfold yard_first_yard_Find_1 at hm
 refine Ag tbk [] R R<|Ae<|Ag tbk [] R R<|Bn hm (fun _ (_:Unit)=>[]) (fun _ (_:Unit)=>[.box b 22 [L61 c],.box b2 9 [.str c2]]) (fun o hm h2=>?_) fun j _ hm=> ?_
 ·refine Bl (fun zn (zs:Int)=>yard_first_yard_Find_1.l1 n c c2 zn zs) (fun zs (_:Unit)=>[(1,.clo (.func 97) [] [.ptr b 0,.ptr b2 0]),(6,Iw n),(7,Iw zs)]) (fun _ (_:Unit)=>[.box b 22 [L61 c],.box b2 9 [.str c2]]) _ () (fun _=>R) hm (Af [0,0] R R) fun n2 v2 _ hm=> ?_
  rw [yard_first_yard_Find_1.l1] at hm
  exact Ag tbk [] R R<|Ae<|Ak hm R (fun h3 hm=>Aj<|Ae<|Ay<|Ag tbk [] R R<|Ah<|Aa tbk [] 2 R R<|Ad R R<|Am hm 2 R fn97 R (K63 _ _ _ _ _) fun r hm=>Ac<|Ak hm R (fun h5 hm=>Ag tbk [] R R<|have hm:=Lr hm h2;Rt1 hm R [0,0] R R R) fun h5 hm=>Aj<|A2 tbk [] R R<|Ap _ () hm (Af [0,0] R R)) fun h3 hm=>A1<|Ar () hm (Af [0,0] R R)
 exact Ag tbk [] R R<|Rt1 hm R [0,0] R R R

/-! trireme/yard.Find -/
def yard_Find (ms : List T_api_Machine) (name : ByteArray) : Option Int :=
 (yard_first_yard_Find_1 (ms.length : Int) ms name).bind fun r =>
 some r
theorem K65 (ms : List T_api_Machine) (name : ByteArray) : VS Tryz.prog 47 (yard_Find ms name) [L61 ms, .str name] [] Iw N0 := by
 refine A3 [.tmp 4] Tryz.func47 R R R fun r hm=>?_
 unfold yard_Find at hm
 exact Ah<|Ad R R<|Ba R R fun b=>Ad R R<|Ba R R fun b2=>Ab R R (Ai R)<|Ac<|Ah<|Aa tbk [1] 1 R R<|Ab R R (Av T_api_Machine.vv R Bu)<|Ab R R (C3 R R)<|Bh (Ci [1,0] R)<|Ad R R<|Am hm 2 R fn96 R (K64 _ _ _ _ _) fun r hm=>Ab R R (Ai R)<|Ac<|Rt1 hm R [] R R R

/-! trireme/plan.among -/
def plan_among.l1 (s : ByteArray) : List ByteArray → Nat → Option (Out Bool Unit)
 | [], k => some (Out.go ())
 | x :: l2, k =>
  if (V.seq x s) = true then
   some (Out.ret true)
  else
   plan_among.l1 s l2 (k + 1)
def plan_among (l : List ByteArray) (s : ByteArray) : Option Bool :=
 (plan_among.l1 s l 0).bind fun o =>
 o.on fun j =>
 some false
theorem K66 (l : List ByteArray) (s : ByteArray) : VS Tryz.prog 52 (plan_among l s) [L9 l, .str s] [] .bool N0 := by
 refine A3 [.tmp 4] Tryz.func52 R R R fun r hm=>?_
 unfold plan_among at hm
 refine Ag tbk [] R R<|Ae<|Ah<|Ab R R (Al R)<|Ab R R (Av VV.str R Bo)<|Ab R R (Al R)<|Ac<|B7 7 R fun h3=>Bn hm (fun _ (_:Unit)=>[]) (fun _ (_:Unit)=>[]) (fun o hm h2=>?_) fun j _ hm=> ?_
 ·refine Cn (l) (fun zl zk (zs:Unit)=>plan_among.l1 s zl zk) (fun k _ (_:Unit)=>[(1,.str s),(7,L9 l),(8,Iw (l.length : Int)),(9,Iw (k : Int))]) (fun _ _ (_:Unit)=>[]) () () hm (Af [] R R) (fun k _ _ hk hm=>?_) fun k x l2 _ _ h4 hm=> ?_
  ·rw [plan_among.l1] at hm
   exact Ag tbk [] R R<|Ae<|B5 R (k_end hk)<|A1<|Ar () hm (Af [] R R)
  rw [plan_among.l1] at hm
  exact Ag tbk [] R R<|Ae<|B0 R (k_lt h4)<|Aj<|Ae<|Ay<|Ah<|Ab R R (Ch VV.str R R el25 h4)<|Aa tbk [] 2 R R<|Ac<|Ag tbk [] R R<|Ak hm R (fun h5 hm=>Ag tbk [] R R<|have hm:=Lr hm h2;Rt1 hm R [] R R R) fun h5 hm=>Aj<|A2 tbk [] R R<|Ap () () hm (Bm [] R ⟨R,R,R,congrArg some (k_next h4 h3),trivial⟩)
 exact Ag tbk [] R R<|Rt1 hm R [] R R R

/-! trireme/plan.Without -/
def plan_Without.l1 (barred : List ByteArray) : List T_api_Machine → Nat → (List T_api_Machine) → Option (List T_api_Machine)
 | [], k, l2 => some l2
 | x :: l4, k, l2 =>
  (plan_among barred x.Name).bind fun r =>
  if (!r) = true then
   (V.ap 128 l2 [x]).bind fun l5 =>
   plan_Without.l1 barred l4 (k + 1) l5
  else
   plan_Without.l1 barred l4 (k + 1) l2
def plan_Without (ms : List T_api_Machine) (barred : List ByteArray) : Option (List T_api_Machine) :=
 (plan_Without.l1 barred ms 0 ([] : List T_api_Machine)).bind fun l32 =>
 some l32
theorem K67 (ms : List T_api_Machine) (barred : List ByteArray) : VS2 Tryz.prog 20 (plan_Without ms barred) [L61 ms, L9 barred] [] (fun r ob0 cap0=>Z61 ob0 r cap0) (fun r ob0 cap0=>[Q61 ob0 cap0 r]) := by
 refine Cl [.tmp 4] Tryz.func20 R R R fun r hm=>?_
 unfold plan_Without at hm
 refine Ag tbk [] R R<|Ag tbk [] R R<|Ae<|Ah<|Ab R R (Al R)<|Ab R R (Av T_api_Machine.vv R Bu)<|Ab R R (Al R)<|Ac<|B7 8 R fun h5=>Bw hm (fun l32 (gg:Option Nat × Nat)=>[(5,Z61 gg.1 l32 gg.2)]) (fun l32 (gg:Option Nat × Nat)=>[Q61 gg.1 gg.2 l32]) (fun o hm=>?_) fun l32=>Pq fun ob3 cap3 hm=> ?_
 ·refine Cn (ms) (fun zl zk (zs:List T_api_Machine)=>plan_Without.l1 barred zl zk zs) (fun k zs (zg:Option Nat × Nat)=>[(1,L9 barred),(5,Z61 zg.1 zs zg.2),(8,L61 ms),(9,Iw (ms.length : Int)),(10,Iw (k : Int))]) (fun _ zs (zg:Option Nat × Nat)=>[Q61 zg.1 zg.2 zs]) _ (none,0) hm (Bb (Bc 61) (Af [0] R R)) (fun k l2=>Pq fun ob2 cap2 hk hm=>?_) fun k x l4 l2=>Pq fun ob2 cap2 h6 hm=> ?_
  ·rw [plan_Without.l1] at hm
   exact Ag tbk [] R R<|Ae<|B5 R (k_end hk)<|A1<|As (ob2,cap2) hm (Af [0] R R)
  rw [plan_Without.l1] at hm
  exact Ag tbk [] R R<|Ae<|B0 R (k_lt h6)<|Aj<|Ae<|Ay<|Ah<|Ab R R (Ch T_api_Machine.vv R R el22 h6)<|Ab R R (Bi R ld61 R)<|Ad R R<|A0 z61 fun b=>Ad R R<|An (i:=0) R R R ld61 R R R<|Ac<|Ah<|Aa tbk [0] 3 R R<|Ad R R<|Am hm 0 R fn52 R (K66 _ _) fun r hm=>Ab R R (Co R)<|Ac<|Ak hm R (fun h9 hm=>Bq<|Aa tbk [0] 2 R R<|Ad R R<|A8 ap22 R R R R R fun b2=>Bd hm fun l5 h11 hm=>Ad R R<|B3 2 T_api_Machine.vv (l:=l2) (l2:=[x]) ap22 R R (sT_row 0 T_api_Machine.vv el22 R R) h11 fun ob4 cap4=>Ab R R (Ai R)<|Ac<|A2 tbk [] R R<|Ap _ (ob4,cap4) hm (Bm [2] R ⟨R,R,R,R,congrArg some (k_next h6 h5),trivial⟩)) fun h9 hm=>Aj<|A2 tbk [] R R<|Ap _ (ob2,cap2) hm (Bm [1] R ⟨R,R,R,R,congrArg some (k_next h6 h5),trivial⟩)
 exact Ag tbk [] R R<|Rg2 hm R [0] ob3 cap3 (.cons (.tmp _ _ R) .nil) R R

/-! trireme/yard.On -/
def yard_On.l1 (name : ByteArray) : List T_api_Bound → Nat → (List T_api_Pod) → Option (List T_api_Pod)
 | [], k, l2 => some l2
 | x :: l4, k, l2 =>
  if (V.seq x.On name) = true then
   (V.ap 272 l2 [x.Pod]).bind fun l5 =>
   yard_On.l1 name l4 (k + 1) l5
  else
   yard_On.l1 name l4 (k + 1) l2
def yard_On (bs : List T_api_Bound) (name : ByteArray) : Option (List T_api_Pod) :=
 (yard_On.l1 name bs 0 ([] : List T_api_Pod)).bind fun l32 =>
 some l32
theorem K68 (bs : List T_api_Bound) (name : ByteArray) : VS2 Tryz.prog 85 (yard_On bs name) [L49 bs, .str name] [] (fun r ob0 cap0=>Z47 ob0 r cap0) (fun r ob0 cap0=>[Q47 ob0 cap0 r]) := by
 refine Cl [.tmp 4] Tryz.func85 R R R fun r hm=>?_
 unfold yard_On at hm
 refine Ag tbk [] R R<|Ag tbk [] R R<|Ae<|Ah<|Ab R R (Al R)<|Ab R R (Av T_api_Bound.vv R Bk)<|Ab R R (Al R)<|Ac<|B7 8 R fun h5=>Bw hm (fun l32 (gg:Option Nat × Nat)=>[(5,Z47 gg.1 l32 gg.2)]) (fun l32 (gg:Option Nat × Nat)=>[Q47 gg.1 gg.2 l32]) (fun o hm=>?_) fun l32=>Pq fun ob3 cap3 hm=> ?_
 ·refine Cn (bs) (fun zl zk (zs:List T_api_Pod)=>yard_On.l1 name zl zk zs) (fun k zs (zg:Option Nat × Nat)=>[(1,.str name),(5,Z47 zg.1 zs zg.2),(8,L49 bs),(9,Iw (bs.length : Int)),(10,Iw (k : Int))]) (fun _ zs (zg:Option Nat × Nat)=>[Q47 zg.1 zg.2 zs]) _ (none,0) hm (Bb (Bc 47) (Af [0] R R)) (fun k l2=>Pq fun ob2 cap2 hk hm=>?_) fun k x l4 l2=>Pq fun ob2 cap2 h6 hm=> ?_
  ·rw [yard_On.l1] at hm
   exact Ag tbk [] R R<|Ae<|B5 R (k_end hk)<|A1<|As (ob2,cap2) hm (Af [0] R R)
  rw [yard_On.l1] at hm
  exact Ag tbk [] R R<|Ae<|B0 R (k_lt h6)<|Aj<|Ae<|Ay<|Ah<|Ab R R (Ch T_api_Bound.vv R R el23 h6)<|Ab R R (Bi R ld49 R)<|Ad R R<|A0 z49 fun b=>Ad R R<|An (i:=0) R R R ld49 R R R<|Ac<|Ag tbk [0] R R<|Ak hm R (fun h8 hm=>Bq<|Aa tbk [0] 3 R R<|Ad R R<|A8 ap55 R R R R R fun b2=>Bd hm fun l5 h10 hm=>Ad R R<|B3 2 T_api_Pod.vv (l:=l2) (l2:=[x.Pod]) ap55 R R (sT_row 0 T_api_Pod.vv el55 R R) h10 fun ob4 cap4=>Ab R R (Ai R)<|Ac<|A2 tbk [] R R<|Ap _ (ob4,cap4) hm (Bm [2] R ⟨R,R,R,R,congrArg some (k_next h6 h5),trivial⟩)) fun h8 hm=>Aj<|A2 tbk [] R R<|Ap _ (ob2,cap2) hm (Bm [1] R ⟨R,R,R,R,congrArg some (k_next h6 h5),trivial⟩)
 exact Ag tbk [] R R<|Rg2 hm R [0] ob3 cap3 (.cons (.tmp _ _ R) .nil) R R

/-! trireme/block.Movable -/
def block_Movable.l1 : List T_api_Pod → Nat → (List T_api_Pod) → Option (List T_api_Pod)
 | [], k, l2 => some l2
 | x :: l4, k, l2 =>
  if (!x.Daemon) = true then
   (V.ap 272 l2 [x]).bind fun l5 =>
   block_Movable.l1 l4 (k + 1) l5
  else
   block_Movable.l1 l4 (k + 1) l2
def block_Movable (bs : List T_api_Bound) (name : ByteArray) : Option (List T_api_Pod) :=
 (yard_On bs name).bind fun r =>
 (block_Movable.l1 r 0 ([] : List T_api_Pod)).bind fun l32 =>
 some l32
theorem K69 (bs : List T_api_Bound) (name : ByteArray) : VS2 Tryz.prog 48 (block_Movable bs name) [L49 bs, .str name] [] (fun r ob0 cap0=>Z47 ob0 r cap0) (fun r ob0 cap0=>[Q47 ob0 cap0 r]) := by
 refine Cl [.tmp 4] Tryz.func48 R R R fun r hm=>?_
 unfold block_Movable at hm
 refine Ag tbk [] R R<|Ag tbk [] R R<|Ae<|Ah<|Aa tbk [] 2 R R<|Ad R R<|Bz hm 0 R fn85 R (K68 _ _) fun r ob cap hm=>Bh (Aw 0 [(10,L47 r)] R ⟨⟨_,R,.here _ R⟩,trivial⟩ (FzH.refl _))<|Ab R R (Av T_api_Pod.vv R Bv)<|Ab R R (Al R)<|Ac<|B7 10 R fun h7=>Bw hm (fun l32 (gg:Option Nat × Nat)=>[(5,Z47 gg.1 l32 gg.2)]) (fun l32 (gg:Option Nat × Nat)=>[Q47 gg.1 gg.2 l32]) (fun o hm=>?_) fun l32=>Pq fun ob4 cap4 hm=> ?_
 ·refine Cn (r) (fun zl zk (zs:List T_api_Pod)=>block_Movable.l1 zl zk zs) (fun k zs (zg:Option Nat × Nat)=>[(5,Z47 zg.1 zs zg.2),(10,L47 r),(11,Iw (r.length : Int)),(12,Iw (k : Int))]) (fun _ zs (zg:Option Nat × Nat)=>[Q47 zg.1 zg.2 zs]) _ (none,0) hm (Bb (Bc 47) (Af [0] R R)) (fun k l2=>Pq fun ob3 cap3 hk hm=>?_) fun k x l4 l2=>Pq fun ob3 cap3 h8 hm=> ?_
  ·rw [block_Movable.l1] at hm
   exact Ag tbk [] R R<|Ae<|B5 R (k_end hk)<|A1<|As (ob3,cap3) hm (Af [0] R R)
  rw [block_Movable.l1] at hm
  exact Ag tbk [] R R<|Ae<|B0 R (k_lt h8)<|Aj<|Ae<|Ay<|Ah<|Ab R R (Ch T_api_Pod.vv R R el55 h8)<|Ab R R (Bi R ld47 R)<|Ad R R<|A0 z47 fun b=>Ad R R<|An (i:=0) R R R ld47 R R R<|Ac<|Ag tbk [0] R R<|Ak hm R (fun h10 hm=>Bq<|Aa tbk [0] 2 R R<|Ad R R<|A8 ap55 R R R R R fun b2=>Bd hm fun l5 h12 hm=>Ad R R<|B3 2 T_api_Pod.vv (l:=l2) (l2:=[x]) ap55 R R (sT_row 0 T_api_Pod.vv el55 R R) h12 fun ob5 cap5=>Ab R R (Ai R)<|Ac<|A2 tbk [] R R<|Ap _ (ob5,cap5) hm (Bm [2] R ⟨R,R,R,congrArg some (k_next h8 h7),trivial⟩)) fun h10 hm=>Aj<|A2 tbk [] R R<|Ap _ (ob3,cap3) hm (Bm [1] R ⟨R,R,R,congrArg some (k_next h8 h7),trivial⟩)
 exact Ag tbk [] R R<|Rg2 hm R [0] ob4 cap4 (.cons (.tmp _ _ R) .nil) R R

/-! trireme/labels.at -/
def labels_at.l1 (key : ByteArray) : List T_api_Label → Nat → Option (Out (Int × Bool) Unit)
 | [], k => some (Out.go ())
 | x :: l2, k =>
  if (!(V.slt x.Key key)) = true then
   some (Out.ret ((k : Int), (V.seq x.Key key)))
  else
   labels_at.l1 key l2 (k + 1)
def labels_at (l : List T_api_Label) (key : ByteArray) : Option (Int × Bool) :=
 (labels_at.l1 key l 0).bind fun o =>
 o.on fun j =>
 some ((l.length : Int), false)
theorem K70 (l : List T_api_Label) (key : ByteArray) : VS Tryz.prog 238 (labels_at l key) [L92 l, .str key] [] (fun r=>.tup [Iw r.1, .bool r.2]) N0 := by
 refine A3 [.tmp 4,.tmp 5] Tryz.func238 R R R fun r hm=>?_
 unfold labels_at at hm
 refine Ag tbk [] R R<|Ae<|Ah<|Ab R R (Al R)<|Ab R R (Av T_api_Label.vv R Br)<|Ab R R (Al R)<|Ac<|B7 0 R fun h3=>Bn hm (fun _ (_:Unit)=>[(0,L92 l)]) (fun _ (_:Unit)=>[]) (fun o hm h2=>?_) fun j _ hm=> ?_
 ·refine Cn (l) (fun zl zk (zs:Unit)=>labels_at.l1 key zl zk) (fun k _ (_:Unit)=>[(0,L92 l),(1,.str key),(8,L92 l),(9,Iw (l.length : Int)),(10,Iw (k : Int))]) (fun _ _ (_:Unit)=>[]) () () hm (Af [] R R) (fun k _ _ hk hm=>?_) fun k x l2 _ _ h4 hm=> ?_
  ·rw [labels_at.l1] at hm
   exact Ag tbk [] R R<|Ae<|B5 R (k_end hk)<|A1<|Ar () hm (Af [] R R)
  rw [labels_at.l1] at hm
  exact Ag tbk [] R R<|Ae<|B0 R (k_lt h4)<|Aj<|Ae<|Ay<|Ah<|Ab R R (Al R)<|Ab R R (Ch T_api_Label.vv R R el42 h4)<|Ab R R (Bi R ld92 R)<|Ad R R<|A0 z92 fun b=>Ab R R (Ai R)<|Ad R R<|An (i:=0) R R R ld92 R R R<|Ac<|Ag tbk [0] R R<|Ak hm R (fun h6 hm=>Ae<|A9 0 mixed<|Aq tbk [0,1,2,3,4,5,6] [0] (by kernel_rfl) R R R<|A5 (by kernel_rfl)<|have hm:=Lr hm h2;Rt2 hm R [] R R R R) fun h6 hm=>Aj<|A2 tbk [] R R<|Ap () () hm (Bm [] R ⟨R,R,R,R,congrArg some (k_next h4 h3),trivial⟩)
 exact Ah<|Ab R R (Al R)<|Ab R R (Av T_api_Label.vv R Br)<|Aa tbk [] 2 R R<|Ac<|Rt2 hm R [] R R R R

/-! trireme/labels.Get -/
def labels_Get (l : List T_api_Label) (key : ByteArray) : Option (ByteArray × Bool) :=
 (labels_at l key).bind fun r =>
 if (!r.2) = true then
  some ((⟨#[]⟩ : ByteArray), false)
 else
  (V.gl l r.1).bind fun x =>
  some (x.Val, true)
theorem K71 (l : List T_api_Label) (key : ByteArray) : VS Tryz.prog 231 (labels_Get l key) [L92 l, .str key] [] (fun r=>.tup [.str r.1, .bool r.2]) N0 := by
 refine A3 [.tmp 4,.tmp 5] Tryz.func231 R R R fun r hm=>?_
 unfold labels_Get at hm
 exact Ag tbk [] R R<|Ah<|Aa tbk [] 2 R R<|Ad R R<|Am hm 0 R fn238 R (K70 _ _) fun r hm=>Aa tbk [] 5 R R<|Ac<|Ae<|Ag tbk [] R R<|Ak hm R (fun h2 hm=>Ag tbk [] R R<|Rt2 hm R [] R R R R) fun h2 hm=>Aj<|Ah<|Aa tbk [] 2 R R<|Bd hm fun x h3 hm=>Ab R R (Az T_api_Label.vv R R el42 h3)<|Aa tbk [] 4 R R<|Ac<|Rt2 hm R [] R R R R

/-! trireme/labels.Has -/
def labels_Has.l1 (l : List T_api_Label) : List T_api_Label → Nat → Option (Out Bool Unit)
 | [], k => some (Out.go ())
 | x :: l2, k =>
  (labels_Get l x.Key).bind fun r =>
  if ((!r.2) || (!(V.seq r.1 x.Val))) = true then
   some (Out.ret false)
  else
   labels_Has.l1 l l2 (k + 1)
def labels_Has (l : List T_api_Label) (some_ : List T_api_Label) : Option Bool :=
 (labels_Has.l1 l some_ 0).bind fun o =>
 o.on fun j =>
 some true
theorem K72 (l : List T_api_Label) (some_ : List T_api_Label) : VS Tryz.prog 212 (labels_Has l some_) [L92 l, L92 some_] [] .bool N0 := by
 refine A3 [.tmp 4] Tryz.func212 R R R fun r hm=>?_
 unfold labels_Has at hm
 refine Ag tbk [] R R<|Ae<|Ah<|Ab R R (Al R)<|Ab R R (Av T_api_Label.vv R Br)<|Ab R R (Al R)<|Ac<|B7 9 R fun h3=>Bn hm (fun _ (_:Unit)=>[]) (fun _ (_:Unit)=>[]) (fun o hm h2=>?_) fun j _ hm=> ?_
 ·refine Cn (some_) (fun zl zk (zs:Unit)=>labels_Has.l1 l zl zk) (fun k _ (_:Unit)=>[(0,L92 l),(9,L92 some_),(10,Iw (some_.length : Int)),(11,Iw (k : Int))]) (fun _ _ (_:Unit)=>[]) () () hm (Af [] R R) (fun k _ _ hk hm=>?_) fun k x l2 _ _ h4 hm=> ?_
  ·rw [labels_Has.l1] at hm
   exact Ag tbk [] R R<|Ae<|B5 R (k_end hk)<|A1<|Ar () hm (Af [] R R)
  rw [labels_Has.l1] at hm
  exact Ag tbk [] R R<|Ae<|B0 R (k_lt h4)<|Aj<|Ae<|Ay<|Ah<|Ab R R (Ch T_api_Label.vv R R el42 h4)<|Ab R R (Bi R ld92 R)<|Ad R R<|A0 z92 fun b=>Ad R R<|An (i:=0) R R R ld92 R R R<|Ac<|Ah<|Aa tbk [0] 3 R R<|Ad R R<|Am hm 0 R fn231 R (K71 _ _) fun r hm=>Aa tbk [] 5 R R<|Ac<|Ah<|Aa tbk [] 3 R R<|Cp tbk [0] 5 29 24 R R R R R<|Ac<|Ak hm R (fun h8 hm=>Ag tbk [] R R<|have hm:=Lr hm h2;Rt1 hm R [] R R R) fun h8 hm=>Aj<|A2 tbk [] R R<|Ap () () hm (Bm [] R ⟨R,R,R,congrArg some (k_next h4 h3),trivial⟩)
 exact Ag tbk [] R R<|Rt1 hm R [] R R R

/-! trireme/labels.among -/
def labels_among.l1 (s : ByteArray) : List ByteArray → Nat → Option (Out Bool Unit)
 | [], k => some (Out.go ())
 | x :: l2, k =>
  if (V.seq x s) = true then
   some (Out.ret true)
  else
   labels_among.l1 s l2 (k + 1)
def labels_among (l : List ByteArray) (s : ByteArray) : Option Bool :=
 (labels_among.l1 s l 0).bind fun o =>
 o.on fun j =>
 some false
theorem K73 (l : List ByteArray) (s : ByteArray) : VS Tryz.prog 239 (labels_among l s) [L9 l, .str s] [] .bool N0 := by
 refine A3 [.tmp 4] Tryz.func239 R R R fun r hm=>?_
 unfold labels_among at hm
 refine Ag tbk [] R R<|Ae<|Ah<|Ab R R (Al R)<|Ab R R (Av VV.str R Bo)<|Ab R R (Al R)<|Ac<|B7 7 R fun h3=>Bn hm (fun _ (_:Unit)=>[]) (fun _ (_:Unit)=>[]) (fun o hm h2=>?_) fun j _ hm=> ?_
 ·refine Cn (l) (fun zl zk (zs:Unit)=>labels_among.l1 s zl zk) (fun k _ (_:Unit)=>[(1,.str s),(7,L9 l),(8,Iw (l.length : Int)),(9,Iw (k : Int))]) (fun _ _ (_:Unit)=>[]) () () hm (Af [] R R) (fun k _ _ hk hm=>?_) fun k x l2 _ _ h4 hm=> ?_
  ·rw [labels_among.l1] at hm
   exact Ag tbk [] R R<|Ae<|B5 R (k_end hk)<|A1<|Ar () hm (Af [] R R)
  rw [labels_among.l1] at hm
  exact Ag tbk [] R R<|Ae<|B0 R (k_lt h4)<|Aj<|Ae<|Ay<|Ah<|Ab R R (Ch VV.str R R el25 h4)<|Aa tbk [] 2 R R<|Ac<|Ag tbk [] R R<|Ak hm R (fun h5 hm=>Ag tbk [] R R<|have hm:=Lr hm h2;Rt1 hm R [] R R R) fun h5 hm=>Aj<|A2 tbk [] R R<|Ap () () hm (Bm [] R ⟨R,R,R,congrArg some (k_next h4 h3),trivial⟩)
 exact Ag tbk [] R R<|Rt1 hm R [] R R R

/-! trireme/quant.head -/
def quant_head.l1 (s : ByteArray) : Nat → Int → Option Int
 | 0, _ => none
 | n4 + 1, n2 =>
  (if (decide (n2 < (s.size : Int))) = true then (V.gi s n2).bind fun v =>
  some (decide (v ≥ 48)) else some false).bind fun c =>
  (if c = true then (V.gi s n2).bind fun v2 =>
  some (decide (v2 ≤ 57)) else some false).bind fun c2 =>
  if c2 = true then
   quant_head.l1 s n4 (i64.wrap (n2 + 1))
  else
   some n2
def quant_head (s : ByteArray) : Option Int :=
 (quant_head.l1 s FU (0 : Int)).bind fun n32 =>
 some n32
theorem K74 (s : ByteArray) : VS Tryz.prog 217 (quant_head s) [.str s] [] Iw N0 := by
 refine A3 [.tmp 2] Tryz.func217 R R R fun r hm=>?_
 unfold quant_head at hm
 refine Ag tbk [] R R<|Ag tbk [] R R<|Db hm (fun n32 (_:Unit)=>[(3,Iw n32)]) (fun _ (_:Unit)=>[]) (fun o hm=>?_) fun n32 _ hm=> ?_
 ·refine Bl (fun zn (zs:Int)=>quant_head.l1 s zn zs) (fun zs (_:Unit)=>[(0,.str s),(3,Iw zs)]) (fun _ (_:Unit)=>[]) _ () (fun _=>R) hm (Af [] R R) fun n4 n2 _ hm=> ?_
  rw [quant_head.l1] at hm
  exact Ae<|Ah<|Aa tbk [] 2 R R<|Ab R R (Cb R A6)<|Aa tbk [] 2 R R<|Be hm 5 13 8 R (fun _ K' h3 J hm=>Aa tbk [] 2 R R<|Bd hm fun v h4 hm=>Bg R R R R R (C0 R R A6 h4)<|Aa tbk [] 2 R R<|J 4 R R (Bj hm)) (fun _ K' h3 J hm=>Aa tbk [] 5 R R<|J 4 R R (Bj hm)) fun c hm=>Ab R R (Al R)<|Be hm 5 19 14 R (fun _ K' h6 J hm=>Aa tbk [] 2 R R<|Bd hm fun v2 h7 hm=>Bg R R R R R (C0 R R A6 h7)<|Aa tbk [] 2 R R<|J 4 R R (Bj hm)) (fun _ K' h6 J hm=>Aa tbk [] 5 R R<|J 4 R R (Bj hm)) fun c2 hm=>Ac<|Ak hm R (fun h9 hm=>Aj<|Ay<|A2 tbk [] R R<|Ap _ () hm (Af [] R R)) fun h9 hm=>A1<|As () hm (Af [] R R)
 exact Ag tbk [] R R<|Rt1 hm R [] R R R

/-! trireme/quant.value -/
def quant_value.l1 (s : ByteArray) (most : Int) : Nat → Int → Int → Option (Out (Int × Bool) Int)
 | 0, _, _ => none
 | n4 + 1, n2, v2 =>
  if (decide (v2 < (s.size : Int))) = true then
   (V.gi s v2).bind fun v3 =>
   (V.quo (i64.wrap (most - (i64.wrap (IntKind.u8.wrap (v3 - 48))))) (10 : Int)).bind fun v4 =>
   if (decide (n2 > (i64.wrap v4))) = true then
    some (Out.ret (0, false))
   else
    quant_value.l1 s most n4 (i64.wrap ((i64.wrap (10 * n2)) + (i64.wrap (IntKind.u8.wrap (v3 - 48))))) (i64.wrap (v2 + 1))
  else
   some (Out.go n2)
def quant_value (s : ByteArray) (most : Int) : Option (Int × Bool) :=
 (quant_value.l1 s most FU 0 (0 : Int)).bind fun o =>
 o.on fun n32 =>
 some (n32, true)
theorem K75 (s : ByteArray) (most : Int) : VS Tryz.prog 218 (quant_value s most) [.str s, Iw most] [] (fun r=>.tup [Iw r.1, .bool r.2]) N0 := by
 refine A3 [.tmp 4,.tmp 5] Tryz.func218 R R R fun r hm=>?_
 unfold quant_value at hm
 refine Ag tbk [] R R<|Ag tbk [] R R<|Ae<|Ah<|Ab R R (Al R)<|Ab R R (Cb R A6)<|Ab R R (Al R)<|Ac<|Bn hm (fun n32 (_:Unit)=>[(6,Iw n32)]) (fun _ (_:Unit)=>[]) (fun o hm h2=>?_) fun n32 _ hm=> ?_
 ·refine Bl (fun zn (zs:Int × Int)=>quant_value.l1 s most zn zs.1 zs.2) (fun zs (_:Unit)=>[(0,.str s),(1,Iw most),(6,Iw zs.1),(10,Iw (s.size : Int)),(11,Iw zs.2)]) (fun _ (_:Unit)=>[]) ((0 : Int),(0 : Int)) () (fun _=>R) hm (Af [] R R) fun n4=>Pq fun n2 v2 _ hm=> ?_
  rw [quant_value.l1] at hm
  exact Ag tbk [] R R<|Ae<|Ak hm R (fun h3 hm=>Aj<|Ae<|Ay<|Ag tbk [] R R<|Ah<|Aa tbk [] 2 R R<|Bd hm fun v3 h4 hm=>Ab R R (C0 R R A6 h4)<|Ab R R (A4 R R R)<|Ab R R (Cy B6 Ca R)<|Ab R R (Ai R)<|Ac<|Ae<|Ah<|Aa tbk [] 4 R R<|Bd hm fun v4 h5 hm=>Ab R R (De R R h5)<|Ab R R (A4 R R R)<|Ac<|Ak hm R (fun h6 hm=>Ag tbk [] R R<|have hm:=Lr hm h2;Rt2 hm R [] R R R R) fun h6 hm=>Aj<|A2 tbk [] R R<|A2 tbk [] R R<|Ap ((IntKind.i64.wrap ((IntKind.i64.wrap ((10 : Int) * n2)) + (IntKind.i64.wrap (IntKind.u8.wrap (v3 - (48 : Int)))))),(IntKind.i64.wrap (v2 + (1 : Int)))) () hm (Af [] R R)) fun h3 hm=>A1<|Ar () hm (Af [] R R)
 exact Ag tbk [] R R<|Rt2 hm R [] R R R R

/-! trireme/quant.Number -/
def quant_Number (s : ByteArray) : Option (Int × Int) :=
 (if (V.seq s (⟨#[]⟩ : ByteArray)) = true then some true else (quant_head s).bind fun r =>
 some (r != (s.size : Int))).bind fun c =>
 if c = true then
  some (0, 8)
 else
  (quant_value s (1125899906842624 : Int)).bind fun r2 =>
  if (!r2.2) = true then
   some (0, 10)
  else
   some (r2.1, 0)
theorem K76 (s : ByteArray) : VS Tryz.prog 199 (quant_Number s) [.str s] [] (fun r=>.tup [Iw r.1, Iw r.2]) N0 := by
 refine A3 [.tmp 2,.tmp 3] Tryz.func199 R R R fun r hm=>?_
 unfold quant_Number at hm
 exact Ag tbk [] R R<|Ae<|Ah<|Aa tbk [] 3 R R<|Be hm 6 14 8 R (fun _ K' h1 J hm=>Aa tbk [] 6 R R<|J 5 R R (Bj hm)) (fun _ K' h1 J hm=>Bg R R R R R (Al R)<|A7 R R R R R<|Am hm 0 R fn217 R (K74 _) fun r hm=>Bg R R R R R (Al R)<|Bg R R R R R (Cb R A6)<|Aa tbk [] 2 R R<|J 5 R R (Bj hm)) fun c hm=>Ac<|Ak hm R (fun h4 hm=>Ag tbk [] R R<|Rt2 hm R [] R R R R) fun h4 hm=>Aj<|Ah<|Ab R R (Al R)<|Ad R R<|Am hm 0 R fn218 R (K75 _ _) fun r2 hm=>Aa tbk [] 5 R R<|Ac<|Ae<|Ag tbk [] R R<|Ak hm R (fun h6 hm=>Ag tbk [] R R<|Rt2 hm R [] R R R R) fun h6 hm=>Aj<|Ag tbk [] R R<|Rt2 hm R [] R R R R

/-! trireme/labels.number -/
def labels_number (s : ByteArray) : Option (Int × Bool) :=
 (quant_Number s).bind fun r =>
 some (r.1, (r.2 == 0))
theorem K77 (s : ByteArray) : VS Tryz.prog 170 (labels_number s) [.str s] [] (fun r=>.tup [Iw r.1, .bool r.2]) N0 := by
 refine A3 [.tmp 2,.tmp 3] Tryz.func170 R R R fun r hm=>?_
 unfold labels_number at hm
 exact Ag tbk [] R R<|Ah<|Ab R R (Al R)<|Ad R R<|Am hm 0 R fn199 R (K76 _) fun r hm=>Aa tbk [] 5 R R<|Ac<|Ag tbk [] R R<|Rt2 hm R [] R R R R

/-! trireme/labels.Meets -/
def labels_Meets (l : List T_api_Label) (t : T_api_Term) : Option Bool :=
 (labels_Get l t.Key).bind fun r =>
 if (t.Op == 1) = true then
  (if r.2 = true then (labels_among t.Vals r.1).bind fun r2 =>
  some r2 else some false).bind fun c =>
  some c
 else
  if (t.Op == 2) = true then
   (if (!r.2) = true then some true else (labels_among t.Vals r.1).bind fun r3 =>
   some (!r3)).bind fun c2 =>
   some c2
  else
   if (t.Op == 3) = true then
    some r.2
   else
    if (t.Op == 4) = true then
     some (!r.2)
    else
     if ((!r.2) || ((t.Vals.length : Int) != 1)) = true then
      some false
     else
      (labels_number r.1).bind fun r4 =>
      (V.gl t.Vals (0 : Int)).bind fun x =>
      (labels_number x).bind fun r5 =>
      if (t.Op == 6) = true then
       some (r4.2 && (decide (r5.1 > r4.1)))
      else
       some (r4.2 && (decide (r4.1 > r5.1)))
theorem K78 (l : List T_api_Label) (t : T_api_Term) : VS Tryz.prog 232 (labels_Meets l t) [L92 l, T_api_Term.vv t] [] .bool N0 := by
 refine A3 [.tmp 4] Tryz.func232 R R R fun r hm=>?_
 unfold labels_Meets at hm
 exact Ah<|Ad R R<|Ba R R fun b=>Ab R R (Ai R)<|Ac<|Ah<|Aa tbk [0] 3 R R<|Ad R R<|Am hm 0 R fn231 R (K71 _ _) fun r hm=>Aa tbk [] 5 R R<|Ac<|Ae<|Ag tbk [0] R R<|Ay<|Ag tbk [] R R<|Ak hm R (fun h3 hm=>Ah<|Aa tbk [] 2 R R<|Be hm 5 28 23 R (fun _ K' h4 J hm=>Aa tbk [0] 3 R R<|A7 R R R R R<|Am hm 0 R fn239 R (K73 _ _) fun r2 hm=>Ab R R (Bf true R R R)<|J 4 R R (Bj hm)) (fun _ K' h4 J hm=>Aa tbk [] 5 R R<|J 4 R R (Bj hm)) fun c hm=>Ab R R (Ai R)<|Ac<|Rt1 hm R [] R R R) fun h3 hm=>Ag tbk [] R R<|Ak hm R (fun h7 hm=>Ah<|Aa tbk [] 3 R R<|Be hm 6 39 33 R (fun _ K' h8 J hm=>Aa tbk [] 6 R R<|J 5 R R (Bj hm)) (fun _ K' h8 J hm=>Aa tbk [0] 3 R R<|A7 R R R R R<|Am hm 0 R fn239 R (K73 _ _) fun r3 hm=>Aa tbk [] 2 R R<|J 5 R R (Bj hm)) fun c2 hm=>Ab R R (Ai R)<|Ac<|Rt1 hm R [] R R R) fun h7 hm=>Ag tbk [] R R<|Ak hm R (fun h11 hm=>Ag tbk [] R R<|Rt1 hm R [] R R R) fun h11 hm=>Ag tbk [] R R<|Ak hm R (fun h12 hm=>Ag tbk [] R R<|Rt1 hm R [] R R R) fun h12 hm=>Aj<|Ae<|Ah<|Aa tbk [] 3 R R<|Cz 5 54 49 R (fun K' J=>Aa tbk [] 5 R R<|J 4 R R R) (fun h13 K' J=>Aa tbk [0] 2 R R<|Bg R R R R R (Av VV.str R Bo)<|Aa tbk [] 2 R R<|J 4 R R R)<|Ac<|Ak hm R (fun h14 hm=>Ag tbk [] R R<|Rt1 hm R [] R R R) fun h14 hm=>Aj<|Ah<|Ab R R (Al R)<|Ad R R<|Am hm 0 R fn170 R (K77 _) fun r4 hm=>Aa tbk [] 5 R R<|Ac<|Ah<|Aa tbk [0] 2 R R<|Bd hm fun x h16 hm=>Ab R R (Az VV.str R R el25 h16)<|Ab R R (Bi R ld9 R)<|Ad R R<|Am hm 0 R fn170 R (K77 _) fun r5 hm=>Aa tbk [] 5 R R<|Ac<|Ae<|Ag tbk [0] R R<|Ak hm R (fun h18 hm=>A2 tbk [] R R<|Ah<|Aa tbk [] 2 R R<|Bx tbk [] 4 78 74 R R R R R<|Ab R R (Ai R)<|Ac<|Rt1 hm R [] R R R) fun h18 hm=>Aj<|Ah<|Aa tbk [] 2 R R<|Bx tbk [] 4 78 74 R R R R R<|Ab R R (Ai R)<|Ac<|Rt1 hm R [] R R R

/-! trireme/labels.All -/
def labels_All.l1 (l : List T_api_Label) : List T_api_Term → Nat → Option (Out Bool Unit)
 | [], k => some (Out.go ())
 | x :: l2, k =>
  (labels_Meets l x).bind fun r =>
  if (!r) = true then
   some (Out.ret false)
  else
   labels_All.l1 l l2 (k + 1)
def labels_All (l : List T_api_Label) (terms : List T_api_Term) : Option Bool :=
 (labels_All.l1 l terms 0).bind fun o =>
 o.on fun j =>
 some true
theorem K79 (l : List T_api_Label) (terms : List T_api_Term) : VS Tryz.prog 219 (labels_All l terms) [L92 l, L142 terms] [] .bool N0 := by
 refine A3 [.tmp 4] Tryz.func219 R R R fun r hm=>?_
 unfold labels_All at hm
 refine Ag tbk [] R R<|Ae<|Ah<|Ab R R (Al R)<|Ab R R (Av T_api_Term.vv R Cm)<|Ab R R (Al R)<|Ac<|B7 7 R fun h3=>Bn hm (fun _ (_:Unit)=>[]) (fun _ (_:Unit)=>[]) (fun o hm h2=>?_) fun j _ hm=> ?_
 ·refine Cn (terms) (fun zl zk (zs:Unit)=>labels_All.l1 l zl zk) (fun k _ (_:Unit)=>[(0,L92 l),(7,L142 terms),(8,Iw (terms.length : Int)),(9,Iw (k : Int))]) (fun _ _ (_:Unit)=>[]) () () hm (Af [] R R) (fun k _ _ hk hm=>?_) fun k x l2 _ _ h4 hm=> ?_
  ·rw [labels_All.l1] at hm
   exact Ag tbk [] R R<|Ae<|B5 R (k_end hk)<|A1<|Ar () hm (Af [] R R)
  rw [labels_All.l1] at hm
  exact Ag tbk [] R R<|Ae<|B0 R (k_lt h4)<|Aj<|Ae<|Ay<|Ah<|Ab R R (Ch T_api_Term.vv R R el43 h4)<|Ab R R (Bi R ld142 R)<|Ad R R<|A0 z142 fun b=>Ad R R<|An (i:=0) R R R ld142 R R R<|Ac<|Ah<|Aa tbk [0] 2 R R<|Ad R R<|Am hm 0 R fn232 R (K78 _ _) fun r hm=>Ab R R (Co R)<|Ac<|Ak hm R (fun h7 hm=>Ag tbk [] R R<|have hm:=Lr hm h2;Rt1 hm R [] R R R) fun h7 hm=>Aj<|A2 tbk [] R R<|Ap () () hm (Bm [] R ⟨R,R,R,congrArg some (k_next h4 h3),trivial⟩)
 exact Ag tbk [] R R<|Rt1 hm R [] R R R

/-! trireme/taints.of -/
def taints_of (x : T_api_Taint) (effect : Int) : Option Bool :=
 some ((effect == 0) || (x.Effect == effect))
theorem K80 (x : T_api_Taint) (effect : Int) : VS Tryz.prog 207 (taints_of x effect) [T_api_Taint.vv x, Iw effect] [] .bool N0 := by
 refine A3 [.tmp 4] Tryz.func207 R R R fun r hm=>?_
 unfold taints_of at hm
 exact Ah<|Ad R R<|Ba R R fun b=>Ab R R (Ai R)<|Ac<|Ah<|Aa tbk [] 3 R R<|Cp tbk [0] 5 12 7 R R R R R<|Ab R R (Ai R)<|Ac<|Rt1 hm R [] R R R

/-! trireme/taints.Bears -/
def taints_Bears (t : T_api_Toleration) (x : T_api_Taint) : Option Bool :=
 if ((t.Effect != 0) && (t.Effect != x.Effect)) = true then
  some false
 else
  if ((!(V.seq t.Key (⟨#[]⟩ : ByteArray))) && (!(V.seq t.Key x.Key))) = true then
   some false
  else
   some (t.Any || (V.seq t.Val x.Val))
theorem K81 (t : T_api_Toleration) (x : T_api_Taint) : VS Tryz.prog 228 (taints_Bears t x) [T_api_Toleration.vv t, T_api_Taint.vv x] [] .bool N0 := by
 refine A3 [.tmp 4] Tryz.func228 R R R fun r hm=>?_
 unfold taints_Bears at hm
 exact Ah<|Ad R R<|Ba R R fun b=>Ad R R<|Ba R R fun b2=>Ab R R (Ai R)<|Ac<|Ae<|Ay<|Ah<|Aa tbk [1] 4 R R<|Bx tbk [1,0] 6 15 9 R R R R R<|Ab R R (Ai R)<|Ac<|Ak hm R (fun h4 hm=>Ag tbk [] R R<|Rt1 hm R [] R R R) fun h4 hm=>Ah<|Aa tbk [1] 4 R R<|Bx tbk [1,0] 6 26 20 R R R R R<|Ab R R (Ai R)<|Ac<|Ak hm R (fun h6 hm=>Ag tbk [] R R<|Rt1 hm R [] R R R) fun h6 hm=>Aj<|Ah<|Aa tbk [1] 3 R R<|Cp tbk [1,0] 6 35 29 R R R R R<|Ab R R (Ai R)<|Ac<|Rt1 hm R [] R R R

/-! trireme/taints.borne -/
def taints_borne.l1 (x : T_api_Taint) : List T_api_Toleration → Nat → Option (Out Bool Unit)
 | [], k => some (Out.go ())
 | x2 :: l2, k =>
  (taints_Bears x2 x).bind fun r =>
  if r = true then
   some (Out.ret true)
  else
   taints_borne.l1 x l2 (k + 1)
def taints_borne (l : List T_api_Toleration) (x : T_api_Taint) : Option Bool :=
 (taints_borne.l1 x l 0).bind fun o =>
 o.on fun j =>
 some false
theorem K82 (l : List T_api_Toleration) (x : T_api_Taint) : VS Tryz.prog 208 (taints_borne l x) [L172 l, T_api_Taint.vv x] [] .bool N0 := by
 refine A3 [.tmp 4] Tryz.func208 R R R fun r hm=>?_
 unfold taints_borne at hm
 refine Ah<|Ad R R<|Ba R R fun b=>Ab R R (Ai R)<|Ac<|Ae<|Ah<|Ab R R (Al R)<|Ab R R (Av T_api_Toleration.vv R Ct)<|Ab R R (Al R)<|Ac<|B7 7 R fun h4=>Bn hm (fun _ (_:Unit)=>[]) (fun _ (_:Unit)=>[]) (fun o hm h3=>?_) fun j _ hm=> ?_
 ·refine Cn (l) (fun zl zk (zs:Unit)=>taints_borne.l1 x zl zk) (fun k _ (_:Unit)=>[(3,.ptr b 0),(7,L172 l),(8,Iw (l.length : Int)),(9,Iw (k : Int))]) (fun _ _ (_:Unit)=>[X166 b x]) () () hm (Af [0] R R) (fun k _ _ hk hm=>?_) fun k x2 l2 _ _ h5 hm=> ?_
  ·rw [taints_borne.l1] at hm
   exact Ag tbk [] R R<|Ae<|B5 R (k_end hk)<|A1<|Ar () hm (Af [] R R)
  rw [taints_borne.l1] at hm
  exact Ag tbk [] R R<|Ae<|B0 R (k_lt h5)<|Aj<|Ae<|Ay<|Ah<|Ab R R (Ch T_api_Toleration.vv R R el44 h5)<|Ab R R (Bi R ld172 R)<|Ad R R<|A0 z172 fun b2=>Ad R R<|An (i:=0) R R R ld172 R R R<|Ac<|Ah<|Aa tbk [0,1] 2 R R<|Ad R R<|Am hm 0 R fn228 R (K81 _ _) fun r hm=>Ac<|Ak hm R (fun h8 hm=>Ag tbk [] R R<|have hm:=Lr hm h3;Rt1 hm R [] R R R) fun h8 hm=>Aj<|A2 tbk [] R R<|Ap () () hm (Bm [1] R ⟨R,R,R,congrArg some (k_next h5 h4),trivial⟩)
 exact Ag tbk [] R R<|Rt1 hm R [] R R R

/-! trireme/taints.Unborne$1 -/
def taints_Unborne_1 (x : T_api_Taint) (a : Int) (a2 : List T_api_Toleration) : Option Bool :=
 (taints_of x a).bind fun r =>
 (if r = true then (taints_borne a2 x).bind fun r2 =>
 some (!r2) else some false).bind fun c =>
 some c
theorem K83 (x : T_api_Taint) (a : Int) (a2 : List T_api_Toleration) (b : Nat) (b2 : Nat) : VS Tryz.prog 206 (taints_Unborne_1 x a a2) [T_api_Taint.vv x, .ptr b 0, .ptr b2 0] [.box b 3 [Iw a], .box b2 44 [L172 a2]] .bool (fun r=>[.box b 3 [Iw a], .box b2 44 [L172 a2]]) := by
 refine A3 [.tmp 4] Tryz.func206 R R R fun r hm=>?_
 unfold taints_Unborne_1 at hm
 exact Ah<|Ad R R<|Ba R R fun b3=>Ab R R (Ai R)<|Ac<|Ah<|Aa tbk [0,1] 2 R R<|Ad R R<|Am hm 0 R fn207 R (K80 _ _) fun r hm=>Ab R R (Al R)<|Be hm 5 13 8 R (fun _ K' h3 J hm=>Aa tbk [2,0] 2 R R<|A7 R R R R R<|Am hm 0 R fn208 R (K82 _ _) fun r2 hm=>Aa tbk [] 2 R R<|J 4 R R (Bj hm)) (fun _ K' h3 J hm=>Aa tbk [] 5 R R<|J 4 R R (Bj hm)) fun c hm=>Ab R R (Ai R)<|Ac<|Rt1 hm R [1,1] R R R

/-! trireme/taints.some -/
def taints_some_taints_Unborne_1.l1 (c : Int) (c2 : List T_api_Toleration) : List T_api_Taint → Nat → (List T_api_Taint) → Option (List T_api_Taint)
 | [], k, out2 => some out2
 | x :: l2, k, out2 =>
  (taints_Unborne_1 x c c2).bind fun r =>
  if r = true then
   (V.ap 40 out2 [x]).bind fun out4 =>
   taints_some_taints_Unborne_1.l1 c c2 l2 (k + 1) out4
  else
   taints_some_taints_Unborne_1.l1 c c2 l2 (k + 1) out2
def taints_some_taints_Unborne_1 (l : List T_api_Taint) (c : Int) (c2 : List T_api_Toleration) : Option (List T_api_Taint) :=
 (taints_some_taints_Unborne_1.l1 c c2 l 0 ([] : List T_api_Taint)).bind fun out32 =>
 some out32
theorem K84 (l : List T_api_Taint) (c : Int) (c2 : List T_api_Toleration) (b : Nat) (b2 : Nat) : VS2 Tryz.prog 205 (taints_some_taints_Unborne_1 l c c2) [L166 l, .clo (.func 206) [] [.ptr b 0, .ptr b2 0]] [.box b 3 [Iw c], .box b2 44 [L172 c2]] (fun r ob0 cap0=>Z166 ob0 r cap0) (fun r ob0 cap0=>[Q166 ob0 cap0 r, .box b 3 [Iw c], .box b2 44 [L172 c2]]) := by
 refine Cl [.tmp 4] Tryz.func205 R R R fun r hm=>?_
 unfold taints_some_taints_Unborne_1 at hm
 refine Ag tbk [] R R<|Ag tbk [] R R<|Ae<|Ah<|Ab R R (Al R)<|Ab R R (Av T_api_Taint.vv R B1)<|Ab R R (Al R)<|Ac<|B7 8 R fun h5=>Bw hm (fun out32 (gg:Option Nat × Nat)=>[(5,Z166 gg.1 out32 gg.2)]) (fun out32 (gg:Option Nat × Nat)=>[Q166 gg.1 gg.2 out32,.box b 3 [Iw c],.box b2 44 [L172 c2]]) (fun o hm=>?_) fun out32=>Pq fun ob3 cap3 hm=> ?_
 ·refine Cn (l) (fun zl zk (zs:List T_api_Taint)=>taints_some_taints_Unborne_1.l1 c c2 zl zk zs) (fun k zs (zg:Option Nat × Nat)=>[(1,.clo (.func 206) [] [.ptr b 0,.ptr b2 0]),(5,Z166 zg.1 zs zg.2),(8,L166 l),(9,Iw (l.length : Int)),(10,Iw (k : Int))]) (fun _ zs (zg:Option Nat × Nat)=>[Q166 zg.1 zg.2 zs,.box b 3 [Iw c],.box b2 44 [L172 c2]]) _ (none,0) hm (Bb (Bc 166) (Af [0,0,0] R R)) (fun k out2=>Pq fun ob2 cap2 hk hm=>?_) fun k x l2 out2=>Pq fun ob2 cap2 h6 hm=> ?_
  ·rw [taints_some_taints_Unborne_1.l1] at hm
   exact Ag tbk [] R R<|Ae<|B5 R (k_end hk)<|A1<|As (ob2,cap2) hm (Af [0,0,0] R R)
  rw [taints_some_taints_Unborne_1.l1] at hm
  exact Ag tbk [] R R<|Ae<|B0 R (k_lt h6)<|Aj<|Ae<|Ay<|Ah<|Ab R R (Ch T_api_Taint.vv R R el59 h6)<|Ab R R (Bi R ld166 R)<|Ad R R<|A0 z166 fun b3=>Ad R R<|An (i:=0) R R R ld166 R R R<|Ac<|Ah<|Aa tbk [0] 2 R R<|Bh (Ci [2,2,0,0] R)<|Ad R R<|Am hm 2 R fn206 R (K83 _ _ _ _ _) fun r hm=>Ac<|Ak hm R (fun h9 hm=>Bq<|Aa tbk [2] 2 R R<|Ad R R<|A8 ap59 R R R R R fun b4=>Bd hm fun out4 h11 hm=>Ad R R<|B3 4 T_api_Taint.vv (l:=out2) (l2:=[x]) ap59 R R (sT_row 0 T_api_Taint.vv el59 R R) h11 fun ob4 cap4=>Ab R R (Ai R)<|Ac<|A2 tbk [] R R<|Ap _ (ob4,cap4) hm (Bm [4,1,1] R ⟨R,R,R,R,congrArg some (k_next h6 h5),trivial⟩)) fun h9 hm=>Aj<|A2 tbk [] R R<|Ap _ (ob2,cap2) hm (Bm [3,0,0] R ⟨R,R,R,R,congrArg some (k_next h6 h5),trivial⟩)
 exact Ag tbk [] R R<|Rg2 hm R [0,0,0] ob3 cap3 (.cons (.tmp _ _ R) .nil) R R

/-! trireme/taints.Unborne -/
def taints_Unborne (l : List T_api_Toleration) (taints : List T_api_Taint) (effect : Int) : Option (List T_api_Taint) :=
 (taints_some_taints_Unborne_1 taints effect l).bind fun r =>
 some r
theorem K85 (l : List T_api_Toleration) (taints : List T_api_Taint) (effect : Int) : VS Tryz.prog 181 (taints_Unborne l taints effect) [L172 l, L166 taints, Iw effect] [] (fun r=>L166 r) N0 := by
 refine A3 [.tmp 6] Tryz.func181 R R R fun r hm=>?_
 unfold taints_Unborne at hm
 exact Ah<|Ad R R<|Ba R R fun b=>Ad R R<|Ba R R fun b2=>Ab R R (Ai R)<|Ac<|Ah<|Ab R R (Al R)<|Ab R R (C3 R R)<|Ad R R<|Bz hm 2 R fn205 R (K84 _ _ _ _ _) fun r ob cap hm=>Bh (Aw 0 [(9,L166 r)] R ⟨⟨_,R,.here _ R⟩,trivial⟩ (FzH.refl _))<|Ab R R (Ai R)<|Ac<|Rt1 hm R [] R R R

/-! trireme/taints.Allows -/
def taints_Allows (l : List T_api_Toleration) (taints : List T_api_Taint) : Option Bool :=
 (taints_Unborne l taints (1 : Int)).bind fun r =>
 (taints_Unborne l taints (3 : Int)).bind fun r2 =>
 some ((i64.wrap ((r.length : Int) + (r2.length : Int))) == 0)
theorem K86 (l : List T_api_Toleration) (taints : List T_api_Taint) : VS Tryz.prog 220 (taints_Allows l taints) [L172 l, L166 taints] [] .bool N0 := by
 refine A3 [.tmp 4] Tryz.func220 R R R fun r hm=>?_
 unfold taints_Allows at hm
 exact Ag tbk [] R R<|Ah<|Aa tbk [] 2 R R<|Ad R R<|Am hm 0 R fn181 R (K85 _ _ _) fun r hm=>Ab R R (Av T_api_Taint.vv R B1)<|Aa tbk [] 2 R R<|Ad R R<|Am hm 0 R fn181 R (K85 _ _ _) fun r2 hm=>Ab R R (Av T_api_Taint.vv R B1)<|Aa tbk [] 3 R R<|Ac<|Rt1 hm R [] R R R

/-! trireme/suit.Place -/
def suit_Place (m : T_api_Machine) (p : T_api_Pod) : Option Int :=
 if (!m.Ready) = true then
  some 1
 else
  (labels_Has m.Labels p.Select).bind fun r =>
  if (!r) = true then
   some 4
  else
   (labels_All m.Labels p.Terms).bind fun r2 =>
   if (!r2) = true then
    some 5
   else
    (taints_Allows p.Bears m.Taints).bind fun r3 =>
    if (!r3) = true then
     some 6
    else
     some 0
theorem K87 (m : T_api_Machine) (p : T_api_Pod) : VS Tryz.prog 201 (suit_Place m p) [T_api_Machine.vv m, T_api_Pod.vv p] [] Iw N0 := by
 refine A3 [.tmp 4] Tryz.func201 R R R fun r hm=>?_
 unfold suit_Place at hm
 exact Ah<|Ad R R<|Ba R R fun b=>Ad R R<|Ba R R fun b2=>Ab R R (Ai R)<|Ac<|Ag tbk [] R R<|Ae<|Ay<|Ag tbk [1] R R<|Ak hm R (fun h3 hm=>A2 tbk [] R R<|Ag tbk [] R R<|Rt1 hm R [] R R R) fun h3 hm=>Ah<|Aa tbk [1,0] 4 R R<|Ad R R<|Am hm 0 R fn212 R (K72 _ _) fun r hm=>Aa tbk [] 2 R R<|Ac<|Ak hm R (fun h5 hm=>A2 tbk [] R R<|Ag tbk [] R R<|Rt1 hm R [] R R R) fun h5 hm=>Ah<|Aa tbk [1,0] 4 R R<|Ad R R<|Am hm 0 R fn219 R (K79 _ _) fun r2 hm=>Aa tbk [] 2 R R<|Ac<|Ak hm R (fun h7 hm=>A2 tbk [] R R<|Ag tbk [] R R<|Rt1 hm R [] R R R) fun h7 hm=>Ah<|Aa tbk [0,1] 4 R R<|Ad R R<|Am hm 0 R fn220 R (K86 _ _) fun r3 hm=>Aa tbk [] 2 R R<|Ac<|Ak hm R (fun h9 hm=>A2 tbk [] R R<|Ag tbk [] R R<|Rt1 hm R [] R R R) fun h9 hm=>Aj<|Ag tbk [] R R<|Rt1 hm R [] R R R

/-! trireme/suit.others -/
def suit_others.l1 (name : ByteArray) : List T_api_Bound → Nat → (List T_api_Bound) → Option (List T_api_Bound)
 | [], k, l2 => some l2
 | x :: l4, k, l2 =>
  if (!(V.seq x.Pod.Name name)) = true then
   (V.ap 288 l2 [x]).bind fun l5 =>
   suit_others.l1 name l4 (k + 1) l5
  else
   suit_others.l1 name l4 (k + 1) l2
def suit_others (bs : List T_api_Bound) (name : ByteArray) : Option (List T_api_Bound) :=
 (suit_others.l1 name bs 0 ([] : List T_api_Bound)).bind fun l32 =>
 some l32
theorem K88 (bs : List T_api_Bound) (name : ByteArray) : VS2 Tryz.prog 221 (suit_others bs name) [L49 bs, .str name] [] (fun r ob0 cap0=>Z49 ob0 r cap0) (fun r ob0 cap0=>[Q49 ob0 cap0 r]) := by
 refine Cl [.tmp 4] Tryz.func221 R R R fun r hm=>?_
 unfold suit_others at hm
 refine Ag tbk [] R R<|Ag tbk [] R R<|Ae<|Ah<|Ab R R (Al R)<|Ab R R (Av T_api_Bound.vv R Bk)<|Ab R R (Al R)<|Ac<|B7 8 R fun h5=>Bw hm (fun l32 (gg:Option Nat × Nat)=>[(5,Z49 gg.1 l32 gg.2)]) (fun l32 (gg:Option Nat × Nat)=>[Q49 gg.1 gg.2 l32]) (fun o hm=>?_) fun l32=>Pq fun ob3 cap3 hm=> ?_
 ·refine Cn (bs) (fun zl zk (zs:List T_api_Bound)=>suit_others.l1 name zl zk zs) (fun k zs (zg:Option Nat × Nat)=>[(1,.str name),(5,Z49 zg.1 zs zg.2),(8,L49 bs),(9,Iw (bs.length : Int)),(10,Iw (k : Int))]) (fun _ zs (zg:Option Nat × Nat)=>[Q49 zg.1 zg.2 zs]) _ (none,0) hm (Bb (Bc 49) (Af [0] R R)) (fun k l2=>Pq fun ob2 cap2 hk hm=>?_) fun k x l4 l2=>Pq fun ob2 cap2 h6 hm=> ?_
  ·rw [suit_others.l1] at hm
   exact Ag tbk [] R R<|Ae<|B5 R (k_end hk)<|A1<|As (ob2,cap2) hm (Af [0] R R)
  rw [suit_others.l1] at hm
  exact Ag tbk [] R R<|Ae<|B0 R (k_lt h6)<|Aj<|Ae<|Ay<|Ah<|Ab R R (Ch T_api_Bound.vv R R el23 h6)<|Ab R R (Bi R ld49 R)<|Ad R R<|A0 z49 fun b=>Ad R R<|An (i:=0) R R R ld49 R R R<|Ac<|Ag tbk [0] R R<|Ak hm R (fun h8 hm=>Bq<|Aa tbk [0] 2 R R<|Ad R R<|A8 ap23 R R R R R fun b2=>Bd hm fun l5 h10 hm=>Ad R R<|B3 2 T_api_Bound.vv (l:=l2) (l2:=[x]) ap23 R R (sT_row 0 T_api_Bound.vv el23 R R) h10 fun ob4 cap4=>Ab R R (Ai R)<|Ac<|A2 tbk [] R R<|Ap _ (ob4,cap4) hm (Bm [2] R ⟨R,R,R,R,congrArg some (k_next h6 h5),trivial⟩)) fun h8 hm=>Aj<|A2 tbk [] R R<|Ap _ (ob2,cap2) hm (Bm [1] R ⟨R,R,R,R,congrArg some (k_next h6 h5),trivial⟩)
 exact Ag tbk [] R R<|Rg2 hm R [0] ob3 cap3 (.cons (.tmp _ _ R) .nil) R R

/-! trireme/res.row -/
def res_row (a : T_api_Res) : Option Arr5_Int :=
 some (⟨a.Cpu, a.Mem, a.Disk, a.Pods, a.Dev⟩ : Arr5_Int)
theorem K89 (a : T_api_Res) : VS Tryz.prog 174 (res_row a) [T_api_Res.vv a] [] (fun r=>Arr5_Int.vv r) N0 := by
 refine A3 [.cell 2 183] Tryz.func174 R R R fun r hm=>?_
 unfold res_row at hm
 exact Ah<|Ad R R<|Ba R R fun b=>Ad R R<|A0 z183 fun b2=>Ac<|Ah<|Aa tbk [1,1,1,1,1] 10 R R<|Ab R R (Bt pl183 R R)<|Ad R R<|An (i:=0) R R R ld183 R R R<|Ac<|Rt0 hm R [] (.cons (.cell _ _ _ _ 0 _ _ _ _ R R ld183 R) .nil) R R

/-! trireme/res.Right -/
def res_Right.l1 (r : Arr5_Int) : Nat → Int → Option (Out Bool Unit)
 | 0, _ => none
 | n + 1, v2 =>
  if (decide (v2 < 5)) = true then
   (V.gl (Arr5_Int.l r) v2).bind fun x =>
   if ((decide (x < 0)) || (decide (x > 1125899906842624))) = true then
    some (Out.ret false)
   else
    res_Right.l1 r n (i64.wrap (v2 + 1))
  else
   some (Out.go ())
def res_Right (a : T_api_Res) : Option Bool :=
 (res_row a).bind fun r =>
 (res_Right.l1 r FU (0 : Int)).bind fun o =>
 o.on fun j =>
 some true
theorem K90 (a : T_api_Res) : VS Tryz.prog 130 (res_Right a) [T_api_Res.vv a] [] .bool N0 := by
 refine A3 [.tmp 2] Tryz.func130 R R R fun r hm=>?_
 unfold res_Right at hm
 refine Ah<|Ad R R<|Ba R R fun b=>Ab R R (Ai R)<|Ac<|Ae<|Ah<|Aa tbk [0] 1 R R<|Ad R R<|Am hm 0 R fn174 R (K89 _) fun r hm=>Ab R R (Al R)<|Ac<|Bn hm (fun _ (_:Unit)=>[]) (fun _ (_:Unit)=>[]) (fun o hm h4=>?_) fun j _ hm=> ?_
 ·refine Bl (fun zn (zs:Int)=>res_Right.l1 r zn zs) (fun zs (_:Unit)=>[(6,Arr5_Int.vv r),(7,Iw zs)]) (fun _ (_:Unit)=>[]) _ () (fun _=>R) hm (Af [] R R) fun n v2 _ hm=> ?_
  rw [res_Right.l1] at hm
  exact Ag tbk [] R R<|Ae<|Ak hm R (fun h5 hm=>Aj<|Ae<|Ay<|Ah<|Bd hm fun x h6 hm=>Ab R R (VP.indexG (f:=(VV.int .i64)) R R ar183 R ld3 h6)<|Ab R R (Ai R)<|Ac<|Ah<|Aa tbk [] 3 R R<|Cp tbk [] 3 15 12 R R R R R<|Ac<|Ak hm R (fun h8 hm=>Ag tbk [] R R<|have hm:=Lr hm h4;Rt1 hm R [] R R R) fun h8 hm=>Aj<|A2 tbk [] R R<|Ap _ () hm (Af [] R R)) fun h5 hm=>A1<|Ar () hm (Af [] R R)
 exact Ag tbk [] R R<|Rt1 hm R [] R R R

/-! trireme/yard.Used$1 -/
def yard_Used_1 (i : Int) (a : List T_api_Pod) : Option Bool :=
 (V.gl a i).bind fun x =>
 (res_Right x.Need).bind fun r =>
 some (!r)
theorem K91 (i : Int) (a : List T_api_Pod) (b : Nat) : VS Tryz.prog 182 (yard_Used_1 i a) [Iw i, .ptr b 0] [.box b 55 [L47 a]] .bool (fun r=>[.box b 55 [L47 a]]) := by
 refine A3 [.tmp 3] Tryz.func182 R R R fun r hm=>?_
 unfold yard_Used_1 at hm
 exact Ag tbk [] R R<|Ah<|Aa tbk [0] 2 R R<|Bd hm fun x h1 hm=>Ab R R (Az T_api_Pod.vv R R el55 h1)<|Aa tbk [] 2 R R<|Ad R R<|Am hm 0 R fn130 R (K90 _) fun r hm=>Aa tbk [] 2 R R<|Ac<|Rt1 hm R [0] R R R

/-! trireme/yard.first -/
def yard_first_yard_Used_1.l1 (n : Int) (c : List T_api_Pod) : Nat → Int → Option (Out Int Unit)
 | 0, _ => none
 | n2 + 1, v2 =>
  if (decide (v2 < n)) = true then
   (yard_Used_1 v2 c).bind fun r =>
   if r = true then
    some (Out.ret v2)
   else
    yard_first_yard_Used_1.l1 n c n2 (i64.wrap (v2 + 1))
  else
   some (Out.go ())
def yard_first_yard_Used_1 (n : Int) (c : List T_api_Pod) : Option Int :=
 (yard_first_yard_Used_1.l1 n c FU (0 : Int)).bind fun o =>
 o.on fun j =>
 some (-1)
theorem K92 (n : Int) (c : List T_api_Pod) (b : Nat) : VS Tryz.prog 96 (yard_first_yard_Used_1 n c) [Iw n, .clo (.func 182) [] [.ptr b 0]] [.box b 55 [L47 c]] Iw (fun r=>[.box b 55 [L47 c]]) := by
 refine A3 [.tmp 4] Dj R R R fun r hm=>?_
 unfold yard_first_yard_Used_1 at hm
 refine Ag tbk [] R R<|Ae<|Ag tbk [] R R<|Bn hm (fun _ (_:Unit)=>[]) (fun _ (_:Unit)=>[.box b 55 [L47 c]]) (fun o hm h2=>?_) fun j _ hm=> ?_
 ·refine Bl (fun zn (zs:Int)=>yard_first_yard_Used_1.l1 n c zn zs) (fun zs (_:Unit)=>[(1,.clo (.func 182) [] [.ptr b 0]),(6,Iw n),(7,Iw zs)]) (fun _ (_:Unit)=>[.box b 55 [L47 c]]) _ () (fun _=>R) hm (Af [0] R R) fun n2 v2 _ hm=> ?_
  rw [yard_first_yard_Used_1.l1] at hm
  exact Ag tbk [] R R<|Ae<|Ak hm R (fun h3 hm=>Aj<|Ae<|Ay<|Ag tbk [] R R<|Ah<|Aa tbk [] 2 R R<|Ad R R<|Am hm 1 R fn182 R (K91 _ _ _) fun r hm=>Ac<|Ak hm R (fun h5 hm=>Ag tbk [] R R<|have hm:=Lr hm h2;Rt1 hm R [0] R R R) fun h5 hm=>Aj<|A2 tbk [] R R<|Ap _ () hm (Af [0] R R)) fun h3 hm=>A1<|Ar () hm (Af [0] R R)
 exact Ag tbk [] R R<|Rt1 hm R [0] R R R

/-! trireme/res.Add$1 -/
def res_Add_1 (x : Int) (y : Int) : Option Int :=
 some (i64.wrap (x + y))
theorem K93 (x : Int) (y : Int) : VS Tryz.prog 210 (res_Add_1 x y) [Iw x, Iw y] [] Iw N0 := by
 refine A3 [.tmp 4] Tryz.func210 R R R fun r hm=>?_
 unfold res_Add_1 at hm
 exact Ag tbk [] R R<|Ag tbk [] R R<|Rt1 hm R [] R R R

/-! trireme/res.back -/
def res_back (l : Arr5_Int) : Option T_api_Res :=
 some (⟨l.x0, l.x1, l.x2, l.x3, l.x4⟩ : T_api_Res)
theorem K94 (l : Arr5_Int) : VS Tryz.prog 229 (res_back l) [Arr5_Int.vv l] [] (fun r=>T_api_Res.vv r) N0 := by
 refine A3 [.cell 2 41] Tryz.func229 R R R fun r hm=>?_
 unfold res_back at hm
 exact Ah<|Ad R R<|Ba R R fun b=>Ad R R<|A0 z41 fun b2=>Ac<|Ah<|Ab R R (Cq R R ar183 (by decide) (by decide))<|Aa tbk [1] 1 R R<|Ab R R (Cq R R ar183 (by decide) (by decide))<|Aa tbk [1] 1 R R<|Ab R R (Cq R R ar183 (by decide) (by decide))<|Aa tbk [1] 1 R R<|Ab R R (Cq R R ar183 (by decide) (by decide))<|Aa tbk [1] 1 R R<|Ab R R (Cq R R ar183 (by decide) (by decide))<|Aa tbk [1] 1 R R<|Ab R R (Bt pl41 R R)<|Ad R R<|An (i:=0) R R R ld41 R R R<|Ac<|Rt0 hm R [] (.cons (.cell _ _ _ _ 0 _ _ _ _ R R ld41 R) .nil) R R

/-! trireme/res.each -/
def res_each_res_Add_1.l1 (j : Arr5_Int × Arr5_Int) : Nat → Arr5_Int → Int → Option Arr5_Int
 | 0, _, _ => none
 | n + 1, l3, v2 =>
  if (decide (v2 < 5)) = true then
   (V.gl (Arr5_Int.l l3) v2).bind fun x =>
   (V.gl (Arr5_Int.l j.2) v2).bind fun x2 =>
   (res_Add_1 x x2).bind fun r19 =>
   (V.gl (Arr5_Int.l l3) v2).bind fun x3 =>
   (Arr5_Int.put l3 v2 r19).bind fun l6 =>
   res_each_res_Add_1.l1 j n l6 (i64.wrap (v2 + 1))
  else
   some l3
def res_each_res_Add_1 (a : T_api_Res) (b : T_api_Res) (wrong : Int) : Option (T_api_Res × Int) :=
 (res_Right a).bind fun r =>
 (if (!r) = true then some true else (res_Right b).bind fun r2 =>
 some (!r2)).bind fun c =>
 if c = true then
  some ((⟨0, 0, 0, 0, 0⟩ : T_api_Res), 1)
 else
  ((res_row a).bind fun r3 =>
  (res_row b).bind fun r4 =>
  some (r3, r4)).bind fun j =>
  (res_each_res_Add_1.l1 j FU j.1 (0 : Int)).bind fun l42 =>
  (res_back l42).bind fun r20 =>
  (res_Right r20).bind fun r21 =>
  if r21 = true then
   some (r20, 0)
  else
   some ((⟨0, 0, 0, 0, 0⟩ : T_api_Res), wrong)
theorem K95 (a : T_api_Res) (b : T_api_Res) (wrong : Int) : VS Tryz.prog 209 (res_each_res_Add_1 a b wrong) [T_api_Res.vv a, T_api_Res.vv b, .clo (.func 210) [] [], Iw wrong] [] (fun r=>.tup [T_api_Res.vv r.1, Iw r.2]) N0 := by
 refine A3 [.cell 8 41,.tmp 9] Dg R R R fun r hm=>?_
 unfold res_each_res_Add_1 at hm
 refine Ah<|Ad R R<|Ba R R fun b2=>Ad R R<|Ba R R fun b3=>Ad R R<|A0 z41 fun b4=>Ab R R (Ai R)<|Ac<|Ae<|Ah<|Aa tbk [2] 1 R R<|Ad R R<|Am hm 0 R fn130 R (K90 _) fun r hm=>Aa tbk [] 2 R R<|Be hm 4 21 17 R (fun _ K' h5 J hm=>Aa tbk [] 4 R R<|J 3 R R (Bj hm)) (fun _ K' h5 J hm=>Aa tbk [1] 1 R R<|A7 R R R R R<|Am hm 0 R fn130 R (K90 _) fun r2 hm=>Aa tbk [] 2 R R<|J 3 R R (Bj hm)) fun c hm=>Ac<|Ak hm R (fun h8 hm=>Ah<|Ab R R (Bt pl41 R R)<|Ad R R<|An (i:=0) R R R ld41 R R R<|Ab R R (Ai R)<|Ac<|Rt0 hm R [] (.cons (.cell _ _ _ _ 0 _ _ _ _ R R ld41 R) (.cons (.tmp _ _ R) .nil)) R R) fun h8 hm=>Aj<|Db hm (fun _ (gg:Nat × Nat)=>[(2,.clo (.func 210) [] []),(3,Iw wrong),(8,.ptr b4 0),(10,.ptr gg.1 0),(11,.ptr gg.2 0)]) (fun j (gg:Nat × Nat)=>[X183 gg.2 j.2,X183 gg.1 j.1,X41 b4 (⟨(0 : Int),(0 : Int),(0 : Int),(0 : Int),(0 : Int)⟩ : T_api_Res)]) (fun o hm=>?_) fun j=>Pq fun b5 b6 hm=> ?_
 ·refine A9 0 mixed<|Aq tbk [0,2] [2,1] (by kernel_rfl) R R R<|?_
  refine B4 [1,4,5] (by kernel_rfl) ⟨?_,?_,?_,trivial⟩
  ·refine Au R R R<|Am hm 0 R fn174 R (K89 _) fun r3 hm=> ?_
   refine B4 [3,4,5] (by kernel_rfl) ⟨?_,?_,?_,trivial⟩
   ·refine Au R R R<|Am hm 0 R fn174 R (K89 _) fun r4 hm=> ?_
    refine B4 [4,5] (by kernel_rfl) ⟨?_,?_,trivial⟩
    ·exact Au R R R<|A0 z183 fun b7=>Ao 5 (by kernel_rfl)<|Au R R R<|A0 z183 fun b8=>Ao 6 (by kernel_rfl)<|Au R R R<|An (i:=1) R R R ld183 R R R<|Ao 7 (by kernel_rfl)<|Au R R R<|An (i:=0) R R R ld183 R R R<|A5 (by kernel_rfl)<|As (b7,b8) hm (Af [0,0,0] R R)
    ·exact Au R R R<|A0 z183 fun b9=>Ao 4 (by kernel_rfl)<|Au R R R<|A0 z183 fun b10=>Ao 6 (by kernel_rfl)<|Au R R R<|An (i:=0) R R R ld183 R R R<|Ao 7 (by kernel_rfl)<|Au R R R<|An (i:=1) R R R ld183 R R R<|A5 (by kernel_rfl)<|As (b10,b9) hm (Af [1,0,0] R R)
   ·refine Au R R R<|A0 z183 fun b11=> ?_
    refine B4 [3,5] (by kernel_rfl) ⟨?_,?_,trivial⟩
    ·exact Au R R R<|Am hm 0 R fn174 R (K89 _) fun r5 hm=>Ao 5 (by kernel_rfl)<|Au R R R<|A0 z183 fun b12=>Ao 6 (by kernel_rfl)<|Au R R R<|An (i:=1) R R R ld183 R R R<|Ao 7 (by kernel_rfl)<|Au R R R<|An (i:=0) R R R ld183 R R R<|A5 (by kernel_rfl)<|As (b11,b12) hm (Af [0,0,0] R R)
    ·exact Au R R R<|A0 z183 fun b13=>Ao 3 (by kernel_rfl)<|Au R R R<|Am hm 0 R fn174 R (K89 _) fun r6 hm=>Ao 6 (by kernel_rfl)<|Au R R R<|An (i:=1) R R R ld183 R R R<|Ao 7 (by kernel_rfl)<|Au R R R<|An (i:=0) R R R ld183 R R R<|A5 (by kernel_rfl)<|As (b11,b13) hm (Af [0,0,0] R R)
   ·refine Au R R R<|A0 z183 fun b14=> ?_
    refine B4 [3,4] (by kernel_rfl) ⟨?_,?_,trivial⟩
    ·exact Au R R R<|Am hm 0 R fn174 R (K89 _) fun r7 hm=>Ao 4 (by kernel_rfl)<|Au R R R<|A0 z183 fun b15=>Ao 6 (by kernel_rfl)<|Au R R R<|An (i:=0) R R R ld183 R R R<|Ao 7 (by kernel_rfl)<|Au R R R<|An (i:=1) R R R ld183 R R R<|A5 (by kernel_rfl)<|As (b15,b14) hm (Af [1,0,0] R R)
    ·exact Au R R R<|A0 z183 fun b16=>Ao 3 (by kernel_rfl)<|Au R R R<|Am hm 0 R fn174 R (K89 _) fun r8 hm=>Ao 6 (by kernel_rfl)<|Au R R R<|An (i:=0) R R R ld183 R R R<|Ao 7 (by kernel_rfl)<|Au R R R<|An (i:=1) R R R ld183 R R R<|A5 (by kernel_rfl)<|As (b16,b14) hm (Af [1,0,0] R R)
  ·refine Au R R R<|A0 z183 fun b17=> ?_
   refine B4 [1,5] (by kernel_rfl) ⟨?_,?_,trivial⟩
   ·refine Au R R R<|Am hm 0 R fn174 R (K89 _) fun r9 hm=> ?_
    refine B4 [3,5] (by kernel_rfl) ⟨?_,?_,trivial⟩
    ·exact Au R R R<|Am hm 0 R fn174 R (K89 _) fun r10 hm=>Ao 5 (by kernel_rfl)<|Au R R R<|A0 z183 fun b18=>Ao 6 (by kernel_rfl)<|Au R R R<|An (i:=1) R R R ld183 R R R<|Ao 7 (by kernel_rfl)<|Au R R R<|An (i:=0) R R R ld183 R R R<|A5 (by kernel_rfl)<|As (b17,b18) hm (Af [0,0,0] R R)
    ·exact Au R R R<|A0 z183 fun b19=>Ao 3 (by kernel_rfl)<|Au R R R<|Am hm 0 R fn174 R (K89 _) fun r11 hm=>Ao 6 (by kernel_rfl)<|Au R R R<|An (i:=1) R R R ld183 R R R<|Ao 7 (by kernel_rfl)<|Au R R R<|An (i:=0) R R R ld183 R R R<|A5 (by kernel_rfl)<|As (b17,b19) hm (Af [0,0,0] R R)
   ·exact Au R R R<|A0 z183 fun b20=>Ao 1 (by kernel_rfl)<|Au R R R<|Am hm 0 R fn174 R (K89 _) fun r12 hm=>Ao 3 (by kernel_rfl)<|Au R R R<|Am hm 0 R fn174 R (K89 _) fun r13 hm=>Ao 6 (by kernel_rfl)<|Au R R R<|An (i:=1) R R R ld183 R R R<|Ao 7 (by kernel_rfl)<|Au R R R<|An (i:=0) R R R ld183 R R R<|A5 (by kernel_rfl)<|As (b17,b20) hm (Af [0,0,0] R R)
  ·refine Au R R R<|A0 z183 fun b21=> ?_
   refine B4 [1,4] (by kernel_rfl) ⟨?_,?_,trivial⟩
   ·refine Au R R R<|Am hm 0 R fn174 R (K89 _) fun r14 hm=> ?_
    refine B4 [3,4] (by kernel_rfl) ⟨?_,?_,trivial⟩
    ·exact Au R R R<|Am hm 0 R fn174 R (K89 _) fun r15 hm=>Ao 4 (by kernel_rfl)<|Au R R R<|A0 z183 fun b22=>Ao 6 (by kernel_rfl)<|Au R R R<|An (i:=0) R R R ld183 R R R<|Ao 7 (by kernel_rfl)<|Au R R R<|An (i:=1) R R R ld183 R R R<|A5 (by kernel_rfl)<|As (b22,b21) hm (Af [1,0,0] R R)
    ·exact Au R R R<|A0 z183 fun b23=>Ao 3 (by kernel_rfl)<|Au R R R<|Am hm 0 R fn174 R (K89 _) fun r16 hm=>Ao 6 (by kernel_rfl)<|Au R R R<|An (i:=0) R R R ld183 R R R<|Ao 7 (by kernel_rfl)<|Au R R R<|An (i:=1) R R R ld183 R R R<|A5 (by kernel_rfl)<|As (b23,b21) hm (Af [1,0,0] R R)
   ·exact Au R R R<|A0 z183 fun b24=>Ao 1 (by kernel_rfl)<|Au R R R<|Am hm 0 R fn174 R (K89 _) fun r17 hm=>Ao 3 (by kernel_rfl)<|Au R R R<|Am hm 0 R fn174 R (K89 _) fun r18 hm=>Ao 6 (by kernel_rfl)<|Au R R R<|An (i:=0) R R R ld183 R R R<|Ao 7 (by kernel_rfl)<|Au R R R<|An (i:=1) R R R ld183 R R R<|A5 (by kernel_rfl)<|As (b24,b21) hm (Af [1,0,0] R R)
 refine Ae<|Ag tbk [] R R<|Bw hm (fun _ (_:Unit)=>[(3,Iw wrong),(8,.ptr b4 0),(10,.ptr b5 0)]) (fun l42 (_:Unit)=>[X183 b5 l42,X41 b4 (⟨(0 : Int),(0 : Int),(0 : Int),(0 : Int),(0 : Int)⟩ : T_api_Res)]) (fun o2 hm=>?_) fun l42 _ hm=> ?_
 ·refine Bl (fun zn (zs:Arr5_Int × Int)=>res_each_res_Add_1.l1 j zn zs.1 zs.2) (fun zs (_:Unit)=>[(2,.clo (.func 210) [] []),(3,Iw wrong),(8,.ptr b4 0),(10,.ptr b5 0),(11,.ptr b6 0),(27,Iw zs.2)]) (fun zs (_:Unit)=>[X183 b6 j.2,X183 b5 zs.1,X41 b4 (⟨(0 : Int),(0 : Int),(0 : Int),(0 : Int),(0 : Int)⟩ : T_api_Res)]) (j.1,(0 : Int)) () (fun _=>R) hm (Af [0,0,0] R R) fun n=>Pq fun l3 v2 _ hm=> ?_
  rw [res_each_res_Add_1.l1] at hm
  exact Ag tbk [] R R<|Ae<|Ak hm R (fun h49 hm=>Aj<|Ae<|Ay<|Ag tbk [] R R<|B8 (Ci [1,0,0] R)<|A9 1 mixed<|Aq tbk [0,1,2] [] (by kernel_rfl) R R R<|Bd hm fun x h50 hm=>Ax 3 R R R (by kernel_rfl) (Cq R R ar183 (gl_pos2 h50).1 (gl_pos2 h50).2)<|Ax 5 R R R (by kernel_rfl) (Al R)<|Bd hm fun x2 h51 hm=>Ax 6 R R R (by kernel_rfl) (Cq R R ar183 (gl_pos2 h51).1 (gl_pos2 h51).2)<|Ax 7 R R R (by kernel_rfl) (Dd 0 (f:=(VV.int .i64)) (l:=Arr5_Int.l j.2) R R ld3 R h51)<|Ao 4 (by kernel_rfl)<|Au R R R<|Da (Dd 0 (f:=(VV.int .i64)) (l:=Arr5_Int.l l3) R R ld3 R h50)<|Ao 8 (by kernel_rfl)<|Au R R R<|Am hm 0 R fn210 R (K93 _ _) fun r19 hm=>Bd hm fun x3 h53 hm=>Ax 9 R R R (by kernel_rfl) (Cq R R ar183 (gl_pos2 h53).1 (gl_pos2 h53).2)<|Ao 10 (by kernel_rfl)<|Bd hm fun l6 h54 hm=>Au R R R<|VO.storeA 0 (f:=(VV.int .i64)) (l:=Arr5_Int.l l3) R R R ld3 R R (Arr5_Int.put_some h54)<|A5 (by kernel_rfl)<|A2 tbk [] R R<|Ap (l6,(IntKind.i64.wrap (v2 + (1 : Int)))) () hm (Af [1,0,0] R R)) fun h49 hm=>A1<|As () hm (Af [1,1] R R)
 exact Ae<|Ah<|Aa tbk [0] 1 R R<|Ad R R<|Am hm 0 R fn229 R (K94 _) fun r20 hm=>Ad R R<|A0 z41 fun b25=>Ad R R<|An (i:=0) R R R ld41 R R R<|Ac<|Ah<|Aa tbk [0] 1 R R<|Ad R R<|Am hm 0 R fn130 R (K90 _) fun r21 hm=>Ac<|Ak hm R (fun h58 hm=>Ah<|Aa tbk [0] 1 R R<|Ad R R<|An (i:=2) R R R ld41 R R R<|Ab R R (Ai R)<|Ac<|Rt0 hm R [] (.cons (.cell _ _ _ _ 2 _ _ _ _ R R ld41 R) (.cons (.tmp _ _ R) .nil)) R R) fun h58 hm=>Aj<|Ah<|Ab R R (Bt pl41 R R)<|Ab R R (Al R)<|Ad R R<|An (i:=2) R R R ld41 R R R<|Ab R R (Ai R)<|Ac<|Rt0 hm R [] (.cons (.cell _ _ _ _ 2 _ _ _ _ R R ld41 R) (.cons (.tmp _ _ R) .nil)) R R

/-! trireme/res.Add -/
def res_Add (a : T_api_Res) (b : T_api_Res) : Option (T_api_Res × Int) :=
 (res_each_res_Add_1 a b (10 : Int)).bind fun r =>
 some (r.1, r.2)
theorem K96 (a : T_api_Res) (b : T_api_Res) : VS Tryz.prog 183 (res_Add a b) [T_api_Res.vv a, T_api_Res.vv b] [] (fun r=>.tup [T_api_Res.vv r.1, Iw r.2]) N0 := by
 refine A3 [.cell 4 41,.tmp 5] Tryz.func183 R R R fun r hm=>?_
 unfold res_Add at hm
 exact Ah<|Ad R R<|Ba R R fun b2=>Ad R R<|Ba R R fun b3=>Ad R R<|A0 z41 fun b4=>Ab R R (Ai R)<|Ac<|Ah<|Aa tbk [2,1] 2 R R<|Ad R R<|Am hm 0 R fn209 R (K95 _ _ _) fun r hm=>Aa tbk [] 2 R R<|Ad R R<|An (i:=0) R R R ld41 R R R<|Ab R R (Ai R)<|Ac<|Rt0 hm R [] (.cons (.cell _ _ _ _ 0 _ _ _ _ R R ld41 R) (.cons (.tmp _ _ R) .nil)) R R

/-! trireme/yard.Used -/
def yard_Used.l1 : List T_api_Pod → Nat → T_api_Res → Option (Out (T_api_Res × Int) T_api_Res)
 | [], k, sum2 => some (Out.go sum2)
 | x :: l, k, sum2 =>
  (res_Add sum2 x.Need).bind fun r3 =>
  if (r3.2 != 0) = true then
   some (Out.ret ((⟨0, 0, 0, 0, 0⟩ : T_api_Res), r3.2))
  else
   yard_Used.l1 l (k + 1) r3.1
def yard_Used (bs : List T_api_Bound) (name : ByteArray) : Option (T_api_Res × Int) :=
 (yard_On bs name).bind fun r =>
 (yard_first_yard_Used_1 (r.length : Int) r).bind fun r2 =>
 if (r2 != (-1)) = true then
  some ((⟨0, 0, 0, 0, 0⟩ : T_api_Res), 12)
 else
  (yard_Used.l1 r 0 (⟨0, 0, 0, 0, 0⟩ : T_api_Res)).bind fun o =>
  o.on fun sum32 =>
  some (sum32, 0)
theorem K97 (bs : List T_api_Bound) (name : ByteArray) : VS Tryz.prog 143 (yard_Used bs name) [L49 bs, .str name] [] (fun r=>.tup [T_api_Res.vv r.1, Iw r.2]) N0 := by
 refine A3 [.cell 4 41,.tmp 5] Tryz.func143 R R R fun r hm=>?_
 unfold yard_Used at hm
 refine Ah<|Ad R R<|A0 z41 fun b=>Ab R R (Ai R)<|Ac<|Ah<|Aa tbk [] 2 R R<|Ad R R<|Bz hm 0 R fn85 R (K68 _ _) fun r ob cap hm=>Bh (Aw 0 [(14,L47 r)] R ⟨⟨_,R,.here _ R⟩,trivial⟩ (FzH.refl _))<|Ad R R<|A0 z55 fun b2=>Ad R R<|An (i:=0) R R R ld55 R R R<|Ac<|Ae<|Ah<|Aa tbk [0] 1 R R<|Ab R R (Av T_api_Pod.vv R Bv)<|Ab R R (C3 R R)<|Ad R R<|Am hm 1 R fn96 R (K92 _ _ _) fun r2 hm=>Ab R R (A4 R R R)<|Ac<|Ak hm R (fun h6 hm=>Ah<|Ab R R (Bt pl41 R R)<|Ad R R<|An (i:=1) R R R ld41 R R R<|Ab R R (Ai R)<|Ac<|Rt0 hm R [] (.cons (.cell _ _ _ _ 1 _ _ _ _ R R ld41 R) (.cons (.tmp _ _ R) .nil)) R R) fun h6 hm=>Aj<|Ah<|Ab R R (Bt pl41 R R)<|Ad R R<|A0 z41 fun b3=>Ad R R<|An (i:=0) R R R ld41 R R R<|Ac<|Ae<|Ah<|Aa tbk [1] 1 R R<|Ab R R (Av T_api_Pod.vv R Bv)<|Ab R R (Al R)<|Ac<|B7 22 R fun h10=>Bn hm (fun _ (_:Unit)=>[(4,.ptr b 0),(7,.ptr b3 0)]) (fun sum32 (_:Unit)=>[X41 b3 sum32,X41 b (⟨(0 : Int),(0 : Int),(0 : Int),(0 : Int),(0 : Int)⟩ : T_api_Res)]) (fun o hm h9=>?_) fun sum32 _ hm=> ?_
 ·refine Cn (r) (fun zl zk (zs:T_api_Res)=>yard_Used.l1 zl zk zs) (fun k _ (_:Unit)=>[(4,.ptr b 0),(7,.ptr b3 0),(22,L47 r),(23,Iw (r.length : Int)),(24,Iw (k : Int))]) (fun _ zs (_:Unit)=>[X41 b3 zs,X41 b (⟨(0 : Int),(0 : Int),(0 : Int),(0 : Int),(0 : Int)⟩ : T_api_Res)]) _ () hm (Af [0,1] R R) (fun k sum2 _ hk hm=>?_) fun k x l sum2 _ h11 hm=> ?_
  ·rw [yard_Used.l1] at hm
   exact Ag tbk [] R R<|Ae<|B5 R (k_end hk)<|A1<|Ar () hm (Af [0,0] R R)
  rw [yard_Used.l1] at hm
  exact Ag tbk [] R R<|Ae<|B0 R (k_lt h11)<|Aj<|Ae<|Ay<|Ah<|Ab R R (Ch T_api_Pod.vv R R el55 h11)<|Ab R R (Bi R ld47 R)<|Ad R R<|A0 z47 fun b4=>Ad R R<|An (i:=0) R R R ld47 R R R<|Ac<|Ah<|Aa tbk [1,0] 3 R R<|Ad R R<|Am hm 0 R fn183 R (K96 _ _) fun r3 hm=>Aa tbk [] 3 R R<|Ad R R<|A0 z41 fun b5=>Ad R R<|An (i:=0) R R R ld41 R R R<|Ab R R (Ai R)<|Ac<|Ae<|Ag tbk [] R R<|Ak hm R (fun h15 hm=>Ah<|Ab R R (Bt pl41 R R)<|Ab R R (Al R)<|Ad R R<|An (i:=3) R R R ld41 R R R<|Ab R R (Ai R)<|Ac<|have hm:=Lr hm h9;Rt0 hm R [] (.cons (.cell _ _ _ _ 3 _ _ _ _ R R ld41 R) (.cons (.tmp _ _ R) .nil)) R R) fun h15 hm=>Aj<|Bq<|Aa tbk [0] 1 R R<|Ad R R<|An (i:=2) R R R ld41 R R R<|Ac<|A2 tbk [] R R<|Ap _ () hm (Bm [2,2] R ⟨R,R,R,R,congrArg some (k_next h11 h10),trivial⟩)
 exact Ah<|Aa tbk [0] 1 R R<|Ad R R<|An (i:=1) R R R ld41 R R R<|Ab R R (Ai R)<|Ac<|Rt0 hm R [] (.cons (.cell _ _ _ _ 1 _ _ _ _ R R ld41 R) (.cons (.tmp _ _ R) .nil)) R R

/-! trireme/res.Least$1 -/
def res_Least_1 (x : Int) (y : Int) : Option Int :=
 some (min x y)
theorem K98 (x : Int) (y : Int) : VS Tryz.prog 241 (res_Least_1 x y) [Iw x, Iw y] [] Iw N0 := by
 refine A3 [.tmp 4] Tryz.func241 R R R fun r hm=>?_
 unfold res_Least_1 at hm
 exact Ag tbk [] R R<|Ah<|Aa tbk [] 2 R R<|Ab R R (Di R R)<|Ab R R (Ai R)<|Ac<|Rt1 hm R [] R R R

/-! trireme/res.each -/
def res_each_res_Least_1.l1 (j : Arr5_Int × Arr5_Int) : Nat → Arr5_Int → Int → Option Arr5_Int
 | 0, _, _ => none
 | n + 1, l3, v2 =>
  if (decide (v2 < 5)) = true then
   (V.gl (Arr5_Int.l l3) v2).bind fun x =>
   (V.gl (Arr5_Int.l j.2) v2).bind fun x2 =>
   (res_Least_1 x x2).bind fun r19 =>
   (V.gl (Arr5_Int.l l3) v2).bind fun x3 =>
   (Arr5_Int.put l3 v2 r19).bind fun l6 =>
   res_each_res_Least_1.l1 j n l6 (i64.wrap (v2 + 1))
  else
   some l3
def res_each_res_Least_1 (a : T_api_Res) (b : T_api_Res) (wrong : Int) : Option (T_api_Res × Int) :=
 (res_Right a).bind fun r =>
 (if (!r) = true then some true else (res_Right b).bind fun r2 =>
 some (!r2)).bind fun c =>
 if c = true then
  some ((⟨0, 0, 0, 0, 0⟩ : T_api_Res), 1)
 else
  ((res_row a).bind fun r3 =>
  (res_row b).bind fun r4 =>
  some (r3, r4)).bind fun j =>
  (res_each_res_Least_1.l1 j FU j.1 (0 : Int)).bind fun l42 =>
  (res_back l42).bind fun r20 =>
  (res_Right r20).bind fun r21 =>
  if r21 = true then
   some (r20, 0)
  else
   some ((⟨0, 0, 0, 0, 0⟩ : T_api_Res), wrong)
theorem K99 (a : T_api_Res) (b : T_api_Res) (wrong : Int) : VS Tryz.prog 209 (res_each_res_Least_1 a b wrong) [T_api_Res.vv a, T_api_Res.vv b, .clo (.func 241) [] [], Iw wrong] [] (fun r=>.tup [T_api_Res.vv r.1, Iw r.2]) N0 := by
 refine A3 [.cell 8 41,.tmp 9] Dg R R R fun r hm=>?_
 unfold res_each_res_Least_1 at hm
 refine Ah<|Ad R R<|Ba R R fun b2=>Ad R R<|Ba R R fun b3=>Ad R R<|A0 z41 fun b4=>Ab R R (Ai R)<|Ac<|Ae<|Ah<|Aa tbk [2] 1 R R<|Ad R R<|Am hm 0 R fn130 R (K90 _) fun r hm=>Aa tbk [] 2 R R<|Be hm 4 21 17 R (fun _ K' h5 J hm=>Aa tbk [] 4 R R<|J 3 R R (Bj hm)) (fun _ K' h5 J hm=>Aa tbk [1] 1 R R<|A7 R R R R R<|Am hm 0 R fn130 R (K90 _) fun r2 hm=>Aa tbk [] 2 R R<|J 3 R R (Bj hm)) fun c hm=>Ac<|Ak hm R (fun h8 hm=>Ah<|Ab R R (Bt pl41 R R)<|Ad R R<|An (i:=0) R R R ld41 R R R<|Ab R R (Ai R)<|Ac<|Rt0 hm R [] (.cons (.cell _ _ _ _ 0 _ _ _ _ R R ld41 R) (.cons (.tmp _ _ R) .nil)) R R) fun h8 hm=>Aj<|Db hm (fun _ (gg:Nat × Nat)=>[(2,.clo (.func 241) [] []),(3,Iw wrong),(8,.ptr b4 0),(10,.ptr gg.1 0),(11,.ptr gg.2 0)]) (fun j (gg:Nat × Nat)=>[X183 gg.2 j.2,X183 gg.1 j.1,X41 b4 (⟨(0 : Int),(0 : Int),(0 : Int),(0 : Int),(0 : Int)⟩ : T_api_Res)]) (fun o hm=>?_) fun j=>Pq fun b5 b6 hm=> ?_
 ·refine A9 0 mixed<|Aq tbk [0,2] [2,1] (by kernel_rfl) R R R<|?_
  refine B4 [1,4,5] (by kernel_rfl) ⟨?_,?_,?_,trivial⟩
  ·refine Au R R R<|Am hm 0 R fn174 R (K89 _) fun r3 hm=> ?_
   refine B4 [3,4,5] (by kernel_rfl) ⟨?_,?_,?_,trivial⟩
   ·refine Au R R R<|Am hm 0 R fn174 R (K89 _) fun r4 hm=> ?_
    refine B4 [4,5] (by kernel_rfl) ⟨?_,?_,trivial⟩
    ·exact Au R R R<|A0 z183 fun b7=>Ao 5 (by kernel_rfl)<|Au R R R<|A0 z183 fun b8=>Ao 6 (by kernel_rfl)<|Au R R R<|An (i:=1) R R R ld183 R R R<|Ao 7 (by kernel_rfl)<|Au R R R<|An (i:=0) R R R ld183 R R R<|A5 (by kernel_rfl)<|As (b7,b8) hm (Af [0,0,0] R R)
    ·exact Au R R R<|A0 z183 fun b9=>Ao 4 (by kernel_rfl)<|Au R R R<|A0 z183 fun b10=>Ao 6 (by kernel_rfl)<|Au R R R<|An (i:=0) R R R ld183 R R R<|Ao 7 (by kernel_rfl)<|Au R R R<|An (i:=1) R R R ld183 R R R<|A5 (by kernel_rfl)<|As (b10,b9) hm (Af [1,0,0] R R)
   ·refine Au R R R<|A0 z183 fun b11=> ?_
    refine B4 [3,5] (by kernel_rfl) ⟨?_,?_,trivial⟩
    ·exact Au R R R<|Am hm 0 R fn174 R (K89 _) fun r5 hm=>Ao 5 (by kernel_rfl)<|Au R R R<|A0 z183 fun b12=>Ao 6 (by kernel_rfl)<|Au R R R<|An (i:=1) R R R ld183 R R R<|Ao 7 (by kernel_rfl)<|Au R R R<|An (i:=0) R R R ld183 R R R<|A5 (by kernel_rfl)<|As (b11,b12) hm (Af [0,0,0] R R)
    ·exact Au R R R<|A0 z183 fun b13=>Ao 3 (by kernel_rfl)<|Au R R R<|Am hm 0 R fn174 R (K89 _) fun r6 hm=>Ao 6 (by kernel_rfl)<|Au R R R<|An (i:=1) R R R ld183 R R R<|Ao 7 (by kernel_rfl)<|Au R R R<|An (i:=0) R R R ld183 R R R<|A5 (by kernel_rfl)<|As (b11,b13) hm (Af [0,0,0] R R)
   ·refine Au R R R<|A0 z183 fun b14=> ?_
    refine B4 [3,4] (by kernel_rfl) ⟨?_,?_,trivial⟩
    ·exact Au R R R<|Am hm 0 R fn174 R (K89 _) fun r7 hm=>Ao 4 (by kernel_rfl)<|Au R R R<|A0 z183 fun b15=>Ao 6 (by kernel_rfl)<|Au R R R<|An (i:=0) R R R ld183 R R R<|Ao 7 (by kernel_rfl)<|Au R R R<|An (i:=1) R R R ld183 R R R<|A5 (by kernel_rfl)<|As (b15,b14) hm (Af [1,0,0] R R)
    ·exact Au R R R<|A0 z183 fun b16=>Ao 3 (by kernel_rfl)<|Au R R R<|Am hm 0 R fn174 R (K89 _) fun r8 hm=>Ao 6 (by kernel_rfl)<|Au R R R<|An (i:=0) R R R ld183 R R R<|Ao 7 (by kernel_rfl)<|Au R R R<|An (i:=1) R R R ld183 R R R<|A5 (by kernel_rfl)<|As (b16,b14) hm (Af [1,0,0] R R)
  ·refine Au R R R<|A0 z183 fun b17=> ?_
   refine B4 [1,5] (by kernel_rfl) ⟨?_,?_,trivial⟩
   ·refine Au R R R<|Am hm 0 R fn174 R (K89 _) fun r9 hm=> ?_
    refine B4 [3,5] (by kernel_rfl) ⟨?_,?_,trivial⟩
    ·exact Au R R R<|Am hm 0 R fn174 R (K89 _) fun r10 hm=>Ao 5 (by kernel_rfl)<|Au R R R<|A0 z183 fun b18=>Ao 6 (by kernel_rfl)<|Au R R R<|An (i:=1) R R R ld183 R R R<|Ao 7 (by kernel_rfl)<|Au R R R<|An (i:=0) R R R ld183 R R R<|A5 (by kernel_rfl)<|As (b17,b18) hm (Af [0,0,0] R R)
    ·exact Au R R R<|A0 z183 fun b19=>Ao 3 (by kernel_rfl)<|Au R R R<|Am hm 0 R fn174 R (K89 _) fun r11 hm=>Ao 6 (by kernel_rfl)<|Au R R R<|An (i:=1) R R R ld183 R R R<|Ao 7 (by kernel_rfl)<|Au R R R<|An (i:=0) R R R ld183 R R R<|A5 (by kernel_rfl)<|As (b17,b19) hm (Af [0,0,0] R R)
   ·exact Au R R R<|A0 z183 fun b20=>Ao 1 (by kernel_rfl)<|Au R R R<|Am hm 0 R fn174 R (K89 _) fun r12 hm=>Ao 3 (by kernel_rfl)<|Au R R R<|Am hm 0 R fn174 R (K89 _) fun r13 hm=>Ao 6 (by kernel_rfl)<|Au R R R<|An (i:=1) R R R ld183 R R R<|Ao 7 (by kernel_rfl)<|Au R R R<|An (i:=0) R R R ld183 R R R<|A5 (by kernel_rfl)<|As (b17,b20) hm (Af [0,0,0] R R)
  ·refine Au R R R<|A0 z183 fun b21=> ?_
   refine B4 [1,4] (by kernel_rfl) ⟨?_,?_,trivial⟩
   ·refine Au R R R<|Am hm 0 R fn174 R (K89 _) fun r14 hm=> ?_
    refine B4 [3,4] (by kernel_rfl) ⟨?_,?_,trivial⟩
    ·exact Au R R R<|Am hm 0 R fn174 R (K89 _) fun r15 hm=>Ao 4 (by kernel_rfl)<|Au R R R<|A0 z183 fun b22=>Ao 6 (by kernel_rfl)<|Au R R R<|An (i:=0) R R R ld183 R R R<|Ao 7 (by kernel_rfl)<|Au R R R<|An (i:=1) R R R ld183 R R R<|A5 (by kernel_rfl)<|As (b22,b21) hm (Af [1,0,0] R R)
    ·exact Au R R R<|A0 z183 fun b23=>Ao 3 (by kernel_rfl)<|Au R R R<|Am hm 0 R fn174 R (K89 _) fun r16 hm=>Ao 6 (by kernel_rfl)<|Au R R R<|An (i:=0) R R R ld183 R R R<|Ao 7 (by kernel_rfl)<|Au R R R<|An (i:=1) R R R ld183 R R R<|A5 (by kernel_rfl)<|As (b23,b21) hm (Af [1,0,0] R R)
   ·exact Au R R R<|A0 z183 fun b24=>Ao 1 (by kernel_rfl)<|Au R R R<|Am hm 0 R fn174 R (K89 _) fun r17 hm=>Ao 3 (by kernel_rfl)<|Au R R R<|Am hm 0 R fn174 R (K89 _) fun r18 hm=>Ao 6 (by kernel_rfl)<|Au R R R<|An (i:=0) R R R ld183 R R R<|Ao 7 (by kernel_rfl)<|Au R R R<|An (i:=1) R R R ld183 R R R<|A5 (by kernel_rfl)<|As (b24,b21) hm (Af [1,0,0] R R)
 refine Ae<|Ag tbk [] R R<|Bw hm (fun _ (_:Unit)=>[(3,Iw wrong),(8,.ptr b4 0),(10,.ptr b5 0)]) (fun l42 (_:Unit)=>[X183 b5 l42,X41 b4 (⟨(0 : Int),(0 : Int),(0 : Int),(0 : Int),(0 : Int)⟩ : T_api_Res)]) (fun o2 hm=>?_) fun l42 _ hm=> ?_
 ·refine Bl (fun zn (zs:Arr5_Int × Int)=>res_each_res_Least_1.l1 j zn zs.1 zs.2) (fun zs (_:Unit)=>[(2,.clo (.func 241) [] []),(3,Iw wrong),(8,.ptr b4 0),(10,.ptr b5 0),(11,.ptr b6 0),(27,Iw zs.2)]) (fun zs (_:Unit)=>[X183 b6 j.2,X183 b5 zs.1,X41 b4 (⟨(0 : Int),(0 : Int),(0 : Int),(0 : Int),(0 : Int)⟩ : T_api_Res)]) (j.1,(0 : Int)) () (fun _=>R) hm (Af [0,0,0] R R) fun n=>Pq fun l3 v2 _ hm=> ?_
  rw [res_each_res_Least_1.l1] at hm
  exact Ag tbk [] R R<|Ae<|Ak hm R (fun h49 hm=>Aj<|Ae<|Ay<|Ag tbk [] R R<|B8 (Ci [1,0,0] R)<|A9 1 mixed<|Aq tbk [0,1,2] [] (by kernel_rfl) R R R<|Bd hm fun x h50 hm=>Ax 3 R R R (by kernel_rfl) (Cq R R ar183 (gl_pos2 h50).1 (gl_pos2 h50).2)<|Ax 5 R R R (by kernel_rfl) (Al R)<|Bd hm fun x2 h51 hm=>Ax 6 R R R (by kernel_rfl) (Cq R R ar183 (gl_pos2 h51).1 (gl_pos2 h51).2)<|Ax 7 R R R (by kernel_rfl) (Dd 0 (f:=(VV.int .i64)) (l:=Arr5_Int.l j.2) R R ld3 R h51)<|Ao 4 (by kernel_rfl)<|Au R R R<|Da (Dd 0 (f:=(VV.int .i64)) (l:=Arr5_Int.l l3) R R ld3 R h50)<|Ao 8 (by kernel_rfl)<|Au R R R<|Am hm 0 R fn241 R (K98 _ _) fun r19 hm=>Bd hm fun x3 h53 hm=>Ax 9 R R R (by kernel_rfl) (Cq R R ar183 (gl_pos2 h53).1 (gl_pos2 h53).2)<|Ao 10 (by kernel_rfl)<|Bd hm fun l6 h54 hm=>Au R R R<|VO.storeA 0 (f:=(VV.int .i64)) (l:=Arr5_Int.l l3) R R R ld3 R R (Arr5_Int.put_some h54)<|A5 (by kernel_rfl)<|A2 tbk [] R R<|Ap (l6,(IntKind.i64.wrap (v2 + (1 : Int)))) () hm (Af [1,0,0] R R)) fun h49 hm=>A1<|As () hm (Af [1,1] R R)
 exact Ae<|Ah<|Aa tbk [0] 1 R R<|Ad R R<|Am hm 0 R fn229 R (K94 _) fun r20 hm=>Ad R R<|A0 z41 fun b25=>Ad R R<|An (i:=0) R R R ld41 R R R<|Ac<|Ah<|Aa tbk [0] 1 R R<|Ad R R<|Am hm 0 R fn130 R (K90 _) fun r21 hm=>Ac<|Ak hm R (fun h58 hm=>Ah<|Aa tbk [0] 1 R R<|Ad R R<|An (i:=2) R R R ld41 R R R<|Ab R R (Ai R)<|Ac<|Rt0 hm R [] (.cons (.cell _ _ _ _ 2 _ _ _ _ R R ld41 R) (.cons (.tmp _ _ R) .nil)) R R) fun h58 hm=>Aj<|Ah<|Ab R R (Bt pl41 R R)<|Ab R R (Al R)<|Ad R R<|An (i:=2) R R R ld41 R R R<|Ab R R (Ai R)<|Ac<|Rt0 hm R [] (.cons (.cell _ _ _ _ 2 _ _ _ _ R R ld41 R) (.cons (.tmp _ _ R) .nil)) R R

/-! trireme/res.Least -/
def res_Least (a : T_api_Res) (b : T_api_Res) : Option T_api_Res :=
 (res_each_res_Least_1 a b (10 : Int)).bind fun r =>
 some r.1
theorem K100 (a : T_api_Res) (b : T_api_Res) : VS Tryz.prog 234 (res_Least a b) [T_api_Res.vv a, T_api_Res.vv b] [] (fun r=>T_api_Res.vv r) N0 := by
 refine A3 [.cell 4 41] Tryz.func234 R R R fun r hm=>?_
 unfold res_Least at hm
 exact Ah<|Ad R R<|Ba R R fun b2=>Ad R R<|Ba R R fun b3=>Ad R R<|A0 z41 fun b4=>Ac<|Ah<|Aa tbk [2,1] 2 R R<|Ad R R<|Am hm 0 R fn209 R (K99 _ _ _) fun r hm=>Aa tbk [] 3 R R<|Ad R R<|A0 z41 fun b5=>Ad R R<|An (i:=0) R R R ld41 R R R<|Ab R R (Ai R)<|Ac<|Ah<|Aa tbk [0] 1 R R<|Ad R R<|An (i:=1) R R R ld41 R R R<|Ac<|Rt0 hm R [] (.cons (.cell _ _ _ _ 1 _ _ _ _ R R ld41 R) .nil) R R

/-! trireme/res.Sub$1 -/
def res_Sub_1 (x : Int) (y : Int) : Option Int :=
 some (i64.wrap (x - y))
theorem K101 (x : Int) (y : Int) : VS Tryz.prog 240 (res_Sub_1 x y) [Iw x, Iw y] [] Iw N0 := by
 refine A3 [.tmp 4] Tryz.func240 R R R fun r hm=>?_
 unfold res_Sub_1 at hm
 exact Ag tbk [] R R<|Ag tbk [] R R<|Rt1 hm R [] R R R

/-! trireme/res.each -/
def res_each_res_Sub_1.l1 (j : Arr5_Int × Arr5_Int) : Nat → Arr5_Int → Int → Option Arr5_Int
 | 0, _, _ => none
 | n + 1, l3, v2 =>
  if (decide (v2 < 5)) = true then
   (V.gl (Arr5_Int.l l3) v2).bind fun x =>
   (V.gl (Arr5_Int.l j.2) v2).bind fun x2 =>
   (res_Sub_1 x x2).bind fun r19 =>
   (V.gl (Arr5_Int.l l3) v2).bind fun x3 =>
   (Arr5_Int.put l3 v2 r19).bind fun l6 =>
   res_each_res_Sub_1.l1 j n l6 (i64.wrap (v2 + 1))
  else
   some l3
def res_each_res_Sub_1 (a : T_api_Res) (b : T_api_Res) (wrong : Int) : Option (T_api_Res × Int) :=
 (res_Right a).bind fun r =>
 (if (!r) = true then some true else (res_Right b).bind fun r2 =>
 some (!r2)).bind fun c =>
 if c = true then
  some ((⟨0, 0, 0, 0, 0⟩ : T_api_Res), 1)
 else
  ((res_row a).bind fun r3 =>
  (res_row b).bind fun r4 =>
  some (r3, r4)).bind fun j =>
  (res_each_res_Sub_1.l1 j FU j.1 (0 : Int)).bind fun l42 =>
  (res_back l42).bind fun r20 =>
  (res_Right r20).bind fun r21 =>
  if r21 = true then
   some (r20, 0)
  else
   some ((⟨0, 0, 0, 0, 0⟩ : T_api_Res), wrong)
theorem K102 (a : T_api_Res) (b : T_api_Res) (wrong : Int) : VS Tryz.prog 209 (res_each_res_Sub_1 a b wrong) [T_api_Res.vv a, T_api_Res.vv b, .clo (.func 240) [] [], Iw wrong] [] (fun r=>.tup [T_api_Res.vv r.1, Iw r.2]) N0 := by
 refine A3 [.cell 8 41,.tmp 9] Dg R R R fun r hm=>?_
 unfold res_each_res_Sub_1 at hm
 refine Ah<|Ad R R<|Ba R R fun b2=>Ad R R<|Ba R R fun b3=>Ad R R<|A0 z41 fun b4=>Ab R R (Ai R)<|Ac<|Ae<|Ah<|Aa tbk [2] 1 R R<|Ad R R<|Am hm 0 R fn130 R (K90 _) fun r hm=>Aa tbk [] 2 R R<|Be hm 4 21 17 R (fun _ K' h5 J hm=>Aa tbk [] 4 R R<|J 3 R R (Bj hm)) (fun _ K' h5 J hm=>Aa tbk [1] 1 R R<|A7 R R R R R<|Am hm 0 R fn130 R (K90 _) fun r2 hm=>Aa tbk [] 2 R R<|J 3 R R (Bj hm)) fun c hm=>Ac<|Ak hm R (fun h8 hm=>Ah<|Ab R R (Bt pl41 R R)<|Ad R R<|An (i:=0) R R R ld41 R R R<|Ab R R (Ai R)<|Ac<|Rt0 hm R [] (.cons (.cell _ _ _ _ 0 _ _ _ _ R R ld41 R) (.cons (.tmp _ _ R) .nil)) R R) fun h8 hm=>Aj<|Db hm (fun _ (gg:Nat × Nat)=>[(2,.clo (.func 240) [] []),(3,Iw wrong),(8,.ptr b4 0),(10,.ptr gg.1 0),(11,.ptr gg.2 0)]) (fun j (gg:Nat × Nat)=>[X183 gg.2 j.2,X183 gg.1 j.1,X41 b4 (⟨(0 : Int),(0 : Int),(0 : Int),(0 : Int),(0 : Int)⟩ : T_api_Res)]) (fun o hm=>?_) fun j=>Pq fun b5 b6 hm=> ?_
 ·refine A9 0 mixed<|Aq tbk [0,2] [2,1] (by kernel_rfl) R R R<|?_
  refine B4 [1,4,5] (by kernel_rfl) ⟨?_,?_,?_,trivial⟩
  ·refine Au R R R<|Am hm 0 R fn174 R (K89 _) fun r3 hm=> ?_
   refine B4 [3,4,5] (by kernel_rfl) ⟨?_,?_,?_,trivial⟩
   ·refine Au R R R<|Am hm 0 R fn174 R (K89 _) fun r4 hm=> ?_
    refine B4 [4,5] (by kernel_rfl) ⟨?_,?_,trivial⟩
    ·exact Au R R R<|A0 z183 fun b7=>Ao 5 (by kernel_rfl)<|Au R R R<|A0 z183 fun b8=>Ao 6 (by kernel_rfl)<|Au R R R<|An (i:=1) R R R ld183 R R R<|Ao 7 (by kernel_rfl)<|Au R R R<|An (i:=0) R R R ld183 R R R<|A5 (by kernel_rfl)<|As (b7,b8) hm (Af [0,0,0] R R)
    ·exact Au R R R<|A0 z183 fun b9=>Ao 4 (by kernel_rfl)<|Au R R R<|A0 z183 fun b10=>Ao 6 (by kernel_rfl)<|Au R R R<|An (i:=0) R R R ld183 R R R<|Ao 7 (by kernel_rfl)<|Au R R R<|An (i:=1) R R R ld183 R R R<|A5 (by kernel_rfl)<|As (b10,b9) hm (Af [1,0,0] R R)
   ·refine Au R R R<|A0 z183 fun b11=> ?_
    refine B4 [3,5] (by kernel_rfl) ⟨?_,?_,trivial⟩
    ·exact Au R R R<|Am hm 0 R fn174 R (K89 _) fun r5 hm=>Ao 5 (by kernel_rfl)<|Au R R R<|A0 z183 fun b12=>Ao 6 (by kernel_rfl)<|Au R R R<|An (i:=1) R R R ld183 R R R<|Ao 7 (by kernel_rfl)<|Au R R R<|An (i:=0) R R R ld183 R R R<|A5 (by kernel_rfl)<|As (b11,b12) hm (Af [0,0,0] R R)
    ·exact Au R R R<|A0 z183 fun b13=>Ao 3 (by kernel_rfl)<|Au R R R<|Am hm 0 R fn174 R (K89 _) fun r6 hm=>Ao 6 (by kernel_rfl)<|Au R R R<|An (i:=1) R R R ld183 R R R<|Ao 7 (by kernel_rfl)<|Au R R R<|An (i:=0) R R R ld183 R R R<|A5 (by kernel_rfl)<|As (b11,b13) hm (Af [0,0,0] R R)
   ·refine Au R R R<|A0 z183 fun b14=> ?_
    refine B4 [3,4] (by kernel_rfl) ⟨?_,?_,trivial⟩
    ·exact Au R R R<|Am hm 0 R fn174 R (K89 _) fun r7 hm=>Ao 4 (by kernel_rfl)<|Au R R R<|A0 z183 fun b15=>Ao 6 (by kernel_rfl)<|Au R R R<|An (i:=0) R R R ld183 R R R<|Ao 7 (by kernel_rfl)<|Au R R R<|An (i:=1) R R R ld183 R R R<|A5 (by kernel_rfl)<|As (b15,b14) hm (Af [1,0,0] R R)
    ·exact Au R R R<|A0 z183 fun b16=>Ao 3 (by kernel_rfl)<|Au R R R<|Am hm 0 R fn174 R (K89 _) fun r8 hm=>Ao 6 (by kernel_rfl)<|Au R R R<|An (i:=0) R R R ld183 R R R<|Ao 7 (by kernel_rfl)<|Au R R R<|An (i:=1) R R R ld183 R R R<|A5 (by kernel_rfl)<|As (b16,b14) hm (Af [1,0,0] R R)
  ·refine Au R R R<|A0 z183 fun b17=> ?_
   refine B4 [1,5] (by kernel_rfl) ⟨?_,?_,trivial⟩
   ·refine Au R R R<|Am hm 0 R fn174 R (K89 _) fun r9 hm=> ?_
    refine B4 [3,5] (by kernel_rfl) ⟨?_,?_,trivial⟩
    ·exact Au R R R<|Am hm 0 R fn174 R (K89 _) fun r10 hm=>Ao 5 (by kernel_rfl)<|Au R R R<|A0 z183 fun b18=>Ao 6 (by kernel_rfl)<|Au R R R<|An (i:=1) R R R ld183 R R R<|Ao 7 (by kernel_rfl)<|Au R R R<|An (i:=0) R R R ld183 R R R<|A5 (by kernel_rfl)<|As (b17,b18) hm (Af [0,0,0] R R)
    ·exact Au R R R<|A0 z183 fun b19=>Ao 3 (by kernel_rfl)<|Au R R R<|Am hm 0 R fn174 R (K89 _) fun r11 hm=>Ao 6 (by kernel_rfl)<|Au R R R<|An (i:=1) R R R ld183 R R R<|Ao 7 (by kernel_rfl)<|Au R R R<|An (i:=0) R R R ld183 R R R<|A5 (by kernel_rfl)<|As (b17,b19) hm (Af [0,0,0] R R)
   ·exact Au R R R<|A0 z183 fun b20=>Ao 1 (by kernel_rfl)<|Au R R R<|Am hm 0 R fn174 R (K89 _) fun r12 hm=>Ao 3 (by kernel_rfl)<|Au R R R<|Am hm 0 R fn174 R (K89 _) fun r13 hm=>Ao 6 (by kernel_rfl)<|Au R R R<|An (i:=1) R R R ld183 R R R<|Ao 7 (by kernel_rfl)<|Au R R R<|An (i:=0) R R R ld183 R R R<|A5 (by kernel_rfl)<|As (b17,b20) hm (Af [0,0,0] R R)
  ·refine Au R R R<|A0 z183 fun b21=> ?_
   refine B4 [1,4] (by kernel_rfl) ⟨?_,?_,trivial⟩
   ·refine Au R R R<|Am hm 0 R fn174 R (K89 _) fun r14 hm=> ?_
    refine B4 [3,4] (by kernel_rfl) ⟨?_,?_,trivial⟩
    ·exact Au R R R<|Am hm 0 R fn174 R (K89 _) fun r15 hm=>Ao 4 (by kernel_rfl)<|Au R R R<|A0 z183 fun b22=>Ao 6 (by kernel_rfl)<|Au R R R<|An (i:=0) R R R ld183 R R R<|Ao 7 (by kernel_rfl)<|Au R R R<|An (i:=1) R R R ld183 R R R<|A5 (by kernel_rfl)<|As (b22,b21) hm (Af [1,0,0] R R)
    ·exact Au R R R<|A0 z183 fun b23=>Ao 3 (by kernel_rfl)<|Au R R R<|Am hm 0 R fn174 R (K89 _) fun r16 hm=>Ao 6 (by kernel_rfl)<|Au R R R<|An (i:=0) R R R ld183 R R R<|Ao 7 (by kernel_rfl)<|Au R R R<|An (i:=1) R R R ld183 R R R<|A5 (by kernel_rfl)<|As (b23,b21) hm (Af [1,0,0] R R)
   ·exact Au R R R<|A0 z183 fun b24=>Ao 1 (by kernel_rfl)<|Au R R R<|Am hm 0 R fn174 R (K89 _) fun r17 hm=>Ao 3 (by kernel_rfl)<|Au R R R<|Am hm 0 R fn174 R (K89 _) fun r18 hm=>Ao 6 (by kernel_rfl)<|Au R R R<|An (i:=0) R R R ld183 R R R<|Ao 7 (by kernel_rfl)<|Au R R R<|An (i:=1) R R R ld183 R R R<|A5 (by kernel_rfl)<|As (b24,b21) hm (Af [1,0,0] R R)
 refine Ae<|Ag tbk [] R R<|Bw hm (fun _ (_:Unit)=>[(3,Iw wrong),(8,.ptr b4 0),(10,.ptr b5 0)]) (fun l42 (_:Unit)=>[X183 b5 l42,X41 b4 (⟨(0 : Int),(0 : Int),(0 : Int),(0 : Int),(0 : Int)⟩ : T_api_Res)]) (fun o2 hm=>?_) fun l42 _ hm=> ?_
 ·refine Bl (fun zn (zs:Arr5_Int × Int)=>res_each_res_Sub_1.l1 j zn zs.1 zs.2) (fun zs (_:Unit)=>[(2,.clo (.func 240) [] []),(3,Iw wrong),(8,.ptr b4 0),(10,.ptr b5 0),(11,.ptr b6 0),(27,Iw zs.2)]) (fun zs (_:Unit)=>[X183 b6 j.2,X183 b5 zs.1,X41 b4 (⟨(0 : Int),(0 : Int),(0 : Int),(0 : Int),(0 : Int)⟩ : T_api_Res)]) (j.1,(0 : Int)) () (fun _=>R) hm (Af [0,0,0] R R) fun n=>Pq fun l3 v2 _ hm=> ?_
  rw [res_each_res_Sub_1.l1] at hm
  exact Ag tbk [] R R<|Ae<|Ak hm R (fun h49 hm=>Aj<|Ae<|Ay<|Ag tbk [] R R<|B8 (Ci [1,0,0] R)<|A9 1 mixed<|Aq tbk [0,1,2] [] (by kernel_rfl) R R R<|Bd hm fun x h50 hm=>Ax 3 R R R (by kernel_rfl) (Cq R R ar183 (gl_pos2 h50).1 (gl_pos2 h50).2)<|Ax 5 R R R (by kernel_rfl) (Al R)<|Bd hm fun x2 h51 hm=>Ax 6 R R R (by kernel_rfl) (Cq R R ar183 (gl_pos2 h51).1 (gl_pos2 h51).2)<|Ax 7 R R R (by kernel_rfl) (Dd 0 (f:=(VV.int .i64)) (l:=Arr5_Int.l j.2) R R ld3 R h51)<|Ao 4 (by kernel_rfl)<|Au R R R<|Da (Dd 0 (f:=(VV.int .i64)) (l:=Arr5_Int.l l3) R R ld3 R h50)<|Ao 8 (by kernel_rfl)<|Au R R R<|Am hm 0 R fn240 R (K101 _ _) fun r19 hm=>Bd hm fun x3 h53 hm=>Ax 9 R R R (by kernel_rfl) (Cq R R ar183 (gl_pos2 h53).1 (gl_pos2 h53).2)<|Ao 10 (by kernel_rfl)<|Bd hm fun l6 h54 hm=>Au R R R<|VO.storeA 0 (f:=(VV.int .i64)) (l:=Arr5_Int.l l3) R R R ld3 R R (Arr5_Int.put_some h54)<|A5 (by kernel_rfl)<|A2 tbk [] R R<|Ap (l6,(IntKind.i64.wrap (v2 + (1 : Int)))) () hm (Af [1,0,0] R R)) fun h49 hm=>A1<|As () hm (Af [1,1] R R)
 exact Ae<|Ah<|Aa tbk [0] 1 R R<|Ad R R<|Am hm 0 R fn229 R (K94 _) fun r20 hm=>Ad R R<|A0 z41 fun b25=>Ad R R<|An (i:=0) R R R ld41 R R R<|Ac<|Ah<|Aa tbk [0] 1 R R<|Ad R R<|Am hm 0 R fn130 R (K90 _) fun r21 hm=>Ac<|Ak hm R (fun h58 hm=>Ah<|Aa tbk [0] 1 R R<|Ad R R<|An (i:=2) R R R ld41 R R R<|Ab R R (Ai R)<|Ac<|Rt0 hm R [] (.cons (.cell _ _ _ _ 2 _ _ _ _ R R ld41 R) (.cons (.tmp _ _ R) .nil)) R R) fun h58 hm=>Aj<|Ah<|Ab R R (Bt pl41 R R)<|Ab R R (Al R)<|Ad R R<|An (i:=2) R R R ld41 R R R<|Ab R R (Ai R)<|Ac<|Rt0 hm R [] (.cons (.cell _ _ _ _ 2 _ _ _ _ R R ld41 R) (.cons (.tmp _ _ R) .nil)) R R

/-! trireme/res.Sub -/
def res_Sub (a : T_api_Res) (b : T_api_Res) : Option (T_api_Res × Int) :=
 (res_each_res_Sub_1 a b (11 : Int)).bind fun r =>
 some (r.1, r.2)
theorem K103 (a : T_api_Res) (b : T_api_Res) : VS Tryz.prog 233 (res_Sub a b) [T_api_Res.vv a, T_api_Res.vv b] [] (fun r=>.tup [T_api_Res.vv r.1, Iw r.2]) N0 := by
 refine A3 [.cell 4 41,.tmp 5] Tryz.func233 R R R fun r hm=>?_
 unfold res_Sub at hm
 exact Ah<|Ad R R<|Ba R R fun b2=>Ad R R<|Ba R R fun b3=>Ad R R<|A0 z41 fun b4=>Ab R R (Ai R)<|Ac<|Ah<|Aa tbk [2,1] 2 R R<|Ad R R<|Am hm 0 R fn209 R (K102 _ _ _) fun r hm=>Aa tbk [] 2 R R<|Ad R R<|An (i:=0) R R R ld41 R R R<|Ab R R (Ai R)<|Ac<|Rt0 hm R [] (.cons (.cell _ _ _ _ 0 _ _ _ _ R R ld41 R) (.cons (.tmp _ _ R) .nil)) R R

/-! trireme/yard.Left -/
def yard_Left (m : T_api_Machine) (bs : List T_api_Bound) : Option T_api_Res :=
 (yard_Used bs m.Name).bind fun r =>
 if (r.2 != 0) = true then
  some (⟨0, 0, 0, 0, 0⟩ : T_api_Res)
 else
  (res_Least r.1 m.Has).bind fun r2 =>
  (res_Sub m.Has r2).bind fun r3 =>
  some r3.1
theorem K104 (m : T_api_Machine) (bs : List T_api_Bound) : VS Tryz.prog 223 (yard_Left m bs) [T_api_Machine.vv m, L49 bs] [] (fun r=>T_api_Res.vv r) N0 := by
 refine A3 [.cell 4 41] Tryz.func223 R R R fun r hm=>?_
 unfold yard_Left at hm
 refine Ah<|Ad R R<|Ba R R fun b=>Ad R R<|A0 z41 fun b2=>Ac<|Ah<|Aa tbk [1] 3 R R<|Ad R R<|Am hm 0 R fn143 R (K97 _ _) fun r hm=>Aa tbk [] 3 R R<|Ad R R<|A0 z41 fun b3=>Ad R R<|An (i:=0) R R R ld41 R R R<|Ab R R (Ai R)<|Ac<|Ae<|Ag tbk [] R R<|Ak hm R (fun h5 hm=>Ah<|Ab R R (Bt pl41 R R)<|Ad R R<|An (i:=1) R R R ld41 R R R<|Ac<|Rt0 hm R [] (.cons (.cell _ _ _ _ 1 _ _ _ _ R R ld41 R) .nil) R R) fun h5 hm=>Aj<|Ae<|A9 0 mixed<|Aq tbk [0,1,2,3,4] [2,0,2] (by kernel_rfl) R R R<|?_
 refine B4 [5,10] (by kernel_rfl) ⟨?_,?_,trivial⟩
 ·refine Au R R R<|Am hm 0 R fn234 R (K100 _ _) fun r2 hm=> ?_
  refine B4 [6,10] (by kernel_rfl) ⟨?_,?_,trivial⟩
  ·exact Au R R R<|Am hm 0 R fn233 R (K103 _ _) fun r3 hm=>Aq tbk [7,8,9] [] (by kernel_rfl) R R R<|Ao 10 (by kernel_rfl)<|Au R R R<|A0 z41 fun b4=>Ao 11 (by kernel_rfl)<|Au R R R<|An (i:=0) R R R ld41 R R R<|Ax 12 R R R (by kernel_rfl) (Ai R)<|A5 (by kernel_rfl)<|Ah<|Aa tbk [0] 1 R R<|Ad R R<|An (i:=2) R R R ld41 R R R<|Ac<|Rt0 hm R [] (.cons (.cell _ _ _ _ 2 _ _ _ _ R R ld41 R) .nil) R R
  ·exact Au R R R<|A0 z41 fun b5=>Ao 6 (by kernel_rfl)<|Au R R R<|Am hm 0 R fn233 R (K103 _ _) fun r4 hm=>Aq tbk [7,8,9] [] (by kernel_rfl) R R R<|Ao 11 (by kernel_rfl)<|Au R R R<|An (i:=0) R R R ld41 R R R<|Ax 12 R R R (by kernel_rfl) (Ai R)<|A5 (by kernel_rfl)<|Ah<|Aa tbk [0] 1 R R<|Ad R R<|An (i:=2) R R R ld41 R R R<|Ac<|Rt0 hm R [] (.cons (.cell _ _ _ _ 2 _ _ _ _ R R ld41 R) .nil) R R
 ·exact Au R R R<|A0 z41 fun b6=>Ao 5 (by kernel_rfl)<|Au R R R<|Am hm 0 R fn234 R (K100 _ _) fun r5 hm=>Ao 6 (by kernel_rfl)<|Au R R R<|Am hm 0 R fn233 R (K103 _ _) fun r6 hm=>Aq tbk [7,8,9] [] (by kernel_rfl) R R R<|Ao 11 (by kernel_rfl)<|Au R R R<|An (i:=0) R R R ld41 R R R<|Ax 12 R R R (by kernel_rfl) (Ai R)<|A5 (by kernel_rfl)<|Ah<|Aa tbk [0] 1 R R<|Ad R R<|An (i:=2) R R R ld41 R R R<|Ac<|Rt0 hm R [] (.cons (.cell _ _ _ _ 2 _ _ _ _ R R ld41 R) .nil) R R

/-! trireme/res.Fits -/
def res_Fits (a : T_api_Res) (b : T_api_Res) : Option Bool :=
 (res_Sub b a).bind fun r =>
 some (r.2 == 0)
theorem K105 (a : T_api_Res) (b : T_api_Res) : VS Tryz.prog 222 (res_Fits a b) [T_api_Res.vv a, T_api_Res.vv b] [] .bool N0 := by
 refine A3 [.tmp 4] Tryz.func222 R R R fun r hm=>?_
 unfold res_Fits at hm
 exact Ah<|Ad R R<|Ba R R fun b2=>Ad R R<|Ba R R fun b3=>Ab R R (Ai R)<|Ac<|Ah<|Aa tbk [0,1] 2 R R<|Ad R R<|Am hm 0 R fn233 R (K103 _ _) fun r hm=>Aa tbk [] 3 R R<|Ad R R<|A0 z41 fun b4=>Ad R R<|An (i:=0) R R R ld41 R R R<|Ab R R (Ai R)<|Ac<|Ag tbk [] R R<|Rt1 hm R [] R R R

/-! trireme/suit.common -/
def suit_common.l1 : Nat → (List Int) → (List Int) → Option (Out Bool Unit)
 | 0, _, _ => none
 | n + 1, a3, b3 =>
  if ((decide ((a3.length : Int) > 0)) && (decide ((b3.length : Int) > 0))) = true then
   (V.gl a3 (0 : Int)).bind fun x =>
   (V.gl b3 (0 : Int)).bind fun x2 =>
   if (x == x2) = true then
    some (Out.ret true)
   else
    (V.gl a3 (0 : Int)).bind fun x3 =>
    (V.gl b3 (0 : Int)).bind fun x4 =>
    if (decide (x3 < x4)) = true then
     (V.sl a3 (some 1) none).bind fun v =>
     suit_common.l1 n v b3
    else
     (V.sl b3 (some 1) none).bind fun v2 =>
     suit_common.l1 n a3 v2
  else
   some (Out.go ())
def suit_common (a : List Int) (b : List Int) : Option Bool :=
 (suit_common.l1 FU a b).bind fun o =>
 o.on fun j =>
 some false
theorem K106 (a : List Int) (b : List Int) : VS Tryz.prog 224 (suit_common a b) [L3 a, L3 b] [] .bool N0 := by
 refine A3 [.tmp 4] Tryz.func224 R R R fun r hm=>?_
 unfold suit_common at hm
 refine Ag tbk [] R R<|VW.jo hm (fun _ (_:Unit)=>[]) (fun _ (_:Unit)=>[]) (fun o hm h2=>?_) fun j _ hm=> ?_
 ·refine Bl (fun zn (zs:List Int × List Int)=>suit_common.l1 zn zs.1 zs.2) (fun zs (_:Unit)=>[(0,L3 zs.1),(1,L3 zs.2)]) (fun _ (_:Unit)=>[]) (a,b) () (fun _=>R) hm (Af [] R R) fun n=>Pq fun a3 b3 _ hm=> ?_
  rw [suit_common.l1] at hm
  exact Ae<|Ah<|Ab R R (Al R)<|Ab R R (Av (VV.int .i64) R Ck)<|Aa tbk [] 2 R R<|C8 4 12 8 R (fun h3 K' J=>Bg R R R R R (Al R)<|Bg R R R R R (Av (VV.int .i64) R Ck)<|Aa tbk [] 2 R R<|J 3 R R R) (fun K' J=>Aa tbk [] 4 R R<|J 3 R R R)<|Ac<|Ak hm R (fun h4 hm=>Aj<|Ay<|Ay<|Ae<|A9 0 mixed<|Ax 0 R R R (by kernel_rfl) (Al R)<|Bd hm fun x h5 hm=>Ax 1 R R R (by kernel_rfl) (Az (VV.int .i64) R R el45 h5)<|Aq tbk [2,3] [] (by kernel_rfl) R R R<|Bd hm fun x2 h6 hm=>Ax 4 R R R (by kernel_rfl) (Az (VV.int .i64) R R el45 h6)<|Aq tbk [5,6,7] [] (by kernel_rfl) R R R<|A5 (by kernel_rfl)<|Ak hm R (fun h7 hm=>Ag tbk [] R R<|have hm:=Lr hm h2;Rt1 hm R [] R R R) fun h7 hm=>Ae<|A9 0 mixed<|Ax 0 R R R (by kernel_rfl) (Al R)<|Bd hm fun x3 h8 hm=>Ax 1 R R R (by kernel_rfl) (Az (VV.int .i64) R R el45 h8)<|Aq tbk [2,3] [] (by kernel_rfl) R R R<|Bd hm fun x4 h9 hm=>Ax 4 R R R (by kernel_rfl) (Az (VV.int .i64) R R el45 h9)<|Aq tbk [5,6,7] [] (by kernel_rfl) R R R<|A5 (by kernel_rfl)<|Ak hm R (fun h10 hm=>Bq<|Ab R R (Al R)<|Bd hm fun v h11 hm=>Ab R R (VP.slT R R R el45 h11)<|Ab R R (Ai R)<|Ac<|Ap (v,b3) () hm (Af [] R R)) fun h10 hm=>Bq<|Ab R R (Al R)<|Bd hm fun v2 h12 hm=>Ab R R (VP.slT R R R el45 h12)<|Ab R R (Ai R)<|Ac<|Ap (a3,v2) () hm (Af [] R R)) fun h4 hm=>A1<|Ar () hm (Af [] R R)
 exact Ag tbk [] R R<|Rt1 hm R [] R R R

/-! trireme/suit.Room -/
def suit_Room.l1 (p : T_api_Pod) : List T_api_Pod → Nat → Option (Out Int Unit)
 | [], k => some (Out.go ())
 | x :: l, k =>
  (suit_common p.Ports x.Ports).bind fun r5 =>
  if r5 = true then
   some (Out.ret 3)
  else
   suit_Room.l1 p l (k + 1)
def suit_Room (m : T_api_Machine) (bs : List T_api_Bound) (p : T_api_Pod) : Option Int :=
 (suit_others bs p.Name).bind fun r =>
 (yard_Left m r).bind fun r2 =>
 (res_Fits p.Need r2).bind fun r3 =>
 if (!r3) = true then
  some 2
 else
  (yard_On r m.Name).bind fun r4 =>
  (suit_Room.l1 p r4 0).bind fun o =>
  o.on fun j =>
  some 0
theorem K107 (m : T_api_Machine) (bs : List T_api_Bound) (p : T_api_Pod) : VS Tryz.prog 202 (suit_Room m bs p) [T_api_Machine.vv m, L49 bs, T_api_Pod.vv p] [] Iw N0 := by
 refine A3 [.tmp 6] Tryz.func202 R R R fun r hm=>?_
 unfold suit_Room at hm
 refine Ah<|Ad R R<|Ba R R fun b=>Ad R R<|Ba R R fun b2=>Ab R R (Ai R)<|Ac<|Ah<|Aa tbk [0] 3 R R<|Ad R R<|Bz hm 0 R fn221 R (K88 _ _) fun r ob cap hm=>Bh (Aw 0 [(13,L49 r)] R ⟨⟨_,R,.here _ R⟩,trivial⟩ (FzH.refl _))<|Ab R R (Ai R)<|Ac<|Ae<|Ae<|A9 0 mixed<|Aq tbk [0,1,2,3] [0,1] (by kernel_rfl) R R R<|Ao 4 (by kernel_rfl)<|Au R R R<|Am hm 0 R fn223 R (K104 _ _) fun r2 hm=>Ao 5 (by kernel_rfl)<|Au R R R<|Am hm 0 R fn222 R (K105 _ _) fun r3 hm=>Ax 6 R R R (by kernel_rfl) (Co R)<|A5 (by kernel_rfl)<|Ak hm R (fun h7 hm=>Ag tbk [] R R<|Rt1 hm R [] R R R) fun h7 hm=>Aj<|Ae<|Ah<|Aa tbk [1] 3 R R<|Ad R R<|Bz hm 0 R fn85 R (K68 _ _) fun r4 ob2 cap2 hm=>Bh (Aw 0 [(24,L47 r4)] R ⟨⟨_,R,.here _ R⟩,trivial⟩ (FzH.refl _))<|Ab R R (Av T_api_Pod.vv R Bv)<|Ab R R (Al R)<|Ac<|B7 24 R fun h12=>Bn hm (fun _ (_:Unit)=>[]) (fun _ (_:Unit)=>[]) (fun o hm h11=>?_) fun j _ hm=> ?_
 ·refine Cn (r4) (fun zl zk (zs:Unit)=>suit_Room.l1 p zl zk) (fun k _ (_:Unit)=>[(5,.ptr b2 0),(24,L47 r4),(25,Iw (r4.length : Int)),(26,Iw (k : Int))]) (fun _ _ (_:Unit)=>[X47 b2 p]) () () hm (Af [0] R R) (fun k _ _ hk hm=>?_) fun k x l _ _ h13 hm=> ?_
  ·rw [suit_Room.l1] at hm
   exact Ag tbk [] R R<|Ae<|B5 R (k_end hk)<|A1<|Ar () hm (Af [] R R)
  rw [suit_Room.l1] at hm
  exact Ag tbk [] R R<|Ae<|B0 R (k_lt h13)<|Aj<|Ae<|Ay<|Ah<|Ab R R (Ch T_api_Pod.vv R R el55 h13)<|Ab R R (Bi R ld47 R)<|Ad R R<|A0 z47 fun b3=>Ad R R<|An (i:=0) R R R ld47 R R R<|Ac<|Ah<|Aa tbk [1,0] 4 R R<|Ad R R<|Am hm 0 R fn224 R (K106 _ _) fun r5 hm=>Ac<|Ak hm R (fun h16 hm=>Ag tbk [] R R<|have hm:=Lr hm h11;Rt1 hm R [] R R R) fun h16 hm=>Aj<|A2 tbk [] R R<|Ap () () hm (Bm [1] R ⟨R,R,R,congrArg some (k_next h13 h12),trivial⟩)
 exact Ag tbk [] R R<|Rt1 hm R [] R R R

/-! trireme/suit.Suits -/
def suit_Suits (m : T_api_Machine) (bs : List T_api_Bound) (p : T_api_Pod) : Option Int :=
 (suit_Place m p).bind fun r =>
 if (r == 1) = true then
  some r
 else
  if (r == 4) = true then
   some r
  else
   if (r == 5) = true then
    some r
   else
    if (r == 6) = true then
     some r
    else
     (suit_Room m bs p).bind fun r2 =>
     some r2
theorem K108 (m : T_api_Machine) (bs : List T_api_Bound) (p : T_api_Pod) : VS Tryz.prog 177 (suit_Suits m bs p) [T_api_Machine.vv m, L49 bs, T_api_Pod.vv p] [] Iw N0 := by
 refine A3 [.tmp 6] Tryz.func177 R R R fun r hm=>?_
 unfold suit_Suits at hm
 exact Ah<|Ad R R<|Ba R R fun b=>Ad R R<|Ba R R fun b2=>Ab R R (Ai R)<|Ac<|Ah<|Aa tbk [1,0] 2 R R<|Ad R R<|Am hm 0 R fn201 R (K87 _ _) fun r hm=>Ab R R (Ai R)<|Ac<|Ae<|Ag tbk [] R R<|Ay<|Ae<|Ay<|Ay<|Ay<|Ae<|Ae<|Ag tbk [] R R<|Ak hm R (fun h4 hm=>A1<|Ae<|Ag tbk [] R R<|Rt1 hm R [] R R R) fun h4 hm=>Aj<|Ae<|Ag tbk [] R R<|Ak hm R (fun h5 hm=>A1<|Ae<|Ag tbk [] R R<|Rt1 hm R [] R R R) fun h5 hm=>Aj<|Ae<|Ag tbk [] R R<|Ak hm R (fun h6 hm=>Aj<|B0 R h6<|A1<|Ae<|Ag tbk [] R R<|Rt1 hm R [] R R R) fun h6 hm=>A2 tbk [] R R<|Ak hm R (fun h7 hm=>A1<|Ae<|Ag tbk [] R R<|Rt1 hm R [] R R R) fun h7 hm=>Aj<|A1<|Ah<|Aa tbk [1,0] 3 R R<|Ad R R<|Am hm 0 R fn202 R (K107 _ _ _) fun r2 hm=>Ab R R (Ai R)<|Ac<|Rt1 hm R [] R R R

end Go.Proofs.YtmpkpnclmihdnaaGreat.M

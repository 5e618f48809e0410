/-
  Printed by a program of this session out of the loaded functions: models and their proofs. Own text.
-/
import Derived.Test.YtmpkpnclmihdnaaGreatRNT
namespace Go.Proofs.YtmpkpnclmihdnaaGreat.M
open Go Go.Proofs Go.Proofs.YtmpkpnclmihdnaaGreat.V
open Go.IntKind (i64)
set_option linter.unusedVariables false
set_option maxRecDepth 20000
set_option maxHeartbeats 4000000
/-! trireme/triremeref05.Light -/
def ref05_Light.l1 (l : List T_api_Label) : Nat → Int → Option (Out Bool Unit)
 | 0, _ => none
 | n + 1, i2 =>
  if (decide (i2 < (l.length : Int))) = true then
   (V.gl l i2).bind fun x =>
   (if (decide ((x.Key.size : Int) > 300)) = true then some true else (V.gl l i2).bind fun x2 =>
   some (decide ((x2.Val.size : Int) > 300))).bind fun c =>
   if c = true then
    some (Out.ret false)
   else
    ref05_Light.l1 l n (i64.wrap (i2 + 1))
  else
   some (Out.go ())
def ref05_Light (l : List T_api_Label) : Option Bool :=
 if (decide ((l.length : Int) > 40)) = true then
  some false
 else
  (ref05_Light.l1 l FU (0 : Int)).bind fun o =>
  o.on fun j =>
  some true
theorem K4 (l : List T_api_Label) : VS Tryz.prog 93 (ref05_Light l) [L92 l] [] .bool N0 := by
 refine A4 [.tmp 2] Tryz.func93 R R R fun r hm=>?_
 unfold ref05_Light at hm
 refine Ae tbk [] R R<|Af<|Ai<|Ab R R (Aj R)<|Ab R R (Aw T_api_Label.vv R Bu)<|Ab R R (Ba R R R)<|Ac<|Ao hm R (fun h1 hm=>Ae tbk [] R R<|Rt1 hm R [] R R R) fun h1 hm=>Am<|Af<|Ae tbk [] R R<|Bw hm (fun _ (_:Unit)=>[]) (fun _ (_:Unit)=>[]) (fun o hm h3=>?_) fun j _ hm=> ?_
 ·refine B1 (fun zn (zs:Int)=>ref05_Light.l1 l zn zs) (fun zs (_:Unit)=>[(0,L92 l),(3,Iw zs)]) (fun _ (_:Unit)=>[]) _ () (fun _=>R) hm (Ag [] R R) fun n i2 _ hm=> ?_
  rw [ref05_Light.l1] at hm
  exact Af<|Ai<|Aa tbk [] 2 R R<|Ab R R (Aw T_api_Label.vv R Bu)<|Ab R R (Ba R R R)<|Ac<|Ao hm R (fun h4 hm=>Am<|Af<|A2<|Ai<|Aa tbk [] 2 R R<|Bd hm fun x h5 hm=>Ab R R (Bf T_api_Label.vv R R el42 h5)<|Aa tbk [] 2 R R<|Ab R R (Ci R A9)<|Aa tbk [] 2 R R<|Bh hm 8 28 20 R (fun _ K' h6 J hm=>Aa tbk [] 8 R R<|J 7 R R (Bj hm)) (fun _ K' h6 J hm=>Aa tbk [] 2 R R<|Bd hm fun x2 h7 hm=>Bb R R R R R (Bf T_api_Label.vv R R el42 h7)<|Aa tbk [] 2 R R<|Bb R R R R R (Ci R A9)<|Aa tbk [] 2 R R<|J 7 R R (Bj hm)) fun c hm=>Ac<|Ao hm R (fun h9 hm=>Ae tbk [] R R<|have hm:=Lr hm h3;Rt1 hm R [] R R R) fun h9 hm=>Am<|Bc tbk [] R R<|Ap _ () hm (Ag [] R R)) fun h4 hm=>A7<|Ar () hm (Ag [] R R)
 exact Ae tbk [] R R<|Rt1 hm R [] R R R

/-! trireme/triremeref06.Light -/
def ref06_Light.l1 (l : List T_api_Toleration) : Nat → Int → Option (Out Bool Unit)
 | 0, _ => none
 | n + 1, i2 =>
  if (decide (i2 < (l.length : Int))) = true then
   (V.gl l i2).bind fun x =>
   (if (decide ((x.Key.size : Int) > 300)) = true then some true else (V.gl l i2).bind fun x2 =>
   some (decide ((x2.Val.size : Int) > 300))).bind fun c =>
   if c = true then
    some (Out.ret false)
   else
    ref06_Light.l1 l n (i64.wrap (i2 + 1))
  else
   some (Out.go ())
def ref06_Light.l2 (taints : List T_api_Taint) : Nat → Int → Option (Out Bool Unit)
 | 0, _ => none
 | n2 + 1, i4 =>
  if (decide (i4 < (taints.length : Int))) = true then
   (V.gl taints i4).bind fun x3 =>
   (if (decide ((x3.Key.size : Int) > 300)) = true then some true else (V.gl taints i4).bind fun x4 =>
   some (decide ((x4.Val.size : Int) > 300))).bind fun c2 =>
   if c2 = true then
    some (Out.ret false)
   else
    ref06_Light.l2 taints n2 (i64.wrap (i4 + 1))
  else
   some (Out.go ())
def ref06_Light (l : List T_api_Toleration) (taints : List T_api_Taint) : Option Bool :=
 if ((decide ((l.length : Int) > 40)) || (decide ((taints.length : Int) > 40))) = true then
  some false
 else
  (ref06_Light.l1 l FU (0 : Int)).bind fun o =>
  o.on fun j =>
  (ref06_Light.l2 taints FU (0 : Int)).bind fun o2 =>
  o2.on fun j2 =>
  some true
theorem K5 (l : List T_api_Toleration) (taints : List T_api_Taint) : VS Tryz.prog 119 (ref06_Light l taints) [L172 l, L166 taints] [] .bool N0 := by
 refine A4 [.tmp 4] Tryz.func119 R R R fun r hm=>?_
 unfold ref06_Light at hm
 refine Ae tbk [] R R<|Af<|Ai<|Ab R R (Aj R)<|Ab R R (Aw T_api_Toleration.vv R Cu)<|Aa tbk [] 2 R R<|Cv 4 14 10 R (fun K' J=>Aa tbk [] 4 R R<|J 3 R R R) (fun h1 K' J=>Bb R R R R R (Aj R)<|Bb R R R R R (Aw T_api_Taint.vv R Cc)<|Aa tbk [] 2 R R<|J 3 R R R)<|Ac<|Ao hm R (fun h2 hm=>Ae tbk [] R R<|Rt1 hm R [] R R R) fun h2 hm=>Am<|Af<|Ae tbk [] R R<|Bw hm (fun _ (_:Unit)=>[(1,L166 taints)]) (fun _ (_:Unit)=>[]) (fun o hm h4=>?_) fun j _ hm=> ?_
 ·refine B1 (fun zn (zs:Int)=>ref06_Light.l1 l zn zs) (fun zs (_:Unit)=>[(0,L172 l),(1,L166 taints),(5,Iw zs)]) (fun _ (_:Unit)=>[]) _ () (fun _=>R) hm (Ag [] R R) fun n i2 _ hm=> ?_
  rw [ref06_Light.l1] at hm
  exact Af<|Ai<|Aa tbk [] 2 R R<|Ab R R (Aw T_api_Toleration.vv R Cu)<|Ab R R (Ba R R R)<|Ac<|Ao hm R (fun h5 hm=>Am<|Af<|A2<|Ai<|Aa tbk [] 2 R R<|Bd hm fun x h6 hm=>Ab R R (Bf T_api_Toleration.vv R R el44 h6)<|Aa tbk [] 2 R R<|Ab R R (Ci R A9)<|Aa tbk [] 2 R R<|Bh hm 8 36 28 R (fun _ K' h7 J hm=>Aa tbk [] 8 R R<|J 7 R R (Bj hm)) (fun _ K' h7 J hm=>Aa tbk [] 2 R R<|Bd hm fun x2 h8 hm=>Bb R R R R R (Bf T_api_Toleration.vv R R el44 h8)<|Aa tbk [] 2 R R<|Bb R R R R R (Ci R A9)<|Aa tbk [] 2 R R<|J 7 R R (Bj hm)) fun c hm=>Ac<|Ao hm R (fun h10 hm=>Ae tbk [] R R<|have hm:=Lr hm h4;Rt1 hm R [] R R R) fun h10 hm=>Am<|Bc tbk [] R R<|Ap _ () hm (Ag [] R R)) fun h5 hm=>A7<|Ar () hm (Ag [] R R)
 refine Af<|Ae tbk [] R R<|Bw hm (fun _ (_:Unit)=>[]) (fun _ (_:Unit)=>[]) (fun o2 hm h12=>?_) fun j2 _ hm=> ?_
 ·refine B1 (fun zn (zs:Int)=>ref06_Light.l2 taints zn zs) (fun zs (_:Unit)=>[(1,L166 taints),(6,Iw zs)]) (fun _ (_:Unit)=>[]) _ () (fun _=>R) hm (Ag [] R R) fun n2 i4 _ hm=> ?_
  rw [ref06_Light.l2] at hm
  exact Af<|Ai<|Aa tbk [] 2 R R<|Ab R R (Aw T_api_Taint.vv R Cc)<|Ab R R (Ba R R R)<|Ac<|Ao hm R (fun h13 hm=>Am<|Af<|A2<|Ai<|Aa tbk [] 2 R R<|Bd hm fun x3 h14 hm=>Ab R R (Bf T_api_Taint.vv R R el59 h14)<|Aa tbk [] 2 R R<|Ab R R (Ci R A9)<|Aa tbk [] 2 R R<|Bh hm 8 58 50 R (fun _ K' h15 J hm=>Aa tbk [] 8 R R<|J 7 R R (Bj hm)) (fun _ K' h15 J hm=>Aa tbk [] 2 R R<|Bd hm fun x4 h16 hm=>Bb R R R R R (Bf T_api_Taint.vv R R el59 h16)<|Aa tbk [] 2 R R<|Bb R R R R R (Ci R A9)<|Aa tbk [] 2 R R<|J 7 R R (Bj hm)) fun c2 hm=>Ac<|Ao hm R (fun h18 hm=>Ae tbk [] R R<|have hm:=Lr hm h12;Rt1 hm R [] R R R) fun h18 hm=>Am<|Bc tbk [] R R<|Ap _ () hm (Ag [] R R)) fun h13 hm=>A7<|Ar () hm (Ag [] R R)
 exact Ae tbk [] R R<|Rt1 hm R [] R R R

/-! trireme/triremeref07.LightMachine -/
def ref07_LightMachine (m : T_api_Machine) : Option Bool :=
 (if ((decide ((m.Name.size : Int) ≤ 300)) && (decide ((m.Group.size : Int) ≤ 300))) = true then (ref05_Light m.Labels).bind fun r =>
 some r else some false).bind fun c =>
 (if c = true then (ref06_Light ([] : List T_api_Toleration) m.Taints).bind fun r2 =>
 some r2 else some false).bind fun c2 =>
 some c2
theorem K6 (m : T_api_Machine) : VS Tryz.prog 65 (ref07_LightMachine m) [T_api_Machine.vv m] [] .bool N0 := by
 refine A4 [.tmp 2] Tryz.func65 R R R fun r hm=>?_
 unfold ref07_LightMachine at hm
 exact Ai<|Ad R R<|Bg R R fun b=>Ab R R (Ak R)<|Ac<|Ai<|Aa tbk [0] 2 R R<|Ab R R (Ci R A9)<|Aa tbk [] 2 R R<|Db 5 12 7 R (fun h2 K' J=>Aa tbk [0] 2 R R<|Bb R R R R R (Ci R A9)<|Aa tbk [] 2 R R<|J 4 R R R) (fun K' J=>Aa tbk [] 5 R R<|J 4 R R R)<|Ab R R (Aj R)<|Bh hm 4 17 13 R (fun _ K' h3 J hm=>Aa tbk [0] 2 R R<|A1 R R R R R<|Av hm 0 R fn93 R (K4 _) fun r hm=>Ab R R (Bk true R R R)<|J 3 R R (Bj hm)) (fun _ K' h3 J hm=>Aa tbk [] 4 R R<|J 3 R R (Bj hm)) fun c hm=>Ab R R (Aj R)<|Bh hm 4 22 18 R (fun _ K' h6 J hm=>Aa tbk [0] 2 R R<|A1 R R R R R<|Ds hm 0 [.nil 172,.same] R fn119 R (K5 _ _) fun r2 hm=>Ab R R (Bk true R R R)<|J 3 R R (Bj hm)) (fun _ K' h6 J hm=>Aa tbk [] 4 R R<|J 3 R R (Bj hm)) fun c2 hm=>Ab R R (Ak R)<|Ac<|Rt1 hm R [] R R R

/-! trireme/triremeref05.LightTerm -/
def ref05_LightTerm.l1 (t : T_api_Term) : Nat → Int → Option (Out Bool Unit)
 | 0, _ => none
 | n + 1, i2 =>
  if (decide (i2 < (t.Vals.length : Int))) = true then
   (V.gl t.Vals i2).bind fun x =>
   if (decide ((x.size : Int) > 300)) = true then
    some (Out.ret false)
   else
    ref05_LightTerm.l1 t n (i64.wrap (i2 + 1))
  else
   some (Out.go ())
def ref05_LightTerm (t : T_api_Term) : Option Bool :=
 if ((decide ((t.Vals.length : Int) > 40)) || (decide ((t.Key.size : Int) > 300))) = true then
  some false
 else
  (ref05_LightTerm.l1 t FU (0 : Int)).bind fun o =>
  o.on fun j =>
  some true
theorem K7 (t : T_api_Term) : VS Tryz.prog 120 (ref05_LightTerm t) [T_api_Term.vv t] [] .bool N0 := by
 refine A4 [.tmp 2] Tryz.func120 R R R fun r hm=>?_
 unfold ref05_LightTerm at hm
 refine Ai<|Ad R R<|Bg R R fun b=>Ab R R (Ak R)<|Ac<|Af<|Ai<|Aa tbk [0] 2 R R<|Ab R R (Aw VV.str R B2)<|Aa tbk [] 2 R R<|Cv 5 13 8 R (fun K' J=>Aa tbk [] 5 R R<|J 4 R R R) (fun h2 K' J=>Aa tbk [0] 2 R R<|Bb R R R R R (Ci R A9)<|Aa tbk [] 2 R R<|J 4 R R R)<|Ac<|Ao hm R (fun h3 hm=>Ae tbk [] R R<|Rt1 hm R [] R R R) fun h3 hm=>Am<|Af<|Ae tbk [] R R<|Bw hm (fun _ (_:Unit)=>[]) (fun _ (_:Unit)=>[]) (fun o hm h5=>?_) fun j _ hm=> ?_
 ·refine B1 (fun zn (zs:Int)=>ref05_LightTerm.l1 t zn zs) (fun zs (_:Unit)=>[(1,.ptr b 0),(3,Iw zs)]) (fun _ (_:Unit)=>[X142 b t]) _ () (fun _=>R) hm (Ag [0] R R) fun n i2 _ hm=> ?_
  rw [ref05_LightTerm.l1] at hm
  exact Af<|Ai<|Aa tbk [0] 3 R R<|Ab R R (Aw VV.str R B2)<|Ab R R (Ba R R R)<|Ac<|Ao hm R (fun h6 hm=>Am<|Af<|A2<|Ai<|Aa tbk [0] 3 R R<|Bd hm fun x h7 hm=>Ab R R (Bf VV.str R R el25 h7)<|Ab R R (Bt R ld9 R)<|Ab R R (Ci R A9)<|Ab R R (Ba R R R)<|Ac<|Ao hm R (fun h8 hm=>Ae tbk [] R R<|have hm:=Lr hm h5;Rt1 hm R [] R R R) fun h8 hm=>Am<|Bc tbk [] R R<|Ap _ () hm (Ag [0] R R)) fun h6 hm=>A7<|Ar () hm (Ag [] R R)
 exact Ae tbk [] R R<|Rt1 hm R [] R R R

/-! trireme/triremeref07.LightPod -/
def ref07_LightPod.l1 (p : T_api_Pod) : Nat → Int → Option (Out Bool Unit)
 | 0, _ => none
 | n + 1, i2 =>
  if (decide (i2 < (p.Terms.length : Int))) = true then
   (V.gl p.Terms i2).bind fun x =>
   (ref05_LightTerm x).bind fun r6 =>
   if (!r6) = true then
    some (Out.ret false)
   else
    ref07_LightPod.l1 p n (i64.wrap (i2 + 1))
  else
   some (Out.go ())
def ref07_LightPod (p : T_api_Pod) : Option Bool :=
 (if ((((decide ((p.Name.size : Int) > 300)) || (decide ((p.Owner.size : Int) > 300))) || (decide ((p.Terms.length : Int) > 30))) || (decide ((p.Ports.length : Int) > 30))) = true then some true else (ref05_Light p.Labels).bind fun r =>
 some (!r)).bind fun c =>
 (if c = true then some true else (ref05_Light p.Select).bind fun r2 =>
 some (!r2)).bind fun c2 =>
 (if c2 = true then some true else (ref05_Light p.Apart).bind fun r3 =>
 some (!r3)).bind fun c3 =>
 (if c3 = true then some true else (ref05_Light p.Spread).bind fun r4 =>
 some (!r4)).bind fun c4 =>
 (if c4 = true then some true else (ref06_Light p.Bears ([] : List T_api_Taint)).bind fun r5 =>
 some (!r5)).bind fun c5 =>
 if c5 = true then
  some false
 else
  (ref07_LightPod.l1 p FU (0 : Int)).bind fun o =>
  o.on fun j =>
  some true
theorem K8 (p : T_api_Pod) : VS Tryz.prog 66 (ref07_LightPod p) [T_api_Pod.vv p] [] .bool N0 := by
 refine A4 [.tmp 2] Tryz.func66 R R R fun r hm=>?_
 unfold ref07_LightPod at hm
 refine Ai<|Ad R R<|Bg R R fun b=>Ab R R (Ak R)<|Ac<|Af<|Ai<|Aa tbk [0] 2 R R<|Ab R R (Ci R A9)<|Aa tbk [] 2 R R<|Cv 5 13 8 R (fun K' J=>Aa tbk [] 5 R R<|J 4 R R R) (fun h2 K' J=>Aa tbk [0] 2 R R<|Bb R R R R R (Ci R A9)<|Aa tbk [] 2 R R<|J 4 R R R)<|Ab R R (Aj R)<|Cv 5 19 14 R (fun K' J=>Aa tbk [] 5 R R<|J 4 R R R) (fun h3 K' J=>Aa tbk [0] 2 R R<|Bb R R R R R (Aw T_api_Term.vv R Cl)<|Aa tbk [] 2 R R<|J 4 R R R)<|Ab R R (Aj R)<|Cv 5 25 20 R (fun K' J=>Aa tbk [] 5 R R<|J 4 R R R) (fun h4 K' J=>Aa tbk [0] 2 R R<|Bb R R R R R (Aw (VV.int .i64) R Cm)<|Aa tbk [] 2 R R<|J 4 R R R)<|Ab R R (Aj R)<|Bh hm 5 31 26 R (fun _ K' h5 J hm=>Aa tbk [] 5 R R<|J 4 R R (Bj hm)) (fun _ K' h5 J hm=>Aa tbk [0] 2 R R<|A1 R R R R R<|Av hm 0 R fn93 R (K4 _) fun r hm=>Aa tbk [] 2 R R<|J 4 R R (Bj hm)) fun c hm=>Ab R R (Aj R)<|Bh hm 5 37 32 R (fun _ K' h8 J hm=>Aa tbk [] 5 R R<|J 4 R R (Bj hm)) (fun _ K' h8 J hm=>Aa tbk [0] 2 R R<|A1 R R R R R<|Av hm 0 R fn93 R (K4 _) fun r2 hm=>Aa tbk [] 2 R R<|J 4 R R (Bj hm)) fun c2 hm=>Ab R R (Aj R)<|Bh hm 5 43 38 R (fun _ K' h11 J hm=>Aa tbk [] 5 R R<|J 4 R R (Bj hm)) (fun _ K' h11 J hm=>Aa tbk [0] 2 R R<|A1 R R R R R<|Av hm 0 R fn93 R (K4 _) fun r3 hm=>Aa tbk [] 2 R R<|J 4 R R (Bj hm)) fun c3 hm=>Ab R R (Aj R)<|Bh hm 5 49 44 R (fun _ K' h14 J hm=>Aa tbk [] 5 R R<|J 4 R R (Bj hm)) (fun _ K' h14 J hm=>Aa tbk [0] 2 R R<|A1 R R R R R<|Av hm 0 R fn93 R (K4 _) fun r4 hm=>Aa tbk [] 2 R R<|J 4 R R (Bj hm)) fun c4 hm=>Ab R R (Aj R)<|Bh hm 5 55 50 R (fun _ K' h17 J hm=>Aa tbk [] 5 R R<|J 4 R R (Bj hm)) (fun _ K' h17 J hm=>Aa tbk [0] 2 R R<|A1 R R R R R<|Ds hm 0 [.same,.nil 166] R fn119 R (K5 _ _) fun r5 hm=>Aa tbk [] 2 R R<|J 4 R R (Bj hm)) fun c5 hm=>Ac<|Ao hm R (fun h20 hm=>Ae tbk [] R R<|Rt1 hm R [] R R R) fun h20 hm=>Am<|Af<|Ae tbk [] R R<|Bw hm (fun _ (_:Unit)=>[]) (fun _ (_:Unit)=>[]) (fun o hm h22=>?_) fun j _ hm=> ?_
 ·refine B1 (fun zn (zs:Int)=>ref07_LightPod.l1 p zn zs) (fun zs (_:Unit)=>[(1,.ptr b 0),(3,Iw zs)]) (fun _ (_:Unit)=>[X47 b p]) _ () (fun _=>R) hm (Ag [0] R R) fun n i2 _ hm=> ?_
  rw [ref07_LightPod.l1] at hm
  exact Af<|Ai<|Aa tbk [0] 3 R R<|Ab R R (Aw T_api_Term.vv R Cl)<|Ab R R (Ba R R R)<|Ac<|Ao hm R (fun h23 hm=>Am<|Af<|A2<|Ai<|Aa tbk [0] 3 R R<|Bd hm fun x h24 hm=>Ab R R (Bf T_api_Term.vv R R el43 h24)<|Ab R R (Bt R ld142 R)<|Ad R R<|Av hm 0 R fn120 R (K7 _) fun r6 hm=>Ab R R (B6 R)<|Ac<|Ao hm R (fun h26 hm=>Ae tbk [] R R<|have hm:=Lr hm h22;Rt1 hm R [] R R R) fun h26 hm=>Am<|Bc tbk [] R R<|Ap _ () hm (Ag [0] R R)) fun h23 hm=>A7<|Ar () hm (Ag [] R R)
 exact Ae tbk [] R R<|Rt1 hm R [] R R R

/-! trireme/triremeref09.Light -/
def ref09_Light.l1 (ms : List T_api_Machine) : Nat → Int → Option (Out Bool Unit)
 | 0, _ => none
 | n + 1, i2 =>
  if (decide (i2 < (ms.length : Int))) = true then
   (V.gl ms i2).bind fun x =>
   (ref07_LightMachine x).bind fun r =>
   if (!r) = true then
    some (Out.ret false)
   else
    ref09_Light.l1 ms n (i64.wrap (i2 + 1))
  else
   some (Out.go ())
def ref09_Light.l2 (bs : List T_api_Bound) : Nat → Int → Option (Out Bool Unit)
 | 0, _ => none
 | n2 + 1, i4 =>
  if (decide (i4 < (bs.length : Int))) = true then
   (V.gl bs i4).bind fun x2 =>
   (ref07_LightPod x2.Pod).bind fun r2 =>
   (if (!r2) = true then some true else (V.gl bs i4).bind fun x3 =>
   some (decide ((x3.On.size : Int) > 300))).bind fun c =>
   if c = true then
    some (Out.ret false)
   else
    ref09_Light.l2 bs n2 (i64.wrap (i4 + 1))
  else
   some (Out.go ())
def ref09_Light (ms : List T_api_Machine) (bs : List T_api_Bound) : Option Bool :=
 if ((decide ((ms.length : Int) > 20)) || (decide ((bs.length : Int) > 40))) = true then
  some false
 else
  (ref09_Light.l1 ms FU (0 : Int)).bind fun o =>
  o.on fun j =>
  (ref09_Light.l2 bs FU (0 : Int)).bind fun o2 =>
  o2.on fun j2 =>
  some true
theorem K9 (ms : List T_api_Machine) (bs : List T_api_Bound) : VS Tryz.prog 27 (ref09_Light ms bs) [L61 ms, L49 bs] [] .bool N0 := by
 refine A4 [.tmp 4] Tryz.func27 R R R fun r hm=>?_
 unfold ref09_Light at hm
 refine Ae tbk [] R R<|Af<|Ai<|Ab R R (Aj R)<|Ab R R (Aw T_api_Machine.vv R Ay)<|Aa tbk [] 2 R R<|Cv 4 14 10 R (fun K' J=>Aa tbk [] 4 R R<|J 3 R R R) (fun h1 K' J=>Bb R R R R R (Aj R)<|Bb R R R R R (Aw T_api_Bound.vv R Bq)<|Aa tbk [] 2 R R<|J 3 R R R)<|Ac<|Ao hm R (fun h2 hm=>Ae tbk [] R R<|Rt1 hm R [] R R R) fun h2 hm=>Am<|Af<|Ae tbk [] R R<|Bw hm (fun _ (_:Unit)=>[(1,L49 bs)]) (fun _ (_:Unit)=>[]) (fun o hm h4=>?_) fun j _ hm=> ?_
 ·refine B1 (fun zn (zs:Int)=>ref09_Light.l1 ms zn zs) (fun zs (_:Unit)=>[(0,L61 ms),(1,L49 bs),(5,Iw zs)]) (fun _ (_:Unit)=>[]) _ () (fun _=>R) hm (Ag [] R R) fun n i2 _ hm=> ?_
  rw [ref09_Light.l1] at hm
  exact Af<|Ai<|Aa tbk [] 2 R R<|Ab R R (Aw T_api_Machine.vv R Ay)<|Ab R R (Ba R R R)<|Ac<|Ao hm R (fun h5 hm=>Am<|Af<|A2<|Ai<|Aa tbk [] 2 R R<|Bd hm fun x h6 hm=>Ab R R (Bf T_api_Machine.vv R R el22 h6)<|Ab R R (Bt R ld61 R)<|Ad R R<|Av hm 0 R fn65 R (K6 _) fun r hm=>Ab R R (B6 R)<|Ac<|Ao hm R (fun h8 hm=>Ae tbk [] R R<|have hm:=Lr hm h4;Rt1 hm R [] R R R) fun h8 hm=>Am<|Bc tbk [] R R<|Ap _ () hm (Ag [] R R)) fun h5 hm=>A7<|Ar () hm (Ag [] R R)
 refine Af<|Ae tbk [] R R<|Bw hm (fun _ (_:Unit)=>[]) (fun _ (_:Unit)=>[]) (fun o2 hm h10=>?_) fun j2 _ hm=> ?_
 ·refine B1 (fun zn (zs:Int)=>ref09_Light.l2 bs zn zs) (fun zs (_:Unit)=>[(1,L49 bs),(6,Iw zs)]) (fun _ (_:Unit)=>[]) _ () (fun _=>R) hm (Ag [] R R) fun n2 i4 _ hm=> ?_
  rw [ref09_Light.l2] at hm
  exact Af<|Ai<|Aa tbk [] 2 R R<|Ab R R (Aw T_api_Bound.vv R Bq)<|Ab R R (Ba R R R)<|Ac<|Ao hm R (fun h11 hm=>Am<|Af<|A2<|Ai<|Aa tbk [] 2 R R<|Bd hm fun x2 h12 hm=>Ab R R (Bf T_api_Bound.vv R R el23 h12)<|Aa tbk [] 2 R R<|Ad R R<|Av hm 0 R fn66 R (K8 _) fun r2 hm=>Aa tbk [] 2 R R<|Bh hm 8 48 40 R (fun _ K' h14 J hm=>Aa tbk [] 8 R R<|J 7 R R (Bj hm)) (fun _ K' h14 J hm=>Aa tbk [] 2 R R<|Bd hm fun x3 h15 hm=>Bb R R R R R (Bf T_api_Bound.vv R R el23 h15)<|Aa tbk [] 2 R R<|Bb R R R R R (Ci R A9)<|Aa tbk [] 2 R R<|J 7 R R (Bj hm)) fun c hm=>Ac<|Ao hm R (fun h17 hm=>Ae tbk [] R R<|have hm:=Lr hm h10;Rt1 hm R [] R R R) fun h17 hm=>Am<|Bc tbk [] R R<|Ap _ () hm (Ag [] R R)) fun h11 hm=>A7<|Ar () hm (Ag [] R R)
 exact Ae tbk [] R R<|Rt1 hm R [] R R R

/-! trireme/lex.right -/
def lex_right (s : ByteArray) (i : Int) (c : Int) : Option Bool :=
 (if (c != 65533) = true then some true else (if (decide ((i64.wrap (i + 2)) < (s.size : Int))) = true then (V.gi s i).bind fun v =>
 some (v == 239) else some false).bind fun c2 =>
 (if c2 = true then (V.gi s (i64.wrap (i + 1))).bind fun v2 =>
 some (v2 == 191) else some false).bind fun c3 =>
 (if c3 = true then (V.gi s (i64.wrap (i + 2))).bind fun v3 =>
 some (v3 == 189) else some false).bind fun c4 =>
 some c4).bind fun c5 =>
 some c5
theorem K10 (s : ByteArray) (i : Int) (c : Int) : VS Tryz.prog 200 (lex_right s i c) [.str s, Iw i, .int .i32 c] [] .bool N0 := by
 refine A4 [.tmp 6] Tryz.func200 R R R fun r hm=>?_
 unfold lex_right at hm
 exact Ae tbk [] R R<|Ai<|Aa tbk [] 3 R R<|Bh hm 26 35 9 R (fun _ K' h1 J hm=>Aa tbk [] 26 R R<|J 25 R R (Bj hm)) (fun _ K' h1 J hm=>Aa tbk [] 3 R R<|Bb R R R R R (Ci R A9)<|Aa tbk [] 2 R R<|Bh hm 5 20 15 R (fun _ K' h2 J hm=>Aa tbk [] 2 R R<|Bd hm fun v h3 hm=>Bb R R R R R (C1 R R A9 h3)<|Aa tbk [] 2 R R<|J 4 R R (Bj hm)) (fun _ K' h2 J hm=>Aa tbk [] 5 R R<|J 4 R R (Bj hm)) fun c2 hm=>Bb R R R R R (Aj R)<|Bh hm 6 27 21 R (fun _ K' h5 J hm=>Aa tbk [] 3 R R<|Bd hm fun v2 h6 hm=>Bb R R R R R (C1 R R A9 h6)<|Aa tbk [] 2 R R<|J 5 R R (Bj hm)) (fun _ K' h5 J hm=>Aa tbk [] 6 R R<|J 5 R R (Bj hm)) fun c3 hm=>Bb R R R R R (Aj R)<|Bh hm 6 34 28 R (fun _ K' h8 J hm=>Aa tbk [] 3 R R<|Bd hm fun v3 h9 hm=>Bb R R R R R (C1 R R A9 h9)<|Aa tbk [] 2 R R<|J 5 R R (Bj hm)) (fun _ K' h8 J hm=>Aa tbk [] 6 R R<|J 5 R R (Bj hm)) fun c4 hm=>Ab R R (Bk false R R R)<|J 11 R R (Bj hm)) fun c5 hm=>Ab R R (Ak R)<|Ac<|Rt1 hm R [] R R R

/-! trireme/lex.plain -/
def lex_plain (c : Int) : Option Bool :=
 (if (c == 40) = true then
  some (c == 40)
 else
  if (c == 41) = true then
   some (c == 41)
  else
   if (c == 34) = true then
    some (c == 34)
   else
    if (c == 59) = true then
     some (c == 59)
    else
     some (c == 127)).bind fun v2 =>
 if v2 = true then
  some false
 else
  some (decide (c > 32))
theorem K11 (c : Int) : VS Tryz.prog 172 (lex_plain c) [.int .i32 c] [] .bool N0 := by
 refine A4 [.tmp 2] Tryz.func172 R R R fun r hm=>?_
 unfold lex_plain at hm
 exact Ae tbk [] R R<|Af<|Ae tbk [] R R<|A2<|Dm hm (fun v2 (_:Unit)=>[(0,.int .i32 c),(4,.bool v2)]) (fun _ (_:Unit)=>[]) (fun o hm=>Ae tbk [] R R<|Ao hm R (fun h3 hm=>Am<|As () hm (Ag [] R R)) fun h3 hm=>Ae tbk [] R R<|Ao hm R (fun h4 hm=>Am<|As () hm (Ag [] R R)) fun h4 hm=>Ae tbk [] R R<|Ao hm R (fun h5 hm=>Am<|As () hm (Ag [] R R)) fun h5 hm=>Ae tbk [] R R<|Ao hm R (fun h6 hm=>Am<|As () hm (Ag [] R R)) fun h6 hm=>Bc tbk [] R R<|As () hm (Ag [] R R)) fun v2 _ hm=>Ao hm R (fun h7 hm=>Ae tbk [] R R<|Rt1 hm R [] R R R) fun h7 hm=>Am<|Ae tbk [] R R<|Rt1 hm R [] R R R

/-! trireme/lex.head -/
def lex_head_lex_plain.l1 (s : ByteArray) : Nat → Nat → Option (Out (Int × Bool) Unit)
 | 0, _ => none
 | n + 1, pos2 =>
  if pos2 < s.size then
   (lex_right s (pos2 : Int) ((Utf8.decode s pos2).1 : Int)).bind fun r =>
   if (!r) = true then
    some (Out.ret ((pos2 : Int), false))
   else
    (lex_plain ((Utf8.decode s pos2).1 : Int)).bind fun r2 =>
    if (!r2) = true then
     some (Out.ret ((pos2 : Int), true))
    else
     lex_head_lex_plain.l1 s n (pos2 + (Utf8.decode s pos2).2)
  else
   some (Out.go ())
def lex_head_lex_plain (s : ByteArray) : Option (Int × Bool) :=
 (lex_head_lex_plain.l1 s FU 0).bind fun o =>
 o.on fun j =>
 some ((s.size : Int), true)
theorem K12 (s : ByteArray) : VS Tryz.prog 171 (lex_head_lex_plain s) [.str s, .clo (.func 172) [] []] [] (fun r=>.tup [Iw r.1, .bool r.2]) N0 := by
 refine A4 [.tmp 4,.tmp 5] Tryz.func171 R R R fun r hm=>?_
 unfold lex_head_lex_plain at hm
 refine Ae tbk [] R R<|Af<|Ai<|Ab R R (Aj R)<|Ad R R<|VO.range A9 R fun b=>Ac<|Bw hm (fun _ (_:Unit)=>[(0,.str s)]) (fun _ (_:Unit)=>[]) (fun o hm h3=>?_) fun j _ hm=> ?_
 ·refine B1 (fun zn (zs:Nat)=>lex_head_lex_plain.l1 s zn zs) (fun _ (_:Unit)=>[(0,.str s),(1,.clo (.func 172) [] []),(9,.ptr b 0)]) (fun zs (_:Unit)=>[.iter b s zs]) _ () (fun _=>R) hm (Ag [0] R R) fun n pos2 _ hm=> ?_
  rw [lex_head_lex_plain.l1] at hm
  exact Ai<|Ad R R<|VO.nx hm 0 R R (fun h4 hm=>Ab R R (Dt R R)<|Ac<|Af<|B7 R R<|Am<|A2<|Ae tbk [] R R<|Af<|Ai<|Aa tbk [] 3 R R<|Ad R R<|Av hm 0 R fn200 R (K10 _ _ _) fun r hm=>Ab R R (B6 R)<|Ac<|Ao hm R (fun h6 hm=>Ae tbk [] R R<|have hm:=Lr hm h3;Rt2 hm R [] R R R R) fun h6 hm=>Am<|Ai<|Aa tbk [] 2 R R<|Ad R R<|Av hm 0 R fn172 R (K11 _) fun r2 hm=>Ab R R (B6 R)<|Ac<|Ao hm R (fun h8 hm=>Ae tbk [] R R<|have hm:=Lr hm h3;Rt2 hm R [] R R R R) fun h8 hm=>Am<|Ap _ () hm (Ag [0] R R)) fun h4 hm=>Ab R R (Dt R R)<|Ac<|Af<|Ca R R<|A7<|Ar () hm (Ag [] R R)
 exact Ai<|Ab R R (Aj R)<|Ab R R (Ci R A9)<|Aa tbk [] 2 R R<|Ac<|Rt2 hm R [] R R R R

/-! trireme/lex.Runes -/
def lex_Runes.l1 (s : ByteArray) : Nat → Int → Nat → Option (Out Int Int)
 | 0, _, _ => none
 | n4 + 1, n2, pos2 =>
  if pos2 < s.size then
   (lex_right s (pos2 : Int) ((Utf8.decode s pos2).1 : Int)).bind fun r =>
   if (!r) = true then
    some (Out.ret (-1))
   else
    lex_Runes.l1 s n4 (i64.wrap (n2 + 1)) (pos2 + (Utf8.decode s pos2).2)
  else
   some (Out.go n2)
def lex_Runes (s : ByteArray) : Option Int :=
 (lex_Runes.l1 s FU 0 0).bind fun o =>
 o.on fun n32 =>
 some n32
theorem K13 (s : ByteArray) : VS Tryz.prog 173 (lex_Runes s) [.str s] [] Iw N0 := by
 refine A4 [.tmp 2] Tryz.func173 R R R fun r hm=>?_
 unfold lex_Runes at hm
 refine Ae tbk [] R R<|Ae tbk [] R R<|Af<|Ai<|Ab R R (Aj R)<|Ad R R<|VO.range A9 R fun b=>Ac<|Bw hm (fun n32 (_:Unit)=>[(3,Iw n32)]) (fun _ (_:Unit)=>[]) (fun o hm h3=>?_) fun n32 _ hm=> ?_
 ·refine B1 (fun zn (zs:Int × Nat)=>lex_Runes.l1 s zn zs.1 zs.2) (fun zs (_:Unit)=>[(0,.str s),(3,Iw zs.1),(7,.ptr b 0)]) (fun zs (_:Unit)=>[.iter b s zs.2]) ((0 : Int),0) () (fun _=>R) hm (Ag [0] R R) fun n4=>Pq fun n2 pos2 _ hm=> ?_
  rw [lex_Runes.l1] at hm
  exact Ai<|Ad R R<|VO.nx hm 0 R R (fun h4 hm=>Ab R R (Dt R R)<|Ac<|Af<|B7 R R<|Am<|A2<|Ae tbk [] R R<|Af<|Ai<|Aa tbk [] 3 R R<|Ad R R<|Av hm 0 R fn200 R (K10 _ _ _) fun r hm=>Ab R R (B6 R)<|Ac<|Ao hm R (fun h6 hm=>Ae tbk [] R R<|have hm:=Lr hm h3;Rt1 hm R [] R R R) fun h6 hm=>Am<|Bc tbk [] R R<|Ap ((IntKind.i64.wrap (n2 + (1 : Int))),(pos2 + (Utf8.decode s pos2).2)) () hm (Ag [0] R R)) fun h4 hm=>Ab R R (Dt R R)<|Ac<|Af<|Ca R R<|A7<|Ar () hm (Ag [] R R)
 exact Ae tbk [] R R<|Rt1 hm R [] R R R

/-! trireme/lex.Word -/
def lex_Word (s : ByteArray) : Option Bool :=
 (lex_head_lex_plain s).bind fun r =>
 (if ((r.2 && (r.1 == (s.size : Int))) && (decide (r.1 > 0))) = true then (lex_Runes s).bind fun r2 =>
 some (decide (r2 ≤ 64)) else some false).bind fun c =>
 some c
theorem K14 (s : ByteArray) : VS Tryz.prog 128 (lex_Word s) [.str s] [] .bool N0 := by
 refine A4 [.tmp 2] Tryz.func128 R R R fun r hm=>?_
 unfold lex_Word at hm
 exact Ae tbk [] R R<|Ai<|Ab R R (Aj R)<|Ad R R<|Av hm 0 R fn171 R (K12 _) fun r hm=>Aa tbk [] 5 R R<|Ac<|Ai<|Aa tbk [] 2 R R<|Db 5 16 11 R (fun h2 K' J=>Aa tbk [] 2 R R<|Bb R R R R R (Ci R A9)<|Aa tbk [] 2 R R<|J 4 R R R) (fun K' J=>Aa tbk [] 5 R R<|J 4 R R R)<|Ab R R (Aj R)<|B5 tbk [] 3 20 17 R R R R R<|Ab R R (Aj R)<|Bh hm 4 25 21 R (fun _ K' h4 J hm=>Bb R R R R R (Aj R)<|A1 R R R R R<|Av hm 0 R fn173 R (K13 _) fun r2 hm=>Aa tbk [] 2 R R<|J 3 R R (Bj hm)) (fun _ K' h4 J hm=>Aa tbk [] 4 R R<|J 3 R R (Bj hm)) fun c hm=>Ab R R (Ak R)<|Ac<|Rt1 hm R [] R R R

/-! trireme/spec.maybe -/
def spec_maybe (s : ByteArray) : Option Bool :=
 (if (V.seq s (⟨#[]⟩ : ByteArray)) = true then some true else (lex_Word s).bind fun r =>
 some r).bind fun c =>
 some c
theorem K15 (s : ByteArray) : VS Tryz.prog 129 (spec_maybe s) [.str s] [] .bool N0 := by
 refine A4 [.tmp 2] Tryz.func129 R R R fun r hm=>?_
 unfold spec_maybe at hm
 exact Ae tbk [] R R<|Ai<|Aa tbk [] 3 R R<|Bh hm 3 8 5 R (fun _ K' h1 J hm=>Aa tbk [] 3 R R<|J 2 R R (Bj hm)) (fun _ K' h1 J hm=>Bb R R R R R (Aj R)<|A1 R R R R R<|Av hm 0 R fn128 R (K14 _) fun r hm=>Ab R R (Bk false R R R)<|J 2 R R (Bj hm)) fun c hm=>Ab R R (Ak R)<|Ac<|Rt1 hm R [] R R R

/-! trireme/res.row -/
def res_row (a : T_api_Res) : Option Arr5_Int :=
 some (⟨a.Cpu, a.Mem, a.Disk, a.Pods, a.Dev⟩ : Arr5_Int)
theorem K16 (a : T_api_Res) : VS Tryz.prog 174 (res_row a) [T_api_Res.vv a] [] (fun r=>Arr5_Int.vv r) N0 := by
 refine A4 [.cell 2 183] Tryz.func174 R R R fun r hm=>?_
 unfold res_row at hm
 exact Ai<|Ad R R<|Bg R R fun b=>Ad R R<|A3 z183 fun b2=>Ac<|Ai<|Aa tbk [1,1,1,1,1] 10 R R<|Ab R R (B4 pl183 R R)<|Ad R R<|An (i:=0) R R R ld183 R R R<|Ac<|Rt0 hm R [] (.cons (.cell _ _ _ _ 0 _ _ _ _ R R ld183 R) .nil) R R

/-! trireme/res.Right -/
def res_Right.l1 (r : Arr5_Int) : Nat → Int → Option (Out Bool Unit)
 | 0, _ => none
 | n + 1, v2 =>
  if (decide (v2 < 5)) = true then
   (V.gl (Arr5_Int.l r) v2).bind fun x =>
   if ((decide (x < 0)) || (decide (x > 1125899906842624))) = true then
    some (Out.ret false)
   else
    res_Right.l1 r n (i64.wrap (v2 + 1))
  else
   some (Out.go ())
def res_Right (a : T_api_Res) : Option Bool :=
 (res_row a).bind fun r =>
 (res_Right.l1 r FU (0 : Int)).bind fun o =>
 o.on fun j =>
 some true
theorem K17 (a : T_api_Res) : VS Tryz.prog 130 (res_Right a) [T_api_Res.vv a] [] .bool N0 := by
 refine A4 [.tmp 2] Tryz.func130 R R R fun r hm=>?_
 unfold res_Right at hm
 refine Ai<|Ad R R<|Bg R R fun b=>Ab R R (Ak R)<|Ac<|Af<|Ai<|Aa tbk [0] 1 R R<|Ad R R<|Av hm 0 R fn174 R (K16 _) fun r hm=>Ab R R (Aj R)<|Ac<|Bw hm (fun _ (_:Unit)=>[]) (fun _ (_:Unit)=>[]) (fun o hm h4=>?_) fun j _ hm=> ?_
 ·refine B1 (fun zn (zs:Int)=>res_Right.l1 r zn zs) (fun zs (_:Unit)=>[(6,Arr5_Int.vv r),(7,Iw zs)]) (fun _ (_:Unit)=>[]) _ () (fun _=>R) hm (Ag [] R R) fun n v2 _ hm=> ?_
  rw [res_Right.l1] at hm
  exact Ae tbk [] R R<|Af<|Ao hm R (fun h5 hm=>Am<|Af<|A2<|Ai<|Bd hm fun x h6 hm=>Ab R R (VP.indexG (f:=(VV.int .i64)) R R ar183 R ld3 h6)<|Ab R R (Ak R)<|Ac<|Ai<|Aa tbk [] 3 R R<|Cr tbk [] 3 15 12 R R R R R<|Ac<|Ao hm R (fun h8 hm=>Ae tbk [] R R<|have hm:=Lr hm h4;Rt1 hm R [] R R R) fun h8 hm=>Am<|Bc tbk [] R R<|Ap _ () hm (Ag [] R R)) fun h5 hm=>A7<|Ar () hm (Ag [] R R)
 exact Ae tbk [] R R<|Rt1 hm R [] R R R

/-! trireme/labels.maybe -/
def labels_maybe (s : ByteArray) : Option Bool :=
 (if (V.seq s (⟨#[]⟩ : ByteArray)) = true then some true else (lex_Word s).bind fun r =>
 some r).bind fun c =>
 some c
theorem K18 (s : ByteArray) : VS Tryz.prog 169 (labels_maybe s) [.str s] [] .bool N0 := by
 refine A4 [.tmp 2] Tryz.func169 R R R fun r hm=>?_
 unfold labels_maybe at hm
 exact Ae tbk [] R R<|Ai<|Aa tbk [] 3 R R<|Bh hm 3 8 5 R (fun _ K' h1 J hm=>Aa tbk [] 3 R R<|J 2 R R (Bj hm)) (fun _ K' h1 J hm=>Bb R R R R R (Aj R)<|A1 R R R R R<|Av hm 0 R fn128 R (K14 _) fun r hm=>Ab R R (Bk false R R R)<|J 2 R R (Bj hm)) fun c hm=>Ab R R (Ak R)<|Ac<|Rt1 hm R [] R R R

/-! trireme/labels.Right -/
def labels_Right.l1 (l : List T_api_Label) : List T_api_Label → Nat → (List (ByteArray × Int)) → Option (Out Bool Unit)
 | [], k, had2 => some (Out.go ())
 | x :: l2, k, had2 =>
  (if (decide (((V.mg (V.mp had2 x.Key (i64.wrap (((V.mg had2 x.Key).getD 0) + 1))) x.Key).getD 0) > 1)) = true then some true else (lex_Word x.Key).bind fun r =>
  some (!r)).bind fun c =>
  (if c = true then some true else (labels_maybe x.Val).bind fun r2 =>
  some (!r2)).bind fun c2 =>
  (if c2 = true then some true else (if (decide ((k : Int) > 0)) = true then (V.gl l (i64.wrap ((k : Int) - 1))).bind fun x2 =>
  some (!(V.slt x2.Key x.Key || V.seq x2.Key x.Key)) else some false).bind fun c3 =>
  some c3).bind fun c4 =>
  if c4 = true then
   some (Out.ret false)
  else
   labels_Right.l1 l l2 (k + 1) (V.mp had2 x.Key (i64.wrap (((V.mg had2 x.Key).getD 0) + 1)))
def labels_Right (l : List T_api_Label) : Option Bool :=
 (labels_Right.l1 l l 0 ([] : List (ByteArray × Int))).bind fun o =>
 o.on fun j =>
 some (decide ((l.length : Int) ≤ 16))
theorem K19 (l : List T_api_Label) : VS Tryz.prog 127 (labels_Right l) [L92 l] [] .bool N0 := by
 refine A4 [.tmp 2] Tryz.func127 R R R fun r hm=>?_
 unfold labels_Right at hm
 refine Ae tbk [] R R<|Ai<|Ad R R<|Dj fun b=>Ab R R (Ak R)<|Ac<|Af<|Ai<|Ab R R (Aj R)<|Ab R R (Aw T_api_Label.vv R Bu)<|Ab R R (Aj R)<|Ac<|Cj 0 R fun h4=>Bw hm (fun _ (_:Unit)=>[(0,L92 l)]) (fun _ (_:Unit)=>[]) (fun o hm h3=>?_) fun j _ hm=> ?_
 ·refine Cx (l) (fun zl zk (zs:List (ByteArray × Int))=>labels_Right.l1 l zl zk zs) (fun k _ (_:Unit)=>[(0,L92 l),(3,.map b),(7,L92 l),(8,Iw (l.length : Int)),(9,Iw (k : Int))]) (fun _ zs (_:Unit)=>[.map b (List.map (pf VV.str (VV.int .i64)) zs)]) _ () hm (Ag [0] R R) (fun k had2 _ hk hm=>?_) fun k x l2 had2 _ h5 hm=> ?_
  ·rw [labels_Right.l1] at hm
   exact Ae tbk [] R R<|Af<|Ca R (k_end hk)<|A7<|Ar () hm (Ag [] R R)
  rw [labels_Right.l1] at hm
  refine Ae tbk [] R R<|Af<|B7 R (k_lt h5)<|Am<|Af<|A2<|Ai<|Ab R R (Aj R)<|Ab R R (Cp T_api_Label.vv R R el42 h5)<|Ab R R (Bt R ld92 R)<|Ad R R<|A3 z92 fun b2=>Ab R R (Ak R)<|Ad R R<|An (i:=0) R R R ld92 R R R<|Ac<|Ai<|Aa tbk [0] 3 R R<|Ab R R (C0 1 (kf:=VV.str) (vf:=(VV.int .i64)) (l:=had2) (k:=x.Key) (z:=(0 : Int)) false mk9 B8 R R R zc3 R)<|Ab R R (Ba R R R)<|Ad R R<|De 1 (kf:=VV.str) (vf:=(VV.int .i64)) (l:=had2) (k:=x.Key) (z:=(IntKind.i64.wrap (((V.mg had2 x.Key).getD (0 : Int)) + (1 : Int)))) mk9 B8 R R R R<|Ac<|Af<|Be 0 mixed<|Aq tbk [0,1,2] [0] (by kernel_rfl) R R R<|Ax 3 R R R (by kernel_rfl) (C0 1 (kf:=VV.str) (vf:=(VV.int .i64)) (l:=(V.mp had2 x.Key (IntKind.i64.wrap (((V.mg had2 x.Key).getD (0 : Int)) + (1 : Int))))) (k:=x.Key) (z:=(0 : Int)) false mk9 B8 R R R zc3 R)<|Aq tbk [4,5] [] (by kernel_rfl) R R R<|Cw hm [10,9,8,7,6,5,4,3,2,1,0] 29 24 R (fun _ K' h7 J hm=>Aq tbk [6,7,8,9,10] [] (by kernel_rfl) R R R<|J 4 R R (Bj hm)) (fun _ K' h7 J hm=>Aq tbk [6,7] [0] (by kernel_rfl) R R R<|Ah 8 (by kernel_rfl)<|Bo R R R R R R<|Av hm 0 R fn128 R (K14 _) fun r hm=>Aq tbk [9,10] [] (by kernel_rfl) R R R<|J 4 R R (Bj hm)) fun c hm=>Ax 11 R R R (by kernel_rfl) (Aj R)<|Cw hm [16,15,14,13,12,11,10,9,8,7,6,5,4,3,2,1,0] 35 30 R (fun _ K' h10 J hm=>Aq tbk [12,13,14,15,16] [] (by kernel_rfl) R R R<|J 4 R R (Bj hm)) (fun _ K' h10 J hm=>Aq tbk [12,13] [0] (by kernel_rfl) R R R<|Ah 14 (by kernel_rfl)<|Bo R R R R R R<|Av hm 0 R fn169 R (K18 _) fun r2 hm=>Aq tbk [15,16] [] (by kernel_rfl) R R R<|J 4 R R (Bj hm)) fun c2 hm=>Ax 17 R R R (by kernel_rfl) (Aj R)<|Cw hm [31,30,29,28,27,26,25,24,23,22,21,20,19,18,17,16,15,14,13,12,11,10,9,8,7,6,5,4,3,2,1,0] 50 36 R (fun _ K' h13 J hm=>Aq tbk [18,19,20,21,22,23,24,25,26,27,28,29,30,31] [] (by kernel_rfl) R R R<|J 13 R R (Bj hm)) (fun _ K' h13 J hm=>Aq tbk [18,19,20] [] (by kernel_rfl) R R R<|Cw hm [30,29,28,27,26,25,24,23,22,21,20,19,18,17,16,15,14,13,12,11,10,9,8,7,6,5,4,3,2,1,0] 49 39 R (fun _ K' h14 J hm=>Aq tbk [21,22,23] [] (by kernel_rfl) R R R<|Bd hm fun x2 h15 hm=>Cs 24 R R R R R R (by kernel_rfl) (Bf T_api_Label.vv R R el42 h15)<|Aq tbk [25,26,27,28,29,30] [0] (by kernel_rfl) R R R<|J 9 R R (Bj hm)) (fun _ K' h14 J hm=>Aq tbk [21,22,23,24,25,26,27,28,29,30] [] (by kernel_rfl) R R R<|J 9 R R (Bj hm)) fun c3 hm=>Ax 31 R R R (by kernel_rfl) (Bk false R R R)<|J 4 R R (Bj hm)) fun c4 hm=>A0 (by kernel_rfl)<|?_
  exact Ao hm R (fun h18 hm=>Ae tbk [] R R<|have hm:=Lr hm h3;Rt1 hm R [] R R R) fun h18 hm=>Am<|Bc tbk [] R R<|Ap _ () hm (B0 [1] R ⟨R,R,R,R,congrArg some (k_next h5 h4),trivial⟩)
 exact Ai<|Ab R R (Aj R)<|Ab R R (Aw T_api_Label.vv R Bu)<|Aa tbk [] 2 R R<|Ac<|Rt1 hm R [] R R R

/-! trireme/taints.maybe -/
def taints_maybe (s : ByteArray) : Option Bool :=
 (if (V.seq s (⟨#[]⟩ : ByteArray)) = true then some true else (lex_Word s).bind fun r =>
 some r).bind fun c =>
 some c
theorem K20 (s : ByteArray) : VS Tryz.prog 175 (taints_maybe s) [.str s] [] .bool N0 := by
 refine A4 [.tmp 2] Tryz.func175 R R R fun r hm=>?_
 unfold taints_maybe at hm
 exact Ae tbk [] R R<|Ai<|Aa tbk [] 3 R R<|Bh hm 3 8 5 R (fun _ K' h1 J hm=>Aa tbk [] 3 R R<|J 2 R R (Bj hm)) (fun _ K' h1 J hm=>Bb R R R R R (Aj R)<|A1 R R R R R<|Av hm 0 R fn128 R (K14 _) fun r hm=>Ab R R (Bk false R R R)<|J 2 R R (Bj hm)) fun c hm=>Ab R R (Ak R)<|Ac<|Rt1 hm R [] R R R

/-! trireme/taints.known -/
def taints_known (effect : Int) : Option Bool :=
 some (((effect == 1) || (effect == 2)) || (effect == 3))
theorem K21 (effect : Int) : VS Tryz.prog 176 (taints_known effect) [Iw effect] [] .bool N0 := by
 refine A4 [.tmp 2] Tryz.func176 R R R fun r hm=>?_
 unfold taints_known at hm
 exact Ae tbk [] R R<|Ai<|Aa tbk [] 3 R R<|Cr tbk [] 3 8 5 R R R R R<|Ab R R (Aj R)<|Cr tbk [] 3 12 9 R R R R R<|Ab R R (Ak R)<|Ac<|Rt1 hm R [] R R R

/-! trireme/taints.like -/
def taints_like (x : T_api_Taint) : Option T_api_Taint :=
 some (⟨x.Key, (⟨#[]⟩ : ByteArray), x.Effect⟩ : T_api_Taint)
theorem K22 (x : T_api_Taint) : VS Tryz.prog 179 (taints_like x) [T_api_Taint.vv x] [] (fun r=>T_api_Taint.vv r) N0 := by
 refine A4 [.cell 2 166] Tryz.func179 R R R fun r hm=>?_
 unfold taints_like at hm
 exact Ai<|Ad R R<|Bg R R fun b=>Ad R R<|A3 z166 fun b2=>Ac<|Ai<|Ab R R (C6 R fa166_1)<|Ad R R<|An (i:=1) R R R ld9 R R R<|Ac<|Ai<|Aa tbk [1] 1 R R<|Ad R R<|An (i:=0) R R R ld166 R R R<|Ac<|Rt0 hm R [] (.cons (.cell _ _ _ _ 0 _ _ _ _ R R ld166 R) .nil) R R

/-! trireme/taints.Right -/
def taints_Right.l2 (x : T_api_Taint) : List T_api_Taint → Nat → Option (Out (Out Bool Unit) Unit)
 | [], k2 => some (Out.go ())
 | x2 :: l3, k2 =>
  (taints_like x).bind fun r4 =>
  (taints_like x2).bind fun r5 =>
  if (((r4.Key == r5.Key) && ((r4.Val == r5.Val) && ((r4.Effect == r5.Effect) && true))) == true) = true then
   some (Out.ret (Out.ret false))
  else
   taints_Right.l2 x l3 (k2 + 1)
def taints_Right.l1 (l : List T_api_Taint) : List T_api_Taint → Nat → Option (Out Bool Unit)
 | [], k => some (Out.go ())
 | x :: l2, k =>
  (lex_Word x.Key).bind fun r =>
  (if (!r) = true then some true else (taints_maybe x.Val).bind fun r2 =>
  some (!r2)).bind fun c =>
  (if c = true then some true else (taints_known x.Effect).bind fun r3 =>
  some (!r3)).bind fun c2 =>
  if c2 = true then
   some (Out.ret false)
  else
   (V.sl l none (some (k : Int))).bind fun v =>
   (taints_Right.l2 x v 0).bind fun o2 =>
   o2.on fun j2 =>
   taints_Right.l1 l l2 (k + 1)
def taints_Right (l : List T_api_Taint) : Option Bool :=
 (taints_Right.l1 l l 0).bind fun o =>
 o.on fun j =>
 some (decide ((l.length : Int) ≤ 16))
theorem K23 (l : List T_api_Taint) : VS Tryz.prog 135 (taints_Right l) [L166 l] [] .bool N0 := by
 refine A4 [.tmp 2] Tryz.func135 R R R fun r hm=>?_
 unfold taints_Right at hm
 refine Ae tbk [] R R<|Af<|Ai<|Ab R R (Aj R)<|Ab R R (Aw T_api_Taint.vv R Cc)<|Ab R R (Aj R)<|Ac<|Cj 0 R fun h3=>Bw hm (fun _ (_:Unit)=>[(0,L166 l)]) (fun _ (_:Unit)=>[]) (fun o hm h2=>?_) fun j _ hm=> ?_
 ·refine Cx (l) (fun zl zk (zs:Unit)=>taints_Right.l1 l zl zk) (fun k _ (_:Unit)=>[(0,L166 l),(7,L166 l),(8,Iw (l.length : Int)),(9,Iw (k : Int))]) (fun _ _ (_:Unit)=>[]) () () hm (Ag [] R R) (fun k _ _ hk hm=>?_) fun k x l2 _ _ h4 hm=> ?_
  ·rw [taints_Right.l1] at hm
   exact Ae tbk [] R R<|Af<|Ca R (k_end hk)<|A7<|Ar () hm (Ag [] R R)
  rw [taints_Right.l1] at hm
  refine Ae tbk [] R R<|Af<|B7 R (k_lt h4)<|Am<|Af<|A2<|Ai<|Ab R R (Aj R)<|Ab R R (Cp T_api_Taint.vv R R el59 h4)<|Ab R R (Bt R ld166 R)<|Ad R R<|A3 z166 fun b=>Ab R R (Ak R)<|Ad R R<|An (i:=0) R R R ld166 R R R<|Ac<|Af<|Ai<|Aa tbk [0] 2 R R<|Ad R R<|Av hm 0 R fn128 R (K14 _) fun r hm=>Aa tbk [] 2 R R<|Bh hm 5 23 18 R (fun _ K' h7 J hm=>Aa tbk [] 5 R R<|J 4 R R (Bj hm)) (fun _ K' h7 J hm=>Aa tbk [0] 2 R R<|A1 R R R R R<|Av hm 0 R fn175 R (K20 _) fun r2 hm=>Aa tbk [] 2 R R<|J 4 R R (Bj hm)) fun c hm=>Ab R R (Aj R)<|Bh hm 5 29 24 R (fun _ K' h10 J hm=>Aa tbk [] 5 R R<|J 4 R R (Bj hm)) (fun _ K' h10 J hm=>Aa tbk [0] 2 R R<|A1 R R R R R<|Av hm 0 R fn176 R (K21 _) fun r3 hm=>Aa tbk [] 2 R R<|J 4 R R (Bj hm)) fun c2 hm=>Ac<|Ao hm R (fun h13 hm=>Ae tbk [] R R<|have hm:=Lr hm h2;Rt1 hm R [] R R R) fun h13 hm=>Am<|Ai<|Aa tbk [] 2 R R<|Bd hm fun v h14 hm=>Ab R R (Dg R R R el59 h14)<|Ab R R (Aw T_api_Taint.vv R Cc)<|Ab R R (Aj R)<|Ac<|Cj 32 R fun h17=>Bw hm (fun _ (_:Unit)=>[(0,L166 l),(7,L166 l),(8,Iw (l.length : Int)),(9,Iw (k : Int))]) (fun _ (_:Unit)=>[]) (fun o2 hm h16=>?_) fun j2 _ hm=> ?_
  ·refine Cx (v) (fun zl zk (zs:Unit)=>taints_Right.l2 x zl zk) (fun k2 _ (_:Unit)=>[(0,L166 l),(4,.ptr b 0),(7,L166 l),(8,Iw (l.length : Int)),(9,Iw (k : Int)),(32,L166 v),(33,Iw (v.length : Int)),(34,Iw (k2 : Int))]) (fun _ _ (_:Unit)=>[X166 b x]) () () hm (Ag [0] R R) (fun k2 _ _ hk hm=>?_) fun k2 x2 l3 _ _ h18 hm=> ?_
   ·rw [taints_Right.l2] at hm
    exact Ae tbk [] R R<|Af<|Ca R (k_end hk)<|A7<|Ar () hm (Ag [] R R)
   rw [taints_Right.l2] at hm
   refine Ae tbk [] R R<|Af<|B7 R (k_lt h18)<|Am<|Af<|A2<|Ai<|Ab R R (Cp T_api_Taint.vv R R el59 h18)<|Ab R R (Bt R ld166 R)<|Ad R R<|A3 z166 fun b2=>Ad R R<|An (i:=0) R R R ld166 R R R<|Ac<|Af<|Be 0 mixed<|Aq tbk [0,2] [1,0] (by kernel_rfl) R R R<|Ah 1 (by kernel_rfl)<|Bd hm fun r4 h20 hm=>Al R R R<|Au 0 R fn179 R (K22 x r4 h20) fun _ _ h24=> ?_
   obtain ⟨rfl,rfl⟩:=h24
   refine Ah 3 (by kernel_rfl)<|Bd hm fun r5 h21 hm=>Al R R R<|Au 0 R fn179 R (K22 x2 r5 h21) fun _ _ h23=> ?_
   obtain ⟨rfl,rfl⟩:=h23
   exact Ax 4 R R R (by kernel_rfl) (D0 shp166 eq166 R R R R)<|A0 (by kernel_rfl)<|Ao hm R (fun h22 hm=>Ae tbk [] R R<|have hm:=Lr hm h16;have hm:=Lr hm h2;Rt1 hm R [] R R R) fun h22 hm=>Am<|Bc tbk [] R R<|Ap () () hm (B0 [1] R ⟨R,R,R,R,R,R,R,congrArg some (k_next h18 h17),trivial⟩)
  exact Bc tbk [] R R<|Ap () () hm (B0 [] R ⟨R,R,R,congrArg some (k_next h4 h3),trivial⟩)
 exact Ai<|Ab R R (Aj R)<|Ab R R (Aw T_api_Taint.vv R Cc)<|Aa tbk [] 2 R R<|Ac<|Rt1 hm R [] R R R

/-! trireme/spec.RightMachine -/
def spec_RightMachine (m : T_api_Machine) : Option Bool :=
 (spec_maybe m.Name).bind fun r =>
 (if r = true then (spec_maybe m.Group).bind fun r2 =>
 some r2 else some false).bind fun c =>
 (if c = true then (res_Right m.Has).bind fun r3 =>
 some r3 else some false).bind fun c2 =>
 (if c2 = true then (labels_Right m.Labels).bind fun r4 =>
 some r4 else some false).bind fun c3 =>
 (if c3 = true then (taints_Right m.Taints).bind fun r5 =>
 some r5 else some false).bind fun c4 =>
 some c4
theorem K24 (m : T_api_Machine) : VS Tryz.prog 82 (spec_RightMachine m) [T_api_Machine.vv m] [] .bool N0 := by
 refine A4 [.tmp 2] Tryz.func82 R R R fun r hm=>?_
 unfold spec_RightMachine at hm
 exact Ai<|Ad R R<|Bg R R fun b=>Ab R R (Ak R)<|Ac<|Ai<|Aa tbk [0] 2 R R<|Ad R R<|Av hm 0 R fn129 R (K15 _) fun r hm=>Ab R R (Aj R)<|Bh hm 4 10 6 R (fun _ K' h3 J hm=>Aa tbk [0] 2 R R<|A1 R R R R R<|Av hm 0 R fn129 R (K15 _) fun r2 hm=>Ab R R (Bk true R R R)<|J 3 R R (Bj hm)) (fun _ K' h3 J hm=>Aa tbk [] 4 R R<|J 3 R R (Bj hm)) fun c hm=>Ab R R (Aj R)<|Bh hm 4 15 11 R (fun _ K' h6 J hm=>Aa tbk [0] 2 R R<|A1 R R R R R<|Av hm 0 R fn130 R (K17 _) fun r3 hm=>Ab R R (Bk true R R R)<|J 3 R R (Bj hm)) (fun _ K' h6 J hm=>Aa tbk [] 4 R R<|J 3 R R (Bj hm)) fun c2 hm=>Ab R R (Aj R)<|Bh hm 4 20 16 R (fun _ K' h9 J hm=>Aa tbk [0] 2 R R<|A1 R R R R R<|Av hm 0 R fn127 R (K19 _) fun r4 hm=>Ab R R (Bk true R R R)<|J 3 R R (Bj hm)) (fun _ K' h9 J hm=>Aa tbk [] 4 R R<|J 3 R R (Bj hm)) fun c3 hm=>Ab R R (Aj R)<|Bh hm 4 25 21 R (fun _ K' h12 J hm=>Aa tbk [0] 2 R R<|A1 R R R R R<|Av hm 0 R fn135 R (K23 _) fun r5 hm=>Ab R R (Bk true R R R)<|J 3 R R (Bj hm)) (fun _ K' h12 J hm=>Aa tbk [] 4 R R<|J 3 R R (Bj hm)) fun c4 hm=>Ab R R (Ak R)<|Ac<|Rt1 hm R [] R R R

/-! trireme/yard.Check$2 -/
def yard_Check_2 (i : Int) (a : List T_api_Machine) : Option Bool :=
 (V.gl a i).bind fun x =>
 (if (V.seq x.Name (⟨#[]⟩ : ByteArray)) = true then some true else (V.gl a i).bind fun x2 =>
 (spec_RightMachine x2).bind fun r =>
 some (!r)).bind fun c =>
 some c
theorem K25 (i : Int) (a : List T_api_Machine) (b : Nat) : VS Tryz.prog 122 (yard_Check_2 i a) [Iw i, .ptr b 0] [.box b 22 [L61 a]] .bool (fun r=>[.box b 22 [L61 a]]) := by
 refine A4 [.tmp 3] Tryz.func122 R R R fun r hm=>?_
 unfold yard_Check_2 at hm
 exact Ae tbk [] R R<|Ai<|Aa tbk [0] 2 R R<|Bd hm fun x h1 hm=>Ab R R (Bf T_api_Machine.vv R R el22 h1)<|Aa tbk [] 4 R R<|Bh hm 7 17 10 R (fun _ K' h2 J hm=>Aa tbk [] 7 R R<|J 6 R R (Bj hm)) (fun _ K' h2 J hm=>Aa tbk [0] 2 R R<|Bd hm fun x2 h3 hm=>Bb R R R R R (Bf T_api_Machine.vv R R el22 h3)<|Bb R R R R R (Bt R ld61 R)<|A1 R R R R R<|Av hm 0 R fn82 R (K24 _) fun r hm=>Aa tbk [] 2 R R<|J 6 R R (Bj hm)) fun c hm=>Ab R R (Ak R)<|Ac<|Rt1 hm R [0] R R R

/-! trireme/yard.first -/
def yard_first_yard_Check_2.l1 (n : Int) (c : List T_api_Machine) : Nat → Int → Option (Out Int Unit)
 | 0, _ => none
 | n2 + 1, v2 =>
  if (decide (v2 < n)) = true then
   (yard_Check_2 v2 c).bind fun r =>
   if r = true then
    some (Out.ret v2)
   else
    yard_first_yard_Check_2.l1 n c n2 (i64.wrap (v2 + 1))
  else
   some (Out.go ())
def yard_first_yard_Check_2 (n : Int) (c : List T_api_Machine) : Option Int :=
 (yard_first_yard_Check_2.l1 n c FU (0 : Int)).bind fun o =>
 o.on fun j =>
 some (-1)
theorem K26 (n : Int) (c : List T_api_Machine) (b : Nat) : VS Tryz.prog 96 (yard_first_yard_Check_2 n c) [Iw n, .clo (.func 122) [] [.ptr b 0]] [.box b 22 [L61 c]] Iw (fun r=>[.box b 22 [L61 c]]) := by
 refine A4 [.tmp 4] Dh R R R fun r hm=>?_
 unfold yard_first_yard_Check_2 at hm
 refine Ae tbk [] R R<|Af<|Ae tbk [] R R<|Bw hm (fun _ (_:Unit)=>[]) (fun _ (_:Unit)=>[.box b 22 [L61 c]]) (fun o hm h2=>?_) fun j _ hm=> ?_
 ·refine B1 (fun zn (zs:Int)=>yard_first_yard_Check_2.l1 n c zn zs) (fun zs (_:Unit)=>[(1,.clo (.func 122) [] [.ptr b 0]),(6,Iw n),(7,Iw zs)]) (fun _ (_:Unit)=>[.box b 22 [L61 c]]) _ () (fun _=>R) hm (Ag [0] R R) fun n2 v2 _ hm=> ?_
  rw [yard_first_yard_Check_2.l1] at hm
  exact Ae tbk [] R R<|Af<|Ao hm R (fun h3 hm=>Am<|Af<|A2<|Ae tbk [] R R<|Ai<|Aa tbk [] 2 R R<|Ad R R<|Av hm 1 R fn122 R (K25 _ _ _) fun r hm=>Ac<|Ao hm R (fun h5 hm=>Ae tbk [] R R<|have hm:=Lr hm h2;Rt1 hm R [0] R R R) fun h5 hm=>Am<|Bc tbk [] R R<|Ap _ () hm (Ag [0] R R)) fun h3 hm=>A7<|Ar () hm (Ag [0] R R)
 exact Ae tbk [] R R<|Rt1 hm R [0] R R R

/-! trireme/yard.Check$1 -/
def yard_Check_1_yard_Check_2 (n : Int) (c : List T_api_Machine) : Option Bool :=
 (yard_first_yard_Check_2 n c).bind fun r =>
 some (r != (-1))
theorem K27 (n : Int) (c : List T_api_Machine) (b : Nat) : VS Tryz.prog 121 (yard_Check_1_yard_Check_2 n c) [Iw n, .clo (.func 122) [] [.ptr b 0]] [.box b 22 [L61 c]] .bool (fun r=>[.box b 22 [L61 c]]) := by
 refine A4 [.tmp 4] Dw R R R fun r hm=>?_
 unfold yard_Check_1_yard_Check_2 at hm
 exact Ae tbk [] R R<|Ai<|Aa tbk [] 2 R R<|Ad R R<|Av hm 1 R fn96 R (K26 _ _ _) fun r hm=>Aa tbk [] 2 R R<|Ac<|Rt1 hm R [0] R R R

/-! trireme/quant.head -/
def quant_head.l1 (s : ByteArray) : Nat → Int → Option Int
 | 0, _ => none
 | n4 + 1, n2 =>
  (if (decide (n2 < (s.size : Int))) = true then (V.gi s n2).bind fun v =>
  some (decide (v ≥ 48)) else some false).bind fun c =>
  (if c = true then (V.gi s n2).bind fun v2 =>
  some (decide (v2 ≤ 57)) else some false).bind fun c2 =>
  if c2 = true then
   quant_head.l1 s n4 (i64.wrap (n2 + 1))
  else
   some n2
def quant_head (s : ByteArray) : Option Int :=
 (quant_head.l1 s FU (0 : Int)).bind fun n32 =>
 some n32
theorem K28 (s : ByteArray) : VS Tryz.prog 217 (quant_head s) [.str s] [] Iw N0 := by
 refine A4 [.tmp 2] Tryz.func217 R R R fun r hm=>?_
 unfold quant_head at hm
 refine Ae tbk [] R R<|Ae tbk [] R R<|Dm hm (fun n32 (_:Unit)=>[(3,Iw n32)]) (fun _ (_:Unit)=>[]) (fun o hm=>?_) fun n32 _ hm=> ?_
 ·refine B1 (fun zn (zs:Int)=>quant_head.l1 s zn zs) (fun zs (_:Unit)=>[(0,.str s),(3,Iw zs)]) (fun _ (_:Unit)=>[]) _ () (fun _=>R) hm (Ag [] R R) fun n4 n2 _ hm=> ?_
  rw [quant_head.l1] at hm
  exact Af<|Ai<|Aa tbk [] 2 R R<|Ab R R (Ci R A9)<|Aa tbk [] 2 R R<|Bh hm 5 13 8 R (fun _ K' h3 J hm=>Aa tbk [] 2 R R<|Bd hm fun v h4 hm=>Bb R R R R R (C1 R R A9 h4)<|Aa tbk [] 2 R R<|J 4 R R (Bj hm)) (fun _ K' h3 J hm=>Aa tbk [] 5 R R<|J 4 R R (Bj hm)) fun c hm=>Ab R R (Aj R)<|Bh hm 5 19 14 R (fun _ K' h6 J hm=>Aa tbk [] 2 R R<|Bd hm fun v2 h7 hm=>Bb R R R R R (C1 R R A9 h7)<|Aa tbk [] 2 R R<|J 4 R R (Bj hm)) (fun _ K' h6 J hm=>Aa tbk [] 5 R R<|J 4 R R (Bj hm)) fun c2 hm=>Ac<|Ao hm R (fun h9 hm=>Am<|A2<|Bc tbk [] R R<|Ap _ () hm (Ag [] R R)) fun h9 hm=>A7<|As () hm (Ag [] R R)
 exact Ae tbk [] R R<|Rt1 hm R [] R R R

/-! trireme/quant.value -/
def quant_value.l1 (s : ByteArray) (most : Int) : Nat → Int → Int → Option (Out (Int × Bool) Int)
 | 0, _, _ => none
 | n4 + 1, n2, v2 =>
  if (decide (v2 < (s.size : Int))) = true then
   (V.gi s v2).bind fun v3 =>
   (V.quo (i64.wrap (most - (i64.wrap (IntKind.u8.wrap (v3 - 48))))) (10 : Int)).bind fun v4 =>
   if (decide (n2 > (i64.wrap v4))) = true then
    some (Out.ret (0, false))
   else
    quant_value.l1 s most n4 (i64.wrap ((i64.wrap (10 * n2)) + (i64.wrap (IntKind.u8.wrap (v3 - 48))))) (i64.wrap (v2 + 1))
  else
   some (Out.go n2)
def quant_value (s : ByteArray) (most : Int) : Option (Int × Bool) :=
 (quant_value.l1 s most FU 0 (0 : Int)).bind fun o =>
 o.on fun n32 =>
 some (n32, true)
theorem K29 (s : ByteArray) (most : Int) : VS Tryz.prog 218 (quant_value s most) [.str s, Iw most] [] (fun r=>.tup [Iw r.1, .bool r.2]) N0 := by
 refine A4 [.tmp 4,.tmp 5] Tryz.func218 R R R fun r hm=>?_
 unfold quant_value at hm
 refine Ae tbk [] R R<|Ae tbk [] R R<|Af<|Ai<|Ab R R (Aj R)<|Ab R R (Ci R A9)<|Ab R R (Aj R)<|Ac<|Bw hm (fun n32 (_:Unit)=>[(6,Iw n32)]) (fun _ (_:Unit)=>[]) (fun o hm h2=>?_) fun n32 _ hm=> ?_
 ·refine B1 (fun zn (zs:Int × Int)=>quant_value.l1 s most zn zs.1 zs.2) (fun zs (_:Unit)=>[(0,.str s),(1,Iw most),(6,Iw zs.1),(10,Iw (s.size : Int)),(11,Iw zs.2)]) (fun _ (_:Unit)=>[]) ((0 : Int),(0 : Int)) () (fun _=>R) hm (Ag [] R R) fun n4=>Pq fun n2 v2 _ hm=> ?_
  rw [quant_value.l1] at hm
  exact Ae tbk [] R R<|Af<|Ao hm R (fun h3 hm=>Am<|Af<|A2<|Ae tbk [] R R<|Ai<|Aa tbk [] 2 R R<|Bd hm fun v3 h4 hm=>Ab R R (C1 R R A9 h4)<|Ab R R (Ba R R R)<|Ab R R (C4 Cg Co R)<|Ab R R (Ak R)<|Ac<|Af<|Ai<|Aa tbk [] 4 R R<|Bd hm fun v4 h5 hm=>Ab R R (VP.quoT R R h5)<|Ab R R (Ba R R R)<|Ac<|Ao hm R (fun h6 hm=>Ae tbk [] R R<|have hm:=Lr hm h2;Rt2 hm R [] R R R R) fun h6 hm=>Am<|Bc tbk [] R R<|Bc tbk [] R R<|Ap ((IntKind.i64.wrap ((IntKind.i64.wrap ((10 : Int) * n2)) + (IntKind.i64.wrap (IntKind.u8.wrap (v3 - (48 : Int)))))),(IntKind.i64.wrap (v2 + (1 : Int)))) () hm (Ag [] R R)) fun h3 hm=>A7<|Ar () hm (Ag [] R R)
 exact Ae tbk [] R R<|Rt2 hm R [] R R R R

/-! trireme/quant.Number -/
def quant_Number (s : ByteArray) : Option (Int × Int) :=
 (if (V.seq s (⟨#[]⟩ : ByteArray)) = true then some true else (quant_head s).bind fun r =>
 some (r != (s.size : Int))).bind fun c =>
 if c = true then
  some (0, 8)
 else
  (quant_value s (1125899906842624 : Int)).bind fun r2 =>
  if (!r2.2) = true then
   some (0, 10)
  else
   some (r2.1, 0)
theorem K30 (s : ByteArray) : VS Tryz.prog 199 (quant_Number s) [.str s] [] (fun r=>.tup [Iw r.1, Iw r.2]) N0 := by
 refine A4 [.tmp 2,.tmp 3] Tryz.func199 R R R fun r hm=>?_
 unfold quant_Number at hm
 exact Ae tbk [] R R<|Af<|Ai<|Aa tbk [] 3 R R<|Bh hm 6 14 8 R (fun _ K' h1 J hm=>Aa tbk [] 6 R R<|J 5 R R (Bj hm)) (fun _ K' h1 J hm=>Bb R R R R R (Aj R)<|A1 R R R R R<|Av hm 0 R fn217 R (K28 _) fun r hm=>Bb R R R R R (Aj R)<|Bb R R R R R (Ci R A9)<|Aa tbk [] 2 R R<|J 5 R R (Bj hm)) fun c hm=>Ac<|Ao hm R (fun h4 hm=>Ae tbk [] R R<|Rt2 hm R [] R R R R) fun h4 hm=>Am<|Ai<|Ab R R (Aj R)<|Ad R R<|Av hm 0 R fn218 R (K29 _ _) fun r2 hm=>Aa tbk [] 5 R R<|Ac<|Af<|Ae tbk [] R R<|Ao hm R (fun h6 hm=>Ae tbk [] R R<|Rt2 hm R [] R R R R) fun h6 hm=>Am<|Ae tbk [] R R<|Rt2 hm R [] R R R R

/-! trireme/labels.number -/
def labels_number (s : ByteArray) : Option (Int × Bool) :=
 (quant_Number s).bind fun r =>
 some (r.1, (r.2 == 0))
theorem K31 (s : ByteArray) : VS Tryz.prog 170 (labels_number s) [.str s] [] (fun r=>.tup [Iw r.1, .bool r.2]) N0 := by
 refine A4 [.tmp 2,.tmp 3] Tryz.func170 R R R fun r hm=>?_
 unfold labels_number at hm
 exact Ae tbk [] R R<|Ai<|Ab R R (Aj R)<|Ad R R<|Av hm 0 R fn199 R (K30 _) fun r hm=>Aa tbk [] 5 R R<|Ac<|Ae tbk [] R R<|Rt2 hm R [] R R R R

/-! trireme/labels.RightTerm -/
def labels_RightTerm.l1 : List ByteArray → Nat → Option (Out (Out Bool Unit) Unit)
 | [], k => some (Out.go ())
 | x3 :: l, k =>
  (labels_maybe x3).bind fun r4 =>
  if (!r4) = true then
   some (Out.ret (Out.ret false))
  else
   labels_RightTerm.l1 l (k + 1)
def labels_RightTerm (t : T_api_Term) : Option Bool :=
 (lex_Word t.Key).bind fun r =>
 if (!r) = true then
  some false
 else
  ((if (t.Op == 1) = true then
   some (Out.go ())
  else
   if (t.Op == 2) = true then
    some (Out.go ())
   else
    if (t.Op == 3) = true then
     some (Out.ret (Out.go ()))
    else
     if (t.Op == 4) = true then
      some (Out.ret (Out.go ()))
     else
      if (t.Op == 5) = true then
       ((if ((t.Vals.length : Int) == 1) = true then
        (V.gl t.Vals (0 : Int)).bind fun x =>
        (labels_number x).bind fun r2 =>
        some r2.2
       else
        some false).bind fun q => some (Out.ret q)).bind fun q => some (Out.ret q)
      else
       if (t.Op == 6) = true then
        ((if ((t.Vals.length : Int) == 1) = true then
         (V.gl t.Vals (0 : Int)).bind fun x2 =>
         (labels_number x2).bind fun r3 =>
         some r3.2
        else
         some false).bind fun q => some (Out.ret q)).bind fun q => some (Out.ret q)
       else
        some (Out.ret (Out.ret false))).bind fun o2 =>
  o2.on fun j2 =>
  (labels_RightTerm.l1 t.Vals 0).bind fun o3 =>
  o3.on fun j3 =>
  some (Out.ret ((decide ((t.Vals.length : Int) ≥ 1)) && (decide ((t.Vals.length : Int) ≤ 16))))).bind fun o =>
  o.on fun j =>
  some ((t.Vals.length : Int) == 0)
theorem K32 (t : T_api_Term) : VS Tryz.prog 126 (labels_RightTerm t) [T_api_Term.vv t] [] .bool N0 := by
 refine A4 [.tmp 2] Tryz.func126 R R R fun r hm=>?_
 unfold labels_RightTerm at hm
 refine Ai<|Ad R R<|Bg R R fun b=>Ab R R (Ak R)<|Ac<|Af<|Ai<|Aa tbk [0] 2 R R<|Ad R R<|Av hm 0 R fn128 R (K14 _) fun r hm=>Ab R R (B6 R)<|Ac<|Ao hm R (fun h3 hm=>Ae tbk [] R R<|Rt1 hm R [] R R R) fun h3 hm=>Am<|Af<|Ae tbk [0] R R<|A2<|Af<|A2<|VW.jo hm (fun _ (_:Unit)=>[(1,.ptr b 0)]) (fun _ (_:Unit)=>[X142 b t]) (fun o hm h5=>?_) fun j _ hm=> ?_
 ·refine A2<|A2<|VW.jo hm (fun _ (_:Unit)=>[(1,.ptr b 0)]) (fun _ (_:Unit)=>[X142 b t]) (fun o2 hm h7=>?_) fun j2 _ hm=> ?_
  ·exact A2<|A2<|Af<|Af<|Ae tbk [] R R<|Ao hm R (fun h8 hm=>A7<|Ar () hm (Ag [0] R R)) fun h8 hm=>Am<|Af<|Ae tbk [] R R<|Ao hm R (fun h9 hm=>A7<|Ar () hm (Ag [0] R R)) fun h9 hm=>Am<|Af<|Ae tbk [] R R<|Ao hm R (fun h10 hm=>A7<|have hm:=Lr hm h7;Ar () hm (Ag [0] R R)) fun h10 hm=>Am<|Af<|Ae tbk [] R R<|Ao hm R (fun h11 hm=>A7<|have hm:=Lr hm h7;Ar () hm (Ag [0] R R)) fun h11 hm=>Am<|Af<|Ae tbk [] R R<|Ao hm R (fun h12 hm=>Am<|B7 R h12<|A7<|have hm:=Lr2 hm h7;have hm:=Lr2 hm h5;Af<|Ai<|Aa tbk [0] 2 R R<|Ab R R (Aw VV.str R B2)<|Ab R R (Ba R R R)<|Ac<|Ao hm R (fun h13 hm=>Ai<|Aa tbk [0] 2 R R<|Bd hm fun x h14 hm=>Ab R R (Bf VV.str R R el25 h14)<|Ab R R (Bt R ld9 R)<|Ad R R<|Av hm 0 R fn170 R (K31 _) fun r2 hm=>Aa tbk [] 5 R R<|Ac<|Ae tbk [] R R<|Rt1 hm R [] R R R) fun h13 hm=>Am<|A7<|Ae tbk [] R R<|Rt1 hm R [] R R R) fun h12 hm=>Bc tbk [] R R<|Ao hm R (fun h18 hm=>A7<|have hm:=Lr2 hm h7;have hm:=Lr2 hm h5;Af<|Ai<|Aa tbk [0] 2 R R<|Ab R R (Aw VV.str R B2)<|Ab R R (Ba R R R)<|Ac<|Ao hm R (fun h19 hm=>Ai<|Aa tbk [0] 2 R R<|Bd hm fun x2 h20 hm=>Ab R R (Bf VV.str R R el25 h20)<|Ab R R (Bt R ld9 R)<|Ad R R<|Av hm 0 R fn170 R (K31 _) fun r3 hm=>Aa tbk [] 5 R R<|Ac<|Ae tbk [] R R<|Rt1 hm R [] R R R) fun h19 hm=>Am<|A7<|Ae tbk [] R R<|Rt1 hm R [] R R R) fun h18 hm=>Am<|A7<|have hm:=Lr hm h7;have hm:=Lr hm h5;Ae tbk [] R R<|Rt1 hm R [] R R R
  refine Af<|Af<|Ai<|Aa tbk [0] 2 R R<|Ab R R (Aw VV.str R B2)<|Ab R R (Aj R)<|Ac<|Cj 25 R fun h26=>Bw hm (fun _ (_:Unit)=>[(1,.ptr b 0)]) (fun _ (_:Unit)=>[X142 b t]) (fun o3 hm h25=>?_) fun j3 _ hm=> ?_
  ·refine Cx (t.Vals) (fun zl zk (zs:Unit)=>labels_RightTerm.l1 zl zk) (fun k _ (_:Unit)=>[(1,.ptr b 0),(25,L9 t.Vals),(26,Iw (t.Vals.length : Int)),(27,Iw (k : Int))]) (fun _ _ (_:Unit)=>[X142 b t]) () () hm (Ag [0] R R) (fun k _ _ hk hm=>?_) fun k x3 l _ _ h27 hm=> ?_
   ·rw [labels_RightTerm.l1] at hm
    exact Ae tbk [] R R<|Af<|Ca R (k_end hk)<|A7<|Ar () hm (Ag [0] R R)
   rw [labels_RightTerm.l1] at hm
   exact Ae tbk [] R R<|Af<|B7 R (k_lt h27)<|Am<|Af<|A2<|Ai<|Ab R R (Cp VV.str R R el25 h27)<|Aa tbk [] 2 R R<|Ac<|Ai<|Ab R R (Aj R)<|Ad R R<|Av hm 0 R fn169 R (K18 _) fun r4 hm=>Ab R R (B6 R)<|Ac<|Ao hm R (fun h29 hm=>Ae tbk [] R R<|have hm:=Lr hm h25;have hm:=Lr hm h5;Rt1 hm R [] R R R) fun h29 hm=>Am<|Bc tbk [] R R<|Ap () () hm (B0 [0] R ⟨R,R,R,congrArg some (k_next h27 h26),trivial⟩)
  exact Ai<|Aa tbk [0] 2 R R<|Ab R R (Aw VV.str R B2)<|Aa tbk [] 2 R R<|Db 5 44 39 R (fun h30 K' J=>Aa tbk [0] 2 R R<|Bb R R R R R (Aw VV.str R B2)<|Aa tbk [] 2 R R<|J 4 R R R) (fun K' J=>Aa tbk [] 5 R R<|J 4 R R R)<|Ab R R (Ak R)<|Ac<|have hm:=Lr hm h5;Rt1 hm R [] R R R
 exact Af<|Ai<|Aa tbk [0] 2 R R<|Ab R R (Aw VV.str R B2)<|Aa tbk [] 2 R R<|Ac<|Rt1 hm R [] R R R

/-! trireme/spec.between -/
def spec_between (n : Int) (low : Int) (high : Int) : Option Bool :=
 some ((decide (n ≥ low)) && (decide (n ≤ high)))
theorem K33 (n : Int) (low : Int) (high : Int) : VS Tryz.prog 131 (spec_between n low high) [Iw n, Iw low, Iw high] [] .bool N0 := by
 refine A4 [.tmp 6] Tryz.func131 R R R fun r hm=>?_
 unfold spec_between at hm
 exact Ae tbk [] R R<|Ai<|Aa tbk [] 4 R R<|B5 tbk [] 4 14 10 R R R R R<|Ab R R (Ak R)<|Ac<|Rt1 hm R [] R R R

/-! trireme/taints.RightBears -/
def taints_RightBears.l1 : List T_api_Toleration → Nat → Option (Out Bool Unit)
 | [], k => some (Out.go ())
 | x :: l2, k =>
  (taints_maybe x.Key).bind fun r =>
  (if (!r) = true then some true else (taints_maybe x.Val).bind fun r2 =>
  some (!r2)).bind fun c =>
  if c = true then
   some (Out.ret false)
  else
   (if (x.Effect != 0) = true then (taints_known x.Effect).bind fun r3 =>
   some (!r3) else some false).bind fun c2 =>
   if c2 = true then
    some (Out.ret false)
   else
    if ((x.Any && (!(V.seq x.Val (⟨#[]⟩ : ByteArray)))) || ((!x.Any) && (V.seq x.Key (⟨#[]⟩ : ByteArray)))) = true then
     some (Out.ret false)
    else
     taints_RightBears.l1 l2 (k + 1)
def taints_RightBears (l : List T_api_Toleration) : Option Bool :=
 (taints_RightBears.l1 l 0).bind fun o =>
 o.on fun j =>
 some (decide ((l.length : Int) ≤ 16))
theorem K34 (l : List T_api_Toleration) : VS Tryz.prog 132 (taints_RightBears l) [L172 l] [] .bool N0 := by
 refine A4 [.tmp 2] Tryz.func132 R R R fun r hm=>?_
 unfold taints_RightBears at hm
 refine Ae tbk [] R R<|Af<|Ai<|Ab R R (Aj R)<|Ab R R (Aw T_api_Toleration.vv R Cu)<|Ab R R (Aj R)<|Ac<|Cj 0 R fun h3=>Bw hm (fun _ (_:Unit)=>[(0,L172 l)]) (fun _ (_:Unit)=>[]) (fun o hm h2=>?_) fun j _ hm=> ?_
 ·refine Cx (l) (fun zl zk (zs:Unit)=>taints_RightBears.l1 zl zk) (fun k _ (_:Unit)=>[(0,L172 l),(5,L172 l),(6,Iw (l.length : Int)),(7,Iw (k : Int))]) (fun _ _ (_:Unit)=>[]) () () hm (Ag [] R R) (fun k _ _ hk hm=>?_) fun k x l2 _ _ h4 hm=> ?_
  ·rw [taints_RightBears.l1] at hm
   exact Ae tbk [] R R<|Af<|Ca R (k_end hk)<|A7<|Ar () hm (Ag [] R R)
  rw [taints_RightBears.l1] at hm
  exact Ae tbk [] R R<|Af<|B7 R (k_lt h4)<|Am<|Af<|A2<|Ai<|Ab R R (Cp T_api_Toleration.vv R R el44 h4)<|Ab R R (Bt R ld172 R)<|Ad R R<|A3 z172 fun b=>Ad R R<|An (i:=0) R R R ld172 R R R<|Ac<|A2<|Ai<|Aa tbk [0] 2 R R<|Ad R R<|Av hm 0 R fn175 R (K20 _) fun r hm=>Aa tbk [] 2 R R<|Bh hm 5 21 16 R (fun _ K' h7 J hm=>Aa tbk [] 5 R R<|J 4 R R (Bj hm)) (fun _ K' h7 J hm=>Aa tbk [0] 2 R R<|A1 R R R R R<|Av hm 0 R fn175 R (K20 _) fun r2 hm=>Aa tbk [] 2 R R<|J 4 R R (Bj hm)) fun c hm=>Ab R R (Ak R)<|Ac<|Ao hm R (fun h10 hm=>Ae tbk [] R R<|have hm:=Lr hm h2;Rt1 hm R [] R R R) fun h10 hm=>Ai<|Aa tbk [0] 4 R R<|Bh hm 5 31 26 R (fun _ K' h11 J hm=>Aa tbk [0] 2 R R<|A1 R R R R R<|Av hm 0 R fn176 R (K21 _) fun r3 hm=>Aa tbk [] 2 R R<|J 4 R R (Bj hm)) (fun _ K' h11 J hm=>Aa tbk [] 5 R R<|J 4 R R (Bj hm)) fun c2 hm=>Ab R R (Ak R)<|Ac<|Ao hm R (fun h14 hm=>Ae tbk [] R R<|have hm:=Lr hm h2;Rt1 hm R [] R R R) fun h14 hm=>Ai<|Aa tbk [0] 3 R R<|B5 tbk [0] 4 39 35 R R R R R<|Ab R R (Aj R)<|Cv 9 49 40 R (fun K' J=>Aa tbk [] 9 R R<|J 8 R R R) (fun h16 K' J=>Aa tbk [0] 4 R R<|B5 tbk [0] 4 48 44 R R R R R<|Ab R R (Bk false R R R)<|J 5 R R R)<|Ab R R (Ak R)<|Ac<|Ao hm R (fun h18 hm=>Ae tbk [] R R<|have hm:=Lr hm h2;Rt1 hm R [] R R R) fun h18 hm=>Am<|Bc tbk [] R R<|Ap () () hm (B0 [] R ⟨R,R,R,congrArg some (k_next h4 h3),trivial⟩)
 exact Ai<|Ab R R (Aj R)<|Ab R R (Aw T_api_Toleration.vv R Cu)<|Aa tbk [] 2 R R<|Ac<|Rt1 hm R [] R R R

/-! trireme/spec.RightPod -/
def spec_RightPod.l1 : List T_api_Term → Nat → Option (Out Bool Unit)
 | [], k => some (Out.go ())
 | x :: l, k =>
  (labels_RightTerm x).bind fun r =>
  if (!r) = true then
   some (Out.ret false)
  else
   spec_RightPod.l1 l (k + 1)
def spec_RightPod.l2 : List Int → Nat → Int → Option (Out Bool Unit)
 | [], k2, last2 => some (Out.go ())
 | x2 :: l2, k2, last2 =>
  if ((decide (x2 ≤ last2)) || (decide (x2 > 65535))) = true then
   some (Out.ret false)
  else
   spec_RightPod.l2 l2 (k2 + 1) x2
def spec_RightPod.l3 : List (List T_api_Label) → Nat → Option (Out Bool Unit)
 | [], k3 => some (Out.go ())
 | x3 :: l3, k3 =>
  (labels_Right x3).bind fun r2 =>
  if (!r2) = true then
   some (Out.ret false)
  else
   spec_RightPod.l3 l3 (k3 + 1)
def spec_RightPod (p : T_api_Pod) : Option Bool :=
 (spec_RightPod.l1 p.Terms 0).bind fun o =>
 o.on fun j =>
 (spec_RightPod.l2 p.Ports 0 (0 : Int)).bind fun o2 =>
 o2.on fun j2 =>
 (spec_RightPod.l3 [p.Labels, p.Select, p.Apart, p.Spread] 0).bind fun o3 =>
 o3.on fun j3 =>
 (if (decide ((p.Spread.length : Int) > 0)) = true then
  some (1, 100)
 else
  some (0, 0)).bind fun j4 =>
 (lex_Word p.Name).bind fun r3 =>
 (if (!r3) = true then some true else (spec_maybe p.Owner).bind fun r4 =>
 some (!r4)).bind fun c =>
 if c = true then
  some false
 else
  (res_Right p.Need).bind fun r5 =>
  if ((!r5) || (p.Need.Pods != 1)) = true then
   some false
  else
   if ((decide ((p.Terms.length : Int) > 16)) || (decide ((p.Ports.length : Int) > 16))) = true then
    some false
   else
    (if (p.Wide && ((p.Apart.length : Int) == 0)) = true then some true else (spec_between p.Skew j4.1 j4.2).bind fun r6 =>
    some (!r6)).bind fun c2 =>
    if c2 = true then
     some false
    else
     (taints_RightBears p.Bears).bind fun r7 =>
     (if r7 = true then (spec_between p.Rank 0 (1000 : Int)).bind fun r8 =>
     some r8 else some false).bind fun c3 =>
     some c3
theorem K35 (p : T_api_Pod) : VS Tryz.prog 78 (spec_RightPod p) [T_api_Pod.vv p] [] .bool N0 := by
 refine A4 [.tmp 2] Tryz.func78 R R R fun r hm=>?_
 unfold spec_RightPod at hm
 refine Ai<|Ad R R<|Bg R R fun b=>Ab R R (Ak R)<|Ac<|Af<|Ai<|Aa tbk [0] 2 R R<|Ab R R (Aw T_api_Term.vv R Cl)<|Ab R R (Aj R)<|Ac<|Cj 13 R fun h4=>Bw hm (fun _ (_:Unit)=>[(1,.ptr b 0)]) (fun _ (_:Unit)=>[X47 b p]) (fun o hm h3=>?_) fun j _ hm=> ?_
 ·refine Cx (p.Terms) (fun zl zk (zs:Unit)=>spec_RightPod.l1 zl zk) (fun k _ (_:Unit)=>[(1,.ptr b 0),(13,L142 p.Terms),(14,Iw (p.Terms.length : Int)),(15,Iw (k : Int))]) (fun _ _ (_:Unit)=>[X47 b p]) () () hm (Ag [0] R R) (fun k _ _ hk hm=>?_) fun k x l _ _ h5 hm=> ?_
  ·rw [spec_RightPod.l1] at hm
   exact Ae tbk [] R R<|Af<|Ca R (k_end hk)<|A7<|Ar () hm (Ag [0] R R)
  rw [spec_RightPod.l1] at hm
  exact Ae tbk [] R R<|Af<|B7 R (k_lt h5)<|Am<|Af<|A2<|Ai<|Ab R R (Cp T_api_Term.vv R R el43 h5)<|Ab R R (Bt R ld142 R)<|Ad R R<|A3 z142 fun b2=>Ad R R<|An (i:=0) R R R ld142 R R R<|Ac<|Ai<|Aa tbk [0] 1 R R<|Ad R R<|Av hm 0 R fn126 R (K32 _) fun r hm=>Ab R R (B6 R)<|Ac<|Ao hm R (fun h8 hm=>Ae tbk [] R R<|have hm:=Lr hm h3;Rt1 hm R [] R R R) fun h8 hm=>Am<|Bc tbk [] R R<|Ap () () hm (B0 [1] R ⟨R,R,R,congrArg some (k_next h5 h4),trivial⟩)
 refine Ae tbk [] R R<|Af<|Ai<|Aa tbk [0] 2 R R<|Ab R R (Aw (VV.int .i64) R Cm)<|Ab R R (Aj R)<|Ac<|Cj 24 R fun h11=>Bw hm (fun _ (_:Unit)=>[(1,.ptr b 0)]) (fun _ (_:Unit)=>[X47 b p]) (fun o2 hm h10=>?_) fun j2 _ hm=> ?_
 ·refine Cx (p.Ports) (fun zl zk (zs:Int)=>spec_RightPod.l2 zl zk zs) (fun k2 zs (_:Unit)=>[(1,.ptr b 0),(5,Iw zs),(24,L3 p.Ports),(25,Iw (p.Ports.length : Int)),(26,Iw (k2 : Int))]) (fun _ _ (_:Unit)=>[X47 b p]) _ () hm (Ag [0] R R) (fun k2 last2 _ hk hm=>?_) fun k2 x2 l2 last2 _ h12 hm=> ?_
  ·rw [spec_RightPod.l2] at hm
   exact Ae tbk [] R R<|Af<|Ca R (k_end hk)<|A7<|Ar () hm (Ag [0] R R)
  rw [spec_RightPod.l2] at hm
  exact Ae tbk [] R R<|Af<|B7 R (k_lt h12)<|Am<|Af<|A2<|Ai<|Ab R R (Cp (VV.int .i64) R R el45 h12)<|Aa tbk [] 2 R R<|Ac<|Af<|Ai<|Aa tbk [] 4 R R<|Cr tbk [] 3 36 33 R R R R R<|Ac<|Ao hm R (fun h14 hm=>Ae tbk [] R R<|have hm:=Lr hm h10;Rt1 hm R [] R R R) fun h14 hm=>Am<|Bc tbk [] R R<|Bc tbk [] R R<|Ap _ () hm (B0 [0] R ⟨R,R,R,R,congrArg some (k_next h12 h11),trivial⟩)
 refine Af<|Ai<|Aa tbk [0,0,0,0] 8 R R<|Ad R R<|A5 ap150 R R R R R fun b3=>Bl (A6 0 [(47,L42 [p.Labels,p.Select,p.Apart,p.Spread])] R ⟨⟨_,R,.here _ R⟩,trivial⟩ (FzH.refl _))<|Ab R R (Aw (fun (q : List T_api_Label) => VV.list 92 (List.map T_api_Label.vv q)) R Tryz.underlying150)<|Ab R R (Aj R)<|Ac<|Cj 47 R fun h18=>Bw hm (fun _ (_:Unit)=>[(1,.ptr b 0)]) (fun _ (_:Unit)=>[X47 b p]) (fun o3 hm h17=>?_) fun j3 _ hm=> ?_
 ·refine Cx ([p.Labels,p.Select,p.Apart,p.Spread]) (fun zl zk (zs:Unit)=>spec_RightPod.l3 zl zk) (fun k3 _ (_:Unit)=>[(1,.ptr b 0),(47,L42 [p.Labels,p.Select,p.Apart,p.Spread]),(48,Iw ([p.Labels,p.Select,p.Apart,p.Spread].length : Int)),(49,Iw (k3 : Int))]) (fun _ _ (_:Unit)=>[X47 b p]) () () hm (Ag [0] R R) (fun k3 _ _ hk hm=>?_) fun k3 x3 l3 _ _ h19 hm=> ?_
  ·rw [spec_RightPod.l3] at hm
   exact Ae tbk [] R R<|Af<|Ca R (k_end hk)<|A7<|Ar () hm (Ag [0] R R)
  rw [spec_RightPod.l3] at hm
  exact Ae tbk [] R R<|Af<|B7 R (k_lt h19)<|Am<|Af<|A2<|Ai<|Ab R R (Cp (fun (q : List T_api_Label) => VV.list 92 (List.map T_api_Label.vv q)) R R el150 h19)<|Aa tbk [] 2 R R<|Ac<|Ai<|Ab R R (Aj R)<|Ad R R<|Av hm 0 R fn127 R (K19 _) fun r2 hm=>Ab R R (B6 R)<|Ac<|Ao hm R (fun h21 hm=>Ae tbk [] R R<|have hm:=Lr hm h17;Rt1 hm R [] R R R) fun h21 hm=>Am<|Bc tbk [] R R<|Ap () () hm (B0 [0] R ⟨R,R,R,congrArg some (k_next h19 h18),trivial⟩)
 exact Ae tbk [] R R<|Dm hm (fun j4 (_:Unit)=>[(1,.ptr b 0),(10,Iw j4.1),(11,Iw j4.2)]) (fun _ (_:Unit)=>[X47 b p]) (fun o4 hm=>Ai<|Aa tbk [0] 2 R R<|Ab R R (Aw T_api_Label.vv R Bu)<|Ab R R (Ba R R R)<|Ac<|Ao hm R (fun h24 hm=>Bc tbk [] R R<|As () hm (Ag [0] R R)) fun h24 hm=>Am<|As () hm (Ag [0] R R)) fun j4 _ hm=>Af<|A2<|Ai<|Aa tbk [0] 2 R R<|Ad R R<|Av hm 0 R fn128 R (K14 _) fun r3 hm=>Aa tbk [] 2 R R<|Bh hm 5 71 66 R (fun _ K' h26 J hm=>Aa tbk [] 5 R R<|J 4 R R (Bj hm)) (fun _ K' h26 J hm=>Aa tbk [0] 2 R R<|A1 R R R R R<|Av hm 0 R fn129 R (K15 _) fun r4 hm=>Aa tbk [] 2 R R<|J 4 R R (Bj hm)) fun c hm=>Ab R R (Ak R)<|Ac<|Ao hm R (fun h29 hm=>Ae tbk [] R R<|Rt1 hm R [] R R R) fun h29 hm=>Ai<|Aa tbk [0] 2 R R<|Ad R R<|Av hm 0 R fn130 R (K17 _) fun r5 hm=>Aa tbk [] 2 R R<|Cr tbk [0] 5 82 77 R R R R R<|Ab R R (Ak R)<|Ac<|Ao hm R (fun h32 hm=>Ae tbk [] R R<|Rt1 hm R [] R R R) fun h32 hm=>Ai<|Aa tbk [0] 2 R R<|Ab R R (Aw T_api_Term.vv R Cl)<|Aa tbk [] 2 R R<|Cv 5 93 88 R (fun K' J=>Aa tbk [] 5 R R<|J 4 R R R) (fun h33 K' J=>Aa tbk [0] 2 R R<|Bb R R R R R (Aw (VV.int .i64) R Cm)<|Aa tbk [] 2 R R<|J 4 R R R)<|Ab R R (Ak R)<|Ac<|Ao hm R (fun h34 hm=>Ae tbk [] R R<|Rt1 hm R [] R R R) fun h34 hm=>Ai<|Aa tbk [0] 3 R R<|Db 5 102 97 R (fun h35 K' J=>Aa tbk [0] 2 R R<|Bb R R R R R (Aw T_api_Label.vv R Bu)<|Aa tbk [] 2 R R<|J 4 R R R) (fun K' J=>Aa tbk [] 5 R R<|J 4 R R R)<|Ab R R (Aj R)<|Bh hm 7 110 103 R (fun _ K' h36 J hm=>Aa tbk [] 7 R R<|J 6 R R (Bj hm)) (fun _ K' h36 J hm=>Aa tbk [0] 4 R R<|A1 R R R R R<|Av hm 0 R fn131 R (K33 _ _ _) fun r6 hm=>Aa tbk [] 2 R R<|J 6 R R (Bj hm)) fun c2 hm=>Ab R R (Ak R)<|Ac<|Ao hm R (fun h39 hm=>Ae tbk [] R R<|Rt1 hm R [] R R R) fun h39 hm=>Am<|Ai<|Aa tbk [0] 2 R R<|Ad R R<|Av hm 0 R fn132 R (K34 _) fun r7 hm=>Ab R R (Aj R)<|Bh hm 4 118 114 R (fun _ K' h41 J hm=>Aa tbk [0] 2 R R<|A1 R R R R R<|Av hm 0 R fn131 R (K33 _ _ _) fun r8 hm=>Ab R R (Bk true R R R)<|J 3 R R (Bj hm)) (fun _ K' h41 J hm=>Aa tbk [] 4 R R<|J 3 R R (Bj hm)) fun c3 hm=>Ab R R (Ak R)<|Ac<|Rt1 hm R [] R R R

/-! trireme/yard.Check$3 -/
def yard_Check_3 (i : Int) (a : List T_api_Bound) : Option Bool :=
 (V.gl a i).bind fun x =>
 (spec_RightPod x.Pod).bind fun r =>
 some (!r)
theorem K36 (i : Int) (a : List T_api_Bound) (b : Nat) : VS Tryz.prog 123 (yard_Check_3 i a) [Iw i, .ptr b 0] [.box b 23 [L49 a]] .bool (fun r=>[.box b 23 [L49 a]]) := by
 refine A4 [.tmp 3] Tryz.func123 R R R fun r hm=>?_
 unfold yard_Check_3 at hm
 exact Ae tbk [] R R<|Ai<|Aa tbk [0] 2 R R<|Bd hm fun x h1 hm=>Ab R R (Bf T_api_Bound.vv R R el23 h1)<|Aa tbk [] 2 R R<|Ad R R<|Av hm 0 R fn78 R (K35 _) fun r hm=>Aa tbk [] 2 R R<|Ac<|Rt1 hm R [0] R R R

/-! trireme/yard.first -/
def yard_first_yard_Check_3.l1 (n : Int) (c : List T_api_Bound) : Nat → Int → Option (Out Int Unit)
 | 0, _ => none
 | n2 + 1, v2 =>
  if (decide (v2 < n)) = true then
   (yard_Check_3 v2 c).bind fun r =>
   if r = true then
    some (Out.ret v2)
   else
    yard_first_yard_Check_3.l1 n c n2 (i64.wrap (v2 + 1))
  else
   some (Out.go ())
def yard_first_yard_Check_3 (n : Int) (c : List T_api_Bound) : Option Int :=
 (yard_first_yard_Check_3.l1 n c FU (0 : Int)).bind fun o =>
 o.on fun j =>
 some (-1)
theorem K37 (n : Int) (c : List T_api_Bound) (b : Nat) : VS Tryz.prog 96 (yard_first_yard_Check_3 n c) [Iw n, .clo (.func 123) [] [.ptr b 0]] [.box b 23 [L49 c]] Iw (fun r=>[.box b 23 [L49 c]]) := by
 refine A4 [.tmp 4] Dh R R R fun r hm=>?_
 unfold yard_first_yard_Check_3 at hm
 refine Ae tbk [] R R<|Af<|Ae tbk [] R R<|Bw hm (fun _ (_:Unit)=>[]) (fun _ (_:Unit)=>[.box b 23 [L49 c]]) (fun o hm h2=>?_) fun j _ hm=> ?_
 ·refine B1 (fun zn (zs:Int)=>yard_first_yard_Check_3.l1 n c zn zs) (fun zs (_:Unit)=>[(1,.clo (.func 123) [] [.ptr b 0]),(6,Iw n),(7,Iw zs)]) (fun _ (_:Unit)=>[.box b 23 [L49 c]]) _ () (fun _=>R) hm (Ag [0] R R) fun n2 v2 _ hm=> ?_
  rw [yard_first_yard_Check_3.l1] at hm
  exact Ae tbk [] R R<|Af<|Ao hm R (fun h3 hm=>Am<|Af<|A2<|Ae tbk [] R R<|Ai<|Aa tbk [] 2 R R<|Ad R R<|Av hm 1 R fn123 R (K36 _ _ _) fun r hm=>Ac<|Ao hm R (fun h5 hm=>Ae tbk [] R R<|have hm:=Lr hm h2;Rt1 hm R [0] R R R) fun h5 hm=>Am<|Bc tbk [] R R<|Ap _ () hm (Ag [0] R R)) fun h3 hm=>A7<|Ar () hm (Ag [0] R R)
 exact Ae tbk [] R R<|Rt1 hm R [0] R R R

/-! trireme/yard.Check$1 -/
def yard_Check_1_yard_Check_3 (n : Int) (c : List T_api_Bound) : Option Bool :=
 (yard_first_yard_Check_3 n c).bind fun r =>
 some (r != (-1))
theorem K38 (n : Int) (c : List T_api_Bound) (b : Nat) : VS Tryz.prog 121 (yard_Check_1_yard_Check_3 n c) [Iw n, .clo (.func 123) [] [.ptr b 0]] [.box b 23 [L49 c]] .bool (fun r=>[.box b 23 [L49 c]]) := by
 refine A4 [.tmp 4] Dw R R R fun r hm=>?_
 unfold yard_Check_1_yard_Check_3 at hm
 exact Ae tbk [] R R<|Ai<|Aa tbk [] 2 R R<|Ad R R<|Av hm 1 R fn96 R (K37 _ _ _) fun r hm=>Aa tbk [] 2 R R<|Ac<|Rt1 hm R [0] R R R

/-! trireme/yard.Check$4 -/
def yard_Check_4 (i : Int) (a : List T_api_Bound) (a2 : List (ByteArray × Int)) : Option Bool :=
 (V.gl a i).bind fun x =>
 (if (!(V.seq x.On (⟨#[]⟩ : ByteArray))) = true then (V.gl a i).bind fun x2 =>
 some (((V.mg a2 x2.On).getD 0) == 0) else some false).bind fun c =>
 some c
theorem K39 (i : Int) (a : List T_api_Bound) (a2 : List (ByteArray × Int)) (b : Nat) (b2 : Nat) (b3 : Nat) : VS Tryz.prog 124 (yard_Check_4 i a a2) [Iw i, .ptr b 0, .ptr b2 0] [.box b 23 [L49 a], .box b2 149 [.map b3], .map b3 (List.map (pf VV.str (VV.int .i64)) a2)] .bool (fun r=>[.box b 23 [L49 a], .box b2 149 [.map b3], .map b3 (List.map (pf VV.str (VV.int .i64)) a2)]) := by
 refine A4 [.tmp 4] Tryz.func124 R R R fun r hm=>?_
 unfold yard_Check_4 at hm
 exact Ae tbk [] R R<|Af<|Be 0 mixed<|Aq tbk [0,1] [0] (by kernel_rfl) R R R<|Bd hm fun x h1 hm=>Ax 2 R R R (by kernel_rfl) (Bf T_api_Bound.vv R R el23 h1)<|Aq tbk [3,4,5,6] [] (by kernel_rfl) R R R<|Cw hm [15,14,13,12,11,10,9,8,7,6,5,4,3,2,1,0] 20 11 R (fun _ K' h2 J hm=>Aq tbk [7,8,9] [1,0] (by kernel_rfl) R R R<|Bd hm fun x2 h3 hm=>Cs 10 R R R R R R (by kernel_rfl) (Bf T_api_Bound.vv R R el23 h3)<|Aq tbk [11,12] [] (by kernel_rfl) R R R<|Cs 13 R R R R R R (by kernel_rfl) (C0 2 (kf:=VV.str) (vf:=(VV.int .i64)) (l:=a2) (k:=x2.On) (z:=(0 : Int)) false mk9 B8 R R R zc3 R)<|Aq tbk [14,15] [] (by kernel_rfl) R R R<|J 8 R R (Bj hm)) (fun _ K' h2 J hm=>Aq tbk [7,8,9,10,11,12,13,14,15] [] (by kernel_rfl) R R R<|J 8 R R (Bj hm)) fun c hm=>Ax 16 R R R (by kernel_rfl) (Ak R)<|A0 (by kernel_rfl)<|Rt1 hm R [0,0,0] R R R

/-! trireme/yard.first -/
def yard_first_yard_Check_4.l1 (n : Int) (c : List T_api_Bound) (c2 : List (ByteArray × Int)) : Nat → Int → Option (Out Int Unit)
 | 0, _ => none
 | n2 + 1, v2 =>
  if (decide (v2 < n)) = true then
   (yard_Check_4 v2 c c2).bind fun r =>
   if r = true then
    some (Out.ret v2)
   else
    yard_first_yard_Check_4.l1 n c c2 n2 (i64.wrap (v2 + 1))
  else
   some (Out.go ())
def yard_first_yard_Check_4 (n : Int) (c : List T_api_Bound) (c2 : List (ByteArray × Int)) : Option Int :=
 (yard_first_yard_Check_4.l1 n c c2 FU (0 : Int)).bind fun o =>
 o.on fun j =>
 some (-1)
theorem K40 (n : Int) (c : List T_api_Bound) (c2 : List (ByteArray × Int)) (b : Nat) (b2 : Nat) (b3 : Nat) : VS Tryz.prog 96 (yard_first_yard_Check_4 n c c2) [Iw n, .clo (.func 124) [] [.ptr b 0, .ptr b2 0]] [.box b 23 [L49 c], .box b2 149 [.map b3], .map b3 (List.map (pf VV.str (VV.int .i64)) c2)] Iw (fun r=>[.box b 23 [L49 c], .box b2 149 [.map b3], .map b3 (List.map (pf VV.str (VV.int .i64)) c2)]) := by
 refine A4 [.tmp 4] Dh R R R fun r hm=>?_
 unfold yard_first_yard_Check_4 at hm
 refine Ae tbk [] R R<|Af<|Ae tbk [] R R<|Bw hm (fun _ (_:Unit)=>[]) (fun _ (_:Unit)=>[.box b 23 [L49 c],.box b2 149 [.map b3],.map b3 (List.map (pf VV.str (VV.int .i64)) c2)]) (fun o hm h2=>?_) fun j _ hm=> ?_
 ·refine B1 (fun zn (zs:Int)=>yard_first_yard_Check_4.l1 n c c2 zn zs) (fun zs (_:Unit)=>[(1,.clo (.func 124) [] [.ptr b 0,.ptr b2 0]),(6,Iw n),(7,Iw zs)]) (fun _ (_:Unit)=>[.box b 23 [L49 c],.box b2 149 [.map b3],.map b3 (List.map (pf VV.str (VV.int .i64)) c2)]) _ () (fun _=>R) hm (Ag [0,0,0] R R) fun n2 v2 _ hm=> ?_
  rw [yard_first_yard_Check_4.l1] at hm
  exact Ae tbk [] R R<|Af<|Ao hm R (fun h3 hm=>Am<|Af<|A2<|Ae tbk [] R R<|Ai<|Aa tbk [] 2 R R<|Ad R R<|Av hm 3 R fn124 R (K39 _ _ _ _ _ _) fun r hm=>Ac<|Ao hm R (fun h5 hm=>Ae tbk [] R R<|have hm:=Lr hm h2;Rt1 hm R [0,0,0] R R R) fun h5 hm=>Am<|Bc tbk [] R R<|Ap _ () hm (Ag [0,0,0] R R)) fun h3 hm=>A7<|Ar () hm (Ag [0,0,0] R R)
 exact Ae tbk [] R R<|Rt1 hm R [0,0,0] R R R

/-! trireme/yard.Check$1 -/
def yard_Check_1_yard_Check_4 (n : Int) (c : List T_api_Bound) (c2 : List (ByteArray × Int)) : Option Bool :=
 (yard_first_yard_Check_4 n c c2).bind fun r =>
 some (r != (-1))
theorem K41 (n : Int) (c : List T_api_Bound) (c2 : List (ByteArray × Int)) (b : Nat) (b2 : Nat) (b3 : Nat) : VS Tryz.prog 121 (yard_Check_1_yard_Check_4 n c c2) [Iw n, .clo (.func 124) [] [.ptr b 0, .ptr b2 0]] [.box b 23 [L49 c], .box b2 149 [.map b3], .map b3 (List.map (pf VV.str (VV.int .i64)) c2)] .bool (fun r=>[.box b 23 [L49 c], .box b2 149 [.map b3], .map b3 (List.map (pf VV.str (VV.int .i64)) c2)]) := by
 refine A4 [.tmp 4] Dw R R R fun r hm=>?_
 unfold yard_Check_1_yard_Check_4 at hm
 exact Ae tbk [] R R<|Ai<|Aa tbk [] 2 R R<|Ad R R<|Av hm 3 R fn96 R (K40 _ _ _ _ _ _) fun r hm=>Aa tbk [] 2 R R<|Ac<|Rt1 hm R [0,0,0] R R R

/-! trireme/yard.Check -/
def yard_Check.l1 : List T_api_Machine → Nat → (List (ByteArray × Int)) → Option (List (ByteArray × Int))
 | [], k, machines2 => some machines2
 | x :: l, k, machines2 =>
  yard_Check.l1 l (k + 1) (V.mp machines2 x.Name (i64.wrap (((V.mg machines2 x.Name).getD 0) + 1)))
def yard_Check.l2 : List T_api_Bound → Nat → (List (ByteArray × Int)) → Option (List (ByteArray × Int))
 | [], k2, pods2 => some pods2
 | x2 :: l2, k2, pods2 =>
  yard_Check.l2 l2 (k2 + 1) (V.mp pods2 x2.Pod.Name (i64.wrap (((V.mg pods2 x2.Pod.Name).getD 0) + 1)))
def yard_Check (ms : List T_api_Machine) (bs : List T_api_Bound) : Option Int :=
 if ((decide ((ms.length : Int) > 200)) || (decide ((bs.length : Int) > 400))) = true then
  some 7
 else
  (yard_Check_1_yard_Check_2 (ms.length : Int) ms).bind fun r =>
  if r = true then
   some 12
  else
   (yard_Check_1_yard_Check_3 (bs.length : Int) bs).bind fun r2 =>
   if r2 = true then
    some 12
   else
    (yard_Check.l1 ms 0 ([] : List (ByteArray × Int))).bind fun machines32 =>
    (yard_Check.l2 bs 0 ([] : List (ByteArray × Int))).bind fun pods32 =>
    if ((decide ((machines32.length : Int) < (ms.length : Int))) || (decide ((pods32.length : Int) < (bs.length : Int)))) = true then
     some 15
    else
     (yard_Check_1_yard_Check_4 (bs.length : Int) bs machines32).bind fun r3 =>
     if r3 = true then
      some 16
     else
      some 0
theorem K42 (ms : List T_api_Machine) (bs : List T_api_Bound) : VS Tryz.prog 67 (yard_Check ms bs) [L61 ms, L49 bs] [] Iw N0 := by
 refine A4 [.tmp 4] Tryz.func67 R R R fun r hm=>?_
 unfold yard_Check at hm
 refine Ai<|Ad R R<|Bg R R fun b=>Ad R R<|Bg R R fun b2=>Ab R R (Ak R)<|Ac<|Ae tbk [] R R<|Af<|A2<|Ai<|Aa tbk [1] 1 R R<|Ab R R (Aw T_api_Machine.vv R Ay)<|Aa tbk [] 2 R R<|Cv 4 20 16 R (fun K' J=>Aa tbk [] 4 R R<|J 3 R R R) (fun h3 K' J=>Aa tbk [0] 1 R R<|Bb R R R R R (Aw T_api_Bound.vv R Bq)<|Aa tbk [] 2 R R<|J 3 R R R)<|Ab R R (Ak R)<|Ac<|Ao hm R (fun h4 hm=>Ae tbk [] R R<|Rt1 hm R [] R R R) fun h4 hm=>Ai<|Aa tbk [1] 2 R R<|Ab R R (Aw T_api_Machine.vv R Ay)<|Ab R R (Cd R R)<|Bl (Bi [1,0] R)<|Ad R R<|Av hm 1 R fn121 R (K27 _ _ _) fun r hm=>Ab R R (Ak R)<|Ac<|Ao hm R (fun h6 hm=>Ae tbk [] R R<|Rt1 hm R [] R R R) fun h6 hm=>Ai<|Aa tbk [1] 2 R R<|Ab R R (Aw T_api_Bound.vv R Bq)<|Ab R R (Cd R R)<|Bl (Bi [1,0] R)<|Ad R R<|Av hm 1 R fn121 R (K38 _ _ _) fun r2 hm=>Ab R R (Ak R)<|Ac<|Ao hm R (fun h8 hm=>Ae tbk [] R R<|Rt1 hm R [] R R R) fun h8 hm=>Am<|Ai<|Ad R R<|Dj fun b3=>Ad R R<|Dj fun b4=>Ad R R<|A3 z149 fun b5=>Ad R R<|An (i:=0) R R R ld149 R R R<|Ab R R (Ak R)<|Ac<|Af<|Ai<|Aa tbk [4] 1 R R<|Ab R R (Aw T_api_Machine.vv R Ay)<|Ab R R (Aj R)<|Ac<|Cj 35 R fun h14=>Cn hm (fun _ (_:Unit)=>[(2,.ptr b 0),(3,.ptr b2 0),(5,.clo (.func 121) [] []),(6,.ptr b5 0),(7,.map b4)]) (fun machines32 (_:Unit)=>[.box b5 149 [.map b3],.map b4 (List.map (pf VV.str (VV.int .i64)) ([] : List (ByteArray × Int))),.map b3 (List.map (pf VV.str (VV.int .i64)) machines32),.box b2 23 [L49 bs],.box b 22 [L61 ms]]) (fun o hm=>?_) fun machines32 _ hm=> ?_
 ·refine Cx (ms) (fun zl zk (zs:List (ByteArray × Int))=>yard_Check.l1 zl zk zs) (fun k _ (_:Unit)=>[(2,.ptr b 0),(3,.ptr b2 0),(5,.clo (.func 121) [] []),(6,.ptr b5 0),(7,.map b4),(35,L61 ms),(36,Iw (ms.length : Int)),(37,Iw (k : Int))]) (fun _ zs (_:Unit)=>[.box b5 149 [.map b3],.map b4 (List.map (pf VV.str (VV.int .i64)) ([] : List (ByteArray × Int))),.map b3 (List.map (pf VV.str (VV.int .i64)) zs),.box b2 23 [L49 bs],.box b 22 [L61 ms]]) _ () hm (Ag [0,0,0,0,0] R R) (fun k machines2 _ hk hm=>?_) fun k x l machines2 _ h15 hm=> ?_
  ·rw [yard_Check.l1] at hm
   exact Ae tbk [] R R<|Af<|Ca R (k_end hk)<|A7<|As () hm (Ag [0,0,0,0,0] R R)
  rw [yard_Check.l1] at hm
  exact Ae tbk [] R R<|Af<|B7 R (k_lt h15)<|Am<|Af<|A2<|Ai<|Ab R R (Cp T_api_Machine.vv R R el22 h15)<|Ab R R (Bt R ld61 R)<|Ad R R<|A3 z61 fun b6=>Ad R R<|An (i:=0) R R R ld61 R R R<|Ac<|Bn<|Aa tbk [1,0] 3 R R<|Ab R R (C0 3 (kf:=VV.str) (vf:=(VV.int .i64)) (l:=machines2) (k:=x.Name) (z:=(0 : Int)) false mk9 B8 R R R zc3 R)<|Ab R R (Ba R R R)<|Ad R R<|De 3 (kf:=VV.str) (vf:=(VV.int .i64)) (l:=machines2) (k:=x.Name) (z:=(IntKind.i64.wrap (((V.mg machines2 x.Name).getD (0 : Int)) + (1 : Int)))) mk9 B8 R R R R<|Ac<|Bc tbk [] R R<|Ap _ () hm (B0 [1,1,1,1,1] R ⟨R,R,R,R,R,R,R,congrArg some (k_next h15 h14),trivial⟩)
 refine Af<|Ai<|Aa tbk [3] 1 R R<|Ab R R (Aw T_api_Bound.vv R Bq)<|Ab R R (Aj R)<|Ac<|Cj 47 R fun h19=>Cn hm (fun _ (_:Unit)=>[(2,.ptr b 0),(3,.ptr b2 0),(5,.clo (.func 121) [] []),(6,.ptr b5 0),(7,.map b4)]) (fun pods32 (_:Unit)=>[.box b5 149 [.map b3],.map b4 (List.map (pf VV.str (VV.int .i64)) pods32),.map b3 (List.map (pf VV.str (VV.int .i64)) machines32),.box b2 23 [L49 bs],.box b 22 [L61 ms]]) (fun o2 hm=>?_) fun pods32 _ hm=> ?_
 ·refine Cx (bs) (fun zl zk (zs:List (ByteArray × Int))=>yard_Check.l2 zl zk zs) (fun k2 _ (_:Unit)=>[(2,.ptr b 0),(3,.ptr b2 0),(5,.clo (.func 121) [] []),(6,.ptr b5 0),(7,.map b4),(47,L49 bs),(48,Iw (bs.length : Int)),(49,Iw (k2 : Int))]) (fun _ zs (_:Unit)=>[.box b5 149 [.map b3],.map b4 (List.map (pf VV.str (VV.int .i64)) zs),.map b3 (List.map (pf VV.str (VV.int .i64)) machines32),.box b2 23 [L49 bs],.box b 22 [L61 ms]]) _ () hm (Ag [0,0,0,0,0] R R) (fun k2 pods2 _ hk hm=>?_) fun k2 x2 l2 pods2 _ h20 hm=> ?_
  ·rw [yard_Check.l2] at hm
   exact Ae tbk [] R R<|Af<|Ca R (k_end hk)<|A7<|As () hm (Ag [0,0,0,0,0] R R)
  rw [yard_Check.l2] at hm
  exact Ae tbk [] R R<|Af<|B7 R (k_lt h20)<|Am<|Af<|A2<|Ai<|Ab R R (Cp T_api_Bound.vv R R el23 h20)<|Ab R R (Bt R ld49 R)<|Ad R R<|A3 z49 fun b7=>Ad R R<|An (i:=0) R R R ld49 R R R<|Ac<|Bn<|Aa tbk [0] 4 R R<|Ab R R (C0 2 (kf:=VV.str) (vf:=(VV.int .i64)) (l:=pods2) (k:=x2.Pod.Name) (z:=(0 : Int)) false mk9 B8 R R R zc3 R)<|Ab R R (Ba R R R)<|Ad R R<|De 2 (kf:=VV.str) (vf:=(VV.int .i64)) (l:=pods2) (k:=x2.Pod.Name) (z:=(IntKind.i64.wrap (((V.mg pods2 x2.Pod.Name).getD (0 : Int)) + (1 : Int)))) mk9 B8 R R R R<|Ac<|Bc tbk [] R R<|Ap _ () hm (B0 [1,1,1,1,1] R ⟨R,R,R,R,R,R,R,congrArg some (k_next h20 h19),trivial⟩)
 exact Af<|A2<|Ai<|Aa tbk [0] 1 R R<|Ab R R (VP.lenM 2 (kf:=VV.str) (vf:=(VV.int .i64)) (l:=machines32) R R B8)<|Aa tbk [4] 1 R R<|Ab R R (Aw T_api_Machine.vv R Ay)<|Aa tbk [] 2 R R<|Cv 6 72 66 R (fun K' J=>Aa tbk [] 6 R R<|J 5 R R R) (fun h22 K' J=>Bb R R R R R (Aj R)<|Bb R R R R R (VP.lenM 1 (kf:=VV.str) (vf:=(VV.int .i64)) (l:=pods32) R R B8)<|Aa tbk [3] 1 R R<|Bb R R R R R (Aw T_api_Bound.vv R Bq)<|Aa tbk [] 2 R R<|J 5 R R R)<|Ab R R (Ak R)<|Ac<|Ao hm R (fun h23 hm=>Ae tbk [] R R<|Rt1 hm R [] R R R) fun h23 hm=>Ai<|Aa tbk [3] 2 R R<|Ab R R (Aw T_api_Bound.vv R Bq)<|Ab R R (Cd R R)<|Bl (Bi [3,0,1,0,0] R)<|Ad R R<|Av hm 3 R fn121 R (K41 _ _ _ _ _ _) fun r3 hm=>Ab R R (Ak R)<|Ac<|Ao hm R (fun h25 hm=>Ae tbk [] R R<|Rt1 hm R [] R R R) fun h25 hm=>Am<|Ae tbk [] R R<|Rt1 hm R [] R R R

/-! trireme/snap.machine -/
def snap_machine (m : T_api_Machine) : Option T_api_Machine :=
 (V.ap 32 ([] : List T_api_Label) m.Labels).bind fun l =>
 (V.ap 40 ([] : List T_api_Taint) m.Taints).bind fun l2 =>
 some (⟨m.Name, m.Group, m.Has, l, l2, m.Ready⟩ : T_api_Machine)
theorem K43 (m : T_api_Machine) : VS Tryz.prog 83 (snap_machine m) [T_api_Machine.vv m] [] (fun r=>T_api_Machine.vv r) N0 := by
 refine A4 [.cell 2 61] Tryz.func83 R R R fun r hm=>?_
 unfold snap_machine at hm
 exact Ai<|Ad R R<|Bg R R fun b=>Ad R R<|A3 z61 fun b2=>Ac<|Ai<|Aa tbk [1] 2 R R<|Bl (Bx 92)<|Bd hm fun l h4 hm=>Ad R R<|Ch 0 T_api_Label.vv (l:=([] : List T_api_Label)) (l2:=m.Labels) ap42 R R (sT_list T_api_Label.vv el42 R R) h4 fun ob cap=>Ab R R (C6 R fa61_3)<|Ad R R<|An (i:=2) R R R ld42 R R R<|Ac<|Ai<|Aa tbk [2] 2 R R<|Bl (Bx 166)<|Bd hm fun l2 h6 hm=>Ad R R<|Ch 0 T_api_Taint.vv (l:=([] : List T_api_Taint)) (l2:=m.Taints) ap59 R R (sT_list T_api_Taint.vv el59 R R) h6 fun ob2 cap2=>Ab R R (C6 R fa61_4)<|Ad R R<|An (i:=3) R R R ld59 R R R<|Ac<|Ai<|Aa tbk [3] 1 R R<|Ad R R<|An (i:=2) R R R ld61 R R R<|Ac<|Bz (A6 (H':=[Q166 ob2 cap2 l2,.box b2 61 [.str m.Name,.str m.Group,Iw m.Has.Cpu,Iw m.Has.Mem,Iw m.Has.Disk,Iw m.Has.Pods,Iw m.Has.Dev,L92 l,Z166 ob2 l2 cap2,.bool m.Ready],.box b 61 [.str m.Name,.str m.Group,Iw m.Has.Cpu,Iw m.Has.Mem,Iw m.Has.Disk,Iw m.Has.Pods,Iw m.Has.Dev,L92 l,Z166 ob2 l2 cap2,.bool m.Ready]]) 1 [(5,L92 l),(11,.agg [.str m.Name,.str m.Group,Iw m.Has.Cpu,Iw m.Has.Mem,Iw m.Has.Disk,Iw m.Has.Pods,Iw m.Has.Dev,L92 l,Z166 ob2 l2 cap2,.bool m.Ready])] R ⟨⟨_,R,.here _ R⟩,⟨_,R,.aggL ⟨.same _,.same _,.same _,.same _,.same _,.same _,.same _,.here _ R,.same _,.same _,trivial⟩⟩,trivial⟩ ⟨.same _,.box _ _ _ _ ⟨.same _,.same _,.same _,.same _,.same _,.same _,.same _,.here _ R,.same _,.same _,trivial⟩,.box _ _ _ _ ⟨.same _,.same _,.same _,.same _,.same _,.same _,.same _,.here _ R,.same _,.same _,trivial⟩,trivial⟩)<|Bz (A6 (H':=[X61 b2 (⟨m.Name,m.Group,m.Has,l,l2,m.Ready⟩ : T_api_Machine),X61 b (⟨m.Name,m.Group,m.Has,l,l2,m.Ready⟩ : T_api_Machine)]) 0 [(9,L166 l2),(11,T_api_Machine.vv (⟨m.Name,m.Group,m.Has,l,l2,m.Ready⟩ : T_api_Machine))] R ⟨⟨_,R,.here _ R⟩,⟨_,R,.aggL ⟨.same _,.same _,.same _,.same _,.same _,.same _,.same _,.same _,.here _ R,.same _,trivial⟩⟩,trivial⟩ ⟨.box _ _ _ _ ⟨.same _,.same _,.same _,.same _,.same _,.same _,.same _,.same _,.here _ R,.same _,trivial⟩,.box _ _ _ _ ⟨.same _,.same _,.same _,.same _,.same _,.same _,.same _,.same _,.here _ R,.same _,trivial⟩,trivial⟩)<|Rt0 hm R [] (.cons (.cell _ _ _ _ 0 _ _ _ _ R R ld61 R) .nil) R R

/-! trireme/snap.machines -/
def snap_machines.l1 : List T_api_Machine → Nat → (List T_api_Machine) → Option (List T_api_Machine)
 | [], k, l2 => some l2
 | x :: l4, k, l2 =>
  (snap_machine x).bind fun r =>
  (V.ap 128 l2 [r]).bind fun l5 =>
  snap_machines.l1 l4 (k + 1) l5
def snap_machines (ms : List T_api_Machine) : Option (List T_api_Machine) :=
 (snap_machines.l1 ms 0 ([] : List T_api_Machine)).bind fun l32 =>
 some l32
theorem K44 (ms : List T_api_Machine) : VS2 Tryz.prog 68 (snap_machines ms) [L61 ms] [] (fun r ob0 cap0=>Z61 ob0 r cap0) (fun r ob0 cap0=>[Q61 ob0 cap0 r]) := by
 refine Cf [.tmp 2] Tryz.func68 R R R fun r hm=>?_
 unfold snap_machines at hm
 refine Ae tbk [] R R<|Ae tbk [] R R<|Af<|Ai<|Ab R R (Aj R)<|Ab R R (Aw T_api_Machine.vv R Ay)<|Ab R R (Aj R)<|Ac<|Cj 6 R fun h5=>Cn hm (fun l32 (gg:Option Nat × Nat)=>[(3,Z61 gg.1 l32 gg.2)]) (fun l32 (gg:Option Nat × Nat)=>[Q61 gg.1 gg.2 l32]) (fun o hm=>?_) fun l32=>Pq fun ob3 cap3 hm=> ?_
 ·refine Cx (ms) (fun zl zk (zs:List T_api_Machine)=>snap_machines.l1 zl zk zs) (fun k zs (zg:Option Nat × Nat)=>[(3,Z61 zg.1 zs zg.2),(6,L61 ms),(7,Iw (ms.length : Int)),(8,Iw (k : Int))]) (fun _ zs (zg:Option Nat × Nat)=>[Q61 zg.1 zg.2 zs]) _ (none,0) hm (Ct (Bx 61) (Ag [0] R R)) (fun k l2=>Pq fun ob2 cap2 hk hm=>?_) fun k x l4 l2=>Pq fun ob2 cap2 h6 hm=> ?_
  ·rw [snap_machines.l1] at hm
   exact Ae tbk [] R R<|Af<|Ca R (k_end hk)<|A7<|As (ob2,cap2) hm (Ag [0] R R)
  rw [snap_machines.l1] at hm
  exact Ae tbk [] R R<|Af<|B7 R (k_lt h6)<|Am<|Af<|A2<|Ai<|Ab R R (Cp T_api_Machine.vv R R el22 h6)<|Ab R R (Bt R ld61 R)<|Ad R R<|A3 z61 fun b=>Ad R R<|An (i:=0) R R R ld61 R R R<|Ac<|Bn<|Aa tbk [0] 2 R R<|Ad R R<|Av hm 0 R fn83 R (K43 _) fun r hm=>Ad R R<|A5 ap22 R R R R R fun b2=>Bd hm fun l5 h10 hm=>Ad R R<|Ch 2 T_api_Machine.vv (l:=l2) (l2:=[r]) ap22 R R (sT_row 0 T_api_Machine.vv el22 R R) h10 fun ob4 cap4=>Ab R R (Ak R)<|Ac<|Bc tbk [] R R<|Ap _ (ob4,cap4) hm (B0 [2] R ⟨R,R,R,congrArg some (k_next h6 h5),trivial⟩)
 exact Ae tbk [] R R<|Rg2 hm R [0] ob3 cap3 (.cons (.tmp _ _ R) .nil) R R

/-! trireme/snap.pod -/
def snap_pod.l1 : List T_api_Term → Nat → T_api_Pod → (List T_api_Term) → Option (T_api_Pod × List T_api_Term)
 | [], k, p3, terms2 => some (p3, terms2)
 | x :: l7, k, p3, terms2 =>
  (V.ap 16 ([] : List ByteArray) x.Vals).bind fun l8 =>
  (V.ap 48 terms2 [(⟨x.Key, x.Op, l8⟩ : T_api_Term)]).bind fun terms4 =>
  snap_pod.l1 l7 (k + 1) p3 terms4
def snap_pod (p : T_api_Pod) : Option T_api_Pod :=
 (V.ap 32 ([] : List T_api_Label) p.Labels).bind fun l =>
 (V.ap 32 ([] : List T_api_Label) p.Select).bind fun l2 =>
 (V.ap 32 ([] : List T_api_Label) p.Apart).bind fun l3 =>
 (V.ap 32 ([] : List T_api_Label) p.Spread).bind fun l4 =>
 (V.ap 48 ([] : List T_api_Toleration) p.Bears).bind fun l5 =>
 (V.ap 8 ([] : List Int) p.Ports).bind fun l6 =>
 (snap_pod.l1 p.Terms 0 (⟨p.Name, p.Need, l, l2, p.Terms, l5, l6, l3, p.Wide, l4, p.Skew, p.Rank, p.Owner, p.Daemon, p.Pinned, p.Local⟩ : T_api_Pod) ([] : List T_api_Term)).bind fun j =>
 some (⟨j.1.Name, j.1.Need, j.1.Labels, j.1.Select, j.2, j.1.Bears, j.1.Ports, j.1.Apart, j.1.Wide, j.1.Spread, j.1.Skew, j.1.Rank, j.1.Owner, j.1.Daemon, j.1.Pinned, j.1.Local⟩ : T_api_Pod)
theorem K45 (p : T_api_Pod) : VS Tryz.prog 88 (snap_pod p) [T_api_Pod.vv p] [] (fun r=>T_api_Pod.vv r) N0 := by
 refine A4 [.cell 2 47] Tryz.func88 R R R fun r hm=>?_
 unfold snap_pod at hm
 refine Ai<|Ad R R<|Bg R R fun b=>Ad R R<|A3 z47 fun b2=>Ac<|Ai<|Aa tbk [1] 2 R R<|Bl (Bx 92)<|Bd hm fun l h4 hm=>Ad R R<|Ch 0 T_api_Label.vv (l:=([] : List T_api_Label)) (l2:=p.Labels) ap42 R R (sT_list T_api_Label.vv el42 R R) h4 fun ob cap=>Ab R R (C6 R fa47_2)<|Ad R R<|An (i:=2) R R R ld42 R R R<|Ac<|Ai<|Aa tbk [2] 2 R R<|Bl (Bx 92)<|Bd hm fun l2 h6 hm=>Ad R R<|Ch 0 T_api_Label.vv (l:=([] : List T_api_Label)) (l2:=p.Select) ap42 R R (sT_list T_api_Label.vv el42 R R) h6 fun ob2 cap2=>Ab R R (C6 R fa47_3)<|Ad R R<|An (i:=3) R R R ld42 R R R<|Ac<|Ai<|Aa tbk [3] 2 R R<|Bl (Bx 92)<|Bd hm fun l3 h8 hm=>Ad R R<|Ch 0 T_api_Label.vv (l:=([] : List T_api_Label)) (l2:=p.Apart) ap42 R R (sT_list T_api_Label.vv el42 R R) h8 fun ob3 cap3=>Ab R R (C6 R fa47_7)<|Ad R R<|An (i:=4) R R R ld42 R R R<|Ac<|Ai<|Aa tbk [4] 2 R R<|Bl (Bx 92)<|Bd hm fun l4 h10 hm=>Ad R R<|Ch 0 T_api_Label.vv (l:=([] : List T_api_Label)) (l2:=p.Spread) ap42 R R (sT_list T_api_Label.vv el42 R R) h10 fun ob4 cap4=>Ab R R (C6 R fa47_9)<|Ad R R<|An (i:=5) R R R ld42 R R R<|Ac<|Ai<|Aa tbk [5] 2 R R<|Bl (Bx 172)<|Bd hm fun l5 h12 hm=>Ad R R<|Ch 0 T_api_Toleration.vv (l:=([] : List T_api_Toleration)) (l2:=p.Bears) ap44 R R (sT_list T_api_Toleration.vv el44 R R) h12 fun ob5 cap5=>Ab R R (C6 R fa47_5)<|Ad R R<|An (i:=6) R R R ld44 R R R<|Ac<|Ai<|Aa tbk [6] 2 R R<|Bl (Bx 3)<|Bd hm fun l6 h14 hm=>Ad R R<|Ch 0 (VV.int .i64) (l:=([] : List Int)) (l2:=p.Ports) ap45 R R (sT_list (VV.int .i64) el45 R R) h14 fun ob6 cap6=>Ab R R (C6 R fa47_6)<|Ad R R<|An (i:=7) R R R ld45 R R R<|Ac<|Ae tbk [] R R<|Af<|Ai<|Aa tbk [7] 2 R R<|Ab R R (Aw T_api_Term.vv R Cl)<|Ab R R (Aj R)<|Ac<|Cj 31 R fun h19=>Cn hm (fun j (gg:Option Nat × Nat)=>[(1,.ptr b 0),(2,.ptr b2 0),(3,Z142 gg.1 j.2 gg.2)]) (fun j (gg:Option Nat × Nat)=>[Q142 gg.1 gg.2 j.2,Q3 ob6 cap6 j.1.Ports,Q172 ob5 cap5 j.1.Bears,Q92 ob4 cap4 j.1.Spread,Q92 ob3 cap3 j.1.Apart,Q92 ob2 cap2 j.1.Select,Q92 ob cap j.1.Labels,.box b2 47 [.str (⟨#[]⟩ : ByteArray),Iw (0 : Int),Iw (0 : Int),Iw (0 : Int),Iw (0 : Int),Iw (0 : Int),.sl none 0 0,.sl none 0 0,.sl none 0 0,.sl none 0 0,.sl none 0 0,.sl none 0 0,.bool false,.sl none 0 0,Iw (0 : Int),Iw (0 : Int),.str (⟨#[]⟩ : ByteArray),.bool false,.bool false,.bool false],.box b 47 [.str j.1.Name,Iw j.1.Need.Cpu,Iw j.1.Need.Mem,Iw j.1.Need.Disk,Iw j.1.Need.Pods,Iw j.1.Need.Dev,Z92 ob j.1.Labels cap,Z92 ob2 j.1.Select cap2,L142 j.1.Terms,Z172 ob5 j.1.Bears cap5,Z3 ob6 j.1.Ports cap6,Z92 ob3 j.1.Apart cap3,.bool j.1.Wide,Z92 ob4 j.1.Spread cap4,Iw j.1.Skew,Iw j.1.Rank,.str j.1.Owner,.bool j.1.Daemon,.bool j.1.Pinned,.bool j.1.Local]]) (fun o hm=>?_) fun j=>Pq fun ob9 cap9 hm=> ?_
 ·refine Cx (p.Terms) (fun zl zk (zs:T_api_Pod × List T_api_Term)=>snap_pod.l1 zl zk zs.1 zs.2) (fun k zs (zg:Option Nat × Nat)=>[(1,.ptr b 0),(2,.ptr b2 0),(3,Z142 zg.1 zs.2 zg.2),(31,L142 p.Terms),(32,Iw (p.Terms.length : Int)),(33,Iw (k : Int))]) (fun _ zs (zg:Option Nat × Nat)=>[Q142 zg.1 zg.2 zs.2,Q3 ob6 cap6 zs.1.Ports,Q172 ob5 cap5 zs.1.Bears,Q92 ob4 cap4 zs.1.Spread,Q92 ob3 cap3 zs.1.Apart,Q92 ob2 cap2 zs.1.Select,Q92 ob cap zs.1.Labels,.box b2 47 [.str (⟨#[]⟩ : ByteArray),Iw (0 : Int),Iw (0 : Int),Iw (0 : Int),Iw (0 : Int),Iw (0 : Int),.sl none 0 0,.sl none 0 0,.sl none 0 0,.sl none 0 0,.sl none 0 0,.sl none 0 0,.bool false,.sl none 0 0,Iw (0 : Int),Iw (0 : Int),.str (⟨#[]⟩ : ByteArray),.bool false,.bool false,.bool false],.box b 47 [.str zs.1.Name,Iw zs.1.Need.Cpu,Iw zs.1.Need.Mem,Iw zs.1.Need.Disk,Iw zs.1.Need.Pods,Iw zs.1.Need.Dev,Z92 ob zs.1.Labels cap,Z92 ob2 zs.1.Select cap2,L142 zs.1.Terms,Z172 ob5 zs.1.Bears cap5,Z3 ob6 zs.1.Ports cap6,Z92 ob3 zs.1.Apart cap3,.bool zs.1.Wide,Z92 ob4 zs.1.Spread cap4,Iw zs.1.Skew,Iw zs.1.Rank,.str zs.1.Owner,.bool zs.1.Daemon,.bool zs.1.Pinned,.bool zs.1.Local]]) ((⟨p.Name,p.Need,l,l2,p.Terms,l5,l6,l3,p.Wide,l4,p.Skew,p.Rank,p.Owner,p.Daemon,p.Pinned,p.Local⟩ : T_api_Pod),([] : List T_api_Term)) (none,0) hm (Ct (Bx 142) (Ag [0,0,0,0,0,0,0,0,0] R R)) (fun k=>Pq fun p3 terms2=>Pq fun ob8 cap8 hk hm=>?_) fun k x l7=>Pq fun p3 terms2=>Pq fun ob8 cap8 h20 hm=> ?_
  ·rw [snap_pod.l1] at hm
   exact Ae tbk [] R R<|Af<|Ca R (k_end hk)<|A7<|As (ob8,cap8) hm (Ag [0,0,0,0,0,0,0,0,0] R R)
  rw [snap_pod.l1] at hm
  exact Ae tbk [] R R<|Af<|B7 R (k_lt h20)<|Am<|Af<|A2<|Ai<|Ab R R (Cp T_api_Term.vv R R el43 h20)<|Ab R R (Bt R ld142 R)<|Ad R R<|A3 z142 fun b3=>Ad R R<|An (i:=0) R R R ld142 R R R<|Ac<|Ai<|Aa tbk [0] 2 R R<|Bl (Bx 9)<|Bd hm fun l8 h23 hm=>Ad R R<|Ch 0 VV.str (l:=([] : List ByteArray)) (l2:=x.Vals) ap25 R R (sT_list VV.str el25 R R) h23 fun ob10 cap10=>Ab R R (C6 R fa142_2)<|Ad R R<|An (i:=1) R R R ld25 R R R<|Ac<|Bn<|Aa tbk [1] 2 R R<|Bl (A6 (H':=[X142 b3 (⟨x.Key,x.Op,l8⟩ : T_api_Term),Q142 ob8 cap8 terms2,Q3 ob6 cap6 p3.Ports,Q172 ob5 cap5 p3.Bears,Q92 ob4 cap4 p3.Spread,Q92 ob3 cap3 p3.Apart,Q92 ob2 cap2 p3.Select,Q92 ob cap p3.Labels,.box b2 47 [.str (⟨#[]⟩ : ByteArray),Iw (0 : Int),Iw (0 : Int),Iw (0 : Int),Iw (0 : Int),Iw (0 : Int),.sl none 0 0,.sl none 0 0,.sl none 0 0,.sl none 0 0,.sl none 0 0,.sl none 0 0,.bool false,.sl none 0 0,Iw (0 : Int),Iw (0 : Int),.str (⟨#[]⟩ : ByteArray),.bool false,.bool false,.bool false],.box b 47 [.str p3.Name,Iw p3.Need.Cpu,Iw p3.Need.Mem,Iw p3.Need.Disk,Iw p3.Need.Pods,Iw p3.Need.Dev,Z92 ob p3.Labels cap,Z92 ob2 p3.Select cap2,L142 p3.Terms,Z172 ob5 p3.Bears cap5,Z3 ob6 p3.Ports cap6,Z92 ob3 p3.Apart cap3,.bool p3.Wide,Z92 ob4 p3.Spread cap4,Iw p3.Skew,Iw p3.Rank,.str p3.Owner,.bool p3.Daemon,.bool p3.Pinned,.bool p3.Local]]) 0 [(39,L9 l8),(42,T_api_Term.vv (⟨x.Key,x.Op,l8⟩ : T_api_Term))] R ⟨⟨_,R,.here _ R⟩,⟨_,R,.aggL ⟨.same _,.same _,.here _ R,trivial⟩⟩,trivial⟩ ⟨.box _ _ _ _ ⟨.same _,.same _,.here _ R,trivial⟩,.same _,.same _,.same _,.same _,.same _,.same _,.same _,.same _,.same _,trivial⟩)<|Ad R R<|A5 ap43 R R R R R fun b4=>Bd hm fun terms4 h25 hm=>Ad R R<|Ch 2 T_api_Term.vv (l:=terms2) (l2:=[(⟨x.Key,x.Op,l8⟩ : T_api_Term)]) ap43 R R (sT_row 0 T_api_Term.vv el43 R R) h25 fun ob11 cap11=>Ab R R (Ak R)<|Ac<|Bc tbk [] R R<|Ap (p3,terms4) (ob11,cap11) hm (B0 [2,2,2,2,2,2,2,2,2] R ⟨R,R,R,R,R,congrArg some (k_next h20 h19),trivial⟩)
 refine Ai<|Aa tbk [] 2 R R<|Ad R R<|An (i:=8) R R R ld43 R R R<|Ac<|Ai<|Aa tbk [8] 1 R R<|Ad R R<|An (i:=7) R R R ld47 R R R<|Ac<|Bz (A6 (H':=[Q142 ob9 cap9 j.2,Q3 ob6 cap6 j.1.Ports,Q172 ob5 cap5 j.1.Bears,Q92 ob4 cap4 j.1.Spread,Q92 ob3 cap3 j.1.Apart,Q92 ob2 cap2 j.1.Select,.box b2 47 [.str j.1.Name,Iw j.1.Need.Cpu,Iw j.1.Need.Mem,Iw j.1.Need.Disk,Iw j.1.Need.Pods,Iw j.1.Need.Dev,L92 j.1.Labels,Z92 ob2 j.1.Select cap2,Z142 ob9 j.2 cap9,Z172 ob5 j.1.Bears cap5,Z3 ob6 j.1.Ports cap6,Z92 ob3 j.1.Apart cap3,.bool j.1.Wide,Z92 ob4 j.1.Spread cap4,Iw j.1.Skew,Iw j.1.Rank,.str j.1.Owner,.bool j.1.Daemon,.bool j.1.Pinned,.bool j.1.Local],.box b 47 [.str j.1.Name,Iw j.1.Need.Cpu,Iw j.1.Need.Mem,Iw j.1.Need.Disk,Iw j.1.Need.Pods,Iw j.1.Need.Dev,L92 j.1.Labels,Z92 ob2 j.1.Select cap2,Z142 ob9 j.2 cap9,Z172 ob5 j.1.Bears cap5,Z3 ob6 j.1.Ports cap6,Z92 ob3 j.1.Apart cap3,.bool j.1.Wide,Z92 ob4 j.1.Spread cap4,Iw j.1.Skew,Iw j.1.Rank,.str j.1.Owner,.bool j.1.Daemon,.bool j.1.Pinned,.bool j.1.Local]]) 6 [(48,.agg [.str j.1.Name,Iw j.1.Need.Cpu,Iw j.1.Need.Mem,Iw j.1.Need.Disk,Iw j.1.Need.Pods,Iw j.1.Need.Dev,L92 j.1.Labels,Z92 ob2 j.1.Select cap2,Z142 ob9 j.2 cap9,Z172 ob5 j.1.Bears cap5,Z3 ob6 j.1.Ports cap6,Z92 ob3 j.1.Apart cap3,.bool j.1.Wide,Z92 ob4 j.1.Spread cap4,Iw j.1.Skew,Iw j.1.Rank,.str j.1.Owner,.bool j.1.Daemon,.bool j.1.Pinned,.bool j.1.Local])] R ⟨⟨_,R,.aggL ⟨.same _,.same _,.same _,.same _,.same _,.same _,.here _ R,.same _,.same _,.same _,.same _,.same _,.same _,.same _,.same _,.same _,.same _,.same _,.same _,.same _,trivial⟩⟩,trivial⟩ ⟨.same _,.same _,.same _,.same _,.same _,.same _,.box _ _ _ _ ⟨.same _,.same _,.same _,.same _,.same _,.same _,.here _ R,.same _,.same _,.same _,.same _,.same _,.same _,.same _,.same _,.same _,.same _,.same _,.same _,.same _,trivial⟩,.box _ _ _ _ ⟨.same _,.same _,.same _,.same _,.same _,.same _,.here _ R,.same _,.same _,.same _,.same _,.same _,.same _,.same _,.same _,.same _,.same _,.same _,.same _,.same _,trivial⟩,trivial⟩)<|Bz (A6 (H':=[Q142 ob9 cap9 j.2,Q3 ob6 cap6 j.1.Ports,Q172 ob5 cap5 j.1.Bears,Q92 ob4 cap4 j.1.Spread,Q92 ob3 cap3 j.1.Apart,.box b2 47 [.str j.1.Name,Iw j.1.Need.Cpu,Iw j.1.Need.Mem,Iw j.1.Need.Disk,Iw j.1.Need.Pods,Iw j.1.Need.Dev,L92 j.1.Labels,L92 j.1.Select,Z142 ob9 j.2 cap9,Z172 ob5 j.1.Bears cap5,Z3 ob6 j.1.Ports cap6,Z92 ob3 j.1.Apart cap3,.bool j.1.Wide,Z92 ob4 j.1.Spread cap4,Iw j.1.Skew,Iw j.1.Rank,.str j.1.Owner,.bool j.1.Daemon,.bool j.1.Pinned,.bool j.1.Local],.box b 47 [.str j.1.Name,Iw j.1.Need.Cpu,Iw j.1.Need.Mem,Iw j.1.Need.Disk,Iw j.1.Need.Pods,Iw j.1.Need.Dev,L92 j.1.Labels,L92 j.1.Select,Z142 ob9 j.2 cap9,Z172 ob5 j.1.Bears cap5,Z3 ob6 j.1.Ports cap6,Z92 ob3 j.1.Apart cap3,.bool j.1.Wide,Z92 ob4 j.1.Spread cap4,Iw j.1.Skew,Iw j.1.Rank,.str j.1.Owner,.bool j.1.Daemon,.bool j.1.Pinned,.bool j.1.Local]]) 5 [(48,.agg [.str j.1.Name,Iw j.1.Need.Cpu,Iw j.1.Need.Mem,Iw j.1.Need.Disk,Iw j.1.Need.Pods,Iw j.1.Need.Dev,L92 j.1.Labels,L92 j.1.Select,Z142 ob9 j.2 cap9,Z172 ob5 j.1.Bears cap5,Z3 ob6 j.1.Ports cap6,Z92 ob3 j.1.Apart cap3,.bool j.1.Wide,Z92 ob4 j.1.Spread cap4,Iw j.1.Skew,Iw j.1.Rank,.str j.1.Owner,.bool j.1.Daemon,.bool j.1.Pinned,.bool j.1.Local])] R ⟨⟨_,R,.aggL ⟨.same _,.same _,.same _,.same _,.same _,.same _,.same _,.here _ R,.same _,.same _,.same _,.same _,.same _,.same _,.same _,.same _,.same _,.same _,.same _,.same _,trivial⟩⟩,trivial⟩ ⟨.same _,.same _,.same _,.same _,.same _,.box _ _ _ _ ⟨.same _,.same _,.same _,.same _,.same _,.same _,.same _,.here _ R,.same _,.same _,.same _,.same _,.same _,.same _,.same _,.same _,.same _,.same _,.same _,.same _,trivial⟩,.box _ _ _ _ ⟨.same _,.same _,.same _,.same _,.same _,.same _,.same _,.here _ R,.same _,.same _,.same _,.same _,.same _,.same _,.same _,.same _,.same _,.same _,.same _,.same _,trivial⟩,trivial⟩)<|?_
 refine Bz (A6 (H':=[Q3 ob6 cap6 j.1.Ports,Q172 ob5 cap5 j.1.Bears,Q92 ob4 cap4 j.1.Spread,Q92 ob3 cap3 j.1.Apart,.box b2 47 [.str j.1.Name,Iw j.1.Need.Cpu,Iw j.1.Need.Mem,Iw j.1.Need.Disk,Iw j.1.Need.Pods,Iw j.1.Need.Dev,L92 j.1.Labels,L92 j.1.Select,L142 j.2,Z172 ob5 j.1.Bears cap5,Z3 ob6 j.1.Ports cap6,Z92 ob3 j.1.Apart cap3,.bool j.1.Wide,Z92 ob4 j.1.Spread cap4,Iw j.1.Skew,Iw j.1.Rank,.str j.1.Owner,.bool j.1.Daemon,.bool j.1.Pinned,.bool j.1.Local],.box b 47 [.str j.1.Name,Iw j.1.Need.Cpu,Iw j.1.Need.Mem,Iw j.1.Need.Disk,Iw j.1.Need.Pods,Iw j.1.Need.Dev,L92 j.1.Labels,L92 j.1.Select,L142 j.2,Z172 ob5 j.1.Bears cap5,Z3 ob6 j.1.Ports cap6,Z92 ob3 j.1.Apart cap3,.bool j.1.Wide,Z92 ob4 j.1.Spread cap4,Iw j.1.Skew,Iw j.1.Rank,.str j.1.Owner,.bool j.1.Daemon,.bool j.1.Pinned,.bool j.1.Local]]) 0 [(3,L142 j.2),(46,L142 j.2),(48,.agg [.str j.1.Name,Iw j.1.Need.Cpu,Iw j.1.Need.Mem,Iw j.1.Need.Disk,Iw j.1.Need.Pods,Iw j.1.Need.Dev,L92 j.1.Labels,L92 j.1.Select,L142 j.2,Z172 ob5 j.1.Bears cap5,Z3 ob6 j.1.Ports cap6,Z92 ob3 j.1.Apart cap3,.bool j.1.Wide,Z92 ob4 j.1.Spread cap4,Iw j.1.Skew,Iw j.1.Rank,.str j.1.Owner,.bool j.1.Daemon,.bool j.1.Pinned,.bool j.1.Local])] R ⟨⟨_,R,.here _ R⟩,⟨_,R,.here _ R⟩,⟨_,R,.aggL ⟨.same _,.same _,.same _,.same _,.same _,.same _,.same _,.same _,.here _ R,.same _,.same _,.same _,.same _,.same _,.same _,.same _,.same _,.same _,.same _,.same _,trivial⟩⟩,trivial⟩ ⟨.same _,.same _,.same _,.same _,.box _ _ _ _ ⟨.same _,.same _,.same _,.same _,.same _,.same _,.same _,.same _,.here _ R,.same _,.same _,.same _,.same _,.same _,.same _,.same _,.same _,.same _,.same _,.same _,trivial⟩,.box _ _ _ _ ⟨.same _,.same _,.same _,.same _,.same _,.same _,.same _,.same _,.here _ R,.same _,.same _,.same _,.same _,.same _,.same _,.same _,.same _,.same _,.same _,.same _,trivial⟩,trivial⟩)<|Bz (A6 (H':=[Q3 ob6 cap6 j.1.Ports,Q92 ob4 cap4 j.1.Spread,Q92 ob3 cap3 j.1.Apart,.box b2 47 [.str j.1.Name,Iw j.1.Need.Cpu,Iw j.1.Need.Mem,Iw j.1.Need.Disk,Iw j.1.Need.Pods,Iw j.1.Need.Dev,L92 j.1.Labels,L92 j.1.Select,L142 j.2,L172 j.1.Bears,Z3 ob6 j.1.Ports cap6,Z92 ob3 j.1.Apart cap3,.bool j.1.Wide,Z92 ob4 j.1.Spread cap4,Iw j.1.Skew,Iw j.1.Rank,.str j.1.Owner,.bool j.1.Daemon,.bool j.1.Pinned,.bool j.1.Local],.box b 47 [.str j.1.Name,Iw j.1.Need.Cpu,Iw j.1.Need.Mem,Iw j.1.Need.Disk,Iw j.1.Need.Pods,Iw j.1.Need.Dev,L92 j.1.Labels,L92 j.1.Select,L142 j.2,L172 j.1.Bears,Z3 ob6 j.1.Ports cap6,Z92 ob3 j.1.Apart cap3,.bool j.1.Wide,Z92 ob4 j.1.Spread cap4,Iw j.1.Skew,Iw j.1.Rank,.str j.1.Owner,.bool j.1.Daemon,.bool j.1.Pinned,.bool j.1.Local]]) 1 [(48,.agg [.str j.1.Name,Iw j.1.Need.Cpu,Iw j.1.Need.Mem,Iw j.1.Need.Disk,Iw j.1.Need.Pods,Iw j.1.Need.Dev,L92 j.1.Labels,L92 j.1.Select,L142 j.2,L172 j.1.Bears,Z3 ob6 j.1.Ports cap6,Z92 ob3 j.1.Apart cap3,.bool j.1.Wide,Z92 ob4 j.1.Spread cap4,Iw j.1.Skew,Iw j.1.Rank,.str j.1.Owner,.bool j.1.Daemon,.bool j.1.Pinned,.bool j.1.Local])] R ⟨⟨_,R,.aggL ⟨.same _,.same _,.same _,.same _,.same _,.same _,.same _,.same _,.same _,.here _ R,.same _,.same _,.same _,.same _,.same _,.same _,.same _,.same _,.same _,.same _,trivial⟩⟩,trivial⟩ ⟨.same _,.same _,.same _,.box _ _ _ _ ⟨.same _,.same _,.same _,.same _,.same _,.same _,.same _,.same _,.same _,.here _ R,.same _,.same _,.same _,.same _,.same _,.same _,.same _,.same _,.same _,.same _,trivial⟩,.box _ _ _ _ ⟨.same _,.same _,.same _,.same _,.same _,.same _,.same _,.same _,.same _,.here _ R,.same _,.same _,.same _,.same _,.same _,.same _,.same _,.same _,.same _,.same _,trivial⟩,trivial⟩)<|?_
 refine Bz (A6 (H':=[Q92 ob4 cap4 j.1.Spread,Q92 ob3 cap3 j.1.Apart,.box b2 47 [.str j.1.Name,Iw j.1.Need.Cpu,Iw j.1.Need.Mem,Iw j.1.Need.Disk,Iw j.1.Need.Pods,Iw j.1.Need.Dev,L92 j.1.Labels,L92 j.1.Select,L142 j.2,L172 j.1.Bears,L3 j.1.Ports,Z92 ob3 j.1.Apart cap3,.bool j.1.Wide,Z92 ob4 j.1.Spread cap4,Iw j.1.Skew,Iw j.1.Rank,.str j.1.Owner,.bool j.1.Daemon,.bool j.1.Pinned,.bool j.1.Local],.box b 47 [.str j.1.Name,Iw j.1.Need.Cpu,Iw j.1.Need.Mem,Iw j.1.Need.Disk,Iw j.1.Need.Pods,Iw j.1.Need.Dev,L92 j.1.Labels,L92 j.1.Select,L142 j.2,L172 j.1.Bears,L3 j.1.Ports,Z92 ob3 j.1.Apart cap3,.bool j.1.Wide,Z92 ob4 j.1.Spread cap4,Iw j.1.Skew,Iw j.1.Rank,.str j.1.Owner,.bool j.1.Daemon,.bool j.1.Pinned,.bool j.1.Local]]) 0 [(48,.agg [.str j.1.Name,Iw j.1.Need.Cpu,Iw j.1.Need.Mem,Iw j.1.Need.Disk,Iw j.1.Need.Pods,Iw j.1.Need.Dev,L92 j.1.Labels,L92 j.1.Select,L142 j.2,L172 j.1.Bears,L3 j.1.Ports,Z92 ob3 j.1.Apart cap3,.bool j.1.Wide,Z92 ob4 j.1.Spread cap4,Iw j.1.Skew,Iw j.1.Rank,.str j.1.Owner,.bool j.1.Daemon,.bool j.1.Pinned,.bool j.1.Local])] R ⟨⟨_,R,.aggL ⟨.same _,.same _,.same _,.same _,.same _,.same _,.same _,.same _,.same _,.same _,.here _ R,.same _,.same _,.same _,.same _,.same _,.same _,.same _,.same _,.same _,trivial⟩⟩,trivial⟩ ⟨.same _,.same _,.box _ _ _ _ ⟨.same _,.same _,.same _,.same _,.same _,.same _,.same _,.same _,.same _,.same _,.here _ R,.same _,.same _,.same _,.same _,.same _,.same _,.same _,.same _,.same _,trivial⟩,.box _ _ _ _ ⟨.same _,.same _,.same _,.same _,.same _,.same _,.same _,.same _,.same _,.same _,.here _ R,.same _,.same _,.same _,.same _,.same _,.same _,.same _,.same _,.same _,trivial⟩,trivial⟩)<|Bz (A6 (H':=[Q92 ob4 cap4 j.1.Spread,.box b2 47 [.str j.1.Name,Iw j.1.Need.Cpu,Iw j.1.Need.Mem,Iw j.1.Need.Disk,Iw j.1.Need.Pods,Iw j.1.Need.Dev,L92 j.1.Labels,L92 j.1.Select,L142 j.2,L172 j.1.Bears,L3 j.1.Ports,L92 j.1.Apart,.bool j.1.Wide,Z92 ob4 j.1.Spread cap4,Iw j.1.Skew,Iw j.1.Rank,.str j.1.Owner,.bool j.1.Daemon,.bool j.1.Pinned,.bool j.1.Local],.box b 47 [.str j.1.Name,Iw j.1.Need.Cpu,Iw j.1.Need.Mem,Iw j.1.Need.Disk,Iw j.1.Need.Pods,Iw j.1.Need.Dev,L92 j.1.Labels,L92 j.1.Select,L142 j.2,L172 j.1.Bears,L3 j.1.Ports,L92 j.1.Apart,.bool j.1.Wide,Z92 ob4 j.1.Spread cap4,Iw j.1.Skew,Iw j.1.Rank,.str j.1.Owner,.bool j.1.Daemon,.bool j.1.Pinned,.bool j.1.Local]]) 1 [(48,.agg [.str j.1.Name,Iw j.1.Need.Cpu,Iw j.1.Need.Mem,Iw j.1.Need.Disk,Iw j.1.Need.Pods,Iw j.1.Need.Dev,L92 j.1.Labels,L92 j.1.Select,L142 j.2,L172 j.1.Bears,L3 j.1.Ports,L92 j.1.Apart,.bool j.1.Wide,Z92 ob4 j.1.Spread cap4,Iw j.1.Skew,Iw j.1.Rank,.str j.1.Owner,.bool j.1.Daemon,.bool j.1.Pinned,.bool j.1.Local])] R ⟨⟨_,R,.aggL ⟨.same _,.same _,.same _,.same _,.same _,.same _,.same _,.same _,.same _,.same _,.same _,.here _ R,.same _,.same _,.same _,.same _,.same _,.same _,.same _,.same _,trivial⟩⟩,trivial⟩ ⟨.same _,.box _ _ _ _ ⟨.same _,.same _,.same _,.same _,.same _,.same _,.same _,.same _,.same _,.same _,.same _,.here _ R,.same _,.same _,.same _,.same _,.same _,.same _,.same _,.same _,trivial⟩,.box _ _ _ _ ⟨.same _,.same _,.same _,.same _,.same _,.same _,.same _,.same _,.same _,.same _,.same _,.here _ R,.same _,.same _,.same _,.same _,.same _,.same _,.same _,.same _,trivial⟩,trivial⟩)<|?_
 exact Bz (A6 (H':=[X47 b2 (⟨j.1.Name,j.1.Need,j.1.Labels,j.1.Select,j.2,j.1.Bears,j.1.Ports,j.1.Apart,j.1.Wide,j.1.Spread,j.1.Skew,j.1.Rank,j.1.Owner,j.1.Daemon,j.1.Pinned,j.1.Local⟩ : T_api_Pod),X47 b (⟨j.1.Name,j.1.Need,j.1.Labels,j.1.Select,j.2,j.1.Bears,j.1.Ports,j.1.Apart,j.1.Wide,j.1.Spread,j.1.Skew,j.1.Rank,j.1.Owner,j.1.Daemon,j.1.Pinned,j.1.Local⟩ : T_api_Pod)]) 0 [(48,T_api_Pod.vv (⟨j.1.Name,j.1.Need,j.1.Labels,j.1.Select,j.2,j.1.Bears,j.1.Ports,j.1.Apart,j.1.Wide,j.1.Spread,j.1.Skew,j.1.Rank,j.1.Owner,j.1.Daemon,j.1.Pinned,j.1.Local⟩ : T_api_Pod))] R ⟨⟨_,R,.aggL ⟨.same _,.same _,.same _,.same _,.same _,.same _,.same _,.same _,.same _,.same _,.same _,.same _,.same _,.here _ R,.same _,.same _,.same _,.same _,.same _,.same _,trivial⟩⟩,trivial⟩ ⟨.box _ _ _ _ ⟨.same _,.same _,.same _,.same _,.same _,.same _,.same _,.same _,.same _,.same _,.same _,.same _,.same _,.here _ R,.same _,.same _,.same _,.same _,.same _,.same _,trivial⟩,.box _ _ _ _ ⟨.same _,.same _,.same _,.same _,.same _,.same _,.same _,.same _,.same _,.same _,.same _,.same _,.same _,.here _ R,.same _,.same _,.same _,.same _,.same _,.same _,trivial⟩,trivial⟩)<|Rt0 hm R [] (.cons (.cell _ _ _ _ 0 _ _ _ _ R R ld47 R) .nil) R R

/-! trireme/snap.bounds -/
def snap_bounds.l1 : List T_api_Bound → Nat → (List T_api_Bound) → Option (List T_api_Bound)
 | [], k, l2 => some l2
 | x :: l4, k, l2 =>
  (snap_pod x.Pod).bind fun r =>
  (V.ap 288 l2 [(⟨r, x.On⟩ : T_api_Bound)]).bind fun l5 =>
  snap_bounds.l1 l4 (k + 1) l5
def snap_bounds (bs : List T_api_Bound) : Option (List T_api_Bound) :=
 (snap_bounds.l1 bs 0 ([] : List T_api_Bound)).bind fun l32 =>
 some l32
theorem K46 (bs : List T_api_Bound) : VS2 Tryz.prog 69 (snap_bounds bs) [L49 bs] [] (fun r ob0 cap0=>Z49 ob0 r cap0) (fun r ob0 cap0=>[Q49 ob0 cap0 r]) := by
 refine Cf [.tmp 2] Tryz.func69 R R R fun r hm=>?_
 unfold snap_bounds at hm
 refine Ae tbk [] R R<|Ae tbk [] R R<|Af<|Ai<|Ab R R (Aj R)<|Ab R R (Aw T_api_Bound.vv R Bq)<|Ab R R (Aj R)<|Ac<|Cj 6 R fun h5=>Cn hm (fun l32 (gg:Option Nat × Nat)=>[(3,Z49 gg.1 l32 gg.2)]) (fun l32 (gg:Option Nat × Nat)=>[Q49 gg.1 gg.2 l32]) (fun o hm=>?_) fun l32=>Pq fun ob3 cap3 hm=> ?_
 ·refine Cx (bs) (fun zl zk (zs:List T_api_Bound)=>snap_bounds.l1 zl zk zs) (fun k zs (zg:Option Nat × Nat)=>[(3,Z49 zg.1 zs zg.2),(6,L49 bs),(7,Iw (bs.length : Int)),(8,Iw (k : Int))]) (fun _ zs (zg:Option Nat × Nat)=>[Q49 zg.1 zg.2 zs]) _ (none,0) hm (Ct (Bx 49) (Ag [0] R R)) (fun k l2=>Pq fun ob2 cap2 hk hm=>?_) fun k x l4 l2=>Pq fun ob2 cap2 h6 hm=> ?_
  ·rw [snap_bounds.l1] at hm
   exact Ae tbk [] R R<|Af<|Ca R (k_end hk)<|A7<|As (ob2,cap2) hm (Ag [0] R R)
  rw [snap_bounds.l1] at hm
  exact Ae tbk [] R R<|Af<|B7 R (k_lt h6)<|Am<|Af<|A2<|Ai<|Ab R R (Cp T_api_Bound.vv R R el23 h6)<|Ab R R (Bt R ld49 R)<|Ad R R<|A3 z49 fun b=>Ad R R<|An (i:=0) R R R ld49 R R R<|Ac<|Bz (Bi [1,0] R)<|Be 1 mixed<|Aq tbk [0,1,2,4,5] [0,0] (by kernel_rfl) R R R<|Ah 3 (by kernel_rfl)<|Al R R R<|Av hm 0 R fn88 R (K45 _) fun r hm=>Ax 6 R R R (by kernel_rfl) (B4 pl49 R R)<|Ah 7 (by kernel_rfl)<|Al R R R<|A5 ap23 R R R R R fun b2=>Ah 8 (by kernel_rfl)<|Bd hm fun l5 h10 hm=>Al R R R<|Ch 1 T_api_Bound.vv (l:=l2) (l2:=[(⟨r,x.On⟩ : T_api_Bound)]) ap23 R R (sT_row 0 T_api_Bound.vv el23 R R) h10 fun ob4 cap4=>Ax 9 R R R (by kernel_rfl) (Ak R)<|A0 (by kernel_rfl)<|Bc tbk [] R R<|Ap _ (ob4,cap4) hm (B0 [1] R ⟨R,R,R,congrArg some (k_next h6 h5),trivial⟩)
 exact Ae tbk [] R R<|Rg2 hm R [0] ob3 cap3 (.cons (.tmp _ _ R) .nil) R R

/-! trireme/snap.New -/
def snap_New (ms : List T_api_Machine) (bs : List T_api_Bound) : Option (Option T_snap_Snap × Int) :=
 (yard_Check ms bs).bind fun r =>
 if (r != 0) = true then
  some (none, r)
 else
  (snap_machines ms).bind fun r2 =>
  (snap_bounds bs).bind fun r3 =>
  some ((some (⟨(some (⟨r2, r3⟩ : T_snap_state)), ([] : List T_snap_state), 0⟩ : T_snap_Snap)), 0)
theorem K47 (ms : List T_api_Machine) (bs : List T_api_Bound) : ∀ r : Option T_snap_Snap × Int, snap_New ms bs = some r → VC Tryz.prog 29 [L61 ms, L49 bs] [] fun zx zH => ∃ (b_0 : Nat) (ob0_1 : Option Nat) (cap0_1 : Nat), zx = .tup [po r.1 .nilptr fun _ => .ptr b_0 0, Iw r.2] ∧ zH = (po r.1 [] fun zb => [.box b_0 96 [T_snap_state.pf zb.now, Z93 ob0_1 zb.kept cap0_1, Iw zb.tried], Q93 ob0_1 cap0_1 zb.kept]) ++ [] := by
 refine VCx.run [.tmp 4,.tmp 5] Tryz.func29 R R R fun r hm=>?_
 unfold snap_New at hm
 refine Ae tbk [] R R<|Af<|Ai<|Aa tbk [] 2 R R<|Ad R R<|Av hm 0 R fn67 R (K42 _ _) fun r hm=>Ab R R (Ak R)<|Ac<|Ae tbk [] R R<|Ao hm R (fun h2 hm=>?_) fun h2 hm=> ?_
 ·refine Ae tbk [] R R<|?_
  obtain rfl:=Option.some.inj hm
  exact C5 ⟨.inl R,_,.cons (.tmp _ _ R) (.cons (.tmp _ _ R) .nil),[],_,R,0,none,0,R,R⟩
 refine Am<|Ai<|Ab R R (Aj R)<|Ad R R<|B3 hm 0 R fn68 R (K44 _) fun r2 ob cap hm=>Bl (A6 0 [(14,L61 r2)] R ⟨⟨_,R,.here _ R⟩,trivial⟩ (FzH.refl _))<|Ab R R (Aj R)<|Ad R R<|B3 hm 0 R fn69 R (K46 _) fun r3 ob2 cap2 hm=>Bl (A6 0 [(16,L49 r3)] R ⟨⟨_,R,.here _ R⟩,trivial⟩ (FzH.refl _))<|Ab R R (B4 pl119 R R)<|Ad R R<|Bg R R fun b=>Bl (Shift.freezeB 0 18 R R)<|Ab R R (B4 pl96 R R)<|Ad R R<|Bg R R fun b2=>Aa tbk [] 2 R R<|Ac<|?_
 obtain rfl:=Option.some.inj hm
 exact Bz (Bx 93)<|C5 ⟨.inl R,_,.cons (.tmp _ _ R) (.cons (.tmp _ _ R) .nil),[1,0],_,R,b2,none,0,R,R⟩

/-! (*trireme/snap.Snap).there -/
def snap_Snap_there : Option Bool :=
 some false
theorem K48 : VS Tryz.prog 77 (snap_Snap_there) [.nilptr] [] .bool N0 := by
 refine A4 [.tmp 2] Tryz.func77 R R R fun r hm=>?_
 unfold snap_Snap_there at hm
 exact Ae tbk [] R R<|Ai<|Ab R R (Aj R)<|Ab R R (Dk B9 R R)<|Aa tbk [] 8 R R<|Ac<|Rt1 hm R [] R R R

/-! (*trireme/snap.Snap).Fork -/
def snap_Snap_Fork : Option Int :=
 (snap_Snap_there).bind fun r =>
 if (!r) = true then
  some 23
 else
  none
theorem K49 : VS Tryz.prog 38 (snap_Snap_Fork) [.nilptr] [] Iw N0 := by
 refine A4 [.tmp 2] Tryz.func38 R R R fun r hm=>?_
 unfold snap_Snap_Fork at hm
 exact Ae tbk [] R R<|Af<|A2<|Ai<|Ab R R (Aj R)<|Ad R R<|Av hm 0 R fn77 R (K48) fun r hm=>Aa tbk [] 2 R R<|Ac<|Ao hm R (fun h2 hm=>Ae tbk [] R R<|Rt1 hm R [] R R R) fun h2 hm=>Ai<|Ab R R (Aj R)<|absurd hm nofun

/-! (*trireme/snap.Snap).change -/
def snap_Snap_change_snap_Snap_Add_1 (c : T_api_Machine) : Option Int :=
 (snap_Snap_there).bind fun r =>
 if (!r) = true then
  some 23
 else
  none
theorem K50 (c : T_api_Machine) (b : Nat) : VS Tryz.prog 80 (snap_Snap_change_snap_Snap_Add_1 c) [.nilptr, .clo (.func 81) [] [.ptr b 0]] [X61 b c] Iw (fun r=>[X61 b c]) := by
 refine VS.runD [.cell 4 50] C8 R R R fun r hm=>?_
 unfold snap_Snap_change_snap_Snap_Add_1 at hm
 exact VD.seq<|VD.of<|Bn<|Ad R R<|Bg R R fun b2=>Ad R R<|A3 z50 fun b3=>Ac<|VD.seq<|VD.seq<|VD.of<|Bn<|Aa tbk [1] 1 R R<|Ad R R<|Av hm 0 R fn77 R (K48) fun r hm=>Ab R R (B6 R)<|Ac<|VD.if_ hm R (fun h4 hm=>VD.seq<|VD.of<|Bn<|Ad R R<|An (i:=0) R R R ld50 R R R<|Ac<|VD.of<|Rt0 hm R [2] (.cons (.cell _ _ _ _ 0 _ _ _ _ R R ld50 R) .nil) R R) fun h4 hm=>VD.of<|Am<|VD.seq<|VD.of<|Bn<|Aa tbk [1] 1 R R<|absurd hm nofun

/-! (*trireme/snap.Snap).Add -/
def snap_Snap_Add (m : T_api_Machine) : Option Int :=
 (snap_Snap_change_snap_Snap_Add_1 m).bind fun r =>
 some r
theorem K51 (m : T_api_Machine) : VS Tryz.prog 39 (snap_Snap_Add m) [.nilptr, T_api_Machine.vv m] [] Iw N0 := by
 refine A4 [.tmp 4] Tryz.func39 R R R fun r hm=>?_
 unfold snap_Snap_Add at hm
 exact Ai<|Ad R R<|Bg R R fun b=>Ab R R (Ak R)<|Ac<|Ai<|Ab R R (Aj R)<|Ab R R (Cd R R)<|Ad R R<|Av hm 1 R fn80 R (K50 _ _) fun r hm=>Ab R R (Ak R)<|Ac<|Rt1 hm R [] R R R

/-! (*trireme/snap.Snap).change -/
def snap_Snap_change_snap_Snap_Put_1 (c : T_api_Pod) (c2 : ByteArray) : Option Int :=
 (snap_Snap_there).bind fun r =>
 if (!r) = true then
  some 23
 else
  none
theorem K52 (c : T_api_Pod) (c2 : ByteArray) (b : Nat) (b2 : Nat) : VS Tryz.prog 80 (snap_Snap_change_snap_Snap_Put_1 c c2) [.nilptr, .clo (.func 86) [] [.ptr b 0, .ptr b2 0]] [X47 b c, .box b2 9 [.str c2]] Iw (fun r=>[X47 b c, .box b2 9 [.str c2]]) := by
 refine VS.runD [.cell 4 50] C8 R R R fun r hm=>?_
 unfold snap_Snap_change_snap_Snap_Put_1 at hm
 exact VD.seq<|VD.of<|Bn<|Ad R R<|Bg R R fun b3=>Ad R R<|A3 z50 fun b4=>Ac<|VD.seq<|VD.seq<|VD.of<|Bn<|Aa tbk [1] 1 R R<|Ad R R<|Av hm 0 R fn77 R (K48) fun r hm=>Ab R R (B6 R)<|Ac<|VD.if_ hm R (fun h4 hm=>VD.seq<|VD.of<|Bn<|Ad R R<|An (i:=0) R R R ld50 R R R<|Ac<|VD.of<|Rt0 hm R [2,2] (.cons (.cell _ _ _ _ 0 _ _ _ _ R R ld50 R) .nil) R R) fun h4 hm=>VD.of<|Am<|VD.seq<|VD.of<|Bn<|Aa tbk [1] 1 R R<|absurd hm nofun

/-! (*trireme/snap.Snap).Put -/
def snap_Snap_Put (p : T_api_Pod) (on_ : ByteArray) : Option Int :=
 (snap_Snap_change_snap_Snap_Put_1 p on_).bind fun r =>
 some r
theorem K53 (p : T_api_Pod) (on_ : ByteArray) : VS Tryz.prog 41 (snap_Snap_Put p on_) [.nilptr, T_api_Pod.vv p, .str on_] [] Iw N0 := by
 refine A4 [.tmp 6] Tryz.func41 R R R fun r hm=>?_
 unfold snap_Snap_Put at hm
 exact Ai<|Ad R R<|Bg R R fun b=>Ad R R<|Bg R R fun b2=>Ab R R (Ak R)<|Ac<|Ai<|Ab R R (Aj R)<|Ab R R (Cd R R)<|Bl (Bi [1,0] R)<|Ad R R<|Av hm 2 R fn80 R (K52 _ _ _ _) fun r hm=>Ab R R (Ak R)<|Ac<|Rt1 hm R [] R R R

/-! (*trireme/snap.Snap).change -/
def snap_Snap_change_snap_Snap_Drop_1 (c : ByteArray) : Option Int :=
 (snap_Snap_there).bind fun r =>
 if (!r) = true then
  some 23
 else
  none
theorem K54 (c : ByteArray) (b : Nat) : VS Tryz.prog 80 (snap_Snap_change_snap_Snap_Drop_1 c) [.nilptr, .clo (.func 84) [] [.ptr b 0]] [.box b 9 [.str c]] Iw (fun r=>[.box b 9 [.str c]]) := by
 refine VS.runD [.cell 4 50] C8 R R R fun r hm=>?_
 unfold snap_Snap_change_snap_Snap_Drop_1 at hm
 exact VD.seq<|VD.of<|Bn<|Ad R R<|Bg R R fun b2=>Ad R R<|A3 z50 fun b3=>Ac<|VD.seq<|VD.seq<|VD.of<|Bn<|Aa tbk [1] 1 R R<|Ad R R<|Av hm 0 R fn77 R (K48) fun r hm=>Ab R R (B6 R)<|Ac<|VD.if_ hm R (fun h4 hm=>VD.seq<|VD.of<|Bn<|Ad R R<|An (i:=0) R R R ld50 R R R<|Ac<|VD.of<|Rt0 hm R [2] (.cons (.cell _ _ _ _ 0 _ _ _ _ R R ld50 R) .nil) R R) fun h4 hm=>VD.of<|Am<|VD.seq<|VD.of<|Bn<|Aa tbk [1] 1 R R<|absurd hm nofun

/-! (*trireme/snap.Snap).Drop -/
def snap_Snap_Drop (name : ByteArray) : Option Int :=
 (snap_Snap_change_snap_Snap_Drop_1 name).bind fun r =>
 some r
theorem K55 (name : ByteArray) : VS Tryz.prog 40 (snap_Snap_Drop name) [.nilptr, .str name] [] Iw N0 := by
 refine A4 [.tmp 4] Tryz.func40 R R R fun r hm=>?_
 unfold snap_Snap_Drop at hm
 exact Ai<|Ad R R<|Bg R R fun b=>Ab R R (Ak R)<|Ac<|Ai<|Ab R R (Aj R)<|Ab R R (Cd R R)<|Ad R R<|Av hm 1 R fn80 R (K54 _ _) fun r hm=>Ab R R (Ak R)<|Ac<|Rt1 hm R [] R R R

/-! (*trireme/snap.Snap).Depth -/
def snap_Snap_Depth : Option Int :=
 (snap_Snap_there).bind fun r =>
 if (!r) = true then
  some 0
 else
  none
theorem K56 : VS Tryz.prog 33 (snap_Snap_Depth) [.nilptr] [] Iw N0 := by
 refine A4 [.tmp 2] Tryz.func33 R R R fun r hm=>?_
 unfold snap_Snap_Depth at hm
 exact Ae tbk [] R R<|Af<|Ai<|Ab R R (Aj R)<|Ad R R<|Av hm 0 R fn77 R (K48) fun r hm=>Ab R R (B6 R)<|Ac<|Ao hm R (fun h2 hm=>Ae tbk [] R R<|Rt1 hm R [] R R R) fun h2 hm=>Am<|Ai<|Ab R R (Aj R)<|absurd hm nofun

/-! (*trireme/snap.Snap).Bounds -/
def snap_Snap_Bounds : Option (List T_api_Bound) :=
 (snap_Snap_there).bind fun r =>
 if (!r) = true then
  some ([] : List T_api_Bound)
 else
  none
theorem K57 : VS2 Tryz.prog 35 (snap_Snap_Bounds) [.nilptr] [] (fun r ob0 cap0=>Z49 ob0 r cap0) (fun r ob0 cap0=>[Q49 ob0 cap0 r]) := by
 refine Cf [.tmp 2] Tryz.func35 R R R fun r hm=>?_
 unfold snap_Snap_Bounds at hm
 exact Ae tbk [] R R<|Af<|Ai<|Ab R R (Aj R)<|Ad R R<|Av hm 0 R fn77 R (K48) fun r hm=>Ab R R (B6 R)<|Ac<|Ao hm R (fun h2 hm=>Ae tbk [] R R<|Bz (Bx 49)<|Rg2 hm R [0] none 0 (.cons (.tmp _ _ R) .nil) R R) fun h2 hm=>Am<|Ai<|Ab R R (Aj R)<|absurd hm nofun

/-! (*trireme/snap.Snap).Why -/
def snap_Snap_Why (p : T_api_Pod) (on_ : ByteArray) : Option Int :=
 (snap_Snap_there).bind fun r =>
 (if (!r) = true then some true else (spec_RightPod p).bind fun r2 =>
 some (!r2)).bind fun c =>
 if c = true then
  some 1
 else
  none
theorem K58 (p : T_api_Pod) (on_ : ByteArray) : VS Tryz.prog 36 (snap_Snap_Why p on_) [.nilptr, T_api_Pod.vv p, .str on_] [] Iw N0 := by
 refine A4 [.tmp 6] Tryz.func36 R R R fun r hm=>?_
 unfold snap_Snap_Why at hm
 exact Ai<|Ad R R<|Bg R R fun b=>Ab R R (Ak R)<|Ac<|Af<|Ai<|Ab R R (Aj R)<|Ad R R<|Av hm 0 R fn77 R (K48) fun r hm=>Aa tbk [] 2 R R<|Bh hm 4 14 10 R (fun _ K' h3 J hm=>Aa tbk [] 4 R R<|J 3 R R (Bj hm)) (fun _ K' h3 J hm=>Aa tbk [0] 1 R R<|A1 R R R R R<|Av hm 0 R fn78 R (K35 _) fun r2 hm=>Aa tbk [] 2 R R<|J 3 R R (Bj hm)) fun c hm=>Ac<|Ao hm R (fun h6 hm=>Ae tbk [] R R<|Rt1 hm R [] R R R) fun h6 hm=>Am<|Af<|Be 0 mixed<|Ax 0 R R R (by kernel_rfl) (Aj R)<|absurd hm nofun

/-! (*trireme/snap.Snap).pop -/
def snap_Snap_pop_snap_Snap_restore : Option Int :=
 (snap_Snap_there).bind fun r =>
 if (!r) = true then
  some 23
 else
  none
theorem K59 : VS Tryz.prog 90 (snap_Snap_pop_snap_Snap_restore) [.nilptr, .clo (.func 91) [.nilptr] []] [] Iw N0 := by
 refine A4 [.tmp 4] Dr R R R fun r hm=>?_
 unfold snap_Snap_pop_snap_Snap_restore at hm
 exact Ae tbk [] R R<|Af<|A2<|Ai<|Ab R R (Aj R)<|Ad R R<|Av hm 0 R fn77 R (K48) fun r hm=>Aa tbk [] 2 R R<|Ac<|Ao hm R (fun h2 hm=>Ae tbk [] R R<|Rt1 hm R [] R R R) fun h2 hm=>Ai<|Ab R R (Aj R)<|absurd hm nofun

/-! (*trireme/snap.Snap).Revert -/
def snap_Snap_Revert : Option Int :=
 (snap_Snap_pop_snap_Snap_restore).bind fun r =>
 some r
theorem K60 : VS Tryz.prog 43 (snap_Snap_Revert) [.nilptr] [] Iw N0 := by
 refine A4 [.tmp 2] Tryz.func43 R R R fun r hm=>?_
 unfold snap_Snap_Revert at hm
 exact Ae tbk [] R R<|Ai<|Aa tbk [] 2 R R<|Ab R R (Cd R R)<|Ad R R<|Av hm 0 R fn90 R (K59) fun r hm=>Ab R R (Ak R)<|Ac<|Rt1 hm R [] R R R

/-! (*trireme/snap.Snap).Machines -/
def snap_Snap_Machines : Option (List T_api_Machine) :=
 (snap_Snap_there).bind fun r =>
 if (!r) = true then
  some ([] : List T_api_Machine)
 else
  none
theorem K61 : VS2 Tryz.prog 34 (snap_Snap_Machines) [.nilptr] [] (fun r ob0 cap0=>Z61 ob0 r cap0) (fun r ob0 cap0=>[Q61 ob0 cap0 r]) := by
 refine Cf [.tmp 2] Tryz.func34 R R R fun r hm=>?_
 unfold snap_Snap_Machines at hm
 exact Ae tbk [] R R<|Af<|Ai<|Ab R R (Aj R)<|Ad R R<|Av hm 0 R fn77 R (K48) fun r hm=>Ab R R (B6 R)<|Ac<|Ao hm R (fun h2 hm=>Ae tbk [] R R<|Bz (Bx 61)<|Rg2 hm R [0] none 0 (.cons (.tmp _ _ R) .nil) R R) fun h2 hm=>Am<|Ai<|Ab R R (Aj R)<|absurd hm nofun

/-! (*trireme/snap.Snap).pop -/
def snap_Snap_pop_snap_Snap_forget : Option Int :=
 (snap_Snap_there).bind fun r =>
 if (!r) = true then
  some 23
 else
  none
theorem K62 : VS Tryz.prog 90 (snap_Snap_pop_snap_Snap_forget) [.nilptr, .clo (.func 92) [.nilptr] []] [] Iw N0 := by
 refine A4 [.tmp 4] Dr R R R fun r hm=>?_
 unfold snap_Snap_pop_snap_Snap_forget at hm
 exact Ae tbk [] R R<|Af<|A2<|Ai<|Ab R R (Aj R)<|Ad R R<|Av hm 0 R fn77 R (K48) fun r hm=>Aa tbk [] 2 R R<|Ac<|Ao hm R (fun h2 hm=>Ae tbk [] R R<|Rt1 hm R [] R R R) fun h2 hm=>Ai<|Ab R R (Aj R)<|absurd hm nofun

/-! (*trireme/snap.Snap).Commit -/
def snap_Snap_Commit : Option Int :=
 (snap_Snap_pop_snap_Snap_forget).bind fun r =>
 some r
theorem K63 : VS Tryz.prog 44 (snap_Snap_Commit) [.nilptr] [] Iw N0 := by
 refine A4 [.tmp 2] Tryz.func44 R R R fun r hm=>?_
 unfold snap_Snap_Commit at hm
 exact Ae tbk [] R R<|Ai<|Aa tbk [] 2 R R<|Ab R R (Cd R R)<|Ad R R<|Av hm 0 R fn90 R (K62) fun r hm=>Ab R R (Ak R)<|Ac<|Rt1 hm R [] R R R

/-! (*trireme/snap.Snap).change -/
def snap_Snap_change_snap_Snap_Take_1 (c : ByteArray) : Option Int :=
 (snap_Snap_there).bind fun r =>
 if (!r) = true then
  some 23
 else
  none
theorem K64 (c : ByteArray) (b : Nat) : VS Tryz.prog 80 (snap_Snap_change_snap_Snap_Take_1 c) [.nilptr, .clo (.func 89) [] [.ptr b 0]] [.box b 9 [.str c]] Iw (fun r=>[.box b 9 [.str c]]) := by
 refine VS.runD [.cell 4 50] C8 R R R fun r hm=>?_
 unfold snap_Snap_change_snap_Snap_Take_1 at hm
 exact VD.seq<|VD.of<|Bn<|Ad R R<|Bg R R fun b2=>Ad R R<|A3 z50 fun b3=>Ac<|VD.seq<|VD.seq<|VD.of<|Bn<|Aa tbk [1] 1 R R<|Ad R R<|Av hm 0 R fn77 R (K48) fun r hm=>Ab R R (B6 R)<|Ac<|VD.if_ hm R (fun h4 hm=>VD.seq<|VD.of<|Bn<|Ad R R<|An (i:=0) R R R ld50 R R R<|Ac<|VD.of<|Rt0 hm R [2] (.cons (.cell _ _ _ _ 0 _ _ _ _ R R ld50 R) .nil) R R) fun h4 hm=>VD.of<|Am<|VD.seq<|VD.of<|Bn<|Aa tbk [1] 1 R R<|absurd hm nofun

/-! (*trireme/snap.Snap).Take -/
def snap_Snap_Take (name : ByteArray) : Option Int :=
 (snap_Snap_change_snap_Snap_Take_1 name).bind fun r =>
 some r
theorem K65 (name : ByteArray) : VS Tryz.prog 42 (snap_Snap_Take name) [.nilptr, .str name] [] Iw N0 := by
 refine A4 [.tmp 4] Tryz.func42 R R R fun r hm=>?_
 unfold snap_Snap_Take at hm
 exact Ai<|Ad R R<|Bg R R fun b=>Ab R R (Ak R)<|Ac<|Ai<|Ab R R (Aj R)<|Ab R R (Cd R R)<|Ad R R<|Av hm 1 R fn80 R (K64 _ _) fun r hm=>Ab R R (Ak R)<|Ac<|Rt1 hm R [] R R R

/-! (*trireme/snap.Snap).there -/
def snap_Snap_there_x (s : T_snap_Snap) : Option Bool :=
 some (!s.now.isNone)
theorem K66 (s : T_snap_Snap) (b : Nat) (ob : Option Nat) (cap : Nat) : VS Tryz.prog 77 (snap_Snap_there_x s) [.ptr b 0] [.box b 96 [T_snap_state.pf s.now, Z93 ob s.kept cap, Iw s.tried], Q93 ob cap s.kept] .bool (fun r=>[.box b 96 [T_snap_state.pf s.now, Z93 ob s.kept cap, Iw s.tried], Q93 ob cap s.kept]) := by
 refine A4 [.tmp 2] Tryz.func77 R R R fun r hm=>?_
 unfold snap_Snap_there_x at hm
 exact Ae tbk [] R R<|Ai<|Ab R R (Aj R)<|Ab R R (Dk B9 R R)<|Aa tbk [0] 5 R R<|Bb R R R R R (Dk Tryz.underlying93 R (T_snap_state.pf_nil _))<|Aa tbk [] 2 R R<|Ac<|Rt1 hm R [0,0] R R R

/-! (*trireme/snap.Snap).Fork -/
def snap_Snap_Fork_x (s : T_snap_Snap) : Option (Int × T_snap_Snap) :=
 (snap_Snap_there_x s).bind fun r =>
 if (!r) = true then
  some (23, s)
 else
  if (decide ((s.kept.length : Int) ≥ 20)) = true then
   some (7, s)
  else
   (s.now).bind fun x =>
   (V.ap 8 s.kept [x]).bind fun l =>
   some (0, (⟨s.now, l, s.tried⟩ : T_snap_Snap))
theorem K67 (s : T_snap_Snap) (b : Nat) (ob : Option Nat) (cap : Nat) : VS2 Tryz.prog 38 (snap_Snap_Fork_x s) [.ptr b 0] [.box b 96 [T_snap_state.pf s.now, Z93 ob s.kept cap, Iw s.tried], Q93 ob cap s.kept] (fun r ob0_1 cap0_1=>Iw r.1) (fun r ob0_1 cap0_1=>[.box b 96 [T_snap_state.pf r.2.now, Z93 ob0_1 r.2.kept cap0_1, Iw r.2.tried], Q93 ob0_1 cap0_1 r.2.kept]) := by
 refine Cf [.tmp 2] Tryz.func38 R R R fun r hm=>?_
 unfold snap_Snap_Fork_x at hm
 refine Ae tbk [] R R<|Af<|A2<|Ai<|Ab R R (Aj R)<|Ad R R<|Av hm 2 R fn77 R (K66 _ _ _ _) fun r hm=>Aa tbk [] 2 R R<|Ac<|Ao hm R (fun h2 hm=>Ae tbk [] R R<|Rg2 hm R [0,0] ob cap (.cons (.tmp _ _ R) .nil) R R) fun h2 hm=>Ai<|Aa tbk [0] 4 R R<|Ab R R (Cq T_snap_state.er R C3)<|Aa tbk [] 2 R R<|Ac<|Ao hm R (fun h3 hm=>Ae tbk [] R R<|Rg2 hm R [0,0] ob cap (.cons (.tmp _ _ R) .nil) R R) fun h3 hm=>Am<|Af<|Be 2 mixed<|Aq tbk [0,1,2,3,5,6,7] [] (by kernel_rfl) R R R<|?_
 refine Bm [4,8] (by kernel_rfl) ⟨?_,?_,trivial⟩
 ·exact Al R R R<|A8 (Az (i:=0) R R ld94 R)<|Ah 8 (by kernel_rfl)<|Bd hm fun x h4 hm=>Al R R R<|A8 (Dn (Az (i:=0) R R ld93 R) (congrArg T_snap_state.pf h4))<|Ah 9 (by kernel_rfl)<|Al R R R<|A5 ap94 R R R R R fun b2=>Ah 10 (by kernel_rfl)<|Bd hm fun l h6 hm=>Al R R R<|Ch 2 T_snap_state.er (l:=s.kept) (l2:=[x]) ap94 R R (sT_row 0 T_snap_state.er el94 R R) h6 fun ob2 cap2=>Aq tbk [11,12] [] (by kernel_rfl) R R R<|Ah 13 (by kernel_rfl)<|Al R R R<|An (i:=1) R R R ld94 R R R<|A0 (by kernel_rfl)<|Ae tbk [] R R<|Rg2 hm R [1,1] ob2 cap2 (.cons (.tmp _ _ R) .nil) R R
 ·refine Bd hm fun x2 h7 hm=>Al R R R<|A8 (Dn (Az (i:=0) R R ld93 R) (congrArg T_snap_state.pf h7))<|?_
  refine Bm [4,9] (by kernel_rfl) ⟨?_,?_,trivial⟩
  ·exact Al R R R<|A8 (Az (i:=0) R R ld94 R)<|Ah 9 (by kernel_rfl)<|Al R R R<|A5 ap94 R R R R R fun b3=>Ah 10 (by kernel_rfl)<|Bd hm fun l2 h9 hm=>Al R R R<|Ch 2 T_snap_state.er (l:=s.kept) (l2:=[x2]) ap94 R R (sT_row 0 T_snap_state.er el94 R R) h9 fun ob3 cap3=>Aq tbk [11,12] [] (by kernel_rfl) R R R<|Ah 13 (by kernel_rfl)<|Al R R R<|An (i:=1) R R R ld94 R R R<|A0 (by kernel_rfl)<|Ae tbk [] R R<|Rg2 hm R [1,1] ob3 cap3 (.cons (.tmp _ _ R) .nil) R R
  ·exact Al R R R<|A5 ap94 R R R R R fun b4=>Ah 4 (by kernel_rfl)<|Al R R R<|A8 (Az (i:=1) R R ld94 R)<|Ah 10 (by kernel_rfl)<|Bd hm fun l3 h11 hm=>Al R R R<|Ch 2 T_snap_state.er (l:=s.kept) (l2:=[x2]) ap94 R R (sT_row 0 T_snap_state.er el94 R R) h11 fun ob4 cap4=>Aq tbk [11,12] [] (by kernel_rfl) R R R<|Ah 13 (by kernel_rfl)<|Al R R R<|An (i:=1) R R R ld94 R R R<|A0 (by kernel_rfl)<|Ae tbk [] R R<|Rg2 hm R [1,1] ob4 cap4 (.cons (.tmp _ _ R) .nil) R R

/-! trireme/yard.Find$1 -/
def yard_Find_1 (i : Int) (a : List T_api_Machine) (a2 : ByteArray) : Option Bool :=
 (V.gl a i).bind fun x =>
 some (V.seq x.Name a2)
theorem K68 (i : Int) (a : List T_api_Machine) (a2 : ByteArray) (b : Nat) (b2 : Nat) : VS Tryz.prog 97 (yard_Find_1 i a a2) [Iw i, .ptr b 0, .ptr b2 0] [.box b 22 [L61 a], .box b2 9 [.str a2]] .bool (fun r=>[.box b 22 [L61 a], .box b2 9 [.str a2]]) := by
 refine A4 [.tmp 4] Tryz.func97 R R R fun r hm=>?_
 unfold yard_Find_1 at hm
 exact Ae tbk [] R R<|Af<|Be 0 mixed<|Aq tbk [0,1] [0] (by kernel_rfl) R R R<|Bd hm fun x h1 hm=>Ax 2 R R R (by kernel_rfl) (Bf T_api_Machine.vv R R el22 h1)<|Aq tbk [3,4,5,6,7] [1] (by kernel_rfl) R R R<|A0 (by kernel_rfl)<|Rt1 hm R [0,0] R R R

/-! trireme/yard.first -/
def yard_first_yard_Find_1.l1 (n : Int) (c : List T_api_Machine) (c2 : ByteArray) : Nat → Int → Option (Out Int Unit)
 | 0, _ => none
 | n2 + 1, v2 =>
  if (decide (v2 < n)) = true then
   (yard_Find_1 v2 c c2).bind fun r =>
   if r = true then
    some (Out.ret v2)
   else
    yard_first_yard_Find_1.l1 n c c2 n2 (i64.wrap (v2 + 1))
  else
   some (Out.go ())
def yard_first_yard_Find_1 (n : Int) (c : List T_api_Machine) (c2 : ByteArray) : Option Int :=
 (yard_first_yard_Find_1.l1 n c c2 FU (0 : Int)).bind fun o =>
 o.on fun j =>
 some (-1)
theorem K69 (n : Int) (c : List T_api_Machine) (c2 : ByteArray) (b : Nat) (b2 : Nat) : VS Tryz.prog 96 (yard_first_yard_Find_1 n c c2) [Iw n, .clo (.func 97) [] [.ptr b 0, .ptr b2 0]] [.box b 22 [L61 c], .box b2 9 [.str c2]] Iw (fun r=>[.box b 22 [L61 c], .box b2 9 [.str c2]]) := by
 refine A4 [.tmp 4] Dh R R R fun r hm=>?_
 unfold yard_first_yard_Find_1 at hm
 refine Ae tbk [] R R<|Af<|Ae tbk [] R R<|Bw hm (fun _ (_:Unit)=>[]) (fun _ (_:Unit)=>[.box b 22 [L61 c],.box b2 9 [.str c2]]) (fun o hm h2=>?_) fun j _ hm=> ?_
 ·refine B1 (fun zn (zs:Int)=>yard_first_yard_Find_1.l1 n c c2 zn zs) (fun zs (_:Unit)=>[(1,.clo (.func 97) [] [.ptr b 0,.ptr b2 0]),(6,Iw n),(7,Iw zs)]) (fun _ (_:Unit)=>[.box b 22 [L61 c],.box b2 9 [.str c2]]) _ () (fun _=>R) hm (Ag [0,0] R R) fun n2 v2 _ hm=> ?_
  rw [yard_first_yard_Find_1.l1] at hm
  exact Ae tbk [] R R<|Af<|Ao hm R (fun h3 hm=>Am<|Af<|A2<|Ae tbk [] R R<|Ai<|Aa tbk [] 2 R R<|Ad R R<|Av hm 2 R fn97 R (K68 _ _ _ _ _) fun r hm=>Ac<|Ao hm R (fun h5 hm=>Ae tbk [] R R<|have hm:=Lr hm h2;Rt1 hm R [0,0] R R R) fun h5 hm=>Am<|Bc tbk [] R R<|Ap _ () hm (Ag [0,0] R R)) fun h3 hm=>A7<|Ar () hm (Ag [0,0] R R)
 exact Ae tbk [] R R<|Rt1 hm R [0,0] R R R

/-! trireme/yard.Find -/
def yard_Find (ms : List T_api_Machine) (name : ByteArray) : Option Int :=
 (yard_first_yard_Find_1 (ms.length : Int) ms name).bind fun r =>
 some r
theorem K70 (ms : List T_api_Machine) (name : ByteArray) : VS Tryz.prog 47 (yard_Find ms name) [L61 ms, .str name] [] Iw N0 := by
 refine A4 [.tmp 4] Tryz.func47 R R R fun r hm=>?_
 unfold yard_Find at hm
 exact Ai<|Ad R R<|Bg R R fun b=>Ad R R<|Bg R R fun b2=>Ab R R (Ak R)<|Ac<|Ai<|Aa tbk [1] 1 R R<|Ab R R (Aw T_api_Machine.vv R Ay)<|Ab R R (Cd R R)<|Bl (Bi [1,0] R)<|Ad R R<|Av hm 2 R fn96 R (K69 _ _ _ _ _) fun r hm=>Ab R R (Ak R)<|Ac<|Rt1 hm R [] R R R

/-! (*trireme/snap.Snap).Add$1 -/
def snap_Snap_Add_1 (x : T_snap_state) (a : T_api_Machine) : Option (Int × T_snap_state) :=
 (if (V.seq a.Name (⟨#[]⟩ : ByteArray)) = true then some true else (spec_RightMachine a).bind fun r =>
 some (!r)).bind fun c =>
 if c = true then
  some (12, x)
 else
  (yard_Find x.ms a.Name).bind fun r2 =>
  if (decide (r2 ≥ 0)) = true then
   some (15, x)
  else
   if (decide ((x.ms.length : Int) ≥ 200)) = true then
    some (7, x)
   else
    ((V.sl x.ms none (some (x.ms.length : Int))).bind fun v =>
    (snap_machine a).bind fun r3 =>
    (V.ap 128 v [r3]).bind fun l =>
    some (⟨l, x.bs⟩ : T_snap_state)).bind fun x22 =>
    some (0, x22)
theorem K71 (x : T_snap_state) (a : T_api_Machine) (b : Nat) (b2 : Nat) : VS Tryz.prog 81 (snap_Snap_Add_1 x a) [.ptr b 0, .ptr b2 0] [X119 b x, X61 b2 a] (fun r=>Iw r.1) (fun r=>[X119 b r.2, X61 b2 a]) := by
 refine A4 [.tmp 3] Tryz.func81 R R R fun r hm=>?_
 unfold snap_Snap_Add_1 at hm
 refine Ae tbk [] R R<|Af<|A2<|Ai<|Aa tbk [1] 4 R R<|Bh hm 4 12 8 R (fun _ K' h1 J hm=>Aa tbk [] 4 R R<|J 3 R R (Bj hm)) (fun _ K' h1 J hm=>Aa tbk [1] 1 R R<|A1 R R R R R<|Av hm 0 R fn82 R (K24 _) fun r hm=>Aa tbk [] 2 R R<|J 3 R R (Bj hm)) fun c hm=>Ab R R (Ak R)<|Ac<|Ao hm R (fun h4 hm=>Ae tbk [] R R<|Rt1 hm R [0,0] R R R) fun h4 hm=>Af<|Be 0 mixed<|Aq tbk [0,1,2,3,4,5] [0,1] (by kernel_rfl) R R R<|Ah 6 (by kernel_rfl)<|Al R R R<|Av hm 0 R fn47 R (K70 _ _) fun r2 hm=>Aq tbk [7,8] [] (by kernel_rfl) R R R<|A0 (by kernel_rfl)<|Ao hm R (fun h6 hm=>Ae tbk [] R R<|Rt1 hm R [0,0] R R R) fun h6 hm=>Ai<|Aa tbk [0] 4 R R<|Ab R R (Aw T_api_Machine.vv R Ay)<|Aa tbk [] 2 R R<|Ac<|Ao hm R (fun h7 hm=>Ae tbk [] R R<|Rt1 hm R [0,0] R R R) fun h7 hm=>Am<|Dm hm (fun _ (_:Unit)=>[]) (fun x22 (_:Unit)=>[X119 b x22,X61 b2 a]) (fun o hm=>?_) fun x22 _ hm=> ?_
 ·refine Be 1 mixed<|Aq tbk [0,1,2,3,5,6,7,10,11,12,16] [0] (by kernel_rfl) R R R<|?_
  refine Bm [4,8,13,17] (by kernel_rfl) ⟨?_,?_,?_,?_,trivial⟩
  ·refine Al R R R<|A8 (Az (i:=0) R R ld22 R)<|?_
   refine Bm [8,13,17] (by kernel_rfl) ⟨?_,?_,?_,trivial⟩
   ·refine Al R R R<|A8 (Az (i:=0) R R ld22 R)<|Ax 9 R R R (by kernel_rfl) (Aw T_api_Machine.vv R Ay)<|?_
    refine Bm [13,17] (by kernel_rfl) ⟨?_,?_,trivial⟩
    ·refine Al R R R<|A8 (Az (i:=0) R R ld22 R)<|Ax 14 R R R (by kernel_rfl) (Aw T_api_Machine.vv R Ay)<|Bd hm fun v h10 hm=>Ax 15 R R R (by kernel_rfl) (Bp (f:=T_api_Machine.vv) el22 R R R R R h10)<|Ah 17 (by kernel_rfl)<|Bd hm fun r3 h11 hm=>Al R R R<|Au 0 R fn83 R (K43 a r3 h11) fun _ _ h14=> ?_
     obtain ⟨rfl,rfl⟩:=h14
     exact Ah 18 (by kernel_rfl)<|Al R R R<|A5 ap22 R R R R R fun b3=>Ah 19 (by kernel_rfl)<|Bd hm fun l h13 hm=>Al R R R<|Br (f:=T_api_Machine.vv) (l2:=[r3]) ap22 R (sT_row 0 T_api_Machine.vv el22 R R) h13<|Aq tbk [20,21] [] (by kernel_rfl) R R R<|Ah 22 (by kernel_rfl)<|Al R R R<|An (i:=1) R R R ld22 R R R<|A0 (by kernel_rfl)<|As () hm (Ag [1,1] R R)
    ·refine Bd hm fun v2 h15 hm=>Bd hm fun r4 h16 hm=>Al R R R<|Au 0 R fn83 R (K43 a r4 h16) fun _ _ h21=> ?_
     obtain ⟨rfl,rfl⟩:=h21
     refine Bm [13,18] (by kernel_rfl) ⟨?_,?_,trivial⟩
     ·exact Al R R R<|A8 (Az (i:=0) R R ld22 R)<|Ax 14 R R R (by kernel_rfl) (Aw T_api_Machine.vv R Ay)<|Ax 15 R R R (by kernel_rfl) (Bp (f:=T_api_Machine.vv) el22 R R R R R h15)<|Ah 18 (by kernel_rfl)<|Al R R R<|A5 ap22 R R R R R fun b4=>Ah 19 (by kernel_rfl)<|Bd hm fun l2 h18 hm=>Al R R R<|Br (f:=T_api_Machine.vv) (l2:=[r4]) ap22 R (sT_row 0 T_api_Machine.vv el22 R R) h18<|Aq tbk [20,21] [] (by kernel_rfl) R R R<|Ah 22 (by kernel_rfl)<|Al R R R<|An (i:=1) R R R ld22 R R R<|A0 (by kernel_rfl)<|As () hm (Ag [1,1] R R)
     ·exact Al R R R<|A5 ap22 R R R R R fun b5=>Ah 13 (by kernel_rfl)<|Al R R R<|A8 (Az (i:=1) R R ld22 R)<|Ax 14 R R R (by kernel_rfl) (Aw T_api_Machine.vv R Ay)<|Ax 15 R R R (by kernel_rfl) (Bp (f:=T_api_Machine.vv) el22 R R R R R h15)<|Ah 19 (by kernel_rfl)<|Bd hm fun l3 h20 hm=>Al R R R<|Br (f:=T_api_Machine.vv) (l2:=[r4]) ap22 R (sT_row 0 T_api_Machine.vv el22 R R) h20<|Aq tbk [20,21] [] (by kernel_rfl) R R R<|Ah 22 (by kernel_rfl)<|Al R R R<|An (i:=1) R R R ld22 R R R<|A0 (by kernel_rfl)<|As () hm (Ag [1,1] R R)
   ·refine Al R R R<|A8 (Az (i:=0) R R ld22 R)<|Ax 14 R R R (by kernel_rfl) (Aw T_api_Machine.vv R Ay)<|?_
    refine Bm [8,17] (by kernel_rfl) ⟨?_,?_,trivial⟩
    ·refine Al R R R<|A8 (Az (i:=0) R R ld22 R)<|Ax 9 R R R (by kernel_rfl) (Aw T_api_Machine.vv R Ay)<|Bd hm fun v3 h22 hm=>Ax 15 R R R (by kernel_rfl) (Bp (f:=T_api_Machine.vv) el22 R R R R R h22)<|Ah 17 (by kernel_rfl)<|Bd hm fun r5 h23 hm=>Al R R R<|Au 0 R fn83 R (K43 a r5 h23) fun _ _ h26=> ?_
     obtain ⟨rfl,rfl⟩:=h26
     exact Ah 18 (by kernel_rfl)<|Al R R R<|A5 ap22 R R R R R fun b6=>Ah 19 (by kernel_rfl)<|Bd hm fun l4 h25 hm=>Al R R R<|Br (f:=T_api_Machine.vv) (l2:=[r5]) ap22 R (sT_row 0 T_api_Machine.vv el22 R R) h25<|Aq tbk [20,21] [] (by kernel_rfl) R R R<|Ah 22 (by kernel_rfl)<|Al R R R<|An (i:=1) R R R ld22 R R R<|A0 (by kernel_rfl)<|As () hm (Ag [1,1] R R)
    ·refine Bd hm fun v4 h27 hm=>Bd hm fun r6 h28 hm=>Al R R R<|Au 0 R fn83 R (K43 a r6 h28) fun _ _ h33=> ?_
     obtain ⟨rfl,rfl⟩:=h33
     refine Bm [8,18] (by kernel_rfl) ⟨?_,?_,trivial⟩
     ·exact Al R R R<|A8 (Az (i:=0) R R ld22 R)<|Ax 9 R R R (by kernel_rfl) (Aw T_api_Machine.vv R Ay)<|Ax 15 R R R (by kernel_rfl) (Bp (f:=T_api_Machine.vv) el22 R R R R R h27)<|Ah 18 (by kernel_rfl)<|Al R R R<|A5 ap22 R R R R R fun b7=>Ah 19 (by kernel_rfl)<|Bd hm fun l5 h30 hm=>Al R R R<|Br (f:=T_api_Machine.vv) (l2:=[r6]) ap22 R (sT_row 0 T_api_Machine.vv el22 R R) h30<|Aq tbk [20,21] [] (by kernel_rfl) R R R<|Ah 22 (by kernel_rfl)<|Al R R R<|An (i:=1) R R R ld22 R R R<|A0 (by kernel_rfl)<|As () hm (Ag [1,1] R R)
     ·exact Al R R R<|A5 ap22 R R R R R fun b8=>Ah 8 (by kernel_rfl)<|Al R R R<|A8 (Az (i:=1) R R ld22 R)<|Ax 9 R R R (by kernel_rfl) (Aw T_api_Machine.vv R Ay)<|Ax 15 R R R (by kernel_rfl) (Bp (f:=T_api_Machine.vv) el22 R R R R R h27)<|Ah 19 (by kernel_rfl)<|Bd hm fun l6 h32 hm=>Al R R R<|Br (f:=T_api_Machine.vv) (l2:=[r6]) ap22 R (sT_row 0 T_api_Machine.vv el22 R R) h32<|Aq tbk [20,21] [] (by kernel_rfl) R R R<|Ah 22 (by kernel_rfl)<|Al R R R<|An (i:=1) R R R ld22 R R R<|A0 (by kernel_rfl)<|As () hm (Ag [1,1] R R)
   ·refine Bd hm fun v5 h34 hm=>Bd hm fun r7 h35 hm=>Al R R R<|Au 0 R fn83 R (K43 a r7 h35) fun _ _ h47=> ?_
    obtain ⟨rfl,rfl⟩:=h47
    refine Bm [8,13,18] (by kernel_rfl) ⟨?_,?_,?_,trivial⟩
    ·refine Al R R R<|A8 (Az (i:=0) R R ld22 R)<|Ax 9 R R R (by kernel_rfl) (Aw T_api_Machine.vv R Ay)<|?_
     refine Bm [13,18] (by kernel_rfl) ⟨?_,?_,trivial⟩
     ·exact Al R R R<|A8 (Az (i:=0) R R ld22 R)<|Ax 14 R R R (by kernel_rfl) (Aw T_api_Machine.vv R Ay)<|Ax 15 R R R (by kernel_rfl) (Bp (f:=T_api_Machine.vv) el22 R R R R R h34)<|Ah 18 (by kernel_rfl)<|Al R R R<|A5 ap22 R R R R R fun b9=>Ah 19 (by kernel_rfl)<|Bd hm fun l7 h37 hm=>Al R R R<|Br (f:=T_api_Machine.vv) (l2:=[r7]) ap22 R (sT_row 0 T_api_Machine.vv el22 R R) h37<|Aq tbk [20,21] [] (by kernel_rfl) R R R<|Ah 22 (by kernel_rfl)<|Al R R R<|An (i:=1) R R R ld22 R R R<|A0 (by kernel_rfl)<|As () hm (Ag [1,1] R R)
     ·exact Al R R R<|A5 ap22 R R R R R fun b10=>Ah 13 (by kernel_rfl)<|Al R R R<|A8 (Az (i:=1) R R ld22 R)<|Ax 14 R R R (by kernel_rfl) (Aw T_api_Machine.vv R Ay)<|Ax 15 R R R (by kernel_rfl) (Bp (f:=T_api_Machine.vv) el22 R R R R R h34)<|Ah 19 (by kernel_rfl)<|Bd hm fun l8 h39 hm=>Al R R R<|Br (f:=T_api_Machine.vv) (l2:=[r7]) ap22 R (sT_row 0 T_api_Machine.vv el22 R R) h39<|Aq tbk [20,21] [] (by kernel_rfl) R R R<|Ah 22 (by kernel_rfl)<|Al R R R<|An (i:=1) R R R ld22 R R R<|A0 (by kernel_rfl)<|As () hm (Ag [1,1] R R)
    ·refine Al R R R<|A8 (Az (i:=0) R R ld22 R)<|Ax 14 R R R (by kernel_rfl) (Aw T_api_Machine.vv R Ay)<|?_
     refine Bm [8,18] (by kernel_rfl) ⟨?_,?_,trivial⟩
     ·exact Al R R R<|A8 (Az (i:=0) R R ld22 R)<|Ax 9 R R R (by kernel_rfl) (Aw T_api_Machine.vv R Ay)<|Ax 15 R R R (by kernel_rfl) (Bp (f:=T_api_Machine.vv) el22 R R R R R h34)<|Ah 18 (by kernel_rfl)<|Al R R R<|A5 ap22 R R R R R fun b11=>Ah 19 (by kernel_rfl)<|Bd hm fun l9 h41 hm=>Al R R R<|Br (f:=T_api_Machine.vv) (l2:=[r7]) ap22 R (sT_row 0 T_api_Machine.vv el22 R R) h41<|Aq tbk [20,21] [] (by kernel_rfl) R R R<|Ah 22 (by kernel_rfl)<|Al R R R<|An (i:=1) R R R ld22 R R R<|A0 (by kernel_rfl)<|As () hm (Ag [1,1] R R)
     ·exact Al R R R<|A5 ap22 R R R R R fun b12=>Ah 8 (by kernel_rfl)<|Al R R R<|A8 (Az (i:=1) R R ld22 R)<|Ax 9 R R R (by kernel_rfl) (Aw T_api_Machine.vv R Ay)<|Ax 15 R R R (by kernel_rfl) (Bp (f:=T_api_Machine.vv) el22 R R R R R h34)<|Ah 19 (by kernel_rfl)<|Bd hm fun l10 h43 hm=>Al R R R<|Br (f:=T_api_Machine.vv) (l2:=[r7]) ap22 R (sT_row 0 T_api_Machine.vv el22 R R) h43<|Aq tbk [20,21] [] (by kernel_rfl) R R R<|Ah 22 (by kernel_rfl)<|Al R R R<|An (i:=1) R R R ld22 R R R<|A0 (by kernel_rfl)<|As () hm (Ag [1,1] R R)
    ·refine Al R R R<|A5 ap22 R R R R R fun b13=> ?_
     refine Bm [8,13] (by kernel_rfl) ⟨?_,?_,trivial⟩
     ·exact Al R R R<|A8 (Az (i:=1) R R ld22 R)<|Ax 9 R R R (by kernel_rfl) (Aw T_api_Machine.vv R Ay)<|Ah 13 (by kernel_rfl)<|Al R R R<|A8 (Az (i:=1) R R ld22 R)<|Ax 14 R R R (by kernel_rfl) (Aw T_api_Machine.vv R Ay)<|Ax 15 R R R (by kernel_rfl) (Bp (f:=T_api_Machine.vv) el22 R R R R R h34)<|Ah 19 (by kernel_rfl)<|Bd hm fun l11 h45 hm=>Al R R R<|Br (f:=T_api_Machine.vv) (l2:=[r7]) ap22 R (sT_row 0 T_api_Machine.vv el22 R R) h45<|Aq tbk [20,21] [] (by kernel_rfl) R R R<|Ah 22 (by kernel_rfl)<|Al R R R<|An (i:=1) R R R ld22 R R R<|A0 (by kernel_rfl)<|As () hm (Ag [1,1] R R)
     ·exact Al R R R<|A8 (Az (i:=1) R R ld22 R)<|Ax 14 R R R (by kernel_rfl) (Aw T_api_Machine.vv R Ay)<|Ah 8 (by kernel_rfl)<|Al R R R<|A8 (Az (i:=1) R R ld22 R)<|Ax 9 R R R (by kernel_rfl) (Aw T_api_Machine.vv R Ay)<|Ax 15 R R R (by kernel_rfl) (Bp (f:=T_api_Machine.vv) el22 R R R R R h34)<|Ah 19 (by kernel_rfl)<|Bd hm fun l12 h46 hm=>Al R R R<|Br (f:=T_api_Machine.vv) (l2:=[r7]) ap22 R (sT_row 0 T_api_Machine.vv el22 R R) h46<|Aq tbk [20,21] [] (by kernel_rfl) R R R<|Ah 22 (by kernel_rfl)<|Al R R R<|An (i:=1) R R R ld22 R R R<|A0 (by kernel_rfl)<|As () hm (Ag [1,1] R R)
  ·refine Al R R R<|A8 (Az (i:=0) R R ld22 R)<|Ax 9 R R R (by kernel_rfl) (Aw T_api_Machine.vv R Ay)<|?_
   refine Bm [4,13,17] (by kernel_rfl) ⟨?_,?_,?_,trivial⟩
   ·refine Al R R R<|A8 (Az (i:=0) R R ld22 R)<|?_
    refine Bm [13,17] (by kernel_rfl) ⟨?_,?_,trivial⟩
    ·refine Al R R R<|A8 (Az (i:=0) R R ld22 R)<|Ax 14 R R R (by kernel_rfl) (Aw T_api_Machine.vv R Ay)<|Bd hm fun v6 h48 hm=>Ax 15 R R R (by kernel_rfl) (Bp (f:=T_api_Machine.vv) el22 R R R R R h48)<|Ah 17 (by kernel_rfl)<|Bd hm fun r8 h49 hm=>Al R R R<|Au 0 R fn83 R (K43 a r8 h49) fun _ _ h52=> ?_
     obtain ⟨rfl,rfl⟩:=h52
     exact Ah 18 (by kernel_rfl)<|Al R R R<|A5 ap22 R R R R R fun b14=>Ah 19 (by kernel_rfl)<|Bd hm fun l13 h51 hm=>Al R R R<|Br (f:=T_api_Machine.vv) (l2:=[r8]) ap22 R (sT_row 0 T_api_Machine.vv el22 R R) h51<|Aq tbk [20,21] [] (by kernel_rfl) R R R<|Ah 22 (by kernel_rfl)<|Al R R R<|An (i:=1) R R R ld22 R R R<|A0 (by kernel_rfl)<|As () hm (Ag [1,1] R R)
    ·refine Bd hm fun v7 h53 hm=>Bd hm fun r9 h54 hm=>Al R R R<|Au 0 R fn83 R (K43 a r9 h54) fun _ _ h59=> ?_
     obtain ⟨rfl,rfl⟩:=h59
     refine Bm [13,18] (by kernel_rfl) ⟨?_,?_,trivial⟩
     ·exact Al R R R<|A8 (Az (i:=0) R R ld22 R)<|Ax 14 R R R (by kernel_rfl) (Aw T_api_Machine.vv R Ay)<|Ax 15 R R R (by kernel_rfl) (Bp (f:=T_api_Machine.vv) el22 R R R R R h53)<|Ah 18 (by kernel_rfl)<|Al R R R<|A5 ap22 R R R R R fun b15=>Ah 19 (by kernel_rfl)<|Bd hm fun l14 h56 hm=>Al R R R<|Br (f:=T_api_Machine.vv) (l2:=[r9]) ap22 R (sT_row 0 T_api_Machine.vv el22 R R) h56<|Aq tbk [20,21] [] (by kernel_rfl) R R R<|Ah 22 (by kernel_rfl)<|Al R R R<|An (i:=1) R R R ld22 R R R<|A0 (by kernel_rfl)<|As () hm (Ag [1,1] R R)
     ·exact Al R R R<|A5 ap22 R R R R R fun b16=>Ah 13 (by kernel_rfl)<|Al R R R<|A8 (Az (i:=1) R R ld22 R)<|Ax 14 R R R (by kernel_rfl) (Aw T_api_Machine.vv R Ay)<|Ax 15 R R R (by kernel_rfl) (Bp (f:=T_api_Machine.vv) el22 R R R R R h53)<|Ah 19 (by kernel_rfl)<|Bd hm fun l15 h58 hm=>Al R R R<|Br (f:=T_api_Machine.vv) (l2:=[r9]) ap22 R (sT_row 0 T_api_Machine.vv el22 R R) h58<|Aq tbk [20,21] [] (by kernel_rfl) R R R<|Ah 22 (by kernel_rfl)<|Al R R R<|An (i:=1) R R R ld22 R R R<|A0 (by kernel_rfl)<|As () hm (Ag [1,1] R R)
   ·refine Al R R R<|A8 (Az (i:=0) R R ld22 R)<|Ax 14 R R R (by kernel_rfl) (Aw T_api_Machine.vv R Ay)<|?_
    refine Bm [4,17] (by kernel_rfl) ⟨?_,?_,trivial⟩
    ·refine Al R R R<|A8 (Az (i:=0) R R ld22 R)<|Bd hm fun v8 h60 hm=>Ax 15 R R R (by kernel_rfl) (Bp (f:=T_api_Machine.vv) el22 R R R R R h60)<|Ah 17 (by kernel_rfl)<|Bd hm fun r10 h61 hm=>Al R R R<|Au 0 R fn83 R (K43 a r10 h61) fun _ _ h64=> ?_
     obtain ⟨rfl,rfl⟩:=h64
     exact Ah 18 (by kernel_rfl)<|Al R R R<|A5 ap22 R R R R R fun b17=>Ah 19 (by kernel_rfl)<|Bd hm fun l16 h63 hm=>Al R R R<|Br (f:=T_api_Machine.vv) (l2:=[r10]) ap22 R (sT_row 0 T_api_Machine.vv el22 R R) h63<|Aq tbk [20,21] [] (by kernel_rfl) R R R<|Ah 22 (by kernel_rfl)<|Al R R R<|An (i:=1) R R R ld22 R R R<|A0 (by kernel_rfl)<|As () hm (Ag [1,1] R R)
    ·refine Bd hm fun v9 h65 hm=>Bd hm fun r11 h66 hm=>Al R R R<|Au 0 R fn83 R (K43 a r11 h66) fun _ _ h71=> ?_
     obtain ⟨rfl,rfl⟩:=h71
     refine Bm [4,18] (by kernel_rfl) ⟨?_,?_,trivial⟩
     ·exact Al R R R<|A8 (Az (i:=0) R R ld22 R)<|Ax 15 R R R (by kernel_rfl) (Bp (f:=T_api_Machine.vv) el22 R R R R R h65)<|Ah 18 (by kernel_rfl)<|Al R R R<|A5 ap22 R R R R R fun b18=>Ah 19 (by kernel_rfl)<|Bd hm fun l17 h68 hm=>Al R R R<|Br (f:=T_api_Machine.vv) (l2:=[r11]) ap22 R (sT_row 0 T_api_Machine.vv el22 R R) h68<|Aq tbk [20,21] [] (by kernel_rfl) R R R<|Ah 22 (by kernel_rfl)<|Al R R R<|An (i:=1) R R R ld22 R R R<|A0 (by kernel_rfl)<|As () hm (Ag [1,1] R R)
     ·exact Al R R R<|A5 ap22 R R R R R fun b19=>Ah 4 (by kernel_rfl)<|Al R R R<|A8 (Az (i:=1) R R ld22 R)<|Ax 15 R R R (by kernel_rfl) (Bp (f:=T_api_Machine.vv) el22 R R R R R h65)<|Ah 19 (by kernel_rfl)<|Bd hm fun l18 h70 hm=>Al R R R<|Br (f:=T_api_Machine.vv) (l2:=[r11]) ap22 R (sT_row 0 T_api_Machine.vv el22 R R) h70<|Aq tbk [20,21] [] (by kernel_rfl) R R R<|Ah 22 (by kernel_rfl)<|Al R R R<|An (i:=1) R R R ld22 R R R<|A0 (by kernel_rfl)<|As () hm (Ag [1,1] R R)
   ·refine Bd hm fun v10 h72 hm=>Bd hm fun r12 h73 hm=>Al R R R<|Au 0 R fn83 R (K43 a r12 h73) fun _ _ h85=> ?_
    obtain ⟨rfl,rfl⟩:=h85
    refine Bm [4,13,18] (by kernel_rfl) ⟨?_,?_,?_,trivial⟩
    ·refine Al R R R<|A8 (Az (i:=0) R R ld22 R)<|?_
     refine Bm [13,18] (by kernel_rfl) ⟨?_,?_,trivial⟩
     ·exact Al R R R<|A8 (Az (i:=0) R R ld22 R)<|Ax 14 R R R (by kernel_rfl) (Aw T_api_Machine.vv R Ay)<|Ax 15 R R R (by kernel_rfl) (Bp (f:=T_api_Machine.vv) el22 R R R R R h72)<|Ah 18 (by kernel_rfl)<|Al R R R<|A5 ap22 R R R R R fun b20=>Ah 19 (by kernel_rfl)<|Bd hm fun l19 h75 hm=>Al R R R<|Br (f:=T_api_Machine.vv) (l2:=[r12]) ap22 R (sT_row 0 T_api_Machine.vv el22 R R) h75<|Aq tbk [20,21] [] (by kernel_rfl) R R R<|Ah 22 (by kernel_rfl)<|Al R R R<|An (i:=1) R R R ld22 R R R<|A0 (by kernel_rfl)<|As () hm (Ag [1,1] R R)
     ·exact Al R R R<|A5 ap22 R R R R R fun b21=>Ah 13 (by kernel_rfl)<|Al R R R<|A8 (Az (i:=1) R R ld22 R)<|Ax 14 R R R (by kernel_rfl) (Aw T_api_Machine.vv R Ay)<|Ax 15 R R R (by kernel_rfl) (Bp (f:=T_api_Machine.vv) el22 R R R R R h72)<|Ah 19 (by kernel_rfl)<|Bd hm fun l20 h77 hm=>Al R R R<|Br (f:=T_api_Machine.vv) (l2:=[r12]) ap22 R (sT_row 0 T_api_Machine.vv el22 R R) h77<|Aq tbk [20,21] [] (by kernel_rfl) R R R<|Ah 22 (by kernel_rfl)<|Al R R R<|An (i:=1) R R R ld22 R R R<|A0 (by kernel_rfl)<|As () hm (Ag [1,1] R R)
    ·refine Al R R R<|A8 (Az (i:=0) R R ld22 R)<|Ax 14 R R R (by kernel_rfl) (Aw T_api_Machine.vv R Ay)<|?_
     refine Bm [4,18] (by kernel_rfl) ⟨?_,?_,trivial⟩
     ·exact Al R R R<|A8 (Az (i:=0) R R ld22 R)<|Ax 15 R R R (by kernel_rfl) (Bp (f:=T_api_Machine.vv) el22 R R R R R h72)<|Ah 18 (by kernel_rfl)<|Al R R R<|A5 ap22 R R R R R fun b22=>Ah 19 (by kernel_rfl)<|Bd hm fun l21 h79 hm=>Al R R R<|Br (f:=T_api_Machine.vv) (l2:=[r12]) ap22 R (sT_row 0 T_api_Machine.vv el22 R R) h79<|Aq tbk [20,21] [] (by kernel_rfl) R R R<|Ah 22 (by kernel_rfl)<|Al R R R<|An (i:=1) R R R ld22 R R R<|A0 (by kernel_rfl)<|As () hm (Ag [1,1] R R)
     ·exact Al R R R<|A5 ap22 R R R R R fun b23=>Ah 4 (by kernel_rfl)<|Al R R R<|A8 (Az (i:=1) R R ld22 R)<|Ax 15 R R R (by kernel_rfl) (Bp (f:=T_api_Machine.vv) el22 R R R R R h72)<|Ah 19 (by kernel_rfl)<|Bd hm fun l22 h81 hm=>Al R R R<|Br (f:=T_api_Machine.vv) (l2:=[r12]) ap22 R (sT_row 0 T_api_Machine.vv el22 R R) h81<|Aq tbk [20,21] [] (by kernel_rfl) R R R<|Ah 22 (by kernel_rfl)<|Al R R R<|An (i:=1) R R R ld22 R R R<|A0 (by kernel_rfl)<|As () hm (Ag [1,1] R R)
    ·refine Al R R R<|A5 ap22 R R R R R fun b24=> ?_
     refine Bm [4,13] (by kernel_rfl) ⟨?_,?_,trivial⟩
     ·exact Al R R R<|A8 (Az (i:=1) R R ld22 R)<|Ah 13 (by kernel_rfl)<|Al R R R<|A8 (Az (i:=1) R R ld22 R)<|Ax 14 R R R (by kernel_rfl) (Aw T_api_Machine.vv R Ay)<|Ax 15 R R R (by kernel_rfl) (Bp (f:=T_api_Machine.vv) el22 R R R R R h72)<|Ah 19 (by kernel_rfl)<|Bd hm fun l23 h83 hm=>Al R R R<|Br (f:=T_api_Machine.vv) (l2:=[r12]) ap22 R (sT_row 0 T_api_Machine.vv el22 R R) h83<|Aq tbk [20,21] [] (by kernel_rfl) R R R<|Ah 22 (by kernel_rfl)<|Al R R R<|An (i:=1) R R R ld22 R R R<|A0 (by kernel_rfl)<|As () hm (Ag [1,1] R R)
     ·exact Al R R R<|A8 (Az (i:=1) R R ld22 R)<|Ax 14 R R R (by kernel_rfl) (Aw T_api_Machine.vv R Ay)<|Ah 4 (by kernel_rfl)<|Al R R R<|A8 (Az (i:=1) R R ld22 R)<|Ax 15 R R R (by kernel_rfl) (Bp (f:=T_api_Machine.vv) el22 R R R R R h72)<|Ah 19 (by kernel_rfl)<|Bd hm fun l24 h84 hm=>Al R R R<|Br (f:=T_api_Machine.vv) (l2:=[r12]) ap22 R (sT_row 0 T_api_Machine.vv el22 R R) h84<|Aq tbk [20,21] [] (by kernel_rfl) R R R<|Ah 22 (by kernel_rfl)<|Al R R R<|An (i:=1) R R R ld22 R R R<|A0 (by kernel_rfl)<|As () hm (Ag [1,1] R R)
  ·refine Al R R R<|A8 (Az (i:=0) R R ld22 R)<|Ax 14 R R R (by kernel_rfl) (Aw T_api_Machine.vv R Ay)<|?_
   refine Bm [4,8,17] (by kernel_rfl) ⟨?_,?_,?_,trivial⟩
   ·refine Al R R R<|A8 (Az (i:=0) R R ld22 R)<|?_
    refine Bm [8,17] (by kernel_rfl) ⟨?_,?_,trivial⟩
    ·refine Al R R R<|A8 (Az (i:=0) R R ld22 R)<|Ax 9 R R R (by kernel_rfl) (Aw T_api_Machine.vv R Ay)<|Bd hm fun v11 h86 hm=>Ax 15 R R R (by kernel_rfl) (Bp (f:=T_api_Machine.vv) el22 R R R R R h86)<|Ah 17 (by kernel_rfl)<|Bd hm fun r13 h87 hm=>Al R R R<|Au 0 R fn83 R (K43 a r13 h87) fun _ _ h90=> ?_
     obtain ⟨rfl,rfl⟩:=h90
     exact Ah 18 (by kernel_rfl)<|Al R R R<|A5 ap22 R R R R R fun b25=>Ah 19 (by kernel_rfl)<|Bd hm fun l25 h89 hm=>Al R R R<|Br (f:=T_api_Machine.vv) (l2:=[r13]) ap22 R (sT_row 0 T_api_Machine.vv el22 R R) h89<|Aq tbk [20,21] [] (by kernel_rfl) R R R<|Ah 22 (by kernel_rfl)<|Al R R R<|An (i:=1) R R R ld22 R R R<|A0 (by kernel_rfl)<|As () hm (Ag [1,1] R R)
    ·refine Bd hm fun v12 h91 hm=>Bd hm fun r14 h92 hm=>Al R R R<|Au 0 R fn83 R (K43 a r14 h92) fun _ _ h97=> ?_
     obtain ⟨rfl,rfl⟩:=h97
     refine Bm [8,18] (by kernel_rfl) ⟨?_,?_,trivial⟩
     ·exact Al R R R<|A8 (Az (i:=0) R R ld22 R)<|Ax 9 R R R (by kernel_rfl) (Aw T_api_Machine.vv R Ay)<|Ax 15 R R R (by kernel_rfl) (Bp (f:=T_api_Machine.vv) el22 R R R R R h91)<|Ah 18 (by kernel_rfl)<|Al R R R<|A5 ap22 R R R R R fun b26=>Ah 19 (by kernel_rfl)<|Bd hm fun l26 h94 hm=>Al R R R<|Br (f:=T_api_Machine.vv) (l2:=[r14]) ap22 R (sT_row 0 T_api_Machine.vv el22 R R) h94<|Aq tbk [20,21] [] (by kernel_rfl) R R R<|Ah 22 (by kernel_rfl)<|Al R R R<|An (i:=1) R R R ld22 R R R<|A0 (by kernel_rfl)<|As () hm (Ag [1,1] R R)
     ·exact Al R R R<|A5 ap22 R R R R R fun b27=>Ah 8 (by kernel_rfl)<|Al R R R<|A8 (Az (i:=1) R R ld22 R)<|Ax 9 R R R (by kernel_rfl) (Aw T_api_Machine.vv R Ay)<|Ax 15 R R R (by kernel_rfl) (Bp (f:=T_api_Machine.vv) el22 R R R R R h91)<|Ah 19 (by kernel_rfl)<|Bd hm fun l27 h96 hm=>Al R R R<|Br (f:=T_api_Machine.vv) (l2:=[r14]) ap22 R (sT_row 0 T_api_Machine.vv el22 R R) h96<|Aq tbk [20,21] [] (by kernel_rfl) R R R<|Ah 22 (by kernel_rfl)<|Al R R R<|An (i:=1) R R R ld22 R R R<|A0 (by kernel_rfl)<|As () hm (Ag [1,1] R R)
   ·refine Al R R R<|A8 (Az (i:=0) R R ld22 R)<|Ax 9 R R R (by kernel_rfl) (Aw T_api_Machine.vv R Ay)<|?_
    refine Bm [4,17] (by kernel_rfl) ⟨?_,?_,trivial⟩
    ·refine Al R R R<|A8 (Az (i:=0) R R ld22 R)<|Bd hm fun v13 h98 hm=>Ax 15 R R R (by kernel_rfl) (Bp (f:=T_api_Machine.vv) el22 R R R R R h98)<|Ah 17 (by kernel_rfl)<|Bd hm fun r15 h99 hm=>Al R R R<|Au 0 R fn83 R (K43 a r15 h99) fun _ _ h102=> ?_
     obtain ⟨rfl,rfl⟩:=h102
     exact Ah 18 (by kernel_rfl)<|Al R R R<|A5 ap22 R R R R R fun b28=>Ah 19 (by kernel_rfl)<|Bd hm fun l28 h101 hm=>Al R R R<|Br (f:=T_api_Machine.vv) (l2:=[r15]) ap22 R (sT_row 0 T_api_Machine.vv el22 R R) h101<|Aq tbk [20,21] [] (by kernel_rfl) R R R<|Ah 22 (by kernel_rfl)<|Al R R R<|An (i:=1) R R R ld22 R R R<|A0 (by kernel_rfl)<|As () hm (Ag [1,1] R R)
    ·refine Bd hm fun v14 h103 hm=>Bd hm fun r16 h104 hm=>Al R R R<|Au 0 R fn83 R (K43 a r16 h104) fun _ _ h109=> ?_
     obtain ⟨rfl,rfl⟩:=h109
     refine Bm [4,18] (by kernel_rfl) ⟨?_,?_,trivial⟩
     ·exact Al R R R<|A8 (Az (i:=0) R R ld22 R)<|Ax 15 R R R (by kernel_rfl) (Bp (f:=T_api_Machine.vv) el22 R R R R R h103)<|Ah 18 (by kernel_rfl)<|Al R R R<|A5 ap22 R R R R R fun b29=>Ah 19 (by kernel_rfl)<|Bd hm fun l29 h106 hm=>Al R R R<|Br (f:=T_api_Machine.vv) (l2:=[r16]) ap22 R (sT_row 0 T_api_Machine.vv el22 R R) h106<|Aq tbk [20,21] [] (by kernel_rfl) R R R<|Ah 22 (by kernel_rfl)<|Al R R R<|An (i:=1) R R R ld22 R R R<|A0 (by kernel_rfl)<|As () hm (Ag [1,1] R R)
     ·exact Al R R R<|A5 ap22 R R R R R fun b30=>Ah 4 (by kernel_rfl)<|Al R R R<|A8 (Az (i:=1) R R ld22 R)<|Ax 15 R R R (by kernel_rfl) (Bp (f:=T_api_Machine.vv) el22 R R R R R h103)<|Ah 19 (by kernel_rfl)<|Bd hm fun l30 h108 hm=>Al R R R<|Br (f:=T_api_Machine.vv) (l2:=[r16]) ap22 R (sT_row 0 T_api_Machine.vv el22 R R) h108<|Aq tbk [20,21] [] (by kernel_rfl) R R R<|Ah 22 (by kernel_rfl)<|Al R R R<|An (i:=1) R R R ld22 R R R<|A0 (by kernel_rfl)<|As () hm (Ag [1,1] R R)
   ·refine Bd hm fun v15 h110 hm=>Bd hm fun r17 h111 hm=>Al R R R<|Au 0 R fn83 R (K43 a r17 h111) fun _ _ h123=> ?_
    obtain ⟨rfl,rfl⟩:=h123
    refine Bm [4,8,18] (by kernel_rfl) ⟨?_,?_,?_,trivial⟩
    ·refine Al R R R<|A8 (Az (i:=0) R R ld22 R)<|?_
     refine Bm [8,18] (by kernel_rfl) ⟨?_,?_,trivial⟩
     ·exact Al R R R<|A8 (Az (i:=0) R R ld22 R)<|Ax 9 R R R (by kernel_rfl) (Aw T_api_Machine.vv R Ay)<|Ax 15 R R R (by kernel_rfl) (Bp (f:=T_api_Machine.vv) el22 R R R R R h110)<|Ah 18 (by kernel_rfl)<|Al R R R<|A5 ap22 R R R R R fun b31=>Ah 19 (by kernel_rfl)<|Bd hm fun l31 h113 hm=>Al R R R<|Br (f:=T_api_Machine.vv) (l2:=[r17]) ap22 R (sT_row 0 T_api_Machine.vv el22 R R) h113<|Aq tbk [20,21] [] (by kernel_rfl) R R R<|Ah 22 (by kernel_rfl)<|Al R R R<|An (i:=1) R R R ld22 R R R<|A0 (by kernel_rfl)<|As () hm (Ag [1,1] R R)
     ·exact Al R R R<|A5 ap22 R R R R R fun b32=>Ah 8 (by kernel_rfl)<|Al R R R<|A8 (Az (i:=1) R R ld22 R)<|Ax 9 R R R (by kernel_rfl) (Aw T_api_Machine.vv R Ay)<|Ax 15 R R R (by kernel_rfl) (Bp (f:=T_api_Machine.vv) el22 R R R R R h110)<|Ah 19 (by kernel_rfl)<|Bd hm fun l32 h115 hm=>Al R R R<|Br (f:=T_api_Machine.vv) (l2:=[r17]) ap22 R (sT_row 0 T_api_Machine.vv el22 R R) h115<|Aq tbk [20,21] [] (by kernel_rfl) R R R<|Ah 22 (by kernel_rfl)<|Al R R R<|An (i:=1) R R R ld22 R R R<|A0 (by kernel_rfl)<|As () hm (Ag [1,1] R R)
    ·refine Al R R R<|A8 (Az (i:=0) R R ld22 R)<|Ax 9 R R R (by kernel_rfl) (Aw T_api_Machine.vv R Ay)<|?_
     refine Bm [4,18] (by kernel_rfl) ⟨?_,?_,trivial⟩
     ·exact Al R R R<|A8 (Az (i:=0) R R ld22 R)<|Ax 15 R R R (by kernel_rfl) (Bp (f:=T_api_Machine.vv) el22 R R R R R h110)<|Ah 18 (by kernel_rfl)<|Al R R R<|A5 ap22 R R R R R fun b33=>Ah 19 (by kernel_rfl)<|Bd hm fun l33 h117 hm=>Al R R R<|Br (f:=T_api_Machine.vv) (l2:=[r17]) ap22 R (sT_row 0 T_api_Machine.vv el22 R R) h117<|Aq tbk [20,21] [] (by kernel_rfl) R R R<|Ah 22 (by kernel_rfl)<|Al R R R<|An (i:=1) R R R ld22 R R R<|A0 (by kernel_rfl)<|As () hm (Ag [1,1] R R)
     ·exact Al R R R<|A5 ap22 R R R R R fun b34=>Ah 4 (by kernel_rfl)<|Al R R R<|A8 (Az (i:=1) R R ld22 R)<|Ax 15 R R R (by kernel_rfl) (Bp (f:=T_api_Machine.vv) el22 R R R R R h110)<|Ah 19 (by kernel_rfl)<|Bd hm fun l34 h119 hm=>Al R R R<|Br (f:=T_api_Machine.vv) (l2:=[r17]) ap22 R (sT_row 0 T_api_Machine.vv el22 R R) h119<|Aq tbk [20,21] [] (by kernel_rfl) R R R<|Ah 22 (by kernel_rfl)<|Al R R R<|An (i:=1) R R R ld22 R R R<|A0 (by kernel_rfl)<|As () hm (Ag [1,1] R R)
    ·refine Al R R R<|A5 ap22 R R R R R fun b35=> ?_
     refine Bm [4,8] (by kernel_rfl) ⟨?_,?_,trivial⟩
     ·exact Al R R R<|A8 (Az (i:=1) R R ld22 R)<|Ah 8 (by kernel_rfl)<|Al R R R<|A8 (Az (i:=1) R R ld22 R)<|Ax 9 R R R (by kernel_rfl) (Aw T_api_Machine.vv R Ay)<|Ax 15 R R R (by kernel_rfl) (Bp (f:=T_api_Machine.vv) el22 R R R R R h110)<|Ah 19 (by kernel_rfl)<|Bd hm fun l35 h121 hm=>Al R R R<|Br (f:=T_api_Machine.vv) (l2:=[r17]) ap22 R (sT_row 0 T_api_Machine.vv el22 R R) h121<|Aq tbk [20,21] [] (by kernel_rfl) R R R<|Ah 22 (by kernel_rfl)<|Al R R R<|An (i:=1) R R R ld22 R R R<|A0 (by kernel_rfl)<|As () hm (Ag [1,1] R R)
     ·exact Al R R R<|A8 (Az (i:=1) R R ld22 R)<|Ax 9 R R R (by kernel_rfl) (Aw T_api_Machine.vv R Ay)<|Ah 4 (by kernel_rfl)<|Al R R R<|A8 (Az (i:=1) R R ld22 R)<|Ax 15 R R R (by kernel_rfl) (Bp (f:=T_api_Machine.vv) el22 R R R R R h110)<|Ah 19 (by kernel_rfl)<|Bd hm fun l36 h122 hm=>Al R R R<|Br (f:=T_api_Machine.vv) (l2:=[r17]) ap22 R (sT_row 0 T_api_Machine.vv el22 R R) h122<|Aq tbk [20,21] [] (by kernel_rfl) R R R<|Ah 22 (by kernel_rfl)<|Al R R R<|An (i:=1) R R R ld22 R R R<|A0 (by kernel_rfl)<|As () hm (Ag [1,1] R R)
  ·refine Bd hm fun v16 h124 hm=>Bd hm fun r18 h125 hm=>Al R R R<|Au 0 R fn83 R (K43 a r18 h125) fun _ _ h166=> ?_
   obtain ⟨rfl,rfl⟩:=h166
   refine Bm [4,8,13,18] (by kernel_rfl) ⟨?_,?_,?_,?_,trivial⟩
   ·refine Al R R R<|A8 (Az (i:=0) R R ld22 R)<|?_
    refine Bm [8,13,18] (by kernel_rfl) ⟨?_,?_,?_,trivial⟩
    ·refine Al R R R<|A8 (Az (i:=0) R R ld22 R)<|Ax 9 R R R (by kernel_rfl) (Aw T_api_Machine.vv R Ay)<|?_
     refine Bm [13,18] (by kernel_rfl) ⟨?_,?_,trivial⟩
     ·exact Al R R R<|A8 (Az (i:=0) R R ld22 R)<|Ax 14 R R R (by kernel_rfl) (Aw T_api_Machine.vv R Ay)<|Ax 15 R R R (by kernel_rfl) (Bp (f:=T_api_Machine.vv) el22 R R R R R h124)<|Ah 18 (by kernel_rfl)<|Al R R R<|A5 ap22 R R R R R fun b36=>Ah 19 (by kernel_rfl)<|Bd hm fun l37 h127 hm=>Al R R R<|Br (f:=T_api_Machine.vv) (l2:=[r18]) ap22 R (sT_row 0 T_api_Machine.vv el22 R R) h127<|Aq tbk [20,21] [] (by kernel_rfl) R R R<|Ah 22 (by kernel_rfl)<|Al R R R<|An (i:=1) R R R ld22 R R R<|A0 (by kernel_rfl)<|As () hm (Ag [1,1] R R)
     ·exact Al R R R<|A5 ap22 R R R R R fun b37=>Ah 13 (by kernel_rfl)<|Al R R R<|A8 (Az (i:=1) R R ld22 R)<|Ax 14 R R R (by kernel_rfl) (Aw T_api_Machine.vv R Ay)<|Ax 15 R R R (by kernel_rfl) (Bp (f:=T_api_Machine.vv) el22 R R R R R h124)<|Ah 19 (by kernel_rfl)<|Bd hm fun l38 h129 hm=>Al R R R<|Br (f:=T_api_Machine.vv) (l2:=[r18]) ap22 R (sT_row 0 T_api_Machine.vv el22 R R) h129<|Aq tbk [20,21] [] (by kernel_rfl) R R R<|Ah 22 (by kernel_rfl)<|Al R R R<|An (i:=1) R R R ld22 R R R<|A0 (by kernel_rfl)<|As () hm (Ag [1,1] R R)
    ·refine Al R R R<|A8 (Az (i:=0) R R ld22 R)<|Ax 14 R R R (by kernel_rfl) (Aw T_api_Machine.vv R Ay)<|?_
     refine Bm [8,18] (by kernel_rfl) ⟨?_,?_,trivial⟩
     ·exact Al R R R<|A8 (Az (i:=0) R R ld22 R)<|Ax 9 R R R (by kernel_rfl) (Aw T_api_Machine.vv R Ay)<|Ax 15 R R R (by kernel_rfl) (Bp (f:=T_api_Machine.vv) el22 R R R R R h124)<|Ah 18 (by kernel_rfl)<|Al R R R<|A5 ap22 R R R R R fun b38=>Ah 19 (by kernel_rfl)<|Bd hm fun l39 h131 hm=>Al R R R<|Br (f:=T_api_Machine.vv) (l2:=[r18]) ap22 R (sT_row 0 T_api_Machine.vv el22 R R) h131<|Aq tbk [20,21] [] (by kernel_rfl) R R R<|Ah 22 (by kernel_rfl)<|Al R R R<|An (i:=1) R R R ld22 R R R<|A0 (by kernel_rfl)<|As () hm (Ag [1,1] R R)
     ·exact Al R R R<|A5 ap22 R R R R R fun b39=>Ah 8 (by kernel_rfl)<|Al R R R<|A8 (Az (i:=1) R R ld22 R)<|Ax 9 R R R (by kernel_rfl) (Aw T_api_Machine.vv R Ay)<|Ax 15 R R R (by kernel_rfl) (Bp (f:=T_api_Machine.vv) el22 R R R R R h124)<|Ah 19 (by kernel_rfl)<|Bd hm fun l40 h133 hm=>Al R R R<|Br (f:=T_api_Machine.vv) (l2:=[r18]) ap22 R (sT_row 0 T_api_Machine.vv el22 R R) h133<|Aq tbk [20,21] [] (by kernel_rfl) R R R<|Ah 22 (by kernel_rfl)<|Al R R R<|An (i:=1) R R R ld22 R R R<|A0 (by kernel_rfl)<|As () hm (Ag [1,1] R R)
    ·refine Al R R R<|A5 ap22 R R R R R fun b40=> ?_
     refine Bm [8,13] (by kernel_rfl) ⟨?_,?_,trivial⟩
     ·exact Al R R R<|A8 (Az (i:=1) R R ld22 R)<|Ax 9 R R R (by kernel_rfl) (Aw T_api_Machine.vv R Ay)<|Ah 13 (by kernel_rfl)<|Al R R R<|A8 (Az (i:=1) R R ld22 R)<|Ax 14 R R R (by kernel_rfl) (Aw T_api_Machine.vv R Ay)<|Ax 15 R R R (by kernel_rfl) (Bp (f:=T_api_Machine.vv) el22 R R R R R h124)<|Ah 19 (by kernel_rfl)<|Bd hm fun l41 h135 hm=>Al R R R<|Br (f:=T_api_Machine.vv) (l2:=[r18]) ap22 R (sT_row 0 T_api_Machine.vv el22 R R) h135<|Aq tbk [20,21] [] (by kernel_rfl) R R R<|Ah 22 (by kernel_rfl)<|Al R R R<|An (i:=1) R R R ld22 R R R<|A0 (by kernel_rfl)<|As () hm (Ag [1,1] R R)
     ·exact Al R R R<|A8 (Az (i:=1) R R ld22 R)<|Ax 14 R R R (by kernel_rfl) (Aw T_api_Machine.vv R Ay)<|Ah 8 (by kernel_rfl)<|Al R R R<|A8 (Az (i:=1) R R ld22 R)<|Ax 9 R R R (by kernel_rfl) (Aw T_api_Machine.vv R Ay)<|Ax 15 R R R (by kernel_rfl) (Bp (f:=T_api_Machine.vv) el22 R R R R R h124)<|Ah 19 (by kernel_rfl)<|Bd hm fun l42 h136 hm=>Al R R R<|Br (f:=T_api_Machine.vv) (l2:=[r18]) ap22 R (sT_row 0 T_api_Machine.vv el22 R R) h136<|Aq tbk [20,21] [] (by kernel_rfl) R R R<|Ah 22 (by kernel_rfl)<|Al R R R<|An (i:=1) R R R ld22 R R R<|A0 (by kernel_rfl)<|As () hm (Ag [1,1] R R)
   ·refine Al R R R<|A8 (Az (i:=0) R R ld22 R)<|Ax 9 R R R (by kernel_rfl) (Aw T_api_Machine.vv R Ay)<|?_
    refine Bm [4,13,18] (by kernel_rfl) ⟨?_,?_,?_,trivial⟩
    ·refine Al R R R<|A8 (Az (i:=0) R R ld22 R)<|?_
     refine Bm [13,18] (by kernel_rfl) ⟨?_,?_,trivial⟩
     ·exact Al R R R<|A8 (Az (i:=0) R R ld22 R)<|Ax 14 R R R (by kernel_rfl) (Aw T_api_Machine.vv R Ay)<|Ax 15 R R R (by kernel_rfl) (Bp (f:=T_api_Machine.vv) el22 R R R R R h124)<|Ah 18 (by kernel_rfl)<|Al R R R<|A5 ap22 R R R R R fun b41=>Ah 19 (by kernel_rfl)<|Bd hm fun l43 h138 hm=>Al R R R<|Br (f:=T_api_Machine.vv) (l2:=[r18]) ap22 R (sT_row 0 T_api_Machine.vv el22 R R) h138<|Aq tbk [20,21] [] (by kernel_rfl) R R R<|Ah 22 (by kernel_rfl)<|Al R R R<|An (i:=1) R R R ld22 R R R<|A0 (by kernel_rfl)<|As () hm (Ag [1,1] R R)
     ·exact Al R R R<|A5 ap22 R R R R R fun b42=>Ah 13 (by kernel_rfl)<|Al R R R<|A8 (Az (i:=1) R R ld22 R)<|Ax 14 R R R (by kernel_rfl) (Aw T_api_Machine.vv R Ay)<|Ax 15 R R R (by kernel_rfl) (Bp (f:=T_api_Machine.vv) el22 R R R R R h124)<|Ah 19 (by kernel_rfl)<|Bd hm fun l44 h140 hm=>Al R R R<|Br (f:=T_api_Machine.vv) (l2:=[r18]) ap22 R (sT_row 0 T_api_Machine.vv el22 R R) h140<|Aq tbk [20,21] [] (by kernel_rfl) R R R<|Ah 22 (by kernel_rfl)<|Al R R R<|An (i:=1) R R R ld22 R R R<|A0 (by kernel_rfl)<|As () hm (Ag [1,1] R R)
    ·refine Al R R R<|A8 (Az (i:=0) R R ld22 R)<|Ax 14 R R R (by kernel_rfl) (Aw T_api_Machine.vv R Ay)<|?_
     refine Bm [4,18] (by kernel_rfl) ⟨?_,?_,trivial⟩
     ·exact Al R R R<|A8 (Az (i:=0) R R ld22 R)<|Ax 15 R R R (by kernel_rfl) (Bp (f:=T_api_Machine.vv) el22 R R R R R h124)<|Ah 18 (by kernel_rfl)<|Al R R R<|A5 ap22 R R R R R fun b43=>Ah 19 (by kernel_rfl)<|Bd hm fun l45 h142 hm=>Al R R R<|Br (f:=T_api_Machine.vv) (l2:=[r18]) ap22 R (sT_row 0 T_api_Machine.vv el22 R R) h142<|Aq tbk [20,21] [] (by kernel_rfl) R R R<|Ah 22 (by kernel_rfl)<|Al R R R<|An (i:=1) R R R ld22 R R R<|A0 (by kernel_rfl)<|As () hm (Ag [1,1] R R)
     ·exact Al R R R<|A5 ap22 R R R R R fun b44=>Ah 4 (by kernel_rfl)<|Al R R R<|A8 (Az (i:=1) R R ld22 R)<|Ax 15 R R R (by kernel_rfl) (Bp (f:=T_api_Machine.vv) el22 R R R R R h124)<|Ah 19 (by kernel_rfl)<|Bd hm fun l46 h144 hm=>Al R R R<|Br (f:=T_api_Machine.vv) (l2:=[r18]) ap22 R (sT_row 0 T_api_Machine.vv el22 R R) h144<|Aq tbk [20,21] [] (by kernel_rfl) R R R<|Ah 22 (by kernel_rfl)<|Al R R R<|An (i:=1) R R R ld22 R R R<|A0 (by kernel_rfl)<|As () hm (Ag [1,1] R R)
    ·refine Al R R R<|A5 ap22 R R R R R fun b45=> ?_
     refine Bm [4,13] (by kernel_rfl) ⟨?_,?_,trivial⟩
     ·exact Al R R R<|A8 (Az (i:=1) R R ld22 R)<|Ah 13 (by kernel_rfl)<|Al R R R<|A8 (Az (i:=1) R R ld22 R)<|Ax 14 R R R (by kernel_rfl) (Aw T_api_Machine.vv R Ay)<|Ax 15 R R R (by kernel_rfl) (Bp (f:=T_api_Machine.vv) el22 R R R R R h124)<|Ah 19 (by kernel_rfl)<|Bd hm fun l47 h146 hm=>Al R R R<|Br (f:=T_api_Machine.vv) (l2:=[r18]) ap22 R (sT_row 0 T_api_Machine.vv el22 R R) h146<|Aq tbk [20,21] [] (by kernel_rfl) R R R<|Ah 22 (by kernel_rfl)<|Al R R R<|An (i:=1) R R R ld22 R R R<|A0 (by kernel_rfl)<|As () hm (Ag [1,1] R R)
     ·exact Al R R R<|A8 (Az (i:=1) R R ld22 R)<|Ax 14 R R R (by kernel_rfl) (Aw T_api_Machine.vv R Ay)<|Ah 4 (by kernel_rfl)<|Al R R R<|A8 (Az (i:=1) R R ld22 R)<|Ax 15 R R R (by kernel_rfl) (Bp (f:=T_api_Machine.vv) el22 R R R R R h124)<|Ah 19 (by kernel_rfl)<|Bd hm fun l48 h147 hm=>Al R R R<|Br (f:=T_api_Machine.vv) (l2:=[r18]) ap22 R (sT_row 0 T_api_Machine.vv el22 R R) h147<|Aq tbk [20,21] [] (by kernel_rfl) R R R<|Ah 22 (by kernel_rfl)<|Al R R R<|An (i:=1) R R R ld22 R R R<|A0 (by kernel_rfl)<|As () hm (Ag [1,1] R R)
   ·refine Al R R R<|A8 (Az (i:=0) R R ld22 R)<|Ax 14 R R R (by kernel_rfl) (Aw T_api_Machine.vv R Ay)<|?_
    refine Bm [4,8,18] (by kernel_rfl) ⟨?_,?_,?_,trivial⟩
    ·refine Al R R R<|A8 (Az (i:=0) R R ld22 R)<|?_
     refine Bm [8,18] (by kernel_rfl) ⟨?_,?_,trivial⟩
     ·exact Al R R R<|A8 (Az (i:=0) R R ld22 R)<|Ax 9 R R R (by kernel_rfl) (Aw T_api_Machine.vv R Ay)<|Ax 15 R R R (by kernel_rfl) (Bp (f:=T_api_Machine.vv) el22 R R R R R h124)<|Ah 18 (by kernel_rfl)<|Al R R R<|A5 ap22 R R R R R fun b46=>Ah 19 (by kernel_rfl)<|Bd hm fun l49 h149 hm=>Al R R R<|Br (f:=T_api_Machine.vv) (l2:=[r18]) ap22 R (sT_row 0 T_api_Machine.vv el22 R R) h149<|Aq tbk [20,21] [] (by kernel_rfl) R R R<|Ah 22 (by kernel_rfl)<|Al R R R<|An (i:=1) R R R ld22 R R R<|A0 (by kernel_rfl)<|As () hm (Ag [1,1] R R)
     ·exact Al R R R<|A5 ap22 R R R R R fun b47=>Ah 8 (by kernel_rfl)<|Al R R R<|A8 (Az (i:=1) R R ld22 R)<|Ax 9 R R R (by kernel_rfl) (Aw T_api_Machine.vv R Ay)<|Ax 15 R R R (by kernel_rfl) (Bp (f:=T_api_Machine.vv) el22 R R R R R h124)<|Ah 19 (by kernel_rfl)<|Bd hm fun l50 h151 hm=>Al R R R<|Br (f:=T_api_Machine.vv) (l2:=[r18]) ap22 R (sT_row 0 T_api_Machine.vv el22 R R) h151<|Aq tbk [20,21] [] (by kernel_rfl) R R R<|Ah 22 (by kernel_rfl)<|Al R R R<|An (i:=1) R R R ld22 R R R<|A0 (by kernel_rfl)<|As () hm (Ag [1,1] R R)
    ·refine Al R R R<|A8 (Az (i:=0) R R ld22 R)<|Ax 9 R R R (by kernel_rfl) (Aw T_api_Machine.vv R Ay)<|?_
     refine Bm [4,18] (by kernel_rfl) ⟨?_,?_,trivial⟩
     ·exact Al R R R<|A8 (Az (i:=0) R R ld22 R)<|Ax 15 R R R (by kernel_rfl) (Bp (f:=T_api_Machine.vv) el22 R R R R R h124)<|Ah 18 (by kernel_rfl)<|Al R R R<|A5 ap22 R R R R R fun b48=>Ah 19 (by kernel_rfl)<|Bd hm fun l51 h153 hm=>Al R R R<|Br (f:=T_api_Machine.vv) (l2:=[r18]) ap22 R (sT_row 0 T_api_Machine.vv el22 R R) h153<|Aq tbk [20,21] [] (by kernel_rfl) R R R<|Ah 22 (by kernel_rfl)<|Al R R R<|An (i:=1) R R R ld22 R R R<|A0 (by kernel_rfl)<|As () hm (Ag [1,1] R R)
     ·exact Al R R R<|A5 ap22 R R R R R fun b49=>Ah 4 (by kernel_rfl)<|Al R R R<|A8 (Az (i:=1) R R ld22 R)<|Ax 15 R R R (by kernel_rfl) (Bp (f:=T_api_Machine.vv) el22 R R R R R h124)<|Ah 19 (by kernel_rfl)<|Bd hm fun l52 h155 hm=>Al R R R<|Br (f:=T_api_Machine.vv) (l2:=[r18]) ap22 R (sT_row 0 T_api_Machine.vv el22 R R) h155<|Aq tbk [20,21] [] (by kernel_rfl) R R R<|Ah 22 (by kernel_rfl)<|Al R R R<|An (i:=1) R R R ld22 R R R<|A0 (by kernel_rfl)<|As () hm (Ag [1,1] R R)
    ·refine Al R R R<|A5 ap22 R R R R R fun b50=> ?_
     refine Bm [4,8] (by kernel_rfl) ⟨?_,?_,trivial⟩
     ·exact Al R R R<|A8 (Az (i:=1) R R ld22 R)<|Ah 8 (by kernel_rfl)<|Al R R R<|A8 (Az (i:=1) R R ld22 R)<|Ax 9 R R R (by kernel_rfl) (Aw T_api_Machine.vv R Ay)<|Ax 15 R R R (by kernel_rfl) (Bp (f:=T_api_Machine.vv) el22 R R R R R h124)<|Ah 19 (by kernel_rfl)<|Bd hm fun l53 h157 hm=>Al R R R<|Br (f:=T_api_Machine.vv) (l2:=[r18]) ap22 R (sT_row 0 T_api_Machine.vv el22 R R) h157<|Aq tbk [20,21] [] (by kernel_rfl) R R R<|Ah 22 (by kernel_rfl)<|Al R R R<|An (i:=1) R R R ld22 R R R<|A0 (by kernel_rfl)<|As () hm (Ag [1,1] R R)
     ·exact Al R R R<|A8 (Az (i:=1) R R ld22 R)<|Ax 9 R R R (by kernel_rfl) (Aw T_api_Machine.vv R Ay)<|Ah 4 (by kernel_rfl)<|Al R R R<|A8 (Az (i:=1) R R ld22 R)<|Ax 15 R R R (by kernel_rfl) (Bp (f:=T_api_Machine.vv) el22 R R R R R h124)<|Ah 19 (by kernel_rfl)<|Bd hm fun l54 h158 hm=>Al R R R<|Br (f:=T_api_Machine.vv) (l2:=[r18]) ap22 R (sT_row 0 T_api_Machine.vv el22 R R) h158<|Aq tbk [20,21] [] (by kernel_rfl) R R R<|Ah 22 (by kernel_rfl)<|Al R R R<|An (i:=1) R R R ld22 R R R<|A0 (by kernel_rfl)<|As () hm (Ag [1,1] R R)
   ·refine Al R R R<|A5 ap22 R R R R R fun b51=> ?_
    refine Bm [4,8,13] (by kernel_rfl) ⟨?_,?_,?_,trivial⟩
    ·refine Al R R R<|A8 (Az (i:=1) R R ld22 R)<|?_
     refine Bm [8,13] (by kernel_rfl) ⟨?_,?_,trivial⟩
     ·exact Al R R R<|A8 (Az (i:=1) R R ld22 R)<|Ax 9 R R R (by kernel_rfl) (Aw T_api_Machine.vv R Ay)<|Ah 13 (by kernel_rfl)<|Al R R R<|A8 (Az (i:=1) R R ld22 R)<|Ax 14 R R R (by kernel_rfl) (Aw T_api_Machine.vv R Ay)<|Ax 15 R R R (by kernel_rfl) (Bp (f:=T_api_Machine.vv) el22 R R R R R h124)<|Ah 19 (by kernel_rfl)<|Bd hm fun l55 h160 hm=>Al R R R<|Br (f:=T_api_Machine.vv) (l2:=[r18]) ap22 R (sT_row 0 T_api_Machine.vv el22 R R) h160<|Aq tbk [20,21] [] (by kernel_rfl) R R R<|Ah 22 (by kernel_rfl)<|Al R R R<|An (i:=1) R R R ld22 R R R<|A0 (by kernel_rfl)<|As () hm (Ag [1,1] R R)
     ·exact Al R R R<|A8 (Az (i:=1) R R ld22 R)<|Ax 14 R R R (by kernel_rfl) (Aw T_api_Machine.vv R Ay)<|Ah 8 (by kernel_rfl)<|Al R R R<|A8 (Az (i:=1) R R ld22 R)<|Ax 9 R R R (by kernel_rfl) (Aw T_api_Machine.vv R Ay)<|Ax 15 R R R (by kernel_rfl) (Bp (f:=T_api_Machine.vv) el22 R R R R R h124)<|Ah 19 (by kernel_rfl)<|Bd hm fun l56 h161 hm=>Al R R R<|Br (f:=T_api_Machine.vv) (l2:=[r18]) ap22 R (sT_row 0 T_api_Machine.vv el22 R R) h161<|Aq tbk [20,21] [] (by kernel_rfl) R R R<|Ah 22 (by kernel_rfl)<|Al R R R<|An (i:=1) R R R ld22 R R R<|A0 (by kernel_rfl)<|As () hm (Ag [1,1] R R)
    ·refine Al R R R<|A8 (Az (i:=1) R R ld22 R)<|Ax 9 R R R (by kernel_rfl) (Aw T_api_Machine.vv R Ay)<|?_
     refine Bm [4,13] (by kernel_rfl) ⟨?_,?_,trivial⟩
     ·exact Al R R R<|A8 (Az (i:=1) R R ld22 R)<|Ah 13 (by kernel_rfl)<|Al R R R<|A8 (Az (i:=1) R R ld22 R)<|Ax 14 R R R (by kernel_rfl) (Aw T_api_Machine.vv R Ay)<|Ax 15 R R R (by kernel_rfl) (Bp (f:=T_api_Machine.vv) el22 R R R R R h124)<|Ah 19 (by kernel_rfl)<|Bd hm fun l57 h162 hm=>Al R R R<|Br (f:=T_api_Machine.vv) (l2:=[r18]) ap22 R (sT_row 0 T_api_Machine.vv el22 R R) h162<|Aq tbk [20,21] [] (by kernel_rfl) R R R<|Ah 22 (by kernel_rfl)<|Al R R R<|An (i:=1) R R R ld22 R R R<|A0 (by kernel_rfl)<|As () hm (Ag [1,1] R R)
     ·exact Al R R R<|A8 (Az (i:=1) R R ld22 R)<|Ax 14 R R R (by kernel_rfl) (Aw T_api_Machine.vv R Ay)<|Ah 4 (by kernel_rfl)<|Al R R R<|A8 (Az (i:=1) R R ld22 R)<|Ax 15 R R R (by kernel_rfl) (Bp (f:=T_api_Machine.vv) el22 R R R R R h124)<|Ah 19 (by kernel_rfl)<|Bd hm fun l58 h163 hm=>Al R R R<|Br (f:=T_api_Machine.vv) (l2:=[r18]) ap22 R (sT_row 0 T_api_Machine.vv el22 R R) h163<|Aq tbk [20,21] [] (by kernel_rfl) R R R<|Ah 22 (by kernel_rfl)<|Al R R R<|An (i:=1) R R R ld22 R R R<|A0 (by kernel_rfl)<|As () hm (Ag [1,1] R R)
    ·refine Al R R R<|A8 (Az (i:=1) R R ld22 R)<|Ax 14 R R R (by kernel_rfl) (Aw T_api_Machine.vv R Ay)<|?_
     refine Bm [4,8] (by kernel_rfl) ⟨?_,?_,trivial⟩
     ·exact Al R R R<|A8 (Az (i:=1) R R ld22 R)<|Ah 8 (by kernel_rfl)<|Al R R R<|A8 (Az (i:=1) R R ld22 R)<|Ax 9 R R R (by kernel_rfl) (Aw T_api_Machine.vv R Ay)<|Ax 15 R R R (by kernel_rfl) (Bp (f:=T_api_Machine.vv) el22 R R R R R h124)<|Ah 19 (by kernel_rfl)<|Bd hm fun l59 h164 hm=>Al R R R<|Br (f:=T_api_Machine.vv) (l2:=[r18]) ap22 R (sT_row 0 T_api_Machine.vv el22 R R) h164<|Aq tbk [20,21] [] (by kernel_rfl) R R R<|Ah 22 (by kernel_rfl)<|Al R R R<|An (i:=1) R R R ld22 R R R<|A0 (by kernel_rfl)<|As () hm (Ag [1,1] R R)
     ·exact Al R R R<|A8 (Az (i:=1) R R ld22 R)<|Ax 9 R R R (by kernel_rfl) (Aw T_api_Machine.vv R Ay)<|Ah 4 (by kernel_rfl)<|Al R R R<|A8 (Az (i:=1) R R ld22 R)<|Ax 15 R R R (by kernel_rfl) (Bp (f:=T_api_Machine.vv) el22 R R R R R h124)<|Ah 19 (by kernel_rfl)<|Bd hm fun l60 h165 hm=>Al R R R<|Br (f:=T_api_Machine.vv) (l2:=[r18]) ap22 R (sT_row 0 T_api_Machine.vv el22 R R) h165<|Aq tbk [20,21] [] (by kernel_rfl) R R R<|Ah 22 (by kernel_rfl)<|Al R R R<|An (i:=1) R R R ld22 R R R<|A0 (by kernel_rfl)<|As () hm (Ag [1,1] R R)
 exact Ae tbk [] R R<|Rt1 hm R [0,0] R R R

/-! (*trireme/snap.Snap).change$1 -/
def snap_Snap_change_1 (x : T_snap_Snap) (a : Int) (a2 : T_snap_state) : Option T_snap_Snap :=
 if (a == 0) = true then
  some (⟨(some a2), x.kept, (i64.wrap (x.tried + 1))⟩ : T_snap_Snap)
 else
  some (⟨x.now, x.kept, (i64.wrap (x.tried + 1))⟩ : T_snap_Snap)
theorem K72 (x : T_snap_Snap) (a : Int) (a2 : T_snap_state) (b : Nat) (b2 : Nat) (ob : Option Nat) (cap : Nat) (b3 : Nat) (b4 : Nat) : VS2d Tryz.prog 134 (snap_Snap_change_1 x a a2) [.ptr b 0, .ptr b3 0, .ptr b4 0] [.box b 67 [.ptr b2 0], .box b2 96 [T_snap_state.pf x.now, Z93 ob x.kept cap, Iw x.tried], Q93 ob cap x.kept, .box b3 50 [Iw a], X119 b4 a2] (fun r ob1_1 cap1_1=>.tup []) (fun r ob1_1 cap1_1=>[.box b 67 [.ptr b2 0], .box b2 96 [T_snap_state.pf r.now, Z93 ob1_1 r.kept cap1_1, Iw r.tried], Q93 ob1_1 cap1_1 r.kept, .box b3 50 [Iw a]]) := by
 refine VS2d.run [] Tryz.func134 R R R fun r hm=>?_
 unfold snap_Snap_change_1 at hm
 refine Ai<|Aa tbk [0,1] 7 R R<|Ad R R<|An (i:=1) R R R ld3 R R R<|Ac<|Ae tbk [3] R R<|Ao hm R (fun h1 hm=>?_) fun h1 hm=> ?_
 ·refine Bn<|Aa tbk [0] 3 R R<|Bl (Shift.freezeB 4 2 R R)<|Ad R R<|An (i:=1) R R R ld93 R R R<|Ac<|?_
  obtain rfl:=Option.some.inj hm
  exact ⟨.inr R,_,.nil,[0,0,0,0],_,R,ob,cap,R,R⟩
 refine Am<|?_
 obtain rfl:=Option.some.inj hm
 exact ⟨.inr R,_,.nil,[0,0,0,0],_,R,ob,cap,R,R⟩

/-! (*trireme/snap.Snap).change -/
def snap_Snap_change_snap_Snap_Add_1_x (s : T_snap_Snap) (c : T_api_Machine) : Option (Int × T_snap_Snap) :=
 (snap_Snap_there_x s).bind fun r =>
 if (!r) = true then
  some (23, s)
 else
  (s.now).bind fun x =>
  (snap_Snap_Add_1 x c).bind fun r2 =>
  (snap_Snap_change_1 s r2.1 r2.2).bind fun r3 =>
  some (r2.1, r3)
theorem K73 (s : T_snap_Snap) (c : T_api_Machine) (b : Nat) (ob : Option Nat) (cap : Nat) (b2 : Nat) : VS2 Tryz.prog 80 (snap_Snap_change_snap_Snap_Add_1_x s c) [.ptr b 0, .clo (.func 81) [] [.ptr b2 0]] [.box b 96 [T_snap_state.pf s.now, Z93 ob s.kept cap, Iw s.tried], Q93 ob cap s.kept, X61 b2 c] (fun r ob0_1 cap0_1=>Iw r.1) (fun r ob0_1 cap0_1=>[.box b 96 [T_snap_state.pf r.2.now, Z93 ob0_1 r.2.kept cap0_1, Iw r.2.tried], Q93 ob0_1 cap0_1 r.2.kept, X61 b2 c]) := by
 refine Dz [.cell 4 50] C8 R R R fun r hm=>?_
 unfold snap_Snap_change_snap_Snap_Add_1_x at hm
 refine VD.seq<|VD.of<|Bn<|Ad R R<|Bg R R fun b3=>Ad R R<|A3 z50 fun b4=>Ac<|VD.seq<|VD.seq<|VD.of<|Bn<|Aa tbk [1] 1 R R<|Bl (Bi [2,2,0,0,0] R)<|Ad R R<|Av hm 2 R fn77 R (K66 _ _ _ _) fun r hm=>Ab R R (B6 R)<|Ac<|VD.if_ hm R (fun h4 hm=>VD.seq<|VD.of<|Bn<|Ad R R<|An (i:=2) R R R ld50 R R R<|Ac<|VD.of<|Rg2 hm R [0,0,2] ob cap (.cons (.cell _ _ _ _ 2 _ _ _ _ R R ld50 R) .nil) R R) fun h4 hm=>VD.of<|Am<|VD.seq<|VD.of<|Bn<|Aa tbk [3] 3 R R<|Bd hm fun x h5 hm=>Ab R R (Dn (Az (i:=0) R R ld93 R) (congrArg T_snap_state.pf h5))<|Aa tbk [] 2 R R<|Ad R R<|A3 z119 fun b5=>Ad R R<|An (i:=0) R R R ld119 R R R<|Ac<|VD.seq<|VD.df R R (Cd R R) R<|VD.seq<|VD.of<|Bn<|Ab R R (Aj R)<|Bl (Bi [0,4,0,0,0,0] R)<|Ad R R<|Av hm 2 R fn81 R (K71 _ _ _ _) fun r2 hm=>Ad R R<|An (i:=4) R R R ld50 R R R<|Ac<|VD.of<|C5<|FinD.c2 (.inl R) hm (Bi [5,2,2,2,0,0] R) 5 R (K72 _ _ _ _ _ _ _ _ _) fun r3 ob2 cap2 hm=> ?_
 obtain rfl:=Option.some.inj hm
 exact ⟨.inr R,_,.cons (.cell _ _ _ _ 3 _ _ _ _ R R ld50 R) .nil,[1,1,2],_,R,ob2,cap2,R,R⟩

/-! (*trireme/snap.Snap).Add -/
def snap_Snap_Add_x (s : T_snap_Snap) (m : T_api_Machine) : Option (Int × T_snap_Snap) :=
 (snap_Snap_change_snap_Snap_Add_1_x s m).bind fun r =>
 some (r.1, r.2)
theorem K74 (s : T_snap_Snap) (m : T_api_Machine) (b : Nat) (ob : Option Nat) (cap : Nat) : VS2 Tryz.prog 39 (snap_Snap_Add_x s m) [.ptr b 0, T_api_Machine.vv m] [.box b 96 [T_snap_state.pf s.now, Z93 ob s.kept cap, Iw s.tried], Q93 ob cap s.kept] (fun r ob0_1 cap0_1=>Iw r.1) (fun r ob0_1 cap0_1=>[.box b 96 [T_snap_state.pf r.2.now, Z93 ob0_1 r.2.kept cap0_1, Iw r.2.tried], Q93 ob0_1 cap0_1 r.2.kept]) := by
 refine Cf [.tmp 4] Tryz.func39 R R R fun r hm=>?_
 unfold snap_Snap_Add_x at hm
 exact Ai<|Ad R R<|Bg R R fun b2=>Ab R R (Ak R)<|Ac<|Ai<|Ab R R (Aj R)<|Ab R R (Cd R R)<|Bl (Bi [1,1,0] R)<|Ad R R<|B3 hm 3 R fn80 R (K73 _ _ _ _ _ _) fun r ob2 cap2 hm=>Ab R R (Ak R)<|Ac<|Rg2 hm R [0,0] ob2 cap2 (.cons (.tmp _ _ R) .nil) R R

/-! trireme/yard.Place$1 -/
def yard_Place_1 (i : Int) (a : List T_api_Bound) (a2 : ByteArray) : Option Bool :=
 (V.gl a i).bind fun x =>
 some (V.seq x.Pod.Name a2)
theorem K75 (i : Int) (a : List T_api_Bound) (a2 : ByteArray) (b : Nat) (b2 : Nat) : VS Tryz.prog 105 (yard_Place_1 i a a2) [Iw i, .ptr b 0, .ptr b2 0] [.box b 23 [L49 a], .box b2 9 [.str a2]] .bool (fun r=>[.box b 23 [L49 a], .box b2 9 [.str a2]]) := by
 refine A4 [.tmp 4] Tryz.func105 R R R fun r hm=>?_
 unfold yard_Place_1 at hm
 exact Ae tbk [] R R<|Af<|Be 0 mixed<|Aq tbk [0,1] [0] (by kernel_rfl) R R R<|Bd hm fun x h1 hm=>Ax 2 R R R (by kernel_rfl) (Bf T_api_Bound.vv R R el23 h1)<|Aq tbk [3,4,5,6,7,8] [1] (by kernel_rfl) R R R<|A0 (by kernel_rfl)<|Rt1 hm R [0,0] R R R

/-! trireme/yard.first -/
def yard_first_yard_Place_1.l1 (n : Int) (c : List T_api_Bound) (c2 : ByteArray) : Nat → Int → Option (Out Int Unit)
 | 0, _ => none
 | n2 + 1, v2 =>
  if (decide (v2 < n)) = true then
   (yard_Place_1 v2 c c2).bind fun r =>
   if r = true then
    some (Out.ret v2)
   else
    yard_first_yard_Place_1.l1 n c c2 n2 (i64.wrap (v2 + 1))
  else
   some (Out.go ())
def yard_first_yard_Place_1 (n : Int) (c : List T_api_Bound) (c2 : ByteArray) : Option Int :=
 (yard_first_yard_Place_1.l1 n c c2 FU (0 : Int)).bind fun o =>
 o.on fun j =>
 some (-1)
theorem K76 (n : Int) (c : List T_api_Bound) (c2 : ByteArray) (b : Nat) (b2 : Nat) : VS Tryz.prog 96 (yard_first_yard_Place_1 n c c2) [Iw n, .clo (.func 105) [] [.ptr b 0, .ptr b2 0]] [.box b 23 [L49 c], .box b2 9 [.str c2]] Iw (fun r=>[.box b 23 [L49 c], .box b2 9 [.str c2]]) := by
 refine A4 [.tmp 4] Dh R R R fun r hm=>?_
 unfold yard_first_yard_Place_1 at hm
 refine Ae tbk [] R R<|Af<|Ae tbk [] R R<|Bw hm (fun _ (_:Unit)=>[]) (fun _ (_:Unit)=>[.box b 23 [L49 c],.box b2 9 [.str c2]]) (fun o hm h2=>?_) fun j _ hm=> ?_
 ·refine B1 (fun zn (zs:Int)=>yard_first_yard_Place_1.l1 n c c2 zn zs) (fun zs (_:Unit)=>[(1,.clo (.func 105) [] [.ptr b 0,.ptr b2 0]),(6,Iw n),(7,Iw zs)]) (fun _ (_:Unit)=>[.box b 23 [L49 c],.box b2 9 [.str c2]]) _ () (fun _=>R) hm (Ag [0,0] R R) fun n2 v2 _ hm=> ?_
  rw [yard_first_yard_Place_1.l1] at hm
  exact Ae tbk [] R R<|Af<|Ao hm R (fun h3 hm=>Am<|Af<|A2<|Ae tbk [] R R<|Ai<|Aa tbk [] 2 R R<|Ad R R<|Av hm 2 R fn105 R (K75 _ _ _ _ _) fun r hm=>Ac<|Ao hm R (fun h5 hm=>Ae tbk [] R R<|have hm:=Lr hm h2;Rt1 hm R [0,0] R R R) fun h5 hm=>Am<|Bc tbk [] R R<|Ap _ () hm (Ag [0,0] R R)) fun h3 hm=>A7<|Ar () hm (Ag [0,0] R R)
 exact Ae tbk [] R R<|Rt1 hm R [0,0] R R R

/-! trireme/yard.Place -/
def yard_Place (bs : List T_api_Bound) (name : ByteArray) : Option Int :=
 (yard_first_yard_Place_1 (bs.length : Int) bs name).bind fun r =>
 some r
theorem K77 (bs : List T_api_Bound) (name : ByteArray) : VS Tryz.prog 54 (yard_Place bs name) [L49 bs, .str name] [] Iw N0 := by
 refine A4 [.tmp 4] Tryz.func54 R R R fun r hm=>?_
 unfold yard_Place at hm
 exact Ai<|Ad R R<|Bg R R fun b=>Ad R R<|Bg R R fun b2=>Ab R R (Ak R)<|Ac<|Ai<|Aa tbk [1] 1 R R<|Ab R R (Aw T_api_Bound.vv R Bq)<|Ab R R (Cd R R)<|Bl (Bi [1,0] R)<|Ad R R<|Av hm 2 R fn96 R (K76 _ _ _ _ _) fun r hm=>Ab R R (Ak R)<|Ac<|Rt1 hm R [] R R R

end Go.Proofs.YtmpkpnclmihdnaaGreat.M

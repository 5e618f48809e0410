/-
  Printed by a program of this session out of the loaded functions: models and their proofs. Own text.
-/
import Derived.Test.YtkondhigbbgidaaGreatDDT
namespace Go.Proofs.YtkondhigbbgidaaGreat.M
open Go Go.Proofs Go.Proofs.YtkondhigbbgidaaGreat.V
open Go.IntKind (i64)
set_option linter.unusedVariables false
set_option linter.unusedSimpArgs false
set_option maxRecDepth 20000
set_option maxHeartbeats 40000000
/-! trireme/triremeref05.Light -/
def ref05_Light.l1 (l : List T_api_Label) : Nat → Int → Option (Out Bool Unit)
 | 0, _ => none
 | n + 1, i2 =>
  if (decide (i2 < (l.length : Int))) = true then
   (V.gl l i2).bind fun x =>
   (if (decide ((x.Key.size : Int) > 300)) = true then some true else (V.gl l i2).bind fun x2 =>
   some (decide ((x2.Val.size : Int) > 300))).bind fun c =>
   if c = true then
    some (Out.ret false)
   else
    ref05_Light.l1 l n (i64.wrap (i2 + 1))
  else
   some (Out.go ())
def ref05_Light (l : List T_api_Label) : Option Bool :=
 if (decide ((l.length : Int) > 40)) = true then
  some false
 else
  (ref05_Light.l1 l FU (0 : Int)).bind fun o =>
  o.on fun j =>
  some true
theorem K34 (l : List T_api_Label) : VS Tryz.prog 42 (ref05_Light l) [L141 l] [] .bool N0 := by
 refine A6 [.tmp 2] Tryz.func42 R R R fun r hm=>?_
 unfold ref05_Light at hm
 refine Af tbk [] R R<|Ae<|Ah<|Aa R R (Ak R)<|Aa R R (A5 T_api_Label.vv R B4)<|Aa R R (Bc R R R)<|Ac<|Am hm R (fun h1 hm=>Af tbk [] R R<|Rt1 hm R [] R R R) fun h1 hm=>Ai<|Ae<|Af tbk [] R R<|B2 hm (fun _ (_:Unit)=>[]) (fun _ (_:Unit)=>[]) (fun o hm h3=>?_) fun j _ hm=> ?_
 ·refine B3 (fun zn (zs:Int)=>ref05_Light.l1 l zn zs) (fun zs (_:Unit)=>[(0,L141 l),(3,Iw zs)]) (fun _ (_:Unit)=>[]) _ () (fun _=>R) hm (Ag [] R R) fun n i2 _ hm=> ?_
  rw [ref05_Light.l1] at hm
  exact Ae<|Ah<|Ab tbk [] 2 R R<|Aa R R (A5 T_api_Label.vv R B4)<|Aa R R (Bc R R R)<|Ac<|Am hm R (fun h4 hm=>Ai<|Ae<|A1<|Ah<|Ab tbk [] 2 R R<|Bd hm fun x h5 hm=>Aa R R (A2 T_api_Label.vv R R el24 h5)<|Ab tbk [] 2 R R<|Aa R R (Ca R Av)<|Ab tbk [] 2 R R<|Bt hm 8 28 20 R (fun _ K' h6 J hm=>Ab tbk [] 8 R R<|J 7 R R (Bj hm)) (fun _ K' h6 J hm=>Ab tbk [] 2 R R<|Bd hm fun x2 h7 hm=>Bo R R R R R (A2 T_api_Label.vv R R el24 h7)<|Ab tbk [] 2 R R<|Bo R R R R R (Ca R Av)<|Ab tbk [] 2 R R<|J 7 R R (Bj hm)) fun c hm=>Ac<|Am hm R (fun h9 hm=>Af tbk [] R R<|have hm:=Lr hm h3;Rt1 hm R [] R R R) fun h9 hm=>Ai<|Bb tbk [] R R<|Ap _ () hm (Ag [] R R)) fun h4 hm=>Ba<|Ar () hm (Ag [] R R)
 exact Af tbk [] R R<|Rt1 hm R [] R R R

/-! trireme/triremeref06.Light -/
def ref06_Light.l1 (l : List T_api_Toleration) : Nat → Int → Option (Out Bool Unit)
 | 0, _ => none
 | n + 1, i2 =>
  if (decide (i2 < (l.length : Int))) = true then
   (V.gl l i2).bind fun x =>
   (if (decide ((x.Key.size : Int) > 300)) = true then some true else (V.gl l i2).bind fun x2 =>
   some (decide ((x2.Val.size : Int) > 300))).bind fun c =>
   if c = true then
    some (Out.ret false)
   else
    ref06_Light.l1 l n (i64.wrap (i2 + 1))
  else
   some (Out.go ())
def ref06_Light.l2 (taints : List T_api_Taint) : Nat → Int → Option (Out Bool Unit)
 | 0, _ => none
 | n2 + 1, i4 =>
  if (decide (i4 < (taints.length : Int))) = true then
   (V.gl taints i4).bind fun x3 =>
   (if (decide ((x3.Key.size : Int) > 300)) = true then some true else (V.gl taints i4).bind fun x4 =>
   some (decide ((x4.Val.size : Int) > 300))).bind fun c2 =>
   if c2 = true then
    some (Out.ret false)
   else
    ref06_Light.l2 taints n2 (i64.wrap (i4 + 1))
  else
   some (Out.go ())
def ref06_Light (l : List T_api_Toleration) (taints : List T_api_Taint) : Option Bool :=
 if ((decide ((l.length : Int) > 40)) || (decide ((taints.length : Int) > 40))) = true then
  some false
 else
  (ref06_Light.l1 l FU (0 : Int)).bind fun o =>
  o.on fun j =>
  (ref06_Light.l2 taints FU (0 : Int)).bind fun o2 =>
  o2.on fun j2 =>
  some true
theorem K35 (l : List T_api_Toleration) (taints : List T_api_Taint) : VS Tryz.prog 43 (ref06_Light l taints) [L83 l, L143 taints] [] .bool N0 := by
 refine A6 [.tmp 4] Tryz.func43 R R R fun r hm=>?_
 unfold ref06_Light at hm
 refine Af tbk [] R R<|Ae<|Ah<|Aa R R (Ak R)<|Aa R R (A5 T_api_Toleration.vv R C2)<|Ab tbk [] 2 R R<|C0 4 14 10 R (fun K' J=>Ab tbk [] 4 R R<|J 3 R R R) (fun h1 K' J=>Bo R R R R R (Ak R)<|Bo R R R R R (A5 T_api_Taint.vv R Co)<|Ab tbk [] 2 R R<|J 3 R R R)<|Ac<|Am hm R (fun h2 hm=>Af tbk [] R R<|Rt1 hm R [] R R R) fun h2 hm=>Ai<|Ae<|Af tbk [] R R<|B2 hm (fun _ (_:Unit)=>[(1,L143 taints)]) (fun _ (_:Unit)=>[]) (fun o hm h4=>?_) fun j _ hm=> ?_
 ·refine B3 (fun zn (zs:Int)=>ref06_Light.l1 l zn zs) (fun zs (_:Unit)=>[(0,L83 l),(1,L143 taints),(5,Iw zs)]) (fun _ (_:Unit)=>[]) _ () (fun _=>R) hm (Ag [] R R) fun n i2 _ hm=> ?_
  rw [ref06_Light.l1] at hm
  exact Ae<|Ah<|Ab tbk [] 2 R R<|Aa R R (A5 T_api_Toleration.vv R C2)<|Aa R R (Bc R R R)<|Ac<|Am hm R (fun h5 hm=>Ai<|Ae<|A1<|Ah<|Ab tbk [] 2 R R<|Bd hm fun x h6 hm=>Aa R R (A2 T_api_Toleration.vv R R el26 h6)<|Ab tbk [] 2 R R<|Aa R R (Ca R Av)<|Ab tbk [] 2 R R<|Bt hm 8 36 28 R (fun _ K' h7 J hm=>Ab tbk [] 8 R R<|J 7 R R (Bj hm)) (fun _ K' h7 J hm=>Ab tbk [] 2 R R<|Bd hm fun x2 h8 hm=>Bo R R R R R (A2 T_api_Toleration.vv R R el26 h8)<|Ab tbk [] 2 R R<|Bo R R R R R (Ca R Av)<|Ab tbk [] 2 R R<|J 7 R R (Bj hm)) fun c hm=>Ac<|Am hm R (fun h10 hm=>Af tbk [] R R<|have hm:=Lr hm h4;Rt1 hm R [] R R R) fun h10 hm=>Ai<|Bb tbk [] R R<|Ap _ () hm (Ag [] R R)) fun h5 hm=>Ba<|Ar () hm (Ag [] R R)
 refine Ae<|Af tbk [] R R<|B2 hm (fun _ (_:Unit)=>[]) (fun _ (_:Unit)=>[]) (fun o2 hm h12=>?_) fun j2 _ hm=> ?_
 ·refine B3 (fun zn (zs:Int)=>ref06_Light.l2 taints zn zs) (fun zs (_:Unit)=>[(1,L143 taints),(6,Iw zs)]) (fun _ (_:Unit)=>[]) _ () (fun _=>R) hm (Ag [] R R) fun n2 i4 _ hm=> ?_
  rw [ref06_Light.l2] at hm
  exact Ae<|Ah<|Ab tbk [] 2 R R<|Aa R R (A5 T_api_Taint.vv R Co)<|Aa R R (Bc R R R)<|Ac<|Am hm R (fun h13 hm=>Ai<|Ae<|A1<|Ah<|Ab tbk [] 2 R R<|Bd hm fun x3 h14 hm=>Aa R R (A2 T_api_Taint.vv R R el39 h14)<|Ab tbk [] 2 R R<|Aa R R (Ca R Av)<|Ab tbk [] 2 R R<|Bt hm 8 58 50 R (fun _ K' h15 J hm=>Ab tbk [] 8 R R<|J 7 R R (Bj hm)) (fun _ K' h15 J hm=>Ab tbk [] 2 R R<|Bd hm fun x4 h16 hm=>Bo R R R R R (A2 T_api_Taint.vv R R el39 h16)<|Ab tbk [] 2 R R<|Bo R R R R R (Ca R Av)<|Ab tbk [] 2 R R<|J 7 R R (Bj hm)) fun c2 hm=>Ac<|Am hm R (fun h18 hm=>Af tbk [] R R<|have hm:=Lr hm h12;Rt1 hm R [] R R R) fun h18 hm=>Ai<|Bb tbk [] R R<|Ap _ () hm (Ag [] R R)) fun h13 hm=>Ba<|Ar () hm (Ag [] R R)
 exact Af tbk [] R R<|Rt1 hm R [] R R R

/-! trireme/triremeref07.LightMachine -/
def ref07_LightMachine (m : T_api_Machine) : Option Bool :=
 (if ((decide ((m.Name.size : Int) ≤ 300)) && (decide ((m.Group.size : Int) ≤ 300))) = true then (ref05_Light m.Labels).bind fun r =>
 some r else some false).bind fun c =>
 (if c = true then (ref06_Light ([] : List T_api_Toleration) m.Taints).bind fun r2 =>
 some r2 else some false).bind fun c2 =>
 some c2
theorem K36 (m : T_api_Machine) : VS Tryz.prog 18 (ref07_LightMachine m) [T_api_Machine.vv m] [] .bool N0 := by
 refine A6 [.tmp 2] Tryz.func18 R R R fun r hm=>?_
 unfold ref07_LightMachine at hm
 exact Ah<|Ad R R<|Cd R R fun b=>Aa R R (Aj R)<|Ac<|Ah<|Ab tbk [0] 2 R R<|Aa R R (Ca R Av)<|Ab tbk [] 2 R R<|Df 5 12 7 R (fun h2 K' J=>Ab tbk [0] 2 R R<|Bo R R R R R (Ca R Av)<|Ab tbk [] 2 R R<|J 4 R R R) (fun K' J=>Ab tbk [] 5 R R<|J 4 R R R)<|Aa R R (Ak R)<|Bt hm 4 17 13 R (fun _ K' h3 J hm=>Ab tbk [0] 2 R R<|Bm R R R R R<|A0 hm 0 R fn42 R (K34 _) fun r hm=>Aa R R (Bh true R R R)<|J 3 R R (Bj hm)) (fun _ K' h3 J hm=>Ab tbk [] 4 R R<|J 3 R R (Bj hm)) fun c hm=>Aa R R (Ak R)<|Bt hm 4 22 18 R (fun _ K' h6 J hm=>Ab tbk [0] 2 R R<|Bm R R R R R<|VO.cn hm 0 [.nil 83,.same] R fn43 R (K35 _ _) fun r2 hm=>Aa R R (Bh true R R R)<|J 3 R R (Bj hm)) (fun _ K' h6 J hm=>Ab tbk [] 4 R R<|J 3 R R (Bj hm)) fun c2 hm=>Aa R R (Aj R)<|Ac<|Rt1 hm R [] R R R

/-! trireme/triremeref05.LightTerm -/
def ref05_LightTerm.l1 (t : T_api_Term) : Nat → Int → Option (Out Bool Unit)
 | 0, _ => none
 | n + 1, i2 =>
  if (decide (i2 < (t.Vals.length : Int))) = true then
   (V.gl t.Vals i2).bind fun x =>
   if (decide ((x.size : Int) > 300)) = true then
    some (Out.ret false)
   else
    ref05_LightTerm.l1 t n (i64.wrap (i2 + 1))
  else
   some (Out.go ())
def ref05_LightTerm (t : T_api_Term) : Option Bool :=
 if ((decide ((t.Vals.length : Int) > 40)) || (decide ((t.Key.size : Int) > 300))) = true then
  some false
 else
  (ref05_LightTerm.l1 t FU (0 : Int)).bind fun o =>
  o.on fun j =>
  some true
theorem K37 (t : T_api_Term) : VS Tryz.prog 44 (ref05_LightTerm t) [T_api_Term.vv t] [] .bool N0 := by
 refine A6 [.tmp 2] Tryz.func44 R R R fun r hm=>?_
 unfold ref05_LightTerm at hm
 refine Ah<|Ad R R<|Cd R R fun b=>Aa R R (Aj R)<|Ac<|Ae<|Ah<|Ab tbk [0] 2 R R<|Aa R R (A5 VV.str R B0)<|Ab tbk [] 2 R R<|C0 5 13 8 R (fun K' J=>Ab tbk [] 5 R R<|J 4 R R R) (fun h2 K' J=>Ab tbk [0] 2 R R<|Bo R R R R R (Ca R Av)<|Ab tbk [] 2 R R<|J 4 R R R)<|Ac<|Am hm R (fun h3 hm=>Af tbk [] R R<|Rt1 hm R [] R R R) fun h3 hm=>Ai<|Ae<|Af tbk [] R R<|B2 hm (fun _ (_:Unit)=>[]) (fun _ (_:Unit)=>[]) (fun o hm h5=>?_) fun j _ hm=> ?_
 ·refine B3 (fun zn (zs:Int)=>ref05_LightTerm.l1 t zn zs) (fun zs (_:Unit)=>[(1,.ptr b 0),(3,Iw zs)]) (fun _ (_:Unit)=>[X73 b t]) _ () (fun _=>R) hm (Ag [0] R R) fun n i2 _ hm=> ?_
  rw [ref05_LightTerm.l1] at hm
  exact Ae<|Ah<|Ab tbk [0] 3 R R<|Aa R R (A5 VV.str R B0)<|Aa R R (Bc R R R)<|Ac<|Am hm R (fun h6 hm=>Ai<|Ae<|A1<|Ah<|Ab tbk [0] 3 R R<|Bd hm fun x h7 hm=>Aa R R (A2 VV.str R R el65 h7)<|Aa R R (Bl R ld9 R)<|Aa R R (Ca R Av)<|Aa R R (Bc R R R)<|Ac<|Am hm R (fun h8 hm=>Af tbk [] R R<|have hm:=Lr hm h5;Rt1 hm R [] R R R) fun h8 hm=>Ai<|Bb tbk [] R R<|Ap _ () hm (Ag [0] R R)) fun h6 hm=>Ba<|Ar () hm (Ag [] R R)
 exact Af tbk [] R R<|Rt1 hm R [] R R R

/-! trireme/triremeref07.LightPod -/
def ref07_LightPod.l1 (p : T_api_Pod) : Nat → Int → Option (Out Bool Unit)
 | 0, _ => none
 | n + 1, i2 =>
  if (decide (i2 < (p.Terms.length : Int))) = true then
   (V.gl p.Terms i2).bind fun x =>
   (ref05_LightTerm x).bind fun r6 =>
   if (!r6) = true then
    some (Out.ret false)
   else
    ref07_LightPod.l1 p n (i64.wrap (i2 + 1))
  else
   some (Out.go ())
def ref07_LightPod (p : T_api_Pod) : Option Bool :=
 (if ((((decide ((p.Name.size : Int) > 300)) || (decide ((p.Owner.size : Int) > 300))) || (decide ((p.Terms.length : Int) > 30))) || (decide ((p.Ports.length : Int) > 30))) = true then some true else (ref05_Light p.Labels).bind fun r =>
 some (!r)).bind fun c =>
 (if c = true then some true else (ref05_Light p.Select).bind fun r2 =>
 some (!r2)).bind fun c2 =>
 (if c2 = true then some true else (ref05_Light p.Apart).bind fun r3 =>
 some (!r3)).bind fun c3 =>
 (if c3 = true then some true else (ref05_Light p.Spread).bind fun r4 =>
 some (!r4)).bind fun c4 =>
 (if c4 = true then some true else (ref06_Light p.Bears ([] : List T_api_Taint)).bind fun r5 =>
 some (!r5)).bind fun c5 =>
 if c5 = true then
  some false
 else
  (ref07_LightPod.l1 p FU (0 : Int)).bind fun o =>
  o.on fun j =>
  some true
theorem K38 (p : T_api_Pod) : VS Tryz.prog 9 (ref07_LightPod p) [T_api_Pod.vv p] [] .bool N0 := by
 refine A6 [.tmp 2] Tryz.func9 R R R fun r hm=>?_
 unfold ref07_LightPod at hm
 refine Ah<|Ad R R<|Cd R R fun b=>Aa R R (Aj R)<|Ac<|Ae<|Ah<|Ab tbk [0] 2 R R<|Aa R R (Ca R Av)<|Ab tbk [] 2 R R<|C0 5 13 8 R (fun K' J=>Ab tbk [] 5 R R<|J 4 R R R) (fun h2 K' J=>Ab tbk [0] 2 R R<|Bo R R R R R (Ca R Av)<|Ab tbk [] 2 R R<|J 4 R R R)<|Aa R R (Ak R)<|C0 5 19 14 R (fun K' J=>Ab tbk [] 5 R R<|J 4 R R R) (fun h3 K' J=>Ab tbk [0] 2 R R<|Bo R R R R R (A5 T_api_Term.vv R Cu)<|Ab tbk [] 2 R R<|J 4 R R R)<|Aa R R (Ak R)<|C0 5 25 20 R (fun K' J=>Ab tbk [] 5 R R<|J 4 R R R) (fun h4 K' J=>Ab tbk [0] 2 R R<|Bo R R R R R (A5 (VV.int .i64) R Bn)<|Ab tbk [] 2 R R<|J 4 R R R)<|Aa R R (Ak R)<|Bt hm 5 31 26 R (fun _ K' h5 J hm=>Ab tbk [] 5 R R<|J 4 R R (Bj hm)) (fun _ K' h5 J hm=>Ab tbk [0] 2 R R<|Bm R R R R R<|A0 hm 0 R fn42 R (K34 _) fun r hm=>Ab tbk [] 2 R R<|J 4 R R (Bj hm)) fun c hm=>Aa R R (Ak R)<|Bt hm 5 37 32 R (fun _ K' h8 J hm=>Ab tbk [] 5 R R<|J 4 R R (Bj hm)) (fun _ K' h8 J hm=>Ab tbk [0] 2 R R<|Bm R R R R R<|A0 hm 0 R fn42 R (K34 _) fun r2 hm=>Ab tbk [] 2 R R<|J 4 R R (Bj hm)) fun c2 hm=>Aa R R (Ak R)<|Bt hm 5 43 38 R (fun _ K' h11 J hm=>Ab tbk [] 5 R R<|J 4 R R (Bj hm)) (fun _ K' h11 J hm=>Ab tbk [0] 2 R R<|Bm R R R R R<|A0 hm 0 R fn42 R (K34 _) fun r3 hm=>Ab tbk [] 2 R R<|J 4 R R (Bj hm)) fun c3 hm=>Aa R R (Ak R)<|Bt hm 5 49 44 R (fun _ K' h14 J hm=>Ab tbk [] 5 R R<|J 4 R R (Bj hm)) (fun _ K' h14 J hm=>Ab tbk [0] 2 R R<|Bm R R R R R<|A0 hm 0 R fn42 R (K34 _) fun r4 hm=>Ab tbk [] 2 R R<|J 4 R R (Bj hm)) fun c4 hm=>Aa R R (Ak R)<|Bt hm 5 55 50 R (fun _ K' h17 J hm=>Ab tbk [] 5 R R<|J 4 R R (Bj hm)) (fun _ K' h17 J hm=>Ab tbk [0] 2 R R<|Bm R R R R R<|VO.cn hm 0 [.same,.nil 143] R fn43 R (K35 _ _) fun r5 hm=>Ab tbk [] 2 R R<|J 4 R R (Bj hm)) fun c5 hm=>Ac<|Am hm R (fun h20 hm=>Af tbk [] R R<|Rt1 hm R [] R R R) fun h20 hm=>Ai<|Ae<|Af tbk [] R R<|B2 hm (fun _ (_:Unit)=>[]) (fun _ (_:Unit)=>[]) (fun o hm h22=>?_) fun j _ hm=> ?_
 ·refine B3 (fun zn (zs:Int)=>ref07_LightPod.l1 p zn zs) (fun zs (_:Unit)=>[(1,.ptr b 0),(3,Iw zs)]) (fun _ (_:Unit)=>[X29 b p]) _ () (fun _=>R) hm (Ag [0] R R) fun n i2 _ hm=> ?_
  rw [ref07_LightPod.l1] at hm
  exact Ae<|Ah<|Ab tbk [0] 3 R R<|Aa R R (A5 T_api_Term.vv R Cu)<|Aa R R (Bc R R R)<|Ac<|Am hm R (fun h23 hm=>Ai<|Ae<|A1<|Ah<|Ab tbk [0] 3 R R<|Bd hm fun x h24 hm=>Aa R R (A2 T_api_Term.vv R R el25 h24)<|Aa R R (Bl R ld73 R)<|Ad R R<|A0 hm 0 R fn44 R (K37 _) fun r6 hm=>Aa R R (C1 R)<|Ac<|Am hm R (fun h26 hm=>Af tbk [] R R<|have hm:=Lr hm h22;Rt1 hm R [] R R R) fun h26 hm=>Ai<|Bb tbk [] R R<|Ap _ () hm (Ag [0] R R)) fun h23 hm=>Ba<|Ar () hm (Ag [] R R)
 exact Af tbk [] R R<|Rt1 hm R [] R R R

/-! trireme/triremeref09.Light -/
def ref09_Light.l1 (ms : List T_api_Machine) : Nat → Int → Option (Out Bool Unit)
 | 0, _ => none
 | n + 1, i2 =>
  if (decide (i2 < (ms.length : Int))) = true then
   (V.gl ms i2).bind fun x =>
   (ref07_LightMachine x).bind fun r =>
   if (!r) = true then
    some (Out.ret false)
   else
    ref09_Light.l1 ms n (i64.wrap (i2 + 1))
  else
   some (Out.go ())
def ref09_Light.l2 (bs : List T_api_Bound) : Nat → Int → Option (Out Bool Unit)
 | 0, _ => none
 | n2 + 1, i4 =>
  if (decide (i4 < (bs.length : Int))) = true then
   (V.gl bs i4).bind fun x2 =>
   (ref07_LightPod x2.Pod).bind fun r2 =>
   (if (!r2) = true then some true else (V.gl bs i4).bind fun x3 =>
   some (decide ((x3.On.size : Int) > 300))).bind fun c =>
   if c = true then
    some (Out.ret false)
   else
    ref09_Light.l2 bs n2 (i64.wrap (i4 + 1))
  else
   some (Out.go ())
def ref09_Light (ms : List T_api_Machine) (bs : List T_api_Bound) : Option Bool :=
 if ((decide ((ms.length : Int) > 20)) || (decide ((bs.length : Int) > 40))) = true then
  some false
 else
  (ref09_Light.l1 ms FU (0 : Int)).bind fun o =>
  o.on fun j =>
  (ref09_Light.l2 bs FU (0 : Int)).bind fun o2 =>
  o2.on fun j2 =>
  some true
theorem K39 (ms : List T_api_Machine) (bs : List T_api_Bound) : VS Tryz.prog 31 (ref09_Light ms bs) [L41 ms, L121 bs] [] .bool N0 := by
 refine A6 [.tmp 4] Tryz.func31 R R R fun r hm=>?_
 unfold ref09_Light at hm
 refine Af tbk [] R R<|Ae<|Ah<|Aa R R (Ak R)<|Aa R R (A5 T_api_Machine.vv R B5)<|Ab tbk [] 2 R R<|C0 4 14 10 R (fun K' J=>Ab tbk [] 4 R R<|J 3 R R R) (fun h1 K' J=>Bo R R R R R (Ak R)<|Bo R R R R R (A5 T_api_Bound.vv R Bz)<|Ab tbk [] 2 R R<|J 3 R R R)<|Ac<|Am hm R (fun h2 hm=>Af tbk [] R R<|Rt1 hm R [] R R R) fun h2 hm=>Ai<|Ae<|Af tbk [] R R<|B2 hm (fun _ (_:Unit)=>[(1,L121 bs)]) (fun _ (_:Unit)=>[]) (fun o hm h4=>?_) fun j _ hm=> ?_
 ·refine B3 (fun zn (zs:Int)=>ref09_Light.l1 ms zn zs) (fun zs (_:Unit)=>[(0,L41 ms),(1,L121 bs),(5,Iw zs)]) (fun _ (_:Unit)=>[]) _ () (fun _=>R) hm (Ag [] R R) fun n i2 _ hm=> ?_
  rw [ref09_Light.l1] at hm
  exact Ae<|Ah<|Ab tbk [] 2 R R<|Aa R R (A5 T_api_Machine.vv R B5)<|Aa R R (Bc R R R)<|Ac<|Am hm R (fun h5 hm=>Ai<|Ae<|A1<|Ah<|Ab tbk [] 2 R R<|Bd hm fun x h6 hm=>Aa R R (A2 T_api_Machine.vv R R el54 h6)<|Aa R R (Bl R ld41 R)<|Ad R R<|A0 hm 0 R fn18 R (K36 _) fun r hm=>Aa R R (C1 R)<|Ac<|Am hm R (fun h8 hm=>Af tbk [] R R<|have hm:=Lr hm h4;Rt1 hm R [] R R R) fun h8 hm=>Ai<|Bb tbk [] R R<|Ap _ () hm (Ag [] R R)) fun h5 hm=>Ba<|Ar () hm (Ag [] R R)
 refine Ae<|Af tbk [] R R<|B2 hm (fun _ (_:Unit)=>[]) (fun _ (_:Unit)=>[]) (fun o2 hm h10=>?_) fun j2 _ hm=> ?_
 ·refine B3 (fun zn (zs:Int)=>ref09_Light.l2 bs zn zs) (fun zs (_:Unit)=>[(1,L121 bs),(6,Iw zs)]) (fun _ (_:Unit)=>[]) _ () (fun _=>R) hm (Ag [] R R) fun n2 i4 _ hm=> ?_
  rw [ref09_Light.l2] at hm
  exact Ae<|Ah<|Ab tbk [] 2 R R<|Aa R R (A5 T_api_Bound.vv R Bz)<|Aa R R (Bc R R R)<|Ac<|Am hm R (fun h11 hm=>Ai<|Ae<|A1<|Ah<|Ab tbk [] 2 R R<|Bd hm fun x2 h12 hm=>Aa R R (A2 T_api_Bound.vv R R el55 h12)<|Ab tbk [] 2 R R<|Ad R R<|A0 hm 0 R fn9 R (K38 _) fun r2 hm=>Ab tbk [] 2 R R<|Bt hm 8 48 40 R (fun _ K' h14 J hm=>Ab tbk [] 8 R R<|J 7 R R (Bj hm)) (fun _ K' h14 J hm=>Ab tbk [] 2 R R<|Bd hm fun x3 h15 hm=>Bo R R R R R (A2 T_api_Bound.vv R R el55 h15)<|Ab tbk [] 2 R R<|Bo R R R R R (Ca R Av)<|Ab tbk [] 2 R R<|J 7 R R (Bj hm)) fun c hm=>Ac<|Am hm R (fun h17 hm=>Af tbk [] R R<|have hm:=Lr hm h10;Rt1 hm R [] R R R) fun h17 hm=>Ai<|Bb tbk [] R R<|Ap _ () hm (Ag [] R R)) fun h11 hm=>Ba<|Ar () hm (Ag [] R R)
 exact Af tbk [] R R<|Rt1 hm R [] R R R

/-! trireme/triremeref01.more -/
def ref01_more (s : ByteArray) (i : Int) : Option Bool :=
 (if (decide (i < (s.size : Int))) = true then (V.gi s i).bind fun v =>
 some (decide (v ≥ 128)) else some false).bind fun c =>
 (if c = true then (V.gi s i).bind fun v2 =>
 some (decide (v2 < 192)) else some false).bind fun c2 =>
 some c2
theorem K40 (s : ByteArray) (i : Int) : VS Tryz.prog 160 (ref01_more s i) [.str s, Iw i] [] .bool N0 := by
 refine A6 [.tmp 4] Tryz.func160 R R R fun r hm=>?_
 unfold ref01_more at hm
 exact Af tbk [] R R<|Ah<|Ab tbk [] 2 R R<|Aa R R (Ca R Av)<|Ab tbk [] 2 R R<|Bt hm 5 14 9 R (fun _ K' h1 J hm=>Ab tbk [] 2 R R<|Bd hm fun v h2 hm=>Bo R R R R R (Cr R R Av h2)<|Ab tbk [] 2 R R<|J 4 R R (Bj hm)) (fun _ K' h1 J hm=>Ab tbk [] 5 R R<|J 4 R R (Bj hm)) fun c hm=>Aa R R (Ak R)<|Bt hm 5 20 15 R (fun _ K' h4 J hm=>Ab tbk [] 2 R R<|Bd hm fun v2 h5 hm=>Bo R R R R R (Cr R R Av h5)<|Ab tbk [] 2 R R<|J 4 R R (Bj hm)) (fun _ K' h4 J hm=>Ab tbk [] 5 R R<|J 4 R R (Bj hm)) fun c2 hm=>Aa R R (Aj R)<|Ac<|Rt1 hm R [] R R R

/-! trireme/triremeref01.Rune -/
def ref01_Rune (s : ByteArray) (i : Int) : Option (Int × Int) :=
 (V.gi s i).bind fun v =>
 if (decide ((i64.wrap v) < 128)) = true then
  some ((i64.wrap v), 1)
 else
  (if ((decide ((i64.wrap v) ≥ 192)) && (decide ((i64.wrap v) < 224))) = true then (ref01_more s (i64.wrap (i + 1))).bind fun r =>
  some r else some false).bind fun c =>
  if c = true then
   (V.gi s (i64.wrap (i + 1))).bind fun v2 =>
   if (decide ((i64.wrap ((i64.wrap ((i64.wrap ((i64.wrap ((i64.wrap v) - 192)) * 64)) + (i64.wrap v2))) - 128)) ≥ 128)) = true then
    some ((i64.wrap ((i64.wrap ((i64.wrap ((i64.wrap ((i64.wrap v) - 192)) * 64)) + (i64.wrap v2))) - 128)), 2)
   else
    some (0, 0)
  else
   (if ((decide ((i64.wrap v) ≥ 224)) && (decide ((i64.wrap v) < 240))) = true then (ref01_more s (i64.wrap (i + 1))).bind fun r2 =>
   some r2 else some false).bind fun c2 =>
   (if c2 = true then (ref01_more s (i64.wrap (i + 2))).bind fun r3 =>
   some r3 else some false).bind fun c3 =>
   if c3 = true then
    (V.gi s (i64.wrap (i + 1))).bind fun v3 =>
    (V.gi s (i64.wrap (i + 2))).bind fun v4 =>
    if ((decide ((i64.wrap ((i64.wrap ((i64.wrap ((i64.wrap ((i64.wrap ((i64.wrap v) - 224)) * 4096)) + (i64.wrap ((i64.wrap ((i64.wrap v3) - 128)) * 64)))) + (i64.wrap v4))) - 128)) ≥ 2048)) && ((decide ((i64.wrap ((i64.wrap ((i64.wrap ((i64.wrap ((i64.wrap ((i64.wrap v) - 224)) * 4096)) + (i64.wrap ((i64.wrap ((i64.wrap v3) - 128)) * 64)))) + (i64.wrap v4))) - 128)) < 55296)) || (decide ((i64.wrap ((i64.wrap ((i64.wrap ((i64.wrap ((i64.wrap ((i64.wrap v) - 224)) * 4096)) + (i64.wrap ((i64.wrap ((i64.wrap v3) - 128)) * 64)))) + (i64.wrap v4))) - 128)) > 57343)))) = true then
     some ((i64.wrap ((i64.wrap ((i64.wrap ((i64.wrap ((i64.wrap ((i64.wrap v) - 224)) * 4096)) + (i64.wrap ((i64.wrap ((i64.wrap v3) - 128)) * 64)))) + (i64.wrap v4))) - 128)), 3)
    else
     some (0, 0)
   else
    (if ((decide ((i64.wrap v) ≥ 240)) && (decide ((i64.wrap v) < 248))) = true then (ref01_more s (i64.wrap (i + 1))).bind fun r4 =>
    some r4 else some false).bind fun c4 =>
    (if c4 = true then (ref01_more s (i64.wrap (i + 2))).bind fun r5 =>
    some r5 else some false).bind fun c5 =>
    (if c5 = true then (ref01_more s (i64.wrap (i + 3))).bind fun r6 =>
    some r6 else some false).bind fun c6 =>
    if c6 = true then
     (V.gi s (i64.wrap (i + 1))).bind fun v5 =>
     (V.gi s (i64.wrap (i + 2))).bind fun v6 =>
     (V.gi s (i64.wrap (i + 3))).bind fun v7 =>
     if ((decide ((i64.wrap ((i64.wrap ((i64.wrap ((i64.wrap ((i64.wrap ((i64.wrap ((i64.wrap v) - 240)) * 262144)) + (i64.wrap ((i64.wrap ((i64.wrap v5) - 128)) * 4096)))) + (i64.wrap ((i64.wrap ((i64.wrap v6) - 128)) * 64)))) + (i64.wrap v7))) - 128)) ≥ 65536)) && (decide ((i64.wrap ((i64.wrap ((i64.wrap ((i64.wrap ((i64.wrap ((i64.wrap ((i64.wrap v) - 240)) * 262144)) + (i64.wrap ((i64.wrap ((i64.wrap v5) - 128)) * 4096)))) + (i64.wrap ((i64.wrap ((i64.wrap v6) - 128)) * 64)))) + (i64.wrap v7))) - 128)) ≤ 1114111))) = true then
      some ((i64.wrap ((i64.wrap ((i64.wrap ((i64.wrap ((i64.wrap ((i64.wrap ((i64.wrap v) - 240)) * 262144)) + (i64.wrap ((i64.wrap ((i64.wrap v5) - 128)) * 4096)))) + (i64.wrap ((i64.wrap ((i64.wrap v6) - 128)) * 64)))) + (i64.wrap v7))) - 128)), 4)
     else
      some (0, 0)
    else
     some (0, 0)
theorem K41 (s : ByteArray) (i : Int) : VS Tryz.prog 116 (ref01_Rune s i) [.str s, Iw i] [] (fun r=>.tup [Iw r.1, Iw r.2]) N0 := by
 refine A6 [.tmp 4,.tmp 5] Tryz.func116 R R R fun r hm=>?_
 unfold ref01_Rune at hm
 refine Af tbk [] R R<|Ah<|Ab tbk [] 2 R R<|Bd hm fun v h1 hm=>Aa R R (Cr R R Av h1)<|Aa R R (Cf Bq Bx R)<|Aa R R (Aj R)<|Ac<|Ae<|A1<|Af tbk [] R R<|Am hm R (fun h2 hm=>Af tbk [] R R<|Rt2 hm R [] R R R R) fun h2 hm=>Ah<|Ab tbk [] 3 R R<|Ce tbk [] 3 24 21 R R R R R<|Aa R R (Ak R)<|Bt hm 5 30 25 R (fun _ K' h4 J hm=>Ab tbk [] 3 R R<|Bm R R R R R<|A0 hm 0 R fn160 R (K40 _ _) fun r hm=>Aa R R (Bh true R R R)<|J 4 R R (Bj hm)) (fun _ K' h4 J hm=>Ab tbk [] 5 R R<|J 4 R R (Bj hm)) fun c hm=>Aa R R (Aj R)<|Ac<|Am hm R (fun h7 hm=>Ah<|Ab tbk [] 6 R R<|Bd hm fun v2 h8 hm=>Aa R R (Cr R R Av h8)<|Aa R R (Cf Bq Bx R)<|Ab tbk [] 3 R R<|Ac<|Af tbk [] R R<|Am hm R (fun h9 hm=>Af tbk [] R R<|Rt2 hm R [] R R R R) fun h9 hm=>Ai<|Af tbk [] R R<|Rt2 hm R [] R R R R) fun h7 hm=>Ah<|Ab tbk [] 3 R R<|Ce tbk [] 3 50 47 R R R R R<|Aa R R (Ak R)<|Bt hm 5 56 51 R (fun _ K' h11 J hm=>Ab tbk [] 3 R R<|Bm R R R R R<|A0 hm 0 R fn160 R (K40 _ _) fun r2 hm=>Aa R R (Bh true R R R)<|J 4 R R (Bj hm)) (fun _ K' h11 J hm=>Ab tbk [] 5 R R<|J 4 R R (Bj hm)) fun c2 hm=>Aa R R (Ak R)<|Bt hm 5 62 57 R (fun _ K' h14 J hm=>Ab tbk [] 3 R R<|Bm R R R R R<|A0 hm 0 R fn160 R (K40 _ _) fun r3 hm=>Aa R R (Bh true R R R)<|J 4 R R (Bj hm)) (fun _ K' h14 J hm=>Ab tbk [] 5 R R<|J 4 R R (Bj hm)) fun c3 hm=>Aa R R (Aj R)<|Ac<|Am hm R (fun h17 hm=>Ae<|A4 0 mixed<|An tbk [0,1,2,3,4,5] [] (by kernel_rfl) R R R<|Bd hm fun v3 h18 hm=>Aq 6 R R R (by kernel_rfl) (Cr R R Av h18)<|Aq 7 R R R (by kernel_rfl) (Cf Bq Bx R)<|An tbk [8,9,10,11,12,13] [] (by kernel_rfl) R R R<|Bd hm fun v4 h19 hm=>Aq 14 R R R (by kernel_rfl) (Cr R R Av h19)<|Aq 15 R R R (by kernel_rfl) (Cf Bq Bx R)<|An tbk [16,17,18] [] (by kernel_rfl) R R R<|Ay (by kernel_rfl)<|Ah<|Ab tbk [] 3 R R<|Df 7 90 83 R (fun h20 K' J=>Ab tbk [] 3 R R<|Cy tbk [] 3 89 86 R R R R R<|Aa R R (Bh true R R R)<|J 4 R R R) (fun K' J=>Ab tbk [] 7 R R<|J 6 R R R)<|Ac<|Am hm R (fun h22 hm=>Af tbk [] R R<|Rt2 hm R [] R R R R) fun h22 hm=>Ai<|Af tbk [] R R<|Rt2 hm R [] R R R R) fun h17 hm=>Ah<|Ab tbk [] 3 R R<|Ce tbk [] 3 98 95 R R R R R<|Aa R R (Ak R)<|Bt hm 5 104 99 R (fun _ K' h24 J hm=>Ab tbk [] 3 R R<|Bm R R R R R<|A0 hm 0 R fn160 R (K40 _ _) fun r4 hm=>Aa R R (Bh true R R R)<|J 4 R R (Bj hm)) (fun _ K' h24 J hm=>Ab tbk [] 5 R R<|J 4 R R (Bj hm)) fun c4 hm=>Aa R R (Ak R)<|?_
 exact Bt hm 5 110 105 R (fun _ K' h27 J hm=>Ab tbk [] 3 R R<|Bm R R R R R<|A0 hm 0 R fn160 R (K40 _ _) fun r5 hm=>Aa R R (Bh true R R R)<|J 4 R R (Bj hm)) (fun _ K' h27 J hm=>Ab tbk [] 5 R R<|J 4 R R (Bj hm)) fun c5 hm=>Aa R R (Ak R)<|Bt hm 5 116 111 R (fun _ K' h30 J hm=>Ab tbk [] 3 R R<|Bm R R R R R<|A0 hm 0 R fn160 R (K40 _ _) fun r6 hm=>Aa R R (Bh true R R R)<|J 4 R R (Bj hm)) (fun _ K' h30 J hm=>Ab tbk [] 5 R R<|J 4 R R (Bj hm)) fun c6 hm=>Aa R R (Aj R)<|Ac<|Am hm R (fun h33 hm=>Ae<|A4 0 mixed<|An tbk [0,1,2,3,4,5] [] (by kernel_rfl) R R R<|Bd hm fun v5 h34 hm=>Aq 6 R R R (by kernel_rfl) (Cr R R Av h34)<|Aq 7 R R R (by kernel_rfl) (Cf Bq Bx R)<|An tbk [8,9,10,11,12,13] [] (by kernel_rfl) R R R<|Bd hm fun v6 h35 hm=>Aq 14 R R R (by kernel_rfl) (Cr R R Av h35)<|Aq 15 R R R (by kernel_rfl) (Cf Bq Bx R)<|An tbk [16,17,18,19,20,21] [] (by kernel_rfl) R R R<|Bd hm fun v7 h36 hm=>Aq 22 R R R (by kernel_rfl) (Cr R R Av h36)<|Aq 23 R R R (by kernel_rfl) (Cf Bq Bx R)<|An tbk [24,25,26] [] (by kernel_rfl) R R R<|Ay (by kernel_rfl)<|Ah<|Ab tbk [] 3 R R<|Ce tbk [] 3 148 145 R R R R R<|Ac<|Am hm R (fun h38 hm=>Af tbk [] R R<|Rt2 hm R [] R R R R) fun h38 hm=>Ai<|Af tbk [] R R<|Rt2 hm R [] R R R R) fun h33 hm=>Ai<|Af tbk [] R R<|Rt2 hm R [] R R R R

/-! trireme/triremeref01.plain -/
def ref01_plain (c : Int) : Option Bool :=
 some ((((((decide (c > 32)) && (c != 127)) && (c != 40)) && (c != 41)) && (c != 34)) && (c != 59))
theorem K42 (c : Int) : VS Tryz.prog 117 (ref01_plain c) [Iw c] [] .bool N0 := by
 refine A6 [.tmp 2] Tryz.func117 R R R fun r hm=>?_
 unfold ref01_plain at hm
 exact Af tbk [] R R<|Ah<|Ab tbk [] 3 R R<|Ce tbk [] 3 8 5 R R R R R<|Aa R R (Ak R)<|Ce tbk [] 3 12 9 R R R R R<|Aa R R (Ak R)<|Ce tbk [] 3 16 13 R R R R R<|Aa R R (Ak R)<|Ce tbk [] 3 20 17 R R R R R<|Aa R R (Ak R)<|Ce tbk [] 3 24 21 R R R R R<|Aa R R (Aj R)<|Ac<|Rt1 hm R [] R R R

/-! trireme/triremeref01.Word -/
def ref01_Word.l1 (s : ByteArray) : Nat → Int → Int → Option (Out Bool Int)
 | 0, _, _ => none
 | n4 + 1, n2, i2 =>
  if (decide (i2 < (s.size : Int))) = true then
   (ref01_Rune s i2).bind fun r =>
   (if (r.2 == 0) = true then some true else (ref01_plain r.1).bind fun r2 =>
   some (!r2)).bind fun c =>
   if c = true then
    some (Out.ret false)
   else
    ref01_Word.l1 s n4 (i64.wrap (n2 + 1)) (i64.wrap (i2 + r.2))
  else
   some (Out.go n2)
def ref01_Word (s : ByteArray) : Option Bool :=
 (ref01_Word.l1 s FU 0 (0 : Int)).bind fun o =>
 o.on fun n32 =>
 some ((decide (n32 ≥ 1)) && (decide (n32 ≤ 64)))
theorem K43 (s : ByteArray) : VS Tryz.prog 60 (ref01_Word s) [.str s] [] .bool N0 := by
 refine A6 [.tmp 2] Tryz.func60 R R R fun r hm=>?_
 unfold ref01_Word at hm
 refine Af tbk [] R R<|Af tbk [] R R<|Ae<|Af tbk [] R R<|B2 hm (fun n32 (_:Unit)=>[(3,Iw n32)]) (fun _ (_:Unit)=>[]) (fun o hm h2=>?_) fun n32 _ hm=> ?_
 ·refine B3 (fun zn (zs:Int × Int)=>ref01_Word.l1 s zn zs.1 zs.2) (fun zs (_:Unit)=>[(0,.str s),(3,Iw zs.1),(4,Iw zs.2)]) (fun _ (_:Unit)=>[]) ((0 : Int),(0 : Int)) () (fun _=>R) hm (Ag [] R R) fun n4=>Pq fun n2 i2 _ hm=> ?_
  rw [ref01_Word.l1] at hm
  exact Ae<|Ah<|Ab tbk [] 2 R R<|Aa R R (Ca R Av)<|Aa R R (Bc R R R)<|Ac<|Am hm R (fun h3 hm=>Ai<|A1<|Ah<|Ab tbk [] 2 R R<|Ad R R<|A0 hm 0 R fn116 R (K41 _ _) fun r hm=>Ab tbk [] 5 R R<|Ac<|Ae<|Ah<|Ab tbk [] 3 R R<|Bt hm 4 23 19 R (fun _ K' h5 J hm=>Ab tbk [] 4 R R<|J 3 R R (Bj hm)) (fun _ K' h5 J hm=>Bo R R R R R (Ak R)<|Bm R R R R R<|A0 hm 0 R fn117 R (K42 _) fun r2 hm=>Ab tbk [] 2 R R<|J 3 R R (Bj hm)) fun c hm=>Ac<|Am hm R (fun h8 hm=>Af tbk [] R R<|have hm:=Lr hm h2;Rt1 hm R [] R R R) fun h8 hm=>Ai<|Af tbk [] R R<|Bb tbk [] R R<|Ap ((IntKind.i64.wrap (n2 + (1 : Int))),(IntKind.i64.wrap (i2 + r.2))) () hm (Ag [] R R)) fun h3 hm=>Ba<|Ar () hm (Ag [] R R)
 exact Ah<|Ab tbk [] 3 R R<|Ce tbk [] 3 34 31 R R R R R<|Aa R R (Aj R)<|Ac<|Rt1 hm R [] R R R

/-! trireme/triremeref07.maybe -/
def ref07_maybe (s : ByteArray) : Option Bool :=
 (if (V.seq s (⟨#[]⟩ : ByteArray)) = true then some true else (ref01_Word s).bind fun r =>
 some r).bind fun c =>
 some c
theorem K44 (s : ByteArray) : VS Tryz.prog 62 (ref07_maybe s) [.str s] [] .bool N0 := by
 refine A6 [.tmp 2] Tryz.func62 R R R fun r hm=>?_
 unfold ref07_maybe at hm
 exact Af tbk [] R R<|Ah<|Ab tbk [] 3 R R<|Bt hm 3 8 5 R (fun _ K' h1 J hm=>Ab tbk [] 3 R R<|J 2 R R (Bj hm)) (fun _ K' h1 J hm=>Bo R R R R R (Ak R)<|Bm R R R R R<|A0 hm 0 R fn60 R (K43 _) fun r hm=>Aa R R (Bh false R R R)<|J 2 R R (Bj hm)) fun c hm=>Aa R R (Aj R)<|Ac<|Rt1 hm R [] R R R

/-! trireme/triremeref04.one -/
def ref04_one (n : Int) : Option Bool :=
 some ((decide (n ≥ 0)) && (decide (n ≤ 1125899906842624)))
theorem K45 (n : Int) : VS Tryz.prog 118 (ref04_one n) [Iw n] [] .bool N0 := by
 refine A6 [.tmp 2] Tryz.func118 R R R fun r hm=>?_
 unfold ref04_one at hm
 exact Af tbk [] R R<|Ah<|Ab tbk [] 3 R R<|Ce tbk [] 3 8 5 R R R R R<|Aa R R (Aj R)<|Ac<|Rt1 hm R [] R R R

/-! trireme/triremeref04.Right -/
def ref04_Right (a : T_api_Res) : Option Bool :=
 (ref04_one a.Cpu).bind fun r =>
 (if r = true then (ref04_one a.Mem).bind fun r2 =>
 some r2 else some false).bind fun c =>
 (if c = true then (ref04_one a.Disk).bind fun r3 =>
 some r3 else some false).bind fun c2 =>
 (if c2 = true then (ref04_one a.Pods).bind fun r4 =>
 some r4 else some false).bind fun c3 =>
 (if c3 = true then (ref04_one a.Dev).bind fun r5 =>
 some r5 else some false).bind fun c4 =>
 some c4
theorem K46 (a : T_api_Res) : VS Tryz.prog 61 (ref04_Right a) [T_api_Res.vv a] [] .bool N0 := by
 refine A6 [.tmp 2] Tryz.func61 R R R fun r hm=>?_
 unfold ref04_Right at hm
 exact Ah<|Ad R R<|Cd R R fun b=>Aa R R (Aj R)<|Ac<|Ah<|Ab tbk [0] 2 R R<|Ad R R<|A0 hm 0 R fn118 R (K45 _) fun r hm=>Aa R R (Ak R)<|Bt hm 4 10 6 R (fun _ K' h3 J hm=>Ab tbk [0] 2 R R<|Bm R R R R R<|A0 hm 0 R fn118 R (K45 _) fun r2 hm=>Aa R R (Bh true R R R)<|J 3 R R (Bj hm)) (fun _ K' h3 J hm=>Ab tbk [] 4 R R<|J 3 R R (Bj hm)) fun c hm=>Aa R R (Ak R)<|Bt hm 4 15 11 R (fun _ K' h6 J hm=>Ab tbk [0] 2 R R<|Bm R R R R R<|A0 hm 0 R fn118 R (K45 _) fun r3 hm=>Aa R R (Bh true R R R)<|J 3 R R (Bj hm)) (fun _ K' h6 J hm=>Ab tbk [] 4 R R<|J 3 R R (Bj hm)) fun c2 hm=>Aa R R (Ak R)<|Bt hm 4 20 16 R (fun _ K' h9 J hm=>Ab tbk [0] 2 R R<|Bm R R R R R<|A0 hm 0 R fn118 R (K45 _) fun r4 hm=>Aa R R (Bh true R R R)<|J 3 R R (Bj hm)) (fun _ K' h9 J hm=>Ab tbk [] 4 R R<|J 3 R R (Bj hm)) fun c3 hm=>Aa R R (Ak R)<|Bt hm 4 25 21 R (fun _ K' h12 J hm=>Ab tbk [0] 2 R R<|Bm R R R R R<|A0 hm 0 R fn118 R (K45 _) fun r5 hm=>Aa R R (Bh true R R R)<|J 3 R R (Bj hm)) (fun _ K' h12 J hm=>Ab tbk [] 4 R R<|J 3 R R (Bj hm)) fun c4 hm=>Aa R R (Aj R)<|Ac<|Rt1 hm R [] R R R

/-! trireme/triremeref05.maybe -/
def ref05_maybe (s : ByteArray) : Option Bool :=
 (if (V.seq s (⟨#[]⟩ : ByteArray)) = true then some true else (ref01_Word s).bind fun r =>
 some r).bind fun c =>
 some c
theorem K47 (s : ByteArray) : VS Tryz.prog 119 (ref05_maybe s) [.str s] [] .bool N0 := by
 refine A6 [.tmp 2] Tryz.func119 R R R fun r hm=>?_
 unfold ref05_maybe at hm
 exact Af tbk [] R R<|Ah<|Ab tbk [] 3 R R<|Bt hm 3 8 5 R (fun _ K' h1 J hm=>Ab tbk [] 3 R R<|J 2 R R (Bj hm)) (fun _ K' h1 J hm=>Bo R R R R R (Ak R)<|Bm R R R R R<|A0 hm 0 R fn60 R (K43 _) fun r hm=>Aa R R (Bh false R R R)<|J 2 R R (Bj hm)) fun c hm=>Aa R R (Aj R)<|Ac<|Rt1 hm R [] R R R

/-! trireme/triremeref05.Less -/
def ref05_Less.l1 (a : ByteArray) (b : ByteArray) : Nat → Int → Option (Out Bool Unit)
 | 0, _ => none
 | n + 1, i2 =>
  if ((decide (i2 < (a.size : Int))) && (decide (i2 < (b.size : Int)))) = true then
   (V.gi a i2).bind fun v =>
   (V.gi b i2).bind fun v2 =>
   if (v != v2) = true then
    (V.gi a i2).bind fun v3 =>
    (V.gi b i2).bind fun v4 =>
    some (Out.ret (decide (v3 < v4)))
   else
    ref05_Less.l1 a b n (i64.wrap (i2 + 1))
  else
   some (Out.go ())
def ref05_Less (a : ByteArray) (b : ByteArray) : Option Bool :=
 (ref05_Less.l1 a b FU (0 : Int)).bind fun o =>
 o.on fun j =>
 some (decide ((a.size : Int) < (b.size : Int)))
theorem K48 (a : ByteArray) (b : ByteArray) : VS Tryz.prog 121 (ref05_Less a b) [.str a, .str b] [] .bool N0 := by
 refine A6 [.tmp 4] Tryz.func121 R R R fun r hm=>?_
 unfold ref05_Less at hm
 refine Af tbk [] R R<|Ae<|Af tbk [] R R<|B2 hm (fun _ (_:Unit)=>[(0,.str a),(1,.str b)]) (fun _ (_:Unit)=>[]) (fun o hm h2=>?_) fun j _ hm=> ?_
 ·refine B3 (fun zn (zs:Int)=>ref05_Less.l1 a b zn zs) (fun zs (_:Unit)=>[(0,.str a),(1,.str b),(5,Iw zs)]) (fun _ (_:Unit)=>[]) _ () (fun _=>R) hm (Ag [] R R) fun n i2 _ hm=> ?_
  rw [ref05_Less.l1] at hm
  exact Ae<|Ah<|Ab tbk [] 2 R R<|Aa R R (Ca R Av)<|Ab tbk [] 2 R R<|Df 5 15 10 R (fun h3 K' J=>Ab tbk [] 2 R R<|Bo R R R R R (Ca R Av)<|Ab tbk [] 2 R R<|J 4 R R R) (fun K' J=>Ab tbk [] 5 R R<|J 4 R R R)<|Ac<|Am hm R (fun h4 hm=>Ai<|Ae<|A1<|Ae<|A4 0 mixed<|An tbk [0,1] [] (by kernel_rfl) R R R<|Bd hm fun v h5 hm=>Aq 2 R R R (by kernel_rfl) (Cr R R Av h5)<|An tbk [3,4] [] (by kernel_rfl) R R R<|Bd hm fun v2 h6 hm=>Aq 5 R R R (by kernel_rfl) (Cr R R Av h6)<|Aq 6 R R R (by kernel_rfl) (Bc R R R)<|Ay (by kernel_rfl)<|Am hm R (fun h7 hm=>Ae<|A4 0 mixed<|An tbk [0,1] [] (by kernel_rfl) R R R<|Bd hm fun v3 h8 hm=>Aq 2 R R R (by kernel_rfl) (Cr R R Av h8)<|An tbk [3,4] [] (by kernel_rfl) R R R<|Bd hm fun v4 h9 hm=>Aq 5 R R R (by kernel_rfl) (Cr R R Av h9)<|An tbk [6,7] [] (by kernel_rfl) R R R<|Ay (by kernel_rfl)<|have hm:=Lr hm h2;Rt1 hm R [] R R R) fun h7 hm=>Ai<|Bb tbk [] R R<|Ap _ () hm (Ag [] R R)) fun h4 hm=>Ba<|Ar () hm (Ag [] R R)
 exact Ah<|Aa R R (Ak R)<|Aa R R (Ca R Av)<|Aa R R (Ak R)<|Aa R R (Ca R Av)<|Ab tbk [] 2 R R<|Ac<|Rt1 hm R [] R R R

/-! trireme/triremeref05.Right -/
def ref05_Right.l1 (l : List T_api_Label) : Nat → Int → Option (Out Bool Unit)
 | 0, _ => none
 | n + 1, i2 =>
  if (decide (i2 < (l.length : Int))) = true then
   (V.gl l i2).bind fun x =>
   (ref01_Word x.Key).bind fun r =>
   (if (!r) = true then some true else (V.gl l i2).bind fun x2 =>
   (ref05_maybe x2.Val).bind fun r2 =>
   some (!r2)).bind fun c =>
   (if c = true then some true else (if (decide (i2 > 0)) = true then (V.gl l (i64.wrap (i2 - 1))).bind fun x3 =>
   (V.gl l i2).bind fun x4 =>
   (ref05_Less x3.Key x4.Key).bind fun r3 =>
   some (!r3) else some false).bind fun c2 =>
   some c2).bind fun c3 =>
   if c3 = true then
    some (Out.ret false)
   else
    ref05_Right.l1 l n (i64.wrap (i2 + 1))
  else
   some (Out.go ())
def ref05_Right (l : List T_api_Label) : Option Bool :=
 if (decide ((l.length : Int) > 16)) = true then
  some false
 else
  (ref05_Right.l1 l FU (0 : Int)).bind fun o =>
  o.on fun j =>
  some true
theorem K49 (l : List T_api_Label) : VS Tryz.prog 65 (ref05_Right l) [L141 l] [] .bool N0 := by
 refine A6 [.tmp 2] Tryz.func65 R R R fun r hm=>?_
 unfold ref05_Right at hm
 refine Af tbk [] R R<|Ae<|Ah<|Aa R R (Ak R)<|Aa R R (A5 T_api_Label.vv R B4)<|Aa R R (Bc R R R)<|Ac<|Am hm R (fun h1 hm=>Af tbk [] R R<|Rt1 hm R [] R R R) fun h1 hm=>Ai<|Ae<|Af tbk [] R R<|B2 hm (fun _ (_:Unit)=>[]) (fun _ (_:Unit)=>[]) (fun o hm h3=>?_) fun j _ hm=> ?_
 ·refine B3 (fun zn (zs:Int)=>ref05_Right.l1 l zn zs) (fun zs (_:Unit)=>[(0,L141 l),(3,Iw zs)]) (fun _ (_:Unit)=>[]) _ () (fun _=>R) hm (Ag [] R R) fun n i2 _ hm=> ?_
  rw [ref05_Right.l1] at hm
  refine Ae<|Ah<|Ab tbk [] 2 R R<|Aa R R (A5 T_api_Label.vv R B4)<|Aa R R (Bc R R R)<|Ac<|Am hm R (fun h4 hm=>?_) fun h4 hm=> ?_
  ·refine Ai<|Ae<|A1<|Ae<|A4 0 mixed<|An tbk [0,1] [] (by kernel_rfl) R R R<|Bd hm fun x h5 hm=>Aq 2 R R R (by kernel_rfl) (A2 T_api_Label.vv R R el24 h5)<|An tbk [3,4] [] (by kernel_rfl) R R R<|Al 5 (by kernel_rfl)<|Bd hm fun r h6 hm=>Au R R R<|Aw 0 R fn60 R (K43 x.Key r h6) fun _ _ h19=> ?_
   obtain ⟨rfl,rfl⟩:=h19
   exact An tbk [6,7] [] (by kernel_rfl) R R R<|Cq hm [15,14,13,12,11,10,9,8,7,6,5,4,3,2,1,0] 28 20 R (fun _ K' h7 J hm=>An tbk [8,9,10,11,12,13,14,15] [] (by kernel_rfl) R R R<|J 7 R R (Bj hm)) (fun _ K' h7 J hm=>An tbk [8,9] [] (by kernel_rfl) R R R<|Bd hm fun x2 h8 hm=>Bw 10 R R R R R R (by kernel_rfl) (A2 T_api_Label.vv R R el24 h8)<|An tbk [11,12] [] (by kernel_rfl) R R R<|Al 13 (by kernel_rfl)<|D0 R R R R R R<|A0 hm 0 R fn119 R (K47 _) fun r2 hm=>An tbk [14,15] [] (by kernel_rfl) R R R<|J 7 R R (Bj hm)) fun c hm=>Aq 16 R R R (by kernel_rfl) (Ak R)<|Cq hm [34,33,32,31,30,29,28,27,26,25,24,23,22,21,20,19,18,17,16,15,14,13,12,11,10,9,8,7,6,5,4,3,2,1,0] 47 29 R (fun _ K' h11 J hm=>An tbk [17,18,19,20,21,22,23,24,25,26,27,28,29,30,31,32,33,34] [] (by kernel_rfl) R R R<|J 17 R R (Bj hm)) (fun _ K' h11 J hm=>An tbk [17,18,19] [] (by kernel_rfl) R R R<|Cq hm [33,32,31,30,29,28,27,26,25,24,23,22,21,20,19,18,17,16,15,14,13,12,11,10,9,8,7,6,5,4,3,2,1,0] 46 32 R (fun _ K' h12 J hm=>An tbk [20,21,22] [] (by kernel_rfl) R R R<|Bd hm fun x3 h13 hm=>Bw 23 R R R R R R (by kernel_rfl) (A2 T_api_Label.vv R R el24 h13)<|An tbk [24,25,26,27] [] (by kernel_rfl) R R R<|Bd hm fun x4 h14 hm=>Bw 28 R R R R R R (by kernel_rfl) (A2 T_api_Label.vv R R el24 h14)<|An tbk [29,30] [] (by kernel_rfl) R R R<|Al 31 (by kernel_rfl)<|D0 R R R R R R<|A0 hm 0 R fn121 R (K48 _ _) fun r3 hm=>An tbk [32,33] [] (by kernel_rfl) R R R<|J 13 R R (Bj hm)) (fun _ K' h12 J hm=>An tbk [20,21,22,23,24,25,26,27,28,29,30,31,32,33] [] (by kernel_rfl) R R R<|J 13 R R (Bj hm)) fun c2 hm=>Aq 34 R R R (by kernel_rfl) (Bh false R R R)<|J 4 R R (Bj hm)) fun c3 hm=>Ay (by kernel_rfl)<|Am hm R (fun h18 hm=>Af tbk [] R R<|have hm:=Lr hm h3;Rt1 hm R [] R R R) fun h18 hm=>Ai<|Bb tbk [] R R<|Ap _ () hm (Ag [] R R)
  exact Ba<|Ar () hm (Ag [] R R)
 exact Af tbk [] R R<|Rt1 hm R [] R R R

/-! trireme/triremeref06.maybe -/
def ref06_maybe (s : ByteArray) : Option Bool :=
 (if (V.seq s (⟨#[]⟩ : ByteArray)) = true then some true else (ref01_Word s).bind fun r =>
 some r).bind fun c =>
 some c
theorem K50 (s : ByteArray) : VS Tryz.prog 122 (ref06_maybe s) [.str s] [] .bool N0 := by
 refine A6 [.tmp 2] Tryz.func122 R R R fun r hm=>?_
 unfold ref06_maybe at hm
 exact Af tbk [] R R<|Ah<|Ab tbk [] 3 R R<|Bt hm 3 8 5 R (fun _ K' h1 J hm=>Ab tbk [] 3 R R<|J 2 R R (Bj hm)) (fun _ K' h1 J hm=>Bo R R R R R (Ak R)<|Bm R R R R R<|A0 hm 0 R fn60 R (K43 _) fun r hm=>Aa R R (Bh false R R R)<|J 2 R R (Bj hm)) fun c hm=>Aa R R (Aj R)<|Ac<|Rt1 hm R [] R R R

/-! trireme/triremeref06.effect -/
def ref06_effect (n : Int) : Option Bool :=
 some ((decide (n ≥ 1)) && (decide (n ≤ 3)))
theorem K51 (n : Int) : VS Tryz.prog 123 (ref06_effect n) [Iw n] [] .bool N0 := by
 refine A6 [.tmp 2] Tryz.func123 R R R fun r hm=>?_
 unfold ref06_effect at hm
 exact Af tbk [] R R<|Ah<|Ab tbk [] 3 R R<|Ce tbk [] 3 8 5 R R R R R<|Aa R R (Aj R)<|Ac<|Rt1 hm R [] R R R

/-! trireme/triremeref06.Right -/
def ref06_Right.l2 (l : List T_api_Taint) (i2 : Int) : Nat → Int → Option (Out (Out Bool Unit) Unit)
 | 0, _ => none
 | n2 + 1, k2 =>
  if (decide (k2 < i2)) = true then
   (V.gl l k2).bind fun x4 =>
   (V.gl l i2).bind fun x5 =>
   (if (V.seq x4.Key x5.Key) = true then (V.gl l k2).bind fun x6 =>
   (V.gl l i2).bind fun x7 =>
   some (x6.Effect == x7.Effect) else some false).bind fun c3 =>
   if c3 = true then
    some (Out.ret (Out.ret false))
   else
    ref06_Right.l2 l i2 n2 (i64.wrap (k2 + 1))
  else
   some (Out.go ())
def ref06_Right.l1 (l : List T_api_Taint) : Nat → Int → Option (Out Bool Unit)
 | 0, _ => none
 | n + 1, i2 =>
  if (decide (i2 < (l.length : Int))) = true then
   (V.gl l i2).bind fun x =>
   (ref01_Word x.Key).bind fun r =>
   (if (!r) = true then some true else (V.gl l i2).bind fun x2 =>
   (ref06_maybe x2.Val).bind fun r2 =>
   some (!r2)).bind fun c =>
   (if c = true then some true else (V.gl l i2).bind fun x3 =>
   (ref06_effect x3.Effect).bind fun r3 =>
   some (!r3)).bind fun c2 =>
   if c2 = true then
    some (Out.ret false)
   else
    (ref06_Right.l2 l i2 FU (0 : Int)).bind fun o2 =>
    o2.on fun j2 =>
    ref06_Right.l1 l n (i64.wrap (i2 + 1))
  else
   some (Out.go ())
def ref06_Right (l : List T_api_Taint) : Option Bool :=
 if (decide ((l.length : Int) > 16)) = true then
  some false
 else
  (ref06_Right.l1 l FU (0 : Int)).bind fun o =>
  o.on fun j =>
  some true
theorem K52 (l : List T_api_Taint) : VS Tryz.prog 82 (ref06_Right l) [L143 l] [] .bool N0 := by
 refine A6 [.tmp 2] Tryz.func82 R R R fun r hm=>?_
 unfold ref06_Right at hm
 refine Af tbk [] R R<|Ae<|Ah<|Aa R R (Ak R)<|Aa R R (A5 T_api_Taint.vv R Co)<|Aa R R (Bc R R R)<|Ac<|Am hm R (fun h1 hm=>Af tbk [] R R<|Rt1 hm R [] R R R) fun h1 hm=>Ai<|Ae<|Af tbk [] R R<|B2 hm (fun _ (_:Unit)=>[]) (fun _ (_:Unit)=>[]) (fun o hm h3=>?_) fun j _ hm=> ?_
 ·refine B3 (fun zn (zs:Int)=>ref06_Right.l1 l zn zs) (fun zs (_:Unit)=>[(0,L143 l),(3,Iw zs)]) (fun _ (_:Unit)=>[]) _ () (fun _=>R) hm (Ag [] R R) fun n i2 _ hm=> ?_
  rw [ref06_Right.l1] at hm
  refine Ae<|Ah<|Ab tbk [] 2 R R<|Aa R R (A5 T_api_Taint.vv R Co)<|Aa R R (Bc R R R)<|Ac<|Am hm R (fun h4 hm=>?_) fun h4 hm=> ?_
  ·refine Ai<|Ae<|A1<|Ae<|Ah<|Ab tbk [] 2 R R<|Bd hm fun x h5 hm=>Aa R R (A2 T_api_Taint.vv R R el39 h5)<|Ab tbk [] 2 R R<|Ad R R<|A0 hm 0 R fn60 R (K43 _) fun r hm=>Ab tbk [] 2 R R<|Bt hm 8 29 21 R (fun _ K' h7 J hm=>Ab tbk [] 8 R R<|J 7 R R (Bj hm)) (fun _ K' h7 J hm=>Ab tbk [] 2 R R<|Bd hm fun x2 h8 hm=>Bo R R R R R (A2 T_api_Taint.vv R R el39 h8)<|Ab tbk [] 2 R R<|Bm R R R R R<|A0 hm 0 R fn122 R (K50 _) fun r2 hm=>Ab tbk [] 2 R R<|J 7 R R (Bj hm)) fun c hm=>Aa R R (Ak R)<|Bt hm 8 38 30 R (fun _ K' h11 J hm=>Ab tbk [] 8 R R<|J 7 R R (Bj hm)) (fun _ K' h11 J hm=>Ab tbk [] 2 R R<|Bd hm fun x3 h12 hm=>Bo R R R R R (A2 T_api_Taint.vv R R el39 h12)<|Ab tbk [] 2 R R<|Bm R R R R R<|A0 hm 0 R fn123 R (K51 _) fun r3 hm=>Ab tbk [] 2 R R<|J 7 R R (Bj hm)) fun c2 hm=>Ac<|Am hm R (fun h15 hm=>Af tbk [] R R<|have hm:=Lr hm h3;Rt1 hm R [] R R R) fun h15 hm=>Ai<|Af tbk [] R R<|B2 hm (fun _ (_:Unit)=>[(0,L143 l),(3,Iw i2)]) (fun _ (_:Unit)=>[]) (fun o2 hm h17=>?_) fun j2 _ hm=> ?_
   ·refine B3 (fun zn (zs:Int)=>ref06_Right.l2 l i2 zn zs) (fun zs (_:Unit)=>[(0,L143 l),(3,Iw i2),(4,Iw zs)]) (fun _ (_:Unit)=>[]) _ () (fun _=>R) hm (Ag [] R R) fun n2 k2 _ hm=> ?_
    rw [ref06_Right.l2] at hm
    exact Ae<|Af tbk [] R R<|Am hm R (fun h18 hm=>Ai<|Ae<|A1<|Ae<|A4 0 mixed<|An tbk [0,1] [] (by kernel_rfl) R R R<|Bd hm fun x4 h19 hm=>Aq 2 R R R (by kernel_rfl) (A2 T_api_Taint.vv R R el39 h19)<|An tbk [3,4,5,6] [] (by kernel_rfl) R R R<|Bd hm fun x5 h20 hm=>Aq 7 R R R (by kernel_rfl) (A2 T_api_Taint.vv R R el39 h20)<|An tbk [8,9,10,11] [] (by kernel_rfl) R R R<|Cq hm [23,22,21,20,19,18,17,16,15,14,13,12,11,10,9,8,7,6,5,4,3,2,1,0] 67 55 R (fun _ K' h21 J hm=>An tbk [12,13] [] (by kernel_rfl) R R R<|Bd hm fun x6 h22 hm=>Bw 14 R R R R R R (by kernel_rfl) (A2 T_api_Taint.vv R R el39 h22)<|An tbk [15,16,17,18] [] (by kernel_rfl) R R R<|Bd hm fun x7 h23 hm=>Bw 19 R R R R R R (by kernel_rfl) (A2 T_api_Taint.vv R R el39 h23)<|An tbk [20,21,22,23] [] (by kernel_rfl) R R R<|J 11 R R (Bj hm)) (fun _ K' h21 J hm=>An tbk [12,13,14,15,16,17,18,19,20,21,22,23] [] (by kernel_rfl) R R R<|J 11 R R (Bj hm)) fun c3 hm=>Ay (by kernel_rfl)<|Am hm R (fun h25 hm=>Af tbk [] R R<|have hm:=Lr hm h17;have hm:=Lr hm h3;Rt1 hm R [] R R R) fun h25 hm=>Ai<|Bb tbk [] R R<|Ap _ () hm (Ag [] R R)) fun h18 hm=>Ba<|Ar () hm (Ag [] R R)
   exact Bb tbk [] R R<|Ap _ () hm (Ag [] R R)
  exact Ba<|Ar () hm (Ag [] R R)
 exact Af tbk [] R R<|Rt1 hm R [] R R R

/-! trireme/triremeref07.RightMachine -/
def ref07_RightMachine (m : T_api_Machine) : Option Bool :=
 (ref07_maybe m.Name).bind fun r =>
 (if r = true then (ref07_maybe m.Group).bind fun r2 =>
 some r2 else some false).bind fun c =>
 (if c = true then (ref04_Right m.Has).bind fun r3 =>
 some r3 else some false).bind fun c2 =>
 (if c2 = true then (ref05_Right m.Labels).bind fun r4 =>
 some r4 else some false).bind fun c3 =>
 (if c3 = true then (ref06_Right m.Taints).bind fun r5 =>
 some r5 else some false).bind fun c4 =>
 some c4
theorem K53 (m : T_api_Machine) : VS Tryz.prog 21 (ref07_RightMachine m) [T_api_Machine.vv m] [] .bool N0 := by
 refine A6 [.tmp 2] Tryz.func21 R R R fun r hm=>?_
 unfold ref07_RightMachine at hm
 exact Ah<|Ad R R<|Cd R R fun b=>Aa R R (Aj R)<|Ac<|Ah<|Ab tbk [0] 2 R R<|Ad R R<|A0 hm 0 R fn62 R (K44 _) fun r hm=>Aa R R (Ak R)<|Bt hm 4 10 6 R (fun _ K' h3 J hm=>Ab tbk [0] 2 R R<|Bm R R R R R<|A0 hm 0 R fn62 R (K44 _) fun r2 hm=>Aa R R (Bh true R R R)<|J 3 R R (Bj hm)) (fun _ K' h3 J hm=>Ab tbk [] 4 R R<|J 3 R R (Bj hm)) fun c hm=>Aa R R (Ak R)<|Bt hm 4 15 11 R (fun _ K' h6 J hm=>Ab tbk [0] 2 R R<|Bm R R R R R<|A0 hm 0 R fn61 R (K46 _) fun r3 hm=>Aa R R (Bh true R R R)<|J 3 R R (Bj hm)) (fun _ K' h6 J hm=>Ab tbk [] 4 R R<|J 3 R R (Bj hm)) fun c2 hm=>Aa R R (Ak R)<|Bt hm 4 20 16 R (fun _ K' h9 J hm=>Ab tbk [0] 2 R R<|Bm R R R R R<|A0 hm 0 R fn65 R (K49 _) fun r4 hm=>Aa R R (Bh true R R R)<|J 3 R R (Bj hm)) (fun _ K' h9 J hm=>Ab tbk [] 4 R R<|J 3 R R (Bj hm)) fun c3 hm=>Aa R R (Ak R)<|Bt hm 4 25 21 R (fun _ K' h12 J hm=>Ab tbk [0] 2 R R<|Bm R R R R R<|A0 hm 0 R fn82 R (K52 _) fun r5 hm=>Aa R R (Bh true R R R)<|J 3 R R (Bj hm)) (fun _ K' h12 J hm=>Ab tbk [] 4 R R<|J 3 R R (Bj hm)) fun c4 hm=>Aa R R (Aj R)<|Ac<|Rt1 hm R [] R R R

/-! trireme/triremeref07.in -/
def ref07_in (n : Int) (low : Int) (high : Int) : Option Bool :=
 some ((decide (n ≥ low)) && (decide (n ≤ high)))
theorem K54 (n : Int) (low : Int) (high : Int) : VS Tryz.prog 63 (ref07_in n low high) [Iw n, Iw low, Iw high] [] .bool N0 := by
 refine A6 [.tmp 6] Tryz.func63 R R R fun r hm=>?_
 unfold ref07_in at hm
 exact Af tbk [] R R<|Ah<|Ab tbk [] 4 R R<|Ce tbk [] 4 14 10 R R R R R<|Aa R R (Aj R)<|Ac<|Rt1 hm R [] R R R

/-! trireme/triremeref03.digit -/
def ref03_digit (c : Int) : Option Bool :=
 some ((decide (c ≥ 48)) && (decide (c ≤ 57)))
theorem K55 (c : Int) : VS Tryz.prog 179 (ref03_digit c) [.int .u8 c] [] .bool N0 := by
 refine A6 [.tmp 2] Tryz.func179 R R R fun r hm=>?_
 unfold ref03_digit at hm
 exact Af tbk [] R R<|Ah<|Ab tbk [] 3 R R<|Ce tbk [] 3 8 5 R R R R R<|Aa R R (Aj R)<|Ac<|Rt1 hm R [] R R R

/-! trireme/triremeref03.digits -/
def ref03_digits.l1 (s : ByteArray) : Nat → Int → Option Int
 | 0, _ => none
 | n4 + 1, n2 =>
  (if (decide (n2 < (s.size : Int))) = true then (V.gi s n2).bind fun v =>
  (ref03_digit v).bind fun r =>
  some r else some false).bind fun c =>
  if c = true then
   ref03_digits.l1 s n4 (i64.wrap (n2 + 1))
  else
   some n2
def ref03_digits (s : ByteArray) : Option Int :=
 (ref03_digits.l1 s FU (0 : Int)).bind fun n32 =>
 some n32
theorem K56 (s : ByteArray) : VS Tryz.prog 161 (ref03_digits s) [.str s] [] Iw N0 := by
 refine A6 [.tmp 2] Tryz.func161 R R R fun r hm=>?_
 unfold ref03_digits at hm
 refine Af tbk [] R R<|Af tbk [] R R<|Cj hm (fun n32 (_:Unit)=>[(3,Iw n32)]) (fun _ (_:Unit)=>[]) (fun o hm=>?_) fun n32 _ hm=> ?_
 ·refine B3 (fun zn (zs:Int)=>ref03_digits.l1 s zn zs) (fun zs (_:Unit)=>[(0,.str s),(3,Iw zs)]) (fun _ (_:Unit)=>[]) _ () (fun _=>R) hm (Ag [] R R) fun n4 n2 _ hm=> ?_
  rw [ref03_digits.l1] at hm
  exact Ae<|Ah<|Ab tbk [] 2 R R<|Aa R R (Ca R Av)<|Ab tbk [] 2 R R<|Bt hm 5 13 8 R (fun _ K' h3 J hm=>Ab tbk [] 2 R R<|Bd hm fun v h4 hm=>Bo R R R R R (Cr R R Av h4)<|Bm R R R R R<|A0 hm 0 R fn179 R (K55 _) fun r hm=>Aa R R (Bh true R R R)<|J 4 R R (Bj hm)) (fun _ K' h3 J hm=>Ab tbk [] 5 R R<|J 4 R R (Bj hm)) fun c hm=>Ac<|Am hm R (fun h7 hm=>Ai<|A1<|Bb tbk [] R R<|Ap _ () hm (Ag [] R R)) fun h7 hm=>Ba<|As () hm (Ag [] R R)
 exact Af tbk [] R R<|Rt1 hm R [] R R R

/-! trireme/triremeref03.value -/
def ref03_value.l1 (s : ByteArray) : Nat → Int → Int → Option Int
 | 0, _, _ => none
 | n4 + 1, n2, i2 =>
  if (decide (i2 < (s.size : Int))) = true then
   (V.gi s i2).bind fun v =>
   ref03_value.l1 s n4 (min (i64.wrap ((i64.wrap (10 * n2)) + (i64.wrap (IntKind.u8.wrap (v - 48))))) 1125899906842625) (i64.wrap (i2 + 1))
  else
   some n2
def ref03_value (s : ByteArray) : Option Int :=
 (ref03_value.l1 s FU 0 (0 : Int)).bind fun n32 =>
 some n32
theorem K57 (s : ByteArray) : VS Tryz.prog 162 (ref03_value s) [.str s] [] Iw N0 := by
 refine A6 [.tmp 2] Tryz.func162 R R R fun r hm=>?_
 unfold ref03_value at hm
 refine Af tbk [] R R<|Af tbk [] R R<|Ae<|Af tbk [] R R<|Cp hm (fun n32 (_:Unit)=>[(3,Iw n32)]) (fun _ (_:Unit)=>[]) (fun o hm=>?_) fun n32 _ hm=> ?_
 ·refine B3 (fun zn (zs:Int × Int)=>ref03_value.l1 s zn zs.1 zs.2) (fun zs (_:Unit)=>[(0,.str s),(3,Iw zs.1),(4,Iw zs.2)]) (fun _ (_:Unit)=>[]) ((0 : Int),(0 : Int)) () (fun _=>R) hm (Ag [] R R) fun n4=>Pq fun n2 i2 _ hm=> ?_
  rw [ref03_value.l1] at hm
  exact Ae<|Ah<|Ab tbk [] 2 R R<|Aa R R (Ca R Av)<|Aa R R (Bc R R R)<|Ac<|Am hm R (fun h3 hm=>Ai<|Ae<|A1<|Be<|Ab tbk [] 4 R R<|Bd hm fun v h4 hm=>Aa R R (Cr R R Av h4)<|Aa R R (Bc R R R)<|Aa R R (Cf Bq Bx R)<|Aa R R (Bc R R R)<|Aa R R (VP.min2 R R)<|Aa R R (Aj R)<|Ac<|Bb tbk [] R R<|Ap ((min (IntKind.i64.wrap ((IntKind.i64.wrap ((10 : Int) * n2)) + (IntKind.i64.wrap (IntKind.u8.wrap (v - (48 : Int)))))) (1125899906842625 : Int)),(IntKind.i64.wrap (i2 + (1 : Int)))) () hm (Ag [] R R)) fun h3 hm=>Ba<|As () hm (Ag [] R R)
 exact Af tbk [] R R<|Rt1 hm R [] R R R

/-! trireme/triremeref03.Number -/
def ref03_Number (s : ByteArray) : Option (Int × Int) :=
 (if ((s.size : Int) == 0) = true then some true else (ref03_digits s).bind fun r =>
 some (decide (r < (s.size : Int)))).bind fun c =>
 if c = true then
  some (0, 8)
 else
  (ref03_value s).bind fun r2 =>
  if (decide (r2 > 1125899906842624)) = true then
   some (0, 10)
  else
   some (r2, 0)
theorem K58 (s : ByteArray) : VS Tryz.prog 120 (ref03_Number s) [.str s] [] (fun r=>.tup [Iw r.1, Iw r.2]) N0 := by
 refine A6 [.tmp 2,.tmp 3] Tryz.func120 R R R fun r hm=>?_
 unfold ref03_Number at hm
 exact Af tbk [] R R<|Ae<|Ah<|Aa R R (Ak R)<|Aa R R (Ca R Av)<|Ab tbk [] 2 R R<|Bt hm 6 14 8 R (fun _ K' h1 J hm=>Ab tbk [] 6 R R<|J 5 R R (Bj hm)) (fun _ K' h1 J hm=>Bo R R R R R (Ak R)<|Bm R R R R R<|A0 hm 0 R fn161 R (K56 _) fun r hm=>Bo R R R R R (Ak R)<|Bo R R R R R (Ca R Av)<|Ab tbk [] 2 R R<|J 5 R R (Bj hm)) fun c hm=>Ac<|Am hm R (fun h4 hm=>Af tbk [] R R<|Rt2 hm R [] R R R R) fun h4 hm=>Ai<|Ah<|Aa R R (Ak R)<|Ad R R<|A0 hm 0 R fn162 R (K57 _) fun r2 hm=>Aa R R (Aj R)<|Ac<|Ae<|Af tbk [] R R<|Am hm R (fun h6 hm=>Af tbk [] R R<|Rt2 hm R [] R R R R) fun h6 hm=>Ai<|Af tbk [] R R<|Rt2 hm R [] R R R R

/-! trireme/triremeref05.RightTerm -/
def ref05_RightTerm.l1 (t : T_api_Term) : Nat → Int → Option (Out Bool Unit)
 | 0, _ => none
 | n + 1, i2 =>
  if (decide (i2 < (t.Vals.length : Int))) = true then
   (V.gl t.Vals i2).bind fun x =>
   (ref05_maybe x).bind fun r2 =>
   if (!r2) = true then
    some (Out.ret false)
   else
    ref05_RightTerm.l1 t n (i64.wrap (i2 + 1))
  else
   some (Out.go ())
def ref05_RightTerm (t : T_api_Term) : Option Bool :=
 (ref01_Word t.Key).bind fun r =>
 if (!r) = true then
  some false
 else
  (if (t.Op == 1) = true then
   some (t.Op == 1)
  else
   some (t.Op == 2)).bind fun v2 =>
  if v2 = true then
   (ref05_RightTerm.l1 t FU (0 : Int)).bind fun o2 =>
   o2.on fun j =>
   some ((decide ((t.Vals.length : Int) ≥ 1)) && (decide ((t.Vals.length : Int) ≤ 16)))
  else
   (if (t.Op == 3) = true then
    some (t.Op == 3)
   else
    some (t.Op == 4)).bind fun v32 =>
   if v32 = true then
    some ((t.Vals.length : Int) == 0)
   else
    (if (t.Op == 5) = true then
     some (t.Op == 5)
    else
     some (t.Op == 6)).bind fun v42 =>
    if v42 = true then
     if ((t.Vals.length : Int) != 1) = true then
      some false
     else
      (V.gl t.Vals (0 : Int)).bind fun x2 =>
      (ref03_Number x2).bind fun r3 =>
      some (r3.2 == 0)
    else
     some false
theorem K59 (t : T_api_Term) : VS Tryz.prog 64 (ref05_RightTerm t) [T_api_Term.vv t] [] .bool N0 := by
 refine A6 [.tmp 2] Tryz.func64 R R R fun r hm=>?_
 unfold ref05_RightTerm at hm
 refine Ah<|Ad R R<|Cd R R fun b=>Aa R R (Aj R)<|Ac<|Ae<|Ah<|Ab tbk [0] 2 R R<|Ad R R<|A0 hm 0 R fn60 R (K43 _) fun r hm=>Aa R R (C1 R)<|Ac<|Am hm R (fun h3 hm=>Af tbk [] R R<|Rt1 hm R [] R R R) fun h3 hm=>Ai<|Ae<|Af tbk [0] R R<|A1<|Cj hm (fun v2 (_:Unit)=>[(1,.ptr b 0),(11,Iw t.Op),(12,.bool v2)]) (fun _ (_:Unit)=>[X73 b t]) (fun o hm=>Af tbk [] R R<|Am hm R (fun h6 hm=>Ai<|As () hm (Ag [0] R R)) fun h6 hm=>Bb tbk [] R R<|As () hm (Ag [0] R R)) fun v2 _ hm=>Am hm R (fun h7 hm=>?_) fun h7 hm=> ?_
 ·refine Ae<|Af tbk [] R R<|B2 hm (fun _ (_:Unit)=>[(1,.ptr b 0)]) (fun _ (_:Unit)=>[X73 b t]) (fun o2 hm h9=>?_) fun j _ hm=> ?_
  ·refine B3 (fun zn (zs:Int)=>ref05_RightTerm.l1 t zn zs) (fun zs (_:Unit)=>[(1,.ptr b 0),(3,Iw zs)]) (fun _ (_:Unit)=>[X73 b t]) _ () (fun _=>R) hm (Ag [0] R R) fun n i2 _ hm=> ?_
   rw [ref05_RightTerm.l1] at hm
   exact Ae<|Ah<|Ab tbk [0] 3 R R<|Aa R R (A5 VV.str R B0)<|Aa R R (Bc R R R)<|Ac<|Am hm R (fun h10 hm=>Ai<|Ae<|A1<|Ah<|Ab tbk [0] 3 R R<|Bd hm fun x h11 hm=>Aa R R (A2 VV.str R R el65 h11)<|Aa R R (Bl R ld9 R)<|Ad R R<|A0 hm 0 R fn119 R (K47 _) fun r2 hm=>Aa R R (C1 R)<|Ac<|Am hm R (fun h13 hm=>Af tbk [] R R<|have hm:=Lr hm h9;Rt1 hm R [] R R R) fun h13 hm=>Ai<|Bb tbk [] R R<|Ap _ () hm (Ag [0] R R)) fun h10 hm=>Ba<|Ar () hm (Ag [0] R R)
  exact Ah<|Ab tbk [0] 2 R R<|Aa R R (A5 VV.str R B0)<|Ab tbk [] 2 R R<|Df 5 38 33 R (fun h14 K' J=>Ab tbk [0] 2 R R<|Bo R R R R R (A5 VV.str R B0)<|Ab tbk [] 2 R R<|J 4 R R R) (fun K' J=>Ab tbk [] 5 R R<|J 4 R R R)<|Aa R R (Aj R)<|Ac<|Rt1 hm R [] R R R
 exact Cj hm (fun v32 (_:Unit)=>[(1,.ptr b 0),(11,Iw t.Op),(39,.bool v32)]) (fun _ (_:Unit)=>[X73 b t]) (fun o3 hm=>Af tbk [] R R<|Am hm R (fun h17 hm=>Ai<|As () hm (Ag [0] R R)) fun h17 hm=>Bb tbk [] R R<|As () hm (Ag [0] R R)) fun v32 _ hm=>Am hm R (fun h18 hm=>Ah<|Ab tbk [0] 2 R R<|Aa R R (A5 VV.str R B0)<|Ab tbk [] 2 R R<|Ac<|Rt1 hm R [] R R R) fun h18 hm=>Cj hm (fun v42 (_:Unit)=>[(1,.ptr b 0),(46,.bool v42)]) (fun _ (_:Unit)=>[X73 b t]) (fun o4 hm=>Af tbk [] R R<|Am hm R (fun h21 hm=>Ai<|As () hm (Ag [0] R R)) fun h21 hm=>Bb tbk [] R R<|As () hm (Ag [0] R R)) fun v42 _ hm=>Am hm R (fun h22 hm=>Ae<|Ah<|Ab tbk [0] 2 R R<|Aa R R (A5 VV.str R B0)<|Aa R R (Bc R R R)<|Ac<|Am hm R (fun h23 hm=>Af tbk [] R R<|Rt1 hm R [] R R R) fun h23 hm=>Ai<|Ah<|Ab tbk [0] 2 R R<|Bd hm fun x2 h24 hm=>Aa R R (A2 VV.str R R el65 h24)<|Aa R R (Bl R ld9 R)<|Ad R R<|A0 hm 0 R fn120 R (K58 _) fun r3 hm=>Ab tbk [] 5 R R<|Ac<|Af tbk [] R R<|Rt1 hm R [] R R R) fun h22 hm=>Ai<|Af tbk [] R R<|Rt1 hm R [] R R R

/-! trireme/triremeref06.RightBears -/
def ref06_RightBears.l1 (l : List T_api_Toleration) : Nat → Int → Option (Out Bool Unit)
 | 0, _ => none
 | n + 1, i2 =>
  if (decide (i2 < (l.length : Int))) = true then
   (V.gl l i2).bind fun x =>
   (ref06_maybe x.Key).bind fun r =>
   (if (!r) = true then some true else (ref06_maybe x.Val).bind fun r2 =>
   some (!r2)).bind fun c =>
   (if c = true then some true else (if (x.Effect != 0) = true then (ref06_effect x.Effect).bind fun r3 =>
   some (!r3) else some false).bind fun c2 =>
   some c2).bind fun c3 =>
   if ((c3 || (x.Any && (!(V.seq x.Val (⟨#[]⟩ : ByteArray))))) || ((V.seq x.Key (⟨#[]⟩ : ByteArray)) && (!x.Any))) = true then
    some (Out.ret false)
   else
    ref06_RightBears.l1 l n (i64.wrap (i2 + 1))
  else
   some (Out.go ())
def ref06_RightBears (l : List T_api_Toleration) : Option Bool :=
 if (decide ((l.length : Int) > 16)) = true then
  some false
 else
  (ref06_RightBears.l1 l FU (0 : Int)).bind fun o =>
  o.on fun j =>
  some true
theorem K60 (l : List T_api_Toleration) : VS Tryz.prog 66 (ref06_RightBears l) [L83 l] [] .bool N0 := by
 refine A6 [.tmp 2] Tryz.func66 R R R fun r hm=>?_
 unfold ref06_RightBears at hm
 refine Af tbk [] R R<|Ae<|Ah<|Aa R R (Ak R)<|Aa R R (A5 T_api_Toleration.vv R C2)<|Aa R R (Bc R R R)<|Ac<|Am hm R (fun h1 hm=>Af tbk [] R R<|Rt1 hm R [] R R R) fun h1 hm=>Ai<|Ae<|Af tbk [] R R<|B2 hm (fun _ (_:Unit)=>[]) (fun _ (_:Unit)=>[]) (fun o hm h3=>?_) fun j _ hm=> ?_
 ·refine B3 (fun zn (zs:Int)=>ref06_RightBears.l1 l zn zs) (fun zs (_:Unit)=>[(0,L83 l),(3,Iw zs)]) (fun _ (_:Unit)=>[]) _ () (fun _=>R) hm (Ag [] R R) fun n i2 _ hm=> ?_
  rw [ref06_RightBears.l1] at hm
  refine Ae<|Ah<|Ab tbk [] 2 R R<|Aa R R (A5 T_api_Toleration.vv R C2)<|Aa R R (Bc R R R)<|Ac<|Am hm R (fun h4 hm=>?_) fun h4 hm=> ?_
  ·exact Ai<|Ae<|A1<|Ah<|Ab tbk [] 2 R R<|Bd hm fun x h5 hm=>Aa R R (A2 T_api_Toleration.vv R R el26 h5)<|Aa R R (Bl R ld83 R)<|Ad R R<|Bg z83 fun b=>Ad R R<|Ao (i:=0) R R R ld83 R R R<|Ac<|Ah<|Ab tbk [0] 2 R R<|Ad R R<|A0 hm 0 R fn122 R (K50 _) fun r hm=>Ab tbk [] 2 R R<|Bt hm 5 27 22 R (fun _ K' h8 J hm=>Ab tbk [] 5 R R<|J 4 R R (Bj hm)) (fun _ K' h8 J hm=>Ab tbk [0] 2 R R<|Bm R R R R R<|A0 hm 0 R fn122 R (K50 _) fun r2 hm=>Ab tbk [] 2 R R<|J 4 R R (Bj hm)) fun c hm=>Aa R R (Ak R)<|Bt hm 10 38 28 R (fun _ K' h11 J hm=>Ab tbk [] 10 R R<|J 9 R R (Bj hm)) (fun _ K' h11 J hm=>Ab tbk [0] 4 R R<|Bt hm 5 37 32 R (fun _ K' h12 J hm=>Ab tbk [0] 2 R R<|Bm R R R R R<|A0 hm 0 R fn123 R (K51 _) fun r3 hm=>Ab tbk [] 2 R R<|J 4 R R (Bj hm)) (fun _ K' h12 J hm=>Ab tbk [] 5 R R<|J 4 R R (Bj hm)) fun c2 hm=>Aa R R (Bh false R R R)<|J 5 R R (Bj hm)) fun c3 hm=>Aa R R (Ak R)<|C0 8 47 39 R (fun K' J=>Ab tbk [] 8 R R<|J 7 R R R) (fun h16 K' J=>Ab tbk [0] 3 R R<|Ce tbk [0] 4 46 42 R R R R R<|Aa R R (Bh false R R R)<|J 4 R R R)<|Aa R R (Ak R)<|C0 9 57 48 R (fun K' J=>Ab tbk [] 9 R R<|J 8 R R R) (fun h18 K' J=>Ab tbk [0] 4 R R<|Ce tbk [0] 4 56 52 R R R R R<|Aa R R (Bh false R R R)<|J 5 R R R)<|Ac<|Am hm R (fun h20 hm=>Af tbk [] R R<|have hm:=Lr hm h3;Rt1 hm R [] R R R) fun h20 hm=>Ai<|Bb tbk [] R R<|Ap _ () hm (Ag [] R R)
  exact Ba<|Ar () hm (Ag [] R R)
 exact Af tbk [] R R<|Rt1 hm R [] R R R

/-! trireme/triremeref07.RightPod -/
def ref07_RightPod.l1 (p : T_api_Pod) : Nat → Int → Option (Out Bool Unit)
 | 0, _ => none
 | n + 1, i2 =>
  if (decide (i2 < (p.Terms.length : Int))) = true then
   (V.gl p.Terms i2).bind fun x =>
   (ref05_RightTerm x).bind fun r5 =>
   if (!r5) = true then
    some (Out.ret false)
   else
    ref07_RightPod.l1 p n (i64.wrap (i2 + 1))
  else
   some (Out.go ())
def ref07_RightPod.l2 (p : T_api_Pod) : Nat → Int → Option (Out Bool Unit)
 | 0, _ => none
 | n2 + 1, i4 =>
  if (decide (i4 < (p.Ports.length : Int))) = true then
   (V.gl p.Ports i4).bind fun x2 =>
   (ref07_in x2 1 (65535 : Int)).bind fun r6 =>
   (if (!r6) = true then some true else (if (decide (i4 > 0)) = true then (V.gl p.Ports i4).bind fun x3 =>
   (V.gl p.Ports (i64.wrap (i4 - 1))).bind fun x4 =>
   some (decide (x3 ≤ x4)) else some false).bind fun c4 =>
   some c4).bind fun c5 =>
   if c5 = true then
    some (Out.ret false)
   else
    ref07_RightPod.l2 p n2 (i64.wrap (i4 + 1))
  else
   some (Out.go ())
def ref07_RightPod (p : T_api_Pod) : Option Bool :=
 (ref01_Word p.Name).bind fun r =>
 (if (!r) = true then some true else (ref04_Right p.Need).bind fun r2 =>
 some (!r2)).bind fun c =>
 (if (c || (p.Need.Pods != 1)) = true then some true else (ref07_maybe p.Owner).bind fun r3 =>
 some (!r3)).bind fun c2 =>
 (if c2 = true then some true else (ref07_in p.Rank 0 (1000 : Int)).bind fun r4 =>
 some (!r4)).bind fun c3 =>
 if ((c3 || (decide ((p.Terms.length : Int) > 16))) || (decide ((p.Ports.length : Int) > 16))) = true then
  some false
 else
  (ref07_RightPod.l1 p FU (0 : Int)).bind fun o =>
  o.on fun j =>
  (ref07_RightPod.l2 p FU (0 : Int)).bind fun o2 =>
  o2.on fun j2 =>
  (if ((p.Wide && ((p.Apart.length : Int) == 0)) || (((p.Spread.length : Int) == 0) && (p.Skew != 0))) = true then some true else (if (decide ((p.Spread.length : Int) > 0)) = true then (ref07_in p.Skew 1 (100 : Int)).bind fun r7 =>
  some (!r7) else some false).bind fun c6 =>
  some c6).bind fun c7 =>
  if c7 = true then
   some false
  else
   (ref05_Right p.Labels).bind fun r8 =>
   (if r8 = true then (ref05_Right p.Select).bind fun r9 =>
   some r9 else some false).bind fun c8 =>
   (if c8 = true then (ref05_Right p.Apart).bind fun r10 =>
   some r10 else some false).bind fun c9 =>
   (if c9 = true then (ref05_Right p.Spread).bind fun r11 =>
   some r11 else some false).bind fun c10 =>
   (if c10 = true then (ref06_RightBears p.Bears).bind fun r12 =>
   some r12 else some false).bind fun c11 =>
   some c11
theorem K61 (p : T_api_Pod) : VS Tryz.prog 13 (ref07_RightPod p) [T_api_Pod.vv p] [] .bool N0 := by
 refine A6 [.tmp 2] Tryz.func13 R R R fun r hm=>?_
 unfold ref07_RightPod at hm
 refine Ah<|Ad R R<|Cd R R fun b=>Aa R R (Aj R)<|Ac<|Ae<|Ah<|Ab tbk [0] 2 R R<|Ad R R<|A0 hm 0 R fn60 R (K43 _) fun r hm=>Ab tbk [] 2 R R<|Bt hm 5 14 9 R (fun _ K' h3 J hm=>Ab tbk [] 5 R R<|J 4 R R (Bj hm)) (fun _ K' h3 J hm=>Ab tbk [0] 2 R R<|Bm R R R R R<|A0 hm 0 R fn61 R (K46 _) fun r2 hm=>Ab tbk [] 2 R R<|J 4 R R (Bj hm)) fun c hm=>Aa R R (Ak R)<|Cy tbk [0] 5 20 15 R R R R R<|Aa R R (Ak R)<|Bt hm 5 26 21 R (fun _ K' h7 J hm=>Ab tbk [] 5 R R<|J 4 R R (Bj hm)) (fun _ K' h7 J hm=>Ab tbk [0] 2 R R<|Bm R R R R R<|A0 hm 0 R fn62 R (K44 _) fun r3 hm=>Ab tbk [] 2 R R<|J 4 R R (Bj hm)) fun c2 hm=>Aa R R (Ak R)<|Bt hm 5 32 27 R (fun _ K' h10 J hm=>Ab tbk [] 5 R R<|J 4 R R (Bj hm)) (fun _ K' h10 J hm=>Ab tbk [0] 2 R R<|Bm R R R R R<|A0 hm 0 R fn63 R (K54 _ _ _) fun r4 hm=>Ab tbk [] 2 R R<|J 4 R R (Bj hm)) fun c3 hm=>Aa R R (Ak R)<|C0 5 38 33 R (fun K' J=>Ab tbk [] 5 R R<|J 4 R R R) (fun h13 K' J=>Ab tbk [0] 2 R R<|Bo R R R R R (A5 T_api_Term.vv R Cu)<|Ab tbk [] 2 R R<|J 4 R R R)<|Aa R R (Ak R)<|C0 5 44 39 R (fun K' J=>Ab tbk [] 5 R R<|J 4 R R R) (fun h14 K' J=>Ab tbk [0] 2 R R<|Bo R R R R R (A5 (VV.int .i64) R Bn)<|Ab tbk [] 2 R R<|J 4 R R R)<|Ac<|Am hm R (fun h15 hm=>Af tbk [] R R<|Rt1 hm R [] R R R) fun h15 hm=>Ai<|Ae<|Af tbk [] R R<|B2 hm (fun _ (_:Unit)=>[(1,.ptr b 0)]) (fun _ (_:Unit)=>[X29 b p]) (fun o hm h17=>?_) fun j _ hm=> ?_
 ·refine B3 (fun zn (zs:Int)=>ref07_RightPod.l1 p zn zs) (fun zs (_:Unit)=>[(1,.ptr b 0),(3,Iw zs)]) (fun _ (_:Unit)=>[X29 b p]) _ () (fun _=>R) hm (Ag [0] R R) fun n i2 _ hm=> ?_
  rw [ref07_RightPod.l1] at hm
  exact Ae<|Ah<|Ab tbk [0] 3 R R<|Aa R R (A5 T_api_Term.vv R Cu)<|Aa R R (Bc R R R)<|Ac<|Am hm R (fun h18 hm=>Ai<|Ae<|A1<|Ah<|Ab tbk [0] 3 R R<|Bd hm fun x h19 hm=>Aa R R (A2 T_api_Term.vv R R el25 h19)<|Aa R R (Bl R ld73 R)<|Ad R R<|A0 hm 0 R fn64 R (K59 _) fun r5 hm=>Aa R R (C1 R)<|Ac<|Am hm R (fun h21 hm=>Af tbk [] R R<|have hm:=Lr hm h17;Rt1 hm R [] R R R) fun h21 hm=>Ai<|Bb tbk [] R R<|Ap _ () hm (Ag [0] R R)) fun h18 hm=>Ba<|Ar () hm (Ag [0] R R)
 refine Ae<|Af tbk [] R R<|B2 hm (fun _ (_:Unit)=>[(1,.ptr b 0)]) (fun _ (_:Unit)=>[X29 b p]) (fun o2 hm h23=>?_) fun j2 _ hm=> ?_
 ·refine B3 (fun zn (zs:Int)=>ref07_RightPod.l2 p zn zs) (fun zs (_:Unit)=>[(1,.ptr b 0),(4,Iw zs)]) (fun _ (_:Unit)=>[X29 b p]) _ () (fun _=>R) hm (Ag [0] R R) fun n2 i4 _ hm=> ?_
  rw [ref07_RightPod.l2] at hm
  refine Ae<|Ah<|Ab tbk [0] 3 R R<|Aa R R (A5 (VV.int .i64) R Bn)<|Aa R R (Bc R R R)<|Ac<|Am hm R (fun h24 hm=>?_) fun h24 hm=> ?_
  ·refine Ai<|Ae<|A1<|Ae<|A4 0 mixed<|An tbk [0,1,2] [0] (by kernel_rfl) R R R<|Bd hm fun x2 h25 hm=>Aq 3 R R R (by kernel_rfl) (A2 (VV.int .i64) R R el27 h25)<|Aq 4 R R R (by kernel_rfl) (Bl R ld3 R)<|Al 5 (by kernel_rfl)<|Bd hm fun r6 h26 hm=>Au R R R<|Aw 0 R fn63 R (K54 x2 (1 : Int) (65535 : Int) r6 h26) fun _ _ h34=> ?_
   obtain ⟨rfl,rfl⟩:=h34
   exact An tbk [6,7] [] (by kernel_rfl) R R R<|Cq hm [24,23,22,21,20,19,18,17,16,15,14,13,12,11,10,9,8,7,6,5,4,3,2,1,0] 90 73 R (fun _ K' h27 J hm=>An tbk [8,9,10,11,12,13,14,15,16,17,18,19,20,21,22,23,24] [] (by kernel_rfl) R R R<|J 16 R R (Bj hm)) (fun _ K' h27 J hm=>An tbk [8,9,10] [] (by kernel_rfl) R R R<|Cq hm [23,22,21,20,19,18,17,16,15,14,13,12,11,10,9,8,7,6,5,4,3,2,1,0] 89 76 R (fun _ K' h28 J hm=>An tbk [11,12,13] [0] (by kernel_rfl) R R R<|Bd hm fun x3 h29 hm=>Bw 14 R R R R R R (by kernel_rfl) (A2 (VV.int .i64) R R el27 h29)<|An tbk [15,16,17,18,19] [0] (by kernel_rfl) R R R<|Bd hm fun x4 h30 hm=>Bw 20 R R R R R R (by kernel_rfl) (A2 (VV.int .i64) R R el27 h30)<|An tbk [21,22,23] [] (by kernel_rfl) R R R<|J 12 R R (Bj hm)) (fun _ K' h28 J hm=>An tbk [11,12,13,14,15,16,17,18,19,20,21,22,23] [] (by kernel_rfl) R R R<|J 12 R R (Bj hm)) fun c4 hm=>Aq 24 R R R (by kernel_rfl) (Bh false R R R)<|J 4 R R (Bj hm)) fun c5 hm=>Ay (by kernel_rfl)<|Am hm R (fun h33 hm=>Af tbk [] R R<|have hm:=Lr hm h23;Rt1 hm R [] R R R) fun h33 hm=>Ai<|Bb tbk [] R R<|Ap _ () hm (Ag [0] R R)
  exact Ba<|Ar () hm (Ag [0] R R)
 exact Ae<|Ah<|Ab tbk [0] 3 R R<|Df 5 98 93 R (fun h35 K' J=>Ab tbk [0] 2 R R<|Bo R R R R R (A5 T_api_Label.vv R B4)<|Ab tbk [] 2 R R<|J 4 R R R) (fun K' J=>Ab tbk [] 5 R R<|J 4 R R R)<|Aa R R (Ak R)<|C0 10 109 99 R (fun K' J=>Ab tbk [] 10 R R<|J 9 R R R) (fun h36 K' J=>Ab tbk [0] 2 R R<|Bo R R R R R (A5 T_api_Label.vv R B4)<|Ab tbk [] 2 R R<|Ce tbk [0] 4 108 104 R R R R R<|Aa R R (Bh false R R R)<|J 6 R R R)<|Aa R R (Ak R)<|Bt hm 11 121 110 R (fun _ K' h38 J hm=>Ab tbk [] 11 R R<|J 10 R R (Bj hm)) (fun _ K' h38 J hm=>Ab tbk [0] 2 R R<|Bo R R R R R (A5 T_api_Label.vv R B4)<|Ab tbk [] 2 R R<|Bt hm 5 120 115 R (fun _ K' h39 J hm=>Ab tbk [0] 2 R R<|Bm R R R R R<|A0 hm 0 R fn63 R (K54 _ _ _) fun r7 hm=>Ab tbk [] 2 R R<|J 4 R R (Bj hm)) (fun _ K' h39 J hm=>Ab tbk [] 5 R R<|J 4 R R (Bj hm)) fun c6 hm=>Aa R R (Bh false R R R)<|J 6 R R (Bj hm)) fun c7 hm=>Ac<|Am hm R (fun h43 hm=>Af tbk [] R R<|Rt1 hm R [] R R R) fun h43 hm=>Ai<|Ah<|Ab tbk [0] 2 R R<|Ad R R<|A0 hm 0 R fn65 R (K49 _) fun r8 hm=>Aa R R (Ak R)<|Bt hm 4 129 125 R (fun _ K' h45 J hm=>Ab tbk [0] 2 R R<|Bm R R R R R<|A0 hm 0 R fn65 R (K49 _) fun r9 hm=>Aa R R (Bh true R R R)<|J 3 R R (Bj hm)) (fun _ K' h45 J hm=>Ab tbk [] 4 R R<|J 3 R R (Bj hm)) fun c8 hm=>Aa R R (Ak R)<|Bt hm 4 134 130 R (fun _ K' h48 J hm=>Ab tbk [0] 2 R R<|Bm R R R R R<|A0 hm 0 R fn65 R (K49 _) fun r10 hm=>Aa R R (Bh true R R R)<|J 3 R R (Bj hm)) (fun _ K' h48 J hm=>Ab tbk [] 4 R R<|J 3 R R (Bj hm)) fun c9 hm=>Aa R R (Ak R)<|Bt hm 4 139 135 R (fun _ K' h51 J hm=>Ab tbk [0] 2 R R<|Bm R R R R R<|A0 hm 0 R fn65 R (K49 _) fun r11 hm=>Aa R R (Bh true R R R)<|J 3 R R (Bj hm)) (fun _ K' h51 J hm=>Ab tbk [] 4 R R<|J 3 R R (Bj hm)) fun c10 hm=>Aa R R (Ak R)<|Bt hm 4 144 140 R (fun _ K' h54 J hm=>Ab tbk [0] 2 R R<|Bm R R R R R<|A0 hm 0 R fn66 R (K60 _) fun r12 hm=>Aa R R (Bh true R R R)<|J 3 R R (Bj hm)) (fun _ K' h54 J hm=>Ab tbk [] 4 R R<|J 3 R R (Bj hm)) fun c11 hm=>Aa R R (Aj R)<|Ac<|Rt1 hm R [] R R R

/-! trireme/triremeref09.Find -/
def ref09_Find.l1 (ms : List T_api_Machine) (name : ByteArray) : Nat → Int → Option (Out Int Unit)
 | 0, _ => none
 | n + 1, i2 =>
  if (decide (i2 < (ms.length : Int))) = true then
   (V.gl ms i2).bind fun x =>
   if (V.seq x.Name name) = true then
    some (Out.ret i2)
   else
    ref09_Find.l1 ms name n (i64.wrap (i2 + 1))
  else
   some (Out.go ())
def ref09_Find (ms : List T_api_Machine) (name : ByteArray) : Option Int :=
 (ref09_Find.l1 ms name FU (0 : Int)).bind fun o =>
 o.on fun j =>
 some (-1)
theorem K62 (ms : List T_api_Machine) (name : ByteArray) : VS Tryz.prog 93 (ref09_Find ms name) [L41 ms, .str name] [] Iw N0 := by
 refine A6 [.tmp 4] Tryz.func93 R R R fun r hm=>?_
 unfold ref09_Find at hm
 refine Af tbk [] R R<|Ae<|Af tbk [] R R<|B2 hm (fun _ (_:Unit)=>[]) (fun _ (_:Unit)=>[]) (fun o hm h2=>?_) fun j _ hm=> ?_
 ·refine B3 (fun zn (zs:Int)=>ref09_Find.l1 ms name zn zs) (fun zs (_:Unit)=>[(0,L41 ms),(1,.str name),(5,Iw zs)]) (fun _ (_:Unit)=>[]) _ () (fun _=>R) hm (Ag [] R R) fun n i2 _ hm=> ?_
  rw [ref09_Find.l1] at hm
  exact Ae<|Ah<|Ab tbk [] 2 R R<|Aa R R (A5 T_api_Machine.vv R B5)<|Aa R R (Bc R R R)<|Ac<|Am hm R (fun h3 hm=>Ai<|Ae<|A1<|Ah<|Ab tbk [] 2 R R<|Bd hm fun x h4 hm=>Aa R R (A2 T_api_Machine.vv R R el54 h4)<|Ab tbk [] 4 R R<|Ac<|Am hm R (fun h5 hm=>Af tbk [] R R<|have hm:=Lr hm h2;Rt1 hm R [] R R R) fun h5 hm=>Ai<|Bb tbk [] R R<|Ap _ () hm (Ag [] R R)) fun h3 hm=>Ba<|Ar () hm (Ag [] R R)
 exact Af tbk [] R R<|Rt1 hm R [] R R R

/-! trireme/triremeref09.Place -/
def ref09_Place.l1 (bs : List T_api_Bound) (name : ByteArray) : Nat → Int → Option (Out Int Unit)
 | 0, _ => none
 | n + 1, i2 =>
  if (decide (i2 < (bs.length : Int))) = true then
   (V.gl bs i2).bind fun x =>
   if (V.seq x.Pod.Name name) = true then
    some (Out.ret i2)
   else
    ref09_Place.l1 bs name n (i64.wrap (i2 + 1))
  else
   some (Out.go ())
def ref09_Place (bs : List T_api_Bound) (name : ByteArray) : Option Int :=
 (ref09_Place.l1 bs name FU (0 : Int)).bind fun o =>
 o.on fun j =>
 some (-1)
theorem K63 (bs : List T_api_Bound) (name : ByteArray) : VS Tryz.prog 94 (ref09_Place bs name) [L121 bs, .str name] [] Iw N0 := by
 refine A6 [.tmp 4] Tryz.func94 R R R fun r hm=>?_
 unfold ref09_Place at hm
 refine Af tbk [] R R<|Ae<|Af tbk [] R R<|B2 hm (fun _ (_:Unit)=>[]) (fun _ (_:Unit)=>[]) (fun o hm h2=>?_) fun j _ hm=> ?_
 ·refine B3 (fun zn (zs:Int)=>ref09_Place.l1 bs name zn zs) (fun zs (_:Unit)=>[(0,L121 bs),(1,.str name),(5,Iw zs)]) (fun _ (_:Unit)=>[]) _ () (fun _=>R) hm (Ag [] R R) fun n i2 _ hm=> ?_
  rw [ref09_Place.l1] at hm
  exact Ae<|Ah<|Ab tbk [] 2 R R<|Aa R R (A5 T_api_Bound.vv R Bz)<|Aa R R (Bc R R R)<|Ac<|Am hm R (fun h3 hm=>Ai<|Ae<|A1<|Ah<|Ab tbk [] 2 R R<|Bd hm fun x h4 hm=>Aa R R (A2 T_api_Bound.vv R R el55 h4)<|Ab tbk [] 5 R R<|Ac<|Am hm R (fun h5 hm=>Af tbk [] R R<|have hm:=Lr hm h2;Rt1 hm R [] R R R) fun h5 hm=>Ai<|Bb tbk [] R R<|Ap _ () hm (Ag [] R R)) fun h3 hm=>Ba<|Ar () hm (Ag [] R R)
 exact Af tbk [] R R<|Rt1 hm R [] R R R

/-! trireme/triremeref09.Check -/
def ref09_Check.l1 (ms : List T_api_Machine) : Nat → Int → Option (Out Int Unit)
 | 0, _ => none
 | n + 1, i2 =>
  if (decide (i2 < (ms.length : Int))) = true then
   (V.gl ms i2).bind fun x =>
   (if (V.seq x.Name (⟨#[]⟩ : ByteArray)) = true then some true else (V.gl ms i2).bind fun x2 =>
   (ref07_RightMachine x2).bind fun r =>
   some (!r)).bind fun c =>
   if c = true then
    some (Out.ret 12)
   else
    ref09_Check.l1 ms n (i64.wrap (i2 + 1))
  else
   some (Out.go ())
def ref09_Check.l2 (bs : List T_api_Bound) : Nat → Int → Option (Out Int Unit)
 | 0, _ => none
 | n2 + 1, i4 =>
  if (decide (i4 < (bs.length : Int))) = true then
   (V.gl bs i4).bind fun x3 =>
   (ref07_RightPod x3.Pod).bind fun r2 =>
   if (!r2) = true then
    some (Out.ret 12)
   else
    ref09_Check.l2 bs n2 (i64.wrap (i4 + 1))
  else
   some (Out.go ())
def ref09_Check.l3 (ms : List T_api_Machine) : Nat → Int → Option (Out Int Unit)
 | 0, _ => none
 | n3 + 1, i6 =>
  if (decide (i6 < (ms.length : Int))) = true then
   (V.gl ms i6).bind fun x4 =>
   (ref09_Find ms x4.Name).bind fun r3 =>
   if (r3 != i6) = true then
    some (Out.ret 15)
   else
    ref09_Check.l3 ms n3 (i64.wrap (i6 + 1))
  else
   some (Out.go ())
def ref09_Check.l4 (bs : List T_api_Bound) : Nat → Int → Option (Out Int Unit)
 | 0, _ => none
 | n4 + 1, i8 =>
  if (decide (i8 < (bs.length : Int))) = true then
   (V.gl bs i8).bind fun x5 =>
   (ref09_Place bs x5.Pod.Name).bind fun r4 =>
   if (r4 != i8) = true then
    some (Out.ret 15)
   else
    ref09_Check.l4 bs n4 (i64.wrap (i8 + 1))
  else
   some (Out.go ())
def ref09_Check.l5 (ms : List T_api_Machine) (bs : List T_api_Bound) : Nat → Int → Option (Out Int Unit)
 | 0, _ => none
 | n5 + 1, i10 =>
  if (decide (i10 < (bs.length : Int))) = true then
   (V.gl bs i10).bind fun x6 =>
   (if (!(V.seq x6.On (⟨#[]⟩ : ByteArray))) = true then (V.gl bs i10).bind fun x7 =>
   (ref09_Find ms x7.On).bind fun r5 =>
   some (decide (r5 < 0)) else some false).bind fun c2 =>
   if c2 = true then
    some (Out.ret 16)
   else
    ref09_Check.l5 ms bs n5 (i64.wrap (i10 + 1))
  else
   some (Out.go ())
def ref09_Check (ms : List T_api_Machine) (bs : List T_api_Bound) : Option Int :=
 if ((decide ((ms.length : Int) > 200)) || (decide ((bs.length : Int) > 400))) = true then
  some 7
 else
  (ref09_Check.l1 ms FU (0 : Int)).bind fun o =>
  o.on fun j =>
  (ref09_Check.l2 bs FU (0 : Int)).bind fun o2 =>
  o2.on fun j2 =>
  (ref09_Check.l3 ms FU (0 : Int)).bind fun o3 =>
  o3.on fun j3 =>
  (ref09_Check.l4 bs FU (0 : Int)).bind fun o4 =>
  o4.on fun j4 =>
  (ref09_Check.l5 ms bs FU (0 : Int)).bind fun o5 =>
  o5.on fun j5 =>
  some 0
theorem K64 (ms : List T_api_Machine) (bs : List T_api_Bound) : VS Tryz.prog 35 (ref09_Check ms bs) [L41 ms, L121 bs] [] Iw N0 := by
 refine A6 [.tmp 4] Tryz.func35 R R R fun r hm=>?_
 unfold ref09_Check at hm
 refine Af tbk [] R R<|Ae<|Ah<|Aa R R (Ak R)<|Aa R R (A5 T_api_Machine.vv R B5)<|Ab tbk [] 2 R R<|C0 4 17 13 R (fun K' J=>Ab tbk [] 4 R R<|J 3 R R R) (fun h1 K' J=>Bo R R R R R (Ak R)<|Bo R R R R R (A5 T_api_Bound.vv R Bz)<|Ab tbk [] 2 R R<|J 3 R R R)<|Ac<|Am hm R (fun h2 hm=>Af tbk [] R R<|Rt1 hm R [] R R R) fun h2 hm=>Ai<|Ae<|Af tbk [] R R<|B2 hm (fun _ (_:Unit)=>[(0,L41 ms),(1,L121 bs)]) (fun _ (_:Unit)=>[]) (fun o hm h4=>?_) fun j _ hm=> ?_
 ·refine B3 (fun zn (zs:Int)=>ref09_Check.l1 ms zn zs) (fun zs (_:Unit)=>[(0,L41 ms),(1,L121 bs),(5,Iw zs)]) (fun _ (_:Unit)=>[]) _ () (fun _=>R) hm (Ag [] R R) fun n i2 _ hm=> ?_
  rw [ref09_Check.l1] at hm
  exact Ae<|Ah<|Ab tbk [] 2 R R<|Aa R R (A5 T_api_Machine.vv R B5)<|Aa R R (Bc R R R)<|Ac<|Am hm R (fun h5 hm=>Ai<|Ae<|A1<|Ah<|Ab tbk [] 2 R R<|Bd hm fun x h6 hm=>Aa R R (A2 T_api_Machine.vv R R el54 h6)<|Ab tbk [] 4 R R<|Bt hm 7 37 30 R (fun _ K' h7 J hm=>Ab tbk [] 7 R R<|J 6 R R (Bj hm)) (fun _ K' h7 J hm=>Ab tbk [] 2 R R<|Bd hm fun x2 h8 hm=>Bo R R R R R (A2 T_api_Machine.vv R R el54 h8)<|Bo R R R R R (Bl R ld41 R)<|Bm R R R R R<|A0 hm 0 R fn21 R (K53 _) fun r hm=>Ab tbk [] 2 R R<|J 6 R R (Bj hm)) fun c hm=>Ac<|Am hm R (fun h11 hm=>Af tbk [] R R<|have hm:=Lr hm h4;Rt1 hm R [] R R R) fun h11 hm=>Ai<|Bb tbk [] R R<|Ap _ () hm (Ag [] R R)) fun h5 hm=>Ba<|Ar () hm (Ag [] R R)
 refine Ae<|Af tbk [] R R<|B2 hm (fun _ (_:Unit)=>[(0,L41 ms),(1,L121 bs)]) (fun _ (_:Unit)=>[]) (fun o2 hm h13=>?_) fun j2 _ hm=> ?_
 ·refine B3 (fun zn (zs:Int)=>ref09_Check.l2 bs zn zs) (fun zs (_:Unit)=>[(0,L41 ms),(1,L121 bs),(6,Iw zs)]) (fun _ (_:Unit)=>[]) _ () (fun _=>R) hm (Ag [] R R) fun n2 i4 _ hm=> ?_
  rw [ref09_Check.l2] at hm
  exact Ae<|Ah<|Ab tbk [] 2 R R<|Aa R R (A5 T_api_Bound.vv R Bz)<|Aa R R (Bc R R R)<|Ac<|Am hm R (fun h14 hm=>Ai<|Ae<|A1<|Ah<|Ab tbk [] 2 R R<|Bd hm fun x3 h15 hm=>Aa R R (A2 T_api_Bound.vv R R el55 h15)<|Ab tbk [] 2 R R<|Ad R R<|A0 hm 0 R fn13 R (K61 _) fun r2 hm=>Aa R R (C1 R)<|Ac<|Am hm R (fun h17 hm=>Af tbk [] R R<|have hm:=Lr hm h13;Rt1 hm R [] R R R) fun h17 hm=>Ai<|Bb tbk [] R R<|Ap _ () hm (Ag [] R R)) fun h14 hm=>Ba<|Ar () hm (Ag [] R R)
 refine Ae<|Af tbk [] R R<|B2 hm (fun _ (_:Unit)=>[(0,L41 ms),(1,L121 bs)]) (fun _ (_:Unit)=>[]) (fun o3 hm h19=>?_) fun j3 _ hm=> ?_
 ·refine B3 (fun zn (zs:Int)=>ref09_Check.l3 ms zn zs) (fun zs (_:Unit)=>[(0,L41 ms),(1,L121 bs),(7,Iw zs)]) (fun _ (_:Unit)=>[]) _ () (fun _=>R) hm (Ag [] R R) fun n3 i6 _ hm=> ?_
  rw [ref09_Check.l3] at hm
  exact Ae<|Ah<|Ab tbk [] 2 R R<|Aa R R (A5 T_api_Machine.vv R B5)<|Aa R R (Bc R R R)<|Ac<|Am hm R (fun h20 hm=>Ai<|Ae<|A1<|Ah<|Ab tbk [] 3 R R<|Bd hm fun x4 h21 hm=>Aa R R (A2 T_api_Machine.vv R R el54 h21)<|Ab tbk [] 2 R R<|Ad R R<|A0 hm 0 R fn93 R (K62 _ _) fun r3 hm=>Ab tbk [] 2 R R<|Ac<|Am hm R (fun h23 hm=>Af tbk [] R R<|have hm:=Lr hm h19;Rt1 hm R [] R R R) fun h23 hm=>Ai<|Bb tbk [] R R<|Ap _ () hm (Ag [] R R)) fun h20 hm=>Ba<|Ar () hm (Ag [] R R)
 refine Ae<|Af tbk [] R R<|B2 hm (fun _ (_:Unit)=>[(0,L41 ms),(1,L121 bs)]) (fun _ (_:Unit)=>[]) (fun o4 hm h25=>?_) fun j4 _ hm=> ?_
 ·refine B3 (fun zn (zs:Int)=>ref09_Check.l4 bs zn zs) (fun zs (_:Unit)=>[(0,L41 ms),(1,L121 bs),(8,Iw zs)]) (fun _ (_:Unit)=>[]) _ () (fun _=>R) hm (Ag [] R R) fun n4 i8 _ hm=> ?_
  rw [ref09_Check.l4] at hm
  exact Ae<|Ah<|Ab tbk [] 2 R R<|Aa R R (A5 T_api_Bound.vv R Bz)<|Aa R R (Bc R R R)<|Ac<|Am hm R (fun h26 hm=>Ai<|Ae<|A1<|Ah<|Ab tbk [] 3 R R<|Bd hm fun x5 h27 hm=>Aa R R (A2 T_api_Bound.vv R R el55 h27)<|Ab tbk [] 3 R R<|Ad R R<|A0 hm 0 R fn94 R (K63 _ _) fun r4 hm=>Ab tbk [] 2 R R<|Ac<|Am hm R (fun h29 hm=>Af tbk [] R R<|have hm:=Lr hm h25;Rt1 hm R [] R R R) fun h29 hm=>Ai<|Bb tbk [] R R<|Ap _ () hm (Ag [] R R)) fun h26 hm=>Ba<|Ar () hm (Ag [] R R)
 refine Ae<|Af tbk [] R R<|B2 hm (fun _ (_:Unit)=>[]) (fun _ (_:Unit)=>[]) (fun o5 hm h31=>?_) fun j5 _ hm=> ?_
 ·refine B3 (fun zn (zs:Int)=>ref09_Check.l5 ms bs zn zs) (fun zs (_:Unit)=>[(0,L41 ms),(1,L121 bs),(9,Iw zs)]) (fun _ (_:Unit)=>[]) _ () (fun _=>R) hm (Ag [] R R) fun n5 i10 _ hm=> ?_
  rw [ref09_Check.l5] at hm
  exact Ae<|Ah<|Ab tbk [] 2 R R<|Aa R R (A5 T_api_Bound.vv R Bz)<|Aa R R (Bc R R R)<|Ac<|Am hm R (fun h32 hm=>Ai<|Ae<|A1<|Ah<|Ab tbk [] 2 R R<|Bd hm fun x6 h33 hm=>Aa R R (A2 T_api_Bound.vv R R el55 h33)<|Ab tbk [] 4 R R<|Bt hm 9 103 94 R (fun _ K' h34 J hm=>Ab tbk [] 3 R R<|Bd hm fun x7 h35 hm=>Bo R R R R R (A2 T_api_Bound.vv R R el55 h35)<|Ab tbk [] 2 R R<|Bm R R R R R<|A0 hm 0 R fn93 R (K62 _ _) fun r5 hm=>Ab tbk [] 2 R R<|J 8 R R (Bj hm)) (fun _ K' h34 J hm=>Ab tbk [] 9 R R<|J 8 R R (Bj hm)) fun c2 hm=>Ac<|Am hm R (fun h38 hm=>Af tbk [] R R<|have hm:=Lr hm h31;Rt1 hm R [] R R R) fun h38 hm=>Ai<|Bb tbk [] R R<|Ap _ () hm (Ag [] R R)) fun h32 hm=>Ba<|Ar () hm (Ag [] R R)
 exact Af tbk [] R R<|Rt1 hm R [] R R R

/-! trireme/lex.right -/
def lex_right (s : ByteArray) (i : Int) (c : Int) : Option Bool :=
 (if (c != 65533) = true then some true else (if (decide ((i64.wrap (i + 2)) < (s.size : Int))) = true then (V.gi s i).bind fun v =>
 some (v == 239) else some false).bind fun c2 =>
 (if c2 = true then (V.gi s (i64.wrap (i + 1))).bind fun v2 =>
 some (v2 == 191) else some false).bind fun c3 =>
 (if c3 = true then (V.gi s (i64.wrap (i + 2))).bind fun v3 =>
 some (v3 == 189) else some false).bind fun c4 =>
 some c4).bind fun c5 =>
 some c5
theorem K65 (s : ByteArray) (i : Int) (c : Int) : VS Tryz.prog 159 (lex_right s i c) [.str s, Iw i, .int .i32 c] [] .bool N0 := by
 refine A6 [.tmp 6] Tryz.func159 R R R fun r hm=>?_
 unfold lex_right at hm
 exact Af tbk [] R R<|Ah<|Ab tbk [] 3 R R<|Bt hm 26 35 9 R (fun _ K' h1 J hm=>Ab tbk [] 26 R R<|J 25 R R (Bj hm)) (fun _ K' h1 J hm=>Ab tbk [] 3 R R<|Bo R R R R R (Ca R Av)<|Ab tbk [] 2 R R<|Bt hm 5 20 15 R (fun _ K' h2 J hm=>Ab tbk [] 2 R R<|Bd hm fun v h3 hm=>Bo R R R R R (Cr R R Av h3)<|Ab tbk [] 2 R R<|J 4 R R (Bj hm)) (fun _ K' h2 J hm=>Ab tbk [] 5 R R<|J 4 R R (Bj hm)) fun c2 hm=>Bo R R R R R (Ak R)<|Bt hm 6 27 21 R (fun _ K' h5 J hm=>Ab tbk [] 3 R R<|Bd hm fun v2 h6 hm=>Bo R R R R R (Cr R R Av h6)<|Ab tbk [] 2 R R<|J 5 R R (Bj hm)) (fun _ K' h5 J hm=>Ab tbk [] 6 R R<|J 5 R R (Bj hm)) fun c3 hm=>Bo R R R R R (Ak R)<|Bt hm 6 34 28 R (fun _ K' h8 J hm=>Ab tbk [] 3 R R<|Bd hm fun v3 h9 hm=>Bo R R R R R (Cr R R Av h9)<|Ab tbk [] 2 R R<|J 5 R R (Bj hm)) (fun _ K' h8 J hm=>Ab tbk [] 6 R R<|J 5 R R (Bj hm)) fun c4 hm=>Aa R R (Bh false R R R)<|J 11 R R (Bj hm)) fun c5 hm=>Aa R R (Aj R)<|Ac<|Rt1 hm R [] R R R

/-! trireme/lex.plain -/
def lex_plain (c : Int) : Option Bool :=
 (if (c == 40) = true then
  some (c == 40)
 else
  if (c == 41) = true then
   some (c == 41)
  else
   if (c == 34) = true then
    some (c == 34)
   else
    if (c == 59) = true then
     some (c == 59)
    else
     some (c == 127)).bind fun v2 =>
 if v2 = true then
  some false
 else
  some (decide (c > 32))
theorem K66 (c : Int) : VS Tryz.prog 111 (lex_plain c) [.int .i32 c] [] .bool N0 := by
 refine A6 [.tmp 2] Tryz.func111 R R R fun r hm=>?_
 unfold lex_plain at hm
 exact Af tbk [] R R<|Ae<|Af tbk [] R R<|A1<|Cj hm (fun v2 (_:Unit)=>[(0,.int .i32 c),(4,.bool v2)]) (fun _ (_:Unit)=>[]) (fun o hm=>Af tbk [] R R<|Am hm R (fun h3 hm=>Ai<|As () hm (Ag [] R R)) fun h3 hm=>Af tbk [] R R<|Am hm R (fun h4 hm=>Ai<|As () hm (Ag [] R R)) fun h4 hm=>Af tbk [] R R<|Am hm R (fun h5 hm=>Ai<|As () hm (Ag [] R R)) fun h5 hm=>Af tbk [] R R<|Am hm R (fun h6 hm=>Ai<|As () hm (Ag [] R R)) fun h6 hm=>Bb tbk [] R R<|As () hm (Ag [] R R)) fun v2 _ hm=>Am hm R (fun h7 hm=>Af tbk [] R R<|Rt1 hm R [] R R R) fun h7 hm=>Ai<|Af tbk [] R R<|Rt1 hm R [] R R R

/-! trireme/lex.head -/
def lex_head_lex_plain.l1 (s : ByteArray) : Nat → Nat → Option (Out (Int × Bool) Unit)
 | 0, _ => none
 | n + 1, pos2 =>
  if pos2 < s.size then
   (lex_right s (pos2 : Int) ((Utf8.decode s pos2).1 : Int)).bind fun r =>
   if (!r) = true then
    some (Out.ret ((pos2 : Int), false))
   else
    (lex_plain ((Utf8.decode s pos2).1 : Int)).bind fun r2 =>
    if (!r2) = true then
     some (Out.ret ((pos2 : Int), true))
    else
     lex_head_lex_plain.l1 s n (pos2 + (Utf8.decode s pos2).2)
  else
   some (Out.go ())
def lex_head_lex_plain (s : ByteArray) : Option (Int × Bool) :=
 (lex_head_lex_plain.l1 s FU 0).bind fun o =>
 o.on fun j =>
 some ((s.size : Int), true)
theorem K67 (s : ByteArray) : VS Tryz.prog 110 (lex_head_lex_plain s) [.str s, .clo (.func 111) [] []] [] (fun r=>.tup [Iw r.1, .bool r.2]) N0 := by
 refine A6 [.tmp 4,.tmp 5] Tryz.func110 R R R fun r hm=>?_
 unfold lex_head_lex_plain at hm
 refine Af tbk [] R R<|Ae<|Ah<|Aa R R (Ak R)<|Ad R R<|D3 Av R fun b=>Ac<|B2 hm (fun _ (_:Unit)=>[(0,.str s)]) (fun _ (_:Unit)=>[]) (fun o hm h3=>?_) fun j _ hm=> ?_
 ·refine B3 (fun zn (zs:Nat)=>lex_head_lex_plain.l1 s zn zs) (fun _ (_:Unit)=>[(0,.str s),(1,.clo (.func 111) [] []),(9,.ptr b 0)]) (fun zs (_:Unit)=>[.iter b s zs]) _ () (fun _=>R) hm (Ag [0] R R) fun n pos2 _ hm=> ?_
  rw [lex_head_lex_plain.l1] at hm
  exact Ah<|Ad R R<|VO.nx hm 0 R R (fun h4 hm=>Aa R R (Db R R)<|Ac<|Ae<|Br R R<|Ai<|A1<|Af tbk [] R R<|Ae<|Ah<|Ab tbk [] 3 R R<|Ad R R<|A0 hm 0 R fn159 R (K65 _ _ _) fun r hm=>Aa R R (C1 R)<|Ac<|Am hm R (fun h6 hm=>Af tbk [] R R<|have hm:=Lr hm h3;Rt2 hm R [] R R R R) fun h6 hm=>Ai<|Ah<|Ab tbk [] 2 R R<|Ad R R<|A0 hm 0 R fn111 R (K66 _) fun r2 hm=>Aa R R (C1 R)<|Ac<|Am hm R (fun h8 hm=>Af tbk [] R R<|have hm:=Lr hm h3;Rt2 hm R [] R R R R) fun h8 hm=>Ai<|Ap _ () hm (Ag [0] R R)) fun h4 hm=>Aa R R (Db R R)<|Ac<|Ae<|Cb R R<|Ba<|Ar () hm (Ag [] R R)
 exact Ah<|Aa R R (Ak R)<|Aa R R (Ca R Av)<|Ab tbk [] 2 R R<|Ac<|Rt2 hm R [] R R R R

/-! trireme/lex.Runes -/
def lex_Runes.l1 (s : ByteArray) : Nat → Int → Nat → Option (Out Int Int)
 | 0, _, _ => none
 | n4 + 1, n2, pos2 =>
  if pos2 < s.size then
   (lex_right s (pos2 : Int) ((Utf8.decode s pos2).1 : Int)).bind fun r =>
   if (!r) = true then
    some (Out.ret (-1))
   else
    lex_Runes.l1 s n4 (i64.wrap (n2 + 1)) (pos2 + (Utf8.decode s pos2).2)
  else
   some (Out.go n2)
def lex_Runes (s : ByteArray) : Option Int :=
 (lex_Runes.l1 s FU 0 0).bind fun o =>
 o.on fun n32 =>
 some n32
theorem K68 (s : ByteArray) : VS Tryz.prog 112 (lex_Runes s) [.str s] [] Iw N0 := by
 refine A6 [.tmp 2] Tryz.func112 R R R fun r hm=>?_
 unfold lex_Runes at hm
 refine Af tbk [] R R<|Af tbk [] R R<|Ae<|Ah<|Aa R R (Ak R)<|Ad R R<|D3 Av R fun b=>Ac<|B2 hm (fun n32 (_:Unit)=>[(3,Iw n32)]) (fun _ (_:Unit)=>[]) (fun o hm h3=>?_) fun n32 _ hm=> ?_
 ·refine B3 (fun zn (zs:Int × Nat)=>lex_Runes.l1 s zn zs.1 zs.2) (fun zs (_:Unit)=>[(0,.str s),(3,Iw zs.1),(7,.ptr b 0)]) (fun zs (_:Unit)=>[.iter b s zs.2]) ((0 : Int),0) () (fun _=>R) hm (Ag [0] R R) fun n4=>Pq fun n2 pos2 _ hm=> ?_
  rw [lex_Runes.l1] at hm
  exact Ah<|Ad R R<|VO.nx hm 0 R R (fun h4 hm=>Aa R R (Db R R)<|Ac<|Ae<|Br R R<|Ai<|A1<|Af tbk [] R R<|Ae<|Ah<|Ab tbk [] 3 R R<|Ad R R<|A0 hm 0 R fn159 R (K65 _ _ _) fun r hm=>Aa R R (C1 R)<|Ac<|Am hm R (fun h6 hm=>Af tbk [] R R<|have hm:=Lr hm h3;Rt1 hm R [] R R R) fun h6 hm=>Ai<|Bb tbk [] R R<|Ap ((IntKind.i64.wrap (n2 + (1 : Int))),(pos2 + (Utf8.decode s pos2).2)) () hm (Ag [0] R R)) fun h4 hm=>Aa R R (Db R R)<|Ac<|Ae<|Cb R R<|Ba<|Ar () hm (Ag [] R R)
 exact Af tbk [] R R<|Rt1 hm R [] R R R

/-! trireme/lex.Word -/
def lex_Word (s : ByteArray) : Option Bool :=
 (lex_head_lex_plain s).bind fun r =>
 (if ((r.2 && (r.1 == (s.size : Int))) && (decide (r.1 > 0))) = true then (lex_Runes s).bind fun r2 =>
 some (decide (r2 ≤ 64)) else some false).bind fun c =>
 some c
theorem K69 (s : ByteArray) : VS Tryz.prog 55 (lex_Word s) [.str s] [] .bool N0 := by
 refine A6 [.tmp 2] Tryz.func55 R R R fun r hm=>?_
 unfold lex_Word at hm
 exact Af tbk [] R R<|Ah<|Aa R R (Ak R)<|Ad R R<|A0 hm 0 R fn110 R (K67 _) fun r hm=>Ab tbk [] 5 R R<|Ac<|Ah<|Ab tbk [] 2 R R<|Df 5 16 11 R (fun h2 K' J=>Ab tbk [] 2 R R<|Bo R R R R R (Ca R Av)<|Ab tbk [] 2 R R<|J 4 R R R) (fun K' J=>Ab tbk [] 5 R R<|J 4 R R R)<|Aa R R (Ak R)<|Ce tbk [] 3 20 17 R R R R R<|Aa R R (Ak R)<|Bt hm 4 25 21 R (fun _ K' h4 J hm=>Bo R R R R R (Ak R)<|Bm R R R R R<|A0 hm 0 R fn112 R (K68 _) fun r2 hm=>Ab tbk [] 2 R R<|J 3 R R (Bj hm)) (fun _ K' h4 J hm=>Ab tbk [] 4 R R<|J 3 R R (Bj hm)) fun c hm=>Aa R R (Aj R)<|Ac<|Rt1 hm R [] R R R

/-! trireme/spec.maybe -/
def spec_maybe (s : ByteArray) : Option Bool :=
 (if (V.seq s (⟨#[]⟩ : ByteArray)) = true then some true else (lex_Word s).bind fun r =>
 some r).bind fun c =>
 some c
theorem K70 (s : ByteArray) : VS Tryz.prog 56 (spec_maybe s) [.str s] [] .bool N0 := by
 refine A6 [.tmp 2] Tryz.func56 R R R fun r hm=>?_
 unfold spec_maybe at hm
 exact Af tbk [] R R<|Ah<|Ab tbk [] 3 R R<|Bt hm 3 8 5 R (fun _ K' h1 J hm=>Ab tbk [] 3 R R<|J 2 R R (Bj hm)) (fun _ K' h1 J hm=>Bo R R R R R (Ak R)<|Bm R R R R R<|A0 hm 0 R fn55 R (K69 _) fun r hm=>Aa R R (Bh false R R R)<|J 2 R R (Bj hm)) fun c hm=>Aa R R (Aj R)<|Ac<|Rt1 hm R [] R R R

/-! trireme/res.row -/
def res_row (a : T_api_Res) : Option Arr5_Int :=
 some (⟨a.Cpu, a.Mem, a.Disk, a.Pods, a.Dev⟩ : Arr5_Int)
theorem K71 (a : T_api_Res) : VS Tryz.prog 113 (res_row a) [T_api_Res.vv a] [] (fun r=>Arr5_Int.vv r) N0 := by
 refine A6 [.cell 2 151] Tryz.func113 R R R fun r hm=>?_
 unfold res_row at hm
 exact Ah<|Ad R R<|Cd R R fun b=>Ad R R<|Bg z151 fun b2=>Ac<|Ah<|Ab tbk [1,1,1,1,1] 10 R R<|Aa R R (A7 pl151 R R)<|Ad R R<|Ao (i:=0) R R R ld151 R R R<|Ac<|Rt0 hm R [] (.cons (.cell _ _ _ _ 0 _ _ _ _ R R ld151 R) .nil) R R

/-! trireme/res.Right -/
def res_Right.l1 (r : Arr5_Int) : Nat → Int → Option (Out Bool Unit)
 | 0, _ => none
 | n + 1, v2 =>
  if (decide (v2 < 5)) = true then
   (V.gl (Arr5_Int.l r) v2).bind fun x =>
   if ((decide (x < 0)) || (decide (x > 1125899906842624))) = true then
    some (Out.ret false)
   else
    res_Right.l1 r n (i64.wrap (v2 + 1))
  else
   some (Out.go ())
def res_Right (a : T_api_Res) : Option Bool :=
 (res_row a).bind fun r =>
 (res_Right.l1 r FU (0 : Int)).bind fun o =>
 o.on fun j =>
 some true
theorem K72 (a : T_api_Res) : VS Tryz.prog 57 (res_Right a) [T_api_Res.vv a] [] .bool N0 := by
 refine A6 [.tmp 2] Tryz.func57 R R R fun r hm=>?_
 unfold res_Right at hm
 refine Ah<|Ad R R<|Cd R R fun b=>Aa R R (Aj R)<|Ac<|Ae<|Ah<|Ab tbk [0] 1 R R<|Ad R R<|A0 hm 0 R fn113 R (K71 _) fun r hm=>Aa R R (Ak R)<|Ac<|B2 hm (fun _ (_:Unit)=>[]) (fun _ (_:Unit)=>[]) (fun o hm h4=>?_) fun j _ hm=> ?_
 ·refine B3 (fun zn (zs:Int)=>res_Right.l1 r zn zs) (fun zs (_:Unit)=>[(6,Arr5_Int.vv r),(7,Iw zs)]) (fun _ (_:Unit)=>[]) _ () (fun _=>R) hm (Ag [] R R) fun n v2 _ hm=> ?_
  rw [res_Right.l1] at hm
  exact Af tbk [] R R<|Ae<|Am hm R (fun h5 hm=>Ai<|Ae<|A1<|Ah<|Bd hm fun x h6 hm=>Aa R R (VP.indexG (f:=(VV.int .i64)) R R ar151 R ld3 h6)<|Aa R R (Aj R)<|Ac<|Ah<|Ab tbk [] 3 R R<|Cy tbk [] 3 15 12 R R R R R<|Ac<|Am hm R (fun h8 hm=>Af tbk [] R R<|have hm:=Lr hm h4;Rt1 hm R [] R R R) fun h8 hm=>Ai<|Bb tbk [] R R<|Ap _ () hm (Ag [] R R)) fun h5 hm=>Ba<|Ar () hm (Ag [] R R)
 exact Af tbk [] R R<|Rt1 hm R [] R R R

/-! trireme/labels.maybe -/
def labels_maybe (s : ByteArray) : Option Bool :=
 (if (V.seq s (⟨#[]⟩ : ByteArray)) = true then some true else (lex_Word s).bind fun r =>
 some r).bind fun c =>
 some c
theorem K73 (s : ByteArray) : VS Tryz.prog 108 (labels_maybe s) [.str s] [] .bool N0 := by
 refine A6 [.tmp 2] Tryz.func108 R R R fun r hm=>?_
 unfold labels_maybe at hm
 exact Af tbk [] R R<|Ah<|Ab tbk [] 3 R R<|Bt hm 3 8 5 R (fun _ K' h1 J hm=>Ab tbk [] 3 R R<|J 2 R R (Bj hm)) (fun _ K' h1 J hm=>Bo R R R R R (Ak R)<|Bm R R R R R<|A0 hm 0 R fn55 R (K69 _) fun r hm=>Aa R R (Bh false R R R)<|J 2 R R (Bj hm)) fun c hm=>Aa R R (Aj R)<|Ac<|Rt1 hm R [] R R R

/-! trireme/labels.Right -/
def labels_Right.l1 (l : List T_api_Label) : List T_api_Label → Nat → (List (ByteArray × Int)) → Option (Out Bool Unit)
 | [], k, had2 => some (Out.go ())
 | x :: l2, k, had2 =>
  (if (decide (((V.mg (V.mp had2 x.Key (i64.wrap (((V.mg had2 x.Key).getD 0) + 1))) x.Key).getD 0) > 1)) = true then some true else (lex_Word x.Key).bind fun r =>
  some (!r)).bind fun c =>
  (if c = true then some true else (labels_maybe x.Val).bind fun r2 =>
  some (!r2)).bind fun c2 =>
  (if c2 = true then some true else (if (decide ((k : Int) > 0)) = true then (V.gl l (i64.wrap ((k : Int) - 1))).bind fun x2 =>
  some (!(V.slt x2.Key x.Key || V.seq x2.Key x.Key)) else some false).bind fun c3 =>
  some c3).bind fun c4 =>
  if c4 = true then
   some (Out.ret false)
  else
   labels_Right.l1 l l2 (k + 1) (V.mp had2 x.Key (i64.wrap (((V.mg had2 x.Key).getD 0) + 1)))
def labels_Right (l : List T_api_Label) : Option Bool :=
 (labels_Right.l1 l l 0 ([] : List (ByteArray × Int))).bind fun o =>
 o.on fun j =>
 some (decide ((l.length : Int) ≤ 16))
theorem K74 (l : List T_api_Label) : VS Tryz.prog 54 (labels_Right l) [L141 l] [] .bool N0 := by
 refine A6 [.tmp 2] Tryz.func54 R R R fun r hm=>?_
 unfold labels_Right at hm
 refine Af tbk [] R R<|Ah<|Ad R R<|Dq fun b=>Aa R R (Aj R)<|Ac<|Ae<|Ah<|Aa R R (Ak R)<|Aa R R (A5 T_api_Label.vv R B4)<|Aa R R (Ak R)<|Ac<|Ck 0 R fun h4=>B2 hm (fun _ (_:Unit)=>[(0,L141 l)]) (fun _ (_:Unit)=>[]) (fun o hm h3=>?_) fun j _ hm=> ?_
 ·refine Cz (l) (fun zl zk (zs:List (ByteArray × Int))=>labels_Right.l1 l zl zk zs) (fun k _ (_:Unit)=>[(0,L141 l),(3,.map b),(7,L141 l),(8,Iw (l.length : Int)),(9,Iw (k : Int))]) (fun _ zs (_:Unit)=>[.map b (List.map (pf VV.str (VV.int .i64)) zs)]) _ () hm (Ag [0] R R) (fun k had2 _ hk hm=>?_) fun k x l2 had2 _ h5 hm=> ?_
  ·rw [labels_Right.l1] at hm
   exact Af tbk [] R R<|Ae<|Cb R (k_end hk)<|Ba<|Ar () hm (Ag [] R R)
  rw [labels_Right.l1] at hm
  refine Af tbk [] R R<|Ae<|Br R (k_lt h5)<|Ai<|Ae<|A1<|Ah<|Aa R R (Ak R)<|Aa R R (Ct T_api_Label.vv R R el24 h5)<|Aa R R (Bl R ld141 R)<|Ad R R<|Bg z141 fun b2=>Aa R R (Aj R)<|Ad R R<|Ao (i:=0) R R R ld141 R R R<|Ac<|Ah<|Ab tbk [0] 3 R R<|Aa R R (Da 1 (kf:=VV.str) (vf:=(VV.int .i64)) (l:=had2) (k:=x.Key) (z:=(0 : Int)) false mk9 B8 R R R zc3 R)<|Aa R R (Bc R R R)<|Ad R R<|Di 1 (kf:=VV.str) (vf:=(VV.int .i64)) (l:=had2) (k:=x.Key) (z:=(IntKind.i64.wrap (((V.mg had2 x.Key).getD (0 : Int)) + (1 : Int)))) mk9 B8 R R R R<|Ac<|Ae<|A4 0 mixed<|An tbk [0,1,2] [0] (by kernel_rfl) R R R<|Aq 3 R R R (by kernel_rfl) (Da 1 (kf:=VV.str) (vf:=(VV.int .i64)) (l:=(V.mp had2 x.Key (IntKind.i64.wrap (((V.mg had2 x.Key).getD (0 : Int)) + (1 : Int))))) (k:=x.Key) (z:=(0 : Int)) false mk9 B8 R R R zc3 R)<|An tbk [4,5] [] (by kernel_rfl) R R R<|Cq hm [10,9,8,7,6,5,4,3,2,1,0] 29 24 R (fun _ K' h7 J hm=>An tbk [6,7,8,9,10] [] (by kernel_rfl) R R R<|J 4 R R (Bj hm)) (fun _ K' h7 J hm=>An tbk [6,7] [0] (by kernel_rfl) R R R<|Al 8 (by kernel_rfl)<|D0 R R R R R R<|A0 hm 0 R fn55 R (K69 _) fun r hm=>An tbk [9,10] [] (by kernel_rfl) R R R<|J 4 R R (Bj hm)) fun c hm=>Aq 11 R R R (by kernel_rfl) (Ak R)<|Cq hm [16,15,14,13,12,11,10,9,8,7,6,5,4,3,2,1,0] 35 30 R (fun _ K' h10 J hm=>An tbk [12,13,14,15,16] [] (by kernel_rfl) R R R<|J 4 R R (Bj hm)) (fun _ K' h10 J hm=>An tbk [12,13] [0] (by kernel_rfl) R R R<|Al 14 (by kernel_rfl)<|D0 R R R R R R<|A0 hm 0 R fn108 R (K73 _) fun r2 hm=>An tbk [15,16] [] (by kernel_rfl) R R R<|J 4 R R (Bj hm)) fun c2 hm=>Aq 17 R R R (by kernel_rfl) (Ak R)<|Cq hm [31,30,29,28,27,26,25,24,23,22,21,20,19,18,17,16,15,14,13,12,11,10,9,8,7,6,5,4,3,2,1,0] 50 36 R (fun _ K' h13 J hm=>An tbk [18,19,20,21,22,23,24,25,26,27,28,29,30,31] [] (by kernel_rfl) R R R<|J 13 R R (Bj hm)) (fun _ K' h13 J hm=>An tbk [18,19,20] [] (by kernel_rfl) R R R<|Cq hm [30,29,28,27,26,25,24,23,22,21,20,19,18,17,16,15,14,13,12,11,10,9,8,7,6,5,4,3,2,1,0] 49 39 R (fun _ K' h14 J hm=>An tbk [21,22,23] [] (by kernel_rfl) R R R<|Bd hm fun x2 h15 hm=>Bw 24 R R R R R R (by kernel_rfl) (A2 T_api_Label.vv R R el24 h15)<|An tbk [25,26,27,28,29,30] [0] (by kernel_rfl) R R R<|J 9 R R (Bj hm)) (fun _ K' h14 J hm=>An tbk [21,22,23,24,25,26,27,28,29,30] [] (by kernel_rfl) R R R<|J 9 R R (Bj hm)) fun c3 hm=>Aq 31 R R R (by kernel_rfl) (Bh false R R R)<|J 4 R R (Bj hm)) fun c4 hm=>Ay (by kernel_rfl)<|?_
  exact Am hm R (fun h18 hm=>Af tbk [] R R<|have hm:=Lr hm h3;Rt1 hm R [] R R R) fun h18 hm=>Ai<|Bb tbk [] R R<|Ap _ () hm (Bv [1] R ⟨R,R,R,R,congrArg some (k_next h5 h4),trivial⟩)
 exact Ah<|Aa R R (Ak R)<|Aa R R (A5 T_api_Label.vv R B4)<|Ab tbk [] 2 R R<|Ac<|Rt1 hm R [] R R R

/-! trireme/taints.maybe -/
def taints_maybe (s : ByteArray) : Option Bool :=
 (if (V.seq s (⟨#[]⟩ : ByteArray)) = true then some true else (lex_Word s).bind fun r =>
 some r).bind fun c =>
 some c
theorem K75 (s : ByteArray) : VS Tryz.prog 114 (taints_maybe s) [.str s] [] .bool N0 := by
 refine A6 [.tmp 2] Tryz.func114 R R R fun r hm=>?_
 unfold taints_maybe at hm
 exact Af tbk [] R R<|Ah<|Ab tbk [] 3 R R<|Bt hm 3 8 5 R (fun _ K' h1 J hm=>Ab tbk [] 3 R R<|J 2 R R (Bj hm)) (fun _ K' h1 J hm=>Bo R R R R R (Ak R)<|Bm R R R R R<|A0 hm 0 R fn55 R (K69 _) fun r hm=>Aa R R (Bh false R R R)<|J 2 R R (Bj hm)) fun c hm=>Aa R R (Aj R)<|Ac<|Rt1 hm R [] R R R

/-! trireme/taints.known -/
def taints_known (effect : Int) : Option Bool :=
 some (((effect == 1) || (effect == 2)) || (effect == 3))
theorem K76 (effect : Int) : VS Tryz.prog 115 (taints_known effect) [Iw effect] [] .bool N0 := by
 refine A6 [.tmp 2] Tryz.func115 R R R fun r hm=>?_
 unfold taints_known at hm
 exact Af tbk [] R R<|Ah<|Ab tbk [] 3 R R<|Cy tbk [] 3 8 5 R R R R R<|Aa R R (Ak R)<|Cy tbk [] 3 12 9 R R R R R<|Aa R R (Aj R)<|Ac<|Rt1 hm R [] R R R

/-! trireme/taints.like -/
def taints_like (x : T_api_Taint) : Option T_api_Taint :=
 some (⟨x.Key, (⟨#[]⟩ : ByteArray), x.Effect⟩ : T_api_Taint)
theorem K77 (x : T_api_Taint) : VS Tryz.prog 136 (taints_like x) [T_api_Taint.vv x] [] (fun r=>T_api_Taint.vv r) N0 := by
 refine A6 [.cell 2 143] Tryz.func136 R R R fun r hm=>?_
 unfold taints_like at hm
 exact Ah<|Ad R R<|Cd R R fun b=>Ad R R<|Bg z143 fun b2=>Ac<|Ah<|Aa R R (Cx R fa143_1)<|Ad R R<|Ao (i:=1) R R R ld9 R R R<|Ac<|Ah<|Ab tbk [1] 1 R R<|Ad R R<|Ao (i:=0) R R R ld143 R R R<|Ac<|Rt0 hm R [] (.cons (.cell _ _ _ _ 0 _ _ _ _ R R ld143 R) .nil) R R

/-! trireme/taints.Right -/
def taints_Right.l2 (x : T_api_Taint) : List T_api_Taint → Nat → Option (Out (Out Bool Unit) Unit)
 | [], k2 => some (Out.go ())
 | x2 :: l3, k2 =>
  (taints_like x).bind fun r4 =>
  (taints_like x2).bind fun r5 =>
  if (((r4.Key == r5.Key) && ((r4.Val == r5.Val) && ((r4.Effect == r5.Effect) && true))) == true) = true then
   some (Out.ret (Out.ret false))
  else
   taints_Right.l2 x l3 (k2 + 1)
def taints_Right.l1 (l : List T_api_Taint) : List T_api_Taint → Nat → Option (Out Bool Unit)
 | [], k => some (Out.go ())
 | x :: l2, k =>
  (lex_Word x.Key).bind fun r =>
  (if (!r) = true then some true else (taints_maybe x.Val).bind fun r2 =>
  some (!r2)).bind fun c =>
  (if c = true then some true else (taints_known x.Effect).bind fun r3 =>
  some (!r3)).bind fun c2 =>
  if c2 = true then
   some (Out.ret false)
  else
   (V.sl l none (some (k : Int))).bind fun v =>
   (taints_Right.l2 x v 0).bind fun o2 =>
   o2.on fun j2 =>
   taints_Right.l1 l l2 (k + 1)
def taints_Right (l : List T_api_Taint) : Option Bool :=
 (taints_Right.l1 l l 0).bind fun o =>
 o.on fun j =>
 some (decide ((l.length : Int) ≤ 16))
theorem K78 (l : List T_api_Taint) : VS Tryz.prog 81 (taints_Right l) [L143 l] [] .bool N0 := by
 refine A6 [.tmp 2] Tryz.func81 R R R fun r hm=>?_
 unfold taints_Right at hm
 refine Af tbk [] R R<|Ae<|Ah<|Aa R R (Ak R)<|Aa R R (A5 T_api_Taint.vv R Co)<|Aa R R (Ak R)<|Ac<|Ck 0 R fun h3=>B2 hm (fun _ (_:Unit)=>[(0,L143 l)]) (fun _ (_:Unit)=>[]) (fun o hm h2=>?_) fun j _ hm=> ?_
 ·refine Cz (l) (fun zl zk (zs:Unit)=>taints_Right.l1 l zl zk) (fun k _ (_:Unit)=>[(0,L143 l),(7,L143 l),(8,Iw (l.length : Int)),(9,Iw (k : Int))]) (fun _ _ (_:Unit)=>[]) () () hm (Ag [] R R) (fun k _ _ hk hm=>?_) fun k x l2 _ _ h4 hm=> ?_
  ·rw [taints_Right.l1] at hm
   exact Af tbk [] R R<|Ae<|Cb R (k_end hk)<|Ba<|Ar () hm (Ag [] R R)
  rw [taints_Right.l1] at hm
  refine Af tbk [] R R<|Ae<|Br R (k_lt h4)<|Ai<|Ae<|A1<|Ah<|Aa R R (Ak R)<|Aa R R (Ct T_api_Taint.vv R R el39 h4)<|Aa R R (Bl R ld143 R)<|Ad R R<|Bg z143 fun b=>Aa R R (Aj R)<|Ad R R<|Ao (i:=0) R R R ld143 R R R<|Ac<|Ae<|Ah<|Ab tbk [0] 2 R R<|Ad R R<|A0 hm 0 R fn55 R (K69 _) fun r hm=>Ab tbk [] 2 R R<|Bt hm 5 23 18 R (fun _ K' h7 J hm=>Ab tbk [] 5 R R<|J 4 R R (Bj hm)) (fun _ K' h7 J hm=>Ab tbk [0] 2 R R<|Bm R R R R R<|A0 hm 0 R fn114 R (K75 _) fun r2 hm=>Ab tbk [] 2 R R<|J 4 R R (Bj hm)) fun c hm=>Aa R R (Ak R)<|Bt hm 5 29 24 R (fun _ K' h10 J hm=>Ab tbk [] 5 R R<|J 4 R R (Bj hm)) (fun _ K' h10 J hm=>Ab tbk [0] 2 R R<|Bm R R R R R<|A0 hm 0 R fn115 R (K76 _) fun r3 hm=>Ab tbk [] 2 R R<|J 4 R R (Bj hm)) fun c2 hm=>Ac<|Am hm R (fun h13 hm=>Af tbk [] R R<|have hm:=Lr hm h2;Rt1 hm R [] R R R) fun h13 hm=>Ai<|Ah<|Ab tbk [] 2 R R<|Bd hm fun v h14 hm=>Aa R R (Dv R R R el39 h14)<|Aa R R (A5 T_api_Taint.vv R Co)<|Aa R R (Ak R)<|Ac<|Ck 32 R fun h17=>B2 hm (fun _ (_:Unit)=>[(0,L143 l),(7,L143 l),(8,Iw (l.length : Int)),(9,Iw (k : Int))]) (fun _ (_:Unit)=>[]) (fun o2 hm h16=>?_) fun j2 _ hm=> ?_
  ·refine Cz (v) (fun zl zk (zs:Unit)=>taints_Right.l2 x zl zk) (fun k2 _ (_:Unit)=>[(0,L143 l),(4,.ptr b 0),(7,L143 l),(8,Iw (l.length : Int)),(9,Iw (k : Int)),(32,L143 v),(33,Iw (v.length : Int)),(34,Iw (k2 : Int))]) (fun _ _ (_:Unit)=>[X143 b x]) () () hm (Ag [0] R R) (fun k2 _ _ hk hm=>?_) fun k2 x2 l3 _ _ h18 hm=> ?_
   ·rw [taints_Right.l2] at hm
    exact Af tbk [] R R<|Ae<|Cb R (k_end hk)<|Ba<|Ar () hm (Ag [] R R)
   rw [taints_Right.l2] at hm
   refine Af tbk [] R R<|Ae<|Br R (k_lt h18)<|Ai<|Ae<|A1<|Ah<|Aa R R (Ct T_api_Taint.vv R R el39 h18)<|Aa R R (Bl R ld143 R)<|Ad R R<|Bg z143 fun b2=>Ad R R<|Ao (i:=0) R R R ld143 R R R<|Ac<|Ae<|A4 0 mixed<|An tbk [0,2] [1,0] (by kernel_rfl) R R R<|Al 1 (by kernel_rfl)<|Bd hm fun r4 h20 hm=>Au R R R<|Aw 0 R fn136 R (K77 x r4 h20) fun _ _ h24=> ?_
   obtain ⟨rfl,rfl⟩:=h24
   refine Al 3 (by kernel_rfl)<|Bd hm fun r5 h21 hm=>Au R R R<|Aw 0 R fn136 R (K77 x2 r5 h21) fun _ _ h23=> ?_
   obtain ⟨rfl,rfl⟩:=h23
   exact Aq 4 R R R (by kernel_rfl) (D4 shp143 eq143 R R R R)<|Ay (by kernel_rfl)<|Am hm R (fun h22 hm=>Af tbk [] R R<|have hm:=Lr hm h16;have hm:=Lr hm h2;Rt1 hm R [] R R R) fun h22 hm=>Ai<|Bb tbk [] R R<|Ap () () hm (Bv [1] R ⟨R,R,R,R,R,R,R,congrArg some (k_next h18 h17),trivial⟩)
  exact Bb tbk [] R R<|Ap () () hm (Bv [] R ⟨R,R,R,congrArg some (k_next h4 h3),trivial⟩)
 exact Ah<|Aa R R (Ak R)<|Aa R R (A5 T_api_Taint.vv R Co)<|Ab tbk [] 2 R R<|Ac<|Rt1 hm R [] R R R

/-! trireme/spec.RightMachine -/
def spec_RightMachine (m : T_api_Machine) : Option Bool :=
 (spec_maybe m.Name).bind fun r =>
 (if r = true then (spec_maybe m.Group).bind fun r2 =>
 some r2 else some false).bind fun c =>
 (if c = true then (res_Right m.Has).bind fun r3 =>
 some r3 else some false).bind fun c2 =>
 (if c2 = true then (labels_Right m.Labels).bind fun r4 =>
 some r4 else some false).bind fun c3 =>
 (if c3 = true then (taints_Right m.Taints).bind fun r5 =>
 some r5 else some false).bind fun c4 =>
 some c4
theorem K79 (m : T_api_Machine) : VS Tryz.prog 20 (spec_RightMachine m) [T_api_Machine.vv m] [] .bool N0 := by
 refine A6 [.tmp 2] Tryz.func20 R R R fun r hm=>?_
 unfold spec_RightMachine at hm
 exact Ah<|Ad R R<|Cd R R fun b=>Aa R R (Aj R)<|Ac<|Ah<|Ab tbk [0] 2 R R<|Ad R R<|A0 hm 0 R fn56 R (K70 _) fun r hm=>Aa R R (Ak R)<|Bt hm 4 10 6 R (fun _ K' h3 J hm=>Ab tbk [0] 2 R R<|Bm R R R R R<|A0 hm 0 R fn56 R (K70 _) fun r2 hm=>Aa R R (Bh true R R R)<|J 3 R R (Bj hm)) (fun _ K' h3 J hm=>Ab tbk [] 4 R R<|J 3 R R (Bj hm)) fun c hm=>Aa R R (Ak R)<|Bt hm 4 15 11 R (fun _ K' h6 J hm=>Ab tbk [0] 2 R R<|Bm R R R R R<|A0 hm 0 R fn57 R (K72 _) fun r3 hm=>Aa R R (Bh true R R R)<|J 3 R R (Bj hm)) (fun _ K' h6 J hm=>Ab tbk [] 4 R R<|J 3 R R (Bj hm)) fun c2 hm=>Aa R R (Ak R)<|Bt hm 4 20 16 R (fun _ K' h9 J hm=>Ab tbk [0] 2 R R<|Bm R R R R R<|A0 hm 0 R fn54 R (K74 _) fun r4 hm=>Aa R R (Bh true R R R)<|J 3 R R (Bj hm)) (fun _ K' h9 J hm=>Ab tbk [] 4 R R<|J 3 R R (Bj hm)) fun c3 hm=>Aa R R (Ak R)<|Bt hm 4 25 21 R (fun _ K' h12 J hm=>Ab tbk [0] 2 R R<|Bm R R R R R<|A0 hm 0 R fn81 R (K78 _) fun r5 hm=>Aa R R (Bh true R R R)<|J 3 R R (Bj hm)) (fun _ K' h12 J hm=>Ab tbk [] 4 R R<|J 3 R R (Bj hm)) fun c4 hm=>Aa R R (Aj R)<|Ac<|Rt1 hm R [] R R R

/-! trireme/yard.Check$2 -/
def yard_Check_2 (i : Int) (a : List T_api_Machine) : Option Bool :=
 (V.gl a i).bind fun x =>
 (if (V.seq x.Name (⟨#[]⟩ : ByteArray)) = true then some true else (V.gl a i).bind fun x2 =>
 (spec_RightMachine x2).bind fun r =>
 some (!r)).bind fun c =>
 some c
theorem K80 (i : Int) (a : List T_api_Machine) (b : Nat) : VS Tryz.prog 144 (yard_Check_2 i a) [Iw i, .ptr b 0] [.box b 54 [L41 a]] .bool (fun r=>[.box b 54 [L41 a]]) := by
 refine A6 [.tmp 3] Tryz.func144 R R R fun r hm=>?_
 unfold yard_Check_2 at hm
 exact Af tbk [] R R<|Ah<|Ab tbk [0] 2 R R<|Bd hm fun x h1 hm=>Aa R R (A2 T_api_Machine.vv R R el54 h1)<|Ab tbk [] 4 R R<|Bt hm 7 17 10 R (fun _ K' h2 J hm=>Ab tbk [] 7 R R<|J 6 R R (Bj hm)) (fun _ K' h2 J hm=>Ab tbk [0] 2 R R<|Bd hm fun x2 h3 hm=>Bo R R R R R (A2 T_api_Machine.vv R R el54 h3)<|Bo R R R R R (Bl R ld41 R)<|Bm R R R R R<|A0 hm 0 R fn20 R (K79 _) fun r hm=>Ab tbk [] 2 R R<|J 6 R R (Bj hm)) fun c hm=>Aa R R (Aj R)<|Ac<|Rt1 hm R [0] R R R

/-! trireme/yard.first -/
def yard_first_yard_Check_2.l1 (n : Int) (c : List T_api_Machine) : Nat → Int → Option (Out Int Unit)
 | 0, _ => none
 | n2 + 1, v2 =>
  if (decide (v2 < n)) = true then
   (yard_Check_2 v2 c).bind fun r =>
   if r = true then
    some (Out.ret v2)
   else
    yard_first_yard_Check_2.l1 n c n2 (i64.wrap (v2 + 1))
  else
   some (Out.go ())
def yard_first_yard_Check_2 (n : Int) (c : List T_api_Machine) : Option Int :=
 (yard_first_yard_Check_2.l1 n c FU (0 : Int)).bind fun o =>
 o.on fun j =>
 some (-1)
theorem K81 (n : Int) (c : List T_api_Machine) (b : Nat) : VS Tryz.prog 143 (yard_first_yard_Check_2 n c) [Iw n, .clo (.func 144) [] [.ptr b 0]] [.box b 54 [L41 c]] Iw (fun r=>[.box b 54 [L41 c]]) := by
 refine A6 [.tmp 4] Dj R R R fun r hm=>?_
 unfold yard_first_yard_Check_2 at hm
 refine Af tbk [] R R<|Ae<|Af tbk [] R R<|B2 hm (fun _ (_:Unit)=>[]) (fun _ (_:Unit)=>[.box b 54 [L41 c]]) (fun o hm h2=>?_) fun j _ hm=> ?_
 ·refine B3 (fun zn (zs:Int)=>yard_first_yard_Check_2.l1 n c zn zs) (fun zs (_:Unit)=>[(1,.clo (.func 144) [] [.ptr b 0]),(6,Iw n),(7,Iw zs)]) (fun _ (_:Unit)=>[.box b 54 [L41 c]]) _ () (fun _=>R) hm (Ag [0] R R) fun n2 v2 _ hm=> ?_
  rw [yard_first_yard_Check_2.l1] at hm
  exact Af tbk [] R R<|Ae<|Am hm R (fun h3 hm=>Ai<|Ae<|A1<|Af tbk [] R R<|Ah<|Ab tbk [] 2 R R<|Ad R R<|A0 hm 1 R fn144 R (K80 _ _ _) fun r hm=>Ac<|Am hm R (fun h5 hm=>Af tbk [] R R<|have hm:=Lr hm h2;Rt1 hm R [0] R R R) fun h5 hm=>Ai<|Bb tbk [] R R<|Ap _ () hm (Ag [0] R R)) fun h3 hm=>Ba<|Ar () hm (Ag [0] R R)
 exact Af tbk [] R R<|Rt1 hm R [0] R R R

/-! trireme/yard.Check$1 -/
def yard_Check_1_yard_Check_2 (n : Int) (c : List T_api_Machine) : Option Bool :=
 (yard_first_yard_Check_2 n c).bind fun r =>
 some (r != (-1))
theorem K82 (n : Int) (c : List T_api_Machine) (b : Nat) : VS Tryz.prog 142 (yard_Check_1_yard_Check_2 n c) [Iw n, .clo (.func 144) [] [.ptr b 0]] [.box b 54 [L41 c]] .bool (fun r=>[.box b 54 [L41 c]]) := by
 refine A6 [.tmp 4] Dy R R R fun r hm=>?_
 unfold yard_Check_1_yard_Check_2 at hm
 exact Af tbk [] R R<|Ah<|Ab tbk [] 2 R R<|Ad R R<|A0 hm 1 R fn143 R (K81 _ _ _) fun r hm=>Ab tbk [] 2 R R<|Ac<|Rt1 hm R [0] R R R

/-! trireme/quant.head -/
def quant_head.l1 (s : ByteArray) : Nat → Int → Option Int
 | 0, _ => none
 | n4 + 1, n2 =>
  (if (decide (n2 < (s.size : Int))) = true then (V.gi s n2).bind fun v =>
  some (decide (v ≥ 48)) else some false).bind fun c =>
  (if c = true then (V.gi s n2).bind fun v2 =>
  some (decide (v2 ≤ 57)) else some false).bind fun c2 =>
  if c2 = true then
   quant_head.l1 s n4 (i64.wrap (n2 + 1))
  else
   some n2
def quant_head (s : ByteArray) : Option Int :=
 (quant_head.l1 s FU (0 : Int)).bind fun n32 =>
 some n32
theorem K83 (s : ByteArray) : VS Tryz.prog 177 (quant_head s) [.str s] [] Iw N0 := by
 refine A6 [.tmp 2] Tryz.func177 R R R fun r hm=>?_
 unfold quant_head at hm
 refine Af tbk [] R R<|Af tbk [] R R<|Cj hm (fun n32 (_:Unit)=>[(3,Iw n32)]) (fun _ (_:Unit)=>[]) (fun o hm=>?_) fun n32 _ hm=> ?_
 ·refine B3 (fun zn (zs:Int)=>quant_head.l1 s zn zs) (fun zs (_:Unit)=>[(0,.str s),(3,Iw zs)]) (fun _ (_:Unit)=>[]) _ () (fun _=>R) hm (Ag [] R R) fun n4 n2 _ hm=> ?_
  rw [quant_head.l1] at hm
  exact Ae<|Ah<|Ab tbk [] 2 R R<|Aa R R (Ca R Av)<|Ab tbk [] 2 R R<|Bt hm 5 13 8 R (fun _ K' h3 J hm=>Ab tbk [] 2 R R<|Bd hm fun v h4 hm=>Bo R R R R R (Cr R R Av h4)<|Ab tbk [] 2 R R<|J 4 R R (Bj hm)) (fun _ K' h3 J hm=>Ab tbk [] 5 R R<|J 4 R R (Bj hm)) fun c hm=>Aa R R (Ak R)<|Bt hm 5 19 14 R (fun _ K' h6 J hm=>Ab tbk [] 2 R R<|Bd hm fun v2 h7 hm=>Bo R R R R R (Cr R R Av h7)<|Ab tbk [] 2 R R<|J 4 R R (Bj hm)) (fun _ K' h6 J hm=>Ab tbk [] 5 R R<|J 4 R R (Bj hm)) fun c2 hm=>Ac<|Am hm R (fun h9 hm=>Ai<|A1<|Bb tbk [] R R<|Ap _ () hm (Ag [] R R)) fun h9 hm=>Ba<|As () hm (Ag [] R R)
 exact Af tbk [] R R<|Rt1 hm R [] R R R

/-! trireme/quant.value -/
def quant_value.l1 (s : ByteArray) (most : Int) : Nat → Int → Int → Option (Out (Int × Bool) Int)
 | 0, _, _ => none
 | n4 + 1, n2, v2 =>
  if (decide (v2 < (s.size : Int))) = true then
   (V.gi s v2).bind fun v3 =>
   (V.quo (i64.wrap (most - (i64.wrap (IntKind.u8.wrap (v3 - 48))))) (10 : Int)).bind fun v4 =>
   if (decide (n2 > (i64.wrap v4))) = true then
    some (Out.ret (0, false))
   else
    quant_value.l1 s most n4 (i64.wrap ((i64.wrap (10 * n2)) + (i64.wrap (IntKind.u8.wrap (v3 - 48))))) (i64.wrap (v2 + 1))
  else
   some (Out.go n2)
def quant_value (s : ByteArray) (most : Int) : Option (Int × Bool) :=
 (quant_value.l1 s most FU 0 (0 : Int)).bind fun o =>
 o.on fun n32 =>
 some (n32, true)
theorem K84 (s : ByteArray) (most : Int) : VS Tryz.prog 178 (quant_value s most) [.str s, Iw most] [] (fun r=>.tup [Iw r.1, .bool r.2]) N0 := by
 refine A6 [.tmp 4,.tmp 5] Tryz.func178 R R R fun r hm=>?_
 unfold quant_value at hm
 refine Af tbk [] R R<|Af tbk [] R R<|Ae<|Ah<|Aa R R (Ak R)<|Aa R R (Ca R Av)<|Aa R R (Ak R)<|Ac<|B2 hm (fun n32 (_:Unit)=>[(6,Iw n32)]) (fun _ (_:Unit)=>[]) (fun o hm h2=>?_) fun n32 _ hm=> ?_
 ·refine B3 (fun zn (zs:Int × Int)=>quant_value.l1 s most zn zs.1 zs.2) (fun zs (_:Unit)=>[(0,.str s),(1,Iw most),(6,Iw zs.1),(10,Iw (s.size : Int)),(11,Iw zs.2)]) (fun _ (_:Unit)=>[]) ((0 : Int),(0 : Int)) () (fun _=>R) hm (Ag [] R R) fun n4=>Pq fun n2 v2 _ hm=> ?_
  rw [quant_value.l1] at hm
  exact Af tbk [] R R<|Ae<|Am hm R (fun h3 hm=>Ai<|Ae<|A1<|Af tbk [] R R<|Ah<|Ab tbk [] 2 R R<|Bd hm fun v3 h4 hm=>Aa R R (Cr R R Av h4)<|Aa R R (Bc R R R)<|Aa R R (Cf Bq Bx R)<|Aa R R (Aj R)<|Ac<|Ae<|Ah<|Ab tbk [] 4 R R<|Bd hm fun v4 h5 hm=>Aa R R (C5 R R h5)<|Aa R R (Bc R R R)<|Ac<|Am hm R (fun h6 hm=>Af tbk [] R R<|have hm:=Lr hm h2;Rt2 hm R [] R R R R) fun h6 hm=>Ai<|Bb tbk [] R R<|Bb tbk [] R R<|Ap ((IntKind.i64.wrap ((IntKind.i64.wrap ((10 : Int) * n2)) + (IntKind.i64.wrap (IntKind.u8.wrap (v3 - (48 : Int)))))),(IntKind.i64.wrap (v2 + (1 : Int)))) () hm (Ag [] R R)) fun h3 hm=>Ba<|Ar () hm (Ag [] R R)
 exact Af tbk [] R R<|Rt2 hm R [] R R R R

/-! trireme/quant.Number -/
def quant_Number (s : ByteArray) : Option (Int × Int) :=
 (if (V.seq s (⟨#[]⟩ : ByteArray)) = true then some true else (quant_head s).bind fun r =>
 some (r != (s.size : Int))).bind fun c =>
 if c = true then
  some (0, 8)
 else
  (quant_value s (1125899906842624 : Int)).bind fun r2 =>
  if (!r2.2) = true then
   some (0, 10)
  else
   some (r2.1, 0)
theorem K85 (s : ByteArray) : VS Tryz.prog 158 (quant_Number s) [.str s] [] (fun r=>.tup [Iw r.1, Iw r.2]) N0 := by
 refine A6 [.tmp 2,.tmp 3] Tryz.func158 R R R fun r hm=>?_
 unfold quant_Number at hm
 exact Af tbk [] R R<|Ae<|Ah<|Ab tbk [] 3 R R<|Bt hm 6 14 8 R (fun _ K' h1 J hm=>Ab tbk [] 6 R R<|J 5 R R (Bj hm)) (fun _ K' h1 J hm=>Bo R R R R R (Ak R)<|Bm R R R R R<|A0 hm 0 R fn177 R (K83 _) fun r hm=>Bo R R R R R (Ak R)<|Bo R R R R R (Ca R Av)<|Ab tbk [] 2 R R<|J 5 R R (Bj hm)) fun c hm=>Ac<|Am hm R (fun h4 hm=>Af tbk [] R R<|Rt2 hm R [] R R R R) fun h4 hm=>Ai<|Ah<|Aa R R (Ak R)<|Ad R R<|A0 hm 0 R fn178 R (K84 _ _) fun r2 hm=>Ab tbk [] 5 R R<|Ac<|Ae<|Af tbk [] R R<|Am hm R (fun h6 hm=>Af tbk [] R R<|Rt2 hm R [] R R R R) fun h6 hm=>Ai<|Af tbk [] R R<|Rt2 hm R [] R R R R

/-! trireme/labels.number -/
def labels_number (s : ByteArray) : Option (Int × Bool) :=
 (quant_Number s).bind fun r =>
 some (r.1, (r.2 == 0))
theorem K86 (s : ByteArray) : VS Tryz.prog 109 (labels_number s) [.str s] [] (fun r=>.tup [Iw r.1, .bool r.2]) N0 := by
 refine A6 [.tmp 2,.tmp 3] Tryz.func109 R R R fun r hm=>?_
 unfold labels_number at hm
 exact Af tbk [] R R<|Ah<|Aa R R (Ak R)<|Ad R R<|A0 hm 0 R fn158 R (K85 _) fun r hm=>Ab tbk [] 5 R R<|Ac<|Af tbk [] R R<|Rt2 hm R [] R R R R

/-! trireme/labels.RightTerm -/
def labels_RightTerm.l1 : List ByteArray → Nat → Option (Out (Out Bool Unit) Unit)
 | [], k => some (Out.go ())
 | x3 :: l, k =>
  (labels_maybe x3).bind fun r4 =>
  if (!r4) = true then
   some (Out.ret (Out.ret false))
  else
   labels_RightTerm.l1 l (k + 1)
def labels_RightTerm (t : T_api_Term) : Option Bool :=
 (lex_Word t.Key).bind fun r =>
 if (!r) = true then
  some false
 else
  ((if (t.Op == 1) = true then
   some (Out.go ())
  else
   if (t.Op == 2) = true then
    some (Out.go ())
   else
    if (t.Op == 3) = true then
     some (Out.ret (Out.go ()))
    else
     if (t.Op == 4) = true then
      some (Out.ret (Out.go ()))
     else
      if (t.Op == 5) = true then
       ((if ((t.Vals.length : Int) == 1) = true then
        (V.gl t.Vals (0 : Int)).bind fun x =>
        (labels_number x).bind fun r2 =>
        some r2.2
       else
        some false).bind fun q => some (Out.ret q)).bind fun q => some (Out.ret q)
      else
       if (t.Op == 6) = true then
        ((if ((t.Vals.length : Int) == 1) = true then
         (V.gl t.Vals (0 : Int)).bind fun x2 =>
         (labels_number x2).bind fun r3 =>
         some r3.2
        else
         some false).bind fun q => some (Out.ret q)).bind fun q => some (Out.ret q)
       else
        some (Out.ret (Out.ret false))).bind fun o2 =>
  o2.on fun j2 =>
  (labels_RightTerm.l1 t.Vals 0).bind fun o3 =>
  o3.on fun j3 =>
  some (Out.ret ((decide ((t.Vals.length : Int) ≥ 1)) && (decide ((t.Vals.length : Int) ≤ 16))))).bind fun o =>
  o.on fun j =>
  some ((t.Vals.length : Int) == 0)
theorem K87 (t : T_api_Term) : VS Tryz.prog 53 (labels_RightTerm t) [T_api_Term.vv t] [] .bool N0 := by
 refine A6 [.tmp 2] Tryz.func53 R R R fun r hm=>?_
 unfold labels_RightTerm at hm
 refine Ah<|Ad R R<|Cd R R fun b=>Aa R R (Aj R)<|Ac<|Ae<|Ah<|Ab tbk [0] 2 R R<|Ad R R<|A0 hm 0 R fn55 R (K69 _) fun r hm=>Aa R R (C1 R)<|Ac<|Am hm R (fun h3 hm=>Af tbk [] R R<|Rt1 hm R [] R R R) fun h3 hm=>Ai<|Ae<|Af tbk [0] R R<|A1<|Ae<|A1<|VW.jo hm (fun _ (_:Unit)=>[(1,.ptr b 0)]) (fun _ (_:Unit)=>[X73 b t]) (fun o hm h5=>?_) fun j _ hm=> ?_
 ·refine A1<|A1<|VW.jo hm (fun _ (_:Unit)=>[(1,.ptr b 0)]) (fun _ (_:Unit)=>[X73 b t]) (fun o2 hm h7=>?_) fun j2 _ hm=> ?_
  ·exact A1<|A1<|Ae<|Ae<|Af tbk [] R R<|Am hm R (fun h8 hm=>Ba<|Ar () hm (Ag [0] R R)) fun h8 hm=>Ai<|Ae<|Af tbk [] R R<|Am hm R (fun h9 hm=>Ba<|Ar () hm (Ag [0] R R)) fun h9 hm=>Ai<|Ae<|Af tbk [] R R<|Am hm R (fun h10 hm=>Ba<|have hm:=Lr hm h7;Ar () hm (Ag [0] R R)) fun h10 hm=>Ai<|Ae<|Af tbk [] R R<|Am hm R (fun h11 hm=>Ba<|have hm:=Lr hm h7;Ar () hm (Ag [0] R R)) fun h11 hm=>Ai<|Ae<|Af tbk [] R R<|Am hm R (fun h12 hm=>Ai<|Br R h12<|Ba<|have hm:=Lr2 hm h7;have hm:=Lr2 hm h5;Ae<|Ah<|Ab tbk [0] 2 R R<|Aa R R (A5 VV.str R B0)<|Aa R R (Bc R R R)<|Ac<|Am hm R (fun h13 hm=>Ah<|Ab tbk [0] 2 R R<|Bd hm fun x h14 hm=>Aa R R (A2 VV.str R R el65 h14)<|Aa R R (Bl R ld9 R)<|Ad R R<|A0 hm 0 R fn109 R (K86 _) fun r2 hm=>Ab tbk [] 5 R R<|Ac<|Af tbk [] R R<|Rt1 hm R [] R R R) fun h13 hm=>Ai<|Ba<|Af tbk [] R R<|Rt1 hm R [] R R R) fun h12 hm=>Bb tbk [] R R<|Am hm R (fun h18 hm=>Ba<|have hm:=Lr2 hm h7;have hm:=Lr2 hm h5;Ae<|Ah<|Ab tbk [0] 2 R R<|Aa R R (A5 VV.str R B0)<|Aa R R (Bc R R R)<|Ac<|Am hm R (fun h19 hm=>Ah<|Ab tbk [0] 2 R R<|Bd hm fun x2 h20 hm=>Aa R R (A2 VV.str R R el65 h20)<|Aa R R (Bl R ld9 R)<|Ad R R<|A0 hm 0 R fn109 R (K86 _) fun r3 hm=>Ab tbk [] 5 R R<|Ac<|Af tbk [] R R<|Rt1 hm R [] R R R) fun h19 hm=>Ai<|Ba<|Af tbk [] R R<|Rt1 hm R [] R R R) fun h18 hm=>Ai<|Ba<|have hm:=Lr hm h7;have hm:=Lr hm h5;Af tbk [] R R<|Rt1 hm R [] R R R
  refine Ae<|Ae<|Ah<|Ab tbk [0] 2 R R<|Aa R R (A5 VV.str R B0)<|Aa R R (Ak R)<|Ac<|Ck 25 R fun h26=>B2 hm (fun _ (_:Unit)=>[(1,.ptr b 0)]) (fun _ (_:Unit)=>[X73 b t]) (fun o3 hm h25=>?_) fun j3 _ hm=> ?_
  ·refine Cz (t.Vals) (fun zl zk (zs:Unit)=>labels_RightTerm.l1 zl zk) (fun k _ (_:Unit)=>[(1,.ptr b 0),(25,L9 t.Vals),(26,Iw (t.Vals.length : Int)),(27,Iw (k : Int))]) (fun _ _ (_:Unit)=>[X73 b t]) () () hm (Ag [0] R R) (fun k _ _ hk hm=>?_) fun k x3 l _ _ h27 hm=> ?_
   ·rw [labels_RightTerm.l1] at hm
    exact Af tbk [] R R<|Ae<|Cb R (k_end hk)<|Ba<|Ar () hm (Ag [0] R R)
   rw [labels_RightTerm.l1] at hm
   exact Af tbk [] R R<|Ae<|Br R (k_lt h27)<|Ai<|Ae<|A1<|Ah<|Aa R R (Ct VV.str R R el65 h27)<|Ab tbk [] 2 R R<|Ac<|Ah<|Aa R R (Ak R)<|Ad R R<|A0 hm 0 R fn108 R (K73 _) fun r4 hm=>Aa R R (C1 R)<|Ac<|Am hm R (fun h29 hm=>Af tbk [] R R<|have hm:=Lr hm h25;have hm:=Lr hm h5;Rt1 hm R [] R R R) fun h29 hm=>Ai<|Bb tbk [] R R<|Ap () () hm (Bv [0] R ⟨R,R,R,congrArg some (k_next h27 h26),trivial⟩)
  exact Ah<|Ab tbk [0] 2 R R<|Aa R R (A5 VV.str R B0)<|Ab tbk [] 2 R R<|Df 5 44 39 R (fun h30 K' J=>Ab tbk [0] 2 R R<|Bo R R R R R (A5 VV.str R B0)<|Ab tbk [] 2 R R<|J 4 R R R) (fun K' J=>Ab tbk [] 5 R R<|J 4 R R R)<|Aa R R (Aj R)<|Ac<|have hm:=Lr hm h5;Rt1 hm R [] R R R
 exact Ae<|Ah<|Ab tbk [0] 2 R R<|Aa R R (A5 VV.str R B0)<|Ab tbk [] 2 R R<|Ac<|Rt1 hm R [] R R R

/-! trireme/spec.between -/
def spec_between (n : Int) (low : Int) (high : Int) : Option Bool :=
 some ((decide (n ≥ low)) && (decide (n ≤ high)))
theorem K88 (n : Int) (low : Int) (high : Int) : VS Tryz.prog 58 (spec_between n low high) [Iw n, Iw low, Iw high] [] .bool N0 := by
 refine A6 [.tmp 6] Tryz.func58 R R R fun r hm=>?_
 unfold spec_between at hm
 exact Af tbk [] R R<|Ah<|Ab tbk [] 4 R R<|Ce tbk [] 4 14 10 R R R R R<|Aa R R (Aj R)<|Ac<|Rt1 hm R [] R R R

/-! trireme/taints.RightBears -/
def taints_RightBears.l1 : List T_api_Toleration → Nat → Option (Out Bool Unit)
 | [], k => some (Out.go ())
 | x :: l2, k =>
  (taints_maybe x.Key).bind fun r =>
  (if (!r) = true then some true else (taints_maybe x.Val).bind fun r2 =>
  some (!r2)).bind fun c =>
  if c = true then
   some (Out.ret false)
  else
   (if (x.Effect != 0) = true then (taints_known x.Effect).bind fun r3 =>
   some (!r3) else some false).bind fun c2 =>
   if c2 = true then
    some (Out.ret false)
   else
    if ((x.Any && (!(V.seq x.Val (⟨#[]⟩ : ByteArray)))) || ((!x.Any) && (V.seq x.Key (⟨#[]⟩ : ByteArray)))) = true then
     some (Out.ret false)
    else
     taints_RightBears.l1 l2 (k + 1)
def taints_RightBears (l : List T_api_Toleration) : Option Bool :=
 (taints_RightBears.l1 l 0).bind fun o =>
 o.on fun j =>
 some (decide ((l.length : Int) ≤ 16))
theorem K89 (l : List T_api_Toleration) : VS Tryz.prog 59 (taints_RightBears l) [L83 l] [] .bool N0 := by
 refine A6 [.tmp 2] Tryz.func59 R R R fun r hm=>?_
 unfold taints_RightBears at hm
 refine Af tbk [] R R<|Ae<|Ah<|Aa R R (Ak R)<|Aa R R (A5 T_api_Toleration.vv R C2)<|Aa R R (Ak R)<|Ac<|Ck 0 R fun h3=>B2 hm (fun _ (_:Unit)=>[(0,L83 l)]) (fun _ (_:Unit)=>[]) (fun o hm h2=>?_) fun j _ hm=> ?_
 ·refine Cz (l) (fun zl zk (zs:Unit)=>taints_RightBears.l1 zl zk) (fun k _ (_:Unit)=>[(0,L83 l),(5,L83 l),(6,Iw (l.length : Int)),(7,Iw (k : Int))]) (fun _ _ (_:Unit)=>[]) () () hm (Ag [] R R) (fun k _ _ hk hm=>?_) fun k x l2 _ _ h4 hm=> ?_
  ·rw [taints_RightBears.l1] at hm
   exact Af tbk [] R R<|Ae<|Cb R (k_end hk)<|Ba<|Ar () hm (Ag [] R R)
  rw [taints_RightBears.l1] at hm
  exact Af tbk [] R R<|Ae<|Br R (k_lt h4)<|Ai<|Ae<|A1<|Ah<|Aa R R (Ct T_api_Toleration.vv R R el26 h4)<|Aa R R (Bl R ld83 R)<|Ad R R<|Bg z83 fun b=>Ad R R<|Ao (i:=0) R R R ld83 R R R<|Ac<|A1<|Ah<|Ab tbk [0] 2 R R<|Ad R R<|A0 hm 0 R fn114 R (K75 _) fun r hm=>Ab tbk [] 2 R R<|Bt hm 5 21 16 R (fun _ K' h7 J hm=>Ab tbk [] 5 R R<|J 4 R R (Bj hm)) (fun _ K' h7 J hm=>Ab tbk [0] 2 R R<|Bm R R R R R<|A0 hm 0 R fn114 R (K75 _) fun r2 hm=>Ab tbk [] 2 R R<|J 4 R R (Bj hm)) fun c hm=>Aa R R (Aj R)<|Ac<|Am hm R (fun h10 hm=>Af tbk [] R R<|have hm:=Lr hm h2;Rt1 hm R [] R R R) fun h10 hm=>Ah<|Ab tbk [0] 4 R R<|Bt hm 5 31 26 R (fun _ K' h11 J hm=>Ab tbk [0] 2 R R<|Bm R R R R R<|A0 hm 0 R fn115 R (K76 _) fun r3 hm=>Ab tbk [] 2 R R<|J 4 R R (Bj hm)) (fun _ K' h11 J hm=>Ab tbk [] 5 R R<|J 4 R R (Bj hm)) fun c2 hm=>Aa R R (Aj R)<|Ac<|Am hm R (fun h14 hm=>Af tbk [] R R<|have hm:=Lr hm h2;Rt1 hm R [] R R R) fun h14 hm=>Ah<|Ab tbk [0] 3 R R<|Ce tbk [0] 4 39 35 R R R R R<|Aa R R (Ak R)<|C0 9 49 40 R (fun K' J=>Ab tbk [] 9 R R<|J 8 R R R) (fun h16 K' J=>Ab tbk [0] 4 R R<|Ce tbk [0] 4 48 44 R R R R R<|Aa R R (Bh false R R R)<|J 5 R R R)<|Aa R R (Aj R)<|Ac<|Am hm R (fun h18 hm=>Af tbk [] R R<|have hm:=Lr hm h2;Rt1 hm R [] R R R) fun h18 hm=>Ai<|Bb tbk [] R R<|Ap () () hm (Bv [] R ⟨R,R,R,congrArg some (k_next h4 h3),trivial⟩)
 exact Ah<|Aa R R (Ak R)<|Aa R R (A5 T_api_Toleration.vv R C2)<|Ab tbk [] 2 R R<|Ac<|Rt1 hm R [] R R R

/-! trireme/spec.RightPod -/
def spec_RightPod.l1 : List T_api_Term → Nat → Option (Out Bool Unit)
 | [], k => some (Out.go ())
 | x :: l, k =>
  (labels_RightTerm x).bind fun r =>
  if (!r) = true then
   some (Out.ret false)
  else
   spec_RightPod.l1 l (k + 1)
def spec_RightPod.l2 : List Int → Nat → Int → Option (Out Bool Unit)
 | [], k2, last2 => some (Out.go ())
 | x2 :: l2, k2, last2 =>
  if ((decide (x2 ≤ last2)) || (decide (x2 > 65535))) = true then
   some (Out.ret false)
  else
   spec_RightPod.l2 l2 (k2 + 1) x2
def spec_RightPod.l3 : List (List T_api_Label) → Nat → Option (Out Bool Unit)
 | [], k3 => some (Out.go ())
 | x3 :: l3, k3 =>
  (labels_Right x3).bind fun r2 =>
  if (!r2) = true then
   some (Out.ret false)
  else
   spec_RightPod.l3 l3 (k3 + 1)
def spec_RightPod (p : T_api_Pod) : Option Bool :=
 (spec_RightPod.l1 p.Terms 0).bind fun o =>
 o.on fun j =>
 (spec_RightPod.l2 p.Ports 0 (0 : Int)).bind fun o2 =>
 o2.on fun j2 =>
 (spec_RightPod.l3 [p.Labels, p.Select, p.Apart, p.Spread] 0).bind fun o3 =>
 o3.on fun j3 =>
 (if (decide ((p.Spread.length : Int) > 0)) = true then
  some (1, 100)
 else
  some (0, 0)).bind fun j4 =>
 (lex_Word p.Name).bind fun r3 =>
 (if (!r3) = true then some true else (spec_maybe p.Owner).bind fun r4 =>
 some (!r4)).bind fun c =>
 if c = true then
  some false
 else
  (res_Right p.Need).bind fun r5 =>
  if ((!r5) || (p.Need.Pods != 1)) = true then
   some false
  else
   if ((decide ((p.Terms.length : Int) > 16)) || (decide ((p.Ports.length : Int) > 16))) = true then
    some false
   else
    (if (p.Wide && ((p.Apart.length : Int) == 0)) = true then some true else (spec_between p.Skew j4.1 j4.2).bind fun r6 =>
    some (!r6)).bind fun c2 =>
    if c2 = true then
     some false
    else
     (taints_RightBears p.Bears).bind fun r7 =>
     (if r7 = true then (spec_between p.Rank 0 (1000 : Int)).bind fun r8 =>
     some r8 else some false).bind fun c3 =>
     some c3
theorem K90 (p : T_api_Pod) : VS Tryz.prog 12 (spec_RightPod p) [T_api_Pod.vv p] [] .bool N0 := by
 refine A6 [.tmp 2] Tryz.func12 R R R fun r hm=>?_
 unfold spec_RightPod at hm
 refine Ah<|Ad R R<|Cd R R fun b=>Aa R R (Aj R)<|Ac<|Ae<|Ah<|Ab tbk [0] 2 R R<|Aa R R (A5 T_api_Term.vv R Cu)<|Aa R R (Ak R)<|Ac<|Ck 13 R fun h4=>B2 hm (fun _ (_:Unit)=>[(1,.ptr b 0)]) (fun _ (_:Unit)=>[X29 b p]) (fun o hm h3=>?_) fun j _ hm=> ?_
 ·refine Cz (p.Terms) (fun zl zk (zs:Unit)=>spec_RightPod.l1 zl zk) (fun k _ (_:Unit)=>[(1,.ptr b 0),(13,L73 p.Terms),(14,Iw (p.Terms.length : Int)),(15,Iw (k : Int))]) (fun _ _ (_:Unit)=>[X29 b p]) () () hm (Ag [0] R R) (fun k _ _ hk hm=>?_) fun k x l _ _ h5 hm=> ?_
  ·rw [spec_RightPod.l1] at hm
   exact Af tbk [] R R<|Ae<|Cb R (k_end hk)<|Ba<|Ar () hm (Ag [0] R R)
  rw [spec_RightPod.l1] at hm
  exact Af tbk [] R R<|Ae<|Br R (k_lt h5)<|Ai<|Ae<|A1<|Ah<|Aa R R (Ct T_api_Term.vv R R el25 h5)<|Aa R R (Bl R ld73 R)<|Ad R R<|Bg z73 fun b2=>Ad R R<|Ao (i:=0) R R R ld73 R R R<|Ac<|Ah<|Ab tbk [0] 1 R R<|Ad R R<|A0 hm 0 R fn53 R (K87 _) fun r hm=>Aa R R (C1 R)<|Ac<|Am hm R (fun h8 hm=>Af tbk [] R R<|have hm:=Lr hm h3;Rt1 hm R [] R R R) fun h8 hm=>Ai<|Bb tbk [] R R<|Ap () () hm (Bv [1] R ⟨R,R,R,congrArg some (k_next h5 h4),trivial⟩)
 refine Af tbk [] R R<|Ae<|Ah<|Ab tbk [0] 2 R R<|Aa R R (A5 (VV.int .i64) R Bn)<|Aa R R (Ak R)<|Ac<|Ck 24 R fun h11=>B2 hm (fun _ (_:Unit)=>[(1,.ptr b 0)]) (fun _ (_:Unit)=>[X29 b p]) (fun o2 hm h10=>?_) fun j2 _ hm=> ?_
 ·refine Cz (p.Ports) (fun zl zk (zs:Int)=>spec_RightPod.l2 zl zk zs) (fun k2 zs (_:Unit)=>[(1,.ptr b 0),(5,Iw zs),(24,L3 p.Ports),(25,Iw (p.Ports.length : Int)),(26,Iw (k2 : Int))]) (fun _ _ (_:Unit)=>[X29 b p]) _ () hm (Ag [0] R R) (fun k2 last2 _ hk hm=>?_) fun k2 x2 l2 last2 _ h12 hm=> ?_
  ·rw [spec_RightPod.l2] at hm
   exact Af tbk [] R R<|Ae<|Cb R (k_end hk)<|Ba<|Ar () hm (Ag [0] R R)
  rw [spec_RightPod.l2] at hm
  exact Af tbk [] R R<|Ae<|Br R (k_lt h12)<|Ai<|Ae<|A1<|Ah<|Aa R R (Ct (VV.int .i64) R R el27 h12)<|Ab tbk [] 2 R R<|Ac<|Ae<|Ah<|Ab tbk [] 4 R R<|Cy tbk [] 3 36 33 R R R R R<|Ac<|Am hm R (fun h14 hm=>Af tbk [] R R<|have hm:=Lr hm h10;Rt1 hm R [] R R R) fun h14 hm=>Ai<|Bb tbk [] R R<|Bb tbk [] R R<|Ap _ () hm (Bv [0] R ⟨R,R,R,R,congrArg some (k_next h12 h11),trivial⟩)
 refine Ae<|Ah<|Ab tbk [0,0,0,0] 8 R R<|Ad R R<|Ax ap86 R R R R R fun b3=>A3 (Az 0 [(47,L24 [p.Labels,p.Select,p.Apart,p.Spread])] R ⟨⟨_,R,.here _ R⟩,trivial⟩ (FzH.refl _))<|Aa R R (A5 (fun (q : List T_api_Label) => VV.list 141 (List.map T_api_Label.vv q)) R Tryz.underlying86)<|Aa R R (Ak R)<|Ac<|Ck 47 R fun h18=>B2 hm (fun _ (_:Unit)=>[(1,.ptr b 0)]) (fun _ (_:Unit)=>[X29 b p]) (fun o3 hm h17=>?_) fun j3 _ hm=> ?_
 ·refine Cz ([p.Labels,p.Select,p.Apart,p.Spread]) (fun zl zk (zs:Unit)=>spec_RightPod.l3 zl zk) (fun k3 _ (_:Unit)=>[(1,.ptr b 0),(47,L24 [p.Labels,p.Select,p.Apart,p.Spread]),(48,Iw ([p.Labels,p.Select,p.Apart,p.Spread].length : Int)),(49,Iw (k3 : Int))]) (fun _ _ (_:Unit)=>[X29 b p]) () () hm (Ag [0] R R) (fun k3 _ _ hk hm=>?_) fun k3 x3 l3 _ _ h19 hm=> ?_
  ·rw [spec_RightPod.l3] at hm
   exact Af tbk [] R R<|Ae<|Cb R (k_end hk)<|Ba<|Ar () hm (Ag [0] R R)
  rw [spec_RightPod.l3] at hm
  exact Af tbk [] R R<|Ae<|Br R (k_lt h19)<|Ai<|Ae<|A1<|Ah<|Aa R R (Ct (fun (q : List T_api_Label) => VV.list 141 (List.map T_api_Label.vv q)) R R el86 h19)<|Ab tbk [] 2 R R<|Ac<|Ah<|Aa R R (Ak R)<|Ad R R<|A0 hm 0 R fn54 R (K74 _) fun r2 hm=>Aa R R (C1 R)<|Ac<|Am hm R (fun h21 hm=>Af tbk [] R R<|have hm:=Lr hm h17;Rt1 hm R [] R R R) fun h21 hm=>Ai<|Bb tbk [] R R<|Ap () () hm (Bv [0] R ⟨R,R,R,congrArg some (k_next h19 h18),trivial⟩)
 exact Af tbk [] R R<|Cj hm (fun j4 (_:Unit)=>[(1,.ptr b 0),(10,Iw j4.1),(11,Iw j4.2)]) (fun _ (_:Unit)=>[X29 b p]) (fun o4 hm=>Ah<|Ab tbk [0] 2 R R<|Aa R R (A5 T_api_Label.vv R B4)<|Aa R R (Bc R R R)<|Ac<|Am hm R (fun h24 hm=>Bb tbk [] R R<|As () hm (Ag [0] R R)) fun h24 hm=>Ai<|As () hm (Ag [0] R R)) fun j4 _ hm=>Ae<|A1<|Ah<|Ab tbk [0] 2 R R<|Ad R R<|A0 hm 0 R fn55 R (K69 _) fun r3 hm=>Ab tbk [] 2 R R<|Bt hm 5 71 66 R (fun _ K' h26 J hm=>Ab tbk [] 5 R R<|J 4 R R (Bj hm)) (fun _ K' h26 J hm=>Ab tbk [0] 2 R R<|Bm R R R R R<|A0 hm 0 R fn56 R (K70 _) fun r4 hm=>Ab tbk [] 2 R R<|J 4 R R (Bj hm)) fun c hm=>Aa R R (Aj R)<|Ac<|Am hm R (fun h29 hm=>Af tbk [] R R<|Rt1 hm R [] R R R) fun h29 hm=>Ah<|Ab tbk [0] 2 R R<|Ad R R<|A0 hm 0 R fn57 R (K72 _) fun r5 hm=>Ab tbk [] 2 R R<|Cy tbk [0] 5 82 77 R R R R R<|Aa R R (Aj R)<|Ac<|Am hm R (fun h32 hm=>Af tbk [] R R<|Rt1 hm R [] R R R) fun h32 hm=>Ah<|Ab tbk [0] 2 R R<|Aa R R (A5 T_api_Term.vv R Cu)<|Ab tbk [] 2 R R<|C0 5 93 88 R (fun K' J=>Ab tbk [] 5 R R<|J 4 R R R) (fun h33 K' J=>Ab tbk [0] 2 R R<|Bo R R R R R (A5 (VV.int .i64) R Bn)<|Ab tbk [] 2 R R<|J 4 R R R)<|Aa R R (Aj R)<|Ac<|Am hm R (fun h34 hm=>Af tbk [] R R<|Rt1 hm R [] R R R) fun h34 hm=>Ah<|Ab tbk [0] 3 R R<|Df 5 102 97 R (fun h35 K' J=>Ab tbk [0] 2 R R<|Bo R R R R R (A5 T_api_Label.vv R B4)<|Ab tbk [] 2 R R<|J 4 R R R) (fun K' J=>Ab tbk [] 5 R R<|J 4 R R R)<|Aa R R (Ak R)<|Bt hm 7 110 103 R (fun _ K' h36 J hm=>Ab tbk [] 7 R R<|J 6 R R (Bj hm)) (fun _ K' h36 J hm=>Ab tbk [0] 4 R R<|Bm R R R R R<|A0 hm 0 R fn58 R (K88 _ _ _) fun r6 hm=>Ab tbk [] 2 R R<|J 6 R R (Bj hm)) fun c2 hm=>Aa R R (Aj R)<|Ac<|Am hm R (fun h39 hm=>Af tbk [] R R<|Rt1 hm R [] R R R) fun h39 hm=>Ai<|Ah<|Ab tbk [0] 2 R R<|Ad R R<|A0 hm 0 R fn59 R (K89 _) fun r7 hm=>Aa R R (Ak R)<|Bt hm 4 118 114 R (fun _ K' h41 J hm=>Ab tbk [0] 2 R R<|Bm R R R R R<|A0 hm 0 R fn58 R (K88 _ _ _) fun r8 hm=>Aa R R (Bh true R R R)<|J 3 R R (Bj hm)) (fun _ K' h41 J hm=>Ab tbk [] 4 R R<|J 3 R R (Bj hm)) fun c3 hm=>Aa R R (Aj R)<|Ac<|Rt1 hm R [] R R R

/-! trireme/yard.Check$3 -/
def yard_Check_3 (i : Int) (a : List T_api_Bound) : Option Bool :=
 (V.gl a i).bind fun x =>
 (spec_RightPod x.Pod).bind fun r =>
 some (!r)
theorem K91 (i : Int) (a : List T_api_Bound) (b : Nat) : VS Tryz.prog 145 (yard_Check_3 i a) [Iw i, .ptr b 0] [.box b 55 [L121 a]] .bool (fun r=>[.box b 55 [L121 a]]) := by
 refine A6 [.tmp 3] Tryz.func145 R R R fun r hm=>?_
 unfold yard_Check_3 at hm
 exact Af tbk [] R R<|Ah<|Ab tbk [0] 2 R R<|Bd hm fun x h1 hm=>Aa R R (A2 T_api_Bound.vv R R el55 h1)<|Ab tbk [] 2 R R<|Ad R R<|A0 hm 0 R fn12 R (K90 _) fun r hm=>Ab tbk [] 2 R R<|Ac<|Rt1 hm R [0] R R R

/-! trireme/yard.first -/
def yard_first_yard_Check_3.l1 (n : Int) (c : List T_api_Bound) : Nat → Int → Option (Out Int Unit)
 | 0, _ => none
 | n2 + 1, v2 =>
  if (decide (v2 < n)) = true then
   (yard_Check_3 v2 c).bind fun r =>
   if r = true then
    some (Out.ret v2)
   else
    yard_first_yard_Check_3.l1 n c n2 (i64.wrap (v2 + 1))
  else
   some (Out.go ())
def yard_first_yard_Check_3 (n : Int) (c : List T_api_Bound) : Option Int :=
 (yard_first_yard_Check_3.l1 n c FU (0 : Int)).bind fun o =>
 o.on fun j =>
 some (-1)
theorem K92 (n : Int) (c : List T_api_Bound) (b : Nat) : VS Tryz.prog 143 (yard_first_yard_Check_3 n c) [Iw n, .clo (.func 145) [] [.ptr b 0]] [.box b 55 [L121 c]] Iw (fun r=>[.box b 55 [L121 c]]) := by
 refine A6 [.tmp 4] Dj R R R fun r hm=>?_
 unfold yard_first_yard_Check_3 at hm
 refine Af tbk [] R R<|Ae<|Af tbk [] R R<|B2 hm (fun _ (_:Unit)=>[]) (fun _ (_:Unit)=>[.box b 55 [L121 c]]) (fun o hm h2=>?_) fun j _ hm=> ?_
 ·refine B3 (fun zn (zs:Int)=>yard_first_yard_Check_3.l1 n c zn zs) (fun zs (_:Unit)=>[(1,.clo (.func 145) [] [.ptr b 0]),(6,Iw n),(7,Iw zs)]) (fun _ (_:Unit)=>[.box b 55 [L121 c]]) _ () (fun _=>R) hm (Ag [0] R R) fun n2 v2 _ hm=> ?_
  rw [yard_first_yard_Check_3.l1] at hm
  exact Af tbk [] R R<|Ae<|Am hm R (fun h3 hm=>Ai<|Ae<|A1<|Af tbk [] R R<|Ah<|Ab tbk [] 2 R R<|Ad R R<|A0 hm 1 R fn145 R (K91 _ _ _) fun r hm=>Ac<|Am hm R (fun h5 hm=>Af tbk [] R R<|have hm:=Lr hm h2;Rt1 hm R [0] R R R) fun h5 hm=>Ai<|Bb tbk [] R R<|Ap _ () hm (Ag [0] R R)) fun h3 hm=>Ba<|Ar () hm (Ag [0] R R)
 exact Af tbk [] R R<|Rt1 hm R [0] R R R

/-! trireme/yard.Check$1 -/
def yard_Check_1_yard_Check_3 (n : Int) (c : List T_api_Bound) : Option Bool :=
 (yard_first_yard_Check_3 n c).bind fun r =>
 some (r != (-1))
theorem K93 (n : Int) (c : List T_api_Bound) (b : Nat) : VS Tryz.prog 142 (yard_Check_1_yard_Check_3 n c) [Iw n, .clo (.func 145) [] [.ptr b 0]] [.box b 55 [L121 c]] .bool (fun r=>[.box b 55 [L121 c]]) := by
 refine A6 [.tmp 4] Dy R R R fun r hm=>?_
 unfold yard_Check_1_yard_Check_3 at hm
 exact Af tbk [] R R<|Ah<|Ab tbk [] 2 R R<|Ad R R<|A0 hm 1 R fn143 R (K92 _ _ _) fun r hm=>Ab tbk [] 2 R R<|Ac<|Rt1 hm R [0] R R R

/-! trireme/yard.Check$4 -/
def yard_Check_4 (i : Int) (a : List T_api_Bound) (a2 : List (ByteArray × Int)) : Option Bool :=
 (V.gl a i).bind fun x =>
 (if (!(V.seq x.On (⟨#[]⟩ : ByteArray))) = true then (V.gl a i).bind fun x2 =>
 some (((V.mg a2 x2.On).getD 0) == 0) else some false).bind fun c =>
 some c
theorem K94 (i : Int) (a : List T_api_Bound) (a2 : List (ByteArray × Int)) (b : Nat) (b2 : Nat) (b3 : Nat) : VS Tryz.prog 146 (yard_Check_4 i a a2) [Iw i, .ptr b 0, .ptr b2 0] [.box b 55 [L121 a], .box b2 147 [.map b3], .map b3 (List.map (pf VV.str (VV.int .i64)) a2)] .bool (fun r=>[.box b 55 [L121 a], .box b2 147 [.map b3], .map b3 (List.map (pf VV.str (VV.int .i64)) a2)]) := by
 refine A6 [.tmp 4] Tryz.func146 R R R fun r hm=>?_
 unfold yard_Check_4 at hm
 exact Af tbk [] R R<|Ae<|A4 0 mixed<|An tbk [0,1] [0] (by kernel_rfl) R R R<|Bd hm fun x h1 hm=>Aq 2 R R R (by kernel_rfl) (A2 T_api_Bound.vv R R el55 h1)<|An tbk [3,4,5,6] [] (by kernel_rfl) R R R<|Cq hm [15,14,13,12,11,10,9,8,7,6,5,4,3,2,1,0] 20 11 R (fun _ K' h2 J hm=>An tbk [7,8,9] [1,0] (by kernel_rfl) R R R<|Bd hm fun x2 h3 hm=>Bw 10 R R R R R R (by kernel_rfl) (A2 T_api_Bound.vv R R el55 h3)<|An tbk [11,12] [] (by kernel_rfl) R R R<|Bw 13 R R R R R R (by kernel_rfl) (Da 2 (kf:=VV.str) (vf:=(VV.int .i64)) (l:=a2) (k:=x2.On) (z:=(0 : Int)) false mk9 B8 R R R zc3 R)<|An tbk [14,15] [] (by kernel_rfl) R R R<|J 8 R R (Bj hm)) (fun _ K' h2 J hm=>An tbk [7,8,9,10,11,12,13,14,15] [] (by kernel_rfl) R R R<|J 8 R R (Bj hm)) fun c hm=>Aq 16 R R R (by kernel_rfl) (Aj R)<|Ay (by kernel_rfl)<|Rt1 hm R [0,1,2] R R R

/-! trireme/yard.first -/
def yard_first_yard_Check_4.l1 (n : Int) (c : List T_api_Bound) (c2 : List (ByteArray × Int)) : Nat → Int → Option (Out Int Unit)
 | 0, _ => none
 | n2 + 1, v2 =>
  if (decide (v2 < n)) = true then
   (yard_Check_4 v2 c c2).bind fun r =>
   if r = true then
    some (Out.ret v2)
   else
    yard_first_yard_Check_4.l1 n c c2 n2 (i64.wrap (v2 + 1))
  else
   some (Out.go ())
def yard_first_yard_Check_4 (n : Int) (c : List T_api_Bound) (c2 : List (ByteArray × Int)) : Option Int :=
 (yard_first_yard_Check_4.l1 n c c2 FU (0 : Int)).bind fun o =>
 o.on fun j =>
 some (-1)
theorem K95 (n : Int) (c : List T_api_Bound) (c2 : List (ByteArray × Int)) (b : Nat) (b2 : Nat) (b3 : Nat) : VS Tryz.prog 143 (yard_first_yard_Check_4 n c c2) [Iw n, .clo (.func 146) [] [.ptr b 0, .ptr b2 0]] [.box b 55 [L121 c], .box b2 147 [.map b3], .map b3 (List.map (pf VV.str (VV.int .i64)) c2)] Iw (fun r=>[.box b 55 [L121 c], .box b2 147 [.map b3], .map b3 (List.map (pf VV.str (VV.int .i64)) c2)]) := by
 refine A6 [.tmp 4] Dj R R R fun r hm=>?_
 unfold yard_first_yard_Check_4 at hm
 refine Af tbk [] R R<|Ae<|Af tbk [] R R<|B2 hm (fun _ (_:Unit)=>[]) (fun _ (_:Unit)=>[.box b 55 [L121 c],.box b2 147 [.map b3],.map b3 (List.map (pf VV.str (VV.int .i64)) c2)]) (fun o hm h2=>?_) fun j _ hm=> ?_
 ·refine B3 (fun zn (zs:Int)=>yard_first_yard_Check_4.l1 n c c2 zn zs) (fun zs (_:Unit)=>[(1,.clo (.func 146) [] [.ptr b 0,.ptr b2 0]),(6,Iw n),(7,Iw zs)]) (fun _ (_:Unit)=>[.box b 55 [L121 c],.box b2 147 [.map b3],.map b3 (List.map (pf VV.str (VV.int .i64)) c2)]) _ () (fun _=>R) hm (Ag [0,1,2] R R) fun n2 v2 _ hm=> ?_
  rw [yard_first_yard_Check_4.l1] at hm
  exact Af tbk [] R R<|Ae<|Am hm R (fun h3 hm=>Ai<|Ae<|A1<|Af tbk [] R R<|Ah<|Ab tbk [] 2 R R<|Ad R R<|A0 hm 3 R fn146 R (K94 _ _ _ _ _ _) fun r hm=>Ac<|Am hm R (fun h5 hm=>Af tbk [] R R<|have hm:=Lr hm h2;Rt1 hm R [0,1,2] R R R) fun h5 hm=>Ai<|Bb tbk [] R R<|Ap _ () hm (Ag [0,1,2] R R)) fun h3 hm=>Ba<|Ar () hm (Ag [0,1,2] R R)
 exact Af tbk [] R R<|Rt1 hm R [0,1,2] R R R

/-! trireme/yard.Check$1 -/
def yard_Check_1_yard_Check_4 (n : Int) (c : List T_api_Bound) (c2 : List (ByteArray × Int)) : Option Bool :=
 (yard_first_yard_Check_4 n c c2).bind fun r =>
 some (r != (-1))
theorem K96 (n : Int) (c : List T_api_Bound) (c2 : List (ByteArray × Int)) (b : Nat) (b2 : Nat) (b3 : Nat) : VS Tryz.prog 142 (yard_Check_1_yard_Check_4 n c c2) [Iw n, .clo (.func 146) [] [.ptr b 0, .ptr b2 0]] [.box b 55 [L121 c], .box b2 147 [.map b3], .map b3 (List.map (pf VV.str (VV.int .i64)) c2)] .bool (fun r=>[.box b 55 [L121 c], .box b2 147 [.map b3], .map b3 (List.map (pf VV.str (VV.int .i64)) c2)]) := by
 refine A6 [.tmp 4] Dy R R R fun r hm=>?_
 unfold yard_Check_1_yard_Check_4 at hm
 exact Af tbk [] R R<|Ah<|Ab tbk [] 2 R R<|Ad R R<|A0 hm 3 R fn143 R (K95 _ _ _ _ _ _) fun r hm=>Ab tbk [] 2 R R<|Ac<|Rt1 hm R [0,1,2] R R R

/-! trireme/yard.Check -/
def yard_Check.l1 : List T_api_Machine → Nat → (List (ByteArray × Int)) → Option (List (ByteArray × Int))
 | [], k, machines2 => some machines2
 | x :: l, k, machines2 =>
  yard_Check.l1 l (k + 1) (V.mp machines2 x.Name (i64.wrap (((V.mg machines2 x.Name).getD 0) + 1)))
def yard_Check.l2 : List T_api_Bound → Nat → (List (ByteArray × Int)) → Option (List (ByteArray × Int))
 | [], k2, pods2 => some pods2
 | x2 :: l2, k2, pods2 =>
  yard_Check.l2 l2 (k2 + 1) (V.mp pods2 x2.Pod.Name (i64.wrap (((V.mg pods2 x2.Pod.Name).getD 0) + 1)))
def yard_Check (ms : List T_api_Machine) (bs : List T_api_Bound) : Option Int :=
 if ((decide ((ms.length : Int) > 200)) || (decide ((bs.length : Int) > 400))) = true then
  some 7
 else
  (yard_Check_1_yard_Check_2 (ms.length : Int) ms).bind fun r =>
  if r = true then
   some 12
  else
   (yard_Check_1_yard_Check_3 (bs.length : Int) bs).bind fun r2 =>
   if r2 = true then
    some 12
   else
    (yard_Check.l1 ms 0 ([] : List (ByteArray × Int))).bind fun machines32 =>
    (yard_Check.l2 bs 0 ([] : List (ByteArray × Int))).bind fun pods32 =>
    if ((decide ((machines32.length : Int) < (ms.length : Int))) || (decide ((pods32.length : Int) < (bs.length : Int)))) = true then
     some 15
    else
     (yard_Check_1_yard_Check_4 (bs.length : Int) bs machines32).bind fun r3 =>
     if r3 = true then
      some 16
     else
      some 0
theorem K97 (ms : List T_api_Machine) (bs : List T_api_Bound) : VS Tryz.prog 92 (yard_Check ms bs) [L41 ms, L121 bs] [] Iw N0 := by
 refine A6 [.tmp 4] Tryz.func92 R R R fun r hm=>?_
 unfold yard_Check at hm
 refine Ah<|Ad R R<|Cd R R fun b=>Ad R R<|Cd R R fun b2=>Aa R R (Aj R)<|Ac<|Af tbk [] R R<|Ae<|A1<|Ah<|Ab tbk [1] 1 R R<|Aa R R (A5 T_api_Machine.vv R B5)<|Ab tbk [] 2 R R<|C0 4 20 16 R (fun K' J=>Ab tbk [] 4 R R<|J 3 R R R) (fun h3 K' J=>Ab tbk [0] 1 R R<|Bo R R R R R (A5 T_api_Bound.vv R Bz)<|Ab tbk [] 2 R R<|J 3 R R R)<|Aa R R (Aj R)<|Ac<|Am hm R (fun h4 hm=>Af tbk [] R R<|Rt1 hm R [] R R R) fun h4 hm=>Ah<|Ab tbk [1] 2 R R<|Aa R R (A5 T_api_Machine.vv R B5)<|Aa R R (Cm R R)<|A3 (Bf [1,0] R)<|Ad R R<|A0 hm 1 R fn142 R (K82 _ _ _) fun r hm=>Aa R R (Aj R)<|Ac<|Am hm R (fun h6 hm=>Af tbk [] R R<|Rt1 hm R [] R R R) fun h6 hm=>Ah<|Ab tbk [1] 2 R R<|Aa R R (A5 T_api_Bound.vv R Bz)<|Aa R R (Cm R R)<|A3 (Bf [1,0] R)<|Ad R R<|A0 hm 1 R fn142 R (K93 _ _ _) fun r2 hm=>Aa R R (Aj R)<|Ac<|Am hm R (fun h8 hm=>Af tbk [] R R<|Rt1 hm R [] R R R) fun h8 hm=>Ai<|Ah<|Ad R R<|Dq fun b3=>Ad R R<|Dq fun b4=>Ad R R<|Bg z147 fun b5=>Ad R R<|Ao (i:=0) R R R ld147 R R R<|Aa R R (Aj R)<|Ac<|Ae<|Ah<|Ab tbk [4] 1 R R<|Aa R R (A5 T_api_Machine.vv R B5)<|Aa R R (Ak R)<|Ac<|Ck 35 R fun h14=>Cp hm (fun _ (_:Unit)=>[(2,.ptr b 0),(3,.ptr b2 0),(5,.clo (.func 142) [] []),(6,.ptr b5 0),(7,.map b4)]) (fun machines32 (_:Unit)=>[.box b5 147 [.map b3],.map b4 (List.map (pf VV.str (VV.int .i64)) ([] : List (ByteArray × Int))),.map b3 (List.map (pf VV.str (VV.int .i64)) machines32),.box b2 55 [L121 bs],.box b 54 [L41 ms]]) (fun o hm=>?_) fun machines32 _ hm=> ?_
 ·refine Cz (ms) (fun zl zk (zs:List (ByteArray × Int))=>yard_Check.l1 zl zk zs) (fun k _ (_:Unit)=>[(2,.ptr b 0),(3,.ptr b2 0),(5,.clo (.func 142) [] []),(6,.ptr b5 0),(7,.map b4),(35,L41 ms),(36,Iw (ms.length : Int)),(37,Iw (k : Int))]) (fun _ zs (_:Unit)=>[.box b5 147 [.map b3],.map b4 (List.map (pf VV.str (VV.int .i64)) ([] : List (ByteArray × Int))),.map b3 (List.map (pf VV.str (VV.int .i64)) zs),.box b2 55 [L121 bs],.box b 54 [L41 ms]]) _ () hm (Ag [0,1,2,3,4] R R) (fun k machines2 _ hk hm=>?_) fun k x l machines2 _ h15 hm=> ?_
  ·rw [yard_Check.l1] at hm
   exact Af tbk [] R R<|Ae<|Cb R (k_end hk)<|Ba<|As () hm (Ag [0,1,2,3,4] R R)
  rw [yard_Check.l1] at hm
  exact Af tbk [] R R<|Ae<|Br R (k_lt h15)<|Ai<|Ae<|A1<|Ah<|Aa R R (Ct T_api_Machine.vv R R el54 h15)<|Aa R R (Bl R ld41 R)<|Ad R R<|Bg z41 fun b6=>Ad R R<|Ao (i:=0) R R R ld41 R R R<|Ac<|Be<|Ab tbk [1,0] 3 R R<|Aa R R (Da 3 (kf:=VV.str) (vf:=(VV.int .i64)) (l:=machines2) (k:=x.Name) (z:=(0 : Int)) false mk9 B8 R R R zc3 R)<|Aa R R (Bc R R R)<|Ad R R<|Di 3 (kf:=VV.str) (vf:=(VV.int .i64)) (l:=machines2) (k:=x.Name) (z:=(IntKind.i64.wrap (((V.mg machines2 x.Name).getD (0 : Int)) + (1 : Int)))) mk9 B8 R R R R<|Ac<|Bb tbk [] R R<|Ap _ () hm (Bv [1,2,3,4,5] R ⟨R,R,R,R,R,R,R,congrArg some (k_next h15 h14),trivial⟩)
 refine Ae<|Ah<|Ab tbk [3] 1 R R<|Aa R R (A5 T_api_Bound.vv R Bz)<|Aa R R (Ak R)<|Ac<|Ck 47 R fun h19=>Cp hm (fun _ (_:Unit)=>[(2,.ptr b 0),(3,.ptr b2 0),(5,.clo (.func 142) [] []),(6,.ptr b5 0),(7,.map b4)]) (fun pods32 (_:Unit)=>[.box b5 147 [.map b3],.map b4 (List.map (pf VV.str (VV.int .i64)) pods32),.map b3 (List.map (pf VV.str (VV.int .i64)) machines32),.box b2 55 [L121 bs],.box b 54 [L41 ms]]) (fun o2 hm=>?_) fun pods32 _ hm=> ?_
 ·refine Cz (bs) (fun zl zk (zs:List (ByteArray × Int))=>yard_Check.l2 zl zk zs) (fun k2 _ (_:Unit)=>[(2,.ptr b 0),(3,.ptr b2 0),(5,.clo (.func 142) [] []),(6,.ptr b5 0),(7,.map b4),(47,L121 bs),(48,Iw (bs.length : Int)),(49,Iw (k2 : Int))]) (fun _ zs (_:Unit)=>[.box b5 147 [.map b3],.map b4 (List.map (pf VV.str (VV.int .i64)) zs),.map b3 (List.map (pf VV.str (VV.int .i64)) machines32),.box b2 55 [L121 bs],.box b 54 [L41 ms]]) _ () hm (Ag [0,1,2,3,4] R R) (fun k2 pods2 _ hk hm=>?_) fun k2 x2 l2 pods2 _ h20 hm=> ?_
  ·rw [yard_Check.l2] at hm
   exact Af tbk [] R R<|Ae<|Cb R (k_end hk)<|Ba<|As () hm (Ag [0,1,2,3,4] R R)
  rw [yard_Check.l2] at hm
  exact Af tbk [] R R<|Ae<|Br R (k_lt h20)<|Ai<|Ae<|A1<|Ah<|Aa R R (Ct T_api_Bound.vv R R el55 h20)<|Aa R R (Bl R ld121 R)<|Ad R R<|Bg z121 fun b7=>Ad R R<|Ao (i:=0) R R R ld121 R R R<|Ac<|Be<|Ab tbk [0] 4 R R<|Aa R R (Da 2 (kf:=VV.str) (vf:=(VV.int .i64)) (l:=pods2) (k:=x2.Pod.Name) (z:=(0 : Int)) false mk9 B8 R R R zc3 R)<|Aa R R (Bc R R R)<|Ad R R<|Di 2 (kf:=VV.str) (vf:=(VV.int .i64)) (l:=pods2) (k:=x2.Pod.Name) (z:=(IntKind.i64.wrap (((V.mg pods2 x2.Pod.Name).getD (0 : Int)) + (1 : Int)))) mk9 B8 R R R R<|Ac<|Bb tbk [] R R<|Ap _ () hm (Bv [1,2,3,4,5] R ⟨R,R,R,R,R,R,R,congrArg some (k_next h20 h19),trivial⟩)
 exact Ae<|A1<|Ah<|Ab tbk [0] 1 R R<|Aa R R (VP.lenM 2 (kf:=VV.str) (vf:=(VV.int .i64)) (l:=machines32) R R B8)<|Ab tbk [4] 1 R R<|Aa R R (A5 T_api_Machine.vv R B5)<|Ab tbk [] 2 R R<|C0 6 72 66 R (fun K' J=>Ab tbk [] 6 R R<|J 5 R R R) (fun h22 K' J=>Bo R R R R R (Ak R)<|Bo R R R R R (VP.lenM 1 (kf:=VV.str) (vf:=(VV.int .i64)) (l:=pods32) R R B8)<|Ab tbk [3] 1 R R<|Bo R R R R R (A5 T_api_Bound.vv R Bz)<|Ab tbk [] 2 R R<|J 5 R R R)<|Aa R R (Aj R)<|Ac<|Am hm R (fun h23 hm=>Af tbk [] R R<|Rt1 hm R [] R R R) fun h23 hm=>Ah<|Ab tbk [3] 2 R R<|Aa R R (A5 T_api_Bound.vv R Bz)<|Aa R R (Cm R R)<|A3 (Bf [3,0,2,1,4] R)<|Ad R R<|A0 hm 3 R fn142 R (K96 _ _ _ _ _ _) fun r3 hm=>Aa R R (Aj R)<|Ac<|Am hm R (fun h25 hm=>Af tbk [] R R<|Rt1 hm R [] R R R) fun h25 hm=>Ai<|Af tbk [] R R<|Rt1 hm R [] R R R

/-! trireme/spec.shown -/
def spec_shown : Nat → I_any20 → Option ByteArray
 | 0, _ => none
 | nn + 1, x =>
  if (!(I_any20.is9 x)) = true then
   (V.grd (I_any20.is3 x)).bind fun u =>
   if (decide ((I_any20.as3 x) < 10)) = true then
    some (strOfNums [(IntKind.u8.wrap (i64.wrap (48 + (I_any20.as3 x))))])
   else
    (V.quo (I_any20.as3 x) (10 : Int)).bind fun v =>
    ((spec_shown nn) (I_any20.c3 (i64.wrap v))).bind fun r =>
    (V.rem (I_any20.as3 x) (10 : Int)).bind fun v2 =>
    ((spec_shown nn) (I_any20.c3 v2)).bind fun r2 =>
    (V.cat r r2).bind fun v3 =>
    some v3
  else
   if (V.seq (I_any20.as9 x) (⟨#[]⟩ : ByteArray)) = true then
    some (⟨#[34, 34]⟩ : ByteArray)
   else
    some (I_any20.as9 x)
theorem K98 (nn : Nat) : ∀ (x : I_any20), VS Tryz.prog 79 (spec_shown nn x) [I_any20.vv x] [] .str N0 := by
 induction nn with
 | zero => intro x; exact VS.none (by rw [spec_shown])
 | succ nn ih =>
  intro x
  refine A6 [.tmp 2] Tryz.func79 R R R fun r hm=>?_
  rw [spec_shown] at hm
  exact Af tbk [] R R<|Ah<|Aa R R (Ak R)<|Aa R R (VP.as (VP.tassert nif9 zg9 R) (I_any20_ta9 x))<|Ab tbk [] 5 R R<|Ac<|Ae<|Af tbk [] R R<|Am hm R (fun h1 hm=>Ah<|Aa R R (Ak R)<|Bd hm fun u h2 hm=>Aa R R (VP.as (D2 nif3 R (I_any20_tp3 (V.grd_t h2)).1) (I_any20_tp3 (V.grd_t h2)).2)<|Aa R R (Aj R)<|Ac<|Ae<|Af tbk [] R R<|Am hm R (fun h3 hm=>Ah<|Ab tbk [] 2 R R<|Aa R R (Cf Bx Bq R)<|Ad R R<|Ax ap160 R R R R R fun b=>A3 (Az 0 [(20,L5 [(IntKind.u8.wrap (IntKind.i64.wrap ((48 : Int) + (I_any20.as3 x))))])] R ⟨⟨_,R,.here _ R⟩,trivial⟩ (FzH.refl _))<|Aa R R (Dw (l:=[(IntKind.u8.wrap (IntKind.i64.wrap ((48 : Int) + (I_any20.as3 x))))]) el160 Bq Av R)<|Aa R R (Aj R)<|Ac<|Rt1 hm R [] R R R) fun h3 hm=>Ai<|Ah<|Aa R R (Ak R)<|Bd hm fun v h5 hm=>Aa R R (C5 R R h5)<|Aa R R (Ci nif3 R)<|Ad R R<|A0 hm 0 R fn79 R (ih _) fun r hm=>Aa R R (Ak R)<|Bd hm fun v2 h7 hm=>Aa R R (C9 R R h7)<|Aa R R (Ci nif3 R)<|Ad R R<|A0 hm 0 R fn79 R (ih _) fun r2 hm=>Bd hm fun v3 h9 hm=>Aa R R (A8 R R h9)<|Aa R R (Aj R)<|Ac<|Rt1 hm R [] R R R) fun h1 hm=>Ai<|Ae<|Af tbk [] R R<|Am hm R (fun h10 hm=>Af tbk [] R R<|Rt1 hm R [] R R R) fun h10 hm=>Ai<|Af tbk [] R R<|Rt1 hm R [] R R R

/-! (*trireme/spec.writer).list -/
def spec_writer_list.l1 : List I_any20 → Nat → T_spec_writer → Option T_spec_writer
 | [], k, w3 => some w3
 | x2 :: l, k, w3 =>
  (spec_shown FU x2).bind fun r =>
  (V.cat (⟨#[32]⟩ : ByteArray) r).bind fun v3 =>
  (V.cat w3.s v3).bind fun v4 =>
  spec_writer_list.l1 l (k + 1) (⟨v4⟩ : T_spec_writer)
def spec_writer_list (w : T_spec_writer) (name : ByteArray) (x : List I_any20) : Option T_spec_writer :=
 (V.cat (⟨#[32, 40]⟩ : ByteArray) name).bind fun v =>
 (V.cat w.s v).bind fun v2 =>
 (spec_writer_list.l1 x 0 (⟨v2⟩ : T_spec_writer)).bind fun w42 =>
 (V.cat w42.s (⟨#[41]⟩ : ByteArray)).bind fun v7 =>
 some (⟨v7⟩ : T_spec_writer)
theorem K99 (w : T_spec_writer) (name : ByteArray) (x : List I_any20) (b : Nat) : VS Tryz.prog 45 (spec_writer_list w name x) [.ptr b 0, .str name, L20 x] [X76 b w] (fun r=>.tup []) (fun r=>[X76 b r]) := by
 refine A6 [] Tryz.func45 R R R fun r hm=>?_
 unfold spec_writer_list at hm
 refine Ah<|Ab tbk [0] 5 R R<|Bd hm fun v h1 hm=>Aa R R (A8 R R h1)<|Bd hm fun v2 h2 hm=>Aa R R (A8 R R h2)<|Ab tbk [] 2 R R<|Ad R R<|Ao (i:=0) R R R ld9 R R R<|Ac<|Ae<|Ah<|Aa R R (Ak R)<|Aa R R (A5 I_any20.vv R Dp)<|Aa R R (Ak R)<|Ac<|Ck 17 R fun h5=>Cp hm (fun _ (_:Unit)=>[(0,.ptr b 0)]) (fun w42 (_:Unit)=>[X76 b w42]) (fun o hm=>?_) fun w42 _ hm=> ?_
 ·refine Cz (x) (fun zl zk (zs:T_spec_writer)=>spec_writer_list.l1 zl zk zs) (fun k _ (_:Unit)=>[(0,.ptr b 0),(17,L20 x),(18,Iw (x.length : Int)),(19,Iw (k : Int))]) (fun _ zs (_:Unit)=>[X76 b zs]) _ () hm (Ag [0] R R) (fun k w3 _ hk hm=>?_) fun k x2 l w3 _ h6 hm=> ?_
  ·rw [spec_writer_list.l1] at hm
   exact Af tbk [] R R<|Ae<|Cb R (k_end hk)<|Ba<|As () hm (Ag [0] R R)
  rw [spec_writer_list.l1] at hm
  refine Af tbk [] R R<|Ae<|Br R (k_lt h6)<|Ai<|Ae<|A1<|Ah<|Aa R R (Ct I_any20.vv R R el81 h6)<|Ab tbk [] 2 R R<|Ac<|A4 1 mixed<|An tbk [0,1,2,4] [] (by kernel_rfl) R R R<|?_
  refine B6 [3,5] (by kernel_rfl) ⟨?_,?_,trivial⟩
  ·refine Au R R R<|B7 (Bp (i:=0) R R ld9 R)<|Al 5 (by kernel_rfl)<|Bd hm fun r h7 hm=>Au R R R<|Aw 0 R fn79 R (K98 FU x2 r h7) fun _ _ h10=> ?_
   obtain ⟨rfl,rfl⟩:=h10
   exact Bd hm fun v3 h8 hm=>Aq 6 R R R (by kernel_rfl) (A8 R R h8)<|Bd hm fun v4 h9 hm=>Aq 7 R R R (by kernel_rfl) (A8 R R h9)<|An tbk [8,9] [] (by kernel_rfl) R R R<|Al 10 (by kernel_rfl)<|Au R R R<|Ao (i:=0) R R R ld9 R R R<|Ay (by kernel_rfl)<|Bb tbk [] R R<|Ap _ () hm (Bv [0] R ⟨R,R,R,congrArg some (k_next h6 h5),trivial⟩)
  ·refine Bd hm fun r2 h11 hm=>Au R R R<|Aw 0 R fn79 R (K98 FU x2 r2 h11) fun _ _ h14=> ?_
   obtain ⟨rfl,rfl⟩:=h14
   exact Bd hm fun v5 h12 hm=>Aq 6 R R R (by kernel_rfl) (A8 R R h12)<|Al 3 (by kernel_rfl)<|Au R R R<|B7 (Bp (i:=0) R R ld9 R)<|Bd hm fun v6 h13 hm=>Aq 7 R R R (by kernel_rfl) (A8 R R h13)<|An tbk [8,9] [] (by kernel_rfl) R R R<|Al 10 (by kernel_rfl)<|Au R R R<|Ao (i:=0) R R R ld9 R R R<|Ay (by kernel_rfl)<|Bb tbk [] R R<|Ap _ () hm (Bv [0] R ⟨R,R,R,congrArg some (k_next h6 h5),trivial⟩)
 exact Be<|Ab tbk [0] 4 R R<|Bd hm fun v7 h15 hm=>Aa R R (A8 R R h15)<|Ab tbk [] 2 R R<|Ad R R<|Ao (i:=0) R R R ld9 R R R<|Ac<|Rn0 hm R [0] (.nil) R R

/-! trireme/quant.digits -/
def quant_digits.l1 : Nat → Int → Arr20_Int → Int → Option ByteArray
 | 0, _, _, _ => none
 | n4 + 1, n3, b3, at_2 =>
  (V.rem n3 (10 : Int)).bind fun v =>
  (V.gl (Arr20_Int.l b3) (i64.wrap (at_2 - 1))).bind fun x =>
  (Arr20_Int.put b3 (i64.wrap (at_2 - 1)) (IntKind.u8.wrap (i64.wrap (48 + v)))).bind fun b4 =>
  (V.quo n3 (10 : Int)).bind fun v2 =>
  if ((i64.wrap v2) == 0) = true then
   (V.rng 20 (some (i64.wrap (at_2 - 1))) none).bind fun r =>
   (V.grd (decide (r.1 < r.2))).bind fun u =>
   some (strOfNums ((List.drop r.1 (Arr20_Int.l b4)).take (r.2 - r.1)))
  else
   quant_digits.l1 n4 (i64.wrap v2) b4 (i64.wrap (at_2 - 1))
def quant_digits (n : Int) : Option ByteArray :=
 quant_digits.l1 FU n (⟨0, 0, 0, 0, 0, 0, 0, 0, 0, 0, 0, 0, 0, 0, 0, 0, 0, 0, 0, 0⟩ : Arr20_Int) 20
theorem K100 (n : Int) : VS Tryz.prog 107 (quant_digits n) [Iw n] [] .str N0 := by
 refine A6 [.tmp 2] Tryz.func107 R R R fun r hm=>?_
 unfold quant_digits at hm
 refine Af tbk [] R R<|Ah<|Ad R R<|Bg z189 fun b=>Ac<|Af tbk [] R R<|B3 (fun zn (zs:Int × Arr20_Int × Int)=>quant_digits.l1 zn zs.1 zs.2.1 zs.2.2) (fun zs (_:Unit)=>[(0,Iw zs.1),(3,.ptr b 0),(4,Iw zs.2.2)]) (fun zs (_:Unit)=>[X189 b zs.2.1]) (n,(⟨(0 : Int),(0 : Int),(0 : Int),(0 : Int),(0 : Int),(0 : Int),(0 : Int),(0 : Int),(0 : Int),(0 : Int),(0 : Int),(0 : Int),(0 : Int),(0 : Int),(0 : Int),(0 : Int),(0 : Int),(0 : Int),(0 : Int),(0 : Int)⟩ : Arr20_Int),(20 : Int)) () (fun _=>R) hm (Ag [0] R R) fun n4=>Pq fun n3=>Pq fun b3 at_2 _ hm=> ?_
 rw [quant_digits.l1] at hm
 exact A1<|Af tbk [] R R<|Ah<|Ab tbk [] 2 R R<|Bd hm fun v h2 hm=>Aa R R (C9 R R h2)<|Aa R R (Bc R R R)<|Aa R R (Cf Bx Bq R)<|Bd hm fun x h3 hm=>Aa R R (VP.indexA R R ar189 (gl_pos2 h3).1 (gl_pos2 h3).2)<|Bd hm fun b4 h4 hm=>Ad R R<|VO.storeA 0 (f:=(VV.int .u8)) (l:=Arr20_Int.l b3) R R R ld5 R R (Arr20_Int.put_some h4)<|Ac<|Ah<|Aa R R (Ak R)<|Bd hm fun v2 h5 hm=>Aa R R (C5 R R h5)<|Aa R R (Aj R)<|Ac<|Af tbk [] R R<|Am hm R (fun h6 hm=>Ah<|Aa R R (Ak R)<|Bd hm fun r h7 hm=>Aa R R (VP.subA R ar189 R R h7)<|Bd hm fun u h8 hm=>Aa R R (VP.convSub (l:=(Arr20_Int.l b4)) 0 el160 Bq Av R R (V.sub_len (V.grd_t h8)).1 (V.sub_len2 (V.grd_t h8) h7) R)<|Aa R R (Aj R)<|Ac<|Rt1 hm R [] R R R) fun h6 hm=>Ai<|Ap ((IntKind.i64.wrap v2),b4,(IntKind.i64.wrap (at_2 - (1 : Int)))) () hm (Ag [0] R R)

/-! trireme/quant.ShowMilli -/
def quant_ShowMilli (n : Int) : Option ByteArray :=
 if ((decide (n < 0)) || (decide (n > 1125899906842624))) = true then
  some (⟨#[]⟩ : ByteArray)
 else
  (V.rem n (1000 : Int)).bind fun v =>
  if (v == 0) = true then
   (V.quo n (1000 : Int)).bind fun v2 =>
   (quant_digits (i64.wrap v2)).bind fun r =>
   some r
  else
   (quant_digits n).bind fun r2 =>
   (V.cat r2 (⟨#[109]⟩ : ByteArray)).bind fun v3 =>
   some v3
theorem K101 (n : Int) : VS Tryz.prog 46 (quant_ShowMilli n) [Iw n] [] .str N0 := by
 refine A6 [.tmp 2] Tryz.func46 R R R fun r hm=>?_
 unfold quant_ShowMilli at hm
 exact Af tbk [] R R<|Ae<|A1<|Ah<|Ab tbk [] 3 R R<|Cy tbk [] 3 9 6 R R R R R<|Aa R R (Aj R)<|Ac<|Am hm R (fun h2 hm=>Af tbk [] R R<|Rt1 hm R [] R R R) fun h2 hm=>Ah<|Aa R R (Ak R)<|Bd hm fun v h3 hm=>Aa R R (C9 R R h3)<|Ab tbk [] 2 R R<|Ac<|Am hm R (fun h4 hm=>Ah<|Aa R R (Ak R)<|Bd hm fun v2 h5 hm=>Aa R R (C5 R R h5)<|Ad R R<|A0 hm 0 R fn107 R (K100 _) fun r hm=>Aa R R (Aj R)<|Ac<|Rt1 hm R [] R R R) fun h4 hm=>Ai<|Ah<|Aa R R (Ak R)<|Ad R R<|A0 hm 0 R fn107 R (K100 _) fun r2 hm=>Bd hm fun v3 h8 hm=>Aa R R (A8 R R h8)<|Aa R R (Aj R)<|Ac<|Rt1 hm R [] R R R

/-! trireme/quant.Show -/
def quant_Show.l1 : Nat → Int → Int → Option (Int × Int)
 | 0, _, _ => none
 | n5 + 1, n3, k2 =>
  (if (decide (n3 > 0)) = true then (V.rem n3 (1024 : Int)).bind fun v =>
  some (v == 0) else some false).bind fun c =>
  if (c && (decide (k2 < 4))) = true then
   (V.quo n3 (1024 : Int)).bind fun v2 =>
   quant_Show.l1 n5 (i64.wrap v2) (i64.wrap (k2 + 1))
  else
   some (n3, k2)
def quant_Show (n : Int) : Option ByteArray :=
 if ((decide (n < 0)) || (decide (n > 1125899906842624))) = true then
  some (⟨#[]⟩ : ByteArray)
 else
  (quant_Show.l1 FU n (0 : Int)).bind fun j =>
  (V.gl (Arr5_ByteArray.l (⟨(⟨#[]⟩ : ByteArray), (⟨#[75, 105]⟩ : ByteArray), (⟨#[77, 105]⟩ : ByteArray), (⟨#[71, 105]⟩ : ByteArray), (⟨#[84, 105]⟩ : ByteArray)⟩ : Arr5_ByteArray)) j.2).bind fun x =>
  (quant_digits j.1).bind fun r =>
  (V.cat r x).bind fun v3 =>
  some v3
theorem K102 (n : Int) : VS Tryz.prog 47 (quant_Show n) [Iw n] [] .str N0 := by
 refine A6 [.tmp 2] Tryz.func47 R R R fun r hm=>?_
 unfold quant_Show at hm
 refine Af tbk [] R R<|Ae<|Ah<|Ab tbk [] 3 R R<|Cy tbk [] 3 10 7 R R R R R<|Ac<|Am hm R (fun h2 hm=>Af tbk [] R R<|Rt1 hm R [] R R R) fun h2 hm=>Ai<|Ah<|Aa R R (A7 pl144 R R)<|Ad R R<|Bg z144 fun b=>Ad R R<|Ao (i:=0) R R R ld144 R R R<|Ac<|Af tbk [] R R<|Cj hm (fun j (_:Unit)=>[(0,Iw j.1),(3,.ptr b 0),(4,Iw j.2)]) (fun _ (_:Unit)=>[X144 b (⟨(⟨#[]⟩ : ByteArray),(⟨#[75,105]⟩ : ByteArray),(⟨#[77,105]⟩ : ByteArray),(⟨#[71,105]⟩ : ByteArray),(⟨#[84,105]⟩ : ByteArray)⟩ : Arr5_ByteArray)]) (fun o hm=>?_) fun j _ hm=> ?_
 ·refine B3 (fun zn (zs:Int × Int)=>quant_Show.l1 zn zs.1 zs.2) (fun zs (_:Unit)=>[(0,Iw zs.1),(3,.ptr b 0),(4,Iw zs.2)]) (fun _ (_:Unit)=>[X144 b (⟨(⟨#[]⟩ : ByteArray),(⟨#[75,105]⟩ : ByteArray),(⟨#[77,105]⟩ : ByteArray),(⟨#[71,105]⟩ : ByteArray),(⟨#[84,105]⟩ : ByteArray)⟩ : Arr5_ByteArray)]) (n,(0 : Int)) () (fun _=>R) hm (Ag [0] R R) fun n5=>Pq fun n3 k2 _ hm=> ?_
  rw [quant_Show.l1] at hm
  exact Ae<|Ah<|Ab tbk [] 3 R R<|Bt hm 4 18 14 R (fun _ K' h6 J hm=>Bo R R R R R (Ak R)<|Bd hm fun v h7 hm=>Bo R R R R R (C9 R R h7)<|Ab tbk [] 2 R R<|J 3 R R (Bj hm)) (fun _ K' h6 J hm=>Ab tbk [] 4 R R<|J 3 R R (Bj hm)) fun c hm=>Aa R R (Ak R)<|Ce tbk [] 3 22 19 R R R R R<|Ac<|Am hm R (fun h10 hm=>Ai<|A1<|Ah<|Aa R R (Ak R)<|Bd hm fun v2 h11 hm=>Aa R R (C5 R R h11)<|Aa R R (Aj R)<|Ac<|Bb tbk [] R R<|Ap ((IntKind.i64.wrap v2),(IntKind.i64.wrap (k2 + (1 : Int)))) () hm (Ag [0] R R)) fun h10 hm=>Ba<|As () hm (Ag [0] R R)
 refine Ae<|A4 0 mixed<|An tbk [0,2] [] (by kernel_rfl) R R R<|Bd hm fun x h12 hm=>Aq 3 R R R (by kernel_rfl) (VP.indexA R R ar144 (gl_pos2 h12).1 (gl_pos2 h12).2)<|Aq 4 R R R (by kernel_rfl) (VP.loadA 0 (f:=VV.str) (l:=Arr5_ByteArray.l (⟨(⟨#[]⟩ : ByteArray),(⟨#[75,105]⟩ : ByteArray),(⟨#[77,105]⟩ : ByteArray),(⟨#[71,105]⟩ : ByteArray),(⟨#[84,105]⟩ : ByteArray)⟩ : Arr5_ByteArray)) R R ld9 R h12)<|Al 1 (by kernel_rfl)<|Bd hm fun r h13 hm=>Au R R R<|Aw 0 R fn107 R (K100 j.1 r h13) fun _ _ h15=> ?_
 obtain ⟨rfl,rfl⟩:=h15
 exact Bd hm fun v3 h14 hm=>Aq 5 R R R (by kernel_rfl) (A8 R R h14)<|Aq 6 R R R (by kernel_rfl) (Aj R)<|Ay (by kernel_rfl)<|Rt1 hm R [] R R R

/-! (*trireme/spec.writer).pairs -/
def spec_writer_pairs.l1 (name : ByteArray) : List T_api_Label → Nat → T_spec_writer → Option T_spec_writer
 | [], k, w3 => some w3
 | x3 :: l2, k, w3 =>
  (spec_writer_list w3 name [(I_any20.c9 x3.Key), (I_any20.c9 x3.Val)]).bind fun r =>
  spec_writer_pairs.l1 name l2 (k + 1) r
def spec_writer_pairs (w : T_spec_writer) (name : ByteArray) (l : List T_api_Label) : Option T_spec_writer :=
 (spec_writer_pairs.l1 name l 0 w).bind fun x2 =>
 some x2
theorem K103 (w : T_spec_writer) (name : ByteArray) (l : List T_api_Label) (b : Nat) : VS Tryz.prog 48 (spec_writer_pairs w name l) [.ptr b 0, .str name, L141 l] [X76 b w] (fun r=>.tup []) (fun r=>[X76 b r]) := by
 refine A6 [] Tryz.func48 R R R fun r hm=>?_
 unfold spec_writer_pairs at hm
 refine Ah<|Aa R R (Ak R)<|Aa R R (A5 T_api_Label.vv R B4)<|Aa R R (Ak R)<|Ac<|Ck 8 R fun h3=>Cp hm (fun _ (_:Unit)=>[]) (fun x2 (_:Unit)=>[X76 b x2]) (fun o hm=>?_) fun x2 _ hm=> ?_
 ·refine Cz (l) (fun zl zk (zs:T_spec_writer)=>spec_writer_pairs.l1 name zl zk zs) (fun k _ (_:Unit)=>[(0,.ptr b 0),(1,.str name),(8,L141 l),(9,Iw (l.length : Int)),(10,Iw (k : Int))]) (fun _ zs (_:Unit)=>[X76 b zs]) _ () hm (Ag [0] R R) (fun k w3 _ hk hm=>?_) fun k x3 l2 w3 _ h4 hm=> ?_
  ·rw [spec_writer_pairs.l1] at hm
   exact Af tbk [] R R<|Ae<|Cb R (k_end hk)<|Ba<|As () hm (Ag [0] R R)
  rw [spec_writer_pairs.l1] at hm
  exact Af tbk [] R R<|Ae<|Br R (k_lt h4)<|Ai<|Ae<|A1<|Ah<|Aa R R (Ct T_api_Label.vv R R el24 h4)<|Aa R R (Bl R ld141 R)<|Ad R R<|Bg z141 fun b2=>Ad R R<|Ao (i:=0) R R R ld141 R R R<|Ac<|Be<|Ab tbk [0] 4 R R<|Aa R R (Ci nif9 R)<|Ab tbk [0] 2 R R<|Aa R R (Ci nif9 R)<|Ad R R<|Ax ap81 R R R R R fun b3=>A3 (Az 0 [(22,L20 [(I_any20.c9 x3.Key),(I_any20.c9 x3.Val)])] R ⟨⟨_,R,.here _ R⟩,trivial⟩ (FzH.refl _))<|A3 (Bf [1,0] R)<|Ad R R<|A0 hm 1 R fn45 R (K99 _ _ _ _) fun r hm=>Ac<|Bb tbk [] R R<|Ap _ () hm (Bv [0] R ⟨R,R,R,R,congrArg some (k_next h4 h3),trivial⟩)
 exact Rn0 hm R [0] (.nil) R R

/-! trireme/spec.effects -/
def spec_effects : Option (List ByteArray) :=
 some [(⟨#[97, 110, 121]⟩ : ByteArray), (⟨#[110, 111]⟩ : ByteArray), (⟨#[112, 114, 101, 102, 101, 114]⟩ : ByteArray), (⟨#[111, 117, 116]⟩ : ByteArray)]
theorem K104 : VS Tryz.prog 50 (spec_effects) [] [] (fun r=>L9 r) N0 := by
 refine A6 [.tmp 0] Tryz.func50 R R R fun r hm=>?_
 unfold spec_effects at hm
 exact Af tbk [] R R<|Ah<|Ad R R<|Ax ap65 R R R R R fun b=>A3 (Az 0 [(1,L9 [(⟨#[97,110,121]⟩ : ByteArray),(⟨#[110,111]⟩ : ByteArray),(⟨#[112,114,101,102,101,114]⟩ : ByteArray),(⟨#[111,117,116]⟩ : ByteArray)])] R ⟨⟨_,R,.here _ R⟩,trivial⟩ (FzH.refl _))<|Aa R R (Aj R)<|Ac<|Rt1 hm R [] R R R

/-! (*trireme/spec.writer).rest -/
def spec_writer_rest.l1 : List T_api_Taint → Nat → T_spec_writer → Option T_spec_writer
 | [], k, w3 => some w3
 | x3 :: l, k, w3 =>
  (spec_effects).bind fun r6 =>
  (V.gl r6 x3.Effect).bind fun x4 =>
  (spec_writer_list w3 (⟨#[116, 97, 105, 110, 116]⟩ : ByteArray) [(I_any20.c9 x3.Key), (I_any20.c9 x3.Val), (I_any20.c9 x4)]).bind fun r7 =>
  spec_writer_rest.l1 l (k + 1) r7
def spec_writer_rest (w : T_spec_writer) (m : T_api_Machine) : Option T_spec_writer :=
 (quant_ShowMilli m.Has.Cpu).bind fun r =>
 (quant_Show m.Has.Mem).bind fun r2 =>
 (quant_Show m.Has.Disk).bind fun r3 =>
 (spec_writer_list w (⟨#[104, 97, 115]⟩ : ByteArray) [(I_any20.c9 r), (I_any20.c9 r2), (I_any20.c9 r3), (I_any20.c3 m.Has.Pods), (I_any20.c3 m.Has.Dev)]).bind fun r4 =>
 (spec_writer_pairs r4 (⟨#[108, 97, 98, 101, 108]⟩ : ByteArray) m.Labels).bind fun r5 =>
 (spec_writer_rest.l1 m.Taints 0 r5).bind fun x2 =>
 some x2
theorem K105 (w : T_spec_writer) (m : T_api_Machine) (b : Nat) : VS Tryz.prog 80 (spec_writer_rest w m) [.ptr b 0, T_api_Machine.vv m] [X76 b w] (fun r=>.tup []) (fun r=>[X76 b r]) := by
 refine A6 [] Tryz.func80 R R R fun r hm=>?_
 unfold spec_writer_rest at hm
 refine Ah<|Ad R R<|Cd R R fun b2=>Ac<|Ae<|Bi (Bf [1,0] R)<|A4 1 mixed<|An tbk [0,1,2,3,6,7,8,11,12,13,16,17,18] [0,0,0,0] (by kernel_rfl) R R R<|Aq 19 R R R (by kernel_rfl) (Ci nif3 R)<|An tbk [20,21,22] [0] (by kernel_rfl) R R R<|Aq 23 R R R (by kernel_rfl) (Ci nif3 R)<|Al 4 (by kernel_rfl)<|Bd hm fun r h2 hm=>Au R R R<|Aw 0 R fn46 R (K101 m.Has.Cpu r h2) fun _ _ h22=> ?_
 obtain ⟨rfl,rfl⟩:=h22
 refine Aq 5 R R R (by kernel_rfl) (Ci nif9 R)<|Al 9 (by kernel_rfl)<|Bd hm fun r2 h3 hm=>Au R R R<|Aw 0 R fn47 R (K102 m.Has.Mem r2 h3) fun _ _ h21=> ?_
 obtain ⟨rfl,rfl⟩:=h21
 refine Aq 10 R R R (by kernel_rfl) (Ci nif9 R)<|Al 14 (by kernel_rfl)<|Bd hm fun r3 h4 hm=>Au R R R<|Aw 0 R fn47 R (K102 m.Has.Disk r3 h4) fun _ _ h20=> ?_
 obtain ⟨rfl,rfl⟩:=h20
 refine Aq 15 R R R (by kernel_rfl) (Ci nif9 R)<|Al 24 (by kernel_rfl)<|Au R R R<|Ax ap81 R R R R R fun b3=>Dm (Az 0 [(30,L20 [(I_any20.c9 r),(I_any20.c9 r2),(I_any20.c9 r3),(I_any20.c3 m.Has.Pods),(I_any20.c3 m.Has.Dev)])] R ⟨⟨_,R,.here _ R⟩,trivial⟩ (FzH.refl _))<|Al 25 (by kernel_rfl)<|Bd hm fun r4 h6 hm=>Au R R R<|Aw 1 R fn45 R (K99 w (⟨#[104,97,115]⟩ : ByteArray) [(I_any20.c9 r),(I_any20.c9 r2),(I_any20.c9 r3),(I_any20.c3 m.Has.Pods),(I_any20.c3 m.Has.Dev)] b r4 h6) fun _ _ h19=> ?_
 obtain ⟨rfl,rfl⟩:=h19
 refine Ay (by kernel_rfl)<|Ah<|Ab tbk [1] 3 R R<|Ad R R<|A0 hm 1 R fn48 R (K103 _ _ _ _) fun r5 hm=>Ac<|Ah<|Ab tbk [1] 2 R R<|Aa R R (A5 T_api_Taint.vv R Co)<|Aa R R (Ak R)<|Ac<|Ck 37 R fun h10=>Cp hm (fun _ (_:Unit)=>[]) (fun x2 (_:Unit)=>[X76 b x2]) (fun o hm=>?_) fun x2 _ hm=> ?_
 ·refine Cz (m.Taints) (fun zl zk (zs:T_spec_writer)=>spec_writer_rest.l1 zl zk zs) (fun k _ (_:Unit)=>[(0,.ptr b 0),(37,L143 m.Taints),(38,Iw (m.Taints.length : Int)),(39,Iw (k : Int))]) (fun _ zs (_:Unit)=>[X76 b zs]) _ () hm (Ag [0] R R) (fun k w3 _ hk hm=>?_) fun k x3 l w3 _ h11 hm=> ?_
  ·rw [spec_writer_rest.l1] at hm
   exact Af tbk [] R R<|Ae<|Cb R (k_end hk)<|Ba<|As () hm (Ag [0] R R)
  rw [spec_writer_rest.l1] at hm
  refine Af tbk [] R R<|Ae<|Br R (k_lt h11)<|Ai<|Ae<|A1<|Ah<|Aa R R (Ct T_api_Taint.vv R R el39 h11)<|Aa R R (Bl R ld143 R)<|Ad R R<|Bg z143 fun b4=>Ad R R<|Ao (i:=0) R R R ld143 R R R<|Ac<|Bi (Bf [1,0] R)<|A4 1 mixed<|An tbk [0,1,2] [0] (by kernel_rfl) R R R<|Aq 3 R R R (by kernel_rfl) (Ci nif9 R)<|An tbk [4,5] [0] (by kernel_rfl) R R R<|Aq 6 R R R (by kernel_rfl) (Ci nif9 R)<|An tbk [8,9] [0] (by kernel_rfl) R R R<|Al 7 (by kernel_rfl)<|Bd hm fun r6 h13 hm=>Au R R R<|Aw 0 R fn50 R (K104 r6 h13) fun _ _ h18=> ?_
  obtain ⟨rfl,rfl⟩:=h18
  refine Bd hm fun x4 h14 hm=>Aq 10 R R R (by kernel_rfl) (A2 VV.str R R el65 h14)<|Aq 11 R R R (by kernel_rfl) (Bl R ld9 R)<|Aq 12 R R R (by kernel_rfl) (Ci nif9 R)<|Al 13 (by kernel_rfl)<|Au R R R<|Ax ap81 R R R R R fun b5=>Dm (Az 0 [(56,L20 [(I_any20.c9 x3.Key),(I_any20.c9 x3.Val),(I_any20.c9 x4)])] R ⟨⟨_,R,.here _ R⟩,trivial⟩ (FzH.refl _))<|Al 14 (by kernel_rfl)<|Bd hm fun r7 h16 hm=>Au R R R<|Aw 1 R fn45 R (K99 w3 (⟨#[116,97,105,110,116]⟩ : ByteArray) [(I_any20.c9 x3.Key),(I_any20.c9 x3.Val),(I_any20.c9 x4)] b r7 h16) fun _ _ h17=> ?_
  obtain ⟨rfl,rfl⟩:=h17
  exact Ay (by kernel_rfl)<|Bb tbk [] R R<|Ap _ () hm (Bv [0] R ⟨R,R,R,congrArg some (k_next h11 h10),trivial⟩)
 exact Rn0 hm R [0] (.nil) R R

/-! (*trireme/spec.writer).flag -/
def spec_writer_flag (w : T_spec_writer) (name : ByteArray) (is : Bool) : Option T_spec_writer :=
 if is = true then
  (V.cat (⟨#[32]⟩ : ByteArray) name).bind fun v =>
  (V.cat w.s v).bind fun v2 =>
  some (⟨v2⟩ : T_spec_writer)
 else
  some w
theorem K106 (w : T_spec_writer) (name : ByteArray) (is : Bool) (b : Nat) : VS Tryz.prog 52 (spec_writer_flag w name is) [.ptr b 0, .str name, .bool is] [X76 b w] (fun r=>.tup []) (fun r=>[X76 b r]) := by
 refine A6 [] Tryz.func52 R R R fun r hm=>?_
 unfold spec_writer_flag at hm
 exact Af tbk [] R R<|Am hm R (fun h1 hm=>Be<|Ab tbk [0] 5 R R<|Bd hm fun v h2 hm=>Aa R R (A8 R R h2)<|Bd hm fun v2 h3 hm=>Aa R R (A8 R R h3)<|Ab tbk [] 2 R R<|Ad R R<|Ao (i:=0) R R R ld9 R R R<|Ac<|Rn0 hm R [0] (.nil) R R) fun h1 hm=>Ai<|Rn0 hm R [0] (.nil) R R

/-! trireme/spec.ShowMachine -/
def spec_ShowMachine (m : T_api_Machine) : Option ByteArray :=
 (spec_RightMachine m).bind fun r =>
 if (!r) = true then
  some (⟨#[]⟩ : ByteArray)
 else
  (spec_shown FU (I_any20.c9 m.Name)).bind fun r2 =>
  (V.cat (⟨#[40, 109, 97, 99, 104, 105, 110, 101, 32]⟩ : ByteArray) r2).bind fun v =>
  if (!(V.seq m.Group (⟨#[]⟩ : ByteArray))) = true then
   (spec_writer_list (⟨v⟩ : T_spec_writer) (⟨#[103, 114, 111, 117, 112]⟩ : ByteArray) [(I_any20.c9 m.Group)]).bind fun r3 =>
   (spec_writer_rest r3 m).bind fun r4 =>
   (spec_writer_flag r4 (⟨#[114, 101, 97, 100, 121]⟩ : ByteArray) m.Ready).bind fun r5 =>
   (V.cat r5.s (⟨#[41]⟩ : ByteArray)).bind fun v2 =>
   some v2
  else
   (spec_writer_rest (⟨v⟩ : T_spec_writer) m).bind fun r6 =>
   (spec_writer_flag r6 (⟨#[114, 101, 97, 100, 121]⟩ : ByteArray) m.Ready).bind fun r7 =>
   (V.cat r7.s (⟨#[41]⟩ : ByteArray)).bind fun v3 =>
   some v3
theorem K107 (m : T_api_Machine) : VS Tryz.prog 19 (spec_ShowMachine m) [T_api_Machine.vv m] [] .str N0 := by
 refine A6 [.tmp 2] Tryz.func19 R R R fun r hm=>?_
 unfold spec_ShowMachine at hm
 exact Ah<|Ad R R<|Cd R R fun b=>Aa R R (Aj R)<|Ac<|Ae<|Ah<|Ab tbk [0] 1 R R<|Ad R R<|A0 hm 0 R fn20 R (K79 _) fun r hm=>Aa R R (C1 R)<|Ac<|Am hm R (fun h3 hm=>Af tbk [] R R<|Rt1 hm R [] R R R) fun h3 hm=>Ai<|Ah<|Ab tbk [0] 2 R R<|Aa R R (Ci nif9 R)<|Ad R R<|A0 hm 0 R fn79 R (K98 FU _) fun r2 hm=>Bd hm fun v h5 hm=>Aa R R (A8 R R h5)<|Aa R R (A7 pl76 R R)<|Ad R R<|Cd R R fun b2=>Aa R R (Aj R)<|Ac<|Ae<|Af tbk [1] R R<|Am hm R (fun h7 hm=>Be<|Ab tbk [1] 3 R R<|Aa R R (Ci nif9 R)<|Ad R R<|Ax ap81 R R R R R fun b3=>A3 (Az 0 [(21,L20 [(I_any20.c9 m.Group)])] R ⟨⟨_,R,.here _ R⟩,trivial⟩ (FzH.refl _))<|Ad R R<|A0 hm 1 R fn45 R (K99 _ _ _ _) fun r3 hm=>Ac<|Ah<|Ab tbk [1] 2 R R<|Ad R R<|A0 hm 1 R fn80 R (K105 _ _ _) fun r4 hm=>Ac<|Ah<|Ab tbk [1] 3 R R<|Ad R R<|A0 hm 1 R fn52 R (K106 _ _ _ _) fun r5 hm=>Ac<|Ah<|Ab tbk [0] 4 R R<|Bd hm fun v2 h12 hm=>Aa R R (A8 R R h12)<|Aa R R (Aj R)<|Ac<|Rt1 hm R [] R R R) fun h7 hm=>Ai<|Ah<|Ab tbk [1] 2 R R<|Ad R R<|A0 hm 1 R fn80 R (K105 _ _ _) fun r6 hm=>Ac<|Ah<|Ab tbk [1] 3 R R<|Ad R R<|A0 hm 1 R fn52 R (K106 _ _ _ _) fun r7 hm=>Ac<|Ah<|Ab tbk [0] 4 R R<|Bd hm fun v3 h15 hm=>Aa R R (A8 R R h15)<|Aa R R (Aj R)<|Ac<|Rt1 hm R [] R R R

/-! (trireme/dump.machine).text -/
def dump_machine_text (m : T_api_Machine) : Option ByteArray :=
 (spec_ShowMachine m).bind fun r =>
 some r
theorem K108 (m : T_api_Machine) : VS Tryz.prog 228 (dump_machine_text m) [T_api_Machine.vv m] [] .str N0 := by
 refine A6 [.tmp 2] Tryz.func228 R R R fun r hm=>?_
 unfold dump_machine_text at hm
 exact Ah<|Ad R R<|Cd R R fun b=>Aa R R (Aj R)<|Ac<|Ah<|Ab tbk [0] 1 R R<|Ad R R<|A0 hm 0 R fn19 R (K107 _) fun r hm=>Aa R R (Aj R)<|Ac<|Rt1 hm R [] R R R

/-! trireme/spec.ops -/
def spec_ops : Option (List ByteArray) :=
 some [(⟨#[]⟩ : ByteArray), (⟨#[105, 110]⟩ : ByteArray), (⟨#[110, 111, 116, 105, 110]⟩ : ByteArray), (⟨#[101, 120, 105, 115, 116, 115]⟩ : ByteArray), (⟨#[109, 105, 115, 115, 105, 110, 103]⟩ : ByteArray), (⟨#[97, 98, 111, 118, 101]⟩ : ByteArray), (⟨#[98, 101, 108, 111, 119]⟩ : ByteArray)]
theorem K109 : VS Tryz.prog 49 (spec_ops) [] [] (fun r=>L9 r) N0 := by
 refine A6 [.tmp 0] Tryz.func49 R R R fun r hm=>?_
 unfold spec_ops at hm
 exact Af tbk [] R R<|Ah<|Ad R R<|Ax ap65 R R R R R fun b=>A3 (Az 0 [(1,L9 [(⟨#[]⟩ : ByteArray),(⟨#[105,110]⟩ : ByteArray),(⟨#[110,111,116,105,110]⟩ : ByteArray),(⟨#[101,120,105,115,116,115]⟩ : ByteArray),(⟨#[109,105,115,115,105,110,103]⟩ : ByteArray),(⟨#[97,98,111,118,101]⟩ : ByteArray),(⟨#[98,101,108,111,119]⟩ : ByteArray)])] R ⟨⟨_,R,.here _ R⟩,trivial⟩ (FzH.refl _))<|Aa R R (Aj R)<|Ac<|Rt1 hm R [] R R R

/-! (*trireme/spec.writer).some -/
def spec_writer_some (w : T_spec_writer) (name : ByteArray) (n : Int) : Option T_spec_writer :=
 if (n != 0) = true then
  (spec_writer_list w name [(I_any20.c3 n)]).bind fun r =>
  some r
 else
  some w
theorem K110 (w : T_spec_writer) (name : ByteArray) (n : Int) (b : Nat) : VS Tryz.prog 51 (spec_writer_some w name n) [.ptr b 0, .str name, Iw n] [X76 b w] (fun r=>.tup []) (fun r=>[X76 b r]) := by
 refine A6 [] Tryz.func51 R R R fun r hm=>?_
 unfold spec_writer_some at hm
 exact Af tbk [] R R<|Am hm R (fun h1 hm=>Be<|Ab tbk [] 3 R R<|Aa R R (Ci nif3 R)<|Ad R R<|Ax ap81 R R R R R fun b2=>A3 (Az 0 [(12,L20 [(I_any20.c3 n)])] R ⟨⟨_,R,.here _ R⟩,trivial⟩ (FzH.refl _))<|Ad R R<|A0 hm 1 R fn45 R (K99 _ _ _ _) fun r hm=>Ac<|Rn0 hm R [0] (.nil) R R) fun h1 hm=>Ai<|Rn0 hm R [0] (.nil) R R

end Go.Proofs.YtkondhigbbgidaaGreat.M

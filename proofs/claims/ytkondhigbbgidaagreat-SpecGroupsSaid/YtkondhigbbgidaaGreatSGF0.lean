/-
  Printed by a program of this session out of the loaded functions: models and their proofs. Own text.
-/
import Derived.Test.YtkondhigbbgidaaGreatSGT
namespace Go.Proofs.YtkondhigbbgidaaGreat.M
open Go Go.Proofs Go.Proofs.YtkondhigbbgidaaGreat.V
open Go.IntKind (i64)
set_option linter.unusedVariables false
set_option linter.unusedSimpArgs false
set_option maxRecDepth 20000
set_option maxHeartbeats 40000000
/-! trireme/triremeref05.Light -/
def ref05_Light.l1 (l : List T_api_Label) : Nat → Int → Option (Out Bool Unit)
 | 0, _ => none
 | n + 1, i2 =>
  if (decide (i2 < (l.length : Int))) = true then
   (V.gl l i2).bind fun x =>
   (if (decide ((x.Key.size : Int) > 300)) = true then some true else (V.gl l i2).bind fun x2 =>
   some (decide ((x2.Val.size : Int) > 300))).bind fun c =>
   if c = true then
    some (Out.ret false)
   else
    ref05_Light.l1 l n (i64.wrap (i2 + 1))
  else
   some (Out.go ())
def ref05_Light (l : List T_api_Label) : Option Bool :=
 if (decide ((l.length : Int) > 40)) = true then
  some false
 else
  (ref05_Light.l1 l FU (0 : Int)).bind fun o =>
  o.on fun j =>
  some true
theorem K31 (l : List T_api_Label) : VS Tryz.prog 42 (ref05_Light l) [L141 l] [] .bool N0 := by
 refine A8 [.tmp 2] Tryz.func42 R R R fun r hm=>?_
 unfold ref05_Light at hm
 refine Ag tbk [] R R<|Af<|Ae<|Aa R R (Ak R)<|Aa R R (Bg T_api_Label.vv R B8)<|Aa R R (Bh R R R)<|Ac<|Av hm R (fun h1 hm=>Ag tbk [] R R<|Rt1 hm R [] R R R) fun h1 hm=>Aj<|Af<|Ag tbk [] R R<|Ce hm (fun _ (_:Unit)=>[]) (fun _ (_:Unit)=>[]) (fun o hm h3=>?_) fun j _ hm=> ?_
 ·refine Ck (fun zn (zs:Int)=>ref05_Light.l1 l zn zs) (fun zs (_:Unit)=>[(0,L141 l),(3,Iw zs)]) (fun _ (_:Unit)=>[]) _ () (fun _=>R) hm (Ah [] R R) fun n i2 _ hm=> ?_
  rw [ref05_Light.l1] at hm
  exact Af<|Ae<|Ab tbk [] 2 R R<|Aa R R (Bg T_api_Label.vv R B8)<|Aa R R (Bh R R R)<|Ac<|Av hm R (fun h4 hm=>Aj<|Af<|A4<|Ae<|Ab tbk [] 2 R R<|Bd hm fun x h5 hm=>Aa R R (A2 T_api_Label.vv R R el24 h5)<|Ab tbk [] 2 R R<|Aa R R (B1 R Aq)<|Ab tbk [] 2 R R<|Br hm 8 28 20 R (fun _ K' h6 J hm=>Ab tbk [] 8 R R<|J 7 R R (Bj hm)) (fun _ K' h6 J hm=>Ab tbk [] 2 R R<|Bd hm fun x2 h7 hm=>Bt R R R R R (A2 T_api_Label.vv R R el24 h7)<|Ab tbk [] 2 R R<|Bt R R R R R (B1 R Aq)<|Ab tbk [] 2 R R<|J 7 R R (Bj hm)) fun c hm=>Ac<|Av hm R (fun h9 hm=>Ag tbk [] R R<|have hm:=Lr hm h3;Rt1 hm R [] R R R) fun h9 hm=>Aj<|Bf tbk [] R R<|Ap _ () hm (Ah [] R R)) fun h4 hm=>Be<|Ar () hm (Ah [] R R)
 exact Ag tbk [] R R<|Rt1 hm R [] R R R

/-! trireme/triremeref06.Light -/
def ref06_Light.l1 (l : List T_api_Toleration) : Nat → Int → Option (Out Bool Unit)
 | 0, _ => none
 | n + 1, i2 =>
  if (decide (i2 < (l.length : Int))) = true then
   (V.gl l i2).bind fun x =>
   (if (decide ((x.Key.size : Int) > 300)) = true then some true else (V.gl l i2).bind fun x2 =>
   some (decide ((x2.Val.size : Int) > 300))).bind fun c =>
   if c = true then
    some (Out.ret false)
   else
    ref06_Light.l1 l n (i64.wrap (i2 + 1))
  else
   some (Out.go ())
def ref06_Light.l2 (taints : List T_api_Taint) : Nat → Int → Option (Out Bool Unit)
 | 0, _ => none
 | n2 + 1, i4 =>
  if (decide (i4 < (taints.length : Int))) = true then
   (V.gl taints i4).bind fun x3 =>
   (if (decide ((x3.Key.size : Int) > 300)) = true then some true else (V.gl taints i4).bind fun x4 =>
   some (decide ((x4.Val.size : Int) > 300))).bind fun c2 =>
   if c2 = true then
    some (Out.ret false)
   else
    ref06_Light.l2 taints n2 (i64.wrap (i4 + 1))
  else
   some (Out.go ())
def ref06_Light (l : List T_api_Toleration) (taints : List T_api_Taint) : Option Bool :=
 if ((decide ((l.length : Int) > 40)) || (decide ((taints.length : Int) > 40))) = true then
  some false
 else
  (ref06_Light.l1 l FU (0 : Int)).bind fun o =>
  o.on fun j =>
  (ref06_Light.l2 taints FU (0 : Int)).bind fun o2 =>
  o2.on fun j2 =>
  some true
theorem K32 (l : List T_api_Toleration) (taints : List T_api_Taint) : VS Tryz.prog 43 (ref06_Light l taints) [L83 l, L143 taints] [] .bool N0 := by
 refine A8 [.tmp 4] Tryz.func43 R R R fun r hm=>?_
 unfold ref06_Light at hm
 refine Ag tbk [] R R<|Af<|Ae<|Aa R R (Ak R)<|Aa R R (Bg T_api_Toleration.vv R C2)<|Ab tbk [] 2 R R<|C5 4 14 10 R (fun K' J=>Ab tbk [] 4 R R<|J 3 R R R) (fun h1 K' J=>Bt R R R R R (Ak R)<|Bt R R R R R (Bg T_api_Taint.vv R Cd)<|Ab tbk [] 2 R R<|J 3 R R R)<|Ac<|Av hm R (fun h2 hm=>Ag tbk [] R R<|Rt1 hm R [] R R R) fun h2 hm=>Aj<|Af<|Ag tbk [] R R<|Ce hm (fun _ (_:Unit)=>[(1,L143 taints)]) (fun _ (_:Unit)=>[]) (fun o hm h4=>?_) fun j _ hm=> ?_
 ·refine Ck (fun zn (zs:Int)=>ref06_Light.l1 l zn zs) (fun zs (_:Unit)=>[(0,L83 l),(1,L143 taints),(5,Iw zs)]) (fun _ (_:Unit)=>[]) _ () (fun _=>R) hm (Ah [] R R) fun n i2 _ hm=> ?_
  rw [ref06_Light.l1] at hm
  exact Af<|Ae<|Ab tbk [] 2 R R<|Aa R R (Bg T_api_Toleration.vv R C2)<|Aa R R (Bh R R R)<|Ac<|Av hm R (fun h5 hm=>Aj<|Af<|A4<|Ae<|Ab tbk [] 2 R R<|Bd hm fun x h6 hm=>Aa R R (A2 T_api_Toleration.vv R R el26 h6)<|Ab tbk [] 2 R R<|Aa R R (B1 R Aq)<|Ab tbk [] 2 R R<|Br hm 8 36 28 R (fun _ K' h7 J hm=>Ab tbk [] 8 R R<|J 7 R R (Bj hm)) (fun _ K' h7 J hm=>Ab tbk [] 2 R R<|Bd hm fun x2 h8 hm=>Bt R R R R R (A2 T_api_Toleration.vv R R el26 h8)<|Ab tbk [] 2 R R<|Bt R R R R R (B1 R Aq)<|Ab tbk [] 2 R R<|J 7 R R (Bj hm)) fun c hm=>Ac<|Av hm R (fun h10 hm=>Ag tbk [] R R<|have hm:=Lr hm h4;Rt1 hm R [] R R R) fun h10 hm=>Aj<|Bf tbk [] R R<|Ap _ () hm (Ah [] R R)) fun h5 hm=>Be<|Ar () hm (Ah [] R R)
 refine Af<|Ag tbk [] R R<|Ce hm (fun _ (_:Unit)=>[]) (fun _ (_:Unit)=>[]) (fun o2 hm h12=>?_) fun j2 _ hm=> ?_
 ·refine Ck (fun zn (zs:Int)=>ref06_Light.l2 taints zn zs) (fun zs (_:Unit)=>[(1,L143 taints),(6,Iw zs)]) (fun _ (_:Unit)=>[]) _ () (fun _=>R) hm (Ah [] R R) fun n2 i4 _ hm=> ?_
  rw [ref06_Light.l2] at hm
  exact Af<|Ae<|Ab tbk [] 2 R R<|Aa R R (Bg T_api_Taint.vv R Cd)<|Aa R R (Bh R R R)<|Ac<|Av hm R (fun h13 hm=>Aj<|Af<|A4<|Ae<|Ab tbk [] 2 R R<|Bd hm fun x3 h14 hm=>Aa R R (A2 T_api_Taint.vv R R el39 h14)<|Ab tbk [] 2 R R<|Aa R R (B1 R Aq)<|Ab tbk [] 2 R R<|Br hm 8 58 50 R (fun _ K' h15 J hm=>Ab tbk [] 8 R R<|J 7 R R (Bj hm)) (fun _ K' h15 J hm=>Ab tbk [] 2 R R<|Bd hm fun x4 h16 hm=>Bt R R R R R (A2 T_api_Taint.vv R R el39 h16)<|Ab tbk [] 2 R R<|Bt R R R R R (B1 R Aq)<|Ab tbk [] 2 R R<|J 7 R R (Bj hm)) fun c2 hm=>Ac<|Av hm R (fun h18 hm=>Ag tbk [] R R<|have hm:=Lr hm h12;Rt1 hm R [] R R R) fun h18 hm=>Aj<|Bf tbk [] R R<|Ap _ () hm (Ah [] R R)) fun h13 hm=>Be<|Ar () hm (Ah [] R R)
 exact Ag tbk [] R R<|Rt1 hm R [] R R R

/-! trireme/triremeref07.LightMachine -/
def ref07_LightMachine (m : T_api_Machine) : Option Bool :=
 (if ((decide ((m.Name.size : Int) ≤ 300)) && (decide ((m.Group.size : Int) ≤ 300))) = true then (ref05_Light m.Labels).bind fun r =>
 some r else some false).bind fun c =>
 (if c = true then (ref06_Light ([] : List T_api_Toleration) m.Taints).bind fun r2 =>
 some r2 else some false).bind fun c2 =>
 some c2
theorem K33 (m : T_api_Machine) : VS Tryz.prog 18 (ref07_LightMachine m) [T_api_Machine.vv m] [] .bool N0 := by
 refine A8 [.tmp 2] Tryz.func18 R R R fun r hm=>?_
 unfold ref07_LightMachine at hm
 exact Ae<|Ad R R<|Ch R R fun b=>Aa R R (Am R)<|Ac<|Ae<|Ab tbk [0] 2 R R<|Aa R R (B1 R Aq)<|Ab tbk [] 2 R R<|Da 5 12 7 R (fun h2 K' J=>Ab tbk [0] 2 R R<|Bt R R R R R (B1 R Aq)<|Ab tbk [] 2 R R<|J 4 R R R) (fun K' J=>Ab tbk [] 5 R R<|J 4 R R R)<|Aa R R (Ak R)<|Br hm 4 17 13 R (fun _ K' h3 J hm=>Ab tbk [0] 2 R R<|Bk R R R R R<|A1 hm 0 R fn42 R (K31 _) fun r hm=>Aa R R (A6 true R R R)<|J 3 R R (Bj hm)) (fun _ K' h3 J hm=>Ab tbk [] 4 R R<|J 3 R R (Bj hm)) fun c hm=>Aa R R (Ak R)<|Br hm 4 22 18 R (fun _ K' h6 J hm=>Ab tbk [0] 2 R R<|Bk R R R R R<|VO.cn hm 0 [.nil 83,.same] R fn43 R (K32 _ _) fun r2 hm=>Aa R R (A6 true R R R)<|J 3 R R (Bj hm)) (fun _ K' h6 J hm=>Ab tbk [] 4 R R<|J 3 R R (Bj hm)) fun c2 hm=>Aa R R (Am R)<|Ac<|Rt1 hm R [] R R R

/-! trireme/triremeref01.more -/
def ref01_more (s : ByteArray) (i : Int) : Option Bool :=
 (if (decide (i < (s.size : Int))) = true then (V.gi s i).bind fun v =>
 some (decide (v ≥ 128)) else some false).bind fun c =>
 (if c = true then (V.gi s i).bind fun v2 =>
 some (decide (v2 < 192)) else some false).bind fun c2 =>
 some c2
theorem K34 (s : ByteArray) (i : Int) : VS Tryz.prog 160 (ref01_more s i) [.str s, Iw i] [] .bool N0 := by
 refine A8 [.tmp 4] Tryz.func160 R R R fun r hm=>?_
 unfold ref01_more at hm
 exact Ag tbk [] R R<|Ae<|Ab tbk [] 2 R R<|Aa R R (B1 R Aq)<|Ab tbk [] 2 R R<|Br hm 5 14 9 R (fun _ K' h1 J hm=>Ab tbk [] 2 R R<|Bd hm fun v h2 hm=>Bt R R R R R (Ci R R Aq h2)<|Ab tbk [] 2 R R<|J 4 R R (Bj hm)) (fun _ K' h1 J hm=>Ab tbk [] 5 R R<|J 4 R R (Bj hm)) fun c hm=>Aa R R (Ak R)<|Br hm 5 20 15 R (fun _ K' h4 J hm=>Ab tbk [] 2 R R<|Bd hm fun v2 h5 hm=>Bt R R R R R (Ci R R Aq h5)<|Ab tbk [] 2 R R<|J 4 R R (Bj hm)) (fun _ K' h4 J hm=>Ab tbk [] 5 R R<|J 4 R R (Bj hm)) fun c2 hm=>Aa R R (Am R)<|Ac<|Rt1 hm R [] R R R

/-! trireme/triremeref01.Rune -/
def ref01_Rune (s : ByteArray) (i : Int) : Option (Int × Int) :=
 (V.gi s i).bind fun v =>
 if (decide ((i64.wrap v) < 128)) = true then
  some ((i64.wrap v), 1)
 else
  (if ((decide ((i64.wrap v) ≥ 192)) && (decide ((i64.wrap v) < 224))) = true then (ref01_more s (i64.wrap (i + 1))).bind fun r =>
  some r else some false).bind fun c =>
  if c = true then
   (V.gi s (i64.wrap (i + 1))).bind fun v2 =>
   if (decide ((i64.wrap ((i64.wrap ((i64.wrap ((i64.wrap ((i64.wrap v) - 192)) * 64)) + (i64.wrap v2))) - 128)) ≥ 128)) = true then
    some ((i64.wrap ((i64.wrap ((i64.wrap ((i64.wrap ((i64.wrap v) - 192)) * 64)) + (i64.wrap v2))) - 128)), 2)
   else
    some (0, 0)
  else
   (if ((decide ((i64.wrap v) ≥ 224)) && (decide ((i64.wrap v) < 240))) = true then (ref01_more s (i64.wrap (i + 1))).bind fun r2 =>
   some r2 else some false).bind fun c2 =>
   (if c2 = true then (ref01_more s (i64.wrap (i + 2))).bind fun r3 =>
   some r3 else some false).bind fun c3 =>
   if c3 = true then
    (V.gi s (i64.wrap (i + 1))).bind fun v3 =>
    (V.gi s (i64.wrap (i + 2))).bind fun v4 =>
    if ((decide ((i64.wrap ((i64.wrap ((i64.wrap ((i64.wrap ((i64.wrap ((i64.wrap v) - 224)) * 4096)) + (i64.wrap ((i64.wrap ((i64.wrap v3) - 128)) * 64)))) + (i64.wrap v4))) - 128)) ≥ 2048)) && ((decide ((i64.wrap ((i64.wrap ((i64.wrap ((i64.wrap ((i64.wrap ((i64.wrap v) - 224)) * 4096)) + (i64.wrap ((i64.wrap ((i64.wrap v3) - 128)) * 64)))) + (i64.wrap v4))) - 128)) < 55296)) || (decide ((i64.wrap ((i64.wrap ((i64.wrap ((i64.wrap ((i64.wrap ((i64.wrap v) - 224)) * 4096)) + (i64.wrap ((i64.wrap ((i64.wrap v3) - 128)) * 64)))) + (i64.wrap v4))) - 128)) > 57343)))) = true then
     some ((i64.wrap ((i64.wrap ((i64.wrap ((i64.wrap ((i64.wrap ((i64.wrap v) - 224)) * 4096)) + (i64.wrap ((i64.wrap ((i64.wrap v3) - 128)) * 64)))) + (i64.wrap v4))) - 128)), 3)
    else
     some (0, 0)
   else
    (if ((decide ((i64.wrap v) ≥ 240)) && (decide ((i64.wrap v) < 248))) = true then (ref01_more s (i64.wrap (i + 1))).bind fun r4 =>
    some r4 else some false).bind fun c4 =>
    (if c4 = true then (ref01_more s (i64.wrap (i + 2))).bind fun r5 =>
    some r5 else some false).bind fun c5 =>
    (if c5 = true then (ref01_more s (i64.wrap (i + 3))).bind fun r6 =>
    some r6 else some false).bind fun c6 =>
    if c6 = true then
     (V.gi s (i64.wrap (i + 1))).bind fun v5 =>
     (V.gi s (i64.wrap (i + 2))).bind fun v6 =>
     (V.gi s (i64.wrap (i + 3))).bind fun v7 =>
     if ((decide ((i64.wrap ((i64.wrap ((i64.wrap ((i64.wrap ((i64.wrap ((i64.wrap ((i64.wrap v) - 240)) * 262144)) + (i64.wrap ((i64.wrap ((i64.wrap v5) - 128)) * 4096)))) + (i64.wrap ((i64.wrap ((i64.wrap v6) - 128)) * 64)))) + (i64.wrap v7))) - 128)) ≥ 65536)) && (decide ((i64.wrap ((i64.wrap ((i64.wrap ((i64.wrap ((i64.wrap ((i64.wrap ((i64.wrap v) - 240)) * 262144)) + (i64.wrap ((i64.wrap ((i64.wrap v5) - 128)) * 4096)))) + (i64.wrap ((i64.wrap ((i64.wrap v6) - 128)) * 64)))) + (i64.wrap v7))) - 128)) ≤ 1114111))) = true then
      some ((i64.wrap ((i64.wrap ((i64.wrap ((i64.wrap ((i64.wrap ((i64.wrap ((i64.wrap v) - 240)) * 262144)) + (i64.wrap ((i64.wrap ((i64.wrap v5) - 128)) * 4096)))) + (i64.wrap ((i64.wrap ((i64.wrap v6) - 128)) * 64)))) + (i64.wrap v7))) - 128)), 4)
     else
      some (0, 0)
    else
     some (0, 0)
theorem K35 (s : ByteArray) (i : Int) : VS Tryz.prog 116 (ref01_Rune s i) [.str s, Iw i] [] (fun r=>.tup [Iw r.1, Iw r.2]) N0 := by
 refine A8 [.tmp 4,.tmp 5] Tryz.func116 R R R fun r hm=>?_
 unfold ref01_Rune at hm
 refine Ag tbk [] R R<|Ae<|Ab tbk [] 2 R R<|Bd hm fun v h1 hm=>Aa R R (Ci R R Aq h1)<|Aa R R (B9 Bo Bu R)<|Aa R R (Am R)<|Ac<|Af<|A4<|Ag tbk [] R R<|Av hm R (fun h2 hm=>Ag tbk [] R R<|Rt2 hm R [] R R R R) fun h2 hm=>Ae<|Ab tbk [] 3 R R<|Bx tbk [] 3 24 21 R R R R R<|Aa R R (Ak R)<|Br hm 5 30 25 R (fun _ K' h4 J hm=>Ab tbk [] 3 R R<|Bk R R R R R<|A1 hm 0 R fn160 R (K34 _ _) fun r hm=>Aa R R (A6 true R R R)<|J 4 R R (Bj hm)) (fun _ K' h4 J hm=>Ab tbk [] 5 R R<|J 4 R R (Bj hm)) fun c hm=>Aa R R (Am R)<|Ac<|Av hm R (fun h7 hm=>Ae<|Ab tbk [] 6 R R<|Bd hm fun v2 h8 hm=>Aa R R (Ci R R Aq h8)<|Aa R R (B9 Bo Bu R)<|Ab tbk [] 3 R R<|Ac<|Ag tbk [] R R<|Av hm R (fun h9 hm=>Ag tbk [] R R<|Rt2 hm R [] R R R R) fun h9 hm=>Aj<|Ag tbk [] R R<|Rt2 hm R [] R R R R) fun h7 hm=>Ae<|Ab tbk [] 3 R R<|Bx tbk [] 3 50 47 R R R R R<|Aa R R (Ak R)<|Br hm 5 56 51 R (fun _ K' h11 J hm=>Ab tbk [] 3 R R<|Bk R R R R R<|A1 hm 0 R fn160 R (K34 _ _) fun r2 hm=>Aa R R (A6 true R R R)<|J 4 R R (Bj hm)) (fun _ K' h11 J hm=>Ab tbk [] 5 R R<|J 4 R R (Bj hm)) fun c2 hm=>Aa R R (Ak R)<|Br hm 5 62 57 R (fun _ K' h14 J hm=>Ab tbk [] 3 R R<|Bk R R R R R<|A1 hm 0 R fn160 R (K34 _ _) fun r3 hm=>Aa R R (A6 true R R R)<|J 4 R R (Bj hm)) (fun _ K' h14 J hm=>Ab tbk [] 5 R R<|J 4 R R (Bj hm)) fun c3 hm=>Aa R R (Am R)<|Ac<|Av hm R (fun h17 hm=>Af<|A3 0 mixed<|An tbk [0,1,2,3,4,5] [] (by kernel_rfl) R R R<|Bd hm fun v3 h18 hm=>Au 6 R R R (by kernel_rfl) (Ci R R Aq h18)<|Au 7 R R R (by kernel_rfl) (B9 Bo Bu R)<|An tbk [8,9,10,11,12,13] [] (by kernel_rfl) R R R<|Bd hm fun v4 h19 hm=>Au 14 R R R (by kernel_rfl) (Ci R R Aq h19)<|Au 15 R R R (by kernel_rfl) (B9 Bo Bu R)<|An tbk [16,17,18] [] (by kernel_rfl) R R R<|Ay (by kernel_rfl)<|Ae<|Ab tbk [] 3 R R<|Da 7 90 83 R (fun h20 K' J=>Ab tbk [] 3 R R<|Cn tbk [] 3 89 86 R R R R R<|Aa R R (A6 true R R R)<|J 4 R R R) (fun K' J=>Ab tbk [] 7 R R<|J 6 R R R)<|Ac<|Av hm R (fun h22 hm=>Ag tbk [] R R<|Rt2 hm R [] R R R R) fun h22 hm=>Aj<|Ag tbk [] R R<|Rt2 hm R [] R R R R) fun h17 hm=>Ae<|Ab tbk [] 3 R R<|Bx tbk [] 3 98 95 R R R R R<|Aa R R (Ak R)<|Br hm 5 104 99 R (fun _ K' h24 J hm=>Ab tbk [] 3 R R<|Bk R R R R R<|A1 hm 0 R fn160 R (K34 _ _) fun r4 hm=>Aa R R (A6 true R R R)<|J 4 R R (Bj hm)) (fun _ K' h24 J hm=>Ab tbk [] 5 R R<|J 4 R R (Bj hm)) fun c4 hm=>Aa R R (Ak R)<|?_
 exact Br hm 5 110 105 R (fun _ K' h27 J hm=>Ab tbk [] 3 R R<|Bk R R R R R<|A1 hm 0 R fn160 R (K34 _ _) fun r5 hm=>Aa R R (A6 true R R R)<|J 4 R R (Bj hm)) (fun _ K' h27 J hm=>Ab tbk [] 5 R R<|J 4 R R (Bj hm)) fun c5 hm=>Aa R R (Ak R)<|Br hm 5 116 111 R (fun _ K' h30 J hm=>Ab tbk [] 3 R R<|Bk R R R R R<|A1 hm 0 R fn160 R (K34 _ _) fun r6 hm=>Aa R R (A6 true R R R)<|J 4 R R (Bj hm)) (fun _ K' h30 J hm=>Ab tbk [] 5 R R<|J 4 R R (Bj hm)) fun c6 hm=>Aa R R (Am R)<|Ac<|Av hm R (fun h33 hm=>Af<|A3 0 mixed<|An tbk [0,1,2,3,4,5] [] (by kernel_rfl) R R R<|Bd hm fun v5 h34 hm=>Au 6 R R R (by kernel_rfl) (Ci R R Aq h34)<|Au 7 R R R (by kernel_rfl) (B9 Bo Bu R)<|An tbk [8,9,10,11,12,13] [] (by kernel_rfl) R R R<|Bd hm fun v6 h35 hm=>Au 14 R R R (by kernel_rfl) (Ci R R Aq h35)<|Au 15 R R R (by kernel_rfl) (B9 Bo Bu R)<|An tbk [16,17,18,19,20,21] [] (by kernel_rfl) R R R<|Bd hm fun v7 h36 hm=>Au 22 R R R (by kernel_rfl) (Ci R R Aq h36)<|Au 23 R R R (by kernel_rfl) (B9 Bo Bu R)<|An tbk [24,25,26] [] (by kernel_rfl) R R R<|Ay (by kernel_rfl)<|Ae<|Ab tbk [] 3 R R<|Bx tbk [] 3 148 145 R R R R R<|Ac<|Av hm R (fun h38 hm=>Ag tbk [] R R<|Rt2 hm R [] R R R R) fun h38 hm=>Aj<|Ag tbk [] R R<|Rt2 hm R [] R R R R) fun h33 hm=>Aj<|Ag tbk [] R R<|Rt2 hm R [] R R R R

/-! trireme/triremeref01.Runes -/
def ref01_Runes.l1 (s : ByteArray) : Nat → Int → Int → Option (Out Int Int)
 | 0, _, _ => none
 | n4 + 1, n2, i2 =>
  if (decide (i2 < (s.size : Int))) = true then
   (ref01_Rune s i2).bind fun r =>
   if (r.2 == 0) = true then
    some (Out.ret (-1))
   else
    ref01_Runes.l1 s n4 (i64.wrap (n2 + 1)) (i64.wrap (i2 + r.2))
  else
   some (Out.go n2)
def ref01_Runes (s : ByteArray) : Option Int :=
 (ref01_Runes.l1 s FU 0 (0 : Int)).bind fun o =>
 o.on fun n32 =>
 some n32
theorem K36 (s : ByteArray) : VS Tryz.prog 183 (ref01_Runes s) [.str s] [] Iw N0 := by
 refine A8 [.tmp 2] Tryz.func183 R R R fun r hm=>?_
 unfold ref01_Runes at hm
 refine Ag tbk [] R R<|Ag tbk [] R R<|Af<|Ag tbk [] R R<|Ce hm (fun n32 (_:Unit)=>[(3,Iw n32)]) (fun _ (_:Unit)=>[]) (fun o hm h2=>?_) fun n32 _ hm=> ?_
 ·refine Ck (fun zn (zs:Int × Int)=>ref01_Runes.l1 s zn zs.1 zs.2) (fun zs (_:Unit)=>[(0,.str s),(3,Iw zs.1),(4,Iw zs.2)]) (fun _ (_:Unit)=>[]) ((0 : Int),(0 : Int)) () (fun _=>R) hm (Ah [] R R) fun n4=>Pq fun n2 i2 _ hm=> ?_
  rw [ref01_Runes.l1] at hm
  exact Af<|Ae<|Ab tbk [] 2 R R<|Aa R R (B1 R Aq)<|Aa R R (Bh R R R)<|Ac<|Av hm R (fun h3 hm=>Aj<|A4<|Ae<|Ab tbk [] 2 R R<|Ad R R<|A1 hm 0 R fn116 R (K35 _ _) fun r hm=>Ab tbk [] 5 R R<|Ac<|Af<|Ag tbk [] R R<|Av hm R (fun h5 hm=>Ag tbk [] R R<|have hm:=Lr hm h2;Rt1 hm R [] R R R) fun h5 hm=>Aj<|Ag tbk [] R R<|Bf tbk [] R R<|Ap ((IntKind.i64.wrap (n2 + (1 : Int))),(IntKind.i64.wrap (i2 + r.2))) () hm (Ah [] R R)) fun h3 hm=>Be<|Ar () hm (Ah [] R R)
 exact Ag tbk [] R R<|Rt1 hm R [] R R R

/-! trireme/triremeref01.where -/
def ref01_where.l1 (s : ByteArray) (at_ : Int) : Nat → Int → Int → Int → Option (Int × Int)
 | 0, _, _, _ => none
 | n + 1, line2, from_2, i2 =>
  if (decide (i2 < at_)) = true then
   (V.gi s i2).bind fun v =>
   if (v == 10) = true then
    ref01_where.l1 s at_ n (i64.wrap (line2 + 1)) (i64.wrap (i2 + 1)) (i64.wrap (i2 + 1))
   else
    ref01_where.l1 s at_ n line2 from_2 (i64.wrap (i2 + 1))
  else
   some (line2, from_2)
def ref01_where (s : ByteArray) (at_ : Int) : Option (Int × Int) :=
 (ref01_where.l1 s at_ FU 1 0 (0 : Int)).bind fun j =>
 (V.ss s (some j.2) (some at_)).bind fun v2 =>
 (ref01_Runes v2).bind fun r =>
 some (j.1, (i64.wrap (1 + r)))
theorem K37 (s : ByteArray) (at_ : Int) : VS Tryz.prog 167 (ref01_where s at_) [.str s, Iw at_] [] (fun r=>.tup [Iw r.1, Iw r.2]) N0 := by
 refine A8 [.tmp 4,.tmp 5] Tryz.func167 R R R fun r hm=>?_
 unfold ref01_where at hm
 refine Ag tbk [] R R<|Ag tbk [] R R<|Ag tbk [] R R<|Af<|Ag tbk [] R R<|Cx hm (fun j (_:Unit)=>[(0,.str s),(1,Iw at_),(6,Iw j.1),(7,Iw j.2)]) (fun _ (_:Unit)=>[]) (fun o hm=>?_) fun j _ hm=> ?_
 ·refine Ck (fun zn (zs:Int × Int × Int)=>ref01_where.l1 s at_ zn zs.1 zs.2.1 zs.2.2) (fun zs (_:Unit)=>[(0,.str s),(1,Iw at_),(6,Iw zs.1),(7,Iw zs.2.1),(8,Iw zs.2.2)]) (fun _ (_:Unit)=>[]) ((1 : Int),(0 : Int),(0 : Int)) () (fun _=>R) hm (Ah [] R R) fun n=>Pq fun line2=>Pq fun from_2 i2 _ hm=> ?_
  rw [ref01_where.l1] at hm
  exact Af<|Ag tbk [] R R<|Av hm R (fun h3 hm=>Aj<|Af<|A4<|Ae<|Ab tbk [] 2 R R<|Bd hm fun v h4 hm=>Aa R R (Ci R R Aq h4)<|Aa R R (Bh R R R)<|Ac<|Av hm R (fun h5 hm=>Ag tbk [] R R<|Bf tbk [] R R<|Bf tbk [] R R<|Ap ((IntKind.i64.wrap (line2 + (1 : Int))),(IntKind.i64.wrap (i2 + (1 : Int))),(IntKind.i64.wrap (i2 + (1 : Int)))) () hm (Ah [] R R)) fun h5 hm=>Aj<|Bf tbk [] R R<|Ap (line2,from_2,(IntKind.i64.wrap (i2 + (1 : Int)))) () hm (Ah [] R R)) fun h3 hm=>Be<|As () hm (Ah [] R R)
 exact Ae<|Ab tbk [] 4 R R<|Bd hm fun v2 h6 hm=>Aa R R (C1 R R R Aq h6)<|Ad R R<|A1 hm 0 R fn183 R (K36 _) fun r hm=>Ab tbk [] 3 R R<|Ac<|Rt2 hm R [] R R R R

/-! trireme/triremeref01.blank -/
def ref01_blank (c : Int) : Option Bool :=
 some ((((c == 32) || (c == 9)) || (c == 10)) || (c == 13))
theorem K38 (c : Int) : VS Tryz.prog 168 (ref01_blank c) [Iw c] [] .bool N0 := by
 refine A8 [.tmp 2] Tryz.func168 R R R fun r hm=>?_
 unfold ref01_blank at hm
 exact Ag tbk [] R R<|Ae<|Ab tbk [] 3 R R<|Cn tbk [] 3 8 5 R R R R R<|Aa R R (Ak R)<|Cn tbk [] 3 12 9 R R R R R<|Aa R R (Ak R)<|Cn tbk [] 3 16 13 R R R R R<|Aa R R (Am R)<|Ac<|Rt1 hm R [] R R R

/-! trireme/triremeref01.remark -/
def ref01_remark.l1 (s : ByteArray) : Nat → Int → Option (Out (Int × Bool) Int)
 | 0, _ => none
 | n + 1, at_3 =>
  (if (decide (at_3 < (s.size : Int))) = true then (V.gi s at_3).bind fun v =>
  some (v != 10) else some false).bind fun c =>
  if c = true then
   (ref01_Rune s at_3).bind fun r =>
   if (r.2 == 0) = true then
    some (Out.ret (at_3, false))
   else
    ref01_remark.l1 s n (i64.wrap (at_3 + r.2))
  else
   some (Out.go at_3)
def ref01_remark (s : ByteArray) (at_ : Int) : Option (Int × Bool) :=
 (ref01_remark.l1 s FU at_).bind fun o =>
 o.on fun at_42 =>
 some (at_42, true)
theorem K39 (s : ByteArray) (at_ : Int) : VS Tryz.prog 169 (ref01_remark s at_) [.str s, Iw at_] [] (fun r=>.tup [Iw r.1, .bool r.2]) N0 := by
 refine A8 [.tmp 4,.tmp 5] Tryz.func169 R R R fun r hm=>?_
 unfold ref01_remark at hm
 refine Ag tbk [] R R<|VW.jo hm (fun at_42 (_:Unit)=>[(1,Iw at_42)]) (fun _ (_:Unit)=>[]) (fun o hm h2=>?_) fun at_42 _ hm=> ?_
 ·refine Ck (fun zn (zs:Int)=>ref01_remark.l1 s zn zs) (fun zs (_:Unit)=>[(0,.str s),(1,Iw zs)]) (fun _ (_:Unit)=>[]) _ () (fun _=>R) hm (Ah [] R R) fun n at_3 _ hm=> ?_
  rw [ref01_remark.l1] at hm
  exact Af<|Ae<|Ab tbk [] 2 R R<|Aa R R (B1 R Aq)<|Ab tbk [] 2 R R<|Br hm 5 17 12 R (fun _ K' h3 J hm=>Ab tbk [] 2 R R<|Bd hm fun v h4 hm=>Bt R R R R R (Ci R R Aq h4)<|Ab tbk [] 2 R R<|J 4 R R (Bj hm)) (fun _ K' h3 J hm=>Ab tbk [] 5 R R<|J 4 R R (Bj hm)) fun c hm=>Ac<|Av hm R (fun h6 hm=>Aj<|A4<|Ae<|Ab tbk [] 2 R R<|Ad R R<|A1 hm 0 R fn116 R (K35 _ _) fun r hm=>Ab tbk [] 5 R R<|Ac<|Af<|Ag tbk [] R R<|Av hm R (fun h8 hm=>Ag tbk [] R R<|have hm:=Lr hm h2;Rt2 hm R [] R R R R) fun h8 hm=>Aj<|Bf tbk [] R R<|Ap _ () hm (Ah [] R R)) fun h6 hm=>Be<|Ar () hm (Ah [] R R)
 exact Ag tbk [] R R<|Rt2 hm R [] R R R R

/-! trireme/triremeref01.quoted -/
def ref01_quoted.l1 (s : ByteArray) : Nat → (List Int) → Int → Option (Out (ByteArray × Int × Int × Int) Unit)
 | 0, _, _ => none
 | n + 1, b2, i2 =>
  if (decide (i2 < (s.size : Int))) = true then
   (ref01_Rune s i2).bind fun r =>
   if (((r.2 == 0) || (((decide (r.1 < 32)) && (r.1 != 9)) && (r.1 != 10))) || (r.1 == 127)) = true then
    some (Out.ret ((⟨#[]⟩ : ByteArray), 0, 2, i2))
   else
    if (r.1 == 34) = true then
     some (Out.ret ((strOfNums b2), (i64.wrap (i2 + 1)), 0, 0))
    else
     if (r.1 == 92) = true then
      (if ((i64.wrap (i2 + 1)) == (s.size : Int)) = true then some true else (V.gi s (i64.wrap (i2 + 1))).bind fun v =>
      (if (v != 110) = true then (V.gi s (i64.wrap (i2 + 1))).bind fun v2 =>
      some (v2 != 34) else some false).bind fun c =>
      (if c = true then (V.gi s (i64.wrap (i2 + 1))).bind fun v3 =>
      some (v3 != 92) else some false).bind fun c2 =>
      some c2).bind fun c3 =>
      if c3 = true then
       some (Out.ret ((⟨#[]⟩ : ByteArray), 0, 2, i2))
      else
       (V.gi s (i64.wrap (i2 + 1))).bind fun v4 =>
       if (v4 == 110) = true then
        (V.ap 1 b2 [10]).bind fun b4 =>
        ref01_quoted.l1 s n b4 (i64.wrap (i2 + 2))
       else
        (V.gi s (i64.wrap (i2 + 1))).bind fun v5 =>
        (V.ap 1 b2 [v5]).bind fun b6 =>
        ref01_quoted.l1 s n b6 (i64.wrap (i2 + 2))
     else
      (V.ss s (some i2) (some (i64.wrap (i2 + r.2)))).bind fun v6 =>
      (V.ap 1 b2 (V.bytesL v6)).bind fun b7 =>
      ref01_quoted.l1 s n b7 (i64.wrap (i2 + r.2))
  else
   some (Out.go ())
def ref01_quoted (s : ByteArray) (at_ : Int) : Option (ByteArray × Int × Int × Int) :=
 (ref01_quoted.l1 s FU ([] : List Int) (i64.wrap (at_ + 1))).bind fun o =>
 o.on fun j =>
 some ((⟨#[]⟩ : ByteArray), 0, 3, at_)
theorem K40 (s : ByteArray) (at_ : Int) : VS Tryz.prog 170 (ref01_quoted s at_) [.str s, Iw at_] [] (fun r=>.tup [.str r.1, Iw r.2.1, Iw r.2.2.1, Iw r.2.2.2]) N0 := by
 refine A8 [.tmp 4,.tmp 5,.tmp 6,.tmp 7] Tryz.func170 R R R fun r hm=>?_
 unfold ref01_quoted at hm
 refine Ag tbk [] R R<|Ag tbk [] R R<|Af<|Ag tbk [] R R<|Ce hm (fun _ (_:Unit)=>[(1,Iw at_)]) (fun _ (_:Unit)=>[]) (fun o hm h4=>?_) fun j _ hm=> ?_
 ·refine Ck (fun zn (zs:List Int × Int)=>ref01_quoted.l1 s zn zs.1 zs.2) (fun zs (zg:Option Nat × Nat)=>[(0,.str s),(1,Iw at_),(8,Z5 zg.1 zs.1 zg.2),(9,Iw zs.2)]) (fun zs (zg:Option Nat × Nat)=>[Q5 zg.1 zg.2 zs.1]) (([] : List Int),(IntKind.i64.wrap (at_ + (1 : Int)))) (none,0) (fun _=>R) hm (B5 (Bc 5) (Ah [0] R R)) fun n=>Pq fun b2 i2=>Pq fun ob2 cap2 hm=> ?_
  rw [ref01_quoted.l1] at hm
  refine Af<|Ae<|Ab tbk [] 2 R R<|Aa R R (B1 R Aq)<|Aa R R (Bh R R R)<|Ac<|Av hm R (fun h5 hm=>?_) fun h5 hm=> ?_
  ·refine Aj<|A4<|Ae<|Ab tbk [] 2 R R<|Ad R R<|A1 hm 0 R fn116 R (K35 _ _) fun r hm=>Ab tbk [] 5 R R<|Ac<|A4<|Ae<|Ab tbk [] 3 R R<|C5 11 49 38 R (fun K' J=>Ab tbk [] 11 R R<|J 10 R R R) (fun h7 K' J=>Ab tbk [] 3 R R<|Bx tbk [] 3 44 41 R R R R R<|Bt R R R R R (Ak R)<|Bx tbk [] 3 48 45 R R R R R<|Aa R R (A6 false R R R)<|J 6 R R R)<|Aa R R (Ak R)<|Cn tbk [] 3 53 50 R R R R R<|Aa R R (Am R)<|Ac<|Av hm R (fun h11 hm=>Ag tbk [] R R<|have hm:=Lr hm h4;Rt0 hm R [] (.cons (.tmp _ _ R) (.cons (.tmp _ _ R) (.cons (.tmp _ _ R) (.cons (.tmp _ _ R) .nil)))) R R) fun h11 hm=>Ag tbk [] R R<|Av hm R (fun h12 hm=>Ae<|Aa R R (Ak R)<|Aa R R (VP.convB (i:=0) (l:=b2) el160 Bo Aq R R)<|Ab tbk [] 6 R R<|Ac<|have hm:=Lr hm h4;Rt0 hm R [] (.cons (.tmp _ _ R) (.cons (.tmp _ _ R) (.cons (.tmp _ _ R) (.cons (.tmp _ _ R) .nil)))) R R) fun h12 hm=>Ag tbk [] R R<|Av hm R (fun h13 hm=>?_) fun h13 hm=> ?_
   ·exact Af<|Ae<|Ab tbk [] 3 R R<|Aa R R (B1 R Aq)<|Ab tbk [] 2 R R<|Br hm 20 90 70 R (fun _ K' h14 J hm=>Ab tbk [] 20 R R<|J 19 R R (Bj hm)) (fun _ K' h14 J hm=>Ab tbk [] 3 R R<|Bd hm fun v h15 hm=>Bt R R R R R (Ci R R Aq h15)<|Ab tbk [] 2 R R<|Br hm 6 82 76 R (fun _ K' h16 J hm=>Ab tbk [] 3 R R<|Bd hm fun v2 h17 hm=>Bt R R R R R (Ci R R Aq h17)<|Ab tbk [] 2 R R<|J 5 R R (Bj hm)) (fun _ K' h16 J hm=>Ab tbk [] 6 R R<|J 5 R R (Bj hm)) fun c hm=>Bt R R R R R (Ak R)<|Br hm 6 89 83 R (fun _ K' h19 J hm=>Ab tbk [] 3 R R<|Bd hm fun v3 h20 hm=>Bt R R R R R (Ci R R Aq h20)<|Ab tbk [] 2 R R<|J 5 R R (Bj hm)) (fun _ K' h19 J hm=>Ab tbk [] 6 R R<|J 5 R R (Bj hm)) fun c2 hm=>Aa R R (A6 false R R R)<|J 9 R R (Bj hm)) fun c3 hm=>Ac<|Av hm R (fun h23 hm=>Ag tbk [] R R<|have hm:=Lr hm h4;Rt0 hm R [] (.cons (.tmp _ _ R) (.cons (.tmp _ _ R) (.cons (.tmp _ _ R) (.cons (.tmp _ _ R) .nil)))) R R) fun h23 hm=>Aj<|Af<|Ae<|Ab tbk [] 3 R R<|Bd hm fun v4 h24 hm=>Aa R R (Ci R R Aq h24)<|Aa R R (Bh R R R)<|Ac<|Av hm R (fun h25 hm=>Bb<|Aa R R (Ak R)<|Ad R R<|Ax ap160 R R R R R fun b3=>Bd hm fun b4 h27 hm=>Ad R R<|Bs 1 (VV.int .u8) (l:=b2) (l2:=[(10 : Int)]) ap160 R R (sT_row 0 (VV.int .u8) el160 R R) h27 fun ob3 cap3=>Aa R R (Am R)<|Ac<|Bf tbk [] R R<|Ap (b4,(IntKind.i64.wrap (i2 + (2 : Int)))) (ob3,cap3) hm (Ah [1] R R)) fun h25 hm=>Bb<|Ab tbk [] 4 R R<|Bd hm fun v5 h28 hm=>Aa R R (Ci R R Aq h28)<|Ad R R<|Ax ap160 R R R R R fun b5=>Bd hm fun b6 h30 hm=>Ad R R<|Bs 1 (VV.int .u8) (l:=b2) (l2:=[v5]) ap160 R R (sT_row 0 (VV.int .u8) el160 R R) h30 fun ob4 cap4=>Aa R R (Am R)<|Ac<|Bf tbk [] R R<|Ap (b6,(IntKind.i64.wrap (i2 + (2 : Int)))) (ob4,cap4) hm (Ah [1] R R)
   exact Ae<|Ab tbk [] 6 R R<|Bd hm fun v6 h31 hm=>Aa R R (C1 R R R Aq h31)<|Bd hm fun b7 h32 hm=>Ad R R<|VO.apS 0 (l:=b2) ap160 u8z5 Aq R R R h32 fun ob5 cap5=>Aa R R (Am R)<|Ac<|Bf tbk [] R R<|Ap (b7,(IntKind.i64.wrap (i2 + r.2))) (ob5,cap5) hm (Ah [0] R R)
  exact Be<|Ar () hm (Ah [] R R)
 exact Ag tbk [] R R<|Rt0 hm R [] (.cons (.tmp _ _ R) (.cons (.tmp _ _ R) (.cons (.tmp _ _ R) (.cons (.tmp _ _ R) .nil)))) R R

/-! trireme/triremeref01.plain -/
def ref01_plain (c : Int) : Option Bool :=
 some ((((((decide (c > 32)) && (c != 127)) && (c != 40)) && (c != 41)) && (c != 34)) && (c != 59))
theorem K41 (c : Int) : VS Tryz.prog 117 (ref01_plain c) [Iw c] [] .bool N0 := by
 refine A8 [.tmp 2] Tryz.func117 R R R fun r hm=>?_
 unfold ref01_plain at hm
 exact Ag tbk [] R R<|Ae<|Ab tbk [] 3 R R<|Bx tbk [] 3 8 5 R R R R R<|Aa R R (Ak R)<|Bx tbk [] 3 12 9 R R R R R<|Aa R R (Ak R)<|Bx tbk [] 3 16 13 R R R R R<|Aa R R (Ak R)<|Bx tbk [] 3 20 17 R R R R R<|Aa R R (Ak R)<|Bx tbk [] 3 24 21 R R R R R<|Aa R R (Am R)<|Ac<|Rt1 hm R [] R R R

/-! trireme/triremeref01.word -/
def ref01_word.l1 (s : ByteArray) : Nat → Int → Option Int
 | 0, _ => none
 | n + 1, i2 =>
  if (decide (i2 < (s.size : Int))) = true then
   (ref01_Rune s i2).bind fun r =>
   (if (r.2 == 0) = true then some true else (ref01_plain r.1).bind fun r2 =>
   some (!r2)).bind fun c =>
   if c = true then
    some i2
   else
    ref01_word.l1 s n (i64.wrap (i2 + r.2))
  else
   some i2
def ref01_word (s : ByteArray) (at_ : Int) : Option (Int × Int × Int) :=
 (ref01_word.l1 s FU at_).bind fun i32 =>
 if (i32 == at_) = true then
  some (0, 2, at_)
 else
  (V.ss s (some at_) (some i32)).bind fun v =>
  (ref01_Runes v).bind fun r3 =>
  if (decide (r3 > 64)) = true then
   some (0, 4, at_)
  else
   some (i32, 0, 0)
theorem K42 (s : ByteArray) (at_ : Int) : VS Tryz.prog 171 (ref01_word s at_) [.str s, Iw at_] [] (fun r=>.tup [Iw r.1, Iw r.2.1, Iw r.2.2]) N0 := by
 refine A8 [.tmp 4,.tmp 5,.tmp 6] Tryz.func171 R R R fun r hm=>?_
 unfold ref01_word at hm
 refine Ag tbk [] R R<|Ag tbk [] R R<|Ca hm (fun i32 (_:Unit)=>[(0,.str s),(1,Iw at_),(7,Iw i32)]) (fun _ (_:Unit)=>[]) (fun o hm=>?_) fun i32 _ hm=> ?_
 ·refine Ck (fun zn (zs:Int)=>ref01_word.l1 s zn zs) (fun zs (_:Unit)=>[(0,.str s),(1,Iw at_),(7,Iw zs)]) (fun _ (_:Unit)=>[]) _ () (fun _=>R) hm (Ah [] R R) fun n i2 _ hm=> ?_
  rw [ref01_word.l1] at hm
  exact Af<|Ae<|Ab tbk [] 2 R R<|Aa R R (B1 R Aq)<|Aa R R (Bh R R R)<|Ac<|Av hm R (fun h3 hm=>Aj<|A4<|Ae<|Ab tbk [] 2 R R<|Ad R R<|A1 hm 0 R fn116 R (K35 _ _) fun r hm=>Ab tbk [] 5 R R<|Ac<|Af<|Ae<|Ab tbk [] 3 R R<|Br hm 4 27 23 R (fun _ K' h5 J hm=>Ab tbk [] 4 R R<|J 3 R R (Bj hm)) (fun _ K' h5 J hm=>Bt R R R R R (Ak R)<|Bk R R R R R<|A1 hm 0 R fn117 R (K41 _) fun r2 hm=>Ab tbk [] 2 R R<|J 3 R R (Bj hm)) fun c hm=>Ac<|Av hm R (fun h8 hm=>Be<|As () hm (Ah [] R R)) fun h8 hm=>Aj<|Bf tbk [] R R<|Ap _ () hm (Ah [] R R)) fun h3 hm=>Be<|As () hm (Ah [] R R)
 exact Af<|Ag tbk [] R R<|Av hm R (fun h9 hm=>Ag tbk [] R R<|Rt0 hm R [] (.cons (.tmp _ _ R) (.cons (.tmp _ _ R) (.cons (.tmp _ _ R) .nil))) R R) fun h9 hm=>Aj<|Af<|Ae<|Ab tbk [] 3 R R<|Bd hm fun v h10 hm=>Aa R R (C1 R R R Aq h10)<|Ad R R<|A1 hm 0 R fn183 R (K36 _) fun r3 hm=>Aa R R (Bh R R R)<|Ac<|Av hm R (fun h12 hm=>Ag tbk [] R R<|Rt0 hm R [] (.cons (.tmp _ _ R) (.cons (.tmp _ _ R) (.cons (.tmp _ _ R) .nil))) R R) fun h12 hm=>Aj<|Ag tbk [] R R<|Rt0 hm R [] (.cons (.tmp _ _ R) (.cons (.tmp _ _ R) (.cons (.tmp _ _ R) .nil))) R R

/-! trireme/triremeref01.Scan -/
def ref01_Scan.l1 (s : ByteArray) : Nat → (List T_api_Token) → Int → Option (Out (List T_api_Token × Int × Int) (List T_api_Token))
 | 0, _, _ => none
 | n + 1, out2, at_2 =>
  if (decide (at_2 < (s.size : Int))) = true then
   (V.gi s at_2).bind fun v =>
   (ref01_where s at_2).bind fun r =>
   (ref01_blank (i64.wrap v)).bind fun r2 =>
   if r2 = true then
    ref01_Scan.l1 s n out2 (i64.wrap (at_2 + 1))
   else
    if ((i64.wrap v) == 59) = true then
     (ref01_remark s at_2).bind fun r3 =>
     if (!r3.2) = true then
      some (Out.ret (([] : List T_api_Token), 2, r3.1))
     else
      ref01_Scan.l1 s n out2 r3.1
    else
     if (((i64.wrap v) == 40) || ((i64.wrap v) == 41)) = true then
      if ((i64.wrap v) == 41) = true then
       (V.ss s (some at_2) (some (i64.wrap (at_2 + 1)))).bind fun v2 =>
       (V.ap 48 out2 [(⟨2, v2, at_2, r.1, r.2⟩ : T_api_Token)]).bind fun out4 =>
       ref01_Scan.l1 s n out4 (i64.wrap (at_2 + 1))
      else
       (V.ss s (some at_2) (some (i64.wrap (at_2 + 1)))).bind fun v3 =>
       (V.ap 48 out2 [(⟨1, v3, at_2, r.1, r.2⟩ : T_api_Token)]).bind fun out5 =>
       ref01_Scan.l1 s n out5 (i64.wrap (at_2 + 1))
     else
      if ((i64.wrap v) == 34) = true then
       (ref01_quoted s at_2).bind fun r4 =>
       if (r4.2.2.1 != 0) = true then
        some (Out.ret (([] : List T_api_Token), r4.2.2.1, r4.2.2.2))
       else
        (V.ap 48 out2 [(⟨4, r4.1, at_2, r.1, r.2⟩ : T_api_Token)]).bind fun out6 =>
        ref01_Scan.l1 s n out6 r4.2.1
      else
       (ref01_word s at_2).bind fun r5 =>
       if (r5.2.1 != 0) = true then
        some (Out.ret (([] : List T_api_Token), r5.2.1, r5.2.2))
       else
        (V.ss s (some at_2) (some r5.1)).bind fun v4 =>
        (V.ap 48 out2 [(⟨3, v4, at_2, r.1, r.2⟩ : T_api_Token)]).bind fun out7 =>
        ref01_Scan.l1 s n out7 r5.1
  else
   some (Out.go out2)
def ref01_Scan (s : ByteArray) : Option (List T_api_Token × Int × Int) :=
 if (decide ((s.size : Int) > 65536)) = true then
  some (([] : List T_api_Token), 7, 65536)
 else
  (ref01_Scan.l1 s FU ([] : List T_api_Token) (0 : Int)).bind fun o =>
  o.on fun out32 =>
  some (out32, 0, 0)
theorem K43 (s : ByteArray) : VS2 Tryz.prog 135 (ref01_Scan s) [.str s] [] (fun r ob0 cap0=>.tup [Z174 ob0 r.1 cap0, Iw r.2.1, Iw r.2.2]) (fun r ob0 cap0=>[Q174 ob0 cap0 r.1]) := by
 refine Dm [.tmp 2,.tmp 3,.tmp 4] Tryz.func135 R R R fun r hm=>?_
 unfold ref01_Scan at hm
 refine Ag tbk [] R R<|Af<|Ae<|Aa R R (Ak R)<|Aa R R (B1 R Aq)<|Aa R R (Bh R R R)<|Ac<|Av hm R (fun h1 hm=>Ag tbk [] R R<|Ba (Bc 174)<|Rg2 hm R [0] none 0 (.cons (.tmp _ _ R) (.cons (.tmp _ _ R) (.cons (.tmp _ _ R) .nil))) R R) fun h1 hm=>Aj<|Ag tbk [] R R<|Af<|Ag tbk [] R R<|Ce hm (fun out32 (gg:Option Nat × Nat)=>[(5,Z174 gg.1 out32 gg.2)]) (fun out32 (gg:Option Nat × Nat)=>[Q174 gg.1 gg.2 out32]) (fun o hm h6=>?_) fun out32=>Pq fun ob3 cap3 hm=> ?_
 ·refine Ck (fun zn (zs:List T_api_Token × Int)=>ref01_Scan.l1 s zn zs.1 zs.2) (fun zs (zg:Option Nat × Nat)=>[(0,.str s),(5,Z174 zg.1 zs.1 zg.2),(6,Iw zs.2)]) (fun zs (zg:Option Nat × Nat)=>[Q174 zg.1 zg.2 zs.1]) (([] : List T_api_Token),(0 : Int)) (none,0) (fun _=>R) hm (B5 (Bc 174) (Ah [0] R R)) fun n=>Pq fun out2 at_2=>Pq fun ob2 cap2 hm=> ?_
  rw [ref01_Scan.l1] at hm
  refine Af<|Ae<|Ab tbk [] 2 R R<|Aa R R (B1 R Aq)<|Aa R R (Bh R R R)<|Ac<|Av hm R (fun h7 hm=>?_) fun h7 hm=> ?_
  ·refine Aj<|A4<|Ae<|Ab tbk [] 2 R R<|Bd hm fun v h8 hm=>Aa R R (Ci R R Aq h8)<|Aa R R (B9 Bo Bu R)<|Aa R R (Am R)<|Ac<|Ae<|Ab tbk [] 2 R R<|Ad R R<|A1 hm 0 R fn167 R (K37 _ _) fun r hm=>Ab tbk [] 5 R R<|Ac<|Ae<|Ab tbk [] 3 R R<|Aa R R (A5 pl174 R R)<|Ad R R<|A9 z174 fun b=>Ad R R<|Al (i:=0) R R R ld174 R R R<|Ac<|Af<|A4<|Ae<|Aa R R (Ak R)<|Ad R R<|A1 hm 0 R fn168 R (K38 _) fun r2 hm=>Aa R R (Am R)<|Ac<|Av hm R (fun h12 hm=>Ag tbk [] R R<|Be<|Ap (out2,(IntKind.i64.wrap (at_2 + (1 : Int)))) (ob2,cap2) hm (Ah [1] R R)) fun h12 hm=>Ag tbk [] R R<|Av hm R (fun h13 hm=>Ae<|Ab tbk [] 2 R R<|Ad R R<|A1 hm 0 R fn169 R (K39 _ _) fun r3 hm=>Ab tbk [] 5 R R<|Ac<|Af<|Ag tbk [] R R<|Av hm R (fun h15 hm=>Ag tbk [] R R<|have hm:=Lr hm h6;Ba (Bc 174)<|Rg2 hm R [0] none 0 (.cons (.tmp _ _ R) (.cons (.tmp _ _ R) (.cons (.tmp _ _ R) .nil))) R R) fun h15 hm=>Aj<|Ag tbk [] R R<|Be<|Ap (out2,r3.1) (ob2,cap2) hm (Ah [1] R R)) fun h13 hm=>Ae<|Ab tbk [] 3 R R<|Cn tbk [] 3 83 80 R R R R R<|Aa R R (Am R)<|Ac<|Av hm R (fun h18 hm=>?_) fun h18 hm=> ?_
   ·exact Ae<|Aa R R (Cl R fa174_0)<|Ad R R<|Al (i:=0) R R R ld3 R R R<|Ac<|Af<|Ag tbk [] R R<|Av hm R (fun h19 hm=>Bb<|Aa R R (Cl R fa174_0)<|Ad R R<|Al (i:=0) R R R ld3 R R R<|Ac<|Ae<|Ab tbk [] 4 R R<|Bd hm fun v2 h20 hm=>Aa R R (C1 R R R Aq h20)<|Aa R R (Cl R fa174_1)<|Ad R R<|Al (i:=0) R R R ld9 R R R<|Ac<|Bf tbk [] R R<|Bb<|Ab tbk [0] 2 R R<|Ad R R<|Ax ap170 R R R R R fun b2=>Bd hm fun out4 h22 hm=>Ad R R<|Bs 2 T_api_Token.vv (l:=out2) (l2:=[(⟨(2 : Int),v2,at_2,r.1,r.2⟩ : T_api_Token)]) ap170 R R (sT_row 0 T_api_Token.vv el170 R R) h22 fun ob4 cap4=>Aa R R (Am R)<|Ac<|Ap (out4,(IntKind.i64.wrap (at_2 + (1 : Int)))) (ob4,cap4) hm (Ah [2] R R)) fun h19 hm=>Aj<|Ae<|Ab tbk [] 4 R R<|Bd hm fun v3 h23 hm=>Aa R R (C1 R R R Aq h23)<|Aa R R (Cl R fa174_1)<|Ad R R<|Al (i:=0) R R R ld9 R R R<|Ac<|Bf tbk [] R R<|Bb<|Ab tbk [0] 2 R R<|Ad R R<|Ax ap170 R R R R R fun b3=>Bd hm fun out5 h25 hm=>Ad R R<|Bs 2 T_api_Token.vv (l:=out2) (l2:=[(⟨(1 : Int),v3,at_2,r.1,r.2⟩ : T_api_Token)]) ap170 R R (sT_row 0 T_api_Token.vv el170 R R) h25 fun ob5 cap5=>Aa R R (Am R)<|Ac<|Ap (out5,(IntKind.i64.wrap (at_2 + (1 : Int)))) (ob5,cap5) hm (Ah [2] R R)
   exact Ag tbk [] R R<|Av hm R (fun h26 hm=>Ae<|Ab tbk [] 2 R R<|Ad R R<|A1 hm 0 R fn170 R (K40 _ _) fun r4 hm=>Ab tbk [] 9 R R<|Ac<|Af<|Ag tbk [] R R<|Av hm R (fun h28 hm=>Ag tbk [] R R<|have hm:=Lr hm h6;Ba (Bc 174)<|Rg2 hm R [0] none 0 (.cons (.tmp _ _ R) (.cons (.tmp _ _ R) (.cons (.tmp _ _ R) .nil))) R R) fun h28 hm=>Aj<|Ae<|Aa R R (Cl R fa174_0)<|Ad R R<|Al (i:=0) R R R ld3 R R R<|Ac<|Ae<|Ab tbk [] 2 R R<|Ad R R<|Al (i:=0) R R R ld9 R R R<|Ac<|Bf tbk [] R R<|Bb<|Ab tbk [0] 2 R R<|Ad R R<|Ax ap170 R R R R R fun b4=>Bd hm fun out6 h31 hm=>Ad R R<|Bs 2 T_api_Token.vv (l:=out2) (l2:=[(⟨(4 : Int),r4.1,at_2,r.1,r.2⟩ : T_api_Token)]) ap170 R R (sT_row 0 T_api_Token.vv el170 R R) h31 fun ob6 cap6=>Aa R R (Am R)<|Ac<|Ap (out6,r4.2.1) (ob6,cap6) hm (Ah [2] R R)) fun h26 hm=>Ae<|Ab tbk [] 2 R R<|Ad R R<|A1 hm 0 R fn171 R (K42 _ _) fun r5 hm=>Ab tbk [] 7 R R<|Ac<|Af<|Ag tbk [] R R<|Av hm R (fun h33 hm=>Ag tbk [] R R<|have hm:=Lr hm h6;Ba (Bc 174)<|Rg2 hm R [0] none 0 (.cons (.tmp _ _ R) (.cons (.tmp _ _ R) (.cons (.tmp _ _ R) .nil))) R R) fun h33 hm=>Aj<|Ae<|Aa R R (Cl R fa174_0)<|Ad R R<|Al (i:=0) R R R ld3 R R R<|Ac<|Ae<|Ab tbk [] 3 R R<|Bd hm fun v4 h35 hm=>Aa R R (C1 R R R Aq h35)<|Aa R R (Cl R fa174_1)<|Ad R R<|Al (i:=0) R R R ld9 R R R<|Ac<|Bf tbk [] R R<|Bb<|Ab tbk [0] 2 R R<|Ad R R<|Ax ap170 R R R R R fun b5=>Bd hm fun out7 h37 hm=>Ad R R<|Bs 2 T_api_Token.vv (l:=out2) (l2:=[(⟨(3 : Int),v4,at_2,r.1,r.2⟩ : T_api_Token)]) ap170 R R (sT_row 0 T_api_Token.vv el170 R R) h37 fun ob7 cap7=>Aa R R (Am R)<|Ac<|Ap (out7,r5.1) (ob7,cap7) hm (Ah [2] R R)
  exact Be<|Ar (ob2,cap2) hm (Ah [0] R R)
 exact Ag tbk [] R R<|Rg2 hm R [0] ob3 cap3 (.cons (.tmp _ _ R) (.cons (.tmp _ _ R) (.cons (.tmp _ _ R) .nil))) R R

/-! trireme/triremeref02.Parse -/
def ref02_Parse.l1 (r : List T_api_Token × Int × Int) : Nat → (List T_api_Node) → (List Int) → Int → Option (Out (List T_api_Node × Int × Int) (List T_api_Node × List Int))
 | 0, _, _, _ => none
 | n + 1, out2, open_2, i2 =>
  if (decide (i2 < (r.1.length : Int))) = true then
   (V.gl r.1 i2).bind fun x =>
   if (x.Kind == 2) = true then
    if ((open_2.length : Int) == 0) = true then
     (V.gl r.1 i2).bind fun x2 =>
     some (Out.ret (([] : List T_api_Node), 6, x2.At))
    else
     (V.sl open_2 none (some (i64.wrap ((open_2.length : Int) - 1)))).bind fun open_4 =>
     ref02_Parse.l1 r n out2 open_4 (i64.wrap (i2 + 1))
   else
    (if ((out2.length : Int) == 4000) = true then some true else (V.gl r.1 i2).bind fun x3 =>
    some ((x3.Kind == 1) && ((open_2.length : Int) == 20))).bind fun c =>
    if c = true then
     (V.gl r.1 i2).bind fun x4 =>
     some (Out.ret (([] : List T_api_Node), 7, x4.At))
    else
     (if (decide ((open_2.length : Int) > 0)) = true then
      (V.gl open_2 (i64.wrap ((open_2.length : Int) - 1))).bind fun x5 =>
      (V.gl out2 x5).bind fun x6 =>
      (V.gl out2 x5).bind fun x7 =>
      some (List.set out2 (x5).toNat (⟨x7.Kind, x7.Text, (i64.wrap (x6.Kids + 1)), x7.At⟩ : T_api_Node))
     else
      some out2).bind fun out42 =>
     (V.gl r.1 i2).bind fun x8 =>
     if (x8.Kind == 1) = true then
      (V.ap 8 open_2 [(out42.length : Int)]).bind fun open_5 =>
      (V.gl r.1 i2).bind fun x9 =>
      (V.ap 40 out42 [(⟨5, (⟨#[]⟩ : ByteArray), 0, x9.At⟩ : T_api_Node)]).bind fun out5 =>
      ref02_Parse.l1 r n out5 open_5 (i64.wrap (i2 + 1))
     else
      (V.gl r.1 i2).bind fun x10 =>
      (V.gl r.1 i2).bind fun x11 =>
      (V.gl r.1 i2).bind fun x12 =>
      (V.ap 40 out42 [(⟨x10.Kind, x11.Text, 0, x12.At⟩ : T_api_Node)]).bind fun out6 =>
      ref02_Parse.l1 r n out6 open_2 (i64.wrap (i2 + 1))
  else
   some (Out.go (out2, open_2))
def ref02_Parse (s : ByteArray) : Option (List T_api_Node × Int × Int) :=
 (ref01_Scan s).bind fun r =>
 if (r.2.1 != 0) = true then
  some (([] : List T_api_Node), r.2.1, r.2.2)
 else
  (ref02_Parse.l1 r FU ([] : List T_api_Node) ([] : List Int) (0 : Int)).bind fun o =>
  o.on fun j =>
  if (decide ((j.2.length : Int) > 0)) = true then
   (V.gl j.2 (i64.wrap ((j.2.length : Int) - 1))).bind fun x13 =>
   (V.gl j.1 x13).bind fun x14 =>
   some (([] : List T_api_Node), 5, x14.At)
  else
   some (j.1, 0, 0)
theorem K44 (s : ByteArray) : VS2 Tryz.prog 78 (ref02_Parse s) [.str s] [] (fun r ob0 cap0=>.tup [Z100 ob0 r.1 cap0, Iw r.2.1, Iw r.2.2]) (fun r ob0 cap0=>[Q100 ob0 cap0 r.1]) := by
 refine Dm [.tmp 2,.tmp 3,.tmp 4] Tryz.func78 R R R fun r hm=>?_
 unfold ref02_Parse at hm
 refine Ag tbk [] R R<|Ae<|Aa R R (Ak R)<|Ad R R<|Db hm 0 R fn135 R (K43 _) fun r ob cap hm=>Ab tbk [] 7 R R<|Ac<|Af<|Ag tbk [] R R<|Av hm R (fun h3 hm=>Ag tbk [] R R<|Ba (Bc 100)<|Rg2 hm R [0] none 0 (.cons (.tmp _ _ R) (.cons (.tmp _ _ R) (.cons (.tmp _ _ R) .nil))) R R) fun h3 hm=>Aj<|Ag tbk [] R R<|Ag tbk [] R R<|Af<|Ag tbk [] R R<|Ce hm (fun j (gg:Option Nat × Nat × Option Nat × Nat)=>[(8,Z100 gg.1 j.1 gg.2.1),(9,Z3 gg.2.2.1 j.2 gg.2.2.2)]) (fun j (gg:Option Nat × Nat × Option Nat × Nat)=>[Q100 gg.1 gg.2.1 j.1,Q3 gg.2.2.1 gg.2.2.2 j.2]) (fun o hm h10=>?_) fun j=>Pq fun ob6=>Pq fun cap6=>Pq fun ob7 cap7 hm=> ?_
 ·refine Ck (fun zn (zs:List T_api_Node × List Int × Int)=>ref02_Parse.l1 r zn zs.1 zs.2.1 zs.2.2) (fun zs (zg:Option Nat × Nat × Option Nat × Nat)=>[(5,Z174 ob r.1 cap),(8,Z100 zg.1 zs.1 zg.2.1),(9,Z3 zg.2.2.1 zs.2.1 zg.2.2.2),(10,Iw zs.2.2)]) (fun zs (zg:Option Nat × Nat × Option Nat × Nat)=>[Q100 zg.1 zg.2.1 zs.1,Q3 zg.2.2.1 zg.2.2.2 zs.2.1,Q174 ob cap r.1]) (([] : List T_api_Node),([] : List Int),(0 : Int)) (none,0,none,0) (fun _=>R) hm (B5 (Bc 100) (B5 (Bc 3) (Ah [1,0,2] R R))) fun n=>Pq fun out2=>Pq fun open_2 i2=>Pq fun ob4=>Pq fun cap4=>Pq fun ob5 cap5 hm=> ?_
  rw [ref02_Parse.l1] at hm
  refine Af<|Ae<|Ab tbk [] 2 R R<|Aa R R (C6 T_api_Token.vv R Tryz.underlying170)<|Aa R R (Bh R R R)<|Ac<|Av hm R (fun h11 hm=>?_) fun h11 hm=> ?_
  ·refine Aj<|Af<|A4<|Af<|Ae<|Ab tbk [] 2 R R<|Bd hm fun x h12 hm=>Dz 2 R (gl_pos T_api_Token.vv h12) fun b h13=> ?_
   subst h13
   refine Aa R R (C4 T_api_Token.vv R R el170 h12)<|Aa R R (Cv R fa174_0)<|Aa R R (Bz (i:=2) (y:=T_api_Token.vv x) R R R (gl_map _ (gl_some h12).2) ld3 R)<|Aa R R (Bh R R R)<|Ac<|Av hm R (fun h14 hm=>Af<|Ae<|Aa R R (Ak R)<|Aa R R (C6 (VV.int .i64) R Bi)<|Aa R R (Bh R R R)<|Ac<|Av hm R (fun h15 hm=>Af<|A3 0 mixed<|An tbk [0,1] [] (by kernel_rfl) R R R<|Bd hm fun x2 h16 hm=>Au 2 R R R (by kernel_rfl) (C4 T_api_Token.vv R R el170 h16)<|Au 3 R R R (by kernel_rfl) (Cv R fa174_2)<|Au 4 R R R (by kernel_rfl) (Bz (i:=2) (y:=T_api_Token.vv x2) R R R (gl_map _ (gl_some h16).2) ld3 R)<|An tbk [5,6,7] [] (by kernel_rfl) R R R<|Ay (by kernel_rfl)<|have hm:=Lr hm h10;Ba (Bc 100)<|Rg2 hm R [0] none 0 (.cons (.tmp _ _ R) (.cons (.tmp _ _ R) (.cons (.tmp _ _ R) .nil))) R R) fun h15 hm=>Aj<|Ae<|Ab tbk [] 2 R R<|Aa R R (C6 (VV.int .i64) R Bi)<|Aa R R (Bh R R R)<|Bd hm fun open_4 h18 hm=>Ad R R<|VO.sliceRV 1 (f:=(VV.int .i64)) (l:=open_2) el27 R R R h18<|Aa R R (Am R)<|Ac<|Be<|Bf tbk [] R R<|Ap (out2,open_4,(IntKind.i64.wrap (i2 + (1 : Int)))) (ob4,cap4,ob5,cap5) hm (Ah [0,1,2] R R)) fun h14 hm=>Aj<|Af<|Ae<|Aa R R (Ak R)<|Aa R R (C6 T_api_Node.vv R C9)<|Ab tbk [] 2 R R<|Br hm 12 61 49 R (fun _ K' h19 J hm=>Ab tbk [] 12 R R<|J 11 R R (Bj hm)) (fun _ K' h19 J hm=>Ab tbk [] 2 R R<|Bd hm fun x3 h20 hm=>Bt R R R R R (C4 T_api_Token.vv R R el170 h20)<|Bt R R R R R (Cv R fa174_0)<|Bt R R R R R (Bz (i:=2) (y:=T_api_Token.vv x3) R R R (gl_map _ (gl_some h20).2) ld3 R)<|Ab tbk [] 2 R R<|Da 4 60 56 R (fun h21 K' J=>Bt R R R R R (Ak R)<|Bt R R R R R (C6 (VV.int .i64) R Bi)<|Ab tbk [] 2 R R<|J 3 R R R) (fun K' J=>Ab tbk [] 4 R R<|J 3 R R R)<|Aa R R (A6 false R R R)<|J 8 R R (Bj hm)) fun c hm=>Ac<|Av hm R (fun h23 hm=>Af<|A3 0 mixed<|An tbk [0,1] [] (by kernel_rfl) R R R<|Bd hm fun x4 h24 hm=>Au 2 R R R (by kernel_rfl) (C4 T_api_Token.vv R R el170 h24)<|Au 3 R R R (by kernel_rfl) (Cv R fa174_2)<|Au 4 R R R (by kernel_rfl) (Bz (i:=2) (y:=T_api_Token.vv x4) R R R (gl_map _ (gl_some h24).2) ld3 R)<|An tbk [5,6,7] [] (by kernel_rfl) R R R<|Ay (by kernel_rfl)<|have hm:=Lr hm h10;Ba (Bc 100)<|Rg2 hm R [0] none 0 (.cons (.tmp _ _ R) (.cons (.tmp _ _ R) (.cons (.tmp _ _ R) .nil))) R R) fun h23 hm=>Aj<|Ca hm (fun out42 (_:Unit)=>[(5,Z174 (some b) r.1 cap),(8,Z100 ob4 out42 cap4),(9,Z3 ob5 open_2 cap5),(10,Iw i2)]) (fun out42 (_:Unit)=>[Q100 ob4 cap4 out42,Q3 ob5 cap5 open_2,Q174 (some b) cap r.1]) (fun o2 hm=>?_) fun out42 _ hm=> ?_
   ·refine Ae<|Aa R R (Ak R)<|Aa R R (C6 (VV.int .i64) R Bi)<|Aa R R (Bh R R R)<|Ac<|Av hm R (fun h28 hm=>?_) fun h28 hm=> ?_
    ·refine Bb<|Ab tbk [] 3 R R<|Aa R R (C6 (VV.int .i64) R Bi)<|Aa R R (Bh R R R)<|Bd hm fun x5 h29 hm=>Dz 1 R (gl_pos (VV.int .i64) h29) fun b2 h30=> ?_
     subst h30
     refine Aa R R (C4 (VV.int .i64) R R el27 h29)<|Aa R R (Bz (i:=1) (y:=(VV.int .i64) x5) R R R (gl_map _ (gl_some h29).2) ld3 R)<|Bd hm fun x6 h31 hm=>Dz 0 R (gl_pos T_api_Node.vv h31) fun b3 h32=> ?_
     subst h32
     exact Aa R R (C4 T_api_Node.vv R R el36 h31)<|Aa R R (Cv R fa100_2)<|Aa R R (Bz (i:=0) (y:=T_api_Node.vv x6) R R R (gl_map _ (gl_some h31).2) ld3 R)<|Aa R R (Bh R R R)<|Bd hm fun x7 h33 hm=>Aa R R (C4 T_api_Node.vv R R el36 h33)<|Aa R R (Cv R fa100_2)<|Ad R R<|VO.storeRT 0 (f:=T_api_Node.vv) (l:=out2) (q:=x7) (q':=(⟨x7.Kind,x7.Text,(IntKind.i64.wrap (x6.Kids + (1 : Int))),x7.At⟩ : T_api_Node)) R R R R h33 ld3 R R R R ⟨R,List.all_eq_true.1 R⟩<|A0 (D0 8 (List.map T_api_Node.vv (List.set out2 (x5).toNat (⟨x7.Kind,x7.Text,(IntKind.i64.wrap (x6.Kids + (1 : Int))),x7.At⟩ : T_api_Node))).length R (len_set _ _ _ _))<|A0 (D0 46 (List.map T_api_Node.vv (List.set out2 (x5).toNat (⟨x7.Kind,x7.Text,(IntKind.i64.wrap (x6.Kids + (1 : Int))),x7.At⟩ : T_api_Node))).length R (len_set _ _ _ _))<|A0 (D0 70 (List.map T_api_Node.vv (List.set out2 (x5).toNat (⟨x7.Kind,x7.Text,(IntKind.i64.wrap (x6.Kids + (1 : Int))),x7.At⟩ : T_api_Node))).length R (len_set _ _ _ _))<|Ac<|As () hm (Ah [0,1,2] R R)
    exact Aj<|As () hm (Ah [0,1,2] R R)
   exact Ae<|Ab tbk [] 2 R R<|Bd hm fun x8 h34 hm=>Aa R R (C4 T_api_Token.vv R R el170 h34)<|Aa R R (Cv R fa174_0)<|Aa R R (Bz (i:=2) (y:=T_api_Token.vv x8) R R R (gl_map _ (gl_some h34).2) ld3 R)<|Aa R R (Bh R R R)<|Ac<|Av hm R (fun h35 hm=>Ae<|Ab tbk [] 2 R R<|Aa R R (C6 T_api_Node.vv R C9)<|Ad R R<|Ax ap27 R R R R R fun b4=>Bd hm fun open_5 h37 hm=>Ad R R<|Bs 2 (VV.int .i64) (l:=open_2) (l2:=[(out42.length : Int)]) ap27 R R (sT_row 0 (VV.int .i64) el27 R R) h37 fun ob8 cap8=>Aa R R (Am R)<|Ac<|Bb<|Ab tbk [] 3 R R<|Bd hm fun x9 h38 hm=>Aa R R (C4 T_api_Token.vv R R el170 h38)<|Aa R R (Cv R fa174_2)<|Aa R R (Bz (i:=3) (y:=T_api_Token.vv x9) R R R (gl_map _ (gl_some h38).2) ld3 R)<|Aa R R (A5 pl100 R R)<|Ad R R<|Ax ap36 R R R R R fun b5=>Bd hm fun out5 h40 hm=>Ad R R<|Bs 2 T_api_Node.vv (l:=out42) (l2:=[(⟨(5 : Int),(⟨#[]⟩ : ByteArray),(0 : Int),x9.At⟩ : T_api_Node)]) ap36 R R (sT_row 0 T_api_Node.vv el36 R R) h40 fun ob9 cap9=>Aa R R (Am R)<|Ac<|Bf tbk [] R R<|Ap (out5,open_5,(IntKind.i64.wrap (i2 + (1 : Int)))) (ob9,cap9,ob8,cap8) hm (Ah [2,3,4] R R)) fun h35 hm=>A3 1 mixed<|An tbk [0,1,2] [] (by kernel_rfl) R R R<|Bd hm fun x10 h41 hm=>Au 3 R R R (by kernel_rfl) (C4 T_api_Token.vv R R el170 h41)<|Au 4 R R R (by kernel_rfl) (Cv R fa174_0)<|Au 5 R R R (by kernel_rfl) (Bz (i:=1) (y:=T_api_Token.vv x10) R R R (gl_map _ (gl_some h41).2) ld3 R)<|An tbk [6,7] [] (by kernel_rfl) R R R<|Bd hm fun x11 h42 hm=>Au 8 R R R (by kernel_rfl) (C4 T_api_Token.vv R R el170 h42)<|Au 9 R R R (by kernel_rfl) (Cv R fa174_1)<|Au 10 R R R (by kernel_rfl) (Bz (i:=1) (y:=T_api_Token.vv x11) R R R (gl_map _ (gl_some h42).2) ld9 R)<|An tbk [11,12] [] (by kernel_rfl) R R R<|Bd hm fun x12 h43 hm=>Au 13 R R R (by kernel_rfl) (C4 T_api_Token.vv R R el170 h43)<|Au 14 R R R (by kernel_rfl) (Cv R fa174_2)<|Au 15 R R R (by kernel_rfl) (Bz (i:=1) (y:=T_api_Token.vv x12) R R R (gl_map _ (gl_some h43).2) ld3 R)<|Au 16 R R R (by kernel_rfl) (A5 pl100 R R)<|Ai 17 (by kernel_rfl)<|Ao R R R<|Ax ap36 R R R R R fun b6=>Ai 18 (by kernel_rfl)<|Bd hm fun out6 h45 hm=>Ao R R R<|Bs 1 T_api_Node.vv (l:=out42) (l2:=[(⟨x10.Kind,x11.Text,(0 : Int),x12.At⟩ : T_api_Node)]) ap36 R R (sT_row 0 T_api_Node.vv el36 R R) h45 fun ob10 cap10=>Au 19 R R R (by kernel_rfl) (Am R)<|Ay (by kernel_rfl)<|Bf tbk [] R R<|Ap (out6,open_2,(IntKind.i64.wrap (i2 + (1 : Int)))) (ob10,cap10,ob5,cap5) hm (Ah [1,2,3] R R)
  exact Be<|Ar (ob4,cap4,ob5,cap5) hm (Ah [0,1] R R)
 refine Af<|Ae<|Aa R R (Ak R)<|Aa R R (C6 (VV.int .i64) R Bi)<|Aa R R (Bh R R R)<|Ac<|Av hm R (fun h48 hm=>?_) fun h48 hm=> ?_
 ·refine Af<|A3 0 mixed<|An tbk [0,1,2] [] (by kernel_rfl) R R R<|Au 3 R R R (by kernel_rfl) (C6 (VV.int .i64) R Bi)<|Au 4 R R R (by kernel_rfl) (Bh R R R)<|Bd hm fun x13 h49 hm=>VA.someRow 1 R (gl_pos (VV.int .i64) h49) fun b7 h50=> ?_
  subst h50
  refine Au 5 R R R (by kernel_rfl) (C4 (VV.int .i64) R R el27 h49)<|Au 6 R R R (by kernel_rfl) (Bz (i:=1) (y:=(VV.int .i64) x13) R R R (gl_map _ (gl_some h49).2) ld3 R)<|Bd hm fun x14 h51 hm=>VA.someRow 0 R (gl_pos T_api_Node.vv h51) fun b8 h52=> ?_
  subst h52
  exact Au 7 R R R (by kernel_rfl) (C4 T_api_Node.vv R R el36 h51)<|Au 8 R R R (by kernel_rfl) (Cv R fa100_3)<|Au 9 R R R (by kernel_rfl) (Bz (i:=0) (y:=T_api_Node.vv x14) R R R (gl_map _ (gl_some h51).2) ld3 R)<|An tbk [10,11,12] [] (by kernel_rfl) R R R<|Ay (by kernel_rfl)<|Ba (Bc 100)<|Rg2 hm R [0] none 0 (.cons (.tmp _ _ R) (.cons (.tmp _ _ R) (.cons (.tmp _ _ R) .nil))) R R
 exact Aj<|Ag tbk [] R R<|Rg2 hm R [0] ob6 cap6 (.cons (.tmp _ _ R) (.cons (.tmp _ _ R) (.cons (.tmp _ _ R) .nil))) R R

/-! trireme/triremelaw07.parsed -/
def law07_parsed (s : ByteArray) : Option (List T_api_Node) :=
 (ref02_Parse s).bind fun r =>
 some r.1
theorem K45 (s : ByteArray) : VS2 Tryz.prog 16 (law07_parsed s) [.str s] [] (fun r ob0 cap0=>Z100 ob0 r cap0) (fun r ob0 cap0=>[Q100 ob0 cap0 r]) := by
 refine Dm [.tmp 2] Tryz.func16 R R R fun r hm=>?_
 unfold law07_parsed at hm
 exact Ag tbk [] R R<|Ae<|Aa R R (Ak R)<|Ad R R<|Db hm 0 R fn78 R (K44 _) fun r ob cap hm=>Ab tbk [] 7 R R<|Ac<|Ag tbk [] R R<|Rg2 hm R [0] ob cap (.cons (.tmp _ _ R) .nil) R R

/-! trireme/spec.pair -/
def spec_pair : Option Unit :=
 some ()
theorem K46 (b : Nat) (o : Nat) : ∀ r : Unit, spec_pair = some r → VC Tryz.prog 129 [.ptr b o] [] fun zx zH => ∃ (b_0_0 : Nat), zx = .clo (.func 166) [] [.ptr b_0_0 0] ∧ zH = [.box b_0_0 169 [.ptr b o]] := by
 refine B2 [.tmp 2] Tryz.func129 R R R fun r hm=>?_
 unfold spec_pair at hm
 refine Ae<|Ad R R<|Ch R R fun b2=>Aa R R (Am R)<|Ac<|Ae<|Aa R R (Cq R R)<|Aa R R (Am R)<|Ac<|?_
 obtain rfl:=Option.some.inj hm
 exact Cm ⟨.inl R,_,.cons (.tmp _ _ R) .nil,[0],_,R,b2,R,R⟩

/-! trireme/spec.number -/
def spec_number : Option Unit :=
 some ()
theorem K47 (b : Nat) (o : Nat) : ∀ r : Unit, spec_number = some r → VC Tryz.prog 91 [.ptr b o] [] fun zx zH => ∃ (b_0_0 : Nat), zx = .clo (.func 141) [] [.ptr b_0_0 0] ∧ zH = [.box b_0_0 119 [.ptr b o]] := by
 refine B2 [.tmp 2] Tryz.func91 R R R fun r hm=>?_
 unfold spec_number at hm
 refine Ae<|Ad R R<|Ch R R fun b2=>Aa R R (Am R)<|Ac<|Ae<|Aa R R (Cq R R)<|Aa R R (Am R)<|Ac<|?_
 obtain rfl:=Option.some.inj hm
 exact Cm ⟨.inl R,_,.cons (.tmp _ _ R) .nil,[0],_,R,b2,R,R⟩

/-! trireme/spec.text -/
def spec_text : Option Unit :=
 some ()
theorem K48 (b : Nat) (o : Nat) : ∀ r : Unit, spec_text = some r → VC Tryz.prog 84 [.ptr b o] [] fun zx zH => ∃ (b_0_0 : Nat), zx = .clo (.func 137) [] [.ptr b_0_0 0] ∧ zH = [.box b_0_0 108 [.ptr b o]] := by
 refine B2 [.tmp 2] Tryz.func84 R R R fun r hm=>?_
 unfold spec_text at hm
 refine Ae<|Ad R R<|Ch R R fun b2=>Aa R R (Am R)<|Ac<|Ae<|Aa R R (Cq R R)<|Aa R R (Am R)<|Ac<|?_
 obtain rfl:=Option.some.inj hm
 exact Cm ⟨.inl R,_,.cons (.tmp _ _ R) .nil,[0],_,R,b2,R,R⟩

/-! trireme/spec.flag -/
def spec_flag : Option Unit :=
 some ()
theorem K49 (b : Nat) (o : Nat) : ∀ r : Unit, spec_flag = some r → VC Tryz.prog 85 [.ptr b o] [] fun zx zH => ∃ (b_0_0 : Nat), zx = .clo (.func 138) [] [.ptr b_0_0 0] ∧ zH = [.box b_0_0 112 [.ptr b o]] := by
 refine B2 [.tmp 2] Tryz.func85 R R R fun r hm=>?_
 unfold spec_flag at hm
 refine Ae<|Ad R R<|Ch R R fun b2=>Aa R R (Am R)<|Ac<|Ae<|Aa R R (Cq R R)<|Aa R R (Am R)<|Ac<|?_
 obtain rfl:=Option.some.inj hm
 exact Cm ⟨.inl R,_,.cons (.tmp _ _ R) .nil,[0],_,R,b2,R,R⟩

/-! trireme/spec.ofPod -/
def spec_ofPod : Option Unit :=
 (spec_pair).bind fun r =>
 (spec_pair).bind fun r2 =>
 (spec_pair).bind fun r3 =>
 (spec_pair).bind fun r4 =>
 (spec_number).bind fun r5 =>
 (spec_number).bind fun r6 =>
 (spec_text).bind fun r7 =>
 (spec_flag).bind fun r8 =>
 (spec_flag).bind fun r9 =>
 (spec_flag).bind fun r10 =>
 (spec_flag).bind fun r11 =>
 some ()
theorem K50 (b : Nat) (o : Nat) : ∀ r : Unit, spec_ofPod = some r → VC Tryz.prog 77 [.ptr b o] [] fun zx zH => ∃ (b_0_0 : Nat) (b_0_1 : Nat) (b_0_2 : Nat) (b_0_3 : Nat) (b_0_4 : Nat) (b_0_5 : Nat) (b_0_6 : Nat) (b_0_7 : Nat) (b_0_8 : Nat) (b_0_9 : Nat) (b_0_10 : Nat) (b_0_11 : Nat) (b_0_12 : Nat), zx = .sl (some b_0_0) 16 16 ∧ zH = [.row (some b_0_0) 110 16 (KR0 b_0_1 b_0_2 b_0_3 b_0_4 b_0_5 b_0_6 b_0_7 b_0_8 b_0_9 b_0_10 b_0_11 b_0_12), .box b_0_1 98 [.ptr b o], .box b_0_2 169 [.ptr b (o + 6)], .box b_0_3 169 [.ptr b (o + 7)], .box b_0_4 169 [.ptr b (o + 11)], .box b_0_5 169 [.ptr b (o + 13)], .box b_0_6 119 [.ptr b (o + 14)], .box b_0_7 119 [.ptr b (o + 15)], .box b_0_8 108 [.ptr b (o + 16)], .box b_0_9 112 [.ptr b (o + 12)], .box b_0_10 112 [.ptr b (o + 17)], .box b_0_11 112 [.ptr b (o + 18)], .box b_0_12 112 [.ptr b (o + 19)]] := by
 refine B2 [.tmp 2] Tryz.func77 R R R fun r hm=>?_
 unfold spec_ofPod at hm
 refine Ae<|Ad R R<|Ch R R fun b2=>Aa R R (Am R)<|Ac<|Af<|A3 0 mixed<|Au 0 R R R (by kernel_rfl) (Cq R R)<|Au 1 R R R (by kernel_rfl) (A5 pl110 R R)<|An tbk [2,3,4,7,8,9,12,13,14,17,18,19] [0,0,0,0] (by kernel_rfl) R R R<|Au 22 R R R (by kernel_rfl) (Cq R R)<|Au 23 R R R (by kernel_rfl) (A5 pl110 R R)<|Au 24 R R R (by kernel_rfl) (Cq R R)<|Au 25 R R R (by kernel_rfl) (A5 pl110 R R)<|Au 26 R R R (by kernel_rfl) (Cq R R)<|Au 27 R R R (by kernel_rfl) (A5 pl110 R R)<|Au 28 R R R (by kernel_rfl) (Cq R R)<|Au 29 R R R (by kernel_rfl) (A5 pl110 R R)<|An tbk [30,31,32,35,36,37,40,41,42,45,46,47,50,51,52,55,56,57,60,61,62] [0,0,0,0,0,0,0] (by kernel_rfl) R R R<|Ai 5 (by kernel_rfl)<|Bd hm fun r h2 hm=>Ao R R R<|Aw 0 R fn129 R (K46 b (o + 6) r h2) fun _ _ h48=> ?_
 obtain ⟨b3,rfl,rfl⟩:=h48
 refine Au 6 R R R (by kernel_rfl) (A5 pl110 R R)<|Ai 10 (by kernel_rfl)<|Bd hm fun r2 h4 hm=>Ao R R R<|Aw 0 R fn129 R (K46 b (o + 7) r2 h4) fun _ _ h47=> ?_
 obtain ⟨b4,rfl,rfl⟩:=h47
 refine Au 11 R R R (by kernel_rfl) (A5 pl110 R R)<|Ai 15 (by kernel_rfl)<|Bd hm fun r3 h6 hm=>Ao R R R<|Aw 0 R fn129 R (K46 b (o + 11) r3 h6) fun _ _ h46=> ?_
 obtain ⟨b5,rfl,rfl⟩:=h46
 refine Au 16 R R R (by kernel_rfl) (A5 pl110 R R)<|Ai 20 (by kernel_rfl)<|Bd hm fun r4 h8 hm=>Ao R R R<|Aw 0 R fn129 R (K46 b (o + 13) r4 h8) fun _ _ h45=> ?_
 obtain ⟨b6,rfl,rfl⟩:=h45
 refine Au 21 R R R (by kernel_rfl) (A5 pl110 R R)<|Ai 33 (by kernel_rfl)<|Bd hm fun r5 h10 hm=>Ao R R R<|Aw 0 R fn91 R (K47 b (o + 14) r5 h10) fun _ _ h44=> ?_
 obtain ⟨b7,rfl,rfl⟩:=h44
 refine Au 34 R R R (by kernel_rfl) (A5 pl110 R R)<|Ai 38 (by kernel_rfl)<|Bd hm fun r6 h12 hm=>Ao R R R<|Aw 0 R fn91 R (K47 b (o + 15) r6 h12) fun _ _ h43=> ?_
 obtain ⟨b8,rfl,rfl⟩:=h43
 refine Au 39 R R R (by kernel_rfl) (A5 pl110 R R)<|Ai 43 (by kernel_rfl)<|Bd hm fun r7 h14 hm=>Ao R R R<|Aw 0 R fn84 R (K48 b (o + 16) r7 h14) fun _ _ h42=> ?_
 obtain ⟨b9,rfl,rfl⟩:=h42
 refine Au 44 R R R (by kernel_rfl) (A5 pl110 R R)<|Ai 48 (by kernel_rfl)<|Bd hm fun r8 h16 hm=>Ao R R R<|Aw 0 R fn85 R (K49 b (o + 12) r8 h16) fun _ _ h41=> ?_
 obtain ⟨b10,rfl,rfl⟩:=h41
 refine Au 49 R R R (by kernel_rfl) (A5 pl110 R R)<|Ai 53 (by kernel_rfl)<|Bd hm fun r9 h18 hm=>Ao R R R<|Aw 0 R fn85 R (K49 b (o + 17) r9 h18) fun _ _ h40=> ?_
 obtain ⟨b11,rfl,rfl⟩:=h40
 refine Au 54 R R R (by kernel_rfl) (A5 pl110 R R)<|Ai 58 (by kernel_rfl)<|Bd hm fun r10 h20 hm=>Ao R R R<|Aw 0 R fn85 R (K49 b (o + 18) r10 h20) fun _ _ h39=> ?_
 obtain ⟨b12,rfl,rfl⟩:=h39
 refine Au 59 R R R (by kernel_rfl) (A5 pl110 R R)<|Ai 63 (by kernel_rfl)<|Bd hm fun r11 h22 hm=>Ao R R R<|Aw 0 R fn85 R (K49 b (o + 19) r11 h22) fun _ _ h38=> ?_
 obtain ⟨b13,rfl,rfl⟩:=h38
 refine Au 64 R R R (by kernel_rfl) (A5 pl110 R R)<|Ai 65 (by kernel_rfl)<|Ao R R R<|Ax ap96 R R R R R fun b14=>Au 66 R R R (by kernel_rfl) (Am R)<|Ay (by kernel_rfl)<|?_
 obtain rfl:=Option.some.inj hm
 exact Cm ⟨.inl R,_,.cons (.tmp _ _ R) .nil,[0,12,11,10,9,8,7,6,5,4,3,2,1],_,R,b14,b2,b3,b4,b5,b6,b7,b8,b9,b10,b11,b12,b13,R,R⟩

/-! trireme/tree.End -/
def tree_End.l1 (l : List T_api_Node) : Nat → Int → Int → Option (Out Int Unit)
 | 0, _, _ => none
 | n + 1, i3, want2 =>
  if (decide (i3 < (l.length : Int))) = true then
   (V.gl l i3).bind fun x =>
   if ((decide (x.Kids < 0)) || (decide (x.Kids > (l.length : Int)))) = true then
    some (Out.ret (-1))
   else
    if ((i64.wrap (want2 + (i64.wrap (x.Kids - 1)))) == 0) = true then
     some (Out.ret (i64.wrap (i3 + 1)))
    else
     tree_End.l1 l n (i64.wrap (i3 + 1)) (i64.wrap (want2 + (i64.wrap (x.Kids - 1))))
  else
   some (Out.go ())
def tree_End (l : List T_api_Node) (i : Int) : Option Int :=
 if (decide (i < 0)) = true then
  some (-1)
 else
  (tree_End.l1 l FU i (1 : Int)).bind fun o =>
  o.on fun j =>
  some (-1)
theorem K51 (l : List T_api_Node) (i : Int) : VS Tryz.prog 124 (tree_End l i) [L100 l, Iw i] [] Iw N0 := by
 refine A8 [.tmp 4] Tryz.func124 R R R fun r hm=>?_
 unfold tree_End at hm
 refine Ag tbk [] R R<|Af<|Ag tbk [] R R<|Av hm R (fun h1 hm=>Ag tbk [] R R<|Rt1 hm R [] R R R) fun h1 hm=>Aj<|Af<|Ag tbk [] R R<|Ce hm (fun _ (_:Unit)=>[]) (fun _ (_:Unit)=>[]) (fun o hm h3=>?_) fun j _ hm=> ?_
 ·refine Ck (fun zn (zs:Int × Int)=>tree_End.l1 l zn zs.1 zs.2) (fun zs (_:Unit)=>[(0,L100 l),(1,Iw zs.1),(5,Iw zs.2)]) (fun _ (_:Unit)=>[]) (i,(1 : Int)) () (fun _=>R) hm (Ah [] R R) fun n=>Pq fun i3 want2 _ hm=> ?_
  rw [tree_End.l1] at hm
  exact Af<|Ae<|Ab tbk [] 2 R R<|Aa R R (Bg T_api_Node.vv R C9)<|Aa R R (Bh R R R)<|Ac<|Av hm R (fun h4 hm=>Aj<|Af<|A4<|Ae<|Ab tbk [] 2 R R<|Bd hm fun x h5 hm=>Aa R R (A2 T_api_Node.vv R R el36 h5)<|Ab tbk [] 3 R R<|Ac<|Af<|Ae<|Ab tbk [] 3 R R<|C5 5 27 22 R (fun K' J=>Ab tbk [] 5 R R<|J 4 R R R) (fun h6 K' J=>Ab tbk [] 2 R R<|Bt R R R R R (Bg T_api_Node.vv R C9)<|Ab tbk [] 2 R R<|J 4 R R R)<|Ac<|Av hm R (fun h7 hm=>Ag tbk [] R R<|have hm:=Lr hm h3;Rt1 hm R [] R R R) fun h7 hm=>Aj<|Ag tbk [] R R<|Ag tbk [] R R<|Av hm R (fun h8 hm=>Ag tbk [] R R<|have hm:=Lr hm h3;Rt1 hm R [] R R R) fun h8 hm=>Aj<|Bf tbk [] R R<|Ap ((IntKind.i64.wrap (i3 + (1 : Int))),(IntKind.i64.wrap (want2 + (IntKind.i64.wrap (x.Kids - (1 : Int)))))) () hm (Ah [] R R)) fun h4 hm=>Be<|Ar () hm (Ah [] R R)
 exact Ag tbk [] R R<|Rt1 hm R [] R R R

/-! trireme/tree.places$1 -/
def tree_places_1 (i : Int) (a : List Int) : Option (List Int) :=
 (V.ap 8 a [i]).bind fun l =>
 some l
theorem K52 (i : Int) (a : List Int) (b : Nat) (ob : Option Nat) (cap : Nat) : VS2 Tryz.prog 174 (tree_places_1 i a) [Iw i, .ptr b 0] [.box b 27 [Z3 ob a cap], Q3 ob cap a] (fun r ob0_0 cap0_0=>.tup []) (fun r ob0_0 cap0_0=>[.box b 27 [Z3 ob0_0 r cap0_0], Q3 ob0_0 cap0_0 r]) := by
 refine Dm [] Tryz.func174 R R R fun r hm=>?_
 unfold tree_places_1 at hm
 refine Bb<|Ab tbk [0] 2 R R<|Ad R R<|Ax ap27 R R R R R fun b2=>Bd hm fun l h2 hm=>Ad R R<|Bs 2 (VV.int .i64) (l:=a) (l2:=[i]) ap27 R R (sT_row 0 (VV.int .i64) el27 R R) h2 fun ob2 cap2=>Ad R R<|Al (i:=1) R R R ld27 R R R<|Ac<|?_
 obtain rfl:=Option.some.inj hm
 exact ⟨.inr R,_,.nil,[1,2],_,R,ob2,cap2,R,R⟩

/-! trireme/tree.walk -/
def tree_walk_tree_places_1.l1 (l : List T_api_Node) (to : Int) : Nat → Int → (List Int) → Option (Out (Bool × List Int) (List Int))
 | 0, _, _ => none
 | n + 1, from_3, do_2 =>
  if (decide (from_3 < to)) = true then
   (tree_End l from_3).bind fun r =>
   if (decide (r < 0)) = true then
    some (Out.ret (false, do_2))
   else
    (tree_places_1 from_3 do_2).bind fun r2 =>
    tree_walk_tree_places_1.l1 l to n r r2
  else
   some (Out.go do_2)
def tree_walk_tree_places_1 (l : List T_api_Node) (from_ : Int) (to : Int) (c : List Int) : Option (Bool × List Int) :=
 (tree_walk_tree_places_1.l1 l to FU from_ c).bind fun o =>
 o.on fun l22 =>
 some (true, l22)
theorem K53 (l : List T_api_Node) (from_ : Int) (to : Int) (c : List Int) (b : Nat) (ob : Option Nat) (cap : Nat) : VS2 Tryz.prog 173 (tree_walk_tree_places_1 l from_ to c) [L100 l, Iw from_, Iw to, .clo (.func 174) [] [.ptr b 0]] [.box b 27 [Z3 ob c cap], Q3 ob cap c] (fun r ob0_0 cap0_0=>.bool r.1) (fun r ob0_0 cap0_0=>[.box b 27 [Z3 ob0_0 r.2 cap0_0], Q3 ob0_0 cap0_0 r.2]) := by
 refine Dm [.tmp 8] Tryz.func173 R R R fun r hm=>?_
 unfold tree_walk_tree_places_1 at hm
 refine Ag tbk [] R R<|VW.jo hm (fun _ (gg:Option Nat × Nat)=>[]) (fun l22 (gg:Option Nat × Nat)=>[.box b 27 [Z3 gg.1 l22 gg.2],Q3 gg.1 gg.2 l22]) (fun o hm h2=>?_) fun l22=>Pq fun ob4 cap4 hm=> ?_
 ·refine Ck (fun zn (zs:Int × List Int)=>tree_walk_tree_places_1.l1 l to zn zs.1 zs.2) (fun zs (_:Option Nat × Nat)=>[(0,L100 l),(1,Iw zs.1),(2,Iw to),(3,.clo (.func 174) [] [.ptr b 0])]) (fun zs (zg:Option Nat × Nat)=>[.box b 27 [Z3 zg.1 zs.2 zg.2],Q3 zg.1 zg.2 zs.2]) (from_,c) (ob,cap) (fun _=>R) hm (Ah [0,1] R R) fun n=>Pq fun from_3 do_2=>Pq fun ob3 cap3 hm=> ?_
  rw [tree_walk_tree_places_1.l1] at hm
  exact Af<|Ag tbk [] R R<|Av hm R (fun h3 hm=>Aj<|A4<|Ae<|Ab tbk [] 2 R R<|Ad R R<|A1 hm 0 R fn124 R (K51 _ _) fun r hm=>Aa R R (Am R)<|Ac<|Af<|Ag tbk [] R R<|Av hm R (fun h5 hm=>Ag tbk [] R R<|have hm:=Lr hm h2;Rg2 hm R [0,1] ob3 cap3 (.cons (.tmp _ _ R) .nil) R R) fun h5 hm=>Aj<|Ae<|Ab tbk [] 2 R R<|Ad R R<|Db hm 2 R fn174 R (K52 _ _ _ _ _) fun r2 ob5 cap5 hm=>Ac<|Bf tbk [] R R<|Ap (r,r2) (ob5,cap5) hm (Ah [0,1] R R)) fun h3 hm=>Be<|Ar (ob3,cap3) hm (Ah [0,1] R R)
 exact Ag tbk [] R R<|Rg2 hm R [0,1] ob4 cap4 (.cons (.tmp _ _ R) .nil) R R

/-! trireme/tree.places -/
def tree_places (l : List T_api_Node) (from_ : Int) (to : Int) : Option (List Int) :=
 (tree_walk_tree_places_1 l from_ to ([] : List Int)).bind fun r =>
 if (!r.1) = true then
  some ([] : List Int)
 else
  some r.2
theorem K54 (l : List T_api_Node) (from_ : Int) (to : Int) : VS2 Tryz.prog 148 (tree_places l from_ to) [L100 l, Iw from_, Iw to] [] (fun r ob0 cap0=>Z3 ob0 r cap0) (fun r ob0 cap0=>[Q3 ob0 cap0 r]) := by
 refine Dm [.tmp 6] Tryz.func148 R R R fun r hm=>?_
 unfold tree_places at hm
 exact Ag tbk [] R R<|Ae<|Ad R R<|A9 z27 fun b=>Ac<|Af<|Ae<|Ab tbk [] 3 R R<|Aa R R (Cq R R)<|A0 (Bc 3)<|A0 (A7 [1,0] R)<|Ad R R<|Db hm 2 R fn173 R (K53 _ _ _ _ _ _ _) fun r ob cap hm=>Aa R R (Cw R)<|Ac<|Av hm R (fun h4 hm=>Ag tbk [] R R<|Ba (Bc 3)<|Rg2 hm R [0] none 0 (.cons (.tmp _ _ R) .nil) R R) fun h4 hm=>Aj<|Ag tbk [0] R R<|Rg2 hm R [1] ob cap (.cons (.tmp _ _ R) .nil) R R

/-! trireme/tree.Kids -/
def tree_Kids (l : List T_api_Node) (i : Int) : Option (List Int) :=
 (tree_End l i).bind fun r =>
 if (decide (r < 0)) = true then
  some ([] : List Int)
 else
  (tree_places l (i64.wrap (i + 1)) r).bind fun r2 =>
  some r2
theorem K55 (l : List T_api_Node) (i : Int) : VS Tryz.prog 125 (tree_Kids l i) [L100 l, Iw i] [] (fun r=>L3 r) N0 := by
 refine A8 [.tmp 4] Tryz.func125 R R R fun r hm=>?_
 unfold tree_Kids at hm
 exact Ag tbk [] R R<|Ae<|Ab tbk [] 2 R R<|Ad R R<|A1 hm 0 R fn124 R (K51 _ _) fun r hm=>Aa R R (Am R)<|Ac<|Af<|Ag tbk [] R R<|Av hm R (fun h2 hm=>Ag tbk [] R R<|Ba (Cz 4 3 R)<|Rt1 hm R [] R R R) fun h2 hm=>Aj<|Ae<|Ab tbk [] 4 R R<|Ad R R<|Db hm 0 R fn148 R (K54 _ _ _) fun r2 ob cap hm=>A0 (Az 0 [(15,L3 r2)] R ⟨⟨_,R,.here _ R⟩,trivial⟩ (FzH.refl _))<|Aa R R (Am R)<|Ac<|Rt1 hm R [] R R R

/-! (*trireme/spec.reader).head -/
def spec_reader_head (r_ : T_spec_reader) (x : T_api_Pod) (i : Int) : Option (ByteArray × List Int) :=
 (V.gl r_.l i).bind fun x2 =>
 if (x2.Kind == 3) = true then
  (V.gl r_.l i).bind fun x3 =>
  some (x3.Text, ([] : List Int))
 else
  (tree_Kids r_.l i).bind fun r =>
  (V.gl r_.l i).bind fun x4 =>
  (if ((x4.Kind != 5) || ((r.length : Int) == 0)) = true then some true else (V.gl r (0 : Int)).bind fun x5 =>
  (V.gl r_.l x5).bind fun x6 =>
  some (x6.Kind != 3)).bind fun c =>
  if c = true then
   some ((⟨#[]⟩ : ByteArray), ([] : List Int))
  else
   (V.gl r (0 : Int)).bind fun x7 =>
   (V.gl r_.l x7).bind fun x8 =>
   (V.sl r (some 1) none).bind fun v =>
   some (x8.Text, v)
theorem K56 (r_ : T_spec_reader) (x : T_api_Pod) (i : Int) (b : Nat) (b2 : Nat) (b3 : Nat) (cap : Nat) (b4 : Nat) (b5 : Nat) (ob : Option Nat) (cap2 : Nat) (ob2 : Option Nat) (cap3 : Nat) (ob3 : Option Nat) (cap4 : Nat) (ob4 : Option Nat) (cap5 : Nat) (ob5 : Option Nat) (cap6 : Nat) (ob6 : Option Nat) (cap7 : Nat) (ob7 : Option Nat) (cap8 : Nat) (b6 : Nat) (b7 : Nat) (b8 : Nat) (b9 : Nat) (b10 : Nat) (b11 : Nat) (b12 : Nat) (b13 : Nat) (b14 : Nat) (b15 : Nat) (b16 : Nat) : VS Tryz.prog 163 (spec_reader_head r_ x i) [.ptr b 0, Iw i] [.box b 165 [L100 r_.l, .sl (some b3) 16 cap, .map b2, Iw r_.e, Iw r_.at_], .map b2 (List.map (pf VV.str (VV.int .i64)) r_.had), .row (some b3) 110 cap (KR0 b4 b6 b7 b8 b9 b10 b11 b12 b13 b14 b15 b16), .box b4 98 [.ptr b5 0], .box b5 29 [.str x.Name, Iw x.Need.Cpu, Iw x.Need.Mem, Iw x.Need.Disk, Iw x.Need.Pods, Iw x.Need.Dev, Z141 ob x.Labels cap2, Z141 ob2 x.Select cap3, Z73 ob3 x.Terms cap4, Z83 ob4 x.Bears cap5, Z3 ob5 x.Ports cap6, Z141 ob6 x.Apart cap7, .bool x.Wide, Z141 ob7 x.Spread cap8, Iw x.Skew, Iw x.Rank, .str x.Owner, .bool x.Daemon, .bool x.Pinned, .bool x.Local], Q141 ob cap2 x.Labels, Q141 ob2 cap3 x.Select, Q73 ob3 cap4 x.Terms, Q83 ob4 cap5 x.Bears, Q3 ob5 cap6 x.Ports, Q141 ob6 cap7 x.Apart, Q141 ob7 cap8 x.Spread, .box b6 169 [.ptr b5 6], .box b7 169 [.ptr b5 7], .box b8 169 [.ptr b5 11], .box b9 169 [.ptr b5 13], .box b10 119 [.ptr b5 14], .box b11 119 [.ptr b5 15], .box b12 108 [.ptr b5 16], .box b13 112 [.ptr b5 12], .box b14 112 [.ptr b5 17], .box b15 112 [.ptr b5 18], .box b16 112 [.ptr b5 19]] (fun r=>.tup [.str r.1, L3 r.2]) (fun r=>[.box b 165 [L100 r_.l, .sl (some b3) 16 cap, .map b2, Iw r_.e, Iw r_.at_], .map b2 (List.map (pf VV.str (VV.int .i64)) r_.had), .row (some b3) 110 cap (KR0 b4 b6 b7 b8 b9 b10 b11 b12 b13 b14 b15 b16), .box b4 98 [.ptr b5 0], .box b5 29 [.str x.Name, Iw x.Need.Cpu, Iw x.Need.Mem, Iw x.Need.Disk, Iw x.Need.Pods, Iw x.Need.Dev, Z141 ob x.Labels cap2, Z141 ob2 x.Select cap3, Z73 ob3 x.Terms cap4, Z83 ob4 x.Bears cap5, Z3 ob5 x.Ports cap6, Z141 ob6 x.Apart cap7, .bool x.Wide, Z141 ob7 x.Spread cap8, Iw x.Skew, Iw x.Rank, .str x.Owner, .bool x.Daemon, .bool x.Pinned, .bool x.Local], Q141 ob cap2 x.Labels, Q141 ob2 cap3 x.Select, Q73 ob3 cap4 x.Terms, Q83 ob4 cap5 x.Bears, Q3 ob5 cap6 x.Ports, Q141 ob6 cap7 x.Apart, Q141 ob7 cap8 x.Spread, .box b6 169 [.ptr b5 6], .box b7 169 [.ptr b5 7], .box b8 169 [.ptr b5 11], .box b9 169 [.ptr b5 13], .box b10 119 [.ptr b5 14], .box b11 119 [.ptr b5 15], .box b12 108 [.ptr b5 16], .box b13 112 [.ptr b5 12], .box b14 112 [.ptr b5 17], .box b15 112 [.ptr b5 18], .box b16 112 [.ptr b5 19]]) := by
 refine A8 [.tmp 4,.tmp 5] Ds R R R fun r hm=>?_
 unfold spec_reader_head at hm
 exact Ag tbk [] R R<|Af<|Ae<|Ab tbk [0] 5 R R<|Bd hm fun x2 h1 hm=>Aa R R (A2 T_api_Node.vv R R el36 h1)<|Ab tbk [] 3 R R<|Ac<|Av hm R (fun h2 hm=>Ae<|Ab tbk [0] 5 R R<|Bd hm fun x3 h3 hm=>Aa R R (A2 T_api_Node.vv R R el36 h3)<|Ab tbk [] 4 R R<|Ac<|Ba (Cz 5 3 R)<|Rt2 hm R [0,1,2,3,4,5,6,7,8,9,10,11,12,13,14,15,16,17,18,19,20,21,22] R R R R) fun h2 hm=>Aj<|Ae<|Ab tbk [0] 5 R R<|Ad R R<|A1 hm 0 R fn125 R (K55 _ _) fun r hm=>Aa R R (Am R)<|Ac<|Af<|Af<|A3 0 mixed<|An tbk [0,1,2,3,4] [0] (by kernel_rfl) R R R<|Bd hm fun x4 h5 hm=>Au 5 R R R (by kernel_rfl) (A2 T_api_Node.vv R R el36 h5)<|An tbk [6,7,8,9] [] (by kernel_rfl) R R R<|VA.so [13,12,11,10,9,8,7,6,5,4,3,2,1,0] 43 39 R (fun K' J=>An tbk [10,11,12,13] [] (by kernel_rfl) R R R<|J 3 R R R) (fun h6 K' J=>Bv 10 R R R R R R (by kernel_rfl) (Ak R)<|Bv 11 R R R R R R (by kernel_rfl) (Bg (VV.int .i64) R Bi)<|An tbk [12,13] [] (by kernel_rfl) R R R<|J 3 R R R)<|Au 14 R R R (by kernel_rfl) (Ak R)<|Cj hm [26,25,24,23,22,21,20,19,18,17,16,15,14,13,12,11,10,9,8,7,6,5,4,3,2,1,0] 56 44 R (fun _ K' h7 J hm=>An tbk [15,16,17,18,19,20,21,22,23,24,25,26] [] (by kernel_rfl) R R R<|J 11 R R (Bj hm)) (fun _ K' h7 J hm=>An tbk [15,16,17,18,19] [0] (by kernel_rfl) R R R<|Bd hm fun x5 h8 hm=>Bv 20 R R R R R R (by kernel_rfl) (A2 (VV.int .i64) R R el27 h8)<|Bv 21 R R R R R R (by kernel_rfl) (Bn R ld3 R)<|Bd hm fun x6 h9 hm=>Bv 22 R R R R R R (by kernel_rfl) (A2 T_api_Node.vv R R el36 h9)<|An tbk [23,24,25,26] [] (by kernel_rfl) R R R<|J 11 R R (Bj hm)) fun c hm=>Ay (by kernel_rfl)<|Av hm R (fun h11 hm=>Ag tbk [] R R<|Ba (Cz 5 3 R)<|Rt2 hm R [0,1,2,3,4,5,6,7,8,9,10,11,12,13,14,15,16,17,18,19,20,21,22] R R R R) fun h11 hm=>Aj<|Af<|A3 0 mixed<|An tbk [0,1,2,3,4] [0] (by kernel_rfl) R R R<|Bd hm fun x7 h12 hm=>Au 5 R R R (by kernel_rfl) (A2 (VV.int .i64) R R el27 h12)<|Au 6 R R R (by kernel_rfl) (Bn R ld3 R)<|Bd hm fun x8 h13 hm=>Au 7 R R R (by kernel_rfl) (A2 T_api_Node.vv R R el36 h13)<|An tbk [8,9,10] [] (by kernel_rfl) R R R<|Bd hm fun v h14 hm=>Au 11 R R R (by kernel_rfl) (Dj R R R el27 h14)<|An tbk [12,13] [] (by kernel_rfl) R R R<|Ay (by kernel_rfl)<|Rt2 hm R [0,1,2,3,4,5,6,7,8,9,10,11,12,13,14,15,16,17,18,19,20,21,22] R R R R

/-! (*trireme/spec.reader).fail -/
def spec_reader_fail (r_ : T_spec_reader) (x : T_api_Pod) (e : Int) (at_ : Int) : Option T_spec_reader :=
 some (⟨r_.l, (), r_.had, e, at_⟩ : T_spec_reader)
theorem K57 (r_ : T_spec_reader) (x : T_api_Pod) (e : Int) (at_ : Int) (b : Nat) (b2 : Nat) (b3 : Nat) (cap : Nat) (b4 : Nat) (b5 : Nat) (ob : Option Nat) (cap2 : Nat) (ob2 : Option Nat) (cap3 : Nat) (ob3 : Option Nat) (cap4 : Nat) (ob4 : Option Nat) (cap5 : Nat) (ob5 : Option Nat) (cap6 : Nat) (ob6 : Option Nat) (cap7 : Nat) (ob7 : Option Nat) (cap8 : Nat) (b6 : Nat) (b7 : Nat) (b8 : Nat) (b9 : Nat) (b10 : Nat) (b11 : Nat) (b12 : Nat) (b13 : Nat) (b14 : Nat) (b15 : Nat) (b16 : Nat) : VS1 Tryz.prog 164 (spec_reader_fail r_ x e at_) [.ptr b 0, Iw e, Iw at_] [.box b 165 [L100 r_.l, .sl (some b3) 16 cap, .map b2, Iw r_.e, Iw r_.at_], .map b2 (List.map (pf VV.str (VV.int .i64)) r_.had), .row (some b3) 110 cap (KR0 b4 b6 b7 b8 b9 b10 b11 b12 b13 b14 b15 b16), .box b4 98 [.ptr b5 0], .box b5 29 [.str x.Name, Iw x.Need.Cpu, Iw x.Need.Mem, Iw x.Need.Disk, Iw x.Need.Pods, Iw x.Need.Dev, Z141 ob x.Labels cap2, Z141 ob2 x.Select cap3, Z73 ob3 x.Terms cap4, Z83 ob4 x.Bears cap5, Z3 ob5 x.Ports cap6, Z141 ob6 x.Apart cap7, .bool x.Wide, Z141 ob7 x.Spread cap8, Iw x.Skew, Iw x.Rank, .str x.Owner, .bool x.Daemon, .bool x.Pinned, .bool x.Local], Q141 ob cap2 x.Labels, Q141 ob2 cap3 x.Select, Q73 ob3 cap4 x.Terms, Q83 ob4 cap5 x.Bears, Q3 ob5 cap6 x.Ports, Q141 ob6 cap7 x.Apart, Q141 ob7 cap8 x.Spread, .box b6 169 [.ptr b5 6], .box b7 169 [.ptr b5 7], .box b8 169 [.ptr b5 11], .box b9 169 [.ptr b5 13], .box b10 119 [.ptr b5 14], .box b11 119 [.ptr b5 15], .box b12 108 [.ptr b5 16], .box b13 112 [.ptr b5 12], .box b14 112 [.ptr b5 17], .box b15 112 [.ptr b5 18], .box b16 112 [.ptr b5 19]] (fun r b0_2=>.tup []) (fun r b0_2=>[.box b 165 [L100 r.l, .sl (some b3) 16 cap, .map b0_2, Iw r.e, Iw r.at_], .map b0_2 (List.map (pf VV.str (VV.int .i64)) r.had), .row (some b3) 110 cap (KR0 b4 b6 b7 b8 b9 b10 b11 b12 b13 b14 b15 b16), .box b4 98 [.ptr b5 0], .box b5 29 [.str x.Name, Iw x.Need.Cpu, Iw x.Need.Mem, Iw x.Need.Disk, Iw x.Need.Pods, Iw x.Need.Dev, Z141 ob x.Labels cap2, Z141 ob2 x.Select cap3, Z73 ob3 x.Terms cap4, Z83 ob4 x.Bears cap5, Z3 ob5 x.Ports cap6, Z141 ob6 x.Apart cap7, .bool x.Wide, Z141 ob7 x.Spread cap8, Iw x.Skew, Iw x.Rank, .str x.Owner, .bool x.Daemon, .bool x.Pinned, .bool x.Local], Q141 ob cap2 x.Labels, Q141 ob2 cap3 x.Select, Q73 ob3 cap4 x.Terms, Q83 ob4 cap5 x.Bears, Q3 ob5 cap6 x.Ports, Q141 ob6 cap7 x.Apart, Q141 ob7 cap8 x.Spread, .box b6 169 [.ptr b5 6], .box b7 169 [.ptr b5 7], .box b8 169 [.ptr b5 11], .box b9 169 [.ptr b5 13], .box b10 119 [.ptr b5 14], .box b11 119 [.ptr b5 15], .box b12 108 [.ptr b5 16], .box b13 112 [.ptr b5 12], .box b14 112 [.ptr b5 17], .box b15 112 [.ptr b5 18], .box b16 112 [.ptr b5 19]]) := by
 refine VS1.run [] Dt R R R fun r hm=>?_
 unfold spec_reader_fail at hm
 refine Bb<|Ab tbk [] 6 R R<|Ad R R<|Al (i:=0) R R R ld33 R R R<|Ab tbk [] 2 R R<|Ad R R<|Al (i:=0) R R R ld3 R R R<|Ac<|?_
 obtain rfl:=Option.some.inj hm
 exact ⟨.inr R,_,.nil,[0,1,2,3,4,5,6,7,8,9,10,11,12,13,14,15,16,17,18,19,20,21,22],_,R,b2,R,R⟩

/-! trireme/quant.head -/
def quant_head.l1 (s : ByteArray) : Nat → Int → Option Int
 | 0, _ => none
 | n4 + 1, n2 =>
  (if (decide (n2 < (s.size : Int))) = true then (V.gi s n2).bind fun v =>
  some (decide (v ≥ 48)) else some false).bind fun c =>
  (if c = true then (V.gi s n2).bind fun v2 =>
  some (decide (v2 ≤ 57)) else some false).bind fun c2 =>
  if c2 = true then
   quant_head.l1 s n4 (i64.wrap (n2 + 1))
  else
   some n2
def quant_head (s : ByteArray) : Option Int :=
 (quant_head.l1 s FU (0 : Int)).bind fun n32 =>
 some n32
theorem K58 (s : ByteArray) : VS Tryz.prog 177 (quant_head s) [.str s] [] Iw N0 := by
 refine A8 [.tmp 2] Tryz.func177 R R R fun r hm=>?_
 unfold quant_head at hm
 refine Ag tbk [] R R<|Ag tbk [] R R<|Ca hm (fun n32 (_:Unit)=>[(3,Iw n32)]) (fun _ (_:Unit)=>[]) (fun o hm=>?_) fun n32 _ hm=> ?_
 ·refine Ck (fun zn (zs:Int)=>quant_head.l1 s zn zs) (fun zs (_:Unit)=>[(0,.str s),(3,Iw zs)]) (fun _ (_:Unit)=>[]) _ () (fun _=>R) hm (Ah [] R R) fun n4 n2 _ hm=> ?_
  rw [quant_head.l1] at hm
  exact Af<|Ae<|Ab tbk [] 2 R R<|Aa R R (B1 R Aq)<|Ab tbk [] 2 R R<|Br hm 5 13 8 R (fun _ K' h3 J hm=>Ab tbk [] 2 R R<|Bd hm fun v h4 hm=>Bt R R R R R (Ci R R Aq h4)<|Ab tbk [] 2 R R<|J 4 R R (Bj hm)) (fun _ K' h3 J hm=>Ab tbk [] 5 R R<|J 4 R R (Bj hm)) fun c hm=>Aa R R (Ak R)<|Br hm 5 19 14 R (fun _ K' h6 J hm=>Ab tbk [] 2 R R<|Bd hm fun v2 h7 hm=>Bt R R R R R (Ci R R Aq h7)<|Ab tbk [] 2 R R<|J 4 R R (Bj hm)) (fun _ K' h6 J hm=>Ab tbk [] 5 R R<|J 4 R R (Bj hm)) fun c2 hm=>Ac<|Av hm R (fun h9 hm=>Aj<|A4<|Bf tbk [] R R<|Ap _ () hm (Ah [] R R)) fun h9 hm=>Be<|As () hm (Ah [] R R)
 exact Ag tbk [] R R<|Rt1 hm R [] R R R

/-! trireme/quant.value -/
def quant_value.l1 (s : ByteArray) (most : Int) : Nat → Int → Int → Option (Out (Int × Bool) Int)
 | 0, _, _ => none
 | n4 + 1, n2, v2 =>
  if (decide (v2 < (s.size : Int))) = true then
   (V.gi s v2).bind fun v3 =>
   (V.quo (i64.wrap (most - (i64.wrap (IntKind.u8.wrap (v3 - 48))))) (10 : Int)).bind fun v4 =>
   if (decide (n2 > (i64.wrap v4))) = true then
    some (Out.ret (0, false))
   else
    quant_value.l1 s most n4 (i64.wrap ((i64.wrap (10 * n2)) + (i64.wrap (IntKind.u8.wrap (v3 - 48))))) (i64.wrap (v2 + 1))
  else
   some (Out.go n2)
def quant_value (s : ByteArray) (most : Int) : Option (Int × Bool) :=
 (quant_value.l1 s most FU 0 (0 : Int)).bind fun o =>
 o.on fun n32 =>
 some (n32, true)
theorem K59 (s : ByteArray) (most : Int) : VS Tryz.prog 178 (quant_value s most) [.str s, Iw most] [] (fun r=>.tup [Iw r.1, .bool r.2]) N0 := by
 refine A8 [.tmp 4,.tmp 5] Tryz.func178 R R R fun r hm=>?_
 unfold quant_value at hm
 refine Ag tbk [] R R<|Ag tbk [] R R<|Af<|Ae<|Aa R R (Ak R)<|Aa R R (B1 R Aq)<|Aa R R (Ak R)<|Ac<|Ce hm (fun n32 (_:Unit)=>[(6,Iw n32)]) (fun _ (_:Unit)=>[]) (fun o hm h2=>?_) fun n32 _ hm=> ?_
 ·refine Ck (fun zn (zs:Int × Int)=>quant_value.l1 s most zn zs.1 zs.2) (fun zs (_:Unit)=>[(0,.str s),(1,Iw most),(6,Iw zs.1),(10,Iw (s.size : Int)),(11,Iw zs.2)]) (fun _ (_:Unit)=>[]) ((0 : Int),(0 : Int)) () (fun _=>R) hm (Ah [] R R) fun n4=>Pq fun n2 v2 _ hm=> ?_
  rw [quant_value.l1] at hm
  exact Ag tbk [] R R<|Af<|Av hm R (fun h3 hm=>Aj<|Af<|A4<|Ag tbk [] R R<|Ae<|Ab tbk [] 2 R R<|Bd hm fun v3 h4 hm=>Aa R R (Ci R R Aq h4)<|Aa R R (Bh R R R)<|Aa R R (B9 Bo Bu R)<|Aa R R (Am R)<|Ac<|Af<|Ae<|Ab tbk [] 4 R R<|Bd hm fun v4 h5 hm=>Aa R R (Cy R R h5)<|Aa R R (Bh R R R)<|Ac<|Av hm R (fun h6 hm=>Ag tbk [] R R<|have hm:=Lr hm h2;Rt2 hm R [] R R R R) fun h6 hm=>Aj<|Bf tbk [] R R<|Bf tbk [] R R<|Ap ((IntKind.i64.wrap ((IntKind.i64.wrap ((10 : Int) * n2)) + (IntKind.i64.wrap (IntKind.u8.wrap (v3 - (48 : Int)))))),(IntKind.i64.wrap (v2 + (1 : Int)))) () hm (Ah [] R R)) fun h3 hm=>Be<|Ar () hm (Ah [] R R)
 exact Ag tbk [] R R<|Rt2 hm R [] R R R R

/-! trireme/quant.cut -/
def quant_cut (s : ByteArray) : Option (ByteArray × Int × ByteArray × Int) :=
 (quant_head s).bind fun r =>
 if (r == 0) = true then
  some ((⟨#[]⟩ : ByteArray), 0, (⟨#[]⟩ : ByteArray), 8)
 else
  (V.ss s none (some r)).bind fun v =>
  (V.ss s (some r) none).bind fun v2 =>
  (if (V.seq v2 (⟨#[]⟩ : ByteArray)) = true then some true else (V.gi v2 (0 : Int)).bind fun v3 =>
  some (v3 != 46)).bind fun c =>
  if c = true then
   some (v, 0, v2, 0)
  else
   (V.ss v2 (some 1) none).bind fun v4 =>
   (quant_head v4).bind fun r2 =>
   if ((decide (r2 < 1)) || (decide (r2 > 3))) = true then
    some ((⟨#[]⟩ : ByteArray), 0, (⟨#[]⟩ : ByteArray), 8)
   else
    (V.ss v2 (some 1) (some (i64.wrap (1 + r2)))).bind fun v5 =>
    (V.cat v5 (⟨#[48, 48]⟩ : ByteArray)).bind fun v6 =>
    (V.ss v6 none (some 3)).bind fun v7 =>
    (quant_value v7 (1000 : Int)).bind fun r3 =>
    (V.ss v2 (some (i64.wrap (1 + r2))) none).bind fun v8 =>
    some (v, r3.1, v8, 0)
theorem K60 (s : ByteArray) : VS Tryz.prog 199 (quant_cut s) [.str s] [] (fun r=>.tup [.str r.1, Iw r.2.1, .str r.2.2.1, Iw r.2.2.2]) N0 := by
 refine A8 [.tmp 2,.tmp 3,.tmp 4,.tmp 5] Tryz.func199 R R R fun r hm=>?_
 unfold quant_cut at hm
 exact Ag tbk [] R R<|Ae<|Aa R R (Ak R)<|Ad R R<|A1 hm 0 R fn177 R (K58 _) fun r hm=>Aa R R (Am R)<|Ac<|Af<|Ag tbk [] R R<|Av hm R (fun h2 hm=>Ag tbk [] R R<|Rt0 hm R [] (.cons (.tmp _ _ R) (.cons (.tmp _ _ R) (.cons (.tmp _ _ R) (.cons (.tmp _ _ R) .nil)))) R R) fun h2 hm=>Aj<|Af<|A3 0 mixed<|An tbk [0,1] [] (by kernel_rfl) R R R<|Bd hm fun v h3 hm=>Au 2 R R R (by kernel_rfl) (C1 R R R Aq h3)<|An tbk [3,4] [] (by kernel_rfl) R R R<|Bd hm fun v2 h4 hm=>Au 5 R R R (by kernel_rfl) (C1 R R R Aq h4)<|An tbk [6,7] [] (by kernel_rfl) R R R<|Ay (by kernel_rfl)<|Af<|Ae<|Ab tbk [] 3 R R<|Br hm 4 28 24 R (fun _ K' h5 J hm=>Ab tbk [] 4 R R<|J 3 R R (Bj hm)) (fun _ K' h5 J hm=>Bt R R R R R (Ak R)<|Bd hm fun v3 h6 hm=>Bt R R R R R (Ci R R Aq h6)<|Ab tbk [] 2 R R<|J 3 R R (Bj hm)) fun c hm=>Ac<|Av hm R (fun h8 hm=>Ag tbk [] R R<|Rt0 hm R [] (.cons (.tmp _ _ R) (.cons (.tmp _ _ R) (.cons (.tmp _ _ R) (.cons (.tmp _ _ R) .nil)))) R R) fun h8 hm=>Aj<|Ae<|Aa R R (Ak R)<|Bd hm fun v4 h9 hm=>Aa R R (C1 R R R Aq h9)<|Ad R R<|A1 hm 0 R fn177 R (K58 _) fun r2 hm=>Aa R R (Am R)<|Ac<|Af<|Ae<|Ab tbk [] 3 R R<|Cn tbk [] 3 39 36 R R R R R<|Ac<|Av hm R (fun h12 hm=>Ag tbk [] R R<|Rt0 hm R [] (.cons (.tmp _ _ R) (.cons (.tmp _ _ R) (.cons (.tmp _ _ R) (.cons (.tmp _ _ R) .nil)))) R R) fun h12 hm=>Aj<|Ae<|Ab tbk [] 3 R R<|Bd hm fun v5 h13 hm=>Aa R R (C1 R R R Aq h13)<|Bd hm fun v6 h14 hm=>Aa R R (Bl R R h14)<|Bd hm fun v7 h15 hm=>Aa R R (C1 R R R Aq h15)<|Ad R R<|A1 hm 0 R fn178 R (K59 _ _) fun r3 hm=>Ab tbk [] 5 R R<|Ac<|Af<|A3 0 mixed<|An tbk [0,1,2,3,4] [] (by kernel_rfl) R R R<|Bd hm fun v8 h17 hm=>Au 5 R R R (by kernel_rfl) (C1 R R R Aq h17)<|An tbk [6,7,8,9] [] (by kernel_rfl) R R R<|Ay (by kernel_rfl)<|Rt0 hm R [] (.cons (.tmp _ _ R) (.cons (.tmp _ _ R) (.cons (.tmp _ _ R) (.cons (.tmp _ _ R) .nil)))) R R

/-! trireme/quant.place -/
def quant_place.l1 (s : ByteArray) (c : Int) : Nat → Int → Option (Out Int Unit)
 | 0, _ => none
 | n + 1, v2 =>
  if (decide (v2 < (s.size : Int))) = true then
   (V.gi s v2).bind fun v3 =>
   if (v3 == c) = true then
    some (Out.ret v2)
   else
    quant_place.l1 s c n (i64.wrap (v2 + 1))
  else
   some (Out.go ())
def quant_place (s : ByteArray) (c : Int) : Option Int :=
 (quant_place.l1 s c FU (0 : Int)).bind fun o =>
 o.on fun j =>
 some 0
theorem K61 (s : ByteArray) (c : Int) : VS Tryz.prog 205 (quant_place s c) [.str s, .int .u8 c] [] Iw N0 := by
 refine A8 [.tmp 4] Tryz.func205 R R R fun r hm=>?_
 unfold quant_place at hm
 refine Ag tbk [] R R<|Af<|Ae<|Aa R R (Ak R)<|Aa R R (B1 R Aq)<|Aa R R (Ak R)<|Ac<|Ce hm (fun _ (_:Unit)=>[]) (fun _ (_:Unit)=>[]) (fun o hm h2=>?_) fun j _ hm=> ?_
 ·refine Ck (fun zn (zs:Int)=>quant_place.l1 s c zn zs) (fun zs (_:Unit)=>[(0,.str s),(1,.int .u8 c),(7,Iw (s.size : Int)),(8,Iw zs)]) (fun _ (_:Unit)=>[]) _ () (fun _=>R) hm (Ah [] R R) fun n v2 _ hm=> ?_
  rw [quant_place.l1] at hm
  exact Ag tbk [] R R<|Af<|Av hm R (fun h3 hm=>Aj<|Af<|A4<|Ag tbk [] R R<|Ae<|Ab tbk [] 2 R R<|Bd hm fun v3 h4 hm=>Aa R R (Ci R R Aq h4)<|Ab tbk [] 2 R R<|Ac<|Av hm R (fun h5 hm=>Ag tbk [] R R<|have hm:=Lr hm h2;Rt1 hm R [] R R R) fun h5 hm=>Aj<|Bf tbk [] R R<|Ap _ () hm (Ah [] R R)) fun h3 hm=>Be<|Ar () hm (Ah [] R R)
 exact Ag tbk [] R R<|Rt1 hm R [] R R R

/-! trireme/quant.unit$1 -/
def quant_unit_1.l1 (base : Int) (n : Int) : Nat → Int → Int → Option Int
 | 0, _, _ => none
 | n2 + 1, x2, v2 =>
  if (decide (v2 < n)) = true then
   quant_unit_1.l1 base n n2 (i64.wrap (x2 * base)) (i64.wrap (v2 + 1))
  else
   some x2
def quant_unit_1 (base : Int) (n : Int) : Option I_any20 :=
 (quant_unit_1.l1 base n FU 1000 (0 : Int)).bind fun x32 =>
 some (I_any20.c228 x32)
theorem K62 (base : Int) (n : Int) : VS Tryz.prog 204 (quant_unit_1 base n) [Iw base, Iw n] [] (fun r=>I_any20.vv r) N0 := by
 refine A8 [.tmp 4] Tryz.func204 R R R fun r hm=>?_
 unfold quant_unit_1 at hm
 refine Ae<|Aa R R (Di 0 .any)<|Ac<|Ag tbk [] R R<|Af<|Ag tbk [] R R<|Cx hm (fun x32 (_:Unit)=>[(5,Iw x32)]) (fun _ (_:Unit)=>[]) (fun o hm=>?_) fun x32 _ hm=> ?_
 ·refine Ck (fun zn (zs:Int × Int)=>quant_unit_1.l1 base n zn zs.1 zs.2) (fun zs (_:Unit)=>[(0,Iw base),(5,Iw zs.1),(6,Iw n),(7,Iw zs.2)]) (fun _ (_:Unit)=>[]) ((1000 : Int),(0 : Int)) () (fun _=>R) hm (Ah [] R R) fun n2=>Pq fun x2 v2 _ hm=> ?_
  rw [quant_unit_1.l1] at hm
  exact Ag tbk [] R R<|Af<|Av hm R (fun h3 hm=>Aj<|Af<|A4<|Bf tbk [] R R<|Bf tbk [] R R<|Ap ((IntKind.i64.wrap (x2 * base)),(IntKind.i64.wrap (v2 + (1 : Int)))) () hm (Ah [] R R)) fun h3 hm=>Be<|As () hm (Ah [] R R)
 exact Ae<|Aa R R (Ak R)<|Aa R R (Cb nif228 R)<|Aa R R (Am R)<|Ac<|Rt1 hm R [] R R R

/-! trireme/quant.unit -/
def quant_unit (s : ByteArray) : Option I_any20 :=
 if (V.seq s (⟨#[]⟩ : ByteArray)) = true then
  some (I_any20.c228 1000)
 else
  if (V.seq s (⟨#[109]⟩ : ByteArray)) = true then
   some (I_any20.c228 1)
  else
   (if (V.seq s (⟨#[107]⟩ : ByteArray)) = true then
    some (V.seq s (⟨#[107]⟩ : ByteArray))
   else
    if (V.seq s (⟨#[77]⟩ : ByteArray)) = true then
     some (V.seq s (⟨#[77]⟩ : ByteArray))
    else
     if (V.seq s (⟨#[71]⟩ : ByteArray)) = true then
      some (V.seq s (⟨#[71]⟩ : ByteArray))
     else
      some (V.seq s (⟨#[84]⟩ : ByteArray))).bind fun v2 =>
   if v2 = true then
    (V.gi s (0 : Int)).bind fun v3 =>
    (quant_place (⟨#[107, 77, 71, 84]⟩ : ByteArray) v3).bind fun r =>
    (quant_unit_1 1000 (i64.wrap (1 + r))).bind fun r2 =>
    some r2
   else
    (if (V.seq s (⟨#[75, 105]⟩ : ByteArray)) = true then
     some (V.seq s (⟨#[75, 105]⟩ : ByteArray))
    else
     if (V.seq s (⟨#[77, 105]⟩ : ByteArray)) = true then
      some (V.seq s (⟨#[77, 105]⟩ : ByteArray))
     else
      if (V.seq s (⟨#[71, 105]⟩ : ByteArray)) = true then
       some (V.seq s (⟨#[71, 105]⟩ : ByteArray))
      else
       some (V.seq s (⟨#[84, 105]⟩ : ByteArray))).bind fun v42 =>
    if v42 = true then
     (V.gi s (0 : Int)).bind fun v5 =>
     (quant_place (⟨#[75, 77, 71, 84]⟩ : ByteArray) v5).bind fun r3 =>
     (quant_unit_1 1024 (i64.wrap (1 + r3))).bind fun r4 =>
     some r4
    else
     some (I_any20.c234 (⟨⟩ : T_quant_none))
theorem K63 (s : ByteArray) : VS Tryz.prog 200 (quant_unit s) [.str s] [] (fun r=>I_any20.vv r) N0 := by
 refine A8 [.tmp 2] Tryz.func200 R R R fun r hm=>?_
 unfold quant_unit at hm
 exact Ae<|Aa R R (Di 0 .any)<|Ac<|Ag tbk [] R R<|Af<|Ag tbk [] R R<|A4<|Ag tbk [] R R<|Av hm R (fun h1 hm=>Ae<|Aa R R (Cb nif228 R)<|Aa R R (Am R)<|Ac<|Rt1 hm R [] R R R) fun h1 hm=>Ag tbk [] R R<|Av hm R (fun h2 hm=>Ae<|Aa R R (Cb nif228 R)<|Aa R R (Am R)<|Ac<|Rt1 hm R [] R R R) fun h2 hm=>Ca hm (fun v2 (_:Unit)=>[(0,.str s),(3,.clo (.func 204) [] []),(4,.str s),(11,.bool v2)]) (fun _ (_:Unit)=>[]) (fun o hm=>Ag tbk [] R R<|Av hm R (fun h5 hm=>Aj<|As () hm (Ah [] R R)) fun h5 hm=>Ag tbk [] R R<|Av hm R (fun h6 hm=>Aj<|As () hm (Ah [] R R)) fun h6 hm=>Ag tbk [] R R<|Av hm R (fun h7 hm=>Aj<|As () hm (Ah [] R R)) fun h7 hm=>Bf tbk [] R R<|As () hm (Ah [] R R)) fun v2 _ hm=>Av hm R (fun h8 hm=>Ae<|Ab tbk [] 2 R R<|Bd hm fun v3 h9 hm=>Aa R R (Ci R R Aq h9)<|Ad R R<|A1 hm 0 R fn205 R (K61 _ _) fun r hm=>Aa R R (Bh R R R)<|Ad R R<|A1 hm 0 R fn204 R (K62 _ _) fun r2 hm=>Aa R R (Am R)<|Ac<|Rt1 hm R [] R R R) fun h8 hm=>Ca hm (fun v42 (_:Unit)=>[(0,.str s),(3,.clo (.func 204) [] []),(22,.bool v42)]) (fun _ (_:Unit)=>[]) (fun o2 hm=>Ag tbk [] R R<|Av hm R (fun h14 hm=>Aj<|As () hm (Ah [] R R)) fun h14 hm=>Ag tbk [] R R<|Av hm R (fun h15 hm=>Aj<|As () hm (Ah [] R R)) fun h15 hm=>Ag tbk [] R R<|Av hm R (fun h16 hm=>Aj<|As () hm (Ah [] R R)) fun h16 hm=>Bf tbk [] R R<|As () hm (Ah [] R R)) fun v42 _ hm=>Av hm R (fun h17 hm=>Ae<|Ab tbk [] 2 R R<|Bd hm fun v5 h18 hm=>Aa R R (Ci R R Aq h18)<|Ad R R<|A1 hm 0 R fn205 R (K61 _ _) fun r3 hm=>Aa R R (Bh R R R)<|Ad R R<|A1 hm 0 R fn204 R (K62 _ _) fun r4 hm=>Aa R R (Am R)<|Ac<|Rt1 hm R [] R R R) fun h17 hm=>Aj<|Ae<|Aa R R (A5 pl234 R R)<|Aa R R (Cb nif234 R)<|Aa R R (Am R)<|Ac<|Rt1 hm R [] R R R

/-! trireme/quant.exact -/
def quant_exact.l1 (whole : ByteArray) (each : Int) : Nat → Int → Int → Option Int
 | 0, _, _ => none
 | n + 1, rest_2, v2 =>
  if (decide (v2 < (whole.size : Int))) = true then
   (V.gi whole v2).bind fun v3 =>
   (V.rem (i64.wrap ((i64.wrap (10 * rest_2)) + (i64.wrap (IntKind.u8.wrap (v3 - 48))))) each).bind fun v4 =>
   quant_exact.l1 whole each n v4 (i64.wrap (v2 + 1))
  else
   some rest_2
def quant_exact (whole : ByteArray) (part : Int) (u : Int) (each : Int) : Option Bool :=
 (quant_exact.l1 whole each FU 0 (0 : Int)).bind fun rest_32 =>
 (V.rem (i64.wrap ((i64.wrap (rest_32 * 1000)) + part)) each).bind fun v5 =>
 (V.rem u each).bind fun v6 =>
 (V.rem (i64.wrap (v5 * v6)) each).bind fun v7 =>
 some (v7 == 0)
theorem K64 (whole : ByteArray) (part : Int) (u : Int) (each : Int) : VS Tryz.prog 201 (quant_exact whole part u each) [.str whole, Iw part, Iw u, Iw each] [] .bool N0 := by
 refine A8 [.tmp 8] Tryz.func201 R R R fun r hm=>?_
 unfold quant_exact at hm
 refine Ag tbk [] R R<|Ag tbk [] R R<|Af<|Ae<|Aa R R (Ak R)<|Aa R R (B1 R Aq)<|Aa R R (Ak R)<|Ac<|Cx hm (fun rest_32 (_:Unit)=>[(1,Iw part),(2,Iw u),(3,Iw each),(9,Iw rest_32)]) (fun _ (_:Unit)=>[]) (fun o hm=>?_) fun rest_32 _ hm=> ?_
 ·refine Ck (fun zn (zs:Int × Int)=>quant_exact.l1 whole each zn zs.1 zs.2) (fun zs (_:Unit)=>[(0,.str whole),(1,Iw part),(2,Iw u),(3,Iw each),(9,Iw zs.1),(12,Iw (whole.size : Int)),(13,Iw zs.2)]) (fun _ (_:Unit)=>[]) ((0 : Int),(0 : Int)) () (fun _=>R) hm (Ah [] R R) fun n=>Pq fun rest_2 v2 _ hm=> ?_
  rw [quant_exact.l1] at hm
  exact Ag tbk [] R R<|Af<|Av hm R (fun h3 hm=>Aj<|Af<|A4<|Ag tbk [] R R<|Bb<|Ab tbk [] 4 R R<|Bd hm fun v3 h4 hm=>Aa R R (Ci R R Aq h4)<|Aa R R (Bh R R R)<|Aa R R (B9 Bo Bu R)<|Ab tbk [] 2 R R<|Bd hm fun v4 h5 hm=>Aa R R (C3 R R h5)<|Aa R R (Am R)<|Ac<|Bf tbk [] R R<|Ap (v4,(IntKind.i64.wrap (v2 + (1 : Int)))) () hm (Ah [] R R)) fun h3 hm=>Be<|As () hm (Ah [] R R)
 exact Ae<|Ab tbk [] 5 R R<|Bd hm fun v5 h6 hm=>Aa R R (C3 R R h6)<|Aa R R (Am R)<|Ac<|Ae<|Ab tbk [] 3 R R<|Bd hm fun v6 h7 hm=>Aa R R (C3 R R h7)<|Ab tbk [] 2 R R<|Bd hm fun v7 h8 hm=>Aa R R (C3 R R h8)<|Ab tbk [] 2 R R<|Ac<|Rt1 hm R [] R R R

/-! math/bits.Mul64 -/
def math_bits_Mul64 (x : Int) (y : Int) : Option (Int × Int) :=
 (V.shr .u64 x (32 : Int)).bind fun v =>
 (V.shr .u64 y (32 : Int)).bind fun v2 =>
 (V.shr .u64 (IntKind.u64.wrap ((V.bAnd .u64 x 4294967295) * (V.bAnd .u64 y 4294967295))) (32 : Int)).bind fun v3 =>
 (V.shr .u64 (IntKind.u64.wrap ((IntKind.u64.wrap (v * (V.bAnd .u64 y 4294967295))) + v3)) (32 : Int)).bind fun v4 =>
 (V.shr .u64 (IntKind.u64.wrap ((V.bAnd .u64 (IntKind.u64.wrap ((IntKind.u64.wrap (v * (V.bAnd .u64 y 4294967295))) + v3)) 4294967295) + (IntKind.u64.wrap ((V.bAnd .u64 x 4294967295) * v2)))) (32 : Int)).bind fun v5 =>
 some ((IntKind.u64.wrap ((IntKind.u64.wrap ((IntKind.u64.wrap (v * v2)) + v4)) + v5)), (IntKind.u64.wrap (x * y)))
theorem K65 (x : Int) (y : Int) : VS Tryz.prog 206 (math_bits_Mul64 x y) [.int .u64 x, .int .u64 y] [] (fun r=>.tup [.int .u64 r.1, .int .u64 r.2]) N0 := by
 refine A8 [.tmp 4,.tmp 5] Tryz.func206 R R R fun r hm=>?_
 unfold math_bits_Mul64 at hm
 exact Ag tbk [] R R<|Ae<|Aa R R (Ak R)<|Aa R R (Dv R R)<|Aa R R (Am R)<|Ac<|Ae<|Aa R R (Ak R)<|Bd hm fun v h1 hm=>Aa R R (C0 R R h1)<|Aa R R (Am R)<|Ac<|Ae<|Aa R R (Ak R)<|Aa R R (Dv R R)<|Aa R R (Am R)<|Ac<|Ae<|Aa R R (Ak R)<|Bd hm fun v2 h2 hm=>Aa R R (C0 R R h2)<|Aa R R (Am R)<|Ac<|Ag tbk [] R R<|Ae<|Ab tbk [] 4 R R<|Bd hm fun v3 h3 hm=>Aa R R (C0 R R h3)<|Ab tbk [] 2 R R<|Ac<|Ae<|Aa R R (Ak R)<|Aa R R (Dv R R)<|Aa R R (Am R)<|Ac<|Ae<|Aa R R (Ak R)<|Bd hm fun v4 h4 hm=>Aa R R (C0 R R h4)<|Aa R R (Am R)<|Ac<|Ag tbk [] R R<|Ae<|Ab tbk [] 6 R R<|Bd hm fun v5 h5 hm=>Aa R R (C0 R R h5)<|Ab tbk [] 2 R R<|Ac<|Ag tbk [] R R<|Rt2 hm R [] R R R R

/-! math/bits.Len64 -/
def math_bits_Len64 (x : Int) : Option Int :=
 (if (decide (x ≥ 4294967296)) = true then
  (V.shr .u64 x (32 : Int)).bind fun v =>
  some (v, 32)
 else
  some (x, 0)).bind fun j =>
 if (decide (j.1 ≥ 65536)) = true then
  (V.shr .u64 j.1 (16 : Int)).bind fun v2 =>
  if (decide (v2 ≥ 256)) = true then
   (V.shr .u64 v2 (8 : Int)).bind fun v3 =>
   (V.gi (⟨#[0, 1, 2, 2, 3, 3, 3, 3, 4, 4, 4, 4, 4, 4, 4, 4, 5, 5, 5, 5, 5, 5, 5, 5, 5, 5, 5, 5, 5, 5, 5, 5, 6, 6, 6, 6, 6, 6, 6, 6, 6, 6, 6, 6, 6, 6, 6, 6, 6, 6, 6, 6, 6, 6, 6, 6, 6, 6, 6, 6, 6, 6, 6, 6, 7, 7, 7, 7, 7, 7, 7, 7, 7, 7, 7, 7, 7, 7, 7, 7, 7, 7, 7, 7, 7, 7, 7, 7, 7, 7, 7, 7, 7, 7, 7, 7, 7, 7, 7, 7, 7, 7, 7, 7, 7, 7, 7, 7, 7, 7, 7, 7, 7, 7, 7, 7, 7, 7, 7, 7, 7, 7, 7, 7, 7, 7, 7, 7, 8, 8, 8, 8, 8, 8, 8, 8, 8, 8, 8, 8, 8, 8, 8, 8, 8, 8, 8, 8, 8, 8, 8, 8, 8, 8, 8, 8, 8, 8, 8, 8, 8, 8, 8, 8, 8, 8, 8, 8, 8, 8, 8, 8, 8, 8, 8, 8, 8, 8, 8, 8, 8, 8, 8, 8, 8, 8, 8, 8, 8, 8, 8, 8, 8, 8, 8, 8, 8, 8, 8, 8, 8, 8, 8, 8, 8, 8, 8, 8, 8, 8, 8, 8, 8, 8, 8, 8, 8, 8, 8, 8, 8, 8, 8, 8, 8, 8, 8, 8, 8, 8, 8, 8, 8, 8, 8, 8, 8, 8, 8, 8, 8, 8, 8, 8, 8, 8, 8, 8, 8, 8, 8, 8, 8, 8, 8, 8]⟩ : ByteArray) (IntKind.u8.wrap v3)).bind fun v4 =>
   some (i64.wrap ((i64.wrap ((i64.wrap (j.2 + 16)) + 8)) + (i64.wrap v4)))
  else
   (V.gi (⟨#[0, 1, 2, 2, 3, 3, 3, 3, 4, 4, 4, 4, 4, 4, 4, 4, 5, 5, 5, 5, 5, 5, 5, 5, 5, 5, 5, 5, 5, 5, 5, 5, 6, 6, 6, 6, 6, 6, 6, 6, 6, 6, 6, 6, 6, 6, 6, 6, 6, 6, 6, 6, 6, 6, 6, 6, 6, 6, 6, 6, 6, 6, 6, 6, 7, 7, 7, 7, 7, 7, 7, 7, 7, 7, 7, 7, 7, 7, 7, 7, 7, 7, 7, 7, 7, 7, 7, 7, 7, 7, 7, 7, 7, 7, 7, 7, 7, 7, 7, 7, 7, 7, 7, 7, 7, 7, 7, 7, 7, 7, 7, 7, 7, 7, 7, 7, 7, 7, 7, 7, 7, 7, 7, 7, 7, 7, 7, 7, 8, 8, 8, 8, 8, 8, 8, 8, 8, 8, 8, 8, 8, 8, 8, 8, 8, 8, 8, 8, 8, 8, 8, 8, 8, 8, 8, 8, 8, 8, 8, 8, 8, 8, 8, 8, 8, 8, 8, 8, 8, 8, 8, 8, 8, 8, 8, 8, 8, 8, 8, 8, 8, 8, 8, 8, 8, 8, 8, 8, 8, 8, 8, 8, 8, 8, 8, 8, 8, 8, 8, 8, 8, 8, 8, 8, 8, 8, 8, 8, 8, 8, 8, 8, 8, 8, 8, 8, 8, 8, 8, 8, 8, 8, 8, 8, 8, 8, 8, 8, 8, 8, 8, 8, 8, 8, 8, 8, 8, 8, 8, 8, 8, 8, 8, 8, 8, 8, 8, 8, 8, 8, 8, 8, 8, 8, 8, 8]⟩ : ByteArray) (IntKind.u8.wrap v2)).bind fun v5 =>
   some (i64.wrap ((i64.wrap (j.2 + 16)) + (i64.wrap v5)))
 else
  if (decide (j.1 ≥ 256)) = true then
   (V.shr .u64 j.1 (8 : Int)).bind fun v6 =>
   (V.gi (⟨#[0, 1, 2, 2, 3, 3, 3, 3, 4, 4, 4, 4, 4, 4, 4, 4, 5, 5, 5, 5, 5, 5, 5, 5, 5, 5, 5, 5, 5, 5, 5, 5, 6, 6, 6, 6, 6, 6, 6, 6, 6, 6, 6, 6, 6, 6, 6, 6, 6, 6, 6, 6, 6, 6, 6, 6, 6, 6, 6, 6, 6, 6, 6, 6, 7, 7, 7, 7, 7, 7, 7, 7, 7, 7, 7, 7, 7, 7, 7, 7, 7, 7, 7, 7, 7, 7, 7, 7, 7, 7, 7, 7, 7, 7, 7, 7, 7, 7, 7, 7, 7, 7, 7, 7, 7, 7, 7, 7, 7, 7, 7, 7, 7, 7, 7, 7, 7, 7, 7, 7, 7, 7, 7, 7, 7, 7, 7, 7, 8, 8, 8, 8, 8, 8, 8, 8, 8, 8, 8, 8, 8, 8, 8, 8, 8, 8, 8, 8, 8, 8, 8, 8, 8, 8, 8, 8, 8, 8, 8, 8, 8, 8, 8, 8, 8, 8, 8, 8, 8, 8, 8, 8, 8, 8, 8, 8, 8, 8, 8, 8, 8, 8, 8, 8, 8, 8, 8, 8, 8, 8, 8, 8, 8, 8, 8, 8, 8, 8, 8, 8, 8, 8, 8, 8, 8, 8, 8, 8, 8, 8, 8, 8, 8, 8, 8, 8, 8, 8, 8, 8, 8, 8, 8, 8, 8, 8, 8, 8, 8, 8, 8, 8, 8, 8, 8, 8, 8, 8, 8, 8, 8, 8, 8, 8, 8, 8, 8, 8, 8, 8, 8, 8, 8, 8, 8, 8]⟩ : ByteArray) (IntKind.u8.wrap v6)).bind fun v7 =>
   some (i64.wrap ((i64.wrap (j.2 + 8)) + (i64.wrap v7)))
  else
   (V.gi (⟨#[0, 1, 2, 2, 3, 3, 3, 3, 4, 4, 4, 4, 4, 4, 4, 4, 5, 5, 5, 5, 5, 5, 5, 5, 5, 5, 5, 5, 5, 5, 5, 5, 6, 6, 6, 6, 6, 6, 6, 6, 6, 6, 6, 6, 6, 6, 6, 6, 6, 6, 6, 6, 6, 6, 6, 6, 6, 6, 6, 6, 6, 6, 6, 6, 7, 7, 7, 7, 7, 7, 7, 7, 7, 7, 7, 7, 7, 7, 7, 7, 7, 7, 7, 7, 7, 7, 7, 7, 7, 7, 7, 7, 7, 7, 7, 7, 7, 7, 7, 7, 7, 7, 7, 7, 7, 7, 7, 7, 7, 7, 7, 7, 7, 7, 7, 7, 7, 7, 7, 7, 7, 7, 7, 7, 7, 7, 7, 7, 8, 8, 8, 8, 8, 8, 8, 8, 8, 8, 8, 8, 8, 8, 8, 8, 8, 8, 8, 8, 8, 8, 8, 8, 8, 8, 8, 8, 8, 8, 8, 8, 8, 8, 8, 8, 8, 8, 8, 8, 8, 8, 8, 8, 8, 8, 8, 8, 8, 8, 8, 8, 8, 8, 8, 8, 8, 8, 8, 8, 8, 8, 8, 8, 8, 8, 8, 8, 8, 8, 8, 8, 8, 8, 8, 8, 8, 8, 8, 8, 8, 8, 8, 8, 8, 8, 8, 8, 8, 8, 8, 8, 8, 8, 8, 8, 8, 8, 8, 8, 8, 8, 8, 8, 8, 8, 8, 8, 8, 8, 8, 8, 8, 8, 8, 8, 8, 8, 8, 8, 8, 8, 8, 8, 8, 8, 8, 8]⟩ : ByteArray) (IntKind.u8.wrap j.1)).bind fun v8 =>
   some (i64.wrap (j.2 + (i64.wrap v8)))
theorem K66 (x : Int) : VS Tryz.prog 212 (math_bits_Len64 x) [.int .u64 x] [] Iw N0 := by
 refine A8 [.tmp 2] Tryz.func212 R R R fun r hm=>?_
 unfold math_bits_Len64 at hm
 exact Ag tbk [] R R<|Ca hm (fun j (_:Unit)=>[(0,.int .u64 j.1),(2,Iw j.2)]) (fun _ (_:Unit)=>[]) (fun o hm=>Ag tbk [] R R<|Av hm R (fun h3 hm=>Ae<|Aa R R (Ak R)<|Bd hm fun v h4 hm=>Aa R R (C0 R R h4)<|Aa R R (Am R)<|Ac<|Bf tbk [] R R<|As () hm (Ah [] R R)) fun h3 hm=>Aj<|As () hm (Ah [] R R)) fun j _ hm=>Af<|Ag tbk [] R R<|Av hm R (fun h5 hm=>Ae<|Aa R R (Ak R)<|Bd hm fun v2 h6 hm=>Aa R R (C0 R R h6)<|Aa R R (Am R)<|Ac<|Bf tbk [] R R<|Af<|Ag tbk [] R R<|Av hm R (fun h7 hm=>Ae<|Aa R R (Ak R)<|Bd hm fun v3 h8 hm=>Aa R R (C0 R R h8)<|Aa R R (Am R)<|Ac<|Bf tbk [] R R<|Ae<|Ab tbk [] 2 R R<|Aa R R (B9 Co Bo R)<|Bd hm fun v4 h9 hm=>Aa R R (Ci R R Aq h9)<|Aa R R (B9 Bo Bu R)<|Ab tbk [] 2 R R<|Ac<|Rt1 hm R [] R R R) fun h7 hm=>Aj<|Ae<|Ab tbk [] 2 R R<|Aa R R (B9 Co Bo R)<|Bd hm fun v5 h10 hm=>Aa R R (Ci R R Aq h10)<|Aa R R (B9 Bo Bu R)<|Ab tbk [] 2 R R<|Ac<|Rt1 hm R [] R R R) fun h5 hm=>Aj<|Af<|Ag tbk [] R R<|Av hm R (fun h11 hm=>Ae<|Aa R R (Ak R)<|Bd hm fun v6 h12 hm=>Aa R R (C0 R R h12)<|Aa R R (Am R)<|Ac<|Bf tbk [] R R<|Ae<|Ab tbk [] 2 R R<|Aa R R (B9 Co Bo R)<|Bd hm fun v7 h13 hm=>Aa R R (Ci R R Aq h13)<|Aa R R (B9 Bo Bu R)<|Ab tbk [] 2 R R<|Ac<|Rt1 hm R [] R R R) fun h11 hm=>Aj<|Ae<|Ab tbk [] 2 R R<|Aa R R (B9 Co Bo R)<|Bd hm fun v8 h14 hm=>Aa R R (Ci R R Aq h14)<|Aa R R (B9 Bo Bu R)<|Ab tbk [] 2 R R<|Ac<|Rt1 hm R [] R R R

/-! math/bits.LeadingZeros64 -/
def math_bits_LeadingZeros64 (x : Int) : Option Int :=
 (math_bits_Len64 x).bind fun r =>
 some (i64.wrap (64 - r))
theorem K67 (x : Int) : VS Tryz.prog 211 (math_bits_LeadingZeros64 x) [.int .u64 x] [] Iw N0 := by
 refine A8 [.tmp 2] Tryz.func211 R R R fun r hm=>?_
 unfold math_bits_LeadingZeros64 at hm
 exact Ag tbk [] R R<|Ae<|Aa R R (Ak R)<|Ad R R<|A1 hm 0 R fn212 R (K66 _) fun r hm=>Ab tbk [] 2 R R<|Ac<|Rt1 hm R [] R R R

/-! math/bits.Div64 -/
def math_bits_Div64.l1 (v3 : Int) (v4 : Int) (v8 : Int) : Nat → Int → Int → Option Int
 | 0, _, _ => none
 | n + 1, q12, rhat2 =>
  if ((decide (q12 ≥ 4294967296)) || (decide ((IntKind.u64.wrap (q12 * (V.bAnd .u64 v3 4294967295))) > (IntKind.u64.wrap ((IntKind.u64.wrap (4294967296 * rhat2)) + v8))))) = true then
   if (decide ((IntKind.u64.wrap (rhat2 + v4)) ≥ 4294967296)) = true then
    some (IntKind.u64.wrap (q12 - 1))
   else
    math_bits_Div64.l1 v3 v4 v8 n (IntKind.u64.wrap (q12 - 1)) (IntKind.u64.wrap (rhat2 + v4))
  else
   some q12
def math_bits_Div64.l2 (v3 : Int) (v4 : Int) (v7 : Int) : Nat → Int → Int → Option Int
 | 0, _, _ => none
 | n2 + 1, rhat4, q02 =>
  if ((decide (q02 ≥ 4294967296)) || (decide ((IntKind.u64.wrap (q02 * (V.bAnd .u64 v3 4294967295))) > (IntKind.u64.wrap ((IntKind.u64.wrap (4294967296 * rhat4)) + (V.bAnd .u64 v7 4294967295)))))) = true then
   if (decide ((IntKind.u64.wrap (rhat4 + v4)) ≥ 4294967296)) = true then
    some (IntKind.u64.wrap (q02 - 1))
   else
    math_bits_Div64.l2 v3 v4 v7 n2 (IntKind.u64.wrap (rhat4 + v4)) (IntKind.u64.wrap (q02 - 1))
  else
   some q02
def math_bits_Div64 (hi : Int) (lo : Int) (y : Int) : Option (Int × Int) :=
 if (y == 0) = true then
  none
 else
  if (decide (y ≤ hi)) = true then
   none
  else
   if (hi == 0) = true then
    (V.quo lo y).bind fun v =>
    (V.rem lo y).bind fun v2 =>
    some ((IntKind.u64.wrap v), v2)
   else
    (math_bits_LeadingZeros64 y).bind fun r =>
    (V.shl .u64 y (IntKind.u64.wrap r)).bind fun v3 =>
    (V.shr .u64 v3 (32 : Int)).bind fun v4 =>
    (V.shl .u64 hi (IntKind.u64.wrap r)).bind fun v5 =>
    (V.shr .u64 lo (IntKind.u64.wrap (64 - (IntKind.u64.wrap r)))).bind fun v6 =>
    (V.shl .u64 lo (IntKind.u64.wrap r)).bind fun v7 =>
    (V.shr .u64 v7 (32 : Int)).bind fun v8 =>
    (V.quo (V.bOr .u64 v5 v6) v4).bind fun v9 =>
    (math_bits_Div64.l1 v3 v4 v8 FU (IntKind.u64.wrap v9) (IntKind.u64.wrap ((V.bOr .u64 v5 v6) - (IntKind.u64.wrap ((IntKind.u64.wrap v9) * v4))))).bind fun q132 =>
    (V.quo (IntKind.u64.wrap ((IntKind.u64.wrap ((IntKind.u64.wrap ((V.bOr .u64 v5 v6) * 4294967296)) + v8)) - (IntKind.u64.wrap (q132 * v3)))) v4).bind fun v10 =>
    (math_bits_Div64.l2 v3 v4 v7 FU (IntKind.u64.wrap ((IntKind.u64.wrap ((IntKind.u64.wrap ((IntKind.u64.wrap ((V.bOr .u64 v5 v6) * 4294967296)) + v8)) - (IntKind.u64.wrap (q132 * v3)))) - (IntKind.u64.wrap ((IntKind.u64.wrap v10) * v4)))) (IntKind.u64.wrap v10)).bind fun q032 =>
    (V.shr .u64 (IntKind.u64.wrap ((IntKind.u64.wrap ((IntKind.u64.wrap ((IntKind.u64.wrap ((IntKind.u64.wrap ((IntKind.u64.wrap ((V.bOr .u64 v5 v6) * 4294967296)) + v8)) - (IntKind.u64.wrap (q132 * v3)))) * 4294967296)) + (V.bAnd .u64 v7 4294967295))) - (IntKind.u64.wrap (q032 * v3)))) (IntKind.u64.wrap r)).bind fun v11 =>
    some ((IntKind.u64.wrap ((IntKind.u64.wrap (q132 * 4294967296)) + q032)), v11)
theorem K68 (hi : Int) (lo : Int) (y : Int) : VS Tryz.prog 207 (math_bits_Div64 hi lo y) [.int .u64 hi, .int .u64 lo, .int .u64 y] [] (fun r=>.tup [.int .u64 r.1, .int .u64 r.2]) N0 := by
 refine A8 [.tmp 6,.tmp 7] Tryz.func207 R R R fun r hm=>?_
 unfold math_bits_Div64 at hm
 refine Ag tbk [] R R<|Af<|Ag tbk [] R R<|Av hm R (fun h1 hm=>absurd hm nofun) fun h1 hm=>Aj<|Af<|Ag tbk [] R R<|Av hm R (fun h2 hm=>absurd hm nofun) fun h2 hm=>Aj<|Af<|Ag tbk [] R R<|Av hm R (fun h3 hm=>Af<|A3 0 mixed<|An tbk [0,1] [] (by kernel_rfl) R R R<|Bd hm fun v h4 hm=>Au 2 R R R (by kernel_rfl) (Cy R R h4)<|An tbk [3,4] [] (by kernel_rfl) R R R<|Bd hm fun v2 h5 hm=>Au 5 R R R (by kernel_rfl) (C3 R R h5)<|An tbk [6,7] [] (by kernel_rfl) R R R<|Ay (by kernel_rfl)<|Rt2 hm R [] R R R R) fun h3 hm=>Aj<|Ae<|Aa R R (Ak R)<|Ad R R<|A1 hm 0 R fn211 R (K67 _) fun r hm=>Aa R R (B9 Bu Dr R)<|Aa R R (Am R)<|Ac<|Ae<|Ab tbk [] 2 R R<|Bd hm fun v3 h7 hm=>Aa R R (VP.shlT R R h7)<|Aa R R (Am R)<|Ac<|Ae<|Aa R R (Ak R)<|Bd hm fun v4 h8 hm=>Aa R R (C0 R R h8)<|Aa R R (Am R)<|Ac<|Ae<|Aa R R (Ak R)<|Aa R R (Dv R R)<|Aa R R (Am R)<|Ac<|Ae<|Ab tbk [] 2 R R<|Bd hm fun v5 h9 hm=>Aa R R (VP.shlT R R h9)<|Ab tbk [] 3 R R<|Bd hm fun v6 h10 hm=>Aa R R (C0 R R h10)<|Aa R R (VP.orT R R)<|Aa R R (Am R)<|Ac<|Ae<|Ab tbk [] 2 R R<|Bd hm fun v7 h11 hm=>Aa R R (VP.shlT R R h11)<|Aa R R (Am R)<|Ac<|Ae<|Aa R R (Ak R)<|Bd hm fun v8 h12 hm=>Aa R R (C0 R R h12)<|Aa R R (Am R)<|Ac<|Ae<|Aa R R (Ak R)<|Aa R R (Dv R R)<|Aa R R (Am R)<|Ac<|Ae<|Ab tbk [] 2 R R<|Bd hm fun v9 h13 hm=>Aa R R (Cy R R h13)<|Aa R R (Am R)<|Ac<|Ag tbk [] R R<|Ca hm (fun q132 (_:Unit)=>[(2,.int .u64 v3),(8,.int .u64 (IntKind.u64.wrap r)),(9,.int .u64 v4),(10,.int .u64 (V.bAnd .u64 v3 (4294967295 : Int))),(11,.int .u64 (V.bOr .u64 v5 v6)),(13,.int .u64 v8),(14,.int .u64 (V.bAnd .u64 v7 (4294967295 : Int))),(15,.int .u64 q132)]) (fun _ (_:Unit)=>[]) (fun o hm=>?_) fun q132 _ hm=> ?_
 ·refine Ck (fun zn (zs:Int × Int)=>math_bits_Div64.l1 v3 v4 v8 zn zs.1 zs.2) (fun zs (_:Unit)=>[(2,.int .u64 v3),(8,.int .u64 (IntKind.u64.wrap r)),(9,.int .u64 v4),(10,.int .u64 (V.bAnd .u64 v3 (4294967295 : Int))),(11,.int .u64 (V.bOr .u64 v5 v6)),(13,.int .u64 v8),(14,.int .u64 (V.bAnd .u64 v7 (4294967295 : Int))),(15,.int .u64 zs.1),(16,.int .u64 zs.2)]) (fun _ (_:Unit)=>[]) ((IntKind.u64.wrap v9),(IntKind.u64.wrap ((V.bOr .u64 v5 v6) - (IntKind.u64.wrap ((IntKind.u64.wrap v9) * v4))))) () (fun _=>R) hm (Ah [] R R) fun n=>Pq fun q12 rhat2 _ hm=> ?_
  rw [math_bits_Div64.l1] at hm
  exact Af<|Ae<|Ab tbk [] 3 R R<|Cn tbk [] 9 78 69 R R R R R<|Ac<|Av hm R (fun h17 hm=>Aj<|A4<|Ag tbk [] R R<|Ag tbk [] R R<|Ag tbk [] R R<|Av hm R (fun h18 hm=>Be<|As () hm (Ah [] R R)) fun h18 hm=>Aj<|Ap ((IntKind.u64.wrap (q12 - (1 : Int))),(IntKind.u64.wrap (rhat2 + v4))) () hm (Ah [] R R)) fun h17 hm=>Be<|As () hm (Ah [] R R)
 refine Ag tbk [] R R<|Ae<|Ab tbk [] 2 R R<|Bd hm fun v10 h19 hm=>Aa R R (Cy R R h19)<|Aa R R (Am R)<|Ac<|Ag tbk [] R R<|Ca hm (fun q032 (_:Unit)=>[(2,.int .u64 v3),(8,.int .u64 (IntKind.u64.wrap r)),(14,.int .u64 (V.bAnd .u64 v7 (4294967295 : Int))),(15,.int .u64 q132),(17,.int .u64 (IntKind.u64.wrap ((IntKind.u64.wrap ((IntKind.u64.wrap ((V.bOr .u64 v5 v6) * (4294967296 : Int))) + v8)) - (IntKind.u64.wrap (q132 * v3))))),(18,.int .u64 q032)]) (fun _ (_:Unit)=>[]) (fun o2 hm=>?_) fun q032 _ hm=> ?_
 ·refine Ck (fun zn (zs:Int × Int)=>math_bits_Div64.l2 v3 v4 v7 zn zs.1 zs.2) (fun zs (_:Unit)=>[(2,.int .u64 v3),(8,.int .u64 (IntKind.u64.wrap r)),(9,.int .u64 v4),(10,.int .u64 (V.bAnd .u64 v3 (4294967295 : Int))),(14,.int .u64 (V.bAnd .u64 v7 (4294967295 : Int))),(15,.int .u64 q132),(16,.int .u64 zs.1),(17,.int .u64 (IntKind.u64.wrap ((IntKind.u64.wrap ((IntKind.u64.wrap ((V.bOr .u64 v5 v6) * (4294967296 : Int))) + v8)) - (IntKind.u64.wrap (q132 * v3))))),(18,.int .u64 zs.2)]) (fun _ (_:Unit)=>[]) ((IntKind.u64.wrap ((IntKind.u64.wrap ((IntKind.u64.wrap ((IntKind.u64.wrap ((V.bOr .u64 v5 v6) * (4294967296 : Int))) + v8)) - (IntKind.u64.wrap (q132 * v3)))) - (IntKind.u64.wrap ((IntKind.u64.wrap v10) * v4)))),(IntKind.u64.wrap v10)) () (fun _=>R) hm (Ah [] R R) fun n2=>Pq fun rhat4 q02 _ hm=> ?_
  rw [math_bits_Div64.l2] at hm
  exact Af<|Ae<|Ab tbk [] 3 R R<|Cn tbk [] 9 113 104 R R R R R<|Ac<|Av hm R (fun h23 hm=>Aj<|A4<|Ag tbk [] R R<|Ag tbk [] R R<|Ag tbk [] R R<|Av hm R (fun h24 hm=>Be<|As () hm (Ah [] R R)) fun h24 hm=>Aj<|Ap ((IntKind.u64.wrap (rhat4 + v4)),(IntKind.u64.wrap (q02 - (1 : Int)))) () hm (Ah [] R R)) fun h23 hm=>Be<|As () hm (Ah [] R R)
 exact Ae<|Ab tbk [] 13 R R<|Bd hm fun v11 h25 hm=>Aa R R (C0 R R h25)<|Ab tbk [] 2 R R<|Ac<|Rt2 hm R [] R R R R

/-! trireme/quant.whole -/
def quant_whole (s : ByteArray) (part : Int) (u : Int) (each : Int) : Option (Int × Bool) :=
 if (u == 1) = true then
  (quant_value s (1125899906842624000 : Int)).bind fun r =>
  (V.quo each (1000 : Int)).bind fun v =>
  (V.quo r.1 (i64.wrap v)).bind fun v2 =>
  some ((i64.wrap v2), r.2)
 else
  (quant_value s (1125899906842624 : Int)).bind fun r2 =>
  (math_bits_Mul64 (IntKind.u64.wrap (i64.wrap ((i64.wrap (r2.1 * 1000)) + part))) (IntKind.u64.wrap u)).bind fun r3 =>
  if ((!r2.2) || (decide (r3.1 ≥ (IntKind.u64.wrap each)))) = true then
   some (0, false)
  else
   (math_bits_Div64 r3.1 r3.2 (IntKind.u64.wrap each)).bind fun r4 =>
   some ((i64.wrap (min r4.1 1125899906842625)), true)
theorem K69 (s : ByteArray) (part : Int) (u : Int) (each : Int) : VS Tryz.prog 202 (quant_whole s part u each) [.str s, Iw part, Iw u, Iw each] [] (fun r=>.tup [Iw r.1, .bool r.2]) N0 := by
 refine A8 [.tmp 8,.tmp 9] Tryz.func202 R R R fun r hm=>?_
 unfold quant_whole at hm
 exact Ag tbk [] R R<|Af<|Ag tbk [] R R<|Av hm R (fun h1 hm=>Ae<|Aa R R (Ak R)<|Ad R R<|A1 hm 0 R fn178 R (K59 _ _) fun r hm=>Ab tbk [] 5 R R<|Ac<|Ae<|Ab tbk [] 2 R R<|Bd hm fun v h3 hm=>Aa R R (Cy R R h3)<|Bd hm fun v2 h4 hm=>Aa R R (Cy R R h4)<|Ab tbk [] 3 R R<|Ac<|Rt2 hm R [] R R R R) fun h1 hm=>Aj<|Ae<|Aa R R (Ak R)<|Ad R R<|A1 hm 0 R fn178 R (K59 _ _) fun r2 hm=>Ab tbk [] 5 R R<|Ac<|Ae<|Ab tbk [] 4 R R<|Aa R R (B9 Bu Co R)<|Aa R R (Ak R)<|Aa R R (B9 Tryz.underlying228 Co R)<|Ad R R<|A1 hm 0 R fn206 R (K65 _ _) fun r3 hm=>Ab tbk [] 5 R R<|Ac<|Af<|Ae<|Ab tbk [] 3 R R<|C5 5 53 48 R (fun K' J=>Ab tbk [] 5 R R<|J 4 R R R) (fun h7 K' J=>Ab tbk [] 2 R R<|Bt R R R R R (B9 Bu Co R)<|Ab tbk [] 2 R R<|J 4 R R R)<|Ac<|Av hm R (fun h8 hm=>Ag tbk [] R R<|Rt2 hm R [] R R R R) fun h8 hm=>Aj<|Ae<|Ab tbk [] 3 R R<|Aa R R (B9 Bu Co R)<|Ad R R<|A1 hm 0 R fn207 R (K68 _ _ _) fun r4 hm=>Ab tbk [] 5 R R<|Ac<|Ae<|Aa R R (Ak R)<|Aa R R (VP.min2 R R)<|Aa R R (B9 Co Bu R)<|Ab tbk [] 2 R R<|Ac<|Rt2 hm R [] R R R R

/-! trireme/quant.amount -/
def quant_amount (s : ByteArray) (each : Int) : Option (Int × Int) :=
 (quant_cut s).bind fun r =>
 if (r.2.2.2 != 0) = true then
  some (0, r.2.2.2)
 else
  (quant_unit r.2.2.1).bind fun r2 =>
  if (I_any20.is228 r2) = true then
   (quant_exact r.1 r.2.1 (I_any20.as228 r2) each).bind fun r3 =>
   if (!r3) = true then
    some (0, 8)
   else
    (quant_whole r.1 r.2.1 (I_any20.as228 r2) each).bind fun r4 =>
    if ((!r4.2) || (decide (r4.1 > 1125899906842624))) = true then
     some (0, 10)
    else
     some (r4.1, 0)
  else
   some (0, 9)
theorem K70 (s : ByteArray) (each : Int) : VS Tryz.prog 193 (quant_amount s each) [.str s, Iw each] [] (fun r=>.tup [Iw r.1, Iw r.2]) N0 := by
 refine A8 [.tmp 4,.tmp 5] Tryz.func193 R R R fun r hm=>?_
 unfold quant_amount at hm
 exact Ag tbk [] R R<|Ae<|Aa R R (Ak R)<|Ad R R<|A1 hm 0 R fn199 R (K60 _) fun r hm=>Ab tbk [] 9 R R<|Ac<|Af<|Ag tbk [] R R<|Av hm R (fun h2 hm=>Ag tbk [] R R<|Rt2 hm R [] R R R R) fun h2 hm=>Aj<|Ae<|Aa R R (Ak R)<|Ad R R<|A1 hm 0 R fn200 R (K63 _) fun r2 hm=>Ac<|A4<|Ae<|Aa R R (VP.as (VP.tassert nif228 zg228 R) (I_any20_ta228 r2))<|Ab tbk [] 2 R R<|Ac<|Av hm R (fun h4 hm=>Ag tbk [] R R<|Af<|Ae<|Ab tbk [] 4 R R<|Ad R R<|A1 hm 0 R fn201 R (K64 _ _ _ _) fun r3 hm=>Aa R R (Cw R)<|Ac<|Av hm R (fun h6 hm=>Ag tbk [] R R<|Rt2 hm R [] R R R R) fun h6 hm=>Aj<|Ae<|Ab tbk [] 4 R R<|Ad R R<|A1 hm 0 R fn202 R (K69 _ _ _ _) fun r4 hm=>Ab tbk [] 5 R R<|Ac<|Af<|Ae<|Ab tbk [] 3 R R<|Cn tbk [] 3 48 45 R R R R R<|Ac<|Av hm R (fun h9 hm=>Ag tbk [] R R<|Rt2 hm R [] R R R R) fun h9 hm=>Aj<|Ag tbk [] R R<|Rt2 hm R [] R R R R) fun h4 hm=>Ag tbk [] R R<|Ag tbk [] R R<|Rt2 hm R [] R R R R

/-! trireme/quant.Milli -/
def quant_Milli (s : ByteArray) : Option (Int × Int) :=
 (quant_amount s (1000 : Int)).bind fun r =>
 some (r.1, r.2)
theorem K71 (s : ByteArray) : VS Tryz.prog 180 (quant_Milli s) [.str s] [] (fun r=>.tup [Iw r.1, Iw r.2]) N0 := by
 refine A8 [.tmp 2,.tmp 3] Tryz.func180 R R R fun r hm=>?_
 unfold quant_Milli at hm
 exact Ag tbk [] R R<|Ae<|Aa R R (Ak R)<|Ad R R<|A1 hm 0 R fn193 R (K70 _ _) fun r hm=>Ab tbk [] 4 R R<|Ac<|Rt2 hm R [] R R R R

/-! trireme/quant.Parse -/
def quant_Parse (s : ByteArray) : Option (Int × Int) :=
 (quant_amount s (1000000 : Int)).bind fun r =>
 some (r.1, r.2)
theorem K72 (s : ByteArray) : VS Tryz.prog 181 (quant_Parse s) [.str s] [] (fun r=>.tup [Iw r.1, Iw r.2]) N0 := by
 refine A8 [.tmp 2,.tmp 3] Tryz.func181 R R R fun r hm=>?_
 unfold quant_Parse at hm
 exact Ag tbk [] R R<|Ae<|Aa R R (Ak R)<|Ad R R<|A1 hm 0 R fn193 R (K70 _ _) fun r hm=>Ab tbk [] 4 R R<|Ac<|Rt2 hm R [] R R R R

/-! trireme/quant.Number -/
def quant_Number (s : ByteArray) : Option (Int × Int) :=
 (if (V.seq s (⟨#[]⟩ : ByteArray)) = true then some true else (quant_head s).bind fun r =>
 some (r != (s.size : Int))).bind fun c =>
 if c = true then
  some (0, 8)
 else
  (quant_value s (1125899906842624 : Int)).bind fun r2 =>
  if (!r2.2) = true then
   some (0, 10)
  else
   some (r2.1, 0)
theorem K73 (s : ByteArray) : VS Tryz.prog 158 (quant_Number s) [.str s] [] (fun r=>.tup [Iw r.1, Iw r.2]) N0 := by
 refine A8 [.tmp 2,.tmp 3] Tryz.func158 R R R fun r hm=>?_
 unfold quant_Number at hm
 exact Ag tbk [] R R<|Af<|Ae<|Ab tbk [] 3 R R<|Br hm 6 14 8 R (fun _ K' h1 J hm=>Ab tbk [] 6 R R<|J 5 R R (Bj hm)) (fun _ K' h1 J hm=>Bt R R R R R (Ak R)<|Bk R R R R R<|A1 hm 0 R fn177 R (K58 _) fun r hm=>Bt R R R R R (Ak R)<|Bt R R R R R (B1 R Aq)<|Ab tbk [] 2 R R<|J 5 R R (Bj hm)) fun c hm=>Ac<|Av hm R (fun h4 hm=>Ag tbk [] R R<|Rt2 hm R [] R R R R) fun h4 hm=>Aj<|Ae<|Aa R R (Ak R)<|Ad R R<|A1 hm 0 R fn178 R (K59 _ _) fun r2 hm=>Ab tbk [] 5 R R<|Ac<|Af<|Ag tbk [] R R<|Av hm R (fun h6 hm=>Ag tbk [] R R<|Rt2 hm R [] R R R R) fun h6 hm=>Aj<|Ag tbk [] R R<|Rt2 hm R [] R R R R

/-! trireme/spec.ops -/
def spec_ops : Option (List ByteArray) :=
 some [(⟨#[]⟩ : ByteArray), (⟨#[105, 110]⟩ : ByteArray), (⟨#[110, 111, 116, 105, 110]⟩ : ByteArray), (⟨#[101, 120, 105, 115, 116, 115]⟩ : ByteArray), (⟨#[109, 105, 115, 115, 105, 110, 103]⟩ : ByteArray), (⟨#[97, 98, 111, 118, 101]⟩ : ByteArray), (⟨#[98, 101, 108, 111, 119]⟩ : ByteArray)]
theorem K74 : VS Tryz.prog 49 (spec_ops) [] [] (fun r=>L9 r) N0 := by
 refine A8 [.tmp 0] Tryz.func49 R R R fun r hm=>?_
 unfold spec_ops at hm
 exact Ag tbk [] R R<|Ae<|Ad R R<|Ax ap65 R R R R R fun b=>A0 (Az 0 [(1,L9 [(⟨#[]⟩ : ByteArray),(⟨#[105,110]⟩ : ByteArray),(⟨#[110,111,116,105,110]⟩ : ByteArray),(⟨#[101,120,105,115,116,115]⟩ : ByteArray),(⟨#[109,105,115,115,105,110,103]⟩ : ByteArray),(⟨#[97,98,111,118,101]⟩ : ByteArray),(⟨#[98,101,108,111,119]⟩ : ByteArray)])] R ⟨⟨_,R,.here _ R⟩,trivial⟩ (FzH.refl _))<|Aa R R (Am R)<|Ac<|Rt1 hm R [] R R R

/-! trireme/spec.place -/
def spec_place.l1 (s : ByteArray) : List ByteArray → Nat → Option (Out (Int × Bool) Unit)
 | [], k => some (Out.go ())
 | x :: l2, k =>
  if (V.seq x s) = true then
   some (Out.ret ((k : Int), true))
  else
   spec_place.l1 s l2 (k + 1)
def spec_place (l : List ByteArray) (s : ByteArray) : Option (Int × Bool) :=
 (spec_place.l1 s l 0).bind fun o =>
 o.on fun j =>
 some (0, false)
theorem K75 (l : List ByteArray) (s : ByteArray) : VS Tryz.prog 182 (spec_place l s) [L9 l, .str s] [] (fun r=>.tup [Iw r.1, .bool r.2]) N0 := by
 refine A8 [.tmp 4,.tmp 5] Tryz.func182 R R R fun r hm=>?_
 unfold spec_place at hm
 refine Ag tbk [] R R<|Af<|Ae<|Aa R R (Ak R)<|Aa R R (Bg VV.str R Cs)<|Aa R R (Ak R)<|Ac<|Cp 8 R fun h3=>Ce hm (fun _ (_:Unit)=>[]) (fun _ (_:Unit)=>[]) (fun o hm h2=>?_) fun j _ hm=> ?_
 ·refine Cu (l) (fun zl zk (zs:Unit)=>spec_place.l1 s zl zk) (fun k _ (_:Unit)=>[(1,.str s),(8,L9 l),(9,Iw (l.length : Int)),(10,Iw (k : Int))]) (fun _ _ (_:Unit)=>[]) () () hm (Ah [] R R) (fun k _ _ hk hm=>?_) fun k x l2 _ _ h4 hm=> ?_
  ·rw [spec_place.l1] at hm
   exact Ag tbk [] R R<|Af<|Cc R (k_end hk)<|Be<|Ar () hm (Ah [] R R)
  rw [spec_place.l1] at hm
  exact Ag tbk [] R R<|Af<|Bp R (k_lt h4)<|Aj<|Af<|A4<|Ae<|Aa R R (Ak R)<|Aa R R (Cr VV.str R R el65 h4)<|Ab tbk [] 3 R R<|Ac<|Ag tbk [] R R<|Av hm R (fun h5 hm=>Ag tbk [] R R<|have hm:=Lr hm h2;Rt2 hm R [] R R R R) fun h5 hm=>Aj<|Bf tbk [] R R<|Ap () () hm (B3 [] R ⟨R,R,R,congrArg some (k_next h4 h3),trivial⟩)
 exact Ag tbk [] R R<|Rt2 hm R [] R R R R

/-! trireme/spec.effects -/
def spec_effects : Option (List ByteArray) :=
 some [(⟨#[97, 110, 121]⟩ : ByteArray), (⟨#[110, 111]⟩ : ByteArray), (⟨#[112, 114, 101, 102, 101, 114]⟩ : ByteArray), (⟨#[111, 117, 116]⟩ : ByteArray)]
theorem K76 : VS Tryz.prog 50 (spec_effects) [] [] (fun r=>L9 r) N0 := by
 refine A8 [.tmp 0] Tryz.func50 R R R fun r hm=>?_
 unfold spec_effects at hm
 exact Ag tbk [] R R<|Ae<|Ad R R<|Ax ap65 R R R R R fun b=>A0 (Az 0 [(1,L9 [(⟨#[97,110,121]⟩ : ByteArray),(⟨#[110,111]⟩ : ByteArray),(⟨#[112,114,101,102,101,114]⟩ : ByteArray),(⟨#[111,117,116]⟩ : ByteArray)])] R ⟨⟨_,R,.here _ R⟩,trivial⟩ (FzH.refl _))<|Aa R R (Am R)<|Ac<|Rt1 hm R [] R R R

/-! trireme/spec.value -/
def spec_value (x : T_api_Node) (kind : Int) : Option (I_any20 × Int) :=
 if (((x.Kind == 4) && (V.seq x.Text (⟨#[]⟩ : ByteArray))) && ((kind == 97) || (kind == 43))) = true then
  some ((I_any20.c9 (⟨#[]⟩ : ByteArray)), 0)
 else
  if (x.Kind != 3) = true then
   some (I_any20.nil, 14)
  else
   (if (kind == 109) = true then
    (quant_Milli x.Text).bind fun r =>
    some (Out.go (r.1, r.2, true))
   else
    if (kind == 112) = true then
     (quant_Parse x.Text).bind fun r2 =>
     some (Out.go (r2.1, r2.2, true))
    else
     if (kind == 110) = true then
      (quant_Number x.Text).bind fun r3 =>
      some (Out.go (r3.1, r3.2, true))
     else
      if (kind == 111) = true then
       (spec_ops).bind fun r4 =>
       (spec_place r4 x.Text).bind fun r5 =>
       some (Out.go (r5.1, 0, (r5.2 && (decide (r5.1 > 0)))))
      else
       if (kind == 101) = true then
        (spec_effects).bind fun r6 =>
        (spec_place r6 x.Text).bind fun r7 =>
        some (Out.go (r7.1, 0, r7.2))
       else
        some (Out.ret ((I_any20.c9 x.Text), 0))).bind fun o =>
   o.on fun j =>
   if (!j.2.2) = true then
    some (I_any20.nil, 14)
   else
    some ((I_any20.c3 j.1), j.2.1)
theorem K77 (x : T_api_Node) (kind : Int) : VS Tryz.prog 165 (spec_value x kind) [T_api_Node.vv x, .int .u8 kind] [] (fun r=>.tup [I_any20.vv r.1, Iw r.2]) N0 := by
 refine A8 [.tmp 4,.tmp 5] Tryz.func165 R R R fun r hm=>?_
 unfold spec_value at hm
 refine Ae<|Ad R R<|Ch R R fun b=>Aa R R (Di 0 .any)<|Aa R R (Am R)<|Ac<|Af<|Ae<|Ab tbk [0] 4 R R<|Bx tbk [0] 4 16 12 R R R R R<|Aa R R (Ak R)<|Da 7 24 17 R (fun h3 K' J=>Ab tbk [] 3 R R<|Cn tbk [] 3 23 20 R R R R R<|Aa R R (A6 true R R R)<|J 4 R R R) (fun K' J=>Ab tbk [] 7 R R<|J 6 R R R)<|Ac<|Av hm R (fun h5 hm=>Ae<|Aa R R (Cb nif9 R)<|Ab tbk [] 2 R R<|Ac<|Rt2 hm R [] R R R R) fun h5 hm=>Aj<|Af<|Ag tbk [0] R R<|Av hm R (fun h6 hm=>Ae<|Aa R R (Di 0 .any)<|Aa R R (Am R)<|Ac<|Rt2 hm R [] R R R R) fun h6 hm=>Aj<|Ag tbk [] R R<|Ag tbk [] R R<|VW.jo hm (fun j (_:Unit)=>[(6,Iw j.1),(7,Iw j.2.1),(8,.bool j.2.2)]) (fun _ (_:Unit)=>[]) (fun o hm h8=>?_) fun j _ hm=> ?_
 ·refine Ag tbk [] R R<|A4<|Ag tbk [] R R<|Av hm R (fun h9 hm=>Bb<|Ab tbk [0] 2 R R<|Ad R R<|A1 hm 0 R fn180 R (K71 _) fun r hm=>Ab tbk [] 5 R R<|Ac<|Ar () hm (Ah [] R R)) fun h9 hm=>Ag tbk [] R R<|Av hm R (fun h11 hm=>Bb<|Ab tbk [0] 2 R R<|Ad R R<|A1 hm 0 R fn181 R (K72 _) fun r2 hm=>Ab tbk [] 5 R R<|Ac<|Ar () hm (Ah [] R R)) fun h11 hm=>Ag tbk [] R R<|Av hm R (fun h13 hm=>Bb<|Ab tbk [0] 2 R R<|Ad R R<|A1 hm 0 R fn158 R (K73 _) fun r3 hm=>Ab tbk [] 5 R R<|Ac<|Ar () hm (Ah [] R R)) fun h13 hm=>Ag tbk [] R R<|Av hm R (fun h15 hm=>?_) fun h15 hm=> ?_
  ·refine Af<|A3 0 mixed<|An tbk [1,2] [0] (by kernel_rfl) R R R<|Ai 0 (by kernel_rfl)<|Bd hm fun r4 h16 hm=>Ao R R R<|Aw 0 R fn49 R (K74 r4 h16) fun _ _ h20=> ?_
   obtain ⟨rfl,rfl⟩:=h20
   refine Ai 3 (by kernel_rfl)<|Bd hm fun r5 h17 hm=>Ao R R R<|Aw 0 R fn182 R (K75 r4 x.Text r5 h17) fun _ _ h19=> ?_
   obtain ⟨rfl,rfl⟩:=h19
   exact An tbk [4,5,6,7,8] [] (by kernel_rfl) R R R<|Ay (by kernel_rfl)<|Bb<|Ab tbk [] 2 R R<|Bx tbk [] 3 70 67 R R R R R<|Aa R R (Am R)<|Ac<|Ar () hm (Ah [] R R)
  refine Ag tbk [] R R<|Av hm R (fun h21 hm=>?_) fun h21 hm=> ?_
  ·refine A3 0 mixed<|An tbk [1,2] [0] (by kernel_rfl) R R R<|Ai 0 (by kernel_rfl)<|Bd hm fun r6 h22 hm=>Ao R R R<|Aw 0 R fn50 R (K76 r6 h22) fun _ _ h25=> ?_
   obtain ⟨rfl,rfl⟩:=h25
   refine Ai 3 (by kernel_rfl)<|Bd hm fun r7 h23 hm=>Ao R R R<|Aw 0 R fn182 R (K75 r6 x.Text r7 h23) fun _ _ h24=> ?_
   obtain ⟨rfl,rfl⟩:=h24
   exact An tbk [4,5,6,7,8] [] (by kernel_rfl) R R R<|Ay (by kernel_rfl)<|Ar () hm (Ah [] R R)
  exact Ae<|Ab tbk [0] 2 R R<|Aa R R (Cb nif9 R)<|Ab tbk [] 2 R R<|Ac<|have hm:=Lr hm h8;Rt2 hm R [] R R R R
 exact Af<|Ag tbk [] R R<|Av hm R (fun h26 hm=>Ae<|Aa R R (Di 0 .any)<|Aa R R (Am R)<|Ac<|Rt2 hm R [] R R R R) fun h26 hm=>Aj<|Ae<|Aa R R (Ak R)<|Aa R R (Cb nif3 R)<|Ab tbk [] 3 R R<|Ac<|Rt2 hm R [] R R R R

/-! trireme/spec.num -/
def spec_num (x : I_any20) : Option Int :=
 (V.grd (I_any20.is3 x)).bind fun u =>
 some (I_any20.as3 x)
theorem K78 (x : I_any20) : VS Tryz.prog 90 (spec_num x) [I_any20.vv x] [] Iw N0 := by
 refine A8 [.tmp 2] Tryz.func90 R R R fun r hm=>?_
 unfold spec_num at hm
 exact Ag tbk [] R R<|Ae<|Aa R R (Ak R)<|Bd hm fun u h1 hm=>Aa R R (VP.as (Dw nif3 R (I_any20_tp3 (V.grd_t h1)).1) (I_any20_tp3 (V.grd_t h1)).2)<|Aa R R (Am R)<|Ac<|Rt1 hm R [] R R R

/-! trireme/spec.amounts -/
def spec_amounts (x : List I_any20) : Option T_api_Res :=
 ((V.gl x (0 : Int)).bind fun x2 =>
 (V.gl x (1 : Int)).bind fun x3 =>
 (V.gl x (2 : Int)).bind fun x4 =>
 (spec_num x2).bind fun r3 =>
 (spec_num x3).bind fun r4 =>
 (spec_num x4).bind fun r5 =>
 some (⟨r3, r4, r5, 1, 0⟩ : T_api_Res)).bind fun r2 =>
 if ((x.length : Int) == 4) = true then
  (V.gl x (3 : Int)).bind fun x5 =>
  (spec_num x5).bind fun r12 =>
  some (⟨r2.Cpu, r2.Mem, r2.Disk, r2.Pods, r12⟩ : T_api_Res)
 else
  (V.gl x (3 : Int)).bind fun x6 =>
  (V.gl x (4 : Int)).bind fun x7 =>
  (spec_num x6).bind fun r13 =>
  (spec_num x7).bind fun r14 =>
  some (⟨r2.Cpu, r2.Mem, r2.Disk, r13, r14⟩ : T_api_Res)
theorem K79 (x : List I_any20) : VS Tryz.prog 128 (spec_amounts x) [L20 x] [] (fun r=>T_api_Res.vv r) N0 := by
 refine A8 [.cell 2 23] Tryz.func128 R R R fun r hm=>?_
 unfold spec_amounts at hm
 refine Ae<|Ad R R<|A9 z23 fun b=>Ac<|Ca hm (fun _ (gg:Nat)=>[(0,L20 x),(2,.ptr b 0),(3,.ptr gg 0)]) (fun r2 (gg:Nat)=>[X23 gg r2,X23 b (⟨(0 : Int),(0 : Int),(0 : Int),(0 : Int),(0 : Int)⟩ : T_api_Res)]) (fun o hm=>?_) fun r2 b2 hm=> ?_
 ·refine A3 0 mixed<|Au 0 R R R (by kernel_rfl) (Ak R)<|Bd hm fun x2 h5 hm=>Au 1 R R R (by kernel_rfl) (A2 I_any20.vv R R el81 h5)<|An tbk [2,4] [] (by kernel_rfl) R R R<|Bd hm fun x3 h6 hm=>Au 5 R R R (by kernel_rfl) (A2 I_any20.vv R R el81 h6)<|An tbk [6,8] [] (by kernel_rfl) R R R<|Bd hm fun x4 h7 hm=>Au 9 R R R (by kernel_rfl) (A2 I_any20.vv R R el81 h7)<|Au 10 R R R (by kernel_rfl) (Bn R ld20 R)<|?_
  refine B0 [3,13] (by kernel_rfl) ⟨?_,?_,trivial⟩
  ·refine Bd hm fun r3 h8 hm=>Ao R R R<|Aw 0 R fn90 R (K78 x2 r3 h8) fun _ _ h22=> ?_
   obtain ⟨rfl,rfl⟩:=h22
   refine B0 [7,13] (by kernel_rfl) ⟨?_,?_,trivial⟩
   ·refine Bd hm fun r4 h9 hm=>Ao R R R<|Aw 0 R fn90 R (K78 x3 r4 h9) fun _ _ h16=> ?_
    obtain ⟨rfl,rfl⟩:=h16
    refine B0 [11,13] (by kernel_rfl) ⟨?_,?_,trivial⟩
    ·refine Bd hm fun r5 h10 hm=>Ao R R R<|Aw 0 R fn90 R (K78 x4 r5 h10) fun _ _ h12=> ?_
     obtain ⟨rfl,rfl⟩:=h12
     exact Au 12 R R R (by kernel_rfl) (A5 pl23 R R)<|Ai 13 (by kernel_rfl)<|Ao R R R<|A9 z23 fun b3=>Ai 14 (by kernel_rfl)<|Ao R R R<|Al (i:=0) R R R ld23 R R R<|Ay (by kernel_rfl)<|As _ hm (Ah [0,1] R R)
    ·refine Ao R R R<|A9 z23 fun b4=>Ai 11 (by kernel_rfl)<|Bd hm fun r6 h14 hm=>Ao R R R<|Aw 0 R fn90 R (K78 x4 r6 h14) fun _ _ h15=> ?_
     obtain ⟨rfl,rfl⟩:=h15
     exact Au 12 R R R (by kernel_rfl) (A5 pl23 R R)<|Ai 14 (by kernel_rfl)<|Ao R R R<|Al (i:=0) R R R ld23 R R R<|Ay (by kernel_rfl)<|As _ hm (Ah [0,1] R R)
   ·refine Ao R R R<|A9 z23 fun b5=>Ai 7 (by kernel_rfl)<|Bd hm fun r7 h18 hm=>Ao R R R<|Aw 0 R fn90 R (K78 x3 r7 h18) fun _ _ h21=> ?_
    obtain ⟨rfl,rfl⟩:=h21
    refine Ai 11 (by kernel_rfl)<|Bd hm fun r8 h19 hm=>Ao R R R<|Aw 0 R fn90 R (K78 x4 r8 h19) fun _ _ h20=> ?_
    obtain ⟨rfl,rfl⟩:=h20
    exact Au 12 R R R (by kernel_rfl) (A5 pl23 R R)<|Ai 14 (by kernel_rfl)<|Ao R R R<|Al (i:=0) R R R ld23 R R R<|Ay (by kernel_rfl)<|As _ hm (Ah [0,1] R R)
  ·refine Ao R R R<|A9 z23 fun b6=>Ai 3 (by kernel_rfl)<|Bd hm fun r9 h24 hm=>Ao R R R<|Aw 0 R fn90 R (K78 x2 r9 h24) fun _ _ h29=> ?_
   obtain ⟨rfl,rfl⟩:=h29
   refine Ai 7 (by kernel_rfl)<|Bd hm fun r10 h25 hm=>Ao R R R<|Aw 0 R fn90 R (K78 x3 r10 h25) fun _ _ h28=> ?_
   obtain ⟨rfl,rfl⟩:=h28
   refine Ai 11 (by kernel_rfl)<|Bd hm fun r11 h26 hm=>Ao R R R<|Aw 0 R fn90 R (K78 x4 r11 h26) fun _ _ h27=> ?_
   obtain ⟨rfl,rfl⟩:=h27
   exact Au 12 R R R (by kernel_rfl) (A5 pl23 R R)<|Ai 14 (by kernel_rfl)<|Ao R R R<|Al (i:=0) R R R ld23 R R R<|Ay (by kernel_rfl)<|As _ hm (Ah [0,1] R R)
 refine Af<|Ae<|Aa R R (Ak R)<|Aa R R (Bg I_any20.vv R Dg)<|Aa R R (Bh R R R)<|Ac<|Av hm R (fun h30 hm=>Ae<|Aa R R (Ak R)<|Bd hm fun x5 h31 hm=>Aa R R (A2 I_any20.vv R R el81 h31)<|Aa R R (Bn R ld20 R)<|Ad R R<|A1 hm 0 R fn90 R (K78 _) fun r12 hm=>Aa R R (Cl R fa23_4)<|Ad R R<|Al (i:=0) R R R ld3 R R R<|Ac<|Ae<|Ab tbk [0] 1 R R<|Ad R R<|Al (i:=1) R R R ld23 R R R<|Ac<|Rt0 hm R [] (.cons (.cell _ _ _ _ 1 _ _ _ _ R R ld23 R) .nil) R R) fun h30 hm=>Aj<|Af<|A3 1 mixed<|Au 0 R R R (by kernel_rfl) (Ak R)<|Bd hm fun x6 h33 hm=>Au 1 R R R (by kernel_rfl) (A2 I_any20.vv R R el81 h33)<|An tbk [2,4] [] (by kernel_rfl) R R R<|Bd hm fun x7 h34 hm=>Au 5 R R R (by kernel_rfl) (A2 I_any20.vv R R el81 h34)<|Au 6 R R R (by kernel_rfl) (Bn R ld20 R)<|Ai 3 (by kernel_rfl)<|Bd hm fun r13 h35 hm=>Ao R R R<|Aw 0 R fn90 R (K78 x6 r13 h35) fun _ _ h38=> ?_
 obtain ⟨rfl,rfl⟩:=h38
 refine Au 8 R R R (by kernel_rfl) (Cl R fa23_3)<|Ai 7 (by kernel_rfl)<|Bd hm fun r14 h36 hm=>Ao R R R<|Aw 0 R fn90 R (K78 x7 r14 h36) fun _ _ h37=> ?_
 obtain ⟨rfl,rfl⟩:=h37
 exact Ai 9 (by kernel_rfl)<|Ao R R R<|Al (i:=0) R R R ld3 R R R<|Au 10 R R R (by kernel_rfl) (Cl R fa23_4)<|Ai 11 (by kernel_rfl)<|Ao R R R<|Al (i:=0) R R R ld3 R R R<|Ay (by kernel_rfl)<|Ae<|Ab tbk [0] 1 R R<|Ad R R<|Al (i:=1) R R R ld23 R R R<|Ac<|Rt0 hm R [] (.cons (.cell _ _ _ _ 1 _ _ _ _ R R ld23 R) .nil) R R

/-! trireme/spec.ofPod$1 -/
def spec_ofPod_1 (x : List I_any20) (x2 : T_api_Pod) : Option T_api_Pod :=
 (spec_amounts x).bind fun r =>
 some (⟨x2.Name, r, x2.Labels, x2.Select, x2.Terms, x2.Bears, x2.Ports, x2.Apart, x2.Wide, x2.Spread, x2.Skew, x2.Rank, x2.Owner, x2.Daemon, x2.Pinned, x2.Local⟩ : T_api_Pod)
theorem K80 (x : List I_any20) (x2 : T_api_Pod) (b : Nat) (b2 : Nat) (ob : Option Nat) (cap : Nat) (ob2 : Option Nat) (cap2 : Nat) (ob3 : Option Nat) (cap3 : Nat) (ob4 : Option Nat) (cap4 : Nat) (ob5 : Option Nat) (cap5 : Nat) (ob6 : Option Nat) (cap6 : Nat) (ob7 : Option Nat) (cap7 : Nat) : ∀ r : T_api_Pod, spec_ofPod_1 x x2 = some r → VC Tryz.prog 127 [L20 x, .ptr b 0] [.box b 98 [.ptr b2 0], .box b2 29 [.str x2.Name, Iw x2.Need.Cpu, Iw x2.Need.Mem, Iw x2.Need.Disk, Iw x2.Need.Pods, Iw x2.Need.Dev, Z141 ob x2.Labels cap, Z141 ob2 x2.Select cap2, Z73 ob3 x2.Terms cap3, Z83 ob4 x2.Bears cap4, Z3 ob5 x2.Ports cap5, Z141 ob6 x2.Apart cap6, .bool x2.Wide, Z141 ob7 x2.Spread cap7, Iw x2.Skew, Iw x2.Rank, .str x2.Owner, .bool x2.Daemon, .bool x2.Pinned, .bool x2.Local], Q141 ob cap x2.Labels, Q141 ob2 cap2 x2.Select, Q73 ob3 cap3 x2.Terms, Q83 ob4 cap4 x2.Bears, Q3 ob5 cap5 x2.Ports, Q141 ob6 cap6 x2.Apart, Q141 ob7 cap7 x2.Spread] fun zx zH => ∃ (ob1_6 : Option Nat) (cap1_6 : Nat) (ob1_7 : Option Nat) (cap1_7 : Nat) (ob1_8 : Option Nat) (cap1_8 : Nat) (ob1_9 : Option Nat) (cap1_9 : Nat) (ob1_10 : Option Nat) (cap1_10 : Nat) (ob1_11 : Option Nat) (cap1_11 : Nat) (ob1_13 : Option Nat) (cap1_13 : Nat), zx = .tup [] ∧ zH = [.box b 98 [.ptr b2 0], .box b2 29 [.str r.Name, Iw r.Need.Cpu, Iw r.Need.Mem, Iw r.Need.Disk, Iw r.Need.Pods, Iw r.Need.Dev, Z141 ob1_6 r.Labels cap1_6, Z141 ob1_7 r.Select cap1_7, Z73 ob1_8 r.Terms cap1_8, Z83 ob1_9 r.Bears cap1_9, Z3 ob1_10 r.Ports cap1_10, Z141 ob1_11 r.Apart cap1_11, .bool r.Wide, Z141 ob1_13 r.Spread cap1_13, Iw r.Skew, Iw r.Rank, .str r.Owner, .bool r.Daemon, .bool r.Pinned, .bool r.Local], Q141 ob1_6 cap1_6 r.Labels, Q141 ob1_7 cap1_7 r.Select, Q73 ob1_8 cap1_8 r.Terms, Q83 ob1_9 cap1_9 r.Bears, Q3 ob1_10 cap1_10 r.Ports, Q141 ob1_11 cap1_11 r.Apart, Q141 ob1_13 cap1_13 r.Spread] := by
 refine B2 [] Tryz.func127 R R R fun r hm=>?_
 unfold spec_ofPod_1 at hm
 refine Ba (A7 [1,0,2,3,4,5,6,7,8] R)<|A3 1 mixed<|An tbk [0,1] [0] (by kernel_rfl) R R R<|Ai 2 (by kernel_rfl)<|Ao R R R<|A1 hm 0 R fn128 R (K79 _) fun r hm=>An tbk [3,4] [] (by kernel_rfl) R R R<|Ai 5 (by kernel_rfl)<|Ao R R R<|Al (i:=0) R R R ld23 R R R<|Ay (by kernel_rfl)<|?_
 obtain rfl:=Option.some.inj hm
 exact ⟨.inr R,_,.nil,[1,0,2,3,4,5,6,7,8],_,R,ob,cap,ob2,cap2,ob3,cap3,ob4,cap4,ob5,cap5,ob6,cap6,ob7,cap7,R,R⟩

/-! trireme/spec.word -/
def spec_word (x : I_any20) : Option ByteArray :=
 (V.grd (I_any20.is9 x)).bind fun u =>
 some (I_any20.as9 x)
theorem K81 (x : I_any20) : VS Tryz.prog 131 (spec_word x) [I_any20.vv x] [] .str N0 := by
 refine A8 [.tmp 2] Tryz.func131 R R R fun r hm=>?_
 unfold spec_word at hm
 exact Ag tbk [] R R<|Ae<|Aa R R (Ak R)<|Bd hm fun u h1 hm=>Aa R R (VP.as (Dw nif9 R (I_any20_tp9 (V.grd_t h1)).1) (I_any20_tp9 (V.grd_t h1)).2)<|Aa R R (Am R)<|Ac<|Rt1 hm R [] R R R

/-! trireme/spec.pair$1 -/
def spec_pair_1 (x : List I_any20) (x2 : T_api_Pod) : Option T_api_Pod :=
 (V.gl x (0 : Int)).bind fun x3 =>
 (V.gl x (1 : Int)).bind fun x4 =>
 (spec_word x3).bind fun r =>
 (spec_word x4).bind fun r2 =>
 (V.ap 32 x2.Labels [(⟨r, r2⟩ : T_api_Label)]).bind fun l =>
 some (⟨x2.Name, x2.Need, l, x2.Select, x2.Terms, x2.Bears, x2.Ports, x2.Apart, x2.Wide, x2.Spread, x2.Skew, x2.Rank, x2.Owner, x2.Daemon, x2.Pinned, x2.Local⟩ : T_api_Pod)
theorem K82 (x : List I_any20) (x2 : T_api_Pod) (b : Nat) (b2 : Nat) (ob : Option Nat) (cap : Nat) (ob2 : Option Nat) (cap2 : Nat) (ob3 : Option Nat) (cap3 : Nat) (ob4 : Option Nat) (cap4 : Nat) (ob5 : Option Nat) (cap5 : Nat) (ob6 : Option Nat) (cap6 : Nat) (ob7 : Option Nat) (cap7 : Nat) : ∀ r : T_api_Pod, spec_pair_1 x x2 = some r → VC Tryz.prog 166 [L20 x, .ptr b 0] [.box b 169 [.ptr b2 6], .box b2 29 [.str x2.Name, Iw x2.Need.Cpu, Iw x2.Need.Mem, Iw x2.Need.Disk, Iw x2.Need.Pods, Iw x2.Need.Dev, Z141 ob x2.Labels cap, Z141 ob2 x2.Select cap2, Z73 ob3 x2.Terms cap3, Z83 ob4 x2.Bears cap4, Z3 ob5 x2.Ports cap5, Z141 ob6 x2.Apart cap6, .bool x2.Wide, Z141 ob7 x2.Spread cap7, Iw x2.Skew, Iw x2.Rank, .str x2.Owner, .bool x2.Daemon, .bool x2.Pinned, .bool x2.Local], Q141 ob cap x2.Labels, Q141 ob2 cap2 x2.Select, Q73 ob3 cap3 x2.Terms, Q83 ob4 cap4 x2.Bears, Q3 ob5 cap5 x2.Ports, Q141 ob6 cap6 x2.Apart, Q141 ob7 cap7 x2.Spread] fun zx zH => ∃ (ob1_6 : Option Nat) (cap1_6 : Nat) (ob1_7 : Option Nat) (cap1_7 : Nat) (ob1_8 : Option Nat) (cap1_8 : Nat) (ob1_9 : Option Nat) (cap1_9 : Nat) (ob1_10 : Option Nat) (cap1_10 : Nat) (ob1_11 : Option Nat) (cap1_11 : Nat) (ob1_13 : Option Nat) (cap1_13 : Nat), zx = .tup [] ∧ zH = [.box b 169 [.ptr b2 6], .box b2 29 [.str r.Name, Iw r.Need.Cpu, Iw r.Need.Mem, Iw r.Need.Disk, Iw r.Need.Pods, Iw r.Need.Dev, Z141 ob1_6 r.Labels cap1_6, Z141 ob1_7 r.Select cap1_7, Z73 ob1_8 r.Terms cap1_8, Z83 ob1_9 r.Bears cap1_9, Z3 ob1_10 r.Ports cap1_10, Z141 ob1_11 r.Apart cap1_11, .bool r.Wide, Z141 ob1_13 r.Spread cap1_13, Iw r.Skew, Iw r.Rank, .str r.Owner, .bool r.Daemon, .bool r.Pinned, .bool r.Local], Q141 ob1_6 cap1_6 r.Labels, Q141 ob1_7 cap1_7 r.Select, Q73 ob1_8 cap1_8 r.Terms, Q83 ob1_9 cap1_9 r.Bears, Q3 ob1_10 cap1_10 r.Ports, Q141 ob1_11 cap1_11 r.Apart, Q141 ob1_13 cap1_13 r.Spread] := by
 refine B2 [] C7 R R R fun r hm=>?_
 unfold spec_pair_1 at hm
 refine Ba (A7 [1,2,0,3,4,5,6,7,8] R)<|A3 2 mixed<|An tbk [0,1,2,4] [0,0] (by kernel_rfl) R R R<|Bd hm fun x3 h1 hm=>Au 5 R R R (by kernel_rfl) (A2 I_any20.vv R R el81 h1)<|An tbk [6,8] [] (by kernel_rfl) R R R<|Bd hm fun x4 h2 hm=>Au 9 R R R (by kernel_rfl) (A2 I_any20.vv R R el81 h2)<|Au 10 R R R (by kernel_rfl) (Bn R ld20 R)<|?_
 refine B0 [3,7] (by kernel_rfl) ⟨?_,?_,trivial⟩
 ·refine Ao R R R<|B4 (Bq (i:=0) R R ld24 R)<|Ai 7 (by kernel_rfl)<|Bd hm fun r h3 hm=>Ao R R R<|Aw 0 R fn131 R (K81 x3 r h3) fun _ _ h8=> ?_
  obtain ⟨rfl,rfl⟩:=h8
  refine Ai 11 (by kernel_rfl)<|Bd hm fun r2 h4 hm=>Ao R R R<|Aw 0 R fn131 R (K81 x4 r2 h4) fun _ _ h7=> ?_
  obtain ⟨rfl,rfl⟩:=h7
  refine Au 12 R R R (by kernel_rfl) (A5 pl141 R R)<|Ai 13 (by kernel_rfl)<|Ao R R R<|Ax ap24 R R R R R fun b3=>Ai 14 (by kernel_rfl)<|Bd hm fun l h6 hm=>Ao R R R<|Bs 2 T_api_Label.vv (l:=x2.Labels) (l2:=[(⟨r,r2⟩ : T_api_Label)]) ap24 R R (sT_row 0 T_api_Label.vv el24 R R) h6 fun ob8 cap8=>Au 15 R R R (by kernel_rfl) (Bw R)<|Ai 16 (by kernel_rfl)<|Ao R R R<|Al (i:=1) R R R ld24 R R R<|Ay (by kernel_rfl)<|?_
  obtain rfl:=Option.some.inj hm
  exact ⟨.inr R,_,.nil,[3,1,2,4,5,6,7,8,9],_,R,ob8,cap8,ob2,cap2,ob3,cap3,ob4,cap4,ob5,cap5,ob6,cap6,ob7,cap7,R,R⟩
 ·refine Bd hm fun r3 h9 hm=>Ao R R R<|Aw 0 R fn131 R (K81 x3 r3 h9) fun _ _ h20=> ?_
  obtain ⟨rfl,rfl⟩:=h20
  refine B0 [3,11] (by kernel_rfl) ⟨?_,?_,trivial⟩
  ·refine Ao R R R<|B4 (Bq (i:=0) R R ld24 R)<|Ai 11 (by kernel_rfl)<|Bd hm fun r4 h10 hm=>Ao R R R<|Aw 0 R fn131 R (K81 x4 r4 h10) fun _ _ h13=> ?_
   obtain ⟨rfl,rfl⟩:=h13
   refine Au 12 R R R (by kernel_rfl) (A5 pl141 R R)<|Ai 13 (by kernel_rfl)<|Ao R R R<|Ax ap24 R R R R R fun b4=>Ai 14 (by kernel_rfl)<|Bd hm fun l2 h12 hm=>Ao R R R<|Bs 2 T_api_Label.vv (l:=x2.Labels) (l2:=[(⟨r3,r4⟩ : T_api_Label)]) ap24 R R (sT_row 0 T_api_Label.vv el24 R R) h12 fun ob9 cap9=>Au 15 R R R (by kernel_rfl) (Bw R)<|Ai 16 (by kernel_rfl)<|Ao R R R<|Al (i:=1) R R R ld24 R R R<|Ay (by kernel_rfl)<|?_
   obtain rfl:=Option.some.inj hm
   exact ⟨.inr R,_,.nil,[3,1,2,4,5,6,7,8,9],_,R,ob9,cap9,ob2,cap2,ob3,cap3,ob4,cap4,ob5,cap5,ob6,cap6,ob7,cap7,R,R⟩
  ·refine Bd hm fun r5 h14 hm=>Ao R R R<|Aw 0 R fn131 R (K81 x4 r5 h14) fun _ _ h19=> ?_
   obtain ⟨rfl,rfl⟩:=h19
   refine Au 12 R R R (by kernel_rfl) (A5 pl141 R R)<|?_
   refine B0 [3,13] (by kernel_rfl) ⟨?_,?_,trivial⟩
   ·refine Ao R R R<|B4 (Bq (i:=0) R R ld24 R)<|Ai 13 (by kernel_rfl)<|Ao R R R<|Ax ap24 R R R R R fun b5=>Ai 14 (by kernel_rfl)<|Bd hm fun l3 h16 hm=>Ao R R R<|Bs 2 T_api_Label.vv (l:=x2.Labels) (l2:=[(⟨r3,r5⟩ : T_api_Label)]) ap24 R R (sT_row 0 T_api_Label.vv el24 R R) h16 fun ob10 cap10=>Au 15 R R R (by kernel_rfl) (Bw R)<|Ai 16 (by kernel_rfl)<|Ao R R R<|Al (i:=1) R R R ld24 R R R<|Ay (by kernel_rfl)<|?_
    obtain rfl:=Option.some.inj hm
    exact ⟨.inr R,_,.nil,[3,1,2,4,5,6,7,8,9],_,R,ob10,cap10,ob2,cap2,ob3,cap3,ob4,cap4,ob5,cap5,ob6,cap6,ob7,cap7,R,R⟩
   ·refine Ao R R R<|Ax ap24 R R R R R fun b6=>Ai 3 (by kernel_rfl)<|Ao R R R<|B4 (Bq (i:=1) R R ld24 R)<|Ai 14 (by kernel_rfl)<|Bd hm fun l4 h18 hm=>Ao R R R<|Bs 2 T_api_Label.vv (l:=x2.Labels) (l2:=[(⟨r3,r5⟩ : T_api_Label)]) ap24 R R (sT_row 0 T_api_Label.vv el24 R R) h18 fun ob11 cap11=>Au 15 R R R (by kernel_rfl) (Bw R)<|Ai 16 (by kernel_rfl)<|Ao R R R<|Al (i:=1) R R R ld24 R R R<|Ay (by kernel_rfl)<|?_
    obtain rfl:=Option.some.inj hm
    exact ⟨.inr R,_,.nil,[3,1,2,4,5,6,7,8,9],_,R,ob11,cap11,ob2,cap2,ob3,cap3,ob4,cap4,ob5,cap5,ob6,cap6,ob7,cap7,R,R⟩

/-! trireme/spec.pair$1 -/
def spec_pair_1_x (x : List I_any20) (x2 : T_api_Pod) : Option T_api_Pod :=
 (V.gl x (0 : Int)).bind fun x3 =>
 (V.gl x (1 : Int)).bind fun x4 =>
 (spec_word x3).bind fun r =>
 (spec_word x4).bind fun r2 =>
 (V.ap 32 x2.Select [(⟨r, r2⟩ : T_api_Label)]).bind fun l =>
 some (⟨x2.Name, x2.Need, x2.Labels, l, x2.Terms, x2.Bears, x2.Ports, x2.Apart, x2.Wide, x2.Spread, x2.Skew, x2.Rank, x2.Owner, x2.Daemon, x2.Pinned, x2.Local⟩ : T_api_Pod)
theorem K83 (x : List I_any20) (x2 : T_api_Pod) (b : Nat) (b2 : Nat) (ob : Option Nat) (cap : Nat) (ob2 : Option Nat) (cap2 : Nat) (ob3 : Option Nat) (cap3 : Nat) (ob4 : Option Nat) (cap4 : Nat) (ob5 : Option Nat) (cap5 : Nat) (ob6 : Option Nat) (cap6 : Nat) (ob7 : Option Nat) (cap7 : Nat) : ∀ r : T_api_Pod, spec_pair_1_x x x2 = some r → VC Tryz.prog 166 [L20 x, .ptr b 0] [.box b 169 [.ptr b2 7], .box b2 29 [.str x2.Name, Iw x2.Need.Cpu, Iw x2.Need.Mem, Iw x2.Need.Disk, Iw x2.Need.Pods, Iw x2.Need.Dev, Z141 ob x2.Labels cap, Z141 ob2 x2.Select cap2, Z73 ob3 x2.Terms cap3, Z83 ob4 x2.Bears cap4, Z3 ob5 x2.Ports cap5, Z141 ob6 x2.Apart cap6, .bool x2.Wide, Z141 ob7 x2.Spread cap7, Iw x2.Skew, Iw x2.Rank, .str x2.Owner, .bool x2.Daemon, .bool x2.Pinned, .bool x2.Local], Q141 ob cap x2.Labels, Q141 ob2 cap2 x2.Select, Q73 ob3 cap3 x2.Terms, Q83 ob4 cap4 x2.Bears, Q3 ob5 cap5 x2.Ports, Q141 ob6 cap6 x2.Apart, Q141 ob7 cap7 x2.Spread] fun zx zH => ∃ (ob1_6 : Option Nat) (cap1_6 : Nat) (ob1_7 : Option Nat) (cap1_7 : Nat) (ob1_8 : Option Nat) (cap1_8 : Nat) (ob1_9 : Option Nat) (cap1_9 : Nat) (ob1_10 : Option Nat) (cap1_10 : Nat) (ob1_11 : Option Nat) (cap1_11 : Nat) (ob1_13 : Option Nat) (cap1_13 : Nat), zx = .tup [] ∧ zH = [.box b 169 [.ptr b2 7], .box b2 29 [.str r.Name, Iw r.Need.Cpu, Iw r.Need.Mem, Iw r.Need.Disk, Iw r.Need.Pods, Iw r.Need.Dev, Z141 ob1_6 r.Labels cap1_6, Z141 ob1_7 r.Select cap1_7, Z73 ob1_8 r.Terms cap1_8, Z83 ob1_9 r.Bears cap1_9, Z3 ob1_10 r.Ports cap1_10, Z141 ob1_11 r.Apart cap1_11, .bool r.Wide, Z141 ob1_13 r.Spread cap1_13, Iw r.Skew, Iw r.Rank, .str r.Owner, .bool r.Daemon, .bool r.Pinned, .bool r.Local], Q141 ob1_6 cap1_6 r.Labels, Q141 ob1_7 cap1_7 r.Select, Q73 ob1_8 cap1_8 r.Terms, Q83 ob1_9 cap1_9 r.Bears, Q3 ob1_10 cap1_10 r.Ports, Q141 ob1_11 cap1_11 r.Apart, Q141 ob1_13 cap1_13 r.Spread] := by
 refine B2 [] C7 R R R fun r hm=>?_
 unfold spec_pair_1_x at hm
 refine Ba (A7 [1,3,0,2,4,5,6,7,8] R)<|A3 2 mixed<|An tbk [0,1,2,4] [0,0] (by kernel_rfl) R R R<|Bd hm fun x3 h1 hm=>Au 5 R R R (by kernel_rfl) (A2 I_any20.vv R R el81 h1)<|An tbk [6,8] [] (by kernel_rfl) R R R<|Bd hm fun x4 h2 hm=>Au 9 R R R (by kernel_rfl) (A2 I_any20.vv R R el81 h2)<|Au 10 R R R (by kernel_rfl) (Bn R ld20 R)<|?_
 refine B0 [3,7] (by kernel_rfl) ⟨?_,?_,trivial⟩
 ·refine Ao R R R<|B4 (Bq (i:=0) R R ld24 R)<|Ai 7 (by kernel_rfl)<|Bd hm fun r h3 hm=>Ao R R R<|Aw 0 R fn131 R (K81 x3 r h3) fun _ _ h8=> ?_
  obtain ⟨rfl,rfl⟩:=h8
  refine Ai 11 (by kernel_rfl)<|Bd hm fun r2 h4 hm=>Ao R R R<|Aw 0 R fn131 R (K81 x4 r2 h4) fun _ _ h7=> ?_
  obtain ⟨rfl,rfl⟩:=h7
  refine Au 12 R R R (by kernel_rfl) (A5 pl141 R R)<|Ai 13 (by kernel_rfl)<|Ao R R R<|Ax ap24 R R R R R fun b3=>Ai 14 (by kernel_rfl)<|Bd hm fun l h6 hm=>Ao R R R<|Bs 2 T_api_Label.vv (l:=x2.Select) (l2:=[(⟨r,r2⟩ : T_api_Label)]) ap24 R R (sT_row 0 T_api_Label.vv el24 R R) h6 fun ob8 cap8=>Au 15 R R R (by kernel_rfl) (Bw R)<|Ai 16 (by kernel_rfl)<|Ao R R R<|Al (i:=1) R R R ld24 R R R<|Ay (by kernel_rfl)<|?_
  obtain rfl:=Option.some.inj hm
  exact ⟨.inr R,_,.nil,[3,1,4,2,5,6,7,8,9],_,R,ob,cap,ob8,cap8,ob3,cap3,ob4,cap4,ob5,cap5,ob6,cap6,ob7,cap7,R,R⟩
 ·refine Bd hm fun r3 h9 hm=>Ao R R R<|Aw 0 R fn131 R (K81 x3 r3 h9) fun _ _ h20=> ?_
  obtain ⟨rfl,rfl⟩:=h20
  refine B0 [3,11] (by kernel_rfl) ⟨?_,?_,trivial⟩
  ·refine Ao R R R<|B4 (Bq (i:=0) R R ld24 R)<|Ai 11 (by kernel_rfl)<|Bd hm fun r4 h10 hm=>Ao R R R<|Aw 0 R fn131 R (K81 x4 r4 h10) fun _ _ h13=> ?_
   obtain ⟨rfl,rfl⟩:=h13
   refine Au 12 R R R (by kernel_rfl) (A5 pl141 R R)<|Ai 13 (by kernel_rfl)<|Ao R R R<|Ax ap24 R R R R R fun b4=>Ai 14 (by kernel_rfl)<|Bd hm fun l2 h12 hm=>Ao R R R<|Bs 2 T_api_Label.vv (l:=x2.Select) (l2:=[(⟨r3,r4⟩ : T_api_Label)]) ap24 R R (sT_row 0 T_api_Label.vv el24 R R) h12 fun ob9 cap9=>Au 15 R R R (by kernel_rfl) (Bw R)<|Ai 16 (by kernel_rfl)<|Ao R R R<|Al (i:=1) R R R ld24 R R R<|Ay (by kernel_rfl)<|?_
   obtain rfl:=Option.some.inj hm
   exact ⟨.inr R,_,.nil,[3,1,4,2,5,6,7,8,9],_,R,ob,cap,ob9,cap9,ob3,cap3,ob4,cap4,ob5,cap5,ob6,cap6,ob7,cap7,R,R⟩
  ·refine Bd hm fun r5 h14 hm=>Ao R R R<|Aw 0 R fn131 R (K81 x4 r5 h14) fun _ _ h19=> ?_
   obtain ⟨rfl,rfl⟩:=h19
   refine Au 12 R R R (by kernel_rfl) (A5 pl141 R R)<|?_
   refine B0 [3,13] (by kernel_rfl) ⟨?_,?_,trivial⟩
   ·refine Ao R R R<|B4 (Bq (i:=0) R R ld24 R)<|Ai 13 (by kernel_rfl)<|Ao R R R<|Ax ap24 R R R R R fun b5=>Ai 14 (by kernel_rfl)<|Bd hm fun l3 h16 hm=>Ao R R R<|Bs 2 T_api_Label.vv (l:=x2.Select) (l2:=[(⟨r3,r5⟩ : T_api_Label)]) ap24 R R (sT_row 0 T_api_Label.vv el24 R R) h16 fun ob10 cap10=>Au 15 R R R (by kernel_rfl) (Bw R)<|Ai 16 (by kernel_rfl)<|Ao R R R<|Al (i:=1) R R R ld24 R R R<|Ay (by kernel_rfl)<|?_
    obtain rfl:=Option.some.inj hm
    exact ⟨.inr R,_,.nil,[3,1,4,2,5,6,7,8,9],_,R,ob,cap,ob10,cap10,ob3,cap3,ob4,cap4,ob5,cap5,ob6,cap6,ob7,cap7,R,R⟩
   ·refine Ao R R R<|Ax ap24 R R R R R fun b6=>Ai 3 (by kernel_rfl)<|Ao R R R<|B4 (Bq (i:=1) R R ld24 R)<|Ai 14 (by kernel_rfl)<|Bd hm fun l4 h18 hm=>Ao R R R<|Bs 2 T_api_Label.vv (l:=x2.Select) (l2:=[(⟨r3,r5⟩ : T_api_Label)]) ap24 R R (sT_row 0 T_api_Label.vv el24 R R) h18 fun ob11 cap11=>Au 15 R R R (by kernel_rfl) (Bw R)<|Ai 16 (by kernel_rfl)<|Ao R R R<|Al (i:=1) R R R ld24 R R R<|Ay (by kernel_rfl)<|?_
    obtain rfl:=Option.some.inj hm
    exact ⟨.inr R,_,.nil,[3,1,4,2,5,6,7,8,9],_,R,ob,cap,ob11,cap11,ob3,cap3,ob4,cap4,ob5,cap5,ob6,cap6,ob7,cap7,R,R⟩

/-! trireme/spec.pair$1 -/
def spec_pair_1_x_x (x : List I_any20) (x2 : T_api_Pod) : Option T_api_Pod :=
 (V.gl x (0 : Int)).bind fun x3 =>
 (V.gl x (1 : Int)).bind fun x4 =>
 (spec_word x3).bind fun r =>
 (spec_word x4).bind fun r2 =>
 (V.ap 32 x2.Apart [(⟨r, r2⟩ : T_api_Label)]).bind fun l =>
 some (⟨x2.Name, x2.Need, x2.Labels, x2.Select, x2.Terms, x2.Bears, x2.Ports, l, x2.Wide, x2.Spread, x2.Skew, x2.Rank, x2.Owner, x2.Daemon, x2.Pinned, x2.Local⟩ : T_api_Pod)
theorem K84 (x : List I_any20) (x2 : T_api_Pod) (b : Nat) (b2 : Nat) (ob : Option Nat) (cap : Nat) (ob2 : Option Nat) (cap2 : Nat) (ob3 : Option Nat) (cap3 : Nat) (ob4 : Option Nat) (cap4 : Nat) (ob5 : Option Nat) (cap5 : Nat) (ob6 : Option Nat) (cap6 : Nat) (ob7 : Option Nat) (cap7 : Nat) : ∀ r : T_api_Pod, spec_pair_1_x_x x x2 = some r → VC Tryz.prog 166 [L20 x, .ptr b 0] [.box b 169 [.ptr b2 11], .box b2 29 [.str x2.Name, Iw x2.Need.Cpu, Iw x2.Need.Mem, Iw x2.Need.Disk, Iw x2.Need.Pods, Iw x2.Need.Dev, Z141 ob x2.Labels cap, Z141 ob2 x2.Select cap2, Z73 ob3 x2.Terms cap3, Z83 ob4 x2.Bears cap4, Z3 ob5 x2.Ports cap5, Z141 ob6 x2.Apart cap6, .bool x2.Wide, Z141 ob7 x2.Spread cap7, Iw x2.Skew, Iw x2.Rank, .str x2.Owner, .bool x2.Daemon, .bool x2.Pinned, .bool x2.Local], Q141 ob cap x2.Labels, Q141 ob2 cap2 x2.Select, Q73 ob3 cap3 x2.Terms, Q83 ob4 cap4 x2.Bears, Q3 ob5 cap5 x2.Ports, Q141 ob6 cap6 x2.Apart, Q141 ob7 cap7 x2.Spread] fun zx zH => ∃ (ob1_6 : Option Nat) (cap1_6 : Nat) (ob1_7 : Option Nat) (cap1_7 : Nat) (ob1_8 : Option Nat) (cap1_8 : Nat) (ob1_9 : Option Nat) (cap1_9 : Nat) (ob1_10 : Option Nat) (cap1_10 : Nat) (ob1_11 : Option Nat) (cap1_11 : Nat) (ob1_13 : Option Nat) (cap1_13 : Nat), zx = .tup [] ∧ zH = [.box b 169 [.ptr b2 11], .box b2 29 [.str r.Name, Iw r.Need.Cpu, Iw r.Need.Mem, Iw r.Need.Disk, Iw r.Need.Pods, Iw r.Need.Dev, Z141 ob1_6 r.Labels cap1_6, Z141 ob1_7 r.Select cap1_7, Z73 ob1_8 r.Terms cap1_8, Z83 ob1_9 r.Bears cap1_9, Z3 ob1_10 r.Ports cap1_10, Z141 ob1_11 r.Apart cap1_11, .bool r.Wide, Z141 ob1_13 r.Spread cap1_13, Iw r.Skew, Iw r.Rank, .str r.Owner, .bool r.Daemon, .bool r.Pinned, .bool r.Local], Q141 ob1_6 cap1_6 r.Labels, Q141 ob1_7 cap1_7 r.Select, Q73 ob1_8 cap1_8 r.Terms, Q83 ob1_9 cap1_9 r.Bears, Q3 ob1_10 cap1_10 r.Ports, Q141 ob1_11 cap1_11 r.Apart, Q141 ob1_13 cap1_13 r.Spread] := by
 refine B2 [] C7 R R R fun r hm=>?_
 unfold spec_pair_1_x_x at hm
 refine Ba (A7 [1,7,0,2,3,4,5,6,8] R)<|A3 2 mixed<|An tbk [0,1,2,4] [0,0] (by kernel_rfl) R R R<|Bd hm fun x3 h1 hm=>Au 5 R R R (by kernel_rfl) (A2 I_any20.vv R R el81 h1)<|An tbk [6,8] [] (by kernel_rfl) R R R<|Bd hm fun x4 h2 hm=>Au 9 R R R (by kernel_rfl) (A2 I_any20.vv R R el81 h2)<|Au 10 R R R (by kernel_rfl) (Bn R ld20 R)<|?_
 refine B0 [3,7] (by kernel_rfl) ⟨?_,?_,trivial⟩
 ·refine Ao R R R<|B4 (Bq (i:=0) R R ld24 R)<|Ai 7 (by kernel_rfl)<|Bd hm fun r h3 hm=>Ao R R R<|Aw 0 R fn131 R (K81 x3 r h3) fun _ _ h8=> ?_
  obtain ⟨rfl,rfl⟩:=h8
  refine Ai 11 (by kernel_rfl)<|Bd hm fun r2 h4 hm=>Ao R R R<|Aw 0 R fn131 R (K81 x4 r2 h4) fun _ _ h7=> ?_
  obtain ⟨rfl,rfl⟩:=h7
  refine Au 12 R R R (by kernel_rfl) (A5 pl141 R R)<|Ai 13 (by kernel_rfl)<|Ao R R R<|Ax ap24 R R R R R fun b3=>Ai 14 (by kernel_rfl)<|Bd hm fun l h6 hm=>Ao R R R<|Bs 2 T_api_Label.vv (l:=x2.Apart) (l2:=[(⟨r,r2⟩ : T_api_Label)]) ap24 R R (sT_row 0 T_api_Label.vv el24 R R) h6 fun ob8 cap8=>Au 15 R R R (by kernel_rfl) (Bw R)<|Ai 16 (by kernel_rfl)<|Ao R R R<|Al (i:=1) R R R ld24 R R R<|Ay (by kernel_rfl)<|?_
  obtain rfl:=Option.some.inj hm
  exact ⟨.inr R,_,.nil,[3,1,4,5,6,7,8,2,9],_,R,ob,cap,ob2,cap2,ob3,cap3,ob4,cap4,ob5,cap5,ob8,cap8,ob7,cap7,R,R⟩
 ·refine Bd hm fun r3 h9 hm=>Ao R R R<|Aw 0 R fn131 R (K81 x3 r3 h9) fun _ _ h20=> ?_
  obtain ⟨rfl,rfl⟩:=h20
  refine B0 [3,11] (by kernel_rfl) ⟨?_,?_,trivial⟩
  ·refine Ao R R R<|B4 (Bq (i:=0) R R ld24 R)<|Ai 11 (by kernel_rfl)<|Bd hm fun r4 h10 hm=>Ao R R R<|Aw 0 R fn131 R (K81 x4 r4 h10) fun _ _ h13=> ?_
   obtain ⟨rfl,rfl⟩:=h13
   refine Au 12 R R R (by kernel_rfl) (A5 pl141 R R)<|Ai 13 (by kernel_rfl)<|Ao R R R<|Ax ap24 R R R R R fun b4=>Ai 14 (by kernel_rfl)<|Bd hm fun l2 h12 hm=>Ao R R R<|Bs 2 T_api_Label.vv (l:=x2.Apart) (l2:=[(⟨r3,r4⟩ : T_api_Label)]) ap24 R R (sT_row 0 T_api_Label.vv el24 R R) h12 fun ob9 cap9=>Au 15 R R R (by kernel_rfl) (Bw R)<|Ai 16 (by kernel_rfl)<|Ao R R R<|Al (i:=1) R R R ld24 R R R<|Ay (by kernel_rfl)<|?_
   obtain rfl:=Option.some.inj hm
   exact ⟨.inr R,_,.nil,[3,1,4,5,6,7,8,2,9],_,R,ob,cap,ob2,cap2,ob3,cap3,ob4,cap4,ob5,cap5,ob9,cap9,ob7,cap7,R,R⟩
  ·refine Bd hm fun r5 h14 hm=>Ao R R R<|Aw 0 R fn131 R (K81 x4 r5 h14) fun _ _ h19=> ?_
   obtain ⟨rfl,rfl⟩:=h19
   refine Au 12 R R R (by kernel_rfl) (A5 pl141 R R)<|?_
   refine B0 [3,13] (by kernel_rfl) ⟨?_,?_,trivial⟩
   ·refine Ao R R R<|B4 (Bq (i:=0) R R ld24 R)<|Ai 13 (by kernel_rfl)<|Ao R R R<|Ax ap24 R R R R R fun b5=>Ai 14 (by kernel_rfl)<|Bd hm fun l3 h16 hm=>Ao R R R<|Bs 2 T_api_Label.vv (l:=x2.Apart) (l2:=[(⟨r3,r5⟩ : T_api_Label)]) ap24 R R (sT_row 0 T_api_Label.vv el24 R R) h16 fun ob10 cap10=>Au 15 R R R (by kernel_rfl) (Bw R)<|Ai 16 (by kernel_rfl)<|Ao R R R<|Al (i:=1) R R R ld24 R R R<|Ay (by kernel_rfl)<|?_
    obtain rfl:=Option.some.inj hm
    exact ⟨.inr R,_,.nil,[3,1,4,5,6,7,8,2,9],_,R,ob,cap,ob2,cap2,ob3,cap3,ob4,cap4,ob5,cap5,ob10,cap10,ob7,cap7,R,R⟩
   ·refine Ao R R R<|Ax ap24 R R R R R fun b6=>Ai 3 (by kernel_rfl)<|Ao R R R<|B4 (Bq (i:=1) R R ld24 R)<|Ai 14 (by kernel_rfl)<|Bd hm fun l4 h18 hm=>Ao R R R<|Bs 2 T_api_Label.vv (l:=x2.Apart) (l2:=[(⟨r3,r5⟩ : T_api_Label)]) ap24 R R (sT_row 0 T_api_Label.vv el24 R R) h18 fun ob11 cap11=>Au 15 R R R (by kernel_rfl) (Bw R)<|Ai 16 (by kernel_rfl)<|Ao R R R<|Al (i:=1) R R R ld24 R R R<|Ay (by kernel_rfl)<|?_
    obtain rfl:=Option.some.inj hm
    exact ⟨.inr R,_,.nil,[3,1,4,5,6,7,8,2,9],_,R,ob,cap,ob2,cap2,ob3,cap3,ob4,cap4,ob5,cap5,ob11,cap11,ob7,cap7,R,R⟩

/-! trireme/spec.pair$1 -/
def spec_pair_1_x_x_x (x : List I_any20) (x2 : T_api_Pod) : Option T_api_Pod :=
 (V.gl x (0 : Int)).bind fun x3 =>
 (V.gl x (1 : Int)).bind fun x4 =>
 (spec_word x3).bind fun r =>
 (spec_word x4).bind fun r2 =>
 (V.ap 32 x2.Spread [(⟨r, r2⟩ : T_api_Label)]).bind fun l =>
 some (⟨x2.Name, x2.Need, x2.Labels, x2.Select, x2.Terms, x2.Bears, x2.Ports, x2.Apart, x2.Wide, l, x2.Skew, x2.Rank, x2.Owner, x2.Daemon, x2.Pinned, x2.Local⟩ : T_api_Pod)
theorem K85 (x : List I_any20) (x2 : T_api_Pod) (b : Nat) (b2 : Nat) (ob : Option Nat) (cap : Nat) (ob2 : Option Nat) (cap2 : Nat) (ob3 : Option Nat) (cap3 : Nat) (ob4 : Option Nat) (cap4 : Nat) (ob5 : Option Nat) (cap5 : Nat) (ob6 : Option Nat) (cap6 : Nat) (ob7 : Option Nat) (cap7 : Nat) : ∀ r : T_api_Pod, spec_pair_1_x_x_x x x2 = some r → VC Tryz.prog 166 [L20 x, .ptr b 0] [.box b 169 [.ptr b2 13], .box b2 29 [.str x2.Name, Iw x2.Need.Cpu, Iw x2.Need.Mem, Iw x2.Need.Disk, Iw x2.Need.Pods, Iw x2.Need.Dev, Z141 ob x2.Labels cap, Z141 ob2 x2.Select cap2, Z73 ob3 x2.Terms cap3, Z83 ob4 x2.Bears cap4, Z3 ob5 x2.Ports cap5, Z141 ob6 x2.Apart cap6, .bool x2.Wide, Z141 ob7 x2.Spread cap7, Iw x2.Skew, Iw x2.Rank, .str x2.Owner, .bool x2.Daemon, .bool x2.Pinned, .bool x2.Local], Q141 ob cap x2.Labels, Q141 ob2 cap2 x2.Select, Q73 ob3 cap3 x2.Terms, Q83 ob4 cap4 x2.Bears, Q3 ob5 cap5 x2.Ports, Q141 ob6 cap6 x2.Apart, Q141 ob7 cap7 x2.Spread] fun zx zH => ∃ (ob1_6 : Option Nat) (cap1_6 : Nat) (ob1_7 : Option Nat) (cap1_7 : Nat) (ob1_8 : Option Nat) (cap1_8 : Nat) (ob1_9 : Option Nat) (cap1_9 : Nat) (ob1_10 : Option Nat) (cap1_10 : Nat) (ob1_11 : Option Nat) (cap1_11 : Nat) (ob1_13 : Option Nat) (cap1_13 : Nat), zx = .tup [] ∧ zH = [.box b 169 [.ptr b2 13], .box b2 29 [.str r.Name, Iw r.Need.Cpu, Iw r.Need.Mem, Iw r.Need.Disk, Iw r.Need.Pods, Iw r.Need.Dev, Z141 ob1_6 r.Labels cap1_6, Z141 ob1_7 r.Select cap1_7, Z73 ob1_8 r.Terms cap1_8, Z83 ob1_9 r.Bears cap1_9, Z3 ob1_10 r.Ports cap1_10, Z141 ob1_11 r.Apart cap1_11, .bool r.Wide, Z141 ob1_13 r.Spread cap1_13, Iw r.Skew, Iw r.Rank, .str r.Owner, .bool r.Daemon, .bool r.Pinned, .bool r.Local], Q141 ob1_6 cap1_6 r.Labels, Q141 ob1_7 cap1_7 r.Select, Q73 ob1_8 cap1_8 r.Terms, Q83 ob1_9 cap1_9 r.Bears, Q3 ob1_10 cap1_10 r.Ports, Q141 ob1_11 cap1_11 r.Apart, Q141 ob1_13 cap1_13 r.Spread] := by
 refine B2 [] C7 R R R fun r hm=>?_
 unfold spec_pair_1_x_x_x at hm
 refine Ba (A7 [1,8,0,2,3,4,5,6,7] R)<|A3 2 mixed<|An tbk [0,1,2,4] [0,0] (by kernel_rfl) R R R<|Bd hm fun x3 h1 hm=>Au 5 R R R (by kernel_rfl) (A2 I_any20.vv R R el81 h1)<|An tbk [6,8] [] (by kernel_rfl) R R R<|Bd hm fun x4 h2 hm=>Au 9 R R R (by kernel_rfl) (A2 I_any20.vv R R el81 h2)<|Au 10 R R R (by kernel_rfl) (Bn R ld20 R)<|?_
 refine B0 [3,7] (by kernel_rfl) ⟨?_,?_,trivial⟩
 ·refine Ao R R R<|B4 (Bq (i:=0) R R ld24 R)<|Ai 7 (by kernel_rfl)<|Bd hm fun r h3 hm=>Ao R R R<|Aw 0 R fn131 R (K81 x3 r h3) fun _ _ h8=> ?_
  obtain ⟨rfl,rfl⟩:=h8
  refine Ai 11 (by kernel_rfl)<|Bd hm fun r2 h4 hm=>Ao R R R<|Aw 0 R fn131 R (K81 x4 r2 h4) fun _ _ h7=> ?_
  obtain ⟨rfl,rfl⟩:=h7
  refine Au 12 R R R (by kernel_rfl) (A5 pl141 R R)<|Ai 13 (by kernel_rfl)<|Ao R R R<|Ax ap24 R R R R R fun b3=>Ai 14 (by kernel_rfl)<|Bd hm fun l h6 hm=>Ao R R R<|Bs 2 T_api_Label.vv (l:=x2.Spread) (l2:=[(⟨r,r2⟩ : T_api_Label)]) ap24 R R (sT_row 0 T_api_Label.vv el24 R R) h6 fun ob8 cap8=>Au 15 R R R (by kernel_rfl) (Bw R)<|Ai 16 (by kernel_rfl)<|Ao R R R<|Al (i:=1) R R R ld24 R R R<|Ay (by kernel_rfl)<|?_
  obtain rfl:=Option.some.inj hm
  exact ⟨.inr R,_,.nil,[3,1,4,5,6,7,8,9,2],_,R,ob,cap,ob2,cap2,ob3,cap3,ob4,cap4,ob5,cap5,ob6,cap6,ob8,cap8,R,R⟩
 ·refine Bd hm fun r3 h9 hm=>Ao R R R<|Aw 0 R fn131 R (K81 x3 r3 h9) fun _ _ h20=> ?_
  obtain ⟨rfl,rfl⟩:=h20
  refine B0 [3,11] (by kernel_rfl) ⟨?_,?_,trivial⟩
  ·refine Ao R R R<|B4 (Bq (i:=0) R R ld24 R)<|Ai 11 (by kernel_rfl)<|Bd hm fun r4 h10 hm=>Ao R R R<|Aw 0 R fn131 R (K81 x4 r4 h10) fun _ _ h13=> ?_
   obtain ⟨rfl,rfl⟩:=h13
   refine Au 12 R R R (by kernel_rfl) (A5 pl141 R R)<|Ai 13 (by kernel_rfl)<|Ao R R R<|Ax ap24 R R R R R fun b4=>Ai 14 (by kernel_rfl)<|Bd hm fun l2 h12 hm=>Ao R R R<|Bs 2 T_api_Label.vv (l:=x2.Spread) (l2:=[(⟨r3,r4⟩ : T_api_Label)]) ap24 R R (sT_row 0 T_api_Label.vv el24 R R) h12 fun ob9 cap9=>Au 15 R R R (by kernel_rfl) (Bw R)<|Ai 16 (by kernel_rfl)<|Ao R R R<|Al (i:=1) R R R ld24 R R R<|Ay (by kernel_rfl)<|?_
   obtain rfl:=Option.some.inj hm
   exact ⟨.inr R,_,.nil,[3,1,4,5,6,7,8,9,2],_,R,ob,cap,ob2,cap2,ob3,cap3,ob4,cap4,ob5,cap5,ob6,cap6,ob9,cap9,R,R⟩
  ·refine Bd hm fun r5 h14 hm=>Ao R R R<|Aw 0 R fn131 R (K81 x4 r5 h14) fun _ _ h19=> ?_
   obtain ⟨rfl,rfl⟩:=h19
   refine Au 12 R R R (by kernel_rfl) (A5 pl141 R R)<|?_
   refine B0 [3,13] (by kernel_rfl) ⟨?_,?_,trivial⟩
   ·refine Ao R R R<|B4 (Bq (i:=0) R R ld24 R)<|Ai 13 (by kernel_rfl)<|Ao R R R<|Ax ap24 R R R R R fun b5=>Ai 14 (by kernel_rfl)<|Bd hm fun l3 h16 hm=>Ao R R R<|Bs 2 T_api_Label.vv (l:=x2.Spread) (l2:=[(⟨r3,r5⟩ : T_api_Label)]) ap24 R R (sT_row 0 T_api_Label.vv el24 R R) h16 fun ob10 cap10=>Au 15 R R R (by kernel_rfl) (Bw R)<|Ai 16 (by kernel_rfl)<|Ao R R R<|Al (i:=1) R R R ld24 R R R<|Ay (by kernel_rfl)<|?_
    obtain rfl:=Option.some.inj hm
    exact ⟨.inr R,_,.nil,[3,1,4,5,6,7,8,9,2],_,R,ob,cap,ob2,cap2,ob3,cap3,ob4,cap4,ob5,cap5,ob6,cap6,ob10,cap10,R,R⟩
   ·refine Ao R R R<|Ax ap24 R R R R R fun b6=>Ai 3 (by kernel_rfl)<|Ao R R R<|B4 (Bq (i:=1) R R ld24 R)<|Ai 14 (by kernel_rfl)<|Bd hm fun l4 h18 hm=>Ao R R R<|Bs 2 T_api_Label.vv (l:=x2.Spread) (l2:=[(⟨r3,r5⟩ : T_api_Label)]) ap24 R R (sT_row 0 T_api_Label.vv el24 R R) h18 fun ob11 cap11=>Au 15 R R R (by kernel_rfl) (Bw R)<|Ai 16 (by kernel_rfl)<|Ao R R R<|Al (i:=1) R R R ld24 R R R<|Ay (by kernel_rfl)<|?_
    obtain rfl:=Option.some.inj hm
    exact ⟨.inr R,_,.nil,[3,1,4,5,6,7,8,9,2],_,R,ob,cap,ob2,cap2,ob3,cap3,ob4,cap4,ob5,cap5,ob6,cap6,ob11,cap11,R,R⟩

/-! trireme/spec.ofPod$2 -/
def spec_ofPod_2.l1 : List I_any20 → Nat → T_api_Term → Option T_api_Term
 | [], k, t4 => some t4
 | y :: l, k, t4 =>
  (spec_word y).bind fun r6 =>
  (V.ap 16 t4.Vals [r6]).bind fun l2 =>
  spec_ofPod_2.l1 l (k + 1) (⟨t4.Key, t4.Op, l2⟩ : T_api_Term)
def spec_ofPod_2 (x : List I_any20) (x2 : T_api_Pod) : Option T_api_Pod :=
 ((V.gl x (0 : Int)).bind fun x3 =>
 (V.gl x (1 : Int)).bind fun x4 =>
 (spec_word x3).bind fun r =>
 (spec_num x4).bind fun r2 =>
 some (r, r2)).bind fun j =>
 (V.sl x (some 2) none).bind fun v =>
 (spec_ofPod_2.l1 v 0 (⟨j.1, j.2, ([] : List ByteArray)⟩ : T_api_Term)).bind fun t52 =>
 (V.ap 48 x2.Terms [t52]).bind fun l5 =>
 some (⟨x2.Name, x2.Need, x2.Labels, x2.Select, l5, x2.Bears, x2.Ports, x2.Apart, x2.Wide, x2.Spread, x2.Skew, x2.Rank, x2.Owner, x2.Daemon, x2.Pinned, x2.Local⟩ : T_api_Pod)
theorem K86 (x : List I_any20) (x2 : T_api_Pod) (b : Nat) (b2 : Nat) (ob : Option Nat) (cap : Nat) (ob2 : Option Nat) (cap2 : Nat) (ob3 : Option Nat) (cap3 : Nat) (ob4 : Option Nat) (cap4 : Nat) (ob5 : Option Nat) (cap5 : Nat) (ob6 : Option Nat) (cap6 : Nat) (ob7 : Option Nat) (cap7 : Nat) : ∀ r : T_api_Pod, spec_ofPod_2 x x2 = some r → VC Tryz.prog 130 [L20 x, .ptr b 0] [.box b 98 [.ptr b2 0], .box b2 29 [.str x2.Name, Iw x2.Need.Cpu, Iw x2.Need.Mem, Iw x2.Need.Disk, Iw x2.Need.Pods, Iw x2.Need.Dev, Z141 ob x2.Labels cap, Z141 ob2 x2.Select cap2, Z73 ob3 x2.Terms cap3, Z83 ob4 x2.Bears cap4, Z3 ob5 x2.Ports cap5, Z141 ob6 x2.Apart cap6, .bool x2.Wide, Z141 ob7 x2.Spread cap7, Iw x2.Skew, Iw x2.Rank, .str x2.Owner, .bool x2.Daemon, .bool x2.Pinned, .bool x2.Local], Q141 ob cap x2.Labels, Q141 ob2 cap2 x2.Select, Q73 ob3 cap3 x2.Terms, Q83 ob4 cap4 x2.Bears, Q3 ob5 cap5 x2.Ports, Q141 ob6 cap6 x2.Apart, Q141 ob7 cap7 x2.Spread] fun zx zH => ∃ (ob1_6 : Option Nat) (cap1_6 : Nat) (ob1_7 : Option Nat) (cap1_7 : Nat) (ob1_8 : Option Nat) (cap1_8 : Nat) (ob1_9 : Option Nat) (cap1_9 : Nat) (ob1_10 : Option Nat) (cap1_10 : Nat) (ob1_11 : Option Nat) (cap1_11 : Nat) (ob1_13 : Option Nat) (cap1_13 : Nat), zx = .tup [] ∧ zH = [.box b 98 [.ptr b2 0], .box b2 29 [.str r.Name, Iw r.Need.Cpu, Iw r.Need.Mem, Iw r.Need.Disk, Iw r.Need.Pods, Iw r.Need.Dev, Z141 ob1_6 r.Labels cap1_6, Z141 ob1_7 r.Select cap1_7, Z73 ob1_8 r.Terms cap1_8, Z83 ob1_9 r.Bears cap1_9, Z3 ob1_10 r.Ports cap1_10, Z141 ob1_11 r.Apart cap1_11, .bool r.Wide, Z141 ob1_13 r.Spread cap1_13, Iw r.Skew, Iw r.Rank, .str r.Owner, .bool r.Daemon, .bool r.Pinned, .bool r.Local], Q141 ob1_6 cap1_6 r.Labels, Q141 ob1_7 cap1_7 r.Select, Q73 ob1_8 cap1_8 r.Terms, Q83 ob1_9 cap1_9 r.Bears, Q3 ob1_10 cap1_10 r.Ports, Q141 ob1_11 cap1_11 r.Apart, Q141 ob1_13 cap1_13 r.Spread] := by
 refine B2 [] Tryz.func130 R R R fun r hm=>?_
 unfold spec_ofPod_2 at hm
 refine Ca hm (fun _ (gg:Nat)=>[(0,L20 x),(1,.ptr b 0),(3,.ptr gg 0)]) (fun j (gg:Nat)=>[.box gg 73 [.str j.1,Iw j.2,.sl none 0 0],.box b 98 [.ptr b2 0],.box b2 29 [.str x2.Name,Iw x2.Need.Cpu,Iw x2.Need.Mem,Iw x2.Need.Disk,Iw x2.Need.Pods,Iw x2.Need.Dev,Z141 ob x2.Labels cap,Z141 ob2 x2.Select cap2,Z73 ob3 x2.Terms cap3,Z83 ob4 x2.Bears cap4,Z3 ob5 x2.Ports cap5,Z141 ob6 x2.Apart cap6,.bool x2.Wide,Z141 ob7 x2.Spread cap7,Iw x2.Skew,Iw x2.Rank,.str x2.Owner,.bool x2.Daemon,.bool x2.Pinned,.bool x2.Local],Q141 ob cap x2.Labels,Q141 ob2 cap2 x2.Select,Q73 ob3 cap3 x2.Terms,Q83 ob4 cap4 x2.Bears,Q3 ob5 cap5 x2.Ports,Q141 ob6 cap6 x2.Apart,Q141 ob7 cap7 x2.Spread]) (fun o hm=>?_) fun j b3 hm=> ?_
 ·refine A3 0 mixed<|Au 0 R R R (by kernel_rfl) (Ak R)<|Bd hm fun x3 h4 hm=>Au 1 R R R (by kernel_rfl) (A2 I_any20.vv R R el81 h4)<|An tbk [2,4] [] (by kernel_rfl) R R R<|Bd hm fun x4 h5 hm=>Au 5 R R R (by kernel_rfl) (A2 I_any20.vv R R el81 h5)<|Au 6 R R R (by kernel_rfl) (Bn R ld20 R)<|?_
  refine B0 [3,9] (by kernel_rfl) ⟨?_,?_,trivial⟩
  ·refine Bd hm fun r h6 hm=>Ao R R R<|Aw 0 R fn131 R (K81 x3 r h6) fun _ _ h13=> ?_
   obtain ⟨rfl,rfl⟩:=h13
   refine B0 [7,9] (by kernel_rfl) ⟨?_,?_,trivial⟩
   ·refine Bd hm fun r2 h7 hm=>Ao R R R<|Aw 0 R fn90 R (K78 x4 r2 h7) fun _ _ h9=> ?_
    obtain ⟨rfl,rfl⟩:=h9
    exact Au 8 R R R (by kernel_rfl) (A5 pl73 R R)<|Ai 9 (by kernel_rfl)<|Ao R R R<|A9 z73 fun b4=>Ai 10 (by kernel_rfl)<|Ao R R R<|Al (i:=0) R R R ld73 R R R<|Ay (by kernel_rfl)<|As b4 hm (Ah [0,1,2,3,4,5,6,7,8,9] (by kernel_rfl) (by kernel_rfl))
   ·refine Ao R R R<|A9 z73 fun b5=>Ai 7 (by kernel_rfl)<|Bd hm fun r3 h11 hm=>Ao R R R<|Aw 0 R fn90 R (K78 x4 r3 h11) fun _ _ h12=> ?_
    obtain ⟨rfl,rfl⟩:=h12
    exact Au 8 R R R (by kernel_rfl) (A5 pl73 R R)<|Ai 10 (by kernel_rfl)<|Ao R R R<|Al (i:=0) R R R ld73 R R R<|Ay (by kernel_rfl)<|As b5 hm (Ah [0,1,2,3,4,5,6,7,8,9] (by kernel_rfl) (by kernel_rfl))
  ·refine Ao R R R<|A9 z73 fun b6=>Ai 3 (by kernel_rfl)<|Bd hm fun r4 h15 hm=>Ao R R R<|Aw 0 R fn131 R (K81 x3 r4 h15) fun _ _ h18=> ?_
   obtain ⟨rfl,rfl⟩:=h18
   refine Ai 7 (by kernel_rfl)<|Bd hm fun r5 h16 hm=>Ao R R R<|Aw 0 R fn90 R (K78 x4 r5 h16) fun _ _ h17=> ?_
   obtain ⟨rfl,rfl⟩:=h17
   exact Au 8 R R R (by kernel_rfl) (A5 pl73 R R)<|Ai 10 (by kernel_rfl)<|Ao R R R<|Al (i:=0) R R R ld73 R R R<|Ay (by kernel_rfl)<|As b6 hm (Ah [0,1,2,3,4,5,6,7,8,9] (by kernel_rfl) (by kernel_rfl))
 refine Af<|Ae<|Aa R R (Ak R)<|Bd hm fun v h19 hm=>Aa R R (Dj R R R el81 h19)<|Aa R R (Bg I_any20.vv R Dg)<|Aa R R (Ak R)<|Ac<|Cp 16 R fun h24=>Cx hm (fun _ (gg:Option Nat × Nat)=>[(1,.ptr b 0),(3,.ptr b3 0)]) (fun t52 (gg:Option Nat × Nat)=>[Q9 gg.1 gg.2 t52.Vals,.box b3 73 [.str t52.Key,Iw t52.Op,Z9 gg.1 t52.Vals gg.2],.box b 98 [.ptr b2 0],.box b2 29 [.str x2.Name,Iw x2.Need.Cpu,Iw x2.Need.Mem,Iw x2.Need.Disk,Iw x2.Need.Pods,Iw x2.Need.Dev,Z141 ob x2.Labels cap,Z141 ob2 x2.Select cap2,Z73 ob3 x2.Terms cap3,Z83 ob4 x2.Bears cap4,Z3 ob5 x2.Ports cap5,Z141 ob6 x2.Apart cap6,.bool x2.Wide,Z141 ob7 x2.Spread cap7,Iw x2.Skew,Iw x2.Rank,.str x2.Owner,.bool x2.Daemon,.bool x2.Pinned,.bool x2.Local],Q141 ob cap x2.Labels,Q141 ob2 cap2 x2.Select,Q73 ob3 cap3 x2.Terms,Q83 ob4 cap4 x2.Bears,Q3 ob5 cap5 x2.Ports,Q141 ob6 cap6 x2.Apart,Q141 ob7 cap7 x2.Spread]) (fun o2 hm=>?_) fun t52=>Pq fun ob10 cap10 hm=> ?_
 ·refine Cu (v) (fun zl zk (zs:T_api_Term)=>spec_ofPod_2.l1 zl zk zs) (fun k _ (_:Option Nat × Nat)=>[(1,.ptr b 0),(3,.ptr b3 0),(16,L20 v),(17,Iw (v.length : Int)),(18,Iw (k : Int))]) (fun _ zs (zg:Option Nat × Nat)=>[Q9 zg.1 zg.2 zs.Vals,.box b3 73 [.str zs.Key,Iw zs.Op,Z9 zg.1 zs.Vals zg.2],.box b 98 [.ptr b2 0],.box b2 29 [.str x2.Name,Iw x2.Need.Cpu,Iw x2.Need.Mem,Iw x2.Need.Disk,Iw x2.Need.Pods,Iw x2.Need.Dev,Z141 ob x2.Labels cap,Z141 ob2 x2.Select cap2,Z73 ob3 x2.Terms cap3,Z83 ob4 x2.Bears cap4,Z3 ob5 x2.Ports cap5,Z141 ob6 x2.Apart cap6,.bool x2.Wide,Z141 ob7 x2.Spread cap7,Iw x2.Skew,Iw x2.Rank,.str x2.Owner,.bool x2.Daemon,.bool x2.Pinned,.bool x2.Local],Q141 ob cap x2.Labels,Q141 ob2 cap2 x2.Select,Q73 ob3 cap3 x2.Terms,Q83 ob4 cap4 x2.Bears,Q3 ob5 cap5 x2.Ports,Q141 ob6 cap6 x2.Apart,Q141 ob7 cap7 x2.Spread]) (⟨j.1,j.2,([] : List ByteArray)⟩ : T_api_Term) (none,0) hm (B5 (Bc 9) (Ah [0,1,2,3,4,5,6,7,8,9,10] (by kernel_rfl) (by kernel_rfl))) (fun k t4=>Pq fun ob9 cap9 hk hm=>?_) fun k y l t4=>Pq fun ob9 cap9 h25 hm=> ?_
  ·rw [spec_ofPod_2.l1] at hm
   exact Ag tbk [] R R<|Af<|Cc R (k_end hk)<|Be<|As (ob9,cap9) hm (Ah [0,1,2,3,4,5,6,7,8,9,10] (by kernel_rfl) (by kernel_rfl))
  rw [spec_ofPod_2.l1] at hm
  refine Ag tbk [] R R<|Af<|Bp R (k_lt h25)<|Aj<|Af<|A4<|Ae<|Aa R R (Cr I_any20.vv R R el81 h25)<|Ab tbk [] 2 R R<|Ac<|A3 2 mixed<|An tbk [0,2] [] (by kernel_rfl) R R R<|?_
  refine B0 [1,3] (by kernel_rfl) ⟨?_,?_,trivial⟩
  ·exact Ao R R R<|B4 (Bq (i:=1) R R ld65 R)<|Ai 3 (by kernel_rfl)<|Ao R R R<|A1 hm 0 R fn131 R (K81 _) fun r6 hm=>Ai 4 (by kernel_rfl)<|Ao R R R<|Ax ap65 R R R R R fun b7=>Ai 5 (by kernel_rfl)<|Bd hm fun l2 h28 hm=>Ao R R R<|Bs 1 VV.str (l:=t4.Vals) (l2:=[r6]) ap65 R R (sT_row 0 VV.str el65 R R) h28 fun ob11 cap11=>Au 6 R R R (by kernel_rfl) (Cl R fa73_2)<|Ai 7 (by kernel_rfl)<|Ao R R R<|Al (i:=2) R R R ld65 R R R<|Ay (by kernel_rfl)<|Bf tbk [] R R<|Ap (⟨t4.Key,t4.Op,l2⟩ : T_api_Term) (ob11,cap11) hm (B3 [1,2,3,4,5,6,7,8,9,10,11] (by kernel_rfl) ⟨R,R,R,R,congrArg some (k_next h25 h24),trivial⟩)
  ·refine Ao R R R<|A1 hm 0 R fn131 R (K81 _) fun r7 hm=> ?_
   refine B0 [1,4] (by kernel_rfl) ⟨?_,?_,trivial⟩
   ·exact Ao R R R<|B4 (Bq (i:=1) R R ld65 R)<|Ai 4 (by kernel_rfl)<|Ao R R R<|Ax ap65 R R R R R fun b8=>Ai 5 (by kernel_rfl)<|Bd hm fun l3 h31 hm=>Ao R R R<|Bs 1 VV.str (l:=t4.Vals) (l2:=[r7]) ap65 R R (sT_row 0 VV.str el65 R R) h31 fun ob12 cap12=>Au 6 R R R (by kernel_rfl) (Cl R fa73_2)<|Ai 7 (by kernel_rfl)<|Ao R R R<|Al (i:=2) R R R ld65 R R R<|Ay (by kernel_rfl)<|Bf tbk [] R R<|Ap (⟨t4.Key,t4.Op,l3⟩ : T_api_Term) (ob12,cap12) hm (B3 [1,2,3,4,5,6,7,8,9,10,11] (by kernel_rfl) ⟨R,R,R,R,congrArg some (k_next h25 h24),trivial⟩)
   ·exact Ao R R R<|Ax ap65 R R R R R fun b9=>Ai 1 (by kernel_rfl)<|Ao R R R<|B4 (Bq (i:=2) R R ld65 R)<|Ai 5 (by kernel_rfl)<|Bd hm fun l4 h33 hm=>Ao R R R<|Bs 1 VV.str (l:=t4.Vals) (l2:=[r7]) ap65 R R (sT_row 0 VV.str el65 R R) h33 fun ob13 cap13=>Au 6 R R R (by kernel_rfl) (Cl R fa73_2)<|Ai 7 (by kernel_rfl)<|Ao R R R<|Al (i:=2) R R R ld65 R R R<|Ay (by kernel_rfl)<|Bf tbk [] R R<|Ap (⟨t4.Key,t4.Op,l4⟩ : T_api_Term) (ob13,cap13) hm (B3 [1,2,3,4,5,6,7,8,9,10,11] (by kernel_rfl) ⟨R,R,R,R,congrArg some (k_next h25 h24),trivial⟩)
 refine Ba (Az (H':=[X73 b3 t52,.box b 98 [.ptr b2 0],.box b2 29 [.str x2.Name,Iw x2.Need.Cpu,Iw x2.Need.Mem,Iw x2.Need.Disk,Iw x2.Need.Pods,Iw x2.Need.Dev,Z141 ob x2.Labels cap,Z141 ob2 x2.Select cap2,Z73 ob3 x2.Terms cap3,Z83 ob4 x2.Bears cap4,Z3 ob5 x2.Ports cap5,Z141 ob6 x2.Apart cap6,.bool x2.Wide,Z141 ob7 x2.Spread cap7,Iw x2.Skew,Iw x2.Rank,.str x2.Owner,.bool x2.Daemon,.bool x2.Pinned,.bool x2.Local],Q141 ob cap x2.Labels,Q141 ob2 cap2 x2.Select,Q73 ob3 cap3 x2.Terms,Q83 ob4 cap4 x2.Bears,Q3 ob5 cap5 x2.Ports,Q141 ob6 cap6 x2.Apart,Q141 ob7 cap7 x2.Spread]) 0 [] R trivial ⟨.box _ _ _ _ ⟨.same _,.same _,.here _ R,trivial⟩,.same _,.same _,.same _,.same _,.same _,.same _,.same _,.same _,.same _,trivial⟩)<|Ba (A7 [2,5,0,1,3,4,6,7,8,9] R)<|A3 2 mixed<|An tbk [0,1,2,3,5] [1,1,0] (by kernel_rfl) R R R<|?_
 refine B0 [4,6] (by kernel_rfl) ⟨?_,?_,trivial⟩
 ·refine Ao R R R<|B4 (Bq (i:=0) R R ld25 R)<|Ai 6 (by kernel_rfl)<|Ao R R R<|Ax ap25 R R R R R fun b10=>Ai 7 (by kernel_rfl)<|Bd hm fun l5 h36 hm=>Ao R R R<|Bs 2 T_api_Term.vv (l:=x2.Terms) (l2:=[t52]) ap25 R R (sT_row 0 T_api_Term.vv el25 R R) h36 fun ob14 cap14=>An tbk [8,9] [] (by kernel_rfl) R R R<|Ai 10 (by kernel_rfl)<|Ao R R R<|Al (i:=1) R R R ld25 R R R<|Ay (by kernel_rfl)<|?_
  obtain rfl:=Option.some.inj hm
  exact ⟨.inr R,_,.nil,[4,1,5,6,2,7,8,9,10],_,R,ob,cap,ob2,cap2,ob14,cap14,ob4,cap4,ob5,cap5,ob6,cap6,ob7,cap7,R,R⟩
 ·refine Ao R R R<|Ax ap25 R R R R R fun b11=>Ai 4 (by kernel_rfl)<|Ao R R R<|B4 (Bq (i:=1) R R ld25 R)<|Ai 7 (by kernel_rfl)<|Bd hm fun l6 h38 hm=>Ao R R R<|Bs 2 T_api_Term.vv (l:=x2.Terms) (l2:=[t52]) ap25 R R (sT_row 0 T_api_Term.vv el25 R R) h38 fun ob15 cap15=>An tbk [8,9] [] (by kernel_rfl) R R R<|Ai 10 (by kernel_rfl)<|Ao R R R<|Al (i:=1) R R R ld25 R R R<|Ay (by kernel_rfl)<|?_
  obtain rfl:=Option.some.inj hm
  exact ⟨.inr R,_,.nil,[4,1,5,6,2,7,8,9,10],_,R,ob,cap,ob2,cap2,ob15,cap15,ob4,cap4,ob5,cap5,ob6,cap6,ob7,cap7,R,R⟩

/-! trireme/spec.ofPod$3 -/
def spec_ofPod_3 (x : List I_any20) (x2 : T_api_Pod) : Option T_api_Pod :=
 (V.gl x (0 : Int)).bind fun x3 =>
 (V.gl x (1 : Int)).bind fun x4 =>
 (V.gl x (2 : Int)).bind fun x5 =>
 (spec_word x3).bind fun r =>
 (spec_word x4).bind fun r2 =>
 (spec_num x5).bind fun r3 =>
 (V.ap 48 x2.Bears [(⟨r, r2, false, r3⟩ : T_api_Toleration)]).bind fun l =>
 some (⟨x2.Name, x2.Need, x2.Labels, x2.Select, x2.Terms, l, x2.Ports, x2.Apart, x2.Wide, x2.Spread, x2.Skew, x2.Rank, x2.Owner, x2.Daemon, x2.Pinned, x2.Local⟩ : T_api_Pod)
theorem K87 (x : List I_any20) (x2 : T_api_Pod) (b : Nat) (b2 : Nat) (ob : Option Nat) (cap : Nat) (ob2 : Option Nat) (cap2 : Nat) (ob3 : Option Nat) (cap3 : Nat) (ob4 : Option Nat) (cap4 : Nat) (ob5 : Option Nat) (cap5 : Nat) (ob6 : Option Nat) (cap6 : Nat) (ob7 : Option Nat) (cap7 : Nat) : ∀ r : T_api_Pod, spec_ofPod_3 x x2 = some r → VC Tryz.prog 132 [L20 x, .ptr b 0] [.box b 98 [.ptr b2 0], .box b2 29 [.str x2.Name, Iw x2.Need.Cpu, Iw x2.Need.Mem, Iw x2.Need.Disk, Iw x2.Need.Pods, Iw x2.Need.Dev, Z141 ob x2.Labels cap, Z141 ob2 x2.Select cap2, Z73 ob3 x2.Terms cap3, Z83 ob4 x2.Bears cap4, Z3 ob5 x2.Ports cap5, Z141 ob6 x2.Apart cap6, .bool x2.Wide, Z141 ob7 x2.Spread cap7, Iw x2.Skew, Iw x2.Rank, .str x2.Owner, .bool x2.Daemon, .bool x2.Pinned, .bool x2.Local], Q141 ob cap x2.Labels, Q141 ob2 cap2 x2.Select, Q73 ob3 cap3 x2.Terms, Q83 ob4 cap4 x2.Bears, Q3 ob5 cap5 x2.Ports, Q141 ob6 cap6 x2.Apart, Q141 ob7 cap7 x2.Spread] fun zx zH => ∃ (ob1_6 : Option Nat) (cap1_6 : Nat) (ob1_7 : Option Nat) (cap1_7 : Nat) (ob1_8 : Option Nat) (cap1_8 : Nat) (ob1_9 : Option Nat) (cap1_9 : Nat) (ob1_10 : Option Nat) (cap1_10 : Nat) (ob1_11 : Option Nat) (cap1_11 : Nat) (ob1_13 : Option Nat) (cap1_13 : Nat), zx = .tup [] ∧ zH = [.box b 98 [.ptr b2 0], .box b2 29 [.str r.Name, Iw r.Need.Cpu, Iw r.Need.Mem, Iw r.Need.Disk, Iw r.Need.Pods, Iw r.Need.Dev, Z141 ob1_6 r.Labels cap1_6, Z141 ob1_7 r.Select cap1_7, Z73 ob1_8 r.Terms cap1_8, Z83 ob1_9 r.Bears cap1_9, Z3 ob1_10 r.Ports cap1_10, Z141 ob1_11 r.Apart cap1_11, .bool r.Wide, Z141 ob1_13 r.Spread cap1_13, Iw r.Skew, Iw r.Rank, .str r.Owner, .bool r.Daemon, .bool r.Pinned, .bool r.Local], Q141 ob1_6 cap1_6 r.Labels, Q141 ob1_7 cap1_7 r.Select, Q73 ob1_8 cap1_8 r.Terms, Q83 ob1_9 cap1_9 r.Bears, Q3 ob1_10 cap1_10 r.Ports, Q141 ob1_11 cap1_11 r.Apart, Q141 ob1_13 cap1_13 r.Spread] := by
 refine B2 [] Tryz.func132 R R R fun r hm=>?_
 unfold spec_ofPod_3 at hm
 refine Ba (A7 [1,5,0,2,3,4,6,7,8] R)<|A3 2 mixed<|An tbk [0,1,2,3,5] [0,0] (by kernel_rfl) R R R<|Bd hm fun x3 h1 hm=>Au 6 R R R (by kernel_rfl) (A2 I_any20.vv R R el81 h1)<|An tbk [7,9] [] (by kernel_rfl) R R R<|Bd hm fun x4 h2 hm=>Au 10 R R R (by kernel_rfl) (A2 I_any20.vv R R el81 h2)<|An tbk [11,13] [] (by kernel_rfl) R R R<|Bd hm fun x5 h3 hm=>Au 14 R R R (by kernel_rfl) (A2 I_any20.vv R R el81 h3)<|Au 15 R R R (by kernel_rfl) (Bn R ld20 R)<|?_
 refine B0 [4,8] (by kernel_rfl) ⟨?_,?_,trivial⟩
 ·refine Ao R R R<|B4 (Bq (i:=0) R R ld26 R)<|Ai 8 (by kernel_rfl)<|Bd hm fun r h4 hm=>Ao R R R<|Aw 0 R fn131 R (K81 x3 r h4) fun _ _ h11=> ?_
  obtain ⟨rfl,rfl⟩:=h11
  refine Ai 12 (by kernel_rfl)<|Bd hm fun r2 h5 hm=>Ao R R R<|Aw 0 R fn131 R (K81 x4 r2 h5) fun _ _ h10=> ?_
  obtain ⟨rfl,rfl⟩:=h10
  refine Ai 16 (by kernel_rfl)<|Bd hm fun r3 h6 hm=>Ao R R R<|Aw 0 R fn90 R (K78 x5 r3 h6) fun _ _ h9=> ?_
  obtain ⟨rfl,rfl⟩:=h9
  refine Au 17 R R R (by kernel_rfl) (A5 pl83 R R)<|Ai 18 (by kernel_rfl)<|Ao R R R<|Ax ap26 R R R R R fun b3=>Ai 19 (by kernel_rfl)<|Bd hm fun l h8 hm=>Ao R R R<|Bs 2 T_api_Toleration.vv (l:=x2.Bears) (l2:=[(⟨r,r2,false,r3⟩ : T_api_Toleration)]) ap26 R R (sT_row 0 T_api_Toleration.vv el26 R R) h8 fun ob8 cap8=>An tbk [20,21] [] (by kernel_rfl) R R R<|Ai 22 (by kernel_rfl)<|Ao R R R<|Al (i:=1) R R R ld26 R R R<|Ay (by kernel_rfl)<|?_
  obtain rfl:=Option.some.inj hm
  exact ⟨.inr R,_,.nil,[3,1,4,5,6,2,7,8,9],_,R,ob,cap,ob2,cap2,ob3,cap3,ob8,cap8,ob5,cap5,ob6,cap6,ob7,cap7,R,R⟩
 ·refine Bd hm fun r4 h12 hm=>Ao R R R<|Aw 0 R fn131 R (K81 x3 r4 h12) fun _ _ h31=> ?_
  obtain ⟨rfl,rfl⟩:=h31
  refine B0 [4,12] (by kernel_rfl) ⟨?_,?_,trivial⟩
  ·refine Ao R R R<|B4 (Bq (i:=0) R R ld26 R)<|Ai 12 (by kernel_rfl)<|Bd hm fun r5 h13 hm=>Ao R R R<|Aw 0 R fn131 R (K81 x4 r5 h13) fun _ _ h18=> ?_
   obtain ⟨rfl,rfl⟩:=h18
   refine Ai 16 (by kernel_rfl)<|Bd hm fun r6 h14 hm=>Ao R R R<|Aw 0 R fn90 R (K78 x5 r6 h14) fun _ _ h17=> ?_
   obtain ⟨rfl,rfl⟩:=h17
   refine Au 17 R R R (by kernel_rfl) (A5 pl83 R R)<|Ai 18 (by kernel_rfl)<|Ao R R R<|Ax ap26 R R R R R fun b4=>Ai 19 (by kernel_rfl)<|Bd hm fun l2 h16 hm=>Ao R R R<|Bs 2 T_api_Toleration.vv (l:=x2.Bears) (l2:=[(⟨r4,r5,false,r6⟩ : T_api_Toleration)]) ap26 R R (sT_row 0 T_api_Toleration.vv el26 R R) h16 fun ob9 cap9=>An tbk [20,21] [] (by kernel_rfl) R R R<|Ai 22 (by kernel_rfl)<|Ao R R R<|Al (i:=1) R R R ld26 R R R<|Ay (by kernel_rfl)<|?_
   obtain rfl:=Option.some.inj hm
   exact ⟨.inr R,_,.nil,[3,1,4,5,6,2,7,8,9],_,R,ob,cap,ob2,cap2,ob3,cap3,ob9,cap9,ob5,cap5,ob6,cap6,ob7,cap7,R,R⟩
  ·refine Bd hm fun r7 h19 hm=>Ao R R R<|Aw 0 R fn131 R (K81 x4 r7 h19) fun _ _ h30=> ?_
   obtain ⟨rfl,rfl⟩:=h30
   refine B0 [4,16] (by kernel_rfl) ⟨?_,?_,trivial⟩
   ·refine Ao R R R<|B4 (Bq (i:=0) R R ld26 R)<|Ai 16 (by kernel_rfl)<|Bd hm fun r8 h20 hm=>Ao R R R<|Aw 0 R fn90 R (K78 x5 r8 h20) fun _ _ h23=> ?_
    obtain ⟨rfl,rfl⟩:=h23
    refine Au 17 R R R (by kernel_rfl) (A5 pl83 R R)<|Ai 18 (by kernel_rfl)<|Ao R R R<|Ax ap26 R R R R R fun b5=>Ai 19 (by kernel_rfl)<|Bd hm fun l3 h22 hm=>Ao R R R<|Bs 2 T_api_Toleration.vv (l:=x2.Bears) (l2:=[(⟨r4,r7,false,r8⟩ : T_api_Toleration)]) ap26 R R (sT_row 0 T_api_Toleration.vv el26 R R) h22 fun ob10 cap10=>An tbk [20,21] [] (by kernel_rfl) R R R<|Ai 22 (by kernel_rfl)<|Ao R R R<|Al (i:=1) R R R ld26 R R R<|Ay (by kernel_rfl)<|?_
    obtain rfl:=Option.some.inj hm
    exact ⟨.inr R,_,.nil,[3,1,4,5,6,2,7,8,9],_,R,ob,cap,ob2,cap2,ob3,cap3,ob10,cap10,ob5,cap5,ob6,cap6,ob7,cap7,R,R⟩
   ·refine Bd hm fun r9 h24 hm=>Ao R R R<|Aw 0 R fn90 R (K78 x5 r9 h24) fun _ _ h29=> ?_
    obtain ⟨rfl,rfl⟩:=h29
    refine Au 17 R R R (by kernel_rfl) (A5 pl83 R R)<|?_
    refine B0 [4,18] (by kernel_rfl) ⟨?_,?_,trivial⟩
    ·refine Ao R R R<|B4 (Bq (i:=0) R R ld26 R)<|Ai 18 (by kernel_rfl)<|Ao R R R<|Ax ap26 R R R R R fun b6=>Ai 19 (by kernel_rfl)<|Bd hm fun l4 h26 hm=>Ao R R R<|Bs 2 T_api_Toleration.vv (l:=x2.Bears) (l2:=[(⟨r4,r7,false,r9⟩ : T_api_Toleration)]) ap26 R R (sT_row 0 T_api_Toleration.vv el26 R R) h26 fun ob11 cap11=>An tbk [20,21] [] (by kernel_rfl) R R R<|Ai 22 (by kernel_rfl)<|Ao R R R<|Al (i:=1) R R R ld26 R R R<|Ay (by kernel_rfl)<|?_
     obtain rfl:=Option.some.inj hm
     exact ⟨.inr R,_,.nil,[3,1,4,5,6,2,7,8,9],_,R,ob,cap,ob2,cap2,ob3,cap3,ob11,cap11,ob5,cap5,ob6,cap6,ob7,cap7,R,R⟩
    ·refine Ao R R R<|Ax ap26 R R R R R fun b7=>Ai 4 (by kernel_rfl)<|Ao R R R<|B4 (Bq (i:=1) R R ld26 R)<|Ai 19 (by kernel_rfl)<|Bd hm fun l5 h28 hm=>Ao R R R<|Bs 2 T_api_Toleration.vv (l:=x2.Bears) (l2:=[(⟨r4,r7,false,r9⟩ : T_api_Toleration)]) ap26 R R (sT_row 0 T_api_Toleration.vv el26 R R) h28 fun ob12 cap12=>An tbk [20,21] [] (by kernel_rfl) R R R<|Ai 22 (by kernel_rfl)<|Ao R R R<|Al (i:=1) R R R ld26 R R R<|Ay (by kernel_rfl)<|?_
     obtain rfl:=Option.some.inj hm
     exact ⟨.inr R,_,.nil,[3,1,4,5,6,2,7,8,9],_,R,ob,cap,ob2,cap2,ob3,cap3,ob12,cap12,ob5,cap5,ob6,cap6,ob7,cap7,R,R⟩

/-! trireme/spec.ofPod$4 -/
def spec_ofPod_4 (x : List I_any20) (x2 : T_api_Pod) : Option T_api_Pod :=
 (V.gl x (0 : Int)).bind fun x3 =>
 (V.gl x (1 : Int)).bind fun x4 =>
 (spec_word x3).bind fun r =>
 (spec_num x4).bind fun r2 =>
 (V.ap 48 x2.Bears [(⟨r, (⟨#[]⟩ : ByteArray), true, r2⟩ : T_api_Toleration)]).bind fun l =>
 some (⟨x2.Name, x2.Need, x2.Labels, x2.Select, x2.Terms, l, x2.Ports, x2.Apart, x2.Wide, x2.Spread, x2.Skew, x2.Rank, x2.Owner, x2.Daemon, x2.Pinned, x2.Local⟩ : T_api_Pod)
theorem K88 (x : List I_any20) (x2 : T_api_Pod) (b : Nat) (b2 : Nat) (ob : Option Nat) (cap : Nat) (ob2 : Option Nat) (cap2 : Nat) (ob3 : Option Nat) (cap3 : Nat) (ob4 : Option Nat) (cap4 : Nat) (ob5 : Option Nat) (cap5 : Nat) (ob6 : Option Nat) (cap6 : Nat) (ob7 : Option Nat) (cap7 : Nat) : ∀ r : T_api_Pod, spec_ofPod_4 x x2 = some r → VC Tryz.prog 133 [L20 x, .ptr b 0] [.box b 98 [.ptr b2 0], .box b2 29 [.str x2.Name, Iw x2.Need.Cpu, Iw x2.Need.Mem, Iw x2.Need.Disk, Iw x2.Need.Pods, Iw x2.Need.Dev, Z141 ob x2.Labels cap, Z141 ob2 x2.Select cap2, Z73 ob3 x2.Terms cap3, Z83 ob4 x2.Bears cap4, Z3 ob5 x2.Ports cap5, Z141 ob6 x2.Apart cap6, .bool x2.Wide, Z141 ob7 x2.Spread cap7, Iw x2.Skew, Iw x2.Rank, .str x2.Owner, .bool x2.Daemon, .bool x2.Pinned, .bool x2.Local], Q141 ob cap x2.Labels, Q141 ob2 cap2 x2.Select, Q73 ob3 cap3 x2.Terms, Q83 ob4 cap4 x2.Bears, Q3 ob5 cap5 x2.Ports, Q141 ob6 cap6 x2.Apart, Q141 ob7 cap7 x2.Spread] fun zx zH => ∃ (ob1_6 : Option Nat) (cap1_6 : Nat) (ob1_7 : Option Nat) (cap1_7 : Nat) (ob1_8 : Option Nat) (cap1_8 : Nat) (ob1_9 : Option Nat) (cap1_9 : Nat) (ob1_10 : Option Nat) (cap1_10 : Nat) (ob1_11 : Option Nat) (cap1_11 : Nat) (ob1_13 : Option Nat) (cap1_13 : Nat), zx = .tup [] ∧ zH = [.box b 98 [.ptr b2 0], .box b2 29 [.str r.Name, Iw r.Need.Cpu, Iw r.Need.Mem, Iw r.Need.Disk, Iw r.Need.Pods, Iw r.Need.Dev, Z141 ob1_6 r.Labels cap1_6, Z141 ob1_7 r.Select cap1_7, Z73 ob1_8 r.Terms cap1_8, Z83 ob1_9 r.Bears cap1_9, Z3 ob1_10 r.Ports cap1_10, Z141 ob1_11 r.Apart cap1_11, .bool r.Wide, Z141 ob1_13 r.Spread cap1_13, Iw r.Skew, Iw r.Rank, .str r.Owner, .bool r.Daemon, .bool r.Pinned, .bool r.Local], Q141 ob1_6 cap1_6 r.Labels, Q141 ob1_7 cap1_7 r.Select, Q73 ob1_8 cap1_8 r.Terms, Q83 ob1_9 cap1_9 r.Bears, Q3 ob1_10 cap1_10 r.Ports, Q141 ob1_11 cap1_11 r.Apart, Q141 ob1_13 cap1_13 r.Spread] := by
 refine B2 [] Tryz.func133 R R R fun r hm=>?_
 unfold spec_ofPod_4 at hm
 refine Ba (A7 [1,5,0,2,3,4,6,7,8] R)<|A3 2 mixed<|An tbk [0,1,2,3,5] [0,0] (by kernel_rfl) R R R<|Bd hm fun x3 h1 hm=>Au 6 R R R (by kernel_rfl) (A2 I_any20.vv R R el81 h1)<|An tbk [7,9] [] (by kernel_rfl) R R R<|Bd hm fun x4 h2 hm=>Au 10 R R R (by kernel_rfl) (A2 I_any20.vv R R el81 h2)<|Au 11 R R R (by kernel_rfl) (Bn R ld20 R)<|?_
 refine B0 [4,8] (by kernel_rfl) ⟨?_,?_,trivial⟩
 ·refine Ao R R R<|B4 (Bq (i:=0) R R ld26 R)<|Ai 8 (by kernel_rfl)<|Bd hm fun r h3 hm=>Ao R R R<|Aw 0 R fn131 R (K81 x3 r h3) fun _ _ h8=> ?_
  obtain ⟨rfl,rfl⟩:=h8
  refine Ai 12 (by kernel_rfl)<|Bd hm fun r2 h4 hm=>Ao R R R<|Aw 0 R fn90 R (K78 x4 r2 h4) fun _ _ h7=> ?_
  obtain ⟨rfl,rfl⟩:=h7
  refine Au 13 R R R (by kernel_rfl) (A5 pl83 R R)<|Ai 14 (by kernel_rfl)<|Ao R R R<|Ax ap26 R R R R R fun b3=>Ai 15 (by kernel_rfl)<|Bd hm fun l h6 hm=>Ao R R R<|Bs 2 T_api_Toleration.vv (l:=x2.Bears) (l2:=[(⟨r,(⟨#[]⟩ : ByteArray),true,r2⟩ : T_api_Toleration)]) ap26 R R (sT_row 0 T_api_Toleration.vv el26 R R) h6 fun ob8 cap8=>An tbk [16,17] [] (by kernel_rfl) R R R<|Ai 18 (by kernel_rfl)<|Ao R R R<|Al (i:=1) R R R ld26 R R R<|Ay (by kernel_rfl)<|?_
  obtain rfl:=Option.some.inj hm
  exact ⟨.inr R,_,.nil,[3,1,4,5,6,2,7,8,9],_,R,ob,cap,ob2,cap2,ob3,cap3,ob8,cap8,ob5,cap5,ob6,cap6,ob7,cap7,R,R⟩
 ·refine Bd hm fun r3 h9 hm=>Ao R R R<|Aw 0 R fn131 R (K81 x3 r3 h9) fun _ _ h20=> ?_
  obtain ⟨rfl,rfl⟩:=h20
  refine B0 [4,12] (by kernel_rfl) ⟨?_,?_,trivial⟩
  ·refine Ao R R R<|B4 (Bq (i:=0) R R ld26 R)<|Ai 12 (by kernel_rfl)<|Bd hm fun r4 h10 hm=>Ao R R R<|Aw 0 R fn90 R (K78 x4 r4 h10) fun _ _ h13=> ?_
   obtain ⟨rfl,rfl⟩:=h13
   refine Au 13 R R R (by kernel_rfl) (A5 pl83 R R)<|Ai 14 (by kernel_rfl)<|Ao R R R<|Ax ap26 R R R R R fun b4=>Ai 15 (by kernel_rfl)<|Bd hm fun l2 h12 hm=>Ao R R R<|Bs 2 T_api_Toleration.vv (l:=x2.Bears) (l2:=[(⟨r3,(⟨#[]⟩ : ByteArray),true,r4⟩ : T_api_Toleration)]) ap26 R R (sT_row 0 T_api_Toleration.vv el26 R R) h12 fun ob9 cap9=>An tbk [16,17] [] (by kernel_rfl) R R R<|Ai 18 (by kernel_rfl)<|Ao R R R<|Al (i:=1) R R R ld26 R R R<|Ay (by kernel_rfl)<|?_
   obtain rfl:=Option.some.inj hm
   exact ⟨.inr R,_,.nil,[3,1,4,5,6,2,7,8,9],_,R,ob,cap,ob2,cap2,ob3,cap3,ob9,cap9,ob5,cap5,ob6,cap6,ob7,cap7,R,R⟩
  ·refine Bd hm fun r5 h14 hm=>Ao R R R<|Aw 0 R fn90 R (K78 x4 r5 h14) fun _ _ h19=> ?_
   obtain ⟨rfl,rfl⟩:=h19
   refine Au 13 R R R (by kernel_rfl) (A5 pl83 R R)<|?_
   refine B0 [4,14] (by kernel_rfl) ⟨?_,?_,trivial⟩
   ·refine Ao R R R<|B4 (Bq (i:=0) R R ld26 R)<|Ai 14 (by kernel_rfl)<|Ao R R R<|Ax ap26 R R R R R fun b5=>Ai 15 (by kernel_rfl)<|Bd hm fun l3 h16 hm=>Ao R R R<|Bs 2 T_api_Toleration.vv (l:=x2.Bears) (l2:=[(⟨r3,(⟨#[]⟩ : ByteArray),true,r5⟩ : T_api_Toleration)]) ap26 R R (sT_row 0 T_api_Toleration.vv el26 R R) h16 fun ob10 cap10=>An tbk [16,17] [] (by kernel_rfl) R R R<|Ai 18 (by kernel_rfl)<|Ao R R R<|Al (i:=1) R R R ld26 R R R<|Ay (by kernel_rfl)<|?_
    obtain rfl:=Option.some.inj hm
    exact ⟨.inr R,_,.nil,[3,1,4,5,6,2,7,8,9],_,R,ob,cap,ob2,cap2,ob3,cap3,ob10,cap10,ob5,cap5,ob6,cap6,ob7,cap7,R,R⟩
   ·refine Ao R R R<|Ax ap26 R R R R R fun b6=>Ai 4 (by kernel_rfl)<|Ao R R R<|B4 (Bq (i:=1) R R ld26 R)<|Ai 15 (by kernel_rfl)<|Bd hm fun l4 h18 hm=>Ao R R R<|Bs 2 T_api_Toleration.vv (l:=x2.Bears) (l2:=[(⟨r3,(⟨#[]⟩ : ByteArray),true,r5⟩ : T_api_Toleration)]) ap26 R R (sT_row 0 T_api_Toleration.vv el26 R R) h18 fun ob11 cap11=>An tbk [16,17] [] (by kernel_rfl) R R R<|Ai 18 (by kernel_rfl)<|Ao R R R<|Al (i:=1) R R R ld26 R R R<|Ay (by kernel_rfl)<|?_
    obtain rfl:=Option.some.inj hm
    exact ⟨.inr R,_,.nil,[3,1,4,5,6,2,7,8,9],_,R,ob,cap,ob2,cap2,ob3,cap3,ob11,cap11,ob5,cap5,ob6,cap6,ob7,cap7,R,R⟩

/-! trireme/spec.ofPod$5 -/
def spec_ofPod_5 (x : List I_any20) (x2 : T_api_Pod) : Option T_api_Pod :=
 (V.gl x (0 : Int)).bind fun x3 =>
 (spec_num x3).bind fun r =>
 (V.ap 8 x2.Ports [r]).bind fun l =>
 some (⟨x2.Name, x2.Need, x2.Labels, x2.Select, x2.Terms, x2.Bears, l, x2.Apart, x2.Wide, x2.Spread, x2.Skew, x2.Rank, x2.Owner, x2.Daemon, x2.Pinned, x2.Local⟩ : T_api_Pod)
theorem K89 (x : List I_any20) (x2 : T_api_Pod) (b : Nat) (b2 : Nat) (ob : Option Nat) (cap : Nat) (ob2 : Option Nat) (cap2 : Nat) (ob3 : Option Nat) (cap3 : Nat) (ob4 : Option Nat) (cap4 : Nat) (ob5 : Option Nat) (cap5 : Nat) (ob6 : Option Nat) (cap6 : Nat) (ob7 : Option Nat) (cap7 : Nat) : ∀ r : T_api_Pod, spec_ofPod_5 x x2 = some r → VC Tryz.prog 134 [L20 x, .ptr b 0] [.box b 98 [.ptr b2 0], .box b2 29 [.str x2.Name, Iw x2.Need.Cpu, Iw x2.Need.Mem, Iw x2.Need.Disk, Iw x2.Need.Pods, Iw x2.Need.Dev, Z141 ob x2.Labels cap, Z141 ob2 x2.Select cap2, Z73 ob3 x2.Terms cap3, Z83 ob4 x2.Bears cap4, Z3 ob5 x2.Ports cap5, Z141 ob6 x2.Apart cap6, .bool x2.Wide, Z141 ob7 x2.Spread cap7, Iw x2.Skew, Iw x2.Rank, .str x2.Owner, .bool x2.Daemon, .bool x2.Pinned, .bool x2.Local], Q141 ob cap x2.Labels, Q141 ob2 cap2 x2.Select, Q73 ob3 cap3 x2.Terms, Q83 ob4 cap4 x2.Bears, Q3 ob5 cap5 x2.Ports, Q141 ob6 cap6 x2.Apart, Q141 ob7 cap7 x2.Spread] fun zx zH => ∃ (ob1_6 : Option Nat) (cap1_6 : Nat) (ob1_7 : Option Nat) (cap1_7 : Nat) (ob1_8 : Option Nat) (cap1_8 : Nat) (ob1_9 : Option Nat) (cap1_9 : Nat) (ob1_10 : Option Nat) (cap1_10 : Nat) (ob1_11 : Option Nat) (cap1_11 : Nat) (ob1_13 : Option Nat) (cap1_13 : Nat), zx = .tup [] ∧ zH = [.box b 98 [.ptr b2 0], .box b2 29 [.str r.Name, Iw r.Need.Cpu, Iw r.Need.Mem, Iw r.Need.Disk, Iw r.Need.Pods, Iw r.Need.Dev, Z141 ob1_6 r.Labels cap1_6, Z141 ob1_7 r.Select cap1_7, Z73 ob1_8 r.Terms cap1_8, Z83 ob1_9 r.Bears cap1_9, Z3 ob1_10 r.Ports cap1_10, Z141 ob1_11 r.Apart cap1_11, .bool r.Wide, Z141 ob1_13 r.Spread cap1_13, Iw r.Skew, Iw r.Rank, .str r.Owner, .bool r.Daemon, .bool r.Pinned, .bool r.Local], Q141 ob1_6 cap1_6 r.Labels, Q141 ob1_7 cap1_7 r.Select, Q73 ob1_8 cap1_8 r.Terms, Q83 ob1_9 cap1_9 r.Bears, Q3 ob1_10 cap1_10 r.Ports, Q141 ob1_11 cap1_11 r.Apart, Q141 ob1_13 cap1_13 r.Spread] := by
 refine B2 [] Tryz.func134 R R R fun r hm=>?_
 unfold spec_ofPod_5 at hm
 refine Ba (A7 [1,6,0,2,3,4,5,7,8] R)<|A3 2 mixed<|An tbk [0,1,2,3,5] [0,0] (by kernel_rfl) R R R<|Bd hm fun x3 h1 hm=>Au 6 R R R (by kernel_rfl) (A2 I_any20.vv R R el81 h1)<|Au 7 R R R (by kernel_rfl) (Bn R ld20 R)<|?_
 refine B0 [4,8] (by kernel_rfl) ⟨?_,?_,trivial⟩
 ·refine Ao R R R<|B4 (Bq (i:=0) R R ld27 R)<|Ai 8 (by kernel_rfl)<|Bd hm fun r h2 hm=>Ao R R R<|Aw 0 R fn90 R (K78 x3 r h2) fun _ _ h5=> ?_
  obtain ⟨rfl,rfl⟩:=h5
  refine Ai 9 (by kernel_rfl)<|Ao R R R<|Ax ap27 R R R R R fun b3=>Ai 10 (by kernel_rfl)<|Bd hm fun l h4 hm=>Ao R R R<|Bs 2 (VV.int .i64) (l:=x2.Ports) (l2:=[r]) ap27 R R (sT_row 0 (VV.int .i64) el27 R R) h4 fun ob8 cap8=>An tbk [11,12] [] (by kernel_rfl) R R R<|Ai 13 (by kernel_rfl)<|Ao R R R<|Al (i:=1) R R R ld27 R R R<|Ay (by kernel_rfl)<|?_
  obtain rfl:=Option.some.inj hm
  exact ⟨.inr R,_,.nil,[3,1,4,5,6,7,2,8,9],_,R,ob,cap,ob2,cap2,ob3,cap3,ob4,cap4,ob8,cap8,ob6,cap6,ob7,cap7,R,R⟩
 ·refine Bd hm fun r2 h6 hm=>Ao R R R<|Aw 0 R fn90 R (K78 x3 r2 h6) fun _ _ h11=> ?_
  obtain ⟨rfl,rfl⟩:=h11
  refine B0 [4,9] (by kernel_rfl) ⟨?_,?_,trivial⟩
  ·refine Ao R R R<|B4 (Bq (i:=0) R R ld27 R)<|Ai 9 (by kernel_rfl)<|Ao R R R<|Ax ap27 R R R R R fun b4=>Ai 10 (by kernel_rfl)<|Bd hm fun l2 h8 hm=>Ao R R R<|Bs 2 (VV.int .i64) (l:=x2.Ports) (l2:=[r2]) ap27 R R (sT_row 0 (VV.int .i64) el27 R R) h8 fun ob9 cap9=>An tbk [11,12] [] (by kernel_rfl) R R R<|Ai 13 (by kernel_rfl)<|Ao R R R<|Al (i:=1) R R R ld27 R R R<|Ay (by kernel_rfl)<|?_
   obtain rfl:=Option.some.inj hm
   exact ⟨.inr R,_,.nil,[3,1,4,5,6,7,2,8,9],_,R,ob,cap,ob2,cap2,ob3,cap3,ob4,cap4,ob9,cap9,ob6,cap6,ob7,cap7,R,R⟩
  ·refine Ao R R R<|Ax ap27 R R R R R fun b5=>Ai 4 (by kernel_rfl)<|Ao R R R<|B4 (Bq (i:=1) R R ld27 R)<|Ai 10 (by kernel_rfl)<|Bd hm fun l3 h10 hm=>Ao R R R<|Bs 2 (VV.int .i64) (l:=x2.Ports) (l2:=[r2]) ap27 R R (sT_row 0 (VV.int .i64) el27 R R) h10 fun ob10 cap10=>An tbk [11,12] [] (by kernel_rfl) R R R<|Ai 13 (by kernel_rfl)<|Ao R R R<|Al (i:=1) R R R ld27 R R R<|Ay (by kernel_rfl)<|?_
   obtain rfl:=Option.some.inj hm
   exact ⟨.inr R,_,.nil,[3,1,4,5,6,7,2,8,9],_,R,ob,cap,ob2,cap2,ob3,cap3,ob4,cap4,ob10,cap10,ob6,cap6,ob7,cap7,R,R⟩

/-! trireme/spec.number$1 -/
def spec_number_1 (x : List I_any20) (x2 : T_api_Pod) : Option T_api_Pod :=
 (V.gl x (0 : Int)).bind fun x3 =>
 (spec_num x3).bind fun r =>
 some (⟨x2.Name, x2.Need, x2.Labels, x2.Select, x2.Terms, x2.Bears, x2.Ports, x2.Apart, x2.Wide, x2.Spread, r, x2.Rank, x2.Owner, x2.Daemon, x2.Pinned, x2.Local⟩ : T_api_Pod)
theorem K90 (x : List I_any20) (x2 : T_api_Pod) (b : Nat) (b2 : Nat) (ob : Option Nat) (cap : Nat) (ob2 : Option Nat) (cap2 : Nat) (ob3 : Option Nat) (cap3 : Nat) (ob4 : Option Nat) (cap4 : Nat) (ob5 : Option Nat) (cap5 : Nat) (ob6 : Option Nat) (cap6 : Nat) (ob7 : Option Nat) (cap7 : Nat) : ∀ r : T_api_Pod, spec_number_1 x x2 = some r → VC Tryz.prog 141 [L20 x, .ptr b 0] [.box b 119 [.ptr b2 14], .box b2 29 [.str x2.Name, Iw x2.Need.Cpu, Iw x2.Need.Mem, Iw x2.Need.Disk, Iw x2.Need.Pods, Iw x2.Need.Dev, Z141 ob x2.Labels cap, Z141 ob2 x2.Select cap2, Z73 ob3 x2.Terms cap3, Z83 ob4 x2.Bears cap4, Z3 ob5 x2.Ports cap5, Z141 ob6 x2.Apart cap6, .bool x2.Wide, Z141 ob7 x2.Spread cap7, Iw x2.Skew, Iw x2.Rank, .str x2.Owner, .bool x2.Daemon, .bool x2.Pinned, .bool x2.Local], Q141 ob cap x2.Labels, Q141 ob2 cap2 x2.Select, Q73 ob3 cap3 x2.Terms, Q83 ob4 cap4 x2.Bears, Q3 ob5 cap5 x2.Ports, Q141 ob6 cap6 x2.Apart, Q141 ob7 cap7 x2.Spread] fun zx zH => ∃ (ob1_6 : Option Nat) (cap1_6 : Nat) (ob1_7 : Option Nat) (cap1_7 : Nat) (ob1_8 : Option Nat) (cap1_8 : Nat) (ob1_9 : Option Nat) (cap1_9 : Nat) (ob1_10 : Option Nat) (cap1_10 : Nat) (ob1_11 : Option Nat) (cap1_11 : Nat) (ob1_13 : Option Nat) (cap1_13 : Nat), zx = .tup [] ∧ zH = [.box b 119 [.ptr b2 14], .box b2 29 [.str r.Name, Iw r.Need.Cpu, Iw r.Need.Mem, Iw r.Need.Disk, Iw r.Need.Pods, Iw r.Need.Dev, Z141 ob1_6 r.Labels cap1_6, Z141 ob1_7 r.Select cap1_7, Z73 ob1_8 r.Terms cap1_8, Z83 ob1_9 r.Bears cap1_9, Z3 ob1_10 r.Ports cap1_10, Z141 ob1_11 r.Apart cap1_11, .bool r.Wide, Z141 ob1_13 r.Spread cap1_13, Iw r.Skew, Iw r.Rank, .str r.Owner, .bool r.Daemon, .bool r.Pinned, .bool r.Local], Q141 ob1_6 cap1_6 r.Labels, Q141 ob1_7 cap1_7 r.Select, Q73 ob1_8 cap1_8 r.Terms, Q83 ob1_9 cap1_9 r.Bears, Q3 ob1_10 cap1_10 r.Ports, Q141 ob1_11 cap1_11 r.Apart, Q141 ob1_13 cap1_13 r.Spread] := by
 refine B2 [] Dk R R R fun r hm=>?_
 unfold spec_number_1 at hm
 refine Ba (A7 [1,0,2,3,4,5,6,7,8] R)<|A3 1 mixed<|An tbk [0,1] [0] (by kernel_rfl) R R R<|Bd hm fun x3 h1 hm=>Au 2 R R R (by kernel_rfl) (A2 I_any20.vv R R el81 h1)<|Au 3 R R R (by kernel_rfl) (Bn R ld20 R)<|Ai 4 (by kernel_rfl)<|Bd hm fun r h2 hm=>Ao R R R<|Aw 0 R fn90 R (K78 x3 r h2) fun _ _ h3=> ?_
 obtain ⟨rfl,rfl⟩:=h3
 refine Au 5 R R R (by kernel_rfl) (Bw R)<|Ai 6 (by kernel_rfl)<|Ao R R R<|Al (i:=0) R R R ld3 R R R<|Ay (by kernel_rfl)<|?_
 obtain rfl:=Option.some.inj hm
 exact ⟨.inr R,_,.nil,[1,0,2,3,4,5,6,7,8],_,R,ob,cap,ob2,cap2,ob3,cap3,ob4,cap4,ob5,cap5,ob6,cap6,ob7,cap7,R,R⟩

end Go.Proofs.YtkondhigbbgidaaGreat.M

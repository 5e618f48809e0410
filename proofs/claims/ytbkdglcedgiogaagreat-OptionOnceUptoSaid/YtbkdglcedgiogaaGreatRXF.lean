/-
  Printed by a program of this session out of the loaded functions: models and their proofs. Own text.
-/
import Derived.Test.YtbkdglcedgiogaaGreatRXF1
namespace Go.Proofs.YtbkdglcedgiogaaGreat.M
open Go Go.Proofs Go.Proofs.YtbkdglcedgiogaaGreat.V
open Go.IntKind (i64)
set_option linter.unusedVariables false
set_option maxRecDepth 20000
set_option maxHeartbeats 4000000
/-! trireme/triremeref10.Suits -/
def ref10_Suits (m : T_api_Machine) (bs : List T_api_Bound) (p : T_api_Pod) : Option Int :=
 (ref10_Place m p).bind fun r =>
 if (r != 0) = true then
  some r
 else
  (ref10_Room m bs p).bind fun r2 =>
  some r2
theorem K0 (m : T_api_Machine) (bs : List T_api_Bound) (p : T_api_Pod) : VS Tryz.prog 81 (ref10_Suits m bs p) [T_api_Machine.vv m, L50 bs, T_api_Pod.vv p] [] Iw N0 := by
 refine A4 [.tmp 6] Tryz.func81 R R R fun r hm=>?_
 unfold ref10_Suits at hm
 exact Ah<|Ad R R<|A9 R R fun b=>Ad R R<|A9 R R fun b2=>Ab R R (Ai R)<|Ac<|Ah<|Aa tbk [1,0] 2 R R<|Ad R R<|An hm 0 R fn115 R (K145 _ _) fun r hm=>Ab R R (Ai R)<|Ac<|Af<|Ag tbk [] R R<|Ak hm R (fun h4 hm=>Ag tbk [] R R<|Rt1 hm R [] R R R) fun h4 hm=>Aj<|Ah<|Aa tbk [1,0] 3 R R<|Ad R R<|An hm 0 R fn116 R (K152 _ _ _) fun r2 hm=>Ab R R (Ai R)<|Ac<|Rt1 hm R [] R R R

/-! trireme/triremeref11.zone -/
def ref11_zone (ms : List T_api_Machine) (name : ByteArray) : Option (ByteArray × Bool) :=
 (ref09_Find ms name).bind fun r =>
 if (decide (r < 0)) = true then
  some ((⟨#[]⟩ : ByteArray), false)
 else
  (V.gl ms r).bind fun x =>
  (ref05_Get x.Labels (⟨#[122, 111, 110, 101]⟩ : ByteArray)).bind fun r2 =>
  some (r2.1, r2.2)
theorem K1 (ms : List T_api_Machine) (name : ByteArray) : VS Tryz.prog 150 (ref11_zone ms name) [L30 ms, .str name] [] (fun r=>.tup [.str r.1, .bool r.2]) N0 := by
 refine A4 [.tmp 4,.tmp 5] Tryz.func150 R R R fun r hm=>?_
 unfold ref11_zone at hm
 exact Ag tbk [] R R<|Ah<|Aa tbk [] 2 R R<|Ad R R<|An hm 0 R fn80 R (K49 _ _) fun r hm=>Ab R R (Ai R)<|Ac<|Af<|Ag tbk [] R R<|Ak hm R (fun h2 hm=>Ag tbk [] R R<|Rt2 hm R [] R R R R) fun h2 hm=>Aj<|Ah<|Aa tbk [] 2 R R<|Bd hm fun x h3 hm=>Ab R R (A3 T_api_Machine.vv R R el22 h3)<|Aa tbk [] 2 R R<|Ad R R<|An hm 0 R fn163 R (K137 _ _) fun r2 hm=>Aa tbk [] 4 R R<|Ac<|Rt2 hm R [] R R R R

/-! trireme/triremeref11.together -/
def ref11_together (ms : List T_api_Machine) (a : ByteArray) (b : ByteArray) (wide : Bool) : Option Bool :=
 if (V.seq a b) = true then
  some true
 else
  (ref11_zone ms a).bind fun r =>
  (ref11_zone ms b).bind fun r2 =>
  some (((wide && r.2) && r2.2) && (V.seq r.1 r2.1))
theorem K2 (ms : List T_api_Machine) (a : ByteArray) (b : ByteArray) (wide : Bool) : VS Tryz.prog 149 (ref11_together ms a b wide) [L30 ms, .str a, .str b, .bool wide] [] .bool N0 := by
 refine A4 [.tmp 8] Tryz.func149 R R R fun r hm=>?_
 unfold ref11_together at hm
 exact Ag tbk [] R R<|Af<|Ag tbk [] R R<|Ak hm R (fun h1 hm=>Ag tbk [] R R<|Rt1 hm R [] R R R) fun h1 hm=>Aj<|Ah<|Aa tbk [] 2 R R<|Ad R R<|An hm 0 R fn150 R (K1 _ _) fun r hm=>Aa tbk [] 5 R R<|Ac<|Ah<|Aa tbk [] 2 R R<|Ad R R<|An hm 0 R fn150 R (K1 _ _) fun r2 hm=>Aa tbk [] 5 R R<|Ac<|Ah<|Aa tbk [] 2 R R<|Bv tbk [] 2 31 29 R R R R R<|Ab R R (Al R)<|Bv tbk [] 2 34 32 R R R R R<|Ab R R (Al R)<|Bv tbk [] 4 39 35 R R R R R<|Ab R R (Ai R)<|Ac<|Rt1 hm R [] R R R

/-! trireme/triremeref11.Near -/
def ref11_Near.l1 (ms : List T_api_Machine) (bs : List T_api_Bound) (p : T_api_Pod) (on_ : ByteArray) : Nat → Int → Option (Out Bool Unit)
 | 0, _ => none
 | n + 1, i2 =>
  if (decide (i2 < (bs.length : Int))) = true then
   (V.gl bs i2).bind fun x =>
   (if (V.seq x.Pod.Name p.Name) = true then some true else (V.gl bs i2).bind fun x2 =>
   some (V.seq x2.On (⟨#[]⟩ : ByteArray))).bind fun c =>
   if c = true then
    ref11_Near.l1 ms bs p on_ n (i64.wrap (i2 + 1))
   else
    (if (decide ((p.Apart.length : Int) > 0)) = true then (ref05_Has x.Pod.Labels p.Apart).bind fun r2 =>
    some r2 else some false).bind fun c2 =>
    (if c2 = true then (V.gl bs i2).bind fun x3 =>
    (ref11_together ms on_ x3.On p.Wide).bind fun r3 =>
    some r3 else some false).bind fun c3 =>
    if c3 = true then
     some (Out.ret true)
    else
     (if (decide ((x.Pod.Apart.length : Int) > 0)) = true then (ref05_Has p.Labels x.Pod.Apart).bind fun r4 =>
     some r4 else some false).bind fun c4 =>
     (if c4 = true then (V.gl bs i2).bind fun x4 =>
     (ref11_together ms on_ x4.On x.Pod.Wide).bind fun r5 =>
     some r5 else some false).bind fun c5 =>
     if c5 = true then
      some (Out.ret true)
     else
      ref11_Near.l1 ms bs p on_ n (i64.wrap (i2 + 1))
  else
   some (Out.go ())
def ref11_Near (ms : List T_api_Machine) (bs : List T_api_Bound) (p : T_api_Pod) (on_ : ByteArray) : Option Bool :=
 (ref09_Find ms on_).bind fun r =>
 if (decide (r < 0)) = true then
  some false
 else
  (ref11_Near.l1 ms bs p on_ FU (0 : Int)).bind fun o =>
  o.on fun j =>
  some false
theorem K3 (ms : List T_api_Machine) (bs : List T_api_Bound) (p : T_api_Pod) (on_ : ByteArray) : VS Tryz.prog 117 (ref11_Near ms bs p on_) [L30 ms, L50 bs, T_api_Pod.vv p, .str on_] [] .bool N0 := by
 refine A4 [.tmp 8] Tryz.func117 R R R fun r hm=>?_
 unfold ref11_Near at hm
 refine Ah<|Ad R R<|A9 R R fun b=>Ab R R (Ai R)<|Ac<|Af<|Ah<|Aa tbk [] 2 R R<|Ad R R<|An hm 0 R fn80 R (K49 _ _) fun r hm=>Ab R R (A2 R R R)<|Ac<|Ak hm R (fun h3 hm=>Ag tbk [] R R<|Rt1 hm R [] R R R) fun h3 hm=>Aj<|Af<|Ag tbk [] R R<|Bq hm (fun _ (_:Unit)=>[]) (fun _ (_:Unit)=>[]) (fun o hm h5=>?_) fun j _ hm=> ?_
 ·refine Bh (fun zn (zs:Int)=>ref11_Near.l1 ms bs p on_ zn zs) (fun zs (_:Unit)=>[(0,L30 ms),(1,L50 bs),(3,.str on_),(6,.ptr b 0),(9,Iw zs)]) (fun _ (_:Unit)=>[X48 b p]) _ () (fun _=>R) hm (Ae [0] R R) fun n i2 _ hm=> ?_
  rw [ref11_Near.l1] at hm
  refine Af<|Ah<|Aa tbk [] 2 R R<|Ab R R (Ax T_api_Bound.vv R Bw)<|Ab R R (A2 R R R)<|Ac<|Ak hm R (fun h6 hm=>?_) fun h6 hm=> ?_
  ·refine Aj<|Af<|Aw<|Ah<|Aa tbk [] 2 R R<|Bd hm fun x h7 hm=>Ab R R (A3 T_api_Bound.vv R R el23 h7)<|Aa tbk [] 2 R R<|Ad R R<|Av z48 fun b2=>Ad R R<|Am (i:=0) R R R ld48 R R R<|Ac<|Af<|Ah<|Aa tbk [0,1] 6 R R<|Bc hm 7 38 31 R (fun _ K' h9 J hm=>Aa tbk [] 7 R R<|J 6 R R (Bj hm)) (fun _ K' h9 J hm=>Aa tbk [] 2 R R<|Bd hm fun x2 h10 hm=>Bm R R R R R (A3 T_api_Bound.vv R R el23 h10)<|Aa tbk [] 4 R R<|J 6 R R (Bj hm)) fun c hm=>Ac<|Ak hm R (fun h12 hm=>A0<|A1 tbk [] R R<|Ap _ () hm (Ae [1] R R)) fun h12 hm=>Aj<|Af<|Af<|Bb 0 mixed<|Au tbk [0,1] [1] (by kernel_rfl) R R R<|A6 2 R R R (by kernel_rfl) (Ax T_api_Label.vv R Bu)<|Au tbk [3,4] [] (by kernel_rfl) R R R<|Ci hm [10,9,8,7,6,5,4,3,2,1,0] 49 43 R (fun _ K' h13 J hm=>Au tbk [5,6,7,8] [0,1] (by kernel_rfl) R R R<|Ao 9 (by kernel_rfl)<|Ch R R R R R R<|An hm 0 R fn143 R (K138 _ _) fun r2 hm=>A6 10 R R R (by kernel_rfl) (Bg true R R R)<|J 5 R R (Bj hm)) (fun _ K' h13 J hm=>Au tbk [5,6,7,8,9,10] [] (by kernel_rfl) R R R<|J 5 R R (Bj hm)) fun c2 hm=>A6 11 R R R (by kernel_rfl) (Al R)<|Ci hm [22,21,20,19,18,17,16,15,14,13,12,11,10,9,8,7,6,5,4,3,2,1,0] 61 50 R (fun _ K' h16 J hm=>Au tbk [12,13,14,15] [] (by kernel_rfl) R R R<|Bd hm fun x3 h17 hm=>B3 16 R R R R R R (by kernel_rfl) (A3 T_api_Bound.vv R R el23 h17)<|Au tbk [17,18,19,20] [1] (by kernel_rfl) R R R<|Ao 21 (by kernel_rfl)<|Ch R R R R R R<|An hm 0 R fn149 R (K2 _ _ _ _) fun r3 hm=>A6 22 R R R (by kernel_rfl) (Bg true R R R)<|J 10 R R (Bj hm)) (fun _ K' h16 J hm=>Au tbk [12,13,14,15,16,17,18,19,20,21,22] [] (by kernel_rfl) R R R<|J 10 R R (Bj hm)) fun c3 hm=>A5 (by kernel_rfl)<|Ak hm R (fun h20 hm=>Ag tbk [] R R<|have hm:=Lr hm h5;Rt1 hm R [] R R R) fun h20 hm=>Aj<|Af<|Bb 0 mixed<|Au tbk [0,1] [0] (by kernel_rfl) R R R<|A6 2 R R R (by kernel_rfl) (Ax T_api_Label.vv R Bu)<|Au tbk [3,4] [] (by kernel_rfl) R R R<|Ci hm [10,9,8,7,6,5,4,3,2,1,0] 72 66 R (fun _ K' h21 J hm=>Au tbk [5,6,7,8] [1,0] (by kernel_rfl) R R R<|Ao 9 (by kernel_rfl)<|Ch R R R R R R<|An hm 0 R fn143 R (K138 _ _) fun r4 hm=>A6 10 R R R (by kernel_rfl) (Bg true R R R)<|J 5 R R (Bj hm)) (fun _ K' h21 J hm=>Au tbk [5,6,7,8,9,10] [] (by kernel_rfl) R R R<|J 5 R R (Bj hm)) fun c4 hm=>A6 11 R R R (by kernel_rfl) (Al R)<|Ci hm [22,21,20,19,18,17,16,15,14,13,12,11,10,9,8,7,6,5,4,3,2,1,0] 84 73 R (fun _ K' h24 J hm=>Au tbk [12,13,14,15] [] (by kernel_rfl) R R R<|Bd hm fun x4 h25 hm=>B3 16 R R R R R R (by kernel_rfl) (A3 T_api_Bound.vv R R el23 h25)<|Au tbk [17,18,19,20] [0] (by kernel_rfl) R R R<|Ao 21 (by kernel_rfl)<|Ch R R R R R R<|An hm 0 R fn149 R (K2 _ _ _ _) fun r5 hm=>A6 22 R R R (by kernel_rfl) (Bg true R R R)<|J 10 R R (Bj hm)) (fun _ K' h24 J hm=>Au tbk [12,13,14,15,16,17,18,19,20,21,22] [] (by kernel_rfl) R R R<|J 10 R R (Bj hm)) fun c5 hm=>A5 (by kernel_rfl)<|?_
   exact Ak hm R (fun h28 hm=>Ag tbk [] R R<|have hm:=Lr hm h5;Rt1 hm R [] R R R) fun h28 hm=>Aj<|A1 tbk [] R R<|Ap _ () hm (Ae [1] R R)
  exact A0<|Ar () hm (Ae [] R R)
 exact Ag tbk [] R R<|Rt1 hm R [] R R R

/-! trireme/triremeref09.Zones -/
def ref09_Zones.l2 (out2 : List ByteArray) (r : ByteArray × Bool) : Nat → Bool → Int → Option Bool
 | 0, _, _ => none
 | n2 + 1, is2, k2 =>
  if (decide (k2 < (out2.length : Int))) = true then
   (if is2 = true then (V.gl out2 k2).bind fun x2 =>
   some (!(V.seq x2 r.1)) else some false).bind fun c =>
   ref09_Zones.l2 out2 r n2 c (i64.wrap (k2 + 1))
  else
   some is2
def ref09_Zones.l1 (ms : List T_api_Machine) : Nat → (List ByteArray) → Int → Option (List ByteArray)
 | 0, _, _ => none
 | n + 1, out2, i2 =>
  if (decide (i2 < (ms.length : Int))) = true then
   (V.gl ms i2).bind fun x =>
   (ref05_Get x.Labels (⟨#[122, 111, 110, 101]⟩ : ByteArray)).bind fun r =>
   (ref09_Zones.l2 out2 r FU r.2 (0 : Int)).bind fun is32 =>
   (if is32 = true then (V.gl ms i2).bind fun x3 =>
   some x3.Ready else some false).bind fun c2 =>
   if c2 = true then
    (V.ap 16 out2 [r.1]).bind fun out4 =>
    ref09_Zones.l1 ms n out4 (i64.wrap (i2 + 1))
   else
    ref09_Zones.l1 ms n out2 (i64.wrap (i2 + 1))
  else
   some out2
def ref09_Zones (ms : List T_api_Machine) : Option (List ByteArray) :=
 (ref09_Zones.l1 ms FU ([] : List ByteArray) (0 : Int)).bind fun out32 =>
 some out32
theorem K4 (ms : List T_api_Machine) : VS2 Tryz.prog 167 (ref09_Zones ms) [L30 ms] [] (fun r ob0 cap0=>Z9 ob0 r cap0) (fun r ob0 cap0=>[Q9 ob0 cap0 r]) := by
 refine Cg [.tmp 2] Tryz.func167 R R R fun r hm=>?_
 unfold ref09_Zones at hm
 refine Ag tbk [] R R<|Ag tbk [] R R<|Af<|Ag tbk [] R R<|Bx hm (fun out32 (gg:Option Nat × Nat)=>[(3,Z9 gg.1 out32 gg.2)]) (fun out32 (gg:Option Nat × Nat)=>[Q9 gg.1 gg.2 out32]) (fun o hm=>?_) fun out32=>Pq fun ob3 cap3 hm=> ?_
 ·refine Bh (fun zn (zs:List ByteArray × Int)=>ref09_Zones.l1 ms zn zs.1 zs.2) (fun zs (zg:Option Nat × Nat)=>[(0,L30 ms),(3,Z9 zg.1 zs.1 zg.2),(4,Iw zs.2)]) (fun zs (zg:Option Nat × Nat)=>[Q9 zg.1 zg.2 zs.1]) (([] : List ByteArray),(0 : Int)) (none,0) (fun _=>R) hm (Be (Ba 9) (Ae [0] R R)) fun n=>Pq fun out2 i2=>Pq fun ob2 cap2 hm=> ?_
  rw [ref09_Zones.l1] at hm
  refine Af<|Ah<|Aa tbk [] 2 R R<|Ab R R (Ax T_api_Machine.vv R B2)<|Ab R R (A2 R R R)<|Ac<|Ak hm R (fun h5 hm=>?_) fun h5 hm=> ?_
  ·refine Aj<|Af<|Aw<|Ah<|Aa tbk [] 2 R R<|Bd hm fun x h6 hm=>Ab R R (A3 T_api_Machine.vv R R el22 h6)<|Aa tbk [] 2 R R<|Ad R R<|An hm 0 R fn163 R (K137 _ _) fun r hm=>Aa tbk [] 5 R R<|Ac<|Af<|Ag tbk [] R R<|Bx hm (fun is32 (_:Unit)=>[(0,L30 ms),(3,Z9 ob2 out2 cap2),(4,Iw i2),(5,.str r.1),(6,.bool is32)]) (fun _ (_:Unit)=>[Q9 ob2 cap2 out2]) (fun o2 hm=>?_) fun is32 _ hm=> ?_
   ·refine Bh (fun zn (zs:Bool × Int)=>ref09_Zones.l2 out2 r zn zs.1 zs.2) (fun zs (_:Unit)=>[(0,L30 ms),(3,Z9 ob2 out2 cap2),(4,Iw i2),(5,.str r.1),(6,.bool zs.1),(7,Iw zs.2)]) (fun _ (_:Unit)=>[Q9 ob2 cap2 out2]) (r.2,(0 : Int)) () (fun _=>R) hm (Ae [0] R R) fun n2=>Pq fun is2 k2 _ hm=> ?_
    rw [ref09_Zones.l2] at hm
    refine Af<|Ah<|Aa tbk [] 2 R R<|Ab R R (C2 VV.str R Bf)<|Ab R R (A2 R R R)<|Ac<|Ak hm R (fun h10 hm=>?_) fun h10 hm=> ?_
    ·refine Aj<|Af<|Aw<|Bk<|Aa tbk [] 2 R R<|Bc hm 7 37 30 R (fun _ K' h11 J hm=>?_) (fun _ K' h11 J hm=>Aa tbk [] 7 R R<|J 6 R R (Bj hm)) fun c hm=> ?_
     ·refine Aa tbk [] 2 R R<|Bd hm fun x2 h12 hm=>Cv 0 R (gl_pos VV.str h12) fun b h13=> ?_
      subst h13
      exact Bm R R R R R (Cy VV.str R R el51 h12)<|Bm R R R R R (Cr (i:=0) (y:=VV.str x2) R R R (gl_map _ (gl_some h12).2) ld9 R)<|Aa tbk [] 3 R R<|J 6 R R (Bj hm)
     exact Ab R R (Ai R)<|Ac<|A1 tbk [] R R<|Ap (c,(IntKind.i64.wrap (k2 + (1 : Int)))) () hm (Ae [0] R R)
    exact A0<|As () hm (Ae [0] R R)
   exact Ah<|Aa tbk [] 2 R R<|Bc hm 6 45 39 R (fun _ K' h15 J hm=>Aa tbk [] 2 R R<|Bd hm fun x3 h16 hm=>Bm R R R R R (A3 T_api_Machine.vv R R el22 h16)<|Aa tbk [] 3 R R<|J 5 R R (Bj hm)) (fun _ K' h15 J hm=>Aa tbk [] 6 R R<|J 5 R R (Bj hm)) fun c2 hm=>Ac<|Ak hm R (fun h18 hm=>Bk<|Aa tbk [] 2 R R<|Ad R R<|A7 ap51 R R R R R fun b2=>Bd hm fun out4 h20 hm=>Ad R R<|B1 1 VV.str (l:=out2) (l2:=[r.1]) ap51 R R (sT_row 0 VV.str el51 R R) h20 fun ob4 cap4=>Ab R R (Ai R)<|Ac<|A1 tbk [] R R<|Ap (out4,(IntKind.i64.wrap (i2 + (1 : Int)))) (ob4,cap4) hm (Ae [1] R R)) fun h18 hm=>Aj<|A1 tbk [] R R<|Ap (out2,(IntKind.i64.wrap (i2 + (1 : Int)))) (ob2,cap2) hm (Ae [0] R R)
  exact A0<|As (ob2,cap2) hm (Ae [0] R R)
 exact Ag tbk [] R R<|Rg2 hm R [0] ob3 cap3 (.cons (.tmp _ _ R) .nil) R R

/-! trireme/triremeref11.Counts -/
def ref11_Counts.l2 (ms : List T_api_Machine) (bs : List T_api_Bound) (p : T_api_Pod) (r : List ByteArray) (i2 : Int) : Nat → Int → Int → Option Int
 | 0, _, _ => none
 | n5 + 1, k2, j2 =>
  if (decide (j2 < (bs.length : Int))) = true then
   (V.gl bs j2).bind fun x =>
   (ref11_zone ms x.On).bind fun r2 =>
   (V.gl bs j2).bind fun x2 =>
   (if (!(V.seq x2.On (⟨#[]⟩ : ByteArray))) = true then (V.gl bs j2).bind fun x3 =>
   some (!(V.seq x3.Pod.Name p.Name)) else some false).bind fun c =>
   (if (c && r2.2) = true then (V.gl r i2).bind fun x4 =>
   some (V.seq r2.1 x4) else some false).bind fun c2 =>
   (if c2 = true then (V.gl bs j2).bind fun x5 =>
   (ref05_Has x5.Pod.Labels p.Spread).bind fun r3 =>
   some r3 else some false).bind fun c3 =>
   if c3 = true then
    ref11_Counts.l2 ms bs p r i2 n5 (i64.wrap (k2 + 1)) (i64.wrap (j2 + 1))
   else
    ref11_Counts.l2 ms bs p r i2 n5 k2 (i64.wrap (j2 + 1))
  else
   some k2
def ref11_Counts.l1 (ms : List T_api_Machine) (bs : List T_api_Bound) (p : T_api_Pod) (r : List ByteArray) : Nat → (List Int) → Int → Option (List Int)
 | 0, _, _ => none
 | n4 + 1, n2, i2 =>
  if (decide (i2 < (r.length : Int))) = true then
   (ref11_Counts.l2 ms bs p r i2 FU 0 (0 : Int)).bind fun k32 =>
   (V.ap 8 n2 [k32]).bind fun n6 =>
   ref11_Counts.l1 ms bs p r n4 n6 (i64.wrap (i2 + 1))
  else
   some n2
def ref11_Counts (ms : List T_api_Machine) (bs : List T_api_Bound) (p : T_api_Pod) : Option (List ByteArray × List Int) :=
 (ref09_Zones ms).bind fun r =>
 (ref11_Counts.l1 ms bs p r FU ([] : List Int) (0 : Int)).bind fun n32 =>
 some (r, n32)
theorem K5 (ms : List T_api_Machine) (bs : List T_api_Bound) (p : T_api_Pod) : VS2 Tryz.prog 151 (ref11_Counts ms bs p) [L30 ms, L50 bs, T_api_Pod.vv p] [] (fun r ob1 cap1=>.tup [L9 r.1, Z3 ob1 r.2 cap1]) (fun r ob1 cap1=>[Q3 ob1 cap1 r.2]) := by
 refine Cg [.tmp 6,.tmp 7] Tryz.func151 R R R fun r hm=>?_
 unfold ref11_Counts at hm
 refine Ah<|Ad R R<|A9 R R fun b=>Aa tbk [] 2 R R<|Ac<|Ah<|Ab R R (Al R)<|Ad R R<|Cc hm 0 R fn167 R (K4 _) fun r ob cap hm=>Bp (Az 0 [(16,L9 r)] R ⟨⟨_,R,.here _ R⟩,trivial⟩ (FzH.refl _))<|Ab R R (Ai R)<|Ac<|Ag tbk [] R R<|Af<|Ag tbk [] R R<|Bx hm (fun n32 (gg:Option Nat × Nat)=>[(8,L9 r),(9,Z3 gg.1 n32 gg.2)]) (fun n32 (gg:Option Nat × Nat)=>[Q3 gg.1 gg.2 n32]) (fun o hm=>?_) fun n32=>Pq fun ob4 cap4 hm=> ?_
 ·refine Bh (fun zn (zs:List Int × Int)=>ref11_Counts.l1 ms bs p r zn zs.1 zs.2) (fun zs (zg:Option Nat × Nat)=>[(0,L30 ms),(1,L50 bs),(5,.ptr b 0),(8,L9 r),(9,Z3 zg.1 zs.1 zg.2),(10,Iw zs.2)]) (fun zs (zg:Option Nat × Nat)=>[Q3 zg.1 zg.2 zs.1,X48 b p]) (([] : List Int),(0 : Int)) (none,0) (fun _=>R) hm (Be (Ba 3) (Ae [0,0] R R)) fun n4=>Pq fun n2 i2=>Pq fun ob3 cap3 hm=> ?_
  rw [ref11_Counts.l1] at hm
  refine Af<|Ah<|Aa tbk [] 2 R R<|Ab R R (Ax VV.str R Bf)<|Ab R R (A2 R R R)<|Ac<|Ak hm R (fun h8 hm=>?_) fun h8 hm=> ?_
  ·refine Aj<|Af<|Aw<|Ag tbk [] R R<|Af<|Ag tbk [] R R<|Bx hm (fun k32 (_:Unit)=>[(0,L30 ms),(1,L50 bs),(5,.ptr b 0),(8,L9 r),(9,Z3 ob3 n2 cap3),(10,Iw i2),(11,Iw k32)]) (fun _ (_:Unit)=>[Q3 ob3 cap3 n2,X48 b p]) (fun o2 hm=>?_) fun k32 _ hm=> ?_
   ·refine Bh (fun zn (zs:Int × Int)=>ref11_Counts.l2 ms bs p r i2 zn zs.1 zs.2) (fun zs (_:Unit)=>[(0,L30 ms),(1,L50 bs),(5,.ptr b 0),(8,L9 r),(9,Z3 ob3 n2 cap3),(10,Iw i2),(11,Iw zs.1),(12,Iw zs.2)]) (fun _ (_:Unit)=>[Q3 ob3 cap3 n2,X48 b p]) ((0 : Int),(0 : Int)) () (fun _=>R) hm (Ae [0,0] R R) fun n5=>Pq fun k2 j2 _ hm=> ?_
    rw [ref11_Counts.l2] at hm
    refine Af<|Ah<|Aa tbk [] 2 R R<|Ab R R (Ax T_api_Bound.vv R Bw)<|Ab R R (A2 R R R)<|Ac<|Ak hm R (fun h11 hm=>?_) fun h11 hm=> ?_
    ·exact Aj<|Af<|Aw<|Ah<|Aa tbk [] 3 R R<|Bd hm fun x h12 hm=>Ab R R (A3 T_api_Bound.vv R R el23 h12)<|Aa tbk [] 2 R R<|Ad R R<|An hm 0 R fn150 R (K1 _ _) fun r2 hm=>Aa tbk [] 5 R R<|Ac<|Af<|Bb 0 mixed<|Au tbk [0,1] [] (by kernel_rfl) R R R<|Bd hm fun x2 h14 hm=>A6 2 R R R (by kernel_rfl) (A3 T_api_Bound.vv R R el23 h14)<|Au tbk [3,4,5,6] [] (by kernel_rfl) R R R<|Ci hm [16,15,14,13,12,11,10,9,8,7,6,5,4,3,2,1,0] 55 45 R (fun _ K' h15 J hm=>Au tbk [7,8] [] (by kernel_rfl) R R R<|Bd hm fun x3 h16 hm=>B3 9 R R R R R R (by kernel_rfl) (A3 T_api_Bound.vv R R el23 h16)<|Au tbk [10,11,12,13,14,15,16] [1] (by kernel_rfl) R R R<|J 9 R R (Bj hm)) (fun _ K' h15 J hm=>Au tbk [7,8,9,10,11,12,13,14,15,16] [] (by kernel_rfl) R R R<|J 9 R R (Bj hm)) fun c hm=>A6 17 R R R (by kernel_rfl) (Al R)<|VA.sa [19,18,17,16,15,14,13,12,11,10,9,8,7,6,5,4,3,2,1,0] 58 56 R (fun h18 K' J=>Au tbk [18,19] [] (by kernel_rfl) R R R<|J 1 R R R) (fun K' J=>Au tbk [18,19] [] (by kernel_rfl) R R R<|J 1 R R R)<|A6 20 R R R (by kernel_rfl) (Al R)<|Ci hm [27,26,25,24,23,22,21,20,19,18,17,16,15,14,13,12,11,10,9,8,7,6,5,4,3,2,1,0] 66 59 R (fun _ K' h19 J hm=>Au tbk [21,22,23] [] (by kernel_rfl) R R R<|Bd hm fun x4 h20 hm=>B3 24 R R R R R R (by kernel_rfl) (A3 VV.str R R el51 h20)<|Au tbk [25,26,27] [] (by kernel_rfl) R R R<|J 6 R R (Bj hm)) (fun _ K' h19 J hm=>Au tbk [21,22,23,24,25,26,27] [] (by kernel_rfl) R R R<|J 6 R R (Bj hm)) fun c2 hm=>A6 28 R R R (by kernel_rfl) (Al R)<|Ci hm [38,37,36,35,34,33,32,31,30,29,28,27,26,25,24,23,22,21,20,19,18,17,16,15,14,13,12,11,10,9,8,7,6,5,4,3,2,1,0] 77 67 R (fun _ K' h22 J hm=>Au tbk [29,30] [] (by kernel_rfl) R R R<|Bd hm fun x5 h23 hm=>B3 31 R R R R R R (by kernel_rfl) (A3 T_api_Bound.vv R R el23 h23)<|Au tbk [32,33,34,35,36] [1] (by kernel_rfl) R R R<|Ao 37 (by kernel_rfl)<|Ch R R R R R R<|An hm 0 R fn143 R (K138 _ _) fun r3 hm=>A6 38 R R R (by kernel_rfl) (Bg true R R R)<|J 9 R R (Bj hm)) (fun _ K' h22 J hm=>Au tbk [29,30,31,32,33,34,35,36,37,38] [] (by kernel_rfl) R R R<|J 9 R R (Bj hm)) fun c3 hm=>A5 (by kernel_rfl)<|Ak hm R (fun h26 hm=>A1 tbk [] R R<|A1 tbk [] R R<|Ap ((IntKind.i64.wrap (k2 + (1 : Int))),(IntKind.i64.wrap (j2 + (1 : Int)))) () hm (Ae [0,0] R R)) fun h26 hm=>Aj<|A1 tbk [] R R<|Ap (k2,(IntKind.i64.wrap (j2 + (1 : Int)))) () hm (Ae [0,0] R R)
    exact A0<|As () hm (Ae [0,0] R R)
   exact Bk<|Aa tbk [] 2 R R<|Ad R R<|A7 ap41 R R R R R fun b2=>Bd hm fun n6 h28 hm=>Ad R R<|B1 1 (VV.int .i64) (l:=n2) (l2:=[k32]) ap41 R R (sT_row 0 (VV.int .i64) el41 R R) h28 fun ob5 cap5=>Ab R R (Ai R)<|Ac<|A1 tbk [] R R<|Ap (n6,(IntKind.i64.wrap (i2 + (1 : Int)))) (ob5,cap5) hm (Ae [1,1] R R)
  exact A0<|As (ob3,cap3) hm (Ae [0] R R)
 exact Ag tbk [] R R<|Rg2 hm R [0] ob4 cap4 (.cons (.tmp _ _ R) (.cons (.tmp _ _ R) .nil)) R R

/-! trireme/triremeref11.Many -/
def ref11_Many.l1 (r2 : ByteArray × Bool) (r3 : List ByteArray × List Int) : Nat → Int → Int → Int → Option (Int × Int)
 | 0, _, _, _ => none
 | n + 1, mine2, least2, i2 =>
  if (decide (i2 < (r3.1.length : Int))) = true then
   (if (i2 == 0) = true then some true else (V.gl r3.2 i2).bind fun x =>
   some (decide (x < least2))).bind fun c2 =>
   if c2 = true then
    (V.gl r3.2 i2).bind fun x2 =>
    (if r2.2 = true then (V.gl r3.1 i2).bind fun x3 =>
    some (V.seq x3 r2.1) else some false).bind fun c3 =>
    if c3 = true then
     (V.gl r3.2 i2).bind fun x4 =>
     ref11_Many.l1 r2 r3 n x4 x2 (i64.wrap (i2 + 1))
    else
     ref11_Many.l1 r2 r3 n mine2 x2 (i64.wrap (i2 + 1))
   else
    (if r2.2 = true then (V.gl r3.1 i2).bind fun x5 =>
    some (V.seq x5 r2.1) else some false).bind fun c4 =>
    if c4 = true then
     (V.gl r3.2 i2).bind fun x6 =>
     ref11_Many.l1 r2 r3 n x6 least2 (i64.wrap (i2 + 1))
    else
     ref11_Many.l1 r2 r3 n mine2 least2 (i64.wrap (i2 + 1))
  else
   some (mine2, least2)
def ref11_Many (ms : List T_api_Machine) (bs : List T_api_Bound) (p : T_api_Pod) (on_ : ByteArray) : Option Bool :=
 (if ((p.Spread.length : Int) == 0) = true then some true else (ref09_Find ms on_).bind fun r =>
 some (decide (r < 0))).bind fun c =>
 if c = true then
  some false
 else
  (ref11_zone ms on_).bind fun r2 =>
  (ref11_Counts ms bs p).bind fun r3 =>
  (ref11_Many.l1 r2 r3 FU (-1) 0 (0 : Int)).bind fun j =>
  if (decide (j.1 < 0)) = true then
   some true
  else
   (ref05_Has p.Labels p.Spread).bind fun r4 =>
   if r4 = true then
    some (decide ((i64.wrap ((i64.wrap (j.1 + 1)) - j.2)) > p.Skew))
   else
    some (decide ((i64.wrap (j.1 - j.2)) > p.Skew))
theorem K6 (ms : List T_api_Machine) (bs : List T_api_Bound) (p : T_api_Pod) (on_ : ByteArray) : VS Tryz.prog 118 (ref11_Many ms bs p on_) [L30 ms, L50 bs, T_api_Pod.vv p, .str on_] [] .bool N0 := by
 refine A4 [.tmp 8] Tryz.func118 R R R fun r hm=>?_
 unfold ref11_Many at hm
 refine Ah<|Ad R R<|A9 R R fun b=>Ab R R (Ai R)<|Ac<|Af<|Ah<|Aa tbk [0] 2 R R<|Ab R R (Ax T_api_Label.vv R Bu)<|Aa tbk [] 2 R R<|Bc hm 5 25 20 R (fun _ K' h2 J hm=>Aa tbk [] 5 R R<|J 4 R R (Bj hm)) (fun _ K' h2 J hm=>Aa tbk [] 2 R R<|A8 R R R R R<|An hm 0 R fn80 R (K49 _ _) fun r hm=>Aa tbk [] 2 R R<|J 4 R R (Bj hm)) fun c hm=>Ac<|Ak hm R (fun h5 hm=>Ag tbk [] R R<|Rt1 hm R [] R R R) fun h5 hm=>Aj<|Ah<|Aa tbk [] 2 R R<|Ad R R<|An hm 0 R fn150 R (K1 _ _) fun r2 hm=>Aa tbk [] 5 R R<|Ac<|Ah<|Aa tbk [0] 3 R R<|Ad R R<|Cc hm 0 R fn151 R (K5 _ _ _) fun r3 ob cap hm=>Aa tbk [] 5 R R<|Ac<|Ag tbk [] R R<|Ag tbk [] R R<|Af<|Ag tbk [] R R<|Bx hm (fun j (_:Unit)=>[(6,.ptr b 0),(13,Iw j.1),(14,Iw j.2)]) (fun _ (_:Unit)=>[X48 b p]) (fun o hm=>?_) fun j _ hm=> ?_
 ·refine Bh (fun zn (zs:Int × Int × Int)=>ref11_Many.l1 r2 r3 zn zs.1 zs.2.1 zs.2.2) (fun zs (zg:Option Nat)=>[(6,.ptr b 0),(9,.str r2.1),(10,.bool r2.2),(11,L9 r3.1),(12,Z3 zg r3.2 cap),(13,Iw zs.1),(14,Iw zs.2.1),(15,Iw zs.2.2)]) (fun _ (zg:Option Nat)=>[Q3 zg cap r3.2,X48 b p]) ((-1 : Int),(0 : Int),(0 : Int)) _ (fun _=>R) hm (Ae [0,0] R R) fun n=>Pq fun mine2=>Pq fun least2 i2 ob3 hm=> ?_
  rw [ref11_Many.l1] at hm
  refine Af<|Ah<|Aa tbk [] 2 R R<|Ab R R (Ax VV.str R Bf)<|Ab R R (A2 R R R)<|Ac<|Ak hm R (fun h11 hm=>?_) fun h11 hm=> ?_
  ·refine Aj<|Af<|Aw<|Af<|Ah<|Aa tbk [] 3 R R<|Bc hm 7 54 47 R (fun _ K' h12 J hm=>Aa tbk [] 7 R R<|J 6 R R (Bj hm)) (fun _ K' h12 J hm=>?_) fun c2 hm=> ?_
   ·refine Aa tbk [] 2 R R<|Bd hm fun x h13 hm=>Cv 0 R (gl_pos (VV.int .i64) h13) fun b2 h14=> ?_
    subst h14
    exact Bm R R R R R (Cy (VV.int .i64) R R el41 h13)<|Bm R R R R R (Cr (i:=0) (y:=(VV.int .i64) x) R R R (gl_map _ (gl_some h13).2) ld3 R)<|Aa tbk [] 3 R R<|J 6 R R (Bj hm)
   refine Ac<|Ak hm R (fun h16 hm=>?_) fun h16 hm=> ?_
   ·refine Bk<|Aa tbk [] 2 R R<|Bd hm fun x2 h17 hm=>Cv 0 R (gl_pos (VV.int .i64) h17) fun b3 h18=> ?_
    subst h18
    exact Ab R R (Cy (VV.int .i64) R R el41 h17)<|Ab R R (Cr (i:=0) (y:=(VV.int .i64) x2) R R R (gl_map _ (gl_some h17).2) ld3 R)<|Ab R R (Ai R)<|Ac<|Ah<|Aa tbk [] 2 R R<|Bc hm 7 67 60 R (fun _ K' h19 J hm=>Aa tbk [] 2 R R<|Bd hm fun x3 h20 hm=>Bm R R R R R (A3 VV.str R R el51 h20)<|Aa tbk [] 4 R R<|J 6 R R (Bj hm)) (fun _ K' h19 J hm=>Aa tbk [] 7 R R<|J 6 R R (Bj hm)) fun c3 hm=>Ac<|Ak hm R (fun h22 hm=>Bk<|Aa tbk [] 2 R R<|Bd hm fun x4 h23 hm=>Ab R R (Cy (VV.int .i64) R R el41 h23)<|Ab R R (Cr (i:=0) (y:=(VV.int .i64) x4) R R R (gl_map _ (gl_some h23).2) ld3 R)<|Ab R R (Ai R)<|Ac<|A1 tbk [] R R<|Ap (x4,x2,(IntKind.i64.wrap (i2 + (1 : Int)))) _ hm (Ae [0,0] R R)) fun h22 hm=>Aj<|A1 tbk [] R R<|Ap (mine2,x2,(IntKind.i64.wrap (i2 + (1 : Int)))) _ hm (Ae [0,0] R R)
   refine Aj<|Ah<|Aa tbk [] 2 R R<|Bc hm 7 67 60 R (fun _ K' h24 J hm=>Aa tbk [] 2 R R<|Bd hm fun x5 h25 hm=>Bm R R R R R (A3 VV.str R R el51 h25)<|Aa tbk [] 4 R R<|J 6 R R (Bj hm)) (fun _ K' h24 J hm=>Aa tbk [] 7 R R<|J 6 R R (Bj hm)) fun c4 hm=>Ac<|Ak hm R (fun h27 hm=>?_) fun h27 hm=> ?_
   ·refine Bk<|Aa tbk [] 2 R R<|Bd hm fun x6 h28 hm=>Cv 0 R (gl_pos (VV.int .i64) h28) fun b4 h29=> ?_
    subst h29
    exact Ab R R (Cy (VV.int .i64) R R el41 h28)<|Ab R R (Cr (i:=0) (y:=(VV.int .i64) x6) R R R (gl_map _ (gl_some h28).2) ld3 R)<|Ab R R (Ai R)<|Ac<|A1 tbk [] R R<|Ap (x6,least2,(IntKind.i64.wrap (i2 + (1 : Int)))) _ hm (Ae [0,0] R R)
   exact Aj<|A1 tbk [] R R<|Ap (mine2,least2,(IntKind.i64.wrap (i2 + (1 : Int)))) _ hm (Ae [0,0] R R)
  exact A0<|As () hm (Ae [1] R R)
 exact Af<|Ag tbk [] R R<|Ak hm R (fun h30 hm=>Ag tbk [] R R<|Rt1 hm R [] R R R) fun h30 hm=>Aj<|Af<|Ah<|Aa tbk [0,0] 4 R R<|Ad R R<|An hm 0 R fn143 R (K138 _ _) fun r4 hm=>Ac<|Ak hm R (fun h32 hm=>A1 tbk [] R R<|Ag tbk [0] R R<|Rt1 hm R [] R R R) fun h32 hm=>Aj<|Ag tbk [0] R R<|Rt1 hm R [] R R R

/-! trireme/triremeref11.Why -/
def ref11_Why (ms : List T_api_Machine) (bs : List T_api_Bound) (p : T_api_Pod) (on_ : ByteArray) : Option Int :=
 (ref11_Near ms bs p on_).bind fun r =>
 if r = true then
  some 7
 else
  (ref11_Many ms bs p on_).bind fun r2 =>
  if r2 = true then
   some 8
  else
   some 0
theorem K7 (ms : List T_api_Machine) (bs : List T_api_Bound) (p : T_api_Pod) (on_ : ByteArray) : VS Tryz.prog 82 (ref11_Why ms bs p on_) [L30 ms, L50 bs, T_api_Pod.vv p, .str on_] [] Iw N0 := by
 refine A4 [.tmp 8] Tryz.func82 R R R fun r hm=>?_
 unfold ref11_Why at hm
 exact Ah<|Ad R R<|A9 R R fun b=>Ab R R (Ai R)<|Ac<|Af<|Ah<|Aa tbk [0] 4 R R<|Ad R R<|An hm 0 R fn117 R (K3 _ _ _ _) fun r hm=>Ac<|Ak hm R (fun h3 hm=>Ag tbk [] R R<|Rt1 hm R [] R R R) fun h3 hm=>Aj<|Af<|Ah<|Aa tbk [0] 4 R R<|Ad R R<|An hm 0 R fn118 R (K6 _ _ _ _) fun r2 hm=>Ac<|Ak hm R (fun h5 hm=>Ag tbk [] R R<|Rt1 hm R [] R R R) fun h5 hm=>Aj<|Ag tbk [] R R<|Rt1 hm R [] R R R

/-! trireme/triremeref12.Why -/
def ref12_Why (ms : List T_api_Machine) (bs : List T_api_Bound) (p : T_api_Pod) (on_ : ByteArray) : Option Int :=
 (ref09_Find ms on_).bind fun r =>
 if (decide (r < 0)) = true then
  some 1
 else
  (V.gl ms r).bind fun x =>
  (ref10_Suits x bs p).bind fun r2 =>
  if (r2 != 0) = true then
   some r2
  else
   (ref11_Why ms bs p on_).bind fun r3 =>
   some r3
theorem K8 (ms : List T_api_Machine) (bs : List T_api_Bound) (p : T_api_Pod) (on_ : ByteArray) : VS Tryz.prog 34 (ref12_Why ms bs p on_) [L30 ms, L50 bs, T_api_Pod.vv p, .str on_] [] Iw N0 := by
 refine A4 [.tmp 8] Tryz.func34 R R R fun r hm=>?_
 unfold ref12_Why at hm
 exact Ah<|Ad R R<|A9 R R fun b=>Ab R R (Ai R)<|Ac<|Ah<|Aa tbk [] 2 R R<|Ad R R<|An hm 0 R fn80 R (K49 _ _) fun r hm=>Ab R R (Ai R)<|Ac<|Af<|Ag tbk [] R R<|Ak hm R (fun h3 hm=>Ag tbk [] R R<|Rt1 hm R [] R R R) fun h3 hm=>Aj<|Af<|Bb 0 mixed<|Au tbk [0,1] [] (by kernel_rfl) R R R<|Bd hm fun x h4 hm=>A6 2 R R R (by kernel_rfl) (A3 T_api_Machine.vv R R el22 h4)<|Au tbk [3,4,5] [0] (by kernel_rfl) R R R<|Ao 6 (by kernel_rfl)<|Aq R R R<|An hm 0 R fn81 R (K0 _ _ _) fun r2 hm=>A6 7 R R R (by kernel_rfl) (Ai R)<|A5 (by kernel_rfl)<|Af<|Ag tbk [] R R<|Ak hm R (fun h6 hm=>Ag tbk [] R R<|Rt1 hm R [] R R R) fun h6 hm=>Aj<|Ah<|Aa tbk [0] 4 R R<|Ad R R<|An hm 0 R fn82 R (K7 _ _ _ _) fun r3 hm=>Ab R R (Ai R)<|Ac<|Rt1 hm R [] R R R

/-! trireme/triremeref12.Put -/
def ref12_Put (bs : List T_api_Bound) (p : T_api_Pod) (on_ : ByteArray) : Option (List T_api_Bound) :=
 (ref10_Others bs p.Name).bind fun r =>
 (V.ap 288 r [(⟨p, on_⟩ : T_api_Bound)]).bind fun o =>
 some o
theorem K9 (bs : List T_api_Bound) (p : T_api_Pod) (on_ : ByteArray) : VS2 Tryz.prog 22 (ref12_Put bs p on_) [L50 bs, T_api_Pod.vv p, .str on_] [] (fun r ob0 cap0=>Z50 ob0 r cap0) (fun r ob0 cap0=>[Q50 ob0 cap0 r]) := by
 refine Cg [.tmp 6] Tryz.func22 R R R fun r hm=>?_
 unfold ref12_Put at hm
 exact Ah<|Ad R R<|A9 R R fun b=>Ab R R (Ai R)<|Ac<|Ah<|Aa tbk [0] 3 R R<|Ad R R<|Cc hm 0 R fn62 R (K146 _ _) fun r ob cap hm=>Ab R R (Ai R)<|Ac<|Ah<|Aa tbk [1] 3 R R<|Ab R R (Bo pl50 R R)<|Ad R R<|A7 ap23 R R R R R fun b2=>Bd hm fun o h5 hm=>Ad R R<|B1 1 T_api_Bound.vv (l:=r) (l2:=[(⟨p,on_⟩ : T_api_Bound)]) ap23 R R (sT_row 0 T_api_Bound.vv el23 R R) h5 fun ob2 cap2=>Ab R R (Ai R)<|Ac<|Rg2 hm R [1] ob2 cap2 (.cons (.tmp _ _ R) .nil) R R

/-! trireme/triremeref19.Estimate -/
def ref19_Estimate.l2 (like : T_api_Machine) (bs3 : List T_api_Bound) (all2 : List T_api_Machine) (n2 : Int) (x2 : T_api_Pod) : Nat → ByteArray → Int → Option ByteArray
 | 0, _, _ => none
 | n5 + 1, on_2, k2 =>
  if ((decide (k2 ≤ n2)) && (V.seq on_2 (⟨#[]⟩ : ByteArray))) = true then
   (ref19_Fresh like k2).bind fun r2 =>
   (ref12_Why all2 bs3 x2 r2.Name).bind fun r3 =>
   if (r3 == 0) = true then
    ref19_Estimate.l2 like bs3 all2 n2 x2 n5 r2.Name (i64.wrap (k2 + 1))
   else
    ref19_Estimate.l2 like bs3 all2 n2 x2 n5 on_2 (i64.wrap (k2 + 1))
  else
   some on_2
def ref19_Estimate.l1 (l : List T_api_Pod) (like : T_api_Machine) (limit : Int) (r : List Int) : Nat → (List T_api_Bound) → (List T_api_Move) → (List T_api_Machine) → Int → Int → Option (List T_api_Move × Int)
 | 0, _, _, _, _, _ => none
 | n4 + 1, bs3, moves2, all2, n2, i2 =>
  if (decide (i2 < (r.length : Int))) = true then
   (V.gl r i2).bind fun x =>
   (V.gl l x).bind fun x2 =>
   (ref19_Estimate.l2 like bs3 all2 n2 x2 FU (⟨#[]⟩ : ByteArray) (1 : Int)).bind fun on_32 =>
   (if ((V.seq on_32 (⟨#[]⟩ : ByteArray)) && (decide (n2 < limit))) = true then
    (ref19_Fresh like (i64.wrap (n2 + 1))).bind fun r4 =>
    (V.ap 128 ([] : List T_api_Machine) all2).bind fun l5 =>
    (V.ap 128 l5 [r4]).bind fun more =>
    (ref12_Why more bs3 x2 r4.Name).bind fun r5 =>
    if (r5 == 0) = true then
     some (more, (i64.wrap (n2 + 1)), r4.Name)
    else
     some (all2, n2, on_32)
   else
    some (all2, n2, on_32)).bind fun j2 =>
   if (!(V.seq j2.2.2 (⟨#[]⟩ : ByteArray))) = true then
    (ref12_Put bs3 x2 j2.2.2).bind fun r6 =>
    (V.ap 32 moves2 [(⟨x2.Name, j2.2.2⟩ : T_api_Move)]).bind fun moves4 =>
    ref19_Estimate.l1 l like limit r n4 r6 moves4 j2.1 j2.2.1 (i64.wrap (i2 + 1))
   else
    ref19_Estimate.l1 l like limit r n4 bs3 moves2 j2.1 j2.2.1 (i64.wrap (i2 + 1))
  else
   some (moves2, n2)
def ref19_Estimate (ms : List T_api_Machine) (bs : List T_api_Bound) (l : List T_api_Pod) (like : T_api_Machine) (limit : Int) : Option (List T_api_Move × Int) :=
 (V.ap 128 ([] : List T_api_Machine) ms).bind fun l2 =>
 (ref19_Order l like).bind fun r =>
 (ref19_Estimate.l1 l like limit r FU bs ([] : List T_api_Move) l2 0 (0 : Int)).bind fun j =>
 some (j.1, j.2)
theorem K10 (ms : List T_api_Machine) (bs : List T_api_Bound) (l : List T_api_Pod) (like : T_api_Machine) (limit : Int) : VS2 Tryz.prog 14 (ref19_Estimate ms bs l like limit) [L30 ms, L50 bs, L48 l, T_api_Machine.vv like, Iw limit] [] (fun r ob0 cap0=>.tup [Z53 ob0 r.1 cap0, Iw r.2]) (fun r ob0 cap0=>[Q53 ob0 cap0 r.1]) := by
 refine Cg [.tmp 10,.tmp 11] Tryz.func14 R R R fun r hm=>?_
 unfold ref19_Estimate at hm
 refine Ah<|Ad R R<|A9 R R fun b=>Aa tbk [] 2 R R<|Ac<|Ag tbk [] R R<|Ag tbk [] R R<|Ah<|Aa tbk [] 2 R R<|Bp (Ba 30)<|Bd hm fun l2 h3 hm=>Ad R R<|B1 0 T_api_Machine.vv (l:=([] : List T_api_Machine)) (l2:=ms) ap22 R R (sT_list T_api_Machine.vv el22 R R) h3 fun ob cap=>Ab R R (Ai R)<|Ac<|Ag tbk [] R R<|Ah<|Aa tbk [1] 2 R R<|Ad R R<|Cc hm 0 R fn19 R (K134 _ _) fun r ob2 cap2 hm=>Bp (Az 0 [(28,L3 r)] R ⟨⟨_,R,.here _ R⟩,trivial⟩ (FzH.refl _))<|Ab R R (Ai R)<|Ac<|Af<|Ag tbk [] R R<|Bx hm (fun j (gg:Option Nat × Nat)=>[(12,Z53 gg.1 j.1 gg.2),(14,Iw j.2)]) (fun j (gg:Option Nat × Nat)=>[Q53 gg.1 gg.2 j.1]) (fun o hm=>?_) fun j=>Pq fun ob7 cap7 hm=> ?_
 ·refine Bh (fun zn (zs:List T_api_Bound × List T_api_Move × List T_api_Machine × Int × Int)=>ref19_Estimate.l1 l like limit r zn zs.1 zs.2.1 zs.2.2.1 zs.2.2.2.1 zs.2.2.2.2) (fun zs (zg:Option Nat × Nat × Option Nat × Nat)=>[(1,L50 zs.1),(2,L48 l),(4,Iw limit),(8,.ptr b 0),(12,Z53 zg.1 zs.2.1 zg.2.1),(13,Z30 zg.2.2.1 zs.2.2.1 zg.2.2.2),(14,Iw zs.2.2.2.1),(15,L3 r),(16,Iw zs.2.2.2.2)]) (fun zs (zg:Option Nat × Nat × Option Nat × Nat)=>[Q53 zg.1 zg.2.1 zs.2.1,Q30 zg.2.2.1 zg.2.2.2 zs.2.2.1,X30 b like]) (bs,([] : List T_api_Move),l2,(0 : Int),(0 : Int)) (none,0,ob,cap) (fun _=>R) hm (Be (Ba 53) (Ae [0,0,0] R R)) fun n4=>Pq fun bs3=>Pq fun moves2=>Pq fun all2=>Pq fun n2 i2=>Pq fun ob5=>Pq fun cap5=>Pq fun ob6 cap6 hm=> ?_
  rw [ref19_Estimate.l1] at hm
  refine Af<|Ah<|Aa tbk [] 2 R R<|Ab R R (Ax (VV.int .i64) R Bz)<|Ab R R (A2 R R R)<|Ac<|Ak hm R (fun h12 hm=>?_) fun h12 hm=> ?_
  ·refine Aj<|Af<|Aw<|Ah<|Aa tbk [] 3 R R<|Bd hm fun x h13 hm=>Ab R R (A3 (VV.int .i64) R R el41 h13)<|Ab R R (Bn R ld3 R)<|Bd hm fun x2 h14 hm=>Ab R R (A3 T_api_Pod.vv R R el24 h14)<|Ab R R (Bn R ld48 R)<|Ad R R<|Av z48 fun b2=>Ad R R<|Am (i:=0) R R R ld48 R R R<|Ac<|Ag tbk [] R R<|Af<|Ag tbk [] R R<|Bx hm (fun on_32 (_:Unit)=>[(1,L50 bs3),(2,L48 l),(4,Iw limit),(8,.ptr b 0),(12,Z53 ob5 moves2 cap5),(13,Z30 ob6 all2 cap6),(14,Iw n2),(15,L3 r),(16,Iw i2),(17,.ptr b2 0),(18,.str on_32)]) (fun _ (_:Unit)=>[X48 b2 x2,Q53 ob5 cap5 moves2,Q30 ob6 cap6 all2,X30 b like]) (fun o2 hm=>?_) fun on_32 _ hm=> ?_
   ·refine Bh (fun zn (zs:ByteArray × Int)=>ref19_Estimate.l2 like bs3 all2 n2 x2 zn zs.1 zs.2) (fun zs (_:Unit)=>[(1,L50 bs3),(2,L48 l),(4,Iw limit),(8,.ptr b 0),(12,Z53 ob5 moves2 cap5),(13,Z30 ob6 all2 cap6),(14,Iw n2),(15,L3 r),(16,Iw i2),(17,.ptr b2 0),(18,.str zs.1),(19,Iw zs.2)]) (fun _ (_:Unit)=>[X48 b2 x2,Q53 ob5 cap5 moves2,Q30 ob6 cap6 all2,X30 b like]) ((⟨#[]⟩ : ByteArray),(1 : Int)) () (fun _=>R) hm (Ae [0,0,0,0] R R) fun n5=>Pq fun on_2 k2 _ hm=> ?_
    rw [ref19_Estimate.l2] at hm
    exact Af<|Ah<|Aa tbk [] 4 R R<|Bv tbk [] 3 48 45 R R R R R<|Ac<|Ak hm R (fun h19 hm=>Aj<|Af<|Aw<|Ah<|Aa tbk [3] 2 R R<|Ad R R<|An hm 0 R fn21 R (K136 _ _) fun r2 hm=>Ab R R (VP.field R fd30_0 R)<|Ab R R (Ai R)<|Ac<|Ah<|Aa tbk [0] 4 R R<|Ad R R<|VO.ce hm (Az 2 [(13,L30 all2),(55,L30 all2)] R ⟨⟨_,R,.here _ R⟩,⟨_,R,.here _ R⟩,trivial⟩ (FzH.refl _)) [.same,.same,.same,.same] R fn34 R (K8 _ _ _ _) (fun _=>R) (fun _=>R) fun r3 hm=>Ab R R (A2 R R R)<|Ac<|Ak hm R (fun h22 hm=>A1 tbk [] R R<|A1 tbk [] R R<|Ap (r2.Name,(IntKind.i64.wrap (k2 + (1 : Int)))) () hm (Ae [0,0,0,0] R R)) fun h22 hm=>Aj<|A1 tbk [] R R<|Ap (on_2,(IntKind.i64.wrap (k2 + (1 : Int)))) () hm (Ae [0,0,0,0] R R)) fun h19 hm=>A0<|As () hm (Ae [0,0,0,0] R R)
   refine Cz hm (fun j2 (gg:Option Nat × Nat)=>[(1,L50 bs3),(2,L48 l),(4,Iw limit),(8,.ptr b 0),(12,Z53 ob5 moves2 cap5),(13,Z30 gg.1 j2.1 gg.2),(14,Iw j2.2.1),(15,L3 r),(16,Iw i2),(17,.ptr b2 0),(18,.str j2.2.2)]) (fun j2 (gg:Option Nat × Nat)=>[Q30 gg.1 gg.2 j2.1,X48 b2 x2,Q53 ob5 cap5 moves2,X30 b like]) (fun o3 hm=>?_) fun j2=>Pq fun ob8 cap8 hm=> ?_
   ·exact Ah<|Aa tbk [] 3 R R<|Bv tbk [] 4 68 64 R R R R R<|Ac<|Ak hm R (fun h27 hm=>Ah<|Aa tbk [3] 3 R R<|Ad R R<|An hm 0 R fn21 R (K136 _ _) fun r4 hm=>Ad R R<|Av z30 fun b3=>Ad R R<|Am (i:=0) R R R ld30 R R R<|Ac<|Ag tbk [] R R<|Ah<|Aa tbk [] 2 R R<|Bp (Ba 30)<|Bd hm fun l5 h31 hm=>Ad R R<|B1 0 T_api_Machine.vv (l:=([] : List T_api_Machine)) (l2:=all2) ap22 R R (sT_row 4 T_api_Machine.vv el22 R R) h31 fun ob9 cap9=>Ab R R (Ai R)<|Ac<|Ah<|Aa tbk [1] 2 R R<|Ad R R<|A7 ap22 R R R R R fun b4=>Bd hm fun more h33 hm=>Ad R R<|B1 1 T_api_Machine.vv (l:=l5) (l2:=[r4]) ap22 R R (sT_row 0 T_api_Machine.vv el22 R R) h33 fun ob10 cap10=>Ab R R (Ai R)<|Ac<|Ah<|Aa tbk [3,2] 5 R R<|Ad R R<|VO.ce hm (Az 1 [(79,L30 more),(22,L30 more),(80,L30 more)] R ⟨⟨_,R,.here _ R⟩,⟨_,R,.here _ R⟩,⟨_,R,.here _ R⟩,trivial⟩ (FzH.refl _)) [.same,.same,.same,.same] R fn34 R (K8 _ _ _ _) (fun _=>R) (fun _=>R) fun r5 hm=>Ab R R (A2 R R R)<|Ac<|Ak hm R (fun h35 hm=>Ag tbk [] R R<|Ag tbk [2] R R<|A1 tbk [] R R<|As (ob10,cap10) hm (Ae [1,2,2,3] R R)) fun h35 hm=>Aj<|As (ob6,cap6) hm (Ae [5,3,3,3] R R)) fun h27 hm=>Aj<|As (ob6,cap6) hm (Ae [2,0,0,0] R R)
   exact Ag tbk [] R R<|Ak hm R (fun h36 hm=>Ah<|Aa tbk [1] 3 R R<|Ad R R<|Cc hm 0 R fn22 R (K9 _ _ _) fun r6 ob11 cap11 hm=>Bp (Az 0 [(97,L50 r6)] R ⟨⟨_,R,.here _ R⟩,trivial⟩ (FzH.refl _))<|Ab R R (Ai R)<|Ac<|Bk<|Aa tbk [1] 4 R R<|Ab R R (Bo pl53 R R)<|Ad R R<|A7 ap35 R R R R R fun b5=>Bd hm fun moves4 h40 hm=>Ad R R<|B1 3 T_api_Move.vv (l:=moves2) (l2:=[(⟨x2.Name,j2.2.2⟩ : T_api_Move)]) ap35 R R (sT_row 0 T_api_Move.vv el35 R R) h40 fun ob12 cap12=>Ab R R (Ai R)<|Ac<|A1 tbk [] R R<|Ap (r6,moves4,j2.1,j2.2.1,(IntKind.i64.wrap (i2 + (1 : Int)))) (ob12,cap12,ob8,cap8) hm (Ae [3,1,2] R R)) fun h36 hm=>Aj<|A1 tbk [] R R<|Ap (bs3,moves2,j2.1,j2.2.1,(IntKind.i64.wrap (i2 + (1 : Int)))) (ob5,cap5,ob8,cap8) hm (Ae [2,0,1] R R)
  exact A0<|As (ob5,cap5) hm (Ae [0] R R)
 exact Ag tbk [] R R<|Rg2 hm R [0] ob7 cap7 (.cons (.tmp _ _ R) (.cons (.tmp _ _ R) .nil)) R R

/-! trireme/triremeref20.part -/
def ref20_part.l1 (has : Int) (needs : Int) : Nat → Int → Int → Int → Option Int
 | 0, _, _, _ => none
 | n4 + 1, n2, over2, i2 =>
  if (decide (i2 < 1000)) = true then
   if (decide ((i64.wrap (over2 + (i64.wrap (has - needs)))) ≥ has)) = true then
    ref20_part.l1 has needs n4 (i64.wrap (n2 + 1)) (i64.wrap ((i64.wrap (over2 + (i64.wrap (has - needs)))) - has)) (i64.wrap (i2 + 1))
   else
    ref20_part.l1 has needs n4 n2 (i64.wrap (over2 + (i64.wrap (has - needs)))) (i64.wrap (i2 + 1))
  else
   some n2
def ref20_part (has : Int) (needs : Int) : Option Int :=
 if ((decide (has ≤ 0)) || (decide (needs ≥ has))) = true then
  some 0
 else
  (ref20_part.l1 has needs FU 0 0 (0 : Int)).bind fun n32 =>
  some n32
theorem K11 (has : Int) (needs : Int) : VS Tryz.prog 94 (ref20_part has needs) [Iw has, Iw needs] [] Iw N0 := by
 refine A4 [.tmp 4] Tryz.func94 R R R fun r hm=>?_
 unfold ref20_part at hm
 refine Ag tbk [] R R<|Af<|Ah<|Aa tbk [] 3 R R<|Cb tbk [] 4 15 11 R R R R R<|Ac<|Ak hm R (fun h2 hm=>Ag tbk [] R R<|Rt1 hm R [] R R R) fun h2 hm=>Aj<|Ag tbk [] R R<|Ag tbk [] R R<|Ag tbk [] R R<|Af<|Ag tbk [] R R<|Bx hm (fun n32 (_:Unit)=>[(6,Iw n32)]) (fun _ (_:Unit)=>[]) (fun o hm=>?_) fun n32 _ hm=> ?_
 ·refine Bh (fun zn (zs:Int × Int × Int)=>ref20_part.l1 has needs zn zs.1 zs.2.1 zs.2.2) (fun zs (_:Unit)=>[(0,Iw has),(5,Iw (IntKind.i64.wrap (has - needs))),(6,Iw zs.1),(7,Iw zs.2.1),(8,Iw zs.2.2)]) (fun _ (_:Unit)=>[]) ((0 : Int),(0 : Int),(0 : Int)) () (fun _=>R) hm (Ae [] R R) fun n4=>Pq fun n2=>Pq fun over2 i2 _ hm=> ?_
  rw [ref20_part.l1] at hm
  exact Af<|Ag tbk [] R R<|Ak hm R (fun h5 hm=>Aj<|Af<|Aw<|Ag tbk [] R R<|Ag tbk [] R R<|Ak hm R (fun h6 hm=>Ag tbk [] R R<|A1 tbk [] R R<|A1 tbk [] R R<|Ap ((IntKind.i64.wrap (n2 + (1 : Int))),(IntKind.i64.wrap ((IntKind.i64.wrap (over2 + (IntKind.i64.wrap (has - needs)))) - has)),(IntKind.i64.wrap (i2 + (1 : Int)))) () hm (Ae [] R R)) fun h6 hm=>Aj<|A1 tbk [] R R<|Ap (n2,(IntKind.i64.wrap (over2 + (IntKind.i64.wrap (has - needs)))),(IntKind.i64.wrap (i2 + (1 : Int)))) () hm (Ae [] R R)) fun h5 hm=>A0<|As () hm (Ae [] R R)
 exact Ag tbk [] R R<|Rt1 hm R [] R R R

/-! trireme/triremeref20.Waste -/
def ref20_Waste.l1 (l : List T_api_Pod) : Nat → Int → Int → Int → Option (Int × Int)
 | 0, _, _, _ => none
 | n2 + 1, cpu2, mem2, i2 =>
  if (decide (i2 < (l.length : Int))) = true then
   (V.gl l i2).bind fun x =>
   (V.gl l i2).bind fun x2 =>
   ref20_Waste.l1 l n2 (i64.wrap (cpu2 + x.Need.Cpu)) (i64.wrap (mem2 + x2.Need.Mem)) (i64.wrap (i2 + 1))
  else
   some (cpu2, mem2)
def ref20_Waste (l : List T_api_Pod) (like : T_api_Machine) (n : Int) : Option Int :=
 if (decide (n < 1)) = true then
  some 0
 else
  (ref20_Waste.l1 l FU 0 0 (0 : Int)).bind fun j =>
  (ref20_part (i64.wrap (n * like.Has.Cpu)) j.1).bind fun r =>
  (ref20_part (i64.wrap (n * like.Has.Mem)) j.2).bind fun r2 =>
  (V.quo (i64.wrap (r + r2)) (2 : Int)).bind fun v =>
  some (i64.wrap v)
theorem K12 (l : List T_api_Pod) (like : T_api_Machine) (n : Int) : VS Tryz.prog 49 (ref20_Waste l like n) [L48 l, T_api_Machine.vv like, Iw n] [] Iw N0 := by
 refine A4 [.tmp 6] Tryz.func49 R R R fun r hm=>?_
 unfold ref20_Waste at hm
 refine Ah<|Ad R R<|A9 R R fun b=>Ab R R (Ai R)<|Ac<|Af<|Ag tbk [] R R<|Ak hm R (fun h2 hm=>Ag tbk [] R R<|Rt1 hm R [] R R R) fun h2 hm=>Aj<|Ag tbk [] R R<|Ag tbk [] R R<|Af<|Ag tbk [] R R<|Bx hm (fun j (_:Unit)=>[(2,Iw n),(4,.ptr b 0),(7,Iw j.1),(8,Iw j.2)]) (fun _ (_:Unit)=>[X30 b like]) (fun o hm=>?_) fun j _ hm=> ?_
 ·refine Bh (fun zn (zs:Int × Int × Int)=>ref20_Waste.l1 l zn zs.1 zs.2.1 zs.2.2) (fun zs (_:Unit)=>[(0,L48 l),(2,Iw n),(4,.ptr b 0),(7,Iw zs.1),(8,Iw zs.2.1),(9,Iw zs.2.2)]) (fun _ (_:Unit)=>[X30 b like]) ((0 : Int),(0 : Int),(0 : Int)) () (fun _=>R) hm (Ae [0] R R) fun n2=>Pq fun cpu2=>Pq fun mem2 i2 _ hm=> ?_
  rw [ref20_Waste.l1] at hm
  exact Af<|Ah<|Aa tbk [] 2 R R<|Ab R R (Ax T_api_Pod.vv R Br)<|Ab R R (A2 R R R)<|Ac<|Ak hm R (fun h5 hm=>Aj<|Af<|Aw<|Ah<|Aa tbk [] 3 R R<|Bd hm fun x h6 hm=>Ab R R (A3 T_api_Pod.vv R R el24 h6)<|Aa tbk [] 5 R R<|Ac<|Bk<|Aa tbk [] 3 R R<|Bd hm fun x2 h7 hm=>Ab R R (A3 T_api_Pod.vv R R el24 h7)<|Aa tbk [] 5 R R<|Ac<|A1 tbk [] R R<|Ap ((IntKind.i64.wrap (cpu2 + x.Need.Cpu)),(IntKind.i64.wrap (mem2 + x2.Need.Mem)),(IntKind.i64.wrap (i2 + (1 : Int)))) () hm (Ae [0] R R)) fun h5 hm=>A0<|As () hm (Ae [0] R R)
 exact Af<|Bb 0 mixed<|Au tbk [0,1,2,3,4,5,7,8,9,10,11,12] [0,0] (by kernel_rfl) R R R<|Ao 6 (by kernel_rfl)<|Aq R R R<|An hm 0 R fn94 R (K11 _ _) fun r hm=>Ao 13 (by kernel_rfl)<|Aq R R R<|An hm 0 R fn94 R (K11 _ _) fun r2 hm=>A6 14 R R R (by kernel_rfl) (A2 R R R)<|Bd hm fun v h10 hm=>A6 15 R R R (by kernel_rfl) (C4 R R h10)<|A6 16 R R R (by kernel_rfl) (Ai R)<|A5 (by kernel_rfl)<|Rt1 hm R [] R R R

/-! trireme/triremeref20.Of -/
def ref20_Of.l2 (l : List T_api_Pod) (r : List T_api_Move × Int) (i2 : Int) : Nat → T_api_Option → (List T_api_Pod) → Int → Option (T_api_Option × List T_api_Pod)
 | 0, _, _, _ => none
 | n2 + 1, o6, some_5, k2 =>
  if (decide (k2 < (r.1.length : Int))) = true then
   (V.gl r.1 k2).bind fun x =>
   (V.gl l i2).bind fun x2 =>
   if (V.seq x.Pod x2.Name) = true then
    (V.gl l i2).bind fun x3 =>
    (V.ap 16 o6.Pods [x3.Name]).bind fun l4 =>
    (V.gl l i2).bind fun x4 =>
    (V.ap 272 some_5 [x4]).bind fun some_7 =>
    ref20_Of.l2 l r i2 n2 (⟨o6.Group, o6.Count, l4, o6.Waste, o6.Price, o6.Rank⟩ : T_api_Option) some_7 (i64.wrap (k2 + 1))
   else
    ref20_Of.l2 l r i2 n2 o6 some_5 (i64.wrap (k2 + 1))
  else
   some (o6, some_5)
def ref20_Of.l1 (l : List T_api_Pod) (r : List T_api_Move × Int) : Nat → T_api_Option → (List T_api_Pod) → Int → Option (T_api_Option × List T_api_Pod)
 | 0, _, _, _ => none
 | n + 1, o2, some_2, i2 =>
  if (decide (i2 < (l.length : Int))) = true then
   (ref20_Of.l2 l r i2 FU o2 some_2 (0 : Int)).bind fun j2 =>
   ref20_Of.l1 l r n j2.1 j2.2 (i64.wrap (i2 + 1))
  else
   some (o2, some_2)
def ref20_Of (ms : List T_api_Machine) (bs : List T_api_Bound) (l : List T_api_Pod) (g : T_api_Group) (room : Int) : Option (T_api_Option × Bool) :=
 (ref19_Estimate ms bs l g.Like room).bind fun r =>
 if (r.2 == 0) = true then
  some ((⟨(⟨#[]⟩ : ByteArray), 0, ([] : List ByteArray), 0, 0, 0⟩ : T_api_Option), false)
 else
  (ref20_Of.l1 l r FU (⟨g.Name, r.2, ([] : List ByteArray), 0, 0, g.Rank⟩ : T_api_Option) ([] : List T_api_Pod) (0 : Int)).bind fun j =>
  (ref20_Waste j.2 g.Like r.2).bind fun r2 =>
  some ((⟨j.1.Group, j.1.Count, j.1.Pods, r2, (min (i64.wrap (r.2 * g.Price)) 1125899906842624), j.1.Rank⟩ : T_api_Option), true)
theorem K13 (ms : List T_api_Machine) (bs : List T_api_Bound) (l : List T_api_Pod) (g : T_api_Group) (room : Int) : VS Tryz.prog 90 (ref20_Of ms bs l g room) [L30 ms, L50 bs, L48 l, T_api_Group.vv g, Iw room] [] (fun r=>.tup [T_api_Option.vv r.1, .bool r.2]) N0 := by
 refine A4 [.cell 10 83,.tmp 11] Tryz.func90 R R R fun r hm=>?_
 unfold ref20_Of at hm
 refine Ah<|Ad R R<|A9 R R fun b=>Ad R R<|Av z83 fun b2=>Ab R R (Ai R)<|Ac<|Ah<|Aa tbk [1] 6 R R<|Ad R R<|Cc hm 0 R fn14 R (K10 _ _ _ _ _) fun r ob cap hm=>Aa tbk [] 5 R R<|Ac<|Af<|Ag tbk [] R R<|Ak hm R (fun h5 hm=>Ah<|Ab R R (Bo pl83 R R)<|Ad R R<|Am (i:=1) R R R ld83 R R R<|Ab R R (Ai R)<|Ac<|B8 (Ba 9)<|B8 (Az (H':=[Q53 ob cap r.1,X83 b2 (⟨(⟨#[]⟩ : ByteArray),(0 : Int),([] : List ByteArray),(0 : Int),(0 : Int),(0 : Int)⟩ : T_api_Option),X81 b g]) 0 [] R trivial ⟨.same _,.box _ _ _ _ ⟨.same _,.same _,.here _ R,.same _,.same _,.same _,trivial⟩,.same _,trivial⟩)<|Rt0 hm R [] (.cons (.cell _ _ _ _ 1 _ _ _ _ R R ld83 R) (.cons (.tmp _ _ R) .nil)) R R) fun h5 hm=>Aj<|Ah<|Aa tbk [2,2] 5 R R<|Ab R R (Bo pl83 R R)<|Ad R R<|Av z83 fun b3=>Ad R R<|Am (i:=0) R R R ld83 R R R<|Ac<|Ag tbk [] R R<|Af<|Ag tbk [] R R<|Bx hm (fun j (gg:Option Nat × Nat × Option Nat × Nat)=>[(8,.ptr b 0),(10,.ptr b2 0),(13,Iw r.2),(14,.ptr b3 0),(15,Z48 gg.2.2.1 j.2 gg.2.2.2)]) (fun j (gg:Option Nat × Nat × Option Nat × Nat)=>[Q9 gg.1 gg.2.1 j.1.Pods,Q48 gg.2.2.1 gg.2.2.2 j.2,.box b3 83 [.str j.1.Group,Iw j.1.Count,Z9 gg.1 j.1.Pods gg.2.1,Iw j.1.Waste,Iw j.1.Price,Iw j.1.Rank],.box b2 83 [.str (⟨#[]⟩ : ByteArray),Iw (0 : Int),.sl none 0 0,Iw (0 : Int),Iw (0 : Int),Iw (0 : Int)],X81 b g]) (fun o4 hm=>?_) fun j=>Pq fun ob8=>Pq fun cap6=>Pq fun ob9 cap7 hm=> ?_
 ·refine Bh (fun zn (zs:T_api_Option × List T_api_Pod × Int)=>ref20_Of.l1 l r zn zs.1 zs.2.1 zs.2.2) (fun zs (zg:Option Nat × Option Nat × Nat × Option Nat × Nat)=>[(2,L48 l),(8,.ptr b 0),(10,.ptr b2 0),(12,Z53 zg.1 r.1 cap),(13,Iw r.2),(14,.ptr b3 0),(15,Z48 zg.2.2.2.1 zs.2.1 zg.2.2.2.2),(16,Iw zs.2.2)]) (fun zs (zg:Option Nat × Option Nat × Nat × Option Nat × Nat)=>[Q9 zg.2.1 zg.2.2.1 zs.1.Pods,Q48 zg.2.2.2.1 zg.2.2.2.2 zs.2.1,.box b3 83 [.str zs.1.Group,Iw zs.1.Count,Z9 zg.2.1 zs.1.Pods zg.2.2.1,Iw zs.1.Waste,Iw zs.1.Price,Iw zs.1.Rank],Q53 zg.1 cap r.1,.box b2 83 [.str (⟨#[]⟩ : ByteArray),Iw (0 : Int),.sl none 0 0,Iw (0 : Int),Iw (0 : Int),Iw (0 : Int)],X81 b g]) ((⟨g.Name,r.2,([] : List ByteArray),(0 : Int),(0 : Int),g.Rank⟩ : T_api_Option),([] : List T_api_Pod),(0 : Int)) (ob,none,0,none,0) (fun _=>R) hm (Be (Ba 48) (Be (Ba 9) (Ae [0,0,0,0,0,0] R R))) fun n=>Pq fun o2=>Pq fun some_2 i2=>Pq fun ob5=>Pq fun ob6=>Pq fun cap4=>Pq fun ob7 cap5 hm=> ?_
  rw [ref20_Of.l1] at hm
  refine Af<|Ah<|Aa tbk [] 2 R R<|Ab R R (Ax T_api_Pod.vv R Br)<|Ab R R (A2 R R R)<|Ac<|Ak hm R (fun h13 hm=>?_) fun h13 hm=> ?_
  ·refine Aj<|Af<|Aw<|Ag tbk [] R R<|Bx hm (fun j2 (gg:Option Nat × Option Nat × Nat × Option Nat × Nat)=>[(2,L48 l),(8,.ptr b 0),(10,.ptr b2 0),(12,Z53 gg.1 r.1 cap),(13,Iw r.2),(14,.ptr b3 0),(15,Z48 gg.2.2.2.1 j2.2 gg.2.2.2.2),(16,Iw i2)]) (fun j2 (gg:Option Nat × Option Nat × Nat × Option Nat × Nat)=>[Q9 gg.2.1 gg.2.2.1 j2.1.Pods,Q48 gg.2.2.2.1 gg.2.2.2.2 j2.2,.box b3 83 [.str j2.1.Group,Iw j2.1.Count,Z9 gg.2.1 j2.1.Pods gg.2.2.1,Iw j2.1.Waste,Iw j2.1.Price,Iw j2.1.Rank],Q53 gg.1 cap r.1,.box b2 83 [.str (⟨#[]⟩ : ByteArray),Iw (0 : Int),.sl none 0 0,Iw (0 : Int),Iw (0 : Int),Iw (0 : Int)],X81 b g]) (fun o8 hm=>?_) fun j2=>Pq fun ob16=>Pq fun ob17=>Pq fun cap12=>Pq fun ob18 cap13 hm=> ?_
   ·refine Bh (fun zn (zs:T_api_Option × List T_api_Pod × Int)=>ref20_Of.l2 l r i2 zn zs.1 zs.2.1 zs.2.2) (fun zs (zg:Option Nat × Option Nat × Nat × Option Nat × Nat)=>[(2,L48 l),(8,.ptr b 0),(10,.ptr b2 0),(12,Z53 zg.1 r.1 cap),(13,Iw r.2),(14,.ptr b3 0),(15,Z48 zg.2.2.2.1 zs.2.1 zg.2.2.2.2),(16,Iw i2),(17,Iw zs.2.2)]) (fun zs (zg:Option Nat × Option Nat × Nat × Option Nat × Nat)=>[Q9 zg.2.1 zg.2.2.1 zs.1.Pods,Q48 zg.2.2.2.1 zg.2.2.2.2 zs.2.1,.box b3 83 [.str zs.1.Group,Iw zs.1.Count,Z9 zg.2.1 zs.1.Pods zg.2.2.1,Iw zs.1.Waste,Iw zs.1.Price,Iw zs.1.Rank],Q53 zg.1 cap r.1,.box b2 83 [.str (⟨#[]⟩ : ByteArray),Iw (0 : Int),.sl none 0 0,Iw (0 : Int),Iw (0 : Int),Iw (0 : Int)],X81 b g]) (o2,some_2,(0 : Int)) (ob5,ob6,cap4,ob7,cap5) (fun _=>R) hm (Ae [0,0,0,0,0,0] R R) fun n2=>Pq fun o6=>Pq fun some_5 k2=>Pq fun ob13=>Pq fun ob14=>Pq fun cap10=>Pq fun ob15 cap11 hm=> ?_
    rw [ref20_Of.l2] at hm
    refine Af<|Ah<|Aa tbk [] 2 R R<|Ab R R (C2 T_api_Move.vv R Tryz.underlying35)<|Ab R R (A2 R R R)<|Ac<|Ak hm R (fun h16 hm=>?_) fun h16 hm=> ?_
    ·refine Aj<|Af<|Aw<|Af<|Bb 0 mixed<|Au tbk [0,1] [] (by kernel_rfl) R R R<|Bd hm fun x h17 hm=>VA.someRow 3 R (gl_pos T_api_Move.vv h17) fun b4 h18=> ?_
     subst h18
     refine A6 2 R R R (by kernel_rfl) (Cy T_api_Move.vv R R el35 h17)<|A6 3 R R R (by kernel_rfl) (VP.fieldR R fa53_0)<|A6 4 R R R (by kernel_rfl) (Cr (i:=3) (y:=T_api_Move.vv x) R R R (gl_map _ (gl_some h17).2) ld9 R)<|Au tbk [5,6] [] (by kernel_rfl) R R R<|Bd hm fun x2 h19 hm=>A6 7 R R R (by kernel_rfl) (A3 T_api_Pod.vv R R el24 h19)<|Au tbk [8,9,10] [] (by kernel_rfl) R R R<|A5 (by kernel_rfl)<|Ak hm R (fun h20 hm=>?_) fun h20 hm=> ?_
     ·refine Af<|B8 (Ck [0,1,0,0,0,0] R)<|Bb 2 mixed<|Au tbk [0,2,3] [] (by kernel_rfl) R R R<|Bd hm fun x3 h21 hm=>A6 4 R R R (by kernel_rfl) (A3 T_api_Pod.vv R R el24 h21)<|Au tbk [5,6] [] (by kernel_rfl) R R R<|?_
      refine B0 [1,7] (by kernel_rfl) ⟨?_,?_,trivial⟩
      ·exact Aq R R R<|Dc (Dd (i:=1) R R ld51 R)<|Ao 7 (by kernel_rfl)<|Aq R R R<|A7 ap51 R R R R R fun b5=>Ao 8 (by kernel_rfl)<|Bd hm fun l4 h23 hm=>Aq R R R<|B1 1 VV.str (l:=o6.Pods) (l2:=[x3.Name]) ap51 R R (sT_row 0 VV.str el51 R R) h23 fun ob19 cap14=>A6 9 R R R (by kernel_rfl) (Cw R fa83_2)<|Ao 10 (by kernel_rfl)<|Aq R R R<|Am (i:=2) R R R ld51 R R R<|A5 (by kernel_rfl)<|Bk<|Aa tbk [] 3 R R<|Bd hm fun x4 h24 hm=>Ab R R (A3 T_api_Pod.vv R R el24 h24)<|Ab R R (Bn R ld48 R)<|Ad R R<|A7 ap24 R R R R R fun b6=>Bd hm fun some_7 h26 hm=>Ad R R<|B1 4 T_api_Pod.vv (l:=some_5) (l2:=[x4]) ap24 R R (sT_row 0 T_api_Pod.vv el24 R R) h26 fun ob20 cap15=>Ab R R (Ai R)<|Ac<|A1 tbk [] R R<|Ap ((⟨o6.Group,o6.Count,l4,o6.Waste,o6.Price,o6.Rank⟩ : T_api_Option),some_7,(IntKind.i64.wrap (k2 + (1 : Int)))) ((some b4),ob19,cap14,ob20,cap15) hm (Ae [2,3,2,2,2,2] R R)
      ·exact Aq R R R<|A7 ap51 R R R R R fun b7=>Ao 1 (by kernel_rfl)<|Aq R R R<|Dc (Dd (i:=2) R R ld51 R)<|Ao 8 (by kernel_rfl)<|Bd hm fun l5 h28 hm=>Aq R R R<|B1 1 VV.str (l:=o6.Pods) (l2:=[x3.Name]) ap51 R R (sT_row 0 VV.str el51 R R) h28 fun ob21 cap16=>A6 9 R R R (by kernel_rfl) (Cw R fa83_2)<|Ao 10 (by kernel_rfl)<|Aq R R R<|Am (i:=2) R R R ld51 R R R<|A5 (by kernel_rfl)<|Bk<|Aa tbk [] 3 R R<|Bd hm fun x5 h29 hm=>Ab R R (A3 T_api_Pod.vv R R el24 h29)<|Ab R R (Bn R ld48 R)<|Ad R R<|A7 ap24 R R R R R fun b8=>Bd hm fun some_8 h31 hm=>Ad R R<|B1 4 T_api_Pod.vv (l:=some_5) (l2:=[x5]) ap24 R R (sT_row 0 T_api_Pod.vv el24 R R) h31 fun ob22 cap17=>Ab R R (Ai R)<|Ac<|A1 tbk [] R R<|Ap ((⟨o6.Group,o6.Count,l5,o6.Waste,o6.Price,o6.Rank⟩ : T_api_Option),some_8,(IntKind.i64.wrap (k2 + (1 : Int)))) ((some b4),ob21,cap16,ob22,cap17) hm (Ae [2,3,2,2,2,2] R R)
     exact Aj<|A1 tbk [] R R<|Ap (o6,some_5,(IntKind.i64.wrap (k2 + (1 : Int)))) ((some b4),ob14,cap10,ob15,cap11) hm (Ae [0,0,0,0,0,0] R R)
    exact A0<|As (ob13,ob14,cap10,ob15,cap11) hm (Ae [0,0,0,0,0,0] R R)
   exact A1 tbk [] R R<|Ap (j2.1,j2.2,(IntKind.i64.wrap (i2 + (1 : Int)))) (ob16,ob17,cap12,ob18,cap13) hm (Ae [0,0,0,0,0,0] R R)
  exact A0<|As (ob6,cap4,ob7,cap5) hm (Ae [0,0,0,1,1] R R)
 exact Ah<|Aa tbk [4] 4 R R<|Ad R R<|VO.ce hm (Az 1 [(15,L48 j.2),(77,L48 j.2)] R ⟨⟨_,R,.here _ R⟩,⟨_,R,.here _ R⟩,trivial⟩ (FzH.refl _)) [.same,.same,.same] R fn49 R (K12 _ _ _) (fun _=>R) (fun _=>R) fun r2 hm=>Ab R R (Cw R fa83_3)<|Ad R R<|Am (i:=2) R R R ld3 R R R<|Ac<|Ah<|Aa tbk [4] 4 R R<|Ab R R (C8 R R)<|Ab R R (Cw R fa83_4)<|Ad R R<|Am (i:=2) R R R ld3 R R R<|Ac<|Ah<|Aa tbk [2] 1 R R<|Ad R R<|Am (i:=3) R R R ld83 R R R<|Ab R R (Ai R)<|Ac<|B8 (Az (H':=[Q48 ob9 cap7 j.2,X83 b3 (⟨j.1.Group,j.1.Count,j.1.Pods,r2,(min (IntKind.i64.wrap (r.2 * g.Price)) (1125899906842624 : Int)),j.1.Rank⟩ : T_api_Option),X83 b2 (⟨j.1.Group,j.1.Count,j.1.Pods,r2,(min (IntKind.i64.wrap (r.2 * g.Price)) (1125899906842624 : Int)),j.1.Rank⟩ : T_api_Option),X81 b g]) 0 [(89,T_api_Option.vv (⟨j.1.Group,j.1.Count,j.1.Pods,r2,(min (IntKind.i64.wrap (r.2 * g.Price)) (1125899906842624 : Int)),j.1.Rank⟩ : T_api_Option))] R ⟨⟨_,R,.aggL ⟨.same _,.same _,.here _ R,.same _,.same _,.same _,trivial⟩⟩,trivial⟩ ⟨.same _,.box _ _ _ _ ⟨.same _,.same _,.here _ R,.same _,.same _,.same _,trivial⟩,.box _ _ _ _ ⟨.same _,.same _,.here _ R,.same _,.same _,.same _,trivial⟩,.same _,trivial⟩)<|Rt0 hm R [] (.cons (.cell _ _ _ _ 2 _ _ _ _ R R ld83 R) (.cons (.tmp _ _ R) .nil)) R R

/-! trireme/triremeref20.All -/
def ref20_All.l1 (ms : List T_api_Machine) (bs : List T_api_Bound) (l : List T_api_Pod) (gs : List T_api_Group) (rooms : List Int) : Nat → (List T_api_Option) → Int → Option (List T_api_Option)
 | 0, _, _ => none
 | n + 1, out2, i2 =>
  if (decide (i2 < (gs.length : Int))) = true then
   (if (decide (i2 < (rooms.length : Int))) = true then
    (V.gl rooms i2).bind fun x =>
    some x
   else
    some (0 : Int)).bind fun room2 =>
   (V.gl gs i2).bind fun x2 =>
   (ref20_Of ms bs l x2 room2).bind fun r =>
   if r.2 = true then
    (V.ap 72 out2 [r.1]).bind fun out4 =>
    ref20_All.l1 ms bs l gs rooms n out4 (i64.wrap (i2 + 1))
   else
    ref20_All.l1 ms bs l gs rooms n out2 (i64.wrap (i2 + 1))
  else
   some out2
def ref20_All (ms : List T_api_Machine) (bs : List T_api_Bound) (l : List T_api_Pod) (gs : List T_api_Group) (rooms : List Int) : Option (List T_api_Option) :=
 (ref20_All.l1 ms bs l gs rooms FU ([] : List T_api_Option) (0 : Int)).bind fun out32 =>
 some out32
theorem K14 (ms : List T_api_Machine) (bs : List T_api_Bound) (l : List T_api_Pod) (gs : List T_api_Group) (rooms : List Int) : VS2 Tryz.prog 42 (ref20_All ms bs l gs rooms) [L30 ms, L50 bs, L48 l, L81 gs, L3 rooms] [] (fun r ob0 cap0=>Z83 ob0 r cap0) (fun r ob0 cap0=>[Q83 ob0 cap0 r]) := by
 refine Cg [.tmp 10] Tryz.func42 R R R fun r hm=>?_
 unfold ref20_All at hm
 refine Ag tbk [] R R<|Ag tbk [] R R<|Af<|Ag tbk [] R R<|Bx hm (fun out32 (gg:Option Nat × Nat)=>[(11,Z83 gg.1 out32 gg.2)]) (fun out32 (gg:Option Nat × Nat)=>[Q83 gg.1 gg.2 out32]) (fun o hm=>?_) fun out32=>Pq fun ob3 cap3 hm=> ?_
 ·refine Bh (fun zn (zs:List T_api_Option × Int)=>ref20_All.l1 ms bs l gs rooms zn zs.1 zs.2) (fun zs (zg:Option Nat × Nat)=>[(0,L30 ms),(1,L50 bs),(2,L48 l),(3,L81 gs),(4,L3 rooms),(11,Z83 zg.1 zs.1 zg.2),(12,Iw zs.2)]) (fun zs (zg:Option Nat × Nat)=>[Q83 zg.1 zg.2 zs.1]) (([] : List T_api_Option),(0 : Int)) (none,0) (fun _=>R) hm (Be (Ba 83) (Ae [0] R R)) fun n=>Pq fun out2 i2=>Pq fun ob2 cap2 hm=> ?_
  rw [ref20_All.l1] at hm
  refine Af<|Ah<|Aa tbk [] 2 R R<|Ab R R (Ax T_api_Group.vv R B4)<|Ab R R (A2 R R R)<|Ac<|Ak hm R (fun h5 hm=>?_) fun h5 hm=> ?_
  ·exact Aj<|Af<|Aw<|Ag tbk [] R R<|Cz hm (fun room2 (_:Unit)=>[(0,L30 ms),(1,L50 bs),(2,L48 l),(3,L81 gs),(4,L3 rooms),(11,Z83 ob2 out2 cap2),(12,Iw i2),(13,Iw room2)]) (fun _ (_:Unit)=>[Q83 ob2 cap2 out2]) (fun o2 hm=>Ah<|Aa tbk [] 2 R R<|Ab R R (Ax (VV.int .i64) R Bz)<|Ab R R (A2 R R R)<|Ac<|Ak hm R (fun h8 hm=>Bk<|Aa tbk [] 2 R R<|Bd hm fun x h9 hm=>Ab R R (A3 (VV.int .i64) R R el41 h9)<|Aa tbk [] 2 R R<|Ac<|As () hm (Ae [0] R R)) fun h8 hm=>Aj<|As () hm (Ae [0] R R)) fun room2 _ hm=>Ah<|Aa tbk [] 5 R R<|Bd hm fun x2 h10 hm=>Ab R R (A3 T_api_Group.vv R R el67 h10)<|Aa tbk [] 2 R R<|Ad R R<|An hm 0 R fn90 R (K13 _ _ _ _ _) fun r hm=>Aa tbk [] 3 R R<|Ad R R<|Av z83 fun b=>Ad R R<|Am (i:=0) R R R ld83 R R R<|Ab R R (Ai R)<|Ac<|Ag tbk [] R R<|Ak hm R (fun h13 hm=>Bk<|Aa tbk [0] 2 R R<|Ad R R<|A7 ap72 R R R R R fun b2=>Bd hm fun out4 h15 hm=>Ad R R<|B1 2 T_api_Option.vv (l:=out2) (l2:=[r.1]) ap72 R R (sT_row 0 T_api_Option.vv el72 R R) h15 fun ob4 cap4=>Ab R R (Ai R)<|Ac<|A1 tbk [] R R<|Ap (out4,(IntKind.i64.wrap (i2 + (1 : Int)))) (ob4,cap4) hm (Ae [2] R R)) fun h13 hm=>Aj<|A1 tbk [] R R<|Ap (out2,(IntKind.i64.wrap (i2 + (1 : Int)))) (ob2,cap2) hm (Ae [1] R R)
  exact A0<|As (ob2,cap2) hm (Ae [0] R R)
 exact Ag tbk [] R R<|Rg2 hm R [0] ob3 cap3 (.cons (.tmp _ _ R) .nil) R R

/-! trireme/triremeref20.Sames -/
def ref20_Sames.l1 (a : List T_api_Option) (b : List T_api_Option) : Nat → Int → Option (Out Bool Unit)
 | 0, _ => none
 | n + 1, i2 =>
  if (decide (i2 < (a.length : Int))) = true then
   (V.gl a i2).bind fun x =>
   (V.gl b i2).bind fun x2 =>
   (ref20_Same x x2).bind fun r =>
   if (!r) = true then
    some (Out.ret false)
   else
    ref20_Sames.l1 a b n (i64.wrap (i2 + 1))
  else
   some (Out.go ())
def ref20_Sames (a : List T_api_Option) (b : List T_api_Option) : Option Bool :=
 if ((a.length : Int) != (b.length : Int)) = true then
  some false
 else
  (ref20_Sames.l1 a b FU (0 : Int)).bind fun o =>
  o.on fun j =>
  some true
theorem K15 (a : List T_api_Option) (b : List T_api_Option) : VS Tryz.prog 40 (ref20_Sames a b) [L83 a, L83 b] [] .bool N0 := by
 refine A4 [.tmp 4] Tryz.func40 R R R fun r hm=>?_
 unfold ref20_Sames at hm
 refine Ag tbk [] R R<|Af<|Ah<|Ab R R (Al R)<|Ab R R (Ax T_api_Option.vv R Cs)<|Ab R R (Al R)<|Ab R R (Ax T_api_Option.vv R Cs)<|Ab R R (A2 R R R)<|Ac<|Ak hm R (fun h1 hm=>Ag tbk [] R R<|Rt1 hm R [] R R R) fun h1 hm=>Aj<|Af<|Ag tbk [] R R<|Bq hm (fun _ (_:Unit)=>[]) (fun _ (_:Unit)=>[]) (fun o hm h3=>?_) fun j _ hm=> ?_
 ·refine Bh (fun zn (zs:Int)=>ref20_Sames.l1 a b zn zs) (fun zs (_:Unit)=>[(0,L83 a),(1,L83 b),(5,Iw zs)]) (fun _ (_:Unit)=>[]) _ () (fun _=>R) hm (Ae [] R R) fun n i2 _ hm=> ?_
  rw [ref20_Sames.l1] at hm
  exact Af<|Ah<|Aa tbk [] 2 R R<|Ab R R (Ax T_api_Option.vv R Cs)<|Ab R R (A2 R R R)<|Ac<|Ak hm R (fun h4 hm=>Aj<|Af<|Aw<|Af<|Bb 0 mixed<|Au tbk [0,1] [] (by kernel_rfl) R R R<|Bd hm fun x h5 hm=>A6 2 R R R (by kernel_rfl) (A3 T_api_Option.vv R R el72 h5)<|Au tbk [3,4,5] [] (by kernel_rfl) R R R<|Bd hm fun x2 h6 hm=>A6 6 R R R (by kernel_rfl) (A3 T_api_Option.vv R R el72 h6)<|A6 7 R R R (by kernel_rfl) (Bn R ld83 R)<|Ao 8 (by kernel_rfl)<|Aq R R R<|An hm 0 R fn89 R (K128 _ _) fun r hm=>A6 9 R R R (by kernel_rfl) (Cq R)<|A5 (by kernel_rfl)<|Ak hm R (fun h8 hm=>Ag tbk [] R R<|have hm:=Lr hm h3;Rt1 hm R [] R R R) fun h8 hm=>Aj<|A1 tbk [] R R<|Ap _ () hm (Ae [] R R)) fun h4 hm=>A0<|Ar () hm (Ae [] R R)
 exact Ag tbk [] R R<|Rt1 hm R [] R R R

/-! trireme/triremeref20.Hopeless -/
def ref20_Hopeless.l2 (ms : List T_api_Machine) (bs : List T_api_Bound) (l : List T_api_Pod) (gs : List T_api_Group) (i2 : Int) : Nat → Bool → Int → Option Bool
 | 0, _, _ => none
 | n2 + 1, hope2, k2 =>
  if (decide (k2 < (gs.length : Int))) = true then
   (V.gl l i2).bind fun x =>
   (V.gl gs k2).bind fun x2 =>
   (ref20_Of ms bs [x] x2 (1 : Int)).bind fun r =>
   ref20_Hopeless.l2 ms bs l gs i2 n2 (hope2 || r.2) (i64.wrap (k2 + 1))
  else
   some hope2
def ref20_Hopeless.l1 (ms : List T_api_Machine) (bs : List T_api_Bound) (l : List T_api_Pod) (gs : List T_api_Group) : Nat → (List ByteArray) → Int → Option (List ByteArray)
 | 0, _, _ => none
 | n + 1, out2, i2 =>
  if (decide (i2 < (l.length : Int))) = true then
   (ref20_Hopeless.l2 ms bs l gs i2 FU false (0 : Int)).bind fun hope32 =>
   if (!hope32) = true then
    (V.gl l i2).bind fun x3 =>
    (V.ap 16 out2 [x3.Name]).bind fun out4 =>
    ref20_Hopeless.l1 ms bs l gs n out4 (i64.wrap (i2 + 1))
   else
    ref20_Hopeless.l1 ms bs l gs n out2 (i64.wrap (i2 + 1))
  else
   some out2
def ref20_Hopeless (ms : List T_api_Machine) (bs : List T_api_Bound) (l : List T_api_Pod) (gs : List T_api_Group) : Option (List ByteArray) :=
 (ref20_Hopeless.l1 ms bs l gs FU ([] : List ByteArray) (0 : Int)).bind fun out32 =>
 some out32
theorem K16 (ms : List T_api_Machine) (bs : List T_api_Bound) (l : List T_api_Pod) (gs : List T_api_Group) : VS2 Tryz.prog 45 (ref20_Hopeless ms bs l gs) [L30 ms, L50 bs, L48 l, L81 gs] [] (fun r ob0 cap0=>Z9 ob0 r cap0) (fun r ob0 cap0=>[Q9 ob0 cap0 r]) := by
 refine Cg [.tmp 8] Tryz.func45 R R R fun r hm=>?_
 unfold ref20_Hopeless at hm
 refine Ag tbk [] R R<|Ag tbk [] R R<|Af<|Ag tbk [] R R<|Bx hm (fun out32 (gg:Option Nat × Nat)=>[(9,Z9 gg.1 out32 gg.2)]) (fun out32 (gg:Option Nat × Nat)=>[Q9 gg.1 gg.2 out32]) (fun o hm=>?_) fun out32=>Pq fun ob3 cap3 hm=> ?_
 ·refine Bh (fun zn (zs:List ByteArray × Int)=>ref20_Hopeless.l1 ms bs l gs zn zs.1 zs.2) (fun zs (zg:Option Nat × Nat)=>[(0,L30 ms),(1,L50 bs),(2,L48 l),(3,L81 gs),(9,Z9 zg.1 zs.1 zg.2),(10,Iw zs.2)]) (fun zs (zg:Option Nat × Nat)=>[Q9 zg.1 zg.2 zs.1]) (([] : List ByteArray),(0 : Int)) (none,0) (fun _=>R) hm (Be (Ba 9) (Ae [0] R R)) fun n=>Pq fun out2 i2=>Pq fun ob2 cap2 hm=> ?_
  rw [ref20_Hopeless.l1] at hm
  refine Af<|Ah<|Aa tbk [] 2 R R<|Ab R R (Ax T_api_Pod.vv R Br)<|Ab R R (A2 R R R)<|Ac<|Ak hm R (fun h5 hm=>?_) fun h5 hm=> ?_
  ·refine Aj<|Af<|Aw<|Ag tbk [] R R<|Af<|Ag tbk [] R R<|Bx hm (fun hope32 (_:Unit)=>[(0,L30 ms),(1,L50 bs),(2,L48 l),(3,L81 gs),(9,Z9 ob2 out2 cap2),(10,Iw i2),(11,.bool hope32)]) (fun _ (_:Unit)=>[Q9 ob2 cap2 out2]) (fun o2 hm=>?_) fun hope32 _ hm=> ?_
   ·refine Bh (fun zn (zs:Bool × Int)=>ref20_Hopeless.l2 ms bs l gs i2 zn zs.1 zs.2) (fun zs (_:Unit)=>[(0,L30 ms),(1,L50 bs),(2,L48 l),(3,L81 gs),(9,Z9 ob2 out2 cap2),(10,Iw i2),(11,.bool zs.1),(12,Iw zs.2)]) (fun _ (_:Unit)=>[Q9 ob2 cap2 out2]) (false,(0 : Int)) () (fun _=>R) hm (Ae [0] R R) fun n2=>Pq fun hope2 k2 _ hm=> ?_
    rw [ref20_Hopeless.l2] at hm
    refine Af<|Ah<|Aa tbk [] 2 R R<|Ab R R (Ax T_api_Group.vv R B4)<|Ab R R (A2 R R R)<|Ac<|Ak hm R (fun h8 hm=>?_) fun h8 hm=> ?_
    ·refine Aj<|Af<|Aw<|Af<|Bb 0 mixed<|Au tbk [0,1,2,3] [] (by kernel_rfl) R R R<|Bd hm fun x h9 hm=>A6 4 R R R (by kernel_rfl) (A3 T_api_Pod.vv R R el24 h9)<|Au tbk [5,7,8] [] (by kernel_rfl) R R R<|Bd hm fun x2 h10 hm=>A6 9 R R R (by kernel_rfl) (A3 T_api_Group.vv R R el67 h10)<|A6 10 R R R (by kernel_rfl) (Bn R ld81 R)<|?_
     refine B0 [6,15] (by kernel_rfl) ⟨?_,?_,trivial⟩
     ·refine Aq R R R<|A7 ap24 R R R R R fun b=>B7 (Az 0 [(34,L48 [x])] R ⟨⟨_,R,.here _ R⟩,trivial⟩ (FzH.refl _))<|?_
      refine B0 [11,15] (by kernel_rfl) ⟨?_,?_,trivial⟩
      ·exact Aq R R R<|An hm 0 R fn90 R (K13 _ _ _ _ _) fun r hm=>Au tbk [12,13,14] [] (by kernel_rfl) R R R<|Ao 15 (by kernel_rfl)<|Aq R R R<|Av z83 fun b2=>Ao 16 (by kernel_rfl)<|Aq R R R<|Am (i:=0) R R R ld83 R R R<|A6 17 R R R (by kernel_rfl) (Ai R)<|A5 (by kernel_rfl)<|Bk<|Aa tbk [] 2 R R<|Cb tbk [] 2 45 43 R R R R R<|Ab R R (Ai R)<|Ac<|A1 tbk [] R R<|Ap ((hope2 || r.2),(IntKind.i64.wrap (k2 + (1 : Int)))) () hm (Ae [1] R R)
      ·exact Aq R R R<|Av z83 fun b3=>Ao 11 (by kernel_rfl)<|Aq R R R<|An hm 0 R fn90 R (K13 _ _ _ _ _) fun r2 hm=>Au tbk [12,13,14] [] (by kernel_rfl) R R R<|Ao 16 (by kernel_rfl)<|Aq R R R<|Am (i:=0) R R R ld83 R R R<|A6 17 R R R (by kernel_rfl) (Ai R)<|A5 (by kernel_rfl)<|Bk<|Aa tbk [] 2 R R<|Cb tbk [] 2 45 43 R R R R R<|Ab R R (Ai R)<|Ac<|A1 tbk [] R R<|Ap ((hope2 || r2.2),(IntKind.i64.wrap (k2 + (1 : Int)))) () hm (Ae [1] R R)
     ·exact Aq R R R<|Av z83 fun b4=>Ao 6 (by kernel_rfl)<|Aq R R R<|A7 ap24 R R R R R fun b5=>B7 (Az 0 [(34,L48 [x])] R ⟨⟨_,R,.here _ R⟩,trivial⟩ (FzH.refl _))<|Ao 11 (by kernel_rfl)<|Aq R R R<|An hm 0 R fn90 R (K13 _ _ _ _ _) fun r3 hm=>Au tbk [12,13,14] [] (by kernel_rfl) R R R<|Ao 16 (by kernel_rfl)<|Aq R R R<|Am (i:=0) R R R ld83 R R R<|A6 17 R R R (by kernel_rfl) (Ai R)<|A5 (by kernel_rfl)<|Bk<|Aa tbk [] 2 R R<|Cb tbk [] 2 45 43 R R R R R<|Ab R R (Ai R)<|Ac<|A1 tbk [] R R<|Ap ((hope2 || r3.2),(IntKind.i64.wrap (k2 + (1 : Int)))) () hm (Ae [1] R R)
    exact A0<|As () hm (Ae [0] R R)
   exact Ag tbk [] R R<|Ak hm R (fun h22 hm=>Bk<|Aa tbk [] 3 R R<|Bd hm fun x3 h23 hm=>Ab R R (A3 T_api_Pod.vv R R el24 h23)<|Aa tbk [] 2 R R<|Ad R R<|A7 ap51 R R R R R fun b6=>Bd hm fun out4 h25 hm=>Ad R R<|B1 1 VV.str (l:=out2) (l2:=[x3.Name]) ap51 R R (sT_row 0 VV.str el51 R R) h25 fun ob4 cap4=>Ab R R (Ai R)<|Ac<|A1 tbk [] R R<|Ap (out4,(IntKind.i64.wrap (i2 + (1 : Int)))) (ob4,cap4) hm (Ae [1] R R)) fun h22 hm=>Aj<|A1 tbk [] R R<|Ap (out2,(IntKind.i64.wrap (i2 + (1 : Int)))) (ob2,cap2) hm (Ae [0] R R)
  exact A0<|As (ob2,cap2) hm (Ae [0] R R)
 exact Ag tbk [] R R<|Rg2 hm R [0] ob3 cap3 (.cons (.tmp _ _ R) .nil) R R

/-! trireme/triremelaw20.OptionTells -/
def law20_OptionTells (c : T_law20_Case) : Option Bool :=
 (ref20_Right c.Ms c.Bs c.L c.G).bind fun r =>
 if (!r) = true then
  (law20_known).bind fun r2 =>
  some r2
 else
  (option_All c.Ms c.Bs c.L c.G c.Rooms).bind fun r3 =>
  (ref20_All c.Ms c.Bs c.L c.G c.Rooms).bind fun r4 =>
  (ref20_Sames r3 r4).bind fun r5 =>
  (if r5 = true then (option_Hopeless c.Ms c.Bs c.L c.G).bind fun r6 =>
  (ref20_Hopeless c.Ms c.Bs c.L c.G).bind fun r7 =>
  (ref09_Texts r6 r7).bind fun r8 =>
  some r8 else some false).bind fun c2 =>
  (if c2 = true then (law20_known).bind fun r9 =>
  some r9 else some false).bind fun c3 =>
  some c3
theorem law20_OptionTells_ok (c : T_law20_Case) : VS Tryz.prog 8 (law20_OptionTells c) [T_law20_Case.vv c] [] .bool N0 := by
 refine A4 [.tmp 2] Tryz.func8 R R R fun r hm=>?_
 unfold law20_OptionTells at hm
 refine Ah<|Ad R R<|A9 R R fun b=>Ab R R (Ai R)<|Ac<|Af<|Ah<|Aa tbk [0,0,0,0] 8 R R<|Ad R R<|An hm 0 R fn38 R (K54 _ _ _ _) fun r hm=>Ab R R (Cq R)<|Ac<|Ak hm R (fun h3 hm=>Ah<|Ad R R<|An hm 0 R fn39 R (K131) fun r2 hm=>Ab R R (Ai R)<|Ac<|Rt1 hm R [] R R R) fun h3 hm=>Aj<|Af<|Bb 0 mixed<|Au tbk [0,1,2,3,4,5,6,7,8,9,11,12,13,14,15,16,17,18,19,20] [0,0,0,0,0,0,0,0,0,0] (by kernel_rfl) R R R<|Ao 10 (by kernel_rfl)<|Aq R R R<|Cc hm 0 R fn41 R (K127 _ _ _ _ _) fun r3 ob cap hm=>B7 (Az 0 [(24,L83 r3)] R ⟨⟨_,R,.here _ R⟩,trivial⟩ (FzH.refl _))<|Ao 21 (by kernel_rfl)<|Aq R R R<|Cc hm 0 R fn42 R (K14 _ _ _ _ _) fun r4 ob2 cap2 hm=>B7 (Az 0 [(35,L83 r4)] R ⟨⟨_,R,.here _ R⟩,trivial⟩ (FzH.refl _))<|Ao 22 (by kernel_rfl)<|Aq R R R<|An hm 0 R fn40 R (K15 _ _) fun r5 hm=>A6 23 R R R (by kernel_rfl) (Al R)<|Ci hm [43,42,41,40,39,38,37,36,35,34,33,32,31,30,29,28,27,26,25,24,23,22,21,10,20,19,18,17,16,15,14,13,12,11,9,8,7,6,5,4,3,2,1,0] 57 37 R (fun _ K' h10 J hm=>Au tbk [24,25,26,27,28,29,30,31,33,34,35,36,37,38,39,40] [0,0,0,0,0,0,0,0] (by kernel_rfl) R R R<|Ao 32 (by kernel_rfl)<|Ch R R R R R R<|Cc hm 0 R fn44 R (K129 _ _ _ _) fun r6 ob3 cap3 hm=>B7 (Az 0 [(46,L9 r6)] R ⟨⟨_,R,.here _ R⟩,trivial⟩ (FzH.refl _))<|Ao 41 (by kernel_rfl)<|Ch R R R R R R<|Cc hm 0 R fn45 R (K16 _ _ _ _) fun r7 ob4 cap4 hm=>B7 (Az 0 [(55,L9 r7)] R ⟨⟨_,R,.here _ R⟩,trivial⟩ (FzH.refl _))<|Ao 42 (by kernel_rfl)<|Ch R R R R R R<|An hm 0 R fn43 R (K130 _ _) fun r8 hm=>A6 43 R R R (by kernel_rfl) (Bg true R R R)<|Di [43,42,41,40,39,38,37,36,35,34,33,32,31,30,29,28,27,26,25,24,23,22,21,10,20,19,18,17,16,15,14,13,12,11,9,8,7,6,5,4,3,2,1,0] (by kernel_rfl) R<|J 21 R R (Bj hm)) (fun _ K' h10 J hm=>Au tbk [24,25,26,27,28,29,30,31,32,33,34,35,36,37,38,39,40,41,42,43] [] (by kernel_rfl) R R R<|J 19 R R (Bj hm)) fun c2 hm=>A6 44 R R R (by kernel_rfl) (Al R)<|Ci hm [46,45,44,43,42,41,40,39,38,37,36,35,34,33,32,31,30,29,28,27,26,25,24,23,22,21,10,20,19,18,17,16,15,14,13,12,11,9,8,7,6,5,4,3,2,1,0] 60 58 R (fun _ K' h17 J hm=>Ao 45 (by kernel_rfl)<|Ch R R R R R R<|An hm 0 R fn39 R (K131) fun r9 hm=>A6 46 R R R (by kernel_rfl) (Bg true R R R)<|J 1 R R (Bj hm)) (fun _ K' h17 J hm=>Au tbk [45,46] [] (by kernel_rfl) R R R<|J 1 R R (Bj hm)) fun c3 hm=>A6 47 R R R (by kernel_rfl) (Ai R)<|?_
 exact A5 (by kernel_rfl)<|Rt1 hm R [] R R R

/-! trireme/triremelaw20.OptionWastes -/
def law20_OptionWastes.l1 (l : List T_api_Pod) : Nat → Int → Option (Out Bool Unit)
 | 0, _ => none
 | n2 + 1, i2 =>
  if (decide (i2 < (l.length : Int))) = true then
   (V.gl l i2).bind fun x =>
   (ref07_LightPod x).bind fun r4 =>
   (if (!r4) = true then some true else (V.gl l i2).bind fun x2 =>
   (ref07_RightPod x2).bind fun r5 =>
   some (!r5)).bind fun c3 =>
   if c3 = true then
    (law20_known).bind fun r6 =>
    some (Out.ret r6)
   else
    law20_OptionWastes.l1 l n2 (i64.wrap (i2 + 1))
  else
   some (Out.go ())
def law20_OptionWastes (l : List T_api_Pod) (like : T_api_Machine) (n : Int) : Option Bool :=
 (if ((decide ((l.length : Int) > 60)) || (decide (n > 200))) = true then some true else (ref07_LightMachine like).bind fun r =>
 some (!r)).bind fun c =>
 (if c = true then some true else (ref07_RightMachine like).bind fun r2 =>
 some (!r2)).bind fun c2 =>
 if c2 = true then
  (law20_known).bind fun r3 =>
  some r3
 else
  (law20_OptionWastes.l1 l FU (0 : Int)).bind fun o =>
  o.on fun j =>
  (option_Waste l like n).bind fun r7 =>
  (ref20_Waste l like n).bind fun r8 =>
  (if (((r7 == r8) && (decide (r7 ≥ 0))) && (decide (r7 ≤ 1000))) = true then (law20_known).bind fun r9 =>
  some r9 else some false).bind fun c4 =>
  some c4
theorem law20_OptionWastes_ok (l : List T_api_Pod) (like : T_api_Machine) (n : Int) : VS Tryz.prog 9 (law20_OptionWastes l like n) [L48 l, T_api_Machine.vv like, Iw n] [] .bool N0 := by
 refine A4 [.tmp 6] Tryz.func9 R R R fun r hm=>?_
 unfold law20_OptionWastes at hm
 refine Ah<|Ad R R<|A9 R R fun b=>Ab R R (Ai R)<|Ac<|Af<|Ah<|Ab R R (Al R)<|Ab R R (Ax T_api_Pod.vv R Br)<|Aa tbk [] 2 R R<|Cb tbk [] 3 15 12 R R R R R<|Ab R R (Al R)<|Bc hm 4 20 16 R (fun _ K' h3 J hm=>Aa tbk [] 4 R R<|J 3 R R (Bj hm)) (fun _ K' h3 J hm=>Aa tbk [0] 1 R R<|A8 R R R R R<|An hm 0 R fn46 R (K19 _) fun r hm=>Aa tbk [] 2 R R<|J 3 R R (Bj hm)) fun c hm=>Ab R R (Al R)<|Bc hm 4 25 21 R (fun _ K' h6 J hm=>Aa tbk [] 4 R R<|J 3 R R (Bj hm)) (fun _ K' h6 J hm=>Aa tbk [0] 1 R R<|A8 R R R R R<|An hm 0 R fn47 R (K35 _) fun r2 hm=>Aa tbk [] 2 R R<|J 3 R R (Bj hm)) fun c2 hm=>Ac<|Ak hm R (fun h9 hm=>Ah<|Ad R R<|An hm 0 R fn39 R (K131) fun r3 hm=>Ab R R (Ai R)<|Ac<|Rt1 hm R [] R R R) fun h9 hm=>Aj<|Af<|Ag tbk [] R R<|Bq hm (fun _ (_:Unit)=>[(0,L48 l),(2,Iw n),(4,.ptr b 0)]) (fun _ (_:Unit)=>[X30 b like]) (fun o hm h12=>?_) fun j _ hm=> ?_
 ·refine Bh (fun zn (zs:Int)=>law20_OptionWastes.l1 l zn zs) (fun zs (_:Unit)=>[(0,L48 l),(2,Iw n),(4,.ptr b 0),(7,Iw zs)]) (fun _ (_:Unit)=>[X30 b like]) _ () (fun _=>R) hm (Ae [0] R R) fun n2 i2 _ hm=> ?_
  rw [law20_OptionWastes.l1] at hm
  exact Af<|Ah<|Aa tbk [] 2 R R<|Ab R R (Ax T_api_Pod.vv R Br)<|Ab R R (A2 R R R)<|Ac<|Ak hm R (fun h13 hm=>Aj<|Af<|Aw<|Ah<|Aa tbk [] 2 R R<|Bd hm fun x h14 hm=>Ab R R (A3 T_api_Pod.vv R R el24 h14)<|Ab R R (Bn R ld48 R)<|Ad R R<|An hm 0 R fn31 R (K40 _) fun r4 hm=>Aa tbk [] 2 R R<|Bc hm 7 46 39 R (fun _ K' h16 J hm=>Aa tbk [] 7 R R<|J 6 R R (Bj hm)) (fun _ K' h16 J hm=>Aa tbk [] 2 R R<|Bd hm fun x2 h17 hm=>Bm R R R R R (A3 T_api_Pod.vv R R el24 h17)<|Bm R R R R R (Bn R ld48 R)<|A8 R R R R R<|An hm 0 R fn32 R (K48 _) fun r5 hm=>Aa tbk [] 2 R R<|J 6 R R (Bj hm)) fun c3 hm=>Ac<|Ak hm R (fun h20 hm=>Ah<|Ad R R<|An hm 0 R fn39 R (K131) fun r6 hm=>Ab R R (Ai R)<|Ac<|have hm:=Lr hm h12;Rt1 hm R [] R R R) fun h20 hm=>Aj<|A1 tbk [] R R<|Ap _ () hm (Ae [0] R R)) fun h13 hm=>A0<|Ar () hm (Ae [0] R R)
 exact Ah<|Aa tbk [0] 3 R R<|Ad R R<|An hm 0 R fn48 R (K125 _ _ _) fun r7 hm=>Ab R R (Ai R)<|Ac<|Ah<|Aa tbk [0] 4 R R<|Ad R R<|An hm 0 R fn49 R (K12 _ _ _) fun r8 hm=>Aa tbk [] 2 R R<|Bv tbk [] 3 61 58 R R R R R<|Ab R R (Al R)<|Bv tbk [] 3 65 62 R R R R R<|Ab R R (Al R)<|Bc hm 2 68 66 R (fun _ K' h26 J hm=>A8 R R R R R<|An hm 0 R fn39 R (K131) fun r9 hm=>Ab R R (Bg true R R R)<|J 1 R R (Bj hm)) (fun _ K' h26 J hm=>Aa tbk [] 2 R R<|J 1 R R (Bj hm)) fun c4 hm=>Ab R R (Ai R)<|Ac<|Rt1 hm R [] R R R

/-! trireme/triremelaw20.OptionOnce -/
def law20_OptionOnce.l1 (c : T_law20_Case) : Nat → Bool → Int → Option Bool
 | 0, _, _ => none
 | n + 1, free2, i2 =>
  if (decide (i2 < (c.L.length : Int))) = true then
   (if free2 = true then (V.gl c.L i2).bind fun x =>
   some ((x.Spread.length : Int) == 0) else some false).bind fun c2 =>
   law20_OptionOnce.l1 c n c2 (i64.wrap (i2 + 1))
  else
   some free2
def law20_OptionOnce.l3 (c : T_law20_Case) (r3 : List T_api_Option) (i4 : Int) : Nat → Int → Option Int
 | 0, _ => none
 | n3 + 1, at_4 =>
  (if (decide (at_4 < (c.G.length : Int))) = true then (V.gl c.G at_4).bind fun x2 =>
  (V.gl r3 i4).bind fun x3 =>
  some (!(V.seq x2.Name x3.Group)) else some false).bind fun c3 =>
  if c3 = true then
   law20_OptionOnce.l3 c r3 i4 n3 (i64.wrap (at_4 + 1))
  else
   some at_4
def law20_OptionOnce.l5 (c : T_law20_Case) (r3 : List T_api_Option) (i4 : Int) (k2 : Int) : Nat → Int → Option Int
 | 0, _ => none
 | n8 + 1, n6 =>
  (if (decide (n6 < (c.L.length : Int))) = true then (V.gl c.L n6).bind fun x10 =>
  (V.gl r3 i4).bind fun x11 =>
  (V.gl x11.Pods k2).bind fun x12 =>
  some (!(V.seq x10.Name x12)) else some false).bind fun c7 =>
  if c7 = true then
   law20_OptionOnce.l5 c r3 i4 k2 n8 (i64.wrap (n6 + 1))
  else
   some n6
def law20_OptionOnce.l6 (r3 : List T_api_Option) (r4 : List ByteArray) (free32 : Bool) (i4 : Int) (k2 : Int) : Nat → Int → Option (Out (Out (Out Bool Unit) Unit) Unit)
 | 0, _ => none
 | n9 + 1, j4 =>
  if (decide (j4 < (r4.length : Int))) = true then
   (if free32 = true then (V.gl r4 j4).bind fun x13 =>
   (V.gl r3 i4).bind fun x14 =>
   (V.gl x14.Pods k2).bind fun x15 =>
   some (V.seq x13 x15) else some false).bind fun c8 =>
   if c8 = true then
    some (Out.ret (Out.ret (Out.ret false)))
   else
    law20_OptionOnce.l6 r3 r4 free32 i4 k2 n9 (i64.wrap (j4 + 1))
  else
   some (Out.go ())
def law20_OptionOnce.l4 (c : T_law20_Case) (r3 : List T_api_Option) (r4 : List ByteArray) (free32 : Bool) (i4 : Int) : Nat → Int → Int → Option (Out (Out Bool Unit) Unit)
 | 0, _, _ => none
 | n4 + 1, last2, k2 =>
  (V.gl r3 i4).bind fun x9 =>
  if (decide (k2 < (x9.Pods.length : Int))) = true then
   (law20_OptionOnce.l5 c r3 i4 k2 FU (i64.wrap (last2 + 1))).bind fun n72 =>
   if (n72 == (c.L.length : Int)) = true then
    some (Out.ret (Out.ret false))
   else
    (law20_OptionOnce.l6 r3 r4 free32 i4 k2 FU (0 : Int)).bind fun o6 =>
    o6.on fun j5 =>
    law20_OptionOnce.l4 c r3 r4 free32 i4 n4 n72 (i64.wrap (k2 + 1))
  else
   some (Out.go ())
def law20_OptionOnce.l2 (c : T_law20_Case) (r3 : List T_api_Option) (r4 : List ByteArray) (free32 : Bool) : Nat → Int → Int → Option (Out Bool Unit)
 | 0, _, _ => none
 | n2 + 1, at_2, i4 =>
  if (decide (i4 < (r3.length : Int))) = true then
   (law20_OptionOnce.l3 c r3 i4 FU at_2).bind fun at_52 =>
   (if ((at_52 == (c.G.length : Int)) || (decide (at_52 ≥ (c.Rooms.length : Int)))) = true then some true else (V.gl r3 i4).bind fun x4 =>
   some (decide (x4.Count < 1))).bind fun c4 =>
   (if c4 = true then some true else (V.gl r3 i4).bind fun x5 =>
   (V.gl c.Rooms at_52).bind fun x6 =>
   some (decide (x5.Count > x6))).bind fun c5 =>
   (if c5 = true then some true else (V.gl r3 i4).bind fun x7 =>
   (V.gl r3 i4).bind fun x8 =>
   some (decide ((x7.Pods.length : Int) < x8.Count))).bind fun c6 =>
   if c6 = true then
    some (Out.ret false)
   else
    (law20_OptionOnce.l4 c r3 r4 free32 i4 FU (-1) (0 : Int)).bind fun o4 =>
    o4.on fun j2 =>
    law20_OptionOnce.l2 c r3 r4 free32 n2 at_52 (i64.wrap (i4 + 1))
  else
   some (Out.go ())
def law20_OptionOnce (c : T_law20_Case) : Option Bool :=
 (ref20_Right c.Ms c.Bs c.L c.G).bind fun r =>
 if (!r) = true then
  (law20_known).bind fun r2 =>
  some r2
 else
  (option_All c.Ms c.Bs c.L c.G c.Rooms).bind fun r3 =>
  (option_Hopeless c.Ms c.Bs c.L c.G).bind fun r4 =>
  (law20_OptionOnce.l1 c FU true (0 : Int)).bind fun free32 =>
  (law20_OptionOnce.l2 c r3 r4 free32 FU 0 (0 : Int)).bind fun o2 =>
  o2.on fun j =>
  (law20_known).bind fun r5 =>
  some r5
theorem law20_OptionOnce_ok (c : T_law20_Case) : VS Tryz.prog 10 (law20_OptionOnce c) [T_law20_Case.vv c] [] .bool N0 := by
 refine A4 [.tmp 2] Tryz.func10 R R R fun r hm=>?_
 unfold law20_OptionOnce at hm
 refine Ah<|Ad R R<|A9 R R fun b=>Ab R R (Ai R)<|Ac<|Af<|Ah<|Aa tbk [0,0,0,0] 8 R R<|Ad R R<|An hm 0 R fn38 R (K54 _ _ _ _) fun r hm=>Ab R R (Cq R)<|Ac<|Ak hm R (fun h3 hm=>Ah<|Ad R R<|An hm 0 R fn39 R (K131) fun r2 hm=>Ab R R (Ai R)<|Ac<|Rt1 hm R [] R R R) fun h3 hm=>Aj<|Ah<|Aa tbk [0,0,0,0,0] 10 R R<|Ad R R<|Cc hm 0 R fn41 R (K127 _ _ _ _ _) fun r3 ob cap hm=>Bp (Az 0 [(34,L83 r3)] R ⟨⟨_,R,.here _ R⟩,trivial⟩ (FzH.refl _))<|Ab R R (Ai R)<|Ac<|Ah<|Aa tbk [0,0,0,0] 8 R R<|Ad R R<|Cc hm 0 R fn44 R (K129 _ _ _ _) fun r4 ob2 cap2 hm=>Bp (Az 0 [(43,L9 r4)] R ⟨⟨_,R,.here _ R⟩,trivial⟩ (FzH.refl _))<|Ab R R (Ai R)<|Ac<|Ag tbk [] R R<|Af<|Ag tbk [] R R<|Bx hm (fun free32 (_:Unit)=>[(1,.ptr b 0),(3,L83 r3),(4,L9 r4),(5,.bool free32)]) (fun _ (_:Unit)=>[X69 b c]) (fun o hm=>?_) fun free32 _ hm=> ?_
 ·refine Bh (fun zn (zs:Bool × Int)=>law20_OptionOnce.l1 c zn zs.1 zs.2) (fun zs (_:Unit)=>[(1,.ptr b 0),(3,L83 r3),(4,L9 r4),(5,.bool zs.1),(6,Iw zs.2)]) (fun _ (_:Unit)=>[X69 b c]) (true,(0 : Int)) () (fun _=>R) hm (Ae [0] R R) fun n=>Pq fun free2 i2 _ hm=> ?_
  rw [law20_OptionOnce.l1] at hm
  exact Af<|Ah<|Aa tbk [0] 3 R R<|Ab R R (Ax T_api_Pod.vv R Br)<|Ab R R (A2 R R R)<|Ac<|Ak hm R (fun h11 hm=>Aj<|Af<|Aw<|Bk<|Aa tbk [] 2 R R<|Bc hm 9 61 52 R (fun _ K' h12 J hm=>Aa tbk [0] 3 R R<|Bd hm fun x h13 hm=>Bm R R R R R (A3 T_api_Pod.vv R R el24 h13)<|Aa tbk [] 2 R R<|Bm R R R R R (Ax T_api_Label.vv R Bu)<|Aa tbk [] 2 R R<|J 8 R R (Bj hm)) (fun _ K' h12 J hm=>Aa tbk [] 9 R R<|J 8 R R (Bj hm)) fun c2 hm=>Ab R R (Ai R)<|Ac<|A1 tbk [] R R<|Ap (c2,(IntKind.i64.wrap (i2 + (1 : Int)))) () hm (Ae [0] R R)) fun h11 hm=>A0<|As () hm (Ae [0] R R)
 refine Ag tbk [] R R<|Af<|Ag tbk [] R R<|Bq hm (fun _ (_:Unit)=>[]) (fun _ (_:Unit)=>[]) (fun o2 hm h16=>?_) fun j _ hm=> ?_
 ·refine Bh (fun zn (zs:Int × Int)=>law20_OptionOnce.l2 c r3 r4 free32 zn zs.1 zs.2) (fun zs (_:Unit)=>[(1,.ptr b 0),(3,L83 r3),(4,L9 r4),(5,.bool free32),(7,Iw zs.1),(8,Iw zs.2)]) (fun _ (_:Unit)=>[X69 b c]) ((0 : Int),(0 : Int)) () (fun _=>R) hm (Ae [0] R R) fun n2=>Pq fun at_2 i4 _ hm=> ?_
  rw [law20_OptionOnce.l2] at hm
  refine Af<|Ah<|Aa tbk [] 2 R R<|Ab R R (Ax T_api_Option.vv R Cs)<|Ab R R (A2 R R R)<|Ac<|Ak hm R (fun h17 hm=>?_) fun h17 hm=> ?_
  ·refine Aj<|Af<|Aw<|Cz hm (fun at_52 (_:Unit)=>[(1,.ptr b 0),(3,L83 r3),(4,L9 r4),(5,.bool free32),(7,Iw at_52),(8,Iw i4)]) (fun _ (_:Unit)=>[X69 b c]) (fun o3 hm=>?_) fun at_52 _ hm=> ?_
   ·refine Bh (fun zn (zs:Int)=>law20_OptionOnce.l3 c r3 i4 zn zs) (fun zs (_:Unit)=>[(1,.ptr b 0),(3,L83 r3),(4,L9 r4),(5,.bool free32),(7,Iw zs),(8,Iw i4)]) (fun _ (_:Unit)=>[X69 b c]) _ () (fun _=>R) hm (Ae [0] R R) fun n3 at_4 _ hm=> ?_
    rw [law20_OptionOnce.l3] at hm
    exact Af<|Af<|Bb 0 mixed<|Au tbk [0,1,2] [0] (by kernel_rfl) R R R<|A6 3 R R R (by kernel_rfl) (Ax T_api_Group.vv R B4)<|Au tbk [4,5] [] (by kernel_rfl) R R R<|Ci hm [18,17,16,15,14,13,12,11,10,9,8,7,6,5,4,3,2,1,0] 86 73 R (fun _ K' h20 J hm=>Au tbk [6,7,8] [0] (by kernel_rfl) R R R<|Bd hm fun x2 h21 hm=>B3 9 R R R R R R (by kernel_rfl) (A3 T_api_Group.vv R R el67 h21)<|Au tbk [10,11,12,13] [] (by kernel_rfl) R R R<|Bd hm fun x3 h22 hm=>B3 14 R R R R R R (by kernel_rfl) (A3 T_api_Option.vv R R el72 h22)<|Au tbk [15,16,17,18] [] (by kernel_rfl) R R R<|J 12 R R (Bj hm)) (fun _ K' h20 J hm=>Au tbk [6,7,8,9,10,11,12,13,14,15,16,17,18] [] (by kernel_rfl) R R R<|J 12 R R (Bj hm)) fun c3 hm=>A5 (by kernel_rfl)<|Ak hm R (fun h24 hm=>Aj<|Aw<|A1 tbk [] R R<|Ap _ () hm (Ae [0] R R)) fun h24 hm=>A0<|As () hm (Ae [0] R R)
   refine Af<|Af<|Bb 0 mixed<|Au tbk [0,1,2] [0] (by kernel_rfl) R R R<|A6 3 R R R (by kernel_rfl) (Ax T_api_Group.vv R B4)<|Au tbk [4,5] [] (by kernel_rfl) R R R<|VA.so [11,10,9,8,7,6,5,4,3,2,1,0] 100 94 R (fun K' J=>Au tbk [6,7,8,9,10,11] [] (by kernel_rfl) R R R<|J 5 R R R) (fun h25 K' J=>Au tbk [6,7,8] [0] (by kernel_rfl) R R R<|B3 9 R R R R R R (by kernel_rfl) (Ax (VV.int .i64) R Bz)<|Au tbk [10,11] [] (by kernel_rfl) R R R<|J 5 R R R)<|A6 12 R R R (by kernel_rfl) (Al R)<|Ci hm [19,18,17,16,15,14,13,12,11,10,9,8,7,6,5,4,3,2,1,0] 108 101 R (fun _ K' h26 J hm=>Au tbk [13,14,15,16,17,18,19] [] (by kernel_rfl) R R R<|J 6 R R (Bj hm)) (fun _ K' h26 J hm=>Au tbk [13,14] [] (by kernel_rfl) R R R<|Bd hm fun x4 h27 hm=>B3 15 R R R R R R (by kernel_rfl) (A3 T_api_Option.vv R R el72 h27)<|Au tbk [16,17,18,19] [] (by kernel_rfl) R R R<|J 6 R R (Bj hm)) fun c4 hm=>A6 20 R R R (by kernel_rfl) (Al R)<|Ci hm [32,31,30,29,28,27,26,25,24,23,22,21,20,19,18,17,16,15,14,13,12,11,10,9,8,7,6,5,4,3,2,1,0] 121 109 R (fun _ K' h29 J hm=>Au tbk [21,22,23,24,25,26,27,28,29,30,31,32] [] (by kernel_rfl) R R R<|J 11 R R (Bj hm)) (fun _ K' h29 J hm=>Au tbk [21,22] [] (by kernel_rfl) R R R<|Bd hm fun x5 h30 hm=>B3 23 R R R R R R (by kernel_rfl) (A3 T_api_Option.vv R R el72 h30)<|Au tbk [24,25,26,27,28] [0] (by kernel_rfl) R R R<|Bd hm fun x6 h31 hm=>B3 29 R R R R R R (by kernel_rfl) (A3 (VV.int .i64) R R el41 h31)<|Au tbk [30,31,32] [] (by kernel_rfl) R R R<|J 11 R R (Bj hm)) fun c5 hm=>A6 33 R R R (by kernel_rfl) (Al R)<|Ci hm [46,45,44,43,42,41,40,39,38,37,36,35,34,33,32,31,30,29,28,27,26,25,24,23,22,21,20,19,18,17,16,15,14,13,12,11,10,9,8,7,6,5,4,3,2,1,0] 135 122 R (fun _ K' h33 J hm=>Au tbk [34,35,36,37,38,39,40,41,42,43,44,45,46] [] (by kernel_rfl) R R R<|J 12 R R (Bj hm)) (fun _ K' h33 J hm=>Au tbk [34,35] [] (by kernel_rfl) R R R<|Bd hm fun x7 h34 hm=>B3 36 R R R R R R (by kernel_rfl) (A3 T_api_Option.vv R R el72 h34)<|Au tbk [37,38] [] (by kernel_rfl) R R R<|B3 39 R R R R R R (by kernel_rfl) (Ax VV.str R Bf)<|Au tbk [40,41] [] (by kernel_rfl) R R R<|Bd hm fun x8 h35 hm=>B3 42 R R R R R R (by kernel_rfl) (A3 T_api_Option.vv R R el72 h35)<|Au tbk [43,44,45,46] [] (by kernel_rfl) R R R<|J 12 R R (Bj hm)) fun c6 hm=>A5 (by kernel_rfl)<|Ak hm R (fun h37 hm=>Ag tbk [] R R<|have hm:=Lr hm h16;Rt1 hm R [] R R R) fun h37 hm=>Aj<|Ag tbk [] R R<|Ag tbk [] R R<|Bq hm (fun _ (_:Unit)=>[(1,.ptr b 0),(3,L83 r3),(4,L9 r4),(5,.bool free32),(7,Iw at_52),(8,Iw i4)]) (fun _ (_:Unit)=>[X69 b c]) (fun o4 hm h39=>?_) fun j2 _ hm=> ?_
   ·refine Bh (fun zn (zs:Int × Int)=>law20_OptionOnce.l4 c r3 r4 free32 i4 zn zs.1 zs.2) (fun zs (_:Unit)=>[(1,.ptr b 0),(3,L83 r3),(4,L9 r4),(5,.bool free32),(7,Iw at_52),(8,Iw i4),(9,Iw zs.1),(10,Iw zs.2)]) (fun _ (_:Unit)=>[X69 b c]) ((-1 : Int),(0 : Int)) () (fun _=>R) hm (Ae [0] R R) fun n4=>Pq fun last2 k2 _ hm=> ?_
    rw [law20_OptionOnce.l4] at hm
    refine Af<|Ah<|Aa tbk [] 3 R R<|Bd hm fun x9 h40 hm=>Ab R R (A3 T_api_Option.vv R R el72 h40)<|Aa tbk [] 2 R R<|Ab R R (Ax VV.str R Bf)<|Ab R R (A2 R R R)<|Ac<|Ak hm R (fun h41 hm=>?_) fun h41 hm=> ?_
    ·refine Aj<|Af<|Aw<|Ag tbk [] R R<|Cz hm (fun n72 (_:Unit)=>[(1,.ptr b 0),(3,L83 r3),(4,L9 r4),(5,.bool free32),(7,Iw at_52),(8,Iw i4),(10,Iw k2),(11,Iw n72)]) (fun _ (_:Unit)=>[X69 b c]) (fun o5 hm=>?_) fun n72 _ hm=> ?_
     ·refine Bh (fun zn (zs:Int)=>law20_OptionOnce.l5 c r3 i4 k2 zn zs) (fun zs (_:Unit)=>[(1,.ptr b 0),(3,L83 r3),(4,L9 r4),(5,.bool free32),(7,Iw at_52),(8,Iw i4),(10,Iw k2),(11,Iw zs)]) (fun _ (_:Unit)=>[X69 b c]) _ () (fun _=>R) hm (Ae [0] R R) fun n8 n6 _ hm=> ?_
      rw [law20_OptionOnce.l5] at hm
      exact Af<|Af<|Bb 0 mixed<|Au tbk [0,1,2] [0] (by kernel_rfl) R R R<|A6 3 R R R (by kernel_rfl) (Ax T_api_Pod.vv R Br)<|Au tbk [4,5] [] (by kernel_rfl) R R R<|Ci hm [21,20,19,18,17,16,15,14,13,12,11,10,9,8,7,6,5,4,3,2,1,0] 169 153 R (fun _ K' h44 J hm=>Au tbk [6,7,8] [0] (by kernel_rfl) R R R<|Bd hm fun x10 h45 hm=>B3 9 R R R R R R (by kernel_rfl) (A3 T_api_Pod.vv R R el24 h45)<|Au tbk [10,11,12,13] [] (by kernel_rfl) R R R<|Bd hm fun x11 h46 hm=>B3 14 R R R R R R (by kernel_rfl) (A3 T_api_Option.vv R R el72 h46)<|Au tbk [15,16,17] [] (by kernel_rfl) R R R<|Bd hm fun x12 h47 hm=>B3 18 R R R R R R (by kernel_rfl) (A3 VV.str R R el51 h47)<|Au tbk [19,20,21] [] (by kernel_rfl) R R R<|J 15 R R (Bj hm)) (fun _ K' h44 J hm=>Au tbk [6,7,8,9,10,11,12,13,14,15,16,17,18,19,20,21] [] (by kernel_rfl) R R R<|J 15 R R (Bj hm)) fun c7 hm=>A5 (by kernel_rfl)<|Ak hm R (fun h49 hm=>Aj<|Aw<|A1 tbk [] R R<|Ap _ () hm (Ae [0] R R)) fun h49 hm=>A0<|As () hm (Ae [0] R R)
     refine Af<|Ah<|Aa tbk [0] 3 R R<|Ab R R (Ax T_api_Pod.vv R Br)<|Ab R R (A2 R R R)<|Ac<|Ak hm R (fun h50 hm=>Ag tbk [] R R<|have hm:=Lr hm h39;have hm:=Lr hm h16;Rt1 hm R [] R R R) fun h50 hm=>Aj<|Ag tbk [] R R<|Ag tbk [] R R<|Bq hm (fun _ (_:Unit)=>[(1,.ptr b 0),(3,L83 r3),(4,L9 r4),(5,.bool free32),(7,Iw at_52),(8,Iw i4),(9,Iw n72),(10,Iw k2)]) (fun _ (_:Unit)=>[X69 b c]) (fun o6 hm h52=>?_) fun j5 _ hm=> ?_
     ·refine Bh (fun zn (zs:Int)=>law20_OptionOnce.l6 r3 r4 free32 i4 k2 zn zs) (fun zs (_:Unit)=>[(1,.ptr b 0),(3,L83 r3),(4,L9 r4),(5,.bool free32),(7,Iw at_52),(8,Iw i4),(9,Iw n72),(10,Iw k2),(12,Iw zs)]) (fun _ (_:Unit)=>[X69 b c]) _ () (fun _=>R) hm (Ae [0] R R) fun n9 j4 _ hm=> ?_
      rw [law20_OptionOnce.l6] at hm
      exact Af<|Ah<|Aa tbk [] 2 R R<|Ab R R (Ax VV.str R Bf)<|Ab R R (A2 R R R)<|Ac<|Ak hm R (fun h53 hm=>Aj<|Af<|Aw<|Af<|Bb 0 mixed<|Au tbk [0,1] [] (by kernel_rfl) R R R<|Ci hm [15,14,13,12,11,10,9,8,7,6,5,4,3,2,1,0] 199 185 R (fun _ K' h54 J hm=>Au tbk [2,3] [] (by kernel_rfl) R R R<|Bd hm fun x13 h55 hm=>B3 4 R R R R R R (by kernel_rfl) (A3 VV.str R R el51 h55)<|Au tbk [5,6,7] [] (by kernel_rfl) R R R<|Bd hm fun x14 h56 hm=>B3 8 R R R R R R (by kernel_rfl) (A3 T_api_Option.vv R R el72 h56)<|Au tbk [9,10,11] [] (by kernel_rfl) R R R<|Bd hm fun x15 h57 hm=>B3 12 R R R R R R (by kernel_rfl) (A3 VV.str R R el51 h57)<|Au tbk [13,14,15] [] (by kernel_rfl) R R R<|J 13 R R (Bj hm)) (fun _ K' h54 J hm=>Au tbk [2,3,4,5,6,7,8,9,10,11,12,13,14,15] [] (by kernel_rfl) R R R<|J 13 R R (Bj hm)) fun c8 hm=>A5 (by kernel_rfl)<|Ak hm R (fun h59 hm=>Ag tbk [] R R<|have hm:=Lr hm h52;have hm:=Lr hm h39;have hm:=Lr hm h16;Rt1 hm R [] R R R) fun h59 hm=>Aj<|A1 tbk [] R R<|Ap _ () hm (Ae [0] R R)) fun h53 hm=>A0<|Ar () hm (Ae [0] R R)
     exact A1 tbk [] R R<|Ap (n72,(IntKind.i64.wrap (k2 + (1 : Int)))) () hm (Ae [0] R R)
    exact A0<|Ar () hm (Ae [0] R R)
   exact A1 tbk [] R R<|Ap (at_52,(IntKind.i64.wrap (i4 + (1 : Int)))) () hm (Ae [0] R R)
  exact A0<|Ar () hm (Ae [] R R)
 exact Ah<|Ad R R<|An hm 0 R fn39 R (K131) fun r5 hm=>Ab R R (Ai R)<|Ac<|Rt1 hm R [] R R R

end Go.Proofs.YtbkdglcedgiogaaGreat.M

/-
  Printed by a program of this session out of the loaded functions: models and their proofs. Own text.
-/
import Derived.Test.YtmpkpnclmihdnaaGreatRNF1
namespace Go.Proofs.YtmpkpnclmihdnaaGreat.M
open Go Go.Proofs Go.Proofs.YtmpkpnclmihdnaaGreat.V
open Go.IntKind (i64)
set_option linter.unusedVariables false
set_option maxRecDepth 20000
set_option maxHeartbeats 4000000
/-! trireme/triremeref06.Right -/
def ref06_Right.l2 (l : List T_api_Taint) (i2 : Int) : Nat → Int → Option (Out (Out Bool Unit) Unit)
 | 0, _ => none
 | n2 + 1, k2 =>
  if (decide (k2 < i2)) = true then
   (V.gl l k2).bind fun x4 =>
   (V.gl l i2).bind fun x5 =>
   (if (V.seq x4.Key x5.Key) = true then (V.gl l k2).bind fun x6 =>
   (V.gl l i2).bind fun x7 =>
   some (x6.Effect == x7.Effect) else some false).bind fun c3 =>
   if c3 = true then
    some (Out.ret (Out.ret false))
   else
    ref06_Right.l2 l i2 n2 (i64.wrap (k2 + 1))
  else
   some (Out.go ())
def ref06_Right.l1 (l : List T_api_Taint) : Nat → Int → Option (Out Bool Unit)
 | 0, _ => none
 | n + 1, i2 =>
  if (decide (i2 < (l.length : Int))) = true then
   (V.gl l i2).bind fun x =>
   (ref01_Word x.Key).bind fun r =>
   (if (!r) = true then some true else (V.gl l i2).bind fun x2 =>
   (ref06_maybe x2.Val).bind fun r2 =>
   some (!r2)).bind fun c =>
   (if c = true then some true else (V.gl l i2).bind fun x3 =>
   (ref06_effect x3.Effect).bind fun r3 =>
   some (!r3)).bind fun c2 =>
   if c2 = true then
    some (Out.ret false)
   else
    (ref06_Right.l2 l i2 FU (0 : Int)).bind fun o2 =>
    o2.on fun j2 =>
    ref06_Right.l1 l n (i64.wrap (i2 + 1))
  else
   some (Out.go ())
def ref06_Right (l : List T_api_Taint) : Option Bool :=
 if (decide ((l.length : Int) > 16)) = true then
  some false
 else
  (ref06_Right.l1 l FU (0 : Int)).bind fun o =>
  o.on fun j =>
  some true
theorem K156 (l : List T_api_Taint) : VS Tryz.prog 112 (ref06_Right l) [L166 l] [] .bool N0 := by
 refine A4 [.tmp 2] Tryz.func112 R R R fun r hm=>?_
 unfold ref06_Right at hm
 refine Ae tbk [] R R<|Af<|Ai<|Ab R R (Aj R)<|Ab R R (Aw T_api_Taint.vv R Cc)<|Ab R R (Ba R R R)<|Ac<|Ao hm R (fun h1 hm=>Ae tbk [] R R<|Rt1 hm R [] R R R) fun h1 hm=>Am<|Af<|Ae tbk [] R R<|Bw hm (fun _ (_:Unit)=>[]) (fun _ (_:Unit)=>[]) (fun o hm h3=>?_) fun j _ hm=> ?_
 ·refine B1 (fun zn (zs:Int)=>ref06_Right.l1 l zn zs) (fun zs (_:Unit)=>[(0,L166 l),(3,Iw zs)]) (fun _ (_:Unit)=>[]) _ () (fun _=>R) hm (Ag [] R R) fun n i2 _ hm=> ?_
  rw [ref06_Right.l1] at hm
  refine Af<|Ai<|Aa tbk [] 2 R R<|Ab R R (Aw T_api_Taint.vv R Cc)<|Ab R R (Ba R R R)<|Ac<|Ao hm R (fun h4 hm=>?_) fun h4 hm=> ?_
  ·refine Am<|Af<|A2<|Af<|Ai<|Aa tbk [] 2 R R<|Bd hm fun x h5 hm=>Ab R R (Bf T_api_Taint.vv R R el59 h5)<|Aa tbk [] 2 R R<|Ad R R<|Av hm 0 R fn94 R (K147 _) fun r hm=>Aa tbk [] 2 R R<|Bh hm 8 29 21 R (fun _ K' h7 J hm=>Aa tbk [] 8 R R<|J 7 R R (Bj hm)) (fun _ K' h7 J hm=>Aa tbk [] 2 R R<|Bd hm fun x2 h8 hm=>Bb R R R R R (Bf T_api_Taint.vv R R el59 h8)<|Aa tbk [] 2 R R<|A1 R R R R R<|Av hm 0 R fn162 R (K154 _) fun r2 hm=>Aa tbk [] 2 R R<|J 7 R R (Bj hm)) fun c hm=>Ab R R (Aj R)<|Bh hm 8 38 30 R (fun _ K' h11 J hm=>Aa tbk [] 8 R R<|J 7 R R (Bj hm)) (fun _ K' h11 J hm=>Aa tbk [] 2 R R<|Bd hm fun x3 h12 hm=>Bb R R R R R (Bf T_api_Taint.vv R R el59 h12)<|Aa tbk [] 2 R R<|A1 R R R R R<|Av hm 0 R fn163 R (K155 _) fun r3 hm=>Aa tbk [] 2 R R<|J 7 R R (Bj hm)) fun c2 hm=>Ac<|Ao hm R (fun h15 hm=>Ae tbk [] R R<|have hm:=Lr hm h3;Rt1 hm R [] R R R) fun h15 hm=>Am<|Ae tbk [] R R<|Bw hm (fun _ (_:Unit)=>[(0,L166 l),(3,Iw i2)]) (fun _ (_:Unit)=>[]) (fun o2 hm h17=>?_) fun j2 _ hm=> ?_
   ·refine B1 (fun zn (zs:Int)=>ref06_Right.l2 l i2 zn zs) (fun zs (_:Unit)=>[(0,L166 l),(3,Iw i2),(4,Iw zs)]) (fun _ (_:Unit)=>[]) _ () (fun _=>R) hm (Ag [] R R) fun n2 k2 _ hm=> ?_
    rw [ref06_Right.l2] at hm
    exact Af<|Ae tbk [] R R<|Ao hm R (fun h18 hm=>Am<|Af<|A2<|Af<|Be 0 mixed<|Aq tbk [0,1] [] (by kernel_rfl) R R R<|Bd hm fun x4 h19 hm=>Ax 2 R R R (by kernel_rfl) (Bf T_api_Taint.vv R R el59 h19)<|Aq tbk [3,4,5,6] [] (by kernel_rfl) R R R<|Bd hm fun x5 h20 hm=>Ax 7 R R R (by kernel_rfl) (Bf T_api_Taint.vv R R el59 h20)<|Aq tbk [8,9,10,11] [] (by kernel_rfl) R R R<|Cw hm [23,22,21,20,19,18,17,16,15,14,13,12,11,10,9,8,7,6,5,4,3,2,1,0] 67 55 R (fun _ K' h21 J hm=>Aq tbk [12,13] [] (by kernel_rfl) R R R<|Bd hm fun x6 h22 hm=>Cs 14 R R R R R R (by kernel_rfl) (Bf T_api_Taint.vv R R el59 h22)<|Aq tbk [15,16,17,18] [] (by kernel_rfl) R R R<|Bd hm fun x7 h23 hm=>Cs 19 R R R R R R (by kernel_rfl) (Bf T_api_Taint.vv R R el59 h23)<|Aq tbk [20,21,22,23] [] (by kernel_rfl) R R R<|J 11 R R (Bj hm)) (fun _ K' h21 J hm=>Aq tbk [12,13,14,15,16,17,18,19,20,21,22,23] [] (by kernel_rfl) R R R<|J 11 R R (Bj hm)) fun c3 hm=>A0 (by kernel_rfl)<|Ao hm R (fun h25 hm=>Ae tbk [] R R<|have hm:=Lr hm h17;have hm:=Lr hm h3;Rt1 hm R [] R R R) fun h25 hm=>Am<|Bc tbk [] R R<|Ap _ () hm (Ag [] R R)) fun h18 hm=>A7<|Ar () hm (Ag [] R R)
   exact Bc tbk [] R R<|Ap _ () hm (Ag [] R R)
  exact A7<|Ar () hm (Ag [] R R)
 exact Ae tbk [] R R<|Rt1 hm R [] R R R

/-! trireme/triremeref07.RightMachine -/
def ref07_RightMachine (m : T_api_Machine) : Option Bool :=
 (ref07_maybe m.Name).bind fun r =>
 (if r = true then (ref07_maybe m.Group).bind fun r2 =>
 some r2 else some false).bind fun c =>
 (if c = true then (ref04_Right m.Has).bind fun r3 =>
 some r3 else some false).bind fun c2 =>
 (if c2 = true then (ref05_Right m.Labels).bind fun r4 =>
 some r4 else some false).bind fun c3 =>
 (if c3 = true then (ref06_Right m.Taints).bind fun r5 =>
 some r5 else some false).bind fun c4 =>
 some c4
theorem K157 (m : T_api_Machine) : VS Tryz.prog 60 (ref07_RightMachine m) [T_api_Machine.vv m] [] .bool N0 := by
 refine A4 [.tmp 2] Tryz.func60 R R R fun r hm=>?_
 unfold ref07_RightMachine at hm
 exact Ai<|Ad R R<|Bg R R fun b=>Ab R R (Ak R)<|Ac<|Ai<|Aa tbk [0] 2 R R<|Ad R R<|Av hm 0 R fn110 R (K148 _) fun r hm=>Ab R R (Aj R)<|Bh hm 4 10 6 R (fun _ K' h3 J hm=>Aa tbk [0] 2 R R<|A1 R R R R R<|Av hm 0 R fn110 R (K148 _) fun r2 hm=>Ab R R (Bk true R R R)<|J 3 R R (Bj hm)) (fun _ K' h3 J hm=>Aa tbk [] 4 R R<|J 3 R R (Bj hm)) fun c hm=>Ab R R (Aj R)<|Bh hm 4 15 11 R (fun _ K' h6 J hm=>Aa tbk [0] 2 R R<|A1 R R R R R<|Av hm 0 R fn111 R (K150 _) fun r3 hm=>Ab R R (Bk true R R R)<|J 3 R R (Bj hm)) (fun _ K' h6 J hm=>Aa tbk [] 4 R R<|J 3 R R (Bj hm)) fun c2 hm=>Ab R R (Aj R)<|Bh hm 4 20 16 R (fun _ K' h9 J hm=>Aa tbk [0] 2 R R<|A1 R R R R R<|Av hm 0 R fn95 R (K153 _) fun r4 hm=>Ab R R (Bk true R R R)<|J 3 R R (Bj hm)) (fun _ K' h9 J hm=>Aa tbk [] 4 R R<|J 3 R R (Bj hm)) fun c3 hm=>Ab R R (Aj R)<|Bh hm 4 25 21 R (fun _ K' h12 J hm=>Aa tbk [0] 2 R R<|A1 R R R R R<|Av hm 0 R fn112 R (K156 _) fun r5 hm=>Ab R R (Bk true R R R)<|J 3 R R (Bj hm)) (fun _ K' h12 J hm=>Aa tbk [] 4 R R<|J 3 R R (Bj hm)) fun c4 hm=>Ab R R (Ak R)<|Ac<|Rt1 hm R [] R R R

/-! trireme/triremeref07.in -/
def ref07_in (n : Int) (low : Int) (high : Int) : Option Bool :=
 some ((decide (n ≥ low)) && (decide (n ≤ high)))
theorem K158 (n : Int) (low : Int) (high : Int) : VS Tryz.prog 113 (ref07_in n low high) [Iw n, Iw low, Iw high] [] .bool N0 := by
 refine A4 [.tmp 6] Tryz.func113 R R R fun r hm=>?_
 unfold ref07_in at hm
 exact Ae tbk [] R R<|Ai<|Aa tbk [] 4 R R<|B5 tbk [] 4 14 10 R R R R R<|Ab R R (Ak R)<|Ac<|Rt1 hm R [] R R R

/-! trireme/triremeref03.digit -/
def ref03_digit (c : Int) : Option Bool :=
 some ((decide (c ≥ 48)) && (decide (c ≤ 57)))
theorem K159 (c : Int) : VS Tryz.prog 213 (ref03_digit c) [.int .u8 c] [] .bool N0 := by
 refine A4 [.tmp 2] Tryz.func213 R R R fun r hm=>?_
 unfold ref03_digit at hm
 exact Ae tbk [] R R<|Ai<|Aa tbk [] 3 R R<|B5 tbk [] 3 8 5 R R R R R<|Ab R R (Ak R)<|Ac<|Rt1 hm R [] R R R

/-! trireme/triremeref03.digits -/
def ref03_digits.l1 (s : ByteArray) : Nat → Int → Option Int
 | 0, _ => none
 | n4 + 1, n2 =>
  (if (decide (n2 < (s.size : Int))) = true then (V.gi s n2).bind fun v =>
  (ref03_digit v).bind fun r =>
  some r else some false).bind fun c =>
  if c = true then
   ref03_digits.l1 s n4 (i64.wrap (n2 + 1))
  else
   some n2
def ref03_digits (s : ByteArray) : Option Int :=
 (ref03_digits.l1 s FU (0 : Int)).bind fun n32 =>
 some n32
theorem K160 (s : ByteArray) : VS Tryz.prog 190 (ref03_digits s) [.str s] [] Iw N0 := by
 refine A4 [.tmp 2] Tryz.func190 R R R fun r hm=>?_
 unfold ref03_digits at hm
 refine Ae tbk [] R R<|Ae tbk [] R R<|Dm hm (fun n32 (_:Unit)=>[(3,Iw n32)]) (fun _ (_:Unit)=>[]) (fun o hm=>?_) fun n32 _ hm=> ?_
 ·refine B1 (fun zn (zs:Int)=>ref03_digits.l1 s zn zs) (fun zs (_:Unit)=>[(0,.str s),(3,Iw zs)]) (fun _ (_:Unit)=>[]) _ () (fun _=>R) hm (Ag [] R R) fun n4 n2 _ hm=> ?_
  rw [ref03_digits.l1] at hm
  exact Af<|Ai<|Aa tbk [] 2 R R<|Ab R R (Ci R A9)<|Aa tbk [] 2 R R<|Bh hm 5 13 8 R (fun _ K' h3 J hm=>Aa tbk [] 2 R R<|Bd hm fun v h4 hm=>Bb R R R R R (C1 R R A9 h4)<|A1 R R R R R<|Av hm 0 R fn213 R (K159 _) fun r hm=>Ab R R (Bk true R R R)<|J 4 R R (Bj hm)) (fun _ K' h3 J hm=>Aa tbk [] 5 R R<|J 4 R R (Bj hm)) fun c hm=>Ac<|Ao hm R (fun h7 hm=>Am<|A2<|Bc tbk [] R R<|Ap _ () hm (Ag [] R R)) fun h7 hm=>A7<|As () hm (Ag [] R R)
 exact Ae tbk [] R R<|Rt1 hm R [] R R R

/-! trireme/triremeref03.value -/
def ref03_value.l1 (s : ByteArray) : Nat → Int → Int → Option Int
 | 0, _, _ => none
 | n4 + 1, n2, i2 =>
  if (decide (i2 < (s.size : Int))) = true then
   (V.gi s i2).bind fun v =>
   ref03_value.l1 s n4 (min (i64.wrap ((i64.wrap (10 * n2)) + (i64.wrap (IntKind.u8.wrap (v - 48))))) 1125899906842625) (i64.wrap (i2 + 1))
  else
   some n2
def ref03_value (s : ByteArray) : Option Int :=
 (ref03_value.l1 s FU 0 (0 : Int)).bind fun n32 =>
 some n32
theorem K161 (s : ByteArray) : VS Tryz.prog 191 (ref03_value s) [.str s] [] Iw N0 := by
 refine A4 [.tmp 2] Tryz.func191 R R R fun r hm=>?_
 unfold ref03_value at hm
 refine Ae tbk [] R R<|Ae tbk [] R R<|Af<|Ae tbk [] R R<|Cn hm (fun n32 (_:Unit)=>[(3,Iw n32)]) (fun _ (_:Unit)=>[]) (fun o hm=>?_) fun n32 _ hm=> ?_
 ·refine B1 (fun zn (zs:Int × Int)=>ref03_value.l1 s zn zs.1 zs.2) (fun zs (_:Unit)=>[(0,.str s),(3,Iw zs.1),(4,Iw zs.2)]) (fun _ (_:Unit)=>[]) ((0 : Int),(0 : Int)) () (fun _=>R) hm (Ag [] R R) fun n4=>Pq fun n2 i2 _ hm=> ?_
  rw [ref03_value.l1] at hm
  exact Af<|Ai<|Aa tbk [] 2 R R<|Ab R R (Ci R A9)<|Ab R R (Ba R R R)<|Ac<|Ao hm R (fun h3 hm=>Am<|Af<|A2<|Bn<|Aa tbk [] 4 R R<|Bd hm fun v h4 hm=>Ab R R (C1 R R A9 h4)<|Ab R R (Ba R R R)<|Ab R R (C4 Cg Co R)<|Ab R R (Ba R R R)<|Ab R R (VP.min2 R R)<|Ab R R (Ak R)<|Ac<|Bc tbk [] R R<|Ap ((min (IntKind.i64.wrap ((IntKind.i64.wrap ((10 : Int) * n2)) + (IntKind.i64.wrap (IntKind.u8.wrap (v - (48 : Int)))))) (1125899906842625 : Int)),(IntKind.i64.wrap (i2 + (1 : Int)))) () hm (Ag [] R R)) fun h3 hm=>A7<|As () hm (Ag [] R R)
 exact Ae tbk [] R R<|Rt1 hm R [] R R R

/-! trireme/triremeref03.Number -/
def ref03_Number (s : ByteArray) : Option (Int × Int) :=
 (if ((s.size : Int) == 0) = true then some true else (ref03_digits s).bind fun r =>
 some (decide (r < (s.size : Int)))).bind fun c =>
 if c = true then
  some (0, 8)
 else
  (ref03_value s).bind fun r2 =>
  if (decide (r2 > 1125899906842624)) = true then
   some (0, 10)
  else
   some (r2, 0)
theorem K162 (s : ByteArray) : VS Tryz.prog 164 (ref03_Number s) [.str s] [] (fun r=>.tup [Iw r.1, Iw r.2]) N0 := by
 refine A4 [.tmp 2,.tmp 3] Tryz.func164 R R R fun r hm=>?_
 unfold ref03_Number at hm
 exact Ae tbk [] R R<|Af<|Ai<|Ab R R (Aj R)<|Ab R R (Ci R A9)<|Aa tbk [] 2 R R<|Bh hm 6 14 8 R (fun _ K' h1 J hm=>Aa tbk [] 6 R R<|J 5 R R (Bj hm)) (fun _ K' h1 J hm=>Bb R R R R R (Aj R)<|A1 R R R R R<|Av hm 0 R fn190 R (K160 _) fun r hm=>Bb R R R R R (Aj R)<|Bb R R R R R (Ci R A9)<|Aa tbk [] 2 R R<|J 5 R R (Bj hm)) fun c hm=>Ac<|Ao hm R (fun h4 hm=>Ae tbk [] R R<|Rt2 hm R [] R R R R) fun h4 hm=>Am<|Ai<|Ab R R (Aj R)<|Ad R R<|Av hm 0 R fn191 R (K161 _) fun r2 hm=>Ab R R (Ak R)<|Ac<|Af<|Ae tbk [] R R<|Ao hm R (fun h6 hm=>Ae tbk [] R R<|Rt2 hm R [] R R R R) fun h6 hm=>Am<|Ae tbk [] R R<|Rt2 hm R [] R R R R

/-! trireme/triremeref05.RightTerm -/
def ref05_RightTerm.l1 (t : T_api_Term) : Nat → Int → Option (Out Bool Unit)
 | 0, _ => none
 | n + 1, i2 =>
  if (decide (i2 < (t.Vals.length : Int))) = true then
   (V.gl t.Vals i2).bind fun x =>
   (ref05_maybe x).bind fun r2 =>
   if (!r2) = true then
    some (Out.ret false)
   else
    ref05_RightTerm.l1 t n (i64.wrap (i2 + 1))
  else
   some (Out.go ())
def ref05_RightTerm (t : T_api_Term) : Option Bool :=
 (ref01_Word t.Key).bind fun r =>
 if (!r) = true then
  some false
 else
  (if (t.Op == 1) = true then
   some (t.Op == 1)
  else
   some (t.Op == 2)).bind fun v2 =>
  if v2 = true then
   (ref05_RightTerm.l1 t FU (0 : Int)).bind fun o2 =>
   o2.on fun j =>
   some ((decide ((t.Vals.length : Int) ≥ 1)) && (decide ((t.Vals.length : Int) ≤ 16)))
  else
   (if (t.Op == 3) = true then
    some (t.Op == 3)
   else
    some (t.Op == 4)).bind fun v32 =>
   if v32 = true then
    some ((t.Vals.length : Int) == 0)
   else
    (if (t.Op == 5) = true then
     some (t.Op == 5)
    else
     some (t.Op == 6)).bind fun v42 =>
    if v42 = true then
     if ((t.Vals.length : Int) != 1) = true then
      some false
     else
      (V.gl t.Vals (0 : Int)).bind fun x2 =>
      (ref03_Number x2).bind fun r3 =>
      some (r3.2 == 0)
    else
     some false
theorem K163 (t : T_api_Term) : VS Tryz.prog 114 (ref05_RightTerm t) [T_api_Term.vv t] [] .bool N0 := by
 refine A4 [.tmp 2] Tryz.func114 R R R fun r hm=>?_
 unfold ref05_RightTerm at hm
 refine Ai<|Ad R R<|Bg R R fun b=>Ab R R (Ak R)<|Ac<|Af<|Ai<|Aa tbk [0] 2 R R<|Ad R R<|Av hm 0 R fn94 R (K147 _) fun r hm=>Ab R R (B6 R)<|Ac<|Ao hm R (fun h3 hm=>Ae tbk [] R R<|Rt1 hm R [] R R R) fun h3 hm=>Am<|Af<|Ae tbk [0] R R<|A2<|Dm hm (fun v2 (_:Unit)=>[(1,.ptr b 0),(11,Iw t.Op),(12,.bool v2)]) (fun _ (_:Unit)=>[X142 b t]) (fun o hm=>Ae tbk [] R R<|Ao hm R (fun h6 hm=>Am<|As () hm (Ag [0] R R)) fun h6 hm=>Bc tbk [] R R<|As () hm (Ag [0] R R)) fun v2 _ hm=>Ao hm R (fun h7 hm=>?_) fun h7 hm=> ?_
 ·refine Af<|Ae tbk [] R R<|Bw hm (fun _ (_:Unit)=>[(1,.ptr b 0)]) (fun _ (_:Unit)=>[X142 b t]) (fun o2 hm h9=>?_) fun j _ hm=> ?_
  ·refine B1 (fun zn (zs:Int)=>ref05_RightTerm.l1 t zn zs) (fun zs (_:Unit)=>[(1,.ptr b 0),(3,Iw zs)]) (fun _ (_:Unit)=>[X142 b t]) _ () (fun _=>R) hm (Ag [0] R R) fun n i2 _ hm=> ?_
   rw [ref05_RightTerm.l1] at hm
   exact Af<|Ai<|Aa tbk [0] 3 R R<|Ab R R (Aw VV.str R B2)<|Ab R R (Ba R R R)<|Ac<|Ao hm R (fun h10 hm=>Am<|Af<|A2<|Ai<|Aa tbk [0] 3 R R<|Bd hm fun x h11 hm=>Ab R R (Bf VV.str R R el25 h11)<|Ab R R (Bt R ld9 R)<|Ad R R<|Av hm 0 R fn138 R (K151 _) fun r2 hm=>Ab R R (B6 R)<|Ac<|Ao hm R (fun h13 hm=>Ae tbk [] R R<|have hm:=Lr hm h9;Rt1 hm R [] R R R) fun h13 hm=>Am<|Bc tbk [] R R<|Ap _ () hm (Ag [0] R R)) fun h10 hm=>A7<|Ar () hm (Ag [0] R R)
  exact Ai<|Aa tbk [0] 2 R R<|Ab R R (Aw VV.str R B2)<|Aa tbk [] 2 R R<|Db 5 38 33 R (fun h14 K' J=>Aa tbk [0] 2 R R<|Bb R R R R R (Aw VV.str R B2)<|Aa tbk [] 2 R R<|J 4 R R R) (fun K' J=>Aa tbk [] 5 R R<|J 4 R R R)<|Ab R R (Ak R)<|Ac<|Rt1 hm R [] R R R
 exact Dm hm (fun v32 (_:Unit)=>[(1,.ptr b 0),(11,Iw t.Op),(39,.bool v32)]) (fun _ (_:Unit)=>[X142 b t]) (fun o3 hm=>Ae tbk [] R R<|Ao hm R (fun h17 hm=>Am<|As () hm (Ag [0] R R)) fun h17 hm=>Bc tbk [] R R<|As () hm (Ag [0] R R)) fun v32 _ hm=>Ao hm R (fun h18 hm=>Ai<|Aa tbk [0] 2 R R<|Ab R R (Aw VV.str R B2)<|Aa tbk [] 2 R R<|Ac<|Rt1 hm R [] R R R) fun h18 hm=>Dm hm (fun v42 (_:Unit)=>[(1,.ptr b 0),(46,.bool v42)]) (fun _ (_:Unit)=>[X142 b t]) (fun o4 hm=>Ae tbk [] R R<|Ao hm R (fun h21 hm=>Am<|As () hm (Ag [0] R R)) fun h21 hm=>Bc tbk [] R R<|As () hm (Ag [0] R R)) fun v42 _ hm=>Ao hm R (fun h22 hm=>Af<|Ai<|Aa tbk [0] 2 R R<|Ab R R (Aw VV.str R B2)<|Ab R R (Ba R R R)<|Ac<|Ao hm R (fun h23 hm=>Ae tbk [] R R<|Rt1 hm R [] R R R) fun h23 hm=>Am<|Ai<|Aa tbk [0] 2 R R<|Bd hm fun x2 h24 hm=>Ab R R (Bf VV.str R R el25 h24)<|Ab R R (Bt R ld9 R)<|Ad R R<|Av hm 0 R fn164 R (K162 _) fun r3 hm=>Aa tbk [] 5 R R<|Ac<|Ae tbk [] R R<|Rt1 hm R [] R R R) fun h22 hm=>Am<|Ae tbk [] R R<|Rt1 hm R [] R R R

/-! trireme/triremeref06.RightBears -/
def ref06_RightBears.l1 (l : List T_api_Toleration) : Nat → Int → Option (Out Bool Unit)
 | 0, _ => none
 | n + 1, i2 =>
  if (decide (i2 < (l.length : Int))) = true then
   (V.gl l i2).bind fun x =>
   (ref06_maybe x.Key).bind fun r =>
   (if (!r) = true then some true else (ref06_maybe x.Val).bind fun r2 =>
   some (!r2)).bind fun c =>
   (if c = true then some true else (if (x.Effect != 0) = true then (ref06_effect x.Effect).bind fun r3 =>
   some (!r3) else some false).bind fun c2 =>
   some c2).bind fun c3 =>
   if ((c3 || (x.Any && (!(V.seq x.Val (⟨#[]⟩ : ByteArray))))) || ((V.seq x.Key (⟨#[]⟩ : ByteArray)) && (!x.Any))) = true then
    some (Out.ret false)
   else
    ref06_RightBears.l1 l n (i64.wrap (i2 + 1))
  else
   some (Out.go ())
def ref06_RightBears (l : List T_api_Toleration) : Option Bool :=
 if (decide ((l.length : Int) > 16)) = true then
  some false
 else
  (ref06_RightBears.l1 l FU (0 : Int)).bind fun o =>
  o.on fun j =>
  some true
theorem K164 (l : List T_api_Toleration) : VS Tryz.prog 115 (ref06_RightBears l) [L172 l] [] .bool N0 := by
 refine A4 [.tmp 2] Tryz.func115 R R R fun r hm=>?_
 unfold ref06_RightBears at hm
 refine Ae tbk [] R R<|Af<|Ai<|Ab R R (Aj R)<|Ab R R (Aw T_api_Toleration.vv R Cu)<|Ab R R (Ba R R R)<|Ac<|Ao hm R (fun h1 hm=>Ae tbk [] R R<|Rt1 hm R [] R R R) fun h1 hm=>Am<|Af<|Ae tbk [] R R<|Bw hm (fun _ (_:Unit)=>[]) (fun _ (_:Unit)=>[]) (fun o hm h3=>?_) fun j _ hm=> ?_
 ·refine B1 (fun zn (zs:Int)=>ref06_RightBears.l1 l zn zs) (fun zs (_:Unit)=>[(0,L172 l),(3,Iw zs)]) (fun _ (_:Unit)=>[]) _ () (fun _=>R) hm (Ag [] R R) fun n i2 _ hm=> ?_
  rw [ref06_RightBears.l1] at hm
  refine Af<|Ai<|Aa tbk [] 2 R R<|Ab R R (Aw T_api_Toleration.vv R Cu)<|Ab R R (Ba R R R)<|Ac<|Ao hm R (fun h4 hm=>?_) fun h4 hm=> ?_
  ·exact Am<|Af<|A2<|Ai<|Aa tbk [] 2 R R<|Bd hm fun x h5 hm=>Ab R R (Bf T_api_Toleration.vv R R el44 h5)<|Ab R R (Bt R ld172 R)<|Ad R R<|A3 z172 fun b=>Ad R R<|An (i:=0) R R R ld172 R R R<|Ac<|Ai<|Aa tbk [0] 2 R R<|Ad R R<|Av hm 0 R fn162 R (K154 _) fun r hm=>Aa tbk [] 2 R R<|Bh hm 5 27 22 R (fun _ K' h8 J hm=>Aa tbk [] 5 R R<|J 4 R R (Bj hm)) (fun _ K' h8 J hm=>Aa tbk [0] 2 R R<|A1 R R R R R<|Av hm 0 R fn162 R (K154 _) fun r2 hm=>Aa tbk [] 2 R R<|J 4 R R (Bj hm)) fun c hm=>Ab R R (Aj R)<|Bh hm 10 38 28 R (fun _ K' h11 J hm=>Aa tbk [] 10 R R<|J 9 R R (Bj hm)) (fun _ K' h11 J hm=>Aa tbk [0] 4 R R<|Bh hm 5 37 32 R (fun _ K' h12 J hm=>Aa tbk [0] 2 R R<|A1 R R R R R<|Av hm 0 R fn163 R (K155 _) fun r3 hm=>Aa tbk [] 2 R R<|J 4 R R (Bj hm)) (fun _ K' h12 J hm=>Aa tbk [] 5 R R<|J 4 R R (Bj hm)) fun c2 hm=>Ab R R (Bk false R R R)<|J 5 R R (Bj hm)) fun c3 hm=>Ab R R (Aj R)<|Cv 8 47 39 R (fun K' J=>Aa tbk [] 8 R R<|J 7 R R R) (fun h16 K' J=>Aa tbk [0] 3 R R<|B5 tbk [0] 4 46 42 R R R R R<|Ab R R (Bk false R R R)<|J 4 R R R)<|Ab R R (Aj R)<|Cv 9 57 48 R (fun K' J=>Aa tbk [] 9 R R<|J 8 R R R) (fun h18 K' J=>Aa tbk [0] 4 R R<|B5 tbk [0] 4 56 52 R R R R R<|Ab R R (Bk false R R R)<|J 5 R R R)<|Ac<|Ao hm R (fun h20 hm=>Ae tbk [] R R<|have hm:=Lr hm h3;Rt1 hm R [] R R R) fun h20 hm=>Am<|Bc tbk [] R R<|Ap _ () hm (Ag [] R R)
  exact A7<|Ar () hm (Ag [] R R)
 exact Ae tbk [] R R<|Rt1 hm R [] R R R

/-! trireme/triremeref07.RightPod -/
def ref07_RightPod.l1 (p : T_api_Pod) : Nat → Int → Option (Out Bool Unit)
 | 0, _ => none
 | n + 1, i2 =>
  if (decide (i2 < (p.Terms.length : Int))) = true then
   (V.gl p.Terms i2).bind fun x =>
   (ref05_RightTerm x).bind fun r5 =>
   if (!r5) = true then
    some (Out.ret false)
   else
    ref07_RightPod.l1 p n (i64.wrap (i2 + 1))
  else
   some (Out.go ())
def ref07_RightPod.l2 (p : T_api_Pod) : Nat → Int → Option (Out Bool Unit)
 | 0, _ => none
 | n2 + 1, i4 =>
  if (decide (i4 < (p.Ports.length : Int))) = true then
   (V.gl p.Ports i4).bind fun x2 =>
   (ref07_in x2 1 (65535 : Int)).bind fun r6 =>
   (if (!r6) = true then some true else (if (decide (i4 > 0)) = true then (V.gl p.Ports i4).bind fun x3 =>
   (V.gl p.Ports (i64.wrap (i4 - 1))).bind fun x4 =>
   some (decide (x3 ≤ x4)) else some false).bind fun c4 =>
   some c4).bind fun c5 =>
   if c5 = true then
    some (Out.ret false)
   else
    ref07_RightPod.l2 p n2 (i64.wrap (i4 + 1))
  else
   some (Out.go ())
def ref07_RightPod (p : T_api_Pod) : Option Bool :=
 (ref01_Word p.Name).bind fun r =>
 (if (!r) = true then some true else (ref04_Right p.Need).bind fun r2 =>
 some (!r2)).bind fun c =>
 (if (c || (p.Need.Pods != 1)) = true then some true else (ref07_maybe p.Owner).bind fun r3 =>
 some (!r3)).bind fun c2 =>
 (if c2 = true then some true else (ref07_in p.Rank 0 (1000 : Int)).bind fun r4 =>
 some (!r4)).bind fun c3 =>
 if ((c3 || (decide ((p.Terms.length : Int) > 16))) || (decide ((p.Ports.length : Int) > 16))) = true then
  some false
 else
  (ref07_RightPod.l1 p FU (0 : Int)).bind fun o =>
  o.on fun j =>
  (ref07_RightPod.l2 p FU (0 : Int)).bind fun o2 =>
  o2.on fun j2 =>
  (if ((p.Wide && ((p.Apart.length : Int) == 0)) || (((p.Spread.length : Int) == 0) && (p.Skew != 0))) = true then some true else (if (decide ((p.Spread.length : Int) > 0)) = true then (ref07_in p.Skew 1 (100 : Int)).bind fun r7 =>
  some (!r7) else some false).bind fun c6 =>
  some c6).bind fun c7 =>
  if c7 = true then
   some false
  else
   (ref05_Right p.Labels).bind fun r8 =>
   (if r8 = true then (ref05_Right p.Select).bind fun r9 =>
   some r9 else some false).bind fun c8 =>
   (if c8 = true then (ref05_Right p.Apart).bind fun r10 =>
   some r10 else some false).bind fun c9 =>
   (if c9 = true then (ref05_Right p.Spread).bind fun r11 =>
   some r11 else some false).bind fun c10 =>
   (if c10 = true then (ref06_RightBears p.Bears).bind fun r12 =>
   some r12 else some false).bind fun c11 =>
   some c11
theorem K165 (p : T_api_Pod) : VS Tryz.prog 61 (ref07_RightPod p) [T_api_Pod.vv p] [] .bool N0 := by
 refine A4 [.tmp 2] Tryz.func61 R R R fun r hm=>?_
 unfold ref07_RightPod at hm
 refine Ai<|Ad R R<|Bg R R fun b=>Ab R R (Ak R)<|Ac<|Af<|Ai<|Aa tbk [0] 2 R R<|Ad R R<|Av hm 0 R fn94 R (K147 _) fun r hm=>Aa tbk [] 2 R R<|Bh hm 5 14 9 R (fun _ K' h3 J hm=>Aa tbk [] 5 R R<|J 4 R R (Bj hm)) (fun _ K' h3 J hm=>Aa tbk [0] 2 R R<|A1 R R R R R<|Av hm 0 R fn111 R (K150 _) fun r2 hm=>Aa tbk [] 2 R R<|J 4 R R (Bj hm)) fun c hm=>Ab R R (Aj R)<|Cr tbk [0] 5 20 15 R R R R R<|Ab R R (Aj R)<|Bh hm 5 26 21 R (fun _ K' h7 J hm=>Aa tbk [] 5 R R<|J 4 R R (Bj hm)) (fun _ K' h7 J hm=>Aa tbk [0] 2 R R<|A1 R R R R R<|Av hm 0 R fn110 R (K148 _) fun r3 hm=>Aa tbk [] 2 R R<|J 4 R R (Bj hm)) fun c2 hm=>Ab R R (Aj R)<|Bh hm 5 32 27 R (fun _ K' h10 J hm=>Aa tbk [] 5 R R<|J 4 R R (Bj hm)) (fun _ K' h10 J hm=>Aa tbk [0] 2 R R<|A1 R R R R R<|Av hm 0 R fn113 R (K158 _ _ _) fun r4 hm=>Aa tbk [] 2 R R<|J 4 R R (Bj hm)) fun c3 hm=>Ab R R (Aj R)<|Cv 5 38 33 R (fun K' J=>Aa tbk [] 5 R R<|J 4 R R R) (fun h13 K' J=>Aa tbk [0] 2 R R<|Bb R R R R R (Aw T_api_Term.vv R Cl)<|Aa tbk [] 2 R R<|J 4 R R R)<|Ab R R (Aj R)<|Cv 5 44 39 R (fun K' J=>Aa tbk [] 5 R R<|J 4 R R R) (fun h14 K' J=>Aa tbk [0] 2 R R<|Bb R R R R R (Aw (VV.int .i64) R Cm)<|Aa tbk [] 2 R R<|J 4 R R R)<|Ac<|Ao hm R (fun h15 hm=>Ae tbk [] R R<|Rt1 hm R [] R R R) fun h15 hm=>Am<|Af<|Ae tbk [] R R<|Bw hm (fun _ (_:Unit)=>[(1,.ptr b 0)]) (fun _ (_:Unit)=>[X47 b p]) (fun o hm h17=>?_) fun j _ hm=> ?_
 ·refine B1 (fun zn (zs:Int)=>ref07_RightPod.l1 p zn zs) (fun zs (_:Unit)=>[(1,.ptr b 0),(3,Iw zs)]) (fun _ (_:Unit)=>[X47 b p]) _ () (fun _=>R) hm (Ag [0] R R) fun n i2 _ hm=> ?_
  rw [ref07_RightPod.l1] at hm
  exact Af<|Ai<|Aa tbk [0] 3 R R<|Ab R R (Aw T_api_Term.vv R Cl)<|Ab R R (Ba R R R)<|Ac<|Ao hm R (fun h18 hm=>Am<|Af<|A2<|Ai<|Aa tbk [0] 3 R R<|Bd hm fun x h19 hm=>Ab R R (Bf T_api_Term.vv R R el43 h19)<|Ab R R (Bt R ld142 R)<|Ad R R<|Av hm 0 R fn114 R (K163 _) fun r5 hm=>Ab R R (B6 R)<|Ac<|Ao hm R (fun h21 hm=>Ae tbk [] R R<|have hm:=Lr hm h17;Rt1 hm R [] R R R) fun h21 hm=>Am<|Bc tbk [] R R<|Ap _ () hm (Ag [0] R R)) fun h18 hm=>A7<|Ar () hm (Ag [0] R R)
 refine Af<|Ae tbk [] R R<|Bw hm (fun _ (_:Unit)=>[(1,.ptr b 0)]) (fun _ (_:Unit)=>[X47 b p]) (fun o2 hm h23=>?_) fun j2 _ hm=> ?_
 ·refine B1 (fun zn (zs:Int)=>ref07_RightPod.l2 p zn zs) (fun zs (_:Unit)=>[(1,.ptr b 0),(4,Iw zs)]) (fun _ (_:Unit)=>[X47 b p]) _ () (fun _=>R) hm (Ag [0] R R) fun n2 i4 _ hm=> ?_
  rw [ref07_RightPod.l2] at hm
  refine Af<|Ai<|Aa tbk [0] 3 R R<|Ab R R (Aw (VV.int .i64) R Cm)<|Ab R R (Ba R R R)<|Ac<|Ao hm R (fun h24 hm=>?_) fun h24 hm=> ?_
  ·refine Am<|Af<|A2<|Af<|Be 0 mixed<|Aq tbk [0,1,2] [0] (by kernel_rfl) R R R<|Bd hm fun x2 h25 hm=>Ax 3 R R R (by kernel_rfl) (Bf (VV.int .i64) R R el45 h25)<|Ax 4 R R R (by kernel_rfl) (Bt R ld3 R)<|Ah 5 (by kernel_rfl)<|Bd hm fun r6 h26 hm=>Al R R R<|Au 0 R fn113 R (K158 x2 (1 : Int) (65535 : Int) r6 h26) fun _ _ h34=> ?_
   obtain ⟨rfl,rfl⟩:=h34
   exact Aq tbk [6,7] [] (by kernel_rfl) R R R<|Cw hm [24,23,22,21,20,19,18,17,16,15,14,13,12,11,10,9,8,7,6,5,4,3,2,1,0] 90 73 R (fun _ K' h27 J hm=>Aq tbk [8,9,10,11,12,13,14,15,16,17,18,19,20,21,22,23,24] [] (by kernel_rfl) R R R<|J 16 R R (Bj hm)) (fun _ K' h27 J hm=>Aq tbk [8,9,10] [] (by kernel_rfl) R R R<|Cw hm [23,22,21,20,19,18,17,16,15,14,13,12,11,10,9,8,7,6,5,4,3,2,1,0] 89 76 R (fun _ K' h28 J hm=>Aq tbk [11,12,13] [0] (by kernel_rfl) R R R<|Bd hm fun x3 h29 hm=>Cs 14 R R R R R R (by kernel_rfl) (Bf (VV.int .i64) R R el45 h29)<|Aq tbk [15,16,17,18,19] [0] (by kernel_rfl) R R R<|Bd hm fun x4 h30 hm=>Cs 20 R R R R R R (by kernel_rfl) (Bf (VV.int .i64) R R el45 h30)<|Aq tbk [21,22,23] [] (by kernel_rfl) R R R<|J 12 R R (Bj hm)) (fun _ K' h28 J hm=>Aq tbk [11,12,13,14,15,16,17,18,19,20,21,22,23] [] (by kernel_rfl) R R R<|J 12 R R (Bj hm)) fun c4 hm=>Ax 24 R R R (by kernel_rfl) (Bk false R R R)<|J 4 R R (Bj hm)) fun c5 hm=>A0 (by kernel_rfl)<|Ao hm R (fun h33 hm=>Ae tbk [] R R<|have hm:=Lr hm h23;Rt1 hm R [] R R R) fun h33 hm=>Am<|Bc tbk [] R R<|Ap _ () hm (Ag [0] R R)
  exact A7<|Ar () hm (Ag [0] R R)
 exact Af<|Ai<|Aa tbk [0] 3 R R<|Db 5 98 93 R (fun h35 K' J=>Aa tbk [0] 2 R R<|Bb R R R R R (Aw T_api_Label.vv R Bu)<|Aa tbk [] 2 R R<|J 4 R R R) (fun K' J=>Aa tbk [] 5 R R<|J 4 R R R)<|Ab R R (Aj R)<|Cv 10 109 99 R (fun K' J=>Aa tbk [] 10 R R<|J 9 R R R) (fun h36 K' J=>Aa tbk [0] 2 R R<|Bb R R R R R (Aw T_api_Label.vv R Bu)<|Aa tbk [] 2 R R<|B5 tbk [0] 4 108 104 R R R R R<|Ab R R (Bk false R R R)<|J 6 R R R)<|Ab R R (Aj R)<|Bh hm 11 121 110 R (fun _ K' h38 J hm=>Aa tbk [] 11 R R<|J 10 R R (Bj hm)) (fun _ K' h38 J hm=>Aa tbk [0] 2 R R<|Bb R R R R R (Aw T_api_Label.vv R Bu)<|Aa tbk [] 2 R R<|Bh hm 5 120 115 R (fun _ K' h39 J hm=>Aa tbk [0] 2 R R<|A1 R R R R R<|Av hm 0 R fn113 R (K158 _ _ _) fun r7 hm=>Aa tbk [] 2 R R<|J 4 R R (Bj hm)) (fun _ K' h39 J hm=>Aa tbk [] 5 R R<|J 4 R R (Bj hm)) fun c6 hm=>Ab R R (Bk false R R R)<|J 6 R R (Bj hm)) fun c7 hm=>Ac<|Ao hm R (fun h43 hm=>Ae tbk [] R R<|Rt1 hm R [] R R R) fun h43 hm=>Am<|Ai<|Aa tbk [0] 2 R R<|Ad R R<|Av hm 0 R fn95 R (K153 _) fun r8 hm=>Ab R R (Aj R)<|Bh hm 4 129 125 R (fun _ K' h45 J hm=>Aa tbk [0] 2 R R<|A1 R R R R R<|Av hm 0 R fn95 R (K153 _) fun r9 hm=>Ab R R (Bk true R R R)<|J 3 R R (Bj hm)) (fun _ K' h45 J hm=>Aa tbk [] 4 R R<|J 3 R R (Bj hm)) fun c8 hm=>Ab R R (Aj R)<|Bh hm 4 134 130 R (fun _ K' h48 J hm=>Aa tbk [0] 2 R R<|A1 R R R R R<|Av hm 0 R fn95 R (K153 _) fun r10 hm=>Ab R R (Bk true R R R)<|J 3 R R (Bj hm)) (fun _ K' h48 J hm=>Aa tbk [] 4 R R<|J 3 R R (Bj hm)) fun c9 hm=>Ab R R (Aj R)<|Bh hm 4 139 135 R (fun _ K' h51 J hm=>Aa tbk [0] 2 R R<|A1 R R R R R<|Av hm 0 R fn95 R (K153 _) fun r11 hm=>Ab R R (Bk true R R R)<|J 3 R R (Bj hm)) (fun _ K' h51 J hm=>Aa tbk [] 4 R R<|J 3 R R (Bj hm)) fun c10 hm=>Ab R R (Aj R)<|Bh hm 4 144 140 R (fun _ K' h54 J hm=>Aa tbk [0] 2 R R<|A1 R R R R R<|Av hm 0 R fn115 R (K164 _) fun r12 hm=>Ab R R (Bk true R R R)<|J 3 R R (Bj hm)) (fun _ K' h54 J hm=>Aa tbk [] 4 R R<|J 3 R R (Bj hm)) fun c11 hm=>Ab R R (Ak R)<|Ac<|Rt1 hm R [] R R R

/-! trireme/triremeref09.Find -/
def ref09_Find.l1 (ms : List T_api_Machine) (name : ByteArray) : Nat → Int → Option (Out Int Unit)
 | 0, _ => none
 | n + 1, i2 =>
  if (decide (i2 < (ms.length : Int))) = true then
   (V.gl ms i2).bind fun x =>
   if (V.seq x.Name name) = true then
    some (Out.ret i2)
   else
    ref09_Find.l1 ms name n (i64.wrap (i2 + 1))
  else
   some (Out.go ())
def ref09_Find (ms : List T_api_Machine) (name : ByteArray) : Option Int :=
 (ref09_Find.l1 ms name FU (0 : Int)).bind fun o =>
 o.on fun j =>
 some (-1)
theorem K166 (ms : List T_api_Machine) (name : ByteArray) : VS Tryz.prog 23 (ref09_Find ms name) [L61 ms, .str name] [] Iw N0 := by
 refine A4 [.tmp 4] Tryz.func23 R R R fun r hm=>?_
 unfold ref09_Find at hm
 refine Ae tbk [] R R<|Af<|Ae tbk [] R R<|Bw hm (fun _ (_:Unit)=>[]) (fun _ (_:Unit)=>[]) (fun o hm h2=>?_) fun j _ hm=> ?_
 ·refine B1 (fun zn (zs:Int)=>ref09_Find.l1 ms name zn zs) (fun zs (_:Unit)=>[(0,L61 ms),(1,.str name),(5,Iw zs)]) (fun _ (_:Unit)=>[]) _ () (fun _=>R) hm (Ag [] R R) fun n i2 _ hm=> ?_
  rw [ref09_Find.l1] at hm
  exact Af<|Ai<|Aa tbk [] 2 R R<|Ab R R (Aw T_api_Machine.vv R Ay)<|Ab R R (Ba R R R)<|Ac<|Ao hm R (fun h3 hm=>Am<|Af<|A2<|Ai<|Aa tbk [] 2 R R<|Bd hm fun x h4 hm=>Ab R R (Bf T_api_Machine.vv R R el22 h4)<|Aa tbk [] 4 R R<|Ac<|Ao hm R (fun h5 hm=>Ae tbk [] R R<|have hm:=Lr hm h2;Rt1 hm R [] R R R) fun h5 hm=>Am<|Bc tbk [] R R<|Ap _ () hm (Ag [] R R)) fun h3 hm=>A7<|Ar () hm (Ag [] R R)
 exact Ae tbk [] R R<|Rt1 hm R [] R R R

/-! trireme/triremeref09.Place -/
def ref09_Place.l1 (bs : List T_api_Bound) (name : ByteArray) : Nat → Int → Option (Out Int Unit)
 | 0, _ => none
 | n + 1, i2 =>
  if (decide (i2 < (bs.length : Int))) = true then
   (V.gl bs i2).bind fun x =>
   if (V.seq x.Pod.Name name) = true then
    some (Out.ret i2)
   else
    ref09_Place.l1 bs name n (i64.wrap (i2 + 1))
  else
   some (Out.go ())
def ref09_Place (bs : List T_api_Bound) (name : ByteArray) : Option Int :=
 (ref09_Place.l1 bs name FU (0 : Int)).bind fun o =>
 o.on fun j =>
 some (-1)
theorem K167 (bs : List T_api_Bound) (name : ByteArray) : VS Tryz.prog 57 (ref09_Place bs name) [L49 bs, .str name] [] Iw N0 := by
 refine A4 [.tmp 4] Tryz.func57 R R R fun r hm=>?_
 unfold ref09_Place at hm
 refine Ae tbk [] R R<|Af<|Ae tbk [] R R<|Bw hm (fun _ (_:Unit)=>[]) (fun _ (_:Unit)=>[]) (fun o hm h2=>?_) fun j _ hm=> ?_
 ·refine B1 (fun zn (zs:Int)=>ref09_Place.l1 bs name zn zs) (fun zs (_:Unit)=>[(0,L49 bs),(1,.str name),(5,Iw zs)]) (fun _ (_:Unit)=>[]) _ () (fun _=>R) hm (Ag [] R R) fun n i2 _ hm=> ?_
  rw [ref09_Place.l1] at hm
  exact Af<|Ai<|Aa tbk [] 2 R R<|Ab R R (Aw T_api_Bound.vv R Bq)<|Ab R R (Ba R R R)<|Ac<|Ao hm R (fun h3 hm=>Am<|Af<|A2<|Ai<|Aa tbk [] 2 R R<|Bd hm fun x h4 hm=>Ab R R (Bf T_api_Bound.vv R R el23 h4)<|Aa tbk [] 5 R R<|Ac<|Ao hm R (fun h5 hm=>Ae tbk [] R R<|have hm:=Lr hm h2;Rt1 hm R [] R R R) fun h5 hm=>Am<|Bc tbk [] R R<|Ap _ () hm (Ag [] R R)) fun h3 hm=>A7<|Ar () hm (Ag [] R R)
 exact Ae tbk [] R R<|Rt1 hm R [] R R R

/-! trireme/triremeref09.Check -/
def ref09_Check.l1 (ms : List T_api_Machine) : Nat → Int → Option (Out Int Unit)
 | 0, _ => none
 | n + 1, i2 =>
  if (decide (i2 < (ms.length : Int))) = true then
   (V.gl ms i2).bind fun x =>
   (if (V.seq x.Name (⟨#[]⟩ : ByteArray)) = true then some true else (V.gl ms i2).bind fun x2 =>
   (ref07_RightMachine x2).bind fun r =>
   some (!r)).bind fun c =>
   if c = true then
    some (Out.ret 12)
   else
    ref09_Check.l1 ms n (i64.wrap (i2 + 1))
  else
   some (Out.go ())
def ref09_Check.l2 (bs : List T_api_Bound) : Nat → Int → Option (Out Int Unit)
 | 0, _ => none
 | n2 + 1, i4 =>
  if (decide (i4 < (bs.length : Int))) = true then
   (V.gl bs i4).bind fun x3 =>
   (ref07_RightPod x3.Pod).bind fun r2 =>
   if (!r2) = true then
    some (Out.ret 12)
   else
    ref09_Check.l2 bs n2 (i64.wrap (i4 + 1))
  else
   some (Out.go ())
def ref09_Check.l3 (ms : List T_api_Machine) : Nat → Int → Option (Out Int Unit)
 | 0, _ => none
 | n3 + 1, i6 =>
  if (decide (i6 < (ms.length : Int))) = true then
   (V.gl ms i6).bind fun x4 =>
   (ref09_Find ms x4.Name).bind fun r3 =>
   if (r3 != i6) = true then
    some (Out.ret 15)
   else
    ref09_Check.l3 ms n3 (i64.wrap (i6 + 1))
  else
   some (Out.go ())
def ref09_Check.l4 (bs : List T_api_Bound) : Nat → Int → Option (Out Int Unit)
 | 0, _ => none
 | n4 + 1, i8 =>
  if (decide (i8 < (bs.length : Int))) = true then
   (V.gl bs i8).bind fun x5 =>
   (ref09_Place bs x5.Pod.Name).bind fun r4 =>
   if (r4 != i8) = true then
    some (Out.ret 15)
   else
    ref09_Check.l4 bs n4 (i64.wrap (i8 + 1))
  else
   some (Out.go ())
def ref09_Check.l5 (ms : List T_api_Machine) (bs : List T_api_Bound) : Nat → Int → Option (Out Int Unit)
 | 0, _ => none
 | n5 + 1, i10 =>
  if (decide (i10 < (bs.length : Int))) = true then
   (V.gl bs i10).bind fun x6 =>
   (if (!(V.seq x6.On (⟨#[]⟩ : ByteArray))) = true then (V.gl bs i10).bind fun x7 =>
   (ref09_Find ms x7.On).bind fun r5 =>
   some (decide (r5 < 0)) else some false).bind fun c2 =>
   if c2 = true then
    some (Out.ret 16)
   else
    ref09_Check.l5 ms bs n5 (i64.wrap (i10 + 1))
  else
   some (Out.go ())
def ref09_Check (ms : List T_api_Machine) (bs : List T_api_Bound) : Option Int :=
 if ((decide ((ms.length : Int) > 200)) || (decide ((bs.length : Int) > 400))) = true then
  some 7
 else
  (ref09_Check.l1 ms FU (0 : Int)).bind fun o =>
  o.on fun j =>
  (ref09_Check.l2 bs FU (0 : Int)).bind fun o2 =>
  o2.on fun j2 =>
  (ref09_Check.l3 ms FU (0 : Int)).bind fun o3 =>
  o3.on fun j3 =>
  (ref09_Check.l4 bs FU (0 : Int)).bind fun o4 =>
  o4.on fun j4 =>
  (ref09_Check.l5 ms bs FU (0 : Int)).bind fun o5 =>
  o5.on fun j5 =>
  some 0
theorem K168 (ms : List T_api_Machine) (bs : List T_api_Bound) : VS Tryz.prog 22 (ref09_Check ms bs) [L61 ms, L49 bs] [] Iw N0 := by
 refine A4 [.tmp 4] Tryz.func22 R R R fun r hm=>?_
 unfold ref09_Check at hm
 refine Ae tbk [] R R<|Af<|Ai<|Ab R R (Aj R)<|Ab R R (Aw T_api_Machine.vv R Ay)<|Aa tbk [] 2 R R<|Cv 4 17 13 R (fun K' J=>Aa tbk [] 4 R R<|J 3 R R R) (fun h1 K' J=>Bb R R R R R (Aj R)<|Bb R R R R R (Aw T_api_Bound.vv R Bq)<|Aa tbk [] 2 R R<|J 3 R R R)<|Ac<|Ao hm R (fun h2 hm=>Ae tbk [] R R<|Rt1 hm R [] R R R) fun h2 hm=>Am<|Af<|Ae tbk [] R R<|Bw hm (fun _ (_:Unit)=>[(0,L61 ms),(1,L49 bs)]) (fun _ (_:Unit)=>[]) (fun o hm h4=>?_) fun j _ hm=> ?_
 ·refine B1 (fun zn (zs:Int)=>ref09_Check.l1 ms zn zs) (fun zs (_:Unit)=>[(0,L61 ms),(1,L49 bs),(5,Iw zs)]) (fun _ (_:Unit)=>[]) _ () (fun _=>R) hm (Ag [] R R) fun n i2 _ hm=> ?_
  rw [ref09_Check.l1] at hm
  exact Af<|Ai<|Aa tbk [] 2 R R<|Ab R R (Aw T_api_Machine.vv R Ay)<|Ab R R (Ba R R R)<|Ac<|Ao hm R (fun h5 hm=>Am<|Af<|A2<|Ai<|Aa tbk [] 2 R R<|Bd hm fun x h6 hm=>Ab R R (Bf T_api_Machine.vv R R el22 h6)<|Aa tbk [] 4 R R<|Bh hm 7 37 30 R (fun _ K' h7 J hm=>Aa tbk [] 7 R R<|J 6 R R (Bj hm)) (fun _ K' h7 J hm=>Aa tbk [] 2 R R<|Bd hm fun x2 h8 hm=>Bb R R R R R (Bf T_api_Machine.vv R R el22 h8)<|Bb R R R R R (Bt R ld61 R)<|A1 R R R R R<|Av hm 0 R fn60 R (K157 _) fun r hm=>Aa tbk [] 2 R R<|J 6 R R (Bj hm)) fun c hm=>Ac<|Ao hm R (fun h11 hm=>Ae tbk [] R R<|have hm:=Lr hm h4;Rt1 hm R [] R R R) fun h11 hm=>Am<|Bc tbk [] R R<|Ap _ () hm (Ag [] R R)) fun h5 hm=>A7<|Ar () hm (Ag [] R R)
 refine Af<|Ae tbk [] R R<|Bw hm (fun _ (_:Unit)=>[(0,L61 ms),(1,L49 bs)]) (fun _ (_:Unit)=>[]) (fun o2 hm h13=>?_) fun j2 _ hm=> ?_
 ·refine B1 (fun zn (zs:Int)=>ref09_Check.l2 bs zn zs) (fun zs (_:Unit)=>[(0,L61 ms),(1,L49 bs),(6,Iw zs)]) (fun _ (_:Unit)=>[]) _ () (fun _=>R) hm (Ag [] R R) fun n2 i4 _ hm=> ?_
  rw [ref09_Check.l2] at hm
  exact Af<|Ai<|Aa tbk [] 2 R R<|Ab R R (Aw T_api_Bound.vv R Bq)<|Ab R R (Ba R R R)<|Ac<|Ao hm R (fun h14 hm=>Am<|Af<|A2<|Ai<|Aa tbk [] 2 R R<|Bd hm fun x3 h15 hm=>Ab R R (Bf T_api_Bound.vv R R el23 h15)<|Aa tbk [] 2 R R<|Ad R R<|Av hm 0 R fn61 R (K165 _) fun r2 hm=>Ab R R (B6 R)<|Ac<|Ao hm R (fun h17 hm=>Ae tbk [] R R<|have hm:=Lr hm h13;Rt1 hm R [] R R R) fun h17 hm=>Am<|Bc tbk [] R R<|Ap _ () hm (Ag [] R R)) fun h14 hm=>A7<|Ar () hm (Ag [] R R)
 refine Af<|Ae tbk [] R R<|Bw hm (fun _ (_:Unit)=>[(0,L61 ms),(1,L49 bs)]) (fun _ (_:Unit)=>[]) (fun o3 hm h19=>?_) fun j3 _ hm=> ?_
 ·refine B1 (fun zn (zs:Int)=>ref09_Check.l3 ms zn zs) (fun zs (_:Unit)=>[(0,L61 ms),(1,L49 bs),(7,Iw zs)]) (fun _ (_:Unit)=>[]) _ () (fun _=>R) hm (Ag [] R R) fun n3 i6 _ hm=> ?_
  rw [ref09_Check.l3] at hm
  exact Af<|Ai<|Aa tbk [] 2 R R<|Ab R R (Aw T_api_Machine.vv R Ay)<|Ab R R (Ba R R R)<|Ac<|Ao hm R (fun h20 hm=>Am<|Af<|A2<|Ai<|Aa tbk [] 3 R R<|Bd hm fun x4 h21 hm=>Ab R R (Bf T_api_Machine.vv R R el22 h21)<|Aa tbk [] 2 R R<|Ad R R<|Av hm 0 R fn23 R (K166 _ _) fun r3 hm=>Aa tbk [] 2 R R<|Ac<|Ao hm R (fun h23 hm=>Ae tbk [] R R<|have hm:=Lr hm h19;Rt1 hm R [] R R R) fun h23 hm=>Am<|Bc tbk [] R R<|Ap _ () hm (Ag [] R R)) fun h20 hm=>A7<|Ar () hm (Ag [] R R)
 refine Af<|Ae tbk [] R R<|Bw hm (fun _ (_:Unit)=>[(0,L61 ms),(1,L49 bs)]) (fun _ (_:Unit)=>[]) (fun o4 hm h25=>?_) fun j4 _ hm=> ?_
 ·refine B1 (fun zn (zs:Int)=>ref09_Check.l4 bs zn zs) (fun zs (_:Unit)=>[(0,L61 ms),(1,L49 bs),(8,Iw zs)]) (fun _ (_:Unit)=>[]) _ () (fun _=>R) hm (Ag [] R R) fun n4 i8 _ hm=> ?_
  rw [ref09_Check.l4] at hm
  exact Af<|Ai<|Aa tbk [] 2 R R<|Ab R R (Aw T_api_Bound.vv R Bq)<|Ab R R (Ba R R R)<|Ac<|Ao hm R (fun h26 hm=>Am<|Af<|A2<|Ai<|Aa tbk [] 3 R R<|Bd hm fun x5 h27 hm=>Ab R R (Bf T_api_Bound.vv R R el23 h27)<|Aa tbk [] 3 R R<|Ad R R<|Av hm 0 R fn57 R (K167 _ _) fun r4 hm=>Aa tbk [] 2 R R<|Ac<|Ao hm R (fun h29 hm=>Ae tbk [] R R<|have hm:=Lr hm h25;Rt1 hm R [] R R R) fun h29 hm=>Am<|Bc tbk [] R R<|Ap _ () hm (Ag [] R R)) fun h26 hm=>A7<|Ar () hm (Ag [] R R)
 refine Af<|Ae tbk [] R R<|Bw hm (fun _ (_:Unit)=>[]) (fun _ (_:Unit)=>[]) (fun o5 hm h31=>?_) fun j5 _ hm=> ?_
 ·refine B1 (fun zn (zs:Int)=>ref09_Check.l5 ms bs zn zs) (fun zs (_:Unit)=>[(0,L61 ms),(1,L49 bs),(9,Iw zs)]) (fun _ (_:Unit)=>[]) _ () (fun _=>R) hm (Ag [] R R) fun n5 i10 _ hm=> ?_
  rw [ref09_Check.l5] at hm
  exact Af<|Ai<|Aa tbk [] 2 R R<|Ab R R (Aw T_api_Bound.vv R Bq)<|Ab R R (Ba R R R)<|Ac<|Ao hm R (fun h32 hm=>Am<|Af<|A2<|Ai<|Aa tbk [] 2 R R<|Bd hm fun x6 h33 hm=>Ab R R (Bf T_api_Bound.vv R R el23 h33)<|Aa tbk [] 4 R R<|Bh hm 9 103 94 R (fun _ K' h34 J hm=>Aa tbk [] 3 R R<|Bd hm fun x7 h35 hm=>Bb R R R R R (Bf T_api_Bound.vv R R el23 h35)<|Aa tbk [] 2 R R<|A1 R R R R R<|Av hm 0 R fn23 R (K166 _ _) fun r5 hm=>Aa tbk [] 2 R R<|J 8 R R (Bj hm)) (fun _ K' h34 J hm=>Aa tbk [] 9 R R<|J 8 R R (Bj hm)) fun c2 hm=>Ac<|Ao hm R (fun h38 hm=>Ae tbk [] R R<|have hm:=Lr hm h31;Rt1 hm R [] R R R) fun h38 hm=>Am<|Bc tbk [] R R<|Ap _ () hm (Ag [] R R)) fun h32 hm=>A7<|Ar () hm (Ag [] R R)
 exact Ae tbk [] R R<|Rt1 hm R [] R R R

/-! trireme/triremeref13.New -/
def ref13_New (ms : List T_api_Machine) (bs : List T_api_Bound) : Option (T_ref13_Snap × Int) :=
 (ref09_Check ms bs).bind fun r =>
 if (r != 0) = true then
  some ((⟨(⟨([] : List T_api_Machine), ([] : List T_api_Bound)⟩ : T_ref13_Yard), ([] : List T_ref13_Yard)⟩ : T_ref13_Snap), r)
 else
  some ((⟨(⟨ms, bs⟩ : T_ref13_Yard), ([] : List T_ref13_Yard)⟩ : T_ref13_Snap), 0)
theorem K169 (ms : List T_api_Machine) (bs : List T_api_Bound) : ∀ r : T_ref13_Snap × Int, ref13_New ms bs = some r → VC Tryz.prog 30 [L61 ms, L49 bs] [] fun zx zH => ∃ (b_0 : Nat) (ob0_2 : Option Nat) (cap0_2 : Nat), zx = .tup [.ptr b_0 0, Iw r.2] ∧ zH = [.box b_0 82 [L61 r.1.Y.Ms, L49 r.1.Y.Bs, Z79 ob0_2 r.1.Kept cap0_2], Q79 ob0_2 cap0_2 r.1.Kept] := by
 refine VCx.run [.tmp 4,.tmp 5] Tryz.func30 R R R fun r hm=>?_
 unfold ref13_New at hm
 refine Ae tbk [] R R<|Ai<|Aa tbk [] 2 R R<|Ad R R<|Av hm 0 R fn22 R (K168 _ _) fun r hm=>Ab R R (Ak R)<|Ac<|Af<|Ae tbk [] R R<|Ao hm R (fun h2 hm=>?_) fun h2 hm=> ?_
 ·refine Ai<|Ab R R (B4 pl82 R R)<|Ad R R<|Bg R R fun b=>Aa tbk [] 3 R R<|Ac<|?_
  obtain rfl:=Option.some.inj hm
  exact Bz (Bx 61)<|Bz (A6 (H':=[.box b 82 [L61 ([] : List T_api_Machine),.sl none 0 0,.sl none 0 0]]) 0 [] R trivial ⟨.box _ _ _ _ ⟨.here _ R,.same _,.same _,trivial⟩,trivial⟩)<|Bz (Bx 49)<|Bz (A6 (H':=[.box b 82 [L61 ([] : List T_api_Machine),L49 ([] : List T_api_Bound),.sl none 0 0]]) 0 [] R trivial ⟨.box _ _ _ _ ⟨.same _,.here _ R,.same _,trivial⟩,trivial⟩)<|Bz (Bx 79)<|C5 ⟨.inl R,_,.cons (.tmp _ _ R) (.cons (.tmp _ _ R) .nil),[1,0],_,R,b,none,0,R,R⟩
 refine Am<|Ai<|Aa tbk [] 2 R R<|Ab R R (B4 pl79 R R)<|Ab R R (B4 pl82 R R)<|Ad R R<|Bg R R fun b2=>Aa tbk [] 2 R R<|Ac<|?_
 obtain rfl:=Option.some.inj hm
 exact Bz (Bx 79)<|C5 ⟨.inl R,_,.cons (.tmp _ _ R) (.cons (.tmp _ _ R) .nil),[1,0],_,R,b2,none,0,R,R⟩

/-! trireme/triremelaw13.light -/
def law13_light (o : T_law13_Op) : Option Bool :=
 (ref07_LightMachine o.M).bind fun r =>
 (if r = true then (ref07_LightPod o.P_).bind fun r2 =>
 some r2 else some false).bind fun c =>
 some (c && (decide ((o.Name.size : Int) ≤ 300)))
theorem K170 (o : T_law13_Op) : VS Tryz.prog 31 (law13_light o) [T_law13_Op.vv o] [] .bool N0 := by
 refine A4 [.tmp 2] Tryz.func31 R R R fun r hm=>?_
 unfold law13_light at hm
 exact Ai<|Ad R R<|Bg R R fun b=>Ab R R (Ak R)<|Ac<|Ai<|Aa tbk [0] 2 R R<|Ad R R<|Av hm 0 R fn65 R (K6 _) fun r hm=>Ab R R (Aj R)<|Bh hm 4 10 6 R (fun _ K' h3 J hm=>Aa tbk [0] 2 R R<|A1 R R R R R<|Av hm 0 R fn66 R (K8 _) fun r2 hm=>Ab R R (Bk true R R R)<|J 3 R R (Bj hm)) (fun _ K' h3 J hm=>Aa tbk [] 4 R R<|J 3 R R (Bj hm)) fun c hm=>Ab R R (Aj R)<|Db 5 16 11 R (fun h6 K' J=>Aa tbk [0] 2 R R<|Bb R R R R R (Ci R A9)<|Aa tbk [] 2 R R<|J 4 R R R) (fun K' J=>Aa tbk [] 5 R R<|J 4 R R R)<|Ab R R (Ak R)<|Ac<|Rt1 hm R [] R R R

/-! (*trireme/triremeref13.Snap).Add -/
def ref13_Snap_Add (s : T_ref13_Snap) (m : T_api_Machine) : Option (Int × T_ref13_Snap) :=
 (if (V.seq m.Name (⟨#[]⟩ : ByteArray)) = true then some true else (ref07_RightMachine m).bind fun r =>
 some (!r)).bind fun c =>
 if c = true then
  some (12, s)
 else
  (ref09_Find s.Y.Ms m.Name).bind fun r2 =>
  if (decide (r2 ≥ 0)) = true then
   some (15, s)
  else
   if (decide ((s.Y.Ms.length : Int) ≥ 200)) = true then
    some (7, s)
   else
    (V.ap 128 ([] : List T_api_Machine) s.Y.Ms).bind fun l =>
    (V.ap 128 l [m]).bind fun l2 =>
    some (0, (⟨(⟨l2, s.Y.Bs⟩ : T_ref13_Yard), s.Kept⟩ : T_ref13_Snap))
theorem K171 (s : T_ref13_Snap) (m : T_api_Machine) (b : Nat) (ob : Option Nat) (cap : Nat) : VS2 Tryz.prog 70 (ref13_Snap_Add s m) [.ptr b 0, T_api_Machine.vv m] [.box b 82 [L61 s.Y.Ms, L49 s.Y.Bs, Z79 ob s.Kept cap], Q79 ob cap s.Kept] (fun r ob0_2 cap0_2=>Iw r.1) (fun r ob0_2 cap0_2=>[.box b 82 [L61 r.2.Y.Ms, L49 r.2.Y.Bs, Z79 ob0_2 r.2.Kept cap0_2], Q79 ob0_2 cap0_2 r.2.Kept]) := by
 refine Cf [.tmp 4] Tryz.func70 R R R fun r hm=>?_
 unfold ref13_Snap_Add at hm
 exact Ai<|Ad R R<|Bg R R fun b2=>Ab R R (Ak R)<|Ac<|Af<|Ai<|Aa tbk [0] 4 R R<|Bh hm 4 13 9 R (fun _ K' h2 J hm=>Aa tbk [] 4 R R<|J 3 R R (Bj hm)) (fun _ K' h2 J hm=>Aa tbk [0] 1 R R<|A1 R R R R R<|Av hm 0 R fn60 R (K157 _) fun r hm=>Aa tbk [] 2 R R<|J 3 R R (Bj hm)) fun c hm=>Ac<|Ao hm R (fun h5 hm=>Ae tbk [] R R<|Rg2 hm R [1,1] ob cap (.cons (.tmp _ _ R) .nil) R R) fun h5 hm=>Am<|Af<|Af<|Be 0 mixed<|Aq tbk [0,1,2,3,4,5,6] [1,0] (by kernel_rfl) R R R<|Ah 7 (by kernel_rfl)<|Al R R R<|Av hm 0 R fn23 R (K166 _ _) fun r2 hm=>Ax 8 R R R (by kernel_rfl) (Ba R R R)<|A0 (by kernel_rfl)<|Ao hm R (fun h7 hm=>Ae tbk [] R R<|Rg2 hm R [1,1] ob cap (.cons (.tmp _ _ R) .nil) R R) fun h7 hm=>Am<|Af<|Ai<|Aa tbk [1] 5 R R<|Ab R R (Aw T_api_Machine.vv R Ay)<|Ab R R (Ba R R R)<|Ac<|Ao hm R (fun h8 hm=>Ae tbk [] R R<|Rg2 hm R [1,1] ob cap (.cons (.tmp _ _ R) .nil) R R) fun h8 hm=>Am<|Ae tbk [] R R<|Ai<|Aa tbk [1] 6 R R<|Bl (Bx 61)<|Bd hm fun l h10 hm=>Ad R R<|Ch 0 T_api_Machine.vv (l:=([] : List T_api_Machine)) (l2:=s.Y.Ms) ap22 R R (sT_list T_api_Machine.vv el22 R R) h10 fun ob2 cap2=>Ab R R (Ak R)<|Ac<|Ai<|Aa tbk [1] 2 R R<|Ad R R<|A5 ap22 R R R R R fun b3=>Bd hm fun l2 h12 hm=>Ad R R<|Ch 1 T_api_Machine.vv (l:=l) (l2:=[m]) ap22 R R (sT_row 0 T_api_Machine.vv el22 R R) h12 fun ob3 cap3=>Ab R R (Ak R)<|Ac<|Ai<|Aa tbk [] 5 R R<|Ad R R<|An (i:=3) R R R ld22 R R R<|Ac<|Ae tbk [] R R<|Bz (A6 (H':=[Q61 (some b3) 1 [m],X61 b2 m,.box b 82 [L61 l2,L49 s.Y.Bs,Z79 ob s.Kept cap],Q79 ob cap s.Kept]) 1 [(40,L61 l2),(5,L61 l2),(42,L61 l2)] R ⟨⟨_,R,.here _ R⟩,⟨_,R,.here _ R⟩,⟨_,R,.here _ R⟩,trivial⟩ ⟨.same _,.same _,.box _ _ _ _ ⟨.here _ R,.same _,.same _,trivial⟩,.same _,trivial⟩)<|Rg2 hm R [2,2] ob cap (.cons (.tmp _ _ R) .nil) R R

/-! trireme/triremeref09.On -/
def ref09_On.l1 (bs : List T_api_Bound) (name : ByteArray) : Nat → (List T_api_Pod) → Int → Option (List T_api_Pod)
 | 0, _, _ => none
 | n + 1, out2, i2 =>
  if (decide (i2 < (bs.length : Int))) = true then
   (V.gl bs i2).bind fun x =>
   if (V.seq x.On name) = true then
    (V.gl bs i2).bind fun x2 =>
    (V.ap 272 out2 [x2.Pod]).bind fun out4 =>
    ref09_On.l1 bs name n out4 (i64.wrap (i2 + 1))
   else
    ref09_On.l1 bs name n out2 (i64.wrap (i2 + 1))
  else
   some out2
def ref09_On (bs : List T_api_Bound) (name : ByteArray) : Option (List T_api_Pod) :=
 (ref09_On.l1 bs name FU ([] : List T_api_Pod) (0 : Int)).bind fun out32 =>
 some out32
theorem K172 (bs : List T_api_Bound) (name : ByteArray) : VS2 Tryz.prog 62 (ref09_On bs name) [L49 bs, .str name] [] (fun r ob0 cap0=>Z47 ob0 r cap0) (fun r ob0 cap0=>[Q47 ob0 cap0 r]) := by
 refine Cf [.tmp 4] Tryz.func62 R R R fun r hm=>?_
 unfold ref09_On at hm
 refine Ae tbk [] R R<|Ae tbk [] R R<|Af<|Ae tbk [] R R<|Cn hm (fun out32 (gg:Option Nat × Nat)=>[(5,Z47 gg.1 out32 gg.2)]) (fun out32 (gg:Option Nat × Nat)=>[Q47 gg.1 gg.2 out32]) (fun o hm=>?_) fun out32=>Pq fun ob3 cap3 hm=> ?_
 ·refine B1 (fun zn (zs:List T_api_Pod × Int)=>ref09_On.l1 bs name zn zs.1 zs.2) (fun zs (zg:Option Nat × Nat)=>[(0,L49 bs),(1,.str name),(5,Z47 zg.1 zs.1 zg.2),(6,Iw zs.2)]) (fun zs (zg:Option Nat × Nat)=>[Q47 zg.1 zg.2 zs.1]) (([] : List T_api_Pod),(0 : Int)) (none,0) (fun _=>R) hm (Ct (Bx 47) (Ag [0] R R)) fun n=>Pq fun out2 i2=>Pq fun ob2 cap2 hm=> ?_
  rw [ref09_On.l1] at hm
  exact Af<|Ai<|Aa tbk [] 2 R R<|Ab R R (Aw T_api_Bound.vv R Bq)<|Ab R R (Ba R R R)<|Ac<|Ao hm R (fun h5 hm=>Am<|Af<|A2<|Ai<|Aa tbk [] 2 R R<|Bd hm fun x h6 hm=>Ab R R (Bf T_api_Bound.vv R R el23 h6)<|Aa tbk [] 4 R R<|Ac<|Ao hm R (fun h7 hm=>Bn<|Aa tbk [] 3 R R<|Bd hm fun x2 h8 hm=>Ab R R (Bf T_api_Bound.vv R R el23 h8)<|Aa tbk [] 2 R R<|Ad R R<|A5 ap55 R R R R R fun b=>Bd hm fun out4 h10 hm=>Ad R R<|Ch 1 T_api_Pod.vv (l:=out2) (l2:=[x2.Pod]) ap55 R R (sT_row 0 T_api_Pod.vv el55 R R) h10 fun ob4 cap4=>Ab R R (Ak R)<|Ac<|Bc tbk [] R R<|Ap (out4,(IntKind.i64.wrap (i2 + (1 : Int)))) (ob4,cap4) hm (Ag [1] R R)) fun h7 hm=>Am<|Bc tbk [] R R<|Ap (out2,(IntKind.i64.wrap (i2 + (1 : Int)))) (ob2,cap2) hm (Ag [0] R R)) fun h5 hm=>A7<|As (ob2,cap2) hm (Ag [0] R R)
 exact Ae tbk [] R R<|Rg2 hm R [0] ob3 cap3 (.cons (.tmp _ _ R) .nil) R R

/-! (*trireme/triremeref13.Snap).Drop -/
def ref13_Snap_Drop (s : T_ref13_Snap) (name : ByteArray) : Option (Int × T_ref13_Snap) :=
 (ref09_Find s.Y.Ms name).bind fun r =>
 if (decide (r < 0)) = true then
  some (16, s)
 else
  (ref09_On s.Y.Bs name).bind fun r2 =>
  if (decide ((r2.length : Int) > 0)) = true then
   some (22, s)
  else
   (V.sl s.Y.Ms none (some r)).bind fun v =>
   (V.ap 128 ([] : List T_api_Machine) v).bind fun l =>
   (V.sl s.Y.Ms (some (i64.wrap (r + 1))) none).bind fun v2 =>
   (V.ap 128 l v2).bind fun l2 =>
   some (0, (⟨(⟨l2, s.Y.Bs⟩ : T_ref13_Yard), s.Kept⟩ : T_ref13_Snap))
theorem K173 (s : T_ref13_Snap) (name : ByteArray) (b : Nat) (ob : Option Nat) (cap : Nat) : VS2 Tryz.prog 71 (ref13_Snap_Drop s name) [.ptr b 0, .str name] [.box b 82 [L61 s.Y.Ms, L49 s.Y.Bs, Z79 ob s.Kept cap], Q79 ob cap s.Kept] (fun r ob0_2 cap0_2=>Iw r.1) (fun r ob0_2 cap0_2=>[.box b 82 [L61 r.2.Y.Ms, L49 r.2.Y.Bs, Z79 ob0_2 r.2.Kept cap0_2], Q79 ob0_2 cap0_2 r.2.Kept]) := by
 refine Cf [.tmp 4] Tryz.func71 R R R fun r hm=>?_
 unfold ref13_Snap_Drop at hm
 exact Ae tbk [] R R<|Ai<|Aa tbk [0] 6 R R<|Ad R R<|Av hm 0 R fn23 R (K166 _ _) fun r hm=>Ab R R (Ak R)<|Ac<|Af<|Ae tbk [] R R<|Ao hm R (fun h2 hm=>Ae tbk [] R R<|Rg2 hm R [0,0] ob cap (.cons (.tmp _ _ R) .nil) R R) fun h2 hm=>Am<|Af<|Ai<|Aa tbk [0] 6 R R<|Ad R R<|B3 hm 0 R fn62 R (K172 _ _) fun r2 ob2 cap2 hm=>Bl (A6 0 [(22,L47 r2)] R ⟨⟨_,R,.here _ R⟩,trivial⟩ (FzH.refl _))<|Ab R R (Aw T_api_Pod.vv R Cy)<|Ab R R (Ba R R R)<|Ac<|Ao hm R (fun h5 hm=>Ae tbk [] R R<|Rg2 hm R [0,0] ob cap (.cons (.tmp _ _ R) .nil) R R) fun h5 hm=>Am<|Ae tbk [] R R<|Ai<|Aa tbk [0] 7 R R<|Bd hm fun v h6 hm=>Ab R R (Dg R R R el22 h6)<|Bl (Bx 61)<|Bd hm fun l h8 hm=>Ad R R<|Ch 0 T_api_Machine.vv (l:=([] : List T_api_Machine)) (l2:=v) ap22 R R (sT_list T_api_Machine.vv el22 R R) h8 fun ob3 cap3=>Ab R R (Ak R)<|Ac<|Ai<|Aa tbk [1] 8 R R<|Bd hm fun v2 h9 hm=>Ab R R (Dg R R R el22 h9)<|Bd hm fun l2 h10 hm=>Ad R R<|Ch 0 T_api_Machine.vv (l:=l) (l2:=v2) ap22 R R (sT_list T_api_Machine.vv el22 R R) h10 fun ob4 cap4=>Ab R R (Ak R)<|Ac<|Ai<|Aa tbk [] 5 R R<|Ad R R<|An (i:=1) R R R ld22 R R R<|Ac<|Ae tbk [] R R<|Bz (A6 (H':=[.box b 82 [L61 l2,L49 s.Y.Bs,Z79 ob s.Kept cap],Q79 ob cap s.Kept]) 0 [(43,L61 l2),(6,L61 l2),(45,L61 l2)] R ⟨⟨_,R,.here _ R⟩,⟨_,R,.here _ R⟩,⟨_,R,.here _ R⟩,trivial⟩ ⟨.box _ _ _ _ ⟨.here _ R,.same _,.same _,trivial⟩,.same _,trivial⟩)<|Rg2 hm R [0,0] ob cap (.cons (.tmp _ _ R) .nil) R R

/-! trireme/triremeref10.Others -/
def ref10_Others.l1 (bs : List T_api_Bound) (name : ByteArray) : Nat → (List T_api_Bound) → Int → Option (List T_api_Bound)
 | 0, _, _ => none
 | n + 1, out2, i2 =>
  if (decide (i2 < (bs.length : Int))) = true then
   (V.gl bs i2).bind fun x =>
   if (!(V.seq x.Pod.Name name)) = true then
    (V.gl bs i2).bind fun x2 =>
    (V.ap 288 out2 [x2]).bind fun out4 =>
    ref10_Others.l1 bs name n out4 (i64.wrap (i2 + 1))
   else
    ref10_Others.l1 bs name n out2 (i64.wrap (i2 + 1))
  else
   some out2
def ref10_Others (bs : List T_api_Bound) (name : ByteArray) : Option (List T_api_Bound) :=
 (ref10_Others.l1 bs name FU ([] : List T_api_Bound) (0 : Int)).bind fun out32 =>
 some out32
theorem K174 (bs : List T_api_Bound) (name : ByteArray) : VS2 Tryz.prog 147 (ref10_Others bs name) [L49 bs, .str name] [] (fun r ob0 cap0=>Z49 ob0 r cap0) (fun r ob0 cap0=>[Q49 ob0 cap0 r]) := by
 refine Cf [.tmp 4] Tryz.func147 R R R fun r hm=>?_
 unfold ref10_Others at hm
 refine Ae tbk [] R R<|Ae tbk [] R R<|Af<|Ae tbk [] R R<|Cn hm (fun out32 (gg:Option Nat × Nat)=>[(5,Z49 gg.1 out32 gg.2)]) (fun out32 (gg:Option Nat × Nat)=>[Q49 gg.1 gg.2 out32]) (fun o hm=>?_) fun out32=>Pq fun ob3 cap3 hm=> ?_
 ·refine B1 (fun zn (zs:List T_api_Bound × Int)=>ref10_Others.l1 bs name zn zs.1 zs.2) (fun zs (zg:Option Nat × Nat)=>[(0,L49 bs),(1,.str name),(5,Z49 zg.1 zs.1 zg.2),(6,Iw zs.2)]) (fun zs (zg:Option Nat × Nat)=>[Q49 zg.1 zg.2 zs.1]) (([] : List T_api_Bound),(0 : Int)) (none,0) (fun _=>R) hm (Ct (Bx 49) (Ag [0] R R)) fun n=>Pq fun out2 i2=>Pq fun ob2 cap2 hm=> ?_
  rw [ref10_Others.l1] at hm
  exact Af<|Ai<|Aa tbk [] 2 R R<|Ab R R (Aw T_api_Bound.vv R Bq)<|Ab R R (Ba R R R)<|Ac<|Ao hm R (fun h5 hm=>Am<|Af<|A2<|Ai<|Aa tbk [] 2 R R<|Bd hm fun x h6 hm=>Ab R R (Bf T_api_Bound.vv R R el23 h6)<|Aa tbk [] 5 R R<|Ac<|Ao hm R (fun h7 hm=>Bn<|Aa tbk [] 3 R R<|Bd hm fun x2 h8 hm=>Ab R R (Bf T_api_Bound.vv R R el23 h8)<|Ab R R (Bt R ld49 R)<|Ad R R<|A5 ap23 R R R R R fun b=>Bd hm fun out4 h10 hm=>Ad R R<|Ch 1 T_api_Bound.vv (l:=out2) (l2:=[x2]) ap23 R R (sT_row 0 T_api_Bound.vv el23 R R) h10 fun ob4 cap4=>Ab R R (Ak R)<|Ac<|Bc tbk [] R R<|Ap (out4,(IntKind.i64.wrap (i2 + (1 : Int)))) (ob4,cap4) hm (Ag [1] R R)) fun h7 hm=>Am<|Bc tbk [] R R<|Ap (out2,(IntKind.i64.wrap (i2 + (1 : Int)))) (ob2,cap2) hm (Ag [0] R R)) fun h5 hm=>A7<|As (ob2,cap2) hm (Ag [0] R R)
 exact Ae tbk [] R R<|Rg2 hm R [0] ob3 cap3 (.cons (.tmp _ _ R) .nil) R R

/-! trireme/triremeref12.Put -/
def ref12_Put (bs : List T_api_Bound) (p : T_api_Pod) (on_ : ByteArray) : Option (List T_api_Bound) :=
 (ref10_Others bs p.Name).bind fun r =>
 (V.ap 288 r [(⟨p, on_⟩ : T_api_Bound)]).bind fun o =>
 some o
theorem K175 (bs : List T_api_Bound) (p : T_api_Pod) (on_ : ByteArray) : VS2 Tryz.prog 125 (ref12_Put bs p on_) [L49 bs, T_api_Pod.vv p, .str on_] [] (fun r ob0 cap0=>Z49 ob0 r cap0) (fun r ob0 cap0=>[Q49 ob0 cap0 r]) := by
 refine Cf [.tmp 6] Tryz.func125 R R R fun r hm=>?_
 unfold ref12_Put at hm
 exact Ai<|Ad R R<|Bg R R fun b=>Ab R R (Ak R)<|Ac<|Ai<|Aa tbk [0] 3 R R<|Ad R R<|B3 hm 0 R fn147 R (K174 _ _) fun r ob cap hm=>Ab R R (Ak R)<|Ac<|Ai<|Aa tbk [1] 3 R R<|Ab R R (B4 pl49 R R)<|Ad R R<|A5 ap23 R R R R R fun b2=>Bd hm fun o h5 hm=>Ad R R<|Ch 1 T_api_Bound.vv (l:=r) (l2:=[(⟨p,on_⟩ : T_api_Bound)]) ap23 R R (sT_row 0 T_api_Bound.vv el23 R R) h5 fun ob2 cap2=>Ab R R (Ak R)<|Ac<|Rg2 hm R [1] ob2 cap2 (.cons (.tmp _ _ R) .nil) R R

/-! (*trireme/triremeref13.Snap).Put -/
def ref13_Snap_Put (s : T_ref13_Snap) (p : T_api_Pod) (on_ : ByteArray) : Option (Int × T_ref13_Snap) :=
 (ref07_RightPod p).bind fun r =>
 if (!r) = true then
  some (12, s)
 else
  (if (!(V.seq on_ (⟨#[]⟩ : ByteArray))) = true then (ref09_Find s.Y.Ms on_).bind fun r2 =>
  some (decide (r2 < 0)) else some false).bind fun c =>
  if c = true then
   some (16, s)
  else
   (if (decide ((s.Y.Bs.length : Int) ≥ 400)) = true then (ref09_Place s.Y.Bs p.Name).bind fun r3 =>
   some (decide (r3 < 0)) else some false).bind fun c2 =>
   if c2 = true then
    some (7, s)
   else
    (ref12_Put s.Y.Bs p on_).bind fun r4 =>
    some (0, (⟨(⟨s.Y.Ms, r4⟩ : T_ref13_Yard), s.Kept⟩ : T_ref13_Snap))
theorem K176 (s : T_ref13_Snap) (p : T_api_Pod) (on_ : ByteArray) (b : Nat) (ob : Option Nat) (cap : Nat) : VS2 Tryz.prog 72 (ref13_Snap_Put s p on_) [.ptr b 0, T_api_Pod.vv p, .str on_] [.box b 82 [L61 s.Y.Ms, L49 s.Y.Bs, Z79 ob s.Kept cap], Q79 ob cap s.Kept] (fun r ob0_2 cap0_2=>Iw r.1) (fun r ob0_2 cap0_2=>[.box b 82 [L61 r.2.Y.Ms, L49 r.2.Y.Bs, Z79 ob0_2 r.2.Kept cap0_2], Q79 ob0_2 cap0_2 r.2.Kept]) := by
 refine Cf [.tmp 6] Tryz.func72 R R R fun r hm=>?_
 unfold ref13_Snap_Put at hm
 exact Ai<|Ad R R<|Bg R R fun b2=>Ab R R (Ak R)<|Ac<|Af<|Ai<|Aa tbk [0] 1 R R<|Ad R R<|Av hm 0 R fn61 R (K165 _) fun r hm=>Ab R R (B6 R)<|Ac<|Ao hm R (fun h3 hm=>Ae tbk [] R R<|Rg2 hm R [1,1] ob cap (.cons (.tmp _ _ R) .nil) R R) fun h3 hm=>Am<|Af<|Ai<|Aa tbk [] 3 R R<|Bh hm 9 21 12 R (fun _ K' h4 J hm=>Aa tbk [1] 6 R R<|A1 R R R R R<|Av hm 0 R fn23 R (K166 _ _) fun r2 hm=>Aa tbk [] 2 R R<|J 8 R R (Bj hm)) (fun _ K' h4 J hm=>Aa tbk [] 9 R R<|J 8 R R (Bj hm)) fun c hm=>Ac<|Ao hm R (fun h7 hm=>Ae tbk [] R R<|Rg2 hm R [1,1] ob cap (.cons (.tmp _ _ R) .nil) R R) fun h7 hm=>Am<|Af<|Af<|Be 0 mixed<|Aq tbk [0,1,2,3,4] [1] (by kernel_rfl) R R R<|Ax 5 R R R (by kernel_rfl) (Aw T_api_Bound.vv R Bq)<|Aq tbk [6,7] [] (by kernel_rfl) R R R<|Cw hm [17,16,15,14,13,12,11,10,9,8,7,6,5,4,3,2,1,0] 39 29 R (fun _ K' h8 J hm=>Aq tbk [8,9,10,11,12,13,14] [1,0] (by kernel_rfl) R R R<|Ah 15 (by kernel_rfl)<|Bo R R R R R R<|Av hm 0 R fn57 R (K167 _ _) fun r3 hm=>Aq tbk [16,17] [] (by kernel_rfl) R R R<|J 9 R R (Bj hm)) (fun _ K' h8 J hm=>Aq tbk [8,9,10,11,12,13,14,15,16,17] [] (by kernel_rfl) R R R<|J 9 R R (Bj hm)) fun c2 hm=>A0 (by kernel_rfl)<|Ao hm R (fun h11 hm=>Ae tbk [] R R<|Rg2 hm R [1,1] ob cap (.cons (.tmp _ _ R) .nil) R R) fun h11 hm=>Am<|Af<|Bz (Bi [1,0,0] R)<|Be 1 mixed<|Aq tbk [0,1,2,3,4,6,7] [0] (by kernel_rfl) R R R<|Ah 5 (by kernel_rfl)<|Al R R R<|A8 (Az (i:=0) R R ld23 R)<|Ah 8 (by kernel_rfl)<|Al R R R<|B3 hm 0 R fn125 R (K175 _ _ _) fun r4 ob2 cap2 hm=>Ck (A6 0 [(48,L49 r4)] R ⟨⟨_,R,.here _ R⟩,trivial⟩ (FzH.refl _))<|Aq tbk [9,10,11] [] (by kernel_rfl) R R R<|Ah 12 (by kernel_rfl)<|Al R R R<|An (i:=0) R R R ld23 R R R<|A0 (by kernel_rfl)<|Ae tbk [] R R<|Rg2 hm R [0,1] ob cap (.cons (.tmp _ _ R) .nil) R R

/-! (*trireme/triremeref13.Snap).Take -/
def ref13_Snap_Take (s : T_ref13_Snap) (name : ByteArray) : Option (Int × T_ref13_Snap) :=
 (ref09_Place s.Y.Bs name).bind fun r =>
 if (decide (r < 0)) = true then
  some (16, s)
 else
  (V.sl s.Y.Bs none (some r)).bind fun v =>
  (V.ap 288 ([] : List T_api_Bound) v).bind fun l =>
  (V.sl s.Y.Bs (some (i64.wrap (r + 1))) none).bind fun v2 =>
  (V.ap 288 l v2).bind fun l2 =>
  some (0, (⟨(⟨s.Y.Ms, l2⟩ : T_ref13_Yard), s.Kept⟩ : T_ref13_Snap))
theorem K177 (s : T_ref13_Snap) (name : ByteArray) (b : Nat) (ob : Option Nat) (cap : Nat) : VS2 Tryz.prog 73 (ref13_Snap_Take s name) [.ptr b 0, .str name] [.box b 82 [L61 s.Y.Ms, L49 s.Y.Bs, Z79 ob s.Kept cap], Q79 ob cap s.Kept] (fun r ob0_2 cap0_2=>Iw r.1) (fun r ob0_2 cap0_2=>[.box b 82 [L61 r.2.Y.Ms, L49 r.2.Y.Bs, Z79 ob0_2 r.2.Kept cap0_2], Q79 ob0_2 cap0_2 r.2.Kept]) := by
 refine Cf [.tmp 4] Tryz.func73 R R R fun r hm=>?_
 unfold ref13_Snap_Take at hm
 exact Ae tbk [] R R<|Ai<|Aa tbk [0] 6 R R<|Ad R R<|Av hm 0 R fn57 R (K167 _ _) fun r hm=>Ab R R (Ak R)<|Ac<|Af<|Ae tbk [] R R<|Ao hm R (fun h2 hm=>Ae tbk [] R R<|Rg2 hm R [0,0] ob cap (.cons (.tmp _ _ R) .nil) R R) fun h2 hm=>Am<|Ae tbk [] R R<|Ai<|Aa tbk [0] 7 R R<|Bd hm fun v h3 hm=>Ab R R (Dg R R R el23 h3)<|Bl (Bx 49)<|Bd hm fun l h5 hm=>Ad R R<|Ch 0 T_api_Bound.vv (l:=([] : List T_api_Bound)) (l2:=v) ap23 R R (sT_list T_api_Bound.vv el23 R R) h5 fun ob2 cap2=>Ab R R (Ak R)<|Ac<|Ai<|Aa tbk [1] 8 R R<|Bd hm fun v2 h6 hm=>Ab R R (Dg R R R el23 h6)<|Bd hm fun l2 h7 hm=>Ad R R<|Ch 0 T_api_Bound.vv (l:=l) (l2:=v2) ap23 R R (sT_list T_api_Bound.vv el23 R R) h7 fun ob3 cap3=>Ab R R (Ak R)<|Ac<|Ai<|Aa tbk [] 5 R R<|Ad R R<|An (i:=1) R R R ld23 R R R<|Ac<|Ae tbk [] R R<|Bz (A6 (H':=[.box b 82 [L61 s.Y.Ms,L49 l2,Z79 ob s.Kept cap],Q79 ob cap s.Kept]) 0 [(34,L49 l2),(6,L49 l2),(36,L49 l2)] R ⟨⟨_,R,.here _ R⟩,⟨_,R,.here _ R⟩,⟨_,R,.here _ R⟩,trivial⟩ ⟨.box _ _ _ _ ⟨.same _,.here _ R,.same _,trivial⟩,.same _,trivial⟩)<|Rg2 hm R [0,0] ob cap (.cons (.tmp _ _ R) .nil) R R

/-! (*trireme/triremeref13.Snap).Fork -/
def ref13_Snap_Fork (s : T_ref13_Snap) : Option (Int × T_ref13_Snap) :=
 if (decide ((s.Kept.length : Int) ≥ 20)) = true then
  some (7, s)
 else
  (V.ap 48 ([] : List T_ref13_Yard) s.Kept).bind fun l =>
  (V.ap 48 l [s.Y]).bind fun l2 =>
  some (0, (⟨s.Y, l2⟩ : T_ref13_Snap))
theorem K178 (s : T_ref13_Snap) (b : Nat) (ob : Option Nat) (cap : Nat) : VS2 Tryz.prog 74 (ref13_Snap_Fork s) [.ptr b 0] [.box b 82 [L61 s.Y.Ms, L49 s.Y.Bs, Z79 ob s.Kept cap], Q79 ob cap s.Kept] (fun r ob0_2 cap0_2=>Iw r.1) (fun r ob0_2 cap0_2=>[.box b 82 [L61 r.2.Y.Ms, L49 r.2.Y.Bs, Z79 ob0_2 r.2.Kept cap0_2], Q79 ob0_2 cap0_2 r.2.Kept]) := by
 refine Cf [.tmp 2] Tryz.func74 R R R fun r hm=>?_
 unfold ref13_Snap_Fork at hm
 exact Ae tbk [] R R<|Af<|Ai<|Aa tbk [0] 4 R R<|Ab R R (Cq T_ref13_Yard.vv R Cb)<|Ab R R (Ba R R R)<|Ac<|Ao hm R (fun h1 hm=>Ae tbk [] R R<|Rg2 hm R [0,0] ob cap (.cons (.tmp _ _ R) .nil) R R) fun h1 hm=>Am<|Ae tbk [] R R<|Ai<|Aa tbk [0] 5 R R<|Bl (Bx 79)<|Bd hm fun l h3 hm=>Ad R R<|Ch 0 T_ref13_Yard.vv (l:=([] : List T_ref13_Yard)) (l2:=s.Kept) ap80 R R (sT_row 2 T_ref13_Yard.vv el80 R R) h3 fun ob2 cap2=>Ab R R (Ak R)<|Ac<|Ai<|Aa tbk [1] 5 R R<|Ad R R<|A5 ap80 R R R R R fun b2=>Bd hm fun l2 h5 hm=>Ad R R<|Ch 1 T_ref13_Yard.vv (l:=l) (l2:=[s.Y]) ap80 R R (sT_row 0 T_ref13_Yard.vv el80 R R) h5 fun ob3 cap3=>Ab R R (Ak R)<|Ac<|Ai<|Aa tbk [] 4 R R<|Ad R R<|An (i:=2) R R R ld80 R R R<|Ac<|Ae tbk [] R R<|Rg2 hm R [2,1] ob3 cap3 (.cons (.tmp _ _ R) .nil) R R

/-! (*trireme/triremeref13.Snap).Commit -/
def ref13_Snap_Commit (s : T_ref13_Snap) : Option (Int × T_ref13_Snap) :=
 if ((s.Kept.length : Int) == 0) = true then
  some (19, s)
 else
  (V.sl s.Kept none (some (i64.wrap ((s.Kept.length : Int) - 1)))).bind fun l =>
  some (0, (⟨s.Y, l⟩ : T_ref13_Snap))
theorem K179 (s : T_ref13_Snap) (b : Nat) (ob : Option Nat) (cap : Nat) : VS2 Tryz.prog 75 (ref13_Snap_Commit s) [.ptr b 0] [.box b 82 [L61 s.Y.Ms, L49 s.Y.Bs, Z79 ob s.Kept cap], Q79 ob cap s.Kept] (fun r ob0_2 cap0_2=>Iw r.1) (fun r ob0_2 cap0_2=>[.box b 82 [L61 r.2.Y.Ms, L49 r.2.Y.Bs, Z79 ob0_2 r.2.Kept cap0_2], Q79 ob0_2 cap0_2 r.2.Kept]) := by
 refine Cf [.tmp 2] Tryz.func75 R R R fun r hm=>?_
 unfold ref13_Snap_Commit at hm
 refine Ae tbk [] R R<|Af<|Ai<|Aa tbk [0] 4 R R<|Ab R R (Cq T_ref13_Yard.vv R Cb)<|Ab R R (Ba R R R)<|Ac<|Ao hm R (fun h1 hm=>Ae tbk [] R R<|Rg2 hm R [0,0] ob cap (.cons (.tmp _ _ R) .nil) R R) fun h1 hm=>Am<|Af<|Be 2 mixed<|Aq tbk [0,1,2,3,5,6,7] [] (by kernel_rfl) R R R<|?_
 refine Bm [4,8] (by kernel_rfl) ⟨?_,?_,trivial⟩
 ·exact Al R R R<|A8 (Az (i:=0) R R ld80 R)<|Ah 8 (by kernel_rfl)<|Al R R R<|A8 (Az (i:=0) R R ld80 R)<|Ax 9 R R R (by kernel_rfl) (Cq T_ref13_Yard.vv R Cb)<|Ax 10 R R R (by kernel_rfl) (Ba R R R)<|Ah 11 (by kernel_rfl)<|Bd hm fun l h2 hm=>Al R R R<|Dd 1 (f:=T_ref13_Yard.vv) (l:=s.Kept) el80 R R R h2<|Aq tbk [12,13] [] (by kernel_rfl) R R R<|Ah 14 (by kernel_rfl)<|Al R R R<|An (i:=0) R R R ld80 R R R<|A0 (by kernel_rfl)<|Ae tbk [] R R<|Rg2 hm R [0,0] ob cap (.cons (.tmp _ _ R) .nil) R R
 ·exact Al R R R<|A8 (Az (i:=0) R R ld80 R)<|Ax 9 R R R (by kernel_rfl) (Cq T_ref13_Yard.vv R Cb)<|Ax 10 R R R (by kernel_rfl) (Ba R R R)<|Ah 4 (by kernel_rfl)<|Al R R R<|A8 (Az (i:=0) R R ld80 R)<|Ah 11 (by kernel_rfl)<|Bd hm fun l2 h3 hm=>Al R R R<|Dd 1 (f:=T_ref13_Yard.vv) (l:=s.Kept) el80 R R R h3<|Aq tbk [12,13] [] (by kernel_rfl) R R R<|Ah 14 (by kernel_rfl)<|Al R R R<|An (i:=0) R R R ld80 R R R<|A0 (by kernel_rfl)<|Ae tbk [] R R<|Rg2 hm R [0,0] ob cap (.cons (.tmp _ _ R) .nil) R R

/-! (*trireme/triremeref13.Snap).Revert -/
def ref13_Snap_Revert (s : T_ref13_Snap) : Option (Int × T_ref13_Snap) :=
 if ((s.Kept.length : Int) == 0) = true then
  some (19, s)
 else
  (V.gl s.Kept (i64.wrap ((s.Kept.length : Int) - 1))).bind fun x =>
  (V.sl s.Kept none (some (i64.wrap ((s.Kept.length : Int) - 1)))).bind fun l =>
  some (0, (⟨x, l⟩ : T_ref13_Snap))
theorem K180 (s : T_ref13_Snap) (b : Nat) (ob : Option Nat) (cap : Nat) : VS2 Tryz.prog 76 (ref13_Snap_Revert s) [.ptr b 0] [.box b 82 [L61 s.Y.Ms, L49 s.Y.Bs, Z79 ob s.Kept cap], Q79 ob cap s.Kept] (fun r ob0_2 cap0_2=>Iw r.1) (fun r ob0_2 cap0_2=>[.box b 82 [L61 r.2.Y.Ms, L49 r.2.Y.Bs, Z79 ob0_2 r.2.Kept cap0_2], Q79 ob0_2 cap0_2 r.2.Kept]) := by
 refine Cf [.tmp 2] Tryz.func76 R R R fun r hm=>?_
 unfold ref13_Snap_Revert at hm
 refine Ae tbk [] R R<|Af<|Ai<|Aa tbk [0] 4 R R<|Ab R R (Cq T_ref13_Yard.vv R Cb)<|Ab R R (Ba R R R)<|Ac<|Ao hm R (fun h1 hm=>Ae tbk [] R R<|Rg2 hm R [0,0] ob cap (.cons (.tmp _ _ R) .nil) R R) fun h1 hm=>Am<|Af<|Be 1 mixed<|Aq tbk [0,1,2,3,5,6,7] [] (by kernel_rfl) R R R<|?_
 refine Bm [4,8] (by kernel_rfl) ⟨?_,?_,trivial⟩
 ·refine Al R R R<|A8 (Az (i:=0) R R ld80 R)<|Ah 8 (by kernel_rfl)<|Al R R R<|A8 (Az (i:=0) R R ld80 R)<|Ax 9 R R R (by kernel_rfl) (Cq T_ref13_Yard.vv R Cb)<|Ax 10 R R R (by kernel_rfl) (Ba R R R)<|Bd hm fun x h2 hm=>VA.someRow 1 R (gl_pos T_ref13_Yard.vv h2) fun b2 h3=> ?_
  subst h3
  refine Ax 11 R R R (by kernel_rfl) (Di T_ref13_Yard.vv R R el80 h2)<|Ax 12 R R R (by kernel_rfl) (C9 (i:=0) (y:=T_ref13_Yard.vv x) R R R (gl_map _ (gl_some h2).2) ld79 R)<|Aq tbk [13,14] [] (by kernel_rfl) R R R<|Ah 15 (by kernel_rfl)<|Al R R R<|An (i:=0) R R R ld79 R R R<|A0 (by kernel_rfl)<|Af<|Be 2 mixed<|Aq tbk [0,1,2,3,5,6,7] [] (by kernel_rfl) R R R<|?_
  refine Bm [4,8] (by kernel_rfl) ⟨?_,?_,trivial⟩
  ·exact Al R R R<|A8 (Az (i:=0) R R ld80 R)<|Ah 8 (by kernel_rfl)<|Al R R R<|A8 (Az (i:=0) R R ld80 R)<|Ax 9 R R R (by kernel_rfl) (Cq T_ref13_Yard.vv R Cb)<|Ax 10 R R R (by kernel_rfl) (Ba R R R)<|Ah 11 (by kernel_rfl)<|Bd hm fun l h4 hm=>Al R R R<|Dd 1 (f:=T_ref13_Yard.vv) (l:=s.Kept) el80 R R R h4<|Aq tbk [12,13] [] (by kernel_rfl) R R R<|Ah 14 (by kernel_rfl)<|Al R R R<|An (i:=0) R R R ld80 R R R<|A0 (by kernel_rfl)<|Ae tbk [] R R<|Rg2 hm R [0,0] (some b2) cap (.cons (.tmp _ _ R) .nil) R R
  ·exact Al R R R<|A8 (Az (i:=0) R R ld80 R)<|Ax 9 R R R (by kernel_rfl) (Cq T_ref13_Yard.vv R Cb)<|Ax 10 R R R (by kernel_rfl) (Ba R R R)<|Ah 4 (by kernel_rfl)<|Al R R R<|A8 (Az (i:=0) R R ld80 R)<|Ah 11 (by kernel_rfl)<|Bd hm fun l2 h5 hm=>Al R R R<|Dd 1 (f:=T_ref13_Yard.vv) (l:=s.Kept) el80 R R R h5<|Aq tbk [12,13] [] (by kernel_rfl) R R R<|Ah 14 (by kernel_rfl)<|Al R R R<|An (i:=0) R R R ld80 R R R<|A0 (by kernel_rfl)<|Ae tbk [] R R<|Rg2 hm R [0,0] (some b2) cap (.cons (.tmp _ _ R) .nil) R R
 ·refine Al R R R<|A8 (Az (i:=0) R R ld80 R)<|Ax 9 R R R (by kernel_rfl) (Cq T_ref13_Yard.vv R Cb)<|Ax 10 R R R (by kernel_rfl) (Ba R R R)<|Ah 4 (by kernel_rfl)<|Al R R R<|A8 (Az (i:=0) R R ld80 R)<|Bd hm fun x2 h6 hm=>VA.someRow 1 R (gl_pos T_ref13_Yard.vv h6) fun b3 h7=> ?_
  subst h7
  refine Ax 11 R R R (by kernel_rfl) (Di T_ref13_Yard.vv R R el80 h6)<|Ax 12 R R R (by kernel_rfl) (C9 (i:=0) (y:=T_ref13_Yard.vv x2) R R R (gl_map _ (gl_some h6).2) ld79 R)<|Aq tbk [13,14] [] (by kernel_rfl) R R R<|Ah 15 (by kernel_rfl)<|Al R R R<|An (i:=0) R R R ld79 R R R<|A0 (by kernel_rfl)<|Af<|Be 2 mixed<|Aq tbk [0,1,2,3,5,6,7] [] (by kernel_rfl) R R R<|?_
  refine Bm [4,8] (by kernel_rfl) ⟨?_,?_,trivial⟩
  ·exact Al R R R<|A8 (Az (i:=0) R R ld80 R)<|Ah 8 (by kernel_rfl)<|Al R R R<|A8 (Az (i:=0) R R ld80 R)<|Ax 9 R R R (by kernel_rfl) (Cq T_ref13_Yard.vv R Cb)<|Ax 10 R R R (by kernel_rfl) (Ba R R R)<|Ah 11 (by kernel_rfl)<|Bd hm fun l3 h8 hm=>Al R R R<|Dd 1 (f:=T_ref13_Yard.vv) (l:=s.Kept) el80 R R R h8<|Aq tbk [12,13] [] (by kernel_rfl) R R R<|Ah 14 (by kernel_rfl)<|Al R R R<|An (i:=0) R R R ld80 R R R<|A0 (by kernel_rfl)<|Ae tbk [] R R<|Rg2 hm R [0,0] (some b3) cap (.cons (.tmp _ _ R) .nil) R R
  ·exact Al R R R<|A8 (Az (i:=0) R R ld80 R)<|Ax 9 R R R (by kernel_rfl) (Cq T_ref13_Yard.vv R Cb)<|Ax 10 R R R (by kernel_rfl) (Ba R R R)<|Ah 4 (by kernel_rfl)<|Al R R R<|A8 (Az (i:=0) R R ld80 R)<|Ah 11 (by kernel_rfl)<|Bd hm fun l4 h9 hm=>Al R R R<|Dd 1 (f:=T_ref13_Yard.vv) (l:=s.Kept) el80 R R R h9<|Aq tbk [12,13] [] (by kernel_rfl) R R R<|Ah 14 (by kernel_rfl)<|Al R R R<|An (i:=0) R R R ld80 R R R<|A0 (by kernel_rfl)<|Ae tbk [] R R<|Rg2 hm R [0,0] (some b3) cap (.cons (.tmp _ _ R) .nil) R R

/-! trireme/triremelaw13.does -/
def law13_does (r_ : T_ref13_Snap) (o : T_law13_Op) : Option (Bool × T_ref13_Snap) :=
 if (o.Kind == 0) = true then
  (snap_Snap_Add o.M).bind fun r =>
  (ref13_Snap_Add r_ o.M).bind fun r2 =>
  some ((r == r2.1), r2.2)
 else
  if (o.Kind == 1) = true then
   (snap_Snap_Drop o.Name).bind fun r3 =>
   (ref13_Snap_Drop r_ o.Name).bind fun r4 =>
   some ((r3 == r4.1), r4.2)
  else
   if (o.Kind == 2) = true then
    (snap_Snap_Put o.P_ o.Name).bind fun r5 =>
    (ref13_Snap_Put r_ o.P_ o.Name).bind fun r6 =>
    some ((r5 == r6.1), r6.2)
   else
    if (o.Kind == 3) = true then
     (snap_Snap_Take o.Name).bind fun r7 =>
     (ref13_Snap_Take r_ o.Name).bind fun r8 =>
     some ((r7 == r8.1), r8.2)
    else
     if (o.Kind == 4) = true then
      (snap_Snap_Fork).bind fun r9 =>
      (ref13_Snap_Fork r_).bind fun r10 =>
      some ((r9 == r10.1), r10.2)
     else
      if (o.Kind == 5) = true then
       (snap_Snap_Commit).bind fun r11 =>
       (ref13_Snap_Commit r_).bind fun r12 =>
       some ((r11 == r12.1), r12.2)
      else
       (snap_Snap_Revert).bind fun r13 =>
       (ref13_Snap_Revert r_).bind fun r14 =>
       some ((r13 == r14.1), r14.2)
theorem K181 (r_ : T_ref13_Snap) (o : T_law13_Op) (b : Nat) (ob : Option Nat) (cap : Nat) : VS2 Tryz.prog 32 (law13_does r_ o) [.nilptr, .ptr b 0, T_law13_Op.vv o] [.box b 82 [L61 r_.Y.Ms, L49 r_.Y.Bs, Z79 ob r_.Kept cap], Q79 ob cap r_.Kept] (fun r ob0_2 cap0_2=>.bool r.1) (fun r ob0_2 cap0_2=>[.box b 82 [L61 r.2.Y.Ms, L49 r.2.Y.Bs, Z79 ob0_2 r.2.Kept cap0_2], Q79 ob0_2 cap0_2 r.2.Kept]) := by
 refine Cf [.tmp 6] Tryz.func32 R R R fun r hm=>?_
 unfold law13_does at hm
 refine Ai<|Ad R R<|Bg R R fun b2=>Ab R R (Ak R)<|Ac<|Af<|Ae tbk [0] R R<|A2<|Ae tbk [] R R<|Ao hm R (fun h2 hm=>?_) fun h2 hm=> ?_
 ·refine Af<|Bz (Bi [1,1,0] R)<|Be 2 mixed<|Aq tbk [0,1,2,4,5,6] [0,0] (by kernel_rfl) R R R<|Ah 3 (by kernel_rfl)<|Bd hm fun r h3 hm=>Al R R R<|Au 0 R fn39 R (K51 o.M r h3) fun _ _ h6=> ?_
  obtain ⟨rfl,rfl⟩:=h6
  refine Ah 7 (by kernel_rfl)<|Bd hm fun r2 h4 hm=>Al R R R<|Au 2 R fn70 R (K171 r_ o.M b ob cap r2 h4) fun _ _ h5=> ?_
  obtain ⟨ob2,cap2,rfl,rfl⟩:=h5
  exact Aq tbk [8,9] [] (by kernel_rfl) R R R<|A0 (by kernel_rfl)<|Rg2 hm R [0,0] ob2 cap2 (.cons (.tmp _ _ R) .nil) R R
 refine Ae tbk [] R R<|Ao hm R (fun h7 hm=>?_) fun h7 hm=> ?_
 ·refine Af<|Bz (Bi [1,1,0] R)<|Be 2 mixed<|Aq tbk [0,1,2,4,5,6] [0,0] (by kernel_rfl) R R R<|Ah 3 (by kernel_rfl)<|Bd hm fun r3 h8 hm=>Al R R R<|Au 0 R fn40 R (K55 o.Name r3 h8) fun _ _ h11=> ?_
  obtain ⟨rfl,rfl⟩:=h11
  refine Ah 7 (by kernel_rfl)<|Bd hm fun r4 h9 hm=>Al R R R<|Au 2 R fn71 R (K173 r_ o.Name b ob cap r4 h9) fun _ _ h10=> ?_
  obtain ⟨ob3,cap3,rfl,rfl⟩:=h10
  exact Aq tbk [8,9] [] (by kernel_rfl) R R R<|A0 (by kernel_rfl)<|Rg2 hm R [0,0] ob3 cap3 (.cons (.tmp _ _ R) .nil) R R
 refine Ae tbk [] R R<|Ao hm R (fun h12 hm=>?_) fun h12 hm=> ?_
 ·refine Af<|Bz (Bi [1,1,0] R)<|Be 2 mixed<|Aq tbk [0,1,2,3,4,6,7,8,9,10] [0,0,0,0] (by kernel_rfl) R R R<|Ah 5 (by kernel_rfl)<|Bd hm fun r5 h13 hm=>Al R R R<|Au 0 R fn41 R (K53 o.P_ o.Name r5 h13) fun _ _ h16=> ?_
  obtain ⟨rfl,rfl⟩:=h16
  refine Ah 11 (by kernel_rfl)<|Bd hm fun r6 h14 hm=>Al R R R<|Au 2 R fn72 R (K176 r_ o.P_ o.Name b ob cap r6 h14) fun _ _ h15=> ?_
  obtain ⟨ob4,cap4,rfl,rfl⟩:=h15
  exact Aq tbk [12,13] [] (by kernel_rfl) R R R<|A0 (by kernel_rfl)<|Rg2 hm R [0,0] ob4 cap4 (.cons (.tmp _ _ R) .nil) R R
 refine Ae tbk [] R R<|Ao hm R (fun h17 hm=>?_) fun h17 hm=> ?_
 ·refine Af<|Bz (Bi [1,1,0] R)<|Be 2 mixed<|Aq tbk [0,1,2,4,5,6] [0,0] (by kernel_rfl) R R R<|Ah 3 (by kernel_rfl)<|Bd hm fun r7 h18 hm=>Al R R R<|Au 0 R fn42 R (K65 o.Name r7 h18) fun _ _ h21=> ?_
  obtain ⟨rfl,rfl⟩:=h21
  refine Ah 7 (by kernel_rfl)<|Bd hm fun r8 h19 hm=>Al R R R<|Au 2 R fn73 R (K177 r_ o.Name b ob cap r8 h19) fun _ _ h20=> ?_
  obtain ⟨ob5,cap5,rfl,rfl⟩:=h20
  exact Aq tbk [8,9] [] (by kernel_rfl) R R R<|A0 (by kernel_rfl)<|Rg2 hm R [0,0] ob5 cap5 (.cons (.tmp _ _ R) .nil) R R
 exact Ae tbk [] R R<|Ao hm R (fun h22 hm=>Ai<|Ab R R (Aj R)<|Ad R R<|Av hm 0 R fn38 R (K49) fun r9 hm=>Ab R R (Aj R)<|Bl (Bi [1,1,0] R)<|Ad R R<|B3 hm 2 R fn74 R (K178 _ _ _ _) fun r10 ob6 cap6 hm=>Aa tbk [] 2 R R<|Ac<|Rg2 hm R [0,0] ob6 cap6 (.cons (.tmp _ _ R) .nil) R R) fun h22 hm=>Ae tbk [] R R<|Ao hm R (fun h25 hm=>Ai<|Ab R R (Aj R)<|Ad R R<|Av hm 0 R fn44 R (K63) fun r11 hm=>Ab R R (Aj R)<|Bl (Bi [1,1,0] R)<|Ad R R<|B3 hm 2 R fn75 R (K179 _ _ _ _) fun r12 ob7 cap7 hm=>Aa tbk [] 2 R R<|Ac<|Rg2 hm R [0,0] ob7 cap7 (.cons (.tmp _ _ R) .nil) R R) fun h25 hm=>Am<|Ai<|Ab R R (Aj R)<|Ad R R<|Av hm 0 R fn43 R (K60) fun r13 hm=>Ab R R (Aj R)<|Bl (Bi [1,1,0] R)<|Ad R R<|B3 hm 2 R fn76 R (K180 _ _ _ _) fun r14 ob8 cap8 hm=>Aa tbk [] 2 R R<|Ac<|Rg2 hm R [0,0] ob8 cap8 (.cons (.tmp _ _ R) .nil) R R

/-! trireme/triremeref05.Same -/
def ref05_Same.l1 (a : List T_api_Label) (b : List T_api_Label) : Nat → Int → Option (Out Bool Unit)
 | 0, _ => none
 | n + 1, i2 =>
  if (decide (i2 < (a.length : Int))) = true then
   (V.gl a i2).bind fun x =>
   (V.gl b i2).bind fun x2 =>
   if (!(((x.Key == x2.Key) && ((x.Val == x2.Val) && true)) == true)) = true then
    some (Out.ret false)
   else
    ref05_Same.l1 a b n (i64.wrap (i2 + 1))
  else
   some (Out.go ())
def ref05_Same (a : List T_api_Label) (b : List T_api_Label) : Option Bool :=
 if ((a.length : Int) != (b.length : Int)) = true then
  some false
 else
  (ref05_Same.l1 a b FU (0 : Int)).bind fun o =>
  o.on fun j =>
  some true
theorem K182 (a : List T_api_Label) (b : List T_api_Label) : VS Tryz.prog 107 (ref05_Same a b) [L92 a, L92 b] [] .bool N0 := by
 refine A4 [.tmp 4] Tryz.func107 R R R fun r hm=>?_
 unfold ref05_Same at hm
 refine Ae tbk [] R R<|Af<|Ai<|Ab R R (Aj R)<|Ab R R (Aw T_api_Label.vv R Bu)<|Ab R R (Aj R)<|Ab R R (Aw T_api_Label.vv R Bu)<|Ab R R (Ba R R R)<|Ac<|Ao hm R (fun h1 hm=>Ae tbk [] R R<|Rt1 hm R [] R R R) fun h1 hm=>Am<|Af<|Ae tbk [] R R<|Bw hm (fun _ (_:Unit)=>[]) (fun _ (_:Unit)=>[]) (fun o hm h3=>?_) fun j _ hm=> ?_
 ·refine B1 (fun zn (zs:Int)=>ref05_Same.l1 a b zn zs) (fun zs (_:Unit)=>[(0,L92 a),(1,L92 b),(5,Iw zs)]) (fun _ (_:Unit)=>[]) _ () (fun _=>R) hm (Ag [] R R) fun n i2 _ hm=> ?_
  rw [ref05_Same.l1] at hm
  exact Af<|Ai<|Aa tbk [] 2 R R<|Ab R R (Aw T_api_Label.vv R Bu)<|Ab R R (Ba R R R)<|Ac<|Ao hm R (fun h4 hm=>Am<|Af<|A2<|Af<|Be 0 mixed<|Aq tbk [0,1] [] (by kernel_rfl) R R R<|Bd hm fun x h5 hm=>Ax 2 R R R (by kernel_rfl) (Bf T_api_Label.vv R R el42 h5)<|Aq tbk [3,4,5] [] (by kernel_rfl) R R R<|Bd hm fun x2 h6 hm=>Ax 6 R R R (by kernel_rfl) (Bf T_api_Label.vv R R el42 h6)<|Ax 7 R R R (by kernel_rfl) (Bt R ld92 R)<|Ax 8 R R R (by kernel_rfl) (D0 shp92 eq92 R R R R)<|A0 (by kernel_rfl)<|Ao hm R (fun h7 hm=>Ae tbk [] R R<|have hm:=Lr hm h3;Rt1 hm R [] R R R) fun h7 hm=>Am<|Bc tbk [] R R<|Ap _ () hm (Ag [] R R)) fun h4 hm=>A7<|Ar () hm (Ag [] R R)
 exact Ae tbk [] R R<|Rt1 hm R [] R R R

/-! trireme/triremeref06.Same -/
def ref06_Same.l1 (a : List T_api_Taint) (b : List T_api_Taint) : Nat → Int → Option (Out Bool Unit)
 | 0, _ => none
 | n + 1, i2 =>
  if (decide (i2 < (a.length : Int))) = true then
   (V.gl a i2).bind fun x =>
   (V.gl b i2).bind fun x2 =>
   if (!(((x.Key == x2.Key) && ((x.Val == x2.Val) && ((x.Effect == x2.Effect) && true))) == true)) = true then
    some (Out.ret false)
   else
    ref06_Same.l1 a b n (i64.wrap (i2 + 1))
  else
   some (Out.go ())
def ref06_Same (a : List T_api_Taint) (b : List T_api_Taint) : Option Bool :=
 if ((a.length : Int) != (b.length : Int)) = true then
  some false
 else
  (ref06_Same.l1 a b FU (0 : Int)).bind fun o =>
  o.on fun j =>
  some true
theorem K183 (a : List T_api_Taint) (b : List T_api_Taint) : VS Tryz.prog 108 (ref06_Same a b) [L166 a, L166 b] [] .bool N0 := by
 refine A4 [.tmp 4] Tryz.func108 R R R fun r hm=>?_
 unfold ref06_Same at hm
 refine Ae tbk [] R R<|Af<|Ai<|Ab R R (Aj R)<|Ab R R (Aw T_api_Taint.vv R Cc)<|Ab R R (Aj R)<|Ab R R (Aw T_api_Taint.vv R Cc)<|Ab R R (Ba R R R)<|Ac<|Ao hm R (fun h1 hm=>Ae tbk [] R R<|Rt1 hm R [] R R R) fun h1 hm=>Am<|Af<|Ae tbk [] R R<|Bw hm (fun _ (_:Unit)=>[]) (fun _ (_:Unit)=>[]) (fun o hm h3=>?_) fun j _ hm=> ?_
 ·refine B1 (fun zn (zs:Int)=>ref06_Same.l1 a b zn zs) (fun zs (_:Unit)=>[(0,L166 a),(1,L166 b),(5,Iw zs)]) (fun _ (_:Unit)=>[]) _ () (fun _=>R) hm (Ag [] R R) fun n i2 _ hm=> ?_
  rw [ref06_Same.l1] at hm
  exact Af<|Ai<|Aa tbk [] 2 R R<|Ab R R (Aw T_api_Taint.vv R Cc)<|Ab R R (Ba R R R)<|Ac<|Ao hm R (fun h4 hm=>Am<|Af<|A2<|Af<|Be 0 mixed<|Aq tbk [0,1] [] (by kernel_rfl) R R R<|Bd hm fun x h5 hm=>Ax 2 R R R (by kernel_rfl) (Bf T_api_Taint.vv R R el59 h5)<|Aq tbk [3,4,5] [] (by kernel_rfl) R R R<|Bd hm fun x2 h6 hm=>Ax 6 R R R (by kernel_rfl) (Bf T_api_Taint.vv R R el59 h6)<|Ax 7 R R R (by kernel_rfl) (Bt R ld166 R)<|Ax 8 R R R (by kernel_rfl) (D0 shp166 eq166 R R R R)<|A0 (by kernel_rfl)<|Ao hm R (fun h7 hm=>Ae tbk [] R R<|have hm:=Lr hm h3;Rt1 hm R [] R R R) fun h7 hm=>Am<|Bc tbk [] R R<|Ap _ () hm (Ag [] R R)) fun h4 hm=>A7<|Ar () hm (Ag [] R R)
 exact Ae tbk [] R R<|Rt1 hm R [] R R R

/-! trireme/triremeref07.SameMachine -/
def ref07_SameMachine (a : T_api_Machine) (b : T_api_Machine) : Option Bool :=
 (if ((((V.seq a.Name b.Name) && (V.seq a.Group b.Group)) && (((a.Has.Cpu == b.Has.Cpu) && ((a.Has.Mem == b.Has.Mem) && ((a.Has.Disk == b.Has.Disk) && ((a.Has.Pods == b.Has.Pods) && ((a.Has.Dev == b.Has.Dev) && true))))) == true)) && (a.Ready == b.Ready)) = true then (ref05_Same a.Labels b.Labels).bind fun r =>
 some r else some false).bind fun c =>
 (if c = true then (ref06_Same a.Taints b.Taints).bind fun r2 =>
 some r2 else some false).bind fun c2 =>
 some c2
theorem K184 (a : T_api_Machine) (b : T_api_Machine) : VS Tryz.prog 58 (ref07_SameMachine a b) [T_api_Machine.vv a, T_api_Machine.vv b] [] .bool N0 := by
 refine A4 [.tmp 4] Tryz.func58 R R R fun r hm=>?_
 unfold ref07_SameMachine at hm
 exact Ai<|Ad R R<|Bg R R fun b2=>Ad R R<|Bg R R fun b3=>Ab R R (Ak R)<|Ac<|Ai<|Aa tbk [1,0] 6 R R<|B5 tbk [1,0] 6 16 10 R R R R R<|Ab R R (Aj R)<|Db 6 23 17 R (fun h4 K' J=>Aa tbk [1,0] 4 R R<|Bb R R R R R (D0 shp41 eq41 R R R R)<|Ab R R (Bk true R R R)<|J 5 R R R) (fun K' J=>Aa tbk [] 6 R R<|J 5 R R R)<|Ab R R (Aj R)<|Db 6 30 24 R (fun h5 K' J=>Aa tbk [1,0] 4 R R<|Bb R R R R R (VP.boolop Dp R R R)<|Ab R R (Bk true R R R)<|J 5 R R R) (fun K' J=>Aa tbk [] 6 R R<|J 5 R R R)<|Ab R R (Aj R)<|Bh hm 6 37 31 R (fun _ K' h6 J hm=>Aa tbk [1,0] 4 R R<|A1 R R R R R<|Av hm 0 R fn107 R (K182 _ _) fun r hm=>Ab R R (Bk true R R R)<|J 5 R R (Bj hm)) (fun _ K' h6 J hm=>Aa tbk [] 6 R R<|J 5 R R (Bj hm)) fun c hm=>Ab R R (Aj R)<|Bh hm 6 44 38 R (fun _ K' h9 J hm=>Aa tbk [1,0] 4 R R<|A1 R R R R R<|Av hm 0 R fn108 R (K183 _ _) fun r2 hm=>Ab R R (Bk true R R R)<|J 5 R R (Bj hm)) (fun _ K' h9 J hm=>Aa tbk [] 6 R R<|J 5 R R (Bj hm)) fun c2 hm=>Ab R R (Ak R)<|Ac<|Rt1 hm R [] R R R

/-! trireme/triremeref01.Digits -/
def ref01_Digits : Nat → Int → Option ByteArray
 | 0, _ => none
 | nn + 1, n =>
  if (decide (n < 10)) = true then
   some (strOfNums [(IntKind.u8.wrap (i64.wrap (48 + n)))])
  else
   (V.quo n (10 : Int)).bind fun v =>
   (V.rem n (10 : Int)).bind fun v2 =>
   ((ref01_Digits nn) (i64.wrap v)).bind fun r =>
   (V.cat r (strOfNums [(IntKind.u8.wrap (i64.wrap (48 + v2)))])).bind fun v3 =>
   some v3
theorem K185 (nn : Nat) : ∀ (n : Int), VS Tryz.prog 154 (ref01_Digits nn n) [Iw n] [] .str N0 := by
 induction nn with
 | zero => intro n; exact VS.none (by rw [ref01_Digits])
 | succ nn ih =>
  intro n
  refine A4 [.tmp 2] Tryz.func154 R R R fun r hm=>?_
  rw [ref01_Digits] at hm
  refine Ae tbk [] R R<|Af<|Ae tbk [] R R<|Ao hm R (fun h1 hm=>Ai<|Aa tbk [] 2 R R<|Ab R R (C4 Co Cg R)<|Ad R R<|A5 ap193 R R R R R fun b=>Bl (A6 0 [(8,L5 [(IntKind.u8.wrap (IntKind.i64.wrap ((48 : Int) + n)))])] R ⟨⟨_,R,.here _ R⟩,trivial⟩ (FzH.refl _))<|Ab R R (VP.convBL (l:=[(IntKind.u8.wrap (IntKind.i64.wrap ((48 : Int) + n)))]) el193 Cg A9 R)<|Ab R R (Ak R)<|Ac<|Rt1 hm R [] R R R) fun h1 hm=>Am<|Af<|Be 0 mixed<|Ax 0 R R R (by kernel_rfl) (Aj R)<|Bd hm fun v h3 hm=>Ax 1 R R R (by kernel_rfl) (VP.quoT R R h3)<|Ax 3 R R R (by kernel_rfl) (Aj R)<|Bd hm fun v2 h4 hm=>Ax 4 R R R (by kernel_rfl) (VP.remT R R h4)<|Ax 5 R R R (by kernel_rfl) (Ba R R R)<|Ax 6 R R R (by kernel_rfl) (C4 Co Cg R)<|?_
  refine Bm [2,7] (by kernel_rfl) ⟨?_,?_,trivial⟩
  ·refine Bd hm fun r h5 hm=>Al R R R<|Au 0 R fn154 R (ih (IntKind.i64.wrap v) r h5) fun _ _ h8=> ?_
   obtain ⟨rfl,rfl⟩:=h8
   exact Ah 7 (by kernel_rfl)<|Al R R R<|A5 ap193 R R R R R fun b2=>Ck (A6 0 [(17,L5 [(IntKind.u8.wrap (IntKind.i64.wrap ((48 : Int) + v2)))])] R ⟨⟨_,R,.here _ R⟩,trivial⟩ (FzH.refl _))<|Ax 8 R R R (by kernel_rfl) (VP.convBL (l:=[(IntKind.u8.wrap (IntKind.i64.wrap ((48 : Int) + v2)))]) el193 Cg A9 R)<|Bd hm fun v3 h7 hm=>Ax 9 R R R (by kernel_rfl) (Bv R R h7)<|Ax 10 R R R (by kernel_rfl) (Ak R)<|A0 (by kernel_rfl)<|Rt1 hm R [] R R R
  ·refine Al R R R<|A5 ap193 R R R R R fun b3=>Ck (A6 0 [(17,L5 [(IntKind.u8.wrap (IntKind.i64.wrap ((48 : Int) + v2)))])] R ⟨⟨_,R,.here _ R⟩,trivial⟩ (FzH.refl _))<|Ax 8 R R R (by kernel_rfl) (VP.convBL (l:=[(IntKind.u8.wrap (IntKind.i64.wrap ((48 : Int) + v2)))]) el193 Cg A9 R)<|Ah 2 (by kernel_rfl)<|Bd hm fun r2 h10 hm=>Al R R R<|Au 0 R fn154 R (ih (IntKind.i64.wrap v) r2 h10) fun _ _ h12=> ?_
   obtain ⟨rfl,rfl⟩:=h12
   exact Bd hm fun v4 h11 hm=>Ax 9 R R R (by kernel_rfl) (Bv R R h11)<|Ax 10 R R R (by kernel_rfl) (Ak R)<|A0 (by kernel_rfl)<|Rt1 hm R [] R R R

/-! trireme/triremeref03.ShowMilli -/
def ref03_ShowMilli (n : Int) : Option ByteArray :=
 if ((decide (n < 0)) || (decide (n > 1125899906842624))) = true then
  some (⟨#[]⟩ : ByteArray)
 else
  (V.rem n (1000 : Int)).bind fun v =>
  if (v == 0) = true then
   (V.quo n (1000 : Int)).bind fun v2 =>
   (ref01_Digits FU (i64.wrap v2)).bind fun r =>
   some r
  else
   (ref01_Digits FU n).bind fun r2 =>
   (V.cat r2 (⟨#[109]⟩ : ByteArray)).bind fun v3 =>
   some v3
theorem K186 (n : Int) : VS Tryz.prog 152 (ref03_ShowMilli n) [Iw n] [] .str N0 := by
 refine A4 [.tmp 2] Tryz.func152 R R R fun r hm=>?_
 unfold ref03_ShowMilli at hm
 exact Ae tbk [] R R<|Af<|Ai<|Aa tbk [] 3 R R<|Cr tbk [] 3 8 5 R R R R R<|Ac<|Ao hm R (fun h2 hm=>Ae tbk [] R R<|Rt1 hm R [] R R R) fun h2 hm=>Am<|Af<|Ai<|Ab R R (Aj R)<|Bd hm fun v h3 hm=>Ab R R (VP.remT R R h3)<|Ab R R (Ba R R R)<|Ac<|Ao hm R (fun h4 hm=>Ai<|Ab R R (Aj R)<|Bd hm fun v2 h5 hm=>Ab R R (VP.quoT R R h5)<|Ad R R<|Av hm 0 R fn154 R (K185 FU _) fun r hm=>Ab R R (Ak R)<|Ac<|Rt1 hm R [] R R R) fun h4 hm=>Am<|Ai<|Ab R R (Aj R)<|Ad R R<|Av hm 0 R fn154 R (K185 FU _) fun r2 hm=>Bd hm fun v3 h8 hm=>Ab R R (Bv R R h8)<|Ab R R (Ak R)<|Ac<|Rt1 hm R [] R R R

/-! trireme/triremeref03.Show -/
def ref03_Show.l1 (n : Int) : Nat → Int → Option (Out ByteArray Unit)
 | 0, _ => none
 | n2 + 1, i2 =>
  if (decide (i2 < 4)) = true then
   (V.shl .i64 1 (IntKind.u64.wrap (i64.wrap (40 - (i64.wrap (10 * i2)))))).bind fun v =>
   (if (decide (n > 0)) = true then (V.rem n v).bind fun v2 =>
   some (v2 == 0) else some false).bind fun c =>
   if c = true then
    (V.quo n v).bind fun v3 =>
    (V.gl [(⟨#[84, 105]⟩ : ByteArray), (⟨#[71, 105]⟩ : ByteArray), (⟨#[77, 105]⟩ : ByteArray), (⟨#[75, 105]⟩ : ByteArray)] i2).bind fun x =>
    (ref01_Digits FU (i64.wrap v3)).bind fun r =>
    (V.cat r x).bind fun v4 =>
    some (Out.ret v4)
   else
    ref03_Show.l1 n n2 (i64.wrap (i2 + 1))
  else
   some (Out.go ())
def ref03_Show (n : Int) : Option ByteArray :=
 if ((decide (n < 0)) || (decide (n > 1125899906842624))) = true then
  some (⟨#[]⟩ : ByteArray)
 else
  (ref03_Show.l1 n FU (0 : Int)).bind fun o =>
  o.on fun j =>
  (ref01_Digits FU n).bind fun r2 =>
  some r2
theorem K187 (n : Int) : VS Tryz.prog 153 (ref03_Show n) [Iw n] [] .str N0 := by
 refine A4 [.tmp 2] Tryz.func153 R R R fun r hm=>?_
 unfold ref03_Show at hm
 refine Ae tbk [] R R<|Af<|Ai<|Aa tbk [] 3 R R<|Cr tbk [] 3 11 8 R R R R R<|Ac<|Ao hm R (fun h2 hm=>Ae tbk [] R R<|Rt1 hm R [] R R R) fun h2 hm=>Am<|Ai<|Ad R R<|A5 ap25 R R R R R fun b=>Bl (A6 0 [(12,L9 [(⟨#[84,105]⟩ : ByteArray),(⟨#[71,105]⟩ : ByteArray),(⟨#[77,105]⟩ : ByteArray),(⟨#[75,105]⟩ : ByteArray)])] R ⟨⟨_,R,.here _ R⟩,trivial⟩ (FzH.refl _))<|Ab R R (Ak R)<|Ac<|Af<|Ae tbk [] R R<|Bw hm (fun _ (_:Unit)=>[(0,Iw n)]) (fun _ (_:Unit)=>[]) (fun o hm h5=>?_) fun j _ hm=> ?_
 ·refine B1 (fun zn (zs:Int)=>ref03_Show.l1 n zn zs) (fun zs (_:Unit)=>[(0,Iw n),(3,L9 [(⟨#[84,105]⟩ : ByteArray),(⟨#[71,105]⟩ : ByteArray),(⟨#[77,105]⟩ : ByteArray),(⟨#[75,105]⟩ : ByteArray)]),(4,Iw zs)]) (fun _ (_:Unit)=>[]) _ () (fun _=>R) hm (Ag [] R R) fun n2 i2 _ hm=> ?_
  rw [ref03_Show.l1] at hm
  refine Af<|Ae tbk [] R R<|Ao hm R (fun h6 hm=>?_) fun h6 hm=> ?_
  ·refine Am<|Af<|A2<|Ai<|Aa tbk [] 3 R R<|Ab R R (C4 Co Tryz.underlying192 R)<|Bd hm fun v h7 hm=>Ab R R (VP.shlT R R h7)<|Ab R R (Ak R)<|Ac<|Ai<|Aa tbk [] 3 R R<|Bh hm 5 29 24 R (fun _ K' h8 J hm=>Aa tbk [] 2 R R<|Bd hm fun v2 h9 hm=>Bb R R R R R (VP.remT R R h9)<|Aa tbk [] 2 R R<|J 4 R R (Bj hm)) (fun _ K' h8 J hm=>Aa tbk [] 5 R R<|J 4 R R (Bj hm)) fun c hm=>Ac<|Ao hm R (fun h11 hm=>?_) fun h11 hm=> ?_
   ·refine Af<|Be 0 mixed<|Aq tbk [0,1] [] (by kernel_rfl) R R R<|Bd hm fun v3 h12 hm=>Ax 2 R R R (by kernel_rfl) (VP.quoT R R h12)<|Aq tbk [4,5] [] (by kernel_rfl) R R R<|Bd hm fun x h13 hm=>Ax 6 R R R (by kernel_rfl) (Bf VV.str R R el25 h13)<|Ax 7 R R R (by kernel_rfl) (Bt R ld9 R)<|Ah 3 (by kernel_rfl)<|Bd hm fun r h14 hm=>Al R R R<|Au 0 R fn154 R (K185 FU (IntKind.i64.wrap v3) r h14) fun _ _ h16=> ?_
    obtain ⟨rfl,rfl⟩:=h16
    exact Bd hm fun v4 h15 hm=>Ax 8 R R R (by kernel_rfl) (Bv R R h15)<|Ax 9 R R R (by kernel_rfl) (Ak R)<|A0 (by kernel_rfl)<|have hm:=Lr hm h5;Rt1 hm R [] R R R
   exact Am<|Bc tbk [] R R<|Ap _ () hm (Ag [] R R)
  exact A7<|Ar () hm (Ag [] R R)
 exact Ai<|Ab R R (Aj R)<|Ad R R<|Av hm 0 R fn154 R (K185 FU _) fun r2 hm=>Ab R R (Ak R)<|Ac<|Rt1 hm R [] R R R

/-! trireme/triremeref07.atom -/
def ref07_atom (s : ByteArray) : Option ByteArray :=
 if (V.seq s (⟨#[]⟩ : ByteArray)) = true then
  some (⟨#[34, 34]⟩ : ByteArray)
 else
  some s
theorem K188 (s : ByteArray) : VS Tryz.prog 157 (ref07_atom s) [.str s] [] .str N0 := by
 refine A4 [.tmp 2] Tryz.func157 R R R fun r hm=>?_
 unfold ref07_atom at hm
 exact Ae tbk [] R R<|Af<|Ae tbk [] R R<|Ao hm R (fun h1 hm=>Ae tbk [] R R<|Rt1 hm R [] R R R) fun h1 hm=>Am<|Ae tbk [] R R<|Rt1 hm R [] R R R

/-! trireme/triremeref07.pairs -/
def ref07_pairs.l1 (name : ByteArray) (l : List T_api_Label) : Nat → ByteArray → Int → Option ByteArray
 | 0, _, _ => none
 | n + 1, s2, i2 =>
  if (decide (i2 < (l.length : Int))) = true then
   (V.cat s2 (⟨#[32, 40]⟩ : ByteArray)).bind fun v =>
   (V.cat v name).bind fun v2 =>
   (V.cat v2 (⟨#[32]⟩ : ByteArray)).bind fun v3 =>
   (V.gl l i2).bind fun x =>
   (V.cat v3 x.Key).bind fun v4 =>
   (V.cat v4 (⟨#[32]⟩ : ByteArray)).bind fun v5 =>
   (V.gl l i2).bind fun x2 =>
   (ref07_atom x2.Val).bind fun r =>
   (V.cat v5 r).bind fun v6 =>
   (V.cat v6 (⟨#[41]⟩ : ByteArray)).bind fun v7 =>
   ref07_pairs.l1 name l n v7 (i64.wrap (i2 + 1))
  else
   some s2
def ref07_pairs (name : ByteArray) (l : List T_api_Label) : Option ByteArray :=
 (ref07_pairs.l1 name l FU (⟨#[]⟩ : ByteArray) (0 : Int)).bind fun s32 =>
 some s32
theorem K189 (name : ByteArray) (l : List T_api_Label) : VS Tryz.prog 155 (ref07_pairs name l) [.str name, L92 l] [] .str N0 := by
 refine A4 [.tmp 4] Tryz.func155 R R R fun r hm=>?_
 unfold ref07_pairs at hm
 refine Ae tbk [] R R<|Ae tbk [] R R<|Af<|Ae tbk [] R R<|Cn hm (fun s32 (_:Unit)=>[(5,.str s32)]) (fun _ (_:Unit)=>[]) (fun o hm=>?_) fun s32 _ hm=> ?_
 ·refine B1 (fun zn (zs:ByteArray × Int)=>ref07_pairs.l1 name l zn zs.1 zs.2) (fun zs (_:Unit)=>[(0,.str name),(1,L92 l),(5,.str zs.1),(6,Iw zs.2)]) (fun _ (_:Unit)=>[]) ((⟨#[]⟩ : ByteArray),(0 : Int)) () (fun _=>R) hm (Ag [] R R) fun n=>Pq fun s2 i2 _ hm=> ?_
  rw [ref07_pairs.l1] at hm
  refine Af<|Ai<|Aa tbk [] 2 R R<|Ab R R (Aw T_api_Label.vv R Bu)<|Ab R R (Ba R R R)<|Ac<|Ao hm R (fun h3 hm=>?_) fun h3 hm=> ?_
  ·refine Am<|Af<|A2<|Be 0 mixed<|Ax 0 R R R (by kernel_rfl) (Aj R)<|Bd hm fun v h4 hm=>Ax 1 R R R (by kernel_rfl) (Bv R R h4)<|Ax 2 R R R (by kernel_rfl) (Aj R)<|Bd hm fun v2 h5 hm=>Ax 3 R R R (by kernel_rfl) (Bv R R h5)<|Bd hm fun v3 h6 hm=>Ax 4 R R R (by kernel_rfl) (Bv R R h6)<|Aq tbk [5,6] [] (by kernel_rfl) R R R<|Bd hm fun x h7 hm=>Ax 7 R R R (by kernel_rfl) (Bf T_api_Label.vv R R el42 h7)<|Aq tbk [8,9] [] (by kernel_rfl) R R R<|Bd hm fun v4 h8 hm=>Ax 10 R R R (by kernel_rfl) (Bv R R h8)<|Bd hm fun v5 h9 hm=>Ax 11 R R R (by kernel_rfl) (Bv R R h9)<|Aq tbk [12,13] [] (by kernel_rfl) R R R<|Bd hm fun x2 h10 hm=>Ax 14 R R R (by kernel_rfl) (Bf T_api_Label.vv R R el42 h10)<|Aq tbk [15,16] [] (by kernel_rfl) R R R<|Ah 17 (by kernel_rfl)<|Bd hm fun r h11 hm=>Al R R R<|Au 0 R fn157 R (K188 x2.Val r h11) fun _ _ h14=> ?_
   obtain ⟨rfl,rfl⟩:=h14
   exact Bd hm fun v6 h12 hm=>Ax 18 R R R (by kernel_rfl) (Bv R R h12)<|Bd hm fun v7 h13 hm=>Ax 19 R R R (by kernel_rfl) (Bv R R h13)<|Ax 20 R R R (by kernel_rfl) (Ak R)<|A0 (by kernel_rfl)<|Bc tbk [] R R<|Ap (v7,(IntKind.i64.wrap (i2 + (1 : Int)))) () hm (Ag [] R R)
  exact A7<|As () hm (Ag [] R R)
 exact Ae tbk [] R R<|Rt1 hm R [] R R R

/-! trireme/triremeref07.ops -/
def ref07_ops : Option (List ByteArray) :=
 some [(⟨#[]⟩ : ByteArray), (⟨#[105, 110]⟩ : ByteArray), (⟨#[110, 111, 116, 105, 110]⟩ : ByteArray), (⟨#[101, 120, 105, 115, 116, 115]⟩ : ByteArray), (⟨#[109, 105, 115, 115, 105, 110, 103]⟩ : ByteArray), (⟨#[97, 98, 111, 118, 101]⟩ : ByteArray), (⟨#[98, 101, 108, 111, 119]⟩ : ByteArray)]
theorem K190 : VS Tryz.prog 156 (ref07_ops) [] [] (fun r=>L9 r) N0 := by
 refine A4 [.tmp 0] Tryz.func156 R R R fun r hm=>?_
 unfold ref07_ops at hm
 exact Ae tbk [] R R<|Ai<|Ad R R<|A5 ap25 R R R R R fun b=>Bl (A6 0 [(1,L9 [(⟨#[]⟩ : ByteArray),(⟨#[105,110]⟩ : ByteArray),(⟨#[110,111,116,105,110]⟩ : ByteArray),(⟨#[101,120,105,115,116,115]⟩ : ByteArray),(⟨#[109,105,115,115,105,110,103]⟩ : ByteArray),(⟨#[97,98,111,118,101]⟩ : ByteArray),(⟨#[98,101,108,111,119]⟩ : ByteArray)])] R ⟨⟨_,R,.here _ R⟩,trivial⟩ (FzH.refl _))<|Ab R R (Ak R)<|Ac<|Rt1 hm R [] R R R

/-! trireme/triremeref07.effects -/
def ref07_effects : Option (List ByteArray) :=
 some [(⟨#[97, 110, 121]⟩ : ByteArray), (⟨#[110, 111]⟩ : ByteArray), (⟨#[112, 114, 101, 102, 101, 114]⟩ : ByteArray), (⟨#[111, 117, 116]⟩ : ByteArray)]
theorem K191 : VS Tryz.prog 158 (ref07_effects) [] [] (fun r=>L9 r) N0 := by
 refine A4 [.tmp 0] Tryz.func158 R R R fun r hm=>?_
 unfold ref07_effects at hm
 exact Ae tbk [] R R<|Ai<|Ad R R<|A5 ap25 R R R R R fun b=>Bl (A6 0 [(1,L9 [(⟨#[97,110,121]⟩ : ByteArray),(⟨#[110,111]⟩ : ByteArray),(⟨#[112,114,101,102,101,114]⟩ : ByteArray),(⟨#[111,117,116]⟩ : ByteArray)])] R ⟨⟨_,R,.here _ R⟩,trivial⟩ (FzH.refl _))<|Ab R R (Ak R)<|Ac<|Rt1 hm R [] R R R

/-! trireme/triremeref07.number -/
def ref07_number (name : ByteArray) (n : Int) : Option ByteArray :=
 if (n == 0) = true then
  some (⟨#[]⟩ : ByteArray)
 else
  (V.cat (⟨#[32, 40]⟩ : ByteArray) name).bind fun v =>
  (V.cat v (⟨#[32]⟩ : ByteArray)).bind fun v2 =>
  (ref01_Digits FU n).bind fun r =>
  (V.cat v2 r).bind fun v3 =>
  (V.cat v3 (⟨#[41]⟩ : ByteArray)).bind fun v4 =>
  some v4
theorem K192 (name : ByteArray) (n : Int) : VS Tryz.prog 159 (ref07_number name n) [.str name, Iw n] [] .str N0 := by
 refine A4 [.tmp 4] Tryz.func159 R R R fun r hm=>?_
 unfold ref07_number at hm
 exact Ae tbk [] R R<|Af<|Ae tbk [] R R<|Ao hm R (fun h1 hm=>Ae tbk [] R R<|Rt1 hm R [] R R R) fun h1 hm=>Am<|Ai<|Ab R R (Aj R)<|Bd hm fun v h2 hm=>Ab R R (Bv R R h2)<|Bd hm fun v2 h3 hm=>Ab R R (Bv R R h3)<|Ab R R (Aj R)<|Ad R R<|Av hm 0 R fn154 R (K185 FU _) fun r hm=>Bd hm fun v3 h5 hm=>Ab R R (Bv R R h5)<|Bd hm fun v4 h6 hm=>Ab R R (Bv R R h6)<|Ab R R (Ak R)<|Ac<|Rt1 hm R [] R R R

/-! trireme/triremeref07.flag -/
def ref07_flag (name : ByteArray) (is : Bool) : Option ByteArray :=
 if is = true then
  (V.cat (⟨#[32]⟩ : ByteArray) name).bind fun v =>
  some v
 else
  some (⟨#[]⟩ : ByteArray)
theorem K193 (name : ByteArray) (is : Bool) : VS Tryz.prog 160 (ref07_flag name is) [.str name, .bool is] [] .str N0 := by
 refine A4 [.tmp 4] Tryz.func160 R R R fun r hm=>?_
 unfold ref07_flag at hm
 exact Ae tbk [] R R<|Af<|Ae tbk [] R R<|Ao hm R (fun h1 hm=>Ai<|Ab R R (Aj R)<|Bd hm fun v h2 hm=>Ab R R (Bv R R h2)<|Ab R R (Ak R)<|Ac<|Rt1 hm R [] R R R) fun h1 hm=>Am<|Ae tbk [] R R<|Rt1 hm R [] R R R

/-! trireme/triremeref07.ShowPod -/
def ref07_ShowPod.l2 (x : T_api_Term) : Nat → ByteArray → Int → Option ByteArray
 | 0, _, _ => none
 | n2 + 1, s5, k2 =>
  if (decide (k2 < (x.Vals.length : Int))) = true then
   (V.cat s5 (⟨#[32]⟩ : ByteArray)).bind fun v18 =>
   (V.gl x.Vals k2).bind fun x3 =>
   (ref07_atom x3).bind fun r10 =>
   (V.cat v18 r10).bind fun v19 =>
   ref07_ShowPod.l2 x n2 v19 (i64.wrap (k2 + 1))
  else
   some s5
def ref07_ShowPod.l1 (p : T_api_Pod) : Nat → ByteArray → Int → Option ByteArray
 | 0, _, _ => none
 | n + 1, s2, i2 =>
  if (decide (i2 < (p.Terms.length : Int))) = true then
   (V.gl p.Terms i2).bind fun x =>
   (V.cat s2 (⟨#[32, 40, 116, 101, 114, 109, 32]⟩ : ByteArray)).bind fun v14 =>
   (V.cat v14 x.Key).bind fun v15 =>
   (V.cat v15 (⟨#[32]⟩ : ByteArray)).bind fun v16 =>
   (ref07_ops).bind fun r9 =>
   (V.gl r9 x.Op).bind fun x2 =>
   (V.cat v16 x2).bind fun v17 =>
   (ref07_ShowPod.l2 x FU v17 (0 : Int)).bind fun s62 =>
   (V.cat s62 (⟨#[41]⟩ : ByteArray)).bind fun v20 =>
   ref07_ShowPod.l1 p n v20 (i64.wrap (i2 + 1))
  else
   some s2
def ref07_ShowPod.l3 (p : T_api_Pod) : Nat → ByteArray → Int → Option ByteArray
 | 0, _, _ => none
 | n3 + 1, s8, i4 =>
  if (decide (i4 < (p.Bears.length : Int))) = true then
   (V.gl p.Bears i4).bind fun x4 =>
   if x4.Any = true then
    (V.cat s8 (⟨#[32, 40, 98, 101, 97, 114, 97, 110, 121, 32]⟩ : ByteArray)).bind fun v21 =>
    (ref07_atom x4.Key).bind fun r11 =>
    (V.cat v21 r11).bind fun v22 =>
    (V.cat v22 (⟨#[32]⟩ : ByteArray)).bind fun v23 =>
    (ref07_effects).bind fun r12 =>
    (V.gl r12 x4.Effect).bind fun x5 =>
    (V.cat v23 x5).bind fun v24 =>
    (V.cat v24 (⟨#[41]⟩ : ByteArray)).bind fun v25 =>
    ref07_ShowPod.l3 p n3 v25 (i64.wrap (i4 + 1))
   else
    (V.cat s8 (⟨#[32, 40, 98, 101, 97, 114, 32]⟩ : ByteArray)).bind fun v26 =>
    (ref07_atom x4.Key).bind fun r13 =>
    (V.cat v26 r13).bind fun v27 =>
    (V.cat v27 (⟨#[32]⟩ : ByteArray)).bind fun v28 =>
    (ref07_atom x4.Val).bind fun r14 =>
    (V.cat v28 r14).bind fun v29 =>
    (V.cat v29 (⟨#[32]⟩ : ByteArray)).bind fun v30 =>
    (ref07_effects).bind fun r15 =>
    (V.gl r15 x4.Effect).bind fun x6 =>
    (V.cat v30 x6).bind fun v31 =>
    (V.cat v31 (⟨#[41]⟩ : ByteArray)).bind fun v32 =>
    ref07_ShowPod.l3 p n3 v32 (i64.wrap (i4 + 1))
  else
   some s8
def ref07_ShowPod.l4 (p : T_api_Pod) : Nat → ByteArray → Int → Option ByteArray
 | 0, _, _ => none
 | n4 + 1, s11, i6 =>
  if (decide (i6 < (p.Ports.length : Int))) = true then
   (V.gl p.Ports i6).bind fun x7 =>
   (ref07_number (⟨#[112, 111, 114, 116]⟩ : ByteArray) x7).bind fun r16 =>
   (V.cat s11 r16).bind fun v33 =>
   ref07_ShowPod.l4 p n4 v33 (i64.wrap (i6 + 1))
  else
   some s11
def ref07_ShowPod (p : T_api_Pod) : Option ByteArray :=
 (ref07_RightPod p).bind fun r =>
 if (!r) = true then
  some (⟨#[]⟩ : ByteArray)
 else
  (V.cat (⟨#[40, 112, 111, 100, 32]⟩ : ByteArray) p.Name).bind fun v =>
  (V.cat v (⟨#[32, 40, 110, 101, 101, 100, 32]⟩ : ByteArray)).bind fun v2 =>
  (ref03_ShowMilli p.Need.Cpu).bind fun r2 =>
  (V.cat v2 r2).bind fun v3 =>
  (V.cat v3 (⟨#[32]⟩ : ByteArray)).bind fun v4 =>
  (ref03_Show p.Need.Mem).bind fun r3 =>
  (V.cat v4 r3).bind fun v5 =>
  (V.cat v5 (⟨#[32]⟩ : ByteArray)).bind fun v6 =>
  (ref03_Show p.Need.Disk).bind fun r4 =>
  (V.cat v6 r4).bind fun v7 =>
  (V.cat v7 (⟨#[32]⟩ : ByteArray)).bind fun v8 =>
  (ref01_Digits FU p.Need.Dev).bind fun r5 =>
  (V.cat v8 r5).bind fun v9 =>
  (V.cat v9 (⟨#[41]⟩ : ByteArray)).bind fun v10 =>
  (ref07_pairs (⟨#[108, 97, 98, 101, 108]⟩ : ByteArray) p.Labels).bind fun r6 =>
  (V.cat v10 r6).bind fun v11 =>
  (ref07_pairs (⟨#[115, 101, 108, 101, 99, 116]⟩ : ByteArray) p.Select).bind fun r7 =>
  (V.cat v11 r7).bind fun v12 =>
  (ref07_pairs (⟨#[97, 112, 97, 114, 116]⟩ : ByteArray) p.Apart).bind fun r8 =>
  (V.cat v12 r8).bind fun v13 =>
  (ref07_ShowPod.l1 p FU v13 (0 : Int)).bind fun s32 =>
  (ref07_ShowPod.l3 p FU s32 (0 : Int)).bind fun s92 =>
  (ref07_ShowPod.l4 p FU s92 (0 : Int)).bind fun s122 =>
  (ref07_number (⟨#[115, 112, 114, 101, 97, 100]⟩ : ByteArray) p.Skew).bind fun r17 =>
  (V.cat s122 r17).bind fun v34 =>
  (ref07_pairs (⟨#[111, 118, 101, 114]⟩ : ByteArray) p.Spread).bind fun r18 =>
  (V.cat v34 r18).bind fun v35 =>
  (ref07_number (⟨#[114, 97, 110, 107]⟩ : ByteArray) p.Rank).bind fun r19 =>
  (V.cat v35 r19).bind fun v36 =>
  if (!(V.seq p.Owner (⟨#[]⟩ : ByteArray))) = true then
   (V.cat v36 (⟨#[32, 40, 111, 119, 110, 101, 114, 32]⟩ : ByteArray)).bind fun v37 =>
   (V.cat v37 p.Owner).bind fun v38 =>
   (V.cat v38 (⟨#[41]⟩ : ByteArray)).bind fun v39 =>
   (ref07_flag (⟨#[119, 105, 100, 101]⟩ : ByteArray) p.Wide).bind fun r20 =>
   (V.cat v39 r20).bind fun v40 =>
   (ref07_flag (⟨#[100, 97, 101, 109, 111, 110]⟩ : ByteArray) p.Daemon).bind fun r21 =>
   (V.cat v40 r21).bind fun v41 =>
   (ref07_flag (⟨#[112, 105, 110, 110, 101, 100]⟩ : ByteArray) p.Pinned).bind fun r22 =>
   (V.cat v41 r22).bind fun v42 =>
   (ref07_flag (⟨#[108, 111, 99, 97, 108]⟩ : ByteArray) p.Local).bind fun r23 =>
   (V.cat v42 r23).bind fun v43 =>
   (V.cat v43 (⟨#[41]⟩ : ByteArray)).bind fun v44 =>
   some v44
  else
   (ref07_flag (⟨#[119, 105, 100, 101]⟩ : ByteArray) p.Wide).bind fun r24 =>
   (V.cat v36 r24).bind fun v45 =>
   (ref07_flag (⟨#[100, 97, 101, 109, 111, 110]⟩ : ByteArray) p.Daemon).bind fun r25 =>
   (V.cat v45 r25).bind fun v46 =>
   (ref07_flag (⟨#[112, 105, 110, 110, 101, 100]⟩ : ByteArray) p.Pinned).bind fun r26 =>
   (V.cat v46 r26).bind fun v47 =>
   (ref07_flag (⟨#[108, 111, 99, 97, 108]⟩ : ByteArray) p.Local).bind fun r27 =>
   (V.cat v47 r27).bind fun v48 =>
   (V.cat v48 (⟨#[41]⟩ : ByteArray)).bind fun v49 =>
   some v49
theorem K194 (p : T_api_Pod) : VS Tryz.prog 109 (ref07_ShowPod p) [T_api_Pod.vv p] [] .str N0 := by
 refine A4 [.tmp 2] Tryz.func109 R R R fun r hm=>?_
 unfold ref07_ShowPod at hm
 refine Ai<|Ad R R<|Bg R R fun b=>Ab R R (Ak R)<|Ac<|Af<|Ai<|Aa tbk [0] 1 R R<|Ad R R<|Av hm 0 R fn61 R (K165 _) fun r hm=>Ab R R (B6 R)<|Ac<|Ao hm R (fun h3 hm=>Ae tbk [] R R<|Rt1 hm R [] R R R) fun h3 hm=>Am<|Af<|Be 0 mixed<|Aq tbk [0,1] [0] (by kernel_rfl) R R R<|Bd hm fun v h4 hm=>Ax 2 R R R (by kernel_rfl) (Bv R R h4)<|Bd hm fun v2 h5 hm=>Ax 3 R R R (by kernel_rfl) (Bv R R h5)<|Aq tbk [4,5,6,10,11,12,16,17,18,22,23,24] [0,0,0,0] (by kernel_rfl) R R R<|Ah 7 (by kernel_rfl)<|Bd hm fun r2 h6 hm=>Al R R R<|Au 0 R fn152 R (K186 p.Need.Cpu r2 h6) fun _ _ h125=> ?_
 obtain ⟨rfl,rfl⟩:=h125
 refine Bd hm fun v3 h7 hm=>Ax 8 R R R (by kernel_rfl) (Bv R R h7)<|Bd hm fun v4 h8 hm=>Ax 9 R R R (by kernel_rfl) (Bv R R h8)<|Ah 13 (by kernel_rfl)<|Bd hm fun r3 h9 hm=>Al R R R<|Au 0 R fn153 R (K187 p.Need.Mem r3 h9) fun _ _ h124=> ?_
 obtain ⟨rfl,rfl⟩:=h124
 refine Bd hm fun v5 h10 hm=>Ax 14 R R R (by kernel_rfl) (Bv R R h10)<|Bd hm fun v6 h11 hm=>Ax 15 R R R (by kernel_rfl) (Bv R R h11)<|Ah 19 (by kernel_rfl)<|Bd hm fun r4 h12 hm=>Al R R R<|Au 0 R fn153 R (K187 p.Need.Disk r4 h12) fun _ _ h123=> ?_
 obtain ⟨rfl,rfl⟩:=h123
 refine Bd hm fun v7 h13 hm=>Ax 20 R R R (by kernel_rfl) (Bv R R h13)<|Bd hm fun v8 h14 hm=>Ax 21 R R R (by kernel_rfl) (Bv R R h14)<|Ah 25 (by kernel_rfl)<|Bd hm fun r5 h15 hm=>Al R R R<|Au 0 R fn154 R (K185 FU p.Need.Dev r5 h15) fun _ _ h122=> ?_
 obtain ⟨rfl,rfl⟩:=h122
 refine Bd hm fun v9 h16 hm=>Ax 26 R R R (by kernel_rfl) (Bv R R h16)<|Bd hm fun v10 h17 hm=>Ax 27 R R R (by kernel_rfl) (Bv R R h17)<|Ax 28 R R R (by kernel_rfl) (Ak R)<|A0 (by kernel_rfl)<|Af<|Be 0 mixed<|Aq tbk [0,1,2,5,6,9,10] [0,0,0] (by kernel_rfl) R R R<|Ah 3 (by kernel_rfl)<|Bd hm fun r6 h18 hm=>Al R R R<|Au 0 R fn155 R (K189 (⟨#[108,97,98,101,108]⟩ : ByteArray) p.Labels r6 h18) fun _ _ h121=> ?_
 obtain ⟨rfl,rfl⟩:=h121
 refine Bd hm fun v11 h19 hm=>Ax 4 R R R (by kernel_rfl) (Bv R R h19)<|Ah 7 (by kernel_rfl)<|Bd hm fun r7 h20 hm=>Al R R R<|Au 0 R fn155 R (K189 (⟨#[115,101,108,101,99,116]⟩ : ByteArray) p.Select r7 h20) fun _ _ h120=> ?_
 obtain ⟨rfl,rfl⟩:=h120
 refine Bd hm fun v12 h21 hm=>Ax 8 R R R (by kernel_rfl) (Bv R R h21)<|Ah 11 (by kernel_rfl)<|Bd hm fun r8 h22 hm=>Al R R R<|Au 0 R fn155 R (K189 (⟨#[97,112,97,114,116]⟩ : ByteArray) p.Apart r8 h22) fun _ _ h119=> ?_
 obtain ⟨rfl,rfl⟩:=h119
 refine Bd hm fun v13 h23 hm=>Ax 12 R R R (by kernel_rfl) (Bv R R h23)<|Ax 13 R R R (by kernel_rfl) (Ak R)<|A0 (by kernel_rfl)<|Af<|Ae tbk [] R R<|Cn hm (fun s32 (_:Unit)=>[(1,.ptr b 0),(3,.str s32)]) (fun _ (_:Unit)=>[X47 b p]) (fun o hm=>?_) fun s32 _ hm=> ?_
 ·refine B1 (fun zn (zs:ByteArray × Int)=>ref07_ShowPod.l1 p zn zs.1 zs.2) (fun zs (_:Unit)=>[(1,.ptr b 0),(3,.str zs.1),(4,Iw zs.2)]) (fun _ (_:Unit)=>[X47 b p]) (v13,(0 : Int)) () (fun _=>R) hm (Ag [0] R R) fun n=>Pq fun s2 i2 _ hm=> ?_
  rw [ref07_ShowPod.l1] at hm
  refine Af<|Ai<|Aa tbk [0] 3 R R<|Ab R R (Aw T_api_Term.vv R Cl)<|Ab R R (Ba R R R)<|Ac<|Ao hm R (fun h26 hm=>?_) fun h26 hm=> ?_
  ·refine Am<|Af<|A2<|Ai<|Aa tbk [0] 3 R R<|Bd hm fun x h27 hm=>Ab R R (Bf T_api_Term.vv R R el43 h27)<|Ab R R (Bt R ld142 R)<|Ad R R<|A3 z142 fun b2=>Ad R R<|An (i:=0) R R R ld142 R R R<|Ac<|Af<|Be 0 mixed<|Ax 0 R R R (by kernel_rfl) (Aj R)<|Bd hm fun v14 h29 hm=>Ax 1 R R R (by kernel_rfl) (Bv R R h29)<|Aq tbk [2,3] [0] (by kernel_rfl) R R R<|Bd hm fun v15 h30 hm=>Ax 4 R R R (by kernel_rfl) (Bv R R h30)<|Bd hm fun v16 h31 hm=>Ax 5 R R R (by kernel_rfl) (Bv R R h31)<|Aq tbk [7,8] [0] (by kernel_rfl) R R R<|Ah 6 (by kernel_rfl)<|Bd hm fun r9 h32 hm=>Al R R R<|Au 0 R fn156 R (K190 r9 h32) fun _ _ h43=> ?_
   obtain ⟨rfl,rfl⟩:=h43
   refine Bd hm fun x2 h33 hm=>Ax 9 R R R (by kernel_rfl) (Bf VV.str R R el25 h33)<|Ax 10 R R R (by kernel_rfl) (Bt R ld9 R)<|Bd hm fun v17 h34 hm=>Ax 11 R R R (by kernel_rfl) (Bv R R h34)<|Ax 12 R R R (by kernel_rfl) (Ak R)<|A0 (by kernel_rfl)<|Af<|Ae tbk [] R R<|Cn hm (fun s62 (_:Unit)=>[(1,.ptr b 0),(3,.str s62),(4,Iw i2)]) (fun _ (_:Unit)=>[X47 b p]) (fun o2 hm=>?_) fun s62 _ hm=> ?_
   ·refine B1 (fun zn (zs:ByteArray × Int)=>ref07_ShowPod.l2 x zn zs.1 zs.2) (fun zs (_:Unit)=>[(1,.ptr b 0),(3,.str zs.1),(4,Iw i2),(5,.ptr b2 0),(6,Iw zs.2)]) (fun _ (_:Unit)=>[X142 b2 x,X47 b p]) (v17,(0 : Int)) () (fun _=>R) hm (Ag [0,0] R R) fun n2=>Pq fun s5 k2 _ hm=> ?_
    rw [ref07_ShowPod.l2] at hm
    exact Af<|Ai<|Aa tbk [0] 3 R R<|Ab R R (Aw VV.str R B2)<|Ab R R (Ba R R R)<|Ac<|Ao hm R (fun h37 hm=>Am<|Af<|A2<|Bn<|Ab R R (Aj R)<|Bd hm fun v18 h38 hm=>Ab R R (Bv R R h38)<|Aa tbk [0] 3 R R<|Bd hm fun x3 h39 hm=>Ab R R (Bf VV.str R R el25 h39)<|Ab R R (Bt R ld9 R)<|Ad R R<|Av hm 0 R fn157 R (K188 _) fun r10 hm=>Bd hm fun v19 h41 hm=>Ab R R (Bv R R h41)<|Ab R R (Ak R)<|Ac<|Bc tbk [] R R<|Ap (v19,(IntKind.i64.wrap (k2 + (1 : Int)))) () hm (Ag [0,0] R R)) fun h37 hm=>A7<|As () hm (Ag [1] R R)
   exact Bn<|Ab R R (Aj R)<|Bd hm fun v20 h42 hm=>Ab R R (Bv R R h42)<|Ab R R (Ak R)<|Ac<|Bc tbk [] R R<|Ap (v20,(IntKind.i64.wrap (i2 + (1 : Int)))) () hm (Ag [0] R R)
  exact A7<|As () hm (Ag [0] R R)
 refine Af<|Ae tbk [] R R<|Cn hm (fun s92 (_:Unit)=>[(1,.ptr b 0),(3,.str s92)]) (fun _ (_:Unit)=>[X47 b p]) (fun o3 hm=>?_) fun s92 _ hm=> ?_
 ·refine B1 (fun zn (zs:ByteArray × Int)=>ref07_ShowPod.l3 p zn zs.1 zs.2) (fun zs (_:Unit)=>[(1,.ptr b 0),(3,.str zs.1),(7,Iw zs.2)]) (fun _ (_:Unit)=>[X47 b p]) (s32,(0 : Int)) () (fun _=>R) hm (Ag [0] R R) fun n3=>Pq fun s8 i4 _ hm=> ?_
  rw [ref07_ShowPod.l3] at hm
  refine Af<|Ai<|Aa tbk [0] 3 R R<|Ab R R (Aw T_api_Toleration.vv R Cu)<|Ab R R (Ba R R R)<|Ac<|Ao hm R (fun h46 hm=>?_) fun h46 hm=> ?_
  ·refine Am<|Af<|A2<|Ai<|Aa tbk [0] 3 R R<|Bd hm fun x4 h47 hm=>Ab R R (Bf T_api_Toleration.vv R R el44 h47)<|Ab R R (Bt R ld172 R)<|Ad R R<|A3 z172 fun b3=>Ad R R<|An (i:=0) R R R ld172 R R R<|Ac<|Ae tbk [0] R R<|Ao hm R (fun h49 hm=>?_) fun h49 hm=> ?_
   ·refine Be 0 mixed<|Ax 0 R R R (by kernel_rfl) (Aj R)<|Bd hm fun v21 h50 hm=>Ax 1 R R R (by kernel_rfl) (Bv R R h50)<|Aq tbk [2,3,8,9] [0,0] (by kernel_rfl) R R R<|Ah 4 (by kernel_rfl)<|Bd hm fun r11 h51 hm=>Al R R R<|Au 0 R fn157 R (K188 x4.Key r11 h51) fun _ _ h59=> ?_
    obtain ⟨rfl,rfl⟩:=h59
    refine Bd hm fun v22 h52 hm=>Ax 5 R R R (by kernel_rfl) (Bv R R h52)<|Bd hm fun v23 h53 hm=>Ax 6 R R R (by kernel_rfl) (Bv R R h53)<|Ah 7 (by kernel_rfl)<|Bd hm fun r12 h54 hm=>Al R R R<|Au 0 R fn158 R (K191 r12 h54) fun _ _ h58=> ?_
    obtain ⟨rfl,rfl⟩:=h58
    exact Bd hm fun x5 h55 hm=>Ax 10 R R R (by kernel_rfl) (Bf VV.str R R el25 h55)<|Ax 11 R R R (by kernel_rfl) (Bt R ld9 R)<|Bd hm fun v24 h56 hm=>Ax 12 R R R (by kernel_rfl) (Bv R R h56)<|Bd hm fun v25 h57 hm=>Ax 13 R R R (by kernel_rfl) (Bv R R h57)<|Ax 14 R R R (by kernel_rfl) (Ak R)<|A0 (by kernel_rfl)<|Bc tbk [] R R<|Ap (v25,(IntKind.i64.wrap (i4 + (1 : Int)))) () hm (Ag [1] R R)
   refine Be 0 mixed<|Ax 0 R R R (by kernel_rfl) (Aj R)<|Bd hm fun v26 h60 hm=>Ax 1 R R R (by kernel_rfl) (Bv R R h60)<|Aq tbk [2,3,7,8,13,14] [0,0,0] (by kernel_rfl) R R R<|Ah 4 (by kernel_rfl)<|Bd hm fun r13 h61 hm=>Al R R R<|Au 0 R fn157 R (K188 x4.Key r13 h61) fun _ _ h73=> ?_
   obtain ⟨rfl,rfl⟩:=h73
   refine Bd hm fun v27 h62 hm=>Ax 5 R R R (by kernel_rfl) (Bv R R h62)<|Bd hm fun v28 h63 hm=>Ax 6 R R R (by kernel_rfl) (Bv R R h63)<|Ah 9 (by kernel_rfl)<|Bd hm fun r14 h64 hm=>Al R R R<|Au 0 R fn157 R (K188 x4.Val r14 h64) fun _ _ h72=> ?_
   obtain ⟨rfl,rfl⟩:=h72
   refine Bd hm fun v29 h65 hm=>Ax 10 R R R (by kernel_rfl) (Bv R R h65)<|Bd hm fun v30 h66 hm=>Ax 11 R R R (by kernel_rfl) (Bv R R h66)<|Ah 12 (by kernel_rfl)<|Bd hm fun r15 h67 hm=>Al R R R<|Au 0 R fn158 R (K191 r15 h67) fun _ _ h71=> ?_
   obtain ⟨rfl,rfl⟩:=h71
   exact Bd hm fun x6 h68 hm=>Ax 15 R R R (by kernel_rfl) (Bf VV.str R R el25 h68)<|Ax 16 R R R (by kernel_rfl) (Bt R ld9 R)<|Bd hm fun v31 h69 hm=>Ax 17 R R R (by kernel_rfl) (Bv R R h69)<|Bd hm fun v32 h70 hm=>Ax 18 R R R (by kernel_rfl) (Bv R R h70)<|Ax 19 R R R (by kernel_rfl) (Ak R)<|A0 (by kernel_rfl)<|Bc tbk [] R R<|Ap (v32,(IntKind.i64.wrap (i4 + (1 : Int)))) () hm (Ag [1] R R)
  exact A7<|As () hm (Ag [0] R R)
 refine Af<|Ae tbk [] R R<|Cn hm (fun s122 (_:Unit)=>[(1,.ptr b 0),(3,.str s122)]) (fun _ (_:Unit)=>[X47 b p]) (fun o4 hm=>?_) fun s122 _ hm=> ?_
 ·refine B1 (fun zn (zs:ByteArray × Int)=>ref07_ShowPod.l4 p zn zs.1 zs.2) (fun zs (_:Unit)=>[(1,.ptr b 0),(3,.str zs.1),(9,Iw zs.2)]) (fun _ (_:Unit)=>[X47 b p]) (s92,(0 : Int)) () (fun _=>R) hm (Ag [0] R R) fun n4=>Pq fun s11 i6 _ hm=> ?_
  rw [ref07_ShowPod.l4] at hm
  exact Af<|Ai<|Aa tbk [0] 3 R R<|Ab R R (Aw (VV.int .i64) R Cm)<|Ab R R (Ba R R R)<|Ac<|Ao hm R (fun h76 hm=>Am<|Af<|A2<|Bn<|Aa tbk [0] 4 R R<|Bd hm fun x7 h77 hm=>Ab R R (Bf (VV.int .i64) R R el45 h77)<|Ab R R (Bt R ld3 R)<|Ad R R<|Av hm 0 R fn159 R (K192 _ _) fun r16 hm=>Bd hm fun v33 h79 hm=>Ab R R (Bv R R h79)<|Ab R R (Ak R)<|Ac<|Bc tbk [] R R<|Ap (v33,(IntKind.i64.wrap (i6 + (1 : Int)))) () hm (Ag [0] R R)) fun h76 hm=>A7<|As () hm (Ag [0] R R)
 refine Af<|Be 0 mixed<|Aq tbk [0,1,2,5,6,9,10] [0,0,0] (by kernel_rfl) R R R<|Ah 3 (by kernel_rfl)<|Bd hm fun r17 h80 hm=>Al R R R<|Au 0 R fn159 R (K192 (⟨#[115,112,114,101,97,100]⟩ : ByteArray) p.Skew r17 h80) fun _ _ h118=> ?_
 obtain ⟨rfl,rfl⟩:=h118
 refine Bd hm fun v34 h81 hm=>Ax 4 R R R (by kernel_rfl) (Bv R R h81)<|Ah 7 (by kernel_rfl)<|Bd hm fun r18 h82 hm=>Al R R R<|Au 0 R fn155 R (K189 (⟨#[111,118,101,114]⟩ : ByteArray) p.Spread r18 h82) fun _ _ h117=> ?_
 obtain ⟨rfl,rfl⟩:=h117
 refine Bd hm fun v35 h83 hm=>Ax 8 R R R (by kernel_rfl) (Bv R R h83)<|Ah 11 (by kernel_rfl)<|Bd hm fun r19 h84 hm=>Al R R R<|Au 0 R fn159 R (K192 (⟨#[114,97,110,107]⟩ : ByteArray) p.Rank r19 h84) fun _ _ h116=> ?_
 obtain ⟨rfl,rfl⟩:=h116
 refine Bd hm fun v36 h85 hm=>Ax 12 R R R (by kernel_rfl) (Bv R R h85)<|Ax 13 R R R (by kernel_rfl) (Ak R)<|A0 (by kernel_rfl)<|Af<|Ae tbk [0] R R<|Ao hm R (fun h86 hm=>?_) fun h86 hm=> ?_
 ·refine Bn<|Ab R R (Aj R)<|Bd hm fun v37 h87 hm=>Ab R R (Bv R R h87)<|Aa tbk [0] 2 R R<|Bd hm fun v38 h88 hm=>Ab R R (Bv R R h88)<|Bd hm fun v39 h89 hm=>Ab R R (Bv R R h89)<|Ab R R (Ak R)<|Ac<|Af<|Be 0 mixed<|Aq tbk [0,1,2,5,6,9,10,13,14] [0,0,0,0] (by kernel_rfl) R R R<|Ah 3 (by kernel_rfl)<|Bd hm fun r20 h90 hm=>Al R R R<|Au 0 R fn160 R (K193 (⟨#[119,105,100,101]⟩ : ByteArray) p.Wide r20 h90) fun _ _ h102=> ?_
  obtain ⟨rfl,rfl⟩:=h102
  refine Bd hm fun v40 h91 hm=>Ax 4 R R R (by kernel_rfl) (Bv R R h91)<|Ah 7 (by kernel_rfl)<|Bd hm fun r21 h92 hm=>Al R R R<|Au 0 R fn160 R (K193 (⟨#[100,97,101,109,111,110]⟩ : ByteArray) p.Daemon r21 h92) fun _ _ h101=> ?_
  obtain ⟨rfl,rfl⟩:=h101
  refine Bd hm fun v41 h93 hm=>Ax 8 R R R (by kernel_rfl) (Bv R R h93)<|Ah 11 (by kernel_rfl)<|Bd hm fun r22 h94 hm=>Al R R R<|Au 0 R fn160 R (K193 (⟨#[112,105,110,110,101,100]⟩ : ByteArray) p.Pinned r22 h94) fun _ _ h100=> ?_
  obtain ⟨rfl,rfl⟩:=h100
  refine Bd hm fun v42 h95 hm=>Ax 12 R R R (by kernel_rfl) (Bv R R h95)<|Ah 15 (by kernel_rfl)<|Bd hm fun r23 h96 hm=>Al R R R<|Au 0 R fn160 R (K193 (⟨#[108,111,99,97,108]⟩ : ByteArray) p.Local r23 h96) fun _ _ h99=> ?_
  obtain ⟨rfl,rfl⟩:=h99
  exact Bd hm fun v43 h97 hm=>Ax 16 R R R (by kernel_rfl) (Bv R R h97)<|Bd hm fun v44 h98 hm=>Ax 17 R R R (by kernel_rfl) (Bv R R h98)<|Ax 18 R R R (by kernel_rfl) (Ak R)<|A0 (by kernel_rfl)<|Rt1 hm R [] R R R
 refine Am<|Af<|Be 0 mixed<|Aq tbk [0,1,2,5,6,9,10,13,14] [0,0,0,0] (by kernel_rfl) R R R<|Ah 3 (by kernel_rfl)<|Bd hm fun r24 h103 hm=>Al R R R<|Au 0 R fn160 R (K193 (⟨#[119,105,100,101]⟩ : ByteArray) p.Wide r24 h103) fun _ _ h115=> ?_
 obtain ⟨rfl,rfl⟩:=h115
 refine Bd hm fun v45 h104 hm=>Ax 4 R R R (by kernel_rfl) (Bv R R h104)<|Ah 7 (by kernel_rfl)<|Bd hm fun r25 h105 hm=>Al R R R<|Au 0 R fn160 R (K193 (⟨#[100,97,101,109,111,110]⟩ : ByteArray) p.Daemon r25 h105) fun _ _ h114=> ?_
 obtain ⟨rfl,rfl⟩:=h114
 refine Bd hm fun v46 h106 hm=>Ax 8 R R R (by kernel_rfl) (Bv R R h106)<|Ah 11 (by kernel_rfl)<|Bd hm fun r26 h107 hm=>Al R R R<|Au 0 R fn160 R (K193 (⟨#[112,105,110,110,101,100]⟩ : ByteArray) p.Pinned r26 h107) fun _ _ h113=> ?_
 obtain ⟨rfl,rfl⟩:=h113
 refine Bd hm fun v47 h108 hm=>Ax 12 R R R (by kernel_rfl) (Bv R R h108)<|Ah 15 (by kernel_rfl)<|Bd hm fun r27 h109 hm=>Al R R R<|Au 0 R fn160 R (K193 (⟨#[108,111,99,97,108]⟩ : ByteArray) p.Local r27 h109) fun _ _ h112=> ?_
 obtain ⟨rfl,rfl⟩:=h112
 exact Bd hm fun v48 h110 hm=>Ax 16 R R R (by kernel_rfl) (Bv R R h110)<|Bd hm fun v49 h111 hm=>Ax 17 R R R (by kernel_rfl) (Bv R R h111)<|Ax 18 R R R (by kernel_rfl) (Ak R)<|A0 (by kernel_rfl)<|Rt1 hm R [] R R R

/-! trireme/triremeref07.SamePod -/
def ref07_SamePod (a : T_api_Pod) (b : T_api_Pod) : Option Bool :=
 (if (((((V.seq a.Name b.Name) && (((a.Need.Cpu == b.Need.Cpu) && ((a.Need.Mem == b.Need.Mem) && ((a.Need.Disk == b.Need.Disk) && ((a.Need.Pods == b.Need.Pods) && ((a.Need.Dev == b.Need.Dev) && true))))) == true)) && (a.Skew == b.Skew)) && (a.Rank == b.Rank)) && (V.seq a.Owner b.Owner)) = true then (ref07_ShowPod a).bind fun r =>
 (ref07_ShowPod b).bind fun r2 =>
 some (V.seq r r2) else some false).bind fun c =>
 some (((c && ((a.Labels.length : Int) == (b.Labels.length : Int))) && ((a.Terms.length : Int) == (b.Terms.length : Int))) && ((a.Ports.length : Int) == (b.Ports.length : Int)))
theorem K195 (a : T_api_Pod) (b : T_api_Pod) : VS Tryz.prog 59 (ref07_SamePod a b) [T_api_Pod.vv a, T_api_Pod.vv b] [] .bool N0 := by
 refine A4 [.tmp 4] Tryz.func59 R R R fun r hm=>?_
 unfold ref07_SamePod at hm
 refine Ai<|Ad R R<|Bg R R fun b2=>Ad R R<|Bg R R fun b3=>Ab R R (Ak R)<|Ac<|Af<|Be 0 mixed<|Aq tbk [0,1,2,3,4,5] [1,0] (by kernel_rfl) R R R<|Dv [11,10,9,8,7,6,5,4,3,2,1,0] 16 10 R (fun h3 K' J=>Aq tbk [6,7,8,9] [1,0] (by kernel_rfl) R R R<|Cs 10 R R R R R R (by kernel_rfl) (D0 shp41 eq41 R R R R)<|Ax 11 R R R (by kernel_rfl) (Bk true R R R)<|J 5 R R R) (fun K' J=>Aq tbk [6,7,8,9,10,11] [] (by kernel_rfl) R R R<|J 5 R R R)<|Ax 12 R R R (by kernel_rfl) (Aj R)<|Dv [18,17,16,15,14,13,12,11,10,9,8,7,6,5,4,3,2,1,0] 23 17 R (fun h4 K' J=>Aq tbk [13,14,15,16,17,18] [1,0] (by kernel_rfl) R R R<|J 5 R R R) (fun K' J=>Aq tbk [13,14,15,16,17,18] [] (by kernel_rfl) R R R<|J 5 R R R)<|Ax 19 R R R (by kernel_rfl) (Aj R)<|Dv [25,24,23,22,21,20,19,18,17,16,15,14,13,12,11,10,9,8,7,6,5,4,3,2,1,0] 30 24 R (fun h5 K' J=>Aq tbk [20,21,22,23,24,25] [1,0] (by kernel_rfl) R R R<|J 5 R R R) (fun K' J=>Aq tbk [20,21,22,23,24,25] [] (by kernel_rfl) R R R<|J 5 R R R)<|Ax 26 R R R (by kernel_rfl) (Aj R)<|Dv [32,31,30,29,28,27,26,25,24,23,22,21,20,19,18,17,16,15,14,13,12,11,10,9,8,7,6,5,4,3,2,1,0] 37 31 R (fun h6 K' J=>Aq tbk [27,28,29,30,31,32] [1,0] (by kernel_rfl) R R R<|J 5 R R R) (fun K' J=>Aq tbk [27,28,29,30,31,32] [] (by kernel_rfl) R R R<|J 5 R R R)<|Ax 33 R R R (by kernel_rfl) (Aj R)<|Cw hm [39,38,37,36,35,34,33,32,31,30,29,28,27,26,25,24,23,22,21,20,19,18,17,16,15,14,13,12,11,10,9,8,7,6,5,4,3,2,1,0] 44 38 R (fun _ K' h7 J hm=>Aq tbk [34,36] [1,0] (by kernel_rfl) R R R<|Ah 35 (by kernel_rfl)<|Bo R R R R R R<|Av hm 0 R fn109 R (K194 _) fun r hm=>Ah 37 (by kernel_rfl)<|Bo R R R R R R<|Av hm 0 R fn109 R (K194 _) fun r2 hm=>Aq tbk [38,39] [] (by kernel_rfl) R R R<|Ce [39,38,37,36,35,34,33,32,31,30,29,28,27,26,25,24,23,22,21,20,19,18,17,16,15,14,13,12,11,10,9,8,7,6,5,4,3,2,1,0] (by kernel_rfl) R<|J 5 R R (Bj hm)) (fun _ K' h7 J hm=>Aq tbk [34,35,36,37,38,39] [] (by kernel_rfl) R R R<|J 5 R R (Bj hm)) fun c hm=>Ax 40 R R R (by kernel_rfl) (Aj R)<|Dv [48,47,46,45,44,43,42,41,40,39,38,37,36,35,34,33,32,31,30,29,28,27,26,25,24,23,22,21,20,19,18,17,16,15,14,13,12,11,10,9,8,7,6,5,4,3,2,1,0] 53 45 R (fun h11 K' J=>Aq tbk [41,42] [1] (by kernel_rfl) R R R<|Cs 43 R R R R R R (by kernel_rfl) (Aw T_api_Label.vv R Bu)<|Aq tbk [44,45] [0] (by kernel_rfl) R R R<|Cs 46 R R R R R R (by kernel_rfl) (Aw T_api_Label.vv R Bu)<|Aq tbk [47,48] [] (by kernel_rfl) R R R<|J 7 R R R) (fun K' J=>Aq tbk [41,42,43,44,45,46,47,48] [] (by kernel_rfl) R R R<|J 7 R R R)<|Ax 49 R R R (by kernel_rfl) (Aj R)<|?_
 exact Dv [57,56,55,54,53,52,51,50,49,48,47,46,45,44,43,42,41,40,39,38,37,36,35,34,33,32,31,30,29,28,27,26,25,24,23,22,21,20,19,18,17,16,15,14,13,12,11,10,9,8,7,6,5,4,3,2,1,0] 62 54 R (fun h12 K' J=>Aq tbk [50,51] [1] (by kernel_rfl) R R R<|Cs 52 R R R R R R (by kernel_rfl) (Aw T_api_Term.vv R Cl)<|Aq tbk [53,54] [0] (by kernel_rfl) R R R<|Cs 55 R R R R R R (by kernel_rfl) (Aw T_api_Term.vv R Cl)<|Aq tbk [56,57] [] (by kernel_rfl) R R R<|J 7 R R R) (fun K' J=>Aq tbk [50,51,52,53,54,55,56,57] [] (by kernel_rfl) R R R<|J 7 R R R)<|Ax 58 R R R (by kernel_rfl) (Aj R)<|Dv [66,65,64,63,62,61,60,59,58,57,56,55,54,53,52,51,50,49,48,47,46,45,44,43,42,41,40,39,38,37,36,35,34,33,32,31,30,29,28,27,26,25,24,23,22,21,20,19,18,17,16,15,14,13,12,11,10,9,8,7,6,5,4,3,2,1,0] 71 63 R (fun h13 K' J=>Aq tbk [59,60] [1] (by kernel_rfl) R R R<|Cs 61 R R R R R R (by kernel_rfl) (Aw (VV.int .i64) R Cm)<|Aq tbk [62,63] [0] (by kernel_rfl) R R R<|Cs 64 R R R R R R (by kernel_rfl) (Aw (VV.int .i64) R Cm)<|Aq tbk [65,66] [] (by kernel_rfl) R R R<|J 7 R R R) (fun K' J=>Aq tbk [59,60,61,62,63,64,65,66] [] (by kernel_rfl) R R R<|J 7 R R R)<|Ax 67 R R R (by kernel_rfl) (Ak R)<|A0 (by kernel_rfl)<|Rt1 hm R [] R R R

/-! trireme/triremeref09.Same -/
def ref09_Same.l1 (ms : List T_api_Machine) (ns : List T_api_Machine) : Nat → Int → Option (Out Bool Unit)
 | 0, _ => none
 | n + 1, i2 =>
  if (decide (i2 < (ms.length : Int))) = true then
   (V.gl ms i2).bind fun x =>
   (V.gl ns i2).bind fun x2 =>
   (ref07_SameMachine x x2).bind fun r =>
   if (!r) = true then
    some (Out.ret false)
   else
    ref09_Same.l1 ms ns n (i64.wrap (i2 + 1))
  else
   some (Out.go ())
def ref09_Same.l2 (bs : List T_api_Bound) (cs : List T_api_Bound) : Nat → Int → Option (Out Bool Unit)
 | 0, _ => none
 | n2 + 1, i4 =>
  if (decide (i4 < (bs.length : Int))) = true then
   (V.gl bs i4).bind fun x3 =>
   (V.gl cs i4).bind fun x4 =>
   (if (!(V.seq x3.On x4.On)) = true then some true else (V.gl bs i4).bind fun x5 =>
   (V.gl cs i4).bind fun x6 =>
   (ref07_SamePod x5.Pod x6.Pod).bind fun r2 =>
   some (!r2)).bind fun c =>
   if c = true then
    some (Out.ret false)
   else
    ref09_Same.l2 bs cs n2 (i64.wrap (i4 + 1))
  else
   some (Out.go ())
def ref09_Same (ms : List T_api_Machine) (bs : List T_api_Bound) (ns : List T_api_Machine) (cs : List T_api_Bound) : Option Bool :=
 if (((ms.length : Int) != (ns.length : Int)) || ((bs.length : Int) != (cs.length : Int))) = true then
  some false
 else
  (ref09_Same.l1 ms ns FU (0 : Int)).bind fun o =>
  o.on fun j =>
  (ref09_Same.l2 bs cs FU (0 : Int)).bind fun o2 =>
  o2.on fun j2 =>
  some true
theorem K196 (ms : List T_api_Machine) (bs : List T_api_Bound) (ns : List T_api_Machine) (cs : List T_api_Bound) : VS Tryz.prog 19 (ref09_Same ms bs ns cs) [L61 ms, L49 bs, L61 ns, L49 cs] [] .bool N0 := by
 refine A4 [.tmp 8] Tryz.func19 R R R fun r hm=>?_
 unfold ref09_Same at hm
 refine Ae tbk [] R R<|Af<|Ai<|Ab R R (Aj R)<|Ab R R (Aw T_api_Machine.vv R Ay)<|Ab R R (Aj R)<|Ab R R (Aw T_api_Machine.vv R Ay)<|Aa tbk [] 2 R R<|Cv 6 22 16 R (fun K' J=>Aa tbk [] 6 R R<|J 5 R R R) (fun h1 K' J=>Bb R R R R R (Aj R)<|Bb R R R R R (Aw T_api_Bound.vv R Bq)<|Bb R R R R R (Aj R)<|Bb R R R R R (Aw T_api_Bound.vv R Bq)<|Aa tbk [] 2 R R<|J 5 R R R)<|Ac<|Ao hm R (fun h2 hm=>Ae tbk [] R R<|Rt1 hm R [] R R R) fun h2 hm=>Am<|Af<|Ae tbk [] R R<|Bw hm (fun _ (_:Unit)=>[(1,L49 bs),(3,L49 cs)]) (fun _ (_:Unit)=>[]) (fun o hm h4=>?_) fun j _ hm=> ?_
 ·refine B1 (fun zn (zs:Int)=>ref09_Same.l1 ms ns zn zs) (fun zs (_:Unit)=>[(0,L61 ms),(1,L49 bs),(2,L61 ns),(3,L49 cs),(9,Iw zs)]) (fun _ (_:Unit)=>[]) _ () (fun _=>R) hm (Ag [] R R) fun n i2 _ hm=> ?_
  rw [ref09_Same.l1] at hm
  refine Af<|Ai<|Aa tbk [] 2 R R<|Ab R R (Aw T_api_Machine.vv R Ay)<|Ab R R (Ba R R R)<|Ac<|Ao hm R (fun h5 hm=>?_) fun h5 hm=> ?_
  ·refine Am<|Af<|A2<|Af<|Be 0 mixed<|Aq tbk [0,1] [] (by kernel_rfl) R R R<|Bd hm fun x h6 hm=>Ax 2 R R R (by kernel_rfl) (Bf T_api_Machine.vv R R el22 h6)<|Aq tbk [3,4,5] [] (by kernel_rfl) R R R<|Bd hm fun x2 h7 hm=>Ax 6 R R R (by kernel_rfl) (Bf T_api_Machine.vv R R el22 h7)<|Ax 7 R R R (by kernel_rfl) (Bt R ld61 R)<|Ah 8 (by kernel_rfl)<|Bd hm fun r h8 hm=>Al R R R<|Au 0 R fn58 R (K184 x x2 r h8) fun _ _ h10=> ?_
   obtain ⟨rfl,rfl⟩:=h10
   exact Ax 9 R R R (by kernel_rfl) (B6 R)<|A0 (by kernel_rfl)<|Ao hm R (fun h9 hm=>Ae tbk [] R R<|have hm:=Lr hm h4;Rt1 hm R [] R R R) fun h9 hm=>Am<|Bc tbk [] R R<|Ap _ () hm (Ag [] R R)
  exact A7<|Ar () hm (Ag [] R R)
 refine Af<|Ae tbk [] R R<|Bw hm (fun _ (_:Unit)=>[]) (fun _ (_:Unit)=>[]) (fun o2 hm h12=>?_) fun j2 _ hm=> ?_
 ·refine B1 (fun zn (zs:Int)=>ref09_Same.l2 bs cs zn zs) (fun zs (_:Unit)=>[(1,L49 bs),(3,L49 cs),(10,Iw zs)]) (fun _ (_:Unit)=>[]) _ () (fun _=>R) hm (Ag [] R R) fun n2 i4 _ hm=> ?_
  rw [ref09_Same.l2] at hm
  exact Af<|Ai<|Aa tbk [] 2 R R<|Ab R R (Aw T_api_Bound.vv R Bq)<|Ab R R (Ba R R R)<|Ac<|Ao hm R (fun h13 hm=>Am<|Af<|A2<|Af<|Be 0 mixed<|Aq tbk [0,1] [] (by kernel_rfl) R R R<|Bd hm fun x3 h14 hm=>Ax 2 R R R (by kernel_rfl) (Bf T_api_Bound.vv R R el23 h14)<|Aq tbk [3,4,5,6] [] (by kernel_rfl) R R R<|Bd hm fun x4 h15 hm=>Ax 7 R R R (by kernel_rfl) (Bf T_api_Bound.vv R R el23 h15)<|Aq tbk [8,9,10,11] [] (by kernel_rfl) R R R<|Cw hm [24,23,22,21,20,19,18,17,16,15,14,13,12,11,10,9,8,7,6,5,4,3,2,1,0] 69 56 R (fun _ K' h16 J hm=>Aq tbk [12,13,14,15,16,17,18,19,20,21,22,23,24] [] (by kernel_rfl) R R R<|J 12 R R (Bj hm)) (fun _ K' h16 J hm=>Aq tbk [12,13] [] (by kernel_rfl) R R R<|Bd hm fun x5 h17 hm=>Cs 14 R R R R R R (by kernel_rfl) (Bf T_api_Bound.vv R R el23 h17)<|Aq tbk [15,16,17,18] [] (by kernel_rfl) R R R<|Bd hm fun x6 h18 hm=>Cs 19 R R R R R R (by kernel_rfl) (Bf T_api_Bound.vv R R el23 h18)<|Aq tbk [20,21] [] (by kernel_rfl) R R R<|Ah 22 (by kernel_rfl)<|Bo R R R R R R<|Av hm 0 R fn59 R (K195 _ _) fun r2 hm=>Aq tbk [23,24] [] (by kernel_rfl) R R R<|J 12 R R (Bj hm)) fun c hm=>A0 (by kernel_rfl)<|Ao hm R (fun h21 hm=>Ae tbk [] R R<|have hm:=Lr hm h12;Rt1 hm R [] R R R) fun h21 hm=>Am<|Bc tbk [] R R<|Ap _ () hm (Ag [] R R)) fun h13 hm=>A7<|Ar () hm (Ag [] R R)
 exact Ae tbk [] R R<|Rt1 hm R [] R R R

/-! trireme/triremeref05.Get -/
def ref05_Get.l1 (l : List T_api_Label) (key : ByteArray) : Nat → Int → Option (Out (ByteArray × Bool) Unit)
 | 0, _ => none
 | n + 1, i2 =>
  if (decide (i2 < (l.length : Int))) = true then
   (V.gl l i2).bind fun x =>
   if (V.seq x.Key key) = true then
    (V.gl l i2).bind fun x2 =>
    some (Out.ret (x2.Val, true))
   else
    ref05_Get.l1 l key n (i64.wrap (i2 + 1))
  else
   some (Out.go ())
def ref05_Get (l : List T_api_Label) (key : ByteArray) : Option (ByteArray × Bool) :=
 (ref05_Get.l1 l key FU (0 : Int)).bind fun o =>
 o.on fun j =>
 some ((⟨#[]⟩ : ByteArray), false)
theorem K197 (l : List T_api_Label) (key : ByteArray) : VS Tryz.prog 116 (ref05_Get l key) [L92 l, .str key] [] (fun r=>.tup [.str r.1, .bool r.2]) N0 := by
 refine A4 [.tmp 4,.tmp 5] Tryz.func116 R R R fun r hm=>?_
 unfold ref05_Get at hm
 refine Ae tbk [] R R<|Af<|Ae tbk [] R R<|Bw hm (fun _ (_:Unit)=>[]) (fun _ (_:Unit)=>[]) (fun o hm h2=>?_) fun j _ hm=> ?_
 ·refine B1 (fun zn (zs:Int)=>ref05_Get.l1 l key zn zs) (fun zs (_:Unit)=>[(0,L92 l),(1,.str key),(6,Iw zs)]) (fun _ (_:Unit)=>[]) _ () (fun _=>R) hm (Ag [] R R) fun n i2 _ hm=> ?_
  rw [ref05_Get.l1] at hm
  exact Af<|Ai<|Aa tbk [] 2 R R<|Ab R R (Aw T_api_Label.vv R Bu)<|Ab R R (Ba R R R)<|Ac<|Ao hm R (fun h3 hm=>Am<|Af<|A2<|Ai<|Aa tbk [] 2 R R<|Bd hm fun x h4 hm=>Ab R R (Bf T_api_Label.vv R R el42 h4)<|Aa tbk [] 4 R R<|Ac<|Ao hm R (fun h5 hm=>Ai<|Aa tbk [] 2 R R<|Bd hm fun x2 h6 hm=>Ab R R (Bf T_api_Label.vv R R el42 h6)<|Aa tbk [] 4 R R<|Ac<|have hm:=Lr hm h2;Rt2 hm R [] R R R R) fun h5 hm=>Am<|Bc tbk [] R R<|Ap _ () hm (Ag [] R R)) fun h3 hm=>A7<|Ar () hm (Ag [] R R)
 exact Ae tbk [] R R<|Rt2 hm R [] R R R R

/-! trireme/triremeref05.Has -/
def ref05_Has.l1 (l : List T_api_Label) (some_ : List T_api_Label) : Nat → Int → Option (Out Bool Unit)
 | 0, _ => none
 | n + 1, i2 =>
  if (decide (i2 < (some_.length : Int))) = true then
   (V.gl some_ i2).bind fun x =>
   (ref05_Get l x.Key).bind fun r =>
   (if (!r.2) = true then some true else (V.gl some_ i2).bind fun x2 =>
   some (!(V.seq r.1 x2.Val))).bind fun c =>
   if c = true then
    some (Out.ret false)
   else
    ref05_Has.l1 l some_ n (i64.wrap (i2 + 1))
  else
   some (Out.go ())
def ref05_Has (l : List T_api_Label) (some_ : List T_api_Label) : Option Bool :=
 (ref05_Has.l1 l some_ FU (0 : Int)).bind fun o =>
 o.on fun j =>
 some true
theorem K198 (l : List T_api_Label) (some_ : List T_api_Label) : VS Tryz.prog 63 (ref05_Has l some_) [L92 l, L92 some_] [] .bool N0 := by
 refine A4 [.tmp 4] Tryz.func63 R R R fun r hm=>?_
 unfold ref05_Has at hm
 refine Ae tbk [] R R<|Af<|Ae tbk [] R R<|Bw hm (fun _ (_:Unit)=>[]) (fun _ (_:Unit)=>[]) (fun o hm h2=>?_) fun j _ hm=> ?_
 ·refine B1 (fun zn (zs:Int)=>ref05_Has.l1 l some_ zn zs) (fun zs (_:Unit)=>[(0,L92 l),(1,L92 some_),(5,Iw zs)]) (fun _ (_:Unit)=>[]) _ () (fun _=>R) hm (Ag [] R R) fun n i2 _ hm=> ?_
  rw [ref05_Has.l1] at hm
  exact Af<|Ai<|Aa tbk [] 2 R R<|Ab R R (Aw T_api_Label.vv R Bu)<|Ab R R (Ba R R R)<|Ac<|Ao hm R (fun h3 hm=>Am<|Af<|A2<|Ai<|Aa tbk [] 3 R R<|Bd hm fun x h4 hm=>Ab R R (Bf T_api_Label.vv R R el42 h4)<|Aa tbk [] 2 R R<|Ad R R<|Av hm 0 R fn116 R (K197 _ _) fun r hm=>Aa tbk [] 5 R R<|Ac<|Ai<|Aa tbk [] 3 R R<|Bh hm 8 34 26 R (fun _ K' h6 J hm=>Aa tbk [] 8 R R<|J 7 R R (Bj hm)) (fun _ K' h6 J hm=>Aa tbk [] 3 R R<|Bd hm fun x2 h7 hm=>Bb R R R R R (Bf T_api_Label.vv R R el42 h7)<|Aa tbk [] 4 R R<|J 7 R R (Bj hm)) fun c hm=>Ac<|Ao hm R (fun h9 hm=>Ae tbk [] R R<|have hm:=Lr hm h2;Rt1 hm R [] R R R) fun h9 hm=>Am<|Bc tbk [] R R<|Ap _ () hm (Ag [] R R)) fun h3 hm=>A7<|Ar () hm (Ag [] R R)
 exact Ae tbk [] R R<|Rt1 hm R [] R R R

/-! trireme/triremeref05.Meets -/
def ref05_Meets.l1 (t : T_api_Term) (r : ByteArray × Bool) : Nat → Bool → Int → Option Bool
 | 0, _, _ => none
 | n + 1, in_2, i2 =>
  if (decide (i2 < (t.Vals.length : Int))) = true then
   (if in_2 = true then some true else (if r.2 = true then (V.gl t.Vals i2).bind fun x =>
   some (V.seq x r.1) else some false).bind fun c =>
   some c).bind fun c2 =>
   ref05_Meets.l1 t r n c2 (i64.wrap (i2 + 1))
  else
   some in_2
def ref05_Meets (l : List T_api_Label) (t : T_api_Term) : Option Bool :=
 (ref05_Get l t.Key).bind fun r =>
 (ref05_Meets.l1 t r FU false (0 : Int)).bind fun in_32 =>
 if (t.Op == 1) = true then
  some in_32
 else
  if (t.Op == 2) = true then
   some (!in_32)
  else
   if (t.Op == 3) = true then
    some r.2
   else
    if (t.Op == 4) = true then
     some (!r.2)
    else
     (ref03_Number r.1).bind fun r2 =>
     (V.gl t.Vals (0 : Int)).bind fun x2 =>
     (ref03_Number x2).bind fun r3 =>
     if ((!r.2) || (r2.2 != 0)) = true then
      some false
     else
      if (t.Op == 5) = true then
       some (decide (r2.1 > r3.1))
      else
       some (decide (r2.1 < r3.1))
theorem K199 (l : List T_api_Label) (t : T_api_Term) : VS Tryz.prog 214 (ref05_Meets l t) [L92 l, T_api_Term.vv t] [] .bool N0 := by
 refine A4 [.tmp 4] Tryz.func214 R R R fun r hm=>?_
 unfold ref05_Meets at hm
 refine Ai<|Ad R R<|Bg R R fun b=>Ab R R (Ak R)<|Ac<|Ai<|Aa tbk [0] 3 R R<|Ad R R<|Av hm 0 R fn116 R (K197 _ _) fun r hm=>Aa tbk [] 5 R R<|Ac<|Ae tbk [] R R<|Af<|Ae tbk [] R R<|Cn hm (fun in_32 (_:Unit)=>[(3,.ptr b 0),(5,.str r.1),(6,.bool r.2),(7,.bool in_32)]) (fun _ (_:Unit)=>[X142 b t]) (fun o hm=>?_) fun in_32 _ hm=> ?_
 ·refine B1 (fun zn (zs:Bool × Int)=>ref05_Meets.l1 t r zn zs.1 zs.2) (fun zs (_:Unit)=>[(3,.ptr b 0),(5,.str r.1),(6,.bool r.2),(7,.bool zs.1),(8,Iw zs.2)]) (fun _ (_:Unit)=>[X142 b t]) (false,(0 : Int)) () (fun _=>R) hm (Ag [0] R R) fun n=>Pq fun in_2 i2 _ hm=> ?_
  rw [ref05_Meets.l1] at hm
  exact Af<|Ai<|Aa tbk [0] 3 R R<|Ab R R (Aw VV.str R B2)<|Ab R R (Ba R R R)<|Ac<|Ao hm R (fun h5 hm=>Am<|Af<|A2<|Bn<|Aa tbk [] 2 R R<|Bh hm 11 39 28 R (fun _ K' h6 J hm=>Aa tbk [] 11 R R<|J 10 R R (Bj hm)) (fun _ K' h6 J hm=>Aa tbk [] 2 R R<|Bh hm 8 38 30 R (fun _ K' h7 J hm=>Aa tbk [0] 3 R R<|Bd hm fun x h8 hm=>Bb R R R R R (Bf VV.str R R el25 h8)<|Aa tbk [] 4 R R<|J 7 R R (Bj hm)) (fun _ K' h7 J hm=>Aa tbk [] 8 R R<|J 7 R R (Bj hm)) fun c hm=>Ab R R (Bk false R R R)<|J 3 R R (Bj hm)) fun c2 hm=>Ab R R (Ak R)<|Ac<|Bc tbk [] R R<|Ap (c2,(IntKind.i64.wrap (i2 + (1 : Int)))) () hm (Ag [0] R R)) fun h5 hm=>A7<|As () hm (Ag [0] R R)
 exact Af<|Ae tbk [0] R R<|A2<|Ae tbk [] R R<|Ao hm R (fun h11 hm=>Ae tbk [] R R<|Rt1 hm R [] R R R) fun h11 hm=>Ae tbk [] R R<|Ao hm R (fun h12 hm=>Ae tbk [] R R<|Rt1 hm R [] R R R) fun h12 hm=>Ae tbk [] R R<|Ao hm R (fun h13 hm=>Ae tbk [] R R<|Rt1 hm R [] R R R) fun h13 hm=>Ae tbk [] R R<|Ao hm R (fun h14 hm=>Ae tbk [] R R<|Rt1 hm R [] R R R) fun h14 hm=>Am<|Ai<|Ab R R (Aj R)<|Ad R R<|Av hm 0 R fn164 R (K162 _) fun r2 hm=>Aa tbk [] 5 R R<|Ac<|Ai<|Aa tbk [0] 2 R R<|Bd hm fun x2 h16 hm=>Ab R R (Bf VV.str R R el25 h16)<|Ab R R (Bt R ld9 R)<|Ad R R<|Av hm 0 R fn164 R (K162 _) fun r3 hm=>Aa tbk [] 5 R R<|Ac<|Af<|Ai<|Aa tbk [] 3 R R<|Cr tbk [] 3 74 71 R R R R R<|Ac<|Ao hm R (fun h19 hm=>Ae tbk [] R R<|Rt1 hm R [] R R R) fun h19 hm=>Am<|Af<|Ae tbk [0] R R<|Ao hm R (fun h20 hm=>Ae tbk [] R R<|Rt1 hm R [] R R R) fun h20 hm=>Am<|Ae tbk [] R R<|Rt1 hm R [] R R R

/-! trireme/triremeref05.All -/
def ref05_All.l1 (l : List T_api_Label) (terms : List T_api_Term) : Nat → Int → Option (Out Bool Unit)
 | 0, _ => none
 | n + 1, i2 =>
  if (decide (i2 < (terms.length : Int))) = true then
   (V.gl terms i2).bind fun x =>
   (ref05_Meets l x).bind fun r =>
   if (!r) = true then
    some (Out.ret false)
   else
    ref05_All.l1 l terms n (i64.wrap (i2 + 1))
  else
   some (Out.go ())
def ref05_All (l : List T_api_Label) (terms : List T_api_Term) : Option Bool :=
 (ref05_All.l1 l terms FU (0 : Int)).bind fun o =>
 o.on fun j =>
 some true
theorem K200 (l : List T_api_Label) (terms : List T_api_Term) : VS Tryz.prog 192 (ref05_All l terms) [L92 l, L142 terms] [] .bool N0 := by
 refine A4 [.tmp 4] Tryz.func192 R R R fun r hm=>?_
 unfold ref05_All at hm
 refine Ae tbk [] R R<|Af<|Ae tbk [] R R<|Bw hm (fun _ (_:Unit)=>[]) (fun _ (_:Unit)=>[]) (fun o hm h2=>?_) fun j _ hm=> ?_
 ·refine B1 (fun zn (zs:Int)=>ref05_All.l1 l terms zn zs) (fun zs (_:Unit)=>[(0,L92 l),(1,L142 terms),(5,Iw zs)]) (fun _ (_:Unit)=>[]) _ () (fun _=>R) hm (Ag [] R R) fun n i2 _ hm=> ?_
  rw [ref05_All.l1] at hm
  exact Af<|Ai<|Aa tbk [] 2 R R<|Ab R R (Aw T_api_Term.vv R Cl)<|Ab R R (Ba R R R)<|Ac<|Ao hm R (fun h3 hm=>Am<|Af<|A2<|Ai<|Aa tbk [] 3 R R<|Bd hm fun x h4 hm=>Ab R R (Bf T_api_Term.vv R R el43 h4)<|Ab R R (Bt R ld142 R)<|Ad R R<|Av hm 0 R fn214 R (K199 _ _) fun r hm=>Ab R R (B6 R)<|Ac<|Ao hm R (fun h6 hm=>Ae tbk [] R R<|have hm:=Lr hm h2;Rt1 hm R [] R R R) fun h6 hm=>Am<|Bc tbk [] R R<|Ap _ () hm (Ag [] R R)) fun h3 hm=>A7<|Ar () hm (Ag [] R R)
 exact Ae tbk [] R R<|Rt1 hm R [] R R R

/-! trireme/triremeref06.Bears -/
def ref06_Bears (t : T_api_Toleration) (x : T_api_Taint) : Option Bool :=
 some ((((t.Effect == 0) || (t.Effect == x.Effect)) && ((V.seq t.Key (⟨#[]⟩ : ByteArray)) || (V.seq t.Key x.Key))) && (t.Any || (V.seq t.Val x.Val)))
theorem K201 (t : T_api_Toleration) (x : T_api_Taint) : VS Tryz.prog 230 (ref06_Bears t x) [T_api_Toleration.vv t, T_api_Taint.vv x] [] .bool N0 := by
 refine A4 [.tmp 4] Tryz.func230 R R R fun r hm=>?_
 unfold ref06_Bears at hm
 exact Ai<|Ad R R<|Bg R R fun b=>Ad R R<|Bg R R fun b2=>Ab R R (Ak R)<|Ac<|Ai<|Aa tbk [1] 4 R R<|Cr tbk [1,0] 6 14 8 R R R R R<|Ab R R (Aj R)<|Db 11 26 15 R (fun h4 K' J=>Aa tbk [1] 4 R R<|Cr tbk [1,0] 6 25 19 R R R R R<|Ab R R (Bk true R R R)<|J 5 R R R) (fun K' J=>Aa tbk [] 11 R R<|J 10 R R R)<|Ab R R (Aj R)<|Db 10 37 27 R (fun h6 K' J=>Aa tbk [1] 3 R R<|Cr tbk [1,0] 6 36 30 R R R R R<|Ab R R (Bk true R R R)<|J 4 R R R) (fun K' J=>Aa tbk [] 10 R R<|J 9 R R R)<|Ab R R (Ak R)<|Ac<|Rt1 hm R [] R R R

/-! trireme/triremeref06.Unborne -/
def ref06_Unborne.l2 (l : List T_api_Toleration) (taints : List T_api_Taint) (i2 : Int) : Nat → Bool → Int → Option Bool
 | 0, _, _ => none
 | n2 + 1, borne2, k2 =>
  if (decide (k2 < (l.length : Int))) = true then
   (if borne2 = true then some true else (V.gl l k2).bind fun x2 =>
   (V.gl taints i2).bind fun x3 =>
   (ref06_Bears x2 x3).bind fun r =>
   some r).bind fun c2 =>
   ref06_Unborne.l2 l taints i2 n2 c2 (i64.wrap (k2 + 1))
  else
   some borne2
def ref06_Unborne.l1 (l : List T_api_Toleration) (taints : List T_api_Taint) (effect : Int) : Nat → (List T_api_Taint) → Int → Option (List T_api_Taint)
 | 0, _, _ => none
 | n + 1, out2, i2 =>
  if (decide (i2 < (taints.length : Int))) = true then
   (if (effect != 0) = true then (V.gl taints i2).bind fun x =>
   some (x.Effect != effect) else some false).bind fun c =>
   (ref06_Unborne.l2 l taints i2 FU c (0 : Int)).bind fun borne32 =>
   if (!borne32) = true then
    (V.gl taints i2).bind fun x4 =>
    (V.ap 40 out2 [x4]).bind fun out4 =>
    ref06_Unborne.l1 l taints effect n out4 (i64.wrap (i2 + 1))
   else
    ref06_Unborne.l1 l taints effect n out2 (i64.wrap (i2 + 1))
  else
   some out2
def ref06_Unborne (l : List T_api_Toleration) (taints : List T_api_Taint) (effect : Int) : Option (List T_api_Taint) :=
 (ref06_Unborne.l1 l taints effect FU ([] : List T_api_Taint) (0 : Int)).bind fun out32 =>
 some out32
theorem K202 (l : List T_api_Toleration) (taints : List T_api_Taint) (effect : Int) : VS2 Tryz.prog 211 (ref06_Unborne l taints effect) [L172 l, L166 taints, Iw effect] [] (fun r ob0 cap0=>Z166 ob0 r cap0) (fun r ob0 cap0=>[Q166 ob0 cap0 r]) := by
 refine Cf [.tmp 6] Tryz.func211 R R R fun r hm=>?_
 unfold ref06_Unborne at hm
 refine Ae tbk [] R R<|Ae tbk [] R R<|Af<|Ae tbk [] R R<|Cn hm (fun out32 (gg:Option Nat × Nat)=>[(7,Z166 gg.1 out32 gg.2)]) (fun out32 (gg:Option Nat × Nat)=>[Q166 gg.1 gg.2 out32]) (fun o hm=>?_) fun out32=>Pq fun ob3 cap3 hm=> ?_
 ·refine B1 (fun zn (zs:List T_api_Taint × Int)=>ref06_Unborne.l1 l taints effect zn zs.1 zs.2) (fun zs (zg:Option Nat × Nat)=>[(0,L172 l),(1,L166 taints),(2,Iw effect),(7,Z166 zg.1 zs.1 zg.2),(8,Iw zs.2)]) (fun zs (zg:Option Nat × Nat)=>[Q166 zg.1 zg.2 zs.1]) (([] : List T_api_Taint),(0 : Int)) (none,0) (fun _=>R) hm (Ct (Bx 166) (Ag [0] R R)) fun n=>Pq fun out2 i2=>Pq fun ob2 cap2 hm=> ?_
  rw [ref06_Unborne.l1] at hm
  refine Af<|Ai<|Aa tbk [] 2 R R<|Ab R R (Aw T_api_Taint.vv R Cc)<|Ab R R (Ba R R R)<|Ac<|Ao hm R (fun h5 hm=>?_) fun h5 hm=> ?_
  ·refine Am<|Af<|A2<|Ai<|Aa tbk [] 3 R R<|Bh hm 8 27 19 R (fun _ K' h6 J hm=>Aa tbk [] 2 R R<|Bd hm fun x h7 hm=>Bb R R R R R (Bf T_api_Taint.vv R R el59 h7)<|Aa tbk [] 5 R R<|J 7 R R (Bj hm)) (fun _ K' h6 J hm=>Aa tbk [] 8 R R<|J 7 R R (Bj hm)) fun c hm=>Ab R R (Ak R)<|Ac<|Af<|Ae tbk [] R R<|Cn hm (fun borne32 (_:Unit)=>[(0,L172 l),(1,L166 taints),(2,Iw effect),(7,Z166 ob2 out2 cap2),(8,Iw i2),(9,.bool borne32)]) (fun _ (_:Unit)=>[Q166 ob2 cap2 out2]) (fun o2 hm=>?_) fun borne32 _ hm=> ?_
   ·refine B1 (fun zn (zs:Bool × Int)=>ref06_Unborne.l2 l taints i2 zn zs.1 zs.2) (fun zs (_:Unit)=>[(0,L172 l),(1,L166 taints),(2,Iw effect),(7,Z166 ob2 out2 cap2),(8,Iw i2),(9,.bool zs.1),(10,Iw zs.2)]) (fun _ (_:Unit)=>[Q166 ob2 cap2 out2]) (c,(0 : Int)) () (fun _=>R) hm (Ag [0] R R) fun n2=>Pq fun borne2 k2 _ hm=> ?_
    rw [ref06_Unborne.l2] at hm
    exact Af<|Ai<|Aa tbk [] 2 R R<|Ab R R (Aw T_api_Toleration.vv R Cu)<|Ab R R (Ba R R R)<|Ac<|Ao hm R (fun h11 hm=>Am<|Af<|A2<|Be 0 mixed<|Aq tbk [0,1] [] (by kernel_rfl) R R R<|Cw hm [11,10,9,8,7,6,5,4,3,2,1,0] 45 35 R (fun _ K' h12 J hm=>Aq tbk [2,3,4,5,6,7,8,9,10,11] [] (by kernel_rfl) R R R<|J 9 R R (Bj hm)) (fun _ K' h12 J hm=>Aq tbk [2,3] [] (by kernel_rfl) R R R<|Bd hm fun x2 h13 hm=>Cs 4 R R R R R R (by kernel_rfl) (Bf T_api_Toleration.vv R R el44 h13)<|Aq tbk [5,6,7] [] (by kernel_rfl) R R R<|Bd hm fun x3 h14 hm=>Cs 8 R R R R R R (by kernel_rfl) (Bf T_api_Taint.vv R R el59 h14)<|Cs 9 R R R R R R (by kernel_rfl) (Bt R ld166 R)<|Ah 10 (by kernel_rfl)<|Bo R R R R R R<|Av hm 0 R fn230 R (K201 _ _) fun r hm=>Ax 11 R R R (by kernel_rfl) (Bk false R R R)<|J 9 R R (Bj hm)) fun c2 hm=>Ax 12 R R R (by kernel_rfl) (Ak R)<|A0 (by kernel_rfl)<|Bc tbk [] R R<|Ap (c2,(IntKind.i64.wrap (k2 + (1 : Int)))) () hm (Ag [0] R R)) fun h11 hm=>A7<|As () hm (Ag [0] R R)
   exact Ae tbk [] R R<|Ao hm R (fun h17 hm=>Bn<|Aa tbk [] 3 R R<|Bd hm fun x4 h18 hm=>Ab R R (Bf T_api_Taint.vv R R el59 h18)<|Ab R R (Bt R ld166 R)<|Ad R R<|A5 ap59 R R R R R fun b=>Bd hm fun out4 h20 hm=>Ad R R<|Ch 1 T_api_Taint.vv (l:=out2) (l2:=[x4]) ap59 R R (sT_row 0 T_api_Taint.vv el59 R R) h20 fun ob4 cap4=>Ab R R (Ak R)<|Ac<|Bc tbk [] R R<|Ap (out4,(IntKind.i64.wrap (i2 + (1 : Int)))) (ob4,cap4) hm (Ag [1] R R)) fun h17 hm=>Am<|Bc tbk [] R R<|Ap (out2,(IntKind.i64.wrap (i2 + (1 : Int)))) (ob2,cap2) hm (Ag [0] R R)
  exact A7<|As (ob2,cap2) hm (Ag [0] R R)
 exact Ae tbk [] R R<|Rg2 hm R [0] ob3 cap3 (.cons (.tmp _ _ R) .nil) R R

/-! trireme/triremeref06.hard -/
def ref06_hard (n : Int) : Option Bool :=
 some ((n == 1) || (n == 3))
theorem K203 (n : Int) : VS Tryz.prog 215 (ref06_hard n) [Iw n] [] .bool N0 := by
 refine A4 [.tmp 2] Tryz.func215 R R R fun r hm=>?_
 unfold ref06_hard at hm
 exact Ae tbk [] R R<|Ai<|Aa tbk [] 3 R R<|Cr tbk [] 3 8 5 R R R R R<|Ab R R (Ak R)<|Ac<|Rt1 hm R [] R R R

/-! trireme/triremeref06.Allows -/
def ref06_Allows.l1 (r : List T_api_Taint) : Nat → Int → Option (Out Bool Unit)
 | 0, _ => none
 | n + 1, i2 =>
  if (decide (i2 < (r.length : Int))) = true then
   (V.gl r i2).bind fun x =>
   (ref06_hard x.Effect).bind fun r2 =>
   if r2 = true then
    some (Out.ret false)
   else
    ref06_Allows.l1 r n (i64.wrap (i2 + 1))
  else
   some (Out.go ())
def ref06_Allows (l : List T_api_Toleration) (taints : List T_api_Taint) : Option Bool :=
 (ref06_Unborne l taints (0 : Int)).bind fun r =>
 (ref06_Allows.l1 r FU (0 : Int)).bind fun o =>
 o.on fun j =>
 some true
theorem K204 (l : List T_api_Toleration) (taints : List T_api_Taint) : VS Tryz.prog 193 (ref06_Allows l taints) [L172 l, L166 taints] [] .bool N0 := by
 refine A4 [.tmp 4] Tryz.func193 R R R fun r hm=>?_
 unfold ref06_Allows at hm
 refine Ae tbk [] R R<|Ai<|Aa tbk [] 2 R R<|Ad R R<|B3 hm 0 R fn211 R (K202 _ _ _) fun r ob cap hm=>Bl (A6 0 [(9,L166 r)] R ⟨⟨_,R,.here _ R⟩,trivial⟩ (FzH.refl _))<|Ab R R (Ak R)<|Ac<|Af<|Ae tbk [] R R<|Bw hm (fun _ (_:Unit)=>[]) (fun _ (_:Unit)=>[]) (fun o hm h4=>?_) fun j _ hm=> ?_
 ·refine B1 (fun zn (zs:Int)=>ref06_Allows.l1 r zn zs) (fun zs (_:Unit)=>[(5,L166 r),(6,Iw zs)]) (fun _ (_:Unit)=>[]) _ () (fun _=>R) hm (Ag [] R R) fun n i2 _ hm=> ?_
  rw [ref06_Allows.l1] at hm
  exact Af<|Ai<|Aa tbk [] 2 R R<|Ab R R (Aw T_api_Taint.vv R Cc)<|Ab R R (Ba R R R)<|Ac<|Ao hm R (fun h5 hm=>Am<|Af<|A2<|Ai<|Aa tbk [] 2 R R<|Bd hm fun x h6 hm=>Ab R R (Bf T_api_Taint.vv R R el59 h6)<|Aa tbk [] 2 R R<|Ad R R<|Av hm 0 R fn215 R (K203 _) fun r2 hm=>Ac<|Ao hm R (fun h8 hm=>Ae tbk [] R R<|have hm:=Lr hm h4;Rt1 hm R [] R R R) fun h8 hm=>Am<|Bc tbk [] R R<|Ap _ () hm (Ag [] R R)) fun h5 hm=>A7<|Ar () hm (Ag [] R R)
 exact Ae tbk [] R R<|Rt1 hm R [] R R R

/-! trireme/triremeref10.Place -/
def ref10_Place (m : T_api_Machine) (p : T_api_Pod) : Option Int :=
 if (!m.Ready) = true then
  some 1
 else
  (ref05_Has m.Labels p.Select).bind fun r =>
  if (!r) = true then
   some 4
  else
   (ref05_All m.Labels p.Terms).bind fun r2 =>
   if (!r2) = true then
    some 5
   else
    (ref06_Allows p.Bears m.Taints).bind fun r3 =>
    if (!r3) = true then
     some 6
    else
     some 0
theorem K205 (m : T_api_Machine) (p : T_api_Pod) : VS Tryz.prog 165 (ref10_Place m p) [T_api_Machine.vv m, T_api_Pod.vv p] [] Iw N0 := by
 refine A4 [.tmp 4] Tryz.func165 R R R fun r hm=>?_
 unfold ref10_Place at hm
 exact Ai<|Ad R R<|Bg R R fun b=>Ad R R<|Bg R R fun b2=>Ab R R (Ak R)<|Ac<|Af<|Ae tbk [1] R R<|Ao hm R (fun h3 hm=>Ae tbk [] R R<|Rt1 hm R [] R R R) fun h3 hm=>Am<|Af<|Ai<|Aa tbk [1,0] 4 R R<|Ad R R<|Av hm 0 R fn63 R (K198 _ _) fun r hm=>Ab R R (B6 R)<|Ac<|Ao hm R (fun h5 hm=>Ae tbk [] R R<|Rt1 hm R [] R R R) fun h5 hm=>Am<|Af<|Ai<|Aa tbk [1,0] 4 R R<|Ad R R<|Av hm 0 R fn192 R (K200 _ _) fun r2 hm=>Ab R R (B6 R)<|Ac<|Ao hm R (fun h7 hm=>Ae tbk [] R R<|Rt1 hm R [] R R R) fun h7 hm=>Am<|Af<|Ai<|Aa tbk [0,1] 4 R R<|Ad R R<|Av hm 0 R fn193 R (K204 _ _) fun r3 hm=>Ab R R (B6 R)<|Ac<|Ao hm R (fun h9 hm=>Ae tbk [] R R<|Rt1 hm R [] R R R) fun h9 hm=>Am<|Ae tbk [] R R<|Rt1 hm R [] R R R

/-! trireme/triremeref04.Add -/
def ref04_Add (a : T_api_Res) (b : T_api_Res) : Option (T_api_Res × Int) :=
 (ref04_Right a).bind fun r =>
 (if (!r) = true then some true else (ref04_Right b).bind fun r2 =>
 some (!r2)).bind fun c =>
 if c = true then
  some ((⟨0, 0, 0, 0, 0⟩ : T_api_Res), 1)
 else
  (ref04_Right (⟨(i64.wrap (a.Cpu + b.Cpu)), (i64.wrap (a.Mem + b.Mem)), (i64.wrap (a.Disk + b.Disk)), (i64.wrap (a.Pods + b.Pods)), (i64.wrap (a.Dev + b.Dev))⟩ : T_api_Res)).bind fun r3 =>
  if (!r3) = true then
   some ((⟨0, 0, 0, 0, 0⟩ : T_api_Res), 10)
  else
   some ((⟨(i64.wrap (a.Cpu + b.Cpu)), (i64.wrap (a.Mem + b.Mem)), (i64.wrap (a.Disk + b.Disk)), (i64.wrap (a.Pods + b.Pods)), (i64.wrap (a.Dev + b.Dev))⟩ : T_api_Res), 0)
theorem K206 (a : T_api_Res) (b : T_api_Res) : VS Tryz.prog 186 (ref04_Add a b) [T_api_Res.vv a, T_api_Res.vv b] [] (fun r=>.tup [T_api_Res.vv r.1, Iw r.2]) N0 := by
 refine A4 [.cell 4 41,.tmp 5] Tryz.func186 R R R fun r hm=>?_
 unfold ref04_Add at hm
 exact Ai<|Ad R R<|Bg R R fun b2=>Ad R R<|Bg R R fun b3=>Ad R R<|A3 z41 fun b4=>Ab R R (Ak R)<|Ac<|Af<|Ai<|Aa tbk [2] 1 R R<|Ad R R<|Av hm 0 R fn111 R (K150 _) fun r hm=>Aa tbk [] 2 R R<|Bh hm 4 14 10 R (fun _ K' h5 J hm=>Aa tbk [] 4 R R<|J 3 R R (Bj hm)) (fun _ K' h5 J hm=>Aa tbk [1] 1 R R<|A1 R R R R R<|Av hm 0 R fn111 R (K150 _) fun r2 hm=>Aa tbk [] 2 R R<|J 3 R R (Bj hm)) fun c hm=>Ac<|Ao hm R (fun h8 hm=>Ai<|Ab R R (B4 pl41 R R)<|Ad R R<|An (i:=0) R R R ld41 R R R<|Ab R R (Ak R)<|Ac<|Rt0 hm R [] (.cons (.cell _ _ _ _ 0 _ _ _ _ R R ld41 R) (.cons (.tmp _ _ R) .nil)) R R) fun h8 hm=>Am<|Ai<|Aa tbk [2,1,2,1,2,1,2,1,2,1] 25 R R<|Ab R R (B4 pl41 R R)<|Ad R R<|A3 z41 fun b5=>Ad R R<|An (i:=0) R R R ld41 R R R<|Ac<|Af<|Ai<|Aa tbk [0] 1 R R<|Ad R R<|Av hm 0 R fn111 R (K150 _) fun r3 hm=>Ab R R (B6 R)<|Ac<|Ao hm R (fun h11 hm=>Ai<|Ab R R (B4 pl41 R R)<|Ad R R<|An (i:=1) R R R ld41 R R R<|Ab R R (Ak R)<|Ac<|Rt0 hm R [] (.cons (.cell _ _ _ _ 1 _ _ _ _ R R ld41 R) (.cons (.tmp _ _ R) .nil)) R R) fun h11 hm=>Am<|Ai<|Aa tbk [0] 1 R R<|Ad R R<|An (i:=1) R R R ld41 R R R<|Ab R R (Ak R)<|Ac<|Rt0 hm R [] (.cons (.cell _ _ _ _ 1 _ _ _ _ R R ld41 R) (.cons (.tmp _ _ R) .nil)) R R

/-! trireme/triremeref09.Used -/
def ref09_Used.l1 (r : List T_api_Pod) : Nat → Int → Option (Out (T_api_Res × Int) Unit)
 | 0, _ => none
 | n + 1, i2 =>
  if (decide (i2 < (r.length : Int))) = true then
   (V.gl r i2).bind fun x =>
   (ref04_Right x.Need).bind fun r2 =>
   if (!r2) = true then
    some (Out.ret ((⟨0, 0, 0, 0, 0⟩ : T_api_Res), 12))
   else
    ref09_Used.l1 r n (i64.wrap (i2 + 1))
  else
   some (Out.go ())
def ref09_Used.l2 (r : List T_api_Pod) : Nat → T_api_Res → Int → Option (Out (T_api_Res × Int) T_api_Res)
 | 0, _, _ => none
 | n2 + 1, sum2, i4 =>
  if (decide (i4 < (r.length : Int))) = true then
   (V.gl r i4).bind fun x2 =>
   (ref04_Add sum2 x2.Need).bind fun r3 =>
   if (r3.2 != 0) = true then
    some (Out.ret ((⟨0, 0, 0, 0, 0⟩ : T_api_Res), r3.2))
   else
    ref09_Used.l2 r n2 r3.1 (i64.wrap (i4 + 1))
  else
   some (Out.go sum2)
def ref09_Used (bs : List T_api_Bound) (name : ByteArray) : Option (T_api_Res × Int) :=
 (ref09_On bs name).bind fun r =>
 (ref09_Used.l1 r FU (0 : Int)).bind fun o =>
 o.on fun j =>
 (ref09_Used.l2 r FU (⟨0, 0, 0, 0, 0⟩ : T_api_Res) (0 : Int)).bind fun o2 =>
 o2.on fun sum32 =>
 some (sum32, 0)
theorem K207 (bs : List T_api_Bound) (name : ByteArray) : VS Tryz.prog 146 (ref09_Used bs name) [L49 bs, .str name] [] (fun r=>.tup [T_api_Res.vv r.1, Iw r.2]) N0 := by
 refine A4 [.cell 4 41,.tmp 5] Tryz.func146 R R R fun r hm=>?_
 unfold ref09_Used at hm
 refine Ai<|Ad R R<|A3 z41 fun b=>Ab R R (Ak R)<|Ac<|Ai<|Aa tbk [] 2 R R<|Ad R R<|B3 hm 0 R fn62 R (K172 _ _) fun r ob cap hm=>Bl (A6 0 [(14,L47 r)] R ⟨⟨_,R,.here _ R⟩,trivial⟩ (FzH.refl _))<|Ab R R (Ak R)<|Ac<|Af<|Ae tbk [] R R<|Bw hm (fun _ (_:Unit)=>[(4,.ptr b 0),(6,L47 r)]) (fun _ (_:Unit)=>[X41 b (⟨(0 : Int),(0 : Int),(0 : Int),(0 : Int),(0 : Int)⟩ : T_api_Res)]) (fun o hm h5=>?_) fun j _ hm=> ?_
 ·refine B1 (fun zn (zs:Int)=>ref09_Used.l1 r zn zs) (fun zs (_:Unit)=>[(4,.ptr b 0),(6,L47 r),(7,Iw zs)]) (fun _ (_:Unit)=>[X41 b (⟨(0 : Int),(0 : Int),(0 : Int),(0 : Int),(0 : Int)⟩ : T_api_Res)]) _ () (fun _=>R) hm (Ag [0] R R) fun n i2 _ hm=> ?_
  rw [ref09_Used.l1] at hm
  exact Af<|Ai<|Aa tbk [] 2 R R<|Ab R R (Aw T_api_Pod.vv R Cy)<|Ab R R (Ba R R R)<|Ac<|Ao hm R (fun h6 hm=>Am<|Af<|A2<|Ai<|Aa tbk [] 2 R R<|Bd hm fun x h7 hm=>Ab R R (Bf T_api_Pod.vv R R el55 h7)<|Aa tbk [] 2 R R<|Ad R R<|Av hm 0 R fn111 R (K150 _) fun r2 hm=>Ab R R (B6 R)<|Ac<|Ao hm R (fun h9 hm=>Ai<|Ab R R (B4 pl41 R R)<|Ad R R<|An (i:=0) R R R ld41 R R R<|Ab R R (Ak R)<|Ac<|have hm:=Lr hm h5;Rt0 hm R [] (.cons (.cell _ _ _ _ 0 _ _ _ _ R R ld41 R) (.cons (.tmp _ _ R) .nil)) R R) fun h9 hm=>Am<|Bc tbk [] R R<|Ap _ () hm (Ag [0] R R)) fun h6 hm=>A7<|Ar () hm (Ag [0] R R)
 refine Ai<|Ab R R (B4 pl41 R R)<|Ad R R<|A3 z41 fun b2=>Ad R R<|An (i:=0) R R R ld41 R R R<|Ac<|Af<|Ae tbk [] R R<|Bw hm (fun _ (_:Unit)=>[(4,.ptr b 0),(8,.ptr b2 0)]) (fun sum32 (_:Unit)=>[X41 b2 sum32,X41 b (⟨(0 : Int),(0 : Int),(0 : Int),(0 : Int),(0 : Int)⟩ : T_api_Res)]) (fun o2 hm h12=>?_) fun sum32 _ hm=> ?_
 ·refine B1 (fun zn (zs:T_api_Res × Int)=>ref09_Used.l2 r zn zs.1 zs.2) (fun zs (_:Unit)=>[(4,.ptr b 0),(6,L47 r),(8,.ptr b2 0),(9,Iw zs.2)]) (fun zs (_:Unit)=>[X41 b2 zs.1,X41 b (⟨(0 : Int),(0 : Int),(0 : Int),(0 : Int),(0 : Int)⟩ : T_api_Res)]) ((⟨(0 : Int),(0 : Int),(0 : Int),(0 : Int),(0 : Int)⟩ : T_api_Res),(0 : Int)) () (fun _=>R) hm (Ag [0,0] R R) fun n2=>Pq fun sum2 i4 _ hm=> ?_
  rw [ref09_Used.l2] at hm
  refine Af<|Ai<|Aa tbk [] 2 R R<|Ab R R (Aw T_api_Pod.vv R Cy)<|Ab R R (Ba R R R)<|Ac<|Ao hm R (fun h13 hm=>?_) fun h13 hm=> ?_
  ·refine Am<|Af<|A2<|Af<|Be 0 mixed<|Aq tbk [0,1,2] [0] (by kernel_rfl) R R R<|Bd hm fun x2 h14 hm=>Ax 3 R R R (by kernel_rfl) (Bf T_api_Pod.vv R R el55 h14)<|Aq tbk [4,5] [] (by kernel_rfl) R R R<|?_
   refine Bm [6,10] (by kernel_rfl) ⟨?_,?_,trivial⟩
   ·refine Bd hm fun r3 h15 hm=>Al R R R<|Au 0 R fn186 R (K206 sum2 x2.Need r3 h15) fun _ _ h18=> ?_
    obtain ⟨rfl,rfl⟩:=h18
    exact Aq tbk [7,8,9] [] (by kernel_rfl) R R R<|Ah 10 (by kernel_rfl)<|Al R R R<|A3 z41 fun b3=>Ah 11 (by kernel_rfl)<|Al R R R<|An (i:=0) R R R ld41 R R R<|Ax 12 R R R (by kernel_rfl) (Ak R)<|A0 (by kernel_rfl)<|Af<|Ae tbk [] R R<|Ao hm R (fun h17 hm=>Ai<|Ab R R (B4 pl41 R R)<|Ab R R (Aj R)<|Ad R R<|An (i:=2) R R R ld41 R R R<|Ab R R (Ak R)<|Ac<|have hm:=Lr hm h12;Rt0 hm R [] (.cons (.cell _ _ _ _ 2 _ _ _ _ R R ld41 R) (.cons (.tmp _ _ R) .nil)) R R) fun h17 hm=>Am<|Bn<|Aa tbk [0] 1 R R<|Ad R R<|An (i:=1) R R R ld41 R R R<|Ac<|Bc tbk [] R R<|Ap (r3.1,(IntKind.i64.wrap (i4 + (1 : Int)))) () hm (Ag [1,1] R R)
   ·refine Al R R R<|A3 z41 fun b4=>Ah 6 (by kernel_rfl)<|Bd hm fun r4 h20 hm=>Al R R R<|Au 0 R fn186 R (K206 sum2 x2.Need r4 h20) fun _ _ h22=> ?_
    obtain ⟨rfl,rfl⟩:=h22
    exact Aq tbk [7,8,9] [] (by kernel_rfl) R R R<|Ah 11 (by kernel_rfl)<|Al R R R<|An (i:=0) R R R ld41 R R R<|Ax 12 R R R (by kernel_rfl) (Ak R)<|A0 (by kernel_rfl)<|Af<|Ae tbk [] R R<|Ao hm R (fun h21 hm=>Ai<|Ab R R (B4 pl41 R R)<|Ab R R (Aj R)<|Ad R R<|An (i:=2) R R R ld41 R R R<|Ab R R (Ak R)<|Ac<|have hm:=Lr hm h12;Rt0 hm R [] (.cons (.cell _ _ _ _ 2 _ _ _ _ R R ld41 R) (.cons (.tmp _ _ R) .nil)) R R) fun h21 hm=>Am<|Bn<|Aa tbk [0] 1 R R<|Ad R R<|An (i:=1) R R R ld41 R R R<|Ac<|Bc tbk [] R R<|Ap (r4.1,(IntKind.i64.wrap (i4 + (1 : Int)))) () hm (Ag [1,1] R R)
  exact A7<|Ar () hm (Ag [0,0] R R)
 exact Ai<|Aa tbk [0] 1 R R<|Ad R R<|An (i:=1) R R R ld41 R R R<|Ab R R (Ak R)<|Ac<|Rt0 hm R [] (.cons (.cell _ _ _ _ 1 _ _ _ _ R R ld41 R) (.cons (.tmp _ _ R) .nil)) R R

/-! trireme/triremeref09.Left -/
def ref09_Left (m : T_api_Machine) (bs : List T_api_Bound) : Option T_api_Res :=
 (ref09_Used bs m.Name).bind fun r =>
 (if (r.2 != 0) = true then some true else (ref04_Right m.Has).bind fun r2 =>
 some (!r2)).bind fun c =>
 if c = true then
  some (⟨0, 0, 0, 0, 0⟩ : T_api_Res)
 else
  some (⟨(max 0 (i64.wrap (m.Has.Cpu - r.1.Cpu))), (max 0 (i64.wrap (m.Has.Mem - r.1.Mem))), (max 0 (i64.wrap (m.Has.Disk - r.1.Disk))), (max 0 (i64.wrap (m.Has.Pods - r.1.Pods))), (max 0 (i64.wrap (m.Has.Dev - r.1.Dev)))⟩ : T_api_Res)
theorem K208 (m : T_api_Machine) (bs : List T_api_Bound) : VS Tryz.prog 195 (ref09_Left m bs) [T_api_Machine.vv m, L49 bs] [] (fun r=>T_api_Res.vv r) N0 := by
 refine A4 [.cell 4 41] Tryz.func195 R R R fun r hm=>?_
 unfold ref09_Left at hm
 exact Ai<|Ad R R<|Bg R R fun b=>Ad R R<|A3 z41 fun b2=>Ac<|Ai<|Aa tbk [1] 3 R R<|Ad R R<|Av hm 0 R fn146 R (K207 _ _) fun r hm=>Aa tbk [] 3 R R<|Ad R R<|A3 z41 fun b3=>Ad R R<|An (i:=0) R R R ld41 R R R<|Ab R R (Ak R)<|Ac<|Af<|Ai<|Aa tbk [] 3 R R<|Bh hm 5 22 17 R (fun _ K' h5 J hm=>Aa tbk [] 5 R R<|J 4 R R (Bj hm)) (fun _ K' h5 J hm=>Aa tbk [2] 2 R R<|A1 R R R R R<|Av hm 0 R fn111 R (K150 _) fun r2 hm=>Aa tbk [] 2 R R<|J 4 R R (Bj hm)) fun c hm=>Ac<|Ao hm R (fun h8 hm=>Ai<|Ab R R (B4 pl41 R R)<|Ad R R<|An (i:=1) R R R ld41 R R R<|Ac<|Rt0 hm R [] (.cons (.cell _ _ _ _ 1 _ _ _ _ R R ld41 R) .nil) R R) fun h8 hm=>Am<|Ai<|Aa tbk [2] 2 R R<|Ad R R<|A3 z41 fun b4=>Ad R R<|An (i:=0) R R R ld41 R R R<|Ac<|Ai<|Aa tbk [0,1] 5 R R<|Ab R R (Dy R R)<|Aa tbk [0,1] 5 R R<|Ab R R (Dy R R)<|Aa tbk [0,1] 5 R R<|Ab R R (Dy R R)<|Aa tbk [0,1] 5 R R<|Ab R R (Dy R R)<|Aa tbk [0,1] 5 R R<|Ab R R (Dy R R)<|Ab R R (B4 pl41 R R)<|Ad R R<|An (i:=2) R R R ld41 R R R<|Ac<|Rt0 hm R [] (.cons (.cell _ _ _ _ 2 _ _ _ _ R R ld41 R) .nil) R R

/-! trireme/triremeref04.Fits -/
def ref04_Fits (a : T_api_Res) (b : T_api_Res) : Option Bool :=
 (ref04_Right a).bind fun r =>
 (if r = true then (ref04_Right b).bind fun r2 =>
 some r2 else some false).bind fun c =>
 some (((((c && (decide (a.Cpu ≤ b.Cpu))) && (decide (a.Mem ≤ b.Mem))) && (decide (a.Disk ≤ b.Disk))) && (decide (a.Pods ≤ b.Pods))) && (decide (a.Dev ≤ b.Dev)))
theorem K209 (a : T_api_Res) (b : T_api_Res) : VS Tryz.prog 194 (ref04_Fits a b) [T_api_Res.vv a, T_api_Res.vv b] [] .bool N0 := by
 refine A4 [.tmp 4] Tryz.func194 R R R fun r hm=>?_
 unfold ref04_Fits at hm
 exact Ai<|Ad R R<|Bg R R fun b2=>Ad R R<|Bg R R fun b3=>Ab R R (Ak R)<|Ac<|Ai<|Aa tbk [1] 1 R R<|Ad R R<|Av hm 0 R fn111 R (K150 _) fun r hm=>Ab R R (Aj R)<|Bh hm 3 10 7 R (fun _ K' h4 J hm=>Aa tbk [0] 1 R R<|A1 R R R R R<|Av hm 0 R fn111 R (K150 _) fun r2 hm=>Ab R R (Bk true R R R)<|J 2 R R (Bj hm)) (fun _ K' h4 J hm=>Aa tbk [] 3 R R<|J 2 R R (Bj hm)) fun c hm=>Ab R R (Aj R)<|B5 tbk [1,0] 6 17 11 R R R R R<|Ab R R (Aj R)<|B5 tbk [1,0] 6 24 18 R R R R R<|Ab R R (Aj R)<|B5 tbk [1,0] 6 31 25 R R R R R<|Ab R R (Aj R)<|B5 tbk [1,0] 6 38 32 R R R R R<|Ab R R (Aj R)<|B5 tbk [1,0] 6 45 39 R R R R R<|Ab R R (Ak R)<|Ac<|Rt1 hm R [] R R R

/-! trireme/triremeref10.Room -/
def ref10_Room.l3 (p : T_api_Pod) (r4 : List T_api_Pod) (i2 : Int) (k2 : Int) : Nat → Int → Option (Out (Out (Out Int Unit) Unit) Unit)
 | 0, _ => none
 | n3 + 1, j4 =>
  if (decide (j4 < (p.Ports.length : Int))) = true then
   (V.gl r4 i2).bind fun x2 =>
   (V.gl x2.Ports k2).bind fun x3 =>
   (V.gl p.Ports j4).bind fun x4 =>
   if (x3 == x4) = true then
    some (Out.ret (Out.ret (Out.ret 3)))
   else
    ref10_Room.l3 p r4 i2 k2 n3 (i64.wrap (j4 + 1))
  else
   some (Out.go ())
def ref10_Room.l2 (p : T_api_Pod) (r4 : List T_api_Pod) (i2 : Int) : Nat → Int → Option (Out (Out Int Unit) Unit)
 | 0, _ => none
 | n2 + 1, k2 =>
  (V.gl r4 i2).bind fun x =>
  if (decide (k2 < (x.Ports.length : Int))) = true then
   (ref10_Room.l3 p r4 i2 k2 FU (0 : Int)).bind fun o3 =>
   o3.on fun j5 =>
   ref10_Room.l2 p r4 i2 n2 (i64.wrap (k2 + 1))
  else
   some (Out.go ())
def ref10_Room.l1 (p : T_api_Pod) (r4 : List T_api_Pod) : Nat → Int → Option (Out Int Unit)
 | 0, _ => none
 | n + 1, i2 =>
  if (decide (i2 < (r4.length : Int))) = true then
   (ref10_Room.l2 p r4 i2 FU (0 : Int)).bind fun o2 =>
   o2.on fun j2 =>
   ref10_Room.l1 p r4 n (i64.wrap (i2 + 1))
  else
   some (Out.go ())
def ref10_Room (m : T_api_Machine) (bs : List T_api_Bound) (p : T_api_Pod) : Option Int :=
 (ref10_Others bs p.Name).bind fun r =>
 (ref09_Left m r).bind fun r2 =>
 (ref04_Fits p.Need r2).bind fun r3 =>
 if (!r3) = true then
  some 2
 else
  (ref09_On r m.Name).bind fun r4 =>
  (ref10_Room.l1 p r4 FU (0 : Int)).bind fun o =>
  o.on fun j =>
  some 0
theorem K210 (m : T_api_Machine) (bs : List T_api_Bound) (p : T_api_Pod) : VS Tryz.prog 166 (ref10_Room m bs p) [T_api_Machine.vv m, L49 bs, T_api_Pod.vv p] [] Iw N0 := by
 refine A4 [.tmp 6] Tryz.func166 R R R fun r hm=>?_
 unfold ref10_Room at hm
 refine Ai<|Ad R R<|Bg R R fun b=>Ad R R<|Bg R R fun b2=>Ab R R (Ak R)<|Ac<|Ai<|Aa tbk [0] 3 R R<|Ad R R<|B3 hm 0 R fn147 R (K174 _ _) fun r ob cap hm=>Bl (A6 0 [(15,L49 r)] R ⟨⟨_,R,.here _ R⟩,trivial⟩ (FzH.refl _))<|Ab R R (Ak R)<|Ac<|Af<|Af<|Be 0 mixed<|Aq tbk [0,1,2,3] [0,1] (by kernel_rfl) R R R<|Ah 4 (by kernel_rfl)<|Bd hm fun r2 h5 hm=>Al R R R<|Au 0 R fn195 R (K208 m r r2 h5) fun _ _ h25=> ?_
 obtain ⟨rfl,rfl⟩:=h25
 refine Ah 5 (by kernel_rfl)<|Bd hm fun r3 h6 hm=>Al R R R<|Au 0 R fn194 R (K209 p.Need r2 r3 h6) fun _ _ h24=> ?_
 obtain ⟨rfl,rfl⟩:=h24
 refine Ax 6 R R R (by kernel_rfl) (B6 R)<|A0 (by kernel_rfl)<|Ao hm R (fun h7 hm=>Ae tbk [] R R<|Rt1 hm R [] R R R) fun h7 hm=>Am<|Ai<|Aa tbk [1] 3 R R<|Ad R R<|B3 hm 0 R fn62 R (K172 _ _) fun r4 ob2 cap2 hm=>Bl (A6 0 [(26,L47 r4)] R ⟨⟨_,R,.here _ R⟩,trivial⟩ (FzH.refl _))<|Ab R R (Ak R)<|Ac<|Af<|Ae tbk [] R R<|Bw hm (fun _ (_:Unit)=>[]) (fun _ (_:Unit)=>[]) (fun o hm h11=>?_) fun j _ hm=> ?_
 ·refine B1 (fun zn (zs:Int)=>ref10_Room.l1 p r4 zn zs) (fun zs (_:Unit)=>[(5,.ptr b2 0),(8,L47 r4),(9,Iw zs)]) (fun _ (_:Unit)=>[X47 b2 p]) _ () (fun _=>R) hm (Ag [0] R R) fun n i2 _ hm=> ?_
  rw [ref10_Room.l1] at hm
  refine Af<|Ai<|Aa tbk [] 2 R R<|Ab R R (Aw T_api_Pod.vv R Cy)<|Ab R R (Ba R R R)<|Ac<|Ao hm R (fun h12 hm=>?_) fun h12 hm=> ?_
  ·refine Am<|Af<|A2<|Ae tbk [] R R<|Bw hm (fun _ (_:Unit)=>[(5,.ptr b2 0),(8,L47 r4),(9,Iw i2)]) (fun _ (_:Unit)=>[X47 b2 p]) (fun o2 hm h14=>?_) fun j2 _ hm=> ?_
   ·refine B1 (fun zn (zs:Int)=>ref10_Room.l2 p r4 i2 zn zs) (fun zs (_:Unit)=>[(5,.ptr b2 0),(8,L47 r4),(9,Iw i2),(10,Iw zs)]) (fun _ (_:Unit)=>[X47 b2 p]) _ () (fun _=>R) hm (Ag [0] R R) fun n2 k2 _ hm=> ?_
    rw [ref10_Room.l2] at hm
    refine Af<|Ai<|Aa tbk [] 3 R R<|Bd hm fun x h15 hm=>Ab R R (Bf T_api_Pod.vv R R el55 h15)<|Aa tbk [] 2 R R<|Ab R R (Aw (VV.int .i64) R Cm)<|Ab R R (Ba R R R)<|Ac<|Ao hm R (fun h16 hm=>?_) fun h16 hm=> ?_
    ·refine Am<|Af<|A2<|Ae tbk [] R R<|Bw hm (fun _ (_:Unit)=>[(5,.ptr b2 0),(8,L47 r4),(9,Iw i2),(10,Iw k2)]) (fun _ (_:Unit)=>[X47 b2 p]) (fun o3 hm h18=>?_) fun j5 _ hm=> ?_
     ·refine B1 (fun zn (zs:Int)=>ref10_Room.l3 p r4 i2 k2 zn zs) (fun zs (_:Unit)=>[(5,.ptr b2 0),(8,L47 r4),(9,Iw i2),(10,Iw k2),(11,Iw zs)]) (fun _ (_:Unit)=>[X47 b2 p]) _ () (fun _=>R) hm (Ag [0] R R) fun n3 j4 _ hm=> ?_
      rw [ref10_Room.l3] at hm
      exact Af<|Ai<|Aa tbk [0] 3 R R<|Ab R R (Aw (VV.int .i64) R Cm)<|Ab R R (Ba R R R)<|Ac<|Ao hm R (fun h19 hm=>Am<|Af<|A2<|Af<|Be 0 mixed<|Aq tbk [0,1] [] (by kernel_rfl) R R R<|Bd hm fun x2 h20 hm=>Ax 2 R R R (by kernel_rfl) (Bf T_api_Pod.vv R R el55 h20)<|Aq tbk [3,4,5] [] (by kernel_rfl) R R R<|Bd hm fun x3 h21 hm=>Ax 6 R R R (by kernel_rfl) (Bf (VV.int .i64) R R el45 h21)<|Aq tbk [7,8,9,10] [0] (by kernel_rfl) R R R<|Bd hm fun x4 h22 hm=>Ax 11 R R R (by kernel_rfl) (Bf (VV.int .i64) R R el45 h22)<|Aq tbk [12,13] [] (by kernel_rfl) R R R<|A0 (by kernel_rfl)<|Ao hm R (fun h23 hm=>Ae tbk [] R R<|have hm:=Lr hm h18;have hm:=Lr hm h14;have hm:=Lr hm h11;Rt1 hm R [] R R R) fun h23 hm=>Am<|Bc tbk [] R R<|Ap _ () hm (Ag [0] R R)) fun h19 hm=>A7<|Ar () hm (Ag [0] R R)
     exact Bc tbk [] R R<|Ap _ () hm (Ag [0] R R)
    exact A7<|Ar () hm (Ag [0] R R)
   exact Bc tbk [] R R<|Ap _ () hm (Ag [0] R R)
  exact A7<|Ar () hm (Ag [] R R)
 exact Ae tbk [] R R<|Rt1 hm R [] R R R

/-! trireme/triremeref10.Suits -/
def ref10_Suits (m : T_api_Machine) (bs : List T_api_Bound) (p : T_api_Pod) : Option Int :=
 (ref10_Place m p).bind fun r =>
 if (r != 0) = true then
  some r
 else
  (ref10_Room m bs p).bind fun r2 =>
  some r2
theorem K211 (m : T_api_Machine) (bs : List T_api_Bound) (p : T_api_Pod) : VS Tryz.prog 117 (ref10_Suits m bs p) [T_api_Machine.vv m, L49 bs, T_api_Pod.vv p] [] Iw N0 := by
 refine A4 [.tmp 6] Tryz.func117 R R R fun r hm=>?_
 unfold ref10_Suits at hm
 exact Ai<|Ad R R<|Bg R R fun b=>Ad R R<|Bg R R fun b2=>Ab R R (Ak R)<|Ac<|Ai<|Aa tbk [1,0] 2 R R<|Ad R R<|Av hm 0 R fn165 R (K205 _ _) fun r hm=>Ab R R (Ak R)<|Ac<|Af<|Ae tbk [] R R<|Ao hm R (fun h4 hm=>Ae tbk [] R R<|Rt1 hm R [] R R R) fun h4 hm=>Am<|Ai<|Aa tbk [1,0] 3 R R<|Ad R R<|Av hm 0 R fn166 R (K210 _ _ _) fun r2 hm=>Ab R R (Ak R)<|Ac<|Rt1 hm R [] R R R

/-! trireme/triremeref11.zone -/
def ref11_zone (ms : List T_api_Machine) (name : ByteArray) : Option (ByteArray × Bool) :=
 (ref09_Find ms name).bind fun r =>
 if (decide (r < 0)) = true then
  some ((⟨#[]⟩ : ByteArray), false)
 else
  (V.gl ms r).bind fun x =>
  (ref05_Get x.Labels (⟨#[122, 111, 110, 101]⟩ : ByteArray)).bind fun r2 =>
  some (r2.1, r2.2)
theorem K212 (ms : List T_api_Machine) (name : ByteArray) : VS Tryz.prog 197 (ref11_zone ms name) [L61 ms, .str name] [] (fun r=>.tup [.str r.1, .bool r.2]) N0 := by
 refine A4 [.tmp 4,.tmp 5] Tryz.func197 R R R fun r hm=>?_
 unfold ref11_zone at hm
 exact Ae tbk [] R R<|Ai<|Aa tbk [] 2 R R<|Ad R R<|Av hm 0 R fn23 R (K166 _ _) fun r hm=>Ab R R (Ak R)<|Ac<|Af<|Ae tbk [] R R<|Ao hm R (fun h2 hm=>Ae tbk [] R R<|Rt2 hm R [] R R R R) fun h2 hm=>Am<|Ai<|Aa tbk [] 2 R R<|Bd hm fun x h3 hm=>Ab R R (Bf T_api_Machine.vv R R el22 h3)<|Aa tbk [] 2 R R<|Ad R R<|Av hm 0 R fn116 R (K197 _ _) fun r2 hm=>Aa tbk [] 4 R R<|Ac<|Rt2 hm R [] R R R R

/-! trireme/triremeref11.together -/
def ref11_together (ms : List T_api_Machine) (a : ByteArray) (b : ByteArray) (wide : Bool) : Option Bool :=
 if (V.seq a b) = true then
  some true
 else
  (ref11_zone ms a).bind fun r =>
  (ref11_zone ms b).bind fun r2 =>
  some (((wide && r.2) && r2.2) && (V.seq r.1 r2.1))
theorem K213 (ms : List T_api_Machine) (a : ByteArray) (b : ByteArray) (wide : Bool) : VS Tryz.prog 196 (ref11_together ms a b wide) [L61 ms, .str a, .str b, .bool wide] [] .bool N0 := by
 refine A4 [.tmp 8] Tryz.func196 R R R fun r hm=>?_
 unfold ref11_together at hm
 exact Ae tbk [] R R<|Af<|Ae tbk [] R R<|Ao hm R (fun h1 hm=>Ae tbk [] R R<|Rt1 hm R [] R R R) fun h1 hm=>Am<|Ai<|Aa tbk [] 2 R R<|Ad R R<|Av hm 0 R fn197 R (K212 _ _) fun r hm=>Aa tbk [] 5 R R<|Ac<|Ai<|Aa tbk [] 2 R R<|Ad R R<|Av hm 0 R fn197 R (K212 _ _) fun r2 hm=>Aa tbk [] 5 R R<|Ac<|Ai<|Aa tbk [] 2 R R<|B5 tbk [] 2 31 29 R R R R R<|Ab R R (Aj R)<|B5 tbk [] 2 34 32 R R R R R<|Ab R R (Aj R)<|B5 tbk [] 4 39 35 R R R R R<|Ab R R (Ak R)<|Ac<|Rt1 hm R [] R R R

/-! trireme/triremeref11.Near -/
def ref11_Near.l1 (ms : List T_api_Machine) (bs : List T_api_Bound) (p : T_api_Pod) (on_ : ByteArray) : Nat → Int → Option (Out Bool Unit)
 | 0, _ => none
 | n + 1, i2 =>
  if (decide (i2 < (bs.length : Int))) = true then
   (V.gl bs i2).bind fun x =>
   (if (V.seq x.Pod.Name p.Name) = true then some true else (V.gl bs i2).bind fun x2 =>
   some (V.seq x2.On (⟨#[]⟩ : ByteArray))).bind fun c =>
   if c = true then
    ref11_Near.l1 ms bs p on_ n (i64.wrap (i2 + 1))
   else
    (if (decide ((p.Apart.length : Int) > 0)) = true then (ref05_Has x.Pod.Labels p.Apart).bind fun r2 =>
    some r2 else some false).bind fun c2 =>
    (if c2 = true then (V.gl bs i2).bind fun x3 =>
    (ref11_together ms on_ x3.On p.Wide).bind fun r3 =>
    some r3 else some false).bind fun c3 =>
    if c3 = true then
     some (Out.ret true)
    else
     (if (decide ((x.Pod.Apart.length : Int) > 0)) = true then (ref05_Has p.Labels x.Pod.Apart).bind fun r4 =>
     some r4 else some false).bind fun c4 =>
     (if c4 = true then (V.gl bs i2).bind fun x4 =>
     (ref11_together ms on_ x4.On x.Pod.Wide).bind fun r5 =>
     some r5 else some false).bind fun c5 =>
     if c5 = true then
      some (Out.ret true)
     else
      ref11_Near.l1 ms bs p on_ n (i64.wrap (i2 + 1))
  else
   some (Out.go ())
def ref11_Near (ms : List T_api_Machine) (bs : List T_api_Bound) (p : T_api_Pod) (on_ : ByteArray) : Option Bool :=
 (ref09_Find ms on_).bind fun r =>
 if (decide (r < 0)) = true then
  some false
 else
  (ref11_Near.l1 ms bs p on_ FU (0 : Int)).bind fun o =>
  o.on fun j =>
  some false
theorem K214 (ms : List T_api_Machine) (bs : List T_api_Bound) (p : T_api_Pod) (on_ : ByteArray) : VS Tryz.prog 167 (ref11_Near ms bs p on_) [L61 ms, L49 bs, T_api_Pod.vv p, .str on_] [] .bool N0 := by
 refine A4 [.tmp 8] Tryz.func167 R R R fun r hm=>?_
 unfold ref11_Near at hm
 refine Ai<|Ad R R<|Bg R R fun b=>Ab R R (Ak R)<|Ac<|Af<|Ai<|Aa tbk [] 2 R R<|Ad R R<|Av hm 0 R fn23 R (K166 _ _) fun r hm=>Ab R R (Ba R R R)<|Ac<|Ao hm R (fun h3 hm=>Ae tbk [] R R<|Rt1 hm R [] R R R) fun h3 hm=>Am<|Af<|Ae tbk [] R R<|Bw hm (fun _ (_:Unit)=>[]) (fun _ (_:Unit)=>[]) (fun o hm h5=>?_) fun j _ hm=> ?_
 ·refine B1 (fun zn (zs:Int)=>ref11_Near.l1 ms bs p on_ zn zs) (fun zs (_:Unit)=>[(0,L61 ms),(1,L49 bs),(3,.str on_),(6,.ptr b 0),(9,Iw zs)]) (fun _ (_:Unit)=>[X47 b p]) _ () (fun _=>R) hm (Ag [0] R R) fun n i2 _ hm=> ?_
  rw [ref11_Near.l1] at hm
  refine Af<|Ai<|Aa tbk [] 2 R R<|Ab R R (Aw T_api_Bound.vv R Bq)<|Ab R R (Ba R R R)<|Ac<|Ao hm R (fun h6 hm=>?_) fun h6 hm=> ?_
  ·refine Am<|Af<|A2<|Ai<|Aa tbk [] 2 R R<|Bd hm fun x h7 hm=>Ab R R (Bf T_api_Bound.vv R R el23 h7)<|Aa tbk [] 2 R R<|Ad R R<|A3 z47 fun b2=>Ad R R<|An (i:=0) R R R ld47 R R R<|Ac<|Af<|Ai<|Aa tbk [0,1] 6 R R<|Bh hm 7 38 31 R (fun _ K' h9 J hm=>Aa tbk [] 7 R R<|J 6 R R (Bj hm)) (fun _ K' h9 J hm=>Aa tbk [] 2 R R<|Bd hm fun x2 h10 hm=>Bb R R R R R (Bf T_api_Bound.vv R R el23 h10)<|Aa tbk [] 4 R R<|J 6 R R (Bj hm)) fun c hm=>Ac<|Ao hm R (fun h12 hm=>A7<|Bc tbk [] R R<|Ap _ () hm (Ag [1] R R)) fun h12 hm=>Am<|Af<|Af<|Be 0 mixed<|Aq tbk [0,1] [1] (by kernel_rfl) R R R<|Ax 2 R R R (by kernel_rfl) (Aw T_api_Label.vv R Bu)<|Aq tbk [3,4] [] (by kernel_rfl) R R R<|Cw hm [10,9,8,7,6,5,4,3,2,1,0] 49 43 R (fun _ K' h13 J hm=>Aq tbk [5,6,7,8] [0,1] (by kernel_rfl) R R R<|Ah 9 (by kernel_rfl)<|Bo R R R R R R<|Av hm 0 R fn63 R (K198 _ _) fun r2 hm=>Ax 10 R R R (by kernel_rfl) (Bk true R R R)<|J 5 R R (Bj hm)) (fun _ K' h13 J hm=>Aq tbk [5,6,7,8,9,10] [] (by kernel_rfl) R R R<|J 5 R R (Bj hm)) fun c2 hm=>Ax 11 R R R (by kernel_rfl) (Aj R)<|Cw hm [22,21,20,19,18,17,16,15,14,13,12,11,10,9,8,7,6,5,4,3,2,1,0] 61 50 R (fun _ K' h16 J hm=>Aq tbk [12,13,14,15] [] (by kernel_rfl) R R R<|Bd hm fun x3 h17 hm=>Cs 16 R R R R R R (by kernel_rfl) (Bf T_api_Bound.vv R R el23 h17)<|Aq tbk [17,18,19,20] [1] (by kernel_rfl) R R R<|Ah 21 (by kernel_rfl)<|Bo R R R R R R<|Av hm 0 R fn196 R (K213 _ _ _ _) fun r3 hm=>Ax 22 R R R (by kernel_rfl) (Bk true R R R)<|J 10 R R (Bj hm)) (fun _ K' h16 J hm=>Aq tbk [12,13,14,15,16,17,18,19,20,21,22] [] (by kernel_rfl) R R R<|J 10 R R (Bj hm)) fun c3 hm=>A0 (by kernel_rfl)<|Ao hm R (fun h20 hm=>Ae tbk [] R R<|have hm:=Lr hm h5;Rt1 hm R [] R R R) fun h20 hm=>Am<|Af<|Be 0 mixed<|Aq tbk [0,1] [0] (by kernel_rfl) R R R<|Ax 2 R R R (by kernel_rfl) (Aw T_api_Label.vv R Bu)<|Aq tbk [3,4] [] (by kernel_rfl) R R R<|Cw hm [10,9,8,7,6,5,4,3,2,1,0] 72 66 R (fun _ K' h21 J hm=>Aq tbk [5,6,7,8] [1,0] (by kernel_rfl) R R R<|Ah 9 (by kernel_rfl)<|Bo R R R R R R<|Av hm 0 R fn63 R (K198 _ _) fun r4 hm=>Ax 10 R R R (by kernel_rfl) (Bk true R R R)<|J 5 R R (Bj hm)) (fun _ K' h21 J hm=>Aq tbk [5,6,7,8,9,10] [] (by kernel_rfl) R R R<|J 5 R R (Bj hm)) fun c4 hm=>Ax 11 R R R (by kernel_rfl) (Aj R)<|Cw hm [22,21,20,19,18,17,16,15,14,13,12,11,10,9,8,7,6,5,4,3,2,1,0] 84 73 R (fun _ K' h24 J hm=>Aq tbk [12,13,14,15] [] (by kernel_rfl) R R R<|Bd hm fun x4 h25 hm=>Cs 16 R R R R R R (by kernel_rfl) (Bf T_api_Bound.vv R R el23 h25)<|Aq tbk [17,18,19,20] [0] (by kernel_rfl) R R R<|Ah 21 (by kernel_rfl)<|Bo R R R R R R<|Av hm 0 R fn196 R (K213 _ _ _ _) fun r5 hm=>Ax 22 R R R (by kernel_rfl) (Bk true R R R)<|J 10 R R (Bj hm)) (fun _ K' h24 J hm=>Aq tbk [12,13,14,15,16,17,18,19,20,21,22] [] (by kernel_rfl) R R R<|J 10 R R (Bj hm)) fun c5 hm=>A0 (by kernel_rfl)<|?_
   exact Ao hm R (fun h28 hm=>Ae tbk [] R R<|have hm:=Lr hm h5;Rt1 hm R [] R R R) fun h28 hm=>Am<|Bc tbk [] R R<|Ap _ () hm (Ag [1] R R)
  exact A7<|Ar () hm (Ag [] R R)
 exact Ae tbk [] R R<|Rt1 hm R [] R R R

/-! trireme/triremeref09.Zones -/
def ref09_Zones.l2 (out2 : List ByteArray) (r : ByteArray × Bool) : Nat → Bool → Int → Option Bool
 | 0, _, _ => none
 | n2 + 1, is2, k2 =>
  if (decide (k2 < (out2.length : Int))) = true then
   (if is2 = true then (V.gl out2 k2).bind fun x2 =>
   some (!(V.seq x2 r.1)) else some false).bind fun c =>
   ref09_Zones.l2 out2 r n2 c (i64.wrap (k2 + 1))
  else
   some is2
def ref09_Zones.l1 (ms : List T_api_Machine) : Nat → (List ByteArray) → Int → Option (List ByteArray)
 | 0, _, _ => none
 | n + 1, out2, i2 =>
  if (decide (i2 < (ms.length : Int))) = true then
   (V.gl ms i2).bind fun x =>
   (ref05_Get x.Labels (⟨#[122, 111, 110, 101]⟩ : ByteArray)).bind fun r =>
   (ref09_Zones.l2 out2 r FU r.2 (0 : Int)).bind fun is32 =>
   (if is32 = true then (V.gl ms i2).bind fun x3 =>
   some x3.Ready else some false).bind fun c2 =>
   if c2 = true then
    (V.ap 16 out2 [r.1]).bind fun out4 =>
    ref09_Zones.l1 ms n out4 (i64.wrap (i2 + 1))
   else
    ref09_Zones.l1 ms n out2 (i64.wrap (i2 + 1))
  else
   some out2
def ref09_Zones (ms : List T_api_Machine) : Option (List ByteArray) :=
 (ref09_Zones.l1 ms FU ([] : List ByteArray) (0 : Int)).bind fun out32 =>
 some out32
theorem K215 (ms : List T_api_Machine) : VS2 Tryz.prog 216 (ref09_Zones ms) [L61 ms] [] (fun r ob0 cap0=>Z9 ob0 r cap0) (fun r ob0 cap0=>[Q9 ob0 cap0 r]) := by
 refine Cf [.tmp 2] Tryz.func216 R R R fun r hm=>?_
 unfold ref09_Zones at hm
 refine Ae tbk [] R R<|Ae tbk [] R R<|Af<|Ae tbk [] R R<|Cn hm (fun out32 (gg:Option Nat × Nat)=>[(3,Z9 gg.1 out32 gg.2)]) (fun out32 (gg:Option Nat × Nat)=>[Q9 gg.1 gg.2 out32]) (fun o hm=>?_) fun out32=>Pq fun ob3 cap3 hm=> ?_
 ·refine B1 (fun zn (zs:List ByteArray × Int)=>ref09_Zones.l1 ms zn zs.1 zs.2) (fun zs (zg:Option Nat × Nat)=>[(0,L61 ms),(3,Z9 zg.1 zs.1 zg.2),(4,Iw zs.2)]) (fun zs (zg:Option Nat × Nat)=>[Q9 zg.1 zg.2 zs.1]) (([] : List ByteArray),(0 : Int)) (none,0) (fun _=>R) hm (Ct (Bx 9) (Ag [0] R R)) fun n=>Pq fun out2 i2=>Pq fun ob2 cap2 hm=> ?_
  rw [ref09_Zones.l1] at hm
  refine Af<|Ai<|Aa tbk [] 2 R R<|Ab R R (Aw T_api_Machine.vv R Ay)<|Ab R R (Ba R R R)<|Ac<|Ao hm R (fun h5 hm=>?_) fun h5 hm=> ?_
  ·refine Am<|Af<|A2<|Ai<|Aa tbk [] 2 R R<|Bd hm fun x h6 hm=>Ab R R (Bf T_api_Machine.vv R R el22 h6)<|Aa tbk [] 2 R R<|Ad R R<|Av hm 0 R fn116 R (K197 _ _) fun r hm=>Aa tbk [] 5 R R<|Ac<|Af<|Ae tbk [] R R<|Cn hm (fun is32 (_:Unit)=>[(0,L61 ms),(3,Z9 ob2 out2 cap2),(4,Iw i2),(5,.str r.1),(6,.bool is32)]) (fun _ (_:Unit)=>[Q9 ob2 cap2 out2]) (fun o2 hm=>?_) fun is32 _ hm=> ?_
   ·refine B1 (fun zn (zs:Bool × Int)=>ref09_Zones.l2 out2 r zn zs.1 zs.2) (fun zs (_:Unit)=>[(0,L61 ms),(3,Z9 ob2 out2 cap2),(4,Iw i2),(5,.str r.1),(6,.bool zs.1),(7,Iw zs.2)]) (fun _ (_:Unit)=>[Q9 ob2 cap2 out2]) (r.2,(0 : Int)) () (fun _=>R) hm (Ag [0] R R) fun n2=>Pq fun is2 k2 _ hm=> ?_
    rw [ref09_Zones.l2] at hm
    refine Af<|Ai<|Aa tbk [] 2 R R<|Ab R R (Cq VV.str R B2)<|Ab R R (Ba R R R)<|Ac<|Ao hm R (fun h10 hm=>?_) fun h10 hm=> ?_
    ·refine Am<|Af<|A2<|Bn<|Aa tbk [] 2 R R<|Bh hm 7 37 30 R (fun _ K' h11 J hm=>?_) (fun _ K' h11 J hm=>Aa tbk [] 7 R R<|J 6 R R (Bj hm)) fun c hm=> ?_
     ·refine Aa tbk [] 2 R R<|Bd hm fun x2 h12 hm=>Df 0 R (gl_pos VV.str h12) fun b h13=> ?_
      subst h13
      exact Bb R R R R R (Di VV.str R R el25 h12)<|Bb R R R R R (C9 (i:=0) (y:=VV.str x2) R R R (gl_map _ (gl_some h12).2) ld9 R)<|Aa tbk [] 3 R R<|J 6 R R (Bj hm)
     exact Ab R R (Ak R)<|Ac<|Bc tbk [] R R<|Ap (c,(IntKind.i64.wrap (k2 + (1 : Int)))) () hm (Ag [0] R R)
    exact A7<|As () hm (Ag [0] R R)
   exact Ai<|Aa tbk [] 2 R R<|Bh hm 6 45 39 R (fun _ K' h15 J hm=>Aa tbk [] 2 R R<|Bd hm fun x3 h16 hm=>Bb R R R R R (Bf T_api_Machine.vv R R el22 h16)<|Aa tbk [] 3 R R<|J 5 R R (Bj hm)) (fun _ K' h15 J hm=>Aa tbk [] 6 R R<|J 5 R R (Bj hm)) fun c2 hm=>Ac<|Ao hm R (fun h18 hm=>Bn<|Aa tbk [] 2 R R<|Ad R R<|A5 ap25 R R R R R fun b2=>Bd hm fun out4 h20 hm=>Ad R R<|Ch 1 VV.str (l:=out2) (l2:=[r.1]) ap25 R R (sT_row 0 VV.str el25 R R) h20 fun ob4 cap4=>Ab R R (Ak R)<|Ac<|Bc tbk [] R R<|Ap (out4,(IntKind.i64.wrap (i2 + (1 : Int)))) (ob4,cap4) hm (Ag [1] R R)) fun h18 hm=>Am<|Bc tbk [] R R<|Ap (out2,(IntKind.i64.wrap (i2 + (1 : Int)))) (ob2,cap2) hm (Ag [0] R R)
  exact A7<|As (ob2,cap2) hm (Ag [0] R R)
 exact Ae tbk [] R R<|Rg2 hm R [0] ob3 cap3 (.cons (.tmp _ _ R) .nil) R R

/-! trireme/triremeref11.Counts -/
def ref11_Counts.l2 (ms : List T_api_Machine) (bs : List T_api_Bound) (p : T_api_Pod) (r : List ByteArray) (i2 : Int) : Nat → Int → Int → Option Int
 | 0, _, _ => none
 | n5 + 1, k2, j2 =>
  if (decide (j2 < (bs.length : Int))) = true then
   (V.gl bs j2).bind fun x =>
   (ref11_zone ms x.On).bind fun r2 =>
   (V.gl bs j2).bind fun x2 =>
   (if (!(V.seq x2.On (⟨#[]⟩ : ByteArray))) = true then (V.gl bs j2).bind fun x3 =>
   some (!(V.seq x3.Pod.Name p.Name)) else some false).bind fun c =>
   (if (c && r2.2) = true then (V.gl r i2).bind fun x4 =>
   some (V.seq r2.1 x4) else some false).bind fun c2 =>
   (if c2 = true then (V.gl bs j2).bind fun x5 =>
   (ref05_Has x5.Pod.Labels p.Spread).bind fun r3 =>
   some r3 else some false).bind fun c3 =>
   if c3 = true then
    ref11_Counts.l2 ms bs p r i2 n5 (i64.wrap (k2 + 1)) (i64.wrap (j2 + 1))
   else
    ref11_Counts.l2 ms bs p r i2 n5 k2 (i64.wrap (j2 + 1))
  else
   some k2
def ref11_Counts.l1 (ms : List T_api_Machine) (bs : List T_api_Bound) (p : T_api_Pod) (r : List ByteArray) : Nat → (List Int) → Int → Option (List Int)
 | 0, _, _ => none
 | n4 + 1, n2, i2 =>
  if (decide (i2 < (r.length : Int))) = true then
   (ref11_Counts.l2 ms bs p r i2 FU 0 (0 : Int)).bind fun k32 =>
   (V.ap 8 n2 [k32]).bind fun n6 =>
   ref11_Counts.l1 ms bs p r n4 n6 (i64.wrap (i2 + 1))
  else
   some n2
def ref11_Counts (ms : List T_api_Machine) (bs : List T_api_Bound) (p : T_api_Pod) : Option (List ByteArray × List Int) :=
 (ref09_Zones ms).bind fun r =>
 (ref11_Counts.l1 ms bs p r FU ([] : List Int) (0 : Int)).bind fun n32 =>
 some (r, n32)
theorem K216 (ms : List T_api_Machine) (bs : List T_api_Bound) (p : T_api_Pod) : VS2 Tryz.prog 198 (ref11_Counts ms bs p) [L61 ms, L49 bs, T_api_Pod.vv p] [] (fun r ob1 cap1=>.tup [L9 r.1, Z3 ob1 r.2 cap1]) (fun r ob1 cap1=>[Q3 ob1 cap1 r.2]) := by
 refine Cf [.tmp 6,.tmp 7] Tryz.func198 R R R fun r hm=>?_
 unfold ref11_Counts at hm
 refine Ai<|Ad R R<|Bg R R fun b=>Aa tbk [] 2 R R<|Ac<|Ai<|Ab R R (Aj R)<|Ad R R<|B3 hm 0 R fn216 R (K215 _) fun r ob cap hm=>Bl (A6 0 [(16,L9 r)] R ⟨⟨_,R,.here _ R⟩,trivial⟩ (FzH.refl _))<|Ab R R (Ak R)<|Ac<|Ae tbk [] R R<|Af<|Ae tbk [] R R<|Cn hm (fun n32 (gg:Option Nat × Nat)=>[(8,L9 r),(9,Z3 gg.1 n32 gg.2)]) (fun n32 (gg:Option Nat × Nat)=>[Q3 gg.1 gg.2 n32]) (fun o hm=>?_) fun n32=>Pq fun ob4 cap4 hm=> ?_
 ·refine B1 (fun zn (zs:List Int × Int)=>ref11_Counts.l1 ms bs p r zn zs.1 zs.2) (fun zs (zg:Option Nat × Nat)=>[(0,L61 ms),(1,L49 bs),(5,.ptr b 0),(8,L9 r),(9,Z3 zg.1 zs.1 zg.2),(10,Iw zs.2)]) (fun zs (zg:Option Nat × Nat)=>[Q3 zg.1 zg.2 zs.1,X47 b p]) (([] : List Int),(0 : Int)) (none,0) (fun _=>R) hm (Ct (Bx 3) (Ag [0,0] R R)) fun n4=>Pq fun n2 i2=>Pq fun ob3 cap3 hm=> ?_
  rw [ref11_Counts.l1] at hm
  refine Af<|Ai<|Aa tbk [] 2 R R<|Ab R R (Aw VV.str R B2)<|Ab R R (Ba R R R)<|Ac<|Ao hm R (fun h8 hm=>?_) fun h8 hm=> ?_
  ·refine Am<|Af<|A2<|Ae tbk [] R R<|Af<|Ae tbk [] R R<|Cn hm (fun k32 (_:Unit)=>[(0,L61 ms),(1,L49 bs),(5,.ptr b 0),(8,L9 r),(9,Z3 ob3 n2 cap3),(10,Iw i2),(11,Iw k32)]) (fun _ (_:Unit)=>[Q3 ob3 cap3 n2,X47 b p]) (fun o2 hm=>?_) fun k32 _ hm=> ?_
   ·refine B1 (fun zn (zs:Int × Int)=>ref11_Counts.l2 ms bs p r i2 zn zs.1 zs.2) (fun zs (_:Unit)=>[(0,L61 ms),(1,L49 bs),(5,.ptr b 0),(8,L9 r),(9,Z3 ob3 n2 cap3),(10,Iw i2),(11,Iw zs.1),(12,Iw zs.2)]) (fun _ (_:Unit)=>[Q3 ob3 cap3 n2,X47 b p]) ((0 : Int),(0 : Int)) () (fun _=>R) hm (Ag [0,0] R R) fun n5=>Pq fun k2 j2 _ hm=> ?_
    rw [ref11_Counts.l2] at hm
    refine Af<|Ai<|Aa tbk [] 2 R R<|Ab R R (Aw T_api_Bound.vv R Bq)<|Ab R R (Ba R R R)<|Ac<|Ao hm R (fun h11 hm=>?_) fun h11 hm=> ?_
    ·exact Am<|Af<|A2<|Ai<|Aa tbk [] 3 R R<|Bd hm fun x h12 hm=>Ab R R (Bf T_api_Bound.vv R R el23 h12)<|Aa tbk [] 2 R R<|Ad R R<|Av hm 0 R fn197 R (K212 _ _) fun r2 hm=>Aa tbk [] 5 R R<|Ac<|Af<|Be 0 mixed<|Aq tbk [0,1] [] (by kernel_rfl) R R R<|Bd hm fun x2 h14 hm=>Ax 2 R R R (by kernel_rfl) (Bf T_api_Bound.vv R R el23 h14)<|Aq tbk [3,4,5,6] [] (by kernel_rfl) R R R<|Cw hm [16,15,14,13,12,11,10,9,8,7,6,5,4,3,2,1,0] 55 45 R (fun _ K' h15 J hm=>Aq tbk [7,8] [] (by kernel_rfl) R R R<|Bd hm fun x3 h16 hm=>Cs 9 R R R R R R (by kernel_rfl) (Bf T_api_Bound.vv R R el23 h16)<|Aq tbk [10,11,12,13,14,15,16] [1] (by kernel_rfl) R R R<|J 9 R R (Bj hm)) (fun _ K' h15 J hm=>Aq tbk [7,8,9,10,11,12,13,14,15,16] [] (by kernel_rfl) R R R<|J 9 R R (Bj hm)) fun c hm=>Ax 17 R R R (by kernel_rfl) (Aj R)<|Dv [19,18,17,16,15,14,13,12,11,10,9,8,7,6,5,4,3,2,1,0] 58 56 R (fun h18 K' J=>Aq tbk [18,19] [] (by kernel_rfl) R R R<|J 1 R R R) (fun K' J=>Aq tbk [18,19] [] (by kernel_rfl) R R R<|J 1 R R R)<|Ax 20 R R R (by kernel_rfl) (Aj R)<|Cw hm [27,26,25,24,23,22,21,20,19,18,17,16,15,14,13,12,11,10,9,8,7,6,5,4,3,2,1,0] 66 59 R (fun _ K' h19 J hm=>Aq tbk [21,22,23] [] (by kernel_rfl) R R R<|Bd hm fun x4 h20 hm=>Cs 24 R R R R R R (by kernel_rfl) (Bf VV.str R R el25 h20)<|Aq tbk [25,26,27] [] (by kernel_rfl) R R R<|J 6 R R (Bj hm)) (fun _ K' h19 J hm=>Aq tbk [21,22,23,24,25,26,27] [] (by kernel_rfl) R R R<|J 6 R R (Bj hm)) fun c2 hm=>Ax 28 R R R (by kernel_rfl) (Aj R)<|Cw hm [38,37,36,35,34,33,32,31,30,29,28,27,26,25,24,23,22,21,20,19,18,17,16,15,14,13,12,11,10,9,8,7,6,5,4,3,2,1,0] 77 67 R (fun _ K' h22 J hm=>Aq tbk [29,30] [] (by kernel_rfl) R R R<|Bd hm fun x5 h23 hm=>Cs 31 R R R R R R (by kernel_rfl) (Bf T_api_Bound.vv R R el23 h23)<|Aq tbk [32,33,34,35,36] [1] (by kernel_rfl) R R R<|Ah 37 (by kernel_rfl)<|Bo R R R R R R<|Av hm 0 R fn63 R (K198 _ _) fun r3 hm=>Ax 38 R R R (by kernel_rfl) (Bk true R R R)<|J 9 R R (Bj hm)) (fun _ K' h22 J hm=>Aq tbk [29,30,31,32,33,34,35,36,37,38] [] (by kernel_rfl) R R R<|J 9 R R (Bj hm)) fun c3 hm=>A0 (by kernel_rfl)<|Ao hm R (fun h26 hm=>Bc tbk [] R R<|Bc tbk [] R R<|Ap ((IntKind.i64.wrap (k2 + (1 : Int))),(IntKind.i64.wrap (j2 + (1 : Int)))) () hm (Ag [0,0] R R)) fun h26 hm=>Am<|Bc tbk [] R R<|Ap (k2,(IntKind.i64.wrap (j2 + (1 : Int)))) () hm (Ag [0,0] R R)
    exact A7<|As () hm (Ag [0,0] R R)
   exact Bn<|Aa tbk [] 2 R R<|Ad R R<|A5 ap45 R R R R R fun b2=>Bd hm fun n6 h28 hm=>Ad R R<|Ch 1 (VV.int .i64) (l:=n2) (l2:=[k32]) ap45 R R (sT_row 0 (VV.int .i64) el45 R R) h28 fun ob5 cap5=>Ab R R (Ak R)<|Ac<|Bc tbk [] R R<|Ap (n6,(IntKind.i64.wrap (i2 + (1 : Int)))) (ob5,cap5) hm (Ag [1,1] R R)
  exact A7<|As (ob3,cap3) hm (Ag [0] R R)
 exact Ae tbk [] R R<|Rg2 hm R [0] ob4 cap4 (.cons (.tmp _ _ R) (.cons (.tmp _ _ R) .nil)) R R

/-! trireme/triremeref11.Many -/
def ref11_Many.l1 (r2 : ByteArray × Bool) (r3 : List ByteArray × List Int) : Nat → Int → Int → Int → Option (Int × Int)
 | 0, _, _, _ => none
 | n + 1, mine2, least2, i2 =>
  if (decide (i2 < (r3.1.length : Int))) = true then
   (if (i2 == 0) = true then some true else (V.gl r3.2 i2).bind fun x =>
   some (decide (x < least2))).bind fun c2 =>
   if c2 = true then
    (V.gl r3.2 i2).bind fun x2 =>
    (if r2.2 = true then (V.gl r3.1 i2).bind fun x3 =>
    some (V.seq x3 r2.1) else some false).bind fun c3 =>
    if c3 = true then
     (V.gl r3.2 i2).bind fun x4 =>
     ref11_Many.l1 r2 r3 n x4 x2 (i64.wrap (i2 + 1))
    else
     ref11_Many.l1 r2 r3 n mine2 x2 (i64.wrap (i2 + 1))
   else
    (if r2.2 = true then (V.gl r3.1 i2).bind fun x5 =>
    some (V.seq x5 r2.1) else some false).bind fun c4 =>
    if c4 = true then
     (V.gl r3.2 i2).bind fun x6 =>
     ref11_Many.l1 r2 r3 n x6 least2 (i64.wrap (i2 + 1))
    else
     ref11_Many.l1 r2 r3 n mine2 least2 (i64.wrap (i2 + 1))
  else
   some (mine2, least2)
def ref11_Many (ms : List T_api_Machine) (bs : List T_api_Bound) (p : T_api_Pod) (on_ : ByteArray) : Option Bool :=
 (if ((p.Spread.length : Int) == 0) = true then some true else (ref09_Find ms on_).bind fun r =>
 some (decide (r < 0))).bind fun c =>
 if c = true then
  some false
 else
  (ref11_zone ms on_).bind fun r2 =>
  (ref11_Counts ms bs p).bind fun r3 =>
  (ref11_Many.l1 r2 r3 FU (-1) 0 (0 : Int)).bind fun j =>
  if (decide (j.1 < 0)) = true then
   some true
  else
   (ref05_Has p.Labels p.Spread).bind fun r4 =>
   if r4 = true then
    some (decide ((i64.wrap ((i64.wrap (j.1 + 1)) - j.2)) > p.Skew))
   else
    some (decide ((i64.wrap (j.1 - j.2)) > p.Skew))
theorem K217 (ms : List T_api_Machine) (bs : List T_api_Bound) (p : T_api_Pod) (on_ : ByteArray) : VS Tryz.prog 168 (ref11_Many ms bs p on_) [L61 ms, L49 bs, T_api_Pod.vv p, .str on_] [] .bool N0 := by
 refine A4 [.tmp 8] Tryz.func168 R R R fun r hm=>?_
 unfold ref11_Many at hm
 refine Ai<|Ad R R<|Bg R R fun b=>Ab R R (Ak R)<|Ac<|Af<|Ai<|Aa tbk [0] 2 R R<|Ab R R (Aw T_api_Label.vv R Bu)<|Aa tbk [] 2 R R<|Bh hm 5 25 20 R (fun _ K' h2 J hm=>Aa tbk [] 5 R R<|J 4 R R (Bj hm)) (fun _ K' h2 J hm=>Aa tbk [] 2 R R<|A1 R R R R R<|Av hm 0 R fn23 R (K166 _ _) fun r hm=>Aa tbk [] 2 R R<|J 4 R R (Bj hm)) fun c hm=>Ac<|Ao hm R (fun h5 hm=>Ae tbk [] R R<|Rt1 hm R [] R R R) fun h5 hm=>Am<|Ai<|Aa tbk [] 2 R R<|Ad R R<|Av hm 0 R fn197 R (K212 _ _) fun r2 hm=>Aa tbk [] 5 R R<|Ac<|Ai<|Aa tbk [0] 3 R R<|Ad R R<|B3 hm 0 R fn198 R (K216 _ _ _) fun r3 ob cap hm=>Aa tbk [] 5 R R<|Ac<|Ae tbk [] R R<|Ae tbk [] R R<|Af<|Ae tbk [] R R<|Cn hm (fun j (_:Unit)=>[(6,.ptr b 0),(13,Iw j.1),(14,Iw j.2)]) (fun _ (_:Unit)=>[X47 b p]) (fun o hm=>?_) fun j _ hm=> ?_
 ·refine B1 (fun zn (zs:Int × Int × Int)=>ref11_Many.l1 r2 r3 zn zs.1 zs.2.1 zs.2.2) (fun zs (zg:Option Nat)=>[(6,.ptr b 0),(9,.str r2.1),(10,.bool r2.2),(11,L9 r3.1),(12,Z3 zg r3.2 cap),(13,Iw zs.1),(14,Iw zs.2.1),(15,Iw zs.2.2)]) (fun _ (zg:Option Nat)=>[Q3 zg cap r3.2,X47 b p]) ((-1 : Int),(0 : Int),(0 : Int)) _ (fun _=>R) hm (Ag [0,0] R R) fun n=>Pq fun mine2=>Pq fun least2 i2 ob3 hm=> ?_
  rw [ref11_Many.l1] at hm
  refine Af<|Ai<|Aa tbk [] 2 R R<|Ab R R (Aw VV.str R B2)<|Ab R R (Ba R R R)<|Ac<|Ao hm R (fun h11 hm=>?_) fun h11 hm=> ?_
  ·refine Am<|Af<|A2<|Af<|Ai<|Aa tbk [] 3 R R<|Bh hm 7 54 47 R (fun _ K' h12 J hm=>Aa tbk [] 7 R R<|J 6 R R (Bj hm)) (fun _ K' h12 J hm=>?_) fun c2 hm=> ?_
   ·refine Aa tbk [] 2 R R<|Bd hm fun x h13 hm=>Df 0 R (gl_pos (VV.int .i64) h13) fun b2 h14=> ?_
    subst h14
    exact Bb R R R R R (Di (VV.int .i64) R R el45 h13)<|Bb R R R R R (C9 (i:=0) (y:=(VV.int .i64) x) R R R (gl_map _ (gl_some h13).2) ld3 R)<|Aa tbk [] 3 R R<|J 6 R R (Bj hm)
   refine Ac<|Ao hm R (fun h16 hm=>?_) fun h16 hm=> ?_
   ·refine Bn<|Aa tbk [] 2 R R<|Bd hm fun x2 h17 hm=>Df 0 R (gl_pos (VV.int .i64) h17) fun b3 h18=> ?_
    subst h18
    exact Ab R R (Di (VV.int .i64) R R el45 h17)<|Ab R R (C9 (i:=0) (y:=(VV.int .i64) x2) R R R (gl_map _ (gl_some h17).2) ld3 R)<|Ab R R (Ak R)<|Ac<|Ai<|Aa tbk [] 2 R R<|Bh hm 7 67 60 R (fun _ K' h19 J hm=>Aa tbk [] 2 R R<|Bd hm fun x3 h20 hm=>Bb R R R R R (Bf VV.str R R el25 h20)<|Aa tbk [] 4 R R<|J 6 R R (Bj hm)) (fun _ K' h19 J hm=>Aa tbk [] 7 R R<|J 6 R R (Bj hm)) fun c3 hm=>Ac<|Ao hm R (fun h22 hm=>Bn<|Aa tbk [] 2 R R<|Bd hm fun x4 h23 hm=>Ab R R (Di (VV.int .i64) R R el45 h23)<|Ab R R (C9 (i:=0) (y:=(VV.int .i64) x4) R R R (gl_map _ (gl_some h23).2) ld3 R)<|Ab R R (Ak R)<|Ac<|Bc tbk [] R R<|Ap (x4,x2,(IntKind.i64.wrap (i2 + (1 : Int)))) _ hm (Ag [0,0] R R)) fun h22 hm=>Am<|Bc tbk [] R R<|Ap (mine2,x2,(IntKind.i64.wrap (i2 + (1 : Int)))) _ hm (Ag [0,0] R R)
   refine Am<|Ai<|Aa tbk [] 2 R R<|Bh hm 7 67 60 R (fun _ K' h24 J hm=>Aa tbk [] 2 R R<|Bd hm fun x5 h25 hm=>Bb R R R R R (Bf VV.str R R el25 h25)<|Aa tbk [] 4 R R<|J 6 R R (Bj hm)) (fun _ K' h24 J hm=>Aa tbk [] 7 R R<|J 6 R R (Bj hm)) fun c4 hm=>Ac<|Ao hm R (fun h27 hm=>?_) fun h27 hm=> ?_
   ·refine Bn<|Aa tbk [] 2 R R<|Bd hm fun x6 h28 hm=>Df 0 R (gl_pos (VV.int .i64) h28) fun b4 h29=> ?_
    subst h29
    exact Ab R R (Di (VV.int .i64) R R el45 h28)<|Ab R R (C9 (i:=0) (y:=(VV.int .i64) x6) R R R (gl_map _ (gl_some h28).2) ld3 R)<|Ab R R (Ak R)<|Ac<|Bc tbk [] R R<|Ap (x6,least2,(IntKind.i64.wrap (i2 + (1 : Int)))) _ hm (Ag [0,0] R R)
   exact Am<|Bc tbk [] R R<|Ap (mine2,least2,(IntKind.i64.wrap (i2 + (1 : Int)))) _ hm (Ag [0,0] R R)
  exact A7<|As () hm (Ag [1] R R)
 exact Af<|Ae tbk [] R R<|Ao hm R (fun h30 hm=>Ae tbk [] R R<|Rt1 hm R [] R R R) fun h30 hm=>Am<|Af<|Ai<|Aa tbk [0,0] 4 R R<|Ad R R<|Av hm 0 R fn63 R (K198 _ _) fun r4 hm=>Ac<|Ao hm R (fun h32 hm=>Bc tbk [] R R<|Ae tbk [0] R R<|Rt1 hm R [] R R R) fun h32 hm=>Am<|Ae tbk [0] R R<|Rt1 hm R [] R R R

end Go.Proofs.YtmpkpnclmihdnaaGreat.M

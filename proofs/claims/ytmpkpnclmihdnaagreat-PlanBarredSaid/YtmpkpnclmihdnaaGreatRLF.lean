/-
  Printed by a program of this session out of the loaded functions: models and their proofs. Own text.
-/
import Derived.Test.YtmpkpnclmihdnaaGreatRLF1
namespace Go.Proofs.YtmpkpnclmihdnaaGreat.M
open Go Go.Proofs Go.Proofs.YtmpkpnclmihdnaaGreat.V
open Go.IntKind (i64)
set_option linter.unusedVariables false
set_option maxRecDepth 20000
set_option maxHeartbeats 4000000
/-! trireme/triremeref12.Where -/
def ref12_Where.l1 (ms : List T_api_Machine) (bs : List T_api_Bound) (p : T_api_Pod) : Nat → (List ByteArray) → Int → Option (List ByteArray)
 | 0, _, _ => none
 | n + 1, out2, i2 =>
  if (decide (i2 < (ms.length : Int))) = true then
   (V.gl ms i2).bind fun x =>
   (ref12_Why ms bs p x.Name).bind fun r =>
   if (r == 0) = true then
    (V.gl ms i2).bind fun x2 =>
    (V.ap 16 out2 [x2.Name]).bind fun out4 =>
    ref12_Where.l1 ms bs p n out4 (i64.wrap (i2 + 1))
   else
    ref12_Where.l1 ms bs p n out2 (i64.wrap (i2 + 1))
  else
   some out2
def ref12_Where (ms : List T_api_Machine) (bs : List T_api_Bound) (p : T_api_Pod) : Option (List ByteArray) :=
 (ref12_Where.l1 ms bs p FU ([] : List ByteArray) (0 : Int)).bind fun out32 =>
 some out32
theorem K0 (ms : List T_api_Machine) (bs : List T_api_Bound) (p : T_api_Pod) : VS2 Tryz.prog 101 (ref12_Where ms bs p) [L61 ms, L49 bs, T_api_Pod.vv p] [] (fun r ob0 cap0=>Z9 ob0 r cap0) (fun r ob0 cap0=>[Q9 ob0 cap0 r]) := by
 refine Cl [.tmp 6] Tryz.func101 R R R fun r hm=>?_
 unfold ref12_Where at hm
 refine Ah<|Ad R R<|Ba R R fun b=>Ab R R (Ai R)<|Ac<|Ag tbk [] R R<|Ae<|Ag tbk [] R R<|Bw hm (fun out32 (gg:Option Nat × Nat)=>[(7,Z9 gg.1 out32 gg.2)]) (fun out32 (gg:Option Nat × Nat)=>[Q9 gg.1 gg.2 out32]) (fun o hm=>?_) fun out32=>Pq fun ob3 cap3 hm=> ?_
 ·refine Bl (fun zn (zs:List ByteArray × Int)=>ref12_Where.l1 ms bs p zn zs.1 zs.2) (fun zs (zg:Option Nat × Nat)=>[(0,L61 ms),(1,L49 bs),(5,.ptr b 0),(7,Z9 zg.1 zs.1 zg.2),(8,Iw zs.2)]) (fun zs (zg:Option Nat × Nat)=>[Q9 zg.1 zg.2 zs.1,X47 b p]) (([] : List ByteArray),(0 : Int)) (none,0) (fun _=>R) hm (Bb (Bc 9) (Af [0,0] R R)) fun n=>Pq fun out2 i2=>Pq fun ob2 cap2 hm=> ?_
  rw [ref12_Where.l1] at hm
  exact Ae<|Ah<|Aa tbk [] 2 R R<|Ab R R (Av T_api_Machine.vv R Bu)<|Ab R R (A4 R R R)<|Ac<|Ak hm R (fun h6 hm=>Aj<|Ae<|Ay<|Ae<|A9 0 mixed<|Aq tbk [0,1,2,3,4] [1] (by kernel_rfl) R R R<|Bd hm fun x h7 hm=>Ax 5 R R R (by kernel_rfl) (Az T_api_Machine.vv R R el22 h7)<|Aq tbk [6,7] [] (by kernel_rfl) R R R<|Ao 8 (by kernel_rfl)<|Au R R R<|Am hm 0 R fn64 R (K171 _ _ _ _) fun r hm=>Ax 9 R R R (by kernel_rfl) (A4 R R R)<|A5 (by kernel_rfl)<|Ak hm R (fun h9 hm=>Bq<|Aa tbk [] 3 R R<|Bd hm fun x2 h10 hm=>Ab R R (Az T_api_Machine.vv R R el22 h10)<|Aa tbk [] 2 R R<|Ad R R<|A8 ap25 R R R R R fun b2=>Bd hm fun out4 h12 hm=>Ad R R<|B3 1 VV.str (l:=out2) (l2:=[x2.Name]) ap25 R R (sT_row 0 VV.str el25 R R) h12 fun ob4 cap4=>Ab R R (Ai R)<|Ac<|A2 tbk [] R R<|Ap (out4,(IntKind.i64.wrap (i2 + (1 : Int)))) (ob4,cap4) hm (Af [1,1] R R)) fun h9 hm=>Aj<|A2 tbk [] R R<|Ap (out2,(IntKind.i64.wrap (i2 + (1 : Int)))) (ob2,cap2) hm (Af [0,0] R R)) fun h6 hm=>A1<|As (ob2,cap2) hm (Af [0] R R)
 exact Ag tbk [] R R<|Rg2 hm R [0] ob3 cap3 (.cons (.tmp _ _ R) .nil) R R

/-! trireme/triremeref06.Prefers -/
def ref06_Prefers (l : List T_api_Toleration) (taints : List T_api_Taint) : Option Int :=
 (ref06_Unborne l taints (2 : Int)).bind fun r =>
 some (r.length : Int)
theorem K1 (l : List T_api_Toleration) (taints : List T_api_Taint) : VS Tryz.prog 185 (ref06_Prefers l taints) [L172 l, L166 taints] [] Iw N0 := by
 refine A3 [.tmp 4] Tryz.func185 R R R fun r hm=>?_
 unfold ref06_Prefers at hm
 exact Ag tbk [] R R<|Ah<|Aa tbk [] 2 R R<|Ad R R<|Bz hm 0 R fn211 R (K153 _ _ _) fun r ob cap hm=>Bh (Aw 0 [(7,L166 r)] R ⟨⟨_,R,.here _ R⟩,trivial⟩ (FzH.refl _))<|Ab R R (Av T_api_Taint.vv R B1)<|Ab R R (Ai R)<|Ac<|Rt1 hm R [] R R R

/-! trireme/triremeref10.Prefers -/
def ref10_Prefers (m : T_api_Machine) (p : T_api_Pod) : Option Int :=
 (ref06_Prefers p.Bears m.Taints).bind fun r =>
 some r
theorem K2 (m : T_api_Machine) (p : T_api_Pod) : VS Tryz.prog 145 (ref10_Prefers m p) [T_api_Machine.vv m, T_api_Pod.vv p] [] Iw N0 := by
 refine A3 [.tmp 4] Tryz.func145 R R R fun r hm=>?_
 unfold ref10_Prefers at hm
 exact Ah<|Ad R R<|Ba R R fun b=>Ad R R<|Ba R R fun b2=>Ab R R (Ai R)<|Ac<|Ah<|Aa tbk [0,1] 4 R R<|Ad R R<|Am hm 0 R fn185 R (K1 _ _) fun r hm=>Ab R R (Ai R)<|Ac<|Rt1 hm R [] R R R

/-! trireme/triremeref04.part -/
def ref04_part (a : Int) (b : Int) : Option Int :=
 if (b == 0) = true then
  if (a == 0) = true then
   some 0
  else
   some 1000000
 else
  (V.quo (i64.wrap (1000 * a)) b).bind fun v =>
  some (min (i64.wrap v) 1000000)
theorem K3 (a : Int) (b : Int) : VS Tryz.prog 187 (ref04_part a b) [Iw a, Iw b] [] Iw N0 := by
 refine A3 [.tmp 4] Tryz.func187 R R R fun r hm=>?_
 unfold ref04_part at hm
 exact Ag tbk [] R R<|Ae<|Ag tbk [] R R<|Ak hm R (fun h1 hm=>Ae<|Ag tbk [] R R<|Ak hm R (fun h2 hm=>Ag tbk [] R R<|Rt1 hm R [] R R R) fun h2 hm=>Aj<|Ag tbk [] R R<|Rt1 hm R [] R R R) fun h1 hm=>Aj<|Ah<|Aa tbk [] 3 R R<|Bd hm fun v h3 hm=>Ab R R (De R R h3)<|Ab R R (Di R R)<|Ab R R (Ai R)<|Ac<|Rt1 hm R [] R R R

/-! trireme/triremeref04.Share -/
def ref04_Share (a : T_api_Res) (b : T_api_Res) : Option Int :=
 (ref04_Right a).bind fun r =>
 (if (!r) = true then some true else (ref04_Right b).bind fun r2 =>
 some (!r2)).bind fun c =>
 if c = true then
  some 0
 else
  (ref04_part a.Cpu b.Cpu).bind fun r3 =>
  (ref04_part a.Mem b.Mem).bind fun r4 =>
  some (max r3 r4)
theorem K4 (a : T_api_Res) (b : T_api_Res) : VS Tryz.prog 148 (ref04_Share a b) [T_api_Res.vv a, T_api_Res.vv b] [] Iw N0 := by
 refine A3 [.tmp 4] Tryz.func148 R R R fun r hm=>?_
 unfold ref04_Share at hm
 exact Ah<|Ad R R<|Ba R R fun b2=>Ad R R<|Ba R R fun b3=>Ab R R (Ai R)<|Ac<|Ae<|Ah<|Aa tbk [1] 1 R R<|Ad R R<|Am hm 0 R fn111 R (K42 _) fun r hm=>Aa tbk [] 2 R R<|Be hm 4 12 8 R (fun _ K' h4 J hm=>Aa tbk [] 4 R R<|J 3 R R (Bj hm)) (fun _ K' h4 J hm=>Aa tbk [0] 1 R R<|A7 R R R R R<|Am hm 0 R fn111 R (K42 _) fun r2 hm=>Aa tbk [] 2 R R<|J 3 R R (Bj hm)) fun c hm=>Ac<|Ak hm R (fun h7 hm=>Ag tbk [] R R<|Rt1 hm R [] R R R) fun h7 hm=>Aj<|Ae<|A9 0 mixed<|Aq tbk [0,1,2,3,5,6,7,8] [1,0,1,0] (by kernel_rfl) R R R<|Ao 4 (by kernel_rfl)<|Au R R R<|Am hm 0 R fn187 R (K3 _ _) fun r3 hm=>Ao 9 (by kernel_rfl)<|Au R R R<|Am hm 0 R fn187 R (K3 _ _) fun r4 hm=>Ax 10 R R R (by kernel_rfl) (C9 R R)<|Ax 11 R R R (by kernel_rfl) (Ai R)<|A5 (by kernel_rfl)<|Rt1 hm R [] R R R

/-! trireme/triremeref14.Among -/
def ref14_Among.l1 (ms : List T_api_Machine) (bs : List T_api_Bound) (p : T_api_Pod) (l : List ByteArray) : Nat → ByteArray → Int → Int → Int → Option ByteArray
 | 0, _, _, _, _ => none
 | n + 1, best2, worst2, share2, i2 =>
  if (decide (i2 < (l.length : Int))) = true then
   (V.gl l i2).bind fun x =>
   (ref09_Find ms x).bind fun r =>
   (V.gl ms r).bind fun x2 =>
   (ref10_Prefers x2 p).bind fun r2 =>
   ((ref10_Others bs p.Name).bind fun r3 =>
   (ref09_Used r3 x2.Name).bind fun r4 =>
   some r4.1).bind fun u2 =>
   (ref04_Share u2 x2.Has).bind fun r8 =>
   if (((V.seq best2 (⟨#[]⟩ : ByteArray)) || (decide (r2 < worst2))) || ((r2 == worst2) && (decide (r8 < share2)))) = true then
    ref14_Among.l1 ms bs p l n x2.Name r2 r8 (i64.wrap (i2 + 1))
   else
    ref14_Among.l1 ms bs p l n best2 worst2 share2 (i64.wrap (i2 + 1))
  else
   some best2
def ref14_Among (ms : List T_api_Machine) (bs : List T_api_Bound) (p : T_api_Pod) (l : List ByteArray) : Option ByteArray :=
 (ref14_Among.l1 ms bs p l FU (⟨#[]⟩ : ByteArray) 0 0 (0 : Int)).bind fun best32 =>
 some best32
theorem K5 (ms : List T_api_Machine) (bs : List T_api_Bound) (p : T_api_Pod) (l : List ByteArray) : VS Tryz.prog 102 (ref14_Among ms bs p l) [L61 ms, L49 bs, T_api_Pod.vv p, L9 l] [] .str N0 := by
 refine A3 [.tmp 8] Tryz.func102 R R R fun r hm=>?_
 unfold ref14_Among at hm
 refine Ah<|Ad R R<|Ba R R fun b=>Ab R R (Ai R)<|Ac<|Ag tbk [] R R<|Ag tbk [] R R<|Ag tbk [] R R<|Ae<|Ag tbk [] R R<|Bw hm (fun best32 (_:Unit)=>[(9,.str best32)]) (fun _ (_:Unit)=>[]) (fun o hm=>?_) fun best32 _ hm=> ?_
 ·refine Bl (fun zn (zs:ByteArray × Int × Int × Int)=>ref14_Among.l1 ms bs p l zn zs.1 zs.2.1 zs.2.2.1 zs.2.2.2) (fun zs (_:Unit)=>[(0,L61 ms),(1,L49 bs),(3,L9 l),(6,.ptr b 0),(9,.str zs.1),(10,Iw zs.2.1),(11,Iw zs.2.2.1),(12,Iw zs.2.2.2)]) (fun _ (_:Unit)=>[X47 b p]) ((⟨#[]⟩ : ByteArray),(0 : Int),(0 : Int),(0 : Int)) () (fun _=>R) hm (Af [0] R R) fun n=>Pq fun best2=>Pq fun worst2=>Pq fun share2 i2 _ hm=> ?_
  rw [ref14_Among.l1] at hm
  refine Ae<|Ah<|Aa tbk [] 2 R R<|Ab R R (Av VV.str R Bo)<|Ab R R (A4 R R R)<|Ac<|Ak hm R (fun h4 hm=>?_) fun h4 hm=> ?_
  ·refine Aj<|Ae<|Ay<|Ah<|Aa tbk [] 4 R R<|Bd hm fun x h5 hm=>Ab R R (Az VV.str R R el25 h5)<|Ab R R (Bi R ld9 R)<|Ad R R<|Am hm 0 R fn23 R (K58 _ _) fun r hm=>Bd hm fun x2 h7 hm=>Ab R R (Az T_api_Machine.vv R R el22 h7)<|Ab R R (Bi R ld61 R)<|Ad R R<|A0 z61 fun b2=>Ad R R<|An (i:=0) R R R ld61 R R R<|Ac<|Ah<|Aa tbk [0,1] 2 R R<|Ad R R<|Am hm 0 R fn145 R (K2 _ _) fun r2 hm=>Ab R R (Ai R)<|Ac<|Db hm (fun _ (gg:Nat)=>[(0,L61 ms),(1,L49 bs),(3,L9 l),(6,.ptr b 0),(9,.str best2),(10,Iw worst2),(11,Iw share2),(12,Iw i2),(13,.ptr b2 0),(14,Iw r2),(15,.ptr gg 0)]) (fun u2 (gg:Nat)=>[X41 gg u2,X61 b2 x2,X47 b p]) (fun o2 hm=>?_) fun u2 b3 hm=> ?_
   ·refine A9 0 mixed<|Aq tbk [0,1,2,4,5] [1,0] (by kernel_rfl) R R R<|?_
    refine B4 [3,10] (by kernel_rfl) ⟨?_,?_,trivial⟩
    ·refine Au R R R<|Bz hm 0 R fn147 R (K157 _ _) fun r3 ob cap hm=>Cc (Aw 0 [(40,L49 r3)] R ⟨⟨_,R,.here _ R⟩,trivial⟩ (FzH.refl _))<|?_
     refine B4 [6,10] (by kernel_rfl) ⟨?_,?_,trivial⟩
     ·exact Au R R R<|Am hm 0 R fn146 R (K159 _ _) fun r4 hm=>Aq tbk [7,8,9] [] (by kernel_rfl) R R R<|Ao 10 (by kernel_rfl)<|Au R R R<|A0 z41 fun b4=>Ao 11 (by kernel_rfl)<|Au R R R<|An (i:=0) R R R ld41 R R R<|Ax 12 R R R (by kernel_rfl) (Ai R)<|A5 (by kernel_rfl)<|As _ hm (Af [0,0,0] R R)
     ·exact Au R R R<|A0 z41 fun b5=>Ao 6 (by kernel_rfl)<|Au R R R<|Am hm 0 R fn146 R (K159 _ _) fun r5 hm=>Aq tbk [7,8,9] [] (by kernel_rfl) R R R<|Ao 11 (by kernel_rfl)<|Au R R R<|An (i:=0) R R R ld41 R R R<|Ax 12 R R R (by kernel_rfl) (Ai R)<|A5 (by kernel_rfl)<|As _ hm (Af [0,0,0] R R)
    ·exact Au R R R<|A0 z41 fun b6=>Ao 3 (by kernel_rfl)<|Au R R R<|Bz hm 0 R fn147 R (K157 _ _) fun r6 ob2 cap2 hm=>Cc (Aw 0 [(40,L49 r6)] R ⟨⟨_,R,.here _ R⟩,trivial⟩ (FzH.refl _))<|Ao 6 (by kernel_rfl)<|Au R R R<|Am hm 0 R fn146 R (K159 _ _) fun r7 hm=>Aq tbk [7,8,9] [] (by kernel_rfl) R R R<|Ao 11 (by kernel_rfl)<|Au R R R<|An (i:=0) R R R ld41 R R R<|Ax 12 R R R (by kernel_rfl) (Ai R)<|A5 (by kernel_rfl)<|As _ hm (Af [0,0,0] R R)
   exact Ah<|Aa tbk [0,1] 3 R R<|Ad R R<|Am hm 0 R fn148 R (K4 _ _) fun r8 hm=>Ab R R (Ai R)<|Ac<|Ah<|Aa tbk [] 3 R R<|Cp tbk [] 4 56 52 R R R R R<|Ab R R (Al R)<|Cz 9 66 57 R (fun K' J=>Aa tbk [] 9 R R<|J 8 R R R) (fun h25 K' J=>Aa tbk [] 4 R R<|Bx tbk [] 4 65 61 R R R R R<|Ab R R (Bf false R R R)<|J 5 R R R)<|Ac<|Ak hm R (fun h27 hm=>Ag tbk [1] R R<|Ag tbk [] R R<|A2 tbk [] R R<|A2 tbk [] R R<|Ap (x2.Name,r2,r8,(IntKind.i64.wrap (i2 + (1 : Int)))) () hm (Af [2] R R)) fun h27 hm=>Aj<|A2 tbk [] R R<|Ap (best2,worst2,share2,(IntKind.i64.wrap (i2 + (1 : Int)))) () hm (Af [2] R R)
  exact A1<|As () hm (Af [] R R)
 exact Ag tbk [] R R<|Rt1 hm R [] R R R

/-! trireme/triremeref26.best -/
def ref26_best.l1 (barred : List ByteArray) (r : List ByteArray) : Nat → (List ByteArray) → Int → Option (List ByteArray)
 | 0, _, _ => none
 | n + 1, open_2, i2 =>
  if (decide (i2 < (r.length : Int))) = true then
   (V.gl r i2).bind fun x =>
   (ref26_among barred x).bind fun r2 =>
   if (!r2) = true then
    (V.gl r i2).bind fun x2 =>
    (V.ap 16 open_2 [x2]).bind fun open_4 =>
    ref26_best.l1 barred r n open_4 (i64.wrap (i2 + 1))
   else
    ref26_best.l1 barred r n open_2 (i64.wrap (i2 + 1))
  else
   some open_2
def ref26_best (ms : List T_api_Machine) (bs : List T_api_Bound) (p : T_api_Pod) (barred : List ByteArray) : Option ByteArray :=
 (ref12_Where ms bs p).bind fun r =>
 (ref26_best.l1 barred r FU ([] : List ByteArray) (0 : Int)).bind fun open_32 =>
 (ref14_Among ms bs p open_32).bind fun r3 =>
 some r3
theorem K6 (ms : List T_api_Machine) (bs : List T_api_Bound) (p : T_api_Pod) (barred : List ByteArray) : VS Tryz.prog 50 (ref26_best ms bs p barred) [L61 ms, L49 bs, T_api_Pod.vv p, L9 barred] [] .str N0 := by
 refine A3 [.tmp 8] Tryz.func50 R R R fun r hm=>?_
 unfold ref26_best at hm
 refine Ah<|Ad R R<|Ba R R fun b=>Ab R R (Ai R)<|Ac<|Ag tbk [] R R<|Ah<|Aa tbk [0] 3 R R<|Ad R R<|Bz hm 0 R fn101 R (K0 _ _ _) fun r ob cap hm=>Bh (Aw 0 [(15,L9 r)] R ⟨⟨_,R,.here _ R⟩,trivial⟩ (FzH.refl _))<|Ab R R (Ai R)<|Ac<|Ae<|Ag tbk [] R R<|Bw hm (fun open_32 (gg:Option Nat × Nat)=>[(0,L61 ms),(1,L49 bs),(6,.ptr b 0),(9,Z9 gg.1 open_32 gg.2)]) (fun open_32 (gg:Option Nat × Nat)=>[Q9 gg.1 gg.2 open_32,X47 b p]) (fun o hm=>?_) fun open_32=>Pq fun ob4 cap4 hm=> ?_
 ·refine Bl (fun zn (zs:List ByteArray × Int)=>ref26_best.l1 barred r zn zs.1 zs.2) (fun zs (zg:Option Nat × Nat)=>[(0,L61 ms),(1,L49 bs),(3,L9 barred),(6,.ptr b 0),(9,Z9 zg.1 zs.1 zg.2),(10,L9 r),(11,Iw zs.2)]) (fun zs (zg:Option Nat × Nat)=>[Q9 zg.1 zg.2 zs.1,X47 b p]) (([] : List ByteArray),(0 : Int)) (none,0) (fun _=>R) hm (Bb (Bc 9) (Af [0,0] R R)) fun n=>Pq fun open_2 i2=>Pq fun ob3 cap3 hm=> ?_
  rw [ref26_best.l1] at hm
  exact Ae<|Ah<|Aa tbk [] 2 R R<|Ab R R (Av VV.str R Bo)<|Ab R R (A4 R R R)<|Ac<|Ak hm R (fun h8 hm=>Aj<|Ae<|Ay<|Ah<|Aa tbk [] 3 R R<|Bd hm fun x h9 hm=>Ab R R (Az VV.str R R el25 h9)<|Ab R R (Bi R ld9 R)<|Ad R R<|Am hm 0 R fn55 R (K144 _ _) fun r2 hm=>Ab R R (Co R)<|Ac<|Ak hm R (fun h11 hm=>Bq<|Aa tbk [] 3 R R<|Bd hm fun x2 h12 hm=>Ab R R (Az VV.str R R el25 h12)<|Ab R R (Bi R ld9 R)<|Ad R R<|A8 ap25 R R R R R fun b2=>Bd hm fun open_4 h14 hm=>Ad R R<|B3 1 VV.str (l:=open_2) (l2:=[x2]) ap25 R R (sT_row 0 VV.str el25 R R) h14 fun ob5 cap5=>Ab R R (Ai R)<|Ac<|A2 tbk [] R R<|Ap (open_4,(IntKind.i64.wrap (i2 + (1 : Int)))) (ob5,cap5) hm (Af [1,1] R R)) fun h11 hm=>Aj<|A2 tbk [] R R<|Ap (open_2,(IntKind.i64.wrap (i2 + (1 : Int)))) (ob3,cap3) hm (Af [0,0] R R)) fun h8 hm=>A1<|As (ob3,cap3) hm (Af [0,0] R R)
 exact Ah<|Aa tbk [1] 4 R R<|Ad R R<|C4 hm (Aw 0 [(9,L9 open_32),(39,L9 open_32)] R ⟨⟨_,R,.here _ R⟩,⟨_,R,.here _ R⟩,trivial⟩ (FzH.refl _)) [.same,.same,.same,.same] R fn102 R (K5 _ _ _ _) (fun _=>R) (fun _=>R) fun r3 hm=>Ab R R (Ai R)<|Ac<|Rt1 hm R [] R R R

/-! trireme/triremeref26.One -/
def ref26_One.l1 (bs : List T_api_Bound) (name : ByteArray) : Nat → (List T_api_Bound) → Int → Option (List T_api_Bound)
 | 0, _, _ => none
 | n + 1, now2, i2 =>
  if (decide (i2 < (bs.length : Int))) = true then
   (V.gl bs i2).bind fun x =>
   if (!(V.seq x.On name)) = true then
    (V.gl bs i2).bind fun x2 =>
    (V.ap 288 now2 [x2]).bind fun now4 =>
    ref26_One.l1 bs name n now4 (i64.wrap (i2 + 1))
   else
    ref26_One.l1 bs name n now2 (i64.wrap (i2 + 1))
  else
   some now2
def ref26_One.l2 (barred : List ByteArray) (r2 : List T_api_Machine) (r3 : List T_api_Pod) : Nat → (List T_api_Bound) → (List T_api_Move) → Int → Option (Out (List T_api_Move × Bool) (List T_api_Move))
 | 0, _, _, _ => none
 | n2 + 1, now6, moves2, i4 =>
  if (decide (i4 < (r3.length : Int))) = true then
   (V.gl r3 i4).bind fun x3 =>
   (ref26_best r2 now6 x3 barred).bind fun r4 =>
   if (V.seq r4 (⟨#[]⟩ : ByteArray)) = true then
    some (Out.ret (([] : List T_api_Move), false))
   else
    (V.gl r3 i4).bind fun x4 =>
    (V.ap 288 now6 [(⟨x4, r4⟩ : T_api_Bound)]).bind fun now7 =>
    (V.gl r3 i4).bind fun x5 =>
    (V.ap 32 moves2 [(⟨x5.Name, r4⟩ : T_api_Move)]).bind fun moves4 =>
    ref26_One.l2 barred r2 r3 n2 now7 moves4 (i64.wrap (i4 + 1))
  else
   some (Out.go moves2)
def ref26_One (ms : List T_api_Machine) (bs : List T_api_Bound) (name : ByteArray) (barred : List ByteArray) : Option (List T_api_Move × Bool) :=
 (ref09_Find ms name).bind fun r =>
 if (decide (r < 0)) = true then
  some (([] : List T_api_Move), false)
 else
  (ref26_Without ms [name]).bind fun r2 =>
  (ref26_One.l1 bs name FU ([] : List T_api_Bound) (0 : Int)).bind fun now32 =>
  (ref25_Movable bs name).bind fun r3 =>
  (ref26_One.l2 barred r2 r3 FU now32 ([] : List T_api_Move) (0 : Int)).bind fun o2 =>
  o2.on fun moves32 =>
  some (moves32, true)
theorem K7 (ms : List T_api_Machine) (bs : List T_api_Bound) (name : ByteArray) (barred : List ByteArray) : VS2 Tryz.prog 14 (ref26_One ms bs name barred) [L61 ms, L49 bs, .str name, L9 barred] [] (fun r ob0 cap0=>.tup [Z58 ob0 r.1 cap0, .bool r.2]) (fun r ob0 cap0=>[Q58 ob0 cap0 r.1]) := by
 refine Cl [.tmp 8,.tmp 9] Tryz.func14 R R R fun r hm=>?_
 unfold ref26_One at hm
 refine Ag tbk [] R R<|Ae<|Ah<|Aa tbk [] 2 R R<|Ad R R<|Am hm 0 R fn23 R (K58 _ _) fun r hm=>Ab R R (A4 R R R)<|Ac<|Ak hm R (fun h2 hm=>Ag tbk [] R R<|B8 (Bc 58)<|Rg2 hm R [0] none 0 (.cons (.tmp _ _ R) (.cons (.tmp _ _ R) .nil)) R R) fun h2 hm=>Aj<|Ah<|Aa tbk [] 2 R R<|Ad R R<|A8 ap25 R R R R R fun b=>Bh (Aw 0 [(23,L9 [name])] R ⟨⟨_,R,.here _ R⟩,trivial⟩ (FzH.refl _))<|Ad R R<|Bz hm 0 R fn21 R (K145 _ _) fun r2 ob cap hm=>Bh (Aw 0 [(24,L61 r2)] R ⟨⟨_,R,.here _ R⟩,trivial⟩ (FzH.refl _))<|Ab R R (Ai R)<|Ac<|Ag tbk [] R R<|Ae<|Ag tbk [] R R<|Bw hm (fun now32 (gg:Option Nat × Nat)=>[(1,L49 bs),(2,.str name),(3,L9 barred),(10,L61 r2),(11,Z49 gg.1 now32 gg.2)]) (fun now32 (gg:Option Nat × Nat)=>[Q49 gg.1 gg.2 now32]) (fun o hm=>?_) fun now32=>Pq fun ob4 cap4 hm=> ?_
 ·refine Bl (fun zn (zs:List T_api_Bound × Int)=>ref26_One.l1 bs name zn zs.1 zs.2) (fun zs (zg:Option Nat × Nat)=>[(1,L49 bs),(2,.str name),(3,L9 barred),(10,L61 r2),(11,Z49 zg.1 zs.1 zg.2),(12,Iw zs.2)]) (fun zs (zg:Option Nat × Nat)=>[Q49 zg.1 zg.2 zs.1]) (([] : List T_api_Bound),(0 : Int)) (none,0) (fun _=>R) hm (Bb (Bc 49) (Af [0] R R)) fun n=>Pq fun now2 i2=>Pq fun ob3 cap3 hm=> ?_
  rw [ref26_One.l1] at hm
  exact Ae<|Ah<|Aa tbk [] 2 R R<|Ab R R (Av T_api_Bound.vv R Bk)<|Ab R R (A4 R R R)<|Ac<|Ak hm R (fun h11 hm=>Aj<|Ae<|Ay<|Ah<|Aa tbk [] 2 R R<|Bd hm fun x h12 hm=>Ab R R (Az T_api_Bound.vv R R el23 h12)<|Aa tbk [] 4 R R<|Ac<|Ak hm R (fun h13 hm=>Bq<|Aa tbk [] 3 R R<|Bd hm fun x2 h14 hm=>Ab R R (Az T_api_Bound.vv R R el23 h14)<|Ab R R (Bi R ld49 R)<|Ad R R<|A8 ap23 R R R R R fun b2=>Bd hm fun now4 h16 hm=>Ad R R<|B3 1 T_api_Bound.vv (l:=now2) (l2:=[x2]) ap23 R R (sT_row 0 T_api_Bound.vv el23 R R) h16 fun ob5 cap5=>Ab R R (Ai R)<|Ac<|A2 tbk [] R R<|Ap (now4,(IntKind.i64.wrap (i2 + (1 : Int)))) (ob5,cap5) hm (Af [1] R R)) fun h13 hm=>Aj<|A2 tbk [] R R<|Ap (now2,(IntKind.i64.wrap (i2 + (1 : Int)))) (ob3,cap3) hm (Af [0] R R)) fun h11 hm=>A1<|As (ob3,cap3) hm (Af [0] R R)
 refine Ag tbk [] R R<|Ah<|Aa tbk [] 2 R R<|Ad R R<|Bz hm 0 R fn24 R (K147 _ _) fun r3 ob6 cap6 hm=>Bh (Aw 0 [(47,L47 r3)] R ⟨⟨_,R,.here _ R⟩,trivial⟩ (FzH.refl _))<|Ab R R (Ai R)<|Ac<|Ae<|Ag tbk [] R R<|Bn hm (fun moves32 (gg:Option Nat × Nat)=>[(13,Z58 gg.1 moves32 gg.2)]) (fun moves32 (gg:Option Nat × Nat)=>[Q58 gg.1 gg.2 moves32]) (fun o2 hm h23=>?_) fun moves32=>Pq fun ob11 cap11 hm=> ?_
 ·refine Bl (fun zn (zs:List T_api_Bound × List T_api_Move × Int)=>ref26_One.l2 barred r2 r3 zn zs.1 zs.2.1 zs.2.2) (fun zs (zg:Option Nat × Nat × Option Nat × Nat)=>[(3,L9 barred),(10,L61 r2),(11,Z49 zg.1 zs.1 zg.2.1),(13,Z58 zg.2.2.1 zs.2.1 zg.2.2.2),(14,L47 r3),(15,Iw zs.2.2)]) (fun zs (zg:Option Nat × Nat × Option Nat × Nat)=>[Q58 zg.2.2.1 zg.2.2.2 zs.2.1,Q49 zg.1 zg.2.1 zs.1]) (now32,([] : List T_api_Move),(0 : Int)) (ob4,cap4,none,0) (fun _=>R) hm (Bb (Bc 58) (Af [0,0] R R)) fun n2=>Pq fun now6=>Pq fun moves2 i4=>Pq fun ob9=>Pq fun cap9=>Pq fun ob10 cap10 hm=> ?_
  rw [ref26_One.l2] at hm
  refine Ae<|Ah<|Aa tbk [] 2 R R<|Ab R R (Av T_api_Pod.vv R Bv)<|Ab R R (A4 R R R)<|Ac<|Ak hm R (fun h24 hm=>?_) fun h24 hm=> ?_
  ·exact Aj<|Ae<|Ay<|Ah<|Aa tbk [] 4 R R<|Bd hm fun x3 h25 hm=>Ab R R (Az T_api_Pod.vv R R el55 h25)<|Aa tbk [] 2 R R<|Ad R R<|C4 hm (Aw 1 [(11,L49 now6),(55,L49 now6)] R ⟨⟨_,R,.here _ R⟩,⟨_,R,.here _ R⟩,trivial⟩ (FzH.refl _)) [.same,.same,.same,.same] R fn50 R (K6 _ _ _ _) (fun _=>R) (fun _=>R) fun r4 hm=>Ab R R (Ai R)<|Ac<|Ae<|Ag tbk [] R R<|Ak hm R (fun h27 hm=>Ag tbk [] R R<|have hm:=Lr hm h23;B8 (Bc 58)<|Rg2 hm R [0] none 0 (.cons (.tmp _ _ R) (.cons (.tmp _ _ R) .nil)) R R) fun h27 hm=>Aj<|Ah<|Aa tbk [] 3 R R<|Bd hm fun x4 h29 hm=>Ab R R (Az T_api_Pod.vv R R el55 h29)<|Aa tbk [] 2 R R<|Ab R R (Bt pl49 R R)<|Ad R R<|A8 ap23 R R R R R fun b3=>Bd hm fun now7 h31 hm=>Ad R R<|B3 2 T_api_Bound.vv (l:=now6) (l2:=[(⟨x4,r4⟩ : T_api_Bound)]) ap23 R R (sT_row 0 T_api_Bound.vv el23 R R) h31 fun ob12 cap12=>Ab R R (Ai R)<|Ac<|Bq<|Aa tbk [] 3 R R<|Bd hm fun x5 h32 hm=>Ab R R (Az T_api_Pod.vv R R el55 h32)<|Aa tbk [] 3 R R<|Ab R R (Bt pl58 R R)<|Ad R R<|A8 ap30 R R R R R fun b4=>Bd hm fun moves4 h34 hm=>Ad R R<|B3 2 T_api_Move.vv (l:=moves2) (l2:=[(⟨x5.Name,r4⟩ : T_api_Move)]) ap30 R R (sT_row 0 T_api_Move.vv el30 R R) h34 fun ob13 cap13=>Ab R R (Ai R)<|Ac<|A2 tbk [] R R<|Ap (now7,moves4,(IntKind.i64.wrap (i4 + (1 : Int)))) (ob12,cap12,ob13,cap13) hm (Af [2,2] R R)
  exact A1<|Ar (ob10,cap10) hm (Af [0] R R)
 exact Ag tbk [] R R<|Rg2 hm R [0] ob11 cap11 (.cons (.tmp _ _ R) (.cons (.tmp _ _ R) .nil)) R R

/-! trireme/triremeref15.Spare -/
def ref15_Spare.l1 (b : T_api_Budget) (bs : List T_api_Bound) : Nat → Int → Int → Option Int
 | 0, _, _ => none
 | n4 + 1, n2, i2 =>
  if (decide (i2 < (bs.length : Int))) = true then
   (V.gl bs i2).bind fun x =>
   (if (!(V.seq x.On (⟨#[]⟩ : ByteArray))) = true then (V.gl bs i2).bind fun x2 =>
   (ref05_Has x2.Pod.Labels b.Match).bind fun r =>
   some r else some false).bind fun c =>
   if c = true then
    ref15_Spare.l1 b bs n4 (i64.wrap (n2 + 1)) (i64.wrap (i2 + 1))
   else
    ref15_Spare.l1 b bs n4 n2 (i64.wrap (i2 + 1))
  else
   some n2
def ref15_Spare (b : T_api_Budget) (bs : List T_api_Bound) : Option Int :=
 (ref15_Spare.l1 b bs FU 0 (0 : Int)).bind fun n32 =>
 some (i64.wrap (n32 - b.Least))
theorem K8 (b : T_api_Budget) (bs : List T_api_Bound) : VS Tryz.prog 25 (ref15_Spare b bs) [T_api_Budget.vv b, L49 bs] [] Iw N0 := by
 refine A3 [.tmp 4] Tryz.func25 R R R fun r hm=>?_
 unfold ref15_Spare at hm
 refine Ah<|Ad R R<|Ba R R fun b2=>Ab R R (Ai R)<|Ac<|Ag tbk [] R R<|Ae<|Ag tbk [] R R<|Bw hm (fun n32 (_:Unit)=>[(2,.ptr b2 0),(5,Iw n32)]) (fun _ (_:Unit)=>[X64 b2 b]) (fun o hm=>?_) fun n32 _ hm=> ?_
 ·refine Bl (fun zn (zs:Int × Int)=>ref15_Spare.l1 b bs zn zs.1 zs.2) (fun zs (_:Unit)=>[(1,L49 bs),(2,.ptr b2 0),(5,Iw zs.1),(6,Iw zs.2)]) (fun _ (_:Unit)=>[X64 b2 b]) ((0 : Int),(0 : Int)) () (fun _=>R) hm (Af [0] R R) fun n4=>Pq fun n2 i2 _ hm=> ?_
  rw [ref15_Spare.l1] at hm
  exact Ae<|Ah<|Aa tbk [] 2 R R<|Ab R R (Av T_api_Bound.vv R Bk)<|Ab R R (A4 R R R)<|Ac<|Ak hm R (fun h4 hm=>Aj<|Ae<|Ay<|Ae<|A9 0 mixed<|Aq tbk [0,1] [] (by kernel_rfl) R R R<|Bd hm fun x h5 hm=>Ax 2 R R R (by kernel_rfl) (Az T_api_Bound.vv R R el23 h5)<|Aq tbk [3,4,5,6] [] (by kernel_rfl) R R R<|Cr hm [16,15,14,13,12,11,10,9,8,7,6,5,4,3,2,1,0] 29 19 R (fun _ K' h6 J hm=>Aq tbk [7,8] [] (by kernel_rfl) R R R<|Bd hm fun x2 h7 hm=>Ce 9 R R R R R R (by kernel_rfl) (Az T_api_Bound.vv R R el23 h7)<|Aq tbk [10,11,12,13,14] [0] (by kernel_rfl) R R R<|Ao 15 (by kernel_rfl)<|Cv R R R R R R<|Am hm 0 R fn63 R (K149 _ _) fun r hm=>Ax 16 R R R (by kernel_rfl) (Bf true R R R)<|J 9 R R (Bj hm)) (fun _ K' h6 J hm=>Aq tbk [7,8,9,10,11,12,13,14,15,16] [] (by kernel_rfl) R R R<|J 9 R R (Bj hm)) fun c hm=>A5 (by kernel_rfl)<|Ak hm R (fun h10 hm=>A2 tbk [] R R<|A2 tbk [] R R<|Ap ((IntKind.i64.wrap (n2 + (1 : Int))),(IntKind.i64.wrap (i2 + (1 : Int)))) () hm (Af [0] R R)) fun h10 hm=>Aj<|A2 tbk [] R R<|Ap (n2,(IntKind.i64.wrap (i2 + (1 : Int)))) () hm (Af [0] R R)) fun h4 hm=>A1<|As () hm (Af [0] R R)
 exact Ag tbk [0] R R<|Rt1 hm R [] R R R

/-! trireme/triremeref15.May -/
def ref15_May.l1 (l : List T_api_Budget) (bs : List T_api_Bound) (r : Int) : Nat → Int → Option (Out Int Unit)
 | 0, _ => none
 | n + 1, k2 =>
  if (decide (k2 < (l.length : Int))) = true then
   (V.gl bs r).bind fun x2 =>
   (V.gl l k2).bind fun x3 =>
   (ref05_Has x2.Pod.Labels x3.Match).bind fun r2 =>
   (if r2 = true then (V.gl l k2).bind fun x4 =>
   (ref15_Spare x4 bs).bind fun r3 =>
   some (decide (r3 ≤ 0)) else some false).bind fun c =>
   if c = true then
    some (Out.ret 20)
   else
    ref15_May.l1 l bs r n (i64.wrap (k2 + 1))
  else
   some (Out.go ())
def ref15_May (l : List T_api_Budget) (bs : List T_api_Bound) (name : ByteArray) : Option Int :=
 (ref09_Place bs name).bind fun r =>
 if (decide (r < 0)) = true then
  some 16
 else
  (V.gl bs r).bind fun x =>
  if (V.seq x.On (⟨#[]⟩ : ByteArray)) = true then
   some 22
  else
   (ref15_May.l1 l bs r FU (0 : Int)).bind fun o =>
   o.on fun j =>
   some 0
theorem K9 (l : List T_api_Budget) (bs : List T_api_Bound) (name : ByteArray) : VS Tryz.prog 151 (ref15_May l bs name) [L64 l, L49 bs, .str name] [] Iw N0 := by
 refine A3 [.tmp 6] Tryz.func151 R R R fun r hm=>?_
 unfold ref15_May at hm
 refine Ag tbk [] R R<|Ah<|Aa tbk [] 2 R R<|Ad R R<|Am hm 0 R fn57 R (K59 _ _) fun r hm=>Ab R R (Ai R)<|Ac<|Ae<|Ag tbk [] R R<|Ak hm R (fun h2 hm=>Ag tbk [] R R<|Rt1 hm R [] R R R) fun h2 hm=>Aj<|Ae<|Ah<|Aa tbk [] 2 R R<|Bd hm fun x h3 hm=>Ab R R (Az T_api_Bound.vv R R el23 h3)<|Aa tbk [] 3 R R<|Ac<|Ak hm R (fun h4 hm=>Ag tbk [] R R<|Rt1 hm R [] R R R) fun h4 hm=>Aj<|Ae<|Ag tbk [] R R<|Bn hm (fun _ (_:Unit)=>[]) (fun _ (_:Unit)=>[]) (fun o hm h6=>?_) fun j _ hm=> ?_
 ·refine Bl (fun zn (zs:Int)=>ref15_May.l1 l bs r zn zs) (fun zs (_:Unit)=>[(0,L64 l),(1,L49 bs),(7,Iw r),(8,Iw zs)]) (fun _ (_:Unit)=>[]) _ () (fun _=>R) hm (Af [] R R) fun n k2 _ hm=> ?_
  rw [ref15_May.l1] at hm
  exact Ae<|Ah<|Aa tbk [] 2 R R<|Ab R R (Av T_api_Budget.vv R Cs)<|Ab R R (A4 R R R)<|Ac<|Ak hm R (fun h7 hm=>Aj<|Ae<|Ay<|Ae<|A9 0 mixed<|Aq tbk [0,1] [] (by kernel_rfl) R R R<|Bd hm fun x2 h8 hm=>Ax 2 R R R (by kernel_rfl) (Az T_api_Bound.vv R R el23 h8)<|Aq tbk [3,4,5,6,7] [] (by kernel_rfl) R R R<|Bd hm fun x3 h9 hm=>Ax 8 R R R (by kernel_rfl) (Az T_api_Budget.vv R R el24 h9)<|Aq tbk [9,10] [] (by kernel_rfl) R R R<|Ao 11 (by kernel_rfl)<|Au R R R<|Am hm 0 R fn63 R (K149 _ _) fun r2 hm=>Ax 12 R R R (by kernel_rfl) (Al R)<|Cr hm [20,19,18,17,16,15,14,13,12,11,10,9,8,7,6,5,4,3,2,1,0] 46 38 R (fun _ K' h11 J hm=>Aq tbk [13,14] [] (by kernel_rfl) R R R<|Bd hm fun x4 h12 hm=>Ce 15 R R R R R R (by kernel_rfl) (Az T_api_Budget.vv R R el24 h12)<|Aq tbk [16,17] [] (by kernel_rfl) R R R<|Ao 18 (by kernel_rfl)<|Cv R R R R R R<|Am hm 0 R fn25 R (K8 _ _) fun r3 hm=>Aq tbk [19,20] [] (by kernel_rfl) R R R<|J 7 R R (Bj hm)) (fun _ K' h11 J hm=>Aq tbk [13,14,15,16,17,18,19,20] [] (by kernel_rfl) R R R<|J 7 R R (Bj hm)) fun c hm=>A5 (by kernel_rfl)<|Ak hm R (fun h15 hm=>Ag tbk [] R R<|have hm:=Lr hm h6;Rt1 hm R [] R R R) fun h15 hm=>Aj<|A2 tbk [] R R<|Ap _ () hm (Af [] R R)) fun h7 hm=>A1<|Ar () hm (Af [] R R)
 exact Ag tbk [] R R<|Rt1 hm R [] R R R

/-! trireme/triremeref15.Evict -/
def ref15_Evict (l : List T_api_Budget) (bs : List T_api_Bound) (name : ByteArray) : Option (List T_api_Bound × Int) :=
 (ref15_May l bs name).bind fun r =>
 if (r != 0) = true then
  some (([] : List T_api_Bound), r)
 else
  (V.ap 288 ([] : List T_api_Bound) bs).bind fun l2 =>
  (ref09_Place bs name).bind fun r2 =>
  (V.gl l2 r2).bind fun x =>
  some ((List.set l2 (r2).toNat (⟨x.Pod, (⟨#[]⟩ : ByteArray)⟩ : T_api_Bound)), 0)
theorem K10 (l : List T_api_Budget) (bs : List T_api_Bound) (name : ByteArray) : VS2 Tryz.prog 106 (ref15_Evict l bs name) [L64 l, L49 bs, .str name] [] (fun r ob0 cap0=>.tup [Z49 ob0 r.1 cap0, Iw r.2]) (fun r ob0 cap0=>[Q49 ob0 cap0 r.1]) := by
 refine Cl [.tmp 6,.tmp 7] Tryz.func106 R R R fun r hm=>?_
 unfold ref15_Evict at hm
 refine Ag tbk [] R R<|Ah<|Aa tbk [] 3 R R<|Ad R R<|Am hm 0 R fn151 R (K9 _ _ _) fun r hm=>Ab R R (Ai R)<|Ac<|Ae<|Ag tbk [] R R<|Ak hm R (fun h2 hm=>Ag tbk [] R R<|B8 (Bc 49)<|Rg2 hm R [0] none 0 (.cons (.tmp _ _ R) (.cons (.tmp _ _ R) .nil)) R R) fun h2 hm=>Aj<|Ag tbk [] R R<|Ah<|Aa tbk [] 2 R R<|Bh (Bc 49)<|Bd hm fun l2 h5 hm=>Ad R R<|B3 0 T_api_Bound.vv (l:=([] : List T_api_Bound)) (l2:=bs) ap23 R R (sT_list T_api_Bound.vv el23 R R) h5 fun ob cap=>Ab R R (Ai R)<|Ac<|Ah<|Aa tbk [] 3 R R<|Ad R R<|Am hm 0 R fn57 R (K59 _ _) fun r2 hm=>Bd hm fun x h7 hm=>Cx 0 R (gl_pos T_api_Bound.vv h7) fun b h8=> ?_
 subst h8
 exact Ab R R (Cf T_api_Bound.vv R R el23 h7)<|Ab R R (B9 R fa49_1)<|Ad R R<|C7 0 (f:=T_api_Bound.vv) (l:=l2) (q:=x) (q':=(⟨x.Pod,(⟨#[]⟩ : ByteArray)⟩ : T_api_Bound)) R R R R h7 ld9 R R R R ⟨R,List.all_eq_true.1 R⟩<|Bh (Cg 9 (List.map T_api_Bound.vv (List.set l2 (r2).toNat (⟨x.Pod,(⟨#[]⟩ : ByteArray)⟩ : T_api_Bound))).length R (len_set _ _ _ _))<|Bh (Cg 19 (List.map T_api_Bound.vv (List.set l2 (r2).toNat (⟨x.Pod,(⟨#[]⟩ : ByteArray)⟩ : T_api_Bound))).length R (len_set _ _ _ _))<|Bh (Cg 20 (List.map T_api_Bound.vv (List.set l2 (r2).toNat (⟨x.Pod,(⟨#[]⟩ : ByteArray)⟩ : T_api_Bound))).length R (len_set _ _ _ _))<|Ac<|Ag tbk [] R R<|Rg2 hm R [0] (some b) cap (.cons (.tmp _ _ R) (.cons (.tmp _ _ R) .nil)) R R

/-! trireme/triremeref25.Why -/
def ref25_Why.l1 (r : List T_api_Pod) : Nat → Int → Option (Out (ByteArray × Int) Unit)
 | 0, _ => none
 | n + 1, i2 =>
  if (decide (i2 < (r.length : Int))) = true then
   (V.gl r i2).bind fun x =>
   (if x.Pinned = true then some true else (V.gl r i2).bind fun x2 =>
   some x2.Local).bind fun c =>
   (if c = true then some true else (V.gl r i2).bind fun x3 =>
   some (V.seq x3.Owner (⟨#[]⟩ : ByteArray))).bind fun c2 =>
   if c2 = true then
    (V.gl r i2).bind fun x4 =>
    some (Out.ret (x4.Name, 22))
   else
    ref25_Why.l1 r n (i64.wrap (i2 + 1))
  else
   some (Out.go ())
def ref25_Why.l2 (budgets : List T_api_Budget) (r : List T_api_Pod) : Nat → (List T_api_Bound) → Int → Option (Out (ByteArray × Int) Unit)
 | 0, _, _ => none
 | n2 + 1, bs3, i4 =>
  if (decide (i4 < (r.length : Int))) = true then
   (V.gl r i4).bind fun x5 =>
   (ref15_Evict budgets bs3 x5.Name).bind fun r2 =>
   if (r2.2 != 0) = true then
    (V.gl r i4).bind fun x6 =>
    some (Out.ret (x6.Name, r2.2))
   else
    ref25_Why.l2 budgets r n2 r2.1 (i64.wrap (i4 + 1))
  else
   some (Out.go ())
def ref25_Why (bs : List T_api_Bound) (budgets : List T_api_Budget) (name : ByteArray) : Option (ByteArray × Int) :=
 (ref25_Movable bs name).bind fun r =>
 (ref25_Why.l1 r FU (0 : Int)).bind fun o =>
 o.on fun j =>
 (ref25_Why.l2 budgets r FU bs (0 : Int)).bind fun o2 =>
 o2.on fun j2 =>
 some ((⟨#[]⟩ : ByteArray), 0)
theorem K11 (bs : List T_api_Bound) (budgets : List T_api_Budget) (name : ByteArray) : VS Tryz.prog 56 (ref25_Why bs budgets name) [L49 bs, L64 budgets, .str name] [] (fun r=>.tup [.str r.1, Iw r.2]) N0 := by
 refine A3 [.tmp 6,.tmp 7] Tryz.func56 R R R fun r hm=>?_
 unfold ref25_Why at hm
 refine Ag tbk [] R R<|Ah<|Aa tbk [] 2 R R<|Ad R R<|Bz hm 0 R fn24 R (K147 _ _) fun r ob cap hm=>Bh (Aw 0 [(15,L47 r)] R ⟨⟨_,R,.here _ R⟩,trivial⟩ (FzH.refl _))<|Ab R R (Ai R)<|Ac<|Ae<|Ag tbk [] R R<|Bn hm (fun _ (_:Unit)=>[(0,L49 bs),(1,L64 budgets),(8,L47 r)]) (fun _ (_:Unit)=>[]) (fun o hm h4=>?_) fun j _ hm=> ?_
 ·refine Bl (fun zn (zs:Int)=>ref25_Why.l1 r zn zs) (fun zs (_:Unit)=>[(0,L49 bs),(1,L64 budgets),(8,L47 r),(9,Iw zs)]) (fun _ (_:Unit)=>[]) _ () (fun _=>R) hm (Af [] R R) fun n i2 _ hm=> ?_
  rw [ref25_Why.l1] at hm
  exact Ae<|Ah<|Aa tbk [] 2 R R<|Ab R R (Av T_api_Pod.vv R Bv)<|Ab R R (A4 R R R)<|Ac<|Ak hm R (fun h5 hm=>Aj<|Ae<|Ay<|Ah<|Aa tbk [] 2 R R<|Bd hm fun x h6 hm=>Ab R R (Az T_api_Pod.vv R R el55 h6)<|Aa tbk [] 3 R R<|Be hm 6 33 27 R (fun _ K' h7 J hm=>Aa tbk [] 6 R R<|J 5 R R (Bj hm)) (fun _ K' h7 J hm=>Aa tbk [] 2 R R<|Bd hm fun x2 h8 hm=>Bg R R R R R (Az T_api_Pod.vv R R el55 h8)<|Aa tbk [] 3 R R<|J 5 R R (Bj hm)) fun c hm=>Ab R R (Al R)<|Be hm 7 41 34 R (fun _ K' h10 J hm=>Aa tbk [] 7 R R<|J 6 R R (Bj hm)) (fun _ K' h10 J hm=>Aa tbk [] 2 R R<|Bd hm fun x3 h11 hm=>Bg R R R R R (Az T_api_Pod.vv R R el55 h11)<|Aa tbk [] 4 R R<|J 6 R R (Bj hm)) fun c2 hm=>Ac<|Ak hm R (fun h13 hm=>Ah<|Aa tbk [] 2 R R<|Bd hm fun x4 h14 hm=>Ab R R (Az T_api_Pod.vv R R el55 h14)<|Aa tbk [] 4 R R<|Ac<|have hm:=Lr hm h4;Rt2 hm R [] R R R R) fun h13 hm=>Aj<|A2 tbk [] R R<|Ap _ () hm (Af [] R R)) fun h5 hm=>A1<|Ar () hm (Af [] R R)
 refine Ae<|Ag tbk [] R R<|Bn hm (fun _ (_:Unit)=>[]) (fun _ (_:Unit)=>[]) (fun o2 hm h16=>?_) fun j2 _ hm=> ?_
 ·refine Bl (fun zn (zs:List T_api_Bound × Int)=>ref25_Why.l2 budgets r zn zs.1 zs.2) (fun zs (_:Unit)=>[(0,L49 zs.1),(1,L64 budgets),(8,L47 r),(10,Iw zs.2)]) (fun _ (_:Unit)=>[]) (bs,(0 : Int)) () (fun _=>R) hm (Af [] R R) fun n2=>Pq fun bs3 i4 _ hm=> ?_
  rw [ref25_Why.l2] at hm
  exact Ae<|Ah<|Aa tbk [] 2 R R<|Ab R R (Av T_api_Pod.vv R Bv)<|Ab R R (A4 R R R)<|Ac<|Ak hm R (fun h17 hm=>Aj<|Ae<|Ay<|Ah<|Aa tbk [] 4 R R<|Bd hm fun x5 h18 hm=>Ab R R (Az T_api_Pod.vv R R el55 h18)<|Aa tbk [] 2 R R<|Ad R R<|Bz hm 0 R fn106 R (K10 _ _ _) fun r2 ob2 cap2 hm=>Aa tbk [] 5 R R<|Ac<|Ae<|Ag tbk [] R R<|Ak hm R (fun h21 hm=>Ah<|Aa tbk [] 2 R R<|Bd hm fun x6 h22 hm=>Ab R R (Az T_api_Pod.vv R R el55 h22)<|Aa tbk [] 5 R R<|Ac<|have hm:=Lr hm h16;Rt2 hm R [] R R R R) fun h21 hm=>Aj<|A2 tbk [] R R<|A2 tbk [] R R<|Ap (r2.1,(IntKind.i64.wrap (i4 + (1 : Int)))) () hm (Bb (Aw 0 [(0,L49 r2.1),(62,L49 r2.1),(11,L49 r2.1),(72,L49 r2.1)] R ⟨⟨_,R,.here _ R⟩,⟨_,R,.here _ R⟩,⟨_,R,.here _ R⟩,⟨_,R,.here _ R⟩,trivial⟩ (FzH.refl _)) (Af [] R R))) fun h17 hm=>A1<|Ar () hm (Af [] R R)
 exact Ag tbk [] R R<|Rt2 hm R [] R R R R

/-! trireme/triremeref26.Many -/
def ref26_Many.l2 (r5 : List T_api_Move × Bool) : Nat → (List T_api_Bound) → (List ByteArray) → Int → Option (List T_api_Bound × List ByteArray)
 | 0, _, _, _ => none
 | n2 + 1, now5, goals4, k2 =>
  if (decide (k2 < (r5.1.length : Int))) = true then
   (V.gl r5.1 k2).bind fun x6 =>
   (V.gl r5.1 k2).bind fun x7 =>
   (ref09_Place now5 x6.Pod).bind fun r6 =>
   (V.gl now5 r6).bind fun x8 =>
   (V.gl r5.1 k2).bind fun x9 =>
   (V.ap 16 goals4 [x9.To]).bind fun goals6 =>
   ref26_Many.l2 r5 n2 (List.set now5 (r6).toNat (⟨x8.Pod, x7.To⟩ : T_api_Bound)) goals6 (i64.wrap (k2 + 1))
  else
   some (now5, goals4)
def ref26_Many.l1 (ms : List T_api_Machine) (budgets : List T_api_Budget) (names : List ByteArray) (most : Int) : Nat → (List T_api_Bound) → (List T_api_Plan) → (List ByteArray) → (List ByteArray) → Int → Option (List T_api_Bound × List T_api_Plan)
 | 0, _, _, _, _, _ => none
 | n + 1, now2, plans2, barred2, goals2, i2 =>
  if ((decide (i2 < (names.length : Int))) && (decide ((plans2.length : Int) < most))) = true then
   (V.gl names i2).bind fun x =>
   (ref26_among barred2 x).bind fun r =>
   (if r = true then some true else (V.gl names i2).bind fun x2 =>
   (ref26_among goals2 x2).bind fun r2 =>
   some r2).bind fun c =>
   (if c = true then some true else (V.gl names i2).bind fun x3 =>
   (ref09_Find ms x3).bind fun r3 =>
   some (decide (r3 < 0))).bind fun c2 =>
   if c2 = true then
    ref26_Many.l1 ms budgets names most n now2 plans2 barred2 goals2 (i64.wrap (i2 + 1))
   else
    (V.gl names i2).bind fun x4 =>
    (ref25_Why now2 budgets x4).bind fun r4 =>
    (V.gl names i2).bind fun x5 =>
    (ref26_One ms now2 x5 barred2).bind fun r5 =>
    if ((r4.2 != 0) || (!r5.2)) = true then
     ref26_Many.l1 ms budgets names most n now2 plans2 barred2 goals2 (i64.wrap (i2 + 1))
    else
     (ref26_Many.l2 r5 FU now2 goals2 (0 : Int)).bind fun j2 =>
     (V.gl names i2).bind fun x10 =>
     (V.ap 16 barred2 [x10]).bind fun barred3 =>
     (V.gl names i2).bind fun x11 =>
     (V.ap 40 plans2 [(⟨x11, r5.1⟩ : T_api_Plan)]).bind fun plans4 =>
     ref26_Many.l1 ms budgets names most n j2.1 plans4 barred3 j2.2 (i64.wrap (i2 + 1))
  else
   some (now2, plans2)
def ref26_Many (ms : List T_api_Machine) (bs : List T_api_Bound) (budgets : List T_api_Budget) (names : List ByteArray) (most : Int) : Option (List T_api_Plan × List T_api_Bound) :=
 (V.ap 288 ([] : List T_api_Bound) bs).bind fun l =>
 (ref26_Many.l1 ms budgets names most FU l ([] : List T_api_Plan) ([] : List ByteArray) ([] : List ByteArray) (0 : Int)).bind fun j =>
 some (j.2, j.1)
theorem K12 (ms : List T_api_Machine) (bs : List T_api_Bound) (budgets : List T_api_Budget) (names : List ByteArray) (most : Int) : ∀ r : List T_api_Plan × List T_api_Bound, ref26_Many ms bs budgets names most = some r → VC Tryz.prog 17 [L61 ms, L49 bs, L64 budgets, L9 names, Iw most] [] fun zx zH => ∃ (ob0 : Option Nat) (cap0 : Nat) (ob1 : Option Nat) (cap1 : Nat), zx = .tup [Z54 ob0 r.1 cap0, Z49 ob1 r.2 cap1] ∧ zH = [Q54 ob0 cap0 r.1, Q49 ob1 cap1 r.2] := by
 refine VCx.run [.tmp 10,.tmp 11] Tryz.func17 R R R fun r hm=>?_
 unfold ref26_Many at hm
 refine Ag tbk [] R R<|Ag tbk [] R R<|Ah<|Aa tbk [] 2 R R<|Bh (Bc 49)<|Bd hm fun l h2 hm=>Ad R R<|B3 0 T_api_Bound.vv (l:=([] : List T_api_Bound)) (l2:=bs) ap23 R R (sT_list T_api_Bound.vv el23 R R) h2 fun ob cap=>Ab R R (Ai R)<|Ac<|Ag tbk [] R R<|Ag tbk [] R R<|Ag tbk [] R R<|Ae<|Ag tbk [] R R<|Bw hm (fun j (gg:Option Nat × Option Nat × Nat)=>[(12,Z49 gg.1 j.1 cap),(13,Z54 gg.2.1 j.2 gg.2.2)]) (fun j (gg:Option Nat × Option Nat × Nat)=>[Q54 gg.2.1 gg.2.2 j.2,Q49 gg.1 cap j.1]) (fun o hm=>?_) fun j=>Pq fun ob10=>Pq fun ob11 cap8 hm=> ?_
 ·refine Bl (fun zn (zs:List T_api_Bound × List T_api_Plan × List ByteArray × List ByteArray × Int)=>ref26_Many.l1 ms budgets names most zn zs.1 zs.2.1 zs.2.2.1 zs.2.2.2.1 zs.2.2.2.2) (fun zs (zg:Option Nat × Option Nat × Nat × Option Nat × Nat × Option Nat × Nat)=>[(0,L61 ms),(2,L64 budgets),(3,L9 names),(4,Iw most),(12,Z49 zg.1 zs.1 cap),(13,Z54 zg.2.1 zs.2.1 zg.2.2.1),(14,Z9 zg.2.2.2.1 zs.2.2.1 zg.2.2.2.2.1),(15,Z9 zg.2.2.2.2.2.1 zs.2.2.2.1 zg.2.2.2.2.2.2),(16,Iw zs.2.2.2.2)]) (fun zs (zg:Option Nat × Option Nat × Nat × Option Nat × Nat × Option Nat × Nat)=>[Q54 zg.2.1 zg.2.2.1 zs.2.1,Q9 zg.2.2.2.1 zg.2.2.2.2.1 zs.2.2.1,Q9 zg.2.2.2.2.2.1 zg.2.2.2.2.2.2 zs.2.2.2.1,Q49 zg.1 cap zs.1]) (l,([] : List T_api_Plan),([] : List ByteArray),([] : List ByteArray),(0 : Int)) (ob,none,0,none,0,none,0) (fun _=>R) hm (Bb (Bc 54) (Bb (Bc 9) (Bb (Bc 9) (Af [2,1,0,0] R R)))) fun n=>Pq fun now2=>Pq fun plans2=>Pq fun barred2=>Pq fun goals2 i2=>Pq fun ob6=>Pq fun ob7=>Pq fun cap5=>Pq fun ob8=>Pq fun cap6=>Pq fun ob9 cap7 hm=> ?_
  rw [ref26_Many.l1] at hm
  refine Ae<|Ah<|Aa tbk [] 2 R R<|Ab R R (Av VV.str R Bo)<|Aa tbk [] 2 R R<|C8 5 34 29 R (fun h11 K' J=>Bg R R R R R (Al R)<|Bg R R R R R (Cu T_api_Plan.vv R B2)<|Aa tbk [] 3 R R<|J 4 R R R) (fun K' J=>Aa tbk [] 5 R R<|J 4 R R R)<|Ac<|Ak hm R (fun h12 hm=>?_) fun h12 hm=> ?_
  ·refine Aj<|Ae<|Ay<|Ae<|Ah<|Aa tbk [] 3 R R<|Bd hm fun x h13 hm=>Ab R R (Az VV.str R R el25 h13)<|Ab R R (Bi R ld9 R)<|Ad R R<|C4 hm (Aw 1 [(14,L9 barred2),(37,L9 barred2)] R ⟨⟨_,R,.here _ R⟩,⟨_,R,.here _ R⟩,trivial⟩ (FzH.refl _)) [.same,.same] R fn55 R (K144 _ _) (fun _=>R) (fun _=>R) fun r hm=>Ab R R (Al R)<|Be hm 7 50 43 R (fun _ K' h15 J hm=>Aa tbk [] 7 R R<|J 6 R R (Bj hm)) (fun _ K' h15 J hm=>Aa tbk [] 3 R R<|Bd hm fun x2 h16 hm=>Bg R R R R R (Az VV.str R R el25 h16)<|Bg R R R R R (Bi R ld9 R)<|A7 R R R R R<|C4 hm (Aw 2 [(15,L9 goals2),(44,L9 goals2)] R ⟨⟨_,R,.here _ R⟩,⟨_,R,.here _ R⟩,trivial⟩ (FzH.refl _)) [.same,.same] R fn55 R (K144 _ _) (fun _=>R) (fun _=>R) fun r2 hm=>Ab R R (Bf false R R R)<|J 6 R R (Bj hm)) fun c hm=>Ab R R (Al R)<|Be hm 8 59 51 R (fun _ K' h19 J hm=>Aa tbk [] 8 R R<|J 7 R R (Bj hm)) (fun _ K' h19 J hm=>Aa tbk [] 3 R R<|Bd hm fun x3 h20 hm=>Bg R R R R R (Az VV.str R R el25 h20)<|Bg R R R R R (Bi R ld9 R)<|A7 R R R R R<|Am hm 0 R fn23 R (K58 _ _) fun r3 hm=>Aa tbk [] 2 R R<|J 7 R R (Bj hm)) fun c2 hm=>Ac<|Ak hm R (fun h23 hm=>A1<|A2 tbk [] R R<|Ap (now2,plans2,barred2,goals2,(IntKind.i64.wrap (i2 + (1 : Int)))) (ob6,ob7,cap5,ob8,cap6,ob9,cap7) hm (Af [0,0,0,0] R R)) fun h23 hm=>Aj<|Ah<|Aa tbk [] 4 R R<|Bd hm fun x4 h24 hm=>Ab R R (Az VV.str R R el25 h24)<|Ab R R (Bi R ld9 R)<|Ad R R<|C4 hm (Aw 3 [(12,L49 now2),(61,L49 now2)] R ⟨⟨_,R,.here _ R⟩,⟨_,R,.here _ R⟩,trivial⟩ (FzH.refl _)) [.same,.same,.same] R fn56 R (K11 _ _ _) (fun _=>R) (fun _=>R) fun r4 hm=>Aa tbk [] 5 R R<|Ac<|Ah<|Aa tbk [] 4 R R<|Bd hm fun x5 h26 hm=>Ab R R (Az VV.str R R el25 h26)<|Aa tbk [] 2 R R<|Ad R R<|VO.ce2 hm (Bb (Aw 3 [(12,L49 now2),(61,L49 now2),(72,L49 now2)] R ⟨⟨_,R,.here _ R⟩,⟨_,R,.here _ R⟩,⟨_,R,.here _ R⟩,trivial⟩ (FzH.refl _)) (Aw 1 [(14,L9 barred2),(37,L9 barred2),(77,L9 barred2)] R ⟨⟨_,R,.here _ R⟩,⟨_,R,.here _ R⟩,⟨_,R,.here _ R⟩,trivial⟩ (FzH.refl _))) [.same,.same,.same,.same] R fn14 R (K7 _ _ _ _) (fun _ _ _=>R) (fun _ _ _=>flH1 fun _=>R) fun r5 ob12 cap9 hm=>Aa tbk [] 5 R R<|Ac<|Ae<|Ah<|Aa tbk [] 3 R R<|Cp tbk [] 3 86 83 R R R R R<|Ac<|Ak hm R (fun h30 hm=>A1<|A2 tbk [] R R<|Ap (now2,plans2,barred2,goals2,(IntKind.i64.wrap (i2 + (1 : Int)))) (ob6,ob7,cap5,ob8,cap6,ob9,cap7) hm (Af [1,1,1,1] R R)) fun h30 hm=>Aj<|Ae<|?_
   refine Ag tbk [] R R<|Bw hm (fun j2 (gg:Option Nat × Option Nat × Nat × Option Nat)=>[(0,L61 ms),(2,L64 budgets),(3,L9 names),(4,Iw most),(12,Z49 gg.1 j2.1 cap),(13,Z54 ob7 plans2 cap5),(14,Z9 ob8 barred2 cap6),(15,Z9 gg.2.1 j2.2 gg.2.2.1),(16,Iw i2),(19,Z58 gg.2.2.2 r5.1 cap9)]) (fun j2 (gg:Option Nat × Option Nat × Nat × Option Nat)=>[Q58 gg.2.2.2 cap9 r5.1,Q54 ob7 cap5 plans2,Q9 ob8 cap6 barred2,Q9 gg.2.1 gg.2.2.1 j2.2,Q49 gg.1 cap j2.1]) (fun o2 hm=>?_) fun j2=>Pq fun ob19=>Pq fun ob20=>Pq fun cap12 ob21 hm=> ?_
   ·refine Bl (fun zn (zs:List T_api_Bound × List ByteArray × Int)=>ref26_Many.l2 r5 zn zs.1 zs.2.1 zs.2.2) (fun zs (zg:Option Nat × Option Nat × Nat × Option Nat)=>[(0,L61 ms),(2,L64 budgets),(3,L9 names),(4,Iw most),(12,Z49 zg.1 zs.1 cap),(13,Z54 ob7 plans2 cap5),(14,Z9 ob8 barred2 cap6),(15,Z9 zg.2.1 zs.2.1 zg.2.2.1),(16,Iw i2),(19,Z58 zg.2.2.2 r5.1 cap9),(21,Iw zs.2.2)]) (fun zs (zg:Option Nat × Option Nat × Nat × Option Nat)=>[Q58 zg.2.2.2 cap9 r5.1,Q54 ob7 cap5 plans2,Q9 ob8 cap6 barred2,Q9 zg.2.1 zg.2.2.1 zs.2.1,Q49 zg.1 cap zs.1]) (now2,goals2,(0 : Int)) (ob6,ob9,cap7,ob12) (fun _=>R) hm (Af [0,0,0,0,0] R R) fun n2=>Pq fun now5=>Pq fun goals4 k2=>Pq fun ob16=>Pq fun ob17=>Pq fun cap11 ob18 hm=> ?_
    rw [ref26_Many.l2] at hm
    refine Ae<|Ah<|Aa tbk [] 2 R R<|Ab R R (Cu T_api_Move.vv R Cj)<|Ab R R (A4 R R R)<|Ac<|Ak hm R (fun h33 hm=>?_) fun h33 hm=> ?_
    ·refine Aj<|Ae<|Ay<|Ae<|B8 (Ci [4,0,0,0,0] R)<|A9 1 mixed<|Aq tbk [0,1,2,3] [] (by kernel_rfl) R R R<|Bd hm fun x6 h34 hm=>C2 1 R (gl_pos T_api_Move.vv h34) fun b h35=> ?_
     subst h35
     refine Ax 4 R R R (by kernel_rfl) (Cf T_api_Move.vv R R el30 h34)<|Ax 5 R R R (by kernel_rfl) (B9 R fa58_0)<|Ax 6 R R R (by kernel_rfl) (Cd (i:=0) (y:=T_api_Move.vv x6) R R R (gl_map _ (gl_some h34).2) ld9 R)<|Aq tbk [8,9] [] (by kernel_rfl) R R R<|Bd hm fun x7 h36 hm=>Ax 10 R R R (by kernel_rfl) (Cf T_api_Move.vv R R el30 h36)<|Ax 11 R R R (by kernel_rfl) (B9 R fa58_1)<|Ax 12 R R R (by kernel_rfl) (Cd (i:=0) (y:=T_api_Move.vv x7) R R R (gl_map _ (gl_some h36).2) ld9 R)<|Ao 7 (by kernel_rfl)<|Au R R R<|C4 hm (Aw 0 [(12,L49 now5),(93,L49 now5),(94,L49 now5)] R ⟨⟨_,R,.here _ R⟩,⟨_,R,.here _ R⟩,⟨_,R,.here _ R⟩,trivial⟩ (FzH.refl _)) [.same,.same] R fn57 R (K59 _ _) (fun _=>R) (fun _=>R) fun r6 hm=>Bd hm fun x8 h38 hm=>C2 0 R (gl_pos T_api_Bound.vv h38) fun b2 h39=> ?_
     subst h39
     exact Ax 13 R R R (by kernel_rfl) (Cf T_api_Bound.vv R R el23 h38)<|Ax 14 R R R (by kernel_rfl) (B9 R fa49_1)<|Ao 15 (by kernel_rfl)<|Au R R R<|C7 0 (f:=T_api_Bound.vv) (l:=now5) (q:=x8) (q':=(⟨x8.Pod,x7.To⟩ : T_api_Bound)) R R R R h38 ld9 R R R R ⟨R,List.all_eq_true.1 R⟩<|Cc (Cg 12 (List.map T_api_Bound.vv (List.set now5 (r6).toNat (⟨x8.Pod,x7.To⟩ : T_api_Bound))).length R (len_set _ _ _ _))<|Cc (Cg 93 (List.map T_api_Bound.vv (List.set now5 (r6).toNat (⟨x8.Pod,x7.To⟩ : T_api_Bound))).length R (len_set _ _ _ _))<|Cc (Cg 94 (List.map T_api_Bound.vv (List.set now5 (r6).toNat (⟨x8.Pod,x7.To⟩ : T_api_Bound))).length R (len_set _ _ _ _))<|A5 (by kernel_rfl)<|Bq<|Aa tbk [] 3 R R<|Bd hm fun x9 h40 hm=>Ab R R (Cf T_api_Move.vv R R el30 h40)<|Ab R R (B9 R fa58_1)<|Ab R R (Cd (i:=1) (y:=T_api_Move.vv x9) R R R (gl_map _ (gl_some h40).2) ld9 R)<|Ad R R<|A8 ap25 R R R R R fun b3=>Bd hm fun goals6 h42 hm=>Ad R R<|B3 5 VV.str (l:=goals4) (l2:=[x9.To]) ap25 R R (sT_row 0 VV.str el25 R R) h42 fun ob22 cap13=>Ab R R (Ai R)<|Ac<|A2 tbk [] R R<|Ap ((List.set now5 (r6).toNat (⟨x8.Pod,x7.To⟩ : T_api_Bound)),goals6,(IntKind.i64.wrap (k2 + (1 : Int)))) ((some b2),ob22,cap13,(some b)) hm (Af [2,2,2,2,1] R R)
    exact A1<|As (ob16,ob17,cap11,ob18) hm (Af [0,0,0,0,0] R R)
   exact Ah<|Aa tbk [] 3 R R<|Bd hm fun x10 h43 hm=>Ab R R (Az VV.str R R el25 h43)<|Ab R R (Bi R ld9 R)<|Ad R R<|A8 ap25 R R R R R fun b4=>Bd hm fun barred3 h45 hm=>Ad R R<|B3 3 VV.str (l:=barred2) (l2:=[x10]) ap25 R R (sT_row 0 VV.str el25 R R) h45 fun ob23 cap14=>Ab R R (Ai R)<|Ac<|Bq<|Aa tbk [] 3 R R<|Bd hm fun x11 h46 hm=>Ab R R (Az VV.str R R el25 h46)<|Aa tbk [] 2 R R<|Ab R R (Bt pl54 R R)<|Bh (Aw 1 [(19,L58 r5.1),(128,L58 r5.1),(129,T_api_Plan.vv (⟨x11,r5.1⟩ : T_api_Plan))] R ⟨⟨_,R,.here _ R⟩,⟨_,R,.here _ R⟩,⟨_,R,.aggL ⟨.same _,.here _ R,trivial⟩⟩,trivial⟩ (FzH.refl _))<|Ad R R<|A8 ap34 R R R R R fun b5=>Bd hm fun plans4 h48 hm=>Ad R R<|B3 2 T_api_Plan.vv (l:=plans2) (l2:=[(⟨x11,r5.1⟩ : T_api_Plan)]) ap34 R R (sT_row 0 T_api_Plan.vv el34 R R) h48 fun ob24 cap15=>Ab R R (Ai R)<|Ac<|A2 tbk [] R R<|Ap (j2.1,plans4,barred3,j2.2,(IntKind.i64.wrap (i2 + (1 : Int)))) (ob19,ob24,cap15,ob23,cap14,ob20,cap12) hm (Af [2,2,2,2] R R)
  exact A1<|As (ob6,ob7,cap5) hm (Af [0,2] R R)
 refine Ag tbk [] R R<|?_
 obtain rfl:=Option.some.inj hm
 exact VW.ret ⟨.inl R,_,.cons (.tmp _ _ R) (.cons (.tmp _ _ R) .nil),[0,0],_,R,ob11,cap8,ob10,cap,R,R⟩

/-! trireme/triremeref05.Same -/
def ref05_Same.l1 (a : List T_api_Label) (b : List T_api_Label) : Nat → Int → Option (Out Bool Unit)
 | 0, _ => none
 | n + 1, i2 =>
  if (decide (i2 < (a.length : Int))) = true then
   (V.gl a i2).bind fun x =>
   (V.gl b i2).bind fun x2 =>
   if (!(((x.Key == x2.Key) && ((x.Val == x2.Val) && true)) == true)) = true then
    some (Out.ret false)
   else
    ref05_Same.l1 a b n (i64.wrap (i2 + 1))
  else
   some (Out.go ())
def ref05_Same (a : List T_api_Label) (b : List T_api_Label) : Option Bool :=
 if ((a.length : Int) != (b.length : Int)) = true then
  some false
 else
  (ref05_Same.l1 a b FU (0 : Int)).bind fun o =>
  o.on fun j =>
  some true
theorem K13 (a : List T_api_Label) (b : List T_api_Label) : VS Tryz.prog 107 (ref05_Same a b) [L92 a, L92 b] [] .bool N0 := by
 refine A3 [.tmp 4] Tryz.func107 R R R fun r hm=>?_
 unfold ref05_Same at hm
 refine Ag tbk [] R R<|Ae<|Ah<|Ab R R (Al R)<|Ab R R (Av T_api_Label.vv R Br)<|Ab R R (Al R)<|Ab R R (Av T_api_Label.vv R Br)<|Ab R R (A4 R R R)<|Ac<|Ak hm R (fun h1 hm=>Ag tbk [] R R<|Rt1 hm R [] R R R) fun h1 hm=>Aj<|Ae<|Ag tbk [] R R<|Bn hm (fun _ (_:Unit)=>[]) (fun _ (_:Unit)=>[]) (fun o hm h3=>?_) fun j _ hm=> ?_
 ·refine Bl (fun zn (zs:Int)=>ref05_Same.l1 a b zn zs) (fun zs (_:Unit)=>[(0,L92 a),(1,L92 b),(5,Iw zs)]) (fun _ (_:Unit)=>[]) _ () (fun _=>R) hm (Af [] R R) fun n i2 _ hm=> ?_
  rw [ref05_Same.l1] at hm
  exact Ae<|Ah<|Aa tbk [] 2 R R<|Ab R R (Av T_api_Label.vv R Br)<|Ab R R (A4 R R R)<|Ac<|Ak hm R (fun h4 hm=>Aj<|Ae<|Ay<|Ae<|A9 0 mixed<|Aq tbk [0,1] [] (by kernel_rfl) R R R<|Bd hm fun x h5 hm=>Ax 2 R R R (by kernel_rfl) (Az T_api_Label.vv R R el42 h5)<|Aq tbk [3,4,5] [] (by kernel_rfl) R R R<|Bd hm fun x2 h6 hm=>Ax 6 R R R (by kernel_rfl) (Az T_api_Label.vv R R el42 h6)<|Ax 7 R R R (by kernel_rfl) (Bi R ld92 R)<|Ax 8 R R R (by kernel_rfl) (Dk shp92 eq92 R R R R)<|A5 (by kernel_rfl)<|Ak hm R (fun h7 hm=>Ag tbk [] R R<|have hm:=Lr hm h3;Rt1 hm R [] R R R) fun h7 hm=>Aj<|A2 tbk [] R R<|Ap _ () hm (Af [] R R)) fun h4 hm=>A1<|Ar () hm (Af [] R R)
 exact Ag tbk [] R R<|Rt1 hm R [] R R R

/-! trireme/triremeref06.Same -/
def ref06_Same.l1 (a : List T_api_Taint) (b : List T_api_Taint) : Nat → Int → Option (Out Bool Unit)
 | 0, _ => none
 | n + 1, i2 =>
  if (decide (i2 < (a.length : Int))) = true then
   (V.gl a i2).bind fun x =>
   (V.gl b i2).bind fun x2 =>
   if (!(((x.Key == x2.Key) && ((x.Val == x2.Val) && ((x.Effect == x2.Effect) && true))) == true)) = true then
    some (Out.ret false)
   else
    ref06_Same.l1 a b n (i64.wrap (i2 + 1))
  else
   some (Out.go ())
def ref06_Same (a : List T_api_Taint) (b : List T_api_Taint) : Option Bool :=
 if ((a.length : Int) != (b.length : Int)) = true then
  some false
 else
  (ref06_Same.l1 a b FU (0 : Int)).bind fun o =>
  o.on fun j =>
  some true
theorem K14 (a : List T_api_Taint) (b : List T_api_Taint) : VS Tryz.prog 108 (ref06_Same a b) [L166 a, L166 b] [] .bool N0 := by
 refine A3 [.tmp 4] Tryz.func108 R R R fun r hm=>?_
 unfold ref06_Same at hm
 refine Ag tbk [] R R<|Ae<|Ah<|Ab R R (Al R)<|Ab R R (Av T_api_Taint.vv R B1)<|Ab R R (Al R)<|Ab R R (Av T_api_Taint.vv R B1)<|Ab R R (A4 R R R)<|Ac<|Ak hm R (fun h1 hm=>Ag tbk [] R R<|Rt1 hm R [] R R R) fun h1 hm=>Aj<|Ae<|Ag tbk [] R R<|Bn hm (fun _ (_:Unit)=>[]) (fun _ (_:Unit)=>[]) (fun o hm h3=>?_) fun j _ hm=> ?_
 ·refine Bl (fun zn (zs:Int)=>ref06_Same.l1 a b zn zs) (fun zs (_:Unit)=>[(0,L166 a),(1,L166 b),(5,Iw zs)]) (fun _ (_:Unit)=>[]) _ () (fun _=>R) hm (Af [] R R) fun n i2 _ hm=> ?_
  rw [ref06_Same.l1] at hm
  exact Ae<|Ah<|Aa tbk [] 2 R R<|Ab R R (Av T_api_Taint.vv R B1)<|Ab R R (A4 R R R)<|Ac<|Ak hm R (fun h4 hm=>Aj<|Ae<|Ay<|Ae<|A9 0 mixed<|Aq tbk [0,1] [] (by kernel_rfl) R R R<|Bd hm fun x h5 hm=>Ax 2 R R R (by kernel_rfl) (Az T_api_Taint.vv R R el59 h5)<|Aq tbk [3,4,5] [] (by kernel_rfl) R R R<|Bd hm fun x2 h6 hm=>Ax 6 R R R (by kernel_rfl) (Az T_api_Taint.vv R R el59 h6)<|Ax 7 R R R (by kernel_rfl) (Bi R ld166 R)<|Ax 8 R R R (by kernel_rfl) (Dk shp166 eq166 R R R R)<|A5 (by kernel_rfl)<|Ak hm R (fun h7 hm=>Ag tbk [] R R<|have hm:=Lr hm h3;Rt1 hm R [] R R R) fun h7 hm=>Aj<|A2 tbk [] R R<|Ap _ () hm (Af [] R R)) fun h4 hm=>A1<|Ar () hm (Af [] R R)
 exact Ag tbk [] R R<|Rt1 hm R [] R R R

/-! trireme/triremeref07.SameMachine -/
def ref07_SameMachine (a : T_api_Machine) (b : T_api_Machine) : Option Bool :=
 (if ((((V.seq a.Name b.Name) && (V.seq a.Group b.Group)) && (((a.Has.Cpu == b.Has.Cpu) && ((a.Has.Mem == b.Has.Mem) && ((a.Has.Disk == b.Has.Disk) && ((a.Has.Pods == b.Has.Pods) && ((a.Has.Dev == b.Has.Dev) && true))))) == true)) && (a.Ready == b.Ready)) = true then (ref05_Same a.Labels b.Labels).bind fun r =>
 some r else some false).bind fun c =>
 (if c = true then (ref06_Same a.Taints b.Taints).bind fun r2 =>
 some r2 else some false).bind fun c2 =>
 some c2
theorem K15 (a : T_api_Machine) (b : T_api_Machine) : VS Tryz.prog 58 (ref07_SameMachine a b) [T_api_Machine.vv a, T_api_Machine.vv b] [] .bool N0 := by
 refine A3 [.tmp 4] Tryz.func58 R R R fun r hm=>?_
 unfold ref07_SameMachine at hm
 exact Ah<|Ad R R<|Ba R R fun b2=>Ad R R<|Ba R R fun b3=>Ab R R (Ai R)<|Ac<|Ah<|Aa tbk [1,0] 6 R R<|Bx tbk [1,0] 6 16 10 R R R R R<|Ab R R (Al R)<|C8 6 23 17 R (fun h4 K' J=>Aa tbk [1,0] 4 R R<|Bg R R R R R (Dk shp41 eq41 R R R R)<|Ab R R (Bf true R R R)<|J 5 R R R) (fun K' J=>Aa tbk [] 6 R R<|J 5 R R R)<|Ab R R (Al R)<|C8 6 30 24 R (fun h5 K' J=>Aa tbk [1,0] 4 R R<|Bg R R R R R (VP.boolop Tryz.underlying4 R R R)<|Ab R R (Bf true R R R)<|J 5 R R R) (fun K' J=>Aa tbk [] 6 R R<|J 5 R R R)<|Ab R R (Al R)<|Be hm 6 37 31 R (fun _ K' h6 J hm=>Aa tbk [1,0] 4 R R<|A7 R R R R R<|Am hm 0 R fn107 R (K13 _ _) fun r hm=>Ab R R (Bf true R R R)<|J 5 R R (Bj hm)) (fun _ K' h6 J hm=>Aa tbk [] 6 R R<|J 5 R R (Bj hm)) fun c hm=>Ab R R (Al R)<|Be hm 6 44 38 R (fun _ K' h9 J hm=>Aa tbk [1,0] 4 R R<|A7 R R R R R<|Am hm 0 R fn108 R (K14 _ _) fun r2 hm=>Ab R R (Bf true R R R)<|J 5 R R (Bj hm)) (fun _ K' h9 J hm=>Aa tbk [] 6 R R<|J 5 R R (Bj hm)) fun c2 hm=>Ab R R (Ai R)<|Ac<|Rt1 hm R [] R R R

/-! trireme/triremeref01.Digits -/
def ref01_Digits : Nat → Int → Option ByteArray
 | 0, _ => none
 | nn + 1, n =>
  if (decide (n < 10)) = true then
   some (strOfNums [(IntKind.u8.wrap (i64.wrap (48 + n)))])
  else
   (V.quo n (10 : Int)).bind fun v =>
   (V.rem n (10 : Int)).bind fun v2 =>
   ((ref01_Digits nn) (i64.wrap v)).bind fun r =>
   (V.cat r (strOfNums [(IntKind.u8.wrap (i64.wrap (48 + v2)))])).bind fun v3 =>
   some v3
theorem K16 (nn : Nat) : ∀ (n : Int), VS Tryz.prog 154 (ref01_Digits nn n) [Iw n] [] .str N0 := by
 induction nn with
 | zero => intro n; exact VS.none (by rw [ref01_Digits])
 | succ nn ih =>
  intro n
  refine A3 [.tmp 2] Tryz.func154 R R R fun r hm=>?_
  rw [ref01_Digits] at hm
  refine Ag tbk [] R R<|Ae<|Ag tbk [] R R<|Ak hm R (fun h1 hm=>Ah<|Aa tbk [] 2 R R<|Ab R R (Cy Ca B6 R)<|Ad R R<|A8 ap193 R R R R R fun b=>Bh (Aw 0 [(8,L5 [(IntKind.u8.wrap (IntKind.i64.wrap ((48 : Int) + n)))])] R ⟨⟨_,R,.here _ R⟩,trivial⟩ (FzH.refl _))<|Ab R R (VP.convBL (l:=[(IntKind.u8.wrap (IntKind.i64.wrap ((48 : Int) + n)))]) el193 B6 A6 R)<|Ab R R (Ai R)<|Ac<|Rt1 hm R [] R R R) fun h1 hm=>Aj<|Ae<|A9 0 mixed<|Ax 0 R R R (by kernel_rfl) (Al R)<|Bd hm fun v h3 hm=>Ax 1 R R R (by kernel_rfl) (De R R h3)<|Ax 3 R R R (by kernel_rfl) (Al R)<|Bd hm fun v2 h4 hm=>Ax 4 R R R (by kernel_rfl) (VP.remT R R h4)<|Ax 5 R R R (by kernel_rfl) (A4 R R R)<|Ax 6 R R R (by kernel_rfl) (Cy Ca B6 R)<|?_
  refine B4 [2,7] (by kernel_rfl) ⟨?_,?_,trivial⟩
  ·exact Au R R R<|Am hm 0 R fn154 R (ih _) fun r hm=>Ao 7 (by kernel_rfl)<|Au R R R<|A8 ap193 R R R R R fun b2=>Cc (Aw 0 [(17,L5 [(IntKind.u8.wrap (IntKind.i64.wrap ((48 : Int) + v2)))])] R ⟨⟨_,R,.here _ R⟩,trivial⟩ (FzH.refl _))<|Ax 8 R R R (by kernel_rfl) (VP.convBL (l:=[(IntKind.u8.wrap (IntKind.i64.wrap ((48 : Int) + v2)))]) el193 B6 A6 R)<|Bd hm fun v3 h7 hm=>Ax 9 R R R (by kernel_rfl) (Bp R R h7)<|Ax 10 R R R (by kernel_rfl) (Ai R)<|A5 (by kernel_rfl)<|Rt1 hm R [] R R R
  ·exact Au R R R<|A8 ap193 R R R R R fun b3=>Cc (Aw 0 [(17,L5 [(IntKind.u8.wrap (IntKind.i64.wrap ((48 : Int) + v2)))])] R ⟨⟨_,R,.here _ R⟩,trivial⟩ (FzH.refl _))<|Ax 8 R R R (by kernel_rfl) (VP.convBL (l:=[(IntKind.u8.wrap (IntKind.i64.wrap ((48 : Int) + v2)))]) el193 B6 A6 R)<|Ao 2 (by kernel_rfl)<|Au R R R<|Am hm 0 R fn154 R (ih _) fun r2 hm=>Bd hm fun v4 h10 hm=>Ax 9 R R R (by kernel_rfl) (Bp R R h10)<|Ax 10 R R R (by kernel_rfl) (Ai R)<|A5 (by kernel_rfl)<|Rt1 hm R [] R R R

/-! trireme/triremeref03.ShowMilli -/
def ref03_ShowMilli (n : Int) : Option ByteArray :=
 if ((decide (n < 0)) || (decide (n > 1125899906842624))) = true then
  some (⟨#[]⟩ : ByteArray)
 else
  (V.rem n (1000 : Int)).bind fun v =>
  if (v == 0) = true then
   (V.quo n (1000 : Int)).bind fun v2 =>
   (ref01_Digits FU (i64.wrap v2)).bind fun r =>
   some r
  else
   (ref01_Digits FU n).bind fun r2 =>
   (V.cat r2 (⟨#[109]⟩ : ByteArray)).bind fun v3 =>
   some v3
theorem K17 (n : Int) : VS Tryz.prog 152 (ref03_ShowMilli n) [Iw n] [] .str N0 := by
 refine A3 [.tmp 2] Tryz.func152 R R R fun r hm=>?_
 unfold ref03_ShowMilli at hm
 exact Ag tbk [] R R<|Ae<|Ah<|Aa tbk [] 3 R R<|Cp tbk [] 3 8 5 R R R R R<|Ac<|Ak hm R (fun h2 hm=>Ag tbk [] R R<|Rt1 hm R [] R R R) fun h2 hm=>Aj<|Ae<|Ah<|Ab R R (Al R)<|Bd hm fun v h3 hm=>Ab R R (VP.remT R R h3)<|Ab R R (A4 R R R)<|Ac<|Ak hm R (fun h4 hm=>Ah<|Ab R R (Al R)<|Bd hm fun v2 h5 hm=>Ab R R (De R R h5)<|Ad R R<|Am hm 0 R fn154 R (K16 FU _) fun r hm=>Ab R R (Ai R)<|Ac<|Rt1 hm R [] R R R) fun h4 hm=>Aj<|Ah<|Ab R R (Al R)<|Ad R R<|Am hm 0 R fn154 R (K16 FU _) fun r2 hm=>Bd hm fun v3 h8 hm=>Ab R R (Bp R R h8)<|Ab R R (Ai R)<|Ac<|Rt1 hm R [] R R R

/-! trireme/triremeref03.Show -/
def ref03_Show.l1 (n : Int) : Nat → Int → Option (Out ByteArray Unit)
 | 0, _ => none
 | n2 + 1, i2 =>
  if (decide (i2 < 4)) = true then
   (V.shl .i64 1 (IntKind.u64.wrap (i64.wrap (40 - (i64.wrap (10 * i2)))))).bind fun v =>
   (if (decide (n > 0)) = true then (V.rem n v).bind fun v2 =>
   some (v2 == 0) else some false).bind fun c =>
   if c = true then
    (V.quo n v).bind fun v3 =>
    (V.gl [(⟨#[84, 105]⟩ : ByteArray), (⟨#[71, 105]⟩ : ByteArray), (⟨#[77, 105]⟩ : ByteArray), (⟨#[75, 105]⟩ : ByteArray)] i2).bind fun x =>
    (ref01_Digits FU (i64.wrap v3)).bind fun r =>
    (V.cat r x).bind fun v4 =>
    some (Out.ret v4)
   else
    ref03_Show.l1 n n2 (i64.wrap (i2 + 1))
  else
   some (Out.go ())
def ref03_Show (n : Int) : Option ByteArray :=
 if ((decide (n < 0)) || (decide (n > 1125899906842624))) = true then
  some (⟨#[]⟩ : ByteArray)
 else
  (ref03_Show.l1 n FU (0 : Int)).bind fun o =>
  o.on fun j =>
  (ref01_Digits FU n).bind fun r2 =>
  some r2
theorem K18 (n : Int) : VS Tryz.prog 153 (ref03_Show n) [Iw n] [] .str N0 := by
 refine A3 [.tmp 2] Tryz.func153 R R R fun r hm=>?_
 unfold ref03_Show at hm
 refine Ag tbk [] R R<|Ae<|Ah<|Aa tbk [] 3 R R<|Cp tbk [] 3 11 8 R R R R R<|Ac<|Ak hm R (fun h2 hm=>Ag tbk [] R R<|Rt1 hm R [] R R R) fun h2 hm=>Aj<|Ah<|Ad R R<|A8 ap25 R R R R R fun b=>Bh (Aw 0 [(12,L9 [(⟨#[84,105]⟩ : ByteArray),(⟨#[71,105]⟩ : ByteArray),(⟨#[77,105]⟩ : ByteArray),(⟨#[75,105]⟩ : ByteArray)])] R ⟨⟨_,R,.here _ R⟩,trivial⟩ (FzH.refl _))<|Ab R R (Ai R)<|Ac<|Ae<|Ag tbk [] R R<|Bn hm (fun _ (_:Unit)=>[(0,Iw n)]) (fun _ (_:Unit)=>[]) (fun o hm h5=>?_) fun j _ hm=> ?_
 ·refine Bl (fun zn (zs:Int)=>ref03_Show.l1 n zn zs) (fun zs (_:Unit)=>[(0,Iw n),(3,L9 [(⟨#[84,105]⟩ : ByteArray),(⟨#[71,105]⟩ : ByteArray),(⟨#[77,105]⟩ : ByteArray),(⟨#[75,105]⟩ : ByteArray)]),(4,Iw zs)]) (fun _ (_:Unit)=>[]) _ () (fun _=>R) hm (Af [] R R) fun n2 i2 _ hm=> ?_
  rw [ref03_Show.l1] at hm
  exact Ae<|Ag tbk [] R R<|Ak hm R (fun h6 hm=>Aj<|Ae<|Ay<|Ah<|Aa tbk [] 3 R R<|Ab R R (Cy Ca Tryz.underlying192 R)<|Bd hm fun v h7 hm=>Ab R R (VP.shlT R R h7)<|Ab R R (Ai R)<|Ac<|Ah<|Aa tbk [] 3 R R<|Be hm 5 29 24 R (fun _ K' h8 J hm=>Aa tbk [] 2 R R<|Bd hm fun v2 h9 hm=>Bg R R R R R (VP.remT R R h9)<|Aa tbk [] 2 R R<|J 4 R R (Bj hm)) (fun _ K' h8 J hm=>Aa tbk [] 5 R R<|J 4 R R (Bj hm)) fun c hm=>Ac<|Ak hm R (fun h11 hm=>Ae<|A9 0 mixed<|Aq tbk [0,1] [] (by kernel_rfl) R R R<|Bd hm fun v3 h12 hm=>Ax 2 R R R (by kernel_rfl) (De R R h12)<|Aq tbk [4,5] [] (by kernel_rfl) R R R<|Bd hm fun x h13 hm=>Ax 6 R R R (by kernel_rfl) (Az VV.str R R el25 h13)<|Ax 7 R R R (by kernel_rfl) (Bi R ld9 R)<|Ao 3 (by kernel_rfl)<|Au R R R<|Am hm 0 R fn154 R (K16 FU _) fun r hm=>Bd hm fun v4 h15 hm=>Ax 8 R R R (by kernel_rfl) (Bp R R h15)<|Ax 9 R R R (by kernel_rfl) (Ai R)<|A5 (by kernel_rfl)<|have hm:=Lr hm h5;Rt1 hm R [] R R R) fun h11 hm=>Aj<|A2 tbk [] R R<|Ap _ () hm (Af [] R R)) fun h6 hm=>A1<|Ar () hm (Af [] R R)
 exact Ah<|Ab R R (Al R)<|Ad R R<|Am hm 0 R fn154 R (K16 FU _) fun r2 hm=>Ab R R (Ai R)<|Ac<|Rt1 hm R [] R R R

/-! trireme/triremeref07.atom -/
def ref07_atom (s : ByteArray) : Option ByteArray :=
 if (V.seq s (⟨#[]⟩ : ByteArray)) = true then
  some (⟨#[34, 34]⟩ : ByteArray)
 else
  some s
theorem K19 (s : ByteArray) : VS Tryz.prog 157 (ref07_atom s) [.str s] [] .str N0 := by
 refine A3 [.tmp 2] Tryz.func157 R R R fun r hm=>?_
 unfold ref07_atom at hm
 exact Ag tbk [] R R<|Ae<|Ag tbk [] R R<|Ak hm R (fun h1 hm=>Ag tbk [] R R<|Rt1 hm R [] R R R) fun h1 hm=>Aj<|Ag tbk [] R R<|Rt1 hm R [] R R R

/-! trireme/triremeref07.pairs -/
def ref07_pairs.l1 (name : ByteArray) (l : List T_api_Label) : Nat → ByteArray → Int → Option ByteArray
 | 0, _, _ => none
 | n + 1, s2, i2 =>
  if (decide (i2 < (l.length : Int))) = true then
   (V.cat s2 (⟨#[32, 40]⟩ : ByteArray)).bind fun v =>
   (V.cat v name).bind fun v2 =>
   (V.cat v2 (⟨#[32]⟩ : ByteArray)).bind fun v3 =>
   (V.gl l i2).bind fun x =>
   (V.cat v3 x.Key).bind fun v4 =>
   (V.cat v4 (⟨#[32]⟩ : ByteArray)).bind fun v5 =>
   (V.gl l i2).bind fun x2 =>
   (ref07_atom x2.Val).bind fun r =>
   (V.cat v5 r).bind fun v6 =>
   (V.cat v6 (⟨#[41]⟩ : ByteArray)).bind fun v7 =>
   ref07_pairs.l1 name l n v7 (i64.wrap (i2 + 1))
  else
   some s2
def ref07_pairs (name : ByteArray) (l : List T_api_Label) : Option ByteArray :=
 (ref07_pairs.l1 name l FU (⟨#[]⟩ : ByteArray) (0 : Int)).bind fun s32 =>
 some s32
theorem K20 (name : ByteArray) (l : List T_api_Label) : VS Tryz.prog 155 (ref07_pairs name l) [.str name, L92 l] [] .str N0 := by
 refine A3 [.tmp 4] Tryz.func155 R R R fun r hm=>?_
 unfold ref07_pairs at hm
 refine Ag tbk [] R R<|Ag tbk [] R R<|Ae<|Ag tbk [] R R<|Bw hm (fun s32 (_:Unit)=>[(5,.str s32)]) (fun _ (_:Unit)=>[]) (fun o hm=>?_) fun s32 _ hm=> ?_
 ·refine Bl (fun zn (zs:ByteArray × Int)=>ref07_pairs.l1 name l zn zs.1 zs.2) (fun zs (_:Unit)=>[(0,.str name),(1,L92 l),(5,.str zs.1),(6,Iw zs.2)]) (fun _ (_:Unit)=>[]) ((⟨#[]⟩ : ByteArray),(0 : Int)) () (fun _=>R) hm (Af [] R R) fun n=>Pq fun s2 i2 _ hm=> ?_
  rw [ref07_pairs.l1] at hm
  exact Ae<|Ah<|Aa tbk [] 2 R R<|Ab R R (Av T_api_Label.vv R Br)<|Ab R R (A4 R R R)<|Ac<|Ak hm R (fun h3 hm=>Aj<|Ae<|Ay<|A9 0 mixed<|Ax 0 R R R (by kernel_rfl) (Al R)<|Bd hm fun v h4 hm=>Ax 1 R R R (by kernel_rfl) (Bp R R h4)<|Ax 2 R R R (by kernel_rfl) (Al R)<|Bd hm fun v2 h5 hm=>Ax 3 R R R (by kernel_rfl) (Bp R R h5)<|Bd hm fun v3 h6 hm=>Ax 4 R R R (by kernel_rfl) (Bp R R h6)<|Aq tbk [5,6] [] (by kernel_rfl) R R R<|Bd hm fun x h7 hm=>Ax 7 R R R (by kernel_rfl) (Az T_api_Label.vv R R el42 h7)<|Aq tbk [8,9] [] (by kernel_rfl) R R R<|Bd hm fun v4 h8 hm=>Ax 10 R R R (by kernel_rfl) (Bp R R h8)<|Bd hm fun v5 h9 hm=>Ax 11 R R R (by kernel_rfl) (Bp R R h9)<|Aq tbk [12,13] [] (by kernel_rfl) R R R<|Bd hm fun x2 h10 hm=>Ax 14 R R R (by kernel_rfl) (Az T_api_Label.vv R R el42 h10)<|Aq tbk [15,16] [] (by kernel_rfl) R R R<|Ao 17 (by kernel_rfl)<|Au R R R<|Am hm 0 R fn157 R (K19 _) fun r hm=>Bd hm fun v6 h12 hm=>Ax 18 R R R (by kernel_rfl) (Bp R R h12)<|Bd hm fun v7 h13 hm=>Ax 19 R R R (by kernel_rfl) (Bp R R h13)<|Ax 20 R R R (by kernel_rfl) (Ai R)<|A5 (by kernel_rfl)<|A2 tbk [] R R<|Ap (v7,(IntKind.i64.wrap (i2 + (1 : Int)))) () hm (Af [] R R)) fun h3 hm=>A1<|As () hm (Af [] R R)
 exact Ag tbk [] R R<|Rt1 hm R [] R R R

/-! trireme/triremeref07.ops -/
def ref07_ops : Option (List ByteArray) :=
 some [(⟨#[]⟩ : ByteArray), (⟨#[105, 110]⟩ : ByteArray), (⟨#[110, 111, 116, 105, 110]⟩ : ByteArray), (⟨#[101, 120, 105, 115, 116, 115]⟩ : ByteArray), (⟨#[109, 105, 115, 115, 105, 110, 103]⟩ : ByteArray), (⟨#[97, 98, 111, 118, 101]⟩ : ByteArray), (⟨#[98, 101, 108, 111, 119]⟩ : ByteArray)]
theorem K21 : VS Tryz.prog 156 (ref07_ops) [] [] (fun r=>L9 r) N0 := by
 refine A3 [.tmp 0] Tryz.func156 R R R fun r hm=>?_
 unfold ref07_ops at hm
 exact Ag tbk [] R R<|Ah<|Ad R R<|A8 ap25 R R R R R fun b=>Bh (Aw 0 [(1,L9 [(⟨#[]⟩ : ByteArray),(⟨#[105,110]⟩ : ByteArray),(⟨#[110,111,116,105,110]⟩ : ByteArray),(⟨#[101,120,105,115,116,115]⟩ : ByteArray),(⟨#[109,105,115,115,105,110,103]⟩ : ByteArray),(⟨#[97,98,111,118,101]⟩ : ByteArray),(⟨#[98,101,108,111,119]⟩ : ByteArray)])] R ⟨⟨_,R,.here _ R⟩,trivial⟩ (FzH.refl _))<|Ab R R (Ai R)<|Ac<|Rt1 hm R [] R R R

/-! trireme/triremeref07.effects -/
def ref07_effects : Option (List ByteArray) :=
 some [(⟨#[97, 110, 121]⟩ : ByteArray), (⟨#[110, 111]⟩ : ByteArray), (⟨#[112, 114, 101, 102, 101, 114]⟩ : ByteArray), (⟨#[111, 117, 116]⟩ : ByteArray)]
theorem K22 : VS Tryz.prog 158 (ref07_effects) [] [] (fun r=>L9 r) N0 := by
 refine A3 [.tmp 0] Tryz.func158 R R R fun r hm=>?_
 unfold ref07_effects at hm
 exact Ag tbk [] R R<|Ah<|Ad R R<|A8 ap25 R R R R R fun b=>Bh (Aw 0 [(1,L9 [(⟨#[97,110,121]⟩ : ByteArray),(⟨#[110,111]⟩ : ByteArray),(⟨#[112,114,101,102,101,114]⟩ : ByteArray),(⟨#[111,117,116]⟩ : ByteArray)])] R ⟨⟨_,R,.here _ R⟩,trivial⟩ (FzH.refl _))<|Ab R R (Ai R)<|Ac<|Rt1 hm R [] R R R

/-! trireme/triremeref07.number -/
def ref07_number (name : ByteArray) (n : Int) : Option ByteArray :=
 if (n == 0) = true then
  some (⟨#[]⟩ : ByteArray)
 else
  (V.cat (⟨#[32, 40]⟩ : ByteArray) name).bind fun v =>
  (V.cat v (⟨#[32]⟩ : ByteArray)).bind fun v2 =>
  (ref01_Digits FU n).bind fun r =>
  (V.cat v2 r).bind fun v3 =>
  (V.cat v3 (⟨#[41]⟩ : ByteArray)).bind fun v4 =>
  some v4
theorem K23 (name : ByteArray) (n : Int) : VS Tryz.prog 159 (ref07_number name n) [.str name, Iw n] [] .str N0 := by
 refine A3 [.tmp 4] Tryz.func159 R R R fun r hm=>?_
 unfold ref07_number at hm
 exact Ag tbk [] R R<|Ae<|Ag tbk [] R R<|Ak hm R (fun h1 hm=>Ag tbk [] R R<|Rt1 hm R [] R R R) fun h1 hm=>Aj<|Ah<|Ab R R (Al R)<|Bd hm fun v h2 hm=>Ab R R (Bp R R h2)<|Bd hm fun v2 h3 hm=>Ab R R (Bp R R h3)<|Ab R R (Al R)<|Ad R R<|Am hm 0 R fn154 R (K16 FU _) fun r hm=>Bd hm fun v3 h5 hm=>Ab R R (Bp R R h5)<|Bd hm fun v4 h6 hm=>Ab R R (Bp R R h6)<|Ab R R (Ai R)<|Ac<|Rt1 hm R [] R R R

/-! trireme/triremeref07.flag -/
def ref07_flag (name : ByteArray) (is : Bool) : Option ByteArray :=
 if is = true then
  (V.cat (⟨#[32]⟩ : ByteArray) name).bind fun v =>
  some v
 else
  some (⟨#[]⟩ : ByteArray)
theorem K24 (name : ByteArray) (is : Bool) : VS Tryz.prog 160 (ref07_flag name is) [.str name, .bool is] [] .str N0 := by
 refine A3 [.tmp 4] Tryz.func160 R R R fun r hm=>?_
 unfold ref07_flag at hm
 exact Ag tbk [] R R<|Ae<|Ag tbk [] R R<|Ak hm R (fun h1 hm=>Ah<|Ab R R (Al R)<|Bd hm fun v h2 hm=>Ab R R (Bp R R h2)<|Ab R R (Ai R)<|Ac<|Rt1 hm R [] R R R) fun h1 hm=>Aj<|Ag tbk [] R R<|Rt1 hm R [] R R R

/-! trireme/triremeref07.ShowPod -/
def ref07_ShowPod.l2 (x : T_api_Term) : Nat → ByteArray → Int → Option ByteArray
 | 0, _, _ => none
 | n2 + 1, s5, k2 =>
  if (decide (k2 < (x.Vals.length : Int))) = true then
   (V.cat s5 (⟨#[32]⟩ : ByteArray)).bind fun v18 =>
   (V.gl x.Vals k2).bind fun x3 =>
   (ref07_atom x3).bind fun r10 =>
   (V.cat v18 r10).bind fun v19 =>
   ref07_ShowPod.l2 x n2 v19 (i64.wrap (k2 + 1))
  else
   some s5
def ref07_ShowPod.l1 (p : T_api_Pod) : Nat → ByteArray → Int → Option ByteArray
 | 0, _, _ => none
 | n + 1, s2, i2 =>
  if (decide (i2 < (p.Terms.length : Int))) = true then
   (V.gl p.Terms i2).bind fun x =>
   (V.cat s2 (⟨#[32, 40, 116, 101, 114, 109, 32]⟩ : ByteArray)).bind fun v14 =>
   (V.cat v14 x.Key).bind fun v15 =>
   (V.cat v15 (⟨#[32]⟩ : ByteArray)).bind fun v16 =>
   (ref07_ops).bind fun r9 =>
   (V.gl r9 x.Op).bind fun x2 =>
   (V.cat v16 x2).bind fun v17 =>
   (ref07_ShowPod.l2 x FU v17 (0 : Int)).bind fun s62 =>
   (V.cat s62 (⟨#[41]⟩ : ByteArray)).bind fun v20 =>
   ref07_ShowPod.l1 p n v20 (i64.wrap (i2 + 1))
  else
   some s2
def ref07_ShowPod.l3 (p : T_api_Pod) : Nat → ByteArray → Int → Option ByteArray
 | 0, _, _ => none
 | n3 + 1, s8, i4 =>
  if (decide (i4 < (p.Bears.length : Int))) = true then
   (V.gl p.Bears i4).bind fun x4 =>
   if x4.Any = true then
    (V.cat s8 (⟨#[32, 40, 98, 101, 97, 114, 97, 110, 121, 32]⟩ : ByteArray)).bind fun v21 =>
    (ref07_atom x4.Key).bind fun r11 =>
    (V.cat v21 r11).bind fun v22 =>
    (V.cat v22 (⟨#[32]⟩ : ByteArray)).bind fun v23 =>
    (ref07_effects).bind fun r12 =>
    (V.gl r12 x4.Effect).bind fun x5 =>
    (V.cat v23 x5).bind fun v24 =>
    (V.cat v24 (⟨#[41]⟩ : ByteArray)).bind fun v25 =>
    ref07_ShowPod.l3 p n3 v25 (i64.wrap (i4 + 1))
   else
    (V.cat s8 (⟨#[32, 40, 98, 101, 97, 114, 32]⟩ : ByteArray)).bind fun v26 =>
    (ref07_atom x4.Key).bind fun r13 =>
    (V.cat v26 r13).bind fun v27 =>
    (V.cat v27 (⟨#[32]⟩ : ByteArray)).bind fun v28 =>
    (ref07_atom x4.Val).bind fun r14 =>
    (V.cat v28 r14).bind fun v29 =>
    (V.cat v29 (⟨#[32]⟩ : ByteArray)).bind fun v30 =>
    (ref07_effects).bind fun r15 =>
    (V.gl r15 x4.Effect).bind fun x6 =>
    (V.cat v30 x6).bind fun v31 =>
    (V.cat v31 (⟨#[41]⟩ : ByteArray)).bind fun v32 =>
    ref07_ShowPod.l3 p n3 v32 (i64.wrap (i4 + 1))
  else
   some s8
def ref07_ShowPod.l4 (p : T_api_Pod) : Nat → ByteArray → Int → Option ByteArray
 | 0, _, _ => none
 | n4 + 1, s11, i6 =>
  if (decide (i6 < (p.Ports.length : Int))) = true then
   (V.gl p.Ports i6).bind fun x7 =>
   (ref07_number (⟨#[112, 111, 114, 116]⟩ : ByteArray) x7).bind fun r16 =>
   (V.cat s11 r16).bind fun v33 =>
   ref07_ShowPod.l4 p n4 v33 (i64.wrap (i6 + 1))
  else
   some s11
def ref07_ShowPod (p : T_api_Pod) : Option ByteArray :=
 (ref07_RightPod p).bind fun r =>
 if (!r) = true then
  some (⟨#[]⟩ : ByteArray)
 else
  (V.cat (⟨#[40, 112, 111, 100, 32]⟩ : ByteArray) p.Name).bind fun v =>
  (V.cat v (⟨#[32, 40, 110, 101, 101, 100, 32]⟩ : ByteArray)).bind fun v2 =>
  (ref03_ShowMilli p.Need.Cpu).bind fun r2 =>
  (V.cat v2 r2).bind fun v3 =>
  (V.cat v3 (⟨#[32]⟩ : ByteArray)).bind fun v4 =>
  (ref03_Show p.Need.Mem).bind fun r3 =>
  (V.cat v4 r3).bind fun v5 =>
  (V.cat v5 (⟨#[32]⟩ : ByteArray)).bind fun v6 =>
  (ref03_Show p.Need.Disk).bind fun r4 =>
  (V.cat v6 r4).bind fun v7 =>
  (V.cat v7 (⟨#[32]⟩ : ByteArray)).bind fun v8 =>
  (ref01_Digits FU p.Need.Dev).bind fun r5 =>
  (V.cat v8 r5).bind fun v9 =>
  (V.cat v9 (⟨#[41]⟩ : ByteArray)).bind fun v10 =>
  (ref07_pairs (⟨#[108, 97, 98, 101, 108]⟩ : ByteArray) p.Labels).bind fun r6 =>
  (V.cat v10 r6).bind fun v11 =>
  (ref07_pairs (⟨#[115, 101, 108, 101, 99, 116]⟩ : ByteArray) p.Select).bind fun r7 =>
  (V.cat v11 r7).bind fun v12 =>
  (ref07_pairs (⟨#[97, 112, 97, 114, 116]⟩ : ByteArray) p.Apart).bind fun r8 =>
  (V.cat v12 r8).bind fun v13 =>
  (ref07_ShowPod.l1 p FU v13 (0 : Int)).bind fun s32 =>
  (ref07_ShowPod.l3 p FU s32 (0 : Int)).bind fun s92 =>
  (ref07_ShowPod.l4 p FU s92 (0 : Int)).bind fun s122 =>
  (ref07_number (⟨#[115, 112, 114, 101, 97, 100]⟩ : ByteArray) p.Skew).bind fun r17 =>
  (V.cat s122 r17).bind fun v34 =>
  (ref07_pairs (⟨#[111, 118, 101, 114]⟩ : ByteArray) p.Spread).bind fun r18 =>
  (V.cat v34 r18).bind fun v35 =>
  (ref07_number (⟨#[114, 97, 110, 107]⟩ : ByteArray) p.Rank).bind fun r19 =>
  (V.cat v35 r19).bind fun v36 =>
  if (!(V.seq p.Owner (⟨#[]⟩ : ByteArray))) = true then
   (V.cat v36 (⟨#[32, 40, 111, 119, 110, 101, 114, 32]⟩ : ByteArray)).bind fun v37 =>
   (V.cat v37 p.Owner).bind fun v38 =>
   (V.cat v38 (⟨#[41]⟩ : ByteArray)).bind fun v39 =>
   (ref07_flag (⟨#[119, 105, 100, 101]⟩ : ByteArray) p.Wide).bind fun r20 =>
   (V.cat v39 r20).bind fun v40 =>
   (ref07_flag (⟨#[100, 97, 101, 109, 111, 110]⟩ : ByteArray) p.Daemon).bind fun r21 =>
   (V.cat v40 r21).bind fun v41 =>
   (ref07_flag (⟨#[112, 105, 110, 110, 101, 100]⟩ : ByteArray) p.Pinned).bind fun r22 =>
   (V.cat v41 r22).bind fun v42 =>
   (ref07_flag (⟨#[108, 111, 99, 97, 108]⟩ : ByteArray) p.Local).bind fun r23 =>
   (V.cat v42 r23).bind fun v43 =>
   (V.cat v43 (⟨#[41]⟩ : ByteArray)).bind fun v44 =>
   some v44
  else
   (ref07_flag (⟨#[119, 105, 100, 101]⟩ : ByteArray) p.Wide).bind fun r24 =>
   (V.cat v36 r24).bind fun v45 =>
   (ref07_flag (⟨#[100, 97, 101, 109, 111, 110]⟩ : ByteArray) p.Daemon).bind fun r25 =>
   (V.cat v45 r25).bind fun v46 =>
   (ref07_flag (⟨#[112, 105, 110, 110, 101, 100]⟩ : ByteArray) p.Pinned).bind fun r26 =>
   (V.cat v46 r26).bind fun v47 =>
   (ref07_flag (⟨#[108, 111, 99, 97, 108]⟩ : ByteArray) p.Local).bind fun r27 =>
   (V.cat v47 r27).bind fun v48 =>
   (V.cat v48 (⟨#[41]⟩ : ByteArray)).bind fun v49 =>
   some v49
theorem K25 (p : T_api_Pod) : VS Tryz.prog 109 (ref07_ShowPod p) [T_api_Pod.vv p] [] .str N0 := by
 refine A3 [.tmp 2] Tryz.func109 R R R fun r hm=>?_
 unfold ref07_ShowPod at hm
 refine Ah<|Ad R R<|Ba R R fun b=>Ab R R (Ai R)<|Ac<|Ae<|Ah<|Aa tbk [0] 1 R R<|Ad R R<|Am hm 0 R fn61 R (K57 _) fun r hm=>Ab R R (Co R)<|Ac<|Ak hm R (fun h3 hm=>Ag tbk [] R R<|Rt1 hm R [] R R R) fun h3 hm=>Aj<|Ae<|A9 0 mixed<|Aq tbk [0,1] [0] (by kernel_rfl) R R R<|Bd hm fun v h4 hm=>Ax 2 R R R (by kernel_rfl) (Bp R R h4)<|Bd hm fun v2 h5 hm=>Ax 3 R R R (by kernel_rfl) (Bp R R h5)<|Aq tbk [4,5,6,10,11,12,16,17,18,22,23,24] [0,0,0,0] (by kernel_rfl) R R R<|Ao 7 (by kernel_rfl)<|Au R R R<|Am hm 0 R fn152 R (K17 _) fun r2 hm=>Bd hm fun v3 h7 hm=>Ax 8 R R R (by kernel_rfl) (Bp R R h7)<|Bd hm fun v4 h8 hm=>Ax 9 R R R (by kernel_rfl) (Bp R R h8)<|Ao 13 (by kernel_rfl)<|Au R R R<|Am hm 0 R fn153 R (K18 _) fun r3 hm=>Bd hm fun v5 h10 hm=>Ax 14 R R R (by kernel_rfl) (Bp R R h10)<|Bd hm fun v6 h11 hm=>Ax 15 R R R (by kernel_rfl) (Bp R R h11)<|Ao 19 (by kernel_rfl)<|Au R R R<|Am hm 0 R fn153 R (K18 _) fun r4 hm=>Bd hm fun v7 h13 hm=>Ax 20 R R R (by kernel_rfl) (Bp R R h13)<|Bd hm fun v8 h14 hm=>Ax 21 R R R (by kernel_rfl) (Bp R R h14)<|Ao 25 (by kernel_rfl)<|Au R R R<|Am hm 0 R fn154 R (K16 FU _) fun r5 hm=>Bd hm fun v9 h16 hm=>Ax 26 R R R (by kernel_rfl) (Bp R R h16)<|Bd hm fun v10 h17 hm=>Ax 27 R R R (by kernel_rfl) (Bp R R h17)<|Ax 28 R R R (by kernel_rfl) (Ai R)<|A5 (by kernel_rfl)<|Ae<|A9 0 mixed<|Aq tbk [0,1,2,5,6,9,10] [0,0,0] (by kernel_rfl) R R R<|Ao 3 (by kernel_rfl)<|Au R R R<|Am hm 0 R fn155 R (K20 _ _) fun r6 hm=>Bd hm fun v11 h19 hm=>Ax 4 R R R (by kernel_rfl) (Bp R R h19)<|Ao 7 (by kernel_rfl)<|Au R R R<|Am hm 0 R fn155 R (K20 _ _) fun r7 hm=>Bd hm fun v12 h21 hm=>Ax 8 R R R (by kernel_rfl) (Bp R R h21)<|Ao 11 (by kernel_rfl)<|Au R R R<|Am hm 0 R fn155 R (K20 _ _) fun r8 hm=>Bd hm fun v13 h23 hm=>Ax 12 R R R (by kernel_rfl) (Bp R R h23)<|Ax 13 R R R (by kernel_rfl) (Ai R)<|A5 (by kernel_rfl)<|Ae<|Ag tbk [] R R<|Bw hm (fun s32 (_:Unit)=>[(1,.ptr b 0),(3,.str s32)]) (fun _ (_:Unit)=>[X47 b p]) (fun o hm=>?_) fun s32 _ hm=> ?_
 ·refine Bl (fun zn (zs:ByteArray × Int)=>ref07_ShowPod.l1 p zn zs.1 zs.2) (fun zs (_:Unit)=>[(1,.ptr b 0),(3,.str zs.1),(4,Iw zs.2)]) (fun _ (_:Unit)=>[X47 b p]) (v13,(0 : Int)) () (fun _=>R) hm (Af [0] R R) fun n=>Pq fun s2 i2 _ hm=> ?_
  rw [ref07_ShowPod.l1] at hm
  refine Ae<|Ah<|Aa tbk [0] 3 R R<|Ab R R (Av T_api_Term.vv R Cm)<|Ab R R (A4 R R R)<|Ac<|Ak hm R (fun h26 hm=>?_) fun h26 hm=> ?_
  ·refine Aj<|Ae<|Ay<|Ah<|Aa tbk [0] 3 R R<|Bd hm fun x h27 hm=>Ab R R (Az T_api_Term.vv R R el43 h27)<|Ab R R (Bi R ld142 R)<|Ad R R<|A0 z142 fun b2=>Ad R R<|An (i:=0) R R R ld142 R R R<|Ac<|Ae<|A9 0 mixed<|Ax 0 R R R (by kernel_rfl) (Al R)<|Bd hm fun v14 h29 hm=>Ax 1 R R R (by kernel_rfl) (Bp R R h29)<|Aq tbk [2,3] [0] (by kernel_rfl) R R R<|Bd hm fun v15 h30 hm=>Ax 4 R R R (by kernel_rfl) (Bp R R h30)<|Bd hm fun v16 h31 hm=>Ax 5 R R R (by kernel_rfl) (Bp R R h31)<|Aq tbk [7,8] [0] (by kernel_rfl) R R R<|Ao 6 (by kernel_rfl)<|Au R R R<|Am hm 0 R fn156 R (K21) fun r9 hm=>Bd hm fun x2 h33 hm=>Ax 9 R R R (by kernel_rfl) (Az VV.str R R el25 h33)<|Ax 10 R R R (by kernel_rfl) (Bi R ld9 R)<|Bd hm fun v17 h34 hm=>Ax 11 R R R (by kernel_rfl) (Bp R R h34)<|Ax 12 R R R (by kernel_rfl) (Ai R)<|A5 (by kernel_rfl)<|Ae<|Ag tbk [] R R<|Bw hm (fun s62 (_:Unit)=>[(1,.ptr b 0),(3,.str s62),(4,Iw i2)]) (fun _ (_:Unit)=>[X47 b p]) (fun o2 hm=>?_) fun s62 _ hm=> ?_
   ·refine Bl (fun zn (zs:ByteArray × Int)=>ref07_ShowPod.l2 x zn zs.1 zs.2) (fun zs (_:Unit)=>[(1,.ptr b 0),(3,.str zs.1),(4,Iw i2),(5,.ptr b2 0),(6,Iw zs.2)]) (fun _ (_:Unit)=>[X142 b2 x,X47 b p]) (v17,(0 : Int)) () (fun _=>R) hm (Af [0,0] R R) fun n2=>Pq fun s5 k2 _ hm=> ?_
    rw [ref07_ShowPod.l2] at hm
    exact Ae<|Ah<|Aa tbk [0] 3 R R<|Ab R R (Av VV.str R Bo)<|Ab R R (A4 R R R)<|Ac<|Ak hm R (fun h37 hm=>Aj<|Ae<|Ay<|Bq<|Ab R R (Al R)<|Bd hm fun v18 h38 hm=>Ab R R (Bp R R h38)<|Aa tbk [0] 3 R R<|Bd hm fun x3 h39 hm=>Ab R R (Az VV.str R R el25 h39)<|Ab R R (Bi R ld9 R)<|Ad R R<|Am hm 0 R fn157 R (K19 _) fun r10 hm=>Bd hm fun v19 h41 hm=>Ab R R (Bp R R h41)<|Ab R R (Ai R)<|Ac<|A2 tbk [] R R<|Ap (v19,(IntKind.i64.wrap (k2 + (1 : Int)))) () hm (Af [0,0] R R)) fun h37 hm=>A1<|As () hm (Af [1] R R)
   exact Bq<|Ab R R (Al R)<|Bd hm fun v20 h42 hm=>Ab R R (Bp R R h42)<|Ab R R (Ai R)<|Ac<|A2 tbk [] R R<|Ap (v20,(IntKind.i64.wrap (i2 + (1 : Int)))) () hm (Af [0] R R)
  exact A1<|As () hm (Af [0] R R)
 refine Ae<|Ag tbk [] R R<|Bw hm (fun s92 (_:Unit)=>[(1,.ptr b 0),(3,.str s92)]) (fun _ (_:Unit)=>[X47 b p]) (fun o3 hm=>?_) fun s92 _ hm=> ?_
 ·refine Bl (fun zn (zs:ByteArray × Int)=>ref07_ShowPod.l3 p zn zs.1 zs.2) (fun zs (_:Unit)=>[(1,.ptr b 0),(3,.str zs.1),(7,Iw zs.2)]) (fun _ (_:Unit)=>[X47 b p]) (s32,(0 : Int)) () (fun _=>R) hm (Af [0] R R) fun n3=>Pq fun s8 i4 _ hm=> ?_
  rw [ref07_ShowPod.l3] at hm
  refine Ae<|Ah<|Aa tbk [0] 3 R R<|Ab R R (Av T_api_Toleration.vv R Ct)<|Ab R R (A4 R R R)<|Ac<|Ak hm R (fun h45 hm=>?_) fun h45 hm=> ?_
  ·exact Aj<|Ae<|Ay<|Ah<|Aa tbk [0] 3 R R<|Bd hm fun x4 h46 hm=>Ab R R (Az T_api_Toleration.vv R R el44 h46)<|Ab R R (Bi R ld172 R)<|Ad R R<|A0 z172 fun b3=>Ad R R<|An (i:=0) R R R ld172 R R R<|Ac<|Ag tbk [0] R R<|Ak hm R (fun h48 hm=>A9 0 mixed<|Ax 0 R R R (by kernel_rfl) (Al R)<|Bd hm fun v21 h49 hm=>Ax 1 R R R (by kernel_rfl) (Bp R R h49)<|Aq tbk [2,3,8,9] [0,0] (by kernel_rfl) R R R<|Ao 4 (by kernel_rfl)<|Au R R R<|Am hm 0 R fn157 R (K19 _) fun r11 hm=>Bd hm fun v22 h51 hm=>Ax 5 R R R (by kernel_rfl) (Bp R R h51)<|Bd hm fun v23 h52 hm=>Ax 6 R R R (by kernel_rfl) (Bp R R h52)<|Ao 7 (by kernel_rfl)<|Au R R R<|Am hm 0 R fn158 R (K22) fun r12 hm=>Bd hm fun x5 h54 hm=>Ax 10 R R R (by kernel_rfl) (Az VV.str R R el25 h54)<|Ax 11 R R R (by kernel_rfl) (Bi R ld9 R)<|Bd hm fun v24 h55 hm=>Ax 12 R R R (by kernel_rfl) (Bp R R h55)<|Bd hm fun v25 h56 hm=>Ax 13 R R R (by kernel_rfl) (Bp R R h56)<|Ax 14 R R R (by kernel_rfl) (Ai R)<|A5 (by kernel_rfl)<|A2 tbk [] R R<|Ap (v25,(IntKind.i64.wrap (i4 + (1 : Int)))) () hm (Af [1] R R)) fun h48 hm=>A9 0 mixed<|Ax 0 R R R (by kernel_rfl) (Al R)<|Bd hm fun v26 h57 hm=>Ax 1 R R R (by kernel_rfl) (Bp R R h57)<|Aq tbk [2,3,7,8,13,14] [0,0,0] (by kernel_rfl) R R R<|Ao 4 (by kernel_rfl)<|Au R R R<|Am hm 0 R fn157 R (K19 _) fun r13 hm=>Bd hm fun v27 h59 hm=>Ax 5 R R R (by kernel_rfl) (Bp R R h59)<|Bd hm fun v28 h60 hm=>Ax 6 R R R (by kernel_rfl) (Bp R R h60)<|Ao 9 (by kernel_rfl)<|Au R R R<|Am hm 0 R fn157 R (K19 _) fun r14 hm=>Bd hm fun v29 h62 hm=>Ax 10 R R R (by kernel_rfl) (Bp R R h62)<|Bd hm fun v30 h63 hm=>Ax 11 R R R (by kernel_rfl) (Bp R R h63)<|Ao 12 (by kernel_rfl)<|Au R R R<|Am hm 0 R fn158 R (K22) fun r15 hm=>Bd hm fun x6 h65 hm=>Ax 15 R R R (by kernel_rfl) (Az VV.str R R el25 h65)<|Ax 16 R R R (by kernel_rfl) (Bi R ld9 R)<|Bd hm fun v31 h66 hm=>Ax 17 R R R (by kernel_rfl) (Bp R R h66)<|Bd hm fun v32 h67 hm=>Ax 18 R R R (by kernel_rfl) (Bp R R h67)<|Ax 19 R R R (by kernel_rfl) (Ai R)<|A5 (by kernel_rfl)<|A2 tbk [] R R<|Ap (v32,(IntKind.i64.wrap (i4 + (1 : Int)))) () hm (Af [1] R R)
  exact A1<|As () hm (Af [0] R R)
 refine Ae<|Ag tbk [] R R<|Bw hm (fun s122 (_:Unit)=>[(1,.ptr b 0),(3,.str s122)]) (fun _ (_:Unit)=>[X47 b p]) (fun o4 hm=>?_) fun s122 _ hm=> ?_
 ·refine Bl (fun zn (zs:ByteArray × Int)=>ref07_ShowPod.l4 p zn zs.1 zs.2) (fun zs (_:Unit)=>[(1,.ptr b 0),(3,.str zs.1),(9,Iw zs.2)]) (fun _ (_:Unit)=>[X47 b p]) (s92,(0 : Int)) () (fun _=>R) hm (Af [0] R R) fun n4=>Pq fun s11 i6 _ hm=> ?_
  rw [ref07_ShowPod.l4] at hm
  exact Ae<|Ah<|Aa tbk [0] 3 R R<|Ab R R (Av (VV.int .i64) R Ck)<|Ab R R (A4 R R R)<|Ac<|Ak hm R (fun h70 hm=>Aj<|Ae<|Ay<|Bq<|Aa tbk [0] 4 R R<|Bd hm fun x7 h71 hm=>Ab R R (Az (VV.int .i64) R R el45 h71)<|Ab R R (Bi R ld3 R)<|Ad R R<|Am hm 0 R fn159 R (K23 _ _) fun r16 hm=>Bd hm fun v33 h73 hm=>Ab R R (Bp R R h73)<|Ab R R (Ai R)<|Ac<|A2 tbk [] R R<|Ap (v33,(IntKind.i64.wrap (i6 + (1 : Int)))) () hm (Af [0] R R)) fun h70 hm=>A1<|As () hm (Af [0] R R)
 refine Ae<|A9 0 mixed<|Aq tbk [0,1,2,5,6,9,10] [0,0,0] (by kernel_rfl) R R R<|Ao 3 (by kernel_rfl)<|Au R R R<|Am hm 0 R fn159 R (K23 _ _) fun r17 hm=>Bd hm fun v34 h75 hm=>Ax 4 R R R (by kernel_rfl) (Bp R R h75)<|Ao 7 (by kernel_rfl)<|Au R R R<|Am hm 0 R fn155 R (K20 _ _) fun r18 hm=>Bd hm fun v35 h77 hm=>Ax 8 R R R (by kernel_rfl) (Bp R R h77)<|Ao 11 (by kernel_rfl)<|Au R R R<|Am hm 0 R fn159 R (K23 _ _) fun r19 hm=>Bd hm fun v36 h79 hm=>Ax 12 R R R (by kernel_rfl) (Bp R R h79)<|Ax 13 R R R (by kernel_rfl) (Ai R)<|A5 (by kernel_rfl)<|Ae<|Ag tbk [0] R R<|Ak hm R (fun h80 hm=>Bq<|Ab R R (Al R)<|Bd hm fun v37 h81 hm=>Ab R R (Bp R R h81)<|Aa tbk [0] 2 R R<|Bd hm fun v38 h82 hm=>Ab R R (Bp R R h82)<|Bd hm fun v39 h83 hm=>Ab R R (Bp R R h83)<|Ab R R (Ai R)<|Ac<|Ae<|A9 0 mixed<|Aq tbk [0,1,2,5,6,9,10,13,14] [0,0,0,0] (by kernel_rfl) R R R<|Ao 3 (by kernel_rfl)<|Au R R R<|Am hm 0 R fn160 R (K24 _ _) fun r20 hm=>Bd hm fun v40 h85 hm=>Ax 4 R R R (by kernel_rfl) (Bp R R h85)<|Ao 7 (by kernel_rfl)<|Au R R R<|Am hm 0 R fn160 R (K24 _ _) fun r21 hm=>Bd hm fun v41 h87 hm=>Ax 8 R R R (by kernel_rfl) (Bp R R h87)<|Ao 11 (by kernel_rfl)<|Au R R R<|Am hm 0 R fn160 R (K24 _ _) fun r22 hm=>Bd hm fun v42 h89 hm=>Ax 12 R R R (by kernel_rfl) (Bp R R h89)<|Ao 15 (by kernel_rfl)<|Au R R R<|Am hm 0 R fn160 R (K24 _ _) fun r23 hm=>Bd hm fun v43 h91 hm=>Ax 16 R R R (by kernel_rfl) (Bp R R h91)<|Bd hm fun v44 h92 hm=>Ax 17 R R R (by kernel_rfl) (Bp R R h92)<|Ax 18 R R R (by kernel_rfl) (Ai R)<|A5 (by kernel_rfl)<|Rt1 hm R [] R R R) fun h80 hm=>Aj<|Ae<|A9 0 mixed<|Aq tbk [0,1,2,5,6,9,10,13,14] [0,0,0,0] (by kernel_rfl) R R R<|Ao 3 (by kernel_rfl)<|Au R R R<|Am hm 0 R fn160 R (K24 _ _) fun r24 hm=>Bd hm fun v45 h94 hm=>Ax 4 R R R (by kernel_rfl) (Bp R R h94)<|Ao 7 (by kernel_rfl)<|Au R R R<|Am hm 0 R fn160 R (K24 _ _) fun r25 hm=>Bd hm fun v46 h96 hm=>Ax 8 R R R (by kernel_rfl) (Bp R R h96)<|Ao 11 (by kernel_rfl)<|Au R R R<|Am hm 0 R fn160 R (K24 _ _) fun r26 hm=>Bd hm fun v47 h98 hm=>Ax 12 R R R (by kernel_rfl) (Bp R R h98)<|Ao 15 (by kernel_rfl)<|Au R R R<|Am hm 0 R fn160 R (K24 _ _) fun r27 hm=>Bd hm fun v48 h100 hm=>Ax 16 R R R (by kernel_rfl) (Bp R R h100)<|Bd hm fun v49 h101 hm=>Ax 17 R R R (by kernel_rfl) (Bp R R h101)<|Ax 18 R R R (by kernel_rfl) (Ai R)<|A5 (by kernel_rfl)<|?_
 exact Rt1 hm R [] R R R

/-! trireme/triremeref07.SamePod -/
def ref07_SamePod (a : T_api_Pod) (b : T_api_Pod) : Option Bool :=
 (if (((((V.seq a.Name b.Name) && (((a.Need.Cpu == b.Need.Cpu) && ((a.Need.Mem == b.Need.Mem) && ((a.Need.Disk == b.Need.Disk) && ((a.Need.Pods == b.Need.Pods) && ((a.Need.Dev == b.Need.Dev) && true))))) == true)) && (a.Skew == b.Skew)) && (a.Rank == b.Rank)) && (V.seq a.Owner b.Owner)) = true then (ref07_ShowPod a).bind fun r =>
 (ref07_ShowPod b).bind fun r2 =>
 some (V.seq r r2) else some false).bind fun c =>
 some (((c && ((a.Labels.length : Int) == (b.Labels.length : Int))) && ((a.Terms.length : Int) == (b.Terms.length : Int))) && ((a.Ports.length : Int) == (b.Ports.length : Int)))
theorem K26 (a : T_api_Pod) (b : T_api_Pod) : VS Tryz.prog 59 (ref07_SamePod a b) [T_api_Pod.vv a, T_api_Pod.vv b] [] .bool N0 := by
 refine A3 [.tmp 4] Tryz.func59 R R R fun r hm=>?_
 unfold ref07_SamePod at hm
 refine Ah<|Ad R R<|Ba R R fun b2=>Ad R R<|Ba R R fun b3=>Ab R R (Ai R)<|Ac<|Ae<|A9 0 mixed<|Aq tbk [0,1,2,3,4,5] [1,0] (by kernel_rfl) R R R<|Df [11,10,9,8,7,6,5,4,3,2,1,0] 16 10 R (fun h3 K' J=>Aq tbk [6,7,8,9] [1,0] (by kernel_rfl) R R R<|Ce 10 R R R R R R (by kernel_rfl) (Dk shp41 eq41 R R R R)<|Ax 11 R R R (by kernel_rfl) (Bf true R R R)<|J 5 R R R) (fun K' J=>Aq tbk [6,7,8,9,10,11] [] (by kernel_rfl) R R R<|J 5 R R R)<|Ax 12 R R R (by kernel_rfl) (Al R)<|Df [18,17,16,15,14,13,12,11,10,9,8,7,6,5,4,3,2,1,0] 23 17 R (fun h4 K' J=>Aq tbk [13,14,15,16,17,18] [1,0] (by kernel_rfl) R R R<|J 5 R R R) (fun K' J=>Aq tbk [13,14,15,16,17,18] [] (by kernel_rfl) R R R<|J 5 R R R)<|Ax 19 R R R (by kernel_rfl) (Al R)<|Df [25,24,23,22,21,20,19,18,17,16,15,14,13,12,11,10,9,8,7,6,5,4,3,2,1,0] 30 24 R (fun h5 K' J=>Aq tbk [20,21,22,23,24,25] [1,0] (by kernel_rfl) R R R<|J 5 R R R) (fun K' J=>Aq tbk [20,21,22,23,24,25] [] (by kernel_rfl) R R R<|J 5 R R R)<|Ax 26 R R R (by kernel_rfl) (Al R)<|Df [32,31,30,29,28,27,26,25,24,23,22,21,20,19,18,17,16,15,14,13,12,11,10,9,8,7,6,5,4,3,2,1,0] 37 31 R (fun h6 K' J=>Aq tbk [27,28,29,30,31,32] [1,0] (by kernel_rfl) R R R<|J 5 R R R) (fun K' J=>Aq tbk [27,28,29,30,31,32] [] (by kernel_rfl) R R R<|J 5 R R R)<|Ax 33 R R R (by kernel_rfl) (Al R)<|Cr hm [39,38,37,36,35,34,33,32,31,30,29,28,27,26,25,24,23,22,21,20,19,18,17,16,15,14,13,12,11,10,9,8,7,6,5,4,3,2,1,0] 44 38 R (fun _ K' h7 J hm=>Aq tbk [34,36] [1,0] (by kernel_rfl) R R R<|Ao 35 (by kernel_rfl)<|Cv R R R R R R<|Am hm 0 R fn109 R (K25 _) fun r hm=>Ao 37 (by kernel_rfl)<|Cv R R R R R R<|Am hm 0 R fn109 R (K25 _) fun r2 hm=>Aq tbk [38,39] [] (by kernel_rfl) R R R<|VA.reord [39,38,37,36,35,34,33,32,31,30,29,28,27,26,25,24,23,22,21,20,19,18,17,16,15,14,13,12,11,10,9,8,7,6,5,4,3,2,1,0] (by kernel_rfl) R<|J 5 R R (Bj hm)) (fun _ K' h7 J hm=>Aq tbk [34,35,36,37,38,39] [] (by kernel_rfl) R R R<|J 5 R R (Bj hm)) fun c hm=>Ax 40 R R R (by kernel_rfl) (Al R)<|Df [48,47,46,45,44,43,42,41,40,39,38,37,36,35,34,33,32,31,30,29,28,27,26,25,24,23,22,21,20,19,18,17,16,15,14,13,12,11,10,9,8,7,6,5,4,3,2,1,0] 53 45 R (fun h11 K' J=>Aq tbk [41,42] [1] (by kernel_rfl) R R R<|Ce 43 R R R R R R (by kernel_rfl) (Av T_api_Label.vv R Br)<|Aq tbk [44,45] [0] (by kernel_rfl) R R R<|Ce 46 R R R R R R (by kernel_rfl) (Av T_api_Label.vv R Br)<|Aq tbk [47,48] [] (by kernel_rfl) R R R<|J 7 R R R) (fun K' J=>Aq tbk [41,42,43,44,45,46,47,48] [] (by kernel_rfl) R R R<|J 7 R R R)<|Ax 49 R R R (by kernel_rfl) (Al R)<|?_
 exact Df [57,56,55,54,53,52,51,50,49,48,47,46,45,44,43,42,41,40,39,38,37,36,35,34,33,32,31,30,29,28,27,26,25,24,23,22,21,20,19,18,17,16,15,14,13,12,11,10,9,8,7,6,5,4,3,2,1,0] 62 54 R (fun h12 K' J=>Aq tbk [50,51] [1] (by kernel_rfl) R R R<|Ce 52 R R R R R R (by kernel_rfl) (Av T_api_Term.vv R Cm)<|Aq tbk [53,54] [0] (by kernel_rfl) R R R<|Ce 55 R R R R R R (by kernel_rfl) (Av T_api_Term.vv R Cm)<|Aq tbk [56,57] [] (by kernel_rfl) R R R<|J 7 R R R) (fun K' J=>Aq tbk [50,51,52,53,54,55,56,57] [] (by kernel_rfl) R R R<|J 7 R R R)<|Ax 58 R R R (by kernel_rfl) (Al R)<|Df [66,65,64,63,62,61,60,59,58,57,56,55,54,53,52,51,50,49,48,47,46,45,44,43,42,41,40,39,38,37,36,35,34,33,32,31,30,29,28,27,26,25,24,23,22,21,20,19,18,17,16,15,14,13,12,11,10,9,8,7,6,5,4,3,2,1,0] 71 63 R (fun h13 K' J=>Aq tbk [59,60] [1] (by kernel_rfl) R R R<|Ce 61 R R R R R R (by kernel_rfl) (Av (VV.int .i64) R Ck)<|Aq tbk [62,63] [0] (by kernel_rfl) R R R<|Ce 64 R R R R R R (by kernel_rfl) (Av (VV.int .i64) R Ck)<|Aq tbk [65,66] [] (by kernel_rfl) R R R<|J 7 R R R) (fun K' J=>Aq tbk [59,60,61,62,63,64,65,66] [] (by kernel_rfl) R R R<|J 7 R R R)<|Ax 67 R R R (by kernel_rfl) (Ai R)<|A5 (by kernel_rfl)<|Rt1 hm R [] R R R

/-! trireme/triremeref09.Same -/
def ref09_Same.l1 (ms : List T_api_Machine) (ns : List T_api_Machine) : Nat → Int → Option (Out Bool Unit)
 | 0, _ => none
 | n + 1, i2 =>
  if (decide (i2 < (ms.length : Int))) = true then
   (V.gl ms i2).bind fun x =>
   (V.gl ns i2).bind fun x2 =>
   (ref07_SameMachine x x2).bind fun r =>
   if (!r) = true then
    some (Out.ret false)
   else
    ref09_Same.l1 ms ns n (i64.wrap (i2 + 1))
  else
   some (Out.go ())
def ref09_Same.l2 (bs : List T_api_Bound) (cs : List T_api_Bound) : Nat → Int → Option (Out Bool Unit)
 | 0, _ => none
 | n2 + 1, i4 =>
  if (decide (i4 < (bs.length : Int))) = true then
   (V.gl bs i4).bind fun x3 =>
   (V.gl cs i4).bind fun x4 =>
   (if (!(V.seq x3.On x4.On)) = true then some true else (V.gl bs i4).bind fun x5 =>
   (V.gl cs i4).bind fun x6 =>
   (ref07_SamePod x5.Pod x6.Pod).bind fun r2 =>
   some (!r2)).bind fun c =>
   if c = true then
    some (Out.ret false)
   else
    ref09_Same.l2 bs cs n2 (i64.wrap (i4 + 1))
  else
   some (Out.go ())
def ref09_Same (ms : List T_api_Machine) (bs : List T_api_Bound) (ns : List T_api_Machine) (cs : List T_api_Bound) : Option Bool :=
 if (((ms.length : Int) != (ns.length : Int)) || ((bs.length : Int) != (cs.length : Int))) = true then
  some false
 else
  (ref09_Same.l1 ms ns FU (0 : Int)).bind fun o =>
  o.on fun j =>
  (ref09_Same.l2 bs cs FU (0 : Int)).bind fun o2 =>
  o2.on fun j2 =>
  some true
theorem K27 (ms : List T_api_Machine) (bs : List T_api_Bound) (ns : List T_api_Machine) (cs : List T_api_Bound) : VS Tryz.prog 19 (ref09_Same ms bs ns cs) [L61 ms, L49 bs, L61 ns, L49 cs] [] .bool N0 := by
 refine A3 [.tmp 8] Tryz.func19 R R R fun r hm=>?_
 unfold ref09_Same at hm
 refine Ag tbk [] R R<|Ae<|Ah<|Ab R R (Al R)<|Ab R R (Av T_api_Machine.vv R Bu)<|Ab R R (Al R)<|Ab R R (Av T_api_Machine.vv R Bu)<|Aa tbk [] 2 R R<|Cz 6 22 16 R (fun K' J=>Aa tbk [] 6 R R<|J 5 R R R) (fun h1 K' J=>Bg R R R R R (Al R)<|Bg R R R R R (Av T_api_Bound.vv R Bk)<|Bg R R R R R (Al R)<|Bg R R R R R (Av T_api_Bound.vv R Bk)<|Aa tbk [] 2 R R<|J 5 R R R)<|Ac<|Ak hm R (fun h2 hm=>Ag tbk [] R R<|Rt1 hm R [] R R R) fun h2 hm=>Aj<|Ae<|Ag tbk [] R R<|Bn hm (fun _ (_:Unit)=>[(1,L49 bs),(3,L49 cs)]) (fun _ (_:Unit)=>[]) (fun o hm h4=>?_) fun j _ hm=> ?_
 ·refine Bl (fun zn (zs:Int)=>ref09_Same.l1 ms ns zn zs) (fun zs (_:Unit)=>[(0,L61 ms),(1,L49 bs),(2,L61 ns),(3,L49 cs),(9,Iw zs)]) (fun _ (_:Unit)=>[]) _ () (fun _=>R) hm (Af [] R R) fun n i2 _ hm=> ?_
  rw [ref09_Same.l1] at hm
  exact Ae<|Ah<|Aa tbk [] 2 R R<|Ab R R (Av T_api_Machine.vv R Bu)<|Ab R R (A4 R R R)<|Ac<|Ak hm R (fun h5 hm=>Aj<|Ae<|Ay<|Ae<|A9 0 mixed<|Aq tbk [0,1] [] (by kernel_rfl) R R R<|Bd hm fun x h6 hm=>Ax 2 R R R (by kernel_rfl) (Az T_api_Machine.vv R R el22 h6)<|Aq tbk [3,4,5] [] (by kernel_rfl) R R R<|Bd hm fun x2 h7 hm=>Ax 6 R R R (by kernel_rfl) (Az T_api_Machine.vv R R el22 h7)<|Ax 7 R R R (by kernel_rfl) (Bi R ld61 R)<|Ao 8 (by kernel_rfl)<|Au R R R<|Am hm 0 R fn58 R (K15 _ _) fun r hm=>Ax 9 R R R (by kernel_rfl) (Co R)<|A5 (by kernel_rfl)<|Ak hm R (fun h9 hm=>Ag tbk [] R R<|have hm:=Lr hm h4;Rt1 hm R [] R R R) fun h9 hm=>Aj<|A2 tbk [] R R<|Ap _ () hm (Af [] R R)) fun h5 hm=>A1<|Ar () hm (Af [] R R)
 refine Ae<|Ag tbk [] R R<|Bn hm (fun _ (_:Unit)=>[]) (fun _ (_:Unit)=>[]) (fun o2 hm h11=>?_) fun j2 _ hm=> ?_
 ·refine Bl (fun zn (zs:Int)=>ref09_Same.l2 bs cs zn zs) (fun zs (_:Unit)=>[(1,L49 bs),(3,L49 cs),(10,Iw zs)]) (fun _ (_:Unit)=>[]) _ () (fun _=>R) hm (Af [] R R) fun n2 i4 _ hm=> ?_
  rw [ref09_Same.l2] at hm
  exact Ae<|Ah<|Aa tbk [] 2 R R<|Ab R R (Av T_api_Bound.vv R Bk)<|Ab R R (A4 R R R)<|Ac<|Ak hm R (fun h12 hm=>Aj<|Ae<|Ay<|Ae<|A9 0 mixed<|Aq tbk [0,1] [] (by kernel_rfl) R R R<|Bd hm fun x3 h13 hm=>Ax 2 R R R (by kernel_rfl) (Az T_api_Bound.vv R R el23 h13)<|Aq tbk [3,4,5,6] [] (by kernel_rfl) R R R<|Bd hm fun x4 h14 hm=>Ax 7 R R R (by kernel_rfl) (Az T_api_Bound.vv R R el23 h14)<|Aq tbk [8,9,10,11] [] (by kernel_rfl) R R R<|Cr hm [24,23,22,21,20,19,18,17,16,15,14,13,12,11,10,9,8,7,6,5,4,3,2,1,0] 69 56 R (fun _ K' h15 J hm=>Aq tbk [12,13,14,15,16,17,18,19,20,21,22,23,24] [] (by kernel_rfl) R R R<|J 12 R R (Bj hm)) (fun _ K' h15 J hm=>Aq tbk [12,13] [] (by kernel_rfl) R R R<|Bd hm fun x5 h16 hm=>Ce 14 R R R R R R (by kernel_rfl) (Az T_api_Bound.vv R R el23 h16)<|Aq tbk [15,16,17,18] [] (by kernel_rfl) R R R<|Bd hm fun x6 h17 hm=>Ce 19 R R R R R R (by kernel_rfl) (Az T_api_Bound.vv R R el23 h17)<|Aq tbk [20,21] [] (by kernel_rfl) R R R<|Ao 22 (by kernel_rfl)<|Cv R R R R R R<|Am hm 0 R fn59 R (K26 _ _) fun r2 hm=>Aq tbk [23,24] [] (by kernel_rfl) R R R<|J 12 R R (Bj hm)) fun c hm=>A5 (by kernel_rfl)<|Ak hm R (fun h20 hm=>Ag tbk [] R R<|have hm:=Lr hm h11;Rt1 hm R [] R R R) fun h20 hm=>Aj<|A2 tbk [] R R<|Ap _ () hm (Af [] R R)) fun h12 hm=>A1<|Ar () hm (Af [] R R)
 exact Ag tbk [] R R<|Rt1 hm R [] R R R

/-! trireme/triremelaw26.PlanTells -/
def law26_PlanTells.l1 (c : T_law26_Case) : Nat → Int → Option (Out Bool Unit)
 | 0, _ => none
 | n + 1, i2 =>
  if (decide (i2 < (c.Names.length : Int))) = true then
   (V.gl c.Names i2).bind fun x =>
   (plan_One c.Ms c.Bs x c.Barred).bind fun r3 =>
   (V.gl c.Names i2).bind fun x2 =>
   (ref26_One c.Ms c.Bs x2 c.Barred).bind fun r4 =>
   (if (!(r3.2 == r4.2)) = true then some true else (ref14_Moves r3.1 r4.1).bind fun r5 =>
   some (!r5)).bind fun c2 =>
   if c2 = true then
    some (Out.ret false)
   else
    law26_PlanTells.l1 c n (i64.wrap (i2 + 1))
  else
   some (Out.go ())
def law26_PlanTells.l2 : Nat → (List T_api_Bound) → Int → Option Unit
 | 0, _, _ => none
 | n2 + 1, now2, i4 =>
  if (decide (i4 < (now2.length : Int))) = true then
   (V.gl now2 i4).bind fun x3 =>
   law26_PlanTells.l2 n2 (List.set now2 (i4).toNat (⟨x3.Pod, (⟨#[115, 112, 111, 105, 108, 116]⟩ : ByteArray)⟩ : T_api_Bound)) (i64.wrap (i4 + 1))
  else
   some ()
def law26_PlanTells (c : T_law26_Case) : Option Bool :=
 (law26_right c).bind fun r =>
 if (!r) = true then
  (law26_known).bind fun r2 =>
  some r2
 else
  (law26_PlanTells.l1 c FU (0 : Int)).bind fun o =>
  o.on fun j =>
  (V.ap 288 [] c.Bs).bind fun l2 =>
  (plan_Many c.Ms l2 c.L c.Names c.Most).bind fun r6 =>
  (ref26_Many c.Ms c.Bs c.L c.Names c.Most).bind fun r7 =>
  (ref26_Same r6.1 r7.1).bind fun r8 =>
  (if r8 = true then (ref09_Same ([] : List T_api_Machine) r6.2 ([] : List T_api_Machine) r7.2).bind fun r9 =>
  some r9 else some false).bind fun c3 =>
  (if c3 = true then (plan_Without c.Ms c.Barred).bind fun r10 =>
  (ref26_Without c.Ms c.Barred).bind fun r11 =>
  (ref09_Same r10 ([] : List T_api_Bound) r11 ([] : List T_api_Bound)).bind fun r12 =>
  some r12 else some false).bind fun c4 =>
  (law26_PlanTells.l2 FU r6.2 (0 : Int)).bind fun j2 =>
  (if c4 = true then (ref09_Same ([] : List T_api_Machine) l2 ([] : List T_api_Machine) c.Bs).bind fun r13 =>
  some r13 else some false).bind fun c5 =>
  (if c5 = true then (law26_known).bind fun r14 =>
  some r14 else some false).bind fun c6 =>
  some c6
theorem law26_PlanTells_ok (c : T_law26_Case) : VS Tryz.prog 3 (law26_PlanTells c) [T_law26_Case.vv c] [] .bool N0 := by
 refine A3 [.tmp 2] Tryz.func3 R R R fun r hm=>?_
 unfold law26_PlanTells at hm
 refine Ah<|Ad R R<|Ba R R fun b=>Ab R R (Ai R)<|Ac<|Ae<|Ah<|Aa tbk [0] 1 R R<|Ad R R<|Am hm 0 R fn11 R (K62 _) fun r hm=>Ab R R (Co R)<|Ac<|Ak hm R (fun h3 hm=>Ah<|Ad R R<|Am hm 0 R fn12 R (K143) fun r2 hm=>Ab R R (Ai R)<|Ac<|Rt1 hm R [] R R R) fun h3 hm=>Aj<|Ae<|Ag tbk [] R R<|Bn hm (fun _ (_:Unit)=>[(1,.ptr b 0)]) (fun _ (_:Unit)=>[X27 b c]) (fun o hm h6=>?_) fun j _ hm=> ?_
 ·refine Bl (fun zn (zs:Int)=>law26_PlanTells.l1 c zn zs) (fun zs (_:Unit)=>[(1,.ptr b 0),(3,Iw zs)]) (fun _ (_:Unit)=>[X27 b c]) _ () (fun _=>R) hm (Af [0] R R) fun n i2 _ hm=> ?_
  rw [law26_PlanTells.l1] at hm
  refine Ae<|Ah<|Aa tbk [0] 3 R R<|Ab R R (Av VV.str R Bo)<|Ab R R (A4 R R R)<|Ac<|Ak hm R (fun h7 hm=>?_) fun h7 hm=> ?_
  ·exact Aj<|Ae<|Ay<|Ae<|A9 0 mixed<|Aq tbk [0,1,2,3,4,5,6] [0,0,0] (by kernel_rfl) R R R<|Bd hm fun x h8 hm=>Ax 7 R R R (by kernel_rfl) (Az VV.str R R el25 h8)<|Aq tbk [8,9,10] [0] (by kernel_rfl) R R R<|Ao 11 (by kernel_rfl)<|Au R R R<|Bz hm 0 R fn13 R (K128 _ _ _ _) fun r3 ob cap hm=>Aq tbk [12,13,14,15,16] [] (by kernel_rfl) R R R<|A5 (by kernel_rfl)<|Ae<|A9 0 mixed<|Aq tbk [0,1,2,3,4,5,6] [1,1,1] (by kernel_rfl) R R R<|Bd hm fun x2 h11 hm=>Ax 7 R R R (by kernel_rfl) (Az VV.str R R el25 h11)<|Aq tbk [8,9,10] [1] (by kernel_rfl) R R R<|Ao 11 (by kernel_rfl)<|Au R R R<|Bz hm 0 R fn14 R (K7 _ _ _ _) fun r4 ob2 cap2 hm=>Aq tbk [12,13,14,15,16] [] (by kernel_rfl) R R R<|A5 (by kernel_rfl)<|Ae<|B8 (Bb (Aw 1 [(39,L58 r3.1),(4,L58 r3.1)] R ⟨⟨_,R,.here _ R⟩,⟨_,R,.here _ R⟩,trivial⟩ (FzH.refl _)) (Aw 0 [(54,L58 r4.1),(6,L58 r4.1)] R ⟨⟨_,R,.here _ R⟩,⟨_,R,.here _ R⟩,trivial⟩ (FzH.refl _)))<|Bq<|Aa tbk [] 2 R R<|Ab R R (VP.boolop Tryz.underlying4 R R R)<|Ab R R (Al R)<|Be hm 5 64 59 R (fun _ K' h15 J hm=>Aa tbk [] 5 R R<|J 4 R R (Bj hm)) (fun _ K' h15 J hm=>Aa tbk [] 2 R R<|A7 R R R R R<|Am hm 0 R fn15 R (K141 _ _) fun r5 hm=>Aa tbk [] 2 R R<|J 4 R R (Bj hm)) fun c2 hm=>Ac<|Ak hm R (fun h18 hm=>Ag tbk [] R R<|have hm:=Lr hm h6;Rt1 hm R [] R R R) fun h18 hm=>Aj<|A2 tbk [] R R<|Ap _ () hm (Af [0] R R)
  exact A1<|Ar () hm (Af [0] R R)
 refine Ah<|Ad R R<|A8 ap23 R R R R R fun b2=>Aa tbk [1] 2 R R<|Bd hm fun l2 h20 hm=>Ad R R<|B3 0 T_api_Bound.vv (l:=[]) (l2:=c.Bs) ap23 R R (sT_list T_api_Bound.vv el23 R R) h20 fun ob3 cap3=>Ab R R (Ai R)<|Ac<|Ah<|Aa tbk [1,1,1,1] 9 R R<|Bh (Aw 0 [(68,L49 l2),(8,L49 l2),(72,L49 l2)] R ⟨⟨_,R,.here _ R⟩,⟨_,R,.here _ R⟩,⟨_,R,.here _ R⟩,trivial⟩ (FzH.refl _))<|Bd hm fun r6 h21 hm=>Ad R R<|Dc 0 R fn16 R (K140 c.Ms l2 c.L c.Names c.Most r6 h21) fun _ _ h50=> ?_
 obtain ⟨ob4,cap4,ob5,cap5,rfl,rfl⟩:=h50
 refine Aa tbk [] 5 R R<|Ac<|Ah<|Aa tbk [2,2,2,2,2] 10 R R<|Bd hm fun r7 h24 hm=>Ad R R<|Dc 0 R fn17 R (K12 c.Ms c.Bs c.L c.Names c.Most r7 h24) fun _ _ h49=> ?_
 obtain ⟨ob6,cap6,ob7,cap7,rfl,rfl⟩:=h49
 refine Aa tbk [] 5 R R<|Ac<|Ae<|B8 (Bb (Aw 2 [(80,L54 r6.1),(9,L54 r6.1)] R ⟨⟨_,R,.here _ R⟩,⟨_,R,.here _ R⟩,trivial⟩ (FzH.refl _)) (Aw 0 [(94,L54 r7.1),(11,L54 r7.1)] R ⟨⟨_,R,.here _ R⟩,⟨_,R,.here _ R⟩,trivial⟩ (FzH.refl _)))<|A9 2 mixed<|Aq tbk [0,1] [] (by kernel_rfl) R R R<|Ao 2 (by kernel_rfl)<|Au R R R<|Am hm 0 R fn18 R (K142 _ _) fun r8 hm=>Ax 3 R R R (by kernel_rfl) (Al R)<|Cr hm [7,6,5,4,3,2,1,0] 103 99 R (fun _ K' h28 J hm=>Aq tbk [4,5] [] (by kernel_rfl) R R R<|Ao 6 (by kernel_rfl)<|Cv R R R R R R<|C4 hm (Bb (Aw 1 [(81,L49 r6.2),(10,L49 r6.2),(100,L49 r6.2)] R ⟨⟨_,R,.here _ R⟩,⟨_,R,.here _ R⟩,⟨_,R,.here _ R⟩,trivial⟩ (FzH.refl _)) (Aw 0 [(95,L49 r7.2),(12,L49 r7.2),(101,L49 r7.2)] R ⟨⟨_,R,.here _ R⟩,⟨_,R,.here _ R⟩,⟨_,R,.here _ R⟩,trivial⟩ (FzH.refl _))) [.nil 61,.same,.nil 61,.same] R fn19 R (K27 _ _ _ _) (fun _=>R) (fun _=>R) fun r9 hm=>Ax 7 R R R (by kernel_rfl) (Bf true R R R)<|J 3 R R (Bj hm)) (fun _ K' h28 J hm=>Aq tbk [4,5,6,7] [] (by kernel_rfl) R R R<|J 3 R R (Bj hm)) fun c3 hm=>Ax 8 R R R (by kernel_rfl) (Al R)<|Cr hm [20,19,18,17,16,15,14,13,12,11,10,9,8,7,6,5,4,3,2,1,0] 116 104 R (fun _ K' h31 J hm=>Aq tbk [9,10,11,12,14,15,16,17] [0,0,0,0] (by kernel_rfl) R R R<|Ao 13 (by kernel_rfl)<|Cv R R R R R R<|Bz hm 0 R fn20 R (K67 _ _) fun r10 ob8 cap8 hm=>Cc (Aw 0 [(109,L61 r10)] R ⟨⟨_,R,.here _ R⟩,trivial⟩ (FzH.refl _))<|Ao 18 (by kernel_rfl)<|Cv R R R R R R<|Bz hm 0 R fn21 R (K145 _ _) fun r11 ob9 cap9 hm=>Cc (Aw 0 [(114,L61 r11)] R ⟨⟨_,R,.here _ R⟩,trivial⟩ (FzH.refl _))<|Ao 19 (by kernel_rfl)<|Cv R R R R R R<|VO.cn hm 0 [.same,.nil 49,.same,.nil 49] R fn19 R (K27 _ _ _ _) fun r12 hm=>Ax 20 R R R (by kernel_rfl) (Bf true R R R)<|VA.reord [20,19,18,17,16,15,14,13,12,11,10,9,8,7,6,5,4,3,2,1,0] (by kernel_rfl) R<|J 13 R R (Bj hm)) (fun _ K' h31 J hm=>Aq tbk [9,10,11,12,13,14,15,16,17,18,19,20] [] (by kernel_rfl) R R R<|J 11 R R (Bj hm)) fun c4 hm=>Ax 21 R R R (by kernel_rfl) (Ai R)<|A5 (by kernel_rfl)<|Ae<|Ag tbk [] R R<|Bw hm (fun _ (_:Unit)=>[(1,.ptr b 0),(8,L49 l2),(13,.bool c4)]) (fun _ (_:Unit)=>[X27 b c]) (fun o2 hm=>?_) fun j2 _ hm=> ?_
 ·refine Bl (fun zn (zs:List T_api_Bound × Int)=>law26_PlanTells.l2 zn zs.1 zs.2) (fun zs (zg:Option Nat)=>[(1,.ptr b 0),(8,L49 l2),(10,Z49 zg zs.1 cap5),(13,.bool c4),(14,Iw zs.2)]) (fun zs (zg:Option Nat)=>[Q49 zg cap5 zs.1,X27 b c]) (r6.2,(0 : Int)) _ (fun _=>R) hm (Af [1,1] R R) fun n2=>Pq fun now2 i4 ob11 hm=> ?_
  rw [law26_PlanTells.l2] at hm
  refine Ae<|Ah<|Aa tbk [] 2 R R<|Ab R R (Cu T_api_Bound.vv R Bk)<|Ab R R (A4 R R R)<|Ac<|Ak hm R (fun h40 hm=>?_) fun h40 hm=> ?_
  ·refine Aj<|Ae<|Ay<|Bq<|Aa tbk [] 2 R R<|Bd hm fun x3 h41 hm=>Cx 0 R (gl_pos T_api_Bound.vv h41) fun b3 h42=> ?_
   subst h42
   exact Ab R R (Cf T_api_Bound.vv R R el23 h41)<|Ab R R (B9 R fa49_1)<|Ad R R<|C7 0 (f:=T_api_Bound.vv) (l:=now2) (q:=x3) (q':=(⟨x3.Pod,(⟨#[115,112,111,105,108,116]⟩ : ByteArray)⟩ : T_api_Bound)) R R R R h41 ld9 R R R R ⟨R,List.all_eq_true.1 R⟩<|Bh (Cg 10 (List.map T_api_Bound.vv (List.set now2 (i4).toNat (⟨x3.Pod,(⟨#[115,112,111,105,108,116]⟩ : ByteArray)⟩ : T_api_Bound))).length R (len_set _ _ _ _))<|Bh (Cg 118 (List.map T_api_Bound.vv (List.set now2 (i4).toNat (⟨x3.Pod,(⟨#[115,112,111,105,108,116]⟩ : ByteArray)⟩ : T_api_Bound))).length R (len_set _ _ _ _))<|Bh (Cg 123 (List.map T_api_Bound.vv (List.set now2 (i4).toNat (⟨x3.Pod,(⟨#[115,112,111,105,108,116]⟩ : ByteArray)⟩ : T_api_Bound))).length R (len_set _ _ _ _))<|Ac<|A2 tbk [] R R<|Ap ((List.set now2 (i4).toNat (⟨x3.Pod,(⟨#[115,112,111,105,108,116]⟩ : ByteArray)⟩ : T_api_Bound)),(IntKind.i64.wrap (i4 + (1 : Int)))) _ hm (Af [0,0] R R)
  exact A1<|As () hm (Af [1] R R)
 exact Ah<|Aa tbk [] 2 R R<|Be hm 5 133 128 R (fun _ K' h43 J hm=>Aa tbk [0] 3 R R<|A7 R R R R R<|VO.cn hm 0 [.nil 61,.same,.nil 61,.same] R fn19 R (K27 _ _ _ _) fun r13 hm=>Ab R R (Bf true R R R)<|J 4 R R (Bj hm)) (fun _ K' h43 J hm=>Aa tbk [] 5 R R<|J 4 R R (Bj hm)) fun c5 hm=>Ab R R (Al R)<|Be hm 2 136 134 R (fun _ K' h46 J hm=>A7 R R R R R<|Am hm 0 R fn12 R (K143) fun r14 hm=>Ab R R (Bf true R R R)<|J 1 R R (Bj hm)) (fun _ K' h46 J hm=>Aa tbk [] 2 R R<|J 1 R R (Bj hm)) fun c6 hm=>Ab R R (Ai R)<|Ac<|Rt1 hm R [] R R R

/-! trireme/triremeref12.Feasible -/
def ref12_Feasible.l1 (ms : List T_api_Machine) (bs : List T_api_Bound) : Nat → Int → Option (Out Bool Unit)
 | 0, _ => none
 | n + 1, i2 =>
  if (decide (i2 < (bs.length : Int))) = true then
   (V.gl bs i2).bind fun x =>
   (if (!(V.seq x.On (⟨#[]⟩ : ByteArray))) = true then (V.gl bs i2).bind fun x2 =>
   (V.gl bs i2).bind fun x3 =>
   (ref12_Why ms bs x2.Pod x3.On).bind fun r =>
   some (r != 0) else some false).bind fun c =>
   if c = true then
    some (Out.ret false)
   else
    ref12_Feasible.l1 ms bs n (i64.wrap (i2 + 1))
  else
   some (Out.go ())
def ref12_Feasible (ms : List T_api_Machine) (bs : List T_api_Bound) : Option Bool :=
 (ref12_Feasible.l1 ms bs FU (0 : Int)).bind fun o =>
 o.on fun j =>
 some true
theorem K28 (ms : List T_api_Machine) (bs : List T_api_Bound) : VS Tryz.prog 26 (ref12_Feasible ms bs) [L61 ms, L49 bs] [] .bool N0 := by
 refine A3 [.tmp 4] Tryz.func26 R R R fun r hm=>?_
 unfold ref12_Feasible at hm
 refine Ag tbk [] R R<|Ae<|Ag tbk [] R R<|Bn hm (fun _ (_:Unit)=>[]) (fun _ (_:Unit)=>[]) (fun o hm h2=>?_) fun j _ hm=> ?_
 ·refine Bl (fun zn (zs:Int)=>ref12_Feasible.l1 ms bs zn zs) (fun zs (_:Unit)=>[(0,L61 ms),(1,L49 bs),(5,Iw zs)]) (fun _ (_:Unit)=>[]) _ () (fun _=>R) hm (Af [] R R) fun n i2 _ hm=> ?_
  rw [ref12_Feasible.l1] at hm
  exact Ae<|Ah<|Aa tbk [] 2 R R<|Ab R R (Av T_api_Bound.vv R Bk)<|Ab R R (A4 R R R)<|Ac<|Ak hm R (fun h3 hm=>Aj<|Ae<|Ay<|Ae<|A9 0 mixed<|Aq tbk [0,1] [] (by kernel_rfl) R R R<|Bd hm fun x h4 hm=>Ax 2 R R R (by kernel_rfl) (Az T_api_Bound.vv R R el23 h4)<|Aq tbk [3,4,5,6] [] (by kernel_rfl) R R R<|Cr hm [21,20,19,18,17,16,15,14,13,12,11,10,9,8,7,6,5,4,3,2,1,0] 33 18 R (fun _ K' h5 J hm=>Aq tbk [7,8,9,10] [] (by kernel_rfl) R R R<|Bd hm fun x2 h6 hm=>Ce 11 R R R R R R (by kernel_rfl) (Az T_api_Bound.vv R R el23 h6)<|Aq tbk [12,13,14,15] [] (by kernel_rfl) R R R<|Bd hm fun x3 h7 hm=>Ce 16 R R R R R R (by kernel_rfl) (Az T_api_Bound.vv R R el23 h7)<|Aq tbk [17,18] [] (by kernel_rfl) R R R<|Ao 19 (by kernel_rfl)<|Cv R R R R R R<|Am hm 0 R fn64 R (K171 _ _ _ _) fun r hm=>Aq tbk [20,21] [] (by kernel_rfl) R R R<|J 14 R R (Bj hm)) (fun _ K' h5 J hm=>Aq tbk [7,8,9,10,11,12,13,14,15,16,17,18,19,20,21] [] (by kernel_rfl) R R R<|J 14 R R (Bj hm)) fun c hm=>A5 (by kernel_rfl)<|Ak hm R (fun h10 hm=>Ag tbk [] R R<|have hm:=Lr hm h2;Rt1 hm R [] R R R) fun h10 hm=>Aj<|A2 tbk [] R R<|Ap _ () hm (Af [] R R)) fun h3 hm=>A1<|Ar () hm (Af [] R R)
 exact Ag tbk [] R R<|Rt1 hm R [] R R R

/-! trireme/triremelaw26.PlanSafe -/
def law26_PlanSafe.l1 (c : T_law26_Case) : Nat → Bool → Int → Option Bool
 | 0, _, _ => none
 | n + 1, free2, i2 =>
  if (decide (i2 < (c.Bs.length : Int))) = true then
   (if free2 = true then (V.gl c.Bs i2).bind fun x =>
   some ((x.Pod.Spread.length : Int) == 0) else some false).bind fun c3 =>
   law26_PlanSafe.l1 c n c3 (i64.wrap (i2 + 1))
  else
   some free2
def law26_PlanSafe.l4 (r3 : List T_api_Plan × List T_api_Bound) (i4 : Int) (r7 : List T_api_Pod) (k2 : Int) : Nat → Int → Int → Option Int
 | 0, _, _ => none
 | n4 + 1, met2, j4 =>
  (V.gl r3.1 i4).bind fun x5 =>
  if (decide (j4 < (x5.Moves.length : Int))) = true then
   (V.gl r3.1 i4).bind fun x6 =>
   (V.gl x6.Moves j4).bind fun x7 =>
   (V.gl r7 k2).bind fun x8 =>
   if (V.seq x7.Pod x8.Name) = true then
    law26_PlanSafe.l4 r3 i4 r7 k2 n4 (i64.wrap (met2 + 1)) (i64.wrap (j4 + 1))
   else
    law26_PlanSafe.l4 r3 i4 r7 k2 n4 met2 (i64.wrap (j4 + 1))
  else
   some met2
def law26_PlanSafe.l3 (r3 : List T_api_Plan × List T_api_Bound) (i4 : Int) (r7 : List T_api_Pod) : Nat → Int → Option (Out (Out Bool Unit) Unit)
 | 0, _ => none
 | n3 + 1, k2 =>
  if (decide (k2 < (r7.length : Int))) = true then
   (law26_PlanSafe.l4 r3 i4 r7 k2 FU 0 (0 : Int)).bind fun met32 =>
   (if (met32 != 1) = true then some true else (V.gl r7 k2).bind fun x9 =>
   some x9.Pinned).bind fun c5 =>
   (if c5 = true then some true else (V.gl r7 k2).bind fun x10 =>
   some x10.Local).bind fun c6 =>
   (if c6 = true then some true else (V.gl r7 k2).bind fun x11 =>
   some (V.seq x11.Owner (⟨#[]⟩ : ByteArray))).bind fun c7 =>
   if c7 = true then
    some (Out.ret (Out.ret false))
   else
    law26_PlanSafe.l3 r3 i4 r7 n3 (i64.wrap (k2 + 1))
  else
   some (Out.go ())
def law26_PlanSafe.l6 (r3 : List T_api_Plan × List T_api_Bound) (i4 : Int) (k4 : Int) : Nat → Int → Option (Out (Out (Out Bool Unit) Unit) Unit)
 | 0, _ => none
 | n6 + 1, j7 =>
  if (decide (j7 < (r3.1.length : Int))) = true then
   (V.gl r3.1 i4).bind fun x13 =>
   (V.gl x13.Moves k4).bind fun x14 =>
   (V.gl r3.1 j7).bind fun x15 =>
   if (V.seq x14.To x15.Name) = true then
    some (Out.ret (Out.ret (Out.ret false)))
   else
    law26_PlanSafe.l6 r3 i4 k4 n6 (i64.wrap (j7 + 1))
  else
   some (Out.go ())
def law26_PlanSafe.l5 (c : T_law26_Case) (r3 : List T_api_Plan × List T_api_Bound) (i4 : Int) : Nat → Int → Option (Out (Out Bool Unit) Unit)
 | 0, _ => none
 | n5 + 1, k4 =>
  (V.gl r3.1 i4).bind fun x12 =>
  if (decide (k4 < (x12.Moves.length : Int))) = true then
   (law26_PlanSafe.l6 r3 i4 k4 FU (0 : Int)).bind fun o6 =>
   o6.on fun j8 =>
   (V.gl r3.1 i4).bind fun x16 =>
   (V.gl x16.Moves k4).bind fun x17 =>
   (ref09_Find c.Ms x17.To).bind fun r8 =>
   (if (decide (r8 < 0)) = true then some true else (V.gl c.Ms r8).bind fun x18 =>
   some (!x18.Ready)).bind fun c8 =>
   if c8 = true then
    some (Out.ret (Out.ret false))
   else
    law26_PlanSafe.l5 c r3 i4 n5 (i64.wrap (k4 + 1))
  else
   some (Out.go ())
def law26_PlanSafe.l2 (c : T_law26_Case) (r3 : List T_api_Plan × List T_api_Bound) : Nat → Int → Option (Out Bool Unit)
 | 0, _ => none
 | n2 + 1, i4 =>
  if (decide (i4 < (r3.1.length : Int))) = true then
   (V.gl r3.1 i4).bind fun x2 =>
   (ref09_Find c.Ms x2.Name).bind fun r5 =>
   (if (decide (r5 < 0)) = true then some true else (V.gl r3.1 i4).bind fun x3 =>
   (ref25_Movable r3.2 x3.Name).bind fun r6 =>
   some (decide ((r6.length : Int) > 0))).bind fun c4 =>
   if c4 = true then
    some (Out.ret false)
   else
    (V.gl r3.1 i4).bind fun x4 =>
    (ref25_Movable c.Bs x4.Name).bind fun r7 =>
    (law26_PlanSafe.l3 r3 i4 r7 FU (0 : Int)).bind fun o3 =>
    o3.on fun j2 =>
    (law26_PlanSafe.l5 c r3 i4 FU (0 : Int)).bind fun o5 =>
    o5.on fun j5 =>
    law26_PlanSafe.l2 c r3 n2 (i64.wrap (i4 + 1))
  else
   some (Out.go ())
def law26_PlanSafe.l7 (c : T_law26_Case) (r3 : List T_api_Plan × List T_api_Bound) : Nat → Int → Option (Out Bool Unit)
 | 0, _ => none
 | n7 + 1, i6 =>
  if (decide (i6 < (c.L.length : Int))) = true then
   (V.gl c.L i6).bind fun x19 =>
   (V.gl c.L i6).bind fun x20 =>
   (ref15_Spare x19 r3.2).bind fun r9 =>
   (ref15_Spare x20 c.Bs).bind fun r10 =>
   if (r9 != r10) = true then
    some (Out.ret false)
   else
    law26_PlanSafe.l7 c r3 n7 (i64.wrap (i6 + 1))
  else
   some (Out.go ())
def law26_PlanSafe (c : T_law26_Case) : Option Bool :=
 (law26_right c).bind fun r =>
 if (!r) = true then
  (law26_known).bind fun r2 =>
  some r2
 else
  (plan_Many c.Ms c.Bs c.L c.Names c.Most).bind fun r3 =>
  (if (((r3.2.length : Int) != (c.Bs.length : Int)) || (decide ((r3.1.length : Int) > (max c.Most 0)))) = true then some true else (ref09_Check c.Ms r3.2).bind fun r4 =>
  some (r4 != 0)).bind fun c2 =>
  if c2 = true then
   some false
  else
   (law26_PlanSafe.l1 c FU true (0 : Int)).bind fun free32 =>
   (law26_PlanSafe.l2 c r3 FU (0 : Int)).bind fun o2 =>
   o2.on fun j =>
   (law26_PlanSafe.l7 c r3 FU (0 : Int)).bind fun o7 =>
   o7.on fun j9 =>
   (if (!free32) = true then some true else (ref12_Feasible c.Ms c.Bs).bind fun r11 =>
   some (!r11)).bind fun c9 =>
   (if c9 = true then some true else (ref12_Feasible c.Ms r3.2).bind fun r12 =>
   some r12).bind fun c10 =>
   (if c10 = true then (law26_known).bind fun r13 =>
   some r13 else some false).bind fun c11 =>
   some c11
theorem law26_PlanSafe_ok (c : T_law26_Case) : VS Tryz.prog 4 (law26_PlanSafe c) [T_law26_Case.vv c] [] .bool N0 := by
 refine A3 [.tmp 2] Tryz.func4 R R R fun r hm=>?_
 unfold law26_PlanSafe at hm
 refine Ah<|Ad R R<|Ba R R fun b=>Ab R R (Ai R)<|Ac<|Ae<|Ah<|Aa tbk [0] 1 R R<|Ad R R<|Am hm 0 R fn11 R (K62 _) fun r hm=>Ab R R (Co R)<|Ac<|Ak hm R (fun h3 hm=>Ah<|Ad R R<|Am hm 0 R fn12 R (K143) fun r2 hm=>Ab R R (Ai R)<|Ac<|Rt1 hm R [] R R R) fun h3 hm=>Aj<|Ah<|Aa tbk [0,0,0,0,0] 10 R R<|Bd hm fun r3 h5 hm=>Ad R R<|Dc 0 R fn16 R (K140 c.Ms c.Bs c.L c.Names c.Most r3 h5) fun _ _ h92=> ?_
 obtain ⟨ob,cap,ob2,cap2,rfl,rfl⟩:=h92
 refine Aa tbk [] 5 R R<|Ac<|Ae<|Ae<|B8 (Aw 1 [(33,L49 r3.2),(4,L49 r3.2)] R ⟨⟨_,R,.here _ R⟩,⟨_,R,.here _ R⟩,trivial⟩ (FzH.refl _))<|Bq<|Ab R R (Al R)<|Ab R R (Av T_api_Bound.vv R Bk)<|Aa tbk [1] 2 R R<|Ab R R (Av T_api_Bound.vv R Bk)<|Aa tbk [] 2 R R<|Cz 7 47 40 R (fun K' J=>Aa tbk [] 7 R R<|J 6 R R R) (fun h10 K' J=>Bg R R R R R (Al R)<|Bg R R R R R (Cu T_api_Plan.vv R B2)<|Aa tbk [1] 2 R R<|Bg R R R R R (C9 R R)<|Aa tbk [] 2 R R<|J 6 R R R)<|Ab R R (Al R)<|Be hm 6 54 48 R (fun _ K' h11 J hm=>Aa tbk [] 6 R R<|J 5 R R (Bj hm)) (fun _ K' h11 J hm=>Aa tbk [1] 3 R R<|A7 R R R R R<|Am hm 0 R fn22 R (K60 _ _) fun r4 hm=>Aa tbk [] 2 R R<|J 5 R R (Bj hm)) fun c2 hm=>Ac<|Ak hm R (fun h14 hm=>Ag tbk [] R R<|Rt1 hm R [] R R R) fun h14 hm=>Aj<|Ag tbk [] R R<|Ae<|Ag tbk [] R R<|Bw hm (fun free32 (_:Unit)=>[(1,.ptr b 0),(3,Z54 ob r3.1 cap),(4,L49 r3.2),(5,.bool free32)]) (fun _ (_:Unit)=>[Q54 ob cap r3.1,X27 b c]) (fun o hm=>?_) fun free32 _ hm=> ?_
 ·refine Bl (fun zn (zs:Bool × Int)=>law26_PlanSafe.l1 c zn zs.1 zs.2) (fun zs (_:Unit)=>[(1,.ptr b 0),(3,Z54 ob r3.1 cap),(4,L49 r3.2),(5,.bool zs.1),(6,Iw zs.2)]) (fun _ (_:Unit)=>[Q54 ob cap r3.1,X27 b c]) (true,(0 : Int)) () (fun _=>R) hm (Af [0,0] R R) fun n=>Pq fun free2 i2 _ hm=> ?_
  rw [law26_PlanSafe.l1] at hm
  exact Ae<|Ah<|Aa tbk [1] 3 R R<|Ab R R (Av T_api_Bound.vv R Bk)<|Ab R R (A4 R R R)<|Ac<|Ak hm R (fun h17 hm=>Aj<|Ae<|Ay<|Bq<|Aa tbk [] 2 R R<|Be hm 10 73 63 R (fun _ K' h18 J hm=>Aa tbk [1] 3 R R<|Bd hm fun x h19 hm=>Bg R R R R R (Az T_api_Bound.vv R R el23 h19)<|Aa tbk [] 3 R R<|Bg R R R R R (Av T_api_Label.vv R Br)<|Aa tbk [] 2 R R<|J 9 R R (Bj hm)) (fun _ K' h18 J hm=>Aa tbk [] 10 R R<|J 9 R R (Bj hm)) fun c3 hm=>Ab R R (Ai R)<|Ac<|A2 tbk [] R R<|Ap (c3,(IntKind.i64.wrap (i2 + (1 : Int)))) () hm (Af [0,0] R R)) fun h17 hm=>A1<|As () hm (Af [0,0] R R)
 refine Ae<|Ag tbk [] R R<|Bn hm (fun _ (_:Unit)=>[(1,.ptr b 0),(4,L49 r3.2),(5,.bool free32)]) (fun _ (_:Unit)=>[X27 b c]) (fun o2 hm h22=>?_) fun j _ hm=> ?_
 ·refine Bl (fun zn (zs:Int)=>law26_PlanSafe.l2 c r3 zn zs) (fun zs (zg:Option Nat)=>[(1,.ptr b 0),(3,Z54 zg r3.1 cap),(4,L49 r3.2),(5,.bool free32),(7,Iw zs)]) (fun _ (zg:Option Nat)=>[Q54 zg cap r3.1,X27 b c]) _ _ (fun _=>R) hm (Af [0,0] R R) fun n2 i4 ob4 hm=> ?_
  rw [law26_PlanSafe.l2] at hm
  refine Ae<|Ah<|Aa tbk [] 2 R R<|Ab R R (Cu T_api_Plan.vv R B2)<|Ab R R (A4 R R R)<|Ac<|Ak hm R (fun h23 hm=>?_) fun h23 hm=> ?_
  ·refine Aj<|Ae<|Ay<|Ae<|Ae<|A9 0 mixed<|Aq tbk [0,1,2,3] [1] (by kernel_rfl) R R R<|Bd hm fun x2 h24 hm=>C2 0 R (gl_pos T_api_Plan.vv h24) fun b2 h25=> ?_
   subst h25
   refine Ax 4 R R R (by kernel_rfl) (Cf T_api_Plan.vv R R el34 h24)<|Ax 5 R R R (by kernel_rfl) (B9 R fa54_0)<|Ax 6 R R R (by kernel_rfl) (Cd (i:=0) (y:=T_api_Plan.vv x2) R R R (gl_map _ (gl_some h24).2) ld9 R)<|Ao 7 (by kernel_rfl)<|Au R R R<|Am hm 0 R fn23 R (K58 _ _) fun r5 hm=>Aq tbk [8,9] [] (by kernel_rfl) R R R<|Cr hm [19,18,17,16,15,14,13,12,11,10,9,8,7,6,5,4,3,2,1,0] 99 89 R (fun _ K' h27 J hm=>Aq tbk [10,11,12,13,14,15,16,17,18,19] [] (by kernel_rfl) R R R<|J 9 R R (Bj hm)) (fun _ K' h27 J hm=>Aq tbk [10,11,12] [] (by kernel_rfl) R R R<|Bd hm fun x3 h28 hm=>Ce 13 R R R R R R (by kernel_rfl) (Cf T_api_Plan.vv R R el34 h28)<|Ce 14 R R R R R R (by kernel_rfl) (B9 R fa54_0)<|Ce 15 R R R R R R (by kernel_rfl) (Cd (i:=0) (y:=T_api_Plan.vv x3) R R R (gl_map _ (gl_some h28).2) ld9 R)<|Ao 16 (by kernel_rfl)<|Cv R R R R R R<|Bz hm 0 R fn24 R (K147 _ _) fun r6 ob5 cap3 hm=>Cc (Aw 0 [(96,L47 r6)] R ⟨⟨_,R,.here _ R⟩,trivial⟩ (FzH.refl _))<|Ce 17 R R R R R R (by kernel_rfl) (Av T_api_Pod.vv R Bv)<|Aq tbk [18,19] [] (by kernel_rfl) R R R<|J 10 R R (Bj hm)) fun c4 hm=>A5 (by kernel_rfl)<|Ak hm R (fun h32 hm=>Ag tbk [] R R<|have hm:=Lr hm h22;Rt1 hm R [] R R R) fun h32 hm=>Aj<|Ae<|A9 0 mixed<|Aq tbk [0,1,2,3] [1] (by kernel_rfl) R R R<|Bd hm fun x4 h33 hm=>Ax 4 R R R (by kernel_rfl) (Cf T_api_Plan.vv R R el34 h33)<|Ax 5 R R R (by kernel_rfl) (B9 R fa54_0)<|Ax 6 R R R (by kernel_rfl) (Cd (i:=0) (y:=T_api_Plan.vv x4) R R R (gl_map _ (gl_some h33).2) ld9 R)<|Ao 7 (by kernel_rfl)<|Au R R R<|Bz hm 0 R fn24 R (K147 _ _) fun r7 ob6 cap4 hm=>Cc (Aw 0 [(107,L47 r7)] R ⟨⟨_,R,.here _ R⟩,trivial⟩ (FzH.refl _))<|Ax 8 R R R (by kernel_rfl) (Ai R)<|A5 (by kernel_rfl)<|Ae<|Ag tbk [] R R<|Bn hm (fun _ (_:Unit)=>[(1,.ptr b 0),(3,Z54 (some b2) r3.1 cap),(4,L49 r3.2),(5,.bool free32),(7,Iw i4)]) (fun _ (_:Unit)=>[Q54 (some b2) cap r3.1,X27 b c]) (fun o3 hm h37=>?_) fun j2 _ hm=> ?_
   ·refine Bl (fun zn (zs:Int)=>law26_PlanSafe.l3 r3 i4 r7 zn zs) (fun zs (_:Unit)=>[(1,.ptr b 0),(3,Z54 (some b2) r3.1 cap),(4,L49 r3.2),(5,.bool free32),(7,Iw i4),(8,L47 r7),(9,Iw zs)]) (fun _ (_:Unit)=>[Q54 (some b2) cap r3.1,X27 b c]) _ () (fun _=>R) hm (Af [0,0] R R) fun n3 k2 _ hm=> ?_
    rw [law26_PlanSafe.l3] at hm
    refine Ae<|Ah<|Aa tbk [] 2 R R<|Ab R R (Av T_api_Pod.vv R Bv)<|Ab R R (A4 R R R)<|Ac<|Ak hm R (fun h38 hm=>?_) fun h38 hm=> ?_
    ·refine Aj<|Ae<|Ay<|Ag tbk [] R R<|Ae<|Ag tbk [] R R<|Bw hm (fun met32 (_:Unit)=>[(1,.ptr b 0),(3,Z54 (some b2) r3.1 cap),(4,L49 r3.2),(5,.bool free32),(7,Iw i4),(8,L47 r7),(9,Iw k2),(10,Iw met32)]) (fun _ (_:Unit)=>[Q54 (some b2) cap r3.1,X27 b c]) (fun o4 hm=>?_) fun met32 _ hm=> ?_
     ·refine Bl (fun zn (zs:Int × Int)=>law26_PlanSafe.l4 r3 i4 r7 k2 zn zs.1 zs.2) (fun zs (_:Unit)=>[(1,.ptr b 0),(3,Z54 (some b2) r3.1 cap),(4,L49 r3.2),(5,.bool free32),(7,Iw i4),(8,L47 r7),(9,Iw k2),(10,Iw zs.1),(11,Iw zs.2)]) (fun _ (_:Unit)=>[Q54 (some b2) cap r3.1,X27 b c]) ((0 : Int),(0 : Int)) () (fun _=>R) hm (Af [0,0] R R) fun n4=>Pq fun met2 j4 _ hm=> ?_
      rw [law26_PlanSafe.l4] at hm
      exact Ae<|Ah<|Aa tbk [] 3 R R<|Bd hm fun x5 h41 hm=>Ab R R (Cf T_api_Plan.vv R R el34 h41)<|Ab R R (B9 R fa54_1)<|Ab R R (Cd (i:=0) (y:=T_api_Plan.vv x5) R R R (gl_map _ (gl_some h41).2) ld30 R)<|Ab R R (Av T_api_Move.vv R Cj)<|Ab R R (A4 R R R)<|Ac<|Ak hm R (fun h42 hm=>Aj<|Ae<|Ay<|Ae<|A9 0 mixed<|Aq tbk [0,1] [] (by kernel_rfl) R R R<|Bd hm fun x6 h43 hm=>Ax 2 R R R (by kernel_rfl) (Cf T_api_Plan.vv R R el34 h43)<|Ax 3 R R R (by kernel_rfl) (B9 R fa54_1)<|Ax 4 R R R (by kernel_rfl) (Cd (i:=0) (y:=T_api_Plan.vv x6) R R R (gl_map _ (gl_some h43).2) ld30 R)<|Ax 5 R R R (by kernel_rfl) (Al R)<|Bd hm fun x7 h44 hm=>Ax 6 R R R (by kernel_rfl) (Az T_api_Move.vv R R el30 h44)<|Aq tbk [7,8,9,10] [] (by kernel_rfl) R R R<|Bd hm fun x8 h45 hm=>Ax 11 R R R (by kernel_rfl) (Az T_api_Pod.vv R R el55 h45)<|Aq tbk [12,13,14] [] (by kernel_rfl) R R R<|A5 (by kernel_rfl)<|Ak hm R (fun h46 hm=>A2 tbk [] R R<|A2 tbk [] R R<|Ap ((IntKind.i64.wrap (met2 + (1 : Int))),(IntKind.i64.wrap (j4 + (1 : Int)))) () hm (Af [0,0] R R)) fun h46 hm=>Aj<|A2 tbk [] R R<|Ap (met2,(IntKind.i64.wrap (j4 + (1 : Int)))) () hm (Af [0,0] R R)) fun h42 hm=>A1<|As () hm (Af [0,0] R R)
     exact Ah<|Aa tbk [] 3 R R<|Be hm 6 149 143 R (fun _ K' h47 J hm=>Aa tbk [] 6 R R<|J 5 R R (Bj hm)) (fun _ K' h47 J hm=>Aa tbk [] 2 R R<|Bd hm fun x9 h48 hm=>Bg R R R R R (Az T_api_Pod.vv R R el55 h48)<|Aa tbk [] 3 R R<|J 5 R R (Bj hm)) fun c5 hm=>Ab R R (Al R)<|Be hm 6 156 150 R (fun _ K' h50 J hm=>Aa tbk [] 6 R R<|J 5 R R (Bj hm)) (fun _ K' h50 J hm=>Aa tbk [] 2 R R<|Bd hm fun x10 h51 hm=>Bg R R R R R (Az T_api_Pod.vv R R el55 h51)<|Aa tbk [] 3 R R<|J 5 R R (Bj hm)) fun c6 hm=>Ab R R (Al R)<|Be hm 7 164 157 R (fun _ K' h53 J hm=>Aa tbk [] 7 R R<|J 6 R R (Bj hm)) (fun _ K' h53 J hm=>Aa tbk [] 2 R R<|Bd hm fun x11 h54 hm=>Bg R R R R R (Az T_api_Pod.vv R R el55 h54)<|Aa tbk [] 4 R R<|J 6 R R (Bj hm)) fun c7 hm=>Ac<|Ak hm R (fun h56 hm=>Ag tbk [] R R<|have hm:=Lr hm h37;have hm:=Lr hm h22;Rt1 hm R [] R R R) fun h56 hm=>Aj<|A2 tbk [] R R<|Ap _ () hm (Af [0,0] R R)
    exact A1<|Ar () hm (Af [0,0] R R)
   refine Ag tbk [] R R<|Bn hm (fun _ (_:Unit)=>[(1,.ptr b 0),(3,Z54 (some b2) r3.1 cap),(4,L49 r3.2),(5,.bool free32),(7,Iw i4)]) (fun _ (_:Unit)=>[Q54 (some b2) cap r3.1,X27 b c]) (fun o5 hm h58=>?_) fun j5 _ hm=> ?_
   ·refine Bl (fun zn (zs:Int)=>law26_PlanSafe.l5 c r3 i4 zn zs) (fun zs (_:Unit)=>[(1,.ptr b 0),(3,Z54 (some b2) r3.1 cap),(4,L49 r3.2),(5,.bool free32),(7,Iw i4),(12,Iw zs)]) (fun _ (_:Unit)=>[Q54 (some b2) cap r3.1,X27 b c]) _ () (fun _=>R) hm (Af [0,0] R R) fun n5 k4 _ hm=> ?_
    rw [law26_PlanSafe.l5] at hm
    refine Ae<|Ah<|Aa tbk [] 3 R R<|Bd hm fun x12 h59 hm=>Ab R R (Cf T_api_Plan.vv R R el34 h59)<|Ab R R (B9 R fa54_1)<|Ab R R (Cd (i:=0) (y:=T_api_Plan.vv x12) R R R (gl_map _ (gl_some h59).2) ld30 R)<|Ab R R (Av T_api_Move.vv R Cj)<|Ab R R (A4 R R R)<|Ac<|Ak hm R (fun h60 hm=>?_) fun h60 hm=> ?_
    ·refine Aj<|Ae<|Ay<|Ae<|Ag tbk [] R R<|Bn hm (fun _ (_:Unit)=>[(1,.ptr b 0),(3,Z54 (some b2) r3.1 cap),(4,L49 r3.2),(5,.bool free32),(7,Iw i4),(12,Iw k4)]) (fun _ (_:Unit)=>[Q54 (some b2) cap r3.1,X27 b c]) (fun o6 hm h62=>?_) fun j8 _ hm=> ?_
     ·refine Bl (fun zn (zs:Int)=>law26_PlanSafe.l6 r3 i4 k4 zn zs) (fun zs (_:Unit)=>[(1,.ptr b 0),(3,Z54 (some b2) r3.1 cap),(4,L49 r3.2),(5,.bool free32),(7,Iw i4),(12,Iw k4),(13,Iw zs)]) (fun _ (_:Unit)=>[Q54 (some b2) cap r3.1,X27 b c]) _ () (fun _=>R) hm (Af [0,0] R R) fun n6 j7 _ hm=> ?_
      rw [law26_PlanSafe.l6] at hm
      exact Ae<|Ah<|Aa tbk [] 2 R R<|Ab R R (Cu T_api_Plan.vv R B2)<|Ab R R (A4 R R R)<|Ac<|Ak hm R (fun h63 hm=>Aj<|Ae<|Ay<|Ae<|A9 0 mixed<|Aq tbk [0,1] [] (by kernel_rfl) R R R<|Bd hm fun x13 h64 hm=>Ax 2 R R R (by kernel_rfl) (Cf T_api_Plan.vv R R el34 h64)<|Ax 3 R R R (by kernel_rfl) (B9 R fa54_1)<|Ax 4 R R R (by kernel_rfl) (Cd (i:=0) (y:=T_api_Plan.vv x13) R R R (gl_map _ (gl_some h64).2) ld30 R)<|Ax 5 R R R (by kernel_rfl) (Al R)<|Bd hm fun x14 h65 hm=>Ax 6 R R R (by kernel_rfl) (Az T_api_Move.vv R R el30 h65)<|Aq tbk [7,8,9,10] [] (by kernel_rfl) R R R<|Bd hm fun x15 h66 hm=>Ax 11 R R R (by kernel_rfl) (Cf T_api_Plan.vv R R el34 h66)<|Ax 12 R R R (by kernel_rfl) (B9 R fa54_0)<|Ax 13 R R R (by kernel_rfl) (Cd (i:=0) (y:=T_api_Plan.vv x15) R R R (gl_map _ (gl_some h66).2) ld9 R)<|Ax 14 R R R (by kernel_rfl) (VP.strop R R R)<|A5 (by kernel_rfl)<|Ak hm R (fun h67 hm=>Ag tbk [] R R<|have hm:=Lr hm h62;have hm:=Lr hm h58;have hm:=Lr hm h22;Rt1 hm R [] R R R) fun h67 hm=>Aj<|A2 tbk [] R R<|Ap _ () hm (Af [0,0] R R)) fun h63 hm=>A1<|Ar () hm (Af [0,0] R R)
     exact Ae<|A9 0 mixed<|Aq tbk [0,1,2,3] [1] (by kernel_rfl) R R R<|Bd hm fun x16 h68 hm=>Ax 4 R R R (by kernel_rfl) (Cf T_api_Plan.vv R R el34 h68)<|Ax 5 R R R (by kernel_rfl) (B9 R fa54_1)<|Ax 6 R R R (by kernel_rfl) (Cd (i:=0) (y:=T_api_Plan.vv x16) R R R (gl_map _ (gl_some h68).2) ld30 R)<|Ax 7 R R R (by kernel_rfl) (Al R)<|Bd hm fun x17 h69 hm=>Ax 8 R R R (by kernel_rfl) (Az T_api_Move.vv R R el30 h69)<|Aq tbk [9,10] [] (by kernel_rfl) R R R<|Ao 11 (by kernel_rfl)<|Au R R R<|Am hm 0 R fn23 R (K58 _ _) fun r8 hm=>Ax 12 R R R (by kernel_rfl) (Ai R)<|A5 (by kernel_rfl)<|Ah<|Aa tbk [] 3 R R<|Be hm 8 218 210 R (fun _ K' h71 J hm=>Aa tbk [] 8 R R<|J 7 R R (Bj hm)) (fun _ K' h71 J hm=>Aa tbk [1] 3 R R<|Bd hm fun x18 h72 hm=>Bg R R R R R (Az T_api_Machine.vv R R el22 h72)<|Aa tbk [] 4 R R<|J 7 R R (Bj hm)) fun c8 hm=>Ac<|Ak hm R (fun h74 hm=>Ag tbk [] R R<|have hm:=Lr hm h58;have hm:=Lr hm h22;Rt1 hm R [] R R R) fun h74 hm=>Aj<|A2 tbk [] R R<|Ap _ () hm (Af [0,0] R R)
    exact A1<|Ar () hm (Af [0,0] R R)
   exact A2 tbk [] R R<|Ap _ _ hm (Af [0,0] R R)
  exact A1<|Ar () hm (Af [1] R R)
 refine Ae<|Ag tbk [] R R<|Bn hm (fun _ (_:Unit)=>[(1,.ptr b 0),(4,L49 r3.2),(5,.bool free32)]) (fun _ (_:Unit)=>[X27 b c]) (fun o7 hm h76=>?_) fun j9 _ hm=> ?_
 ·refine Bl (fun zn (zs:Int)=>law26_PlanSafe.l7 c r3 zn zs) (fun zs (_:Unit)=>[(1,.ptr b 0),(4,L49 r3.2),(5,.bool free32),(15,Iw zs)]) (fun _ (_:Unit)=>[X27 b c]) _ () (fun _=>R) hm (Af [0] R R) fun n7 i6 _ hm=> ?_
  rw [law26_PlanSafe.l7] at hm
  exact Ae<|Ah<|Aa tbk [0] 3 R R<|Ab R R (Av T_api_Budget.vv R Cs)<|Ab R R (A4 R R R)<|Ac<|Ak hm R (fun h77 hm=>Aj<|Ae<|Ay<|Ae<|A9 0 mixed<|Aq tbk [0,1,2] [0] (by kernel_rfl) R R R<|Bd hm fun x19 h78 hm=>Ax 3 R R R (by kernel_rfl) (Az T_api_Budget.vv R R el24 h78)<|Aq tbk [4,5,7,8,9] [0] (by kernel_rfl) R R R<|Bd hm fun x20 h79 hm=>Ax 10 R R R (by kernel_rfl) (Az T_api_Budget.vv R R el24 h79)<|Aq tbk [11,12,13] [0] (by kernel_rfl) R R R<|Ao 6 (by kernel_rfl)<|Au R R R<|Am hm 0 R fn25 R (K8 _ _) fun r9 hm=>Ao 14 (by kernel_rfl)<|Au R R R<|Am hm 0 R fn25 R (K8 _ _) fun r10 hm=>Ax 15 R R R (by kernel_rfl) (A4 R R R)<|A5 (by kernel_rfl)<|Ak hm R (fun h82 hm=>Ag tbk [] R R<|have hm:=Lr hm h76;Rt1 hm R [] R R R) fun h82 hm=>Aj<|A2 tbk [] R R<|Ap _ () hm (Af [0] R R)) fun h77 hm=>A1<|Ar () hm (Af [0] R R)
 exact Ah<|Aa tbk [] 3 R R<|Be hm 7 251 244 R (fun _ K' h83 J hm=>Aa tbk [] 7 R R<|J 6 R R (Bj hm)) (fun _ K' h83 J hm=>Aa tbk [0,0] 4 R R<|A7 R R R R R<|Am hm 0 R fn26 R (K28 _ _) fun r11 hm=>Aa tbk [] 2 R R<|J 6 R R (Bj hm)) fun c9 hm=>Ab R R (Al R)<|Be hm 5 257 252 R (fun _ K' h86 J hm=>Aa tbk [] 5 R R<|J 4 R R (Bj hm)) (fun _ K' h86 J hm=>Aa tbk [0] 3 R R<|A7 R R R R R<|Am hm 0 R fn26 R (K28 _ _) fun r12 hm=>Ab R R (Bf false R R R)<|J 4 R R (Bj hm)) fun c10 hm=>Ab R R (Al R)<|Be hm 2 260 258 R (fun _ K' h89 J hm=>A7 R R R R R<|Am hm 0 R fn12 R (K143) fun r13 hm=>Ab R R (Bf true R R R)<|J 1 R R (Bj hm)) (fun _ K' h89 J hm=>Aa tbk [] 2 R R<|J 1 R R (Bj hm)) fun c11 hm=>Ab R R (Ai R)<|Ac<|Rt1 hm R [] R R R

/-! trireme/triremelaw26.PlanBarred -/
def law26_PlanBarred.l3 (c : T_law26_Case) (r3 : List T_api_Move × Bool) (k2 : Int) : Nat → Int → Option (Out (Out (Out Bool Unit) Unit) Unit)
 | 0, _ => none
 | n3 + 1, j4 =>
  if (decide (j4 < (c.Barred.length : Int))) = true then
   (V.gl r3.1 k2).bind fun x4 =>
   (V.gl c.Barred j4).bind fun x5 =>
   if (V.seq x4.To x5) = true then
    some (Out.ret (Out.ret (Out.ret false)))
   else
    law26_PlanBarred.l3 c r3 k2 n3 (i64.wrap (j4 + 1))
  else
   some (Out.go ())
def law26_PlanBarred.l2 (c : T_law26_Case) (i2 : Int) (r3 : List T_api_Move × Bool) : Nat → Int → Option (Out (Out Bool Unit) Unit)
 | 0, _ => none
 | n2 + 1, k2 =>
  if (decide (k2 < (r3.1.length : Int))) = true then
   (law26_PlanBarred.l3 c r3 k2 FU (0 : Int)).bind fun o3 =>
   o3.on fun j5 =>
   (V.gl r3.1 k2).bind fun x6 =>
   (V.gl c.Ms i2).bind fun x7 =>
   if (V.seq x6.To x7.Name) = true then
    some (Out.ret (Out.ret false))
   else
    law26_PlanBarred.l2 c i2 r3 n2 (i64.wrap (k2 + 1))
  else
   some (Out.go ())
def law26_PlanBarred.l1 (c : T_law26_Case) : Nat → Int → Option (Out Bool Unit)
 | 0, _ => none
 | n + 1, i2 =>
  if (decide (i2 < (c.Ms.length : Int))) = true then
   (V.gl c.Ms i2).bind fun x =>
   (plan_One c.Ms c.Bs x.Name c.Barred).bind fun r3 =>
   if (!r3.2) = true then
    (if (decide ((r3.1.length : Int) > 0)) = true then some true else (V.gl c.Ms i2).bind fun x2 =>
    (ref25_Movable c.Bs x2.Name).bind fun r4 =>
    some ((r4.length : Int) == 0)).bind fun c2 =>
    if c2 = true then
     some (Out.ret false)
    else
     law26_PlanBarred.l1 c n (i64.wrap (i2 + 1))
   else
    (V.gl c.Ms i2).bind fun x3 =>
    (ref25_Movable c.Bs x3.Name).bind fun r5 =>
    if ((r3.1.length : Int) != (r5.length : Int)) = true then
     some (Out.ret false)
    else
     (law26_PlanBarred.l2 c i2 r3 FU (0 : Int)).bind fun o2 =>
     o2.on fun j2 =>
     law26_PlanBarred.l1 c n (i64.wrap (i2 + 1))
  else
   some (Out.go ())
def law26_PlanBarred (c : T_law26_Case) : Option Bool :=
 (law26_right c).bind fun r =>
 if (!r) = true then
  (law26_known).bind fun r2 =>
  some r2
 else
  (law26_PlanBarred.l1 c FU (0 : Int)).bind fun o =>
  o.on fun j =>
  (law26_known).bind fun r6 =>
  some r6
theorem law26_PlanBarred_ok (c : T_law26_Case) : VS Tryz.prog 5 (law26_PlanBarred c) [T_law26_Case.vv c] [] .bool N0 := by
 refine A3 [.tmp 2] Tryz.func5 R R R fun r hm=>?_
 unfold law26_PlanBarred at hm
 refine Ah<|Ad R R<|Ba R R fun b=>Ab R R (Ai R)<|Ac<|Ae<|Ah<|Aa tbk [0] 1 R R<|Ad R R<|Am hm 0 R fn11 R (K62 _) fun r hm=>Ab R R (Co R)<|Ac<|Ak hm R (fun h3 hm=>Ah<|Ad R R<|Am hm 0 R fn12 R (K143) fun r2 hm=>Ab R R (Ai R)<|Ac<|Rt1 hm R [] R R R) fun h3 hm=>Aj<|Ae<|Ag tbk [] R R<|Bn hm (fun _ (_:Unit)=>[]) (fun _ (_:Unit)=>[]) (fun o hm h6=>?_) fun j _ hm=> ?_
 ·refine Bl (fun zn (zs:Int)=>law26_PlanBarred.l1 c zn zs) (fun zs (_:Unit)=>[(1,.ptr b 0),(3,Iw zs)]) (fun _ (_:Unit)=>[X27 b c]) _ () (fun _=>R) hm (Af [0] R R) fun n i2 _ hm=> ?_
  rw [law26_PlanBarred.l1] at hm
  refine Ae<|Ah<|Aa tbk [0] 3 R R<|Ab R R (Av T_api_Machine.vv R Bu)<|Ab R R (A4 R R R)<|Ac<|Ak hm R (fun h7 hm=>?_) fun h7 hm=> ?_
  ·refine Aj<|Ae<|Ay<|Ae<|A9 0 mixed<|Aq tbk [0,1,2,3,4,5,6] [0,0,0] (by kernel_rfl) R R R<|Bd hm fun x h8 hm=>Ax 7 R R R (by kernel_rfl) (Az T_api_Machine.vv R R el22 h8)<|Aq tbk [8,9,10,11] [0] (by kernel_rfl) R R R<|Ao 12 (by kernel_rfl)<|Au R R R<|Bz hm 0 R fn13 R (K128 _ _ _ _) fun r3 ob cap hm=>Aq tbk [13,14,15,16,17] [] (by kernel_rfl) R R R<|A5 (by kernel_rfl)<|Ae<|Ag tbk [] R R<|Ak hm R (fun h11 hm=>Ae<|Ae<|A9 0 mixed<|Ax 0 R R R (by kernel_rfl) (Al R)<|Ax 1 R R R (by kernel_rfl) (Cu T_api_Move.vv R Cj)<|Aq tbk [2,3] [] (by kernel_rfl) R R R<|Cr hm [15,14,13,12,11,10,9,8,7,6,5,4,3,2,1,0] 52 40 R (fun _ K' h12 J hm=>Aq tbk [4,5,6,7,8,9,10,11,12,13,14,15] [] (by kernel_rfl) R R R<|J 11 R R (Bj hm)) (fun _ K' h12 J hm=>Aq tbk [4,5,6,7,8] [1,1] (by kernel_rfl) R R R<|Bd hm fun x2 h13 hm=>Ce 9 R R R R R R (by kernel_rfl) (Az T_api_Machine.vv R R el22 h13)<|Aq tbk [10,11] [] (by kernel_rfl) R R R<|Ao 12 (by kernel_rfl)<|Cv R R R R R R<|Bz hm 0 R fn24 R (K147 _ _) fun r4 ob2 cap2 hm=>Cc (Aw 0 [(49,L47 r4)] R ⟨⟨_,R,.here _ R⟩,trivial⟩ (FzH.refl _))<|Ce 13 R R R R R R (by kernel_rfl) (Av T_api_Pod.vv R Bv)<|Aq tbk [14,15] [] (by kernel_rfl) R R R<|J 12 R R (Bj hm)) fun c2 hm=>A5 (by kernel_rfl)<|Ak hm R (fun h17 hm=>Ag tbk [] R R<|have hm:=Lr hm h6;Rt1 hm R [] R R R) fun h17 hm=>Aj<|A1<|A2 tbk [] R R<|Ap _ () hm (Af [1] R R)) fun h11 hm=>Aj<|Ae<|Ae<|A9 0 mixed<|Ax 0 R R R (by kernel_rfl) (Al R)<|Ax 1 R R R (by kernel_rfl) (Cu T_api_Move.vv R Cj)<|Aq tbk [2,3,4,5,6] [1,1] (by kernel_rfl) R R R<|Bd hm fun x3 h18 hm=>Ax 7 R R R (by kernel_rfl) (Az T_api_Machine.vv R R el22 h18)<|Aq tbk [8,9] [] (by kernel_rfl) R R R<|Ao 10 (by kernel_rfl)<|Au R R R<|Bz hm 0 R fn24 R (K147 _ _) fun r5 ob3 cap3 hm=>Cc (Aw 0 [(63,L47 r5)] R ⟨⟨_,R,.here _ R⟩,trivial⟩ (FzH.refl _))<|Ax 11 R R R (by kernel_rfl) (Av T_api_Pod.vv R Bv)<|Ax 12 R R R (by kernel_rfl) (A4 R R R)<|A5 (by kernel_rfl)<|Ak hm R (fun h21 hm=>Ag tbk [] R R<|have hm:=Lr hm h6;Rt1 hm R [] R R R) fun h21 hm=>Aj<|Ag tbk [] R R<|Bn hm (fun _ (_:Unit)=>[(1,.ptr b 0),(3,Iw i2)]) (fun _ (_:Unit)=>[X27 b c]) (fun o2 hm h23=>?_) fun j2 _ hm=> ?_
   ·refine Bl (fun zn (zs:Int)=>law26_PlanBarred.l2 c i2 r3 zn zs) (fun zs (zg:Option Nat)=>[(1,.ptr b 0),(3,Iw i2),(4,Z58 zg r3.1 cap),(6,Iw zs)]) (fun _ (zg:Option Nat)=>[Q58 zg cap r3.1,X27 b c]) _ _ (fun _=>R) hm (Af [0,0] R R) fun n2 k2 ob5 hm=> ?_
    rw [law26_PlanBarred.l2] at hm
    refine Ae<|Ah<|Aa tbk [] 2 R R<|Ab R R (Cu T_api_Move.vv R Cj)<|Ab R R (A4 R R R)<|Ac<|Ak hm R (fun h24 hm=>?_) fun h24 hm=> ?_
    ·refine Aj<|Ae<|Ay<|Ae<|Ag tbk [] R R<|Bn hm (fun _ (gg:Option Nat)=>[(1,.ptr b 0),(3,Iw i2),(4,Z58 gg r3.1 cap),(6,Iw k2)]) (fun _ (gg:Option Nat)=>[Q58 gg cap r3.1,X27 b c]) (fun o3 hm h26=>?_) fun j5 ob8 hm=> ?_
     ·refine Bl (fun zn (zs:Int)=>law26_PlanBarred.l3 c r3 k2 zn zs) (fun zs (zg:Option Nat)=>[(1,.ptr b 0),(3,Iw i2),(4,Z58 zg r3.1 cap),(6,Iw k2),(7,Iw zs)]) (fun _ (zg:Option Nat)=>[Q58 zg cap r3.1,X27 b c]) _ _ (fun _=>R) hm (Af [0,0] R R) fun n3 j4 ob7 hm=> ?_
      rw [law26_PlanBarred.l3] at hm
      refine Ae<|Ah<|Aa tbk [1] 3 R R<|Ab R R (Av VV.str R Bo)<|Ab R R (A4 R R R)<|Ac<|Ak hm R (fun h27 hm=>?_) fun h27 hm=> ?_
      ·refine Aj<|Ae<|Ay<|Ae<|A9 0 mixed<|Aq tbk [0,1] [] (by kernel_rfl) R R R<|Bd hm fun x4 h28 hm=>C2 0 R (gl_pos T_api_Move.vv h28) fun b2 h29=> ?_
       subst h29
       exact Ax 2 R R R (by kernel_rfl) (Cf T_api_Move.vv R R el30 h28)<|Ax 3 R R R (by kernel_rfl) (B9 R fa58_1)<|Ax 4 R R R (by kernel_rfl) (Cd (i:=0) (y:=T_api_Move.vv x4) R R R (gl_map _ (gl_some h28).2) ld9 R)<|Aq tbk [5,6,7] [1] (by kernel_rfl) R R R<|Bd hm fun x5 h30 hm=>Ax 8 R R R (by kernel_rfl) (Az VV.str R R el25 h30)<|Aq tbk [9,10] [] (by kernel_rfl) R R R<|A5 (by kernel_rfl)<|Ak hm R (fun h31 hm=>Ag tbk [] R R<|have hm:=Lr hm h26;have hm:=Lr hm h23;have hm:=Lr hm h6;Rt1 hm R [] R R R) fun h31 hm=>Aj<|A2 tbk [] R R<|Ap _ _ hm (Af [0,0] R R)
      exact A1<|Ar _ hm (Af [0,0] R R)
     refine Ae<|A9 0 mixed<|Aq tbk [0,1] [] (by kernel_rfl) R R R<|Bd hm fun x6 h32 hm=>C2 0 R (gl_pos T_api_Move.vv h32) fun b3 h33=> ?_
     subst h33
     exact Ax 2 R R R (by kernel_rfl) (Cf T_api_Move.vv R R el30 h32)<|Ax 3 R R R (by kernel_rfl) (B9 R fa58_1)<|Ax 4 R R R (by kernel_rfl) (Cd (i:=0) (y:=T_api_Move.vv x6) R R R (gl_map _ (gl_some h32).2) ld9 R)<|Aq tbk [5,6,7] [1] (by kernel_rfl) R R R<|Bd hm fun x7 h34 hm=>Ax 8 R R R (by kernel_rfl) (Az T_api_Machine.vv R R el22 h34)<|Aq tbk [9,10,11] [] (by kernel_rfl) R R R<|A5 (by kernel_rfl)<|Ak hm R (fun h35 hm=>Ag tbk [] R R<|have hm:=Lr hm h23;have hm:=Lr hm h6;Rt1 hm R [] R R R) fun h35 hm=>Aj<|A2 tbk [] R R<|Ap _ _ hm (Af [0,0] R R)
    exact A1<|Ar () hm (Af [1] R R)
   exact A2 tbk [] R R<|Ap _ () hm (Af [0] R R)
  exact A1<|Ar () hm (Af [] R R)
 exact Ah<|Ad R R<|Am hm 0 R fn12 R (K143) fun r6 hm=>Ab R R (Ai R)<|Ac<|Rt1 hm R [] R R R

/-! trireme/triremelaw26.PlanMost -/
def law26_PlanMost (c : T_law26_Case) : Option Bool :=
 (law26_right c).bind fun r =>
 if ((!r) || (decide (c.Most > 30))) = true then
  (law26_known).bind fun r2 =>
  some r2
 else
  (plan_Many c.Ms c.Bs c.L c.Names (max c.Most 0)).bind fun r3 =>
  (plan_Many c.Ms c.Bs c.L c.Names (i64.wrap ((max c.Most 0) + 1))).bind fun r4 =>
  (plan_Many c.Ms c.Bs c.L c.Names (0 : Int)).bind fun r5 =>
  (if ((decide ((r4.1.length : Int) ≥ (r3.1.length : Int))) && (decide ((r4.1.length : Int) ≤ (i64.wrap ((r3.1.length : Int) + 1))))) = true then (V.sl r4.1 none (some (r3.1.length : Int))).bind fun v2 =>
  (ref26_Same r3.1 v2).bind fun r7 =>
  some r7 else some false).bind fun c3 =>
  (if (c3 && ((r5.1.length : Int) == 0)) = true then (ref09_Same ([] : List T_api_Machine) r5.2 ([] : List T_api_Machine) c.Bs).bind fun r8 =>
  some r8 else some false).bind fun c4 =>
  (if c4 = true then (law26_known).bind fun r9 =>
  some r9 else some false).bind fun c5 =>
  some c5
theorem law26_PlanMost_ok (c : T_law26_Case) : VS Tryz.prog 6 (law26_PlanMost c) [T_law26_Case.vv c] [] .bool N0 := by
 refine A3 [.tmp 2] Tryz.func6 R R R fun r hm=>?_
 unfold law26_PlanMost at hm
 refine Ah<|Ad R R<|Ba R R fun b=>Ab R R (Ai R)<|Ac<|Ae<|Ah<|Aa tbk [0] 1 R R<|Ad R R<|Am hm 0 R fn11 R (K62 _) fun r hm=>Aa tbk [] 2 R R<|Cp tbk [0] 4 17 13 R R R R R<|Ac<|Ak hm R (fun h4 hm=>Ah<|Ad R R<|Am hm 0 R fn12 R (K143) fun r2 hm=>Ab R R (Ai R)<|Ac<|Rt1 hm R [] R R R) fun h4 hm=>Aj<|Ah<|Aa tbk [0] 2 R R<|Ab R R (C9 R R)<|Ab R R (Ai R)<|Ac<|Ah<|Aa tbk [0,0,0,0] 9 R R<|Bd hm fun r3 h6 hm=>Ad R R<|Dc 0 R fn16 R (K140 c.Ms c.Bs c.L c.Names (max c.Most (0 : Int)) r3 h6) fun _ _ h39=> ?_
 obtain ⟨ob,cap,ob2,cap2,rfl,rfl⟩:=h39
 refine Aa tbk [] 5 R R<|Ac<|Ah<|Aa tbk [2,2,2,2] 10 R R<|Bd hm fun r4 h9 hm=>Ad R R<|Dc 0 R fn16 R (K140 c.Ms c.Bs c.L c.Names (IntKind.i64.wrap ((max c.Most (0 : Int)) + (1 : Int))) r4 h9) fun _ _ h38=> ?_
 obtain ⟨ob3,cap3,ob4,cap4,rfl,rfl⟩:=h38
 refine Aa tbk [] 5 R R<|Ac<|Ah<|Aa tbk [4,4,4,4] 8 R R<|Bd hm fun r5 h12 hm=>Ad R R<|Dc 0 R fn16 R (K140 c.Ms c.Bs c.L c.Names (0 : Int) r5 h12) fun _ _ h37=> ?_
 obtain ⟨ob5,cap5,ob6,cap6,rfl,rfl⟩:=h37
 exact Aa tbk [] 5 R R<|Ac<|Ae<|B8 (Bb (Aw 4 [(33,L54 r3.1),(4,L54 r3.1)] R ⟨⟨_,R,.here _ R⟩,⟨_,R,.here _ R⟩,trivial⟩ (FzH.refl _)) (Aw 2 [(47,L54 r4.1),(6,L54 r4.1)] R ⟨⟨_,R,.here _ R⟩,⟨_,R,.here _ R⟩,trivial⟩ (FzH.refl _)))<|B8 (Aw 1 [(60,L49 r5.2),(9,L49 r5.2)] R ⟨⟨_,R,.here _ R⟩,⟨_,R,.here _ R⟩,trivial⟩ (FzH.refl _))<|Bq<|Ab R R (Al R)<|Ab R R (Av T_api_Plan.vv R B2)<|Ab R R (Al R)<|Ab R R (Av T_api_Plan.vv R B2)<|Aa tbk [] 2 R R<|C8 7 73 66 R (fun h25 K' J=>Bg R R R R R (Al R)<|Bg R R R R R (Av T_api_Plan.vv R B2)<|Bg R R R R R (Al R)<|Bg R R R R R (Av T_api_Plan.vv R B2)<|Aa tbk [] 3 R R<|J 6 R R R) (fun K' J=>Aa tbk [] 7 R R<|J 6 R R R)<|Ab R R (Al R)<|Be hm 7 81 74 R (fun _ K' h26 J hm=>Aa tbk [] 3 R R<|Bg R R R R R (Av T_api_Plan.vv R B2)<|Bd hm fun v2 h27 hm=>Bg R R R R R (VP.slT R R R el34 h27)<|A7 R R R R R<|Am hm 0 R fn18 R (K142 _ _) fun r7 hm=>Ab R R (Bf true R R R)<|J 6 R R (Bj hm)) (fun _ K' h26 J hm=>Aa tbk [] 7 R R<|J 6 R R (Bj hm)) fun c3 hm=>Ab R R (Al R)<|C8 4 86 82 R (fun h30 K' J=>Bg R R R R R (Al R)<|Bg R R R R R (Cu T_api_Plan.vv R B2)<|Aa tbk [] 2 R R<|J 3 R R R) (fun K' J=>Aa tbk [] 4 R R<|J 3 R R R)<|Ab R R (Al R)<|Be hm 5 92 87 R (fun _ K' h31 J hm=>Aa tbk [3] 3 R R<|A7 R R R R R<|VO.cn hm 0 [.nil 61,.same,.nil 61,.same] R fn19 R (K27 _ _ _ _) fun r8 hm=>Ab R R (Bf true R R R)<|J 4 R R (Bj hm)) (fun _ K' h31 J hm=>Aa tbk [] 5 R R<|J 4 R R (Bj hm)) fun c4 hm=>Ab R R (Al R)<|Be hm 2 95 93 R (fun _ K' h34 J hm=>A7 R R R R R<|Am hm 0 R fn12 R (K143) fun r9 hm=>Ab R R (Bf true R R R)<|J 1 R R (Bj hm)) (fun _ K' h34 J hm=>Aa tbk [] 2 R R<|J 1 R R (Bj hm)) fun c5 hm=>Ab R R (Ai R)<|Ac<|Rt1 hm R [] R R R

end Go.Proofs.YtmpkpnclmihdnaaGreat.M

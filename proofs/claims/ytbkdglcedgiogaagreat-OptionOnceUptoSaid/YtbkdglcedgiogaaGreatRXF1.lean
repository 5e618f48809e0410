/-
  Printed by a program of this session out of the loaded functions: models and their proofs. Own text.
-/
import Derived.Test.YtbkdglcedgiogaaGreatRXF0
namespace Go.Proofs.YtbkdglcedgiogaaGreat.M
open Go Go.Proofs Go.Proofs.YtbkdglcedgiogaaGreat.V
open Go.IntKind (i64)
set_option linter.unusedVariables false
set_option maxRecDepth 20000
set_option maxHeartbeats 4000000
/-! trireme/res.each -/
def res_each_res_Sub_1.l1 (j : Arr5_Int × Arr5_Int) : Nat → Arr5_Int → Int → Option Arr5_Int
 | 0, _, _ => none
 | n + 1, l3, v2 =>
  if (decide (v2 < 5)) = true then
   (V.gl (Arr5_Int.l l3) v2).bind fun x =>
   (V.gl (Arr5_Int.l j.2) v2).bind fun x2 =>
   (res_Sub_1 x x2).bind fun r19 =>
   (V.gl (Arr5_Int.l l3) v2).bind fun x3 =>
   (Arr5_Int.put l3 v2 r19).bind fun l6 =>
   res_each_res_Sub_1.l1 j n l6 (i64.wrap (v2 + 1))
  else
   some l3
def res_each_res_Sub_1 (a : T_api_Res) (b : T_api_Res) (wrong : Int) : Option (T_api_Res × Int) :=
 (res_Right a).bind fun r =>
 (if (!r) = true then some true else (res_Right b).bind fun r2 =>
 some (!r2)).bind fun c =>
 if c = true then
  some ((⟨0, 0, 0, 0, 0⟩ : T_api_Res), 1)
 else
  ((res_row a).bind fun r3 =>
  (res_row b).bind fun r4 =>
  some (r3, r4)).bind fun j =>
  (res_each_res_Sub_1.l1 j FU j.1 (0 : Int)).bind fun l42 =>
  (res_back l42).bind fun r20 =>
  (res_Right r20).bind fun r21 =>
  if r21 = true then
   some (r20, 0)
  else
   some ((⟨0, 0, 0, 0, 0⟩ : T_api_Res), wrong)
theorem K96 (a : T_api_Res) (b : T_api_Res) (wrong : Int) : VS Tryz.prog 160 (res_each_res_Sub_1 a b wrong) [T_api_Res.vv a, T_api_Res.vv b, .clo (.func 196) [] [], Iw wrong] [] (fun r=>.tup [T_api_Res.vv r.1, Iw r.2]) N0 := by
 refine A4 [.cell 8 26,.tmp 9] Dg R R R fun r hm=>?_
 unfold res_each_res_Sub_1 at hm
 refine Ah<|Ad R R<|A9 R R fun b2=>Ad R R<|A9 R R fun b3=>Ad R R<|Av z26 fun b4=>Ab R R (Ai R)<|Ac<|Af<|Ah<|Aa tbk [2] 1 R R<|Ad R R<|An hm 0 R fn96 R (K57 _) fun r hm=>Aa tbk [] 2 R R<|Bc hm 4 21 17 R (fun _ K' h5 J hm=>Aa tbk [] 4 R R<|J 3 R R (Bj hm)) (fun _ K' h5 J hm=>Aa tbk [1] 1 R R<|A8 R R R R R<|An hm 0 R fn96 R (K57 _) fun r2 hm=>Aa tbk [] 2 R R<|J 3 R R (Bj hm)) fun c hm=>Ac<|Ak hm R (fun h8 hm=>Ah<|Ab R R (Bo pl26 R R)<|Ad R R<|Am (i:=0) R R R ld26 R R R<|Ab R R (Ai R)<|Ac<|Rt0 hm R [] (.cons (.cell _ _ _ _ 0 _ _ _ _ R R ld26 R) (.cons (.tmp _ _ R) .nil)) R R) fun h8 hm=>Aj<|Cz hm (fun _ (gg:Nat × Nat)=>[(2,.clo (.func 196) [] []),(3,Iw wrong),(8,.ptr b4 0),(10,.ptr gg.1 0),(11,.ptr gg.2 0)]) (fun j (gg:Nat × Nat)=>[X152 gg.2 j.2,X152 gg.1 j.1,X26 b4 (⟨(0 : Int),(0 : Int),(0 : Int),(0 : Int),(0 : Int)⟩ : T_api_Res)]) (fun o hm=>?_) fun j=>Pq fun b5 b6 hm=> ?_
 ·refine Bb 0 mixed<|Au tbk [0,2] [2,1] (by kernel_rfl) R R R<|?_
  refine B0 [1,4,5] (by kernel_rfl) ⟨?_,?_,?_,trivial⟩
  ·refine Aq R R R<|An hm 0 R fn125 R (K56 _) fun r3 hm=> ?_
   refine B0 [3,4,5] (by kernel_rfl) ⟨?_,?_,?_,trivial⟩
   ·refine Aq R R R<|An hm 0 R fn125 R (K56 _) fun r4 hm=> ?_
    refine B0 [4,5] (by kernel_rfl) ⟨?_,?_,trivial⟩
    ·exact Aq R R R<|Av z152 fun b7=>Ao 5 (by kernel_rfl)<|Aq R R R<|Av z152 fun b8=>Ao 6 (by kernel_rfl)<|Aq R R R<|Am (i:=1) R R R ld152 R R R<|Ao 7 (by kernel_rfl)<|Aq R R R<|Am (i:=0) R R R ld152 R R R<|A5 (by kernel_rfl)<|As (b7,b8) hm (Ae [0,0,0] R R)
    ·exact Aq R R R<|Av z152 fun b9=>Ao 4 (by kernel_rfl)<|Aq R R R<|Av z152 fun b10=>Ao 6 (by kernel_rfl)<|Aq R R R<|Am (i:=0) R R R ld152 R R R<|Ao 7 (by kernel_rfl)<|Aq R R R<|Am (i:=1) R R R ld152 R R R<|A5 (by kernel_rfl)<|As (b10,b9) hm (Ae [1,0,0] R R)
   ·refine Aq R R R<|Av z152 fun b11=> ?_
    refine B0 [3,5] (by kernel_rfl) ⟨?_,?_,trivial⟩
    ·exact Aq R R R<|An hm 0 R fn125 R (K56 _) fun r5 hm=>Ao 5 (by kernel_rfl)<|Aq R R R<|Av z152 fun b12=>Ao 6 (by kernel_rfl)<|Aq R R R<|Am (i:=1) R R R ld152 R R R<|Ao 7 (by kernel_rfl)<|Aq R R R<|Am (i:=0) R R R ld152 R R R<|A5 (by kernel_rfl)<|As (b11,b12) hm (Ae [0,0,0] R R)
    ·exact Aq R R R<|Av z152 fun b13=>Ao 3 (by kernel_rfl)<|Aq R R R<|An hm 0 R fn125 R (K56 _) fun r6 hm=>Ao 6 (by kernel_rfl)<|Aq R R R<|Am (i:=1) R R R ld152 R R R<|Ao 7 (by kernel_rfl)<|Aq R R R<|Am (i:=0) R R R ld152 R R R<|A5 (by kernel_rfl)<|As (b11,b13) hm (Ae [0,0,0] R R)
   ·refine Aq R R R<|Av z152 fun b14=> ?_
    refine B0 [3,4] (by kernel_rfl) ⟨?_,?_,trivial⟩
    ·exact Aq R R R<|An hm 0 R fn125 R (K56 _) fun r7 hm=>Ao 4 (by kernel_rfl)<|Aq R R R<|Av z152 fun b15=>Ao 6 (by kernel_rfl)<|Aq R R R<|Am (i:=0) R R R ld152 R R R<|Ao 7 (by kernel_rfl)<|Aq R R R<|Am (i:=1) R R R ld152 R R R<|A5 (by kernel_rfl)<|As (b15,b14) hm (Ae [1,0,0] R R)
    ·exact Aq R R R<|Av z152 fun b16=>Ao 3 (by kernel_rfl)<|Aq R R R<|An hm 0 R fn125 R (K56 _) fun r8 hm=>Ao 6 (by kernel_rfl)<|Aq R R R<|Am (i:=0) R R R ld152 R R R<|Ao 7 (by kernel_rfl)<|Aq R R R<|Am (i:=1) R R R ld152 R R R<|A5 (by kernel_rfl)<|As (b16,b14) hm (Ae [1,0,0] R R)
  ·refine Aq R R R<|Av z152 fun b17=> ?_
   refine B0 [1,5] (by kernel_rfl) ⟨?_,?_,trivial⟩
   ·refine Aq R R R<|An hm 0 R fn125 R (K56 _) fun r9 hm=> ?_
    refine B0 [3,5] (by kernel_rfl) ⟨?_,?_,trivial⟩
    ·exact Aq R R R<|An hm 0 R fn125 R (K56 _) fun r10 hm=>Ao 5 (by kernel_rfl)<|Aq R R R<|Av z152 fun b18=>Ao 6 (by kernel_rfl)<|Aq R R R<|Am (i:=1) R R R ld152 R R R<|Ao 7 (by kernel_rfl)<|Aq R R R<|Am (i:=0) R R R ld152 R R R<|A5 (by kernel_rfl)<|As (b17,b18) hm (Ae [0,0,0] R R)
    ·exact Aq R R R<|Av z152 fun b19=>Ao 3 (by kernel_rfl)<|Aq R R R<|An hm 0 R fn125 R (K56 _) fun r11 hm=>Ao 6 (by kernel_rfl)<|Aq R R R<|Am (i:=1) R R R ld152 R R R<|Ao 7 (by kernel_rfl)<|Aq R R R<|Am (i:=0) R R R ld152 R R R<|A5 (by kernel_rfl)<|As (b17,b19) hm (Ae [0,0,0] R R)
   ·exact Aq R R R<|Av z152 fun b20=>Ao 1 (by kernel_rfl)<|Aq R R R<|An hm 0 R fn125 R (K56 _) fun r12 hm=>Ao 3 (by kernel_rfl)<|Aq R R R<|An hm 0 R fn125 R (K56 _) fun r13 hm=>Ao 6 (by kernel_rfl)<|Aq R R R<|Am (i:=1) R R R ld152 R R R<|Ao 7 (by kernel_rfl)<|Aq R R R<|Am (i:=0) R R R ld152 R R R<|A5 (by kernel_rfl)<|As (b17,b20) hm (Ae [0,0,0] R R)
  ·refine Aq R R R<|Av z152 fun b21=> ?_
   refine B0 [1,4] (by kernel_rfl) ⟨?_,?_,trivial⟩
   ·refine Aq R R R<|An hm 0 R fn125 R (K56 _) fun r14 hm=> ?_
    refine B0 [3,4] (by kernel_rfl) ⟨?_,?_,trivial⟩
    ·exact Aq R R R<|An hm 0 R fn125 R (K56 _) fun r15 hm=>Ao 4 (by kernel_rfl)<|Aq R R R<|Av z152 fun b22=>Ao 6 (by kernel_rfl)<|Aq R R R<|Am (i:=0) R R R ld152 R R R<|Ao 7 (by kernel_rfl)<|Aq R R R<|Am (i:=1) R R R ld152 R R R<|A5 (by kernel_rfl)<|As (b22,b21) hm (Ae [1,0,0] R R)
    ·exact Aq R R R<|Av z152 fun b23=>Ao 3 (by kernel_rfl)<|Aq R R R<|An hm 0 R fn125 R (K56 _) fun r16 hm=>Ao 6 (by kernel_rfl)<|Aq R R R<|Am (i:=0) R R R ld152 R R R<|Ao 7 (by kernel_rfl)<|Aq R R R<|Am (i:=1) R R R ld152 R R R<|A5 (by kernel_rfl)<|As (b23,b21) hm (Ae [1,0,0] R R)
   ·exact Aq R R R<|Av z152 fun b24=>Ao 1 (by kernel_rfl)<|Aq R R R<|An hm 0 R fn125 R (K56 _) fun r17 hm=>Ao 3 (by kernel_rfl)<|Aq R R R<|An hm 0 R fn125 R (K56 _) fun r18 hm=>Ao 6 (by kernel_rfl)<|Aq R R R<|Am (i:=0) R R R ld152 R R R<|Ao 7 (by kernel_rfl)<|Aq R R R<|Am (i:=1) R R R ld152 R R R<|A5 (by kernel_rfl)<|As (b24,b21) hm (Ae [1,0,0] R R)
 refine Af<|Ag tbk [] R R<|Bx hm (fun _ (_:Unit)=>[(3,Iw wrong),(8,.ptr b4 0),(10,.ptr b5 0)]) (fun l42 (_:Unit)=>[X152 b5 l42,X26 b4 (⟨(0 : Int),(0 : Int),(0 : Int),(0 : Int),(0 : Int)⟩ : T_api_Res)]) (fun o2 hm=>?_) fun l42 _ hm=> ?_
 ·refine Bh (fun zn (zs:Arr5_Int × Int)=>res_each_res_Sub_1.l1 j zn zs.1 zs.2) (fun zs (_:Unit)=>[(2,.clo (.func 196) [] []),(3,Iw wrong),(8,.ptr b4 0),(10,.ptr b5 0),(11,.ptr b6 0),(27,Iw zs.2)]) (fun zs (_:Unit)=>[X152 b6 j.2,X152 b5 zs.1,X26 b4 (⟨(0 : Int),(0 : Int),(0 : Int),(0 : Int),(0 : Int)⟩ : T_api_Res)]) (j.1,(0 : Int)) () (fun _=>R) hm (Ae [0,0,0] R R) fun n=>Pq fun l3 v2 _ hm=> ?_
  rw [res_each_res_Sub_1.l1] at hm
  exact Ag tbk [] R R<|Af<|Ak hm R (fun h49 hm=>Aj<|Af<|Aw<|Ag tbk [] R R<|B8 (Ck [1,0,0] R)<|Bb 1 mixed<|Au tbk [0,1,2] [] (by kernel_rfl) R R R<|Bd hm fun x h50 hm=>A6 3 R R R (by kernel_rfl) (Cl R R ar152 (gl_pos2 h50).1 (gl_pos2 h50).2)<|A6 5 R R R (by kernel_rfl) (Al R)<|Bd hm fun x2 h51 hm=>A6 6 R R R (by kernel_rfl) (Cl R R ar152 (gl_pos2 h51).1 (gl_pos2 h51).2)<|A6 7 R R R (by kernel_rfl) (C9 0 (f:=(VV.int .i64)) (l:=Arr5_Int.l j.2) R R ld3 R h51)<|Ao 4 (by kernel_rfl)<|Aq R R R<|Dc (C9 0 (f:=(VV.int .i64)) (l:=Arr5_Int.l l3) R R ld3 R h50)<|Ao 8 (by kernel_rfl)<|Aq R R R<|An hm 0 R fn196 R (K95 _ _) fun r19 hm=>Bd hm fun x3 h53 hm=>A6 9 R R R (by kernel_rfl) (Cl R R ar152 (gl_pos2 h53).1 (gl_pos2 h53).2)<|Ao 10 (by kernel_rfl)<|Bd hm fun l6 h54 hm=>Aq R R R<|VO.storeA 0 (f:=(VV.int .i64)) (l:=Arr5_Int.l l3) R R R ld3 R R (Arr5_Int.put_some h54)<|A5 (by kernel_rfl)<|A1 tbk [] R R<|Ap (l6,(IntKind.i64.wrap (v2 + (1 : Int)))) () hm (Ae [1,0,0] R R)) fun h49 hm=>A0<|As () hm (Ae [1,1] R R)
 exact Af<|Ah<|Aa tbk [0] 1 R R<|Ad R R<|An hm 0 R fn179 R (K88 _) fun r20 hm=>Ad R R<|Av z26 fun b25=>Ad R R<|Am (i:=0) R R R ld26 R R R<|Ac<|Ah<|Aa tbk [0] 1 R R<|Ad R R<|An hm 0 R fn96 R (K57 _) fun r21 hm=>Ac<|Ak hm R (fun h58 hm=>Ah<|Aa tbk [0] 1 R R<|Ad R R<|Am (i:=2) R R R ld26 R R R<|Ab R R (Ai R)<|Ac<|Rt0 hm R [] (.cons (.cell _ _ _ _ 2 _ _ _ _ R R ld26 R) (.cons (.tmp _ _ R) .nil)) R R) fun h58 hm=>Aj<|Ah<|Ab R R (Bo pl26 R R)<|Ab R R (Al R)<|Ad R R<|Am (i:=2) R R R ld26 R R R<|Ab R R (Ai R)<|Ac<|Rt0 hm R [] (.cons (.cell _ _ _ _ 2 _ _ _ _ R R ld26 R) (.cons (.tmp _ _ R) .nil)) R R

/-! trireme/res.Sub -/
def res_Sub (a : T_api_Res) (b : T_api_Res) : Option (T_api_Res × Int) :=
 (res_each_res_Sub_1 a b (11 : Int)).bind fun r =>
 some (r.1, r.2)
theorem K97 (a : T_api_Res) (b : T_api_Res) : VS Tryz.prog 187 (res_Sub a b) [T_api_Res.vv a, T_api_Res.vv b] [] (fun r=>.tup [T_api_Res.vv r.1, Iw r.2]) N0 := by
 refine A4 [.cell 4 26,.tmp 5] Tryz.func187 R R R fun r hm=>?_
 unfold res_Sub at hm
 exact Ah<|Ad R R<|A9 R R fun b2=>Ad R R<|A9 R R fun b3=>Ad R R<|Av z26 fun b4=>Ab R R (Ai R)<|Ac<|Ah<|Aa tbk [2,1] 2 R R<|Ad R R<|An hm 0 R fn160 R (K96 _ _ _) fun r hm=>Aa tbk [] 2 R R<|Ad R R<|Am (i:=0) R R R ld26 R R R<|Ab R R (Ai R)<|Ac<|Rt0 hm R [] (.cons (.cell _ _ _ _ 0 _ _ _ _ R R ld26 R) (.cons (.tmp _ _ R) .nil)) R R

/-! trireme/yard.Left -/
def yard_Left (m : T_api_Machine) (bs : List T_api_Bound) : Option T_api_Res :=
 (yard_Used bs m.Name).bind fun r =>
 if (r.2 != 0) = true then
  some (⟨0, 0, 0, 0, 0⟩ : T_api_Res)
 else
  (res_Least r.1 m.Has).bind fun r2 =>
  (res_Sub m.Has r2).bind fun r3 =>
  some r3.1
theorem K98 (m : T_api_Machine) (bs : List T_api_Bound) : VS Tryz.prog 174 (yard_Left m bs) [T_api_Machine.vv m, L50 bs] [] (fun r=>T_api_Res.vv r) N0 := by
 refine A4 [.cell 4 26] Tryz.func174 R R R fun r hm=>?_
 unfold yard_Left at hm
 refine Ah<|Ad R R<|A9 R R fun b=>Ad R R<|Av z26 fun b2=>Ac<|Ah<|Aa tbk [1] 3 R R<|Ad R R<|An hm 0 R fn111 R (K91 _ _) fun r hm=>Aa tbk [] 3 R R<|Ad R R<|Av z26 fun b3=>Ad R R<|Am (i:=0) R R R ld26 R R R<|Ab R R (Ai R)<|Ac<|Af<|Ag tbk [] R R<|Ak hm R (fun h5 hm=>Ah<|Ab R R (Bo pl26 R R)<|Ad R R<|Am (i:=1) R R R ld26 R R R<|Ac<|Rt0 hm R [] (.cons (.cell _ _ _ _ 1 _ _ _ _ R R ld26 R) .nil) R R) fun h5 hm=>Aj<|Af<|Bb 0 mixed<|Au tbk [0,1,2,3,4] [2,0,2] (by kernel_rfl) R R R<|?_
 refine B0 [5,10] (by kernel_rfl) ⟨?_,?_,trivial⟩
 ·refine Aq R R R<|An hm 0 R fn188 R (K94 _ _) fun r2 hm=> ?_
  refine B0 [6,10] (by kernel_rfl) ⟨?_,?_,trivial⟩
  ·exact Aq R R R<|An hm 0 R fn187 R (K97 _ _) fun r3 hm=>Au tbk [7,8,9] [] (by kernel_rfl) R R R<|Ao 10 (by kernel_rfl)<|Aq R R R<|Av z26 fun b4=>Ao 11 (by kernel_rfl)<|Aq R R R<|Am (i:=0) R R R ld26 R R R<|A6 12 R R R (by kernel_rfl) (Ai R)<|A5 (by kernel_rfl)<|Ah<|Aa tbk [0] 1 R R<|Ad R R<|Am (i:=2) R R R ld26 R R R<|Ac<|Rt0 hm R [] (.cons (.cell _ _ _ _ 2 _ _ _ _ R R ld26 R) .nil) R R
  ·exact Aq R R R<|Av z26 fun b5=>Ao 6 (by kernel_rfl)<|Aq R R R<|An hm 0 R fn187 R (K97 _ _) fun r4 hm=>Au tbk [7,8,9] [] (by kernel_rfl) R R R<|Ao 11 (by kernel_rfl)<|Aq R R R<|Am (i:=0) R R R ld26 R R R<|A6 12 R R R (by kernel_rfl) (Ai R)<|A5 (by kernel_rfl)<|Ah<|Aa tbk [0] 1 R R<|Ad R R<|Am (i:=2) R R R ld26 R R R<|Ac<|Rt0 hm R [] (.cons (.cell _ _ _ _ 2 _ _ _ _ R R ld26 R) .nil) R R
 ·exact Aq R R R<|Av z26 fun b6=>Ao 5 (by kernel_rfl)<|Aq R R R<|An hm 0 R fn188 R (K94 _ _) fun r5 hm=>Ao 6 (by kernel_rfl)<|Aq R R R<|An hm 0 R fn187 R (K97 _ _) fun r6 hm=>Au tbk [7,8,9] [] (by kernel_rfl) R R R<|Ao 11 (by kernel_rfl)<|Aq R R R<|Am (i:=0) R R R ld26 R R R<|A6 12 R R R (by kernel_rfl) (Ai R)<|A5 (by kernel_rfl)<|Ah<|Aa tbk [0] 1 R R<|Ad R R<|Am (i:=2) R R R ld26 R R R<|Ac<|Rt0 hm R [] (.cons (.cell _ _ _ _ 2 _ _ _ _ R R ld26 R) .nil) R R

/-! trireme/res.Fits -/
def res_Fits (a : T_api_Res) (b : T_api_Res) : Option Bool :=
 (res_Sub b a).bind fun r =>
 some (r.2 == 0)
theorem K99 (a : T_api_Res) (b : T_api_Res) : VS Tryz.prog 173 (res_Fits a b) [T_api_Res.vv a, T_api_Res.vv b] [] .bool N0 := by
 refine A4 [.tmp 4] Tryz.func173 R R R fun r hm=>?_
 unfold res_Fits at hm
 exact Ah<|Ad R R<|A9 R R fun b2=>Ad R R<|A9 R R fun b3=>Ab R R (Ai R)<|Ac<|Ah<|Aa tbk [0,1] 2 R R<|Ad R R<|An hm 0 R fn187 R (K97 _ _) fun r hm=>Aa tbk [] 3 R R<|Ad R R<|Av z26 fun b4=>Ad R R<|Am (i:=0) R R R ld26 R R R<|Ab R R (Ai R)<|Ac<|Ag tbk [] R R<|Rt1 hm R [] R R R

/-! trireme/suit.common -/
def suit_common.l1 : Nat → (List Int) → (List Int) → Option (Out Bool Unit)
 | 0, _, _ => none
 | n + 1, a3, b3 =>
  if ((decide ((a3.length : Int) > 0)) && (decide ((b3.length : Int) > 0))) = true then
   (V.gl a3 (0 : Int)).bind fun x =>
   (V.gl b3 (0 : Int)).bind fun x2 =>
   if (x == x2) = true then
    some (Out.ret true)
   else
    (V.gl a3 (0 : Int)).bind fun x3 =>
    (V.gl b3 (0 : Int)).bind fun x4 =>
    if (decide (x3 < x4)) = true then
     (V.sl a3 (some 1) none).bind fun v =>
     suit_common.l1 n v b3
    else
     (V.sl b3 (some 1) none).bind fun v2 =>
     suit_common.l1 n a3 v2
  else
   some (Out.go ())
def suit_common (a : List Int) (b : List Int) : Option Bool :=
 (suit_common.l1 FU a b).bind fun o =>
 o.on fun j =>
 some false
theorem K100 (a : List Int) (b : List Int) : VS Tryz.prog 175 (suit_common a b) [L3 a, L3 b] [] .bool N0 := by
 refine A4 [.tmp 4] Tryz.func175 R R R fun r hm=>?_
 unfold suit_common at hm
 refine Ag tbk [] R R<|VW.jo hm (fun _ (_:Unit)=>[]) (fun _ (_:Unit)=>[]) (fun o hm h2=>?_) fun j _ hm=> ?_
 ·refine Bh (fun zn (zs:List Int × List Int)=>suit_common.l1 zn zs.1 zs.2) (fun zs (_:Unit)=>[(0,L3 zs.1),(1,L3 zs.2)]) (fun _ (_:Unit)=>[]) (a,b) () (fun _=>R) hm (Ae [] R R) fun n=>Pq fun a3 b3 _ hm=> ?_
  rw [suit_common.l1] at hm
  exact Af<|Ah<|Ab R R (Al R)<|Ab R R (Ax (VV.int .i64) R Bz)<|Aa tbk [] 2 R R<|De 4 12 8 R (fun h3 K' J=>Bm R R R R R (Al R)<|Bm R R R R R (Ax (VV.int .i64) R Bz)<|Aa tbk [] 2 R R<|J 3 R R R) (fun K' J=>Aa tbk [] 4 R R<|J 3 R R R)<|Ac<|Ak hm R (fun h4 hm=>Aj<|Aw<|Aw<|Af<|Bb 0 mixed<|A6 0 R R R (by kernel_rfl) (Al R)<|Bd hm fun x h5 hm=>A6 1 R R R (by kernel_rfl) (A3 (VV.int .i64) R R el41 h5)<|Au tbk [2,3] [] (by kernel_rfl) R R R<|Bd hm fun x2 h6 hm=>A6 4 R R R (by kernel_rfl) (A3 (VV.int .i64) R R el41 h6)<|Au tbk [5,6,7] [] (by kernel_rfl) R R R<|A5 (by kernel_rfl)<|Ak hm R (fun h7 hm=>Ag tbk [] R R<|have hm:=Lr hm h2;Rt1 hm R [] R R R) fun h7 hm=>Af<|Bb 0 mixed<|A6 0 R R R (by kernel_rfl) (Al R)<|Bd hm fun x3 h8 hm=>A6 1 R R R (by kernel_rfl) (A3 (VV.int .i64) R R el41 h8)<|Au tbk [2,3] [] (by kernel_rfl) R R R<|Bd hm fun x4 h9 hm=>A6 4 R R R (by kernel_rfl) (A3 (VV.int .i64) R R el41 h9)<|Au tbk [5,6,7] [] (by kernel_rfl) R R R<|A5 (by kernel_rfl)<|Ak hm R (fun h10 hm=>Bk<|Ab R R (Al R)<|Bd hm fun v h11 hm=>Ab R R (Dk R R R el41 h11)<|Ab R R (Ai R)<|Ac<|Ap (v,b3) () hm (Ae [] R R)) fun h10 hm=>Bk<|Ab R R (Al R)<|Bd hm fun v2 h12 hm=>Ab R R (Dk R R R el41 h12)<|Ab R R (Ai R)<|Ac<|Ap (a3,v2) () hm (Ae [] R R)) fun h4 hm=>A0<|Ar () hm (Ae [] R R)
 exact Ag tbk [] R R<|Rt1 hm R [] R R R

/-! trireme/suit.Room -/
def suit_Room.l1 (p : T_api_Pod) : List T_api_Pod → Nat → Option (Out Int Unit)
 | [], k => some (Out.go ())
 | x :: l, k =>
  (suit_common p.Ports x.Ports).bind fun r5 =>
  if r5 = true then
   some (Out.ret 3)
  else
   suit_Room.l1 p l (k + 1)
def suit_Room (m : T_api_Machine) (bs : List T_api_Bound) (p : T_api_Pod) : Option Int :=
 (suit_others bs p.Name).bind fun r =>
 (yard_Left m r).bind fun r2 =>
 (res_Fits p.Need r2).bind fun r3 =>
 if (!r3) = true then
  some 2
 else
  (yard_On r m.Name).bind fun r4 =>
  (suit_Room.l1 p r4 0).bind fun o =>
  o.on fun j =>
  some 0
theorem K101 (m : T_api_Machine) (bs : List T_api_Bound) (p : T_api_Pod) : VS Tryz.prog 157 (suit_Room m bs p) [T_api_Machine.vv m, L50 bs, T_api_Pod.vv p] [] Iw N0 := by
 refine A4 [.tmp 6] Tryz.func157 R R R fun r hm=>?_
 unfold suit_Room at hm
 refine Ah<|Ad R R<|A9 R R fun b=>Ad R R<|A9 R R fun b2=>Ab R R (Ai R)<|Ac<|Ah<|Aa tbk [0] 3 R R<|Ad R R<|Cc hm 0 R fn172 R (K83 _ _) fun r ob cap hm=>Bp (Az 0 [(13,L50 r)] R ⟨⟨_,R,.here _ R⟩,trivial⟩ (FzH.refl _))<|Ab R R (Ai R)<|Ac<|Af<|Af<|Bb 0 mixed<|Au tbk [0,1,2,3] [0,1] (by kernel_rfl) R R R<|Ao 4 (by kernel_rfl)<|Aq R R R<|An hm 0 R fn174 R (K98 _ _) fun r2 hm=>Ao 5 (by kernel_rfl)<|Aq R R R<|An hm 0 R fn173 R (K99 _ _) fun r3 hm=>A6 6 R R R (by kernel_rfl) (Cq R)<|A5 (by kernel_rfl)<|Ak hm R (fun h7 hm=>Ag tbk [] R R<|Rt1 hm R [] R R R) fun h7 hm=>Aj<|Af<|Ah<|Aa tbk [1] 3 R R<|Ad R R<|Cc hm 0 R fn139 R (K84 _ _) fun r4 ob2 cap2 hm=>Bp (Az 0 [(24,L48 r4)] R ⟨⟨_,R,.here _ R⟩,trivial⟩ (FzH.refl _))<|Ab R R (Ax T_api_Pod.vv R Br)<|Ab R R (Al R)<|Ac<|Ce 24 R fun h12=>Bq hm (fun _ (_:Unit)=>[]) (fun _ (_:Unit)=>[]) (fun o hm h11=>?_) fun j _ hm=> ?_
 ·refine Cp (r4) (fun zl zk (zs:Unit)=>suit_Room.l1 p zl zk) (fun k _ (_:Unit)=>[(5,.ptr b2 0),(24,L48 r4),(25,Iw (r4.length : Int)),(26,Iw (k : Int))]) (fun _ _ (_:Unit)=>[X48 b2 p]) () () hm (Ae [0] R R) (fun k _ _ hk hm=>?_) fun k x l _ _ h13 hm=> ?_
  ·rw [suit_Room.l1] at hm
   exact Ag tbk [] R R<|Af<|Ca R (k_end hk)<|A0<|Ar () hm (Ae [] R R)
  rw [suit_Room.l1] at hm
  exact Ag tbk [] R R<|Af<|B9 R (k_lt h13)<|Aj<|Af<|Aw<|Ah<|Ab R R (Cj T_api_Pod.vv R R el24 h13)<|Ab R R (Bn R ld48 R)<|Ad R R<|Av z48 fun b3=>Ad R R<|Am (i:=0) R R R ld48 R R R<|Ac<|Ah<|Aa tbk [1,0] 4 R R<|Ad R R<|An hm 0 R fn175 R (K100 _ _) fun r5 hm=>Ac<|Ak hm R (fun h16 hm=>Ag tbk [] R R<|have hm:=Lr hm h11;Rt1 hm R [] R R R) fun h16 hm=>Aj<|A1 tbk [] R R<|Ap () () hm (Bl [1] R ⟨R,R,R,congrArg some (k_next h13 h12),trivial⟩)
 exact Ag tbk [] R R<|Rt1 hm R [] R R R

/-! trireme/suit.Suits -/
def suit_Suits (m : T_api_Machine) (bs : List T_api_Bound) (p : T_api_Pod) : Option Int :=
 (suit_Place m p).bind fun r =>
 if (r == 1) = true then
  some r
 else
  if (r == 4) = true then
   some r
  else
   if (r == 5) = true then
    some r
   else
    if (r == 6) = true then
     some r
    else
     (suit_Room m bs p).bind fun r2 =>
     some r2
theorem K102 (m : T_api_Machine) (bs : List T_api_Bound) (p : T_api_Pod) : VS Tryz.prog 137 (suit_Suits m bs p) [T_api_Machine.vv m, L50 bs, T_api_Pod.vv p] [] Iw N0 := by
 refine A4 [.tmp 6] Tryz.func137 R R R fun r hm=>?_
 unfold suit_Suits at hm
 exact Ah<|Ad R R<|A9 R R fun b=>Ad R R<|A9 R R fun b2=>Ab R R (Ai R)<|Ac<|Ah<|Aa tbk [1,0] 2 R R<|Ad R R<|An hm 0 R fn156 R (K82 _ _) fun r hm=>Ab R R (Ai R)<|Ac<|Af<|Ag tbk [] R R<|Aw<|Af<|Aw<|Aw<|Aw<|Af<|Af<|Ag tbk [] R R<|Ak hm R (fun h4 hm=>A0<|Af<|Ag tbk [] R R<|Rt1 hm R [] R R R) fun h4 hm=>Aj<|Af<|Ag tbk [] R R<|Ak hm R (fun h5 hm=>A0<|Af<|Ag tbk [] R R<|Rt1 hm R [] R R R) fun h5 hm=>Aj<|Af<|Ag tbk [] R R<|Ak hm R (fun h6 hm=>Aj<|B9 R h6<|A0<|Af<|Ag tbk [] R R<|Rt1 hm R [] R R R) fun h6 hm=>A1 tbk [] R R<|Ak hm R (fun h7 hm=>A0<|Af<|Ag tbk [] R R<|Rt1 hm R [] R R R) fun h7 hm=>Aj<|A0<|Ah<|Aa tbk [1,0] 3 R R<|Ad R R<|An hm 0 R fn157 R (K101 _ _ _) fun r2 hm=>Ab R R (Ai R)<|Ac<|Rt1 hm R [] R R R

/-! trireme/apart.zones -/
def apart_zones.l1 : List T_api_Machine → Nat → (List (ByteArray × ByteArray)) → Option (List (ByteArray × ByteArray))
 | [], k, out2 => some out2
 | x :: l, k, out2 =>
  (labels_Get x.Labels (⟨#[122, 111, 110, 101]⟩ : ByteArray)).bind fun r =>
  if r.2 = true then
   apart_zones.l1 l (k + 1) (V.mp out2 x.Name r.1)
  else
   apart_zones.l1 l (k + 1) out2
def apart_zones (ms : List T_api_Machine) : Option (List (ByteArray × ByteArray)) :=
 (apart_zones.l1 ms 0 ([] : List (ByteArray × ByteArray))).bind fun out32 =>
 some out32
theorem K103 (ms : List T_api_Machine) : VS1 Tryz.prog 176 (apart_zones ms) [L30 ms] [] (fun r b_0=>.map b_0) (fun r b_0=>[.map b_0 (List.map (pf VV.str VV.str) r)]) := by
 refine VS1.run [.tmp 2] Tryz.func176 R R R fun r hm=>?_
 unfold apart_zones at hm
 refine Ag tbk [] R R<|Ah<|Ad R R<|Df fun b=>Ab R R (Ai R)<|Ac<|Af<|Ah<|Ab R R (Al R)<|Ab R R (Ax T_api_Machine.vv R B2)<|Ab R R (Al R)<|Ac<|Ce 9 R fun h4=>Bx hm (fun _ (_:Unit)=>[(3,.map b)]) (fun out32 (_:Unit)=>[.map b (List.map (pf VV.str VV.str) out32)]) (fun o hm=>?_) fun out32 _ hm=> ?_
 ·refine Cp (ms) (fun zl zk (zs:List (ByteArray × ByteArray))=>apart_zones.l1 zl zk zs) (fun k _ (_:Unit)=>[(3,.map b),(9,L30 ms),(10,Iw (ms.length : Int)),(11,Iw (k : Int))]) (fun _ zs (_:Unit)=>[.map b (List.map (pf VV.str VV.str) zs)]) _ () hm (Ae [0] R R) (fun k out2 _ hk hm=>?_) fun k x l out2 _ h5 hm=> ?_
  ·rw [apart_zones.l1] at hm
   exact Ag tbk [] R R<|Af<|Ca R (k_end hk)<|A0<|As () hm (Ae [0] R R)
  rw [apart_zones.l1] at hm
  exact Ag tbk [] R R<|Af<|B9 R (k_lt h5)<|Aj<|Af<|Aw<|Ah<|Ab R R (Cj T_api_Machine.vv R R el22 h5)<|Ab R R (Bn R ld30 R)<|Ad R R<|Av z30 fun b2=>Ad R R<|Am (i:=0) R R R ld30 R R R<|Ac<|Ah<|Aa tbk [0] 2 R R<|Ad R R<|An hm 0 R fn185 R (K66 _ _) fun r hm=>Aa tbk [] 5 R R<|Ac<|Ag tbk [] R R<|Ak hm R (fun h8 hm=>Bk<|Aa tbk [0] 4 R R<|Ad R R<|Da 1 (kf:=VV.str) (vf:=VV.str) (l:=out2) (k:=x.Name) (z:=r.1) mk9 C0 R R R R<|Ac<|A1 tbk [] R R<|Ap _ () hm (Bl [1] R ⟨R,R,R,congrArg some (k_next h5 h4),trivial⟩)) fun h8 hm=>Aj<|A1 tbk [] R R<|Ap _ () hm (Bl [1] R ⟨R,R,R,congrArg some (k_next h5 h4),trivial⟩)
 exact Ag tbk [] R R<|Rg1 hm R [0] b (.cons (.tmp _ _ R) .nil) R R

/-! (trireme/apart.place).one -/
def apart_place_one (x : T_apart_place) (a : ByteArray) (b2 : ByteArray) (wide : Bool) : Option Bool :=
 if ((V.seq a b2) || (!wide)) = true then
  some (V.seq a b2)
 else
  some ((((V.mg x.zones a).isSome) && ((V.mg x.zones b2).isSome)) && (V.seq ((V.mg x.zones a).getD (⟨#[]⟩ : ByteArray)) ((V.mg x.zones b2).getD (⟨#[]⟩ : ByteArray))))
theorem K104 (x : T_apart_place) (a : ByteArray) (b2 : ByteArray) (wide : Bool) (b : Nat) : VS Tryz.prog 189 (apart_place_one x a b2 wide) [.agg [.map b], .str a, .str b2, .bool wide] [.map b (List.map (pf VV.str VV.str) x.zones)] .bool (fun r=>[.map b (List.map (pf VV.str VV.str) x.zones)]) := by
 refine A4 [.tmp 8] Tryz.func189 R R R fun r hm=>?_
 unfold apart_place_one at hm
 exact Ah<|Ad R R<|A9 R R fun b3=>Ab R R (Ai R)<|Ac<|Af<|Ah<|Aa tbk [] 4 R R<|Cb tbk [] 3 19 16 R R R R R<|Ac<|Ak hm R (fun h3 hm=>Ag tbk [] R R<|Rt1 hm R [1] R R R) fun h3 hm=>Aj<|Ah<|Aa tbk [0] 3 R R<|Ab R R (C1 1 (kf:=VV.str) (vf:=VV.str) (l:=x.zones) (k:=a) (z:=(⟨#[]⟩ : ByteArray)) true mk9 C0 R R R zc9 R)<|Aa tbk [] 5 R R<|Ac<|Ah<|Aa tbk [0] 3 R R<|Ab R R (C1 1 (kf:=VV.str) (vf:=VV.str) (l:=x.zones) (k:=b2) (z:=(⟨#[]⟩ : ByteArray)) true mk9 C0 R R R zc9 R)<|Aa tbk [] 5 R R<|Ac<|Ah<|Aa tbk [] 2 R R<|Bv tbk [] 2 40 38 R R R R R<|Ab R R (Al R)<|Bv tbk [] 4 45 41 R R R R R<|Ab R R (Ai R)<|Ac<|Rt1 hm R [1] R R R

/-! (trireme/apart.place).bars -/
def apart_place_bars (x : T_apart_place) (p : T_api_Pod) (q_ : T_api_Pod) (a : ByteArray) (b2 : ByteArray) : Option Bool :=
 (if (decide ((p.Apart.length : Int) > 0)) = true then (labels_Has q_.Labels p.Apart).bind fun r =>
 some r else some false).bind fun c =>
 (if c = true then (apart_place_one x a b2 p.Wide).bind fun r2 =>
 some r2 else some false).bind fun c2 =>
 some c2
theorem K105 (x : T_apart_place) (p : T_api_Pod) (q_ : T_api_Pod) (a : ByteArray) (b2 : ByteArray) (b : Nat) : VS Tryz.prog 177 (apart_place_bars x p q_ a b2) [.agg [.map b], T_api_Pod.vv p, T_api_Pod.vv q_, .str a, .str b2] [.map b (List.map (pf VV.str VV.str) x.zones)] .bool (fun r=>[.map b (List.map (pf VV.str VV.str) x.zones)]) := by
 refine A4 [.tmp 10] Tryz.func177 R R R fun r hm=>?_
 unfold apart_place_bars at hm
 exact Ah<|Ad R R<|A9 R R fun b3=>Ad R R<|A9 R R fun b4=>Ad R R<|A9 R R fun b5=>Ab R R (Ai R)<|Ac<|Ah<|Aa tbk [1] 2 R R<|Ab R R (Ax T_api_Label.vv R Bu)<|Aa tbk [] 2 R R<|Bc hm 6 21 15 R (fun _ K' h4 J hm=>Aa tbk [0,1] 4 R R<|A8 R R R R R<|An hm 0 R fn169 R (K67 _ _) fun r hm=>Ab R R (Bg true R R R)<|J 5 R R (Bj hm)) (fun _ K' h4 J hm=>Aa tbk [] 6 R R<|J 5 R R (Bj hm)) fun c hm=>Ab R R (Al R)<|Bc hm 7 29 22 R (fun _ K' h7 J hm=>Aa tbk [2,1] 5 R R<|Bp (Ck [3,0,0,0] R)<|A8 R R R R R<|An hm 1 R fn189 R (K104 _ _ _ _ _) fun r2 hm=>Ab R R (Bg true R R R)<|Bp (Ck [1,1,1,0] R)<|J 6 R R (Bj hm)) (fun _ K' h7 J hm=>Aa tbk [] 7 R R<|J 6 R R (Bj hm)) fun c2 hm=>Ab R R (Ai R)<|Ac<|Rt1 hm R [3] R R R

/-! trireme/apart.Near -/
def apart_Near.l1 (p : T_api_Pod) (on_ : ByteArray) (r2 : (List (ByteArray × ByteArray))) : List T_api_Bound → Nat → Option (Out Bool Unit)
 | [], k => some (Out.go ())
 | x :: l, k =>
  if ((V.seq x.On (⟨#[]⟩ : ByteArray)) || (V.seq x.Pod.Name p.Name)) = true then
   apart_Near.l1 p on_ r2 l (k + 1)
  else
   (apart_place_bars (⟨r2⟩ : T_apart_place) p x.Pod on_ x.On).bind fun r3 =>
   (if r3 = true then some true else (apart_place_bars (⟨r2⟩ : T_apart_place) x.Pod p x.On on_).bind fun r4 =>
   some r4).bind fun c =>
   if c = true then
    some (Out.ret true)
   else
    apart_Near.l1 p on_ r2 l (k + 1)
def apart_Near (ms : List T_api_Machine) (bs : List T_api_Bound) (p : T_api_Pod) (on_ : ByteArray) : Option Bool :=
 (yard_Find ms on_).bind fun r =>
 if (decide (r < 0)) = true then
  some false
 else
  (apart_zones ms).bind fun r2 =>
  (apart_Near.l1 p on_ r2 bs 0).bind fun o =>
  o.on fun j =>
  some false
theorem K106 (ms : List T_api_Machine) (bs : List T_api_Bound) (p : T_api_Pod) (on_ : ByteArray) : VS Tryz.prog 158 (apart_Near ms bs p on_) [L30 ms, L50 bs, T_api_Pod.vv p, .str on_] [] .bool N0 := by
 refine A4 [.tmp 8] Tryz.func158 R R R fun r hm=>?_
 unfold apart_Near at hm
 refine Ah<|Ad R R<|A9 R R fun b=>Ab R R (Ai R)<|Ac<|Af<|Ah<|Aa tbk [] 2 R R<|Ad R R<|An hm 0 R fn78 R (K64 _ _) fun r hm=>Ab R R (A2 R R R)<|Ac<|Ak hm R (fun h3 hm=>Ag tbk [] R R<|Rt1 hm R [] R R R) fun h3 hm=>Aj<|Ah<|Ab R R (Al R)<|Ad R R<|VO.cl1 hm 0 R fn176 R (K103 _) fun r2 b2 hm=>Ab R R (Bo pl185 R R)<|Ad R R<|Av z185 fun b3=>Ad R R<|Am (i:=0) R R R ld185 R R R<|Ac<|Af<|Ah<|Ab R R (Al R)<|Ab R R (Ax T_api_Bound.vv R Bw)<|Ab R R (Al R)<|Ac<|Ce 19 R fun h9=>Bq hm (fun _ (_:Unit)=>[]) (fun _ (_:Unit)=>[]) (fun o hm h8=>?_) fun j _ hm=> ?_
 ·refine Cp (bs) (fun zl zk (zs:Unit)=>apart_Near.l1 p on_ r2 zl zk) (fun k _ (_:Unit)=>[(3,.str on_),(6,.ptr b 0),(9,.ptr b3 0),(19,L50 bs),(20,Iw (bs.length : Int)),(21,Iw (k : Int))]) (fun _ _ (_:Unit)=>[.box b3 185 [.map b2],.map b2 (List.map (pf VV.str VV.str) ((⟨r2⟩ : T_apart_place).zones)),X48 b p]) () () hm (Ae [0,0,0] R R) (fun k _ _ hk hm=>?_) fun k x l _ _ h10 hm=> ?_
  ·rw [apart_Near.l1] at hm
   exact Ag tbk [] R R<|Af<|Ca R (k_end hk)<|A0<|Ar () hm (Ae [] R R)
  rw [apart_Near.l1] at hm
  exact Ag tbk [] R R<|Af<|B9 R (k_lt h10)<|Aj<|Af<|Aw<|Ah<|Ab R R (Cj T_api_Bound.vv R R el23 h10)<|Ab R R (Bn R ld50 R)<|Ad R R<|Av z50 fun b4=>Ad R R<|Am (i:=0) R R R ld50 R R R<|Ac<|Af<|Ah<|Aa tbk [0] 4 R R<|Cb tbk [0,3] 7 35 28 R R R R R<|Ac<|Ak hm R (fun h13 hm=>A0<|A1 tbk [] R R<|Ap () () hm (Bl [1,1,1] R ⟨R,R,R,R,R,congrArg some (k_next h10 h9),trivial⟩)) fun h13 hm=>Aj<|Ah<|Aa tbk [1,3,0,0] 7 R R<|Bp (Ck [2,0,0,0] R)<|Ad R R<|An hm 1 R fn177 R (K105 _ _ _ _ _ _) fun r3 hm=>Ab R R (Al R)<|Bc hm 9 53 44 R (fun _ K' h15 J hm=>Aa tbk [] 9 R R<|J 8 R R (Bj hm)) (fun _ K' h15 J hm=>Aa tbk [2,1,3,1] 7 R R<|A8 R R R R R<|An hm 1 R fn177 R (K105 _ _ _ _ _ _) fun r4 hm=>Ab R R (Bg false R R R)<|J 8 R R (Bj hm)) fun c hm=>Ac<|Ak hm R (fun h18 hm=>Ag tbk [] R R<|have hm:=Lr hm h8;Rt1 hm R [] R R R) fun h18 hm=>Aj<|A1 tbk [] R R<|Ap () () hm (Bl [2,0,1] R ⟨R,R,R,R,R,congrArg some (k_next h10 h9),trivial⟩)
 exact Ag tbk [] R R<|Rt1 hm R [] R R R

/-! trireme/apart.tally -/
def apart_tally.l1 (p : T_api_Pod) (r : (List (ByteArray × ByteArray))) : List T_api_Bound → Nat → (List (ByteArray × Int)) → Option (List (ByteArray × Int))
 | [], k, n2 => some n2
 | x :: l, k, n2 =>
  (if ((((V.mg r x.On).isSome) && (!(V.seq x.On (⟨#[]⟩ : ByteArray)))) && (!(V.seq x.Pod.Name p.Name))) = true then (labels_Has x.Pod.Labels p.Spread).bind fun r2 =>
  some r2 else some false).bind fun c =>
  if c = true then
   apart_tally.l1 p r l (k + 1) (V.mp n2 ((V.mg r x.On).getD (⟨#[]⟩ : ByteArray)) (i64.wrap (((V.mg n2 ((V.mg r x.On).getD (⟨#[]⟩ : ByteArray))).getD 0) + 1)))
  else
   apart_tally.l1 p r l (k + 1) n2
def apart_tally (ms : List T_api_Machine) (bs : List T_api_Bound) (p : T_api_Pod) : Option (List (ByteArray × Int)) :=
 (apart_zones ms).bind fun r =>
 (apart_tally.l1 p r bs 0 ([] : List (ByteArray × Int))).bind fun n32 =>
 some n32
theorem K107 (ms : List T_api_Machine) (bs : List T_api_Bound) (p : T_api_Pod) : VS1 Tryz.prog 190 (apart_tally ms bs p) [L30 ms, L50 bs, T_api_Pod.vv p] [] (fun r b_0=>.map b_0) (fun r b_0=>[.map b_0 (List.map (pf VV.str (VV.int .i64)) r)]) := by
 refine VS1.run [.tmp 6] Tryz.func190 R R R fun r hm=>?_
 unfold apart_tally at hm
 refine Ah<|Ad R R<|A9 R R fun b=>Ab R R (Ai R)<|Ac<|Ah<|Ab R R (Al R)<|Ad R R<|VO.cl1 hm 0 R fn176 R (K103 _) fun r b2 hm=>Ab R R (Ai R)<|Ac<|Ah<|Ad R R<|Df fun b3=>Ab R R (Ai R)<|Ac<|Af<|Ah<|Ab R R (Al R)<|Ab R R (Ax T_api_Bound.vv R Bw)<|Ab R R (Al R)<|Ac<|Ce 16 R fun h7=>Bx hm (fun _ (_:Unit)=>[(8,.map b3)]) (fun n32 (_:Unit)=>[.map b3 (List.map (pf VV.str (VV.int .i64)) n32)]) (fun o hm=>?_) fun n32 _ hm=> ?_
 ·refine Cp (bs) (fun zl zk (zs:List (ByteArray × Int))=>apart_tally.l1 p r zl zk zs) (fun k _ (_:Unit)=>[(5,.ptr b 0),(7,.map b2),(8,.map b3),(16,L50 bs),(17,Iw (bs.length : Int)),(18,Iw (k : Int))]) (fun _ zs (_:Unit)=>[.map b3 (List.map (pf VV.str (VV.int .i64)) zs),.map b2 (List.map (pf VV.str VV.str) r),X48 b p]) _ () hm (Ae [0,0,0] R R) (fun k n2 _ hk hm=>?_) fun k x l n2 _ h8 hm=> ?_
  ·rw [apart_tally.l1] at hm
   exact Ag tbk [] R R<|Af<|Ca R (k_end hk)<|A0<|As () hm (Ae [0] R R)
  rw [apart_tally.l1] at hm
  exact Ag tbk [] R R<|Af<|B9 R (k_lt h8)<|Aj<|Af<|Aw<|Ah<|Ab R R (Cj T_api_Bound.vv R R el23 h8)<|Ab R R (Bn R ld50 R)<|Ad R R<|Av z50 fun b4=>Ad R R<|Am (i:=0) R R R ld50 R R R<|Ac<|Ah<|Aa tbk [0] 3 R R<|Ab R R (C1 2 (kf:=VV.str) (vf:=VV.str) (l:=r) (k:=x.On) (z:=(⟨#[]⟩ : ByteArray)) true mk9 C0 R R R zc9 R)<|Aa tbk [] 5 R R<|Ac<|Ah<|Aa tbk [] 2 R R<|Bv tbk [0] 4 34 30 R R R R R<|Ab R R (Al R)<|Bv tbk [0,3] 7 42 35 R R R R R<|Ab R R (Al R)<|Bc hm 7 50 43 R (fun _ K' h12 J hm=>Aa tbk [0,3] 5 R R<|A8 R R R R R<|An hm 0 R fn169 R (K67 _ _) fun r2 hm=>Ab R R (Bg true R R R)<|J 6 R R (Bj hm)) (fun _ K' h12 J hm=>Aa tbk [] 7 R R<|J 6 R R (Bj hm)) fun c hm=>Ac<|Ak hm R (fun h15 hm=>Bk<|Aa tbk [] 2 R R<|Ab R R (C1 1 (kf:=VV.str) (vf:=(VV.int .i64)) (l:=n2) (k:=((V.mg r x.On).getD (⟨#[]⟩ : ByteArray))) (z:=(0 : Int)) false mk9 Cd R R R zc3 R)<|Ab R R (A2 R R R)<|Ad R R<|Da 1 (kf:=VV.str) (vf:=(VV.int .i64)) (l:=n2) (k:=((V.mg r x.On).getD (⟨#[]⟩ : ByteArray))) (z:=(IntKind.i64.wrap (((V.mg n2 ((V.mg r x.On).getD (⟨#[]⟩ : ByteArray))).getD (0 : Int)) + (1 : Int)))) mk9 Cd R R R R<|Ac<|A1 tbk [] R R<|Ap _ () hm (Bl [1,1,1] R ⟨R,R,R,R,R,congrArg some (k_next h8 h7),trivial⟩)) fun h15 hm=>Aj<|A1 tbk [] R R<|Ap _ () hm (Bl [1,1,1] R ⟨R,R,R,R,R,congrArg some (k_next h8 h7),trivial⟩)
 exact Ag tbk [] R R<|Rg1 hm R [0] b3 (.cons (.tmp _ _ R) .nil) R R

/-! trireme/yard.Zones -/
def yard_Zones.l1 : List T_api_Machine → Nat → (List (ByteArray × Int)) → (List ByteArray) → Option (List ByteArray)
 | [], k, had2, l2 => some l2
 | x :: l4, k, had2, l2 =>
  (labels_Get x.Labels (⟨#[122, 111, 110, 101]⟩ : ByteArray)).bind fun r =>
  if ((!r.2) || (!x.Ready)) = true then
   yard_Zones.l1 l4 (k + 1) had2 l2
  else
   if (((V.mg (V.mp had2 r.1 (i64.wrap (((V.mg had2 r.1).getD 0) + 1))) r.1).getD 0) == 1) = true then
    (V.ap 16 l2 [r.1]).bind fun l5 =>
    yard_Zones.l1 l4 (k + 1) (V.mp had2 r.1 (i64.wrap (((V.mg had2 r.1).getD 0) + 1))) l5
   else
    yard_Zones.l1 l4 (k + 1) (V.mp had2 r.1 (i64.wrap (((V.mg had2 r.1).getD 0) + 1))) l2
def yard_Zones (ms : List T_api_Machine) : Option (List ByteArray) :=
 (yard_Zones.l1 ms 0 ([] : List (ByteArray × Int)) ([] : List ByteArray)).bind fun l32 =>
 some l32
theorem K108 (ms : List T_api_Machine) : VS2 Tryz.prog 191 (yard_Zones ms) [L30 ms] [] (fun r ob0 cap0=>Z9 ob0 r cap0) (fun r ob0 cap0=>[Q9 ob0 cap0 r]) := by
 refine Cg [.tmp 2] Tryz.func191 R R R fun r hm=>?_
 unfold yard_Zones at hm
 refine Ag tbk [] R R<|Ah<|Ad R R<|Df fun b=>Ab R R (Ai R)<|Ac<|Ag tbk [] R R<|Af<|Ah<|Ab R R (Al R)<|Ab R R (Ax T_api_Machine.vv R B2)<|Ab R R (Al R)<|Ac<|Ce 10 R fun h6=>Bx hm (fun l32 (gg:Option Nat × Nat)=>[(4,Z9 gg.1 l32 gg.2)]) (fun l32 (gg:Option Nat × Nat)=>[Q9 gg.1 gg.2 l32]) (fun o hm=>?_) fun l32=>Pq fun ob3 cap3 hm=> ?_
 ·refine Cp (ms) (fun zl zk (zs:List (ByteArray × Int) × List ByteArray)=>yard_Zones.l1 zl zk zs.1 zs.2) (fun k zs (zg:Option Nat × Nat)=>[(3,.map b),(4,Z9 zg.1 zs.2 zg.2),(10,L30 ms),(11,Iw (ms.length : Int)),(12,Iw (k : Int))]) (fun _ zs (zg:Option Nat × Nat)=>[Q9 zg.1 zg.2 zs.2,.map b (List.map (pf VV.str (VV.int .i64)) zs.1)]) (([] : List (ByteArray × Int)),([] : List ByteArray)) (none,0) hm (Be (Ba 9) (Ae [0,0] R R)) (fun k=>Pq fun had2 l2=>Pq fun ob2 cap2 hk hm=>?_) fun k x l4=>Pq fun had2 l2=>Pq fun ob2 cap2 h7 hm=> ?_
  ·rw [yard_Zones.l1] at hm
   exact Ag tbk [] R R<|Af<|Ca R (k_end hk)<|A0<|As (ob2,cap2) hm (Ae [0] R R)
  rw [yard_Zones.l1] at hm
  exact Ag tbk [] R R<|Af<|B9 R (k_lt h7)<|Aj<|Af<|Aw<|Ah<|Ab R R (Cj T_api_Machine.vv R R el22 h7)<|Ab R R (Bn R ld30 R)<|Ad R R<|Av z30 fun b2=>Ad R R<|Am (i:=0) R R R ld30 R R R<|Ac<|Ah<|Aa tbk [0] 2 R R<|Ad R R<|An hm 0 R fn185 R (K66 _ _) fun r hm=>Aa tbk [] 5 R R<|Ac<|Af<|Ah<|Aa tbk [] 3 R R<|Cb tbk [0] 4 28 24 R R R R R<|Ac<|Ak hm R (fun h11 hm=>A0<|A1 tbk [] R R<|Ap (had2,l2) (ob2,cap2) hm (Bl [1,1] R ⟨R,R,R,R,congrArg some (k_next h7 h6),trivial⟩)) fun h11 hm=>Aj<|Ah<|Aa tbk [] 2 R R<|Ab R R (C1 2 (kf:=VV.str) (vf:=(VV.int .i64)) (l:=had2) (k:=r.1) (z:=(0 : Int)) false mk9 Cd R R R zc3 R)<|Ab R R (A2 R R R)<|Ad R R<|Da 2 (kf:=VV.str) (vf:=(VV.int .i64)) (l:=had2) (k:=r.1) (z:=(IntKind.i64.wrap (((V.mg had2 r.1).getD (0 : Int)) + (1 : Int)))) mk9 Cd R R R R<|Ac<|Ah<|Aa tbk [] 2 R R<|Ab R R (C1 2 (kf:=VV.str) (vf:=(VV.int .i64)) (l:=(V.mp had2 r.1 (IntKind.i64.wrap (((V.mg had2 r.1).getD (0 : Int)) + (1 : Int))))) (k:=r.1) (z:=(0 : Int)) false mk9 Cd R R R zc3 R)<|Ab R R (A2 R R R)<|Ac<|Ak hm R (fun h12 hm=>Bk<|Aa tbk [] 2 R R<|Ad R R<|A7 ap51 R R R R R fun b3=>Bd hm fun l5 h14 hm=>Ad R R<|B1 2 VV.str (l:=l2) (l2:=[r.1]) ap51 R R (sT_row 0 VV.str el51 R R) h14 fun ob4 cap4=>Ab R R (Ai R)<|Ac<|A1 tbk [] R R<|Ap ((V.mp had2 r.1 (IntKind.i64.wrap (((V.mg had2 r.1).getD (0 : Int)) + (1 : Int)))),l5) (ob4,cap4) hm (Bl [2,2] R ⟨R,R,R,R,congrArg some (k_next h7 h6),trivial⟩)) fun h12 hm=>Aj<|A1 tbk [] R R<|Ap ((V.mp had2 r.1 (IntKind.i64.wrap (((V.mg had2 r.1).getD (0 : Int)) + (1 : Int)))),l2) (ob2,cap2) hm (Bl [1,1] R ⟨R,R,R,R,congrArg some (k_next h7 h6),trivial⟩)
 exact Ag tbk [] R R<|Rg2 hm R [0] ob3 cap3 (.cons (.tmp _ _ R) .nil) R R

/-! trireme/apart.Counts -/
def apart_Counts.l1 (r : (List (ByteArray × Int))) : List ByteArray → Nat → (List Int) → Option (List Int)
 | [], k, out2 => some out2
 | x :: l, k, out2 =>
  (V.ap 8 out2 [((V.mg r x).getD 0)]).bind fun out4 =>
  apart_Counts.l1 r l (k + 1) out4
def apart_Counts (ms : List T_api_Machine) (bs : List T_api_Bound) (p : T_api_Pod) : Option (List ByteArray × List Int) :=
 (apart_tally ms bs p).bind fun r =>
 (yard_Zones ms).bind fun r2 =>
 (apart_Counts.l1 r r2 0 ([] : List Int)).bind fun out32 =>
 some (r2, out32)
theorem K109 (ms : List T_api_Machine) (bs : List T_api_Bound) (p : T_api_Pod) : VS2 Tryz.prog 178 (apart_Counts ms bs p) [L30 ms, L50 bs, T_api_Pod.vv p] [] (fun r ob1 cap1=>.tup [L9 r.1, Z3 ob1 r.2 cap1]) (fun r ob1 cap1=>[Q3 ob1 cap1 r.2]) := by
 refine Cg [.tmp 6,.tmp 7] Tryz.func178 R R R fun r hm=>?_
 unfold apart_Counts at hm
 refine Ah<|Ad R R<|A9 R R fun b=>Aa tbk [] 2 R R<|Ac<|Ah<|Aa tbk [0] 3 R R<|Ad R R<|VO.cl1 hm 0 R fn190 R (K107 _ _ _) fun r b2 hm=>Ab R R (Ai R)<|Ac<|Ah<|Ab R R (Al R)<|Ad R R<|Cc hm 0 R fn191 R (K108 _) fun r2 ob cap hm=>Bp (Az 0 [(18,L9 r2)] R ⟨⟨_,R,.here _ R⟩,trivial⟩ (FzH.refl _))<|Ab R R (Ai R)<|Ac<|Ag tbk [] R R<|Af<|Ah<|Ab R R (Al R)<|Ab R R (Ax VV.str R Bf)<|Ab R R (Al R)<|Ac<|Ce 9 R fun h10=>Bx hm (fun out32 (gg:Option Nat × Nat)=>[(9,L9 r2),(10,Z3 gg.1 out32 gg.2)]) (fun out32 (gg:Option Nat × Nat)=>[Q3 gg.1 gg.2 out32]) (fun o hm=>?_) fun out32=>Pq fun ob4 cap4 hm=> ?_
 ·refine Cp (r2) (fun zl zk (zs:List Int)=>apart_Counts.l1 r zl zk zs) (fun k zs (zg:Option Nat × Nat)=>[(8,.map b2),(9,L9 r2),(10,Z3 zg.1 zs zg.2),(19,L9 r2),(20,Iw (r2.length : Int)),(21,Iw (k : Int))]) (fun _ zs (zg:Option Nat × Nat)=>[Q3 zg.1 zg.2 zs,.map b2 (List.map (pf VV.str (VV.int .i64)) r)]) _ (none,0) hm (Be (Ba 3) (Ae [0,0] R R)) (fun k out2=>Pq fun ob3 cap3 hk hm=>?_) fun k x l out2=>Pq fun ob3 cap3 h11 hm=> ?_
  ·rw [apart_Counts.l1] at hm
   exact Ag tbk [] R R<|Af<|Ca R (k_end hk)<|A0<|As (ob3,cap3) hm (Ae [0] R R)
  rw [apart_Counts.l1] at hm
  exact Ag tbk [] R R<|Af<|B9 R (k_lt h11)<|Aj<|Af<|Aw<|Ah<|Ab R R (Cj VV.str R R el51 h11)<|Aa tbk [] 2 R R<|Ac<|Bk<|Aa tbk [] 3 R R<|Ab R R (C1 1 (kf:=VV.str) (vf:=(VV.int .i64)) (l:=r) (k:=x) (z:=(0 : Int)) false mk9 Cd R R R zc3 R)<|Ad R R<|A7 ap41 R R R R R fun b3=>Bd hm fun out4 h13 hm=>Ad R R<|B1 1 (VV.int .i64) (l:=out2) (l2:=[((V.mg r x).getD (0 : Int))]) ap41 R R (sT_row 0 (VV.int .i64) el41 R R) h13 fun ob5 cap5=>Ab R R (Ai R)<|Ac<|A1 tbk [] R R<|Ap _ (ob5,cap5) hm (Bl [1,1] R ⟨R,R,R,R,R,congrArg some (k_next h11 h10),trivial⟩)
 exact Ag tbk [] R R<|Rg2 hm R [0] ob4 cap4 (.cons (.tmp _ _ R) (.cons (.tmp _ _ R) .nil)) R R

/-! trireme/apart.Many -/
def apart_Many.l1 (on_ : ByteArray) (r2 : (List (ByteArray × ByteArray))) (r3 : List ByteArray × List Int) : List ByteArray → Nat → Bool → Int → Int → Option (Bool × Int × Int)
 | [], k, met2, mine2, least2 => some (met2, mine2, least2)
 | x :: l, k, met2, mine2, least2 =>
  (V.gl r3.2 (k : Int)).bind fun x2 =>
  if (((V.mg r2 on_).isSome) && (V.seq x ((V.mg r2 on_).getD (⟨#[]⟩ : ByteArray)))) = true then
   (V.gl r3.2 (k : Int)).bind fun x3 =>
   apart_Many.l1 on_ r2 r3 l (k + 1) true x3 (min least2 x2)
  else
   apart_Many.l1 on_ r2 r3 l (k + 1) met2 mine2 (min least2 x2)
def apart_Many (ms : List T_api_Machine) (bs : List T_api_Bound) (p : T_api_Pod) (on_ : ByteArray) : Option Bool :=
 (if ((p.Spread.length : Int) == 0) = true then some true else (yard_Find ms on_).bind fun r =>
 some (decide (r < 0))).bind fun c =>
 if c = true then
  some false
 else
  (apart_zones ms).bind fun r2 =>
  (apart_Counts ms bs p).bind fun r3 =>
  (apart_Many.l1 on_ r2 r3 r3.1 0 false 0 (401 : Int)).bind fun j =>
  (labels_Has p.Labels p.Spread).bind fun r4 =>
  if r4 = true then
   some ((!j.1) || (decide ((i64.wrap (j.2.1 + 1)) > (i64.wrap (j.2.2 + p.Skew)))))
  else
   some ((!j.1) || (decide (j.2.1 > (i64.wrap (j.2.2 + p.Skew)))))
theorem K110 (ms : List T_api_Machine) (bs : List T_api_Bound) (p : T_api_Pod) (on_ : ByteArray) : VS Tryz.prog 159 (apart_Many ms bs p on_) [L30 ms, L50 bs, T_api_Pod.vv p, .str on_] [] .bool N0 := by
 refine A4 [.tmp 8] Tryz.func159 R R R fun r hm=>?_
 unfold apart_Many at hm
 refine Ah<|Ad R R<|A9 R R fun b=>Ab R R (Ai R)<|Ac<|Af<|Ah<|Aa tbk [0] 2 R R<|Ab R R (Ax T_api_Label.vv R Bu)<|Aa tbk [] 2 R R<|Bc hm 5 27 22 R (fun _ K' h2 J hm=>Aa tbk [] 5 R R<|J 4 R R (Bj hm)) (fun _ K' h2 J hm=>Aa tbk [] 2 R R<|A8 R R R R R<|An hm 0 R fn78 R (K64 _ _) fun r hm=>Aa tbk [] 2 R R<|J 4 R R (Bj hm)) fun c hm=>Ac<|Ak hm R (fun h5 hm=>Ag tbk [] R R<|Rt1 hm R [] R R R) fun h5 hm=>Aj<|Ah<|Ab R R (Al R)<|Ad R R<|VO.cl1 hm 0 R fn176 R (K103 _) fun r2 b2 hm=>Ab R R (Al R)<|Ab R R (C1 0 (kf:=VV.str) (vf:=VV.str) (l:=r2) (k:=on_) (z:=(⟨#[]⟩ : ByteArray)) true mk9 C0 R R R zc9 R)<|Aa tbk [] 5 R R<|Ac<|Ah<|Aa tbk [1] 3 R R<|Ad R R<|Cc hm 0 R fn178 R (K109 _ _ _) fun r3 ob cap hm=>Aa tbk [] 5 R R<|Ac<|Ag tbk [] R R<|Ag tbk [] R R<|Af<|Ah<|Ab R R (Al R)<|Ab R R (Ax VV.str R Bf)<|Ab R R (Al R)<|Ac<|Ce 42 R fun h12=>Bx hm (fun j (_:Unit)=>[(6,.ptr b 0),(13,.bool j.1),(14,Iw j.2.1),(15,Iw j.2.2)]) (fun _ (_:Unit)=>[X48 b p]) (fun o hm=>?_) fun j _ hm=> ?_
 ·refine Cp (r3.1) (fun zl zk (zs:Bool × Int × Int)=>apart_Many.l1 on_ r2 r3 zl zk zs.1 zs.2.1 zs.2.2) (fun k zs (zg:Option Nat)=>[(6,.ptr b 0),(9,.str ((V.mg r2 on_).getD (⟨#[]⟩ : ByteArray))),(10,.bool ((V.mg r2 on_).isSome)),(12,Z3 zg r3.2 cap),(13,.bool zs.1),(14,Iw zs.2.1),(15,Iw zs.2.2),(42,L9 r3.1),(43,Iw (r3.1.length : Int)),(44,Iw (k : Int))]) (fun _ _ (zg:Option Nat)=>[Q3 zg cap r3.2,X48 b p]) (false,(0 : Int),(401 : Int)) _ hm (Ae [0,1] R R) (fun k=>Pq fun met2=>Pq fun mine2 least2 ob3 hk hm=>?_) fun k x l=>Pq fun met2=>Pq fun mine2 least2 ob3 h13 hm=> ?_
  ·rw [apart_Many.l1] at hm
   exact Ag tbk [] R R<|Af<|Ca R (k_end hk)<|A0<|As () hm (Ae [1] R R)
  rw [apart_Many.l1] at hm
  refine Ag tbk [] R R<|Af<|B9 R (k_lt h13)<|Aj<|Af<|Aw<|Ah<|Ab R R (Al R)<|Ab R R (Cj VV.str R R el51 h13)<|Aa tbk [] 3 R R<|Ac<|Ah<|Aa tbk [] 3 R R<|Bd hm fun x2 h14 hm=>Cv 0 R (gl_pos (VV.int .i64) h14) fun b3 h15=> ?_
  subst h15
  exact Ab R R (Cy (VV.int .i64) R R el41 h14)<|Ab R R (Cr (i:=0) (y:=(VV.int .i64) x2) R R R (gl_map _ (gl_some h14).2) ld3 R)<|Ab R R (C8 R R)<|Ab R R (Ai R)<|Ac<|Ah<|Aa tbk [] 2 R R<|Bv tbk [] 4 60 56 R R R R R<|Ac<|Ak hm R (fun h17 hm=>Bb 0 mixed<|Au tbk [0,1] [] (by kernel_rfl) R R R<|Bd hm fun x3 h18 hm=>A6 2 R R R (by kernel_rfl) (Cy (VV.int .i64) R R el41 h18)<|A6 3 R R R (by kernel_rfl) (Cr (i:=0) (y:=(VV.int .i64) x3) R R R (gl_map _ (gl_some h18).2) ld3 R)<|Au tbk [4,5] [] (by kernel_rfl) R R R<|A5 (by kernel_rfl)<|A1 tbk [] R R<|Ap (true,x3,(min least2 x2)) _ hm (Bl [0,0] R ⟨R,R,R,R,R,R,R,R,R,congrArg some (k_next h13 h12),trivial⟩)) fun h17 hm=>Aj<|A1 tbk [] R R<|Ap (met2,mine2,(min least2 x2)) _ hm (Bl [0,0] R ⟨R,R,R,R,R,R,R,R,R,congrArg some (k_next h13 h12),trivial⟩)
 exact Af<|Ah<|Aa tbk [0,0] 4 R R<|Ad R R<|An hm 0 R fn169 R (K67 _ _) fun r4 hm=>Ac<|Ak hm R (fun h20 hm=>A1 tbk [] R R<|Ah<|Aa tbk [] 3 R R<|Cb tbk [0] 7 82 75 R R R R R<|Ab R R (Ai R)<|Ac<|Rt1 hm R [] R R R) fun h20 hm=>Aj<|Ah<|Aa tbk [] 3 R R<|Cb tbk [0] 7 82 75 R R R R R<|Ab R R (Ai R)<|Ac<|Rt1 hm R [] R R R

/-! trireme/apart.Why -/
def apart_Why (ms : List T_api_Machine) (bs : List T_api_Bound) (p : T_api_Pod) (on_ : ByteArray) : Option Int :=
 (apart_Near ms bs p on_).bind fun r =>
 if r = true then
  some 7
 else
  (apart_Many ms bs p on_).bind fun r2 =>
  if r2 = true then
   some 8
  else
   some 0
theorem K111 (ms : List T_api_Machine) (bs : List T_api_Bound) (p : T_api_Pod) (on_ : ByteArray) : VS Tryz.prog 138 (apart_Why ms bs p on_) [L30 ms, L50 bs, T_api_Pod.vv p, .str on_] [] Iw N0 := by
 refine A4 [.tmp 8] Tryz.func138 R R R fun r hm=>?_
 unfold apart_Why at hm
 exact Ah<|Ad R R<|A9 R R fun b=>Ab R R (Ai R)<|Ac<|Af<|Aw<|Ah<|Aa tbk [0] 4 R R<|Ad R R<|An hm 0 R fn158 R (K106 _ _ _ _) fun r hm=>Ab R R (Ai R)<|Ac<|Ak hm R (fun h3 hm=>Ag tbk [] R R<|Rt1 hm R [] R R R) fun h3 hm=>Ah<|Aa tbk [0] 4 R R<|Ad R R<|An hm 0 R fn159 R (K110 _ _ _ _) fun r2 hm=>Ab R R (Ai R)<|Ac<|Ak hm R (fun h5 hm=>Ag tbk [] R R<|Rt1 hm R [] R R R) fun h5 hm=>Aj<|Ag tbk [] R R<|Rt1 hm R [] R R R

/-! (trireme/fit.asker).why -/
def fit_asker_why (a : T_fit_asker) (m : T_api_Machine) : Option Int :=
 (suit_Suits m a.bs a.p).bind fun r =>
 if (r != 0) = true then
  some r
 else
  (apart_Why a.ms a.bs a.p m.Name).bind fun r2 =>
  some r2
theorem K112 (a : T_fit_asker) (m : T_api_Machine) : VS Tryz.prog 109 (fit_asker_why a m) [T_fit_asker.vv a, T_api_Machine.vv m] [] Iw N0 := by
 refine A4 [.tmp 4] Tryz.func109 R R R fun r hm=>?_
 unfold fit_asker_why at hm
 exact Ah<|Ad R R<|A9 R R fun b=>Ad R R<|A9 R R fun b2=>Ab R R (Ai R)<|Ac<|Af<|Ah<|Aa tbk [0,1,1] 5 R R<|Ad R R<|An hm 0 R fn137 R (K102 _ _ _) fun r hm=>Ab R R (Ai R)<|Ac<|Ag tbk [] R R<|Ak hm R (fun h4 hm=>Ag tbk [] R R<|Rt1 hm R [] R R R) fun h4 hm=>Aj<|Ah<|Aa tbk [1,1,1,0] 8 R R<|Ad R R<|An hm 0 R fn138 R (K111 _ _ _ _) fun r2 hm=>Ab R R (Ai R)<|Ac<|Rt1 hm R [] R R R

/-! trireme/fit.Why -/
def fit_Why (ms : List T_api_Machine) (bs : List T_api_Bound) (p : T_api_Pod) (on_ : ByteArray) : Option Int :=
 (yard_Find ms on_).bind fun r =>
 if (decide (r < 0)) = true then
  some 1
 else
  (V.gl ms r).bind fun x =>
  (fit_asker_why (⟨ms, bs, p⟩ : T_fit_asker) x).bind fun r2 =>
  some r2
theorem K113 (ms : List T_api_Machine) (bs : List T_api_Bound) (p : T_api_Pod) (on_ : ByteArray) : VS Tryz.prog 95 (fit_Why ms bs p on_) [L30 ms, L50 bs, T_api_Pod.vv p, .str on_] [] Iw N0 := by
 refine A4 [.tmp 8] Tryz.func95 R R R fun r hm=>?_
 unfold fit_Why at hm
 exact Ah<|Ad R R<|A9 R R fun b=>Ab R R (Ai R)<|Ac<|Ah<|Aa tbk [] 2 R R<|Ad R R<|An hm 0 R fn78 R (K64 _ _) fun r hm=>Ab R R (Ai R)<|Ac<|Af<|Ag tbk [] R R<|Ak hm R (fun h3 hm=>Ag tbk [] R R<|Rt1 hm R [] R R R) fun h3 hm=>Aj<|Af<|Bb 0 mixed<|Au tbk [0,1,2] [0] (by kernel_rfl) R R R<|A6 3 R R R (by kernel_rfl) (Bo pl138 R R)<|Au tbk [4,5] [] (by kernel_rfl) R R R<|Bd hm fun x h4 hm=>A6 6 R R R (by kernel_rfl) (A3 T_api_Machine.vv R R el22 h4)<|A6 7 R R R (by kernel_rfl) (Bn R ld30 R)<|Ao 8 (by kernel_rfl)<|Aq R R R<|An hm 0 R fn109 R (K112 _ _) fun r2 hm=>A6 9 R R R (by kernel_rfl) (Ai R)<|A5 (by kernel_rfl)<|Rt1 hm R [] R R R

/-! trireme/pack.decimal -/
def pack_decimal : Nat → Int → Option ByteArray
 | 0, _ => none
 | nn + 1, n =>
  if (decide (n < 10)) = true then
   some (strOfNums [(IntKind.u8.wrap (i64.wrap (48 + (max n 0))))])
  else
   (V.quo n (10 : Int)).bind fun v =>
   (V.rem n (10 : Int)).bind fun v2 =>
   ((pack_decimal nn) (i64.wrap v)).bind fun r =>
   (V.cat r (strOfNums [(IntKind.u8.wrap (i64.wrap (48 + v2)))])).bind fun v3 =>
   some v3
theorem K114 (nn : Nat) : ∀ (n : Int), VS Tryz.prog 55 (pack_decimal nn n) [Iw n] [] .str N0 := by
 induction nn with
 | zero => intro n; exact VS.none (by rw [pack_decimal])
 | succ nn ih =>
  intro n
  refine A4 [.tmp 2] Tryz.func55 R R R fun r hm=>?_
  rw [pack_decimal] at hm
  refine Ag tbk [] R R<|Af<|Ag tbk [] R R<|Ak hm R (fun h1 hm=>Ah<|Ab R R (Al R)<|Ab R R (C6 R R)<|Ab R R (A2 R R R)<|Ab R R (B6 Bt Bi R)<|Ad R R<|A7 ap122 R R R R R fun b=>Bp (Az 0 [(9,L5 [(IntKind.u8.wrap (IntKind.i64.wrap ((48 : Int) + (max n (0 : Int)))))])] R ⟨⟨_,R,.here _ R⟩,trivial⟩ (FzH.refl _))<|Ab R R (C7 (l:=[(IntKind.u8.wrap (IntKind.i64.wrap ((48 : Int) + (max n (0 : Int)))))]) el122 Bi Ay R)<|Ab R R (Ai R)<|Ac<|Rt1 hm R [] R R R) fun h1 hm=>Aj<|Af<|Bb 0 mixed<|A6 0 R R R (by kernel_rfl) (Al R)<|Bd hm fun v h3 hm=>A6 1 R R R (by kernel_rfl) (C4 R R h3)<|A6 3 R R R (by kernel_rfl) (Al R)<|Bd hm fun v2 h4 hm=>A6 4 R R R (by kernel_rfl) (VP.remT R R h4)<|A6 5 R R R (by kernel_rfl) (A2 R R R)<|A6 6 R R R (by kernel_rfl) (B6 Bt Bi R)<|?_
  refine B0 [2,7] (by kernel_rfl) ⟨?_,?_,trivial⟩
  ·exact Aq R R R<|An hm 0 R fn55 R (ih _) fun r hm=>Ao 7 (by kernel_rfl)<|Aq R R R<|A7 ap122 R R R R R fun b2=>B7 (Az 0 [(18,L5 [(IntKind.u8.wrap (IntKind.i64.wrap ((48 : Int) + v2)))])] R ⟨⟨_,R,.here _ R⟩,trivial⟩ (FzH.refl _))<|A6 8 R R R (by kernel_rfl) (C7 (l:=[(IntKind.u8.wrap (IntKind.i64.wrap ((48 : Int) + v2)))]) el122 Bi Ay R)<|Bd hm fun v3 h7 hm=>A6 9 R R R (by kernel_rfl) (C5 R R h7)<|A6 10 R R R (by kernel_rfl) (Ai R)<|A5 (by kernel_rfl)<|Rt1 hm R [] R R R
  ·exact Aq R R R<|A7 ap122 R R R R R fun b3=>B7 (Az 0 [(18,L5 [(IntKind.u8.wrap (IntKind.i64.wrap ((48 : Int) + v2)))])] R ⟨⟨_,R,.here _ R⟩,trivial⟩ (FzH.refl _))<|A6 8 R R R (by kernel_rfl) (C7 (l:=[(IntKind.u8.wrap (IntKind.i64.wrap ((48 : Int) + v2)))]) el122 Bi Ay R)<|Ao 2 (by kernel_rfl)<|Aq R R R<|An hm 0 R fn55 R (ih _) fun r2 hm=>Bd hm fun v4 h10 hm=>A6 9 R R R (by kernel_rfl) (C5 R R h10)<|A6 10 R R R (by kernel_rfl) (Ai R)<|A5 (by kernel_rfl)<|Rt1 hm R [] R R R

/-! trireme/pack.Fresh -/
def pack_Fresh (like : T_api_Machine) (n : Int) : Option T_api_Machine :=
 (V.cat like.Group (⟨#[43]⟩ : ByteArray)).bind fun v =>
 (pack_decimal FU n).bind fun r =>
 (V.cat v r).bind fun v2 =>
 (V.ap 32 ([] : List T_api_Label) like.Labels).bind fun l =>
 (V.ap 40 ([] : List T_api_Taint) like.Taints).bind fun l2 =>
 some (⟨v2, like.Group, like.Has, l, l2, like.Ready⟩ : T_api_Machine)
theorem K115 (like : T_api_Machine) (n : Int) : VS Tryz.prog 15 (pack_Fresh like n) [T_api_Machine.vv like, Iw n] [] (fun r=>T_api_Machine.vv r) N0 := by
 refine A4 [.cell 4 30] Tryz.func15 R R R fun r hm=>?_
 unfold pack_Fresh at hm
 refine Ah<|Ad R R<|A9 R R fun b=>Ad R R<|Av z30 fun b2=>Ac<|Ah<|Aa tbk [1] 1 R R<|Ad R R<|Av z30 fun b3=>Ad R R<|Am (i:=0) R R R ld30 R R R<|Ac<|Af<|Bb 1 mixed<|Au tbk [0,1] [1] (by kernel_rfl) R R R<|Bd hm fun v h4 hm=>A6 2 R R R (by kernel_rfl) (C5 R R h4)<|A6 3 R R R (by kernel_rfl) (Al R)<|Ao 4 (by kernel_rfl)<|Aq R R R<|An hm 0 R fn55 R (K114 FU _) fun r hm=>Bd hm fun v2 h6 hm=>A6 5 R R R (by kernel_rfl) (C5 R R h6)<|A6 6 R R R (by kernel_rfl) (Cw R fa30_0)<|Ao 7 (by kernel_rfl)<|Aq R R R<|Am (i:=0) R R R ld9 R R R<|A5 (by kernel_rfl)<|Ah<|Aa tbk [0] 2 R R<|Bp (Ba 124)<|Bd hm fun l h8 hm=>Ad R R<|B1 0 T_api_Label.vv (l:=([] : List T_api_Label)) (l2:=like.Labels) ap27 R R (sT_list T_api_Label.vv el27 R R) h8 fun ob cap=>Ab R R (Cw R fa30_3)<|Ad R R<|Am (i:=1) R R R ld27 R R R<|Ac<|Ah<|Aa tbk [1] 2 R R<|Bp (Ba 126)<|Bd hm fun l2 h10 hm=>Ad R R<|B1 0 T_api_Taint.vv (l:=([] : List T_api_Taint)) (l2:=like.Taints) ap28 R R (sT_list T_api_Taint.vv el28 R R) h10 fun ob2 cap2=>Ab R R (Cw R fa30_4)<|Ad R R<|Am (i:=2) R R R ld28 R R R<|Ac<|Ah<|Aa tbk [2] 1 R R<|Ad R R<|Am (i:=3) R R R ld30 R R R<|Ac<|B8 (Az (H':=[Q126 ob2 cap2 l2,.box b3 30 [.str v2,.str like.Group,Iw like.Has.Cpu,Iw like.Has.Mem,Iw like.Has.Disk,Iw like.Has.Pods,Iw like.Has.Dev,L124 l,Z126 ob2 l2 cap2,.bool like.Ready],.box b2 30 [.str v2,.str like.Group,Iw like.Has.Cpu,Iw like.Has.Mem,Iw like.Has.Disk,Iw like.Has.Pods,Iw like.Has.Dev,L124 l,Z126 ob2 l2 cap2,.bool like.Ready],X30 b like]) 1 [(16,L124 l),(22,.agg [.str v2,.str like.Group,Iw like.Has.Cpu,Iw like.Has.Mem,Iw like.Has.Disk,Iw like.Has.Pods,Iw like.Has.Dev,L124 l,Z126 ob2 l2 cap2,.bool like.Ready])] R ⟨⟨_,R,.here _ R⟩,⟨_,R,.aggL ⟨.same _,.same _,.same _,.same _,.same _,.same _,.same _,.here _ R,.same _,.same _,trivial⟩⟩,trivial⟩ ⟨.same _,.box _ _ _ _ ⟨.same _,.same _,.same _,.same _,.same _,.same _,.same _,.here _ R,.same _,.same _,trivial⟩,.box _ _ _ _ ⟨.same _,.same _,.same _,.same _,.same _,.same _,.same _,.here _ R,.same _,.same _,trivial⟩,.same _,trivial⟩)<|B8 (Az (H':=[X30 b3 (⟨v2,like.Group,like.Has,l,l2,like.Ready⟩ : T_api_Machine),X30 b2 (⟨v2,like.Group,like.Has,l,l2,like.Ready⟩ : T_api_Machine),X30 b like]) 0 [(20,L126 l2),(22,T_api_Machine.vv (⟨v2,like.Group,like.Has,l,l2,like.Ready⟩ : T_api_Machine))] R ⟨⟨_,R,.here _ R⟩,⟨_,R,.aggL ⟨.same _,.same _,.same _,.same _,.same _,.same _,.same _,.same _,.here _ R,.same _,trivial⟩⟩,trivial⟩ ⟨.box _ _ _ _ ⟨.same _,.same _,.same _,.same _,.same _,.same _,.same _,.same _,.here _ R,.same _,trivial⟩,.box _ _ _ _ ⟨.same _,.same _,.same _,.same _,.same _,.same _,.same _,.same _,.here _ R,.same _,trivial⟩,.same _,trivial⟩)<|?_
 exact Rt0 hm R [] (.cons (.cell _ _ _ _ 1 _ _ _ _ R R ld30 R) .nil) R R

/-! (*trireme/pack.packer).place -/
def pack_packer_place.l1 (x : T_pack_packer) (p : T_api_Pod) : Nat → Int → Option (Out (ByteArray × T_pack_packer) Unit)
 | 0, _ => none
 | n + 1, v2 =>
  if (decide (v2 < (x.names.length : Int))) = true then
   (V.gl x.names v2).bind fun x2 =>
   (fit_Why x.ms x.bs p x2).bind fun r =>
   if (r == 0) = true then
    some (Out.ret (x2, x))
   else
    pack_packer_place.l1 x p n (i64.wrap (v2 + 1))
  else
   some (Out.go ())
def pack_packer_place (x : T_pack_packer) (p : T_api_Pod) : Option (ByteArray × T_pack_packer) :=
 (pack_packer_place.l1 x p FU (0 : Int)).bind fun o =>
 o.on fun j =>
 if (decide ((x.names.length : Int) ≥ x.limit)) = true then
  some ((⟨#[]⟩ : ByteArray), x)
 else
  ((pack_Fresh x.like (i64.wrap ((x.names.length : Int) + 1))).bind fun r2 =>
  some r2).bind fun m2 =>
  (V.sl x.ms none (some (x.ms.length : Int))).bind fun v3 =>
  (V.ap 128 v3 [m2]).bind fun l2 =>
  (fit_Why l2 x.bs p m2.Name).bind fun r4 =>
  if (r4 != 0) = true then
   some ((⟨#[]⟩ : ByteArray), x)
  else
   (V.ap 16 x.names [m2.Name]).bind fun l3 =>
   some (m2.Name, (⟨l2, x.bs, x.like, l3, x.limit⟩ : T_pack_packer))
theorem K116 (x : T_pack_packer) (p : T_api_Pod) (b : Nat) (ob : Option Nat) (cap : Nat) : VS2 Tryz.prog 53 (pack_packer_place x p) [.ptr b 0, T_api_Pod.vv p] [.box b 88 [L30 x.ms, L50 x.bs, .str x.like.Name, .str x.like.Group, Iw x.like.Has.Cpu, Iw x.like.Has.Mem, Iw x.like.Has.Disk, Iw x.like.Has.Pods, Iw x.like.Has.Dev, L124 x.like.Labels, L126 x.like.Taints, .bool x.like.Ready, Z9 ob x.names cap, Iw x.limit], Q9 ob cap x.names] (fun r ob0_12 cap0_12=>.str r.1) (fun r ob0_12 cap0_12=>[.box b 88 [L30 r.2.ms, L50 r.2.bs, .str r.2.like.Name, .str r.2.like.Group, Iw r.2.like.Has.Cpu, Iw r.2.like.Has.Mem, Iw r.2.like.Has.Disk, Iw r.2.like.Has.Pods, Iw r.2.like.Has.Dev, L124 r.2.like.Labels, L126 r.2.like.Taints, .bool r.2.like.Ready, Z9 ob0_12 r.2.names cap0_12, Iw r.2.limit], Q9 ob0_12 cap0_12 r.2.names]) := by
 refine Cg [.tmp 4] Tryz.func53 R R R fun r hm=>?_
 unfold pack_packer_place at hm
 refine Ah<|Ad R R<|A9 R R fun b2=>Ab R R (Ai R)<|Ac<|Af<|Ah<|Aa tbk [1] 4 R R<|Ab R R (C2 VV.str R Bf)<|Ab R R (Al R)<|Ac<|Bq hm (fun _ (gg:Option Nat)=>[(0,.ptr b 0),(3,.ptr b2 0)]) (fun _ (gg:Option Nat)=>[X48 b2 p,.box b 88 [L30 x.ms,L50 x.bs,.str x.like.Name,.str x.like.Group,Iw x.like.Has.Cpu,Iw x.like.Has.Mem,Iw x.like.Has.Disk,Iw x.like.Has.Pods,Iw x.like.Has.Dev,L124 x.like.Labels,L126 x.like.Taints,.bool x.like.Ready,Z9 gg x.names cap,Iw x.limit],Q9 gg cap x.names]) (fun o hm h3=>?_) fun j ob4 hm=> ?_
 ·refine Bh (fun zn (zs:Int)=>pack_packer_place.l1 x p zn zs) (fun zs (zg:Option Nat)=>[(0,.ptr b 0),(3,.ptr b2 0),(12,Z9 zg x.names cap),(13,Iw (x.names.length : Int)),(14,Iw zs)]) (fun _ (zg:Option Nat)=>[X48 b2 p,.box b 88 [L30 x.ms,L50 x.bs,.str x.like.Name,.str x.like.Group,Iw x.like.Has.Cpu,Iw x.like.Has.Mem,Iw x.like.Has.Disk,Iw x.like.Has.Pods,Iw x.like.Has.Dev,L124 x.like.Labels,L126 x.like.Taints,.bool x.like.Ready,Z9 zg x.names cap,Iw x.limit],Q9 zg cap x.names]) _ _ (fun _=>R) hm (Ae [0,0,0] R R) fun n v2 ob3 hm=> ?_
  rw [pack_packer_place.l1] at hm
  refine Ag tbk [] R R<|Af<|Ak hm R (fun h4 hm=>?_) fun h4 hm=> ?_
  ·refine Aj<|Af<|Aw<|Ah<|Bd hm fun x2 h5 hm=>Cv 2 R (gl_pos VV.str h5) fun b3 h6=> ?_
   subst h6
   exact Ab R R (Cy VV.str R R el51 h5)<|Ab R R (Cr (i:=2) (y:=VV.str x2) R R R (gl_map _ (gl_some h5).2) ld9 R)<|Ab R R (Ai R)<|Ac<|Af<|Bb 0 mixed<|Au tbk [0,1,2,3,4,5,6,7,8,9] [1,1,0] (by kernel_rfl) R R R<|Ao 10 (by kernel_rfl)<|Aq R R R<|An hm 0 R fn95 R (K113 _ _ _ _) fun r hm=>A6 11 R R R (by kernel_rfl) (A2 R R R)<|A5 (by kernel_rfl)<|Ak hm R (fun h8 hm=>Ag tbk [] R R<|have hm:=Lr hm h3;Rg2 hm R [1,1] (some b3) cap (.cons (.tmp _ _ R) .nil) R R) fun h8 hm=>Aj<|A1 tbk [] R R<|Ap _ _ hm (Ae [0,0,0] R R)
  exact A0<|Ar _ hm (Ae [0,0,0] R R)
 refine Af<|Af<|Bb 0 mixed<|Au tbk [0,1,2,3] [1] (by kernel_rfl) R R R<|A6 4 R R R (by kernel_rfl) (C2 VV.str R Bf)<|Au tbk [5,6,7,8,9] [1] (by kernel_rfl) R R R<|A5 (by kernel_rfl)<|Ak hm R (fun h9 hm=>Ag tbk [] R R<|Rg2 hm R [1,1] ob4 cap (.cons (.tmp _ _ R) .nil) R R) fun h9 hm=>Aj<|Cz hm (fun _ (gg:Nat)=>[(0,.ptr b 0),(3,.ptr b2 0),(7,.ptr gg 0)]) (fun m2 (gg:Nat)=>[X30 gg m2,X48 b2 p,.box b 88 [L30 x.ms,L50 x.bs,.str x.like.Name,.str x.like.Group,Iw x.like.Has.Cpu,Iw x.like.Has.Mem,Iw x.like.Has.Disk,Iw x.like.Has.Pods,Iw x.like.Has.Dev,L124 x.like.Labels,L126 x.like.Taints,.bool x.like.Ready,Z9 ob4 x.names cap,Iw x.limit],Q9 ob4 cap x.names]) (fun o2 hm=>?_) fun m2 b4 hm=> ?_
 ·refine Bb 0 mixed<|Au tbk [0,1,2,3,4,5,6,7] [1,1] (by kernel_rfl) R R R<|A6 8 R R R (by kernel_rfl) (C2 VV.str R Bf)<|A6 9 R R R (by kernel_rfl) (A2 R R R)<|?_
  refine B0 [10,11] (by kernel_rfl) ⟨?_,?_,trivial⟩
  ·exact Aq R R R<|An hm 0 R fn15 R (K115 _ _) fun r2 hm=>Ao 11 (by kernel_rfl)<|Aq R R R<|Av z30 fun b5=>Ao 12 (by kernel_rfl)<|Aq R R R<|Am (i:=0) R R R ld30 R R R<|A5 (by kernel_rfl)<|As _ hm (Ae [0,0,0,0] R R)
  ·exact Aq R R R<|Av z30 fun b6=>Ao 10 (by kernel_rfl)<|Aq R R R<|An hm 0 R fn15 R (K115 _ _) fun r3 hm=>Ao 12 (by kernel_rfl)<|Aq R R R<|Am (i:=0) R R R ld30 R R R<|A5 (by kernel_rfl)<|As _ hm (Ae [0,0,0,0] R R)
 refine Af<|Bb 0 mixed<|Au tbk [0,1,2,3,4,5,6,7] [2,2] (by kernel_rfl) R R R<|A6 8 R R R (by kernel_rfl) (Ax T_api_Machine.vv R B2)<|Au tbk [9,10,11,12] [2] (by kernel_rfl) R R R<|A6 13 R R R (by kernel_rfl) (Ax T_api_Machine.vv R B2)<|Bd hm fun v3 h17 hm=>A6 14 R R R (by kernel_rfl) (VP.slice3 (f:=T_api_Machine.vv) el22 R R R R R h17)<|Au tbk [15] [0] (by kernel_rfl) R R R<|Ao 16 (by kernel_rfl)<|Aq R R R<|A7 ap22 R R R R R fun b7=>Ao 17 (by kernel_rfl)<|Bd hm fun l2 h19 hm=>Aq R R R<|VO.appFl (f:=T_api_Machine.vv) (l2:=[m2]) ap22 R (sT_row 0 T_api_Machine.vv el22 R R) h19<|A6 18 R R R (by kernel_rfl) (Ai R)<|A5 (by kernel_rfl)<|Af<|Af<|Bb 0 mixed<|Au tbk [0,1,2,3,4,5,6,7] [3,2,1] (by kernel_rfl) R R R<|Ao 8 (by kernel_rfl)<|Aq R R R<|An hm 0 R fn95 R (K113 _ _ _ _) fun r4 hm=>A6 9 R R R (by kernel_rfl) (A2 R R R)<|A5 (by kernel_rfl)<|Ak hm R (fun h21 hm=>Ag tbk [] R R<|Rg2 hm R [3,3] ob4 cap (.cons (.tmp _ _ R) .nil) R R) fun h21 hm=>Aj<|Ah<|Aa tbk [] 4 R R<|Ad R R<|Am (i:=3) R R R ld22 R R R<|Ac<|Af<|B8 (Ck [3,3,0,0,0] R)<|Bb 2 mixed<|Au tbk [0,1,2,3,5,6] [1] (by kernel_rfl) R R R<|?_
 refine B0 [4,7] (by kernel_rfl) ⟨?_,?_,trivial⟩
 ·exact Aq R R R<|Dc (Dd (i:=0) R R ld51 R)<|Ao 7 (by kernel_rfl)<|Aq R R R<|A7 ap51 R R R R R fun b8=>Ao 8 (by kernel_rfl)<|Bd hm fun l3 h23 hm=>Aq R R R<|B1 2 VV.str (l:=x.names) (l2:=[m2.Name]) ap51 R R (sT_row 0 VV.str el51 R R) h23 fun ob5 cap2=>Au tbk [9,10] [] (by kernel_rfl) R R R<|Ao 11 (by kernel_rfl)<|Aq R R R<|Am (i:=1) R R R ld51 R R R<|A5 (by kernel_rfl)<|Ag tbk [4] R R<|Rg2 hm R [1,1] ob5 cap2 (.cons (.tmp _ _ R) .nil) R R
 ·exact Aq R R R<|A7 ap51 R R R R R fun b9=>Ao 4 (by kernel_rfl)<|Aq R R R<|Dc (Dd (i:=1) R R ld51 R)<|Ao 8 (by kernel_rfl)<|Bd hm fun l4 h25 hm=>Aq R R R<|B1 2 VV.str (l:=x.names) (l2:=[m2.Name]) ap51 R R (sT_row 0 VV.str el51 R R) h25 fun ob6 cap3=>Au tbk [9,10] [] (by kernel_rfl) R R R<|Ao 11 (by kernel_rfl)<|Aq R R R<|Am (i:=1) R R R ld51 R R R<|A5 (by kernel_rfl)<|Ag tbk [4] R R<|Rg2 hm R [1,1] ob6 cap3 (.cons (.tmp _ _ R) .nil) R R

/-! trireme/fit.Put -/
def fit_Put.l1 (p : T_api_Pod) : List T_api_Bound → Nat → (List T_api_Bound) → Option (List T_api_Bound)
 | [], k, l2 => some l2
 | x :: l4, k, l2 =>
  if (!(V.seq x.Pod.Name p.Name)) = true then
   (V.ap 288 l2 [x]).bind fun l5 =>
   fit_Put.l1 p l4 (k + 1) l5
  else
   fit_Put.l1 p l4 (k + 1) l2
def fit_Put (bs : List T_api_Bound) (p : T_api_Pod) (on_ : ByteArray) : Option (List T_api_Bound) :=
 (fit_Put.l1 p bs 0 ([] : List T_api_Bound)).bind fun l32 =>
 (V.ap 288 l32 [(⟨p, on_⟩ : T_api_Bound)]).bind fun l6 =>
 some l6
theorem K117 (bs : List T_api_Bound) (p : T_api_Pod) (on_ : ByteArray) : VS2 Tryz.prog 54 (fit_Put bs p on_) [L50 bs, T_api_Pod.vv p, .str on_] [] (fun r ob0 cap0=>Z50 ob0 r cap0) (fun r ob0 cap0=>[Q50 ob0 cap0 r]) := by
 refine Cg [.tmp 6] Tryz.func54 R R R fun r hm=>?_
 unfold fit_Put at hm
 refine Ah<|Ad R R<|A9 R R fun b=>Ab R R (Ai R)<|Ac<|Ag tbk [] R R<|Af<|Ah<|Ab R R (Al R)<|Ab R R (Ax T_api_Bound.vv R Bw)<|Ab R R (Al R)<|Ac<|Ce 10 R fun h6=>Bx hm (fun l32 (gg:Option Nat × Nat)=>[(2,.str on_),(4,.ptr b 0),(7,Z50 gg.1 l32 gg.2)]) (fun l32 (gg:Option Nat × Nat)=>[Q50 gg.1 gg.2 l32,X48 b p]) (fun o hm=>?_) fun l32=>Pq fun ob3 cap3 hm=> ?_
 ·refine Cp (bs) (fun zl zk (zs:List T_api_Bound)=>fit_Put.l1 p zl zk zs) (fun k zs (zg:Option Nat × Nat)=>[(2,.str on_),(4,.ptr b 0),(7,Z50 zg.1 zs zg.2),(10,L50 bs),(11,Iw (bs.length : Int)),(12,Iw (k : Int))]) (fun _ zs (zg:Option Nat × Nat)=>[Q50 zg.1 zg.2 zs,X48 b p]) _ (none,0) hm (Be (Ba 50) (Ae [0,0] R R)) (fun k l2=>Pq fun ob2 cap2 hk hm=>?_) fun k x l4 l2=>Pq fun ob2 cap2 h7 hm=> ?_
  ·rw [fit_Put.l1] at hm
   exact Ag tbk [] R R<|Af<|Ca R (k_end hk)<|A0<|As (ob2,cap2) hm (Ae [0,0] R R)
  rw [fit_Put.l1] at hm
  exact Ag tbk [] R R<|Af<|B9 R (k_lt h7)<|Aj<|Af<|Aw<|Ah<|Ab R R (Cj T_api_Bound.vv R R el23 h7)<|Ab R R (Bn R ld50 R)<|Ad R R<|Av z50 fun b2=>Ad R R<|Am (i:=0) R R R ld50 R R R<|Ac<|Ag tbk [0,2] R R<|Ak hm R (fun h9 hm=>Bk<|Aa tbk [0] 2 R R<|Ad R R<|A7 ap23 R R R R R fun b3=>Bd hm fun l5 h11 hm=>Ad R R<|B1 2 T_api_Bound.vv (l:=l2) (l2:=[x]) ap23 R R (sT_row 0 T_api_Bound.vv el23 R R) h11 fun ob4 cap4=>Ab R R (Ai R)<|Ac<|A1 tbk [] R R<|Ap _ (ob4,cap4) hm (Bl [2,2] R ⟨R,R,R,R,R,congrArg some (k_next h7 h6),trivial⟩)) fun h9 hm=>Aj<|A1 tbk [] R R<|Ap _ (ob2,cap2) hm (Bl [1,1] R ⟨R,R,R,R,R,congrArg some (k_next h7 h6),trivial⟩)
 exact Ah<|Aa tbk [1] 3 R R<|Ab R R (Bo pl50 R R)<|Ad R R<|A7 ap23 R R R R R fun b4=>Bd hm fun l6 h14 hm=>Ad R R<|B1 1 T_api_Bound.vv (l:=l32) (l2:=[(⟨p,on_⟩ : T_api_Bound)]) ap23 R R (sT_row 0 T_api_Bound.vv el23 R R) h14 fun ob5 cap5=>Ab R R (Ai R)<|Ac<|Rg2 hm R [1] ob5 cap5 (.cons (.tmp _ _ R) .nil) R R

/-! trireme/pack.Estimate -/
def pack_Estimate.l1 (l : List T_api_Pod) : List Int → Nat → T_pack_packer → (List T_api_Move) → Option (T_pack_packer × List T_api_Move)
 | [], k, x2, moves2 => some (x2, moves2)
 | x4 :: l2, k, x2, moves2 =>
  (V.gl l x4).bind fun x5 =>
  (pack_packer_place x2 x5).bind fun r2 =>
  if (!(V.seq r2.1 (⟨#[]⟩ : ByteArray))) = true then
   (fit_Put r2.2.bs x5 r2.1).bind fun r3 =>
   (V.ap 32 moves2 [(⟨x5.Name, r2.1⟩ : T_api_Move)]).bind fun moves4 =>
   pack_Estimate.l1 l l2 (k + 1) (⟨r2.2.ms, r3, r2.2.like, r2.2.names, r2.2.limit⟩ : T_pack_packer) moves4
  else
   pack_Estimate.l1 l l2 (k + 1) r2.2 moves2
def pack_Estimate (ms : List T_api_Machine) (bs : List T_api_Bound) (l : List T_api_Pod) (like : T_api_Machine) (limit : Int) : Option (List T_api_Move × Int) :=
 (pack_Order l like).bind fun r =>
 (pack_Estimate.l1 l r 0 (⟨ms, bs, like, ([] : List ByteArray), limit⟩ : T_pack_packer) ([] : List T_api_Move)).bind fun j =>
 some (j.2, (j.1.names.length : Int))
theorem K118 (ms : List T_api_Machine) (bs : List T_api_Bound) (l : List T_api_Pod) (like : T_api_Machine) (limit : Int) : VS2 Tryz.prog 13 (pack_Estimate ms bs l like limit) [L30 ms, L50 bs, L48 l, T_api_Machine.vv like, Iw limit] [] (fun r ob0 cap0=>.tup [Z53 ob0 r.1 cap0, Iw r.2]) (fun r ob0 cap0=>[Q53 ob0 cap0 r.1]) := by
 refine Cg [.tmp 10,.tmp 11] Tryz.func13 R R R fun r hm=>?_
 unfold pack_Estimate at hm
 refine Ah<|Ad R R<|A9 R R fun b=>Aa tbk [] 2 R R<|Ac<|Ah<|Aa tbk [0] 4 R R<|Ab R R (Bo pl88 R R)<|Ad R R<|A9 R R fun b2=>Ab R R (Ai R)<|Ac<|Ag tbk [] R R<|Af<|Ah<|Aa tbk [1] 2 R R<|Ad R R<|Cc hm 0 R fn18 R (K61 _ _) fun r ob cap hm=>Bp (Az 0 [(26,L3 r)] R ⟨⟨_,R,.here _ R⟩,trivial⟩ (FzH.refl _))<|Ab R R (Ax (VV.int .i64) R Bz)<|Ab R R (Al R)<|Ac<|Ce 26 R fun h11=>Bx hm (fun j (gg:Option Nat × Nat × Option Nat × Nat)=>[(12,.ptr b2 0),(13,Z53 gg.2.2.1 j.2 gg.2.2.2)]) (fun j (gg:Option Nat × Nat × Option Nat × Nat)=>[Q9 gg.1 gg.2.1 j.1.names,Q53 gg.2.2.1 gg.2.2.2 j.2,.box b2 88 [L30 j.1.ms,L50 j.1.bs,.str j.1.like.Name,.str j.1.like.Group,Iw j.1.like.Has.Cpu,Iw j.1.like.Has.Mem,Iw j.1.like.Has.Disk,Iw j.1.like.Has.Pods,Iw j.1.like.Has.Dev,L124 j.1.like.Labels,L126 j.1.like.Taints,.bool j.1.like.Ready,Z9 gg.1 j.1.names gg.2.1,Iw j.1.limit]]) (fun o hm=>?_) fun j=>Pq fun ob6=>Pq fun cap6=>Pq fun ob7 cap7 hm=> ?_
 ·refine Cp (r) (fun zl zk (zs:T_pack_packer × List T_api_Move)=>pack_Estimate.l1 l zl zk zs.1 zs.2) (fun k zs (zg:Option Nat × Nat × Option Nat × Nat)=>[(2,L48 l),(12,.ptr b2 0),(13,Z53 zg.2.2.1 zs.2 zg.2.2.2),(26,L3 r),(27,Iw (r.length : Int)),(28,Iw (k : Int))]) (fun _ zs (zg:Option Nat × Nat × Option Nat × Nat)=>[Q9 zg.1 zg.2.1 zs.1.names,Q53 zg.2.2.1 zg.2.2.2 zs.2,.box b2 88 [L30 zs.1.ms,L50 zs.1.bs,.str zs.1.like.Name,.str zs.1.like.Group,Iw zs.1.like.Has.Cpu,Iw zs.1.like.Has.Mem,Iw zs.1.like.Has.Disk,Iw zs.1.like.Has.Pods,Iw zs.1.like.Has.Dev,L124 zs.1.like.Labels,L126 zs.1.like.Taints,.bool zs.1.like.Ready,Z9 zg.1 zs.1.names zg.2.1,Iw zs.1.limit]]) ((⟨ms,bs,like,([] : List ByteArray),limit⟩ : T_pack_packer),([] : List T_api_Move)) (none,0,none,0) hm (Be (Ba 53) (Be (Ba 9) (Ae [0,0,0] R R))) (fun k=>Pq fun x2 moves2=>Pq fun ob4=>Pq fun cap4=>Pq fun ob5 cap5 hk hm=>?_) fun k x4 l2=>Pq fun x2 moves2=>Pq fun ob4=>Pq fun cap4=>Pq fun ob5 cap5 h12 hm=> ?_
  ·rw [pack_Estimate.l1] at hm
   exact Ag tbk [] R R<|Af<|Ca R (k_end hk)<|A0<|As (ob4,cap4,ob5,cap5) hm (Ae [0,0,0] R R)
  rw [pack_Estimate.l1] at hm
  exact Ag tbk [] R R<|Af<|B9 R (k_lt h12)<|Aj<|Af<|Aw<|Ah<|Ab R R (Cj (VV.int .i64) R R el41 h12)<|Aa tbk [] 2 R R<|Ac<|Ah<|Aa tbk [] 2 R R<|Bd hm fun x5 h13 hm=>Ab R R (A3 T_api_Pod.vv R R el24 h13)<|Ab R R (Bn R ld48 R)<|Ad R R<|Av z48 fun b3=>Ad R R<|Am (i:=0) R R R ld48 R R R<|Ac<|Ah<|Aa tbk [0] 2 R R<|Bp (Ck [3,1,0,0] R)<|Ad R R<|Cc hm 2 R fn53 R (K116 _ _ _ _ _) fun r2 ob8 cap8 hm=>Ab R R (Ai R)<|Ac<|Ag tbk [] R R<|Ak hm R (fun h16 hm=>Af<|Bb 1 mixed<|Au tbk [0,1,2,3,5,6] [1] (by kernel_rfl) R R R<|Ao 4 (by kernel_rfl)<|Aq R R R<|Dc (Dd (i:=0) R R ld23 R)<|Ao 7 (by kernel_rfl)<|Aq R R R<|Cc hm 0 R fn54 R (K117 _ _ _) fun r3 ob9 cap9 hm=>B7 (Az 0 [(48,L50 r3)] R ⟨⟨_,R,.here _ R⟩,trivial⟩ (FzH.refl _))<|Au tbk [8,9] [] (by kernel_rfl) R R R<|Ao 10 (by kernel_rfl)<|Aq R R R<|Am (i:=0) R R R ld23 R R R<|A5 (by kernel_rfl)<|Bk<|Aa tbk [2] 4 R R<|Ab R R (Bo pl53 R R)<|Ad R R<|A7 ap35 R R R R R fun b4=>Bd hm fun moves4 h20 hm=>Ad R R<|B1 4 T_api_Move.vv (l:=moves2) (l2:=[(⟨x5.Name,r2.1⟩ : T_api_Move)]) ap35 R R (sT_row 0 T_api_Move.vv el35 R R) h20 fun ob10 cap10=>Ab R R (Ai R)<|Ac<|A1 tbk [] R R<|Ap ((⟨r2.2.ms,r3,r2.2.like,r2.2.names,r2.2.limit⟩ : T_pack_packer),moves4) (ob8,cap8,ob10,cap10) hm (Bl [2,3,1] R ⟨R,R,R,R,R,congrArg some (k_next h12 h11),trivial⟩)) fun h16 hm=>Aj<|A1 tbk [] R R<|Ap (r2.2,moves2) (ob8,cap8,ob5,cap5) hm (Bl [1,2,0] R ⟨R,R,R,R,R,congrArg some (k_next h12 h11),trivial⟩)
 exact Af<|Bb 0 mixed<|Au tbk [0,1,2,3,4] [2] (by kernel_rfl) R R R<|A6 5 R R R (by kernel_rfl) (C2 VV.str R Bf)<|Au tbk [6,7] [] (by kernel_rfl) R R R<|A5 (by kernel_rfl)<|Rg2 hm R [1] ob7 cap7 (.cons (.tmp _ _ R) (.cons (.tmp _ _ R) .nil)) R R

/-! trireme/option.amount -/
def option_amount (r : T_api_Res) (kind : Int) : Option Int :=
 if (kind == 0) = true then
  some r.Cpu
 else
  some r.Mem
theorem K119 (r : T_api_Res) (kind : Int) : VS Tryz.prog 92 (option_amount r kind) [T_api_Res.vv r, Iw kind] [] Iw N0 := by
 refine A4 [.tmp 4] Tryz.func92 R R R fun r hm=>?_
 unfold option_amount at hm
 exact Ah<|Ad R R<|A9 R R fun b=>Ab R R (Ai R)<|Ac<|Af<|Ag tbk [] R R<|Ak hm R (fun h2 hm=>Ag tbk [0] R R<|Rt1 hm R [] R R R) fun h2 hm=>Aj<|Ag tbk [0] R R<|Rt1 hm R [] R R R

/-! math/bits.Mul64 -/
def math_bits_Mul64 (x : Int) (y : Int) : Option (Int × Int) :=
 (V.shr .u64 x (32 : Int)).bind fun v =>
 (V.shr .u64 y (32 : Int)).bind fun v2 =>
 (V.shr .u64 (IntKind.u64.wrap ((V.bAnd .u64 x 4294967295) * (V.bAnd .u64 y 4294967295))) (32 : Int)).bind fun v3 =>
 (V.shr .u64 (IntKind.u64.wrap ((IntKind.u64.wrap (v * (V.bAnd .u64 y 4294967295))) + v3)) (32 : Int)).bind fun v4 =>
 (V.shr .u64 (IntKind.u64.wrap ((V.bAnd .u64 (IntKind.u64.wrap ((IntKind.u64.wrap (v * (V.bAnd .u64 y 4294967295))) + v3)) 4294967295) + (IntKind.u64.wrap ((V.bAnd .u64 x 4294967295) * v2)))) (32 : Int)).bind fun v5 =>
 some ((IntKind.u64.wrap ((IntKind.u64.wrap ((IntKind.u64.wrap (v * v2)) + v4)) + v5)), (IntKind.u64.wrap (x * y)))
theorem K120 (x : Int) (y : Int) : VS Tryz.prog 123 (math_bits_Mul64 x y) [.int .u64 x, .int .u64 y] [] (fun r=>.tup [.int .u64 r.1, .int .u64 r.2]) N0 := by
 refine A4 [.tmp 4,.tmp 5] Tryz.func123 R R R fun r hm=>?_
 unfold math_bits_Mul64 at hm
 exact Ag tbk [] R R<|Ah<|Ab R R (Al R)<|Ab R R (Dh R R)<|Ab R R (Ai R)<|Ac<|Ah<|Ab R R (Al R)<|Bd hm fun v h1 hm=>Ab R R (Cx R R h1)<|Ab R R (Ai R)<|Ac<|Ah<|Ab R R (Al R)<|Ab R R (Dh R R)<|Ab R R (Ai R)<|Ac<|Ah<|Ab R R (Al R)<|Bd hm fun v2 h2 hm=>Ab R R (Cx R R h2)<|Ab R R (Ai R)<|Ac<|Ag tbk [] R R<|Ah<|Aa tbk [] 4 R R<|Bd hm fun v3 h3 hm=>Ab R R (Cx R R h3)<|Aa tbk [] 2 R R<|Ac<|Ah<|Ab R R (Al R)<|Ab R R (Dh R R)<|Ab R R (Ai R)<|Ac<|Ah<|Ab R R (Al R)<|Bd hm fun v4 h4 hm=>Ab R R (Cx R R h4)<|Ab R R (Ai R)<|Ac<|Ag tbk [] R R<|Ah<|Aa tbk [] 6 R R<|Bd hm fun v5 h5 hm=>Ab R R (Cx R R h5)<|Aa tbk [] 2 R R<|Ac<|Ag tbk [] R R<|Rt2 hm R [] R R R R

/-! math/bits.Len64 -/
def math_bits_Len64 (x : Int) : Option Int :=
 (if (decide (x ≥ 4294967296)) = true then
  (V.shr .u64 x (32 : Int)).bind fun v =>
  some (v, 32)
 else
  some (x, 0)).bind fun j =>
 if (decide (j.1 ≥ 65536)) = true then
  (V.shr .u64 j.1 (16 : Int)).bind fun v2 =>
  if (decide (v2 ≥ 256)) = true then
   (V.shr .u64 v2 (8 : Int)).bind fun v3 =>
   (V.gi (⟨#[0, 1, 2, 2, 3, 3, 3, 3, 4, 4, 4, 4, 4, 4, 4, 4, 5, 5, 5, 5, 5, 5, 5, 5, 5, 5, 5, 5, 5, 5, 5, 5, 6, 6, 6, 6, 6, 6, 6, 6, 6, 6, 6, 6, 6, 6, 6, 6, 6, 6, 6, 6, 6, 6, 6, 6, 6, 6, 6, 6, 6, 6, 6, 6, 7, 7, 7, 7, 7, 7, 7, 7, 7, 7, 7, 7, 7, 7, 7, 7, 7, 7, 7, 7, 7, 7, 7, 7, 7, 7, 7, 7, 7, 7, 7, 7, 7, 7, 7, 7, 7, 7, 7, 7, 7, 7, 7, 7, 7, 7, 7, 7, 7, 7, 7, 7, 7, 7, 7, 7, 7, 7, 7, 7, 7, 7, 7, 7, 8, 8, 8, 8, 8, 8, 8, 8, 8, 8, 8, 8, 8, 8, 8, 8, 8, 8, 8, 8, 8, 8, 8, 8, 8, 8, 8, 8, 8, 8, 8, 8, 8, 8, 8, 8, 8, 8, 8, 8, 8, 8, 8, 8, 8, 8, 8, 8, 8, 8, 8, 8, 8, 8, 8, 8, 8, 8, 8, 8, 8, 8, 8, 8, 8, 8, 8, 8, 8, 8, 8, 8, 8, 8, 8, 8, 8, 8, 8, 8, 8, 8, 8, 8, 8, 8, 8, 8, 8, 8, 8, 8, 8, 8, 8, 8, 8, 8, 8, 8, 8, 8, 8, 8, 8, 8, 8, 8, 8, 8, 8, 8, 8, 8, 8, 8, 8, 8, 8, 8, 8, 8, 8, 8, 8, 8, 8, 8]⟩ : ByteArray) (IntKind.u8.wrap v3)).bind fun v4 =>
   some (i64.wrap ((i64.wrap ((i64.wrap (j.2 + 16)) + 8)) + (i64.wrap v4)))
  else
   (V.gi (⟨#[0, 1, 2, 2, 3, 3, 3, 3, 4, 4, 4, 4, 4, 4, 4, 4, 5, 5, 5, 5, 5, 5, 5, 5, 5, 5, 5, 5, 5, 5, 5, 5, 6, 6, 6, 6, 6, 6, 6, 6, 6, 6, 6, 6, 6, 6, 6, 6, 6, 6, 6, 6, 6, 6, 6, 6, 6, 6, 6, 6, 6, 6, 6, 6, 7, 7, 7, 7, 7, 7, 7, 7, 7, 7, 7, 7, 7, 7, 7, 7, 7, 7, 7, 7, 7, 7, 7, 7, 7, 7, 7, 7, 7, 7, 7, 7, 7, 7, 7, 7, 7, 7, 7, 7, 7, 7, 7, 7, 7, 7, 7, 7, 7, 7, 7, 7, 7, 7, 7, 7, 7, 7, 7, 7, 7, 7, 7, 7, 8, 8, 8, 8, 8, 8, 8, 8, 8, 8, 8, 8, 8, 8, 8, 8, 8, 8, 8, 8, 8, 8, 8, 8, 8, 8, 8, 8, 8, 8, 8, 8, 8, 8, 8, 8, 8, 8, 8, 8, 8, 8, 8, 8, 8, 8, 8, 8, 8, 8, 8, 8, 8, 8, 8, 8, 8, 8, 8, 8, 8, 8, 8, 8, 8, 8, 8, 8, 8, 8, 8, 8, 8, 8, 8, 8, 8, 8, 8, 8, 8, 8, 8, 8, 8, 8, 8, 8, 8, 8, 8, 8, 8, 8, 8, 8, 8, 8, 8, 8, 8, 8, 8, 8, 8, 8, 8, 8, 8, 8, 8, 8, 8, 8, 8, 8, 8, 8, 8, 8, 8, 8, 8, 8, 8, 8, 8, 8]⟩ : ByteArray) (IntKind.u8.wrap v2)).bind fun v5 =>
   some (i64.wrap ((i64.wrap (j.2 + 16)) + (i64.wrap v5)))
 else
  if (decide (j.1 ≥ 256)) = true then
   (V.shr .u64 j.1 (8 : Int)).bind fun v6 =>
   (V.gi (⟨#[0, 1, 2, 2, 3, 3, 3, 3, 4, 4, 4, 4, 4, 4, 4, 4, 5, 5, 5, 5, 5, 5, 5, 5, 5, 5, 5, 5, 5, 5, 5, 5, 6, 6, 6, 6, 6, 6, 6, 6, 6, 6, 6, 6, 6, 6, 6, 6, 6, 6, 6, 6, 6, 6, 6, 6, 6, 6, 6, 6, 6, 6, 6, 6, 7, 7, 7, 7, 7, 7, 7, 7, 7, 7, 7, 7, 7, 7, 7, 7, 7, 7, 7, 7, 7, 7, 7, 7, 7, 7, 7, 7, 7, 7, 7, 7, 7, 7, 7, 7, 7, 7, 7, 7, 7, 7, 7, 7, 7, 7, 7, 7, 7, 7, 7, 7, 7, 7, 7, 7, 7, 7, 7, 7, 7, 7, 7, 7, 8, 8, 8, 8, 8, 8, 8, 8, 8, 8, 8, 8, 8, 8, 8, 8, 8, 8, 8, 8, 8, 8, 8, 8, 8, 8, 8, 8, 8, 8, 8, 8, 8, 8, 8, 8, 8, 8, 8, 8, 8, 8, 8, 8, 8, 8, 8, 8, 8, 8, 8, 8, 8, 8, 8, 8, 8, 8, 8, 8, 8, 8, 8, 8, 8, 8, 8, 8, 8, 8, 8, 8, 8, 8, 8, 8, 8, 8, 8, 8, 8, 8, 8, 8, 8, 8, 8, 8, 8, 8, 8, 8, 8, 8, 8, 8, 8, 8, 8, 8, 8, 8, 8, 8, 8, 8, 8, 8, 8, 8, 8, 8, 8, 8, 8, 8, 8, 8, 8, 8, 8, 8, 8, 8, 8, 8, 8, 8]⟩ : ByteArray) (IntKind.u8.wrap v6)).bind fun v7 =>
   some (i64.wrap ((i64.wrap (j.2 + 8)) + (i64.wrap v7)))
  else
   (V.gi (⟨#[0, 1, 2, 2, 3, 3, 3, 3, 4, 4, 4, 4, 4, 4, 4, 4, 5, 5, 5, 5, 5, 5, 5, 5, 5, 5, 5, 5, 5, 5, 5, 5, 6, 6, 6, 6, 6, 6, 6, 6, 6, 6, 6, 6, 6, 6, 6, 6, 6, 6, 6, 6, 6, 6, 6, 6, 6, 6, 6, 6, 6, 6, 6, 6, 7, 7, 7, 7, 7, 7, 7, 7, 7, 7, 7, 7, 7, 7, 7, 7, 7, 7, 7, 7, 7, 7, 7, 7, 7, 7, 7, 7, 7, 7, 7, 7, 7, 7, 7, 7, 7, 7, 7, 7, 7, 7, 7, 7, 7, 7, 7, 7, 7, 7, 7, 7, 7, 7, 7, 7, 7, 7, 7, 7, 7, 7, 7, 7, 8, 8, 8, 8, 8, 8, 8, 8, 8, 8, 8, 8, 8, 8, 8, 8, 8, 8, 8, 8, 8, 8, 8, 8, 8, 8, 8, 8, 8, 8, 8, 8, 8, 8, 8, 8, 8, 8, 8, 8, 8, 8, 8, 8, 8, 8, 8, 8, 8, 8, 8, 8, 8, 8, 8, 8, 8, 8, 8, 8, 8, 8, 8, 8, 8, 8, 8, 8, 8, 8, 8, 8, 8, 8, 8, 8, 8, 8, 8, 8, 8, 8, 8, 8, 8, 8, 8, 8, 8, 8, 8, 8, 8, 8, 8, 8, 8, 8, 8, 8, 8, 8, 8, 8, 8, 8, 8, 8, 8, 8, 8, 8, 8, 8, 8, 8, 8, 8, 8, 8, 8, 8, 8, 8, 8, 8, 8, 8]⟩ : ByteArray) (IntKind.u8.wrap j.1)).bind fun v8 =>
   some (i64.wrap (j.2 + (i64.wrap v8)))
theorem K121 (x : Int) : VS Tryz.prog 168 (math_bits_Len64 x) [.int .u64 x] [] Iw N0 := by
 refine A4 [.tmp 2] Tryz.func168 R R R fun r hm=>?_
 unfold math_bits_Len64 at hm
 exact Ag tbk [] R R<|Cz hm (fun j (_:Unit)=>[(0,.int .u64 j.1),(2,Iw j.2)]) (fun _ (_:Unit)=>[]) (fun o hm=>Ag tbk [] R R<|Ak hm R (fun h3 hm=>Ah<|Ab R R (Al R)<|Bd hm fun v h4 hm=>Ab R R (Cx R R h4)<|Ab R R (Ai R)<|Ac<|A1 tbk [] R R<|As () hm (Ae [] R R)) fun h3 hm=>Aj<|As () hm (Ae [] R R)) fun j _ hm=>Af<|Ag tbk [] R R<|Ak hm R (fun h5 hm=>Ah<|Ab R R (Al R)<|Bd hm fun v2 h6 hm=>Ab R R (Cx R R h6)<|Ab R R (Ai R)<|Ac<|A1 tbk [] R R<|Af<|Ag tbk [] R R<|Ak hm R (fun h7 hm=>Ah<|Ab R R (Al R)<|Bd hm fun v3 h8 hm=>Ab R R (Cx R R h8)<|Ab R R (Ai R)<|Ac<|A1 tbk [] R R<|Ah<|Aa tbk [] 2 R R<|Ab R R (B6 Cm Bi R)<|Bd hm fun v4 h9 hm=>Ab R R (Cn R R Ay h9)<|Ab R R (B6 Bi Bt R)<|Aa tbk [] 2 R R<|Ac<|Rt1 hm R [] R R R) fun h7 hm=>Aj<|Ah<|Aa tbk [] 2 R R<|Ab R R (B6 Cm Bi R)<|Bd hm fun v5 h10 hm=>Ab R R (Cn R R Ay h10)<|Ab R R (B6 Bi Bt R)<|Aa tbk [] 2 R R<|Ac<|Rt1 hm R [] R R R) fun h5 hm=>Aj<|Af<|Ag tbk [] R R<|Ak hm R (fun h11 hm=>Ah<|Ab R R (Al R)<|Bd hm fun v6 h12 hm=>Ab R R (Cx R R h12)<|Ab R R (Ai R)<|Ac<|A1 tbk [] R R<|Ah<|Aa tbk [] 2 R R<|Ab R R (B6 Cm Bi R)<|Bd hm fun v7 h13 hm=>Ab R R (Cn R R Ay h13)<|Ab R R (B6 Bi Bt R)<|Aa tbk [] 2 R R<|Ac<|Rt1 hm R [] R R R) fun h11 hm=>Aj<|Ah<|Aa tbk [] 2 R R<|Ab R R (B6 Cm Bi R)<|Bd hm fun v8 h14 hm=>Ab R R (Cn R R Ay h14)<|Ab R R (B6 Bi Bt R)<|Aa tbk [] 2 R R<|Ac<|Rt1 hm R [] R R R

/-! math/bits.LeadingZeros64 -/
def math_bits_LeadingZeros64 (x : Int) : Option Int :=
 (math_bits_Len64 x).bind fun r =>
 some (i64.wrap (64 - r))
theorem K122 (x : Int) : VS Tryz.prog 154 (math_bits_LeadingZeros64 x) [.int .u64 x] [] Iw N0 := by
 refine A4 [.tmp 2] Tryz.func154 R R R fun r hm=>?_
 unfold math_bits_LeadingZeros64 at hm
 exact Ag tbk [] R R<|Ah<|Ab R R (Al R)<|Ad R R<|An hm 0 R fn168 R (K121 _) fun r hm=>Aa tbk [] 2 R R<|Ac<|Rt1 hm R [] R R R

/-! math/bits.Div64 -/
def math_bits_Div64.l1 (v3 : Int) (v4 : Int) (v8 : Int) : Nat → Int → Int → Option Int
 | 0, _, _ => none
 | n + 1, q12, rhat2 =>
  if ((decide (q12 ≥ 4294967296)) || (decide ((IntKind.u64.wrap (q12 * (V.bAnd .u64 v3 4294967295))) > (IntKind.u64.wrap ((IntKind.u64.wrap (4294967296 * rhat2)) + v8))))) = true then
   if (decide ((IntKind.u64.wrap (rhat2 + v4)) ≥ 4294967296)) = true then
    some (IntKind.u64.wrap (q12 - 1))
   else
    math_bits_Div64.l1 v3 v4 v8 n (IntKind.u64.wrap (q12 - 1)) (IntKind.u64.wrap (rhat2 + v4))
  else
   some q12
def math_bits_Div64.l2 (v3 : Int) (v4 : Int) (v7 : Int) : Nat → Int → Int → Option Int
 | 0, _, _ => none
 | n2 + 1, rhat4, q02 =>
  if ((decide (q02 ≥ 4294967296)) || (decide ((IntKind.u64.wrap (q02 * (V.bAnd .u64 v3 4294967295))) > (IntKind.u64.wrap ((IntKind.u64.wrap (4294967296 * rhat4)) + (V.bAnd .u64 v7 4294967295)))))) = true then
   if (decide ((IntKind.u64.wrap (rhat4 + v4)) ≥ 4294967296)) = true then
    some (IntKind.u64.wrap (q02 - 1))
   else
    math_bits_Div64.l2 v3 v4 v7 n2 (IntKind.u64.wrap (rhat4 + v4)) (IntKind.u64.wrap (q02 - 1))
  else
   some q02
def math_bits_Div64 (hi : Int) (lo : Int) (y : Int) : Option (Int × Int) :=
 if (y == 0) = true then
  none
 else
  if (decide (y ≤ hi)) = true then
   none
  else
   if (hi == 0) = true then
    (V.quo lo y).bind fun v =>
    (V.rem lo y).bind fun v2 =>
    some ((IntKind.u64.wrap v), v2)
   else
    (math_bits_LeadingZeros64 y).bind fun r =>
    (V.shl .u64 y (IntKind.u64.wrap r)).bind fun v3 =>
    (V.shr .u64 v3 (32 : Int)).bind fun v4 =>
    (V.shl .u64 hi (IntKind.u64.wrap r)).bind fun v5 =>
    (V.shr .u64 lo (IntKind.u64.wrap (64 - (IntKind.u64.wrap r)))).bind fun v6 =>
    (V.shl .u64 lo (IntKind.u64.wrap r)).bind fun v7 =>
    (V.shr .u64 v7 (32 : Int)).bind fun v8 =>
    (V.quo (V.bOr .u64 v5 v6) v4).bind fun v9 =>
    (math_bits_Div64.l1 v3 v4 v8 FU (IntKind.u64.wrap v9) (IntKind.u64.wrap ((V.bOr .u64 v5 v6) - (IntKind.u64.wrap ((IntKind.u64.wrap v9) * v4))))).bind fun q132 =>
    (V.quo (IntKind.u64.wrap ((IntKind.u64.wrap ((IntKind.u64.wrap ((V.bOr .u64 v5 v6) * 4294967296)) + v8)) - (IntKind.u64.wrap (q132 * v3)))) v4).bind fun v10 =>
    (math_bits_Div64.l2 v3 v4 v7 FU (IntKind.u64.wrap ((IntKind.u64.wrap ((IntKind.u64.wrap ((IntKind.u64.wrap ((V.bOr .u64 v5 v6) * 4294967296)) + v8)) - (IntKind.u64.wrap (q132 * v3)))) - (IntKind.u64.wrap ((IntKind.u64.wrap v10) * v4)))) (IntKind.u64.wrap v10)).bind fun q032 =>
    (V.shr .u64 (IntKind.u64.wrap ((IntKind.u64.wrap ((IntKind.u64.wrap ((IntKind.u64.wrap ((IntKind.u64.wrap ((IntKind.u64.wrap ((V.bOr .u64 v5 v6) * 4294967296)) + v8)) - (IntKind.u64.wrap (q132 * v3)))) * 4294967296)) + (V.bAnd .u64 v7 4294967295))) - (IntKind.u64.wrap (q032 * v3)))) (IntKind.u64.wrap r)).bind fun v11 =>
    some ((IntKind.u64.wrap ((IntKind.u64.wrap (q132 * 4294967296)) + q032)), v11)
theorem K123 (hi : Int) (lo : Int) (y : Int) : VS Tryz.prog 124 (math_bits_Div64 hi lo y) [.int .u64 hi, .int .u64 lo, .int .u64 y] [] (fun r=>.tup [.int .u64 r.1, .int .u64 r.2]) N0 := by
 refine A4 [.tmp 6,.tmp 7] Tryz.func124 R R R fun r hm=>?_
 unfold math_bits_Div64 at hm
 refine Ag tbk [] R R<|Af<|Ag tbk [] R R<|Ak hm R (fun h1 hm=>absurd hm nofun) fun h1 hm=>Aj<|Af<|Ag tbk [] R R<|Ak hm R (fun h2 hm=>absurd hm nofun) fun h2 hm=>Aj<|Af<|Ag tbk [] R R<|Ak hm R (fun h3 hm=>Af<|Bb 0 mixed<|Au tbk [0,1] [] (by kernel_rfl) R R R<|Bd hm fun v h4 hm=>A6 2 R R R (by kernel_rfl) (C4 R R h4)<|Au tbk [3,4] [] (by kernel_rfl) R R R<|Bd hm fun v2 h5 hm=>A6 5 R R R (by kernel_rfl) (VP.remT R R h5)<|Au tbk [6,7] [] (by kernel_rfl) R R R<|A5 (by kernel_rfl)<|Rt2 hm R [] R R R R) fun h3 hm=>Aj<|Ah<|Ab R R (Al R)<|Ad R R<|An hm 0 R fn154 R (K122 _) fun r hm=>Ab R R (B6 Bt Tryz.underlying172 R)<|Ab R R (Ai R)<|Ac<|Ah<|Aa tbk [] 2 R R<|Bd hm fun v3 h7 hm=>Ab R R (VP.shlT R R h7)<|Ab R R (Ai R)<|Ac<|Ah<|Ab R R (Al R)<|Bd hm fun v4 h8 hm=>Ab R R (Cx R R h8)<|Ab R R (Ai R)<|Ac<|Ah<|Ab R R (Al R)<|Ab R R (Dh R R)<|Ab R R (Ai R)<|Ac<|Ah<|Aa tbk [] 2 R R<|Bd hm fun v5 h9 hm=>Ab R R (VP.shlT R R h9)<|Aa tbk [] 3 R R<|Bd hm fun v6 h10 hm=>Ab R R (Cx R R h10)<|Ab R R (VP.orT R R)<|Ab R R (Ai R)<|Ac<|Ah<|Aa tbk [] 2 R R<|Bd hm fun v7 h11 hm=>Ab R R (VP.shlT R R h11)<|Ab R R (Ai R)<|Ac<|Ah<|Ab R R (Al R)<|Bd hm fun v8 h12 hm=>Ab R R (Cx R R h12)<|Ab R R (Ai R)<|Ac<|Ah<|Ab R R (Al R)<|Ab R R (Dh R R)<|Ab R R (Ai R)<|Ac<|Ah<|Aa tbk [] 2 R R<|Bd hm fun v9 h13 hm=>Ab R R (C4 R R h13)<|Ab R R (Ai R)<|Ac<|Ag tbk [] R R<|Cz hm (fun q132 (_:Unit)=>[(2,.int .u64 v3),(8,.int .u64 (IntKind.u64.wrap r)),(9,.int .u64 v4),(10,.int .u64 (V.bAnd .u64 v3 (4294967295 : Int))),(11,.int .u64 (V.bOr .u64 v5 v6)),(13,.int .u64 v8),(14,.int .u64 (V.bAnd .u64 v7 (4294967295 : Int))),(15,.int .u64 q132)]) (fun _ (_:Unit)=>[]) (fun o hm=>?_) fun q132 _ hm=> ?_
 ·refine Bh (fun zn (zs:Int × Int)=>math_bits_Div64.l1 v3 v4 v8 zn zs.1 zs.2) (fun zs (_:Unit)=>[(2,.int .u64 v3),(8,.int .u64 (IntKind.u64.wrap r)),(9,.int .u64 v4),(10,.int .u64 (V.bAnd .u64 v3 (4294967295 : Int))),(11,.int .u64 (V.bOr .u64 v5 v6)),(13,.int .u64 v8),(14,.int .u64 (V.bAnd .u64 v7 (4294967295 : Int))),(15,.int .u64 zs.1),(16,.int .u64 zs.2)]) (fun _ (_:Unit)=>[]) ((IntKind.u64.wrap v9),(IntKind.u64.wrap ((V.bOr .u64 v5 v6) - (IntKind.u64.wrap ((IntKind.u64.wrap v9) * v4))))) () (fun _=>R) hm (Ae [] R R) fun n=>Pq fun q12 rhat2 _ hm=> ?_
  rw [math_bits_Div64.l1] at hm
  exact Af<|Ah<|Aa tbk [] 3 R R<|Cb tbk [] 9 78 69 R R R R R<|Ac<|Ak hm R (fun h17 hm=>Aj<|Aw<|Ag tbk [] R R<|Ag tbk [] R R<|Ag tbk [] R R<|Ak hm R (fun h18 hm=>A0<|As () hm (Ae [] R R)) fun h18 hm=>Aj<|Ap ((IntKind.u64.wrap (q12 - (1 : Int))),(IntKind.u64.wrap (rhat2 + v4))) () hm (Ae [] R R)) fun h17 hm=>A0<|As () hm (Ae [] R R)
 refine Ag tbk [] R R<|Ah<|Aa tbk [] 2 R R<|Bd hm fun v10 h19 hm=>Ab R R (C4 R R h19)<|Ab R R (Ai R)<|Ac<|Ag tbk [] R R<|Cz hm (fun q032 (_:Unit)=>[(2,.int .u64 v3),(8,.int .u64 (IntKind.u64.wrap r)),(14,.int .u64 (V.bAnd .u64 v7 (4294967295 : Int))),(15,.int .u64 q132),(17,.int .u64 (IntKind.u64.wrap ((IntKind.u64.wrap ((IntKind.u64.wrap ((V.bOr .u64 v5 v6) * (4294967296 : Int))) + v8)) - (IntKind.u64.wrap (q132 * v3))))),(18,.int .u64 q032)]) (fun _ (_:Unit)=>[]) (fun o2 hm=>?_) fun q032 _ hm=> ?_
 ·refine Bh (fun zn (zs:Int × Int)=>math_bits_Div64.l2 v3 v4 v7 zn zs.1 zs.2) (fun zs (_:Unit)=>[(2,.int .u64 v3),(8,.int .u64 (IntKind.u64.wrap r)),(9,.int .u64 v4),(10,.int .u64 (V.bAnd .u64 v3 (4294967295 : Int))),(14,.int .u64 (V.bAnd .u64 v7 (4294967295 : Int))),(15,.int .u64 q132),(16,.int .u64 zs.1),(17,.int .u64 (IntKind.u64.wrap ((IntKind.u64.wrap ((IntKind.u64.wrap ((V.bOr .u64 v5 v6) * (4294967296 : Int))) + v8)) - (IntKind.u64.wrap (q132 * v3))))),(18,.int .u64 zs.2)]) (fun _ (_:Unit)=>[]) ((IntKind.u64.wrap ((IntKind.u64.wrap ((IntKind.u64.wrap ((IntKind.u64.wrap ((V.bOr .u64 v5 v6) * (4294967296 : Int))) + v8)) - (IntKind.u64.wrap (q132 * v3)))) - (IntKind.u64.wrap ((IntKind.u64.wrap v10) * v4)))),(IntKind.u64.wrap v10)) () (fun _=>R) hm (Ae [] R R) fun n2=>Pq fun rhat4 q02 _ hm=> ?_
  rw [math_bits_Div64.l2] at hm
  exact Af<|Ah<|Aa tbk [] 3 R R<|Cb tbk [] 9 113 104 R R R R R<|Ac<|Ak hm R (fun h23 hm=>Aj<|Aw<|Ag tbk [] R R<|Ag tbk [] R R<|Ag tbk [] R R<|Ak hm R (fun h24 hm=>A0<|As () hm (Ae [] R R)) fun h24 hm=>Aj<|Ap ((IntKind.u64.wrap (rhat4 + v4)),(IntKind.u64.wrap (q02 - (1 : Int)))) () hm (Ae [] R R)) fun h23 hm=>A0<|As () hm (Ae [] R R)
 exact Ah<|Aa tbk [] 13 R R<|Bd hm fun v11 h25 hm=>Ab R R (Cx R R h25)<|Aa tbk [] 2 R R<|Ac<|Rt2 hm R [] R R R R

/-! trireme/option.part -/
def option_part (has : Int) (needs : Int) : Option Int :=
 if ((decide (has ≤ 0)) || (decide (needs ≥ has))) = true then
  some 0
 else
  (math_bits_Mul64 (IntKind.u64.wrap (i64.wrap (has - needs))) (1000 : Int)).bind fun r =>
  (math_bits_Div64 r.1 r.2 (IntKind.u64.wrap has)).bind fun r2 =>
  some (i64.wrap r2.1)
theorem K124 (has : Int) (needs : Int) : VS Tryz.prog 93 (option_part has needs) [Iw has, Iw needs] [] Iw N0 := by
 refine A4 [.tmp 4] Tryz.func93 R R R fun r hm=>?_
 unfold option_part at hm
 exact Ag tbk [] R R<|Af<|Ah<|Aa tbk [] 3 R R<|Cb tbk [] 4 15 11 R R R R R<|Ac<|Ak hm R (fun h2 hm=>Ag tbk [] R R<|Rt1 hm R [] R R R) fun h2 hm=>Aj<|Ah<|Aa tbk [] 3 R R<|Ab R R (B6 Bt Cm R)<|Ad R R<|An hm 0 R fn123 R (K120 _ _) fun r hm=>Aa tbk [] 5 R R<|Ac<|Ah<|Aa tbk [] 3 R R<|Ab R R (B6 Bt Cm R)<|Ad R R<|An hm 0 R fn124 R (K123 _ _ _) fun r2 hm=>Aa tbk [] 5 R R<|Ac<|Ah<|Ab R R (Al R)<|Ab R R (B6 Cm Bt R)<|Ab R R (Ai R)<|Ac<|Rt1 hm R [] R R R

/-! trireme/option.Waste -/
def option_Waste.l2 (v2 : Int) : List T_api_Pod → Nat → Int → Option Int
 | [], k, needs2 => some needs2
 | x :: l3, k, needs2 =>
  (option_amount x.Need v2).bind fun r =>
  option_Waste.l2 v2 l3 (k + 1) (i64.wrap (needs2 + r))
def option_Waste.l1 (l : List T_api_Pod) (like : T_api_Machine) (n : Int) : Nat → Int → Int → Option Int
 | 0, _, _ => none
 | n2 + 1, sum2, v2 =>
  if (decide (v2 < 2)) = true then
   (option_Waste.l2 v2 l 0 (0 : Int)).bind fun needs32 =>
   (option_amount like.Has v2).bind fun r2 =>
   (option_part (i64.wrap (n * r2)) needs32).bind fun r3 =>
   option_Waste.l1 l like n n2 (i64.wrap (sum2 + r3)) (i64.wrap (v2 + 1))
  else
   some sum2
def option_Waste (l : List T_api_Pod) (like : T_api_Machine) (n : Int) : Option Int :=
 if (decide (n < 1)) = true then
  some 0
 else
  (option_Waste.l1 l like n FU 0 (0 : Int)).bind fun sum32 =>
  (V.quo sum32 (2 : Int)).bind fun v3 =>
  some (i64.wrap v3)
theorem K125 (l : List T_api_Pod) (like : T_api_Machine) (n : Int) : VS Tryz.prog 48 (option_Waste l like n) [L48 l, T_api_Machine.vv like, Iw n] [] Iw N0 := by
 refine A4 [.tmp 6] Tryz.func48 R R R fun r hm=>?_
 unfold option_Waste at hm
 refine Ah<|Ad R R<|A9 R R fun b=>Ab R R (Ai R)<|Ac<|Af<|Ag tbk [] R R<|Ak hm R (fun h2 hm=>Ag tbk [] R R<|Rt1 hm R [] R R R) fun h2 hm=>Aj<|Ag tbk [] R R<|Af<|Ag tbk [] R R<|Bx hm (fun sum32 (_:Unit)=>[(7,Iw sum32)]) (fun _ (_:Unit)=>[]) (fun o hm=>?_) fun sum32 _ hm=> ?_
 ·refine Bh (fun zn (zs:Int × Int)=>option_Waste.l1 l like n zn zs.1 zs.2) (fun zs (_:Unit)=>[(0,L48 l),(2,Iw n),(4,.ptr b 0),(7,Iw zs.1),(14,Iw zs.2)]) (fun _ (_:Unit)=>[X30 b like]) ((0 : Int),(0 : Int)) () (fun _=>R) hm (Ae [0] R R) fun n2=>Pq fun sum2 v2 _ hm=> ?_
  rw [option_Waste.l1] at hm
  refine Ag tbk [] R R<|Af<|Ak hm R (fun h5 hm=>?_) fun h5 hm=> ?_
  ·refine Aj<|Af<|Aw<|Ag tbk [] R R<|Ag tbk [] R R<|Af<|Ah<|Ab R R (Al R)<|Ab R R (Ax T_api_Pod.vv R Br)<|Ab R R (Al R)<|Ac<|Ce 0 R fun h8=>Bx hm (fun needs32 (_:Unit)=>[(0,L48 l),(2,Iw n),(4,.ptr b 0),(7,Iw sum2),(8,Iw v2),(9,Iw needs32),(14,Iw v2)]) (fun _ (_:Unit)=>[X30 b like]) (fun o2 hm=>?_) fun needs32 _ hm=> ?_
   ·refine Cp (l) (fun zl zk (zs:Int)=>option_Waste.l2 v2 zl zk zs) (fun k zs (_:Unit)=>[(0,L48 l),(2,Iw n),(4,.ptr b 0),(7,Iw sum2),(8,Iw v2),(9,Iw zs),(14,Iw v2),(17,L48 l),(18,Iw (l.length : Int)),(19,Iw (k : Int))]) (fun _ _ (_:Unit)=>[X30 b like]) _ () hm (Ae [0] R R) (fun k needs2 _ hk hm=>?_) fun k x l3 needs2 _ h9 hm=> ?_
    ·rw [option_Waste.l2] at hm
     exact Ag tbk [] R R<|Af<|Ca R (k_end hk)<|A0<|As () hm (Ae [0] R R)
    rw [option_Waste.l2] at hm
    exact Ag tbk [] R R<|Af<|B9 R (k_lt h9)<|Aj<|Af<|Aw<|Ah<|Ab R R (Cj T_api_Pod.vv R R el24 h9)<|Ab R R (Bn R ld48 R)<|Ad R R<|Av z48 fun b2=>Ad R R<|Am (i:=0) R R R ld48 R R R<|Ac<|Bk<|Aa tbk [0] 4 R R<|Ad R R<|An hm 0 R fn92 R (K119 _ _) fun r hm=>Aa tbk [] 2 R R<|Ac<|A1 tbk [] R R<|Ap _ () hm (Bl [1] R ⟨R,R,R,R,R,R,R,R,R,congrArg some (k_next h9 h8),trivial⟩)
   exact Bk<|Aa tbk [0] 5 R R<|Ad R R<|An hm 0 R fn92 R (K119 _ _) fun r2 hm=>Aa tbk [] 2 R R<|Ad R R<|An hm 0 R fn93 R (K124 _ _) fun r3 hm=>Aa tbk [] 2 R R<|Ac<|A1 tbk [] R R<|Ap ((IntKind.i64.wrap (sum2 + r3)),(IntKind.i64.wrap (v2 + (1 : Int)))) () hm (Ae [0] R R)
  exact A0<|As () hm (Ae [] R R)
 exact Ah<|Ab R R (Al R)<|Bd hm fun v3 h14 hm=>Ab R R (C4 R R h14)<|Ab R R (Ai R)<|Ac<|Rt1 hm R [] R R R

/-! trireme/option.Of -/
def option_Of.l1 (r : List T_api_Move × Int) : Nat → (List (ByteArray × Int)) → Int → Option (List (ByteArray × Int))
 | 0, _, _ => none
 | n + 1, went2, v2 =>
  if (decide (v2 < (r.1.length : Int))) = true then
   (V.gl r.1 v2).bind fun x =>
   option_Of.l1 r n (V.mp went2 x.Pod (i64.wrap (((V.mg went2 x.Pod).getD 0) + 1))) (i64.wrap (v2 + 1))
  else
   some went2
def option_Of.l2 (went32 : (List (ByteArray × Int))) : List T_api_Pod → Nat → T_api_Option → (List T_api_Pod) → Option (T_api_Option × List T_api_Pod)
 | [], k, o3, some_2 => some (o3, some_2)
 | x2 :: l3, k, o3, some_2 =>
  if (decide (((V.mg went32 x2.Name).getD 0) > 0)) = true then
   (V.ap 16 o3.Pods [x2.Name]).bind fun l4 =>
   (V.ap 272 some_2 [x2]).bind fun some_4 =>
   option_Of.l2 went32 l3 (k + 1) (⟨o3.Group, o3.Count, l4, o3.Waste, o3.Price, o3.Rank⟩ : T_api_Option) some_4
  else
   option_Of.l2 went32 l3 (k + 1) o3 some_2
def option_Of (ms : List T_api_Machine) (bs : List T_api_Bound) (l : List T_api_Pod) (g : T_api_Group) (room : Int) : Option (T_api_Option × Bool) :=
 (pack_Estimate ms bs l g.Like room).bind fun r =>
 if (r.2 == 0) = true then
  some ((⟨(⟨#[]⟩ : ByteArray), 0, ([] : List ByteArray), 0, 0, 0⟩ : T_api_Option), false)
 else
  (option_Of.l1 r FU ([] : List (ByteArray × Int)) (0 : Int)).bind fun went32 =>
  (option_Of.l2 went32 l 0 (⟨g.Name, r.2, ([] : List ByteArray), 0, (min (i64.wrap (r.2 * g.Price)) 1125899906842624), g.Rank⟩ : T_api_Option) ([] : List T_api_Pod)).bind fun j =>
  (option_Waste j.2 g.Like r.2).bind fun r2 =>
  some ((⟨j.1.Group, j.1.Count, j.1.Pods, r2, j.1.Price, j.1.Rank⟩ : T_api_Option), true)
theorem K126 (ms : List T_api_Machine) (bs : List T_api_Bound) (l : List T_api_Pod) (g : T_api_Group) (room : Int) : VS Tryz.prog 88 (option_Of ms bs l g room) [L30 ms, L50 bs, L48 l, T_api_Group.vv g, Iw room] [] (fun r=>.tup [T_api_Option.vv r.1, .bool r.2]) N0 := by
 refine A4 [.cell 10 83,.tmp 11] Tryz.func88 R R R fun r hm=>?_
 unfold option_Of at hm
 refine Ah<|Ad R R<|A9 R R fun b=>Ad R R<|Av z83 fun b2=>Ab R R (Ai R)<|Ac<|Ah<|Aa tbk [1] 6 R R<|Ad R R<|Cc hm 0 R fn13 R (K118 _ _ _ _ _) fun r ob cap hm=>Aa tbk [] 5 R R<|Ac<|Af<|Ag tbk [] R R<|Ak hm R (fun h5 hm=>Ah<|Ab R R (Bo pl83 R R)<|Ad R R<|Am (i:=1) R R R ld83 R R R<|Ab R R (Ai R)<|Ac<|B8 (Ba 9)<|B8 (Az (H':=[Q53 ob cap r.1,X83 b2 (⟨(⟨#[]⟩ : ByteArray),(0 : Int),([] : List ByteArray),(0 : Int),(0 : Int),(0 : Int)⟩ : T_api_Option),X81 b g]) 0 [] R trivial ⟨.same _,.box _ _ _ _ ⟨.same _,.same _,.here _ R,.same _,.same _,.same _,trivial⟩,.same _,trivial⟩)<|Rt0 hm R [] (.cons (.cell _ _ _ _ 1 _ _ _ _ R R ld83 R) (.cons (.tmp _ _ R) .nil)) R R) fun h5 hm=>Aj<|Ah<|Ad R R<|Df fun b3=>Ab R R (Ai R)<|Ac<|Af<|Ah<|Ab R R (Al R)<|Ab R R (C2 T_api_Move.vv R Tryz.underlying35)<|Ab R R (Al R)<|Ac<|Bx hm (fun _ (_:Unit)=>[(2,L48 l),(8,.ptr b 0),(10,.ptr b2 0),(13,Iw r.2),(14,.map b3)]) (fun went32 (_:Unit)=>[.map b3 (List.map (pf VV.str (VV.int .i64)) went32),.box b2 83 [.str (⟨#[]⟩ : ByteArray),Iw (0 : Int),.sl none 0 0,Iw (0 : Int),Iw (0 : Int),Iw (0 : Int)],X81 b g]) (fun o hm=>?_) fun went32 _ hm=> ?_
 ·refine Bh (fun zn (zs:List (ByteArray × Int) × Int)=>option_Of.l1 r zn zs.1 zs.2) (fun zs (zg:Option Nat)=>[(2,L48 l),(8,.ptr b 0),(10,.ptr b2 0),(13,Iw r.2),(14,.map b3),(35,Z53 zg r.1 cap),(36,Iw (r.1.length : Int)),(37,Iw zs.2)]) (fun zs (zg:Option Nat)=>[.map b3 (List.map (pf VV.str (VV.int .i64)) zs.1),Q53 zg cap r.1,.box b2 83 [.str (⟨#[]⟩ : ByteArray),Iw (0 : Int),.sl none 0 0,Iw (0 : Int),Iw (0 : Int),Iw (0 : Int)],X81 b g]) (([] : List (ByteArray × Int)),(0 : Int)) _ (fun _=>R) hm (Ae [0,0,0,0] R R) fun n=>Pq fun went2 v2 ob3 hm=> ?_
  rw [option_Of.l1] at hm
  refine Ag tbk [] R R<|Af<|Ak hm R (fun h9 hm=>?_) fun h9 hm=> ?_
  ·refine Aj<|Af<|Aw<|Ah<|Bd hm fun x h10 hm=>Cv 1 R (gl_pos T_api_Move.vv h10) fun b4 h11=> ?_
   subst h11
   exact Ab R R (Cy T_api_Move.vv R R el35 h10)<|Ab R R (Cr (i:=1) (y:=T_api_Move.vv x) R R R (gl_map _ (gl_some h10).2) ld53 R)<|Ad R R<|Av z53 fun b5=>Ad R R<|Am (i:=0) R R R ld53 R R R<|Ac<|Bk<|Aa tbk [0] 3 R R<|Ab R R (C1 1 (kf:=VV.str) (vf:=(VV.int .i64)) (l:=went2) (k:=x.Pod) (z:=(0 : Int)) false mk9 Cd R R R zc3 R)<|Ab R R (A2 R R R)<|Ad R R<|Da 1 (kf:=VV.str) (vf:=(VV.int .i64)) (l:=went2) (k:=x.Pod) (z:=(IntKind.i64.wrap (((V.mg went2 x.Pod).getD (0 : Int)) + (1 : Int)))) mk9 Cd R R R R<|Ac<|A1 tbk [] R R<|Ap ((V.mp went2 x.Pod (IntKind.i64.wrap (((V.mg went2 x.Pod).getD (0 : Int)) + (1 : Int)))),(IntKind.i64.wrap (v2 + (1 : Int)))) _ hm (Ae [1,1,1,1] R R)
  exact A0<|As () hm (Ae [0,1,1] R R)
 refine Ah<|Aa tbk [2,2] 7 R R<|Ab R R (C8 R R)<|Aa tbk [2] 2 R R<|Ab R R (Bo pl83 R R)<|Ad R R<|Av z83 fun b6=>Ad R R<|Am (i:=0) R R R ld83 R R R<|Ac<|Ag tbk [] R R<|Af<|Ah<|Ab R R (Al R)<|Ab R R (Ax T_api_Pod.vv R Br)<|Ab R R (Al R)<|Ac<|Ce 58 R fun h20=>Bx hm (fun j (gg:Option Nat × Nat × Option Nat × Nat)=>[(8,.ptr b 0),(10,.ptr b2 0),(13,Iw r.2),(17,.ptr b6 0),(18,Z48 gg.2.2.1 j.2 gg.2.2.2)]) (fun j (gg:Option Nat × Nat × Option Nat × Nat)=>[Q9 gg.1 gg.2.1 j.1.Pods,Q48 gg.2.2.1 gg.2.2.2 j.2,.box b6 83 [.str j.1.Group,Iw j.1.Count,Z9 gg.1 j.1.Pods gg.2.1,Iw j.1.Waste,Iw j.1.Price,Iw j.1.Rank],.box b2 83 [.str (⟨#[]⟩ : ByteArray),Iw (0 : Int),.sl none 0 0,Iw (0 : Int),Iw (0 : Int),Iw (0 : Int)],X81 b g]) (fun o5 hm=>?_) fun j=>Pq fun ob8=>Pq fun cap6=>Pq fun ob9 cap7 hm=> ?_
 ·refine Cp (l) (fun zl zk (zs:T_api_Option × List T_api_Pod)=>option_Of.l2 went32 zl zk zs.1 zs.2) (fun k zs (zg:Option Nat × Nat × Option Nat × Nat)=>[(8,.ptr b 0),(10,.ptr b2 0),(13,Iw r.2),(14,.map b3),(17,.ptr b6 0),(18,Z48 zg.2.2.1 zs.2 zg.2.2.2),(58,L48 l),(59,Iw (l.length : Int)),(60,Iw (k : Int))]) (fun _ zs (zg:Option Nat × Nat × Option Nat × Nat)=>[Q9 zg.1 zg.2.1 zs.1.Pods,Q48 zg.2.2.1 zg.2.2.2 zs.2,.box b6 83 [.str zs.1.Group,Iw zs.1.Count,Z9 zg.1 zs.1.Pods zg.2.1,Iw zs.1.Waste,Iw zs.1.Price,Iw zs.1.Rank],.map b3 (List.map (pf VV.str (VV.int .i64)) went32),.box b2 83 [.str (⟨#[]⟩ : ByteArray),Iw (0 : Int),.sl none 0 0,Iw (0 : Int),Iw (0 : Int),Iw (0 : Int)],X81 b g]) ((⟨g.Name,r.2,([] : List ByteArray),(0 : Int),(min (IntKind.i64.wrap (r.2 * g.Price)) (1125899906842624 : Int)),g.Rank⟩ : T_api_Option),([] : List T_api_Pod)) (none,0,none,0) hm (Be (Ba 48) (Be (Ba 9) (Ae [0,0,0,0,0,0] R R))) (fun k=>Pq fun o3 some_2=>Pq fun ob6=>Pq fun cap4=>Pq fun ob7 cap5 hk hm=>?_) fun k x2 l3=>Pq fun o3 some_2=>Pq fun ob6=>Pq fun cap4=>Pq fun ob7 cap5 h21 hm=> ?_
  ·rw [option_Of.l2] at hm
   exact Ag tbk [] R R<|Af<|Ca R (k_end hk)<|A0<|As (ob6,cap4,ob7,cap5) hm (Ae [0,0,0,1,1] R R)
  rw [option_Of.l2] at hm
  exact Ag tbk [] R R<|Af<|B9 R (k_lt h21)<|Aj<|Af<|Aw<|Ah<|Ab R R (Cj T_api_Pod.vv R R el24 h21)<|Ab R R (Bn R ld48 R)<|Ad R R<|Av z48 fun b7=>Ad R R<|Am (i:=0) R R R ld48 R R R<|Ac<|Ah<|Aa tbk [0] 3 R R<|Ab R R (C1 4 (kf:=VV.str) (vf:=(VV.int .i64)) (l:=went32) (k:=x2.Name) (z:=(0 : Int)) false mk9 Cd R R R zc3 R)<|Ab R R (A2 R R R)<|Ac<|Ak hm R (fun h23 hm=>Ah<|Aa tbk [3,0] 4 R R<|Ad R R<|A7 ap51 R R R R R fun b8=>Bd hm fun l4 h25 hm=>Ad R R<|B1 2 VV.str (l:=o3.Pods) (l2:=[x2.Name]) ap51 R R (sT_row 0 VV.str el51 R R) h25 fun ob10 cap8=>Ab R R (Cw R fa83_2)<|Ad R R<|Am (i:=4) R R R ld51 R R R<|Ac<|Bk<|Aa tbk [1] 2 R R<|Ad R R<|A7 ap24 R R R R R fun b9=>Bd hm fun some_4 h27 hm=>Ad R R<|B1 4 T_api_Pod.vv (l:=some_2) (l2:=[x2]) ap24 R R (sT_row 0 T_api_Pod.vv el24 R R) h27 fun ob11 cap9=>Ab R R (Ai R)<|Ac<|A1 tbk [] R R<|Ap ((⟨o3.Group,o3.Count,l4,o3.Waste,o3.Price,o3.Rank⟩ : T_api_Option),some_4) (ob10,cap8,ob11,cap9) hm (Bl [3,3,3,3,3,3] R ⟨R,R,R,R,R,R,R,R,congrArg some (k_next h21 h20),trivial⟩)) fun h23 hm=>Aj<|A1 tbk [] R R<|Ap (o3,some_2) (ob6,cap4,ob7,cap5) hm (Bl [1,1,1,1,1,1] R ⟨R,R,R,R,R,R,R,R,congrArg some (k_next h21 h20),trivial⟩)
 exact Ah<|Aa tbk [4] 4 R R<|Ad R R<|VO.ce hm (Az 1 [(18,L48 j.2),(81,L48 j.2)] R ⟨⟨_,R,.here _ R⟩,⟨_,R,.here _ R⟩,trivial⟩ (FzH.refl _)) [.same,.same,.same] R fn48 R (K125 _ _ _) (fun _=>R) (fun _=>R) fun r2 hm=>Ab R R (Cw R fa83_3)<|Ad R R<|Am (i:=2) R R R ld3 R R R<|Ac<|Ah<|Aa tbk [2] 1 R R<|Ad R R<|Am (i:=3) R R R ld83 R R R<|Ab R R (Ai R)<|Ac<|B8 (Az (H':=[Q48 ob9 cap7 j.2,X83 b6 (⟨j.1.Group,j.1.Count,j.1.Pods,r2,j.1.Price,j.1.Rank⟩ : T_api_Option),X83 b2 (⟨j.1.Group,j.1.Count,j.1.Pods,r2,j.1.Price,j.1.Rank⟩ : T_api_Option),X81 b g]) 0 [(87,T_api_Option.vv (⟨j.1.Group,j.1.Count,j.1.Pods,r2,j.1.Price,j.1.Rank⟩ : T_api_Option))] R ⟨⟨_,R,.aggL ⟨.same _,.same _,.here _ R,.same _,.same _,.same _,trivial⟩⟩,trivial⟩ ⟨.same _,.box _ _ _ _ ⟨.same _,.same _,.here _ R,.same _,.same _,.same _,trivial⟩,.box _ _ _ _ ⟨.same _,.same _,.here _ R,.same _,.same _,.same _,trivial⟩,.same _,trivial⟩)<|Rt0 hm R [] (.cons (.cell _ _ _ _ 2 _ _ _ _ R R ld83 R) (.cons (.tmp _ _ R) .nil)) R R

/-! trireme/option.All -/
def option_All.l1 (ms : List T_api_Machine) (bs : List T_api_Bound) (l : List T_api_Pod) (rooms : List Int) : List T_api_Group → Nat → (List T_api_Option) → Option (List T_api_Option)
 | [], k, out2 => some out2
 | x :: l2, k, out2 =>
  if (decide ((k : Int) ≥ (rooms.length : Int))) = true then
   some out2
  else
   (V.gl rooms (k : Int)).bind fun x2 =>
   (option_Of ms bs l x x2).bind fun r =>
   if r.2 = true then
    (V.ap 72 out2 [r.1]).bind fun out4 =>
    option_All.l1 ms bs l rooms l2 (k + 1) out4
   else
    option_All.l1 ms bs l rooms l2 (k + 1) out2
def option_All (ms : List T_api_Machine) (bs : List T_api_Bound) (l : List T_api_Pod) (gs : List T_api_Group) (rooms : List Int) : Option (List T_api_Option) :=
 (option_All.l1 ms bs l rooms gs 0 ([] : List T_api_Option)).bind fun out32 =>
 some out32
theorem K127 (ms : List T_api_Machine) (bs : List T_api_Bound) (l : List T_api_Pod) (gs : List T_api_Group) (rooms : List Int) : VS2 Tryz.prog 41 (option_All ms bs l gs rooms) [L30 ms, L50 bs, L48 l, L81 gs, L3 rooms] [] (fun r ob0 cap0=>Z83 ob0 r cap0) (fun r ob0 cap0=>[Q83 ob0 cap0 r]) := by
 refine Cg [.tmp 10] Tryz.func41 R R R fun r hm=>?_
 unfold option_All at hm
 refine Ag tbk [] R R<|Ag tbk [] R R<|Af<|Ah<|Ab R R (Al R)<|Ab R R (Ax T_api_Group.vv R B4)<|Ab R R (Al R)<|Ac<|Ce 16 R fun h5=>Bx hm (fun out32 (gg:Option Nat × Nat)=>[(11,Z83 gg.1 out32 gg.2)]) (fun out32 (gg:Option Nat × Nat)=>[Q83 gg.1 gg.2 out32]) (fun o hm=>?_) fun out32=>Pq fun ob3 cap3 hm=> ?_
 ·refine Cp (gs) (fun zl zk (zs:List T_api_Option)=>option_All.l1 ms bs l rooms zl zk zs) (fun k zs (zg:Option Nat × Nat)=>[(0,L30 ms),(1,L50 bs),(2,L48 l),(4,L3 rooms),(11,Z83 zg.1 zs zg.2),(16,L81 gs),(17,Iw (gs.length : Int)),(18,Iw (k : Int))]) (fun _ zs (zg:Option Nat × Nat)=>[Q83 zg.1 zg.2 zs]) _ (none,0) hm (Be (Ba 83) (Ae [0] R R)) (fun k out2=>Pq fun ob2 cap2 hk hm=>?_) fun k x l2 out2=>Pq fun ob2 cap2 h6 hm=> ?_
  ·rw [option_All.l1] at hm
   exact Ag tbk [] R R<|Af<|Ca R (k_end hk)<|A0<|As (ob2,cap2) hm (Ae [0] R R)
  rw [option_All.l1] at hm
  refine Ag tbk [] R R<|Af<|B9 R (k_lt h6)<|Aj<|Af<|Aw<|Ah<|Ab R R (Al R)<|Ab R R (Cj T_api_Group.vv R R el67 h6)<|Ab R R (Bn R ld81 R)<|Ad R R<|Av z81 fun b=>Ab R R (Ai R)<|Ad R R<|Am (i:=0) R R R ld81 R R R<|Ac<|Af<|Ah<|Aa tbk [] 2 R R<|Ab R R (Ax (VV.int .i64) R Bz)<|Ab R R (A2 R R R)<|Ac<|Ak hm R (fun h8 hm=>A0<|As (ob2,cap2) hm (Ae [1] R R)) fun h8 hm=>Aj<|Af<|Bb 0 mixed<|Au tbk [0,1,2,3,4,5] [0] (by kernel_rfl) R R R<|Bd hm fun x2 h9 hm=>A6 6 R R R (by kernel_rfl) (A3 (VV.int .i64) R R el41 h9)<|A6 7 R R R (by kernel_rfl) (Bn R ld3 R)<|?_
  refine B0 [8,12] (by kernel_rfl) ⟨?_,?_,trivial⟩
  ·exact Aq R R R<|An hm 0 R fn88 R (K126 _ _ _ _ _) fun r hm=>Au tbk [9,10,11] [] (by kernel_rfl) R R R<|Ao 12 (by kernel_rfl)<|Aq R R R<|Av z83 fun b2=>Ao 13 (by kernel_rfl)<|Aq R R R<|Am (i:=0) R R R ld83 R R R<|A6 14 R R R (by kernel_rfl) (Ai R)<|A5 (by kernel_rfl)<|Ag tbk [] R R<|Ak hm R (fun h12 hm=>Bk<|Aa tbk [0] 2 R R<|Ad R R<|A7 ap72 R R R R R fun b3=>Bd hm fun out4 h14 hm=>Ad R R<|B1 3 T_api_Option.vv (l:=out2) (l2:=[r.1]) ap72 R R (sT_row 0 T_api_Option.vv el72 R R) h14 fun ob4 cap4=>Ab R R (Ai R)<|Ac<|A1 tbk [] R R<|Ap _ (ob4,cap4) hm (Bl [3] R ⟨R,R,R,R,R,R,R,congrArg some (k_next h6 h5),trivial⟩)) fun h12 hm=>Aj<|A1 tbk [] R R<|Ap _ (ob2,cap2) hm (Bl [2] R ⟨R,R,R,R,R,R,R,congrArg some (k_next h6 h5),trivial⟩)
  ·exact Aq R R R<|Av z83 fun b4=>Ao 8 (by kernel_rfl)<|Aq R R R<|An hm 0 R fn88 R (K126 _ _ _ _ _) fun r2 hm=>Au tbk [9,10,11] [] (by kernel_rfl) R R R<|Ao 13 (by kernel_rfl)<|Aq R R R<|Am (i:=0) R R R ld83 R R R<|A6 14 R R R (by kernel_rfl) (Ai R)<|A5 (by kernel_rfl)<|Ag tbk [] R R<|Ak hm R (fun h17 hm=>Bk<|Aa tbk [0] 2 R R<|Ad R R<|A7 ap72 R R R R R fun b5=>Bd hm fun out5 h19 hm=>Ad R R<|B1 3 T_api_Option.vv (l:=out2) (l2:=[r2.1]) ap72 R R (sT_row 0 T_api_Option.vv el72 R R) h19 fun ob5 cap5=>Ab R R (Ai R)<|Ac<|A1 tbk [] R R<|Ap _ (ob5,cap5) hm (Bl [3] R ⟨R,R,R,R,R,R,R,congrArg some (k_next h6 h5),trivial⟩)) fun h17 hm=>Aj<|A1 tbk [] R R<|Ap _ (ob2,cap2) hm (Bl [2] R ⟨R,R,R,R,R,R,R,congrArg some (k_next h6 h5),trivial⟩)
 exact Ag tbk [] R R<|Rg2 hm R [0] ob3 cap3 (.cons (.tmp _ _ R) .nil) R R

/-! trireme/triremeref20.Same -/
def ref20_Same.l1 (a : T_api_Option) (b : T_api_Option) : Nat → Int → Option (Out Bool Unit)
 | 0, _ => none
 | n + 1, i2 =>
  if (decide (i2 < (a.Pods.length : Int))) = true then
   (V.gl a.Pods i2).bind fun x =>
   (V.gl b.Pods i2).bind fun x2 =>
   if (!(V.seq x x2)) = true then
    some (Out.ret false)
   else
    ref20_Same.l1 a b n (i64.wrap (i2 + 1))
  else
   some (Out.go ())
def ref20_Same (a : T_api_Option) (b : T_api_Option) : Option Bool :=
 if ((((((!(V.seq a.Group b.Group)) || (a.Count != b.Count)) || (a.Waste != b.Waste)) || (a.Price != b.Price)) || (a.Rank != b.Rank)) || ((a.Pods.length : Int) != (b.Pods.length : Int))) = true then
  some false
 else
  (ref20_Same.l1 a b FU (0 : Int)).bind fun o =>
  o.on fun j =>
  some true
theorem K128 (a : T_api_Option) (b : T_api_Option) : VS Tryz.prog 89 (ref20_Same a b) [T_api_Option.vv a, T_api_Option.vv b] [] .bool N0 := by
 refine A4 [.tmp 4] Tryz.func89 R R R fun r hm=>?_
 unfold ref20_Same at hm
 refine Ah<|Ad R R<|A9 R R fun b2=>Ad R R<|A9 R R fun b3=>Ab R R (Ai R)<|Ac<|Af<|Ah<|Aa tbk [1,0] 6 R R<|Cb tbk [1,0] 6 17 11 R R R R R<|Ab R R (Al R)<|Cb tbk [1,0] 6 24 18 R R R R R<|Ab R R (Al R)<|Cb tbk [1,0] 6 31 25 R R R R R<|Ab R R (Al R)<|Cb tbk [1,0] 6 38 32 R R R R R<|Ab R R (Al R)<|C3 8 47 39 R (fun K' J=>Aa tbk [] 8 R R<|J 7 R R R) (fun h7 K' J=>Aa tbk [1] 2 R R<|Bm R R R R R (Ax VV.str R Bf)<|Aa tbk [0] 2 R R<|Bm R R R R R (Ax VV.str R Bf)<|Aa tbk [] 2 R R<|J 7 R R R)<|Ac<|Ak hm R (fun h8 hm=>Ag tbk [] R R<|Rt1 hm R [] R R R) fun h8 hm=>Aj<|Af<|Ag tbk [] R R<|Bq hm (fun _ (_:Unit)=>[]) (fun _ (_:Unit)=>[]) (fun o hm h10=>?_) fun j _ hm=> ?_
 ·refine Bh (fun zn (zs:Int)=>ref20_Same.l1 a b zn zs) (fun zs (_:Unit)=>[(2,.ptr b2 0),(3,.ptr b3 0),(5,Iw zs)]) (fun _ (_:Unit)=>[X83 b3 b,X83 b2 a]) _ () (fun _=>R) hm (Ae [0,0] R R) fun n i2 _ hm=> ?_
  rw [ref20_Same.l1] at hm
  exact Af<|Ah<|Aa tbk [1] 3 R R<|Ab R R (Ax VV.str R Bf)<|Ab R R (A2 R R R)<|Ac<|Ak hm R (fun h11 hm=>Aj<|Af<|Aw<|Af<|Bb 0 mixed<|Au tbk [0,1,2] [1] (by kernel_rfl) R R R<|Bd hm fun x h12 hm=>A6 3 R R R (by kernel_rfl) (A3 VV.str R R el51 h12)<|Au tbk [4,5,6,7] [0] (by kernel_rfl) R R R<|Bd hm fun x2 h13 hm=>A6 8 R R R (by kernel_rfl) (A3 VV.str R R el51 h13)<|Au tbk [9,10] [] (by kernel_rfl) R R R<|A5 (by kernel_rfl)<|Ak hm R (fun h14 hm=>Ag tbk [] R R<|have hm:=Lr hm h10;Rt1 hm R [] R R R) fun h14 hm=>Aj<|A1 tbk [] R R<|Ap _ () hm (Ae [0,0] R R)) fun h11 hm=>A0<|Ar () hm (Ae [] R R)
 exact Ag tbk [] R R<|Rt1 hm R [] R R R

/-! trireme/option.Hopeless -/
def option_Hopeless.l1 (l2 : List Int) : Nat → (List Int) → Int → Option (List Int)
 | 0, _, _ => none
 | n + 1, one2, v2 =>
  if (decide (v2 < (l2.length : Int))) = true then
   (V.gl one2 v2).bind fun x =>
   option_Hopeless.l1 l2 n (List.set one2 (v2).toNat 1) (i64.wrap (v2 + 1))
  else
   some one2
def option_Hopeless.l2 (ms : List T_api_Machine) (bs : List T_api_Bound) (l : List T_api_Pod) (gs : List T_api_Group) (one32 : List Int) : List T_api_Pod → Nat → (List ByteArray) → Option (List ByteArray)
 | [], k, out2 => some out2
 | x2 :: l4, k, out2 =>
  (V.sl l (some (k : Int)) (some (i64.wrap ((k : Int) + 1)))).bind fun v3 =>
  (option_All ms bs v3 gs one32).bind fun r =>
  if ((r.length : Int) == 0) = true then
   (V.ap 16 out2 [x2.Name]).bind fun out4 =>
   option_Hopeless.l2 ms bs l gs one32 l4 (k + 1) out4
  else
   option_Hopeless.l2 ms bs l gs one32 l4 (k + 1) out2
def option_Hopeless (ms : List T_api_Machine) (bs : List T_api_Bound) (l : List T_api_Pod) (gs : List T_api_Group) : Option (List ByteArray) :=
 (V.mk 8 0 (gs.length : Int)).bind fun l2 =>
 (option_Hopeless.l1 l2 FU l2 (0 : Int)).bind fun one32 =>
 (option_Hopeless.l2 ms bs l gs one32 l 0 ([] : List ByteArray)).bind fun out32 =>
 some out32
theorem K129 (ms : List T_api_Machine) (bs : List T_api_Bound) (l : List T_api_Pod) (gs : List T_api_Group) : VS2 Tryz.prog 44 (option_Hopeless ms bs l gs) [L30 ms, L50 bs, L48 l, L81 gs] [] (fun r ob0 cap0=>Z9 ob0 r cap0) (fun r ob0 cap0=>[Q9 ob0 cap0 r]) := by
 refine Cg [.tmp 8] Tryz.func44 R R R fun r hm=>?_
 unfold option_Hopeless at hm
 refine Ag tbk [] R R<|Ah<|Ab R R (Al R)<|Ab R R (Ax T_api_Group.vv R B4)<|Bd hm fun l2 h1 hm=>Ad R R<|VO.makeS (f:=(VV.int .i64)) (0 : Int) ap41 zc3 (fun _ _ => .int _ _) (fun _ => ⟨R,R⟩) R R R h1 fun b=>Ab R R (Ai R)<|Ac<|Af<|Ah<|Ab R R (Al R)<|Ab R R (C2 (VV.int .i64) R Bz)<|Ab R R (Al R)<|Ac<|Bx hm (fun one32 (_:Unit)=>[(0,L30 ms),(1,L50 bs),(2,L48 l),(3,L81 gs),(9,Z3 (some b) one32 l2.length)]) (fun one32 (_:Unit)=>[Q3 (some b) l2.length one32]) (fun o hm=>?_) fun one32 _ hm=> ?_
 ·refine Bh (fun zn (zs:List Int × Int)=>option_Hopeless.l1 l2 zn zs.1 zs.2) (fun zs (_:Unit)=>[(0,L30 ms),(1,L50 bs),(2,L48 l),(3,L81 gs),(9,Z3 (some b) zs.1 l2.length),(18,Iw (l2.length : Int)),(19,Iw zs.2)]) (fun zs (_:Unit)=>[Q3 (some b) l2.length zs.1]) (l2,(0 : Int)) () (fun _=>R) hm (Ae [0] R R) fun n=>Pq fun one2 v2 _ hm=> ?_
  rw [option_Hopeless.l1] at hm
  exact Ag tbk [] R R<|Af<|Ak hm R (fun h5 hm=>Aj<|Af<|Aw<|Ag tbk [] R R<|Bk<|Aa tbk [] 2 R R<|Bd hm fun x h6 hm=>Ab R R (Cy (VV.int .i64) R R el41 h6)<|Ad R R<|VO.storeRT 0 (f:=(VV.int .i64)) (l:=one2) (q:=x) (q':=(1 : Int)) R R R R h6 ld3 R R R R ⟨R,List.all_eq_true.1 R⟩<|Bp (Co 9 (List.map (VV.int .i64) (List.set one2 (v2).toNat (1 : Int))).length R (len_set _ _ _ _))<|Bp (Co 22 (List.map (VV.int .i64) (List.set one2 (v2).toNat (1 : Int))).length R (len_set _ _ _ _))<|Ac<|A1 tbk [] R R<|Ap ((List.set one2 (v2).toNat (1 : Int)),(IntKind.i64.wrap (v2 + (1 : Int)))) () hm (Ae [0] R R)) fun h5 hm=>A0<|As () hm (Ae [0] R R)
 refine Ag tbk [] R R<|Af<|Ah<|Ab R R (Al R)<|Ab R R (Ax T_api_Pod.vv R Br)<|Ab R R (Al R)<|Ac<|Ce 2 R fun h11=>Bx hm (fun out32 (gg:Option Nat × Nat)=>[(11,Z9 gg.1 out32 gg.2)]) (fun out32 (gg:Option Nat × Nat)=>[Q9 gg.1 gg.2 out32]) (fun o2 hm=>?_) fun out32=>Pq fun ob3 cap3 hm=> ?_
 ·refine Cp (l) (fun zl zk (zs:List ByteArray)=>option_Hopeless.l2 ms bs l gs one32 zl zk zs) (fun k zs (zg:Option Nat × Nat)=>[(0,L30 ms),(1,L50 bs),(2,L48 l),(3,L81 gs),(9,L3 one32),(11,Z9 zg.1 zs zg.2),(26,L48 l),(27,Iw (l.length : Int)),(28,Iw (k : Int))]) (fun _ zs (zg:Option Nat × Nat)=>[Q9 zg.1 zg.2 zs]) _ (none,0) hm (Be (Az 0 [(9,L3 one32)] R ⟨⟨_,R,.here _ R⟩,trivial⟩ (FzH.refl _)) (Be (Ba 9) (Ae [0] R R))) (fun k out2=>Pq fun ob2 cap2 hk hm=>?_) fun k x2 l4 out2=>Pq fun ob2 cap2 h12 hm=> ?_
  ·rw [option_Hopeless.l2] at hm
   exact Ag tbk [] R R<|Af<|Ca R (k_end hk)<|A0<|As (ob2,cap2) hm (Ae [0] R R)
  rw [option_Hopeless.l2] at hm
  exact Ag tbk [] R R<|Af<|B9 R (k_lt h12)<|Aj<|Af<|Aw<|Ah<|Ab R R (Al R)<|Ab R R (Cj T_api_Pod.vv R R el24 h12)<|Ab R R (Bn R ld48 R)<|Ad R R<|Av z48 fun b2=>Ab R R (Ai R)<|Ad R R<|Am (i:=0) R R R ld48 R R R<|Ac<|Ah<|Aa tbk [] 6 R R<|Bd hm fun v3 h14 hm=>Ab R R (Dk R R R el24 h14)<|Aa tbk [] 2 R R<|Ad R R<|Cc hm 0 R fn41 R (K127 _ _ _ _ _) fun r ob4 cap4 hm=>Bp (Az 0 [(42,L83 r)] R ⟨⟨_,R,.here _ R⟩,trivial⟩ (FzH.refl _))<|Ab R R (Ax T_api_Option.vv R Cs)<|Ab R R (A2 R R R)<|Ac<|Ak hm R (fun h17 hm=>Bk<|Aa tbk [0] 3 R R<|Ad R R<|A7 ap51 R R R R R fun b3=>Bd hm fun out4 h19 hm=>Ad R R<|B1 2 VV.str (l:=out2) (l2:=[x2.Name]) ap51 R R (sT_row 0 VV.str el51 R R) h19 fun ob5 cap5=>Ab R R (Ai R)<|Ac<|A1 tbk [] R R<|Ap _ (ob5,cap5) hm (Bl [2] R ⟨R,R,R,R,R,R,R,R,congrArg some (k_next h12 h11),trivial⟩)) fun h17 hm=>Aj<|A1 tbk [] R R<|Ap _ (ob2,cap2) hm (Bl [1] R ⟨R,R,R,R,R,R,R,R,congrArg some (k_next h12 h11),trivial⟩)
 exact Ag tbk [] R R<|Rg2 hm R [0] ob3 cap3 (.cons (.tmp _ _ R) .nil) R R

/-! trireme/triremeref09.Texts -/
def ref09_Texts.l1 (a : List ByteArray) (b : List ByteArray) : Nat → Int → Option (Out Bool Unit)
 | 0, _ => none
 | n + 1, i2 =>
  if (decide (i2 < (a.length : Int))) = true then
   (V.gl a i2).bind fun x =>
   (V.gl b i2).bind fun x2 =>
   if (!(V.seq x x2)) = true then
    some (Out.ret false)
   else
    ref09_Texts.l1 a b n (i64.wrap (i2 + 1))
  else
   some (Out.go ())
def ref09_Texts (a : List ByteArray) (b : List ByteArray) : Option Bool :=
 if ((a.length : Int) != (b.length : Int)) = true then
  some false
 else
  (ref09_Texts.l1 a b FU (0 : Int)).bind fun o =>
  o.on fun j =>
  some true
theorem K130 (a : List ByteArray) (b : List ByteArray) : VS Tryz.prog 43 (ref09_Texts a b) [L9 a, L9 b] [] .bool N0 := by
 refine A4 [.tmp 4] Tryz.func43 R R R fun r hm=>?_
 unfold ref09_Texts at hm
 refine Ag tbk [] R R<|Af<|Ah<|Ab R R (Al R)<|Ab R R (Ax VV.str R Bf)<|Ab R R (Al R)<|Ab R R (Ax VV.str R Bf)<|Ab R R (A2 R R R)<|Ac<|Ak hm R (fun h1 hm=>Ag tbk [] R R<|Rt1 hm R [] R R R) fun h1 hm=>Aj<|Af<|Ag tbk [] R R<|Bq hm (fun _ (_:Unit)=>[]) (fun _ (_:Unit)=>[]) (fun o hm h3=>?_) fun j _ hm=> ?_
 ·refine Bh (fun zn (zs:Int)=>ref09_Texts.l1 a b zn zs) (fun zs (_:Unit)=>[(0,L9 a),(1,L9 b),(5,Iw zs)]) (fun _ (_:Unit)=>[]) _ () (fun _=>R) hm (Ae [] R R) fun n i2 _ hm=> ?_
  rw [ref09_Texts.l1] at hm
  exact Af<|Ah<|Aa tbk [] 2 R R<|Ab R R (Ax VV.str R Bf)<|Ab R R (A2 R R R)<|Ac<|Ak hm R (fun h4 hm=>Aj<|Af<|Aw<|Af<|Bb 0 mixed<|Au tbk [0,1] [] (by kernel_rfl) R R R<|Bd hm fun x h5 hm=>A6 2 R R R (by kernel_rfl) (A3 VV.str R R el51 h5)<|Au tbk [3,4,5] [] (by kernel_rfl) R R R<|Bd hm fun x2 h6 hm=>A6 6 R R R (by kernel_rfl) (A3 VV.str R R el51 h6)<|Au tbk [7,8] [] (by kernel_rfl) R R R<|A5 (by kernel_rfl)<|Ak hm R (fun h7 hm=>Ag tbk [] R R<|have hm:=Lr hm h3;Rt1 hm R [] R R R) fun h7 hm=>Aj<|A1 tbk [] R R<|Ap _ () hm (Ae [] R R)) fun h4 hm=>A0<|Ar () hm (Ae [] R R)
 exact Ag tbk [] R R<|Rt1 hm R [] R R R

/-! trireme/triremelaw20.known -/
def law20_known : Option Bool :=
 (law20_one (⟨#[97]⟩ : ByteArray) (600 : Int)).bind fun r =>
 (law20_one (⟨#[98]⟩ : ByteArray) (2000 : Int)).bind fun r2 =>
 (law20_one (⟨#[99]⟩ : ByteArray) (600 : Int)).bind fun r3 =>
 (option_Of ([] : List T_api_Machine) ([] : List T_api_Bound) [r, r2, r3] (⟨(⟨#[103]⟩ : ByteArray), 0, 9, (⟨(⟨#[]⟩ : ByteArray), (⟨#[103]⟩ : ByteArray), (⟨1000, 0, 0, 5, 0⟩ : T_api_Res), ([] : List T_api_Label), ([] : List T_api_Taint), true⟩ : T_api_Machine), 7, 3⟩ : T_api_Group) (5 : Int)).bind fun r4 =>
 (option_Of ([] : List T_api_Machine) ([] : List T_api_Bound) [r, r2, r3] (⟨(⟨#[103]⟩ : ByteArray), 0, 9, (⟨(⟨#[]⟩ : ByteArray), (⟨#[103]⟩ : ByteArray), (⟨1000, 0, 0, 5, 0⟩ : T_api_Res), ([] : List T_api_Label), ([] : List T_api_Taint), true⟩ : T_api_Machine), 7, 3⟩ : T_api_Group) (0 : Int)).bind fun r5 =>
 (option_All ([] : List T_api_Machine) ([] : List T_api_Bound) [r, r2, r3] [(⟨(⟨#[103]⟩ : ByteArray), 0, 9, (⟨(⟨#[]⟩ : ByteArray), (⟨#[103]⟩ : ByteArray), (⟨1000, 0, 0, 5, 0⟩ : T_api_Res), ([] : List T_api_Label), ([] : List T_api_Taint), true⟩ : T_api_Machine), 7, 3⟩ : T_api_Group)] [1]).bind fun r6 =>
 (if (r4.2 && (!r5.2)) = true then (ref20_Same r4.1 (⟨(⟨#[103]⟩ : ByteArray), 2, [(⟨#[97]⟩ : ByteArray), (⟨#[99]⟩ : ByteArray)], 200, 14, 3⟩ : T_api_Option)).bind fun r7 =>
 some r7 else some false).bind fun c =>
 (if (c && ((r6.length : Int) == 1)) = true then (V.gl r6 (0 : Int)).bind fun x =>
 some (x.Count == 1) else some false).bind fun c2 =>
 (if c2 = true then (option_Hopeless ([] : List T_api_Machine) ([] : List T_api_Bound) [r, r2, r3] [(⟨(⟨#[103]⟩ : ByteArray), 0, 9, (⟨(⟨#[]⟩ : ByteArray), (⟨#[103]⟩ : ByteArray), (⟨1000, 0, 0, 5, 0⟩ : T_api_Res), ([] : List T_api_Label), ([] : List T_api_Taint), true⟩ : T_api_Machine), 7, 3⟩ : T_api_Group)]).bind fun r8 =>
 (ref09_Texts r8 [(⟨#[98]⟩ : ByteArray)]).bind fun r9 =>
 some r9 else some false).bind fun c3 =>
 (if c3 = true then (V.sl [r, r2, r3] none (some 1)).bind fun v =>
 (option_Waste v (⟨(⟨#[]⟩ : ByteArray), (⟨#[103]⟩ : ByteArray), (⟨1000, 0, 0, 5, 0⟩ : T_api_Res), ([] : List T_api_Label), ([] : List T_api_Taint), true⟩ : T_api_Machine) (1 : Int)).bind fun r14 =>
 some (r14 == 200) else some false).bind fun c4 =>
 some c4
theorem K131 : VS Tryz.prog 39 (law20_known) [] [] .bool N0 := by
 refine A4 [.tmp 0] Tryz.func39 R R R fun r hm=>?_
 unfold law20_known at hm
 refine Ag tbk [] R R<|Ah<|Ab R R (Bo pl26 R R)<|Ab R R (Bo pl30 R R)<|Ab R R (Bo pl81 R R)<|Ad R R<|Av z81 fun b=>Ad R R<|Am (i:=0) R R R ld81 R R R<|Ac<|Ah<|Ad R R<|An hm 0 R fn87 R (K55 _ _) fun r hm=>Ad R R<|An hm 0 R fn87 R (K55 _ _) fun r2 hm=>Ad R R<|An hm 0 R fn87 R (K55 _ _) fun r3 hm=>Ad R R<|A7 ap24 R R R R R fun b2=>Bp (Az 0 [(14,L48 [r,r2,r3])] R ⟨⟨_,R,.here _ R⟩,trivial⟩ (FzH.refl _))<|Ab R R (Ai R)<|Ac<|Ah<|Aa tbk [0] 2 R R<|Ad R R<|VO.cn hm 0 [.nil 30,.nil 50,.same,.agg [none,none,none,none,none,none,none,none,none,none,some 124,some 126],.same] R fn88 R (K126 _ _ _ _ _) fun r4 hm=>Aa tbk [] 3 R R<|Ad R R<|Av z83 fun b3=>Ad R R<|Am (i:=0) R R R ld83 R R R<|Ab R R (Ai R)<|Ac<|Ah<|Aa tbk [1] 2 R R<|Ad R R<|VO.cn hm 0 [.nil 30,.nil 50,.same,.agg [none,none,none,none,none,none,none,none,none,none,some 124,some 126],.same] R fn88 R (K126 _ _ _ _ _) fun r5 hm=>Aa tbk [] 3 R R<|Ad R R<|Av z83 fun b4=>Ad R R<|Am (i:=0) R R R ld83 R R R<|Ab R R (Ai R)<|Ac<|Ah<|Aa tbk [2] 2 R R<|Bp (Be (Ba 124) (Be (Az 0 [(28,.agg [.str (⟨#[103]⟩ : ByteArray),Iw (0 : Int),Iw (9 : Int),.str (⟨#[]⟩ : ByteArray),.str (⟨#[103]⟩ : ByteArray),Iw (1000 : Int),Iw (0 : Int),Iw (0 : Int),Iw (5 : Int),Iw (0 : Int),L124 ([] : List T_api_Label),.sl none 0 0,.bool true,Iw (7 : Int),Iw (3 : Int)])] R ⟨⟨_,R,.aggL ⟨.same _,.same _,.same _,.same _,.same _,.same _,.same _,.same _,.same _,.same _,.here _ R,.same _,.same _,.same _,.same _,trivial⟩⟩,trivial⟩ (FzH.refl _)) (Be (Ba 126) (Az 0 [(28,T_api_Group.vv (⟨(⟨#[103]⟩ : ByteArray),(0 : Int),(9 : Int),(⟨(⟨#[]⟩ : ByteArray),(⟨#[103]⟩ : ByteArray),(⟨(1000 : Int),(0 : Int),(0 : Int),(5 : Int),(0 : Int)⟩ : T_api_Res),([] : List T_api_Label),([] : List T_api_Taint),true⟩ : T_api_Machine),(7 : Int),(3 : Int)⟩ : T_api_Group))] R ⟨⟨_,R,.aggL ⟨.same _,.same _,.same _,.same _,.same _,.same _,.same _,.same _,.same _,.same _,.same _,.here _ R,.same _,.same _,.same _,trivial⟩⟩,trivial⟩ (FzH.refl _)))))<|Ad R R<|A7 ap67 R R R R R fun b5=>Bp (Az 0 [(29,L81 [(⟨(⟨#[103]⟩ : ByteArray),(0 : Int),(9 : Int),(⟨(⟨#[]⟩ : ByteArray),(⟨#[103]⟩ : ByteArray),(⟨(1000 : Int),(0 : Int),(0 : Int),(5 : Int),(0 : Int)⟩ : T_api_Res),([] : List T_api_Label),([] : List T_api_Taint),true⟩ : T_api_Machine),(7 : Int),(3 : Int)⟩ : T_api_Group)])] R ⟨⟨_,R,.here _ R⟩,trivial⟩ (FzH.refl _))<|?_
 refine Ad R R<|A7 ap41 R R R R R fun b6=>Bp (Az 0 [(30,L3 [(1 : Int)])] R ⟨⟨_,R,.here _ R⟩,trivial⟩ (FzH.refl _))<|Bd hm fun r6 h12 hm=>Ad R R<|Dj 0 [.nil 30,.nil 50,.same,.same,.same] R fn41 R (K127 ([] : List T_api_Machine) ([] : List T_api_Bound) [r,r2,r3] [(⟨(⟨#[103]⟩ : ByteArray),(0 : Int),(9 : Int),(⟨(⟨#[]⟩ : ByteArray),(⟨#[103]⟩ : ByteArray),(⟨(1000 : Int),(0 : Int),(0 : Int),(5 : Int),(0 : Int)⟩ : T_api_Res),([] : List T_api_Label),([] : List T_api_Taint),true⟩ : T_api_Machine),(7 : Int),(3 : Int)⟩ : T_api_Group)] [(1 : Int)] r6 h12) fun _ _ h46=> ?_
 obtain ⟨ob,cap,rfl,rfl⟩:=h46
 refine Bp (Az 0 [(31,L83 r6)] R ⟨⟨_,R,.here _ R⟩,trivial⟩ (FzH.refl _))<|Ab R R (Ai R)<|Ac<|Af<|B8 (Be (Ba 124) (Be (Az 0 [(10,.agg [.str (⟨#[103]⟩ : ByteArray),Iw (0 : Int),Iw (9 : Int),.str (⟨#[]⟩ : ByteArray),.str (⟨#[103]⟩ : ByteArray),Iw (1000 : Int),Iw (0 : Int),Iw (0 : Int),Iw (5 : Int),Iw (0 : Int),L124 ([] : List T_api_Label),.sl none 0 0,.bool true,Iw (7 : Int),Iw (3 : Int)])] R ⟨⟨_,R,.aggL ⟨.same _,.same _,.same _,.same _,.same _,.same _,.same _,.same _,.same _,.same _,.here _ R,.same _,.same _,.same _,.same _,trivial⟩⟩,trivial⟩ (FzH.refl _)) (Be (Ba 126) (Be (Az 0 [(10,T_api_Group.vv (⟨(⟨#[103]⟩ : ByteArray),(0 : Int),(9 : Int),(⟨(⟨#[]⟩ : ByteArray),(⟨#[103]⟩ : ByteArray),(⟨(1000 : Int),(0 : Int),(0 : Int),(5 : Int),(0 : Int)⟩ : T_api_Res),([] : List T_api_Label),([] : List T_api_Taint),true⟩ : T_api_Machine),(7 : Int),(3 : Int)⟩ : T_api_Group))] R ⟨⟨_,R,.aggL ⟨.same _,.same _,.same _,.same _,.same _,.same _,.same _,.same _,.same _,.same _,.same _,.here _ R,.same _,.same _,.same _,trivial⟩⟩,trivial⟩ (FzH.refl _)) (Be (Ba 124) (Be (Az 0 [(17,.agg [.str (⟨#[103]⟩ : ByteArray),Iw (0 : Int),Iw (9 : Int),.str (⟨#[]⟩ : ByteArray),.str (⟨#[103]⟩ : ByteArray),Iw (1000 : Int),Iw (0 : Int),Iw (0 : Int),Iw (5 : Int),Iw (0 : Int),L124 ([] : List T_api_Label),.sl none 0 0,.bool true,Iw (7 : Int),Iw (3 : Int)])] R ⟨⟨_,R,.aggL ⟨.same _,.same _,.same _,.same _,.same _,.same _,.same _,.same _,.same _,.same _,.here _ R,.same _,.same _,.same _,.same _,trivial⟩⟩,trivial⟩ (FzH.refl _)) (Be (Ba 126) (Be (Az 0 [(17,T_api_Group.vv (⟨(⟨#[103]⟩ : ByteArray),(0 : Int),(9 : Int),(⟨(⟨#[]⟩ : ByteArray),(⟨#[103]⟩ : ByteArray),(⟨(1000 : Int),(0 : Int),(0 : Int),(5 : Int),(0 : Int)⟩ : T_api_Res),([] : List T_api_Label),([] : List T_api_Taint),true⟩ : T_api_Machine),(7 : Int),(3 : Int)⟩ : T_api_Group))] R ⟨⟨_,R,.aggL ⟨.same _,.same _,.same _,.same _,.same _,.same _,.same _,.same _,.same _,.same _,.same _,.here _ R,.same _,.same _,.same _,trivial⟩⟩,trivial⟩ (FzH.refl _)) (Be (Ba 124) (Be (Az 0 [(23,.agg [.str (⟨#[103]⟩ : ByteArray),Iw (0 : Int),Iw (9 : Int),.str (⟨#[]⟩ : ByteArray),.str (⟨#[103]⟩ : ByteArray),Iw (1000 : Int),Iw (0 : Int),Iw (0 : Int),Iw (5 : Int),Iw (0 : Int),L124 ([] : List T_api_Label),.sl none 0 0,.bool true,Iw (7 : Int),Iw (3 : Int)])] R ⟨⟨_,R,.aggL ⟨.same _,.same _,.same _,.same _,.same _,.same _,.same _,.same _,.same _,.same _,.here _ R,.same _,.same _,.same _,.same _,trivial⟩⟩,trivial⟩ (FzH.refl _)) (Be (Ba 126) (Be (Az 0 [(23,T_api_Group.vv (⟨(⟨#[103]⟩ : ByteArray),(0 : Int),(9 : Int),(⟨(⟨#[]⟩ : ByteArray),(⟨#[103]⟩ : ByteArray),(⟨(1000 : Int),(0 : Int),(0 : Int),(5 : Int),(0 : Int)⟩ : T_api_Res),([] : List T_api_Label),([] : List T_api_Taint),true⟩ : T_api_Machine),(7 : Int),(3 : Int)⟩ : T_api_Group))] R ⟨⟨_,R,.aggL ⟨.same _,.same _,.same _,.same _,.same _,.same _,.same _,.same _,.same _,.same _,.same _,.here _ R,.same _,.same _,.same _,trivial⟩⟩,trivial⟩ (FzH.refl _)) (Be (Ba 124) (Be (Az (H':=[X83 b4 r5.1,X83 b3 r4.1,.box b 81 [.str (⟨#[103]⟩ : ByteArray),Iw (0 : Int),Iw (9 : Int),.str (⟨#[]⟩ : ByteArray),.str (⟨#[103]⟩ : ByteArray),Iw (1000 : Int),Iw (0 : Int),Iw (0 : Int),Iw (5 : Int),Iw (0 : Int),L124 ([] : List T_api_Label),.sl none 0 0,.bool true,Iw (7 : Int),Iw (3 : Int)]]) 0 [] R trivial ⟨.same _,.same _,.box _ _ _ _ ⟨.same _,.same _,.same _,.same _,.same _,.same _,.same _,.same _,.same _,.same _,.here _ R,.same _,.same _,.same _,.same _,trivial⟩,trivial⟩) (Be (Ba 126) (Az (H':=[X83 b4 r5.1,X83 b3 r4.1,X81 b (⟨(⟨#[103]⟩ : ByteArray),(0 : Int),(9 : Int),(⟨(⟨#[]⟩ : ByteArray),(⟨#[103]⟩ : ByteArray),(⟨(1000 : Int),(0 : Int),(0 : Int),(5 : Int),(0 : Int)⟩ : T_api_Res),([] : List T_api_Label),([] : List T_api_Taint),true⟩ : T_api_Machine),(7 : Int),(3 : Int)⟩ : T_api_Group)]) 0 [] R trivial ⟨.same _,.same _,.box _ _ _ _ ⟨.same _,.same _,.same _,.same _,.same _,.same _,.same _,.same _,.same _,.same _,.same _,.here _ R,.same _,.same _,.same _,trivial⟩,trivial⟩))))))))))))))))<|?_
 refine Bb 0 mixed<|Au tbk [0,1] [] (by kernel_rfl) R R R<|VA.sa [4,3,2,1,0] 36 33 R (fun h14 K' J=>Au tbk [2,3,4] [] (by kernel_rfl) R R R<|J 2 R R R) (fun K' J=>Au tbk [2,3,4] [] (by kernel_rfl) R R R<|J 2 R R R)<|A6 5 R R R (by kernel_rfl) (Al R)<|Ci hm [10,9,8,7,6,5,4,3,2,1,0] 42 37 R (fun _ K' h15 J hm=>Au tbk [6] [1] (by kernel_rfl) R R R<|Ao 7 (by kernel_rfl)<|Ch R R R R R R<|A7 ap51 R R R R R fun b7=>B7 (Az 0 [(39,L9 [(⟨#[97]⟩ : ByteArray),(⟨#[99]⟩ : ByteArray)])] R ⟨⟨_,R,.here _ R⟩,trivial⟩ (FzH.refl _))<|B3 8 R R R R R R (by kernel_rfl) (Bo pl83 R R)<|Ao 9 (by kernel_rfl)<|Ch R R R R R R<|An hm 0 R fn89 R (K128 _ _) fun r7 hm=>A6 10 R R R (by kernel_rfl) (Bg true R R R)<|J 5 R R (Bj hm)) (fun _ K' h15 J hm=>Au tbk [6,7,8,9,10] [] (by kernel_rfl) R R R<|J 4 R R (Bj hm)) fun c hm=>A6 11 R R R (by kernel_rfl) (Al R)<|VA.sa [15,14,13,12,11,10,9,8,7,6,5,4,3,2,1,0] 47 43 R (fun h19 K' J=>B3 12 R R R R R R (by kernel_rfl) (Al R)<|B3 13 R R R R R R (by kernel_rfl) (Ax T_api_Option.vv R Cs)<|Au tbk [14,15] [] (by kernel_rfl) R R R<|J 3 R R R) (fun K' J=>Au tbk [12,13,14,15] [] (by kernel_rfl) R R R<|J 3 R R R)<|A6 16 R R R (by kernel_rfl) (Al R)<|Ci hm [22,21,20,19,18,17,16,15,14,13,12,11,10,9,8,7,6,5,4,3,2,1,0] 54 48 R (fun _ K' h20 J hm=>B3 17 R R R R R R (by kernel_rfl) (Al R)<|Bd hm fun x h21 hm=>B3 18 R R R R R R (by kernel_rfl) (A3 T_api_Option.vv R R el72 h21)<|Au tbk [19,20,21,22] [] (by kernel_rfl) R R R<|J 5 R R (Bj hm)) (fun _ K' h20 J hm=>Au tbk [17,18,19,20,21,22] [] (by kernel_rfl) R R R<|J 5 R R (Bj hm)) fun c2 hm=>A6 23 R R R (by kernel_rfl) (Al R)<|Ci hm [30,29,28,27,26,25,24,23,22,21,20,19,18,17,16,15,14,13,12,11,10,9,8,7,6,5,4,3,2,1,0] 62 55 R (fun _ K' h23 J hm=>?_) (fun _ K' h23 J hm=>Au tbk [24,25,26,27,28,29,30] [] (by kernel_rfl) R R R<|J 6 R R (Bj hm)) fun c3 hm=> ?_
 ·refine Au tbk [24,25] [2] (by kernel_rfl) R R R<|?_
  refine B0 [26,28] (by kernel_rfl) ⟨?_,?_,trivial⟩
  ·refine Ch R R R R R R<|A7 ap67 R R R R R fun b8=>B7 (Az 0 [(58,L81 [(⟨(⟨#[103]⟩ : ByteArray),(0 : Int),(9 : Int),(⟨(⟨#[]⟩ : ByteArray),(⟨#[103]⟩ : ByteArray),(⟨(1000 : Int),(0 : Int),(0 : Int),(5 : Int),(0 : Int)⟩ : T_api_Res),([] : List T_api_Label),([] : List T_api_Taint),true⟩ : T_api_Machine),(7 : Int),(3 : Int)⟩ : T_api_Group)])] R ⟨⟨_,R,.here _ R⟩,trivial⟩ (FzH.refl _))<|?_
   refine B0 [27,28] (by kernel_rfl) ⟨?_,?_,trivial⟩
   ·refine Bd hm fun r8 h25 hm=>Ch R R R R R R<|Dj 0 [.nil 30,.nil 50,.same,.same] R fn44 R (K129 ([] : List T_api_Machine) ([] : List T_api_Bound) [r,r2,r3] [(⟨(⟨#[103]⟩ : ByteArray),(0 : Int),(9 : Int),(⟨(⟨#[]⟩ : ByteArray),(⟨#[103]⟩ : ByteArray),(⟨(1000 : Int),(0 : Int),(0 : Int),(5 : Int),(0 : Int)⟩ : T_api_Res),([] : List T_api_Label),([] : List T_api_Taint),true⟩ : T_api_Machine),(7 : Int),(3 : Int)⟩ : T_api_Group)] r8 h25) fun _ _ h29=> ?_
    obtain ⟨ob2,cap2,rfl,rfl⟩:=h29
    exact B7 (Az 0 [(59,L9 r8)] R ⟨⟨_,R,.here _ R⟩,trivial⟩ (FzH.refl _))<|Ao 28 (by kernel_rfl)<|Ch R R R R R R<|A7 ap51 R R R R R fun b9=>B7 (Az 0 [(60,L9 [(⟨#[98]⟩ : ByteArray)])] R ⟨⟨_,R,.here _ R⟩,trivial⟩ (FzH.refl _))<|Ao 29 (by kernel_rfl)<|Ch R R R R R R<|An hm 0 R fn43 R (K130 _ _) fun r9 hm=>A6 30 R R R (by kernel_rfl) (Bg true R R R)<|J 9 R R (Bj hm)
   ·refine Ch R R R R R R<|A7 ap51 R R R R R fun b10=>B7 (Az 0 [(60,L9 [(⟨#[98]⟩ : ByteArray)])] R ⟨⟨_,R,.here _ R⟩,trivial⟩ (FzH.refl _))<|Ao 27 (by kernel_rfl)<|Bd hm fun r10 h31 hm=>Ch R R R R R R<|Dj 0 [.nil 30,.nil 50,.same,.same] R fn44 R (K129 ([] : List T_api_Machine) ([] : List T_api_Bound) [r,r2,r3] [(⟨(⟨#[103]⟩ : ByteArray),(0 : Int),(9 : Int),(⟨(⟨#[]⟩ : ByteArray),(⟨#[103]⟩ : ByteArray),(⟨(1000 : Int),(0 : Int),(0 : Int),(5 : Int),(0 : Int)⟩ : T_api_Res),([] : List T_api_Label),([] : List T_api_Taint),true⟩ : T_api_Machine),(7 : Int),(3 : Int)⟩ : T_api_Group)] r10 h31) fun _ _ h34=> ?_
    obtain ⟨ob3,cap3,rfl,rfl⟩:=h34
    exact B7 (Az 0 [(59,L9 r10)] R ⟨⟨_,R,.here _ R⟩,trivial⟩ (FzH.refl _))<|Ao 29 (by kernel_rfl)<|Ch R R R R R R<|An hm 0 R fn43 R (K130 _ _) fun r11 hm=>A6 30 R R R (by kernel_rfl) (Bg true R R R)<|Di [30,29,28,27,26,25,24,23,22,21,20,19,18,17,16,15,14,13,12,11,10,9,8,7,6,5,4,3,2,1,0] (by kernel_rfl) R<|J 9 R R (Bj hm)
  ·refine Ch R R R R R R<|A7 ap51 R R R R R fun b11=>B7 (Az 0 [(60,L9 [(⟨#[98]⟩ : ByteArray)])] R ⟨⟨_,R,.here _ R⟩,trivial⟩ (FzH.refl _))<|Ao 26 (by kernel_rfl)<|Ch R R R R R R<|A7 ap67 R R R R R fun b12=>B7 (Az 0 [(58,L81 [(⟨(⟨#[103]⟩ : ByteArray),(0 : Int),(9 : Int),(⟨(⟨#[]⟩ : ByteArray),(⟨#[103]⟩ : ByteArray),(⟨(1000 : Int),(0 : Int),(0 : Int),(5 : Int),(0 : Int)⟩ : T_api_Res),([] : List T_api_Label),([] : List T_api_Taint),true⟩ : T_api_Machine),(7 : Int),(3 : Int)⟩ : T_api_Group)])] R ⟨⟨_,R,.here _ R⟩,trivial⟩ (FzH.refl _))<|Ao 27 (by kernel_rfl)<|Bd hm fun r12 h37 hm=>Ch R R R R R R<|Dj 0 [.nil 30,.nil 50,.same,.same] R fn44 R (K129 ([] : List T_api_Machine) ([] : List T_api_Bound) [r,r2,r3] [(⟨(⟨#[103]⟩ : ByteArray),(0 : Int),(9 : Int),(⟨(⟨#[]⟩ : ByteArray),(⟨#[103]⟩ : ByteArray),(⟨(1000 : Int),(0 : Int),(0 : Int),(5 : Int),(0 : Int)⟩ : T_api_Res),([] : List T_api_Label),([] : List T_api_Taint),true⟩ : T_api_Machine),(7 : Int),(3 : Int)⟩ : T_api_Group)] r12 h37) fun _ _ h40=> ?_
   obtain ⟨ob4,cap4,rfl,rfl⟩:=h40
   exact B7 (Az 0 [(59,L9 r12)] R ⟨⟨_,R,.here _ R⟩,trivial⟩ (FzH.refl _))<|Ao 29 (by kernel_rfl)<|Ch R R R R R R<|An hm 0 R fn43 R (K130 _ _) fun r13 hm=>A6 30 R R R (by kernel_rfl) (Bg true R R R)<|Di [30,29,28,27,26,25,24,23,22,21,20,19,18,17,16,15,14,13,12,11,10,9,8,7,6,5,4,3,2,1,0] (by kernel_rfl) R<|J 9 R R (Bj hm)
 exact A6 31 R R R (by kernel_rfl) (Al R)<|Ci hm [38,37,36,35,34,33,32,31,30,29,28,27,26,25,24,23,22,21,20,19,18,17,16,15,14,13,12,11,10,9,8,7,6,5,4,3,2,1,0] 70 63 R (fun _ K' h42 J hm=>B3 32 R R R R R R (by kernel_rfl) (Al R)<|Bd hm fun v h43 hm=>B3 33 R R R R R R (by kernel_rfl) (Dk R R R el24 h43)<|Au tbk [34,35] [2] (by kernel_rfl) R R R<|Ao 36 (by kernel_rfl)<|Ch R R R R R R<|An hm 0 R fn48 R (K125 _ _ _) fun r14 hm=>Au tbk [37,38] [] (by kernel_rfl) R R R<|J 6 R R (Bj hm)) (fun _ K' h42 J hm=>Au tbk [32,33,34,35,36,37,38] [] (by kernel_rfl) R R R<|J 6 R R (Bj hm)) fun c4 hm=>A6 39 R R R (by kernel_rfl) (Ai R)<|A5 (by kernel_rfl)<|Rt1 hm R [] R R R

/-! trireme/triremeref04.part -/
def ref04_part (a : Int) (b : Int) : Option Int :=
 if (b == 0) = true then
  if (a == 0) = true then
   some 0
  else
   some 1000000
 else
  (V.quo (i64.wrap (1000 * a)) b).bind fun v =>
  some (min (i64.wrap v) 1000000)
theorem K132 (a : Int) (b : Int) : VS Tryz.prog 98 (ref04_part a b) [Iw a, Iw b] [] Iw N0 := by
 refine A4 [.tmp 4] Tryz.func98 R R R fun r hm=>?_
 unfold ref04_part at hm
 exact Ag tbk [] R R<|Af<|Ag tbk [] R R<|Ak hm R (fun h1 hm=>Af<|Ag tbk [] R R<|Ak hm R (fun h2 hm=>Ag tbk [] R R<|Rt1 hm R [] R R R) fun h2 hm=>Aj<|Ag tbk [] R R<|Rt1 hm R [] R R R) fun h1 hm=>Aj<|Ah<|Aa tbk [] 3 R R<|Bd hm fun v h3 hm=>Ab R R (C4 R R h3)<|Ab R R (C8 R R)<|Ab R R (Ai R)<|Ac<|Rt1 hm R [] R R R

/-! trireme/triremeref04.Share -/
def ref04_Share (a : T_api_Res) (b : T_api_Res) : Option Int :=
 (ref04_Right a).bind fun r =>
 (if (!r) = true then some true else (ref04_Right b).bind fun r2 =>
 some (!r2)).bind fun c =>
 if c = true then
  some 0
 else
  (ref04_part a.Cpu b.Cpu).bind fun r3 =>
  (ref04_part a.Mem b.Mem).bind fun r4 =>
  some (max r3 r4)
theorem K133 (a : T_api_Res) (b : T_api_Res) : VS Tryz.prog 58 (ref04_Share a b) [T_api_Res.vv a, T_api_Res.vv b] [] Iw N0 := by
 refine A4 [.tmp 4] Tryz.func58 R R R fun r hm=>?_
 unfold ref04_Share at hm
 exact Ah<|Ad R R<|A9 R R fun b2=>Ad R R<|A9 R R fun b3=>Ab R R (Ai R)<|Ac<|Af<|Ah<|Aa tbk [1] 1 R R<|Ad R R<|An hm 0 R fn70 R (K28 _) fun r hm=>Aa tbk [] 2 R R<|Bc hm 4 12 8 R (fun _ K' h4 J hm=>Aa tbk [] 4 R R<|J 3 R R (Bj hm)) (fun _ K' h4 J hm=>Aa tbk [0] 1 R R<|A8 R R R R R<|An hm 0 R fn70 R (K28 _) fun r2 hm=>Aa tbk [] 2 R R<|J 3 R R (Bj hm)) fun c hm=>Ac<|Ak hm R (fun h7 hm=>Ag tbk [] R R<|Rt1 hm R [] R R R) fun h7 hm=>Aj<|Af<|Bb 0 mixed<|Au tbk [0,1,2,3,5,6,7,8] [1,0,1,0] (by kernel_rfl) R R R<|Ao 4 (by kernel_rfl)<|Aq R R R<|An hm 0 R fn98 R (K132 _ _) fun r3 hm=>Ao 9 (by kernel_rfl)<|Aq R R R<|An hm 0 R fn98 R (K132 _ _) fun r4 hm=>A6 10 R R R (by kernel_rfl) (C6 R R)<|A6 11 R R R (by kernel_rfl) (Ai R)<|A5 (by kernel_rfl)<|Rt1 hm R [] R R R

/-! trireme/triremeref19.Order -/
def ref19_Order.l2 (l : List T_api_Pod) (like : T_api_Machine) (out2 : List Int) (i2 : Int) : Nat → Int → (List Int) → Option (Int × List Int)
 | 0, _, _ => none
 | n2 + 1, k2, next2 =>
  (if (decide (k2 < (out2.length : Int))) = true then (V.gl out2 k2).bind fun x =>
  (V.gl l x).bind fun x2 =>
  (V.gl l i2).bind fun x3 =>
  (ref04_Share x2.Need like.Has).bind fun r =>
  (ref04_Share x3.Need like.Has).bind fun r2 =>
  some (decide (r ≥ r2)) else some false).bind fun c =>
  if c = true then
   (V.gl out2 k2).bind fun x4 =>
   (V.ap 8 next2 [x4]).bind fun next4 =>
   ref19_Order.l2 l like out2 i2 n2 (i64.wrap (k2 + 1)) next4
  else
   some (k2, next2)
def ref19_Order.l1 (l : List T_api_Pod) (like : T_api_Machine) : Nat → (List Int) → Int → Option (List Int)
 | 0, _, _ => none
 | n + 1, out2, i2 =>
  if (decide (i2 < (l.length : Int))) = true then
   (ref19_Order.l2 l like out2 i2 FU 0 ([] : List Int)).bind fun j =>
   (V.ap 8 j.2 [i2]).bind fun next5 =>
   (V.sl out2 (some j.1) none).bind fun v =>
   (V.ap 8 next5 v).bind fun next6 =>
   ref19_Order.l1 l like n next6 (i64.wrap (i2 + 1))
  else
   some out2
def ref19_Order (l : List T_api_Pod) (like : T_api_Machine) : Option (List Int) :=
 (ref19_Order.l1 l like FU ([] : List Int) (0 : Int)).bind fun out32 =>
 some out32
theorem K134 (l : List T_api_Pod) (like : T_api_Machine) : VS2 Tryz.prog 19 (ref19_Order l like) [L48 l, T_api_Machine.vv like] [] (fun r ob0 cap0=>Z3 ob0 r cap0) (fun r ob0 cap0=>[Q3 ob0 cap0 r]) := by
 refine Cg [.tmp 4] Tryz.func19 R R R fun r hm=>?_
 unfold ref19_Order at hm
 refine Ah<|Ad R R<|A9 R R fun b=>Ab R R (Ai R)<|Ac<|Ag tbk [] R R<|Af<|Ag tbk [] R R<|Bx hm (fun out32 (gg:Option Nat × Nat)=>[(5,Z3 gg.1 out32 gg.2)]) (fun out32 (gg:Option Nat × Nat)=>[Q3 gg.1 gg.2 out32]) (fun o hm=>?_) fun out32=>Pq fun ob3 cap3 hm=> ?_
 ·refine Bh (fun zn (zs:List Int × Int)=>ref19_Order.l1 l like zn zs.1 zs.2) (fun zs (zg:Option Nat × Nat)=>[(0,L48 l),(3,.ptr b 0),(5,Z3 zg.1 zs.1 zg.2),(6,Iw zs.2)]) (fun zs (zg:Option Nat × Nat)=>[Q3 zg.1 zg.2 zs.1,X30 b like]) (([] : List Int),(0 : Int)) (none,0) (fun _=>R) hm (Be (Ba 3) (Ae [0,0] R R)) fun n=>Pq fun out2 i2=>Pq fun ob2 cap2 hm=> ?_
  rw [ref19_Order.l1] at hm
  refine Af<|Ah<|Aa tbk [] 2 R R<|Ab R R (Ax T_api_Pod.vv R Br)<|Ab R R (A2 R R R)<|Ac<|Ak hm R (fun h6 hm=>?_) fun h6 hm=> ?_
  ·refine Aj<|Af<|Aw<|Ag tbk [] R R<|Ag tbk [] R R<|Cz hm (fun j (gg:Option Nat × Option Nat × Nat)=>[(0,L48 l),(3,.ptr b 0),(5,Z3 gg.1 out2 cap2),(6,Iw i2),(7,Iw j.1),(8,Z3 gg.2.1 j.2 gg.2.2)]) (fun j (gg:Option Nat × Option Nat × Nat)=>[Q3 gg.2.1 gg.2.2 j.2,Q3 gg.1 cap2 out2,X30 b like]) (fun o2 hm=>?_) fun j=>Pq fun ob8=>Pq fun ob9 cap6 hm=> ?_
   ·refine Bh (fun zn (zs:Int × List Int)=>ref19_Order.l2 l like out2 i2 zn zs.1 zs.2) (fun zs (zg:Option Nat × Option Nat × Nat)=>[(0,L48 l),(3,.ptr b 0),(5,Z3 zg.1 out2 cap2),(6,Iw i2),(7,Iw zs.1),(8,Z3 zg.2.1 zs.2 zg.2.2)]) (fun zs (zg:Option Nat × Option Nat × Nat)=>[Q3 zg.2.1 zg.2.2 zs.2,Q3 zg.1 cap2 out2,X30 b like]) ((0 : Int),([] : List Int)) (ob2,none,0) (fun _=>R) hm (Be (Ba 3) (Ae [0,0,0] R R)) fun n2=>Pq fun k2 next2=>Pq fun ob6=>Pq fun ob7 cap5 hm=> ?_
    rw [ref19_Order.l2] at hm
    refine Af<|Af<|Bb 0 mixed<|Au tbk [0,1] [] (by kernel_rfl) R R R<|A6 2 R R R (by kernel_rfl) (C2 (VV.int .i64) R Bz)<|Au tbk [3,4] [] (by kernel_rfl) R R R<|Ci hm [25,24,23,22,21,20,19,18,17,16,15,14,13,12,11,10,9,8,7,6,5,4,3,2,1,0] 40 19 R (fun _ K' h11 J hm=>?_) (fun _ K' h11 J hm=>Au tbk [5,6,7,8,9,10,11,12,13,14,15,16,17,18,19,20,21,22,23,24,25] [] (by kernel_rfl) R R R<|J 20 R R (Bj hm)) fun c hm=> ?_
    ·refine Au tbk [5,6,7] [] (by kernel_rfl) R R R<|Bd hm fun x h12 hm=>VA.someRow 1 R (gl_pos (VV.int .i64) h12) fun b2 h13=> ?_
     subst h13
     exact B3 8 R R R R R R (by kernel_rfl) (Cy (VV.int .i64) R R el41 h12)<|B3 9 R R R R R R (by kernel_rfl) (Cr (i:=1) (y:=(VV.int .i64) x) R R R (gl_map _ (gl_some h12).2) ld3 R)<|Bd hm fun x2 h14 hm=>B3 10 R R R R R R (by kernel_rfl) (A3 T_api_Pod.vv R R el24 h14)<|Au tbk [11,12,13,14,16,17] [2] (by kernel_rfl) R R R<|Bd hm fun x3 h15 hm=>B3 18 R R R R R R (by kernel_rfl) (A3 T_api_Pod.vv R R el24 h15)<|Au tbk [19,20,21,22] [2] (by kernel_rfl) R R R<|Ao 15 (by kernel_rfl)<|Ch R R R R R R<|An hm 0 R fn58 R (K133 _ _) fun r hm=>Ao 23 (by kernel_rfl)<|Ch R R R R R R<|An hm 0 R fn58 R (K133 _ _) fun r2 hm=>Au tbk [24,25] [] (by kernel_rfl) R R R<|Di [25,24,23,22,21,20,19,18,17,16,15,14,13,12,11,10,9,8,7,6,5,4,3,2,1,0] (by kernel_rfl) R<|J 20 R R (Bj hm)
    refine A5 (by kernel_rfl)<|Ak hm R (fun h19 hm=>?_) fun h19 hm=> ?_
    ·refine Aj<|Aw<|Ah<|Aa tbk [] 3 R R<|Bd hm fun x4 h20 hm=>Cv 1 R (gl_pos (VV.int .i64) h20) fun b3 h21=> ?_
     subst h21
     exact Ab R R (Cy (VV.int .i64) R R el41 h20)<|Ab R R (Cr (i:=1) (y:=(VV.int .i64) x4) R R R (gl_map _ (gl_some h20).2) ld3 R)<|Ad R R<|A7 ap41 R R R R R fun b4=>Bd hm fun next4 h23 hm=>Ad R R<|B1 1 (VV.int .i64) (l:=next2) (l2:=[x4]) ap41 R R (sT_row 0 (VV.int .i64) el41 R R) h23 fun ob10 cap7=>Ab R R (Ai R)<|Ac<|A1 tbk [] R R<|Ap ((IntKind.i64.wrap (k2 + (1 : Int))),next4) ((some b3),ob10,cap7) hm (Ae [1,1,1] R R)
    exact A0<|As (ob6,ob7,cap5) hm (Ae [0,0,0] R R)
   exact Ah<|Aa tbk [] 2 R R<|Ad R R<|A7 ap41 R R R R R fun b5=>Bd hm fun next5 h26 hm=>Ad R R<|B1 1 (VV.int .i64) (l:=j.2) (l2:=[i2]) ap41 R R (sT_row 0 (VV.int .i64) el41 R R) h26 fun ob11 cap8=>Ab R R (Ai R)<|Ac<|Bk<|Aa tbk [] 3 R R<|Bp (Az 2 [(5,L3 out2),(55,L3 out2)] R ⟨⟨_,R,.here _ R⟩,⟨_,R,.here _ R⟩,trivial⟩ (FzH.refl _))<|Bd hm fun v h27 hm=>Ab R R (Dk R R R el41 h27)<|Bd hm fun next6 h28 hm=>Ad R R<|B1 1 (VV.int .i64) (l:=next5) (l2:=v) ap41 R R (sT_list (VV.int .i64) el41 R R) h28 fun ob12 cap9=>Ab R R (Ai R)<|Ac<|A1 tbk [] R R<|Ap (next6,(IntKind.i64.wrap (i2 + (1 : Int)))) (ob12,cap9) hm (Ae [1,1] R R)
  exact A0<|As (ob2,cap2) hm (Ae [0] R R)
 exact Ag tbk [] R R<|Rg2 hm R [0] ob3 cap3 (.cons (.tmp _ _ R) .nil) R R

/-! trireme/triremeref01.Digits -/
def ref01_Digits : Nat → Int → Option ByteArray
 | 0, _ => none
 | nn + 1, n =>
  if (decide (n < 10)) = true then
   some (strOfNums [(IntKind.u8.wrap (i64.wrap (48 + n)))])
  else
   (V.quo n (10 : Int)).bind fun v =>
   (V.rem n (10 : Int)).bind fun v2 =>
   ((ref01_Digits nn) (i64.wrap v)).bind fun r =>
   (V.cat r (strOfNums [(IntKind.u8.wrap (i64.wrap (48 + v2)))])).bind fun v3 =>
   some v3
theorem K135 (nn : Nat) : ∀ (n : Int), VS Tryz.prog 61 (ref01_Digits nn n) [Iw n] [] .str N0 := by
 induction nn with
 | zero => intro n; exact VS.none (by rw [ref01_Digits])
 | succ nn ih =>
  intro n
  refine A4 [.tmp 2] Tryz.func61 R R R fun r hm=>?_
  rw [ref01_Digits] at hm
  refine Ag tbk [] R R<|Af<|Ag tbk [] R R<|Ak hm R (fun h1 hm=>Ah<|Aa tbk [] 2 R R<|Ab R R (B6 Bt Bi R)<|Ad R R<|A7 ap122 R R R R R fun b=>Bp (Az 0 [(8,L5 [(IntKind.u8.wrap (IntKind.i64.wrap ((48 : Int) + n)))])] R ⟨⟨_,R,.here _ R⟩,trivial⟩ (FzH.refl _))<|Ab R R (C7 (l:=[(IntKind.u8.wrap (IntKind.i64.wrap ((48 : Int) + n)))]) el122 Bi Ay R)<|Ab R R (Ai R)<|Ac<|Rt1 hm R [] R R R) fun h1 hm=>Aj<|Af<|Bb 0 mixed<|A6 0 R R R (by kernel_rfl) (Al R)<|Bd hm fun v h3 hm=>A6 1 R R R (by kernel_rfl) (C4 R R h3)<|A6 3 R R R (by kernel_rfl) (Al R)<|Bd hm fun v2 h4 hm=>A6 4 R R R (by kernel_rfl) (VP.remT R R h4)<|A6 5 R R R (by kernel_rfl) (A2 R R R)<|A6 6 R R R (by kernel_rfl) (B6 Bt Bi R)<|?_
  refine B0 [2,7] (by kernel_rfl) ⟨?_,?_,trivial⟩
  ·exact Aq R R R<|An hm 0 R fn61 R (ih _) fun r hm=>Ao 7 (by kernel_rfl)<|Aq R R R<|A7 ap122 R R R R R fun b2=>B7 (Az 0 [(17,L5 [(IntKind.u8.wrap (IntKind.i64.wrap ((48 : Int) + v2)))])] R ⟨⟨_,R,.here _ R⟩,trivial⟩ (FzH.refl _))<|A6 8 R R R (by kernel_rfl) (C7 (l:=[(IntKind.u8.wrap (IntKind.i64.wrap ((48 : Int) + v2)))]) el122 Bi Ay R)<|Bd hm fun v3 h7 hm=>A6 9 R R R (by kernel_rfl) (C5 R R h7)<|A6 10 R R R (by kernel_rfl) (Ai R)<|A5 (by kernel_rfl)<|Rt1 hm R [] R R R
  ·exact Aq R R R<|A7 ap122 R R R R R fun b3=>B7 (Az 0 [(17,L5 [(IntKind.u8.wrap (IntKind.i64.wrap ((48 : Int) + v2)))])] R ⟨⟨_,R,.here _ R⟩,trivial⟩ (FzH.refl _))<|A6 8 R R R (by kernel_rfl) (C7 (l:=[(IntKind.u8.wrap (IntKind.i64.wrap ((48 : Int) + v2)))]) el122 Bi Ay R)<|Ao 2 (by kernel_rfl)<|Aq R R R<|An hm 0 R fn61 R (ih _) fun r2 hm=>Bd hm fun v4 h10 hm=>A6 9 R R R (by kernel_rfl) (C5 R R h10)<|A6 10 R R R (by kernel_rfl) (Ai R)<|A5 (by kernel_rfl)<|Rt1 hm R [] R R R

/-! trireme/triremeref19.Fresh -/
def ref19_Fresh (like : T_api_Machine) (n : Int) : Option T_api_Machine :=
 if (decide (n < 0)) = true then
  (V.cat like.Group (⟨#[43]⟩ : ByteArray)).bind fun v =>
  (ref01_Digits FU (0 : Int)).bind fun r =>
  (V.cat v r).bind fun v2 =>
  some (⟨v2, like.Group, like.Has, like.Labels, like.Taints, like.Ready⟩ : T_api_Machine)
 else
  (V.cat like.Group (⟨#[43]⟩ : ByteArray)).bind fun v3 =>
  (ref01_Digits FU n).bind fun r2 =>
  (V.cat v3 r2).bind fun v4 =>
  some (⟨v4, like.Group, like.Has, like.Labels, like.Taints, like.Ready⟩ : T_api_Machine)
theorem K136 (like : T_api_Machine) (n : Int) : VS Tryz.prog 21 (ref19_Fresh like n) [T_api_Machine.vv like, Iw n] [] (fun r=>T_api_Machine.vv r) N0 := by
 refine A4 [.cell 4 30] Tryz.func21 R R R fun r hm=>?_
 unfold ref19_Fresh at hm
 exact Ah<|Ad R R<|A9 R R fun b=>Ad R R<|Av z30 fun b2=>Ac<|Af<|Ag tbk [] R R<|Ak hm R (fun h3 hm=>A1 tbk [] R R<|Ah<|Aa tbk [1] 1 R R<|Ad R R<|Av z30 fun b3=>Ad R R<|Am (i:=0) R R R ld30 R R R<|Ac<|Af<|Bb 1 mixed<|Au tbk [0,1] [1] (by kernel_rfl) R R R<|Bd hm fun v h5 hm=>A6 2 R R R (by kernel_rfl) (C5 R R h5)<|A6 3 R R R (by kernel_rfl) (Al R)<|Ao 4 (by kernel_rfl)<|Aq R R R<|An hm 0 R fn61 R (K135 FU _) fun r hm=>Bd hm fun v2 h7 hm=>A6 5 R R R (by kernel_rfl) (C5 R R h7)<|A6 6 R R R (by kernel_rfl) (Cw R fa30_0)<|Ao 7 (by kernel_rfl)<|Aq R R R<|Am (i:=0) R R R ld9 R R R<|A5 (by kernel_rfl)<|Ah<|Aa tbk [0] 1 R R<|Ad R R<|Am (i:=1) R R R ld30 R R R<|Ac<|Rt0 hm R [] (.cons (.cell _ _ _ _ 1 _ _ _ _ R R ld30 R) .nil) R R) fun h3 hm=>Aj<|Ah<|Aa tbk [1] 1 R R<|Ad R R<|Av z30 fun b4=>Ad R R<|Am (i:=0) R R R ld30 R R R<|Ac<|Af<|Bb 1 mixed<|Au tbk [0,1] [1] (by kernel_rfl) R R R<|Bd hm fun v3 h9 hm=>A6 2 R R R (by kernel_rfl) (C5 R R h9)<|A6 3 R R R (by kernel_rfl) (Al R)<|Ao 4 (by kernel_rfl)<|Aq R R R<|An hm 0 R fn61 R (K135 FU _) fun r2 hm=>Bd hm fun v4 h11 hm=>A6 5 R R R (by kernel_rfl) (C5 R R h11)<|A6 6 R R R (by kernel_rfl) (Cw R fa30_0)<|Ao 7 (by kernel_rfl)<|Aq R R R<|Am (i:=0) R R R ld9 R R R<|A5 (by kernel_rfl)<|Ah<|Aa tbk [0] 1 R R<|Ad R R<|Am (i:=1) R R R ld30 R R R<|Ac<|Rt0 hm R [] (.cons (.cell _ _ _ _ 1 _ _ _ _ R R ld30 R) .nil) R R

/-! trireme/triremeref05.Get -/
def ref05_Get.l1 (l : List T_api_Label) (key : ByteArray) : Nat → Int → Option (Out (ByteArray × Bool) Unit)
 | 0, _ => none
 | n + 1, i2 =>
  if (decide (i2 < (l.length : Int))) = true then
   (V.gl l i2).bind fun x =>
   if (V.seq x.Key key) = true then
    (V.gl l i2).bind fun x2 =>
    some (Out.ret (x2.Val, true))
   else
    ref05_Get.l1 l key n (i64.wrap (i2 + 1))
  else
   some (Out.go ())
def ref05_Get (l : List T_api_Label) (key : ByteArray) : Option (ByteArray × Bool) :=
 (ref05_Get.l1 l key FU (0 : Int)).bind fun o =>
 o.on fun j =>
 some ((⟨#[]⟩ : ByteArray), false)
theorem K137 (l : List T_api_Label) (key : ByteArray) : VS Tryz.prog 163 (ref05_Get l key) [L124 l, .str key] [] (fun r=>.tup [.str r.1, .bool r.2]) N0 := by
 refine A4 [.tmp 4,.tmp 5] Tryz.func163 R R R fun r hm=>?_
 unfold ref05_Get at hm
 refine Ag tbk [] R R<|Af<|Ag tbk [] R R<|Bq hm (fun _ (_:Unit)=>[]) (fun _ (_:Unit)=>[]) (fun o hm h2=>?_) fun j _ hm=> ?_
 ·refine Bh (fun zn (zs:Int)=>ref05_Get.l1 l key zn zs) (fun zs (_:Unit)=>[(0,L124 l),(1,.str key),(6,Iw zs)]) (fun _ (_:Unit)=>[]) _ () (fun _=>R) hm (Ae [] R R) fun n i2 _ hm=> ?_
  rw [ref05_Get.l1] at hm
  exact Af<|Ah<|Aa tbk [] 2 R R<|Ab R R (Ax T_api_Label.vv R Bu)<|Ab R R (A2 R R R)<|Ac<|Ak hm R (fun h3 hm=>Aj<|Af<|Aw<|Ah<|Aa tbk [] 2 R R<|Bd hm fun x h4 hm=>Ab R R (A3 T_api_Label.vv R R el27 h4)<|Aa tbk [] 4 R R<|Ac<|Ak hm R (fun h5 hm=>Ah<|Aa tbk [] 2 R R<|Bd hm fun x2 h6 hm=>Ab R R (A3 T_api_Label.vv R R el27 h6)<|Aa tbk [] 4 R R<|Ac<|have hm:=Lr hm h2;Rt2 hm R [] R R R R) fun h5 hm=>Aj<|A1 tbk [] R R<|Ap _ () hm (Ae [] R R)) fun h3 hm=>A0<|Ar () hm (Ae [] R R)
 exact Ag tbk [] R R<|Rt2 hm R [] R R R R

/-! trireme/triremeref05.Has -/
def ref05_Has.l1 (l : List T_api_Label) (some_ : List T_api_Label) : Nat → Int → Option (Out Bool Unit)
 | 0, _ => none
 | n + 1, i2 =>
  if (decide (i2 < (some_.length : Int))) = true then
   (V.gl some_ i2).bind fun x =>
   (ref05_Get l x.Key).bind fun r =>
   (if (!r.2) = true then some true else (V.gl some_ i2).bind fun x2 =>
   some (!(V.seq r.1 x2.Val))).bind fun c =>
   if c = true then
    some (Out.ret false)
   else
    ref05_Has.l1 l some_ n (i64.wrap (i2 + 1))
  else
   some (Out.go ())
def ref05_Has (l : List T_api_Label) (some_ : List T_api_Label) : Option Bool :=
 (ref05_Has.l1 l some_ FU (0 : Int)).bind fun o =>
 o.on fun j =>
 some true
theorem K138 (l : List T_api_Label) (some_ : List T_api_Label) : VS Tryz.prog 143 (ref05_Has l some_) [L124 l, L124 some_] [] .bool N0 := by
 refine A4 [.tmp 4] Tryz.func143 R R R fun r hm=>?_
 unfold ref05_Has at hm
 refine Ag tbk [] R R<|Af<|Ag tbk [] R R<|Bq hm (fun _ (_:Unit)=>[]) (fun _ (_:Unit)=>[]) (fun o hm h2=>?_) fun j _ hm=> ?_
 ·refine Bh (fun zn (zs:Int)=>ref05_Has.l1 l some_ zn zs) (fun zs (_:Unit)=>[(0,L124 l),(1,L124 some_),(5,Iw zs)]) (fun _ (_:Unit)=>[]) _ () (fun _=>R) hm (Ae [] R R) fun n i2 _ hm=> ?_
  rw [ref05_Has.l1] at hm
  exact Af<|Ah<|Aa tbk [] 2 R R<|Ab R R (Ax T_api_Label.vv R Bu)<|Ab R R (A2 R R R)<|Ac<|Ak hm R (fun h3 hm=>Aj<|Af<|Aw<|Ah<|Aa tbk [] 3 R R<|Bd hm fun x h4 hm=>Ab R R (A3 T_api_Label.vv R R el27 h4)<|Aa tbk [] 2 R R<|Ad R R<|An hm 0 R fn163 R (K137 _ _) fun r hm=>Aa tbk [] 5 R R<|Ac<|Ah<|Aa tbk [] 3 R R<|Bc hm 8 34 26 R (fun _ K' h6 J hm=>Aa tbk [] 8 R R<|J 7 R R (Bj hm)) (fun _ K' h6 J hm=>Aa tbk [] 3 R R<|Bd hm fun x2 h7 hm=>Bm R R R R R (A3 T_api_Label.vv R R el27 h7)<|Aa tbk [] 4 R R<|J 7 R R (Bj hm)) fun c hm=>Ac<|Ak hm R (fun h9 hm=>Ag tbk [] R R<|have hm:=Lr hm h2;Rt1 hm R [] R R R) fun h9 hm=>Aj<|A1 tbk [] R R<|Ap _ () hm (Ae [] R R)) fun h3 hm=>A0<|Ar () hm (Ae [] R R)
 exact Ag tbk [] R R<|Rt1 hm R [] R R R

/-! trireme/triremeref05.Meets -/
def ref05_Meets.l1 (t : T_api_Term) (r : ByteArray × Bool) : Nat → Bool → Int → Option Bool
 | 0, _, _ => none
 | n + 1, in_2, i2 =>
  if (decide (i2 < (t.Vals.length : Int))) = true then
   (if in_2 = true then some true else (if r.2 = true then (V.gl t.Vals i2).bind fun x =>
   some (V.seq x r.1) else some false).bind fun c =>
   some c).bind fun c2 =>
   ref05_Meets.l1 t r n c2 (i64.wrap (i2 + 1))
  else
   some in_2
def ref05_Meets (l : List T_api_Label) (t : T_api_Term) : Option Bool :=
 (ref05_Get l t.Key).bind fun r =>
 (ref05_Meets.l1 t r FU false (0 : Int)).bind fun in_32 =>
 if (t.Op == 1) = true then
  some in_32
 else
  if (t.Op == 2) = true then
   some (!in_32)
  else
   if (t.Op == 3) = true then
    some r.2
   else
    if (t.Op == 4) = true then
     some (!r.2)
    else
     (ref03_Number r.1).bind fun r2 =>
     (V.gl t.Vals (0 : Int)).bind fun x2 =>
     (ref03_Number x2).bind fun r3 =>
     if ((!r.2) || (r2.2 != 0)) = true then
      some false
     else
      if (t.Op == 5) = true then
       some (decide (r2.1 > r3.1))
      else
       some (decide (r2.1 < r3.1))
theorem K139 (l : List T_api_Label) (t : T_api_Term) : VS Tryz.prog 164 (ref05_Meets l t) [L124 l, T_api_Term.vv t] [] .bool N0 := by
 refine A4 [.tmp 4] Tryz.func164 R R R fun r hm=>?_
 unfold ref05_Meets at hm
 refine Ah<|Ad R R<|A9 R R fun b=>Ab R R (Ai R)<|Ac<|Ah<|Aa tbk [0] 3 R R<|Ad R R<|An hm 0 R fn163 R (K137 _ _) fun r hm=>Aa tbk [] 5 R R<|Ac<|Ag tbk [] R R<|Af<|Ag tbk [] R R<|Bx hm (fun in_32 (_:Unit)=>[(3,.ptr b 0),(5,.str r.1),(6,.bool r.2),(7,.bool in_32)]) (fun _ (_:Unit)=>[X103 b t]) (fun o hm=>?_) fun in_32 _ hm=> ?_
 ·refine Bh (fun zn (zs:Bool × Int)=>ref05_Meets.l1 t r zn zs.1 zs.2) (fun zs (_:Unit)=>[(3,.ptr b 0),(5,.str r.1),(6,.bool r.2),(7,.bool zs.1),(8,Iw zs.2)]) (fun _ (_:Unit)=>[X103 b t]) (false,(0 : Int)) () (fun _=>R) hm (Ae [0] R R) fun n=>Pq fun in_2 i2 _ hm=> ?_
  rw [ref05_Meets.l1] at hm
  exact Af<|Ah<|Aa tbk [0] 3 R R<|Ab R R (Ax VV.str R Bf)<|Ab R R (A2 R R R)<|Ac<|Ak hm R (fun h5 hm=>Aj<|Af<|Aw<|Bk<|Aa tbk [] 2 R R<|Bc hm 11 39 28 R (fun _ K' h6 J hm=>Aa tbk [] 11 R R<|J 10 R R (Bj hm)) (fun _ K' h6 J hm=>Aa tbk [] 2 R R<|Bc hm 8 38 30 R (fun _ K' h7 J hm=>Aa tbk [0] 3 R R<|Bd hm fun x h8 hm=>Bm R R R R R (A3 VV.str R R el51 h8)<|Aa tbk [] 4 R R<|J 7 R R (Bj hm)) (fun _ K' h7 J hm=>Aa tbk [] 8 R R<|J 7 R R (Bj hm)) fun c hm=>Ab R R (Bg false R R R)<|J 3 R R (Bj hm)) fun c2 hm=>Ab R R (Ai R)<|Ac<|A1 tbk [] R R<|Ap (c2,(IntKind.i64.wrap (i2 + (1 : Int)))) () hm (Ae [0] R R)) fun h5 hm=>A0<|As () hm (Ae [0] R R)
 exact Af<|Ag tbk [0] R R<|Aw<|Ag tbk [] R R<|Ak hm R (fun h11 hm=>Ag tbk [] R R<|Rt1 hm R [] R R R) fun h11 hm=>Ag tbk [] R R<|Ak hm R (fun h12 hm=>Ag tbk [] R R<|Rt1 hm R [] R R R) fun h12 hm=>Ag tbk [] R R<|Ak hm R (fun h13 hm=>Ag tbk [] R R<|Rt1 hm R [] R R R) fun h13 hm=>Ag tbk [] R R<|Ak hm R (fun h14 hm=>Ag tbk [] R R<|Rt1 hm R [] R R R) fun h14 hm=>Aj<|Ah<|Ab R R (Al R)<|Ad R R<|An hm 0 R fn104 R (K45 _) fun r2 hm=>Aa tbk [] 5 R R<|Ac<|Ah<|Aa tbk [0] 2 R R<|Bd hm fun x2 h16 hm=>Ab R R (A3 VV.str R R el51 h16)<|Ab R R (Bn R ld9 R)<|Ad R R<|An hm 0 R fn104 R (K45 _) fun r3 hm=>Aa tbk [] 5 R R<|Ac<|Af<|Ah<|Aa tbk [] 3 R R<|Cb tbk [] 3 74 71 R R R R R<|Ac<|Ak hm R (fun h19 hm=>Ag tbk [] R R<|Rt1 hm R [] R R R) fun h19 hm=>Aj<|Af<|Ag tbk [0] R R<|Ak hm R (fun h20 hm=>Ag tbk [] R R<|Rt1 hm R [] R R R) fun h20 hm=>Aj<|Ag tbk [] R R<|Rt1 hm R [] R R R

/-! trireme/triremeref05.All -/
def ref05_All.l1 (l : List T_api_Label) (terms : List T_api_Term) : Nat → Int → Option (Out Bool Unit)
 | 0, _ => none
 | n + 1, i2 =>
  if (decide (i2 < (terms.length : Int))) = true then
   (V.gl terms i2).bind fun x =>
   (ref05_Meets l x).bind fun r =>
   if (!r) = true then
    some (Out.ret false)
   else
    ref05_All.l1 l terms n (i64.wrap (i2 + 1))
  else
   some (Out.go ())
def ref05_All (l : List T_api_Label) (terms : List T_api_Term) : Option Bool :=
 (ref05_All.l1 l terms FU (0 : Int)).bind fun o =>
 o.on fun j =>
 some true
theorem K140 (l : List T_api_Label) (terms : List T_api_Term) : VS Tryz.prog 144 (ref05_All l terms) [L124 l, L103 terms] [] .bool N0 := by
 refine A4 [.tmp 4] Tryz.func144 R R R fun r hm=>?_
 unfold ref05_All at hm
 refine Ag tbk [] R R<|Af<|Ag tbk [] R R<|Bq hm (fun _ (_:Unit)=>[]) (fun _ (_:Unit)=>[]) (fun o hm h2=>?_) fun j _ hm=> ?_
 ·refine Bh (fun zn (zs:Int)=>ref05_All.l1 l terms zn zs) (fun zs (_:Unit)=>[(0,L124 l),(1,L103 terms),(5,Iw zs)]) (fun _ (_:Unit)=>[]) _ () (fun _=>R) hm (Ae [] R R) fun n i2 _ hm=> ?_
  rw [ref05_All.l1] at hm
  exact Af<|Ah<|Aa tbk [] 2 R R<|Ab R R (Ax T_api_Term.vv R Cu)<|Ab R R (A2 R R R)<|Ac<|Ak hm R (fun h3 hm=>Aj<|Af<|Aw<|Ah<|Aa tbk [] 3 R R<|Bd hm fun x h4 hm=>Ab R R (A3 T_api_Term.vv R R el45 h4)<|Ab R R (Bn R ld103 R)<|Ad R R<|An hm 0 R fn164 R (K139 _ _) fun r hm=>Ab R R (Cq R)<|Ac<|Ak hm R (fun h6 hm=>Ag tbk [] R R<|have hm:=Lr hm h2;Rt1 hm R [] R R R) fun h6 hm=>Aj<|A1 tbk [] R R<|Ap _ () hm (Ae [] R R)) fun h3 hm=>A0<|Ar () hm (Ae [] R R)
 exact Ag tbk [] R R<|Rt1 hm R [] R R R

/-! trireme/triremeref06.Bears -/
def ref06_Bears (t : T_api_Toleration) (x : T_api_Taint) : Option Bool :=
 some ((((t.Effect == 0) || (t.Effect == x.Effect)) && ((V.seq t.Key (⟨#[]⟩ : ByteArray)) || (V.seq t.Key x.Key))) && (t.Any || (V.seq t.Val x.Val)))
theorem K141 (t : T_api_Toleration) (x : T_api_Taint) : VS Tryz.prog 184 (ref06_Bears t x) [T_api_Toleration.vv t, T_api_Taint.vv x] [] .bool N0 := by
 refine A4 [.tmp 4] Tryz.func184 R R R fun r hm=>?_
 unfold ref06_Bears at hm
 exact Ah<|Ad R R<|A9 R R fun b=>Ad R R<|A9 R R fun b2=>Ab R R (Ai R)<|Ac<|Ah<|Aa tbk [1] 4 R R<|Cb tbk [1,0] 6 14 8 R R R R R<|Ab R R (Al R)<|De 11 26 15 R (fun h4 K' J=>Aa tbk [1] 4 R R<|Cb tbk [1,0] 6 25 19 R R R R R<|Ab R R (Bg true R R R)<|J 5 R R R) (fun K' J=>Aa tbk [] 11 R R<|J 10 R R R)<|Ab R R (Al R)<|De 10 37 27 R (fun h6 K' J=>Aa tbk [1] 3 R R<|Cb tbk [1,0] 6 36 30 R R R R R<|Ab R R (Bg true R R R)<|J 4 R R R) (fun K' J=>Aa tbk [] 10 R R<|J 9 R R R)<|Ab R R (Ai R)<|Ac<|Rt1 hm R [] R R R

/-! trireme/triremeref06.Unborne -/
def ref06_Unborne.l2 (l : List T_api_Toleration) (taints : List T_api_Taint) (i2 : Int) : Nat → Bool → Int → Option Bool
 | 0, _, _ => none
 | n2 + 1, borne2, k2 =>
  if (decide (k2 < (l.length : Int))) = true then
   (if borne2 = true then some true else (V.gl l k2).bind fun x2 =>
   (V.gl taints i2).bind fun x3 =>
   (ref06_Bears x2 x3).bind fun r =>
   some r).bind fun c2 =>
   ref06_Unborne.l2 l taints i2 n2 c2 (i64.wrap (k2 + 1))
  else
   some borne2
def ref06_Unborne.l1 (l : List T_api_Toleration) (taints : List T_api_Taint) (effect : Int) : Nat → (List T_api_Taint) → Int → Option (List T_api_Taint)
 | 0, _, _ => none
 | n + 1, out2, i2 =>
  if (decide (i2 < (taints.length : Int))) = true then
   (if (effect != 0) = true then (V.gl taints i2).bind fun x =>
   some (x.Effect != effect) else some false).bind fun c =>
   (ref06_Unborne.l2 l taints i2 FU c (0 : Int)).bind fun borne32 =>
   if (!borne32) = true then
    (V.gl taints i2).bind fun x4 =>
    (V.ap 40 out2 [x4]).bind fun out4 =>
    ref06_Unborne.l1 l taints effect n out4 (i64.wrap (i2 + 1))
   else
    ref06_Unborne.l1 l taints effect n out2 (i64.wrap (i2 + 1))
  else
   some out2
def ref06_Unborne (l : List T_api_Toleration) (taints : List T_api_Taint) (effect : Int) : Option (List T_api_Taint) :=
 (ref06_Unborne.l1 l taints effect FU ([] : List T_api_Taint) (0 : Int)).bind fun out32 =>
 some out32
theorem K142 (l : List T_api_Toleration) (taints : List T_api_Taint) (effect : Int) : VS2 Tryz.prog 165 (ref06_Unborne l taints effect) [L128 l, L126 taints, Iw effect] [] (fun r ob0 cap0=>Z126 ob0 r cap0) (fun r ob0 cap0=>[Q126 ob0 cap0 r]) := by
 refine Cg [.tmp 6] Tryz.func165 R R R fun r hm=>?_
 unfold ref06_Unborne at hm
 refine Ag tbk [] R R<|Ag tbk [] R R<|Af<|Ag tbk [] R R<|Bx hm (fun out32 (gg:Option Nat × Nat)=>[(7,Z126 gg.1 out32 gg.2)]) (fun out32 (gg:Option Nat × Nat)=>[Q126 gg.1 gg.2 out32]) (fun o hm=>?_) fun out32=>Pq fun ob3 cap3 hm=> ?_
 ·refine Bh (fun zn (zs:List T_api_Taint × Int)=>ref06_Unborne.l1 l taints effect zn zs.1 zs.2) (fun zs (zg:Option Nat × Nat)=>[(0,L128 l),(1,L126 taints),(2,Iw effect),(7,Z126 zg.1 zs.1 zg.2),(8,Iw zs.2)]) (fun zs (zg:Option Nat × Nat)=>[Q126 zg.1 zg.2 zs.1]) (([] : List T_api_Taint),(0 : Int)) (none,0) (fun _=>R) hm (Be (Ba 126) (Ae [0] R R)) fun n=>Pq fun out2 i2=>Pq fun ob2 cap2 hm=> ?_
  rw [ref06_Unborne.l1] at hm
  refine Af<|Ah<|Aa tbk [] 2 R R<|Ab R R (Ax T_api_Taint.vv R Cf)<|Ab R R (A2 R R R)<|Ac<|Ak hm R (fun h5 hm=>?_) fun h5 hm=> ?_
  ·refine Aj<|Af<|Aw<|Ah<|Aa tbk [] 3 R R<|Bc hm 8 27 19 R (fun _ K' h6 J hm=>Aa tbk [] 2 R R<|Bd hm fun x h7 hm=>Bm R R R R R (A3 T_api_Taint.vv R R el28 h7)<|Aa tbk [] 5 R R<|J 7 R R (Bj hm)) (fun _ K' h6 J hm=>Aa tbk [] 8 R R<|J 7 R R (Bj hm)) fun c hm=>Ab R R (Ai R)<|Ac<|Af<|Ag tbk [] R R<|Bx hm (fun borne32 (_:Unit)=>[(0,L128 l),(1,L126 taints),(2,Iw effect),(7,Z126 ob2 out2 cap2),(8,Iw i2),(9,.bool borne32)]) (fun _ (_:Unit)=>[Q126 ob2 cap2 out2]) (fun o2 hm=>?_) fun borne32 _ hm=> ?_
   ·refine Bh (fun zn (zs:Bool × Int)=>ref06_Unborne.l2 l taints i2 zn zs.1 zs.2) (fun zs (_:Unit)=>[(0,L128 l),(1,L126 taints),(2,Iw effect),(7,Z126 ob2 out2 cap2),(8,Iw i2),(9,.bool zs.1),(10,Iw zs.2)]) (fun _ (_:Unit)=>[Q126 ob2 cap2 out2]) (c,(0 : Int)) () (fun _=>R) hm (Ae [0] R R) fun n2=>Pq fun borne2 k2 _ hm=> ?_
    rw [ref06_Unborne.l2] at hm
    exact Af<|Ah<|Aa tbk [] 2 R R<|Ab R R (Ax T_api_Toleration.vv R Ct)<|Ab R R (A2 R R R)<|Ac<|Ak hm R (fun h11 hm=>Aj<|Af<|Aw<|Bb 0 mixed<|Au tbk [0,1] [] (by kernel_rfl) R R R<|Ci hm [11,10,9,8,7,6,5,4,3,2,1,0] 45 35 R (fun _ K' h12 J hm=>Au tbk [2,3,4,5,6,7,8,9,10,11] [] (by kernel_rfl) R R R<|J 9 R R (Bj hm)) (fun _ K' h12 J hm=>Au tbk [2,3] [] (by kernel_rfl) R R R<|Bd hm fun x2 h13 hm=>B3 4 R R R R R R (by kernel_rfl) (A3 T_api_Toleration.vv R R el46 h13)<|Au tbk [5,6,7] [] (by kernel_rfl) R R R<|Bd hm fun x3 h14 hm=>B3 8 R R R R R R (by kernel_rfl) (A3 T_api_Taint.vv R R el28 h14)<|B3 9 R R R R R R (by kernel_rfl) (Bn R ld126 R)<|Ao 10 (by kernel_rfl)<|Ch R R R R R R<|An hm 0 R fn184 R (K141 _ _) fun r hm=>A6 11 R R R (by kernel_rfl) (Bg false R R R)<|J 9 R R (Bj hm)) fun c2 hm=>A6 12 R R R (by kernel_rfl) (Ai R)<|A5 (by kernel_rfl)<|A1 tbk [] R R<|Ap (c2,(IntKind.i64.wrap (k2 + (1 : Int)))) () hm (Ae [0] R R)) fun h11 hm=>A0<|As () hm (Ae [0] R R)
   exact Ag tbk [] R R<|Ak hm R (fun h17 hm=>Bk<|Aa tbk [] 3 R R<|Bd hm fun x4 h18 hm=>Ab R R (A3 T_api_Taint.vv R R el28 h18)<|Ab R R (Bn R ld126 R)<|Ad R R<|A7 ap28 R R R R R fun b=>Bd hm fun out4 h20 hm=>Ad R R<|B1 1 T_api_Taint.vv (l:=out2) (l2:=[x4]) ap28 R R (sT_row 0 T_api_Taint.vv el28 R R) h20 fun ob4 cap4=>Ab R R (Ai R)<|Ac<|A1 tbk [] R R<|Ap (out4,(IntKind.i64.wrap (i2 + (1 : Int)))) (ob4,cap4) hm (Ae [1] R R)) fun h17 hm=>Aj<|A1 tbk [] R R<|Ap (out2,(IntKind.i64.wrap (i2 + (1 : Int)))) (ob2,cap2) hm (Ae [0] R R)
  exact A0<|As (ob2,cap2) hm (Ae [0] R R)
 exact Ag tbk [] R R<|Rg2 hm R [0] ob3 cap3 (.cons (.tmp _ _ R) .nil) R R

/-! trireme/triremeref06.hard -/
def ref06_hard (n : Int) : Option Bool :=
 some ((n == 1) || (n == 3))
theorem K143 (n : Int) : VS Tryz.prog 166 (ref06_hard n) [Iw n] [] .bool N0 := by
 refine A4 [.tmp 2] Tryz.func166 R R R fun r hm=>?_
 unfold ref06_hard at hm
 exact Ag tbk [] R R<|Ah<|Aa tbk [] 3 R R<|Cb tbk [] 3 8 5 R R R R R<|Ab R R (Ai R)<|Ac<|Rt1 hm R [] R R R

/-! trireme/triremeref06.Allows -/
def ref06_Allows.l1 (r : List T_api_Taint) : Nat → Int → Option (Out Bool Unit)
 | 0, _ => none
 | n + 1, i2 =>
  if (decide (i2 < (r.length : Int))) = true then
   (V.gl r i2).bind fun x =>
   (ref06_hard x.Effect).bind fun r2 =>
   if r2 = true then
    some (Out.ret false)
   else
    ref06_Allows.l1 r n (i64.wrap (i2 + 1))
  else
   some (Out.go ())
def ref06_Allows (l : List T_api_Toleration) (taints : List T_api_Taint) : Option Bool :=
 (ref06_Unborne l taints (0 : Int)).bind fun r =>
 (ref06_Allows.l1 r FU (0 : Int)).bind fun o =>
 o.on fun j =>
 some true
theorem K144 (l : List T_api_Toleration) (taints : List T_api_Taint) : VS Tryz.prog 145 (ref06_Allows l taints) [L128 l, L126 taints] [] .bool N0 := by
 refine A4 [.tmp 4] Tryz.func145 R R R fun r hm=>?_
 unfold ref06_Allows at hm
 refine Ag tbk [] R R<|Ah<|Aa tbk [] 2 R R<|Ad R R<|Cc hm 0 R fn165 R (K142 _ _ _) fun r ob cap hm=>Bp (Az 0 [(9,L126 r)] R ⟨⟨_,R,.here _ R⟩,trivial⟩ (FzH.refl _))<|Ab R R (Ai R)<|Ac<|Af<|Ag tbk [] R R<|Bq hm (fun _ (_:Unit)=>[]) (fun _ (_:Unit)=>[]) (fun o hm h4=>?_) fun j _ hm=> ?_
 ·refine Bh (fun zn (zs:Int)=>ref06_Allows.l1 r zn zs) (fun zs (_:Unit)=>[(5,L126 r),(6,Iw zs)]) (fun _ (_:Unit)=>[]) _ () (fun _=>R) hm (Ae [] R R) fun n i2 _ hm=> ?_
  rw [ref06_Allows.l1] at hm
  exact Af<|Ah<|Aa tbk [] 2 R R<|Ab R R (Ax T_api_Taint.vv R Cf)<|Ab R R (A2 R R R)<|Ac<|Ak hm R (fun h5 hm=>Aj<|Af<|Aw<|Ah<|Aa tbk [] 2 R R<|Bd hm fun x h6 hm=>Ab R R (A3 T_api_Taint.vv R R el28 h6)<|Aa tbk [] 2 R R<|Ad R R<|An hm 0 R fn166 R (K143 _) fun r2 hm=>Ac<|Ak hm R (fun h8 hm=>Ag tbk [] R R<|have hm:=Lr hm h4;Rt1 hm R [] R R R) fun h8 hm=>Aj<|A1 tbk [] R R<|Ap _ () hm (Ae [] R R)) fun h5 hm=>A0<|Ar () hm (Ae [] R R)
 exact Ag tbk [] R R<|Rt1 hm R [] R R R

/-! trireme/triremeref10.Place -/
def ref10_Place (m : T_api_Machine) (p : T_api_Pod) : Option Int :=
 if (!m.Ready) = true then
  some 1
 else
  (ref05_Has m.Labels p.Select).bind fun r =>
  if (!r) = true then
   some 4
  else
   (ref05_All m.Labels p.Terms).bind fun r2 =>
   if (!r2) = true then
    some 5
   else
    (ref06_Allows p.Bears m.Taints).bind fun r3 =>
    if (!r3) = true then
     some 6
    else
     some 0
theorem K145 (m : T_api_Machine) (p : T_api_Pod) : VS Tryz.prog 115 (ref10_Place m p) [T_api_Machine.vv m, T_api_Pod.vv p] [] Iw N0 := by
 refine A4 [.tmp 4] Tryz.func115 R R R fun r hm=>?_
 unfold ref10_Place at hm
 exact Ah<|Ad R R<|A9 R R fun b=>Ad R R<|A9 R R fun b2=>Ab R R (Ai R)<|Ac<|Af<|Ag tbk [1] R R<|Ak hm R (fun h3 hm=>Ag tbk [] R R<|Rt1 hm R [] R R R) fun h3 hm=>Aj<|Af<|Ah<|Aa tbk [1,0] 4 R R<|Ad R R<|An hm 0 R fn143 R (K138 _ _) fun r hm=>Ab R R (Cq R)<|Ac<|Ak hm R (fun h5 hm=>Ag tbk [] R R<|Rt1 hm R [] R R R) fun h5 hm=>Aj<|Af<|Ah<|Aa tbk [1,0] 4 R R<|Ad R R<|An hm 0 R fn144 R (K140 _ _) fun r2 hm=>Ab R R (Cq R)<|Ac<|Ak hm R (fun h7 hm=>Ag tbk [] R R<|Rt1 hm R [] R R R) fun h7 hm=>Aj<|Af<|Ah<|Aa tbk [0,1] 4 R R<|Ad R R<|An hm 0 R fn145 R (K144 _ _) fun r3 hm=>Ab R R (Cq R)<|Ac<|Ak hm R (fun h9 hm=>Ag tbk [] R R<|Rt1 hm R [] R R R) fun h9 hm=>Aj<|Ag tbk [] R R<|Rt1 hm R [] R R R

/-! trireme/triremeref10.Others -/
def ref10_Others.l1 (bs : List T_api_Bound) (name : ByteArray) : Nat → (List T_api_Bound) → Int → Option (List T_api_Bound)
 | 0, _, _ => none
 | n + 1, out2, i2 =>
  if (decide (i2 < (bs.length : Int))) = true then
   (V.gl bs i2).bind fun x =>
   if (!(V.seq x.Pod.Name name)) = true then
    (V.gl bs i2).bind fun x2 =>
    (V.ap 288 out2 [x2]).bind fun out4 =>
    ref10_Others.l1 bs name n out4 (i64.wrap (i2 + 1))
   else
    ref10_Others.l1 bs name n out2 (i64.wrap (i2 + 1))
  else
   some out2
def ref10_Others (bs : List T_api_Bound) (name : ByteArray) : Option (List T_api_Bound) :=
 (ref10_Others.l1 bs name FU ([] : List T_api_Bound) (0 : Int)).bind fun out32 =>
 some out32
theorem K146 (bs : List T_api_Bound) (name : ByteArray) : VS2 Tryz.prog 62 (ref10_Others bs name) [L50 bs, .str name] [] (fun r ob0 cap0=>Z50 ob0 r cap0) (fun r ob0 cap0=>[Q50 ob0 cap0 r]) := by
 refine Cg [.tmp 4] Tryz.func62 R R R fun r hm=>?_
 unfold ref10_Others at hm
 refine Ag tbk [] R R<|Ag tbk [] R R<|Af<|Ag tbk [] R R<|Bx hm (fun out32 (gg:Option Nat × Nat)=>[(5,Z50 gg.1 out32 gg.2)]) (fun out32 (gg:Option Nat × Nat)=>[Q50 gg.1 gg.2 out32]) (fun o hm=>?_) fun out32=>Pq fun ob3 cap3 hm=> ?_
 ·refine Bh (fun zn (zs:List T_api_Bound × Int)=>ref10_Others.l1 bs name zn zs.1 zs.2) (fun zs (zg:Option Nat × Nat)=>[(0,L50 bs),(1,.str name),(5,Z50 zg.1 zs.1 zg.2),(6,Iw zs.2)]) (fun zs (zg:Option Nat × Nat)=>[Q50 zg.1 zg.2 zs.1]) (([] : List T_api_Bound),(0 : Int)) (none,0) (fun _=>R) hm (Be (Ba 50) (Ae [0] R R)) fun n=>Pq fun out2 i2=>Pq fun ob2 cap2 hm=> ?_
  rw [ref10_Others.l1] at hm
  exact Af<|Ah<|Aa tbk [] 2 R R<|Ab R R (Ax T_api_Bound.vv R Bw)<|Ab R R (A2 R R R)<|Ac<|Ak hm R (fun h5 hm=>Aj<|Af<|Aw<|Ah<|Aa tbk [] 2 R R<|Bd hm fun x h6 hm=>Ab R R (A3 T_api_Bound.vv R R el23 h6)<|Aa tbk [] 5 R R<|Ac<|Ak hm R (fun h7 hm=>Bk<|Aa tbk [] 3 R R<|Bd hm fun x2 h8 hm=>Ab R R (A3 T_api_Bound.vv R R el23 h8)<|Ab R R (Bn R ld50 R)<|Ad R R<|A7 ap23 R R R R R fun b=>Bd hm fun out4 h10 hm=>Ad R R<|B1 1 T_api_Bound.vv (l:=out2) (l2:=[x2]) ap23 R R (sT_row 0 T_api_Bound.vv el23 R R) h10 fun ob4 cap4=>Ab R R (Ai R)<|Ac<|A1 tbk [] R R<|Ap (out4,(IntKind.i64.wrap (i2 + (1 : Int)))) (ob4,cap4) hm (Ae [1] R R)) fun h7 hm=>Aj<|A1 tbk [] R R<|Ap (out2,(IntKind.i64.wrap (i2 + (1 : Int)))) (ob2,cap2) hm (Ae [0] R R)) fun h5 hm=>A0<|As (ob2,cap2) hm (Ae [0] R R)
 exact Ag tbk [] R R<|Rg2 hm R [0] ob3 cap3 (.cons (.tmp _ _ R) .nil) R R

/-! trireme/triremeref09.On -/
def ref09_On.l1 (bs : List T_api_Bound) (name : ByteArray) : Nat → (List T_api_Pod) → Int → Option (List T_api_Pod)
 | 0, _, _ => none
 | n + 1, out2, i2 =>
  if (decide (i2 < (bs.length : Int))) = true then
   (V.gl bs i2).bind fun x =>
   if (V.seq x.On name) = true then
    (V.gl bs i2).bind fun x2 =>
    (V.ap 272 out2 [x2.Pod]).bind fun out4 =>
    ref09_On.l1 bs name n out4 (i64.wrap (i2 + 1))
   else
    ref09_On.l1 bs name n out2 (i64.wrap (i2 + 1))
  else
   some out2
def ref09_On (bs : List T_api_Bound) (name : ByteArray) : Option (List T_api_Pod) :=
 (ref09_On.l1 bs name FU ([] : List T_api_Pod) (0 : Int)).bind fun out32 =>
 some out32
theorem K147 (bs : List T_api_Bound) (name : ByteArray) : VS2 Tryz.prog 148 (ref09_On bs name) [L50 bs, .str name] [] (fun r ob0 cap0=>Z48 ob0 r cap0) (fun r ob0 cap0=>[Q48 ob0 cap0 r]) := by
 refine Cg [.tmp 4] Tryz.func148 R R R fun r hm=>?_
 unfold ref09_On at hm
 refine Ag tbk [] R R<|Ag tbk [] R R<|Af<|Ag tbk [] R R<|Bx hm (fun out32 (gg:Option Nat × Nat)=>[(5,Z48 gg.1 out32 gg.2)]) (fun out32 (gg:Option Nat × Nat)=>[Q48 gg.1 gg.2 out32]) (fun o hm=>?_) fun out32=>Pq fun ob3 cap3 hm=> ?_
 ·refine Bh (fun zn (zs:List T_api_Pod × Int)=>ref09_On.l1 bs name zn zs.1 zs.2) (fun zs (zg:Option Nat × Nat)=>[(0,L50 bs),(1,.str name),(5,Z48 zg.1 zs.1 zg.2),(6,Iw zs.2)]) (fun zs (zg:Option Nat × Nat)=>[Q48 zg.1 zg.2 zs.1]) (([] : List T_api_Pod),(0 : Int)) (none,0) (fun _=>R) hm (Be (Ba 48) (Ae [0] R R)) fun n=>Pq fun out2 i2=>Pq fun ob2 cap2 hm=> ?_
  rw [ref09_On.l1] at hm
  exact Af<|Ah<|Aa tbk [] 2 R R<|Ab R R (Ax T_api_Bound.vv R Bw)<|Ab R R (A2 R R R)<|Ac<|Ak hm R (fun h5 hm=>Aj<|Af<|Aw<|Ah<|Aa tbk [] 2 R R<|Bd hm fun x h6 hm=>Ab R R (A3 T_api_Bound.vv R R el23 h6)<|Aa tbk [] 4 R R<|Ac<|Ak hm R (fun h7 hm=>Bk<|Aa tbk [] 3 R R<|Bd hm fun x2 h8 hm=>Ab R R (A3 T_api_Bound.vv R R el23 h8)<|Aa tbk [] 2 R R<|Ad R R<|A7 ap24 R R R R R fun b=>Bd hm fun out4 h10 hm=>Ad R R<|B1 1 T_api_Pod.vv (l:=out2) (l2:=[x2.Pod]) ap24 R R (sT_row 0 T_api_Pod.vv el24 R R) h10 fun ob4 cap4=>Ab R R (Ai R)<|Ac<|A1 tbk [] R R<|Ap (out4,(IntKind.i64.wrap (i2 + (1 : Int)))) (ob4,cap4) hm (Ae [1] R R)) fun h7 hm=>Aj<|A1 tbk [] R R<|Ap (out2,(IntKind.i64.wrap (i2 + (1 : Int)))) (ob2,cap2) hm (Ae [0] R R)) fun h5 hm=>A0<|As (ob2,cap2) hm (Ae [0] R R)
 exact Ag tbk [] R R<|Rg2 hm R [0] ob3 cap3 (.cons (.tmp _ _ R) .nil) R R

/-! trireme/triremeref04.Add -/
def ref04_Add (a : T_api_Res) (b : T_api_Res) : Option (T_api_Res × Int) :=
 (ref04_Right a).bind fun r =>
 (if (!r) = true then some true else (ref04_Right b).bind fun r2 =>
 some (!r2)).bind fun c =>
 if c = true then
  some ((⟨0, 0, 0, 0, 0⟩ : T_api_Res), 1)
 else
  (ref04_Right (⟨(i64.wrap (a.Cpu + b.Cpu)), (i64.wrap (a.Mem + b.Mem)), (i64.wrap (a.Disk + b.Disk)), (i64.wrap (a.Pods + b.Pods)), (i64.wrap (a.Dev + b.Dev))⟩ : T_api_Res)).bind fun r3 =>
  if (!r3) = true then
   some ((⟨0, 0, 0, 0, 0⟩ : T_api_Res), 10)
  else
   some ((⟨(i64.wrap (a.Cpu + b.Cpu)), (i64.wrap (a.Mem + b.Mem)), (i64.wrap (a.Disk + b.Disk)), (i64.wrap (a.Pods + b.Pods)), (i64.wrap (a.Dev + b.Dev))⟩ : T_api_Res), 0)
theorem K148 (a : T_api_Res) (b : T_api_Res) : VS Tryz.prog 153 (ref04_Add a b) [T_api_Res.vv a, T_api_Res.vv b] [] (fun r=>.tup [T_api_Res.vv r.1, Iw r.2]) N0 := by
 refine A4 [.cell 4 26,.tmp 5] Tryz.func153 R R R fun r hm=>?_
 unfold ref04_Add at hm
 exact Ah<|Ad R R<|A9 R R fun b2=>Ad R R<|A9 R R fun b3=>Ad R R<|Av z26 fun b4=>Ab R R (Ai R)<|Ac<|Af<|Ah<|Aa tbk [2] 1 R R<|Ad R R<|An hm 0 R fn70 R (K28 _) fun r hm=>Aa tbk [] 2 R R<|Bc hm 4 14 10 R (fun _ K' h5 J hm=>Aa tbk [] 4 R R<|J 3 R R (Bj hm)) (fun _ K' h5 J hm=>Aa tbk [1] 1 R R<|A8 R R R R R<|An hm 0 R fn70 R (K28 _) fun r2 hm=>Aa tbk [] 2 R R<|J 3 R R (Bj hm)) fun c hm=>Ac<|Ak hm R (fun h8 hm=>Ah<|Ab R R (Bo pl26 R R)<|Ad R R<|Am (i:=0) R R R ld26 R R R<|Ab R R (Ai R)<|Ac<|Rt0 hm R [] (.cons (.cell _ _ _ _ 0 _ _ _ _ R R ld26 R) (.cons (.tmp _ _ R) .nil)) R R) fun h8 hm=>Aj<|Ah<|Aa tbk [2,1,2,1,2,1,2,1,2,1] 25 R R<|Ab R R (Bo pl26 R R)<|Ad R R<|Av z26 fun b5=>Ad R R<|Am (i:=0) R R R ld26 R R R<|Ac<|Af<|Ah<|Aa tbk [0] 1 R R<|Ad R R<|An hm 0 R fn70 R (K28 _) fun r3 hm=>Ab R R (Cq R)<|Ac<|Ak hm R (fun h11 hm=>Ah<|Ab R R (Bo pl26 R R)<|Ad R R<|Am (i:=1) R R R ld26 R R R<|Ab R R (Ai R)<|Ac<|Rt0 hm R [] (.cons (.cell _ _ _ _ 1 _ _ _ _ R R ld26 R) (.cons (.tmp _ _ R) .nil)) R R) fun h11 hm=>Aj<|Ah<|Aa tbk [0] 1 R R<|Ad R R<|Am (i:=1) R R R ld26 R R R<|Ab R R (Ai R)<|Ac<|Rt0 hm R [] (.cons (.cell _ _ _ _ 1 _ _ _ _ R R ld26 R) (.cons (.tmp _ _ R) .nil)) R R

/-! trireme/triremeref09.Used -/
def ref09_Used.l1 (r : List T_api_Pod) : Nat → Int → Option (Out (T_api_Res × Int) Unit)
 | 0, _ => none
 | n + 1, i2 =>
  if (decide (i2 < (r.length : Int))) = true then
   (V.gl r i2).bind fun x =>
   (ref04_Right x.Need).bind fun r2 =>
   if (!r2) = true then
    some (Out.ret ((⟨0, 0, 0, 0, 0⟩ : T_api_Res), 12))
   else
    ref09_Used.l1 r n (i64.wrap (i2 + 1))
  else
   some (Out.go ())
def ref09_Used.l2 (r : List T_api_Pod) : Nat → T_api_Res → Int → Option (Out (T_api_Res × Int) T_api_Res)
 | 0, _, _ => none
 | n2 + 1, sum2, i4 =>
  if (decide (i4 < (r.length : Int))) = true then
   (V.gl r i4).bind fun x2 =>
   (ref04_Add sum2 x2.Need).bind fun r3 =>
   if (r3.2 != 0) = true then
    some (Out.ret ((⟨0, 0, 0, 0, 0⟩ : T_api_Res), r3.2))
   else
    ref09_Used.l2 r n2 r3.1 (i64.wrap (i4 + 1))
  else
   some (Out.go sum2)
def ref09_Used (bs : List T_api_Bound) (name : ByteArray) : Option (T_api_Res × Int) :=
 (ref09_On bs name).bind fun r =>
 (ref09_Used.l1 r FU (0 : Int)).bind fun o =>
 o.on fun j =>
 (ref09_Used.l2 r FU (⟨0, 0, 0, 0, 0⟩ : T_api_Res) (0 : Int)).bind fun o2 =>
 o2.on fun sum32 =>
 some (sum32, 0)
theorem K149 (bs : List T_api_Bound) (name : ByteArray) : VS Tryz.prog 120 (ref09_Used bs name) [L50 bs, .str name] [] (fun r=>.tup [T_api_Res.vv r.1, Iw r.2]) N0 := by
 refine A4 [.cell 4 26,.tmp 5] Tryz.func120 R R R fun r hm=>?_
 unfold ref09_Used at hm
 refine Ah<|Ad R R<|Av z26 fun b=>Ab R R (Ai R)<|Ac<|Ah<|Aa tbk [] 2 R R<|Ad R R<|Cc hm 0 R fn148 R (K147 _ _) fun r ob cap hm=>Bp (Az 0 [(14,L48 r)] R ⟨⟨_,R,.here _ R⟩,trivial⟩ (FzH.refl _))<|Ab R R (Ai R)<|Ac<|Af<|Ag tbk [] R R<|Bq hm (fun _ (_:Unit)=>[(4,.ptr b 0),(6,L48 r)]) (fun _ (_:Unit)=>[X26 b (⟨(0 : Int),(0 : Int),(0 : Int),(0 : Int),(0 : Int)⟩ : T_api_Res)]) (fun o hm h5=>?_) fun j _ hm=> ?_
 ·refine Bh (fun zn (zs:Int)=>ref09_Used.l1 r zn zs) (fun zs (_:Unit)=>[(4,.ptr b 0),(6,L48 r),(7,Iw zs)]) (fun _ (_:Unit)=>[X26 b (⟨(0 : Int),(0 : Int),(0 : Int),(0 : Int),(0 : Int)⟩ : T_api_Res)]) _ () (fun _=>R) hm (Ae [0] R R) fun n i2 _ hm=> ?_
  rw [ref09_Used.l1] at hm
  exact Af<|Ah<|Aa tbk [] 2 R R<|Ab R R (Ax T_api_Pod.vv R Br)<|Ab R R (A2 R R R)<|Ac<|Ak hm R (fun h6 hm=>Aj<|Af<|Aw<|Ah<|Aa tbk [] 2 R R<|Bd hm fun x h7 hm=>Ab R R (A3 T_api_Pod.vv R R el24 h7)<|Aa tbk [] 2 R R<|Ad R R<|An hm 0 R fn70 R (K28 _) fun r2 hm=>Ab R R (Cq R)<|Ac<|Ak hm R (fun h9 hm=>Ah<|Ab R R (Bo pl26 R R)<|Ad R R<|Am (i:=0) R R R ld26 R R R<|Ab R R (Ai R)<|Ac<|have hm:=Lr hm h5;Rt0 hm R [] (.cons (.cell _ _ _ _ 0 _ _ _ _ R R ld26 R) (.cons (.tmp _ _ R) .nil)) R R) fun h9 hm=>Aj<|A1 tbk [] R R<|Ap _ () hm (Ae [0] R R)) fun h6 hm=>A0<|Ar () hm (Ae [0] R R)
 refine Ah<|Ab R R (Bo pl26 R R)<|Ad R R<|Av z26 fun b2=>Ad R R<|Am (i:=0) R R R ld26 R R R<|Ac<|Af<|Ag tbk [] R R<|Bq hm (fun _ (_:Unit)=>[(4,.ptr b 0),(8,.ptr b2 0)]) (fun sum32 (_:Unit)=>[X26 b2 sum32,X26 b (⟨(0 : Int),(0 : Int),(0 : Int),(0 : Int),(0 : Int)⟩ : T_api_Res)]) (fun o2 hm h12=>?_) fun sum32 _ hm=> ?_
 ·refine Bh (fun zn (zs:T_api_Res × Int)=>ref09_Used.l2 r zn zs.1 zs.2) (fun zs (_:Unit)=>[(4,.ptr b 0),(6,L48 r),(8,.ptr b2 0),(9,Iw zs.2)]) (fun zs (_:Unit)=>[X26 b2 zs.1,X26 b (⟨(0 : Int),(0 : Int),(0 : Int),(0 : Int),(0 : Int)⟩ : T_api_Res)]) ((⟨(0 : Int),(0 : Int),(0 : Int),(0 : Int),(0 : Int)⟩ : T_api_Res),(0 : Int)) () (fun _=>R) hm (Ae [0,0] R R) fun n2=>Pq fun sum2 i4 _ hm=> ?_
  rw [ref09_Used.l2] at hm
  refine Af<|Ah<|Aa tbk [] 2 R R<|Ab R R (Ax T_api_Pod.vv R Br)<|Ab R R (A2 R R R)<|Ac<|Ak hm R (fun h13 hm=>?_) fun h13 hm=> ?_
  ·refine Aj<|Af<|Aw<|Af<|Bb 0 mixed<|Au tbk [0,1,2] [0] (by kernel_rfl) R R R<|Bd hm fun x2 h14 hm=>A6 3 R R R (by kernel_rfl) (A3 T_api_Pod.vv R R el24 h14)<|Au tbk [4,5] [] (by kernel_rfl) R R R<|?_
   refine B0 [6,10] (by kernel_rfl) ⟨?_,?_,trivial⟩
   ·exact Aq R R R<|An hm 0 R fn153 R (K148 _ _) fun r3 hm=>Au tbk [7,8,9] [] (by kernel_rfl) R R R<|Ao 10 (by kernel_rfl)<|Aq R R R<|Av z26 fun b3=>Ao 11 (by kernel_rfl)<|Aq R R R<|Am (i:=0) R R R ld26 R R R<|A6 12 R R R (by kernel_rfl) (Ai R)<|A5 (by kernel_rfl)<|Af<|Ag tbk [] R R<|Ak hm R (fun h17 hm=>Ah<|Ab R R (Bo pl26 R R)<|Ab R R (Al R)<|Ad R R<|Am (i:=2) R R R ld26 R R R<|Ab R R (Ai R)<|Ac<|have hm:=Lr hm h12;Rt0 hm R [] (.cons (.cell _ _ _ _ 2 _ _ _ _ R R ld26 R) (.cons (.tmp _ _ R) .nil)) R R) fun h17 hm=>Aj<|Bk<|Aa tbk [0] 1 R R<|Ad R R<|Am (i:=1) R R R ld26 R R R<|Ac<|A1 tbk [] R R<|Ap (r3.1,(IntKind.i64.wrap (i4 + (1 : Int)))) () hm (Ae [1,1] R R)
   ·exact Aq R R R<|Av z26 fun b4=>Ao 6 (by kernel_rfl)<|Aq R R R<|An hm 0 R fn153 R (K148 _ _) fun r4 hm=>Au tbk [7,8,9] [] (by kernel_rfl) R R R<|Ao 11 (by kernel_rfl)<|Aq R R R<|Am (i:=0) R R R ld26 R R R<|A6 12 R R R (by kernel_rfl) (Ai R)<|A5 (by kernel_rfl)<|Af<|Ag tbk [] R R<|Ak hm R (fun h20 hm=>Ah<|Ab R R (Bo pl26 R R)<|Ab R R (Al R)<|Ad R R<|Am (i:=2) R R R ld26 R R R<|Ab R R (Ai R)<|Ac<|have hm:=Lr hm h12;Rt0 hm R [] (.cons (.cell _ _ _ _ 2 _ _ _ _ R R ld26 R) (.cons (.tmp _ _ R) .nil)) R R) fun h20 hm=>Aj<|Bk<|Aa tbk [0] 1 R R<|Ad R R<|Am (i:=1) R R R ld26 R R R<|Ac<|A1 tbk [] R R<|Ap (r4.1,(IntKind.i64.wrap (i4 + (1 : Int)))) () hm (Ae [1,1] R R)
  exact A0<|Ar () hm (Ae [0,0] R R)
 exact Ah<|Aa tbk [0] 1 R R<|Ad R R<|Am (i:=1) R R R ld26 R R R<|Ab R R (Ai R)<|Ac<|Rt0 hm R [] (.cons (.cell _ _ _ _ 1 _ _ _ _ R R ld26 R) (.cons (.tmp _ _ R) .nil)) R R

/-! trireme/triremeref09.Left -/
def ref09_Left (m : T_api_Machine) (bs : List T_api_Bound) : Option T_api_Res :=
 (ref09_Used bs m.Name).bind fun r =>
 (if (r.2 != 0) = true then some true else (ref04_Right m.Has).bind fun r2 =>
 some (!r2)).bind fun c =>
 if c = true then
  some (⟨0, 0, 0, 0, 0⟩ : T_api_Res)
 else
  some (⟨(max 0 (i64.wrap (m.Has.Cpu - r.1.Cpu))), (max 0 (i64.wrap (m.Has.Mem - r.1.Mem))), (max 0 (i64.wrap (m.Has.Disk - r.1.Disk))), (max 0 (i64.wrap (m.Has.Pods - r.1.Pods))), (max 0 (i64.wrap (m.Has.Dev - r.1.Dev)))⟩ : T_api_Res)
theorem K150 (m : T_api_Machine) (bs : List T_api_Bound) : VS Tryz.prog 147 (ref09_Left m bs) [T_api_Machine.vv m, L50 bs] [] (fun r=>T_api_Res.vv r) N0 := by
 refine A4 [.cell 4 26] Tryz.func147 R R R fun r hm=>?_
 unfold ref09_Left at hm
 exact Ah<|Ad R R<|A9 R R fun b=>Ad R R<|Av z26 fun b2=>Ac<|Ah<|Aa tbk [1] 3 R R<|Ad R R<|An hm 0 R fn120 R (K149 _ _) fun r hm=>Aa tbk [] 3 R R<|Ad R R<|Av z26 fun b3=>Ad R R<|Am (i:=0) R R R ld26 R R R<|Ab R R (Ai R)<|Ac<|Af<|Ah<|Aa tbk [] 3 R R<|Bc hm 5 22 17 R (fun _ K' h5 J hm=>Aa tbk [] 5 R R<|J 4 R R (Bj hm)) (fun _ K' h5 J hm=>Aa tbk [2] 2 R R<|A8 R R R R R<|An hm 0 R fn70 R (K28 _) fun r2 hm=>Aa tbk [] 2 R R<|J 4 R R (Bj hm)) fun c hm=>Ac<|Ak hm R (fun h8 hm=>Ah<|Ab R R (Bo pl26 R R)<|Ad R R<|Am (i:=1) R R R ld26 R R R<|Ac<|Rt0 hm R [] (.cons (.cell _ _ _ _ 1 _ _ _ _ R R ld26 R) .nil) R R) fun h8 hm=>Aj<|Ah<|Aa tbk [2] 2 R R<|Ad R R<|Av z26 fun b4=>Ad R R<|Am (i:=0) R R R ld26 R R R<|Ac<|Ah<|Aa tbk [0,1] 5 R R<|Ab R R (C6 R R)<|Aa tbk [0,1] 5 R R<|Ab R R (C6 R R)<|Aa tbk [0,1] 5 R R<|Ab R R (C6 R R)<|Aa tbk [0,1] 5 R R<|Ab R R (C6 R R)<|Aa tbk [0,1] 5 R R<|Ab R R (C6 R R)<|Ab R R (Bo pl26 R R)<|Ad R R<|Am (i:=2) R R R ld26 R R R<|Ac<|Rt0 hm R [] (.cons (.cell _ _ _ _ 2 _ _ _ _ R R ld26 R) .nil) R R

/-! trireme/triremeref04.Fits -/
def ref04_Fits (a : T_api_Res) (b : T_api_Res) : Option Bool :=
 (ref04_Right a).bind fun r =>
 (if r = true then (ref04_Right b).bind fun r2 =>
 some r2 else some false).bind fun c =>
 some (((((c && (decide (a.Cpu ≤ b.Cpu))) && (decide (a.Mem ≤ b.Mem))) && (decide (a.Disk ≤ b.Disk))) && (decide (a.Pods ≤ b.Pods))) && (decide (a.Dev ≤ b.Dev)))
theorem K151 (a : T_api_Res) (b : T_api_Res) : VS Tryz.prog 146 (ref04_Fits a b) [T_api_Res.vv a, T_api_Res.vv b] [] .bool N0 := by
 refine A4 [.tmp 4] Tryz.func146 R R R fun r hm=>?_
 unfold ref04_Fits at hm
 exact Ah<|Ad R R<|A9 R R fun b2=>Ad R R<|A9 R R fun b3=>Ab R R (Ai R)<|Ac<|Ah<|Aa tbk [1] 1 R R<|Ad R R<|An hm 0 R fn70 R (K28 _) fun r hm=>Ab R R (Al R)<|Bc hm 3 10 7 R (fun _ K' h4 J hm=>Aa tbk [0] 1 R R<|A8 R R R R R<|An hm 0 R fn70 R (K28 _) fun r2 hm=>Ab R R (Bg true R R R)<|J 2 R R (Bj hm)) (fun _ K' h4 J hm=>Aa tbk [] 3 R R<|J 2 R R (Bj hm)) fun c hm=>Ab R R (Al R)<|Bv tbk [1,0] 6 17 11 R R R R R<|Ab R R (Al R)<|Bv tbk [1,0] 6 24 18 R R R R R<|Ab R R (Al R)<|Bv tbk [1,0] 6 31 25 R R R R R<|Ab R R (Al R)<|Bv tbk [1,0] 6 38 32 R R R R R<|Ab R R (Al R)<|Bv tbk [1,0] 6 45 39 R R R R R<|Ab R R (Ai R)<|Ac<|Rt1 hm R [] R R R

/-! trireme/triremeref10.Room -/
def ref10_Room.l3 (p : T_api_Pod) (r4 : List T_api_Pod) (i2 : Int) (k2 : Int) : Nat → Int → Option (Out (Out (Out Int Unit) Unit) Unit)
 | 0, _ => none
 | n3 + 1, j4 =>
  if (decide (j4 < (p.Ports.length : Int))) = true then
   (V.gl r4 i2).bind fun x2 =>
   (V.gl x2.Ports k2).bind fun x3 =>
   (V.gl p.Ports j4).bind fun x4 =>
   if (x3 == x4) = true then
    some (Out.ret (Out.ret (Out.ret 3)))
   else
    ref10_Room.l3 p r4 i2 k2 n3 (i64.wrap (j4 + 1))
  else
   some (Out.go ())
def ref10_Room.l2 (p : T_api_Pod) (r4 : List T_api_Pod) (i2 : Int) : Nat → Int → Option (Out (Out Int Unit) Unit)
 | 0, _ => none
 | n2 + 1, k2 =>
  (V.gl r4 i2).bind fun x =>
  if (decide (k2 < (x.Ports.length : Int))) = true then
   (ref10_Room.l3 p r4 i2 k2 FU (0 : Int)).bind fun o3 =>
   o3.on fun j5 =>
   ref10_Room.l2 p r4 i2 n2 (i64.wrap (k2 + 1))
  else
   some (Out.go ())
def ref10_Room.l1 (p : T_api_Pod) (r4 : List T_api_Pod) : Nat → Int → Option (Out Int Unit)
 | 0, _ => none
 | n + 1, i2 =>
  if (decide (i2 < (r4.length : Int))) = true then
   (ref10_Room.l2 p r4 i2 FU (0 : Int)).bind fun o2 =>
   o2.on fun j2 =>
   ref10_Room.l1 p r4 n (i64.wrap (i2 + 1))
  else
   some (Out.go ())
def ref10_Room (m : T_api_Machine) (bs : List T_api_Bound) (p : T_api_Pod) : Option Int :=
 (ref10_Others bs p.Name).bind fun r =>
 (ref09_Left m r).bind fun r2 =>
 (ref04_Fits p.Need r2).bind fun r3 =>
 if (!r3) = true then
  some 2
 else
  (ref09_On r m.Name).bind fun r4 =>
  (ref10_Room.l1 p r4 FU (0 : Int)).bind fun o =>
  o.on fun j =>
  some 0
theorem K152 (m : T_api_Machine) (bs : List T_api_Bound) (p : T_api_Pod) : VS Tryz.prog 116 (ref10_Room m bs p) [T_api_Machine.vv m, L50 bs, T_api_Pod.vv p] [] Iw N0 := by
 refine A4 [.tmp 6] Tryz.func116 R R R fun r hm=>?_
 unfold ref10_Room at hm
 refine Ah<|Ad R R<|A9 R R fun b=>Ad R R<|A9 R R fun b2=>Ab R R (Ai R)<|Ac<|Ah<|Aa tbk [0] 3 R R<|Ad R R<|Cc hm 0 R fn62 R (K146 _ _) fun r ob cap hm=>Bp (Az 0 [(15,L50 r)] R ⟨⟨_,R,.here _ R⟩,trivial⟩ (FzH.refl _))<|Ab R R (Ai R)<|Ac<|Af<|Af<|Bb 0 mixed<|Au tbk [0,1,2,3] [0,1] (by kernel_rfl) R R R<|Ao 4 (by kernel_rfl)<|Aq R R R<|An hm 0 R fn147 R (K150 _ _) fun r2 hm=>Ao 5 (by kernel_rfl)<|Aq R R R<|An hm 0 R fn146 R (K151 _ _) fun r3 hm=>A6 6 R R R (by kernel_rfl) (Cq R)<|A5 (by kernel_rfl)<|Ak hm R (fun h7 hm=>Ag tbk [] R R<|Rt1 hm R [] R R R) fun h7 hm=>Aj<|Ah<|Aa tbk [1] 3 R R<|Ad R R<|Cc hm 0 R fn148 R (K147 _ _) fun r4 ob2 cap2 hm=>Bp (Az 0 [(26,L48 r4)] R ⟨⟨_,R,.here _ R⟩,trivial⟩ (FzH.refl _))<|Ab R R (Ai R)<|Ac<|Af<|Ag tbk [] R R<|Bq hm (fun _ (_:Unit)=>[]) (fun _ (_:Unit)=>[]) (fun o hm h11=>?_) fun j _ hm=> ?_
 ·refine Bh (fun zn (zs:Int)=>ref10_Room.l1 p r4 zn zs) (fun zs (_:Unit)=>[(5,.ptr b2 0),(8,L48 r4),(9,Iw zs)]) (fun _ (_:Unit)=>[X48 b2 p]) _ () (fun _=>R) hm (Ae [0] R R) fun n i2 _ hm=> ?_
  rw [ref10_Room.l1] at hm
  refine Af<|Ah<|Aa tbk [] 2 R R<|Ab R R (Ax T_api_Pod.vv R Br)<|Ab R R (A2 R R R)<|Ac<|Ak hm R (fun h12 hm=>?_) fun h12 hm=> ?_
  ·refine Aj<|Af<|Aw<|Ag tbk [] R R<|Bq hm (fun _ (_:Unit)=>[(5,.ptr b2 0),(8,L48 r4),(9,Iw i2)]) (fun _ (_:Unit)=>[X48 b2 p]) (fun o2 hm h14=>?_) fun j2 _ hm=> ?_
   ·refine Bh (fun zn (zs:Int)=>ref10_Room.l2 p r4 i2 zn zs) (fun zs (_:Unit)=>[(5,.ptr b2 0),(8,L48 r4),(9,Iw i2),(10,Iw zs)]) (fun _ (_:Unit)=>[X48 b2 p]) _ () (fun _=>R) hm (Ae [0] R R) fun n2 k2 _ hm=> ?_
    rw [ref10_Room.l2] at hm
    refine Af<|Ah<|Aa tbk [] 3 R R<|Bd hm fun x h15 hm=>Ab R R (A3 T_api_Pod.vv R R el24 h15)<|Aa tbk [] 2 R R<|Ab R R (Ax (VV.int .i64) R Bz)<|Ab R R (A2 R R R)<|Ac<|Ak hm R (fun h16 hm=>?_) fun h16 hm=> ?_
    ·refine Aj<|Af<|Aw<|Ag tbk [] R R<|Bq hm (fun _ (_:Unit)=>[(5,.ptr b2 0),(8,L48 r4),(9,Iw i2),(10,Iw k2)]) (fun _ (_:Unit)=>[X48 b2 p]) (fun o3 hm h18=>?_) fun j5 _ hm=> ?_
     ·refine Bh (fun zn (zs:Int)=>ref10_Room.l3 p r4 i2 k2 zn zs) (fun zs (_:Unit)=>[(5,.ptr b2 0),(8,L48 r4),(9,Iw i2),(10,Iw k2),(11,Iw zs)]) (fun _ (_:Unit)=>[X48 b2 p]) _ () (fun _=>R) hm (Ae [0] R R) fun n3 j4 _ hm=> ?_
      rw [ref10_Room.l3] at hm
      exact Af<|Ah<|Aa tbk [0] 3 R R<|Ab R R (Ax (VV.int .i64) R Bz)<|Ab R R (A2 R R R)<|Ac<|Ak hm R (fun h19 hm=>Aj<|Af<|Aw<|Af<|Bb 0 mixed<|Au tbk [0,1] [] (by kernel_rfl) R R R<|Bd hm fun x2 h20 hm=>A6 2 R R R (by kernel_rfl) (A3 T_api_Pod.vv R R el24 h20)<|Au tbk [3,4,5] [] (by kernel_rfl) R R R<|Bd hm fun x3 h21 hm=>A6 6 R R R (by kernel_rfl) (A3 (VV.int .i64) R R el41 h21)<|Au tbk [7,8,9,10] [0] (by kernel_rfl) R R R<|Bd hm fun x4 h22 hm=>A6 11 R R R (by kernel_rfl) (A3 (VV.int .i64) R R el41 h22)<|Au tbk [12,13] [] (by kernel_rfl) R R R<|A5 (by kernel_rfl)<|Ak hm R (fun h23 hm=>Ag tbk [] R R<|have hm:=Lr hm h18;have hm:=Lr hm h14;have hm:=Lr hm h11;Rt1 hm R [] R R R) fun h23 hm=>Aj<|A1 tbk [] R R<|Ap _ () hm (Ae [0] R R)) fun h19 hm=>A0<|Ar () hm (Ae [0] R R)
     exact A1 tbk [] R R<|Ap _ () hm (Ae [0] R R)
    exact A0<|Ar () hm (Ae [0] R R)
   exact A1 tbk [] R R<|Ap _ () hm (Ae [0] R R)
  exact A0<|Ar () hm (Ae [] R R)
 exact Ag tbk [] R R<|Rt1 hm R [] R R R

end Go.Proofs.YtbkdglcedgiogaaGreat.M

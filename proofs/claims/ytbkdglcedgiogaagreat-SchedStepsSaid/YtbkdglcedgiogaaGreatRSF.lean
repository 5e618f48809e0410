/-
  Printed by a program of this session out of the loaded functions: models and their proofs. Own text.
-/
import Derived.Test.YtbkdglcedgiogaaGreatRSF1
namespace Go.Proofs.YtbkdglcedgiogaaGreat.M
open Go Go.Proofs Go.Proofs.YtbkdglcedgiogaaGreat.V
open Go.IntKind (i64)
set_option linter.unusedVariables false
set_option maxRecDepth 20000
set_option maxHeartbeats 4000000
/-! trireme/triremeref07.ShowPod -/
def ref07_ShowPod.l2 (x : T_api_Term) : Nat → ByteArray → Int → Option ByteArray
 | 0, _, _ => none
 | n2 + 1, s5, k2 =>
  if (decide (k2 < (x.Vals.length : Int))) = true then
   (V.cat s5 (⟨#[32]⟩ : ByteArray)).bind fun v18 =>
   (V.gl x.Vals k2).bind fun x3 =>
   (ref07_atom x3).bind fun r10 =>
   (V.cat v18 r10).bind fun v19 =>
   ref07_ShowPod.l2 x n2 v19 (i64.wrap (k2 + 1))
  else
   some s5
def ref07_ShowPod.l1 (p : T_api_Pod) : Nat → ByteArray → Int → Option ByteArray
 | 0, _, _ => none
 | n + 1, s2, i2 =>
  if (decide (i2 < (p.Terms.length : Int))) = true then
   (V.gl p.Terms i2).bind fun x =>
   (V.cat s2 (⟨#[32, 40, 116, 101, 114, 109, 32]⟩ : ByteArray)).bind fun v14 =>
   (V.cat v14 x.Key).bind fun v15 =>
   (V.cat v15 (⟨#[32]⟩ : ByteArray)).bind fun v16 =>
   (ref07_ops).bind fun r9 =>
   (V.gl r9 x.Op).bind fun x2 =>
   (V.cat v16 x2).bind fun v17 =>
   (ref07_ShowPod.l2 x FU v17 (0 : Int)).bind fun s62 =>
   (V.cat s62 (⟨#[41]⟩ : ByteArray)).bind fun v20 =>
   ref07_ShowPod.l1 p n v20 (i64.wrap (i2 + 1))
  else
   some s2
def ref07_ShowPod.l3 (p : T_api_Pod) : Nat → ByteArray → Int → Option ByteArray
 | 0, _, _ => none
 | n3 + 1, s8, i4 =>
  if (decide (i4 < (p.Bears.length : Int))) = true then
   (V.gl p.Bears i4).bind fun x4 =>
   if x4.Any = true then
    (V.cat s8 (⟨#[32, 40, 98, 101, 97, 114, 97, 110, 121, 32]⟩ : ByteArray)).bind fun v21 =>
    (ref07_atom x4.Key).bind fun r11 =>
    (V.cat v21 r11).bind fun v22 =>
    (V.cat v22 (⟨#[32]⟩ : ByteArray)).bind fun v23 =>
    (ref07_effects).bind fun r12 =>
    (V.gl r12 x4.Effect).bind fun x5 =>
    (V.cat v23 x5).bind fun v24 =>
    (V.cat v24 (⟨#[41]⟩ : ByteArray)).bind fun v25 =>
    ref07_ShowPod.l3 p n3 v25 (i64.wrap (i4 + 1))
   else
    (V.cat s8 (⟨#[32, 40, 98, 101, 97, 114, 32]⟩ : ByteArray)).bind fun v26 =>
    (ref07_atom x4.Key).bind fun r13 =>
    (V.cat v26 r13).bind fun v27 =>
    (V.cat v27 (⟨#[32]⟩ : ByteArray)).bind fun v28 =>
    (ref07_atom x4.Val).bind fun r14 =>
    (V.cat v28 r14).bind fun v29 =>
    (V.cat v29 (⟨#[32]⟩ : ByteArray)).bind fun v30 =>
    (ref07_effects).bind fun r15 =>
    (V.gl r15 x4.Effect).bind fun x6 =>
    (V.cat v30 x6).bind fun v31 =>
    (V.cat v31 (⟨#[41]⟩ : ByteArray)).bind fun v32 =>
    ref07_ShowPod.l3 p n3 v32 (i64.wrap (i4 + 1))
  else
   some s8
def ref07_ShowPod.l4 (p : T_api_Pod) : Nat → ByteArray → Int → Option ByteArray
 | 0, _, _ => none
 | n4 + 1, s11, i6 =>
  if (decide (i6 < (p.Ports.length : Int))) = true then
   (V.gl p.Ports i6).bind fun x7 =>
   (ref07_number (⟨#[112, 111, 114, 116]⟩ : ByteArray) x7).bind fun r16 =>
   (V.cat s11 r16).bind fun v33 =>
   ref07_ShowPod.l4 p n4 v33 (i64.wrap (i6 + 1))
  else
   some s11
def ref07_ShowPod (p : T_api_Pod) : Option ByteArray :=
 (ref07_RightPod p).bind fun r =>
 if (!r) = true then
  some (⟨#[]⟩ : ByteArray)
 else
  (V.cat (⟨#[40, 112, 111, 100, 32]⟩ : ByteArray) p.Name).bind fun v =>
  (V.cat v (⟨#[32, 40, 110, 101, 101, 100, 32]⟩ : ByteArray)).bind fun v2 =>
  (ref03_ShowMilli p.Need.Cpu).bind fun r2 =>
  (V.cat v2 r2).bind fun v3 =>
  (V.cat v3 (⟨#[32]⟩ : ByteArray)).bind fun v4 =>
  (ref03_Show p.Need.Mem).bind fun r3 =>
  (V.cat v4 r3).bind fun v5 =>
  (V.cat v5 (⟨#[32]⟩ : ByteArray)).bind fun v6 =>
  (ref03_Show p.Need.Disk).bind fun r4 =>
  (V.cat v6 r4).bind fun v7 =>
  (V.cat v7 (⟨#[32]⟩ : ByteArray)).bind fun v8 =>
  (ref01_Digits FU p.Need.Dev).bind fun r5 =>
  (V.cat v8 r5).bind fun v9 =>
  (V.cat v9 (⟨#[41]⟩ : ByteArray)).bind fun v10 =>
  (ref07_pairs (⟨#[108, 97, 98, 101, 108]⟩ : ByteArray) p.Labels).bind fun r6 =>
  (V.cat v10 r6).bind fun v11 =>
  (ref07_pairs (⟨#[115, 101, 108, 101, 99, 116]⟩ : ByteArray) p.Select).bind fun r7 =>
  (V.cat v11 r7).bind fun v12 =>
  (ref07_pairs (⟨#[97, 112, 97, 114, 116]⟩ : ByteArray) p.Apart).bind fun r8 =>
  (V.cat v12 r8).bind fun v13 =>
  (ref07_ShowPod.l1 p FU v13 (0 : Int)).bind fun s32 =>
  (ref07_ShowPod.l3 p FU s32 (0 : Int)).bind fun s92 =>
  (ref07_ShowPod.l4 p FU s92 (0 : Int)).bind fun s122 =>
  (ref07_number (⟨#[115, 112, 114, 101, 97, 100]⟩ : ByteArray) p.Skew).bind fun r17 =>
  (V.cat s122 r17).bind fun v34 =>
  (ref07_pairs (⟨#[111, 118, 101, 114]⟩ : ByteArray) p.Spread).bind fun r18 =>
  (V.cat v34 r18).bind fun v35 =>
  (ref07_number (⟨#[114, 97, 110, 107]⟩ : ByteArray) p.Rank).bind fun r19 =>
  (V.cat v35 r19).bind fun v36 =>
  if (!(V.seq p.Owner (⟨#[]⟩ : ByteArray))) = true then
   (V.cat v36 (⟨#[32, 40, 111, 119, 110, 101, 114, 32]⟩ : ByteArray)).bind fun v37 =>
   (V.cat v37 p.Owner).bind fun v38 =>
   (V.cat v38 (⟨#[41]⟩ : ByteArray)).bind fun v39 =>
   (ref07_flag (⟨#[119, 105, 100, 101]⟩ : ByteArray) p.Wide).bind fun r20 =>
   (V.cat v39 r20).bind fun v40 =>
   (ref07_flag (⟨#[100, 97, 101, 109, 111, 110]⟩ : ByteArray) p.Daemon).bind fun r21 =>
   (V.cat v40 r21).bind fun v41 =>
   (ref07_flag (⟨#[112, 105, 110, 110, 101, 100]⟩ : ByteArray) p.Pinned).bind fun r22 =>
   (V.cat v41 r22).bind fun v42 =>
   (ref07_flag (⟨#[108, 111, 99, 97, 108]⟩ : ByteArray) p.Local).bind fun r23 =>
   (V.cat v42 r23).bind fun v43 =>
   (V.cat v43 (⟨#[41]⟩ : ByteArray)).bind fun v44 =>
   some v44
  else
   (ref07_flag (⟨#[119, 105, 100, 101]⟩ : ByteArray) p.Wide).bind fun r24 =>
   (V.cat v36 r24).bind fun v45 =>
   (ref07_flag (⟨#[100, 97, 101, 109, 111, 110]⟩ : ByteArray) p.Daemon).bind fun r25 =>
   (V.cat v45 r25).bind fun v46 =>
   (ref07_flag (⟨#[112, 105, 110, 110, 101, 100]⟩ : ByteArray) p.Pinned).bind fun r26 =>
   (V.cat v46 r26).bind fun v47 =>
   (ref07_flag (⟨#[108, 111, 99, 97, 108]⟩ : ByteArray) p.Local).bind fun r27 =>
   (V.cat v47 r27).bind fun v48 =>
   (V.cat v48 (⟨#[41]⟩ : ByteArray)).bind fun v49 =>
   some v49
theorem K0 (p : T_api_Pod) : VS Tryz.prog 99 (ref07_ShowPod p) [T_api_Pod.vv p] [] .str N0 := by
 refine Az [.tmp 2] Tryz.func99 R R R fun r hm=>?_
 unfold ref07_ShowPod at hm
 refine Ah<|Ad R R<|A8 R R fun b=>Ab R R (Ai R)<|Ac<|Ae<|Ah<|Aa tbk [0] 1 R R<|Ad R R<|Am hm 0 R fn32 R (K30 _) fun r hm=>Ab R R (Cf R)<|Ac<|Al hm R (fun h3 hm=>Ag tbk [] R R<|Rt1 hm R [] R R R) fun h3 hm=>Aj<|Ae<|Ba 0 mixed<|Av tbk [0,1] [0] (by kernel_rfl) R R R<|Bd hm fun v h4 hm=>Ax 2 R R R (by kernel_rfl) (Be R R h4)<|Bd hm fun v2 h5 hm=>Ax 3 R R R (by kernel_rfl) (Be R R h5)<|Av tbk [4,5,6,10,11,12,16,17,18,22,23,24] [0,0,0,0] (by kernel_rfl) R R R<|Ao 7 (by kernel_rfl)<|Aq R R R<|Am hm 0 R fn126 R (K143 _) fun r2 hm=>Bd hm fun v3 h7 hm=>Ax 8 R R R (by kernel_rfl) (Be R R h7)<|Bd hm fun v4 h8 hm=>Ax 9 R R R (by kernel_rfl) (Be R R h8)<|Ao 13 (by kernel_rfl)<|Aq R R R<|Am hm 0 R fn127 R (K144 _) fun r3 hm=>Bd hm fun v5 h10 hm=>Ax 14 R R R (by kernel_rfl) (Be R R h10)<|Bd hm fun v6 h11 hm=>Ax 15 R R R (by kernel_rfl) (Be R R h11)<|Ao 19 (by kernel_rfl)<|Aq R R R<|Am hm 0 R fn127 R (K144 _) fun r4 hm=>Bd hm fun v7 h13 hm=>Ax 20 R R R (by kernel_rfl) (Be R R h13)<|Bd hm fun v8 h14 hm=>Ax 21 R R R (by kernel_rfl) (Be R R h14)<|Ao 25 (by kernel_rfl)<|Aq R R R<|Am hm 0 R fn61 R (K142 FU _) fun r5 hm=>Bd hm fun v9 h16 hm=>Ax 26 R R R (by kernel_rfl) (Be R R h16)<|Bd hm fun v10 h17 hm=>Ax 27 R R R (by kernel_rfl) (Be R R h17)<|Ax 28 R R R (by kernel_rfl) (Ai R)<|A4 (by kernel_rfl)<|Ae<|Ba 0 mixed<|Av tbk [0,1,2,5,6,9,10] [0,0,0] (by kernel_rfl) R R R<|Ao 3 (by kernel_rfl)<|Aq R R R<|Am hm 0 R fn128 R (K146 _ _) fun r6 hm=>Bd hm fun v11 h19 hm=>Ax 4 R R R (by kernel_rfl) (Be R R h19)<|Ao 7 (by kernel_rfl)<|Aq R R R<|Am hm 0 R fn128 R (K146 _ _) fun r7 hm=>Bd hm fun v12 h21 hm=>Ax 8 R R R (by kernel_rfl) (Be R R h21)<|Ao 11 (by kernel_rfl)<|Aq R R R<|Am hm 0 R fn128 R (K146 _ _) fun r8 hm=>Bd hm fun v13 h23 hm=>Ax 12 R R R (by kernel_rfl) (Be R R h23)<|Ax 13 R R R (by kernel_rfl) (Ai R)<|A4 (by kernel_rfl)<|Ae<|Ag tbk [] R R<|Bz hm (fun s32 (_:Unit)=>[(1,.ptr b 0),(3,.str s32)]) (fun _ (_:Unit)=>[X48 b p]) (fun o hm=>?_) fun s32 _ hm=> ?_
 ·refine Bo (fun zn (zs:ByteArray × Int)=>ref07_ShowPod.l1 p zn zs.1 zs.2) (fun zs (_:Unit)=>[(1,.ptr b 0),(3,.str zs.1),(4,Iw zs.2)]) (fun _ (_:Unit)=>[X48 b p]) (v13,(0 : Int)) () (fun _=>R) hm (Af [0] R R) fun n=>Pq fun s2 i2 _ hm=> ?_
  rw [ref07_ShowPod.l1] at hm
  refine Ae<|Ah<|Aa tbk [0] 3 R R<|Ab R R (Aw T_api_Term.vv R B6)<|Ab R R (A6 R R R)<|Ac<|Al hm R (fun h26 hm=>?_) fun h26 hm=> ?_
  ·refine Aj<|Ae<|Ay<|Ah<|Aa tbk [0] 3 R R<|Bd hm fun x h27 hm=>Ab R R (A0 T_api_Term.vv R R el45 h27)<|Ab R R (Bh R ld103 R)<|Ad R R<|Au z103 fun b2=>Ad R R<|An (i:=0) R R R ld103 R R R<|Ac<|Ae<|Ba 0 mixed<|Ax 0 R R R (by kernel_rfl) (Ak R)<|Bd hm fun v14 h29 hm=>Ax 1 R R R (by kernel_rfl) (Be R R h29)<|Av tbk [2,3] [0] (by kernel_rfl) R R R<|Bd hm fun v15 h30 hm=>Ax 4 R R R (by kernel_rfl) (Be R R h30)<|Bd hm fun v16 h31 hm=>Ax 5 R R R (by kernel_rfl) (Be R R h31)<|Av tbk [7,8] [0] (by kernel_rfl) R R R<|Ao 6 (by kernel_rfl)<|Aq R R R<|Am hm 0 R fn129 R (K147) fun r9 hm=>Bd hm fun x2 h33 hm=>Ax 9 R R R (by kernel_rfl) (A0 VV.str R R el51 h33)<|Ax 10 R R R (by kernel_rfl) (Bh R ld9 R)<|Bd hm fun v17 h34 hm=>Ax 11 R R R (by kernel_rfl) (Be R R h34)<|Ax 12 R R R (by kernel_rfl) (Ai R)<|A4 (by kernel_rfl)<|Ae<|Ag tbk [] R R<|Bz hm (fun s62 (_:Unit)=>[(1,.ptr b 0),(3,.str s62),(4,Iw i2)]) (fun _ (_:Unit)=>[X48 b p]) (fun o2 hm=>?_) fun s62 _ hm=> ?_
   ·refine Bo (fun zn (zs:ByteArray × Int)=>ref07_ShowPod.l2 x zn zs.1 zs.2) (fun zs (_:Unit)=>[(1,.ptr b 0),(3,.str zs.1),(4,Iw i2),(5,.ptr b2 0),(6,Iw zs.2)]) (fun _ (_:Unit)=>[X103 b2 x,X48 b p]) (v17,(0 : Int)) () (fun _=>R) hm (Af [0,0] R R) fun n2=>Pq fun s5 k2 _ hm=> ?_
    rw [ref07_ShowPod.l2] at hm
    exact Ae<|Ah<|Aa tbk [0] 3 R R<|Ab R R (Aw VV.str R Bt)<|Ab R R (A6 R R R)<|Ac<|Al hm R (fun h37 hm=>Aj<|Ae<|Ay<|Bp<|Ab R R (Ak R)<|Bd hm fun v18 h38 hm=>Ab R R (Be R R h38)<|Aa tbk [0] 3 R R<|Bd hm fun x3 h39 hm=>Ab R R (A0 VV.str R R el51 h39)<|Ab R R (Bh R ld9 R)<|Ad R R<|Am hm 0 R fn130 R (K145 _) fun r10 hm=>Bd hm fun v19 h41 hm=>Ab R R (Be R R h41)<|Ab R R (Ai R)<|Ac<|A5 tbk [] R R<|Ap (v19,(IntKind.i64.wrap (k2 + (1 : Int)))) () hm (Af [0,0] R R)) fun h37 hm=>A3<|As () hm (Af [1] R R)
   exact Bp<|Ab R R (Ak R)<|Bd hm fun v20 h42 hm=>Ab R R (Be R R h42)<|Ab R R (Ai R)<|Ac<|A5 tbk [] R R<|Ap (v20,(IntKind.i64.wrap (i2 + (1 : Int)))) () hm (Af [0] R R)
  exact A3<|As () hm (Af [0] R R)
 refine Ae<|Ag tbk [] R R<|Bz hm (fun s92 (_:Unit)=>[(1,.ptr b 0),(3,.str s92)]) (fun _ (_:Unit)=>[X48 b p]) (fun o3 hm=>?_) fun s92 _ hm=> ?_
 ·refine Bo (fun zn (zs:ByteArray × Int)=>ref07_ShowPod.l3 p zn zs.1 zs.2) (fun zs (_:Unit)=>[(1,.ptr b 0),(3,.str zs.1),(7,Iw zs.2)]) (fun _ (_:Unit)=>[X48 b p]) (s32,(0 : Int)) () (fun _=>R) hm (Af [0] R R) fun n3=>Pq fun s8 i4 _ hm=> ?_
  rw [ref07_ShowPod.l3] at hm
  refine Ae<|Ah<|Aa tbk [0] 3 R R<|Ab R R (Aw T_api_Toleration.vv R Cc)<|Ab R R (A6 R R R)<|Ac<|Al hm R (fun h45 hm=>?_) fun h45 hm=> ?_
  ·exact Aj<|Ae<|Ay<|Ah<|Aa tbk [0] 3 R R<|Bd hm fun x4 h46 hm=>Ab R R (A0 T_api_Toleration.vv R R el46 h46)<|Ab R R (Bh R ld128 R)<|Ad R R<|Au z128 fun b3=>Ad R R<|An (i:=0) R R R ld128 R R R<|Ac<|Ag tbk [0] R R<|Al hm R (fun h48 hm=>Ba 0 mixed<|Ax 0 R R R (by kernel_rfl) (Ak R)<|Bd hm fun v21 h49 hm=>Ax 1 R R R (by kernel_rfl) (Be R R h49)<|Av tbk [2,3,8,9] [0,0] (by kernel_rfl) R R R<|Ao 4 (by kernel_rfl)<|Aq R R R<|Am hm 0 R fn130 R (K145 _) fun r11 hm=>Bd hm fun v22 h51 hm=>Ax 5 R R R (by kernel_rfl) (Be R R h51)<|Bd hm fun v23 h52 hm=>Ax 6 R R R (by kernel_rfl) (Be R R h52)<|Ao 7 (by kernel_rfl)<|Aq R R R<|Am hm 0 R fn131 R (K148) fun r12 hm=>Bd hm fun x5 h54 hm=>Ax 10 R R R (by kernel_rfl) (A0 VV.str R R el51 h54)<|Ax 11 R R R (by kernel_rfl) (Bh R ld9 R)<|Bd hm fun v24 h55 hm=>Ax 12 R R R (by kernel_rfl) (Be R R h55)<|Bd hm fun v25 h56 hm=>Ax 13 R R R (by kernel_rfl) (Be R R h56)<|Ax 14 R R R (by kernel_rfl) (Ai R)<|A4 (by kernel_rfl)<|A5 tbk [] R R<|Ap (v25,(IntKind.i64.wrap (i4 + (1 : Int)))) () hm (Af [1] R R)) fun h48 hm=>Ba 0 mixed<|Ax 0 R R R (by kernel_rfl) (Ak R)<|Bd hm fun v26 h57 hm=>Ax 1 R R R (by kernel_rfl) (Be R R h57)<|Av tbk [2,3,7,8,13,14] [0,0,0] (by kernel_rfl) R R R<|Ao 4 (by kernel_rfl)<|Aq R R R<|Am hm 0 R fn130 R (K145 _) fun r13 hm=>Bd hm fun v27 h59 hm=>Ax 5 R R R (by kernel_rfl) (Be R R h59)<|Bd hm fun v28 h60 hm=>Ax 6 R R R (by kernel_rfl) (Be R R h60)<|Ao 9 (by kernel_rfl)<|Aq R R R<|Am hm 0 R fn130 R (K145 _) fun r14 hm=>Bd hm fun v29 h62 hm=>Ax 10 R R R (by kernel_rfl) (Be R R h62)<|Bd hm fun v30 h63 hm=>Ax 11 R R R (by kernel_rfl) (Be R R h63)<|Ao 12 (by kernel_rfl)<|Aq R R R<|Am hm 0 R fn131 R (K148) fun r15 hm=>Bd hm fun x6 h65 hm=>Ax 15 R R R (by kernel_rfl) (A0 VV.str R R el51 h65)<|Ax 16 R R R (by kernel_rfl) (Bh R ld9 R)<|Bd hm fun v31 h66 hm=>Ax 17 R R R (by kernel_rfl) (Be R R h66)<|Bd hm fun v32 h67 hm=>Ax 18 R R R (by kernel_rfl) (Be R R h67)<|Ax 19 R R R (by kernel_rfl) (Ai R)<|A4 (by kernel_rfl)<|A5 tbk [] R R<|Ap (v32,(IntKind.i64.wrap (i4 + (1 : Int)))) () hm (Af [1] R R)
  exact A3<|As () hm (Af [0] R R)
 refine Ae<|Ag tbk [] R R<|Bz hm (fun s122 (_:Unit)=>[(1,.ptr b 0),(3,.str s122)]) (fun _ (_:Unit)=>[X48 b p]) (fun o4 hm=>?_) fun s122 _ hm=> ?_
 ·refine Bo (fun zn (zs:ByteArray × Int)=>ref07_ShowPod.l4 p zn zs.1 zs.2) (fun zs (_:Unit)=>[(1,.ptr b 0),(3,.str zs.1),(9,Iw zs.2)]) (fun _ (_:Unit)=>[X48 b p]) (s92,(0 : Int)) () (fun _=>R) hm (Af [0] R R) fun n4=>Pq fun s11 i6 _ hm=> ?_
  rw [ref07_ShowPod.l4] at hm
  exact Ae<|Ah<|Aa tbk [0] 3 R R<|Ab R R (Aw (VV.int .i64) R Bq)<|Ab R R (A6 R R R)<|Ac<|Al hm R (fun h70 hm=>Aj<|Ae<|Ay<|Bp<|Aa tbk [0] 4 R R<|Bd hm fun x7 h71 hm=>Ab R R (A0 (VV.int .i64) R R el41 h71)<|Ab R R (Bh R ld3 R)<|Ad R R<|Am hm 0 R fn132 R (K149 _ _) fun r16 hm=>Bd hm fun v33 h73 hm=>Ab R R (Be R R h73)<|Ab R R (Ai R)<|Ac<|A5 tbk [] R R<|Ap (v33,(IntKind.i64.wrap (i6 + (1 : Int)))) () hm (Af [0] R R)) fun h70 hm=>A3<|As () hm (Af [0] R R)
 refine Ae<|Ba 0 mixed<|Av tbk [0,1,2,5,6,9,10] [0,0,0] (by kernel_rfl) R R R<|Ao 3 (by kernel_rfl)<|Aq R R R<|Am hm 0 R fn132 R (K149 _ _) fun r17 hm=>Bd hm fun v34 h75 hm=>Ax 4 R R R (by kernel_rfl) (Be R R h75)<|Ao 7 (by kernel_rfl)<|Aq R R R<|Am hm 0 R fn128 R (K146 _ _) fun r18 hm=>Bd hm fun v35 h77 hm=>Ax 8 R R R (by kernel_rfl) (Be R R h77)<|Ao 11 (by kernel_rfl)<|Aq R R R<|Am hm 0 R fn132 R (K149 _ _) fun r19 hm=>Bd hm fun v36 h79 hm=>Ax 12 R R R (by kernel_rfl) (Be R R h79)<|Ax 13 R R R (by kernel_rfl) (Ai R)<|A4 (by kernel_rfl)<|Ae<|Ag tbk [0] R R<|Al hm R (fun h80 hm=>Bp<|Ab R R (Ak R)<|Bd hm fun v37 h81 hm=>Ab R R (Be R R h81)<|Aa tbk [0] 2 R R<|Bd hm fun v38 h82 hm=>Ab R R (Be R R h82)<|Bd hm fun v39 h83 hm=>Ab R R (Be R R h83)<|Ab R R (Ai R)<|Ac<|Ae<|Ba 0 mixed<|Av tbk [0,1,2,5,6,9,10,13,14] [0,0,0,0] (by kernel_rfl) R R R<|Ao 3 (by kernel_rfl)<|Aq R R R<|Am hm 0 R fn133 R (K150 _ _) fun r20 hm=>Bd hm fun v40 h85 hm=>Ax 4 R R R (by kernel_rfl) (Be R R h85)<|Ao 7 (by kernel_rfl)<|Aq R R R<|Am hm 0 R fn133 R (K150 _ _) fun r21 hm=>Bd hm fun v41 h87 hm=>Ax 8 R R R (by kernel_rfl) (Be R R h87)<|Ao 11 (by kernel_rfl)<|Aq R R R<|Am hm 0 R fn133 R (K150 _ _) fun r22 hm=>Bd hm fun v42 h89 hm=>Ax 12 R R R (by kernel_rfl) (Be R R h89)<|Ao 15 (by kernel_rfl)<|Aq R R R<|Am hm 0 R fn133 R (K150 _ _) fun r23 hm=>Bd hm fun v43 h91 hm=>Ax 16 R R R (by kernel_rfl) (Be R R h91)<|Bd hm fun v44 h92 hm=>Ax 17 R R R (by kernel_rfl) (Be R R h92)<|Ax 18 R R R (by kernel_rfl) (Ai R)<|A4 (by kernel_rfl)<|Rt1 hm R [] R R R) fun h80 hm=>Aj<|Ae<|Ba 0 mixed<|Av tbk [0,1,2,5,6,9,10,13,14] [0,0,0,0] (by kernel_rfl) R R R<|Ao 3 (by kernel_rfl)<|Aq R R R<|Am hm 0 R fn133 R (K150 _ _) fun r24 hm=>Bd hm fun v45 h94 hm=>Ax 4 R R R (by kernel_rfl) (Be R R h94)<|Ao 7 (by kernel_rfl)<|Aq R R R<|Am hm 0 R fn133 R (K150 _ _) fun r25 hm=>Bd hm fun v46 h96 hm=>Ax 8 R R R (by kernel_rfl) (Be R R h96)<|Ao 11 (by kernel_rfl)<|Aq R R R<|Am hm 0 R fn133 R (K150 _ _) fun r26 hm=>Bd hm fun v47 h98 hm=>Ax 12 R R R (by kernel_rfl) (Be R R h98)<|Ao 15 (by kernel_rfl)<|Aq R R R<|Am hm 0 R fn133 R (K150 _ _) fun r27 hm=>Bd hm fun v48 h100 hm=>Ax 16 R R R (by kernel_rfl) (Be R R h100)<|Bd hm fun v49 h101 hm=>Ax 17 R R R (by kernel_rfl) (Be R R h101)<|Ax 18 R R R (by kernel_rfl) (Ai R)<|A4 (by kernel_rfl)<|?_
 exact Rt1 hm R [] R R R

/-! trireme/triremeref07.SamePod -/
def ref07_SamePod (a : T_api_Pod) (b : T_api_Pod) : Option Bool :=
 (if (((((V.seq a.Name b.Name) && (((a.Need.Cpu == b.Need.Cpu) && ((a.Need.Mem == b.Need.Mem) && ((a.Need.Disk == b.Need.Disk) && ((a.Need.Pods == b.Need.Pods) && ((a.Need.Dev == b.Need.Dev) && true))))) == true)) && (a.Skew == b.Skew)) && (a.Rank == b.Rank)) && (V.seq a.Owner b.Owner)) = true then (ref07_ShowPod a).bind fun r =>
 (ref07_ShowPod b).bind fun r2 =>
 some (V.seq r r2) else some false).bind fun c =>
 some (((c && ((a.Labels.length : Int) == (b.Labels.length : Int))) && ((a.Terms.length : Int) == (b.Terms.length : Int))) && ((a.Ports.length : Int) == (b.Ports.length : Int)))
theorem K1 (a : T_api_Pod) (b : T_api_Pod) : VS Tryz.prog 65 (ref07_SamePod a b) [T_api_Pod.vv a, T_api_Pod.vv b] [] .bool N0 := by
 refine Az [.tmp 4] Tryz.func65 R R R fun r hm=>?_
 unfold ref07_SamePod at hm
 refine Ah<|Ad R R<|A8 R R fun b2=>Ad R R<|A8 R R fun b3=>Ab R R (Ai R)<|Ac<|Ae<|Ba 0 mixed<|Av tbk [0,1,2,3,4,5] [1,0] (by kernel_rfl) R R R<|C4 [11,10,9,8,7,6,5,4,3,2,1,0] 16 10 R (fun h3 K' J=>Av tbk [6,7,8,9] [1,0] (by kernel_rfl) R R R<|B8 10 R R R R R R (by kernel_rfl) (Da shp26 eq26 R R R R)<|Ax 11 R R R (by kernel_rfl) (Bb true R R R)<|J 5 R R R) (fun K' J=>Av tbk [6,7,8,9,10,11] [] (by kernel_rfl) R R R<|J 5 R R R)<|Ax 12 R R R (by kernel_rfl) (Ak R)<|C4 [18,17,16,15,14,13,12,11,10,9,8,7,6,5,4,3,2,1,0] 23 17 R (fun h4 K' J=>Av tbk [13,14,15,16,17,18] [1,0] (by kernel_rfl) R R R<|J 5 R R R) (fun K' J=>Av tbk [13,14,15,16,17,18] [] (by kernel_rfl) R R R<|J 5 R R R)<|Ax 19 R R R (by kernel_rfl) (Ak R)<|C4 [25,24,23,22,21,20,19,18,17,16,15,14,13,12,11,10,9,8,7,6,5,4,3,2,1,0] 30 24 R (fun h5 K' J=>Av tbk [20,21,22,23,24,25] [1,0] (by kernel_rfl) R R R<|J 5 R R R) (fun K' J=>Av tbk [20,21,22,23,24,25] [] (by kernel_rfl) R R R<|J 5 R R R)<|Ax 26 R R R (by kernel_rfl) (Ak R)<|C4 [32,31,30,29,28,27,26,25,24,23,22,21,20,19,18,17,16,15,14,13,12,11,10,9,8,7,6,5,4,3,2,1,0] 37 31 R (fun h6 K' J=>Av tbk [27,28,29,30,31,32] [1,0] (by kernel_rfl) R R R<|J 5 R R R) (fun K' J=>Av tbk [27,28,29,30,31,32] [] (by kernel_rfl) R R R<|J 5 R R R)<|Ax 33 R R R (by kernel_rfl) (Ak R)<|Cq hm [39,38,37,36,35,34,33,32,31,30,29,28,27,26,25,24,23,22,21,20,19,18,17,16,15,14,13,12,11,10,9,8,7,6,5,4,3,2,1,0] 44 38 R (fun _ K' h7 J hm=>Av tbk [34,36] [1,0] (by kernel_rfl) R R R<|Ao 35 (by kernel_rfl)<|Cy R R R R R R<|Am hm 0 R fn99 R (K0 _) fun r hm=>Ao 37 (by kernel_rfl)<|Cy R R R R R R<|Am hm 0 R fn99 R (K0 _) fun r2 hm=>Av tbk [38,39] [] (by kernel_rfl) R R R<|VA.reord [39,38,37,36,35,34,33,32,31,30,29,28,27,26,25,24,23,22,21,20,19,18,17,16,15,14,13,12,11,10,9,8,7,6,5,4,3,2,1,0] (by kernel_rfl) R<|J 5 R R (Bj hm)) (fun _ K' h7 J hm=>Av tbk [34,35,36,37,38,39] [] (by kernel_rfl) R R R<|J 5 R R (Bj hm)) fun c hm=>Ax 40 R R R (by kernel_rfl) (Ak R)<|C4 [48,47,46,45,44,43,42,41,40,39,38,37,36,35,34,33,32,31,30,29,28,27,26,25,24,23,22,21,20,19,18,17,16,15,14,13,12,11,10,9,8,7,6,5,4,3,2,1,0] 53 45 R (fun h11 K' J=>Av tbk [41,42] [1] (by kernel_rfl) R R R<|B8 43 R R R R R R (by kernel_rfl) (Aw T_api_Label.vv R Bk)<|Av tbk [44,45] [0] (by kernel_rfl) R R R<|B8 46 R R R R R R (by kernel_rfl) (Aw T_api_Label.vv R Bk)<|Av tbk [47,48] [] (by kernel_rfl) R R R<|J 7 R R R) (fun K' J=>Av tbk [41,42,43,44,45,46,47,48] [] (by kernel_rfl) R R R<|J 7 R R R)<|Ax 49 R R R (by kernel_rfl) (Ak R)<|?_
 exact C4 [57,56,55,54,53,52,51,50,49,48,47,46,45,44,43,42,41,40,39,38,37,36,35,34,33,32,31,30,29,28,27,26,25,24,23,22,21,20,19,18,17,16,15,14,13,12,11,10,9,8,7,6,5,4,3,2,1,0] 62 54 R (fun h12 K' J=>Av tbk [50,51] [1] (by kernel_rfl) R R R<|B8 52 R R R R R R (by kernel_rfl) (Aw T_api_Term.vv R B6)<|Av tbk [53,54] [0] (by kernel_rfl) R R R<|B8 55 R R R R R R (by kernel_rfl) (Aw T_api_Term.vv R B6)<|Av tbk [56,57] [] (by kernel_rfl) R R R<|J 7 R R R) (fun K' J=>Av tbk [50,51,52,53,54,55,56,57] [] (by kernel_rfl) R R R<|J 7 R R R)<|Ax 58 R R R (by kernel_rfl) (Ak R)<|C4 [66,65,64,63,62,61,60,59,58,57,56,55,54,53,52,51,50,49,48,47,46,45,44,43,42,41,40,39,38,37,36,35,34,33,32,31,30,29,28,27,26,25,24,23,22,21,20,19,18,17,16,15,14,13,12,11,10,9,8,7,6,5,4,3,2,1,0] 71 63 R (fun h13 K' J=>Av tbk [59,60] [1] (by kernel_rfl) R R R<|B8 61 R R R R R R (by kernel_rfl) (Aw (VV.int .i64) R Bq)<|Av tbk [62,63] [0] (by kernel_rfl) R R R<|B8 64 R R R R R R (by kernel_rfl) (Aw (VV.int .i64) R Bq)<|Av tbk [65,66] [] (by kernel_rfl) R R R<|J 7 R R R) (fun K' J=>Av tbk [59,60,61,62,63,64,65,66] [] (by kernel_rfl) R R R<|J 7 R R R)<|Ax 67 R R R (by kernel_rfl) (Ai R)<|A4 (by kernel_rfl)<|Rt1 hm R [] R R R

/-! trireme/triremeref09.Same -/
def ref09_Same.l1 (ms : List T_api_Machine) (ns : List T_api_Machine) : Nat → Int → Option (Out Bool Unit)
 | 0, _ => none
 | n + 1, i2 =>
  if (decide (i2 < (ms.length : Int))) = true then
   (V.gl ms i2).bind fun x =>
   (V.gl ns i2).bind fun x2 =>
   (ref07_SameMachine x x2).bind fun r =>
   if (!r) = true then
    some (Out.ret false)
   else
    ref09_Same.l1 ms ns n (i64.wrap (i2 + 1))
  else
   some (Out.go ())
def ref09_Same.l2 (bs : List T_api_Bound) (cs : List T_api_Bound) : Nat → Int → Option (Out Bool Unit)
 | 0, _ => none
 | n2 + 1, i4 =>
  if (decide (i4 < (bs.length : Int))) = true then
   (V.gl bs i4).bind fun x3 =>
   (V.gl cs i4).bind fun x4 =>
   (if (!(V.seq x3.On x4.On)) = true then some true else (V.gl bs i4).bind fun x5 =>
   (V.gl cs i4).bind fun x6 =>
   (ref07_SamePod x5.Pod x6.Pod).bind fun r2 =>
   some (!r2)).bind fun c =>
   if c = true then
    some (Out.ret false)
   else
    ref09_Same.l2 bs cs n2 (i64.wrap (i4 + 1))
  else
   some (Out.go ())
def ref09_Same (ms : List T_api_Machine) (bs : List T_api_Bound) (ns : List T_api_Machine) (cs : List T_api_Bound) : Option Bool :=
 if (((ms.length : Int) != (ns.length : Int)) || ((bs.length : Int) != (cs.length : Int))) = true then
  some false
 else
  (ref09_Same.l1 ms ns FU (0 : Int)).bind fun o =>
  o.on fun j =>
  (ref09_Same.l2 bs cs FU (0 : Int)).bind fun o2 =>
  o2.on fun j2 =>
  some true
theorem K2 (ms : List T_api_Machine) (bs : List T_api_Bound) (ns : List T_api_Machine) (cs : List T_api_Bound) : VS Tryz.prog 30 (ref09_Same ms bs ns cs) [L30 ms, L50 bs, L30 ns, L50 cs] [] .bool N0 := by
 refine Az [.tmp 8] Tryz.func30 R R R fun r hm=>?_
 unfold ref09_Same at hm
 refine Ag tbk [] R R<|Ae<|Ah<|Ab R R (Ak R)<|Ab R R (Aw T_api_Machine.vv R Bu)<|Ab R R (Ak R)<|Ab R R (Aw T_api_Machine.vv R Bu)<|Aa tbk [] 2 R R<|Ct 6 22 16 R (fun K' J=>Aa tbk [] 6 R R<|J 5 R R R) (fun h1 K' J=>Bg R R R R R (Ak R)<|Bg R R R R R (Aw T_api_Bound.vv R Bl)<|Bg R R R R R (Ak R)<|Bg R R R R R (Aw T_api_Bound.vv R Bl)<|Aa tbk [] 2 R R<|J 5 R R R)<|Ac<|Al hm R (fun h2 hm=>Ag tbk [] R R<|Rt1 hm R [] R R R) fun h2 hm=>Aj<|Ae<|Ag tbk [] R R<|Bs hm (fun _ (_:Unit)=>[(1,L50 bs),(3,L50 cs)]) (fun _ (_:Unit)=>[]) (fun o hm h4=>?_) fun j _ hm=> ?_
 ·refine Bo (fun zn (zs:Int)=>ref09_Same.l1 ms ns zn zs) (fun zs (_:Unit)=>[(0,L30 ms),(1,L50 bs),(2,L30 ns),(3,L50 cs),(9,Iw zs)]) (fun _ (_:Unit)=>[]) _ () (fun _=>R) hm (Af [] R R) fun n i2 _ hm=> ?_
  rw [ref09_Same.l1] at hm
  exact Ae<|Ah<|Aa tbk [] 2 R R<|Ab R R (Aw T_api_Machine.vv R Bu)<|Ab R R (A6 R R R)<|Ac<|Al hm R (fun h5 hm=>Aj<|Ae<|Ay<|Ae<|Ba 0 mixed<|Av tbk [0,1] [] (by kernel_rfl) R R R<|Bd hm fun x h6 hm=>Ax 2 R R R (by kernel_rfl) (A0 T_api_Machine.vv R R el22 h6)<|Av tbk [3,4,5] [] (by kernel_rfl) R R R<|Bd hm fun x2 h7 hm=>Ax 6 R R R (by kernel_rfl) (A0 T_api_Machine.vv R R el22 h7)<|Ax 7 R R R (by kernel_rfl) (Bh R ld30 R)<|Ao 8 (by kernel_rfl)<|Aq R R R<|Am hm 0 R fn20 R (K141 _ _) fun r hm=>Ax 9 R R R (by kernel_rfl) (Cf R)<|A4 (by kernel_rfl)<|Al hm R (fun h9 hm=>Ag tbk [] R R<|have hm:=Lr hm h4;Rt1 hm R [] R R R) fun h9 hm=>Aj<|A5 tbk [] R R<|Ap _ () hm (Af [] R R)) fun h5 hm=>A3<|Ar () hm (Af [] R R)
 refine Ae<|Ag tbk [] R R<|Bs hm (fun _ (_:Unit)=>[]) (fun _ (_:Unit)=>[]) (fun o2 hm h11=>?_) fun j2 _ hm=> ?_
 ·refine Bo (fun zn (zs:Int)=>ref09_Same.l2 bs cs zn zs) (fun zs (_:Unit)=>[(1,L50 bs),(3,L50 cs),(10,Iw zs)]) (fun _ (_:Unit)=>[]) _ () (fun _=>R) hm (Af [] R R) fun n2 i4 _ hm=> ?_
  rw [ref09_Same.l2] at hm
  exact Ae<|Ah<|Aa tbk [] 2 R R<|Ab R R (Aw T_api_Bound.vv R Bl)<|Ab R R (A6 R R R)<|Ac<|Al hm R (fun h12 hm=>Aj<|Ae<|Ay<|Ae<|Ba 0 mixed<|Av tbk [0,1] [] (by kernel_rfl) R R R<|Bd hm fun x3 h13 hm=>Ax 2 R R R (by kernel_rfl) (A0 T_api_Bound.vv R R el23 h13)<|Av tbk [3,4,5,6] [] (by kernel_rfl) R R R<|Bd hm fun x4 h14 hm=>Ax 7 R R R (by kernel_rfl) (A0 T_api_Bound.vv R R el23 h14)<|Av tbk [8,9,10,11] [] (by kernel_rfl) R R R<|Cq hm [24,23,22,21,20,19,18,17,16,15,14,13,12,11,10,9,8,7,6,5,4,3,2,1,0] 69 56 R (fun _ K' h15 J hm=>Av tbk [12,13,14,15,16,17,18,19,20,21,22,23,24] [] (by kernel_rfl) R R R<|J 12 R R (Bj hm)) (fun _ K' h15 J hm=>Av tbk [12,13] [] (by kernel_rfl) R R R<|Bd hm fun x5 h16 hm=>B8 14 R R R R R R (by kernel_rfl) (A0 T_api_Bound.vv R R el23 h16)<|Av tbk [15,16,17,18] [] (by kernel_rfl) R R R<|Bd hm fun x6 h17 hm=>B8 19 R R R R R R (by kernel_rfl) (A0 T_api_Bound.vv R R el23 h17)<|Av tbk [20,21] [] (by kernel_rfl) R R R<|Ao 22 (by kernel_rfl)<|Cy R R R R R R<|Am hm 0 R fn65 R (K1 _ _) fun r2 hm=>Av tbk [23,24] [] (by kernel_rfl) R R R<|J 12 R R (Bj hm)) fun c hm=>A4 (by kernel_rfl)<|Al hm R (fun h20 hm=>Ag tbk [] R R<|have hm:=Lr hm h11;Rt1 hm R [] R R R) fun h20 hm=>Aj<|A5 tbk [] R R<|Ap _ () hm (Af [] R R)) fun h12 hm=>A3<|Ar () hm (Af [] R R)
 exact Ag tbk [] R R<|Rt1 hm R [] R R R

/-! trireme/triremelaw14.SchedSteps -/
def law14_SchedSteps.l1 : Nat → (List T_api_Bound) → Int → Option Unit
 | 0, _, _ => none
 | n + 1, a2, i2 =>
  if (decide (i2 < (a2.length : Int))) = true then
   (V.gl a2 i2).bind fun x =>
   law14_SchedSteps.l1 n (List.set a2 (i2).toNat (⟨x.Pod, (⟨#[115, 112, 111, 105, 108, 116]⟩ : ByteArray)⟩ : T_api_Bound)) (i64.wrap (i2 + 1))
  else
   some ()
def law14_SchedSteps (ms : List T_api_Machine) (bs : List T_api_Bound) : Option Bool :=
 (law14_right ms bs).bind fun r =>
 if (!r) = true then
  (law14_known).bind fun r2 =>
  some r2
 else
  (V.ap 288 [] bs).bind fun l =>
  (sched_Step ms l).bind fun r3 =>
  (ref14_Step ms bs).bind fun r4 =>
  (sched_Order bs).bind fun r9 =>
  (ref14_Order bs).bind fun r10 =>
  (ref02_Ints r9 r10).bind fun r11 =>
  (if r11 = true then (ref09_Same ([] : List T_api_Machine) r3.1 ([] : List T_api_Machine) r4.1).bind fun r12 =>
  some r12 else some false).bind fun c2 =>
  (if c2 = true then (ref14_Moves r3.2 r4.2).bind fun r13 =>
  some r13 else some false).bind fun c3 =>
  (law14_SchedSteps.l1 FU r3.1 (0 : Int)).bind fun j =>
  (if c3 = true then (ref09_Same ([] : List T_api_Machine) l ([] : List T_api_Machine) bs).bind fun r14 =>
  some r14 else some false).bind fun c4 =>
  (if c4 = true then (law14_known).bind fun r15 =>
  some r15 else some false).bind fun c5 =>
  some c5
theorem law14_SchedSteps_ok (ms : List T_api_Machine) (bs : List T_api_Bound) : VS Tryz.prog 5 (law14_SchedSteps ms bs) [L30 ms, L50 bs] [] .bool N0 := by
 refine Az [.tmp 4] Tryz.func5 R R R fun r hm=>?_
 unfold law14_SchedSteps at hm
 refine Ag tbk [] R R<|Ae<|Ah<|Aa tbk [] 2 R R<|Ad R R<|Am hm 0 R fn24 R (K34 _ _) fun r hm=>Ab R R (Cf R)<|Ac<|Al hm R (fun h2 hm=>Ah<|Ad R R<|Am hm 0 R fn25 R (K104) fun r2 hm=>Ab R R (Ai R)<|Ac<|Rt1 hm R [] R R R) fun h2 hm=>Aj<|Ah<|Ad R R<|Bi ap23 R R R R R fun b=>Ab R R (Ak R)<|Bd hm fun l h5 hm=>Ad R R<|B5 0 T_api_Bound.vv (l:=[]) (l2:=bs) ap23 R R (sT_list T_api_Bound.vv el23 R R) h5 fun ob cap=>Ab R R (Ai R)<|Ac<|Ah<|Aa tbk [] 2 R R<|Bn (A2 0 [(19,L50 l),(5,L50 l),(22,L50 l)] R ⟨⟨_,R,.here _ R⟩,⟨_,R,.here _ R⟩,⟨_,R,.here _ R⟩,trivial⟩ (FzH.refl _))<|Bd hm fun r3 h6 hm=>Ad R R<|VO.callK 0 R fn26 R (K101 ms l r3 h6) fun _ _ h42=> ?_
 obtain ⟨ob2,cap2,ob3,cap3,rfl,rfl⟩:=h42
 refine Aa tbk [] 5 R R<|Ac<|Ah<|Aa tbk [] 2 R R<|Bd hm fun r4 h9 hm=>Ad R R<|VO.callK 0 R fn27 R (K138 ms bs r4 h9) fun _ _ h41=> ?_
 obtain ⟨ob4,cap4,ob5,cap5,rfl,rfl⟩:=h41
 refine Aa tbk [] 5 R R<|Ac<|Ae<|Cp (A9 (A2 3 [(25,L53 r3.2),(7,L53 r3.2)] R ⟨⟨_,R,.here _ R⟩,⟨_,R,.here _ R⟩,trivial⟩ (FzH.refl _)) (A2 1 [(31,L53 r4.2),(9,L53 r4.2)] R ⟨⟨_,R,.here _ R⟩,⟨_,R,.here _ R⟩,trivial⟩ (FzH.refl _)))<|Bp<|Ab R R (Ak R)<|Ad R R<|Am hm 0 R fn28 R (K37 _) fun r9 hm=>Ab R R (Ak R)<|Ad R R<|B9 hm 0 R fn29 R (K105 _) fun r10 ob7 cap7 hm=>Bn (A2 0 [(35,L3 r10)] R ⟨⟨_,R,.here _ R⟩,trivial⟩ (FzH.refl _))<|Ad R R<|Am hm 0 R fn17 R (K102 _ _) fun r11 hm=>Ab R R (Ak R)<|Bc hm 4 41 37 R (fun _ K' h24 J hm=>Aa tbk [] 2 R R<|A7 R R R R R<|VO.ce hm (A9 (A2 1 [(24,L50 r3.1),(6,L50 r3.1),(38,L50 r3.1)] R ⟨⟨_,R,.here _ R⟩,⟨_,R,.here _ R⟩,⟨_,R,.here _ R⟩,trivial⟩ (FzH.refl _)) (A2 0 [(30,L50 r4.1),(8,L50 r4.1),(39,L50 r4.1)] R ⟨⟨_,R,.here _ R⟩,⟨_,R,.here _ R⟩,⟨_,R,.here _ R⟩,trivial⟩ (FzH.refl _))) [.nil 30,.same,.nil 30,.same] R fn30 R (K2 _ _ _ _) (fun _=>R) (fun _=>R) fun r12 hm=>Ab R R (Bb true R R R)<|J 3 R R (Bj hm)) (fun _ K' h24 J hm=>Aa tbk [] 4 R R<|J 3 R R (Bj hm)) fun c2 hm=>Ab R R (Ak R)<|Bc hm 4 46 42 R (fun _ K' h27 J hm=>Aa tbk [] 2 R R<|A7 R R R R R<|Am hm 0 R fn16 R (K103 _ _) fun r13 hm=>Ab R R (Bb true R R R)<|J 3 R R (Bj hm)) (fun _ K' h27 J hm=>Aa tbk [] 4 R R<|J 3 R R (Bj hm)) fun c3 hm=>Ab R R (Ai R)<|Ac<|Ae<|Ag tbk [] R R<|Bz hm (fun _ (_:Unit)=>[(1,L50 bs),(5,L50 l),(10,.bool c3)]) (fun _ (_:Unit)=>[]) (fun o hm=>?_) fun j _ hm=> ?_
 ·refine Bo (fun zn (zs:List T_api_Bound × Int)=>law14_SchedSteps.l1 zn zs.1 zs.2) (fun zs (zg:Option Nat)=>[(1,L50 bs),(5,L50 l),(6,Z50 zg zs.1 cap2),(10,.bool c3),(11,Iw zs.2)]) (fun zs (zg:Option Nat)=>[Q50 zg cap2 zs.1]) (r3.1,(0 : Int)) _ (fun _=>R) hm (Af [1] R R) fun n=>Pq fun a2 i2 ob9 hm=> ?_
  rw [law14_SchedSteps.l1] at hm
  refine Ae<|Ah<|Aa tbk [] 2 R R<|Ab R R (VP.lenRT T_api_Bound.vv R Bl)<|Ab R R (A6 R R R)<|Ac<|Al hm R (fun h32 hm=>?_) fun h32 hm=> ?_
  ·refine Aj<|Ae<|Ay<|Bp<|Aa tbk [] 2 R R<|Bd hm fun x h33 hm=>Cm 0 R (gl_pos T_api_Bound.vv h33) fun b2 h34=> ?_
   subst h34
   exact Ab R R (Cs T_api_Bound.vv R R el23 h33)<|Ab R R (C6 R fa50_1)<|Ad R R<|Db 0 (f:=T_api_Bound.vv) (l:=a2) (q:=x) (q':=(⟨x.Pod,(⟨#[115,112,111,105,108,116]⟩ : ByteArray)⟩ : T_api_Bound)) R R R R h33 ld9 R R R R ⟨R,List.all_eq_true.1 R⟩<|Bn (Ck 6 (List.map T_api_Bound.vv (List.set a2 (i2).toNat (⟨x.Pod,(⟨#[115,112,111,105,108,116]⟩ : ByteArray)⟩ : T_api_Bound))).length R (len_set _ _ _ _))<|Bn (Ck 48 (List.map T_api_Bound.vv (List.set a2 (i2).toNat (⟨x.Pod,(⟨#[115,112,111,105,108,116]⟩ : ByteArray)⟩ : T_api_Bound))).length R (len_set _ _ _ _))<|Bn (Ck 53 (List.map T_api_Bound.vv (List.set a2 (i2).toNat (⟨x.Pod,(⟨#[115,112,111,105,108,116]⟩ : ByteArray)⟩ : T_api_Bound))).length R (len_set _ _ _ _))<|Ac<|A5 tbk [] R R<|Ap ((List.set a2 (i2).toNat (⟨x.Pod,(⟨#[115,112,111,105,108,116]⟩ : ByteArray)⟩ : T_api_Bound)),(IntKind.i64.wrap (i2 + (1 : Int)))) _ hm (Af [0] R R)
  exact A3<|As () hm (Af [] R R)
 exact Ah<|Aa tbk [] 2 R R<|Bc hm 4 62 58 R (fun _ K' h35 J hm=>Aa tbk [] 2 R R<|A7 R R R R R<|VO.cn hm 0 [.nil 30,.same,.nil 30,.same] R fn30 R (K2 _ _ _ _) fun r14 hm=>Ab R R (Bb true R R R)<|J 3 R R (Bj hm)) (fun _ K' h35 J hm=>Aa tbk [] 4 R R<|J 3 R R (Bj hm)) fun c4 hm=>Ab R R (Ak R)<|Bc hm 2 65 63 R (fun _ K' h38 J hm=>A7 R R R R R<|Am hm 0 R fn25 R (K104) fun r15 hm=>Ab R R (Bb true R R R)<|J 1 R R (Bj hm)) (fun _ K' h38 J hm=>Aa tbk [] 2 R R<|J 1 R R (Bj hm)) fun c5 hm=>Ab R R (Ai R)<|Ac<|Rt1 hm R [] R R R

end Go.Proofs.YtbkdglcedgiogaaGreat.M

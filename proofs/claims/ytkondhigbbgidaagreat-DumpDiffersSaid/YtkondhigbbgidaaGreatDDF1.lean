/-
  Printed by a program of this session out of the loaded functions: models and their proofs. Own text.
-/
import Derived.Test.YtkondhigbbgidaaGreatDDF0
namespace Go.Proofs.YtkondhigbbgidaaGreat.M
open Go Go.Proofs Go.Proofs.YtkondhigbbgidaaGreat.V
open Go.IntKind (i64)
set_option linter.unusedVariables false
set_option linter.unusedSimpArgs false
set_option maxRecDepth 20000
set_option maxHeartbeats 40000000
/-! trireme/spec.ShowPod -/
def spec_ShowPod.l2 : List ByteArray → Nat → (List I_any20) → Option (List I_any20)
 | [], k2, x4 => some x4
 | x6 :: l2, k2, x4 =>
  (V.ap 16 x4 [(I_any20.c9 x6)]).bind fun x7 =>
  spec_ShowPod.l2 l2 (k2 + 1) x7
def spec_ShowPod.l1 : List T_api_Term → Nat → T_spec_writer → Option T_spec_writer
 | [], k, w2 => some w2
 | x :: l, k, w2 =>
  (spec_ops).bind fun r9 =>
  (V.gl r9 x.Op).bind fun x2 =>
  (spec_ShowPod.l2 x.Vals 0 [(I_any20.c9 x.Key), (I_any20.c9 x2)]).bind fun x52 =>
  (spec_writer_list w2 (⟨#[116, 101, 114, 109]⟩ : ByteArray) x52).bind fun r10 =>
  spec_ShowPod.l1 l (k + 1) r10
def spec_ShowPod.l3 : List T_api_Toleration → Nat → T_spec_writer → Option T_spec_writer
 | [], k3, w5 => some w5
 | x8 :: l3, k3, w5 =>
  if x8.Any = true then
   (spec_effects).bind fun r11 =>
   (V.gl r11 x8.Effect).bind fun x9 =>
   (spec_writer_list w5 (⟨#[98, 101, 97, 114, 97, 110, 121]⟩ : ByteArray) [(I_any20.c9 x8.Key), (I_any20.c9 x9)]).bind fun r12 =>
   spec_ShowPod.l3 l3 (k3 + 1) r12
  else
   (spec_effects).bind fun r13 =>
   (V.gl r13 x8.Effect).bind fun x10 =>
   (spec_writer_list w5 (⟨#[98, 101, 97, 114]⟩ : ByteArray) [(I_any20.c9 x8.Key), (I_any20.c9 x8.Val), (I_any20.c9 x10)]).bind fun r14 =>
   spec_ShowPod.l3 l3 (k3 + 1) r14
def spec_ShowPod.l4 : List Int → Nat → T_spec_writer → Option T_spec_writer
 | [], k4, w8 => some w8
 | x11 :: l4, k4, w8 =>
  (spec_writer_list w8 (⟨#[112, 111, 114, 116]⟩ : ByteArray) [(I_any20.c3 x11)]).bind fun r15 =>
  spec_ShowPod.l4 l4 (k4 + 1) r15
def spec_ShowPod (p : T_api_Pod) : Option ByteArray :=
 (spec_RightPod p).bind fun r =>
 if (!r) = true then
  some (⟨#[]⟩ : ByteArray)
 else
  (V.cat (⟨#[40, 112, 111, 100, 32]⟩ : ByteArray) p.Name).bind fun v =>
  (quant_ShowMilli p.Need.Cpu).bind fun r2 =>
  (quant_Show p.Need.Mem).bind fun r3 =>
  (quant_Show p.Need.Disk).bind fun r4 =>
  (spec_writer_list (⟨v⟩ : T_spec_writer) (⟨#[110, 101, 101, 100]⟩ : ByteArray) [(I_any20.c9 r2), (I_any20.c9 r3), (I_any20.c9 r4), (I_any20.c3 p.Need.Dev)]).bind fun r5 =>
  (spec_writer_pairs r5 (⟨#[108, 97, 98, 101, 108]⟩ : ByteArray) p.Labels).bind fun r6 =>
  (spec_writer_pairs r6 (⟨#[115, 101, 108, 101, 99, 116]⟩ : ByteArray) p.Select).bind fun r7 =>
  (spec_writer_pairs r7 (⟨#[97, 112, 97, 114, 116]⟩ : ByteArray) p.Apart).bind fun r8 =>
  (spec_ShowPod.l1 p.Terms 0 r8).bind fun w32 =>
  (spec_ShowPod.l3 p.Bears 0 w32).bind fun w62 =>
  (spec_ShowPod.l4 p.Ports 0 w62).bind fun w92 =>
  (spec_writer_some w92 (⟨#[115, 112, 114, 101, 97, 100]⟩ : ByteArray) p.Skew).bind fun r16 =>
  (spec_writer_pairs r16 (⟨#[111, 118, 101, 114]⟩ : ByteArray) p.Spread).bind fun r17 =>
  (spec_writer_some r17 (⟨#[114, 97, 110, 107]⟩ : ByteArray) p.Rank).bind fun r18 =>
  if (!(V.seq p.Owner (⟨#[]⟩ : ByteArray))) = true then
   (spec_writer_list r18 (⟨#[111, 119, 110, 101, 114]⟩ : ByteArray) [(I_any20.c9 p.Owner)]).bind fun r19 =>
   (spec_writer_flag r19 (⟨#[119, 105, 100, 101]⟩ : ByteArray) p.Wide).bind fun r20 =>
   (spec_writer_flag r20 (⟨#[100, 97, 101, 109, 111, 110]⟩ : ByteArray) p.Daemon).bind fun r21 =>
   (spec_writer_flag r21 (⟨#[112, 105, 110, 110, 101, 100]⟩ : ByteArray) p.Pinned).bind fun r22 =>
   (spec_writer_flag r22 (⟨#[108, 111, 99, 97, 108]⟩ : ByteArray) p.Local).bind fun r23 =>
   (V.cat r23.s (⟨#[41]⟩ : ByteArray)).bind fun v2 =>
   some v2
  else
   (spec_writer_flag r18 (⟨#[119, 105, 100, 101]⟩ : ByteArray) p.Wide).bind fun r24 =>
   (spec_writer_flag r24 (⟨#[100, 97, 101, 109, 111, 110]⟩ : ByteArray) p.Daemon).bind fun r25 =>
   (spec_writer_flag r25 (⟨#[112, 105, 110, 110, 101, 100]⟩ : ByteArray) p.Pinned).bind fun r26 =>
   (spec_writer_flag r26 (⟨#[108, 111, 99, 97, 108]⟩ : ByteArray) p.Local).bind fun r27 =>
   (V.cat r27.s (⟨#[41]⟩ : ByteArray)).bind fun v3 =>
   some v3
theorem K111 (p : T_api_Pod) : VS Tryz.prog 11 (spec_ShowPod p) [T_api_Pod.vv p] [] .str N0 := by
 refine A6 [.tmp 2] Tryz.func11 R R R fun r hm=>?_
 unfold spec_ShowPod at hm
 refine Ah<|Ad R R<|Cd R R fun b=>Aa R R (Aj R)<|Ac<|Ae<|Ah<|Ab tbk [0] 1 R R<|Ad R R<|A0 hm 0 R fn12 R (K90 _) fun r hm=>Aa R R (C1 R)<|Ac<|Am hm R (fun h3 hm=>Af tbk [] R R<|Rt1 hm R [] R R R) fun h3 hm=>Ai<|Ah<|Ab tbk [0] 2 R R<|Bd hm fun v h4 hm=>Aa R R (A8 R R h4)<|Aa R R (A7 pl76 R R)<|Ad R R<|Cd R R fun b2=>Aa R R (Aj R)<|Ac<|Ae<|A4 1 mixed<|An tbk [0,1,2,3,6,7,8,11,12,13,16,17,18] [0,0,0,0] (by kernel_rfl) R R R<|Aq 19 R R R (by kernel_rfl) (Ci nif3 R)<|Al 4 (by kernel_rfl)<|Bd hm fun r2 h6 hm=>Au R R R<|Aw 0 R fn46 R (K101 p.Need.Cpu r2 h6) fun _ _ h73=> ?_
 obtain ⟨rfl,rfl⟩:=h73
 refine Aq 5 R R R (by kernel_rfl) (Ci nif9 R)<|Al 9 (by kernel_rfl)<|Bd hm fun r3 h7 hm=>Au R R R<|Aw 0 R fn47 R (K102 p.Need.Mem r3 h7) fun _ _ h72=> ?_
 obtain ⟨rfl,rfl⟩:=h72
 refine Aq 10 R R R (by kernel_rfl) (Ci nif9 R)<|Al 14 (by kernel_rfl)<|Bd hm fun r4 h8 hm=>Au R R R<|Aw 0 R fn47 R (K102 p.Need.Disk r4 h8) fun _ _ h71=> ?_
 obtain ⟨rfl,rfl⟩:=h71
 refine Aq 15 R R R (by kernel_rfl) (Ci nif9 R)<|Al 20 (by kernel_rfl)<|Au R R R<|Ax ap81 R R R R R fun b3=>Dm (Az 0 [(41,L20 [(I_any20.c9 r2),(I_any20.c9 r3),(I_any20.c9 r4),(I_any20.c3 p.Need.Dev)])] R ⟨⟨_,R,.here _ R⟩,trivial⟩ (FzH.refl _))<|Al 21 (by kernel_rfl)<|Bd hm fun r5 h10 hm=>Au R R R<|Aw 1 R fn45 R (K99 (⟨v⟩ : T_spec_writer) (⟨#[110,101,101,100]⟩ : ByteArray) [(I_any20.c9 r2),(I_any20.c9 r3),(I_any20.c9 r4),(I_any20.c3 p.Need.Dev)] b2 r5 h10) fun _ _ h70=> ?_
 obtain ⟨rfl,rfl⟩:=h70
 refine Ay (by kernel_rfl)<|Ah<|Ab tbk [1] 3 R R<|Ad R R<|A0 hm 1 R fn48 R (K103 _ _ _ _) fun r6 hm=>Ac<|Ah<|Ab tbk [1] 3 R R<|Ad R R<|A0 hm 1 R fn48 R (K103 _ _ _ _) fun r7 hm=>Ac<|Ah<|Ab tbk [1] 3 R R<|Ad R R<|A0 hm 1 R fn48 R (K103 _ _ _ _) fun r8 hm=>Ac<|Ae<|Ah<|Ab tbk [1] 2 R R<|Aa R R (A5 T_api_Term.vv R Cu)<|Aa R R (Ak R)<|Ac<|Ck 56 R fun h16=>Cp hm (fun _ (_:Unit)=>[(1,.ptr b 0),(3,.ptr b2 0)]) (fun w32 (_:Unit)=>[X76 b2 w32,X29 b p]) (fun o hm=>?_) fun w32 _ hm=> ?_
 ·refine Cz (p.Terms) (fun zl zk (zs:T_spec_writer)=>spec_ShowPod.l1 zl zk zs) (fun k _ (_:Unit)=>[(1,.ptr b 0),(3,.ptr b2 0),(56,L73 p.Terms),(57,Iw (p.Terms.length : Int)),(58,Iw (k : Int))]) (fun _ zs (_:Unit)=>[X76 b2 zs,X29 b p]) _ () hm (Ag [0,1] R R) (fun k w2 _ hk hm=>?_) fun k x l w2 _ h17 hm=> ?_
  ·rw [spec_ShowPod.l1] at hm
   exact Af tbk [] R R<|Ae<|Cb R (k_end hk)<|Ba<|As () hm (Ag [0,1] R R)
  rw [spec_ShowPod.l1] at hm
  refine Af tbk [] R R<|Ae<|Br R (k_lt h17)<|Ai<|Ae<|A1<|Ah<|Aa R R (Ct T_api_Term.vv R R el25 h17)<|Aa R R (Bl R ld73 R)<|Ad R R<|Bg z73 fun b4=>Ad R R<|Ao (i:=0) R R R ld73 R R R<|Ac<|Ae<|A4 0 mixed<|An tbk [0,1] [0] (by kernel_rfl) R R R<|Aq 2 R R R (by kernel_rfl) (Ci nif9 R)<|An tbk [4,5] [0] (by kernel_rfl) R R R<|Al 3 (by kernel_rfl)<|Bd hm fun r9 h19 hm=>Au R R R<|Aw 0 R fn49 R (K109 r9 h19) fun _ _ h29=> ?_
  obtain ⟨rfl,rfl⟩:=h29
  refine Bd hm fun x2 h20 hm=>Aq 6 R R R (by kernel_rfl) (A2 VV.str R R el65 h20)<|Aq 7 R R R (by kernel_rfl) (Bl R ld9 R)<|Aq 8 R R R (by kernel_rfl) (Ci nif9 R)<|Al 9 (by kernel_rfl)<|Au R R R<|Ax ap81 R R R R R fun b5=>Aq 10 R R R (by kernel_rfl) (Aj R)<|Ay (by kernel_rfl)<|Ae<|Ah<|Ab tbk [1] 2 R R<|Aa R R (A5 VV.str R B0)<|Aa R R (Ak R)<|Ac<|Ck 73 R fun h24=>Cp hm (fun x52 (gg:Option Nat × Nat)=>[(1,.ptr b 0),(3,.ptr b2 0),(6,Z20 gg.1 x52 gg.2),(56,L73 p.Terms),(57,Iw (p.Terms.length : Int)),(58,Iw (k : Int))]) (fun x52 (gg:Option Nat × Nat)=>[Q20 gg.1 gg.2 x52,X76 b2 w2,X29 b p]) (fun o2 hm=>?_) fun x52=>Pq fun ob3 cap3 hm=> ?_
  ·refine Cz (x.Vals) (fun zl zk (zs:List I_any20)=>spec_ShowPod.l2 zl zk zs) (fun k2 zs (zg:Option Nat × Nat)=>[(1,.ptr b 0),(3,.ptr b2 0),(6,Z20 zg.1 zs zg.2),(56,L73 p.Terms),(57,Iw (p.Terms.length : Int)),(58,Iw (k : Int)),(73,L9 x.Vals),(74,Iw (x.Vals.length : Int)),(75,Iw (k2 : Int))]) (fun _ zs (zg:Option Nat × Nat)=>[Q20 zg.1 zg.2 zs,X76 b2 w2,X29 b p]) _ ((some b5),2) hm (Ag [0,2,3] R R) (fun k2 x4=>Pq fun ob2 cap2 hk hm=>?_) fun k2 x6 l2 x4=>Pq fun ob2 cap2 h25 hm=> ?_
   ·rw [spec_ShowPod.l2] at hm
    exact Af tbk [] R R<|Ae<|Cb R (k_end hk)<|Ba<|As (ob2,cap2) hm (Ag [0,1,2] R R)
   rw [spec_ShowPod.l2] at hm
   exact Af tbk [] R R<|Ae<|Br R (k_lt h25)<|Ai<|Ae<|A1<|Ah<|Aa R R (Ct VV.str R R el65 h25)<|Ab tbk [] 2 R R<|Ac<|Be<|Ab tbk [] 2 R R<|Aa R R (Ci nif9 R)<|Ad R R<|Ax ap81 R R R R R fun b6=>Bd hm fun x7 h27 hm=>Ad R R<|Bu 1 I_any20.vv (l:=x4) (l2:=[(I_any20.c9 x6)]) ap81 R R (sT_row 0 I_any20.vv el81 R R) h27 fun ob4 cap4=>Aa R R (Aj R)<|Ac<|Bb tbk [] R R<|Ap _ (ob4,cap4) hm (Bv [1,2,3] R ⟨R,R,R,R,R,R,R,R,congrArg some (k_next h25 h24),trivial⟩)
  exact Be<|Ab tbk [] 2 R R<|A3 (Az 0 [(6,L20 x52),(86,L20 x52)] R ⟨⟨_,R,.here _ R⟩,⟨_,R,.here _ R⟩,trivial⟩ (FzH.refl _))<|Ad R R<|A0 hm 1 R fn45 R (K99 _ _ _ _) fun r10 hm=>Ac<|Bb tbk [] R R<|Ap _ () hm (Bv [0,1] R ⟨R,R,R,R,congrArg some (k_next h17 h16),trivial⟩)
 refine Ae<|Ah<|Ab tbk [1] 2 R R<|Aa R R (A5 T_api_Toleration.vv R C2)<|Aa R R (Ak R)<|Ac<|Ck 90 R fun h32=>Cp hm (fun _ (_:Unit)=>[(1,.ptr b 0),(3,.ptr b2 0)]) (fun w62 (_:Unit)=>[X76 b2 w62,X29 b p]) (fun o3 hm=>?_) fun w62 _ hm=> ?_
 ·refine Cz (p.Bears) (fun zl zk (zs:T_spec_writer)=>spec_ShowPod.l3 zl zk zs) (fun k3 _ (_:Unit)=>[(1,.ptr b 0),(3,.ptr b2 0),(90,L83 p.Bears),(91,Iw (p.Bears.length : Int)),(92,Iw (k3 : Int))]) (fun _ zs (_:Unit)=>[X76 b2 zs,X29 b p]) _ () hm (Ag [0,1] R R) (fun k3 w5 _ hk hm=>?_) fun k3 x8 l3 w5 _ h33 hm=> ?_
  ·rw [spec_ShowPod.l3] at hm
   exact Af tbk [] R R<|Ae<|Cb R (k_end hk)<|Ba<|As () hm (Ag [0,1] R R)
  rw [spec_ShowPod.l3] at hm
  refine Af tbk [] R R<|Ae<|Br R (k_lt h33)<|Ai<|Ae<|A1<|Ah<|Aa R R (Ct T_api_Toleration.vv R R el26 h33)<|Aa R R (Bl R ld83 R)<|Ad R R<|Bg z83 fun b7=>Ad R R<|Ao (i:=0) R R R ld83 R R R<|Ac<|Af tbk [0] R R<|Am hm R (fun h35 hm=>?_) fun h35 hm=> ?_
  ·refine Bi (Bf [1,0,2] R)<|A4 1 mixed<|An tbk [0,1,2] [0] (by kernel_rfl) R R R<|Aq 3 R R R (by kernel_rfl) (Ci nif9 R)<|An tbk [5,6] [0] (by kernel_rfl) R R R<|Al 4 (by kernel_rfl)<|Bd hm fun r11 h36 hm=>Au R R R<|Aw 0 R fn50 R (K104 r11 h36) fun _ _ h41=> ?_
   obtain ⟨rfl,rfl⟩:=h41
   refine Bd hm fun x9 h37 hm=>Aq 7 R R R (by kernel_rfl) (A2 VV.str R R el65 h37)<|Aq 8 R R R (by kernel_rfl) (Bl R ld9 R)<|Aq 9 R R R (by kernel_rfl) (Ci nif9 R)<|Al 10 (by kernel_rfl)<|Au R R R<|Ax ap81 R R R R R fun b8=>Dm (Az 0 [(108,L20 [(I_any20.c9 x8.Key),(I_any20.c9 x9)])] R ⟨⟨_,R,.here _ R⟩,trivial⟩ (FzH.refl _))<|Al 11 (by kernel_rfl)<|Bd hm fun r12 h39 hm=>Au R R R<|Aw 1 R fn45 R (K99 w5 (⟨#[98,101,97,114,97,110,121]⟩ : ByteArray) [(I_any20.c9 x8.Key),(I_any20.c9 x9)] b2 r12 h39) fun _ _ h40=> ?_
   obtain ⟨rfl,rfl⟩:=h40
   exact Ay (by kernel_rfl)<|Bb tbk [] R R<|Ap _ () hm (Bv [0,2] R ⟨R,R,R,R,congrArg some (k_next h33 h32),trivial⟩)
  refine Bi (Bf [1,0,2] R)<|A4 1 mixed<|An tbk [0,1,2] [0] (by kernel_rfl) R R R<|Aq 3 R R R (by kernel_rfl) (Ci nif9 R)<|An tbk [4,5] [0] (by kernel_rfl) R R R<|Aq 6 R R R (by kernel_rfl) (Ci nif9 R)<|An tbk [8,9] [0] (by kernel_rfl) R R R<|Al 7 (by kernel_rfl)<|Bd hm fun r13 h42 hm=>Au R R R<|Aw 0 R fn50 R (K104 r13 h42) fun _ _ h47=> ?_
  obtain ⟨rfl,rfl⟩:=h47
  refine Bd hm fun x10 h43 hm=>Aq 10 R R R (by kernel_rfl) (A2 VV.str R R el65 h43)<|Aq 11 R R R (by kernel_rfl) (Bl R ld9 R)<|Aq 12 R R R (by kernel_rfl) (Ci nif9 R)<|Al 13 (by kernel_rfl)<|Au R R R<|Ax ap81 R R R R R fun b9=>Dm (Az 0 [(123,L20 [(I_any20.c9 x8.Key),(I_any20.c9 x8.Val),(I_any20.c9 x10)])] R ⟨⟨_,R,.here _ R⟩,trivial⟩ (FzH.refl _))<|Al 14 (by kernel_rfl)<|Bd hm fun r14 h45 hm=>Au R R R<|Aw 1 R fn45 R (K99 w5 (⟨#[98,101,97,114]⟩ : ByteArray) [(I_any20.c9 x8.Key),(I_any20.c9 x8.Val),(I_any20.c9 x10)] b2 r14 h45) fun _ _ h46=> ?_
  obtain ⟨rfl,rfl⟩:=h46
  exact Ay (by kernel_rfl)<|Bb tbk [] R R<|Ap _ () hm (Bv [0,2] R ⟨R,R,R,R,congrArg some (k_next h33 h32),trivial⟩)
 refine Ae<|Ah<|Ab tbk [1] 2 R R<|Aa R R (A5 (VV.int .i64) R Bn)<|Aa R R (Ak R)<|Ac<|Ck 127 R fun h50=>Cp hm (fun _ (_:Unit)=>[(1,.ptr b 0),(3,.ptr b2 0)]) (fun w92 (_:Unit)=>[X76 b2 w92,X29 b p]) (fun o4 hm=>?_) fun w92 _ hm=> ?_
 ·refine Cz (p.Ports) (fun zl zk (zs:T_spec_writer)=>spec_ShowPod.l4 zl zk zs) (fun k4 _ (_:Unit)=>[(1,.ptr b 0),(3,.ptr b2 0),(127,L3 p.Ports),(128,Iw (p.Ports.length : Int)),(129,Iw (k4 : Int))]) (fun _ zs (_:Unit)=>[X76 b2 zs,X29 b p]) _ () hm (Ag [0,1] R R) (fun k4 w8 _ hk hm=>?_) fun k4 x11 l4 w8 _ h51 hm=> ?_
  ·rw [spec_ShowPod.l4] at hm
   exact Af tbk [] R R<|Ae<|Cb R (k_end hk)<|Ba<|As () hm (Ag [0,1] R R)
  rw [spec_ShowPod.l4] at hm
  exact Af tbk [] R R<|Ae<|Br R (k_lt h51)<|Ai<|Ae<|A1<|Ah<|Aa R R (Ct (VV.int .i64) R R el27 h51)<|Ab tbk [] 2 R R<|Ac<|Be<|Ab tbk [] 2 R R<|Aa R R (Ci nif3 R)<|Ad R R<|Ax ap81 R R R R R fun b10=>A3 (Az 0 [(136,L20 [(I_any20.c3 x11)])] R ⟨⟨_,R,.here _ R⟩,trivial⟩ (FzH.refl _))<|Ad R R<|A0 hm 1 R fn45 R (K99 _ _ _ _) fun r15 hm=>Ac<|Bb tbk [] R R<|Ap _ () hm (Bv [0,1] R ⟨R,R,R,R,congrArg some (k_next h51 h50),trivial⟩)
 exact Ah<|Ab tbk [1] 3 R R<|Ad R R<|A0 hm 1 R fn51 R (K110 _ _ _ _) fun r16 hm=>Ac<|Ah<|Ab tbk [1] 3 R R<|Ad R R<|A0 hm 1 R fn48 R (K103 _ _ _ _) fun r17 hm=>Ac<|Ah<|Ab tbk [1] 3 R R<|Ad R R<|A0 hm 1 R fn51 R (K110 _ _ _ _) fun r18 hm=>Ac<|Ae<|Af tbk [1] R R<|Am hm R (fun h57 hm=>Be<|Ab tbk [1] 3 R R<|Aa R R (Ci nif9 R)<|Ad R R<|Ax ap81 R R R R R fun b11=>A3 (Az 0 [(158,L20 [(I_any20.c9 p.Owner)])] R ⟨⟨_,R,.here _ R⟩,trivial⟩ (FzH.refl _))<|Ad R R<|A0 hm 1 R fn45 R (K99 _ _ _ _) fun r19 hm=>Ac<|Ah<|Ab tbk [1] 3 R R<|Ad R R<|A0 hm 1 R fn52 R (K106 _ _ _ _) fun r20 hm=>Ac<|Ah<|Ab tbk [1] 3 R R<|Ad R R<|A0 hm 1 R fn52 R (K106 _ _ _ _) fun r21 hm=>Ac<|Ah<|Ab tbk [1] 3 R R<|Ad R R<|A0 hm 1 R fn52 R (K106 _ _ _ _) fun r22 hm=>Ac<|Ah<|Ab tbk [1] 3 R R<|Ad R R<|A0 hm 1 R fn52 R (K106 _ _ _ _) fun r23 hm=>Ac<|Ah<|Ab tbk [0] 4 R R<|Bd hm fun v2 h64 hm=>Aa R R (A8 R R h64)<|Aa R R (Aj R)<|Ac<|Rt1 hm R [] R R R) fun h57 hm=>Ai<|Ah<|Ab tbk [1] 3 R R<|Ad R R<|A0 hm 1 R fn52 R (K106 _ _ _ _) fun r24 hm=>Ac<|Ah<|Ab tbk [1] 3 R R<|Ad R R<|A0 hm 1 R fn52 R (K106 _ _ _ _) fun r25 hm=>Ac<|Ah<|Ab tbk [1] 3 R R<|Ad R R<|A0 hm 1 R fn52 R (K106 _ _ _ _) fun r26 hm=>Ac<|Ah<|Ab tbk [1] 3 R R<|Ad R R<|A0 hm 1 R fn52 R (K106 _ _ _ _) fun r27 hm=>Ac<|Ah<|Ab tbk [0] 4 R R<|Bd hm fun v3 h69 hm=>Aa R R (A8 R R h69)<|Aa R R (Aj R)<|Ac<|Rt1 hm R [] R R R

/-! (trireme/dump.bound).text -/
def dump_bound_text (b : T_api_Bound) : Option ByteArray :=
 if (V.seq b.On (⟨#[]⟩ : ByteArray)) = true then
  (V.cat (⟨#[40, 111, 110, 32]⟩ : ByteArray) (⟨#[34, 34]⟩ : ByteArray)).bind fun v =>
  (V.cat v (⟨#[32]⟩ : ByteArray)).bind fun v2 =>
  (spec_ShowPod b.Pod).bind fun r =>
  (V.cat v2 r).bind fun v3 =>
  (V.cat v3 (⟨#[41]⟩ : ByteArray)).bind fun v4 =>
  some v4
 else
  (V.cat (⟨#[40, 111, 110, 32]⟩ : ByteArray) b.On).bind fun v5 =>
  (V.cat v5 (⟨#[32]⟩ : ByteArray)).bind fun v6 =>
  (spec_ShowPod b.Pod).bind fun r2 =>
  (V.cat v6 r2).bind fun v7 =>
  (V.cat v7 (⟨#[41]⟩ : ByteArray)).bind fun v8 =>
  some v8
theorem K112 (b : T_api_Bound) : VS Tryz.prog 229 (dump_bound_text b) [T_api_Bound.vv b] [] .str N0 := by
 refine A6 [.tmp 2] Tryz.func229 R R R fun r hm=>?_
 unfold dump_bound_text at hm
 exact Ah<|Ad R R<|Cd R R fun b2=>Aa R R (Aj R)<|Ac<|Af tbk [0] R R<|Ae<|Af tbk [] R R<|Am hm R (fun h2 hm=>Bb tbk [] R R<|Ah<|Aa R R (Ak R)<|Bd hm fun v h3 hm=>Aa R R (A8 R R h3)<|Bd hm fun v2 h4 hm=>Aa R R (A8 R R h4)<|Ab tbk [0] 2 R R<|Ad R R<|A0 hm 0 R fn11 R (K111 _) fun r hm=>Bd hm fun v3 h6 hm=>Aa R R (A8 R R h6)<|Bd hm fun v4 h7 hm=>Aa R R (A8 R R h7)<|Aa R R (Aj R)<|Ac<|Rt1 hm R [] R R R) fun h2 hm=>Ai<|Ah<|Aa R R (Ak R)<|Bd hm fun v5 h8 hm=>Aa R R (A8 R R h8)<|Bd hm fun v6 h9 hm=>Aa R R (A8 R R h9)<|Ab tbk [0] 2 R R<|Ad R R<|A0 hm 0 R fn11 R (K111 _) fun r2 hm=>Bd hm fun v7 h11 hm=>Aa R R (A8 R R h11)<|Bd hm fun v8 h12 hm=>Aa R R (A8 R R h12)<|Aa R R (Aj R)<|Ac<|Rt1 hm R [] R R R

def I_dump_line.m_text : I_dump_line → Option ByteArray
 | .nil => none
 | .c123 y => dump_machine_text y
 | .c124 y => dump_bound_text y
theorem I_dump_line.m_text_ok (x : I_dump_line) (r : ByteArray) (h : I_dump_line.m_text x = some r) : VI Tryz.prog x.isNil x.ty x.val "trireme/dump.text" [] (.str r) := by
  cases x with
  | nil => cases h
  | c123 y => exact ⟨R,228,mt123_text,fn228,K108 y r h⟩
  | c124 y => exact ⟨R,229,mt124_text,fn229,K112 y r h⟩

/-! trireme/dump.Show -/
def dump_Show.l1 : List T_api_Machine → Nat → (List I_dump_line) → Option (List I_dump_line)
 | [], k, l2 => some l2
 | x :: l4, k, l2 =>
  (V.ap 16 l2 [(I_dump_line.c123 x)]).bind fun l5 =>
  dump_Show.l1 l4 (k + 1) l5
def dump_Show.l2 : List T_api_Bound → Nat → (List I_dump_line) → Option (List I_dump_line)
 | [], k2, l7 => some l7
 | x2 :: l9, k2, l7 =>
  (V.ap 16 l7 [(I_dump_line.c124 x2)]).bind fun l10 =>
  dump_Show.l2 l9 (k2 + 1) l10
def dump_Show.l3 (l82 : List I_dump_line) : Nat → ByteArray → Int → Option ByteArray
 | 0, _, _ => none
 | n3 + 1, s2, v2 =>
  if (decide (v2 < (l82.length : Int))) = true then
   (V.gl l82 v2).bind fun x3 =>
   (I_dump_line.m_text x3).bind fun r2 =>
   (V.cat r2 (⟨#[10]⟩ : ByteArray)).bind fun v3 =>
   (V.cat s2 v3).bind fun v4 =>
   dump_Show.l3 l82 n3 v4 (i64.wrap (v2 + 1))
  else
   some s2
def dump_Show (ms : List T_api_Machine) (bs : List T_api_Bound) : Option ByteArray :=
 (yard_Check ms bs).bind fun r =>
 if (r != 0) = true then
  some (⟨#[]⟩ : ByteArray)
 else
  (dump_Show.l1 ms 0 ([] : List I_dump_line)).bind fun l32 =>
  (dump_Show.l2 bs 0 l32).bind fun l82 =>
  (dump_Show.l3 l82 FU (⟨#[]⟩ : ByteArray) (0 : Int)).bind fun s32 =>
  some s32
theorem K113 (ms : List T_api_Machine) (bs : List T_api_Bound) : VS Tryz.prog 33 (dump_Show ms bs) [L41 ms, L121 bs] [] .str N0 := by
 refine A6 [.tmp 4] Tryz.func33 R R R fun r hm=>?_
 unfold dump_Show at hm
 refine Af tbk [] R R<|Ae<|Ah<|Ab tbk [] 2 R R<|Ad R R<|A0 hm 0 R fn92 R (K97 _ _) fun r hm=>Aa R R (Bc R R R)<|Ac<|Am hm R (fun h2 hm=>Af tbk [] R R<|Rt1 hm R [] R R R) fun h2 hm=>Ai<|Af tbk [] R R<|Ae<|Ah<|Aa R R (Ak R)<|Aa R R (A5 T_api_Machine.vv R B5)<|Aa R R (Ak R)<|Ac<|Ck 17 R fun h7=>Cp hm (fun l32 (gg:Option Nat × Nat)=>[(1,L121 bs),(5,Z126 gg.1 l32 gg.2)]) (fun l32 (gg:Option Nat × Nat)=>[Q126 gg.1 gg.2 l32]) (fun o hm=>?_) fun l32=>Pq fun ob3 cap3 hm=> ?_
 ·refine Cz (ms) (fun zl zk (zs:List I_dump_line)=>dump_Show.l1 zl zk zs) (fun k zs (zg:Option Nat × Nat)=>[(1,L121 bs),(5,Z126 zg.1 zs zg.2),(17,L41 ms),(18,Iw (ms.length : Int)),(19,Iw (k : Int))]) (fun _ zs (zg:Option Nat × Nat)=>[Q126 zg.1 zg.2 zs]) _ (none,0) hm (Bk (A9 126) (Ag [0] R R)) (fun k l2=>Pq fun ob2 cap2 hk hm=>?_) fun k x l4 l2=>Pq fun ob2 cap2 h8 hm=> ?_
  ·rw [dump_Show.l1] at hm
   exact Af tbk [] R R<|Ae<|Cb R (k_end hk)<|Ba<|As (ob2,cap2) hm (Ag [0] R R)
  rw [dump_Show.l1] at hm
  exact Af tbk [] R R<|Ae<|Br R (k_lt h8)<|Ai<|Ae<|A1<|Ah<|Aa R R (Ct T_api_Machine.vv R R el54 h8)<|Aa R R (Bl R ld41 R)<|Ad R R<|Bg z41 fun b=>Ad R R<|Ao (i:=0) R R R ld41 R R R<|Ac<|Be<|Ab tbk [0] 2 R R<|Aa R R (Ci nif123 R)<|Ad R R<|Ax ap122 R R R R R fun b2=>Bd hm fun l5 h11 hm=>Ad R R<|Bu 2 I_dump_line.vv (l:=l2) (l2:=[(I_dump_line.c123 x)]) ap122 R R (sT_row 0 I_dump_line.vv el122 R R) h11 fun ob4 cap4=>Aa R R (Aj R)<|Ac<|Bb tbk [] R R<|Ap _ (ob4,cap4) hm (Bv [2] R ⟨R,R,R,R,congrArg some (k_next h8 h7),trivial⟩)
 refine Ae<|Ah<|Aa R R (Ak R)<|Aa R R (A5 T_api_Bound.vv R Bz)<|Aa R R (Ak R)<|Ac<|Ck 29 R fun h15=>Cp hm (fun l82 (gg:Option Nat × Nat)=>[(5,Z126 gg.1 l82 gg.2)]) (fun l82 (gg:Option Nat × Nat)=>[Q126 gg.1 gg.2 l82]) (fun o2 hm=>?_) fun l82=>Pq fun ob7 cap7 hm=> ?_
 ·refine Cz (bs) (fun zl zk (zs:List I_dump_line)=>dump_Show.l2 zl zk zs) (fun k2 zs (zg:Option Nat × Nat)=>[(5,Z126 zg.1 zs zg.2),(29,L121 bs),(30,Iw (bs.length : Int)),(31,Iw (k2 : Int))]) (fun _ zs (zg:Option Nat × Nat)=>[Q126 zg.1 zg.2 zs]) _ (ob3,cap3) hm (Ag [0] R R) (fun k2 l7=>Pq fun ob6 cap6 hk hm=>?_) fun k2 x2 l9 l7=>Pq fun ob6 cap6 h16 hm=> ?_
  ·rw [dump_Show.l2] at hm
   exact Af tbk [] R R<|Ae<|Cb R (k_end hk)<|Ba<|As (ob6,cap6) hm (Ag [0] R R)
  rw [dump_Show.l2] at hm
  exact Af tbk [] R R<|Ae<|Br R (k_lt h16)<|Ai<|Ae<|A1<|Ah<|Aa R R (Ct T_api_Bound.vv R R el55 h16)<|Aa R R (Bl R ld121 R)<|Ad R R<|Bg z121 fun b3=>Ad R R<|Ao (i:=0) R R R ld121 R R R<|Ac<|Be<|Ab tbk [0] 2 R R<|Aa R R (Ci nif124 R)<|Ad R R<|Ax ap122 R R R R R fun b4=>Bd hm fun l10 h19 hm=>Ad R R<|Bu 2 I_dump_line.vv (l:=l7) (l2:=[(I_dump_line.c124 x2)]) ap122 R R (sT_row 0 I_dump_line.vv el122 R R) h19 fun ob8 cap8=>Aa R R (Aj R)<|Ac<|Bb tbk [] R R<|Ap _ (ob8,cap8) hm (Bv [2] R ⟨R,R,R,congrArg some (k_next h16 h15),trivial⟩)
 refine Af tbk [] R R<|Ae<|Ah<|Aa R R (Ak R)<|Aa R R (C3 I_dump_line.vv R Tryz.underlying122)<|Aa R R (Ak R)<|Ac<|Cp hm (fun s32 (_:Unit)=>[(10,.str s32)]) (fun _ (_:Unit)=>[]) (fun o3 hm=>?_) fun s32 _ hm=> ?_
 ·refine B3 (fun zn (zs:ByteArray × Int)=>dump_Show.l3 l82 zn zs.1 zs.2) (fun zs (_:Unit)=>[(10,.str zs.1),(41,Z126 ob7 l82 cap7),(42,Iw (l82.length : Int)),(43,Iw zs.2)]) (fun _ (_:Unit)=>[Q126 ob7 cap7 l82]) ((⟨#[]⟩ : ByteArray),(0 : Int)) () (fun _=>R) hm (Ag [0] R R) fun n3=>Pq fun s2 v2 _ hm=> ?_
  rw [dump_Show.l3] at hm
  refine Af tbk [] R R<|Ae<|Am hm R (fun h22 hm=>?_) fun h22 hm=> ?_
  ·refine Ai<|Ae<|A1<|Ah<|Bd hm fun x3 h23 hm=>Dr 0 R (gl_pos I_dump_line.vv h23) fun b5 h24=> ?_
   subst h24
   exact Aa R R (Dc I_dump_line.vv R R el122 h23)<|Aa R R (Cc (i:=0) (y:=I_dump_line.vv x3) R R R (gl_map _ (gl_some h23).2) ld126 R)<|Aa R R (Aj R)<|Ac<|Be<|Ab tbk [] 2 R R<|Bd hm fun r2 h25 hm=>Ad R R<|VO.inv R R (I_dump_line.m_text_ok x3 r2 h25)<|Bd hm fun v3 h26 hm=>Aa R R (A8 R R h26)<|Bd hm fun v4 h27 hm=>Aa R R (A8 R R h27)<|Aa R R (Aj R)<|Ac<|Bb tbk [] R R<|Ap (v4,(IntKind.i64.wrap (v2 + (1 : Int)))) () hm (Ag [0] R R)
  exact Ba<|As () hm (Ag [] R R)
 exact Af tbk [] R R<|Rt1 hm R [] R R R

/-! trireme/lex.blank -/
def lex_blank (c : Int) : Option Bool :=
 some ((((c == 32) || (c == 9)) || (c == 10)) || (c == 13))
theorem K114 (c : Int) : VS Tryz.prog 184 (lex_blank c) [.int .i32 c] [] .bool N0 := by
 refine A6 [.tmp 2] Tryz.func184 R R R fun r hm=>?_
 unfold lex_blank at hm
 exact Af tbk [] R R<|Ah<|Ab tbk [] 3 R R<|Cy tbk [] 3 8 5 R R R R R<|Aa R R (Ak R)<|Cy tbk [] 3 12 9 R R R R R<|Aa R R (Ak R)<|Cy tbk [] 3 16 13 R R R R R<|Aa R R (Aj R)<|Ac<|Rt1 hm R [] R R R

/-! (*trireme/lex.scanner).pass -/
def lex_scanner_pass.l1 (n : Int) : Nat → T_lex_scanner → Int → Option T_lex_scanner
 | 0, _, _ => none
 | n2 + 1, x3, i2 =>
  if (decide (i2 < (i64.wrap (x3.at_ + n)))) = true then
   (V.gi x3.s i2).bind fun v =>
   if (v == 10) = true then
    lex_scanner_pass.l1 n n2 (⟨x3.s, x3.at_, (i64.wrap (x3.line + 1)), (i64.wrap (i2 + 1))⟩ : T_lex_scanner) (i64.wrap (i2 + 1))
   else
    lex_scanner_pass.l1 n n2 x3 (i64.wrap (i2 + 1))
  else
   some x3
def lex_scanner_pass (x : T_lex_scanner) (n : Int) : Option T_lex_scanner :=
 (lex_scanner_pass.l1 n FU x x.at_).bind fun x42 =>
 some (⟨x42.s, (i64.wrap (x42.at_ + n)), x42.line, x42.from_⟩ : T_lex_scanner)
theorem K115 (x : T_lex_scanner) (n : Int) (b : Nat) : VS Tryz.prog 185 (lex_scanner_pass x n) [.ptr b 0, Iw n] [X202 b x] (fun r=>.tup []) (fun r=>[X202 b r]) := by
 refine A6 [] Tryz.func185 R R R fun r hm=>?_
 unfold lex_scanner_pass at hm
 refine Ae<|Af tbk [0] R R<|Cp hm (fun _ (_:Unit)=>[(0,.ptr b 0),(1,Iw n)]) (fun x42 (_:Unit)=>[X202 b x42]) (fun o hm=>?_) fun x42 _ hm=> ?_
 ·refine B3 (fun zn (zs:T_lex_scanner × Int)=>lex_scanner_pass.l1 n zn zs.1 zs.2) (fun zs (_:Unit)=>[(0,.ptr b 0),(1,Iw n),(4,Iw zs.2)]) (fun zs (_:Unit)=>[X202 b zs.1]) (x,x.at_) () (fun _=>R) hm (Ag [0] R R) fun n2=>Pq fun x3 i2 _ hm=> ?_
  rw [lex_scanner_pass.l1] at hm
  exact Ae<|Af tbk [0] R R<|Am hm R (fun h3 hm=>Ai<|Ae<|A1<|Ah<|Ab tbk [0] 5 R R<|Bd hm fun v h4 hm=>Aa R R (Cr R R Av h4)<|Aa R R (Bc R R R)<|Ac<|Am hm R (fun h5 hm=>Ah<|Ab tbk [0] 7 R R<|Ad R R<|Ao (i:=0) R R R ld3 R R R<|Ac<|Be<|Ab tbk [] 5 R R<|Ad R R<|Ao (i:=0) R R R ld3 R R R<|Ac<|Bb tbk [] R R<|Ap ((⟨x3.s,x3.at_,(IntKind.i64.wrap (x3.line + (1 : Int))),(IntKind.i64.wrap (i2 + (1 : Int)))⟩ : T_lex_scanner),(IntKind.i64.wrap (i2 + (1 : Int)))) () hm (Ag [0] R R)) fun h5 hm=>Ai<|Bb tbk [] R R<|Ap (x3,(IntKind.i64.wrap (i2 + (1 : Int)))) () hm (Ag [0] R R)) fun h3 hm=>Ba<|As () hm (Ag [0] R R)
 exact Be<|Ab tbk [0] 8 R R<|Ad R R<|Ao (i:=0) R R R ld3 R R R<|Ac<|Rn0 hm R [0] (.nil) R R

/-! (*trireme/lex.scanner).remark$1 -/
def lex_scanner_remark_1 (c : Int) : Option Bool :=
 some (c != 10)
theorem K116 (c : Int) : VS Tryz.prog 194 (lex_scanner_remark_1 c) [.int .i32 c] [] .bool N0 := by
 refine A6 [.tmp 2] Tryz.func194 R R R fun r hm=>?_
 unfold lex_scanner_remark_1 at hm
 exact Af tbk [] R R<|Af tbk [] R R<|Rt1 hm R [] R R R

/-! trireme/lex.head -/
def lex_head_lex_scanner_remark_1.l1 (s : ByteArray) : Nat → Nat → Option (Out (Int × Bool) Unit)
 | 0, _ => none
 | n + 1, pos2 =>
  if pos2 < s.size then
   (lex_right s (pos2 : Int) ((Utf8.decode s pos2).1 : Int)).bind fun r =>
   if (!r) = true then
    some (Out.ret ((pos2 : Int), false))
   else
    (lex_scanner_remark_1 ((Utf8.decode s pos2).1 : Int)).bind fun r2 =>
    if (!r2) = true then
     some (Out.ret ((pos2 : Int), true))
    else
     lex_head_lex_scanner_remark_1.l1 s n (pos2 + (Utf8.decode s pos2).2)
  else
   some (Out.go ())
def lex_head_lex_scanner_remark_1 (s : ByteArray) : Option (Int × Bool) :=
 (lex_head_lex_scanner_remark_1.l1 s FU 0).bind fun o =>
 o.on fun j =>
 some ((s.size : Int), true)
theorem K117 (s : ByteArray) : VS Tryz.prog 110 (lex_head_lex_scanner_remark_1 s) [.str s, .clo (.func 194) [] []] [] (fun r=>.tup [Iw r.1, .bool r.2]) N0 := by
 refine A6 [.tmp 4,.tmp 5] Tryz.func110 R R R fun r hm=>?_
 unfold lex_head_lex_scanner_remark_1 at hm
 refine Af tbk [] R R<|Ae<|Ah<|Aa R R (Ak R)<|Ad R R<|D3 Av R fun b=>Ac<|B2 hm (fun _ (_:Unit)=>[(0,.str s)]) (fun _ (_:Unit)=>[]) (fun o hm h3=>?_) fun j _ hm=> ?_
 ·refine B3 (fun zn (zs:Nat)=>lex_head_lex_scanner_remark_1.l1 s zn zs) (fun _ (_:Unit)=>[(0,.str s),(1,.clo (.func 194) [] []),(9,.ptr b 0)]) (fun zs (_:Unit)=>[.iter b s zs]) _ () (fun _=>R) hm (Ag [0] R R) fun n pos2 _ hm=> ?_
  rw [lex_head_lex_scanner_remark_1.l1] at hm
  exact Ah<|Ad R R<|VO.nx hm 0 R R (fun h4 hm=>Aa R R (Db R R)<|Ac<|Ae<|Br R R<|Ai<|A1<|Af tbk [] R R<|Ae<|Ah<|Ab tbk [] 3 R R<|Ad R R<|A0 hm 0 R fn159 R (K65 _ _ _) fun r hm=>Aa R R (C1 R)<|Ac<|Am hm R (fun h6 hm=>Af tbk [] R R<|have hm:=Lr hm h3;Rt2 hm R [] R R R R) fun h6 hm=>Ai<|Ah<|Ab tbk [] 2 R R<|Ad R R<|A0 hm 0 R fn194 R (K116 _) fun r2 hm=>Aa R R (C1 R)<|Ac<|Am hm R (fun h8 hm=>Af tbk [] R R<|have hm:=Lr hm h3;Rt2 hm R [] R R R R) fun h8 hm=>Ai<|Ap _ () hm (Ag [0] R R)) fun h4 hm=>Aa R R (Db R R)<|Ac<|Ae<|Cb R R<|Ba<|Ar () hm (Ag [] R R)
 exact Ah<|Aa R R (Ak R)<|Aa R R (Ca R Av)<|Ab tbk [] 2 R R<|Ac<|Rt2 hm R [] R R R R

/-! (*trireme/lex.scanner).remark -/
def lex_scanner_remark (x : T_lex_scanner) : Option (T_lex_fault × T_lex_scanner) :=
 (V.ss x.s (some x.at_) none).bind fun v =>
 (lex_head_lex_scanner_remark_1 v).bind fun r =>
 if (!r.2) = true then
  some ((⟨2, (i64.wrap (x.at_ + r.1))⟩ : T_lex_fault), x)
 else
  (lex_scanner_pass x r.1).bind fun r2 =>
  some ((⟨0, 0⟩ : T_lex_fault), r2)
theorem K118 (x : T_lex_scanner) (b : Nat) : VS Tryz.prog 186 (lex_scanner_remark x) [.ptr b 0] [X202 b x] (fun r=>T_lex_fault.vv r.1) (fun r=>[X202 b r.2]) := by
 refine A6 [.cell 2 204] Tryz.func186 R R R fun r hm=>?_
 unfold lex_scanner_remark at hm
 refine Ah<|Ad R R<|Bg z204 fun b2=>Ac<|Ae<|A4 0 mixed<|An tbk [0,1,2,3,4,5,6,7] [1,1] (by kernel_rfl) R R R<|Bd hm fun v h2 hm=>Aq 8 R R R (by kernel_rfl) (C8 R R R Av h2)<|Al 9 (by kernel_rfl)<|Bd hm fun r h3 hm=>Au R R R<|Aw 0 R fn110 R (K117 v r h3) fun _ _ h6=> ?_
 obtain ⟨rfl,rfl⟩:=h6
 exact An tbk [10,11,12,13,14] [] (by kernel_rfl) R R R<|Ay (by kernel_rfl)<|Ae<|Af tbk [] R R<|Am hm R (fun h4 hm=>Ah<|Ab tbk [1] 6 R R<|Aa R R (A7 pl204 R R)<|Ad R R<|Ao (i:=0) R R R ld204 R R R<|Ac<|Rt0 hm R [1] (.cons (.cell _ _ _ _ 0 _ _ _ _ R R ld204 R) .nil) R R) fun h4 hm=>Ai<|Ah<|Ab tbk [] 2 R R<|A3 (Bf [1,0] R)<|Ad R R<|A0 hm 1 R fn185 R (K115 _ _ _) fun r2 hm=>Ac<|Ah<|Aa R R (A7 pl204 R R)<|Ad R R<|Ao (i:=1) R R R ld204 R R R<|Ac<|Rt0 hm R [0] (.cons (.cell _ _ _ _ 1 _ _ _ _ R R ld204 R) .nil) R R

/-! trireme/lex.masked -/
def lex_masked (c : Int) : Option (Int × Bool) :=
 if (c == 110) = true then
  some (10, true)
 else
  if (c == 34) = true then
   some (c, true)
  else
   if (c == 92) = true then
    some (c, true)
   else
    some (0, false)
theorem K119 (c : Int) : VS Tryz.prog 195 (lex_masked c) [.int .u8 c] [] (fun r=>.tup [.int .u8 r.1, .bool r.2]) N0 := by
 refine A6 [.tmp 2,.tmp 3] Tryz.func195 R R R fun r hm=>?_
 unfold lex_masked at hm
 exact Af tbk [] R R<|Ae<|Af tbk [] R R<|A1<|Af tbk [] R R<|Am hm R (fun h1 hm=>Af tbk [] R R<|Rt2 hm R [] R R R R) fun h1 hm=>Ae<|Af tbk [] R R<|Am hm R (fun h2 hm=>Ai<|Br R h2<|Af tbk [] R R<|Rt2 hm R [] R R R R) fun h2 hm=>Bb tbk [] R R<|Am hm R (fun h3 hm=>Af tbk [] R R<|Rt2 hm R [] R R R R) fun h3 hm=>Ai<|Af tbk [] R R<|Rt2 hm R [] R R R R

/-! (*trireme/lex.scanner).text -/
def lex_scanner_text.l1 (x : T_lex_scanner) (v : ByteArray) : Nat → (List Int) → Int → Nat → Option (Out (ByteArray × T_lex_fault × T_lex_scanner) Unit)
 | 0, _, _, _ => none
 | n + 1, b5, skip2, pos3 =>
  if pos3 < v.size then
   if ((pos3 : Int) == 0) = true then
    lex_scanner_text.l1 x v n b5 skip2 (pos3 + (Utf8.decode v pos3).2)
   else
    if (decide (skip2 > 0)) = true then
     lex_scanner_text.l1 x v n b5 (i64.wrap (skip2 - 1)) (pos3 + (Utf8.decode v pos3).2)
    else
     (lex_right v (pos3 : Int) ((Utf8.decode v pos3).1 : Int)).bind fun r =>
     if (((!r) || (((decide (((Utf8.decode v pos3).1 : Int) < 32)) && (((Utf8.decode v pos3).1 : Int) != 9)) && (((Utf8.decode v pos3).1 : Int) != 10))) || (((Utf8.decode v pos3).1 : Int) == 127)) = true then
      some (Out.ret ((⟨#[]⟩ : ByteArray), (⟨2, (i64.wrap (x.at_ + (pos3 : Int)))⟩ : T_lex_fault), x))
     else
      if (((Utf8.decode v pos3).1 : Int) == 34) = true then
       (lex_scanner_pass x (i64.wrap ((pos3 : Int) + 1))).bind fun r2 =>
       some (Out.ret ((strOfNums b5), (⟨0, 0⟩ : T_lex_fault), r2))
      else
       if (((Utf8.decode v pos3).1 : Int) == 92) = true then
        if ((i64.wrap ((pos3 : Int) + 1)) == (v.size : Int)) = true then
         some (Out.ret ((⟨#[]⟩ : ByteArray), (⟨2, (i64.wrap (x.at_ + (pos3 : Int)))⟩ : T_lex_fault), x))
        else
         (V.gi v (i64.wrap ((pos3 : Int) + 1))).bind fun v2 =>
         (lex_masked v2).bind fun r3 =>
         if (!r3.2) = true then
          some (Out.ret ((⟨#[]⟩ : ByteArray), (⟨2, (i64.wrap (x.at_ + (pos3 : Int)))⟩ : T_lex_fault), x))
         else
          (V.ap 1 b5 [r3.1]).bind fun b7 =>
          lex_scanner_text.l1 x v n b7 1 (pos3 + (Utf8.decode v pos3).2)
       else
        (V.ap 1 b5 (V.bytesL (Utf8.encode ((Utf8.decode v pos3).1 : Int)))).bind fun b8 =>
        lex_scanner_text.l1 x v n b8 skip2 (pos3 + (Utf8.decode v pos3).2)
  else
   some (Out.go ())
def lex_scanner_text (x : T_lex_scanner) : Option (ByteArray × T_lex_fault × T_lex_scanner) :=
 (V.ss x.s (some x.at_) none).bind fun v =>
 (lex_scanner_text.l1 x v FU ([] : List Int) 0 0).bind fun o =>
 o.on fun j =>
 some ((⟨#[]⟩ : ByteArray), (⟨3, x.at_⟩ : T_lex_fault), x)
theorem K120 (x : T_lex_scanner) (b : Nat) : VS Tryz.prog 187 (lex_scanner_text x) [.ptr b 0] [X202 b x] (fun r=>.tup [.str r.1, T_lex_fault.vv r.2.1]) (fun r=>[X202 b r.2.2]) := by
 refine A6 [.tmp 2,.cell 3 204] Tryz.func187 R R R fun r hm=>?_
 unfold lex_scanner_text at hm
 refine Ah<|Aa R R (Aj R)<|Ad R R<|Bg z204 fun b2=>Ac<|Af tbk [1] R R<|Ah<|Ab tbk [1] 5 R R<|Bd hm fun v h2 hm=>Aa R R (C8 R R R Av h2)<|Aa R R (Aj R)<|Ac<|Af tbk [] R R<|Af tbk [] R R<|Ae<|Ah<|Aa R R (Ak R)<|Ad R R<|D3 Av R fun b3=>Ac<|B2 hm (fun _ (_:Unit)=>[(3,.ptr b2 0),(4,Iw x.at_)]) (fun _ (_:Unit)=>[X204 b2 (⟨(0 : Int),(0 : Int)⟩ : T_lex_fault),X202 b x]) (fun o hm h7=>?_) fun j _ hm=> ?_
 ·refine B3 (fun zn (zs:List Int × Int × Nat)=>lex_scanner_text.l1 x v zn zs.1 zs.2.1 zs.2.2) (fun zs (zg:Option Nat × Nat)=>[(0,.ptr b 0),(3,.ptr b2 0),(4,Iw x.at_),(5,.str v),(6,Z5 zg.1 zs.1 zg.2),(7,Iw zs.2.1),(23,.ptr b3 0)]) (fun zs (zg:Option Nat × Nat)=>[Q5 zg.1 zg.2 zs.1,.iter b3 v zs.2.2,X204 b2 (⟨(0 : Int),(0 : Int)⟩ : T_lex_fault),X202 b x]) (([] : List Int),(0 : Int),0) (none,0) (fun _=>R) hm (Bk (A9 5) (Ag [0,1,2,3] R R)) fun n=>Pq fun b5=>Pq fun skip2 pos3=>Pq fun ob2 cap2 hm=> ?_
  rw [lex_scanner_text.l1] at hm
  refine Ah<|Ad R R<|VO.nx hm 1 R R (fun h8 hm=>?_) fun h8 hm=> ?_
  ·refine Aa R R (Db R R)<|Ac<|Ae<|Br R R<|Ai<|A1<|Af tbk [] R R<|A1<|Af tbk [] R R<|Am hm R (fun h9 hm=>Ai<|Ap (b5,skip2,(pos3 + (Utf8.decode v pos3).2)) (ob2,cap2) hm (Ag [0,1,2,3] R R)) fun h9 hm=>Af tbk [] R R<|Am hm R (fun h10 hm=>Bb tbk [] R R<|Ap (b5,(IntKind.i64.wrap (skip2 - (1 : Int))),(pos3 + (Utf8.decode v pos3).2)) (ob2,cap2) hm (Ag [0,1,2,3] R R)) fun h10 hm=>Ah<|Ab tbk [] 3 R R<|Ad R R<|A0 hm 0 R fn159 R (K65 _ _ _) fun r hm=>Ab tbk [] 2 R R<|C0 11 57 46 R (fun K' J=>Ab tbk [] 11 R R<|J 10 R R R) (fun h12 K' J=>Ab tbk [] 3 R R<|Ce tbk [] 3 52 49 R R R R R<|Bo R R R R R (Ak R)<|Ce tbk [] 3 56 53 R R R R R<|Aa R R (Bh false R R R)<|J 6 R R R)<|Aa R R (Ak R)<|Cy tbk [] 3 61 58 R R R R R<|Aa R R (Aj R)<|Ac<|Am hm R (fun h16 hm=>Ah<|Ab tbk [] 3 R R<|Aa R R (A7 pl204 R R)<|Aa R R (Aj R)<|Ad R R<|Ao (i:=2) R R R ld204 R R R<|Ac<|have hm:=Lr hm h7;Rt0 hm R [3] (.cons (.tmp _ _ R) (.cons (.cell _ _ _ _ 2 _ _ _ _ R R ld204 R) .nil)) R R) fun h16 hm=>Af tbk [] R R<|Am hm R (fun h17 hm=>Ah<|Ab tbk [] 3 R R<|A3 (Bf [3,0,1,2] R)<|Ad R R<|A0 hm 1 R fn185 R (K115 _ _ _) fun r2 hm=>Ac<|Ah<|Aa R R (Ak R)<|Aa R R (VP.convB (i:=1) (l:=b5) el160 Bq Av R R)<|Aa R R (A7 pl204 R R)<|Aa R R (Aj R)<|Ad R R<|Ao (i:=3) R R R ld204 R R R<|Ac<|have hm:=Lr hm h7;Rt0 hm R [0] (.cons (.tmp _ _ R) (.cons (.cell _ _ _ _ 3 _ _ _ _ R R ld204 R) .nil)) R R) fun h17 hm=>Af tbk [] R R<|Am hm R (fun h19 hm=>Ae<|Ah<|Ab tbk [] 3 R R<|Aa R R (Ca R Av)<|Aa R R (Bc R R R)<|Ac<|Am hm R (fun h20 hm=>Ah<|Ab tbk [] 3 R R<|Aa R R (A7 pl204 R R)<|Aa R R (Aj R)<|Ad R R<|Ao (i:=2) R R R ld204 R R R<|Ac<|have hm:=Lr hm h7;Rt0 hm R [3] (.cons (.tmp _ _ R) (.cons (.cell _ _ _ _ 2 _ _ _ _ R R ld204 R) .nil)) R R) fun h20 hm=>Ai<|Ah<|Ab tbk [] 3 R R<|Bd hm fun v2 h21 hm=>Aa R R (Cr R R Av h21)<|Ad R R<|A0 hm 0 R fn195 R (K119 _) fun r3 hm=>Ab tbk [] 5 R R<|Ac<|Ae<|Af tbk [] R R<|Am hm R (fun h23 hm=>Ah<|Ab tbk [] 3 R R<|Aa R R (A7 pl204 R R)<|Aa R R (Aj R)<|Ad R R<|Ao (i:=2) R R R ld204 R R R<|Ac<|have hm:=Lr hm h7;Rt0 hm R [3] (.cons (.tmp _ _ R) (.cons (.cell _ _ _ _ 2 _ _ _ _ R R ld204 R) .nil)) R R) fun h23 hm=>Ai<|Ah<|Ab tbk [] 2 R R<|Ad R R<|Ax ap160 R R R R R fun b6=>Bd hm fun b7 h25 hm=>Ad R R<|Bu 1 (VV.int .u8) (l:=b5) (l2:=[r3.1]) ap160 R R (sT_row 0 (VV.int .u8) el160 R R) h25 fun ob3 cap3=>Aa R R (Aj R)<|Ac<|Bb tbk [] R R<|Ap (b7,(1 : Int),(pos3 + (Utf8.decode v pos3).2)) (ob3,cap3) hm (Ag [1,2,3,4] R R)) fun h19 hm=>Be<|?_
   exact Ab tbk [] 2 R R<|Aa R R (VP.convRune Tryz.underlying21 Av R)<|Bd hm fun b8 h26 hm=>Ad R R<|VO.apS 0 (l:=b5) ap160 u8z5 Av R R R h26 fun ob4 cap4=>Aa R R (Aj R)<|Ac<|Ap (b8,skip2,(pos3 + (Utf8.decode v pos3).2)) (ob4,cap4) hm (Ag [0,1,2,3] R R)
  exact Aa R R (Db R R)<|Ac<|Ae<|Cb R R<|Ba<|Ar () hm (Ag [2,3] R R)
 exact Ah<|Aa R R (Ak R)<|Aa R R (A7 pl204 R R)<|Aa R R (Aj R)<|Ad R R<|Ao (i:=0) R R R ld204 R R R<|Ac<|Rt0 hm R [1] (.cons (.tmp _ _ R) (.cons (.cell _ _ _ _ 0 _ _ _ _ R R ld204 R) .nil)) R R

/-! (*trireme/lex.scanner).word -/
def lex_scanner_word (x : T_lex_scanner) : Option (ByteArray × T_lex_fault × T_lex_scanner) :=
 (V.ss x.s (some x.at_) none).bind fun v =>
 (lex_head_lex_plain v).bind fun r =>
 if (r.1 == 0) = true then
  some ((⟨#[]⟩ : ByteArray), (⟨2, x.at_⟩ : T_lex_fault), x)
 else
  (V.ss v none (some r.1)).bind fun v2 =>
  (lex_Runes v2).bind fun r2 =>
  if (decide (r2 > 64)) = true then
   some ((⟨#[]⟩ : ByteArray), (⟨4, x.at_⟩ : T_lex_fault), x)
  else
   (lex_scanner_pass x r.1).bind fun r3 =>
   (V.ss v none (some r.1)).bind fun v3 =>
   some (v3, (⟨0, 0⟩ : T_lex_fault), r3)
theorem K121 (x : T_lex_scanner) (b : Nat) : VS Tryz.prog 188 (lex_scanner_word x) [.ptr b 0] [X202 b x] (fun r=>.tup [.str r.1, T_lex_fault.vv r.2.1]) (fun r=>[X202 b r.2.2]) := by
 refine A6 [.tmp 2,.cell 3 204] Tryz.func188 R R R fun r hm=>?_
 unfold lex_scanner_word at hm
 exact Ah<|Aa R R (Aj R)<|Ad R R<|Bg z204 fun b2=>Ac<|Ae<|A4 0 mixed<|An tbk [0,1,2,3,4,5,6,7] [1,1] (by kernel_rfl) R R R<|Bd hm fun v h2 hm=>Aq 8 R R R (by kernel_rfl) (C8 R R R Av h2)<|Aq 9 R R R (by kernel_rfl) (Aj R)<|Ay (by kernel_rfl)<|Ah<|Aa R R (Ak R)<|Ad R R<|A0 hm 0 R fn110 R (K67 _) fun r hm=>Ab tbk [] 5 R R<|Ac<|Ae<|A1<|Af tbk [] R R<|Am hm R (fun h4 hm=>Ae<|A4 1 mixed<|An tbk [0,1,2,3] [0] (by kernel_rfl) R R R<|Aq 4 R R R (by kernel_rfl) (A7 pl204 R R)<|Aq 5 R R R (by kernel_rfl) (Aj R)<|Al 6 (by kernel_rfl)<|Au R R R<|Ao (i:=0) R R R ld204 R R R<|Ay (by kernel_rfl)<|Rt0 hm R [1] (.cons (.tmp _ _ R) (.cons (.cell _ _ _ _ 0 _ _ _ _ R R ld204 R) .nil)) R R) fun h4 hm=>Ah<|Ab tbk [] 2 R R<|Bd hm fun v2 h5 hm=>Aa R R (C8 R R R Av h5)<|Ad R R<|A0 hm 0 R fn112 R (K68 _) fun r2 hm=>Ab tbk [] 2 R R<|Ac<|Am hm R (fun h7 hm=>Ae<|A4 1 mixed<|An tbk [0,1,2,3] [0] (by kernel_rfl) R R R<|Aq 4 R R R (by kernel_rfl) (A7 pl204 R R)<|Aq 5 R R R (by kernel_rfl) (Aj R)<|Al 6 (by kernel_rfl)<|Au R R R<|Ao (i:=0) R R R ld204 R R R<|Ay (by kernel_rfl)<|Rt0 hm R [1] (.cons (.tmp _ _ R) (.cons (.cell _ _ _ _ 0 _ _ _ _ R R ld204 R) .nil)) R R) fun h7 hm=>Ai<|Ah<|Ab tbk [] 2 R R<|A3 (Bf [1,0] R)<|Ad R R<|A0 hm 1 R fn185 R (K115 _ _ _) fun r3 hm=>Ac<|Ah<|Ab tbk [] 2 R R<|Bd hm fun v3 h9 hm=>Aa R R (C8 R R R Av h9)<|Aa R R (A7 pl204 R R)<|Aa R R (Aj R)<|Ad R R<|Ao (i:=1) R R R ld204 R R R<|Ac<|Rt0 hm R [0] (.cons (.tmp _ _ R) (.cons (.cell _ _ _ _ 1 _ _ _ _ R R ld204 R) .nil)) R R

/-! (*trireme/lex.scanner).token -/
def lex_scanner_token.l1 : Nat → T_lex_scanner → Option (Out (T_api_Token × Bool × T_lex_fault × T_lex_scanner) T_lex_scanner)
 | 0, _ => none
 | n + 1, x3 =>
  if (decide (x3.at_ < (x3.s.size : Int))) = true then
   (V.gi x3.s x3.at_).bind fun v =>
   ((V.ss x3.s (some x3.from_) (some x3.at_)).bind fun v2 =>
   (lex_Runes v2).bind fun r =>
   some (⟨0, (⟨#[]⟩ : ByteArray), x3.at_, x3.line, (i64.wrap (1 + r))⟩ : T_api_Token)).bind fun t2 =>
   ((lex_blank (IntKind.i32.wrap v)).bind fun r3 =>
   if r3 = true then
    (lex_scanner_pass x3 (1 : Int)).bind fun r4 =>
    (lex_scanner_token.l1 n r4).bind fun q => some (Out.ret q)
   else
    if (v == 59) = true then
     (lex_scanner_remark x3).bind fun r5 =>
     if (r5.1.e != 0) = true then
      some (Out.ret (Out.ret ((⟨0, (⟨#[]⟩ : ByteArray), 0, 0, 0⟩ : T_api_Token), false, r5.1, r5.2)))
     else
      (lex_scanner_token.l1 n r5.2).bind fun q => some (Out.ret q)
    else
     if (v == 40) = true then
      (lex_scanner_pass x3 (1 : Int)).bind fun r6 =>
      some (Out.go ((⟨1, (⟨#[40]⟩ : ByteArray), t2.At, t2.Line, t2.Col⟩ : T_api_Token), (⟨0, 0⟩ : T_lex_fault), r6))
     else
      if (v == 41) = true then
       (lex_scanner_pass x3 (1 : Int)).bind fun r7 =>
       some (Out.go ((⟨2, (⟨#[41]⟩ : ByteArray), t2.At, t2.Line, t2.Col⟩ : T_api_Token), (⟨0, 0⟩ : T_lex_fault), r7))
      else
       if (v == 34) = true then
        (lex_scanner_text x3).bind fun r8 =>
        some (Out.go ((⟨4, r8.1, t2.At, t2.Line, t2.Col⟩ : T_api_Token), r8.2.1, r8.2.2))
       else
        (lex_scanner_word x3).bind fun r9 =>
        some (Out.go ((⟨3, r9.1, t2.At, t2.Line, t2.Col⟩ : T_api_Token), r9.2.1, r9.2.2))).bind fun o3 =>
   o3.on fun j =>
   some (Out.ret (j.1, (j.2.1.e == 0), j.2.1, j.2.2))
  else
   some (Out.go x3)
def lex_scanner_token (x : T_lex_scanner) : Option (T_api_Token × Bool × T_lex_fault × T_lex_scanner) :=
 (lex_scanner_token.l1 FU x).bind fun o =>
 o.on fun x42 =>
 some ((⟨0, (⟨#[]⟩ : ByteArray), 0, 0, 0⟩ : T_api_Token), false, (⟨0, 0⟩ : T_lex_fault), x42)
theorem K122 (x : T_lex_scanner) (b : Nat) : VS Tryz.prog 172 (lex_scanner_token x) [.ptr b 0] [X202 b x] (fun r=>.tup [T_api_Token.vv r.1, .bool r.2.1, T_lex_fault.vv r.2.2.1]) (fun r=>[X202 b r.2.2.2]) := by
 refine A6 [.cell 2 174,.tmp 3,.cell 4 204] Tryz.func172 R R R fun r hm=>?_
 unfold lex_scanner_token at hm
 refine Ah<|Ad R R<|Bg z174 fun b2=>Aa R R (Aj R)<|Ad R R<|Bg z204 fun b3=>Ac<|VW.jo hm (fun _ (_:Unit)=>[(2,.ptr b2 0),(4,.ptr b3 0)]) (fun x42 (_:Unit)=>[X204 b3 (⟨(0 : Int),(0 : Int)⟩ : T_lex_fault),X174 b2 (⟨(0 : Int),(⟨#[]⟩ : ByteArray),(0 : Int),(0 : Int),(0 : Int)⟩ : T_api_Token),X202 b x42]) (fun o hm h4=>?_) fun x42 _ hm=> ?_
 ·refine B3 (fun zn (zs:T_lex_scanner)=>lex_scanner_token.l1 zn zs) (fun _ (_:Unit)=>[(0,.ptr b 0),(2,.ptr b2 0),(4,.ptr b3 0)]) (fun zs (_:Unit)=>[X204 b3 (⟨(0 : Int),(0 : Int)⟩ : T_lex_fault),X174 b2 (⟨(0 : Int),(⟨#[]⟩ : ByteArray),(0 : Int),(0 : Int),(0 : Int)⟩ : T_api_Token),X202 b zs]) _ () (fun _=>R) hm (Ag [0,1,2] R R) fun n x3 _ hm=> ?_
  rw [lex_scanner_token.l1] at hm
  refine Ae<|Ae<|A4 0 mixed<|An tbk [0,1,2,3,4,5,6,7] [2,2] (by kernel_rfl) R R R<|Aq 8 R R R (by kernel_rfl) (Ca R Av)<|Aq 9 R R R (by kernel_rfl) (Bc R R R)<|Ay (by kernel_rfl)<|Am hm R (fun h5 hm=>?_) fun h5 hm=> ?_
  ·refine Ai<|A1<|Ae<|A4 0 mixed<|An tbk [0,1,2,3,4,5,6,7] [2,2] (by kernel_rfl) R R R<|Bd hm fun v h6 hm=>Aq 8 R R R (by kernel_rfl) (Cr R R Av h6)<|Aq 9 R R R (by kernel_rfl) (Aj R)<|Ay (by kernel_rfl)<|Cj hm (fun _ (gg:Nat)=>[(0,.ptr b 0),(2,.ptr b2 0),(4,.ptr b3 0),(5,.int .u8 v),(6,.ptr gg 0)]) (fun t2 (gg:Nat)=>[X174 gg t2,X204 b3 (⟨(0 : Int),(0 : Int)⟩ : T_lex_fault),X174 b2 (⟨(0 : Int),(⟨#[]⟩ : ByteArray),(0 : Int),(0 : Int),(0 : Int)⟩ : T_api_Token),X202 b x3]) (fun o2 hm=>?_) fun t2 b4 hm=> ?_
   ·refine A4 0 mixed<|An tbk [0,1,2,3,4,5,6,7,8,9,10,11,12,13,14,15,16,17,18,19] [2,2,2,2,2] (by kernel_rfl) R R R<|Bd hm fun v2 h10 hm=>Aq 20 R R R (by kernel_rfl) (C8 R R R Av h10)<|?_
    refine B6 [21,24] (by kernel_rfl) ⟨?_,?_,trivial⟩
    ·refine Bd hm fun r h11 hm=>Au R R R<|Aw 0 R fn112 R (K68 v2 r h11) fun _ _ h13=> ?_
     obtain ⟨rfl,rfl⟩:=h13
     exact Aq 22 R R R (by kernel_rfl) (Bc R R R)<|Aq 23 R R R (by kernel_rfl) (A7 pl174 R R)<|Al 24 (by kernel_rfl)<|Au R R R<|Bg z174 fun b5=>Al 25 (by kernel_rfl)<|Au R R R<|Ao (i:=0) R R R ld174 R R R<|Ay (by kernel_rfl)<|As _ hm (Ag [0,1,2,3] R R)
    ·refine Au R R R<|Bg z174 fun b6=>Al 21 (by kernel_rfl)<|Bd hm fun r2 h15 hm=>Au R R R<|Aw 0 R fn112 R (K68 v2 r2 h15) fun _ _ h16=> ?_
     obtain ⟨rfl,rfl⟩:=h16
     exact Aq 22 R R R (by kernel_rfl) (Bc R R R)<|Aq 23 R R R (by kernel_rfl) (A7 pl174 R R)<|Al 25 (by kernel_rfl)<|Au R R R<|Ao (i:=0) R R R ld174 R R R<|Ay (by kernel_rfl)<|As _ hm (Ag [0,1,2,3] R R)
   refine Ah<|Ad R R<|Bg z204 fun b7=>Ac<|VW.jo hm (fun _ (_:Unit)=>[(2,.ptr b2 0),(4,.ptr b3 0),(6,.ptr b4 0),(7,.ptr b7 0)]) (fun j (_:Unit)=>[X202 b j.2.2,X204 b7 j.2.1,X174 b4 j.1,X204 b3 (⟨(0 : Int),(0 : Int)⟩ : T_lex_fault),X174 b2 (⟨(0 : Int),(⟨#[]⟩ : ByteArray),(0 : Int),(0 : Int),(0 : Int)⟩ : T_api_Token)]) (fun o3 hm h19=>?_) fun j _ hm=> ?_
   ·refine A1<|Ah<|Aa R R (Ak R)<|Aa R R (Cf Bq Tryz.underlying21 R)<|Ad R R<|A0 hm 0 R fn184 R (K114 _) fun r3 hm=>Aa R R (Aj R)<|Ac<|Am hm R (fun h21 hm=>Ah<|Aa R R (Ak R)<|A3 (Bf [4,0,1,2,3] R)<|Ad R R<|A0 hm 1 R fn185 R (K115 _ _ _) fun r4 hm=>Ac<|Ba<|have hm:=Lr2 hm h19;Ap _ () hm (Ag [3,4,0] R R)) fun h21 hm=>Af tbk [] R R<|Am hm R (fun h24 hm=>Ae<|Ah<|Aa R R (Ak R)<|A3 (Bf [4,0,1,2,3] R)<|Ad R R<|A0 hm 1 R fn186 R (K118 _ _) fun r5 hm=>Ad R R<|Ao (i:=1) R R R ld204 R R R<|Ac<|Af tbk [1] R R<|Am hm R (fun h26 hm=>Ae<|Bi (Bf [3,4,0,1,2] R)<|A4 2 mixed<|Aq 0 R R R (by kernel_rfl) (A7 pl174 R R)<|An tbk [1] [1] (by kernel_rfl) R R R<|Al 2 (by kernel_rfl)<|Au R R R<|Ao (i:=1) R R R ld174 R R R<|Aq 3 R R R (by kernel_rfl) (Aj R)<|Al 4 (by kernel_rfl)<|Au R R R<|Ao (i:=0) R R R ld204 R R R<|Ay (by kernel_rfl)<|have hm:=Lr hm h19;have hm:=Lr hm h4;Rt0 hm R [2] (.cons (.cell _ _ _ _ 1 _ _ _ _ R R ld174 R) (.cons (.tmp _ _ R) (.cons (.cell _ _ _ _ 0 _ _ _ _ R R ld204 R) .nil))) R R) fun h26 hm=>Ai<|Ba<|have hm:=Lr2 hm h19;Ap _ () hm (Ag [3,4,0] R R)) fun h24 hm=>Af tbk [] R R<|Am hm R (fun h28 hm=>Ah<|Aa R R (Cx R fa174_0)<|Ad R R<|Ao (i:=1) R R R ld3 R R R<|Aa R R (Cx R fa174_1)<|Ad R R<|Ao (i:=1) R R R ld9 R R R<|Ac<|Be<|Aa R R (Ak R)<|A3 (Bf [4,0,1,2,3] R)<|Ad R R<|A0 hm 1 R fn185 R (K115 _ _ _) fun r6 hm=>Ac<|Ar () hm (Ag [0,1,2,3,4] R R)) fun h28 hm=>Af tbk [] R R<|Am hm R (fun h30 hm=>Ah<|Aa R R (Cx R fa174_0)<|Ad R R<|Ao (i:=1) R R R ld3 R R R<|Aa R R (Cx R fa174_1)<|Ad R R<|Ao (i:=1) R R R ld9 R R R<|Ac<|Be<|Aa R R (Ak R)<|A3 (Bf [4,0,1,2,3] R)<|Ad R R<|A0 hm 1 R fn185 R (K115 _ _ _) fun r7 hm=>Ac<|Ar () hm (Ag [0,1,2,3,4] R R)) fun h30 hm=>Af tbk [] R R<|Am hm R (fun h32 hm=>Ah<|Aa R R (Cx R fa174_0)<|Ad R R<|Ao (i:=1) R R R ld3 R R R<|Ac<|Be<|Aa R R (Ak R)<|A3 (Bf [4,0,1,2,3] R)<|Ad R R<|A0 hm 1 R fn187 R (K120 _ _) fun r8 hm=>Ab tbk [] 4 R R<|Ad R R<|Ao (i:=2) R R R ld9 R R R<|Ad R R<|Ao (i:=1) R R R ld204 R R R<|Ac<|Ar () hm (Ag [0,1,2,3,4] R R)) fun h32 hm=>Ah<|?_
    exact Aa R R (Cx R fa174_0)<|Ad R R<|Ao (i:=1) R R R ld3 R R R<|Ac<|Be<|Aa R R (Ak R)<|A3 (Bf [4,0,1,2,3] R)<|Ad R R<|A0 hm 1 R fn188 R (K121 _ _) fun r9 hm=>Ab tbk [] 4 R R<|Ad R R<|Ao (i:=2) R R R ld9 R R R<|Ad R R<|Ao (i:=1) R R R ld204 R R R<|Ac<|Ar () hm (Ag [0,1,2,3,4] R R)
   exact Ae<|Bi (Bf [3,4,0,1,2] R)<|A4 2 mixed<|An tbk [0,1,2,3,4] [2,1,1] (by kernel_rfl) R R R<|Al 5 (by kernel_rfl)<|Au R R R<|Ao (i:=1) R R R ld174 R R R<|Aq 6 R R R (by kernel_rfl) (Aj R)<|Al 7 (by kernel_rfl)<|Au R R R<|Ao (i:=0) R R R ld204 R R R<|Ay (by kernel_rfl)<|have hm:=Lr hm h4;Rt0 hm R [2] (.cons (.cell _ _ _ _ 1 _ _ _ _ R R ld174 R) (.cons (.tmp _ _ R) (.cons (.cell _ _ _ _ 0 _ _ _ _ R R ld204 R) .nil))) R R
  exact Ba<|Ar () hm (Ag [0,1,2] R R)
 exact Ah<|Aa R R (A7 pl174 R R)<|Aa R R (A7 pl204 R R)<|Ad R R<|Ao (i:=1) R R R ld174 R R R<|Aa R R (Aj R)<|Ad R R<|Ao (i:=0) R R R ld204 R R R<|Ac<|Rt0 hm R [2] (.cons (.cell _ _ _ _ 1 _ _ _ _ R R ld174 R) (.cons (.tmp _ _ R) (.cons (.cell _ _ _ _ 0 _ _ _ _ R R ld204 R) .nil))) R R

/-! trireme/lex.Scan -/
def lex_Scan.l1 : Nat → T_lex_scanner → (List T_api_Token) → Option (List T_api_Token × Int × Int)
 | 0, _, _ => none
 | n + 1, x2, l2 =>
  (lex_scanner_token x2).bind fun r =>
  if (r.2.2.1.e != 0) = true then
   some (([] : List T_api_Token), r.2.2.1.e, r.2.2.1.at_)
  else
   if (!r.2.1) = true then
    some (l2, 0, 0)
   else
    (V.ap 48 l2 [r.1]).bind fun l4 =>
    lex_Scan.l1 n r.2.2.2 l4
def lex_Scan (s : ByteArray) : Option (List T_api_Token × Int × Int) :=
 if (decide ((s.size : Int) > 65536)) = true then
  some (([] : List T_api_Token), 7, 65536)
 else
  lex_Scan.l1 FU (⟨s, 0, 1, 0⟩ : T_lex_scanner) ([] : List T_api_Token)
theorem K123 (s : ByteArray) : VS2 Tryz.prog 147 (lex_Scan s) [.str s] [] (fun r ob0 cap0=>.tup [Z174 ob0 r.1 cap0, Iw r.2.1, Iw r.2.2]) (fun r ob0 cap0=>[Q174 ob0 cap0 r.1]) := by
 refine Dn [.tmp 2,.tmp 3,.tmp 4] Tryz.func147 R R R fun r hm=>?_
 unfold lex_Scan at hm
 refine Af tbk [] R R<|Ae<|Ah<|Aa R R (Ak R)<|Aa R R (Ca R Av)<|Aa R R (Bc R R R)<|Ac<|Am hm R (fun h1 hm=>Af tbk [] R R<|Bi (A9 174)<|Rg2 hm R [0] none 0 (.cons (.tmp _ _ R) (.cons (.tmp _ _ R) (.cons (.tmp _ _ R) .nil))) R R) fun h1 hm=>Ai<|Ah<|Aa R R (Ak R)<|Aa R R (A7 pl202 R R)<|Ad R R<|Cd R R fun b=>Aa R R (Aj R)<|Ac<|Af tbk [] R R<|B3 (fun zn (zs:T_lex_scanner × List T_api_Token)=>lex_Scan.l1 zn zs.1 zs.2) (fun zs (zg:Option Nat × Nat)=>[(5,.ptr b 0),(6,Z174 zg.1 zs.2 zg.2)]) (fun zs (zg:Option Nat × Nat)=>[Q174 zg.1 zg.2 zs.2,X202 b zs.1]) ((⟨s,(0 : Int),(1 : Int),(0 : Int)⟩ : T_lex_scanner),([] : List T_api_Token)) (none,0) (fun _=>R) hm (Bk (A9 174) (Ag [0,1] R R)) fun n=>Pq fun x2 l2=>Pq fun ob2 cap2 hm=> ?_
 rw [lex_Scan.l1] at hm
 exact A1<|Ah<|Aa R R (Ak R)<|A3 (Bf [1,0] R)<|Ad R R<|A0 hm 1 R fn172 R (K122 _ _) fun r hm=>Ab tbk [] 4 R R<|Ad R R<|Bg z174 fun b2=>Ad R R<|Bg z204 fun b3=>Ad R R<|Ao (i:=1) R R R ld174 R R R<|Aa R R (Aj R)<|Ad R R<|Ao (i:=0) R R R ld204 R R R<|Ac<|Ae<|A1<|Af tbk [0] R R<|Am hm R (fun h9 hm=>Ae<|A4 0 mixed<|An tbk [0,1,2,3,4,5,6] [0,0] (by kernel_rfl) R R R<|Ay (by kernel_rfl)<|Bi (A9 174)<|Rg2 hm R [0] none 0 (.cons (.tmp _ _ R) (.cons (.tmp _ _ R) (.cons (.tmp _ _ R) .nil))) R R) fun h9 hm=>Af tbk [] R R<|Am hm R (fun h11 hm=>Af tbk [] R R<|Rg2 hm R [3] ob2 cap2 (.cons (.tmp _ _ R) (.cons (.tmp _ _ R) (.cons (.tmp _ _ R) .nil))) R R) fun h11 hm=>Ai<|Be<|Ab tbk [1] 2 R R<|Ad R R<|Ax ap170 R R R R R fun b4=>Bd hm fun l4 h13 hm=>Ad R R<|Bu 4 T_api_Token.vv (l:=l2) (l2:=[r.1]) ap170 R R (sT_row 0 T_api_Token.vv el170 R R) h13 fun ob3 cap3=>Aa R R (Aj R)<|Ac<|Ap (r.2.2.2,l4) (ob3,cap3) hm (Ag [4,3] R R)

/-! trireme/tree.Parse -/
def tree_Parse.l1 (r : List T_api_Token × Int × Int) : Nat → (List T_api_Node) → (List Int) → Int → Option (Out (List T_api_Node × Int × Int) (List T_api_Node × List Int))
 | 0, _, _, _ => none
 | n + 1, l2, open_2, v2 =>
  if (decide (v2 < (r.1.length : Int))) = true then
   (V.gl r.1 v2).bind fun x =>
   if ((x.Kind == 2) && ((open_2.length : Int) == 0)) = true then
    some (Out.ret (([] : List T_api_Node), 6, x.At))
   else
    if (x.Kind == 2) = true then
     (V.sl open_2 none (some (i64.wrap ((open_2.length : Int) - 1)))).bind fun open_4 =>
     tree_Parse.l1 r n l2 open_4 (i64.wrap (v2 + 1))
    else
     if (((l2.length : Int) == 4000) || ((x.Kind == 1) && ((open_2.length : Int) == 20))) = true then
      some (Out.ret (([] : List T_api_Node), 7, x.At))
     else
      (if (decide ((open_2.length : Int) > 0)) = true then
       (V.gl open_2 (i64.wrap ((open_2.length : Int) - 1))).bind fun x2 =>
       (V.gl l2 x2).bind fun x3 =>
       (V.gl l2 x2).bind fun x4 =>
       some (List.set l2 (x2).toNat (⟨x4.Kind, x4.Text, (i64.wrap (x3.Kids + 1)), x4.At⟩ : T_api_Node))
      else
       some l2).bind fun l52 =>
      if (x.Kind == 1) = true then
       (V.ap 8 open_2 [(l52.length : Int)]).bind fun open_5 =>
       (V.ap 40 l52 [(⟨5, (⟨#[]⟩ : ByteArray), 0, x.At⟩ : T_api_Node)]).bind fun l6 =>
       tree_Parse.l1 r n l6 open_5 (i64.wrap (v2 + 1))
      else
       (V.ap 40 l52 [(⟨x.Kind, x.Text, 0, x.At⟩ : T_api_Node)]).bind fun l7 =>
       tree_Parse.l1 r n l7 open_2 (i64.wrap (v2 + 1))
  else
   some (Out.go (l2, open_2))
def tree_Parse (s : ByteArray) : Option (List T_api_Node × Int × Int) :=
 (lex_Scan s).bind fun r =>
 if (r.2.1 != 0) = true then
  some (([] : List T_api_Node), r.2.1, r.2.2)
 else
  (tree_Parse.l1 r FU ([] : List T_api_Node) ([] : List Int) (0 : Int)).bind fun o =>
  o.on fun j =>
  if (decide ((j.2.length : Int) > 0)) = true then
   (V.gl j.2 (i64.wrap ((j.2.length : Int) - 1))).bind fun x5 =>
   (V.gl j.1 x5).bind fun x6 =>
   some (([] : List T_api_Node), 5, x6.At)
  else
   some (j.1, 0, 0)
theorem K124 (s : ByteArray) : VS2 Tryz.prog 95 (tree_Parse s) [.str s] [] (fun r ob0 cap0=>.tup [Z100 ob0 r.1 cap0, Iw r.2.1, Iw r.2.2]) (fun r ob0 cap0=>[Q100 ob0 cap0 r.1]) := by
 refine Dn [.tmp 2,.tmp 3,.tmp 4] Tryz.func95 R R R fun r hm=>?_
 unfold tree_Parse at hm
 refine Af tbk [] R R<|Ah<|Aa R R (Ak R)<|Ad R R<|Dd hm 0 R fn147 R (K123 _) fun r ob cap hm=>Ab tbk [] 7 R R<|Ac<|Ae<|Af tbk [] R R<|Am hm R (fun h3 hm=>Af tbk [] R R<|Bi (A9 100)<|Rg2 hm R [0] none 0 (.cons (.tmp _ _ R) (.cons (.tmp _ _ R) (.cons (.tmp _ _ R) .nil))) R R) fun h3 hm=>Ai<|Af tbk [] R R<|Af tbk [] R R<|Ae<|Ah<|Aa R R (Ak R)<|Aa R R (C3 T_api_Token.vv R Tryz.underlying170)<|Aa R R (Ak R)<|Ac<|B2 hm (fun j (gg:Option Nat × Nat × Option Nat × Nat)=>[(8,Z100 gg.1 j.1 gg.2.1),(9,Z3 gg.2.2.1 j.2 gg.2.2.2)]) (fun j (gg:Option Nat × Nat × Option Nat × Nat)=>[Q100 gg.1 gg.2.1 j.1,Q3 gg.2.2.1 gg.2.2.2 j.2]) (fun o hm h10=>?_) fun j=>Pq fun ob6=>Pq fun cap6=>Pq fun ob7 cap7 hm=> ?_
 ·refine B3 (fun zn (zs:List T_api_Node × List Int × Int)=>tree_Parse.l1 r zn zs.1 zs.2.1 zs.2.2) (fun zs (zg:Option Nat × Nat × Option Nat × Nat)=>[(8,Z100 zg.1 zs.1 zg.2.1),(9,Z3 zg.2.2.1 zs.2.1 zg.2.2.2),(24,Z174 ob r.1 cap),(25,Iw (r.1.length : Int)),(26,Iw zs.2.2)]) (fun zs (zg:Option Nat × Nat × Option Nat × Nat)=>[Q100 zg.1 zg.2.1 zs.1,Q3 zg.2.2.1 zg.2.2.2 zs.2.1,Q174 ob cap r.1]) (([] : List T_api_Node),([] : List Int),(0 : Int)) (none,0,none,0) (fun _=>R) hm (Bk (A9 100) (Bk (A9 3) (Ag [1,0,2] R R))) fun n=>Pq fun l2=>Pq fun open_2 v2=>Pq fun ob4=>Pq fun cap4=>Pq fun ob5 cap5 hm=> ?_
  rw [tree_Parse.l1] at hm
  refine Af tbk [] R R<|Ae<|Am hm R (fun h11 hm=>?_) fun h11 hm=> ?_
  ·refine Ai<|Ae<|A1<|Ah<|Bd hm fun x h12 hm=>Dr 2 R (gl_pos T_api_Token.vv h12) fun b h13=> ?_
   subst h13
   refine Aa R R (Dc T_api_Token.vv R R el170 h12)<|Aa R R (Cc (i:=2) (y:=T_api_Token.vv x) R R R (gl_map _ (gl_some h12).2) ld174 R)<|Ad R R<|Bg z174 fun b2=>Ad R R<|Ao (i:=0) R R R ld174 R R R<|Ac<|Af tbk [0] R R<|Ae<|A1<|Ah<|Ab tbk [] 3 R R<|Df 4 39 35 R (fun h15 K' J=>Bo R R R R R (Ak R)<|Bo R R R R R (C3 (VV.int .i64) R Bn)<|Ab tbk [] 2 R R<|J 3 R R R) (fun K' J=>Ab tbk [] 4 R R<|J 3 R R R)<|Aa R R (Aj R)<|Ac<|Am hm R (fun h16 hm=>Ae<|A4 0 mixed<|An tbk [0,1,2,3,4] [0] (by kernel_rfl) R R R<|Ay (by kernel_rfl)<|have hm:=Lr hm h10;Bi (A9 100)<|Rg2 hm R [0] none 0 (.cons (.tmp _ _ R) (.cons (.tmp _ _ R) (.cons (.tmp _ _ R) .nil))) R R) fun h16 hm=>Af tbk [] R R<|Am hm R (fun h18 hm=>Ah<|Ab tbk [] 2 R R<|Aa R R (C3 (VV.int .i64) R Bn)<|Aa R R (Bc R R R)<|Bd hm fun open_4 h19 hm=>Ad R R<|VO.sliceRV 2 (f:=(VV.int .i64)) (l:=open_2) el27 R R R h19<|Aa R R (Aj R)<|Ac<|Ba<|Bb tbk [] R R<|Ap (l2,open_4,(IntKind.i64.wrap (v2 + (1 : Int)))) (ob4,cap4,ob5,cap5) hm (Ag [1,2,3] R R)) fun h18 hm=>Ah<|Aa R R (Ak R)<|Aa R R (C3 T_api_Node.vv R C7)<|Ab tbk [] 2 R R<|C0 8 62 54 R (fun K' J=>Ab tbk [] 8 R R<|J 7 R R R) (fun h20 K' J=>Ab tbk [] 3 R R<|Df 4 61 57 R (fun h21 K' J=>Bo R R R R R (Ak R)<|Bo R R R R R (C3 (VV.int .i64) R Bn)<|Ab tbk [] 2 R R<|J 3 R R R) (fun K' J=>Ab tbk [] 4 R R<|J 3 R R R)<|Aa R R (Bh false R R R)<|J 4 R R R)<|Aa R R (Aj R)<|Ac<|Am hm R (fun h22 hm=>Ae<|A4 0 mixed<|An tbk [0,1,2,3,4] [0] (by kernel_rfl) R R R<|Ay (by kernel_rfl)<|have hm:=Lr hm h10;Bi (A9 100)<|Rg2 hm R [0] none 0 (.cons (.tmp _ _ R) (.cons (.tmp _ _ R) (.cons (.tmp _ _ R) .nil))) R R) fun h22 hm=>Ai<|Cj hm (fun l52 (_:Unit)=>[(8,Z100 ob4 l52 cap4),(9,Z3 ob5 open_2 cap5),(11,.ptr b2 0),(12,Iw x.Kind),(24,Z174 (some b) r.1 cap),(25,Iw (r.1.length : Int)),(26,Iw v2)]) (fun l52 (_:Unit)=>[X174 b2 x,Q100 ob4 cap4 l52,Q3 ob5 cap5 open_2,Q174 (some b) cap r.1]) (fun o2 hm=>?_) fun l52 _ hm=> ?_
   ·refine Ah<|Aa R R (Ak R)<|Aa R R (C3 (VV.int .i64) R Bn)<|Aa R R (Bc R R R)<|Ac<|Am hm R (fun h26 hm=>?_) fun h26 hm=> ?_
    ·refine Be<|Ab tbk [] 3 R R<|Aa R R (C3 (VV.int .i64) R Bn)<|Aa R R (Bc R R R)<|Bd hm fun x2 h27 hm=>Dr 2 R (gl_pos (VV.int .i64) h27) fun b3 h28=> ?_
     subst h28
     refine Aa R R (Dc (VV.int .i64) R R el27 h27)<|Aa R R (Cc (i:=2) (y:=(VV.int .i64) x2) R R R (gl_map _ (gl_some h27).2) ld3 R)<|Bd hm fun x3 h29 hm=>Dr 1 R (gl_pos T_api_Node.vv h29) fun b4 h30=> ?_
     subst h30
     exact Aa R R (Dc T_api_Node.vv R R el36 h29)<|Aa R R (Dg R fa100_2)<|Aa R R (Cc (i:=1) (y:=T_api_Node.vv x3) R R R (gl_map _ (gl_some h29).2) ld3 R)<|Aa R R (Bc R R R)<|Bd hm fun x4 h31 hm=>Aa R R (Dc T_api_Node.vv R R el36 h31)<|Aa R R (Dg R fa100_2)<|Ad R R<|VO.storeRT 1 (f:=T_api_Node.vv) (l:=l2) (q:=x4) (q':=(⟨x4.Kind,x4.Text,(IntKind.i64.wrap (x3.Kids + (1 : Int))),x4.At⟩ : T_api_Node)) R R R R h31 ld3 R R R R ⟨R,List.all_eq_true.1 R⟩<|A3 (D5 8 (List.map T_api_Node.vv (List.set l2 (x2).toNat (⟨x4.Kind,x4.Text,(IntKind.i64.wrap (x3.Kids + (1 : Int))),x4.At⟩ : T_api_Node))).length R (len_set _ _ _ _))<|A3 (D5 51 (List.map T_api_Node.vv (List.set l2 (x2).toNat (⟨x4.Kind,x4.Text,(IntKind.i64.wrap (x3.Kids + (1 : Int))),x4.At⟩ : T_api_Node))).length R (len_set _ _ _ _))<|A3 (D5 68 (List.map T_api_Node.vv (List.set l2 (x2).toNat (⟨x4.Kind,x4.Text,(IntKind.i64.wrap (x3.Kids + (1 : Int))),x4.At⟩ : T_api_Node))).length R (len_set _ _ _ _))<|Ac<|As () hm (Ag [0,1,2,3] R R)
    exact Ai<|As () hm (Ag [0,1,2,3] R R)
   exact Ah<|Ab tbk [0,0] 5 R R<|Aa R R (A7 pl100 R R)<|Ad R R<|Bg z100 fun b5=>Ad R R<|Ao (i:=0) R R R ld100 R R R<|Ac<|Ae<|Af tbk [] R R<|Am hm R (fun h33 hm=>Ah<|Aa R R (Cx R fa100_0)<|Ad R R<|Ao (i:=0) R R R ld3 R R R<|Aa R R (Cx R fa100_1)<|Ad R R<|Ao (i:=0) R R R ld9 R R R<|Ac<|Be<|Ab tbk [] 2 R R<|Aa R R (C3 T_api_Node.vv R C7)<|Ad R R<|Ax ap27 R R R R R fun b6=>Bd hm fun open_5 h35 hm=>Ad R R<|Bu 4 (VV.int .i64) (l:=open_2) (l2:=[(l52.length : Int)]) ap27 R R (sT_row 0 (VV.int .i64) el27 R R) h35 fun ob8 cap8=>Aa R R (Aj R)<|Ac<|Be<|Ab tbk [1] 2 R R<|Ad R R<|Ax ap36 R R R R R fun b7=>Bd hm fun l6 h37 hm=>Ad R R<|Bu 4 T_api_Node.vv (l:=l52) (l2:=[(⟨(5 : Int),(⟨#[]⟩ : ByteArray),(0 : Int),x.At⟩ : T_api_Node)]) ap36 R R (sT_row 0 T_api_Node.vv el36 R R) h37 fun ob9 cap9=>Aa R R (Aj R)<|Ac<|Bb tbk [] R R<|Ap (l6,open_5,(IntKind.i64.wrap (v2 + (1 : Int)))) (ob9,cap9,ob8,cap8) hm (Ag [4,5,6] R R)) fun h33 hm=>Ai<|Be<|Ab tbk [0] 2 R R<|Ad R R<|Ax ap36 R R R R R fun b8=>Bd hm fun l7 h39 hm=>Ad R R<|Bu 3 T_api_Node.vv (l:=l52) (l2:=[(⟨x.Kind,x.Text,(0 : Int),x.At⟩ : T_api_Node)]) ap36 R R (sT_row 0 T_api_Node.vv el36 R R) h39 fun ob10 cap10=>Aa R R (Aj R)<|Ac<|Bb tbk [] R R<|Ap (l7,open_2,(IntKind.i64.wrap (v2 + (1 : Int)))) (ob10,cap10,ob5,cap5) hm (Ag [3,4,5] R R)
  exact Ba<|Ar (ob4,cap4,ob5,cap5) hm (Ag [0,1] R R)
 refine Ae<|Ah<|Aa R R (Ak R)<|Aa R R (C3 (VV.int .i64) R Bn)<|Aa R R (Bc R R R)<|Ac<|Am hm R (fun h42 hm=>?_) fun h42 hm=> ?_
 ·refine Ae<|A4 0 mixed<|An tbk [0,1,2] [] (by kernel_rfl) R R R<|Aq 3 R R R (by kernel_rfl) (C3 (VV.int .i64) R Bn)<|Aq 4 R R R (by kernel_rfl) (Bc R R R)<|Bd hm fun x5 h43 hm=>Ds 1 R (gl_pos (VV.int .i64) h43) fun b9 h44=> ?_
  subst h44
  refine Aq 5 R R R (by kernel_rfl) (Dc (VV.int .i64) R R el27 h43)<|Aq 6 R R R (by kernel_rfl) (Cc (i:=1) (y:=(VV.int .i64) x5) R R R (gl_map _ (gl_some h43).2) ld3 R)<|Bd hm fun x6 h45 hm=>Ds 0 R (gl_pos T_api_Node.vv h45) fun b10 h46=> ?_
  subst h46
  exact Aq 7 R R R (by kernel_rfl) (Dc T_api_Node.vv R R el36 h45)<|Aq 8 R R R (by kernel_rfl) (Dg R fa100_3)<|Aq 9 R R R (by kernel_rfl) (Cc (i:=0) (y:=T_api_Node.vv x6) R R R (gl_map _ (gl_some h45).2) ld3 R)<|An tbk [10,11,12] [] (by kernel_rfl) R R R<|Ay (by kernel_rfl)<|Bi (A9 100)<|Rg2 hm R [0] none 0 (.cons (.tmp _ _ R) (.cons (.tmp _ _ R) (.cons (.tmp _ _ R) .nil))) R R
 exact Ai<|Af tbk [] R R<|Rg2 hm R [0] ob6 cap6 (.cons (.tmp _ _ R) (.cons (.tmp _ _ R) (.cons (.tmp _ _ R) .nil))) R R

/-! trireme/tree.End -/
def tree_End.l1 (l : List T_api_Node) : Nat → Int → Int → Option (Out Int Unit)
 | 0, _, _ => none
 | n + 1, i3, want2 =>
  if (decide (i3 < (l.length : Int))) = true then
   (V.gl l i3).bind fun x =>
   if ((decide (x.Kids < 0)) || (decide (x.Kids > (l.length : Int)))) = true then
    some (Out.ret (-1))
   else
    if ((i64.wrap (want2 + (i64.wrap (x.Kids - 1)))) == 0) = true then
     some (Out.ret (i64.wrap (i3 + 1)))
    else
     tree_End.l1 l n (i64.wrap (i3 + 1)) (i64.wrap (want2 + (i64.wrap (x.Kids - 1))))
  else
   some (Out.go ())
def tree_End (l : List T_api_Node) (i : Int) : Option Int :=
 if (decide (i < 0)) = true then
  some (-1)
 else
  (tree_End.l1 l FU i (1 : Int)).bind fun o =>
  o.on fun j =>
  some (-1)
theorem K125 (l : List T_api_Node) (i : Int) : VS Tryz.prog 124 (tree_End l i) [L100 l, Iw i] [] Iw N0 := by
 refine A6 [.tmp 4] Tryz.func124 R R R fun r hm=>?_
 unfold tree_End at hm
 refine Af tbk [] R R<|Ae<|Af tbk [] R R<|Am hm R (fun h1 hm=>Af tbk [] R R<|Rt1 hm R [] R R R) fun h1 hm=>Ai<|Ae<|Af tbk [] R R<|B2 hm (fun _ (_:Unit)=>[]) (fun _ (_:Unit)=>[]) (fun o hm h3=>?_) fun j _ hm=> ?_
 ·refine B3 (fun zn (zs:Int × Int)=>tree_End.l1 l zn zs.1 zs.2) (fun zs (_:Unit)=>[(0,L100 l),(1,Iw zs.1),(5,Iw zs.2)]) (fun _ (_:Unit)=>[]) (i,(1 : Int)) () (fun _=>R) hm (Ag [] R R) fun n=>Pq fun i3 want2 _ hm=> ?_
  rw [tree_End.l1] at hm
  exact Ae<|Ah<|Ab tbk [] 2 R R<|Aa R R (A5 T_api_Node.vv R C7)<|Aa R R (Bc R R R)<|Ac<|Am hm R (fun h4 hm=>Ai<|Ae<|A1<|Ah<|Ab tbk [] 2 R R<|Bd hm fun x h5 hm=>Aa R R (A2 T_api_Node.vv R R el36 h5)<|Ab tbk [] 3 R R<|Ac<|Ae<|Ah<|Ab tbk [] 3 R R<|C0 5 27 22 R (fun K' J=>Ab tbk [] 5 R R<|J 4 R R R) (fun h6 K' J=>Ab tbk [] 2 R R<|Bo R R R R R (A5 T_api_Node.vv R C7)<|Ab tbk [] 2 R R<|J 4 R R R)<|Ac<|Am hm R (fun h7 hm=>Af tbk [] R R<|have hm:=Lr hm h3;Rt1 hm R [] R R R) fun h7 hm=>Ai<|Af tbk [] R R<|Af tbk [] R R<|Am hm R (fun h8 hm=>Af tbk [] R R<|have hm:=Lr hm h3;Rt1 hm R [] R R R) fun h8 hm=>Ai<|Bb tbk [] R R<|Ap ((IntKind.i64.wrap (i3 + (1 : Int))),(IntKind.i64.wrap (want2 + (IntKind.i64.wrap (x.Kids - (1 : Int)))))) () hm (Ag [] R R)) fun h4 hm=>Ba<|Ar () hm (Ag [] R R)
 exact Af tbk [] R R<|Rt1 hm R [] R R R

/-! trireme/tree.places$1 -/
def tree_places_1 (i : Int) (a : List Int) : Option (List Int) :=
 (V.ap 8 a [i]).bind fun l =>
 some l
theorem K126 (i : Int) (a : List Int) (b : Nat) (ob : Option Nat) (cap : Nat) : VS2 Tryz.prog 174 (tree_places_1 i a) [Iw i, .ptr b 0] [.box b 27 [Z3 ob a cap], Q3 ob cap a] (fun r ob0_0 cap0_0=>.tup []) (fun r ob0_0 cap0_0=>[.box b 27 [Z3 ob0_0 r cap0_0], Q3 ob0_0 cap0_0 r]) := by
 refine Dn [] Tryz.func174 R R R fun r hm=>?_
 unfold tree_places_1 at hm
 refine Be<|Ab tbk [0] 2 R R<|Ad R R<|Ax ap27 R R R R R fun b2=>Bd hm fun l h2 hm=>Ad R R<|Bu 2 (VV.int .i64) (l:=a) (l2:=[i]) ap27 R R (sT_row 0 (VV.int .i64) el27 R R) h2 fun ob2 cap2=>Ad R R<|Ao (i:=1) R R R ld27 R R R<|Ac<|?_
 obtain rfl:=Option.some.inj hm
 exact ⟨.inr R,_,.nil,[1,2],_,R,ob2,cap2,R,R⟩

/-! trireme/tree.walk -/
def tree_walk_tree_places_1.l1 (l : List T_api_Node) (to : Int) : Nat → Int → (List Int) → Option (Out (Bool × List Int) (List Int))
 | 0, _, _ => none
 | n + 1, from_3, do_2 =>
  if (decide (from_3 < to)) = true then
   (tree_End l from_3).bind fun r =>
   if (decide (r < 0)) = true then
    some (Out.ret (false, do_2))
   else
    (tree_places_1 from_3 do_2).bind fun r2 =>
    tree_walk_tree_places_1.l1 l to n r r2
  else
   some (Out.go do_2)
def tree_walk_tree_places_1 (l : List T_api_Node) (from_ : Int) (to : Int) (c : List Int) : Option (Bool × List Int) :=
 (tree_walk_tree_places_1.l1 l to FU from_ c).bind fun o =>
 o.on fun l22 =>
 some (true, l22)
theorem K127 (l : List T_api_Node) (from_ : Int) (to : Int) (c : List Int) (b : Nat) (ob : Option Nat) (cap : Nat) : VS2 Tryz.prog 173 (tree_walk_tree_places_1 l from_ to c) [L100 l, Iw from_, Iw to, .clo (.func 174) [] [.ptr b 0]] [.box b 27 [Z3 ob c cap], Q3 ob cap c] (fun r ob0_0 cap0_0=>.bool r.1) (fun r ob0_0 cap0_0=>[.box b 27 [Z3 ob0_0 r.2 cap0_0], Q3 ob0_0 cap0_0 r.2]) := by
 refine Dn [.tmp 8] Tryz.func173 R R R fun r hm=>?_
 unfold tree_walk_tree_places_1 at hm
 refine Af tbk [] R R<|VW.jo hm (fun _ (gg:Option Nat × Nat)=>[]) (fun l22 (gg:Option Nat × Nat)=>[.box b 27 [Z3 gg.1 l22 gg.2],Q3 gg.1 gg.2 l22]) (fun o hm h2=>?_) fun l22=>Pq fun ob4 cap4 hm=> ?_
 ·refine B3 (fun zn (zs:Int × List Int)=>tree_walk_tree_places_1.l1 l to zn zs.1 zs.2) (fun zs (_:Option Nat × Nat)=>[(0,L100 l),(1,Iw zs.1),(2,Iw to),(3,.clo (.func 174) [] [.ptr b 0])]) (fun zs (zg:Option Nat × Nat)=>[.box b 27 [Z3 zg.1 zs.2 zg.2],Q3 zg.1 zg.2 zs.2]) (from_,c) (ob,cap) (fun _=>R) hm (Ag [0,1] R R) fun n=>Pq fun from_3 do_2=>Pq fun ob3 cap3 hm=> ?_
  rw [tree_walk_tree_places_1.l1] at hm
  exact Ae<|Af tbk [] R R<|Am hm R (fun h3 hm=>Ai<|A1<|Ah<|Ab tbk [] 2 R R<|Ad R R<|A0 hm 0 R fn124 R (K125 _ _) fun r hm=>Aa R R (Aj R)<|Ac<|Ae<|Af tbk [] R R<|Am hm R (fun h5 hm=>Af tbk [] R R<|have hm:=Lr hm h2;Rg2 hm R [0,1] ob3 cap3 (.cons (.tmp _ _ R) .nil) R R) fun h5 hm=>Ai<|Ah<|Ab tbk [] 2 R R<|Ad R R<|Dd hm 2 R fn174 R (K126 _ _ _ _ _) fun r2 ob5 cap5 hm=>Ac<|Bb tbk [] R R<|Ap (r,r2) (ob5,cap5) hm (Ag [0,1] R R)) fun h3 hm=>Ba<|Ar (ob3,cap3) hm (Ag [0,1] R R)
 exact Af tbk [] R R<|Rg2 hm R [0,1] ob4 cap4 (.cons (.tmp _ _ R) .nil) R R

/-! trireme/tree.places -/
def tree_places (l : List T_api_Node) (from_ : Int) (to : Int) : Option (List Int) :=
 (tree_walk_tree_places_1 l from_ to ([] : List Int)).bind fun r =>
 if (!r.1) = true then
  some ([] : List Int)
 else
  some r.2
theorem K128 (l : List T_api_Node) (from_ : Int) (to : Int) : VS2 Tryz.prog 148 (tree_places l from_ to) [L100 l, Iw from_, Iw to] [] (fun r ob0 cap0=>Z3 ob0 r cap0) (fun r ob0 cap0=>[Q3 ob0 cap0 r]) := by
 refine Dn [.tmp 6] Tryz.func148 R R R fun r hm=>?_
 unfold tree_places at hm
 exact Af tbk [] R R<|Ah<|Ad R R<|Bg z27 fun b=>Ac<|Ae<|Ah<|Ab tbk [] 3 R R<|Aa R R (Cm R R)<|A3 (A9 3)<|A3 (Bf [1,0] R)<|Ad R R<|Dd hm 2 R fn173 R (K127 _ _ _ _ _ _ _) fun r ob cap hm=>Aa R R (C1 R)<|Ac<|Am hm R (fun h4 hm=>Af tbk [] R R<|Bi (A9 3)<|Rg2 hm R [0] none 0 (.cons (.tmp _ _ R) .nil) R R) fun h4 hm=>Ai<|Af tbk [0] R R<|Rg2 hm R [1] ob cap (.cons (.tmp _ _ R) .nil) R R

/-! trireme/tree.Tops -/
def tree_Tops (l : List T_api_Node) : Option (List Int) :=
 (tree_places l 0 (l.length : Int)).bind fun r =>
 some r
theorem K129 (l : List T_api_Node) : VS Tryz.prog 96 (tree_Tops l) [L100 l] [] (fun r=>L3 r) N0 := by
 refine A6 [.tmp 2] Tryz.func96 R R R fun r hm=>?_
 unfold tree_Tops at hm
 exact Af tbk [] R R<|Ah<|Ab tbk [] 2 R R<|Aa R R (A5 T_api_Node.vv R C7)<|Ad R R<|Dd hm 0 R fn148 R (K128 _ _ _) fun r ob cap hm=>A3 (Az 0 [(6,L3 r)] R ⟨⟨_,R,.here _ R⟩,trivial⟩ (FzH.refl _))<|Aa R R (Aj R)<|Ac<|Rt1 hm R [] R R R

/-! trireme/tree.Kids -/
def tree_Kids (l : List T_api_Node) (i : Int) : Option (List Int) :=
 (tree_End l i).bind fun r =>
 if (decide (r < 0)) = true then
  some ([] : List Int)
 else
  (tree_places l (i64.wrap (i + 1)) r).bind fun r2 =>
  some r2
theorem K130 (l : List T_api_Node) (i : Int) : VS Tryz.prog 125 (tree_Kids l i) [L100 l, Iw i] [] (fun r=>L3 r) N0 := by
 refine A6 [.tmp 4] Tryz.func125 R R R fun r hm=>?_
 unfold tree_Kids at hm
 exact Af tbk [] R R<|Ah<|Ab tbk [] 2 R R<|Ad R R<|A0 hm 0 R fn124 R (K125 _ _) fun r hm=>Aa R R (Aj R)<|Ac<|Ae<|Af tbk [] R R<|Am hm R (fun h2 hm=>Af tbk [] R R<|Bi (De 4 3 R)<|Rt1 hm R [] R R R) fun h2 hm=>Ai<|Ah<|Ab tbk [] 4 R R<|Ad R R<|Dd hm 0 R fn148 R (K128 _ _ _) fun r2 ob cap hm=>A3 (Az 0 [(15,L3 r2)] R ⟨⟨_,R,.here _ R⟩,trivial⟩ (FzH.refl _))<|Aa R R (Aj R)<|Ac<|Rt1 hm R [] R R R

/-! (*trireme/dump.reader).first -/
def dump_reader_first (r_ : T_dump_reader) (i : Int) : Option (ByteArray × List Int) :=
 (tree_Kids r_.l i).bind fun r =>
 (V.gl r_.l i).bind fun x =>
 (if ((x.Kind != 5) || ((r.length : Int) == 0)) = true then some true else (V.gl r (0 : Int)).bind fun x2 =>
 (V.gl r_.l x2).bind fun x3 =>
 some (x3.Kind != 3)).bind fun c =>
 if c = true then
  some ((⟨#[]⟩ : ByteArray), ([] : List Int))
 else
  (V.gl r (0 : Int)).bind fun x4 =>
  (V.gl r_.l x4).bind fun x5 =>
  some (x5.Text, r)
theorem K131 (r_ : T_dump_reader) (i : Int) (b : Nat) (ob : Option Nat) (cap : Nat) (ob2 : Option Nat) (cap2 : Nat) (ob3 : Option Nat) (cap3 : Nat) : VS Tryz.prog 149 (dump_reader_first r_ i) [.ptr b 0, Iw i] [.box b 132 [Z100 ob r_.l cap, Z41 ob2 r_.ms cap2, Z121 ob3 r_.bs cap3], Q100 ob cap r_.l, Q41 ob2 cap2 r_.ms, Q121 ob3 cap3 r_.bs] (fun r=>.tup [.str r.1, L3 r.2]) (fun r=>[.box b 132 [Z100 ob r_.l cap, Z41 ob2 r_.ms cap2, Z121 ob3 r_.bs cap3], Q100 ob cap r_.l, Q41 ob2 cap2 r_.ms, Q121 ob3 cap3 r_.bs]) := by
 refine A6 [.tmp 4,.tmp 5] Tryz.func149 R R R fun r hm=>?_
 unfold dump_reader_first at hm
 refine Af tbk [] R R<|Ah<|Ab tbk [0] 5 R R<|Bd hm fun r h1 hm=>Ad R R<|Dh [100] (LS.freezeE [100] (H':=[.box b 132 [L100 r_.l,Z41 ob2 r_.ms cap2,Z121 ob3 r_.bs cap3],Q41 ob2 cap2 r_.ms,Q121 ob3 cap3 r_.bs]) 1 [(10,L100 r_.l)] R R ⟨⟨_,R,.here _ R⟩,trivial⟩ (by exact ⟨.box _ _ _ _ ⟨.here _ R,.same _,.same _,trivial⟩,.same _,.same _,trivial⟩)) [.same,.same] R fn125 R (K130 r_.l i r h1) fun _ _ h12=> ?_
 obtain ⟨rfl,rfl⟩:=h12
 refine ⟨by simp [noT,noTs,noTs_map no3_100],by simp [noH],?_⟩
 refine Aa R R (Aj R)<|Ac<|Ae<|Ae<|A4 0 mixed<|An tbk [0,1,2,3,4] [0] (by kernel_rfl) R R R<|Bd hm fun x h2 hm=>Ds 1 R (gl_pos T_api_Node.vv h2) fun b2 h3=> ?_
 subst h3
 exact Aq 5 R R R (by kernel_rfl) (Dc T_api_Node.vv R R el36 h2)<|Aq 6 R R R (by kernel_rfl) (Dg R fa100_0)<|Aq 7 R R R (by kernel_rfl) (Cc (i:=1) (y:=T_api_Node.vv x) R R R (gl_map _ (gl_some h2).2) ld3 R)<|An tbk [8,9] [] (by kernel_rfl) R R R<|VA.so [13,12,11,10,9,8,7,6,5,4,3,2,1,0] 26 22 R (fun K' J=>An tbk [10,11,12,13] [] (by kernel_rfl) R R R<|J 3 R R R) (fun h4 K' J=>Bw 10 R R R R R R (by kernel_rfl) (Ak R)<|Bw 11 R R R R R R (by kernel_rfl) (A5 (VV.int .i64) R Bn)<|An tbk [12,13] [] (by kernel_rfl) R R R<|J 3 R R R)<|Aq 14 R R R (by kernel_rfl) (Ak R)<|Cq hm [26,25,24,23,22,21,20,19,18,17,16,15,14,13,12,11,10,9,8,7,6,5,4,3,2,1,0] 39 27 R (fun _ K' h5 J hm=>An tbk [15,16,17,18,19,20,21,22,23,24,25,26] [] (by kernel_rfl) R R R<|J 11 R R (Bj hm)) (fun _ K' h5 J hm=>An tbk [15,16,17,18,19] [0] (by kernel_rfl) R R R<|Bd hm fun x2 h6 hm=>Bw 20 R R R R R R (by kernel_rfl) (A2 (VV.int .i64) R R el27 h6)<|Bw 21 R R R R R R (by kernel_rfl) (Bl R ld3 R)<|Bd hm fun x3 h7 hm=>Bw 22 R R R R R R (by kernel_rfl) (Dc T_api_Node.vv R R el36 h7)<|Bw 23 R R R R R R (by kernel_rfl) (Dg R fa100_0)<|Bw 24 R R R R R R (by kernel_rfl) (Cc (i:=1) (y:=T_api_Node.vv x3) R R R (gl_map _ (gl_some h7).2) ld3 R)<|An tbk [25,26] [] (by kernel_rfl) R R R<|J 11 R R (Bj hm)) fun c hm=>Ay (by kernel_rfl)<|Am hm R (fun h9 hm=>Af tbk [] R R<|Bi (De 5 3 R)<|Rt2 hm R [0,1,2,3] R R R R) fun h9 hm=>Ai<|Ae<|A4 0 mixed<|An tbk [0,1,2,3,4] [0] (by kernel_rfl) R R R<|Bd hm fun x4 h10 hm=>Aq 5 R R R (by kernel_rfl) (A2 (VV.int .i64) R R el27 h10)<|Aq 6 R R R (by kernel_rfl) (Bl R ld3 R)<|Bd hm fun x5 h11 hm=>Aq 7 R R R (by kernel_rfl) (Dc T_api_Node.vv R R el36 h11)<|Aq 8 R R R (by kernel_rfl) (Dg R fa100_1)<|Aq 9 R R R (by kernel_rfl) (Cc (i:=1) (y:=T_api_Node.vv x5) R R R (gl_map _ (gl_some h11).2) ld9 R)<|An tbk [10,11,12] [] (by kernel_rfl) R R R<|Ay (by kernel_rfl)<|Rt2 hm R [0,1,2,3] R R R R

/-! trireme/spec.pair -/
def spec_pair : Option Unit :=
 some ()
theorem K132 (b : Nat) (o : Nat) : ∀ r : Unit, spec_pair = some r → VC Tryz.prog 129 [.ptr b o] [] fun zx zH => ∃ (b_0_0 : Nat), zx = .clo (.func 166) [] [.ptr b_0_0 0] ∧ zH = [.box b_0_0 169 [.ptr b o]] := by
 refine Cg [.tmp 2] Tryz.func129 R R R fun r hm=>?_
 unfold spec_pair at hm
 refine Ah<|Ad R R<|Cd R R fun b2=>Aa R R (Aj R)<|Ac<|Ah<|Aa R R (Cm R R)<|Aa R R (Aj R)<|Ac<|?_
 obtain rfl:=Option.some.inj hm
 exact Ch ⟨.inl R,_,.cons (.tmp _ _ R) .nil,[0],_,R,b2,R,R⟩

/-! trireme/spec.number -/
def spec_number : Option Unit :=
 some ()
theorem K133 (b : Nat) (o : Nat) : ∀ r : Unit, spec_number = some r → VC Tryz.prog 91 [.ptr b o] [] fun zx zH => ∃ (b_0_0 : Nat), zx = .clo (.func 141) [] [.ptr b_0_0 0] ∧ zH = [.box b_0_0 119 [.ptr b o]] := by
 refine Cg [.tmp 2] Tryz.func91 R R R fun r hm=>?_
 unfold spec_number at hm
 refine Ah<|Ad R R<|Cd R R fun b2=>Aa R R (Aj R)<|Ac<|Ah<|Aa R R (Cm R R)<|Aa R R (Aj R)<|Ac<|?_
 obtain rfl:=Option.some.inj hm
 exact Ch ⟨.inl R,_,.cons (.tmp _ _ R) .nil,[0],_,R,b2,R,R⟩

/-! trireme/spec.text -/
def spec_text : Option Unit :=
 some ()
theorem K134 (b : Nat) (o : Nat) : ∀ r : Unit, spec_text = some r → VC Tryz.prog 84 [.ptr b o] [] fun zx zH => ∃ (b_0_0 : Nat), zx = .clo (.func 137) [] [.ptr b_0_0 0] ∧ zH = [.box b_0_0 108 [.ptr b o]] := by
 refine Cg [.tmp 2] Tryz.func84 R R R fun r hm=>?_
 unfold spec_text at hm
 refine Ah<|Ad R R<|Cd R R fun b2=>Aa R R (Aj R)<|Ac<|Ah<|Aa R R (Cm R R)<|Aa R R (Aj R)<|Ac<|?_
 obtain rfl:=Option.some.inj hm
 exact Ch ⟨.inl R,_,.cons (.tmp _ _ R) .nil,[0],_,R,b2,R,R⟩

/-! trireme/spec.flag -/
def spec_flag : Option Unit :=
 some ()
theorem K135 (b : Nat) (o : Nat) : ∀ r : Unit, spec_flag = some r → VC Tryz.prog 85 [.ptr b o] [] fun zx zH => ∃ (b_0_0 : Nat), zx = .clo (.func 138) [] [.ptr b_0_0 0] ∧ zH = [.box b_0_0 112 [.ptr b o]] := by
 refine Cg [.tmp 2] Tryz.func85 R R R fun r hm=>?_
 unfold spec_flag at hm
 refine Ah<|Ad R R<|Cd R R fun b2=>Aa R R (Aj R)<|Ac<|Ah<|Aa R R (Cm R R)<|Aa R R (Aj R)<|Ac<|?_
 obtain rfl:=Option.some.inj hm
 exact Ch ⟨.inl R,_,.cons (.tmp _ _ R) .nil,[0],_,R,b2,R,R⟩

/-! trireme/spec.ofPod -/
def spec_ofPod : Option Unit :=
 (spec_pair).bind fun r =>
 (spec_pair).bind fun r2 =>
 (spec_pair).bind fun r3 =>
 (spec_pair).bind fun r4 =>
 (spec_number).bind fun r5 =>
 (spec_number).bind fun r6 =>
 (spec_text).bind fun r7 =>
 (spec_flag).bind fun r8 =>
 (spec_flag).bind fun r9 =>
 (spec_flag).bind fun r10 =>
 (spec_flag).bind fun r11 =>
 some ()
theorem K136 (b : Nat) (o : Nat) : ∀ r : Unit, spec_ofPod = some r → VC Tryz.prog 77 [.ptr b o] [] fun zx zH => ∃ (b_0_0 : Nat) (b_0_1 : Nat) (b_0_2 : Nat) (b_0_3 : Nat) (b_0_4 : Nat) (b_0_5 : Nat) (b_0_6 : Nat) (b_0_7 : Nat) (b_0_8 : Nat) (b_0_9 : Nat) (b_0_10 : Nat) (b_0_11 : Nat) (b_0_12 : Nat), zx = .sl (some b_0_0) 16 16 ∧ zH = [.row (some b_0_0) 110 16 (KR0 b_0_1 b_0_2 b_0_3 b_0_4 b_0_5 b_0_6 b_0_7 b_0_8 b_0_9 b_0_10 b_0_11 b_0_12), .box b_0_1 98 [.ptr b o], .box b_0_2 169 [.ptr b (o + 6)], .box b_0_3 169 [.ptr b (o + 7)], .box b_0_4 169 [.ptr b (o + 11)], .box b_0_5 169 [.ptr b (o + 13)], .box b_0_6 119 [.ptr b (o + 14)], .box b_0_7 119 [.ptr b (o + 15)], .box b_0_8 108 [.ptr b (o + 16)], .box b_0_9 112 [.ptr b (o + 12)], .box b_0_10 112 [.ptr b (o + 17)], .box b_0_11 112 [.ptr b (o + 18)], .box b_0_12 112 [.ptr b (o + 19)]] := by
 refine Cg [.tmp 2] Tryz.func77 R R R fun r hm=>?_
 unfold spec_ofPod at hm
 refine Ah<|Ad R R<|Cd R R fun b2=>Aa R R (Aj R)<|Ac<|Ae<|A4 0 mixed<|Aq 0 R R R (by kernel_rfl) (Cm R R)<|Aq 1 R R R (by kernel_rfl) (A7 pl110 R R)<|An tbk [2,3,4,7,8,9,12,13,14,17,18,19] [0,0,0,0] (by kernel_rfl) R R R<|Aq 22 R R R (by kernel_rfl) (Cm R R)<|Aq 23 R R R (by kernel_rfl) (A7 pl110 R R)<|Aq 24 R R R (by kernel_rfl) (Cm R R)<|Aq 25 R R R (by kernel_rfl) (A7 pl110 R R)<|Aq 26 R R R (by kernel_rfl) (Cm R R)<|Aq 27 R R R (by kernel_rfl) (A7 pl110 R R)<|Aq 28 R R R (by kernel_rfl) (Cm R R)<|Aq 29 R R R (by kernel_rfl) (A7 pl110 R R)<|An tbk [30,31,32,35,36,37,40,41,42,45,46,47,50,51,52,55,56,57,60,61,62] [0,0,0,0,0,0,0] (by kernel_rfl) R R R<|Al 5 (by kernel_rfl)<|Bd hm fun r h2 hm=>Au R R R<|Aw 0 R fn129 R (K132 b (o + 6) r h2) fun _ _ h48=> ?_
 obtain ⟨b3,rfl,rfl⟩:=h48
 refine Aq 6 R R R (by kernel_rfl) (A7 pl110 R R)<|Al 10 (by kernel_rfl)<|Bd hm fun r2 h4 hm=>Au R R R<|Aw 0 R fn129 R (K132 b (o + 7) r2 h4) fun _ _ h47=> ?_
 obtain ⟨b4,rfl,rfl⟩:=h47
 refine Aq 11 R R R (by kernel_rfl) (A7 pl110 R R)<|Al 15 (by kernel_rfl)<|Bd hm fun r3 h6 hm=>Au R R R<|Aw 0 R fn129 R (K132 b (o + 11) r3 h6) fun _ _ h46=> ?_
 obtain ⟨b5,rfl,rfl⟩:=h46
 refine Aq 16 R R R (by kernel_rfl) (A7 pl110 R R)<|Al 20 (by kernel_rfl)<|Bd hm fun r4 h8 hm=>Au R R R<|Aw 0 R fn129 R (K132 b (o + 13) r4 h8) fun _ _ h45=> ?_
 obtain ⟨b6,rfl,rfl⟩:=h45
 refine Aq 21 R R R (by kernel_rfl) (A7 pl110 R R)<|Al 33 (by kernel_rfl)<|Bd hm fun r5 h10 hm=>Au R R R<|Aw 0 R fn91 R (K133 b (o + 14) r5 h10) fun _ _ h44=> ?_
 obtain ⟨b7,rfl,rfl⟩:=h44
 refine Aq 34 R R R (by kernel_rfl) (A7 pl110 R R)<|Al 38 (by kernel_rfl)<|Bd hm fun r6 h12 hm=>Au R R R<|Aw 0 R fn91 R (K133 b (o + 15) r6 h12) fun _ _ h43=> ?_
 obtain ⟨b8,rfl,rfl⟩:=h43
 refine Aq 39 R R R (by kernel_rfl) (A7 pl110 R R)<|Al 43 (by kernel_rfl)<|Bd hm fun r7 h14 hm=>Au R R R<|Aw 0 R fn84 R (K134 b (o + 16) r7 h14) fun _ _ h42=> ?_
 obtain ⟨b9,rfl,rfl⟩:=h42
 refine Aq 44 R R R (by kernel_rfl) (A7 pl110 R R)<|Al 48 (by kernel_rfl)<|Bd hm fun r8 h16 hm=>Au R R R<|Aw 0 R fn85 R (K135 b (o + 12) r8 h16) fun _ _ h41=> ?_
 obtain ⟨b10,rfl,rfl⟩:=h41
 refine Aq 49 R R R (by kernel_rfl) (A7 pl110 R R)<|Al 53 (by kernel_rfl)<|Bd hm fun r9 h18 hm=>Au R R R<|Aw 0 R fn85 R (K135 b (o + 17) r9 h18) fun _ _ h40=> ?_
 obtain ⟨b11,rfl,rfl⟩:=h40
 refine Aq 54 R R R (by kernel_rfl) (A7 pl110 R R)<|Al 58 (by kernel_rfl)<|Bd hm fun r10 h20 hm=>Au R R R<|Aw 0 R fn85 R (K135 b (o + 18) r10 h20) fun _ _ h39=> ?_
 obtain ⟨b12,rfl,rfl⟩:=h39
 refine Aq 59 R R R (by kernel_rfl) (A7 pl110 R R)<|Al 63 (by kernel_rfl)<|Bd hm fun r11 h22 hm=>Au R R R<|Aw 0 R fn85 R (K135 b (o + 19) r11 h22) fun _ _ h38=> ?_
 obtain ⟨b13,rfl,rfl⟩:=h38
 refine Aq 64 R R R (by kernel_rfl) (A7 pl110 R R)<|Al 65 (by kernel_rfl)<|Au R R R<|Ax ap96 R R R R R fun b14=>Aq 66 R R R (by kernel_rfl) (Aj R)<|Ay (by kernel_rfl)<|?_
 obtain rfl:=Option.some.inj hm
 exact Ch ⟨.inl R,_,.cons (.tmp _ _ R) .nil,[0,12,11,10,9,8,7,6,5,4,3,2,1],_,R,b14,b2,b3,b4,b5,b6,b7,b8,b9,b10,b11,b12,b13,R,R⟩

/-! (*trireme/spec.reader).head -/
def spec_reader_head (r_ : T_spec_reader) (x : T_api_Pod) (i : Int) : Option (ByteArray × List Int) :=
 (V.gl r_.l i).bind fun x2 =>
 if (x2.Kind == 3) = true then
  (V.gl r_.l i).bind fun x3 =>
  some (x3.Text, ([] : List Int))
 else
  (tree_Kids r_.l i).bind fun r =>
  (V.gl r_.l i).bind fun x4 =>
  (if ((x4.Kind != 5) || ((r.length : Int) == 0)) = true then some true else (V.gl r (0 : Int)).bind fun x5 =>
  (V.gl r_.l x5).bind fun x6 =>
  some (x6.Kind != 3)).bind fun c =>
  if c = true then
   some ((⟨#[]⟩ : ByteArray), ([] : List Int))
  else
   (V.gl r (0 : Int)).bind fun x7 =>
   (V.gl r_.l x7).bind fun x8 =>
   (V.sl r (some 1) none).bind fun v =>
   some (x8.Text, v)
theorem K137 (r_ : T_spec_reader) (x : T_api_Pod) (i : Int) (b : Nat) (b2 : Nat) (b3 : Nat) (cap : Nat) (b4 : Nat) (b5 : Nat) (ob : Option Nat) (cap2 : Nat) (ob2 : Option Nat) (cap3 : Nat) (ob3 : Option Nat) (cap4 : Nat) (ob4 : Option Nat) (cap5 : Nat) (ob5 : Option Nat) (cap6 : Nat) (ob6 : Option Nat) (cap7 : Nat) (ob7 : Option Nat) (cap8 : Nat) (b6 : Nat) (b7 : Nat) (b8 : Nat) (b9 : Nat) (b10 : Nat) (b11 : Nat) (b12 : Nat) (b13 : Nat) (b14 : Nat) (b15 : Nat) (b16 : Nat) : VS Tryz.prog 163 (spec_reader_head r_ x i) [.ptr b 0, Iw i] [.box b 165 [L100 r_.l, .sl (some b3) 16 cap, .map b2, Iw r_.e, Iw r_.at_], .map b2 (List.map (pf VV.str (VV.int .i64)) r_.had), .row (some b3) 110 cap (KR0 b4 b6 b7 b8 b9 b10 b11 b12 b13 b14 b15 b16), .box b4 98 [.ptr b5 0], .box b5 29 [.str x.Name, Iw x.Need.Cpu, Iw x.Need.Mem, Iw x.Need.Disk, Iw x.Need.Pods, Iw x.Need.Dev, Z141 ob x.Labels cap2, Z141 ob2 x.Select cap3, Z73 ob3 x.Terms cap4, Z83 ob4 x.Bears cap5, Z3 ob5 x.Ports cap6, Z141 ob6 x.Apart cap7, .bool x.Wide, Z141 ob7 x.Spread cap8, Iw x.Skew, Iw x.Rank, .str x.Owner, .bool x.Daemon, .bool x.Pinned, .bool x.Local], Q141 ob cap2 x.Labels, Q141 ob2 cap3 x.Select, Q73 ob3 cap4 x.Terms, Q83 ob4 cap5 x.Bears, Q3 ob5 cap6 x.Ports, Q141 ob6 cap7 x.Apart, Q141 ob7 cap8 x.Spread, .box b6 169 [.ptr b5 6], .box b7 169 [.ptr b5 7], .box b8 169 [.ptr b5 11], .box b9 169 [.ptr b5 13], .box b10 119 [.ptr b5 14], .box b11 119 [.ptr b5 15], .box b12 108 [.ptr b5 16], .box b13 112 [.ptr b5 12], .box b14 112 [.ptr b5 17], .box b15 112 [.ptr b5 18], .box b16 112 [.ptr b5 19]] (fun r=>.tup [.str r.1, L3 r.2]) (fun r=>[.box b 165 [L100 r_.l, .sl (some b3) 16 cap, .map b2, Iw r_.e, Iw r_.at_], .map b2 (List.map (pf VV.str (VV.int .i64)) r_.had), .row (some b3) 110 cap (KR0 b4 b6 b7 b8 b9 b10 b11 b12 b13 b14 b15 b16), .box b4 98 [.ptr b5 0], .box b5 29 [.str x.Name, Iw x.Need.Cpu, Iw x.Need.Mem, Iw x.Need.Disk, Iw x.Need.Pods, Iw x.Need.Dev, Z141 ob x.Labels cap2, Z141 ob2 x.Select cap3, Z73 ob3 x.Terms cap4, Z83 ob4 x.Bears cap5, Z3 ob5 x.Ports cap6, Z141 ob6 x.Apart cap7, .bool x.Wide, Z141 ob7 x.Spread cap8, Iw x.Skew, Iw x.Rank, .str x.Owner, .bool x.Daemon, .bool x.Pinned, .bool x.Local], Q141 ob cap2 x.Labels, Q141 ob2 cap3 x.Select, Q73 ob3 cap4 x.Terms, Q83 ob4 cap5 x.Bears, Q3 ob5 cap6 x.Ports, Q141 ob6 cap7 x.Apart, Q141 ob7 cap8 x.Spread, .box b6 169 [.ptr b5 6], .box b7 169 [.ptr b5 7], .box b8 169 [.ptr b5 11], .box b9 169 [.ptr b5 13], .box b10 119 [.ptr b5 14], .box b11 119 [.ptr b5 15], .box b12 108 [.ptr b5 16], .box b13 112 [.ptr b5 12], .box b14 112 [.ptr b5 17], .box b15 112 [.ptr b5 18], .box b16 112 [.ptr b5 19]]) := by
 refine A6 [.tmp 4,.tmp 5] Tryz.func163 R R R fun r hm=>?_
 unfold spec_reader_head at hm
 exact Af tbk [] R R<|Ae<|Ah<|Ab tbk [0] 5 R R<|Bd hm fun x2 h1 hm=>Aa R R (A2 T_api_Node.vv R R el36 h1)<|Ab tbk [] 3 R R<|Ac<|Am hm R (fun h2 hm=>Ah<|Ab tbk [0] 5 R R<|Bd hm fun x3 h3 hm=>Aa R R (A2 T_api_Node.vv R R el36 h3)<|Ab tbk [] 4 R R<|Ac<|Bi (De 5 3 R)<|Rt2 hm R [0,1,2,3,4,5,6,7,8,9,10,11,12,13,14,15,16,17,18,19,20,21,22] R R R R) fun h2 hm=>Ai<|Ah<|Ab tbk [0] 5 R R<|Ad R R<|A0 hm 0 R fn125 R (K130 _ _) fun r hm=>Aa R R (Aj R)<|Ac<|Ae<|Ae<|A4 0 mixed<|An tbk [0,1,2,3,4] [0] (by kernel_rfl) R R R<|Bd hm fun x4 h5 hm=>Aq 5 R R R (by kernel_rfl) (A2 T_api_Node.vv R R el36 h5)<|An tbk [6,7,8,9] [] (by kernel_rfl) R R R<|VA.so [13,12,11,10,9,8,7,6,5,4,3,2,1,0] 43 39 R (fun K' J=>An tbk [10,11,12,13] [] (by kernel_rfl) R R R<|J 3 R R R) (fun h6 K' J=>Bw 10 R R R R R R (by kernel_rfl) (Ak R)<|Bw 11 R R R R R R (by kernel_rfl) (A5 (VV.int .i64) R Bn)<|An tbk [12,13] [] (by kernel_rfl) R R R<|J 3 R R R)<|Aq 14 R R R (by kernel_rfl) (Ak R)<|Cq hm [26,25,24,23,22,21,20,19,18,17,16,15,14,13,12,11,10,9,8,7,6,5,4,3,2,1,0] 56 44 R (fun _ K' h7 J hm=>An tbk [15,16,17,18,19,20,21,22,23,24,25,26] [] (by kernel_rfl) R R R<|J 11 R R (Bj hm)) (fun _ K' h7 J hm=>An tbk [15,16,17,18,19] [0] (by kernel_rfl) R R R<|Bd hm fun x5 h8 hm=>Bw 20 R R R R R R (by kernel_rfl) (A2 (VV.int .i64) R R el27 h8)<|Bw 21 R R R R R R (by kernel_rfl) (Bl R ld3 R)<|Bd hm fun x6 h9 hm=>Bw 22 R R R R R R (by kernel_rfl) (A2 T_api_Node.vv R R el36 h9)<|An tbk [23,24,25,26] [] (by kernel_rfl) R R R<|J 11 R R (Bj hm)) fun c hm=>Ay (by kernel_rfl)<|Am hm R (fun h11 hm=>Af tbk [] R R<|Bi (De 5 3 R)<|Rt2 hm R [0,1,2,3,4,5,6,7,8,9,10,11,12,13,14,15,16,17,18,19,20,21,22] R R R R) fun h11 hm=>Ai<|Ae<|A4 0 mixed<|An tbk [0,1,2,3,4] [0] (by kernel_rfl) R R R<|Bd hm fun x7 h12 hm=>Aq 5 R R R (by kernel_rfl) (A2 (VV.int .i64) R R el27 h12)<|Aq 6 R R R (by kernel_rfl) (Bl R ld3 R)<|Bd hm fun x8 h13 hm=>Aq 7 R R R (by kernel_rfl) (A2 T_api_Node.vv R R el36 h13)<|An tbk [8,9,10] [] (by kernel_rfl) R R R<|Bd hm fun v h14 hm=>Aq 11 R R R (by kernel_rfl) (Dv R R R el27 h14)<|An tbk [12,13] [] (by kernel_rfl) R R R<|Ay (by kernel_rfl)<|Rt2 hm R [0,1,2,3,4,5,6,7,8,9,10,11,12,13,14,15,16,17,18,19,20,21,22] R R R R

/-! (*trireme/spec.reader).fail -/
def spec_reader_fail (r_ : T_spec_reader) (x : T_api_Pod) (e : Int) (at_ : Int) : Option T_spec_reader :=
 some (⟨r_.l, (), r_.had, e, at_⟩ : T_spec_reader)
theorem K138 (r_ : T_spec_reader) (x : T_api_Pod) (e : Int) (at_ : Int) (b : Nat) (b2 : Nat) (b3 : Nat) (cap : Nat) (b4 : Nat) (b5 : Nat) (ob : Option Nat) (cap2 : Nat) (ob2 : Option Nat) (cap3 : Nat) (ob3 : Option Nat) (cap4 : Nat) (ob4 : Option Nat) (cap5 : Nat) (ob5 : Option Nat) (cap6 : Nat) (ob6 : Option Nat) (cap7 : Nat) (ob7 : Option Nat) (cap8 : Nat) (b6 : Nat) (b7 : Nat) (b8 : Nat) (b9 : Nat) (b10 : Nat) (b11 : Nat) (b12 : Nat) (b13 : Nat) (b14 : Nat) (b15 : Nat) (b16 : Nat) : VS1 Tryz.prog 164 (spec_reader_fail r_ x e at_) [.ptr b 0, Iw e, Iw at_] [.box b 165 [L100 r_.l, .sl (some b3) 16 cap, .map b2, Iw r_.e, Iw r_.at_], .map b2 (List.map (pf VV.str (VV.int .i64)) r_.had), .row (some b3) 110 cap (KR0 b4 b6 b7 b8 b9 b10 b11 b12 b13 b14 b15 b16), .box b4 98 [.ptr b5 0], .box b5 29 [.str x.Name, Iw x.Need.Cpu, Iw x.Need.Mem, Iw x.Need.Disk, Iw x.Need.Pods, Iw x.Need.Dev, Z141 ob x.Labels cap2, Z141 ob2 x.Select cap3, Z73 ob3 x.Terms cap4, Z83 ob4 x.Bears cap5, Z3 ob5 x.Ports cap6, Z141 ob6 x.Apart cap7, .bool x.Wide, Z141 ob7 x.Spread cap8, Iw x.Skew, Iw x.Rank, .str x.Owner, .bool x.Daemon, .bool x.Pinned, .bool x.Local], Q141 ob cap2 x.Labels, Q141 ob2 cap3 x.Select, Q73 ob3 cap4 x.Terms, Q83 ob4 cap5 x.Bears, Q3 ob5 cap6 x.Ports, Q141 ob6 cap7 x.Apart, Q141 ob7 cap8 x.Spread, .box b6 169 [.ptr b5 6], .box b7 169 [.ptr b5 7], .box b8 169 [.ptr b5 11], .box b9 169 [.ptr b5 13], .box b10 119 [.ptr b5 14], .box b11 119 [.ptr b5 15], .box b12 108 [.ptr b5 16], .box b13 112 [.ptr b5 12], .box b14 112 [.ptr b5 17], .box b15 112 [.ptr b5 18], .box b16 112 [.ptr b5 19]] (fun r b0_2=>.tup []) (fun r b0_2=>[.box b 165 [L100 r.l, .sl (some b3) 16 cap, .map b0_2, Iw r.e, Iw r.at_], .map b0_2 (List.map (pf VV.str (VV.int .i64)) r.had), .row (some b3) 110 cap (KR0 b4 b6 b7 b8 b9 b10 b11 b12 b13 b14 b15 b16), .box b4 98 [.ptr b5 0], .box b5 29 [.str x.Name, Iw x.Need.Cpu, Iw x.Need.Mem, Iw x.Need.Disk, Iw x.Need.Pods, Iw x.Need.Dev, Z141 ob x.Labels cap2, Z141 ob2 x.Select cap3, Z73 ob3 x.Terms cap4, Z83 ob4 x.Bears cap5, Z3 ob5 x.Ports cap6, Z141 ob6 x.Apart cap7, .bool x.Wide, Z141 ob7 x.Spread cap8, Iw x.Skew, Iw x.Rank, .str x.Owner, .bool x.Daemon, .bool x.Pinned, .bool x.Local], Q141 ob cap2 x.Labels, Q141 ob2 cap3 x.Select, Q73 ob3 cap4 x.Terms, Q83 ob4 cap5 x.Bears, Q3 ob5 cap6 x.Ports, Q141 ob6 cap7 x.Apart, Q141 ob7 cap8 x.Spread, .box b6 169 [.ptr b5 6], .box b7 169 [.ptr b5 7], .box b8 169 [.ptr b5 11], .box b9 169 [.ptr b5 13], .box b10 119 [.ptr b5 14], .box b11 119 [.ptr b5 15], .box b12 108 [.ptr b5 16], .box b13 112 [.ptr b5 12], .box b14 112 [.ptr b5 17], .box b15 112 [.ptr b5 18], .box b16 112 [.ptr b5 19]]) := by
 refine VS1.run [] Tryz.func164 R R R fun r hm=>?_
 unfold spec_reader_fail at hm
 refine Be<|Ab tbk [] 6 R R<|Ad R R<|Ao (i:=0) R R R ld33 R R R<|Ab tbk [] 2 R R<|Ad R R<|Ao (i:=0) R R R ld3 R R R<|Ac<|?_
 obtain rfl:=Option.some.inj hm
 exact ⟨.inr R,_,.nil,[0,1,2,3,4,5,6,7,8,9,10,11,12,13,14,15,16,17,18,19,20,21,22],_,R,b2,R,R⟩

/-! trireme/quant.cut -/
def quant_cut (s : ByteArray) : Option (ByteArray × Int × ByteArray × Int) :=
 (quant_head s).bind fun r =>
 if (r == 0) = true then
  some ((⟨#[]⟩ : ByteArray), 0, (⟨#[]⟩ : ByteArray), 8)
 else
  (V.ss s none (some r)).bind fun v =>
  (V.ss s (some r) none).bind fun v2 =>
  (if (V.seq v2 (⟨#[]⟩ : ByteArray)) = true then some true else (V.gi v2 (0 : Int)).bind fun v3 =>
  some (v3 != 46)).bind fun c =>
  if c = true then
   some (v, 0, v2, 0)
  else
   (V.ss v2 (some 1) none).bind fun v4 =>
   (quant_head v4).bind fun r2 =>
   if ((decide (r2 < 1)) || (decide (r2 > 3))) = true then
    some ((⟨#[]⟩ : ByteArray), 0, (⟨#[]⟩ : ByteArray), 8)
   else
    (V.ss v2 (some 1) (some (i64.wrap (1 + r2)))).bind fun v5 =>
    (V.cat v5 (⟨#[48, 48]⟩ : ByteArray)).bind fun v6 =>
    (V.ss v6 none (some 3)).bind fun v7 =>
    (quant_value v7 (1000 : Int)).bind fun r3 =>
    (V.ss v2 (some (i64.wrap (1 + r2))) none).bind fun v8 =>
    some (v, r3.1, v8, 0)
theorem K139 (s : ByteArray) : VS Tryz.prog 199 (quant_cut s) [.str s] [] (fun r=>.tup [.str r.1, Iw r.2.1, .str r.2.2.1, Iw r.2.2.2]) N0 := by
 refine A6 [.tmp 2,.tmp 3,.tmp 4,.tmp 5] Tryz.func199 R R R fun r hm=>?_
 unfold quant_cut at hm
 exact Af tbk [] R R<|Ah<|Aa R R (Ak R)<|Ad R R<|A0 hm 0 R fn177 R (K83 _) fun r hm=>Aa R R (Aj R)<|Ac<|Ae<|Af tbk [] R R<|Am hm R (fun h2 hm=>Af tbk [] R R<|Rt0 hm R [] (.cons (.tmp _ _ R) (.cons (.tmp _ _ R) (.cons (.tmp _ _ R) (.cons (.tmp _ _ R) .nil)))) R R) fun h2 hm=>Ai<|Ae<|A4 0 mixed<|An tbk [0,1] [] (by kernel_rfl) R R R<|Bd hm fun v h3 hm=>Aq 2 R R R (by kernel_rfl) (C8 R R R Av h3)<|An tbk [3,4] [] (by kernel_rfl) R R R<|Bd hm fun v2 h4 hm=>Aq 5 R R R (by kernel_rfl) (C8 R R R Av h4)<|An tbk [6,7] [] (by kernel_rfl) R R R<|Ay (by kernel_rfl)<|Ae<|Ah<|Ab tbk [] 3 R R<|Bt hm 4 28 24 R (fun _ K' h5 J hm=>Ab tbk [] 4 R R<|J 3 R R (Bj hm)) (fun _ K' h5 J hm=>Bo R R R R R (Ak R)<|Bd hm fun v3 h6 hm=>Bo R R R R R (Cr R R Av h6)<|Ab tbk [] 2 R R<|J 3 R R (Bj hm)) fun c hm=>Ac<|Am hm R (fun h8 hm=>Af tbk [] R R<|Rt0 hm R [] (.cons (.tmp _ _ R) (.cons (.tmp _ _ R) (.cons (.tmp _ _ R) (.cons (.tmp _ _ R) .nil)))) R R) fun h8 hm=>Ai<|Ah<|Aa R R (Ak R)<|Bd hm fun v4 h9 hm=>Aa R R (C8 R R R Av h9)<|Ad R R<|A0 hm 0 R fn177 R (K83 _) fun r2 hm=>Aa R R (Aj R)<|Ac<|Ae<|Ah<|Ab tbk [] 3 R R<|Cy tbk [] 3 39 36 R R R R R<|Ac<|Am hm R (fun h12 hm=>Af tbk [] R R<|Rt0 hm R [] (.cons (.tmp _ _ R) (.cons (.tmp _ _ R) (.cons (.tmp _ _ R) (.cons (.tmp _ _ R) .nil)))) R R) fun h12 hm=>Ai<|Ah<|Ab tbk [] 3 R R<|Bd hm fun v5 h13 hm=>Aa R R (C8 R R R Av h13)<|Bd hm fun v6 h14 hm=>Aa R R (A8 R R h14)<|Bd hm fun v7 h15 hm=>Aa R R (C8 R R R Av h15)<|Ad R R<|A0 hm 0 R fn178 R (K84 _ _) fun r3 hm=>Ab tbk [] 5 R R<|Ac<|Ae<|A4 0 mixed<|An tbk [0,1,2,3,4] [] (by kernel_rfl) R R R<|Bd hm fun v8 h17 hm=>Aq 5 R R R (by kernel_rfl) (C8 R R R Av h17)<|An tbk [6,7,8,9] [] (by kernel_rfl) R R R<|Ay (by kernel_rfl)<|Rt0 hm R [] (.cons (.tmp _ _ R) (.cons (.tmp _ _ R) (.cons (.tmp _ _ R) (.cons (.tmp _ _ R) .nil)))) R R

/-! trireme/quant.place -/
def quant_place.l1 (s : ByteArray) (c : Int) : Nat → Int → Option (Out Int Unit)
 | 0, _ => none
 | n + 1, v2 =>
  if (decide (v2 < (s.size : Int))) = true then
   (V.gi s v2).bind fun v3 =>
   if (v3 == c) = true then
    some (Out.ret v2)
   else
    quant_place.l1 s c n (i64.wrap (v2 + 1))
  else
   some (Out.go ())
def quant_place (s : ByteArray) (c : Int) : Option Int :=
 (quant_place.l1 s c FU (0 : Int)).bind fun o =>
 o.on fun j =>
 some 0
theorem K140 (s : ByteArray) (c : Int) : VS Tryz.prog 205 (quant_place s c) [.str s, .int .u8 c] [] Iw N0 := by
 refine A6 [.tmp 4] Tryz.func205 R R R fun r hm=>?_
 unfold quant_place at hm
 refine Af tbk [] R R<|Ae<|Ah<|Aa R R (Ak R)<|Aa R R (Ca R Av)<|Aa R R (Ak R)<|Ac<|B2 hm (fun _ (_:Unit)=>[]) (fun _ (_:Unit)=>[]) (fun o hm h2=>?_) fun j _ hm=> ?_
 ·refine B3 (fun zn (zs:Int)=>quant_place.l1 s c zn zs) (fun zs (_:Unit)=>[(0,.str s),(1,.int .u8 c),(7,Iw (s.size : Int)),(8,Iw zs)]) (fun _ (_:Unit)=>[]) _ () (fun _=>R) hm (Ag [] R R) fun n v2 _ hm=> ?_
  rw [quant_place.l1] at hm
  exact Af tbk [] R R<|Ae<|Am hm R (fun h3 hm=>Ai<|Ae<|A1<|Af tbk [] R R<|Ah<|Ab tbk [] 2 R R<|Bd hm fun v3 h4 hm=>Aa R R (Cr R R Av h4)<|Ab tbk [] 2 R R<|Ac<|Am hm R (fun h5 hm=>Af tbk [] R R<|have hm:=Lr hm h2;Rt1 hm R [] R R R) fun h5 hm=>Ai<|Bb tbk [] R R<|Ap _ () hm (Ag [] R R)) fun h3 hm=>Ba<|Ar () hm (Ag [] R R)
 exact Af tbk [] R R<|Rt1 hm R [] R R R

/-! trireme/quant.unit$1 -/
def quant_unit_1.l1 (base : Int) (n : Int) : Nat → Int → Int → Option Int
 | 0, _, _ => none
 | n2 + 1, x2, v2 =>
  if (decide (v2 < n)) = true then
   quant_unit_1.l1 base n n2 (i64.wrap (x2 * base)) (i64.wrap (v2 + 1))
  else
   some x2
def quant_unit_1 (base : Int) (n : Int) : Option I_any20 :=
 (quant_unit_1.l1 base n FU 1000 (0 : Int)).bind fun x32 =>
 some (I_any20.c228 x32)
theorem K141 (base : Int) (n : Int) : VS Tryz.prog 204 (quant_unit_1 base n) [Iw base, Iw n] [] (fun r=>I_any20.vv r) N0 := by
 refine A6 [.tmp 4] Tryz.func204 R R R fun r hm=>?_
 unfold quant_unit_1 at hm
 refine Ah<|Aa R R (Dt 0 .any)<|Ac<|Af tbk [] R R<|Ae<|Af tbk [] R R<|Cp hm (fun x32 (_:Unit)=>[(5,Iw x32)]) (fun _ (_:Unit)=>[]) (fun o hm=>?_) fun x32 _ hm=> ?_
 ·refine B3 (fun zn (zs:Int × Int)=>quant_unit_1.l1 base n zn zs.1 zs.2) (fun zs (_:Unit)=>[(0,Iw base),(5,Iw zs.1),(6,Iw n),(7,Iw zs.2)]) (fun _ (_:Unit)=>[]) ((1000 : Int),(0 : Int)) () (fun _=>R) hm (Ag [] R R) fun n2=>Pq fun x2 v2 _ hm=> ?_
  rw [quant_unit_1.l1] at hm
  exact Af tbk [] R R<|Ae<|Am hm R (fun h3 hm=>Ai<|Ae<|A1<|Bb tbk [] R R<|Bb tbk [] R R<|Ap ((IntKind.i64.wrap (x2 * base)),(IntKind.i64.wrap (v2 + (1 : Int)))) () hm (Ag [] R R)) fun h3 hm=>Ba<|As () hm (Ag [] R R)
 exact Ah<|Aa R R (Ak R)<|Aa R R (Ci nif228 R)<|Aa R R (Aj R)<|Ac<|Rt1 hm R [] R R R

/-! trireme/quant.unit -/
def quant_unit (s : ByteArray) : Option I_any20 :=
 if (V.seq s (⟨#[]⟩ : ByteArray)) = true then
  some (I_any20.c228 1000)
 else
  if (V.seq s (⟨#[109]⟩ : ByteArray)) = true then
   some (I_any20.c228 1)
  else
   (if (V.seq s (⟨#[107]⟩ : ByteArray)) = true then
    some (V.seq s (⟨#[107]⟩ : ByteArray))
   else
    if (V.seq s (⟨#[77]⟩ : ByteArray)) = true then
     some (V.seq s (⟨#[77]⟩ : ByteArray))
    else
     if (V.seq s (⟨#[71]⟩ : ByteArray)) = true then
      some (V.seq s (⟨#[71]⟩ : ByteArray))
     else
      some (V.seq s (⟨#[84]⟩ : ByteArray))).bind fun v2 =>
   if v2 = true then
    (V.gi s (0 : Int)).bind fun v3 =>
    (quant_place (⟨#[107, 77, 71, 84]⟩ : ByteArray) v3).bind fun r =>
    (quant_unit_1 1000 (i64.wrap (1 + r))).bind fun r2 =>
    some r2
   else
    (if (V.seq s (⟨#[75, 105]⟩ : ByteArray)) = true then
     some (V.seq s (⟨#[75, 105]⟩ : ByteArray))
    else
     if (V.seq s (⟨#[77, 105]⟩ : ByteArray)) = true then
      some (V.seq s (⟨#[77, 105]⟩ : ByteArray))
     else
      if (V.seq s (⟨#[71, 105]⟩ : ByteArray)) = true then
       some (V.seq s (⟨#[71, 105]⟩ : ByteArray))
      else
       some (V.seq s (⟨#[84, 105]⟩ : ByteArray))).bind fun v42 =>
    if v42 = true then
     (V.gi s (0 : Int)).bind fun v5 =>
     (quant_place (⟨#[75, 77, 71, 84]⟩ : ByteArray) v5).bind fun r3 =>
     (quant_unit_1 1024 (i64.wrap (1 + r3))).bind fun r4 =>
     some r4
    else
     some (I_any20.c234 (⟨⟩ : T_quant_none))
theorem K142 (s : ByteArray) : VS Tryz.prog 200 (quant_unit s) [.str s] [] (fun r=>I_any20.vv r) N0 := by
 refine A6 [.tmp 2] Tryz.func200 R R R fun r hm=>?_
 unfold quant_unit at hm
 exact Ah<|Aa R R (Dt 0 .any)<|Ac<|Af tbk [] R R<|Ae<|Af tbk [] R R<|A1<|Af tbk [] R R<|Am hm R (fun h1 hm=>Ah<|Aa R R (Ci nif228 R)<|Aa R R (Aj R)<|Ac<|Rt1 hm R [] R R R) fun h1 hm=>Af tbk [] R R<|Am hm R (fun h2 hm=>Ah<|Aa R R (Ci nif228 R)<|Aa R R (Aj R)<|Ac<|Rt1 hm R [] R R R) fun h2 hm=>Cj hm (fun v2 (_:Unit)=>[(0,.str s),(3,.clo (.func 204) [] []),(4,.str s),(11,.bool v2)]) (fun _ (_:Unit)=>[]) (fun o hm=>Af tbk [] R R<|Am hm R (fun h5 hm=>Ai<|As () hm (Ag [] R R)) fun h5 hm=>Af tbk [] R R<|Am hm R (fun h6 hm=>Ai<|As () hm (Ag [] R R)) fun h6 hm=>Af tbk [] R R<|Am hm R (fun h7 hm=>Ai<|As () hm (Ag [] R R)) fun h7 hm=>Bb tbk [] R R<|As () hm (Ag [] R R)) fun v2 _ hm=>Am hm R (fun h8 hm=>Ah<|Ab tbk [] 2 R R<|Bd hm fun v3 h9 hm=>Aa R R (Cr R R Av h9)<|Ad R R<|A0 hm 0 R fn205 R (K140 _ _) fun r hm=>Aa R R (Bc R R R)<|Ad R R<|A0 hm 0 R fn204 R (K141 _ _) fun r2 hm=>Aa R R (Aj R)<|Ac<|Rt1 hm R [] R R R) fun h8 hm=>Cj hm (fun v42 (_:Unit)=>[(0,.str s),(3,.clo (.func 204) [] []),(22,.bool v42)]) (fun _ (_:Unit)=>[]) (fun o2 hm=>Af tbk [] R R<|Am hm R (fun h14 hm=>Ai<|As () hm (Ag [] R R)) fun h14 hm=>Af tbk [] R R<|Am hm R (fun h15 hm=>Ai<|As () hm (Ag [] R R)) fun h15 hm=>Af tbk [] R R<|Am hm R (fun h16 hm=>Ai<|As () hm (Ag [] R R)) fun h16 hm=>Bb tbk [] R R<|As () hm (Ag [] R R)) fun v42 _ hm=>Am hm R (fun h17 hm=>Ah<|Ab tbk [] 2 R R<|Bd hm fun v5 h18 hm=>Aa R R (Cr R R Av h18)<|Ad R R<|A0 hm 0 R fn205 R (K140 _ _) fun r3 hm=>Aa R R (Bc R R R)<|Ad R R<|A0 hm 0 R fn204 R (K141 _ _) fun r4 hm=>Aa R R (Aj R)<|Ac<|Rt1 hm R [] R R R) fun h17 hm=>Ai<|Ah<|Aa R R (A7 pl234 R R)<|Aa R R (Ci nif234 R)<|Aa R R (Aj R)<|Ac<|Rt1 hm R [] R R R

/-! trireme/quant.exact -/
def quant_exact.l1 (whole : ByteArray) (each : Int) : Nat → Int → Int → Option Int
 | 0, _, _ => none
 | n + 1, rest_2, v2 =>
  if (decide (v2 < (whole.size : Int))) = true then
   (V.gi whole v2).bind fun v3 =>
   (V.rem (i64.wrap ((i64.wrap (10 * rest_2)) + (i64.wrap (IntKind.u8.wrap (v3 - 48))))) each).bind fun v4 =>
   quant_exact.l1 whole each n v4 (i64.wrap (v2 + 1))
  else
   some rest_2
def quant_exact (whole : ByteArray) (part : Int) (u : Int) (each : Int) : Option Bool :=
 (quant_exact.l1 whole each FU 0 (0 : Int)).bind fun rest_32 =>
 (V.rem (i64.wrap ((i64.wrap (rest_32 * 1000)) + part)) each).bind fun v5 =>
 (V.rem u each).bind fun v6 =>
 (V.rem (i64.wrap (v5 * v6)) each).bind fun v7 =>
 some (v7 == 0)
theorem K143 (whole : ByteArray) (part : Int) (u : Int) (each : Int) : VS Tryz.prog 201 (quant_exact whole part u each) [.str whole, Iw part, Iw u, Iw each] [] .bool N0 := by
 refine A6 [.tmp 8] Tryz.func201 R R R fun r hm=>?_
 unfold quant_exact at hm
 refine Af tbk [] R R<|Af tbk [] R R<|Ae<|Ah<|Aa R R (Ak R)<|Aa R R (Ca R Av)<|Aa R R (Ak R)<|Ac<|Cp hm (fun rest_32 (_:Unit)=>[(1,Iw part),(2,Iw u),(3,Iw each),(9,Iw rest_32)]) (fun _ (_:Unit)=>[]) (fun o hm=>?_) fun rest_32 _ hm=> ?_
 ·refine B3 (fun zn (zs:Int × Int)=>quant_exact.l1 whole each zn zs.1 zs.2) (fun zs (_:Unit)=>[(0,.str whole),(1,Iw part),(2,Iw u),(3,Iw each),(9,Iw zs.1),(12,Iw (whole.size : Int)),(13,Iw zs.2)]) (fun _ (_:Unit)=>[]) ((0 : Int),(0 : Int)) () (fun _=>R) hm (Ag [] R R) fun n=>Pq fun rest_2 v2 _ hm=> ?_
  rw [quant_exact.l1] at hm
  exact Af tbk [] R R<|Ae<|Am hm R (fun h3 hm=>Ai<|Ae<|A1<|Af tbk [] R R<|Be<|Ab tbk [] 4 R R<|Bd hm fun v3 h4 hm=>Aa R R (Cr R R Av h4)<|Aa R R (Bc R R R)<|Aa R R (Cf Bq Bx R)<|Ab tbk [] 2 R R<|Bd hm fun v4 h5 hm=>Aa R R (C9 R R h5)<|Aa R R (Aj R)<|Ac<|Bb tbk [] R R<|Ap (v4,(IntKind.i64.wrap (v2 + (1 : Int)))) () hm (Ag [] R R)) fun h3 hm=>Ba<|As () hm (Ag [] R R)
 exact Ah<|Ab tbk [] 5 R R<|Bd hm fun v5 h6 hm=>Aa R R (C9 R R h6)<|Aa R R (Aj R)<|Ac<|Ah<|Ab tbk [] 3 R R<|Bd hm fun v6 h7 hm=>Aa R R (C9 R R h7)<|Ab tbk [] 2 R R<|Bd hm fun v7 h8 hm=>Aa R R (C9 R R h8)<|Ab tbk [] 2 R R<|Ac<|Rt1 hm R [] R R R

/-! math/bits.Mul64 -/
def math_bits_Mul64 (x : Int) (y : Int) : Option (Int × Int) :=
 (V.shr .u64 x (32 : Int)).bind fun v =>
 (V.shr .u64 y (32 : Int)).bind fun v2 =>
 (V.shr .u64 (IntKind.u64.wrap ((V.bAnd .u64 x 4294967295) * (V.bAnd .u64 y 4294967295))) (32 : Int)).bind fun v3 =>
 (V.shr .u64 (IntKind.u64.wrap ((IntKind.u64.wrap (v * (V.bAnd .u64 y 4294967295))) + v3)) (32 : Int)).bind fun v4 =>
 (V.shr .u64 (IntKind.u64.wrap ((V.bAnd .u64 (IntKind.u64.wrap ((IntKind.u64.wrap (v * (V.bAnd .u64 y 4294967295))) + v3)) 4294967295) + (IntKind.u64.wrap ((V.bAnd .u64 x 4294967295) * v2)))) (32 : Int)).bind fun v5 =>
 some ((IntKind.u64.wrap ((IntKind.u64.wrap ((IntKind.u64.wrap (v * v2)) + v4)) + v5)), (IntKind.u64.wrap (x * y)))
theorem K144 (x : Int) (y : Int) : VS Tryz.prog 206 (math_bits_Mul64 x y) [.int .u64 x, .int .u64 y] [] (fun r=>.tup [.int .u64 r.1, .int .u64 r.2]) N0 := by
 refine A6 [.tmp 4,.tmp 5] Tryz.func206 R R R fun r hm=>?_
 unfold math_bits_Mul64 at hm
 exact Af tbk [] R R<|Ah<|Aa R R (Ak R)<|Aa R R (D1 R R)<|Aa R R (Aj R)<|Ac<|Ah<|Aa R R (Ak R)<|Bd hm fun v h1 hm=>Aa R R (C6 R R h1)<|Aa R R (Aj R)<|Ac<|Ah<|Aa R R (Ak R)<|Aa R R (D1 R R)<|Aa R R (Aj R)<|Ac<|Ah<|Aa R R (Ak R)<|Bd hm fun v2 h2 hm=>Aa R R (C6 R R h2)<|Aa R R (Aj R)<|Ac<|Af tbk [] R R<|Ah<|Ab tbk [] 4 R R<|Bd hm fun v3 h3 hm=>Aa R R (C6 R R h3)<|Ab tbk [] 2 R R<|Ac<|Ah<|Aa R R (Ak R)<|Aa R R (D1 R R)<|Aa R R (Aj R)<|Ac<|Ah<|Aa R R (Ak R)<|Bd hm fun v4 h4 hm=>Aa R R (C6 R R h4)<|Aa R R (Aj R)<|Ac<|Af tbk [] R R<|Ah<|Ab tbk [] 6 R R<|Bd hm fun v5 h5 hm=>Aa R R (C6 R R h5)<|Ab tbk [] 2 R R<|Ac<|Af tbk [] R R<|Rt2 hm R [] R R R R

/-! math/bits.Len64 -/
def math_bits_Len64 (x : Int) : Option Int :=
 (if (decide (x ≥ 4294967296)) = true then
  (V.shr .u64 x (32 : Int)).bind fun v =>
  some (v, 32)
 else
  some (x, 0)).bind fun j =>
 if (decide (j.1 ≥ 65536)) = true then
  (V.shr .u64 j.1 (16 : Int)).bind fun v2 =>
  if (decide (v2 ≥ 256)) = true then
   (V.shr .u64 v2 (8 : Int)).bind fun v3 =>
   (V.gi (⟨#[0, 1, 2, 2, 3, 3, 3, 3, 4, 4, 4, 4, 4, 4, 4, 4, 5, 5, 5, 5, 5, 5, 5, 5, 5, 5, 5, 5, 5, 5, 5, 5, 6, 6, 6, 6, 6, 6, 6, 6, 6, 6, 6, 6, 6, 6, 6, 6, 6, 6, 6, 6, 6, 6, 6, 6, 6, 6, 6, 6, 6, 6, 6, 6, 7, 7, 7, 7, 7, 7, 7, 7, 7, 7, 7, 7, 7, 7, 7, 7, 7, 7, 7, 7, 7, 7, 7, 7, 7, 7, 7, 7, 7, 7, 7, 7, 7, 7, 7, 7, 7, 7, 7, 7, 7, 7, 7, 7, 7, 7, 7, 7, 7, 7, 7, 7, 7, 7, 7, 7, 7, 7, 7, 7, 7, 7, 7, 7, 8, 8, 8, 8, 8, 8, 8, 8, 8, 8, 8, 8, 8, 8, 8, 8, 8, 8, 8, 8, 8, 8, 8, 8, 8, 8, 8, 8, 8, 8, 8, 8, 8, 8, 8, 8, 8, 8, 8, 8, 8, 8, 8, 8, 8, 8, 8, 8, 8, 8, 8, 8, 8, 8, 8, 8, 8, 8, 8, 8, 8, 8, 8, 8, 8, 8, 8, 8, 8, 8, 8, 8, 8, 8, 8, 8, 8, 8, 8, 8, 8, 8, 8, 8, 8, 8, 8, 8, 8, 8, 8, 8, 8, 8, 8, 8, 8, 8, 8, 8, 8, 8, 8, 8, 8, 8, 8, 8, 8, 8, 8, 8, 8, 8, 8, 8, 8, 8, 8, 8, 8, 8, 8, 8, 8, 8, 8, 8]⟩ : ByteArray) (IntKind.u8.wrap v3)).bind fun v4 =>
   some (i64.wrap ((i64.wrap ((i64.wrap (j.2 + 16)) + 8)) + (i64.wrap v4)))
  else
   (V.gi (⟨#[0, 1, 2, 2, 3, 3, 3, 3, 4, 4, 4, 4, 4, 4, 4, 4, 5, 5, 5, 5, 5, 5, 5, 5, 5, 5, 5, 5, 5, 5, 5, 5, 6, 6, 6, 6, 6, 6, 6, 6, 6, 6, 6, 6, 6, 6, 6, 6, 6, 6, 6, 6, 6, 6, 6, 6, 6, 6, 6, 6, 6, 6, 6, 6, 7, 7, 7, 7, 7, 7, 7, 7, 7, 7, 7, 7, 7, 7, 7, 7, 7, 7, 7, 7, 7, 7, 7, 7, 7, 7, 7, 7, 7, 7, 7, 7, 7, 7, 7, 7, 7, 7, 7, 7, 7, 7, 7, 7, 7, 7, 7, 7, 7, 7, 7, 7, 7, 7, 7, 7, 7, 7, 7, 7, 7, 7, 7, 7, 8, 8, 8, 8, 8, 8, 8, 8, 8, 8, 8, 8, 8, 8, 8, 8, 8, 8, 8, 8, 8, 8, 8, 8, 8, 8, 8, 8, 8, 8, 8, 8, 8, 8, 8, 8, 8, 8, 8, 8, 8, 8, 8, 8, 8, 8, 8, 8, 8, 8, 8, 8, 8, 8, 8, 8, 8, 8, 8, 8, 8, 8, 8, 8, 8, 8, 8, 8, 8, 8, 8, 8, 8, 8, 8, 8, 8, 8, 8, 8, 8, 8, 8, 8, 8, 8, 8, 8, 8, 8, 8, 8, 8, 8, 8, 8, 8, 8, 8, 8, 8, 8, 8, 8, 8, 8, 8, 8, 8, 8, 8, 8, 8, 8, 8, 8, 8, 8, 8, 8, 8, 8, 8, 8, 8, 8, 8, 8]⟩ : ByteArray) (IntKind.u8.wrap v2)).bind fun v5 =>
   some (i64.wrap ((i64.wrap (j.2 + 16)) + (i64.wrap v5)))
 else
  if (decide (j.1 ≥ 256)) = true then
   (V.shr .u64 j.1 (8 : Int)).bind fun v6 =>
   (V.gi (⟨#[0, 1, 2, 2, 3, 3, 3, 3, 4, 4, 4, 4, 4, 4, 4, 4, 5, 5, 5, 5, 5, 5, 5, 5, 5, 5, 5, 5, 5, 5, 5, 5, 6, 6, 6, 6, 6, 6, 6, 6, 6, 6, 6, 6, 6, 6, 6, 6, 6, 6, 6, 6, 6, 6, 6, 6, 6, 6, 6, 6, 6, 6, 6, 6, 7, 7, 7, 7, 7, 7, 7, 7, 7, 7, 7, 7, 7, 7, 7, 7, 7, 7, 7, 7, 7, 7, 7, 7, 7, 7, 7, 7, 7, 7, 7, 7, 7, 7, 7, 7, 7, 7, 7, 7, 7, 7, 7, 7, 7, 7, 7, 7, 7, 7, 7, 7, 7, 7, 7, 7, 7, 7, 7, 7, 7, 7, 7, 7, 8, 8, 8, 8, 8, 8, 8, 8, 8, 8, 8, 8, 8, 8, 8, 8, 8, 8, 8, 8, 8, 8, 8, 8, 8, 8, 8, 8, 8, 8, 8, 8, 8, 8, 8, 8, 8, 8, 8, 8, 8, 8, 8, 8, 8, 8, 8, 8, 8, 8, 8, 8, 8, 8, 8, 8, 8, 8, 8, 8, 8, 8, 8, 8, 8, 8, 8, 8, 8, 8, 8, 8, 8, 8, 8, 8, 8, 8, 8, 8, 8, 8, 8, 8, 8, 8, 8, 8, 8, 8, 8, 8, 8, 8, 8, 8, 8, 8, 8, 8, 8, 8, 8, 8, 8, 8, 8, 8, 8, 8, 8, 8, 8, 8, 8, 8, 8, 8, 8, 8, 8, 8, 8, 8, 8, 8, 8, 8]⟩ : ByteArray) (IntKind.u8.wrap v6)).bind fun v7 =>
   some (i64.wrap ((i64.wrap (j.2 + 8)) + (i64.wrap v7)))
  else
   (V.gi (⟨#[0, 1, 2, 2, 3, 3, 3, 3, 4, 4, 4, 4, 4, 4, 4, 4, 5, 5, 5, 5, 5, 5, 5, 5, 5, 5, 5, 5, 5, 5, 5, 5, 6, 6, 6, 6, 6, 6, 6, 6, 6, 6, 6, 6, 6, 6, 6, 6, 6, 6, 6, 6, 6, 6, 6, 6, 6, 6, 6, 6, 6, 6, 6, 6, 7, 7, 7, 7, 7, 7, 7, 7, 7, 7, 7, 7, 7, 7, 7, 7, 7, 7, 7, 7, 7, 7, 7, 7, 7, 7, 7, 7, 7, 7, 7, 7, 7, 7, 7, 7, 7, 7, 7, 7, 7, 7, 7, 7, 7, 7, 7, 7, 7, 7, 7, 7, 7, 7, 7, 7, 7, 7, 7, 7, 7, 7, 7, 7, 8, 8, 8, 8, 8, 8, 8, 8, 8, 8, 8, 8, 8, 8, 8, 8, 8, 8, 8, 8, 8, 8, 8, 8, 8, 8, 8, 8, 8, 8, 8, 8, 8, 8, 8, 8, 8, 8, 8, 8, 8, 8, 8, 8, 8, 8, 8, 8, 8, 8, 8, 8, 8, 8, 8, 8, 8, 8, 8, 8, 8, 8, 8, 8, 8, 8, 8, 8, 8, 8, 8, 8, 8, 8, 8, 8, 8, 8, 8, 8, 8, 8, 8, 8, 8, 8, 8, 8, 8, 8, 8, 8, 8, 8, 8, 8, 8, 8, 8, 8, 8, 8, 8, 8, 8, 8, 8, 8, 8, 8, 8, 8, 8, 8, 8, 8, 8, 8, 8, 8, 8, 8, 8, 8, 8, 8, 8, 8]⟩ : ByteArray) (IntKind.u8.wrap j.1)).bind fun v8 =>
   some (i64.wrap (j.2 + (i64.wrap v8)))
theorem K145 (x : Int) : VS Tryz.prog 212 (math_bits_Len64 x) [.int .u64 x] [] Iw N0 := by
 refine A6 [.tmp 2] Tryz.func212 R R R fun r hm=>?_
 unfold math_bits_Len64 at hm
 exact Af tbk [] R R<|Cj hm (fun j (_:Unit)=>[(0,.int .u64 j.1),(2,Iw j.2)]) (fun _ (_:Unit)=>[]) (fun o hm=>Af tbk [] R R<|Am hm R (fun h3 hm=>Ah<|Aa R R (Ak R)<|Bd hm fun v h4 hm=>Aa R R (C6 R R h4)<|Aa R R (Aj R)<|Ac<|Bb tbk [] R R<|As () hm (Ag [] R R)) fun h3 hm=>Ai<|As () hm (Ag [] R R)) fun j _ hm=>Ae<|Af tbk [] R R<|Am hm R (fun h5 hm=>Ah<|Aa R R (Ak R)<|Bd hm fun v2 h6 hm=>Aa R R (C6 R R h6)<|Aa R R (Aj R)<|Ac<|Bb tbk [] R R<|Ae<|Af tbk [] R R<|Am hm R (fun h7 hm=>Ah<|Aa R R (Ak R)<|Bd hm fun v3 h8 hm=>Aa R R (C6 R R h8)<|Aa R R (Aj R)<|Ac<|Bb tbk [] R R<|Ah<|Ab tbk [] 2 R R<|Aa R R (Cf Cw Bq R)<|Bd hm fun v4 h9 hm=>Aa R R (Cr R R Av h9)<|Aa R R (Cf Bq Bx R)<|Ab tbk [] 2 R R<|Ac<|Rt1 hm R [] R R R) fun h7 hm=>Ai<|Ah<|Ab tbk [] 2 R R<|Aa R R (Cf Cw Bq R)<|Bd hm fun v5 h10 hm=>Aa R R (Cr R R Av h10)<|Aa R R (Cf Bq Bx R)<|Ab tbk [] 2 R R<|Ac<|Rt1 hm R [] R R R) fun h5 hm=>Ai<|Ae<|Af tbk [] R R<|Am hm R (fun h11 hm=>Ah<|Aa R R (Ak R)<|Bd hm fun v6 h12 hm=>Aa R R (C6 R R h12)<|Aa R R (Aj R)<|Ac<|Bb tbk [] R R<|Ah<|Ab tbk [] 2 R R<|Aa R R (Cf Cw Bq R)<|Bd hm fun v7 h13 hm=>Aa R R (Cr R R Av h13)<|Aa R R (Cf Bq Bx R)<|Ab tbk [] 2 R R<|Ac<|Rt1 hm R [] R R R) fun h11 hm=>Ai<|Ah<|Ab tbk [] 2 R R<|Aa R R (Cf Cw Bq R)<|Bd hm fun v8 h14 hm=>Aa R R (Cr R R Av h14)<|Aa R R (Cf Bq Bx R)<|Ab tbk [] 2 R R<|Ac<|Rt1 hm R [] R R R

/-! math/bits.LeadingZeros64 -/
def math_bits_LeadingZeros64 (x : Int) : Option Int :=
 (math_bits_Len64 x).bind fun r =>
 some (i64.wrap (64 - r))
theorem K146 (x : Int) : VS Tryz.prog 211 (math_bits_LeadingZeros64 x) [.int .u64 x] [] Iw N0 := by
 refine A6 [.tmp 2] Tryz.func211 R R R fun r hm=>?_
 unfold math_bits_LeadingZeros64 at hm
 exact Af tbk [] R R<|Ah<|Aa R R (Ak R)<|Ad R R<|A0 hm 0 R fn212 R (K145 _) fun r hm=>Ab tbk [] 2 R R<|Ac<|Rt1 hm R [] R R R

/-! math/bits.Div64 -/
def math_bits_Div64.l1 (v3 : Int) (v4 : Int) (v8 : Int) : Nat → Int → Int → Option Int
 | 0, _, _ => none
 | n + 1, q12, rhat2 =>
  if ((decide (q12 ≥ 4294967296)) || (decide ((IntKind.u64.wrap (q12 * (V.bAnd .u64 v3 4294967295))) > (IntKind.u64.wrap ((IntKind.u64.wrap (4294967296 * rhat2)) + v8))))) = true then
   if (decide ((IntKind.u64.wrap (rhat2 + v4)) ≥ 4294967296)) = true then
    some (IntKind.u64.wrap (q12 - 1))
   else
    math_bits_Div64.l1 v3 v4 v8 n (IntKind.u64.wrap (q12 - 1)) (IntKind.u64.wrap (rhat2 + v4))
  else
   some q12
def math_bits_Div64.l2 (v3 : Int) (v4 : Int) (v7 : Int) : Nat → Int → Int → Option Int
 | 0, _, _ => none
 | n2 + 1, rhat4, q02 =>
  if ((decide (q02 ≥ 4294967296)) || (decide ((IntKind.u64.wrap (q02 * (V.bAnd .u64 v3 4294967295))) > (IntKind.u64.wrap ((IntKind.u64.wrap (4294967296 * rhat4)) + (V.bAnd .u64 v7 4294967295)))))) = true then
   if (decide ((IntKind.u64.wrap (rhat4 + v4)) ≥ 4294967296)) = true then
    some (IntKind.u64.wrap (q02 - 1))
   else
    math_bits_Div64.l2 v3 v4 v7 n2 (IntKind.u64.wrap (rhat4 + v4)) (IntKind.u64.wrap (q02 - 1))
  else
   some q02
def math_bits_Div64 (hi : Int) (lo : Int) (y : Int) : Option (Int × Int) :=
 if (y == 0) = true then
  none
 else
  if (decide (y ≤ hi)) = true then
   none
  else
   if (hi == 0) = true then
    (V.quo lo y).bind fun v =>
    (V.rem lo y).bind fun v2 =>
    some ((IntKind.u64.wrap v), v2)
   else
    (math_bits_LeadingZeros64 y).bind fun r =>
    (V.shl .u64 y (IntKind.u64.wrap r)).bind fun v3 =>
    (V.shr .u64 v3 (32 : Int)).bind fun v4 =>
    (V.shl .u64 hi (IntKind.u64.wrap r)).bind fun v5 =>
    (V.shr .u64 lo (IntKind.u64.wrap (64 - (IntKind.u64.wrap r)))).bind fun v6 =>
    (V.shl .u64 lo (IntKind.u64.wrap r)).bind fun v7 =>
    (V.shr .u64 v7 (32 : Int)).bind fun v8 =>
    (V.quo (V.bOr .u64 v5 v6) v4).bind fun v9 =>
    (math_bits_Div64.l1 v3 v4 v8 FU (IntKind.u64.wrap v9) (IntKind.u64.wrap ((V.bOr .u64 v5 v6) - (IntKind.u64.wrap ((IntKind.u64.wrap v9) * v4))))).bind fun q132 =>
    (V.quo (IntKind.u64.wrap ((IntKind.u64.wrap ((IntKind.u64.wrap ((V.bOr .u64 v5 v6) * 4294967296)) + v8)) - (IntKind.u64.wrap (q132 * v3)))) v4).bind fun v10 =>
    (math_bits_Div64.l2 v3 v4 v7 FU (IntKind.u64.wrap ((IntKind.u64.wrap ((IntKind.u64.wrap ((IntKind.u64.wrap ((V.bOr .u64 v5 v6) * 4294967296)) + v8)) - (IntKind.u64.wrap (q132 * v3)))) - (IntKind.u64.wrap ((IntKind.u64.wrap v10) * v4)))) (IntKind.u64.wrap v10)).bind fun q032 =>
    (V.shr .u64 (IntKind.u64.wrap ((IntKind.u64.wrap ((IntKind.u64.wrap ((IntKind.u64.wrap ((IntKind.u64.wrap ((IntKind.u64.wrap ((V.bOr .u64 v5 v6) * 4294967296)) + v8)) - (IntKind.u64.wrap (q132 * v3)))) * 4294967296)) + (V.bAnd .u64 v7 4294967295))) - (IntKind.u64.wrap (q032 * v3)))) (IntKind.u64.wrap r)).bind fun v11 =>
    some ((IntKind.u64.wrap ((IntKind.u64.wrap (q132 * 4294967296)) + q032)), v11)
theorem K147 (hi : Int) (lo : Int) (y : Int) : VS Tryz.prog 207 (math_bits_Div64 hi lo y) [.int .u64 hi, .int .u64 lo, .int .u64 y] [] (fun r=>.tup [.int .u64 r.1, .int .u64 r.2]) N0 := by
 refine A6 [.tmp 6,.tmp 7] Tryz.func207 R R R fun r hm=>?_
 unfold math_bits_Div64 at hm
 refine Af tbk [] R R<|Ae<|Af tbk [] R R<|Am hm R (fun h1 hm=>absurd hm nofun) fun h1 hm=>Ai<|Ae<|Af tbk [] R R<|Am hm R (fun h2 hm=>absurd hm nofun) fun h2 hm=>Ai<|Ae<|Af tbk [] R R<|Am hm R (fun h3 hm=>Ae<|A4 0 mixed<|An tbk [0,1] [] (by kernel_rfl) R R R<|Bd hm fun v h4 hm=>Aq 2 R R R (by kernel_rfl) (C5 R R h4)<|An tbk [3,4] [] (by kernel_rfl) R R R<|Bd hm fun v2 h5 hm=>Aq 5 R R R (by kernel_rfl) (C9 R R h5)<|An tbk [6,7] [] (by kernel_rfl) R R R<|Ay (by kernel_rfl)<|Rt2 hm R [] R R R R) fun h3 hm=>Ai<|Ah<|Aa R R (Ak R)<|Ad R R<|A0 hm 0 R fn211 R (K146 _) fun r hm=>Aa R R (Cf Bx Dx R)<|Aa R R (Aj R)<|Ac<|Ah<|Ab tbk [] 2 R R<|Bd hm fun v3 h7 hm=>Aa R R (VP.shlT R R h7)<|Aa R R (Aj R)<|Ac<|Ah<|Aa R R (Ak R)<|Bd hm fun v4 h8 hm=>Aa R R (C6 R R h8)<|Aa R R (Aj R)<|Ac<|Ah<|Aa R R (Ak R)<|Aa R R (D1 R R)<|Aa R R (Aj R)<|Ac<|Ah<|Ab tbk [] 2 R R<|Bd hm fun v5 h9 hm=>Aa R R (VP.shlT R R h9)<|Ab tbk [] 3 R R<|Bd hm fun v6 h10 hm=>Aa R R (C6 R R h10)<|Aa R R (VP.orT R R)<|Aa R R (Aj R)<|Ac<|Ah<|Ab tbk [] 2 R R<|Bd hm fun v7 h11 hm=>Aa R R (VP.shlT R R h11)<|Aa R R (Aj R)<|Ac<|Ah<|Aa R R (Ak R)<|Bd hm fun v8 h12 hm=>Aa R R (C6 R R h12)<|Aa R R (Aj R)<|Ac<|Ah<|Aa R R (Ak R)<|Aa R R (D1 R R)<|Aa R R (Aj R)<|Ac<|Ah<|Ab tbk [] 2 R R<|Bd hm fun v9 h13 hm=>Aa R R (C5 R R h13)<|Aa R R (Aj R)<|Ac<|Af tbk [] R R<|Cj hm (fun q132 (_:Unit)=>[(2,.int .u64 v3),(8,.int .u64 (IntKind.u64.wrap r)),(9,.int .u64 v4),(10,.int .u64 (V.bAnd .u64 v3 (4294967295 : Int))),(11,.int .u64 (V.bOr .u64 v5 v6)),(13,.int .u64 v8),(14,.int .u64 (V.bAnd .u64 v7 (4294967295 : Int))),(15,.int .u64 q132)]) (fun _ (_:Unit)=>[]) (fun o hm=>?_) fun q132 _ hm=> ?_
 ·refine B3 (fun zn (zs:Int × Int)=>math_bits_Div64.l1 v3 v4 v8 zn zs.1 zs.2) (fun zs (_:Unit)=>[(2,.int .u64 v3),(8,.int .u64 (IntKind.u64.wrap r)),(9,.int .u64 v4),(10,.int .u64 (V.bAnd .u64 v3 (4294967295 : Int))),(11,.int .u64 (V.bOr .u64 v5 v6)),(13,.int .u64 v8),(14,.int .u64 (V.bAnd .u64 v7 (4294967295 : Int))),(15,.int .u64 zs.1),(16,.int .u64 zs.2)]) (fun _ (_:Unit)=>[]) ((IntKind.u64.wrap v9),(IntKind.u64.wrap ((V.bOr .u64 v5 v6) - (IntKind.u64.wrap ((IntKind.u64.wrap v9) * v4))))) () (fun _=>R) hm (Ag [] R R) fun n=>Pq fun q12 rhat2 _ hm=> ?_
  rw [math_bits_Div64.l1] at hm
  exact Ae<|Ah<|Ab tbk [] 3 R R<|Cy tbk [] 9 78 69 R R R R R<|Ac<|Am hm R (fun h17 hm=>Ai<|A1<|Af tbk [] R R<|Af tbk [] R R<|Af tbk [] R R<|Am hm R (fun h18 hm=>Ba<|As () hm (Ag [] R R)) fun h18 hm=>Ai<|Ap ((IntKind.u64.wrap (q12 - (1 : Int))),(IntKind.u64.wrap (rhat2 + v4))) () hm (Ag [] R R)) fun h17 hm=>Ba<|As () hm (Ag [] R R)
 refine Af tbk [] R R<|Ah<|Ab tbk [] 2 R R<|Bd hm fun v10 h19 hm=>Aa R R (C5 R R h19)<|Aa R R (Aj R)<|Ac<|Af tbk [] R R<|Cj hm (fun q032 (_:Unit)=>[(2,.int .u64 v3),(8,.int .u64 (IntKind.u64.wrap r)),(14,.int .u64 (V.bAnd .u64 v7 (4294967295 : Int))),(15,.int .u64 q132),(17,.int .u64 (IntKind.u64.wrap ((IntKind.u64.wrap ((IntKind.u64.wrap ((V.bOr .u64 v5 v6) * (4294967296 : Int))) + v8)) - (IntKind.u64.wrap (q132 * v3))))),(18,.int .u64 q032)]) (fun _ (_:Unit)=>[]) (fun o2 hm=>?_) fun q032 _ hm=> ?_
 ·refine B3 (fun zn (zs:Int × Int)=>math_bits_Div64.l2 v3 v4 v7 zn zs.1 zs.2) (fun zs (_:Unit)=>[(2,.int .u64 v3),(8,.int .u64 (IntKind.u64.wrap r)),(9,.int .u64 v4),(10,.int .u64 (V.bAnd .u64 v3 (4294967295 : Int))),(14,.int .u64 (V.bAnd .u64 v7 (4294967295 : Int))),(15,.int .u64 q132),(16,.int .u64 zs.1),(17,.int .u64 (IntKind.u64.wrap ((IntKind.u64.wrap ((IntKind.u64.wrap ((V.bOr .u64 v5 v6) * (4294967296 : Int))) + v8)) - (IntKind.u64.wrap (q132 * v3))))),(18,.int .u64 zs.2)]) (fun _ (_:Unit)=>[]) ((IntKind.u64.wrap ((IntKind.u64.wrap ((IntKind.u64.wrap ((IntKind.u64.wrap ((V.bOr .u64 v5 v6) * (4294967296 : Int))) + v8)) - (IntKind.u64.wrap (q132 * v3)))) - (IntKind.u64.wrap ((IntKind.u64.wrap v10) * v4)))),(IntKind.u64.wrap v10)) () (fun _=>R) hm (Ag [] R R) fun n2=>Pq fun rhat4 q02 _ hm=> ?_
  rw [math_bits_Div64.l2] at hm
  exact Ae<|Ah<|Ab tbk [] 3 R R<|Cy tbk [] 9 113 104 R R R R R<|Ac<|Am hm R (fun h23 hm=>Ai<|A1<|Af tbk [] R R<|Af tbk [] R R<|Af tbk [] R R<|Am hm R (fun h24 hm=>Ba<|As () hm (Ag [] R R)) fun h24 hm=>Ai<|Ap ((IntKind.u64.wrap (rhat4 + v4)),(IntKind.u64.wrap (q02 - (1 : Int)))) () hm (Ag [] R R)) fun h23 hm=>Ba<|As () hm (Ag [] R R)
 exact Ah<|Ab tbk [] 13 R R<|Bd hm fun v11 h25 hm=>Aa R R (C6 R R h25)<|Ab tbk [] 2 R R<|Ac<|Rt2 hm R [] R R R R

/-! trireme/quant.whole -/
def quant_whole (s : ByteArray) (part : Int) (u : Int) (each : Int) : Option (Int × Bool) :=
 if (u == 1) = true then
  (quant_value s (1125899906842624000 : Int)).bind fun r =>
  (V.quo each (1000 : Int)).bind fun v =>
  (V.quo r.1 (i64.wrap v)).bind fun v2 =>
  some ((i64.wrap v2), r.2)
 else
  (quant_value s (1125899906842624 : Int)).bind fun r2 =>
  (math_bits_Mul64 (IntKind.u64.wrap (i64.wrap ((i64.wrap (r2.1 * 1000)) + part))) (IntKind.u64.wrap u)).bind fun r3 =>
  if ((!r2.2) || (decide (r3.1 ≥ (IntKind.u64.wrap each)))) = true then
   some (0, false)
  else
   (math_bits_Div64 r3.1 r3.2 (IntKind.u64.wrap each)).bind fun r4 =>
   some ((i64.wrap (min r4.1 1125899906842625)), true)
theorem K148 (s : ByteArray) (part : Int) (u : Int) (each : Int) : VS Tryz.prog 202 (quant_whole s part u each) [.str s, Iw part, Iw u, Iw each] [] (fun r=>.tup [Iw r.1, .bool r.2]) N0 := by
 refine A6 [.tmp 8,.tmp 9] Tryz.func202 R R R fun r hm=>?_
 unfold quant_whole at hm
 exact Af tbk [] R R<|Ae<|Af tbk [] R R<|Am hm R (fun h1 hm=>Ah<|Aa R R (Ak R)<|Ad R R<|A0 hm 0 R fn178 R (K84 _ _) fun r hm=>Ab tbk [] 5 R R<|Ac<|Ah<|Ab tbk [] 2 R R<|Bd hm fun v h3 hm=>Aa R R (C5 R R h3)<|Bd hm fun v2 h4 hm=>Aa R R (C5 R R h4)<|Ab tbk [] 3 R R<|Ac<|Rt2 hm R [] R R R R) fun h1 hm=>Ai<|Ah<|Aa R R (Ak R)<|Ad R R<|A0 hm 0 R fn178 R (K84 _ _) fun r2 hm=>Ab tbk [] 5 R R<|Ac<|Ah<|Ab tbk [] 4 R R<|Aa R R (Cf Bx Cw R)<|Aa R R (Ak R)<|Aa R R (Cf Tryz.underlying228 Cw R)<|Ad R R<|A0 hm 0 R fn206 R (K144 _ _) fun r3 hm=>Ab tbk [] 5 R R<|Ac<|Ae<|Ah<|Ab tbk [] 3 R R<|C0 5 53 48 R (fun K' J=>Ab tbk [] 5 R R<|J 4 R R R) (fun h7 K' J=>Ab tbk [] 2 R R<|Bo R R R R R (Cf Bx Cw R)<|Ab tbk [] 2 R R<|J 4 R R R)<|Ac<|Am hm R (fun h8 hm=>Af tbk [] R R<|Rt2 hm R [] R R R R) fun h8 hm=>Ai<|Ah<|Ab tbk [] 3 R R<|Aa R R (Cf Bx Cw R)<|Ad R R<|A0 hm 0 R fn207 R (K147 _ _ _) fun r4 hm=>Ab tbk [] 5 R R<|Ac<|Ah<|Aa R R (Ak R)<|Aa R R (VP.min2 R R)<|Aa R R (Cf Cw Bx R)<|Ab tbk [] 2 R R<|Ac<|Rt2 hm R [] R R R R

/-! trireme/quant.amount -/
def quant_amount (s : ByteArray) (each : Int) : Option (Int × Int) :=
 (quant_cut s).bind fun r =>
 if (r.2.2.2 != 0) = true then
  some (0, r.2.2.2)
 else
  (quant_unit r.2.2.1).bind fun r2 =>
  if (I_any20.is228 r2) = true then
   (quant_exact r.1 r.2.1 (I_any20.as228 r2) each).bind fun r3 =>
   if (!r3) = true then
    some (0, 8)
   else
    (quant_whole r.1 r.2.1 (I_any20.as228 r2) each).bind fun r4 =>
    if ((!r4.2) || (decide (r4.1 > 1125899906842624))) = true then
     some (0, 10)
    else
     some (r4.1, 0)
  else
   some (0, 9)
theorem K149 (s : ByteArray) (each : Int) : VS Tryz.prog 193 (quant_amount s each) [.str s, Iw each] [] (fun r=>.tup [Iw r.1, Iw r.2]) N0 := by
 refine A6 [.tmp 4,.tmp 5] Tryz.func193 R R R fun r hm=>?_
 unfold quant_amount at hm
 exact Af tbk [] R R<|Ah<|Aa R R (Ak R)<|Ad R R<|A0 hm 0 R fn199 R (K139 _) fun r hm=>Ab tbk [] 9 R R<|Ac<|Ae<|Af tbk [] R R<|Am hm R (fun h2 hm=>Af tbk [] R R<|Rt2 hm R [] R R R R) fun h2 hm=>Ai<|Ah<|Aa R R (Ak R)<|Ad R R<|A0 hm 0 R fn200 R (K142 _) fun r2 hm=>Ac<|A1<|Ah<|Aa R R (VP.as (VP.tassert nif228 zg228 R) (I_any20_ta228 r2))<|Ab tbk [] 2 R R<|Ac<|Am hm R (fun h4 hm=>Af tbk [] R R<|Ae<|Ah<|Ab tbk [] 4 R R<|Ad R R<|A0 hm 0 R fn201 R (K143 _ _ _ _) fun r3 hm=>Aa R R (C1 R)<|Ac<|Am hm R (fun h6 hm=>Af tbk [] R R<|Rt2 hm R [] R R R R) fun h6 hm=>Ai<|Ah<|Ab tbk [] 4 R R<|Ad R R<|A0 hm 0 R fn202 R (K148 _ _ _ _) fun r4 hm=>Ab tbk [] 5 R R<|Ac<|Ae<|Ah<|Ab tbk [] 3 R R<|Cy tbk [] 3 48 45 R R R R R<|Ac<|Am hm R (fun h9 hm=>Af tbk [] R R<|Rt2 hm R [] R R R R) fun h9 hm=>Ai<|Af tbk [] R R<|Rt2 hm R [] R R R R) fun h4 hm=>Af tbk [] R R<|Af tbk [] R R<|Rt2 hm R [] R R R R

/-! trireme/quant.Milli -/
def quant_Milli (s : ByteArray) : Option (Int × Int) :=
 (quant_amount s (1000 : Int)).bind fun r =>
 some (r.1, r.2)
theorem K150 (s : ByteArray) : VS Tryz.prog 180 (quant_Milli s) [.str s] [] (fun r=>.tup [Iw r.1, Iw r.2]) N0 := by
 refine A6 [.tmp 2,.tmp 3] Tryz.func180 R R R fun r hm=>?_
 unfold quant_Milli at hm
 exact Af tbk [] R R<|Ah<|Aa R R (Ak R)<|Ad R R<|A0 hm 0 R fn193 R (K149 _ _) fun r hm=>Ab tbk [] 4 R R<|Ac<|Rt2 hm R [] R R R R

/-! trireme/quant.Parse -/
def quant_Parse (s : ByteArray) : Option (Int × Int) :=
 (quant_amount s (1000000 : Int)).bind fun r =>
 some (r.1, r.2)
theorem K151 (s : ByteArray) : VS Tryz.prog 181 (quant_Parse s) [.str s] [] (fun r=>.tup [Iw r.1, Iw r.2]) N0 := by
 refine A6 [.tmp 2,.tmp 3] Tryz.func181 R R R fun r hm=>?_
 unfold quant_Parse at hm
 exact Af tbk [] R R<|Ah<|Aa R R (Ak R)<|Ad R R<|A0 hm 0 R fn193 R (K149 _ _) fun r hm=>Ab tbk [] 4 R R<|Ac<|Rt2 hm R [] R R R R

/-! trireme/spec.place -/
def spec_place.l1 (s : ByteArray) : List ByteArray → Nat → Option (Out (Int × Bool) Unit)
 | [], k => some (Out.go ())
 | x :: l2, k =>
  if (V.seq x s) = true then
   some (Out.ret ((k : Int), true))
  else
   spec_place.l1 s l2 (k + 1)
def spec_place (l : List ByteArray) (s : ByteArray) : Option (Int × Bool) :=
 (spec_place.l1 s l 0).bind fun o =>
 o.on fun j =>
 some (0, false)
theorem K152 (l : List ByteArray) (s : ByteArray) : VS Tryz.prog 182 (spec_place l s) [L9 l, .str s] [] (fun r=>.tup [Iw r.1, .bool r.2]) N0 := by
 refine A6 [.tmp 4,.tmp 5] Tryz.func182 R R R fun r hm=>?_
 unfold spec_place at hm
 refine Af tbk [] R R<|Ae<|Ah<|Aa R R (Ak R)<|Aa R R (A5 VV.str R B0)<|Aa R R (Ak R)<|Ac<|Ck 8 R fun h3=>B2 hm (fun _ (_:Unit)=>[]) (fun _ (_:Unit)=>[]) (fun o hm h2=>?_) fun j _ hm=> ?_
 ·refine Cz (l) (fun zl zk (zs:Unit)=>spec_place.l1 s zl zk) (fun k _ (_:Unit)=>[(1,.str s),(8,L9 l),(9,Iw (l.length : Int)),(10,Iw (k : Int))]) (fun _ _ (_:Unit)=>[]) () () hm (Ag [] R R) (fun k _ _ hk hm=>?_) fun k x l2 _ _ h4 hm=> ?_
  ·rw [spec_place.l1] at hm
   exact Af tbk [] R R<|Ae<|Cb R (k_end hk)<|Ba<|Ar () hm (Ag [] R R)
  rw [spec_place.l1] at hm
  exact Af tbk [] R R<|Ae<|Br R (k_lt h4)<|Ai<|Ae<|A1<|Ah<|Aa R R (Ak R)<|Aa R R (Ct VV.str R R el65 h4)<|Ab tbk [] 3 R R<|Ac<|Af tbk [] R R<|Am hm R (fun h5 hm=>Af tbk [] R R<|have hm:=Lr hm h2;Rt2 hm R [] R R R R) fun h5 hm=>Ai<|Bb tbk [] R R<|Ap () () hm (Bv [] R ⟨R,R,R,congrArg some (k_next h4 h3),trivial⟩)
 exact Af tbk [] R R<|Rt2 hm R [] R R R R

/-! trireme/spec.value -/
def spec_value (x : T_api_Node) (kind : Int) : Option (I_any20 × Int) :=
 if (((x.Kind == 4) && (V.seq x.Text (⟨#[]⟩ : ByteArray))) && ((kind == 97) || (kind == 43))) = true then
  some ((I_any20.c9 (⟨#[]⟩ : ByteArray)), 0)
 else
  if (x.Kind != 3) = true then
   some (I_any20.nil, 14)
  else
   (if (kind == 109) = true then
    (quant_Milli x.Text).bind fun r =>
    some (Out.go (r.1, r.2, true))
   else
    if (kind == 112) = true then
     (quant_Parse x.Text).bind fun r2 =>
     some (Out.go (r2.1, r2.2, true))
    else
     if (kind == 110) = true then
      (quant_Number x.Text).bind fun r3 =>
      some (Out.go (r3.1, r3.2, true))
     else
      if (kind == 111) = true then
       (spec_ops).bind fun r4 =>
       (spec_place r4 x.Text).bind fun r5 =>
       some (Out.go (r5.1, 0, (r5.2 && (decide (r5.1 > 0)))))
      else
       if (kind == 101) = true then
        (spec_effects).bind fun r6 =>
        (spec_place r6 x.Text).bind fun r7 =>
        some (Out.go (r7.1, 0, r7.2))
       else
        some (Out.ret ((I_any20.c9 x.Text), 0))).bind fun o =>
   o.on fun j =>
   if (!j.2.2) = true then
    some (I_any20.nil, 14)
   else
    some ((I_any20.c3 j.1), j.2.1)
theorem K153 (x : T_api_Node) (kind : Int) : VS Tryz.prog 165 (spec_value x kind) [T_api_Node.vv x, .int .u8 kind] [] (fun r=>.tup [I_any20.vv r.1, Iw r.2]) N0 := by
 refine A6 [.tmp 4,.tmp 5] Tryz.func165 R R R fun r hm=>?_
 unfold spec_value at hm
 refine Ah<|Ad R R<|Cd R R fun b=>Aa R R (Dt 0 .any)<|Aa R R (Aj R)<|Ac<|Ae<|Ah<|Ab tbk [0] 4 R R<|Ce tbk [0] 4 16 12 R R R R R<|Aa R R (Ak R)<|Df 7 24 17 R (fun h3 K' J=>Ab tbk [] 3 R R<|Cy tbk [] 3 23 20 R R R R R<|Aa R R (Bh true R R R)<|J 4 R R R) (fun K' J=>Ab tbk [] 7 R R<|J 6 R R R)<|Ac<|Am hm R (fun h5 hm=>Ah<|Aa R R (Ci nif9 R)<|Ab tbk [] 2 R R<|Ac<|Rt2 hm R [] R R R R) fun h5 hm=>Ai<|Ae<|Af tbk [0] R R<|Am hm R (fun h6 hm=>Ah<|Aa R R (Dt 0 .any)<|Aa R R (Aj R)<|Ac<|Rt2 hm R [] R R R R) fun h6 hm=>Ai<|Af tbk [] R R<|Af tbk [] R R<|VW.jo hm (fun j (_:Unit)=>[(6,Iw j.1),(7,Iw j.2.1),(8,.bool j.2.2)]) (fun _ (_:Unit)=>[]) (fun o hm h8=>?_) fun j _ hm=> ?_
 ·refine Af tbk [] R R<|A1<|Af tbk [] R R<|Am hm R (fun h9 hm=>Be<|Ab tbk [0] 2 R R<|Ad R R<|A0 hm 0 R fn180 R (K150 _) fun r hm=>Ab tbk [] 5 R R<|Ac<|Ar () hm (Ag [] R R)) fun h9 hm=>Af tbk [] R R<|Am hm R (fun h11 hm=>Be<|Ab tbk [0] 2 R R<|Ad R R<|A0 hm 0 R fn181 R (K151 _) fun r2 hm=>Ab tbk [] 5 R R<|Ac<|Ar () hm (Ag [] R R)) fun h11 hm=>Af tbk [] R R<|Am hm R (fun h13 hm=>Be<|Ab tbk [0] 2 R R<|Ad R R<|A0 hm 0 R fn158 R (K85 _) fun r3 hm=>Ab tbk [] 5 R R<|Ac<|Ar () hm (Ag [] R R)) fun h13 hm=>Af tbk [] R R<|Am hm R (fun h15 hm=>?_) fun h15 hm=> ?_
  ·refine Ae<|A4 0 mixed<|An tbk [1,2] [0] (by kernel_rfl) R R R<|Al 0 (by kernel_rfl)<|Bd hm fun r4 h16 hm=>Au R R R<|Aw 0 R fn49 R (K109 r4 h16) fun _ _ h20=> ?_
   obtain ⟨rfl,rfl⟩:=h20
   refine Al 3 (by kernel_rfl)<|Bd hm fun r5 h17 hm=>Au R R R<|Aw 0 R fn182 R (K152 r4 x.Text r5 h17) fun _ _ h19=> ?_
   obtain ⟨rfl,rfl⟩:=h19
   exact An tbk [4,5,6,7,8] [] (by kernel_rfl) R R R<|Ay (by kernel_rfl)<|Be<|Ab tbk [] 2 R R<|Ce tbk [] 3 70 67 R R R R R<|Aa R R (Aj R)<|Ac<|Ar () hm (Ag [] R R)
  refine Af tbk [] R R<|Am hm R (fun h21 hm=>?_) fun h21 hm=> ?_
  ·refine A4 0 mixed<|An tbk [1,2] [0] (by kernel_rfl) R R R<|Al 0 (by kernel_rfl)<|Bd hm fun r6 h22 hm=>Au R R R<|Aw 0 R fn50 R (K104 r6 h22) fun _ _ h25=> ?_
   obtain ⟨rfl,rfl⟩:=h25
   refine Al 3 (by kernel_rfl)<|Bd hm fun r7 h23 hm=>Au R R R<|Aw 0 R fn182 R (K152 r6 x.Text r7 h23) fun _ _ h24=> ?_
   obtain ⟨rfl,rfl⟩:=h24
   exact An tbk [4,5,6,7,8] [] (by kernel_rfl) R R R<|Ay (by kernel_rfl)<|Ar () hm (Ag [] R R)
  exact Ah<|Ab tbk [0] 2 R R<|Aa R R (Ci nif9 R)<|Ab tbk [] 2 R R<|Ac<|have hm:=Lr hm h8;Rt2 hm R [] R R R R
 exact Ae<|Af tbk [] R R<|Am hm R (fun h26 hm=>Ah<|Aa R R (Dt 0 .any)<|Aa R R (Aj R)<|Ac<|Rt2 hm R [] R R R R) fun h26 hm=>Ai<|Ah<|Aa R R (Ak R)<|Aa R R (Ci nif3 R)<|Ab tbk [] 3 R R<|Ac<|Rt2 hm R [] R R R R

/-! trireme/spec.num -/
def spec_num (x : I_any20) : Option Int :=
 (V.grd (I_any20.is3 x)).bind fun u =>
 some (I_any20.as3 x)
theorem K154 (x : I_any20) : VS Tryz.prog 90 (spec_num x) [I_any20.vv x] [] Iw N0 := by
 refine A6 [.tmp 2] Tryz.func90 R R R fun r hm=>?_
 unfold spec_num at hm
 exact Af tbk [] R R<|Ah<|Aa R R (Ak R)<|Bd hm fun u h1 hm=>Aa R R (VP.as (D2 nif3 R (I_any20_tp3 (V.grd_t h1)).1) (I_any20_tp3 (V.grd_t h1)).2)<|Aa R R (Aj R)<|Ac<|Rt1 hm R [] R R R

/-! trireme/spec.amounts -/
def spec_amounts (x : List I_any20) : Option T_api_Res :=
 ((V.gl x (0 : Int)).bind fun x2 =>
 (V.gl x (1 : Int)).bind fun x3 =>
 (V.gl x (2 : Int)).bind fun x4 =>
 (spec_num x2).bind fun r3 =>
 (spec_num x3).bind fun r4 =>
 (spec_num x4).bind fun r5 =>
 some (⟨r3, r4, r5, 1, 0⟩ : T_api_Res)).bind fun r2 =>
 if ((x.length : Int) == 4) = true then
  (V.gl x (3 : Int)).bind fun x5 =>
  (spec_num x5).bind fun r12 =>
  some (⟨r2.Cpu, r2.Mem, r2.Disk, r2.Pods, r12⟩ : T_api_Res)
 else
  (V.gl x (3 : Int)).bind fun x6 =>
  (V.gl x (4 : Int)).bind fun x7 =>
  (spec_num x6).bind fun r13 =>
  (spec_num x7).bind fun r14 =>
  some (⟨r2.Cpu, r2.Mem, r2.Disk, r13, r14⟩ : T_api_Res)
theorem K155 (x : List I_any20) : VS Tryz.prog 128 (spec_amounts x) [L20 x] [] (fun r=>T_api_Res.vv r) N0 := by
 refine A6 [.cell 2 23] Tryz.func128 R R R fun r hm=>?_
 unfold spec_amounts at hm
 refine Ah<|Ad R R<|Bg z23 fun b=>Ac<|Cj hm (fun _ (gg:Nat)=>[(0,L20 x),(2,.ptr b 0),(3,.ptr gg 0)]) (fun r2 (gg:Nat)=>[X23 gg r2,X23 b (⟨(0 : Int),(0 : Int),(0 : Int),(0 : Int),(0 : Int)⟩ : T_api_Res)]) (fun o hm=>?_) fun r2 b2 hm=> ?_
 ·refine A4 0 mixed<|Aq 0 R R R (by kernel_rfl) (Ak R)<|Bd hm fun x2 h5 hm=>Aq 1 R R R (by kernel_rfl) (A2 I_any20.vv R R el81 h5)<|An tbk [2,4] [] (by kernel_rfl) R R R<|Bd hm fun x3 h6 hm=>Aq 5 R R R (by kernel_rfl) (A2 I_any20.vv R R el81 h6)<|An tbk [6,8] [] (by kernel_rfl) R R R<|Bd hm fun x4 h7 hm=>Aq 9 R R R (by kernel_rfl) (A2 I_any20.vv R R el81 h7)<|Aq 10 R R R (by kernel_rfl) (Bl R ld20 R)<|?_
  refine B6 [3,13] (by kernel_rfl) ⟨?_,?_,trivial⟩
  ·refine Bd hm fun r3 h8 hm=>Au R R R<|Aw 0 R fn90 R (K154 x2 r3 h8) fun _ _ h22=> ?_
   obtain ⟨rfl,rfl⟩:=h22
   refine B6 [7,13] (by kernel_rfl) ⟨?_,?_,trivial⟩
   ·refine Bd hm fun r4 h9 hm=>Au R R R<|Aw 0 R fn90 R (K154 x3 r4 h9) fun _ _ h16=> ?_
    obtain ⟨rfl,rfl⟩:=h16
    refine B6 [11,13] (by kernel_rfl) ⟨?_,?_,trivial⟩
    ·refine Bd hm fun r5 h10 hm=>Au R R R<|Aw 0 R fn90 R (K154 x4 r5 h10) fun _ _ h12=> ?_
     obtain ⟨rfl,rfl⟩:=h12
     exact Aq 12 R R R (by kernel_rfl) (A7 pl23 R R)<|Al 13 (by kernel_rfl)<|Au R R R<|Bg z23 fun b3=>Al 14 (by kernel_rfl)<|Au R R R<|Ao (i:=0) R R R ld23 R R R<|Ay (by kernel_rfl)<|As _ hm (Ag [0,1] R R)
    ·refine Au R R R<|Bg z23 fun b4=>Al 11 (by kernel_rfl)<|Bd hm fun r6 h14 hm=>Au R R R<|Aw 0 R fn90 R (K154 x4 r6 h14) fun _ _ h15=> ?_
     obtain ⟨rfl,rfl⟩:=h15
     exact Aq 12 R R R (by kernel_rfl) (A7 pl23 R R)<|Al 14 (by kernel_rfl)<|Au R R R<|Ao (i:=0) R R R ld23 R R R<|Ay (by kernel_rfl)<|As _ hm (Ag [0,1] R R)
   ·refine Au R R R<|Bg z23 fun b5=>Al 7 (by kernel_rfl)<|Bd hm fun r7 h18 hm=>Au R R R<|Aw 0 R fn90 R (K154 x3 r7 h18) fun _ _ h21=> ?_
    obtain ⟨rfl,rfl⟩:=h21
    refine Al 11 (by kernel_rfl)<|Bd hm fun r8 h19 hm=>Au R R R<|Aw 0 R fn90 R (K154 x4 r8 h19) fun _ _ h20=> ?_
    obtain ⟨rfl,rfl⟩:=h20
    exact Aq 12 R R R (by kernel_rfl) (A7 pl23 R R)<|Al 14 (by kernel_rfl)<|Au R R R<|Ao (i:=0) R R R ld23 R R R<|Ay (by kernel_rfl)<|As _ hm (Ag [0,1] R R)
  ·refine Au R R R<|Bg z23 fun b6=>Al 3 (by kernel_rfl)<|Bd hm fun r9 h24 hm=>Au R R R<|Aw 0 R fn90 R (K154 x2 r9 h24) fun _ _ h29=> ?_
   obtain ⟨rfl,rfl⟩:=h29
   refine Al 7 (by kernel_rfl)<|Bd hm fun r10 h25 hm=>Au R R R<|Aw 0 R fn90 R (K154 x3 r10 h25) fun _ _ h28=> ?_
   obtain ⟨rfl,rfl⟩:=h28
   refine Al 11 (by kernel_rfl)<|Bd hm fun r11 h26 hm=>Au R R R<|Aw 0 R fn90 R (K154 x4 r11 h26) fun _ _ h27=> ?_
   obtain ⟨rfl,rfl⟩:=h27
   exact Aq 12 R R R (by kernel_rfl) (A7 pl23 R R)<|Al 14 (by kernel_rfl)<|Au R R R<|Ao (i:=0) R R R ld23 R R R<|Ay (by kernel_rfl)<|As _ hm (Ag [0,1] R R)
 refine Ae<|Ah<|Aa R R (Ak R)<|Aa R R (A5 I_any20.vv R Dp)<|Aa R R (Bc R R R)<|Ac<|Am hm R (fun h30 hm=>Ah<|Aa R R (Ak R)<|Bd hm fun x5 h31 hm=>Aa R R (A2 I_any20.vv R R el81 h31)<|Aa R R (Bl R ld20 R)<|Ad R R<|A0 hm 0 R fn90 R (K154 _) fun r12 hm=>Aa R R (Cx R fa23_4)<|Ad R R<|Ao (i:=0) R R R ld3 R R R<|Ac<|Ah<|Ab tbk [0] 1 R R<|Ad R R<|Ao (i:=1) R R R ld23 R R R<|Ac<|Rt0 hm R [] (.cons (.cell _ _ _ _ 1 _ _ _ _ R R ld23 R) .nil) R R) fun h30 hm=>Ai<|Ae<|A4 1 mixed<|Aq 0 R R R (by kernel_rfl) (Ak R)<|Bd hm fun x6 h33 hm=>Aq 1 R R R (by kernel_rfl) (A2 I_any20.vv R R el81 h33)<|An tbk [2,4] [] (by kernel_rfl) R R R<|Bd hm fun x7 h34 hm=>Aq 5 R R R (by kernel_rfl) (A2 I_any20.vv R R el81 h34)<|Aq 6 R R R (by kernel_rfl) (Bl R ld20 R)<|Al 3 (by kernel_rfl)<|Bd hm fun r13 h35 hm=>Au R R R<|Aw 0 R fn90 R (K154 x6 r13 h35) fun _ _ h38=> ?_
 obtain ⟨rfl,rfl⟩:=h38
 refine Aq 8 R R R (by kernel_rfl) (Cx R fa23_3)<|Al 7 (by kernel_rfl)<|Bd hm fun r14 h36 hm=>Au R R R<|Aw 0 R fn90 R (K154 x7 r14 h36) fun _ _ h37=> ?_
 obtain ⟨rfl,rfl⟩:=h37
 exact Al 9 (by kernel_rfl)<|Au R R R<|Ao (i:=0) R R R ld3 R R R<|Aq 10 R R R (by kernel_rfl) (Cx R fa23_4)<|Al 11 (by kernel_rfl)<|Au R R R<|Ao (i:=0) R R R ld3 R R R<|Ay (by kernel_rfl)<|Ah<|Ab tbk [0] 1 R R<|Ad R R<|Ao (i:=1) R R R ld23 R R R<|Ac<|Rt0 hm R [] (.cons (.cell _ _ _ _ 1 _ _ _ _ R R ld23 R) .nil) R R

/-! trireme/spec.ofPod$1 -/
def spec_ofPod_1 (x : List I_any20) (x2 : T_api_Pod) : Option T_api_Pod :=
 (spec_amounts x).bind fun r =>
 some (⟨x2.Name, r, x2.Labels, x2.Select, x2.Terms, x2.Bears, x2.Ports, x2.Apart, x2.Wide, x2.Spread, x2.Skew, x2.Rank, x2.Owner, x2.Daemon, x2.Pinned, x2.Local⟩ : T_api_Pod)
theorem K156 (x : List I_any20) (x2 : T_api_Pod) (b : Nat) (b2 : Nat) (ob : Option Nat) (cap : Nat) (ob2 : Option Nat) (cap2 : Nat) (ob3 : Option Nat) (cap3 : Nat) (ob4 : Option Nat) (cap4 : Nat) (ob5 : Option Nat) (cap5 : Nat) (ob6 : Option Nat) (cap6 : Nat) (ob7 : Option Nat) (cap7 : Nat) : ∀ r : T_api_Pod, spec_ofPod_1 x x2 = some r → VC Tryz.prog 127 [L20 x, .ptr b 0] [.box b 98 [.ptr b2 0], .box b2 29 [.str x2.Name, Iw x2.Need.Cpu, Iw x2.Need.Mem, Iw x2.Need.Disk, Iw x2.Need.Pods, Iw x2.Need.Dev, Z141 ob x2.Labels cap, Z141 ob2 x2.Select cap2, Z73 ob3 x2.Terms cap3, Z83 ob4 x2.Bears cap4, Z3 ob5 x2.Ports cap5, Z141 ob6 x2.Apart cap6, .bool x2.Wide, Z141 ob7 x2.Spread cap7, Iw x2.Skew, Iw x2.Rank, .str x2.Owner, .bool x2.Daemon, .bool x2.Pinned, .bool x2.Local], Q141 ob cap x2.Labels, Q141 ob2 cap2 x2.Select, Q73 ob3 cap3 x2.Terms, Q83 ob4 cap4 x2.Bears, Q3 ob5 cap5 x2.Ports, Q141 ob6 cap6 x2.Apart, Q141 ob7 cap7 x2.Spread] fun zx zH => ∃ (ob1_6 : Option Nat) (cap1_6 : Nat) (ob1_7 : Option Nat) (cap1_7 : Nat) (ob1_8 : Option Nat) (cap1_8 : Nat) (ob1_9 : Option Nat) (cap1_9 : Nat) (ob1_10 : Option Nat) (cap1_10 : Nat) (ob1_11 : Option Nat) (cap1_11 : Nat) (ob1_13 : Option Nat) (cap1_13 : Nat), zx = .tup [] ∧ zH = [.box b 98 [.ptr b2 0], .box b2 29 [.str r.Name, Iw r.Need.Cpu, Iw r.Need.Mem, Iw r.Need.Disk, Iw r.Need.Pods, Iw r.Need.Dev, Z141 ob1_6 r.Labels cap1_6, Z141 ob1_7 r.Select cap1_7, Z73 ob1_8 r.Terms cap1_8, Z83 ob1_9 r.Bears cap1_9, Z3 ob1_10 r.Ports cap1_10, Z141 ob1_11 r.Apart cap1_11, .bool r.Wide, Z141 ob1_13 r.Spread cap1_13, Iw r.Skew, Iw r.Rank, .str r.Owner, .bool r.Daemon, .bool r.Pinned, .bool r.Local], Q141 ob1_6 cap1_6 r.Labels, Q141 ob1_7 cap1_7 r.Select, Q73 ob1_8 cap1_8 r.Terms, Q83 ob1_9 cap1_9 r.Bears, Q3 ob1_10 cap1_10 r.Ports, Q141 ob1_11 cap1_11 r.Apart, Q141 ob1_13 cap1_13 r.Spread] := by
 refine Cg [] Tryz.func127 R R R fun r hm=>?_
 unfold spec_ofPod_1 at hm
 refine Bi (Bf [1,0,2,3,4,5,6,7,8] R)<|A4 1 mixed<|An tbk [0,1] [0] (by kernel_rfl) R R R<|Al 2 (by kernel_rfl)<|Au R R R<|A0 hm 0 R fn128 R (K155 _) fun r hm=>An tbk [3,4] [] (by kernel_rfl) R R R<|Al 5 (by kernel_rfl)<|Au R R R<|Ao (i:=0) R R R ld23 R R R<|Ay (by kernel_rfl)<|?_
 obtain rfl:=Option.some.inj hm
 exact ⟨.inr R,_,.nil,[1,0,2,3,4,5,6,7,8],_,R,ob,cap,ob2,cap2,ob3,cap3,ob4,cap4,ob5,cap5,ob6,cap6,ob7,cap7,R,R⟩

/-! trireme/spec.word -/
def spec_word (x : I_any20) : Option ByteArray :=
 (V.grd (I_any20.is9 x)).bind fun u =>
 some (I_any20.as9 x)
theorem K157 (x : I_any20) : VS Tryz.prog 131 (spec_word x) [I_any20.vv x] [] .str N0 := by
 refine A6 [.tmp 2] Tryz.func131 R R R fun r hm=>?_
 unfold spec_word at hm
 exact Af tbk [] R R<|Ah<|Aa R R (Ak R)<|Bd hm fun u h1 hm=>Aa R R (VP.as (D2 nif9 R (I_any20_tp9 (V.grd_t h1)).1) (I_any20_tp9 (V.grd_t h1)).2)<|Aa R R (Aj R)<|Ac<|Rt1 hm R [] R R R

/-! trireme/spec.pair$1 -/
def spec_pair_1 (x : List I_any20) (x2 : T_api_Pod) : Option T_api_Pod :=
 (V.gl x (0 : Int)).bind fun x3 =>
 (V.gl x (1 : Int)).bind fun x4 =>
 (spec_word x3).bind fun r =>
 (spec_word x4).bind fun r2 =>
 (V.ap 32 x2.Labels [(⟨r, r2⟩ : T_api_Label)]).bind fun l =>
 some (⟨x2.Name, x2.Need, l, x2.Select, x2.Terms, x2.Bears, x2.Ports, x2.Apart, x2.Wide, x2.Spread, x2.Skew, x2.Rank, x2.Owner, x2.Daemon, x2.Pinned, x2.Local⟩ : T_api_Pod)
theorem K158 (x : List I_any20) (x2 : T_api_Pod) (b : Nat) (b2 : Nat) (ob : Option Nat) (cap : Nat) (ob2 : Option Nat) (cap2 : Nat) (ob3 : Option Nat) (cap3 : Nat) (ob4 : Option Nat) (cap4 : Nat) (ob5 : Option Nat) (cap5 : Nat) (ob6 : Option Nat) (cap6 : Nat) (ob7 : Option Nat) (cap7 : Nat) : ∀ r : T_api_Pod, spec_pair_1 x x2 = some r → VC Tryz.prog 166 [L20 x, .ptr b 0] [.box b 169 [.ptr b2 6], .box b2 29 [.str x2.Name, Iw x2.Need.Cpu, Iw x2.Need.Mem, Iw x2.Need.Disk, Iw x2.Need.Pods, Iw x2.Need.Dev, Z141 ob x2.Labels cap, Z141 ob2 x2.Select cap2, Z73 ob3 x2.Terms cap3, Z83 ob4 x2.Bears cap4, Z3 ob5 x2.Ports cap5, Z141 ob6 x2.Apart cap6, .bool x2.Wide, Z141 ob7 x2.Spread cap7, Iw x2.Skew, Iw x2.Rank, .str x2.Owner, .bool x2.Daemon, .bool x2.Pinned, .bool x2.Local], Q141 ob cap x2.Labels, Q141 ob2 cap2 x2.Select, Q73 ob3 cap3 x2.Terms, Q83 ob4 cap4 x2.Bears, Q3 ob5 cap5 x2.Ports, Q141 ob6 cap6 x2.Apart, Q141 ob7 cap7 x2.Spread] fun zx zH => ∃ (ob1_6 : Option Nat) (cap1_6 : Nat) (ob1_7 : Option Nat) (cap1_7 : Nat) (ob1_8 : Option Nat) (cap1_8 : Nat) (ob1_9 : Option Nat) (cap1_9 : Nat) (ob1_10 : Option Nat) (cap1_10 : Nat) (ob1_11 : Option Nat) (cap1_11 : Nat) (ob1_13 : Option Nat) (cap1_13 : Nat), zx = .tup [] ∧ zH = [.box b 169 [.ptr b2 6], .box b2 29 [.str r.Name, Iw r.Need.Cpu, Iw r.Need.Mem, Iw r.Need.Disk, Iw r.Need.Pods, Iw r.Need.Dev, Z141 ob1_6 r.Labels cap1_6, Z141 ob1_7 r.Select cap1_7, Z73 ob1_8 r.Terms cap1_8, Z83 ob1_9 r.Bears cap1_9, Z3 ob1_10 r.Ports cap1_10, Z141 ob1_11 r.Apart cap1_11, .bool r.Wide, Z141 ob1_13 r.Spread cap1_13, Iw r.Skew, Iw r.Rank, .str r.Owner, .bool r.Daemon, .bool r.Pinned, .bool r.Local], Q141 ob1_6 cap1_6 r.Labels, Q141 ob1_7 cap1_7 r.Select, Q73 ob1_8 cap1_8 r.Terms, Q83 ob1_9 cap1_9 r.Bears, Q3 ob1_10 cap1_10 r.Ports, Q141 ob1_11 cap1_11 r.Apart, Q141 ob1_13 cap1_13 r.Spread] := by
 refine Cg [] Dk R R R fun r hm=>?_
 unfold spec_pair_1 at hm
 refine Bi (Bf [1,2,0,3,4,5,6,7,8] R)<|A4 2 mixed<|An tbk [0,1,2,4] [0,0] (by kernel_rfl) R R R<|Bd hm fun x3 h1 hm=>Aq 5 R R R (by kernel_rfl) (A2 I_any20.vv R R el81 h1)<|An tbk [6,8] [] (by kernel_rfl) R R R<|Bd hm fun x4 h2 hm=>Aq 9 R R R (by kernel_rfl) (A2 I_any20.vv R R el81 h2)<|Aq 10 R R R (by kernel_rfl) (Bl R ld20 R)<|?_
 refine B6 [3,7] (by kernel_rfl) ⟨?_,?_,trivial⟩
 ·refine Au R R R<|B7 (Bp (i:=0) R R ld24 R)<|Al 7 (by kernel_rfl)<|Bd hm fun r h3 hm=>Au R R R<|Aw 0 R fn131 R (K157 x3 r h3) fun _ _ h8=> ?_
  obtain ⟨rfl,rfl⟩:=h8
  refine Al 11 (by kernel_rfl)<|Bd hm fun r2 h4 hm=>Au R R R<|Aw 0 R fn131 R (K157 x4 r2 h4) fun _ _ h7=> ?_
  obtain ⟨rfl,rfl⟩:=h7
  refine Aq 12 R R R (by kernel_rfl) (A7 pl141 R R)<|Al 13 (by kernel_rfl)<|Au R R R<|Ax ap24 R R R R R fun b3=>Al 14 (by kernel_rfl)<|Bd hm fun l h6 hm=>Au R R R<|Bu 2 T_api_Label.vv (l:=x2.Labels) (l2:=[(⟨r,r2⟩ : T_api_Label)]) ap24 R R (sT_row 0 T_api_Label.vv el24 R R) h6 fun ob8 cap8=>Aq 15 R R R (by kernel_rfl) (B9 R)<|Al 16 (by kernel_rfl)<|Au R R R<|Ao (i:=1) R R R ld24 R R R<|Ay (by kernel_rfl)<|?_
  obtain rfl:=Option.some.inj hm
  exact ⟨.inr R,_,.nil,[3,1,2,4,5,6,7,8,9],_,R,ob8,cap8,ob2,cap2,ob3,cap3,ob4,cap4,ob5,cap5,ob6,cap6,ob7,cap7,R,R⟩
 ·refine Bd hm fun r3 h9 hm=>Au R R R<|Aw 0 R fn131 R (K157 x3 r3 h9) fun _ _ h20=> ?_
  obtain ⟨rfl,rfl⟩:=h20
  refine B6 [3,11] (by kernel_rfl) ⟨?_,?_,trivial⟩
  ·refine Au R R R<|B7 (Bp (i:=0) R R ld24 R)<|Al 11 (by kernel_rfl)<|Bd hm fun r4 h10 hm=>Au R R R<|Aw 0 R fn131 R (K157 x4 r4 h10) fun _ _ h13=> ?_
   obtain ⟨rfl,rfl⟩:=h13
   refine Aq 12 R R R (by kernel_rfl) (A7 pl141 R R)<|Al 13 (by kernel_rfl)<|Au R R R<|Ax ap24 R R R R R fun b4=>Al 14 (by kernel_rfl)<|Bd hm fun l2 h12 hm=>Au R R R<|Bu 2 T_api_Label.vv (l:=x2.Labels) (l2:=[(⟨r3,r4⟩ : T_api_Label)]) ap24 R R (sT_row 0 T_api_Label.vv el24 R R) h12 fun ob9 cap9=>Aq 15 R R R (by kernel_rfl) (B9 R)<|Al 16 (by kernel_rfl)<|Au R R R<|Ao (i:=1) R R R ld24 R R R<|Ay (by kernel_rfl)<|?_
   obtain rfl:=Option.some.inj hm
   exact ⟨.inr R,_,.nil,[3,1,2,4,5,6,7,8,9],_,R,ob9,cap9,ob2,cap2,ob3,cap3,ob4,cap4,ob5,cap5,ob6,cap6,ob7,cap7,R,R⟩
  ·refine Bd hm fun r5 h14 hm=>Au R R R<|Aw 0 R fn131 R (K157 x4 r5 h14) fun _ _ h19=> ?_
   obtain ⟨rfl,rfl⟩:=h19
   refine Aq 12 R R R (by kernel_rfl) (A7 pl141 R R)<|?_
   refine B6 [3,13] (by kernel_rfl) ⟨?_,?_,trivial⟩
   ·refine Au R R R<|B7 (Bp (i:=0) R R ld24 R)<|Al 13 (by kernel_rfl)<|Au R R R<|Ax ap24 R R R R R fun b5=>Al 14 (by kernel_rfl)<|Bd hm fun l3 h16 hm=>Au R R R<|Bu 2 T_api_Label.vv (l:=x2.Labels) (l2:=[(⟨r3,r5⟩ : T_api_Label)]) ap24 R R (sT_row 0 T_api_Label.vv el24 R R) h16 fun ob10 cap10=>Aq 15 R R R (by kernel_rfl) (B9 R)<|Al 16 (by kernel_rfl)<|Au R R R<|Ao (i:=1) R R R ld24 R R R<|Ay (by kernel_rfl)<|?_
    obtain rfl:=Option.some.inj hm
    exact ⟨.inr R,_,.nil,[3,1,2,4,5,6,7,8,9],_,R,ob10,cap10,ob2,cap2,ob3,cap3,ob4,cap4,ob5,cap5,ob6,cap6,ob7,cap7,R,R⟩
   ·refine Au R R R<|Ax ap24 R R R R R fun b6=>Al 3 (by kernel_rfl)<|Au R R R<|B7 (Bp (i:=1) R R ld24 R)<|Al 14 (by kernel_rfl)<|Bd hm fun l4 h18 hm=>Au R R R<|Bu 2 T_api_Label.vv (l:=x2.Labels) (l2:=[(⟨r3,r5⟩ : T_api_Label)]) ap24 R R (sT_row 0 T_api_Label.vv el24 R R) h18 fun ob11 cap11=>Aq 15 R R R (by kernel_rfl) (B9 R)<|Al 16 (by kernel_rfl)<|Au R R R<|Ao (i:=1) R R R ld24 R R R<|Ay (by kernel_rfl)<|?_
    obtain rfl:=Option.some.inj hm
    exact ⟨.inr R,_,.nil,[3,1,2,4,5,6,7,8,9],_,R,ob11,cap11,ob2,cap2,ob3,cap3,ob4,cap4,ob5,cap5,ob6,cap6,ob7,cap7,R,R⟩

/-! trireme/spec.pair$1 -/
def spec_pair_1_x (x : List I_any20) (x2 : T_api_Pod) : Option T_api_Pod :=
 (V.gl x (0 : Int)).bind fun x3 =>
 (V.gl x (1 : Int)).bind fun x4 =>
 (spec_word x3).bind fun r =>
 (spec_word x4).bind fun r2 =>
 (V.ap 32 x2.Select [(⟨r, r2⟩ : T_api_Label)]).bind fun l =>
 some (⟨x2.Name, x2.Need, x2.Labels, l, x2.Terms, x2.Bears, x2.Ports, x2.Apart, x2.Wide, x2.Spread, x2.Skew, x2.Rank, x2.Owner, x2.Daemon, x2.Pinned, x2.Local⟩ : T_api_Pod)
theorem K159 (x : List I_any20) (x2 : T_api_Pod) (b : Nat) (b2 : Nat) (ob : Option Nat) (cap : Nat) (ob2 : Option Nat) (cap2 : Nat) (ob3 : Option Nat) (cap3 : Nat) (ob4 : Option Nat) (cap4 : Nat) (ob5 : Option Nat) (cap5 : Nat) (ob6 : Option Nat) (cap6 : Nat) (ob7 : Option Nat) (cap7 : Nat) : ∀ r : T_api_Pod, spec_pair_1_x x x2 = some r → VC Tryz.prog 166 [L20 x, .ptr b 0] [.box b 169 [.ptr b2 7], .box b2 29 [.str x2.Name, Iw x2.Need.Cpu, Iw x2.Need.Mem, Iw x2.Need.Disk, Iw x2.Need.Pods, Iw x2.Need.Dev, Z141 ob x2.Labels cap, Z141 ob2 x2.Select cap2, Z73 ob3 x2.Terms cap3, Z83 ob4 x2.Bears cap4, Z3 ob5 x2.Ports cap5, Z141 ob6 x2.Apart cap6, .bool x2.Wide, Z141 ob7 x2.Spread cap7, Iw x2.Skew, Iw x2.Rank, .str x2.Owner, .bool x2.Daemon, .bool x2.Pinned, .bool x2.Local], Q141 ob cap x2.Labels, Q141 ob2 cap2 x2.Select, Q73 ob3 cap3 x2.Terms, Q83 ob4 cap4 x2.Bears, Q3 ob5 cap5 x2.Ports, Q141 ob6 cap6 x2.Apart, Q141 ob7 cap7 x2.Spread] fun zx zH => ∃ (ob1_6 : Option Nat) (cap1_6 : Nat) (ob1_7 : Option Nat) (cap1_7 : Nat) (ob1_8 : Option Nat) (cap1_8 : Nat) (ob1_9 : Option Nat) (cap1_9 : Nat) (ob1_10 : Option Nat) (cap1_10 : Nat) (ob1_11 : Option Nat) (cap1_11 : Nat) (ob1_13 : Option Nat) (cap1_13 : Nat), zx = .tup [] ∧ zH = [.box b 169 [.ptr b2 7], .box b2 29 [.str r.Name, Iw r.Need.Cpu, Iw r.Need.Mem, Iw r.Need.Disk, Iw r.Need.Pods, Iw r.Need.Dev, Z141 ob1_6 r.Labels cap1_6, Z141 ob1_7 r.Select cap1_7, Z73 ob1_8 r.Terms cap1_8, Z83 ob1_9 r.Bears cap1_9, Z3 ob1_10 r.Ports cap1_10, Z141 ob1_11 r.Apart cap1_11, .bool r.Wide, Z141 ob1_13 r.Spread cap1_13, Iw r.Skew, Iw r.Rank, .str r.Owner, .bool r.Daemon, .bool r.Pinned, .bool r.Local], Q141 ob1_6 cap1_6 r.Labels, Q141 ob1_7 cap1_7 r.Select, Q73 ob1_8 cap1_8 r.Terms, Q83 ob1_9 cap1_9 r.Bears, Q3 ob1_10 cap1_10 r.Ports, Q141 ob1_11 cap1_11 r.Apart, Q141 ob1_13 cap1_13 r.Spread] := by
 refine Cg [] Dk R R R fun r hm=>?_
 unfold spec_pair_1_x at hm
 refine Bi (Bf [1,3,0,2,4,5,6,7,8] R)<|A4 2 mixed<|An tbk [0,1,2,4] [0,0] (by kernel_rfl) R R R<|Bd hm fun x3 h1 hm=>Aq 5 R R R (by kernel_rfl) (A2 I_any20.vv R R el81 h1)<|An tbk [6,8] [] (by kernel_rfl) R R R<|Bd hm fun x4 h2 hm=>Aq 9 R R R (by kernel_rfl) (A2 I_any20.vv R R el81 h2)<|Aq 10 R R R (by kernel_rfl) (Bl R ld20 R)<|?_
 refine B6 [3,7] (by kernel_rfl) ⟨?_,?_,trivial⟩
 ·refine Au R R R<|B7 (Bp (i:=0) R R ld24 R)<|Al 7 (by kernel_rfl)<|Bd hm fun r h3 hm=>Au R R R<|Aw 0 R fn131 R (K157 x3 r h3) fun _ _ h8=> ?_
  obtain ⟨rfl,rfl⟩:=h8
  refine Al 11 (by kernel_rfl)<|Bd hm fun r2 h4 hm=>Au R R R<|Aw 0 R fn131 R (K157 x4 r2 h4) fun _ _ h7=> ?_
  obtain ⟨rfl,rfl⟩:=h7
  refine Aq 12 R R R (by kernel_rfl) (A7 pl141 R R)<|Al 13 (by kernel_rfl)<|Au R R R<|Ax ap24 R R R R R fun b3=>Al 14 (by kernel_rfl)<|Bd hm fun l h6 hm=>Au R R R<|Bu 2 T_api_Label.vv (l:=x2.Select) (l2:=[(⟨r,r2⟩ : T_api_Label)]) ap24 R R (sT_row 0 T_api_Label.vv el24 R R) h6 fun ob8 cap8=>Aq 15 R R R (by kernel_rfl) (B9 R)<|Al 16 (by kernel_rfl)<|Au R R R<|Ao (i:=1) R R R ld24 R R R<|Ay (by kernel_rfl)<|?_
  obtain rfl:=Option.some.inj hm
  exact ⟨.inr R,_,.nil,[3,1,4,2,5,6,7,8,9],_,R,ob,cap,ob8,cap8,ob3,cap3,ob4,cap4,ob5,cap5,ob6,cap6,ob7,cap7,R,R⟩
 ·refine Bd hm fun r3 h9 hm=>Au R R R<|Aw 0 R fn131 R (K157 x3 r3 h9) fun _ _ h20=> ?_
  obtain ⟨rfl,rfl⟩:=h20
  refine B6 [3,11] (by kernel_rfl) ⟨?_,?_,trivial⟩
  ·refine Au R R R<|B7 (Bp (i:=0) R R ld24 R)<|Al 11 (by kernel_rfl)<|Bd hm fun r4 h10 hm=>Au R R R<|Aw 0 R fn131 R (K157 x4 r4 h10) fun _ _ h13=> ?_
   obtain ⟨rfl,rfl⟩:=h13
   refine Aq 12 R R R (by kernel_rfl) (A7 pl141 R R)<|Al 13 (by kernel_rfl)<|Au R R R<|Ax ap24 R R R R R fun b4=>Al 14 (by kernel_rfl)<|Bd hm fun l2 h12 hm=>Au R R R<|Bu 2 T_api_Label.vv (l:=x2.Select) (l2:=[(⟨r3,r4⟩ : T_api_Label)]) ap24 R R (sT_row 0 T_api_Label.vv el24 R R) h12 fun ob9 cap9=>Aq 15 R R R (by kernel_rfl) (B9 R)<|Al 16 (by kernel_rfl)<|Au R R R<|Ao (i:=1) R R R ld24 R R R<|Ay (by kernel_rfl)<|?_
   obtain rfl:=Option.some.inj hm
   exact ⟨.inr R,_,.nil,[3,1,4,2,5,6,7,8,9],_,R,ob,cap,ob9,cap9,ob3,cap3,ob4,cap4,ob5,cap5,ob6,cap6,ob7,cap7,R,R⟩
  ·refine Bd hm fun r5 h14 hm=>Au R R R<|Aw 0 R fn131 R (K157 x4 r5 h14) fun _ _ h19=> ?_
   obtain ⟨rfl,rfl⟩:=h19
   refine Aq 12 R R R (by kernel_rfl) (A7 pl141 R R)<|?_
   refine B6 [3,13] (by kernel_rfl) ⟨?_,?_,trivial⟩
   ·refine Au R R R<|B7 (Bp (i:=0) R R ld24 R)<|Al 13 (by kernel_rfl)<|Au R R R<|Ax ap24 R R R R R fun b5=>Al 14 (by kernel_rfl)<|Bd hm fun l3 h16 hm=>Au R R R<|Bu 2 T_api_Label.vv (l:=x2.Select) (l2:=[(⟨r3,r5⟩ : T_api_Label)]) ap24 R R (sT_row 0 T_api_Label.vv el24 R R) h16 fun ob10 cap10=>Aq 15 R R R (by kernel_rfl) (B9 R)<|Al 16 (by kernel_rfl)<|Au R R R<|Ao (i:=1) R R R ld24 R R R<|Ay (by kernel_rfl)<|?_
    obtain rfl:=Option.some.inj hm
    exact ⟨.inr R,_,.nil,[3,1,4,2,5,6,7,8,9],_,R,ob,cap,ob10,cap10,ob3,cap3,ob4,cap4,ob5,cap5,ob6,cap6,ob7,cap7,R,R⟩
   ·refine Au R R R<|Ax ap24 R R R R R fun b6=>Al 3 (by kernel_rfl)<|Au R R R<|B7 (Bp (i:=1) R R ld24 R)<|Al 14 (by kernel_rfl)<|Bd hm fun l4 h18 hm=>Au R R R<|Bu 2 T_api_Label.vv (l:=x2.Select) (l2:=[(⟨r3,r5⟩ : T_api_Label)]) ap24 R R (sT_row 0 T_api_Label.vv el24 R R) h18 fun ob11 cap11=>Aq 15 R R R (by kernel_rfl) (B9 R)<|Al 16 (by kernel_rfl)<|Au R R R<|Ao (i:=1) R R R ld24 R R R<|Ay (by kernel_rfl)<|?_
    obtain rfl:=Option.some.inj hm
    exact ⟨.inr R,_,.nil,[3,1,4,2,5,6,7,8,9],_,R,ob,cap,ob11,cap11,ob3,cap3,ob4,cap4,ob5,cap5,ob6,cap6,ob7,cap7,R,R⟩

/-! trireme/spec.pair$1 -/
def spec_pair_1_x_x (x : List I_any20) (x2 : T_api_Pod) : Option T_api_Pod :=
 (V.gl x (0 : Int)).bind fun x3 =>
 (V.gl x (1 : Int)).bind fun x4 =>
 (spec_word x3).bind fun r =>
 (spec_word x4).bind fun r2 =>
 (V.ap 32 x2.Apart [(⟨r, r2⟩ : T_api_Label)]).bind fun l =>
 some (⟨x2.Name, x2.Need, x2.Labels, x2.Select, x2.Terms, x2.Bears, x2.Ports, l, x2.Wide, x2.Spread, x2.Skew, x2.Rank, x2.Owner, x2.Daemon, x2.Pinned, x2.Local⟩ : T_api_Pod)
theorem K160 (x : List I_any20) (x2 : T_api_Pod) (b : Nat) (b2 : Nat) (ob : Option Nat) (cap : Nat) (ob2 : Option Nat) (cap2 : Nat) (ob3 : Option Nat) (cap3 : Nat) (ob4 : Option Nat) (cap4 : Nat) (ob5 : Option Nat) (cap5 : Nat) (ob6 : Option Nat) (cap6 : Nat) (ob7 : Option Nat) (cap7 : Nat) : ∀ r : T_api_Pod, spec_pair_1_x_x x x2 = some r → VC Tryz.prog 166 [L20 x, .ptr b 0] [.box b 169 [.ptr b2 11], .box b2 29 [.str x2.Name, Iw x2.Need.Cpu, Iw x2.Need.Mem, Iw x2.Need.Disk, Iw x2.Need.Pods, Iw x2.Need.Dev, Z141 ob x2.Labels cap, Z141 ob2 x2.Select cap2, Z73 ob3 x2.Terms cap3, Z83 ob4 x2.Bears cap4, Z3 ob5 x2.Ports cap5, Z141 ob6 x2.Apart cap6, .bool x2.Wide, Z141 ob7 x2.Spread cap7, Iw x2.Skew, Iw x2.Rank, .str x2.Owner, .bool x2.Daemon, .bool x2.Pinned, .bool x2.Local], Q141 ob cap x2.Labels, Q141 ob2 cap2 x2.Select, Q73 ob3 cap3 x2.Terms, Q83 ob4 cap4 x2.Bears, Q3 ob5 cap5 x2.Ports, Q141 ob6 cap6 x2.Apart, Q141 ob7 cap7 x2.Spread] fun zx zH => ∃ (ob1_6 : Option Nat) (cap1_6 : Nat) (ob1_7 : Option Nat) (cap1_7 : Nat) (ob1_8 : Option Nat) (cap1_8 : Nat) (ob1_9 : Option Nat) (cap1_9 : Nat) (ob1_10 : Option Nat) (cap1_10 : Nat) (ob1_11 : Option Nat) (cap1_11 : Nat) (ob1_13 : Option Nat) (cap1_13 : Nat), zx = .tup [] ∧ zH = [.box b 169 [.ptr b2 11], .box b2 29 [.str r.Name, Iw r.Need.Cpu, Iw r.Need.Mem, Iw r.Need.Disk, Iw r.Need.Pods, Iw r.Need.Dev, Z141 ob1_6 r.Labels cap1_6, Z141 ob1_7 r.Select cap1_7, Z73 ob1_8 r.Terms cap1_8, Z83 ob1_9 r.Bears cap1_9, Z3 ob1_10 r.Ports cap1_10, Z141 ob1_11 r.Apart cap1_11, .bool r.Wide, Z141 ob1_13 r.Spread cap1_13, Iw r.Skew, Iw r.Rank, .str r.Owner, .bool r.Daemon, .bool r.Pinned, .bool r.Local], Q141 ob1_6 cap1_6 r.Labels, Q141 ob1_7 cap1_7 r.Select, Q73 ob1_8 cap1_8 r.Terms, Q83 ob1_9 cap1_9 r.Bears, Q3 ob1_10 cap1_10 r.Ports, Q141 ob1_11 cap1_11 r.Apart, Q141 ob1_13 cap1_13 r.Spread] := by
 refine Cg [] Dk R R R fun r hm=>?_
 unfold spec_pair_1_x_x at hm
 refine Bi (Bf [1,7,0,2,3,4,5,6,8] R)<|A4 2 mixed<|An tbk [0,1,2,4] [0,0] (by kernel_rfl) R R R<|Bd hm fun x3 h1 hm=>Aq 5 R R R (by kernel_rfl) (A2 I_any20.vv R R el81 h1)<|An tbk [6,8] [] (by kernel_rfl) R R R<|Bd hm fun x4 h2 hm=>Aq 9 R R R (by kernel_rfl) (A2 I_any20.vv R R el81 h2)<|Aq 10 R R R (by kernel_rfl) (Bl R ld20 R)<|?_
 refine B6 [3,7] (by kernel_rfl) ⟨?_,?_,trivial⟩
 ·refine Au R R R<|B7 (Bp (i:=0) R R ld24 R)<|Al 7 (by kernel_rfl)<|Bd hm fun r h3 hm=>Au R R R<|Aw 0 R fn131 R (K157 x3 r h3) fun _ _ h8=> ?_
  obtain ⟨rfl,rfl⟩:=h8
  refine Al 11 (by kernel_rfl)<|Bd hm fun r2 h4 hm=>Au R R R<|Aw 0 R fn131 R (K157 x4 r2 h4) fun _ _ h7=> ?_
  obtain ⟨rfl,rfl⟩:=h7
  refine Aq 12 R R R (by kernel_rfl) (A7 pl141 R R)<|Al 13 (by kernel_rfl)<|Au R R R<|Ax ap24 R R R R R fun b3=>Al 14 (by kernel_rfl)<|Bd hm fun l h6 hm=>Au R R R<|Bu 2 T_api_Label.vv (l:=x2.Apart) (l2:=[(⟨r,r2⟩ : T_api_Label)]) ap24 R R (sT_row 0 T_api_Label.vv el24 R R) h6 fun ob8 cap8=>Aq 15 R R R (by kernel_rfl) (B9 R)<|Al 16 (by kernel_rfl)<|Au R R R<|Ao (i:=1) R R R ld24 R R R<|Ay (by kernel_rfl)<|?_
  obtain rfl:=Option.some.inj hm
  exact ⟨.inr R,_,.nil,[3,1,4,5,6,7,8,2,9],_,R,ob,cap,ob2,cap2,ob3,cap3,ob4,cap4,ob5,cap5,ob8,cap8,ob7,cap7,R,R⟩
 ·refine Bd hm fun r3 h9 hm=>Au R R R<|Aw 0 R fn131 R (K157 x3 r3 h9) fun _ _ h20=> ?_
  obtain ⟨rfl,rfl⟩:=h20
  refine B6 [3,11] (by kernel_rfl) ⟨?_,?_,trivial⟩
  ·refine Au R R R<|B7 (Bp (i:=0) R R ld24 R)<|Al 11 (by kernel_rfl)<|Bd hm fun r4 h10 hm=>Au R R R<|Aw 0 R fn131 R (K157 x4 r4 h10) fun _ _ h13=> ?_
   obtain ⟨rfl,rfl⟩:=h13
   refine Aq 12 R R R (by kernel_rfl) (A7 pl141 R R)<|Al 13 (by kernel_rfl)<|Au R R R<|Ax ap24 R R R R R fun b4=>Al 14 (by kernel_rfl)<|Bd hm fun l2 h12 hm=>Au R R R<|Bu 2 T_api_Label.vv (l:=x2.Apart) (l2:=[(⟨r3,r4⟩ : T_api_Label)]) ap24 R R (sT_row 0 T_api_Label.vv el24 R R) h12 fun ob9 cap9=>Aq 15 R R R (by kernel_rfl) (B9 R)<|Al 16 (by kernel_rfl)<|Au R R R<|Ao (i:=1) R R R ld24 R R R<|Ay (by kernel_rfl)<|?_
   obtain rfl:=Option.some.inj hm
   exact ⟨.inr R,_,.nil,[3,1,4,5,6,7,8,2,9],_,R,ob,cap,ob2,cap2,ob3,cap3,ob4,cap4,ob5,cap5,ob9,cap9,ob7,cap7,R,R⟩
  ·refine Bd hm fun r5 h14 hm=>Au R R R<|Aw 0 R fn131 R (K157 x4 r5 h14) fun _ _ h19=> ?_
   obtain ⟨rfl,rfl⟩:=h19
   refine Aq 12 R R R (by kernel_rfl) (A7 pl141 R R)<|?_
   refine B6 [3,13] (by kernel_rfl) ⟨?_,?_,trivial⟩
   ·refine Au R R R<|B7 (Bp (i:=0) R R ld24 R)<|Al 13 (by kernel_rfl)<|Au R R R<|Ax ap24 R R R R R fun b5=>Al 14 (by kernel_rfl)<|Bd hm fun l3 h16 hm=>Au R R R<|Bu 2 T_api_Label.vv (l:=x2.Apart) (l2:=[(⟨r3,r5⟩ : T_api_Label)]) ap24 R R (sT_row 0 T_api_Label.vv el24 R R) h16 fun ob10 cap10=>Aq 15 R R R (by kernel_rfl) (B9 R)<|Al 16 (by kernel_rfl)<|Au R R R<|Ao (i:=1) R R R ld24 R R R<|Ay (by kernel_rfl)<|?_
    obtain rfl:=Option.some.inj hm
    exact ⟨.inr R,_,.nil,[3,1,4,5,6,7,8,2,9],_,R,ob,cap,ob2,cap2,ob3,cap3,ob4,cap4,ob5,cap5,ob10,cap10,ob7,cap7,R,R⟩
   ·refine Au R R R<|Ax ap24 R R R R R fun b6=>Al 3 (by kernel_rfl)<|Au R R R<|B7 (Bp (i:=1) R R ld24 R)<|Al 14 (by kernel_rfl)<|Bd hm fun l4 h18 hm=>Au R R R<|Bu 2 T_api_Label.vv (l:=x2.Apart) (l2:=[(⟨r3,r5⟩ : T_api_Label)]) ap24 R R (sT_row 0 T_api_Label.vv el24 R R) h18 fun ob11 cap11=>Aq 15 R R R (by kernel_rfl) (B9 R)<|Al 16 (by kernel_rfl)<|Au R R R<|Ao (i:=1) R R R ld24 R R R<|Ay (by kernel_rfl)<|?_
    obtain rfl:=Option.some.inj hm
    exact ⟨.inr R,_,.nil,[3,1,4,5,6,7,8,2,9],_,R,ob,cap,ob2,cap2,ob3,cap3,ob4,cap4,ob5,cap5,ob11,cap11,ob7,cap7,R,R⟩

/-! trireme/spec.pair$1 -/
def spec_pair_1_x_x_x (x : List I_any20) (x2 : T_api_Pod) : Option T_api_Pod :=
 (V.gl x (0 : Int)).bind fun x3 =>
 (V.gl x (1 : Int)).bind fun x4 =>
 (spec_word x3).bind fun r =>
 (spec_word x4).bind fun r2 =>
 (V.ap 32 x2.Spread [(⟨r, r2⟩ : T_api_Label)]).bind fun l =>
 some (⟨x2.Name, x2.Need, x2.Labels, x2.Select, x2.Terms, x2.Bears, x2.Ports, x2.Apart, x2.Wide, l, x2.Skew, x2.Rank, x2.Owner, x2.Daemon, x2.Pinned, x2.Local⟩ : T_api_Pod)
theorem K161 (x : List I_any20) (x2 : T_api_Pod) (b : Nat) (b2 : Nat) (ob : Option Nat) (cap : Nat) (ob2 : Option Nat) (cap2 : Nat) (ob3 : Option Nat) (cap3 : Nat) (ob4 : Option Nat) (cap4 : Nat) (ob5 : Option Nat) (cap5 : Nat) (ob6 : Option Nat) (cap6 : Nat) (ob7 : Option Nat) (cap7 : Nat) : ∀ r : T_api_Pod, spec_pair_1_x_x_x x x2 = some r → VC Tryz.prog 166 [L20 x, .ptr b 0] [.box b 169 [.ptr b2 13], .box b2 29 [.str x2.Name, Iw x2.Need.Cpu, Iw x2.Need.Mem, Iw x2.Need.Disk, Iw x2.Need.Pods, Iw x2.Need.Dev, Z141 ob x2.Labels cap, Z141 ob2 x2.Select cap2, Z73 ob3 x2.Terms cap3, Z83 ob4 x2.Bears cap4, Z3 ob5 x2.Ports cap5, Z141 ob6 x2.Apart cap6, .bool x2.Wide, Z141 ob7 x2.Spread cap7, Iw x2.Skew, Iw x2.Rank, .str x2.Owner, .bool x2.Daemon, .bool x2.Pinned, .bool x2.Local], Q141 ob cap x2.Labels, Q141 ob2 cap2 x2.Select, Q73 ob3 cap3 x2.Terms, Q83 ob4 cap4 x2.Bears, Q3 ob5 cap5 x2.Ports, Q141 ob6 cap6 x2.Apart, Q141 ob7 cap7 x2.Spread] fun zx zH => ∃ (ob1_6 : Option Nat) (cap1_6 : Nat) (ob1_7 : Option Nat) (cap1_7 : Nat) (ob1_8 : Option Nat) (cap1_8 : Nat) (ob1_9 : Option Nat) (cap1_9 : Nat) (ob1_10 : Option Nat) (cap1_10 : Nat) (ob1_11 : Option Nat) (cap1_11 : Nat) (ob1_13 : Option Nat) (cap1_13 : Nat), zx = .tup [] ∧ zH = [.box b 169 [.ptr b2 13], .box b2 29 [.str r.Name, Iw r.Need.Cpu, Iw r.Need.Mem, Iw r.Need.Disk, Iw r.Need.Pods, Iw r.Need.Dev, Z141 ob1_6 r.Labels cap1_6, Z141 ob1_7 r.Select cap1_7, Z73 ob1_8 r.Terms cap1_8, Z83 ob1_9 r.Bears cap1_9, Z3 ob1_10 r.Ports cap1_10, Z141 ob1_11 r.Apart cap1_11, .bool r.Wide, Z141 ob1_13 r.Spread cap1_13, Iw r.Skew, Iw r.Rank, .str r.Owner, .bool r.Daemon, .bool r.Pinned, .bool r.Local], Q141 ob1_6 cap1_6 r.Labels, Q141 ob1_7 cap1_7 r.Select, Q73 ob1_8 cap1_8 r.Terms, Q83 ob1_9 cap1_9 r.Bears, Q3 ob1_10 cap1_10 r.Ports, Q141 ob1_11 cap1_11 r.Apart, Q141 ob1_13 cap1_13 r.Spread] := by
 refine Cg [] Dk R R R fun r hm=>?_
 unfold spec_pair_1_x_x_x at hm
 refine Bi (Bf [1,8,0,2,3,4,5,6,7] R)<|A4 2 mixed<|An tbk [0,1,2,4] [0,0] (by kernel_rfl) R R R<|Bd hm fun x3 h1 hm=>Aq 5 R R R (by kernel_rfl) (A2 I_any20.vv R R el81 h1)<|An tbk [6,8] [] (by kernel_rfl) R R R<|Bd hm fun x4 h2 hm=>Aq 9 R R R (by kernel_rfl) (A2 I_any20.vv R R el81 h2)<|Aq 10 R R R (by kernel_rfl) (Bl R ld20 R)<|?_
 refine B6 [3,7] (by kernel_rfl) ⟨?_,?_,trivial⟩
 ·refine Au R R R<|B7 (Bp (i:=0) R R ld24 R)<|Al 7 (by kernel_rfl)<|Bd hm fun r h3 hm=>Au R R R<|Aw 0 R fn131 R (K157 x3 r h3) fun _ _ h8=> ?_
  obtain ⟨rfl,rfl⟩:=h8
  refine Al 11 (by kernel_rfl)<|Bd hm fun r2 h4 hm=>Au R R R<|Aw 0 R fn131 R (K157 x4 r2 h4) fun _ _ h7=> ?_
  obtain ⟨rfl,rfl⟩:=h7
  refine Aq 12 R R R (by kernel_rfl) (A7 pl141 R R)<|Al 13 (by kernel_rfl)<|Au R R R<|Ax ap24 R R R R R fun b3=>Al 14 (by kernel_rfl)<|Bd hm fun l h6 hm=>Au R R R<|Bu 2 T_api_Label.vv (l:=x2.Spread) (l2:=[(⟨r,r2⟩ : T_api_Label)]) ap24 R R (sT_row 0 T_api_Label.vv el24 R R) h6 fun ob8 cap8=>Aq 15 R R R (by kernel_rfl) (B9 R)<|Al 16 (by kernel_rfl)<|Au R R R<|Ao (i:=1) R R R ld24 R R R<|Ay (by kernel_rfl)<|?_
  obtain rfl:=Option.some.inj hm
  exact ⟨.inr R,_,.nil,[3,1,4,5,6,7,8,9,2],_,R,ob,cap,ob2,cap2,ob3,cap3,ob4,cap4,ob5,cap5,ob6,cap6,ob8,cap8,R,R⟩
 ·refine Bd hm fun r3 h9 hm=>Au R R R<|Aw 0 R fn131 R (K157 x3 r3 h9) fun _ _ h20=> ?_
  obtain ⟨rfl,rfl⟩:=h20
  refine B6 [3,11] (by kernel_rfl) ⟨?_,?_,trivial⟩
  ·refine Au R R R<|B7 (Bp (i:=0) R R ld24 R)<|Al 11 (by kernel_rfl)<|Bd hm fun r4 h10 hm=>Au R R R<|Aw 0 R fn131 R (K157 x4 r4 h10) fun _ _ h13=> ?_
   obtain ⟨rfl,rfl⟩:=h13
   refine Aq 12 R R R (by kernel_rfl) (A7 pl141 R R)<|Al 13 (by kernel_rfl)<|Au R R R<|Ax ap24 R R R R R fun b4=>Al 14 (by kernel_rfl)<|Bd hm fun l2 h12 hm=>Au R R R<|Bu 2 T_api_Label.vv (l:=x2.Spread) (l2:=[(⟨r3,r4⟩ : T_api_Label)]) ap24 R R (sT_row 0 T_api_Label.vv el24 R R) h12 fun ob9 cap9=>Aq 15 R R R (by kernel_rfl) (B9 R)<|Al 16 (by kernel_rfl)<|Au R R R<|Ao (i:=1) R R R ld24 R R R<|Ay (by kernel_rfl)<|?_
   obtain rfl:=Option.some.inj hm
   exact ⟨.inr R,_,.nil,[3,1,4,5,6,7,8,9,2],_,R,ob,cap,ob2,cap2,ob3,cap3,ob4,cap4,ob5,cap5,ob6,cap6,ob9,cap9,R,R⟩
  ·refine Bd hm fun r5 h14 hm=>Au R R R<|Aw 0 R fn131 R (K157 x4 r5 h14) fun _ _ h19=> ?_
   obtain ⟨rfl,rfl⟩:=h19
   refine Aq 12 R R R (by kernel_rfl) (A7 pl141 R R)<|?_
   refine B6 [3,13] (by kernel_rfl) ⟨?_,?_,trivial⟩
   ·refine Au R R R<|B7 (Bp (i:=0) R R ld24 R)<|Al 13 (by kernel_rfl)<|Au R R R<|Ax ap24 R R R R R fun b5=>Al 14 (by kernel_rfl)<|Bd hm fun l3 h16 hm=>Au R R R<|Bu 2 T_api_Label.vv (l:=x2.Spread) (l2:=[(⟨r3,r5⟩ : T_api_Label)]) ap24 R R (sT_row 0 T_api_Label.vv el24 R R) h16 fun ob10 cap10=>Aq 15 R R R (by kernel_rfl) (B9 R)<|Al 16 (by kernel_rfl)<|Au R R R<|Ao (i:=1) R R R ld24 R R R<|Ay (by kernel_rfl)<|?_
    obtain rfl:=Option.some.inj hm
    exact ⟨.inr R,_,.nil,[3,1,4,5,6,7,8,9,2],_,R,ob,cap,ob2,cap2,ob3,cap3,ob4,cap4,ob5,cap5,ob6,cap6,ob10,cap10,R,R⟩
   ·refine Au R R R<|Ax ap24 R R R R R fun b6=>Al 3 (by kernel_rfl)<|Au R R R<|B7 (Bp (i:=1) R R ld24 R)<|Al 14 (by kernel_rfl)<|Bd hm fun l4 h18 hm=>Au R R R<|Bu 2 T_api_Label.vv (l:=x2.Spread) (l2:=[(⟨r3,r5⟩ : T_api_Label)]) ap24 R R (sT_row 0 T_api_Label.vv el24 R R) h18 fun ob11 cap11=>Aq 15 R R R (by kernel_rfl) (B9 R)<|Al 16 (by kernel_rfl)<|Au R R R<|Ao (i:=1) R R R ld24 R R R<|Ay (by kernel_rfl)<|?_
    obtain rfl:=Option.some.inj hm
    exact ⟨.inr R,_,.nil,[3,1,4,5,6,7,8,9,2],_,R,ob,cap,ob2,cap2,ob3,cap3,ob4,cap4,ob5,cap5,ob6,cap6,ob11,cap11,R,R⟩

/-! trireme/spec.ofPod$2 -/
def spec_ofPod_2.l1 : List I_any20 → Nat → T_api_Term → Option T_api_Term
 | [], k, t4 => some t4
 | y :: l, k, t4 =>
  (spec_word y).bind fun r6 =>
  (V.ap 16 t4.Vals [r6]).bind fun l2 =>
  spec_ofPod_2.l1 l (k + 1) (⟨t4.Key, t4.Op, l2⟩ : T_api_Term)
def spec_ofPod_2 (x : List I_any20) (x2 : T_api_Pod) : Option T_api_Pod :=
 ((V.gl x (0 : Int)).bind fun x3 =>
 (V.gl x (1 : Int)).bind fun x4 =>
 (spec_word x3).bind fun r =>
 (spec_num x4).bind fun r2 =>
 some (r, r2)).bind fun j =>
 (V.sl x (some 2) none).bind fun v =>
 (spec_ofPod_2.l1 v 0 (⟨j.1, j.2, ([] : List ByteArray)⟩ : T_api_Term)).bind fun t52 =>
 (V.ap 48 x2.Terms [t52]).bind fun l5 =>
 some (⟨x2.Name, x2.Need, x2.Labels, x2.Select, l5, x2.Bears, x2.Ports, x2.Apart, x2.Wide, x2.Spread, x2.Skew, x2.Rank, x2.Owner, x2.Daemon, x2.Pinned, x2.Local⟩ : T_api_Pod)
theorem K162 (x : List I_any20) (x2 : T_api_Pod) (b : Nat) (b2 : Nat) (ob : Option Nat) (cap : Nat) (ob2 : Option Nat) (cap2 : Nat) (ob3 : Option Nat) (cap3 : Nat) (ob4 : Option Nat) (cap4 : Nat) (ob5 : Option Nat) (cap5 : Nat) (ob6 : Option Nat) (cap6 : Nat) (ob7 : Option Nat) (cap7 : Nat) : ∀ r : T_api_Pod, spec_ofPod_2 x x2 = some r → VC Tryz.prog 130 [L20 x, .ptr b 0] [.box b 98 [.ptr b2 0], .box b2 29 [.str x2.Name, Iw x2.Need.Cpu, Iw x2.Need.Mem, Iw x2.Need.Disk, Iw x2.Need.Pods, Iw x2.Need.Dev, Z141 ob x2.Labels cap, Z141 ob2 x2.Select cap2, Z73 ob3 x2.Terms cap3, Z83 ob4 x2.Bears cap4, Z3 ob5 x2.Ports cap5, Z141 ob6 x2.Apart cap6, .bool x2.Wide, Z141 ob7 x2.Spread cap7, Iw x2.Skew, Iw x2.Rank, .str x2.Owner, .bool x2.Daemon, .bool x2.Pinned, .bool x2.Local], Q141 ob cap x2.Labels, Q141 ob2 cap2 x2.Select, Q73 ob3 cap3 x2.Terms, Q83 ob4 cap4 x2.Bears, Q3 ob5 cap5 x2.Ports, Q141 ob6 cap6 x2.Apart, Q141 ob7 cap7 x2.Spread] fun zx zH => ∃ (ob1_6 : Option Nat) (cap1_6 : Nat) (ob1_7 : Option Nat) (cap1_7 : Nat) (ob1_8 : Option Nat) (cap1_8 : Nat) (ob1_9 : Option Nat) (cap1_9 : Nat) (ob1_10 : Option Nat) (cap1_10 : Nat) (ob1_11 : Option Nat) (cap1_11 : Nat) (ob1_13 : Option Nat) (cap1_13 : Nat), zx = .tup [] ∧ zH = [.box b 98 [.ptr b2 0], .box b2 29 [.str r.Name, Iw r.Need.Cpu, Iw r.Need.Mem, Iw r.Need.Disk, Iw r.Need.Pods, Iw r.Need.Dev, Z141 ob1_6 r.Labels cap1_6, Z141 ob1_7 r.Select cap1_7, Z73 ob1_8 r.Terms cap1_8, Z83 ob1_9 r.Bears cap1_9, Z3 ob1_10 r.Ports cap1_10, Z141 ob1_11 r.Apart cap1_11, .bool r.Wide, Z141 ob1_13 r.Spread cap1_13, Iw r.Skew, Iw r.Rank, .str r.Owner, .bool r.Daemon, .bool r.Pinned, .bool r.Local], Q141 ob1_6 cap1_6 r.Labels, Q141 ob1_7 cap1_7 r.Select, Q73 ob1_8 cap1_8 r.Terms, Q83 ob1_9 cap1_9 r.Bears, Q3 ob1_10 cap1_10 r.Ports, Q141 ob1_11 cap1_11 r.Apart, Q141 ob1_13 cap1_13 r.Spread] := by
 refine Cg [] Tryz.func130 R R R fun r hm=>?_
 unfold spec_ofPod_2 at hm
 refine Cj hm (fun _ (gg:Nat)=>[(0,L20 x),(1,.ptr b 0),(3,.ptr gg 0)]) (fun j (gg:Nat)=>[.box gg 73 [.str j.1,Iw j.2,.sl none 0 0],.box b 98 [.ptr b2 0],.box b2 29 [.str x2.Name,Iw x2.Need.Cpu,Iw x2.Need.Mem,Iw x2.Need.Disk,Iw x2.Need.Pods,Iw x2.Need.Dev,Z141 ob x2.Labels cap,Z141 ob2 x2.Select cap2,Z73 ob3 x2.Terms cap3,Z83 ob4 x2.Bears cap4,Z3 ob5 x2.Ports cap5,Z141 ob6 x2.Apart cap6,.bool x2.Wide,Z141 ob7 x2.Spread cap7,Iw x2.Skew,Iw x2.Rank,.str x2.Owner,.bool x2.Daemon,.bool x2.Pinned,.bool x2.Local],Q141 ob cap x2.Labels,Q141 ob2 cap2 x2.Select,Q73 ob3 cap3 x2.Terms,Q83 ob4 cap4 x2.Bears,Q3 ob5 cap5 x2.Ports,Q141 ob6 cap6 x2.Apart,Q141 ob7 cap7 x2.Spread]) (fun o hm=>?_) fun j b3 hm=> ?_
 ·refine A4 0 mixed<|Aq 0 R R R (by kernel_rfl) (Ak R)<|Bd hm fun x3 h4 hm=>Aq 1 R R R (by kernel_rfl) (A2 I_any20.vv R R el81 h4)<|An tbk [2,4] [] (by kernel_rfl) R R R<|Bd hm fun x4 h5 hm=>Aq 5 R R R (by kernel_rfl) (A2 I_any20.vv R R el81 h5)<|Aq 6 R R R (by kernel_rfl) (Bl R ld20 R)<|?_
  refine B6 [3,9] (by kernel_rfl) ⟨?_,?_,trivial⟩
  ·refine Bd hm fun r h6 hm=>Au R R R<|Aw 0 R fn131 R (K157 x3 r h6) fun _ _ h13=> ?_
   obtain ⟨rfl,rfl⟩:=h13
   refine B6 [7,9] (by kernel_rfl) ⟨?_,?_,trivial⟩
   ·refine Bd hm fun r2 h7 hm=>Au R R R<|Aw 0 R fn90 R (K154 x4 r2 h7) fun _ _ h9=> ?_
    obtain ⟨rfl,rfl⟩:=h9
    exact Aq 8 R R R (by kernel_rfl) (A7 pl73 R R)<|Al 9 (by kernel_rfl)<|Au R R R<|Bg z73 fun b4=>Al 10 (by kernel_rfl)<|Au R R R<|Ao (i:=0) R R R ld73 R R R<|Ay (by kernel_rfl)<|As b4 hm (Ag [0,1,2,3,4,5,6,7,8,9] (by kernel_rfl) (by kernel_rfl))
   ·refine Au R R R<|Bg z73 fun b5=>Al 7 (by kernel_rfl)<|Bd hm fun r3 h11 hm=>Au R R R<|Aw 0 R fn90 R (K154 x4 r3 h11) fun _ _ h12=> ?_
    obtain ⟨rfl,rfl⟩:=h12
    exact Aq 8 R R R (by kernel_rfl) (A7 pl73 R R)<|Al 10 (by kernel_rfl)<|Au R R R<|Ao (i:=0) R R R ld73 R R R<|Ay (by kernel_rfl)<|As b5 hm (Ag [0,1,2,3,4,5,6,7,8,9] (by kernel_rfl) (by kernel_rfl))
  ·refine Au R R R<|Bg z73 fun b6=>Al 3 (by kernel_rfl)<|Bd hm fun r4 h15 hm=>Au R R R<|Aw 0 R fn131 R (K157 x3 r4 h15) fun _ _ h18=> ?_
   obtain ⟨rfl,rfl⟩:=h18
   refine Al 7 (by kernel_rfl)<|Bd hm fun r5 h16 hm=>Au R R R<|Aw 0 R fn90 R (K154 x4 r5 h16) fun _ _ h17=> ?_
   obtain ⟨rfl,rfl⟩:=h17
   exact Aq 8 R R R (by kernel_rfl) (A7 pl73 R R)<|Al 10 (by kernel_rfl)<|Au R R R<|Ao (i:=0) R R R ld73 R R R<|Ay (by kernel_rfl)<|As b6 hm (Ag [0,1,2,3,4,5,6,7,8,9] (by kernel_rfl) (by kernel_rfl))
 refine Ae<|Ah<|Aa R R (Ak R)<|Bd hm fun v h19 hm=>Aa R R (Dv R R R el81 h19)<|Aa R R (A5 I_any20.vv R Dp)<|Aa R R (Ak R)<|Ac<|Ck 16 R fun h24=>Cp hm (fun _ (gg:Option Nat × Nat)=>[(1,.ptr b 0),(3,.ptr b3 0)]) (fun t52 (gg:Option Nat × Nat)=>[Q9 gg.1 gg.2 t52.Vals,.box b3 73 [.str t52.Key,Iw t52.Op,Z9 gg.1 t52.Vals gg.2],.box b 98 [.ptr b2 0],.box b2 29 [.str x2.Name,Iw x2.Need.Cpu,Iw x2.Need.Mem,Iw x2.Need.Disk,Iw x2.Need.Pods,Iw x2.Need.Dev,Z141 ob x2.Labels cap,Z141 ob2 x2.Select cap2,Z73 ob3 x2.Terms cap3,Z83 ob4 x2.Bears cap4,Z3 ob5 x2.Ports cap5,Z141 ob6 x2.Apart cap6,.bool x2.Wide,Z141 ob7 x2.Spread cap7,Iw x2.Skew,Iw x2.Rank,.str x2.Owner,.bool x2.Daemon,.bool x2.Pinned,.bool x2.Local],Q141 ob cap x2.Labels,Q141 ob2 cap2 x2.Select,Q73 ob3 cap3 x2.Terms,Q83 ob4 cap4 x2.Bears,Q3 ob5 cap5 x2.Ports,Q141 ob6 cap6 x2.Apart,Q141 ob7 cap7 x2.Spread]) (fun o2 hm=>?_) fun t52=>Pq fun ob10 cap10 hm=> ?_
 ·refine Cz (v) (fun zl zk (zs:T_api_Term)=>spec_ofPod_2.l1 zl zk zs) (fun k _ (_:Option Nat × Nat)=>[(1,.ptr b 0),(3,.ptr b3 0),(16,L20 v),(17,Iw (v.length : Int)),(18,Iw (k : Int))]) (fun _ zs (zg:Option Nat × Nat)=>[Q9 zg.1 zg.2 zs.Vals,.box b3 73 [.str zs.Key,Iw zs.Op,Z9 zg.1 zs.Vals zg.2],.box b 98 [.ptr b2 0],.box b2 29 [.str x2.Name,Iw x2.Need.Cpu,Iw x2.Need.Mem,Iw x2.Need.Disk,Iw x2.Need.Pods,Iw x2.Need.Dev,Z141 ob x2.Labels cap,Z141 ob2 x2.Select cap2,Z73 ob3 x2.Terms cap3,Z83 ob4 x2.Bears cap4,Z3 ob5 x2.Ports cap5,Z141 ob6 x2.Apart cap6,.bool x2.Wide,Z141 ob7 x2.Spread cap7,Iw x2.Skew,Iw x2.Rank,.str x2.Owner,.bool x2.Daemon,.bool x2.Pinned,.bool x2.Local],Q141 ob cap x2.Labels,Q141 ob2 cap2 x2.Select,Q73 ob3 cap3 x2.Terms,Q83 ob4 cap4 x2.Bears,Q3 ob5 cap5 x2.Ports,Q141 ob6 cap6 x2.Apart,Q141 ob7 cap7 x2.Spread]) (⟨j.1,j.2,([] : List ByteArray)⟩ : T_api_Term) (none,0) hm (Bk (A9 9) (Ag [0,1,2,3,4,5,6,7,8,9,10] (by kernel_rfl) (by kernel_rfl))) (fun k t4=>Pq fun ob9 cap9 hk hm=>?_) fun k y l t4=>Pq fun ob9 cap9 h25 hm=> ?_
  ·rw [spec_ofPod_2.l1] at hm
   exact Af tbk [] R R<|Ae<|Cb R (k_end hk)<|Ba<|As (ob9,cap9) hm (Ag [0,1,2,3,4,5,6,7,8,9,10] (by kernel_rfl) (by kernel_rfl))
  rw [spec_ofPod_2.l1] at hm
  refine Af tbk [] R R<|Ae<|Br R (k_lt h25)<|Ai<|Ae<|A1<|Ah<|Aa R R (Ct I_any20.vv R R el81 h25)<|Ab tbk [] 2 R R<|Ac<|A4 2 mixed<|An tbk [0,2] [] (by kernel_rfl) R R R<|?_
  refine B6 [1,3] (by kernel_rfl) ⟨?_,?_,trivial⟩
  ·exact Au R R R<|B7 (Bp (i:=1) R R ld65 R)<|Al 3 (by kernel_rfl)<|Au R R R<|A0 hm 0 R fn131 R (K157 _) fun r6 hm=>Al 4 (by kernel_rfl)<|Au R R R<|Ax ap65 R R R R R fun b7=>Al 5 (by kernel_rfl)<|Bd hm fun l2 h28 hm=>Au R R R<|Bu 1 VV.str (l:=t4.Vals) (l2:=[r6]) ap65 R R (sT_row 0 VV.str el65 R R) h28 fun ob11 cap11=>Aq 6 R R R (by kernel_rfl) (Cx R fa73_2)<|Al 7 (by kernel_rfl)<|Au R R R<|Ao (i:=2) R R R ld65 R R R<|Ay (by kernel_rfl)<|Bb tbk [] R R<|Ap (⟨t4.Key,t4.Op,l2⟩ : T_api_Term) (ob11,cap11) hm (Bv [1,2,3,4,5,6,7,8,9,10,11] (by kernel_rfl) ⟨R,R,R,R,congrArg some (k_next h25 h24),trivial⟩)
  ·refine Au R R R<|A0 hm 0 R fn131 R (K157 _) fun r7 hm=> ?_
   refine B6 [1,4] (by kernel_rfl) ⟨?_,?_,trivial⟩
   ·exact Au R R R<|B7 (Bp (i:=1) R R ld65 R)<|Al 4 (by kernel_rfl)<|Au R R R<|Ax ap65 R R R R R fun b8=>Al 5 (by kernel_rfl)<|Bd hm fun l3 h31 hm=>Au R R R<|Bu 1 VV.str (l:=t4.Vals) (l2:=[r7]) ap65 R R (sT_row 0 VV.str el65 R R) h31 fun ob12 cap12=>Aq 6 R R R (by kernel_rfl) (Cx R fa73_2)<|Al 7 (by kernel_rfl)<|Au R R R<|Ao (i:=2) R R R ld65 R R R<|Ay (by kernel_rfl)<|Bb tbk [] R R<|Ap (⟨t4.Key,t4.Op,l3⟩ : T_api_Term) (ob12,cap12) hm (Bv [1,2,3,4,5,6,7,8,9,10,11] (by kernel_rfl) ⟨R,R,R,R,congrArg some (k_next h25 h24),trivial⟩)
   ·exact Au R R R<|Ax ap65 R R R R R fun b9=>Al 1 (by kernel_rfl)<|Au R R R<|B7 (Bp (i:=2) R R ld65 R)<|Al 5 (by kernel_rfl)<|Bd hm fun l4 h33 hm=>Au R R R<|Bu 1 VV.str (l:=t4.Vals) (l2:=[r7]) ap65 R R (sT_row 0 VV.str el65 R R) h33 fun ob13 cap13=>Aq 6 R R R (by kernel_rfl) (Cx R fa73_2)<|Al 7 (by kernel_rfl)<|Au R R R<|Ao (i:=2) R R R ld65 R R R<|Ay (by kernel_rfl)<|Bb tbk [] R R<|Ap (⟨t4.Key,t4.Op,l4⟩ : T_api_Term) (ob13,cap13) hm (Bv [1,2,3,4,5,6,7,8,9,10,11] (by kernel_rfl) ⟨R,R,R,R,congrArg some (k_next h25 h24),trivial⟩)
 refine Bi (Az (H':=[X73 b3 t52,.box b 98 [.ptr b2 0],.box b2 29 [.str x2.Name,Iw x2.Need.Cpu,Iw x2.Need.Mem,Iw x2.Need.Disk,Iw x2.Need.Pods,Iw x2.Need.Dev,Z141 ob x2.Labels cap,Z141 ob2 x2.Select cap2,Z73 ob3 x2.Terms cap3,Z83 ob4 x2.Bears cap4,Z3 ob5 x2.Ports cap5,Z141 ob6 x2.Apart cap6,.bool x2.Wide,Z141 ob7 x2.Spread cap7,Iw x2.Skew,Iw x2.Rank,.str x2.Owner,.bool x2.Daemon,.bool x2.Pinned,.bool x2.Local],Q141 ob cap x2.Labels,Q141 ob2 cap2 x2.Select,Q73 ob3 cap3 x2.Terms,Q83 ob4 cap4 x2.Bears,Q3 ob5 cap5 x2.Ports,Q141 ob6 cap6 x2.Apart,Q141 ob7 cap7 x2.Spread]) 0 [] R trivial ⟨.box _ _ _ _ ⟨.same _,.same _,.here _ R,trivial⟩,.same _,.same _,.same _,.same _,.same _,.same _,.same _,.same _,.same _,trivial⟩)<|Bi (Bf [2,5,0,1,3,4,6,7,8,9] R)<|A4 2 mixed<|An tbk [0,1,2,3,5] [1,1,0] (by kernel_rfl) R R R<|?_
 refine B6 [4,6] (by kernel_rfl) ⟨?_,?_,trivial⟩
 ·refine Au R R R<|B7 (Bp (i:=0) R R ld25 R)<|Al 6 (by kernel_rfl)<|Au R R R<|Ax ap25 R R R R R fun b10=>Al 7 (by kernel_rfl)<|Bd hm fun l5 h36 hm=>Au R R R<|Bu 2 T_api_Term.vv (l:=x2.Terms) (l2:=[t52]) ap25 R R (sT_row 0 T_api_Term.vv el25 R R) h36 fun ob14 cap14=>An tbk [8,9] [] (by kernel_rfl) R R R<|Al 10 (by kernel_rfl)<|Au R R R<|Ao (i:=1) R R R ld25 R R R<|Ay (by kernel_rfl)<|?_
  obtain rfl:=Option.some.inj hm
  exact ⟨.inr R,_,.nil,[4,1,5,6,2,7,8,9,10],_,R,ob,cap,ob2,cap2,ob14,cap14,ob4,cap4,ob5,cap5,ob6,cap6,ob7,cap7,R,R⟩
 ·refine Au R R R<|Ax ap25 R R R R R fun b11=>Al 4 (by kernel_rfl)<|Au R R R<|B7 (Bp (i:=1) R R ld25 R)<|Al 7 (by kernel_rfl)<|Bd hm fun l6 h38 hm=>Au R R R<|Bu 2 T_api_Term.vv (l:=x2.Terms) (l2:=[t52]) ap25 R R (sT_row 0 T_api_Term.vv el25 R R) h38 fun ob15 cap15=>An tbk [8,9] [] (by kernel_rfl) R R R<|Al 10 (by kernel_rfl)<|Au R R R<|Ao (i:=1) R R R ld25 R R R<|Ay (by kernel_rfl)<|?_
  obtain rfl:=Option.some.inj hm
  exact ⟨.inr R,_,.nil,[4,1,5,6,2,7,8,9,10],_,R,ob,cap,ob2,cap2,ob15,cap15,ob4,cap4,ob5,cap5,ob6,cap6,ob7,cap7,R,R⟩

/-! trireme/spec.ofPod$3 -/
def spec_ofPod_3 (x : List I_any20) (x2 : T_api_Pod) : Option T_api_Pod :=
 (V.gl x (0 : Int)).bind fun x3 =>
 (V.gl x (1 : Int)).bind fun x4 =>
 (V.gl x (2 : Int)).bind fun x5 =>
 (spec_word x3).bind fun r =>
 (spec_word x4).bind fun r2 =>
 (spec_num x5).bind fun r3 =>
 (V.ap 48 x2.Bears [(⟨r, r2, false, r3⟩ : T_api_Toleration)]).bind fun l =>
 some (⟨x2.Name, x2.Need, x2.Labels, x2.Select, x2.Terms, l, x2.Ports, x2.Apart, x2.Wide, x2.Spread, x2.Skew, x2.Rank, x2.Owner, x2.Daemon, x2.Pinned, x2.Local⟩ : T_api_Pod)
theorem K163 (x : List I_any20) (x2 : T_api_Pod) (b : Nat) (b2 : Nat) (ob : Option Nat) (cap : Nat) (ob2 : Option Nat) (cap2 : Nat) (ob3 : Option Nat) (cap3 : Nat) (ob4 : Option Nat) (cap4 : Nat) (ob5 : Option Nat) (cap5 : Nat) (ob6 : Option Nat) (cap6 : Nat) (ob7 : Option Nat) (cap7 : Nat) : ∀ r : T_api_Pod, spec_ofPod_3 x x2 = some r → VC Tryz.prog 132 [L20 x, .ptr b 0] [.box b 98 [.ptr b2 0], .box b2 29 [.str x2.Name, Iw x2.Need.Cpu, Iw x2.Need.Mem, Iw x2.Need.Disk, Iw x2.Need.Pods, Iw x2.Need.Dev, Z141 ob x2.Labels cap, Z141 ob2 x2.Select cap2, Z73 ob3 x2.Terms cap3, Z83 ob4 x2.Bears cap4, Z3 ob5 x2.Ports cap5, Z141 ob6 x2.Apart cap6, .bool x2.Wide, Z141 ob7 x2.Spread cap7, Iw x2.Skew, Iw x2.Rank, .str x2.Owner, .bool x2.Daemon, .bool x2.Pinned, .bool x2.Local], Q141 ob cap x2.Labels, Q141 ob2 cap2 x2.Select, Q73 ob3 cap3 x2.Terms, Q83 ob4 cap4 x2.Bears, Q3 ob5 cap5 x2.Ports, Q141 ob6 cap6 x2.Apart, Q141 ob7 cap7 x2.Spread] fun zx zH => ∃ (ob1_6 : Option Nat) (cap1_6 : Nat) (ob1_7 : Option Nat) (cap1_7 : Nat) (ob1_8 : Option Nat) (cap1_8 : Nat) (ob1_9 : Option Nat) (cap1_9 : Nat) (ob1_10 : Option Nat) (cap1_10 : Nat) (ob1_11 : Option Nat) (cap1_11 : Nat) (ob1_13 : Option Nat) (cap1_13 : Nat), zx = .tup [] ∧ zH = [.box b 98 [.ptr b2 0], .box b2 29 [.str r.Name, Iw r.Need.Cpu, Iw r.Need.Mem, Iw r.Need.Disk, Iw r.Need.Pods, Iw r.Need.Dev, Z141 ob1_6 r.Labels cap1_6, Z141 ob1_7 r.Select cap1_7, Z73 ob1_8 r.Terms cap1_8, Z83 ob1_9 r.Bears cap1_9, Z3 ob1_10 r.Ports cap1_10, Z141 ob1_11 r.Apart cap1_11, .bool r.Wide, Z141 ob1_13 r.Spread cap1_13, Iw r.Skew, Iw r.Rank, .str r.Owner, .bool r.Daemon, .bool r.Pinned, .bool r.Local], Q141 ob1_6 cap1_6 r.Labels, Q141 ob1_7 cap1_7 r.Select, Q73 ob1_8 cap1_8 r.Terms, Q83 ob1_9 cap1_9 r.Bears, Q3 ob1_10 cap1_10 r.Ports, Q141 ob1_11 cap1_11 r.Apart, Q141 ob1_13 cap1_13 r.Spread] := by
 refine Cg [] Tryz.func132 R R R fun r hm=>?_
 unfold spec_ofPod_3 at hm
 refine Bi (Bf [1,5,0,2,3,4,6,7,8] R)<|A4 2 mixed<|An tbk [0,1,2,3,5] [0,0] (by kernel_rfl) R R R<|Bd hm fun x3 h1 hm=>Aq 6 R R R (by kernel_rfl) (A2 I_any20.vv R R el81 h1)<|An tbk [7,9] [] (by kernel_rfl) R R R<|Bd hm fun x4 h2 hm=>Aq 10 R R R (by kernel_rfl) (A2 I_any20.vv R R el81 h2)<|An tbk [11,13] [] (by kernel_rfl) R R R<|Bd hm fun x5 h3 hm=>Aq 14 R R R (by kernel_rfl) (A2 I_any20.vv R R el81 h3)<|Aq 15 R R R (by kernel_rfl) (Bl R ld20 R)<|?_
 refine B6 [4,8] (by kernel_rfl) ⟨?_,?_,trivial⟩
 ·refine Au R R R<|B7 (Bp (i:=0) R R ld26 R)<|Al 8 (by kernel_rfl)<|Bd hm fun r h4 hm=>Au R R R<|Aw 0 R fn131 R (K157 x3 r h4) fun _ _ h11=> ?_
  obtain ⟨rfl,rfl⟩:=h11
  refine Al 12 (by kernel_rfl)<|Bd hm fun r2 h5 hm=>Au R R R<|Aw 0 R fn131 R (K157 x4 r2 h5) fun _ _ h10=> ?_
  obtain ⟨rfl,rfl⟩:=h10
  refine Al 16 (by kernel_rfl)<|Bd hm fun r3 h6 hm=>Au R R R<|Aw 0 R fn90 R (K154 x5 r3 h6) fun _ _ h9=> ?_
  obtain ⟨rfl,rfl⟩:=h9
  refine Aq 17 R R R (by kernel_rfl) (A7 pl83 R R)<|Al 18 (by kernel_rfl)<|Au R R R<|Ax ap26 R R R R R fun b3=>Al 19 (by kernel_rfl)<|Bd hm fun l h8 hm=>Au R R R<|Bu 2 T_api_Toleration.vv (l:=x2.Bears) (l2:=[(⟨r,r2,false,r3⟩ : T_api_Toleration)]) ap26 R R (sT_row 0 T_api_Toleration.vv el26 R R) h8 fun ob8 cap8=>An tbk [20,21] [] (by kernel_rfl) R R R<|Al 22 (by kernel_rfl)<|Au R R R<|Ao (i:=1) R R R ld26 R R R<|Ay (by kernel_rfl)<|?_
  obtain rfl:=Option.some.inj hm
  exact ⟨.inr R,_,.nil,[3,1,4,5,6,2,7,8,9],_,R,ob,cap,ob2,cap2,ob3,cap3,ob8,cap8,ob5,cap5,ob6,cap6,ob7,cap7,R,R⟩
 ·refine Bd hm fun r4 h12 hm=>Au R R R<|Aw 0 R fn131 R (K157 x3 r4 h12) fun _ _ h31=> ?_
  obtain ⟨rfl,rfl⟩:=h31
  refine B6 [4,12] (by kernel_rfl) ⟨?_,?_,trivial⟩
  ·refine Au R R R<|B7 (Bp (i:=0) R R ld26 R)<|Al 12 (by kernel_rfl)<|Bd hm fun r5 h13 hm=>Au R R R<|Aw 0 R fn131 R (K157 x4 r5 h13) fun _ _ h18=> ?_
   obtain ⟨rfl,rfl⟩:=h18
   refine Al 16 (by kernel_rfl)<|Bd hm fun r6 h14 hm=>Au R R R<|Aw 0 R fn90 R (K154 x5 r6 h14) fun _ _ h17=> ?_
   obtain ⟨rfl,rfl⟩:=h17
   refine Aq 17 R R R (by kernel_rfl) (A7 pl83 R R)<|Al 18 (by kernel_rfl)<|Au R R R<|Ax ap26 R R R R R fun b4=>Al 19 (by kernel_rfl)<|Bd hm fun l2 h16 hm=>Au R R R<|Bu 2 T_api_Toleration.vv (l:=x2.Bears) (l2:=[(⟨r4,r5,false,r6⟩ : T_api_Toleration)]) ap26 R R (sT_row 0 T_api_Toleration.vv el26 R R) h16 fun ob9 cap9=>An tbk [20,21] [] (by kernel_rfl) R R R<|Al 22 (by kernel_rfl)<|Au R R R<|Ao (i:=1) R R R ld26 R R R<|Ay (by kernel_rfl)<|?_
   obtain rfl:=Option.some.inj hm
   exact ⟨.inr R,_,.nil,[3,1,4,5,6,2,7,8,9],_,R,ob,cap,ob2,cap2,ob3,cap3,ob9,cap9,ob5,cap5,ob6,cap6,ob7,cap7,R,R⟩
  ·refine Bd hm fun r7 h19 hm=>Au R R R<|Aw 0 R fn131 R (K157 x4 r7 h19) fun _ _ h30=> ?_
   obtain ⟨rfl,rfl⟩:=h30
   refine B6 [4,16] (by kernel_rfl) ⟨?_,?_,trivial⟩
   ·refine Au R R R<|B7 (Bp (i:=0) R R ld26 R)<|Al 16 (by kernel_rfl)<|Bd hm fun r8 h20 hm=>Au R R R<|Aw 0 R fn90 R (K154 x5 r8 h20) fun _ _ h23=> ?_
    obtain ⟨rfl,rfl⟩:=h23
    refine Aq 17 R R R (by kernel_rfl) (A7 pl83 R R)<|Al 18 (by kernel_rfl)<|Au R R R<|Ax ap26 R R R R R fun b5=>Al 19 (by kernel_rfl)<|Bd hm fun l3 h22 hm=>Au R R R<|Bu 2 T_api_Toleration.vv (l:=x2.Bears) (l2:=[(⟨r4,r7,false,r8⟩ : T_api_Toleration)]) ap26 R R (sT_row 0 T_api_Toleration.vv el26 R R) h22 fun ob10 cap10=>An tbk [20,21] [] (by kernel_rfl) R R R<|Al 22 (by kernel_rfl)<|Au R R R<|Ao (i:=1) R R R ld26 R R R<|Ay (by kernel_rfl)<|?_
    obtain rfl:=Option.some.inj hm
    exact ⟨.inr R,_,.nil,[3,1,4,5,6,2,7,8,9],_,R,ob,cap,ob2,cap2,ob3,cap3,ob10,cap10,ob5,cap5,ob6,cap6,ob7,cap7,R,R⟩
   ·refine Bd hm fun r9 h24 hm=>Au R R R<|Aw 0 R fn90 R (K154 x5 r9 h24) fun _ _ h29=> ?_
    obtain ⟨rfl,rfl⟩:=h29
    refine Aq 17 R R R (by kernel_rfl) (A7 pl83 R R)<|?_
    refine B6 [4,18] (by kernel_rfl) ⟨?_,?_,trivial⟩
    ·refine Au R R R<|B7 (Bp (i:=0) R R ld26 R)<|Al 18 (by kernel_rfl)<|Au R R R<|Ax ap26 R R R R R fun b6=>Al 19 (by kernel_rfl)<|Bd hm fun l4 h26 hm=>Au R R R<|Bu 2 T_api_Toleration.vv (l:=x2.Bears) (l2:=[(⟨r4,r7,false,r9⟩ : T_api_Toleration)]) ap26 R R (sT_row 0 T_api_Toleration.vv el26 R R) h26 fun ob11 cap11=>An tbk [20,21] [] (by kernel_rfl) R R R<|Al 22 (by kernel_rfl)<|Au R R R<|Ao (i:=1) R R R ld26 R R R<|Ay (by kernel_rfl)<|?_
     obtain rfl:=Option.some.inj hm
     exact ⟨.inr R,_,.nil,[3,1,4,5,6,2,7,8,9],_,R,ob,cap,ob2,cap2,ob3,cap3,ob11,cap11,ob5,cap5,ob6,cap6,ob7,cap7,R,R⟩
    ·refine Au R R R<|Ax ap26 R R R R R fun b7=>Al 4 (by kernel_rfl)<|Au R R R<|B7 (Bp (i:=1) R R ld26 R)<|Al 19 (by kernel_rfl)<|Bd hm fun l5 h28 hm=>Au R R R<|Bu 2 T_api_Toleration.vv (l:=x2.Bears) (l2:=[(⟨r4,r7,false,r9⟩ : T_api_Toleration)]) ap26 R R (sT_row 0 T_api_Toleration.vv el26 R R) h28 fun ob12 cap12=>An tbk [20,21] [] (by kernel_rfl) R R R<|Al 22 (by kernel_rfl)<|Au R R R<|Ao (i:=1) R R R ld26 R R R<|Ay (by kernel_rfl)<|?_
     obtain rfl:=Option.some.inj hm
     exact ⟨.inr R,_,.nil,[3,1,4,5,6,2,7,8,9],_,R,ob,cap,ob2,cap2,ob3,cap3,ob12,cap12,ob5,cap5,ob6,cap6,ob7,cap7,R,R⟩

/-! trireme/spec.ofPod$4 -/
def spec_ofPod_4 (x : List I_any20) (x2 : T_api_Pod) : Option T_api_Pod :=
 (V.gl x (0 : Int)).bind fun x3 =>
 (V.gl x (1 : Int)).bind fun x4 =>
 (spec_word x3).bind fun r =>
 (spec_num x4).bind fun r2 =>
 (V.ap 48 x2.Bears [(⟨r, (⟨#[]⟩ : ByteArray), true, r2⟩ : T_api_Toleration)]).bind fun l =>
 some (⟨x2.Name, x2.Need, x2.Labels, x2.Select, x2.Terms, l, x2.Ports, x2.Apart, x2.Wide, x2.Spread, x2.Skew, x2.Rank, x2.Owner, x2.Daemon, x2.Pinned, x2.Local⟩ : T_api_Pod)
theorem K164 (x : List I_any20) (x2 : T_api_Pod) (b : Nat) (b2 : Nat) (ob : Option Nat) (cap : Nat) (ob2 : Option Nat) (cap2 : Nat) (ob3 : Option Nat) (cap3 : Nat) (ob4 : Option Nat) (cap4 : Nat) (ob5 : Option Nat) (cap5 : Nat) (ob6 : Option Nat) (cap6 : Nat) (ob7 : Option Nat) (cap7 : Nat) : ∀ r : T_api_Pod, spec_ofPod_4 x x2 = some r → VC Tryz.prog 133 [L20 x, .ptr b 0] [.box b 98 [.ptr b2 0], .box b2 29 [.str x2.Name, Iw x2.Need.Cpu, Iw x2.Need.Mem, Iw x2.Need.Disk, Iw x2.Need.Pods, Iw x2.Need.Dev, Z141 ob x2.Labels cap, Z141 ob2 x2.Select cap2, Z73 ob3 x2.Terms cap3, Z83 ob4 x2.Bears cap4, Z3 ob5 x2.Ports cap5, Z141 ob6 x2.Apart cap6, .bool x2.Wide, Z141 ob7 x2.Spread cap7, Iw x2.Skew, Iw x2.Rank, .str x2.Owner, .bool x2.Daemon, .bool x2.Pinned, .bool x2.Local], Q141 ob cap x2.Labels, Q141 ob2 cap2 x2.Select, Q73 ob3 cap3 x2.Terms, Q83 ob4 cap4 x2.Bears, Q3 ob5 cap5 x2.Ports, Q141 ob6 cap6 x2.Apart, Q141 ob7 cap7 x2.Spread] fun zx zH => ∃ (ob1_6 : Option Nat) (cap1_6 : Nat) (ob1_7 : Option Nat) (cap1_7 : Nat) (ob1_8 : Option Nat) (cap1_8 : Nat) (ob1_9 : Option Nat) (cap1_9 : Nat) (ob1_10 : Option Nat) (cap1_10 : Nat) (ob1_11 : Option Nat) (cap1_11 : Nat) (ob1_13 : Option Nat) (cap1_13 : Nat), zx = .tup [] ∧ zH = [.box b 98 [.ptr b2 0], .box b2 29 [.str r.Name, Iw r.Need.Cpu, Iw r.Need.Mem, Iw r.Need.Disk, Iw r.Need.Pods, Iw r.Need.Dev, Z141 ob1_6 r.Labels cap1_6, Z141 ob1_7 r.Select cap1_7, Z73 ob1_8 r.Terms cap1_8, Z83 ob1_9 r.Bears cap1_9, Z3 ob1_10 r.Ports cap1_10, Z141 ob1_11 r.Apart cap1_11, .bool r.Wide, Z141 ob1_13 r.Spread cap1_13, Iw r.Skew, Iw r.Rank, .str r.Owner, .bool r.Daemon, .bool r.Pinned, .bool r.Local], Q141 ob1_6 cap1_6 r.Labels, Q141 ob1_7 cap1_7 r.Select, Q73 ob1_8 cap1_8 r.Terms, Q83 ob1_9 cap1_9 r.Bears, Q3 ob1_10 cap1_10 r.Ports, Q141 ob1_11 cap1_11 r.Apart, Q141 ob1_13 cap1_13 r.Spread] := by
 refine Cg [] Tryz.func133 R R R fun r hm=>?_
 unfold spec_ofPod_4 at hm
 refine Bi (Bf [1,5,0,2,3,4,6,7,8] R)<|A4 2 mixed<|An tbk [0,1,2,3,5] [0,0] (by kernel_rfl) R R R<|Bd hm fun x3 h1 hm=>Aq 6 R R R (by kernel_rfl) (A2 I_any20.vv R R el81 h1)<|An tbk [7,9] [] (by kernel_rfl) R R R<|Bd hm fun x4 h2 hm=>Aq 10 R R R (by kernel_rfl) (A2 I_any20.vv R R el81 h2)<|Aq 11 R R R (by kernel_rfl) (Bl R ld20 R)<|?_
 refine B6 [4,8] (by kernel_rfl) ⟨?_,?_,trivial⟩
 ·refine Au R R R<|B7 (Bp (i:=0) R R ld26 R)<|Al 8 (by kernel_rfl)<|Bd hm fun r h3 hm=>Au R R R<|Aw 0 R fn131 R (K157 x3 r h3) fun _ _ h8=> ?_
  obtain ⟨rfl,rfl⟩:=h8
  refine Al 12 (by kernel_rfl)<|Bd hm fun r2 h4 hm=>Au R R R<|Aw 0 R fn90 R (K154 x4 r2 h4) fun _ _ h7=> ?_
  obtain ⟨rfl,rfl⟩:=h7
  refine Aq 13 R R R (by kernel_rfl) (A7 pl83 R R)<|Al 14 (by kernel_rfl)<|Au R R R<|Ax ap26 R R R R R fun b3=>Al 15 (by kernel_rfl)<|Bd hm fun l h6 hm=>Au R R R<|Bu 2 T_api_Toleration.vv (l:=x2.Bears) (l2:=[(⟨r,(⟨#[]⟩ : ByteArray),true,r2⟩ : T_api_Toleration)]) ap26 R R (sT_row 0 T_api_Toleration.vv el26 R R) h6 fun ob8 cap8=>An tbk [16,17] [] (by kernel_rfl) R R R<|Al 18 (by kernel_rfl)<|Au R R R<|Ao (i:=1) R R R ld26 R R R<|Ay (by kernel_rfl)<|?_
  obtain rfl:=Option.some.inj hm
  exact ⟨.inr R,_,.nil,[3,1,4,5,6,2,7,8,9],_,R,ob,cap,ob2,cap2,ob3,cap3,ob8,cap8,ob5,cap5,ob6,cap6,ob7,cap7,R,R⟩
 ·refine Bd hm fun r3 h9 hm=>Au R R R<|Aw 0 R fn131 R (K157 x3 r3 h9) fun _ _ h20=> ?_
  obtain ⟨rfl,rfl⟩:=h20
  refine B6 [4,12] (by kernel_rfl) ⟨?_,?_,trivial⟩
  ·refine Au R R R<|B7 (Bp (i:=0) R R ld26 R)<|Al 12 (by kernel_rfl)<|Bd hm fun r4 h10 hm=>Au R R R<|Aw 0 R fn90 R (K154 x4 r4 h10) fun _ _ h13=> ?_
   obtain ⟨rfl,rfl⟩:=h13
   refine Aq 13 R R R (by kernel_rfl) (A7 pl83 R R)<|Al 14 (by kernel_rfl)<|Au R R R<|Ax ap26 R R R R R fun b4=>Al 15 (by kernel_rfl)<|Bd hm fun l2 h12 hm=>Au R R R<|Bu 2 T_api_Toleration.vv (l:=x2.Bears) (l2:=[(⟨r3,(⟨#[]⟩ : ByteArray),true,r4⟩ : T_api_Toleration)]) ap26 R R (sT_row 0 T_api_Toleration.vv el26 R R) h12 fun ob9 cap9=>An tbk [16,17] [] (by kernel_rfl) R R R<|Al 18 (by kernel_rfl)<|Au R R R<|Ao (i:=1) R R R ld26 R R R<|Ay (by kernel_rfl)<|?_
   obtain rfl:=Option.some.inj hm
   exact ⟨.inr R,_,.nil,[3,1,4,5,6,2,7,8,9],_,R,ob,cap,ob2,cap2,ob3,cap3,ob9,cap9,ob5,cap5,ob6,cap6,ob7,cap7,R,R⟩
  ·refine Bd hm fun r5 h14 hm=>Au R R R<|Aw 0 R fn90 R (K154 x4 r5 h14) fun _ _ h19=> ?_
   obtain ⟨rfl,rfl⟩:=h19
   refine Aq 13 R R R (by kernel_rfl) (A7 pl83 R R)<|?_
   refine B6 [4,14] (by kernel_rfl) ⟨?_,?_,trivial⟩
   ·refine Au R R R<|B7 (Bp (i:=0) R R ld26 R)<|Al 14 (by kernel_rfl)<|Au R R R<|Ax ap26 R R R R R fun b5=>Al 15 (by kernel_rfl)<|Bd hm fun l3 h16 hm=>Au R R R<|Bu 2 T_api_Toleration.vv (l:=x2.Bears) (l2:=[(⟨r3,(⟨#[]⟩ : ByteArray),true,r5⟩ : T_api_Toleration)]) ap26 R R (sT_row 0 T_api_Toleration.vv el26 R R) h16 fun ob10 cap10=>An tbk [16,17] [] (by kernel_rfl) R R R<|Al 18 (by kernel_rfl)<|Au R R R<|Ao (i:=1) R R R ld26 R R R<|Ay (by kernel_rfl)<|?_
    obtain rfl:=Option.some.inj hm
    exact ⟨.inr R,_,.nil,[3,1,4,5,6,2,7,8,9],_,R,ob,cap,ob2,cap2,ob3,cap3,ob10,cap10,ob5,cap5,ob6,cap6,ob7,cap7,R,R⟩
   ·refine Au R R R<|Ax ap26 R R R R R fun b6=>Al 4 (by kernel_rfl)<|Au R R R<|B7 (Bp (i:=1) R R ld26 R)<|Al 15 (by kernel_rfl)<|Bd hm fun l4 h18 hm=>Au R R R<|Bu 2 T_api_Toleration.vv (l:=x2.Bears) (l2:=[(⟨r3,(⟨#[]⟩ : ByteArray),true,r5⟩ : T_api_Toleration)]) ap26 R R (sT_row 0 T_api_Toleration.vv el26 R R) h18 fun ob11 cap11=>An tbk [16,17] [] (by kernel_rfl) R R R<|Al 18 (by kernel_rfl)<|Au R R R<|Ao (i:=1) R R R ld26 R R R<|Ay (by kernel_rfl)<|?_
    obtain rfl:=Option.some.inj hm
    exact ⟨.inr R,_,.nil,[3,1,4,5,6,2,7,8,9],_,R,ob,cap,ob2,cap2,ob3,cap3,ob11,cap11,ob5,cap5,ob6,cap6,ob7,cap7,R,R⟩

end Go.Proofs.YtkondhigbbgidaaGreat.M

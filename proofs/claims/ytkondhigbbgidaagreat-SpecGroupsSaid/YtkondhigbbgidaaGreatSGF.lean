/-
  Printed by a program of this session out of the loaded functions: models and their proofs. Own text.
-/
import Derived.Test.YtkondhigbbgidaaGreatSGF2
namespace Go.Proofs.YtkondhigbbgidaaGreat.M
open Go Go.Proofs Go.Proofs.YtkondhigbbgidaaGreat.V
open Go.IntKind (i64)
set_option linter.unusedVariables false
set_option linter.unusedSimpArgs false
set_option maxRecDepth 20000
set_option maxHeartbeats 40000000
/-! trireme/spec.ShowPod -/
def spec_ShowPod.l2 : List ByteArray → Nat → (List I_any20) → Option (List I_any20)
 | [], k2, x4 => some x4
 | x6 :: l2, k2, x4 =>
  (V.ap 16 x4 [(I_any20.c9 x6)]).bind fun x7 =>
  spec_ShowPod.l2 l2 (k2 + 1) x7
def spec_ShowPod.l1 : List T_api_Term → Nat → T_spec_writer → Option T_spec_writer
 | [], k, w2 => some w2
 | x :: l, k, w2 =>
  (spec_ops).bind fun r9 =>
  (V.gl r9 x.Op).bind fun x2 =>
  (spec_ShowPod.l2 x.Vals 0 [(I_any20.c9 x.Key), (I_any20.c9 x2)]).bind fun x52 =>
  (spec_writer_list w2 (⟨#[116, 101, 114, 109]⟩ : ByteArray) x52).bind fun r10 =>
  spec_ShowPod.l1 l (k + 1) r10
def spec_ShowPod.l3 : List T_api_Toleration → Nat → T_spec_writer → Option T_spec_writer
 | [], k3, w5 => some w5
 | x8 :: l3, k3, w5 =>
  if x8.Any = true then
   (spec_effects).bind fun r11 =>
   (V.gl r11 x8.Effect).bind fun x9 =>
   (spec_writer_list w5 (⟨#[98, 101, 97, 114, 97, 110, 121]⟩ : ByteArray) [(I_any20.c9 x8.Key), (I_any20.c9 x9)]).bind fun r12 =>
   spec_ShowPod.l3 l3 (k3 + 1) r12
  else
   (spec_effects).bind fun r13 =>
   (V.gl r13 x8.Effect).bind fun x10 =>
   (spec_writer_list w5 (⟨#[98, 101, 97, 114]⟩ : ByteArray) [(I_any20.c9 x8.Key), (I_any20.c9 x8.Val), (I_any20.c9 x10)]).bind fun r14 =>
   spec_ShowPod.l3 l3 (k3 + 1) r14
def spec_ShowPod.l4 : List Int → Nat → T_spec_writer → Option T_spec_writer
 | [], k4, w8 => some w8
 | x11 :: l4, k4, w8 =>
  (spec_writer_list w8 (⟨#[112, 111, 114, 116]⟩ : ByteArray) [(I_any20.c3 x11)]).bind fun r15 =>
  spec_ShowPod.l4 l4 (k4 + 1) r15
def spec_ShowPod (p : T_api_Pod) : Option ByteArray :=
 (spec_RightPod p).bind fun r =>
 if (!r) = true then
  some (⟨#[]⟩ : ByteArray)
 else
  (V.cat (⟨#[40, 112, 111, 100, 32]⟩ : ByteArray) p.Name).bind fun v =>
  (quant_ShowMilli p.Need.Cpu).bind fun r2 =>
  (quant_Show p.Need.Mem).bind fun r3 =>
  (quant_Show p.Need.Disk).bind fun r4 =>
  (spec_writer_list (⟨v⟩ : T_spec_writer) (⟨#[110, 101, 101, 100]⟩ : ByteArray) [(I_any20.c9 r2), (I_any20.c9 r3), (I_any20.c9 r4), (I_any20.c3 p.Need.Dev)]).bind fun r5 =>
  (spec_writer_pairs r5 (⟨#[108, 97, 98, 101, 108]⟩ : ByteArray) p.Labels).bind fun r6 =>
  (spec_writer_pairs r6 (⟨#[115, 101, 108, 101, 99, 116]⟩ : ByteArray) p.Select).bind fun r7 =>
  (spec_writer_pairs r7 (⟨#[97, 112, 97, 114, 116]⟩ : ByteArray) p.Apart).bind fun r8 =>
  (spec_ShowPod.l1 p.Terms 0 r8).bind fun w32 =>
  (spec_ShowPod.l3 p.Bears 0 w32).bind fun w62 =>
  (spec_ShowPod.l4 p.Ports 0 w62).bind fun w92 =>
  (spec_writer_some w92 (⟨#[115, 112, 114, 101, 97, 100]⟩ : ByteArray) p.Skew).bind fun r16 =>
  (spec_writer_pairs r16 (⟨#[111, 118, 101, 114]⟩ : ByteArray) p.Spread).bind fun r17 =>
  (spec_writer_some r17 (⟨#[114, 97, 110, 107]⟩ : ByteArray) p.Rank).bind fun r18 =>
  if (!(V.seq p.Owner (⟨#[]⟩ : ByteArray))) = true then
   (spec_writer_list r18 (⟨#[111, 119, 110, 101, 114]⟩ : ByteArray) [(I_any20.c9 p.Owner)]).bind fun r19 =>
   (spec_writer_flag r19 (⟨#[119, 105, 100, 101]⟩ : ByteArray) p.Wide).bind fun r20 =>
   (spec_writer_flag r20 (⟨#[100, 97, 101, 109, 111, 110]⟩ : ByteArray) p.Daemon).bind fun r21 =>
   (spec_writer_flag r21 (⟨#[112, 105, 110, 110, 101, 100]⟩ : ByteArray) p.Pinned).bind fun r22 =>
   (spec_writer_flag r22 (⟨#[108, 111, 99, 97, 108]⟩ : ByteArray) p.Local).bind fun r23 =>
   (V.cat r23.s (⟨#[41]⟩ : ByteArray)).bind fun v2 =>
   some v2
  else
   (spec_writer_flag r18 (⟨#[119, 105, 100, 101]⟩ : ByteArray) p.Wide).bind fun r24 =>
   (spec_writer_flag r24 (⟨#[100, 97, 101, 109, 111, 110]⟩ : ByteArray) p.Daemon).bind fun r25 =>
   (spec_writer_flag r25 (⟨#[112, 105, 110, 110, 101, 100]⟩ : ByteArray) p.Pinned).bind fun r26 =>
   (spec_writer_flag r26 (⟨#[108, 111, 99, 97, 108]⟩ : ByteArray) p.Local).bind fun r27 =>
   (V.cat r27.s (⟨#[41]⟩ : ByteArray)).bind fun v3 =>
   some v3
theorem K0 (p : T_api_Pod) : VS Tryz.prog 11 (spec_ShowPod p) [T_api_Pod.vv p] [] .str N0 := by
 refine A8 [.tmp 2] Tryz.func11 R R R fun r hm=>?_
 unfold spec_ShowPod at hm
 refine Ae<|Ad R R<|Ch R R fun b=>Aa R R (Am R)<|Ac<|Af<|Ae<|Ab tbk [0] 1 R R<|Ad R R<|A1 hm 0 R fn12 R (K115 _) fun r hm=>Aa R R (Cw R)<|Ac<|Av hm R (fun h3 hm=>Ag tbk [] R R<|Rt1 hm R [] R R R) fun h3 hm=>Aj<|Ae<|Ab tbk [0] 2 R R<|Bd hm fun v h4 hm=>Aa R R (Bl R R h4)<|Aa R R (A5 pl76 R R)<|Ad R R<|Ch R R fun b2=>Aa R R (Am R)<|Ac<|Af<|A3 1 mixed<|An tbk [0,1,2,3,6,7,8,11,12,13,16,17,18] [0,0,0,0] (by kernel_rfl) R R R<|Au 19 R R R (by kernel_rfl) (Cb nif3 R)<|Ai 4 (by kernel_rfl)<|Bd hm fun r2 h6 hm=>Ao R R R<|Aw 0 R fn46 R (K144 p.Need.Cpu r2 h6) fun _ _ h73=> ?_
 obtain ⟨rfl,rfl⟩:=h73
 refine Au 5 R R R (by kernel_rfl) (Cb nif9 R)<|Ai 9 (by kernel_rfl)<|Bd hm fun r3 h7 hm=>Ao R R R<|Aw 0 R fn47 R (K145 p.Need.Mem r3 h7) fun _ _ h72=> ?_
 obtain ⟨rfl,rfl⟩:=h72
 refine Au 10 R R R (by kernel_rfl) (Cb nif9 R)<|Ai 14 (by kernel_rfl)<|Bd hm fun r4 h8 hm=>Ao R R R<|Aw 0 R fn47 R (K145 p.Need.Disk r4 h8) fun _ _ h71=> ?_
 obtain ⟨rfl,rfl⟩:=h71
 refine Au 15 R R R (by kernel_rfl) (Cb nif9 R)<|Ai 20 (by kernel_rfl)<|Ao R R R<|Ax ap81 R R R R R fun b3=>Dd (Az 0 [(41,L20 [(I_any20.c9 r2),(I_any20.c9 r3),(I_any20.c9 r4),(I_any20.c3 p.Need.Dev)])] R ⟨⟨_,R,.here _ R⟩,trivial⟩ (FzH.refl _))<|Ai 21 (by kernel_rfl)<|Bd hm fun r5 h10 hm=>Ao R R R<|Aw 1 R fn45 R (K147 (⟨v⟩ : T_spec_writer) (⟨#[110,101,101,100]⟩ : ByteArray) [(I_any20.c9 r2),(I_any20.c9 r3),(I_any20.c9 r4),(I_any20.c3 p.Need.Dev)] b2 r5 h10) fun _ _ h70=> ?_
 obtain ⟨rfl,rfl⟩:=h70
 refine Ay (by kernel_rfl)<|Ae<|Ab tbk [1] 3 R R<|Ad R R<|A1 hm 1 R fn48 R (K148 _ _ _ _) fun r6 hm=>Ac<|Ae<|Ab tbk [1] 3 R R<|Ad R R<|A1 hm 1 R fn48 R (K148 _ _ _ _) fun r7 hm=>Ac<|Ae<|Ab tbk [1] 3 R R<|Ad R R<|A1 hm 1 R fn48 R (K148 _ _ _ _) fun r8 hm=>Ac<|Af<|Ae<|Ab tbk [1] 2 R R<|Aa R R (Bg T_api_Term.vv R Df)<|Aa R R (Ak R)<|Ac<|Cp 56 R fun h16=>Cx hm (fun _ (_:Unit)=>[(1,.ptr b 0),(3,.ptr b2 0)]) (fun w32 (_:Unit)=>[X76 b2 w32,X29 b p]) (fun o hm=>?_) fun w32 _ hm=> ?_
 ·refine Cu (p.Terms) (fun zl zk (zs:T_spec_writer)=>spec_ShowPod.l1 zl zk zs) (fun k _ (_:Unit)=>[(1,.ptr b 0),(3,.ptr b2 0),(56,L73 p.Terms),(57,Iw (p.Terms.length : Int)),(58,Iw (k : Int))]) (fun _ zs (_:Unit)=>[X76 b2 zs,X29 b p]) _ () hm (Ah [0,1] R R) (fun k w2 _ hk hm=>?_) fun k x l w2 _ h17 hm=> ?_
  ·rw [spec_ShowPod.l1] at hm
   exact Ag tbk [] R R<|Af<|Cc R (k_end hk)<|Be<|As () hm (Ah [0,1] R R)
  rw [spec_ShowPod.l1] at hm
  refine Ag tbk [] R R<|Af<|Bp R (k_lt h17)<|Aj<|Af<|A4<|Ae<|Aa R R (Cr T_api_Term.vv R R el25 h17)<|Aa R R (Bn R ld73 R)<|Ad R R<|A9 z73 fun b4=>Ad R R<|Al (i:=0) R R R ld73 R R R<|Ac<|Af<|A3 0 mixed<|An tbk [0,1] [0] (by kernel_rfl) R R R<|Au 2 R R R (by kernel_rfl) (Cb nif9 R)<|An tbk [4,5] [0] (by kernel_rfl) R R R<|Ai 3 (by kernel_rfl)<|Bd hm fun r9 h19 hm=>Ao R R R<|Aw 0 R fn49 R (K74 r9 h19) fun _ _ h29=> ?_
  obtain ⟨rfl,rfl⟩:=h29
  refine Bd hm fun x2 h20 hm=>Au 6 R R R (by kernel_rfl) (A2 VV.str R R el65 h20)<|Au 7 R R R (by kernel_rfl) (Bn R ld9 R)<|Au 8 R R R (by kernel_rfl) (Cb nif9 R)<|Ai 9 (by kernel_rfl)<|Ao R R R<|Ax ap81 R R R R R fun b5=>Au 10 R R R (by kernel_rfl) (Am R)<|Ay (by kernel_rfl)<|Af<|Ae<|Ab tbk [1] 2 R R<|Aa R R (Bg VV.str R Cs)<|Aa R R (Ak R)<|Ac<|Cp 73 R fun h24=>Cx hm (fun x52 (gg:Option Nat × Nat)=>[(1,.ptr b 0),(3,.ptr b2 0),(6,Z20 gg.1 x52 gg.2),(56,L73 p.Terms),(57,Iw (p.Terms.length : Int)),(58,Iw (k : Int))]) (fun x52 (gg:Option Nat × Nat)=>[Q20 gg.1 gg.2 x52,X76 b2 w2,X29 b p]) (fun o2 hm=>?_) fun x52=>Pq fun ob3 cap3 hm=> ?_
  ·refine Cu (x.Vals) (fun zl zk (zs:List I_any20)=>spec_ShowPod.l2 zl zk zs) (fun k2 zs (zg:Option Nat × Nat)=>[(1,.ptr b 0),(3,.ptr b2 0),(6,Z20 zg.1 zs zg.2),(56,L73 p.Terms),(57,Iw (p.Terms.length : Int)),(58,Iw (k : Int)),(73,L9 x.Vals),(74,Iw (x.Vals.length : Int)),(75,Iw (k2 : Int))]) (fun _ zs (zg:Option Nat × Nat)=>[Q20 zg.1 zg.2 zs,X76 b2 w2,X29 b p]) _ ((some b5),2) hm (Ah [0,2,3] R R) (fun k2 x4=>Pq fun ob2 cap2 hk hm=>?_) fun k2 x6 l2 x4=>Pq fun ob2 cap2 h25 hm=> ?_
   ·rw [spec_ShowPod.l2] at hm
    exact Ag tbk [] R R<|Af<|Cc R (k_end hk)<|Be<|As (ob2,cap2) hm (Ah [0,1,2] R R)
   rw [spec_ShowPod.l2] at hm
   exact Ag tbk [] R R<|Af<|Bp R (k_lt h25)<|Aj<|Af<|A4<|Ae<|Aa R R (Cr VV.str R R el65 h25)<|Ab tbk [] 2 R R<|Ac<|Bb<|Ab tbk [] 2 R R<|Aa R R (Cb nif9 R)<|Ad R R<|Ax ap81 R R R R R fun b6=>Bd hm fun x7 h27 hm=>Ad R R<|Bs 1 I_any20.vv (l:=x4) (l2:=[(I_any20.c9 x6)]) ap81 R R (sT_row 0 I_any20.vv el81 R R) h27 fun ob4 cap4=>Aa R R (Am R)<|Ac<|Bf tbk [] R R<|Ap _ (ob4,cap4) hm (B3 [1,2,3] R ⟨R,R,R,R,R,R,R,R,congrArg some (k_next h25 h24),trivial⟩)
  exact Bb<|Ab tbk [] 2 R R<|A0 (Az 0 [(6,L20 x52),(86,L20 x52)] R ⟨⟨_,R,.here _ R⟩,⟨_,R,.here _ R⟩,trivial⟩ (FzH.refl _))<|Ad R R<|A1 hm 1 R fn45 R (K147 _ _ _ _) fun r10 hm=>Ac<|Bf tbk [] R R<|Ap _ () hm (B3 [0,1] R ⟨R,R,R,R,congrArg some (k_next h17 h16),trivial⟩)
 refine Af<|Ae<|Ab tbk [1] 2 R R<|Aa R R (Bg T_api_Toleration.vv R C2)<|Aa R R (Ak R)<|Ac<|Cp 90 R fun h32=>Cx hm (fun _ (_:Unit)=>[(1,.ptr b 0),(3,.ptr b2 0)]) (fun w62 (_:Unit)=>[X76 b2 w62,X29 b p]) (fun o3 hm=>?_) fun w62 _ hm=> ?_
 ·refine Cu (p.Bears) (fun zl zk (zs:T_spec_writer)=>spec_ShowPod.l3 zl zk zs) (fun k3 _ (_:Unit)=>[(1,.ptr b 0),(3,.ptr b2 0),(90,L83 p.Bears),(91,Iw (p.Bears.length : Int)),(92,Iw (k3 : Int))]) (fun _ zs (_:Unit)=>[X76 b2 zs,X29 b p]) _ () hm (Ah [0,1] R R) (fun k3 w5 _ hk hm=>?_) fun k3 x8 l3 w5 _ h33 hm=> ?_
  ·rw [spec_ShowPod.l3] at hm
   exact Ag tbk [] R R<|Af<|Cc R (k_end hk)<|Be<|As () hm (Ah [0,1] R R)
  rw [spec_ShowPod.l3] at hm
  refine Ag tbk [] R R<|Af<|Bp R (k_lt h33)<|Aj<|Af<|A4<|Ae<|Aa R R (Cr T_api_Toleration.vv R R el26 h33)<|Aa R R (Bn R ld83 R)<|Ad R R<|A9 z83 fun b7=>Ad R R<|Al (i:=0) R R R ld83 R R R<|Ac<|Ag tbk [0] R R<|Av hm R (fun h35 hm=>?_) fun h35 hm=> ?_
  ·refine Ba (A7 [1,0,2] R)<|A3 1 mixed<|An tbk [0,1,2] [0] (by kernel_rfl) R R R<|Au 3 R R R (by kernel_rfl) (Cb nif9 R)<|An tbk [5,6] [0] (by kernel_rfl) R R R<|Ai 4 (by kernel_rfl)<|Bd hm fun r11 h36 hm=>Ao R R R<|Aw 0 R fn50 R (K76 r11 h36) fun _ _ h41=> ?_
   obtain ⟨rfl,rfl⟩:=h41
   refine Bd hm fun x9 h37 hm=>Au 7 R R R (by kernel_rfl) (A2 VV.str R R el65 h37)<|Au 8 R R R (by kernel_rfl) (Bn R ld9 R)<|Au 9 R R R (by kernel_rfl) (Cb nif9 R)<|Ai 10 (by kernel_rfl)<|Ao R R R<|Ax ap81 R R R R R fun b8=>Dd (Az 0 [(108,L20 [(I_any20.c9 x8.Key),(I_any20.c9 x9)])] R ⟨⟨_,R,.here _ R⟩,trivial⟩ (FzH.refl _))<|Ai 11 (by kernel_rfl)<|Bd hm fun r12 h39 hm=>Ao R R R<|Aw 1 R fn45 R (K147 w5 (⟨#[98,101,97,114,97,110,121]⟩ : ByteArray) [(I_any20.c9 x8.Key),(I_any20.c9 x9)] b2 r12 h39) fun _ _ h40=> ?_
   obtain ⟨rfl,rfl⟩:=h40
   exact Ay (by kernel_rfl)<|Bf tbk [] R R<|Ap _ () hm (B3 [0,2] R ⟨R,R,R,R,congrArg some (k_next h33 h32),trivial⟩)
  refine Ba (A7 [1,0,2] R)<|A3 1 mixed<|An tbk [0,1,2] [0] (by kernel_rfl) R R R<|Au 3 R R R (by kernel_rfl) (Cb nif9 R)<|An tbk [4,5] [0] (by kernel_rfl) R R R<|Au 6 R R R (by kernel_rfl) (Cb nif9 R)<|An tbk [8,9] [0] (by kernel_rfl) R R R<|Ai 7 (by kernel_rfl)<|Bd hm fun r13 h42 hm=>Ao R R R<|Aw 0 R fn50 R (K76 r13 h42) fun _ _ h47=> ?_
  obtain ⟨rfl,rfl⟩:=h47
  refine Bd hm fun x10 h43 hm=>Au 10 R R R (by kernel_rfl) (A2 VV.str R R el65 h43)<|Au 11 R R R (by kernel_rfl) (Bn R ld9 R)<|Au 12 R R R (by kernel_rfl) (Cb nif9 R)<|Ai 13 (by kernel_rfl)<|Ao R R R<|Ax ap81 R R R R R fun b9=>Dd (Az 0 [(123,L20 [(I_any20.c9 x8.Key),(I_any20.c9 x8.Val),(I_any20.c9 x10)])] R ⟨⟨_,R,.here _ R⟩,trivial⟩ (FzH.refl _))<|Ai 14 (by kernel_rfl)<|Bd hm fun r14 h45 hm=>Ao R R R<|Aw 1 R fn45 R (K147 w5 (⟨#[98,101,97,114]⟩ : ByteArray) [(I_any20.c9 x8.Key),(I_any20.c9 x8.Val),(I_any20.c9 x10)] b2 r14 h45) fun _ _ h46=> ?_
  obtain ⟨rfl,rfl⟩:=h46
  exact Ay (by kernel_rfl)<|Bf tbk [] R R<|Ap _ () hm (B3 [0,2] R ⟨R,R,R,R,congrArg some (k_next h33 h32),trivial⟩)
 refine Af<|Ae<|Ab tbk [1] 2 R R<|Aa R R (Bg (VV.int .i64) R Bi)<|Aa R R (Ak R)<|Ac<|Cp 127 R fun h50=>Cx hm (fun _ (_:Unit)=>[(1,.ptr b 0),(3,.ptr b2 0)]) (fun w92 (_:Unit)=>[X76 b2 w92,X29 b p]) (fun o4 hm=>?_) fun w92 _ hm=> ?_
 ·refine Cu (p.Ports) (fun zl zk (zs:T_spec_writer)=>spec_ShowPod.l4 zl zk zs) (fun k4 _ (_:Unit)=>[(1,.ptr b 0),(3,.ptr b2 0),(127,L3 p.Ports),(128,Iw (p.Ports.length : Int)),(129,Iw (k4 : Int))]) (fun _ zs (_:Unit)=>[X76 b2 zs,X29 b p]) _ () hm (Ah [0,1] R R) (fun k4 w8 _ hk hm=>?_) fun k4 x11 l4 w8 _ h51 hm=> ?_
  ·rw [spec_ShowPod.l4] at hm
   exact Ag tbk [] R R<|Af<|Cc R (k_end hk)<|Be<|As () hm (Ah [0,1] R R)
  rw [spec_ShowPod.l4] at hm
  exact Ag tbk [] R R<|Af<|Bp R (k_lt h51)<|Aj<|Af<|A4<|Ae<|Aa R R (Cr (VV.int .i64) R R el27 h51)<|Ab tbk [] 2 R R<|Ac<|Bb<|Ab tbk [] 2 R R<|Aa R R (Cb nif3 R)<|Ad R R<|Ax ap81 R R R R R fun b10=>A0 (Az 0 [(136,L20 [(I_any20.c3 x11)])] R ⟨⟨_,R,.here _ R⟩,trivial⟩ (FzH.refl _))<|Ad R R<|A1 hm 1 R fn45 R (K147 _ _ _ _) fun r15 hm=>Ac<|Bf tbk [] R R<|Ap _ () hm (B3 [0,1] R ⟨R,R,R,R,congrArg some (k_next h51 h50),trivial⟩)
 exact Ae<|Ab tbk [1] 3 R R<|Ad R R<|A1 hm 1 R fn51 R (K149 _ _ _ _) fun r16 hm=>Ac<|Ae<|Ab tbk [1] 3 R R<|Ad R R<|A1 hm 1 R fn48 R (K148 _ _ _ _) fun r17 hm=>Ac<|Ae<|Ab tbk [1] 3 R R<|Ad R R<|A1 hm 1 R fn51 R (K149 _ _ _ _) fun r18 hm=>Ac<|Af<|Ag tbk [1] R R<|Av hm R (fun h57 hm=>Bb<|Ab tbk [1] 3 R R<|Aa R R (Cb nif9 R)<|Ad R R<|Ax ap81 R R R R R fun b11=>A0 (Az 0 [(158,L20 [(I_any20.c9 p.Owner)])] R ⟨⟨_,R,.here _ R⟩,trivial⟩ (FzH.refl _))<|Ad R R<|A1 hm 1 R fn45 R (K147 _ _ _ _) fun r19 hm=>Ac<|Ae<|Ab tbk [1] 3 R R<|Ad R R<|A1 hm 1 R fn52 R (K150 _ _ _ _) fun r20 hm=>Ac<|Ae<|Ab tbk [1] 3 R R<|Ad R R<|A1 hm 1 R fn52 R (K150 _ _ _ _) fun r21 hm=>Ac<|Ae<|Ab tbk [1] 3 R R<|Ad R R<|A1 hm 1 R fn52 R (K150 _ _ _ _) fun r22 hm=>Ac<|Ae<|Ab tbk [1] 3 R R<|Ad R R<|A1 hm 1 R fn52 R (K150 _ _ _ _) fun r23 hm=>Ac<|Ae<|Ab tbk [0] 4 R R<|Bd hm fun v2 h64 hm=>Aa R R (Bl R R h64)<|Aa R R (Am R)<|Ac<|Rt1 hm R [] R R R) fun h57 hm=>Aj<|Ae<|Ab tbk [1] 3 R R<|Ad R R<|A1 hm 1 R fn52 R (K150 _ _ _ _) fun r24 hm=>Ac<|Ae<|Ab tbk [1] 3 R R<|Ad R R<|A1 hm 1 R fn52 R (K150 _ _ _ _) fun r25 hm=>Ac<|Ae<|Ab tbk [1] 3 R R<|Ad R R<|A1 hm 1 R fn52 R (K150 _ _ _ _) fun r26 hm=>Ac<|Ae<|Ab tbk [1] 3 R R<|Ad R R<|A1 hm 1 R fn52 R (K150 _ _ _ _) fun r27 hm=>Ac<|Ae<|Ab tbk [0] 4 R R<|Bd hm fun v3 h69 hm=>Aa R R (Bl R R h69)<|Aa R R (Am R)<|Ac<|Rt1 hm R [] R R R

/-! (*trireme/spec.writer).rest -/
def spec_writer_rest.l1 : List T_api_Taint → Nat → T_spec_writer → Option T_spec_writer
 | [], k, w3 => some w3
 | x3 :: l, k, w3 =>
  (spec_effects).bind fun r6 =>
  (V.gl r6 x3.Effect).bind fun x4 =>
  (spec_writer_list w3 (⟨#[116, 97, 105, 110, 116]⟩ : ByteArray) [(I_any20.c9 x3.Key), (I_any20.c9 x3.Val), (I_any20.c9 x4)]).bind fun r7 =>
  spec_writer_rest.l1 l (k + 1) r7
def spec_writer_rest (w : T_spec_writer) (m : T_api_Machine) : Option T_spec_writer :=
 (quant_ShowMilli m.Has.Cpu).bind fun r =>
 (quant_Show m.Has.Mem).bind fun r2 =>
 (quant_Show m.Has.Disk).bind fun r3 =>
 (spec_writer_list w (⟨#[104, 97, 115]⟩ : ByteArray) [(I_any20.c9 r), (I_any20.c9 r2), (I_any20.c9 r3), (I_any20.c3 m.Has.Pods), (I_any20.c3 m.Has.Dev)]).bind fun r4 =>
 (spec_writer_pairs r4 (⟨#[108, 97, 98, 101, 108]⟩ : ByteArray) m.Labels).bind fun r5 =>
 (spec_writer_rest.l1 m.Taints 0 r5).bind fun x2 =>
 some x2
theorem K1 (w : T_spec_writer) (m : T_api_Machine) (b : Nat) : VS Tryz.prog 80 (spec_writer_rest w m) [.ptr b 0, T_api_Machine.vv m] [X76 b w] (fun r=>.tup []) (fun r=>[X76 b r]) := by
 refine A8 [] Tryz.func80 R R R fun r hm=>?_
 unfold spec_writer_rest at hm
 refine Ae<|Ad R R<|Ch R R fun b2=>Ac<|Af<|Ba (A7 [1,0] R)<|A3 1 mixed<|An tbk [0,1,2,3,6,7,8,11,12,13,16,17,18] [0,0,0,0] (by kernel_rfl) R R R<|Au 19 R R R (by kernel_rfl) (Cb nif3 R)<|An tbk [20,21,22] [0] (by kernel_rfl) R R R<|Au 23 R R R (by kernel_rfl) (Cb nif3 R)<|Ai 4 (by kernel_rfl)<|Bd hm fun r h2 hm=>Ao R R R<|Aw 0 R fn46 R (K144 m.Has.Cpu r h2) fun _ _ h22=> ?_
 obtain ⟨rfl,rfl⟩:=h22
 refine Au 5 R R R (by kernel_rfl) (Cb nif9 R)<|Ai 9 (by kernel_rfl)<|Bd hm fun r2 h3 hm=>Ao R R R<|Aw 0 R fn47 R (K145 m.Has.Mem r2 h3) fun _ _ h21=> ?_
 obtain ⟨rfl,rfl⟩:=h21
 refine Au 10 R R R (by kernel_rfl) (Cb nif9 R)<|Ai 14 (by kernel_rfl)<|Bd hm fun r3 h4 hm=>Ao R R R<|Aw 0 R fn47 R (K145 m.Has.Disk r3 h4) fun _ _ h20=> ?_
 obtain ⟨rfl,rfl⟩:=h20
 refine Au 15 R R R (by kernel_rfl) (Cb nif9 R)<|Ai 24 (by kernel_rfl)<|Ao R R R<|Ax ap81 R R R R R fun b3=>Dd (Az 0 [(30,L20 [(I_any20.c9 r),(I_any20.c9 r2),(I_any20.c9 r3),(I_any20.c3 m.Has.Pods),(I_any20.c3 m.Has.Dev)])] R ⟨⟨_,R,.here _ R⟩,trivial⟩ (FzH.refl _))<|Ai 25 (by kernel_rfl)<|Bd hm fun r4 h6 hm=>Ao R R R<|Aw 1 R fn45 R (K147 w (⟨#[104,97,115]⟩ : ByteArray) [(I_any20.c9 r),(I_any20.c9 r2),(I_any20.c9 r3),(I_any20.c3 m.Has.Pods),(I_any20.c3 m.Has.Dev)] b r4 h6) fun _ _ h19=> ?_
 obtain ⟨rfl,rfl⟩:=h19
 refine Ay (by kernel_rfl)<|Ae<|Ab tbk [1] 3 R R<|Ad R R<|A1 hm 1 R fn48 R (K148 _ _ _ _) fun r5 hm=>Ac<|Ae<|Ab tbk [1] 2 R R<|Aa R R (Bg T_api_Taint.vv R Cd)<|Aa R R (Ak R)<|Ac<|Cp 37 R fun h10=>Cx hm (fun _ (_:Unit)=>[]) (fun x2 (_:Unit)=>[X76 b x2]) (fun o hm=>?_) fun x2 _ hm=> ?_
 ·refine Cu (m.Taints) (fun zl zk (zs:T_spec_writer)=>spec_writer_rest.l1 zl zk zs) (fun k _ (_:Unit)=>[(0,.ptr b 0),(37,L143 m.Taints),(38,Iw (m.Taints.length : Int)),(39,Iw (k : Int))]) (fun _ zs (_:Unit)=>[X76 b zs]) _ () hm (Ah [0] R R) (fun k w3 _ hk hm=>?_) fun k x3 l w3 _ h11 hm=> ?_
  ·rw [spec_writer_rest.l1] at hm
   exact Ag tbk [] R R<|Af<|Cc R (k_end hk)<|Be<|As () hm (Ah [0] R R)
  rw [spec_writer_rest.l1] at hm
  refine Ag tbk [] R R<|Af<|Bp R (k_lt h11)<|Aj<|Af<|A4<|Ae<|Aa R R (Cr T_api_Taint.vv R R el39 h11)<|Aa R R (Bn R ld143 R)<|Ad R R<|A9 z143 fun b4=>Ad R R<|Al (i:=0) R R R ld143 R R R<|Ac<|Ba (A7 [1,0] R)<|A3 1 mixed<|An tbk [0,1,2] [0] (by kernel_rfl) R R R<|Au 3 R R R (by kernel_rfl) (Cb nif9 R)<|An tbk [4,5] [0] (by kernel_rfl) R R R<|Au 6 R R R (by kernel_rfl) (Cb nif9 R)<|An tbk [8,9] [0] (by kernel_rfl) R R R<|Ai 7 (by kernel_rfl)<|Bd hm fun r6 h13 hm=>Ao R R R<|Aw 0 R fn50 R (K76 r6 h13) fun _ _ h18=> ?_
  obtain ⟨rfl,rfl⟩:=h18
  refine Bd hm fun x4 h14 hm=>Au 10 R R R (by kernel_rfl) (A2 VV.str R R el65 h14)<|Au 11 R R R (by kernel_rfl) (Bn R ld9 R)<|Au 12 R R R (by kernel_rfl) (Cb nif9 R)<|Ai 13 (by kernel_rfl)<|Ao R R R<|Ax ap81 R R R R R fun b5=>Dd (Az 0 [(56,L20 [(I_any20.c9 x3.Key),(I_any20.c9 x3.Val),(I_any20.c9 x4)])] R ⟨⟨_,R,.here _ R⟩,trivial⟩ (FzH.refl _))<|Ai 14 (by kernel_rfl)<|Bd hm fun r7 h16 hm=>Ao R R R<|Aw 1 R fn45 R (K147 w3 (⟨#[116,97,105,110,116]⟩ : ByteArray) [(I_any20.c9 x3.Key),(I_any20.c9 x3.Val),(I_any20.c9 x4)] b r7 h16) fun _ _ h17=> ?_
  obtain ⟨rfl,rfl⟩:=h17
  exact Ay (by kernel_rfl)<|Bf tbk [] R R<|Ap _ () hm (B3 [0] R ⟨R,R,R,congrArg some (k_next h11 h10),trivial⟩)
 exact Rn0 hm R [0] (.nil) R R

/-! trireme/spec.ShowGroup -/
def spec_ShowGroup (g : T_api_Group) : Option ByteArray :=
 (spec_RightGroup g).bind fun r =>
 if (!r) = true then
  some (⟨#[]⟩ : ByteArray)
 else
  (V.cat (⟨#[40, 103, 114, 111, 117, 112, 32]⟩ : ByteArray) g.Name).bind fun v =>
  (spec_writer_list (⟨v⟩ : T_spec_writer) (⟨#[115, 105, 122, 101]⟩ : ByteArray) [(I_any20.c3 g.Min), (I_any20.c3 g.Max)]).bind fun r2 =>
  (spec_writer_some r2 (⟨#[112, 114, 105, 99, 101]⟩ : ByteArray) g.Price).bind fun r3 =>
  (spec_writer_some r3 (⟨#[114, 97, 110, 107]⟩ : ByteArray) g.Rank).bind fun r4 =>
  (spec_writer_rest r4 g.Like).bind fun r5 =>
  (V.cat r5.s (⟨#[41]⟩ : ByteArray)).bind fun v2 =>
  some v2
theorem K2 (g : T_api_Group) : VS Tryz.prog 25 (spec_ShowGroup g) [T_api_Group.vv g] [] .str N0 := by
 refine A8 [.tmp 2] Tryz.func25 R R R fun r hm=>?_
 unfold spec_ShowGroup at hm
 exact Ae<|Ad R R<|Ch R R fun b=>Aa R R (Am R)<|Ac<|Af<|Ae<|Ab tbk [0] 1 R R<|Ad R R<|A1 hm 0 R fn26 R (K141 _) fun r hm=>Aa R R (Cw R)<|Ac<|Av hm R (fun h3 hm=>Ag tbk [] R R<|Rt1 hm R [] R R R) fun h3 hm=>Aj<|Ae<|Ab tbk [0] 2 R R<|Bd hm fun v h4 hm=>Aa R R (Bl R R h4)<|Aa R R (A5 pl76 R R)<|Ad R R<|Ch R R fun b2=>Aa R R (Am R)<|Ac<|Ae<|Ab tbk [1] 3 R R<|Aa R R (Cb nif3 R)<|Ab tbk [1] 2 R R<|Aa R R (Cb nif3 R)<|Ad R R<|Ax ap81 R R R R R fun b3=>A0 (Az 0 [(19,L20 [(I_any20.c3 g.Min),(I_any20.c3 g.Max)])] R ⟨⟨_,R,.here _ R⟩,trivial⟩ (FzH.refl _))<|Ad R R<|A1 hm 1 R fn45 R (K147 _ _ _ _) fun r2 hm=>Ac<|Ae<|Ab tbk [1] 3 R R<|Ad R R<|A1 hm 1 R fn51 R (K149 _ _ _ _) fun r3 hm=>Ac<|Ae<|Ab tbk [1] 3 R R<|Ad R R<|A1 hm 1 R fn51 R (K149 _ _ _ _) fun r4 hm=>Ac<|Ae<|Ab tbk [1] 3 R R<|Ad R R<|A1 hm 1 R fn80 R (K1 _ _ _) fun r5 hm=>Ac<|Ae<|Ab tbk [0] 4 R R<|Bd hm fun v2 h11 hm=>Aa R R (Bl R R h11)<|Aa R R (Am R)<|Ac<|Rt1 hm R [] R R R

/-! trireme/spec.ShowMachine -/
def spec_ShowMachine (m : T_api_Machine) : Option ByteArray :=
 (spec_RightMachine m).bind fun r =>
 if (!r) = true then
  some (⟨#[]⟩ : ByteArray)
 else
  (spec_shown FU (I_any20.c9 m.Name)).bind fun r2 =>
  (V.cat (⟨#[40, 109, 97, 99, 104, 105, 110, 101, 32]⟩ : ByteArray) r2).bind fun v =>
  if (!(V.seq m.Group (⟨#[]⟩ : ByteArray))) = true then
   (spec_writer_list (⟨v⟩ : T_spec_writer) (⟨#[103, 114, 111, 117, 112]⟩ : ByteArray) [(I_any20.c9 m.Group)]).bind fun r3 =>
   (spec_writer_rest r3 m).bind fun r4 =>
   (spec_writer_flag r4 (⟨#[114, 101, 97, 100, 121]⟩ : ByteArray) m.Ready).bind fun r5 =>
   (V.cat r5.s (⟨#[41]⟩ : ByteArray)).bind fun v2 =>
   some v2
  else
   (spec_writer_rest (⟨v⟩ : T_spec_writer) m).bind fun r6 =>
   (spec_writer_flag r6 (⟨#[114, 101, 97, 100, 121]⟩ : ByteArray) m.Ready).bind fun r7 =>
   (V.cat r7.s (⟨#[41]⟩ : ByteArray)).bind fun v3 =>
   some v3
theorem K3 (m : T_api_Machine) : VS Tryz.prog 19 (spec_ShowMachine m) [T_api_Machine.vv m] [] .str N0 := by
 refine A8 [.tmp 2] Tryz.func19 R R R fun r hm=>?_
 unfold spec_ShowMachine at hm
 exact Ae<|Ad R R<|Ch R R fun b=>Aa R R (Am R)<|Ac<|Af<|Ae<|Ab tbk [0] 1 R R<|Ad R R<|A1 hm 0 R fn20 R (K129 _) fun r hm=>Aa R R (Cw R)<|Ac<|Av hm R (fun h3 hm=>Ag tbk [] R R<|Rt1 hm R [] R R R) fun h3 hm=>Aj<|Ae<|Ab tbk [0] 2 R R<|Aa R R (Cb nif9 R)<|Ad R R<|A1 hm 0 R fn79 R (K146 FU _) fun r2 hm=>Bd hm fun v h5 hm=>Aa R R (Bl R R h5)<|Aa R R (A5 pl76 R R)<|Ad R R<|Ch R R fun b2=>Aa R R (Am R)<|Ac<|Af<|Ag tbk [1] R R<|Av hm R (fun h7 hm=>Bb<|Ab tbk [1] 3 R R<|Aa R R (Cb nif9 R)<|Ad R R<|Ax ap81 R R R R R fun b3=>A0 (Az 0 [(21,L20 [(I_any20.c9 m.Group)])] R ⟨⟨_,R,.here _ R⟩,trivial⟩ (FzH.refl _))<|Ad R R<|A1 hm 1 R fn45 R (K147 _ _ _ _) fun r3 hm=>Ac<|Ae<|Ab tbk [1] 2 R R<|Ad R R<|A1 hm 1 R fn80 R (K1 _ _ _) fun r4 hm=>Ac<|Ae<|Ab tbk [1] 3 R R<|Ad R R<|A1 hm 1 R fn52 R (K150 _ _ _ _) fun r5 hm=>Ac<|Ae<|Ab tbk [0] 4 R R<|Bd hm fun v2 h12 hm=>Aa R R (Bl R R h12)<|Aa R R (Am R)<|Ac<|Rt1 hm R [] R R R) fun h7 hm=>Aj<|Ae<|Ab tbk [1] 2 R R<|Ad R R<|A1 hm 1 R fn80 R (K1 _ _ _) fun r6 hm=>Ac<|Ae<|Ab tbk [1] 3 R R<|Ad R R<|A1 hm 1 R fn52 R (K150 _ _ _ _) fun r7 hm=>Ac<|Ae<|Ab tbk [0] 4 R R<|Bd hm fun v3 h15 hm=>Aa R R (Bl R R h15)<|Aa R R (Am R)<|Ac<|Rt1 hm R [] R R R

/-! trireme/triremelaw07.known -/
def law07_known : Option Bool :=
 (law07_parsed (⟨#[40, 112, 111, 100, 32, 97, 32, 40, 110, 101, 101, 100, 32, 50, 53, 48, 109, 32, 49, 71, 105, 32, 48, 32, 48, 41, 32, 40, 108, 97, 98, 101, 108, 32, 97, 112, 112, 32, 120, 41, 32, 100, 97, 101, 109, 111, 110, 41]⟩ : ByteArray)).bind fun r =>
 (spec_Pod r (0 : Int)).bind fun r2 =>
 (law07_parsed (⟨#[40, 112, 111, 100, 32, 97, 32, 40, 111, 100, 100, 32, 49, 41, 41]⟩ : ByteArray)).bind fun r3 =>
 (spec_Pod r3 (0 : Int)).bind fun r4 =>
 (law07_parsed (⟨#[40, 109, 97, 99, 104, 105, 110, 101, 32, 110, 32, 40, 104, 97, 115, 32, 50, 32, 52, 71, 105, 32, 48, 32, 49, 48, 32, 48, 41, 32, 40, 116, 97, 105, 110, 116, 32, 103, 112, 117, 32, 34, 34, 32, 110, 111, 41, 32, 114, 101, 97, 100, 121, 41]⟩ : ByteArray)).bind fun r5 =>
 (spec_Machine r5 (0 : Int)).bind fun r6 =>
 (law07_parsed (⟨#[40, 103, 114, 111, 117, 112, 32, 103, 32, 40, 115, 105, 122, 101, 32, 49, 32, 53, 41, 32, 40, 112, 114, 105, 99, 101, 32, 55, 41, 32, 40, 104, 97, 115, 32, 50, 32, 52, 71, 105, 32, 48, 32, 49, 48, 32, 48, 41, 41]⟩ : ByteArray)).bind fun r7 =>
 (spec_Group r7 (0 : Int)).bind fun r8 =>
 (if (((((((((((((r2.2.1 == 0) && (((r2.1.Need.Cpu == 250) && ((r2.1.Need.Mem == 1073741824) && ((r2.1.Need.Disk == 0) && ((r2.1.Need.Pods == 1) && ((r2.1.Need.Dev == 0) && true))))) == true)) && r2.1.Daemon) && ((r2.1.Labels.length : Int) == 1)) && (r4.2.1 == 13)) && (r4.2.2 == 7)) && (r6.2.1 == 0)) && r6.1.Ready) && (r6.1.Has.Cpu == 2000)) && ((r6.1.Taints.length : Int) == 1)) && (r8.2.1 == 0)) && (r8.1.Max == 5)) && (V.seq r8.1.Like.Group (⟨#[103]⟩ : ByteArray))) = true then (spec_ShowPod r2.1).bind fun r9 =>
 some (V.seq r9 (⟨#[40, 112, 111, 100, 32, 97, 32, 40, 110, 101, 101, 100, 32, 50, 53, 48, 109, 32, 49, 71, 105, 32, 48, 32, 48, 41, 32, 40, 108, 97, 98, 101, 108, 32, 97, 112, 112, 32, 120, 41, 32, 100, 97, 101, 109, 111, 110, 41]⟩ : ByteArray)) else some false).bind fun c =>
 (if c = true then (spec_ShowGroup r8.1).bind fun r10 =>
 some (V.seq r10 (⟨#[40, 103, 114, 111, 117, 112, 32, 103, 32, 40, 115, 105, 122, 101, 32, 49, 32, 53, 41, 32, 40, 112, 114, 105, 99, 101, 32, 55, 41, 32, 40, 104, 97, 115, 32, 50, 32, 52, 71, 105, 32, 48, 32, 49, 48, 32, 48, 41, 41]⟩ : ByteArray)) else some false).bind fun c2 =>
 (if c2 = true then (spec_ShowMachine r6.1).bind fun r11 =>
 some (V.seq r11 (⟨#[40, 109, 97, 99, 104, 105, 110, 101, 32, 110, 32, 40, 104, 97, 115, 32, 50, 32, 52, 71, 105, 32, 48, 32, 49, 48, 32, 48, 41, 32, 40, 116, 97, 105, 110, 116, 32, 103, 112, 117, 32, 34, 34, 32, 110, 111, 41, 32, 114, 101, 97, 100, 121, 41]⟩ : ByteArray)) else some false).bind fun c3 =>
 (if c3 = true then (spec_RightPod r2.1).bind fun r12 =>
 some r12 else some false).bind fun c4 =>
 (if c4 = true then (spec_RightMachine r6.1).bind fun r13 =>
 some r13 else some false).bind fun c5 =>
 (if c5 = true then (spec_RightGroup r8.1).bind fun r14 =>
 some r14 else some false).bind fun c6 =>
 some c6
theorem K4 : VS Tryz.prog 10 (law07_known) [] [] .bool N0 := by
 refine A8 [.tmp 0] Tryz.func10 R R R fun r hm=>?_
 unfold law07_known at hm
 refine Ag tbk [] R R<|Ae<|Ad R R<|Db hm 0 R fn16 R (K45 _) fun r ob cap hm=>A0 (Az 0 [(14,L100 r)] R ⟨⟨_,R,.here _ R⟩,trivial⟩ (FzH.refl _))<|Ad R R<|A1 hm 0 R fn15 R (K116 _ _) fun r2 hm=>Ab tbk [] 4 R R<|Ad R R<|A9 z29 fun b=>Ad R R<|Al (i:=0) R R R ld29 R R R<|Ab tbk [] 2 R R<|Ac<|Ae<|Ad R R<|Db hm 0 R fn16 R (K45 _) fun r3 ob2 cap2 hm=>A0 (Az 0 [(20,L100 r3)] R ⟨⟨_,R,.here _ R⟩,trivial⟩ (FzH.refl _))<|Ad R R<|A1 hm 0 R fn15 R (K116 _ _) fun r4 hm=>Ab tbk [] 4 R R<|Ad R R<|A9 z29 fun b2=>Ad R R<|Al (i:=0) R R R ld29 R R R<|Ab tbk [] 2 R R<|Ac<|Ae<|Ad R R<|Db hm 0 R fn16 R (K45 _) fun r5 ob3 cap3 hm=>A0 (Az 0 [(26,L100 r5)] R ⟨⟨_,R,.here _ R⟩,trivial⟩ (FzH.refl _))<|Ad R R<|A1 hm 0 R fn23 R (K130 _ _) fun r6 hm=>Ab tbk [] 4 R R<|Ad R R<|A9 z41 fun b3=>Ad R R<|Al (i:=0) R R R ld41 R R R<|Ab tbk [] 2 R R<|Ac<|Ae<|Ad R R<|Db hm 0 R fn16 R (K45 _) fun r7 ob4 cap4 hm=>A0 (Az 0 [(32,L100 r7)] R ⟨⟨_,R,.here _ R⟩,trivial⟩ (FzH.refl _))<|Ad R R<|A1 hm 0 R fn29 R (K142 _ _) fun r8 hm=>Ab tbk [] 4 R R<|Ad R R<|A9 z48 fun b4=>Ad R R<|Al (i:=0) R R R ld48 R R R<|Ab tbk [] 2 R R<|Ac<|Ae<|Ab tbk [] 3 R R<|Da 5 44 39 R (fun h17 K' J=>Ab tbk [3] 2 R R<|Bt R R R R R (A5 pl23 R R)<|Bt R R R R R (Dy shp23 eq23 R R R R)<|Aa R R (A6 true R R R)<|J 4 R R R) (fun K' J=>Ab tbk [] 5 R R<|J 4 R R R)<|Aa R R (Ak R)<|Bx tbk [3] 3 48 45 R R R R R<|Aa R R (Ak R)<|Da 5 54 49 R (fun h19 K' J=>Ab tbk [3] 2 R R<|Bt R R R R R (Bg T_api_Label.vv R B8)<|Ab tbk [] 2 R R<|J 4 R R R) (fun K' J=>Ab tbk [] 5 R R<|J 4 R R R)<|Aa R R (Ak R)<|Bx tbk [] 3 58 55 R R R R R<|Aa R R (Ak R)<|Bx tbk [] 3 62 59 R R R R R<|Aa R R (Ak R)<|Bx tbk [] 3 66 63 R R R R R<|Aa R R (Ak R)<|Bx tbk [1] 3 70 67 R R R R R<|Aa R R (Ak R)<|Bx tbk [1] 5 76 71 R R R R R<|Aa R R (Ak R)<|Da 5 82 77 R (fun h25 K' J=>Ab tbk [1] 2 R R<|Bt R R R R R (Bg T_api_Taint.vv R Cd)<|Ab tbk [] 2 R R<|J 4 R R R) (fun K' J=>Ab tbk [] 5 R R<|J 4 R R R)<|Aa R R (Ak R)<|Bx tbk [] 3 86 83 R R R R R<|Aa R R (Ak R)<|Bx tbk [0] 4 91 87 R R R R R<|?_
 exact Aa R R (Ak R)<|Bx tbk [0] 5 97 92 R R R R R<|Aa R R (Ak R)<|Br hm 4 102 98 R (fun _ K' h29 J hm=>Ab tbk [3] 1 R R<|Bk R R R R R<|A1 hm 0 R fn11 R (K0 _) fun r9 hm=>Ab tbk [] 2 R R<|J 3 R R (Bj hm)) (fun _ K' h29 J hm=>Ab tbk [] 4 R R<|J 3 R R (Bj hm)) fun c hm=>Aa R R (Ak R)<|Br hm 4 107 103 R (fun _ K' h32 J hm=>Ab tbk [0] 1 R R<|Bk R R R R R<|A1 hm 0 R fn25 R (K2 _) fun r10 hm=>Ab tbk [] 2 R R<|J 3 R R (Bj hm)) (fun _ K' h32 J hm=>Ab tbk [] 4 R R<|J 3 R R (Bj hm)) fun c2 hm=>Aa R R (Ak R)<|Br hm 4 112 108 R (fun _ K' h35 J hm=>Ab tbk [1] 1 R R<|Bk R R R R R<|A1 hm 0 R fn19 R (K3 _) fun r11 hm=>Ab tbk [] 2 R R<|J 3 R R (Bj hm)) (fun _ K' h35 J hm=>Ab tbk [] 4 R R<|J 3 R R (Bj hm)) fun c3 hm=>Aa R R (Ak R)<|Br hm 3 116 113 R (fun _ K' h38 J hm=>Ab tbk [3] 1 R R<|Bk R R R R R<|A1 hm 0 R fn12 R (K115 _) fun r12 hm=>Aa R R (A6 true R R R)<|J 2 R R (Bj hm)) (fun _ K' h38 J hm=>Ab tbk [] 3 R R<|J 2 R R (Bj hm)) fun c4 hm=>Aa R R (Ak R)<|Br hm 3 120 117 R (fun _ K' h41 J hm=>Ab tbk [1] 1 R R<|Bk R R R R R<|A1 hm 0 R fn20 R (K129 _) fun r13 hm=>Aa R R (A6 true R R R)<|J 2 R R (Bj hm)) (fun _ K' h41 J hm=>Ab tbk [] 3 R R<|J 2 R R (Bj hm)) fun c5 hm=>Aa R R (Ak R)<|Br hm 3 124 121 R (fun _ K' h44 J hm=>Ab tbk [0] 1 R R<|Bk R R R R R<|A1 hm 0 R fn26 R (K141 _) fun r14 hm=>Aa R R (A6 true R R R)<|J 2 R R (Bj hm)) (fun _ K' h44 J hm=>Ab tbk [] 3 R R<|J 2 R R (Bj hm)) fun c6 hm=>Aa R R (Am R)<|Ac<|Rt1 hm R [] R R R

/-! trireme/triremeref01.Word -/
def ref01_Word.l1 (s : ByteArray) : Nat → Int → Int → Option (Out Bool Int)
 | 0, _, _ => none
 | n4 + 1, n2, i2 =>
  if (decide (i2 < (s.size : Int))) = true then
   (ref01_Rune s i2).bind fun r =>
   (if (r.2 == 0) = true then some true else (ref01_plain r.1).bind fun r2 =>
   some (!r2)).bind fun c =>
   if c = true then
    some (Out.ret false)
   else
    ref01_Word.l1 s n4 (i64.wrap (n2 + 1)) (i64.wrap (i2 + r.2))
  else
   some (Out.go n2)
def ref01_Word (s : ByteArray) : Option Bool :=
 (ref01_Word.l1 s FU 0 (0 : Int)).bind fun o =>
 o.on fun n32 =>
 some ((decide (n32 ≥ 1)) && (decide (n32 ≤ 64)))
theorem K5 (s : ByteArray) : VS Tryz.prog 60 (ref01_Word s) [.str s] [] .bool N0 := by
 refine A8 [.tmp 2] Tryz.func60 R R R fun r hm=>?_
 unfold ref01_Word at hm
 refine Ag tbk [] R R<|Ag tbk [] R R<|Af<|Ag tbk [] R R<|Ce hm (fun n32 (_:Unit)=>[(3,Iw n32)]) (fun _ (_:Unit)=>[]) (fun o hm h2=>?_) fun n32 _ hm=> ?_
 ·refine Ck (fun zn (zs:Int × Int)=>ref01_Word.l1 s zn zs.1 zs.2) (fun zs (_:Unit)=>[(0,.str s),(3,Iw zs.1),(4,Iw zs.2)]) (fun _ (_:Unit)=>[]) ((0 : Int),(0 : Int)) () (fun _=>R) hm (Ah [] R R) fun n4=>Pq fun n2 i2 _ hm=> ?_
  rw [ref01_Word.l1] at hm
  exact Af<|Ae<|Ab tbk [] 2 R R<|Aa R R (B1 R Aq)<|Aa R R (Bh R R R)<|Ac<|Av hm R (fun h3 hm=>Aj<|A4<|Ae<|Ab tbk [] 2 R R<|Ad R R<|A1 hm 0 R fn116 R (K35 _ _) fun r hm=>Ab tbk [] 5 R R<|Ac<|Af<|Ae<|Ab tbk [] 3 R R<|Br hm 4 23 19 R (fun _ K' h5 J hm=>Ab tbk [] 4 R R<|J 3 R R (Bj hm)) (fun _ K' h5 J hm=>Bt R R R R R (Ak R)<|Bk R R R R R<|A1 hm 0 R fn117 R (K41 _) fun r2 hm=>Ab tbk [] 2 R R<|J 3 R R (Bj hm)) fun c hm=>Ac<|Av hm R (fun h8 hm=>Ag tbk [] R R<|have hm:=Lr hm h2;Rt1 hm R [] R R R) fun h8 hm=>Aj<|Ag tbk [] R R<|Bf tbk [] R R<|Ap ((IntKind.i64.wrap (n2 + (1 : Int))),(IntKind.i64.wrap (i2 + r.2))) () hm (Ah [] R R)) fun h3 hm=>Be<|Ar () hm (Ah [] R R)
 exact Ae<|Ab tbk [] 3 R R<|Bx tbk [] 3 34 31 R R R R R<|Aa R R (Am R)<|Ac<|Rt1 hm R [] R R R

/-! trireme/triremeref07.in -/
def ref07_in (n : Int) (low : Int) (high : Int) : Option Bool :=
 some ((decide (n ≥ low)) && (decide (n ≤ high)))
theorem K6 (n : Int) (low : Int) (high : Int) : VS Tryz.prog 63 (ref07_in n low high) [Iw n, Iw low, Iw high] [] .bool N0 := by
 refine A8 [.tmp 6] Tryz.func63 R R R fun r hm=>?_
 unfold ref07_in at hm
 exact Ag tbk [] R R<|Ae<|Ab tbk [] 4 R R<|Bx tbk [] 4 14 10 R R R R R<|Aa R R (Am R)<|Ac<|Rt1 hm R [] R R R

/-! trireme/triremeref07.maybe -/
def ref07_maybe (s : ByteArray) : Option Bool :=
 (if (V.seq s (⟨#[]⟩ : ByteArray)) = true then some true else (ref01_Word s).bind fun r =>
 some r).bind fun c =>
 some c
theorem K7 (s : ByteArray) : VS Tryz.prog 62 (ref07_maybe s) [.str s] [] .bool N0 := by
 refine A8 [.tmp 2] Tryz.func62 R R R fun r hm=>?_
 unfold ref07_maybe at hm
 exact Ag tbk [] R R<|Ae<|Ab tbk [] 3 R R<|Br hm 3 8 5 R (fun _ K' h1 J hm=>Ab tbk [] 3 R R<|J 2 R R (Bj hm)) (fun _ K' h1 J hm=>Bt R R R R R (Ak R)<|Bk R R R R R<|A1 hm 0 R fn60 R (K5 _) fun r hm=>Aa R R (A6 false R R R)<|J 2 R R (Bj hm)) fun c hm=>Aa R R (Am R)<|Ac<|Rt1 hm R [] R R R

/-! trireme/triremeref04.one -/
def ref04_one (n : Int) : Option Bool :=
 some ((decide (n ≥ 0)) && (decide (n ≤ 1125899906842624)))
theorem K8 (n : Int) : VS Tryz.prog 118 (ref04_one n) [Iw n] [] .bool N0 := by
 refine A8 [.tmp 2] Tryz.func118 R R R fun r hm=>?_
 unfold ref04_one at hm
 exact Ag tbk [] R R<|Ae<|Ab tbk [] 3 R R<|Bx tbk [] 3 8 5 R R R R R<|Aa R R (Am R)<|Ac<|Rt1 hm R [] R R R

/-! trireme/triremeref04.Right -/
def ref04_Right (a : T_api_Res) : Option Bool :=
 (ref04_one a.Cpu).bind fun r =>
 (if r = true then (ref04_one a.Mem).bind fun r2 =>
 some r2 else some false).bind fun c =>
 (if c = true then (ref04_one a.Disk).bind fun r3 =>
 some r3 else some false).bind fun c2 =>
 (if c2 = true then (ref04_one a.Pods).bind fun r4 =>
 some r4 else some false).bind fun c3 =>
 (if c3 = true then (ref04_one a.Dev).bind fun r5 =>
 some r5 else some false).bind fun c4 =>
 some c4
theorem K9 (a : T_api_Res) : VS Tryz.prog 61 (ref04_Right a) [T_api_Res.vv a] [] .bool N0 := by
 refine A8 [.tmp 2] Tryz.func61 R R R fun r hm=>?_
 unfold ref04_Right at hm
 exact Ae<|Ad R R<|Ch R R fun b=>Aa R R (Am R)<|Ac<|Ae<|Ab tbk [0] 2 R R<|Ad R R<|A1 hm 0 R fn118 R (K8 _) fun r hm=>Aa R R (Ak R)<|Br hm 4 10 6 R (fun _ K' h3 J hm=>Ab tbk [0] 2 R R<|Bk R R R R R<|A1 hm 0 R fn118 R (K8 _) fun r2 hm=>Aa R R (A6 true R R R)<|J 3 R R (Bj hm)) (fun _ K' h3 J hm=>Ab tbk [] 4 R R<|J 3 R R (Bj hm)) fun c hm=>Aa R R (Ak R)<|Br hm 4 15 11 R (fun _ K' h6 J hm=>Ab tbk [0] 2 R R<|Bk R R R R R<|A1 hm 0 R fn118 R (K8 _) fun r3 hm=>Aa R R (A6 true R R R)<|J 3 R R (Bj hm)) (fun _ K' h6 J hm=>Ab tbk [] 4 R R<|J 3 R R (Bj hm)) fun c2 hm=>Aa R R (Ak R)<|Br hm 4 20 16 R (fun _ K' h9 J hm=>Ab tbk [0] 2 R R<|Bk R R R R R<|A1 hm 0 R fn118 R (K8 _) fun r4 hm=>Aa R R (A6 true R R R)<|J 3 R R (Bj hm)) (fun _ K' h9 J hm=>Ab tbk [] 4 R R<|J 3 R R (Bj hm)) fun c3 hm=>Aa R R (Ak R)<|Br hm 4 25 21 R (fun _ K' h12 J hm=>Ab tbk [0] 2 R R<|Bk R R R R R<|A1 hm 0 R fn118 R (K8 _) fun r5 hm=>Aa R R (A6 true R R R)<|J 3 R R (Bj hm)) (fun _ K' h12 J hm=>Ab tbk [] 4 R R<|J 3 R R (Bj hm)) fun c4 hm=>Aa R R (Am R)<|Ac<|Rt1 hm R [] R R R

/-! trireme/triremeref05.maybe -/
def ref05_maybe (s : ByteArray) : Option Bool :=
 (if (V.seq s (⟨#[]⟩ : ByteArray)) = true then some true else (ref01_Word s).bind fun r =>
 some r).bind fun c =>
 some c
theorem K10 (s : ByteArray) : VS Tryz.prog 119 (ref05_maybe s) [.str s] [] .bool N0 := by
 refine A8 [.tmp 2] Tryz.func119 R R R fun r hm=>?_
 unfold ref05_maybe at hm
 exact Ag tbk [] R R<|Ae<|Ab tbk [] 3 R R<|Br hm 3 8 5 R (fun _ K' h1 J hm=>Ab tbk [] 3 R R<|J 2 R R (Bj hm)) (fun _ K' h1 J hm=>Bt R R R R R (Ak R)<|Bk R R R R R<|A1 hm 0 R fn60 R (K5 _) fun r hm=>Aa R R (A6 false R R R)<|J 2 R R (Bj hm)) fun c hm=>Aa R R (Am R)<|Ac<|Rt1 hm R [] R R R

/-! trireme/triremeref05.Less -/
def ref05_Less.l1 (a : ByteArray) (b : ByteArray) : Nat → Int → Option (Out Bool Unit)
 | 0, _ => none
 | n + 1, i2 =>
  if ((decide (i2 < (a.size : Int))) && (decide (i2 < (b.size : Int)))) = true then
   (V.gi a i2).bind fun v =>
   (V.gi b i2).bind fun v2 =>
   if (v != v2) = true then
    (V.gi a i2).bind fun v3 =>
    (V.gi b i2).bind fun v4 =>
    some (Out.ret (decide (v3 < v4)))
   else
    ref05_Less.l1 a b n (i64.wrap (i2 + 1))
  else
   some (Out.go ())
def ref05_Less (a : ByteArray) (b : ByteArray) : Option Bool :=
 (ref05_Less.l1 a b FU (0 : Int)).bind fun o =>
 o.on fun j =>
 some (decide ((a.size : Int) < (b.size : Int)))
theorem K11 (a : ByteArray) (b : ByteArray) : VS Tryz.prog 121 (ref05_Less a b) [.str a, .str b] [] .bool N0 := by
 refine A8 [.tmp 4] Tryz.func121 R R R fun r hm=>?_
 unfold ref05_Less at hm
 refine Ag tbk [] R R<|Af<|Ag tbk [] R R<|Ce hm (fun _ (_:Unit)=>[(0,.str a),(1,.str b)]) (fun _ (_:Unit)=>[]) (fun o hm h2=>?_) fun j _ hm=> ?_
 ·refine Ck (fun zn (zs:Int)=>ref05_Less.l1 a b zn zs) (fun zs (_:Unit)=>[(0,.str a),(1,.str b),(5,Iw zs)]) (fun _ (_:Unit)=>[]) _ () (fun _=>R) hm (Ah [] R R) fun n i2 _ hm=> ?_
  rw [ref05_Less.l1] at hm
  exact Af<|Ae<|Ab tbk [] 2 R R<|Aa R R (B1 R Aq)<|Ab tbk [] 2 R R<|Da 5 15 10 R (fun h3 K' J=>Ab tbk [] 2 R R<|Bt R R R R R (B1 R Aq)<|Ab tbk [] 2 R R<|J 4 R R R) (fun K' J=>Ab tbk [] 5 R R<|J 4 R R R)<|Ac<|Av hm R (fun h4 hm=>Aj<|Af<|A4<|Af<|A3 0 mixed<|An tbk [0,1] [] (by kernel_rfl) R R R<|Bd hm fun v h5 hm=>Au 2 R R R (by kernel_rfl) (Ci R R Aq h5)<|An tbk [3,4] [] (by kernel_rfl) R R R<|Bd hm fun v2 h6 hm=>Au 5 R R R (by kernel_rfl) (Ci R R Aq h6)<|Au 6 R R R (by kernel_rfl) (Bh R R R)<|Ay (by kernel_rfl)<|Av hm R (fun h7 hm=>Af<|A3 0 mixed<|An tbk [0,1] [] (by kernel_rfl) R R R<|Bd hm fun v3 h8 hm=>Au 2 R R R (by kernel_rfl) (Ci R R Aq h8)<|An tbk [3,4] [] (by kernel_rfl) R R R<|Bd hm fun v4 h9 hm=>Au 5 R R R (by kernel_rfl) (Ci R R Aq h9)<|An tbk [6,7] [] (by kernel_rfl) R R R<|Ay (by kernel_rfl)<|have hm:=Lr hm h2;Rt1 hm R [] R R R) fun h7 hm=>Aj<|Bf tbk [] R R<|Ap _ () hm (Ah [] R R)) fun h4 hm=>Be<|Ar () hm (Ah [] R R)
 exact Ae<|Aa R R (Ak R)<|Aa R R (B1 R Aq)<|Aa R R (Ak R)<|Aa R R (B1 R Aq)<|Ab tbk [] 2 R R<|Ac<|Rt1 hm R [] R R R

/-! trireme/triremeref05.Right -/
def ref05_Right.l1 (l : List T_api_Label) : Nat → Int → Option (Out Bool Unit)
 | 0, _ => none
 | n + 1, i2 =>
  if (decide (i2 < (l.length : Int))) = true then
   (V.gl l i2).bind fun x =>
   (ref01_Word x.Key).bind fun r =>
   (if (!r) = true then some true else (V.gl l i2).bind fun x2 =>
   (ref05_maybe x2.Val).bind fun r2 =>
   some (!r2)).bind fun c =>
   (if c = true then some true else (if (decide (i2 > 0)) = true then (V.gl l (i64.wrap (i2 - 1))).bind fun x3 =>
   (V.gl l i2).bind fun x4 =>
   (ref05_Less x3.Key x4.Key).bind fun r3 =>
   some (!r3) else some false).bind fun c2 =>
   some c2).bind fun c3 =>
   if c3 = true then
    some (Out.ret false)
   else
    ref05_Right.l1 l n (i64.wrap (i2 + 1))
  else
   some (Out.go ())
def ref05_Right (l : List T_api_Label) : Option Bool :=
 if (decide ((l.length : Int) > 16)) = true then
  some false
 else
  (ref05_Right.l1 l FU (0 : Int)).bind fun o =>
  o.on fun j =>
  some true
theorem K12 (l : List T_api_Label) : VS Tryz.prog 65 (ref05_Right l) [L141 l] [] .bool N0 := by
 refine A8 [.tmp 2] Tryz.func65 R R R fun r hm=>?_
 unfold ref05_Right at hm
 refine Ag tbk [] R R<|Af<|Ae<|Aa R R (Ak R)<|Aa R R (Bg T_api_Label.vv R B8)<|Aa R R (Bh R R R)<|Ac<|Av hm R (fun h1 hm=>Ag tbk [] R R<|Rt1 hm R [] R R R) fun h1 hm=>Aj<|Af<|Ag tbk [] R R<|Ce hm (fun _ (_:Unit)=>[]) (fun _ (_:Unit)=>[]) (fun o hm h3=>?_) fun j _ hm=> ?_
 ·refine Ck (fun zn (zs:Int)=>ref05_Right.l1 l zn zs) (fun zs (_:Unit)=>[(0,L141 l),(3,Iw zs)]) (fun _ (_:Unit)=>[]) _ () (fun _=>R) hm (Ah [] R R) fun n i2 _ hm=> ?_
  rw [ref05_Right.l1] at hm
  refine Af<|Ae<|Ab tbk [] 2 R R<|Aa R R (Bg T_api_Label.vv R B8)<|Aa R R (Bh R R R)<|Ac<|Av hm R (fun h4 hm=>?_) fun h4 hm=> ?_
  ·refine Aj<|Af<|A4<|Af<|A3 0 mixed<|An tbk [0,1] [] (by kernel_rfl) R R R<|Bd hm fun x h5 hm=>Au 2 R R R (by kernel_rfl) (A2 T_api_Label.vv R R el24 h5)<|An tbk [3,4] [] (by kernel_rfl) R R R<|Ai 5 (by kernel_rfl)<|Bd hm fun r h6 hm=>Ao R R R<|Aw 0 R fn60 R (K5 x.Key r h6) fun _ _ h19=> ?_
   obtain ⟨rfl,rfl⟩:=h19
   exact An tbk [6,7] [] (by kernel_rfl) R R R<|Cj hm [15,14,13,12,11,10,9,8,7,6,5,4,3,2,1,0] 28 20 R (fun _ K' h7 J hm=>An tbk [8,9,10,11,12,13,14,15] [] (by kernel_rfl) R R R<|J 7 R R (Bj hm)) (fun _ K' h7 J hm=>An tbk [8,9] [] (by kernel_rfl) R R R<|Bd hm fun x2 h8 hm=>Bv 10 R R R R R R (by kernel_rfl) (A2 T_api_Label.vv R R el24 h8)<|An tbk [11,12] [] (by kernel_rfl) R R R<|Ai 13 (by kernel_rfl)<|VB.oG R R R R R R<|A1 hm 0 R fn119 R (K10 _) fun r2 hm=>An tbk [14,15] [] (by kernel_rfl) R R R<|J 7 R R (Bj hm)) fun c hm=>Au 16 R R R (by kernel_rfl) (Ak R)<|Cj hm [34,33,32,31,30,29,28,27,26,25,24,23,22,21,20,19,18,17,16,15,14,13,12,11,10,9,8,7,6,5,4,3,2,1,0] 47 29 R (fun _ K' h11 J hm=>An tbk [17,18,19,20,21,22,23,24,25,26,27,28,29,30,31,32,33,34] [] (by kernel_rfl) R R R<|J 17 R R (Bj hm)) (fun _ K' h11 J hm=>An tbk [17,18,19] [] (by kernel_rfl) R R R<|Cj hm [33,32,31,30,29,28,27,26,25,24,23,22,21,20,19,18,17,16,15,14,13,12,11,10,9,8,7,6,5,4,3,2,1,0] 46 32 R (fun _ K' h12 J hm=>An tbk [20,21,22] [] (by kernel_rfl) R R R<|Bd hm fun x3 h13 hm=>Bv 23 R R R R R R (by kernel_rfl) (A2 T_api_Label.vv R R el24 h13)<|An tbk [24,25,26,27] [] (by kernel_rfl) R R R<|Bd hm fun x4 h14 hm=>Bv 28 R R R R R R (by kernel_rfl) (A2 T_api_Label.vv R R el24 h14)<|An tbk [29,30] [] (by kernel_rfl) R R R<|Ai 31 (by kernel_rfl)<|VB.oG R R R R R R<|A1 hm 0 R fn121 R (K11 _ _) fun r3 hm=>An tbk [32,33] [] (by kernel_rfl) R R R<|J 13 R R (Bj hm)) (fun _ K' h12 J hm=>An tbk [20,21,22,23,24,25,26,27,28,29,30,31,32,33] [] (by kernel_rfl) R R R<|J 13 R R (Bj hm)) fun c2 hm=>Au 34 R R R (by kernel_rfl) (A6 false R R R)<|J 4 R R (Bj hm)) fun c3 hm=>Ay (by kernel_rfl)<|Av hm R (fun h18 hm=>Ag tbk [] R R<|have hm:=Lr hm h3;Rt1 hm R [] R R R) fun h18 hm=>Aj<|Bf tbk [] R R<|Ap _ () hm (Ah [] R R)
  exact Be<|Ar () hm (Ah [] R R)
 exact Ag tbk [] R R<|Rt1 hm R [] R R R

/-! trireme/triremeref06.maybe -/
def ref06_maybe (s : ByteArray) : Option Bool :=
 (if (V.seq s (⟨#[]⟩ : ByteArray)) = true then some true else (ref01_Word s).bind fun r =>
 some r).bind fun c =>
 some c
theorem K13 (s : ByteArray) : VS Tryz.prog 122 (ref06_maybe s) [.str s] [] .bool N0 := by
 refine A8 [.tmp 2] Tryz.func122 R R R fun r hm=>?_
 unfold ref06_maybe at hm
 exact Ag tbk [] R R<|Ae<|Ab tbk [] 3 R R<|Br hm 3 8 5 R (fun _ K' h1 J hm=>Ab tbk [] 3 R R<|J 2 R R (Bj hm)) (fun _ K' h1 J hm=>Bt R R R R R (Ak R)<|Bk R R R R R<|A1 hm 0 R fn60 R (K5 _) fun r hm=>Aa R R (A6 false R R R)<|J 2 R R (Bj hm)) fun c hm=>Aa R R (Am R)<|Ac<|Rt1 hm R [] R R R

/-! trireme/triremeref06.effect -/
def ref06_effect (n : Int) : Option Bool :=
 some ((decide (n ≥ 1)) && (decide (n ≤ 3)))
theorem K14 (n : Int) : VS Tryz.prog 123 (ref06_effect n) [Iw n] [] .bool N0 := by
 refine A8 [.tmp 2] Tryz.func123 R R R fun r hm=>?_
 unfold ref06_effect at hm
 exact Ag tbk [] R R<|Ae<|Ab tbk [] 3 R R<|Bx tbk [] 3 8 5 R R R R R<|Aa R R (Am R)<|Ac<|Rt1 hm R [] R R R

/-! trireme/triremeref06.Right -/
def ref06_Right.l2 (l : List T_api_Taint) (i2 : Int) : Nat → Int → Option (Out (Out Bool Unit) Unit)
 | 0, _ => none
 | n2 + 1, k2 =>
  if (decide (k2 < i2)) = true then
   (V.gl l k2).bind fun x4 =>
   (V.gl l i2).bind fun x5 =>
   (if (V.seq x4.Key x5.Key) = true then (V.gl l k2).bind fun x6 =>
   (V.gl l i2).bind fun x7 =>
   some (x6.Effect == x7.Effect) else some false).bind fun c3 =>
   if c3 = true then
    some (Out.ret (Out.ret false))
   else
    ref06_Right.l2 l i2 n2 (i64.wrap (k2 + 1))
  else
   some (Out.go ())
def ref06_Right.l1 (l : List T_api_Taint) : Nat → Int → Option (Out Bool Unit)
 | 0, _ => none
 | n + 1, i2 =>
  if (decide (i2 < (l.length : Int))) = true then
   (V.gl l i2).bind fun x =>
   (ref01_Word x.Key).bind fun r =>
   (if (!r) = true then some true else (V.gl l i2).bind fun x2 =>
   (ref06_maybe x2.Val).bind fun r2 =>
   some (!r2)).bind fun c =>
   (if c = true then some true else (V.gl l i2).bind fun x3 =>
   (ref06_effect x3.Effect).bind fun r3 =>
   some (!r3)).bind fun c2 =>
   if c2 = true then
    some (Out.ret false)
   else
    (ref06_Right.l2 l i2 FU (0 : Int)).bind fun o2 =>
    o2.on fun j2 =>
    ref06_Right.l1 l n (i64.wrap (i2 + 1))
  else
   some (Out.go ())
def ref06_Right (l : List T_api_Taint) : Option Bool :=
 if (decide ((l.length : Int) > 16)) = true then
  some false
 else
  (ref06_Right.l1 l FU (0 : Int)).bind fun o =>
  o.on fun j =>
  some true
theorem K15 (l : List T_api_Taint) : VS Tryz.prog 82 (ref06_Right l) [L143 l] [] .bool N0 := by
 refine A8 [.tmp 2] Tryz.func82 R R R fun r hm=>?_
 unfold ref06_Right at hm
 refine Ag tbk [] R R<|Af<|Ae<|Aa R R (Ak R)<|Aa R R (Bg T_api_Taint.vv R Cd)<|Aa R R (Bh R R R)<|Ac<|Av hm R (fun h1 hm=>Ag tbk [] R R<|Rt1 hm R [] R R R) fun h1 hm=>Aj<|Af<|Ag tbk [] R R<|Ce hm (fun _ (_:Unit)=>[]) (fun _ (_:Unit)=>[]) (fun o hm h3=>?_) fun j _ hm=> ?_
 ·refine Ck (fun zn (zs:Int)=>ref06_Right.l1 l zn zs) (fun zs (_:Unit)=>[(0,L143 l),(3,Iw zs)]) (fun _ (_:Unit)=>[]) _ () (fun _=>R) hm (Ah [] R R) fun n i2 _ hm=> ?_
  rw [ref06_Right.l1] at hm
  refine Af<|Ae<|Ab tbk [] 2 R R<|Aa R R (Bg T_api_Taint.vv R Cd)<|Aa R R (Bh R R R)<|Ac<|Av hm R (fun h4 hm=>?_) fun h4 hm=> ?_
  ·refine Aj<|Af<|A4<|Af<|Ae<|Ab tbk [] 2 R R<|Bd hm fun x h5 hm=>Aa R R (A2 T_api_Taint.vv R R el39 h5)<|Ab tbk [] 2 R R<|Ad R R<|A1 hm 0 R fn60 R (K5 _) fun r hm=>Ab tbk [] 2 R R<|Br hm 8 29 21 R (fun _ K' h7 J hm=>Ab tbk [] 8 R R<|J 7 R R (Bj hm)) (fun _ K' h7 J hm=>Ab tbk [] 2 R R<|Bd hm fun x2 h8 hm=>Bt R R R R R (A2 T_api_Taint.vv R R el39 h8)<|Ab tbk [] 2 R R<|Bk R R R R R<|A1 hm 0 R fn122 R (K13 _) fun r2 hm=>Ab tbk [] 2 R R<|J 7 R R (Bj hm)) fun c hm=>Aa R R (Ak R)<|Br hm 8 38 30 R (fun _ K' h11 J hm=>Ab tbk [] 8 R R<|J 7 R R (Bj hm)) (fun _ K' h11 J hm=>Ab tbk [] 2 R R<|Bd hm fun x3 h12 hm=>Bt R R R R R (A2 T_api_Taint.vv R R el39 h12)<|Ab tbk [] 2 R R<|Bk R R R R R<|A1 hm 0 R fn123 R (K14 _) fun r3 hm=>Ab tbk [] 2 R R<|J 7 R R (Bj hm)) fun c2 hm=>Ac<|Av hm R (fun h15 hm=>Ag tbk [] R R<|have hm:=Lr hm h3;Rt1 hm R [] R R R) fun h15 hm=>Aj<|Ag tbk [] R R<|Ce hm (fun _ (_:Unit)=>[(0,L143 l),(3,Iw i2)]) (fun _ (_:Unit)=>[]) (fun o2 hm h17=>?_) fun j2 _ hm=> ?_
   ·refine Ck (fun zn (zs:Int)=>ref06_Right.l2 l i2 zn zs) (fun zs (_:Unit)=>[(0,L143 l),(3,Iw i2),(4,Iw zs)]) (fun _ (_:Unit)=>[]) _ () (fun _=>R) hm (Ah [] R R) fun n2 k2 _ hm=> ?_
    rw [ref06_Right.l2] at hm
    exact Af<|Ag tbk [] R R<|Av hm R (fun h18 hm=>Aj<|Af<|A4<|Af<|A3 0 mixed<|An tbk [0,1] [] (by kernel_rfl) R R R<|Bd hm fun x4 h19 hm=>Au 2 R R R (by kernel_rfl) (A2 T_api_Taint.vv R R el39 h19)<|An tbk [3,4,5,6] [] (by kernel_rfl) R R R<|Bd hm fun x5 h20 hm=>Au 7 R R R (by kernel_rfl) (A2 T_api_Taint.vv R R el39 h20)<|An tbk [8,9,10,11] [] (by kernel_rfl) R R R<|Cj hm [23,22,21,20,19,18,17,16,15,14,13,12,11,10,9,8,7,6,5,4,3,2,1,0] 67 55 R (fun _ K' h21 J hm=>An tbk [12,13] [] (by kernel_rfl) R R R<|Bd hm fun x6 h22 hm=>Bv 14 R R R R R R (by kernel_rfl) (A2 T_api_Taint.vv R R el39 h22)<|An tbk [15,16,17,18] [] (by kernel_rfl) R R R<|Bd hm fun x7 h23 hm=>Bv 19 R R R R R R (by kernel_rfl) (A2 T_api_Taint.vv R R el39 h23)<|An tbk [20,21,22,23] [] (by kernel_rfl) R R R<|J 11 R R (Bj hm)) (fun _ K' h21 J hm=>An tbk [12,13,14,15,16,17,18,19,20,21,22,23] [] (by kernel_rfl) R R R<|J 11 R R (Bj hm)) fun c3 hm=>Ay (by kernel_rfl)<|Av hm R (fun h25 hm=>Ag tbk [] R R<|have hm:=Lr hm h17;have hm:=Lr hm h3;Rt1 hm R [] R R R) fun h25 hm=>Aj<|Bf tbk [] R R<|Ap _ () hm (Ah [] R R)) fun h18 hm=>Be<|Ar () hm (Ah [] R R)
   exact Bf tbk [] R R<|Ap _ () hm (Ah [] R R)
  exact Be<|Ar () hm (Ah [] R R)
 exact Ag tbk [] R R<|Rt1 hm R [] R R R

/-! trireme/triremeref07.RightMachine -/
def ref07_RightMachine (m : T_api_Machine) : Option Bool :=
 (ref07_maybe m.Name).bind fun r =>
 (if r = true then (ref07_maybe m.Group).bind fun r2 =>
 some r2 else some false).bind fun c =>
 (if c = true then (ref04_Right m.Has).bind fun r3 =>
 some r3 else some false).bind fun c2 =>
 (if c2 = true then (ref05_Right m.Labels).bind fun r4 =>
 some r4 else some false).bind fun c3 =>
 (if c3 = true then (ref06_Right m.Taints).bind fun r5 =>
 some r5 else some false).bind fun c4 =>
 some c4
theorem K16 (m : T_api_Machine) : VS Tryz.prog 21 (ref07_RightMachine m) [T_api_Machine.vv m] [] .bool N0 := by
 refine A8 [.tmp 2] Tryz.func21 R R R fun r hm=>?_
 unfold ref07_RightMachine at hm
 exact Ae<|Ad R R<|Ch R R fun b=>Aa R R (Am R)<|Ac<|Ae<|Ab tbk [0] 2 R R<|Ad R R<|A1 hm 0 R fn62 R (K7 _) fun r hm=>Aa R R (Ak R)<|Br hm 4 10 6 R (fun _ K' h3 J hm=>Ab tbk [0] 2 R R<|Bk R R R R R<|A1 hm 0 R fn62 R (K7 _) fun r2 hm=>Aa R R (A6 true R R R)<|J 3 R R (Bj hm)) (fun _ K' h3 J hm=>Ab tbk [] 4 R R<|J 3 R R (Bj hm)) fun c hm=>Aa R R (Ak R)<|Br hm 4 15 11 R (fun _ K' h6 J hm=>Ab tbk [0] 2 R R<|Bk R R R R R<|A1 hm 0 R fn61 R (K9 _) fun r3 hm=>Aa R R (A6 true R R R)<|J 3 R R (Bj hm)) (fun _ K' h6 J hm=>Ab tbk [] 4 R R<|J 3 R R (Bj hm)) fun c2 hm=>Aa R R (Ak R)<|Br hm 4 20 16 R (fun _ K' h9 J hm=>Ab tbk [0] 2 R R<|Bk R R R R R<|A1 hm 0 R fn65 R (K12 _) fun r4 hm=>Aa R R (A6 true R R R)<|J 3 R R (Bj hm)) (fun _ K' h9 J hm=>Ab tbk [] 4 R R<|J 3 R R (Bj hm)) fun c3 hm=>Aa R R (Ak R)<|Br hm 4 25 21 R (fun _ K' h12 J hm=>Ab tbk [0] 2 R R<|Bk R R R R R<|A1 hm 0 R fn82 R (K15 _) fun r5 hm=>Aa R R (A6 true R R R)<|J 3 R R (Bj hm)) (fun _ K' h12 J hm=>Ab tbk [] 4 R R<|J 3 R R (Bj hm)) fun c4 hm=>Aa R R (Am R)<|Ac<|Rt1 hm R [] R R R

/-! trireme/triremeref07.RightGroup -/
def ref07_RightGroup (g : T_api_Group) : Option Bool :=
 (ref01_Word g.Name).bind fun r =>
 (if r = true then (ref07_in g.Max 1 (200 : Int)).bind fun r2 =>
 some r2 else some false).bind fun c =>
 (if c = true then (ref07_in g.Min 0 g.Max).bind fun r3 =>
 some r3 else some false).bind fun c2 =>
 (if c2 = true then (ref07_in g.Price 0 (1125899906842624 : Int)).bind fun r4 =>
 some r4 else some false).bind fun c3 =>
 (if c3 = true then (ref07_in g.Rank 0 (1000 : Int)).bind fun r5 =>
 some r5 else some false).bind fun c4 =>
 (if c4 = true then (ref07_RightMachine g.Like).bind fun r6 =>
 some r6 else some false).bind fun c5 =>
 some (((c5 && (V.seq g.Like.Name (⟨#[]⟩ : ByteArray))) && (V.seq g.Like.Group g.Name)) && g.Like.Ready)
theorem K17 (g : T_api_Group) : VS Tryz.prog 27 (ref07_RightGroup g) [T_api_Group.vv g] [] .bool N0 := by
 refine A8 [.tmp 2] Tryz.func27 R R R fun r hm=>?_
 unfold ref07_RightGroup at hm
 exact Ae<|Ad R R<|Ch R R fun b=>Aa R R (Am R)<|Ac<|Ae<|Ab tbk [0] 2 R R<|Ad R R<|A1 hm 0 R fn60 R (K5 _) fun r hm=>Aa R R (Ak R)<|Br hm 4 10 6 R (fun _ K' h3 J hm=>Ab tbk [0] 2 R R<|Bk R R R R R<|A1 hm 0 R fn63 R (K6 _ _ _) fun r2 hm=>Aa R R (A6 true R R R)<|J 3 R R (Bj hm)) (fun _ K' h3 J hm=>Ab tbk [] 4 R R<|J 3 R R (Bj hm)) fun c hm=>Aa R R (Ak R)<|Br hm 6 17 11 R (fun _ K' h6 J hm=>Ab tbk [0,0] 4 R R<|Bk R R R R R<|A1 hm 0 R fn63 R (K6 _ _ _) fun r3 hm=>Aa R R (A6 true R R R)<|J 5 R R (Bj hm)) (fun _ K' h6 J hm=>Ab tbk [] 6 R R<|J 5 R R (Bj hm)) fun c2 hm=>Aa R R (Ak R)<|Br hm 4 22 18 R (fun _ K' h9 J hm=>Ab tbk [0] 2 R R<|Bk R R R R R<|A1 hm 0 R fn63 R (K6 _ _ _) fun r4 hm=>Aa R R (A6 true R R R)<|J 3 R R (Bj hm)) (fun _ K' h9 J hm=>Ab tbk [] 4 R R<|J 3 R R (Bj hm)) fun c3 hm=>Aa R R (Ak R)<|Br hm 4 27 23 R (fun _ K' h12 J hm=>Ab tbk [0] 2 R R<|Bk R R R R R<|A1 hm 0 R fn63 R (K6 _ _ _) fun r5 hm=>Aa R R (A6 true R R R)<|J 3 R R (Bj hm)) (fun _ K' h12 J hm=>Ab tbk [] 4 R R<|J 3 R R (Bj hm)) fun c4 hm=>Aa R R (Ak R)<|Br hm 4 32 28 R (fun _ K' h15 J hm=>Ab tbk [0] 2 R R<|Bk R R R R R<|A1 hm 0 R fn21 R (K16 _) fun r6 hm=>Aa R R (A6 true R R R)<|J 3 R R (Bj hm)) (fun _ K' h15 J hm=>Ab tbk [] 4 R R<|J 3 R R (Bj hm)) fun c5 hm=>Aa R R (Ak R)<|Bx tbk [0] 5 38 33 R R R R R<|Aa R R (Ak R)<|Bx tbk [0,0] 7 46 39 R R R R R<|Aa R R (Ak R)<|Bx tbk [0] 4 51 47 R R R R R<|Aa R R (Am R)<|Ac<|Rt1 hm R [] R R R

/-! trireme/triremeref01.Digits -/
def ref01_Digits : Nat → Int → Option ByteArray
 | 0, _ => none
 | nn + 1, n =>
  if (decide (n < 10)) = true then
   some (strOfNums [(IntKind.u8.wrap (i64.wrap (48 + n)))])
  else
   (V.quo n (10 : Int)).bind fun v =>
   (V.rem n (10 : Int)).bind fun v2 =>
   ((ref01_Digits nn) (i64.wrap v)).bind fun r =>
   (V.cat r (strOfNums [(IntKind.u8.wrap (i64.wrap (48 + v2)))])).bind fun v3 =>
   some v3
theorem K18 (nn : Nat) : ∀ (n : Int), VS Tryz.prog 69 (ref01_Digits nn n) [Iw n] [] .str N0 := by
 induction nn with
 | zero => intro n; exact VS.none (by rw [ref01_Digits])
 | succ nn ih =>
  intro n
  refine A8 [.tmp 2] Tryz.func69 R R R fun r hm=>?_
  rw [ref01_Digits] at hm
  refine Ag tbk [] R R<|Af<|Ag tbk [] R R<|Av hm R (fun h1 hm=>Ae<|Ab tbk [] 2 R R<|Aa R R (B9 Bu Bo R)<|Ad R R<|Ax ap160 R R R R R fun b=>A0 (Az 0 [(8,L5 [(IntKind.u8.wrap (IntKind.i64.wrap ((48 : Int) + n)))])] R ⟨⟨_,R,.here _ R⟩,trivial⟩ (FzH.refl _))<|Aa R R (Dq (l:=[(IntKind.u8.wrap (IntKind.i64.wrap ((48 : Int) + n)))]) el160 Bo Aq R)<|Aa R R (Am R)<|Ac<|Rt1 hm R [] R R R) fun h1 hm=>Aj<|Af<|A3 0 mixed<|Au 0 R R R (by kernel_rfl) (Ak R)<|Bd hm fun v h3 hm=>Au 1 R R R (by kernel_rfl) (Cy R R h3)<|Au 3 R R R (by kernel_rfl) (Ak R)<|Bd hm fun v2 h4 hm=>Au 4 R R R (by kernel_rfl) (C3 R R h4)<|Au 5 R R R (by kernel_rfl) (Bh R R R)<|Au 6 R R R (by kernel_rfl) (B9 Bu Bo R)<|?_
  refine B0 [2,7] (by kernel_rfl) ⟨?_,?_,trivial⟩
  ·refine Bd hm fun r h5 hm=>Ao R R R<|Aw 0 R fn69 R (ih (IntKind.i64.wrap v) r h5) fun _ _ h8=> ?_
   obtain ⟨rfl,rfl⟩:=h8
   exact Ai 7 (by kernel_rfl)<|Ao R R R<|Ax ap160 R R R R R fun b2=>Dd (Az 0 [(17,L5 [(IntKind.u8.wrap (IntKind.i64.wrap ((48 : Int) + v2)))])] R ⟨⟨_,R,.here _ R⟩,trivial⟩ (FzH.refl _))<|Au 8 R R R (by kernel_rfl) (Dq (l:=[(IntKind.u8.wrap (IntKind.i64.wrap ((48 : Int) + v2)))]) el160 Bo Aq R)<|Bd hm fun v3 h7 hm=>Au 9 R R R (by kernel_rfl) (Bl R R h7)<|Au 10 R R R (by kernel_rfl) (Am R)<|Ay (by kernel_rfl)<|Rt1 hm R [] R R R
  ·refine Ao R R R<|Ax ap160 R R R R R fun b3=>Dd (Az 0 [(17,L5 [(IntKind.u8.wrap (IntKind.i64.wrap ((48 : Int) + v2)))])] R ⟨⟨_,R,.here _ R⟩,trivial⟩ (FzH.refl _))<|Au 8 R R R (by kernel_rfl) (Dq (l:=[(IntKind.u8.wrap (IntKind.i64.wrap ((48 : Int) + v2)))]) el160 Bo Aq R)<|Ai 2 (by kernel_rfl)<|Bd hm fun r2 h10 hm=>Ao R R R<|Aw 0 R fn69 R (ih (IntKind.i64.wrap v) r2 h10) fun _ _ h12=> ?_
   obtain ⟨rfl,rfl⟩:=h12
   exact Bd hm fun v4 h11 hm=>Au 9 R R R (by kernel_rfl) (Bl R R h11)<|Au 10 R R R (by kernel_rfl) (Am R)<|Ay (by kernel_rfl)<|Rt1 hm R [] R R R

/-! trireme/triremeref07.number -/
def ref07_number (name : ByteArray) (n : Int) : Option ByteArray :=
 if (n == 0) = true then
  some (⟨#[]⟩ : ByteArray)
 else
  (V.cat (⟨#[32, 40]⟩ : ByteArray) name).bind fun v =>
  (V.cat v (⟨#[32]⟩ : ByteArray)).bind fun v2 =>
  (ref01_Digits FU n).bind fun r =>
  (V.cat v2 r).bind fun v3 =>
  (V.cat v3 (⟨#[41]⟩ : ByteArray)).bind fun v4 =>
  some v4
theorem K19 (name : ByteArray) (n : Int) : VS Tryz.prog 74 (ref07_number name n) [.str name, Iw n] [] .str N0 := by
 refine A8 [.tmp 4] Tryz.func74 R R R fun r hm=>?_
 unfold ref07_number at hm
 exact Ag tbk [] R R<|Af<|Ag tbk [] R R<|Av hm R (fun h1 hm=>Ag tbk [] R R<|Rt1 hm R [] R R R) fun h1 hm=>Aj<|Ae<|Aa R R (Ak R)<|Bd hm fun v h2 hm=>Aa R R (Bl R R h2)<|Bd hm fun v2 h3 hm=>Aa R R (Bl R R h3)<|Aa R R (Ak R)<|Ad R R<|A1 hm 0 R fn69 R (K18 FU _) fun r hm=>Bd hm fun v3 h5 hm=>Aa R R (Bl R R h5)<|Bd hm fun v4 h6 hm=>Aa R R (Bl R R h6)<|Aa R R (Am R)<|Ac<|Rt1 hm R [] R R R

/-! trireme/triremeref03.ShowMilli -/
def ref03_ShowMilli (n : Int) : Option ByteArray :=
 if ((decide (n < 0)) || (decide (n > 1125899906842624))) = true then
  some (⟨#[]⟩ : ByteArray)
 else
  (V.rem n (1000 : Int)).bind fun v =>
  if (v == 0) = true then
   (V.quo n (1000 : Int)).bind fun v2 =>
   (ref01_Digits FU (i64.wrap v2)).bind fun r =>
   some r
  else
   (ref01_Digits FU n).bind fun r2 =>
   (V.cat r2 (⟨#[109]⟩ : ByteArray)).bind fun v3 =>
   some v3
theorem K20 (n : Int) : VS Tryz.prog 67 (ref03_ShowMilli n) [Iw n] [] .str N0 := by
 refine A8 [.tmp 2] Tryz.func67 R R R fun r hm=>?_
 unfold ref03_ShowMilli at hm
 exact Ag tbk [] R R<|Af<|Ae<|Ab tbk [] 3 R R<|Cn tbk [] 3 8 5 R R R R R<|Ac<|Av hm R (fun h2 hm=>Ag tbk [] R R<|Rt1 hm R [] R R R) fun h2 hm=>Aj<|Af<|Ae<|Aa R R (Ak R)<|Bd hm fun v h3 hm=>Aa R R (C3 R R h3)<|Aa R R (Bh R R R)<|Ac<|Av hm R (fun h4 hm=>Ae<|Aa R R (Ak R)<|Bd hm fun v2 h5 hm=>Aa R R (Cy R R h5)<|Ad R R<|A1 hm 0 R fn69 R (K18 FU _) fun r hm=>Aa R R (Am R)<|Ac<|Rt1 hm R [] R R R) fun h4 hm=>Aj<|Ae<|Aa R R (Ak R)<|Ad R R<|A1 hm 0 R fn69 R (K18 FU _) fun r2 hm=>Bd hm fun v3 h8 hm=>Aa R R (Bl R R h8)<|Aa R R (Am R)<|Ac<|Rt1 hm R [] R R R

/-! trireme/triremeref03.Show -/
def ref03_Show.l1 (n : Int) : Nat → Int → Option (Out ByteArray Unit)
 | 0, _ => none
 | n2 + 1, i2 =>
  if (decide (i2 < 4)) = true then
   (V.shl .i64 1 (IntKind.u64.wrap (i64.wrap (40 - (i64.wrap (10 * i2)))))).bind fun v =>
   (if (decide (n > 0)) = true then (V.rem n v).bind fun v2 =>
   some (v2 == 0) else some false).bind fun c =>
   if c = true then
    (V.quo n v).bind fun v3 =>
    (V.gl [(⟨#[84, 105]⟩ : ByteArray), (⟨#[71, 105]⟩ : ByteArray), (⟨#[77, 105]⟩ : ByteArray), (⟨#[75, 105]⟩ : ByteArray)] i2).bind fun x =>
    (ref01_Digits FU (i64.wrap v3)).bind fun r =>
    (V.cat r x).bind fun v4 =>
    some (Out.ret v4)
   else
    ref03_Show.l1 n n2 (i64.wrap (i2 + 1))
  else
   some (Out.go ())
def ref03_Show (n : Int) : Option ByteArray :=
 if ((decide (n < 0)) || (decide (n > 1125899906842624))) = true then
  some (⟨#[]⟩ : ByteArray)
 else
  (ref03_Show.l1 n FU (0 : Int)).bind fun o =>
  o.on fun j =>
  (ref01_Digits FU n).bind fun r2 =>
  some r2
theorem K21 (n : Int) : VS Tryz.prog 68 (ref03_Show n) [Iw n] [] .str N0 := by
 refine A8 [.tmp 2] Tryz.func68 R R R fun r hm=>?_
 unfold ref03_Show at hm
 refine Ag tbk [] R R<|Af<|Ae<|Ab tbk [] 3 R R<|Cn tbk [] 3 11 8 R R R R R<|Ac<|Av hm R (fun h2 hm=>Ag tbk [] R R<|Rt1 hm R [] R R R) fun h2 hm=>Aj<|Ae<|Ad R R<|Ax ap65 R R R R R fun b=>A0 (Az 0 [(12,L9 [(⟨#[84,105]⟩ : ByteArray),(⟨#[71,105]⟩ : ByteArray),(⟨#[77,105]⟩ : ByteArray),(⟨#[75,105]⟩ : ByteArray)])] R ⟨⟨_,R,.here _ R⟩,trivial⟩ (FzH.refl _))<|Aa R R (Am R)<|Ac<|Af<|Ag tbk [] R R<|Ce hm (fun _ (_:Unit)=>[(0,Iw n)]) (fun _ (_:Unit)=>[]) (fun o hm h5=>?_) fun j _ hm=> ?_
 ·refine Ck (fun zn (zs:Int)=>ref03_Show.l1 n zn zs) (fun zs (_:Unit)=>[(0,Iw n),(3,L9 [(⟨#[84,105]⟩ : ByteArray),(⟨#[71,105]⟩ : ByteArray),(⟨#[77,105]⟩ : ByteArray),(⟨#[75,105]⟩ : ByteArray)]),(4,Iw zs)]) (fun _ (_:Unit)=>[]) _ () (fun _=>R) hm (Ah [] R R) fun n2 i2 _ hm=> ?_
  rw [ref03_Show.l1] at hm
  refine Af<|Ag tbk [] R R<|Av hm R (fun h6 hm=>?_) fun h6 hm=> ?_
  ·refine Aj<|Af<|A4<|Ae<|Ab tbk [] 3 R R<|Aa R R (B9 Bu Dr R)<|Bd hm fun v h7 hm=>Aa R R (VP.shlT R R h7)<|Aa R R (Am R)<|Ac<|Ae<|Ab tbk [] 3 R R<|Br hm 5 29 24 R (fun _ K' h8 J hm=>Ab tbk [] 2 R R<|Bd hm fun v2 h9 hm=>Bt R R R R R (C3 R R h9)<|Ab tbk [] 2 R R<|J 4 R R (Bj hm)) (fun _ K' h8 J hm=>Ab tbk [] 5 R R<|J 4 R R (Bj hm)) fun c hm=>Ac<|Av hm R (fun h11 hm=>?_) fun h11 hm=> ?_
   ·refine Af<|A3 0 mixed<|An tbk [0,1] [] (by kernel_rfl) R R R<|Bd hm fun v3 h12 hm=>Au 2 R R R (by kernel_rfl) (Cy R R h12)<|An tbk [4,5] [] (by kernel_rfl) R R R<|Bd hm fun x h13 hm=>Au 6 R R R (by kernel_rfl) (A2 VV.str R R el65 h13)<|Au 7 R R R (by kernel_rfl) (Bn R ld9 R)<|Ai 3 (by kernel_rfl)<|Bd hm fun r h14 hm=>Ao R R R<|Aw 0 R fn69 R (K18 FU (IntKind.i64.wrap v3) r h14) fun _ _ h16=> ?_
    obtain ⟨rfl,rfl⟩:=h16
    exact Bd hm fun v4 h15 hm=>Au 8 R R R (by kernel_rfl) (Bl R R h15)<|Au 9 R R R (by kernel_rfl) (Am R)<|Ay (by kernel_rfl)<|have hm:=Lr hm h5;Rt1 hm R [] R R R
   exact Aj<|Bf tbk [] R R<|Ap _ () hm (Ah [] R R)
  exact Be<|Ar () hm (Ah [] R R)
 exact Ae<|Aa R R (Ak R)<|Ad R R<|A1 hm 0 R fn69 R (K18 FU _) fun r2 hm=>Aa R R (Am R)<|Ac<|Rt1 hm R [] R R R

/-! trireme/triremeref07.atom -/
def ref07_atom (s : ByteArray) : Option ByteArray :=
 if (V.seq s (⟨#[]⟩ : ByteArray)) = true then
  some (⟨#[34, 34]⟩ : ByteArray)
 else
  some s
theorem K22 (s : ByteArray) : VS Tryz.prog 72 (ref07_atom s) [.str s] [] .str N0 := by
 refine A8 [.tmp 2] Tryz.func72 R R R fun r hm=>?_
 unfold ref07_atom at hm
 exact Ag tbk [] R R<|Af<|Ag tbk [] R R<|Av hm R (fun h1 hm=>Ag tbk [] R R<|Rt1 hm R [] R R R) fun h1 hm=>Aj<|Ag tbk [] R R<|Rt1 hm R [] R R R

/-! trireme/triremeref07.pairs -/
def ref07_pairs.l1 (name : ByteArray) (l : List T_api_Label) : Nat → ByteArray → Int → Option ByteArray
 | 0, _, _ => none
 | n + 1, s2, i2 =>
  if (decide (i2 < (l.length : Int))) = true then
   (V.cat s2 (⟨#[32, 40]⟩ : ByteArray)).bind fun v =>
   (V.cat v name).bind fun v2 =>
   (V.cat v2 (⟨#[32]⟩ : ByteArray)).bind fun v3 =>
   (V.gl l i2).bind fun x =>
   (V.cat v3 x.Key).bind fun v4 =>
   (V.cat v4 (⟨#[32]⟩ : ByteArray)).bind fun v5 =>
   (V.gl l i2).bind fun x2 =>
   (ref07_atom x2.Val).bind fun r =>
   (V.cat v5 r).bind fun v6 =>
   (V.cat v6 (⟨#[41]⟩ : ByteArray)).bind fun v7 =>
   ref07_pairs.l1 name l n v7 (i64.wrap (i2 + 1))
  else
   some s2
def ref07_pairs (name : ByteArray) (l : List T_api_Label) : Option ByteArray :=
 (ref07_pairs.l1 name l FU (⟨#[]⟩ : ByteArray) (0 : Int)).bind fun s32 =>
 some s32
theorem K23 (name : ByteArray) (l : List T_api_Label) : VS Tryz.prog 70 (ref07_pairs name l) [.str name, L141 l] [] .str N0 := by
 refine A8 [.tmp 4] Tryz.func70 R R R fun r hm=>?_
 unfold ref07_pairs at hm
 refine Ag tbk [] R R<|Ag tbk [] R R<|Af<|Ag tbk [] R R<|Cx hm (fun s32 (_:Unit)=>[(5,.str s32)]) (fun _ (_:Unit)=>[]) (fun o hm=>?_) fun s32 _ hm=> ?_
 ·refine Ck (fun zn (zs:ByteArray × Int)=>ref07_pairs.l1 name l zn zs.1 zs.2) (fun zs (_:Unit)=>[(0,.str name),(1,L141 l),(5,.str zs.1),(6,Iw zs.2)]) (fun _ (_:Unit)=>[]) ((⟨#[]⟩ : ByteArray),(0 : Int)) () (fun _=>R) hm (Ah [] R R) fun n=>Pq fun s2 i2 _ hm=> ?_
  rw [ref07_pairs.l1] at hm
  refine Af<|Ae<|Ab tbk [] 2 R R<|Aa R R (Bg T_api_Label.vv R B8)<|Aa R R (Bh R R R)<|Ac<|Av hm R (fun h3 hm=>?_) fun h3 hm=> ?_
  ·refine Aj<|Af<|A4<|A3 0 mixed<|Au 0 R R R (by kernel_rfl) (Ak R)<|Bd hm fun v h4 hm=>Au 1 R R R (by kernel_rfl) (Bl R R h4)<|Au 2 R R R (by kernel_rfl) (Ak R)<|Bd hm fun v2 h5 hm=>Au 3 R R R (by kernel_rfl) (Bl R R h5)<|Bd hm fun v3 h6 hm=>Au 4 R R R (by kernel_rfl) (Bl R R h6)<|An tbk [5,6] [] (by kernel_rfl) R R R<|Bd hm fun x h7 hm=>Au 7 R R R (by kernel_rfl) (A2 T_api_Label.vv R R el24 h7)<|An tbk [8,9] [] (by kernel_rfl) R R R<|Bd hm fun v4 h8 hm=>Au 10 R R R (by kernel_rfl) (Bl R R h8)<|Bd hm fun v5 h9 hm=>Au 11 R R R (by kernel_rfl) (Bl R R h9)<|An tbk [12,13] [] (by kernel_rfl) R R R<|Bd hm fun x2 h10 hm=>Au 14 R R R (by kernel_rfl) (A2 T_api_Label.vv R R el24 h10)<|An tbk [15,16] [] (by kernel_rfl) R R R<|Ai 17 (by kernel_rfl)<|Bd hm fun r h11 hm=>Ao R R R<|Aw 0 R fn72 R (K22 x2.Val r h11) fun _ _ h14=> ?_
   obtain ⟨rfl,rfl⟩:=h14
   exact Bd hm fun v6 h12 hm=>Au 18 R R R (by kernel_rfl) (Bl R R h12)<|Bd hm fun v7 h13 hm=>Au 19 R R R (by kernel_rfl) (Bl R R h13)<|Au 20 R R R (by kernel_rfl) (Am R)<|Ay (by kernel_rfl)<|Bf tbk [] R R<|Ap (v7,(IntKind.i64.wrap (i2 + (1 : Int)))) () hm (Ah [] R R)
  exact Be<|As () hm (Ah [] R R)
 exact Ag tbk [] R R<|Rt1 hm R [] R R R

/-! trireme/triremeref07.effects -/
def ref07_effects : Option (List ByteArray) :=
 some [(⟨#[97, 110, 121]⟩ : ByteArray), (⟨#[110, 111]⟩ : ByteArray), (⟨#[112, 114, 101, 102, 101, 114]⟩ : ByteArray), (⟨#[111, 117, 116]⟩ : ByteArray)]
theorem K24 : VS Tryz.prog 73 (ref07_effects) [] [] (fun r=>L9 r) N0 := by
 refine A8 [.tmp 0] Tryz.func73 R R R fun r hm=>?_
 unfold ref07_effects at hm
 exact Ag tbk [] R R<|Ae<|Ad R R<|Ax ap65 R R R R R fun b=>A0 (Az 0 [(1,L9 [(⟨#[97,110,121]⟩ : ByteArray),(⟨#[110,111]⟩ : ByteArray),(⟨#[112,114,101,102,101,114]⟩ : ByteArray),(⟨#[111,117,116]⟩ : ByteArray)])] R ⟨⟨_,R,.here _ R⟩,trivial⟩ (FzH.refl _))<|Aa R R (Am R)<|Ac<|Rt1 hm R [] R R R

/-! trireme/triremeref07.rest -/
def ref07_rest.l1 (m : T_api_Machine) : Nat → ByteArray → Int → Option ByteArray
 | 0, _, _ => none
 | n + 1, s2, i2 =>
  if (decide (i2 < (m.Taints.length : Int))) = true then
   (V.gl m.Taints i2).bind fun x =>
   (V.cat s2 (⟨#[32, 40, 116, 97, 105, 110, 116, 32]⟩ : ByteArray)).bind fun v12 =>
   (V.cat v12 x.Key).bind fun v13 =>
   (V.cat v13 (⟨#[32]⟩ : ByteArray)).bind fun v14 =>
   (ref07_atom x.Val).bind fun r7 =>
   (V.cat v14 r7).bind fun v15 =>
   (V.cat v15 (⟨#[32]⟩ : ByteArray)).bind fun v16 =>
   (ref07_effects).bind fun r8 =>
   (V.gl r8 x.Effect).bind fun x2 =>
   (V.cat v16 x2).bind fun v17 =>
   (V.cat v17 (⟨#[41]⟩ : ByteArray)).bind fun v18 =>
   ref07_rest.l1 m n v18 (i64.wrap (i2 + 1))
  else
   some s2
def ref07_rest (m : T_api_Machine) : Option ByteArray :=
 (ref03_ShowMilli m.Has.Cpu).bind fun r =>
 (V.cat (⟨#[32, 40, 104, 97, 115, 32]⟩ : ByteArray) r).bind fun v =>
 (V.cat v (⟨#[32]⟩ : ByteArray)).bind fun v2 =>
 (ref03_Show m.Has.Mem).bind fun r2 =>
 (V.cat v2 r2).bind fun v3 =>
 (V.cat v3 (⟨#[32]⟩ : ByteArray)).bind fun v4 =>
 (ref03_Show m.Has.Disk).bind fun r3 =>
 (V.cat v4 r3).bind fun v5 =>
 (V.cat v5 (⟨#[32]⟩ : ByteArray)).bind fun v6 =>
 (ref01_Digits FU m.Has.Pods).bind fun r4 =>
 (V.cat v6 r4).bind fun v7 =>
 (V.cat v7 (⟨#[32]⟩ : ByteArray)).bind fun v8 =>
 (ref01_Digits FU m.Has.Dev).bind fun r5 =>
 (V.cat v8 r5).bind fun v9 =>
 (V.cat v9 (⟨#[41]⟩ : ByteArray)).bind fun v10 =>
 (ref07_pairs (⟨#[108, 97, 98, 101, 108]⟩ : ByteArray) m.Labels).bind fun r6 =>
 (V.cat v10 r6).bind fun v11 =>
 (ref07_rest.l1 m FU v11 (0 : Int)).bind fun s32 =>
 some s32
theorem K25 (m : T_api_Machine) : VS Tryz.prog 83 (ref07_rest m) [T_api_Machine.vv m] [] .str N0 := by
 refine A8 [.tmp 2] Tryz.func83 R R R fun r hm=>?_
 unfold ref07_rest at hm
 refine Ae<|Ad R R<|Ch R R fun b=>Aa R R (Am R)<|Ac<|Af<|A3 0 mixed<|An tbk [0,1,2,6,7,8,12,13,14,18,19,20,24,25,26,30,31] [0,0,0,0,0,0] (by kernel_rfl) R R R<|Ai 3 (by kernel_rfl)<|Bd hm fun r h2 hm=>Ao R R R<|Aw 0 R fn67 R (K20 m.Has.Cpu r h2) fun _ _ h41=> ?_
 obtain ⟨rfl,rfl⟩:=h41
 refine Bd hm fun v h3 hm=>Au 4 R R R (by kernel_rfl) (Bl R R h3)<|Bd hm fun v2 h4 hm=>Au 5 R R R (by kernel_rfl) (Bl R R h4)<|Ai 9 (by kernel_rfl)<|Bd hm fun r2 h5 hm=>Ao R R R<|Aw 0 R fn68 R (K21 m.Has.Mem r2 h5) fun _ _ h40=> ?_
 obtain ⟨rfl,rfl⟩:=h40
 refine Bd hm fun v3 h6 hm=>Au 10 R R R (by kernel_rfl) (Bl R R h6)<|Bd hm fun v4 h7 hm=>Au 11 R R R (by kernel_rfl) (Bl R R h7)<|Ai 15 (by kernel_rfl)<|Bd hm fun r3 h8 hm=>Ao R R R<|Aw 0 R fn68 R (K21 m.Has.Disk r3 h8) fun _ _ h39=> ?_
 obtain ⟨rfl,rfl⟩:=h39
 refine Bd hm fun v5 h9 hm=>Au 16 R R R (by kernel_rfl) (Bl R R h9)<|Bd hm fun v6 h10 hm=>Au 17 R R R (by kernel_rfl) (Bl R R h10)<|Ai 21 (by kernel_rfl)<|Bd hm fun r4 h11 hm=>Ao R R R<|Aw 0 R fn69 R (K18 FU m.Has.Pods r4 h11) fun _ _ h38=> ?_
 obtain ⟨rfl,rfl⟩:=h38
 refine Bd hm fun v7 h12 hm=>Au 22 R R R (by kernel_rfl) (Bl R R h12)<|Bd hm fun v8 h13 hm=>Au 23 R R R (by kernel_rfl) (Bl R R h13)<|Ai 27 (by kernel_rfl)<|Bd hm fun r5 h14 hm=>Ao R R R<|Aw 0 R fn69 R (K18 FU m.Has.Dev r5 h14) fun _ _ h37=> ?_
 obtain ⟨rfl,rfl⟩:=h37
 refine Bd hm fun v9 h15 hm=>Au 28 R R R (by kernel_rfl) (Bl R R h15)<|Bd hm fun v10 h16 hm=>Au 29 R R R (by kernel_rfl) (Bl R R h16)<|Ai 32 (by kernel_rfl)<|Bd hm fun r6 h17 hm=>Ao R R R<|Aw 0 R fn70 R (K23 (⟨#[108,97,98,101,108]⟩ : ByteArray) m.Labels r6 h17) fun _ _ h36=> ?_
 obtain ⟨rfl,rfl⟩:=h36
 refine Bd hm fun v11 h18 hm=>Au 33 R R R (by kernel_rfl) (Bl R R h18)<|Au 34 R R R (by kernel_rfl) (Am R)<|Ay (by kernel_rfl)<|Af<|Ag tbk [] R R<|Cx hm (fun s32 (_:Unit)=>[(3,.str s32)]) (fun _ (_:Unit)=>[]) (fun o hm=>?_) fun s32 _ hm=> ?_
 ·refine Ck (fun zn (zs:ByteArray × Int)=>ref07_rest.l1 m zn zs.1 zs.2) (fun zs (_:Unit)=>[(1,.ptr b 0),(3,.str zs.1),(4,Iw zs.2)]) (fun _ (_:Unit)=>[X41 b m]) (v11,(0 : Int)) () (fun _=>R) hm (Ah [0] R R) fun n=>Pq fun s2 i2 _ hm=> ?_
  rw [ref07_rest.l1] at hm
  refine Af<|Ae<|Ab tbk [0] 3 R R<|Aa R R (Bg T_api_Taint.vv R Cd)<|Aa R R (Bh R R R)<|Ac<|Av hm R (fun h21 hm=>?_) fun h21 hm=> ?_
  ·refine Aj<|Af<|A4<|Ae<|Ab tbk [0] 3 R R<|Bd hm fun x h22 hm=>Aa R R (A2 T_api_Taint.vv R R el39 h22)<|Aa R R (Bn R ld143 R)<|Ad R R<|A9 z143 fun b2=>Ad R R<|Al (i:=0) R R R ld143 R R R<|Ac<|A3 0 mixed<|Au 0 R R R (by kernel_rfl) (Ak R)<|Bd hm fun v12 h24 hm=>Au 1 R R R (by kernel_rfl) (Bl R R h24)<|An tbk [2,3] [0] (by kernel_rfl) R R R<|Bd hm fun v13 h25 hm=>Au 4 R R R (by kernel_rfl) (Bl R R h25)<|Bd hm fun v14 h26 hm=>Au 5 R R R (by kernel_rfl) (Bl R R h26)<|An tbk [6,7,12,13] [0,0] (by kernel_rfl) R R R<|Ai 8 (by kernel_rfl)<|Bd hm fun r7 h27 hm=>Ao R R R<|Aw 0 R fn72 R (K22 x.Val r7 h27) fun _ _ h35=> ?_
   obtain ⟨rfl,rfl⟩:=h35
   refine Bd hm fun v15 h28 hm=>Au 9 R R R (by kernel_rfl) (Bl R R h28)<|Bd hm fun v16 h29 hm=>Au 10 R R R (by kernel_rfl) (Bl R R h29)<|Ai 11 (by kernel_rfl)<|Bd hm fun r8 h30 hm=>Ao R R R<|Aw 0 R fn73 R (K24 r8 h30) fun _ _ h34=> ?_
   obtain ⟨rfl,rfl⟩:=h34
   exact Bd hm fun x2 h31 hm=>Au 14 R R R (by kernel_rfl) (A2 VV.str R R el65 h31)<|Au 15 R R R (by kernel_rfl) (Bn R ld9 R)<|Bd hm fun v17 h32 hm=>Au 16 R R R (by kernel_rfl) (Bl R R h32)<|Bd hm fun v18 h33 hm=>Au 17 R R R (by kernel_rfl) (Bl R R h33)<|Au 18 R R R (by kernel_rfl) (Am R)<|Ay (by kernel_rfl)<|Bf tbk [] R R<|Ap (v18,(IntKind.i64.wrap (i2 + (1 : Int)))) () hm (Ah [1] R R)
  exact Be<|As () hm (Ah [] R R)
 exact Ag tbk [] R R<|Rt1 hm R [] R R R

/-! trireme/triremeref07.ShowGroup -/
def ref07_ShowGroup (g : T_api_Group) : Option ByteArray :=
 (ref07_RightGroup g).bind fun r =>
 if (!r) = true then
  some (⟨#[]⟩ : ByteArray)
 else
  (V.cat (⟨#[40, 103, 114, 111, 117, 112, 32]⟩ : ByteArray) g.Name).bind fun v =>
  (V.cat v (⟨#[32, 40, 115, 105, 122, 101, 32]⟩ : ByteArray)).bind fun v2 =>
  (ref01_Digits FU g.Min).bind fun r2 =>
  (V.cat v2 r2).bind fun v3 =>
  (V.cat v3 (⟨#[32]⟩ : ByteArray)).bind fun v4 =>
  (ref01_Digits FU g.Max).bind fun r3 =>
  (V.cat v4 r3).bind fun v5 =>
  (V.cat v5 (⟨#[41]⟩ : ByteArray)).bind fun v6 =>
  (ref07_number (⟨#[112, 114, 105, 99, 101]⟩ : ByteArray) g.Price).bind fun r4 =>
  (V.cat v6 r4).bind fun v7 =>
  (ref07_number (⟨#[114, 97, 110, 107]⟩ : ByteArray) g.Rank).bind fun r5 =>
  (V.cat v7 r5).bind fun v8 =>
  (ref07_rest g.Like).bind fun r6 =>
  (V.cat v8 r6).bind fun v9 =>
  (V.cat v9 (⟨#[41]⟩ : ByteArray)).bind fun v10 =>
  some v10
theorem K26 (g : T_api_Group) : VS Tryz.prog 28 (ref07_ShowGroup g) [T_api_Group.vv g] [] .str N0 := by
 refine A8 [.tmp 2] Tryz.func28 R R R fun r hm=>?_
 unfold ref07_ShowGroup at hm
 refine Ae<|Ad R R<|Ch R R fun b=>Aa R R (Am R)<|Ac<|Af<|Ae<|Ab tbk [0] 1 R R<|Ad R R<|A1 hm 0 R fn27 R (K17 _) fun r hm=>Aa R R (Cw R)<|Ac<|Av hm R (fun h3 hm=>Ag tbk [] R R<|Rt1 hm R [] R R R) fun h3 hm=>Aj<|Af<|A3 0 mixed<|An tbk [0,1] [0] (by kernel_rfl) R R R<|Bd hm fun v h4 hm=>Au 2 R R R (by kernel_rfl) (Bl R R h4)<|Bd hm fun v2 h5 hm=>Au 3 R R R (by kernel_rfl) (Bl R R h5)<|An tbk [4,5,9,10,14,15,18,19,22,23] [0,0,0,0,0] (by kernel_rfl) R R R<|Ai 6 (by kernel_rfl)<|Bd hm fun r2 h6 hm=>Ao R R R<|Aw 0 R fn69 R (K18 FU g.Min r2 h6) fun _ _ h23=> ?_
 obtain ⟨rfl,rfl⟩:=h23
 refine Bd hm fun v3 h7 hm=>Au 7 R R R (by kernel_rfl) (Bl R R h7)<|Bd hm fun v4 h8 hm=>Au 8 R R R (by kernel_rfl) (Bl R R h8)<|Ai 11 (by kernel_rfl)<|Bd hm fun r3 h9 hm=>Ao R R R<|Aw 0 R fn69 R (K18 FU g.Max r3 h9) fun _ _ h22=> ?_
 obtain ⟨rfl,rfl⟩:=h22
 refine Bd hm fun v5 h10 hm=>Au 12 R R R (by kernel_rfl) (Bl R R h10)<|Bd hm fun v6 h11 hm=>Au 13 R R R (by kernel_rfl) (Bl R R h11)<|Ai 16 (by kernel_rfl)<|Bd hm fun r4 h12 hm=>Ao R R R<|Aw 0 R fn74 R (K19 (⟨#[112,114,105,99,101]⟩ : ByteArray) g.Price r4 h12) fun _ _ h21=> ?_
 obtain ⟨rfl,rfl⟩:=h21
 refine Bd hm fun v7 h13 hm=>Au 17 R R R (by kernel_rfl) (Bl R R h13)<|Ai 20 (by kernel_rfl)<|Bd hm fun r5 h14 hm=>Ao R R R<|Aw 0 R fn74 R (K19 (⟨#[114,97,110,107]⟩ : ByteArray) g.Rank r5 h14) fun _ _ h20=> ?_
 obtain ⟨rfl,rfl⟩:=h20
 refine Bd hm fun v8 h15 hm=>Au 21 R R R (by kernel_rfl) (Bl R R h15)<|Ai 24 (by kernel_rfl)<|Bd hm fun r6 h16 hm=>Ao R R R<|Aw 0 R fn83 R (K25 g.Like r6 h16) fun _ _ h19=> ?_
 obtain ⟨rfl,rfl⟩:=h19
 exact Bd hm fun v9 h17 hm=>Au 25 R R R (by kernel_rfl) (Bl R R h17)<|Bd hm fun v10 h18 hm=>Au 26 R R R (by kernel_rfl) (Bl R R h18)<|Au 27 R R R (by kernel_rfl) (Am R)<|Ay (by kernel_rfl)<|Rt1 hm R [] R R R

/-! trireme/triremeref05.Same -/
def ref05_Same.l1 (a : List T_api_Label) (b : List T_api_Label) : Nat → Int → Option (Out Bool Unit)
 | 0, _ => none
 | n + 1, i2 =>
  if (decide (i2 < (a.length : Int))) = true then
   (V.gl a i2).bind fun x =>
   (V.gl b i2).bind fun x2 =>
   if (!(((x.Key == x2.Key) && ((x.Val == x2.Val) && true)) == true)) = true then
    some (Out.ret false)
   else
    ref05_Same.l1 a b n (i64.wrap (i2 + 1))
  else
   some (Out.go ())
def ref05_Same (a : List T_api_Label) (b : List T_api_Label) : Option Bool :=
 if ((a.length : Int) != (b.length : Int)) = true then
  some false
 else
  (ref05_Same.l1 a b FU (0 : Int)).bind fun o =>
  o.on fun j =>
  some true
theorem K27 (a : List T_api_Label) (b : List T_api_Label) : VS Tryz.prog 87 (ref05_Same a b) [L141 a, L141 b] [] .bool N0 := by
 refine A8 [.tmp 4] Tryz.func87 R R R fun r hm=>?_
 unfold ref05_Same at hm
 refine Ag tbk [] R R<|Af<|Ae<|Aa R R (Ak R)<|Aa R R (Bg T_api_Label.vv R B8)<|Aa R R (Ak R)<|Aa R R (Bg T_api_Label.vv R B8)<|Aa R R (Bh R R R)<|Ac<|Av hm R (fun h1 hm=>Ag tbk [] R R<|Rt1 hm R [] R R R) fun h1 hm=>Aj<|Af<|Ag tbk [] R R<|Ce hm (fun _ (_:Unit)=>[]) (fun _ (_:Unit)=>[]) (fun o hm h3=>?_) fun j _ hm=> ?_
 ·refine Ck (fun zn (zs:Int)=>ref05_Same.l1 a b zn zs) (fun zs (_:Unit)=>[(0,L141 a),(1,L141 b),(5,Iw zs)]) (fun _ (_:Unit)=>[]) _ () (fun _=>R) hm (Ah [] R R) fun n i2 _ hm=> ?_
  rw [ref05_Same.l1] at hm
  exact Af<|Ae<|Ab tbk [] 2 R R<|Aa R R (Bg T_api_Label.vv R B8)<|Aa R R (Bh R R R)<|Ac<|Av hm R (fun h4 hm=>Aj<|Af<|A4<|Af<|A3 0 mixed<|An tbk [0,1] [] (by kernel_rfl) R R R<|Bd hm fun x h5 hm=>Au 2 R R R (by kernel_rfl) (A2 T_api_Label.vv R R el24 h5)<|An tbk [3,4,5] [] (by kernel_rfl) R R R<|Bd hm fun x2 h6 hm=>Au 6 R R R (by kernel_rfl) (A2 T_api_Label.vv R R el24 h6)<|Au 7 R R R (by kernel_rfl) (Bn R ld141 R)<|Au 8 R R R (by kernel_rfl) (Dy shp141 eq141 R R R R)<|Ay (by kernel_rfl)<|Av hm R (fun h7 hm=>Ag tbk [] R R<|have hm:=Lr hm h3;Rt1 hm R [] R R R) fun h7 hm=>Aj<|Bf tbk [] R R<|Ap _ () hm (Ah [] R R)) fun h4 hm=>Be<|Ar () hm (Ah [] R R)
 exact Ag tbk [] R R<|Rt1 hm R [] R R R

/-! trireme/triremeref06.Same -/
def ref06_Same.l1 (a : List T_api_Taint) (b : List T_api_Taint) : Nat → Int → Option (Out Bool Unit)
 | 0, _ => none
 | n + 1, i2 =>
  if (decide (i2 < (a.length : Int))) = true then
   (V.gl a i2).bind fun x =>
   (V.gl b i2).bind fun x2 =>
   if (!(((x.Key == x2.Key) && ((x.Val == x2.Val) && ((x.Effect == x2.Effect) && true))) == true)) = true then
    some (Out.ret false)
   else
    ref06_Same.l1 a b n (i64.wrap (i2 + 1))
  else
   some (Out.go ())
def ref06_Same (a : List T_api_Taint) (b : List T_api_Taint) : Option Bool :=
 if ((a.length : Int) != (b.length : Int)) = true then
  some false
 else
  (ref06_Same.l1 a b FU (0 : Int)).bind fun o =>
  o.on fun j =>
  some true
theorem K28 (a : List T_api_Taint) (b : List T_api_Taint) : VS Tryz.prog 88 (ref06_Same a b) [L143 a, L143 b] [] .bool N0 := by
 refine A8 [.tmp 4] Tryz.func88 R R R fun r hm=>?_
 unfold ref06_Same at hm
 refine Ag tbk [] R R<|Af<|Ae<|Aa R R (Ak R)<|Aa R R (Bg T_api_Taint.vv R Cd)<|Aa R R (Ak R)<|Aa R R (Bg T_api_Taint.vv R Cd)<|Aa R R (Bh R R R)<|Ac<|Av hm R (fun h1 hm=>Ag tbk [] R R<|Rt1 hm R [] R R R) fun h1 hm=>Aj<|Af<|Ag tbk [] R R<|Ce hm (fun _ (_:Unit)=>[]) (fun _ (_:Unit)=>[]) (fun o hm h3=>?_) fun j _ hm=> ?_
 ·refine Ck (fun zn (zs:Int)=>ref06_Same.l1 a b zn zs) (fun zs (_:Unit)=>[(0,L143 a),(1,L143 b),(5,Iw zs)]) (fun _ (_:Unit)=>[]) _ () (fun _=>R) hm (Ah [] R R) fun n i2 _ hm=> ?_
  rw [ref06_Same.l1] at hm
  exact Af<|Ae<|Ab tbk [] 2 R R<|Aa R R (Bg T_api_Taint.vv R Cd)<|Aa R R (Bh R R R)<|Ac<|Av hm R (fun h4 hm=>Aj<|Af<|A4<|Af<|A3 0 mixed<|An tbk [0,1] [] (by kernel_rfl) R R R<|Bd hm fun x h5 hm=>Au 2 R R R (by kernel_rfl) (A2 T_api_Taint.vv R R el39 h5)<|An tbk [3,4,5] [] (by kernel_rfl) R R R<|Bd hm fun x2 h6 hm=>Au 6 R R R (by kernel_rfl) (A2 T_api_Taint.vv R R el39 h6)<|Au 7 R R R (by kernel_rfl) (Bn R ld143 R)<|Au 8 R R R (by kernel_rfl) (Dy shp143 eq143 R R R R)<|Ay (by kernel_rfl)<|Av hm R (fun h7 hm=>Ag tbk [] R R<|have hm:=Lr hm h3;Rt1 hm R [] R R R) fun h7 hm=>Aj<|Bf tbk [] R R<|Ap _ () hm (Ah [] R R)) fun h4 hm=>Be<|Ar () hm (Ah [] R R)
 exact Ag tbk [] R R<|Rt1 hm R [] R R R

/-! trireme/triremeref07.SameMachine -/
def ref07_SameMachine (a : T_api_Machine) (b : T_api_Machine) : Option Bool :=
 (if ((((V.seq a.Name b.Name) && (V.seq a.Group b.Group)) && (((a.Has.Cpu == b.Has.Cpu) && ((a.Has.Mem == b.Has.Mem) && ((a.Has.Disk == b.Has.Disk) && ((a.Has.Pods == b.Has.Pods) && ((a.Has.Dev == b.Has.Dev) && true))))) == true)) && (a.Ready == b.Ready)) = true then (ref05_Same a.Labels b.Labels).bind fun r =>
 some r else some false).bind fun c =>
 (if c = true then (ref06_Same a.Taints b.Taints).bind fun r2 =>
 some r2 else some false).bind fun c2 =>
 some c2
theorem K29 (a : T_api_Machine) (b : T_api_Machine) : VS Tryz.prog 24 (ref07_SameMachine a b) [T_api_Machine.vv a, T_api_Machine.vv b] [] .bool N0 := by
 refine A8 [.tmp 4] Tryz.func24 R R R fun r hm=>?_
 unfold ref07_SameMachine at hm
 exact Ae<|Ad R R<|Ch R R fun b2=>Ad R R<|Ch R R fun b3=>Aa R R (Am R)<|Ac<|Ae<|Ab tbk [1,0] 6 R R<|Bx tbk [1,0] 6 16 10 R R R R R<|Aa R R (Ak R)<|Da 6 23 17 R (fun h4 K' J=>Ab tbk [1,0] 4 R R<|Bt R R R R R (Dy shp23 eq23 R R R R)<|Aa R R (A6 true R R R)<|J 5 R R R) (fun K' J=>Ab tbk [] 6 R R<|J 5 R R R)<|Aa R R (Ak R)<|Da 6 30 24 R (fun h5 K' J=>Ab tbk [1,0] 4 R R<|Bt R R R R R (B6 Bm R R R)<|Aa R R (A6 true R R R)<|J 5 R R R) (fun K' J=>Ab tbk [] 6 R R<|J 5 R R R)<|Aa R R (Ak R)<|Br hm 6 37 31 R (fun _ K' h6 J hm=>Ab tbk [1,0] 4 R R<|Bk R R R R R<|A1 hm 0 R fn87 R (K27 _ _) fun r hm=>Aa R R (A6 true R R R)<|J 5 R R (Bj hm)) (fun _ K' h6 J hm=>Ab tbk [] 6 R R<|J 5 R R (Bj hm)) fun c hm=>Aa R R (Ak R)<|Br hm 6 44 38 R (fun _ K' h9 J hm=>Ab tbk [1,0] 4 R R<|Bk R R R R R<|A1 hm 0 R fn88 R (K28 _ _) fun r2 hm=>Aa R R (A6 true R R R)<|J 5 R R (Bj hm)) (fun _ K' h9 J hm=>Ab tbk [] 6 R R<|J 5 R R (Bj hm)) fun c2 hm=>Aa R R (Am R)<|Ac<|Rt1 hm R [] R R R

/-! trireme/triremeref07.SameGroup -/
def ref07_SameGroup (a : T_api_Group) (b : T_api_Group) : Option Bool :=
 (if (((((V.seq a.Name b.Name) && (a.Min == b.Min)) && (a.Max == b.Max)) && (a.Price == b.Price)) && (a.Rank == b.Rank)) = true then (ref07_SameMachine a.Like b.Like).bind fun r =>
 some r else some false).bind fun c =>
 some c
theorem K30 (a : T_api_Group) (b : T_api_Group) : VS Tryz.prog 30 (ref07_SameGroup a b) [T_api_Group.vv a, T_api_Group.vv b] [] .bool N0 := by
 refine A8 [.tmp 4] Tryz.func30 R R R fun r hm=>?_
 unfold ref07_SameGroup at hm
 exact Ae<|Ad R R<|Ch R R fun b2=>Ad R R<|Ch R R fun b3=>Aa R R (Am R)<|Ac<|Ae<|Ab tbk [1,0] 6 R R<|Bx tbk [1,0] 6 16 10 R R R R R<|Aa R R (Ak R)<|Bx tbk [1,0] 6 23 17 R R R R R<|Aa R R (Ak R)<|Bx tbk [1,0] 6 30 24 R R R R R<|Aa R R (Ak R)<|Bx tbk [1,0] 6 37 31 R R R R R<|Aa R R (Ak R)<|Br hm 6 44 38 R (fun _ K' h7 J hm=>Ab tbk [1,0] 4 R R<|Bk R R R R R<|A1 hm 0 R fn24 R (K29 _ _) fun r hm=>Aa R R (A6 true R R R)<|J 5 R R (Bj hm)) (fun _ K' h7 J hm=>Ab tbk [] 6 R R<|J 5 R R (Bj hm)) fun c hm=>Aa R R (Am R)<|Ac<|Rt1 hm R [] R R R

/-! trireme/triremelaw07.SpecGroups -/
def law07_SpecGroups (g : T_api_Group) : Option Bool :=
 (ref07_LightMachine g.Like).bind fun r =>
 if ((!r) || (decide ((g.Name.size : Int) > 300))) = true then
  (law07_known).bind fun r2 =>
  some r2
 else
  (spec_ShowGroup g).bind fun r3 =>
  (spec_RightGroup g).bind fun r4 =>
  (ref07_RightGroup g).bind fun r5 =>
  (if (!(r4 == r5)) = true then some true else (ref07_ShowGroup g).bind fun r6 =>
  some (!(V.seq r3 r6))).bind fun c =>
  if c = true then
   some false
  else
   (ref07_RightGroup g).bind fun r7 =>
   if (!r7) = true then
    (if (V.seq r3 (⟨#[]⟩ : ByteArray)) = true then (law07_known).bind fun r8 =>
    some r8 else some false).bind fun c2 =>
    some c2
   else
    (law07_parsed r3).bind fun r9 =>
    (spec_Group r9 (0 : Int)).bind fun r10 =>
    (if (r10.2.1 == 0) = true then (ref07_SameGroup g r10.1).bind fun r11 =>
    some r11 else some false).bind fun c3 =>
    (if c3 = true then (law07_known).bind fun r12 =>
    some r12 else some false).bind fun c4 =>
    some c4
theorem law07_SpecGroups_ok (g : T_api_Group) : VS Tryz.prog 5 (law07_SpecGroups g) [T_api_Group.vv g] [] .bool N0 := by
 refine A8 [.tmp 2] Tryz.func5 R R R fun r hm=>?_
 unfold law07_SpecGroups at hm
 refine Ae<|Ad R R<|Ch R R fun b=>Aa R R (Am R)<|Ac<|Af<|Ae<|Ab tbk [0] 2 R R<|Ad R R<|A1 hm 0 R fn18 R (K33 _) fun r hm=>Ab tbk [] 2 R R<|C5 5 16 11 R (fun K' J=>Ab tbk [] 5 R R<|J 4 R R R) (fun h3 K' J=>Ab tbk [0] 2 R R<|Bt R R R R R (B1 R Aq)<|Ab tbk [] 2 R R<|J 4 R R R)<|Ac<|Av hm R (fun h4 hm=>Ae<|Ad R R<|A1 hm 0 R fn10 R (K4) fun r2 hm=>Aa R R (Am R)<|Ac<|Rt1 hm R [] R R R) fun h4 hm=>Aj<|Ae<|Ab tbk [0] 1 R R<|Ad R R<|A1 hm 0 R fn25 R (K2 _) fun r3 hm=>Aa R R (Am R)<|Ac<|Af<|Af<|A3 0 mixed<|An tbk [0,2] [0,0] (by kernel_rfl) R R R<|Ai 1 (by kernel_rfl)<|Bd hm fun r4 h7 hm=>Ao R R R<|Aw 0 R fn26 R (K141 g r4 h7) fun _ _ h29=> ?_
 obtain ⟨rfl,rfl⟩:=h29
 refine Ai 3 (by kernel_rfl)<|Bd hm fun r5 h8 hm=>Ao R R R<|Aw 0 R fn27 R (K17 g r5 h8) fun _ _ h28=> ?_
 obtain ⟨rfl,rfl⟩:=h28
 exact Au 4 R R R (by kernel_rfl) (B6 Bm R R R)<|Au 5 R R R (by kernel_rfl) (Ak R)<|Cj hm [10,9,8,7,6,5,4,3,1,2,0] 30 25 R (fun _ K' h9 J hm=>An tbk [6,7,8,9,10] [] (by kernel_rfl) R R R<|J 4 R R (Bj hm)) (fun _ K' h9 J hm=>An tbk [6,7] [0] (by kernel_rfl) R R R<|Ai 8 (by kernel_rfl)<|VB.oG R R R R R R<|A1 hm 0 R fn28 R (K26 _) fun r6 hm=>An tbk [9,10] [] (by kernel_rfl) R R R<|J 4 R R (Bj hm)) fun c hm=>Ay (by kernel_rfl)<|Av hm R (fun h12 hm=>Ag tbk [] R R<|Rt1 hm R [] R R R) fun h12 hm=>Aj<|Af<|Ae<|Ab tbk [0] 1 R R<|Ad R R<|A1 hm 0 R fn27 R (K17 _) fun r7 hm=>Aa R R (Cw R)<|Ac<|Av hm R (fun h14 hm=>Ae<|Ab tbk [] 3 R R<|Br hm 2 38 36 R (fun _ K' h15 J hm=>Bk R R R R R<|A1 hm 0 R fn10 R (K4) fun r8 hm=>Aa R R (A6 true R R R)<|J 1 R R (Bj hm)) (fun _ K' h15 J hm=>Ab tbk [] 2 R R<|J 1 R R (Bj hm)) fun c2 hm=>Aa R R (Am R)<|Ac<|Rt1 hm R [] R R R) fun h14 hm=>Aj<|Ae<|Aa R R (Ak R)<|Ad R R<|Db hm 0 R fn16 R (K45 _) fun r9 ob cap hm=>A0 (Az 0 [(41,L100 r9)] R ⟨⟨_,R,.here _ R⟩,trivial⟩ (FzH.refl _))<|Ad R R<|A1 hm 0 R fn29 R (K142 _ _) fun r10 hm=>Ab tbk [] 4 R R<|Ad R R<|A9 z48 fun b2=>Ad R R<|Al (i:=0) R R R ld48 R R R<|Ab tbk [] 2 R R<|Ac<|Ae<|Ab tbk [] 3 R R<|Br hm 4 52 48 R (fun _ K' h22 J hm=>Ab tbk [1,0] 2 R R<|Bk R R R R R<|A1 hm 0 R fn30 R (K30 _ _) fun r11 hm=>Aa R R (A6 true R R R)<|J 3 R R (Bj hm)) (fun _ K' h22 J hm=>Ab tbk [] 4 R R<|J 3 R R (Bj hm)) fun c3 hm=>Aa R R (Ak R)<|Br hm 2 55 53 R (fun _ K' h25 J hm=>Bk R R R R R<|A1 hm 0 R fn10 R (K4) fun r12 hm=>Aa R R (A6 true R R R)<|J 1 R R (Bj hm)) (fun _ K' h25 J hm=>Ab tbk [] 2 R R<|J 1 R R (Bj hm)) fun c4 hm=>Aa R R (Am R)<|Ac<|Rt1 hm R [] R R R

end Go.Proofs.YtkondhigbbgidaaGreat.M

/-
  Printed by a program of this session out of the loaded functions: models and their proofs. Own text.
-/
import Derived.Test.YtmpkpnclmihdnaaGreatRNF0
namespace Go.Proofs.YtmpkpnclmihdnaaGreat.M
open Go Go.Proofs Go.Proofs.YtmpkpnclmihdnaaGreat.V
open Go.IntKind (i64)
set_option linter.unusedVariables false
set_option maxRecDepth 20000
set_option maxHeartbeats 4000000
/-! trireme/fit.Put -/
def fit_Put.l1 (p : T_api_Pod) : List T_api_Bound → Nat → (List T_api_Bound) → Option (List T_api_Bound)
 | [], k, l2 => some l2
 | x :: l4, k, l2 =>
  if (!(V.seq x.Pod.Name p.Name)) = true then
   (V.ap 288 l2 [x]).bind fun l5 =>
   fit_Put.l1 p l4 (k + 1) l5
  else
   fit_Put.l1 p l4 (k + 1) l2
def fit_Put (bs : List T_api_Bound) (p : T_api_Pod) (on_ : ByteArray) : Option (List T_api_Bound) :=
 (fit_Put.l1 p bs 0 ([] : List T_api_Bound)).bind fun l32 =>
 (V.ap 288 l32 [(⟨p, on_⟩ : T_api_Bound)]).bind fun l6 =>
 some l6
theorem K78 (bs : List T_api_Bound) (p : T_api_Pod) (on_ : ByteArray) : VS2 Tryz.prog 87 (fit_Put bs p on_) [L49 bs, T_api_Pod.vv p, .str on_] [] (fun r ob0 cap0=>Z49 ob0 r cap0) (fun r ob0 cap0=>[Q49 ob0 cap0 r]) := by
 refine Cf [.tmp 6] Tryz.func87 R R R fun r hm=>?_
 unfold fit_Put at hm
 refine Ai<|Ad R R<|Bg R R fun b=>Ab R R (Ak R)<|Ac<|Ae tbk [] R R<|Af<|Ai<|Ab R R (Aj R)<|Ab R R (Aw T_api_Bound.vv R Bq)<|Ab R R (Aj R)<|Ac<|Cj 10 R fun h6=>Cn hm (fun l32 (gg:Option Nat × Nat)=>[(2,.str on_),(4,.ptr b 0),(7,Z49 gg.1 l32 gg.2)]) (fun l32 (gg:Option Nat × Nat)=>[Q49 gg.1 gg.2 l32,X47 b p]) (fun o hm=>?_) fun l32=>Pq fun ob3 cap3 hm=> ?_
 ·refine Cx (bs) (fun zl zk (zs:List T_api_Bound)=>fit_Put.l1 p zl zk zs) (fun k zs (zg:Option Nat × Nat)=>[(2,.str on_),(4,.ptr b 0),(7,Z49 zg.1 zs zg.2),(10,L49 bs),(11,Iw (bs.length : Int)),(12,Iw (k : Int))]) (fun _ zs (zg:Option Nat × Nat)=>[Q49 zg.1 zg.2 zs,X47 b p]) _ (none,0) hm (Ct (Bx 49) (Ag [0,0] R R)) (fun k l2=>Pq fun ob2 cap2 hk hm=>?_) fun k x l4 l2=>Pq fun ob2 cap2 h7 hm=> ?_
  ·rw [fit_Put.l1] at hm
   exact Ae tbk [] R R<|Af<|Ca R (k_end hk)<|A7<|As (ob2,cap2) hm (Ag [0,0] R R)
  rw [fit_Put.l1] at hm
  exact Ae tbk [] R R<|Af<|B7 R (k_lt h7)<|Am<|Af<|A2<|Ai<|Ab R R (Cp T_api_Bound.vv R R el23 h7)<|Ab R R (Bt R ld49 R)<|Ad R R<|A3 z49 fun b2=>Ad R R<|An (i:=0) R R R ld49 R R R<|Ac<|Ae tbk [0,2] R R<|Ao hm R (fun h9 hm=>Bn<|Aa tbk [0] 2 R R<|Ad R R<|A5 ap23 R R R R R fun b3=>Bd hm fun l5 h11 hm=>Ad R R<|Ch 2 T_api_Bound.vv (l:=l2) (l2:=[x]) ap23 R R (sT_row 0 T_api_Bound.vv el23 R R) h11 fun ob4 cap4=>Ab R R (Ak R)<|Ac<|Bc tbk [] R R<|Ap _ (ob4,cap4) hm (B0 [2,2] R ⟨R,R,R,R,R,congrArg some (k_next h7 h6),trivial⟩)) fun h9 hm=>Am<|Bc tbk [] R R<|Ap _ (ob2,cap2) hm (B0 [1,1] R ⟨R,R,R,R,R,congrArg some (k_next h7 h6),trivial⟩)
 exact Ai<|Aa tbk [1] 3 R R<|Ab R R (B4 pl49 R R)<|Ad R R<|A5 ap23 R R R R R fun b4=>Bd hm fun l6 h14 hm=>Ad R R<|Ch 1 T_api_Bound.vv (l:=l32) (l2:=[(⟨p,on_⟩ : T_api_Bound)]) ap23 R R (sT_row 0 T_api_Bound.vv el23 R R) h14 fun ob5 cap5=>Ab R R (Ak R)<|Ac<|Rg2 hm R [1] ob5 cap5 (.cons (.tmp _ _ R) .nil) R R

/-! (*trireme/snap.Snap).Put$1 -/
def snap_Snap_Put_1 (x : T_snap_state) (a : T_api_Pod) (a2 : ByteArray) : Option (Int × T_snap_state) :=
 (spec_RightPod a).bind fun r =>
 if (!r) = true then
  some (12, x)
 else
  (if (!(V.seq a2 (⟨#[]⟩ : ByteArray))) = true then (yard_Find x.ms a2).bind fun r2 =>
  some (decide (r2 < 0)) else some false).bind fun c =>
  if c = true then
   some (16, x)
  else
   (if (decide ((x.bs.length : Int) ≥ 400)) = true then (yard_Place x.bs a.Name).bind fun r3 =>
   some (decide (r3 < 0)) else some false).bind fun c2 =>
   if c2 = true then
    some (7, x)
   else
    (snap_pod a).bind fun r4 =>
    (fit_Put x.bs r4 a2).bind fun r5 =>
    some (0, (⟨x.ms, r5⟩ : T_snap_state))
theorem K79 (x : T_snap_state) (a : T_api_Pod) (a2 : ByteArray) (b : Nat) (b2 : Nat) (b3 : Nat) : VS Tryz.prog 86 (snap_Snap_Put_1 x a a2) [.ptr b 0, .ptr b2 0, .ptr b3 0] [X119 b x, X47 b2 a, .box b3 9 [.str a2]] (fun r=>Iw r.1) (fun r=>[X119 b r.2, X47 b2 a, .box b3 9 [.str a2]]) := by
 refine A4 [.tmp 4] Tryz.func86 R R R fun r hm=>?_
 unfold snap_Snap_Put_1 at hm
 refine Ae tbk [] R R<|Af<|A2<|Ai<|Aa tbk [1] 1 R R<|Ad R R<|Av hm 0 R fn78 R (K35 _) fun r hm=>Aa tbk [] 2 R R<|Ac<|Ao hm R (fun h2 hm=>Ae tbk [] R R<|Rt1 hm R [0,0,0] R R R) fun h2 hm=>Af<|Be 0 mixed<|Aq tbk [0,1,2] [2] (by kernel_rfl) R R R<|Cw hm [10,9,8,7,6,5,4,3,2,1,0] 20 12 R (fun _ K' h3 J hm=>Aq tbk [3,4,5,6,7] [0,2] (by kernel_rfl) R R R<|Ah 8 (by kernel_rfl)<|Bo R R R R R R<|Av hm 0 R fn47 R (K70 _ _) fun r2 hm=>Aq tbk [9,10] [] (by kernel_rfl) R R R<|J 7 R R (Bj hm)) (fun _ K' h3 J hm=>Aq tbk [3,4,5,6,7,8,9,10] [] (by kernel_rfl) R R R<|J 7 R R (Bj hm)) fun c hm=>Ax 11 R R R (by kernel_rfl) (Ak R)<|A0 (by kernel_rfl)<|Ao hm R (fun h6 hm=>Ae tbk [] R R<|Rt1 hm R [0,0,0] R R R) fun h6 hm=>Af<|Be 0 mixed<|Aq tbk [0,1,2,3] [0] (by kernel_rfl) R R R<|Ax 4 R R R (by kernel_rfl) (Aw T_api_Bound.vv R Bq)<|Aq tbk [5,6] [] (by kernel_rfl) R R R<|Cw hm [15,14,13,12,11,10,9,8,7,6,5,4,3,2,1,0] 37 28 R (fun _ K' h7 J hm=>Aq tbk [7,8,9,10,11,12] [0,1] (by kernel_rfl) R R R<|Ah 13 (by kernel_rfl)<|Bo R R R R R R<|Av hm 0 R fn54 R (K77 _ _) fun r3 hm=>Aq tbk [14,15] [] (by kernel_rfl) R R R<|J 8 R R (Bj hm)) (fun _ K' h7 J hm=>Aq tbk [7,8,9,10,11,12,13,14,15] [] (by kernel_rfl) R R R<|J 8 R R (Bj hm)) fun c2 hm=>Ax 16 R R R (by kernel_rfl) (Ak R)<|A0 (by kernel_rfl)<|Ao hm R (fun h10 hm=>Ae tbk [] R R<|Rt1 hm R [0,0,0] R R R) fun h10 hm=>Am<|Af<|Be 1 mixed<|Aq tbk [0,1,2,3,5,7] [0,1] (by kernel_rfl) R R R<|?_
 refine Bm [4,6] (by kernel_rfl) ⟨?_,?_,trivial⟩
 ·refine Al R R R<|A8 (Az (i:=0) R R ld23 R)<|Ah 6 (by kernel_rfl)<|Bd hm fun r4 h11 hm=>Al R R R<|Au 0 R fn88 R (K45 a r4 h11) fun _ _ h15=> ?_
  obtain ⟨rfl,rfl⟩:=h15
  refine Ah 8 (by kernel_rfl)<|Bd hm fun r5 h12 hm=>Al R R R<|Au 0 R fn87 R (K78 x.bs r4 a2 r5 h12) fun _ _ h14=> ?_
  obtain ⟨ob,cap,rfl,rfl⟩:=h14
  exact Ck (A6 0 [(46,L49 r5)] R ⟨⟨_,R,.here _ R⟩,trivial⟩ (FzH.refl _))<|Aq tbk [9,10] [] (by kernel_rfl) R R R<|Ah 11 (by kernel_rfl)<|Al R R R<|An (i:=0) R R R ld23 R R R<|A0 (by kernel_rfl)<|Ae tbk [] R R<|Rt1 hm R [0,0,0] R R R
 ·refine Bd hm fun r6 h16 hm=>Al R R R<|Au 0 R fn88 R (K45 a r6 h16) fun _ _ h20=> ?_
  obtain ⟨rfl,rfl⟩:=h20
  refine Ah 4 (by kernel_rfl)<|Al R R R<|A8 (Az (i:=0) R R ld23 R)<|Ah 8 (by kernel_rfl)<|Bd hm fun r7 h17 hm=>Al R R R<|Au 0 R fn87 R (K78 x.bs r6 a2 r7 h17) fun _ _ h19=> ?_
  obtain ⟨ob2,cap2,rfl,rfl⟩:=h19
  exact Ck (A6 0 [(46,L49 r7)] R ⟨⟨_,R,.here _ R⟩,trivial⟩ (FzH.refl _))<|Aq tbk [9,10] [] (by kernel_rfl) R R R<|Ah 11 (by kernel_rfl)<|Al R R R<|An (i:=0) R R R ld23 R R R<|A0 (by kernel_rfl)<|Ae tbk [] R R<|Rt1 hm R [0,0,0] R R R

/-! (*trireme/snap.Snap).change -/
def snap_Snap_change_snap_Snap_Put_1_x (s : T_snap_Snap) (c : T_api_Pod) (c2 : ByteArray) : Option (Int × T_snap_Snap) :=
 (snap_Snap_there_x s).bind fun r =>
 if (!r) = true then
  some (23, s)
 else
  (s.now).bind fun x =>
  (snap_Snap_Put_1 x c c2).bind fun r2 =>
  (snap_Snap_change_1 s r2.1 r2.2).bind fun r3 =>
  some (r2.1, r3)
theorem K80 (s : T_snap_Snap) (c : T_api_Pod) (c2 : ByteArray) (b : Nat) (ob : Option Nat) (cap : Nat) (b2 : Nat) (b3 : Nat) : VS2 Tryz.prog 80 (snap_Snap_change_snap_Snap_Put_1_x s c c2) [.ptr b 0, .clo (.func 86) [] [.ptr b2 0, .ptr b3 0]] [.box b 96 [T_snap_state.pf s.now, Z93 ob s.kept cap, Iw s.tried], Q93 ob cap s.kept, X47 b2 c, .box b3 9 [.str c2]] (fun r ob0_1 cap0_1=>Iw r.1) (fun r ob0_1 cap0_1=>[.box b 96 [T_snap_state.pf r.2.now, Z93 ob0_1 r.2.kept cap0_1, Iw r.2.tried], Q93 ob0_1 cap0_1 r.2.kept, X47 b2 c, .box b3 9 [.str c2]]) := by
 refine Dz [.cell 4 50] C8 R R R fun r hm=>?_
 unfold snap_Snap_change_snap_Snap_Put_1_x at hm
 refine VD.seq<|VD.of<|Bn<|Ad R R<|Bg R R fun b4=>Ad R R<|A3 z50 fun b5=>Ac<|VD.seq<|VD.seq<|VD.of<|Bn<|Aa tbk [1] 1 R R<|Bl (Bi [2,2,0,0,0,0] R)<|Ad R R<|Av hm 2 R fn77 R (K66 _ _ _ _) fun r hm=>Ab R R (B6 R)<|Ac<|VD.if_ hm R (fun h4 hm=>VD.seq<|VD.of<|Bn<|Ad R R<|An (i:=2) R R R ld50 R R R<|Ac<|VD.of<|Rg2 hm R [0,0,2,2] ob cap (.cons (.cell _ _ _ _ 2 _ _ _ _ R R ld50 R) .nil) R R) fun h4 hm=>VD.of<|Am<|VD.seq<|VD.of<|Bn<|Aa tbk [3] 3 R R<|Bd hm fun x h5 hm=>Ab R R (Dn (Az (i:=0) R R ld93 R) (congrArg T_snap_state.pf h5))<|Aa tbk [] 2 R R<|Ad R R<|A3 z119 fun b6=>Ad R R<|An (i:=0) R R R ld119 R R R<|Ac<|VD.seq<|VD.df R R (Cd R R) R<|VD.seq<|VD.of<|Bn<|Ab R R (Aj R)<|Bl (Bi [0,4,4,0,0,0,0] R)<|Ad R R<|Av hm 3 R fn86 R (K79 _ _ _ _ _ _) fun r2 hm=>Ad R R<|An (i:=5) R R R ld50 R R R<|Ac<|VD.of<|C5<|FinD.c2 (.inl R) hm (Bi [6,3,3,3,0,0,0] R) 5 R (K72 _ _ _ _ _ _ _ _ _) fun r3 ob2 cap2 hm=> ?_
 obtain rfl:=Option.some.inj hm
 exact ⟨.inr R,_,.cons (.cell _ _ _ _ 3 _ _ _ _ R R ld50 R) .nil,[1,1,2,2],_,R,ob2,cap2,R,R⟩

/-! (*trireme/snap.Snap).Put -/
def snap_Snap_Put_x (s : T_snap_Snap) (p : T_api_Pod) (on_ : ByteArray) : Option (Int × T_snap_Snap) :=
 (snap_Snap_change_snap_Snap_Put_1_x s p on_).bind fun r =>
 some (r.1, r.2)
theorem K81 (s : T_snap_Snap) (p : T_api_Pod) (on_ : ByteArray) (b : Nat) (ob : Option Nat) (cap : Nat) : VS2 Tryz.prog 41 (snap_Snap_Put_x s p on_) [.ptr b 0, T_api_Pod.vv p, .str on_] [.box b 96 [T_snap_state.pf s.now, Z93 ob s.kept cap, Iw s.tried], Q93 ob cap s.kept] (fun r ob0_1 cap0_1=>Iw r.1) (fun r ob0_1 cap0_1=>[.box b 96 [T_snap_state.pf r.2.now, Z93 ob0_1 r.2.kept cap0_1, Iw r.2.tried], Q93 ob0_1 cap0_1 r.2.kept]) := by
 refine Cf [.tmp 6] Tryz.func41 R R R fun r hm=>?_
 unfold snap_Snap_Put_x at hm
 exact Ai<|Ad R R<|Bg R R fun b2=>Ad R R<|Bg R R fun b3=>Ab R R (Ak R)<|Ac<|Ai<|Ab R R (Aj R)<|Ab R R (Cd R R)<|Bl (Bi [2,2,1,0] R)<|Ad R R<|B3 hm 4 R fn80 R (K80 _ _ _ _ _ _ _ _) fun r ob2 cap2 hm=>Ab R R (Ak R)<|Ac<|Rg2 hm R [0,0] ob2 cap2 (.cons (.tmp _ _ R) .nil) R R

/-! trireme/yard.On -/
def yard_On.l1 (name : ByteArray) : List T_api_Bound → Nat → (List T_api_Pod) → Option (List T_api_Pod)
 | [], k, l2 => some l2
 | x :: l4, k, l2 =>
  if (V.seq x.On name) = true then
   (V.ap 272 l2 [x.Pod]).bind fun l5 =>
   yard_On.l1 name l4 (k + 1) l5
  else
   yard_On.l1 name l4 (k + 1) l2
def yard_On (bs : List T_api_Bound) (name : ByteArray) : Option (List T_api_Pod) :=
 (yard_On.l1 name bs 0 ([] : List T_api_Pod)).bind fun l32 =>
 some l32
theorem K82 (bs : List T_api_Bound) (name : ByteArray) : VS2 Tryz.prog 85 (yard_On bs name) [L49 bs, .str name] [] (fun r ob0 cap0=>Z47 ob0 r cap0) (fun r ob0 cap0=>[Q47 ob0 cap0 r]) := by
 refine Cf [.tmp 4] Tryz.func85 R R R fun r hm=>?_
 unfold yard_On at hm
 refine Ae tbk [] R R<|Ae tbk [] R R<|Af<|Ai<|Ab R R (Aj R)<|Ab R R (Aw T_api_Bound.vv R Bq)<|Ab R R (Aj R)<|Ac<|Cj 8 R fun h5=>Cn hm (fun l32 (gg:Option Nat × Nat)=>[(5,Z47 gg.1 l32 gg.2)]) (fun l32 (gg:Option Nat × Nat)=>[Q47 gg.1 gg.2 l32]) (fun o hm=>?_) fun l32=>Pq fun ob3 cap3 hm=> ?_
 ·refine Cx (bs) (fun zl zk (zs:List T_api_Pod)=>yard_On.l1 name zl zk zs) (fun k zs (zg:Option Nat × Nat)=>[(1,.str name),(5,Z47 zg.1 zs zg.2),(8,L49 bs),(9,Iw (bs.length : Int)),(10,Iw (k : Int))]) (fun _ zs (zg:Option Nat × Nat)=>[Q47 zg.1 zg.2 zs]) _ (none,0) hm (Ct (Bx 47) (Ag [0] R R)) (fun k l2=>Pq fun ob2 cap2 hk hm=>?_) fun k x l4 l2=>Pq fun ob2 cap2 h6 hm=> ?_
  ·rw [yard_On.l1] at hm
   exact Ae tbk [] R R<|Af<|Ca R (k_end hk)<|A7<|As (ob2,cap2) hm (Ag [0] R R)
  rw [yard_On.l1] at hm
  exact Ae tbk [] R R<|Af<|B7 R (k_lt h6)<|Am<|Af<|A2<|Ai<|Ab R R (Cp T_api_Bound.vv R R el23 h6)<|Ab R R (Bt R ld49 R)<|Ad R R<|A3 z49 fun b=>Ad R R<|An (i:=0) R R R ld49 R R R<|Ac<|Ae tbk [0] R R<|Ao hm R (fun h8 hm=>Bn<|Aa tbk [0] 3 R R<|Ad R R<|A5 ap55 R R R R R fun b2=>Bd hm fun l5 h10 hm=>Ad R R<|Ch 2 T_api_Pod.vv (l:=l2) (l2:=[x.Pod]) ap55 R R (sT_row 0 T_api_Pod.vv el55 R R) h10 fun ob4 cap4=>Ab R R (Ak R)<|Ac<|Bc tbk [] R R<|Ap _ (ob4,cap4) hm (B0 [2] R ⟨R,R,R,R,congrArg some (k_next h6 h5),trivial⟩)) fun h8 hm=>Am<|Bc tbk [] R R<|Ap _ (ob2,cap2) hm (B0 [1] R ⟨R,R,R,R,congrArg some (k_next h6 h5),trivial⟩)
 exact Ae tbk [] R R<|Rg2 hm R [0] ob3 cap3 (.cons (.tmp _ _ R) .nil) R R

/-! (*trireme/snap.Snap).Drop$1 -/
def snap_Snap_Drop_1 (x : T_snap_state) (a : ByteArray) : Option (Int × T_snap_state) :=
 (yard_Find x.ms a).bind fun r =>
 if (decide (r < 0)) = true then
  some (16, x)
 else
  (yard_On x.bs a).bind fun r2 =>
  if (decide ((r2.length : Int) > 0)) = true then
   some (22, x)
  else
   (V.sl x.ms none (some r)).bind fun v =>
   (V.sl x.ms (some (i64.wrap (r + 1))) none).bind fun v2 =>
   (V.ap 128 v v2).bind fun l =>
   some (0, (⟨l, x.bs⟩ : T_snap_state))
theorem K83 (x : T_snap_state) (a : ByteArray) (b : Nat) (b2 : Nat) : VS Tryz.prog 84 (snap_Snap_Drop_1 x a) [.ptr b 0, .ptr b2 0] [X119 b x, .box b2 9 [.str a]] (fun r=>Iw r.1) (fun r=>[X119 b r.2, .box b2 9 [.str a]]) := by
 refine A4 [.tmp 3] Tryz.func84 R R R fun r hm=>?_
 unfold snap_Snap_Drop_1 at hm
 refine Ae tbk [] R R<|Af<|Be 0 mixed<|Aq tbk [0,1,2,3,4] [0,1] (by kernel_rfl) R R R<|Ah 5 (by kernel_rfl)<|Al R R R<|Av hm 0 R fn47 R (K70 _ _) fun r hm=>Ax 6 R R R (by kernel_rfl) (Ak R)<|A0 (by kernel_rfl)<|Af<|A2<|Ae tbk [] R R<|Ao hm R (fun h2 hm=>Ae tbk [] R R<|Rt1 hm R [0,0] R R R) fun h2 hm=>Af<|Be 0 mixed<|Aq tbk [0,1,2,3,4] [0,1] (by kernel_rfl) R R R<|Ah 5 (by kernel_rfl)<|Al R R R<|B3 hm 0 R fn85 R (K82 _ _) fun r2 ob cap hm=>Ck (A6 0 [(20,L47 r2)] R ⟨⟨_,R,.here _ R⟩,trivial⟩ (FzH.refl _))<|Ax 6 R R R (by kernel_rfl) (Aw T_api_Pod.vv R Cy)<|Aq tbk [7,8] [] (by kernel_rfl) R R R<|A0 (by kernel_rfl)<|Ao hm R (fun h5 hm=>Ae tbk [] R R<|Rt1 hm R [0,0] R R R) fun h5 hm=>Am<|Af<|Be 1 mixed<|Aq tbk [0,1,2,3,5,6,8,9,10,12,13] [] (by kernel_rfl) R R R<|?_
 refine Bm [4,11] (by kernel_rfl) ⟨?_,?_,trivial⟩
 ·exact Al R R R<|A8 (Az (i:=0) R R ld22 R)<|Bd hm fun v h6 hm=>Ax 7 R R R (by kernel_rfl) (Bp (f:=T_api_Machine.vv) el22 R R R R R h6)<|Ah 11 (by kernel_rfl)<|Al R R R<|A8 (Az (i:=0) R R ld22 R)<|Bd hm fun v2 h7 hm=>Ax 14 R R R (by kernel_rfl) (Dg R R R el22 h7)<|Ah 15 (by kernel_rfl)<|Bd hm fun l h8 hm=>Al R R R<|Br (f:=T_api_Machine.vv) (l2:=v2) ap22 R (sT_list T_api_Machine.vv el22 R R) h8<|Aq tbk [16,17] [] (by kernel_rfl) R R R<|Ah 18 (by kernel_rfl)<|Al R R R<|An (i:=0) R R R ld22 R R R<|A0 (by kernel_rfl)<|Ae tbk [] R R<|Rt1 hm R [0,0] R R R
 ·exact Al R R R<|A8 (Az (i:=0) R R ld22 R)<|Bd hm fun v3 h9 hm=>Bd hm fun v4 h10 hm=>Ax 14 R R R (by kernel_rfl) (Dg R R R el22 h10)<|Ah 4 (by kernel_rfl)<|Al R R R<|A8 (Az (i:=0) R R ld22 R)<|Ax 7 R R R (by kernel_rfl) (Bp (f:=T_api_Machine.vv) el22 R R R R R h9)<|Ah 15 (by kernel_rfl)<|Bd hm fun l2 h11 hm=>Al R R R<|Br (f:=T_api_Machine.vv) (l2:=v4) ap22 R (sT_list T_api_Machine.vv el22 R R) h11<|Aq tbk [16,17] [] (by kernel_rfl) R R R<|Ah 18 (by kernel_rfl)<|Al R R R<|An (i:=0) R R R ld22 R R R<|A0 (by kernel_rfl)<|Ae tbk [] R R<|Rt1 hm R [0,0] R R R

/-! (*trireme/snap.Snap).change -/
def snap_Snap_change_snap_Snap_Drop_1_x (s : T_snap_Snap) (c : ByteArray) : Option (Int × T_snap_Snap) :=
 (snap_Snap_there_x s).bind fun r =>
 if (!r) = true then
  some (23, s)
 else
  (s.now).bind fun x =>
  (snap_Snap_Drop_1 x c).bind fun r2 =>
  (snap_Snap_change_1 s r2.1 r2.2).bind fun r3 =>
  some (r2.1, r3)
theorem K84 (s : T_snap_Snap) (c : ByteArray) (b : Nat) (ob : Option Nat) (cap : Nat) (b2 : Nat) : VS2 Tryz.prog 80 (snap_Snap_change_snap_Snap_Drop_1_x s c) [.ptr b 0, .clo (.func 84) [] [.ptr b2 0]] [.box b 96 [T_snap_state.pf s.now, Z93 ob s.kept cap, Iw s.tried], Q93 ob cap s.kept, .box b2 9 [.str c]] (fun r ob0_1 cap0_1=>Iw r.1) (fun r ob0_1 cap0_1=>[.box b 96 [T_snap_state.pf r.2.now, Z93 ob0_1 r.2.kept cap0_1, Iw r.2.tried], Q93 ob0_1 cap0_1 r.2.kept, .box b2 9 [.str c]]) := by
 refine Dz [.cell 4 50] C8 R R R fun r hm=>?_
 unfold snap_Snap_change_snap_Snap_Drop_1_x at hm
 refine VD.seq<|VD.of<|Bn<|Ad R R<|Bg R R fun b3=>Ad R R<|A3 z50 fun b4=>Ac<|VD.seq<|VD.seq<|VD.of<|Bn<|Aa tbk [1] 1 R R<|Bl (Bi [2,2,0,0,0] R)<|Ad R R<|Av hm 2 R fn77 R (K66 _ _ _ _) fun r hm=>Ab R R (B6 R)<|Ac<|VD.if_ hm R (fun h4 hm=>VD.seq<|VD.of<|Bn<|Ad R R<|An (i:=2) R R R ld50 R R R<|Ac<|VD.of<|Rg2 hm R [0,0,2] ob cap (.cons (.cell _ _ _ _ 2 _ _ _ _ R R ld50 R) .nil) R R) fun h4 hm=>VD.of<|Am<|VD.seq<|VD.of<|Bn<|Aa tbk [3] 3 R R<|Bd hm fun x h5 hm=>Ab R R (Dn (Az (i:=0) R R ld93 R) (congrArg T_snap_state.pf h5))<|Aa tbk [] 2 R R<|Ad R R<|A3 z119 fun b5=>Ad R R<|An (i:=0) R R R ld119 R R R<|Ac<|VD.seq<|VD.df R R (Cd R R) R<|VD.seq<|VD.of<|Bn<|Ab R R (Aj R)<|Bl (Bi [0,4,0,0,0,0] R)<|Ad R R<|Av hm 2 R fn84 R (K83 _ _ _ _) fun r2 hm=>Ad R R<|An (i:=4) R R R ld50 R R R<|Ac<|VD.of<|C5<|FinD.c2 (.inl R) hm (Bi [5,2,2,2,0,0] R) 5 R (K72 _ _ _ _ _ _ _ _ _) fun r3 ob2 cap2 hm=> ?_
 obtain rfl:=Option.some.inj hm
 exact ⟨.inr R,_,.cons (.cell _ _ _ _ 3 _ _ _ _ R R ld50 R) .nil,[1,1,2],_,R,ob2,cap2,R,R⟩

/-! (*trireme/snap.Snap).Drop -/
def snap_Snap_Drop_x (s : T_snap_Snap) (name : ByteArray) : Option (Int × T_snap_Snap) :=
 (snap_Snap_change_snap_Snap_Drop_1_x s name).bind fun r =>
 some (r.1, r.2)
theorem K85 (s : T_snap_Snap) (name : ByteArray) (b : Nat) (ob : Option Nat) (cap : Nat) : VS2 Tryz.prog 40 (snap_Snap_Drop_x s name) [.ptr b 0, .str name] [.box b 96 [T_snap_state.pf s.now, Z93 ob s.kept cap, Iw s.tried], Q93 ob cap s.kept] (fun r ob0_1 cap0_1=>Iw r.1) (fun r ob0_1 cap0_1=>[.box b 96 [T_snap_state.pf r.2.now, Z93 ob0_1 r.2.kept cap0_1, Iw r.2.tried], Q93 ob0_1 cap0_1 r.2.kept]) := by
 refine Cf [.tmp 4] Tryz.func40 R R R fun r hm=>?_
 unfold snap_Snap_Drop_x at hm
 exact Ai<|Ad R R<|Bg R R fun b2=>Ab R R (Ak R)<|Ac<|Ai<|Ab R R (Aj R)<|Ab R R (Cd R R)<|Bl (Bi [1,1,0] R)<|Ad R R<|B3 hm 3 R fn80 R (K84 _ _ _ _ _ _) fun r ob2 cap2 hm=>Ab R R (Ak R)<|Ac<|Rg2 hm R [0,0] ob2 cap2 (.cons (.tmp _ _ R) .nil) R R

/-! (*trireme/snap.Snap).Depth -/
def snap_Snap_Depth_x (s : T_snap_Snap) : Option Int :=
 (snap_Snap_there_x s).bind fun r =>
 if (!r) = true then
  some 0
 else
  some (s.kept.length : Int)
theorem K86 (s : T_snap_Snap) (b : Nat) (ob : Option Nat) (cap : Nat) : VS Tryz.prog 33 (snap_Snap_Depth_x s) [.ptr b 0] [.box b 96 [T_snap_state.pf s.now, Z93 ob s.kept cap, Iw s.tried], Q93 ob cap s.kept] Iw (fun r=>[.box b 96 [T_snap_state.pf s.now, Z93 ob s.kept cap, Iw s.tried], Q93 ob cap s.kept]) := by
 refine A4 [.tmp 2] Tryz.func33 R R R fun r hm=>?_
 unfold snap_Snap_Depth_x at hm
 exact Ae tbk [] R R<|Af<|Ai<|Ab R R (Aj R)<|Ad R R<|Av hm 2 R fn77 R (K66 _ _ _ _) fun r hm=>Ab R R (B6 R)<|Ac<|Ao hm R (fun h2 hm=>Ae tbk [] R R<|Rt1 hm R [0,0] R R R) fun h2 hm=>Am<|Ai<|Aa tbk [0] 4 R R<|Ab R R (Cq T_snap_state.er R C3)<|Ab R R (Ak R)<|Ac<|Rt1 hm R [0,0] R R R

/-! (*trireme/snap.Snap).Bounds -/
def snap_Snap_Bounds_x (s : T_snap_Snap) : Option (List T_api_Bound) :=
 (snap_Snap_there_x s).bind fun r =>
 if (!r) = true then
  some ([] : List T_api_Bound)
 else
  (s.now).bind fun x =>
  (snap_bounds x.bs).bind fun r2 =>
  some r2
theorem K87 (s : T_snap_Snap) (b : Nat) (ob : Option Nat) (cap : Nat) : VS Tryz.prog 35 (snap_Snap_Bounds_x s) [.ptr b 0] [.box b 96 [T_snap_state.pf s.now, Z93 ob s.kept cap, Iw s.tried], Q93 ob cap s.kept] (fun r=>L49 r) (fun r=>[.box b 96 [T_snap_state.pf s.now, Z93 ob s.kept cap, Iw s.tried], Q93 ob cap s.kept]) := by
 refine A4 [.tmp 2] Tryz.func35 R R R fun r hm=>?_
 unfold snap_Snap_Bounds_x at hm
 exact Ae tbk [] R R<|Af<|Ai<|Ab R R (Aj R)<|Ad R R<|Av hm 2 R fn77 R (K66 _ _ _ _) fun r hm=>Ab R R (B6 R)<|Ac<|Ao hm R (fun h2 hm=>Ae tbk [] R R<|Bz (Shift.nilList 2 49 R)<|Rt1 hm R [0,0] R R R) fun h2 hm=>Am<|Ai<|Aa tbk [] 3 R R<|Bd hm fun x h3 hm=>Ab R R (Dn (Az (i:=0) R R ld93 R) (congrArg T_snap_state.pf h3))<|Aa tbk [] 3 R R<|Ad R R<|B3 hm 0 R fn69 R (K46 _) fun r2 ob2 cap2 hm=>Bl (A6 0 [(13,L49 r2)] R ⟨⟨_,R,.here _ R⟩,trivial⟩ (FzH.refl _))<|Ab R R (Ak R)<|Ac<|Rt1 hm R [0,0] R R R

/-! trireme/labels.at -/
def labels_at.l1 (key : ByteArray) : List T_api_Label → Nat → Option (Out (Int × Bool) Unit)
 | [], k => some (Out.go ())
 | x :: l2, k =>
  if (!(V.slt x.Key key)) = true then
   some (Out.ret ((k : Int), (V.seq x.Key key)))
  else
   labels_at.l1 key l2 (k + 1)
def labels_at (l : List T_api_Label) (key : ByteArray) : Option (Int × Bool) :=
 (labels_at.l1 key l 0).bind fun o =>
 o.on fun j =>
 some ((l.length : Int), false)
theorem K88 (l : List T_api_Label) (key : ByteArray) : VS Tryz.prog 238 (labels_at l key) [L92 l, .str key] [] (fun r=>.tup [Iw r.1, .bool r.2]) N0 := by
 refine A4 [.tmp 4,.tmp 5] Tryz.func238 R R R fun r hm=>?_
 unfold labels_at at hm
 refine Ae tbk [] R R<|Af<|Ai<|Ab R R (Aj R)<|Ab R R (Aw T_api_Label.vv R Bu)<|Ab R R (Aj R)<|Ac<|Cj 0 R fun h3=>Bw hm (fun _ (_:Unit)=>[(0,L92 l)]) (fun _ (_:Unit)=>[]) (fun o hm h2=>?_) fun j _ hm=> ?_
 ·refine Cx (l) (fun zl zk (zs:Unit)=>labels_at.l1 key zl zk) (fun k _ (_:Unit)=>[(0,L92 l),(1,.str key),(8,L92 l),(9,Iw (l.length : Int)),(10,Iw (k : Int))]) (fun _ _ (_:Unit)=>[]) () () hm (Ag [] R R) (fun k _ _ hk hm=>?_) fun k x l2 _ _ h4 hm=> ?_
  ·rw [labels_at.l1] at hm
   exact Ae tbk [] R R<|Af<|Ca R (k_end hk)<|A7<|Ar () hm (Ag [] R R)
  rw [labels_at.l1] at hm
  exact Ae tbk [] R R<|Af<|B7 R (k_lt h4)<|Am<|Af<|A2<|Ai<|Ab R R (Aj R)<|Ab R R (Cp T_api_Label.vv R R el42 h4)<|Ab R R (Bt R ld92 R)<|Ad R R<|A3 z92 fun b=>Ab R R (Ak R)<|Ad R R<|An (i:=0) R R R ld92 R R R<|Ac<|Ae tbk [0] R R<|Ao hm R (fun h6 hm=>Af<|Be 0 mixed<|Aq tbk [0,1,2,3,4,5,6] [0] (by kernel_rfl) R R R<|A0 (by kernel_rfl)<|have hm:=Lr hm h2;Rt2 hm R [] R R R R) fun h6 hm=>Am<|Bc tbk [] R R<|Ap () () hm (B0 [] R ⟨R,R,R,R,congrArg some (k_next h4 h3),trivial⟩)
 exact Ai<|Ab R R (Aj R)<|Ab R R (Aw T_api_Label.vv R Bu)<|Aa tbk [] 2 R R<|Ac<|Rt2 hm R [] R R R R

/-! trireme/labels.Get -/
def labels_Get (l : List T_api_Label) (key : ByteArray) : Option (ByteArray × Bool) :=
 (labels_at l key).bind fun r =>
 if (!r.2) = true then
  some ((⟨#[]⟩ : ByteArray), false)
 else
  (V.gl l r.1).bind fun x =>
  some (x.Val, true)
theorem K89 (l : List T_api_Label) (key : ByteArray) : VS Tryz.prog 231 (labels_Get l key) [L92 l, .str key] [] (fun r=>.tup [.str r.1, .bool r.2]) N0 := by
 refine A4 [.tmp 4,.tmp 5] Tryz.func231 R R R fun r hm=>?_
 unfold labels_Get at hm
 exact Ae tbk [] R R<|Ai<|Aa tbk [] 2 R R<|Ad R R<|Av hm 0 R fn238 R (K88 _ _) fun r hm=>Aa tbk [] 5 R R<|Ac<|Af<|Ae tbk [] R R<|Ao hm R (fun h2 hm=>Ae tbk [] R R<|Rt2 hm R [] R R R R) fun h2 hm=>Am<|Ai<|Aa tbk [] 2 R R<|Bd hm fun x h3 hm=>Ab R R (Bf T_api_Label.vv R R el42 h3)<|Aa tbk [] 4 R R<|Ac<|Rt2 hm R [] R R R R

/-! trireme/labels.Has -/
def labels_Has.l1 (l : List T_api_Label) : List T_api_Label → Nat → Option (Out Bool Unit)
 | [], k => some (Out.go ())
 | x :: l2, k =>
  (labels_Get l x.Key).bind fun r =>
  if ((!r.2) || (!(V.seq r.1 x.Val))) = true then
   some (Out.ret false)
  else
   labels_Has.l1 l l2 (k + 1)
def labels_Has (l : List T_api_Label) (some_ : List T_api_Label) : Option Bool :=
 (labels_Has.l1 l some_ 0).bind fun o =>
 o.on fun j =>
 some true
theorem K90 (l : List T_api_Label) (some_ : List T_api_Label) : VS Tryz.prog 212 (labels_Has l some_) [L92 l, L92 some_] [] .bool N0 := by
 refine A4 [.tmp 4] Tryz.func212 R R R fun r hm=>?_
 unfold labels_Has at hm
 refine Ae tbk [] R R<|Af<|Ai<|Ab R R (Aj R)<|Ab R R (Aw T_api_Label.vv R Bu)<|Ab R R (Aj R)<|Ac<|Cj 9 R fun h3=>Bw hm (fun _ (_:Unit)=>[]) (fun _ (_:Unit)=>[]) (fun o hm h2=>?_) fun j _ hm=> ?_
 ·refine Cx (some_) (fun zl zk (zs:Unit)=>labels_Has.l1 l zl zk) (fun k _ (_:Unit)=>[(0,L92 l),(9,L92 some_),(10,Iw (some_.length : Int)),(11,Iw (k : Int))]) (fun _ _ (_:Unit)=>[]) () () hm (Ag [] R R) (fun k _ _ hk hm=>?_) fun k x l2 _ _ h4 hm=> ?_
  ·rw [labels_Has.l1] at hm
   exact Ae tbk [] R R<|Af<|Ca R (k_end hk)<|A7<|Ar () hm (Ag [] R R)
  rw [labels_Has.l1] at hm
  exact Ae tbk [] R R<|Af<|B7 R (k_lt h4)<|Am<|Af<|A2<|Ai<|Ab R R (Cp T_api_Label.vv R R el42 h4)<|Ab R R (Bt R ld92 R)<|Ad R R<|A3 z92 fun b=>Ad R R<|An (i:=0) R R R ld92 R R R<|Ac<|Ai<|Aa tbk [0] 3 R R<|Ad R R<|Av hm 0 R fn231 R (K89 _ _) fun r hm=>Aa tbk [] 5 R R<|Ac<|Ai<|Aa tbk [] 3 R R<|Cr tbk [0] 5 29 24 R R R R R<|Ac<|Ao hm R (fun h8 hm=>Ae tbk [] R R<|have hm:=Lr hm h2;Rt1 hm R [] R R R) fun h8 hm=>Am<|Bc tbk [] R R<|Ap () () hm (B0 [] R ⟨R,R,R,congrArg some (k_next h4 h3),trivial⟩)
 exact Ae tbk [] R R<|Rt1 hm R [] R R R

/-! trireme/labels.among -/
def labels_among.l1 (s : ByteArray) : List ByteArray → Nat → Option (Out Bool Unit)
 | [], k => some (Out.go ())
 | x :: l2, k =>
  if (V.seq x s) = true then
   some (Out.ret true)
  else
   labels_among.l1 s l2 (k + 1)
def labels_among (l : List ByteArray) (s : ByteArray) : Option Bool :=
 (labels_among.l1 s l 0).bind fun o =>
 o.on fun j =>
 some false
theorem K91 (l : List ByteArray) (s : ByteArray) : VS Tryz.prog 239 (labels_among l s) [L9 l, .str s] [] .bool N0 := by
 refine A4 [.tmp 4] Tryz.func239 R R R fun r hm=>?_
 unfold labels_among at hm
 refine Ae tbk [] R R<|Af<|Ai<|Ab R R (Aj R)<|Ab R R (Aw VV.str R B2)<|Ab R R (Aj R)<|Ac<|Cj 7 R fun h3=>Bw hm (fun _ (_:Unit)=>[]) (fun _ (_:Unit)=>[]) (fun o hm h2=>?_) fun j _ hm=> ?_
 ·refine Cx (l) (fun zl zk (zs:Unit)=>labels_among.l1 s zl zk) (fun k _ (_:Unit)=>[(1,.str s),(7,L9 l),(8,Iw (l.length : Int)),(9,Iw (k : Int))]) (fun _ _ (_:Unit)=>[]) () () hm (Ag [] R R) (fun k _ _ hk hm=>?_) fun k x l2 _ _ h4 hm=> ?_
  ·rw [labels_among.l1] at hm
   exact Ae tbk [] R R<|Af<|Ca R (k_end hk)<|A7<|Ar () hm (Ag [] R R)
  rw [labels_among.l1] at hm
  exact Ae tbk [] R R<|Af<|B7 R (k_lt h4)<|Am<|Af<|A2<|Ai<|Ab R R (Cp VV.str R R el25 h4)<|Aa tbk [] 2 R R<|Ac<|Ae tbk [] R R<|Ao hm R (fun h5 hm=>Ae tbk [] R R<|have hm:=Lr hm h2;Rt1 hm R [] R R R) fun h5 hm=>Am<|Bc tbk [] R R<|Ap () () hm (B0 [] R ⟨R,R,R,congrArg some (k_next h4 h3),trivial⟩)
 exact Ae tbk [] R R<|Rt1 hm R [] R R R

/-! trireme/labels.Meets -/
def labels_Meets (l : List T_api_Label) (t : T_api_Term) : Option Bool :=
 (labels_Get l t.Key).bind fun r =>
 if (t.Op == 1) = true then
  (if r.2 = true then (labels_among t.Vals r.1).bind fun r2 =>
  some r2 else some false).bind fun c =>
  some c
 else
  if (t.Op == 2) = true then
   (if (!r.2) = true then some true else (labels_among t.Vals r.1).bind fun r3 =>
   some (!r3)).bind fun c2 =>
   some c2
  else
   if (t.Op == 3) = true then
    some r.2
   else
    if (t.Op == 4) = true then
     some (!r.2)
    else
     if ((!r.2) || ((t.Vals.length : Int) != 1)) = true then
      some false
     else
      (labels_number r.1).bind fun r4 =>
      (V.gl t.Vals (0 : Int)).bind fun x =>
      (labels_number x).bind fun r5 =>
      if (t.Op == 6) = true then
       some (r4.2 && (decide (r5.1 > r4.1)))
      else
       some (r4.2 && (decide (r4.1 > r5.1)))
theorem K92 (l : List T_api_Label) (t : T_api_Term) : VS Tryz.prog 232 (labels_Meets l t) [L92 l, T_api_Term.vv t] [] .bool N0 := by
 refine A4 [.tmp 4] Tryz.func232 R R R fun r hm=>?_
 unfold labels_Meets at hm
 exact Ai<|Ad R R<|Bg R R fun b=>Ab R R (Ak R)<|Ac<|Ai<|Aa tbk [0] 3 R R<|Ad R R<|Av hm 0 R fn231 R (K89 _ _) fun r hm=>Aa tbk [] 5 R R<|Ac<|Af<|Ae tbk [0] R R<|A2<|Ae tbk [] R R<|Ao hm R (fun h3 hm=>Ai<|Aa tbk [] 2 R R<|Bh hm 5 28 23 R (fun _ K' h4 J hm=>Aa tbk [0] 3 R R<|A1 R R R R R<|Av hm 0 R fn239 R (K91 _ _) fun r2 hm=>Ab R R (Bk true R R R)<|J 4 R R (Bj hm)) (fun _ K' h4 J hm=>Aa tbk [] 5 R R<|J 4 R R (Bj hm)) fun c hm=>Ab R R (Ak R)<|Ac<|Rt1 hm R [] R R R) fun h3 hm=>Ae tbk [] R R<|Ao hm R (fun h7 hm=>Ai<|Aa tbk [] 3 R R<|Bh hm 6 39 33 R (fun _ K' h8 J hm=>Aa tbk [] 6 R R<|J 5 R R (Bj hm)) (fun _ K' h8 J hm=>Aa tbk [0] 3 R R<|A1 R R R R R<|Av hm 0 R fn239 R (K91 _ _) fun r3 hm=>Aa tbk [] 2 R R<|J 5 R R (Bj hm)) fun c2 hm=>Ab R R (Ak R)<|Ac<|Rt1 hm R [] R R R) fun h7 hm=>Ae tbk [] R R<|Ao hm R (fun h11 hm=>Ae tbk [] R R<|Rt1 hm R [] R R R) fun h11 hm=>Ae tbk [] R R<|Ao hm R (fun h12 hm=>Ae tbk [] R R<|Rt1 hm R [] R R R) fun h12 hm=>Am<|Af<|Ai<|Aa tbk [] 3 R R<|Cv 5 54 49 R (fun K' J=>Aa tbk [] 5 R R<|J 4 R R R) (fun h13 K' J=>Aa tbk [0] 2 R R<|Bb R R R R R (Aw VV.str R B2)<|Aa tbk [] 2 R R<|J 4 R R R)<|Ac<|Ao hm R (fun h14 hm=>Ae tbk [] R R<|Rt1 hm R [] R R R) fun h14 hm=>Am<|Ai<|Ab R R (Aj R)<|Ad R R<|Av hm 0 R fn170 R (K31 _) fun r4 hm=>Aa tbk [] 5 R R<|Ac<|Ai<|Aa tbk [0] 2 R R<|Bd hm fun x h16 hm=>Ab R R (Bf VV.str R R el25 h16)<|Ab R R (Bt R ld9 R)<|Ad R R<|Av hm 0 R fn170 R (K31 _) fun r5 hm=>Aa tbk [] 5 R R<|Ac<|Af<|Ae tbk [0] R R<|Ao hm R (fun h18 hm=>Bc tbk [] R R<|Ai<|Aa tbk [] 2 R R<|B5 tbk [] 4 78 74 R R R R R<|Ab R R (Ak R)<|Ac<|Rt1 hm R [] R R R) fun h18 hm=>Am<|Ai<|Aa tbk [] 2 R R<|B5 tbk [] 4 78 74 R R R R R<|Ab R R (Ak R)<|Ac<|Rt1 hm R [] R R R

/-! trireme/labels.All -/
def labels_All.l1 (l : List T_api_Label) : List T_api_Term → Nat → Option (Out Bool Unit)
 | [], k => some (Out.go ())
 | x :: l2, k =>
  (labels_Meets l x).bind fun r =>
  if (!r) = true then
   some (Out.ret false)
  else
   labels_All.l1 l l2 (k + 1)
def labels_All (l : List T_api_Label) (terms : List T_api_Term) : Option Bool :=
 (labels_All.l1 l terms 0).bind fun o =>
 o.on fun j =>
 some true
theorem K93 (l : List T_api_Label) (terms : List T_api_Term) : VS Tryz.prog 219 (labels_All l terms) [L92 l, L142 terms] [] .bool N0 := by
 refine A4 [.tmp 4] Tryz.func219 R R R fun r hm=>?_
 unfold labels_All at hm
 refine Ae tbk [] R R<|Af<|Ai<|Ab R R (Aj R)<|Ab R R (Aw T_api_Term.vv R Cl)<|Ab R R (Aj R)<|Ac<|Cj 7 R fun h3=>Bw hm (fun _ (_:Unit)=>[]) (fun _ (_:Unit)=>[]) (fun o hm h2=>?_) fun j _ hm=> ?_
 ·refine Cx (terms) (fun zl zk (zs:Unit)=>labels_All.l1 l zl zk) (fun k _ (_:Unit)=>[(0,L92 l),(7,L142 terms),(8,Iw (terms.length : Int)),(9,Iw (k : Int))]) (fun _ _ (_:Unit)=>[]) () () hm (Ag [] R R) (fun k _ _ hk hm=>?_) fun k x l2 _ _ h4 hm=> ?_
  ·rw [labels_All.l1] at hm
   exact Ae tbk [] R R<|Af<|Ca R (k_end hk)<|A7<|Ar () hm (Ag [] R R)
  rw [labels_All.l1] at hm
  exact Ae tbk [] R R<|Af<|B7 R (k_lt h4)<|Am<|Af<|A2<|Ai<|Ab R R (Cp T_api_Term.vv R R el43 h4)<|Ab R R (Bt R ld142 R)<|Ad R R<|A3 z142 fun b=>Ad R R<|An (i:=0) R R R ld142 R R R<|Ac<|Ai<|Aa tbk [0] 2 R R<|Ad R R<|Av hm 0 R fn232 R (K92 _ _) fun r hm=>Ab R R (B6 R)<|Ac<|Ao hm R (fun h7 hm=>Ae tbk [] R R<|have hm:=Lr hm h2;Rt1 hm R [] R R R) fun h7 hm=>Am<|Bc tbk [] R R<|Ap () () hm (B0 [] R ⟨R,R,R,congrArg some (k_next h4 h3),trivial⟩)
 exact Ae tbk [] R R<|Rt1 hm R [] R R R

/-! trireme/taints.of -/
def taints_of (x : T_api_Taint) (effect : Int) : Option Bool :=
 some ((effect == 0) || (x.Effect == effect))
theorem K94 (x : T_api_Taint) (effect : Int) : VS Tryz.prog 207 (taints_of x effect) [T_api_Taint.vv x, Iw effect] [] .bool N0 := by
 refine A4 [.tmp 4] Tryz.func207 R R R fun r hm=>?_
 unfold taints_of at hm
 exact Ai<|Ad R R<|Bg R R fun b=>Ab R R (Ak R)<|Ac<|Ai<|Aa tbk [] 3 R R<|Cr tbk [0] 5 12 7 R R R R R<|Ab R R (Ak R)<|Ac<|Rt1 hm R [] R R R

/-! trireme/taints.Bears -/
def taints_Bears (t : T_api_Toleration) (x : T_api_Taint) : Option Bool :=
 if ((t.Effect != 0) && (t.Effect != x.Effect)) = true then
  some false
 else
  if ((!(V.seq t.Key (⟨#[]⟩ : ByteArray))) && (!(V.seq t.Key x.Key))) = true then
   some false
  else
   some (t.Any || (V.seq t.Val x.Val))
theorem K95 (t : T_api_Toleration) (x : T_api_Taint) : VS Tryz.prog 228 (taints_Bears t x) [T_api_Toleration.vv t, T_api_Taint.vv x] [] .bool N0 := by
 refine A4 [.tmp 4] Tryz.func228 R R R fun r hm=>?_
 unfold taints_Bears at hm
 exact Ai<|Ad R R<|Bg R R fun b=>Ad R R<|Bg R R fun b2=>Ab R R (Ak R)<|Ac<|Af<|A2<|Ai<|Aa tbk [1] 4 R R<|B5 tbk [1,0] 6 15 9 R R R R R<|Ab R R (Ak R)<|Ac<|Ao hm R (fun h4 hm=>Ae tbk [] R R<|Rt1 hm R [] R R R) fun h4 hm=>Ai<|Aa tbk [1] 4 R R<|B5 tbk [1,0] 6 26 20 R R R R R<|Ab R R (Ak R)<|Ac<|Ao hm R (fun h6 hm=>Ae tbk [] R R<|Rt1 hm R [] R R R) fun h6 hm=>Am<|Ai<|Aa tbk [1] 3 R R<|Cr tbk [1,0] 6 35 29 R R R R R<|Ab R R (Ak R)<|Ac<|Rt1 hm R [] R R R

/-! trireme/taints.borne -/
def taints_borne.l1 (x : T_api_Taint) : List T_api_Toleration → Nat → Option (Out Bool Unit)
 | [], k => some (Out.go ())
 | x2 :: l2, k =>
  (taints_Bears x2 x).bind fun r =>
  if r = true then
   some (Out.ret true)
  else
   taints_borne.l1 x l2 (k + 1)
def taints_borne (l : List T_api_Toleration) (x : T_api_Taint) : Option Bool :=
 (taints_borne.l1 x l 0).bind fun o =>
 o.on fun j =>
 some false
theorem K96 (l : List T_api_Toleration) (x : T_api_Taint) : VS Tryz.prog 208 (taints_borne l x) [L172 l, T_api_Taint.vv x] [] .bool N0 := by
 refine A4 [.tmp 4] Tryz.func208 R R R fun r hm=>?_
 unfold taints_borne at hm
 refine Ai<|Ad R R<|Bg R R fun b=>Ab R R (Ak R)<|Ac<|Af<|Ai<|Ab R R (Aj R)<|Ab R R (Aw T_api_Toleration.vv R Cu)<|Ab R R (Aj R)<|Ac<|Cj 7 R fun h4=>Bw hm (fun _ (_:Unit)=>[]) (fun _ (_:Unit)=>[]) (fun o hm h3=>?_) fun j _ hm=> ?_
 ·refine Cx (l) (fun zl zk (zs:Unit)=>taints_borne.l1 x zl zk) (fun k _ (_:Unit)=>[(3,.ptr b 0),(7,L172 l),(8,Iw (l.length : Int)),(9,Iw (k : Int))]) (fun _ _ (_:Unit)=>[X166 b x]) () () hm (Ag [0] R R) (fun k _ _ hk hm=>?_) fun k x2 l2 _ _ h5 hm=> ?_
  ·rw [taints_borne.l1] at hm
   exact Ae tbk [] R R<|Af<|Ca R (k_end hk)<|A7<|Ar () hm (Ag [] R R)
  rw [taints_borne.l1] at hm
  exact Ae tbk [] R R<|Af<|B7 R (k_lt h5)<|Am<|Af<|A2<|Ai<|Ab R R (Cp T_api_Toleration.vv R R el44 h5)<|Ab R R (Bt R ld172 R)<|Ad R R<|A3 z172 fun b2=>Ad R R<|An (i:=0) R R R ld172 R R R<|Ac<|Ai<|Aa tbk [0,1] 2 R R<|Ad R R<|Av hm 0 R fn228 R (K95 _ _) fun r hm=>Ac<|Ao hm R (fun h8 hm=>Ae tbk [] R R<|have hm:=Lr hm h3;Rt1 hm R [] R R R) fun h8 hm=>Am<|Bc tbk [] R R<|Ap () () hm (B0 [1] R ⟨R,R,R,congrArg some (k_next h5 h4),trivial⟩)
 exact Ae tbk [] R R<|Rt1 hm R [] R R R

/-! trireme/taints.Unborne$1 -/
def taints_Unborne_1 (x : T_api_Taint) (a : Int) (a2 : List T_api_Toleration) : Option Bool :=
 (taints_of x a).bind fun r =>
 (if r = true then (taints_borne a2 x).bind fun r2 =>
 some (!r2) else some false).bind fun c =>
 some c
theorem K97 (x : T_api_Taint) (a : Int) (a2 : List T_api_Toleration) (b : Nat) (b2 : Nat) : VS Tryz.prog 206 (taints_Unborne_1 x a a2) [T_api_Taint.vv x, .ptr b 0, .ptr b2 0] [.box b 3 [Iw a], .box b2 44 [L172 a2]] .bool (fun r=>[.box b 3 [Iw a], .box b2 44 [L172 a2]]) := by
 refine A4 [.tmp 4] Tryz.func206 R R R fun r hm=>?_
 unfold taints_Unborne_1 at hm
 exact Ai<|Ad R R<|Bg R R fun b3=>Ab R R (Ak R)<|Ac<|Ai<|Aa tbk [0,1] 2 R R<|Ad R R<|Av hm 0 R fn207 R (K94 _ _) fun r hm=>Ab R R (Aj R)<|Bh hm 5 13 8 R (fun _ K' h3 J hm=>Aa tbk [2,0] 2 R R<|A1 R R R R R<|Av hm 0 R fn208 R (K96 _ _) fun r2 hm=>Aa tbk [] 2 R R<|J 4 R R (Bj hm)) (fun _ K' h3 J hm=>Aa tbk [] 5 R R<|J 4 R R (Bj hm)) fun c hm=>Ab R R (Ak R)<|Ac<|Rt1 hm R [1,1] R R R

/-! trireme/taints.some -/
def taints_some_taints_Unborne_1.l1 (c : Int) (c2 : List T_api_Toleration) : List T_api_Taint → Nat → (List T_api_Taint) → Option (List T_api_Taint)
 | [], k, out2 => some out2
 | x :: l2, k, out2 =>
  (taints_Unborne_1 x c c2).bind fun r =>
  if r = true then
   (V.ap 40 out2 [x]).bind fun out4 =>
   taints_some_taints_Unborne_1.l1 c c2 l2 (k + 1) out4
  else
   taints_some_taints_Unborne_1.l1 c c2 l2 (k + 1) out2
def taints_some_taints_Unborne_1 (l : List T_api_Taint) (c : Int) (c2 : List T_api_Toleration) : Option (List T_api_Taint) :=
 (taints_some_taints_Unborne_1.l1 c c2 l 0 ([] : List T_api_Taint)).bind fun out32 =>
 some out32
theorem K98 (l : List T_api_Taint) (c : Int) (c2 : List T_api_Toleration) (b : Nat) (b2 : Nat) : VS2 Tryz.prog 205 (taints_some_taints_Unborne_1 l c c2) [L166 l, .clo (.func 206) [] [.ptr b 0, .ptr b2 0]] [.box b 3 [Iw c], .box b2 44 [L172 c2]] (fun r ob0 cap0=>Z166 ob0 r cap0) (fun r ob0 cap0=>[Q166 ob0 cap0 r, .box b 3 [Iw c], .box b2 44 [L172 c2]]) := by
 refine Cf [.tmp 4] Tryz.func205 R R R fun r hm=>?_
 unfold taints_some_taints_Unborne_1 at hm
 refine Ae tbk [] R R<|Ae tbk [] R R<|Af<|Ai<|Ab R R (Aj R)<|Ab R R (Aw T_api_Taint.vv R Cc)<|Ab R R (Aj R)<|Ac<|Cj 8 R fun h5=>Cn hm (fun out32 (gg:Option Nat × Nat)=>[(5,Z166 gg.1 out32 gg.2)]) (fun out32 (gg:Option Nat × Nat)=>[Q166 gg.1 gg.2 out32,.box b 3 [Iw c],.box b2 44 [L172 c2]]) (fun o hm=>?_) fun out32=>Pq fun ob3 cap3 hm=> ?_
 ·refine Cx (l) (fun zl zk (zs:List T_api_Taint)=>taints_some_taints_Unborne_1.l1 c c2 zl zk zs) (fun k zs (zg:Option Nat × Nat)=>[(1,.clo (.func 206) [] [.ptr b 0,.ptr b2 0]),(5,Z166 zg.1 zs zg.2),(8,L166 l),(9,Iw (l.length : Int)),(10,Iw (k : Int))]) (fun _ zs (zg:Option Nat × Nat)=>[Q166 zg.1 zg.2 zs,.box b 3 [Iw c],.box b2 44 [L172 c2]]) _ (none,0) hm (Ct (Bx 166) (Ag [0,0,0] R R)) (fun k out2=>Pq fun ob2 cap2 hk hm=>?_) fun k x l2 out2=>Pq fun ob2 cap2 h6 hm=> ?_
  ·rw [taints_some_taints_Unborne_1.l1] at hm
   exact Ae tbk [] R R<|Af<|Ca R (k_end hk)<|A7<|As (ob2,cap2) hm (Ag [0,0,0] R R)
  rw [taints_some_taints_Unborne_1.l1] at hm
  exact Ae tbk [] R R<|Af<|B7 R (k_lt h6)<|Am<|Af<|A2<|Ai<|Ab R R (Cp T_api_Taint.vv R R el59 h6)<|Ab R R (Bt R ld166 R)<|Ad R R<|A3 z166 fun b3=>Ad R R<|An (i:=0) R R R ld166 R R R<|Ac<|Ai<|Aa tbk [0] 2 R R<|Bl (Bi [2,2,0,0] R)<|Ad R R<|Av hm 2 R fn206 R (K97 _ _ _ _ _) fun r hm=>Ac<|Ao hm R (fun h9 hm=>Bn<|Aa tbk [2] 2 R R<|Ad R R<|A5 ap59 R R R R R fun b4=>Bd hm fun out4 h11 hm=>Ad R R<|Ch 4 T_api_Taint.vv (l:=out2) (l2:=[x]) ap59 R R (sT_row 0 T_api_Taint.vv el59 R R) h11 fun ob4 cap4=>Ab R R (Ak R)<|Ac<|Bc tbk [] R R<|Ap _ (ob4,cap4) hm (B0 [4,1,1] R ⟨R,R,R,R,congrArg some (k_next h6 h5),trivial⟩)) fun h9 hm=>Am<|Bc tbk [] R R<|Ap _ (ob2,cap2) hm (B0 [3,0,0] R ⟨R,R,R,R,congrArg some (k_next h6 h5),trivial⟩)
 exact Ae tbk [] R R<|Rg2 hm R [0,0,0] ob3 cap3 (.cons (.tmp _ _ R) .nil) R R

/-! trireme/taints.Unborne -/
def taints_Unborne (l : List T_api_Toleration) (taints : List T_api_Taint) (effect : Int) : Option (List T_api_Taint) :=
 (taints_some_taints_Unborne_1 taints effect l).bind fun r =>
 some r
theorem K99 (l : List T_api_Toleration) (taints : List T_api_Taint) (effect : Int) : VS Tryz.prog 181 (taints_Unborne l taints effect) [L172 l, L166 taints, Iw effect] [] (fun r=>L166 r) N0 := by
 refine A4 [.tmp 6] Tryz.func181 R R R fun r hm=>?_
 unfold taints_Unborne at hm
 exact Ai<|Ad R R<|Bg R R fun b=>Ad R R<|Bg R R fun b2=>Ab R R (Ak R)<|Ac<|Ai<|Ab R R (Aj R)<|Ab R R (Cd R R)<|Ad R R<|B3 hm 2 R fn205 R (K98 _ _ _ _ _) fun r ob cap hm=>Bl (A6 0 [(9,L166 r)] R ⟨⟨_,R,.here _ R⟩,trivial⟩ (FzH.refl _))<|Ab R R (Ak R)<|Ac<|Rt1 hm R [] R R R

/-! trireme/taints.Allows -/
def taints_Allows (l : List T_api_Toleration) (taints : List T_api_Taint) : Option Bool :=
 (taints_Unborne l taints (1 : Int)).bind fun r =>
 (taints_Unborne l taints (3 : Int)).bind fun r2 =>
 some ((i64.wrap ((r.length : Int) + (r2.length : Int))) == 0)
theorem K100 (l : List T_api_Toleration) (taints : List T_api_Taint) : VS Tryz.prog 220 (taints_Allows l taints) [L172 l, L166 taints] [] .bool N0 := by
 refine A4 [.tmp 4] Tryz.func220 R R R fun r hm=>?_
 unfold taints_Allows at hm
 exact Ae tbk [] R R<|Ai<|Aa tbk [] 2 R R<|Ad R R<|Av hm 0 R fn181 R (K99 _ _ _) fun r hm=>Ab R R (Aw T_api_Taint.vv R Cc)<|Aa tbk [] 2 R R<|Ad R R<|Av hm 0 R fn181 R (K99 _ _ _) fun r2 hm=>Ab R R (Aw T_api_Taint.vv R Cc)<|Aa tbk [] 3 R R<|Ac<|Rt1 hm R [] R R R

/-! trireme/suit.Place -/
def suit_Place (m : T_api_Machine) (p : T_api_Pod) : Option Int :=
 if (!m.Ready) = true then
  some 1
 else
  (labels_Has m.Labels p.Select).bind fun r =>
  if (!r) = true then
   some 4
  else
   (labels_All m.Labels p.Terms).bind fun r2 =>
   if (!r2) = true then
    some 5
   else
    (taints_Allows p.Bears m.Taints).bind fun r3 =>
    if (!r3) = true then
     some 6
    else
     some 0
theorem K101 (m : T_api_Machine) (p : T_api_Pod) : VS Tryz.prog 201 (suit_Place m p) [T_api_Machine.vv m, T_api_Pod.vv p] [] Iw N0 := by
 refine A4 [.tmp 4] Tryz.func201 R R R fun r hm=>?_
 unfold suit_Place at hm
 exact Ai<|Ad R R<|Bg R R fun b=>Ad R R<|Bg R R fun b2=>Ab R R (Ak R)<|Ac<|Ae tbk [] R R<|Af<|A2<|Ae tbk [1] R R<|Ao hm R (fun h3 hm=>Bc tbk [] R R<|Ae tbk [] R R<|Rt1 hm R [] R R R) fun h3 hm=>Ai<|Aa tbk [1,0] 4 R R<|Ad R R<|Av hm 0 R fn212 R (K90 _ _) fun r hm=>Aa tbk [] 2 R R<|Ac<|Ao hm R (fun h5 hm=>Bc tbk [] R R<|Ae tbk [] R R<|Rt1 hm R [] R R R) fun h5 hm=>Ai<|Aa tbk [1,0] 4 R R<|Ad R R<|Av hm 0 R fn219 R (K93 _ _) fun r2 hm=>Aa tbk [] 2 R R<|Ac<|Ao hm R (fun h7 hm=>Bc tbk [] R R<|Ae tbk [] R R<|Rt1 hm R [] R R R) fun h7 hm=>Ai<|Aa tbk [0,1] 4 R R<|Ad R R<|Av hm 0 R fn220 R (K100 _ _) fun r3 hm=>Aa tbk [] 2 R R<|Ac<|Ao hm R (fun h9 hm=>Bc tbk [] R R<|Ae tbk [] R R<|Rt1 hm R [] R R R) fun h9 hm=>Am<|Ae tbk [] R R<|Rt1 hm R [] R R R

/-! trireme/suit.others -/
def suit_others.l1 (name : ByteArray) : List T_api_Bound → Nat → (List T_api_Bound) → Option (List T_api_Bound)
 | [], k, l2 => some l2
 | x :: l4, k, l2 =>
  if (!(V.seq x.Pod.Name name)) = true then
   (V.ap 288 l2 [x]).bind fun l5 =>
   suit_others.l1 name l4 (k + 1) l5
  else
   suit_others.l1 name l4 (k + 1) l2
def suit_others (bs : List T_api_Bound) (name : ByteArray) : Option (List T_api_Bound) :=
 (suit_others.l1 name bs 0 ([] : List T_api_Bound)).bind fun l32 =>
 some l32
theorem K102 (bs : List T_api_Bound) (name : ByteArray) : VS2 Tryz.prog 221 (suit_others bs name) [L49 bs, .str name] [] (fun r ob0 cap0=>Z49 ob0 r cap0) (fun r ob0 cap0=>[Q49 ob0 cap0 r]) := by
 refine Cf [.tmp 4] Tryz.func221 R R R fun r hm=>?_
 unfold suit_others at hm
 refine Ae tbk [] R R<|Ae tbk [] R R<|Af<|Ai<|Ab R R (Aj R)<|Ab R R (Aw T_api_Bound.vv R Bq)<|Ab R R (Aj R)<|Ac<|Cj 8 R fun h5=>Cn hm (fun l32 (gg:Option Nat × Nat)=>[(5,Z49 gg.1 l32 gg.2)]) (fun l32 (gg:Option Nat × Nat)=>[Q49 gg.1 gg.2 l32]) (fun o hm=>?_) fun l32=>Pq fun ob3 cap3 hm=> ?_
 ·refine Cx (bs) (fun zl zk (zs:List T_api_Bound)=>suit_others.l1 name zl zk zs) (fun k zs (zg:Option Nat × Nat)=>[(1,.str name),(5,Z49 zg.1 zs zg.2),(8,L49 bs),(9,Iw (bs.length : Int)),(10,Iw (k : Int))]) (fun _ zs (zg:Option Nat × Nat)=>[Q49 zg.1 zg.2 zs]) _ (none,0) hm (Ct (Bx 49) (Ag [0] R R)) (fun k l2=>Pq fun ob2 cap2 hk hm=>?_) fun k x l4 l2=>Pq fun ob2 cap2 h6 hm=> ?_
  ·rw [suit_others.l1] at hm
   exact Ae tbk [] R R<|Af<|Ca R (k_end hk)<|A7<|As (ob2,cap2) hm (Ag [0] R R)
  rw [suit_others.l1] at hm
  exact Ae tbk [] R R<|Af<|B7 R (k_lt h6)<|Am<|Af<|A2<|Ai<|Ab R R (Cp T_api_Bound.vv R R el23 h6)<|Ab R R (Bt R ld49 R)<|Ad R R<|A3 z49 fun b=>Ad R R<|An (i:=0) R R R ld49 R R R<|Ac<|Ae tbk [0] R R<|Ao hm R (fun h8 hm=>Bn<|Aa tbk [0] 2 R R<|Ad R R<|A5 ap23 R R R R R fun b2=>Bd hm fun l5 h10 hm=>Ad R R<|Ch 2 T_api_Bound.vv (l:=l2) (l2:=[x]) ap23 R R (sT_row 0 T_api_Bound.vv el23 R R) h10 fun ob4 cap4=>Ab R R (Ak R)<|Ac<|Bc tbk [] R R<|Ap _ (ob4,cap4) hm (B0 [2] R ⟨R,R,R,R,congrArg some (k_next h6 h5),trivial⟩)) fun h8 hm=>Am<|Bc tbk [] R R<|Ap _ (ob2,cap2) hm (B0 [1] R ⟨R,R,R,R,congrArg some (k_next h6 h5),trivial⟩)
 exact Ae tbk [] R R<|Rg2 hm R [0] ob3 cap3 (.cons (.tmp _ _ R) .nil) R R

/-! trireme/yard.Used$1 -/
def yard_Used_1 (i : Int) (a : List T_api_Pod) : Option Bool :=
 (V.gl a i).bind fun x =>
 (res_Right x.Need).bind fun r =>
 some (!r)
theorem K103 (i : Int) (a : List T_api_Pod) (b : Nat) : VS Tryz.prog 182 (yard_Used_1 i a) [Iw i, .ptr b 0] [.box b 55 [L47 a]] .bool (fun r=>[.box b 55 [L47 a]]) := by
 refine A4 [.tmp 3] Tryz.func182 R R R fun r hm=>?_
 unfold yard_Used_1 at hm
 exact Ae tbk [] R R<|Ai<|Aa tbk [0] 2 R R<|Bd hm fun x h1 hm=>Ab R R (Bf T_api_Pod.vv R R el55 h1)<|Aa tbk [] 2 R R<|Ad R R<|Av hm 0 R fn130 R (K17 _) fun r hm=>Aa tbk [] 2 R R<|Ac<|Rt1 hm R [0] R R R

/-! trireme/yard.first -/
def yard_first_yard_Used_1.l1 (n : Int) (c : List T_api_Pod) : Nat → Int → Option (Out Int Unit)
 | 0, _ => none
 | n2 + 1, v2 =>
  if (decide (v2 < n)) = true then
   (yard_Used_1 v2 c).bind fun r =>
   if r = true then
    some (Out.ret v2)
   else
    yard_first_yard_Used_1.l1 n c n2 (i64.wrap (v2 + 1))
  else
   some (Out.go ())
def yard_first_yard_Used_1 (n : Int) (c : List T_api_Pod) : Option Int :=
 (yard_first_yard_Used_1.l1 n c FU (0 : Int)).bind fun o =>
 o.on fun j =>
 some (-1)
theorem K104 (n : Int) (c : List T_api_Pod) (b : Nat) : VS Tryz.prog 96 (yard_first_yard_Used_1 n c) [Iw n, .clo (.func 182) [] [.ptr b 0]] [.box b 55 [L47 c]] Iw (fun r=>[.box b 55 [L47 c]]) := by
 refine A4 [.tmp 4] Dh R R R fun r hm=>?_
 unfold yard_first_yard_Used_1 at hm
 refine Ae tbk [] R R<|Af<|Ae tbk [] R R<|Bw hm (fun _ (_:Unit)=>[]) (fun _ (_:Unit)=>[.box b 55 [L47 c]]) (fun o hm h2=>?_) fun j _ hm=> ?_
 ·refine B1 (fun zn (zs:Int)=>yard_first_yard_Used_1.l1 n c zn zs) (fun zs (_:Unit)=>[(1,.clo (.func 182) [] [.ptr b 0]),(6,Iw n),(7,Iw zs)]) (fun _ (_:Unit)=>[.box b 55 [L47 c]]) _ () (fun _=>R) hm (Ag [0] R R) fun n2 v2 _ hm=> ?_
  rw [yard_first_yard_Used_1.l1] at hm
  exact Ae tbk [] R R<|Af<|Ao hm R (fun h3 hm=>Am<|Af<|A2<|Ae tbk [] R R<|Ai<|Aa tbk [] 2 R R<|Ad R R<|Av hm 1 R fn182 R (K103 _ _ _) fun r hm=>Ac<|Ao hm R (fun h5 hm=>Ae tbk [] R R<|have hm:=Lr hm h2;Rt1 hm R [0] R R R) fun h5 hm=>Am<|Bc tbk [] R R<|Ap _ () hm (Ag [0] R R)) fun h3 hm=>A7<|Ar () hm (Ag [0] R R)
 exact Ae tbk [] R R<|Rt1 hm R [0] R R R

/-! trireme/res.Add$1 -/
def res_Add_1 (x : Int) (y : Int) : Option Int :=
 some (i64.wrap (x + y))
theorem K105 (x : Int) (y : Int) : VS Tryz.prog 210 (res_Add_1 x y) [Iw x, Iw y] [] Iw N0 := by
 refine A4 [.tmp 4] Tryz.func210 R R R fun r hm=>?_
 unfold res_Add_1 at hm
 exact Ae tbk [] R R<|Ae tbk [] R R<|Rt1 hm R [] R R R

/-! trireme/res.back -/
def res_back (l : Arr5_Int) : Option T_api_Res :=
 some (⟨l.x0, l.x1, l.x2, l.x3, l.x4⟩ : T_api_Res)
theorem K106 (l : Arr5_Int) : VS Tryz.prog 229 (res_back l) [Arr5_Int.vv l] [] (fun r=>T_api_Res.vv r) N0 := by
 refine A4 [.cell 2 41] Tryz.func229 R R R fun r hm=>?_
 unfold res_back at hm
 exact Ai<|Ad R R<|Bg R R fun b=>Ad R R<|A3 z41 fun b2=>Ac<|Ai<|Ab R R (Cz R R ar183 (by decide) (by decide))<|Aa tbk [1] 1 R R<|Ab R R (Cz R R ar183 (by decide) (by decide))<|Aa tbk [1] 1 R R<|Ab R R (Cz R R ar183 (by decide) (by decide))<|Aa tbk [1] 1 R R<|Ab R R (Cz R R ar183 (by decide) (by decide))<|Aa tbk [1] 1 R R<|Ab R R (Cz R R ar183 (by decide) (by decide))<|Aa tbk [1] 1 R R<|Ab R R (B4 pl41 R R)<|Ad R R<|An (i:=0) R R R ld41 R R R<|Ac<|Rt0 hm R [] (.cons (.cell _ _ _ _ 0 _ _ _ _ R R ld41 R) .nil) R R

/-! trireme/res.each -/
def res_each_res_Add_1.l1 (j : Arr5_Int × Arr5_Int) : Nat → Arr5_Int → Int → Option Arr5_Int
 | 0, _, _ => none
 | n + 1, l3, v2 =>
  if (decide (v2 < 5)) = true then
   (V.gl (Arr5_Int.l l3) v2).bind fun x =>
   (V.gl (Arr5_Int.l j.2) v2).bind fun x2 =>
   (res_Add_1 x x2).bind fun r19 =>
   (V.gl (Arr5_Int.l l3) v2).bind fun x3 =>
   (Arr5_Int.put l3 v2 r19).bind fun l6 =>
   res_each_res_Add_1.l1 j n l6 (i64.wrap (v2 + 1))
  else
   some l3
def res_each_res_Add_1 (a : T_api_Res) (b : T_api_Res) (wrong : Int) : Option (T_api_Res × Int) :=
 (res_Right a).bind fun r =>
 (if (!r) = true then some true else (res_Right b).bind fun r2 =>
 some (!r2)).bind fun c =>
 if c = true then
  some ((⟨0, 0, 0, 0, 0⟩ : T_api_Res), 1)
 else
  ((res_row a).bind fun r3 =>
  (res_row b).bind fun r4 =>
  some (r3, r4)).bind fun j =>
  (res_each_res_Add_1.l1 j FU j.1 (0 : Int)).bind fun l42 =>
  (res_back l42).bind fun r20 =>
  (res_Right r20).bind fun r21 =>
  if r21 = true then
   some (r20, 0)
  else
   some ((⟨0, 0, 0, 0, 0⟩ : T_api_Res), wrong)
theorem K107 (a : T_api_Res) (b : T_api_Res) (wrong : Int) : VS Tryz.prog 209 (res_each_res_Add_1 a b wrong) [T_api_Res.vv a, T_api_Res.vv b, .clo (.func 210) [] [], Iw wrong] [] (fun r=>.tup [T_api_Res.vv r.1, Iw r.2]) N0 := by
 refine A4 [.cell 8 41,.tmp 9] Dx R R R fun r hm=>?_
 unfold res_each_res_Add_1 at hm
 refine Ai<|Ad R R<|Bg R R fun b2=>Ad R R<|Bg R R fun b3=>Ad R R<|A3 z41 fun b4=>Ab R R (Ak R)<|Ac<|Af<|Ai<|Aa tbk [2] 1 R R<|Ad R R<|Av hm 0 R fn130 R (K17 _) fun r hm=>Aa tbk [] 2 R R<|Bh hm 4 21 17 R (fun _ K' h5 J hm=>Aa tbk [] 4 R R<|J 3 R R (Bj hm)) (fun _ K' h5 J hm=>Aa tbk [1] 1 R R<|A1 R R R R R<|Av hm 0 R fn130 R (K17 _) fun r2 hm=>Aa tbk [] 2 R R<|J 3 R R (Bj hm)) fun c hm=>Ac<|Ao hm R (fun h8 hm=>Ai<|Ab R R (B4 pl41 R R)<|Ad R R<|An (i:=0) R R R ld41 R R R<|Ab R R (Ak R)<|Ac<|Rt0 hm R [] (.cons (.cell _ _ _ _ 0 _ _ _ _ R R ld41 R) (.cons (.tmp _ _ R) .nil)) R R) fun h8 hm=>Am<|Dm hm (fun _ (gg:Nat × Nat)=>[(2,.clo (.func 210) [] []),(3,Iw wrong),(8,.ptr b4 0),(10,.ptr gg.1 0),(11,.ptr gg.2 0)]) (fun j (gg:Nat × Nat)=>[X183 gg.2 j.2,X183 gg.1 j.1,X41 b4 (⟨(0 : Int),(0 : Int),(0 : Int),(0 : Int),(0 : Int)⟩ : T_api_Res)]) (fun o hm=>?_) fun j=>Pq fun b5 b6 hm=> ?_
 ·refine Be 0 mixed<|Aq tbk [0,2] [2,1] (by kernel_rfl) R R R<|?_
  refine Bm [1,4,5] (by kernel_rfl) ⟨?_,?_,?_,trivial⟩
  ·refine Bd hm fun r3 h13 hm=>Al R R R<|Au 0 R fn174 R (K16 a r3 h13) fun _ _ h34=> ?_
   obtain ⟨rfl,rfl⟩:=h34
   refine Bm [3,4,5] (by kernel_rfl) ⟨?_,?_,?_,trivial⟩
   ·refine Bd hm fun r4 h14 hm=>Al R R R<|Au 0 R fn174 R (K16 b r4 h14) fun _ _ h19=> ?_
    obtain ⟨rfl,rfl⟩:=h19
    refine Bm [4,5] (by kernel_rfl) ⟨?_,?_,trivial⟩
    ·exact Al R R R<|A3 z183 fun b7=>Ah 5 (by kernel_rfl)<|Al R R R<|A3 z183 fun b8=>Ah 6 (by kernel_rfl)<|Al R R R<|An (i:=1) R R R ld183 R R R<|Ah 7 (by kernel_rfl)<|Al R R R<|An (i:=0) R R R ld183 R R R<|A0 (by kernel_rfl)<|As (b7,b8) hm (Ag [0,0,0] R R)
    ·exact Al R R R<|A3 z183 fun b9=>Ah 4 (by kernel_rfl)<|Al R R R<|A3 z183 fun b10=>Ah 6 (by kernel_rfl)<|Al R R R<|An (i:=0) R R R ld183 R R R<|Ah 7 (by kernel_rfl)<|Al R R R<|An (i:=1) R R R ld183 R R R<|A0 (by kernel_rfl)<|As (b10,b9) hm (Ag [1,0,0] R R)
   ·refine Al R R R<|A3 z183 fun b11=> ?_
    refine Bm [3,5] (by kernel_rfl) ⟨?_,?_,trivial⟩
    ·refine Bd hm fun r5 h21 hm=>Al R R R<|Au 0 R fn174 R (K16 b r5 h21) fun _ _ h23=> ?_
     obtain ⟨rfl,rfl⟩:=h23
     exact Ah 5 (by kernel_rfl)<|Al R R R<|A3 z183 fun b12=>Ah 6 (by kernel_rfl)<|Al R R R<|An (i:=1) R R R ld183 R R R<|Ah 7 (by kernel_rfl)<|Al R R R<|An (i:=0) R R R ld183 R R R<|A0 (by kernel_rfl)<|As (b11,b12) hm (Ag [0,0,0] R R)
    ·refine Al R R R<|A3 z183 fun b13=>Ah 3 (by kernel_rfl)<|Bd hm fun r6 h25 hm=>Al R R R<|Au 0 R fn174 R (K16 b r6 h25) fun _ _ h26=> ?_
     obtain ⟨rfl,rfl⟩:=h26
     exact Ah 6 (by kernel_rfl)<|Al R R R<|An (i:=1) R R R ld183 R R R<|Ah 7 (by kernel_rfl)<|Al R R R<|An (i:=0) R R R ld183 R R R<|A0 (by kernel_rfl)<|As (b11,b13) hm (Ag [0,0,0] R R)
   ·refine Al R R R<|A3 z183 fun b14=> ?_
    refine Bm [3,4] (by kernel_rfl) ⟨?_,?_,trivial⟩
    ·refine Bd hm fun r7 h28 hm=>Al R R R<|Au 0 R fn174 R (K16 b r7 h28) fun _ _ h30=> ?_
     obtain ⟨rfl,rfl⟩:=h30
     exact Ah 4 (by kernel_rfl)<|Al R R R<|A3 z183 fun b15=>Ah 6 (by kernel_rfl)<|Al R R R<|An (i:=0) R R R ld183 R R R<|Ah 7 (by kernel_rfl)<|Al R R R<|An (i:=1) R R R ld183 R R R<|A0 (by kernel_rfl)<|As (b15,b14) hm (Ag [1,0,0] R R)
    ·refine Al R R R<|A3 z183 fun b16=>Ah 3 (by kernel_rfl)<|Bd hm fun r8 h32 hm=>Al R R R<|Au 0 R fn174 R (K16 b r8 h32) fun _ _ h33=> ?_
     obtain ⟨rfl,rfl⟩:=h33
     exact Ah 6 (by kernel_rfl)<|Al R R R<|An (i:=0) R R R ld183 R R R<|Ah 7 (by kernel_rfl)<|Al R R R<|An (i:=1) R R R ld183 R R R<|A0 (by kernel_rfl)<|As (b16,b14) hm (Ag [1,0,0] R R)
  ·refine Al R R R<|A3 z183 fun b17=> ?_
   refine Bm [1,5] (by kernel_rfl) ⟨?_,?_,trivial⟩
   ·refine Bd hm fun r9 h36 hm=>Al R R R<|Au 0 R fn174 R (K16 a r9 h36) fun _ _ h43=> ?_
    obtain ⟨rfl,rfl⟩:=h43
    refine Bm [3,5] (by kernel_rfl) ⟨?_,?_,trivial⟩
    ·refine Bd hm fun r10 h37 hm=>Al R R R<|Au 0 R fn174 R (K16 b r10 h37) fun _ _ h39=> ?_
     obtain ⟨rfl,rfl⟩:=h39
     exact Ah 5 (by kernel_rfl)<|Al R R R<|A3 z183 fun b18=>Ah 6 (by kernel_rfl)<|Al R R R<|An (i:=1) R R R ld183 R R R<|Ah 7 (by kernel_rfl)<|Al R R R<|An (i:=0) R R R ld183 R R R<|A0 (by kernel_rfl)<|As (b17,b18) hm (Ag [0,0,0] R R)
    ·refine Al R R R<|A3 z183 fun b19=>Ah 3 (by kernel_rfl)<|Bd hm fun r11 h41 hm=>Al R R R<|Au 0 R fn174 R (K16 b r11 h41) fun _ _ h42=> ?_
     obtain ⟨rfl,rfl⟩:=h42
     exact Ah 6 (by kernel_rfl)<|Al R R R<|An (i:=1) R R R ld183 R R R<|Ah 7 (by kernel_rfl)<|Al R R R<|An (i:=0) R R R ld183 R R R<|A0 (by kernel_rfl)<|As (b17,b19) hm (Ag [0,0,0] R R)
   ·refine Al R R R<|A3 z183 fun b20=>Ah 1 (by kernel_rfl)<|Bd hm fun r12 h45 hm=>Al R R R<|Au 0 R fn174 R (K16 a r12 h45) fun _ _ h48=> ?_
    obtain ⟨rfl,rfl⟩:=h48
    refine Ah 3 (by kernel_rfl)<|Bd hm fun r13 h46 hm=>Al R R R<|Au 0 R fn174 R (K16 b r13 h46) fun _ _ h47=> ?_
    obtain ⟨rfl,rfl⟩:=h47
    exact Ah 6 (by kernel_rfl)<|Al R R R<|An (i:=1) R R R ld183 R R R<|Ah 7 (by kernel_rfl)<|Al R R R<|An (i:=0) R R R ld183 R R R<|A0 (by kernel_rfl)<|As (b17,b20) hm (Ag [0,0,0] R R)
  ·refine Al R R R<|A3 z183 fun b21=> ?_
   refine Bm [1,4] (by kernel_rfl) ⟨?_,?_,trivial⟩
   ·refine Bd hm fun r14 h50 hm=>Al R R R<|Au 0 R fn174 R (K16 a r14 h50) fun _ _ h57=> ?_
    obtain ⟨rfl,rfl⟩:=h57
    refine Bm [3,4] (by kernel_rfl) ⟨?_,?_,trivial⟩
    ·refine Bd hm fun r15 h51 hm=>Al R R R<|Au 0 R fn174 R (K16 b r15 h51) fun _ _ h53=> ?_
     obtain ⟨rfl,rfl⟩:=h53
     exact Ah 4 (by kernel_rfl)<|Al R R R<|A3 z183 fun b22=>Ah 6 (by kernel_rfl)<|Al R R R<|An (i:=0) R R R ld183 R R R<|Ah 7 (by kernel_rfl)<|Al R R R<|An (i:=1) R R R ld183 R R R<|A0 (by kernel_rfl)<|As (b22,b21) hm (Ag [1,0,0] R R)
    ·refine Al R R R<|A3 z183 fun b23=>Ah 3 (by kernel_rfl)<|Bd hm fun r16 h55 hm=>Al R R R<|Au 0 R fn174 R (K16 b r16 h55) fun _ _ h56=> ?_
     obtain ⟨rfl,rfl⟩:=h56
     exact Ah 6 (by kernel_rfl)<|Al R R R<|An (i:=0) R R R ld183 R R R<|Ah 7 (by kernel_rfl)<|Al R R R<|An (i:=1) R R R ld183 R R R<|A0 (by kernel_rfl)<|As (b23,b21) hm (Ag [1,0,0] R R)
   ·refine Al R R R<|A3 z183 fun b24=>Ah 1 (by kernel_rfl)<|Bd hm fun r17 h59 hm=>Al R R R<|Au 0 R fn174 R (K16 a r17 h59) fun _ _ h62=> ?_
    obtain ⟨rfl,rfl⟩:=h62
    refine Ah 3 (by kernel_rfl)<|Bd hm fun r18 h60 hm=>Al R R R<|Au 0 R fn174 R (K16 b r18 h60) fun _ _ h61=> ?_
    obtain ⟨rfl,rfl⟩:=h61
    exact Ah 6 (by kernel_rfl)<|Al R R R<|An (i:=0) R R R ld183 R R R<|Ah 7 (by kernel_rfl)<|Al R R R<|An (i:=1) R R R ld183 R R R<|A0 (by kernel_rfl)<|As (b24,b21) hm (Ag [1,0,0] R R)
 refine Af<|Ae tbk [] R R<|Cn hm (fun _ (_:Unit)=>[(3,Iw wrong),(8,.ptr b4 0),(10,.ptr b5 0)]) (fun l42 (_:Unit)=>[X183 b5 l42,X41 b4 (⟨(0 : Int),(0 : Int),(0 : Int),(0 : Int),(0 : Int)⟩ : T_api_Res)]) (fun o2 hm=>?_) fun l42 _ hm=> ?_
 ·refine B1 (fun zn (zs:Arr5_Int × Int)=>res_each_res_Add_1.l1 j zn zs.1 zs.2) (fun zs (_:Unit)=>[(2,.clo (.func 210) [] []),(3,Iw wrong),(8,.ptr b4 0),(10,.ptr b5 0),(11,.ptr b6 0),(27,Iw zs.2)]) (fun zs (_:Unit)=>[X183 b6 j.2,X183 b5 zs.1,X41 b4 (⟨(0 : Int),(0 : Int),(0 : Int),(0 : Int),(0 : Int)⟩ : T_api_Res)]) (j.1,(0 : Int)) () (fun _=>R) hm (Ag [0,0,0] R R) fun n=>Pq fun l3 v2 _ hm=> ?_
  rw [res_each_res_Add_1.l1] at hm
  exact Ae tbk [] R R<|Af<|Ao hm R (fun h65 hm=>Am<|Af<|A2<|Ae tbk [] R R<|Bz (Bi [1,0,0] R)<|Be 1 mixed<|Aq tbk [0,1,2] [] (by kernel_rfl) R R R<|Bd hm fun x h66 hm=>Ax 3 R R R (by kernel_rfl) (Cz R R ar183 (gl_pos2 h66).1 (gl_pos2 h66).2)<|Ax 5 R R R (by kernel_rfl) (Aj R)<|Bd hm fun x2 h67 hm=>Ax 6 R R R (by kernel_rfl) (Cz R R ar183 (gl_pos2 h67).1 (gl_pos2 h67).2)<|Ax 7 R R R (by kernel_rfl) (Dq 0 (f:=(VV.int .i64)) (l:=Arr5_Int.l j.2) R R ld3 R h67)<|Ah 4 (by kernel_rfl)<|Al R R R<|A8 (Dq 0 (f:=(VV.int .i64)) (l:=Arr5_Int.l l3) R R ld3 R h66)<|Ah 8 (by kernel_rfl)<|Al R R R<|Av hm 0 R fn210 R (K105 _ _) fun r19 hm=>Bd hm fun x3 h69 hm=>Ax 9 R R R (by kernel_rfl) (Cz R R ar183 (gl_pos2 h69).1 (gl_pos2 h69).2)<|Ah 10 (by kernel_rfl)<|Bd hm fun l6 h70 hm=>Al R R R<|VO.storeA 0 (f:=(VV.int .i64)) (l:=Arr5_Int.l l3) R R R ld3 R R (Arr5_Int.put_some h70)<|A0 (by kernel_rfl)<|Bc tbk [] R R<|Ap (l6,(IntKind.i64.wrap (v2 + (1 : Int)))) () hm (Ag [1,0,0] R R)) fun h65 hm=>A7<|As () hm (Ag [1,1] R R)
 exact Af<|Ai<|Aa tbk [0] 1 R R<|Ad R R<|Av hm 0 R fn229 R (K106 _) fun r20 hm=>Ad R R<|A3 z41 fun b25=>Ad R R<|An (i:=0) R R R ld41 R R R<|Ac<|Ai<|Aa tbk [0] 1 R R<|Ad R R<|Av hm 0 R fn130 R (K17 _) fun r21 hm=>Ac<|Ao hm R (fun h74 hm=>Ai<|Aa tbk [0] 1 R R<|Ad R R<|An (i:=2) R R R ld41 R R R<|Ab R R (Ak R)<|Ac<|Rt0 hm R [] (.cons (.cell _ _ _ _ 2 _ _ _ _ R R ld41 R) (.cons (.tmp _ _ R) .nil)) R R) fun h74 hm=>Am<|Ai<|Ab R R (B4 pl41 R R)<|Ab R R (Aj R)<|Ad R R<|An (i:=2) R R R ld41 R R R<|Ab R R (Ak R)<|Ac<|Rt0 hm R [] (.cons (.cell _ _ _ _ 2 _ _ _ _ R R ld41 R) (.cons (.tmp _ _ R) .nil)) R R

/-! trireme/res.Add -/
def res_Add (a : T_api_Res) (b : T_api_Res) : Option (T_api_Res × Int) :=
 (res_each_res_Add_1 a b (10 : Int)).bind fun r =>
 some (r.1, r.2)
theorem K108 (a : T_api_Res) (b : T_api_Res) : VS Tryz.prog 183 (res_Add a b) [T_api_Res.vv a, T_api_Res.vv b] [] (fun r=>.tup [T_api_Res.vv r.1, Iw r.2]) N0 := by
 refine A4 [.cell 4 41,.tmp 5] Tryz.func183 R R R fun r hm=>?_
 unfold res_Add at hm
 exact Ai<|Ad R R<|Bg R R fun b2=>Ad R R<|Bg R R fun b3=>Ad R R<|A3 z41 fun b4=>Ab R R (Ak R)<|Ac<|Ai<|Aa tbk [2,1] 2 R R<|Ad R R<|Av hm 0 R fn209 R (K107 _ _ _) fun r hm=>Aa tbk [] 2 R R<|Ad R R<|An (i:=0) R R R ld41 R R R<|Ab R R (Ak R)<|Ac<|Rt0 hm R [] (.cons (.cell _ _ _ _ 0 _ _ _ _ R R ld41 R) (.cons (.tmp _ _ R) .nil)) R R

/-! trireme/yard.Used -/
def yard_Used.l1 : List T_api_Pod → Nat → T_api_Res → Option (Out (T_api_Res × Int) T_api_Res)
 | [], k, sum2 => some (Out.go sum2)
 | x :: l, k, sum2 =>
  (res_Add sum2 x.Need).bind fun r3 =>
  if (r3.2 != 0) = true then
   some (Out.ret ((⟨0, 0, 0, 0, 0⟩ : T_api_Res), r3.2))
  else
   yard_Used.l1 l (k + 1) r3.1
def yard_Used (bs : List T_api_Bound) (name : ByteArray) : Option (T_api_Res × Int) :=
 (yard_On bs name).bind fun r =>
 (yard_first_yard_Used_1 (r.length : Int) r).bind fun r2 =>
 if (r2 != (-1)) = true then
  some ((⟨0, 0, 0, 0, 0⟩ : T_api_Res), 12)
 else
  (yard_Used.l1 r 0 (⟨0, 0, 0, 0, 0⟩ : T_api_Res)).bind fun o =>
  o.on fun sum32 =>
  some (sum32, 0)
theorem K109 (bs : List T_api_Bound) (name : ByteArray) : VS Tryz.prog 143 (yard_Used bs name) [L49 bs, .str name] [] (fun r=>.tup [T_api_Res.vv r.1, Iw r.2]) N0 := by
 refine A4 [.cell 4 41,.tmp 5] Tryz.func143 R R R fun r hm=>?_
 unfold yard_Used at hm
 refine Ai<|Ad R R<|A3 z41 fun b=>Ab R R (Ak R)<|Ac<|Ai<|Aa tbk [] 2 R R<|Ad R R<|B3 hm 0 R fn85 R (K82 _ _) fun r ob cap hm=>Bl (A6 0 [(14,L47 r)] R ⟨⟨_,R,.here _ R⟩,trivial⟩ (FzH.refl _))<|Ad R R<|A3 z55 fun b2=>Ad R R<|An (i:=0) R R R ld55 R R R<|Ac<|Af<|Ai<|Aa tbk [0] 1 R R<|Ab R R (Aw T_api_Pod.vv R Cy)<|Ab R R (Cd R R)<|Ad R R<|Av hm 1 R fn96 R (K104 _ _ _) fun r2 hm=>Ab R R (Ba R R R)<|Ac<|Ao hm R (fun h6 hm=>Ai<|Ab R R (B4 pl41 R R)<|Ad R R<|An (i:=1) R R R ld41 R R R<|Ab R R (Ak R)<|Ac<|Rt0 hm R [] (.cons (.cell _ _ _ _ 1 _ _ _ _ R R ld41 R) (.cons (.tmp _ _ R) .nil)) R R) fun h6 hm=>Am<|Ai<|Ab R R (B4 pl41 R R)<|Ad R R<|A3 z41 fun b3=>Ad R R<|An (i:=0) R R R ld41 R R R<|Ac<|Af<|Ai<|Aa tbk [1] 1 R R<|Ab R R (Aw T_api_Pod.vv R Cy)<|Ab R R (Aj R)<|Ac<|Cj 22 R fun h10=>Bw hm (fun _ (_:Unit)=>[(4,.ptr b 0),(7,.ptr b3 0)]) (fun sum32 (_:Unit)=>[X41 b3 sum32,X41 b (⟨(0 : Int),(0 : Int),(0 : Int),(0 : Int),(0 : Int)⟩ : T_api_Res)]) (fun o hm h9=>?_) fun sum32 _ hm=> ?_
 ·refine Cx (r) (fun zl zk (zs:T_api_Res)=>yard_Used.l1 zl zk zs) (fun k _ (_:Unit)=>[(4,.ptr b 0),(7,.ptr b3 0),(22,L47 r),(23,Iw (r.length : Int)),(24,Iw (k : Int))]) (fun _ zs (_:Unit)=>[X41 b3 zs,X41 b (⟨(0 : Int),(0 : Int),(0 : Int),(0 : Int),(0 : Int)⟩ : T_api_Res)]) _ () hm (Ag [0,1] R R) (fun k sum2 _ hk hm=>?_) fun k x l sum2 _ h11 hm=> ?_
  ·rw [yard_Used.l1] at hm
   exact Ae tbk [] R R<|Af<|Ca R (k_end hk)<|A7<|Ar () hm (Ag [0,0] R R)
  rw [yard_Used.l1] at hm
  exact Ae tbk [] R R<|Af<|B7 R (k_lt h11)<|Am<|Af<|A2<|Ai<|Ab R R (Cp T_api_Pod.vv R R el55 h11)<|Ab R R (Bt R ld47 R)<|Ad R R<|A3 z47 fun b4=>Ad R R<|An (i:=0) R R R ld47 R R R<|Ac<|Ai<|Aa tbk [1,0] 3 R R<|Ad R R<|Av hm 0 R fn183 R (K108 _ _) fun r3 hm=>Aa tbk [] 3 R R<|Ad R R<|A3 z41 fun b5=>Ad R R<|An (i:=0) R R R ld41 R R R<|Ab R R (Ak R)<|Ac<|Af<|Ae tbk [] R R<|Ao hm R (fun h15 hm=>Ai<|Ab R R (B4 pl41 R R)<|Ab R R (Aj R)<|Ad R R<|An (i:=3) R R R ld41 R R R<|Ab R R (Ak R)<|Ac<|have hm:=Lr hm h9;Rt0 hm R [] (.cons (.cell _ _ _ _ 3 _ _ _ _ R R ld41 R) (.cons (.tmp _ _ R) .nil)) R R) fun h15 hm=>Am<|Bn<|Aa tbk [0] 1 R R<|Ad R R<|An (i:=2) R R R ld41 R R R<|Ac<|Bc tbk [] R R<|Ap _ () hm (B0 [2,2] R ⟨R,R,R,R,congrArg some (k_next h11 h10),trivial⟩)
 exact Ai<|Aa tbk [0] 1 R R<|Ad R R<|An (i:=1) R R R ld41 R R R<|Ab R R (Ak R)<|Ac<|Rt0 hm R [] (.cons (.cell _ _ _ _ 1 _ _ _ _ R R ld41 R) (.cons (.tmp _ _ R) .nil)) R R

/-! trireme/res.Least$1 -/
def res_Least_1 (x : Int) (y : Int) : Option Int :=
 some (min x y)
theorem K110 (x : Int) (y : Int) : VS Tryz.prog 241 (res_Least_1 x y) [Iw x, Iw y] [] Iw N0 := by
 refine A4 [.tmp 4] Tryz.func241 R R R fun r hm=>?_
 unfold res_Least_1 at hm
 exact Ae tbk [] R R<|Ai<|Aa tbk [] 2 R R<|Ab R R (VP.min2 R R)<|Ab R R (Ak R)<|Ac<|Rt1 hm R [] R R R

/-! trireme/res.each -/
def res_each_res_Least_1.l1 (j : Arr5_Int × Arr5_Int) : Nat → Arr5_Int → Int → Option Arr5_Int
 | 0, _, _ => none
 | n + 1, l3, v2 =>
  if (decide (v2 < 5)) = true then
   (V.gl (Arr5_Int.l l3) v2).bind fun x =>
   (V.gl (Arr5_Int.l j.2) v2).bind fun x2 =>
   (res_Least_1 x x2).bind fun r19 =>
   (V.gl (Arr5_Int.l l3) v2).bind fun x3 =>
   (Arr5_Int.put l3 v2 r19).bind fun l6 =>
   res_each_res_Least_1.l1 j n l6 (i64.wrap (v2 + 1))
  else
   some l3
def res_each_res_Least_1 (a : T_api_Res) (b : T_api_Res) (wrong : Int) : Option (T_api_Res × Int) :=
 (res_Right a).bind fun r =>
 (if (!r) = true then some true else (res_Right b).bind fun r2 =>
 some (!r2)).bind fun c =>
 if c = true then
  some ((⟨0, 0, 0, 0, 0⟩ : T_api_Res), 1)
 else
  ((res_row a).bind fun r3 =>
  (res_row b).bind fun r4 =>
  some (r3, r4)).bind fun j =>
  (res_each_res_Least_1.l1 j FU j.1 (0 : Int)).bind fun l42 =>
  (res_back l42).bind fun r20 =>
  (res_Right r20).bind fun r21 =>
  if r21 = true then
   some (r20, 0)
  else
   some ((⟨0, 0, 0, 0, 0⟩ : T_api_Res), wrong)
theorem K111 (a : T_api_Res) (b : T_api_Res) (wrong : Int) : VS Tryz.prog 209 (res_each_res_Least_1 a b wrong) [T_api_Res.vv a, T_api_Res.vv b, .clo (.func 241) [] [], Iw wrong] [] (fun r=>.tup [T_api_Res.vv r.1, Iw r.2]) N0 := by
 refine A4 [.cell 8 41,.tmp 9] Dx R R R fun r hm=>?_
 unfold res_each_res_Least_1 at hm
 refine Ai<|Ad R R<|Bg R R fun b2=>Ad R R<|Bg R R fun b3=>Ad R R<|A3 z41 fun b4=>Ab R R (Ak R)<|Ac<|Af<|Ai<|Aa tbk [2] 1 R R<|Ad R R<|Av hm 0 R fn130 R (K17 _) fun r hm=>Aa tbk [] 2 R R<|Bh hm 4 21 17 R (fun _ K' h5 J hm=>Aa tbk [] 4 R R<|J 3 R R (Bj hm)) (fun _ K' h5 J hm=>Aa tbk [1] 1 R R<|A1 R R R R R<|Av hm 0 R fn130 R (K17 _) fun r2 hm=>Aa tbk [] 2 R R<|J 3 R R (Bj hm)) fun c hm=>Ac<|Ao hm R (fun h8 hm=>Ai<|Ab R R (B4 pl41 R R)<|Ad R R<|An (i:=0) R R R ld41 R R R<|Ab R R (Ak R)<|Ac<|Rt0 hm R [] (.cons (.cell _ _ _ _ 0 _ _ _ _ R R ld41 R) (.cons (.tmp _ _ R) .nil)) R R) fun h8 hm=>Am<|Dm hm (fun _ (gg:Nat × Nat)=>[(2,.clo (.func 241) [] []),(3,Iw wrong),(8,.ptr b4 0),(10,.ptr gg.1 0),(11,.ptr gg.2 0)]) (fun j (gg:Nat × Nat)=>[X183 gg.2 j.2,X183 gg.1 j.1,X41 b4 (⟨(0 : Int),(0 : Int),(0 : Int),(0 : Int),(0 : Int)⟩ : T_api_Res)]) (fun o hm=>?_) fun j=>Pq fun b5 b6 hm=> ?_
 ·refine Be 0 mixed<|Aq tbk [0,2] [2,1] (by kernel_rfl) R R R<|?_
  refine Bm [1,4,5] (by kernel_rfl) ⟨?_,?_,?_,trivial⟩
  ·refine Bd hm fun r3 h13 hm=>Al R R R<|Au 0 R fn174 R (K16 a r3 h13) fun _ _ h34=> ?_
   obtain ⟨rfl,rfl⟩:=h34
   refine Bm [3,4,5] (by kernel_rfl) ⟨?_,?_,?_,trivial⟩
   ·refine Bd hm fun r4 h14 hm=>Al R R R<|Au 0 R fn174 R (K16 b r4 h14) fun _ _ h19=> ?_
    obtain ⟨rfl,rfl⟩:=h19
    refine Bm [4,5] (by kernel_rfl) ⟨?_,?_,trivial⟩
    ·exact Al R R R<|A3 z183 fun b7=>Ah 5 (by kernel_rfl)<|Al R R R<|A3 z183 fun b8=>Ah 6 (by kernel_rfl)<|Al R R R<|An (i:=1) R R R ld183 R R R<|Ah 7 (by kernel_rfl)<|Al R R R<|An (i:=0) R R R ld183 R R R<|A0 (by kernel_rfl)<|As (b7,b8) hm (Ag [0,0,0] R R)
    ·exact Al R R R<|A3 z183 fun b9=>Ah 4 (by kernel_rfl)<|Al R R R<|A3 z183 fun b10=>Ah 6 (by kernel_rfl)<|Al R R R<|An (i:=0) R R R ld183 R R R<|Ah 7 (by kernel_rfl)<|Al R R R<|An (i:=1) R R R ld183 R R R<|A0 (by kernel_rfl)<|As (b10,b9) hm (Ag [1,0,0] R R)
   ·refine Al R R R<|A3 z183 fun b11=> ?_
    refine Bm [3,5] (by kernel_rfl) ⟨?_,?_,trivial⟩
    ·refine Bd hm fun r5 h21 hm=>Al R R R<|Au 0 R fn174 R (K16 b r5 h21) fun _ _ h23=> ?_
     obtain ⟨rfl,rfl⟩:=h23
     exact Ah 5 (by kernel_rfl)<|Al R R R<|A3 z183 fun b12=>Ah 6 (by kernel_rfl)<|Al R R R<|An (i:=1) R R R ld183 R R R<|Ah 7 (by kernel_rfl)<|Al R R R<|An (i:=0) R R R ld183 R R R<|A0 (by kernel_rfl)<|As (b11,b12) hm (Ag [0,0,0] R R)
    ·refine Al R R R<|A3 z183 fun b13=>Ah 3 (by kernel_rfl)<|Bd hm fun r6 h25 hm=>Al R R R<|Au 0 R fn174 R (K16 b r6 h25) fun _ _ h26=> ?_
     obtain ⟨rfl,rfl⟩:=h26
     exact Ah 6 (by kernel_rfl)<|Al R R R<|An (i:=1) R R R ld183 R R R<|Ah 7 (by kernel_rfl)<|Al R R R<|An (i:=0) R R R ld183 R R R<|A0 (by kernel_rfl)<|As (b11,b13) hm (Ag [0,0,0] R R)
   ·refine Al R R R<|A3 z183 fun b14=> ?_
    refine Bm [3,4] (by kernel_rfl) ⟨?_,?_,trivial⟩
    ·refine Bd hm fun r7 h28 hm=>Al R R R<|Au 0 R fn174 R (K16 b r7 h28) fun _ _ h30=> ?_
     obtain ⟨rfl,rfl⟩:=h30
     exact Ah 4 (by kernel_rfl)<|Al R R R<|A3 z183 fun b15=>Ah 6 (by kernel_rfl)<|Al R R R<|An (i:=0) R R R ld183 R R R<|Ah 7 (by kernel_rfl)<|Al R R R<|An (i:=1) R R R ld183 R R R<|A0 (by kernel_rfl)<|As (b15,b14) hm (Ag [1,0,0] R R)
    ·refine Al R R R<|A3 z183 fun b16=>Ah 3 (by kernel_rfl)<|Bd hm fun r8 h32 hm=>Al R R R<|Au 0 R fn174 R (K16 b r8 h32) fun _ _ h33=> ?_
     obtain ⟨rfl,rfl⟩:=h33
     exact Ah 6 (by kernel_rfl)<|Al R R R<|An (i:=0) R R R ld183 R R R<|Ah 7 (by kernel_rfl)<|Al R R R<|An (i:=1) R R R ld183 R R R<|A0 (by kernel_rfl)<|As (b16,b14) hm (Ag [1,0,0] R R)
  ·refine Al R R R<|A3 z183 fun b17=> ?_
   refine Bm [1,5] (by kernel_rfl) ⟨?_,?_,trivial⟩
   ·refine Bd hm fun r9 h36 hm=>Al R R R<|Au 0 R fn174 R (K16 a r9 h36) fun _ _ h43=> ?_
    obtain ⟨rfl,rfl⟩:=h43
    refine Bm [3,5] (by kernel_rfl) ⟨?_,?_,trivial⟩
    ·refine Bd hm fun r10 h37 hm=>Al R R R<|Au 0 R fn174 R (K16 b r10 h37) fun _ _ h39=> ?_
     obtain ⟨rfl,rfl⟩:=h39
     exact Ah 5 (by kernel_rfl)<|Al R R R<|A3 z183 fun b18=>Ah 6 (by kernel_rfl)<|Al R R R<|An (i:=1) R R R ld183 R R R<|Ah 7 (by kernel_rfl)<|Al R R R<|An (i:=0) R R R ld183 R R R<|A0 (by kernel_rfl)<|As (b17,b18) hm (Ag [0,0,0] R R)
    ·refine Al R R R<|A3 z183 fun b19=>Ah 3 (by kernel_rfl)<|Bd hm fun r11 h41 hm=>Al R R R<|Au 0 R fn174 R (K16 b r11 h41) fun _ _ h42=> ?_
     obtain ⟨rfl,rfl⟩:=h42
     exact Ah 6 (by kernel_rfl)<|Al R R R<|An (i:=1) R R R ld183 R R R<|Ah 7 (by kernel_rfl)<|Al R R R<|An (i:=0) R R R ld183 R R R<|A0 (by kernel_rfl)<|As (b17,b19) hm (Ag [0,0,0] R R)
   ·refine Al R R R<|A3 z183 fun b20=>Ah 1 (by kernel_rfl)<|Bd hm fun r12 h45 hm=>Al R R R<|Au 0 R fn174 R (K16 a r12 h45) fun _ _ h48=> ?_
    obtain ⟨rfl,rfl⟩:=h48
    refine Ah 3 (by kernel_rfl)<|Bd hm fun r13 h46 hm=>Al R R R<|Au 0 R fn174 R (K16 b r13 h46) fun _ _ h47=> ?_
    obtain ⟨rfl,rfl⟩:=h47
    exact Ah 6 (by kernel_rfl)<|Al R R R<|An (i:=1) R R R ld183 R R R<|Ah 7 (by kernel_rfl)<|Al R R R<|An (i:=0) R R R ld183 R R R<|A0 (by kernel_rfl)<|As (b17,b20) hm (Ag [0,0,0] R R)
  ·refine Al R R R<|A3 z183 fun b21=> ?_
   refine Bm [1,4] (by kernel_rfl) ⟨?_,?_,trivial⟩
   ·refine Bd hm fun r14 h50 hm=>Al R R R<|Au 0 R fn174 R (K16 a r14 h50) fun _ _ h57=> ?_
    obtain ⟨rfl,rfl⟩:=h57
    refine Bm [3,4] (by kernel_rfl) ⟨?_,?_,trivial⟩
    ·refine Bd hm fun r15 h51 hm=>Al R R R<|Au 0 R fn174 R (K16 b r15 h51) fun _ _ h53=> ?_
     obtain ⟨rfl,rfl⟩:=h53
     exact Ah 4 (by kernel_rfl)<|Al R R R<|A3 z183 fun b22=>Ah 6 (by kernel_rfl)<|Al R R R<|An (i:=0) R R R ld183 R R R<|Ah 7 (by kernel_rfl)<|Al R R R<|An (i:=1) R R R ld183 R R R<|A0 (by kernel_rfl)<|As (b22,b21) hm (Ag [1,0,0] R R)
    ·refine Al R R R<|A3 z183 fun b23=>Ah 3 (by kernel_rfl)<|Bd hm fun r16 h55 hm=>Al R R R<|Au 0 R fn174 R (K16 b r16 h55) fun _ _ h56=> ?_
     obtain ⟨rfl,rfl⟩:=h56
     exact Ah 6 (by kernel_rfl)<|Al R R R<|An (i:=0) R R R ld183 R R R<|Ah 7 (by kernel_rfl)<|Al R R R<|An (i:=1) R R R ld183 R R R<|A0 (by kernel_rfl)<|As (b23,b21) hm (Ag [1,0,0] R R)
   ·refine Al R R R<|A3 z183 fun b24=>Ah 1 (by kernel_rfl)<|Bd hm fun r17 h59 hm=>Al R R R<|Au 0 R fn174 R (K16 a r17 h59) fun _ _ h62=> ?_
    obtain ⟨rfl,rfl⟩:=h62
    refine Ah 3 (by kernel_rfl)<|Bd hm fun r18 h60 hm=>Al R R R<|Au 0 R fn174 R (K16 b r18 h60) fun _ _ h61=> ?_
    obtain ⟨rfl,rfl⟩:=h61
    exact Ah 6 (by kernel_rfl)<|Al R R R<|An (i:=0) R R R ld183 R R R<|Ah 7 (by kernel_rfl)<|Al R R R<|An (i:=1) R R R ld183 R R R<|A0 (by kernel_rfl)<|As (b24,b21) hm (Ag [1,0,0] R R)
 refine Af<|Ae tbk [] R R<|Cn hm (fun _ (_:Unit)=>[(3,Iw wrong),(8,.ptr b4 0),(10,.ptr b5 0)]) (fun l42 (_:Unit)=>[X183 b5 l42,X41 b4 (⟨(0 : Int),(0 : Int),(0 : Int),(0 : Int),(0 : Int)⟩ : T_api_Res)]) (fun o2 hm=>?_) fun l42 _ hm=> ?_
 ·refine B1 (fun zn (zs:Arr5_Int × Int)=>res_each_res_Least_1.l1 j zn zs.1 zs.2) (fun zs (_:Unit)=>[(2,.clo (.func 241) [] []),(3,Iw wrong),(8,.ptr b4 0),(10,.ptr b5 0),(11,.ptr b6 0),(27,Iw zs.2)]) (fun zs (_:Unit)=>[X183 b6 j.2,X183 b5 zs.1,X41 b4 (⟨(0 : Int),(0 : Int),(0 : Int),(0 : Int),(0 : Int)⟩ : T_api_Res)]) (j.1,(0 : Int)) () (fun _=>R) hm (Ag [0,0,0] R R) fun n=>Pq fun l3 v2 _ hm=> ?_
  rw [res_each_res_Least_1.l1] at hm
  exact Ae tbk [] R R<|Af<|Ao hm R (fun h65 hm=>Am<|Af<|A2<|Ae tbk [] R R<|Bz (Bi [1,0,0] R)<|Be 1 mixed<|Aq tbk [0,1,2] [] (by kernel_rfl) R R R<|Bd hm fun x h66 hm=>Ax 3 R R R (by kernel_rfl) (Cz R R ar183 (gl_pos2 h66).1 (gl_pos2 h66).2)<|Ax 5 R R R (by kernel_rfl) (Aj R)<|Bd hm fun x2 h67 hm=>Ax 6 R R R (by kernel_rfl) (Cz R R ar183 (gl_pos2 h67).1 (gl_pos2 h67).2)<|Ax 7 R R R (by kernel_rfl) (Dq 0 (f:=(VV.int .i64)) (l:=Arr5_Int.l j.2) R R ld3 R h67)<|Ah 4 (by kernel_rfl)<|Al R R R<|A8 (Dq 0 (f:=(VV.int .i64)) (l:=Arr5_Int.l l3) R R ld3 R h66)<|Ah 8 (by kernel_rfl)<|Al R R R<|Av hm 0 R fn241 R (K110 _ _) fun r19 hm=>Bd hm fun x3 h69 hm=>Ax 9 R R R (by kernel_rfl) (Cz R R ar183 (gl_pos2 h69).1 (gl_pos2 h69).2)<|Ah 10 (by kernel_rfl)<|Bd hm fun l6 h70 hm=>Al R R R<|VO.storeA 0 (f:=(VV.int .i64)) (l:=Arr5_Int.l l3) R R R ld3 R R (Arr5_Int.put_some h70)<|A0 (by kernel_rfl)<|Bc tbk [] R R<|Ap (l6,(IntKind.i64.wrap (v2 + (1 : Int)))) () hm (Ag [1,0,0] R R)) fun h65 hm=>A7<|As () hm (Ag [1,1] R R)
 exact Af<|Ai<|Aa tbk [0] 1 R R<|Ad R R<|Av hm 0 R fn229 R (K106 _) fun r20 hm=>Ad R R<|A3 z41 fun b25=>Ad R R<|An (i:=0) R R R ld41 R R R<|Ac<|Ai<|Aa tbk [0] 1 R R<|Ad R R<|Av hm 0 R fn130 R (K17 _) fun r21 hm=>Ac<|Ao hm R (fun h74 hm=>Ai<|Aa tbk [0] 1 R R<|Ad R R<|An (i:=2) R R R ld41 R R R<|Ab R R (Ak R)<|Ac<|Rt0 hm R [] (.cons (.cell _ _ _ _ 2 _ _ _ _ R R ld41 R) (.cons (.tmp _ _ R) .nil)) R R) fun h74 hm=>Am<|Ai<|Ab R R (B4 pl41 R R)<|Ab R R (Aj R)<|Ad R R<|An (i:=2) R R R ld41 R R R<|Ab R R (Ak R)<|Ac<|Rt0 hm R [] (.cons (.cell _ _ _ _ 2 _ _ _ _ R R ld41 R) (.cons (.tmp _ _ R) .nil)) R R

/-! trireme/res.Least -/
def res_Least (a : T_api_Res) (b : T_api_Res) : Option T_api_Res :=
 (res_each_res_Least_1 a b (10 : Int)).bind fun r =>
 some r.1
theorem K112 (a : T_api_Res) (b : T_api_Res) : VS Tryz.prog 234 (res_Least a b) [T_api_Res.vv a, T_api_Res.vv b] [] (fun r=>T_api_Res.vv r) N0 := by
 refine A4 [.cell 4 41] Tryz.func234 R R R fun r hm=>?_
 unfold res_Least at hm
 exact Ai<|Ad R R<|Bg R R fun b2=>Ad R R<|Bg R R fun b3=>Ad R R<|A3 z41 fun b4=>Ac<|Ai<|Aa tbk [2,1] 2 R R<|Ad R R<|Av hm 0 R fn209 R (K111 _ _ _) fun r hm=>Aa tbk [] 3 R R<|Ad R R<|A3 z41 fun b5=>Ad R R<|An (i:=0) R R R ld41 R R R<|Ab R R (Ak R)<|Ac<|Ai<|Aa tbk [0] 1 R R<|Ad R R<|An (i:=1) R R R ld41 R R R<|Ac<|Rt0 hm R [] (.cons (.cell _ _ _ _ 1 _ _ _ _ R R ld41 R) .nil) R R

/-! trireme/res.Sub$1 -/
def res_Sub_1 (x : Int) (y : Int) : Option Int :=
 some (i64.wrap (x - y))
theorem K113 (x : Int) (y : Int) : VS Tryz.prog 240 (res_Sub_1 x y) [Iw x, Iw y] [] Iw N0 := by
 refine A4 [.tmp 4] Tryz.func240 R R R fun r hm=>?_
 unfold res_Sub_1 at hm
 exact Ae tbk [] R R<|Ae tbk [] R R<|Rt1 hm R [] R R R

/-! trireme/res.each -/
def res_each_res_Sub_1.l1 (j : Arr5_Int × Arr5_Int) : Nat → Arr5_Int → Int → Option Arr5_Int
 | 0, _, _ => none
 | n + 1, l3, v2 =>
  if (decide (v2 < 5)) = true then
   (V.gl (Arr5_Int.l l3) v2).bind fun x =>
   (V.gl (Arr5_Int.l j.2) v2).bind fun x2 =>
   (res_Sub_1 x x2).bind fun r19 =>
   (V.gl (Arr5_Int.l l3) v2).bind fun x3 =>
   (Arr5_Int.put l3 v2 r19).bind fun l6 =>
   res_each_res_Sub_1.l1 j n l6 (i64.wrap (v2 + 1))
  else
   some l3
def res_each_res_Sub_1 (a : T_api_Res) (b : T_api_Res) (wrong : Int) : Option (T_api_Res × Int) :=
 (res_Right a).bind fun r =>
 (if (!r) = true then some true else (res_Right b).bind fun r2 =>
 some (!r2)).bind fun c =>
 if c = true then
  some ((⟨0, 0, 0, 0, 0⟩ : T_api_Res), 1)
 else
  ((res_row a).bind fun r3 =>
  (res_row b).bind fun r4 =>
  some (r3, r4)).bind fun j =>
  (res_each_res_Sub_1.l1 j FU j.1 (0 : Int)).bind fun l42 =>
  (res_back l42).bind fun r20 =>
  (res_Right r20).bind fun r21 =>
  if r21 = true then
   some (r20, 0)
  else
   some ((⟨0, 0, 0, 0, 0⟩ : T_api_Res), wrong)
theorem K114 (a : T_api_Res) (b : T_api_Res) (wrong : Int) : VS Tryz.prog 209 (res_each_res_Sub_1 a b wrong) [T_api_Res.vv a, T_api_Res.vv b, .clo (.func 240) [] [], Iw wrong] [] (fun r=>.tup [T_api_Res.vv r.1, Iw r.2]) N0 := by
 refine A4 [.cell 8 41,.tmp 9] Dx R R R fun r hm=>?_
 unfold res_each_res_Sub_1 at hm
 refine Ai<|Ad R R<|Bg R R fun b2=>Ad R R<|Bg R R fun b3=>Ad R R<|A3 z41 fun b4=>Ab R R (Ak R)<|Ac<|Af<|Ai<|Aa tbk [2] 1 R R<|Ad R R<|Av hm 0 R fn130 R (K17 _) fun r hm=>Aa tbk [] 2 R R<|Bh hm 4 21 17 R (fun _ K' h5 J hm=>Aa tbk [] 4 R R<|J 3 R R (Bj hm)) (fun _ K' h5 J hm=>Aa tbk [1] 1 R R<|A1 R R R R R<|Av hm 0 R fn130 R (K17 _) fun r2 hm=>Aa tbk [] 2 R R<|J 3 R R (Bj hm)) fun c hm=>Ac<|Ao hm R (fun h8 hm=>Ai<|Ab R R (B4 pl41 R R)<|Ad R R<|An (i:=0) R R R ld41 R R R<|Ab R R (Ak R)<|Ac<|Rt0 hm R [] (.cons (.cell _ _ _ _ 0 _ _ _ _ R R ld41 R) (.cons (.tmp _ _ R) .nil)) R R) fun h8 hm=>Am<|Dm hm (fun _ (gg:Nat × Nat)=>[(2,.clo (.func 240) [] []),(3,Iw wrong),(8,.ptr b4 0),(10,.ptr gg.1 0),(11,.ptr gg.2 0)]) (fun j (gg:Nat × Nat)=>[X183 gg.2 j.2,X183 gg.1 j.1,X41 b4 (⟨(0 : Int),(0 : Int),(0 : Int),(0 : Int),(0 : Int)⟩ : T_api_Res)]) (fun o hm=>?_) fun j=>Pq fun b5 b6 hm=> ?_
 ·refine Be 0 mixed<|Aq tbk [0,2] [2,1] (by kernel_rfl) R R R<|?_
  refine Bm [1,4,5] (by kernel_rfl) ⟨?_,?_,?_,trivial⟩
  ·refine Bd hm fun r3 h13 hm=>Al R R R<|Au 0 R fn174 R (K16 a r3 h13) fun _ _ h34=> ?_
   obtain ⟨rfl,rfl⟩:=h34
   refine Bm [3,4,5] (by kernel_rfl) ⟨?_,?_,?_,trivial⟩
   ·refine Bd hm fun r4 h14 hm=>Al R R R<|Au 0 R fn174 R (K16 b r4 h14) fun _ _ h19=> ?_
    obtain ⟨rfl,rfl⟩:=h19
    refine Bm [4,5] (by kernel_rfl) ⟨?_,?_,trivial⟩
    ·exact Al R R R<|A3 z183 fun b7=>Ah 5 (by kernel_rfl)<|Al R R R<|A3 z183 fun b8=>Ah 6 (by kernel_rfl)<|Al R R R<|An (i:=1) R R R ld183 R R R<|Ah 7 (by kernel_rfl)<|Al R R R<|An (i:=0) R R R ld183 R R R<|A0 (by kernel_rfl)<|As (b7,b8) hm (Ag [0,0,0] R R)
    ·exact Al R R R<|A3 z183 fun b9=>Ah 4 (by kernel_rfl)<|Al R R R<|A3 z183 fun b10=>Ah 6 (by kernel_rfl)<|Al R R R<|An (i:=0) R R R ld183 R R R<|Ah 7 (by kernel_rfl)<|Al R R R<|An (i:=1) R R R ld183 R R R<|A0 (by kernel_rfl)<|As (b10,b9) hm (Ag [1,0,0] R R)
   ·refine Al R R R<|A3 z183 fun b11=> ?_
    refine Bm [3,5] (by kernel_rfl) ⟨?_,?_,trivial⟩
    ·refine Bd hm fun r5 h21 hm=>Al R R R<|Au 0 R fn174 R (K16 b r5 h21) fun _ _ h23=> ?_
     obtain ⟨rfl,rfl⟩:=h23
     exact Ah 5 (by kernel_rfl)<|Al R R R<|A3 z183 fun b12=>Ah 6 (by kernel_rfl)<|Al R R R<|An (i:=1) R R R ld183 R R R<|Ah 7 (by kernel_rfl)<|Al R R R<|An (i:=0) R R R ld183 R R R<|A0 (by kernel_rfl)<|As (b11,b12) hm (Ag [0,0,0] R R)
    ·refine Al R R R<|A3 z183 fun b13=>Ah 3 (by kernel_rfl)<|Bd hm fun r6 h25 hm=>Al R R R<|Au 0 R fn174 R (K16 b r6 h25) fun _ _ h26=> ?_
     obtain ⟨rfl,rfl⟩:=h26
     exact Ah 6 (by kernel_rfl)<|Al R R R<|An (i:=1) R R R ld183 R R R<|Ah 7 (by kernel_rfl)<|Al R R R<|An (i:=0) R R R ld183 R R R<|A0 (by kernel_rfl)<|As (b11,b13) hm (Ag [0,0,0] R R)
   ·refine Al R R R<|A3 z183 fun b14=> ?_
    refine Bm [3,4] (by kernel_rfl) ⟨?_,?_,trivial⟩
    ·refine Bd hm fun r7 h28 hm=>Al R R R<|Au 0 R fn174 R (K16 b r7 h28) fun _ _ h30=> ?_
     obtain ⟨rfl,rfl⟩:=h30
     exact Ah 4 (by kernel_rfl)<|Al R R R<|A3 z183 fun b15=>Ah 6 (by kernel_rfl)<|Al R R R<|An (i:=0) R R R ld183 R R R<|Ah 7 (by kernel_rfl)<|Al R R R<|An (i:=1) R R R ld183 R R R<|A0 (by kernel_rfl)<|As (b15,b14) hm (Ag [1,0,0] R R)
    ·refine Al R R R<|A3 z183 fun b16=>Ah 3 (by kernel_rfl)<|Bd hm fun r8 h32 hm=>Al R R R<|Au 0 R fn174 R (K16 b r8 h32) fun _ _ h33=> ?_
     obtain ⟨rfl,rfl⟩:=h33
     exact Ah 6 (by kernel_rfl)<|Al R R R<|An (i:=0) R R R ld183 R R R<|Ah 7 (by kernel_rfl)<|Al R R R<|An (i:=1) R R R ld183 R R R<|A0 (by kernel_rfl)<|As (b16,b14) hm (Ag [1,0,0] R R)
  ·refine Al R R R<|A3 z183 fun b17=> ?_
   refine Bm [1,5] (by kernel_rfl) ⟨?_,?_,trivial⟩
   ·refine Bd hm fun r9 h36 hm=>Al R R R<|Au 0 R fn174 R (K16 a r9 h36) fun _ _ h43=> ?_
    obtain ⟨rfl,rfl⟩:=h43
    refine Bm [3,5] (by kernel_rfl) ⟨?_,?_,trivial⟩
    ·refine Bd hm fun r10 h37 hm=>Al R R R<|Au 0 R fn174 R (K16 b r10 h37) fun _ _ h39=> ?_
     obtain ⟨rfl,rfl⟩:=h39
     exact Ah 5 (by kernel_rfl)<|Al R R R<|A3 z183 fun b18=>Ah 6 (by kernel_rfl)<|Al R R R<|An (i:=1) R R R ld183 R R R<|Ah 7 (by kernel_rfl)<|Al R R R<|An (i:=0) R R R ld183 R R R<|A0 (by kernel_rfl)<|As (b17,b18) hm (Ag [0,0,0] R R)
    ·refine Al R R R<|A3 z183 fun b19=>Ah 3 (by kernel_rfl)<|Bd hm fun r11 h41 hm=>Al R R R<|Au 0 R fn174 R (K16 b r11 h41) fun _ _ h42=> ?_
     obtain ⟨rfl,rfl⟩:=h42
     exact Ah 6 (by kernel_rfl)<|Al R R R<|An (i:=1) R R R ld183 R R R<|Ah 7 (by kernel_rfl)<|Al R R R<|An (i:=0) R R R ld183 R R R<|A0 (by kernel_rfl)<|As (b17,b19) hm (Ag [0,0,0] R R)
   ·refine Al R R R<|A3 z183 fun b20=>Ah 1 (by kernel_rfl)<|Bd hm fun r12 h45 hm=>Al R R R<|Au 0 R fn174 R (K16 a r12 h45) fun _ _ h48=> ?_
    obtain ⟨rfl,rfl⟩:=h48
    refine Ah 3 (by kernel_rfl)<|Bd hm fun r13 h46 hm=>Al R R R<|Au 0 R fn174 R (K16 b r13 h46) fun _ _ h47=> ?_
    obtain ⟨rfl,rfl⟩:=h47
    exact Ah 6 (by kernel_rfl)<|Al R R R<|An (i:=1) R R R ld183 R R R<|Ah 7 (by kernel_rfl)<|Al R R R<|An (i:=0) R R R ld183 R R R<|A0 (by kernel_rfl)<|As (b17,b20) hm (Ag [0,0,0] R R)
  ·refine Al R R R<|A3 z183 fun b21=> ?_
   refine Bm [1,4] (by kernel_rfl) ⟨?_,?_,trivial⟩
   ·refine Bd hm fun r14 h50 hm=>Al R R R<|Au 0 R fn174 R (K16 a r14 h50) fun _ _ h57=> ?_
    obtain ⟨rfl,rfl⟩:=h57
    refine Bm [3,4] (by kernel_rfl) ⟨?_,?_,trivial⟩
    ·refine Bd hm fun r15 h51 hm=>Al R R R<|Au 0 R fn174 R (K16 b r15 h51) fun _ _ h53=> ?_
     obtain ⟨rfl,rfl⟩:=h53
     exact Ah 4 (by kernel_rfl)<|Al R R R<|A3 z183 fun b22=>Ah 6 (by kernel_rfl)<|Al R R R<|An (i:=0) R R R ld183 R R R<|Ah 7 (by kernel_rfl)<|Al R R R<|An (i:=1) R R R ld183 R R R<|A0 (by kernel_rfl)<|As (b22,b21) hm (Ag [1,0,0] R R)
    ·refine Al R R R<|A3 z183 fun b23=>Ah 3 (by kernel_rfl)<|Bd hm fun r16 h55 hm=>Al R R R<|Au 0 R fn174 R (K16 b r16 h55) fun _ _ h56=> ?_
     obtain ⟨rfl,rfl⟩:=h56
     exact Ah 6 (by kernel_rfl)<|Al R R R<|An (i:=0) R R R ld183 R R R<|Ah 7 (by kernel_rfl)<|Al R R R<|An (i:=1) R R R ld183 R R R<|A0 (by kernel_rfl)<|As (b23,b21) hm (Ag [1,0,0] R R)
   ·refine Al R R R<|A3 z183 fun b24=>Ah 1 (by kernel_rfl)<|Bd hm fun r17 h59 hm=>Al R R R<|Au 0 R fn174 R (K16 a r17 h59) fun _ _ h62=> ?_
    obtain ⟨rfl,rfl⟩:=h62
    refine Ah 3 (by kernel_rfl)<|Bd hm fun r18 h60 hm=>Al R R R<|Au 0 R fn174 R (K16 b r18 h60) fun _ _ h61=> ?_
    obtain ⟨rfl,rfl⟩:=h61
    exact Ah 6 (by kernel_rfl)<|Al R R R<|An (i:=0) R R R ld183 R R R<|Ah 7 (by kernel_rfl)<|Al R R R<|An (i:=1) R R R ld183 R R R<|A0 (by kernel_rfl)<|As (b24,b21) hm (Ag [1,0,0] R R)
 refine Af<|Ae tbk [] R R<|Cn hm (fun _ (_:Unit)=>[(3,Iw wrong),(8,.ptr b4 0),(10,.ptr b5 0)]) (fun l42 (_:Unit)=>[X183 b5 l42,X41 b4 (⟨(0 : Int),(0 : Int),(0 : Int),(0 : Int),(0 : Int)⟩ : T_api_Res)]) (fun o2 hm=>?_) fun l42 _ hm=> ?_
 ·refine B1 (fun zn (zs:Arr5_Int × Int)=>res_each_res_Sub_1.l1 j zn zs.1 zs.2) (fun zs (_:Unit)=>[(2,.clo (.func 240) [] []),(3,Iw wrong),(8,.ptr b4 0),(10,.ptr b5 0),(11,.ptr b6 0),(27,Iw zs.2)]) (fun zs (_:Unit)=>[X183 b6 j.2,X183 b5 zs.1,X41 b4 (⟨(0 : Int),(0 : Int),(0 : Int),(0 : Int),(0 : Int)⟩ : T_api_Res)]) (j.1,(0 : Int)) () (fun _=>R) hm (Ag [0,0,0] R R) fun n=>Pq fun l3 v2 _ hm=> ?_
  rw [res_each_res_Sub_1.l1] at hm
  exact Ae tbk [] R R<|Af<|Ao hm R (fun h65 hm=>Am<|Af<|A2<|Ae tbk [] R R<|Bz (Bi [1,0,0] R)<|Be 1 mixed<|Aq tbk [0,1,2] [] (by kernel_rfl) R R R<|Bd hm fun x h66 hm=>Ax 3 R R R (by kernel_rfl) (Cz R R ar183 (gl_pos2 h66).1 (gl_pos2 h66).2)<|Ax 5 R R R (by kernel_rfl) (Aj R)<|Bd hm fun x2 h67 hm=>Ax 6 R R R (by kernel_rfl) (Cz R R ar183 (gl_pos2 h67).1 (gl_pos2 h67).2)<|Ax 7 R R R (by kernel_rfl) (Dq 0 (f:=(VV.int .i64)) (l:=Arr5_Int.l j.2) R R ld3 R h67)<|Ah 4 (by kernel_rfl)<|Al R R R<|A8 (Dq 0 (f:=(VV.int .i64)) (l:=Arr5_Int.l l3) R R ld3 R h66)<|Ah 8 (by kernel_rfl)<|Al R R R<|Av hm 0 R fn240 R (K113 _ _) fun r19 hm=>Bd hm fun x3 h69 hm=>Ax 9 R R R (by kernel_rfl) (Cz R R ar183 (gl_pos2 h69).1 (gl_pos2 h69).2)<|Ah 10 (by kernel_rfl)<|Bd hm fun l6 h70 hm=>Al R R R<|VO.storeA 0 (f:=(VV.int .i64)) (l:=Arr5_Int.l l3) R R R ld3 R R (Arr5_Int.put_some h70)<|A0 (by kernel_rfl)<|Bc tbk [] R R<|Ap (l6,(IntKind.i64.wrap (v2 + (1 : Int)))) () hm (Ag [1,0,0] R R)) fun h65 hm=>A7<|As () hm (Ag [1,1] R R)
 exact Af<|Ai<|Aa tbk [0] 1 R R<|Ad R R<|Av hm 0 R fn229 R (K106 _) fun r20 hm=>Ad R R<|A3 z41 fun b25=>Ad R R<|An (i:=0) R R R ld41 R R R<|Ac<|Ai<|Aa tbk [0] 1 R R<|Ad R R<|Av hm 0 R fn130 R (K17 _) fun r21 hm=>Ac<|Ao hm R (fun h74 hm=>Ai<|Aa tbk [0] 1 R R<|Ad R R<|An (i:=2) R R R ld41 R R R<|Ab R R (Ak R)<|Ac<|Rt0 hm R [] (.cons (.cell _ _ _ _ 2 _ _ _ _ R R ld41 R) (.cons (.tmp _ _ R) .nil)) R R) fun h74 hm=>Am<|Ai<|Ab R R (B4 pl41 R R)<|Ab R R (Aj R)<|Ad R R<|An (i:=2) R R R ld41 R R R<|Ab R R (Ak R)<|Ac<|Rt0 hm R [] (.cons (.cell _ _ _ _ 2 _ _ _ _ R R ld41 R) (.cons (.tmp _ _ R) .nil)) R R

/-! trireme/res.Sub -/
def res_Sub (a : T_api_Res) (b : T_api_Res) : Option (T_api_Res × Int) :=
 (res_each_res_Sub_1 a b (11 : Int)).bind fun r =>
 some (r.1, r.2)
theorem K115 (a : T_api_Res) (b : T_api_Res) : VS Tryz.prog 233 (res_Sub a b) [T_api_Res.vv a, T_api_Res.vv b] [] (fun r=>.tup [T_api_Res.vv r.1, Iw r.2]) N0 := by
 refine A4 [.cell 4 41,.tmp 5] Tryz.func233 R R R fun r hm=>?_
 unfold res_Sub at hm
 exact Ai<|Ad R R<|Bg R R fun b2=>Ad R R<|Bg R R fun b3=>Ad R R<|A3 z41 fun b4=>Ab R R (Ak R)<|Ac<|Ai<|Aa tbk [2,1] 2 R R<|Ad R R<|Av hm 0 R fn209 R (K114 _ _ _) fun r hm=>Aa tbk [] 2 R R<|Ad R R<|An (i:=0) R R R ld41 R R R<|Ab R R (Ak R)<|Ac<|Rt0 hm R [] (.cons (.cell _ _ _ _ 0 _ _ _ _ R R ld41 R) (.cons (.tmp _ _ R) .nil)) R R

/-! trireme/yard.Left -/
def yard_Left (m : T_api_Machine) (bs : List T_api_Bound) : Option T_api_Res :=
 (yard_Used bs m.Name).bind fun r =>
 if (r.2 != 0) = true then
  some (⟨0, 0, 0, 0, 0⟩ : T_api_Res)
 else
  (res_Least r.1 m.Has).bind fun r2 =>
  (res_Sub m.Has r2).bind fun r3 =>
  some r3.1
theorem K116 (m : T_api_Machine) (bs : List T_api_Bound) : VS Tryz.prog 223 (yard_Left m bs) [T_api_Machine.vv m, L49 bs] [] (fun r=>T_api_Res.vv r) N0 := by
 refine A4 [.cell 4 41] Tryz.func223 R R R fun r hm=>?_
 unfold yard_Left at hm
 refine Ai<|Ad R R<|Bg R R fun b=>Ad R R<|A3 z41 fun b2=>Ac<|Ai<|Aa tbk [1] 3 R R<|Ad R R<|Av hm 0 R fn143 R (K109 _ _) fun r hm=>Aa tbk [] 3 R R<|Ad R R<|A3 z41 fun b3=>Ad R R<|An (i:=0) R R R ld41 R R R<|Ab R R (Ak R)<|Ac<|Af<|Ae tbk [] R R<|Ao hm R (fun h5 hm=>Ai<|Ab R R (B4 pl41 R R)<|Ad R R<|An (i:=1) R R R ld41 R R R<|Ac<|Rt0 hm R [] (.cons (.cell _ _ _ _ 1 _ _ _ _ R R ld41 R) .nil) R R) fun h5 hm=>Am<|Af<|Be 0 mixed<|Aq tbk [0,1,2,3,4] [2,0,2] (by kernel_rfl) R R R<|?_
 refine Bm [5,10] (by kernel_rfl) ⟨?_,?_,trivial⟩
 ·refine Bd hm fun r2 h6 hm=>Al R R R<|Au 0 R fn234 R (K112 r.1 m.Has r2 h6) fun _ _ h13=> ?_
  obtain ⟨rfl,rfl⟩:=h13
  refine Bm [6,10] (by kernel_rfl) ⟨?_,?_,trivial⟩
  ·refine Bd hm fun r3 h7 hm=>Al R R R<|Au 0 R fn233 R (K115 m.Has r2 r3 h7) fun _ _ h9=> ?_
   obtain ⟨rfl,rfl⟩:=h9
   exact Aq tbk [7,8,9] [] (by kernel_rfl) R R R<|Ah 10 (by kernel_rfl)<|Al R R R<|A3 z41 fun b4=>Ah 11 (by kernel_rfl)<|Al R R R<|An (i:=0) R R R ld41 R R R<|Ax 12 R R R (by kernel_rfl) (Ak R)<|A0 (by kernel_rfl)<|Ai<|Aa tbk [0] 1 R R<|Ad R R<|An (i:=2) R R R ld41 R R R<|Ac<|Rt0 hm R [] (.cons (.cell _ _ _ _ 2 _ _ _ _ R R ld41 R) .nil) R R
  ·refine Al R R R<|A3 z41 fun b5=>Ah 6 (by kernel_rfl)<|Bd hm fun r4 h11 hm=>Al R R R<|Au 0 R fn233 R (K115 m.Has r2 r4 h11) fun _ _ h12=> ?_
   obtain ⟨rfl,rfl⟩:=h12
   exact Aq tbk [7,8,9] [] (by kernel_rfl) R R R<|Ah 11 (by kernel_rfl)<|Al R R R<|An (i:=0) R R R ld41 R R R<|Ax 12 R R R (by kernel_rfl) (Ak R)<|A0 (by kernel_rfl)<|Ai<|Aa tbk [0] 1 R R<|Ad R R<|An (i:=2) R R R ld41 R R R<|Ac<|Rt0 hm R [] (.cons (.cell _ _ _ _ 2 _ _ _ _ R R ld41 R) .nil) R R
 ·refine Al R R R<|A3 z41 fun b6=>Ah 5 (by kernel_rfl)<|Bd hm fun r5 h15 hm=>Al R R R<|Au 0 R fn234 R (K112 r.1 m.Has r5 h15) fun _ _ h18=> ?_
  obtain ⟨rfl,rfl⟩:=h18
  refine Ah 6 (by kernel_rfl)<|Bd hm fun r6 h16 hm=>Al R R R<|Au 0 R fn233 R (K115 m.Has r5 r6 h16) fun _ _ h17=> ?_
  obtain ⟨rfl,rfl⟩:=h17
  exact Aq tbk [7,8,9] [] (by kernel_rfl) R R R<|Ah 11 (by kernel_rfl)<|Al R R R<|An (i:=0) R R R ld41 R R R<|Ax 12 R R R (by kernel_rfl) (Ak R)<|A0 (by kernel_rfl)<|Ai<|Aa tbk [0] 1 R R<|Ad R R<|An (i:=2) R R R ld41 R R R<|Ac<|Rt0 hm R [] (.cons (.cell _ _ _ _ 2 _ _ _ _ R R ld41 R) .nil) R R

/-! trireme/res.Fits -/
def res_Fits (a : T_api_Res) (b : T_api_Res) : Option Bool :=
 (res_Sub b a).bind fun r =>
 some (r.2 == 0)
theorem K117 (a : T_api_Res) (b : T_api_Res) : VS Tryz.prog 222 (res_Fits a b) [T_api_Res.vv a, T_api_Res.vv b] [] .bool N0 := by
 refine A4 [.tmp 4] Tryz.func222 R R R fun r hm=>?_
 unfold res_Fits at hm
 exact Ai<|Ad R R<|Bg R R fun b2=>Ad R R<|Bg R R fun b3=>Ab R R (Ak R)<|Ac<|Ai<|Aa tbk [0,1] 2 R R<|Ad R R<|Av hm 0 R fn233 R (K115 _ _) fun r hm=>Aa tbk [] 3 R R<|Ad R R<|A3 z41 fun b4=>Ad R R<|An (i:=0) R R R ld41 R R R<|Ab R R (Ak R)<|Ac<|Ae tbk [] R R<|Rt1 hm R [] R R R

/-! trireme/suit.common -/
def suit_common.l1 : Nat → (List Int) → (List Int) → Option (Out Bool Unit)
 | 0, _, _ => none
 | n + 1, a3, b3 =>
  if ((decide ((a3.length : Int) > 0)) && (decide ((b3.length : Int) > 0))) = true then
   (V.gl a3 (0 : Int)).bind fun x =>
   (V.gl b3 (0 : Int)).bind fun x2 =>
   if (x == x2) = true then
    some (Out.ret true)
   else
    (V.gl a3 (0 : Int)).bind fun x3 =>
    (V.gl b3 (0 : Int)).bind fun x4 =>
    if (decide (x3 < x4)) = true then
     (V.sl a3 (some 1) none).bind fun v =>
     suit_common.l1 n v b3
    else
     (V.sl b3 (some 1) none).bind fun v2 =>
     suit_common.l1 n a3 v2
  else
   some (Out.go ())
def suit_common (a : List Int) (b : List Int) : Option Bool :=
 (suit_common.l1 FU a b).bind fun o =>
 o.on fun j =>
 some false
theorem K118 (a : List Int) (b : List Int) : VS Tryz.prog 224 (suit_common a b) [L3 a, L3 b] [] .bool N0 := by
 refine A4 [.tmp 4] Tryz.func224 R R R fun r hm=>?_
 unfold suit_common at hm
 refine Ae tbk [] R R<|VW.jo hm (fun _ (_:Unit)=>[]) (fun _ (_:Unit)=>[]) (fun o hm h2=>?_) fun j _ hm=> ?_
 ·refine B1 (fun zn (zs:List Int × List Int)=>suit_common.l1 zn zs.1 zs.2) (fun zs (_:Unit)=>[(0,L3 zs.1),(1,L3 zs.2)]) (fun _ (_:Unit)=>[]) (a,b) () (fun _=>R) hm (Ag [] R R) fun n=>Pq fun a3 b3 _ hm=> ?_
  rw [suit_common.l1] at hm
  exact Af<|Ai<|Ab R R (Aj R)<|Ab R R (Aw (VV.int .i64) R Cm)<|Aa tbk [] 2 R R<|Db 4 12 8 R (fun h3 K' J=>Bb R R R R R (Aj R)<|Bb R R R R R (Aw (VV.int .i64) R Cm)<|Aa tbk [] 2 R R<|J 3 R R R) (fun K' J=>Aa tbk [] 4 R R<|J 3 R R R)<|Ac<|Ao hm R (fun h4 hm=>Am<|A2<|A2<|Af<|Be 0 mixed<|Ax 0 R R R (by kernel_rfl) (Aj R)<|Bd hm fun x h5 hm=>Ax 1 R R R (by kernel_rfl) (Bf (VV.int .i64) R R el45 h5)<|Aq tbk [2,3] [] (by kernel_rfl) R R R<|Bd hm fun x2 h6 hm=>Ax 4 R R R (by kernel_rfl) (Bf (VV.int .i64) R R el45 h6)<|Aq tbk [5,6,7] [] (by kernel_rfl) R R R<|A0 (by kernel_rfl)<|Ao hm R (fun h7 hm=>Ae tbk [] R R<|have hm:=Lr hm h2;Rt1 hm R [] R R R) fun h7 hm=>Af<|Be 0 mixed<|Ax 0 R R R (by kernel_rfl) (Aj R)<|Bd hm fun x3 h8 hm=>Ax 1 R R R (by kernel_rfl) (Bf (VV.int .i64) R R el45 h8)<|Aq tbk [2,3] [] (by kernel_rfl) R R R<|Bd hm fun x4 h9 hm=>Ax 4 R R R (by kernel_rfl) (Bf (VV.int .i64) R R el45 h9)<|Aq tbk [5,6,7] [] (by kernel_rfl) R R R<|A0 (by kernel_rfl)<|Ao hm R (fun h10 hm=>Bn<|Ab R R (Aj R)<|Bd hm fun v h11 hm=>Ab R R (Dg R R R el45 h11)<|Ab R R (Ak R)<|Ac<|Ap (v,b3) () hm (Ag [] R R)) fun h10 hm=>Bn<|Ab R R (Aj R)<|Bd hm fun v2 h12 hm=>Ab R R (Dg R R R el45 h12)<|Ab R R (Ak R)<|Ac<|Ap (a3,v2) () hm (Ag [] R R)) fun h4 hm=>A7<|Ar () hm (Ag [] R R)
 exact Ae tbk [] R R<|Rt1 hm R [] R R R

/-! trireme/suit.Room -/
def suit_Room.l1 (p : T_api_Pod) : List T_api_Pod → Nat → Option (Out Int Unit)
 | [], k => some (Out.go ())
 | x :: l, k =>
  (suit_common p.Ports x.Ports).bind fun r5 =>
  if r5 = true then
   some (Out.ret 3)
  else
   suit_Room.l1 p l (k + 1)
def suit_Room (m : T_api_Machine) (bs : List T_api_Bound) (p : T_api_Pod) : Option Int :=
 (suit_others bs p.Name).bind fun r =>
 (yard_Left m r).bind fun r2 =>
 (res_Fits p.Need r2).bind fun r3 =>
 if (!r3) = true then
  some 2
 else
  (yard_On r m.Name).bind fun r4 =>
  (suit_Room.l1 p r4 0).bind fun o =>
  o.on fun j =>
  some 0
theorem K119 (m : T_api_Machine) (bs : List T_api_Bound) (p : T_api_Pod) : VS Tryz.prog 202 (suit_Room m bs p) [T_api_Machine.vv m, L49 bs, T_api_Pod.vv p] [] Iw N0 := by
 refine A4 [.tmp 6] Tryz.func202 R R R fun r hm=>?_
 unfold suit_Room at hm
 refine Ai<|Ad R R<|Bg R R fun b=>Ad R R<|Bg R R fun b2=>Ab R R (Ak R)<|Ac<|Ai<|Aa tbk [0] 3 R R<|Ad R R<|B3 hm 0 R fn221 R (K102 _ _) fun r ob cap hm=>Bl (A6 0 [(13,L49 r)] R ⟨⟨_,R,.here _ R⟩,trivial⟩ (FzH.refl _))<|Ab R R (Ak R)<|Ac<|Af<|Af<|Be 0 mixed<|Aq tbk [0,1,2,3] [0,1] (by kernel_rfl) R R R<|Ah 4 (by kernel_rfl)<|Bd hm fun r2 h5 hm=>Al R R R<|Au 0 R fn223 R (K116 m r r2 h5) fun _ _ h18=> ?_
 obtain ⟨rfl,rfl⟩:=h18
 refine Ah 5 (by kernel_rfl)<|Bd hm fun r3 h6 hm=>Al R R R<|Au 0 R fn222 R (K117 p.Need r2 r3 h6) fun _ _ h17=> ?_
 obtain ⟨rfl,rfl⟩:=h17
 refine Ax 6 R R R (by kernel_rfl) (B6 R)<|A0 (by kernel_rfl)<|Ao hm R (fun h7 hm=>Ae tbk [] R R<|Rt1 hm R [] R R R) fun h7 hm=>Am<|Af<|Ai<|Aa tbk [1] 3 R R<|Ad R R<|B3 hm 0 R fn85 R (K82 _ _) fun r4 ob2 cap2 hm=>Bl (A6 0 [(24,L47 r4)] R ⟨⟨_,R,.here _ R⟩,trivial⟩ (FzH.refl _))<|Ab R R (Aw T_api_Pod.vv R Cy)<|Ab R R (Aj R)<|Ac<|Cj 24 R fun h12=>Bw hm (fun _ (_:Unit)=>[]) (fun _ (_:Unit)=>[]) (fun o hm h11=>?_) fun j _ hm=> ?_
 ·refine Cx (r4) (fun zl zk (zs:Unit)=>suit_Room.l1 p zl zk) (fun k _ (_:Unit)=>[(5,.ptr b2 0),(24,L47 r4),(25,Iw (r4.length : Int)),(26,Iw (k : Int))]) (fun _ _ (_:Unit)=>[X47 b2 p]) () () hm (Ag [0] R R) (fun k _ _ hk hm=>?_) fun k x l _ _ h13 hm=> ?_
  ·rw [suit_Room.l1] at hm
   exact Ae tbk [] R R<|Af<|Ca R (k_end hk)<|A7<|Ar () hm (Ag [] R R)
  rw [suit_Room.l1] at hm
  exact Ae tbk [] R R<|Af<|B7 R (k_lt h13)<|Am<|Af<|A2<|Ai<|Ab R R (Cp T_api_Pod.vv R R el55 h13)<|Ab R R (Bt R ld47 R)<|Ad R R<|A3 z47 fun b3=>Ad R R<|An (i:=0) R R R ld47 R R R<|Ac<|Ai<|Aa tbk [1,0] 4 R R<|Ad R R<|Av hm 0 R fn224 R (K118 _ _) fun r5 hm=>Ac<|Ao hm R (fun h16 hm=>Ae tbk [] R R<|have hm:=Lr hm h11;Rt1 hm R [] R R R) fun h16 hm=>Am<|Bc tbk [] R R<|Ap () () hm (B0 [1] R ⟨R,R,R,congrArg some (k_next h13 h12),trivial⟩)
 exact Ae tbk [] R R<|Rt1 hm R [] R R R

/-! trireme/suit.Suits -/
def suit_Suits (m : T_api_Machine) (bs : List T_api_Bound) (p : T_api_Pod) : Option Int :=
 (suit_Place m p).bind fun r =>
 if (r == 1) = true then
  some r
 else
  if (r == 4) = true then
   some r
  else
   if (r == 5) = true then
    some r
   else
    if (r == 6) = true then
     some r
    else
     (suit_Room m bs p).bind fun r2 =>
     some r2
theorem K120 (m : T_api_Machine) (bs : List T_api_Bound) (p : T_api_Pod) : VS Tryz.prog 177 (suit_Suits m bs p) [T_api_Machine.vv m, L49 bs, T_api_Pod.vv p] [] Iw N0 := by
 refine A4 [.tmp 6] Tryz.func177 R R R fun r hm=>?_
 unfold suit_Suits at hm
 exact Ai<|Ad R R<|Bg R R fun b=>Ad R R<|Bg R R fun b2=>Ab R R (Ak R)<|Ac<|Ai<|Aa tbk [1,0] 2 R R<|Ad R R<|Av hm 0 R fn201 R (K101 _ _) fun r hm=>Ab R R (Ak R)<|Ac<|Af<|Ae tbk [] R R<|A2<|Af<|A2<|A2<|A2<|Af<|Af<|Ae tbk [] R R<|Ao hm R (fun h4 hm=>A7<|Af<|Ae tbk [] R R<|Rt1 hm R [] R R R) fun h4 hm=>Am<|Af<|Ae tbk [] R R<|Ao hm R (fun h5 hm=>A7<|Af<|Ae tbk [] R R<|Rt1 hm R [] R R R) fun h5 hm=>Am<|Af<|Ae tbk [] R R<|Ao hm R (fun h6 hm=>Am<|B7 R h6<|A7<|Af<|Ae tbk [] R R<|Rt1 hm R [] R R R) fun h6 hm=>Bc tbk [] R R<|Ao hm R (fun h7 hm=>A7<|Af<|Ae tbk [] R R<|Rt1 hm R [] R R R) fun h7 hm=>Am<|A7<|Ai<|Aa tbk [1,0] 3 R R<|Ad R R<|Av hm 0 R fn202 R (K119 _ _ _) fun r2 hm=>Ab R R (Ak R)<|Ac<|Rt1 hm R [] R R R

/-! trireme/apart.zones -/
def apart_zones.l1 : List T_api_Machine → Nat → (List (ByteArray × ByteArray)) → Option (List (ByteArray × ByteArray))
 | [], k, out2 => some out2
 | x :: l, k, out2 =>
  (labels_Get x.Labels (⟨#[122, 111, 110, 101]⟩ : ByteArray)).bind fun r =>
  if r.2 = true then
   apart_zones.l1 l (k + 1) (V.mp out2 x.Name r.1)
  else
   apart_zones.l1 l (k + 1) out2
def apart_zones (ms : List T_api_Machine) : Option (List (ByteArray × ByteArray)) :=
 (apart_zones.l1 ms 0 ([] : List (ByteArray × ByteArray))).bind fun out32 =>
 some out32
theorem K121 (ms : List T_api_Machine) : VS1 Tryz.prog 225 (apart_zones ms) [L61 ms] [] (fun r b_0=>.map b_0) (fun r b_0=>[.map b_0 (List.map (pf VV.str VV.str) r)]) := by
 refine VS1.run [.tmp 2] Tryz.func225 R R R fun r hm=>?_
 unfold apart_zones at hm
 refine Ae tbk [] R R<|Ai<|Ad R R<|Dj fun b=>Ab R R (Ak R)<|Ac<|Af<|Ai<|Ab R R (Aj R)<|Ab R R (Aw T_api_Machine.vv R Ay)<|Ab R R (Aj R)<|Ac<|Cj 9 R fun h4=>Cn hm (fun _ (_:Unit)=>[(3,.map b)]) (fun out32 (_:Unit)=>[.map b (List.map (pf VV.str VV.str) out32)]) (fun o hm=>?_) fun out32 _ hm=> ?_
 ·refine Cx (ms) (fun zl zk (zs:List (ByteArray × ByteArray))=>apart_zones.l1 zl zk zs) (fun k _ (_:Unit)=>[(3,.map b),(9,L61 ms),(10,Iw (ms.length : Int)),(11,Iw (k : Int))]) (fun _ zs (_:Unit)=>[.map b (List.map (pf VV.str VV.str) zs)]) _ () hm (Ag [0] R R) (fun k out2 _ hk hm=>?_) fun k x l out2 _ h5 hm=> ?_
  ·rw [apart_zones.l1] at hm
   exact Ae tbk [] R R<|Af<|Ca R (k_end hk)<|A7<|As () hm (Ag [0] R R)
  rw [apart_zones.l1] at hm
  exact Ae tbk [] R R<|Af<|B7 R (k_lt h5)<|Am<|Af<|A2<|Ai<|Ab R R (Cp T_api_Machine.vv R R el22 h5)<|Ab R R (Bt R ld61 R)<|Ad R R<|A3 z61 fun b2=>Ad R R<|An (i:=0) R R R ld61 R R R<|Ac<|Ai<|Aa tbk [0] 2 R R<|Ad R R<|Av hm 0 R fn231 R (K89 _ _) fun r hm=>Aa tbk [] 5 R R<|Ac<|Ae tbk [] R R<|Ao hm R (fun h8 hm=>Bn<|Aa tbk [0] 4 R R<|Ad R R<|De 1 (kf:=VV.str) (vf:=VV.str) (l:=out2) (k:=x.Name) (z:=r.1) mk9 C7 R R R R<|Ac<|Bc tbk [] R R<|Ap _ () hm (B0 [1] R ⟨R,R,R,congrArg some (k_next h5 h4),trivial⟩)) fun h8 hm=>Am<|Bc tbk [] R R<|Ap _ () hm (B0 [1] R ⟨R,R,R,congrArg some (k_next h5 h4),trivial⟩)
 exact Ae tbk [] R R<|Rg1 hm R [0] b (.cons (.tmp _ _ R) .nil) R R

/-! (trireme/apart.place).one -/
def apart_place_one (x : T_apart_place) (a : ByteArray) (b2 : ByteArray) (wide : Bool) : Option Bool :=
 if ((V.seq a b2) || (!wide)) = true then
  some (V.seq a b2)
 else
  some ((((V.mg x.zones a).isSome) && ((V.mg x.zones b2).isSome)) && (V.seq ((V.mg x.zones a).getD (⟨#[]⟩ : ByteArray)) ((V.mg x.zones b2).getD (⟨#[]⟩ : ByteArray))))
theorem K122 (x : T_apart_place) (a : ByteArray) (b2 : ByteArray) (wide : Bool) (b : Nat) : VS Tryz.prog 235 (apart_place_one x a b2 wide) [.agg [.map b], .str a, .str b2, .bool wide] [.map b (List.map (pf VV.str VV.str) x.zones)] .bool (fun r=>[.map b (List.map (pf VV.str VV.str) x.zones)]) := by
 refine A4 [.tmp 8] Tryz.func235 R R R fun r hm=>?_
 unfold apart_place_one at hm
 exact Ai<|Ad R R<|Bg R R fun b3=>Ab R R (Ak R)<|Ac<|Af<|Ai<|Aa tbk [] 4 R R<|Cr tbk [] 3 19 16 R R R R R<|Ac<|Ao hm R (fun h3 hm=>Ae tbk [] R R<|Rt1 hm R [1] R R R) fun h3 hm=>Am<|Ai<|Aa tbk [0] 3 R R<|Ab R R (C0 1 (kf:=VV.str) (vf:=VV.str) (l:=x.zones) (k:=a) (z:=(⟨#[]⟩ : ByteArray)) true mk9 C7 R R R zc9 R)<|Aa tbk [] 5 R R<|Ac<|Ai<|Aa tbk [0] 3 R R<|Ab R R (C0 1 (kf:=VV.str) (vf:=VV.str) (l:=x.zones) (k:=b2) (z:=(⟨#[]⟩ : ByteArray)) true mk9 C7 R R R zc9 R)<|Aa tbk [] 5 R R<|Ac<|Ai<|Aa tbk [] 2 R R<|B5 tbk [] 2 40 38 R R R R R<|Ab R R (Aj R)<|B5 tbk [] 4 45 41 R R R R R<|Ab R R (Ak R)<|Ac<|Rt1 hm R [1] R R R

/-! (trireme/apart.place).bars -/
def apart_place_bars (x : T_apart_place) (p : T_api_Pod) (q_ : T_api_Pod) (a : ByteArray) (b2 : ByteArray) : Option Bool :=
 (if (decide ((p.Apart.length : Int) > 0)) = true then (labels_Has q_.Labels p.Apart).bind fun r =>
 some r else some false).bind fun c =>
 (if c = true then (apart_place_one x a b2 p.Wide).bind fun r2 =>
 some r2 else some false).bind fun c2 =>
 some c2
theorem K123 (x : T_apart_place) (p : T_api_Pod) (q_ : T_api_Pod) (a : ByteArray) (b2 : ByteArray) (b : Nat) : VS Tryz.prog 226 (apart_place_bars x p q_ a b2) [.agg [.map b], T_api_Pod.vv p, T_api_Pod.vv q_, .str a, .str b2] [.map b (List.map (pf VV.str VV.str) x.zones)] .bool (fun r=>[.map b (List.map (pf VV.str VV.str) x.zones)]) := by
 refine A4 [.tmp 10] Tryz.func226 R R R fun r hm=>?_
 unfold apart_place_bars at hm
 exact Ai<|Ad R R<|Bg R R fun b3=>Ad R R<|Bg R R fun b4=>Ad R R<|Bg R R fun b5=>Ab R R (Ak R)<|Ac<|Ai<|Aa tbk [1] 2 R R<|Ab R R (Aw T_api_Label.vv R Bu)<|Aa tbk [] 2 R R<|Bh hm 6 21 15 R (fun _ K' h4 J hm=>Aa tbk [0,1] 4 R R<|A1 R R R R R<|Av hm 0 R fn212 R (K90 _ _) fun r hm=>Ab R R (Bk true R R R)<|J 5 R R (Bj hm)) (fun _ K' h4 J hm=>Aa tbk [] 6 R R<|J 5 R R (Bj hm)) fun c hm=>Ab R R (Aj R)<|Bh hm 7 29 22 R (fun _ K' h7 J hm=>Aa tbk [2,1] 5 R R<|Bl (Bi [3,0,0,0] R)<|A1 R R R R R<|Av hm 1 R fn235 R (K122 _ _ _ _ _) fun r2 hm=>Ab R R (Bk true R R R)<|Bl (Bi [1,1,1,0] R)<|J 6 R R (Bj hm)) (fun _ K' h7 J hm=>Aa tbk [] 7 R R<|J 6 R R (Bj hm)) fun c2 hm=>Ab R R (Ak R)<|Ac<|Rt1 hm R [3] R R R

/-! trireme/apart.Near -/
def apart_Near.l1 (p : T_api_Pod) (on_ : ByteArray) (r2 : (List (ByteArray × ByteArray))) : List T_api_Bound → Nat → Option (Out Bool Unit)
 | [], k => some (Out.go ())
 | x :: l, k =>
  if ((V.seq x.On (⟨#[]⟩ : ByteArray)) || (V.seq x.Pod.Name p.Name)) = true then
   apart_Near.l1 p on_ r2 l (k + 1)
  else
   (apart_place_bars (⟨r2⟩ : T_apart_place) p x.Pod on_ x.On).bind fun r3 =>
   (if r3 = true then some true else (apart_place_bars (⟨r2⟩ : T_apart_place) x.Pod p x.On on_).bind fun r4 =>
   some r4).bind fun c =>
   if c = true then
    some (Out.ret true)
   else
    apart_Near.l1 p on_ r2 l (k + 1)
def apart_Near (ms : List T_api_Machine) (bs : List T_api_Bound) (p : T_api_Pod) (on_ : ByteArray) : Option Bool :=
 (yard_Find ms on_).bind fun r =>
 if (decide (r < 0)) = true then
  some false
 else
  (apart_zones ms).bind fun r2 =>
  (apart_Near.l1 p on_ r2 bs 0).bind fun o =>
  o.on fun j =>
  some false
theorem K124 (ms : List T_api_Machine) (bs : List T_api_Bound) (p : T_api_Pod) (on_ : ByteArray) : VS Tryz.prog 203 (apart_Near ms bs p on_) [L61 ms, L49 bs, T_api_Pod.vv p, .str on_] [] .bool N0 := by
 refine A4 [.tmp 8] Tryz.func203 R R R fun r hm=>?_
 unfold apart_Near at hm
 refine Ai<|Ad R R<|Bg R R fun b=>Ab R R (Ak R)<|Ac<|Af<|Ai<|Aa tbk [] 2 R R<|Ad R R<|Av hm 0 R fn47 R (K70 _ _) fun r hm=>Ab R R (Ba R R R)<|Ac<|Ao hm R (fun h3 hm=>Ae tbk [] R R<|Rt1 hm R [] R R R) fun h3 hm=>Am<|Ai<|Ab R R (Aj R)<|Ad R R<|VO.cl1 hm 0 R fn225 R (K121 _) fun r2 b2 hm=>Ab R R (B4 pl215 R R)<|Ad R R<|A3 z215 fun b3=>Ad R R<|An (i:=0) R R R ld215 R R R<|Ac<|Af<|Ai<|Ab R R (Aj R)<|Ab R R (Aw T_api_Bound.vv R Bq)<|Ab R R (Aj R)<|Ac<|Cj 19 R fun h9=>Bw hm (fun _ (_:Unit)=>[]) (fun _ (_:Unit)=>[]) (fun o hm h8=>?_) fun j _ hm=> ?_
 ·refine Cx (bs) (fun zl zk (zs:Unit)=>apart_Near.l1 p on_ r2 zl zk) (fun k _ (_:Unit)=>[(3,.str on_),(6,.ptr b 0),(9,.ptr b3 0),(19,L49 bs),(20,Iw (bs.length : Int)),(21,Iw (k : Int))]) (fun _ _ (_:Unit)=>[.box b3 215 [.map b2],.map b2 (List.map (pf VV.str VV.str) ((⟨r2⟩ : T_apart_place).zones)),X47 b p]) () () hm (Ag [0,0,0] R R) (fun k _ _ hk hm=>?_) fun k x l _ _ h10 hm=> ?_
  ·rw [apart_Near.l1] at hm
   exact Ae tbk [] R R<|Af<|Ca R (k_end hk)<|A7<|Ar () hm (Ag [] R R)
  rw [apart_Near.l1] at hm
  exact Ae tbk [] R R<|Af<|B7 R (k_lt h10)<|Am<|Af<|A2<|Ai<|Ab R R (Cp T_api_Bound.vv R R el23 h10)<|Ab R R (Bt R ld49 R)<|Ad R R<|A3 z49 fun b4=>Ad R R<|An (i:=0) R R R ld49 R R R<|Ac<|Af<|Ai<|Aa tbk [0] 4 R R<|Cr tbk [0,3] 7 35 28 R R R R R<|Ac<|Ao hm R (fun h13 hm=>A7<|Bc tbk [] R R<|Ap () () hm (B0 [1,1,1] R ⟨R,R,R,R,R,congrArg some (k_next h10 h9),trivial⟩)) fun h13 hm=>Am<|Ai<|Aa tbk [1,3,0,0] 7 R R<|Bl (Bi [2,0,0,0] R)<|Ad R R<|Av hm 1 R fn226 R (K123 _ _ _ _ _ _) fun r3 hm=>Ab R R (Aj R)<|Bh hm 9 53 44 R (fun _ K' h15 J hm=>Aa tbk [] 9 R R<|J 8 R R (Bj hm)) (fun _ K' h15 J hm=>Aa tbk [2,1,3,1] 7 R R<|A1 R R R R R<|Av hm 1 R fn226 R (K123 _ _ _ _ _ _) fun r4 hm=>Ab R R (Bk false R R R)<|J 8 R R (Bj hm)) fun c hm=>Ac<|Ao hm R (fun h18 hm=>Ae tbk [] R R<|have hm:=Lr hm h8;Rt1 hm R [] R R R) fun h18 hm=>Am<|Bc tbk [] R R<|Ap () () hm (B0 [2,0,1] R ⟨R,R,R,R,R,congrArg some (k_next h10 h9),trivial⟩)
 exact Ae tbk [] R R<|Rt1 hm R [] R R R

/-! trireme/apart.tally -/
def apart_tally.l1 (p : T_api_Pod) (r : (List (ByteArray × ByteArray))) : List T_api_Bound → Nat → (List (ByteArray × Int)) → Option (List (ByteArray × Int))
 | [], k, n2 => some n2
 | x :: l, k, n2 =>
  (if ((((V.mg r x.On).isSome) && (!(V.seq x.On (⟨#[]⟩ : ByteArray)))) && (!(V.seq x.Pod.Name p.Name))) = true then (labels_Has x.Pod.Labels p.Spread).bind fun r2 =>
  some r2 else some false).bind fun c =>
  if c = true then
   apart_tally.l1 p r l (k + 1) (V.mp n2 ((V.mg r x.On).getD (⟨#[]⟩ : ByteArray)) (i64.wrap (((V.mg n2 ((V.mg r x.On).getD (⟨#[]⟩ : ByteArray))).getD 0) + 1)))
  else
   apart_tally.l1 p r l (k + 1) n2
def apart_tally (ms : List T_api_Machine) (bs : List T_api_Bound) (p : T_api_Pod) : Option (List (ByteArray × Int)) :=
 (apart_zones ms).bind fun r =>
 (apart_tally.l1 p r bs 0 ([] : List (ByteArray × Int))).bind fun n32 =>
 some n32
theorem K125 (ms : List T_api_Machine) (bs : List T_api_Bound) (p : T_api_Pod) : VS1 Tryz.prog 236 (apart_tally ms bs p) [L61 ms, L49 bs, T_api_Pod.vv p] [] (fun r b_0=>.map b_0) (fun r b_0=>[.map b_0 (List.map (pf VV.str (VV.int .i64)) r)]) := by
 refine VS1.run [.tmp 6] Tryz.func236 R R R fun r hm=>?_
 unfold apart_tally at hm
 refine Ai<|Ad R R<|Bg R R fun b=>Ab R R (Ak R)<|Ac<|Ai<|Ab R R (Aj R)<|Ad R R<|VO.cl1 hm 0 R fn225 R (K121 _) fun r b2 hm=>Ab R R (Ak R)<|Ac<|Ai<|Ad R R<|Dj fun b3=>Ab R R (Ak R)<|Ac<|Af<|Ai<|Ab R R (Aj R)<|Ab R R (Aw T_api_Bound.vv R Bq)<|Ab R R (Aj R)<|Ac<|Cj 16 R fun h7=>Cn hm (fun _ (_:Unit)=>[(8,.map b3)]) (fun n32 (_:Unit)=>[.map b3 (List.map (pf VV.str (VV.int .i64)) n32)]) (fun o hm=>?_) fun n32 _ hm=> ?_
 ·refine Cx (bs) (fun zl zk (zs:List (ByteArray × Int))=>apart_tally.l1 p r zl zk zs) (fun k _ (_:Unit)=>[(5,.ptr b 0),(7,.map b2),(8,.map b3),(16,L49 bs),(17,Iw (bs.length : Int)),(18,Iw (k : Int))]) (fun _ zs (_:Unit)=>[.map b3 (List.map (pf VV.str (VV.int .i64)) zs),.map b2 (List.map (pf VV.str VV.str) r),X47 b p]) _ () hm (Ag [0,0,0] R R) (fun k n2 _ hk hm=>?_) fun k x l n2 _ h8 hm=> ?_
  ·rw [apart_tally.l1] at hm
   exact Ae tbk [] R R<|Af<|Ca R (k_end hk)<|A7<|As () hm (Ag [0] R R)
  rw [apart_tally.l1] at hm
  exact Ae tbk [] R R<|Af<|B7 R (k_lt h8)<|Am<|Af<|A2<|Ai<|Ab R R (Cp T_api_Bound.vv R R el23 h8)<|Ab R R (Bt R ld49 R)<|Ad R R<|A3 z49 fun b4=>Ad R R<|An (i:=0) R R R ld49 R R R<|Ac<|Ai<|Aa tbk [0] 3 R R<|Ab R R (C0 2 (kf:=VV.str) (vf:=VV.str) (l:=r) (k:=x.On) (z:=(⟨#[]⟩ : ByteArray)) true mk9 C7 R R R zc9 R)<|Aa tbk [] 5 R R<|Ac<|Ai<|Aa tbk [] 2 R R<|B5 tbk [0] 4 34 30 R R R R R<|Ab R R (Aj R)<|B5 tbk [0,3] 7 42 35 R R R R R<|Ab R R (Aj R)<|Bh hm 7 50 43 R (fun _ K' h12 J hm=>Aa tbk [0,3] 5 R R<|A1 R R R R R<|Av hm 0 R fn212 R (K90 _ _) fun r2 hm=>Ab R R (Bk true R R R)<|J 6 R R (Bj hm)) (fun _ K' h12 J hm=>Aa tbk [] 7 R R<|J 6 R R (Bj hm)) fun c hm=>Ac<|Ao hm R (fun h15 hm=>Bn<|Aa tbk [] 2 R R<|Ab R R (C0 1 (kf:=VV.str) (vf:=(VV.int .i64)) (l:=n2) (k:=((V.mg r x.On).getD (⟨#[]⟩ : ByteArray))) (z:=(0 : Int)) false mk9 B8 R R R zc3 R)<|Ab R R (Ba R R R)<|Ad R R<|De 1 (kf:=VV.str) (vf:=(VV.int .i64)) (l:=n2) (k:=((V.mg r x.On).getD (⟨#[]⟩ : ByteArray))) (z:=(IntKind.i64.wrap (((V.mg n2 ((V.mg r x.On).getD (⟨#[]⟩ : ByteArray))).getD (0 : Int)) + (1 : Int)))) mk9 B8 R R R R<|Ac<|Bc tbk [] R R<|Ap _ () hm (B0 [1,1,1] R ⟨R,R,R,R,R,congrArg some (k_next h8 h7),trivial⟩)) fun h15 hm=>Am<|Bc tbk [] R R<|Ap _ () hm (B0 [1,1,1] R ⟨R,R,R,R,R,congrArg some (k_next h8 h7),trivial⟩)
 exact Ae tbk [] R R<|Rg1 hm R [0] b3 (.cons (.tmp _ _ R) .nil) R R

/-! trireme/yard.Zones -/
def yard_Zones.l1 : List T_api_Machine → Nat → (List (ByteArray × Int)) → (List ByteArray) → Option (List ByteArray)
 | [], k, had2, l2 => some l2
 | x :: l4, k, had2, l2 =>
  (labels_Get x.Labels (⟨#[122, 111, 110, 101]⟩ : ByteArray)).bind fun r =>
  if ((!r.2) || (!x.Ready)) = true then
   yard_Zones.l1 l4 (k + 1) had2 l2
  else
   if (((V.mg (V.mp had2 r.1 (i64.wrap (((V.mg had2 r.1).getD 0) + 1))) r.1).getD 0) == 1) = true then
    (V.ap 16 l2 [r.1]).bind fun l5 =>
    yard_Zones.l1 l4 (k + 1) (V.mp had2 r.1 (i64.wrap (((V.mg had2 r.1).getD 0) + 1))) l5
   else
    yard_Zones.l1 l4 (k + 1) (V.mp had2 r.1 (i64.wrap (((V.mg had2 r.1).getD 0) + 1))) l2
def yard_Zones (ms : List T_api_Machine) : Option (List ByteArray) :=
 (yard_Zones.l1 ms 0 ([] : List (ByteArray × Int)) ([] : List ByteArray)).bind fun l32 =>
 some l32
theorem K126 (ms : List T_api_Machine) : VS2 Tryz.prog 237 (yard_Zones ms) [L61 ms] [] (fun r ob0 cap0=>Z9 ob0 r cap0) (fun r ob0 cap0=>[Q9 ob0 cap0 r]) := by
 refine Cf [.tmp 2] Tryz.func237 R R R fun r hm=>?_
 unfold yard_Zones at hm
 refine Ae tbk [] R R<|Ai<|Ad R R<|Dj fun b=>Ab R R (Ak R)<|Ac<|Ae tbk [] R R<|Af<|Ai<|Ab R R (Aj R)<|Ab R R (Aw T_api_Machine.vv R Ay)<|Ab R R (Aj R)<|Ac<|Cj 10 R fun h6=>Cn hm (fun l32 (gg:Option Nat × Nat)=>[(4,Z9 gg.1 l32 gg.2)]) (fun l32 (gg:Option Nat × Nat)=>[Q9 gg.1 gg.2 l32]) (fun o hm=>?_) fun l32=>Pq fun ob3 cap3 hm=> ?_
 ·refine Cx (ms) (fun zl zk (zs:List (ByteArray × Int) × List ByteArray)=>yard_Zones.l1 zl zk zs.1 zs.2) (fun k zs (zg:Option Nat × Nat)=>[(3,.map b),(4,Z9 zg.1 zs.2 zg.2),(10,L61 ms),(11,Iw (ms.length : Int)),(12,Iw (k : Int))]) (fun _ zs (zg:Option Nat × Nat)=>[Q9 zg.1 zg.2 zs.2,.map b (List.map (pf VV.str (VV.int .i64)) zs.1)]) (([] : List (ByteArray × Int)),([] : List ByteArray)) (none,0) hm (Ct (Bx 9) (Ag [0,0] R R)) (fun k=>Pq fun had2 l2=>Pq fun ob2 cap2 hk hm=>?_) fun k x l4=>Pq fun had2 l2=>Pq fun ob2 cap2 h7 hm=> ?_
  ·rw [yard_Zones.l1] at hm
   exact Ae tbk [] R R<|Af<|Ca R (k_end hk)<|A7<|As (ob2,cap2) hm (Ag [0] R R)
  rw [yard_Zones.l1] at hm
  exact Ae tbk [] R R<|Af<|B7 R (k_lt h7)<|Am<|Af<|A2<|Ai<|Ab R R (Cp T_api_Machine.vv R R el22 h7)<|Ab R R (Bt R ld61 R)<|Ad R R<|A3 z61 fun b2=>Ad R R<|An (i:=0) R R R ld61 R R R<|Ac<|Ai<|Aa tbk [0] 2 R R<|Ad R R<|Av hm 0 R fn231 R (K89 _ _) fun r hm=>Aa tbk [] 5 R R<|Ac<|Af<|Ai<|Aa tbk [] 3 R R<|Cr tbk [0] 4 28 24 R R R R R<|Ac<|Ao hm R (fun h11 hm=>A7<|Bc tbk [] R R<|Ap (had2,l2) (ob2,cap2) hm (B0 [1,1] R ⟨R,R,R,R,congrArg some (k_next h7 h6),trivial⟩)) fun h11 hm=>Am<|Ai<|Aa tbk [] 2 R R<|Ab R R (C0 2 (kf:=VV.str) (vf:=(VV.int .i64)) (l:=had2) (k:=r.1) (z:=(0 : Int)) false mk9 B8 R R R zc3 R)<|Ab R R (Ba R R R)<|Ad R R<|De 2 (kf:=VV.str) (vf:=(VV.int .i64)) (l:=had2) (k:=r.1) (z:=(IntKind.i64.wrap (((V.mg had2 r.1).getD (0 : Int)) + (1 : Int)))) mk9 B8 R R R R<|Ac<|Ai<|Aa tbk [] 2 R R<|Ab R R (C0 2 (kf:=VV.str) (vf:=(VV.int .i64)) (l:=(V.mp had2 r.1 (IntKind.i64.wrap (((V.mg had2 r.1).getD (0 : Int)) + (1 : Int))))) (k:=r.1) (z:=(0 : Int)) false mk9 B8 R R R zc3 R)<|Ab R R (Ba R R R)<|Ac<|Ao hm R (fun h12 hm=>Bn<|Aa tbk [] 2 R R<|Ad R R<|A5 ap25 R R R R R fun b3=>Bd hm fun l5 h14 hm=>Ad R R<|Ch 2 VV.str (l:=l2) (l2:=[r.1]) ap25 R R (sT_row 0 VV.str el25 R R) h14 fun ob4 cap4=>Ab R R (Ak R)<|Ac<|Bc tbk [] R R<|Ap ((V.mp had2 r.1 (IntKind.i64.wrap (((V.mg had2 r.1).getD (0 : Int)) + (1 : Int)))),l5) (ob4,cap4) hm (B0 [2,2] R ⟨R,R,R,R,congrArg some (k_next h7 h6),trivial⟩)) fun h12 hm=>Am<|Bc tbk [] R R<|Ap ((V.mp had2 r.1 (IntKind.i64.wrap (((V.mg had2 r.1).getD (0 : Int)) + (1 : Int)))),l2) (ob2,cap2) hm (B0 [1,1] R ⟨R,R,R,R,congrArg some (k_next h7 h6),trivial⟩)
 exact Ae tbk [] R R<|Rg2 hm R [0] ob3 cap3 (.cons (.tmp _ _ R) .nil) R R

/-! trireme/apart.Counts -/
def apart_Counts.l1 (r : (List (ByteArray × Int))) : List ByteArray → Nat → (List Int) → Option (List Int)
 | [], k, out2 => some out2
 | x :: l, k, out2 =>
  (V.ap 8 out2 [((V.mg r x).getD 0)]).bind fun out4 =>
  apart_Counts.l1 r l (k + 1) out4
def apart_Counts (ms : List T_api_Machine) (bs : List T_api_Bound) (p : T_api_Pod) : Option (List ByteArray × List Int) :=
 (apart_tally ms bs p).bind fun r =>
 (yard_Zones ms).bind fun r2 =>
 (apart_Counts.l1 r r2 0 ([] : List Int)).bind fun out32 =>
 some (r2, out32)
theorem K127 (ms : List T_api_Machine) (bs : List T_api_Bound) (p : T_api_Pod) : VS2 Tryz.prog 227 (apart_Counts ms bs p) [L61 ms, L49 bs, T_api_Pod.vv p] [] (fun r ob1 cap1=>.tup [L9 r.1, Z3 ob1 r.2 cap1]) (fun r ob1 cap1=>[Q3 ob1 cap1 r.2]) := by
 refine Cf [.tmp 6,.tmp 7] Tryz.func227 R R R fun r hm=>?_
 unfold apart_Counts at hm
 refine Ai<|Ad R R<|Bg R R fun b=>Aa tbk [] 2 R R<|Ac<|Ai<|Aa tbk [0] 3 R R<|Ad R R<|VO.cl1 hm 0 R fn236 R (K125 _ _ _) fun r b2 hm=>Ab R R (Ak R)<|Ac<|Ai<|Ab R R (Aj R)<|Ad R R<|B3 hm 0 R fn237 R (K126 _) fun r2 ob cap hm=>Bl (A6 0 [(18,L9 r2)] R ⟨⟨_,R,.here _ R⟩,trivial⟩ (FzH.refl _))<|Ab R R (Ak R)<|Ac<|Ae tbk [] R R<|Af<|Ai<|Ab R R (Aj R)<|Ab R R (Aw VV.str R B2)<|Ab R R (Aj R)<|Ac<|Cj 9 R fun h10=>Cn hm (fun out32 (gg:Option Nat × Nat)=>[(9,L9 r2),(10,Z3 gg.1 out32 gg.2)]) (fun out32 (gg:Option Nat × Nat)=>[Q3 gg.1 gg.2 out32]) (fun o hm=>?_) fun out32=>Pq fun ob4 cap4 hm=> ?_
 ·refine Cx (r2) (fun zl zk (zs:List Int)=>apart_Counts.l1 r zl zk zs) (fun k zs (zg:Option Nat × Nat)=>[(8,.map b2),(9,L9 r2),(10,Z3 zg.1 zs zg.2),(19,L9 r2),(20,Iw (r2.length : Int)),(21,Iw (k : Int))]) (fun _ zs (zg:Option Nat × Nat)=>[Q3 zg.1 zg.2 zs,.map b2 (List.map (pf VV.str (VV.int .i64)) r)]) _ (none,0) hm (Ct (Bx 3) (Ag [0,0] R R)) (fun k out2=>Pq fun ob3 cap3 hk hm=>?_) fun k x l out2=>Pq fun ob3 cap3 h11 hm=> ?_
  ·rw [apart_Counts.l1] at hm
   exact Ae tbk [] R R<|Af<|Ca R (k_end hk)<|A7<|As (ob3,cap3) hm (Ag [0] R R)
  rw [apart_Counts.l1] at hm
  exact Ae tbk [] R R<|Af<|B7 R (k_lt h11)<|Am<|Af<|A2<|Ai<|Ab R R (Cp VV.str R R el25 h11)<|Aa tbk [] 2 R R<|Ac<|Bn<|Aa tbk [] 3 R R<|Ab R R (C0 1 (kf:=VV.str) (vf:=(VV.int .i64)) (l:=r) (k:=x) (z:=(0 : Int)) false mk9 B8 R R R zc3 R)<|Ad R R<|A5 ap45 R R R R R fun b3=>Bd hm fun out4 h13 hm=>Ad R R<|Ch 1 (VV.int .i64) (l:=out2) (l2:=[((V.mg r x).getD (0 : Int))]) ap45 R R (sT_row 0 (VV.int .i64) el45 R R) h13 fun ob5 cap5=>Ab R R (Ak R)<|Ac<|Bc tbk [] R R<|Ap _ (ob5,cap5) hm (B0 [1,1] R ⟨R,R,R,R,R,congrArg some (k_next h11 h10),trivial⟩)
 exact Ae tbk [] R R<|Rg2 hm R [0] ob4 cap4 (.cons (.tmp _ _ R) (.cons (.tmp _ _ R) .nil)) R R

/-! trireme/apart.Many -/
def apart_Many.l1 (on_ : ByteArray) (r2 : (List (ByteArray × ByteArray))) (r3 : List ByteArray × List Int) : List ByteArray → Nat → Bool → Int → Int → Option (Bool × Int × Int)
 | [], k, met2, mine2, least2 => some (met2, mine2, least2)
 | x :: l, k, met2, mine2, least2 =>
  (V.gl r3.2 (k : Int)).bind fun x2 =>
  if (((V.mg r2 on_).isSome) && (V.seq x ((V.mg r2 on_).getD (⟨#[]⟩ : ByteArray)))) = true then
   (V.gl r3.2 (k : Int)).bind fun x3 =>
   apart_Many.l1 on_ r2 r3 l (k + 1) true x3 (min least2 x2)
  else
   apart_Many.l1 on_ r2 r3 l (k + 1) met2 mine2 (min least2 x2)
def apart_Many (ms : List T_api_Machine) (bs : List T_api_Bound) (p : T_api_Pod) (on_ : ByteArray) : Option Bool :=
 (if ((p.Spread.length : Int) == 0) = true then some true else (yard_Find ms on_).bind fun r =>
 some (decide (r < 0))).bind fun c =>
 if c = true then
  some false
 else
  (apart_zones ms).bind fun r2 =>
  (apart_Counts ms bs p).bind fun r3 =>
  (apart_Many.l1 on_ r2 r3 r3.1 0 false 0 (401 : Int)).bind fun j =>
  (labels_Has p.Labels p.Spread).bind fun r4 =>
  if r4 = true then
   some ((!j.1) || (decide ((i64.wrap (j.2.1 + 1)) > (i64.wrap (j.2.2 + p.Skew)))))
  else
   some ((!j.1) || (decide (j.2.1 > (i64.wrap (j.2.2 + p.Skew)))))
theorem K128 (ms : List T_api_Machine) (bs : List T_api_Bound) (p : T_api_Pod) (on_ : ByteArray) : VS Tryz.prog 204 (apart_Many ms bs p on_) [L61 ms, L49 bs, T_api_Pod.vv p, .str on_] [] .bool N0 := by
 refine A4 [.tmp 8] Tryz.func204 R R R fun r hm=>?_
 unfold apart_Many at hm
 refine Ai<|Ad R R<|Bg R R fun b=>Ab R R (Ak R)<|Ac<|Af<|Ai<|Aa tbk [0] 2 R R<|Ab R R (Aw T_api_Label.vv R Bu)<|Aa tbk [] 2 R R<|Bh hm 5 27 22 R (fun _ K' h2 J hm=>Aa tbk [] 5 R R<|J 4 R R (Bj hm)) (fun _ K' h2 J hm=>Aa tbk [] 2 R R<|A1 R R R R R<|Av hm 0 R fn47 R (K70 _ _) fun r hm=>Aa tbk [] 2 R R<|J 4 R R (Bj hm)) fun c hm=>Ac<|Ao hm R (fun h5 hm=>Ae tbk [] R R<|Rt1 hm R [] R R R) fun h5 hm=>Am<|Ai<|Ab R R (Aj R)<|Ad R R<|VO.cl1 hm 0 R fn225 R (K121 _) fun r2 b2 hm=>Ab R R (Aj R)<|Ab R R (C0 0 (kf:=VV.str) (vf:=VV.str) (l:=r2) (k:=on_) (z:=(⟨#[]⟩ : ByteArray)) true mk9 C7 R R R zc9 R)<|Aa tbk [] 5 R R<|Ac<|Ai<|Aa tbk [1] 3 R R<|Ad R R<|B3 hm 0 R fn227 R (K127 _ _ _) fun r3 ob cap hm=>Aa tbk [] 5 R R<|Ac<|Ae tbk [] R R<|Ae tbk [] R R<|Af<|Ai<|Ab R R (Aj R)<|Ab R R (Aw VV.str R B2)<|Ab R R (Aj R)<|Ac<|Cj 42 R fun h12=>Cn hm (fun j (_:Unit)=>[(6,.ptr b 0),(13,.bool j.1),(14,Iw j.2.1),(15,Iw j.2.2)]) (fun _ (_:Unit)=>[X47 b p]) (fun o hm=>?_) fun j _ hm=> ?_
 ·refine Cx (r3.1) (fun zl zk (zs:Bool × Int × Int)=>apart_Many.l1 on_ r2 r3 zl zk zs.1 zs.2.1 zs.2.2) (fun k zs (zg:Option Nat)=>[(6,.ptr b 0),(9,.str ((V.mg r2 on_).getD (⟨#[]⟩ : ByteArray))),(10,.bool ((V.mg r2 on_).isSome)),(12,Z3 zg r3.2 cap),(13,.bool zs.1),(14,Iw zs.2.1),(15,Iw zs.2.2),(42,L9 r3.1),(43,Iw (r3.1.length : Int)),(44,Iw (k : Int))]) (fun _ _ (zg:Option Nat)=>[Q3 zg cap r3.2,X47 b p]) (false,(0 : Int),(401 : Int)) _ hm (Ag [0,1] R R) (fun k=>Pq fun met2=>Pq fun mine2 least2 ob3 hk hm=>?_) fun k x l=>Pq fun met2=>Pq fun mine2 least2 ob3 h13 hm=> ?_
  ·rw [apart_Many.l1] at hm
   exact Ae tbk [] R R<|Af<|Ca R (k_end hk)<|A7<|As () hm (Ag [1] R R)
  rw [apart_Many.l1] at hm
  refine Ae tbk [] R R<|Af<|B7 R (k_lt h13)<|Am<|Af<|A2<|Ai<|Ab R R (Aj R)<|Ab R R (Cp VV.str R R el25 h13)<|Aa tbk [] 3 R R<|Ac<|Ai<|Aa tbk [] 3 R R<|Bd hm fun x2 h14 hm=>Df 0 R (gl_pos (VV.int .i64) h14) fun b3 h15=> ?_
  subst h15
  exact Ab R R (Di (VV.int .i64) R R el45 h14)<|Ab R R (C9 (i:=0) (y:=(VV.int .i64) x2) R R R (gl_map _ (gl_some h14).2) ld3 R)<|Ab R R (VP.min2 R R)<|Ab R R (Ak R)<|Ac<|Ai<|Aa tbk [] 2 R R<|B5 tbk [] 4 60 56 R R R R R<|Ac<|Ao hm R (fun h17 hm=>Be 0 mixed<|Aq tbk [0,1] [] (by kernel_rfl) R R R<|Bd hm fun x3 h18 hm=>Ax 2 R R R (by kernel_rfl) (Di (VV.int .i64) R R el45 h18)<|Ax 3 R R R (by kernel_rfl) (C9 (i:=0) (y:=(VV.int .i64) x3) R R R (gl_map _ (gl_some h18).2) ld3 R)<|Aq tbk [4,5] [] (by kernel_rfl) R R R<|A0 (by kernel_rfl)<|Bc tbk [] R R<|Ap (true,x3,(min least2 x2)) _ hm (B0 [0,0] R ⟨R,R,R,R,R,R,R,R,R,congrArg some (k_next h13 h12),trivial⟩)) fun h17 hm=>Am<|Bc tbk [] R R<|Ap (met2,mine2,(min least2 x2)) _ hm (B0 [0,0] R ⟨R,R,R,R,R,R,R,R,R,congrArg some (k_next h13 h12),trivial⟩)
 exact Af<|Ai<|Aa tbk [0,0] 4 R R<|Ad R R<|Av hm 0 R fn212 R (K90 _ _) fun r4 hm=>Ac<|Ao hm R (fun h20 hm=>Bc tbk [] R R<|Ai<|Aa tbk [] 3 R R<|Cr tbk [0] 7 82 75 R R R R R<|Ab R R (Ak R)<|Ac<|Rt1 hm R [] R R R) fun h20 hm=>Am<|Ai<|Aa tbk [] 3 R R<|Cr tbk [0] 7 82 75 R R R R R<|Ab R R (Ak R)<|Ac<|Rt1 hm R [] R R R

/-! trireme/apart.Why -/
def apart_Why (ms : List T_api_Machine) (bs : List T_api_Bound) (p : T_api_Pod) (on_ : ByteArray) : Option Int :=
 (apart_Near ms bs p on_).bind fun r =>
 if r = true then
  some 7
 else
  (apart_Many ms bs p on_).bind fun r2 =>
  if r2 = true then
   some 8
  else
   some 0
theorem K129 (ms : List T_api_Machine) (bs : List T_api_Bound) (p : T_api_Pod) (on_ : ByteArray) : VS Tryz.prog 178 (apart_Why ms bs p on_) [L61 ms, L49 bs, T_api_Pod.vv p, .str on_] [] Iw N0 := by
 refine A4 [.tmp 8] Tryz.func178 R R R fun r hm=>?_
 unfold apart_Why at hm
 exact Ai<|Ad R R<|Bg R R fun b=>Ab R R (Ak R)<|Ac<|Af<|A2<|Ai<|Aa tbk [0] 4 R R<|Ad R R<|Av hm 0 R fn203 R (K124 _ _ _ _) fun r hm=>Ab R R (Ak R)<|Ac<|Ao hm R (fun h3 hm=>Ae tbk [] R R<|Rt1 hm R [] R R R) fun h3 hm=>Ai<|Aa tbk [0] 4 R R<|Ad R R<|Av hm 0 R fn204 R (K128 _ _ _ _) fun r2 hm=>Ab R R (Ak R)<|Ac<|Ao hm R (fun h5 hm=>Ae tbk [] R R<|Rt1 hm R [] R R R) fun h5 hm=>Am<|Ae tbk [] R R<|Rt1 hm R [] R R R

/-! (trireme/fit.asker).why -/
def fit_asker_why (a : T_fit_asker) (m : T_api_Machine) : Option Int :=
 (suit_Suits m a.bs a.p).bind fun r =>
 if (r != 0) = true then
  some r
 else
  (apart_Why a.ms a.bs a.p m.Name).bind fun r2 =>
  some r2
theorem K130 (a : T_fit_asker) (m : T_api_Machine) : VS Tryz.prog 133 (fit_asker_why a m) [T_fit_asker.vv a, T_api_Machine.vv m] [] Iw N0 := by
 refine A4 [.tmp 4] Tryz.func133 R R R fun r hm=>?_
 unfold fit_asker_why at hm
 exact Ai<|Ad R R<|Bg R R fun b=>Ad R R<|Bg R R fun b2=>Ab R R (Ak R)<|Ac<|Af<|Ai<|Aa tbk [0,1,1] 5 R R<|Ad R R<|Av hm 0 R fn177 R (K120 _ _ _) fun r hm=>Ab R R (Ak R)<|Ac<|Ae tbk [] R R<|Ao hm R (fun h4 hm=>Ae tbk [] R R<|Rt1 hm R [] R R R) fun h4 hm=>Am<|Ai<|Aa tbk [1,1,1,0] 8 R R<|Ad R R<|Av hm 0 R fn178 R (K129 _ _ _ _) fun r2 hm=>Ab R R (Ak R)<|Ac<|Rt1 hm R [] R R R

/-! trireme/fit.Why -/
def fit_Why (ms : List T_api_Machine) (bs : List T_api_Bound) (p : T_api_Pod) (on_ : ByteArray) : Option Int :=
 (yard_Find ms on_).bind fun r =>
 if (decide (r < 0)) = true then
  some 1
 else
  (V.gl ms r).bind fun x =>
  (fit_asker_why (⟨ms, bs, p⟩ : T_fit_asker) x).bind fun r2 =>
  some r2
theorem K131 (ms : List T_api_Machine) (bs : List T_api_Bound) (p : T_api_Pod) (on_ : ByteArray) : VS Tryz.prog 79 (fit_Why ms bs p on_) [L61 ms, L49 bs, T_api_Pod.vv p, .str on_] [] Iw N0 := by
 refine A4 [.tmp 8] Tryz.func79 R R R fun r hm=>?_
 unfold fit_Why at hm
 refine Ai<|Ad R R<|Bg R R fun b=>Ab R R (Ak R)<|Ac<|Ai<|Aa tbk [] 2 R R<|Ad R R<|Av hm 0 R fn47 R (K70 _ _) fun r hm=>Ab R R (Ak R)<|Ac<|Af<|Ae tbk [] R R<|Ao hm R (fun h3 hm=>Ae tbk [] R R<|Rt1 hm R [] R R R) fun h3 hm=>Am<|Af<|Be 0 mixed<|Aq tbk [0,1,2] [0] (by kernel_rfl) R R R<|Ax 3 R R R (by kernel_rfl) (B4 pl152 R R)<|Aq tbk [4,5] [] (by kernel_rfl) R R R<|Bd hm fun x h4 hm=>Ax 6 R R R (by kernel_rfl) (Bf T_api_Machine.vv R R el22 h4)<|Ax 7 R R R (by kernel_rfl) (Bt R ld61 R)<|Ah 8 (by kernel_rfl)<|Bd hm fun r2 h5 hm=>Al R R R<|Au 0 R fn133 R (K130 (⟨ms,bs,p⟩ : T_fit_asker) x r2 h5) fun _ _ h6=> ?_
 obtain ⟨rfl,rfl⟩:=h6
 exact Ax 9 R R R (by kernel_rfl) (Ak R)<|A0 (by kernel_rfl)<|Rt1 hm R [] R R R

/-! (*trireme/snap.Snap).Why -/
def snap_Snap_Why_x (s : T_snap_Snap) (p : T_api_Pod) (on_ : ByteArray) : Option Int :=
 (snap_Snap_there_x s).bind fun r =>
 (if (!r) = true then some true else (spec_RightPod p).bind fun r2 =>
 some (!r2)).bind fun c =>
 if c = true then
  some 1
 else
  (s.now).bind fun x =>
  (s.now).bind fun x2 =>
  (fit_Why x.ms x2.bs p on_).bind fun r3 =>
  some r3
theorem K132 (s : T_snap_Snap) (p : T_api_Pod) (on_ : ByteArray) (b : Nat) (ob : Option Nat) (cap : Nat) : VS Tryz.prog 36 (snap_Snap_Why_x s p on_) [.ptr b 0, T_api_Pod.vv p, .str on_] [.box b 96 [T_snap_state.pf s.now, Z93 ob s.kept cap, Iw s.tried], Q93 ob cap s.kept] Iw (fun r=>[.box b 96 [T_snap_state.pf s.now, Z93 ob s.kept cap, Iw s.tried], Q93 ob cap s.kept]) := by
 refine A4 [.tmp 6] Tryz.func36 R R R fun r hm=>?_
 unfold snap_Snap_Why_x at hm
 refine Ai<|Ad R R<|Bg R R fun b2=>Ab R R (Ak R)<|Ac<|Af<|Ai<|Ab R R (Aj R)<|Bl (Bi [1,1,0] R)<|Ad R R<|Av hm 2 R fn77 R (K66 _ _ _ _) fun r hm=>Aa tbk [] 2 R R<|Bh hm 4 14 10 R (fun _ K' h3 J hm=>Aa tbk [] 4 R R<|J 3 R R (Bj hm)) (fun _ K' h3 J hm=>Aa tbk [2] 1 R R<|A1 R R R R R<|Av hm 0 R fn78 R (K35 _) fun r2 hm=>Aa tbk [] 2 R R<|J 3 R R (Bj hm)) fun c hm=>Ac<|Ao hm R (fun h6 hm=>Ae tbk [] R R<|Rt1 hm R [0,0] R R R) fun h6 hm=>Am<|Af<|Be 0 mixed<|Aq tbk [0,1,2] [] (by kernel_rfl) R R R<|Bd hm fun x h7 hm=>Ax 3 R R R (by kernel_rfl) (Dn (Az (i:=0) R R ld93 R) (congrArg T_snap_state.pf h7))<|Aq tbk [4,5,6,7,8,9] [] (by kernel_rfl) R R R<|Bd hm fun x2 h8 hm=>Ax 10 R R R (by kernel_rfl) (Dn (Az (i:=0) R R ld93 R) (congrArg T_snap_state.pf h8))<|Aq tbk [11,12,13,14,15] [2] (by kernel_rfl) R R R<|Ah 16 (by kernel_rfl)<|Bd hm fun r3 h9 hm=>Al R R R<|Au 0 R fn79 R (K131 x.ms x2.bs p on_ r3 h9) fun _ _ h10=> ?_
 obtain ⟨rfl,rfl⟩:=h10
 exact Ax 17 R R R (by kernel_rfl) (Ak R)<|A0 (by kernel_rfl)<|Rt1 hm R [0,0] R R R

/-! (*trireme/snap.Snap).restore -/
def snap_Snap_restore (s : T_snap_Snap) (x : Option T_snap_state) : Option T_snap_Snap :=
 some (⟨x, s.kept, s.tried⟩ : T_snap_Snap)
theorem K133 (s : T_snap_Snap) (x : Option T_snap_state) (b : Nat) (ob : Option Nat) (cap : Nat) : VS2 Tryz.prog 91 (snap_Snap_restore s x) [.ptr b 0, T_snap_state.pf x] [.box b 96 [T_snap_state.pf s.now, Z93 ob s.kept cap, Iw s.tried], Q93 ob cap s.kept] (fun r ob0_1 cap0_1=>.tup []) (fun r ob0_1 cap0_1=>[.box b 96 [T_snap_state.pf r.now, Z93 ob0_1 r.kept cap0_1, Iw r.tried], Q93 ob0_1 cap0_1 r.kept]) := by
 refine Cf [] Tryz.func91 R R R fun r hm=>?_
 unfold snap_Snap_restore at hm
 refine Bn<|Aa tbk [] 4 R R<|Ad R R<|VO.storePf (i:=0) R R R ld93 (T_snap_state.pf_one _) R<|Ac<|?_
 obtain rfl:=Option.some.inj hm
 exact ⟨.inr R,_,.nil,[0,0],_,R,ob,cap,R,R⟩

/-! (*trireme/snap.Snap).pop -/
def snap_Snap_pop_snap_Snap_restore_x (s : T_snap_Snap) : Option (Int × T_snap_Snap) :=
 (snap_Snap_there_x s).bind fun r =>
 if (!r) = true then
  some (23, s)
 else
  if ((s.kept.length : Int) == 0) = true then
   some (19, s)
  else
   (V.gl s.kept (i64.wrap ((s.kept.length : Int) - 1))).bind fun x =>
   (snap_Snap_restore s (some x)).bind fun r2 =>
   (V.sl r2.kept none (some (i64.wrap ((s.kept.length : Int) - 1)))).bind fun l =>
   some (0, (⟨r2.now, l, r2.tried⟩ : T_snap_Snap))
theorem K134 (s : T_snap_Snap) (b : Nat) (ob : Option Nat) (cap : Nat) : VS2 Tryz.prog 90 (snap_Snap_pop_snap_Snap_restore_x s) [.ptr b 0, .clo (.func 91) [.ptr b 0] []] [.box b 96 [T_snap_state.pf s.now, Z93 ob s.kept cap, Iw s.tried], Q93 ob cap s.kept] (fun r ob0_1 cap0_1=>Iw r.1) (fun r ob0_1 cap0_1=>[.box b 96 [T_snap_state.pf r.2.now, Z93 ob0_1 r.2.kept cap0_1, Iw r.2.tried], Q93 ob0_1 cap0_1 r.2.kept]) := by
 refine Cf [.tmp 4] Dr R R R fun r hm=>?_
 unfold snap_Snap_pop_snap_Snap_restore_x at hm
 refine Ae tbk [] R R<|Af<|A2<|Ai<|Ab R R (Aj R)<|Ad R R<|Av hm 2 R fn77 R (K66 _ _ _ _) fun r hm=>Aa tbk [] 2 R R<|Ac<|Ao hm R (fun h2 hm=>Ae tbk [] R R<|Rg2 hm R [0,0] ob cap (.cons (.tmp _ _ R) .nil) R R) fun h2 hm=>Ai<|Aa tbk [0] 4 R R<|Ab R R (Cq T_snap_state.er R C3)<|Aa tbk [] 2 R R<|Ac<|Ao hm R (fun h3 hm=>Ae tbk [] R R<|Rg2 hm R [0,0] ob cap (.cons (.tmp _ _ R) .nil) R R) fun h3 hm=>Am<|Ai<|Aa tbk [0] 4 R R<|Ab R R (Cq T_snap_state.er R C3)<|Aa tbk [] 2 R R<|Ac<|Ai<|Aa tbk [0] 6 R R<|Bd hm fun x h4 hm=>Df 1 R (gl_pos T_snap_state.er h4) fun b2 h5=> ?_
 subst h5
 exact Ab R R (Di T_snap_state.er R R el94 h4)<|Ab R R (C9 (i:=1) (y:=T_snap_state.er x) R R R (gl_map _ (gl_some h4).2) ld93 R)<|Ad R R<|B3 hm 2 R fn91 R (K133 _ _ _ _ _) fun r2 ob2 cap2 hm=>Ac<|Ai<|Aa tbk [0] 6 R R<|Bd hm fun l h7 hm=>Ad R R<|Dd 1 (f:=T_snap_state.er) (l:=r2.kept) el94 R R R h7<|Aa tbk [] 2 R R<|Ad R R<|An (i:=0) R R R ld94 R R R<|Ac<|Ae tbk [] R R<|Rg2 hm R [0,0] ob2 cap2 (.cons (.tmp _ _ R) .nil) R R

/-! (*trireme/snap.Snap).Revert -/
def snap_Snap_Revert_x (s : T_snap_Snap) : Option (Int × T_snap_Snap) :=
 (snap_Snap_pop_snap_Snap_restore_x s).bind fun r =>
 some (r.1, r.2)
theorem K135 (s : T_snap_Snap) (b : Nat) (ob : Option Nat) (cap : Nat) : VS2 Tryz.prog 43 (snap_Snap_Revert_x s) [.ptr b 0] [.box b 96 [T_snap_state.pf s.now, Z93 ob s.kept cap, Iw s.tried], Q93 ob cap s.kept] (fun r ob0_1 cap0_1=>Iw r.1) (fun r ob0_1 cap0_1=>[.box b 96 [T_snap_state.pf r.2.now, Z93 ob0_1 r.2.kept cap0_1, Iw r.2.tried], Q93 ob0_1 cap0_1 r.2.kept]) := by
 refine Cf [.tmp 2] Tryz.func43 R R R fun r hm=>?_
 unfold snap_Snap_Revert_x at hm
 exact Ae tbk [] R R<|Ai<|Aa tbk [] 2 R R<|Ab R R (Cd R R)<|Ad R R<|B3 hm 2 R fn90 R (K134 _ _ _ _) fun r ob2 cap2 hm=>Ab R R (Ak R)<|Ac<|Rg2 hm R [0,0] ob2 cap2 (.cons (.tmp _ _ R) .nil) R R

/-! (*trireme/snap.Snap).Machines -/
def snap_Snap_Machines_x (s : T_snap_Snap) : Option (List T_api_Machine) :=
 (snap_Snap_there_x s).bind fun r =>
 if (!r) = true then
  some ([] : List T_api_Machine)
 else
  (s.now).bind fun x =>
  (snap_machines x.ms).bind fun r2 =>
  some r2
theorem K136 (s : T_snap_Snap) (b : Nat) (ob : Option Nat) (cap : Nat) : VS Tryz.prog 34 (snap_Snap_Machines_x s) [.ptr b 0] [.box b 96 [T_snap_state.pf s.now, Z93 ob s.kept cap, Iw s.tried], Q93 ob cap s.kept] (fun r=>L61 r) (fun r=>[.box b 96 [T_snap_state.pf s.now, Z93 ob s.kept cap, Iw s.tried], Q93 ob cap s.kept]) := by
 refine A4 [.tmp 2] Tryz.func34 R R R fun r hm=>?_
 unfold snap_Snap_Machines_x at hm
 exact Ae tbk [] R R<|Af<|Ai<|Ab R R (Aj R)<|Ad R R<|Av hm 2 R fn77 R (K66 _ _ _ _) fun r hm=>Ab R R (B6 R)<|Ac<|Ao hm R (fun h2 hm=>Ae tbk [] R R<|Bz (Shift.nilList 2 61 R)<|Rt1 hm R [0,0] R R R) fun h2 hm=>Am<|Ai<|Aa tbk [] 3 R R<|Bd hm fun x h3 hm=>Ab R R (Dn (Az (i:=0) R R ld93 R) (congrArg T_snap_state.pf h3))<|Aa tbk [] 3 R R<|Ad R R<|B3 hm 0 R fn68 R (K44 _) fun r2 ob2 cap2 hm=>Bl (A6 0 [(13,L61 r2)] R ⟨⟨_,R,.here _ R⟩,trivial⟩ (FzH.refl _))<|Ab R R (Ak R)<|Ac<|Rt1 hm R [0,0] R R R

/-! (*trireme/snap.Snap).forget -/
def snap_Snap_forget (s : T_snap_Snap) (a : Option T_snap_state) : Option Unit :=
 some ()
theorem K137 (s : T_snap_Snap) (a : Option T_snap_state) (b : Nat) (ob : Option Nat) (cap : Nat) : VS Tryz.prog 92 (snap_Snap_forget s a) [.ptr b 0, T_snap_state.pf a] [.box b 96 [T_snap_state.pf s.now, Z93 ob s.kept cap, Iw s.tried], Q93 ob cap s.kept] (fun r=>.tup []) (fun r=>[.box b 96 [T_snap_state.pf s.now, Z93 ob s.kept cap, Iw s.tried], Q93 ob cap s.kept]) := by
 refine A4 [] Tryz.func92 R R R fun r hm=>?_
 unfold snap_Snap_forget at hm
 exact Am<|Rn0 hm R [0,0] (.nil) R R

/-! (*trireme/snap.Snap).pop -/
def snap_Snap_pop_snap_Snap_forget_x (s : T_snap_Snap) : Option (Int × T_snap_Snap) :=
 (snap_Snap_there_x s).bind fun r =>
 if (!r) = true then
  some (23, s)
 else
  if ((s.kept.length : Int) == 0) = true then
   some (19, s)
  else
   (V.gl s.kept (i64.wrap ((s.kept.length : Int) - 1))).bind fun x =>
   (snap_Snap_forget s (some x)).bind fun r2 =>
   (V.sl s.kept none (some (i64.wrap ((s.kept.length : Int) - 1)))).bind fun l =>
   some (0, (⟨s.now, l, s.tried⟩ : T_snap_Snap))
theorem K138 (s : T_snap_Snap) (b : Nat) (ob : Option Nat) (cap : Nat) : VS2 Tryz.prog 90 (snap_Snap_pop_snap_Snap_forget_x s) [.ptr b 0, .clo (.func 92) [.ptr b 0] []] [.box b 96 [T_snap_state.pf s.now, Z93 ob s.kept cap, Iw s.tried], Q93 ob cap s.kept] (fun r ob0_1 cap0_1=>Iw r.1) (fun r ob0_1 cap0_1=>[.box b 96 [T_snap_state.pf r.2.now, Z93 ob0_1 r.2.kept cap0_1, Iw r.2.tried], Q93 ob0_1 cap0_1 r.2.kept]) := by
 refine Cf [.tmp 4] Dr R R R fun r hm=>?_
 unfold snap_Snap_pop_snap_Snap_forget_x at hm
 refine Ae tbk [] R R<|Af<|A2<|Ai<|Ab R R (Aj R)<|Ad R R<|Av hm 2 R fn77 R (K66 _ _ _ _) fun r hm=>Aa tbk [] 2 R R<|Ac<|Ao hm R (fun h2 hm=>Ae tbk [] R R<|Rg2 hm R [0,0] ob cap (.cons (.tmp _ _ R) .nil) R R) fun h2 hm=>Ai<|Aa tbk [0] 4 R R<|Ab R R (Cq T_snap_state.er R C3)<|Aa tbk [] 2 R R<|Ac<|Ao hm R (fun h3 hm=>Ae tbk [] R R<|Rg2 hm R [0,0] ob cap (.cons (.tmp _ _ R) .nil) R R) fun h3 hm=>Am<|Ai<|Aa tbk [0] 4 R R<|Ab R R (Cq T_snap_state.er R C3)<|Aa tbk [] 2 R R<|Ac<|Ai<|Aa tbk [0] 6 R R<|Bd hm fun x h4 hm=>Df 1 R (gl_pos T_snap_state.er h4) fun b2 h5=> ?_
 subst h5
 exact Ab R R (Di T_snap_state.er R R el94 h4)<|Ab R R (C9 (i:=1) (y:=T_snap_state.er x) R R R (gl_map _ (gl_some h4).2) ld93 R)<|Ad R R<|Av hm 2 R fn92 R (K137 _ _ _ _ _) fun r2 hm=>Ac<|Ai<|Aa tbk [0] 6 R R<|Bd hm fun l h7 hm=>Ad R R<|Dd 1 (f:=T_snap_state.er) (l:=s.kept) el94 R R R h7<|Aa tbk [] 2 R R<|Ad R R<|An (i:=0) R R R ld94 R R R<|Ac<|Ae tbk [] R R<|Rg2 hm R [0,0] (some b2) cap (.cons (.tmp _ _ R) .nil) R R

/-! (*trireme/snap.Snap).Commit -/
def snap_Snap_Commit_x (s : T_snap_Snap) : Option (Int × T_snap_Snap) :=
 (snap_Snap_pop_snap_Snap_forget_x s).bind fun r =>
 some (r.1, r.2)
theorem K139 (s : T_snap_Snap) (b : Nat) (ob : Option Nat) (cap : Nat) : VS2 Tryz.prog 44 (snap_Snap_Commit_x s) [.ptr b 0] [.box b 96 [T_snap_state.pf s.now, Z93 ob s.kept cap, Iw s.tried], Q93 ob cap s.kept] (fun r ob0_1 cap0_1=>Iw r.1) (fun r ob0_1 cap0_1=>[.box b 96 [T_snap_state.pf r.2.now, Z93 ob0_1 r.2.kept cap0_1, Iw r.2.tried], Q93 ob0_1 cap0_1 r.2.kept]) := by
 refine Cf [.tmp 2] Tryz.func44 R R R fun r hm=>?_
 unfold snap_Snap_Commit_x at hm
 exact Ae tbk [] R R<|Ai<|Aa tbk [] 2 R R<|Ab R R (Cd R R)<|Ad R R<|B3 hm 2 R fn90 R (K138 _ _ _ _) fun r ob2 cap2 hm=>Ab R R (Ak R)<|Ac<|Rg2 hm R [0,0] ob2 cap2 (.cons (.tmp _ _ R) .nil) R R

/-! (*trireme/snap.Snap).Take$1 -/
def snap_Snap_Take_1 (x : T_snap_state) (a : ByteArray) : Option (Int × T_snap_state) :=
 (yard_Place x.bs a).bind fun r =>
 if (decide (r < 0)) = true then
  some (16, x)
 else
  (V.sl x.bs none (some r)).bind fun v =>
  (V.sl x.bs (some (i64.wrap (r + 1))) none).bind fun v2 =>
  (V.ap 288 v v2).bind fun l =>
  some (0, (⟨x.ms, l⟩ : T_snap_state))
theorem K140 (x : T_snap_state) (a : ByteArray) (b : Nat) (b2 : Nat) : VS Tryz.prog 89 (snap_Snap_Take_1 x a) [.ptr b 0, .ptr b2 0] [X119 b x, .box b2 9 [.str a]] (fun r=>Iw r.1) (fun r=>[X119 b r.2, .box b2 9 [.str a]]) := by
 refine A4 [.tmp 3] Tryz.func89 R R R fun r hm=>?_
 unfold snap_Snap_Take_1 at hm
 refine Ae tbk [] R R<|Af<|Be 0 mixed<|Aq tbk [0,1,2,3,4] [0,1] (by kernel_rfl) R R R<|Ah 5 (by kernel_rfl)<|Al R R R<|Av hm 0 R fn54 R (K77 _ _) fun r hm=>Ax 6 R R R (by kernel_rfl) (Ak R)<|A0 (by kernel_rfl)<|Af<|Ae tbk [] R R<|Ao hm R (fun h2 hm=>Ae tbk [] R R<|Rt1 hm R [0,0] R R R) fun h2 hm=>Am<|Af<|Be 1 mixed<|Aq tbk [0,1,2,3,5,6,8,9,10,12,13] [] (by kernel_rfl) R R R<|?_
 refine Bm [4,11] (by kernel_rfl) ⟨?_,?_,trivial⟩
 ·exact Al R R R<|A8 (Az (i:=0) R R ld23 R)<|Bd hm fun v h3 hm=>Ax 7 R R R (by kernel_rfl) (Bp (f:=T_api_Bound.vv) el23 R R R R R h3)<|Ah 11 (by kernel_rfl)<|Al R R R<|A8 (Az (i:=0) R R ld23 R)<|Bd hm fun v2 h4 hm=>Ax 14 R R R (by kernel_rfl) (Dg R R R el23 h4)<|Ah 15 (by kernel_rfl)<|Bd hm fun l h5 hm=>Al R R R<|Br (f:=T_api_Bound.vv) (l2:=v2) ap23 R (sT_list T_api_Bound.vv el23 R R) h5<|Aq tbk [16,17] [] (by kernel_rfl) R R R<|Ah 18 (by kernel_rfl)<|Al R R R<|An (i:=0) R R R ld23 R R R<|A0 (by kernel_rfl)<|Ae tbk [] R R<|Rt1 hm R [0,0] R R R
 ·exact Al R R R<|A8 (Az (i:=0) R R ld23 R)<|Bd hm fun v3 h6 hm=>Bd hm fun v4 h7 hm=>Ax 14 R R R (by kernel_rfl) (Dg R R R el23 h7)<|Ah 4 (by kernel_rfl)<|Al R R R<|A8 (Az (i:=0) R R ld23 R)<|Ax 7 R R R (by kernel_rfl) (Bp (f:=T_api_Bound.vv) el23 R R R R R h6)<|Ah 15 (by kernel_rfl)<|Bd hm fun l2 h8 hm=>Al R R R<|Br (f:=T_api_Bound.vv) (l2:=v4) ap23 R (sT_list T_api_Bound.vv el23 R R) h8<|Aq tbk [16,17] [] (by kernel_rfl) R R R<|Ah 18 (by kernel_rfl)<|Al R R R<|An (i:=0) R R R ld23 R R R<|A0 (by kernel_rfl)<|Ae tbk [] R R<|Rt1 hm R [0,0] R R R

/-! (*trireme/snap.Snap).change -/
def snap_Snap_change_snap_Snap_Take_1_x (s : T_snap_Snap) (c : ByteArray) : Option (Int × T_snap_Snap) :=
 (snap_Snap_there_x s).bind fun r =>
 if (!r) = true then
  some (23, s)
 else
  (s.now).bind fun x =>
  (snap_Snap_Take_1 x c).bind fun r2 =>
  (snap_Snap_change_1 s r2.1 r2.2).bind fun r3 =>
  some (r2.1, r3)
theorem K141 (s : T_snap_Snap) (c : ByteArray) (b : Nat) (ob : Option Nat) (cap : Nat) (b2 : Nat) : VS2 Tryz.prog 80 (snap_Snap_change_snap_Snap_Take_1_x s c) [.ptr b 0, .clo (.func 89) [] [.ptr b2 0]] [.box b 96 [T_snap_state.pf s.now, Z93 ob s.kept cap, Iw s.tried], Q93 ob cap s.kept, .box b2 9 [.str c]] (fun r ob0_1 cap0_1=>Iw r.1) (fun r ob0_1 cap0_1=>[.box b 96 [T_snap_state.pf r.2.now, Z93 ob0_1 r.2.kept cap0_1, Iw r.2.tried], Q93 ob0_1 cap0_1 r.2.kept, .box b2 9 [.str c]]) := by
 refine Dz [.cell 4 50] C8 R R R fun r hm=>?_
 unfold snap_Snap_change_snap_Snap_Take_1_x at hm
 refine VD.seq<|VD.of<|Bn<|Ad R R<|Bg R R fun b3=>Ad R R<|A3 z50 fun b4=>Ac<|VD.seq<|VD.seq<|VD.of<|Bn<|Aa tbk [1] 1 R R<|Bl (Bi [2,2,0,0,0] R)<|Ad R R<|Av hm 2 R fn77 R (K66 _ _ _ _) fun r hm=>Ab R R (B6 R)<|Ac<|VD.if_ hm R (fun h4 hm=>VD.seq<|VD.of<|Bn<|Ad R R<|An (i:=2) R R R ld50 R R R<|Ac<|VD.of<|Rg2 hm R [0,0,2] ob cap (.cons (.cell _ _ _ _ 2 _ _ _ _ R R ld50 R) .nil) R R) fun h4 hm=>VD.of<|Am<|VD.seq<|VD.of<|Bn<|Aa tbk [3] 3 R R<|Bd hm fun x h5 hm=>Ab R R (Dn (Az (i:=0) R R ld93 R) (congrArg T_snap_state.pf h5))<|Aa tbk [] 2 R R<|Ad R R<|A3 z119 fun b5=>Ad R R<|An (i:=0) R R R ld119 R R R<|Ac<|VD.seq<|VD.df R R (Cd R R) R<|VD.seq<|VD.of<|Bn<|Ab R R (Aj R)<|Bl (Bi [0,4,0,0,0,0] R)<|Ad R R<|Av hm 2 R fn89 R (K140 _ _ _ _) fun r2 hm=>Ad R R<|An (i:=4) R R R ld50 R R R<|Ac<|VD.of<|C5<|FinD.c2 (.inl R) hm (Bi [5,2,2,2,0,0] R) 5 R (K72 _ _ _ _ _ _ _ _ _) fun r3 ob2 cap2 hm=> ?_
 obtain rfl:=Option.some.inj hm
 exact ⟨.inr R,_,.cons (.cell _ _ _ _ 3 _ _ _ _ R R ld50 R) .nil,[1,1,2],_,R,ob2,cap2,R,R⟩

/-! (*trireme/snap.Snap).Take -/
def snap_Snap_Take_x (s : T_snap_Snap) (name : ByteArray) : Option (Int × T_snap_Snap) :=
 (snap_Snap_change_snap_Snap_Take_1_x s name).bind fun r =>
 some (r.1, r.2)
theorem K142 (s : T_snap_Snap) (name : ByteArray) (b : Nat) (ob : Option Nat) (cap : Nat) : VS2 Tryz.prog 42 (snap_Snap_Take_x s name) [.ptr b 0, .str name] [.box b 96 [T_snap_state.pf s.now, Z93 ob s.kept cap, Iw s.tried], Q93 ob cap s.kept] (fun r ob0_1 cap0_1=>Iw r.1) (fun r ob0_1 cap0_1=>[.box b 96 [T_snap_state.pf r.2.now, Z93 ob0_1 r.2.kept cap0_1, Iw r.2.tried], Q93 ob0_1 cap0_1 r.2.kept]) := by
 refine Cf [.tmp 4] Tryz.func42 R R R fun r hm=>?_
 unfold snap_Snap_Take_x at hm
 exact Ai<|Ad R R<|Bg R R fun b2=>Ab R R (Ak R)<|Ac<|Ai<|Ab R R (Aj R)<|Ab R R (Cd R R)<|Bl (Bi [1,1,0] R)<|Ad R R<|B3 hm 3 R fn80 R (K141 _ _ _ _ _ _) fun r ob2 cap2 hm=>Ab R R (Ak R)<|Ac<|Rg2 hm R [0,0] ob2 cap2 (.cons (.tmp _ _ R) .nil) R R

/-! trireme/triremelaw13.known -/
def law13_known : Option Bool :=
 (snap_New ([] : List T_api_Machine) ([] : List T_api_Bound)).bind fun r =>
 po r.1 (
  if ((r.2 != 0) || true) = true then
   some false
  else
   (snap_Snap_Fork).bind fun r2 =>
   (if (r2 == 0) = true then (snap_Snap_Add (⟨(⟨#[109]⟩ : ByteArray), (⟨#[]⟩ : ByteArray), (⟨1000, 0, 0, 2, 0⟩ : T_api_Res), ([] : List T_api_Label), ([] : List T_api_Taint), true⟩ : T_api_Machine)).bind fun r3 =>
   some (r3 == 0) else some false).bind fun c =>
   (if c = true then (snap_Snap_Put (⟨(⟨#[112]⟩ : ByteArray), (⟨600, 0, 0, 1, 0⟩ : T_api_Res), ([] : List T_api_Label), ([] : List T_api_Label), ([] : List T_api_Term), ([] : List T_api_Toleration), ([] : List Int), ([] : List T_api_Label), false, ([] : List T_api_Label), 0, 0, (⟨#[]⟩ : ByteArray), false, false, false⟩ : T_api_Pod) (⟨#[109]⟩ : ByteArray)).bind fun r4 =>
   some (r4 == 0) else some false).bind fun c2 =>
   (if c2 = true then (snap_Snap_Drop (⟨#[109]⟩ : ByteArray)).bind fun r5 =>
   some (r5 == 22) else some false).bind fun c3 =>
   (if c3 = true then (snap_Snap_Add (⟨(⟨#[109]⟩ : ByteArray), (⟨#[]⟩ : ByteArray), (⟨1000, 0, 0, 2, 0⟩ : T_api_Res), ([] : List T_api_Label), ([] : List T_api_Taint), true⟩ : T_api_Machine)).bind fun r6 =>
   some (r6 == 15) else some false).bind fun c4 =>
   (if c4 = true then (snap_Snap_Depth).bind fun r7 =>
   some (r7 == 1) else some false).bind fun c5 =>
   (if c5 = true then (snap_Snap_Bounds).bind fun r8 =>
   some ((r8.length : Int) == 1) else some false).bind fun c6 =>
   (if c6 = true then (snap_Snap_Why (⟨(⟨#[112]⟩ : ByteArray), (⟨600, 0, 0, 1, 0⟩ : T_api_Res), ([] : List T_api_Label), ([] : List T_api_Label), ([] : List T_api_Term), ([] : List T_api_Toleration), ([] : List Int), ([] : List T_api_Label), false, ([] : List T_api_Label), 0, 0, (⟨#[]⟩ : ByteArray), false, false, false⟩ : T_api_Pod) (⟨#[109]⟩ : ByteArray)).bind fun r9 =>
   some (r9 == 0) else some false).bind fun c7 =>
   (if c7 = true then (snap_Snap_Revert).bind fun r10 =>
   some (r10 == 0) else some false).bind fun c8 =>
   (if c8 = true then (snap_Snap_Machines).bind fun r11 =>
   some ((r11.length : Int) == 0) else some false).bind fun c9 =>
   (if c9 = true then (snap_Snap_Bounds).bind fun r12 =>
   some ((r12.length : Int) == 0) else some false).bind fun c10 =>
   (if c10 = true then (snap_Snap_Revert).bind fun r13 =>
   some (r13 == 19) else some false).bind fun c11 =>
   (if c11 = true then (snap_Snap_Commit).bind fun r14 =>
   some (r14 == 19) else some false).bind fun c12 =>
   (if c12 = true then (snap_Snap_Take (⟨#[112]⟩ : ByteArray)).bind fun r15 =>
   some (r15 == 16) else some false).bind fun c13 =>
   (if c13 = true then (snap_Snap_Put (⟨(⟨#[112]⟩ : ByteArray), (⟨600, 0, 0, 1, 0⟩ : T_api_Res), ([] : List T_api_Label), ([] : List T_api_Label), ([] : List T_api_Term), ([] : List T_api_Toleration), ([] : List Int), ([] : List T_api_Label), false, ([] : List T_api_Label), 0, 0, (⟨#[]⟩ : ByteArray), false, false, false⟩ : T_api_Pod) (⟨#[109]⟩ : ByteArray)).bind fun r16 =>
   some (r16 == 16) else some false).bind fun c14 =>
   some c14) fun x =>
 if ((r.2 != 0) || false) = true then
  some false
 else
  (snap_Snap_Fork_x x).bind fun r17 =>
  if (r17.1 == 0) = true then
   (snap_Snap_Add_x r17.2 (⟨(⟨#[109]⟩ : ByteArray), (⟨#[]⟩ : ByteArray), (⟨1000, 0, 0, 2, 0⟩ : T_api_Res), ([] : List T_api_Label), ([] : List T_api_Taint), true⟩ : T_api_Machine)).bind fun r19 =>
   if (r19.1 == 0) = true then
    (snap_Snap_Put_x r19.2 (⟨(⟨#[112]⟩ : ByteArray), (⟨600, 0, 0, 1, 0⟩ : T_api_Res), ([] : List T_api_Label), ([] : List T_api_Label), ([] : List T_api_Term), ([] : List T_api_Toleration), ([] : List Int), ([] : List T_api_Label), false, ([] : List T_api_Label), 0, 0, (⟨#[]⟩ : ByteArray), false, false, false⟩ : T_api_Pod) (⟨#[109]⟩ : ByteArray)).bind fun r21 =>
    if (r21.1 == 0) = true then
     (snap_Snap_Drop_x r21.2 (⟨#[109]⟩ : ByteArray)).bind fun r23 =>
     if (r23.1 == 22) = true then
      (snap_Snap_Add_x r23.2 (⟨(⟨#[109]⟩ : ByteArray), (⟨#[]⟩ : ByteArray), (⟨1000, 0, 0, 2, 0⟩ : T_api_Res), ([] : List T_api_Label), ([] : List T_api_Taint), true⟩ : T_api_Machine)).bind fun r25 =>
      (if (r25.1 == 15) = true then (snap_Snap_Depth_x r25.2).bind fun r26 =>
      some (r26 == 1) else some false).bind fun c15 =>
      (if c15 = true then (snap_Snap_Bounds_x r25.2).bind fun r27 =>
      some ((r27.length : Int) == 1) else some false).bind fun c16 =>
      (if c16 = true then (snap_Snap_Why_x r25.2 (⟨(⟨#[112]⟩ : ByteArray), (⟨600, 0, 0, 1, 0⟩ : T_api_Res), ([] : List T_api_Label), ([] : List T_api_Label), ([] : List T_api_Term), ([] : List T_api_Toleration), ([] : List Int), ([] : List T_api_Label), false, ([] : List T_api_Label), 0, 0, (⟨#[]⟩ : ByteArray), false, false, false⟩ : T_api_Pod) (⟨#[109]⟩ : ByteArray)).bind fun r28 =>
      some (r28 == 0) else some false).bind fun c17 =>
      if c17 = true then
       (snap_Snap_Revert_x r25.2).bind fun r30 =>
       (if (r30.1 == 0) = true then (snap_Snap_Machines_x r30.2).bind fun r31 =>
       some ((r31.length : Int) == 0) else some false).bind fun c18 =>
       (if c18 = true then (snap_Snap_Bounds_x r30.2).bind fun r32 =>
       some ((r32.length : Int) == 0) else some false).bind fun c19 =>
       if c19 = true then
        (snap_Snap_Revert_x r30.2).bind fun r34 =>
        if (r34.1 == 19) = true then
         (snap_Snap_Commit_x r34.2).bind fun r36 =>
         if (r36.1 == 19) = true then
          (snap_Snap_Take_x r36.2 (⟨#[112]⟩ : ByteArray)).bind fun r38 =>
          if (r38.1 == 16) = true then
           (snap_Snap_Put_x r38.2 (⟨(⟨#[112]⟩ : ByteArray), (⟨600, 0, 0, 1, 0⟩ : T_api_Res), ([] : List T_api_Label), ([] : List T_api_Label), ([] : List T_api_Term), ([] : List T_api_Toleration), ([] : List Int), ([] : List T_api_Label), false, ([] : List T_api_Label), 0, 0, (⟨#[]⟩ : ByteArray), false, false, false⟩ : T_api_Pod) (⟨#[109]⟩ : ByteArray)).bind fun r40 =>
           some (r40.1 == 16)
          else
           some false
         else
          some false
        else
         some false
       else
        some false
      else
       some false
     else
      some false
    else
     some false
   else
    some false
  else
   some false
theorem K143 : VS Tryz.prog 28 (law13_known) [] [] .bool N0 := by
 refine A4 [.tmp 0] Tryz.func28 R R R fun r hm=>?_
 unfold law13_known at hm
 refine Ae tbk [] R R<|Ai<|Bd hm fun r h1 hm=>Ad R R<|Du 0 [.nil 61,.nil 49] R fn29 R (K47 ([] : List T_api_Machine) ([] : List T_api_Bound) r h1) fun _ _ h115=> ?_
 obtain ⟨b,ob,cap,rfl,rfl⟩:=h115
 rcases po_or hm with ⟨h114,hm⟩ | ⟨x,h114,hm⟩
 ·rw [h114]
  refine Aa tbk [] 5 R R<|Ac<|Af<|Ai<|Aa tbk [] 3 R R<|Cv 3 15 12 R (fun K' J=>Aa tbk [] 3 R R<|J 2 R R R) (fun h4 K' J=>Bb R R R R R (Aj R)<|Bb R R R R R (Dc B9 R R)<|Ab R R (Bk false R R R)<|J 2 R R R)<|Ac<|Ao hm R (fun h5 hm=>Ae tbk [] R R<|Rt1 hm R [] R R R) fun h5 hm=>Am<|Ai<|Ab R R (B4 pl41 R R)<|Ab R R (B4 pl61 R R)<|Ad R R<|A3 z61 fun b2=>Ad R R<|An (i:=0) R R R ld61 R R R<|Ac<|Ai<|Ab R R (B4 pl41 R R)<|Ab R R (B4 pl47 R R)<|Ad R R<|A3 z47 fun b3=>Ad R R<|An (i:=0) R R R ld47 R R R<|Ac<|Ai<|Ab R R (Aj R)<|Ad R R<|Av hm 0 R fn38 R (K49) fun r2 hm=>Aa tbk [] 2 R R<|Bh hm 5 28 23 R (fun _ K' h9 J hm=>Aa tbk [1] 2 R R<|A1 R R R R R<|Ds hm 0 [.same,.agg [none,none,none,none,none,none,none,some 92,some 166]] R fn39 R (K51 _) fun r3 hm=>Aa tbk [] 2 R R<|J 4 R R (Bj hm)) (fun _ K' h9 J hm=>Aa tbk [] 5 R R<|J 4 R R (Bj hm)) fun c hm=>Ab R R (Aj R)<|Bh hm 5 34 29 R (fun _ K' h12 J hm=>Aa tbk [0] 2 R R<|A1 R R R R R<|Ds hm 0 [.same,.agg [none,none,none,none,none,none,some 92,some 92,some 142,some 172,some 3,some 92,none,some 92],.same] R fn41 R (K53 _ _) fun r4 hm=>Aa tbk [] 2 R R<|J 4 R R (Bj hm)) (fun _ K' h12 J hm=>Aa tbk [] 5 R R<|J 4 R R (Bj hm)) fun c2 hm=>Ab R R (Aj R)<|Bh hm 4 39 35 R (fun _ K' h15 J hm=>Bb R R R R R (Aj R)<|A1 R R R R R<|Av hm 0 R fn40 R (K55 _) fun r5 hm=>Aa tbk [] 2 R R<|J 3 R R (Bj hm)) (fun _ K' h15 J hm=>Aa tbk [] 4 R R<|J 3 R R (Bj hm)) fun c3 hm=>Ab R R (Aj R)<|Bh hm 5 45 40 R (fun _ K' h18 J hm=>Aa tbk [1] 2 R R<|A1 R R R R R<|Ds hm 0 [.same,.agg [none,none,none,none,none,none,none,some 92,some 166]] R fn39 R (K51 _) fun r6 hm=>Aa tbk [] 2 R R<|J 4 R R (Bj hm)) (fun _ K' h18 J hm=>Aa tbk [] 5 R R<|J 4 R R (Bj hm)) fun c4 hm=>Ab R R (Aj R)<|Bh hm 4 50 46 R (fun _ K' h21 J hm=>Bb R R R R R (Aj R)<|A1 R R R R R<|Av hm 0 R fn33 R (K56) fun r7 hm=>Aa tbk [] 2 R R<|J 3 R R (Bj hm)) (fun _ K' h21 J hm=>Aa tbk [] 4 R R<|J 3 R R (Bj hm)) fun c5 hm=>Ab R R (Aj R)<|Bh hm 5 56 51 R (fun _ K' h24 J hm=>Bb R R R R R (Aj R)<|A1 R R R R R<|B3 hm 0 R fn35 R (K57) fun r8 ob2 cap2 hm=>Bl (A6 0 [(53,L49 r8)] R ⟨⟨_,R,.here _ R⟩,trivial⟩ (FzH.refl _))<|Bb R R R R R (Aw T_api_Bound.vv R Bq)<|Aa tbk [] 2 R R<|J 5 R R (Bj hm)) (fun _ K' h24 J hm=>Aa tbk [] 5 R R<|J 4 R R (Bj hm)) fun c6 hm=>Ab R R (Aj R)<|?_
  refine Bh hm 5 62 57 R (fun _ K' h28 J hm=>Aa tbk [0] 2 R R<|A1 R R R R R<|Ds hm 0 [.same,.agg [none,none,none,none,none,none,some 92,some 92,some 142,some 172,some 3,some 92,none,some 92],.same] R fn36 R (K58 _ _) fun r9 hm=>Aa tbk [] 2 R R<|J 4 R R (Bj hm)) (fun _ K' h28 J hm=>Aa tbk [] 5 R R<|J 4 R R (Bj hm)) fun c7 hm=>Ab R R (Ak R)<|Ac<|Ai<|Aa tbk [] 2 R R<|Bh hm 4 68 64 R (fun _ K' h31 J hm=>Bb R R R R R (Aj R)<|A1 R R R R R<|Av hm 0 R fn43 R (K60) fun r10 hm=>Aa tbk [] 2 R R<|J 3 R R (Bj hm)) (fun _ K' h31 J hm=>Aa tbk [] 4 R R<|J 3 R R (Bj hm)) fun c8 hm=>Ab R R (Aj R)<|Bh hm 5 74 69 R (fun _ K' h34 J hm=>Bb R R R R R (Aj R)<|A1 R R R R R<|B3 hm 0 R fn34 R (K61) fun r11 ob3 cap3 hm=>Bl (A6 0 [(71,L61 r11)] R ⟨⟨_,R,.here _ R⟩,trivial⟩ (FzH.refl _))<|Bb R R R R R (Aw T_api_Machine.vv R Ay)<|Aa tbk [] 2 R R<|J 5 R R (Bj hm)) (fun _ K' h34 J hm=>Aa tbk [] 5 R R<|J 4 R R (Bj hm)) fun c9 hm=>Ab R R (Aj R)<|Bh hm 5 80 75 R (fun _ K' h38 J hm=>Bb R R R R R (Aj R)<|A1 R R R R R<|B3 hm 0 R fn35 R (K57) fun r12 ob4 cap4 hm=>Bl (A6 0 [(77,L49 r12)] R ⟨⟨_,R,.here _ R⟩,trivial⟩ (FzH.refl _))<|Bb R R R R R (Aw T_api_Bound.vv R Bq)<|Aa tbk [] 2 R R<|J 5 R R (Bj hm)) (fun _ K' h38 J hm=>Aa tbk [] 5 R R<|J 4 R R (Bj hm)) fun c10 hm=>Ab R R (Aj R)<|Bh hm 4 85 81 R (fun _ K' h42 J hm=>Bb R R R R R (Aj R)<|A1 R R R R R<|Av hm 0 R fn43 R (K60) fun r13 hm=>Aa tbk [] 2 R R<|J 3 R R (Bj hm)) (fun _ K' h42 J hm=>Aa tbk [] 4 R R<|J 3 R R (Bj hm)) fun c11 hm=>Ab R R (Aj R)<|Bh hm 4 90 86 R (fun _ K' h45 J hm=>Bb R R R R R (Aj R)<|A1 R R R R R<|Av hm 0 R fn44 R (K63) fun r14 hm=>Aa tbk [] 2 R R<|J 3 R R (Bj hm)) (fun _ K' h45 J hm=>Aa tbk [] 4 R R<|J 3 R R (Bj hm)) fun c12 hm=>Ab R R (Aj R)<|Bh hm 4 95 91 R (fun _ K' h48 J hm=>Bb R R R R R (Aj R)<|A1 R R R R R<|Av hm 0 R fn42 R (K65 _) fun r15 hm=>Aa tbk [] 2 R R<|J 3 R R (Bj hm)) (fun _ K' h48 J hm=>Aa tbk [] 4 R R<|J 3 R R (Bj hm)) fun c13 hm=>Ab R R (Aj R)<|Bh hm 5 101 96 R (fun _ K' h51 J hm=>Aa tbk [0] 2 R R<|A1 R R R R R<|Ds hm 0 [.same,.agg [none,none,none,none,none,none,some 92,some 92,some 142,some 172,some 3,some 92,none,some 92],.same] R fn41 R (K53 _ _) fun r16 hm=>Aa tbk [] 2 R R<|J 4 R R (Bj hm)) (fun _ K' h51 J hm=>Aa tbk [] 5 R R<|J 4 R R (Bj hm)) fun c14 hm=>Ab R R (Ak R)<|?_
  exact Ac<|Rt1 hm R [] R R R
 ·rw [h114]
  refine Aa tbk [] 5 R R<|Ac<|Af<|Ai<|Aa tbk [] 3 R R<|Cv 3 15 12 R (fun K' J=>Aa tbk [] 3 R R<|J 2 R R R) (fun h54 K' J=>Bb R R R R R (Aj R)<|Bb R R R R R (Dc B9 R R)<|Ab R R (Bk false R R R)<|J 2 R R R)<|Ac<|Ao hm R (fun h55 hm=>Ae tbk [] R R<|Rt1 hm R [] R R R) fun h55 hm=>Am<|Ai<|Ab R R (B4 pl41 R R)<|Ab R R (B4 pl61 R R)<|Ad R R<|A3 z61 fun b4=>Ad R R<|An (i:=0) R R R ld61 R R R<|Ac<|Ai<|Ab R R (B4 pl41 R R)<|Ab R R (B4 pl47 R R)<|Ad R R<|A3 z47 fun b5=>Ad R R<|An (i:=0) R R R ld47 R R R<|Ac<|Ai<|Ab R R (Aj R)<|Bl (Bi [2,2,0,0] R)<|Ad R R<|B3 hm 2 R fn38 R (K67 _ _ _ _) fun r17 ob5 cap5 hm=>Aa tbk [] 2 R R<|Dl hm 23 R (fun h61 hm=>?_) fun h61 hm=> ?_
  ·refine Aa tbk [3] 2 R R<|Bd hm fun r19 h62 hm=>A1 R R R R R<|Du 2 [.same,.agg [none,none,none,none,none,none,none,some 92,some 166]] R fn39 R (K74 r17.2 (⟨(⟨#[109]⟩ : ByteArray),(⟨#[]⟩ : ByteArray),(⟨(1000 : Int),(0 : Int),(0 : Int),(2 : Int),(0 : Int)⟩ : T_api_Res),([] : List T_api_Label),([] : List T_api_Taint),true⟩ : T_api_Machine) b ob5 cap5 r19 h62) fun _ _ h113=> ?_
   obtain ⟨ob7,cap7,rfl,rfl⟩:=h113
   refine Aa tbk [] 3 R R<|Dl hm 29 R (fun h65 hm=>?_) fun h65 hm=> ?_
   ·refine Aa tbk [2] 2 R R<|Bd hm fun r21 h66 hm=>A1 R R R R R<|Du 2 [.same,.agg [none,none,none,none,none,none,some 92,some 92,some 142,some 172,some 3,some 92,none,some 92],.same] R fn41 R (K81 r19.2 (⟨(⟨#[112]⟩ : ByteArray),(⟨(600 : Int),(0 : Int),(0 : Int),(1 : Int),(0 : Int)⟩ : T_api_Res),([] : List T_api_Label),([] : List T_api_Label),([] : List T_api_Term),([] : List T_api_Toleration),([] : List Int),([] : List T_api_Label),false,([] : List T_api_Label),(0 : Int),(0 : Int),(⟨#[]⟩ : ByteArray),false,false,false⟩ : T_api_Pod) (⟨#[109]⟩ : ByteArray) b ob7 cap7 r21 h66) fun _ _ h112=> ?_
    obtain ⟨ob9,cap9,rfl,rfl⟩:=h112
    refine Aa tbk [] 3 R R<|Dl hm 35 R (fun h69 hm=>?_) fun h69 hm=> ?_
    ·refine Bb R R R R R (Aj R)<|A1 R R R R R<|B3 hm 2 R fn40 R (K85 _ _ _ _ _) fun r23 ob11 cap11 hm=>Aa tbk [] 3 R R<|Dl hm 40 R (fun h73 hm=>?_) fun h73 hm=> ?_
     ·refine Aa tbk [3] 2 R R<|Bd hm fun r25 h74 hm=>A1 R R R R R<|Du 2 [.same,.agg [none,none,none,none,none,none,none,some 92,some 166]] R fn39 R (K74 r23.2 (⟨(⟨#[109]⟩ : ByteArray),(⟨#[]⟩ : ByteArray),(⟨(1000 : Int),(0 : Int),(0 : Int),(2 : Int),(0 : Int)⟩ : T_api_Res),([] : List T_api_Label),([] : List T_api_Taint),true⟩ : T_api_Machine) b ob11 cap11 r25 h74) fun _ _ h111=> ?_
      obtain ⟨ob13,cap13,rfl,rfl⟩:=h111
      refine Aa tbk [] 3 R R<|Bh hm 4 50 46 R (fun _ K' h75 J hm=>Bb R R R R R (Aj R)<|A1 R R R R R<|Av hm 2 R fn33 R (K86 _ _ _ _) fun r26 hm=>Aa tbk [] 2 R R<|J 3 R R (Bj hm)) (fun _ K' h75 J hm=>Aa tbk [] 4 R R<|J 3 R R (Bj hm)) fun c15 hm=>Ab R R (Aj R)<|Bh hm 5 56 51 R (fun _ K' h78 J hm=>Bb R R R R R (Aj R)<|A1 R R R R R<|Av hm 2 R fn35 R (K87 _ _ _ _) fun r27 hm=>Bb R R R R R (Aw T_api_Bound.vv R Bq)<|Aa tbk [] 2 R R<|J 4 R R (Bj hm)) (fun _ K' h78 J hm=>Aa tbk [] 5 R R<|J 4 R R (Bj hm)) fun c16 hm=>Ab R R (Aj R)<|Bh hm 5 62 57 R (fun _ K' h81 J hm=>Aa tbk [2] 2 R R<|A1 R R R R R<|Ds hm 2 [.same,.agg [none,none,none,none,none,none,some 92,some 92,some 142,some 172,some 3,some 92,none,some 92],.same] R fn36 R (K132 _ _ _ _ _ _) fun r28 hm=>Aa tbk [] 2 R R<|J 4 R R (Bj hm)) (fun _ K' h81 J hm=>Aa tbk [] 5 R R<|J 4 R R (Bj hm)) fun c17 hm=>Ab R R (Ak R)<|Ac<|Ai<|Aa tbk [] 2 R R<|Dl hm 64 R (fun h86 hm=>?_) fun h86 hm=> ?_
      ·refine Bb R R R R R (Aj R)<|A1 R R R R R<|B3 hm 2 R fn43 R (K135 _ _ _ _) fun r30 ob15 cap15 hm=>Aa tbk [] 3 R R<|Bh hm 5 74 69 R (fun _ K' h88 J hm=>Bb R R R R R (Aj R)<|A1 R R R R R<|Av hm 2 R fn34 R (K136 _ _ _ _) fun r31 hm=>Bb R R R R R (Aw T_api_Machine.vv R Ay)<|Aa tbk [] 2 R R<|J 4 R R (Bj hm)) (fun _ K' h88 J hm=>Aa tbk [] 5 R R<|J 4 R R (Bj hm)) fun c18 hm=>Ab R R (Aj R)<|Bh hm 5 80 75 R (fun _ K' h91 J hm=>Bb R R R R R (Aj R)<|A1 R R R R R<|Av hm 2 R fn35 R (K87 _ _ _ _) fun r32 hm=>Bb R R R R R (Aw T_api_Bound.vv R Bq)<|Aa tbk [] 2 R R<|J 4 R R (Bj hm)) (fun _ K' h91 J hm=>Aa tbk [] 5 R R<|J 4 R R (Bj hm)) fun c19 hm=>Ab R R (Aj R)<|Dl hm 81 R (fun h96 hm=>?_) fun h96 hm=> ?_
       ·refine Bb R R R R R (Aj R)<|A1 R R R R R<|B3 hm 2 R fn43 R (K135 _ _ _ _) fun r34 ob17 cap17 hm=>Aa tbk [] 3 R R<|Dl hm 86 R (fun h100 hm=>?_) fun h100 hm=> ?_
        ·refine Bb R R R R R (Aj R)<|A1 R R R R R<|B3 hm 2 R fn44 R (K139 _ _ _ _) fun r36 ob19 cap19 hm=>Aa tbk [] 3 R R<|Dl hm 91 R (fun h104 hm=>?_) fun h104 hm=> ?_
         ·refine Bb R R R R R (Aj R)<|A1 R R R R R<|B3 hm 2 R fn42 R (K142 _ _ _ _ _) fun r38 ob21 cap21 hm=>Aa tbk [] 3 R R<|Dl hm 96 R (fun h108 hm=>?_) fun h108 hm=> ?_
          ·refine Aa tbk [2] 2 R R<|Bd hm fun r40 h109 hm=>A1 R R R R R<|Du 2 [.same,.agg [none,none,none,none,none,none,some 92,some 92,some 142,some 172,some 3,some 92,none,some 92],.same] R fn41 R (K81 r38.2 (⟨(⟨#[112]⟩ : ByteArray),(⟨(600 : Int),(0 : Int),(0 : Int),(1 : Int),(0 : Int)⟩ : T_api_Res),([] : List T_api_Label),([] : List T_api_Label),([] : List T_api_Term),([] : List T_api_Toleration),([] : List Int),([] : List T_api_Label),false,([] : List T_api_Label),(0 : Int),(0 : Int),(⟨#[]⟩ : ByteArray),false,false,false⟩ : T_api_Pod) (⟨#[109]⟩ : ByteArray) b ob21 cap21 r40 h109) fun _ _ h110=> ?_
           obtain ⟨ob23,cap23,rfl,rfl⟩:=h110
           exact Aa tbk [] 3 R R<|Ac<|Rt1 hm R [] R R R
          exact Aa tbk [] 6 R R<|Ac<|Rt1 hm R [] R R R
         exact Aa tbk [] 11 R R<|Ac<|Rt1 hm R [] R R R
        exact Aa tbk [] 16 R R<|Ac<|Rt1 hm R [] R R R
       exact Aa tbk [] 21 R R<|Ac<|Rt1 hm R [] R R R
      exact Aa tbk [] 38 R R<|Ac<|Rt1 hm R [] R R R
     exact Aa tbk [] 23 R R<|Ac<|Ae tbk [] R R<|Rt1 hm R [] R R R
    exact Aa tbk [] 28 R R<|Ac<|Ae tbk [] R R<|Rt1 hm R [] R R R
   exact Aa tbk [] 34 R R<|Ac<|Ae tbk [] R R<|Rt1 hm R [] R R R
  exact Aa tbk [] 40 R R<|Ac<|Ae tbk [] R R<|Rt1 hm R [] R R R

/-! trireme/triremeref01.more -/
def ref01_more (s : ByteArray) (i : Int) : Option Bool :=
 (if (decide (i < (s.size : Int))) = true then (V.gi s i).bind fun v =>
 some (decide (v ≥ 128)) else some false).bind fun c =>
 (if c = true then (V.gi s i).bind fun v2 =>
 some (decide (v2 < 192)) else some false).bind fun c2 =>
 some c2
theorem K144 (s : ByteArray) (i : Int) : VS Tryz.prog 180 (ref01_more s i) [.str s, Iw i] [] .bool N0 := by
 refine A4 [.tmp 4] Tryz.func180 R R R fun r hm=>?_
 unfold ref01_more at hm
 exact Ae tbk [] R R<|Ai<|Aa tbk [] 2 R R<|Ab R R (Ci R A9)<|Aa tbk [] 2 R R<|Bh hm 5 14 9 R (fun _ K' h1 J hm=>Aa tbk [] 2 R R<|Bd hm fun v h2 hm=>Bb R R R R R (C1 R R A9 h2)<|Aa tbk [] 2 R R<|J 4 R R (Bj hm)) (fun _ K' h1 J hm=>Aa tbk [] 5 R R<|J 4 R R (Bj hm)) fun c hm=>Ab R R (Aj R)<|Bh hm 5 20 15 R (fun _ K' h4 J hm=>Aa tbk [] 2 R R<|Bd hm fun v2 h5 hm=>Bb R R R R R (C1 R R A9 h5)<|Aa tbk [] 2 R R<|J 4 R R (Bj hm)) (fun _ K' h4 J hm=>Aa tbk [] 5 R R<|J 4 R R (Bj hm)) fun c2 hm=>Ab R R (Ak R)<|Ac<|Rt1 hm R [] R R R

/-! trireme/triremeref01.Rune -/
def ref01_Rune (s : ByteArray) (i : Int) : Option (Int × Int) :=
 (V.gi s i).bind fun v =>
 if (decide ((i64.wrap v) < 128)) = true then
  some ((i64.wrap v), 1)
 else
  (if ((decide ((i64.wrap v) ≥ 192)) && (decide ((i64.wrap v) < 224))) = true then (ref01_more s (i64.wrap (i + 1))).bind fun r =>
  some r else some false).bind fun c =>
  if c = true then
   (V.gi s (i64.wrap (i + 1))).bind fun v2 =>
   if (decide ((i64.wrap ((i64.wrap ((i64.wrap ((i64.wrap ((i64.wrap v) - 192)) * 64)) + (i64.wrap v2))) - 128)) ≥ 128)) = true then
    some ((i64.wrap ((i64.wrap ((i64.wrap ((i64.wrap ((i64.wrap v) - 192)) * 64)) + (i64.wrap v2))) - 128)), 2)
   else
    some (0, 0)
  else
   (if ((decide ((i64.wrap v) ≥ 224)) && (decide ((i64.wrap v) < 240))) = true then (ref01_more s (i64.wrap (i + 1))).bind fun r2 =>
   some r2 else some false).bind fun c2 =>
   (if c2 = true then (ref01_more s (i64.wrap (i + 2))).bind fun r3 =>
   some r3 else some false).bind fun c3 =>
   if c3 = true then
    (V.gi s (i64.wrap (i + 1))).bind fun v3 =>
    (V.gi s (i64.wrap (i + 2))).bind fun v4 =>
    if ((decide ((i64.wrap ((i64.wrap ((i64.wrap ((i64.wrap ((i64.wrap ((i64.wrap v) - 224)) * 4096)) + (i64.wrap ((i64.wrap ((i64.wrap v3) - 128)) * 64)))) + (i64.wrap v4))) - 128)) ≥ 2048)) && ((decide ((i64.wrap ((i64.wrap ((i64.wrap ((i64.wrap ((i64.wrap ((i64.wrap v) - 224)) * 4096)) + (i64.wrap ((i64.wrap ((i64.wrap v3) - 128)) * 64)))) + (i64.wrap v4))) - 128)) < 55296)) || (decide ((i64.wrap ((i64.wrap ((i64.wrap ((i64.wrap ((i64.wrap ((i64.wrap v) - 224)) * 4096)) + (i64.wrap ((i64.wrap ((i64.wrap v3) - 128)) * 64)))) + (i64.wrap v4))) - 128)) > 57343)))) = true then
     some ((i64.wrap ((i64.wrap ((i64.wrap ((i64.wrap ((i64.wrap ((i64.wrap v) - 224)) * 4096)) + (i64.wrap ((i64.wrap ((i64.wrap v3) - 128)) * 64)))) + (i64.wrap v4))) - 128)), 3)
    else
     some (0, 0)
   else
    (if ((decide ((i64.wrap v) ≥ 240)) && (decide ((i64.wrap v) < 248))) = true then (ref01_more s (i64.wrap (i + 1))).bind fun r4 =>
    some r4 else some false).bind fun c4 =>
    (if c4 = true then (ref01_more s (i64.wrap (i + 2))).bind fun r5 =>
    some r5 else some false).bind fun c5 =>
    (if c5 = true then (ref01_more s (i64.wrap (i + 3))).bind fun r6 =>
    some r6 else some false).bind fun c6 =>
    if c6 = true then
     (V.gi s (i64.wrap (i + 1))).bind fun v5 =>
     (V.gi s (i64.wrap (i + 2))).bind fun v6 =>
     (V.gi s (i64.wrap (i + 3))).bind fun v7 =>
     if ((decide ((i64.wrap ((i64.wrap ((i64.wrap ((i64.wrap ((i64.wrap ((i64.wrap ((i64.wrap v) - 240)) * 262144)) + (i64.wrap ((i64.wrap ((i64.wrap v5) - 128)) * 4096)))) + (i64.wrap ((i64.wrap ((i64.wrap v6) - 128)) * 64)))) + (i64.wrap v7))) - 128)) ≥ 65536)) && (decide ((i64.wrap ((i64.wrap ((i64.wrap ((i64.wrap ((i64.wrap ((i64.wrap ((i64.wrap v) - 240)) * 262144)) + (i64.wrap ((i64.wrap ((i64.wrap v5) - 128)) * 4096)))) + (i64.wrap ((i64.wrap ((i64.wrap v6) - 128)) * 64)))) + (i64.wrap v7))) - 128)) ≤ 1114111))) = true then
      some ((i64.wrap ((i64.wrap ((i64.wrap ((i64.wrap ((i64.wrap ((i64.wrap ((i64.wrap v) - 240)) * 262144)) + (i64.wrap ((i64.wrap ((i64.wrap v5) - 128)) * 4096)))) + (i64.wrap ((i64.wrap ((i64.wrap v6) - 128)) * 64)))) + (i64.wrap v7))) - 128)), 4)
     else
      some (0, 0)
    else
     some (0, 0)
theorem K145 (s : ByteArray) (i : Int) : VS Tryz.prog 136 (ref01_Rune s i) [.str s, Iw i] [] (fun r=>.tup [Iw r.1, Iw r.2]) N0 := by
 refine A4 [.tmp 4,.tmp 5] Tryz.func136 R R R fun r hm=>?_
 unfold ref01_Rune at hm
 refine Ae tbk [] R R<|Ai<|Aa tbk [] 2 R R<|Bd hm fun v h1 hm=>Ab R R (C1 R R A9 h1)<|Ab R R (C4 Cg Co R)<|Ab R R (Ak R)<|Ac<|Af<|A2<|Ae tbk [] R R<|Ao hm R (fun h2 hm=>Ae tbk [] R R<|Rt2 hm R [] R R R R) fun h2 hm=>Ai<|Aa tbk [] 3 R R<|B5 tbk [] 3 24 21 R R R R R<|Ab R R (Aj R)<|Bh hm 5 30 25 R (fun _ K' h4 J hm=>Aa tbk [] 3 R R<|A1 R R R R R<|Av hm 0 R fn180 R (K144 _ _) fun r hm=>Ab R R (Bk true R R R)<|J 4 R R (Bj hm)) (fun _ K' h4 J hm=>Aa tbk [] 5 R R<|J 4 R R (Bj hm)) fun c hm=>Ab R R (Ak R)<|Ac<|Ao hm R (fun h7 hm=>Ai<|Aa tbk [] 6 R R<|Bd hm fun v2 h8 hm=>Ab R R (C1 R R A9 h8)<|Ab R R (C4 Cg Co R)<|Aa tbk [] 3 R R<|Ac<|Ae tbk [] R R<|Ao hm R (fun h9 hm=>Ae tbk [] R R<|Rt2 hm R [] R R R R) fun h9 hm=>Am<|Ae tbk [] R R<|Rt2 hm R [] R R R R) fun h7 hm=>Ai<|Aa tbk [] 3 R R<|B5 tbk [] 3 50 47 R R R R R<|Ab R R (Aj R)<|Bh hm 5 56 51 R (fun _ K' h11 J hm=>Aa tbk [] 3 R R<|A1 R R R R R<|Av hm 0 R fn180 R (K144 _ _) fun r2 hm=>Ab R R (Bk true R R R)<|J 4 R R (Bj hm)) (fun _ K' h11 J hm=>Aa tbk [] 5 R R<|J 4 R R (Bj hm)) fun c2 hm=>Ab R R (Aj R)<|Bh hm 5 62 57 R (fun _ K' h14 J hm=>Aa tbk [] 3 R R<|A1 R R R R R<|Av hm 0 R fn180 R (K144 _ _) fun r3 hm=>Ab R R (Bk true R R R)<|J 4 R R (Bj hm)) (fun _ K' h14 J hm=>Aa tbk [] 5 R R<|J 4 R R (Bj hm)) fun c3 hm=>Ab R R (Ak R)<|Ac<|Ao hm R (fun h17 hm=>Af<|Be 0 mixed<|Aq tbk [0,1,2,3,4,5] [] (by kernel_rfl) R R R<|Bd hm fun v3 h18 hm=>Ax 6 R R R (by kernel_rfl) (C1 R R A9 h18)<|Ax 7 R R R (by kernel_rfl) (C4 Cg Co R)<|Aq tbk [8,9,10,11,12,13] [] (by kernel_rfl) R R R<|Bd hm fun v4 h19 hm=>Ax 14 R R R (by kernel_rfl) (C1 R R A9 h19)<|Ax 15 R R R (by kernel_rfl) (C4 Cg Co R)<|Aq tbk [16,17,18] [] (by kernel_rfl) R R R<|A0 (by kernel_rfl)<|Ai<|Aa tbk [] 3 R R<|Db 7 90 83 R (fun h20 K' J=>Aa tbk [] 3 R R<|Cr tbk [] 3 89 86 R R R R R<|Ab R R (Bk true R R R)<|J 4 R R R) (fun K' J=>Aa tbk [] 7 R R<|J 6 R R R)<|Ac<|Ao hm R (fun h22 hm=>Ae tbk [] R R<|Rt2 hm R [] R R R R) fun h22 hm=>Am<|Ae tbk [] R R<|Rt2 hm R [] R R R R) fun h17 hm=>Ai<|Aa tbk [] 3 R R<|B5 tbk [] 3 98 95 R R R R R<|Ab R R (Aj R)<|Bh hm 5 104 99 R (fun _ K' h24 J hm=>Aa tbk [] 3 R R<|A1 R R R R R<|Av hm 0 R fn180 R (K144 _ _) fun r4 hm=>Ab R R (Bk true R R R)<|J 4 R R (Bj hm)) (fun _ K' h24 J hm=>Aa tbk [] 5 R R<|J 4 R R (Bj hm)) fun c4 hm=>Ab R R (Aj R)<|?_
 exact Bh hm 5 110 105 R (fun _ K' h27 J hm=>Aa tbk [] 3 R R<|A1 R R R R R<|Av hm 0 R fn180 R (K144 _ _) fun r5 hm=>Ab R R (Bk true R R R)<|J 4 R R (Bj hm)) (fun _ K' h27 J hm=>Aa tbk [] 5 R R<|J 4 R R (Bj hm)) fun c5 hm=>Ab R R (Aj R)<|Bh hm 5 116 111 R (fun _ K' h30 J hm=>Aa tbk [] 3 R R<|A1 R R R R R<|Av hm 0 R fn180 R (K144 _ _) fun r6 hm=>Ab R R (Bk true R R R)<|J 4 R R (Bj hm)) (fun _ K' h30 J hm=>Aa tbk [] 5 R R<|J 4 R R (Bj hm)) fun c6 hm=>Ab R R (Ak R)<|Ac<|Ao hm R (fun h33 hm=>Af<|Be 0 mixed<|Aq tbk [0,1,2,3,4,5] [] (by kernel_rfl) R R R<|Bd hm fun v5 h34 hm=>Ax 6 R R R (by kernel_rfl) (C1 R R A9 h34)<|Ax 7 R R R (by kernel_rfl) (C4 Cg Co R)<|Aq tbk [8,9,10,11,12,13] [] (by kernel_rfl) R R R<|Bd hm fun v6 h35 hm=>Ax 14 R R R (by kernel_rfl) (C1 R R A9 h35)<|Ax 15 R R R (by kernel_rfl) (C4 Cg Co R)<|Aq tbk [16,17,18,19,20,21] [] (by kernel_rfl) R R R<|Bd hm fun v7 h36 hm=>Ax 22 R R R (by kernel_rfl) (C1 R R A9 h36)<|Ax 23 R R R (by kernel_rfl) (C4 Cg Co R)<|Aq tbk [24,25,26] [] (by kernel_rfl) R R R<|A0 (by kernel_rfl)<|Ai<|Aa tbk [] 3 R R<|B5 tbk [] 3 148 145 R R R R R<|Ac<|Ao hm R (fun h38 hm=>Ae tbk [] R R<|Rt2 hm R [] R R R R) fun h38 hm=>Am<|Ae tbk [] R R<|Rt2 hm R [] R R R R) fun h33 hm=>Am<|Ae tbk [] R R<|Rt2 hm R [] R R R R

/-! trireme/triremeref01.plain -/
def ref01_plain (c : Int) : Option Bool :=
 some ((((((decide (c > 32)) && (c != 127)) && (c != 40)) && (c != 41)) && (c != 34)) && (c != 59))
theorem K146 (c : Int) : VS Tryz.prog 137 (ref01_plain c) [Iw c] [] .bool N0 := by
 refine A4 [.tmp 2] Tryz.func137 R R R fun r hm=>?_
 unfold ref01_plain at hm
 exact Ae tbk [] R R<|Ai<|Aa tbk [] 3 R R<|B5 tbk [] 3 8 5 R R R R R<|Ab R R (Aj R)<|B5 tbk [] 3 12 9 R R R R R<|Ab R R (Aj R)<|B5 tbk [] 3 16 13 R R R R R<|Ab R R (Aj R)<|B5 tbk [] 3 20 17 R R R R R<|Ab R R (Aj R)<|B5 tbk [] 3 24 21 R R R R R<|Ab R R (Ak R)<|Ac<|Rt1 hm R [] R R R

/-! trireme/triremeref01.Word -/
def ref01_Word.l1 (s : ByteArray) : Nat → Int → Int → Option (Out Bool Int)
 | 0, _, _ => none
 | n4 + 1, n2, i2 =>
  if (decide (i2 < (s.size : Int))) = true then
   (ref01_Rune s i2).bind fun r =>
   (if (r.2 == 0) = true then some true else (ref01_plain r.1).bind fun r2 =>
   some (!r2)).bind fun c =>
   if c = true then
    some (Out.ret false)
   else
    ref01_Word.l1 s n4 (i64.wrap (n2 + 1)) (i64.wrap (i2 + r.2))
  else
   some (Out.go n2)
def ref01_Word (s : ByteArray) : Option Bool :=
 (ref01_Word.l1 s FU 0 (0 : Int)).bind fun o =>
 o.on fun n32 =>
 some ((decide (n32 ≥ 1)) && (decide (n32 ≤ 64)))
theorem K147 (s : ByteArray) : VS Tryz.prog 94 (ref01_Word s) [.str s] [] .bool N0 := by
 refine A4 [.tmp 2] Tryz.func94 R R R fun r hm=>?_
 unfold ref01_Word at hm
 refine Ae tbk [] R R<|Ae tbk [] R R<|Af<|Ae tbk [] R R<|Bw hm (fun n32 (_:Unit)=>[(3,Iw n32)]) (fun _ (_:Unit)=>[]) (fun o hm h2=>?_) fun n32 _ hm=> ?_
 ·refine B1 (fun zn (zs:Int × Int)=>ref01_Word.l1 s zn zs.1 zs.2) (fun zs (_:Unit)=>[(0,.str s),(3,Iw zs.1),(4,Iw zs.2)]) (fun _ (_:Unit)=>[]) ((0 : Int),(0 : Int)) () (fun _=>R) hm (Ag [] R R) fun n4=>Pq fun n2 i2 _ hm=> ?_
  rw [ref01_Word.l1] at hm
  exact Af<|Ai<|Aa tbk [] 2 R R<|Ab R R (Ci R A9)<|Ab R R (Ba R R R)<|Ac<|Ao hm R (fun h3 hm=>Am<|A2<|Ai<|Aa tbk [] 2 R R<|Ad R R<|Av hm 0 R fn136 R (K145 _ _) fun r hm=>Aa tbk [] 5 R R<|Ac<|Af<|Ai<|Aa tbk [] 3 R R<|Bh hm 4 23 19 R (fun _ K' h5 J hm=>Aa tbk [] 4 R R<|J 3 R R (Bj hm)) (fun _ K' h5 J hm=>Bb R R R R R (Aj R)<|A1 R R R R R<|Av hm 0 R fn137 R (K146 _) fun r2 hm=>Aa tbk [] 2 R R<|J 3 R R (Bj hm)) fun c hm=>Ac<|Ao hm R (fun h8 hm=>Ae tbk [] R R<|have hm:=Lr hm h2;Rt1 hm R [] R R R) fun h8 hm=>Am<|Ae tbk [] R R<|Bc tbk [] R R<|Ap ((IntKind.i64.wrap (n2 + (1 : Int))),(IntKind.i64.wrap (i2 + r.2))) () hm (Ag [] R R)) fun h3 hm=>A7<|Ar () hm (Ag [] R R)
 exact Ai<|Aa tbk [] 3 R R<|B5 tbk [] 3 34 31 R R R R R<|Ab R R (Ak R)<|Ac<|Rt1 hm R [] R R R

/-! trireme/triremeref07.maybe -/
def ref07_maybe (s : ByteArray) : Option Bool :=
 (if (V.seq s (⟨#[]⟩ : ByteArray)) = true then some true else (ref01_Word s).bind fun r =>
 some r).bind fun c =>
 some c
theorem K148 (s : ByteArray) : VS Tryz.prog 110 (ref07_maybe s) [.str s] [] .bool N0 := by
 refine A4 [.tmp 2] Tryz.func110 R R R fun r hm=>?_
 unfold ref07_maybe at hm
 exact Ae tbk [] R R<|Ai<|Aa tbk [] 3 R R<|Bh hm 3 8 5 R (fun _ K' h1 J hm=>Aa tbk [] 3 R R<|J 2 R R (Bj hm)) (fun _ K' h1 J hm=>Bb R R R R R (Aj R)<|A1 R R R R R<|Av hm 0 R fn94 R (K147 _) fun r hm=>Ab R R (Bk false R R R)<|J 2 R R (Bj hm)) fun c hm=>Ab R R (Ak R)<|Ac<|Rt1 hm R [] R R R

/-! trireme/triremeref04.one -/
def ref04_one (n : Int) : Option Bool :=
 some ((decide (n ≥ 0)) && (decide (n ≤ 1125899906842624)))
theorem K149 (n : Int) : VS Tryz.prog 161 (ref04_one n) [Iw n] [] .bool N0 := by
 refine A4 [.tmp 2] Tryz.func161 R R R fun r hm=>?_
 unfold ref04_one at hm
 exact Ae tbk [] R R<|Ai<|Aa tbk [] 3 R R<|B5 tbk [] 3 8 5 R R R R R<|Ab R R (Ak R)<|Ac<|Rt1 hm R [] R R R

/-! trireme/triremeref04.Right -/
def ref04_Right (a : T_api_Res) : Option Bool :=
 (ref04_one a.Cpu).bind fun r =>
 (if r = true then (ref04_one a.Mem).bind fun r2 =>
 some r2 else some false).bind fun c =>
 (if c = true then (ref04_one a.Disk).bind fun r3 =>
 some r3 else some false).bind fun c2 =>
 (if c2 = true then (ref04_one a.Pods).bind fun r4 =>
 some r4 else some false).bind fun c3 =>
 (if c3 = true then (ref04_one a.Dev).bind fun r5 =>
 some r5 else some false).bind fun c4 =>
 some c4
theorem K150 (a : T_api_Res) : VS Tryz.prog 111 (ref04_Right a) [T_api_Res.vv a] [] .bool N0 := by
 refine A4 [.tmp 2] Tryz.func111 R R R fun r hm=>?_
 unfold ref04_Right at hm
 exact Ai<|Ad R R<|Bg R R fun b=>Ab R R (Ak R)<|Ac<|Ai<|Aa tbk [0] 2 R R<|Ad R R<|Av hm 0 R fn161 R (K149 _) fun r hm=>Ab R R (Aj R)<|Bh hm 4 10 6 R (fun _ K' h3 J hm=>Aa tbk [0] 2 R R<|A1 R R R R R<|Av hm 0 R fn161 R (K149 _) fun r2 hm=>Ab R R (Bk true R R R)<|J 3 R R (Bj hm)) (fun _ K' h3 J hm=>Aa tbk [] 4 R R<|J 3 R R (Bj hm)) fun c hm=>Ab R R (Aj R)<|Bh hm 4 15 11 R (fun _ K' h6 J hm=>Aa tbk [0] 2 R R<|A1 R R R R R<|Av hm 0 R fn161 R (K149 _) fun r3 hm=>Ab R R (Bk true R R R)<|J 3 R R (Bj hm)) (fun _ K' h6 J hm=>Aa tbk [] 4 R R<|J 3 R R (Bj hm)) fun c2 hm=>Ab R R (Aj R)<|Bh hm 4 20 16 R (fun _ K' h9 J hm=>Aa tbk [0] 2 R R<|A1 R R R R R<|Av hm 0 R fn161 R (K149 _) fun r4 hm=>Ab R R (Bk true R R R)<|J 3 R R (Bj hm)) (fun _ K' h9 J hm=>Aa tbk [] 4 R R<|J 3 R R (Bj hm)) fun c3 hm=>Ab R R (Aj R)<|Bh hm 4 25 21 R (fun _ K' h12 J hm=>Aa tbk [0] 2 R R<|A1 R R R R R<|Av hm 0 R fn161 R (K149 _) fun r5 hm=>Ab R R (Bk true R R R)<|J 3 R R (Bj hm)) (fun _ K' h12 J hm=>Aa tbk [] 4 R R<|J 3 R R (Bj hm)) fun c4 hm=>Ab R R (Ak R)<|Ac<|Rt1 hm R [] R R R

/-! trireme/triremeref05.maybe -/
def ref05_maybe (s : ByteArray) : Option Bool :=
 (if (V.seq s (⟨#[]⟩ : ByteArray)) = true then some true else (ref01_Word s).bind fun r =>
 some r).bind fun c =>
 some c
theorem K151 (s : ByteArray) : VS Tryz.prog 138 (ref05_maybe s) [.str s] [] .bool N0 := by
 refine A4 [.tmp 2] Tryz.func138 R R R fun r hm=>?_
 unfold ref05_maybe at hm
 exact Ae tbk [] R R<|Ai<|Aa tbk [] 3 R R<|Bh hm 3 8 5 R (fun _ K' h1 J hm=>Aa tbk [] 3 R R<|J 2 R R (Bj hm)) (fun _ K' h1 J hm=>Bb R R R R R (Aj R)<|A1 R R R R R<|Av hm 0 R fn94 R (K147 _) fun r hm=>Ab R R (Bk false R R R)<|J 2 R R (Bj hm)) fun c hm=>Ab R R (Ak R)<|Ac<|Rt1 hm R [] R R R

/-! trireme/triremeref05.Less -/
def ref05_Less.l1 (a : ByteArray) (b : ByteArray) : Nat → Int → Option (Out Bool Unit)
 | 0, _ => none
 | n + 1, i2 =>
  if ((decide (i2 < (a.size : Int))) && (decide (i2 < (b.size : Int)))) = true then
   (V.gi a i2).bind fun v =>
   (V.gi b i2).bind fun v2 =>
   if (v != v2) = true then
    (V.gi a i2).bind fun v3 =>
    (V.gi b i2).bind fun v4 =>
    some (Out.ret (decide (v3 < v4)))
   else
    ref05_Less.l1 a b n (i64.wrap (i2 + 1))
  else
   some (Out.go ())
def ref05_Less (a : ByteArray) (b : ByteArray) : Option Bool :=
 (ref05_Less.l1 a b FU (0 : Int)).bind fun o =>
 o.on fun j =>
 some (decide ((a.size : Int) < (b.size : Int)))
theorem K152 (a : ByteArray) (b : ByteArray) : VS Tryz.prog 139 (ref05_Less a b) [.str a, .str b] [] .bool N0 := by
 refine A4 [.tmp 4] Tryz.func139 R R R fun r hm=>?_
 unfold ref05_Less at hm
 refine Ae tbk [] R R<|Af<|Ae tbk [] R R<|Bw hm (fun _ (_:Unit)=>[(0,.str a),(1,.str b)]) (fun _ (_:Unit)=>[]) (fun o hm h2=>?_) fun j _ hm=> ?_
 ·refine B1 (fun zn (zs:Int)=>ref05_Less.l1 a b zn zs) (fun zs (_:Unit)=>[(0,.str a),(1,.str b),(5,Iw zs)]) (fun _ (_:Unit)=>[]) _ () (fun _=>R) hm (Ag [] R R) fun n i2 _ hm=> ?_
  rw [ref05_Less.l1] at hm
  exact Af<|Ai<|Aa tbk [] 2 R R<|Ab R R (Ci R A9)<|Aa tbk [] 2 R R<|Db 5 15 10 R (fun h3 K' J=>Aa tbk [] 2 R R<|Bb R R R R R (Ci R A9)<|Aa tbk [] 2 R R<|J 4 R R R) (fun K' J=>Aa tbk [] 5 R R<|J 4 R R R)<|Ac<|Ao hm R (fun h4 hm=>Am<|Af<|A2<|Af<|Be 0 mixed<|Aq tbk [0,1] [] (by kernel_rfl) R R R<|Bd hm fun v h5 hm=>Ax 2 R R R (by kernel_rfl) (C1 R R A9 h5)<|Aq tbk [3,4] [] (by kernel_rfl) R R R<|Bd hm fun v2 h6 hm=>Ax 5 R R R (by kernel_rfl) (C1 R R A9 h6)<|Ax 6 R R R (by kernel_rfl) (Ba R R R)<|A0 (by kernel_rfl)<|Ao hm R (fun h7 hm=>Af<|Be 0 mixed<|Aq tbk [0,1] [] (by kernel_rfl) R R R<|Bd hm fun v3 h8 hm=>Ax 2 R R R (by kernel_rfl) (C1 R R A9 h8)<|Aq tbk [3,4] [] (by kernel_rfl) R R R<|Bd hm fun v4 h9 hm=>Ax 5 R R R (by kernel_rfl) (C1 R R A9 h9)<|Aq tbk [6,7] [] (by kernel_rfl) R R R<|A0 (by kernel_rfl)<|have hm:=Lr hm h2;Rt1 hm R [] R R R) fun h7 hm=>Am<|Bc tbk [] R R<|Ap _ () hm (Ag [] R R)) fun h4 hm=>A7<|Ar () hm (Ag [] R R)
 exact Ai<|Ab R R (Aj R)<|Ab R R (Ci R A9)<|Ab R R (Aj R)<|Ab R R (Ci R A9)<|Aa tbk [] 2 R R<|Ac<|Rt1 hm R [] R R R

/-! trireme/triremeref05.Right -/
def ref05_Right.l1 (l : List T_api_Label) : Nat → Int → Option (Out Bool Unit)
 | 0, _ => none
 | n + 1, i2 =>
  if (decide (i2 < (l.length : Int))) = true then
   (V.gl l i2).bind fun x =>
   (ref01_Word x.Key).bind fun r =>
   (if (!r) = true then some true else (V.gl l i2).bind fun x2 =>
   (ref05_maybe x2.Val).bind fun r2 =>
   some (!r2)).bind fun c =>
   (if c = true then some true else (if (decide (i2 > 0)) = true then (V.gl l (i64.wrap (i2 - 1))).bind fun x3 =>
   (V.gl l i2).bind fun x4 =>
   (ref05_Less x3.Key x4.Key).bind fun r3 =>
   some (!r3) else some false).bind fun c2 =>
   some c2).bind fun c3 =>
   if c3 = true then
    some (Out.ret false)
   else
    ref05_Right.l1 l n (i64.wrap (i2 + 1))
  else
   some (Out.go ())
def ref05_Right (l : List T_api_Label) : Option Bool :=
 if (decide ((l.length : Int) > 16)) = true then
  some false
 else
  (ref05_Right.l1 l FU (0 : Int)).bind fun o =>
  o.on fun j =>
  some true
theorem K153 (l : List T_api_Label) : VS Tryz.prog 95 (ref05_Right l) [L92 l] [] .bool N0 := by
 refine A4 [.tmp 2] Tryz.func95 R R R fun r hm=>?_
 unfold ref05_Right at hm
 refine Ae tbk [] R R<|Af<|Ai<|Ab R R (Aj R)<|Ab R R (Aw T_api_Label.vv R Bu)<|Ab R R (Ba R R R)<|Ac<|Ao hm R (fun h1 hm=>Ae tbk [] R R<|Rt1 hm R [] R R R) fun h1 hm=>Am<|Af<|Ae tbk [] R R<|Bw hm (fun _ (_:Unit)=>[]) (fun _ (_:Unit)=>[]) (fun o hm h3=>?_) fun j _ hm=> ?_
 ·refine B1 (fun zn (zs:Int)=>ref05_Right.l1 l zn zs) (fun zs (_:Unit)=>[(0,L92 l),(3,Iw zs)]) (fun _ (_:Unit)=>[]) _ () (fun _=>R) hm (Ag [] R R) fun n i2 _ hm=> ?_
  rw [ref05_Right.l1] at hm
  refine Af<|Ai<|Aa tbk [] 2 R R<|Ab R R (Aw T_api_Label.vv R Bu)<|Ab R R (Ba R R R)<|Ac<|Ao hm R (fun h4 hm=>?_) fun h4 hm=> ?_
  ·refine Am<|Af<|A2<|Af<|Be 0 mixed<|Aq tbk [0,1] [] (by kernel_rfl) R R R<|Bd hm fun x h5 hm=>Ax 2 R R R (by kernel_rfl) (Bf T_api_Label.vv R R el42 h5)<|Aq tbk [3,4] [] (by kernel_rfl) R R R<|Ah 5 (by kernel_rfl)<|Bd hm fun r h6 hm=>Al R R R<|Au 0 R fn94 R (K147 x.Key r h6) fun _ _ h19=> ?_
   obtain ⟨rfl,rfl⟩:=h19
   exact Aq tbk [6,7] [] (by kernel_rfl) R R R<|Cw hm [15,14,13,12,11,10,9,8,7,6,5,4,3,2,1,0] 28 20 R (fun _ K' h7 J hm=>Aq tbk [8,9,10,11,12,13,14,15] [] (by kernel_rfl) R R R<|J 7 R R (Bj hm)) (fun _ K' h7 J hm=>Aq tbk [8,9] [] (by kernel_rfl) R R R<|Bd hm fun x2 h8 hm=>Cs 10 R R R R R R (by kernel_rfl) (Bf T_api_Label.vv R R el42 h8)<|Aq tbk [11,12] [] (by kernel_rfl) R R R<|Ah 13 (by kernel_rfl)<|Bo R R R R R R<|Av hm 0 R fn138 R (K151 _) fun r2 hm=>Aq tbk [14,15] [] (by kernel_rfl) R R R<|J 7 R R (Bj hm)) fun c hm=>Ax 16 R R R (by kernel_rfl) (Aj R)<|Cw hm [34,33,32,31,30,29,28,27,26,25,24,23,22,21,20,19,18,17,16,15,14,13,12,11,10,9,8,7,6,5,4,3,2,1,0] 47 29 R (fun _ K' h11 J hm=>Aq tbk [17,18,19,20,21,22,23,24,25,26,27,28,29,30,31,32,33,34] [] (by kernel_rfl) R R R<|J 17 R R (Bj hm)) (fun _ K' h11 J hm=>Aq tbk [17,18,19] [] (by kernel_rfl) R R R<|Cw hm [33,32,31,30,29,28,27,26,25,24,23,22,21,20,19,18,17,16,15,14,13,12,11,10,9,8,7,6,5,4,3,2,1,0] 46 32 R (fun _ K' h12 J hm=>Aq tbk [20,21,22] [] (by kernel_rfl) R R R<|Bd hm fun x3 h13 hm=>Cs 23 R R R R R R (by kernel_rfl) (Bf T_api_Label.vv R R el42 h13)<|Aq tbk [24,25,26,27] [] (by kernel_rfl) R R R<|Bd hm fun x4 h14 hm=>Cs 28 R R R R R R (by kernel_rfl) (Bf T_api_Label.vv R R el42 h14)<|Aq tbk [29,30] [] (by kernel_rfl) R R R<|Ah 31 (by kernel_rfl)<|Bo R R R R R R<|Av hm 0 R fn139 R (K152 _ _) fun r3 hm=>Aq tbk [32,33] [] (by kernel_rfl) R R R<|J 13 R R (Bj hm)) (fun _ K' h12 J hm=>Aq tbk [20,21,22,23,24,25,26,27,28,29,30,31,32,33] [] (by kernel_rfl) R R R<|J 13 R R (Bj hm)) fun c2 hm=>Ax 34 R R R (by kernel_rfl) (Bk false R R R)<|J 4 R R (Bj hm)) fun c3 hm=>A0 (by kernel_rfl)<|Ao hm R (fun h18 hm=>Ae tbk [] R R<|have hm:=Lr hm h3;Rt1 hm R [] R R R) fun h18 hm=>Am<|Bc tbk [] R R<|Ap _ () hm (Ag [] R R)
  exact A7<|Ar () hm (Ag [] R R)
 exact Ae tbk [] R R<|Rt1 hm R [] R R R

/-! trireme/triremeref06.maybe -/
def ref06_maybe (s : ByteArray) : Option Bool :=
 (if (V.seq s (⟨#[]⟩ : ByteArray)) = true then some true else (ref01_Word s).bind fun r =>
 some r).bind fun c =>
 some c
theorem K154 (s : ByteArray) : VS Tryz.prog 162 (ref06_maybe s) [.str s] [] .bool N0 := by
 refine A4 [.tmp 2] Tryz.func162 R R R fun r hm=>?_
 unfold ref06_maybe at hm
 exact Ae tbk [] R R<|Ai<|Aa tbk [] 3 R R<|Bh hm 3 8 5 R (fun _ K' h1 J hm=>Aa tbk [] 3 R R<|J 2 R R (Bj hm)) (fun _ K' h1 J hm=>Bb R R R R R (Aj R)<|A1 R R R R R<|Av hm 0 R fn94 R (K147 _) fun r hm=>Ab R R (Bk false R R R)<|J 2 R R (Bj hm)) fun c hm=>Ab R R (Ak R)<|Ac<|Rt1 hm R [] R R R

/-! trireme/triremeref06.effect -/
def ref06_effect (n : Int) : Option Bool :=
 some ((decide (n ≥ 1)) && (decide (n ≤ 3)))
theorem K155 (n : Int) : VS Tryz.prog 163 (ref06_effect n) [Iw n] [] .bool N0 := by
 refine A4 [.tmp 2] Tryz.func163 R R R fun r hm=>?_
 unfold ref06_effect at hm
 exact Ae tbk [] R R<|Ai<|Aa tbk [] 3 R R<|B5 tbk [] 3 8 5 R R R R R<|Ab R R (Ak R)<|Ac<|Rt1 hm R [] R R R

end Go.Proofs.YtmpkpnclmihdnaaGreat.M

/-
  Printed by a program of this session out of the loaded functions: models and their proofs. Own text.
-/
import Derived.Test.YtbgfffdnaijmhaaGreatWKF1
namespace Go.Proofs.YtbgfffdnaijmhaaGreat.M
open Go Go.Proofs Go.Proofs.YtbgfffdnaijmhaaGreat.V
open Go.IntKind (i64)
set_option linter.unusedVariables false
set_option maxRecDepth 20000
set_option maxHeartbeats 40000000
/-! trireme/fit.Where -/
def fit_Where (ms : List T_api_Machine) (bs : List T_api_Bound) (p : T_api_Pod) : Option (List ByteArray) :=
 (fit_each_fit_asker_why_fit_Where_1 ms (⟨ms, bs, p⟩ : T_fit_asker) ([] : List ByteArray)).bind fun r =>
 some r
theorem K132 (ms : List T_api_Machine) (bs : List T_api_Bound) (p : T_api_Pod) : VS2 Tryz.prog 182 (fit_Where ms bs p) [L68 ms, L64 bs, T_api_Pod.vv p] [] (fun r ob0 cap0=>Z9 ob0 r cap0) (fun r ob0 cap0=>[Q9 ob0 cap0 r]) := by
 refine Cz [.tmp 6] Tryz.func182 R R R fun r hm=>?_
 unfold fit_Where at hm
 exact Ae<|Ad R R<|Bi R R fun b=>Aa R R (Aj R)<|Ac<|Ae<|Ad R R<|Aq z61 fun b2=>Ac<|Ae<|Ab tbk [1] 4 R R<|Aa R R (Bo pl263 R R)<|Aa R R (C6 R R)<|Aa R R (C6 R R)<|Bb (Bk 9)<|Bb (Bg [1,0,2] R)<|Ad R R<|Cp hm 2 R fn216 R (K131 _ _ _ _ _ _) fun r ob cap hm=>Ac<|Af tbk [0] R R<|Rg2 hm R [1] ob cap (.cons (.tmp _ _ R) .nil) R R

/-! trireme/taints.Prefers -/
def taints_Prefers (l : List T_api_Toleration) (taints : List T_api_Taint) : Option Int :=
 (taints_Unborne l taints (2 : Int)).bind fun r =>
 some (r.length : Int)
theorem K133 (l : List T_api_Toleration) (taints : List T_api_Taint) : VS Tryz.prog 236 (taints_Prefers l taints) [L191 l, L31 taints] [] Iw N0 := by
 refine Az [.tmp 4] Tryz.func236 R R R fun r hm=>?_
 unfold taints_Prefers at hm
 exact Af tbk [] R R<|Ae<|Ab tbk [] 2 R R<|Ad R R<|Ax hm 0 R fn252 R (K98 _ _ _) fun r hm=>Aa R R (Ay T_api_Taint.vv R Cn)<|Aa R R (Aj R)<|Ac<|Rt1 hm R [] R R R

/-! trireme/suit.Prefers -/
def suit_Prefers (m : T_api_Machine) (p : T_api_Pod) : Option Int :=
 (taints_Prefers p.Bears m.Taints).bind fun r =>
 some r
theorem K134 (m : T_api_Machine) (p : T_api_Pod) : VS Tryz.prog 220 (suit_Prefers m p) [T_api_Machine.vv m, T_api_Pod.vv p] [] Iw N0 := by
 refine Az [.tmp 4] Tryz.func220 R R R fun r hm=>?_
 unfold suit_Prefers at hm
 exact Ae<|Ad R R<|Bi R R fun b=>Ad R R<|Bi R R fun b2=>Aa R R (Aj R)<|Ac<|Ae<|Ab tbk [0,1] 4 R R<|Ad R R<|Ax hm 0 R fn236 R (K133 _ _) fun r hm=>Aa R R (Aj R)<|Ac<|Rt1 hm R [] R R R

/-! trireme/res.part -/
def res_part (a : Int) (b : Int) : Option Int :=
 if (decide (b > 0)) = true then
  (V.quo (i64.wrap (1000 * a)) b).bind fun v =>
  some (min (i64.wrap v) 1000000)
 else
  if (decide (a > 0)) = true then
   some 1000000
  else
   some 0
theorem K135 (a : Int) (b : Int) : VS Tryz.prog 237 (res_part a b) [Iw a, Iw b] [] Iw N0 := by
 refine Az [.tmp 4] Tryz.func237 R R R fun r hm=>?_
 unfold res_part at hm
 exact Af tbk [] R R<|Ag<|Au<|Af tbk [] R R<|An hm R (fun h1 hm=>Ae<|Ab tbk [] 3 R R<|Bd hm fun v h2 hm=>Aa R R (VP.quoT R R h2)<|Aa R R (VP.min2 R R)<|Aa R R (Aj R)<|Ac<|Rt1 hm R [] R R R) fun h1 hm=>Af tbk [] R R<|An hm R (fun h3 hm=>Af tbk [] R R<|Rt1 hm R [] R R R) fun h3 hm=>Ak<|Af tbk [] R R<|Rt1 hm R [] R R R

/-! trireme/res.Share -/
def res_Share (a : T_api_Res) (b : T_api_Res) : Option Int :=
 (res_Right a).bind fun r =>
 (if (!r) = true then some true else (res_Right b).bind fun r2 =>
 some (!r2)).bind fun c =>
 if c = true then
  some 0
 else
  (res_part a.Cpu b.Cpu).bind fun r3 =>
  (res_part a.Mem b.Mem).bind fun r4 =>
  some (max r3 r4)
theorem K136 (a : T_api_Res) (b : T_api_Res) : VS Tryz.prog 221 (res_Share a b) [T_api_Res.vv a, T_api_Res.vv b] [] Iw N0 := by
 refine Az [.tmp 4] Tryz.func221 R R R fun r hm=>?_
 unfold res_Share at hm
 refine Ae<|Ad R R<|Bi R R fun b2=>Ad R R<|Bi R R fun b3=>Aa R R (Aj R)<|Ac<|Ag<|Ae<|Ab tbk [1] 1 R R<|Ad R R<|Ax hm 0 R fn133 R (K16 _) fun r hm=>Ab tbk [] 2 R R<|Bh hm 4 12 8 R (fun _ K' h4 J hm=>Ab tbk [] 4 R R<|J 3 R R (Bj hm)) (fun _ K' h4 J hm=>Ab tbk [0] 1 R R<|A8 R R R R R<|Ax hm 0 R fn133 R (K16 _) fun r2 hm=>Ab tbk [] 2 R R<|J 3 R R (Bj hm)) fun c hm=>Ac<|An hm R (fun h7 hm=>Af tbk [] R R<|Rt1 hm R [] R R R) fun h7 hm=>Ak<|Ag<|Bn 0 mixed<|A6 tbk [0,1,2,3,5,6,7,8] [1,0,1,0] (by kernel_rfl) R R R<|Am 4 (by kernel_rfl)<|Bd hm fun r3 h8 hm=>Ao R R R<|Aw 0 R fn237 R (K135 a.Cpu b.Cpu r3 h8) fun _ _ h11=> ?_
 obtain ⟨rfl,rfl⟩:=h11
 refine Am 9 (by kernel_rfl)<|Bd hm fun r4 h9 hm=>Ao R R R<|Aw 0 R fn237 R (K135 a.Mem b.Mem r4 h9) fun _ _ h10=> ?_
 obtain ⟨rfl,rfl⟩:=h10
 exact Ba 10 R R R (by kernel_rfl) (VP.max2 R R)<|Ba 11 R R R (by kernel_rfl) (Aj R)<|A5 (by kernel_rfl)<|Rt1 hm R [] R R R

/-! trireme/sched.of -/
def sched_of.l1 (p : T_api_Pod) : List T_api_Bound → Nat → (List T_api_Bound) → Option (List T_api_Bound)
 | [], k, others2 => some others2
 | x :: l, k, others2 =>
  if (!(V.seq x.Pod.Name p.Name)) = true then
   (V.ap 288 others2 [x]).bind fun others4 =>
   sched_of.l1 p l (k + 1) others4
  else
   sched_of.l1 p l (k + 1) others2
def sched_of (m : T_api_Machine) (bs : List T_api_Bound) (p : T_api_Pod) : Option T_sched_score :=
 (sched_of.l1 p bs 0 ([] : List T_api_Bound)).bind fun others32 =>
 (yard_Used others32 m.Name).bind fun r =>
 (suit_Prefers m p).bind fun r2 =>
 (res_Share r.1 m.Has).bind fun r3 =>
 some (⟨r2, r3⟩ : T_sched_score)
theorem K137 (m : T_api_Machine) (bs : List T_api_Bound) (p : T_api_Pod) : VS Tryz.prog 183 (sched_of m bs p) [T_api_Machine.vv m, L64 bs, T_api_Pod.vv p] [] (fun r=>T_sched_score.vv r) N0 := by
 refine Az [.cell 6 239] Tryz.func183 R R R fun r hm=>?_
 unfold sched_of at hm
 refine Ae<|Ad R R<|Bi R R fun b=>Ad R R<|Bi R R fun b2=>Ad R R<|Aq z239 fun b3=>Ac<|Af tbk [] R R<|Ag<|Ae<|Aa R R (Ai R)<|Aa R R (Ay T_api_Bound.vv R Bz)<|Aa R R (Ai R)<|Ac<|B7 12 R fun h8=>Cf hm (fun others32 (gg:Option Nat × Nat)=>[(3,.ptr b 0),(5,.ptr b2 0),(6,.ptr b3 0),(7,Z64 gg.1 others32 gg.2)]) (fun others32 (gg:Option Nat × Nat)=>[Q64 gg.1 gg.2 others32,X239 b3 (⟨(0 : Int),(0 : Int)⟩ : T_sched_score),X29 b2 p,X68 b m]) (fun o hm=>?_) fun others32=>Pq fun ob3 cap3 hm=> ?_
 ·refine Cj (bs) (fun zl zk (zs:List T_api_Bound)=>sched_of.l1 p zl zk zs) (fun k zs (zg:Option Nat × Nat)=>[(3,.ptr b 0),(5,.ptr b2 0),(6,.ptr b3 0),(7,Z64 zg.1 zs zg.2),(12,L64 bs),(13,Iw (bs.length : Int)),(14,Iw (k : Int))]) (fun _ zs (zg:Option Nat × Nat)=>[Q64 zg.1 zg.2 zs,X239 b3 (⟨(0 : Int),(0 : Int)⟩ : T_sched_score),X29 b2 p,X68 b m]) _ (none,0) hm (B5 (Bk 64) (Ah [0,1,2,3] R R)) (fun k others2=>Pq fun ob2 cap2 hk hm=>?_) fun k x l others2=>Pq fun ob2 cap2 h9 hm=> ?_
  ·rw [sched_of.l1] at hm
   exact Af tbk [] R R<|Ag<|Bp R (k_end hk)<|A4<|As (ob2,cap2) hm (Ah [0,1,2,3] R R)
  rw [sched_of.l1] at hm
  exact Af tbk [] R R<|Ag<|Bm R (k_lt h9)<|Ak<|Ag<|Au<|Ae<|Aa R R (Cc T_api_Bound.vv R R el40 h9)<|Aa R R (Bs R ld64 R)<|Ad R R<|Aq z64 fun b4=>Ad R R<|Al (i:=0) R R R ld64 R R R<|Ac<|Af tbk [0,3] R R<|An hm R (fun h11 hm=>B2<|Ab tbk [0] 2 R R<|Ad R R<|Bc ap40 R R R R R fun b5=>Bd hm fun others4 h13 hm=>Ad R R<|Bv 2 T_api_Bound.vv (l:=others2) (l2:=[x]) ap40 R R (sT_row 0 T_api_Bound.vv el40 R R) h13 fun ob4 cap4=>Aa R R (Aj R)<|Ac<|A9 tbk [] R R<|Ap _ (ob4,cap4) hm (Be [2,3,4,5] R ⟨R,R,R,R,R,R,congrArg some (k_next h9 h8),trivial⟩)) fun h11 hm=>Ak<|A9 tbk [] R R<|Ap _ (ob2,cap2) hm (Be [1,2,3,4] R ⟨R,R,R,R,R,R,congrArg some (k_next h9 h8),trivial⟩)
 refine Ae<|Ab tbk [3] 3 R R<|Ad R R<|Dj hm (A7 0 [(7,L64 others32),(30,L64 others32)] R ⟨⟨_,R,.here _ R⟩,⟨_,R,.here _ R⟩,trivial⟩ (FzH.refl _)) [.same,.same] R fn219 R (K108 _ _) (fun _=>R) (fun _=>R) fun r hm=>Ab tbk [] 3 R R<|Ad R R<|Aq z23 fun b6=>Ad R R<|Al (i:=0) R R R ld23 R R R<|Aa R R (Aj R)<|Ac<|Ag<|Bw (Bg [2,0,1,3,4] R)<|Bn 1 mixed<|A6 tbk [0,1,3,4,5] [3,2,0,3] (by kernel_rfl) R R R<|Am 2 (by kernel_rfl)<|Bd hm fun r2 h17 hm=>Ao R R R<|Aw 0 R fn220 R (K134 m p r2 h17) fun _ _ h20=> ?_
 obtain ⟨rfl,rfl⟩:=h20
 refine Am 6 (by kernel_rfl)<|Bd hm fun r3 h18 hm=>Ao R R R<|Aw 0 R fn221 R (K136 r.1 m.Has r3 h18) fun _ _ h19=> ?_
 obtain ⟨rfl,rfl⟩:=h19
 exact Ba 7 R R R (by kernel_rfl) (Bo pl239 R R)<|Am 8 (by kernel_rfl)<|Ao R R R<|Al (i:=0) R R R ld239 R R R<|A5 (by kernel_rfl)<|Rt0 hm R [] (.cons (.cell _ _ _ _ 0 _ _ _ _ R R ld239 R) .nil) R R

/-! (trireme/sched.score).less -/
def sched_score_less (a : T_sched_score) (b : T_sched_score) : Option Bool :=
 if (a.prefers != b.prefers) = true then
  some (decide (a.prefers < b.prefers))
 else
  some (decide (a.share < b.share))
theorem K138 (a : T_sched_score) (b : T_sched_score) : VS Tryz.prog 184 (sched_score_less a b) [T_sched_score.vv a, T_sched_score.vv b] [] .bool N0 := by
 refine Az [.tmp 4] Tryz.func184 R R R fun r hm=>?_
 unfold sched_score_less at hm
 exact Ae<|Ad R R<|Bi R R fun b2=>Ad R R<|Bi R R fun b3=>Aa R R (Aj R)<|Ac<|Ag<|Af tbk [1,0] R R<|An hm R (fun h3 hm=>Af tbk [1,0] R R<|Rt1 hm R [] R R R) fun h3 hm=>Ak<|Af tbk [1,0] R R<|Rt1 hm R [] R R R

/-! trireme/sched.Best -/
def sched_Best.l1 (ms : List T_api_Machine) (bs : List T_api_Bound) (p : T_api_Pod) : List ByteArray → Nat → ByteArray → T_sched_score → Option ByteArray
 | [], k, best2, least2 => some best2
 | x :: l, k, best2, least2 =>
  ((yard_Find ms x).bind fun r2 =>
  (V.gl ms r2).bind fun x3 =>
  (sched_of x3 bs p).bind fun r3 =>
  some r3).bind fun x22 =>
  (if (V.seq best2 (⟨#[]⟩ : ByteArray)) = true then some true else (sched_score_less x22 least2).bind fun r7 =>
  some r7).bind fun c =>
  if c = true then
   sched_Best.l1 ms bs p l (k + 1) x x22
  else
   sched_Best.l1 ms bs p l (k + 1) best2 least2
def sched_Best (ms : List T_api_Machine) (bs : List T_api_Bound) (p : T_api_Pod) : Option ByteArray :=
 (fit_Where ms bs p).bind fun r =>
 (sched_Best.l1 ms bs p r 0 (⟨#[]⟩ : ByteArray) (⟨0, 0⟩ : T_sched_score)).bind fun best32 =>
 some best32
theorem K139 (ms : List T_api_Machine) (bs : List T_api_Bound) (p : T_api_Pod) : VS Tryz.prog 128 (sched_Best ms bs p) [L68 ms, L64 bs, T_api_Pod.vv p] [] .str N0 := by
 refine Az [.tmp 6] Tryz.func128 R R R fun r hm=>?_
 unfold sched_Best at hm
 refine Ae<|Ad R R<|Bi R R fun b=>Aa R R (Aj R)<|Ac<|Af tbk [] R R<|Ae<|Ad R R<|Aq z239 fun b2=>Ac<|Ag<|Ae<|Ab tbk [1] 3 R R<|Ad R R<|Cp hm 0 R fn182 R (K132 _ _ _) fun r ob cap hm=>Bb (A7 0 [(15,L9 r)] R ⟨⟨_,R,.here _ R⟩,trivial⟩ (FzH.refl _))<|Aa R R (Ay VV.str R Bu)<|Aa R R (Ai R)<|Ac<|B7 15 R fun h7=>Cf hm (fun best32 (_:Unit)=>[(7,.str best32)]) (fun _ (_:Unit)=>[]) (fun o hm=>?_) fun best32 _ hm=> ?_
 ·refine Cj (r) (fun zl zk (zs:ByteArray × T_sched_score)=>sched_Best.l1 ms bs p zl zk zs.1 zs.2) (fun k zs (_:Unit)=>[(0,L68 ms),(1,L64 bs),(5,.ptr b 0),(7,.str zs.1),(8,.ptr b2 0),(15,L9 r),(16,Iw (r.length : Int)),(17,Iw (k : Int))]) (fun _ zs (_:Unit)=>[X239 b2 zs.2,X29 b p]) ((⟨#[]⟩ : ByteArray),(⟨(0 : Int),(0 : Int)⟩ : T_sched_score)) () hm (Ah [0,1] R R) (fun k=>Pq fun best2 least2 _ hk hm=>?_) fun k x l=>Pq fun best2 least2 _ h8 hm=> ?_
  ·rw [sched_Best.l1] at hm
   exact Af tbk [] R R<|Ag<|Bp R (k_end hk)<|A4<|As () hm (Ah [] R R)
  rw [sched_Best.l1] at hm
  refine Af tbk [] R R<|Ag<|Bm R (k_lt h8)<|Ak<|Ag<|Au<|Ae<|Aa R R (Cc VV.str R R el61 h8)<|Ab tbk [] 2 R R<|Ac<|De hm (fun _ (gg:Nat)=>[(0,L68 ms),(1,L64 bs),(5,.ptr b 0),(7,.str best2),(8,.ptr b2 0),(10,.str x),(11,.ptr gg 0),(15,L9 r),(16,Iw (r.length : Int)),(17,Iw (k : Int))]) (fun x22 (gg:Nat)=>[X239 gg x22,X239 b2 least2,X29 b p]) (fun o2 hm=>?_) fun x22 b3 hm=> ?_
  ·refine Bn 0 mixed<|A6 tbk [0,1,2,6,7] [1] (by kernel_rfl) R R R<|?_
   refine B3 [3,9] (by kernel_rfl) ⟨?_,?_,trivial⟩
   ·refine Bd hm fun r2 h12 hm=>Ao R R R<|Aw 0 R fn72 R (K46 ms x r2 h12) fun _ _ h20=> ?_
    obtain ⟨rfl,rfl⟩:=h20
    refine Bd hm fun x3 h13 hm=>Ba 4 R R R (by kernel_rfl) (Br T_api_Machine.vv R R el39 h13)<|Ba 5 R R R (by kernel_rfl) (Bs R ld68 R)<|?_
    refine B3 [8,9] (by kernel_rfl) ⟨?_,?_,trivial⟩
    ·refine Bd hm fun r3 h14 hm=>Ao R R R<|Aw 0 R fn183 R (K137 x3 bs p r3 h14) fun _ _ h16=> ?_
     obtain ⟨rfl,rfl⟩:=h16
     exact Am 9 (by kernel_rfl)<|Ao R R R<|Aq z239 fun b4=>Am 10 (by kernel_rfl)<|Ao R R R<|Al (i:=0) R R R ld239 R R R<|A5 (by kernel_rfl)<|As _ hm (Ah [0,1,2] R R)
    ·refine Ao R R R<|Aq z239 fun b5=>Am 8 (by kernel_rfl)<|Bd hm fun r4 h18 hm=>Ao R R R<|Aw 0 R fn183 R (K137 x3 bs p r4 h18) fun _ _ h19=> ?_
     obtain ⟨rfl,rfl⟩:=h19
     exact Am 10 (by kernel_rfl)<|Ao R R R<|Al (i:=0) R R R ld239 R R R<|A5 (by kernel_rfl)<|As _ hm (Ah [0,1,2] R R)
   ·refine Ao R R R<|Aq z239 fun b6=>Am 3 (by kernel_rfl)<|Bd hm fun r5 h22 hm=>Ao R R R<|Aw 0 R fn72 R (K46 ms x r5 h22) fun _ _ h26=> ?_
    obtain ⟨rfl,rfl⟩:=h26
    refine Bd hm fun x4 h23 hm=>Ba 4 R R R (by kernel_rfl) (Br T_api_Machine.vv R R el39 h23)<|Ba 5 R R R (by kernel_rfl) (Bs R ld68 R)<|Am 8 (by kernel_rfl)<|Bd hm fun r6 h24 hm=>Ao R R R<|Aw 0 R fn183 R (K137 x4 bs p r6 h24) fun _ _ h25=> ?_
    obtain ⟨rfl,rfl⟩:=h25
    exact Am 10 (by kernel_rfl)<|Ao R R R<|Al (i:=0) R R R ld239 R R R<|A5 (by kernel_rfl)<|As _ hm (Ah [0,1,2] R R)
  exact Ae<|Ab tbk [] 3 R R<|Bh hm 4 36 32 R (fun _ K' h27 J hm=>Ab tbk [] 4 R R<|J 3 R R (Bj hm)) (fun _ K' h27 J hm=>Ab tbk [0,1] 2 R R<|A8 R R R R R<|Ax hm 0 R fn184 R (K138 _ _) fun r7 hm=>Aa R R (Bq false R R R)<|J 3 R R (Bj hm)) fun c hm=>Ac<|An hm R (fun h30 hm=>Bw (Bg [1,0,2] R)<|Bn 1 mixed<|A6 tbk [0,1,2] [0] (by kernel_rfl) R R R<|Am 3 (by kernel_rfl)<|Ao R R R<|Al (i:=0) R R R ld239 R R R<|A5 (by kernel_rfl)<|A9 tbk [] R R<|Ap (x,x22) () hm (Be [0,2] R ⟨R,R,R,R,R,R,R,congrArg some (k_next h8 h7),trivial⟩)) fun h30 hm=>Ak<|A9 tbk [] R R<|Ap (best2,least2) () hm (Be [1,2] R ⟨R,R,R,R,R,R,R,congrArg some (k_next h8 h7),trivial⟩)
 exact Af tbk [] R R<|Rt1 hm R [] R R R

/-! trireme/sched.Step -/
def sched_Step.l1 (ms : List T_api_Machine) : List Int → Nat → (List T_api_Bound) → (List T_api_Move) → Option (List T_api_Bound × List T_api_Move)
 | [], k, out2, moves2 => some (out2, moves2)
 | x :: l2, k, out2, moves2 =>
  (V.gl out2 x).bind fun x2 =>
  (sched_Best ms out2 x2.Pod).bind fun r2 =>
  if (!(V.seq r2 (⟨#[]⟩ : ByteArray))) = true then
   (V.gl out2 x).bind fun x3 =>
   (V.ap 32 moves2 [(⟨x2.Pod.Name, r2⟩ : T_api_Move)]).bind fun moves4 =>
   sched_Step.l1 ms l2 (k + 1) (List.set out2 (x).toNat (⟨x3.Pod, r2⟩ : T_api_Bound)) moves4
  else
   sched_Step.l1 ms l2 (k + 1) out2 moves2
def sched_Step (ms : List T_api_Machine) (bs : List T_api_Bound) : Option (List T_api_Bound × List T_api_Move) :=
 (V.ap 288 ([] : List T_api_Bound) bs).bind fun l =>
 (sched_Order bs).bind fun r =>
 (sched_Step.l1 ms r 0 l ([] : List T_api_Move)).bind fun j =>
 some (j.1, j.2)
theorem K140 (ms : List T_api_Machine) (bs : List T_api_Bound) : ∀ r : List T_api_Bound × List T_api_Move, sched_Step ms bs = some r → VC Tryz.prog 64 [L68 ms, L64 bs] [] fun zx zH => ∃ (ob0 : Option Nat) (cap0 : Nat) (ob1 : Option Nat) (cap1 : Nat), zx = .tup [Z64 ob0 r.1 cap0, Z201 ob1 r.2 cap1] ∧ zH = [Q64 ob0 cap0 r.1, Q201 ob1 cap1 r.2] := by
 refine Cw [.tmp 4,.tmp 5] Tryz.func64 R R R fun r hm=>?_
 unfold sched_Step at hm
 refine Af tbk [] R R<|Ae<|Aa R R (Ai R)<|Bb (Bk 64)<|Bd hm fun l h2 hm=>Ad R R<|Bv 0 T_api_Bound.vv (l:=([] : List T_api_Bound)) (l2:=bs) ap40 R R (sT_list T_api_Bound.vv el40 R R) h2 fun ob cap=>Aa R R (Aj R)<|Ac<|Af tbk [] R R<|Ag<|Ae<|Aa R R (Ai R)<|Ad R R<|Ax hm 0 R fn127 R (K86 _) fun r hm=>Aa R R (Ay (VV.int .i64) R Cl)<|Aa R R (Ai R)<|Ac<|B7 15 R fun h8=>Cf hm (fun j (gg:Option Nat × Nat)=>[(6,Z64 ob j.1 cap),(7,Z201 gg.1 j.2 gg.2)]) (fun j (gg:Option Nat × Nat)=>[Q201 gg.1 gg.2 j.2,Q64 ob cap j.1]) (fun o hm=>?_) fun j=>Pq fun ob4 cap4 hm=> ?_
 ·refine Cj (r) (fun zl zk (zs:List T_api_Bound × List T_api_Move)=>sched_Step.l1 ms zl zk zs.1 zs.2) (fun k zs (zg:Option Nat × Nat)=>[(0,L68 ms),(6,Z64 ob zs.1 cap),(7,Z201 zg.1 zs.2 zg.2),(15,L3 r),(16,Iw (r.length : Int)),(17,Iw (k : Int))]) (fun _ zs (zg:Option Nat × Nat)=>[Q201 zg.1 zg.2 zs.2,Q64 ob cap zs.1]) (l,([] : List T_api_Move)) (none,0) hm (B5 (Bk 201) (Ah [0,1] R R)) (fun k=>Pq fun out2 moves2=>Pq fun ob3 cap3 hk hm=>?_) fun k x l2=>Pq fun out2 moves2=>Pq fun ob3 cap3 h9 hm=> ?_
  ·rw [sched_Step.l1] at hm
   exact Af tbk [] R R<|Ag<|Bp R (k_end hk)<|A4<|As (ob3,cap3) hm (Ah [0,1] R R)
  rw [sched_Step.l1] at hm
  refine Af tbk [] R R<|Ag<|Bm R (k_lt h9)<|Ak<|Ag<|Au<|Ae<|Aa R R (Cc (VV.int .i64) R R el27 h9)<|Ab tbk [] 2 R R<|Ac<|Ae<|Ab tbk [] 2 R R<|Bd hm fun x2 h10 hm=>Cq 1 R (gl_pos T_api_Bound.vv h10) fun b h11=> ?_
  subst h11
  exact Aa R R (Cs T_api_Bound.vv R R el40 h10)<|Aa R R (Dv R fa64_0)<|Aa R R (Ck (i:=1) (y:=T_api_Bound.vv x2) R R R (gl_map _ (gl_some h10).2) ld29 R)<|Ad R R<|Aq z29 fun b2=>Ad R R<|Al (i:=0) R R R ld29 R R R<|Ac<|Ae<|Ab tbk [0] 3 R R<|Ad R R<|Dj hm (A7 2 [(6,L64 out2),(21,L64 out2),(27,L64 out2)] R ⟨⟨_,R,.here _ R⟩,⟨_,R,.here _ R⟩,⟨_,R,.here _ R⟩,trivial⟩ (FzH.refl _)) [.same,.same,.same] R fn128 R (K139 _ _ _) (fun _=>R) (fun _=>R) fun r2 hm=>Aa R R (Aj R)<|Ac<|Af tbk [] R R<|An hm R (fun h14 hm=>Ae<|Ab tbk [] 3 R R<|Bd hm fun x3 h15 hm=>Aa R R (Cs T_api_Bound.vv R R el40 h15)<|Aa R R (Dv R fa64_1)<|Ad R R<|D8 2 (f:=T_api_Bound.vv) (l:=out2) (q:=x3) (q':=(⟨x3.Pod,r2⟩ : T_api_Bound)) R R R R h15 ld9 R R R R ⟨R,List.all_eq_true.1 R⟩<|Bb (C5 6 (List.map T_api_Bound.vv (List.set out2 (x).toNat (⟨x3.Pod,r2⟩ : T_api_Bound))).length R (len_set _ _ _ _))<|Bb (C5 21 (List.map T_api_Bound.vv (List.set out2 (x).toNat (⟨x3.Pod,r2⟩ : T_api_Bound))).length R (len_set _ _ _ _))<|Bb (C5 27 (List.map T_api_Bound.vv (List.set out2 (x).toNat (⟨x3.Pod,r2⟩ : T_api_Bound))).length R (len_set _ _ _ _))<|Bb (C5 32 (List.map T_api_Bound.vv (List.set out2 (x).toNat (⟨x3.Pod,r2⟩ : T_api_Bound))).length R (len_set _ _ _ _))<|Ac<|B2<|Ab tbk [0] 4 R R<|Aa R R (Bo pl201 R R)<|Ad R R<|Bc ap122 R R R R R fun b3=>Bd hm fun moves4 h17 hm=>Ad R R<|Bv 2 T_api_Move.vv (l:=moves2) (l2:=[(⟨x2.Pod.Name,r2⟩ : T_api_Move)]) ap122 R R (sT_row 0 T_api_Move.vv el122 R R) h17 fun ob5 cap5=>Aa R R (Aj R)<|Ac<|A9 tbk [] R R<|Ap ((List.set out2 (x).toNat (⟨x3.Pod,r2⟩ : T_api_Bound)),moves4) (ob5,cap5) hm (Be [2,3] R ⟨R,R,R,R,R,congrArg some (k_next h9 h8),trivial⟩)) fun h14 hm=>Ak<|A9 tbk [] R R<|Ap (out2,moves2) (ob3,cap3) hm (Be [1,2] R ⟨R,R,R,R,R,congrArg some (k_next h9 h8),trivial⟩)
 refine Af tbk [] R R<|?_
 obtain rfl:=Option.some.inj hm
 exact Bx ⟨.inl R,_,.cons (.tmp _ _ R) (.cons (.tmp _ _ R) .nil),[1,0],_,R,ob,cap,ob4,cap4,R,R⟩

/-! (*trireme/world.World).Pass -/
def world_World_Pass_x (w : T_world_World) (c : T_cloud_Cloud) (pools : List T_cloud_pool) (insts : List T_cloud_inst) : Option (T_world_World × T_cloud_Cloud × List T_cloud_inst) :=
 (world_World_there_x w c).bind fun r =>
 (cloud_Cloud_Tick c pools insts).bind fun r2 =>
 (world_World_leave w r2.1 pools r2.2).bind fun r3 =>
 (world_World_register r3 r2.1 pools r2.2).bind fun r4 =>
 (sched_Step r4.ms r4.bs).bind fun r5 =>
 some ((⟨(), r4.groups, r4.budgets, r4.ms, r5.1, r4.held⟩ : T_world_World), r2.1, r2.2)
theorem K141 (A0 A1 : Nat) (w : T_world_World) (c : T_cloud_Cloud) (pools : List T_cloud_pool) (insts : List T_cloud_inst) (b : Nat) (ob : Option Nat) (cap : Nat) (ob2 : Option Nat) (cap2 : Nat) (ob3 : Option Nat) (cap3 : Nat) (ob4 : Option Nat) (cap4 : Nat) (b2 : Nat) (b3 : Nat) (ob5 : Option Nat) (cap5 : Nat) (ob6 : Option Nat) (cap6 : Nat) (bs : List Nat) (bs2 : List Nat) : ∀ r : T_world_World × T_cloud_Cloud × List T_cloud_inst, world_World_Pass_x w c pools insts = some r → VC Tryz.prog 11 [.ptr b 0] [.box b 43 [.ptr b3 0, Z139 ob w.groups cap, Z103 ob2 w.budgets cap2, Z68 ob3 w.ms cap3, Z64 ob4 w.bs cap4, .map b2], Q139 ob cap w.groups, Q103 ob2 cap2 w.budgets, Q68 ob3 cap3 w.ms, Q64 ob4 cap4 w.bs, .map b2 (List.map (pf VV.str (VV.int .i64)) w.held), .box b3 149 [Z140 A0 A1 ob5 c.pools cap5, Z152 A0 A1 ob6 c.insts cap6, Iw c.delay, Iw c.now, Iw c.calls], Q140 A0 A1 ob5 cap5 c.pools, Q152 A0 A1 ob6 cap6 c.insts, .ar A0 144 bs (List.map T_cloud_pool.cells pools), .ar A1 157 bs2 (List.map (T_cloud_inst.cells A0 A1) insts)] fun zx zH => ∃ (ob0_1 : Option Nat) (cap0_1 : Nat) (ob0_2 : Option Nat) (cap0_2 : Nat) (ob0_3 : Option Nat) (cap0_3 : Nat) (ob0_4 : Option Nat) (cap0_4 : Nat) (b0_5 : Nat) (ob1_0 : Option Nat) (cap1_0 : Nat) (ob1_1 : Option Nat) (cap1_1 : Nat) (bs_3 : List Nat), zx = .tup [] ∧ zH = [.box b 43 [.ptr b3 0, Z139 ob0_1 r.1.groups cap0_1, Z103 ob0_2 r.1.budgets cap0_2, Z68 ob0_3 r.1.ms cap0_3, Z64 ob0_4 r.1.bs cap0_4, .map b0_5], Q139 ob0_1 cap0_1 r.1.groups, Q103 ob0_2 cap0_2 r.1.budgets, Q68 ob0_3 cap0_3 r.1.ms, Q64 ob0_4 cap0_4 r.1.bs, .map b0_5 (List.map (pf VV.str (VV.int .i64)) r.1.held), .box b3 149 [Z140 A0 A1 ob1_0 r.2.1.pools cap1_0, Z152 A0 A1 ob1_1 r.2.1.insts cap1_1, Iw r.2.1.delay, Iw r.2.1.now, Iw r.2.1.calls], Q140 A0 A1 ob1_0 cap1_0 r.2.1.pools, Q152 A0 A1 ob1_1 cap1_1 r.2.1.insts, .ar A0 144 bs (List.map T_cloud_pool.cells pools), .ar A1 157 bs_3 (List.map (T_cloud_inst.cells A0 A1) r.2.2)] := by
 refine Cw [] Tryz.func11 R R R fun r hm=>?_
 unfold world_World_Pass_x at hm
 refine Ag<|Ae<|Aa R R (Ai R)<|Bd hm fun r h1 hm=>Ad R R<|Aw 9 R fn60 R (K63 A0 A1 w c b ob cap ob2 cap2 ob3 cap3 ob4 cap4 b2 b3 ob5 cap5 ob6 cap6 r h1) fun _ _ h16=> ?_
 obtain ⟨rfl,rfl⟩:=h16
 refine Aa R R (Ci R)<|Ac<|Bp R (congrArg not (Option.some.inj (show some true = some r from h1)).symm)<|Ak<|Ae<|Ab tbk [0] 4 R R<|Bd hm fun r2 h2 hm=>Bb (Bg [6,7,8,9,10,0,1,2,3,4,5] R)<|Ad R R<|Aw 5 R fn61 R (K80 A0 A1 c pools insts b3 ob5 cap5 ob6 cap6 bs bs2 r2 h2) fun _ _ h15=> ?_
 obtain ⟨ob7,cap7,ob8,cap8,bs3,rfl,rfl⟩:=h15
 refine Ac<|Ae<|Aa R R (Ai R)<|Bd hm fun r3 h3 hm=>Bb (Bg [5,6,7,8,9,10,0,1,2,3,4] R)<|Ad R R<|Aw 11 R fn62 R (K83 A0 A1 w r2.1 pools r2.2 b ob cap ob2 cap2 ob3 cap3 ob4 cap4 b2 b3 ob7 cap7 ob8 cap8 bs bs3 r3 h3) fun _ _ h14=> ?_
 obtain ⟨ob9,cap9,ob10,cap10,ob11,cap11,ob12,cap12,b4,rfl,rfl⟩:=h14
 refine Ac<|Ae<|Aa R R (Ai R)<|Bd hm fun r4 h4 hm=>Ad R R<|Aw 11 R fn63 R (K48 A0 A1 r3 r2.1 pools r2.2 b ob9 cap9 ob10 cap10 ob11 cap11 ob12 cap12 b4 b3 ob7 cap7 ob8 cap8 bs bs3 r4 h4) fun _ _ h13=> ?_
 obtain ⟨ob13,cap13,ob14,cap14,ob15,cap15,ob16,cap16,b5,rfl,rfl⟩:=h13
 refine Ac<|Bw (Bg [0,3,4,1,2,5,6,7,8,9,10] R)<|Bn 3 mixed<|A6 tbk [0,1,2,3,5,6,7] [] (by kernel_rfl) R R R<|?_
 refine B3 [4,8] (by kernel_rfl) ⟨?_,?_,trivial⟩
 ·refine Ao R R R<|Cb (B6 (i:=0) R R ld39 R)<|Am 8 (by kernel_rfl)<|Ao R R R<|Cb (B6 (i:=0) R R ld40 R)<|Am 9 (by kernel_rfl)<|Bd hm fun r5 h5 hm=>Ao R R R<|D5 [64,68] (LS.trans (LS.freezeE [64,68] (H':=[.box b 43 [.ptr b3 0,Z139 ob13 r4.groups cap13,Z103 ob14 r4.budgets cap14,L68 r4.ms,Z64 ob16 r4.bs cap16,.map b5],Q64 ob16 cap16 r4.bs]) 1 [(19,L68 r4.ms)] R R ⟨⟨_,R,.here _ R⟩,trivial⟩ (by exact ⟨.box _ _ _ _ ⟨.same _,.same _,.same _,.here _ R,.same _,.same _,trivial⟩,.same _,trivial⟩)) (LS.freezeE [64,68] (H':=[.box b 43 [.ptr b3 0,Z139 ob13 r4.groups cap13,Z103 ob14 r4.budgets cap14,L68 r4.ms,L64 r4.bs,.map b5]]) 1 [(23,L64 r4.bs)] R R ⟨⟨_,R,.here _ R⟩,trivial⟩ (by exact ⟨.box _ _ _ _ ⟨.same _,.same _,.same _,.same _,.here _ R,.same _,trivial⟩,trivial⟩))) [.same,.same] R fn64 R (K140 r4.ms r4.bs r5 h5) fun _ _ h8=> ?_
  obtain ⟨ob17,cap17,ob18,cap18,rfl,rfl⟩:=h8
  refine ⟨by simp [noT,noTs],by simp [noH,noTs_map no201_64_68,noTs_map no64_64_68],?_⟩
  refine A6 tbk [10,11,12,13,14] [] (by kernel_rfl) R R R<|Am 15 (by kernel_rfl)<|Ao R R R<|Al (i:=2) R R R ld40 R R R<|A5 (by kernel_rfl)<|?_
  obtain rfl:=Option.some.inj hm
  exact ⟨.inr R,_,.nil,[2,5,6,3,0,7,8,9,10,11,12],_,R,ob13,cap13,ob14,cap14,ob15,cap15,ob17,cap17,b5,ob7,cap7,ob8,cap8,bs3,R,R⟩
 ·refine Ao R R R<|Cb (B6 (i:=0) R R ld40 R)<|Am 4 (by kernel_rfl)<|Ao R R R<|Cb (B6 (i:=0) R R ld39 R)<|Am 9 (by kernel_rfl)<|Bd hm fun r6 h9 hm=>Ao R R R<|D5 [64,68] (LS.trans (LS.freezeE [64,68] (H':=[.box b 43 [.ptr b3 0,Z139 ob13 r4.groups cap13,Z103 ob14 r4.budgets cap14,L68 r4.ms,Z64 ob16 r4.bs cap16,.map b5],Q64 ob16 cap16 r4.bs]) 1 [(19,L68 r4.ms)] R R ⟨⟨_,R,.here _ R⟩,trivial⟩ (by exact ⟨.box _ _ _ _ ⟨.same _,.same _,.same _,.here _ R,.same _,.same _,trivial⟩,.same _,trivial⟩)) (LS.freezeE [64,68] (H':=[.box b 43 [.ptr b3 0,Z139 ob13 r4.groups cap13,Z103 ob14 r4.budgets cap14,L68 r4.ms,L64 r4.bs,.map b5]]) 1 [(23,L64 r4.bs)] R R ⟨⟨_,R,.here _ R⟩,trivial⟩ (by exact ⟨.box _ _ _ _ ⟨.same _,.same _,.same _,.same _,.here _ R,.same _,trivial⟩,trivial⟩))) [.same,.same] R fn64 R (K140 r4.ms r4.bs r6 h9) fun _ _ h12=> ?_
  obtain ⟨ob19,cap19,ob20,cap20,rfl,rfl⟩:=h12
  refine ⟨by simp [noT,noTs],by simp [noH,noTs_map no201_64_68,noTs_map no64_64_68],?_⟩
  refine A6 tbk [10,11,12,13,14] [] (by kernel_rfl) R R R<|Am 15 (by kernel_rfl)<|Ao R R R<|Al (i:=2) R R R ld40 R R R<|A5 (by kernel_rfl)<|?_
  obtain rfl:=Option.some.inj hm
  exact ⟨.inr R,_,.nil,[2,5,6,3,0,7,8,9,10,11,12],_,R,ob13,cap13,ob14,cap14,ob15,cap15,ob19,cap19,b5,ob7,cap7,ob8,cap8,bs3,R,R⟩

/-! (*trireme/world.World).Bounds -/
def world_World_Bounds_x.l1 (w : T_world_World) : Nat → (List T_api_Bound) → Int → Option (List T_api_Bound)
 | 0, _, _ => none
 | n + 1, l2, v2 =>
  if (decide (v2 < (w.bs.length : Int))) = true then
   (V.gl w.bs v2).bind fun x =>
   (world_pod x.Pod).bind fun r2 =>
   (V.ap 288 l2 [(⟨r2, x.On⟩ : T_api_Bound)]).bind fun l5 =>
   world_World_Bounds_x.l1 w n l5 (i64.wrap (v2 + 1))
  else
   some l2
def world_World_Bounds_x (w : T_world_World) (c : T_cloud_Cloud) : Option (List T_api_Bound) :=
 (world_World_there_x w c).bind fun r =>
 (world_World_Bounds_x.l1 w FU ([] : List T_api_Bound) (0 : Int)).bind fun l32 =>
 some l32
theorem K142 (A0 A1 : Nat) (w : T_world_World) (c : T_cloud_Cloud) (b : Nat) (ob : Option Nat) (cap : Nat) (ob2 : Option Nat) (cap2 : Nat) (ob3 : Option Nat) (cap3 : Nat) (ob4 : Option Nat) (cap4 : Nat) (b2 : Nat) (b3 : Nat) (ob5 : Option Nat) (cap5 : Nat) (ob6 : Option Nat) (cap6 : Nat) : VS2 Tryz.prog 20 (world_World_Bounds_x w c) [.ptr b 0] [.box b 43 [.ptr b3 0, Z139 ob w.groups cap, Z103 ob2 w.budgets cap2, Z68 ob3 w.ms cap3, Z64 ob4 w.bs cap4, .map b2], Q139 ob cap w.groups, Q103 ob2 cap2 w.budgets, Q68 ob3 cap3 w.ms, Q64 ob4 cap4 w.bs, .map b2 (List.map (pf VV.str (VV.int .i64)) w.held), .box b3 149 [Z140 A0 A1 ob5 c.pools cap5, Z152 A0 A1 ob6 c.insts cap6, Iw c.delay, Iw c.now, Iw c.calls], Q140 A0 A1 ob5 cap5 c.pools, Q152 A0 A1 ob6 cap6 c.insts] (fun r ob0 cap0=>Z64 ob0 r cap0) (fun r ob0 cap0=>[Q64 ob0 cap0 r, .box b 43 [.ptr b3 0, Z139 ob w.groups cap, Z103 ob2 w.budgets cap2, Z68 ob3 w.ms cap3, Z64 ob4 w.bs cap4, .map b2], Q139 ob cap w.groups, Q103 ob2 cap2 w.budgets, Q68 ob3 cap3 w.ms, Q64 ob4 cap4 w.bs, .map b2 (List.map (pf VV.str (VV.int .i64)) w.held), .box b3 149 [Z140 A0 A1 ob5 c.pools cap5, Z152 A0 A1 ob6 c.insts cap6, Iw c.delay, Iw c.now, Iw c.calls], Q140 A0 A1 ob5 cap5 c.pools, Q152 A0 A1 ob6 cap6 c.insts]) := by
 refine Cz [.tmp 2] Tryz.func20 R R R fun r hm=>?_
 unfold world_World_Bounds_x at hm
 refine Af tbk [] R R<|Ag<|Ae<|Aa R R (Ai R)<|Bd hm fun r h1 hm=>Ad R R<|Aw 9 R fn60 R (K63 A0 A1 w c b ob cap ob2 cap2 ob3 cap3 ob4 cap4 b2 b3 ob5 cap5 ob6 cap6 r h1) fun _ _ h14=> ?_
 obtain ⟨rfl,rfl⟩:=h14
 refine Aa R R (Ci R)<|Ac<|Bp R (congrArg not (Option.some.inj (show some true = some r from h1)).symm)<|Ak<|Af tbk [] R R<|Ag<|Ae<|Ab tbk [0] 4 R R<|Aa R R (Cx T_api_Bound.vv R Bz)<|Aa R R (Ai R)<|Ac<|Cf hm (fun l32 (gg:Option Nat × Nat)=>[(3,Z64 gg.1 l32 gg.2)]) (fun l32 (gg:Option Nat × Nat)=>[Q64 gg.1 gg.2 l32,.box b 43 [.ptr b3 0,Z139 ob w.groups cap,Z103 ob2 w.budgets cap2,Z68 ob3 w.ms cap3,Z64 ob4 w.bs cap4,.map b2],Q139 ob cap w.groups,Q103 ob2 cap2 w.budgets,Q68 ob3 cap3 w.ms,Q64 ob4 cap4 w.bs,.map b2 (List.map (pf VV.str (VV.int .i64)) w.held),.box b3 149 [Z140 A0 A1 ob5 c.pools cap5,Z152 A0 A1 ob6 c.insts cap6,Iw c.delay,Iw c.now,Iw c.calls],Q140 A0 A1 ob5 cap5 c.pools,Q152 A0 A1 ob6 cap6 c.insts]) (fun o hm=>?_) fun l32=>Pq fun ob9 cap9 hm=> ?_
 ·refine B8 (fun zn (zs:List T_api_Bound × Int)=>world_World_Bounds_x.l1 w zn zs.1 zs.2) (fun zs (zg:Option Nat × Nat)=>[(3,Z64 zg.1 zs.1 zg.2),(12,Z64 ob4 w.bs cap4),(13,Iw (w.bs.length : Int)),(14,Iw zs.2)]) (fun zs (zg:Option Nat × Nat)=>[Q64 zg.1 zg.2 zs.1,.box b 43 [.ptr b3 0,Z139 ob w.groups cap,Z103 ob2 w.budgets cap2,Z68 ob3 w.ms cap3,Z64 ob4 w.bs cap4,.map b2],Q139 ob cap w.groups,Q103 ob2 cap2 w.budgets,Q68 ob3 cap3 w.ms,Q64 ob4 cap4 w.bs,.map b2 (List.map (pf VV.str (VV.int .i64)) w.held),.box b3 149 [Z140 A0 A1 ob5 c.pools cap5,Z152 A0 A1 ob6 c.insts cap6,Iw c.delay,Iw c.now,Iw c.calls],Q140 A0 A1 ob5 cap5 c.pools,Q152 A0 A1 ob6 cap6 c.insts]) (([] : List T_api_Bound),(0 : Int)) (none,0) (fun _=>R) hm (B5 (Bk 64) (Ah [0,1,2,3,4,5,6,7,8,9] (by kernel_rfl) (by kernel_rfl))) fun n=>Pq fun l2 v2=>Pq fun ob8 cap8 hm=> ?_
  rw [world_World_Bounds_x.l1] at hm
  refine Af tbk [] R R<|Ag<|An hm R (fun h6 hm=>?_) fun h6 hm=> ?_
  ·refine Ak<|Ag<|Au<|Ae<|Bd hm fun x h7 hm=>Cq 5 R (gl_pos T_api_Bound.vv h7) fun b4 h8=> ?_
   subst h8
   exact Aa R R (Cs T_api_Bound.vv R R el40 h7)<|Aa R R (Ck (i:=5) (y:=T_api_Bound.vv x) R R R (gl_map _ (gl_some h7).2) ld64 R)<|Ad R R<|Aq z64 fun b5=>Ad R R<|Al (i:=0) R R R ld64 R R R<|Ac<|Bw (Bg [1,0,2,3,4,5,6,7,8,9,10] R)<|Bn 1 mixed<|A6 tbk [0,1,2,4,5] [0,0] (by kernel_rfl) R R R<|Am 3 (by kernel_rfl)<|Ao R R R<|Ax hm 0 R fn67 R (K74 _) fun r2 hm=>Ba 6 R R R (by kernel_rfl) (Bo pl64 R R)<|Am 7 (by kernel_rfl)<|Ao R R R<|Bc ap40 R R R R R fun b6=>Am 8 (by kernel_rfl)<|Bd hm fun l5 h12 hm=>Ao R R R<|Bv 1 T_api_Bound.vv (l:=l2) (l2:=[(⟨r2,x.On⟩ : T_api_Bound)]) ap40 R R (sT_row 0 T_api_Bound.vv el40 R R) h12 fun ob10 cap10=>Ba 9 R R R (by kernel_rfl) (Aj R)<|A5 (by kernel_rfl)<|A9 tbk [] R R<|Ap (l5,(IntKind.i64.wrap (v2 + (1 : Int)))) (ob10,cap10) hm (Ah [1,3,4,5,6,7,8,9,10,11] (by kernel_rfl) (by kernel_rfl))
  exact A4<|As (ob8,cap8) hm (Ah [0,1,2,3,4,5,6,7,8,9] (by kernel_rfl) (by kernel_rfl))
 exact Af tbk [] R R<|Rg2 hm R [0,1,2,3,4,5,6,7,8,9] ob9 cap9 (.cons (.tmp _ _ R) .nil) R R

/-! (*trireme/cloud.Cloud).pool -/
def cloud_Cloud_pool.l1 (c : T_cloud_Cloud) (name : ByteArray) (pools : List T_cloud_pool) : Nat → Int → Option (Out Nat Unit)
 | 0, _ => none
 | n + 1, v2 =>
  if (decide (v2 < (c.pools.length : Int))) = true then
   (V.gl c.pools v2).bind fun x =>
   (V.pg pools x).bind fun x2 =>
   if (V.seq x2.Group.Name name) = true then
    some (Out.ret x)
   else
    cloud_Cloud_pool.l1 c name pools n (i64.wrap (v2 + 1))
  else
   some (Out.go ())
def cloud_Cloud_pool (c : T_cloud_Cloud) (name : ByteArray) (pools : List T_cloud_pool) : Option Nat :=
 (cloud_Cloud_pool.l1 c name pools FU (0 : Int)).bind fun o =>
 o.on fun j =>
 some 0
theorem K143 (A0 A1 : Nat) (c : T_cloud_Cloud) (name : ByteArray) (pools : List T_cloud_pool) (b : Nat) (ob : Option Nat) (cap : Nat) (ob2 : Option Nat) (cap2 : Nat) (bs : List Nat) : VS Tryz.prog 148 (cloud_Cloud_pool c name pools) [.ptr b 0, .str name] [.box b 149 [Z140 A0 A1 ob c.pools cap, Z152 A0 A1 ob2 c.insts cap2, Iw c.delay, Iw c.now, Iw c.calls], Q140 A0 A1 ob cap c.pools, Q152 A0 A1 ob2 cap2 c.insts, .ar A0 144 bs (List.map T_cloud_pool.cells pools)] (fun r=>V.Pp A0 r) (fun r=>[.box b 149 [Z140 A0 A1 ob c.pools cap, Z152 A0 A1 ob2 c.insts cap2, Iw c.delay, Iw c.now, Iw c.calls], Q140 A0 A1 ob cap c.pools, Q152 A0 A1 ob2 cap2 c.insts, .ar A0 144 bs (List.map T_cloud_pool.cells pools)]) := by
 refine Az [.tmp 4] Tryz.func148 R R R fun r hm=>?_
 unfold cloud_Cloud_pool at hm
 refine Ae<|Aa R R (Dc A0)<|Ac<|Ag<|Ae<|Ab tbk [0] 4 R R<|Aa R R (Cx (V.Pp A0) R Tryz.underlying146)<|Aa R R (Ai R)<|Ac<|B1 hm (fun _ (_:Unit)=>[]) (fun _ (_:Unit)=>[.box b 149 [Z140 A0 A1 ob c.pools cap,Z152 A0 A1 ob2 c.insts cap2,Iw c.delay,Iw c.now,Iw c.calls],Q140 A0 A1 ob cap c.pools,Q152 A0 A1 ob2 cap2 c.insts,.ar A0 144 bs (List.map T_cloud_pool.cells pools)]) (fun o hm h2=>?_) fun j _ hm=> ?_
 ·refine B8 (fun zn (zs:Int)=>cloud_Cloud_pool.l1 c name pools zn zs) (fun zs (_:Unit)=>[(1,.str name),(10,Z140 A0 A1 ob c.pools cap),(11,Iw (c.pools.length : Int)),(12,Iw zs)]) (fun _ (_:Unit)=>[.box b 149 [Z140 A0 A1 ob c.pools cap,Z152 A0 A1 ob2 c.insts cap2,Iw c.delay,Iw c.now,Iw c.calls],Q140 A0 A1 ob cap c.pools,Q152 A0 A1 ob2 cap2 c.insts,.ar A0 144 bs (List.map T_cloud_pool.cells pools)]) _ () (fun _=>R) hm (Ah [0,1,2,3] R R) fun n v2 _ hm=> ?_
  rw [cloud_Cloud_pool.l1] at hm
  refine Af tbk [] R R<|Ag<|An hm R (fun h3 hm=>?_) fun h3 hm=> ?_
  ·refine Ak<|Ag<|Au<|Ae<|Bd hm fun x h4 hm=>Cq 1 R (gl_pos (V.Pp A0) h4) fun b2 h5=> ?_
   subst h5
   exact Aa R R (Cs (V.Pp A0) R R el146 h4)<|Aa R R (Ck (i:=1) (y:=(V.Pp A0) x) R R R (gl_map _ (gl_some h4).2) ld140 R)<|Aa R R (Aj R)<|Ac<|Ae<|Aa R R (Ai R)<|Bd hm fun x2 h6 hm=>Aa R R (Bt R h6)<|Aa R R (B0 R h6 fa144_0)<|Aa R R (B0 R h6 fa139_0)<|Aa R R (Ce 3 (f:=T_cloud_pool.cells) (y:=x2) R R h6 ld9 R)<|Ab tbk [] 2 R R<|Ac<|An hm R (fun h7 hm=>Af tbk [] R R<|have hm:=Lr hm h2;Rt1 hm R [0,1,2,3] R R R) fun h7 hm=>Ak<|A9 tbk [] R R<|Ap _ () hm (Ah [0,1,2,3] R R)
  exact A4<|Ar () hm (Ah [0,1,2,3] R R)
 exact Ae<|Aa R R (Dc A0)<|Ac<|Rt1 hm R [0,1,2,3] R R R

/-! (*trireme/cloud.Cloud).find -/
def cloud_Cloud_find (c : T_cloud_Cloud) (name : ByteArray) (n : Int) (pools : List T_cloud_pool) : Option (Nat × Int) :=
 (cloud_Cloud_there c).bind fun r =>
 if (!r) = true then
  some (0, 23)
 else
  (cloud_Cloud_pool c name pools).bind fun r2 =>
  if (r2 == 0) = true then
   some (0, 16)
  else
   if (decide (n < 1)) = true then
    some (0, 1)
   else
    some (r2, 0)
theorem K144 (A0 A1 : Nat) (c : T_cloud_Cloud) (name : ByteArray) (n : Int) (pools : List T_cloud_pool) (b : Nat) (ob : Option Nat) (cap : Nat) (ob2 : Option Nat) (cap2 : Nat) (bs : List Nat) : VS Tryz.prog 81 (cloud_Cloud_find c name n pools) [.ptr b 0, .str name, Iw n] [.box b 149 [Z140 A0 A1 ob c.pools cap, Z152 A0 A1 ob2 c.insts cap2, Iw c.delay, Iw c.now, Iw c.calls], Q140 A0 A1 ob cap c.pools, Q152 A0 A1 ob2 cap2 c.insts, .ar A0 144 bs (List.map T_cloud_pool.cells pools)] (fun r=>.tup [V.Pp A0 r.1, Iw r.2]) (fun r=>[.box b 149 [Z140 A0 A1 ob c.pools cap, Z152 A0 A1 ob2 c.insts cap2, Iw c.delay, Iw c.now, Iw c.calls], Q140 A0 A1 ob cap c.pools, Q152 A0 A1 ob2 cap2 c.insts, .ar A0 144 bs (List.map T_cloud_pool.cells pools)]) := by
 refine Az [.tmp 6,.tmp 7] Tryz.func81 R R R fun r hm=>?_
 unfold cloud_Cloud_find at hm
 exact Ae<|Aa R R (Dc A0)<|Aa R R (Aj R)<|Ac<|Ag<|Ae<|Aa R R (Ai R)<|Ad R R<|Ax hm 3 R fn83 R (K34 A0 A1 _ _ _ _ _ _) fun r hm=>Aa R R (Ci R)<|Ac<|An hm R (fun h2 hm=>Ae<|Aa R R (Dc A0)<|Aa R R (Aj R)<|Ac<|Rt2 hm R [0,1,2,3] R R R R) fun h2 hm=>Ak<|Ae<|Ab tbk [] 2 R R<|Ad R R<|Ax hm 4 R fn148 R (K143 A0 A1 _ _ _ _ _ _ _ _ _) fun r2 hm=>Aa R R (Aj R)<|Ac<|Ag<|Au<|Ae<|Aa R R (Ai R)<|Aa R R (Dk Tryz.underlying140 R R)<|Aa R R (Aj R)<|Ac<|An hm R (fun h4 hm=>Ae<|Aa R R (Dc A0)<|Aa R R (Aj R)<|Ac<|Rt2 hm R [0,1,2,3] R R R R) fun h4 hm=>Af tbk [] R R<|An hm R (fun h5 hm=>Ae<|Aa R R (Dc A0)<|Aa R R (Aj R)<|Ac<|Rt2 hm R [0,1,2,3] R R R R) fun h5 hm=>Ak<|Af tbk [] R R<|Rt2 hm R [0,1,2,3] R R R R

/-! (*trireme/cloud.Cloud).Increase -/
def cloud_Cloud_Increase (c : T_cloud_Cloud) (name : ByteArray) (n : Int) (pools : List T_cloud_pool) (insts : List T_cloud_inst) : Option (Int × T_cloud_Cloud × List T_cloud_pool × List T_cloud_inst) :=
 (cloud_Cloud_find c name n pools).bind fun r =>
 if (r.2 != 0) = true then
  some (r.2, c, pools, insts)
 else
  (V.pg pools r.1).bind fun x =>
  (V.pg pools r.1).bind fun x2 =>
  if (decide (n > (i64.wrap (x.Group.Max - x2.target)))) = true then
   some (21, c, pools, insts)
  else
   (V.pg pools r.1).bind fun x3 =>
   if x3.broken = true then
    some (26, c, pools, insts)
   else
    (V.pg pools r.1).bind fun x4 =>
    (V.pg pools r.1).bind fun x5 =>
    (cloud_Cloud_more c r.1 n (I_cloud_state.c151 (⟨c.delay⟩ : T_cloud_creating)) (V.pst pools r.1 (⟨x5.Group, (i64.wrap (x4.target + n)), x5.last, x5.broken⟩ : T_cloud_pool)) insts).bind fun r2 =>
    some (0, (⟨r2.1.pools, r2.1.insts, r2.1.delay, r2.1.now, (i64.wrap (r2.1.calls + 1))⟩ : T_cloud_Cloud), r2.2.1, r2.2.2)
theorem K145 (A0 A1 : Nat) (c : T_cloud_Cloud) (name : ByteArray) (n : Int) (pools : List T_cloud_pool) (insts : List T_cloud_inst) (b : Nat) (ob : Option Nat) (cap : Nat) (ob2 : Option Nat) (cap2 : Nat) (bs : List Nat) (bs2 : List Nat) : ∀ r : Int × T_cloud_Cloud × List T_cloud_pool × List T_cloud_inst, cloud_Cloud_Increase c name n pools insts = some r → VC Tryz.prog 24 [.ptr b 0, .str name, Iw n] [.box b 149 [Z140 A0 A1 ob c.pools cap, Z152 A0 A1 ob2 c.insts cap2, Iw c.delay, Iw c.now, Iw c.calls], Q140 A0 A1 ob cap c.pools, Q152 A0 A1 ob2 cap2 c.insts, .ar A0 144 bs (List.map T_cloud_pool.cells pools), .ar A1 157 bs2 (List.map (T_cloud_inst.cells A0 A1) insts)] fun zx zH => ∃ (ob0_0 : Option Nat) (cap0_0 : Nat) (ob0_1 : Option Nat) (cap0_1 : Nat) (bs_1 : List Nat) (bs_2 : List Nat), zx = Iw r.1 ∧ zH = [.box b 149 [Z140 A0 A1 ob0_0 r.2.1.pools cap0_0, Z152 A0 A1 ob0_1 r.2.1.insts cap0_1, Iw r.2.1.delay, Iw r.2.1.now, Iw r.2.1.calls], Q140 A0 A1 ob0_0 cap0_0 r.2.1.pools, Q152 A0 A1 ob0_1 cap0_1 r.2.1.insts, .ar A0 144 bs_1 (List.map T_cloud_pool.cells r.2.2.1), .ar A1 157 bs_2 (List.map (T_cloud_inst.cells A0 A1) r.2.2.2)] := by
 refine Cw [.tmp 6] Tryz.func24 R R R fun r hm=>?_
 unfold cloud_Cloud_Increase at hm
 refine Af tbk [] R R<|Ae<|Ab tbk [] 3 R R<|Ad R R<|Ax hm 4 R fn81 R (K144 A0 A1 _ _ _ _ _ _ _ _ _ _) fun r hm=>Ab tbk [] 5 R R<|Ac<|Ag<|Au<|Af tbk [] R R<|An hm R (fun h2 hm=>?_) fun h2 hm=> ?_
 ·refine Af tbk [] R R<|?_
  obtain rfl:=Option.some.inj hm
  exact Bx ⟨.inl R,_,.cons (.tmp _ _ R) .nil,[0,1,2,3,4],_,R,ob,cap,ob2,cap2,bs,bs2,R,R⟩
 refine Ag<|Bn 0 mixed<|A6 tbk [0,1] [] (by kernel_rfl) R R R<|Bd hm fun x h3 hm=>Ba 2 R R R (by kernel_rfl) (Bt R h3)<|Ba 3 R R R (by kernel_rfl) (B0 R h3 fa144_0)<|Ba 4 R R R (by kernel_rfl) (B0 R h3 fa139_2)<|Ba 5 R R R (by kernel_rfl) (Ce 3 (f:=T_cloud_pool.cells) (y:=x) R R h3 ld3 R)<|Ba 6 R R R (by kernel_rfl) (Ai R)<|Bd hm fun x2 h4 hm=>Ba 7 R R R (by kernel_rfl) (Bt R h4)<|Ba 8 R R R (by kernel_rfl) (B0 R h4 fa144_1)<|Ba 9 R R R (by kernel_rfl) (Ce 3 (f:=T_cloud_pool.cells) (y:=x2) R R h4 ld3 R)<|A6 tbk [10,11,12] [] (by kernel_rfl) R R R<|A5 (by kernel_rfl)<|An hm R (fun h5 hm=>?_) fun h5 hm=> ?_
 ·refine Af tbk [] R R<|?_
  obtain rfl:=Option.some.inj hm
  exact Bx ⟨.inl R,_,.cons (.tmp _ _ R) .nil,[0,1,2,3,4],_,R,ob,cap,ob2,cap2,bs,bs2,R,R⟩
 refine Ae<|Aa R R (Ai R)<|Bd hm fun x3 h6 hm=>Aa R R (Bt R h6)<|Aa R R (B0 R h6 fa144_3)<|Aa R R (Ce 3 (f:=T_cloud_pool.cells) (y:=x3) R R h6 ld4 R)<|Aa R R (Aj R)<|Ac<|An hm R (fun h7 hm=>?_) fun h7 hm=> ?_
 ·refine Af tbk [] R R<|?_
  obtain rfl:=Option.some.inj hm
  exact Bx ⟨.inl R,_,.cons (.tmp _ _ R) .nil,[0,1,2,3,4],_,R,ob,cap,ob2,cap2,bs,bs2,R,R⟩
 refine Ak<|Ae<|Aa R R (Ai R)<|Bd hm fun x4 h8 hm=>Aa R R (Bt R h8)<|Aa R R (B0 R h8 fa144_1)<|Aa R R (Ce 3 (f:=T_cloud_pool.cells) (y:=x4) R R h8 ld3 R)<|Ab tbk [] 2 R R<|Bd hm fun x5 h9 hm=>Aa R R (Bt R h9)<|Aa R R (B0 R h9 fa144_1)<|Ad R R<|Dh 3 (f:=T_cloud_pool.cells) (u:=x5) (u':=(⟨x5.Group,(IntKind.i64.wrap (x4.target + n)),x5.last,x5.broken⟩ : T_cloud_pool)) R R R h9 ld3 R R R R<|Ac<|Ae<|Ab tbk [0] 7 R R<|Aa R R (Bo pl151 R R)<|Aa R R (Ds nif151 R)<|Bd hm fun r2 h10 hm=>Ad R R<|Aw 5 R fn82 R (K29 A0 A1 c r.1 n (I_cloud_state.c151 (⟨c.delay⟩ : T_cloud_creating)) (V.pst pools r.1 (⟨x5.Group,(IntKind.i64.wrap (x4.target + n)),x5.last,x5.broken⟩ : T_cloud_pool)) insts b ob cap ob2 cap2 bs bs2 r2 h10) fun _ _ h11=> ?_
 obtain ⟨ob3,cap3,ob4,cap4,bs3,bs4,rfl,rfl⟩:=h11
 refine Ac<|Ae<|Ab tbk [0] 7 R R<|Ad R R<|Al (i:=0) R R R ld3 R R R<|Ac<|Af tbk [] R R<|?_
 obtain rfl:=Option.some.inj hm
 exact Bx ⟨.inl R,_,.cons (.tmp _ _ R) .nil,[0,1,2,3,4],_,R,ob3,cap3,ob4,cap4,bs3,bs4,R,R⟩

/-! (*trireme/world.World).Missing -/
def world_World_Missing_x.l1 (w : T_world_World) : List T_api_Inst → Nat → (List T_api_Inst) → Option (List T_api_Inst)
 | [], k, l2 => some l2
 | x :: l4, k, l2 =>
  (if (x.State != 3) = true then (yard_Find w.ms x.Name).bind fun r3 =>
  some (decide (r3 < 0)) else some false).bind fun c2 =>
  if c2 = true then
   (V.ap 56 l2 [x]).bind fun l5 =>
   world_World_Missing_x.l1 w l4 (k + 1) l5
  else
   world_World_Missing_x.l1 w l4 (k + 1) l2
def world_World_Missing_x (w : T_world_World) (c : T_cloud_Cloud) (pools : List T_cloud_pool) (insts : List T_cloud_inst) : Option (List T_api_Inst) :=
 (world_World_there_x w c).bind fun r =>
 (cloud_Cloud_Insts c pools insts).bind fun r2 =>
 (world_World_Missing_x.l1 w r2 0 ([] : List T_api_Inst)).bind fun l32 =>
 some l32
theorem K146 (A0 A1 : Nat) (w : T_world_World) (c : T_cloud_Cloud) (pools : List T_cloud_pool) (insts : List T_cloud_inst) (b : Nat) (ob : Option Nat) (cap : Nat) (ob2 : Option Nat) (cap2 : Nat) (ob3 : Option Nat) (cap3 : Nat) (ob4 : Option Nat) (cap4 : Nat) (b2 : Nat) (b3 : Nat) (ob5 : Option Nat) (cap5 : Nat) (ob6 : Option Nat) (cap6 : Nat) (bs : List Nat) (bs2 : List Nat) : VS2 Tryz.prog 22 (world_World_Missing_x w c pools insts) [.ptr b 0] [.box b 43 [.ptr b3 0, Z139 ob w.groups cap, Z103 ob2 w.budgets cap2, Z68 ob3 w.ms cap3, Z64 ob4 w.bs cap4, .map b2], Q139 ob cap w.groups, Q103 ob2 cap2 w.budgets, Q68 ob3 cap3 w.ms, Q64 ob4 cap4 w.bs, .map b2 (List.map (pf VV.str (VV.int .i64)) w.held), .box b3 149 [Z140 A0 A1 ob5 c.pools cap5, Z152 A0 A1 ob6 c.insts cap6, Iw c.delay, Iw c.now, Iw c.calls], Q140 A0 A1 ob5 cap5 c.pools, Q152 A0 A1 ob6 cap6 c.insts, .ar A0 144 bs (List.map T_cloud_pool.cells pools), .ar A1 157 bs2 (List.map (T_cloud_inst.cells A0 A1) insts)] (fun r ob0 cap0=>Z70 ob0 r cap0) (fun r ob0 cap0=>[Q70 ob0 cap0 r, .box b 43 [.ptr b3 0, Z139 ob w.groups cap, Z103 ob2 w.budgets cap2, Z68 ob3 w.ms cap3, Z64 ob4 w.bs cap4, .map b2], Q139 ob cap w.groups, Q103 ob2 cap2 w.budgets, Q68 ob3 cap3 w.ms, Q64 ob4 cap4 w.bs, .map b2 (List.map (pf VV.str (VV.int .i64)) w.held), .box b3 149 [Z140 A0 A1 ob5 c.pools cap5, Z152 A0 A1 ob6 c.insts cap6, Iw c.delay, Iw c.now, Iw c.calls], Q140 A0 A1 ob5 cap5 c.pools, Q152 A0 A1 ob6 cap6 c.insts, .ar A0 144 bs (List.map T_cloud_pool.cells pools), .ar A1 157 bs2 (List.map (T_cloud_inst.cells A0 A1) insts)]) := by
 refine Cz [.tmp 2] Tryz.func22 R R R fun r hm=>?_
 unfold world_World_Missing_x at hm
 refine Af tbk [] R R<|Ag<|Ae<|Aa R R (Ai R)<|Bd hm fun r h1 hm=>Ad R R<|Aw 9 R fn60 R (K63 A0 A1 w c b ob cap ob2 cap2 ob3 cap3 ob4 cap4 b2 b3 ob5 cap5 ob6 cap6 r h1) fun _ _ h18=> ?_
 obtain ⟨rfl,rfl⟩:=h18
 refine Aa R R (Ci R)<|Ac<|Bp R (congrArg not (Option.some.inj (show some true = some r from h1)).symm)<|Ak<|Af tbk [] R R<|Ag<|Ae<|Ab tbk [0] 4 R R<|Bb (Bg [6,7,8,9,10,0,1,2,3,4,5] R)<|Ad R R<|Cp hm 5 R fn27 R (K43 A0 A1 _ _ _ _ _ _ _ _ _ _) fun r2 ob7 cap7 hm=>Bb (A7 0 [(13,L70 r2)] R ⟨⟨_,R,.here _ R⟩,trivial⟩ (FzH.refl _))<|Aa R R (Ay T_api_Inst.vv R Cu)<|Aa R R (Ai R)<|Ac<|B7 13 R fun h8=>Cf hm (fun l32 (gg:Option Nat × Nat)=>[(3,Z70 gg.1 l32 gg.2)]) (fun l32 (gg:Option Nat × Nat)=>[Q70 gg.1 gg.2 l32,.box b3 149 [Z140 A0 A1 ob5 c.pools cap5,Z152 A0 A1 ob6 c.insts cap6,Iw c.delay,Iw c.now,Iw c.calls],Q140 A0 A1 ob5 cap5 c.pools,Q152 A0 A1 ob6 cap6 c.insts,.ar A0 144 bs (List.map T_cloud_pool.cells pools),.ar A1 157 bs2 (List.map (T_cloud_inst.cells A0 A1) insts),.box b 43 [.ptr b3 0,Z139 ob w.groups cap,Z103 ob2 w.budgets cap2,Z68 ob3 w.ms cap3,Z64 ob4 w.bs cap4,.map b2],Q139 ob cap w.groups,Q103 ob2 cap2 w.budgets,Q68 ob3 cap3 w.ms,Q64 ob4 cap4 w.bs,.map b2 (List.map (pf VV.str (VV.int .i64)) w.held)]) (fun o hm=>?_) fun l32=>Pq fun ob10 cap10 hm=> ?_
 ·refine Cj (r2) (fun zl zk (zs:List T_api_Inst)=>world_World_Missing_x.l1 w zl zk zs) (fun k zs (zg:Option Nat × Nat)=>[(0,.ptr b 0),(3,Z70 zg.1 zs zg.2),(13,L70 r2),(14,Iw (r2.length : Int)),(15,Iw (k : Int))]) (fun _ zs (zg:Option Nat × Nat)=>[Q70 zg.1 zg.2 zs,.box b3 149 [Z140 A0 A1 ob5 c.pools cap5,Z152 A0 A1 ob6 c.insts cap6,Iw c.delay,Iw c.now,Iw c.calls],Q140 A0 A1 ob5 cap5 c.pools,Q152 A0 A1 ob6 cap6 c.insts,.ar A0 144 bs (List.map T_cloud_pool.cells pools),.ar A1 157 bs2 (List.map (T_cloud_inst.cells A0 A1) insts),.box b 43 [.ptr b3 0,Z139 ob w.groups cap,Z103 ob2 w.budgets cap2,Z68 ob3 w.ms cap3,Z64 ob4 w.bs cap4,.map b2],Q139 ob cap w.groups,Q103 ob2 cap2 w.budgets,Q68 ob3 cap3 w.ms,Q64 ob4 cap4 w.bs,.map b2 (List.map (pf VV.str (VV.int .i64)) w.held)]) ([] : List T_api_Inst) (none,0) hm (B5 (Bk 70) (Ah [0,1,2,3,4,5,6,7,8,9,10,11] (by kernel_rfl) (by kernel_rfl))) (fun k l2=>Pq fun ob9 cap9 hk hm=>?_) fun k x l4 l2=>Pq fun ob9 cap9 h9 hm=> ?_
  ·rw [world_World_Missing_x.l1] at hm
   exact Af tbk [] R R<|Ag<|Bp R (k_end hk)<|A4<|As (ob9,cap9) hm (Ah [0,1,2,3,4,5,6,7,8,9,10,11] (by kernel_rfl) (by kernel_rfl))
  rw [world_World_Missing_x.l1] at hm
  exact Af tbk [] R R<|Ag<|Bm R (k_lt h9)<|Ak<|Ag<|Au<|Ae<|Aa R R (Cc T_api_Inst.vv R R el54 h9)<|Aa R R (Bs R ld70 R)<|Ad R R<|Aq z70 fun b4=>Ad R R<|Al (i:=0) R R R ld70 R R R<|Ac<|Ag<|Bw (Bg [10,0,1,2,3,4,5,6,7,8,9,11,12] R)<|Bn 1 mixed<|A6 tbk [0,1,2,3] [0] (by kernel_rfl) R R R<|Df hm [12,11,10,9,8,7,6,5,4,3,2,1,0] 31 22 R (fun _ K' h11 J hm=>A6 tbk [4,5,6,7,8,9] [7,0] (by kernel_rfl) R R R<|Am 10 (by kernel_rfl)<|D2 R R R R R R<|Dj hm (A7 0 [(26,L68 w.ms)] R ⟨⟨_,R,.here _ R⟩,trivial⟩ (FzH.refl _)) [.same,.same] R fn72 R (K46 _ _) (fun _=>R) (fun _=>R) fun r3 hm=>A6 tbk [11,12] [] (by kernel_rfl) R R R<|J 8 R R (Bj hm)) (fun _ K' h11 J hm=>A6 tbk [4,5,6,7,8,9,10,11,12] [] (by kernel_rfl) R R R<|J 8 R R (Bj hm)) fun c2 hm=>A5 (by kernel_rfl)<|An hm R (fun h14 hm=>B2<|Ab tbk [1] 2 R R<|Ad R R<|Bc ap54 R R R R R fun b5=>Bd hm fun l5 h16 hm=>Ad R R<|Bv 3 T_api_Inst.vv (l:=l2) (l2:=[x]) ap54 R R (sT_row 0 T_api_Inst.vv el54 R R) h16 fun ob11 cap11=>Aa R R (Aj R)<|Ac<|A9 tbk [] R R<|Ap l5 (ob11,cap11) hm (Be [3,4,5,6,7,8,9,10,11,1,12,13] (by kernel_rfl) ⟨R,R,R,R,congrArg some (k_next h9 h8),trivial⟩)) fun h14 hm=>Ak<|A9 tbk [] R R<|Ap l2 (ob9,cap9) hm (Be [2,3,4,5,6,7,8,9,10,0,11,12] (by kernel_rfl) ⟨R,R,R,R,congrArg some (k_next h9 h8),trivial⟩)
 exact Af tbk [] R R<|Rg2 hm R [0,6,7,8,9,10,11,1,2,3,4,5] ob10 cap10 (.cons (.tmp _ _ R) .nil) R R

/-! (*trireme/world.World).Machines -/
def world_World_Machines_x.l1 (w : T_world_World) : Nat → (List T_api_Machine) → Int → Option (List T_api_Machine)
 | 0, _, _ => none
 | n + 1, l2, v2 =>
  if (decide (v2 < (w.ms.length : Int))) = true then
   (V.gl w.ms v2).bind fun x =>
   (world_machine x).bind fun r2 =>
   (V.ap 128 l2 [r2]).bind fun l5 =>
   world_World_Machines_x.l1 w n l5 (i64.wrap (v2 + 1))
  else
   some l2
def world_World_Machines_x (w : T_world_World) (c : T_cloud_Cloud) : Option (List T_api_Machine) :=
 (world_World_there_x w c).bind fun r =>
 (world_World_Machines_x.l1 w FU ([] : List T_api_Machine) (0 : Int)).bind fun l32 =>
 some l32
theorem K147 (A0 A1 : Nat) (w : T_world_World) (c : T_cloud_Cloud) (b : Nat) (ob : Option Nat) (cap : Nat) (ob2 : Option Nat) (cap2 : Nat) (ob3 : Option Nat) (cap3 : Nat) (ob4 : Option Nat) (cap4 : Nat) (b2 : Nat) (b3 : Nat) (ob5 : Option Nat) (cap5 : Nat) (ob6 : Option Nat) (cap6 : Nat) : VS2 Tryz.prog 19 (world_World_Machines_x w c) [.ptr b 0] [.box b 43 [.ptr b3 0, Z139 ob w.groups cap, Z103 ob2 w.budgets cap2, Z68 ob3 w.ms cap3, Z64 ob4 w.bs cap4, .map b2], Q139 ob cap w.groups, Q103 ob2 cap2 w.budgets, Q68 ob3 cap3 w.ms, Q64 ob4 cap4 w.bs, .map b2 (List.map (pf VV.str (VV.int .i64)) w.held), .box b3 149 [Z140 A0 A1 ob5 c.pools cap5, Z152 A0 A1 ob6 c.insts cap6, Iw c.delay, Iw c.now, Iw c.calls], Q140 A0 A1 ob5 cap5 c.pools, Q152 A0 A1 ob6 cap6 c.insts] (fun r ob0 cap0=>Z68 ob0 r cap0) (fun r ob0 cap0=>[Q68 ob0 cap0 r, .box b 43 [.ptr b3 0, Z139 ob w.groups cap, Z103 ob2 w.budgets cap2, Z68 ob3 w.ms cap3, Z64 ob4 w.bs cap4, .map b2], Q139 ob cap w.groups, Q103 ob2 cap2 w.budgets, Q68 ob3 cap3 w.ms, Q64 ob4 cap4 w.bs, .map b2 (List.map (pf VV.str (VV.int .i64)) w.held), .box b3 149 [Z140 A0 A1 ob5 c.pools cap5, Z152 A0 A1 ob6 c.insts cap6, Iw c.delay, Iw c.now, Iw c.calls], Q140 A0 A1 ob5 cap5 c.pools, Q152 A0 A1 ob6 cap6 c.insts]) := by
 refine Cz [.tmp 2] Tryz.func19 R R R fun r hm=>?_
 unfold world_World_Machines_x at hm
 refine Af tbk [] R R<|Ag<|Ae<|Aa R R (Ai R)<|Bd hm fun r h1 hm=>Ad R R<|Aw 9 R fn60 R (K63 A0 A1 w c b ob cap ob2 cap2 ob3 cap3 ob4 cap4 b2 b3 ob5 cap5 ob6 cap6 r h1) fun _ _ h14=> ?_
 obtain ⟨rfl,rfl⟩:=h14
 refine Aa R R (Ci R)<|Ac<|Bp R (congrArg not (Option.some.inj (show some true = some r from h1)).symm)<|Ak<|Af tbk [] R R<|Ag<|Ae<|Ab tbk [0] 4 R R<|Aa R R (Cx T_api_Machine.vv R Ch)<|Aa R R (Ai R)<|Ac<|Cf hm (fun l32 (gg:Option Nat × Nat)=>[(3,Z68 gg.1 l32 gg.2)]) (fun l32 (gg:Option Nat × Nat)=>[Q68 gg.1 gg.2 l32,.box b 43 [.ptr b3 0,Z139 ob w.groups cap,Z103 ob2 w.budgets cap2,Z68 ob3 w.ms cap3,Z64 ob4 w.bs cap4,.map b2],Q139 ob cap w.groups,Q103 ob2 cap2 w.budgets,Q68 ob3 cap3 w.ms,Q64 ob4 cap4 w.bs,.map b2 (List.map (pf VV.str (VV.int .i64)) w.held),.box b3 149 [Z140 A0 A1 ob5 c.pools cap5,Z152 A0 A1 ob6 c.insts cap6,Iw c.delay,Iw c.now,Iw c.calls],Q140 A0 A1 ob5 cap5 c.pools,Q152 A0 A1 ob6 cap6 c.insts]) (fun o hm=>?_) fun l32=>Pq fun ob9 cap9 hm=> ?_
 ·refine B8 (fun zn (zs:List T_api_Machine × Int)=>world_World_Machines_x.l1 w zn zs.1 zs.2) (fun zs (zg:Option Nat × Nat)=>[(3,Z68 zg.1 zs.1 zg.2),(12,Z68 ob3 w.ms cap3),(13,Iw (w.ms.length : Int)),(14,Iw zs.2)]) (fun zs (zg:Option Nat × Nat)=>[Q68 zg.1 zg.2 zs.1,.box b 43 [.ptr b3 0,Z139 ob w.groups cap,Z103 ob2 w.budgets cap2,Z68 ob3 w.ms cap3,Z64 ob4 w.bs cap4,.map b2],Q139 ob cap w.groups,Q103 ob2 cap2 w.budgets,Q68 ob3 cap3 w.ms,Q64 ob4 cap4 w.bs,.map b2 (List.map (pf VV.str (VV.int .i64)) w.held),.box b3 149 [Z140 A0 A1 ob5 c.pools cap5,Z152 A0 A1 ob6 c.insts cap6,Iw c.delay,Iw c.now,Iw c.calls],Q140 A0 A1 ob5 cap5 c.pools,Q152 A0 A1 ob6 cap6 c.insts]) (([] : List T_api_Machine),(0 : Int)) (none,0) (fun _=>R) hm (B5 (Bk 68) (Ah [0,1,2,3,4,5,6,7,8,9] (by kernel_rfl) (by kernel_rfl))) fun n=>Pq fun l2 v2=>Pq fun ob8 cap8 hm=> ?_
  rw [world_World_Machines_x.l1] at hm
  refine Af tbk [] R R<|Ag<|An hm R (fun h6 hm=>?_) fun h6 hm=> ?_
  ·refine Ak<|Ag<|Au<|Ae<|Bd hm fun x h7 hm=>Cq 4 R (gl_pos T_api_Machine.vv h7) fun b4 h8=> ?_
   subst h8
   exact Aa R R (Cs T_api_Machine.vv R R el39 h7)<|Aa R R (Ck (i:=4) (y:=T_api_Machine.vv x) R R R (gl_map _ (gl_some h7).2) ld68 R)<|Ad R R<|Aq z68 fun b5=>Ad R R<|Al (i:=0) R R R ld68 R R R<|Ac<|B2<|Ab tbk [0] 2 R R<|Ad R R<|Ax hm 0 R fn79 R (K32 _) fun r2 hm=>Ad R R<|Bc ap39 R R R R R fun b6=>Bd hm fun l5 h12 hm=>Ad R R<|Bv 2 T_api_Machine.vv (l:=l2) (l2:=[r2]) ap39 R R (sT_row 0 T_api_Machine.vv el39 R R) h12 fun ob10 cap10=>Aa R R (Aj R)<|Ac<|A9 tbk [] R R<|Ap (l5,(IntKind.i64.wrap (v2 + (1 : Int)))) (ob10,cap10) hm (Ah [2,3,4,5,6,7,8,9,10,11] (by kernel_rfl) (by kernel_rfl))
  exact A4<|As (ob8,cap8) hm (Ah [0,1,2,3,4,5,6,7,8,9] (by kernel_rfl) (by kernel_rfl))
 exact Af tbk [] R R<|Rg2 hm R [0,1,2,3,4,5,6,7,8,9] ob9 cap9 (.cons (.tmp _ _ R) .nil) R R

/-! (*trireme/cloud.Cloud).Now -/
def cloud_Cloud_Now (c : T_cloud_Cloud) : Option Int :=
 (cloud_Cloud_there c).bind fun r =>
 if (!r) = true then
  some 0
 else
  some c.now
theorem K148 (A0 A1 : Nat) (c : T_cloud_Cloud) (b : Nat) (ob : Option Nat) (cap : Nat) (ob2 : Option Nat) (cap2 : Nat) : VS Tryz.prog 59 (cloud_Cloud_Now c) [.ptr b 0] [.box b 149 [Z140 A0 A1 ob c.pools cap, Z152 A0 A1 ob2 c.insts cap2, Iw c.delay, Iw c.now, Iw c.calls], Q140 A0 A1 ob cap c.pools, Q152 A0 A1 ob2 cap2 c.insts] Iw (fun r=>[.box b 149 [Z140 A0 A1 ob c.pools cap, Z152 A0 A1 ob2 c.insts cap2, Iw c.delay, Iw c.now, Iw c.calls], Q140 A0 A1 ob cap c.pools, Q152 A0 A1 ob2 cap2 c.insts]) := by
 refine Az [.tmp 2] Tryz.func59 R R R fun r hm=>?_
 unfold cloud_Cloud_Now at hm
 exact Af tbk [] R R<|Ag<|Ae<|Aa R R (Ai R)<|Ad R R<|Ax hm 3 R fn83 R (K34 A0 A1 _ _ _ _ _ _) fun r hm=>Aa R R (Ci R)<|Ac<|An hm R (fun h2 hm=>Af tbk [] R R<|Rt1 hm R [0,1,2] R R R) fun h2 hm=>Ak<|Af tbk [0] R R<|Rt1 hm R [0,1,2] R R R

/-! trireme/budget.counts -/
def budget_counts (b : T_api_Budget) (p : T_api_Pod) : Option Bool :=
 (labels_Has p.Labels b.Match).bind fun r =>
 some r
theorem K149 (b : T_api_Budget) (p : T_api_Pod) : VS Tryz.prog 146 (budget_counts b p) [T_api_Budget.vv b, T_api_Pod.vv p] [] .bool N0 := by
 refine Az [.tmp 4] Tryz.func146 R R R fun r hm=>?_
 unfold budget_counts at hm
 exact Ae<|Ad R R<|Bi R R fun b2=>Ad R R<|Bi R R fun b3=>Aa R R (Aj R)<|Ac<|Ae<|Ab tbk [0,1] 4 R R<|Ad R R<|Ax hm 0 R fn191 R (K89 _ _) fun r hm=>Aa R R (Aj R)<|Ac<|Rt1 hm R [] R R R

/-! trireme/budget.Spare -/
def budget_Spare.l1 (b : T_api_Budget) : List T_api_Bound → Nat → Int → Option Int
 | [], k, n2 => some n2
 | x :: l, k, n2 =>
  (if (!(V.seq x.On (⟨#[]⟩ : ByteArray))) = true then (budget_counts b x.Pod).bind fun r =>
  some r else some false).bind fun c =>
  if c = true then
   budget_Spare.l1 b l (k + 1) (i64.wrap (n2 + 1))
  else
   budget_Spare.l1 b l (k + 1) n2
def budget_Spare (b : T_api_Budget) (bs : List T_api_Bound) : Option Int :=
 (budget_Spare.l1 b bs 0 (i64.wrap (0 - b.Least))).bind fun n32 =>
 some n32
theorem K150 (b : T_api_Budget) (bs : List T_api_Bound) : VS Tryz.prog 147 (budget_Spare b bs) [T_api_Budget.vv b, L64 bs] [] Iw N0 := by
 refine Az [.tmp 4] Tryz.func147 R R R fun r hm=>?_
 unfold budget_Spare at hm
 refine Ae<|Ad R R<|Bi R R fun b2=>Aa R R (Aj R)<|Ac<|Ae<|Ab tbk [0] 2 R R<|Aa R R (VP.neg R)<|Aa R R (Aj R)<|Ac<|Ag<|Ae<|Aa R R (Ai R)<|Aa R R (Ay T_api_Bound.vv R Bz)<|Aa R R (Ai R)<|Ac<|B7 11 R fun h4=>Cf hm (fun n32 (_:Unit)=>[(5,Iw n32)]) (fun _ (_:Unit)=>[]) (fun o hm=>?_) fun n32 _ hm=> ?_
 ·refine Cj (bs) (fun zl zk (zs:Int)=>budget_Spare.l1 b zl zk zs) (fun k zs (_:Unit)=>[(2,.ptr b2 0),(5,Iw zs),(11,L64 bs),(12,Iw (bs.length : Int)),(13,Iw (k : Int))]) (fun _ _ (_:Unit)=>[X103 b2 b]) _ () hm (Ah [0] R R) (fun k n2 _ hk hm=>?_) fun k x l n2 _ h5 hm=> ?_
  ·rw [budget_Spare.l1] at hm
   exact Af tbk [] R R<|Ag<|Bp R (k_end hk)<|A4<|As () hm (Ah [] R R)
  rw [budget_Spare.l1] at hm
  exact Af tbk [] R R<|Ag<|Bm R (k_lt h5)<|Ak<|Ag<|Au<|Ae<|Aa R R (Cc T_api_Bound.vv R R el40 h5)<|Aa R R (Bs R ld64 R)<|Ad R R<|Aq z64 fun b3=>Ad R R<|Al (i:=0) R R R ld64 R R R<|Ac<|Ae<|Ab tbk [0] 4 R R<|Bh hm 5 25 20 R (fun _ K' h7 J hm=>Ab tbk [1,0] 3 R R<|A8 R R R R R<|Ax hm 0 R fn146 R (K149 _ _) fun r hm=>Aa R R (Bq true R R R)<|J 4 R R (Bj hm)) (fun _ K' h7 J hm=>Ab tbk [] 5 R R<|J 4 R R (Bj hm)) fun c hm=>Ac<|An hm R (fun h10 hm=>A9 tbk [] R R<|A9 tbk [] R R<|Ap _ () hm (Be [1] R ⟨R,R,R,R,congrArg some (k_next h5 h4),trivial⟩)) fun h10 hm=>Ak<|A9 tbk [] R R<|Ap _ () hm (Be [1] R ⟨R,R,R,R,congrArg some (k_next h5 h4),trivial⟩)
 exact Af tbk [] R R<|Rt1 hm R [] R R R

/-! trireme/budget.May -/
def budget_May.l1 (bs : List T_api_Bound) (r : Int) : List T_api_Budget → Nat → Option (Out Int Unit)
 | [], k => some (Out.go ())
 | x2 :: l2, k =>
  (V.gl bs r).bind fun x3 =>
  (budget_counts x2 x3.Pod).bind fun r2 =>
  (if r2 = true then (budget_Spare x2 bs).bind fun r3 =>
  some (decide (r3 ≤ 0)) else some false).bind fun c =>
  if c = true then
   some (Out.ret 20)
  else
   budget_May.l1 bs r l2 (k + 1)
def budget_May (l : List T_api_Budget) (bs : List T_api_Bound) (name : ByteArray) : Option Int :=
 (yard_Place bs name).bind fun r =>
 if (decide (r < 0)) = true then
  some 16
 else
  (V.gl bs r).bind fun x =>
  if (V.seq x.On (⟨#[]⟩ : ByteArray)) = true then
   some 22
  else
   (budget_May.l1 bs r l 0).bind fun o =>
   o.on fun j =>
   some 0
theorem K151 (l : List T_api_Budget) (bs : List T_api_Bound) (name : ByteArray) : VS Tryz.prog 78 (budget_May l bs name) [L103 l, L64 bs, .str name] [] Iw N0 := by
 refine Az [.tmp 6] Tryz.func78 R R R fun r hm=>?_
 unfold budget_May at hm
 refine Af tbk [] R R<|Ae<|Ab tbk [] 2 R R<|Ad R R<|Ax hm 0 R fn66 R (K73 _ _) fun r hm=>Aa R R (Aj R)<|Ac<|Ag<|Au<|Af tbk [] R R<|An hm R (fun h2 hm=>Af tbk [] R R<|Rt1 hm R [] R R R) fun h2 hm=>Ae<|Ab tbk [] 2 R R<|Bd hm fun x h3 hm=>Aa R R (Br T_api_Bound.vv R R el40 h3)<|Ab tbk [] 4 R R<|Ac<|An hm R (fun h4 hm=>Af tbk [] R R<|Rt1 hm R [] R R R) fun h4 hm=>Ak<|Ag<|Ae<|Aa R R (Ai R)<|Aa R R (Ay T_api_Budget.vv R Cr)<|Aa R R (Ai R)<|Ac<|B7 23 R fun h7=>B1 hm (fun _ (_:Unit)=>[]) (fun _ (_:Unit)=>[]) (fun o hm h6=>?_) fun j _ hm=> ?_
 ·refine Cj (l) (fun zl zk (zs:Unit)=>budget_May.l1 bs r zl zk) (fun k _ (_:Unit)=>[(1,L64 bs),(7,Iw r),(23,L103 l),(24,Iw (l.length : Int)),(25,Iw (k : Int))]) (fun _ _ (_:Unit)=>[]) () () hm (Ah [] R R) (fun k _ _ hk hm=>?_) fun k x2 l2 _ _ h8 hm=> ?_
  ·rw [budget_May.l1] at hm
   exact Af tbk [] R R<|Ag<|Bp R (k_end hk)<|A4<|Ar () hm (Ah [] R R)
  rw [budget_May.l1] at hm
  refine Af tbk [] R R<|Ag<|Bm R (k_lt h8)<|Ak<|Ag<|Au<|Ae<|Aa R R (Cc T_api_Budget.vv R R el38 h8)<|Aa R R (Bs R ld103 R)<|Ad R R<|Aq z103 fun b=>Ad R R<|Al (i:=0) R R R ld103 R R R<|Ac<|Ag<|Bn 0 mixed<|A6 tbk [0,1,2] [0] (by kernel_rfl) R R R<|Bd hm fun x3 h10 hm=>Ba 3 R R R (by kernel_rfl) (Br T_api_Bound.vv R R el40 h10)<|A6 tbk [4,5] [] (by kernel_rfl) R R R<|Am 6 (by kernel_rfl)<|Bd hm fun r2 h11 hm=>Ao R R R<|Aw 0 R fn146 R (K149 x2 x3.Pod r2 h11) fun _ _ h16=> ?_
  obtain ⟨rfl,rfl⟩:=h16
  exact Ba 7 R R R (by kernel_rfl) (Ai R)<|Df hm [12,11,10,9,8,7,6,5,4,3,2,1,0] 41 36 R (fun _ K' h12 J hm=>A6 tbk [8,9] [0] (by kernel_rfl) R R R<|Am 10 (by kernel_rfl)<|D2 R R R R R R<|Ax hm 0 R fn147 R (K150 _ _) fun r3 hm=>A6 tbk [11,12] [] (by kernel_rfl) R R R<|J 4 R R (Bj hm)) (fun _ K' h12 J hm=>A6 tbk [8,9,10,11,12] [] (by kernel_rfl) R R R<|J 4 R R (Bj hm)) fun c hm=>A5 (by kernel_rfl)<|An hm R (fun h15 hm=>Af tbk [] R R<|have hm:=Lr hm h6;Rt1 hm R [] R R R) fun h15 hm=>Ak<|A9 tbk [] R R<|Ap () () hm (Be [] R ⟨R,R,R,R,congrArg some (k_next h8 h7),trivial⟩)
 exact Af tbk [] R R<|Rt1 hm R [] R R R

/-! (*trireme/world.World).cut -/
def world_World_cut (w : T_world_World) (c : T_cloud_Cloud) (i : Int) : Option (T_api_Pod × T_world_World) :=
 (V.gl w.bs i).bind fun x =>
 (V.rng w.bs.length none (some i)).bind fun r =>
 (V.rng w.bs.length (some (i64.wrap (i + 1))) none).bind fun r2 =>
 (V.aps 288 w.bs r r2).bind fun l =>
 some (x.Pod, (⟨(), w.groups, w.budgets, w.ms, l, w.held⟩ : T_world_World))
theorem K152 (A0 A1 : Nat) (w : T_world_World) (c : T_cloud_Cloud) (i : Int) (b : Nat) (ob : Option Nat) (cap : Nat) (ob2 : Option Nat) (cap2 : Nat) (ob3 : Option Nat) (cap3 : Nat) (ob4 : Option Nat) (cap4 : Nat) (b2 : Nat) (b3 : Nat) (ob5 : Option Nat) (cap5 : Nat) (ob6 : Option Nat) (cap6 : Nat) : ∀ r : T_api_Pod × T_world_World, world_World_cut w c i = some r → VC Tryz.prog 68 [.ptr b 0, Iw i] [.box b 43 [.ptr b3 0, Z139 ob w.groups cap, Z103 ob2 w.budgets cap2, Z68 ob3 w.ms cap3, Z64 ob4 w.bs cap4, .map b2], Q139 ob cap w.groups, Q103 ob2 cap2 w.budgets, Q68 ob3 cap3 w.ms, Q64 ob4 cap4 w.bs, .map b2 (List.map (pf VV.str (VV.int .i64)) w.held), .box b3 149 [Z140 A0 A1 ob5 c.pools cap5, Z152 A0 A1 ob6 c.insts cap6, Iw c.delay, Iw c.now, Iw c.calls], Q140 A0 A1 ob5 cap5 c.pools, Q152 A0 A1 ob6 cap6 c.insts] fun zx zH => ∃ (ob0_1 : Option Nat) (cap0_1 : Nat) (ob0_2 : Option Nat) (cap0_2 : Nat) (ob0_3 : Option Nat) (cap0_3 : Nat) (ob0_4 : Option Nat) (cap0_4 : Nat) (b0_5 : Nat), zx = T_api_Pod.vv r.1 ∧ zH = [.box b 43 [.ptr b3 0, Z139 ob0_1 r.2.groups cap0_1, Z103 ob0_2 r.2.budgets cap0_2, Z68 ob0_3 r.2.ms cap0_3, Z64 ob0_4 r.2.bs cap0_4, .map b0_5], Q139 ob0_1 cap0_1 r.2.groups, Q103 ob0_2 cap0_2 r.2.budgets, Q68 ob0_3 cap0_3 r.2.ms, Q64 ob0_4 cap0_4 r.2.bs, .map b0_5 (List.map (pf VV.str (VV.int .i64)) r.2.held), .box b3 149 [Z140 A0 A1 ob5 c.pools cap5, Z152 A0 A1 ob6 c.insts cap6, Iw c.delay, Iw c.now, Iw c.calls], Q140 A0 A1 ob5 cap5 c.pools, Q152 A0 A1 ob6 cap6 c.insts] := by
 refine Cw [.cell 4 29] Tryz.func68 R R R fun r hm=>?_
 unfold world_World_cut at hm
 refine Ae<|Ad R R<|Aq z29 fun b4=>Ac<|Ae<|Ab tbk [1] 5 R R<|Bd hm fun x h2 hm=>Cq 5 R (gl_pos T_api_Bound.vv h2) fun b5 h3=> ?_
 subst h3
 refine Aa R R (Cs T_api_Bound.vv R R el40 h2)<|Aa R R (Dv R fa64_0)<|Aa R R (Ck (i:=5) (y:=T_api_Bound.vv x) R R R (gl_map _ (gl_some h2).2) ld29 R)<|Ad R R<|Aq z29 fun b6=>Ad R R<|Al (i:=0) R R R ld29 R R R<|Ac<|Ag<|Bw (Bg [2,6,0,1,3,4,5,7,8,9,10] R)<|Bn 2 mixed<|A6 tbk [0,1,2,3,5,6,8,9,10,12,13] [] (by kernel_rfl) R R R<|?_
 refine B3 [4,11] (by kernel_rfl) ⟨?_,?_,trivial⟩
 ·refine Ao R R R<|Cb (B6 (i:=0) R R ld40 R)<|Bd hm fun r h5 hm=>VA.pH 7 R R R (by kernel_rfl) (VPH.sub3T (f:=T_api_Bound.vv) (xs:=w.bs) 1 el40 R R R R R h5)<|Am 11 (by kernel_rfl)<|Ao R R R<|Cb (B6 (i:=0) R R ld40 R)<|Bd hm fun r2 h6 hm=>VA.pH 14 R R R (by kernel_rfl) (VPH.subT (f:=T_api_Bound.vv) (xs:=w.bs) 1 el40 R R R R h6)<|Am 15 (by kernel_rfl)<|Bd hm fun l h7 hm=>Ao R R R<|VO.appSub 1 (f:=T_api_Bound.vv) (l:=w.bs) ap40 R R R R (V.rng_0 h5) (rng_le h5) (rng_le h6) h7 fun ob7 cap7=>A6 tbk [16,17] [] (by kernel_rfl) R R R<|Am 18 (by kernel_rfl)<|Ao R R R<|Al (i:=0) R R R ld40 R R R<|A5 (by kernel_rfl)<|Ae<|Ab tbk [2] 1 R R<|Ad R R<|Al (i:=3) R R R ld29 R R R<|Ac<|?_
  obtain rfl:=Option.some.inj hm
  exact Bx ⟨.inl R,_,.cons (.cell _ _ _ _ 3 _ _ _ _ R R ld29 R) .nil,[0,4,5,6,1,7,8,9,10],_,R,ob,cap,ob2,cap2,ob3,cap3,ob7,cap7,b2,R,R⟩
 ·refine Ao R R R<|Cb (B6 (i:=0) R R ld40 R)<|Bd hm fun r3 h8 hm=>Bd hm fun r4 h9 hm=>VA.pH 14 R R R (by kernel_rfl) (VPH.subT (f:=T_api_Bound.vv) (xs:=w.bs) 1 el40 R R R R h9)<|Am 4 (by kernel_rfl)<|Ao R R R<|Cb (B6 (i:=0) R R ld40 R)<|VA.pH 7 R R R (by kernel_rfl) (VPH.sub3T (f:=T_api_Bound.vv) (xs:=w.bs) 1 el40 R R R R R h8)<|Am 15 (by kernel_rfl)<|Bd hm fun l2 h10 hm=>Ao R R R<|VO.appSub 1 (f:=T_api_Bound.vv) (l:=w.bs) ap40 R R R R (V.rng_0 h8) (rng_le h8) (rng_le h9) h10 fun ob8 cap8=>A6 tbk [16,17] [] (by kernel_rfl) R R R<|Am 18 (by kernel_rfl)<|Ao R R R<|Al (i:=0) R R R ld40 R R R<|A5 (by kernel_rfl)<|Ae<|Ab tbk [2] 1 R R<|Ad R R<|Al (i:=3) R R R ld29 R R R<|Ac<|?_
  obtain rfl:=Option.some.inj hm
  exact Bx ⟨.inl R,_,.cons (.cell _ _ _ _ 3 _ _ _ _ R R ld29 R) .nil,[0,4,5,6,1,7,8,9,10],_,R,ob,cap,ob2,cap2,ob3,cap3,ob8,cap8,b2,R,R⟩

/-! (*trireme/world.World).Evict -/
def world_World_Evict_x (w : T_world_World) (c : T_cloud_Cloud) (name : ByteArray) : Option (Int × T_world_World) :=
 (world_World_there_x w c).bind fun r =>
 (budget_May w.budgets w.bs name).bind fun r2 =>
 if (r2 != 0) = true then
  some (r2, w)
 else
  (yard_Place w.bs name).bind fun r3 =>
  (world_World_cut w c r3).bind fun r4 =>
  (V.ap 288 r4.2.bs [(⟨r4.1, (⟨#[]⟩ : ByteArray)⟩ : T_api_Bound)]).bind fun l =>
  some (0, (⟨(), r4.2.groups, r4.2.budgets, r4.2.ms, l, r4.2.held⟩ : T_world_World))
theorem K153 (A0 A1 : Nat) (w : T_world_World) (c : T_cloud_Cloud) (name : ByteArray) (b : Nat) (ob : Option Nat) (cap : Nat) (ob2 : Option Nat) (cap2 : Nat) (ob3 : Option Nat) (cap3 : Nat) (ob4 : Option Nat) (cap4 : Nat) (b2 : Nat) (b3 : Nat) (ob5 : Option Nat) (cap5 : Nat) (ob6 : Option Nat) (cap6 : Nat) : ∀ r : Int × T_world_World, world_World_Evict_x w c name = some r → VC Tryz.prog 18 [.ptr b 0, .str name] [.box b 43 [.ptr b3 0, Z139 ob w.groups cap, Z103 ob2 w.budgets cap2, Z68 ob3 w.ms cap3, Z64 ob4 w.bs cap4, .map b2], Q139 ob cap w.groups, Q103 ob2 cap2 w.budgets, Q68 ob3 cap3 w.ms, Q64 ob4 cap4 w.bs, .map b2 (List.map (pf VV.str (VV.int .i64)) w.held), .box b3 149 [Z140 A0 A1 ob5 c.pools cap5, Z152 A0 A1 ob6 c.insts cap6, Iw c.delay, Iw c.now, Iw c.calls], Q140 A0 A1 ob5 cap5 c.pools, Q152 A0 A1 ob6 cap6 c.insts] fun zx zH => ∃ (ob0_1 : Option Nat) (cap0_1 : Nat) (ob0_2 : Option Nat) (cap0_2 : Nat) (ob0_3 : Option Nat) (cap0_3 : Nat) (ob0_4 : Option Nat) (cap0_4 : Nat) (b0_5 : Nat), zx = Iw r.1 ∧ zH = [.box b 43 [.ptr b3 0, Z139 ob0_1 r.2.groups cap0_1, Z103 ob0_2 r.2.budgets cap0_2, Z68 ob0_3 r.2.ms cap0_3, Z64 ob0_4 r.2.bs cap0_4, .map b0_5], Q139 ob0_1 cap0_1 r.2.groups, Q103 ob0_2 cap0_2 r.2.budgets, Q68 ob0_3 cap0_3 r.2.ms, Q64 ob0_4 cap0_4 r.2.bs, .map b0_5 (List.map (pf VV.str (VV.int .i64)) r.2.held), .box b3 149 [Z140 A0 A1 ob5 c.pools cap5, Z152 A0 A1 ob6 c.insts cap6, Iw c.delay, Iw c.now, Iw c.calls], Q140 A0 A1 ob5 cap5 c.pools, Q152 A0 A1 ob6 cap6 c.insts] := by
 refine Cw [.tmp 4] Tryz.func18 R R R fun r hm=>?_
 unfold world_World_Evict_x at hm
 refine Af tbk [] R R<|Ag<|Ae<|Aa R R (Ai R)<|Bd hm fun r h1 hm=>Ad R R<|Aw 9 R fn60 R (K63 A0 A1 w c b ob cap ob2 cap2 ob3 cap3 ob4 cap4 b2 b3 ob5 cap5 ob6 cap6 r h1) fun _ _ h12=> ?_
 obtain ⟨rfl,rfl⟩:=h12
 refine Aa R R (Ci R)<|Ac<|Bp R (congrArg not (Option.some.inj (show some true = some r from h1)).symm)<|Ak<|Ag<|Ag<|Bw (Bg [2,4,0,1,3,5,6,7,8] R)<|Bn 2 mixed<|A6 tbk [0,1,2,3,4,5,6,7,8] [0,0] (by kernel_rfl) R R R<|Am 9 (by kernel_rfl)<|Ao R R R<|Dj hm (B5 (A7 0 [(13,L103 w.budgets)] R ⟨⟨_,R,.here _ R⟩,trivial⟩ (FzH.refl _)) (A7 0 [(17,L64 w.bs)] R ⟨⟨_,R,.here _ R⟩,trivial⟩ (FzH.refl _))) [.same,.same,.same] R fn78 R (K151 _ _ _) (fun _=>R) (fun _=>R) fun r2 hm=>Ba 10 R R R (by kernel_rfl) (Aj R)<|A5 (by kernel_rfl)<|Af tbk [] R R<|An hm R (fun h3 hm=>?_) fun h3 hm=> ?_
 ·refine Af tbk [] R R<|?_
  obtain rfl:=Option.some.inj hm
  exact Bx ⟨.inl R,_,.cons (.tmp _ _ R) .nil,[2,3,0,4,1,5,6,7,8],_,R,ob,cap,ob2,cap2,ob3,cap3,ob4,cap4,b2,R,R⟩
 refine Ak<|Ae<|Ab tbk [2] 6 R R<|Ad R R<|Dj hm (A7 (H':=[Q103 ob2 cap2 w.budgets,.box b 43 [.ptr b3 0,Z139 ob w.groups cap,Z103 ob2 w.budgets cap2,Z68 ob3 w.ms cap3,L64 w.bs,.map b2],Q139 ob cap w.groups,Q68 ob3 cap3 w.ms,.map b2 (List.map (pf VV.str (VV.int .i64)) w.held),.box b3 149 [Z140 A0 A1 ob5 c.pools cap5,Z152 A0 A1 ob6 c.insts cap6,Iw c.delay,Iw c.now,Iw c.calls],Q140 A0 A1 ob5 cap5 c.pools,Q152 A0 A1 ob6 cap6 c.insts]) 1 [(17,L64 w.bs),(27,L64 w.bs)] R ⟨⟨_,R,.here _ R⟩,⟨_,R,.here _ R⟩,trivial⟩ (by exact ⟨.same _,.box _ _ _ _ ⟨.same _,.same _,.same _,.same _,.here _ R,.same _,trivial⟩,.same _,.same _,.same _,.same _,.same _,.same _,trivial⟩)) [.same,.same] R fn66 R (K73 _ _) (fun _=>R) (fun _=>R) fun r3 hm=>Bd hm fun r4 h5 hm=>Bb (Bg [2,3,0,4,1,5,6,7,8] R)<|Ad R R<|Aw 9 R fn68 R (K152 A0 A1 w c r3 b ob cap ob2 cap2 ob3 cap3 ob4 cap4 b2 b3 ob5 cap5 ob6 cap6 r4 h5) fun _ _ h11=> ?_
 obtain ⟨ob7,cap7,ob8,cap8,ob9,cap9,ob10,cap10,b4,rfl,rfl⟩:=h11
 refine Ad R R<|Aq z29 fun b5=>Ad R R<|Al (i:=0) R R R ld29 R R R<|Ac<|Ag<|Bw (Bg [1,5,0,2,3,4,6,7,8,9] R)<|Bn 2 mixed<|A6 tbk [0,1,2,3,5] [0] (by kernel_rfl) R R R<|Ba 6 R R R (by kernel_rfl) (Bo pl64 R R)<|?_
 refine B3 [4,7] (by kernel_rfl) ⟨?_,?_,trivial⟩
 ·refine Ao R R R<|Cb (B6 (i:=0) R R ld40 R)<|Am 7 (by kernel_rfl)<|Ao R R R<|Bc ap40 R R R R R fun b6=>Am 8 (by kernel_rfl)<|Bd hm fun l h8 hm=>Ao R R R<|Bv 2 T_api_Bound.vv (l:=r4.2.bs) (l2:=[(⟨r4.1,(⟨#[]⟩ : ByteArray)⟩ : T_api_Bound)]) ap40 R R (sT_row 0 T_api_Bound.vv el40 R R) h8 fun ob11 cap11=>A6 tbk [9,10] [] (by kernel_rfl) R R R<|Am 11 (by kernel_rfl)<|Ao R R R<|Al (i:=1) R R R ld40 R R R<|A5 (by kernel_rfl)<|Af tbk [] R R<|?_
  obtain rfl:=Option.some.inj hm
  exact Bx ⟨.inl R,_,.cons (.tmp _ _ R) .nil,[1,4,5,6,2,7,8,9,10],_,R,ob7,cap7,ob8,cap8,ob9,cap9,ob11,cap11,b4,R,R⟩
 ·refine Ao R R R<|Bc ap40 R R R R R fun b7=>Am 4 (by kernel_rfl)<|Ao R R R<|Cb (B6 (i:=1) R R ld40 R)<|Am 8 (by kernel_rfl)<|Bd hm fun l2 h10 hm=>Ao R R R<|Bv 2 T_api_Bound.vv (l:=r4.2.bs) (l2:=[(⟨r4.1,(⟨#[]⟩ : ByteArray)⟩ : T_api_Bound)]) ap40 R R (sT_row 0 T_api_Bound.vv el40 R R) h10 fun ob12 cap12=>A6 tbk [9,10] [] (by kernel_rfl) R R R<|Am 11 (by kernel_rfl)<|Ao R R R<|Al (i:=1) R R R ld40 R R R<|A5 (by kernel_rfl)<|Af tbk [] R R<|?_
  obtain rfl:=Option.some.inj hm
  exact Bx ⟨.inl R,_,.cons (.tmp _ _ R) .nil,[1,4,5,6,2,7,8,9,10],_,R,ob7,cap7,ob8,cap8,ob9,cap9,ob12,cap12,b4,R,R⟩

/-! (*trireme/world.World).Ready$1 -/
def world_World_Ready_1 (m : T_api_Machine) (a : Bool) : Option (Int × T_api_Machine) :=
 some (0, (⟨m.Name, m.Group, m.Has, m.Labels, m.Taints, a⟩ : T_api_Machine))
theorem K154 (m : T_api_Machine) (a : Bool) (b : Nat) (b2 : Nat) : VS Tryz.prog 70 (world_World_Ready_1 m a) [.ptr b 0, .ptr b2 0] [X68 b m, .box b2 4 [.bool a]] (fun r=>Iw r.1) (fun r=>[X68 b r.2, .box b2 4 [.bool a]]) := by
 refine Az [.tmp 3] Tryz.func70 R R R fun r hm=>?_
 unfold world_World_Ready_1 at hm
 exact Af tbk [] R R<|Ae<|Ab tbk [1] 4 R R<|Ad R R<|Al (i:=0) R R R ld4 R R R<|Ac<|Af tbk [] R R<|Rt1 hm R [0,1] R R R

/-! (*trireme/world.World).on -/
def world_World_on_world_World_Ready_1_x (w : T_world_World) (c : T_cloud_Cloud) (name : ByteArray) (c2 : Bool) : Option (Int × T_world_World) :=
 (world_World_there_x w c).bind fun r =>
 (yard_Find w.ms name).bind fun r2 =>
 if (decide (r2 < 0)) = true then
  some (16, w)
 else
  (V.gl w.ms r2).bind fun x =>
  (world_World_Ready_1 x c2).bind fun r3 =>
  if (r3.1 == 0) = true then
   (V.gl w.ms r2).bind fun x2 =>
   some (r3.1, (⟨(), w.groups, w.budgets, (List.set w.ms (r2).toNat r3.2), w.bs, w.held⟩ : T_world_World))
  else
   some (r3.1, w)
theorem K155 (A0 A1 : Nat) (w : T_world_World) (c : T_cloud_Cloud) (name : ByteArray) (c2 : Bool) (b : Nat) (ob : Option Nat) (cap : Nat) (ob2 : Option Nat) (cap2 : Nat) (ob3 : Option Nat) (cap3 : Nat) (ob4 : Option Nat) (cap4 : Nat) (b2 : Nat) (b3 : Nat) (ob5 : Option Nat) (cap5 : Nat) (ob6 : Option Nat) (cap6 : Nat) (b4 : Nat) : ∀ r : Int × T_world_World, world_World_on_world_World_Ready_1_x w c name c2 = some r → VC Tryz.prog 69 [.ptr b 0, .str name, .clo (.func 70) [] [.ptr b4 0]] [.box b 43 [.ptr b3 0, Z139 ob w.groups cap, Z103 ob2 w.budgets cap2, Z68 ob3 w.ms cap3, Z64 ob4 w.bs cap4, .map b2], Q139 ob cap w.groups, Q103 ob2 cap2 w.budgets, Q68 ob3 cap3 w.ms, Q64 ob4 cap4 w.bs, .map b2 (List.map (pf VV.str (VV.int .i64)) w.held), .box b3 149 [Z140 A0 A1 ob5 c.pools cap5, Z152 A0 A1 ob6 c.insts cap6, Iw c.delay, Iw c.now, Iw c.calls], Q140 A0 A1 ob5 cap5 c.pools, Q152 A0 A1 ob6 cap6 c.insts, .box b4 4 [.bool c2]] fun zx zH => ∃ (ob0_1 : Option Nat) (cap0_1 : Nat) (ob0_2 : Option Nat) (cap0_2 : Nat) (ob0_3 : Option Nat) (cap0_3 : Nat) (ob0_4 : Option Nat) (cap0_4 : Nat) (b0_5 : Nat), zx = Iw r.1 ∧ zH = [.box b 43 [.ptr b3 0, Z139 ob0_1 r.2.groups cap0_1, Z103 ob0_2 r.2.budgets cap0_2, Z68 ob0_3 r.2.ms cap0_3, Z64 ob0_4 r.2.bs cap0_4, .map b0_5], Q139 ob0_1 cap0_1 r.2.groups, Q103 ob0_2 cap0_2 r.2.budgets, Q68 ob0_3 cap0_3 r.2.ms, Q64 ob0_4 cap0_4 r.2.bs, .map b0_5 (List.map (pf VV.str (VV.int .i64)) r.2.held), .box b3 149 [Z140 A0 A1 ob5 c.pools cap5, Z152 A0 A1 ob6 c.insts cap6, Iw c.delay, Iw c.now, Iw c.calls], Q140 A0 A1 ob5 cap5 c.pools, Q152 A0 A1 ob6 cap6 c.insts, .box b4 4 [.bool c2]] := by
 refine Cw [.tmp 6] Tryz.func69 R R R fun r hm=>?_
 unfold world_World_on_world_World_Ready_1_x at hm
 refine Af tbk [] R R<|Ag<|Ae<|Aa R R (Ai R)<|Bd hm fun r h1 hm=>Ad R R<|Aw 9 R fn60 R (K63 A0 A1 w c b ob cap ob2 cap2 ob3 cap3 ob4 cap4 b2 b3 ob5 cap5 ob6 cap6 r h1) fun _ _ h10=> ?_
 obtain ⟨rfl,rfl⟩:=h10
 refine Aa R R (Ci R)<|Ac<|Bp R (congrArg not (Option.some.inj (show some true = some r from h1)).symm)<|Ak<|Ae<|Ab tbk [0] 5 R R<|Ad R R<|Dj hm (A7 (H':=[.box b 43 [.ptr b3 0,Z139 ob w.groups cap,Z103 ob2 w.budgets cap2,L68 w.ms,Z64 ob4 w.bs cap4,.map b2],Q139 ob cap w.groups,Q103 ob2 cap2 w.budgets,Q64 ob4 cap4 w.bs,.map b2 (List.map (pf VV.str (VV.int .i64)) w.held),.box b3 149 [Z140 A0 A1 ob5 c.pools cap5,Z152 A0 A1 ob6 c.insts cap6,Iw c.delay,Iw c.now,Iw c.calls],Q140 A0 A1 ob5 cap5 c.pools,Q152 A0 A1 ob6 cap6 c.insts,.box b4 4 [.bool c2]]) 3 [(16,L68 w.ms)] R ⟨⟨_,R,.here _ R⟩,trivial⟩ (by exact ⟨.box _ _ _ _ ⟨.same _,.same _,.same _,.here _ R,.same _,.same _,trivial⟩,.same _,.same _,.same _,.same _,.same _,.same _,.same _,.same _,trivial⟩)) [.same,.same] R fn72 R (K46 _ _) (fun _=>R) (fun _=>R) fun r2 hm=>Aa R R (Aj R)<|Ac<|Ag<|Af tbk [] R R<|An hm R (fun h3 hm=>?_) fun h3 hm=> ?_
 ·refine Af tbk [] R R<|?_
  obtain rfl:=Option.some.inj hm
  exact Bx ⟨.inl R,_,.cons (.tmp _ _ R) .nil,[0,1,2,3,4,5,6,7,8,9],_,R,ob,cap,ob2,cap2,ob3,cap3,ob4,cap4,b2,R,R⟩
 refine Ak<|Ae<|Ab tbk [0] 5 R R<|Bd hm fun x h4 hm=>Cq 3 R (gl_pos T_api_Machine.vv h4) fun b5 h5=> ?_
 subst h5
 refine Aa R R (Cs T_api_Machine.vv R R el39 h4)<|Aa R R (Ck (i:=3) (y:=T_api_Machine.vv x) R R R (gl_map _ (gl_some h4).2) ld68 R)<|Ad R R<|Aq z68 fun b6=>Ad R R<|Al (i:=0) R R R ld68 R R R<|Ac<|Ae<|Aa R R (Ai R)<|Bb (Bg [0,10,1,2,3,4,5,6,7,8,9] R)<|Ad R R<|Ax hm 2 R fn70 R (K154 _ _ _ _) fun r3 hm=>Aa R R (Aj R)<|Ac<|Ag<|Af tbk [] R R<|An hm R (fun h8 hm=>?_) fun h8 hm=> ?_
 ·refine Bw (Bg [2,5,0,1,3,4,6,7,8,9,10] R)<|Bn 2 mixed<|A6 tbk [0,1,2,4,5] [0] (by kernel_rfl) R R R<|Am 3 (by kernel_rfl)<|Ao R R R<|Cb (B6 (i:=0) R R ld39 R)<|Bd hm fun x2 h9 hm=>Ba 6 R R R (by kernel_rfl) (Cs T_api_Machine.vv R R el39 h9)<|Am 7 (by kernel_rfl)<|Ao R R R<|D8 1 (f:=T_api_Machine.vv) (l:=w.ms) (q:=x2) (q':=r3.2) R R R R h9 ld68 R R R R ⟨R,List.all_eq_true.1 R⟩<|Dr (Shift.cst (F:=fun zv=>[.box b 43 [.ptr b3 0,Z139 ob w.groups cap,Z103 ob2 w.budgets cap2,zv,Z64 ob4 w.bs cap4,.map b2],Q68 (some b5) cap3 (List.set w.ms (r2).toNat r3.2)]) (congrArg (fun zn=>VV.sl (some b5) zn cap3) (len_set T_api_Machine.vv w.ms (r2).toNat r3.2)))<|Dr (C5 16 (List.map T_api_Machine.vv (List.set w.ms (r2).toNat r3.2)).length R (len_set _ _ _ _))<|Dr (C5 24 (List.map T_api_Machine.vv (List.set w.ms (r2).toNat r3.2)).length R (len_set _ _ _ _))<|Dr (C5 35 (List.map T_api_Machine.vv (List.set w.ms (r2).toNat r3.2)).length R (len_set _ _ _ _))<|A5 (by kernel_rfl)<|Af tbk [] R R<|?_
  obtain rfl:=Option.some.inj hm
  exact Bx ⟨.inl R,_,.cons (.tmp _ _ R) .nil,[0,4,5,1,6,7,8,9,10,3],_,R,ob,cap,ob2,cap2,(some b5),cap3,ob4,cap4,b2,R,R⟩
 refine Ak<|Af tbk [] R R<|?_
 obtain rfl:=Option.some.inj hm
 exact Bx ⟨.inl R,_,.cons (.tmp _ _ R) .nil,[2,3,4,5,6,7,8,9,10,1],_,R,ob,cap,ob2,cap2,(some b5),cap3,ob4,cap4,b2,R,R⟩

/-! (*trireme/world.World).Ready -/
def world_World_Ready_x (w : T_world_World) (c : T_cloud_Cloud) (name : ByteArray) (is : Bool) : Option (Int × T_world_World) :=
 (world_World_on_world_World_Ready_1_x w c name is).bind fun r =>
 some (r.1, r.2)
theorem K156 (A0 A1 : Nat) (w : T_world_World) (c : T_cloud_Cloud) (name : ByteArray) (is : Bool) (b : Nat) (ob : Option Nat) (cap : Nat) (ob2 : Option Nat) (cap2 : Nat) (ob3 : Option Nat) (cap3 : Nat) (ob4 : Option Nat) (cap4 : Nat) (b2 : Nat) (b3 : Nat) (ob5 : Option Nat) (cap5 : Nat) (ob6 : Option Nat) (cap6 : Nat) : ∀ r : Int × T_world_World, world_World_Ready_x w c name is = some r → VC Tryz.prog 14 [.ptr b 0, .str name, .bool is] [.box b 43 [.ptr b3 0, Z139 ob w.groups cap, Z103 ob2 w.budgets cap2, Z68 ob3 w.ms cap3, Z64 ob4 w.bs cap4, .map b2], Q139 ob cap w.groups, Q103 ob2 cap2 w.budgets, Q68 ob3 cap3 w.ms, Q64 ob4 cap4 w.bs, .map b2 (List.map (pf VV.str (VV.int .i64)) w.held), .box b3 149 [Z140 A0 A1 ob5 c.pools cap5, Z152 A0 A1 ob6 c.insts cap6, Iw c.delay, Iw c.now, Iw c.calls], Q140 A0 A1 ob5 cap5 c.pools, Q152 A0 A1 ob6 cap6 c.insts] fun zx zH => ∃ (ob0_1 : Option Nat) (cap0_1 : Nat) (ob0_2 : Option Nat) (cap0_2 : Nat) (ob0_3 : Option Nat) (cap0_3 : Nat) (ob0_4 : Option Nat) (cap0_4 : Nat) (b0_5 : Nat), zx = Iw r.1 ∧ zH = [.box b 43 [.ptr b3 0, Z139 ob0_1 r.2.groups cap0_1, Z103 ob0_2 r.2.budgets cap0_2, Z68 ob0_3 r.2.ms cap0_3, Z64 ob0_4 r.2.bs cap0_4, .map b0_5], Q139 ob0_1 cap0_1 r.2.groups, Q103 ob0_2 cap0_2 r.2.budgets, Q68 ob0_3 cap0_3 r.2.ms, Q64 ob0_4 cap0_4 r.2.bs, .map b0_5 (List.map (pf VV.str (VV.int .i64)) r.2.held), .box b3 149 [Z140 A0 A1 ob5 c.pools cap5, Z152 A0 A1 ob6 c.insts cap6, Iw c.delay, Iw c.now, Iw c.calls], Q140 A0 A1 ob5 cap5 c.pools, Q152 A0 A1 ob6 cap6 c.insts] := by
 refine Cw [.tmp 6] Tryz.func14 R R R fun r hm=>?_
 unfold world_World_Ready_x at hm
 refine Ae<|Ad R R<|Bi R R fun b4=>Aa R R (Aj R)<|Ac<|Ae<|Ab tbk [] 2 R R<|Aa R R (C6 R R)<|Bd hm fun r h2 hm=>Bb (Bg [1,2,3,4,5,6,7,8,9,0] R)<|Ad R R<|Aw 10 R fn69 R (K155 A0 A1 w c name is b ob cap ob2 cap2 ob3 cap3 ob4 cap4 b2 b3 ob5 cap5 ob6 cap6 b4 r h2) fun _ _ h3=> ?_
 obtain ⟨ob7,cap7,ob8,cap8,ob9,cap9,ob10,cap10,b5,rfl,rfl⟩:=h3
 refine Aa R R (Aj R)<|Ac<|?_
 obtain rfl:=Option.some.inj hm
 exact Bx ⟨.inl R,_,.cons (.tmp _ _ R) .nil,[0,1,2,3,4,5,6,7,8],_,R,ob7,cap7,ob8,cap8,ob9,cap9,ob10,cap10,b5,R,R⟩

/-! (*trireme/world.World).Hold -/
def world_World_Hold_x (w : T_world_World) (c : T_cloud_Cloud) (name : ByteArray) (is : Bool) (pools : List T_cloud_pool) (insts : List T_cloud_inst) : Option (Int × T_world_World) :=
 (world_World_there_x w c).bind fun r =>
 (world_World_names w c pools insts).bind fun r2 =>
 if (((V.mg r2 name).getD 0) == 0) = true then
  some (16, w)
 else
  (yard_Find w.ms name).bind fun r3 =>
  if (decide (r3 ≥ 0)) = true then
   some (22, w)
  else
   if is = true then
    some (0, (⟨(), w.groups, w.budgets, w.ms, w.bs, (V.mp (V.md w.held name) name 1)⟩ : T_world_World))
   else
    some (0, (⟨(), w.groups, w.budgets, w.ms, w.bs, (V.md w.held name)⟩ : T_world_World))
theorem K157 (A0 A1 : Nat) (w : T_world_World) (c : T_cloud_Cloud) (name : ByteArray) (is : Bool) (pools : List T_cloud_pool) (insts : List T_cloud_inst) (b : Nat) (ob : Option Nat) (cap : Nat) (ob2 : Option Nat) (cap2 : Nat) (ob3 : Option Nat) (cap3 : Nat) (ob4 : Option Nat) (cap4 : Nat) (b2 : Nat) (b3 : Nat) (ob5 : Option Nat) (cap5 : Nat) (ob6 : Option Nat) (cap6 : Nat) (bs : List Nat) (bs2 : List Nat) : ∀ r : Int × T_world_World, world_World_Hold_x w c name is pools insts = some r → VC Tryz.prog 15 [.ptr b 0, .str name, .bool is] [.box b 43 [.ptr b3 0, Z139 ob w.groups cap, Z103 ob2 w.budgets cap2, Z68 ob3 w.ms cap3, Z64 ob4 w.bs cap4, .map b2], Q139 ob cap w.groups, Q103 ob2 cap2 w.budgets, Q68 ob3 cap3 w.ms, Q64 ob4 cap4 w.bs, .map b2 (List.map (pf VV.str (VV.int .i64)) w.held), .box b3 149 [Z140 A0 A1 ob5 c.pools cap5, Z152 A0 A1 ob6 c.insts cap6, Iw c.delay, Iw c.now, Iw c.calls], Q140 A0 A1 ob5 cap5 c.pools, Q152 A0 A1 ob6 cap6 c.insts, .ar A0 144 bs (List.map T_cloud_pool.cells pools), .ar A1 157 bs2 (List.map (T_cloud_inst.cells A0 A1) insts)] fun zx zH => ∃ (ob0_1 : Option Nat) (cap0_1 : Nat) (ob0_2 : Option Nat) (cap0_2 : Nat) (ob0_3 : Option Nat) (cap0_3 : Nat) (ob0_4 : Option Nat) (cap0_4 : Nat) (b0_5 : Nat), zx = Iw r.1 ∧ zH = [.box b 43 [.ptr b3 0, Z139 ob0_1 r.2.groups cap0_1, Z103 ob0_2 r.2.budgets cap0_2, Z68 ob0_3 r.2.ms cap0_3, Z64 ob0_4 r.2.bs cap0_4, .map b0_5], Q139 ob0_1 cap0_1 r.2.groups, Q103 ob0_2 cap0_2 r.2.budgets, Q68 ob0_3 cap0_3 r.2.ms, Q64 ob0_4 cap0_4 r.2.bs, .map b0_5 (List.map (pf VV.str (VV.int .i64)) r.2.held), .box b3 149 [Z140 A0 A1 ob5 c.pools cap5, Z152 A0 A1 ob6 c.insts cap6, Iw c.delay, Iw c.now, Iw c.calls], Q140 A0 A1 ob5 cap5 c.pools, Q152 A0 A1 ob6 cap6 c.insts, .ar A0 144 bs (List.map T_cloud_pool.cells pools), .ar A1 157 bs2 (List.map (T_cloud_inst.cells A0 A1) insts)] := by
 refine Cw [.tmp 6] Tryz.func15 R R R fun r hm=>?_
 unfold world_World_Hold_x at hm
 refine Af tbk [] R R<|Ag<|Au<|Ae<|Aa R R (Ai R)<|Bd hm fun r h1 hm=>Ad R R<|Aw 9 R fn60 R (K63 A0 A1 w c b ob cap ob2 cap2 ob3 cap3 ob4 cap4 b2 b3 ob5 cap5 ob6 cap6 r h1) fun _ _ h8=> ?_
 obtain ⟨rfl,rfl⟩:=h8
 refine Ab tbk [] 2 R R<|Ac<|Bp R (congrArg not (Option.some.inj (show some true = some r from h1)).symm)<|Ae<|Aa R R (Ai R)<|Ad R R<|D0 hm 11 R fn71 R (K81 A0 A1 _ _ _ _ _ _ _ _ _ _ _ _ _ _ _ _ _ _ _ _ _) fun r2 b4 hm=>Aa R R (Ai R)<|Aa R R (Ct 0 (kf:=VV.str) (vf:=(VV.int .i64)) (l:=r2) (k:=name) (z:=(0 : Int)) false mk9 B4 R R R zc3 R)<|Ab tbk [] 2 R R<|Ac<|An hm R (fun h4 hm=>?_) fun h4 hm=> ?_
 ·refine Af tbk [] R R<|?_
  obtain rfl:=Option.some.inj hm
  exact Bx ⟨.inl R,_,.cons (.tmp _ _ R) .nil,[1,2,3,4,5,6,7,8,9,10,11],_,R,ob,cap,ob2,cap2,ob3,cap3,ob4,cap4,b2,R,R⟩
 refine Ae<|Ab tbk [1] 5 R R<|Ad R R<|Dj hm (A7 (H':=[.map b4 (List.map (pf VV.str (VV.int .i64)) r2),.box b 43 [.ptr b3 0,Z139 ob w.groups cap,Z103 ob2 w.budgets cap2,L68 w.ms,Z64 ob4 w.bs cap4,.map b2],Q139 ob cap w.groups,Q103 ob2 cap2 w.budgets,Q64 ob4 cap4 w.bs,.map b2 (List.map (pf VV.str (VV.int .i64)) w.held),.box b3 149 [Z140 A0 A1 ob5 c.pools cap5,Z152 A0 A1 ob6 c.insts cap6,Iw c.delay,Iw c.now,Iw c.calls],Q140 A0 A1 ob5 cap5 c.pools,Q152 A0 A1 ob6 cap6 c.insts,.ar A0 144 bs (List.map T_cloud_pool.cells pools),.ar A1 157 bs2 (List.map (T_cloud_inst.cells A0 A1) insts)]) 4 [(21,L68 w.ms)] R ⟨⟨_,R,.here _ R⟩,trivial⟩ (by exact ⟨.same _,.box _ _ _ _ ⟨.same _,.same _,.same _,.here _ R,.same _,.same _,trivial⟩,.same _,.same _,.same _,.same _,.same _,.same _,.same _,.same _,.same _,trivial⟩)) [.same,.same] R fn72 R (K46 _ _) (fun _=>R) (fun _=>R) fun r3 hm=>Ab tbk [] 2 R R<|Ac<|An hm R (fun h6 hm=>?_) fun h6 hm=> ?_
 ·refine Af tbk [] R R<|?_
  obtain rfl:=Option.some.inj hm
  exact Bx ⟨.inl R,_,.cons (.tmp _ _ R) .nil,[1,2,3,4,5,6,7,8,9,10,11],_,R,ob,cap,ob2,cap2,ob3,cap3,ob4,cap4,b2,R,R⟩
 refine Ak<|Ae<|Ab tbk [1] 5 R R<|Ad R R<|VO.mapDelete 6 (kf:=VV.str) (vf:=(VV.int .i64)) (l:=w.held) (k:=name) mk9 B4 R R R R<|Ac<|Ag<|Af tbk [] R R<|An hm R (fun h7 hm=>?_) fun h7 hm=> ?_
 ·refine B2<|Ab tbk [1] 5 R R<|Ad R R<|Da 6 (kf:=VV.str) (vf:=(VV.int .i64)) (l:=(V.md w.held name)) (k:=name) (z:=(1 : Int)) mk9 B4 R R R R<|Ac<|Af tbk [] R R<|?_
  obtain rfl:=Option.some.inj hm
  exact Bx ⟨.inl R,_,.cons (.tmp _ _ R) .nil,[1,2,3,4,5,6,7,8,9,10,11],_,R,ob,cap,ob2,cap2,ob3,cap3,ob4,cap4,b2,R,R⟩
 refine Ak<|Af tbk [] R R<|?_
 obtain rfl:=Option.some.inj hm
 exact Bx ⟨.inl R,_,.cons (.tmp _ _ R) .nil,[1,2,3,4,5,6,7,8,9,10,11],_,R,ob,cap,ob2,cap2,ob3,cap3,ob4,cap4,b2,R,R⟩

/-! (*trireme/world.World).Budgets -/
def world_World_Budgets_x (w : T_world_World) (c : T_cloud_Cloud) : Option (List T_api_Budget) :=
 (world_World_there_x w c).bind fun r =>
 (world_own w.budgets).bind fun r2 =>
 some r2
theorem K158 (A0 A1 : Nat) (w : T_world_World) (c : T_cloud_Cloud) (b : Nat) (ob : Option Nat) (cap : Nat) (ob2 : Option Nat) (cap2 : Nat) (ob3 : Option Nat) (cap3 : Nat) (ob4 : Option Nat) (cap4 : Nat) (b2 : Nat) (b3 : Nat) (ob5 : Option Nat) (cap5 : Nat) (ob6 : Option Nat) (cap6 : Nat) : VS2 Tryz.prog 21 (world_World_Budgets_x w c) [.ptr b 0] [.box b 43 [.ptr b3 0, Z139 ob w.groups cap, Z103 ob2 w.budgets cap2, Z68 ob3 w.ms cap3, Z64 ob4 w.bs cap4, .map b2], Q139 ob cap w.groups, Q103 ob2 cap2 w.budgets, Q68 ob3 cap3 w.ms, Q64 ob4 cap4 w.bs, .map b2 (List.map (pf VV.str (VV.int .i64)) w.held), .box b3 149 [Z140 A0 A1 ob5 c.pools cap5, Z152 A0 A1 ob6 c.insts cap6, Iw c.delay, Iw c.now, Iw c.calls], Q140 A0 A1 ob5 cap5 c.pools, Q152 A0 A1 ob6 cap6 c.insts] (fun r ob0 cap0=>Z103 ob0 r cap0) (fun r ob0 cap0=>[Q103 ob0 cap0 r, .box b 43 [.ptr b3 0, Z139 ob w.groups cap, Z103 ob2 w.budgets cap2, Z68 ob3 w.ms cap3, Z64 ob4 w.bs cap4, .map b2], Q139 ob cap w.groups, Q103 ob2 cap2 w.budgets, Q68 ob3 cap3 w.ms, Q64 ob4 cap4 w.bs, .map b2 (List.map (pf VV.str (VV.int .i64)) w.held), .box b3 149 [Z140 A0 A1 ob5 c.pools cap5, Z152 A0 A1 ob6 c.insts cap6, Iw c.delay, Iw c.now, Iw c.calls], Q140 A0 A1 ob5 cap5 c.pools, Q152 A0 A1 ob6 cap6 c.insts]) := by
 refine Cz [.tmp 2] Tryz.func21 R R R fun r hm=>?_
 unfold world_World_Budgets_x at hm
 refine Af tbk [] R R<|Ag<|Ae<|Aa R R (Ai R)<|Bd hm fun r h1 hm=>Ad R R<|Aw 9 R fn60 R (K63 A0 A1 w c b ob cap ob2 cap2 ob3 cap3 ob4 cap4 b2 b3 ob5 cap5 ob6 cap6 r h1) fun _ _ h5=> ?_
 obtain ⟨rfl,rfl⟩:=h5
 refine Aa R R (Ci R)<|Ac<|Bp R (congrArg not (Option.some.inj (show some true = some r from h1)).symm)<|Ak<|Ae<|Ab tbk [0] 4 R R<|Bd hm fun r2 h2 hm=>Ad R R<|D5 [103] (LS.freezeE [103] (H':=[.box b 43 [.ptr b3 0,Z139 ob w.groups cap,L103 w.budgets,Z68 ob3 w.ms cap3,Z64 ob4 w.bs cap4,.map b2],Q139 ob cap w.groups,Q68 ob3 cap3 w.ms,Q64 ob4 cap4 w.bs,.map b2 (List.map (pf VV.str (VV.int .i64)) w.held),.box b3 149 [Z140 A0 A1 ob5 c.pools cap5,Z152 A0 A1 ob6 c.insts cap6,Iw c.delay,Iw c.now,Iw c.calls],Q140 A0 A1 ob5 cap5 c.pools,Q152 A0 A1 ob6 cap6 c.insts]) 2 [(9,L103 w.budgets)] R R ⟨⟨_,R,.here _ R⟩,trivial⟩ (by exact ⟨.box _ _ _ _ ⟨.same _,.same _,.here _ R,.same _,.same _,.same _,trivial⟩,.same _,.same _,.same _,.same _,.same _,.same _,.same _,trivial⟩)) [.same] R fn80 R (K33 w.budgets r2 h2) fun _ _ h4=> ?_
 obtain ⟨ob7,cap7,rfl,rfl⟩:=h4
 refine ⟨by simp [noT,noTs],by simp [noH,noTs_map no103_103],?_⟩
 exact Aa R R (Aj R)<|Ac<|Rg2 hm R [0,1,2,3,4,5,6,7,8,9] ob7 cap7 (.cons (.tmp _ _ R) .nil) R R

/-! trireme/triremelaw18.known -/
def law18_known (pools : List T_cloud_pool) (insts : List T_cloud_inst) : Option (Bool × List T_cloud_pool × List T_cloud_inst) :=
 (law18_one).bind fun r =>
 (world_New r ([] : List T_api_Budget) 1 pools insts).bind fun r2 =>
 po r2.1 (
  (if ((r2.2.1 != 0) || true) = true then some true else none).bind fun c =>
  if c = true then
   some (false, r2.2.2.1, r2.2.2.2)
  else
   (world_World_AddPod (⟨(⟨#[112]⟩ : ByteArray), (⟨600, 0, 0, 1, 0⟩ : T_api_Res), ([] : List T_api_Label), ([] : List T_api_Label), ([] : List T_api_Term), ([] : List T_api_Toleration), ([] : List Int), ([] : List T_api_Label), false, ([] : List T_api_Label), 0, 0, (⟨#[]⟩ : ByteArray), false, false, false⟩ : T_api_Pod)).bind fun r3 =>
   (world_World_AddPod (⟨(⟨#[113]⟩ : ByteArray), (⟨600, 0, 0, 1, 0⟩ : T_api_Res), ([] : List T_api_Label), ([] : List T_api_Label), ([] : List T_api_Term), ([] : List T_api_Toleration), ([] : List Int), ([] : List T_api_Label), false, ([] : List T_api_Label), 0, 0, (⟨#[]⟩ : ByteArray), false, false, false⟩ : T_api_Pod)).bind fun r4 =>
   (world_World_AddPod (⟨(⟨#[113]⟩ : ByteArray), (⟨600, 0, 0, 1, 0⟩ : T_api_Res), ([] : List T_api_Label), ([] : List T_api_Label), ([] : List T_api_Term), ([] : List T_api_Toleration), ([] : List Int), ([] : List T_api_Label), false, ([] : List T_api_Label), 0, 0, (⟨#[]⟩ : ByteArray), false, false, false⟩ : T_api_Pod)).bind fun r5 =>
   (world_World_Pass r2.2.2.1 r2.2.2.2).bind fun r6 =>
   (world_World_Bounds).bind fun r7 =>
   (if ((r7.length : Int) != 2) = true then some true else (V.gl r7 (0 : Int)).bind fun x2 =>
   some (!(V.seq x2.On (⟨#[103, 45, 49]⟩ : ByteArray)))).bind fun c2 =>
   (if c2 = true then some true else (V.gl r7 (1 : Int)).bind fun x3 =>
   some (!(V.seq x3.On (⟨#[]⟩ : ByteArray)))).bind fun c3 =>
   (if c3 = true then some true else none).bind fun c4 =>
   (if c4 = true then some true else (world_World_Missing r2.2.2.1 r2.2.2.2).bind fun r8 =>
   some ((r8.length : Int) != 1)).bind fun c5 =>
   if c5 = true then
    some (false, r2.2.2.1, r2.2.2.2)
   else
    (world_World_Pass r2.2.2.1 r2.2.2.2).bind fun r9 =>
    (world_World_Bounds).bind fun r10 =>
    (if ((((r3 == 0) && (r4 == 0)) && (r5 == 15)) && ((r10.length : Int) == 2)) = true then (V.gl r10 (1 : Int)).bind fun x4 =>
    some (V.seq x4.On (⟨#[103, 45, 50]⟩ : ByteArray)) else some false).bind fun c6 =>
    (if c6 = true then (world_World_Machines).bind fun r11 =>
    some ((r11.length : Int) == 2) else some false).bind fun c7 =>
    (if c7 = true then (world_World_Missing r2.2.2.1 r2.2.2.2).bind fun r12 =>
    some ((r12.length : Int) == 0) else some false).bind fun c8 =>
    (if c8 = true then none else some false).bind fun c9 =>
    (if c9 = true then (world_World_Evict (⟨#[122]⟩ : ByteArray)).bind fun r13 =>
    some (r13 == 16) else some false).bind fun c10 =>
    (if c10 = true then (world_World_Evict (⟨#[112]⟩ : ByteArray)).bind fun r14 =>
    some (r14 == 0) else some false).bind fun c11 =>
    (if c11 = true then (world_World_Ready (⟨#[120]⟩ : ByteArray) true).bind fun r15 =>
    some (r15 == 16) else some false).bind fun c12 =>
    (if c12 = true then (world_World_Hold (⟨#[103, 45, 49]⟩ : ByteArray) true r2.2.2.1 r2.2.2.2).bind fun r16 =>
    some (r16 == 22) else some false).bind fun c13 =>
    (if c13 = true then (world_World_Budgets).bind fun r17 =>
    some ((r17.length : Int) == 0) else some false).bind fun c14 =>
    some (c14, r2.2.2.1, r2.2.2.2)) fun x =>
 if (((r2.2.1 != 0) || false) || false) = true then
  some (false, r2.2.2.1, r2.2.2.2)
 else
  (world_World_AddPod_x x.1 x.2 (⟨(⟨#[112]⟩ : ByteArray), (⟨600, 0, 0, 1, 0⟩ : T_api_Res), ([] : List T_api_Label), ([] : List T_api_Label), ([] : List T_api_Term), ([] : List T_api_Toleration), ([] : List Int), ([] : List T_api_Label), false, ([] : List T_api_Label), 0, 0, (⟨#[]⟩ : ByteArray), false, false, false⟩ : T_api_Pod)).bind fun r18 =>
  (world_World_AddPod_x r18.2 x.2 (⟨(⟨#[113]⟩ : ByteArray), (⟨600, 0, 0, 1, 0⟩ : T_api_Res), ([] : List T_api_Label), ([] : List T_api_Label), ([] : List T_api_Term), ([] : List T_api_Toleration), ([] : List Int), ([] : List T_api_Label), false, ([] : List T_api_Label), 0, 0, (⟨#[]⟩ : ByteArray), false, false, false⟩ : T_api_Pod)).bind fun r19 =>
  (world_World_AddPod_x r19.2 x.2 (⟨(⟨#[113]⟩ : ByteArray), (⟨600, 0, 0, 1, 0⟩ : T_api_Res), ([] : List T_api_Label), ([] : List T_api_Label), ([] : List T_api_Term), ([] : List T_api_Toleration), ([] : List Int), ([] : List T_api_Label), false, ([] : List T_api_Label), 0, 0, (⟨#[]⟩ : ByteArray), false, false, false⟩ : T_api_Pod)).bind fun r20 =>
  (world_World_Pass_x r20.2 x.2 r2.2.2.1 r2.2.2.2).bind fun r21 =>
  (world_World_Bounds_x r21.1 r21.2.1).bind fun r22 =>
  (if ((r22.length : Int) != 2) = true then some true else (V.gl r22 (0 : Int)).bind fun x5 =>
  some (!(V.seq x5.On (⟨#[103, 45, 49]⟩ : ByteArray)))).bind fun c15 =>
  (if c15 = true then some true else (V.gl r22 (1 : Int)).bind fun x6 =>
  some (!(V.seq x6.On (⟨#[]⟩ : ByteArray)))).bind fun c16 =>
  if c16 = true then
   some (false, r2.2.2.1, r21.2.2)
  else
   (cloud_Cloud_Increase r21.2.1 (⟨#[103]⟩ : ByteArray) 1 r2.2.2.1 r21.2.2).bind fun r24 =>
   (if (r24.1 != 0) = true then some true else (world_World_Missing_x r21.1 r24.2.1 r24.2.2.1 r24.2.2.2).bind fun r25 =>
   some ((r25.length : Int) != 1)).bind fun c17 =>
   if c17 = true then
    some (false, r24.2.2.1, r24.2.2.2)
   else
    (world_World_Pass_x r21.1 r24.2.1 r24.2.2.1 r24.2.2.2).bind fun r26 =>
    (world_World_Bounds_x r26.1 r26.2.1).bind fun r27 =>
    (if ((((r18.1 == 0) && (r19.1 == 0)) && (r20.1 == 15)) && ((r27.length : Int) == 2)) = true then (V.gl r27 (1 : Int)).bind fun x7 =>
    some (V.seq x7.On (⟨#[103, 45, 50]⟩ : ByteArray)) else some false).bind fun c18 =>
    (if c18 = true then (world_World_Machines_x r26.1 r26.2.1).bind fun r28 =>
    some ((r28.length : Int) == 2) else some false).bind fun c19 =>
    (if c19 = true then (world_World_Missing_x r26.1 r26.2.1 r24.2.2.1 r26.2.2).bind fun r29 =>
    some ((r29.length : Int) == 0) else some false).bind fun c20 =>
    (if c20 = true then (cloud_Cloud_Now r26.2.1).bind fun r30 =>
    some (r30 == 2) else some false).bind fun c21 =>
    if c21 = true then
     (world_World_Evict_x r26.1 r26.2.1 (⟨#[122]⟩ : ByteArray)).bind fun r32 =>
     if (r32.1 == 16) = true then
      (world_World_Evict_x r32.2 r26.2.1 (⟨#[112]⟩ : ByteArray)).bind fun r34 =>
      if (r34.1 == 0) = true then
       (world_World_Ready_x r34.2 r26.2.1 (⟨#[120]⟩ : ByteArray) true).bind fun r36 =>
       if (r36.1 == 16) = true then
        (world_World_Hold_x r36.2 r26.2.1 (⟨#[103, 45, 49]⟩ : ByteArray) true r24.2.2.1 r26.2.2).bind fun r38 =>
        (if (r38.1 == 22) = true then (world_World_Budgets_x r38.2 r26.2.1).bind fun r39 =>
        some ((r39.length : Int) == 0) else some false).bind fun c22 =>
        some (c22, r24.2.2.1, r26.2.2)
       else
        some (false, r24.2.2.1, r26.2.2)
      else
       some (false, r24.2.2.1, r26.2.2)
     else
      some (false, r24.2.2.1, r26.2.2)
    else
     some (false, r24.2.2.1, r26.2.2)
theorem K159 (A0 A1 : Nat) (pools : List T_cloud_pool) (insts : List T_cloud_inst) (bs : List Nat) (bs2 : List Nat) : ∀ r : Bool × List T_cloud_pool × List T_cloud_inst, law18_known pools insts = some r → VC Tryz.prog 10 [] [.ar A0 144 bs (List.map T_cloud_pool.cells pools), .ar A1 157 bs2 (List.map (T_cloud_inst.cells A0 A1) insts)] fun zx zH => ∃ (bs_0 : List Nat) (bs_1 : List Nat), zx = .bool r.1 ∧ zH = [.ar A0 144 bs_0 (List.map T_cloud_pool.cells r.2.1), .ar A1 157 bs_1 (List.map (T_cloud_inst.cells A0 A1) r.2.2)] := by
 refine Cw [.tmp 0] Tryz.func10 R R R fun r hm=>?_
 unfold law18_known at hm
 refine Af tbk [] R R<|Ae<|Ad R R<|Ax hm 0 R fn58 R (K51) fun r hm=>Bd hm fun r2 h2 hm=>Ad R R<|D6 2 [.same,.nil 103,.same] R fn30 R (K49 A0 A1 r ([] : List T_api_Budget) (1 : Int) pools insts bs bs2 r2 h2) fun _ _ h149=> ?_
 obtain ⟨b,b2,ob,cap,ob2,cap2,ob3,cap3,ob4,cap4,ob5,cap5,ob6,cap6,b3,bs3,bs4,rfl,rfl⟩:=h149
 rcases po_or hm with ⟨h148,hm⟩ | ⟨x,h148,hm⟩
 ·rw [h148]
  refine Ab tbk [] 5 R R<|Ac<|Ag<|Ae<|Ab tbk [] 3 R R<|C3 3 19 16 R (fun K' J=>Ab tbk [] 3 R R<|J 2 R R R) (fun h12 K' J=>Bf R R R R R (Ai R)<|Bf R R R R R (Dk C4 R R)<|Aa R R (Bq false R R R)<|J 2 R R R)<|Aa R R (Ai R)<|Bh hm 6 26 20 R (fun _ K' h13 J hm=>Ab tbk [] 6 R R<|J 5 R R (Bj hm)) (fun _ K' h13 J hm=>Bf R R R R R (Ai R)<|absurd hm nofun) fun c hm=>Ac<|An hm R (fun h15 hm=>?_) fun h15 hm=> ?_
  ·refine Af tbk [] R R<|?_
   obtain rfl:=Option.some.inj hm
   exact Bx ⟨.inl R,_,.cons (.tmp _ _ R) .nil,[0,1],_,R,bs3,bs4,R,R⟩
  refine Ak<|Ae<|Aa R R (Bo pl23 R R)<|Aa R R (Bo pl29 R R)<|Ad R R<|Aq z29 fun b4=>Ad R R<|Al (i:=0) R R R ld29 R R R<|Ac<|Ae<|Aa R R (Bo pl23 R R)<|Aa R R (Bo pl29 R R)<|Ad R R<|Aq z29 fun b5=>Ad R R<|Al (i:=0) R R R ld29 R R R<|Ac<|Ae<|Ab tbk [1] 2 R R<|Ad R R<|VO.cn hm 0 [.same,.agg [none,none,none,none,none,none,some 232,some 232,some 189,some 191,some 3,some 232,none,some 232]] R fn12 R (K53 _) fun r3 hm=>Aa R R (Aj R)<|Ac<|Ae<|Ab tbk [0] 2 R R<|Ad R R<|VO.cn hm 0 [.same,.agg [none,none,none,none,none,none,some 232,some 232,some 189,some 191,some 3,some 232,none,some 232]] R fn12 R (K53 _) fun r4 hm=>Aa R R (Aj R)<|Ac<|Ae<|Ab tbk [0] 2 R R<|Ad R R<|VO.cn hm 0 [.same,.agg [none,none,none,none,none,none,some 232,some 232,some 189,some 191,some 3,some 232,none,some 232]] R fn12 R (K53 _) fun r5 hm=>Aa R R (Aj R)<|Ac<|Ae<|Aa R R (Ai R)<|Bb (Bg [2,3,0,1] R)<|Ad R R<|Ax hm 2 R fn11 R (K54 A0 A1 _ _ _ _) fun r6 hm=>Ac<|Ae<|Aa R R (Ai R)<|Ad R R<|Cp hm 0 R fn20 R (K55) fun r7 ob7 cap7 hm=>Bb (A7 0 [(43,L64 r7)] R ⟨⟨_,R,.here _ R⟩,trivial⟩ (FzH.refl _))<|Aa R R (Aj R)<|Ac<|Ag<|Ae<|Aa R R (Ai R)<|Aa R R (Ay T_api_Bound.vv R Bz)<|Ab tbk [] 2 R R<|Bh hm 6 53 47 R (fun _ K' h24 J hm=>Ab tbk [] 6 R R<|J 5 R R (Bj hm)) (fun _ K' h24 J hm=>Bf R R R R R (Ai R)<|Bd hm fun x2 h25 hm=>Bf R R R R R (Br T_api_Bound.vv R R el40 h25)<|Ab tbk [] 4 R R<|J 5 R R (Bj hm)) fun c2 hm=>Aa R R (Ai R)<|Bh hm 6 60 54 R (fun _ K' h27 J hm=>Ab tbk [] 6 R R<|J 5 R R (Bj hm)) (fun _ K' h27 J hm=>Bf R R R R R (Ai R)<|Bd hm fun x3 h28 hm=>Bf R R R R R (Br T_api_Bound.vv R R el40 h28)<|Ab tbk [] 4 R R<|J 5 R R (Bj hm)) fun c3 hm=>Aa R R (Ai R)<|Bh hm 7 68 61 R (fun _ K' h30 J hm=>Ab tbk [] 7 R R<|J 6 R R (Bj hm)) (fun _ K' h30 J hm=>Bf R R R R R (Ai R)<|absurd hm nofun) fun c4 hm=>Aa R R (Ai R)<|Bh hm 5 74 69 R (fun _ K' h32 J hm=>Ab tbk [] 5 R R<|J 4 R R (Bj hm)) (fun _ K' h32 J hm=>Bf R R R R R (Ai R)<|A8 R R R R R<|Cp hm 2 R fn22 R (K56 A0 A1 _ _ _ _) fun r8 ob8 cap8 hm=>Bb (A7 0 [(71,L70 r8)] R ⟨⟨_,R,.here _ R⟩,trivial⟩ (FzH.refl _))<|Bf R R R R R (Ay T_api_Inst.vv R Cu)<|Ab tbk [] 2 R R<|J 5 R R (Bj hm)) fun c5 hm=>Ac<|?_
  refine An hm R (fun h36 hm=>?_) fun h36 hm=> ?_
  ·refine Af tbk [] R R<|?_
   obtain rfl:=Option.some.inj hm
   exact Bx ⟨.inl R,_,.cons (.tmp _ _ R) .nil,[0,1],_,R,bs3,bs4,R,R⟩
  refine Ak<|Ae<|Aa R R (Ai R)<|Ad R R<|Ax hm 2 R fn11 R (K54 A0 A1 _ _ _ _) fun r9 hm=>Ac<|Ae<|Aa R R (Ai R)<|Ad R R<|Cp hm 0 R fn20 R (K55) fun r10 ob9 cap9 hm=>Bb (A7 0 [(78,L64 r10)] R ⟨⟨_,R,.here _ R⟩,trivial⟩ (FzH.refl _))<|Aa R R (Aj R)<|Ac<|Ae<|Ab tbk [] 3 R R<|Cd tbk [] 3 84 81 R R R R R<|Aa R R (Ai R)<|Cd tbk [] 3 88 85 R R R R R<|Aa R R (Ai R)<|Dg 4 93 89 R (fun h42 K' J=>Bf R R R R R (Ai R)<|Bf R R R R R (Ay T_api_Bound.vv R Bz)<|Ab tbk [] 2 R R<|J 3 R R R) (fun K' J=>Ab tbk [] 4 R R<|J 3 R R R)<|Aa R R (Ai R)<|Bh hm 6 100 94 R (fun _ K' h43 J hm=>Bf R R R R R (Ai R)<|Bd hm fun x4 h44 hm=>Bf R R R R R (Br T_api_Bound.vv R R el40 h44)<|Ab tbk [] 4 R R<|J 5 R R (Bj hm)) (fun _ K' h43 J hm=>Ab tbk [] 6 R R<|J 5 R R (Bj hm)) fun c6 hm=>Aa R R (Ai R)<|Bh hm 5 106 101 R (fun _ K' h46 J hm=>Bf R R R R R (Ai R)<|A8 R R R R R<|Cp hm 0 R fn19 R (K57) fun r11 ob10 cap10 hm=>Bb (A7 0 [(103,L68 r11)] R ⟨⟨_,R,.here _ R⟩,trivial⟩ (FzH.refl _))<|Bf R R R R R (Ay T_api_Machine.vv R Ch)<|Ab tbk [] 2 R R<|J 5 R R (Bj hm)) (fun _ K' h46 J hm=>Ab tbk [] 5 R R<|J 4 R R (Bj hm)) fun c7 hm=>Aa R R (Ai R)<|Bh hm 5 112 107 R (fun _ K' h50 J hm=>Bf R R R R R (Ai R)<|A8 R R R R R<|Cp hm 2 R fn22 R (K56 A0 A1 _ _ _ _) fun r12 ob11 cap11 hm=>Bb (A7 0 [(109,L70 r12)] R ⟨⟨_,R,.here _ R⟩,trivial⟩ (FzH.refl _))<|Bf R R R R R (Ay T_api_Inst.vv R Cu)<|Ab tbk [] 2 R R<|J 5 R R (Bj hm)) (fun _ K' h50 J hm=>Ab tbk [] 5 R R<|J 4 R R (Bj hm)) fun c8 hm=>Aa R R (Ai R)<|Bh hm 7 120 113 R (fun _ K' h54 J hm=>Bf R R R R R (Ai R)<|absurd hm nofun) (fun _ K' h54 J hm=>Ab tbk [] 7 R R<|J 6 R R (Bj hm)) fun c9 hm=>Aa R R (Ai R)<|Bh hm 4 125 121 R (fun _ K' h56 J hm=>Bf R R R R R (Ai R)<|A8 R R R R R<|Ax hm 0 R fn18 R (K58 _) fun r13 hm=>Ab tbk [] 2 R R<|J 3 R R (Bj hm)) (fun _ K' h56 J hm=>Ab tbk [] 4 R R<|J 3 R R (Bj hm)) fun c10 hm=>Aa R R (Ai R)<|Bh hm 4 130 126 R (fun _ K' h59 J hm=>Bf R R R R R (Ai R)<|A8 R R R R R<|Ax hm 0 R fn18 R (K58 _) fun r14 hm=>Ab tbk [] 2 R R<|J 3 R R (Bj hm)) (fun _ K' h59 J hm=>Ab tbk [] 4 R R<|J 3 R R (Bj hm)) fun c11 hm=>Aa R R (Ai R)<|Bh hm 4 135 131 R (fun _ K' h62 J hm=>Bf R R R R R (Ai R)<|A8 R R R R R<|Ax hm 0 R fn14 R (K60 _ _) fun r15 hm=>Ab tbk [] 2 R R<|J 3 R R (Bj hm)) (fun _ K' h62 J hm=>Ab tbk [] 4 R R<|J 3 R R (Bj hm)) fun c12 hm=>Aa R R (Ai R)<|?_
  refine Bh hm 4 140 136 R (fun _ K' h65 J hm=>Bf R R R R R (Ai R)<|A8 R R R R R<|Ax hm 2 R fn15 R (K61 A0 A1 _ _ _ _ _ _) fun r16 hm=>Ab tbk [] 2 R R<|J 3 R R (Bj hm)) (fun _ K' h65 J hm=>Ab tbk [] 4 R R<|J 3 R R (Bj hm)) fun c13 hm=>Aa R R (Ai R)<|Bh hm 5 146 141 R (fun _ K' h68 J hm=>Bf R R R R R (Ai R)<|A8 R R R R R<|Cp hm 0 R fn21 R (K62) fun r17 ob12 cap12 hm=>Bb (A7 0 [(143,L103 r17)] R ⟨⟨_,R,.here _ R⟩,trivial⟩ (FzH.refl _))<|Bf R R R R R (Ay T_api_Budget.vv R Cr)<|Ab tbk [] 2 R R<|J 5 R R (Bj hm)) (fun _ K' h68 J hm=>Ab tbk [] 5 R R<|J 4 R R (Bj hm)) fun c14 hm=>Aa R R (Aj R)<|Ac<|?_
  obtain rfl:=Option.some.inj hm
  exact Bx ⟨.inl R,_,.cons (.tmp _ _ R) .nil,[0,1],_,R,bs3,bs4,R,R⟩
 ·rw [h148]
  refine Ab tbk [] 5 R R<|Ac<|Ag<|Ae<|Ab tbk [] 3 R R<|C3 3 19 16 R (fun K' J=>Ab tbk [] 3 R R<|J 2 R R R) (fun h72 K' J=>Bf R R R R R (Ai R)<|Bf R R R R R (Dk C4 R R)<|Aa R R (Bq false R R R)<|J 2 R R R)<|Aa R R (Ai R)<|C3 6 26 20 R (fun K' J=>Ab tbk [] 6 R R<|J 5 R R R) (fun h73 K' J=>Ab tbk [0] 4 R R<|Bf R R R R R (Dk Dn R R)<|Aa R R (Bq false R R R)<|J 5 R R R)<|Ac<|An hm R (fun h74 hm=>?_) fun h74 hm=> ?_
  ·refine Af tbk [] R R<|?_
   obtain rfl:=Option.some.inj hm
   exact Bx ⟨.inl R,_,.cons (.tmp _ _ R) .nil,[9,10],_,R,bs3,bs4,R,R⟩
  refine Ak<|Ae<|Aa R R (Bo pl23 R R)<|Aa R R (Bo pl29 R R)<|Ad R R<|Aq z29 fun b6=>Ad R R<|Al (i:=0) R R R ld29 R R R<|Ac<|Ae<|Aa R R (Bo pl23 R R)<|Aa R R (Bo pl29 R R)<|Ad R R<|Aq z29 fun b7=>Ad R R<|Al (i:=0) R R R ld29 R R R<|Ac<|Ae<|Ab tbk [1] 2 R R<|Bd hm fun r18 h77 hm=>Bb (Bg [2,3,4,5,6,7,8,9,10,0,1,11,12] R)<|Ad R R<|D6 9 [.same,.agg [none,none,none,none,none,none,some 232,some 232,some 189,some 191,some 3,some 232,none,some 232]] R fn12 R (K75 A0 A1 x.1 x.2 (⟨(⟨#[112]⟩ : ByteArray),(⟨(600 : Int),(0 : Int),(0 : Int),(1 : Int),(0 : Int)⟩ : T_api_Res),([] : List T_api_Label),([] : List T_api_Label),([] : List T_api_Term),([] : List T_api_Toleration),([] : List Int),([] : List T_api_Label),false,([] : List T_api_Label),(0 : Int),(0 : Int),(⟨#[]⟩ : ByteArray),false,false,false⟩ : T_api_Pod) b ob3 cap3 ob4 cap4 ob5 cap5 ob6 cap6 b3 b2 ob cap ob2 cap2 r18 h77) fun _ _ h147=> ?_
  obtain ⟨ob13,cap13,ob14,cap14,ob15,cap15,ob16,cap16,b8,rfl,rfl⟩:=h147
  refine Aa R R (Aj R)<|Ac<|Ae<|Ab tbk [9] 2 R R<|Bd hm fun r19 h78 hm=>Ad R R<|D6 9 [.same,.agg [none,none,none,none,none,none,some 232,some 232,some 189,some 191,some 3,some 232,none,some 232]] R fn12 R (K75 A0 A1 r18.2 x.2 (⟨(⟨#[113]⟩ : ByteArray),(⟨(600 : Int),(0 : Int),(0 : Int),(1 : Int),(0 : Int)⟩ : T_api_Res),([] : List T_api_Label),([] : List T_api_Label),([] : List T_api_Term),([] : List T_api_Toleration),([] : List Int),([] : List T_api_Label),false,([] : List T_api_Label),(0 : Int),(0 : Int),(⟨#[]⟩ : ByteArray),false,false,false⟩ : T_api_Pod) b ob13 cap13 ob14 cap14 ob15 cap15 ob16 cap16 b8 b2 ob cap ob2 cap2 r19 h78) fun _ _ h146=> ?_
  obtain ⟨ob17,cap17,ob18,cap18,ob19,cap19,ob20,cap20,b9,rfl,rfl⟩:=h146
  refine Aa R R (Aj R)<|Ac<|Ae<|Ab tbk [9] 2 R R<|Bd hm fun r20 h79 hm=>Ad R R<|D6 9 [.same,.agg [none,none,none,none,none,none,some 232,some 232,some 189,some 191,some 3,some 232,none,some 232]] R fn12 R (K75 A0 A1 r19.2 x.2 (⟨(⟨#[113]⟩ : ByteArray),(⟨(600 : Int),(0 : Int),(0 : Int),(1 : Int),(0 : Int)⟩ : T_api_Res),([] : List T_api_Label),([] : List T_api_Label),([] : List T_api_Term),([] : List T_api_Toleration),([] : List Int),([] : List T_api_Label),false,([] : List T_api_Label),(0 : Int),(0 : Int),(⟨#[]⟩ : ByteArray),false,false,false⟩ : T_api_Pod) b ob17 cap17 ob18 cap18 ob19 cap19 ob20 cap20 b9 b2 ob cap ob2 cap2 r20 h79) fun _ _ h145=> ?_
  obtain ⟨ob21,cap21,ob22,cap22,ob23,cap23,ob24,cap24,b10,rfl,rfl⟩:=h145
  refine Aa R R (Aj R)<|Ac<|Ae<|Aa R R (Ai R)<|Bd hm fun r21 h80 hm=>Bb (Bg [0,1,2,3,4,5,6,7,8,11,12,9,10] R)<|Ad R R<|Aw 11 R fn11 R (K141 A0 A1 r20.2 x.2 r2.2.2.1 r2.2.2.2 b ob21 cap21 ob22 cap22 ob23 cap23 ob24 cap24 b10 b2 ob cap ob2 cap2 bs3 bs4 r21 h80) fun _ _ h144=> ?_
  obtain ⟨ob25,cap25,ob26,cap26,ob27,cap27,ob28,cap28,b11,ob29,cap29,ob30,cap30,bs5,rfl,rfl⟩:=h144
  refine Ac<|Ae<|Aa R R (Ai R)<|Ad R R<|Cp hm 9 R fn20 R (K142 A0 A1 _ _ _ _ _ _ _ _ _ _ _ _ _ _ _ _ _) fun r22 ob31 cap31 hm=>Bb (A7 0 [(43,L64 r22)] R ⟨⟨_,R,.here _ R⟩,trivial⟩ (FzH.refl _))<|Aa R R (Aj R)<|Ac<|Ag<|Ae<|Aa R R (Ai R)<|Aa R R (Ay T_api_Bound.vv R Bz)<|Ab tbk [] 2 R R<|Bh hm 6 53 47 R (fun _ K' h83 J hm=>Ab tbk [] 6 R R<|J 5 R R (Bj hm)) (fun _ K' h83 J hm=>Bf R R R R R (Ai R)<|Bd hm fun x5 h84 hm=>Bf R R R R R (Br T_api_Bound.vv R R el40 h84)<|Ab tbk [] 4 R R<|J 5 R R (Bj hm)) fun c15 hm=>Aa R R (Ai R)<|Bh hm 6 60 54 R (fun _ K' h86 J hm=>Ab tbk [] 6 R R<|J 5 R R (Bj hm)) (fun _ K' h86 J hm=>Bf R R R R R (Ai R)<|Bd hm fun x6 h87 hm=>Bf R R R R R (Br T_api_Bound.vv R R el40 h87)<|Ab tbk [] 4 R R<|J 5 R R (Bj hm)) fun c16 hm=>Aa R R (Ai R)<|VR.cs hm 61 R (fun h91 hm=>?_) fun h91 hm=> ?_
  ·refine Ab tbk [] 13 R R<|Ac<|Bm R R<|Af tbk [] R R<|?_
   obtain rfl:=Option.some.inj hm
   exact Bx ⟨.inl R,_,.cons (.tmp _ _ R) .nil,[9,10],_,R,bs3,bs5,R,R⟩
  refine Ab tbk [0] 4 R R<|Bd hm fun r24 h92 hm=>Bb (Bg [6,7,8,9,10,0,1,2,3,4,5,11,12] R)<|A8 R R R R R<|Aw 5 R fn24 R (K145 A0 A1 r21.2.1 (⟨#[103]⟩ : ByteArray) (1 : Int) r2.2.2.1 r21.2.2 b2 ob29 cap29 ob30 cap30 bs3 bs5 r24 h92) fun _ _ h143=> ?_
  obtain ⟨ob34,cap34,ob35,cap35,bs8,bs9,rfl,rfl⟩:=h143
  refine Ab tbk [] 3 R R<|Bh hm 5 74 69 R (fun _ K' h93 J hm=>Ab tbk [] 5 R R<|J 4 R R (Bj hm)) (fun _ K' h93 J hm=>Bf R R R R R (Ai R)<|Bb (Bg [5,6,7,8,9,10,0,1,2,3,4,11,12] R)<|A8 R R R R R<|Cp hm 11 R fn22 R (K146 A0 A1 _ _ _ _ _ _ _ _ _ _ _ _ _ _ _ _ _ _ _ _ _) fun r25 ob36 cap36 hm=>Bb (A7 0 [(71,L70 r25)] R ⟨⟨_,R,.here _ R⟩,trivial⟩ (FzH.refl _))<|Bf R R R R R (Ay T_api_Inst.vv R Cu)<|Ab tbk [] 2 R R<|Bb (Bg [6,7,8,9,10,0,1,2,3,4,5,11,12] R)<|J 5 R R (Bj hm)) fun c17 hm=>Ac<|An hm R (fun h97 hm=>?_) fun h97 hm=> ?_
  ·refine Af tbk [] R R<|?_
   obtain rfl:=Option.some.inj hm
   exact Bx ⟨.inl R,_,.cons (.tmp _ _ R) .nil,[3,4],_,R,bs8,bs9,R,R⟩
  refine Ak<|Ae<|Aa R R (Ai R)<|Bd hm fun r26 h98 hm=>Bb (Bg [5,6,7,8,9,10,0,1,2,3,4,11,12] R)<|Ad R R<|Aw 11 R fn11 R (K141 A0 A1 r21.1 r24.2.1 r24.2.2.1 r24.2.2.2 b ob25 cap25 ob26 cap26 ob27 cap27 ob28 cap28 b11 b2 ob34 cap34 ob35 cap35 bs8 bs9 r26 h98) fun _ _ h142=> ?_
  obtain ⟨ob37,cap37,ob38,cap38,ob39,cap39,ob40,cap40,b12,ob41,cap41,ob42,cap42,bs10,rfl,rfl⟩:=h142
  refine Ac<|Ae<|Aa R R (Ai R)<|Ad R R<|Cp hm 9 R fn20 R (K142 A0 A1 _ _ _ _ _ _ _ _ _ _ _ _ _ _ _ _ _) fun r27 ob43 cap43 hm=>Bb (A7 0 [(78,L64 r27)] R ⟨⟨_,R,.here _ R⟩,trivial⟩ (FzH.refl _))<|Aa R R (Aj R)<|Ac<|Ae<|Ab tbk [] 3 R R<|Cd tbk [] 3 84 81 R R R R R<|Aa R R (Ai R)<|Cd tbk [] 3 88 85 R R R R R<|Aa R R (Ai R)<|Dg 4 93 89 R (fun h103 K' J=>Bf R R R R R (Ai R)<|Bf R R R R R (Ay T_api_Bound.vv R Bz)<|Ab tbk [] 2 R R<|J 3 R R R) (fun K' J=>Ab tbk [] 4 R R<|J 3 R R R)<|Aa R R (Ai R)<|Bh hm 6 100 94 R (fun _ K' h104 J hm=>Bf R R R R R (Ai R)<|Bd hm fun x7 h105 hm=>Bf R R R R R (Br T_api_Bound.vv R R el40 h105)<|Ab tbk [] 4 R R<|J 5 R R (Bj hm)) (fun _ K' h104 J hm=>Ab tbk [] 6 R R<|J 5 R R (Bj hm)) fun c18 hm=>Aa R R (Ai R)<|Bh hm 5 106 101 R (fun _ K' h107 J hm=>Bf R R R R R (Ai R)<|A8 R R R R R<|Cp hm 9 R fn19 R (K147 A0 A1 _ _ _ _ _ _ _ _ _ _ _ _ _ _ _ _ _) fun r28 ob44 cap44 hm=>Bb (A7 0 [(103,L68 r28)] R ⟨⟨_,R,.here _ R⟩,trivial⟩ (FzH.refl _))<|Bf R R R R R (Ay T_api_Machine.vv R Ch)<|Ab tbk [] 2 R R<|J 5 R R (Bj hm)) (fun _ K' h107 J hm=>Ab tbk [] 5 R R<|J 4 R R (Bj hm)) fun c19 hm=>Aa R R (Ai R)<|Bh hm 5 112 107 R (fun _ K' h111 J hm=>Bf R R R R R (Ai R)<|A8 R R R R R<|Cp hm 11 R fn22 R (K146 A0 A1 _ _ _ _ _ _ _ _ _ _ _ _ _ _ _ _ _ _ _ _ _) fun r29 ob45 cap45 hm=>Bb (A7 0 [(109,L70 r29)] R ⟨⟨_,R,.here _ R⟩,trivial⟩ (FzH.refl _))<|Bf R R R R R (Ay T_api_Inst.vv R Cu)<|Ab tbk [] 2 R R<|J 5 R R (Bj hm)) (fun _ K' h111 J hm=>Ab tbk [] 5 R R<|J 4 R R (Bj hm)) fun c20 hm=>Aa R R (Ai R)<|Bh hm 7 120 113 R (fun _ K' h115 J hm=>Ab tbk [0] 4 R R<|Bb (Bg [6,7,8,0,1,2,3,4,5,9,10,11,12] R)<|A8 R R R R R<|Ax hm 3 R fn59 R (K148 A0 A1 _ _ _ _ _ _) fun r30 hm=>Ab tbk [] 2 R R<|Bb (Bg [3,4,5,6,7,8,0,1,2,9,10,11,12] R)<|J 6 R R (Bj hm)) (fun _ K' h115 J hm=>Ab tbk [] 7 R R<|J 6 R R (Bj hm)) fun c21 hm=>Aa R R (Ai R)<|VR.cs hm 121 R (fun h120 hm=>?_) fun h120 hm=> ?_
  ·refine Bf R R R R R (Ai R)<|Bd hm fun r32 h121 hm=>A8 R R R R R<|Aw 9 R fn18 R (K153 A0 A1 r26.1 r26.2.1 (⟨#[122]⟩ : ByteArray) b ob37 cap37 ob38 cap38 ob39 cap39 ob40 cap40 b12 b2 ob41 cap41 ob42 cap42 r32 h121) fun _ _ h141=> ?_
   obtain ⟨ob50,cap50,ob51,cap51,ob52,cap52,ob53,cap53,b14,rfl,rfl⟩:=h141
   refine Ab tbk [] 3 R R<|VR.cs hm 126 R (fun h124 hm=>?_) fun h124 hm=> ?_
   ·refine Bf R R R R R (Ai R)<|Bd hm fun r34 h125 hm=>A8 R R R R R<|Aw 9 R fn18 R (K153 A0 A1 r32.2 r26.2.1 (⟨#[112]⟩ : ByteArray) b ob50 cap50 ob51 cap51 ob52 cap52 ob53 cap53 b14 b2 ob41 cap41 ob42 cap42 r34 h125) fun _ _ h140=> ?_
    obtain ⟨ob58,cap58,ob59,cap59,ob60,cap60,ob61,cap61,b16,rfl,rfl⟩:=h140
    refine Ab tbk [] 3 R R<|VR.cs hm 131 R (fun h128 hm=>?_) fun h128 hm=> ?_
    ·refine Bf R R R R R (Ai R)<|Bd hm fun r36 h129 hm=>A8 R R R R R<|Aw 9 R fn14 R (K156 A0 A1 r34.2 r26.2.1 (⟨#[120]⟩ : ByteArray) true b ob58 cap58 ob59 cap59 ob60 cap60 ob61 cap61 b16 b2 ob41 cap41 ob42 cap42 r36 h129) fun _ _ h139=> ?_
     obtain ⟨ob66,cap66,ob67,cap67,ob68,cap68,ob69,cap69,b18,rfl,rfl⟩:=h139
     refine Ab tbk [] 3 R R<|VR.cs hm 136 R (fun h132 hm=>?_) fun h132 hm=> ?_
     ·refine Bf R R R R R (Ai R)<|Bd hm fun r38 h133 hm=>A8 R R R R R<|Aw 11 R fn15 R (K157 A0 A1 r36.2 r26.2.1 (⟨#[103,45,49]⟩ : ByteArray) true r24.2.2.1 r26.2.2 b ob66 cap66 ob67 cap67 ob68 cap68 ob69 cap69 b18 b2 ob41 cap41 ob42 cap42 bs8 bs10 r38 h133) fun _ _ h138=> ?_
      obtain ⟨ob74,cap74,ob75,cap75,ob76,cap76,ob77,cap77,b20,rfl,rfl⟩:=h138
      refine Ab tbk [] 3 R R<|Bh hm 5 146 141 R (fun _ K' h134 J hm=>Bf R R R R R (Ai R)<|A8 R R R R R<|Cp hm 9 R fn21 R (K158 A0 A1 _ _ _ _ _ _ _ _ _ _ _ _ _ _ _ _ _) fun r39 ob78 cap78 hm=>Bb (A7 0 [(143,L103 r39)] R ⟨⟨_,R,.here _ R⟩,trivial⟩ (FzH.refl _))<|Bf R R R R R (Ay T_api_Budget.vv R Cr)<|Ab tbk [] 2 R R<|J 5 R R (Bj hm)) (fun _ K' h134 J hm=>Ab tbk [] 5 R R<|J 4 R R (Bj hm)) fun c22 hm=>Aa R R (Aj R)<|Ac<|?_
      obtain rfl:=Option.some.inj hm
      exact Bx ⟨.inl R,_,.cons (.tmp _ _ R) .nil,[9,10],_,R,bs8,bs10,R,R⟩
     refine Ab tbk [] 11 R R<|Ac<|?_
     obtain rfl:=Option.some.inj hm
     exact Bx ⟨.inl R,_,.cons (.tmp _ _ R) .nil,[9,10],_,R,bs8,bs10,R,R⟩
    refine Ab tbk [] 16 R R<|Ac<|?_
    obtain rfl:=Option.some.inj hm
    exact Bx ⟨.inl R,_,.cons (.tmp _ _ R) .nil,[9,10],_,R,bs8,bs10,R,R⟩
   refine Ab tbk [] 21 R R<|Ac<|?_
   obtain rfl:=Option.some.inj hm
   exact Bx ⟨.inl R,_,.cons (.tmp _ _ R) .nil,[9,10],_,R,bs8,bs10,R,R⟩
  refine Ab tbk [] 26 R R<|Ac<|?_
  obtain rfl:=Option.some.inj hm
  exact Bx ⟨.inl R,_,.cons (.tmp _ _ R) .nil,[9,10],_,R,bs8,bs10,R,R⟩

/-! trireme/triremeref05.LightTerm -/
def ref05_LightTerm.l1 (t : T_api_Term) : Nat → Int → Option (Out Bool Unit)
 | 0, _ => none
 | n + 1, i2 =>
  if (decide (i2 < (t.Vals.length : Int))) = true then
   (V.gl t.Vals i2).bind fun x =>
   if (decide ((x.size : Int) > 300)) = true then
    some (Out.ret false)
   else
    ref05_LightTerm.l1 t n (i64.wrap (i2 + 1))
  else
   some (Out.go ())
def ref05_LightTerm (t : T_api_Term) : Option Bool :=
 if ((decide ((t.Vals.length : Int) > 40)) || (decide ((t.Key.size : Int) > 300))) = true then
  some false
 else
  (ref05_LightTerm.l1 t FU (0 : Int)).bind fun o =>
  o.on fun j =>
  some true
theorem K160 (t : T_api_Term) : VS Tryz.prog 122 (ref05_LightTerm t) [T_api_Term.vv t] [] .bool N0 := by
 refine Az [.tmp 2] Tryz.func122 R R R fun r hm=>?_
 unfold ref05_LightTerm at hm
 refine Ae<|Ad R R<|Bi R R fun b=>Aa R R (Aj R)<|Ac<|Ag<|Ae<|Ab tbk [0] 2 R R<|Aa R R (Ay VV.str R Bu)<|Ab tbk [] 2 R R<|C3 5 13 8 R (fun K' J=>Ab tbk [] 5 R R<|J 4 R R R) (fun h2 K' J=>Ab tbk [0] 2 R R<|Bf R R R R R (Ca R Av)<|Ab tbk [] 2 R R<|J 4 R R R)<|Ac<|An hm R (fun h3 hm=>Af tbk [] R R<|Rt1 hm R [] R R R) fun h3 hm=>Ak<|Ag<|Af tbk [] R R<|B1 hm (fun _ (_:Unit)=>[]) (fun _ (_:Unit)=>[]) (fun o hm h5=>?_) fun j _ hm=> ?_
 ·refine B8 (fun zn (zs:Int)=>ref05_LightTerm.l1 t zn zs) (fun zs (_:Unit)=>[(1,.ptr b 0),(3,Iw zs)]) (fun _ (_:Unit)=>[X189 b t]) _ () (fun _=>R) hm (Ah [0] R R) fun n i2 _ hm=> ?_
  rw [ref05_LightTerm.l1] at hm
  exact Ag<|Ae<|Ab tbk [0] 3 R R<|Aa R R (Ay VV.str R Bu)<|Aa R R (Bl R R R)<|Ac<|An hm R (fun h6 hm=>Ak<|Ag<|Au<|Ae<|Ab tbk [0] 3 R R<|Bd hm fun x h7 hm=>Aa R R (Br VV.str R R el61 h7)<|Aa R R (Bs R ld9 R)<|Aa R R (Ca R Av)<|Aa R R (Bl R R R)<|Ac<|An hm R (fun h8 hm=>Af tbk [] R R<|have hm:=Lr hm h5;Rt1 hm R [] R R R) fun h8 hm=>Ak<|A9 tbk [] R R<|Ap _ () hm (Ah [0] R R)) fun h6 hm=>A4<|Ar () hm (Ah [] R R)
 exact Af tbk [] R R<|Rt1 hm R [] R R R

/-! trireme/triremeref07.LightPod -/
def ref07_LightPod.l1 (p : T_api_Pod) : Nat → Int → Option (Out Bool Unit)
 | 0, _ => none
 | n + 1, i2 =>
  if (decide (i2 < (p.Terms.length : Int))) = true then
   (V.gl p.Terms i2).bind fun x =>
   (ref05_LightTerm x).bind fun r6 =>
   if (!r6) = true then
    some (Out.ret false)
   else
    ref07_LightPod.l1 p n (i64.wrap (i2 + 1))
  else
   some (Out.go ())
def ref07_LightPod (p : T_api_Pod) : Option Bool :=
 (if ((((decide ((p.Name.size : Int) > 300)) || (decide ((p.Owner.size : Int) > 300))) || (decide ((p.Terms.length : Int) > 30))) || (decide ((p.Ports.length : Int) > 30))) = true then some true else (ref05_Light p.Labels).bind fun r =>
 some (!r)).bind fun c =>
 (if c = true then some true else (ref05_Light p.Select).bind fun r2 =>
 some (!r2)).bind fun c2 =>
 (if c2 = true then some true else (ref05_Light p.Apart).bind fun r3 =>
 some (!r3)).bind fun c3 =>
 (if c3 = true then some true else (ref05_Light p.Spread).bind fun r4 =>
 some (!r4)).bind fun c4 =>
 (if c4 = true then some true else (ref06_Light p.Bears ([] : List T_api_Taint)).bind fun r5 =>
 some (!r5)).bind fun c5 =>
 if c5 = true then
  some false
 else
  (ref07_LightPod.l1 p FU (0 : Int)).bind fun o =>
  o.on fun j =>
  some true
theorem K161 (p : T_api_Pod) : VS Tryz.prog 56 (ref07_LightPod p) [T_api_Pod.vv p] [] .bool N0 := by
 refine Az [.tmp 2] Tryz.func56 R R R fun r hm=>?_
 unfold ref07_LightPod at hm
 refine Ae<|Ad R R<|Bi R R fun b=>Aa R R (Aj R)<|Ac<|Ag<|Ae<|Ab tbk [0] 2 R R<|Aa R R (Ca R Av)<|Ab tbk [] 2 R R<|C3 5 13 8 R (fun K' J=>Ab tbk [] 5 R R<|J 4 R R R) (fun h2 K' J=>Ab tbk [0] 2 R R<|Bf R R R R R (Ca R Av)<|Ab tbk [] 2 R R<|J 4 R R R)<|Aa R R (Ai R)<|C3 5 19 14 R (fun K' J=>Ab tbk [] 5 R R<|J 4 R R R) (fun h3 K' J=>Ab tbk [0] 2 R R<|Bf R R R R R (Ay T_api_Term.vv R Cv)<|Ab tbk [] 2 R R<|J 4 R R R)<|Aa R R (Ai R)<|C3 5 25 20 R (fun K' J=>Ab tbk [] 5 R R<|J 4 R R R) (fun h4 K' J=>Ab tbk [0] 2 R R<|Bf R R R R R (Ay (VV.int .i64) R Cl)<|Ab tbk [] 2 R R<|J 4 R R R)<|Aa R R (Ai R)<|Bh hm 5 31 26 R (fun _ K' h5 J hm=>Ab tbk [] 5 R R<|J 4 R R (Bj hm)) (fun _ K' h5 J hm=>Ab tbk [0] 2 R R<|A8 R R R R R<|Ax hm 0 R fn121 R (K2 _) fun r hm=>Ab tbk [] 2 R R<|J 4 R R (Bj hm)) fun c hm=>Aa R R (Ai R)<|Bh hm 5 37 32 R (fun _ K' h8 J hm=>Ab tbk [] 5 R R<|J 4 R R (Bj hm)) (fun _ K' h8 J hm=>Ab tbk [0] 2 R R<|A8 R R R R R<|Ax hm 0 R fn121 R (K2 _) fun r2 hm=>Ab tbk [] 2 R R<|J 4 R R (Bj hm)) fun c2 hm=>Aa R R (Ai R)<|Bh hm 5 43 38 R (fun _ K' h11 J hm=>Ab tbk [] 5 R R<|J 4 R R (Bj hm)) (fun _ K' h11 J hm=>Ab tbk [0] 2 R R<|A8 R R R R R<|Ax hm 0 R fn121 R (K2 _) fun r3 hm=>Ab tbk [] 2 R R<|J 4 R R (Bj hm)) fun c3 hm=>Aa R R (Ai R)<|Bh hm 5 49 44 R (fun _ K' h14 J hm=>Ab tbk [] 5 R R<|J 4 R R (Bj hm)) (fun _ K' h14 J hm=>Ab tbk [0] 2 R R<|A8 R R R R R<|Ax hm 0 R fn121 R (K2 _) fun r4 hm=>Ab tbk [] 2 R R<|J 4 R R (Bj hm)) fun c4 hm=>Aa R R (Ai R)<|Bh hm 5 55 50 R (fun _ K' h17 J hm=>Ab tbk [] 5 R R<|J 4 R R (Bj hm)) (fun _ K' h17 J hm=>Ab tbk [0] 2 R R<|A8 R R R R R<|VO.cn hm 0 [.same,.nil 31] R fn57 R (K3 _ _) fun r5 hm=>Ab tbk [] 2 R R<|J 4 R R (Bj hm)) fun c5 hm=>Ac<|An hm R (fun h20 hm=>Af tbk [] R R<|Rt1 hm R [] R R R) fun h20 hm=>Ak<|Ag<|Af tbk [] R R<|B1 hm (fun _ (_:Unit)=>[]) (fun _ (_:Unit)=>[]) (fun o hm h22=>?_) fun j _ hm=> ?_
 ·refine B8 (fun zn (zs:Int)=>ref07_LightPod.l1 p zn zs) (fun zs (_:Unit)=>[(1,.ptr b 0),(3,Iw zs)]) (fun _ (_:Unit)=>[X29 b p]) _ () (fun _=>R) hm (Ah [0] R R) fun n i2 _ hm=> ?_
  rw [ref07_LightPod.l1] at hm
  exact Ag<|Ae<|Ab tbk [0] 3 R R<|Aa R R (Ay T_api_Term.vv R Cv)<|Aa R R (Bl R R R)<|Ac<|An hm R (fun h23 hm=>Ak<|Ag<|Au<|Ae<|Ab tbk [0] 3 R R<|Bd hm fun x h24 hm=>Aa R R (Br T_api_Term.vv R R el25 h24)<|Aa R R (Bs R ld189 R)<|Ad R R<|Ax hm 0 R fn122 R (K160 _) fun r6 hm=>Aa R R (Ci R)<|Ac<|An hm R (fun h26 hm=>Af tbk [] R R<|have hm:=Lr hm h22;Rt1 hm R [] R R R) fun h26 hm=>Ak<|A9 tbk [] R R<|Ap _ () hm (Ah [0] R R)) fun h23 hm=>A4<|Ar () hm (Ah [] R R)
 exact Af tbk [] R R<|Rt1 hm R [] R R R

/-! (trireme/triremelaw18.Op).Light -/
def law18_Op_Light (o : T_law18_Op) : Option Bool :=
 (ref07_LightPod o.P_).bind fun r =>
 (if (r && (decide ((o.Name.size : Int) ≤ 300))) = true then (ref06_Light ([] : List T_api_Toleration) [o.X]).bind fun r2 =>
 some r2 else some false).bind fun c =>
 some c
theorem law18_Op_Light_ok (o : T_law18_Op) : VS Tryz.prog 9 (law18_Op_Light o) [T_law18_Op.vv o] [] .bool N0 := by
 refine Az [.tmp 2] Tryz.func9 R R R fun r hm=>?_
 unfold law18_Op_Light at hm
 exact Ae<|Ad R R<|Bi R R fun b=>Aa R R (Aj R)<|Ac<|Ae<|Ab tbk [0] 2 R R<|Ad R R<|Ax hm 0 R fn56 R (K161 _) fun r hm=>Aa R R (Ai R)<|Dg 5 11 6 R (fun h3 K' J=>Ab tbk [0] 2 R R<|Bf R R R R R (Ca R Av)<|Ab tbk [] 2 R R<|J 4 R R R) (fun K' J=>Ab tbk [] 5 R R<|J 4 R R R)<|Aa R R (Ai R)<|Bh hm 5 17 12 R (fun _ K' h4 J hm=>Ab tbk [0] 2 R R<|A8 R R R R R<|Bc ap66 R R R R R fun b2=>Bb (A7 0 [(15,L31 [o.X])] R ⟨⟨_,R,.here _ R⟩,trivial⟩ (FzH.refl _))<|A8 R R R R R<|VO.cn hm 0 [.nil 191,.same] R fn57 R (K3 _ _) fun r2 hm=>Aa R R (Bq true R R R)<|J 5 R R (Bj hm)) (fun _ K' h4 J hm=>Ab tbk [] 5 R R<|J 4 R R (Bj hm)) fun c hm=>Aa R R (Aj R)<|Ac<|Rt1 hm R [] R R R

/-! (*trireme/world.World).DropPod -/
def world_World_DropPod (w : T_world_World) (c : T_cloud_Cloud) (name : ByteArray) : Option (Int × T_world_World) :=
 (world_World_there_x w c).bind fun r =>
 (yard_Place w.bs name).bind fun r2 =>
 if (decide (r2 < 0)) = true then
  some (16, w)
 else
  (world_World_cut w c r2).bind fun r3 =>
  some (0, r3.2)
theorem K162 (A0 A1 : Nat) (w : T_world_World) (c : T_cloud_Cloud) (name : ByteArray) (b : Nat) (ob : Option Nat) (cap : Nat) (ob2 : Option Nat) (cap2 : Nat) (ob3 : Option Nat) (cap3 : Nat) (ob4 : Option Nat) (cap4 : Nat) (b2 : Nat) (b3 : Nat) (ob5 : Option Nat) (cap5 : Nat) (ob6 : Option Nat) (cap6 : Nat) : ∀ r : Int × T_world_World, world_World_DropPod w c name = some r → VC Tryz.prog 13 [.ptr b 0, .str name] [.box b 43 [.ptr b3 0, Z139 ob w.groups cap, Z103 ob2 w.budgets cap2, Z68 ob3 w.ms cap3, Z64 ob4 w.bs cap4, .map b2], Q139 ob cap w.groups, Q103 ob2 cap2 w.budgets, Q68 ob3 cap3 w.ms, Q64 ob4 cap4 w.bs, .map b2 (List.map (pf VV.str (VV.int .i64)) w.held), .box b3 149 [Z140 A0 A1 ob5 c.pools cap5, Z152 A0 A1 ob6 c.insts cap6, Iw c.delay, Iw c.now, Iw c.calls], Q140 A0 A1 ob5 cap5 c.pools, Q152 A0 A1 ob6 cap6 c.insts] fun zx zH => ∃ (ob0_1 : Option Nat) (cap0_1 : Nat) (ob0_2 : Option Nat) (cap0_2 : Nat) (ob0_3 : Option Nat) (cap0_3 : Nat) (ob0_4 : Option Nat) (cap0_4 : Nat) (b0_5 : Nat), zx = Iw r.1 ∧ zH = [.box b 43 [.ptr b3 0, Z139 ob0_1 r.2.groups cap0_1, Z103 ob0_2 r.2.budgets cap0_2, Z68 ob0_3 r.2.ms cap0_3, Z64 ob0_4 r.2.bs cap0_4, .map b0_5], Q139 ob0_1 cap0_1 r.2.groups, Q103 ob0_2 cap0_2 r.2.budgets, Q68 ob0_3 cap0_3 r.2.ms, Q64 ob0_4 cap0_4 r.2.bs, .map b0_5 (List.map (pf VV.str (VV.int .i64)) r.2.held), .box b3 149 [Z140 A0 A1 ob5 c.pools cap5, Z152 A0 A1 ob6 c.insts cap6, Iw c.delay, Iw c.now, Iw c.calls], Q140 A0 A1 ob5 cap5 c.pools, Q152 A0 A1 ob6 cap6 c.insts] := by
 refine Cw [.tmp 4] Tryz.func13 R R R fun r hm=>?_
 unfold world_World_DropPod at hm
 refine Af tbk [] R R<|Ag<|Ae<|Aa R R (Ai R)<|Bd hm fun r h1 hm=>Ad R R<|Aw 9 R fn60 R (K63 A0 A1 w c b ob cap ob2 cap2 ob3 cap3 ob4 cap4 b2 b3 ob5 cap5 ob6 cap6 r h1) fun _ _ h6=> ?_
 obtain ⟨rfl,rfl⟩:=h6
 refine Aa R R (Ci R)<|Ac<|Bp R (congrArg not (Option.some.inj (show some true = some r from h1)).symm)<|Ak<|Ae<|Ab tbk [0] 5 R R<|Ad R R<|Dj hm (A7 (H':=[.box b 43 [.ptr b3 0,Z139 ob w.groups cap,Z103 ob2 w.budgets cap2,Z68 ob3 w.ms cap3,L64 w.bs,.map b2],Q139 ob cap w.groups,Q103 ob2 cap2 w.budgets,Q68 ob3 cap3 w.ms,.map b2 (List.map (pf VV.str (VV.int .i64)) w.held),.box b3 149 [Z140 A0 A1 ob5 c.pools cap5,Z152 A0 A1 ob6 c.insts cap6,Iw c.delay,Iw c.now,Iw c.calls],Q140 A0 A1 ob5 cap5 c.pools,Q152 A0 A1 ob6 cap6 c.insts]) 4 [(12,L64 w.bs)] R ⟨⟨_,R,.here _ R⟩,trivial⟩ (by exact ⟨.box _ _ _ _ ⟨.same _,.same _,.same _,.same _,.here _ R,.same _,trivial⟩,.same _,.same _,.same _,.same _,.same _,.same _,.same _,trivial⟩)) [.same,.same] R fn66 R (K73 _ _) (fun _=>R) (fun _=>R) fun r2 hm=>Aa R R (Aj R)<|Ac<|Ag<|Af tbk [] R R<|An hm R (fun h3 hm=>?_) fun h3 hm=> ?_
 ·refine Af tbk [] R R<|?_
  obtain rfl:=Option.some.inj hm
  exact Bx ⟨.inl R,_,.cons (.tmp _ _ R) .nil,[0,1,2,3,4,5,6,7,8],_,R,ob,cap,ob2,cap2,ob3,cap3,ob4,cap4,b2,R,R⟩
 refine Ak<|Ae<|Ab tbk [] 2 R R<|Bd hm fun r3 h4 hm=>Ad R R<|Aw 9 R fn68 R (K152 A0 A1 w c r2 b ob cap ob2 cap2 ob3 cap3 ob4 cap4 b2 b3 ob5 cap5 ob6 cap6 r3 h4) fun _ _ h5=> ?_
 obtain ⟨ob7,cap7,ob8,cap8,ob9,cap9,ob10,cap10,b4,rfl,rfl⟩:=h5
 refine Ac<|Af tbk [] R R<|?_
 obtain rfl:=Option.some.inj hm
 exact Bx ⟨.inl R,_,.cons (.tmp _ _ R) .nil,[0,1,2,3,4,5,6,7,8],_,R,ob7,cap7,ob8,cap8,ob9,cap9,ob10,cap10,b4,R,R⟩

/-! (*trireme/cloud.Cloud).inst -/
def cloud_Cloud_inst.l1 (c : T_cloud_Cloud) (name : ByteArray) (insts : List T_cloud_inst) : Nat → Int → Option (Out Nat Unit)
 | 0, _ => none
 | n + 1, v2 =>
  if (decide (v2 < (c.insts.length : Int))) = true then
   (V.gl c.insts v2).bind fun x =>
   (V.pg insts x).bind fun x2 =>
   if (V.seq x2.name name) = true then
    some (Out.ret x)
   else
    cloud_Cloud_inst.l1 c name insts n (i64.wrap (v2 + 1))
  else
   some (Out.go ())
def cloud_Cloud_inst (c : T_cloud_Cloud) (name : ByteArray) (insts : List T_cloud_inst) : Option Nat :=
 (cloud_Cloud_inst.l1 c name insts FU (0 : Int)).bind fun o =>
 o.on fun j =>
 some 0
theorem K163 (A0 A1 : Nat) (c : T_cloud_Cloud) (name : ByteArray) (insts : List T_cloud_inst) (b : Nat) (ob : Option Nat) (cap : Nat) (ob2 : Option Nat) (cap2 : Nat) (bs : List Nat) : VS Tryz.prog 84 (cloud_Cloud_inst c name insts) [.ptr b 0, .str name] [.box b 149 [Z140 A0 A1 ob c.pools cap, Z152 A0 A1 ob2 c.insts cap2, Iw c.delay, Iw c.now, Iw c.calls], Q140 A0 A1 ob cap c.pools, Q152 A0 A1 ob2 cap2 c.insts, .ar A1 157 bs (List.map (T_cloud_inst.cells A0 A1) insts)] (fun r=>V.Pp A1 r) (fun r=>[.box b 149 [Z140 A0 A1 ob c.pools cap, Z152 A0 A1 ob2 c.insts cap2, Iw c.delay, Iw c.now, Iw c.calls], Q140 A0 A1 ob cap c.pools, Q152 A0 A1 ob2 cap2 c.insts, .ar A1 157 bs (List.map (T_cloud_inst.cells A0 A1) insts)]) := by
 refine Az [.tmp 4] Tryz.func84 R R R fun r hm=>?_
 unfold cloud_Cloud_inst at hm
 refine Ae<|Aa R R (Dc A1)<|Ac<|Ag<|Ae<|Ab tbk [0] 4 R R<|Aa R R (Cx (V.Pp A1) R Dm)<|Aa R R (Ai R)<|Ac<|B1 hm (fun _ (_:Unit)=>[]) (fun _ (_:Unit)=>[.box b 149 [Z140 A0 A1 ob c.pools cap,Z152 A0 A1 ob2 c.insts cap2,Iw c.delay,Iw c.now,Iw c.calls],Q140 A0 A1 ob cap c.pools,Q152 A0 A1 ob2 cap2 c.insts,.ar A1 157 bs (List.map (T_cloud_inst.cells A0 A1) insts)]) (fun o hm h2=>?_) fun j _ hm=> ?_
 ·refine B8 (fun zn (zs:Int)=>cloud_Cloud_inst.l1 c name insts zn zs) (fun zs (_:Unit)=>[(1,.str name),(10,Z152 A0 A1 ob2 c.insts cap2),(11,Iw (c.insts.length : Int)),(12,Iw zs)]) (fun _ (_:Unit)=>[.box b 149 [Z140 A0 A1 ob c.pools cap,Z152 A0 A1 ob2 c.insts cap2,Iw c.delay,Iw c.now,Iw c.calls],Q140 A0 A1 ob cap c.pools,Q152 A0 A1 ob2 cap2 c.insts,.ar A1 157 bs (List.map (T_cloud_inst.cells A0 A1) insts)]) _ () (fun _=>R) hm (Ah [0,1,2,3] R R) fun n v2 _ hm=> ?_
  rw [cloud_Cloud_inst.l1] at hm
  refine Af tbk [] R R<|Ag<|An hm R (fun h3 hm=>?_) fun h3 hm=> ?_
  ·refine Ak<|Ag<|Au<|Ae<|Bd hm fun x h4 hm=>Cq 2 R (gl_pos (V.Pp A1) h4) fun b2 h5=> ?_
   subst h5
   exact Aa R R (Cs (V.Pp A1) R R el147 h4)<|Aa R R (Ck (i:=2) (y:=(V.Pp A1) x) R R R (gl_map _ (gl_some h4).2) ld152 R)<|Aa R R (Aj R)<|Ac<|Ae<|Aa R R (Ai R)<|Bd hm fun x2 h6 hm=>Aa R R (Bt R h6)<|Aa R R (B0 R h6 fa157_0)<|Aa R R (Ce 3 (f:=(T_cloud_inst.cells A0 A1)) (y:=x2) R R h6 ld9 R)<|Ab tbk [] 2 R R<|Ac<|An hm R (fun h7 hm=>Af tbk [] R R<|have hm:=Lr hm h2;Rt1 hm R [0,1,2,3] R R R) fun h7 hm=>Ak<|A9 tbk [] R R<|Ap _ () hm (Ah [0,1,2,3] R R)
  exact A4<|Ar () hm (Ah [0,1,2,3] R R)
 exact Ae<|Aa R R (Dc A1)<|Ac<|Rt1 hm R [0,1,2,3] R R R

/-! (*trireme/cloud.Cloud).Delete -/
def cloud_Cloud_Delete (c : T_cloud_Cloud) (name : ByteArray) (pools : List T_cloud_pool) (insts : List T_cloud_inst) : Option (Int × T_cloud_Cloud × List T_cloud_pool × List T_cloud_inst) :=
 (cloud_Cloud_there c).bind fun r =>
 if (!r) = true then
  some (23, c, pools, insts)
 else
  (cloud_Cloud_inst c name insts).bind fun r2 =>
  if (r2 == 0) = true then
   some (16, c, pools, insts)
  else
   (V.pg insts r2).bind fun x =>
   ((V.pg insts r2).bind fun x2 =>
   if (I_cloud_state.is159 x2.in_) = true then
    some (Out.ret (22, c, pools, insts))
   else
    if (I_cloud_state.is160 x2.in_) = true then
     (V.pg pools x.of).bind fun x3 =>
     (V.pg pools x.of).bind fun x4 =>
     if (decide (x3.target ≤ x4.Group.Min)) = true then
      some (Out.ret (20, c, pools, insts))
     else
      some (Out.go ())
    else
     some (Out.go ())).bind fun o =>
   o.on fun j =>
   (V.pg insts r2).bind fun x5 =>
   (V.pg pools x.of).bind fun x6 =>
   (V.pg pools x.of).bind fun x7 =>
   (V.pg pools x.of).bind fun x8 =>
   some (0, (⟨c.pools, c.insts, c.delay, c.now, (i64.wrap (c.calls + 1))⟩ : T_cloud_Cloud), (V.pst pools x.of (⟨x8.Group, (max x6.Group.Min (i64.wrap (x7.target - 1))), x8.last, x8.broken⟩ : T_cloud_pool)), (V.pst insts r2 (⟨x5.name, x5.of, x5.since, (I_cloud_state.c159 (⟨⟩ : T_cloud_leaving))⟩ : T_cloud_inst)))
theorem K164 (A0 A1 : Nat) (c : T_cloud_Cloud) (name : ByteArray) (pools : List T_cloud_pool) (insts : List T_cloud_inst) (b : Nat) (ob : Option Nat) (cap : Nat) (ob2 : Option Nat) (cap2 : Nat) (bs : List Nat) (bs2 : List Nat) : ∀ r : Int × T_cloud_Cloud × List T_cloud_pool × List T_cloud_inst, cloud_Cloud_Delete c name pools insts = some r → VC Tryz.prog 25 [.ptr b 0, .str name] [.box b 149 [Z140 A0 A1 ob c.pools cap, Z152 A0 A1 ob2 c.insts cap2, Iw c.delay, Iw c.now, Iw c.calls], Q140 A0 A1 ob cap c.pools, Q152 A0 A1 ob2 cap2 c.insts, .ar A0 144 bs (List.map T_cloud_pool.cells pools), .ar A1 157 bs2 (List.map (T_cloud_inst.cells A0 A1) insts)] fun zx zH => ∃ (ob0_0 : Option Nat) (cap0_0 : Nat) (ob0_1 : Option Nat) (cap0_1 : Nat) (bs_1 : List Nat) (bs_2 : List Nat), zx = Iw r.1 ∧ zH = [.box b 149 [Z140 A0 A1 ob0_0 r.2.1.pools cap0_0, Z152 A0 A1 ob0_1 r.2.1.insts cap0_1, Iw r.2.1.delay, Iw r.2.1.now, Iw r.2.1.calls], Q140 A0 A1 ob0_0 cap0_0 r.2.1.pools, Q152 A0 A1 ob0_1 cap0_1 r.2.1.insts, .ar A0 144 bs_1 (List.map T_cloud_pool.cells r.2.2.1), .ar A1 157 bs_2 (List.map (T_cloud_inst.cells A0 A1) r.2.2.2)] := by
 refine Cw [.tmp 4] Tryz.func25 R R R fun r hm=>?_
 unfold cloud_Cloud_Delete at hm
 refine Af tbk [] R R<|Ag<|Ae<|Aa R R (Ai R)<|Ad R R<|Ax hm 3 R fn83 R (K34 A0 A1 _ _ _ _ _ _) fun r hm=>Aa R R (Ci R)<|Ac<|An hm R (fun h2 hm=>?_) fun h2 hm=> ?_
 ·refine Af tbk [] R R<|?_
  obtain rfl:=Option.some.inj hm
  exact Bx ⟨.inl R,_,.cons (.tmp _ _ R) .nil,[0,1,2,3,4],_,R,ob,cap,ob2,cap2,bs,bs2,R,R⟩
 refine Ak<|Ae<|Ab tbk [] 2 R R<|Bb (Bg [0,1,2,4,3] R)<|Ad R R<|Ax hm 4 R fn84 R (K163 A0 A1 _ _ _ _ _ _ _ _ _) fun r2 hm=>Aa R R (Aj R)<|Ac<|Ag<|Ae<|Aa R R (Ai R)<|Aa R R (Dk Tryz.underlying152 R R)<|Ac<|An hm R (fun h4 hm=>?_) fun h4 hm=> ?_
 ·refine Af tbk [] R R<|?_
  obtain rfl:=Option.some.inj hm
  exact Bx ⟨.inl R,_,.cons (.tmp _ _ R) .nil,[0,1,2,4,3],_,R,ob,cap,ob2,cap2,bs,bs2,R,R⟩
 refine Ak<|Ae<|Aa R R (Ai R)<|Bd hm fun x h5 hm=>Aa R R (Bt R h5)<|Aa R R (B0 R h5 fa157_1)<|Aa R R (Ce 3 (f:=(T_cloud_inst.cells A0 A1)) (y:=x) R R h5 ld140 R)<|Aa R R (Aj R)<|Ac<|VW.jo hm (fun _ (_:Unit)=>[(0,.ptr b 0),(5,V.Pp A1 r2),(6,V.Pp A0 x.of)]) (fun _ (_:Unit)=>[.box b 149 [Z140 A0 A1 ob c.pools cap,Z152 A0 A1 ob2 c.insts cap2,Iw c.delay,Iw c.now,Iw c.calls],Q140 A0 A1 ob cap c.pools,Q152 A0 A1 ob2 cap2 c.insts,.ar A1 157 bs2 (List.map (T_cloud_inst.cells A0 A1) insts),.ar A0 144 bs (List.map T_cloud_pool.cells pools)]) (fun o hm h7=>?_) fun j _ hm=> ?_
 ·refine Ae<|Aa R R (Ai R)<|Bd hm fun x2 h8 hm=>Aa R R (Bt R h8)<|Aa R R (B0 R h8 fa157_3)<|Aa R R (Ce 3 (f:=(T_cloud_inst.cells A0 A1)) (y:=x2) R R h8 ld155 R)<|Ac<|Au<|Ae<|Aa R R (VP.as (VP.tassert nif159 zg159 R) (I_cloud_state.ta159 x2.in_))<|Ab tbk [] 2 R R<|Ac<|An hm R (fun h9 hm=>?_) fun h9 hm=> ?_
  ·refine Af tbk [] R R<|have hm:=Lr hm h7; ?_
   obtain rfl:=Option.some.inj hm
   exact Bx ⟨.inl R,_,.cons (.tmp _ _ R) .nil,[0,1,2,4,3],_,R,ob,cap,ob2,cap2,bs,bs2,R,R⟩
  refine Ae<|Aa R R (VP.as (VP.tassert nif160 zg160 R) (I_cloud_state.ta160 x2.in_))<|Ab tbk [] 2 R R<|Ac<|An hm R (fun h10 hm=>?_) fun h10 hm=> ?_
  ·refine Ag<|Bn 0 mixed<|Ba 0 R R R (by kernel_rfl) (Ai R)<|Bd hm fun x3 h11 hm=>Ba 1 R R R (by kernel_rfl) (Bt R h11)<|Ba 2 R R R (by kernel_rfl) (B0 R h11 fa144_1)<|Ba 3 R R R (by kernel_rfl) (Ce 4 (f:=T_cloud_pool.cells) (y:=x3) R R h11 ld3 R)<|Ba 4 R R R (by kernel_rfl) (Ai R)<|Bd hm fun x4 h12 hm=>Ba 5 R R R (by kernel_rfl) (Bt R h12)<|Ba 6 R R R (by kernel_rfl) (B0 R h12 fa144_0)<|Ba 7 R R R (by kernel_rfl) (B0 R h12 fa139_1)<|Ba 8 R R R (by kernel_rfl) (Ce 4 (f:=T_cloud_pool.cells) (y:=x4) R R h12 ld3 R)<|Ba 9 R R R (by kernel_rfl) (Bl R R R)<|A5 (by kernel_rfl)<|An hm R (fun h13 hm=>?_) fun h13 hm=> ?_
   ·refine Af tbk [] R R<|have hm:=Lr hm h7; ?_
    obtain rfl:=Option.some.inj hm
    exact Bx ⟨.inl R,_,.cons (.tmp _ _ R) .nil,[0,1,2,4,3],_,R,ob,cap,ob2,cap2,bs,bs2,R,R⟩
   exact Ak<|Ar () hm (Ah [0,1,2,3,4] R R)
  exact Ak<|Ar () hm (Ah [0,1,2,3,4] R R)
 refine Ae<|Aa R R (Ai R)<|Aa R R (Bo pl159 R R)<|Aa R R (Ds nif159 R)<|Bd hm fun x5 h14 hm=>Aa R R (Bt R h14)<|Aa R R (B0 R h14 fa157_3)<|Ad R R<|Dh 3 (f:=(T_cloud_inst.cells A0 A1)) (u:=x5) (u':=(⟨x5.name,x5.of,x5.since,(I_cloud_state.c159 (⟨⟩ : T_cloud_leaving))⟩ : T_cloud_inst)) R R R h14 ld155 R R R R<|Ac<|Ag<|Bw (Bg [4,0,1,2,3] R)<|Bn 1 mixed<|A6 tbk [0,1] [] (by kernel_rfl) R R R<|Bd hm fun x6 h15 hm=>Ba 2 R R R (by kernel_rfl) (Bt R h15)<|Ba 3 R R R (by kernel_rfl) (B0 R h15 fa144_0)<|Ba 4 R R R (by kernel_rfl) (B0 R h15 fa139_1)<|Ba 6 R R R (by kernel_rfl) (Ai R)<|Bd hm fun x7 h16 hm=>Ba 7 R R R (by kernel_rfl) (Bt R h16)<|Ba 8 R R R (by kernel_rfl) (B0 R h16 fa144_1)<|?_
 refine B3 [5,9] (by kernel_rfl) ⟨?_,?_,trivial⟩
 ·refine Ao R R R<|Cb (Ce 0 (f:=T_cloud_pool.cells) (y:=x6) R R h15 ld3 R)<|Am 9 (by kernel_rfl)<|Ao R R R<|Cb (Ce 0 (f:=T_cloud_pool.cells) (y:=x7) R R h16 ld3 R)<|Ba 10 R R R (by kernel_rfl) (Bl R R R)<|Ba 11 R R R (by kernel_rfl) (VP.max2 R R)<|Bd hm fun x8 h17 hm=>Ba 12 R R R (by kernel_rfl) (Bt R h17)<|Ba 13 R R R (by kernel_rfl) (B0 R h17 fa144_1)<|Am 14 (by kernel_rfl)<|Ao R R R<|Dh 0 (f:=T_cloud_pool.cells) (u:=x8) (u':=(⟨x8.Group,(max x6.Group.Min (IntKind.i64.wrap (x7.target - (1 : Int)))),x8.last,x8.broken⟩ : T_cloud_pool)) R R R h17 ld3 R R R R<|A5 (by kernel_rfl)<|Ae<|Ab tbk [1] 7 R R<|Ad R R<|Al (i:=1) R R R ld3 R R R<|Ac<|Af tbk [] R R<|?_
  obtain rfl:=Option.some.inj hm
  exact Bx ⟨.inl R,_,.cons (.tmp _ _ R) .nil,[1,2,3,0,4],_,R,ob,cap,ob2,cap2,bs,bs2,R,R⟩
 ·refine Ao R R R<|Cb (Ce 0 (f:=T_cloud_pool.cells) (y:=x7) R R h16 ld3 R)<|Ba 10 R R R (by kernel_rfl) (Bl R R R)<|Am 5 (by kernel_rfl)<|Ao R R R<|Cb (Ce 0 (f:=T_cloud_pool.cells) (y:=x6) R R h15 ld3 R)<|Ba 11 R R R (by kernel_rfl) (VP.max2 R R)<|Bd hm fun x9 h18 hm=>Ba 12 R R R (by kernel_rfl) (Bt R h18)<|Ba 13 R R R (by kernel_rfl) (B0 R h18 fa144_1)<|Am 14 (by kernel_rfl)<|Ao R R R<|Dh 0 (f:=T_cloud_pool.cells) (u:=x9) (u':=(⟨x9.Group,(max x6.Group.Min (IntKind.i64.wrap (x7.target - (1 : Int)))),x9.last,x9.broken⟩ : T_cloud_pool)) R R R h18 ld3 R R R R<|A5 (by kernel_rfl)<|Ae<|Ab tbk [1] 7 R R<|Ad R R<|Al (i:=1) R R R ld3 R R R<|Ac<|Af tbk [] R R<|?_
  obtain rfl:=Option.some.inj hm
  exact Bx ⟨.inl R,_,.cons (.tmp _ _ R) .nil,[1,2,3,0,4],_,R,ob,cap,ob2,cap2,bs,bs2,R,R⟩

/-! trireme/triremeref09.Place -/
def ref09_Place.l1 (bs : List T_api_Bound) (name : ByteArray) : Nat → Int → Option (Out Int Unit)
 | 0, _ => none
 | n + 1, i2 =>
  if (decide (i2 < (bs.length : Int))) = true then
   (V.gl bs i2).bind fun x =>
   if (V.seq x.Pod.Name name) = true then
    some (Out.ret i2)
   else
    ref09_Place.l1 bs name n (i64.wrap (i2 + 1))
  else
   some (Out.go ())
def ref09_Place (bs : List T_api_Bound) (name : ByteArray) : Option Int :=
 (ref09_Place.l1 bs name FU (0 : Int)).bind fun o =>
 o.on fun j =>
 some (-1)
theorem K165 (bs : List T_api_Bound) (name : ByteArray) : VS Tryz.prog 26 (ref09_Place bs name) [L64 bs, .str name] [] Iw N0 := by
 refine Az [.tmp 4] Tryz.func26 R R R fun r hm=>?_
 unfold ref09_Place at hm
 refine Af tbk [] R R<|Ag<|Af tbk [] R R<|B1 hm (fun _ (_:Unit)=>[]) (fun _ (_:Unit)=>[]) (fun o hm h2=>?_) fun j _ hm=> ?_
 ·refine B8 (fun zn (zs:Int)=>ref09_Place.l1 bs name zn zs) (fun zs (_:Unit)=>[(0,L64 bs),(1,.str name),(5,Iw zs)]) (fun _ (_:Unit)=>[]) _ () (fun _=>R) hm (Ah [] R R) fun n i2 _ hm=> ?_
  rw [ref09_Place.l1] at hm
  exact Ag<|Ae<|Ab tbk [] 2 R R<|Aa R R (Ay T_api_Bound.vv R Bz)<|Aa R R (Bl R R R)<|Ac<|An hm R (fun h3 hm=>Ak<|Ag<|Au<|Ae<|Ab tbk [] 2 R R<|Bd hm fun x h4 hm=>Aa R R (Br T_api_Bound.vv R R el40 h4)<|Ab tbk [] 5 R R<|Ac<|An hm R (fun h5 hm=>Af tbk [] R R<|have hm:=Lr hm h2;Rt1 hm R [] R R R) fun h5 hm=>Ak<|A9 tbk [] R R<|Ap _ () hm (Ah [] R R)) fun h3 hm=>A4<|Ar () hm (Ah [] R R)
 exact Af tbk [] R R<|Rt1 hm R [] R R R

/-! trireme/triremeref01.more -/
def ref01_more (s : ByteArray) (i : Int) : Option Bool :=
 (if (decide (i < (s.size : Int))) = true then (V.gi s i).bind fun v =>
 some (decide (v ≥ 128)) else some false).bind fun c =>
 (if c = true then (V.gi s i).bind fun v2 =>
 some (decide (v2 < 192)) else some false).bind fun c2 =>
 some c2
theorem K166 (s : ByteArray) (i : Int) : VS Tryz.prog 225 (ref01_more s i) [.str s, Iw i] [] .bool N0 := by
 refine Az [.tmp 4] Tryz.func225 R R R fun r hm=>?_
 unfold ref01_more at hm
 exact Af tbk [] R R<|Ae<|Ab tbk [] 2 R R<|Aa R R (Ca R Av)<|Ab tbk [] 2 R R<|Bh hm 5 14 9 R (fun _ K' h1 J hm=>Ab tbk [] 2 R R<|Bd hm fun v h2 hm=>Bf R R R R R (C1 R R Av h2)<|Ab tbk [] 2 R R<|J 4 R R (Bj hm)) (fun _ K' h1 J hm=>Ab tbk [] 5 R R<|J 4 R R (Bj hm)) fun c hm=>Aa R R (Ai R)<|Bh hm 5 20 15 R (fun _ K' h4 J hm=>Ab tbk [] 2 R R<|Bd hm fun v2 h5 hm=>Bf R R R R R (C1 R R Av h5)<|Ab tbk [] 2 R R<|J 4 R R (Bj hm)) (fun _ K' h4 J hm=>Ab tbk [] 5 R R<|J 4 R R (Bj hm)) fun c2 hm=>Aa R R (Aj R)<|Ac<|Rt1 hm R [] R R R

/-! trireme/triremeref01.Rune -/
def ref01_Rune (s : ByteArray) (i : Int) : Option (Int × Int) :=
 (V.gi s i).bind fun v =>
 if (decide ((i64.wrap v) < 128)) = true then
  some ((i64.wrap v), 1)
 else
  (if ((decide ((i64.wrap v) ≥ 192)) && (decide ((i64.wrap v) < 224))) = true then (ref01_more s (i64.wrap (i + 1))).bind fun r =>
  some r else some false).bind fun c =>
  if c = true then
   (V.gi s (i64.wrap (i + 1))).bind fun v2 =>
   if (decide ((i64.wrap ((i64.wrap ((i64.wrap ((i64.wrap ((i64.wrap v) - 192)) * 64)) + (i64.wrap v2))) - 128)) ≥ 128)) = true then
    some ((i64.wrap ((i64.wrap ((i64.wrap ((i64.wrap ((i64.wrap v) - 192)) * 64)) + (i64.wrap v2))) - 128)), 2)
   else
    some (0, 0)
  else
   (if ((decide ((i64.wrap v) ≥ 224)) && (decide ((i64.wrap v) < 240))) = true then (ref01_more s (i64.wrap (i + 1))).bind fun r2 =>
   some r2 else some false).bind fun c2 =>
   (if c2 = true then (ref01_more s (i64.wrap (i + 2))).bind fun r3 =>
   some r3 else some false).bind fun c3 =>
   if c3 = true then
    (V.gi s (i64.wrap (i + 1))).bind fun v3 =>
    (V.gi s (i64.wrap (i + 2))).bind fun v4 =>
    if ((decide ((i64.wrap ((i64.wrap ((i64.wrap ((i64.wrap ((i64.wrap ((i64.wrap v) - 224)) * 4096)) + (i64.wrap ((i64.wrap ((i64.wrap v3) - 128)) * 64)))) + (i64.wrap v4))) - 128)) ≥ 2048)) && ((decide ((i64.wrap ((i64.wrap ((i64.wrap ((i64.wrap ((i64.wrap ((i64.wrap v) - 224)) * 4096)) + (i64.wrap ((i64.wrap ((i64.wrap v3) - 128)) * 64)))) + (i64.wrap v4))) - 128)) < 55296)) || (decide ((i64.wrap ((i64.wrap ((i64.wrap ((i64.wrap ((i64.wrap ((i64.wrap v) - 224)) * 4096)) + (i64.wrap ((i64.wrap ((i64.wrap v3) - 128)) * 64)))) + (i64.wrap v4))) - 128)) > 57343)))) = true then
     some ((i64.wrap ((i64.wrap ((i64.wrap ((i64.wrap ((i64.wrap ((i64.wrap v) - 224)) * 4096)) + (i64.wrap ((i64.wrap ((i64.wrap v3) - 128)) * 64)))) + (i64.wrap v4))) - 128)), 3)
    else
     some (0, 0)
   else
    (if ((decide ((i64.wrap v) ≥ 240)) && (decide ((i64.wrap v) < 248))) = true then (ref01_more s (i64.wrap (i + 1))).bind fun r4 =>
    some r4 else some false).bind fun c4 =>
    (if c4 = true then (ref01_more s (i64.wrap (i + 2))).bind fun r5 =>
    some r5 else some false).bind fun c5 =>
    (if c5 = true then (ref01_more s (i64.wrap (i + 3))).bind fun r6 =>
    some r6 else some false).bind fun c6 =>
    if c6 = true then
     (V.gi s (i64.wrap (i + 1))).bind fun v5 =>
     (V.gi s (i64.wrap (i + 2))).bind fun v6 =>
     (V.gi s (i64.wrap (i + 3))).bind fun v7 =>
     if ((decide ((i64.wrap ((i64.wrap ((i64.wrap ((i64.wrap ((i64.wrap ((i64.wrap ((i64.wrap v) - 240)) * 262144)) + (i64.wrap ((i64.wrap ((i64.wrap v5) - 128)) * 4096)))) + (i64.wrap ((i64.wrap ((i64.wrap v6) - 128)) * 64)))) + (i64.wrap v7))) - 128)) ≥ 65536)) && (decide ((i64.wrap ((i64.wrap ((i64.wrap ((i64.wrap ((i64.wrap ((i64.wrap ((i64.wrap v) - 240)) * 262144)) + (i64.wrap ((i64.wrap ((i64.wrap v5) - 128)) * 4096)))) + (i64.wrap ((i64.wrap ((i64.wrap v6) - 128)) * 64)))) + (i64.wrap v7))) - 128)) ≤ 1114111))) = true then
      some ((i64.wrap ((i64.wrap ((i64.wrap ((i64.wrap ((i64.wrap ((i64.wrap ((i64.wrap v) - 240)) * 262144)) + (i64.wrap ((i64.wrap ((i64.wrap v5) - 128)) * 4096)))) + (i64.wrap ((i64.wrap ((i64.wrap v6) - 128)) * 64)))) + (i64.wrap v7))) - 128)), 4)
     else
      some (0, 0)
    else
     some (0, 0)
theorem K167 (s : ByteArray) (i : Int) : VS Tryz.prog 197 (ref01_Rune s i) [.str s, Iw i] [] (fun r=>.tup [Iw r.1, Iw r.2]) N0 := by
 refine Az [.tmp 4,.tmp 5] Tryz.func197 R R R fun r hm=>?_
 unfold ref01_Rune at hm
 refine Af tbk [] R R<|Ae<|Ab tbk [] 2 R R<|Bd hm fun v h1 hm=>Aa R R (C1 R R Av h1)<|Aa R R (C7 Cg Cm R)<|Aa R R (Aj R)<|Ac<|Ag<|Au<|Af tbk [] R R<|An hm R (fun h2 hm=>Af tbk [] R R<|Rt2 hm R [] R R R R) fun h2 hm=>Ae<|Ab tbk [] 3 R R<|Cd tbk [] 3 24 21 R R R R R<|Aa R R (Ai R)<|Bh hm 5 30 25 R (fun _ K' h4 J hm=>Ab tbk [] 3 R R<|A8 R R R R R<|Ax hm 0 R fn225 R (K166 _ _) fun r hm=>Aa R R (Bq true R R R)<|J 4 R R (Bj hm)) (fun _ K' h4 J hm=>Ab tbk [] 5 R R<|J 4 R R (Bj hm)) fun c hm=>Aa R R (Aj R)<|Ac<|An hm R (fun h7 hm=>Ae<|Ab tbk [] 6 R R<|Bd hm fun v2 h8 hm=>Aa R R (C1 R R Av h8)<|Aa R R (C7 Cg Cm R)<|Ab tbk [] 3 R R<|Ac<|Af tbk [] R R<|An hm R (fun h9 hm=>Af tbk [] R R<|Rt2 hm R [] R R R R) fun h9 hm=>Ak<|Af tbk [] R R<|Rt2 hm R [] R R R R) fun h7 hm=>Ae<|Ab tbk [] 3 R R<|Cd tbk [] 3 50 47 R R R R R<|Aa R R (Ai R)<|Bh hm 5 56 51 R (fun _ K' h11 J hm=>Ab tbk [] 3 R R<|A8 R R R R R<|Ax hm 0 R fn225 R (K166 _ _) fun r2 hm=>Aa R R (Bq true R R R)<|J 4 R R (Bj hm)) (fun _ K' h11 J hm=>Ab tbk [] 5 R R<|J 4 R R (Bj hm)) fun c2 hm=>Aa R R (Ai R)<|Bh hm 5 62 57 R (fun _ K' h14 J hm=>Ab tbk [] 3 R R<|A8 R R R R R<|Ax hm 0 R fn225 R (K166 _ _) fun r3 hm=>Aa R R (Bq true R R R)<|J 4 R R (Bj hm)) (fun _ K' h14 J hm=>Ab tbk [] 5 R R<|J 4 R R (Bj hm)) fun c3 hm=>Aa R R (Aj R)<|Ac<|An hm R (fun h17 hm=>Ag<|Bn 0 mixed<|A6 tbk [0,1,2,3,4,5] [] (by kernel_rfl) R R R<|Bd hm fun v3 h18 hm=>Ba 6 R R R (by kernel_rfl) (C1 R R Av h18)<|Ba 7 R R R (by kernel_rfl) (C7 Cg Cm R)<|A6 tbk [8,9,10,11,12,13] [] (by kernel_rfl) R R R<|Bd hm fun v4 h19 hm=>Ba 14 R R R (by kernel_rfl) (C1 R R Av h19)<|Ba 15 R R R (by kernel_rfl) (C7 Cg Cm R)<|A6 tbk [16,17,18] [] (by kernel_rfl) R R R<|A5 (by kernel_rfl)<|Ae<|Ab tbk [] 3 R R<|Dg 7 90 83 R (fun h20 K' J=>Ab tbk [] 3 R R<|Cy tbk [] 3 89 86 R R R R R<|Aa R R (Bq true R R R)<|J 4 R R R) (fun K' J=>Ab tbk [] 7 R R<|J 6 R R R)<|Ac<|An hm R (fun h22 hm=>Af tbk [] R R<|Rt2 hm R [] R R R R) fun h22 hm=>Ak<|Af tbk [] R R<|Rt2 hm R [] R R R R) fun h17 hm=>Ae<|Ab tbk [] 3 R R<|Cd tbk [] 3 98 95 R R R R R<|Aa R R (Ai R)<|Bh hm 5 104 99 R (fun _ K' h24 J hm=>Ab tbk [] 3 R R<|A8 R R R R R<|Ax hm 0 R fn225 R (K166 _ _) fun r4 hm=>Aa R R (Bq true R R R)<|J 4 R R (Bj hm)) (fun _ K' h24 J hm=>Ab tbk [] 5 R R<|J 4 R R (Bj hm)) fun c4 hm=>Aa R R (Ai R)<|?_
 exact Bh hm 5 110 105 R (fun _ K' h27 J hm=>Ab tbk [] 3 R R<|A8 R R R R R<|Ax hm 0 R fn225 R (K166 _ _) fun r5 hm=>Aa R R (Bq true R R R)<|J 4 R R (Bj hm)) (fun _ K' h27 J hm=>Ab tbk [] 5 R R<|J 4 R R (Bj hm)) fun c5 hm=>Aa R R (Ai R)<|Bh hm 5 116 111 R (fun _ K' h30 J hm=>Ab tbk [] 3 R R<|A8 R R R R R<|Ax hm 0 R fn225 R (K166 _ _) fun r6 hm=>Aa R R (Bq true R R R)<|J 4 R R (Bj hm)) (fun _ K' h30 J hm=>Ab tbk [] 5 R R<|J 4 R R (Bj hm)) fun c6 hm=>Aa R R (Aj R)<|Ac<|An hm R (fun h33 hm=>Ag<|Bn 0 mixed<|A6 tbk [0,1,2,3,4,5] [] (by kernel_rfl) R R R<|Bd hm fun v5 h34 hm=>Ba 6 R R R (by kernel_rfl) (C1 R R Av h34)<|Ba 7 R R R (by kernel_rfl) (C7 Cg Cm R)<|A6 tbk [8,9,10,11,12,13] [] (by kernel_rfl) R R R<|Bd hm fun v6 h35 hm=>Ba 14 R R R (by kernel_rfl) (C1 R R Av h35)<|Ba 15 R R R (by kernel_rfl) (C7 Cg Cm R)<|A6 tbk [16,17,18,19,20,21] [] (by kernel_rfl) R R R<|Bd hm fun v7 h36 hm=>Ba 22 R R R (by kernel_rfl) (C1 R R Av h36)<|Ba 23 R R R (by kernel_rfl) (C7 Cg Cm R)<|A6 tbk [24,25,26] [] (by kernel_rfl) R R R<|A5 (by kernel_rfl)<|Ae<|Ab tbk [] 3 R R<|Cd tbk [] 3 148 145 R R R R R<|Ac<|An hm R (fun h38 hm=>Af tbk [] R R<|Rt2 hm R [] R R R R) fun h38 hm=>Ak<|Af tbk [] R R<|Rt2 hm R [] R R R R) fun h33 hm=>Ak<|Af tbk [] R R<|Rt2 hm R [] R R R R

/-! trireme/triremeref01.plain -/
def ref01_plain (c : Int) : Option Bool :=
 some ((((((decide (c > 32)) && (c != 127)) && (c != 40)) && (c != 41)) && (c != 34)) && (c != 59))
theorem K168 (c : Int) : VS Tryz.prog 198 (ref01_plain c) [Iw c] [] .bool N0 := by
 refine Az [.tmp 2] Tryz.func198 R R R fun r hm=>?_
 unfold ref01_plain at hm
 exact Af tbk [] R R<|Ae<|Ab tbk [] 3 R R<|Cd tbk [] 3 8 5 R R R R R<|Aa R R (Ai R)<|Cd tbk [] 3 12 9 R R R R R<|Aa R R (Ai R)<|Cd tbk [] 3 16 13 R R R R R<|Aa R R (Ai R)<|Cd tbk [] 3 20 17 R R R R R<|Aa R R (Ai R)<|Cd tbk [] 3 24 21 R R R R R<|Aa R R (Aj R)<|Ac<|Rt1 hm R [] R R R

/-! trireme/triremeref01.Word -/
def ref01_Word.l1 (s : ByteArray) : Nat → Int → Int → Option (Out Bool Int)
 | 0, _, _ => none
 | n4 + 1, n2, i2 =>
  if (decide (i2 < (s.size : Int))) = true then
   (ref01_Rune s i2).bind fun r =>
   (if (r.2 == 0) = true then some true else (ref01_plain r.1).bind fun r2 =>
   some (!r2)).bind fun c =>
   if c = true then
    some (Out.ret false)
   else
    ref01_Word.l1 s n4 (i64.wrap (n2 + 1)) (i64.wrap (i2 + r.2))
  else
   some (Out.go n2)
def ref01_Word (s : ByteArray) : Option Bool :=
 (ref01_Word.l1 s FU 0 (0 : Int)).bind fun o =>
 o.on fun n32 =>
 some ((decide (n32 ≥ 1)) && (decide (n32 ≤ 64)))
theorem K169 (s : ByteArray) : VS Tryz.prog 153 (ref01_Word s) [.str s] [] .bool N0 := by
 refine Az [.tmp 2] Tryz.func153 R R R fun r hm=>?_
 unfold ref01_Word at hm
 refine Af tbk [] R R<|Af tbk [] R R<|Ag<|Af tbk [] R R<|B1 hm (fun n32 (_:Unit)=>[(3,Iw n32)]) (fun _ (_:Unit)=>[]) (fun o hm h2=>?_) fun n32 _ hm=> ?_
 ·refine B8 (fun zn (zs:Int × Int)=>ref01_Word.l1 s zn zs.1 zs.2) (fun zs (_:Unit)=>[(0,.str s),(3,Iw zs.1),(4,Iw zs.2)]) (fun _ (_:Unit)=>[]) ((0 : Int),(0 : Int)) () (fun _=>R) hm (Ah [] R R) fun n4=>Pq fun n2 i2 _ hm=> ?_
  rw [ref01_Word.l1] at hm
  exact Ag<|Ae<|Ab tbk [] 2 R R<|Aa R R (Ca R Av)<|Aa R R (Bl R R R)<|Ac<|An hm R (fun h3 hm=>Ak<|Au<|Ae<|Ab tbk [] 2 R R<|Ad R R<|Ax hm 0 R fn197 R (K167 _ _) fun r hm=>Ab tbk [] 5 R R<|Ac<|Ag<|Ae<|Ab tbk [] 3 R R<|Bh hm 4 23 19 R (fun _ K' h5 J hm=>Ab tbk [] 4 R R<|J 3 R R (Bj hm)) (fun _ K' h5 J hm=>Bf R R R R R (Ai R)<|A8 R R R R R<|Ax hm 0 R fn198 R (K168 _) fun r2 hm=>Ab tbk [] 2 R R<|J 3 R R (Bj hm)) fun c hm=>Ac<|An hm R (fun h8 hm=>Af tbk [] R R<|have hm:=Lr hm h2;Rt1 hm R [] R R R) fun h8 hm=>Ak<|Af tbk [] R R<|A9 tbk [] R R<|Ap ((IntKind.i64.wrap (n2 + (1 : Int))),(IntKind.i64.wrap (i2 + r.2))) () hm (Ah [] R R)) fun h3 hm=>A4<|Ar () hm (Ah [] R R)
 exact Ae<|Ab tbk [] 3 R R<|Cd tbk [] 3 34 31 R R R R R<|Aa R R (Aj R)<|Ac<|Rt1 hm R [] R R R

/-! trireme/triremeref07.maybe -/
def ref07_maybe (s : ByteArray) : Option Bool :=
 (if (V.seq s (⟨#[]⟩ : ByteArray)) = true then some true else (ref01_Word s).bind fun r =>
 some r).bind fun c =>
 some c
theorem K170 (s : ByteArray) : VS Tryz.prog 149 (ref07_maybe s) [.str s] [] .bool N0 := by
 refine Az [.tmp 2] Tryz.func149 R R R fun r hm=>?_
 unfold ref07_maybe at hm
 exact Af tbk [] R R<|Ae<|Ab tbk [] 3 R R<|Bh hm 3 8 5 R (fun _ K' h1 J hm=>Ab tbk [] 3 R R<|J 2 R R (Bj hm)) (fun _ K' h1 J hm=>Bf R R R R R (Ai R)<|A8 R R R R R<|Ax hm 0 R fn153 R (K169 _) fun r hm=>Aa R R (Bq false R R R)<|J 2 R R (Bj hm)) fun c hm=>Aa R R (Aj R)<|Ac<|Rt1 hm R [] R R R

/-! trireme/triremeref04.one -/
def ref04_one (n : Int) : Option Bool :=
 some ((decide (n ≥ 0)) && (decide (n ≤ 1125899906842624)))
theorem K171 (n : Int) : VS Tryz.prog 192 (ref04_one n) [Iw n] [] .bool N0 := by
 refine Az [.tmp 2] Tryz.func192 R R R fun r hm=>?_
 unfold ref04_one at hm
 exact Af tbk [] R R<|Ae<|Ab tbk [] 3 R R<|Cd tbk [] 3 8 5 R R R R R<|Aa R R (Aj R)<|Ac<|Rt1 hm R [] R R R

/-! trireme/triremeref04.Right -/
def ref04_Right (a : T_api_Res) : Option Bool :=
 (ref04_one a.Cpu).bind fun r =>
 (if r = true then (ref04_one a.Mem).bind fun r2 =>
 some r2 else some false).bind fun c =>
 (if c = true then (ref04_one a.Disk).bind fun r3 =>
 some r3 else some false).bind fun c2 =>
 (if c2 = true then (ref04_one a.Pods).bind fun r4 =>
 some r4 else some false).bind fun c3 =>
 (if c3 = true then (ref04_one a.Dev).bind fun r5 =>
 some r5 else some false).bind fun c4 =>
 some c4
theorem K172 (a : T_api_Res) : VS Tryz.prog 150 (ref04_Right a) [T_api_Res.vv a] [] .bool N0 := by
 refine Az [.tmp 2] Tryz.func150 R R R fun r hm=>?_
 unfold ref04_Right at hm
 exact Ae<|Ad R R<|Bi R R fun b=>Aa R R (Aj R)<|Ac<|Ae<|Ab tbk [0] 2 R R<|Ad R R<|Ax hm 0 R fn192 R (K171 _) fun r hm=>Aa R R (Ai R)<|Bh hm 4 10 6 R (fun _ K' h3 J hm=>Ab tbk [0] 2 R R<|A8 R R R R R<|Ax hm 0 R fn192 R (K171 _) fun r2 hm=>Aa R R (Bq true R R R)<|J 3 R R (Bj hm)) (fun _ K' h3 J hm=>Ab tbk [] 4 R R<|J 3 R R (Bj hm)) fun c hm=>Aa R R (Ai R)<|Bh hm 4 15 11 R (fun _ K' h6 J hm=>Ab tbk [0] 2 R R<|A8 R R R R R<|Ax hm 0 R fn192 R (K171 _) fun r3 hm=>Aa R R (Bq true R R R)<|J 3 R R (Bj hm)) (fun _ K' h6 J hm=>Ab tbk [] 4 R R<|J 3 R R (Bj hm)) fun c2 hm=>Aa R R (Ai R)<|Bh hm 4 20 16 R (fun _ K' h9 J hm=>Ab tbk [0] 2 R R<|A8 R R R R R<|Ax hm 0 R fn192 R (K171 _) fun r4 hm=>Aa R R (Bq true R R R)<|J 3 R R (Bj hm)) (fun _ K' h9 J hm=>Ab tbk [] 4 R R<|J 3 R R (Bj hm)) fun c3 hm=>Aa R R (Ai R)<|Bh hm 4 25 21 R (fun _ K' h12 J hm=>Ab tbk [0] 2 R R<|A8 R R R R R<|Ax hm 0 R fn192 R (K171 _) fun r5 hm=>Aa R R (Bq true R R R)<|J 3 R R (Bj hm)) (fun _ K' h12 J hm=>Ab tbk [] 4 R R<|J 3 R R (Bj hm)) fun c4 hm=>Aa R R (Aj R)<|Ac<|Rt1 hm R [] R R R

/-! trireme/triremeref05.maybe -/
def ref05_maybe (s : ByteArray) : Option Bool :=
 (if (V.seq s (⟨#[]⟩ : ByteArray)) = true then some true else (ref01_Word s).bind fun r =>
 some r).bind fun c =>
 some c
theorem K173 (s : ByteArray) : VS Tryz.prog 193 (ref05_maybe s) [.str s] [] .bool N0 := by
 refine Az [.tmp 2] Tryz.func193 R R R fun r hm=>?_
 unfold ref05_maybe at hm
 exact Af tbk [] R R<|Ae<|Ab tbk [] 3 R R<|Bh hm 3 8 5 R (fun _ K' h1 J hm=>Ab tbk [] 3 R R<|J 2 R R (Bj hm)) (fun _ K' h1 J hm=>Bf R R R R R (Ai R)<|A8 R R R R R<|Ax hm 0 R fn153 R (K169 _) fun r hm=>Aa R R (Bq false R R R)<|J 2 R R (Bj hm)) fun c hm=>Aa R R (Aj R)<|Ac<|Rt1 hm R [] R R R

/-! trireme/triremeref05.Less -/
def ref05_Less.l1 (a : ByteArray) (b : ByteArray) : Nat → Int → Option (Out Bool Unit)
 | 0, _ => none
 | n + 1, i2 =>
  if ((decide (i2 < (a.size : Int))) && (decide (i2 < (b.size : Int)))) = true then
   (V.gi a i2).bind fun v =>
   (V.gi b i2).bind fun v2 =>
   if (v != v2) = true then
    (V.gi a i2).bind fun v3 =>
    (V.gi b i2).bind fun v4 =>
    some (Out.ret (decide (v3 < v4)))
   else
    ref05_Less.l1 a b n (i64.wrap (i2 + 1))
  else
   some (Out.go ())
def ref05_Less (a : ByteArray) (b : ByteArray) : Option Bool :=
 (ref05_Less.l1 a b FU (0 : Int)).bind fun o =>
 o.on fun j =>
 some (decide ((a.size : Int) < (b.size : Int)))
theorem K174 (a : ByteArray) (b : ByteArray) : VS Tryz.prog 194 (ref05_Less a b) [.str a, .str b] [] .bool N0 := by
 refine Az [.tmp 4] Tryz.func194 R R R fun r hm=>?_
 unfold ref05_Less at hm
 refine Af tbk [] R R<|Ag<|Af tbk [] R R<|B1 hm (fun _ (_:Unit)=>[(0,.str a),(1,.str b)]) (fun _ (_:Unit)=>[]) (fun o hm h2=>?_) fun j _ hm=> ?_
 ·refine B8 (fun zn (zs:Int)=>ref05_Less.l1 a b zn zs) (fun zs (_:Unit)=>[(0,.str a),(1,.str b),(5,Iw zs)]) (fun _ (_:Unit)=>[]) _ () (fun _=>R) hm (Ah [] R R) fun n i2 _ hm=> ?_
  rw [ref05_Less.l1] at hm
  exact Ag<|Ae<|Ab tbk [] 2 R R<|Aa R R (Ca R Av)<|Ab tbk [] 2 R R<|Dg 5 15 10 R (fun h3 K' J=>Ab tbk [] 2 R R<|Bf R R R R R (Ca R Av)<|Ab tbk [] 2 R R<|J 4 R R R) (fun K' J=>Ab tbk [] 5 R R<|J 4 R R R)<|Ac<|An hm R (fun h4 hm=>Ak<|Ag<|Au<|Ag<|Bn 0 mixed<|A6 tbk [0,1] [] (by kernel_rfl) R R R<|Bd hm fun v h5 hm=>Ba 2 R R R (by kernel_rfl) (C1 R R Av h5)<|A6 tbk [3,4] [] (by kernel_rfl) R R R<|Bd hm fun v2 h6 hm=>Ba 5 R R R (by kernel_rfl) (C1 R R Av h6)<|Ba 6 R R R (by kernel_rfl) (Bl R R R)<|A5 (by kernel_rfl)<|An hm R (fun h7 hm=>Ag<|Bn 0 mixed<|A6 tbk [0,1] [] (by kernel_rfl) R R R<|Bd hm fun v3 h8 hm=>Ba 2 R R R (by kernel_rfl) (C1 R R Av h8)<|A6 tbk [3,4] [] (by kernel_rfl) R R R<|Bd hm fun v4 h9 hm=>Ba 5 R R R (by kernel_rfl) (C1 R R Av h9)<|A6 tbk [6,7] [] (by kernel_rfl) R R R<|A5 (by kernel_rfl)<|have hm:=Lr hm h2;Rt1 hm R [] R R R) fun h7 hm=>Ak<|A9 tbk [] R R<|Ap _ () hm (Ah [] R R)) fun h4 hm=>A4<|Ar () hm (Ah [] R R)
 exact Ae<|Aa R R (Ai R)<|Aa R R (Ca R Av)<|Aa R R (Ai R)<|Aa R R (Ca R Av)<|Ab tbk [] 2 R R<|Ac<|Rt1 hm R [] R R R

/-! trireme/triremeref05.Right -/
def ref05_Right.l1 (l : List T_api_Label) : Nat → Int → Option (Out Bool Unit)
 | 0, _ => none
 | n + 1, i2 =>
  if (decide (i2 < (l.length : Int))) = true then
   (V.gl l i2).bind fun x =>
   (ref01_Word x.Key).bind fun r =>
   (if (!r) = true then some true else (V.gl l i2).bind fun x2 =>
   (ref05_maybe x2.Val).bind fun r2 =>
   some (!r2)).bind fun c =>
   (if c = true then some true else (if (decide (i2 > 0)) = true then (V.gl l (i64.wrap (i2 - 1))).bind fun x3 =>
   (V.gl l i2).bind fun x4 =>
   (ref05_Less x3.Key x4.Key).bind fun r3 =>
   some (!r3) else some false).bind fun c2 =>
   some c2).bind fun c3 =>
   if c3 = true then
    some (Out.ret false)
   else
    ref05_Right.l1 l n (i64.wrap (i2 + 1))
  else
   some (Out.go ())
def ref05_Right (l : List T_api_Label) : Option Bool :=
 if (decide ((l.length : Int) > 16)) = true then
  some false
 else
  (ref05_Right.l1 l FU (0 : Int)).bind fun o =>
  o.on fun j =>
  some true
theorem K175 (l : List T_api_Label) : VS Tryz.prog 151 (ref05_Right l) [L232 l] [] .bool N0 := by
 refine Az [.tmp 2] Tryz.func151 R R R fun r hm=>?_
 unfold ref05_Right at hm
 refine Af tbk [] R R<|Ag<|Ae<|Aa R R (Ai R)<|Aa R R (Ay T_api_Label.vv R B9)<|Aa R R (Bl R R R)<|Ac<|An hm R (fun h1 hm=>Af tbk [] R R<|Rt1 hm R [] R R R) fun h1 hm=>Ak<|Ag<|Af tbk [] R R<|B1 hm (fun _ (_:Unit)=>[]) (fun _ (_:Unit)=>[]) (fun o hm h3=>?_) fun j _ hm=> ?_
 ·refine B8 (fun zn (zs:Int)=>ref05_Right.l1 l zn zs) (fun zs (_:Unit)=>[(0,L232 l),(3,Iw zs)]) (fun _ (_:Unit)=>[]) _ () (fun _=>R) hm (Ah [] R R) fun n i2 _ hm=> ?_
  rw [ref05_Right.l1] at hm
  refine Ag<|Ae<|Ab tbk [] 2 R R<|Aa R R (Ay T_api_Label.vv R B9)<|Aa R R (Bl R R R)<|Ac<|An hm R (fun h4 hm=>?_) fun h4 hm=> ?_
  ·refine Ak<|Ag<|Au<|Ag<|Bn 0 mixed<|A6 tbk [0,1] [] (by kernel_rfl) R R R<|Bd hm fun x h5 hm=>Ba 2 R R R (by kernel_rfl) (Br T_api_Label.vv R R el24 h5)<|A6 tbk [3,4] [] (by kernel_rfl) R R R<|Am 5 (by kernel_rfl)<|Bd hm fun r h6 hm=>Ao R R R<|Aw 0 R fn153 R (K169 x.Key r h6) fun _ _ h19=> ?_
   obtain ⟨rfl,rfl⟩:=h19
   exact A6 tbk [6,7] [] (by kernel_rfl) R R R<|Df hm [15,14,13,12,11,10,9,8,7,6,5,4,3,2,1,0] 28 20 R (fun _ K' h7 J hm=>A6 tbk [8,9,10,11,12,13,14,15] [] (by kernel_rfl) R R R<|J 7 R R (Bj hm)) (fun _ K' h7 J hm=>A6 tbk [8,9] [] (by kernel_rfl) R R R<|Bd hm fun x2 h8 hm=>Dl 10 R R R R R R (by kernel_rfl) (Br T_api_Label.vv R R el24 h8)<|A6 tbk [11,12] [] (by kernel_rfl) R R R<|Am 13 (by kernel_rfl)<|D2 R R R R R R<|Ax hm 0 R fn193 R (K173 _) fun r2 hm=>A6 tbk [14,15] [] (by kernel_rfl) R R R<|J 7 R R (Bj hm)) fun c hm=>Ba 16 R R R (by kernel_rfl) (Ai R)<|Df hm [34,33,32,31,30,29,28,27,26,25,24,23,22,21,20,19,18,17,16,15,14,13,12,11,10,9,8,7,6,5,4,3,2,1,0] 47 29 R (fun _ K' h11 J hm=>A6 tbk [17,18,19,20,21,22,23,24,25,26,27,28,29,30,31,32,33,34] [] (by kernel_rfl) R R R<|J 17 R R (Bj hm)) (fun _ K' h11 J hm=>A6 tbk [17,18,19] [] (by kernel_rfl) R R R<|Df hm [33,32,31,30,29,28,27,26,25,24,23,22,21,20,19,18,17,16,15,14,13,12,11,10,9,8,7,6,5,4,3,2,1,0] 46 32 R (fun _ K' h12 J hm=>A6 tbk [20,21,22] [] (by kernel_rfl) R R R<|Bd hm fun x3 h13 hm=>Dl 23 R R R R R R (by kernel_rfl) (Br T_api_Label.vv R R el24 h13)<|A6 tbk [24,25,26,27] [] (by kernel_rfl) R R R<|Bd hm fun x4 h14 hm=>Dl 28 R R R R R R (by kernel_rfl) (Br T_api_Label.vv R R el24 h14)<|A6 tbk [29,30] [] (by kernel_rfl) R R R<|Am 31 (by kernel_rfl)<|D2 R R R R R R<|Ax hm 0 R fn194 R (K174 _ _) fun r3 hm=>A6 tbk [32,33] [] (by kernel_rfl) R R R<|J 13 R R (Bj hm)) (fun _ K' h12 J hm=>A6 tbk [20,21,22,23,24,25,26,27,28,29,30,31,32,33] [] (by kernel_rfl) R R R<|J 13 R R (Bj hm)) fun c2 hm=>Ba 34 R R R (by kernel_rfl) (Bq false R R R)<|J 4 R R (Bj hm)) fun c3 hm=>A5 (by kernel_rfl)<|An hm R (fun h18 hm=>Af tbk [] R R<|have hm:=Lr hm h3;Rt1 hm R [] R R R) fun h18 hm=>Ak<|A9 tbk [] R R<|Ap _ () hm (Ah [] R R)
  exact A4<|Ar () hm (Ah [] R R)
 exact Af tbk [] R R<|Rt1 hm R [] R R R

/-! trireme/triremeref06.maybe -/
def ref06_maybe (s : ByteArray) : Option Bool :=
 (if (V.seq s (⟨#[]⟩ : ByteArray)) = true then some true else (ref01_Word s).bind fun r =>
 some r).bind fun c =>
 some c
theorem K176 (s : ByteArray) : VS Tryz.prog 195 (ref06_maybe s) [.str s] [] .bool N0 := by
 refine Az [.tmp 2] Tryz.func195 R R R fun r hm=>?_
 unfold ref06_maybe at hm
 exact Af tbk [] R R<|Ae<|Ab tbk [] 3 R R<|Bh hm 3 8 5 R (fun _ K' h1 J hm=>Ab tbk [] 3 R R<|J 2 R R (Bj hm)) (fun _ K' h1 J hm=>Bf R R R R R (Ai R)<|A8 R R R R R<|Ax hm 0 R fn153 R (K169 _) fun r hm=>Aa R R (Bq false R R R)<|J 2 R R (Bj hm)) fun c hm=>Aa R R (Aj R)<|Ac<|Rt1 hm R [] R R R

/-! trireme/triremeref06.effect -/
def ref06_effect (n : Int) : Option Bool :=
 some ((decide (n ≥ 1)) && (decide (n ≤ 3)))
theorem K177 (n : Int) : VS Tryz.prog 196 (ref06_effect n) [Iw n] [] .bool N0 := by
 refine Az [.tmp 2] Tryz.func196 R R R fun r hm=>?_
 unfold ref06_effect at hm
 exact Af tbk [] R R<|Ae<|Ab tbk [] 3 R R<|Cd tbk [] 3 8 5 R R R R R<|Aa R R (Aj R)<|Ac<|Rt1 hm R [] R R R

/-! trireme/triremeref06.Right -/
def ref06_Right.l2 (l : List T_api_Taint) (i2 : Int) : Nat → Int → Option (Out (Out Bool Unit) Unit)
 | 0, _ => none
 | n2 + 1, k2 =>
  if (decide (k2 < i2)) = true then
   (V.gl l k2).bind fun x4 =>
   (V.gl l i2).bind fun x5 =>
   (if (V.seq x4.Key x5.Key) = true then (V.gl l k2).bind fun x6 =>
   (V.gl l i2).bind fun x7 =>
   some (x6.Effect == x7.Effect) else some false).bind fun c3 =>
   if c3 = true then
    some (Out.ret (Out.ret false))
   else
    ref06_Right.l2 l i2 n2 (i64.wrap (k2 + 1))
  else
   some (Out.go ())
def ref06_Right.l1 (l : List T_api_Taint) : Nat → Int → Option (Out Bool Unit)
 | 0, _ => none
 | n + 1, i2 =>
  if (decide (i2 < (l.length : Int))) = true then
   (V.gl l i2).bind fun x =>
   (ref01_Word x.Key).bind fun r =>
   (if (!r) = true then some true else (V.gl l i2).bind fun x2 =>
   (ref06_maybe x2.Val).bind fun r2 =>
   some (!r2)).bind fun c =>
   (if c = true then some true else (V.gl l i2).bind fun x3 =>
   (ref06_effect x3.Effect).bind fun r3 =>
   some (!r3)).bind fun c2 =>
   if c2 = true then
    some (Out.ret false)
   else
    (ref06_Right.l2 l i2 FU (0 : Int)).bind fun o2 =>
    o2.on fun j2 =>
    ref06_Right.l1 l n (i64.wrap (i2 + 1))
  else
   some (Out.go ())
def ref06_Right (l : List T_api_Taint) : Option Bool :=
 if (decide ((l.length : Int) > 16)) = true then
  some false
 else
  (ref06_Right.l1 l FU (0 : Int)).bind fun o =>
  o.on fun j =>
  some true
theorem K178 (l : List T_api_Taint) : VS Tryz.prog 152 (ref06_Right l) [L31 l] [] .bool N0 := by
 refine Az [.tmp 2] Tryz.func152 R R R fun r hm=>?_
 unfold ref06_Right at hm
 refine Af tbk [] R R<|Ag<|Ae<|Aa R R (Ai R)<|Aa R R (Ay T_api_Taint.vv R Cn)<|Aa R R (Bl R R R)<|Ac<|An hm R (fun h1 hm=>Af tbk [] R R<|Rt1 hm R [] R R R) fun h1 hm=>Ak<|Ag<|Af tbk [] R R<|B1 hm (fun _ (_:Unit)=>[]) (fun _ (_:Unit)=>[]) (fun o hm h3=>?_) fun j _ hm=> ?_
 ·refine B8 (fun zn (zs:Int)=>ref06_Right.l1 l zn zs) (fun zs (_:Unit)=>[(0,L31 l),(3,Iw zs)]) (fun _ (_:Unit)=>[]) _ () (fun _=>R) hm (Ah [] R R) fun n i2 _ hm=> ?_
  rw [ref06_Right.l1] at hm
  refine Ag<|Ae<|Ab tbk [] 2 R R<|Aa R R (Ay T_api_Taint.vv R Cn)<|Aa R R (Bl R R R)<|Ac<|An hm R (fun h4 hm=>?_) fun h4 hm=> ?_
  ·refine Ak<|Ag<|Au<|Ag<|Ae<|Ab tbk [] 2 R R<|Bd hm fun x h5 hm=>Aa R R (Br T_api_Taint.vv R R el66 h5)<|Ab tbk [] 2 R R<|Ad R R<|Ax hm 0 R fn153 R (K169 _) fun r hm=>Ab tbk [] 2 R R<|Bh hm 8 29 21 R (fun _ K' h7 J hm=>Ab tbk [] 8 R R<|J 7 R R (Bj hm)) (fun _ K' h7 J hm=>Ab tbk [] 2 R R<|Bd hm fun x2 h8 hm=>Bf R R R R R (Br T_api_Taint.vv R R el66 h8)<|Ab tbk [] 2 R R<|A8 R R R R R<|Ax hm 0 R fn195 R (K176 _) fun r2 hm=>Ab tbk [] 2 R R<|J 7 R R (Bj hm)) fun c hm=>Aa R R (Ai R)<|Bh hm 8 38 30 R (fun _ K' h11 J hm=>Ab tbk [] 8 R R<|J 7 R R (Bj hm)) (fun _ K' h11 J hm=>Ab tbk [] 2 R R<|Bd hm fun x3 h12 hm=>Bf R R R R R (Br T_api_Taint.vv R R el66 h12)<|Ab tbk [] 2 R R<|A8 R R R R R<|Ax hm 0 R fn196 R (K177 _) fun r3 hm=>Ab tbk [] 2 R R<|J 7 R R (Bj hm)) fun c2 hm=>Ac<|An hm R (fun h15 hm=>Af tbk [] R R<|have hm:=Lr hm h3;Rt1 hm R [] R R R) fun h15 hm=>Ak<|Af tbk [] R R<|B1 hm (fun _ (_:Unit)=>[(0,L31 l),(3,Iw i2)]) (fun _ (_:Unit)=>[]) (fun o2 hm h17=>?_) fun j2 _ hm=> ?_
   ·refine B8 (fun zn (zs:Int)=>ref06_Right.l2 l i2 zn zs) (fun zs (_:Unit)=>[(0,L31 l),(3,Iw i2),(4,Iw zs)]) (fun _ (_:Unit)=>[]) _ () (fun _=>R) hm (Ah [] R R) fun n2 k2 _ hm=> ?_
    rw [ref06_Right.l2] at hm
    exact Ag<|Af tbk [] R R<|An hm R (fun h18 hm=>Ak<|Ag<|Au<|Ag<|Bn 0 mixed<|A6 tbk [0,1] [] (by kernel_rfl) R R R<|Bd hm fun x4 h19 hm=>Ba 2 R R R (by kernel_rfl) (Br T_api_Taint.vv R R el66 h19)<|A6 tbk [3,4,5,6] [] (by kernel_rfl) R R R<|Bd hm fun x5 h20 hm=>Ba 7 R R R (by kernel_rfl) (Br T_api_Taint.vv R R el66 h20)<|A6 tbk [8,9,10,11] [] (by kernel_rfl) R R R<|Df hm [23,22,21,20,19,18,17,16,15,14,13,12,11,10,9,8,7,6,5,4,3,2,1,0] 67 55 R (fun _ K' h21 J hm=>A6 tbk [12,13] [] (by kernel_rfl) R R R<|Bd hm fun x6 h22 hm=>Dl 14 R R R R R R (by kernel_rfl) (Br T_api_Taint.vv R R el66 h22)<|A6 tbk [15,16,17,18] [] (by kernel_rfl) R R R<|Bd hm fun x7 h23 hm=>Dl 19 R R R R R R (by kernel_rfl) (Br T_api_Taint.vv R R el66 h23)<|A6 tbk [20,21,22,23] [] (by kernel_rfl) R R R<|J 11 R R (Bj hm)) (fun _ K' h21 J hm=>A6 tbk [12,13,14,15,16,17,18,19,20,21,22,23] [] (by kernel_rfl) R R R<|J 11 R R (Bj hm)) fun c3 hm=>A5 (by kernel_rfl)<|An hm R (fun h25 hm=>Af tbk [] R R<|have hm:=Lr hm h17;have hm:=Lr hm h3;Rt1 hm R [] R R R) fun h25 hm=>Ak<|A9 tbk [] R R<|Ap _ () hm (Ah [] R R)) fun h18 hm=>A4<|Ar () hm (Ah [] R R)
   exact A9 tbk [] R R<|Ap _ () hm (Ah [] R R)
  exact A4<|Ar () hm (Ah [] R R)
 exact Af tbk [] R R<|Rt1 hm R [] R R R

/-! trireme/triremeref07.RightMachine -/
def ref07_RightMachine (m : T_api_Machine) : Option Bool :=
 (ref07_maybe m.Name).bind fun r =>
 (if r = true then (ref07_maybe m.Group).bind fun r2 =>
 some r2 else some false).bind fun c =>
 (if c = true then (ref04_Right m.Has).bind fun r3 =>
 some r3 else some false).bind fun c2 =>
 (if c2 = true then (ref05_Right m.Labels).bind fun r4 =>
 some r4 else some false).bind fun c3 =>
 (if c3 = true then (ref06_Right m.Taints).bind fun r5 =>
 some r5 else some false).bind fun c4 =>
 some c4
theorem K179 (m : T_api_Machine) : VS Tryz.prog 85 (ref07_RightMachine m) [T_api_Machine.vv m] [] .bool N0 := by
 refine Az [.tmp 2] Tryz.func85 R R R fun r hm=>?_
 unfold ref07_RightMachine at hm
 exact Ae<|Ad R R<|Bi R R fun b=>Aa R R (Aj R)<|Ac<|Ae<|Ab tbk [0] 2 R R<|Ad R R<|Ax hm 0 R fn149 R (K170 _) fun r hm=>Aa R R (Ai R)<|Bh hm 4 10 6 R (fun _ K' h3 J hm=>Ab tbk [0] 2 R R<|A8 R R R R R<|Ax hm 0 R fn149 R (K170 _) fun r2 hm=>Aa R R (Bq true R R R)<|J 3 R R (Bj hm)) (fun _ K' h3 J hm=>Ab tbk [] 4 R R<|J 3 R R (Bj hm)) fun c hm=>Aa R R (Ai R)<|Bh hm 4 15 11 R (fun _ K' h6 J hm=>Ab tbk [0] 2 R R<|A8 R R R R R<|Ax hm 0 R fn150 R (K172 _) fun r3 hm=>Aa R R (Bq true R R R)<|J 3 R R (Bj hm)) (fun _ K' h6 J hm=>Ab tbk [] 4 R R<|J 3 R R (Bj hm)) fun c2 hm=>Aa R R (Ai R)<|Bh hm 4 20 16 R (fun _ K' h9 J hm=>Ab tbk [0] 2 R R<|A8 R R R R R<|Ax hm 0 R fn151 R (K175 _) fun r4 hm=>Aa R R (Bq true R R R)<|J 3 R R (Bj hm)) (fun _ K' h9 J hm=>Ab tbk [] 4 R R<|J 3 R R (Bj hm)) fun c3 hm=>Aa R R (Ai R)<|Bh hm 4 25 21 R (fun _ K' h12 J hm=>Ab tbk [0] 2 R R<|A8 R R R R R<|Ax hm 0 R fn152 R (K178 _) fun r5 hm=>Aa R R (Bq true R R R)<|J 3 R R (Bj hm)) (fun _ K' h12 J hm=>Ab tbk [] 4 R R<|J 3 R R (Bj hm)) fun c4 hm=>Aa R R (Aj R)<|Ac<|Rt1 hm R [] R R R

/-! trireme/triremeref07.in -/
def ref07_in (n : Int) (low : Int) (high : Int) : Option Bool :=
 some ((decide (n ≥ low)) && (decide (n ≤ high)))
theorem K180 (n : Int) (low : Int) (high : Int) : VS Tryz.prog 154 (ref07_in n low high) [Iw n, Iw low, Iw high] [] .bool N0 := by
 refine Az [.tmp 6] Tryz.func154 R R R fun r hm=>?_
 unfold ref07_in at hm
 exact Af tbk [] R R<|Ae<|Ab tbk [] 4 R R<|Cd tbk [] 4 14 10 R R R R R<|Aa R R (Aj R)<|Ac<|Rt1 hm R [] R R R

/-! trireme/triremeref03.digit -/
def ref03_digit (c : Int) : Option Bool :=
 some ((decide (c ≥ 48)) && (decide (c ≤ 57)))
theorem K181 (c : Int) : VS Tryz.prog 241 (ref03_digit c) [.int .u8 c] [] .bool N0 := by
 refine Az [.tmp 2] Tryz.func241 R R R fun r hm=>?_
 unfold ref03_digit at hm
 exact Af tbk [] R R<|Ae<|Ab tbk [] 3 R R<|Cd tbk [] 3 8 5 R R R R R<|Aa R R (Aj R)<|Ac<|Rt1 hm R [] R R R

/-! trireme/triremeref03.digits -/
def ref03_digits.l1 (s : ByteArray) : Nat → Int → Option Int
 | 0, _ => none
 | n4 + 1, n2 =>
  (if (decide (n2 < (s.size : Int))) = true then (V.gi s n2).bind fun v =>
  (ref03_digit v).bind fun r =>
  some r else some false).bind fun c =>
  if c = true then
   ref03_digits.l1 s n4 (i64.wrap (n2 + 1))
  else
   some n2
def ref03_digits (s : ByteArray) : Option Int :=
 (ref03_digits.l1 s FU (0 : Int)).bind fun n32 =>
 some n32
theorem K182 (s : ByteArray) : VS Tryz.prog 226 (ref03_digits s) [.str s] [] Iw N0 := by
 refine Az [.tmp 2] Tryz.func226 R R R fun r hm=>?_
 unfold ref03_digits at hm
 refine Af tbk [] R R<|Af tbk [] R R<|De hm (fun n32 (_:Unit)=>[(3,Iw n32)]) (fun _ (_:Unit)=>[]) (fun o hm=>?_) fun n32 _ hm=> ?_
 ·refine B8 (fun zn (zs:Int)=>ref03_digits.l1 s zn zs) (fun zs (_:Unit)=>[(0,.str s),(3,Iw zs)]) (fun _ (_:Unit)=>[]) _ () (fun _=>R) hm (Ah [] R R) fun n4 n2 _ hm=> ?_
  rw [ref03_digits.l1] at hm
  exact Ag<|Ae<|Ab tbk [] 2 R R<|Aa R R (Ca R Av)<|Ab tbk [] 2 R R<|Bh hm 5 13 8 R (fun _ K' h3 J hm=>Ab tbk [] 2 R R<|Bd hm fun v h4 hm=>Bf R R R R R (C1 R R Av h4)<|A8 R R R R R<|Ax hm 0 R fn241 R (K181 _) fun r hm=>Aa R R (Bq true R R R)<|J 4 R R (Bj hm)) (fun _ K' h3 J hm=>Ab tbk [] 5 R R<|J 4 R R (Bj hm)) fun c hm=>Ac<|An hm R (fun h7 hm=>Ak<|Au<|A9 tbk [] R R<|Ap _ () hm (Ah [] R R)) fun h7 hm=>A4<|As () hm (Ah [] R R)
 exact Af tbk [] R R<|Rt1 hm R [] R R R

/-! trireme/triremeref03.value -/
def ref03_value.l1 (s : ByteArray) : Nat → Int → Int → Option Int
 | 0, _, _ => none
 | n4 + 1, n2, i2 =>
  if (decide (i2 < (s.size : Int))) = true then
   (V.gi s i2).bind fun v =>
   ref03_value.l1 s n4 (min (i64.wrap ((i64.wrap (10 * n2)) + (i64.wrap (IntKind.u8.wrap (v - 48))))) 1125899906842625) (i64.wrap (i2 + 1))
  else
   some n2
def ref03_value (s : ByteArray) : Option Int :=
 (ref03_value.l1 s FU 0 (0 : Int)).bind fun n32 =>
 some n32
theorem K183 (s : ByteArray) : VS Tryz.prog 227 (ref03_value s) [.str s] [] Iw N0 := by
 refine Az [.tmp 2] Tryz.func227 R R R fun r hm=>?_
 unfold ref03_value at hm
 refine Af tbk [] R R<|Af tbk [] R R<|Ag<|Af tbk [] R R<|Cf hm (fun n32 (_:Unit)=>[(3,Iw n32)]) (fun _ (_:Unit)=>[]) (fun o hm=>?_) fun n32 _ hm=> ?_
 ·refine B8 (fun zn (zs:Int × Int)=>ref03_value.l1 s zn zs.1 zs.2) (fun zs (_:Unit)=>[(0,.str s),(3,Iw zs.1),(4,Iw zs.2)]) (fun _ (_:Unit)=>[]) ((0 : Int),(0 : Int)) () (fun _=>R) hm (Ah [] R R) fun n4=>Pq fun n2 i2 _ hm=> ?_
  rw [ref03_value.l1] at hm
  exact Ag<|Ae<|Ab tbk [] 2 R R<|Aa R R (Ca R Av)<|Aa R R (Bl R R R)<|Ac<|An hm R (fun h3 hm=>Ak<|Ag<|Au<|B2<|Ab tbk [] 4 R R<|Bd hm fun v h4 hm=>Aa R R (C1 R R Av h4)<|Aa R R (Bl R R R)<|Aa R R (C7 Cg Cm R)<|Aa R R (Bl R R R)<|Aa R R (VP.min2 R R)<|Aa R R (Aj R)<|Ac<|A9 tbk [] R R<|Ap ((min (IntKind.i64.wrap ((IntKind.i64.wrap ((10 : Int) * n2)) + (IntKind.i64.wrap (IntKind.u8.wrap (v - (48 : Int)))))) (1125899906842625 : Int)),(IntKind.i64.wrap (i2 + (1 : Int)))) () hm (Ah [] R R)) fun h3 hm=>A4<|As () hm (Ah [] R R)
 exact Af tbk [] R R<|Rt1 hm R [] R R R

/-! trireme/triremeref03.Number -/
def ref03_Number (s : ByteArray) : Option (Int × Int) :=
 (if ((s.size : Int) == 0) = true then some true else (ref03_digits s).bind fun r =>
 some (decide (r < (s.size : Int)))).bind fun c =>
 if c = true then
  some (0, 8)
 else
  (ref03_value s).bind fun r2 =>
  if (decide (r2 > 1125899906842624)) = true then
   some (0, 10)
  else
   some (r2, 0)
theorem K184 (s : ByteArray) : VS Tryz.prog 199 (ref03_Number s) [.str s] [] (fun r=>.tup [Iw r.1, Iw r.2]) N0 := by
 refine Az [.tmp 2,.tmp 3] Tryz.func199 R R R fun r hm=>?_
 unfold ref03_Number at hm
 exact Af tbk [] R R<|Ag<|Ae<|Aa R R (Ai R)<|Aa R R (Ca R Av)<|Ab tbk [] 2 R R<|Bh hm 6 14 8 R (fun _ K' h1 J hm=>Ab tbk [] 6 R R<|J 5 R R (Bj hm)) (fun _ K' h1 J hm=>Bf R R R R R (Ai R)<|A8 R R R R R<|Ax hm 0 R fn226 R (K182 _) fun r hm=>Bf R R R R R (Ai R)<|Bf R R R R R (Ca R Av)<|Ab tbk [] 2 R R<|J 5 R R (Bj hm)) fun c hm=>Ac<|An hm R (fun h4 hm=>Af tbk [] R R<|Rt2 hm R [] R R R R) fun h4 hm=>Ak<|Ae<|Aa R R (Ai R)<|Ad R R<|Ax hm 0 R fn227 R (K183 _) fun r2 hm=>Aa R R (Aj R)<|Ac<|Ag<|Af tbk [] R R<|An hm R (fun h6 hm=>Af tbk [] R R<|Rt2 hm R [] R R R R) fun h6 hm=>Ak<|Af tbk [] R R<|Rt2 hm R [] R R R R

/-! trireme/triremeref05.RightTerm -/
def ref05_RightTerm.l1 (t : T_api_Term) : Nat → Int → Option (Out Bool Unit)
 | 0, _ => none
 | n + 1, i2 =>
  if (decide (i2 < (t.Vals.length : Int))) = true then
   (V.gl t.Vals i2).bind fun x =>
   (ref05_maybe x).bind fun r2 =>
   if (!r2) = true then
    some (Out.ret false)
   else
    ref05_RightTerm.l1 t n (i64.wrap (i2 + 1))
  else
   some (Out.go ())
def ref05_RightTerm (t : T_api_Term) : Option Bool :=
 (ref01_Word t.Key).bind fun r =>
 if (!r) = true then
  some false
 else
  (if (t.Op == 1) = true then
   some (t.Op == 1)
  else
   some (t.Op == 2)).bind fun v2 =>
  if v2 = true then
   (ref05_RightTerm.l1 t FU (0 : Int)).bind fun o2 =>
   o2.on fun j =>
   some ((decide ((t.Vals.length : Int) ≥ 1)) && (decide ((t.Vals.length : Int) ≤ 16)))
  else
   (if (t.Op == 3) = true then
    some (t.Op == 3)
   else
    some (t.Op == 4)).bind fun v32 =>
   if v32 = true then
    some ((t.Vals.length : Int) == 0)
   else
    (if (t.Op == 5) = true then
     some (t.Op == 5)
    else
     some (t.Op == 6)).bind fun v42 =>
    if v42 = true then
     if ((t.Vals.length : Int) != 1) = true then
      some false
     else
      (V.gl t.Vals (0 : Int)).bind fun x2 =>
      (ref03_Number x2).bind fun r3 =>
      some (r3.2 == 0)
    else
     some false
theorem K185 (t : T_api_Term) : VS Tryz.prog 155 (ref05_RightTerm t) [T_api_Term.vv t] [] .bool N0 := by
 refine Az [.tmp 2] Tryz.func155 R R R fun r hm=>?_
 unfold ref05_RightTerm at hm
 refine Ae<|Ad R R<|Bi R R fun b=>Aa R R (Aj R)<|Ac<|Ag<|Ae<|Ab tbk [0] 2 R R<|Ad R R<|Ax hm 0 R fn153 R (K169 _) fun r hm=>Aa R R (Ci R)<|Ac<|An hm R (fun h3 hm=>Af tbk [] R R<|Rt1 hm R [] R R R) fun h3 hm=>Ak<|Ag<|Af tbk [0] R R<|Au<|De hm (fun v2 (_:Unit)=>[(1,.ptr b 0),(11,Iw t.Op),(12,.bool v2)]) (fun _ (_:Unit)=>[X189 b t]) (fun o hm=>Af tbk [] R R<|An hm R (fun h6 hm=>Ak<|As () hm (Ah [0] R R)) fun h6 hm=>A9 tbk [] R R<|As () hm (Ah [0] R R)) fun v2 _ hm=>An hm R (fun h7 hm=>?_) fun h7 hm=> ?_
 ·refine Ag<|Af tbk [] R R<|B1 hm (fun _ (_:Unit)=>[(1,.ptr b 0)]) (fun _ (_:Unit)=>[X189 b t]) (fun o2 hm h9=>?_) fun j _ hm=> ?_
  ·refine B8 (fun zn (zs:Int)=>ref05_RightTerm.l1 t zn zs) (fun zs (_:Unit)=>[(1,.ptr b 0),(3,Iw zs)]) (fun _ (_:Unit)=>[X189 b t]) _ () (fun _=>R) hm (Ah [0] R R) fun n i2 _ hm=> ?_
   rw [ref05_RightTerm.l1] at hm
   exact Ag<|Ae<|Ab tbk [0] 3 R R<|Aa R R (Ay VV.str R Bu)<|Aa R R (Bl R R R)<|Ac<|An hm R (fun h10 hm=>Ak<|Ag<|Au<|Ae<|Ab tbk [0] 3 R R<|Bd hm fun x h11 hm=>Aa R R (Br VV.str R R el61 h11)<|Aa R R (Bs R ld9 R)<|Ad R R<|Ax hm 0 R fn193 R (K173 _) fun r2 hm=>Aa R R (Ci R)<|Ac<|An hm R (fun h13 hm=>Af tbk [] R R<|have hm:=Lr hm h9;Rt1 hm R [] R R R) fun h13 hm=>Ak<|A9 tbk [] R R<|Ap _ () hm (Ah [0] R R)) fun h10 hm=>A4<|Ar () hm (Ah [0] R R)
  exact Ae<|Ab tbk [0] 2 R R<|Aa R R (Ay VV.str R Bu)<|Ab tbk [] 2 R R<|Dg 5 38 33 R (fun h14 K' J=>Ab tbk [0] 2 R R<|Bf R R R R R (Ay VV.str R Bu)<|Ab tbk [] 2 R R<|J 4 R R R) (fun K' J=>Ab tbk [] 5 R R<|J 4 R R R)<|Aa R R (Aj R)<|Ac<|Rt1 hm R [] R R R
 exact De hm (fun v32 (_:Unit)=>[(1,.ptr b 0),(11,Iw t.Op),(39,.bool v32)]) (fun _ (_:Unit)=>[X189 b t]) (fun o3 hm=>Af tbk [] R R<|An hm R (fun h17 hm=>Ak<|As () hm (Ah [0] R R)) fun h17 hm=>A9 tbk [] R R<|As () hm (Ah [0] R R)) fun v32 _ hm=>An hm R (fun h18 hm=>Ae<|Ab tbk [0] 2 R R<|Aa R R (Ay VV.str R Bu)<|Ab tbk [] 2 R R<|Ac<|Rt1 hm R [] R R R) fun h18 hm=>De hm (fun v42 (_:Unit)=>[(1,.ptr b 0),(46,.bool v42)]) (fun _ (_:Unit)=>[X189 b t]) (fun o4 hm=>Af tbk [] R R<|An hm R (fun h21 hm=>Ak<|As () hm (Ah [0] R R)) fun h21 hm=>A9 tbk [] R R<|As () hm (Ah [0] R R)) fun v42 _ hm=>An hm R (fun h22 hm=>Ag<|Ae<|Ab tbk [0] 2 R R<|Aa R R (Ay VV.str R Bu)<|Aa R R (Bl R R R)<|Ac<|An hm R (fun h23 hm=>Af tbk [] R R<|Rt1 hm R [] R R R) fun h23 hm=>Ak<|Ae<|Ab tbk [0] 2 R R<|Bd hm fun x2 h24 hm=>Aa R R (Br VV.str R R el61 h24)<|Aa R R (Bs R ld9 R)<|Ad R R<|Ax hm 0 R fn199 R (K184 _) fun r3 hm=>Ab tbk [] 5 R R<|Ac<|Af tbk [] R R<|Rt1 hm R [] R R R) fun h22 hm=>Ak<|Af tbk [] R R<|Rt1 hm R [] R R R

/-! trireme/triremeref06.RightBears -/
def ref06_RightBears.l1 (l : List T_api_Toleration) : Nat → Int → Option (Out Bool Unit)
 | 0, _ => none
 | n + 1, i2 =>
  if (decide (i2 < (l.length : Int))) = true then
   (V.gl l i2).bind fun x =>
   (ref06_maybe x.Key).bind fun r =>
   (if (!r) = true then some true else (ref06_maybe x.Val).bind fun r2 =>
   some (!r2)).bind fun c =>
   (if c = true then some true else (if (x.Effect != 0) = true then (ref06_effect x.Effect).bind fun r3 =>
   some (!r3) else some false).bind fun c2 =>
   some c2).bind fun c3 =>
   if ((c3 || (x.Any && (!(V.seq x.Val (⟨#[]⟩ : ByteArray))))) || ((V.seq x.Key (⟨#[]⟩ : ByteArray)) && (!x.Any))) = true then
    some (Out.ret false)
   else
    ref06_RightBears.l1 l n (i64.wrap (i2 + 1))
  else
   some (Out.go ())
def ref06_RightBears (l : List T_api_Toleration) : Option Bool :=
 if (decide ((l.length : Int) > 16)) = true then
  some false
 else
  (ref06_RightBears.l1 l FU (0 : Int)).bind fun o =>
  o.on fun j =>
  some true
theorem K186 (l : List T_api_Toleration) : VS Tryz.prog 156 (ref06_RightBears l) [L191 l] [] .bool N0 := by
 refine Az [.tmp 2] Tryz.func156 R R R fun r hm=>?_
 unfold ref06_RightBears at hm
 refine Af tbk [] R R<|Ag<|Ae<|Aa R R (Ai R)<|Aa R R (Ay T_api_Toleration.vv R C2)<|Aa R R (Bl R R R)<|Ac<|An hm R (fun h1 hm=>Af tbk [] R R<|Rt1 hm R [] R R R) fun h1 hm=>Ak<|Ag<|Af tbk [] R R<|B1 hm (fun _ (_:Unit)=>[]) (fun _ (_:Unit)=>[]) (fun o hm h3=>?_) fun j _ hm=> ?_
 ·refine B8 (fun zn (zs:Int)=>ref06_RightBears.l1 l zn zs) (fun zs (_:Unit)=>[(0,L191 l),(3,Iw zs)]) (fun _ (_:Unit)=>[]) _ () (fun _=>R) hm (Ah [] R R) fun n i2 _ hm=> ?_
  rw [ref06_RightBears.l1] at hm
  refine Ag<|Ae<|Ab tbk [] 2 R R<|Aa R R (Ay T_api_Toleration.vv R C2)<|Aa R R (Bl R R R)<|Ac<|An hm R (fun h4 hm=>?_) fun h4 hm=> ?_
  ·exact Ak<|Ag<|Au<|Ae<|Ab tbk [] 2 R R<|Bd hm fun x h5 hm=>Aa R R (Br T_api_Toleration.vv R R el26 h5)<|Aa R R (Bs R ld191 R)<|Ad R R<|Aq z191 fun b=>Ad R R<|Al (i:=0) R R R ld191 R R R<|Ac<|Ae<|Ab tbk [0] 2 R R<|Ad R R<|Ax hm 0 R fn195 R (K176 _) fun r hm=>Ab tbk [] 2 R R<|Bh hm 5 27 22 R (fun _ K' h8 J hm=>Ab tbk [] 5 R R<|J 4 R R (Bj hm)) (fun _ K' h8 J hm=>Ab tbk [0] 2 R R<|A8 R R R R R<|Ax hm 0 R fn195 R (K176 _) fun r2 hm=>Ab tbk [] 2 R R<|J 4 R R (Bj hm)) fun c hm=>Aa R R (Ai R)<|Bh hm 10 38 28 R (fun _ K' h11 J hm=>Ab tbk [] 10 R R<|J 9 R R (Bj hm)) (fun _ K' h11 J hm=>Ab tbk [0] 4 R R<|Bh hm 5 37 32 R (fun _ K' h12 J hm=>Ab tbk [0] 2 R R<|A8 R R R R R<|Ax hm 0 R fn196 R (K177 _) fun r3 hm=>Ab tbk [] 2 R R<|J 4 R R (Bj hm)) (fun _ K' h12 J hm=>Ab tbk [] 5 R R<|J 4 R R (Bj hm)) fun c2 hm=>Aa R R (Bq false R R R)<|J 5 R R (Bj hm)) fun c3 hm=>Aa R R (Ai R)<|C3 8 47 39 R (fun K' J=>Ab tbk [] 8 R R<|J 7 R R R) (fun h16 K' J=>Ab tbk [0] 3 R R<|Cd tbk [0] 4 46 42 R R R R R<|Aa R R (Bq false R R R)<|J 4 R R R)<|Aa R R (Ai R)<|C3 9 57 48 R (fun K' J=>Ab tbk [] 9 R R<|J 8 R R R) (fun h18 K' J=>Ab tbk [0] 4 R R<|Cd tbk [0] 4 56 52 R R R R R<|Aa R R (Bq false R R R)<|J 5 R R R)<|Ac<|An hm R (fun h20 hm=>Af tbk [] R R<|have hm:=Lr hm h3;Rt1 hm R [] R R R) fun h20 hm=>Ak<|A9 tbk [] R R<|Ap _ () hm (Ah [] R R)
  exact A4<|Ar () hm (Ah [] R R)
 exact Af tbk [] R R<|Rt1 hm R [] R R R

/-! trireme/triremeref07.RightPod -/
def ref07_RightPod.l1 (p : T_api_Pod) : Nat → Int → Option (Out Bool Unit)
 | 0, _ => none
 | n + 1, i2 =>
  if (decide (i2 < (p.Terms.length : Int))) = true then
   (V.gl p.Terms i2).bind fun x =>
   (ref05_RightTerm x).bind fun r5 =>
   if (!r5) = true then
    some (Out.ret false)
   else
    ref07_RightPod.l1 p n (i64.wrap (i2 + 1))
  else
   some (Out.go ())
def ref07_RightPod.l2 (p : T_api_Pod) : Nat → Int → Option (Out Bool Unit)
 | 0, _ => none
 | n2 + 1, i4 =>
  if (decide (i4 < (p.Ports.length : Int))) = true then
   (V.gl p.Ports i4).bind fun x2 =>
   (ref07_in x2 1 (65535 : Int)).bind fun r6 =>
   (if (!r6) = true then some true else (if (decide (i4 > 0)) = true then (V.gl p.Ports i4).bind fun x3 =>
   (V.gl p.Ports (i64.wrap (i4 - 1))).bind fun x4 =>
   some (decide (x3 ≤ x4)) else some false).bind fun c4 =>
   some c4).bind fun c5 =>
   if c5 = true then
    some (Out.ret false)
   else
    ref07_RightPod.l2 p n2 (i64.wrap (i4 + 1))
  else
   some (Out.go ())
def ref07_RightPod (p : T_api_Pod) : Option Bool :=
 (ref01_Word p.Name).bind fun r =>
 (if (!r) = true then some true else (ref04_Right p.Need).bind fun r2 =>
 some (!r2)).bind fun c =>
 (if (c || (p.Need.Pods != 1)) = true then some true else (ref07_maybe p.Owner).bind fun r3 =>
 some (!r3)).bind fun c2 =>
 (if c2 = true then some true else (ref07_in p.Rank 0 (1000 : Int)).bind fun r4 =>
 some (!r4)).bind fun c3 =>
 if ((c3 || (decide ((p.Terms.length : Int) > 16))) || (decide ((p.Ports.length : Int) > 16))) = true then
  some false
 else
  (ref07_RightPod.l1 p FU (0 : Int)).bind fun o =>
  o.on fun j =>
  (ref07_RightPod.l2 p FU (0 : Int)).bind fun o2 =>
  o2.on fun j2 =>
  (if ((p.Wide && ((p.Apart.length : Int) == 0)) || (((p.Spread.length : Int) == 0) && (p.Skew != 0))) = true then some true else (if (decide ((p.Spread.length : Int) > 0)) = true then (ref07_in p.Skew 1 (100 : Int)).bind fun r7 =>
  some (!r7) else some false).bind fun c6 =>
  some c6).bind fun c7 =>
  if c7 = true then
   some false
  else
   (ref05_Right p.Labels).bind fun r8 =>
   (if r8 = true then (ref05_Right p.Select).bind fun r9 =>
   some r9 else some false).bind fun c8 =>
   (if c8 = true then (ref05_Right p.Apart).bind fun r10 =>
   some r10 else some false).bind fun c9 =>
   (if c9 = true then (ref05_Right p.Spread).bind fun r11 =>
   some r11 else some false).bind fun c10 =>
   (if c10 = true then (ref06_RightBears p.Bears).bind fun r12 =>
   some r12 else some false).bind fun c11 =>
   some c11
theorem K187 (p : T_api_Pod) : VS Tryz.prog 86 (ref07_RightPod p) [T_api_Pod.vv p] [] .bool N0 := by
 refine Az [.tmp 2] Tryz.func86 R R R fun r hm=>?_
 unfold ref07_RightPod at hm
 refine Ae<|Ad R R<|Bi R R fun b=>Aa R R (Aj R)<|Ac<|Ag<|Ae<|Ab tbk [0] 2 R R<|Ad R R<|Ax hm 0 R fn153 R (K169 _) fun r hm=>Ab tbk [] 2 R R<|Bh hm 5 14 9 R (fun _ K' h3 J hm=>Ab tbk [] 5 R R<|J 4 R R (Bj hm)) (fun _ K' h3 J hm=>Ab tbk [0] 2 R R<|A8 R R R R R<|Ax hm 0 R fn150 R (K172 _) fun r2 hm=>Ab tbk [] 2 R R<|J 4 R R (Bj hm)) fun c hm=>Aa R R (Ai R)<|Cy tbk [0] 5 20 15 R R R R R<|Aa R R (Ai R)<|Bh hm 5 26 21 R (fun _ K' h7 J hm=>Ab tbk [] 5 R R<|J 4 R R (Bj hm)) (fun _ K' h7 J hm=>Ab tbk [0] 2 R R<|A8 R R R R R<|Ax hm 0 R fn149 R (K170 _) fun r3 hm=>Ab tbk [] 2 R R<|J 4 R R (Bj hm)) fun c2 hm=>Aa R R (Ai R)<|Bh hm 5 32 27 R (fun _ K' h10 J hm=>Ab tbk [] 5 R R<|J 4 R R (Bj hm)) (fun _ K' h10 J hm=>Ab tbk [0] 2 R R<|A8 R R R R R<|Ax hm 0 R fn154 R (K180 _ _ _) fun r4 hm=>Ab tbk [] 2 R R<|J 4 R R (Bj hm)) fun c3 hm=>Aa R R (Ai R)<|C3 5 38 33 R (fun K' J=>Ab tbk [] 5 R R<|J 4 R R R) (fun h13 K' J=>Ab tbk [0] 2 R R<|Bf R R R R R (Ay T_api_Term.vv R Cv)<|Ab tbk [] 2 R R<|J 4 R R R)<|Aa R R (Ai R)<|C3 5 44 39 R (fun K' J=>Ab tbk [] 5 R R<|J 4 R R R) (fun h14 K' J=>Ab tbk [0] 2 R R<|Bf R R R R R (Ay (VV.int .i64) R Cl)<|Ab tbk [] 2 R R<|J 4 R R R)<|Ac<|An hm R (fun h15 hm=>Af tbk [] R R<|Rt1 hm R [] R R R) fun h15 hm=>Ak<|Ag<|Af tbk [] R R<|B1 hm (fun _ (_:Unit)=>[(1,.ptr b 0)]) (fun _ (_:Unit)=>[X29 b p]) (fun o hm h17=>?_) fun j _ hm=> ?_
 ·refine B8 (fun zn (zs:Int)=>ref07_RightPod.l1 p zn zs) (fun zs (_:Unit)=>[(1,.ptr b 0),(3,Iw zs)]) (fun _ (_:Unit)=>[X29 b p]) _ () (fun _=>R) hm (Ah [0] R R) fun n i2 _ hm=> ?_
  rw [ref07_RightPod.l1] at hm
  exact Ag<|Ae<|Ab tbk [0] 3 R R<|Aa R R (Ay T_api_Term.vv R Cv)<|Aa R R (Bl R R R)<|Ac<|An hm R (fun h18 hm=>Ak<|Ag<|Au<|Ae<|Ab tbk [0] 3 R R<|Bd hm fun x h19 hm=>Aa R R (Br T_api_Term.vv R R el25 h19)<|Aa R R (Bs R ld189 R)<|Ad R R<|Ax hm 0 R fn155 R (K185 _) fun r5 hm=>Aa R R (Ci R)<|Ac<|An hm R (fun h21 hm=>Af tbk [] R R<|have hm:=Lr hm h17;Rt1 hm R [] R R R) fun h21 hm=>Ak<|A9 tbk [] R R<|Ap _ () hm (Ah [0] R R)) fun h18 hm=>A4<|Ar () hm (Ah [0] R R)
 refine Ag<|Af tbk [] R R<|B1 hm (fun _ (_:Unit)=>[(1,.ptr b 0)]) (fun _ (_:Unit)=>[X29 b p]) (fun o2 hm h23=>?_) fun j2 _ hm=> ?_
 ·refine B8 (fun zn (zs:Int)=>ref07_RightPod.l2 p zn zs) (fun zs (_:Unit)=>[(1,.ptr b 0),(4,Iw zs)]) (fun _ (_:Unit)=>[X29 b p]) _ () (fun _=>R) hm (Ah [0] R R) fun n2 i4 _ hm=> ?_
  rw [ref07_RightPod.l2] at hm
  refine Ag<|Ae<|Ab tbk [0] 3 R R<|Aa R R (Ay (VV.int .i64) R Cl)<|Aa R R (Bl R R R)<|Ac<|An hm R (fun h24 hm=>?_) fun h24 hm=> ?_
  ·refine Ak<|Ag<|Au<|Ag<|Bn 0 mixed<|A6 tbk [0,1,2] [0] (by kernel_rfl) R R R<|Bd hm fun x2 h25 hm=>Ba 3 R R R (by kernel_rfl) (Br (VV.int .i64) R R el27 h25)<|Ba 4 R R R (by kernel_rfl) (Bs R ld3 R)<|Am 5 (by kernel_rfl)<|Bd hm fun r6 h26 hm=>Ao R R R<|Aw 0 R fn154 R (K180 x2 (1 : Int) (65535 : Int) r6 h26) fun _ _ h34=> ?_
   obtain ⟨rfl,rfl⟩:=h34
   exact A6 tbk [6,7] [] (by kernel_rfl) R R R<|Df hm [24,23,22,21,20,19,18,17,16,15,14,13,12,11,10,9,8,7,6,5,4,3,2,1,0] 90 73 R (fun _ K' h27 J hm=>A6 tbk [8,9,10,11,12,13,14,15,16,17,18,19,20,21,22,23,24] [] (by kernel_rfl) R R R<|J 16 R R (Bj hm)) (fun _ K' h27 J hm=>A6 tbk [8,9,10] [] (by kernel_rfl) R R R<|Df hm [23,22,21,20,19,18,17,16,15,14,13,12,11,10,9,8,7,6,5,4,3,2,1,0] 89 76 R (fun _ K' h28 J hm=>A6 tbk [11,12,13] [0] (by kernel_rfl) R R R<|Bd hm fun x3 h29 hm=>Dl 14 R R R R R R (by kernel_rfl) (Br (VV.int .i64) R R el27 h29)<|A6 tbk [15,16,17,18,19] [0] (by kernel_rfl) R R R<|Bd hm fun x4 h30 hm=>Dl 20 R R R R R R (by kernel_rfl) (Br (VV.int .i64) R R el27 h30)<|A6 tbk [21,22,23] [] (by kernel_rfl) R R R<|J 12 R R (Bj hm)) (fun _ K' h28 J hm=>A6 tbk [11,12,13,14,15,16,17,18,19,20,21,22,23] [] (by kernel_rfl) R R R<|J 12 R R (Bj hm)) fun c4 hm=>Ba 24 R R R (by kernel_rfl) (Bq false R R R)<|J 4 R R (Bj hm)) fun c5 hm=>A5 (by kernel_rfl)<|An hm R (fun h33 hm=>Af tbk [] R R<|have hm:=Lr hm h23;Rt1 hm R [] R R R) fun h33 hm=>Ak<|A9 tbk [] R R<|Ap _ () hm (Ah [0] R R)
  exact A4<|Ar () hm (Ah [0] R R)
 exact Ag<|Ae<|Ab tbk [0] 3 R R<|Dg 5 98 93 R (fun h35 K' J=>Ab tbk [0] 2 R R<|Bf R R R R R (Ay T_api_Label.vv R B9)<|Ab tbk [] 2 R R<|J 4 R R R) (fun K' J=>Ab tbk [] 5 R R<|J 4 R R R)<|Aa R R (Ai R)<|C3 10 109 99 R (fun K' J=>Ab tbk [] 10 R R<|J 9 R R R) (fun h36 K' J=>Ab tbk [0] 2 R R<|Bf R R R R R (Ay T_api_Label.vv R B9)<|Ab tbk [] 2 R R<|Cd tbk [0] 4 108 104 R R R R R<|Aa R R (Bq false R R R)<|J 6 R R R)<|Aa R R (Ai R)<|Bh hm 11 121 110 R (fun _ K' h38 J hm=>Ab tbk [] 11 R R<|J 10 R R (Bj hm)) (fun _ K' h38 J hm=>Ab tbk [0] 2 R R<|Bf R R R R R (Ay T_api_Label.vv R B9)<|Ab tbk [] 2 R R<|Bh hm 5 120 115 R (fun _ K' h39 J hm=>Ab tbk [0] 2 R R<|A8 R R R R R<|Ax hm 0 R fn154 R (K180 _ _ _) fun r7 hm=>Ab tbk [] 2 R R<|J 4 R R (Bj hm)) (fun _ K' h39 J hm=>Ab tbk [] 5 R R<|J 4 R R (Bj hm)) fun c6 hm=>Aa R R (Bq false R R R)<|J 6 R R (Bj hm)) fun c7 hm=>Ac<|An hm R (fun h43 hm=>Af tbk [] R R<|Rt1 hm R [] R R R) fun h43 hm=>Ak<|Ae<|Ab tbk [0] 2 R R<|Ad R R<|Ax hm 0 R fn151 R (K175 _) fun r8 hm=>Aa R R (Ai R)<|Bh hm 4 129 125 R (fun _ K' h45 J hm=>Ab tbk [0] 2 R R<|A8 R R R R R<|Ax hm 0 R fn151 R (K175 _) fun r9 hm=>Aa R R (Bq true R R R)<|J 3 R R (Bj hm)) (fun _ K' h45 J hm=>Ab tbk [] 4 R R<|J 3 R R (Bj hm)) fun c8 hm=>Aa R R (Ai R)<|Bh hm 4 134 130 R (fun _ K' h48 J hm=>Ab tbk [0] 2 R R<|A8 R R R R R<|Ax hm 0 R fn151 R (K175 _) fun r10 hm=>Aa R R (Bq true R R R)<|J 3 R R (Bj hm)) (fun _ K' h48 J hm=>Ab tbk [] 4 R R<|J 3 R R (Bj hm)) fun c9 hm=>Aa R R (Ai R)<|Bh hm 4 139 135 R (fun _ K' h51 J hm=>Ab tbk [0] 2 R R<|A8 R R R R R<|Ax hm 0 R fn151 R (K175 _) fun r11 hm=>Aa R R (Bq true R R R)<|J 3 R R (Bj hm)) (fun _ K' h51 J hm=>Ab tbk [] 4 R R<|J 3 R R (Bj hm)) fun c10 hm=>Aa R R (Ai R)<|Bh hm 4 144 140 R (fun _ K' h54 J hm=>Ab tbk [0] 2 R R<|A8 R R R R R<|Ax hm 0 R fn156 R (K186 _) fun r12 hm=>Aa R R (Bq true R R R)<|J 3 R R (Bj hm)) (fun _ K' h54 J hm=>Ab tbk [] 4 R R<|J 3 R R (Bj hm)) fun c11 hm=>Aa R R (Aj R)<|Ac<|Rt1 hm R [] R R R

end Go.Proofs.YtbgfffdnaijmhaaGreat.M

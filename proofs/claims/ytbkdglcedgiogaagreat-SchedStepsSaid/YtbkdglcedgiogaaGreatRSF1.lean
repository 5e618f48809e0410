/-
  Printed by a program of this session out of the loaded functions: models and their proofs. Own text.
-/
import Derived.Test.YtbkdglcedgiogaaGreatRSF0
namespace Go.Proofs.YtbkdglcedgiogaaGreat.M
open Go Go.Proofs Go.Proofs.YtbkdglcedgiogaaGreat.V
open Go.IntKind (i64)
set_option linter.unusedVariables false
set_option maxRecDepth 20000
set_option maxHeartbeats 4000000
/-! trireme/apart.Near -/
def apart_Near.l1 (p : T_api_Pod) (on_ : ByteArray) (r2 : (List (ByteArray × ByteArray))) : List T_api_Bound → Nat → Option (Out Bool Unit)
 | [], k => some (Out.go ())
 | x :: l, k =>
  if ((V.seq x.On (⟨#[]⟩ : ByteArray)) || (V.seq x.Pod.Name p.Name)) = true then
   apart_Near.l1 p on_ r2 l (k + 1)
  else
   (apart_place_bars (⟨r2⟩ : T_apart_place) p x.Pod on_ x.On).bind fun r3 =>
   (if r3 = true then some true else (apart_place_bars (⟨r2⟩ : T_apart_place) x.Pod p x.On on_).bind fun r4 =>
   some r4).bind fun c =>
   if c = true then
    some (Out.ret true)
   else
    apart_Near.l1 p on_ r2 l (k + 1)
def apart_Near (ms : List T_api_Machine) (bs : List T_api_Bound) (p : T_api_Pod) (on_ : ByteArray) : Option Bool :=
 (yard_Find ms on_).bind fun r =>
 if (decide (r < 0)) = true then
  some false
 else
  (apart_zones ms).bind fun r2 =>
  (apart_Near.l1 p on_ r2 bs 0).bind fun o =>
  o.on fun j =>
  some false
theorem K84 (ms : List T_api_Machine) (bs : List T_api_Bound) (p : T_api_Pod) (on_ : ByteArray) : VS Tryz.prog 158 (apart_Near ms bs p on_) [L30 ms, L50 bs, T_api_Pod.vv p, .str on_] [] .bool N0 := by
 refine Az [.tmp 8] Tryz.func158 R R R fun r hm=>?_
 unfold apart_Near at hm
 refine Ah<|Ad R R<|A8 R R fun b=>Ab R R (Ai R)<|Ac<|Ae<|Ah<|Aa tbk [] 2 R R<|Ad R R<|Am hm 0 R fn78 R (K80 _ _) fun r hm=>Ab R R (A6 R R R)<|Ac<|Al hm R (fun h3 hm=>Ag tbk [] R R<|Rt1 hm R [] R R R) fun h3 hm=>Aj<|Ah<|Ab R R (Ak R)<|Ad R R<|VO.cl1 hm 0 R fn176 R (K81 _) fun r2 b2 hm=>Ab R R (Bm pl185 R R)<|Ad R R<|Au z185 fun b3=>Ad R R<|An (i:=0) R R R ld185 R R R<|Ac<|Ae<|Ah<|Ab R R (Ak R)<|Ab R R (Aw T_api_Bound.vv R Bl)<|Ab R R (Ak R)<|Ac<|B7 19 R fun h9=>Bs hm (fun _ (_:Unit)=>[]) (fun _ (_:Unit)=>[]) (fun o hm h8=>?_) fun j _ hm=> ?_
 ·refine Ch (bs) (fun zl zk (zs:Unit)=>apart_Near.l1 p on_ r2 zl zk) (fun k _ (_:Unit)=>[(3,.str on_),(6,.ptr b 0),(9,.ptr b3 0),(19,L50 bs),(20,Iw (bs.length : Int)),(21,Iw (k : Int))]) (fun _ _ (_:Unit)=>[.box b3 185 [.map b2],.map b2 (List.map (pf VV.str VV.str) ((⟨r2⟩ : T_apart_place).zones)),X48 b p]) () () hm (Af [0,0,0] R R) (fun k _ _ hk hm=>?_) fun k x l _ _ h10 hm=> ?_
  ·rw [apart_Near.l1] at hm
   exact Ag tbk [] R R<|Ae<|B4 R (k_end hk)<|A3<|Ar () hm (Af [] R R)
  rw [apart_Near.l1] at hm
  exact Ag tbk [] R R<|Ae<|B3 R (k_lt h10)<|Aj<|Ae<|Ay<|Ah<|Ab R R (Ca T_api_Bound.vv R R el23 h10)<|Ab R R (Bh R ld50 R)<|Ad R R<|Au z50 fun b4=>Ad R R<|An (i:=0) R R R ld50 R R R<|Ac<|Ae<|Ah<|Aa tbk [0] 4 R R<|Ce tbk [0,3] 7 35 28 R R R R R<|Ac<|Al hm R (fun h13 hm=>A3<|A5 tbk [] R R<|Ap () () hm (Br [1,1,1] R ⟨R,R,R,R,R,congrArg some (k_next h10 h9),trivial⟩)) fun h13 hm=>Aj<|Ah<|Aa tbk [1,3,0,0] 7 R R<|Bn (Cd [2,0,0,0] R)<|Ad R R<|Am hm 1 R fn177 R (K83 _ _ _ _ _ _) fun r3 hm=>Ab R R (Ak R)<|Bc hm 9 53 44 R (fun _ K' h15 J hm=>Aa tbk [] 9 R R<|J 8 R R (Bj hm)) (fun _ K' h15 J hm=>Aa tbk [2,1,3,1] 7 R R<|A7 R R R R R<|Am hm 1 R fn177 R (K83 _ _ _ _ _ _) fun r4 hm=>Ab R R (Bb false R R R)<|J 8 R R (Bj hm)) fun c hm=>Ac<|Al hm R (fun h18 hm=>Ag tbk [] R R<|have hm:=Lr hm h8;Rt1 hm R [] R R R) fun h18 hm=>Aj<|A5 tbk [] R R<|Ap () () hm (Br [2,0,1] R ⟨R,R,R,R,R,congrArg some (k_next h10 h9),trivial⟩)
 exact Ag tbk [] R R<|Rt1 hm R [] R R R

/-! trireme/apart.tally -/
def apart_tally.l1 (p : T_api_Pod) (r : (List (ByteArray × ByteArray))) : List T_api_Bound → Nat → (List (ByteArray × Int)) → Option (List (ByteArray × Int))
 | [], k, n2 => some n2
 | x :: l, k, n2 =>
  (if ((((V.mg r x.On).isSome) && (!(V.seq x.On (⟨#[]⟩ : ByteArray)))) && (!(V.seq x.Pod.Name p.Name))) = true then (labels_Has x.Pod.Labels p.Spread).bind fun r2 =>
  some r2 else some false).bind fun c =>
  if c = true then
   apart_tally.l1 p r l (k + 1) (V.mp n2 ((V.mg r x.On).getD (⟨#[]⟩ : ByteArray)) (i64.wrap (((V.mg n2 ((V.mg r x.On).getD (⟨#[]⟩ : ByteArray))).getD 0) + 1)))
  else
   apart_tally.l1 p r l (k + 1) n2
def apart_tally (ms : List T_api_Machine) (bs : List T_api_Bound) (p : T_api_Pod) : Option (List (ByteArray × Int)) :=
 (apart_zones ms).bind fun r =>
 (apart_tally.l1 p r bs 0 ([] : List (ByteArray × Int))).bind fun n32 =>
 some n32
theorem K85 (ms : List T_api_Machine) (bs : List T_api_Bound) (p : T_api_Pod) : VS1 Tryz.prog 190 (apart_tally ms bs p) [L30 ms, L50 bs, T_api_Pod.vv p] [] (fun r b_0=>.map b_0) (fun r b_0=>[.map b_0 (List.map (pf VV.str (VV.int .i64)) r)]) := by
 refine VS1.run [.tmp 6] Tryz.func190 R R R fun r hm=>?_
 unfold apart_tally at hm
 refine Ah<|Ad R R<|A8 R R fun b=>Ab R R (Ai R)<|Ac<|Ah<|Ab R R (Ak R)<|Ad R R<|VO.cl1 hm 0 R fn176 R (K81 _) fun r b2 hm=>Ab R R (Ai R)<|Ac<|Ah<|Ad R R<|Dc fun b3=>Ab R R (Ai R)<|Ac<|Ae<|Ah<|Ab R R (Ak R)<|Ab R R (Aw T_api_Bound.vv R Bl)<|Ab R R (Ak R)<|Ac<|B7 16 R fun h7=>Bz hm (fun _ (_:Unit)=>[(8,.map b3)]) (fun n32 (_:Unit)=>[.map b3 (List.map (pf VV.str (VV.int .i64)) n32)]) (fun o hm=>?_) fun n32 _ hm=> ?_
 ·refine Ch (bs) (fun zl zk (zs:List (ByteArray × Int))=>apart_tally.l1 p r zl zk zs) (fun k _ (_:Unit)=>[(5,.ptr b 0),(7,.map b2),(8,.map b3),(16,L50 bs),(17,Iw (bs.length : Int)),(18,Iw (k : Int))]) (fun _ zs (_:Unit)=>[.map b3 (List.map (pf VV.str (VV.int .i64)) zs),.map b2 (List.map (pf VV.str VV.str) r),X48 b p]) _ () hm (Af [0,0,0] R R) (fun k n2 _ hk hm=>?_) fun k x l n2 _ h8 hm=> ?_
  ·rw [apart_tally.l1] at hm
   exact Ag tbk [] R R<|Ae<|B4 R (k_end hk)<|A3<|As () hm (Af [0] R R)
  rw [apart_tally.l1] at hm
  exact Ag tbk [] R R<|Ae<|B3 R (k_lt h8)<|Aj<|Ae<|Ay<|Ah<|Ab R R (Ca T_api_Bound.vv R R el23 h8)<|Ab R R (Bh R ld50 R)<|Ad R R<|Au z50 fun b4=>Ad R R<|An (i:=0) R R R ld50 R R R<|Ac<|Ah<|Aa tbk [0] 3 R R<|Ab R R (Cu 2 (kf:=VV.str) (vf:=VV.str) (l:=r) (k:=x.On) (z:=(⟨#[]⟩ : ByteArray)) true mk9 Co R R R zc9 R)<|Aa tbk [] 5 R R<|Ac<|Ah<|Aa tbk [] 2 R R<|Bv tbk [0] 4 34 30 R R R R R<|Ab R R (Ak R)<|Bv tbk [0,3] 7 42 35 R R R R R<|Ab R R (Ak R)<|Bc hm 7 50 43 R (fun _ K' h12 J hm=>Aa tbk [0,3] 5 R R<|A7 R R R R R<|Am hm 0 R fn169 R (K40 _ _) fun r2 hm=>Ab R R (Bb true R R R)<|J 6 R R (Bj hm)) (fun _ K' h12 J hm=>Aa tbk [] 7 R R<|J 6 R R (Bj hm)) fun c hm=>Ac<|Al hm R (fun h15 hm=>Bp<|Aa tbk [] 2 R R<|Ab R R (Cu 1 (kf:=VV.str) (vf:=(VV.int .i64)) (l:=n2) (k:=((V.mg r x.On).getD (⟨#[]⟩ : ByteArray))) (z:=(0 : Int)) false mk9 Cg R R R zc3 R)<|Ab R R (A6 R R R)<|Ad R R<|C8 1 (kf:=VV.str) (vf:=(VV.int .i64)) (l:=n2) (k:=((V.mg r x.On).getD (⟨#[]⟩ : ByteArray))) (z:=(IntKind.i64.wrap (((V.mg n2 ((V.mg r x.On).getD (⟨#[]⟩ : ByteArray))).getD (0 : Int)) + (1 : Int)))) mk9 Cg R R R R<|Ac<|A5 tbk [] R R<|Ap _ () hm (Br [1,1,1] R ⟨R,R,R,R,R,congrArg some (k_next h8 h7),trivial⟩)) fun h15 hm=>Aj<|A5 tbk [] R R<|Ap _ () hm (Br [1,1,1] R ⟨R,R,R,R,R,congrArg some (k_next h8 h7),trivial⟩)
 exact Ag tbk [] R R<|Rg1 hm R [0] b3 (.cons (.tmp _ _ R) .nil) R R

/-! trireme/yard.Zones -/
def yard_Zones.l1 : List T_api_Machine → Nat → (List (ByteArray × Int)) → (List ByteArray) → Option (List ByteArray)
 | [], k, had2, l2 => some l2
 | x :: l4, k, had2, l2 =>
  (labels_Get x.Labels (⟨#[122, 111, 110, 101]⟩ : ByteArray)).bind fun r =>
  if ((!r.2) || (!x.Ready)) = true then
   yard_Zones.l1 l4 (k + 1) had2 l2
  else
   if (((V.mg (V.mp had2 r.1 (i64.wrap (((V.mg had2 r.1).getD 0) + 1))) r.1).getD 0) == 1) = true then
    (V.ap 16 l2 [r.1]).bind fun l5 =>
    yard_Zones.l1 l4 (k + 1) (V.mp had2 r.1 (i64.wrap (((V.mg had2 r.1).getD 0) + 1))) l5
   else
    yard_Zones.l1 l4 (k + 1) (V.mp had2 r.1 (i64.wrap (((V.mg had2 r.1).getD 0) + 1))) l2
def yard_Zones (ms : List T_api_Machine) : Option (List ByteArray) :=
 (yard_Zones.l1 ms 0 ([] : List (ByteArray × Int)) ([] : List ByteArray)).bind fun l32 =>
 some l32
theorem K86 (ms : List T_api_Machine) : VS2 Tryz.prog 191 (yard_Zones ms) [L30 ms] [] (fun r ob0 cap0=>Z9 ob0 r cap0) (fun r ob0 cap0=>[Q9 ob0 cap0 r]) := by
 refine Ci [.tmp 2] Tryz.func191 R R R fun r hm=>?_
 unfold yard_Zones at hm
 refine Ag tbk [] R R<|Ah<|Ad R R<|Dc fun b=>Ab R R (Ai R)<|Ac<|Ag tbk [] R R<|Ae<|Ah<|Ab R R (Ak R)<|Ab R R (Aw T_api_Machine.vv R Bu)<|Ab R R (Ak R)<|Ac<|B7 10 R fun h6=>Bz hm (fun l32 (gg:Option Nat × Nat)=>[(4,Z9 gg.1 l32 gg.2)]) (fun l32 (gg:Option Nat × Nat)=>[Q9 gg.1 gg.2 l32]) (fun o hm=>?_) fun l32=>Pq fun ob3 cap3 hm=> ?_
 ·refine Ch (ms) (fun zl zk (zs:List (ByteArray × Int) × List ByteArray)=>yard_Zones.l1 zl zk zs.1 zs.2) (fun k zs (zg:Option Nat × Nat)=>[(3,.map b),(4,Z9 zg.1 zs.2 zg.2),(10,L30 ms),(11,Iw (ms.length : Int)),(12,Iw (k : Int))]) (fun _ zs (zg:Option Nat × Nat)=>[Q9 zg.1 zg.2 zs.2,.map b (List.map (pf VV.str (VV.int .i64)) zs.1)]) (([] : List (ByteArray × Int)),([] : List ByteArray)) (none,0) hm (A9 (Bf 9) (Af [0,0] R R)) (fun k=>Pq fun had2 l2=>Pq fun ob2 cap2 hk hm=>?_) fun k x l4=>Pq fun had2 l2=>Pq fun ob2 cap2 h7 hm=> ?_
  ·rw [yard_Zones.l1] at hm
   exact Ag tbk [] R R<|Ae<|B4 R (k_end hk)<|A3<|As (ob2,cap2) hm (Af [0] R R)
  rw [yard_Zones.l1] at hm
  exact Ag tbk [] R R<|Ae<|B3 R (k_lt h7)<|Aj<|Ae<|Ay<|Ah<|Ab R R (Ca T_api_Machine.vv R R el22 h7)<|Ab R R (Bh R ld30 R)<|Ad R R<|Au z30 fun b2=>Ad R R<|An (i:=0) R R R ld30 R R R<|Ac<|Ah<|Aa tbk [0] 2 R R<|Ad R R<|Am hm 0 R fn185 R (K39 _ _) fun r hm=>Aa tbk [] 5 R R<|Ac<|Ae<|Ah<|Aa tbk [] 3 R R<|Ce tbk [0] 4 28 24 R R R R R<|Ac<|Al hm R (fun h11 hm=>A3<|A5 tbk [] R R<|Ap (had2,l2) (ob2,cap2) hm (Br [1,1] R ⟨R,R,R,R,congrArg some (k_next h7 h6),trivial⟩)) fun h11 hm=>Aj<|Ah<|Aa tbk [] 2 R R<|Ab R R (Cu 2 (kf:=VV.str) (vf:=(VV.int .i64)) (l:=had2) (k:=r.1) (z:=(0 : Int)) false mk9 Cg R R R zc3 R)<|Ab R R (A6 R R R)<|Ad R R<|C8 2 (kf:=VV.str) (vf:=(VV.int .i64)) (l:=had2) (k:=r.1) (z:=(IntKind.i64.wrap (((V.mg had2 r.1).getD (0 : Int)) + (1 : Int)))) mk9 Cg R R R R<|Ac<|Ah<|Aa tbk [] 2 R R<|Ab R R (Cu 2 (kf:=VV.str) (vf:=(VV.int .i64)) (l:=(V.mp had2 r.1 (IntKind.i64.wrap (((V.mg had2 r.1).getD (0 : Int)) + (1 : Int))))) (k:=r.1) (z:=(0 : Int)) false mk9 Cg R R R zc3 R)<|Ab R R (A6 R R R)<|Ac<|Al hm R (fun h12 hm=>Bp<|Aa tbk [] 2 R R<|Ad R R<|Bi ap51 R R R R R fun b3=>Bd hm fun l5 h14 hm=>Ad R R<|B5 2 VV.str (l:=l2) (l2:=[r.1]) ap51 R R (sT_row 0 VV.str el51 R R) h14 fun ob4 cap4=>Ab R R (Ai R)<|Ac<|A5 tbk [] R R<|Ap ((V.mp had2 r.1 (IntKind.i64.wrap (((V.mg had2 r.1).getD (0 : Int)) + (1 : Int)))),l5) (ob4,cap4) hm (Br [2,2] R ⟨R,R,R,R,congrArg some (k_next h7 h6),trivial⟩)) fun h12 hm=>Aj<|A5 tbk [] R R<|Ap ((V.mp had2 r.1 (IntKind.i64.wrap (((V.mg had2 r.1).getD (0 : Int)) + (1 : Int)))),l2) (ob2,cap2) hm (Br [1,1] R ⟨R,R,R,R,congrArg some (k_next h7 h6),trivial⟩)
 exact Ag tbk [] R R<|Rg2 hm R [0] ob3 cap3 (.cons (.tmp _ _ R) .nil) R R

/-! trireme/apart.Counts -/
def apart_Counts.l1 (r : (List (ByteArray × Int))) : List ByteArray → Nat → (List Int) → Option (List Int)
 | [], k, out2 => some out2
 | x :: l, k, out2 =>
  (V.ap 8 out2 [((V.mg r x).getD 0)]).bind fun out4 =>
  apart_Counts.l1 r l (k + 1) out4
def apart_Counts (ms : List T_api_Machine) (bs : List T_api_Bound) (p : T_api_Pod) : Option (List ByteArray × List Int) :=
 (apart_tally ms bs p).bind fun r =>
 (yard_Zones ms).bind fun r2 =>
 (apart_Counts.l1 r r2 0 ([] : List Int)).bind fun out32 =>
 some (r2, out32)
theorem K87 (ms : List T_api_Machine) (bs : List T_api_Bound) (p : T_api_Pod) : VS2 Tryz.prog 178 (apart_Counts ms bs p) [L30 ms, L50 bs, T_api_Pod.vv p] [] (fun r ob1 cap1=>.tup [L9 r.1, Z3 ob1 r.2 cap1]) (fun r ob1 cap1=>[Q3 ob1 cap1 r.2]) := by
 refine Ci [.tmp 6,.tmp 7] Tryz.func178 R R R fun r hm=>?_
 unfold apart_Counts at hm
 refine Ah<|Ad R R<|A8 R R fun b=>Aa tbk [] 2 R R<|Ac<|Ah<|Aa tbk [0] 3 R R<|Ad R R<|VO.cl1 hm 0 R fn190 R (K85 _ _ _) fun r b2 hm=>Ab R R (Ai R)<|Ac<|Ah<|Ab R R (Ak R)<|Ad R R<|B9 hm 0 R fn191 R (K86 _) fun r2 ob cap hm=>Bn (A2 0 [(18,L9 r2)] R ⟨⟨_,R,.here _ R⟩,trivial⟩ (FzH.refl _))<|Ab R R (Ai R)<|Ac<|Ag tbk [] R R<|Ae<|Ah<|Ab R R (Ak R)<|Ab R R (Aw VV.str R Bt)<|Ab R R (Ak R)<|Ac<|B7 9 R fun h10=>Bz hm (fun out32 (gg:Option Nat × Nat)=>[(9,L9 r2),(10,Z3 gg.1 out32 gg.2)]) (fun out32 (gg:Option Nat × Nat)=>[Q3 gg.1 gg.2 out32]) (fun o hm=>?_) fun out32=>Pq fun ob4 cap4 hm=> ?_
 ·refine Ch (r2) (fun zl zk (zs:List Int)=>apart_Counts.l1 r zl zk zs) (fun k zs (zg:Option Nat × Nat)=>[(8,.map b2),(9,L9 r2),(10,Z3 zg.1 zs zg.2),(19,L9 r2),(20,Iw (r2.length : Int)),(21,Iw (k : Int))]) (fun _ zs (zg:Option Nat × Nat)=>[Q3 zg.1 zg.2 zs,.map b2 (List.map (pf VV.str (VV.int .i64)) r)]) _ (none,0) hm (A9 (Bf 3) (Af [0,0] R R)) (fun k out2=>Pq fun ob3 cap3 hk hm=>?_) fun k x l out2=>Pq fun ob3 cap3 h11 hm=> ?_
  ·rw [apart_Counts.l1] at hm
   exact Ag tbk [] R R<|Ae<|B4 R (k_end hk)<|A3<|As (ob3,cap3) hm (Af [0] R R)
  rw [apart_Counts.l1] at hm
  exact Ag tbk [] R R<|Ae<|B3 R (k_lt h11)<|Aj<|Ae<|Ay<|Ah<|Ab R R (Ca VV.str R R el51 h11)<|Aa tbk [] 2 R R<|Ac<|Bp<|Aa tbk [] 3 R R<|Ab R R (Cu 1 (kf:=VV.str) (vf:=(VV.int .i64)) (l:=r) (k:=x) (z:=(0 : Int)) false mk9 Cg R R R zc3 R)<|Ad R R<|Bi ap41 R R R R R fun b3=>Bd hm fun out4 h13 hm=>Ad R R<|B5 1 (VV.int .i64) (l:=out2) (l2:=[((V.mg r x).getD (0 : Int))]) ap41 R R (sT_row 0 (VV.int .i64) el41 R R) h13 fun ob5 cap5=>Ab R R (Ai R)<|Ac<|A5 tbk [] R R<|Ap _ (ob5,cap5) hm (Br [1,1] R ⟨R,R,R,R,R,congrArg some (k_next h11 h10),trivial⟩)
 exact Ag tbk [] R R<|Rg2 hm R [0] ob4 cap4 (.cons (.tmp _ _ R) (.cons (.tmp _ _ R) .nil)) R R

/-! trireme/apart.Many -/
def apart_Many.l1 (on_ : ByteArray) (r2 : (List (ByteArray × ByteArray))) (r3 : List ByteArray × List Int) : List ByteArray → Nat → Bool → Int → Int → Option (Bool × Int × Int)
 | [], k, met2, mine2, least2 => some (met2, mine2, least2)
 | x :: l, k, met2, mine2, least2 =>
  (V.gl r3.2 (k : Int)).bind fun x2 =>
  if (((V.mg r2 on_).isSome) && (V.seq x ((V.mg r2 on_).getD (⟨#[]⟩ : ByteArray)))) = true then
   (V.gl r3.2 (k : Int)).bind fun x3 =>
   apart_Many.l1 on_ r2 r3 l (k + 1) true x3 (min least2 x2)
  else
   apart_Many.l1 on_ r2 r3 l (k + 1) met2 mine2 (min least2 x2)
def apart_Many (ms : List T_api_Machine) (bs : List T_api_Bound) (p : T_api_Pod) (on_ : ByteArray) : Option Bool :=
 (if ((p.Spread.length : Int) == 0) = true then some true else (yard_Find ms on_).bind fun r =>
 some (decide (r < 0))).bind fun c =>
 if c = true then
  some false
 else
  (apart_zones ms).bind fun r2 =>
  (apart_Counts ms bs p).bind fun r3 =>
  (apart_Many.l1 on_ r2 r3 r3.1 0 false 0 (401 : Int)).bind fun j =>
  (labels_Has p.Labels p.Spread).bind fun r4 =>
  if r4 = true then
   some ((!j.1) || (decide ((i64.wrap (j.2.1 + 1)) > (i64.wrap (j.2.2 + p.Skew)))))
  else
   some ((!j.1) || (decide (j.2.1 > (i64.wrap (j.2.2 + p.Skew)))))
theorem K88 (ms : List T_api_Machine) (bs : List T_api_Bound) (p : T_api_Pod) (on_ : ByteArray) : VS Tryz.prog 159 (apart_Many ms bs p on_) [L30 ms, L50 bs, T_api_Pod.vv p, .str on_] [] .bool N0 := by
 refine Az [.tmp 8] Tryz.func159 R R R fun r hm=>?_
 unfold apart_Many at hm
 refine Ah<|Ad R R<|A8 R R fun b=>Ab R R (Ai R)<|Ac<|Ae<|Ah<|Aa tbk [0] 2 R R<|Ab R R (Aw T_api_Label.vv R Bk)<|Aa tbk [] 2 R R<|Bc hm 5 27 22 R (fun _ K' h2 J hm=>Aa tbk [] 5 R R<|J 4 R R (Bj hm)) (fun _ K' h2 J hm=>Aa tbk [] 2 R R<|A7 R R R R R<|Am hm 0 R fn78 R (K80 _ _) fun r hm=>Aa tbk [] 2 R R<|J 4 R R (Bj hm)) fun c hm=>Ac<|Al hm R (fun h5 hm=>Ag tbk [] R R<|Rt1 hm R [] R R R) fun h5 hm=>Aj<|Ah<|Ab R R (Ak R)<|Ad R R<|VO.cl1 hm 0 R fn176 R (K81 _) fun r2 b2 hm=>Ab R R (Ak R)<|Ab R R (Cu 0 (kf:=VV.str) (vf:=VV.str) (l:=r2) (k:=on_) (z:=(⟨#[]⟩ : ByteArray)) true mk9 Co R R R zc9 R)<|Aa tbk [] 5 R R<|Ac<|Ah<|Aa tbk [1] 3 R R<|Ad R R<|B9 hm 0 R fn178 R (K87 _ _ _) fun r3 ob cap hm=>Aa tbk [] 5 R R<|Ac<|Ag tbk [] R R<|Ag tbk [] R R<|Ae<|Ah<|Ab R R (Ak R)<|Ab R R (Aw VV.str R Bt)<|Ab R R (Ak R)<|Ac<|B7 42 R fun h12=>Bz hm (fun j (_:Unit)=>[(6,.ptr b 0),(13,.bool j.1),(14,Iw j.2.1),(15,Iw j.2.2)]) (fun _ (_:Unit)=>[X48 b p]) (fun o hm=>?_) fun j _ hm=> ?_
 ·refine Ch (r3.1) (fun zl zk (zs:Bool × Int × Int)=>apart_Many.l1 on_ r2 r3 zl zk zs.1 zs.2.1 zs.2.2) (fun k zs (zg:Option Nat)=>[(6,.ptr b 0),(9,.str ((V.mg r2 on_).getD (⟨#[]⟩ : ByteArray))),(10,.bool ((V.mg r2 on_).isSome)),(12,Z3 zg r3.2 cap),(13,.bool zs.1),(14,Iw zs.2.1),(15,Iw zs.2.2),(42,L9 r3.1),(43,Iw (r3.1.length : Int)),(44,Iw (k : Int))]) (fun _ _ (zg:Option Nat)=>[Q3 zg cap r3.2,X48 b p]) (false,(0 : Int),(401 : Int)) _ hm (Af [0,1] R R) (fun k=>Pq fun met2=>Pq fun mine2 least2 ob3 hk hm=>?_) fun k x l=>Pq fun met2=>Pq fun mine2 least2 ob3 h13 hm=> ?_
  ·rw [apart_Many.l1] at hm
   exact Ag tbk [] R R<|Ae<|B4 R (k_end hk)<|A3<|As () hm (Af [1] R R)
  rw [apart_Many.l1] at hm
  refine Ag tbk [] R R<|Ae<|B3 R (k_lt h13)<|Aj<|Ae<|Ay<|Ah<|Ab R R (Ak R)<|Ab R R (Ca VV.str R R el51 h13)<|Aa tbk [] 3 R R<|Ac<|Ah<|Aa tbk [] 3 R R<|Bd hm fun x2 h14 hm=>Cm 0 R (gl_pos (VV.int .i64) h14) fun b3 h15=> ?_
  subst h15
  exact Ab R R (Cs (VV.int .i64) R R el41 h14)<|Ab R R (Cr (i:=0) (y:=(VV.int .i64) x2) R R R (gl_map _ (gl_some h14).2) ld3 R)<|Ab R R (C9 R R)<|Ab R R (Ai R)<|Ac<|Ah<|Aa tbk [] 2 R R<|Bv tbk [] 4 60 56 R R R R R<|Ac<|Al hm R (fun h17 hm=>Ba 0 mixed<|Av tbk [0,1] [] (by kernel_rfl) R R R<|Bd hm fun x3 h18 hm=>Ax 2 R R R (by kernel_rfl) (Cs (VV.int .i64) R R el41 h18)<|Ax 3 R R R (by kernel_rfl) (Cr (i:=0) (y:=(VV.int .i64) x3) R R R (gl_map _ (gl_some h18).2) ld3 R)<|Av tbk [4,5] [] (by kernel_rfl) R R R<|A4 (by kernel_rfl)<|A5 tbk [] R R<|Ap (true,x3,(min least2 x2)) _ hm (Br [0,0] R ⟨R,R,R,R,R,R,R,R,R,congrArg some (k_next h13 h12),trivial⟩)) fun h17 hm=>Aj<|A5 tbk [] R R<|Ap (met2,mine2,(min least2 x2)) _ hm (Br [0,0] R ⟨R,R,R,R,R,R,R,R,R,congrArg some (k_next h13 h12),trivial⟩)
 exact Ae<|Ah<|Aa tbk [0,0] 4 R R<|Ad R R<|Am hm 0 R fn169 R (K40 _ _) fun r4 hm=>Ac<|Al hm R (fun h20 hm=>A5 tbk [] R R<|Ah<|Aa tbk [] 3 R R<|Ce tbk [0] 7 82 75 R R R R R<|Ab R R (Ai R)<|Ac<|Rt1 hm R [] R R R) fun h20 hm=>Aj<|Ah<|Aa tbk [] 3 R R<|Ce tbk [0] 7 82 75 R R R R R<|Ab R R (Ai R)<|Ac<|Rt1 hm R [] R R R

/-! trireme/apart.Why -/
def apart_Why (ms : List T_api_Machine) (bs : List T_api_Bound) (p : T_api_Pod) (on_ : ByteArray) : Option Int :=
 (apart_Near ms bs p on_).bind fun r =>
 if r = true then
  some 7
 else
  (apart_Many ms bs p on_).bind fun r2 =>
  if r2 = true then
   some 8
  else
   some 0
theorem K89 (ms : List T_api_Machine) (bs : List T_api_Bound) (p : T_api_Pod) (on_ : ByteArray) : VS Tryz.prog 138 (apart_Why ms bs p on_) [L30 ms, L50 bs, T_api_Pod.vv p, .str on_] [] Iw N0 := by
 refine Az [.tmp 8] Tryz.func138 R R R fun r hm=>?_
 unfold apart_Why at hm
 exact Ah<|Ad R R<|A8 R R fun b=>Ab R R (Ai R)<|Ac<|Ae<|Ay<|Ah<|Aa tbk [0] 4 R R<|Ad R R<|Am hm 0 R fn158 R (K84 _ _ _ _) fun r hm=>Ab R R (Ai R)<|Ac<|Al hm R (fun h3 hm=>Ag tbk [] R R<|Rt1 hm R [] R R R) fun h3 hm=>Ah<|Aa tbk [0] 4 R R<|Ad R R<|Am hm 0 R fn159 R (K88 _ _ _ _) fun r2 hm=>Ab R R (Ai R)<|Ac<|Al hm R (fun h5 hm=>Ag tbk [] R R<|Rt1 hm R [] R R R) fun h5 hm=>Aj<|Ag tbk [] R R<|Rt1 hm R [] R R R

/-! (trireme/fit.asker).why -/
def fit_asker_why (a : T_fit_asker) (m : T_api_Machine) : Option Int :=
 (suit_Suits m a.bs a.p).bind fun r =>
 if (r != 0) = true then
  some r
 else
  (apart_Why a.ms a.bs a.p m.Name).bind fun r2 =>
  some r2
theorem K90 (a : T_fit_asker) (m : T_api_Machine) : VS Tryz.prog 109 (fit_asker_why a m) [T_fit_asker.vv a, T_api_Machine.vv m] [] Iw N0 := by
 refine Az [.tmp 4] Tryz.func109 R R R fun r hm=>?_
 unfold fit_asker_why at hm
 exact Ah<|Ad R R<|A8 R R fun b=>Ad R R<|A8 R R fun b2=>Ab R R (Ai R)<|Ac<|Ae<|Ah<|Aa tbk [0,1,1] 5 R R<|Ad R R<|Am hm 0 R fn137 R (K77 _ _ _) fun r hm=>Ab R R (Ai R)<|Ac<|Ag tbk [] R R<|Al hm R (fun h4 hm=>Ag tbk [] R R<|Rt1 hm R [] R R R) fun h4 hm=>Aj<|Ah<|Aa tbk [1,1,1,0] 8 R R<|Ad R R<|Am hm 0 R fn138 R (K89 _ _ _ _) fun r2 hm=>Ab R R (Ai R)<|Ac<|Rt1 hm R [] R R R

/-! trireme/fit.Where$1 -/
def fit_Where_1 (name : ByteArray) (why : Int) (a : List ByteArray) : Option (List ByteArray) :=
 if (why == 0) = true then
  (V.ap 16 a [name]).bind fun l =>
  some l
 else
  some a
theorem K91 (name : ByteArray) (why : Int) (a : List ByteArray) (b : Nat) (ob : Option Nat) (cap : Nat) : VS2 Tryz.prog 110 (fit_Where_1 name why a) [.str name, Iw why, .ptr b 0] [.box b 51 [Z9 ob a cap], Q9 ob cap a] (fun r ob0_0 cap0_0=>.tup []) (fun r ob0_0 cap0_0=>[.box b 51 [Z9 ob0_0 r cap0_0], Q9 ob0_0 cap0_0 r]) := by
 refine Ci [] Tryz.func110 R R R fun r hm=>?_
 unfold fit_Where_1 at hm
 refine Ag tbk [] R R<|Al hm R (fun h1 hm=>?_) fun h1 hm=> ?_
 ·refine Bp<|Aa tbk [0] 2 R R<|Ad R R<|Bi ap51 R R R R R fun b2=>Bd hm fun l h3 hm=>Ad R R<|B5 2 VV.str (l:=a) (l2:=[name]) ap51 R R (sT_row 0 VV.str el51 R R) h3 fun ob2 cap2=>Ad R R<|An (i:=1) R R R ld51 R R R<|Ac<|?_
  obtain rfl:=Option.some.inj hm
  exact ⟨.inr R,_,.nil,[1,1],_,R,ob2,cap2,R,R⟩
 refine Aj<|?_
 obtain rfl:=Option.some.inj hm
 exact ⟨.inr R,_,.nil,[0,0],_,R,ob,cap,R,R⟩

/-! trireme/fit.each -/
def fit_each_fit_asker_why_fit_Where_1.l1 (c : T_fit_asker) : List T_api_Machine → Nat → (List ByteArray) → Option (List ByteArray)
 | [], k, do_2 => some do_2
 | x :: l3, k, do_2 =>
  (fit_asker_why c x).bind fun r =>
  (fit_Where_1 x.Name r do_2).bind fun r2 =>
  fit_each_fit_asker_why_fit_Where_1.l1 c l3 (k + 1) r2
def fit_each_fit_asker_why_fit_Where_1 (ms : List T_api_Machine) (c : T_fit_asker) (c2 : List ByteArray) : Option (List ByteArray) :=
 (fit_each_fit_asker_why_fit_Where_1.l1 c ms 0 c2).bind fun l2 =>
 some l2
theorem K92 (ms : List T_api_Machine) (c : T_fit_asker) (c2 : List ByteArray) (b : Nat) (ob : Option Nat) (cap : Nat) : VS2 Tryz.prog 108 (fit_each_fit_asker_why_fit_Where_1 ms c c2) [L30 ms, .clo (.func 109) [T_fit_asker.vv c] [], .clo (.func 110) [] [.ptr b 0]] [.box b 51 [Z9 ob c2 cap], Q9 ob cap c2] (fun r ob0_0 cap0_0=>.tup []) (fun r ob0_0 cap0_0=>[.box b 51 [Z9 ob0_0 r cap0_0], Q9 ob0_0 cap0_0 r]) := by
 refine Ci [] Tryz.func108 R R R fun r hm=>?_
 unfold fit_each_fit_asker_why_fit_Where_1 at hm
 refine Ah<|Ab R R (Ak R)<|Ab R R (Aw T_api_Machine.vv R Bu)<|Ab R R (Ak R)<|Ac<|B7 8 R fun h3=>Bz hm (fun _ (gg:Option Nat × Nat)=>[]) (fun l2 (gg:Option Nat × Nat)=>[.box b 51 [Z9 gg.1 l2 gg.2],Q9 gg.1 gg.2 l2]) (fun o hm=>?_) fun l2=>Pq fun ob4 cap4 hm=> ?_
 ·refine Ch (ms) (fun zl zk (zs:List ByteArray)=>fit_each_fit_asker_why_fit_Where_1.l1 c zl zk zs) (fun k _ (_:Option Nat × Nat)=>[(1,.clo (.func 109) [T_fit_asker.vv c] []),(2,.clo (.func 110) [] [.ptr b 0]),(8,L30 ms),(9,Iw (ms.length : Int)),(10,Iw (k : Int))]) (fun _ zs (zg:Option Nat × Nat)=>[.box b 51 [Z9 zg.1 zs zg.2],Q9 zg.1 zg.2 zs]) _ (ob,cap) hm (Af [0,0] R R) (fun k do_2=>Pq fun ob3 cap3 hk hm=>?_) fun k x l3 do_2=>Pq fun ob3 cap3 h4 hm=> ?_
  ·rw [fit_each_fit_asker_why_fit_Where_1.l1] at hm
   exact Ag tbk [] R R<|Ae<|B4 R (k_end hk)<|A3<|As (ob3,cap3) hm (Af [0,0] R R)
  rw [fit_each_fit_asker_why_fit_Where_1.l1] at hm
  exact Ag tbk [] R R<|Ae<|B3 R (k_lt h4)<|Aj<|Ae<|Ay<|Ah<|Ab R R (Ca T_api_Machine.vv R R el22 h4)<|Ab R R (Bh R ld30 R)<|Ad R R<|Au z30 fun b2=>Ad R R<|An (i:=0) R R R ld30 R R R<|Ac<|Cp (Cd [1,1,0] R)<|Ba 2 mixed<|Av tbk [0,1,2,3,4] [0,0] (by kernel_rfl) R R R<|Ao 5 (by kernel_rfl)<|Aq R R R<|Am hm 0 R fn109 R (K90 _ _) fun r hm=>Ao 6 (by kernel_rfl)<|Aq R R R<|B9 hm 2 R fn110 R (K91 _ _ _ _ _ _) fun r2 ob5 cap5 hm=>A4 (by kernel_rfl)<|A5 tbk [] R R<|Ap _ (ob5,cap5) hm (Br [0,0] R ⟨R,R,R,R,congrArg some (k_next h4 h3),trivial⟩)
 obtain rfl:=Option.some.inj hm
 exact ⟨.inr R,_,.nil,[0,0],_,R,ob4,cap4,R,R⟩

/-! trireme/fit.Where -/
def fit_Where (ms : List T_api_Machine) (bs : List T_api_Bound) (p : T_api_Pod) : Option (List ByteArray) :=
 (fit_each_fit_asker_why_fit_Where_1 ms (⟨ms, bs, p⟩ : T_fit_asker) ([] : List ByteArray)).bind fun r =>
 some r
theorem K93 (ms : List T_api_Machine) (bs : List T_api_Bound) (p : T_api_Pod) : VS2 Tryz.prog 76 (fit_Where ms bs p) [L30 ms, L50 bs, T_api_Pod.vv p] [] (fun r ob0 cap0=>Z9 ob0 r cap0) (fun r ob0 cap0=>[Q9 ob0 cap0 r]) := by
 refine Ci [.tmp 6] Tryz.func76 R R R fun r hm=>?_
 unfold fit_Where at hm
 exact Ah<|Ad R R<|A8 R R fun b=>Ab R R (Ai R)<|Ac<|Ah<|Ad R R<|Au z51 fun b2=>Ac<|Ah<|Aa tbk [1] 4 R R<|Ab R R (Bm pl138 R R)<|Ab R R (Cv R R)<|Ab R R (Cv R R)<|Bn (Bf 9)<|Bn (Cd [1,0,0] R)<|Ad R R<|B9 hm 2 R fn108 R (K92 _ _ _ _ _ _) fun r ob cap hm=>Ac<|Ag tbk [0] R R<|Rg2 hm R [1] ob cap (.cons (.tmp _ _ R) .nil) R R

/-! trireme/taints.Prefers -/
def taints_Prefers (l : List T_api_Toleration) (taints : List T_api_Taint) : Option Int :=
 (taints_Unborne l taints (2 : Int)).bind fun r =>
 some (r.length : Int)
theorem K94 (l : List T_api_Toleration) (taints : List T_api_Taint) : VS Tryz.prog 142 (taints_Prefers l taints) [L128 l, L126 taints] [] Iw N0 := by
 refine Az [.tmp 4] Tryz.func142 R R R fun r hm=>?_
 unfold taints_Prefers at hm
 exact Ag tbk [] R R<|Ah<|Aa tbk [] 2 R R<|Ad R R<|Am hm 0 R fn162 R (K53 _ _ _) fun r hm=>Ab R R (Aw T_api_Taint.vv R Bw)<|Ab R R (Ai R)<|Ac<|Rt1 hm R [] R R R

/-! trireme/suit.Prefers -/
def suit_Prefers (m : T_api_Machine) (p : T_api_Pod) : Option Int :=
 (taints_Prefers p.Bears m.Taints).bind fun r =>
 some r
theorem K95 (m : T_api_Machine) (p : T_api_Pod) : VS Tryz.prog 112 (suit_Prefers m p) [T_api_Machine.vv m, T_api_Pod.vv p] [] Iw N0 := by
 refine Az [.tmp 4] Tryz.func112 R R R fun r hm=>?_
 unfold suit_Prefers at hm
 exact Ah<|Ad R R<|A8 R R fun b=>Ad R R<|A8 R R fun b2=>Ab R R (Ai R)<|Ac<|Ah<|Aa tbk [0,1] 4 R R<|Ad R R<|Am hm 0 R fn142 R (K94 _ _) fun r hm=>Ab R R (Ai R)<|Ac<|Rt1 hm R [] R R R

/-! trireme/res.part -/
def res_part (a : Int) (b : Int) : Option Int :=
 if (decide (b > 0)) = true then
  (V.quo (i64.wrap (1000 * a)) b).bind fun v =>
  some (min (i64.wrap v) 1000000)
 else
  if (decide (a > 0)) = true then
   some 1000000
  else
   some 0
theorem K96 (a : Int) (b : Int) : VS Tryz.prog 97 (res_part a b) [Iw a, Iw b] [] Iw N0 := by
 refine Az [.tmp 4] Tryz.func97 R R R fun r hm=>?_
 unfold res_part at hm
 exact Ag tbk [] R R<|Ae<|Ay<|Ag tbk [] R R<|Al hm R (fun h1 hm=>Ah<|Aa tbk [] 3 R R<|Bd hm fun v h2 hm=>Ab R R (C0 R R h2)<|Ab R R (C9 R R)<|Ab R R (Ai R)<|Ac<|Rt1 hm R [] R R R) fun h1 hm=>Ag tbk [] R R<|Al hm R (fun h3 hm=>Ag tbk [] R R<|Rt1 hm R [] R R R) fun h3 hm=>Aj<|Ag tbk [] R R<|Rt1 hm R [] R R R

/-! trireme/res.Share -/
def res_Share (a : T_api_Res) (b : T_api_Res) : Option Int :=
 (res_Right a).bind fun r =>
 (if (!r) = true then some true else (res_Right b).bind fun r2 =>
 some (!r2)).bind fun c =>
 if c = true then
  some 0
 else
  (res_part a.Cpu b.Cpu).bind fun r3 =>
  (res_part a.Mem b.Mem).bind fun r4 =>
  some (max r3 r4)
theorem K97 (a : T_api_Res) (b : T_api_Res) : VS Tryz.prog 57 (res_Share a b) [T_api_Res.vv a, T_api_Res.vv b] [] Iw N0 := by
 refine Az [.tmp 4] Tryz.func57 R R R fun r hm=>?_
 unfold res_Share at hm
 exact Ah<|Ad R R<|A8 R R fun b2=>Ad R R<|A8 R R fun b3=>Ab R R (Ai R)<|Ac<|Ae<|Ah<|Aa tbk [1] 1 R R<|Ad R R<|Am hm 0 R fn96 R (K59 _) fun r hm=>Aa tbk [] 2 R R<|Bc hm 4 12 8 R (fun _ K' h4 J hm=>Aa tbk [] 4 R R<|J 3 R R (Bj hm)) (fun _ K' h4 J hm=>Aa tbk [0] 1 R R<|A7 R R R R R<|Am hm 0 R fn96 R (K59 _) fun r2 hm=>Aa tbk [] 2 R R<|J 3 R R (Bj hm)) fun c hm=>Ac<|Al hm R (fun h7 hm=>Ag tbk [] R R<|Rt1 hm R [] R R R) fun h7 hm=>Aj<|Ae<|Ba 0 mixed<|Av tbk [0,1,2,3,5,6,7,8] [1,0,1,0] (by kernel_rfl) R R R<|Ao 4 (by kernel_rfl)<|Aq R R R<|Am hm 0 R fn97 R (K96 _ _) fun r3 hm=>Ao 9 (by kernel_rfl)<|Aq R R R<|Am hm 0 R fn97 R (K96 _ _) fun r4 hm=>Ax 10 R R R (by kernel_rfl) (C1 R R)<|Ax 11 R R R (by kernel_rfl) (Ai R)<|A4 (by kernel_rfl)<|Rt1 hm R [] R R R

/-! trireme/sched.of -/
def sched_of.l1 (p : T_api_Pod) : List T_api_Bound → Nat → (List T_api_Bound) → Option (List T_api_Bound)
 | [], k, others2 => some others2
 | x :: l, k, others2 =>
  if (!(V.seq x.Pod.Name p.Name)) = true then
   (V.ap 288 others2 [x]).bind fun others4 =>
   sched_of.l1 p l (k + 1) others4
  else
   sched_of.l1 p l (k + 1) others2
def sched_of (m : T_api_Machine) (bs : List T_api_Bound) (p : T_api_Pod) : Option T_sched_score :=
 (sched_of.l1 p bs 0 ([] : List T_api_Bound)).bind fun others32 =>
 (yard_Used others32 m.Name).bind fun r =>
 (suit_Prefers m p).bind fun r2 =>
 (res_Share r.1 m.Has).bind fun r3 =>
 some (⟨r2, r3⟩ : T_sched_score)
theorem K98 (m : T_api_Machine) (bs : List T_api_Bound) (p : T_api_Pod) : VS Tryz.prog 77 (sched_of m bs p) [T_api_Machine.vv m, L50 bs, T_api_Pod.vv p] [] (fun r=>T_sched_score.vv r) N0 := by
 refine Az [.cell 6 108] Tryz.func77 R R R fun r hm=>?_
 unfold sched_of at hm
 refine Ah<|Ad R R<|A8 R R fun b=>Ad R R<|A8 R R fun b2=>Ad R R<|Au z108 fun b3=>Ac<|Ag tbk [] R R<|Ae<|Ah<|Ab R R (Ak R)<|Ab R R (Aw T_api_Bound.vv R Bl)<|Ab R R (Ak R)<|Ac<|B7 12 R fun h8=>Bz hm (fun others32 (gg:Option Nat × Nat)=>[(3,.ptr b 0),(5,.ptr b2 0),(6,.ptr b3 0),(7,Z50 gg.1 others32 gg.2)]) (fun others32 (gg:Option Nat × Nat)=>[Q50 gg.1 gg.2 others32,X108 b3 (⟨(0 : Int),(0 : Int)⟩ : T_sched_score),X48 b2 p,X30 b m]) (fun o hm=>?_) fun others32=>Pq fun ob3 cap3 hm=> ?_
 ·refine Ch (bs) (fun zl zk (zs:List T_api_Bound)=>sched_of.l1 p zl zk zs) (fun k zs (zg:Option Nat × Nat)=>[(3,.ptr b 0),(5,.ptr b2 0),(6,.ptr b3 0),(7,Z50 zg.1 zs zg.2),(12,L50 bs),(13,Iw (bs.length : Int)),(14,Iw (k : Int))]) (fun _ zs (zg:Option Nat × Nat)=>[Q50 zg.1 zg.2 zs,X108 b3 (⟨(0 : Int),(0 : Int)⟩ : T_sched_score),X48 b2 p,X30 b m]) _ (none,0) hm (A9 (Bf 50) (Af [0,0,0,0] R R)) (fun k others2=>Pq fun ob2 cap2 hk hm=>?_) fun k x l others2=>Pq fun ob2 cap2 h9 hm=> ?_
  ·rw [sched_of.l1] at hm
   exact Ag tbk [] R R<|Ae<|B4 R (k_end hk)<|A3<|As (ob2,cap2) hm (Af [0,0,0,0] R R)
  rw [sched_of.l1] at hm
  exact Ag tbk [] R R<|Ae<|B3 R (k_lt h9)<|Aj<|Ae<|Ay<|Ah<|Ab R R (Ca T_api_Bound.vv R R el23 h9)<|Ab R R (Bh R ld50 R)<|Ad R R<|Au z50 fun b4=>Ad R R<|An (i:=0) R R R ld50 R R R<|Ac<|Ag tbk [0,3] R R<|Al hm R (fun h11 hm=>Bp<|Aa tbk [0] 2 R R<|Ad R R<|Bi ap23 R R R R R fun b5=>Bd hm fun others4 h13 hm=>Ad R R<|B5 2 T_api_Bound.vv (l:=others2) (l2:=[x]) ap23 R R (sT_row 0 T_api_Bound.vv el23 R R) h13 fun ob4 cap4=>Ab R R (Ai R)<|Ac<|A5 tbk [] R R<|Ap _ (ob4,cap4) hm (Br [2,2,2,2] R ⟨R,R,R,R,R,R,congrArg some (k_next h9 h8),trivial⟩)) fun h11 hm=>Aj<|A5 tbk [] R R<|Ap _ (ob2,cap2) hm (Br [1,1,1,1] R ⟨R,R,R,R,R,R,congrArg some (k_next h9 h8),trivial⟩)
 exact Ah<|Aa tbk [3] 3 R R<|Ad R R<|VO.ce hm (A2 0 [(7,L50 others32),(30,L50 others32)] R ⟨⟨_,R,.here _ R⟩,⟨_,R,.here _ R⟩,trivial⟩ (FzH.refl _)) [.same,.same] R fn111 R (K66 _ _) (fun _=>R) (fun _=>R) fun r hm=>Aa tbk [] 3 R R<|Ad R R<|Au z26 fun b6=>Ad R R<|An (i:=0) R R R ld26 R R R<|Ab R R (Ai R)<|Ac<|Ae<|Cp (Cd [2,0,0,0,0] R)<|Ba 1 mixed<|Av tbk [0,1,3,4,5] [3,2,0,3] (by kernel_rfl) R R R<|Ao 2 (by kernel_rfl)<|Aq R R R<|Am hm 0 R fn112 R (K95 _ _) fun r2 hm=>Ao 6 (by kernel_rfl)<|Aq R R R<|Am hm 0 R fn57 R (K97 _ _) fun r3 hm=>Ax 7 R R R (by kernel_rfl) (Bm pl108 R R)<|Ao 8 (by kernel_rfl)<|Aq R R R<|An (i:=0) R R R ld108 R R R<|A4 (by kernel_rfl)<|Rt0 hm R [] (.cons (.cell _ _ _ _ 0 _ _ _ _ R R ld108 R) .nil) R R

/-! (trireme/sched.score).less -/
def sched_score_less (a : T_sched_score) (b : T_sched_score) : Option Bool :=
 if (a.prefers != b.prefers) = true then
  some (decide (a.prefers < b.prefers))
 else
  some (decide (a.share < b.share))
theorem K99 (a : T_sched_score) (b : T_sched_score) : VS Tryz.prog 79 (sched_score_less a b) [T_sched_score.vv a, T_sched_score.vv b] [] .bool N0 := by
 refine Az [.tmp 4] Tryz.func79 R R R fun r hm=>?_
 unfold sched_score_less at hm
 exact Ah<|Ad R R<|A8 R R fun b2=>Ad R R<|A8 R R fun b3=>Ab R R (Ai R)<|Ac<|Ae<|Ag tbk [1,0] R R<|Al hm R (fun h3 hm=>Ag tbk [1,0] R R<|Rt1 hm R [] R R R) fun h3 hm=>Aj<|Ag tbk [1,0] R R<|Rt1 hm R [] R R R

/-! trireme/sched.Best -/
def sched_Best.l1 (ms : List T_api_Machine) (bs : List T_api_Bound) (p : T_api_Pod) : List ByteArray → Nat → ByteArray → T_sched_score → Option ByteArray
 | [], k, best2, least2 => some best2
 | x :: l, k, best2, least2 =>
  ((yard_Find ms x).bind fun r2 =>
  (V.gl ms r2).bind fun x3 =>
  (sched_of x3 bs p).bind fun r3 =>
  some r3).bind fun x22 =>
  (if (V.seq best2 (⟨#[]⟩ : ByteArray)) = true then some true else (sched_score_less x22 least2).bind fun r7 =>
  some r7).bind fun c =>
  if c = true then
   sched_Best.l1 ms bs p l (k + 1) x x22
  else
   sched_Best.l1 ms bs p l (k + 1) best2 least2
def sched_Best (ms : List T_api_Machine) (bs : List T_api_Bound) (p : T_api_Pod) : Option ByteArray :=
 (fit_Where ms bs p).bind fun r =>
 (sched_Best.l1 ms bs p r 0 (⟨#[]⟩ : ByteArray) (⟨0, 0⟩ : T_sched_score)).bind fun best32 =>
 some best32
theorem K100 (ms : List T_api_Machine) (bs : List T_api_Bound) (p : T_api_Pod) : VS Tryz.prog 33 (sched_Best ms bs p) [L30 ms, L50 bs, T_api_Pod.vv p] [] .str N0 := by
 refine Az [.tmp 6] Tryz.func33 R R R fun r hm=>?_
 unfold sched_Best at hm
 refine Ah<|Ad R R<|A8 R R fun b=>Ab R R (Ai R)<|Ac<|Ag tbk [] R R<|Ah<|Ad R R<|Au z108 fun b2=>Ac<|Ae<|Ah<|Aa tbk [1] 3 R R<|Ad R R<|B9 hm 0 R fn76 R (K93 _ _ _) fun r ob cap hm=>Bn (A2 0 [(15,L9 r)] R ⟨⟨_,R,.here _ R⟩,trivial⟩ (FzH.refl _))<|Ab R R (Aw VV.str R Bt)<|Ab R R (Ak R)<|Ac<|B7 15 R fun h7=>Bz hm (fun best32 (_:Unit)=>[(7,.str best32)]) (fun _ (_:Unit)=>[]) (fun o hm=>?_) fun best32 _ hm=> ?_
 ·refine Ch (r) (fun zl zk (zs:ByteArray × T_sched_score)=>sched_Best.l1 ms bs p zl zk zs.1 zs.2) (fun k zs (_:Unit)=>[(0,L30 ms),(1,L50 bs),(5,.ptr b 0),(7,.str zs.1),(8,.ptr b2 0),(15,L9 r),(16,Iw (r.length : Int)),(17,Iw (k : Int))]) (fun _ zs (_:Unit)=>[X108 b2 zs.2,X48 b p]) ((⟨#[]⟩ : ByteArray),(⟨(0 : Int),(0 : Int)⟩ : T_sched_score)) () hm (Af [0,0] R R) (fun k=>Pq fun best2 least2 _ hk hm=>?_) fun k x l=>Pq fun best2 least2 _ h8 hm=> ?_
  ·rw [sched_Best.l1] at hm
   exact Ag tbk [] R R<|Ae<|B4 R (k_end hk)<|A3<|As () hm (Af [] R R)
  rw [sched_Best.l1] at hm
  refine Ag tbk [] R R<|Ae<|B3 R (k_lt h8)<|Aj<|Ae<|Ay<|Ah<|Ab R R (Ca VV.str R R el51 h8)<|Aa tbk [] 2 R R<|Ac<|Cx hm (fun _ (gg:Nat)=>[(0,L30 ms),(1,L50 bs),(5,.ptr b 0),(7,.str best2),(8,.ptr b2 0),(10,.str x),(11,.ptr gg 0),(15,L9 r),(16,Iw (r.length : Int)),(17,Iw (k : Int))]) (fun x22 (gg:Nat)=>[X108 gg x22,X108 b2 least2,X48 b p]) (fun o2 hm=>?_) fun x22 b3 hm=> ?_
  ·refine Ba 0 mixed<|Av tbk [0,1,2,6,7] [1] (by kernel_rfl) R R R<|?_
   refine B0 [3,9] (by kernel_rfl) ⟨?_,?_,trivial⟩
   ·refine Aq R R R<|Am hm 0 R fn78 R (K80 _ _) fun r2 hm=>Bd hm fun x3 h13 hm=>Ax 4 R R R (by kernel_rfl) (A0 T_api_Machine.vv R R el22 h13)<|Ax 5 R R R (by kernel_rfl) (Bh R ld30 R)<|?_
    refine B0 [8,9] (by kernel_rfl) ⟨?_,?_,trivial⟩
    ·exact Aq R R R<|Am hm 0 R fn77 R (K98 _ _ _) fun r3 hm=>Ao 9 (by kernel_rfl)<|Aq R R R<|Au z108 fun b4=>Ao 10 (by kernel_rfl)<|Aq R R R<|An (i:=0) R R R ld108 R R R<|A4 (by kernel_rfl)<|As _ hm (Af [0,0,0] R R)
    ·exact Aq R R R<|Au z108 fun b5=>Ao 8 (by kernel_rfl)<|Aq R R R<|Am hm 0 R fn77 R (K98 _ _ _) fun r4 hm=>Ao 10 (by kernel_rfl)<|Aq R R R<|An (i:=0) R R R ld108 R R R<|A4 (by kernel_rfl)<|As _ hm (Af [0,0,0] R R)
   ·exact Aq R R R<|Au z108 fun b6=>Ao 3 (by kernel_rfl)<|Aq R R R<|Am hm 0 R fn78 R (K80 _ _) fun r5 hm=>Bd hm fun x4 h20 hm=>Ax 4 R R R (by kernel_rfl) (A0 T_api_Machine.vv R R el22 h20)<|Ax 5 R R R (by kernel_rfl) (Bh R ld30 R)<|Ao 8 (by kernel_rfl)<|Aq R R R<|Am hm 0 R fn77 R (K98 _ _ _) fun r6 hm=>Ao 10 (by kernel_rfl)<|Aq R R R<|An (i:=0) R R R ld108 R R R<|A4 (by kernel_rfl)<|As _ hm (Af [0,0,0] R R)
  exact Ah<|Aa tbk [] 3 R R<|Bc hm 4 36 32 R (fun _ K' h22 J hm=>Aa tbk [] 4 R R<|J 3 R R (Bj hm)) (fun _ K' h22 J hm=>Aa tbk [0,1] 2 R R<|A7 R R R R R<|Am hm 0 R fn79 R (K99 _ _) fun r7 hm=>Ab R R (Bb false R R R)<|J 3 R R (Bj hm)) fun c hm=>Ac<|Al hm R (fun h25 hm=>Cp (Cd [1,0,0] R)<|Ba 1 mixed<|Av tbk [0,1,2] [0] (by kernel_rfl) R R R<|Ao 3 (by kernel_rfl)<|Aq R R R<|An (i:=0) R R R ld108 R R R<|A4 (by kernel_rfl)<|A5 tbk [] R R<|Ap (x,x22) () hm (Br [0,1] R ⟨R,R,R,R,R,R,R,congrArg some (k_next h8 h7),trivial⟩)) fun h25 hm=>Aj<|A5 tbk [] R R<|Ap (best2,least2) () hm (Br [1,1] R ⟨R,R,R,R,R,R,R,congrArg some (k_next h8 h7),trivial⟩)
 exact Ag tbk [] R R<|Rt1 hm R [] R R R

/-! trireme/sched.Step -/
def sched_Step.l1 (ms : List T_api_Machine) : List Int → Nat → (List T_api_Bound) → (List T_api_Move) → Option (List T_api_Bound × List T_api_Move)
 | [], k, out2, moves2 => some (out2, moves2)
 | x :: l2, k, out2, moves2 =>
  (V.gl out2 x).bind fun x2 =>
  (sched_Best ms out2 x2.Pod).bind fun r2 =>
  if (!(V.seq r2 (⟨#[]⟩ : ByteArray))) = true then
   (V.gl out2 x).bind fun x3 =>
   (V.ap 32 moves2 [(⟨x2.Pod.Name, r2⟩ : T_api_Move)]).bind fun moves4 =>
   sched_Step.l1 ms l2 (k + 1) (List.set out2 (x).toNat (⟨x3.Pod, r2⟩ : T_api_Bound)) moves4
  else
   sched_Step.l1 ms l2 (k + 1) out2 moves2
def sched_Step (ms : List T_api_Machine) (bs : List T_api_Bound) : Option (List T_api_Bound × List T_api_Move) :=
 (V.ap 288 ([] : List T_api_Bound) bs).bind fun l =>
 (sched_Order bs).bind fun r =>
 (sched_Step.l1 ms r 0 l ([] : List T_api_Move)).bind fun j =>
 some (j.1, j.2)
theorem K101 (ms : List T_api_Machine) (bs : List T_api_Bound) : ∀ r : List T_api_Bound × List T_api_Move, sched_Step ms bs = some r → VC Tryz.prog 26 [L30 ms, L50 bs] [] fun zx zH => ∃ (ob0 : Option Nat) (cap0 : Nat) (ob1 : Option Nat) (cap1 : Nat), zx = .tup [Z50 ob0 r.1 cap0, Z53 ob1 r.2 cap1] ∧ zH = [Q50 ob0 cap0 r.1, Q53 ob1 cap1 r.2] := by
 refine VCx.run [.tmp 4,.tmp 5] Tryz.func26 R R R fun r hm=>?_
 unfold sched_Step at hm
 refine Ag tbk [] R R<|Ah<|Ab R R (Ak R)<|Bn (Bf 50)<|Bd hm fun l h2 hm=>Ad R R<|B5 0 T_api_Bound.vv (l:=([] : List T_api_Bound)) (l2:=bs) ap23 R R (sT_list T_api_Bound.vv el23 R R) h2 fun ob cap=>Ab R R (Ai R)<|Ac<|Ag tbk [] R R<|Ae<|Ah<|Ab R R (Ak R)<|Ad R R<|Am hm 0 R fn28 R (K37 _) fun r hm=>Ab R R (Aw (VV.int .i64) R Bq)<|Ab R R (Ak R)<|Ac<|B7 15 R fun h8=>Bz hm (fun j (gg:Option Nat × Option Nat × Nat)=>[(6,Z50 gg.1 j.1 cap),(7,Z53 gg.2.1 j.2 gg.2.2)]) (fun j (gg:Option Nat × Option Nat × Nat)=>[Q53 gg.2.1 gg.2.2 j.2,Q50 gg.1 cap j.1]) (fun o hm=>?_) fun j=>Pq fun ob6=>Pq fun ob7 cap4 hm=> ?_
 ·refine Ch (r) (fun zl zk (zs:List T_api_Bound × List T_api_Move)=>sched_Step.l1 ms zl zk zs.1 zs.2) (fun k zs (zg:Option Nat × Option Nat × Nat)=>[(0,L30 ms),(6,Z50 zg.1 zs.1 cap),(7,Z53 zg.2.1 zs.2 zg.2.2),(15,L3 r),(16,Iw (r.length : Int)),(17,Iw (k : Int))]) (fun _ zs (zg:Option Nat × Option Nat × Nat)=>[Q53 zg.2.1 zg.2.2 zs.2,Q50 zg.1 cap zs.1]) (l,([] : List T_api_Move)) (ob,none,0) hm (A9 (Bf 53) (Af [0,0] R R)) (fun k=>Pq fun out2 moves2=>Pq fun ob4=>Pq fun ob5 cap3 hk hm=>?_) fun k x l2=>Pq fun out2 moves2=>Pq fun ob4=>Pq fun ob5 cap3 h9 hm=> ?_
  ·rw [sched_Step.l1] at hm
   exact Ag tbk [] R R<|Ae<|B4 R (k_end hk)<|A3<|As (ob4,ob5,cap3) hm (Af [0,0] R R)
  rw [sched_Step.l1] at hm
  refine Ag tbk [] R R<|Ae<|B3 R (k_lt h9)<|Aj<|Ae<|Ay<|Ah<|Ab R R (Ca (VV.int .i64) R R el41 h9)<|Aa tbk [] 2 R R<|Ac<|Ah<|Aa tbk [] 2 R R<|Bd hm fun x2 h10 hm=>Cm 1 R (gl_pos T_api_Bound.vv h10) fun b h11=> ?_
  subst h11
  exact Ab R R (Cs T_api_Bound.vv R R el23 h10)<|Ab R R (C6 R fa50_0)<|Ab R R (Cr (i:=1) (y:=T_api_Bound.vv x2) R R R (gl_map _ (gl_some h10).2) ld48 R)<|Ad R R<|Au z48 fun b2=>Ad R R<|An (i:=0) R R R ld48 R R R<|Ac<|Ah<|Aa tbk [0] 3 R R<|Ad R R<|VO.ce hm (A2 2 [(6,L50 out2),(21,L50 out2),(27,L50 out2)] R ⟨⟨_,R,.here _ R⟩,⟨_,R,.here _ R⟩,⟨_,R,.here _ R⟩,trivial⟩ (FzH.refl _)) [.same,.same,.same] R fn33 R (K100 _ _ _) (fun _=>R) (fun _=>R) fun r2 hm=>Ab R R (Ai R)<|Ac<|Ag tbk [] R R<|Al hm R (fun h14 hm=>Ah<|Aa tbk [] 3 R R<|Bd hm fun x3 h15 hm=>Ab R R (Cs T_api_Bound.vv R R el23 h15)<|Ab R R (C6 R fa50_1)<|Ad R R<|Db 2 (f:=T_api_Bound.vv) (l:=out2) (q:=x3) (q':=(⟨x3.Pod,r2⟩ : T_api_Bound)) R R R R h15 ld9 R R R R ⟨R,List.all_eq_true.1 R⟩<|Bn (Ck 6 (List.map T_api_Bound.vv (List.set out2 (x).toNat (⟨x3.Pod,r2⟩ : T_api_Bound))).length R (len_set _ _ _ _))<|Bn (Ck 21 (List.map T_api_Bound.vv (List.set out2 (x).toNat (⟨x3.Pod,r2⟩ : T_api_Bound))).length R (len_set _ _ _ _))<|Bn (Ck 27 (List.map T_api_Bound.vv (List.set out2 (x).toNat (⟨x3.Pod,r2⟩ : T_api_Bound))).length R (len_set _ _ _ _))<|Bn (Ck 32 (List.map T_api_Bound.vv (List.set out2 (x).toNat (⟨x3.Pod,r2⟩ : T_api_Bound))).length R (len_set _ _ _ _))<|Ac<|Bp<|Aa tbk [0] 4 R R<|Ab R R (Bm pl53 R R)<|Ad R R<|Bi ap35 R R R R R fun b3=>Bd hm fun moves4 h17 hm=>Ad R R<|B5 2 T_api_Move.vv (l:=moves2) (l2:=[(⟨x2.Pod.Name,r2⟩ : T_api_Move)]) ap35 R R (sT_row 0 T_api_Move.vv el35 R R) h17 fun ob8 cap5=>Ab R R (Ai R)<|Ac<|A5 tbk [] R R<|Ap ((List.set out2 (x).toNat (⟨x3.Pod,r2⟩ : T_api_Bound)),moves4) ((some b),ob8,cap5) hm (Br [2,2] R ⟨R,R,R,R,R,congrArg some (k_next h9 h8),trivial⟩)) fun h14 hm=>Aj<|A5 tbk [] R R<|Ap (out2,moves2) ((some b),ob5,cap3) hm (Br [1,1] R ⟨R,R,R,R,R,congrArg some (k_next h9 h8),trivial⟩)
 refine Ag tbk [] R R<|?_
 obtain rfl:=Option.some.inj hm
 exact VW.ret ⟨.inl R,_,.cons (.tmp _ _ R) (.cons (.tmp _ _ R) .nil),[1,0],_,R,ob6,cap,ob7,cap4,R,R⟩

/-! trireme/triremeref02.Ints -/
def ref02_Ints.l1 (a : List Int) (b : List Int) : Nat → Int → Option (Out Bool Unit)
 | 0, _ => none
 | n + 1, i2 =>
  if (decide (i2 < (a.length : Int))) = true then
   (V.gl a i2).bind fun x =>
   (V.gl b i2).bind fun x2 =>
   if (x != x2) = true then
    some (Out.ret false)
   else
    ref02_Ints.l1 a b n (i64.wrap (i2 + 1))
  else
   some (Out.go ())
def ref02_Ints (a : List Int) (b : List Int) : Option Bool :=
 if ((a.length : Int) != (b.length : Int)) = true then
  some false
 else
  (ref02_Ints.l1 a b FU (0 : Int)).bind fun o =>
  o.on fun j =>
  some true
theorem K102 (a : List Int) (b : List Int) : VS Tryz.prog 17 (ref02_Ints a b) [L3 a, L3 b] [] .bool N0 := by
 refine Az [.tmp 4] Tryz.func17 R R R fun r hm=>?_
 unfold ref02_Ints at hm
 refine Ag tbk [] R R<|Ae<|Ah<|Ab R R (Ak R)<|Ab R R (Aw (VV.int .i64) R Bq)<|Ab R R (Ak R)<|Ab R R (Aw (VV.int .i64) R Bq)<|Ab R R (A6 R R R)<|Ac<|Al hm R (fun h1 hm=>Ag tbk [] R R<|Rt1 hm R [] R R R) fun h1 hm=>Aj<|Ae<|Ag tbk [] R R<|Bs hm (fun _ (_:Unit)=>[]) (fun _ (_:Unit)=>[]) (fun o hm h3=>?_) fun j _ hm=> ?_
 ·refine Bo (fun zn (zs:Int)=>ref02_Ints.l1 a b zn zs) (fun zs (_:Unit)=>[(0,L3 a),(1,L3 b),(5,Iw zs)]) (fun _ (_:Unit)=>[]) _ () (fun _=>R) hm (Af [] R R) fun n i2 _ hm=> ?_
  rw [ref02_Ints.l1] at hm
  exact Ae<|Ah<|Aa tbk [] 2 R R<|Ab R R (Aw (VV.int .i64) R Bq)<|Ab R R (A6 R R R)<|Ac<|Al hm R (fun h4 hm=>Aj<|Ae<|Ay<|Ae<|Ba 0 mixed<|Av tbk [0,1] [] (by kernel_rfl) R R R<|Bd hm fun x h5 hm=>Ax 2 R R R (by kernel_rfl) (A0 (VV.int .i64) R R el41 h5)<|Av tbk [3,4,5] [] (by kernel_rfl) R R R<|Bd hm fun x2 h6 hm=>Ax 6 R R R (by kernel_rfl) (A0 (VV.int .i64) R R el41 h6)<|Av tbk [7,8] [] (by kernel_rfl) R R R<|A4 (by kernel_rfl)<|Al hm R (fun h7 hm=>Ag tbk [] R R<|have hm:=Lr hm h3;Rt1 hm R [] R R R) fun h7 hm=>Aj<|A5 tbk [] R R<|Ap _ () hm (Af [] R R)) fun h4 hm=>A3<|Ar () hm (Af [] R R)
 exact Ag tbk [] R R<|Rt1 hm R [] R R R

/-! trireme/triremeref14.Moves -/
def ref14_Moves.l1 (a : List T_api_Move) (b : List T_api_Move) : Nat → Int → Option (Out Bool Unit)
 | 0, _ => none
 | n + 1, i2 =>
  if (decide (i2 < (a.length : Int))) = true then
   (V.gl a i2).bind fun x =>
   (V.gl b i2).bind fun x2 =>
   if (!(((x.Pod == x2.Pod) && ((x.To == x2.To) && true)) == true)) = true then
    some (Out.ret false)
   else
    ref14_Moves.l1 a b n (i64.wrap (i2 + 1))
  else
   some (Out.go ())
def ref14_Moves (a : List T_api_Move) (b : List T_api_Move) : Option Bool :=
 if ((a.length : Int) != (b.length : Int)) = true then
  some false
 else
  (ref14_Moves.l1 a b FU (0 : Int)).bind fun o =>
  o.on fun j =>
  some true
theorem K103 (a : List T_api_Move) (b : List T_api_Move) : VS Tryz.prog 16 (ref14_Moves a b) [L53 a, L53 b] [] .bool N0 := by
 refine Az [.tmp 4] Tryz.func16 R R R fun r hm=>?_
 unfold ref14_Moves at hm
 refine Ag tbk [] R R<|Ae<|Ah<|Ab R R (Ak R)<|Ab R R (Aw T_api_Move.vv R Cz)<|Ab R R (Ak R)<|Ab R R (Aw T_api_Move.vv R Cz)<|Ab R R (A6 R R R)<|Ac<|Al hm R (fun h1 hm=>Ag tbk [] R R<|Rt1 hm R [] R R R) fun h1 hm=>Aj<|Ae<|Ag tbk [] R R<|Bs hm (fun _ (_:Unit)=>[]) (fun _ (_:Unit)=>[]) (fun o hm h3=>?_) fun j _ hm=> ?_
 ·refine Bo (fun zn (zs:Int)=>ref14_Moves.l1 a b zn zs) (fun zs (_:Unit)=>[(0,L53 a),(1,L53 b),(5,Iw zs)]) (fun _ (_:Unit)=>[]) _ () (fun _=>R) hm (Af [] R R) fun n i2 _ hm=> ?_
  rw [ref14_Moves.l1] at hm
  exact Ae<|Ah<|Aa tbk [] 2 R R<|Ab R R (Aw T_api_Move.vv R Cz)<|Ab R R (A6 R R R)<|Ac<|Al hm R (fun h4 hm=>Aj<|Ae<|Ay<|Ae<|Ba 0 mixed<|Av tbk [0,1] [] (by kernel_rfl) R R R<|Bd hm fun x h5 hm=>Ax 2 R R R (by kernel_rfl) (A0 T_api_Move.vv R R el35 h5)<|Av tbk [3,4,5] [] (by kernel_rfl) R R R<|Bd hm fun x2 h6 hm=>Ax 6 R R R (by kernel_rfl) (A0 T_api_Move.vv R R el35 h6)<|Ax 7 R R R (by kernel_rfl) (Bh R ld53 R)<|Ax 8 R R R (by kernel_rfl) (Da shp53 eq53 R R R R)<|A4 (by kernel_rfl)<|Al hm R (fun h7 hm=>Ag tbk [] R R<|have hm:=Lr hm h3;Rt1 hm R [] R R R) fun h7 hm=>Aj<|A5 tbk [] R R<|Ap _ () hm (Af [] R R)) fun h4 hm=>A3<|Ar () hm (Af [] R R)
 exact Ag tbk [] R R<|Rt1 hm R [] R R R

/-! trireme/triremelaw14.known -/
def law14_known : Option Bool :=
 (sched_Step [(⟨(⟨#[109]⟩ : ByteArray), (⟨#[]⟩ : ByteArray), (⟨1000, 0, 0, 9, 0⟩ : T_api_Res), ([] : List T_api_Label), ([] : List T_api_Taint), true⟩ : T_api_Machine), (⟨(⟨#[110]⟩ : ByteArray), (⟨#[]⟩ : ByteArray), (⟨1000, 0, 0, 9, 0⟩ : T_api_Res), ([] : List T_api_Label), ([] : List T_api_Taint), true⟩ : T_api_Machine)] [(⟨(⟨(⟨#[112]⟩ : ByteArray), (⟨600, 0, 0, 1, 0⟩ : T_api_Res), ([] : List T_api_Label), ([] : List T_api_Label), ([] : List T_api_Term), ([] : List T_api_Toleration), ([] : List Int), ([] : List T_api_Label), false, ([] : List T_api_Label), 0, 0, (⟨#[]⟩ : ByteArray), false, false, false⟩ : T_api_Pod), (⟨#[]⟩ : ByteArray)⟩ : T_api_Bound), (⟨(⟨(⟨#[113]⟩ : ByteArray), (⟨600, 0, 0, 1, 0⟩ : T_api_Res), ([] : List T_api_Label), ([] : List T_api_Label), ([] : List T_api_Term), ([] : List T_api_Toleration), ([] : List Int), ([] : List T_api_Label), false, ([] : List T_api_Label), 0, 5, (⟨#[]⟩ : ByteArray), false, false, false⟩ : T_api_Pod), (⟨#[]⟩ : ByteArray)⟩ : T_api_Bound), (⟨(⟨(⟨#[114]⟩ : ByteArray), (⟨600, 0, 0, 1, 0⟩ : T_api_Res), ([] : List T_api_Label), ([] : List T_api_Label), ([] : List T_api_Term), ([] : List T_api_Toleration), ([] : List Int), ([] : List T_api_Label), false, ([] : List T_api_Label), 0, 0, (⟨#[]⟩ : ByteArray), false, false, false⟩ : T_api_Pod), (⟨#[]⟩ : ByteArray)⟩ : T_api_Bound)]).bind fun r =>
 (sched_Order [(⟨(⟨(⟨#[112]⟩ : ByteArray), (⟨600, 0, 0, 1, 0⟩ : T_api_Res), ([] : List T_api_Label), ([] : List T_api_Label), ([] : List T_api_Term), ([] : List T_api_Toleration), ([] : List Int), ([] : List T_api_Label), false, ([] : List T_api_Label), 0, 0, (⟨#[]⟩ : ByteArray), false, false, false⟩ : T_api_Pod), (⟨#[]⟩ : ByteArray)⟩ : T_api_Bound), (⟨(⟨(⟨#[113]⟩ : ByteArray), (⟨600, 0, 0, 1, 0⟩ : T_api_Res), ([] : List T_api_Label), ([] : List T_api_Label), ([] : List T_api_Term), ([] : List T_api_Toleration), ([] : List Int), ([] : List T_api_Label), false, ([] : List T_api_Label), 0, 5, (⟨#[]⟩ : ByteArray), false, false, false⟩ : T_api_Pod), (⟨#[]⟩ : ByteArray)⟩ : T_api_Bound), (⟨(⟨(⟨#[114]⟩ : ByteArray), (⟨600, 0, 0, 1, 0⟩ : T_api_Res), ([] : List T_api_Label), ([] : List T_api_Label), ([] : List T_api_Term), ([] : List T_api_Toleration), ([] : List Int), ([] : List T_api_Label), false, ([] : List T_api_Label), 0, 0, (⟨#[]⟩ : ByteArray), false, false, false⟩ : T_api_Pod), (⟨#[]⟩ : ByteArray)⟩ : T_api_Bound)]).bind fun r7 =>
 (ref02_Ints r7 [1, 0, 2]).bind fun r8 =>
 (if (r8 && ((r.1.length : Int) == 3)) = true then (V.gl r.1 (0 : Int)).bind fun x8 =>
 some (V.seq x8.On (⟨#[110]⟩ : ByteArray)) else some false).bind fun c8 =>
 (if c8 = true then (V.gl r.1 (1 : Int)).bind fun x9 =>
 some (V.seq x9.On (⟨#[109]⟩ : ByteArray)) else some false).bind fun c9 =>
 (if c9 = true then (V.gl r.1 (2 : Int)).bind fun x10 =>
 some (V.seq x10.On (⟨#[]⟩ : ByteArray)) else some false).bind fun c10 =>
 (if c10 = true then (ref14_Moves r.2 [(⟨(⟨#[113]⟩ : ByteArray), (⟨#[109]⟩ : ByteArray)⟩ : T_api_Move), (⟨(⟨#[112]⟩ : ByteArray), (⟨#[110]⟩ : ByteArray)⟩ : T_api_Move)]).bind fun r9 =>
 some r9 else some false).bind fun c11 =>
 (if c11 = true then (V.gl [(⟨(⟨(⟨#[112]⟩ : ByteArray), (⟨600, 0, 0, 1, 0⟩ : T_api_Res), ([] : List T_api_Label), ([] : List T_api_Label), ([] : List T_api_Term), ([] : List T_api_Toleration), ([] : List Int), ([] : List T_api_Label), false, ([] : List T_api_Label), 0, 0, (⟨#[]⟩ : ByteArray), false, false, false⟩ : T_api_Pod), (⟨#[]⟩ : ByteArray)⟩ : T_api_Bound), (⟨(⟨(⟨#[113]⟩ : ByteArray), (⟨600, 0, 0, 1, 0⟩ : T_api_Res), ([] : List T_api_Label), ([] : List T_api_Label), ([] : List T_api_Term), ([] : List T_api_Toleration), ([] : List Int), ([] : List T_api_Label), false, ([] : List T_api_Label), 0, 5, (⟨#[]⟩ : ByteArray), false, false, false⟩ : T_api_Pod), (⟨#[]⟩ : ByteArray)⟩ : T_api_Bound), (⟨(⟨(⟨#[114]⟩ : ByteArray), (⟨600, 0, 0, 1, 0⟩ : T_api_Res), ([] : List T_api_Label), ([] : List T_api_Label), ([] : List T_api_Term), ([] : List T_api_Toleration), ([] : List Int), ([] : List T_api_Label), false, ([] : List T_api_Label), 0, 0, (⟨#[]⟩ : ByteArray), false, false, false⟩ : T_api_Pod), (⟨#[]⟩ : ByteArray)⟩ : T_api_Bound)] (2 : Int)).bind fun x11 =>
 (sched_Best [(⟨(⟨#[109]⟩ : ByteArray), (⟨#[]⟩ : ByteArray), (⟨1000, 0, 0, 9, 0⟩ : T_api_Res), ([] : List T_api_Label), ([] : List T_api_Taint), true⟩ : T_api_Machine), (⟨(⟨#[110]⟩ : ByteArray), (⟨#[]⟩ : ByteArray), (⟨1000, 0, 0, 9, 0⟩ : T_api_Res), ([] : List T_api_Label), ([] : List T_api_Taint), true⟩ : T_api_Machine)] r.1 x11.Pod).bind fun r10 =>
 some (V.seq r10 (⟨#[]⟩ : ByteArray)) else some false).bind fun c12 =>
 (if c12 = true then (V.gl [(⟨(⟨(⟨#[112]⟩ : ByteArray), (⟨600, 0, 0, 1, 0⟩ : T_api_Res), ([] : List T_api_Label), ([] : List T_api_Label), ([] : List T_api_Term), ([] : List T_api_Toleration), ([] : List Int), ([] : List T_api_Label), false, ([] : List T_api_Label), 0, 0, (⟨#[]⟩ : ByteArray), false, false, false⟩ : T_api_Pod), (⟨#[]⟩ : ByteArray)⟩ : T_api_Bound), (⟨(⟨(⟨#[113]⟩ : ByteArray), (⟨600, 0, 0, 1, 0⟩ : T_api_Res), ([] : List T_api_Label), ([] : List T_api_Label), ([] : List T_api_Term), ([] : List T_api_Toleration), ([] : List Int), ([] : List T_api_Label), false, ([] : List T_api_Label), 0, 5, (⟨#[]⟩ : ByteArray), false, false, false⟩ : T_api_Pod), (⟨#[]⟩ : ByteArray)⟩ : T_api_Bound), (⟨(⟨(⟨#[114]⟩ : ByteArray), (⟨600, 0, 0, 1, 0⟩ : T_api_Res), ([] : List T_api_Label), ([] : List T_api_Label), ([] : List T_api_Term), ([] : List T_api_Toleration), ([] : List Int), ([] : List T_api_Label), false, ([] : List T_api_Label), 0, 0, (⟨#[]⟩ : ByteArray), false, false, false⟩ : T_api_Pod), (⟨#[]⟩ : ByteArray)⟩ : T_api_Bound)] (2 : Int)).bind fun x12 =>
 (sched_Best [(⟨(⟨#[109]⟩ : ByteArray), (⟨#[]⟩ : ByteArray), (⟨1000, 0, 0, 9, 0⟩ : T_api_Res), ([] : List T_api_Label), ([] : List T_api_Taint), true⟩ : T_api_Machine), (⟨(⟨#[110]⟩ : ByteArray), (⟨#[]⟩ : ByteArray), (⟨1000, 0, 0, 9, 0⟩ : T_api_Res), ([] : List T_api_Label), ([] : List T_api_Taint), true⟩ : T_api_Machine)] ([] : List T_api_Bound) x12.Pod).bind fun r11 =>
 some (V.seq r11 (⟨#[109]⟩ : ByteArray)) else some false).bind fun c13 =>
 some c13
theorem K104 : VS Tryz.prog 25 (law14_known) [] [] .bool N0 := by
 refine Az [.tmp 0] Tryz.func25 R R R fun r hm=>?_
 unfold law14_known at hm
 refine Ag tbk [] R R<|Ah<|Ab R R (Bm pl26 R R)<|Ab R R (Bm pl30 R R)<|Ab R R (Bm pl26 R R)<|Ab R R (Bm pl30 R R)<|Bn (A9 (Bf 124) (A9 (A2 0 [(6,.agg [.str (⟨#[109]⟩ : ByteArray),.str (⟨#[]⟩ : ByteArray),Iw (1000 : Int),Iw (0 : Int),Iw (0 : Int),Iw (9 : Int),Iw (0 : Int),L124 ([] : List T_api_Label),.sl none 0 0,.bool true])] R ⟨⟨_,R,.aggL ⟨.same _,.same _,.same _,.same _,.same _,.same _,.same _,.here _ R,.same _,.same _,trivial⟩⟩,trivial⟩ (FzH.refl _)) (A9 (Bf 126) (A9 (A2 0 [(6,T_api_Machine.vv (⟨(⟨#[109]⟩ : ByteArray),(⟨#[]⟩ : ByteArray),(⟨(1000 : Int),(0 : Int),(0 : Int),(9 : Int),(0 : Int)⟩ : T_api_Res),([] : List T_api_Label),([] : List T_api_Taint),true⟩ : T_api_Machine))] R ⟨⟨_,R,.aggL ⟨.same _,.same _,.same _,.same _,.same _,.same _,.same _,.same _,.here _ R,.same _,trivial⟩⟩,trivial⟩ (FzH.refl _)) (A9 (Bf 124) (A9 (A2 0 [(8,.agg [.str (⟨#[110]⟩ : ByteArray),.str (⟨#[]⟩ : ByteArray),Iw (1000 : Int),Iw (0 : Int),Iw (0 : Int),Iw (9 : Int),Iw (0 : Int),L124 ([] : List T_api_Label),.sl none 0 0,.bool true])] R ⟨⟨_,R,.aggL ⟨.same _,.same _,.same _,.same _,.same _,.same _,.same _,.here _ R,.same _,.same _,trivial⟩⟩,trivial⟩ (FzH.refl _)) (A9 (Bf 126) (A2 0 [(8,T_api_Machine.vv (⟨(⟨#[110]⟩ : ByteArray),(⟨#[]⟩ : ByteArray),(⟨(1000 : Int),(0 : Int),(0 : Int),(9 : Int),(0 : Int)⟩ : T_api_Res),([] : List T_api_Label),([] : List T_api_Taint),true⟩ : T_api_Machine))] R ⟨⟨_,R,.aggL ⟨.same _,.same _,.same _,.same _,.same _,.same _,.same _,.same _,.here _ R,.same _,trivial⟩⟩,trivial⟩ (FzH.refl _)))))))))<|Ad R R<|Bi ap22 R R R R R fun b=>Bn (A2 0 [(9,L30 [(⟨(⟨#[109]⟩ : ByteArray),(⟨#[]⟩ : ByteArray),(⟨(1000 : Int),(0 : Int),(0 : Int),(9 : Int),(0 : Int)⟩ : T_api_Res),([] : List T_api_Label),([] : List T_api_Taint),true⟩ : T_api_Machine),(⟨(⟨#[110]⟩ : ByteArray),(⟨#[]⟩ : ByteArray),(⟨(1000 : Int),(0 : Int),(0 : Int),(9 : Int),(0 : Int)⟩ : T_api_Res),([] : List T_api_Label),([] : List T_api_Taint),true⟩ : T_api_Machine)])] R ⟨⟨_,R,.here _ R⟩,trivial⟩ (FzH.refl _))<|Ab R R (Ai R)<|Ac<|Ah<|Ab R R (Bm pl26 R R)<|Ab R R (Bm pl48 R R)<|Ab R R (Bm pl50 R R)<|Ab R R (Bm pl26 R R)<|Ab R R (Bm pl48 R R)<|Ab R R (Bm pl50 R R)<|Ab R R (Bm pl26 R R)<|Ab R R (Bm pl48 R R)<|Ab R R (Bm pl50 R R)<|Bn (A9 (Bf 124) (A9 (A2 0 [(12,.agg [.str (⟨#[112]⟩ : ByteArray),Iw (600 : Int),Iw (0 : Int),Iw (0 : Int),Iw (1 : Int),Iw (0 : Int),L124 ([] : List T_api_Label),L124 ([] : List T_api_Label),.sl none 0 0,.sl none 0 0,.sl none 0 0,L124 ([] : List T_api_Label),.bool false,L124 ([] : List T_api_Label),Iw (0 : Int),Iw (0 : Int),.str (⟨#[]⟩ : ByteArray),.bool false,.bool false,.bool false,.str (⟨#[]⟩ : ByteArray)])] R ⟨⟨_,R,.aggL ⟨.same _,.same _,.same _,.same _,.same _,.same _,.here _ R,.here _ R,.same _,.same _,.same _,.here _ R,.same _,.here _ R,.same _,.same _,.same _,.same _,.same _,.same _,.same _,trivial⟩⟩,trivial⟩ (FzH.refl _)) (A9 (Bf 103) (A9 (A2 0 [(12,.agg [.str (⟨#[112]⟩ : ByteArray),Iw (600 : Int),Iw (0 : Int),Iw (0 : Int),Iw (1 : Int),Iw (0 : Int),L124 ([] : List T_api_Label),L124 ([] : List T_api_Label),L103 ([] : List T_api_Term),.sl none 0 0,.sl none 0 0,L124 ([] : List T_api_Label),.bool false,L124 ([] : List T_api_Label),Iw (0 : Int),Iw (0 : Int),.str (⟨#[]⟩ : ByteArray),.bool false,.bool false,.bool false,.str (⟨#[]⟩ : ByteArray)])] R ⟨⟨_,R,.aggL ⟨.same _,.same _,.same _,.same _,.same _,.same _,.same _,.same _,.here _ R,.same _,.same _,.same _,.same _,.same _,.same _,.same _,.same _,.same _,.same _,.same _,.same _,trivial⟩⟩,trivial⟩ (FzH.refl _)) (A9 (Bf 128) (A9 (A2 0 [(12,.agg [.str (⟨#[112]⟩ : ByteArray),Iw (600 : Int),Iw (0 : Int),Iw (0 : Int),Iw (1 : Int),Iw (0 : Int),L124 ([] : List T_api_Label),L124 ([] : List T_api_Label),L103 ([] : List T_api_Term),L128 ([] : List T_api_Toleration),.sl none 0 0,L124 ([] : List T_api_Label),.bool false,L124 ([] : List T_api_Label),Iw (0 : Int),Iw (0 : Int),.str (⟨#[]⟩ : ByteArray),.bool false,.bool false,.bool false,.str (⟨#[]⟩ : ByteArray)])] R ⟨⟨_,R,.aggL ⟨.same _,.same _,.same _,.same _,.same _,.same _,.same _,.same _,.same _,.here _ R,.same _,.same _,.same _,.same _,.same _,.same _,.same _,.same _,.same _,.same _,.same _,trivial⟩⟩,trivial⟩ (FzH.refl _)) (A9 (Bf 3) (A9 (A2 0 [(12,T_api_Bound.vv (⟨(⟨(⟨#[112]⟩ : ByteArray),(⟨(600 : Int),(0 : Int),(0 : Int),(1 : Int),(0 : Int)⟩ : T_api_Res),([] : List T_api_Label),([] : List T_api_Label),([] : List T_api_Term),([] : List T_api_Toleration),([] : List Int),([] : List T_api_Label),false,([] : List T_api_Label),(0 : Int),(0 : Int),(⟨#[]⟩ : ByteArray),false,false,false⟩ : T_api_Pod),(⟨#[]⟩ : ByteArray)⟩ : T_api_Bound))] R ⟨⟨_,R,.aggL ⟨.same _,.same _,.same _,.same _,.same _,.same _,.same _,.same _,.same _,.same _,.here _ R,.same _,.same _,.same _,.same _,.same _,.same _,.same _,.same _,.same _,.same _,trivial⟩⟩,trivial⟩ (FzH.refl _)) (A9 (Bf 124) (A9 (A2 0 [(15,.agg [.str (⟨#[113]⟩ : ByteArray),Iw (600 : Int),Iw (0 : Int),Iw (0 : Int),Iw (1 : Int),Iw (0 : Int),L124 ([] : List T_api_Label),L124 ([] : List T_api_Label),.sl none 0 0,.sl none 0 0,.sl none 0 0,L124 ([] : List T_api_Label),.bool false,L124 ([] : List T_api_Label),Iw (0 : Int),Iw (5 : Int),.str (⟨#[]⟩ : ByteArray),.bool false,.bool false,.bool false,.str (⟨#[]⟩ : ByteArray)])] R ⟨⟨_,R,.aggL ⟨.same _,.same _,.same _,.same _,.same _,.same _,.here _ R,.here _ R,.same _,.same _,.same _,.here _ R,.same _,.here _ R,.same _,.same _,.same _,.same _,.same _,.same _,.same _,trivial⟩⟩,trivial⟩ (FzH.refl _)) (A9 (Bf 103) (A9 (A2 0 [(15,.agg [.str (⟨#[113]⟩ : ByteArray),Iw (600 : Int),Iw (0 : Int),Iw (0 : Int),Iw (1 : Int),Iw (0 : Int),L124 ([] : List T_api_Label),L124 ([] : List T_api_Label),L103 ([] : List T_api_Term),.sl none 0 0,.sl none 0 0,L124 ([] : List T_api_Label),.bool false,L124 ([] : List T_api_Label),Iw (0 : Int),Iw (5 : Int),.str (⟨#[]⟩ : ByteArray),.bool false,.bool false,.bool false,.str (⟨#[]⟩ : ByteArray)])] R ⟨⟨_,R,.aggL ⟨.same _,.same _,.same _,.same _,.same _,.same _,.same _,.same _,.here _ R,.same _,.same _,.same _,.same _,.same _,.same _,.same _,.same _,.same _,.same _,.same _,.same _,trivial⟩⟩,trivial⟩ (FzH.refl _)) (A9 (Bf 128) (A9 (A2 0 [(15,.agg [.str (⟨#[113]⟩ : ByteArray),Iw (600 : Int),Iw (0 : Int),Iw (0 : Int),Iw (1 : Int),Iw (0 : Int),L124 ([] : List T_api_Label),L124 ([] : List T_api_Label),L103 ([] : List T_api_Term),L128 ([] : List T_api_Toleration),.sl none 0 0,L124 ([] : List T_api_Label),.bool false,L124 ([] : List T_api_Label),Iw (0 : Int),Iw (5 : Int),.str (⟨#[]⟩ : ByteArray),.bool false,.bool false,.bool false,.str (⟨#[]⟩ : ByteArray)])] R ⟨⟨_,R,.aggL ⟨.same _,.same _,.same _,.same _,.same _,.same _,.same _,.same _,.same _,.here _ R,.same _,.same _,.same _,.same _,.same _,.same _,.same _,.same _,.same _,.same _,.same _,trivial⟩⟩,trivial⟩ (FzH.refl _)) (A9 (Bf 3) (A9 (A2 0 [(15,T_api_Bound.vv (⟨(⟨(⟨#[113]⟩ : ByteArray),(⟨(600 : Int),(0 : Int),(0 : Int),(1 : Int),(0 : Int)⟩ : T_api_Res),([] : List T_api_Label),([] : List T_api_Label),([] : List T_api_Term),([] : List T_api_Toleration),([] : List Int),([] : List T_api_Label),false,([] : List T_api_Label),(0 : Int),(5 : Int),(⟨#[]⟩ : ByteArray),false,false,false⟩ : T_api_Pod),(⟨#[]⟩ : ByteArray)⟩ : T_api_Bound))] R ⟨⟨_,R,.aggL ⟨.same _,.same _,.same _,.same _,.same _,.same _,.same _,.same _,.same _,.same _,.here _ R,.same _,.same _,.same _,.same _,.same _,.same _,.same _,.same _,.same _,.same _,trivial⟩⟩,trivial⟩ (FzH.refl _)) (A9 (Bf 124) (A9 (A2 0 [(18,.agg [.str (⟨#[114]⟩ : ByteArray),Iw (600 : Int),Iw (0 : Int),Iw (0 : Int),Iw (1 : Int),Iw (0 : Int),L124 ([] : List T_api_Label),L124 ([] : List T_api_Label),.sl none 0 0,.sl none 0 0,.sl none 0 0,L124 ([] : List T_api_Label),.bool false,L124 ([] : List T_api_Label),Iw (0 : Int),Iw (0 : Int),.str (⟨#[]⟩ : ByteArray),.bool false,.bool false,.bool false,.str (⟨#[]⟩ : ByteArray)])] R ⟨⟨_,R,.aggL ⟨.same _,.same _,.same _,.same _,.same _,.same _,.here _ R,.here _ R,.same _,.same _,.same _,.here _ R,.same _,.here _ R,.same _,.same _,.same _,.same _,.same _,.same _,.same _,trivial⟩⟩,trivial⟩ (FzH.refl _)) (A9 (Bf 103) (A9 (A2 0 [(18,.agg [.str (⟨#[114]⟩ : ByteArray),Iw (600 : Int),Iw (0 : Int),Iw (0 : Int),Iw (1 : Int),Iw (0 : Int),L124 ([] : List T_api_Label),L124 ([] : List T_api_Label),L103 ([] : List T_api_Term),.sl none 0 0,.sl none 0 0,L124 ([] : List T_api_Label),.bool false,L124 ([] : List T_api_Label),Iw (0 : Int),Iw (0 : Int),.str (⟨#[]⟩ : ByteArray),.bool false,.bool false,.bool false,.str (⟨#[]⟩ : ByteArray)])] R ⟨⟨_,R,.aggL ⟨.same _,.same _,.same _,.same _,.same _,.same _,.same _,.same _,.here _ R,.same _,.same _,.same _,.same _,.same _,.same _,.same _,.same _,.same _,.same _,.same _,.same _,trivial⟩⟩,trivial⟩ (FzH.refl _)) (A9 (Bf 128) (A9 (A2 0 [(18,.agg [.str (⟨#[114]⟩ : ByteArray),Iw (600 : Int),Iw (0 : Int),Iw (0 : Int),Iw (1 : Int),Iw (0 : Int),L124 ([] : List T_api_Label),L124 ([] : List T_api_Label),L103 ([] : List T_api_Term),L128 ([] : List T_api_Toleration),.sl none 0 0,L124 ([] : List T_api_Label),.bool false,L124 ([] : List T_api_Label),Iw (0 : Int),Iw (0 : Int),.str (⟨#[]⟩ : ByteArray),.bool false,.bool false,.bool false,.str (⟨#[]⟩ : ByteArray)])] R ⟨⟨_,R,.aggL ⟨.same _,.same _,.same _,.same _,.same _,.same _,.same _,.same _,.same _,.here _ R,.same _,.same _,.same _,.same _,.same _,.same _,.same _,.same _,.same _,.same _,.same _,trivial⟩⟩,trivial⟩ (FzH.refl _)) (A9 (Bf 3) (A2 0 [(18,T_api_Bound.vv (⟨(⟨(⟨#[114]⟩ : ByteArray),(⟨(600 : Int),(0 : Int),(0 : Int),(1 : Int),(0 : Int)⟩ : T_api_Res),([] : List T_api_Label),([] : List T_api_Label),([] : List T_api_Term),([] : List T_api_Toleration),([] : List Int),([] : List T_api_Label),false,([] : List T_api_Label),(0 : Int),(0 : Int),(⟨#[]⟩ : ByteArray),false,false,false⟩ : T_api_Pod),(⟨#[]⟩ : ByteArray)⟩ : T_api_Bound))] R ⟨⟨_,R,.aggL ⟨.same _,.same _,.same _,.same _,.same _,.same _,.same _,.same _,.same _,.same _,.here _ R,.same _,.same _,.same _,.same _,.same _,.same _,.same _,.same _,.same _,.same _,trivial⟩⟩,trivial⟩ (FzH.refl _)))))))))))))))))))))))))<|?_
 refine Ad R R<|Bi ap23 R R R R R fun b2=>Bn (A2 0 [(19,L50 [(⟨(⟨(⟨#[112]⟩ : ByteArray),(⟨(600 : Int),(0 : Int),(0 : Int),(1 : Int),(0 : Int)⟩ : T_api_Res),([] : List T_api_Label),([] : List T_api_Label),([] : List T_api_Term),([] : List T_api_Toleration),([] : List Int),([] : List T_api_Label),false,([] : List T_api_Label),(0 : Int),(0 : Int),(⟨#[]⟩ : ByteArray),false,false,false⟩ : T_api_Pod),(⟨#[]⟩ : ByteArray)⟩ : T_api_Bound),(⟨(⟨(⟨#[113]⟩ : ByteArray),(⟨(600 : Int),(0 : Int),(0 : Int),(1 : Int),(0 : Int)⟩ : T_api_Res),([] : List T_api_Label),([] : List T_api_Label),([] : List T_api_Term),([] : List T_api_Toleration),([] : List Int),([] : List T_api_Label),false,([] : List T_api_Label),(0 : Int),(5 : Int),(⟨#[]⟩ : ByteArray),false,false,false⟩ : T_api_Pod),(⟨#[]⟩ : ByteArray)⟩ : T_api_Bound),(⟨(⟨(⟨#[114]⟩ : ByteArray),(⟨(600 : Int),(0 : Int),(0 : Int),(1 : Int),(0 : Int)⟩ : T_api_Res),([] : List T_api_Label),([] : List T_api_Label),([] : List T_api_Term),([] : List T_api_Toleration),([] : List Int),([] : List T_api_Label),false,([] : List T_api_Label),(0 : Int),(0 : Int),(⟨#[]⟩ : ByteArray),false,false,false⟩ : T_api_Pod),(⟨#[]⟩ : ByteArray)⟩ : T_api_Bound)])] R ⟨⟨_,R,.here _ R⟩,trivial⟩ (FzH.refl _))<|Ab R R (Ai R)<|Ac<|Ah<|Aa tbk [] 2 R R<|Bd hm fun r h3 hm=>Ad R R<|VO.callK 0 R fn26 R (K101 [(⟨(⟨#[109]⟩ : ByteArray),(⟨#[]⟩ : ByteArray),(⟨(1000 : Int),(0 : Int),(0 : Int),(9 : Int),(0 : Int)⟩ : T_api_Res),([] : List T_api_Label),([] : List T_api_Taint),true⟩ : T_api_Machine),(⟨(⟨#[110]⟩ : ByteArray),(⟨#[]⟩ : ByteArray),(⟨(1000 : Int),(0 : Int),(0 : Int),(9 : Int),(0 : Int)⟩ : T_api_Res),([] : List T_api_Label),([] : List T_api_Taint),true⟩ : T_api_Machine)] [(⟨(⟨(⟨#[112]⟩ : ByteArray),(⟨(600 : Int),(0 : Int),(0 : Int),(1 : Int),(0 : Int)⟩ : T_api_Res),([] : List T_api_Label),([] : List T_api_Label),([] : List T_api_Term),([] : List T_api_Toleration),([] : List Int),([] : List T_api_Label),false,([] : List T_api_Label),(0 : Int),(0 : Int),(⟨#[]⟩ : ByteArray),false,false,false⟩ : T_api_Pod),(⟨#[]⟩ : ByteArray)⟩ : T_api_Bound),(⟨(⟨(⟨#[113]⟩ : ByteArray),(⟨(600 : Int),(0 : Int),(0 : Int),(1 : Int),(0 : Int)⟩ : T_api_Res),([] : List T_api_Label),([] : List T_api_Label),([] : List T_api_Term),([] : List T_api_Toleration),([] : List Int),([] : List T_api_Label),false,([] : List T_api_Label),(0 : Int),(5 : Int),(⟨#[]⟩ : ByteArray),false,false,false⟩ : T_api_Pod),(⟨#[]⟩ : ByteArray)⟩ : T_api_Bound),(⟨(⟨(⟨#[114]⟩ : ByteArray),(⟨(600 : Int),(0 : Int),(0 : Int),(1 : Int),(0 : Int)⟩ : T_api_Res),([] : List T_api_Label),([] : List T_api_Label),([] : List T_api_Term),([] : List T_api_Toleration),([] : List Int),([] : List T_api_Label),false,([] : List T_api_Label),(0 : Int),(0 : Int),(⟨#[]⟩ : ByteArray),false,false,false⟩ : T_api_Pod),(⟨#[]⟩ : ByteArray)⟩ : T_api_Bound)] r h3) fun _ _ h71=> ?_
 obtain ⟨ob,cap,ob2,cap2,rfl,rfl⟩:=h71
 refine Aa tbk [] 5 R R<|Ac<|Ae<|Cp (A2 1 [(25,L53 r.2),(4,L53 r.2)] R ⟨⟨_,R,.here _ R⟩,⟨_,R,.here _ R⟩,trivial⟩ (FzH.refl _))<|Cp (A2 0 [(24,L50 r.1),(3,L50 r.1)] R ⟨⟨_,R,.here _ R⟩,⟨_,R,.here _ R⟩,trivial⟩ (FzH.refl _))<|Bp<|Ab R R (Ak R)<|Ad R R<|Am hm 0 R fn28 R (K37 _) fun r7 hm=>Ad R R<|Bi ap41 R R R R R fun b13=>Bn (A2 0 [(28,L3 [(1 : Int),(0 : Int),(2 : Int)])] R ⟨⟨_,R,.here _ R⟩,trivial⟩ (FzH.refl _))<|Ad R R<|Am hm 0 R fn17 R (K102 _ _) fun r8 hm=>Ab R R (Ak R)<|Cw 4 34 30 R (fun h49 K' J=>Bg R R R R R (Ak R)<|Bg R R R R R (Aw T_api_Bound.vv R Bl)<|Aa tbk [] 2 R R<|J 3 R R R) (fun K' J=>Aa tbk [] 4 R R<|J 3 R R R)<|Ab R R (Ak R)<|Bc hm 6 41 35 R (fun _ K' h50 J hm=>Bg R R R R R (Ak R)<|Bd hm fun x8 h51 hm=>Bg R R R R R (A0 T_api_Bound.vv R R el23 h51)<|Aa tbk [] 4 R R<|J 5 R R (Bj hm)) (fun _ K' h50 J hm=>Aa tbk [] 6 R R<|J 5 R R (Bj hm)) fun c8 hm=>Ab R R (Ak R)<|Bc hm 6 48 42 R (fun _ K' h53 J hm=>Bg R R R R R (Ak R)<|Bd hm fun x9 h54 hm=>Bg R R R R R (A0 T_api_Bound.vv R R el23 h54)<|Aa tbk [] 4 R R<|J 5 R R (Bj hm)) (fun _ K' h53 J hm=>Aa tbk [] 6 R R<|J 5 R R (Bj hm)) fun c9 hm=>Ab R R (Ak R)<|Bc hm 6 55 49 R (fun _ K' h56 J hm=>Bg R R R R R (Ak R)<|Bd hm fun x10 h57 hm=>Bg R R R R R (A0 T_api_Bound.vv R R el23 h57)<|Aa tbk [] 4 R R<|J 5 R R (Bj hm)) (fun _ K' h56 J hm=>Aa tbk [] 6 R R<|J 5 R R (Bj hm)) fun c10 hm=>Ab R R (Ak R)<|Bc hm 6 62 56 R (fun _ K' h59 J hm=>Bg R R R R R (Ak R)<|Bg R R R R R (Bm pl53 R R)<|Bg R R R R R (Bm pl53 R R)<|A7 R R R R R<|Bi ap35 R R R R R fun b14=>Bn (A2 0 [(60,L53 [(⟨(⟨#[113]⟩ : ByteArray),(⟨#[109]⟩ : ByteArray)⟩ : T_api_Move),(⟨(⟨#[112]⟩ : ByteArray),(⟨#[110]⟩ : ByteArray)⟩ : T_api_Move)])] R ⟨⟨_,R,.here _ R⟩,trivial⟩ (FzH.refl _))<|A7 R R R R R<|Am hm 0 R fn16 R (K103 _ _) fun r9 hm=>Ab R R (Bb true R R R)<|J 6 R R (Bj hm)) (fun _ K' h59 J hm=>Aa tbk [] 6 R R<|J 5 R R (Bj hm)) fun c11 hm=>Ab R R (Ak R)<|Bc hm 9 72 63 R (fun _ K' h63 J hm=>Aa tbk [] 3 R R<|Bd hm fun x11 h64 hm=>Bg R R R R R (A0 T_api_Bound.vv R R el23 h64)<|Aa tbk [] 2 R R<|A7 R R R R R<|Am hm 0 R fn33 R (K100 _ _ _) fun r10 hm=>Aa tbk [] 2 R R<|J 8 R R (Bj hm)) (fun _ K' h63 J hm=>Aa tbk [] 9 R R<|J 8 R R (Bj hm)) fun c12 hm=>Ab R R (Ak R)<|?_
 exact Bc hm 8 81 73 R (fun _ K' h67 J hm=>Aa tbk [] 2 R R<|Bd hm fun x12 h68 hm=>Bg R R R R R (A0 T_api_Bound.vv R R el23 h68)<|Aa tbk [] 2 R R<|A7 R R R R R<|VO.cn hm 0 [.same,.nil 50,.same] R fn33 R (K100 _ _ _) fun r11 hm=>Aa tbk [] 2 R R<|J 7 R R (Bj hm)) (fun _ K' h67 J hm=>Aa tbk [] 8 R R<|J 7 R R (Bj hm)) fun c13 hm=>Ab R R (Ai R)<|Ac<|Rt1 hm R [] R R R

/-! trireme/triremeref14.Order -/
def ref14_Order.l2 (bs : List T_api_Bound) (out2 : List Int) (i2 : Int) : Nat → Int → (List Int) → Option (Int × List Int)
 | 0, _, _ => none
 | n2 + 1, k2, next2 =>
  (if (decide (k2 < (out2.length : Int))) = true then (V.gl out2 k2).bind fun x2 =>
  (V.gl bs x2).bind fun x3 =>
  (V.gl bs i2).bind fun x4 =>
  some (decide (x3.Pod.Rank ≥ x4.Pod.Rank)) else some false).bind fun c =>
  if c = true then
   (V.gl out2 k2).bind fun x5 =>
   (V.ap 8 next2 [x5]).bind fun next4 =>
   ref14_Order.l2 bs out2 i2 n2 (i64.wrap (k2 + 1)) next4
  else
   some (k2, next2)
def ref14_Order.l1 (bs : List T_api_Bound) : Nat → (List Int) → Int → Option (List Int)
 | 0, _, _ => none
 | n + 1, out2, i2 =>
  if (decide (i2 < (bs.length : Int))) = true then
   (V.gl bs i2).bind fun x =>
   if (!(V.seq x.On (⟨#[]⟩ : ByteArray))) = true then
    ref14_Order.l1 bs n out2 (i64.wrap (i2 + 1))
   else
    (ref14_Order.l2 bs out2 i2 FU 0 ([] : List Int)).bind fun j =>
    (V.ap 8 j.2 [i2]).bind fun next5 =>
    (V.sl out2 (some j.1) none).bind fun v =>
    (V.ap 8 next5 v).bind fun next6 =>
    ref14_Order.l1 bs n next6 (i64.wrap (i2 + 1))
  else
   some out2
def ref14_Order (bs : List T_api_Bound) : Option (List Int) :=
 (ref14_Order.l1 bs FU ([] : List Int) (0 : Int)).bind fun out32 =>
 some out32
theorem K105 (bs : List T_api_Bound) : VS2 Tryz.prog 29 (ref14_Order bs) [L50 bs] [] (fun r ob0 cap0=>Z3 ob0 r cap0) (fun r ob0 cap0=>[Q3 ob0 cap0 r]) := by
 refine Ci [.tmp 2] Tryz.func29 R R R fun r hm=>?_
 unfold ref14_Order at hm
 refine Ag tbk [] R R<|Ag tbk [] R R<|Ae<|Ag tbk [] R R<|Bz hm (fun out32 (gg:Option Nat × Nat)=>[(3,Z3 gg.1 out32 gg.2)]) (fun out32 (gg:Option Nat × Nat)=>[Q3 gg.1 gg.2 out32]) (fun o hm=>?_) fun out32=>Pq fun ob3 cap3 hm=> ?_
 ·refine Bo (fun zn (zs:List Int × Int)=>ref14_Order.l1 bs zn zs.1 zs.2) (fun zs (zg:Option Nat × Nat)=>[(0,L50 bs),(3,Z3 zg.1 zs.1 zg.2),(4,Iw zs.2)]) (fun zs (zg:Option Nat × Nat)=>[Q3 zg.1 zg.2 zs.1]) (([] : List Int),(0 : Int)) (none,0) (fun _=>R) hm (A9 (Bf 3) (Af [0] R R)) fun n=>Pq fun out2 i2=>Pq fun ob2 cap2 hm=> ?_
  rw [ref14_Order.l1] at hm
  refine Ae<|Ah<|Aa tbk [] 2 R R<|Ab R R (Aw T_api_Bound.vv R Bl)<|Ab R R (A6 R R R)<|Ac<|Al hm R (fun h5 hm=>?_) fun h5 hm=> ?_
  ·refine Aj<|Ae<|Ay<|Ae<|Ah<|Aa tbk [] 2 R R<|Bd hm fun x h6 hm=>Ab R R (A0 T_api_Bound.vv R R el23 h6)<|Aa tbk [] 3 R R<|Ac<|Al hm R (fun h7 hm=>A3<|A5 tbk [] R R<|Ap (out2,(IntKind.i64.wrap (i2 + (1 : Int)))) (ob2,cap2) hm (Af [0] R R)) fun h7 hm=>Aj<|Ag tbk [] R R<|Ag tbk [] R R<|Cx hm (fun j (gg:Option Nat × Option Nat × Nat)=>[(0,L50 bs),(3,Z3 gg.1 out2 cap2),(4,Iw i2),(5,Iw j.1),(6,Z3 gg.2.1 j.2 gg.2.2)]) (fun j (gg:Option Nat × Option Nat × Nat)=>[Q3 gg.2.1 gg.2.2 j.2,Q3 gg.1 cap2 out2]) (fun o2 hm=>?_) fun j=>Pq fun ob8=>Pq fun ob9 cap6 hm=> ?_
   ·refine Bo (fun zn (zs:Int × List Int)=>ref14_Order.l2 bs out2 i2 zn zs.1 zs.2) (fun zs (zg:Option Nat × Option Nat × Nat)=>[(0,L50 bs),(3,Z3 zg.1 out2 cap2),(4,Iw i2),(5,Iw zs.1),(6,Z3 zg.2.1 zs.2 zg.2.2)]) (fun zs (zg:Option Nat × Option Nat × Nat)=>[Q3 zg.2.1 zg.2.2 zs.2,Q3 zg.1 cap2 out2]) ((0 : Int),([] : List Int)) (ob2,none,0) (fun _=>R) hm (A9 (Bf 3) (Af [0,0] R R)) fun n2=>Pq fun k2 next2=>Pq fun ob6=>Pq fun ob7 cap5 hm=> ?_
    rw [ref14_Order.l2] at hm
    refine Ae<|Ae<|Ba 0 mixed<|Av tbk [0,1] [] (by kernel_rfl) R R R<|Ax 2 R R R (by kernel_rfl) (VP.lenRT (VV.int .i64) R Bq)<|Av tbk [3,4] [] (by kernel_rfl) R R R<|Cq hm [21,20,19,18,17,16,15,14,13,12,11,10,9,8,7,6,5,4,3,2,1,0] 40 23 R (fun _ K' h12 J hm=>?_) (fun _ K' h12 J hm=>Av tbk [5,6,7,8,9,10,11,12,13,14,15,16,17,18,19,20,21] [] (by kernel_rfl) R R R<|J 16 R R (Bj hm)) fun c hm=> ?_
    ·refine Av tbk [5,6,7] [] (by kernel_rfl) R R R<|Bd hm fun x2 h13 hm=>VA.someRow 1 R (gl_pos (VV.int .i64) h13) fun b h14=> ?_
     subst h14
     exact B8 8 R R R R R R (by kernel_rfl) (Cs (VV.int .i64) R R el41 h13)<|B8 9 R R R R R R (by kernel_rfl) (Cr (i:=1) (y:=(VV.int .i64) x2) R R R (gl_map _ (gl_some h13).2) ld3 R)<|Bd hm fun x3 h15 hm=>B8 10 R R R R R R (by kernel_rfl) (A0 T_api_Bound.vv R R el23 h15)<|Av tbk [11,12,13,14,15] [] (by kernel_rfl) R R R<|Bd hm fun x4 h16 hm=>B8 16 R R R R R R (by kernel_rfl) (A0 T_api_Bound.vv R R el23 h16)<|Av tbk [17,18,19,20,21] [] (by kernel_rfl) R R R<|J 16 R R (Bj hm)
    refine A4 (by kernel_rfl)<|Al hm R (fun h18 hm=>?_) fun h18 hm=> ?_
    ·refine Aj<|Ay<|Ah<|Aa tbk [] 3 R R<|Bd hm fun x5 h19 hm=>Cm 1 R (gl_pos (VV.int .i64) h19) fun b2 h20=> ?_
     subst h20
     exact Ab R R (Cs (VV.int .i64) R R el41 h19)<|Ab R R (Cr (i:=1) (y:=(VV.int .i64) x5) R R R (gl_map _ (gl_some h19).2) ld3 R)<|Ad R R<|Bi ap41 R R R R R fun b3=>Bd hm fun next4 h22 hm=>Ad R R<|B5 1 (VV.int .i64) (l:=next2) (l2:=[x5]) ap41 R R (sT_row 0 (VV.int .i64) el41 R R) h22 fun ob10 cap7=>Ab R R (Ai R)<|Ac<|A5 tbk [] R R<|Ap ((IntKind.i64.wrap (k2 + (1 : Int))),next4) ((some b2),ob10,cap7) hm (Af [1,1] R R)
    exact A3<|As (ob6,ob7,cap5) hm (Af [0,0] R R)
   exact Ah<|Aa tbk [] 2 R R<|Ad R R<|Bi ap41 R R R R R fun b4=>Bd hm fun next5 h25 hm=>Ad R R<|B5 1 (VV.int .i64) (l:=j.2) (l2:=[i2]) ap41 R R (sT_row 0 (VV.int .i64) el41 R R) h25 fun ob11 cap8=>Ab R R (Ai R)<|Ac<|Bp<|Aa tbk [] 3 R R<|Bn (A2 2 [(3,L3 out2),(55,L3 out2)] R ⟨⟨_,R,.here _ R⟩,⟨_,R,.here _ R⟩,trivial⟩ (FzH.refl _))<|Bd hm fun v h26 hm=>Ab R R (C3 R R R el41 h26)<|Bd hm fun next6 h27 hm=>Ad R R<|B5 1 (VV.int .i64) (l:=next5) (l2:=v) ap41 R R (sT_list (VV.int .i64) el41 R R) h27 fun ob12 cap9=>Ab R R (Ai R)<|Ac<|A5 tbk [] R R<|Ap (next6,(IntKind.i64.wrap (i2 + (1 : Int)))) (ob12,cap9) hm (Af [1] R R)
  exact A3<|As (ob2,cap2) hm (Af [0] R R)
 exact Ag tbk [] R R<|Rg2 hm R [0] ob3 cap3 (.cons (.tmp _ _ R) .nil) R R

/-! trireme/triremeref05.Get -/
def ref05_Get.l1 (l : List T_api_Label) (key : ByteArray) : Nat → Int → Option (Out (ByteArray × Bool) Unit)
 | 0, _ => none
 | n + 1, i2 =>
  if (decide (i2 < (l.length : Int))) = true then
   (V.gl l i2).bind fun x =>
   if (V.seq x.Key key) = true then
    (V.gl l i2).bind fun x2 =>
    some (Out.ret (x2.Val, true))
   else
    ref05_Get.l1 l key n (i64.wrap (i2 + 1))
  else
   some (Out.go ())
def ref05_Get (l : List T_api_Label) (key : ByteArray) : Option (ByteArray × Bool) :=
 (ref05_Get.l1 l key FU (0 : Int)).bind fun o =>
 o.on fun j =>
 some ((⟨#[]⟩ : ByteArray), false)
theorem K106 (l : List T_api_Label) (key : ByteArray) : VS Tryz.prog 163 (ref05_Get l key) [L124 l, .str key] [] (fun r=>.tup [.str r.1, .bool r.2]) N0 := by
 refine Az [.tmp 4,.tmp 5] Tryz.func163 R R R fun r hm=>?_
 unfold ref05_Get at hm
 refine Ag tbk [] R R<|Ae<|Ag tbk [] R R<|Bs hm (fun _ (_:Unit)=>[]) (fun _ (_:Unit)=>[]) (fun o hm h2=>?_) fun j _ hm=> ?_
 ·refine Bo (fun zn (zs:Int)=>ref05_Get.l1 l key zn zs) (fun zs (_:Unit)=>[(0,L124 l),(1,.str key),(6,Iw zs)]) (fun _ (_:Unit)=>[]) _ () (fun _=>R) hm (Af [] R R) fun n i2 _ hm=> ?_
  rw [ref05_Get.l1] at hm
  exact Ae<|Ah<|Aa tbk [] 2 R R<|Ab R R (Aw T_api_Label.vv R Bk)<|Ab R R (A6 R R R)<|Ac<|Al hm R (fun h3 hm=>Aj<|Ae<|Ay<|Ah<|Aa tbk [] 2 R R<|Bd hm fun x h4 hm=>Ab R R (A0 T_api_Label.vv R R el27 h4)<|Aa tbk [] 4 R R<|Ac<|Al hm R (fun h5 hm=>Ah<|Aa tbk [] 2 R R<|Bd hm fun x2 h6 hm=>Ab R R (A0 T_api_Label.vv R R el27 h6)<|Aa tbk [] 4 R R<|Ac<|have hm:=Lr hm h2;Rt2 hm R [] R R R R) fun h5 hm=>Aj<|A5 tbk [] R R<|Ap _ () hm (Af [] R R)) fun h3 hm=>A3<|Ar () hm (Af [] R R)
 exact Ag tbk [] R R<|Rt2 hm R [] R R R R

/-! trireme/triremeref05.Has -/
def ref05_Has.l1 (l : List T_api_Label) (some_ : List T_api_Label) : Nat → Int → Option (Out Bool Unit)
 | 0, _ => none
 | n + 1, i2 =>
  if (decide (i2 < (some_.length : Int))) = true then
   (V.gl some_ i2).bind fun x =>
   (ref05_Get l x.Key).bind fun r =>
   (if (!r.2) = true then some true else (V.gl some_ i2).bind fun x2 =>
   some (!(V.seq r.1 x2.Val))).bind fun c =>
   if c = true then
    some (Out.ret false)
   else
    ref05_Has.l1 l some_ n (i64.wrap (i2 + 1))
  else
   some (Out.go ())
def ref05_Has (l : List T_api_Label) (some_ : List T_api_Label) : Option Bool :=
 (ref05_Has.l1 l some_ FU (0 : Int)).bind fun o =>
 o.on fun j =>
 some true
theorem K107 (l : List T_api_Label) (some_ : List T_api_Label) : VS Tryz.prog 143 (ref05_Has l some_) [L124 l, L124 some_] [] .bool N0 := by
 refine Az [.tmp 4] Tryz.func143 R R R fun r hm=>?_
 unfold ref05_Has at hm
 refine Ag tbk [] R R<|Ae<|Ag tbk [] R R<|Bs hm (fun _ (_:Unit)=>[]) (fun _ (_:Unit)=>[]) (fun o hm h2=>?_) fun j _ hm=> ?_
 ·refine Bo (fun zn (zs:Int)=>ref05_Has.l1 l some_ zn zs) (fun zs (_:Unit)=>[(0,L124 l),(1,L124 some_),(5,Iw zs)]) (fun _ (_:Unit)=>[]) _ () (fun _=>R) hm (Af [] R R) fun n i2 _ hm=> ?_
  rw [ref05_Has.l1] at hm
  exact Ae<|Ah<|Aa tbk [] 2 R R<|Ab R R (Aw T_api_Label.vv R Bk)<|Ab R R (A6 R R R)<|Ac<|Al hm R (fun h3 hm=>Aj<|Ae<|Ay<|Ah<|Aa tbk [] 3 R R<|Bd hm fun x h4 hm=>Ab R R (A0 T_api_Label.vv R R el27 h4)<|Aa tbk [] 2 R R<|Ad R R<|Am hm 0 R fn163 R (K106 _ _) fun r hm=>Aa tbk [] 5 R R<|Ac<|Ah<|Aa tbk [] 3 R R<|Bc hm 8 34 26 R (fun _ K' h6 J hm=>Aa tbk [] 8 R R<|J 7 R R (Bj hm)) (fun _ K' h6 J hm=>Aa tbk [] 3 R R<|Bd hm fun x2 h7 hm=>Bg R R R R R (A0 T_api_Label.vv R R el27 h7)<|Aa tbk [] 4 R R<|J 7 R R (Bj hm)) fun c hm=>Ac<|Al hm R (fun h9 hm=>Ag tbk [] R R<|have hm:=Lr hm h2;Rt1 hm R [] R R R) fun h9 hm=>Aj<|A5 tbk [] R R<|Ap _ () hm (Af [] R R)) fun h3 hm=>A3<|Ar () hm (Af [] R R)
 exact Ag tbk [] R R<|Rt1 hm R [] R R R

/-! trireme/triremeref05.Meets -/
def ref05_Meets.l1 (t : T_api_Term) (r : ByteArray × Bool) : Nat → Bool → Int → Option Bool
 | 0, _, _ => none
 | n + 1, in_2, i2 =>
  if (decide (i2 < (t.Vals.length : Int))) = true then
   (if in_2 = true then some true else (if r.2 = true then (V.gl t.Vals i2).bind fun x =>
   some (V.seq x r.1) else some false).bind fun c =>
   some c).bind fun c2 =>
   ref05_Meets.l1 t r n c2 (i64.wrap (i2 + 1))
  else
   some in_2
def ref05_Meets (l : List T_api_Label) (t : T_api_Term) : Option Bool :=
 (ref05_Get l t.Key).bind fun r =>
 (ref05_Meets.l1 t r FU false (0 : Int)).bind fun in_32 =>
 if (t.Op == 1) = true then
  some in_32
 else
  if (t.Op == 2) = true then
   some (!in_32)
  else
   if (t.Op == 3) = true then
    some r.2
   else
    if (t.Op == 4) = true then
     some (!r.2)
    else
     (ref03_Number r.1).bind fun r2 =>
     (V.gl t.Vals (0 : Int)).bind fun x2 =>
     (ref03_Number x2).bind fun r3 =>
     if ((!r.2) || (r2.2 != 0)) = true then
      some false
     else
      if (t.Op == 5) = true then
       some (decide (r2.1 > r3.1))
      else
       some (decide (r2.1 < r3.1))
theorem K108 (l : List T_api_Label) (t : T_api_Term) : VS Tryz.prog 164 (ref05_Meets l t) [L124 l, T_api_Term.vv t] [] .bool N0 := by
 refine Az [.tmp 4] Tryz.func164 R R R fun r hm=>?_
 unfold ref05_Meets at hm
 refine Ah<|Ad R R<|A8 R R fun b=>Ab R R (Ai R)<|Ac<|Ah<|Aa tbk [0] 3 R R<|Ad R R<|Am hm 0 R fn163 R (K106 _ _) fun r hm=>Aa tbk [] 5 R R<|Ac<|Ag tbk [] R R<|Ae<|Ag tbk [] R R<|Bz hm (fun in_32 (_:Unit)=>[(3,.ptr b 0),(5,.str r.1),(6,.bool r.2),(7,.bool in_32)]) (fun _ (_:Unit)=>[X103 b t]) (fun o hm=>?_) fun in_32 _ hm=> ?_
 ·refine Bo (fun zn (zs:Bool × Int)=>ref05_Meets.l1 t r zn zs.1 zs.2) (fun zs (_:Unit)=>[(3,.ptr b 0),(5,.str r.1),(6,.bool r.2),(7,.bool zs.1),(8,Iw zs.2)]) (fun _ (_:Unit)=>[X103 b t]) (false,(0 : Int)) () (fun _=>R) hm (Af [0] R R) fun n=>Pq fun in_2 i2 _ hm=> ?_
  rw [ref05_Meets.l1] at hm
  exact Ae<|Ah<|Aa tbk [0] 3 R R<|Ab R R (Aw VV.str R Bt)<|Ab R R (A6 R R R)<|Ac<|Al hm R (fun h5 hm=>Aj<|Ae<|Ay<|Bp<|Aa tbk [] 2 R R<|Bc hm 11 39 28 R (fun _ K' h6 J hm=>Aa tbk [] 11 R R<|J 10 R R (Bj hm)) (fun _ K' h6 J hm=>Aa tbk [] 2 R R<|Bc hm 8 38 30 R (fun _ K' h7 J hm=>Aa tbk [0] 3 R R<|Bd hm fun x h8 hm=>Bg R R R R R (A0 VV.str R R el51 h8)<|Aa tbk [] 4 R R<|J 7 R R (Bj hm)) (fun _ K' h7 J hm=>Aa tbk [] 8 R R<|J 7 R R (Bj hm)) fun c hm=>Ab R R (Bb false R R R)<|J 3 R R (Bj hm)) fun c2 hm=>Ab R R (Ai R)<|Ac<|A5 tbk [] R R<|Ap (c2,(IntKind.i64.wrap (i2 + (1 : Int)))) () hm (Af [0] R R)) fun h5 hm=>A3<|As () hm (Af [0] R R)
 exact Ae<|Ag tbk [0] R R<|Ay<|Ag tbk [] R R<|Al hm R (fun h11 hm=>Ag tbk [] R R<|Rt1 hm R [] R R R) fun h11 hm=>Ag tbk [] R R<|Al hm R (fun h12 hm=>Ag tbk [] R R<|Rt1 hm R [] R R R) fun h12 hm=>Ag tbk [] R R<|Al hm R (fun h13 hm=>Ag tbk [] R R<|Rt1 hm R [] R R R) fun h13 hm=>Ag tbk [] R R<|Al hm R (fun h14 hm=>Ag tbk [] R R<|Rt1 hm R [] R R R) fun h14 hm=>Aj<|Ah<|Ab R R (Ak R)<|Ad R R<|Am hm 0 R fn104 R (K27 _) fun r2 hm=>Aa tbk [] 5 R R<|Ac<|Ah<|Aa tbk [0] 2 R R<|Bd hm fun x2 h16 hm=>Ab R R (A0 VV.str R R el51 h16)<|Ab R R (Bh R ld9 R)<|Ad R R<|Am hm 0 R fn104 R (K27 _) fun r3 hm=>Aa tbk [] 5 R R<|Ac<|Ae<|Ah<|Aa tbk [] 3 R R<|Ce tbk [] 3 74 71 R R R R R<|Ac<|Al hm R (fun h19 hm=>Ag tbk [] R R<|Rt1 hm R [] R R R) fun h19 hm=>Aj<|Ae<|Ag tbk [0] R R<|Al hm R (fun h20 hm=>Ag tbk [] R R<|Rt1 hm R [] R R R) fun h20 hm=>Aj<|Ag tbk [] R R<|Rt1 hm R [] R R R

/-! trireme/triremeref05.All -/
def ref05_All.l1 (l : List T_api_Label) (terms : List T_api_Term) : Nat → Int → Option (Out Bool Unit)
 | 0, _ => none
 | n + 1, i2 =>
  if (decide (i2 < (terms.length : Int))) = true then
   (V.gl terms i2).bind fun x =>
   (ref05_Meets l x).bind fun r =>
   if (!r) = true then
    some (Out.ret false)
   else
    ref05_All.l1 l terms n (i64.wrap (i2 + 1))
  else
   some (Out.go ())
def ref05_All (l : List T_api_Label) (terms : List T_api_Term) : Option Bool :=
 (ref05_All.l1 l terms FU (0 : Int)).bind fun o =>
 o.on fun j =>
 some true
theorem K109 (l : List T_api_Label) (terms : List T_api_Term) : VS Tryz.prog 144 (ref05_All l terms) [L124 l, L103 terms] [] .bool N0 := by
 refine Az [.tmp 4] Tryz.func144 R R R fun r hm=>?_
 unfold ref05_All at hm
 refine Ag tbk [] R R<|Ae<|Ag tbk [] R R<|Bs hm (fun _ (_:Unit)=>[]) (fun _ (_:Unit)=>[]) (fun o hm h2=>?_) fun j _ hm=> ?_
 ·refine Bo (fun zn (zs:Int)=>ref05_All.l1 l terms zn zs) (fun zs (_:Unit)=>[(0,L124 l),(1,L103 terms),(5,Iw zs)]) (fun _ (_:Unit)=>[]) _ () (fun _=>R) hm (Af [] R R) fun n i2 _ hm=> ?_
  rw [ref05_All.l1] at hm
  exact Ae<|Ah<|Aa tbk [] 2 R R<|Ab R R (Aw T_api_Term.vv R B6)<|Ab R R (A6 R R R)<|Ac<|Al hm R (fun h3 hm=>Aj<|Ae<|Ay<|Ah<|Aa tbk [] 3 R R<|Bd hm fun x h4 hm=>Ab R R (A0 T_api_Term.vv R R el45 h4)<|Ab R R (Bh R ld103 R)<|Ad R R<|Am hm 0 R fn164 R (K108 _ _) fun r hm=>Ab R R (Cf R)<|Ac<|Al hm R (fun h6 hm=>Ag tbk [] R R<|have hm:=Lr hm h2;Rt1 hm R [] R R R) fun h6 hm=>Aj<|A5 tbk [] R R<|Ap _ () hm (Af [] R R)) fun h3 hm=>A3<|Ar () hm (Af [] R R)
 exact Ag tbk [] R R<|Rt1 hm R [] R R R

/-! trireme/triremeref06.Bears -/
def ref06_Bears (t : T_api_Toleration) (x : T_api_Taint) : Option Bool :=
 some ((((t.Effect == 0) || (t.Effect == x.Effect)) && ((V.seq t.Key (⟨#[]⟩ : ByteArray)) || (V.seq t.Key x.Key))) && (t.Any || (V.seq t.Val x.Val)))
theorem K110 (t : T_api_Toleration) (x : T_api_Taint) : VS Tryz.prog 184 (ref06_Bears t x) [T_api_Toleration.vv t, T_api_Taint.vv x] [] .bool N0 := by
 refine Az [.tmp 4] Tryz.func184 R R R fun r hm=>?_
 unfold ref06_Bears at hm
 exact Ah<|Ad R R<|A8 R R fun b=>Ad R R<|A8 R R fun b2=>Ab R R (Ai R)<|Ac<|Ah<|Aa tbk [1] 4 R R<|Ce tbk [1,0] 6 14 8 R R R R R<|Ab R R (Ak R)<|Cw 11 26 15 R (fun h4 K' J=>Aa tbk [1] 4 R R<|Ce tbk [1,0] 6 25 19 R R R R R<|Ab R R (Bb true R R R)<|J 5 R R R) (fun K' J=>Aa tbk [] 11 R R<|J 10 R R R)<|Ab R R (Ak R)<|Cw 10 37 27 R (fun h6 K' J=>Aa tbk [1] 3 R R<|Ce tbk [1,0] 6 36 30 R R R R R<|Ab R R (Bb true R R R)<|J 4 R R R) (fun K' J=>Aa tbk [] 10 R R<|J 9 R R R)<|Ab R R (Ai R)<|Ac<|Rt1 hm R [] R R R

/-! trireme/triremeref06.Unborne -/
def ref06_Unborne.l2 (l : List T_api_Toleration) (taints : List T_api_Taint) (i2 : Int) : Nat → Bool → Int → Option Bool
 | 0, _, _ => none
 | n2 + 1, borne2, k2 =>
  if (decide (k2 < (l.length : Int))) = true then
   (if borne2 = true then some true else (V.gl l k2).bind fun x2 =>
   (V.gl taints i2).bind fun x3 =>
   (ref06_Bears x2 x3).bind fun r =>
   some r).bind fun c2 =>
   ref06_Unborne.l2 l taints i2 n2 c2 (i64.wrap (k2 + 1))
  else
   some borne2
def ref06_Unborne.l1 (l : List T_api_Toleration) (taints : List T_api_Taint) (effect : Int) : Nat → (List T_api_Taint) → Int → Option (List T_api_Taint)
 | 0, _, _ => none
 | n + 1, out2, i2 =>
  if (decide (i2 < (taints.length : Int))) = true then
   (if (effect != 0) = true then (V.gl taints i2).bind fun x =>
   some (x.Effect != effect) else some false).bind fun c =>
   (ref06_Unborne.l2 l taints i2 FU c (0 : Int)).bind fun borne32 =>
   if (!borne32) = true then
    (V.gl taints i2).bind fun x4 =>
    (V.ap 40 out2 [x4]).bind fun out4 =>
    ref06_Unborne.l1 l taints effect n out4 (i64.wrap (i2 + 1))
   else
    ref06_Unborne.l1 l taints effect n out2 (i64.wrap (i2 + 1))
  else
   some out2
def ref06_Unborne (l : List T_api_Toleration) (taints : List T_api_Taint) (effect : Int) : Option (List T_api_Taint) :=
 (ref06_Unborne.l1 l taints effect FU ([] : List T_api_Taint) (0 : Int)).bind fun out32 =>
 some out32
theorem K111 (l : List T_api_Toleration) (taints : List T_api_Taint) (effect : Int) : VS2 Tryz.prog 165 (ref06_Unborne l taints effect) [L128 l, L126 taints, Iw effect] [] (fun r ob0 cap0=>Z126 ob0 r cap0) (fun r ob0 cap0=>[Q126 ob0 cap0 r]) := by
 refine Ci [.tmp 6] Tryz.func165 R R R fun r hm=>?_
 unfold ref06_Unborne at hm
 refine Ag tbk [] R R<|Ag tbk [] R R<|Ae<|Ag tbk [] R R<|Bz hm (fun out32 (gg:Option Nat × Nat)=>[(7,Z126 gg.1 out32 gg.2)]) (fun out32 (gg:Option Nat × Nat)=>[Q126 gg.1 gg.2 out32]) (fun o hm=>?_) fun out32=>Pq fun ob3 cap3 hm=> ?_
 ·refine Bo (fun zn (zs:List T_api_Taint × Int)=>ref06_Unborne.l1 l taints effect zn zs.1 zs.2) (fun zs (zg:Option Nat × Nat)=>[(0,L128 l),(1,L126 taints),(2,Iw effect),(7,Z126 zg.1 zs.1 zg.2),(8,Iw zs.2)]) (fun zs (zg:Option Nat × Nat)=>[Q126 zg.1 zg.2 zs.1]) (([] : List T_api_Taint),(0 : Int)) (none,0) (fun _=>R) hm (A9 (Bf 126) (Af [0] R R)) fun n=>Pq fun out2 i2=>Pq fun ob2 cap2 hm=> ?_
  rw [ref06_Unborne.l1] at hm
  refine Ae<|Ah<|Aa tbk [] 2 R R<|Ab R R (Aw T_api_Taint.vv R Bw)<|Ab R R (A6 R R R)<|Ac<|Al hm R (fun h5 hm=>?_) fun h5 hm=> ?_
  ·refine Aj<|Ae<|Ay<|Ah<|Aa tbk [] 3 R R<|Bc hm 8 27 19 R (fun _ K' h6 J hm=>Aa tbk [] 2 R R<|Bd hm fun x h7 hm=>Bg R R R R R (A0 T_api_Taint.vv R R el28 h7)<|Aa tbk [] 5 R R<|J 7 R R (Bj hm)) (fun _ K' h6 J hm=>Aa tbk [] 8 R R<|J 7 R R (Bj hm)) fun c hm=>Ab R R (Ai R)<|Ac<|Ae<|Ag tbk [] R R<|Bz hm (fun borne32 (_:Unit)=>[(0,L128 l),(1,L126 taints),(2,Iw effect),(7,Z126 ob2 out2 cap2),(8,Iw i2),(9,.bool borne32)]) (fun _ (_:Unit)=>[Q126 ob2 cap2 out2]) (fun o2 hm=>?_) fun borne32 _ hm=> ?_
   ·refine Bo (fun zn (zs:Bool × Int)=>ref06_Unborne.l2 l taints i2 zn zs.1 zs.2) (fun zs (_:Unit)=>[(0,L128 l),(1,L126 taints),(2,Iw effect),(7,Z126 ob2 out2 cap2),(8,Iw i2),(9,.bool zs.1),(10,Iw zs.2)]) (fun _ (_:Unit)=>[Q126 ob2 cap2 out2]) (c,(0 : Int)) () (fun _=>R) hm (Af [0] R R) fun n2=>Pq fun borne2 k2 _ hm=> ?_
    rw [ref06_Unborne.l2] at hm
    exact Ae<|Ah<|Aa tbk [] 2 R R<|Ab R R (Aw T_api_Toleration.vv R Cc)<|Ab R R (A6 R R R)<|Ac<|Al hm R (fun h11 hm=>Aj<|Ae<|Ay<|Ba 0 mixed<|Av tbk [0,1] [] (by kernel_rfl) R R R<|Cq hm [11,10,9,8,7,6,5,4,3,2,1,0] 45 35 R (fun _ K' h12 J hm=>Av tbk [2,3,4,5,6,7,8,9,10,11] [] (by kernel_rfl) R R R<|J 9 R R (Bj hm)) (fun _ K' h12 J hm=>Av tbk [2,3] [] (by kernel_rfl) R R R<|Bd hm fun x2 h13 hm=>B8 4 R R R R R R (by kernel_rfl) (A0 T_api_Toleration.vv R R el46 h13)<|Av tbk [5,6,7] [] (by kernel_rfl) R R R<|Bd hm fun x3 h14 hm=>B8 8 R R R R R R (by kernel_rfl) (A0 T_api_Taint.vv R R el28 h14)<|B8 9 R R R R R R (by kernel_rfl) (Bh R ld126 R)<|Ao 10 (by kernel_rfl)<|Cy R R R R R R<|Am hm 0 R fn184 R (K110 _ _) fun r hm=>Ax 11 R R R (by kernel_rfl) (Bb false R R R)<|J 9 R R (Bj hm)) fun c2 hm=>Ax 12 R R R (by kernel_rfl) (Ai R)<|A4 (by kernel_rfl)<|A5 tbk [] R R<|Ap (c2,(IntKind.i64.wrap (k2 + (1 : Int)))) () hm (Af [0] R R)) fun h11 hm=>A3<|As () hm (Af [0] R R)
   exact Ag tbk [] R R<|Al hm R (fun h17 hm=>Bp<|Aa tbk [] 3 R R<|Bd hm fun x4 h18 hm=>Ab R R (A0 T_api_Taint.vv R R el28 h18)<|Ab R R (Bh R ld126 R)<|Ad R R<|Bi ap28 R R R R R fun b=>Bd hm fun out4 h20 hm=>Ad R R<|B5 1 T_api_Taint.vv (l:=out2) (l2:=[x4]) ap28 R R (sT_row 0 T_api_Taint.vv el28 R R) h20 fun ob4 cap4=>Ab R R (Ai R)<|Ac<|A5 tbk [] R R<|Ap (out4,(IntKind.i64.wrap (i2 + (1 : Int)))) (ob4,cap4) hm (Af [1] R R)) fun h17 hm=>Aj<|A5 tbk [] R R<|Ap (out2,(IntKind.i64.wrap (i2 + (1 : Int)))) (ob2,cap2) hm (Af [0] R R)
  exact A3<|As (ob2,cap2) hm (Af [0] R R)
 exact Ag tbk [] R R<|Rg2 hm R [0] ob3 cap3 (.cons (.tmp _ _ R) .nil) R R

/-! trireme/triremeref06.hard -/
def ref06_hard (n : Int) : Option Bool :=
 some ((n == 1) || (n == 3))
theorem K112 (n : Int) : VS Tryz.prog 166 (ref06_hard n) [Iw n] [] .bool N0 := by
 refine Az [.tmp 2] Tryz.func166 R R R fun r hm=>?_
 unfold ref06_hard at hm
 exact Ag tbk [] R R<|Ah<|Aa tbk [] 3 R R<|Ce tbk [] 3 8 5 R R R R R<|Ab R R (Ai R)<|Ac<|Rt1 hm R [] R R R

/-! trireme/triremeref06.Allows -/
def ref06_Allows.l1 (r : List T_api_Taint) : Nat → Int → Option (Out Bool Unit)
 | 0, _ => none
 | n + 1, i2 =>
  if (decide (i2 < (r.length : Int))) = true then
   (V.gl r i2).bind fun x =>
   (ref06_hard x.Effect).bind fun r2 =>
   if r2 = true then
    some (Out.ret false)
   else
    ref06_Allows.l1 r n (i64.wrap (i2 + 1))
  else
   some (Out.go ())
def ref06_Allows (l : List T_api_Toleration) (taints : List T_api_Taint) : Option Bool :=
 (ref06_Unborne l taints (0 : Int)).bind fun r =>
 (ref06_Allows.l1 r FU (0 : Int)).bind fun o =>
 o.on fun j =>
 some true
theorem K113 (l : List T_api_Toleration) (taints : List T_api_Taint) : VS Tryz.prog 145 (ref06_Allows l taints) [L128 l, L126 taints] [] .bool N0 := by
 refine Az [.tmp 4] Tryz.func145 R R R fun r hm=>?_
 unfold ref06_Allows at hm
 refine Ag tbk [] R R<|Ah<|Aa tbk [] 2 R R<|Ad R R<|B9 hm 0 R fn165 R (K111 _ _ _) fun r ob cap hm=>Bn (A2 0 [(9,L126 r)] R ⟨⟨_,R,.here _ R⟩,trivial⟩ (FzH.refl _))<|Ab R R (Ai R)<|Ac<|Ae<|Ag tbk [] R R<|Bs hm (fun _ (_:Unit)=>[]) (fun _ (_:Unit)=>[]) (fun o hm h4=>?_) fun j _ hm=> ?_
 ·refine Bo (fun zn (zs:Int)=>ref06_Allows.l1 r zn zs) (fun zs (_:Unit)=>[(5,L126 r),(6,Iw zs)]) (fun _ (_:Unit)=>[]) _ () (fun _=>R) hm (Af [] R R) fun n i2 _ hm=> ?_
  rw [ref06_Allows.l1] at hm
  exact Ae<|Ah<|Aa tbk [] 2 R R<|Ab R R (Aw T_api_Taint.vv R Bw)<|Ab R R (A6 R R R)<|Ac<|Al hm R (fun h5 hm=>Aj<|Ae<|Ay<|Ah<|Aa tbk [] 2 R R<|Bd hm fun x h6 hm=>Ab R R (A0 T_api_Taint.vv R R el28 h6)<|Aa tbk [] 2 R R<|Ad R R<|Am hm 0 R fn166 R (K112 _) fun r2 hm=>Ac<|Al hm R (fun h8 hm=>Ag tbk [] R R<|have hm:=Lr hm h4;Rt1 hm R [] R R R) fun h8 hm=>Aj<|A5 tbk [] R R<|Ap _ () hm (Af [] R R)) fun h5 hm=>A3<|Ar () hm (Af [] R R)
 exact Ag tbk [] R R<|Rt1 hm R [] R R R

/-! trireme/triremeref10.Place -/
def ref10_Place (m : T_api_Machine) (p : T_api_Pod) : Option Int :=
 if (!m.Ready) = true then
  some 1
 else
  (ref05_Has m.Labels p.Select).bind fun r =>
  if (!r) = true then
   some 4
  else
   (ref05_All m.Labels p.Terms).bind fun r2 =>
   if (!r2) = true then
    some 5
   else
    (ref06_Allows p.Bears m.Taints).bind fun r3 =>
    if (!r3) = true then
     some 6
    else
     some 0
theorem K114 (m : T_api_Machine) (p : T_api_Pod) : VS Tryz.prog 115 (ref10_Place m p) [T_api_Machine.vv m, T_api_Pod.vv p] [] Iw N0 := by
 refine Az [.tmp 4] Tryz.func115 R R R fun r hm=>?_
 unfold ref10_Place at hm
 exact Ah<|Ad R R<|A8 R R fun b=>Ad R R<|A8 R R fun b2=>Ab R R (Ai R)<|Ac<|Ae<|Ag tbk [1] R R<|Al hm R (fun h3 hm=>Ag tbk [] R R<|Rt1 hm R [] R R R) fun h3 hm=>Aj<|Ae<|Ah<|Aa tbk [1,0] 4 R R<|Ad R R<|Am hm 0 R fn143 R (K107 _ _) fun r hm=>Ab R R (Cf R)<|Ac<|Al hm R (fun h5 hm=>Ag tbk [] R R<|Rt1 hm R [] R R R) fun h5 hm=>Aj<|Ae<|Ah<|Aa tbk [1,0] 4 R R<|Ad R R<|Am hm 0 R fn144 R (K109 _ _) fun r2 hm=>Ab R R (Cf R)<|Ac<|Al hm R (fun h7 hm=>Ag tbk [] R R<|Rt1 hm R [] R R R) fun h7 hm=>Aj<|Ae<|Ah<|Aa tbk [0,1] 4 R R<|Ad R R<|Am hm 0 R fn145 R (K113 _ _) fun r3 hm=>Ab R R (Cf R)<|Ac<|Al hm R (fun h9 hm=>Ag tbk [] R R<|Rt1 hm R [] R R R) fun h9 hm=>Aj<|Ag tbk [] R R<|Rt1 hm R [] R R R

/-! trireme/triremeref10.Others -/
def ref10_Others.l1 (bs : List T_api_Bound) (name : ByteArray) : Nat → (List T_api_Bound) → Int → Option (List T_api_Bound)
 | 0, _, _ => none
 | n + 1, out2, i2 =>
  if (decide (i2 < (bs.length : Int))) = true then
   (V.gl bs i2).bind fun x =>
   if (!(V.seq x.Pod.Name name)) = true then
    (V.gl bs i2).bind fun x2 =>
    (V.ap 288 out2 [x2]).bind fun out4 =>
    ref10_Others.l1 bs name n out4 (i64.wrap (i2 + 1))
   else
    ref10_Others.l1 bs name n out2 (i64.wrap (i2 + 1))
  else
   some out2
def ref10_Others (bs : List T_api_Bound) (name : ByteArray) : Option (List T_api_Bound) :=
 (ref10_Others.l1 bs name FU ([] : List T_api_Bound) (0 : Int)).bind fun out32 =>
 some out32
theorem K115 (bs : List T_api_Bound) (name : ByteArray) : VS2 Tryz.prog 62 (ref10_Others bs name) [L50 bs, .str name] [] (fun r ob0 cap0=>Z50 ob0 r cap0) (fun r ob0 cap0=>[Q50 ob0 cap0 r]) := by
 refine Ci [.tmp 4] Tryz.func62 R R R fun r hm=>?_
 unfold ref10_Others at hm
 refine Ag tbk [] R R<|Ag tbk [] R R<|Ae<|Ag tbk [] R R<|Bz hm (fun out32 (gg:Option Nat × Nat)=>[(5,Z50 gg.1 out32 gg.2)]) (fun out32 (gg:Option Nat × Nat)=>[Q50 gg.1 gg.2 out32]) (fun o hm=>?_) fun out32=>Pq fun ob3 cap3 hm=> ?_
 ·refine Bo (fun zn (zs:List T_api_Bound × Int)=>ref10_Others.l1 bs name zn zs.1 zs.2) (fun zs (zg:Option Nat × Nat)=>[(0,L50 bs),(1,.str name),(5,Z50 zg.1 zs.1 zg.2),(6,Iw zs.2)]) (fun zs (zg:Option Nat × Nat)=>[Q50 zg.1 zg.2 zs.1]) (([] : List T_api_Bound),(0 : Int)) (none,0) (fun _=>R) hm (A9 (Bf 50) (Af [0] R R)) fun n=>Pq fun out2 i2=>Pq fun ob2 cap2 hm=> ?_
  rw [ref10_Others.l1] at hm
  exact Ae<|Ah<|Aa tbk [] 2 R R<|Ab R R (Aw T_api_Bound.vv R Bl)<|Ab R R (A6 R R R)<|Ac<|Al hm R (fun h5 hm=>Aj<|Ae<|Ay<|Ah<|Aa tbk [] 2 R R<|Bd hm fun x h6 hm=>Ab R R (A0 T_api_Bound.vv R R el23 h6)<|Aa tbk [] 5 R R<|Ac<|Al hm R (fun h7 hm=>Bp<|Aa tbk [] 3 R R<|Bd hm fun x2 h8 hm=>Ab R R (A0 T_api_Bound.vv R R el23 h8)<|Ab R R (Bh R ld50 R)<|Ad R R<|Bi ap23 R R R R R fun b=>Bd hm fun out4 h10 hm=>Ad R R<|B5 1 T_api_Bound.vv (l:=out2) (l2:=[x2]) ap23 R R (sT_row 0 T_api_Bound.vv el23 R R) h10 fun ob4 cap4=>Ab R R (Ai R)<|Ac<|A5 tbk [] R R<|Ap (out4,(IntKind.i64.wrap (i2 + (1 : Int)))) (ob4,cap4) hm (Af [1] R R)) fun h7 hm=>Aj<|A5 tbk [] R R<|Ap (out2,(IntKind.i64.wrap (i2 + (1 : Int)))) (ob2,cap2) hm (Af [0] R R)) fun h5 hm=>A3<|As (ob2,cap2) hm (Af [0] R R)
 exact Ag tbk [] R R<|Rg2 hm R [0] ob3 cap3 (.cons (.tmp _ _ R) .nil) R R

/-! trireme/triremeref09.On -/
def ref09_On.l1 (bs : List T_api_Bound) (name : ByteArray) : Nat → (List T_api_Pod) → Int → Option (List T_api_Pod)
 | 0, _, _ => none
 | n + 1, out2, i2 =>
  if (decide (i2 < (bs.length : Int))) = true then
   (V.gl bs i2).bind fun x =>
   if (V.seq x.On name) = true then
    (V.gl bs i2).bind fun x2 =>
    (V.ap 272 out2 [x2.Pod]).bind fun out4 =>
    ref09_On.l1 bs name n out4 (i64.wrap (i2 + 1))
   else
    ref09_On.l1 bs name n out2 (i64.wrap (i2 + 1))
  else
   some out2
def ref09_On (bs : List T_api_Bound) (name : ByteArray) : Option (List T_api_Pod) :=
 (ref09_On.l1 bs name FU ([] : List T_api_Pod) (0 : Int)).bind fun out32 =>
 some out32
theorem K116 (bs : List T_api_Bound) (name : ByteArray) : VS2 Tryz.prog 148 (ref09_On bs name) [L50 bs, .str name] [] (fun r ob0 cap0=>Z48 ob0 r cap0) (fun r ob0 cap0=>[Q48 ob0 cap0 r]) := by
 refine Ci [.tmp 4] Tryz.func148 R R R fun r hm=>?_
 unfold ref09_On at hm
 refine Ag tbk [] R R<|Ag tbk [] R R<|Ae<|Ag tbk [] R R<|Bz hm (fun out32 (gg:Option Nat × Nat)=>[(5,Z48 gg.1 out32 gg.2)]) (fun out32 (gg:Option Nat × Nat)=>[Q48 gg.1 gg.2 out32]) (fun o hm=>?_) fun out32=>Pq fun ob3 cap3 hm=> ?_
 ·refine Bo (fun zn (zs:List T_api_Pod × Int)=>ref09_On.l1 bs name zn zs.1 zs.2) (fun zs (zg:Option Nat × Nat)=>[(0,L50 bs),(1,.str name),(5,Z48 zg.1 zs.1 zg.2),(6,Iw zs.2)]) (fun zs (zg:Option Nat × Nat)=>[Q48 zg.1 zg.2 zs.1]) (([] : List T_api_Pod),(0 : Int)) (none,0) (fun _=>R) hm (A9 (Bf 48) (Af [0] R R)) fun n=>Pq fun out2 i2=>Pq fun ob2 cap2 hm=> ?_
  rw [ref09_On.l1] at hm
  exact Ae<|Ah<|Aa tbk [] 2 R R<|Ab R R (Aw T_api_Bound.vv R Bl)<|Ab R R (A6 R R R)<|Ac<|Al hm R (fun h5 hm=>Aj<|Ae<|Ay<|Ah<|Aa tbk [] 2 R R<|Bd hm fun x h6 hm=>Ab R R (A0 T_api_Bound.vv R R el23 h6)<|Aa tbk [] 4 R R<|Ac<|Al hm R (fun h7 hm=>Bp<|Aa tbk [] 3 R R<|Bd hm fun x2 h8 hm=>Ab R R (A0 T_api_Bound.vv R R el23 h8)<|Aa tbk [] 2 R R<|Ad R R<|Bi ap24 R R R R R fun b=>Bd hm fun out4 h10 hm=>Ad R R<|B5 1 T_api_Pod.vv (l:=out2) (l2:=[x2.Pod]) ap24 R R (sT_row 0 T_api_Pod.vv el24 R R) h10 fun ob4 cap4=>Ab R R (Ai R)<|Ac<|A5 tbk [] R R<|Ap (out4,(IntKind.i64.wrap (i2 + (1 : Int)))) (ob4,cap4) hm (Af [1] R R)) fun h7 hm=>Aj<|A5 tbk [] R R<|Ap (out2,(IntKind.i64.wrap (i2 + (1 : Int)))) (ob2,cap2) hm (Af [0] R R)) fun h5 hm=>A3<|As (ob2,cap2) hm (Af [0] R R)
 exact Ag tbk [] R R<|Rg2 hm R [0] ob3 cap3 (.cons (.tmp _ _ R) .nil) R R

/-! trireme/triremeref04.Add -/
def ref04_Add (a : T_api_Res) (b : T_api_Res) : Option (T_api_Res × Int) :=
 (ref04_Right a).bind fun r =>
 (if (!r) = true then some true else (ref04_Right b).bind fun r2 =>
 some (!r2)).bind fun c =>
 if c = true then
  some ((⟨0, 0, 0, 0, 0⟩ : T_api_Res), 1)
 else
  (ref04_Right (⟨(i64.wrap (a.Cpu + b.Cpu)), (i64.wrap (a.Mem + b.Mem)), (i64.wrap (a.Disk + b.Disk)), (i64.wrap (a.Pods + b.Pods)), (i64.wrap (a.Dev + b.Dev))⟩ : T_api_Res)).bind fun r3 =>
  if (!r3) = true then
   some ((⟨0, 0, 0, 0, 0⟩ : T_api_Res), 10)
  else
   some ((⟨(i64.wrap (a.Cpu + b.Cpu)), (i64.wrap (a.Mem + b.Mem)), (i64.wrap (a.Disk + b.Disk)), (i64.wrap (a.Pods + b.Pods)), (i64.wrap (a.Dev + b.Dev))⟩ : T_api_Res), 0)
theorem K117 (a : T_api_Res) (b : T_api_Res) : VS Tryz.prog 153 (ref04_Add a b) [T_api_Res.vv a, T_api_Res.vv b] [] (fun r=>.tup [T_api_Res.vv r.1, Iw r.2]) N0 := by
 refine Az [.cell 4 26,.tmp 5] Tryz.func153 R R R fun r hm=>?_
 unfold ref04_Add at hm
 exact Ah<|Ad R R<|A8 R R fun b2=>Ad R R<|A8 R R fun b3=>Ad R R<|Au z26 fun b4=>Ab R R (Ai R)<|Ac<|Ae<|Ah<|Aa tbk [2] 1 R R<|Ad R R<|Am hm 0 R fn70 R (K15 _) fun r hm=>Aa tbk [] 2 R R<|Bc hm 4 14 10 R (fun _ K' h5 J hm=>Aa tbk [] 4 R R<|J 3 R R (Bj hm)) (fun _ K' h5 J hm=>Aa tbk [1] 1 R R<|A7 R R R R R<|Am hm 0 R fn70 R (K15 _) fun r2 hm=>Aa tbk [] 2 R R<|J 3 R R (Bj hm)) fun c hm=>Ac<|Al hm R (fun h8 hm=>Ah<|Ab R R (Bm pl26 R R)<|Ad R R<|An (i:=0) R R R ld26 R R R<|Ab R R (Ai R)<|Ac<|Rt0 hm R [] (.cons (.cell _ _ _ _ 0 _ _ _ _ R R ld26 R) (.cons (.tmp _ _ R) .nil)) R R) fun h8 hm=>Aj<|Ah<|Aa tbk [2,1,2,1,2,1,2,1,2,1] 25 R R<|Ab R R (Bm pl26 R R)<|Ad R R<|Au z26 fun b5=>Ad R R<|An (i:=0) R R R ld26 R R R<|Ac<|Ae<|Ah<|Aa tbk [0] 1 R R<|Ad R R<|Am hm 0 R fn70 R (K15 _) fun r3 hm=>Ab R R (Cf R)<|Ac<|Al hm R (fun h11 hm=>Ah<|Ab R R (Bm pl26 R R)<|Ad R R<|An (i:=1) R R R ld26 R R R<|Ab R R (Ai R)<|Ac<|Rt0 hm R [] (.cons (.cell _ _ _ _ 1 _ _ _ _ R R ld26 R) (.cons (.tmp _ _ R) .nil)) R R) fun h11 hm=>Aj<|Ah<|Aa tbk [0] 1 R R<|Ad R R<|An (i:=1) R R R ld26 R R R<|Ab R R (Ai R)<|Ac<|Rt0 hm R [] (.cons (.cell _ _ _ _ 1 _ _ _ _ R R ld26 R) (.cons (.tmp _ _ R) .nil)) R R

/-! trireme/triremeref09.Used -/
def ref09_Used.l1 (r : List T_api_Pod) : Nat → Int → Option (Out (T_api_Res × Int) Unit)
 | 0, _ => none
 | n + 1, i2 =>
  if (decide (i2 < (r.length : Int))) = true then
   (V.gl r i2).bind fun x =>
   (ref04_Right x.Need).bind fun r2 =>
   if (!r2) = true then
    some (Out.ret ((⟨0, 0, 0, 0, 0⟩ : T_api_Res), 12))
   else
    ref09_Used.l1 r n (i64.wrap (i2 + 1))
  else
   some (Out.go ())
def ref09_Used.l2 (r : List T_api_Pod) : Nat → T_api_Res → Int → Option (Out (T_api_Res × Int) T_api_Res)
 | 0, _, _ => none
 | n2 + 1, sum2, i4 =>
  if (decide (i4 < (r.length : Int))) = true then
   (V.gl r i4).bind fun x2 =>
   (ref04_Add sum2 x2.Need).bind fun r3 =>
   if (r3.2 != 0) = true then
    some (Out.ret ((⟨0, 0, 0, 0, 0⟩ : T_api_Res), r3.2))
   else
    ref09_Used.l2 r n2 r3.1 (i64.wrap (i4 + 1))
  else
   some (Out.go sum2)
def ref09_Used (bs : List T_api_Bound) (name : ByteArray) : Option (T_api_Res × Int) :=
 (ref09_On bs name).bind fun r =>
 (ref09_Used.l1 r FU (0 : Int)).bind fun o =>
 o.on fun j =>
 (ref09_Used.l2 r FU (⟨0, 0, 0, 0, 0⟩ : T_api_Res) (0 : Int)).bind fun o2 =>
 o2.on fun sum32 =>
 some (sum32, 0)
theorem K118 (bs : List T_api_Bound) (name : ByteArray) : VS Tryz.prog 120 (ref09_Used bs name) [L50 bs, .str name] [] (fun r=>.tup [T_api_Res.vv r.1, Iw r.2]) N0 := by
 refine Az [.cell 4 26,.tmp 5] Tryz.func120 R R R fun r hm=>?_
 unfold ref09_Used at hm
 refine Ah<|Ad R R<|Au z26 fun b=>Ab R R (Ai R)<|Ac<|Ah<|Aa tbk [] 2 R R<|Ad R R<|B9 hm 0 R fn148 R (K116 _ _) fun r ob cap hm=>Bn (A2 0 [(14,L48 r)] R ⟨⟨_,R,.here _ R⟩,trivial⟩ (FzH.refl _))<|Ab R R (Ai R)<|Ac<|Ae<|Ag tbk [] R R<|Bs hm (fun _ (_:Unit)=>[(4,.ptr b 0),(6,L48 r)]) (fun _ (_:Unit)=>[X26 b (⟨(0 : Int),(0 : Int),(0 : Int),(0 : Int),(0 : Int)⟩ : T_api_Res)]) (fun o hm h5=>?_) fun j _ hm=> ?_
 ·refine Bo (fun zn (zs:Int)=>ref09_Used.l1 r zn zs) (fun zs (_:Unit)=>[(4,.ptr b 0),(6,L48 r),(7,Iw zs)]) (fun _ (_:Unit)=>[X26 b (⟨(0 : Int),(0 : Int),(0 : Int),(0 : Int),(0 : Int)⟩ : T_api_Res)]) _ () (fun _=>R) hm (Af [0] R R) fun n i2 _ hm=> ?_
  rw [ref09_Used.l1] at hm
  exact Ae<|Ah<|Aa tbk [] 2 R R<|Ab R R (Aw T_api_Pod.vv R Cj)<|Ab R R (A6 R R R)<|Ac<|Al hm R (fun h6 hm=>Aj<|Ae<|Ay<|Ah<|Aa tbk [] 2 R R<|Bd hm fun x h7 hm=>Ab R R (A0 T_api_Pod.vv R R el24 h7)<|Aa tbk [] 2 R R<|Ad R R<|Am hm 0 R fn70 R (K15 _) fun r2 hm=>Ab R R (Cf R)<|Ac<|Al hm R (fun h9 hm=>Ah<|Ab R R (Bm pl26 R R)<|Ad R R<|An (i:=0) R R R ld26 R R R<|Ab R R (Ai R)<|Ac<|have hm:=Lr hm h5;Rt0 hm R [] (.cons (.cell _ _ _ _ 0 _ _ _ _ R R ld26 R) (.cons (.tmp _ _ R) .nil)) R R) fun h9 hm=>Aj<|A5 tbk [] R R<|Ap _ () hm (Af [0] R R)) fun h6 hm=>A3<|Ar () hm (Af [0] R R)
 refine Ah<|Ab R R (Bm pl26 R R)<|Ad R R<|Au z26 fun b2=>Ad R R<|An (i:=0) R R R ld26 R R R<|Ac<|Ae<|Ag tbk [] R R<|Bs hm (fun _ (_:Unit)=>[(4,.ptr b 0),(8,.ptr b2 0)]) (fun sum32 (_:Unit)=>[X26 b2 sum32,X26 b (⟨(0 : Int),(0 : Int),(0 : Int),(0 : Int),(0 : Int)⟩ : T_api_Res)]) (fun o2 hm h12=>?_) fun sum32 _ hm=> ?_
 ·refine Bo (fun zn (zs:T_api_Res × Int)=>ref09_Used.l2 r zn zs.1 zs.2) (fun zs (_:Unit)=>[(4,.ptr b 0),(6,L48 r),(8,.ptr b2 0),(9,Iw zs.2)]) (fun zs (_:Unit)=>[X26 b2 zs.1,X26 b (⟨(0 : Int),(0 : Int),(0 : Int),(0 : Int),(0 : Int)⟩ : T_api_Res)]) ((⟨(0 : Int),(0 : Int),(0 : Int),(0 : Int),(0 : Int)⟩ : T_api_Res),(0 : Int)) () (fun _=>R) hm (Af [0,0] R R) fun n2=>Pq fun sum2 i4 _ hm=> ?_
  rw [ref09_Used.l2] at hm
  refine Ae<|Ah<|Aa tbk [] 2 R R<|Ab R R (Aw T_api_Pod.vv R Cj)<|Ab R R (A6 R R R)<|Ac<|Al hm R (fun h13 hm=>?_) fun h13 hm=> ?_
  ·refine Aj<|Ae<|Ay<|Ae<|Ba 0 mixed<|Av tbk [0,1,2] [0] (by kernel_rfl) R R R<|Bd hm fun x2 h14 hm=>Ax 3 R R R (by kernel_rfl) (A0 T_api_Pod.vv R R el24 h14)<|Av tbk [4,5] [] (by kernel_rfl) R R R<|?_
   refine B0 [6,10] (by kernel_rfl) ⟨?_,?_,trivial⟩
   ·exact Aq R R R<|Am hm 0 R fn153 R (K117 _ _) fun r3 hm=>Av tbk [7,8,9] [] (by kernel_rfl) R R R<|Ao 10 (by kernel_rfl)<|Aq R R R<|Au z26 fun b3=>Ao 11 (by kernel_rfl)<|Aq R R R<|An (i:=0) R R R ld26 R R R<|Ax 12 R R R (by kernel_rfl) (Ai R)<|A4 (by kernel_rfl)<|Ae<|Ag tbk [] R R<|Al hm R (fun h17 hm=>Ah<|Ab R R (Bm pl26 R R)<|Ab R R (Ak R)<|Ad R R<|An (i:=2) R R R ld26 R R R<|Ab R R (Ai R)<|Ac<|have hm:=Lr hm h12;Rt0 hm R [] (.cons (.cell _ _ _ _ 2 _ _ _ _ R R ld26 R) (.cons (.tmp _ _ R) .nil)) R R) fun h17 hm=>Aj<|Bp<|Aa tbk [0] 1 R R<|Ad R R<|An (i:=1) R R R ld26 R R R<|Ac<|A5 tbk [] R R<|Ap (r3.1,(IntKind.i64.wrap (i4 + (1 : Int)))) () hm (Af [1,1] R R)
   ·exact Aq R R R<|Au z26 fun b4=>Ao 6 (by kernel_rfl)<|Aq R R R<|Am hm 0 R fn153 R (K117 _ _) fun r4 hm=>Av tbk [7,8,9] [] (by kernel_rfl) R R R<|Ao 11 (by kernel_rfl)<|Aq R R R<|An (i:=0) R R R ld26 R R R<|Ax 12 R R R (by kernel_rfl) (Ai R)<|A4 (by kernel_rfl)<|Ae<|Ag tbk [] R R<|Al hm R (fun h20 hm=>Ah<|Ab R R (Bm pl26 R R)<|Ab R R (Ak R)<|Ad R R<|An (i:=2) R R R ld26 R R R<|Ab R R (Ai R)<|Ac<|have hm:=Lr hm h12;Rt0 hm R [] (.cons (.cell _ _ _ _ 2 _ _ _ _ R R ld26 R) (.cons (.tmp _ _ R) .nil)) R R) fun h20 hm=>Aj<|Bp<|Aa tbk [0] 1 R R<|Ad R R<|An (i:=1) R R R ld26 R R R<|Ac<|A5 tbk [] R R<|Ap (r4.1,(IntKind.i64.wrap (i4 + (1 : Int)))) () hm (Af [1,1] R R)
  exact A3<|Ar () hm (Af [0,0] R R)
 exact Ah<|Aa tbk [0] 1 R R<|Ad R R<|An (i:=1) R R R ld26 R R R<|Ab R R (Ai R)<|Ac<|Rt0 hm R [] (.cons (.cell _ _ _ _ 1 _ _ _ _ R R ld26 R) (.cons (.tmp _ _ R) .nil)) R R

/-! trireme/triremeref09.Left -/
def ref09_Left (m : T_api_Machine) (bs : List T_api_Bound) : Option T_api_Res :=
 (ref09_Used bs m.Name).bind fun r =>
 (if (r.2 != 0) = true then some true else (ref04_Right m.Has).bind fun r2 =>
 some (!r2)).bind fun c =>
 if c = true then
  some (⟨0, 0, 0, 0, 0⟩ : T_api_Res)
 else
  some (⟨(max 0 (i64.wrap (m.Has.Cpu - r.1.Cpu))), (max 0 (i64.wrap (m.Has.Mem - r.1.Mem))), (max 0 (i64.wrap (m.Has.Disk - r.1.Disk))), (max 0 (i64.wrap (m.Has.Pods - r.1.Pods))), (max 0 (i64.wrap (m.Has.Dev - r.1.Dev)))⟩ : T_api_Res)
theorem K119 (m : T_api_Machine) (bs : List T_api_Bound) : VS Tryz.prog 147 (ref09_Left m bs) [T_api_Machine.vv m, L50 bs] [] (fun r=>T_api_Res.vv r) N0 := by
 refine Az [.cell 4 26] Tryz.func147 R R R fun r hm=>?_
 unfold ref09_Left at hm
 exact Ah<|Ad R R<|A8 R R fun b=>Ad R R<|Au z26 fun b2=>Ac<|Ah<|Aa tbk [1] 3 R R<|Ad R R<|Am hm 0 R fn120 R (K118 _ _) fun r hm=>Aa tbk [] 3 R R<|Ad R R<|Au z26 fun b3=>Ad R R<|An (i:=0) R R R ld26 R R R<|Ab R R (Ai R)<|Ac<|Ae<|Ah<|Aa tbk [] 3 R R<|Bc hm 5 22 17 R (fun _ K' h5 J hm=>Aa tbk [] 5 R R<|J 4 R R (Bj hm)) (fun _ K' h5 J hm=>Aa tbk [2] 2 R R<|A7 R R R R R<|Am hm 0 R fn70 R (K15 _) fun r2 hm=>Aa tbk [] 2 R R<|J 4 R R (Bj hm)) fun c hm=>Ac<|Al hm R (fun h8 hm=>Ah<|Ab R R (Bm pl26 R R)<|Ad R R<|An (i:=1) R R R ld26 R R R<|Ac<|Rt0 hm R [] (.cons (.cell _ _ _ _ 1 _ _ _ _ R R ld26 R) .nil) R R) fun h8 hm=>Aj<|Ah<|Aa tbk [2] 2 R R<|Ad R R<|Au z26 fun b4=>Ad R R<|An (i:=0) R R R ld26 R R R<|Ac<|Ah<|Aa tbk [0,1] 5 R R<|Ab R R (C1 R R)<|Aa tbk [0,1] 5 R R<|Ab R R (C1 R R)<|Aa tbk [0,1] 5 R R<|Ab R R (C1 R R)<|Aa tbk [0,1] 5 R R<|Ab R R (C1 R R)<|Aa tbk [0,1] 5 R R<|Ab R R (C1 R R)<|Ab R R (Bm pl26 R R)<|Ad R R<|An (i:=2) R R R ld26 R R R<|Ac<|Rt0 hm R [] (.cons (.cell _ _ _ _ 2 _ _ _ _ R R ld26 R) .nil) R R

/-! trireme/triremeref04.Fits -/
def ref04_Fits (a : T_api_Res) (b : T_api_Res) : Option Bool :=
 (ref04_Right a).bind fun r =>
 (if r = true then (ref04_Right b).bind fun r2 =>
 some r2 else some false).bind fun c =>
 some (((((c && (decide (a.Cpu ≤ b.Cpu))) && (decide (a.Mem ≤ b.Mem))) && (decide (a.Disk ≤ b.Disk))) && (decide (a.Pods ≤ b.Pods))) && (decide (a.Dev ≤ b.Dev)))
theorem K120 (a : T_api_Res) (b : T_api_Res) : VS Tryz.prog 146 (ref04_Fits a b) [T_api_Res.vv a, T_api_Res.vv b] [] .bool N0 := by
 refine Az [.tmp 4] Tryz.func146 R R R fun r hm=>?_
 unfold ref04_Fits at hm
 exact Ah<|Ad R R<|A8 R R fun b2=>Ad R R<|A8 R R fun b3=>Ab R R (Ai R)<|Ac<|Ah<|Aa tbk [1] 1 R R<|Ad R R<|Am hm 0 R fn70 R (K15 _) fun r hm=>Ab R R (Ak R)<|Bc hm 3 10 7 R (fun _ K' h4 J hm=>Aa tbk [0] 1 R R<|A7 R R R R R<|Am hm 0 R fn70 R (K15 _) fun r2 hm=>Ab R R (Bb true R R R)<|J 2 R R (Bj hm)) (fun _ K' h4 J hm=>Aa tbk [] 3 R R<|J 2 R R (Bj hm)) fun c hm=>Ab R R (Ak R)<|Bv tbk [1,0] 6 17 11 R R R R R<|Ab R R (Ak R)<|Bv tbk [1,0] 6 24 18 R R R R R<|Ab R R (Ak R)<|Bv tbk [1,0] 6 31 25 R R R R R<|Ab R R (Ak R)<|Bv tbk [1,0] 6 38 32 R R R R R<|Ab R R (Ak R)<|Bv tbk [1,0] 6 45 39 R R R R R<|Ab R R (Ai R)<|Ac<|Rt1 hm R [] R R R

/-! trireme/triremeref10.Room -/
def ref10_Room.l3 (p : T_api_Pod) (r4 : List T_api_Pod) (i2 : Int) (k2 : Int) : Nat → Int → Option (Out (Out (Out Int Unit) Unit) Unit)
 | 0, _ => none
 | n3 + 1, j4 =>
  if (decide (j4 < (p.Ports.length : Int))) = true then
   (V.gl r4 i2).bind fun x2 =>
   (V.gl x2.Ports k2).bind fun x3 =>
   (V.gl p.Ports j4).bind fun x4 =>
   if (x3 == x4) = true then
    some (Out.ret (Out.ret (Out.ret 3)))
   else
    ref10_Room.l3 p r4 i2 k2 n3 (i64.wrap (j4 + 1))
  else
   some (Out.go ())
def ref10_Room.l2 (p : T_api_Pod) (r4 : List T_api_Pod) (i2 : Int) : Nat → Int → Option (Out (Out Int Unit) Unit)
 | 0, _ => none
 | n2 + 1, k2 =>
  (V.gl r4 i2).bind fun x =>
  if (decide (k2 < (x.Ports.length : Int))) = true then
   (ref10_Room.l3 p r4 i2 k2 FU (0 : Int)).bind fun o3 =>
   o3.on fun j5 =>
   ref10_Room.l2 p r4 i2 n2 (i64.wrap (k2 + 1))
  else
   some (Out.go ())
def ref10_Room.l1 (p : T_api_Pod) (r4 : List T_api_Pod) : Nat → Int → Option (Out Int Unit)
 | 0, _ => none
 | n + 1, i2 =>
  if (decide (i2 < (r4.length : Int))) = true then
   (ref10_Room.l2 p r4 i2 FU (0 : Int)).bind fun o2 =>
   o2.on fun j2 =>
   ref10_Room.l1 p r4 n (i64.wrap (i2 + 1))
  else
   some (Out.go ())
def ref10_Room (m : T_api_Machine) (bs : List T_api_Bound) (p : T_api_Pod) : Option Int :=
 (ref10_Others bs p.Name).bind fun r =>
 (ref09_Left m r).bind fun r2 =>
 (ref04_Fits p.Need r2).bind fun r3 =>
 if (!r3) = true then
  some 2
 else
  (ref09_On r m.Name).bind fun r4 =>
  (ref10_Room.l1 p r4 FU (0 : Int)).bind fun o =>
  o.on fun j =>
  some 0
theorem K121 (m : T_api_Machine) (bs : List T_api_Bound) (p : T_api_Pod) : VS Tryz.prog 116 (ref10_Room m bs p) [T_api_Machine.vv m, L50 bs, T_api_Pod.vv p] [] Iw N0 := by
 refine Az [.tmp 6] Tryz.func116 R R R fun r hm=>?_
 unfold ref10_Room at hm
 refine Ah<|Ad R R<|A8 R R fun b=>Ad R R<|A8 R R fun b2=>Ab R R (Ai R)<|Ac<|Ah<|Aa tbk [0] 3 R R<|Ad R R<|B9 hm 0 R fn62 R (K115 _ _) fun r ob cap hm=>Bn (A2 0 [(15,L50 r)] R ⟨⟨_,R,.here _ R⟩,trivial⟩ (FzH.refl _))<|Ab R R (Ai R)<|Ac<|Ae<|Ae<|Ba 0 mixed<|Av tbk [0,1,2,3] [0,1] (by kernel_rfl) R R R<|Ao 4 (by kernel_rfl)<|Aq R R R<|Am hm 0 R fn147 R (K119 _ _) fun r2 hm=>Ao 5 (by kernel_rfl)<|Aq R R R<|Am hm 0 R fn146 R (K120 _ _) fun r3 hm=>Ax 6 R R R (by kernel_rfl) (Cf R)<|A4 (by kernel_rfl)<|Al hm R (fun h7 hm=>Ag tbk [] R R<|Rt1 hm R [] R R R) fun h7 hm=>Aj<|Ah<|Aa tbk [1] 3 R R<|Ad R R<|B9 hm 0 R fn148 R (K116 _ _) fun r4 ob2 cap2 hm=>Bn (A2 0 [(26,L48 r4)] R ⟨⟨_,R,.here _ R⟩,trivial⟩ (FzH.refl _))<|Ab R R (Ai R)<|Ac<|Ae<|Ag tbk [] R R<|Bs hm (fun _ (_:Unit)=>[]) (fun _ (_:Unit)=>[]) (fun o hm h11=>?_) fun j _ hm=> ?_
 ·refine Bo (fun zn (zs:Int)=>ref10_Room.l1 p r4 zn zs) (fun zs (_:Unit)=>[(5,.ptr b2 0),(8,L48 r4),(9,Iw zs)]) (fun _ (_:Unit)=>[X48 b2 p]) _ () (fun _=>R) hm (Af [0] R R) fun n i2 _ hm=> ?_
  rw [ref10_Room.l1] at hm
  refine Ae<|Ah<|Aa tbk [] 2 R R<|Ab R R (Aw T_api_Pod.vv R Cj)<|Ab R R (A6 R R R)<|Ac<|Al hm R (fun h12 hm=>?_) fun h12 hm=> ?_
  ·refine Aj<|Ae<|Ay<|Ag tbk [] R R<|Bs hm (fun _ (_:Unit)=>[(5,.ptr b2 0),(8,L48 r4),(9,Iw i2)]) (fun _ (_:Unit)=>[X48 b2 p]) (fun o2 hm h14=>?_) fun j2 _ hm=> ?_
   ·refine Bo (fun zn (zs:Int)=>ref10_Room.l2 p r4 i2 zn zs) (fun zs (_:Unit)=>[(5,.ptr b2 0),(8,L48 r4),(9,Iw i2),(10,Iw zs)]) (fun _ (_:Unit)=>[X48 b2 p]) _ () (fun _=>R) hm (Af [0] R R) fun n2 k2 _ hm=> ?_
    rw [ref10_Room.l2] at hm
    refine Ae<|Ah<|Aa tbk [] 3 R R<|Bd hm fun x h15 hm=>Ab R R (A0 T_api_Pod.vv R R el24 h15)<|Aa tbk [] 2 R R<|Ab R R (Aw (VV.int .i64) R Bq)<|Ab R R (A6 R R R)<|Ac<|Al hm R (fun h16 hm=>?_) fun h16 hm=> ?_
    ·refine Aj<|Ae<|Ay<|Ag tbk [] R R<|Bs hm (fun _ (_:Unit)=>[(5,.ptr b2 0),(8,L48 r4),(9,Iw i2),(10,Iw k2)]) (fun _ (_:Unit)=>[X48 b2 p]) (fun o3 hm h18=>?_) fun j5 _ hm=> ?_
     ·refine Bo (fun zn (zs:Int)=>ref10_Room.l3 p r4 i2 k2 zn zs) (fun zs (_:Unit)=>[(5,.ptr b2 0),(8,L48 r4),(9,Iw i2),(10,Iw k2),(11,Iw zs)]) (fun _ (_:Unit)=>[X48 b2 p]) _ () (fun _=>R) hm (Af [0] R R) fun n3 j4 _ hm=> ?_
      rw [ref10_Room.l3] at hm
      exact Ae<|Ah<|Aa tbk [0] 3 R R<|Ab R R (Aw (VV.int .i64) R Bq)<|Ab R R (A6 R R R)<|Ac<|Al hm R (fun h19 hm=>Aj<|Ae<|Ay<|Ae<|Ba 0 mixed<|Av tbk [0,1] [] (by kernel_rfl) R R R<|Bd hm fun x2 h20 hm=>Ax 2 R R R (by kernel_rfl) (A0 T_api_Pod.vv R R el24 h20)<|Av tbk [3,4,5] [] (by kernel_rfl) R R R<|Bd hm fun x3 h21 hm=>Ax 6 R R R (by kernel_rfl) (A0 (VV.int .i64) R R el41 h21)<|Av tbk [7,8,9,10] [0] (by kernel_rfl) R R R<|Bd hm fun x4 h22 hm=>Ax 11 R R R (by kernel_rfl) (A0 (VV.int .i64) R R el41 h22)<|Av tbk [12,13] [] (by kernel_rfl) R R R<|A4 (by kernel_rfl)<|Al hm R (fun h23 hm=>Ag tbk [] R R<|have hm:=Lr hm h18;have hm:=Lr hm h14;have hm:=Lr hm h11;Rt1 hm R [] R R R) fun h23 hm=>Aj<|A5 tbk [] R R<|Ap _ () hm (Af [0] R R)) fun h19 hm=>A3<|Ar () hm (Af [0] R R)
     exact A5 tbk [] R R<|Ap _ () hm (Af [0] R R)
    exact A3<|Ar () hm (Af [0] R R)
   exact A5 tbk [] R R<|Ap _ () hm (Af [0] R R)
  exact A3<|Ar () hm (Af [] R R)
 exact Ag tbk [] R R<|Rt1 hm R [] R R R

/-! trireme/triremeref10.Suits -/
def ref10_Suits (m : T_api_Machine) (bs : List T_api_Bound) (p : T_api_Pod) : Option Int :=
 (ref10_Place m p).bind fun r =>
 if (r != 0) = true then
  some r
 else
  (ref10_Room m bs p).bind fun r2 =>
  some r2
theorem K122 (m : T_api_Machine) (bs : List T_api_Bound) (p : T_api_Pod) : VS Tryz.prog 81 (ref10_Suits m bs p) [T_api_Machine.vv m, L50 bs, T_api_Pod.vv p] [] Iw N0 := by
 refine Az [.tmp 6] Tryz.func81 R R R fun r hm=>?_
 unfold ref10_Suits at hm
 exact Ah<|Ad R R<|A8 R R fun b=>Ad R R<|A8 R R fun b2=>Ab R R (Ai R)<|Ac<|Ah<|Aa tbk [1,0] 2 R R<|Ad R R<|Am hm 0 R fn115 R (K114 _ _) fun r hm=>Ab R R (Ai R)<|Ac<|Ae<|Ag tbk [] R R<|Al hm R (fun h4 hm=>Ag tbk [] R R<|Rt1 hm R [] R R R) fun h4 hm=>Aj<|Ah<|Aa tbk [1,0] 3 R R<|Ad R R<|Am hm 0 R fn116 R (K121 _ _ _) fun r2 hm=>Ab R R (Ai R)<|Ac<|Rt1 hm R [] R R R

/-! trireme/triremeref11.zone -/
def ref11_zone (ms : List T_api_Machine) (name : ByteArray) : Option (ByteArray × Bool) :=
 (ref09_Find ms name).bind fun r =>
 if (decide (r < 0)) = true then
  some ((⟨#[]⟩ : ByteArray), false)
 else
  (V.gl ms r).bind fun x =>
  (ref05_Get x.Labels (⟨#[122, 111, 110, 101]⟩ : ByteArray)).bind fun r2 =>
  some (r2.1, r2.2)
theorem K123 (ms : List T_api_Machine) (name : ByteArray) : VS Tryz.prog 150 (ref11_zone ms name) [L30 ms, .str name] [] (fun r=>.tup [.str r.1, .bool r.2]) N0 := by
 refine Az [.tmp 4,.tmp 5] Tryz.func150 R R R fun r hm=>?_
 unfold ref11_zone at hm
 exact Ag tbk [] R R<|Ah<|Aa tbk [] 2 R R<|Ad R R<|Am hm 0 R fn80 R (K31 _ _) fun r hm=>Ab R R (Ai R)<|Ac<|Ae<|Ag tbk [] R R<|Al hm R (fun h2 hm=>Ag tbk [] R R<|Rt2 hm R [] R R R R) fun h2 hm=>Aj<|Ah<|Aa tbk [] 2 R R<|Bd hm fun x h3 hm=>Ab R R (A0 T_api_Machine.vv R R el22 h3)<|Aa tbk [] 2 R R<|Ad R R<|Am hm 0 R fn163 R (K106 _ _) fun r2 hm=>Aa tbk [] 4 R R<|Ac<|Rt2 hm R [] R R R R

/-! trireme/triremeref11.together -/
def ref11_together (ms : List T_api_Machine) (a : ByteArray) (b : ByteArray) (wide : Bool) : Option Bool :=
 if (V.seq a b) = true then
  some true
 else
  (ref11_zone ms a).bind fun r =>
  (ref11_zone ms b).bind fun r2 =>
  some (((wide && r.2) && r2.2) && (V.seq r.1 r2.1))
theorem K124 (ms : List T_api_Machine) (a : ByteArray) (b : ByteArray) (wide : Bool) : VS Tryz.prog 149 (ref11_together ms a b wide) [L30 ms, .str a, .str b, .bool wide] [] .bool N0 := by
 refine Az [.tmp 8] Tryz.func149 R R R fun r hm=>?_
 unfold ref11_together at hm
 exact Ag tbk [] R R<|Ae<|Ag tbk [] R R<|Al hm R (fun h1 hm=>Ag tbk [] R R<|Rt1 hm R [] R R R) fun h1 hm=>Aj<|Ah<|Aa tbk [] 2 R R<|Ad R R<|Am hm 0 R fn150 R (K123 _ _) fun r hm=>Aa tbk [] 5 R R<|Ac<|Ah<|Aa tbk [] 2 R R<|Ad R R<|Am hm 0 R fn150 R (K123 _ _) fun r2 hm=>Aa tbk [] 5 R R<|Ac<|Ah<|Aa tbk [] 2 R R<|Bv tbk [] 2 31 29 R R R R R<|Ab R R (Ak R)<|Bv tbk [] 2 34 32 R R R R R<|Ab R R (Ak R)<|Bv tbk [] 4 39 35 R R R R R<|Ab R R (Ai R)<|Ac<|Rt1 hm R [] R R R

/-! trireme/triremeref11.Near -/
def ref11_Near.l1 (ms : List T_api_Machine) (bs : List T_api_Bound) (p : T_api_Pod) (on_ : ByteArray) : Nat → Int → Option (Out Bool Unit)
 | 0, _ => none
 | n + 1, i2 =>
  if (decide (i2 < (bs.length : Int))) = true then
   (V.gl bs i2).bind fun x =>
   (if (V.seq x.Pod.Name p.Name) = true then some true else (V.gl bs i2).bind fun x2 =>
   some (V.seq x2.On (⟨#[]⟩ : ByteArray))).bind fun c =>
   if c = true then
    ref11_Near.l1 ms bs p on_ n (i64.wrap (i2 + 1))
   else
    (if (decide ((p.Apart.length : Int) > 0)) = true then (ref05_Has x.Pod.Labels p.Apart).bind fun r2 =>
    some r2 else some false).bind fun c2 =>
    (if c2 = true then (V.gl bs i2).bind fun x3 =>
    (ref11_together ms on_ x3.On p.Wide).bind fun r3 =>
    some r3 else some false).bind fun c3 =>
    if c3 = true then
     some (Out.ret true)
    else
     (if (decide ((x.Pod.Apart.length : Int) > 0)) = true then (ref05_Has p.Labels x.Pod.Apart).bind fun r4 =>
     some r4 else some false).bind fun c4 =>
     (if c4 = true then (V.gl bs i2).bind fun x4 =>
     (ref11_together ms on_ x4.On x.Pod.Wide).bind fun r5 =>
     some r5 else some false).bind fun c5 =>
     if c5 = true then
      some (Out.ret true)
     else
      ref11_Near.l1 ms bs p on_ n (i64.wrap (i2 + 1))
  else
   some (Out.go ())
def ref11_Near (ms : List T_api_Machine) (bs : List T_api_Bound) (p : T_api_Pod) (on_ : ByteArray) : Option Bool :=
 (ref09_Find ms on_).bind fun r =>
 if (decide (r < 0)) = true then
  some false
 else
  (ref11_Near.l1 ms bs p on_ FU (0 : Int)).bind fun o =>
  o.on fun j =>
  some false
theorem K125 (ms : List T_api_Machine) (bs : List T_api_Bound) (p : T_api_Pod) (on_ : ByteArray) : VS Tryz.prog 117 (ref11_Near ms bs p on_) [L30 ms, L50 bs, T_api_Pod.vv p, .str on_] [] .bool N0 := by
 refine Az [.tmp 8] Tryz.func117 R R R fun r hm=>?_
 unfold ref11_Near at hm
 refine Ah<|Ad R R<|A8 R R fun b=>Ab R R (Ai R)<|Ac<|Ae<|Ah<|Aa tbk [] 2 R R<|Ad R R<|Am hm 0 R fn80 R (K31 _ _) fun r hm=>Ab R R (A6 R R R)<|Ac<|Al hm R (fun h3 hm=>Ag tbk [] R R<|Rt1 hm R [] R R R) fun h3 hm=>Aj<|Ae<|Ag tbk [] R R<|Bs hm (fun _ (_:Unit)=>[]) (fun _ (_:Unit)=>[]) (fun o hm h5=>?_) fun j _ hm=> ?_
 ·refine Bo (fun zn (zs:Int)=>ref11_Near.l1 ms bs p on_ zn zs) (fun zs (_:Unit)=>[(0,L30 ms),(1,L50 bs),(3,.str on_),(6,.ptr b 0),(9,Iw zs)]) (fun _ (_:Unit)=>[X48 b p]) _ () (fun _=>R) hm (Af [0] R R) fun n i2 _ hm=> ?_
  rw [ref11_Near.l1] at hm
  refine Ae<|Ah<|Aa tbk [] 2 R R<|Ab R R (Aw T_api_Bound.vv R Bl)<|Ab R R (A6 R R R)<|Ac<|Al hm R (fun h6 hm=>?_) fun h6 hm=> ?_
  ·refine Aj<|Ae<|Ay<|Ah<|Aa tbk [] 2 R R<|Bd hm fun x h7 hm=>Ab R R (A0 T_api_Bound.vv R R el23 h7)<|Aa tbk [] 2 R R<|Ad R R<|Au z48 fun b2=>Ad R R<|An (i:=0) R R R ld48 R R R<|Ac<|Ae<|Ah<|Aa tbk [0,1] 6 R R<|Bc hm 7 38 31 R (fun _ K' h9 J hm=>Aa tbk [] 7 R R<|J 6 R R (Bj hm)) (fun _ K' h9 J hm=>Aa tbk [] 2 R R<|Bd hm fun x2 h10 hm=>Bg R R R R R (A0 T_api_Bound.vv R R el23 h10)<|Aa tbk [] 4 R R<|J 6 R R (Bj hm)) fun c hm=>Ac<|Al hm R (fun h12 hm=>A3<|A5 tbk [] R R<|Ap _ () hm (Af [1] R R)) fun h12 hm=>Aj<|Ae<|Ae<|Ba 0 mixed<|Av tbk [0,1] [1] (by kernel_rfl) R R R<|Ax 2 R R R (by kernel_rfl) (Aw T_api_Label.vv R Bk)<|Av tbk [3,4] [] (by kernel_rfl) R R R<|Cq hm [10,9,8,7,6,5,4,3,2,1,0] 49 43 R (fun _ K' h13 J hm=>Av tbk [5,6,7,8] [0,1] (by kernel_rfl) R R R<|Ao 9 (by kernel_rfl)<|Cy R R R R R R<|Am hm 0 R fn143 R (K107 _ _) fun r2 hm=>Ax 10 R R R (by kernel_rfl) (Bb true R R R)<|J 5 R R (Bj hm)) (fun _ K' h13 J hm=>Av tbk [5,6,7,8,9,10] [] (by kernel_rfl) R R R<|J 5 R R (Bj hm)) fun c2 hm=>Ax 11 R R R (by kernel_rfl) (Ak R)<|Cq hm [22,21,20,19,18,17,16,15,14,13,12,11,10,9,8,7,6,5,4,3,2,1,0] 61 50 R (fun _ K' h16 J hm=>Av tbk [12,13,14,15] [] (by kernel_rfl) R R R<|Bd hm fun x3 h17 hm=>B8 16 R R R R R R (by kernel_rfl) (A0 T_api_Bound.vv R R el23 h17)<|Av tbk [17,18,19,20] [1] (by kernel_rfl) R R R<|Ao 21 (by kernel_rfl)<|Cy R R R R R R<|Am hm 0 R fn149 R (K124 _ _ _ _) fun r3 hm=>Ax 22 R R R (by kernel_rfl) (Bb true R R R)<|J 10 R R (Bj hm)) (fun _ K' h16 J hm=>Av tbk [12,13,14,15,16,17,18,19,20,21,22] [] (by kernel_rfl) R R R<|J 10 R R (Bj hm)) fun c3 hm=>A4 (by kernel_rfl)<|Al hm R (fun h20 hm=>Ag tbk [] R R<|have hm:=Lr hm h5;Rt1 hm R [] R R R) fun h20 hm=>Aj<|Ae<|Ba 0 mixed<|Av tbk [0,1] [0] (by kernel_rfl) R R R<|Ax 2 R R R (by kernel_rfl) (Aw T_api_Label.vv R Bk)<|Av tbk [3,4] [] (by kernel_rfl) R R R<|Cq hm [10,9,8,7,6,5,4,3,2,1,0] 72 66 R (fun _ K' h21 J hm=>Av tbk [5,6,7,8] [1,0] (by kernel_rfl) R R R<|Ao 9 (by kernel_rfl)<|Cy R R R R R R<|Am hm 0 R fn143 R (K107 _ _) fun r4 hm=>Ax 10 R R R (by kernel_rfl) (Bb true R R R)<|J 5 R R (Bj hm)) (fun _ K' h21 J hm=>Av tbk [5,6,7,8,9,10] [] (by kernel_rfl) R R R<|J 5 R R (Bj hm)) fun c4 hm=>Ax 11 R R R (by kernel_rfl) (Ak R)<|Cq hm [22,21,20,19,18,17,16,15,14,13,12,11,10,9,8,7,6,5,4,3,2,1,0] 84 73 R (fun _ K' h24 J hm=>Av tbk [12,13,14,15] [] (by kernel_rfl) R R R<|Bd hm fun x4 h25 hm=>B8 16 R R R R R R (by kernel_rfl) (A0 T_api_Bound.vv R R el23 h25)<|Av tbk [17,18,19,20] [0] (by kernel_rfl) R R R<|Ao 21 (by kernel_rfl)<|Cy R R R R R R<|Am hm 0 R fn149 R (K124 _ _ _ _) fun r5 hm=>Ax 22 R R R (by kernel_rfl) (Bb true R R R)<|J 10 R R (Bj hm)) (fun _ K' h24 J hm=>Av tbk [12,13,14,15,16,17,18,19,20,21,22] [] (by kernel_rfl) R R R<|J 10 R R (Bj hm)) fun c5 hm=>A4 (by kernel_rfl)<|?_
   exact Al hm R (fun h28 hm=>Ag tbk [] R R<|have hm:=Lr hm h5;Rt1 hm R [] R R R) fun h28 hm=>Aj<|A5 tbk [] R R<|Ap _ () hm (Af [1] R R)
  exact A3<|Ar () hm (Af [] R R)
 exact Ag tbk [] R R<|Rt1 hm R [] R R R

/-! trireme/triremeref09.Zones -/
def ref09_Zones.l2 (out2 : List ByteArray) (r : ByteArray × Bool) : Nat → Bool → Int → Option Bool
 | 0, _, _ => none
 | n2 + 1, is2, k2 =>
  if (decide (k2 < (out2.length : Int))) = true then
   (if is2 = true then (V.gl out2 k2).bind fun x2 =>
   some (!(V.seq x2 r.1)) else some false).bind fun c =>
   ref09_Zones.l2 out2 r n2 c (i64.wrap (k2 + 1))
  else
   some is2
def ref09_Zones.l1 (ms : List T_api_Machine) : Nat → (List ByteArray) → Int → Option (List ByteArray)
 | 0, _, _ => none
 | n + 1, out2, i2 =>
  if (decide (i2 < (ms.length : Int))) = true then
   (V.gl ms i2).bind fun x =>
   (ref05_Get x.Labels (⟨#[122, 111, 110, 101]⟩ : ByteArray)).bind fun r =>
   (ref09_Zones.l2 out2 r FU r.2 (0 : Int)).bind fun is32 =>
   (if is32 = true then (V.gl ms i2).bind fun x3 =>
   some x3.Ready else some false).bind fun c2 =>
   if c2 = true then
    (V.ap 16 out2 [r.1]).bind fun out4 =>
    ref09_Zones.l1 ms n out4 (i64.wrap (i2 + 1))
   else
    ref09_Zones.l1 ms n out2 (i64.wrap (i2 + 1))
  else
   some out2
def ref09_Zones (ms : List T_api_Machine) : Option (List ByteArray) :=
 (ref09_Zones.l1 ms FU ([] : List ByteArray) (0 : Int)).bind fun out32 =>
 some out32
theorem K126 (ms : List T_api_Machine) : VS2 Tryz.prog 167 (ref09_Zones ms) [L30 ms] [] (fun r ob0 cap0=>Z9 ob0 r cap0) (fun r ob0 cap0=>[Q9 ob0 cap0 r]) := by
 refine Ci [.tmp 2] Tryz.func167 R R R fun r hm=>?_
 unfold ref09_Zones at hm
 refine Ag tbk [] R R<|Ag tbk [] R R<|Ae<|Ag tbk [] R R<|Bz hm (fun out32 (gg:Option Nat × Nat)=>[(3,Z9 gg.1 out32 gg.2)]) (fun out32 (gg:Option Nat × Nat)=>[Q9 gg.1 gg.2 out32]) (fun o hm=>?_) fun out32=>Pq fun ob3 cap3 hm=> ?_
 ·refine Bo (fun zn (zs:List ByteArray × Int)=>ref09_Zones.l1 ms zn zs.1 zs.2) (fun zs (zg:Option Nat × Nat)=>[(0,L30 ms),(3,Z9 zg.1 zs.1 zg.2),(4,Iw zs.2)]) (fun zs (zg:Option Nat × Nat)=>[Q9 zg.1 zg.2 zs.1]) (([] : List ByteArray),(0 : Int)) (none,0) (fun _=>R) hm (A9 (Bf 9) (Af [0] R R)) fun n=>Pq fun out2 i2=>Pq fun ob2 cap2 hm=> ?_
  rw [ref09_Zones.l1] at hm
  refine Ae<|Ah<|Aa tbk [] 2 R R<|Ab R R (Aw T_api_Machine.vv R Bu)<|Ab R R (A6 R R R)<|Ac<|Al hm R (fun h5 hm=>?_) fun h5 hm=> ?_
  ·refine Aj<|Ae<|Ay<|Ah<|Aa tbk [] 2 R R<|Bd hm fun x h6 hm=>Ab R R (A0 T_api_Machine.vv R R el22 h6)<|Aa tbk [] 2 R R<|Ad R R<|Am hm 0 R fn163 R (K106 _ _) fun r hm=>Aa tbk [] 5 R R<|Ac<|Ae<|Ag tbk [] R R<|Bz hm (fun is32 (_:Unit)=>[(0,L30 ms),(3,Z9 ob2 out2 cap2),(4,Iw i2),(5,.str r.1),(6,.bool is32)]) (fun _ (_:Unit)=>[Q9 ob2 cap2 out2]) (fun o2 hm=>?_) fun is32 _ hm=> ?_
   ·refine Bo (fun zn (zs:Bool × Int)=>ref09_Zones.l2 out2 r zn zs.1 zs.2) (fun zs (_:Unit)=>[(0,L30 ms),(3,Z9 ob2 out2 cap2),(4,Iw i2),(5,.str r.1),(6,.bool zs.1),(7,Iw zs.2)]) (fun _ (_:Unit)=>[Q9 ob2 cap2 out2]) (r.2,(0 : Int)) () (fun _=>R) hm (Af [0] R R) fun n2=>Pq fun is2 k2 _ hm=> ?_
    rw [ref09_Zones.l2] at hm
    refine Ae<|Ah<|Aa tbk [] 2 R R<|Ab R R (VP.lenRT VV.str R Bt)<|Ab R R (A6 R R R)<|Ac<|Al hm R (fun h10 hm=>?_) fun h10 hm=> ?_
    ·refine Aj<|Ae<|Ay<|Bp<|Aa tbk [] 2 R R<|Bc hm 7 37 30 R (fun _ K' h11 J hm=>?_) (fun _ K' h11 J hm=>Aa tbk [] 7 R R<|J 6 R R (Bj hm)) fun c hm=> ?_
     ·refine Aa tbk [] 2 R R<|Bd hm fun x2 h12 hm=>Cm 0 R (gl_pos VV.str h12) fun b h13=> ?_
      subst h13
      exact Bg R R R R R (Cs VV.str R R el51 h12)<|Bg R R R R R (Cr (i:=0) (y:=VV.str x2) R R R (gl_map _ (gl_some h12).2) ld9 R)<|Aa tbk [] 3 R R<|J 6 R R (Bj hm)
     exact Ab R R (Ai R)<|Ac<|A5 tbk [] R R<|Ap (c,(IntKind.i64.wrap (k2 + (1 : Int)))) () hm (Af [0] R R)
    exact A3<|As () hm (Af [0] R R)
   exact Ah<|Aa tbk [] 2 R R<|Bc hm 6 45 39 R (fun _ K' h15 J hm=>Aa tbk [] 2 R R<|Bd hm fun x3 h16 hm=>Bg R R R R R (A0 T_api_Machine.vv R R el22 h16)<|Aa tbk [] 3 R R<|J 5 R R (Bj hm)) (fun _ K' h15 J hm=>Aa tbk [] 6 R R<|J 5 R R (Bj hm)) fun c2 hm=>Ac<|Al hm R (fun h18 hm=>Bp<|Aa tbk [] 2 R R<|Ad R R<|Bi ap51 R R R R R fun b2=>Bd hm fun out4 h20 hm=>Ad R R<|B5 1 VV.str (l:=out2) (l2:=[r.1]) ap51 R R (sT_row 0 VV.str el51 R R) h20 fun ob4 cap4=>Ab R R (Ai R)<|Ac<|A5 tbk [] R R<|Ap (out4,(IntKind.i64.wrap (i2 + (1 : Int)))) (ob4,cap4) hm (Af [1] R R)) fun h18 hm=>Aj<|A5 tbk [] R R<|Ap (out2,(IntKind.i64.wrap (i2 + (1 : Int)))) (ob2,cap2) hm (Af [0] R R)
  exact A3<|As (ob2,cap2) hm (Af [0] R R)
 exact Ag tbk [] R R<|Rg2 hm R [0] ob3 cap3 (.cons (.tmp _ _ R) .nil) R R

/-! trireme/triremeref11.Counts -/
def ref11_Counts.l2 (ms : List T_api_Machine) (bs : List T_api_Bound) (p : T_api_Pod) (r : List ByteArray) (i2 : Int) : Nat → Int → Int → Option Int
 | 0, _, _ => none
 | n5 + 1, k2, j2 =>
  if (decide (j2 < (bs.length : Int))) = true then
   (V.gl bs j2).bind fun x =>
   (ref11_zone ms x.On).bind fun r2 =>
   (V.gl bs j2).bind fun x2 =>
   (if (!(V.seq x2.On (⟨#[]⟩ : ByteArray))) = true then (V.gl bs j2).bind fun x3 =>
   some (!(V.seq x3.Pod.Name p.Name)) else some false).bind fun c =>
   (if (c && r2.2) = true then (V.gl r i2).bind fun x4 =>
   some (V.seq r2.1 x4) else some false).bind fun c2 =>
   (if c2 = true then (V.gl bs j2).bind fun x5 =>
   (ref05_Has x5.Pod.Labels p.Spread).bind fun r3 =>
   some r3 else some false).bind fun c3 =>
   if c3 = true then
    ref11_Counts.l2 ms bs p r i2 n5 (i64.wrap (k2 + 1)) (i64.wrap (j2 + 1))
   else
    ref11_Counts.l2 ms bs p r i2 n5 k2 (i64.wrap (j2 + 1))
  else
   some k2
def ref11_Counts.l1 (ms : List T_api_Machine) (bs : List T_api_Bound) (p : T_api_Pod) (r : List ByteArray) : Nat → (List Int) → Int → Option (List Int)
 | 0, _, _ => none
 | n4 + 1, n2, i2 =>
  if (decide (i2 < (r.length : Int))) = true then
   (ref11_Counts.l2 ms bs p r i2 FU 0 (0 : Int)).bind fun k32 =>
   (V.ap 8 n2 [k32]).bind fun n6 =>
   ref11_Counts.l1 ms bs p r n4 n6 (i64.wrap (i2 + 1))
  else
   some n2
def ref11_Counts (ms : List T_api_Machine) (bs : List T_api_Bound) (p : T_api_Pod) : Option (List ByteArray × List Int) :=
 (ref09_Zones ms).bind fun r =>
 (ref11_Counts.l1 ms bs p r FU ([] : List Int) (0 : Int)).bind fun n32 =>
 some (r, n32)
theorem K127 (ms : List T_api_Machine) (bs : List T_api_Bound) (p : T_api_Pod) : VS2 Tryz.prog 151 (ref11_Counts ms bs p) [L30 ms, L50 bs, T_api_Pod.vv p] [] (fun r ob1 cap1=>.tup [L9 r.1, Z3 ob1 r.2 cap1]) (fun r ob1 cap1=>[Q3 ob1 cap1 r.2]) := by
 refine Ci [.tmp 6,.tmp 7] Tryz.func151 R R R fun r hm=>?_
 unfold ref11_Counts at hm
 refine Ah<|Ad R R<|A8 R R fun b=>Aa tbk [] 2 R R<|Ac<|Ah<|Ab R R (Ak R)<|Ad R R<|B9 hm 0 R fn167 R (K126 _) fun r ob cap hm=>Bn (A2 0 [(16,L9 r)] R ⟨⟨_,R,.here _ R⟩,trivial⟩ (FzH.refl _))<|Ab R R (Ai R)<|Ac<|Ag tbk [] R R<|Ae<|Ag tbk [] R R<|Bz hm (fun n32 (gg:Option Nat × Nat)=>[(8,L9 r),(9,Z3 gg.1 n32 gg.2)]) (fun n32 (gg:Option Nat × Nat)=>[Q3 gg.1 gg.2 n32]) (fun o hm=>?_) fun n32=>Pq fun ob4 cap4 hm=> ?_
 ·refine Bo (fun zn (zs:List Int × Int)=>ref11_Counts.l1 ms bs p r zn zs.1 zs.2) (fun zs (zg:Option Nat × Nat)=>[(0,L30 ms),(1,L50 bs),(5,.ptr b 0),(8,L9 r),(9,Z3 zg.1 zs.1 zg.2),(10,Iw zs.2)]) (fun zs (zg:Option Nat × Nat)=>[Q3 zg.1 zg.2 zs.1,X48 b p]) (([] : List Int),(0 : Int)) (none,0) (fun _=>R) hm (A9 (Bf 3) (Af [0,0] R R)) fun n4=>Pq fun n2 i2=>Pq fun ob3 cap3 hm=> ?_
  rw [ref11_Counts.l1] at hm
  refine Ae<|Ah<|Aa tbk [] 2 R R<|Ab R R (Aw VV.str R Bt)<|Ab R R (A6 R R R)<|Ac<|Al hm R (fun h8 hm=>?_) fun h8 hm=> ?_
  ·refine Aj<|Ae<|Ay<|Ag tbk [] R R<|Ae<|Ag tbk [] R R<|Bz hm (fun k32 (_:Unit)=>[(0,L30 ms),(1,L50 bs),(5,.ptr b 0),(8,L9 r),(9,Z3 ob3 n2 cap3),(10,Iw i2),(11,Iw k32)]) (fun _ (_:Unit)=>[Q3 ob3 cap3 n2,X48 b p]) (fun o2 hm=>?_) fun k32 _ hm=> ?_
   ·refine Bo (fun zn (zs:Int × Int)=>ref11_Counts.l2 ms bs p r i2 zn zs.1 zs.2) (fun zs (_:Unit)=>[(0,L30 ms),(1,L50 bs),(5,.ptr b 0),(8,L9 r),(9,Z3 ob3 n2 cap3),(10,Iw i2),(11,Iw zs.1),(12,Iw zs.2)]) (fun _ (_:Unit)=>[Q3 ob3 cap3 n2,X48 b p]) ((0 : Int),(0 : Int)) () (fun _=>R) hm (Af [0,0] R R) fun n5=>Pq fun k2 j2 _ hm=> ?_
    rw [ref11_Counts.l2] at hm
    refine Ae<|Ah<|Aa tbk [] 2 R R<|Ab R R (Aw T_api_Bound.vv R Bl)<|Ab R R (A6 R R R)<|Ac<|Al hm R (fun h11 hm=>?_) fun h11 hm=> ?_
    ·exact Aj<|Ae<|Ay<|Ah<|Aa tbk [] 3 R R<|Bd hm fun x h12 hm=>Ab R R (A0 T_api_Bound.vv R R el23 h12)<|Aa tbk [] 2 R R<|Ad R R<|Am hm 0 R fn150 R (K123 _ _) fun r2 hm=>Aa tbk [] 5 R R<|Ac<|Ae<|Ba 0 mixed<|Av tbk [0,1] [] (by kernel_rfl) R R R<|Bd hm fun x2 h14 hm=>Ax 2 R R R (by kernel_rfl) (A0 T_api_Bound.vv R R el23 h14)<|Av tbk [3,4,5,6] [] (by kernel_rfl) R R R<|Cq hm [16,15,14,13,12,11,10,9,8,7,6,5,4,3,2,1,0] 55 45 R (fun _ K' h15 J hm=>Av tbk [7,8] [] (by kernel_rfl) R R R<|Bd hm fun x3 h16 hm=>B8 9 R R R R R R (by kernel_rfl) (A0 T_api_Bound.vv R R el23 h16)<|Av tbk [10,11,12,13,14,15,16] [1] (by kernel_rfl) R R R<|J 9 R R (Bj hm)) (fun _ K' h15 J hm=>Av tbk [7,8,9,10,11,12,13,14,15,16] [] (by kernel_rfl) R R R<|J 9 R R (Bj hm)) fun c hm=>Ax 17 R R R (by kernel_rfl) (Ak R)<|C4 [19,18,17,16,15,14,13,12,11,10,9,8,7,6,5,4,3,2,1,0] 58 56 R (fun h18 K' J=>Av tbk [18,19] [] (by kernel_rfl) R R R<|J 1 R R R) (fun K' J=>Av tbk [18,19] [] (by kernel_rfl) R R R<|J 1 R R R)<|Ax 20 R R R (by kernel_rfl) (Ak R)<|Cq hm [27,26,25,24,23,22,21,20,19,18,17,16,15,14,13,12,11,10,9,8,7,6,5,4,3,2,1,0] 66 59 R (fun _ K' h19 J hm=>Av tbk [21,22,23] [] (by kernel_rfl) R R R<|Bd hm fun x4 h20 hm=>B8 24 R R R R R R (by kernel_rfl) (A0 VV.str R R el51 h20)<|Av tbk [25,26,27] [] (by kernel_rfl) R R R<|J 6 R R (Bj hm)) (fun _ K' h19 J hm=>Av tbk [21,22,23,24,25,26,27] [] (by kernel_rfl) R R R<|J 6 R R (Bj hm)) fun c2 hm=>Ax 28 R R R (by kernel_rfl) (Ak R)<|Cq hm [38,37,36,35,34,33,32,31,30,29,28,27,26,25,24,23,22,21,20,19,18,17,16,15,14,13,12,11,10,9,8,7,6,5,4,3,2,1,0] 77 67 R (fun _ K' h22 J hm=>Av tbk [29,30] [] (by kernel_rfl) R R R<|Bd hm fun x5 h23 hm=>B8 31 R R R R R R (by kernel_rfl) (A0 T_api_Bound.vv R R el23 h23)<|Av tbk [32,33,34,35,36] [1] (by kernel_rfl) R R R<|Ao 37 (by kernel_rfl)<|Cy R R R R R R<|Am hm 0 R fn143 R (K107 _ _) fun r3 hm=>Ax 38 R R R (by kernel_rfl) (Bb true R R R)<|J 9 R R (Bj hm)) (fun _ K' h22 J hm=>Av tbk [29,30,31,32,33,34,35,36,37,38] [] (by kernel_rfl) R R R<|J 9 R R (Bj hm)) fun c3 hm=>A4 (by kernel_rfl)<|Al hm R (fun h26 hm=>A5 tbk [] R R<|A5 tbk [] R R<|Ap ((IntKind.i64.wrap (k2 + (1 : Int))),(IntKind.i64.wrap (j2 + (1 : Int)))) () hm (Af [0,0] R R)) fun h26 hm=>Aj<|A5 tbk [] R R<|Ap (k2,(IntKind.i64.wrap (j2 + (1 : Int)))) () hm (Af [0,0] R R)
    exact A3<|As () hm (Af [0,0] R R)
   exact Bp<|Aa tbk [] 2 R R<|Ad R R<|Bi ap41 R R R R R fun b2=>Bd hm fun n6 h28 hm=>Ad R R<|B5 1 (VV.int .i64) (l:=n2) (l2:=[k32]) ap41 R R (sT_row 0 (VV.int .i64) el41 R R) h28 fun ob5 cap5=>Ab R R (Ai R)<|Ac<|A5 tbk [] R R<|Ap (n6,(IntKind.i64.wrap (i2 + (1 : Int)))) (ob5,cap5) hm (Af [1,1] R R)
  exact A3<|As (ob3,cap3) hm (Af [0] R R)
 exact Ag tbk [] R R<|Rg2 hm R [0] ob4 cap4 (.cons (.tmp _ _ R) (.cons (.tmp _ _ R) .nil)) R R

/-! trireme/triremeref11.Many -/
def ref11_Many.l1 (r2 : ByteArray × Bool) (r3 : List ByteArray × List Int) : Nat → Int → Int → Int → Option (Int × Int)
 | 0, _, _, _ => none
 | n + 1, mine2, least2, i2 =>
  if (decide (i2 < (r3.1.length : Int))) = true then
   (if (i2 == 0) = true then some true else (V.gl r3.2 i2).bind fun x =>
   some (decide (x < least2))).bind fun c2 =>
   if c2 = true then
    (V.gl r3.2 i2).bind fun x2 =>
    (if r2.2 = true then (V.gl r3.1 i2).bind fun x3 =>
    some (V.seq x3 r2.1) else some false).bind fun c3 =>
    if c3 = true then
     (V.gl r3.2 i2).bind fun x4 =>
     ref11_Many.l1 r2 r3 n x4 x2 (i64.wrap (i2 + 1))
    else
     ref11_Many.l1 r2 r3 n mine2 x2 (i64.wrap (i2 + 1))
   else
    (if r2.2 = true then (V.gl r3.1 i2).bind fun x5 =>
    some (V.seq x5 r2.1) else some false).bind fun c4 =>
    if c4 = true then
     (V.gl r3.2 i2).bind fun x6 =>
     ref11_Many.l1 r2 r3 n x6 least2 (i64.wrap (i2 + 1))
    else
     ref11_Many.l1 r2 r3 n mine2 least2 (i64.wrap (i2 + 1))
  else
   some (mine2, least2)
def ref11_Many (ms : List T_api_Machine) (bs : List T_api_Bound) (p : T_api_Pod) (on_ : ByteArray) : Option Bool :=
 (if ((p.Spread.length : Int) == 0) = true then some true else (ref09_Find ms on_).bind fun r =>
 some (decide (r < 0))).bind fun c =>
 if c = true then
  some false
 else
  (ref11_zone ms on_).bind fun r2 =>
  (ref11_Counts ms bs p).bind fun r3 =>
  (ref11_Many.l1 r2 r3 FU (-1) 0 (0 : Int)).bind fun j =>
  if (decide (j.1 < 0)) = true then
   some true
  else
   (ref05_Has p.Labels p.Spread).bind fun r4 =>
   if r4 = true then
    some (decide ((i64.wrap ((i64.wrap (j.1 + 1)) - j.2)) > p.Skew))
   else
    some (decide ((i64.wrap (j.1 - j.2)) > p.Skew))
theorem K128 (ms : List T_api_Machine) (bs : List T_api_Bound) (p : T_api_Pod) (on_ : ByteArray) : VS Tryz.prog 118 (ref11_Many ms bs p on_) [L30 ms, L50 bs, T_api_Pod.vv p, .str on_] [] .bool N0 := by
 refine Az [.tmp 8] Tryz.func118 R R R fun r hm=>?_
 unfold ref11_Many at hm
 refine Ah<|Ad R R<|A8 R R fun b=>Ab R R (Ai R)<|Ac<|Ae<|Ah<|Aa tbk [0] 2 R R<|Ab R R (Aw T_api_Label.vv R Bk)<|Aa tbk [] 2 R R<|Bc hm 5 25 20 R (fun _ K' h2 J hm=>Aa tbk [] 5 R R<|J 4 R R (Bj hm)) (fun _ K' h2 J hm=>Aa tbk [] 2 R R<|A7 R R R R R<|Am hm 0 R fn80 R (K31 _ _) fun r hm=>Aa tbk [] 2 R R<|J 4 R R (Bj hm)) fun c hm=>Ac<|Al hm R (fun h5 hm=>Ag tbk [] R R<|Rt1 hm R [] R R R) fun h5 hm=>Aj<|Ah<|Aa tbk [] 2 R R<|Ad R R<|Am hm 0 R fn150 R (K123 _ _) fun r2 hm=>Aa tbk [] 5 R R<|Ac<|Ah<|Aa tbk [0] 3 R R<|Ad R R<|B9 hm 0 R fn151 R (K127 _ _ _) fun r3 ob cap hm=>Aa tbk [] 5 R R<|Ac<|Ag tbk [] R R<|Ag tbk [] R R<|Ae<|Ag tbk [] R R<|Bz hm (fun j (_:Unit)=>[(6,.ptr b 0),(13,Iw j.1),(14,Iw j.2)]) (fun _ (_:Unit)=>[X48 b p]) (fun o hm=>?_) fun j _ hm=> ?_
 ·refine Bo (fun zn (zs:Int × Int × Int)=>ref11_Many.l1 r2 r3 zn zs.1 zs.2.1 zs.2.2) (fun zs (zg:Option Nat)=>[(6,.ptr b 0),(9,.str r2.1),(10,.bool r2.2),(11,L9 r3.1),(12,Z3 zg r3.2 cap),(13,Iw zs.1),(14,Iw zs.2.1),(15,Iw zs.2.2)]) (fun _ (zg:Option Nat)=>[Q3 zg cap r3.2,X48 b p]) ((-1 : Int),(0 : Int),(0 : Int)) _ (fun _=>R) hm (Af [0,0] R R) fun n=>Pq fun mine2=>Pq fun least2 i2 ob3 hm=> ?_
  rw [ref11_Many.l1] at hm
  refine Ae<|Ah<|Aa tbk [] 2 R R<|Ab R R (Aw VV.str R Bt)<|Ab R R (A6 R R R)<|Ac<|Al hm R (fun h11 hm=>?_) fun h11 hm=> ?_
  ·refine Aj<|Ae<|Ay<|Ae<|Ah<|Aa tbk [] 3 R R<|Bc hm 7 54 47 R (fun _ K' h12 J hm=>Aa tbk [] 7 R R<|J 6 R R (Bj hm)) (fun _ K' h12 J hm=>?_) fun c2 hm=> ?_
   ·refine Aa tbk [] 2 R R<|Bd hm fun x h13 hm=>Cm 0 R (gl_pos (VV.int .i64) h13) fun b2 h14=> ?_
    subst h14
    exact Bg R R R R R (Cs (VV.int .i64) R R el41 h13)<|Bg R R R R R (Cr (i:=0) (y:=(VV.int .i64) x) R R R (gl_map _ (gl_some h13).2) ld3 R)<|Aa tbk [] 3 R R<|J 6 R R (Bj hm)
   refine Ac<|Al hm R (fun h16 hm=>?_) fun h16 hm=> ?_
   ·refine Bp<|Aa tbk [] 2 R R<|Bd hm fun x2 h17 hm=>Cm 0 R (gl_pos (VV.int .i64) h17) fun b3 h18=> ?_
    subst h18
    exact Ab R R (Cs (VV.int .i64) R R el41 h17)<|Ab R R (Cr (i:=0) (y:=(VV.int .i64) x2) R R R (gl_map _ (gl_some h17).2) ld3 R)<|Ab R R (Ai R)<|Ac<|Ah<|Aa tbk [] 2 R R<|Bc hm 7 67 60 R (fun _ K' h19 J hm=>Aa tbk [] 2 R R<|Bd hm fun x3 h20 hm=>Bg R R R R R (A0 VV.str R R el51 h20)<|Aa tbk [] 4 R R<|J 6 R R (Bj hm)) (fun _ K' h19 J hm=>Aa tbk [] 7 R R<|J 6 R R (Bj hm)) fun c3 hm=>Ac<|Al hm R (fun h22 hm=>Bp<|Aa tbk [] 2 R R<|Bd hm fun x4 h23 hm=>Ab R R (Cs (VV.int .i64) R R el41 h23)<|Ab R R (Cr (i:=0) (y:=(VV.int .i64) x4) R R R (gl_map _ (gl_some h23).2) ld3 R)<|Ab R R (Ai R)<|Ac<|A5 tbk [] R R<|Ap (x4,x2,(IntKind.i64.wrap (i2 + (1 : Int)))) _ hm (Af [0,0] R R)) fun h22 hm=>Aj<|A5 tbk [] R R<|Ap (mine2,x2,(IntKind.i64.wrap (i2 + (1 : Int)))) _ hm (Af [0,0] R R)
   refine Aj<|Ah<|Aa tbk [] 2 R R<|Bc hm 7 67 60 R (fun _ K' h24 J hm=>Aa tbk [] 2 R R<|Bd hm fun x5 h25 hm=>Bg R R R R R (A0 VV.str R R el51 h25)<|Aa tbk [] 4 R R<|J 6 R R (Bj hm)) (fun _ K' h24 J hm=>Aa tbk [] 7 R R<|J 6 R R (Bj hm)) fun c4 hm=>Ac<|Al hm R (fun h27 hm=>?_) fun h27 hm=> ?_
   ·refine Bp<|Aa tbk [] 2 R R<|Bd hm fun x6 h28 hm=>Cm 0 R (gl_pos (VV.int .i64) h28) fun b4 h29=> ?_
    subst h29
    exact Ab R R (Cs (VV.int .i64) R R el41 h28)<|Ab R R (Cr (i:=0) (y:=(VV.int .i64) x6) R R R (gl_map _ (gl_some h28).2) ld3 R)<|Ab R R (Ai R)<|Ac<|A5 tbk [] R R<|Ap (x6,least2,(IntKind.i64.wrap (i2 + (1 : Int)))) _ hm (Af [0,0] R R)
   exact Aj<|A5 tbk [] R R<|Ap (mine2,least2,(IntKind.i64.wrap (i2 + (1 : Int)))) _ hm (Af [0,0] R R)
  exact A3<|As () hm (Af [1] R R)
 exact Ae<|Ag tbk [] R R<|Al hm R (fun h30 hm=>Ag tbk [] R R<|Rt1 hm R [] R R R) fun h30 hm=>Aj<|Ae<|Ah<|Aa tbk [0,0] 4 R R<|Ad R R<|Am hm 0 R fn143 R (K107 _ _) fun r4 hm=>Ac<|Al hm R (fun h32 hm=>A5 tbk [] R R<|Ag tbk [0] R R<|Rt1 hm R [] R R R) fun h32 hm=>Aj<|Ag tbk [0] R R<|Rt1 hm R [] R R R

/-! trireme/triremeref11.Why -/
def ref11_Why (ms : List T_api_Machine) (bs : List T_api_Bound) (p : T_api_Pod) (on_ : ByteArray) : Option Int :=
 (ref11_Near ms bs p on_).bind fun r =>
 if r = true then
  some 7
 else
  (ref11_Many ms bs p on_).bind fun r2 =>
  if r2 = true then
   some 8
  else
   some 0
theorem K129 (ms : List T_api_Machine) (bs : List T_api_Bound) (p : T_api_Pod) (on_ : ByteArray) : VS Tryz.prog 82 (ref11_Why ms bs p on_) [L30 ms, L50 bs, T_api_Pod.vv p, .str on_] [] Iw N0 := by
 refine Az [.tmp 8] Tryz.func82 R R R fun r hm=>?_
 unfold ref11_Why at hm
 exact Ah<|Ad R R<|A8 R R fun b=>Ab R R (Ai R)<|Ac<|Ae<|Ah<|Aa tbk [0] 4 R R<|Ad R R<|Am hm 0 R fn117 R (K125 _ _ _ _) fun r hm=>Ac<|Al hm R (fun h3 hm=>Ag tbk [] R R<|Rt1 hm R [] R R R) fun h3 hm=>Aj<|Ae<|Ah<|Aa tbk [0] 4 R R<|Ad R R<|Am hm 0 R fn118 R (K128 _ _ _ _) fun r2 hm=>Ac<|Al hm R (fun h5 hm=>Ag tbk [] R R<|Rt1 hm R [] R R R) fun h5 hm=>Aj<|Ag tbk [] R R<|Rt1 hm R [] R R R

/-! trireme/triremeref12.Why -/
def ref12_Why (ms : List T_api_Machine) (bs : List T_api_Bound) (p : T_api_Pod) (on_ : ByteArray) : Option Int :=
 (ref09_Find ms on_).bind fun r =>
 if (decide (r < 0)) = true then
  some 1
 else
  (V.gl ms r).bind fun x =>
  (ref10_Suits x bs p).bind fun r2 =>
  if (r2 != 0) = true then
   some r2
  else
   (ref11_Why ms bs p on_).bind fun r3 =>
   some r3
theorem K130 (ms : List T_api_Machine) (bs : List T_api_Bound) (p : T_api_Pod) (on_ : ByteArray) : VS Tryz.prog 34 (ref12_Why ms bs p on_) [L30 ms, L50 bs, T_api_Pod.vv p, .str on_] [] Iw N0 := by
 refine Az [.tmp 8] Tryz.func34 R R R fun r hm=>?_
 unfold ref12_Why at hm
 exact Ah<|Ad R R<|A8 R R fun b=>Ab R R (Ai R)<|Ac<|Ah<|Aa tbk [] 2 R R<|Ad R R<|Am hm 0 R fn80 R (K31 _ _) fun r hm=>Ab R R (Ai R)<|Ac<|Ae<|Ag tbk [] R R<|Al hm R (fun h3 hm=>Ag tbk [] R R<|Rt1 hm R [] R R R) fun h3 hm=>Aj<|Ae<|Ba 0 mixed<|Av tbk [0,1] [] (by kernel_rfl) R R R<|Bd hm fun x h4 hm=>Ax 2 R R R (by kernel_rfl) (A0 T_api_Machine.vv R R el22 h4)<|Av tbk [3,4,5] [0] (by kernel_rfl) R R R<|Ao 6 (by kernel_rfl)<|Aq R R R<|Am hm 0 R fn81 R (K122 _ _ _) fun r2 hm=>Ax 7 R R R (by kernel_rfl) (Ai R)<|A4 (by kernel_rfl)<|Ae<|Ag tbk [] R R<|Al hm R (fun h6 hm=>Ag tbk [] R R<|Rt1 hm R [] R R R) fun h6 hm=>Aj<|Ah<|Aa tbk [0] 4 R R<|Ad R R<|Am hm 0 R fn82 R (K129 _ _ _ _) fun r3 hm=>Ab R R (Ai R)<|Ac<|Rt1 hm R [] R R R

/-! trireme/triremeref12.Where -/
def ref12_Where.l1 (ms : List T_api_Machine) (bs : List T_api_Bound) (p : T_api_Pod) : Nat → (List ByteArray) → Int → Option (List ByteArray)
 | 0, _, _ => none
 | n + 1, out2, i2 =>
  if (decide (i2 < (ms.length : Int))) = true then
   (V.gl ms i2).bind fun x =>
   (ref12_Why ms bs p x.Name).bind fun r =>
   if (r == 0) = true then
    (V.gl ms i2).bind fun x2 =>
    (V.ap 16 out2 [x2.Name]).bind fun out4 =>
    ref12_Where.l1 ms bs p n out4 (i64.wrap (i2 + 1))
   else
    ref12_Where.l1 ms bs p n out2 (i64.wrap (i2 + 1))
  else
   some out2
def ref12_Where (ms : List T_api_Machine) (bs : List T_api_Bound) (p : T_api_Pod) : Option (List ByteArray) :=
 (ref12_Where.l1 ms bs p FU ([] : List ByteArray) (0 : Int)).bind fun out32 =>
 some out32
theorem K131 (ms : List T_api_Machine) (bs : List T_api_Bound) (p : T_api_Pod) : VS2 Tryz.prog 36 (ref12_Where ms bs p) [L30 ms, L50 bs, T_api_Pod.vv p] [] (fun r ob0 cap0=>Z9 ob0 r cap0) (fun r ob0 cap0=>[Q9 ob0 cap0 r]) := by
 refine Ci [.tmp 6] Tryz.func36 R R R fun r hm=>?_
 unfold ref12_Where at hm
 refine Ah<|Ad R R<|A8 R R fun b=>Ab R R (Ai R)<|Ac<|Ag tbk [] R R<|Ae<|Ag tbk [] R R<|Bz hm (fun out32 (gg:Option Nat × Nat)=>[(7,Z9 gg.1 out32 gg.2)]) (fun out32 (gg:Option Nat × Nat)=>[Q9 gg.1 gg.2 out32]) (fun o hm=>?_) fun out32=>Pq fun ob3 cap3 hm=> ?_
 ·refine Bo (fun zn (zs:List ByteArray × Int)=>ref12_Where.l1 ms bs p zn zs.1 zs.2) (fun zs (zg:Option Nat × Nat)=>[(0,L30 ms),(1,L50 bs),(5,.ptr b 0),(7,Z9 zg.1 zs.1 zg.2),(8,Iw zs.2)]) (fun zs (zg:Option Nat × Nat)=>[Q9 zg.1 zg.2 zs.1,X48 b p]) (([] : List ByteArray),(0 : Int)) (none,0) (fun _=>R) hm (A9 (Bf 9) (Af [0,0] R R)) fun n=>Pq fun out2 i2=>Pq fun ob2 cap2 hm=> ?_
  rw [ref12_Where.l1] at hm
  exact Ae<|Ah<|Aa tbk [] 2 R R<|Ab R R (Aw T_api_Machine.vv R Bu)<|Ab R R (A6 R R R)<|Ac<|Al hm R (fun h6 hm=>Aj<|Ae<|Ay<|Ae<|Ba 0 mixed<|Av tbk [0,1,2,3,4] [1] (by kernel_rfl) R R R<|Bd hm fun x h7 hm=>Ax 5 R R R (by kernel_rfl) (A0 T_api_Machine.vv R R el22 h7)<|Av tbk [6,7] [] (by kernel_rfl) R R R<|Ao 8 (by kernel_rfl)<|Aq R R R<|Am hm 0 R fn34 R (K130 _ _ _ _) fun r hm=>Ax 9 R R R (by kernel_rfl) (A6 R R R)<|A4 (by kernel_rfl)<|Al hm R (fun h9 hm=>Bp<|Aa tbk [] 3 R R<|Bd hm fun x2 h10 hm=>Ab R R (A0 T_api_Machine.vv R R el22 h10)<|Aa tbk [] 2 R R<|Ad R R<|Bi ap51 R R R R R fun b2=>Bd hm fun out4 h12 hm=>Ad R R<|B5 1 VV.str (l:=out2) (l2:=[x2.Name]) ap51 R R (sT_row 0 VV.str el51 R R) h12 fun ob4 cap4=>Ab R R (Ai R)<|Ac<|A5 tbk [] R R<|Ap (out4,(IntKind.i64.wrap (i2 + (1 : Int)))) (ob4,cap4) hm (Af [1,1] R R)) fun h9 hm=>Aj<|A5 tbk [] R R<|Ap (out2,(IntKind.i64.wrap (i2 + (1 : Int)))) (ob2,cap2) hm (Af [0,0] R R)) fun h6 hm=>A3<|As (ob2,cap2) hm (Af [0] R R)
 exact Ag tbk [] R R<|Rg2 hm R [0] ob3 cap3 (.cons (.tmp _ _ R) .nil) R R

/-! trireme/triremeref06.Prefers -/
def ref06_Prefers (l : List T_api_Toleration) (taints : List T_api_Taint) : Option Int :=
 (ref06_Unborne l taints (2 : Int)).bind fun r =>
 some (r.length : Int)
theorem K132 (l : List T_api_Toleration) (taints : List T_api_Taint) : VS Tryz.prog 152 (ref06_Prefers l taints) [L128 l, L126 taints] [] Iw N0 := by
 refine Az [.tmp 4] Tryz.func152 R R R fun r hm=>?_
 unfold ref06_Prefers at hm
 exact Ag tbk [] R R<|Ah<|Aa tbk [] 2 R R<|Ad R R<|B9 hm 0 R fn165 R (K111 _ _ _) fun r ob cap hm=>Bn (A2 0 [(7,L126 r)] R ⟨⟨_,R,.here _ R⟩,trivial⟩ (FzH.refl _))<|Ab R R (Aw T_api_Taint.vv R Bw)<|Ab R R (Ai R)<|Ac<|Rt1 hm R [] R R R

/-! trireme/triremeref10.Prefers -/
def ref10_Prefers (m : T_api_Machine) (p : T_api_Pod) : Option Int :=
 (ref06_Prefers p.Bears m.Taints).bind fun r =>
 some r
theorem K133 (m : T_api_Machine) (p : T_api_Pod) : VS Tryz.prog 119 (ref10_Prefers m p) [T_api_Machine.vv m, T_api_Pod.vv p] [] Iw N0 := by
 refine Az [.tmp 4] Tryz.func119 R R R fun r hm=>?_
 unfold ref10_Prefers at hm
 exact Ah<|Ad R R<|A8 R R fun b=>Ad R R<|A8 R R fun b2=>Ab R R (Ai R)<|Ac<|Ah<|Aa tbk [0,1] 4 R R<|Ad R R<|Am hm 0 R fn152 R (K132 _ _) fun r hm=>Ab R R (Ai R)<|Ac<|Rt1 hm R [] R R R

/-! trireme/triremeref04.part -/
def ref04_part (a : Int) (b : Int) : Option Int :=
 if (b == 0) = true then
  if (a == 0) = true then
   some 0
  else
   some 1000000
 else
  (V.quo (i64.wrap (1000 * a)) b).bind fun v =>
  some (min (i64.wrap v) 1000000)
theorem K134 (a : Int) (b : Int) : VS Tryz.prog 98 (ref04_part a b) [Iw a, Iw b] [] Iw N0 := by
 refine Az [.tmp 4] Tryz.func98 R R R fun r hm=>?_
 unfold ref04_part at hm
 exact Ag tbk [] R R<|Ae<|Ag tbk [] R R<|Al hm R (fun h1 hm=>Ae<|Ag tbk [] R R<|Al hm R (fun h2 hm=>Ag tbk [] R R<|Rt1 hm R [] R R R) fun h2 hm=>Aj<|Ag tbk [] R R<|Rt1 hm R [] R R R) fun h1 hm=>Aj<|Ah<|Aa tbk [] 3 R R<|Bd hm fun v h3 hm=>Ab R R (C0 R R h3)<|Ab R R (C9 R R)<|Ab R R (Ai R)<|Ac<|Rt1 hm R [] R R R

/-! trireme/triremeref04.Share -/
def ref04_Share (a : T_api_Res) (b : T_api_Res) : Option Int :=
 (ref04_Right a).bind fun r =>
 (if (!r) = true then some true else (ref04_Right b).bind fun r2 =>
 some (!r2)).bind fun c =>
 if c = true then
  some 0
 else
  (ref04_part a.Cpu b.Cpu).bind fun r3 =>
  (ref04_part a.Mem b.Mem).bind fun r4 =>
  some (max r3 r4)
theorem K135 (a : T_api_Res) (b : T_api_Res) : VS Tryz.prog 58 (ref04_Share a b) [T_api_Res.vv a, T_api_Res.vv b] [] Iw N0 := by
 refine Az [.tmp 4] Tryz.func58 R R R fun r hm=>?_
 unfold ref04_Share at hm
 exact Ah<|Ad R R<|A8 R R fun b2=>Ad R R<|A8 R R fun b3=>Ab R R (Ai R)<|Ac<|Ae<|Ah<|Aa tbk [1] 1 R R<|Ad R R<|Am hm 0 R fn70 R (K15 _) fun r hm=>Aa tbk [] 2 R R<|Bc hm 4 12 8 R (fun _ K' h4 J hm=>Aa tbk [] 4 R R<|J 3 R R (Bj hm)) (fun _ K' h4 J hm=>Aa tbk [0] 1 R R<|A7 R R R R R<|Am hm 0 R fn70 R (K15 _) fun r2 hm=>Aa tbk [] 2 R R<|J 3 R R (Bj hm)) fun c hm=>Ac<|Al hm R (fun h7 hm=>Ag tbk [] R R<|Rt1 hm R [] R R R) fun h7 hm=>Aj<|Ae<|Ba 0 mixed<|Av tbk [0,1,2,3,5,6,7,8] [1,0,1,0] (by kernel_rfl) R R R<|Ao 4 (by kernel_rfl)<|Aq R R R<|Am hm 0 R fn98 R (K134 _ _) fun r3 hm=>Ao 9 (by kernel_rfl)<|Aq R R R<|Am hm 0 R fn98 R (K134 _ _) fun r4 hm=>Ax 10 R R R (by kernel_rfl) (C1 R R)<|Ax 11 R R R (by kernel_rfl) (Ai R)<|A4 (by kernel_rfl)<|Rt1 hm R [] R R R

/-! trireme/triremeref14.Among -/
def ref14_Among.l1 (ms : List T_api_Machine) (bs : List T_api_Bound) (p : T_api_Pod) (l : List ByteArray) : Nat → ByteArray → Int → Int → Int → Option ByteArray
 | 0, _, _, _, _ => none
 | n + 1, best2, worst2, share2, i2 =>
  if (decide (i2 < (l.length : Int))) = true then
   (V.gl l i2).bind fun x =>
   (ref09_Find ms x).bind fun r =>
   (V.gl ms r).bind fun x2 =>
   (ref10_Prefers x2 p).bind fun r2 =>
   ((ref10_Others bs p.Name).bind fun r3 =>
   (ref09_Used r3 x2.Name).bind fun r4 =>
   some r4.1).bind fun u2 =>
   (ref04_Share u2 x2.Has).bind fun r8 =>
   if (((V.seq best2 (⟨#[]⟩ : ByteArray)) || (decide (r2 < worst2))) || ((r2 == worst2) && (decide (r8 < share2)))) = true then
    ref14_Among.l1 ms bs p l n x2.Name r2 r8 (i64.wrap (i2 + 1))
   else
    ref14_Among.l1 ms bs p l n best2 worst2 share2 (i64.wrap (i2 + 1))
  else
   some best2
def ref14_Among (ms : List T_api_Machine) (bs : List T_api_Bound) (p : T_api_Pod) (l : List ByteArray) : Option ByteArray :=
 (ref14_Among.l1 ms bs p l FU (⟨#[]⟩ : ByteArray) 0 0 (0 : Int)).bind fun best32 =>
 some best32
theorem K136 (ms : List T_api_Machine) (bs : List T_api_Bound) (p : T_api_Pod) (l : List ByteArray) : VS Tryz.prog 83 (ref14_Among ms bs p l) [L30 ms, L50 bs, T_api_Pod.vv p, L9 l] [] .str N0 := by
 refine Az [.tmp 8] Tryz.func83 R R R fun r hm=>?_
 unfold ref14_Among at hm
 refine Ah<|Ad R R<|A8 R R fun b=>Ab R R (Ai R)<|Ac<|Ag tbk [] R R<|Ag tbk [] R R<|Ag tbk [] R R<|Ae<|Ag tbk [] R R<|Bz hm (fun best32 (_:Unit)=>[(9,.str best32)]) (fun _ (_:Unit)=>[]) (fun o hm=>?_) fun best32 _ hm=> ?_
 ·refine Bo (fun zn (zs:ByteArray × Int × Int × Int)=>ref14_Among.l1 ms bs p l zn zs.1 zs.2.1 zs.2.2.1 zs.2.2.2) (fun zs (_:Unit)=>[(0,L30 ms),(1,L50 bs),(3,L9 l),(6,.ptr b 0),(9,.str zs.1),(10,Iw zs.2.1),(11,Iw zs.2.2.1),(12,Iw zs.2.2.2)]) (fun _ (_:Unit)=>[X48 b p]) ((⟨#[]⟩ : ByteArray),(0 : Int),(0 : Int),(0 : Int)) () (fun _=>R) hm (Af [0] R R) fun n=>Pq fun best2=>Pq fun worst2=>Pq fun share2 i2 _ hm=> ?_
  rw [ref14_Among.l1] at hm
  refine Ae<|Ah<|Aa tbk [] 2 R R<|Ab R R (Aw VV.str R Bt)<|Ab R R (A6 R R R)<|Ac<|Al hm R (fun h4 hm=>?_) fun h4 hm=> ?_
  ·refine Aj<|Ae<|Ay<|Ah<|Aa tbk [] 4 R R<|Bd hm fun x h5 hm=>Ab R R (A0 VV.str R R el51 h5)<|Ab R R (Bh R ld9 R)<|Ad R R<|Am hm 0 R fn80 R (K31 _ _) fun r hm=>Bd hm fun x2 h7 hm=>Ab R R (A0 T_api_Machine.vv R R el22 h7)<|Ab R R (Bh R ld30 R)<|Ad R R<|Au z30 fun b2=>Ad R R<|An (i:=0) R R R ld30 R R R<|Ac<|Ah<|Aa tbk [0,1] 2 R R<|Ad R R<|Am hm 0 R fn119 R (K133 _ _) fun r2 hm=>Ab R R (Ai R)<|Ac<|Cx hm (fun _ (gg:Nat)=>[(0,L30 ms),(1,L50 bs),(3,L9 l),(6,.ptr b 0),(9,.str best2),(10,Iw worst2),(11,Iw share2),(12,Iw i2),(13,.ptr b2 0),(14,Iw r2),(15,.ptr gg 0)]) (fun u2 (gg:Nat)=>[X26 gg u2,X30 b2 x2,X48 b p]) (fun o2 hm=>?_) fun u2 b3 hm=> ?_
   ·refine Ba 0 mixed<|Av tbk [0,1,2,4,5] [1,0] (by kernel_rfl) R R R<|?_
    refine B0 [3,10] (by kernel_rfl) ⟨?_,?_,trivial⟩
    ·refine Aq R R R<|B9 hm 0 R fn62 R (K115 _ _) fun r3 ob cap hm=>C5 (A2 0 [(40,L50 r3)] R ⟨⟨_,R,.here _ R⟩,trivial⟩ (FzH.refl _))<|?_
     refine B0 [6,10] (by kernel_rfl) ⟨?_,?_,trivial⟩
     ·exact Aq R R R<|Am hm 0 R fn120 R (K118 _ _) fun r4 hm=>Av tbk [7,8,9] [] (by kernel_rfl) R R R<|Ao 10 (by kernel_rfl)<|Aq R R R<|Au z26 fun b4=>Ao 11 (by kernel_rfl)<|Aq R R R<|An (i:=0) R R R ld26 R R R<|Ax 12 R R R (by kernel_rfl) (Ai R)<|A4 (by kernel_rfl)<|As _ hm (Af [0,0,0] R R)
     ·exact Aq R R R<|Au z26 fun b5=>Ao 6 (by kernel_rfl)<|Aq R R R<|Am hm 0 R fn120 R (K118 _ _) fun r5 hm=>Av tbk [7,8,9] [] (by kernel_rfl) R R R<|Ao 11 (by kernel_rfl)<|Aq R R R<|An (i:=0) R R R ld26 R R R<|Ax 12 R R R (by kernel_rfl) (Ai R)<|A4 (by kernel_rfl)<|As _ hm (Af [0,0,0] R R)
    ·exact Aq R R R<|Au z26 fun b6=>Ao 3 (by kernel_rfl)<|Aq R R R<|B9 hm 0 R fn62 R (K115 _ _) fun r6 ob2 cap2 hm=>C5 (A2 0 [(40,L50 r6)] R ⟨⟨_,R,.here _ R⟩,trivial⟩ (FzH.refl _))<|Ao 6 (by kernel_rfl)<|Aq R R R<|Am hm 0 R fn120 R (K118 _ _) fun r7 hm=>Av tbk [7,8,9] [] (by kernel_rfl) R R R<|Ao 11 (by kernel_rfl)<|Aq R R R<|An (i:=0) R R R ld26 R R R<|Ax 12 R R R (by kernel_rfl) (Ai R)<|A4 (by kernel_rfl)<|As _ hm (Af [0,0,0] R R)
   exact Ah<|Aa tbk [0,1] 3 R R<|Ad R R<|Am hm 0 R fn58 R (K135 _ _) fun r8 hm=>Ab R R (Ai R)<|Ac<|Ah<|Aa tbk [] 3 R R<|Ce tbk [] 4 56 52 R R R R R<|Ab R R (Ak R)<|Ct 9 66 57 R (fun K' J=>Aa tbk [] 9 R R<|J 8 R R R) (fun h25 K' J=>Aa tbk [] 4 R R<|Bv tbk [] 4 65 61 R R R R R<|Ab R R (Bb false R R R)<|J 5 R R R)<|Ac<|Al hm R (fun h27 hm=>Ag tbk [1] R R<|Ag tbk [] R R<|A5 tbk [] R R<|A5 tbk [] R R<|Ap (x2.Name,r2,r8,(IntKind.i64.wrap (i2 + (1 : Int)))) () hm (Af [2] R R)) fun h27 hm=>Aj<|A5 tbk [] R R<|Ap (best2,worst2,share2,(IntKind.i64.wrap (i2 + (1 : Int)))) () hm (Af [2] R R)
  exact A3<|As () hm (Af [] R R)
 exact Ag tbk [] R R<|Rt1 hm R [] R R R

/-! trireme/triremeref14.Best -/
def ref14_Best (ms : List T_api_Machine) (bs : List T_api_Bound) (p : T_api_Pod) : Option ByteArray :=
 (ref12_Where ms bs p).bind fun r =>
 (ref14_Among ms bs p r).bind fun r2 =>
 some r2
theorem K137 (ms : List T_api_Machine) (bs : List T_api_Bound) (p : T_api_Pod) : VS Tryz.prog 35 (ref14_Best ms bs p) [L30 ms, L50 bs, T_api_Pod.vv p] [] .str N0 := by
 refine Az [.tmp 6] Tryz.func35 R R R fun r hm=>?_
 unfold ref14_Best at hm
 exact Ah<|Ad R R<|A8 R R fun b=>Ab R R (Ai R)<|Ac<|Ae<|Ba 0 mixed<|Av tbk [0,1,2,3,4,5] [0,0] (by kernel_rfl) R R R<|Ao 6 (by kernel_rfl)<|Aq R R R<|B9 hm 0 R fn36 R (K131 _ _ _) fun r ob cap hm=>C5 (A2 0 [(13,L9 r)] R ⟨⟨_,R,.here _ R⟩,trivial⟩ (FzH.refl _))<|Ao 7 (by kernel_rfl)<|Aq R R R<|Am hm 0 R fn83 R (K136 _ _ _ _) fun r2 hm=>Ax 8 R R R (by kernel_rfl) (Ai R)<|A4 (by kernel_rfl)<|Rt1 hm R [] R R R

/-! trireme/triremeref14.Step -/
def ref14_Step.l1 (ms : List T_api_Machine) (bs : List T_api_Bound) (r : List Int) : Nat → (List T_api_Bound) → (List T_api_Move) → Int → Option (List T_api_Bound × List T_api_Move)
 | 0, _, _, _ => none
 | n + 1, out2, moves2, i2 =>
  if (decide (i2 < (r.length : Int))) = true then
   (V.gl r i2).bind fun x =>
   (V.gl bs x).bind fun x2 =>
   (ref14_Best ms out2 x2.Pod).bind fun r2 =>
   if (!(V.seq r2 (⟨#[]⟩ : ByteArray))) = true then
    (V.gl r i2).bind fun x3 =>
    (V.gl out2 x3).bind fun x4 =>
    (V.ap 32 moves2 [(⟨x2.Pod.Name, r2⟩ : T_api_Move)]).bind fun moves4 =>
    ref14_Step.l1 ms bs r n (List.set out2 (x3).toNat (⟨x4.Pod, r2⟩ : T_api_Bound)) moves4 (i64.wrap (i2 + 1))
   else
    ref14_Step.l1 ms bs r n out2 moves2 (i64.wrap (i2 + 1))
  else
   some (out2, moves2)
def ref14_Step (ms : List T_api_Machine) (bs : List T_api_Bound) : Option (List T_api_Bound × List T_api_Move) :=
 (V.ap 288 ([] : List T_api_Bound) bs).bind fun l =>
 (ref14_Order bs).bind fun r =>
 (ref14_Step.l1 ms bs r FU l ([] : List T_api_Move) (0 : Int)).bind fun j =>
 some (j.1, j.2)
theorem K138 (ms : List T_api_Machine) (bs : List T_api_Bound) : ∀ r : List T_api_Bound × List T_api_Move, ref14_Step ms bs = some r → VC Tryz.prog 27 [L30 ms, L50 bs] [] fun zx zH => ∃ (ob0 : Option Nat) (cap0 : Nat) (ob1 : Option Nat) (cap1 : Nat), zx = .tup [Z50 ob0 r.1 cap0, Z53 ob1 r.2 cap1] ∧ zH = [Q50 ob0 cap0 r.1, Q53 ob1 cap1 r.2] := by
 refine VCx.run [.tmp 4,.tmp 5] Tryz.func27 R R R fun r hm=>?_
 unfold ref14_Step at hm
 refine Ag tbk [] R R<|Ag tbk [] R R<|Ah<|Aa tbk [] 2 R R<|Bn (Bf 50)<|Bd hm fun l h2 hm=>Ad R R<|B5 0 T_api_Bound.vv (l:=([] : List T_api_Bound)) (l2:=bs) ap23 R R (sT_list T_api_Bound.vv el23 R R) h2 fun ob cap=>Ab R R (Ai R)<|Ac<|Ag tbk [] R R<|Ah<|Ab R R (Ak R)<|Ad R R<|B9 hm 0 R fn29 R (K105 _) fun r ob2 cap2 hm=>Bn (A2 0 [(16,L3 r)] R ⟨⟨_,R,.here _ R⟩,trivial⟩ (FzH.refl _))<|Ab R R (Ai R)<|Ac<|Ae<|Ag tbk [] R R<|Bz hm (fun j (gg:Option Nat × Option Nat × Nat)=>[(6,Z50 gg.1 j.1 cap),(7,Z53 gg.2.1 j.2 gg.2.2)]) (fun j (gg:Option Nat × Option Nat × Nat)=>[Q53 gg.2.1 gg.2.2 j.2,Q50 gg.1 cap j.1]) (fun o hm=>?_) fun j=>Pq fun ob7=>Pq fun ob8 cap5 hm=> ?_
 ·refine Bo (fun zn (zs:List T_api_Bound × List T_api_Move × Int)=>ref14_Step.l1 ms bs r zn zs.1 zs.2.1 zs.2.2) (fun zs (zg:Option Nat × Option Nat × Nat)=>[(0,L30 ms),(1,L50 bs),(6,Z50 zg.1 zs.1 cap),(7,Z53 zg.2.1 zs.2.1 zg.2.2),(8,L3 r),(9,Iw zs.2.2)]) (fun zs (zg:Option Nat × Option Nat × Nat)=>[Q53 zg.2.1 zg.2.2 zs.2.1,Q50 zg.1 cap zs.1]) (l,([] : List T_api_Move),(0 : Int)) (ob,none,0) (fun _=>R) hm (A9 (Bf 53) (Af [0,0] R R)) fun n=>Pq fun out2=>Pq fun moves2 i2=>Pq fun ob5=>Pq fun ob6 cap4 hm=> ?_
  rw [ref14_Step.l1] at hm
  refine Ae<|Ah<|Aa tbk [] 2 R R<|Ab R R (Aw (VV.int .i64) R Bq)<|Ab R R (A6 R R R)<|Ac<|Al hm R (fun h9 hm=>?_) fun h9 hm=> ?_
  ·refine Aj<|Ae<|Ay<|Ah<|Aa tbk [] 3 R R<|Bd hm fun x h10 hm=>Ab R R (A0 (VV.int .i64) R R el41 h10)<|Ab R R (Bh R ld3 R)<|Bd hm fun x2 h11 hm=>Ab R R (A0 T_api_Bound.vv R R el23 h11)<|Aa tbk [] 2 R R<|Ad R R<|Au z48 fun b=>Ad R R<|An (i:=0) R R R ld48 R R R<|Ac<|Ah<|Aa tbk [0] 3 R R<|Ad R R<|VO.ce hm (A2 2 [(6,L50 out2),(32,L50 out2)] R ⟨⟨_,R,.here _ R⟩,⟨_,R,.here _ R⟩,trivial⟩ (FzH.refl _)) [.same,.same,.same] R fn35 R (K137 _ _ _) (fun _=>R) (fun _=>R) fun r2 hm=>Ab R R (Ai R)<|Ac<|Ag tbk [] R R<|Al hm R (fun h14 hm=>?_) fun h14 hm=> ?_
   ·refine Ah<|Aa tbk [] 3 R R<|Bd hm fun x3 h15 hm=>Ab R R (A0 (VV.int .i64) R R el41 h15)<|Aa tbk [] 2 R R<|Bd hm fun x4 h16 hm=>Cm 2 R (gl_pos T_api_Bound.vv h16) fun b2 h17=> ?_
    subst h17
    exact Ab R R (Cs T_api_Bound.vv R R el23 h16)<|Ab R R (C6 R fa50_1)<|Ad R R<|Db 2 (f:=T_api_Bound.vv) (l:=out2) (q:=x4) (q':=(⟨x4.Pod,r2⟩ : T_api_Bound)) R R R R h16 ld9 R R R R ⟨R,List.all_eq_true.1 R⟩<|Bn (Ck 6 (List.map T_api_Bound.vv (List.set out2 (x3).toNat (⟨x4.Pod,r2⟩ : T_api_Bound))).length R (len_set _ _ _ _))<|Bn (Ck 32 (List.map T_api_Bound.vv (List.set out2 (x3).toNat (⟨x4.Pod,r2⟩ : T_api_Bound))).length R (len_set _ _ _ _))<|Bn (Ck 37 (List.map T_api_Bound.vv (List.set out2 (x3).toNat (⟨x4.Pod,r2⟩ : T_api_Bound))).length R (len_set _ _ _ _))<|Ac<|Bp<|Aa tbk [0] 4 R R<|Ab R R (Bm pl53 R R)<|Ad R R<|Bi ap35 R R R R R fun b3=>Bd hm fun moves4 h19 hm=>Ad R R<|B5 2 T_api_Move.vv (l:=moves2) (l2:=[(⟨x2.Pod.Name,r2⟩ : T_api_Move)]) ap35 R R (sT_row 0 T_api_Move.vv el35 R R) h19 fun ob9 cap6=>Ab R R (Ai R)<|Ac<|A5 tbk [] R R<|Ap ((List.set out2 (x3).toNat (⟨x4.Pod,r2⟩ : T_api_Bound)),moves4,(IntKind.i64.wrap (i2 + (1 : Int)))) ((some b2),ob9,cap6) hm (Af [2,2] R R)
   exact Aj<|A5 tbk [] R R<|Ap (out2,moves2,(IntKind.i64.wrap (i2 + (1 : Int)))) (ob5,ob6,cap4) hm (Af [1,1] R R)
  exact A3<|As (ob5,ob6,cap4) hm (Af [0,0] R R)
 refine Ag tbk [] R R<|?_
 obtain rfl:=Option.some.inj hm
 exact VW.ret ⟨.inl R,_,.cons (.tmp _ _ R) (.cons (.tmp _ _ R) .nil),[1,0],_,R,ob7,cap,ob8,cap5,R,R⟩

/-! trireme/triremeref05.Same -/
def ref05_Same.l1 (a : List T_api_Label) (b : List T_api_Label) : Nat → Int → Option (Out Bool Unit)
 | 0, _ => none
 | n + 1, i2 =>
  if (decide (i2 < (a.length : Int))) = true then
   (V.gl a i2).bind fun x =>
   (V.gl b i2).bind fun x2 =>
   if (!(((x.Key == x2.Key) && ((x.Val == x2.Val) && true)) == true)) = true then
    some (Out.ret false)
   else
    ref05_Same.l1 a b n (i64.wrap (i2 + 1))
  else
   some (Out.go ())
def ref05_Same (a : List T_api_Label) (b : List T_api_Label) : Option Bool :=
 if ((a.length : Int) != (b.length : Int)) = true then
  some false
 else
  (ref05_Same.l1 a b FU (0 : Int)).bind fun o =>
  o.on fun j =>
  some true
theorem K139 (a : List T_api_Label) (b : List T_api_Label) : VS Tryz.prog 59 (ref05_Same a b) [L124 a, L124 b] [] .bool N0 := by
 refine Az [.tmp 4] Tryz.func59 R R R fun r hm=>?_
 unfold ref05_Same at hm
 refine Ag tbk [] R R<|Ae<|Ah<|Ab R R (Ak R)<|Ab R R (Aw T_api_Label.vv R Bk)<|Ab R R (Ak R)<|Ab R R (Aw T_api_Label.vv R Bk)<|Ab R R (A6 R R R)<|Ac<|Al hm R (fun h1 hm=>Ag tbk [] R R<|Rt1 hm R [] R R R) fun h1 hm=>Aj<|Ae<|Ag tbk [] R R<|Bs hm (fun _ (_:Unit)=>[]) (fun _ (_:Unit)=>[]) (fun o hm h3=>?_) fun j _ hm=> ?_
 ·refine Bo (fun zn (zs:Int)=>ref05_Same.l1 a b zn zs) (fun zs (_:Unit)=>[(0,L124 a),(1,L124 b),(5,Iw zs)]) (fun _ (_:Unit)=>[]) _ () (fun _=>R) hm (Af [] R R) fun n i2 _ hm=> ?_
  rw [ref05_Same.l1] at hm
  exact Ae<|Ah<|Aa tbk [] 2 R R<|Ab R R (Aw T_api_Label.vv R Bk)<|Ab R R (A6 R R R)<|Ac<|Al hm R (fun h4 hm=>Aj<|Ae<|Ay<|Ae<|Ba 0 mixed<|Av tbk [0,1] [] (by kernel_rfl) R R R<|Bd hm fun x h5 hm=>Ax 2 R R R (by kernel_rfl) (A0 T_api_Label.vv R R el27 h5)<|Av tbk [3,4,5] [] (by kernel_rfl) R R R<|Bd hm fun x2 h6 hm=>Ax 6 R R R (by kernel_rfl) (A0 T_api_Label.vv R R el27 h6)<|Ax 7 R R R (by kernel_rfl) (Bh R ld124 R)<|Ax 8 R R R (by kernel_rfl) (Da shp124 eq124 R R R R)<|A4 (by kernel_rfl)<|Al hm R (fun h7 hm=>Ag tbk [] R R<|have hm:=Lr hm h3;Rt1 hm R [] R R R) fun h7 hm=>Aj<|A5 tbk [] R R<|Ap _ () hm (Af [] R R)) fun h4 hm=>A3<|Ar () hm (Af [] R R)
 exact Ag tbk [] R R<|Rt1 hm R [] R R R

/-! trireme/triremeref06.Same -/
def ref06_Same.l1 (a : List T_api_Taint) (b : List T_api_Taint) : Nat → Int → Option (Out Bool Unit)
 | 0, _ => none
 | n + 1, i2 =>
  if (decide (i2 < (a.length : Int))) = true then
   (V.gl a i2).bind fun x =>
   (V.gl b i2).bind fun x2 =>
   if (!(((x.Key == x2.Key) && ((x.Val == x2.Val) && ((x.Effect == x2.Effect) && true))) == true)) = true then
    some (Out.ret false)
   else
    ref06_Same.l1 a b n (i64.wrap (i2 + 1))
  else
   some (Out.go ())
def ref06_Same (a : List T_api_Taint) (b : List T_api_Taint) : Option Bool :=
 if ((a.length : Int) != (b.length : Int)) = true then
  some false
 else
  (ref06_Same.l1 a b FU (0 : Int)).bind fun o =>
  o.on fun j =>
  some true
theorem K140 (a : List T_api_Taint) (b : List T_api_Taint) : VS Tryz.prog 60 (ref06_Same a b) [L126 a, L126 b] [] .bool N0 := by
 refine Az [.tmp 4] Tryz.func60 R R R fun r hm=>?_
 unfold ref06_Same at hm
 refine Ag tbk [] R R<|Ae<|Ah<|Ab R R (Ak R)<|Ab R R (Aw T_api_Taint.vv R Bw)<|Ab R R (Ak R)<|Ab R R (Aw T_api_Taint.vv R Bw)<|Ab R R (A6 R R R)<|Ac<|Al hm R (fun h1 hm=>Ag tbk [] R R<|Rt1 hm R [] R R R) fun h1 hm=>Aj<|Ae<|Ag tbk [] R R<|Bs hm (fun _ (_:Unit)=>[]) (fun _ (_:Unit)=>[]) (fun o hm h3=>?_) fun j _ hm=> ?_
 ·refine Bo (fun zn (zs:Int)=>ref06_Same.l1 a b zn zs) (fun zs (_:Unit)=>[(0,L126 a),(1,L126 b),(5,Iw zs)]) (fun _ (_:Unit)=>[]) _ () (fun _=>R) hm (Af [] R R) fun n i2 _ hm=> ?_
  rw [ref06_Same.l1] at hm
  exact Ae<|Ah<|Aa tbk [] 2 R R<|Ab R R (Aw T_api_Taint.vv R Bw)<|Ab R R (A6 R R R)<|Ac<|Al hm R (fun h4 hm=>Aj<|Ae<|Ay<|Ae<|Ba 0 mixed<|Av tbk [0,1] [] (by kernel_rfl) R R R<|Bd hm fun x h5 hm=>Ax 2 R R R (by kernel_rfl) (A0 T_api_Taint.vv R R el28 h5)<|Av tbk [3,4,5] [] (by kernel_rfl) R R R<|Bd hm fun x2 h6 hm=>Ax 6 R R R (by kernel_rfl) (A0 T_api_Taint.vv R R el28 h6)<|Ax 7 R R R (by kernel_rfl) (Bh R ld126 R)<|Ax 8 R R R (by kernel_rfl) (Da shp126 eq126 R R R R)<|A4 (by kernel_rfl)<|Al hm R (fun h7 hm=>Ag tbk [] R R<|have hm:=Lr hm h3;Rt1 hm R [] R R R) fun h7 hm=>Aj<|A5 tbk [] R R<|Ap _ () hm (Af [] R R)) fun h4 hm=>A3<|Ar () hm (Af [] R R)
 exact Ag tbk [] R R<|Rt1 hm R [] R R R

/-! trireme/triremeref07.SameMachine -/
def ref07_SameMachine (a : T_api_Machine) (b : T_api_Machine) : Option Bool :=
 (if ((((V.seq a.Name b.Name) && (V.seq a.Group b.Group)) && (((a.Has.Cpu == b.Has.Cpu) && ((a.Has.Mem == b.Has.Mem) && ((a.Has.Disk == b.Has.Disk) && ((a.Has.Pods == b.Has.Pods) && ((a.Has.Dev == b.Has.Dev) && true))))) == true)) && (a.Ready == b.Ready)) = true then (ref05_Same a.Labels b.Labels).bind fun r =>
 some r else some false).bind fun c =>
 (if c = true then (ref06_Same a.Taints b.Taints).bind fun r2 =>
 some r2 else some false).bind fun c2 =>
 some c2
theorem K141 (a : T_api_Machine) (b : T_api_Machine) : VS Tryz.prog 20 (ref07_SameMachine a b) [T_api_Machine.vv a, T_api_Machine.vv b] [] .bool N0 := by
 refine Az [.tmp 4] Tryz.func20 R R R fun r hm=>?_
 unfold ref07_SameMachine at hm
 exact Ah<|Ad R R<|A8 R R fun b2=>Ad R R<|A8 R R fun b3=>Ab R R (Ai R)<|Ac<|Ah<|Aa tbk [1,0] 6 R R<|Bv tbk [1,0] 6 16 10 R R R R R<|Ab R R (Ak R)<|Cw 6 23 17 R (fun h4 K' J=>Aa tbk [1,0] 4 R R<|Bg R R R R R (Da shp26 eq26 R R R R)<|Ab R R (Bb true R R R)<|J 5 R R R) (fun K' J=>Aa tbk [] 6 R R<|J 5 R R R)<|Ab R R (Ak R)<|Cw 6 30 24 R (fun h5 K' J=>Aa tbk [1,0] 4 R R<|Bg R R R R R (VP.boolop Tryz.underlying4 R R R)<|Ab R R (Bb true R R R)<|J 5 R R R) (fun K' J=>Aa tbk [] 6 R R<|J 5 R R R)<|Ab R R (Ak R)<|Bc hm 6 37 31 R (fun _ K' h6 J hm=>Aa tbk [1,0] 4 R R<|A7 R R R R R<|Am hm 0 R fn59 R (K139 _ _) fun r hm=>Ab R R (Bb true R R R)<|J 5 R R (Bj hm)) (fun _ K' h6 J hm=>Aa tbk [] 6 R R<|J 5 R R (Bj hm)) fun c hm=>Ab R R (Ak R)<|Bc hm 6 44 38 R (fun _ K' h9 J hm=>Aa tbk [1,0] 4 R R<|A7 R R R R R<|Am hm 0 R fn60 R (K140 _ _) fun r2 hm=>Ab R R (Bb true R R R)<|J 5 R R (Bj hm)) (fun _ K' h9 J hm=>Aa tbk [] 6 R R<|J 5 R R (Bj hm)) fun c2 hm=>Ab R R (Ai R)<|Ac<|Rt1 hm R [] R R R

/-! trireme/triremeref01.Digits -/
def ref01_Digits : Nat → Int → Option ByteArray
 | 0, _ => none
 | nn + 1, n =>
  if (decide (n < 10)) = true then
   some (strOfNums [(IntKind.u8.wrap (i64.wrap (48 + n)))])
  else
   (V.quo n (10 : Int)).bind fun v =>
   (V.rem n (10 : Int)).bind fun v2 =>
   ((ref01_Digits nn) (i64.wrap v)).bind fun r =>
   (V.cat r (strOfNums [(IntKind.u8.wrap (i64.wrap (48 + v2)))])).bind fun v3 =>
   some v3
theorem K142 (nn : Nat) : ∀ (n : Int), VS Tryz.prog 61 (ref01_Digits nn n) [Iw n] [] .str N0 := by
 induction nn with
 | zero => intro n; exact VS.none (by rw [ref01_Digits])
 | succ nn ih =>
  intro n
  refine Az [.tmp 2] Tryz.func61 R R R fun r hm=>?_
  rw [ref01_Digits] at hm
  refine Ag tbk [] R R<|Ae<|Ag tbk [] R R<|Al hm R (fun h1 hm=>Ah<|Aa tbk [] 2 R R<|Ab R R (Cl B1 Bx R)<|Ad R R<|Bi ap122 R R R R R fun b=>Bn (A2 0 [(8,L5 [(IntKind.u8.wrap (IntKind.i64.wrap ((48 : Int) + n)))])] R ⟨⟨_,R,.here _ R⟩,trivial⟩ (FzH.refl _))<|Ab R R (VP.convBL (l:=[(IntKind.u8.wrap (IntKind.i64.wrap ((48 : Int) + n)))]) el122 Bx A1 R)<|Ab R R (Ai R)<|Ac<|Rt1 hm R [] R R R) fun h1 hm=>Aj<|Ae<|Ba 0 mixed<|Ax 0 R R R (by kernel_rfl) (Ak R)<|Bd hm fun v h3 hm=>Ax 1 R R R (by kernel_rfl) (C0 R R h3)<|Ax 3 R R R (by kernel_rfl) (Ak R)<|Bd hm fun v2 h4 hm=>Ax 4 R R R (by kernel_rfl) (VP.remT R R h4)<|Ax 5 R R R (by kernel_rfl) (A6 R R R)<|Ax 6 R R R (by kernel_rfl) (Cl B1 Bx R)<|?_
  refine B0 [2,7] (by kernel_rfl) ⟨?_,?_,trivial⟩
  ·exact Aq R R R<|Am hm 0 R fn61 R (ih _) fun r hm=>Ao 7 (by kernel_rfl)<|Aq R R R<|Bi ap122 R R R R R fun b2=>C5 (A2 0 [(17,L5 [(IntKind.u8.wrap (IntKind.i64.wrap ((48 : Int) + v2)))])] R ⟨⟨_,R,.here _ R⟩,trivial⟩ (FzH.refl _))<|Ax 8 R R R (by kernel_rfl) (VP.convBL (l:=[(IntKind.u8.wrap (IntKind.i64.wrap ((48 : Int) + v2)))]) el122 Bx A1 R)<|Bd hm fun v3 h7 hm=>Ax 9 R R R (by kernel_rfl) (Be R R h7)<|Ax 10 R R R (by kernel_rfl) (Ai R)<|A4 (by kernel_rfl)<|Rt1 hm R [] R R R
  ·exact Aq R R R<|Bi ap122 R R R R R fun b3=>C5 (A2 0 [(17,L5 [(IntKind.u8.wrap (IntKind.i64.wrap ((48 : Int) + v2)))])] R ⟨⟨_,R,.here _ R⟩,trivial⟩ (FzH.refl _))<|Ax 8 R R R (by kernel_rfl) (VP.convBL (l:=[(IntKind.u8.wrap (IntKind.i64.wrap ((48 : Int) + v2)))]) el122 Bx A1 R)<|Ao 2 (by kernel_rfl)<|Aq R R R<|Am hm 0 R fn61 R (ih _) fun r2 hm=>Bd hm fun v4 h10 hm=>Ax 9 R R R (by kernel_rfl) (Be R R h10)<|Ax 10 R R R (by kernel_rfl) (Ai R)<|A4 (by kernel_rfl)<|Rt1 hm R [] R R R

/-! trireme/triremeref03.ShowMilli -/
def ref03_ShowMilli (n : Int) : Option ByteArray :=
 if ((decide (n < 0)) || (decide (n > 1125899906842624))) = true then
  some (⟨#[]⟩ : ByteArray)
 else
  (V.rem n (1000 : Int)).bind fun v =>
  if (v == 0) = true then
   (V.quo n (1000 : Int)).bind fun v2 =>
   (ref01_Digits FU (i64.wrap v2)).bind fun r =>
   some r
  else
   (ref01_Digits FU n).bind fun r2 =>
   (V.cat r2 (⟨#[109]⟩ : ByteArray)).bind fun v3 =>
   some v3
theorem K143 (n : Int) : VS Tryz.prog 126 (ref03_ShowMilli n) [Iw n] [] .str N0 := by
 refine Az [.tmp 2] Tryz.func126 R R R fun r hm=>?_
 unfold ref03_ShowMilli at hm
 exact Ag tbk [] R R<|Ae<|Ah<|Aa tbk [] 3 R R<|Ce tbk [] 3 8 5 R R R R R<|Ac<|Al hm R (fun h2 hm=>Ag tbk [] R R<|Rt1 hm R [] R R R) fun h2 hm=>Aj<|Ae<|Ah<|Ab R R (Ak R)<|Bd hm fun v h3 hm=>Ab R R (VP.remT R R h3)<|Ab R R (A6 R R R)<|Ac<|Al hm R (fun h4 hm=>Ah<|Ab R R (Ak R)<|Bd hm fun v2 h5 hm=>Ab R R (C0 R R h5)<|Ad R R<|Am hm 0 R fn61 R (K142 FU _) fun r hm=>Ab R R (Ai R)<|Ac<|Rt1 hm R [] R R R) fun h4 hm=>Aj<|Ah<|Ab R R (Ak R)<|Ad R R<|Am hm 0 R fn61 R (K142 FU _) fun r2 hm=>Bd hm fun v3 h8 hm=>Ab R R (Be R R h8)<|Ab R R (Ai R)<|Ac<|Rt1 hm R [] R R R

/-! trireme/triremeref03.Show -/
def ref03_Show.l1 (n : Int) : Nat → Int → Option (Out ByteArray Unit)
 | 0, _ => none
 | n2 + 1, i2 =>
  if (decide (i2 < 4)) = true then
   (V.shl .i64 1 (IntKind.u64.wrap (i64.wrap (40 - (i64.wrap (10 * i2)))))).bind fun v =>
   (if (decide (n > 0)) = true then (V.rem n v).bind fun v2 =>
   some (v2 == 0) else some false).bind fun c =>
   if c = true then
    (V.quo n v).bind fun v3 =>
    (V.gl [(⟨#[84, 105]⟩ : ByteArray), (⟨#[71, 105]⟩ : ByteArray), (⟨#[77, 105]⟩ : ByteArray), (⟨#[75, 105]⟩ : ByteArray)] i2).bind fun x =>
    (ref01_Digits FU (i64.wrap v3)).bind fun r =>
    (V.cat r x).bind fun v4 =>
    some (Out.ret v4)
   else
    ref03_Show.l1 n n2 (i64.wrap (i2 + 1))
  else
   some (Out.go ())
def ref03_Show (n : Int) : Option ByteArray :=
 if ((decide (n < 0)) || (decide (n > 1125899906842624))) = true then
  some (⟨#[]⟩ : ByteArray)
 else
  (ref03_Show.l1 n FU (0 : Int)).bind fun o =>
  o.on fun j =>
  (ref01_Digits FU n).bind fun r2 =>
  some r2
theorem K144 (n : Int) : VS Tryz.prog 127 (ref03_Show n) [Iw n] [] .str N0 := by
 refine Az [.tmp 2] Tryz.func127 R R R fun r hm=>?_
 unfold ref03_Show at hm
 refine Ag tbk [] R R<|Ae<|Ah<|Aa tbk [] 3 R R<|Ce tbk [] 3 11 8 R R R R R<|Ac<|Al hm R (fun h2 hm=>Ag tbk [] R R<|Rt1 hm R [] R R R) fun h2 hm=>Aj<|Ah<|Ad R R<|Bi ap51 R R R R R fun b=>Bn (A2 0 [(12,L9 [(⟨#[84,105]⟩ : ByteArray),(⟨#[71,105]⟩ : ByteArray),(⟨#[77,105]⟩ : ByteArray),(⟨#[75,105]⟩ : ByteArray)])] R ⟨⟨_,R,.here _ R⟩,trivial⟩ (FzH.refl _))<|Ab R R (Ai R)<|Ac<|Ae<|Ag tbk [] R R<|Bs hm (fun _ (_:Unit)=>[(0,Iw n)]) (fun _ (_:Unit)=>[]) (fun o hm h5=>?_) fun j _ hm=> ?_
 ·refine Bo (fun zn (zs:Int)=>ref03_Show.l1 n zn zs) (fun zs (_:Unit)=>[(0,Iw n),(3,L9 [(⟨#[84,105]⟩ : ByteArray),(⟨#[71,105]⟩ : ByteArray),(⟨#[77,105]⟩ : ByteArray),(⟨#[75,105]⟩ : ByteArray)]),(4,Iw zs)]) (fun _ (_:Unit)=>[]) _ () (fun _=>R) hm (Af [] R R) fun n2 i2 _ hm=> ?_
  rw [ref03_Show.l1] at hm
  exact Ae<|Ag tbk [] R R<|Al hm R (fun h6 hm=>Aj<|Ae<|Ay<|Ah<|Aa tbk [] 3 R R<|Ab R R (Cl B1 Tryz.underlying172 R)<|Bd hm fun v h7 hm=>Ab R R (VP.shlT R R h7)<|Ab R R (Ai R)<|Ac<|Ah<|Aa tbk [] 3 R R<|Bc hm 5 29 24 R (fun _ K' h8 J hm=>Aa tbk [] 2 R R<|Bd hm fun v2 h9 hm=>Bg R R R R R (VP.remT R R h9)<|Aa tbk [] 2 R R<|J 4 R R (Bj hm)) (fun _ K' h8 J hm=>Aa tbk [] 5 R R<|J 4 R R (Bj hm)) fun c hm=>Ac<|Al hm R (fun h11 hm=>Ae<|Ba 0 mixed<|Av tbk [0,1] [] (by kernel_rfl) R R R<|Bd hm fun v3 h12 hm=>Ax 2 R R R (by kernel_rfl) (C0 R R h12)<|Av tbk [4,5] [] (by kernel_rfl) R R R<|Bd hm fun x h13 hm=>Ax 6 R R R (by kernel_rfl) (A0 VV.str R R el51 h13)<|Ax 7 R R R (by kernel_rfl) (Bh R ld9 R)<|Ao 3 (by kernel_rfl)<|Aq R R R<|Am hm 0 R fn61 R (K142 FU _) fun r hm=>Bd hm fun v4 h15 hm=>Ax 8 R R R (by kernel_rfl) (Be R R h15)<|Ax 9 R R R (by kernel_rfl) (Ai R)<|A4 (by kernel_rfl)<|have hm:=Lr hm h5;Rt1 hm R [] R R R) fun h11 hm=>Aj<|A5 tbk [] R R<|Ap _ () hm (Af [] R R)) fun h6 hm=>A3<|Ar () hm (Af [] R R)
 exact Ah<|Ab R R (Ak R)<|Ad R R<|Am hm 0 R fn61 R (K142 FU _) fun r2 hm=>Ab R R (Ai R)<|Ac<|Rt1 hm R [] R R R

/-! trireme/triremeref07.atom -/
def ref07_atom (s : ByteArray) : Option ByteArray :=
 if (V.seq s (⟨#[]⟩ : ByteArray)) = true then
  some (⟨#[34, 34]⟩ : ByteArray)
 else
  some s
theorem K145 (s : ByteArray) : VS Tryz.prog 130 (ref07_atom s) [.str s] [] .str N0 := by
 refine Az [.tmp 2] Tryz.func130 R R R fun r hm=>?_
 unfold ref07_atom at hm
 exact Ag tbk [] R R<|Ae<|Ag tbk [] R R<|Al hm R (fun h1 hm=>Ag tbk [] R R<|Rt1 hm R [] R R R) fun h1 hm=>Aj<|Ag tbk [] R R<|Rt1 hm R [] R R R

/-! trireme/triremeref07.pairs -/
def ref07_pairs.l1 (name : ByteArray) (l : List T_api_Label) : Nat → ByteArray → Int → Option ByteArray
 | 0, _, _ => none
 | n + 1, s2, i2 =>
  if (decide (i2 < (l.length : Int))) = true then
   (V.cat s2 (⟨#[32, 40]⟩ : ByteArray)).bind fun v =>
   (V.cat v name).bind fun v2 =>
   (V.cat v2 (⟨#[32]⟩ : ByteArray)).bind fun v3 =>
   (V.gl l i2).bind fun x =>
   (V.cat v3 x.Key).bind fun v4 =>
   (V.cat v4 (⟨#[32]⟩ : ByteArray)).bind fun v5 =>
   (V.gl l i2).bind fun x2 =>
   (ref07_atom x2.Val).bind fun r =>
   (V.cat v5 r).bind fun v6 =>
   (V.cat v6 (⟨#[41]⟩ : ByteArray)).bind fun v7 =>
   ref07_pairs.l1 name l n v7 (i64.wrap (i2 + 1))
  else
   some s2
def ref07_pairs (name : ByteArray) (l : List T_api_Label) : Option ByteArray :=
 (ref07_pairs.l1 name l FU (⟨#[]⟩ : ByteArray) (0 : Int)).bind fun s32 =>
 some s32
theorem K146 (name : ByteArray) (l : List T_api_Label) : VS Tryz.prog 128 (ref07_pairs name l) [.str name, L124 l] [] .str N0 := by
 refine Az [.tmp 4] Tryz.func128 R R R fun r hm=>?_
 unfold ref07_pairs at hm
 refine Ag tbk [] R R<|Ag tbk [] R R<|Ae<|Ag tbk [] R R<|Bz hm (fun s32 (_:Unit)=>[(5,.str s32)]) (fun _ (_:Unit)=>[]) (fun o hm=>?_) fun s32 _ hm=> ?_
 ·refine Bo (fun zn (zs:ByteArray × Int)=>ref07_pairs.l1 name l zn zs.1 zs.2) (fun zs (_:Unit)=>[(0,.str name),(1,L124 l),(5,.str zs.1),(6,Iw zs.2)]) (fun _ (_:Unit)=>[]) ((⟨#[]⟩ : ByteArray),(0 : Int)) () (fun _=>R) hm (Af [] R R) fun n=>Pq fun s2 i2 _ hm=> ?_
  rw [ref07_pairs.l1] at hm
  exact Ae<|Ah<|Aa tbk [] 2 R R<|Ab R R (Aw T_api_Label.vv R Bk)<|Ab R R (A6 R R R)<|Ac<|Al hm R (fun h3 hm=>Aj<|Ae<|Ay<|Ba 0 mixed<|Ax 0 R R R (by kernel_rfl) (Ak R)<|Bd hm fun v h4 hm=>Ax 1 R R R (by kernel_rfl) (Be R R h4)<|Ax 2 R R R (by kernel_rfl) (Ak R)<|Bd hm fun v2 h5 hm=>Ax 3 R R R (by kernel_rfl) (Be R R h5)<|Bd hm fun v3 h6 hm=>Ax 4 R R R (by kernel_rfl) (Be R R h6)<|Av tbk [5,6] [] (by kernel_rfl) R R R<|Bd hm fun x h7 hm=>Ax 7 R R R (by kernel_rfl) (A0 T_api_Label.vv R R el27 h7)<|Av tbk [8,9] [] (by kernel_rfl) R R R<|Bd hm fun v4 h8 hm=>Ax 10 R R R (by kernel_rfl) (Be R R h8)<|Bd hm fun v5 h9 hm=>Ax 11 R R R (by kernel_rfl) (Be R R h9)<|Av tbk [12,13] [] (by kernel_rfl) R R R<|Bd hm fun x2 h10 hm=>Ax 14 R R R (by kernel_rfl) (A0 T_api_Label.vv R R el27 h10)<|Av tbk [15,16] [] (by kernel_rfl) R R R<|Ao 17 (by kernel_rfl)<|Aq R R R<|Am hm 0 R fn130 R (K145 _) fun r hm=>Bd hm fun v6 h12 hm=>Ax 18 R R R (by kernel_rfl) (Be R R h12)<|Bd hm fun v7 h13 hm=>Ax 19 R R R (by kernel_rfl) (Be R R h13)<|Ax 20 R R R (by kernel_rfl) (Ai R)<|A4 (by kernel_rfl)<|A5 tbk [] R R<|Ap (v7,(IntKind.i64.wrap (i2 + (1 : Int)))) () hm (Af [] R R)) fun h3 hm=>A3<|As () hm (Af [] R R)
 exact Ag tbk [] R R<|Rt1 hm R [] R R R

/-! trireme/triremeref07.ops -/
def ref07_ops : Option (List ByteArray) :=
 some [(⟨#[]⟩ : ByteArray), (⟨#[105, 110]⟩ : ByteArray), (⟨#[110, 111, 116, 105, 110]⟩ : ByteArray), (⟨#[101, 120, 105, 115, 116, 115]⟩ : ByteArray), (⟨#[109, 105, 115, 115, 105, 110, 103]⟩ : ByteArray), (⟨#[97, 98, 111, 118, 101]⟩ : ByteArray), (⟨#[98, 101, 108, 111, 119]⟩ : ByteArray)]
theorem K147 : VS Tryz.prog 129 (ref07_ops) [] [] (fun r=>L9 r) N0 := by
 refine Az [.tmp 0] Tryz.func129 R R R fun r hm=>?_
 unfold ref07_ops at hm
 exact Ag tbk [] R R<|Ah<|Ad R R<|Bi ap51 R R R R R fun b=>Bn (A2 0 [(1,L9 [(⟨#[]⟩ : ByteArray),(⟨#[105,110]⟩ : ByteArray),(⟨#[110,111,116,105,110]⟩ : ByteArray),(⟨#[101,120,105,115,116,115]⟩ : ByteArray),(⟨#[109,105,115,115,105,110,103]⟩ : ByteArray),(⟨#[97,98,111,118,101]⟩ : ByteArray),(⟨#[98,101,108,111,119]⟩ : ByteArray)])] R ⟨⟨_,R,.here _ R⟩,trivial⟩ (FzH.refl _))<|Ab R R (Ai R)<|Ac<|Rt1 hm R [] R R R

/-! trireme/triremeref07.effects -/
def ref07_effects : Option (List ByteArray) :=
 some [(⟨#[97, 110, 121]⟩ : ByteArray), (⟨#[110, 111]⟩ : ByteArray), (⟨#[112, 114, 101, 102, 101, 114]⟩ : ByteArray), (⟨#[111, 117, 116]⟩ : ByteArray)]
theorem K148 : VS Tryz.prog 131 (ref07_effects) [] [] (fun r=>L9 r) N0 := by
 refine Az [.tmp 0] Tryz.func131 R R R fun r hm=>?_
 unfold ref07_effects at hm
 exact Ag tbk [] R R<|Ah<|Ad R R<|Bi ap51 R R R R R fun b=>Bn (A2 0 [(1,L9 [(⟨#[97,110,121]⟩ : ByteArray),(⟨#[110,111]⟩ : ByteArray),(⟨#[112,114,101,102,101,114]⟩ : ByteArray),(⟨#[111,117,116]⟩ : ByteArray)])] R ⟨⟨_,R,.here _ R⟩,trivial⟩ (FzH.refl _))<|Ab R R (Ai R)<|Ac<|Rt1 hm R [] R R R

/-! trireme/triremeref07.number -/
def ref07_number (name : ByteArray) (n : Int) : Option ByteArray :=
 if (n == 0) = true then
  some (⟨#[]⟩ : ByteArray)
 else
  (V.cat (⟨#[32, 40]⟩ : ByteArray) name).bind fun v =>
  (V.cat v (⟨#[32]⟩ : ByteArray)).bind fun v2 =>
  (ref01_Digits FU n).bind fun r =>
  (V.cat v2 r).bind fun v3 =>
  (V.cat v3 (⟨#[41]⟩ : ByteArray)).bind fun v4 =>
  some v4
theorem K149 (name : ByteArray) (n : Int) : VS Tryz.prog 132 (ref07_number name n) [.str name, Iw n] [] .str N0 := by
 refine Az [.tmp 4] Tryz.func132 R R R fun r hm=>?_
 unfold ref07_number at hm
 exact Ag tbk [] R R<|Ae<|Ag tbk [] R R<|Al hm R (fun h1 hm=>Ag tbk [] R R<|Rt1 hm R [] R R R) fun h1 hm=>Aj<|Ah<|Ab R R (Ak R)<|Bd hm fun v h2 hm=>Ab R R (Be R R h2)<|Bd hm fun v2 h3 hm=>Ab R R (Be R R h3)<|Ab R R (Ak R)<|Ad R R<|Am hm 0 R fn61 R (K142 FU _) fun r hm=>Bd hm fun v3 h5 hm=>Ab R R (Be R R h5)<|Bd hm fun v4 h6 hm=>Ab R R (Be R R h6)<|Ab R R (Ai R)<|Ac<|Rt1 hm R [] R R R

/-! trireme/triremeref07.flag -/
def ref07_flag (name : ByteArray) (is : Bool) : Option ByteArray :=
 if is = true then
  (V.cat (⟨#[32]⟩ : ByteArray) name).bind fun v =>
  some v
 else
  some (⟨#[]⟩ : ByteArray)
theorem K150 (name : ByteArray) (is : Bool) : VS Tryz.prog 133 (ref07_flag name is) [.str name, .bool is] [] .str N0 := by
 refine Az [.tmp 4] Tryz.func133 R R R fun r hm=>?_
 unfold ref07_flag at hm
 exact Ag tbk [] R R<|Ae<|Ag tbk [] R R<|Al hm R (fun h1 hm=>Ah<|Ab R R (Ak R)<|Bd hm fun v h2 hm=>Ab R R (Be R R h2)<|Ab R R (Ai R)<|Ac<|Rt1 hm R [] R R R) fun h1 hm=>Aj<|Ag tbk [] R R<|Rt1 hm R [] R R R

end Go.Proofs.YtbkdglcedgiogaaGreat.M

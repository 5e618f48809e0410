/-
  Printed by a program of this session out of the loaded functions: models and their proofs. Own text.
-/
import Derived.Test.YtmpkpnclmihdnaaGreatRLF0
namespace Go.Proofs.YtmpkpnclmihdnaaGreat.M
open Go Go.Proofs Go.Proofs.YtmpkpnclmihdnaaGreat.V
open Go.IntKind (i64)
set_option linter.unusedVariables false
set_option maxRecDepth 20000
set_option maxHeartbeats 4000000
/-! trireme/apart.zones -/
def apart_zones.l1 : List T_api_Machine → Nat → (List (ByteArray × ByteArray)) → Option (List (ByteArray × ByteArray))
 | [], k, out2 => some out2
 | x :: l, k, out2 =>
  (labels_Get x.Labels (⟨#[122, 111, 110, 101]⟩ : ByteArray)).bind fun r =>
  if r.2 = true then
   apart_zones.l1 l (k + 1) (V.mp out2 x.Name r.1)
  else
   apart_zones.l1 l (k + 1) out2
def apart_zones (ms : List T_api_Machine) : Option (List (ByteArray × ByteArray)) :=
 (apart_zones.l1 ms 0 ([] : List (ByteArray × ByteArray))).bind fun out32 =>
 some out32
theorem K109 (ms : List T_api_Machine) : VS1 Tryz.prog 225 (apart_zones ms) [L61 ms] [] (fun r b_0=>.map b_0) (fun r b_0=>[.map b_0 (List.map (pf VV.str VV.str) r)]) := by
 refine VS1.run [.tmp 2] Tryz.func225 R R R fun r hm=>?_
 unfold apart_zones at hm
 refine Ag tbk [] R R<|Ah<|Ad R R<|Dl fun b=>Ab R R (Ai R)<|Ac<|Ae<|Ah<|Ab R R (Al R)<|Ab R R (Av T_api_Machine.vv R Bu)<|Ab R R (Al R)<|Ac<|B7 9 R fun h4=>Bw hm (fun _ (_:Unit)=>[(3,.map b)]) (fun out32 (_:Unit)=>[.map b (List.map (pf VV.str VV.str) out32)]) (fun o hm=>?_) fun out32 _ hm=> ?_
 ·refine Cn (ms) (fun zl zk (zs:List (ByteArray × ByteArray))=>apart_zones.l1 zl zk zs) (fun k _ (_:Unit)=>[(3,.map b),(9,L61 ms),(10,Iw (ms.length : Int)),(11,Iw (k : Int))]) (fun _ zs (_:Unit)=>[.map b (List.map (pf VV.str VV.str) zs)]) _ () hm (Af [0] R R) (fun k out2 _ hk hm=>?_) fun k x l out2 _ h5 hm=> ?_
  ·rw [apart_zones.l1] at hm
   exact Ag tbk [] R R<|Ae<|B5 R (k_end hk)<|A1<|As () hm (Af [0] R R)
  rw [apart_zones.l1] at hm
  exact Ag tbk [] R R<|Ae<|B0 R (k_lt h5)<|Aj<|Ae<|Ay<|Ah<|Ab R R (Ch T_api_Machine.vv R R el22 h5)<|Ab R R (Bi R ld61 R)<|Ad R R<|A0 z61 fun b2=>Ad R R<|An (i:=0) R R R ld61 R R R<|Ac<|Ah<|Aa tbk [0] 2 R R<|Ad R R<|Am hm 0 R fn231 R (K71 _ _) fun r hm=>Aa tbk [] 5 R R<|Ac<|Ag tbk [] R R<|Ak hm R (fun h8 hm=>Bq<|Aa tbk [0] 4 R R<|Ad R R<|Dh 1 (kf:=VV.str) (vf:=VV.str) (l:=out2) (k:=x.Name) (z:=r.1) mk9 C1 R R R R<|Ac<|A2 tbk [] R R<|Ap _ () hm (Bm [1] R ⟨R,R,R,congrArg some (k_next h5 h4),trivial⟩)) fun h8 hm=>Aj<|A2 tbk [] R R<|Ap _ () hm (Bm [1] R ⟨R,R,R,congrArg some (k_next h5 h4),trivial⟩)
 exact Ag tbk [] R R<|Rg1 hm R [0] b (.cons (.tmp _ _ R) .nil) R R

/-! (trireme/apart.place).one -/
def apart_place_one (x : T_apart_place) (a : ByteArray) (b2 : ByteArray) (wide : Bool) : Option Bool :=
 if ((V.seq a b2) || (!wide)) = true then
  some (V.seq a b2)
 else
  some ((((V.mg x.zones a).isSome) && ((V.mg x.zones b2).isSome)) && (V.seq ((V.mg x.zones a).getD (⟨#[]⟩ : ByteArray)) ((V.mg x.zones b2).getD (⟨#[]⟩ : ByteArray))))
theorem K110 (x : T_apart_place) (a : ByteArray) (b2 : ByteArray) (wide : Bool) (b : Nat) : VS Tryz.prog 235 (apart_place_one x a b2 wide) [.agg [.map b], .str a, .str b2, .bool wide] [.map b (List.map (pf VV.str VV.str) x.zones)] .bool (fun r=>[.map b (List.map (pf VV.str VV.str) x.zones)]) := by
 refine A3 [.tmp 8] Tryz.func235 R R R fun r hm=>?_
 unfold apart_place_one at hm
 exact Ah<|Ad R R<|Ba R R fun b3=>Ab R R (Ai R)<|Ac<|Ae<|Ah<|Aa tbk [] 4 R R<|Cp tbk [] 3 19 16 R R R R R<|Ac<|Ak hm R (fun h3 hm=>Ag tbk [] R R<|Rt1 hm R [1] R R R) fun h3 hm=>Aj<|Ah<|Aa tbk [0] 3 R R<|Ab R R (C5 1 (kf:=VV.str) (vf:=VV.str) (l:=x.zones) (k:=a) (z:=(⟨#[]⟩ : ByteArray)) true mk9 C1 R R R zc9 R)<|Aa tbk [] 5 R R<|Ac<|Ah<|Aa tbk [0] 3 R R<|Ab R R (C5 1 (kf:=VV.str) (vf:=VV.str) (l:=x.zones) (k:=b2) (z:=(⟨#[]⟩ : ByteArray)) true mk9 C1 R R R zc9 R)<|Aa tbk [] 5 R R<|Ac<|Ah<|Aa tbk [] 2 R R<|Bx tbk [] 2 40 38 R R R R R<|Ab R R (Al R)<|Bx tbk [] 4 45 41 R R R R R<|Ab R R (Ai R)<|Ac<|Rt1 hm R [1] R R R

/-! (trireme/apart.place).bars -/
def apart_place_bars (x : T_apart_place) (p : T_api_Pod) (q_ : T_api_Pod) (a : ByteArray) (b2 : ByteArray) : Option Bool :=
 (if (decide ((p.Apart.length : Int) > 0)) = true then (labels_Has q_.Labels p.Apart).bind fun r =>
 some r else some false).bind fun c =>
 (if c = true then (apart_place_one x a b2 p.Wide).bind fun r2 =>
 some r2 else some false).bind fun c2 =>
 some c2
theorem K111 (x : T_apart_place) (p : T_api_Pod) (q_ : T_api_Pod) (a : ByteArray) (b2 : ByteArray) (b : Nat) : VS Tryz.prog 226 (apart_place_bars x p q_ a b2) [.agg [.map b], T_api_Pod.vv p, T_api_Pod.vv q_, .str a, .str b2] [.map b (List.map (pf VV.str VV.str) x.zones)] .bool (fun r=>[.map b (List.map (pf VV.str VV.str) x.zones)]) := by
 refine A3 [.tmp 10] Tryz.func226 R R R fun r hm=>?_
 unfold apart_place_bars at hm
 exact Ah<|Ad R R<|Ba R R fun b3=>Ad R R<|Ba R R fun b4=>Ad R R<|Ba R R fun b5=>Ab R R (Ai R)<|Ac<|Ah<|Aa tbk [1] 2 R R<|Ab R R (Av T_api_Label.vv R Br)<|Aa tbk [] 2 R R<|Be hm 6 21 15 R (fun _ K' h4 J hm=>Aa tbk [0,1] 4 R R<|A7 R R R R R<|Am hm 0 R fn212 R (K72 _ _) fun r hm=>Ab R R (Bf true R R R)<|J 5 R R (Bj hm)) (fun _ K' h4 J hm=>Aa tbk [] 6 R R<|J 5 R R (Bj hm)) fun c hm=>Ab R R (Al R)<|Be hm 7 29 22 R (fun _ K' h7 J hm=>Aa tbk [2,1] 5 R R<|Bh (Ci [3,0,0,0] R)<|A7 R R R R R<|Am hm 1 R fn235 R (K110 _ _ _ _ _) fun r2 hm=>Ab R R (Bf true R R R)<|Bh (Ci [1,1,1,0] R)<|J 6 R R (Bj hm)) (fun _ K' h7 J hm=>Aa tbk [] 7 R R<|J 6 R R (Bj hm)) fun c2 hm=>Ab R R (Ai R)<|Ac<|Rt1 hm R [3] R R R

/-! trireme/apart.Near -/
def apart_Near.l1 (p : T_api_Pod) (on_ : ByteArray) (r2 : (List (ByteArray × ByteArray))) : List T_api_Bound → Nat → Option (Out Bool Unit)
 | [], k => some (Out.go ())
 | x :: l, k =>
  if ((V.seq x.On (⟨#[]⟩ : ByteArray)) || (V.seq x.Pod.Name p.Name)) = true then
   apart_Near.l1 p on_ r2 l (k + 1)
  else
   (apart_place_bars (⟨r2⟩ : T_apart_place) p x.Pod on_ x.On).bind fun r3 =>
   (if r3 = true then some true else (apart_place_bars (⟨r2⟩ : T_apart_place) x.Pod p x.On on_).bind fun r4 =>
   some r4).bind fun c =>
   if c = true then
    some (Out.ret true)
   else
    apart_Near.l1 p on_ r2 l (k + 1)
def apart_Near (ms : List T_api_Machine) (bs : List T_api_Bound) (p : T_api_Pod) (on_ : ByteArray) : Option Bool :=
 (yard_Find ms on_).bind fun r =>
 if (decide (r < 0)) = true then
  some false
 else
  (apart_zones ms).bind fun r2 =>
  (apart_Near.l1 p on_ r2 bs 0).bind fun o =>
  o.on fun j =>
  some false
theorem K112 (ms : List T_api_Machine) (bs : List T_api_Bound) (p : T_api_Pod) (on_ : ByteArray) : VS Tryz.prog 203 (apart_Near ms bs p on_) [L61 ms, L49 bs, T_api_Pod.vv p, .str on_] [] .bool N0 := by
 refine A3 [.tmp 8] Tryz.func203 R R R fun r hm=>?_
 unfold apart_Near at hm
 refine Ah<|Ad R R<|Ba R R fun b=>Ab R R (Ai R)<|Ac<|Ae<|Ah<|Aa tbk [] 2 R R<|Ad R R<|Am hm 0 R fn47 R (K65 _ _) fun r hm=>Ab R R (A4 R R R)<|Ac<|Ak hm R (fun h3 hm=>Ag tbk [] R R<|Rt1 hm R [] R R R) fun h3 hm=>Aj<|Ah<|Ab R R (Al R)<|Ad R R<|VO.cl1 hm 0 R fn225 R (K109 _) fun r2 b2 hm=>Ab R R (Bt pl215 R R)<|Ad R R<|A0 z215 fun b3=>Ad R R<|An (i:=0) R R R ld215 R R R<|Ac<|Ae<|Ah<|Ab R R (Al R)<|Ab R R (Av T_api_Bound.vv R Bk)<|Ab R R (Al R)<|Ac<|B7 19 R fun h9=>Bn hm (fun _ (_:Unit)=>[]) (fun _ (_:Unit)=>[]) (fun o hm h8=>?_) fun j _ hm=> ?_
 ·refine Cn (bs) (fun zl zk (zs:Unit)=>apart_Near.l1 p on_ r2 zl zk) (fun k _ (_:Unit)=>[(3,.str on_),(6,.ptr b 0),(9,.ptr b3 0),(19,L49 bs),(20,Iw (bs.length : Int)),(21,Iw (k : Int))]) (fun _ _ (_:Unit)=>[.box b3 215 [.map b2],.map b2 (List.map (pf VV.str VV.str) ((⟨r2⟩ : T_apart_place).zones)),X47 b p]) () () hm (Af [0,0,0] R R) (fun k _ _ hk hm=>?_) fun k x l _ _ h10 hm=> ?_
  ·rw [apart_Near.l1] at hm
   exact Ag tbk [] R R<|Ae<|B5 R (k_end hk)<|A1<|Ar () hm (Af [] R R)
  rw [apart_Near.l1] at hm
  exact Ag tbk [] R R<|Ae<|B0 R (k_lt h10)<|Aj<|Ae<|Ay<|Ah<|Ab R R (Ch T_api_Bound.vv R R el23 h10)<|Ab R R (Bi R ld49 R)<|Ad R R<|A0 z49 fun b4=>Ad R R<|An (i:=0) R R R ld49 R R R<|Ac<|Ae<|Ah<|Aa tbk [0] 4 R R<|Cp tbk [0,3] 7 35 28 R R R R R<|Ac<|Ak hm R (fun h13 hm=>A1<|A2 tbk [] R R<|Ap () () hm (Bm [1,1,1] R ⟨R,R,R,R,R,congrArg some (k_next h10 h9),trivial⟩)) fun h13 hm=>Aj<|Ah<|Aa tbk [1,3,0,0] 7 R R<|Bh (Ci [2,0,0,0] R)<|Ad R R<|Am hm 1 R fn226 R (K111 _ _ _ _ _ _) fun r3 hm=>Ab R R (Al R)<|Be hm 9 53 44 R (fun _ K' h15 J hm=>Aa tbk [] 9 R R<|J 8 R R (Bj hm)) (fun _ K' h15 J hm=>Aa tbk [2,1,3,1] 7 R R<|A7 R R R R R<|Am hm 1 R fn226 R (K111 _ _ _ _ _ _) fun r4 hm=>Ab R R (Bf false R R R)<|J 8 R R (Bj hm)) fun c hm=>Ac<|Ak hm R (fun h18 hm=>Ag tbk [] R R<|have hm:=Lr hm h8;Rt1 hm R [] R R R) fun h18 hm=>Aj<|A2 tbk [] R R<|Ap () () hm (Bm [2,0,1] R ⟨R,R,R,R,R,congrArg some (k_next h10 h9),trivial⟩)
 exact Ag tbk [] R R<|Rt1 hm R [] R R R

/-! trireme/apart.tally -/
def apart_tally.l1 (p : T_api_Pod) (r : (List (ByteArray × ByteArray))) : List T_api_Bound → Nat → (List (ByteArray × Int)) → Option (List (ByteArray × Int))
 | [], k, n2 => some n2
 | x :: l, k, n2 =>
  (if ((((V.mg r x.On).isSome) && (!(V.seq x.On (⟨#[]⟩ : ByteArray)))) && (!(V.seq x.Pod.Name p.Name))) = true then (labels_Has x.Pod.Labels p.Spread).bind fun r2 =>
  some r2 else some false).bind fun c =>
  if c = true then
   apart_tally.l1 p r l (k + 1) (V.mp n2 ((V.mg r x.On).getD (⟨#[]⟩ : ByteArray)) (i64.wrap (((V.mg n2 ((V.mg r x.On).getD (⟨#[]⟩ : ByteArray))).getD 0) + 1)))
  else
   apart_tally.l1 p r l (k + 1) n2
def apart_tally (ms : List T_api_Machine) (bs : List T_api_Bound) (p : T_api_Pod) : Option (List (ByteArray × Int)) :=
 (apart_zones ms).bind fun r =>
 (apart_tally.l1 p r bs 0 ([] : List (ByteArray × Int))).bind fun n32 =>
 some n32
theorem K113 (ms : List T_api_Machine) (bs : List T_api_Bound) (p : T_api_Pod) : VS1 Tryz.prog 236 (apart_tally ms bs p) [L61 ms, L49 bs, T_api_Pod.vv p] [] (fun r b_0=>.map b_0) (fun r b_0=>[.map b_0 (List.map (pf VV.str (VV.int .i64)) r)]) := by
 refine VS1.run [.tmp 6] Tryz.func236 R R R fun r hm=>?_
 unfold apart_tally at hm
 refine Ah<|Ad R R<|Ba R R fun b=>Ab R R (Ai R)<|Ac<|Ah<|Ab R R (Al R)<|Ad R R<|VO.cl1 hm 0 R fn225 R (K109 _) fun r b2 hm=>Ab R R (Ai R)<|Ac<|Ah<|Ad R R<|Dl fun b3=>Ab R R (Ai R)<|Ac<|Ae<|Ah<|Ab R R (Al R)<|Ab R R (Av T_api_Bound.vv R Bk)<|Ab R R (Al R)<|Ac<|B7 16 R fun h7=>Bw hm (fun _ (_:Unit)=>[(8,.map b3)]) (fun n32 (_:Unit)=>[.map b3 (List.map (pf VV.str (VV.int .i64)) n32)]) (fun o hm=>?_) fun n32 _ hm=> ?_
 ·refine Cn (bs) (fun zl zk (zs:List (ByteArray × Int))=>apart_tally.l1 p r zl zk zs) (fun k _ (_:Unit)=>[(5,.ptr b 0),(7,.map b2),(8,.map b3),(16,L49 bs),(17,Iw (bs.length : Int)),(18,Iw (k : Int))]) (fun _ zs (_:Unit)=>[.map b3 (List.map (pf VV.str (VV.int .i64)) zs),.map b2 (List.map (pf VV.str VV.str) r),X47 b p]) _ () hm (Af [0,0,0] R R) (fun k n2 _ hk hm=>?_) fun k x l n2 _ h8 hm=> ?_
  ·rw [apart_tally.l1] at hm
   exact Ag tbk [] R R<|Ae<|B5 R (k_end hk)<|A1<|As () hm (Af [0] R R)
  rw [apart_tally.l1] at hm
  exact Ag tbk [] R R<|Ae<|B0 R (k_lt h8)<|Aj<|Ae<|Ay<|Ah<|Ab R R (Ch T_api_Bound.vv R R el23 h8)<|Ab R R (Bi R ld49 R)<|Ad R R<|A0 z49 fun b4=>Ad R R<|An (i:=0) R R R ld49 R R R<|Ac<|Ah<|Aa tbk [0] 3 R R<|Ab R R (C5 2 (kf:=VV.str) (vf:=VV.str) (l:=r) (k:=x.On) (z:=(⟨#[]⟩ : ByteArray)) true mk9 C1 R R R zc9 R)<|Aa tbk [] 5 R R<|Ac<|Ah<|Aa tbk [] 2 R R<|Bx tbk [0] 4 34 30 R R R R R<|Ab R R (Al R)<|Bx tbk [0,3] 7 42 35 R R R R R<|Ab R R (Al R)<|Be hm 7 50 43 R (fun _ K' h12 J hm=>Aa tbk [0,3] 5 R R<|A7 R R R R R<|Am hm 0 R fn212 R (K72 _ _) fun r2 hm=>Ab R R (Bf true R R R)<|J 6 R R (Bj hm)) (fun _ K' h12 J hm=>Aa tbk [] 7 R R<|J 6 R R (Bj hm)) fun c hm=>Ac<|Ak hm R (fun h15 hm=>Bq<|Aa tbk [] 2 R R<|Ab R R (C5 1 (kf:=VV.str) (vf:=(VV.int .i64)) (l:=n2) (k:=((V.mg r x.On).getD (⟨#[]⟩ : ByteArray))) (z:=(0 : Int)) false mk9 Cw R R R zc3 R)<|Ab R R (A4 R R R)<|Ad R R<|Dh 1 (kf:=VV.str) (vf:=(VV.int .i64)) (l:=n2) (k:=((V.mg r x.On).getD (⟨#[]⟩ : ByteArray))) (z:=(IntKind.i64.wrap (((V.mg n2 ((V.mg r x.On).getD (⟨#[]⟩ : ByteArray))).getD (0 : Int)) + (1 : Int)))) mk9 Cw R R R R<|Ac<|A2 tbk [] R R<|Ap _ () hm (Bm [1,1,1] R ⟨R,R,R,R,R,congrArg some (k_next h8 h7),trivial⟩)) fun h15 hm=>Aj<|A2 tbk [] R R<|Ap _ () hm (Bm [1,1,1] R ⟨R,R,R,R,R,congrArg some (k_next h8 h7),trivial⟩)
 exact Ag tbk [] R R<|Rg1 hm R [0] b3 (.cons (.tmp _ _ R) .nil) R R

/-! trireme/yard.Zones -/
def yard_Zones.l1 : List T_api_Machine → Nat → (List (ByteArray × Int)) → (List ByteArray) → Option (List ByteArray)
 | [], k, had2, l2 => some l2
 | x :: l4, k, had2, l2 =>
  (labels_Get x.Labels (⟨#[122, 111, 110, 101]⟩ : ByteArray)).bind fun r =>
  if ((!r.2) || (!x.Ready)) = true then
   yard_Zones.l1 l4 (k + 1) had2 l2
  else
   if (((V.mg (V.mp had2 r.1 (i64.wrap (((V.mg had2 r.1).getD 0) + 1))) r.1).getD 0) == 1) = true then
    (V.ap 16 l2 [r.1]).bind fun l5 =>
    yard_Zones.l1 l4 (k + 1) (V.mp had2 r.1 (i64.wrap (((V.mg had2 r.1).getD 0) + 1))) l5
   else
    yard_Zones.l1 l4 (k + 1) (V.mp had2 r.1 (i64.wrap (((V.mg had2 r.1).getD 0) + 1))) l2
def yard_Zones (ms : List T_api_Machine) : Option (List ByteArray) :=
 (yard_Zones.l1 ms 0 ([] : List (ByteArray × Int)) ([] : List ByteArray)).bind fun l32 =>
 some l32
theorem K114 (ms : List T_api_Machine) : VS2 Tryz.prog 237 (yard_Zones ms) [L61 ms] [] (fun r ob0 cap0=>Z9 ob0 r cap0) (fun r ob0 cap0=>[Q9 ob0 cap0 r]) := by
 refine Cl [.tmp 2] Tryz.func237 R R R fun r hm=>?_
 unfold yard_Zones at hm
 refine Ag tbk [] R R<|Ah<|Ad R R<|Dl fun b=>Ab R R (Ai R)<|Ac<|Ag tbk [] R R<|Ae<|Ah<|Ab R R (Al R)<|Ab R R (Av T_api_Machine.vv R Bu)<|Ab R R (Al R)<|Ac<|B7 10 R fun h6=>Bw hm (fun l32 (gg:Option Nat × Nat)=>[(4,Z9 gg.1 l32 gg.2)]) (fun l32 (gg:Option Nat × Nat)=>[Q9 gg.1 gg.2 l32]) (fun o hm=>?_) fun l32=>Pq fun ob3 cap3 hm=> ?_
 ·refine Cn (ms) (fun zl zk (zs:List (ByteArray × Int) × List ByteArray)=>yard_Zones.l1 zl zk zs.1 zs.2) (fun k zs (zg:Option Nat × Nat)=>[(3,.map b),(4,Z9 zg.1 zs.2 zg.2),(10,L61 ms),(11,Iw (ms.length : Int)),(12,Iw (k : Int))]) (fun _ zs (zg:Option Nat × Nat)=>[Q9 zg.1 zg.2 zs.2,.map b (List.map (pf VV.str (VV.int .i64)) zs.1)]) (([] : List (ByteArray × Int)),([] : List ByteArray)) (none,0) hm (Bb (Bc 9) (Af [0,0] R R)) (fun k=>Pq fun had2 l2=>Pq fun ob2 cap2 hk hm=>?_) fun k x l4=>Pq fun had2 l2=>Pq fun ob2 cap2 h7 hm=> ?_
  ·rw [yard_Zones.l1] at hm
   exact Ag tbk [] R R<|Ae<|B5 R (k_end hk)<|A1<|As (ob2,cap2) hm (Af [0] R R)
  rw [yard_Zones.l1] at hm
  exact Ag tbk [] R R<|Ae<|B0 R (k_lt h7)<|Aj<|Ae<|Ay<|Ah<|Ab R R (Ch T_api_Machine.vv R R el22 h7)<|Ab R R (Bi R ld61 R)<|Ad R R<|A0 z61 fun b2=>Ad R R<|An (i:=0) R R R ld61 R R R<|Ac<|Ah<|Aa tbk [0] 2 R R<|Ad R R<|Am hm 0 R fn231 R (K71 _ _) fun r hm=>Aa tbk [] 5 R R<|Ac<|Ae<|Ah<|Aa tbk [] 3 R R<|Cp tbk [0] 4 28 24 R R R R R<|Ac<|Ak hm R (fun h11 hm=>A1<|A2 tbk [] R R<|Ap (had2,l2) (ob2,cap2) hm (Bm [1,1] R ⟨R,R,R,R,congrArg some (k_next h7 h6),trivial⟩)) fun h11 hm=>Aj<|Ah<|Aa tbk [] 2 R R<|Ab R R (C5 2 (kf:=VV.str) (vf:=(VV.int .i64)) (l:=had2) (k:=r.1) (z:=(0 : Int)) false mk9 Cw R R R zc3 R)<|Ab R R (A4 R R R)<|Ad R R<|Dh 2 (kf:=VV.str) (vf:=(VV.int .i64)) (l:=had2) (k:=r.1) (z:=(IntKind.i64.wrap (((V.mg had2 r.1).getD (0 : Int)) + (1 : Int)))) mk9 Cw R R R R<|Ac<|Ah<|Aa tbk [] 2 R R<|Ab R R (C5 2 (kf:=VV.str) (vf:=(VV.int .i64)) (l:=(V.mp had2 r.1 (IntKind.i64.wrap (((V.mg had2 r.1).getD (0 : Int)) + (1 : Int))))) (k:=r.1) (z:=(0 : Int)) false mk9 Cw R R R zc3 R)<|Ab R R (A4 R R R)<|Ac<|Ak hm R (fun h12 hm=>Bq<|Aa tbk [] 2 R R<|Ad R R<|A8 ap25 R R R R R fun b3=>Bd hm fun l5 h14 hm=>Ad R R<|B3 2 VV.str (l:=l2) (l2:=[r.1]) ap25 R R (sT_row 0 VV.str el25 R R) h14 fun ob4 cap4=>Ab R R (Ai R)<|Ac<|A2 tbk [] R R<|Ap ((V.mp had2 r.1 (IntKind.i64.wrap (((V.mg had2 r.1).getD (0 : Int)) + (1 : Int)))),l5) (ob4,cap4) hm (Bm [2,2] R ⟨R,R,R,R,congrArg some (k_next h7 h6),trivial⟩)) fun h12 hm=>Aj<|A2 tbk [] R R<|Ap ((V.mp had2 r.1 (IntKind.i64.wrap (((V.mg had2 r.1).getD (0 : Int)) + (1 : Int)))),l2) (ob2,cap2) hm (Bm [1,1] R ⟨R,R,R,R,congrArg some (k_next h7 h6),trivial⟩)
 exact Ag tbk [] R R<|Rg2 hm R [0] ob3 cap3 (.cons (.tmp _ _ R) .nil) R R

/-! trireme/apart.Counts -/
def apart_Counts.l1 (r : (List (ByteArray × Int))) : List ByteArray → Nat → (List Int) → Option (List Int)
 | [], k, out2 => some out2
 | x :: l, k, out2 =>
  (V.ap 8 out2 [((V.mg r x).getD 0)]).bind fun out4 =>
  apart_Counts.l1 r l (k + 1) out4
def apart_Counts (ms : List T_api_Machine) (bs : List T_api_Bound) (p : T_api_Pod) : Option (List ByteArray × List Int) :=
 (apart_tally ms bs p).bind fun r =>
 (yard_Zones ms).bind fun r2 =>
 (apart_Counts.l1 r r2 0 ([] : List Int)).bind fun out32 =>
 some (r2, out32)
theorem K115 (ms : List T_api_Machine) (bs : List T_api_Bound) (p : T_api_Pod) : VS2 Tryz.prog 227 (apart_Counts ms bs p) [L61 ms, L49 bs, T_api_Pod.vv p] [] (fun r ob1 cap1=>.tup [L9 r.1, Z3 ob1 r.2 cap1]) (fun r ob1 cap1=>[Q3 ob1 cap1 r.2]) := by
 refine Cl [.tmp 6,.tmp 7] Tryz.func227 R R R fun r hm=>?_
 unfold apart_Counts at hm
 refine Ah<|Ad R R<|Ba R R fun b=>Aa tbk [] 2 R R<|Ac<|Ah<|Aa tbk [0] 3 R R<|Ad R R<|VO.cl1 hm 0 R fn236 R (K113 _ _ _) fun r b2 hm=>Ab R R (Ai R)<|Ac<|Ah<|Ab R R (Al R)<|Ad R R<|Bz hm 0 R fn237 R (K114 _) fun r2 ob cap hm=>Bh (Aw 0 [(18,L9 r2)] R ⟨⟨_,R,.here _ R⟩,trivial⟩ (FzH.refl _))<|Ab R R (Ai R)<|Ac<|Ag tbk [] R R<|Ae<|Ah<|Ab R R (Al R)<|Ab R R (Av VV.str R Bo)<|Ab R R (Al R)<|Ac<|B7 9 R fun h10=>Bw hm (fun out32 (gg:Option Nat × Nat)=>[(9,L9 r2),(10,Z3 gg.1 out32 gg.2)]) (fun out32 (gg:Option Nat × Nat)=>[Q3 gg.1 gg.2 out32]) (fun o hm=>?_) fun out32=>Pq fun ob4 cap4 hm=> ?_
 ·refine Cn (r2) (fun zl zk (zs:List Int)=>apart_Counts.l1 r zl zk zs) (fun k zs (zg:Option Nat × Nat)=>[(8,.map b2),(9,L9 r2),(10,Z3 zg.1 zs zg.2),(19,L9 r2),(20,Iw (r2.length : Int)),(21,Iw (k : Int))]) (fun _ zs (zg:Option Nat × Nat)=>[Q3 zg.1 zg.2 zs,.map b2 (List.map (pf VV.str (VV.int .i64)) r)]) _ (none,0) hm (Bb (Bc 3) (Af [0,0] R R)) (fun k out2=>Pq fun ob3 cap3 hk hm=>?_) fun k x l out2=>Pq fun ob3 cap3 h11 hm=> ?_
  ·rw [apart_Counts.l1] at hm
   exact Ag tbk [] R R<|Ae<|B5 R (k_end hk)<|A1<|As (ob3,cap3) hm (Af [0] R R)
  rw [apart_Counts.l1] at hm
  exact Ag tbk [] R R<|Ae<|B0 R (k_lt h11)<|Aj<|Ae<|Ay<|Ah<|Ab R R (Ch VV.str R R el25 h11)<|Aa tbk [] 2 R R<|Ac<|Bq<|Aa tbk [] 3 R R<|Ab R R (C5 1 (kf:=VV.str) (vf:=(VV.int .i64)) (l:=r) (k:=x) (z:=(0 : Int)) false mk9 Cw R R R zc3 R)<|Ad R R<|A8 ap45 R R R R R fun b3=>Bd hm fun out4 h13 hm=>Ad R R<|B3 1 (VV.int .i64) (l:=out2) (l2:=[((V.mg r x).getD (0 : Int))]) ap45 R R (sT_row 0 (VV.int .i64) el45 R R) h13 fun ob5 cap5=>Ab R R (Ai R)<|Ac<|A2 tbk [] R R<|Ap _ (ob5,cap5) hm (Bm [1,1] R ⟨R,R,R,R,R,congrArg some (k_next h11 h10),trivial⟩)
 exact Ag tbk [] R R<|Rg2 hm R [0] ob4 cap4 (.cons (.tmp _ _ R) (.cons (.tmp _ _ R) .nil)) R R

/-! trireme/apart.Many -/
def apart_Many.l1 (on_ : ByteArray) (r2 : (List (ByteArray × ByteArray))) (r3 : List ByteArray × List Int) : List ByteArray → Nat → Bool → Int → Int → Option (Bool × Int × Int)
 | [], k, met2, mine2, least2 => some (met2, mine2, least2)
 | x :: l, k, met2, mine2, least2 =>
  (V.gl r3.2 (k : Int)).bind fun x2 =>
  if (((V.mg r2 on_).isSome) && (V.seq x ((V.mg r2 on_).getD (⟨#[]⟩ : ByteArray)))) = true then
   (V.gl r3.2 (k : Int)).bind fun x3 =>
   apart_Many.l1 on_ r2 r3 l (k + 1) true x3 (min least2 x2)
  else
   apart_Many.l1 on_ r2 r3 l (k + 1) met2 mine2 (min least2 x2)
def apart_Many (ms : List T_api_Machine) (bs : List T_api_Bound) (p : T_api_Pod) (on_ : ByteArray) : Option Bool :=
 (if ((p.Spread.length : Int) == 0) = true then some true else (yard_Find ms on_).bind fun r =>
 some (decide (r < 0))).bind fun c =>
 if c = true then
  some false
 else
  (apart_zones ms).bind fun r2 =>
  (apart_Counts ms bs p).bind fun r3 =>
  (apart_Many.l1 on_ r2 r3 r3.1 0 false 0 (401 : Int)).bind fun j =>
  (labels_Has p.Labels p.Spread).bind fun r4 =>
  if r4 = true then
   some ((!j.1) || (decide ((i64.wrap (j.2.1 + 1)) > (i64.wrap (j.2.2 + p.Skew)))))
  else
   some ((!j.1) || (decide (j.2.1 > (i64.wrap (j.2.2 + p.Skew)))))
theorem K116 (ms : List T_api_Machine) (bs : List T_api_Bound) (p : T_api_Pod) (on_ : ByteArray) : VS Tryz.prog 204 (apart_Many ms bs p on_) [L61 ms, L49 bs, T_api_Pod.vv p, .str on_] [] .bool N0 := by
 refine A3 [.tmp 8] Tryz.func204 R R R fun r hm=>?_
 unfold apart_Many at hm
 refine Ah<|Ad R R<|Ba R R fun b=>Ab R R (Ai R)<|Ac<|Ae<|Ah<|Aa tbk [0] 2 R R<|Ab R R (Av T_api_Label.vv R Br)<|Aa tbk [] 2 R R<|Be hm 5 27 22 R (fun _ K' h2 J hm=>Aa tbk [] 5 R R<|J 4 R R (Bj hm)) (fun _ K' h2 J hm=>Aa tbk [] 2 R R<|A7 R R R R R<|Am hm 0 R fn47 R (K65 _ _) fun r hm=>Aa tbk [] 2 R R<|J 4 R R (Bj hm)) fun c hm=>Ac<|Ak hm R (fun h5 hm=>Ag tbk [] R R<|Rt1 hm R [] R R R) fun h5 hm=>Aj<|Ah<|Ab R R (Al R)<|Ad R R<|VO.cl1 hm 0 R fn225 R (K109 _) fun r2 b2 hm=>Ab R R (Al R)<|Ab R R (C5 0 (kf:=VV.str) (vf:=VV.str) (l:=r2) (k:=on_) (z:=(⟨#[]⟩ : ByteArray)) true mk9 C1 R R R zc9 R)<|Aa tbk [] 5 R R<|Ac<|Ah<|Aa tbk [1] 3 R R<|Ad R R<|Bz hm 0 R fn227 R (K115 _ _ _) fun r3 ob cap hm=>Aa tbk [] 5 R R<|Ac<|Ag tbk [] R R<|Ag tbk [] R R<|Ae<|Ah<|Ab R R (Al R)<|Ab R R (Av VV.str R Bo)<|Ab R R (Al R)<|Ac<|B7 42 R fun h12=>Bw hm (fun j (_:Unit)=>[(6,.ptr b 0),(13,.bool j.1),(14,Iw j.2.1),(15,Iw j.2.2)]) (fun _ (_:Unit)=>[X47 b p]) (fun o hm=>?_) fun j _ hm=> ?_
 ·refine Cn (r3.1) (fun zl zk (zs:Bool × Int × Int)=>apart_Many.l1 on_ r2 r3 zl zk zs.1 zs.2.1 zs.2.2) (fun k zs (zg:Option Nat)=>[(6,.ptr b 0),(9,.str ((V.mg r2 on_).getD (⟨#[]⟩ : ByteArray))),(10,.bool ((V.mg r2 on_).isSome)),(12,Z3 zg r3.2 cap),(13,.bool zs.1),(14,Iw zs.2.1),(15,Iw zs.2.2),(42,L9 r3.1),(43,Iw (r3.1.length : Int)),(44,Iw (k : Int))]) (fun _ _ (zg:Option Nat)=>[Q3 zg cap r3.2,X47 b p]) (false,(0 : Int),(401 : Int)) _ hm (Af [0,1] R R) (fun k=>Pq fun met2=>Pq fun mine2 least2 ob3 hk hm=>?_) fun k x l=>Pq fun met2=>Pq fun mine2 least2 ob3 h13 hm=> ?_
  ·rw [apart_Many.l1] at hm
   exact Ag tbk [] R R<|Ae<|B5 R (k_end hk)<|A1<|As () hm (Af [1] R R)
  rw [apart_Many.l1] at hm
  refine Ag tbk [] R R<|Ae<|B0 R (k_lt h13)<|Aj<|Ae<|Ay<|Ah<|Ab R R (Al R)<|Ab R R (Ch VV.str R R el25 h13)<|Aa tbk [] 3 R R<|Ac<|Ah<|Aa tbk [] 3 R R<|Bd hm fun x2 h14 hm=>Cx 0 R (gl_pos (VV.int .i64) h14) fun b3 h15=> ?_
  subst h15
  exact Ab R R (Cf (VV.int .i64) R R el45 h14)<|Ab R R (Cd (i:=0) (y:=(VV.int .i64) x2) R R R (gl_map _ (gl_some h14).2) ld3 R)<|Ab R R (Di R R)<|Ab R R (Ai R)<|Ac<|Ah<|Aa tbk [] 2 R R<|Bx tbk [] 4 60 56 R R R R R<|Ac<|Ak hm R (fun h17 hm=>A9 0 mixed<|Aq tbk [0,1] [] (by kernel_rfl) R R R<|Bd hm fun x3 h18 hm=>Ax 2 R R R (by kernel_rfl) (Cf (VV.int .i64) R R el45 h18)<|Ax 3 R R R (by kernel_rfl) (Cd (i:=0) (y:=(VV.int .i64) x3) R R R (gl_map _ (gl_some h18).2) ld3 R)<|Aq tbk [4,5] [] (by kernel_rfl) R R R<|A5 (by kernel_rfl)<|A2 tbk [] R R<|Ap (true,x3,(min least2 x2)) _ hm (Bm [0,0] R ⟨R,R,R,R,R,R,R,R,R,congrArg some (k_next h13 h12),trivial⟩)) fun h17 hm=>Aj<|A2 tbk [] R R<|Ap (met2,mine2,(min least2 x2)) _ hm (Bm [0,0] R ⟨R,R,R,R,R,R,R,R,R,congrArg some (k_next h13 h12),trivial⟩)
 exact Ae<|Ah<|Aa tbk [0,0] 4 R R<|Ad R R<|Am hm 0 R fn212 R (K72 _ _) fun r4 hm=>Ac<|Ak hm R (fun h20 hm=>A2 tbk [] R R<|Ah<|Aa tbk [] 3 R R<|Cp tbk [0] 7 82 75 R R R R R<|Ab R R (Ai R)<|Ac<|Rt1 hm R [] R R R) fun h20 hm=>Aj<|Ah<|Aa tbk [] 3 R R<|Cp tbk [0] 7 82 75 R R R R R<|Ab R R (Ai R)<|Ac<|Rt1 hm R [] R R R

/-! trireme/apart.Why -/
def apart_Why (ms : List T_api_Machine) (bs : List T_api_Bound) (p : T_api_Pod) (on_ : ByteArray) : Option Int :=
 (apart_Near ms bs p on_).bind fun r =>
 if r = true then
  some 7
 else
  (apart_Many ms bs p on_).bind fun r2 =>
  if r2 = true then
   some 8
  else
   some 0
theorem K117 (ms : List T_api_Machine) (bs : List T_api_Bound) (p : T_api_Pod) (on_ : ByteArray) : VS Tryz.prog 178 (apart_Why ms bs p on_) [L61 ms, L49 bs, T_api_Pod.vv p, .str on_] [] Iw N0 := by
 refine A3 [.tmp 8] Tryz.func178 R R R fun r hm=>?_
 unfold apart_Why at hm
 exact Ah<|Ad R R<|Ba R R fun b=>Ab R R (Ai R)<|Ac<|Ae<|Ay<|Ah<|Aa tbk [0] 4 R R<|Ad R R<|Am hm 0 R fn203 R (K112 _ _ _ _) fun r hm=>Ab R R (Ai R)<|Ac<|Ak hm R (fun h3 hm=>Ag tbk [] R R<|Rt1 hm R [] R R R) fun h3 hm=>Ah<|Aa tbk [0] 4 R R<|Ad R R<|Am hm 0 R fn204 R (K116 _ _ _ _) fun r2 hm=>Ab R R (Ai R)<|Ac<|Ak hm R (fun h5 hm=>Ag tbk [] R R<|Rt1 hm R [] R R R) fun h5 hm=>Aj<|Ag tbk [] R R<|Rt1 hm R [] R R R

/-! (trireme/fit.asker).why -/
def fit_asker_why (a : T_fit_asker) (m : T_api_Machine) : Option Int :=
 (suit_Suits m a.bs a.p).bind fun r =>
 if (r != 0) = true then
  some r
 else
  (apart_Why a.ms a.bs a.p m.Name).bind fun r2 =>
  some r2
theorem K118 (a : T_fit_asker) (m : T_api_Machine) : VS Tryz.prog 133 (fit_asker_why a m) [T_fit_asker.vv a, T_api_Machine.vv m] [] Iw N0 := by
 refine A3 [.tmp 4] Tryz.func133 R R R fun r hm=>?_
 unfold fit_asker_why at hm
 exact Ah<|Ad R R<|Ba R R fun b=>Ad R R<|Ba R R fun b2=>Ab R R (Ai R)<|Ac<|Ae<|Ah<|Aa tbk [0,1,1] 5 R R<|Ad R R<|Am hm 0 R fn177 R (K108 _ _ _) fun r hm=>Ab R R (Ai R)<|Ac<|Ag tbk [] R R<|Ak hm R (fun h4 hm=>Ag tbk [] R R<|Rt1 hm R [] R R R) fun h4 hm=>Aj<|Ah<|Aa tbk [1,1,1,0] 8 R R<|Ad R R<|Am hm 0 R fn178 R (K117 _ _ _ _) fun r2 hm=>Ab R R (Ai R)<|Ac<|Rt1 hm R [] R R R

/-! trireme/fit.Where$1 -/
def fit_Where_1 (name : ByteArray) (why : Int) (a : List ByteArray) : Option (List ByteArray) :=
 if (why == 0) = true then
  (V.ap 16 a [name]).bind fun l =>
  some l
 else
  some a
theorem K119 (name : ByteArray) (why : Int) (a : List ByteArray) (b : Nat) (ob : Option Nat) (cap : Nat) : VS2 Tryz.prog 141 (fit_Where_1 name why a) [.str name, Iw why, .ptr b 0] [.box b 25 [Z9 ob a cap], Q9 ob cap a] (fun r ob0_0 cap0_0=>.tup []) (fun r ob0_0 cap0_0=>[.box b 25 [Z9 ob0_0 r cap0_0], Q9 ob0_0 cap0_0 r]) := by
 refine Cl [] Tryz.func141 R R R fun r hm=>?_
 unfold fit_Where_1 at hm
 refine Ag tbk [] R R<|Ak hm R (fun h1 hm=>?_) fun h1 hm=> ?_
 ·refine Bq<|Aa tbk [0] 2 R R<|Ad R R<|A8 ap25 R R R R R fun b2=>Bd hm fun l h3 hm=>Ad R R<|B3 2 VV.str (l:=a) (l2:=[name]) ap25 R R (sT_row 0 VV.str el25 R R) h3 fun ob2 cap2=>Ad R R<|An (i:=1) R R R ld25 R R R<|Ac<|?_
  obtain rfl:=Option.some.inj hm
  exact ⟨.inr R,_,.nil,[1,1],_,R,ob2,cap2,R,R⟩
 refine Aj<|?_
 obtain rfl:=Option.some.inj hm
 exact ⟨.inr R,_,.nil,[0,0],_,R,ob,cap,R,R⟩

/-! trireme/fit.each -/
def fit_each_fit_asker_why_fit_Where_1.l1 (c : T_fit_asker) : List T_api_Machine → Nat → (List ByteArray) → Option (List ByteArray)
 | [], k, do_2 => some do_2
 | x :: l3, k, do_2 =>
  (fit_asker_why c x).bind fun r =>
  (fit_Where_1 x.Name r do_2).bind fun r2 =>
  fit_each_fit_asker_why_fit_Where_1.l1 c l3 (k + 1) r2
def fit_each_fit_asker_why_fit_Where_1 (ms : List T_api_Machine) (c : T_fit_asker) (c2 : List ByteArray) : Option (List ByteArray) :=
 (fit_each_fit_asker_why_fit_Where_1.l1 c ms 0 c2).bind fun l2 =>
 some l2
theorem K120 (ms : List T_api_Machine) (c : T_fit_asker) (c2 : List ByteArray) (b : Nat) (ob : Option Nat) (cap : Nat) : VS2 Tryz.prog 140 (fit_each_fit_asker_why_fit_Where_1 ms c c2) [L61 ms, .clo (.func 133) [T_fit_asker.vv c] [], .clo (.func 141) [] [.ptr b 0]] [.box b 25 [Z9 ob c2 cap], Q9 ob cap c2] (fun r ob0_0 cap0_0=>.tup []) (fun r ob0_0 cap0_0=>[.box b 25 [Z9 ob0_0 r cap0_0], Q9 ob0_0 cap0_0 r]) := by
 refine Cl [] Tryz.func140 R R R fun r hm=>?_
 unfold fit_each_fit_asker_why_fit_Where_1 at hm
 refine Ah<|Ab R R (Al R)<|Ab R R (Av T_api_Machine.vv R Bu)<|Ab R R (Al R)<|Ac<|B7 8 R fun h3=>Bw hm (fun _ (gg:Option Nat × Nat)=>[]) (fun l2 (gg:Option Nat × Nat)=>[.box b 25 [Z9 gg.1 l2 gg.2],Q9 gg.1 gg.2 l2]) (fun o hm=>?_) fun l2=>Pq fun ob4 cap4 hm=> ?_
 ·refine Cn (ms) (fun zl zk (zs:List ByteArray)=>fit_each_fit_asker_why_fit_Where_1.l1 c zl zk zs) (fun k _ (_:Option Nat × Nat)=>[(1,.clo (.func 133) [T_fit_asker.vv c] []),(2,.clo (.func 141) [] [.ptr b 0]),(8,L61 ms),(9,Iw (ms.length : Int)),(10,Iw (k : Int))]) (fun _ zs (zg:Option Nat × Nat)=>[.box b 25 [Z9 zg.1 zs zg.2],Q9 zg.1 zg.2 zs]) _ (ob,cap) hm (Af [0,0] R R) (fun k do_2=>Pq fun ob3 cap3 hk hm=>?_) fun k x l3 do_2=>Pq fun ob3 cap3 h4 hm=> ?_
  ·rw [fit_each_fit_asker_why_fit_Where_1.l1] at hm
   exact Ag tbk [] R R<|Ae<|B5 R (k_end hk)<|A1<|As (ob3,cap3) hm (Af [0,0] R R)
  rw [fit_each_fit_asker_why_fit_Where_1.l1] at hm
  exact Ag tbk [] R R<|Ae<|B0 R (k_lt h4)<|Aj<|Ae<|Ay<|Ah<|Ab R R (Ch T_api_Machine.vv R R el22 h4)<|Ab R R (Bi R ld61 R)<|Ad R R<|A0 z61 fun b2=>Ad R R<|An (i:=0) R R R ld61 R R R<|Ac<|B8 (Ci [1,1,0] R)<|A9 2 mixed<|Aq tbk [0,1,2,3,4] [0,0] (by kernel_rfl) R R R<|Ao 5 (by kernel_rfl)<|Au R R R<|Am hm 0 R fn133 R (K118 _ _) fun r hm=>Ao 6 (by kernel_rfl)<|Au R R R<|Bz hm 2 R fn141 R (K119 _ _ _ _ _ _) fun r2 ob5 cap5 hm=>A5 (by kernel_rfl)<|A2 tbk [] R R<|Ap _ (ob5,cap5) hm (Bm [0,0] R ⟨R,R,R,R,congrArg some (k_next h4 h3),trivial⟩)
 obtain rfl:=Option.some.inj hm
 exact ⟨.inr R,_,.nil,[0,0],_,R,ob4,cap4,R,R⟩

/-! trireme/fit.Where -/
def fit_Where (ms : List T_api_Machine) (bs : List T_api_Bound) (p : T_api_Pod) : Option (List ByteArray) :=
 (fit_each_fit_asker_why_fit_Where_1 ms (⟨ms, bs, p⟩ : T_fit_asker) ([] : List ByteArray)).bind fun r =>
 some r
theorem K121 (ms : List T_api_Machine) (bs : List T_api_Bound) (p : T_api_Pod) : VS2 Tryz.prog 98 (fit_Where ms bs p) [L61 ms, L49 bs, T_api_Pod.vv p] [] (fun r ob0 cap0=>Z9 ob0 r cap0) (fun r ob0 cap0=>[Q9 ob0 cap0 r]) := by
 refine Cl [.tmp 6] Tryz.func98 R R R fun r hm=>?_
 unfold fit_Where at hm
 exact Ah<|Ad R R<|Ba R R fun b=>Ab R R (Ai R)<|Ac<|Ah<|Ad R R<|A0 z25 fun b2=>Ac<|Ah<|Aa tbk [1] 4 R R<|Ab R R (Bt pl152 R R)<|Ab R R (C3 R R)<|Ab R R (C3 R R)<|Bh (Bc 9)<|Bh (Ci [1,0,0] R)<|Ad R R<|Bz hm 2 R fn140 R (K120 _ _ _ _ _ _) fun r ob cap hm=>Ac<|Ag tbk [0] R R<|Rg2 hm R [1] ob cap (.cons (.tmp _ _ R) .nil) R R

/-! trireme/taints.Prefers -/
def taints_Prefers (l : List T_api_Toleration) (taints : List T_api_Taint) : Option Int :=
 (taints_Unborne l taints (2 : Int)).bind fun r =>
 some (r.length : Int)
theorem K122 (l : List T_api_Toleration) (taints : List T_api_Taint) : VS Tryz.prog 142 (taints_Prefers l taints) [L172 l, L166 taints] [] Iw N0 := by
 refine A3 [.tmp 4] Tryz.func142 R R R fun r hm=>?_
 unfold taints_Prefers at hm
 exact Ag tbk [] R R<|Ah<|Aa tbk [] 2 R R<|Ad R R<|Am hm 0 R fn181 R (K85 _ _ _) fun r hm=>Ab R R (Av T_api_Taint.vv R B1)<|Ab R R (Ai R)<|Ac<|Rt1 hm R [] R R R

/-! trireme/suit.Prefers -/
def suit_Prefers (m : T_api_Machine) (p : T_api_Pod) : Option Int :=
 (taints_Prefers p.Bears m.Taints).bind fun r =>
 some r
theorem K123 (m : T_api_Machine) (p : T_api_Pod) : VS Tryz.prog 99 (suit_Prefers m p) [T_api_Machine.vv m, T_api_Pod.vv p] [] Iw N0 := by
 refine A3 [.tmp 4] Tryz.func99 R R R fun r hm=>?_
 unfold suit_Prefers at hm
 exact Ah<|Ad R R<|Ba R R fun b=>Ad R R<|Ba R R fun b2=>Ab R R (Ai R)<|Ac<|Ah<|Aa tbk [0,1] 4 R R<|Ad R R<|Am hm 0 R fn142 R (K122 _ _) fun r hm=>Ab R R (Ai R)<|Ac<|Rt1 hm R [] R R R

/-! trireme/res.part -/
def res_part (a : Int) (b : Int) : Option Int :=
 if (decide (b > 0)) = true then
  (V.quo (i64.wrap (1000 * a)) b).bind fun v =>
  some (min (i64.wrap v) 1000000)
 else
  if (decide (a > 0)) = true then
   some 1000000
  else
   some 0
theorem K124 (a : Int) (b : Int) : VS Tryz.prog 184 (res_part a b) [Iw a, Iw b] [] Iw N0 := by
 refine A3 [.tmp 4] Tryz.func184 R R R fun r hm=>?_
 unfold res_part at hm
 exact Ag tbk [] R R<|Ae<|Ay<|Ag tbk [] R R<|Ak hm R (fun h1 hm=>Ah<|Aa tbk [] 3 R R<|Bd hm fun v h2 hm=>Ab R R (De R R h2)<|Ab R R (Di R R)<|Ab R R (Ai R)<|Ac<|Rt1 hm R [] R R R) fun h1 hm=>Ag tbk [] R R<|Ak hm R (fun h3 hm=>Ag tbk [] R R<|Rt1 hm R [] R R R) fun h3 hm=>Aj<|Ag tbk [] R R<|Rt1 hm R [] R R R

/-! trireme/res.Share -/
def res_Share (a : T_api_Res) (b : T_api_Res) : Option Int :=
 (res_Right a).bind fun r =>
 (if (!r) = true then some true else (res_Right b).bind fun r2 =>
 some (!r2)).bind fun c =>
 if c = true then
  some 0
 else
  (res_part a.Cpu b.Cpu).bind fun r3 =>
  (res_part a.Mem b.Mem).bind fun r4 =>
  some (max r3 r4)
theorem K125 (a : T_api_Res) (b : T_api_Res) : VS Tryz.prog 144 (res_Share a b) [T_api_Res.vv a, T_api_Res.vv b] [] Iw N0 := by
 refine A3 [.tmp 4] Tryz.func144 R R R fun r hm=>?_
 unfold res_Share at hm
 exact Ah<|Ad R R<|Ba R R fun b2=>Ad R R<|Ba R R fun b3=>Ab R R (Ai R)<|Ac<|Ae<|Ah<|Aa tbk [1] 1 R R<|Ad R R<|Am hm 0 R fn130 R (K90 _) fun r hm=>Aa tbk [] 2 R R<|Be hm 4 12 8 R (fun _ K' h4 J hm=>Aa tbk [] 4 R R<|J 3 R R (Bj hm)) (fun _ K' h4 J hm=>Aa tbk [0] 1 R R<|A7 R R R R R<|Am hm 0 R fn130 R (K90 _) fun r2 hm=>Aa tbk [] 2 R R<|J 3 R R (Bj hm)) fun c hm=>Ac<|Ak hm R (fun h7 hm=>Ag tbk [] R R<|Rt1 hm R [] R R R) fun h7 hm=>Aj<|Ae<|A9 0 mixed<|Aq tbk [0,1,2,3,5,6,7,8] [1,0,1,0] (by kernel_rfl) R R R<|Ao 4 (by kernel_rfl)<|Au R R R<|Am hm 0 R fn184 R (K124 _ _) fun r3 hm=>Ao 9 (by kernel_rfl)<|Au R R R<|Am hm 0 R fn184 R (K124 _ _) fun r4 hm=>Ax 10 R R R (by kernel_rfl) (C9 R R)<|Ax 11 R R R (by kernel_rfl) (Ai R)<|A5 (by kernel_rfl)<|Rt1 hm R [] R R R

/-! (*trireme/plan.planner).full -/
def plan_planner_full (x : T_plan_planner) (m : T_api_Machine) : Option Int :=
 (yard_Used x.bs m.Name).bind fun r =>
 (res_Share r.1 m.Has).bind fun r2 =>
 some r2
theorem K126 (x : T_plan_planner) (m : T_api_Machine) (b : Nat) (ob : Option Nat) (cap : Nat) : VS Tryz.prog 100 (plan_planner_full x m) [.ptr b 0, T_api_Machine.vv m] [.box b 102 [L61 x.ms, Z49 ob x.bs cap, L9 x.barred], Q49 ob cap x.bs] Iw (fun r=>[.box b 102 [L61 x.ms, Z49 ob x.bs cap, L9 x.barred], Q49 ob cap x.bs]) := by
 refine A3 [.tmp 4] Tryz.func100 R R R fun r hm=>?_
 unfold plan_planner_full at hm
 refine Ah<|Ad R R<|Ba R R fun b2=>Ab R R (Ai R)<|Ac<|Ae<|B8 (Ci [2,0,0] R)<|A9 1 mixed<|Aq tbk [0,1,2,3,4,5] [1,0] (by kernel_rfl) R R R<|?_
 refine B4 [6,10] (by kernel_rfl) ⟨?_,?_,trivial⟩
 ·exact Au R R R<|C4 hm (Aw 0 [(11,L49 x.bs)] R ⟨⟨_,R,.here _ R⟩,trivial⟩ (FzH.refl _)) [.same,.same] R fn143 R (K97 _ _) (fun _=>R) (fun _=>R) fun r hm=>Aq tbk [7,8,9] [] (by kernel_rfl) R R R<|Ao 10 (by kernel_rfl)<|Au R R R<|A0 z41 fun b3=>Ao 11 (by kernel_rfl)<|Au R R R<|An (i:=0) R R R ld41 R R R<|Ax 12 R R R (by kernel_rfl) (Ai R)<|A5 (by kernel_rfl)<|Ah<|Aa tbk [0,2] 3 R R<|Ad R R<|Am hm 0 R fn144 R (K125 _ _) fun r2 hm=>Ab R R (Ai R)<|Ac<|Rt1 hm R [3,1] R R R
 ·exact Au R R R<|A0 z41 fun b4=>Ao 6 (by kernel_rfl)<|Au R R R<|C4 hm (Aw 1 [(11,L49 x.bs)] R ⟨⟨_,R,.here _ R⟩,trivial⟩ (FzH.refl _)) [.same,.same] R fn143 R (K97 _ _) (fun _=>R) (fun _=>R) fun r3 hm=>Aq tbk [7,8,9] [] (by kernel_rfl) R R R<|Ao 11 (by kernel_rfl)<|Au R R R<|An (i:=0) R R R ld41 R R R<|Ax 12 R R R (by kernel_rfl) (Ai R)<|A5 (by kernel_rfl)<|Ah<|Aa tbk [0,2] 3 R R<|Ad R R<|Am hm 0 R fn144 R (K125 _ _) fun r4 hm=>Ab R R (Ai R)<|Ac<|Rt1 hm R [3,1] R R R

/-! (*trireme/plan.planner).best -/
def plan_planner_best.l1 (x : T_plan_planner) (p : T_api_Pod) : List ByteArray → Nat → ByteArray → Int → Int → Option ByteArray
 | [], k, best2, prefers2, share2 => some best2
 | y :: l, k, best2, prefers2, share2 =>
  (plan_among x.barred y).bind fun r2 =>
  if r2 = true then
   plan_planner_best.l1 x p l (k + 1) best2 prefers2 share2
  else
   ((yard_Find x.ms y).bind fun r3 =>
   (V.gl x.ms r3).bind fun x2 =>
   some x2).bind fun m2 =>
   (suit_Prefers m2 p).bind fun r5 =>
   (plan_planner_full x m2).bind fun r6 =>
   if (((V.seq best2 (⟨#[]⟩ : ByteArray)) || (decide (r5 < prefers2))) || ((r5 == prefers2) && (decide (r6 < share2)))) = true then
    plan_planner_best.l1 x p l (k + 1) y r5 r6
   else
    plan_planner_best.l1 x p l (k + 1) best2 prefers2 share2
def plan_planner_best (x : T_plan_planner) (p : T_api_Pod) : Option ByteArray :=
 (fit_Where x.ms x.bs p).bind fun r =>
 (plan_planner_best.l1 x p r 0 (⟨#[]⟩ : ByteArray) 0 (0 : Int)).bind fun best32 =>
 some best32
theorem K127 (x : T_plan_planner) (p : T_api_Pod) (b : Nat) (ob : Option Nat) (cap : Nat) : VS Tryz.prog 49 (plan_planner_best x p) [.ptr b 0, T_api_Pod.vv p] [.box b 102 [L61 x.ms, Z49 ob x.bs cap, L9 x.barred], Q49 ob cap x.bs] .str (fun r=>[.box b 102 [L61 x.ms, Z49 ob x.bs cap, L9 x.barred], Q49 ob cap x.bs]) := by
 refine A3 [.tmp 4] Tryz.func49 R R R fun r hm=>?_
 unfold plan_planner_best at hm
 refine Ah<|Ad R R<|Ba R R fun b2=>Ab R R (Ai R)<|Ac<|Ag tbk [] R R<|Ae<|Ae<|B8 (Ci [2,0,0] R)<|A9 1 mixed<|Aq tbk [0,1,2,3,4,5,6,7,8,11] [1,1,0] (by kernel_rfl) R R R<|Ao 9 (by kernel_rfl)<|Au R R R<|VO.ce2 hm (Aw 0 [(20,L49 x.bs)] R ⟨⟨_,R,.here _ R⟩,trivial⟩ (FzH.refl _)) [.same,.same,.same] R fn98 R (K121 _ _ _) (fun _ _ _=>R) (fun _ _ _=>flH1 fun _=>R) fun r ob2 cap2 hm=>Cc (Aw 0 [(22,L9 r)] R ⟨⟨_,R,.here _ R⟩,trivial⟩ (FzH.refl _))<|Ax 10 R R R (by kernel_rfl) (Av VV.str R Bo)<|A5 (by kernel_rfl)<|B7 22 R fun h6=>Bw hm (fun best32 (_:Unit)=>[(5,.str best32)]) (fun _ (_:Unit)=>[Q49 ob cap x.bs,.box b 102 [L61 x.ms,Z49 ob x.bs cap,L9 x.barred]]) (fun o hm=>?_) fun best32 _ hm=> ?_
 ·refine Cn (r) (fun zl zk (zs:ByteArray × Int × Int)=>plan_planner_best.l1 x p zl zk zs.1 zs.2.1 zs.2.2) (fun k zs (_:Unit)=>[(0,.ptr b 0),(3,.ptr b2 0),(5,.str zs.1),(6,Iw zs.2.1),(7,Iw zs.2.2),(22,L9 r),(23,Iw (r.length : Int)),(24,Iw (k : Int))]) (fun _ _ (_:Unit)=>[Q49 ob cap x.bs,X47 b2 p,.box b 102 [L61 x.ms,Z49 ob x.bs cap,L9 x.barred]]) ((⟨#[]⟩ : ByteArray),(0 : Int),(0 : Int)) () hm (Af [0,0,0] R R) (fun k=>Pq fun best2=>Pq fun prefers2 share2 _ hk hm=>?_) fun k y l=>Pq fun best2=>Pq fun prefers2 share2 _ h7 hm=> ?_
  ·rw [plan_planner_best.l1] at hm
   exact Ag tbk [] R R<|Ae<|B5 R (k_end hk)<|A1<|As () hm (Af [0,1] R R)
  rw [plan_planner_best.l1] at hm
  refine Ag tbk [] R R<|Ae<|B0 R (k_lt h7)<|Aj<|Ae<|Ay<|Ah<|Ab R R (Ch VV.str R R el25 h7)<|Aa tbk [] 2 R R<|Ac<|Ae<|Ah<|Aa tbk [2] 5 R R<|Ad R R<|Am hm 0 R fn52 R (K66 _ _) fun r2 hm=>Ac<|Ak hm R (fun h9 hm=>A1<|A2 tbk [] R R<|Ap (best2,prefers2,share2) () hm (Bm [0,0,0] R ⟨R,R,R,R,R,R,R,congrArg some (k_next h7 h6),trivial⟩)) fun h9 hm=>Aj<|Db hm (fun _ (gg:Nat)=>[(0,.ptr b 0),(3,.ptr b2 0),(5,.str best2),(6,Iw prefers2),(7,Iw share2),(9,.str y),(10,.ptr gg 0),(22,L9 r),(23,Iw (r.length : Int)),(24,Iw (k : Int))]) (fun m2 (gg:Nat)=>[X61 gg m2,Q49 ob cap x.bs,X47 b2 p,.box b 102 [L61 x.ms,Z49 ob x.bs cap,L9 x.barred]]) (fun o2 hm=>?_) fun m2 b3 hm=> ?_
  ·refine A9 0 mixed<|Aq tbk [0,1,2,3,4,5,6,7,8] [2,2] (by kernel_rfl) R R R<|?_
   refine B4 [9,12] (by kernel_rfl) ⟨?_,?_,trivial⟩
   ·exact Au R R R<|Am hm 0 R fn47 R (K65 _ _) fun r3 hm=>Bd hm fun x2 h14 hm=>Ax 10 R R R (by kernel_rfl) (Az T_api_Machine.vv R R el22 h14)<|Ax 11 R R R (by kernel_rfl) (Bi R ld61 R)<|Ao 12 (by kernel_rfl)<|Au R R R<|A0 z61 fun b4=>Ao 13 (by kernel_rfl)<|Au R R R<|An (i:=0) R R R ld61 R R R<|A5 (by kernel_rfl)<|As _ hm (Af [0,0,0,0] R R)
   ·exact Au R R R<|A0 z61 fun b5=>Ao 9 (by kernel_rfl)<|Au R R R<|Am hm 0 R fn47 R (K65 _ _) fun r4 hm=>Bd hm fun x3 h18 hm=>Ax 10 R R R (by kernel_rfl) (Az T_api_Machine.vv R R el22 h18)<|Ax 11 R R R (by kernel_rfl) (Bi R ld61 R)<|Ao 13 (by kernel_rfl)<|Au R R R<|An (i:=0) R R R ld61 R R R<|A5 (by kernel_rfl)<|As _ hm (Af [0,0,0,0] R R)
  exact Ae<|B8 (Ci [3,1,0,0] R)<|A9 2 mixed<|Aq tbk [0,1,3,4] [0,1,0] (by kernel_rfl) R R R<|Ao 2 (by kernel_rfl)<|Au R R R<|Am hm 0 R fn99 R (K123 _ _) fun r5 hm=>Ao 5 (by kernel_rfl)<|Au R R R<|Am hm 2 R fn100 R (K126 _ _ _ _ _) fun r6 hm=>Aq tbk [6,7] [] (by kernel_rfl) R R R<|A5 (by kernel_rfl)<|Ah<|Aa tbk [] 3 R R<|Cp tbk [] 4 58 54 R R R R R<|Ab R R (Al R)<|Cz 9 68 59 R (fun K' J=>Aa tbk [] 9 R R<|J 8 R R R) (fun h22 K' J=>Aa tbk [] 4 R R<|Bx tbk [] 4 67 63 R R R R R<|Ab R R (Bf false R R R)<|J 5 R R R)<|Ac<|Ak hm R (fun h24 hm=>A2 tbk [] R R<|A2 tbk [] R R<|Ap (y,r5,r6) () hm (Bm [1,2,0] R ⟨R,R,R,R,R,R,R,congrArg some (k_next h7 h6),trivial⟩)) fun h24 hm=>Aj<|A2 tbk [] R R<|Ap (best2,prefers2,share2) () hm (Bm [1,2,0] R ⟨R,R,R,R,R,R,R,congrArg some (k_next h7 h6),trivial⟩)
 exact Ag tbk [] R R<|Rt1 hm R [1,0] R R R

/-! trireme/plan.One -/
def plan_One.l1 (name : ByteArray) : List T_api_Bound → Nat → T_plan_planner → Option T_plan_planner
 | [], k, x2 => some x2
 | x4 :: l, k, x2 =>
  if (!(V.seq x4.On name)) = true then
   (V.ap 288 x2.bs [x4]).bind fun l2 =>
   plan_One.l1 name l (k + 1) (⟨x2.ms, l2, x2.barred⟩ : T_plan_planner)
  else
   plan_One.l1 name l (k + 1) x2
def plan_One.l2 : List T_api_Pod → Nat → T_plan_planner → (List T_api_Move) → Option (Out (List T_api_Move × Bool) (List T_api_Move))
 | [], k2, x6, moves2 => some (Out.go moves2)
 | x7 :: l4, k2, x6, moves2 =>
  (plan_planner_best x6 x7).bind fun r4 =>
  if (V.seq r4 (⟨#[]⟩ : ByteArray)) = true then
   some (Out.ret (([] : List T_api_Move), false))
  else
   (V.ap 288 x6.bs [(⟨x7, r4⟩ : T_api_Bound)]).bind fun l5 =>
   (V.ap 32 moves2 [(⟨x7.Name, r4⟩ : T_api_Move)]).bind fun moves4 =>
   plan_One.l2 l4 (k2 + 1) (⟨x6.ms, l5, x6.barred⟩ : T_plan_planner) moves4
def plan_One (ms : List T_api_Machine) (bs : List T_api_Bound) (name : ByteArray) (barred : List ByteArray) : Option (List T_api_Move × Bool) :=
 (yard_Find ms name).bind fun r =>
 if (decide (r < 0)) = true then
  some (([] : List T_api_Move), false)
 else
  (plan_Without ms [name]).bind fun r2 =>
  (plan_One.l1 name bs 0 (⟨r2, ([] : List T_api_Bound), barred⟩ : T_plan_planner)).bind fun x32 =>
  (block_Movable bs name).bind fun r3 =>
  (plan_One.l2 r3 0 x32 ([] : List T_api_Move)).bind fun o2 =>
  o2.on fun moves32 =>
  some (moves32, true)
theorem K128 (ms : List T_api_Machine) (bs : List T_api_Bound) (name : ByteArray) (barred : List ByteArray) : VS2 Tryz.prog 13 (plan_One ms bs name barred) [L61 ms, L49 bs, .str name, L9 barred] [] (fun r ob0 cap0=>.tup [Z58 ob0 r.1 cap0, .bool r.2]) (fun r ob0 cap0=>[Q58 ob0 cap0 r.1]) := by
 refine Cl [.tmp 8,.tmp 9] Tryz.func13 R R R fun r hm=>?_
 unfold plan_One at hm
 refine Ag tbk [] R R<|Ae<|Ah<|Aa tbk [] 2 R R<|Ad R R<|Am hm 0 R fn47 R (K65 _ _) fun r hm=>Ab R R (A4 R R R)<|Ac<|Ak hm R (fun h2 hm=>Ag tbk [] R R<|B8 (Bc 58)<|Rg2 hm R [0] none 0 (.cons (.tmp _ _ R) (.cons (.tmp _ _ R) .nil)) R R) fun h2 hm=>Aj<|Ah<|Aa tbk [] 2 R R<|Ad R R<|A8 ap25 R R R R R fun b=>Bh (Aw 0 [(23,L9 [name])] R ⟨⟨_,R,.here _ R⟩,trivial⟩ (FzH.refl _))<|Ad R R<|Bz hm 0 R fn20 R (K67 _ _) fun r2 ob cap hm=>Bh (Aw 0 [(24,L61 r2)] R ⟨⟨_,R,.here _ R⟩,trivial⟩ (FzH.refl _))<|Ab R R (Al R)<|Ab R R (Bt pl102 R R)<|Ad R R<|Ba R R fun b2=>Ab R R (Ai R)<|Ac<|Ae<|Ah<|Ab R R (Al R)<|Ab R R (Av T_api_Bound.vv R Bk)<|Ab R R (Al R)<|Ac<|B7 1 R fun h12=>Bw hm (fun _ (gg:Option Nat × Nat)=>[(1,L49 bs),(2,.str name),(10,.ptr b2 0)]) (fun x32 (gg:Option Nat × Nat)=>[Q49 gg.1 gg.2 x32.bs,.box b2 102 [L61 x32.ms,Z49 gg.1 x32.bs gg.2,L9 x32.barred]]) (fun o hm=>?_) fun x32=>Pq fun ob4 cap4 hm=> ?_
 ·refine Cn (bs) (fun zl zk (zs:T_plan_planner)=>plan_One.l1 name zl zk zs) (fun k _ (_:Option Nat × Nat)=>[(1,L49 bs),(2,.str name),(10,.ptr b2 0),(28,L49 bs),(29,Iw (bs.length : Int)),(30,Iw (k : Int))]) (fun _ zs (zg:Option Nat × Nat)=>[Q49 zg.1 zg.2 zs.bs,.box b2 102 [L61 zs.ms,Z49 zg.1 zs.bs zg.2,L9 zs.barred]]) _ (none,0) hm (Bb (Bc 49) (Af [0,0] R R)) (fun k x2=>Pq fun ob3 cap3 hk hm=>?_) fun k x4 l x2=>Pq fun ob3 cap3 h13 hm=> ?_
  ·rw [plan_One.l1] at hm
   exact Ag tbk [] R R<|Ae<|B5 R (k_end hk)<|A1<|As (ob3,cap3) hm (Af [0,0] R R)
  rw [plan_One.l1] at hm
  refine Ag tbk [] R R<|Ae<|B0 R (k_lt h13)<|Aj<|Ae<|Ay<|Ah<|Ab R R (Ch T_api_Bound.vv R R el23 h13)<|Ab R R (Bi R ld49 R)<|Ad R R<|A0 z49 fun b3=>Ad R R<|An (i:=0) R R R ld49 R R R<|Ac<|Ag tbk [0] R R<|Ak hm R (fun h15 hm=>?_) fun h15 hm=> ?_
  ·refine B8 (Ci [1,1,0] R)<|A9 2 mixed<|Aq tbk [0,1,2,3,5] [0] (by kernel_rfl) R R R<|?_
   refine B4 [4,6] (by kernel_rfl) ⟨?_,?_,trivial⟩
   ·exact Au R R R<|Da (C6 (i:=1) R R ld23 R)<|Ao 6 (by kernel_rfl)<|Au R R R<|A8 ap23 R R R R R fun b4=>Ao 7 (by kernel_rfl)<|Bd hm fun l2 h17 hm=>Au R R R<|B3 1 T_api_Bound.vv (l:=x2.bs) (l2:=[x4]) ap23 R R (sT_row 0 T_api_Bound.vv el23 R R) h17 fun ob5 cap5=>Aq tbk [8,9] [] (by kernel_rfl) R R R<|Ao 10 (by kernel_rfl)<|Au R R R<|An (i:=2) R R R ld23 R R R<|A5 (by kernel_rfl)<|A2 tbk [] R R<|Ap _ (ob5,cap5) hm (Bm [1,1] R ⟨R,R,R,R,R,congrArg some (k_next h13 h12),trivial⟩)
   ·exact Au R R R<|A8 ap23 R R R R R fun b5=>Ao 4 (by kernel_rfl)<|Au R R R<|Da (C6 (i:=2) R R ld23 R)<|Ao 7 (by kernel_rfl)<|Bd hm fun l3 h19 hm=>Au R R R<|B3 1 T_api_Bound.vv (l:=x2.bs) (l2:=[x4]) ap23 R R (sT_row 0 T_api_Bound.vv el23 R R) h19 fun ob6 cap6=>Aq tbk [8,9] [] (by kernel_rfl) R R R<|Ao 10 (by kernel_rfl)<|Au R R R<|An (i:=2) R R R ld23 R R R<|A5 (by kernel_rfl)<|A2 tbk [] R R<|Ap _ (ob6,cap6) hm (Bm [1,1] R ⟨R,R,R,R,R,congrArg some (k_next h13 h12),trivial⟩)
  exact Aj<|A2 tbk [] R R<|Ap _ (ob3,cap3) hm (Bm [1,1] R ⟨R,R,R,R,R,congrArg some (k_next h13 h12),trivial⟩)
 refine Ag tbk [] R R<|Ae<|Ah<|Aa tbk [] 2 R R<|Ad R R<|Bz hm 0 R fn48 R (K69 _ _) fun r3 ob7 cap7 hm=>Bh (Aw 0 [(51,L47 r3)] R ⟨⟨_,R,.here _ R⟩,trivial⟩ (FzH.refl _))<|Ab R R (Av T_api_Pod.vv R Bv)<|Ab R R (Al R)<|Ac<|B7 51 R fun h27=>Bn hm (fun moves32 (gg:Option Nat × Nat)=>[(13,Z58 gg.1 moves32 gg.2)]) (fun moves32 (gg:Option Nat × Nat)=>[Q58 gg.1 gg.2 moves32]) (fun o2 hm h26=>?_) fun moves32=>Pq fun ob12 cap12 hm=> ?_
 ·refine Cn (r3) (fun zl zk (zs:T_plan_planner × List T_api_Move)=>plan_One.l2 zl zk zs.1 zs.2) (fun k2 zs (zg:Option Nat × Nat × Option Nat × Nat)=>[(10,.ptr b2 0),(13,Z58 zg.2.2.1 zs.2 zg.2.2.2),(51,L47 r3),(52,Iw (r3.length : Int)),(53,Iw (k2 : Int))]) (fun _ zs (zg:Option Nat × Nat × Option Nat × Nat)=>[Q58 zg.2.2.1 zg.2.2.2 zs.2,Q49 zg.1 zg.2.1 zs.1.bs,.box b2 102 [L61 zs.1.ms,Z49 zg.1 zs.1.bs zg.2.1,L9 zs.1.barred]]) (x32,([] : List T_api_Move)) (ob4,cap4,none,0) hm (Bb (Bc 58) (Af [0,0,0] R R)) (fun k2=>Pq fun x6 moves2=>Pq fun ob10=>Pq fun cap10=>Pq fun ob11 cap11 hk hm=>?_) fun k2 x7 l4=>Pq fun x6 moves2=>Pq fun ob10=>Pq fun cap10=>Pq fun ob11 cap11 h28 hm=> ?_
  ·rw [plan_One.l2] at hm
   exact Ag tbk [] R R<|Ae<|B5 R (k_end hk)<|A1<|Ar (ob11,cap11) hm (Af [0] R R)
  rw [plan_One.l2] at hm
  refine Ag tbk [] R R<|Ae<|B0 R (k_lt h28)<|Aj<|Ae<|Ay<|Ah<|Ab R R (Ch T_api_Pod.vv R R el55 h28)<|Ab R R (Bi R ld47 R)<|Ad R R<|A0 z47 fun b6=>Ad R R<|An (i:=0) R R R ld47 R R R<|Ac<|Ah<|Aa tbk [0] 2 R R<|Bh (Ci [3,2,0,0] R)<|Ad R R<|Am hm 2 R fn49 R (K127 _ _ _ _ _) fun r4 hm=>Ab R R (Ai R)<|Ac<|Ae<|Ag tbk [] R R<|Ak hm R (fun h31 hm=>Ag tbk [] R R<|have hm:=Lr hm h26;B8 (Bc 58)<|Rg2 hm R [0] none 0 (.cons (.tmp _ _ R) (.cons (.tmp _ _ R) .nil)) R R) fun h31 hm=>Aj<|Ae<|A9 2 mixed<|Aq tbk [0,1,2,3,5,6] [0] (by kernel_rfl) R R R<|Ax 7 R R R (by kernel_rfl) (Bt pl49 R R)<|?_
  refine B4 [4,8] (by kernel_rfl) ⟨?_,?_,trivial⟩
  ·exact Au R R R<|Da (C6 (i:=0) R R ld23 R)<|Ao 8 (by kernel_rfl)<|Au R R R<|A8 ap23 R R R R R fun b7=>Ao 9 (by kernel_rfl)<|Bd hm fun l5 h34 hm=>Au R R R<|B3 2 T_api_Bound.vv (l:=x6.bs) (l2:=[(⟨x7,r4⟩ : T_api_Bound)]) ap23 R R (sT_row 0 T_api_Bound.vv el23 R R) h34 fun ob13 cap13=>Aq tbk [10,11] [] (by kernel_rfl) R R R<|Ao 12 (by kernel_rfl)<|Au R R R<|An (i:=1) R R R ld23 R R R<|A5 (by kernel_rfl)<|Bq<|Aa tbk [3] 4 R R<|Ab R R (Bt pl58 R R)<|Ad R R<|A8 ap30 R R R R R fun b8=>Bd hm fun moves4 h36 hm=>Ad R R<|B3 5 T_api_Move.vv (l:=moves2) (l2:=[(⟨x7.Name,r4⟩ : T_api_Move)]) ap30 R R (sT_row 0 T_api_Move.vv el30 R R) h36 fun ob14 cap14=>Ab R R (Ai R)<|Ac<|A2 tbk [] R R<|Ap ((⟨x6.ms,l5,x6.barred⟩ : T_plan_planner),moves4) (ob13,cap13,ob14,cap14) hm (Bm [5,3,2] R ⟨R,R,R,R,congrArg some (k_next h28 h27),trivial⟩)
  ·exact Au R R R<|A8 ap23 R R R R R fun b9=>Ao 4 (by kernel_rfl)<|Au R R R<|Da (C6 (i:=1) R R ld23 R)<|Ao 9 (by kernel_rfl)<|Bd hm fun l6 h38 hm=>Au R R R<|B3 2 T_api_Bound.vv (l:=x6.bs) (l2:=[(⟨x7,r4⟩ : T_api_Bound)]) ap23 R R (sT_row 0 T_api_Bound.vv el23 R R) h38 fun ob15 cap15=>Aq tbk [10,11] [] (by kernel_rfl) R R R<|Ao 12 (by kernel_rfl)<|Au R R R<|An (i:=1) R R R ld23 R R R<|A5 (by kernel_rfl)<|Bq<|Aa tbk [3] 4 R R<|Ab R R (Bt pl58 R R)<|Ad R R<|A8 ap30 R R R R R fun b10=>Bd hm fun moves5 h40 hm=>Ad R R<|B3 5 T_api_Move.vv (l:=moves2) (l2:=[(⟨x7.Name,r4⟩ : T_api_Move)]) ap30 R R (sT_row 0 T_api_Move.vv el30 R R) h40 fun ob16 cap16=>Ab R R (Ai R)<|Ac<|A2 tbk [] R R<|Ap ((⟨x6.ms,l6,x6.barred⟩ : T_plan_planner),moves5) (ob15,cap15,ob16,cap16) hm (Bm [5,3,2] R ⟨R,R,R,R,congrArg some (k_next h28 h27),trivial⟩)
 exact Ag tbk [] R R<|Rg2 hm R [0] ob12 cap12 (.cons (.tmp _ _ R) (.cons (.tmp _ _ R) .nil)) R R

/-! trireme/block.one -/
def block_one.l1 : List Bool → Nat → Option (Out Bool Unit)
 | [], k => some (Out.go ())
 | x :: l2, k =>
  if x = true then
   some (Out.ret true)
  else
   block_one.l1 l2 (k + 1)
def block_one (l : List Bool) : Option Bool :=
 (block_one.l1 l 0).bind fun o =>
 o.on fun j =>
 some false
theorem K129 (l : List Bool) : VS Tryz.prog 149 (block_one l) [L4 l] [] .bool N0 := by
 refine A3 [.tmp 2] Tryz.func149 R R R fun r hm=>?_
 unfold block_one at hm
 refine Ag tbk [] R R<|Ae<|Ah<|Ab R R (Al R)<|Ab R R (Av VV.bool R Tryz.underlying190)<|Ab R R (Al R)<|Ac<|B7 5 R fun h3=>Bn hm (fun _ (_:Unit)=>[]) (fun _ (_:Unit)=>[]) (fun o hm h2=>?_) fun j _ hm=> ?_
 ·refine Cn (l) (fun zl zk (zs:Unit)=>block_one.l1 zl zk) (fun k _ (_:Unit)=>[(5,L4 l),(6,Iw (l.length : Int)),(7,Iw (k : Int))]) (fun _ _ (_:Unit)=>[]) () () hm (Af [] R R) (fun k _ _ hk hm=>?_) fun k x l2 _ _ h4 hm=> ?_
  ·rw [block_one.l1] at hm
   exact Ag tbk [] R R<|Ae<|B5 R (k_end hk)<|A1<|Ar () hm (Af [] R R)
  rw [block_one.l1] at hm
  exact Ag tbk [] R R<|Ae<|B0 R (k_lt h4)<|Aj<|Ae<|Ay<|Ah<|Ab R R (Ch VV.bool R R el190 h4)<|Aa tbk [] 2 R R<|Ac<|Ag tbk [] R R<|Ak hm R (fun h5 hm=>Ag tbk [] R R<|have hm:=Lr hm h2;Rt1 hm R [] R R R) fun h5 hm=>Aj<|A2 tbk [] R R<|Ap () () hm (Bm [] R ⟨R,R,congrArg some (k_next h4 h3),trivial⟩)
 exact Ag tbk [] R R<|Rt1 hm R [] R R R

/-! trireme/block.blocks -/
def block_blocks (p : T_api_Pod) : Option Bool :=
 (block_one [p.Pinned, p.Local, (V.seq p.Owner (⟨#[]⟩ : ByteArray))]).bind fun r =>
 some r
theorem K130 (p : T_api_Pod) : VS Tryz.prog 103 (block_blocks p) [T_api_Pod.vv p] [] .bool N0 := by
 refine A3 [.tmp 2] Tryz.func103 R R R fun r hm=>?_
 unfold block_blocks at hm
 exact Ah<|Ad R R<|Ba R R fun b=>Ab R R (Ai R)<|Ac<|Ah<|Aa tbk [0,0,0] 7 R R<|Ad R R<|A8 ap190 R R R R R fun b2=>Bh (Aw 0 [(10,L4 [p.Pinned,p.Local,(V.seq p.Owner (⟨#[]⟩ : ByteArray))])] R ⟨⟨_,R,.here _ R⟩,trivial⟩ (FzH.refl _))<|Ad R R<|Am hm 0 R fn149 R (K129 _) fun r hm=>Ab R R (Ai R)<|Ac<|Rt1 hm R [] R R R

/-! trireme/yard.Place$1 -/
def yard_Place_1 (i : Int) (a : List T_api_Bound) (a2 : ByteArray) : Option Bool :=
 (V.gl a i).bind fun x =>
 some (V.seq x.Pod.Name a2)
theorem K131 (i : Int) (a : List T_api_Bound) (a2 : ByteArray) (b : Nat) (b2 : Nat) : VS Tryz.prog 105 (yard_Place_1 i a a2) [Iw i, .ptr b 0, .ptr b2 0] [.box b 23 [L49 a], .box b2 9 [.str a2]] .bool (fun r=>[.box b 23 [L49 a], .box b2 9 [.str a2]]) := by
 refine A3 [.tmp 4] Tryz.func105 R R R fun r hm=>?_
 unfold yard_Place_1 at hm
 exact Ag tbk [] R R<|Ae<|A9 0 mixed<|Aq tbk [0,1] [0] (by kernel_rfl) R R R<|Bd hm fun x h1 hm=>Ax 2 R R R (by kernel_rfl) (Az T_api_Bound.vv R R el23 h1)<|Aq tbk [3,4,5,6,7,8] [1] (by kernel_rfl) R R R<|A5 (by kernel_rfl)<|Rt1 hm R [0,0] R R R

/-! trireme/yard.first -/
def yard_first_yard_Place_1.l1 (n : Int) (c : List T_api_Bound) (c2 : ByteArray) : Nat → Int → Option (Out Int Unit)
 | 0, _ => none
 | n2 + 1, v2 =>
  if (decide (v2 < n)) = true then
   (yard_Place_1 v2 c c2).bind fun r =>
   if r = true then
    some (Out.ret v2)
   else
    yard_first_yard_Place_1.l1 n c c2 n2 (i64.wrap (v2 + 1))
  else
   some (Out.go ())
def yard_first_yard_Place_1 (n : Int) (c : List T_api_Bound) (c2 : ByteArray) : Option Int :=
 (yard_first_yard_Place_1.l1 n c c2 FU (0 : Int)).bind fun o =>
 o.on fun j =>
 some (-1)
theorem K132 (n : Int) (c : List T_api_Bound) (c2 : ByteArray) (b : Nat) (b2 : Nat) : VS Tryz.prog 96 (yard_first_yard_Place_1 n c c2) [Iw n, .clo (.func 105) [] [.ptr b 0, .ptr b2 0]] [.box b 23 [L49 c], .box b2 9 [.str c2]] Iw (fun r=>[.box b 23 [L49 c], .box b2 9 [.str c2]]) := by
 refine A3 [.tmp 4] Dj R R R fun r hm=>?_
 unfold yard_first_yard_Place_1 at hm
 refine Ag tbk [] R R<|Ae<|Ag tbk [] R R<|Bn hm (fun _ (_:Unit)=>[]) (fun _ (_:Unit)=>[.box b 23 [L49 c],.box b2 9 [.str c2]]) (fun o hm h2=>?_) fun j _ hm=> ?_
 ·refine Bl (fun zn (zs:Int)=>yard_first_yard_Place_1.l1 n c c2 zn zs) (fun zs (_:Unit)=>[(1,.clo (.func 105) [] [.ptr b 0,.ptr b2 0]),(6,Iw n),(7,Iw zs)]) (fun _ (_:Unit)=>[.box b 23 [L49 c],.box b2 9 [.str c2]]) _ () (fun _=>R) hm (Af [0,0] R R) fun n2 v2 _ hm=> ?_
  rw [yard_first_yard_Place_1.l1] at hm
  exact Ag tbk [] R R<|Ae<|Ak hm R (fun h3 hm=>Aj<|Ae<|Ay<|Ag tbk [] R R<|Ah<|Aa tbk [] 2 R R<|Ad R R<|Am hm 2 R fn105 R (K131 _ _ _ _ _) fun r hm=>Ac<|Ak hm R (fun h5 hm=>Ag tbk [] R R<|have hm:=Lr hm h2;Rt1 hm R [0,0] R R R) fun h5 hm=>Aj<|A2 tbk [] R R<|Ap _ () hm (Af [0,0] R R)) fun h3 hm=>A1<|Ar () hm (Af [0,0] R R)
 exact Ag tbk [] R R<|Rt1 hm R [0,0] R R R

/-! trireme/yard.Place -/
def yard_Place (bs : List T_api_Bound) (name : ByteArray) : Option Int :=
 (yard_first_yard_Place_1 (bs.length : Int) bs name).bind fun r =>
 some r
theorem K133 (bs : List T_api_Bound) (name : ByteArray) : VS Tryz.prog 54 (yard_Place bs name) [L49 bs, .str name] [] Iw N0 := by
 refine A3 [.tmp 4] Tryz.func54 R R R fun r hm=>?_
 unfold yard_Place at hm
 exact Ah<|Ad R R<|Ba R R fun b=>Ad R R<|Ba R R fun b2=>Ab R R (Ai R)<|Ac<|Ah<|Aa tbk [1] 1 R R<|Ab R R (Av T_api_Bound.vv R Bk)<|Ab R R (C3 R R)<|Bh (Ci [1,0] R)<|Ad R R<|Am hm 2 R fn96 R (K132 _ _ _ _ _) fun r hm=>Ab R R (Ai R)<|Ac<|Rt1 hm R [] R R R

/-! trireme/budget.counts -/
def budget_counts (b : T_api_Budget) (p : T_api_Pod) : Option Bool :=
 (labels_Has p.Labels b.Match).bind fun r =>
 some r
theorem K134 (b : T_api_Budget) (p : T_api_Pod) : VS Tryz.prog 188 (budget_counts b p) [T_api_Budget.vv b, T_api_Pod.vv p] [] .bool N0 := by
 refine A3 [.tmp 4] Tryz.func188 R R R fun r hm=>?_
 unfold budget_counts at hm
 exact Ah<|Ad R R<|Ba R R fun b2=>Ad R R<|Ba R R fun b3=>Ab R R (Ai R)<|Ac<|Ah<|Aa tbk [0,1] 4 R R<|Ad R R<|Am hm 0 R fn212 R (K72 _ _) fun r hm=>Ab R R (Ai R)<|Ac<|Rt1 hm R [] R R R

/-! trireme/budget.Spare -/
def budget_Spare.l1 (b : T_api_Budget) : List T_api_Bound → Nat → Int → Option Int
 | [], k, n2 => some n2
 | x :: l, k, n2 =>
  (if (!(V.seq x.On (⟨#[]⟩ : ByteArray))) = true then (budget_counts b x.Pod).bind fun r =>
  some r else some false).bind fun c =>
  if c = true then
   budget_Spare.l1 b l (k + 1) (i64.wrap (n2 + 1))
  else
   budget_Spare.l1 b l (k + 1) n2
def budget_Spare (b : T_api_Budget) (bs : List T_api_Bound) : Option Int :=
 (budget_Spare.l1 b bs 0 (i64.wrap (0 - b.Least))).bind fun n32 =>
 some n32
theorem K135 (b : T_api_Budget) (bs : List T_api_Bound) : VS Tryz.prog 189 (budget_Spare b bs) [T_api_Budget.vv b, L49 bs] [] Iw N0 := by
 refine A3 [.tmp 4] Tryz.func189 R R R fun r hm=>?_
 unfold budget_Spare at hm
 refine Ah<|Ad R R<|Ba R R fun b2=>Ab R R (Ai R)<|Ac<|Ah<|Aa tbk [0] 2 R R<|Ab R R (VP.neg R)<|Ab R R (Ai R)<|Ac<|Ae<|Ah<|Ab R R (Al R)<|Ab R R (Av T_api_Bound.vv R Bk)<|Ab R R (Al R)<|Ac<|B7 11 R fun h4=>Bw hm (fun n32 (_:Unit)=>[(5,Iw n32)]) (fun _ (_:Unit)=>[]) (fun o hm=>?_) fun n32 _ hm=> ?_
 ·refine Cn (bs) (fun zl zk (zs:Int)=>budget_Spare.l1 b zl zk zs) (fun k zs (_:Unit)=>[(2,.ptr b2 0),(5,Iw zs),(11,L49 bs),(12,Iw (bs.length : Int)),(13,Iw (k : Int))]) (fun _ _ (_:Unit)=>[X64 b2 b]) _ () hm (Af [0] R R) (fun k n2 _ hk hm=>?_) fun k x l n2 _ h5 hm=> ?_
  ·rw [budget_Spare.l1] at hm
   exact Ag tbk [] R R<|Ae<|B5 R (k_end hk)<|A1<|As () hm (Af [] R R)
  rw [budget_Spare.l1] at hm
  exact Ag tbk [] R R<|Ae<|B0 R (k_lt h5)<|Aj<|Ae<|Ay<|Ah<|Ab R R (Ch T_api_Bound.vv R R el23 h5)<|Ab R R (Bi R ld49 R)<|Ad R R<|A0 z49 fun b3=>Ad R R<|An (i:=0) R R R ld49 R R R<|Ac<|Ah<|Aa tbk [0] 4 R R<|Be hm 5 25 20 R (fun _ K' h7 J hm=>Aa tbk [1,0] 3 R R<|A7 R R R R R<|Am hm 0 R fn188 R (K134 _ _) fun r hm=>Ab R R (Bf true R R R)<|J 4 R R (Bj hm)) (fun _ K' h7 J hm=>Aa tbk [] 5 R R<|J 4 R R (Bj hm)) fun c hm=>Ac<|Ak hm R (fun h10 hm=>A2 tbk [] R R<|A2 tbk [] R R<|Ap _ () hm (Bm [1] R ⟨R,R,R,R,congrArg some (k_next h5 h4),trivial⟩)) fun h10 hm=>Aj<|A2 tbk [] R R<|Ap _ () hm (Bm [1] R ⟨R,R,R,R,congrArg some (k_next h5 h4),trivial⟩)
 exact Ag tbk [] R R<|Rt1 hm R [] R R R

/-! trireme/budget.May -/
def budget_May.l1 (bs : List T_api_Bound) (r : Int) : List T_api_Budget → Nat → Option (Out Int Unit)
 | [], k => some (Out.go ())
 | x2 :: l2, k =>
  (V.gl bs r).bind fun x3 =>
  (budget_counts x2 x3.Pod).bind fun r2 =>
  (if r2 = true then (budget_Spare x2 bs).bind fun r3 =>
  some (decide (r3 ≤ 0)) else some false).bind fun c =>
  if c = true then
   some (Out.ret 20)
  else
   budget_May.l1 bs r l2 (k + 1)
def budget_May (l : List T_api_Budget) (bs : List T_api_Bound) (name : ByteArray) : Option Int :=
 (yard_Place bs name).bind fun r =>
 if (decide (r < 0)) = true then
  some 16
 else
  (V.gl bs r).bind fun x =>
  if (V.seq x.On (⟨#[]⟩ : ByteArray)) = true then
   some 22
  else
   (budget_May.l1 bs r l 0).bind fun o =>
   o.on fun j =>
   some 0
theorem K136 (l : List T_api_Budget) (bs : List T_api_Bound) (name : ByteArray) : VS Tryz.prog 150 (budget_May l bs name) [L64 l, L49 bs, .str name] [] Iw N0 := by
 refine A3 [.tmp 6] Tryz.func150 R R R fun r hm=>?_
 unfold budget_May at hm
 refine Ag tbk [] R R<|Ah<|Aa tbk [] 2 R R<|Ad R R<|Am hm 0 R fn54 R (K133 _ _) fun r hm=>Ab R R (Ai R)<|Ac<|Ae<|Ay<|Ag tbk [] R R<|Ak hm R (fun h2 hm=>Ag tbk [] R R<|Rt1 hm R [] R R R) fun h2 hm=>Ah<|Aa tbk [] 2 R R<|Bd hm fun x h3 hm=>Ab R R (Az T_api_Bound.vv R R el23 h3)<|Aa tbk [] 4 R R<|Ac<|Ak hm R (fun h4 hm=>Ag tbk [] R R<|Rt1 hm R [] R R R) fun h4 hm=>Aj<|Ae<|Ah<|Ab R R (Al R)<|Ab R R (Av T_api_Budget.vv R Cs)<|Ab R R (Al R)<|Ac<|B7 23 R fun h7=>Bn hm (fun _ (_:Unit)=>[]) (fun _ (_:Unit)=>[]) (fun o hm h6=>?_) fun j _ hm=> ?_
 ·refine Cn (l) (fun zl zk (zs:Unit)=>budget_May.l1 bs r zl zk) (fun k _ (_:Unit)=>[(1,L49 bs),(7,Iw r),(23,L64 l),(24,Iw (l.length : Int)),(25,Iw (k : Int))]) (fun _ _ (_:Unit)=>[]) () () hm (Af [] R R) (fun k _ _ hk hm=>?_) fun k x2 l2 _ _ h8 hm=> ?_
  ·rw [budget_May.l1] at hm
   exact Ag tbk [] R R<|Ae<|B5 R (k_end hk)<|A1<|Ar () hm (Af [] R R)
  rw [budget_May.l1] at hm
  exact Ag tbk [] R R<|Ae<|B0 R (k_lt h8)<|Aj<|Ae<|Ay<|Ah<|Ab R R (Ch T_api_Budget.vv R R el24 h8)<|Ab R R (Bi R ld64 R)<|Ad R R<|A0 z64 fun b=>Ad R R<|An (i:=0) R R R ld64 R R R<|Ac<|Ae<|A9 0 mixed<|Aq tbk [0,1,2] [0] (by kernel_rfl) R R R<|Bd hm fun x3 h10 hm=>Ax 3 R R R (by kernel_rfl) (Az T_api_Bound.vv R R el23 h10)<|Aq tbk [4,5] [] (by kernel_rfl) R R R<|Ao 6 (by kernel_rfl)<|Au R R R<|Am hm 0 R fn188 R (K134 _ _) fun r2 hm=>Ax 7 R R R (by kernel_rfl) (Al R)<|Cr hm [12,11,10,9,8,7,6,5,4,3,2,1,0] 41 36 R (fun _ K' h12 J hm=>Aq tbk [8,9] [0] (by kernel_rfl) R R R<|Ao 10 (by kernel_rfl)<|Cv R R R R R R<|Am hm 0 R fn189 R (K135 _ _) fun r3 hm=>Aq tbk [11,12] [] (by kernel_rfl) R R R<|J 4 R R (Bj hm)) (fun _ K' h12 J hm=>Aq tbk [8,9,10,11,12] [] (by kernel_rfl) R R R<|J 4 R R (Bj hm)) fun c hm=>A5 (by kernel_rfl)<|Ak hm R (fun h15 hm=>Ag tbk [] R R<|have hm:=Lr hm h6;Rt1 hm R [] R R R) fun h15 hm=>Aj<|A2 tbk [] R R<|Ap () () hm (Bm [] R ⟨R,R,R,R,congrArg some (k_next h8 h7),trivial⟩)
 exact Ag tbk [] R R<|Rt1 hm R [] R R R

/-! trireme/budget.Evict -/
def budget_Evict (l : List T_api_Budget) (bs : List T_api_Bound) (name : ByteArray) : Option (List T_api_Bound × Int) :=
 (budget_May l bs name).bind fun r =>
 if (r != 0) = true then
  some (([] : List T_api_Bound), r)
 else
  (V.ap 288 ([] : List T_api_Bound) bs).bind fun l2 =>
  (yard_Place bs name).bind fun r2 =>
  (V.gl l2 r2).bind fun x =>
  some ((List.set l2 (r2).toNat (⟨x.Pod, (⟨#[]⟩ : ByteArray)⟩ : T_api_Bound)), 0)
theorem K137 (l : List T_api_Budget) (bs : List T_api_Bound) (name : ByteArray) : VS2 Tryz.prog 104 (budget_Evict l bs name) [L64 l, L49 bs, .str name] [] (fun r ob0 cap0=>.tup [Z49 ob0 r.1 cap0, Iw r.2]) (fun r ob0 cap0=>[Q49 ob0 cap0 r.1]) := by
 refine Cl [.tmp 6,.tmp 7] Tryz.func104 R R R fun r hm=>?_
 unfold budget_Evict at hm
 refine Ag tbk [] R R<|Ae<|Ah<|Aa tbk [] 3 R R<|Ad R R<|Am hm 0 R fn150 R (K136 _ _ _) fun r hm=>Ab R R (Ai R)<|Ac<|Ag tbk [] R R<|Ak hm R (fun h2 hm=>Ag tbk [] R R<|B8 (Bc 49)<|Rg2 hm R [0] none 0 (.cons (.tmp _ _ R) (.cons (.tmp _ _ R) .nil)) R R) fun h2 hm=>Aj<|Ah<|Ab R R (Al R)<|Bh (Bc 49)<|Bd hm fun l2 h5 hm=>Ad R R<|B3 0 T_api_Bound.vv (l:=([] : List T_api_Bound)) (l2:=bs) ap23 R R (sT_list T_api_Bound.vv el23 R R) h5 fun ob cap=>Ab R R (Ai R)<|Ac<|Ah<|Aa tbk [] 3 R R<|Ad R R<|Am hm 0 R fn54 R (K133 _ _) fun r2 hm=>Bd hm fun x h7 hm=>Cx 0 R (gl_pos T_api_Bound.vv h7) fun b h8=> ?_
 subst h8
 exact Ab R R (Cf T_api_Bound.vv R R el23 h7)<|Ab R R (B9 R fa49_1)<|Ad R R<|C7 0 (f:=T_api_Bound.vv) (l:=l2) (q:=x) (q':=(⟨x.Pod,(⟨#[]⟩ : ByteArray)⟩ : T_api_Bound)) R R R R h7 ld9 R R R R ⟨R,List.all_eq_true.1 R⟩<|Bh (Cg 18 (List.map T_api_Bound.vv (List.set l2 (r2).toNat (⟨x.Pod,(⟨#[]⟩ : ByteArray)⟩ : T_api_Bound))).length R (len_set _ _ _ _))<|Bh (Cg 9 (List.map T_api_Bound.vv (List.set l2 (r2).toNat (⟨x.Pod,(⟨#[]⟩ : ByteArray)⟩ : T_api_Bound))).length R (len_set _ _ _ _))<|Bh (Cg 19 (List.map T_api_Bound.vv (List.set l2 (r2).toNat (⟨x.Pod,(⟨#[]⟩ : ByteArray)⟩ : T_api_Bound))).length R (len_set _ _ _ _))<|Ac<|Ag tbk [] R R<|Rg2 hm R [0] (some b) cap (.cons (.tmp _ _ R) (.cons (.tmp _ _ R) .nil)) R R

/-! trireme/block.Why -/
def block_Why.l1 : List T_api_Pod → Nat → Option (Out (ByteArray × Int) Unit)
 | [], k => some (Out.go ())
 | x :: l, k =>
  (block_blocks x).bind fun r2 =>
  if r2 = true then
   some (Out.ret (x.Name, 22))
  else
   block_Why.l1 l (k + 1)
def block_Why.l2 (budgets : List T_api_Budget) : List T_api_Pod → Nat → (List T_api_Bound) → Option (Out (ByteArray × Int) Unit)
 | [], k2, now2 => some (Out.go ())
 | x2 :: l2, k2, now2 =>
  (budget_Evict budgets now2 x2.Name).bind fun r3 =>
  if (r3.2 != 0) = true then
   some (Out.ret (x2.Name, r3.2))
  else
   block_Why.l2 budgets l2 (k2 + 1) r3.1
def block_Why (bs : List T_api_Bound) (budgets : List T_api_Budget) (name : ByteArray) : Option (ByteArray × Int) :=
 (block_Movable bs name).bind fun r =>
 (block_Why.l1 r 0).bind fun o =>
 o.on fun j =>
 (block_Why.l2 budgets r 0 bs).bind fun o2 =>
 o2.on fun j2 =>
 some ((⟨#[]⟩ : ByteArray), 0)
theorem K138 (bs : List T_api_Bound) (budgets : List T_api_Budget) (name : ByteArray) : VS Tryz.prog 53 (block_Why bs budgets name) [L49 bs, L64 budgets, .str name] [] (fun r=>.tup [.str r.1, Iw r.2]) N0 := by
 refine A3 [.tmp 6,.tmp 7] Tryz.func53 R R R fun r hm=>?_
 unfold block_Why at hm
 refine Ag tbk [] R R<|Ah<|Aa tbk [] 2 R R<|Ad R R<|Bz hm 0 R fn48 R (K69 _ _) fun r ob cap hm=>Bh (Aw 0 [(18,L47 r)] R ⟨⟨_,R,.here _ R⟩,trivial⟩ (FzH.refl _))<|Ab R R (Ai R)<|Ac<|Ae<|Ah<|Ab R R (Al R)<|Ab R R (Av T_api_Pod.vv R Bv)<|Ab R R (Al R)<|Ac<|B7 8 R fun h5=>Bn hm (fun _ (_:Unit)=>[(0,L49 bs),(1,L64 budgets),(8,L47 r)]) (fun _ (_:Unit)=>[]) (fun o hm h4=>?_) fun j _ hm=> ?_
 ·refine Cn (r) (fun zl zk (zs:Unit)=>block_Why.l1 zl zk) (fun k _ (_:Unit)=>[(0,L49 bs),(1,L64 budgets),(8,L47 r),(19,L47 r),(20,Iw (r.length : Int)),(21,Iw (k : Int))]) (fun _ _ (_:Unit)=>[]) () () hm (Af [] R R) (fun k _ _ hk hm=>?_) fun k x l _ _ h6 hm=> ?_
  ·rw [block_Why.l1] at hm
   exact Ag tbk [] R R<|Ae<|B5 R (k_end hk)<|A1<|Ar () hm (Af [] R R)
  rw [block_Why.l1] at hm
  exact Ag tbk [] R R<|Ae<|B0 R (k_lt h6)<|Aj<|Ae<|Ay<|Ah<|Ab R R (Ch T_api_Pod.vv R R el55 h6)<|Ab R R (Bi R ld47 R)<|Ad R R<|A0 z47 fun b=>Ad R R<|An (i:=0) R R R ld47 R R R<|Ac<|Ah<|Aa tbk [0] 1 R R<|Ad R R<|Am hm 0 R fn103 R (K130 _) fun r2 hm=>Ac<|Ak hm R (fun h9 hm=>Ag tbk [0] R R<|have hm:=Lr hm h4;Rt2 hm R [] R R R R) fun h9 hm=>Aj<|A2 tbk [] R R<|Ap () () hm (Bm [] R ⟨R,R,R,R,R,congrArg some (k_next h6 h5),trivial⟩)
 refine Ag tbk [] R R<|Ae<|Ah<|Ab R R (Al R)<|Ab R R (Av T_api_Pod.vv R Bv)<|Ab R R (Al R)<|Ac<|B7 31 R fun h12=>Bn hm (fun _ (_:Unit)=>[]) (fun _ (_:Unit)=>[]) (fun o2 hm h11=>?_) fun j2 _ hm=> ?_
 ·refine Cn (r) (fun zl zk (zs:List T_api_Bound)=>block_Why.l2 budgets zl zk zs) (fun k2 zs (_:Unit)=>[(1,L64 budgets),(11,L49 zs),(31,L47 r),(32,Iw (r.length : Int)),(33,Iw (k2 : Int))]) (fun _ _ (_:Unit)=>[]) _ () hm (Af [] R R) (fun k2 now2 _ hk hm=>?_) fun k2 x2 l2 now2 _ h13 hm=> ?_
  ·rw [block_Why.l2] at hm
   exact Ag tbk [] R R<|Ae<|B5 R (k_end hk)<|A1<|Ar () hm (Af [] R R)
  rw [block_Why.l2] at hm
  exact Ag tbk [] R R<|Ae<|B0 R (k_lt h13)<|Aj<|Ae<|Ay<|Ah<|Ab R R (Ch T_api_Pod.vv R R el55 h13)<|Ab R R (Bi R ld47 R)<|Ad R R<|A0 z47 fun b2=>Ad R R<|An (i:=0) R R R ld47 R R R<|Ac<|Ah<|Aa tbk [0] 4 R R<|Ad R R<|Bz hm 0 R fn104 R (K137 _ _ _) fun r3 ob2 cap2 hm=>Aa tbk [] 5 R R<|Ac<|Ae<|Ag tbk [] R R<|Ak hm R (fun h17 hm=>Ag tbk [1] R R<|have hm:=Lr hm h11;Rt2 hm R [] R R R R) fun h17 hm=>Aj<|A2 tbk [] R R<|A2 tbk [] R R<|Ap _ () hm (Bb (Aw 0 [(11,L49 r3.1),(43,L49 r3.1),(14,L49 r3.1),(50,L49 r3.1)] R ⟨⟨_,R,.here _ R⟩,⟨_,R,.here _ R⟩,⟨_,R,.here _ R⟩,⟨_,R,.here _ R⟩,trivial⟩ (FzH.refl _)) (Bm [] R ⟨R,R,R,R,congrArg some (k_next h13 h12),trivial⟩))
 exact Ag tbk [] R R<|Rt2 hm R [] R R R R

/-! trireme/plan.Many$1 -/
def plan_Many_1 (name : ByteArray) (a : List ByteArray) (a2 : List ByteArray) (a3 : List T_api_Bound) (a4 : List T_api_Budget) (a5 : List T_api_Machine) : Option (List T_api_Move × Bool) :=
 (plan_among a name).bind fun r =>
 (if r = true then some true else (plan_among a2 name).bind fun r2 =>
 some r2).bind fun c =>
 if c = true then
  some (([] : List T_api_Move), false)
 else
  (block_Why a3 a4 name).bind fun r3 =>
  if (r3.2 != 0) = true then
   some (([] : List T_api_Move), false)
  else
   (plan_One a5 a3 name a).bind fun r4 =>
   some (r4.1, r4.2)
theorem K139 (name : ByteArray) (a : List ByteArray) (a2 : List ByteArray) (a3 : List T_api_Bound) (a4 : List T_api_Budget) (a5 : List T_api_Machine) (b : Nat) (ob : Option Nat) (cap : Nat) (b2 : Nat) (ob2 : Option Nat) (cap2 : Nat) (b3 : Nat) (ob3 : Option Nat) (cap3 : Nat) (b4 : Nat) (b5 : Nat) : VS2 Tryz.prog 51 (plan_Many_1 name a a2 a3 a4 a5) [.str name, .ptr b 0, .ptr b2 0, .ptr b3 0, .ptr b4 0, .ptr b5 0] [.box b 25 [Z9 ob a cap], Q9 ob cap a, .box b2 25 [Z9 ob2 a2 cap2], Q9 ob2 cap2 a2, .box b3 23 [Z49 ob3 a3 cap3], Q49 ob3 cap3 a3, .box b4 24 [L64 a4], .box b5 22 [L61 a5]] (fun r ob0 cap0=>.tup [Z58 ob0 r.1 cap0, .bool r.2]) (fun r ob0 cap0=>[Q58 ob0 cap0 r.1, .box b 25 [Z9 ob a cap], Q9 ob cap a, .box b2 25 [Z9 ob2 a2 cap2], Q9 ob2 cap2 a2, .box b3 23 [Z49 ob3 a3 cap3], Q49 ob3 cap3 a3, .box b4 24 [L64 a4], .box b5 22 [L61 a5]]) := by
 refine Cl [.tmp 7,.tmp 8] Tryz.func51 R R R fun r hm=>?_
 unfold plan_Many_1 at hm
 refine Ag tbk [] R R<|Ae<|Ah<|Aa tbk [0] 2 R R<|Ad R R<|C4 hm (Aw (H':=[.box b 25 [L9 a],.box b2 25 [Z9 ob2 a2 cap2],Q9 ob2 cap2 a2,.box b3 23 [Z49 ob3 a3 cap3],Q49 ob3 cap3 a3,.box b4 24 [L64 a4],.box b5 22 [L61 a5]]) 1 [(11,L9 a)] R ⟨⟨_,R,.here _ R⟩,trivial⟩ (by exact ⟨.box _ _ _ _ ⟨.here _ R,trivial⟩,.same _,.same _,.same _,.same _,.same _,.same _,trivial⟩)) [.same,.same] R fn52 R (K66 _ _) (fun _=>R) (fun _=>R) fun r hm=>Ab R R (Al R)<|Be hm 4 18 14 R (fun _ K' h2 J hm=>Aa tbk [] 4 R R<|J 3 R R (Bj hm)) (fun _ K' h2 J hm=>Aa tbk [2] 2 R R<|A7 R R R R R<|C4 hm (Aw (H':=[.box b 25 [Z9 ob a cap],Q9 ob cap a,.box b2 25 [L9 a2],.box b3 23 [Z49 ob3 a3 cap3],Q49 ob3 cap3 a3,.box b4 24 [L64 a4],.box b5 22 [L61 a5]]) 3 [(15,L9 a2)] R ⟨⟨_,R,.here _ R⟩,trivial⟩ (by exact ⟨.same _,.same _,.box _ _ _ _ ⟨.here _ R,trivial⟩,.same _,.same _,.same _,.same _,trivial⟩)) [.same,.same] R fn52 R (K66 _ _) (fun _=>R) (fun _=>R) fun r2 hm=>Ab R R (Bf false R R R)<|J 3 R R (Bj hm)) fun c hm=>Ac<|Ak hm R (fun h5 hm=>Ag tbk [] R R<|B8 (Bc 58)<|Rg2 hm R [0,0,0,0,0,0,0,0,0] none 0 (.cons (.tmp _ _ R) (.cons (.tmp _ _ R) .nil)) R R) fun h5 hm=>Aj<|Ae<|Ah<|Aa tbk [4,6] 3 R R<|Ad R R<|C4 hm (Aw (H':=[.box b 25 [Z9 ob a cap],Q9 ob cap a,.box b2 25 [Z9 ob2 a2 cap2],Q9 ob2 cap2 a2,.box b3 23 [L49 a3],.box b4 24 [L64 a4],.box b5 22 [L61 a5]]) 5 [(20,L49 a3)] R ⟨⟨_,R,.here _ R⟩,trivial⟩ (by exact ⟨.same _,.same _,.same _,.same _,.box _ _ _ _ ⟨.here _ R,trivial⟩,.same _,.same _,trivial⟩)) [.same,.same,.same] R fn53 R (K138 _ _ _) (fun _=>R) (fun _=>R) fun r3 hm=>Aa tbk [] 5 R R<|Ac<|Ag tbk [] R R<|Ak hm R (fun h8 hm=>Ag tbk [] R R<|B8 (Bc 58)<|Rg2 hm R [0,0,0,0,0,0,0,0,0] none 0 (.cons (.tmp _ _ R) (.cons (.tmp _ _ R) .nil)) R R) fun h8 hm=>Aj<|Ah<|Aa tbk [7,4,0] 4 R R<|Ad R R<|VO.ce2 hm (Bb (Aw (H':=[.box b 25 [Z9 ob a cap],Q9 ob cap a,.box b2 25 [Z9 ob2 a2 cap2],Q9 ob2 cap2 a2,.box b3 23 [L49 a3],.box b4 24 [L64 a4],.box b5 22 [L61 a5]]) 5 [(20,L49 a3),(29,L49 a3)] R ⟨⟨_,R,.here _ R⟩,⟨_,R,.here _ R⟩,trivial⟩ (by exact ⟨.same _,.same _,.same _,.same _,.box _ _ _ _ ⟨.here _ R,trivial⟩,.same _,.same _,trivial⟩)) (Aw (H':=[.box b 25 [L9 a],.box b2 25 [Z9 ob2 a2 cap2],Q9 ob2 cap2 a2,.box b3 23 [L49 a3],.box b4 24 [L64 a4],.box b5 22 [L61 a5]]) 1 [(11,L9 a),(31,L9 a)] R ⟨⟨_,R,.here _ R⟩,⟨_,R,.here _ R⟩,trivial⟩ (by exact ⟨.box _ _ _ _ ⟨.here _ R,trivial⟩,.same _,.same _,.same _,.same _,.same _,trivial⟩))) [.same,.same,.same,.same] R fn13 R (K128 _ _ _ _) (fun _ _ _=>R) (fun _ _ _=>flH1 fun _=>R) fun r4 ob4 cap4 hm=> ?_
 exact Aa tbk [] 4 R R<|Ac<|Rg2 hm R [0,0,0,0,0,0,0,0,0] ob4 cap4 (.cons (.tmp _ _ R) (.cons (.tmp _ _ R) .nil)) R R

/-! trireme/plan.Many -/
def plan_Many.l2 (r : List T_api_Move × Bool) : Nat → (List T_api_Bound) → (List ByteArray) → Int → Option (List T_api_Bound × List ByteArray)
 | 0, _, _, _ => none
 | n2 + 1, now5, goals4, v2 =>
  if (decide (v2 < (r.1.length : Int))) = true then
   (V.gl r.1 v2).bind fun x2 =>
   (yard_Place now5 x2.Pod).bind fun r2 =>
   (V.gl now5 r2).bind fun x3 =>
   (V.ap 16 goals4 [x2.To]).bind fun l4 =>
   plan_Many.l2 r n2 (List.set now5 (r2).toNat (⟨x3.Pod, x2.To⟩ : T_api_Bound)) l4 (i64.wrap (v2 + 1))
  else
   some (now5, goals4)
def plan_Many.l1 (ms : List T_api_Machine) (budgets : List T_api_Budget) (most : Int) : List ByteArray → Nat → (List T_api_Bound) → (List T_api_Plan) → (List ByteArray) → (List ByteArray) → Option (List T_api_Bound × List T_api_Plan)
 | [], k, now2, plans2, barred2, goals2 => some (now2, plans2)
 | x :: l2, k, now2, plans2, barred2, goals2 =>
  if (decide ((plans2.length : Int) ≥ most)) = true then
   some (now2, plans2)
  else
   (plan_Many_1 x barred2 goals2 now2 budgets ms).bind fun r =>
   if (!r.2) = true then
    plan_Many.l1 ms budgets most l2 (k + 1) now2 plans2 barred2 goals2
   else
    (plan_Many.l2 r FU now2 goals2 (0 : Int)).bind fun j2 =>
    (V.ap 16 barred2 [x]).bind fun l7 =>
    (V.ap 40 plans2 [(⟨x, r.1⟩ : T_api_Plan)]).bind fun plans4 =>
    plan_Many.l1 ms budgets most l2 (k + 1) j2.1 plans4 l7 j2.2
def plan_Many (ms : List T_api_Machine) (bs : List T_api_Bound) (budgets : List T_api_Budget) (names : List ByteArray) (most : Int) : Option (List T_api_Plan × List T_api_Bound) :=
 (V.ap 288 ([] : List T_api_Bound) bs).bind fun l =>
 (plan_Many.l1 ms budgets most names 0 l ([] : List T_api_Plan) ([] : List ByteArray) ([] : List ByteArray)).bind fun j =>
 some (j.2, j.1)
theorem K140 (ms : List T_api_Machine) (bs : List T_api_Bound) (budgets : List T_api_Budget) (names : List ByteArray) (most : Int) : ∀ r : List T_api_Plan × List T_api_Bound, plan_Many ms bs budgets names most = some r → VC Tryz.prog 16 [L61 ms, L49 bs, L64 budgets, L9 names, Iw most] [] fun zx zH => ∃ (ob0 : Option Nat) (cap0 : Nat) (ob1 : Option Nat) (cap1 : Nat), zx = .tup [Z54 ob0 r.1 cap0, Z49 ob1 r.2 cap1] ∧ zH = [Q54 ob0 cap0 r.1, Q49 ob1 cap1 r.2] := by
 refine VCx.run [.tmp 10,.tmp 11] Tryz.func16 R R R fun r hm=>?_
 unfold plan_Many at hm
 refine Ah<|Ad R R<|Ba R R fun b=>Ad R R<|Ba R R fun b2=>Aa tbk [] 2 R R<|Ac<|Ah<|Ab R R (Al R)<|Bh (Bc 49)<|Bd hm fun l h4 hm=>Ad R R<|B3 0 T_api_Bound.vv (l:=([] : List T_api_Bound)) (l2:=bs) ap23 R R (sT_list T_api_Bound.vv el23 R R) h4 fun ob cap=>Ad R R<|A0 z23 fun b3=>Ad R R<|An (i:=0) R R R ld23 R R R<|Ac<|Ag tbk [] R R<|Ah<|Ad R R<|A0 z25 fun b4=>Ad R R<|A0 z25 fun b5=>Ac<|Ah<|Ab R R (C3 R R)<|Ab R R (Ai R)<|Ac<|Ae<|Ah<|Ab R R (Al R)<|Ab R R (Av VV.str R Bo)<|Ab R R (Al R)<|Ac<|B7 26 R fun h16=>Bw hm (fun j (gg:Option Nat × Option Nat × Nat)=>[(12,.ptr b3 0),(13,Z54 gg.2.1 j.2 gg.2.2)]) (fun j (gg:Option Nat × Option Nat × Nat)=>[Q54 gg.2.1 gg.2.2 j.2,.box b3 23 [Z49 gg.1 j.1 cap],Q49 gg.1 cap j.1]) (fun o hm=>?_) fun j=>Pq fun ob10=>Pq fun ob11 cap8 hm=> ?_
 ·refine Cn (names) (fun zl zk (zs:List T_api_Bound × List T_api_Plan × List ByteArray × List ByteArray)=>plan_Many.l1 ms budgets most zl zk zs.1 zs.2.1 zs.2.2.1 zs.2.2.2) (fun k zs (zg:Option Nat × Option Nat × Nat × Option Nat × Nat × Option Nat × Nat)=>[(4,Iw most),(12,.ptr b3 0),(13,Z54 zg.2.1 zs.2.1 zg.2.2.1),(14,.ptr b4 0),(15,.ptr b5 0),(16,.clo (.func 51) [] [.ptr b4 0,.ptr b5 0,.ptr b3 0,.ptr b2 0,.ptr b 0]),(26,L9 names),(27,Iw (names.length : Int)),(28,Iw (k : Int))]) (fun _ zs (zg:Option Nat × Option Nat × Nat × Option Nat × Nat × Option Nat × Nat)=>[Q54 zg.2.1 zg.2.2.1 zs.2.1,Q9 zg.2.2.2.1 zg.2.2.2.2.1 zs.2.2.1,Q9 zg.2.2.2.2.2.1 zg.2.2.2.2.2.2 zs.2.2.2,.box b5 25 [Z9 zg.2.2.2.2.2.1 zs.2.2.2 zg.2.2.2.2.2.2],.box b4 25 [Z9 zg.2.2.2.1 zs.2.2.1 zg.2.2.2.2.1],.box b3 23 [Z49 zg.1 zs.1 cap],Q49 zg.1 cap zs.1,.box b2 24 [L64 budgets],.box b 22 [L61 ms]]) (l,([] : List T_api_Plan),([] : List ByteArray),([] : List ByteArray)) (ob,none,0,none,0,none,0) hm (Bb (Bc 54) (Bb (Bc 9) (Bb (Bc 9) (Af [2,1,0,0,0,0,0,0,0] R R)))) (fun k=>Pq fun now2=>Pq fun plans2=>Pq fun barred2 goals2=>Pq fun ob6=>Pq fun ob7=>Pq fun cap5=>Pq fun ob8=>Pq fun cap6=>Pq fun ob9 cap7 hk hm=>?_) fun k x l2=>Pq fun now2=>Pq fun plans2=>Pq fun barred2 goals2=>Pq fun ob6=>Pq fun ob7=>Pq fun cap5=>Pq fun ob8=>Pq fun cap6=>Pq fun ob9 cap7 h17 hm=> ?_
  ·rw [plan_Many.l1] at hm
   exact Ag tbk [] R R<|Ae<|B5 R (k_end hk)<|A1<|As (ob6,ob7,cap5) hm (Af [0,4,4] R R)
  rw [plan_Many.l1] at hm
  refine Ag tbk [] R R<|Ae<|B0 R (k_lt h17)<|Aj<|Ae<|Ay<|Ah<|Ab R R (Ch VV.str R R el25 h17)<|Aa tbk [] 2 R R<|Ac<|Ae<|Ah<|Ab R R (Al R)<|Ab R R (Cu T_api_Plan.vv R B2)<|Aa tbk [] 2 R R<|Ac<|Ak hm R (fun h18 hm=>A1<|As (ob6,ob7,cap5) hm (Af [0,4,4] R R)) fun h18 hm=>Aj<|Ah<|Aa tbk [] 2 R R<|Bh (Ci [4,1,2,1,1,1,1,1,0] R)<|Ad R R<|Bz hm 8 R fn51 R (K139 _ _ _ _ _ _ _ _ _ _ _ _ _ _ _ _ _) fun r ob12 cap9 hm=>Aa tbk [] 5 R R<|Ac<|Ae<|Ag tbk [] R R<|Ak hm R (fun h21 hm=>A1<|A2 tbk [] R R<|Ap (now2,plans2,barred2,goals2) (ob6,ob7,cap5,ob8,cap6,ob9,cap7) hm (Bm [9,2,3,2,1,1,1,1,1] R ⟨R,R,R,R,R,R,R,R,congrArg some (k_next h17 h16),trivial⟩)) fun h21 hm=>Aj<|Ae<|Ah<|Ab R R (Al R)<|Ab R R (Cu T_api_Move.vv R Cj)<|Ab R R (Al R)<|Ac<|Bw hm (fun _ (gg:Option Nat × Option Nat × Nat × Option Nat)=>[(4,Iw most),(12,.ptr b3 0),(13,Z54 ob7 plans2 cap5),(14,.ptr b4 0),(15,.ptr b5 0),(16,.clo (.func 51) [] [.ptr b4 0,.ptr b5 0,.ptr b3 0,.ptr b2 0,.ptr b 0]),(18,.str x),(19,Z58 gg.2.2.2 r.1 cap9),(26,L9 names),(27,Iw (names.length : Int)),(28,Iw (k : Int))]) (fun j2 (gg:Option Nat × Option Nat × Nat × Option Nat)=>[Q58 gg.2.2.2 cap9 r.1,.box b4 25 [Z9 ob8 barred2 cap6],Q9 ob8 cap6 barred2,.box b5 25 [Z9 gg.2.1 j2.2 gg.2.2.1],Q9 gg.2.1 gg.2.2.1 j2.2,.box b3 23 [Z49 gg.1 j2.1 cap],Q49 gg.1 cap j2.1,.box b2 24 [L64 budgets],.box b 22 [L61 ms],Q54 ob7 cap5 plans2]) (fun o2 hm=>?_) fun j2=>Pq fun ob19=>Pq fun ob20=>Pq fun cap12 ob21 hm=> ?_
  ·refine Bl (fun zn (zs:List T_api_Bound × List ByteArray × Int)=>plan_Many.l2 r zn zs.1 zs.2.1 zs.2.2) (fun zs (zg:Option Nat × Option Nat × Nat × Option Nat)=>[(4,Iw most),(12,.ptr b3 0),(13,Z54 ob7 plans2 cap5),(14,.ptr b4 0),(15,.ptr b5 0),(16,.clo (.func 51) [] [.ptr b4 0,.ptr b5 0,.ptr b3 0,.ptr b2 0,.ptr b 0]),(18,.str x),(19,Z58 zg.2.2.2 r.1 cap9),(26,L9 names),(27,Iw (names.length : Int)),(28,Iw (k : Int)),(44,Z58 zg.2.2.2 r.1 cap9),(45,Iw (r.1.length : Int)),(46,Iw zs.2.2)]) (fun zs (zg:Option Nat × Option Nat × Nat × Option Nat)=>[Q58 zg.2.2.2 cap9 r.1,.box b4 25 [Z9 ob8 barred2 cap6],Q9 ob8 cap6 barred2,.box b5 25 [Z9 zg.2.1 zs.2.1 zg.2.2.1],Q9 zg.2.1 zg.2.2.1 zs.2.1,.box b3 23 [Z49 zg.1 zs.1 cap],Q49 zg.1 cap zs.1,.box b2 24 [L64 budgets],.box b 22 [L61 ms],Q54 ob7 cap5 plans2]) (now2,goals2,(0 : Int)) (ob6,ob9,cap7,ob12) (fun _=>R) hm (Af [0,0,0,0,0,0,0,0,0,0] R R) fun n2=>Pq fun now5=>Pq fun goals4 v2=>Pq fun ob16=>Pq fun ob17=>Pq fun cap11 ob18 hm=> ?_
   rw [plan_Many.l2] at hm
   refine Ag tbk [] R R<|Ae<|Ak hm R (fun h24 hm=>?_) fun h24 hm=> ?_
   ·refine Aj<|Ae<|Ay<|Ah<|Bd hm fun x2 h25 hm=>Cx 0 R (gl_pos T_api_Move.vv h25) fun b6 h26=> ?_
    subst h26
    refine Ab R R (Cf T_api_Move.vv R R el30 h25)<|Ab R R (Cd (i:=0) (y:=T_api_Move.vv x2) R R R (gl_map _ (gl_some h25).2) ld58 R)<|Ad R R<|A0 z58 fun b7=>Ad R R<|An (i:=0) R R R ld58 R R R<|Ac<|Ae<|B8 (Ci [6,6,0,0,0,0,0,0,0,0,0] R)<|A9 2 mixed<|Aq tbk [2,3,5,6] [0,0] (by kernel_rfl) R R R<|?_
    refine B4 [0,1] (by kernel_rfl) ⟨?_,?_,trivial⟩
    ·refine Au R R R<|Da (C6 (i:=0) R R ld23 R)<|Ao 1 (by kernel_rfl)<|Au R R R<|Da (C6 (i:=0) R R ld23 R)<|Ao 4 (by kernel_rfl)<|Au R R R<|C4 hm (Aw (H':=[.box b3 23 [L49 now5]]) 1 [(50,L49 now5),(51,L49 now5)] R ⟨⟨_,R,.here _ R⟩,⟨_,R,.here _ R⟩,trivial⟩ (by exact ⟨.box _ _ _ _ ⟨.here _ R,trivial⟩,trivial⟩)) [.same,.same] R fn54 R (K133 _ _) (fun _=>R) (fun _=>R) fun r2 hm=>Bd hm fun x3 h29 hm=>C2 1 R (gl_pos T_api_Bound.vv h29) fun b8 h30=> ?_
     subst h30
     exact Ax 7 R R R (by kernel_rfl) (Cf T_api_Bound.vv R R el23 h29)<|Ax 8 R R R (by kernel_rfl) (B9 R fa49_1)<|Ao 9 (by kernel_rfl)<|Au R R R<|C7 1 (f:=T_api_Bound.vv) (l:=now5) (q:=x3) (q':=(⟨x3.Pod,x2.To⟩ : T_api_Bound)) R R R R h29 ld9 R R R R ⟨R,List.all_eq_true.1 R⟩<|Cc (Shift.cst (F:=fun zv=>[.box b3 23 [zv],Q49 (some b8) cap (List.set now5 (r2).toNat (⟨x3.Pod,x2.To⟩ : T_api_Bound))]) (congrArg (fun zn=>VV.sl (some b8) zn cap) (len_set T_api_Bound.vv now5 _ _)))<|Cc (Cg 50 (List.map T_api_Bound.vv (List.set now5 (r2).toNat (⟨x3.Pod,x2.To⟩ : T_api_Bound))).length R (len_set _ _ _ _))<|Cc (Cg 51 (List.map T_api_Bound.vv (List.set now5 (r2).toNat (⟨x3.Pod,x2.To⟩ : T_api_Bound))).length R (len_set _ _ _ _))<|A5 (by kernel_rfl)<|Bq<|Aa tbk [6,2] 3 R R<|Ad R R<|A8 ap25 R R R R R fun b9=>Bd hm fun l4 h32 hm=>Ad R R<|B3 8 VV.str (l:=goals4) (l2:=[x2.To]) ap25 R R (sT_row 0 VV.str el25 R R) h32 fun ob22 cap13=>Ad R R<|An (i:=7) R R R ld25 R R R<|Ac<|A2 tbk [] R R<|Ap ((List.set now5 (r2).toNat (⟨x3.Pod,x2.To⟩ : T_api_Bound)),l4,(IntKind.i64.wrap (v2 + (1 : Int)))) ((some b8),ob22,cap13,(some b6)) hm (Af [4,4,4,4,4,1,1,2,2,2] R R)
    ·refine Au R R R<|Da (C6 (i:=0) R R ld23 R)<|?_
     refine B4 [0,4] (by kernel_rfl) ⟨?_,?_,trivial⟩
     ·refine Au R R R<|Da (C6 (i:=0) R R ld23 R)<|Ao 4 (by kernel_rfl)<|Au R R R<|C4 hm (Aw (H':=[.box b3 23 [L49 now5]]) 1 [(51,L49 now5),(50,L49 now5)] R ⟨⟨_,R,.here _ R⟩,⟨_,R,.here _ R⟩,trivial⟩ (by exact ⟨.box _ _ _ _ ⟨.here _ R,trivial⟩,trivial⟩)) [.same,.same] R fn54 R (K133 _ _) (fun _=>R) (fun _=>R) fun r3 hm=>Bd hm fun x4 h34 hm=>C2 1 R (gl_pos T_api_Bound.vv h34) fun b10 h35=> ?_
      subst h35
      exact Ax 7 R R R (by kernel_rfl) (Cf T_api_Bound.vv R R el23 h34)<|Ax 8 R R R (by kernel_rfl) (B9 R fa49_1)<|Ao 9 (by kernel_rfl)<|Au R R R<|C7 1 (f:=T_api_Bound.vv) (l:=now5) (q:=x4) (q':=(⟨x4.Pod,x2.To⟩ : T_api_Bound)) R R R R h34 ld9 R R R R ⟨R,List.all_eq_true.1 R⟩<|Cc (Shift.cst (F:=fun zv=>[.box b3 23 [zv],Q49 (some b10) cap (List.set now5 (r3).toNat (⟨x4.Pod,x2.To⟩ : T_api_Bound))]) (congrArg (fun zn=>VV.sl (some b10) zn cap) (len_set T_api_Bound.vv now5 _ _)))<|Cc (Cg 51 (List.map T_api_Bound.vv (List.set now5 (r3).toNat (⟨x4.Pod,x2.To⟩ : T_api_Bound))).length R (len_set _ _ _ _))<|Cc (Cg 50 (List.map T_api_Bound.vv (List.set now5 (r3).toNat (⟨x4.Pod,x2.To⟩ : T_api_Bound))).length R (len_set _ _ _ _))<|A5 (by kernel_rfl)<|Bq<|Aa tbk [6,2] 3 R R<|Ad R R<|A8 ap25 R R R R R fun b11=>Bd hm fun l5 h37 hm=>Ad R R<|B3 8 VV.str (l:=goals4) (l2:=[x2.To]) ap25 R R (sT_row 0 VV.str el25 R R) h37 fun ob23 cap14=>Ad R R<|An (i:=7) R R R ld25 R R R<|Ac<|A2 tbk [] R R<|Ap ((List.set now5 (r3).toNat (⟨x4.Pod,x2.To⟩ : T_api_Bound)),l5,(IntKind.i64.wrap (v2 + (1 : Int)))) ((some b10),ob23,cap14,(some b6)) hm (Af [4,4,4,4,4,1,1,2,2,2] R R)
     ·refine Au R R R<|C4 hm (Aw (H':=[.box b3 23 [L49 now5]]) 1 [(51,L49 now5)] R ⟨⟨_,R,.here _ R⟩,trivial⟩ (by exact ⟨.box _ _ _ _ ⟨.here _ R,trivial⟩,trivial⟩)) [.same,.same] R fn54 R (K133 _ _) (fun _=>R) (fun _=>R) fun r4 hm=>Ao 0 (by kernel_rfl)<|Au R R R<|Da (C6 (i:=0) R R ld23 R)<|Bd hm fun x5 h39 hm=>C2 1 R (gl_pos T_api_Bound.vv h39) fun b12 h40=> ?_
      subst h40
      exact Ax 7 R R R (by kernel_rfl) (Cf T_api_Bound.vv R R el23 h39)<|Ax 8 R R R (by kernel_rfl) (B9 R fa49_1)<|Ao 9 (by kernel_rfl)<|Au R R R<|C7 1 (f:=T_api_Bound.vv) (l:=now5) (q:=x5) (q':=(⟨x5.Pod,x2.To⟩ : T_api_Bound)) R R R R h39 ld9 R R R R ⟨R,List.all_eq_true.1 R⟩<|Cc (Shift.cst (F:=fun zv=>[.box b3 23 [zv],Q49 (some b12) cap (List.set now5 (r4).toNat (⟨x5.Pod,x2.To⟩ : T_api_Bound))]) (congrArg (fun zn=>VV.sl (some b12) zn cap) (len_set T_api_Bound.vv now5 _ _)))<|Cc (Cg 51 (List.map T_api_Bound.vv (List.set now5 (r4).toNat (⟨x5.Pod,x2.To⟩ : T_api_Bound))).length R (len_set _ _ _ _))<|Cc (Cg 50 (List.map T_api_Bound.vv (List.set now5 (r4).toNat (⟨x5.Pod,x2.To⟩ : T_api_Bound))).length R (len_set _ _ _ _))<|A5 (by kernel_rfl)<|Bq<|Aa tbk [6,2] 3 R R<|Ad R R<|A8 ap25 R R R R R fun b13=>Bd hm fun l6 h42 hm=>Ad R R<|B3 8 VV.str (l:=goals4) (l2:=[x2.To]) ap25 R R (sT_row 0 VV.str el25 R R) h42 fun ob24 cap15=>Ad R R<|An (i:=7) R R R ld25 R R R<|Ac<|A2 tbk [] R R<|Ap ((List.set now5 (r4).toNat (⟨x5.Pod,x2.To⟩ : T_api_Bound)),l6,(IntKind.i64.wrap (v2 + (1 : Int)))) ((some b12),ob24,cap15,(some b6)) hm (Af [4,4,4,4,4,1,1,2,2,2] R R)
   exact A1<|As (ob16,ob17,cap11,ob18) hm (Af [0,0,0,0,0,0,0,0,0,0] R R)
  exact Ah<|Aa tbk [1] 2 R R<|Ad R R<|A8 ap25 R R R R R fun b14=>Bd hm fun l7 h44 hm=>Ad R R<|B3 3 VV.str (l:=barred2) (l2:=[x]) ap25 R R (sT_row 0 VV.str el25 R R) h44 fun ob25 cap16=>Ad R R<|An (i:=2) R R R ld25 R R R<|Ac<|Bq<|Aa tbk [] 3 R R<|Ab R R (Bt pl54 R R)<|Bh (Aw 1 [(19,L58 r.1),(71,L58 r.1),(72,T_api_Plan.vv (⟨x,r.1⟩ : T_api_Plan))] R ⟨⟨_,R,.here _ R⟩,⟨_,R,.here _ R⟩,⟨_,R,.aggL ⟨.same _,.here _ R,trivial⟩⟩,trivial⟩ (FzH.refl _))<|Ad R R<|A8 ap34 R R R R R fun b15=>Bd hm fun plans4 h46 hm=>Ad R R<|B3 10 T_api_Plan.vv (l:=plans2) (l2:=[(⟨x,r.1⟩ : T_api_Plan)]) ap34 R R (sT_row 0 T_api_Plan.vv el34 R R) h46 fun ob26 cap17=>Ab R R (Ai R)<|Ac<|A2 tbk [] R R<|Ap (j2.1,plans4,l7,j2.2) (ob19,ob26,cap17,ob25,cap16,ob20,cap12) hm (Bm [10,3,4,3,2,2,2,2,2] R ⟨R,R,R,R,R,R,R,R,congrArg some (k_next h17 h16),trivial⟩)
 refine Ae<|A9 0 mixed<|Aq tbk [0,1,2,3] [1] (by kernel_rfl) R R R<|A5 (by kernel_rfl)<|?_
 obtain rfl:=Option.some.inj hm
 exact VW.ret ⟨.inl R,_,.cons (.tmp _ _ R) (.cons (.tmp _ _ R) .nil),[0,1],_,R,ob11,cap8,ob10,cap,R,R⟩

/-! trireme/triremeref14.Moves -/
def ref14_Moves.l1 (a : List T_api_Move) (b : List T_api_Move) : Nat → Int → Option (Out Bool Unit)
 | 0, _ => none
 | n + 1, i2 =>
  if (decide (i2 < (a.length : Int))) = true then
   (V.gl a i2).bind fun x =>
   (V.gl b i2).bind fun x2 =>
   if (!(((x.Pod == x2.Pod) && ((x.To == x2.To) && true)) == true)) = true then
    some (Out.ret false)
   else
    ref14_Moves.l1 a b n (i64.wrap (i2 + 1))
  else
   some (Out.go ())
def ref14_Moves (a : List T_api_Move) (b : List T_api_Move) : Option Bool :=
 if ((a.length : Int) != (b.length : Int)) = true then
  some false
 else
  (ref14_Moves.l1 a b FU (0 : Int)).bind fun o =>
  o.on fun j =>
  some true
theorem K141 (a : List T_api_Move) (b : List T_api_Move) : VS Tryz.prog 15 (ref14_Moves a b) [L58 a, L58 b] [] .bool N0 := by
 refine A3 [.tmp 4] Tryz.func15 R R R fun r hm=>?_
 unfold ref14_Moves at hm
 refine Ag tbk [] R R<|Ae<|Ah<|Ab R R (Al R)<|Ab R R (Av T_api_Move.vv R Cj)<|Ab R R (Al R)<|Ab R R (Av T_api_Move.vv R Cj)<|Ab R R (A4 R R R)<|Ac<|Ak hm R (fun h1 hm=>Ag tbk [] R R<|Rt1 hm R [] R R R) fun h1 hm=>Aj<|Ae<|Ag tbk [] R R<|Bn hm (fun _ (_:Unit)=>[]) (fun _ (_:Unit)=>[]) (fun o hm h3=>?_) fun j _ hm=> ?_
 ·refine Bl (fun zn (zs:Int)=>ref14_Moves.l1 a b zn zs) (fun zs (_:Unit)=>[(0,L58 a),(1,L58 b),(5,Iw zs)]) (fun _ (_:Unit)=>[]) _ () (fun _=>R) hm (Af [] R R) fun n i2 _ hm=> ?_
  rw [ref14_Moves.l1] at hm
  exact Ae<|Ah<|Aa tbk [] 2 R R<|Ab R R (Av T_api_Move.vv R Cj)<|Ab R R (A4 R R R)<|Ac<|Ak hm R (fun h4 hm=>Aj<|Ae<|Ay<|Ae<|A9 0 mixed<|Aq tbk [0,1] [] (by kernel_rfl) R R R<|Bd hm fun x h5 hm=>Ax 2 R R R (by kernel_rfl) (Az T_api_Move.vv R R el30 h5)<|Aq tbk [3,4,5] [] (by kernel_rfl) R R R<|Bd hm fun x2 h6 hm=>Ax 6 R R R (by kernel_rfl) (Az T_api_Move.vv R R el30 h6)<|Ax 7 R R R (by kernel_rfl) (Bi R ld58 R)<|Ax 8 R R R (by kernel_rfl) (Dk shp58 eq58 R R R R)<|A5 (by kernel_rfl)<|Ak hm R (fun h7 hm=>Ag tbk [] R R<|have hm:=Lr hm h3;Rt1 hm R [] R R R) fun h7 hm=>Aj<|A2 tbk [] R R<|Ap _ () hm (Af [] R R)) fun h4 hm=>A1<|Ar () hm (Af [] R R)
 exact Ag tbk [] R R<|Rt1 hm R [] R R R

/-! trireme/triremeref26.Same -/
def ref26_Same.l1 (a : List T_api_Plan) (b : List T_api_Plan) : Nat → Int → Option (Out Bool Unit)
 | 0, _ => none
 | n + 1, i2 =>
  if (decide (i2 < (a.length : Int))) = true then
   (V.gl a i2).bind fun x =>
   (V.gl b i2).bind fun x2 =>
   (if (!(V.seq x.Name x2.Name)) = true then some true else (V.gl a i2).bind fun x3 =>
   (V.gl b i2).bind fun x4 =>
   (ref14_Moves x3.Moves x4.Moves).bind fun r =>
   some (!r)).bind fun c =>
   if c = true then
    some (Out.ret false)
   else
    ref26_Same.l1 a b n (i64.wrap (i2 + 1))
  else
   some (Out.go ())
def ref26_Same (a : List T_api_Plan) (b : List T_api_Plan) : Option Bool :=
 if ((a.length : Int) != (b.length : Int)) = true then
  some false
 else
  (ref26_Same.l1 a b FU (0 : Int)).bind fun o =>
  o.on fun j =>
  some true
theorem K142 (a : List T_api_Plan) (b : List T_api_Plan) : VS Tryz.prog 18 (ref26_Same a b) [L54 a, L54 b] [] .bool N0 := by
 refine A3 [.tmp 4] Tryz.func18 R R R fun r hm=>?_
 unfold ref26_Same at hm
 refine Ag tbk [] R R<|Ae<|Ah<|Ab R R (Al R)<|Ab R R (Av T_api_Plan.vv R B2)<|Ab R R (Al R)<|Ab R R (Av T_api_Plan.vv R B2)<|Ab R R (A4 R R R)<|Ac<|Ak hm R (fun h1 hm=>Ag tbk [] R R<|Rt1 hm R [] R R R) fun h1 hm=>Aj<|Ae<|Ag tbk [] R R<|Bn hm (fun _ (_:Unit)=>[]) (fun _ (_:Unit)=>[]) (fun o hm h3=>?_) fun j _ hm=> ?_
 ·refine Bl (fun zn (zs:Int)=>ref26_Same.l1 a b zn zs) (fun zs (_:Unit)=>[(0,L54 a),(1,L54 b),(5,Iw zs)]) (fun _ (_:Unit)=>[]) _ () (fun _=>R) hm (Af [] R R) fun n i2 _ hm=> ?_
  rw [ref26_Same.l1] at hm
  exact Ae<|Ah<|Aa tbk [] 2 R R<|Ab R R (Av T_api_Plan.vv R B2)<|Ab R R (A4 R R R)<|Ac<|Ak hm R (fun h4 hm=>Aj<|Ae<|Ay<|Ae<|A9 0 mixed<|Aq tbk [0,1] [] (by kernel_rfl) R R R<|Bd hm fun x h5 hm=>Ax 2 R R R (by kernel_rfl) (Az T_api_Plan.vv R R el34 h5)<|Aq tbk [3,4,5,6] [] (by kernel_rfl) R R R<|Bd hm fun x2 h6 hm=>Ax 7 R R R (by kernel_rfl) (Az T_api_Plan.vv R R el34 h6)<|Aq tbk [8,9,10,11] [] (by kernel_rfl) R R R<|Cr hm [24,23,22,21,20,19,18,17,16,15,14,13,12,11,10,9,8,7,6,5,4,3,2,1,0] 41 28 R (fun _ K' h7 J hm=>Aq tbk [12,13,14,15,16,17,18,19,20,21,22,23,24] [] (by kernel_rfl) R R R<|J 12 R R (Bj hm)) (fun _ K' h7 J hm=>Aq tbk [12,13] [] (by kernel_rfl) R R R<|Bd hm fun x3 h8 hm=>Ce 14 R R R R R R (by kernel_rfl) (Az T_api_Plan.vv R R el34 h8)<|Aq tbk [15,16,17,18] [] (by kernel_rfl) R R R<|Bd hm fun x4 h9 hm=>Ce 19 R R R R R R (by kernel_rfl) (Az T_api_Plan.vv R R el34 h9)<|Aq tbk [20,21] [] (by kernel_rfl) R R R<|Ao 22 (by kernel_rfl)<|Cv R R R R R R<|Am hm 0 R fn15 R (K141 _ _) fun r hm=>Aq tbk [23,24] [] (by kernel_rfl) R R R<|J 12 R R (Bj hm)) fun c hm=>A5 (by kernel_rfl)<|Ak hm R (fun h12 hm=>Ag tbk [] R R<|have hm:=Lr hm h3;Rt1 hm R [] R R R) fun h12 hm=>Aj<|A2 tbk [] R R<|Ap _ () hm (Af [] R R)) fun h4 hm=>A1<|Ar () hm (Af [] R R)
 exact Ag tbk [] R R<|Rt1 hm R [] R R R

/-! trireme/triremelaw26.known -/
def law26_known : Option Bool :=
 (plan_One [(⟨(⟨#[109]⟩ : ByteArray), (⟨#[103]⟩ : ByteArray), (⟨1000, 0, 0, 5, 0⟩ : T_api_Res), ([] : List T_api_Label), ([] : List T_api_Taint), true⟩ : T_api_Machine), (⟨(⟨#[110]⟩ : ByteArray), (⟨#[103]⟩ : ByteArray), (⟨1000, 0, 0, 5, 0⟩ : T_api_Res), ([] : List T_api_Label), ([] : List T_api_Taint), true⟩ : T_api_Machine)] [(⟨(⟨(⟨#[112]⟩ : ByteArray), (⟨300, 0, 0, 1, 0⟩ : T_api_Res), ([] : List T_api_Label), ([] : List T_api_Label), ([] : List T_api_Term), ([] : List T_api_Toleration), ([] : List Int), ([] : List T_api_Label), false, ([] : List T_api_Label), 0, 0, (⟨#[115]⟩ : ByteArray), false, false, false⟩ : T_api_Pod), (⟨#[109]⟩ : ByteArray)⟩ : T_api_Bound), (⟨(⟨(⟨#[113]⟩ : ByteArray), (⟨300, 0, 0, 1, 0⟩ : T_api_Res), ([] : List T_api_Label), ([] : List T_api_Label), ([] : List T_api_Term), ([] : List T_api_Toleration), ([] : List Int), ([] : List T_api_Label), false, ([] : List T_api_Label), 0, 0, (⟨#[115]⟩ : ByteArray), false, false, false⟩ : T_api_Pod), (⟨#[110]⟩ : ByteArray)⟩ : T_api_Bound)] (⟨#[109]⟩ : ByteArray) ([] : List ByteArray)).bind fun r =>
 (plan_One [(⟨(⟨#[109]⟩ : ByteArray), (⟨#[103]⟩ : ByteArray), (⟨1000, 0, 0, 5, 0⟩ : T_api_Res), ([] : List T_api_Label), ([] : List T_api_Taint), true⟩ : T_api_Machine), (⟨(⟨#[110]⟩ : ByteArray), (⟨#[103]⟩ : ByteArray), (⟨1000, 0, 0, 5, 0⟩ : T_api_Res), ([] : List T_api_Label), ([] : List T_api_Taint), true⟩ : T_api_Machine)] [(⟨(⟨(⟨#[112]⟩ : ByteArray), (⟨300, 0, 0, 1, 0⟩ : T_api_Res), ([] : List T_api_Label), ([] : List T_api_Label), ([] : List T_api_Term), ([] : List T_api_Toleration), ([] : List Int), ([] : List T_api_Label), false, ([] : List T_api_Label), 0, 0, (⟨#[115]⟩ : ByteArray), false, false, false⟩ : T_api_Pod), (⟨#[109]⟩ : ByteArray)⟩ : T_api_Bound), (⟨(⟨(⟨#[113]⟩ : ByteArray), (⟨300, 0, 0, 1, 0⟩ : T_api_Res), ([] : List T_api_Label), ([] : List T_api_Label), ([] : List T_api_Term), ([] : List T_api_Toleration), ([] : List Int), ([] : List T_api_Label), false, ([] : List T_api_Label), 0, 0, (⟨#[115]⟩ : ByteArray), false, false, false⟩ : T_api_Pod), (⟨#[110]⟩ : ByteArray)⟩ : T_api_Bound)] (⟨#[109]⟩ : ByteArray) [(⟨#[110]⟩ : ByteArray)]).bind fun r2 =>
 (plan_Many [(⟨(⟨#[109]⟩ : ByteArray), (⟨#[103]⟩ : ByteArray), (⟨1000, 0, 0, 5, 0⟩ : T_api_Res), ([] : List T_api_Label), ([] : List T_api_Taint), true⟩ : T_api_Machine), (⟨(⟨#[110]⟩ : ByteArray), (⟨#[103]⟩ : ByteArray), (⟨1000, 0, 0, 5, 0⟩ : T_api_Res), ([] : List T_api_Label), ([] : List T_api_Taint), true⟩ : T_api_Machine)] [(⟨(⟨(⟨#[112]⟩ : ByteArray), (⟨300, 0, 0, 1, 0⟩ : T_api_Res), ([] : List T_api_Label), ([] : List T_api_Label), ([] : List T_api_Term), ([] : List T_api_Toleration), ([] : List Int), ([] : List T_api_Label), false, ([] : List T_api_Label), 0, 0, (⟨#[115]⟩ : ByteArray), false, false, false⟩ : T_api_Pod), (⟨#[109]⟩ : ByteArray)⟩ : T_api_Bound), (⟨(⟨(⟨#[113]⟩ : ByteArray), (⟨300, 0, 0, 1, 0⟩ : T_api_Res), ([] : List T_api_Label), ([] : List T_api_Label), ([] : List T_api_Term), ([] : List T_api_Toleration), ([] : List Int), ([] : List T_api_Label), false, ([] : List T_api_Label), 0, 0, (⟨#[115]⟩ : ByteArray), false, false, false⟩ : T_api_Pod), (⟨#[110]⟩ : ByteArray)⟩ : T_api_Bound)] ([] : List T_api_Budget) [(⟨#[109]⟩ : ByteArray), (⟨#[110]⟩ : ByteArray), (⟨#[109]⟩ : ByteArray)] (9 : Int)).bind fun r3 =>
 (if (r.2 && (!r2.2)) = true then (ref14_Moves r.1 [(⟨(⟨#[112]⟩ : ByteArray), (⟨#[110]⟩ : ByteArray)⟩ : T_api_Move)]).bind fun r5 =>
 some r5 else some false).bind fun c2 =>
 (if c2 = true then (ref26_Same r3.1 [(⟨(⟨#[109]⟩ : ByteArray), r.1⟩ : T_api_Plan)]).bind fun r6 =>
 some r6 else some false).bind fun c3 =>
 (if (c3 && ((r3.2.length : Int) == 2)) = true then (V.gl r3.2 (0 : Int)).bind fun x =>
 some (V.seq x.On (⟨#[110]⟩ : ByteArray)) else some false).bind fun c4 =>
 (if c4 = true then (plan_Without [(⟨(⟨#[109]⟩ : ByteArray), (⟨#[103]⟩ : ByteArray), (⟨1000, 0, 0, 5, 0⟩ : T_api_Res), ([] : List T_api_Label), ([] : List T_api_Taint), true⟩ : T_api_Machine), (⟨(⟨#[110]⟩ : ByteArray), (⟨#[103]⟩ : ByteArray), (⟨1000, 0, 0, 5, 0⟩ : T_api_Res), ([] : List T_api_Label), ([] : List T_api_Taint), true⟩ : T_api_Machine)] [(⟨#[109]⟩ : ByteArray)]).bind fun r7 =>
 some ((r7.length : Int) == 1) else some false).bind fun c5 =>
 some c5
theorem K143 : VS Tryz.prog 12 (law26_known) [] [] .bool N0 := by
 refine A3 [.tmp 0] Tryz.func12 R R R fun r hm=>?_
 unfold law26_known at hm
 refine Ag tbk [] R R<|Ah<|Ab R R (Bt pl41 R R)<|Ad R R<|A0 z41 fun b=>Ad R R<|An (i:=0) R R R ld41 R R R<|Ac<|Ah<|Aa tbk [0] 1 R R<|Ab R R (Bt pl61 R R)<|Aa tbk [0] 1 R R<|Ab R R (Bt pl61 R R)<|Bh (Bb (Bc 92) (Bb (Aw 0 [(12,.agg [.str (⟨#[109]⟩ : ByteArray),.str (⟨#[103]⟩ : ByteArray),Iw (1000 : Int),Iw (0 : Int),Iw (0 : Int),Iw (5 : Int),Iw (0 : Int),L92 ([] : List T_api_Label),.sl none 0 0,.bool true])] R ⟨⟨_,R,.aggL ⟨.same _,.same _,.same _,.same _,.same _,.same _,.same _,.here _ R,.same _,.same _,trivial⟩⟩,trivial⟩ (FzH.refl _)) (Bb (Bc 166) (Bb (Aw 0 [(12,T_api_Machine.vv (⟨(⟨#[109]⟩ : ByteArray),(⟨#[103]⟩ : ByteArray),(⟨(1000 : Int),(0 : Int),(0 : Int),(5 : Int),(0 : Int)⟩ : T_api_Res),([] : List T_api_Label),([] : List T_api_Taint),true⟩ : T_api_Machine))] R ⟨⟨_,R,.aggL ⟨.same _,.same _,.same _,.same _,.same _,.same _,.same _,.same _,.here _ R,.same _,trivial⟩⟩,trivial⟩ (FzH.refl _)) (Bb (Bc 92) (Bb (Aw 0 [(14,.agg [.str (⟨#[110]⟩ : ByteArray),.str (⟨#[103]⟩ : ByteArray),Iw (1000 : Int),Iw (0 : Int),Iw (0 : Int),Iw (5 : Int),Iw (0 : Int),L92 ([] : List T_api_Label),.sl none 0 0,.bool true])] R ⟨⟨_,R,.aggL ⟨.same _,.same _,.same _,.same _,.same _,.same _,.same _,.here _ R,.same _,.same _,trivial⟩⟩,trivial⟩ (FzH.refl _)) (Bb (Bc 166) (Aw 0 [(14,T_api_Machine.vv (⟨(⟨#[110]⟩ : ByteArray),(⟨#[103]⟩ : ByteArray),(⟨(1000 : Int),(0 : Int),(0 : Int),(5 : Int),(0 : Int)⟩ : T_api_Res),([] : List T_api_Label),([] : List T_api_Taint),true⟩ : T_api_Machine))] R ⟨⟨_,R,.aggL ⟨.same _,.same _,.same _,.same _,.same _,.same _,.same _,.same _,.here _ R,.same _,trivial⟩⟩,trivial⟩ (FzH.refl _)))))))))<|Ad R R<|A8 ap22 R R R R R fun b2=>Bh (Aw 0 [(15,L61 [(⟨(⟨#[109]⟩ : ByteArray),(⟨#[103]⟩ : ByteArray),(⟨(1000 : Int),(0 : Int),(0 : Int),(5 : Int),(0 : Int)⟩ : T_api_Res),([] : List T_api_Label),([] : List T_api_Taint),true⟩ : T_api_Machine),(⟨(⟨#[110]⟩ : ByteArray),(⟨#[103]⟩ : ByteArray),(⟨(1000 : Int),(0 : Int),(0 : Int),(5 : Int),(0 : Int)⟩ : T_api_Res),([] : List T_api_Label),([] : List T_api_Taint),true⟩ : T_api_Machine)])] R ⟨⟨_,R,.here _ R⟩,trivial⟩ (FzH.refl _))<|Ab R R (Ai R)<|Ac<|Ah<|Ab R R (Bt pl41 R R)<|Ab R R (Bt pl47 R R)<|Ab R R (Bt pl49 R R)<|Ab R R (Bt pl41 R R)<|Ab R R (Bt pl47 R R)<|Ab R R (Bt pl49 R R)<|Bh (Bb (Bc 92) (Bb (Aw 0 [(18,.agg [.str (⟨#[112]⟩ : ByteArray),Iw (300 : Int),Iw (0 : Int),Iw (0 : Int),Iw (1 : Int),Iw (0 : Int),L92 ([] : List T_api_Label),L92 ([] : List T_api_Label),.sl none 0 0,.sl none 0 0,.sl none 0 0,L92 ([] : List T_api_Label),.bool false,L92 ([] : List T_api_Label),Iw (0 : Int),Iw (0 : Int),.str (⟨#[115]⟩ : ByteArray),.bool false,.bool false,.bool false,.str (⟨#[109]⟩ : ByteArray)])] R ⟨⟨_,R,.aggL ⟨.same _,.same _,.same _,.same _,.same _,.same _,.here _ R,.here _ R,.same _,.same _,.same _,.here _ R,.same _,.here _ R,.same _,.same _,.same _,.same _,.same _,.same _,.same _,trivial⟩⟩,trivial⟩ (FzH.refl _)) (Bb (Bc 142) (Bb (Aw 0 [(18,.agg [.str (⟨#[112]⟩ : ByteArray),Iw (300 : Int),Iw (0 : Int),Iw (0 : Int),Iw (1 : Int),Iw (0 : Int),L92 ([] : List T_api_Label),L92 ([] : List T_api_Label),L142 ([] : List T_api_Term),.sl none 0 0,.sl none 0 0,L92 ([] : List T_api_Label),.bool false,L92 ([] : List T_api_Label),Iw (0 : Int),Iw (0 : Int),.str (⟨#[115]⟩ : ByteArray),.bool false,.bool false,.bool false,.str (⟨#[109]⟩ : ByteArray)])] R ⟨⟨_,R,.aggL ⟨.same _,.same _,.same _,.same _,.same _,.same _,.same _,.same _,.here _ R,.same _,.same _,.same _,.same _,.same _,.same _,.same _,.same _,.same _,.same _,.same _,.same _,trivial⟩⟩,trivial⟩ (FzH.refl _)) (Bb (Bc 172) (Bb (Aw 0 [(18,.agg [.str (⟨#[112]⟩ : ByteArray),Iw (300 : Int),Iw (0 : Int),Iw (0 : Int),Iw (1 : Int),Iw (0 : Int),L92 ([] : List T_api_Label),L92 ([] : List T_api_Label),L142 ([] : List T_api_Term),L172 ([] : List T_api_Toleration),.sl none 0 0,L92 ([] : List T_api_Label),.bool false,L92 ([] : List T_api_Label),Iw (0 : Int),Iw (0 : Int),.str (⟨#[115]⟩ : ByteArray),.bool false,.bool false,.bool false,.str (⟨#[109]⟩ : ByteArray)])] R ⟨⟨_,R,.aggL ⟨.same _,.same _,.same _,.same _,.same _,.same _,.same _,.same _,.same _,.here _ R,.same _,.same _,.same _,.same _,.same _,.same _,.same _,.same _,.same _,.same _,.same _,trivial⟩⟩,trivial⟩ (FzH.refl _)) (Bb (Bc 3) (Bb (Aw 0 [(18,T_api_Bound.vv (⟨(⟨(⟨#[112]⟩ : ByteArray),(⟨(300 : Int),(0 : Int),(0 : Int),(1 : Int),(0 : Int)⟩ : T_api_Res),([] : List T_api_Label),([] : List T_api_Label),([] : List T_api_Term),([] : List T_api_Toleration),([] : List Int),([] : List T_api_Label),false,([] : List T_api_Label),(0 : Int),(0 : Int),(⟨#[115]⟩ : ByteArray),false,false,false⟩ : T_api_Pod),(⟨#[109]⟩ : ByteArray)⟩ : T_api_Bound))] R ⟨⟨_,R,.aggL ⟨.same _,.same _,.same _,.same _,.same _,.same _,.same _,.same _,.same _,.same _,.here _ R,.same _,.same _,.same _,.same _,.same _,.same _,.same _,.same _,.same _,.same _,trivial⟩⟩,trivial⟩ (FzH.refl _)) (Bb (Bc 92) (Bb (Aw 0 [(21,.agg [.str (⟨#[113]⟩ : ByteArray),Iw (300 : Int),Iw (0 : Int),Iw (0 : Int),Iw (1 : Int),Iw (0 : Int),L92 ([] : List T_api_Label),L92 ([] : List T_api_Label),.sl none 0 0,.sl none 0 0,.sl none 0 0,L92 ([] : List T_api_Label),.bool false,L92 ([] : List T_api_Label),Iw (0 : Int),Iw (0 : Int),.str (⟨#[115]⟩ : ByteArray),.bool false,.bool false,.bool false,.str (⟨#[110]⟩ : ByteArray)])] R ⟨⟨_,R,.aggL ⟨.same _,.same _,.same _,.same _,.same _,.same _,.here _ R,.here _ R,.same _,.same _,.same _,.here _ R,.same _,.here _ R,.same _,.same _,.same _,.same _,.same _,.same _,.same _,trivial⟩⟩,trivial⟩ (FzH.refl _)) (Bb (Bc 142) (Bb (Aw 0 [(21,.agg [.str (⟨#[113]⟩ : ByteArray),Iw (300 : Int),Iw (0 : Int),Iw (0 : Int),Iw (1 : Int),Iw (0 : Int),L92 ([] : List T_api_Label),L92 ([] : List T_api_Label),L142 ([] : List T_api_Term),.sl none 0 0,.sl none 0 0,L92 ([] : List T_api_Label),.bool false,L92 ([] : List T_api_Label),Iw (0 : Int),Iw (0 : Int),.str (⟨#[115]⟩ : ByteArray),.bool false,.bool false,.bool false,.str (⟨#[110]⟩ : ByteArray)])] R ⟨⟨_,R,.aggL ⟨.same _,.same _,.same _,.same _,.same _,.same _,.same _,.same _,.here _ R,.same _,.same _,.same _,.same _,.same _,.same _,.same _,.same _,.same _,.same _,.same _,.same _,trivial⟩⟩,trivial⟩ (FzH.refl _)) (Bb (Bc 172) (Bb (Aw 0 [(21,.agg [.str (⟨#[113]⟩ : ByteArray),Iw (300 : Int),Iw (0 : Int),Iw (0 : Int),Iw (1 : Int),Iw (0 : Int),L92 ([] : List T_api_Label),L92 ([] : List T_api_Label),L142 ([] : List T_api_Term),L172 ([] : List T_api_Toleration),.sl none 0 0,L92 ([] : List T_api_Label),.bool false,L92 ([] : List T_api_Label),Iw (0 : Int),Iw (0 : Int),.str (⟨#[115]⟩ : ByteArray),.bool false,.bool false,.bool false,.str (⟨#[110]⟩ : ByteArray)])] R ⟨⟨_,R,.aggL ⟨.same _,.same _,.same _,.same _,.same _,.same _,.same _,.same _,.same _,.here _ R,.same _,.same _,.same _,.same _,.same _,.same _,.same _,.same _,.same _,.same _,.same _,trivial⟩⟩,trivial⟩ (FzH.refl _)) (Bb (Bc 3) (Aw 0 [(21,T_api_Bound.vv (⟨(⟨(⟨#[113]⟩ : ByteArray),(⟨(300 : Int),(0 : Int),(0 : Int),(1 : Int),(0 : Int)⟩ : T_api_Res),([] : List T_api_Label),([] : List T_api_Label),([] : List T_api_Term),([] : List T_api_Toleration),([] : List Int),([] : List T_api_Label),false,([] : List T_api_Label),(0 : Int),(0 : Int),(⟨#[115]⟩ : ByteArray),false,false,false⟩ : T_api_Pod),(⟨#[110]⟩ : ByteArray)⟩ : T_api_Bound))] R ⟨⟨_,R,.aggL ⟨.same _,.same _,.same _,.same _,.same _,.same _,.same _,.same _,.same _,.same _,.here _ R,.same _,.same _,.same _,.same _,.same _,.same _,.same _,.same _,.same _,.same _,trivial⟩⟩,trivial⟩ (FzH.refl _)))))))))))))))))<|?_
 refine Ad R R<|A8 ap23 R R R R R fun b3=>Bh (Aw 0 [(22,L49 [(⟨(⟨(⟨#[112]⟩ : ByteArray),(⟨(300 : Int),(0 : Int),(0 : Int),(1 : Int),(0 : Int)⟩ : T_api_Res),([] : List T_api_Label),([] : List T_api_Label),([] : List T_api_Term),([] : List T_api_Toleration),([] : List Int),([] : List T_api_Label),false,([] : List T_api_Label),(0 : Int),(0 : Int),(⟨#[115]⟩ : ByteArray),false,false,false⟩ : T_api_Pod),(⟨#[109]⟩ : ByteArray)⟩ : T_api_Bound),(⟨(⟨(⟨#[113]⟩ : ByteArray),(⟨(300 : Int),(0 : Int),(0 : Int),(1 : Int),(0 : Int)⟩ : T_api_Res),([] : List T_api_Label),([] : List T_api_Label),([] : List T_api_Term),([] : List T_api_Toleration),([] : List Int),([] : List T_api_Label),false,([] : List T_api_Label),(0 : Int),(0 : Int),(⟨#[115]⟩ : ByteArray),false,false,false⟩ : T_api_Pod),(⟨#[110]⟩ : ByteArray)⟩ : T_api_Bound)])] R ⟨⟨_,R,.here _ R⟩,trivial⟩ (FzH.refl _))<|Ab R R (Ai R)<|Ac<|Ah<|Aa tbk [] 2 R R<|Bd hm fun r h4 hm=>Ad R R<|VO.callN 0 [.same,.same,.same,.nil 9] R fn13 R (K128 [(⟨(⟨#[109]⟩ : ByteArray),(⟨#[103]⟩ : ByteArray),(⟨(1000 : Int),(0 : Int),(0 : Int),(5 : Int),(0 : Int)⟩ : T_api_Res),([] : List T_api_Label),([] : List T_api_Taint),true⟩ : T_api_Machine),(⟨(⟨#[110]⟩ : ByteArray),(⟨#[103]⟩ : ByteArray),(⟨(1000 : Int),(0 : Int),(0 : Int),(5 : Int),(0 : Int)⟩ : T_api_Res),([] : List T_api_Label),([] : List T_api_Taint),true⟩ : T_api_Machine)] [(⟨(⟨(⟨#[112]⟩ : ByteArray),(⟨(300 : Int),(0 : Int),(0 : Int),(1 : Int),(0 : Int)⟩ : T_api_Res),([] : List T_api_Label),([] : List T_api_Label),([] : List T_api_Term),([] : List T_api_Toleration),([] : List Int),([] : List T_api_Label),false,([] : List T_api_Label),(0 : Int),(0 : Int),(⟨#[115]⟩ : ByteArray),false,false,false⟩ : T_api_Pod),(⟨#[109]⟩ : ByteArray)⟩ : T_api_Bound),(⟨(⟨(⟨#[113]⟩ : ByteArray),(⟨(300 : Int),(0 : Int),(0 : Int),(1 : Int),(0 : Int)⟩ : T_api_Res),([] : List T_api_Label),([] : List T_api_Label),([] : List T_api_Term),([] : List T_api_Toleration),([] : List Int),([] : List T_api_Label),false,([] : List T_api_Label),(0 : Int),(0 : Int),(⟨#[115]⟩ : ByteArray),false,false,false⟩ : T_api_Pod),(⟨#[110]⟩ : ByteArray)⟩ : T_api_Bound)] (⟨#[109]⟩ : ByteArray) ([] : List ByteArray) r h4) fun _ _ h43=> ?_
 obtain ⟨ob,cap,rfl,rfl⟩:=h43
 refine Aa tbk [] 5 R R<|Ac<|Ah<|Aa tbk [] 2 R R<|Ad R R<|A8 ap25 R R R R R fun b4=>Bh (Aw 0 [(32,L9 [(⟨#[110]⟩ : ByteArray)])] R ⟨⟨_,R,.here _ R⟩,trivial⟩ (FzH.refl _))<|Ad R R<|Bz hm 0 R fn13 R (K128 _ _ _ _) fun r2 ob2 cap2 hm=>Aa tbk [] 5 R R<|Ac<|Ah<|Aa tbk [] 2 R R<|Ad R R<|A8 ap25 R R R R R fun b5=>Bh (Aw 0 [(39,L9 [(⟨#[109]⟩ : ByteArray),(⟨#[110]⟩ : ByteArray),(⟨#[109]⟩ : ByteArray)])] R ⟨⟨_,R,.here _ R⟩,trivial⟩ (FzH.refl _))<|Bd hm fun r3 h10 hm=>Ad R R<|VO.callN 0 [.same,.same,.nil 64,.same,.same] R fn16 R (K140 [(⟨(⟨#[109]⟩ : ByteArray),(⟨#[103]⟩ : ByteArray),(⟨(1000 : Int),(0 : Int),(0 : Int),(5 : Int),(0 : Int)⟩ : T_api_Res),([] : List T_api_Label),([] : List T_api_Taint),true⟩ : T_api_Machine),(⟨(⟨#[110]⟩ : ByteArray),(⟨#[103]⟩ : ByteArray),(⟨(1000 : Int),(0 : Int),(0 : Int),(5 : Int),(0 : Int)⟩ : T_api_Res),([] : List T_api_Label),([] : List T_api_Taint),true⟩ : T_api_Machine)] [(⟨(⟨(⟨#[112]⟩ : ByteArray),(⟨(300 : Int),(0 : Int),(0 : Int),(1 : Int),(0 : Int)⟩ : T_api_Res),([] : List T_api_Label),([] : List T_api_Label),([] : List T_api_Term),([] : List T_api_Toleration),([] : List Int),([] : List T_api_Label),false,([] : List T_api_Label),(0 : Int),(0 : Int),(⟨#[115]⟩ : ByteArray),false,false,false⟩ : T_api_Pod),(⟨#[109]⟩ : ByteArray)⟩ : T_api_Bound),(⟨(⟨(⟨#[113]⟩ : ByteArray),(⟨(300 : Int),(0 : Int),(0 : Int),(1 : Int),(0 : Int)⟩ : T_api_Res),([] : List T_api_Label),([] : List T_api_Label),([] : List T_api_Term),([] : List T_api_Toleration),([] : List Int),([] : List T_api_Label),false,([] : List T_api_Label),(0 : Int),(0 : Int),(⟨#[115]⟩ : ByteArray),false,false,false⟩ : T_api_Pod),(⟨#[110]⟩ : ByteArray)⟩ : T_api_Bound)] ([] : List T_api_Budget) [(⟨#[109]⟩ : ByteArray),(⟨#[110]⟩ : ByteArray),(⟨#[109]⟩ : ByteArray)] (9 : Int) r3 h10) fun _ _ h42=> ?_
 obtain ⟨ob3,cap3,ob4,cap4,rfl,rfl⟩:=h42
 refine Aa tbk [] 5 R R<|Ac<|Ae<|B8 (Aw 3 [(27,L58 r.1),(4,L58 r.1)] R ⟨⟨_,R,.here _ R⟩,⟨_,R,.here _ R⟩,trivial⟩ (FzH.refl _))<|B8 (Aw 0 [(41,L54 r3.1),(8,L54 r3.1)] R ⟨⟨_,R,.here _ R⟩,⟨_,R,.here _ R⟩,trivial⟩ (FzH.refl _))<|Bq<|Aa tbk [] 2 R R<|Bx tbk [] 3 47 44 R R R R R<|Ab R R (Al R)<|Be hm 5 53 48 R (fun _ K' h24 J hm=>Bg R R R R R (Al R)<|Bg R R R R R (Bt pl58 R R)<|A7 R R R R R<|A8 ap30 R R R R R fun b9=>Bh (Aw 0 [(51,L58 [(⟨(⟨#[112]⟩ : ByteArray),(⟨#[110]⟩ : ByteArray)⟩ : T_api_Move)])] R ⟨⟨_,R,.here _ R⟩,trivial⟩ (FzH.refl _))<|A7 R R R R R<|Am hm 0 R fn15 R (K141 _ _) fun r5 hm=>Ab R R (Bf true R R R)<|J 5 R R (Bj hm)) (fun _ K' h24 J hm=>Aa tbk [] 5 R R<|J 4 R R (Bj hm)) fun c2 hm=>Ab R R (Al R)<|Be hm 6 60 54 R (fun _ K' h28 J hm=>Aa tbk [] 2 R R<|Bg R R R R R (Bt pl54 R R)<|A7 R R R R R<|A8 ap34 R R R R R fun b10=>Bh (Aw 0 [(58,L54 [(⟨(⟨#[109]⟩ : ByteArray),r.1⟩ : T_api_Plan)])] R ⟨⟨_,R,.here _ R⟩,trivial⟩ (FzH.refl _))<|A7 R R R R R<|Am hm 0 R fn18 R (K142 _ _) fun r6 hm=>Ab R R (Bf true R R R)<|J 6 R R (Bj hm)) (fun _ K' h28 J hm=>Aa tbk [] 6 R R<|J 5 R R (Bj hm)) fun c3 hm=>Ab R R (Al R)<|C8 4 65 61 R (fun h32 K' J=>Bg R R R R R (Al R)<|Bg R R R R R (Cu T_api_Bound.vv R Bk)<|Aa tbk [] 2 R R<|J 3 R R R) (fun K' J=>Aa tbk [] 4 R R<|J 3 R R R)<|Ab R R (Al R)<|Be hm 6 72 66 R (fun _ K' h33 J hm=>?_) (fun _ K' h33 J hm=>Aa tbk [] 6 R R<|J 5 R R (Bj hm)) fun c4 hm=> ?_
 ·refine Bg R R R R R (Al R)<|Bd hm fun x h34 hm=>Cx 0 R (gl_pos T_api_Bound.vv h34) fun b11 h35=> ?_
  subst h35
  exact Bg R R R R R (Cf T_api_Bound.vv R R el23 h34)<|Bg R R R R R (B9 R fa49_1)<|Bg R R R R R (Cd (i:=0) (y:=T_api_Bound.vv x) R R R (gl_map _ (gl_some h34).2) ld9 R)<|Aa tbk [] 2 R R<|J 5 R R (Bj hm)
 exact Ab R R (Al R)<|Be hm 6 79 73 R (fun _ K' h37 J hm=>Bg R R R R R (Al R)<|A7 R R R R R<|A8 ap25 R R R R R fun b12=>Bh (Aw 0 [(75,L9 [(⟨#[109]⟩ : ByteArray)])] R ⟨⟨_,R,.here _ R⟩,trivial⟩ (FzH.refl _))<|A7 R R R R R<|Bz hm 0 R fn20 R (K67 _ _) fun r7 ob5 cap5 hm=>Bh (Aw 0 [(76,L61 r7)] R ⟨⟨_,R,.here _ R⟩,trivial⟩ (FzH.refl _))<|Bg R R R R R (Av T_api_Machine.vv R Bu)<|Aa tbk [] 2 R R<|J 7 R R (Bj hm)) (fun _ K' h37 J hm=>Aa tbk [] 6 R R<|J 5 R R (Bj hm)) fun c5 hm=>Ab R R (Ai R)<|Ac<|Rt1 hm R [] R R R

/-! trireme/triremeref26.among -/
def ref26_among.l1 (l : List ByteArray) (s : ByteArray) : Nat → Int → Option (Out Bool Unit)
 | 0, _ => none
 | n + 1, i2 =>
  if (decide (i2 < (l.length : Int))) = true then
   (V.gl l i2).bind fun x =>
   if (V.seq x s) = true then
    some (Out.ret true)
   else
    ref26_among.l1 l s n (i64.wrap (i2 + 1))
  else
   some (Out.go ())
def ref26_among (l : List ByteArray) (s : ByteArray) : Option Bool :=
 (ref26_among.l1 l s FU (0 : Int)).bind fun o =>
 o.on fun j =>
 some false
theorem K144 (l : List ByteArray) (s : ByteArray) : VS Tryz.prog 55 (ref26_among l s) [L9 l, .str s] [] .bool N0 := by
 refine A3 [.tmp 4] Tryz.func55 R R R fun r hm=>?_
 unfold ref26_among at hm
 refine Ag tbk [] R R<|Ae<|Ag tbk [] R R<|Bn hm (fun _ (_:Unit)=>[]) (fun _ (_:Unit)=>[]) (fun o hm h2=>?_) fun j _ hm=> ?_
 ·refine Bl (fun zn (zs:Int)=>ref26_among.l1 l s zn zs) (fun zs (_:Unit)=>[(0,L9 l),(1,.str s),(5,Iw zs)]) (fun _ (_:Unit)=>[]) _ () (fun _=>R) hm (Af [] R R) fun n i2 _ hm=> ?_
  rw [ref26_among.l1] at hm
  exact Ae<|Ah<|Aa tbk [] 2 R R<|Ab R R (Av VV.str R Bo)<|Ab R R (A4 R R R)<|Ac<|Ak hm R (fun h3 hm=>Aj<|Ae<|Ay<|Ah<|Aa tbk [] 2 R R<|Bd hm fun x h4 hm=>Ab R R (Az VV.str R R el25 h4)<|Aa tbk [] 3 R R<|Ac<|Ak hm R (fun h5 hm=>Ag tbk [] R R<|have hm:=Lr hm h2;Rt1 hm R [] R R R) fun h5 hm=>Aj<|A2 tbk [] R R<|Ap _ () hm (Af [] R R)) fun h3 hm=>A1<|Ar () hm (Af [] R R)
 exact Ag tbk [] R R<|Rt1 hm R [] R R R

/-! trireme/triremeref26.Without -/
def ref26_Without.l1 (ms : List T_api_Machine) (barred : List ByteArray) : Nat → (List T_api_Machine) → Int → Option (List T_api_Machine)
 | 0, _, _ => none
 | n + 1, out2, i2 =>
  if (decide (i2 < (ms.length : Int))) = true then
   (V.gl ms i2).bind fun x =>
   (ref26_among barred x.Name).bind fun r =>
   if (!r) = true then
    (V.gl ms i2).bind fun x2 =>
    (V.ap 128 out2 [x2]).bind fun out4 =>
    ref26_Without.l1 ms barred n out4 (i64.wrap (i2 + 1))
   else
    ref26_Without.l1 ms barred n out2 (i64.wrap (i2 + 1))
  else
   some out2
def ref26_Without (ms : List T_api_Machine) (barred : List ByteArray) : Option (List T_api_Machine) :=
 (ref26_Without.l1 ms barred FU ([] : List T_api_Machine) (0 : Int)).bind fun out32 =>
 some out32
theorem K145 (ms : List T_api_Machine) (barred : List ByteArray) : VS2 Tryz.prog 21 (ref26_Without ms barred) [L61 ms, L9 barred] [] (fun r ob0 cap0=>Z61 ob0 r cap0) (fun r ob0 cap0=>[Q61 ob0 cap0 r]) := by
 refine Cl [.tmp 4] Tryz.func21 R R R fun r hm=>?_
 unfold ref26_Without at hm
 refine Ag tbk [] R R<|Ag tbk [] R R<|Ae<|Ag tbk [] R R<|Bw hm (fun out32 (gg:Option Nat × Nat)=>[(5,Z61 gg.1 out32 gg.2)]) (fun out32 (gg:Option Nat × Nat)=>[Q61 gg.1 gg.2 out32]) (fun o hm=>?_) fun out32=>Pq fun ob3 cap3 hm=> ?_
 ·refine Bl (fun zn (zs:List T_api_Machine × Int)=>ref26_Without.l1 ms barred zn zs.1 zs.2) (fun zs (zg:Option Nat × Nat)=>[(0,L61 ms),(1,L9 barred),(5,Z61 zg.1 zs.1 zg.2),(6,Iw zs.2)]) (fun zs (zg:Option Nat × Nat)=>[Q61 zg.1 zg.2 zs.1]) (([] : List T_api_Machine),(0 : Int)) (none,0) (fun _=>R) hm (Bb (Bc 61) (Af [0] R R)) fun n=>Pq fun out2 i2=>Pq fun ob2 cap2 hm=> ?_
  rw [ref26_Without.l1] at hm
  exact Ae<|Ah<|Aa tbk [] 2 R R<|Ab R R (Av T_api_Machine.vv R Bu)<|Ab R R (A4 R R R)<|Ac<|Ak hm R (fun h5 hm=>Aj<|Ae<|Ay<|Ah<|Aa tbk [] 3 R R<|Bd hm fun x h6 hm=>Ab R R (Az T_api_Machine.vv R R el22 h6)<|Aa tbk [] 2 R R<|Ad R R<|Am hm 0 R fn55 R (K144 _ _) fun r hm=>Ab R R (Co R)<|Ac<|Ak hm R (fun h8 hm=>Bq<|Aa tbk [] 3 R R<|Bd hm fun x2 h9 hm=>Ab R R (Az T_api_Machine.vv R R el22 h9)<|Ab R R (Bi R ld61 R)<|Ad R R<|A8 ap22 R R R R R fun b=>Bd hm fun out4 h11 hm=>Ad R R<|B3 1 T_api_Machine.vv (l:=out2) (l2:=[x2]) ap22 R R (sT_row 0 T_api_Machine.vv el22 R R) h11 fun ob4 cap4=>Ab R R (Ai R)<|Ac<|A2 tbk [] R R<|Ap (out4,(IntKind.i64.wrap (i2 + (1 : Int)))) (ob4,cap4) hm (Af [1] R R)) fun h8 hm=>Aj<|A2 tbk [] R R<|Ap (out2,(IntKind.i64.wrap (i2 + (1 : Int)))) (ob2,cap2) hm (Af [0] R R)) fun h5 hm=>A1<|As (ob2,cap2) hm (Af [0] R R)
 exact Ag tbk [] R R<|Rg2 hm R [0] ob3 cap3 (.cons (.tmp _ _ R) .nil) R R

/-! trireme/triremeref09.On -/
def ref09_On.l1 (bs : List T_api_Bound) (name : ByteArray) : Nat → (List T_api_Pod) → Int → Option (List T_api_Pod)
 | 0, _, _ => none
 | n + 1, out2, i2 =>
  if (decide (i2 < (bs.length : Int))) = true then
   (V.gl bs i2).bind fun x =>
   if (V.seq x.On name) = true then
    (V.gl bs i2).bind fun x2 =>
    (V.ap 272 out2 [x2.Pod]).bind fun out4 =>
    ref09_On.l1 bs name n out4 (i64.wrap (i2 + 1))
   else
    ref09_On.l1 bs name n out2 (i64.wrap (i2 + 1))
  else
   some out2
def ref09_On (bs : List T_api_Bound) (name : ByteArray) : Option (List T_api_Pod) :=
 (ref09_On.l1 bs name FU ([] : List T_api_Pod) (0 : Int)).bind fun out32 =>
 some out32
theorem K146 (bs : List T_api_Bound) (name : ByteArray) : VS2 Tryz.prog 62 (ref09_On bs name) [L49 bs, .str name] [] (fun r ob0 cap0=>Z47 ob0 r cap0) (fun r ob0 cap0=>[Q47 ob0 cap0 r]) := by
 refine Cl [.tmp 4] Tryz.func62 R R R fun r hm=>?_
 unfold ref09_On at hm
 refine Ag tbk [] R R<|Ag tbk [] R R<|Ae<|Ag tbk [] R R<|Bw hm (fun out32 (gg:Option Nat × Nat)=>[(5,Z47 gg.1 out32 gg.2)]) (fun out32 (gg:Option Nat × Nat)=>[Q47 gg.1 gg.2 out32]) (fun o hm=>?_) fun out32=>Pq fun ob3 cap3 hm=> ?_
 ·refine Bl (fun zn (zs:List T_api_Pod × Int)=>ref09_On.l1 bs name zn zs.1 zs.2) (fun zs (zg:Option Nat × Nat)=>[(0,L49 bs),(1,.str name),(5,Z47 zg.1 zs.1 zg.2),(6,Iw zs.2)]) (fun zs (zg:Option Nat × Nat)=>[Q47 zg.1 zg.2 zs.1]) (([] : List T_api_Pod),(0 : Int)) (none,0) (fun _=>R) hm (Bb (Bc 47) (Af [0] R R)) fun n=>Pq fun out2 i2=>Pq fun ob2 cap2 hm=> ?_
  rw [ref09_On.l1] at hm
  exact Ae<|Ah<|Aa tbk [] 2 R R<|Ab R R (Av T_api_Bound.vv R Bk)<|Ab R R (A4 R R R)<|Ac<|Ak hm R (fun h5 hm=>Aj<|Ae<|Ay<|Ah<|Aa tbk [] 2 R R<|Bd hm fun x h6 hm=>Ab R R (Az T_api_Bound.vv R R el23 h6)<|Aa tbk [] 4 R R<|Ac<|Ak hm R (fun h7 hm=>Bq<|Aa tbk [] 3 R R<|Bd hm fun x2 h8 hm=>Ab R R (Az T_api_Bound.vv R R el23 h8)<|Aa tbk [] 2 R R<|Ad R R<|A8 ap55 R R R R R fun b=>Bd hm fun out4 h10 hm=>Ad R R<|B3 1 T_api_Pod.vv (l:=out2) (l2:=[x2.Pod]) ap55 R R (sT_row 0 T_api_Pod.vv el55 R R) h10 fun ob4 cap4=>Ab R R (Ai R)<|Ac<|A2 tbk [] R R<|Ap (out4,(IntKind.i64.wrap (i2 + (1 : Int)))) (ob4,cap4) hm (Af [1] R R)) fun h7 hm=>Aj<|A2 tbk [] R R<|Ap (out2,(IntKind.i64.wrap (i2 + (1 : Int)))) (ob2,cap2) hm (Af [0] R R)) fun h5 hm=>A1<|As (ob2,cap2) hm (Af [0] R R)
 exact Ag tbk [] R R<|Rg2 hm R [0] ob3 cap3 (.cons (.tmp _ _ R) .nil) R R

/-! trireme/triremeref25.Movable -/
def ref25_Movable.l1 (r : List T_api_Pod) : Nat → (List T_api_Pod) → Int → Option (List T_api_Pod)
 | 0, _, _ => none
 | n + 1, out2, i2 =>
  if (decide (i2 < (r.length : Int))) = true then
   (V.gl r i2).bind fun x =>
   if (!x.Daemon) = true then
    (V.gl r i2).bind fun x2 =>
    (V.ap 272 out2 [x2]).bind fun out4 =>
    ref25_Movable.l1 r n out4 (i64.wrap (i2 + 1))
   else
    ref25_Movable.l1 r n out2 (i64.wrap (i2 + 1))
  else
   some out2
def ref25_Movable (bs : List T_api_Bound) (name : ByteArray) : Option (List T_api_Pod) :=
 (ref09_On bs name).bind fun r =>
 (ref25_Movable.l1 r FU ([] : List T_api_Pod) (0 : Int)).bind fun out32 =>
 some out32
theorem K147 (bs : List T_api_Bound) (name : ByteArray) : VS2 Tryz.prog 24 (ref25_Movable bs name) [L49 bs, .str name] [] (fun r ob0 cap0=>Z47 ob0 r cap0) (fun r ob0 cap0=>[Q47 ob0 cap0 r]) := by
 refine Cl [.tmp 4] Tryz.func24 R R R fun r hm=>?_
 unfold ref25_Movable at hm
 refine Ag tbk [] R R<|Ah<|Aa tbk [] 2 R R<|Ad R R<|Bz hm 0 R fn62 R (K146 _ _) fun r ob cap hm=>Bh (Aw 0 [(10,L47 r)] R ⟨⟨_,R,.here _ R⟩,trivial⟩ (FzH.refl _))<|Ab R R (Ai R)<|Ac<|Ag tbk [] R R<|Ae<|Ag tbk [] R R<|Bw hm (fun out32 (gg:Option Nat × Nat)=>[(6,Z47 gg.1 out32 gg.2)]) (fun out32 (gg:Option Nat × Nat)=>[Q47 gg.1 gg.2 out32]) (fun o hm=>?_) fun out32=>Pq fun ob4 cap4 hm=> ?_
 ·refine Bl (fun zn (zs:List T_api_Pod × Int)=>ref25_Movable.l1 r zn zs.1 zs.2) (fun zs (zg:Option Nat × Nat)=>[(5,L47 r),(6,Z47 zg.1 zs.1 zg.2),(7,Iw zs.2)]) (fun zs (zg:Option Nat × Nat)=>[Q47 zg.1 zg.2 zs.1]) (([] : List T_api_Pod),(0 : Int)) (none,0) (fun _=>R) hm (Bb (Bc 47) (Af [0] R R)) fun n=>Pq fun out2 i2=>Pq fun ob3 cap3 hm=> ?_
  rw [ref25_Movable.l1] at hm
  exact Ae<|Ah<|Aa tbk [] 2 R R<|Ab R R (Av T_api_Pod.vv R Bv)<|Ab R R (A4 R R R)<|Ac<|Ak hm R (fun h7 hm=>Aj<|Ae<|Ay<|Ah<|Aa tbk [] 2 R R<|Bd hm fun x h8 hm=>Ab R R (Az T_api_Pod.vv R R el55 h8)<|Aa tbk [] 3 R R<|Ac<|Ak hm R (fun h9 hm=>Bq<|Aa tbk [] 3 R R<|Bd hm fun x2 h10 hm=>Ab R R (Az T_api_Pod.vv R R el55 h10)<|Ab R R (Bi R ld47 R)<|Ad R R<|A8 ap55 R R R R R fun b=>Bd hm fun out4 h12 hm=>Ad R R<|B3 1 T_api_Pod.vv (l:=out2) (l2:=[x2]) ap55 R R (sT_row 0 T_api_Pod.vv el55 R R) h12 fun ob5 cap5=>Ab R R (Ai R)<|Ac<|A2 tbk [] R R<|Ap (out4,(IntKind.i64.wrap (i2 + (1 : Int)))) (ob5,cap5) hm (Af [1] R R)) fun h9 hm=>Aj<|A2 tbk [] R R<|Ap (out2,(IntKind.i64.wrap (i2 + (1 : Int)))) (ob3,cap3) hm (Af [0] R R)) fun h7 hm=>A1<|As (ob3,cap3) hm (Af [0] R R)
 exact Ag tbk [] R R<|Rg2 hm R [0] ob4 cap4 (.cons (.tmp _ _ R) .nil) R R

/-! trireme/triremeref05.Get -/
def ref05_Get.l1 (l : List T_api_Label) (key : ByteArray) : Nat → Int → Option (Out (ByteArray × Bool) Unit)
 | 0, _ => none
 | n + 1, i2 =>
  if (decide (i2 < (l.length : Int))) = true then
   (V.gl l i2).bind fun x =>
   if (V.seq x.Key key) = true then
    (V.gl l i2).bind fun x2 =>
    some (Out.ret (x2.Val, true))
   else
    ref05_Get.l1 l key n (i64.wrap (i2 + 1))
  else
   some (Out.go ())
def ref05_Get (l : List T_api_Label) (key : ByteArray) : Option (ByteArray × Bool) :=
 (ref05_Get.l1 l key FU (0 : Int)).bind fun o =>
 o.on fun j =>
 some ((⟨#[]⟩ : ByteArray), false)
theorem K148 (l : List T_api_Label) (key : ByteArray) : VS Tryz.prog 116 (ref05_Get l key) [L92 l, .str key] [] (fun r=>.tup [.str r.1, .bool r.2]) N0 := by
 refine A3 [.tmp 4,.tmp 5] Tryz.func116 R R R fun r hm=>?_
 unfold ref05_Get at hm
 refine Ag tbk [] R R<|Ae<|Ag tbk [] R R<|Bn hm (fun _ (_:Unit)=>[]) (fun _ (_:Unit)=>[]) (fun o hm h2=>?_) fun j _ hm=> ?_
 ·refine Bl (fun zn (zs:Int)=>ref05_Get.l1 l key zn zs) (fun zs (_:Unit)=>[(0,L92 l),(1,.str key),(6,Iw zs)]) (fun _ (_:Unit)=>[]) _ () (fun _=>R) hm (Af [] R R) fun n i2 _ hm=> ?_
  rw [ref05_Get.l1] at hm
  exact Ae<|Ah<|Aa tbk [] 2 R R<|Ab R R (Av T_api_Label.vv R Br)<|Ab R R (A4 R R R)<|Ac<|Ak hm R (fun h3 hm=>Aj<|Ae<|Ay<|Ah<|Aa tbk [] 2 R R<|Bd hm fun x h4 hm=>Ab R R (Az T_api_Label.vv R R el42 h4)<|Aa tbk [] 4 R R<|Ac<|Ak hm R (fun h5 hm=>Ah<|Aa tbk [] 2 R R<|Bd hm fun x2 h6 hm=>Ab R R (Az T_api_Label.vv R R el42 h6)<|Aa tbk [] 4 R R<|Ac<|have hm:=Lr hm h2;Rt2 hm R [] R R R R) fun h5 hm=>Aj<|A2 tbk [] R R<|Ap _ () hm (Af [] R R)) fun h3 hm=>A1<|Ar () hm (Af [] R R)
 exact Ag tbk [] R R<|Rt2 hm R [] R R R R

/-! trireme/triremeref05.Has -/
def ref05_Has.l1 (l : List T_api_Label) (some_ : List T_api_Label) : Nat → Int → Option (Out Bool Unit)
 | 0, _ => none
 | n + 1, i2 =>
  if (decide (i2 < (some_.length : Int))) = true then
   (V.gl some_ i2).bind fun x =>
   (ref05_Get l x.Key).bind fun r =>
   (if (!r.2) = true then some true else (V.gl some_ i2).bind fun x2 =>
   some (!(V.seq r.1 x2.Val))).bind fun c =>
   if c = true then
    some (Out.ret false)
   else
    ref05_Has.l1 l some_ n (i64.wrap (i2 + 1))
  else
   some (Out.go ())
def ref05_Has (l : List T_api_Label) (some_ : List T_api_Label) : Option Bool :=
 (ref05_Has.l1 l some_ FU (0 : Int)).bind fun o =>
 o.on fun j =>
 some true
theorem K149 (l : List T_api_Label) (some_ : List T_api_Label) : VS Tryz.prog 63 (ref05_Has l some_) [L92 l, L92 some_] [] .bool N0 := by
 refine A3 [.tmp 4] Tryz.func63 R R R fun r hm=>?_
 unfold ref05_Has at hm
 refine Ag tbk [] R R<|Ae<|Ag tbk [] R R<|Bn hm (fun _ (_:Unit)=>[]) (fun _ (_:Unit)=>[]) (fun o hm h2=>?_) fun j _ hm=> ?_
 ·refine Bl (fun zn (zs:Int)=>ref05_Has.l1 l some_ zn zs) (fun zs (_:Unit)=>[(0,L92 l),(1,L92 some_),(5,Iw zs)]) (fun _ (_:Unit)=>[]) _ () (fun _=>R) hm (Af [] R R) fun n i2 _ hm=> ?_
  rw [ref05_Has.l1] at hm
  exact Ae<|Ah<|Aa tbk [] 2 R R<|Ab R R (Av T_api_Label.vv R Br)<|Ab R R (A4 R R R)<|Ac<|Ak hm R (fun h3 hm=>Aj<|Ae<|Ay<|Ah<|Aa tbk [] 3 R R<|Bd hm fun x h4 hm=>Ab R R (Az T_api_Label.vv R R el42 h4)<|Aa tbk [] 2 R R<|Ad R R<|Am hm 0 R fn116 R (K148 _ _) fun r hm=>Aa tbk [] 5 R R<|Ac<|Ah<|Aa tbk [] 3 R R<|Be hm 8 34 26 R (fun _ K' h6 J hm=>Aa tbk [] 8 R R<|J 7 R R (Bj hm)) (fun _ K' h6 J hm=>Aa tbk [] 3 R R<|Bd hm fun x2 h7 hm=>Bg R R R R R (Az T_api_Label.vv R R el42 h7)<|Aa tbk [] 4 R R<|J 7 R R (Bj hm)) fun c hm=>Ac<|Ak hm R (fun h9 hm=>Ag tbk [] R R<|have hm:=Lr hm h2;Rt1 hm R [] R R R) fun h9 hm=>Aj<|A2 tbk [] R R<|Ap _ () hm (Af [] R R)) fun h3 hm=>A1<|Ar () hm (Af [] R R)
 exact Ag tbk [] R R<|Rt1 hm R [] R R R

/-! trireme/triremeref05.Meets -/
def ref05_Meets.l1 (t : T_api_Term) (r : ByteArray × Bool) : Nat → Bool → Int → Option Bool
 | 0, _, _ => none
 | n + 1, in_2, i2 =>
  if (decide (i2 < (t.Vals.length : Int))) = true then
   (if in_2 = true then some true else (if r.2 = true then (V.gl t.Vals i2).bind fun x =>
   some (V.seq x r.1) else some false).bind fun c =>
   some c).bind fun c2 =>
   ref05_Meets.l1 t r n c2 (i64.wrap (i2 + 1))
  else
   some in_2
def ref05_Meets (l : List T_api_Label) (t : T_api_Term) : Option Bool :=
 (ref05_Get l t.Key).bind fun r =>
 (ref05_Meets.l1 t r FU false (0 : Int)).bind fun in_32 =>
 if (t.Op == 1) = true then
  some in_32
 else
  if (t.Op == 2) = true then
   some (!in_32)
  else
   if (t.Op == 3) = true then
    some r.2
   else
    if (t.Op == 4) = true then
     some (!r.2)
    else
     (ref03_Number r.1).bind fun r2 =>
     (V.gl t.Vals (0 : Int)).bind fun x2 =>
     (ref03_Number x2).bind fun r3 =>
     if ((!r.2) || (r2.2 != 0)) = true then
      some false
     else
      if (t.Op == 5) = true then
       some (decide (r2.1 > r3.1))
      else
       some (decide (r2.1 < r3.1))
theorem K150 (l : List T_api_Label) (t : T_api_Term) : VS Tryz.prog 214 (ref05_Meets l t) [L92 l, T_api_Term.vv t] [] .bool N0 := by
 refine A3 [.tmp 4] Tryz.func214 R R R fun r hm=>?_
 unfold ref05_Meets at hm
 refine Ah<|Ad R R<|Ba R R fun b=>Ab R R (Ai R)<|Ac<|Ah<|Aa tbk [0] 3 R R<|Ad R R<|Am hm 0 R fn116 R (K148 _ _) fun r hm=>Aa tbk [] 5 R R<|Ac<|Ag tbk [] R R<|Ae<|Ag tbk [] R R<|Bw hm (fun in_32 (_:Unit)=>[(3,.ptr b 0),(5,.str r.1),(6,.bool r.2),(7,.bool in_32)]) (fun _ (_:Unit)=>[X142 b t]) (fun o hm=>?_) fun in_32 _ hm=> ?_
 ·refine Bl (fun zn (zs:Bool × Int)=>ref05_Meets.l1 t r zn zs.1 zs.2) (fun zs (_:Unit)=>[(3,.ptr b 0),(5,.str r.1),(6,.bool r.2),(7,.bool zs.1),(8,Iw zs.2)]) (fun _ (_:Unit)=>[X142 b t]) (false,(0 : Int)) () (fun _=>R) hm (Af [0] R R) fun n=>Pq fun in_2 i2 _ hm=> ?_
  rw [ref05_Meets.l1] at hm
  exact Ae<|Ah<|Aa tbk [0] 3 R R<|Ab R R (Av VV.str R Bo)<|Ab R R (A4 R R R)<|Ac<|Ak hm R (fun h5 hm=>Aj<|Ae<|Ay<|Bq<|Aa tbk [] 2 R R<|Be hm 11 39 28 R (fun _ K' h6 J hm=>Aa tbk [] 11 R R<|J 10 R R (Bj hm)) (fun _ K' h6 J hm=>Aa tbk [] 2 R R<|Be hm 8 38 30 R (fun _ K' h7 J hm=>Aa tbk [0] 3 R R<|Bd hm fun x h8 hm=>Bg R R R R R (Az VV.str R R el25 h8)<|Aa tbk [] 4 R R<|J 7 R R (Bj hm)) (fun _ K' h7 J hm=>Aa tbk [] 8 R R<|J 7 R R (Bj hm)) fun c hm=>Ab R R (Bf false R R R)<|J 3 R R (Bj hm)) fun c2 hm=>Ab R R (Ai R)<|Ac<|A2 tbk [] R R<|Ap (c2,(IntKind.i64.wrap (i2 + (1 : Int)))) () hm (Af [0] R R)) fun h5 hm=>A1<|As () hm (Af [0] R R)
 exact Ae<|Ag tbk [0] R R<|Ay<|Ag tbk [] R R<|Ak hm R (fun h11 hm=>Ag tbk [] R R<|Rt1 hm R [] R R R) fun h11 hm=>Ag tbk [] R R<|Ak hm R (fun h12 hm=>Ag tbk [] R R<|Rt1 hm R [] R R R) fun h12 hm=>Ag tbk [] R R<|Ak hm R (fun h13 hm=>Ag tbk [] R R<|Rt1 hm R [] R R R) fun h13 hm=>Ag tbk [] R R<|Ak hm R (fun h14 hm=>Ag tbk [] R R<|Rt1 hm R [] R R R) fun h14 hm=>Aj<|Ah<|Ab R R (Al R)<|Ad R R<|Am hm 0 R fn164 R (K54 _) fun r2 hm=>Aa tbk [] 5 R R<|Ac<|Ah<|Aa tbk [0] 2 R R<|Bd hm fun x2 h16 hm=>Ab R R (Az VV.str R R el25 h16)<|Ab R R (Bi R ld9 R)<|Ad R R<|Am hm 0 R fn164 R (K54 _) fun r3 hm=>Aa tbk [] 5 R R<|Ac<|Ae<|Ah<|Aa tbk [] 3 R R<|Cp tbk [] 3 74 71 R R R R R<|Ac<|Ak hm R (fun h19 hm=>Ag tbk [] R R<|Rt1 hm R [] R R R) fun h19 hm=>Aj<|Ae<|Ag tbk [0] R R<|Ak hm R (fun h20 hm=>Ag tbk [] R R<|Rt1 hm R [] R R R) fun h20 hm=>Aj<|Ag tbk [] R R<|Rt1 hm R [] R R R

/-! trireme/triremeref05.All -/
def ref05_All.l1 (l : List T_api_Label) (terms : List T_api_Term) : Nat → Int → Option (Out Bool Unit)
 | 0, _ => none
 | n + 1, i2 =>
  if (decide (i2 < (terms.length : Int))) = true then
   (V.gl terms i2).bind fun x =>
   (ref05_Meets l x).bind fun r =>
   if (!r) = true then
    some (Out.ret false)
   else
    ref05_All.l1 l terms n (i64.wrap (i2 + 1))
  else
   some (Out.go ())
def ref05_All (l : List T_api_Label) (terms : List T_api_Term) : Option Bool :=
 (ref05_All.l1 l terms FU (0 : Int)).bind fun o =>
 o.on fun j =>
 some true
theorem K151 (l : List T_api_Label) (terms : List T_api_Term) : VS Tryz.prog 192 (ref05_All l terms) [L92 l, L142 terms] [] .bool N0 := by
 refine A3 [.tmp 4] Tryz.func192 R R R fun r hm=>?_
 unfold ref05_All at hm
 refine Ag tbk [] R R<|Ae<|Ag tbk [] R R<|Bn hm (fun _ (_:Unit)=>[]) (fun _ (_:Unit)=>[]) (fun o hm h2=>?_) fun j _ hm=> ?_
 ·refine Bl (fun zn (zs:Int)=>ref05_All.l1 l terms zn zs) (fun zs (_:Unit)=>[(0,L92 l),(1,L142 terms),(5,Iw zs)]) (fun _ (_:Unit)=>[]) _ () (fun _=>R) hm (Af [] R R) fun n i2 _ hm=> ?_
  rw [ref05_All.l1] at hm
  exact Ae<|Ah<|Aa tbk [] 2 R R<|Ab R R (Av T_api_Term.vv R Cm)<|Ab R R (A4 R R R)<|Ac<|Ak hm R (fun h3 hm=>Aj<|Ae<|Ay<|Ah<|Aa tbk [] 3 R R<|Bd hm fun x h4 hm=>Ab R R (Az T_api_Term.vv R R el43 h4)<|Ab R R (Bi R ld142 R)<|Ad R R<|Am hm 0 R fn214 R (K150 _ _) fun r hm=>Ab R R (Co R)<|Ac<|Ak hm R (fun h6 hm=>Ag tbk [] R R<|have hm:=Lr hm h2;Rt1 hm R [] R R R) fun h6 hm=>Aj<|A2 tbk [] R R<|Ap _ () hm (Af [] R R)) fun h3 hm=>A1<|Ar () hm (Af [] R R)
 exact Ag tbk [] R R<|Rt1 hm R [] R R R

/-! trireme/triremeref06.Bears -/
def ref06_Bears (t : T_api_Toleration) (x : T_api_Taint) : Option Bool :=
 some ((((t.Effect == 0) || (t.Effect == x.Effect)) && ((V.seq t.Key (⟨#[]⟩ : ByteArray)) || (V.seq t.Key x.Key))) && (t.Any || (V.seq t.Val x.Val)))
theorem K152 (t : T_api_Toleration) (x : T_api_Taint) : VS Tryz.prog 230 (ref06_Bears t x) [T_api_Toleration.vv t, T_api_Taint.vv x] [] .bool N0 := by
 refine A3 [.tmp 4] Tryz.func230 R R R fun r hm=>?_
 unfold ref06_Bears at hm
 exact Ah<|Ad R R<|Ba R R fun b=>Ad R R<|Ba R R fun b2=>Ab R R (Ai R)<|Ac<|Ah<|Aa tbk [1] 4 R R<|Cp tbk [1,0] 6 14 8 R R R R R<|Ab R R (Al R)<|C8 11 26 15 R (fun h4 K' J=>Aa tbk [1] 4 R R<|Cp tbk [1,0] 6 25 19 R R R R R<|Ab R R (Bf true R R R)<|J 5 R R R) (fun K' J=>Aa tbk [] 11 R R<|J 10 R R R)<|Ab R R (Al R)<|C8 10 37 27 R (fun h6 K' J=>Aa tbk [1] 3 R R<|Cp tbk [1,0] 6 36 30 R R R R R<|Ab R R (Bf true R R R)<|J 4 R R R) (fun K' J=>Aa tbk [] 10 R R<|J 9 R R R)<|Ab R R (Ai R)<|Ac<|Rt1 hm R [] R R R

/-! trireme/triremeref06.Unborne -/
def ref06_Unborne.l2 (l : List T_api_Toleration) (taints : List T_api_Taint) (i2 : Int) : Nat → Bool → Int → Option Bool
 | 0, _, _ => none
 | n2 + 1, borne2, k2 =>
  if (decide (k2 < (l.length : Int))) = true then
   (if borne2 = true then some true else (V.gl l k2).bind fun x2 =>
   (V.gl taints i2).bind fun x3 =>
   (ref06_Bears x2 x3).bind fun r =>
   some r).bind fun c2 =>
   ref06_Unborne.l2 l taints i2 n2 c2 (i64.wrap (k2 + 1))
  else
   some borne2
def ref06_Unborne.l1 (l : List T_api_Toleration) (taints : List T_api_Taint) (effect : Int) : Nat → (List T_api_Taint) → Int → Option (List T_api_Taint)
 | 0, _, _ => none
 | n + 1, out2, i2 =>
  if (decide (i2 < (taints.length : Int))) = true then
   (if (effect != 0) = true then (V.gl taints i2).bind fun x =>
   some (x.Effect != effect) else some false).bind fun c =>
   (ref06_Unborne.l2 l taints i2 FU c (0 : Int)).bind fun borne32 =>
   if (!borne32) = true then
    (V.gl taints i2).bind fun x4 =>
    (V.ap 40 out2 [x4]).bind fun out4 =>
    ref06_Unborne.l1 l taints effect n out4 (i64.wrap (i2 + 1))
   else
    ref06_Unborne.l1 l taints effect n out2 (i64.wrap (i2 + 1))
  else
   some out2
def ref06_Unborne (l : List T_api_Toleration) (taints : List T_api_Taint) (effect : Int) : Option (List T_api_Taint) :=
 (ref06_Unborne.l1 l taints effect FU ([] : List T_api_Taint) (0 : Int)).bind fun out32 =>
 some out32
theorem K153 (l : List T_api_Toleration) (taints : List T_api_Taint) (effect : Int) : VS2 Tryz.prog 211 (ref06_Unborne l taints effect) [L172 l, L166 taints, Iw effect] [] (fun r ob0 cap0=>Z166 ob0 r cap0) (fun r ob0 cap0=>[Q166 ob0 cap0 r]) := by
 refine Cl [.tmp 6] Tryz.func211 R R R fun r hm=>?_
 unfold ref06_Unborne at hm
 refine Ag tbk [] R R<|Ag tbk [] R R<|Ae<|Ag tbk [] R R<|Bw hm (fun out32 (gg:Option Nat × Nat)=>[(7,Z166 gg.1 out32 gg.2)]) (fun out32 (gg:Option Nat × Nat)=>[Q166 gg.1 gg.2 out32]) (fun o hm=>?_) fun out32=>Pq fun ob3 cap3 hm=> ?_
 ·refine Bl (fun zn (zs:List T_api_Taint × Int)=>ref06_Unborne.l1 l taints effect zn zs.1 zs.2) (fun zs (zg:Option Nat × Nat)=>[(0,L172 l),(1,L166 taints),(2,Iw effect),(7,Z166 zg.1 zs.1 zg.2),(8,Iw zs.2)]) (fun zs (zg:Option Nat × Nat)=>[Q166 zg.1 zg.2 zs.1]) (([] : List T_api_Taint),(0 : Int)) (none,0) (fun _=>R) hm (Bb (Bc 166) (Af [0] R R)) fun n=>Pq fun out2 i2=>Pq fun ob2 cap2 hm=> ?_
  rw [ref06_Unborne.l1] at hm
  refine Ae<|Ah<|Aa tbk [] 2 R R<|Ab R R (Av T_api_Taint.vv R B1)<|Ab R R (A4 R R R)<|Ac<|Ak hm R (fun h5 hm=>?_) fun h5 hm=> ?_
  ·refine Aj<|Ae<|Ay<|Ah<|Aa tbk [] 3 R R<|Be hm 8 27 19 R (fun _ K' h6 J hm=>Aa tbk [] 2 R R<|Bd hm fun x h7 hm=>Bg R R R R R (Az T_api_Taint.vv R R el59 h7)<|Aa tbk [] 5 R R<|J 7 R R (Bj hm)) (fun _ K' h6 J hm=>Aa tbk [] 8 R R<|J 7 R R (Bj hm)) fun c hm=>Ab R R (Ai R)<|Ac<|Ae<|Ag tbk [] R R<|Bw hm (fun borne32 (_:Unit)=>[(0,L172 l),(1,L166 taints),(2,Iw effect),(7,Z166 ob2 out2 cap2),(8,Iw i2),(9,.bool borne32)]) (fun _ (_:Unit)=>[Q166 ob2 cap2 out2]) (fun o2 hm=>?_) fun borne32 _ hm=> ?_
   ·refine Bl (fun zn (zs:Bool × Int)=>ref06_Unborne.l2 l taints i2 zn zs.1 zs.2) (fun zs (_:Unit)=>[(0,L172 l),(1,L166 taints),(2,Iw effect),(7,Z166 ob2 out2 cap2),(8,Iw i2),(9,.bool zs.1),(10,Iw zs.2)]) (fun _ (_:Unit)=>[Q166 ob2 cap2 out2]) (c,(0 : Int)) () (fun _=>R) hm (Af [0] R R) fun n2=>Pq fun borne2 k2 _ hm=> ?_
    rw [ref06_Unborne.l2] at hm
    exact Ae<|Ah<|Aa tbk [] 2 R R<|Ab R R (Av T_api_Toleration.vv R Ct)<|Ab R R (A4 R R R)<|Ac<|Ak hm R (fun h11 hm=>Aj<|Ae<|Ay<|A9 0 mixed<|Aq tbk [0,1] [] (by kernel_rfl) R R R<|Cr hm [11,10,9,8,7,6,5,4,3,2,1,0] 45 35 R (fun _ K' h12 J hm=>Aq tbk [2,3,4,5,6,7,8,9,10,11] [] (by kernel_rfl) R R R<|J 9 R R (Bj hm)) (fun _ K' h12 J hm=>Aq tbk [2,3] [] (by kernel_rfl) R R R<|Bd hm fun x2 h13 hm=>Ce 4 R R R R R R (by kernel_rfl) (Az T_api_Toleration.vv R R el44 h13)<|Aq tbk [5,6,7] [] (by kernel_rfl) R R R<|Bd hm fun x3 h14 hm=>Ce 8 R R R R R R (by kernel_rfl) (Az T_api_Taint.vv R R el59 h14)<|Ce 9 R R R R R R (by kernel_rfl) (Bi R ld166 R)<|Ao 10 (by kernel_rfl)<|Cv R R R R R R<|Am hm 0 R fn230 R (K152 _ _) fun r hm=>Ax 11 R R R (by kernel_rfl) (Bf false R R R)<|J 9 R R (Bj hm)) fun c2 hm=>Ax 12 R R R (by kernel_rfl) (Ai R)<|A5 (by kernel_rfl)<|A2 tbk [] R R<|Ap (c2,(IntKind.i64.wrap (k2 + (1 : Int)))) () hm (Af [0] R R)) fun h11 hm=>A1<|As () hm (Af [0] R R)
   exact Ag tbk [] R R<|Ak hm R (fun h17 hm=>Bq<|Aa tbk [] 3 R R<|Bd hm fun x4 h18 hm=>Ab R R (Az T_api_Taint.vv R R el59 h18)<|Ab R R (Bi R ld166 R)<|Ad R R<|A8 ap59 R R R R R fun b=>Bd hm fun out4 h20 hm=>Ad R R<|B3 1 T_api_Taint.vv (l:=out2) (l2:=[x4]) ap59 R R (sT_row 0 T_api_Taint.vv el59 R R) h20 fun ob4 cap4=>Ab R R (Ai R)<|Ac<|A2 tbk [] R R<|Ap (out4,(IntKind.i64.wrap (i2 + (1 : Int)))) (ob4,cap4) hm (Af [1] R R)) fun h17 hm=>Aj<|A2 tbk [] R R<|Ap (out2,(IntKind.i64.wrap (i2 + (1 : Int)))) (ob2,cap2) hm (Af [0] R R)
  exact A1<|As (ob2,cap2) hm (Af [0] R R)
 exact Ag tbk [] R R<|Rg2 hm R [0] ob3 cap3 (.cons (.tmp _ _ R) .nil) R R

/-! trireme/triremeref06.hard -/
def ref06_hard (n : Int) : Option Bool :=
 some ((n == 1) || (n == 3))
theorem K154 (n : Int) : VS Tryz.prog 215 (ref06_hard n) [Iw n] [] .bool N0 := by
 refine A3 [.tmp 2] Tryz.func215 R R R fun r hm=>?_
 unfold ref06_hard at hm
 exact Ag tbk [] R R<|Ah<|Aa tbk [] 3 R R<|Cp tbk [] 3 8 5 R R R R R<|Ab R R (Ai R)<|Ac<|Rt1 hm R [] R R R

/-! trireme/triremeref06.Allows -/
def ref06_Allows.l1 (r : List T_api_Taint) : Nat → Int → Option (Out Bool Unit)
 | 0, _ => none
 | n + 1, i2 =>
  if (decide (i2 < (r.length : Int))) = true then
   (V.gl r i2).bind fun x =>
   (ref06_hard x.Effect).bind fun r2 =>
   if r2 = true then
    some (Out.ret false)
   else
    ref06_Allows.l1 r n (i64.wrap (i2 + 1))
  else
   some (Out.go ())
def ref06_Allows (l : List T_api_Toleration) (taints : List T_api_Taint) : Option Bool :=
 (ref06_Unborne l taints (0 : Int)).bind fun r =>
 (ref06_Allows.l1 r FU (0 : Int)).bind fun o =>
 o.on fun j =>
 some true
theorem K155 (l : List T_api_Toleration) (taints : List T_api_Taint) : VS Tryz.prog 193 (ref06_Allows l taints) [L172 l, L166 taints] [] .bool N0 := by
 refine A3 [.tmp 4] Tryz.func193 R R R fun r hm=>?_
 unfold ref06_Allows at hm
 refine Ag tbk [] R R<|Ah<|Aa tbk [] 2 R R<|Ad R R<|Bz hm 0 R fn211 R (K153 _ _ _) fun r ob cap hm=>Bh (Aw 0 [(9,L166 r)] R ⟨⟨_,R,.here _ R⟩,trivial⟩ (FzH.refl _))<|Ab R R (Ai R)<|Ac<|Ae<|Ag tbk [] R R<|Bn hm (fun _ (_:Unit)=>[]) (fun _ (_:Unit)=>[]) (fun o hm h4=>?_) fun j _ hm=> ?_
 ·refine Bl (fun zn (zs:Int)=>ref06_Allows.l1 r zn zs) (fun zs (_:Unit)=>[(5,L166 r),(6,Iw zs)]) (fun _ (_:Unit)=>[]) _ () (fun _=>R) hm (Af [] R R) fun n i2 _ hm=> ?_
  rw [ref06_Allows.l1] at hm
  exact Ae<|Ah<|Aa tbk [] 2 R R<|Ab R R (Av T_api_Taint.vv R B1)<|Ab R R (A4 R R R)<|Ac<|Ak hm R (fun h5 hm=>Aj<|Ae<|Ay<|Ah<|Aa tbk [] 2 R R<|Bd hm fun x h6 hm=>Ab R R (Az T_api_Taint.vv R R el59 h6)<|Aa tbk [] 2 R R<|Ad R R<|Am hm 0 R fn215 R (K154 _) fun r2 hm=>Ac<|Ak hm R (fun h8 hm=>Ag tbk [] R R<|have hm:=Lr hm h4;Rt1 hm R [] R R R) fun h8 hm=>Aj<|A2 tbk [] R R<|Ap _ () hm (Af [] R R)) fun h5 hm=>A1<|Ar () hm (Af [] R R)
 exact Ag tbk [] R R<|Rt1 hm R [] R R R

/-! trireme/triremeref10.Place -/
def ref10_Place (m : T_api_Machine) (p : T_api_Pod) : Option Int :=
 if (!m.Ready) = true then
  some 1
 else
  (ref05_Has m.Labels p.Select).bind fun r =>
  if (!r) = true then
   some 4
  else
   (ref05_All m.Labels p.Terms).bind fun r2 =>
   if (!r2) = true then
    some 5
   else
    (ref06_Allows p.Bears m.Taints).bind fun r3 =>
    if (!r3) = true then
     some 6
    else
     some 0
theorem K156 (m : T_api_Machine) (p : T_api_Pod) : VS Tryz.prog 165 (ref10_Place m p) [T_api_Machine.vv m, T_api_Pod.vv p] [] Iw N0 := by
 refine A3 [.tmp 4] Tryz.func165 R R R fun r hm=>?_
 unfold ref10_Place at hm
 exact Ah<|Ad R R<|Ba R R fun b=>Ad R R<|Ba R R fun b2=>Ab R R (Ai R)<|Ac<|Ae<|Ag tbk [1] R R<|Ak hm R (fun h3 hm=>Ag tbk [] R R<|Rt1 hm R [] R R R) fun h3 hm=>Aj<|Ae<|Ah<|Aa tbk [1,0] 4 R R<|Ad R R<|Am hm 0 R fn63 R (K149 _ _) fun r hm=>Ab R R (Co R)<|Ac<|Ak hm R (fun h5 hm=>Ag tbk [] R R<|Rt1 hm R [] R R R) fun h5 hm=>Aj<|Ae<|Ah<|Aa tbk [1,0] 4 R R<|Ad R R<|Am hm 0 R fn192 R (K151 _ _) fun r2 hm=>Ab R R (Co R)<|Ac<|Ak hm R (fun h7 hm=>Ag tbk [] R R<|Rt1 hm R [] R R R) fun h7 hm=>Aj<|Ae<|Ah<|Aa tbk [0,1] 4 R R<|Ad R R<|Am hm 0 R fn193 R (K155 _ _) fun r3 hm=>Ab R R (Co R)<|Ac<|Ak hm R (fun h9 hm=>Ag tbk [] R R<|Rt1 hm R [] R R R) fun h9 hm=>Aj<|Ag tbk [] R R<|Rt1 hm R [] R R R

/-! trireme/triremeref10.Others -/
def ref10_Others.l1 (bs : List T_api_Bound) (name : ByteArray) : Nat → (List T_api_Bound) → Int → Option (List T_api_Bound)
 | 0, _, _ => none
 | n + 1, out2, i2 =>
  if (decide (i2 < (bs.length : Int))) = true then
   (V.gl bs i2).bind fun x =>
   if (!(V.seq x.Pod.Name name)) = true then
    (V.gl bs i2).bind fun x2 =>
    (V.ap 288 out2 [x2]).bind fun out4 =>
    ref10_Others.l1 bs name n out4 (i64.wrap (i2 + 1))
   else
    ref10_Others.l1 bs name n out2 (i64.wrap (i2 + 1))
  else
   some out2
def ref10_Others (bs : List T_api_Bound) (name : ByteArray) : Option (List T_api_Bound) :=
 (ref10_Others.l1 bs name FU ([] : List T_api_Bound) (0 : Int)).bind fun out32 =>
 some out32
theorem K157 (bs : List T_api_Bound) (name : ByteArray) : VS2 Tryz.prog 147 (ref10_Others bs name) [L49 bs, .str name] [] (fun r ob0 cap0=>Z49 ob0 r cap0) (fun r ob0 cap0=>[Q49 ob0 cap0 r]) := by
 refine Cl [.tmp 4] Tryz.func147 R R R fun r hm=>?_
 unfold ref10_Others at hm
 refine Ag tbk [] R R<|Ag tbk [] R R<|Ae<|Ag tbk [] R R<|Bw hm (fun out32 (gg:Option Nat × Nat)=>[(5,Z49 gg.1 out32 gg.2)]) (fun out32 (gg:Option Nat × Nat)=>[Q49 gg.1 gg.2 out32]) (fun o hm=>?_) fun out32=>Pq fun ob3 cap3 hm=> ?_
 ·refine Bl (fun zn (zs:List T_api_Bound × Int)=>ref10_Others.l1 bs name zn zs.1 zs.2) (fun zs (zg:Option Nat × Nat)=>[(0,L49 bs),(1,.str name),(5,Z49 zg.1 zs.1 zg.2),(6,Iw zs.2)]) (fun zs (zg:Option Nat × Nat)=>[Q49 zg.1 zg.2 zs.1]) (([] : List T_api_Bound),(0 : Int)) (none,0) (fun _=>R) hm (Bb (Bc 49) (Af [0] R R)) fun n=>Pq fun out2 i2=>Pq fun ob2 cap2 hm=> ?_
  rw [ref10_Others.l1] at hm
  exact Ae<|Ah<|Aa tbk [] 2 R R<|Ab R R (Av T_api_Bound.vv R Bk)<|Ab R R (A4 R R R)<|Ac<|Ak hm R (fun h5 hm=>Aj<|Ae<|Ay<|Ah<|Aa tbk [] 2 R R<|Bd hm fun x h6 hm=>Ab R R (Az T_api_Bound.vv R R el23 h6)<|Aa tbk [] 5 R R<|Ac<|Ak hm R (fun h7 hm=>Bq<|Aa tbk [] 3 R R<|Bd hm fun x2 h8 hm=>Ab R R (Az T_api_Bound.vv R R el23 h8)<|Ab R R (Bi R ld49 R)<|Ad R R<|A8 ap23 R R R R R fun b=>Bd hm fun out4 h10 hm=>Ad R R<|B3 1 T_api_Bound.vv (l:=out2) (l2:=[x2]) ap23 R R (sT_row 0 T_api_Bound.vv el23 R R) h10 fun ob4 cap4=>Ab R R (Ai R)<|Ac<|A2 tbk [] R R<|Ap (out4,(IntKind.i64.wrap (i2 + (1 : Int)))) (ob4,cap4) hm (Af [1] R R)) fun h7 hm=>Aj<|A2 tbk [] R R<|Ap (out2,(IntKind.i64.wrap (i2 + (1 : Int)))) (ob2,cap2) hm (Af [0] R R)) fun h5 hm=>A1<|As (ob2,cap2) hm (Af [0] R R)
 exact Ag tbk [] R R<|Rg2 hm R [0] ob3 cap3 (.cons (.tmp _ _ R) .nil) R R

/-! trireme/triremeref04.Add -/
def ref04_Add (a : T_api_Res) (b : T_api_Res) : Option (T_api_Res × Int) :=
 (ref04_Right a).bind fun r =>
 (if (!r) = true then some true else (ref04_Right b).bind fun r2 =>
 some (!r2)).bind fun c =>
 if c = true then
  some ((⟨0, 0, 0, 0, 0⟩ : T_api_Res), 1)
 else
  (ref04_Right (⟨(i64.wrap (a.Cpu + b.Cpu)), (i64.wrap (a.Mem + b.Mem)), (i64.wrap (a.Disk + b.Disk)), (i64.wrap (a.Pods + b.Pods)), (i64.wrap (a.Dev + b.Dev))⟩ : T_api_Res)).bind fun r3 =>
  if (!r3) = true then
   some ((⟨0, 0, 0, 0, 0⟩ : T_api_Res), 10)
  else
   some ((⟨(i64.wrap (a.Cpu + b.Cpu)), (i64.wrap (a.Mem + b.Mem)), (i64.wrap (a.Disk + b.Disk)), (i64.wrap (a.Pods + b.Pods)), (i64.wrap (a.Dev + b.Dev))⟩ : T_api_Res), 0)
theorem K158 (a : T_api_Res) (b : T_api_Res) : VS Tryz.prog 186 (ref04_Add a b) [T_api_Res.vv a, T_api_Res.vv b] [] (fun r=>.tup [T_api_Res.vv r.1, Iw r.2]) N0 := by
 refine A3 [.cell 4 41,.tmp 5] Tryz.func186 R R R fun r hm=>?_
 unfold ref04_Add at hm
 exact Ah<|Ad R R<|Ba R R fun b2=>Ad R R<|Ba R R fun b3=>Ad R R<|A0 z41 fun b4=>Ab R R (Ai R)<|Ac<|Ae<|Ah<|Aa tbk [2] 1 R R<|Ad R R<|Am hm 0 R fn111 R (K42 _) fun r hm=>Aa tbk [] 2 R R<|Be hm 4 14 10 R (fun _ K' h5 J hm=>Aa tbk [] 4 R R<|J 3 R R (Bj hm)) (fun _ K' h5 J hm=>Aa tbk [1] 1 R R<|A7 R R R R R<|Am hm 0 R fn111 R (K42 _) fun r2 hm=>Aa tbk [] 2 R R<|J 3 R R (Bj hm)) fun c hm=>Ac<|Ak hm R (fun h8 hm=>Ah<|Ab R R (Bt pl41 R R)<|Ad R R<|An (i:=0) R R R ld41 R R R<|Ab R R (Ai R)<|Ac<|Rt0 hm R [] (.cons (.cell _ _ _ _ 0 _ _ _ _ R R ld41 R) (.cons (.tmp _ _ R) .nil)) R R) fun h8 hm=>Aj<|Ah<|Aa tbk [2,1,2,1,2,1,2,1,2,1] 25 R R<|Ab R R (Bt pl41 R R)<|Ad R R<|A0 z41 fun b5=>Ad R R<|An (i:=0) R R R ld41 R R R<|Ac<|Ae<|Ah<|Aa tbk [0] 1 R R<|Ad R R<|Am hm 0 R fn111 R (K42 _) fun r3 hm=>Ab R R (Co R)<|Ac<|Ak hm R (fun h11 hm=>Ah<|Ab R R (Bt pl41 R R)<|Ad R R<|An (i:=1) R R R ld41 R R R<|Ab R R (Ai R)<|Ac<|Rt0 hm R [] (.cons (.cell _ _ _ _ 1 _ _ _ _ R R ld41 R) (.cons (.tmp _ _ R) .nil)) R R) fun h11 hm=>Aj<|Ah<|Aa tbk [0] 1 R R<|Ad R R<|An (i:=1) R R R ld41 R R R<|Ab R R (Ai R)<|Ac<|Rt0 hm R [] (.cons (.cell _ _ _ _ 1 _ _ _ _ R R ld41 R) (.cons (.tmp _ _ R) .nil)) R R

/-! trireme/triremeref09.Used -/
def ref09_Used.l1 (r : List T_api_Pod) : Nat → Int → Option (Out (T_api_Res × Int) Unit)
 | 0, _ => none
 | n + 1, i2 =>
  if (decide (i2 < (r.length : Int))) = true then
   (V.gl r i2).bind fun x =>
   (ref04_Right x.Need).bind fun r2 =>
   if (!r2) = true then
    some (Out.ret ((⟨0, 0, 0, 0, 0⟩ : T_api_Res), 12))
   else
    ref09_Used.l1 r n (i64.wrap (i2 + 1))
  else
   some (Out.go ())
def ref09_Used.l2 (r : List T_api_Pod) : Nat → T_api_Res → Int → Option (Out (T_api_Res × Int) T_api_Res)
 | 0, _, _ => none
 | n2 + 1, sum2, i4 =>
  if (decide (i4 < (r.length : Int))) = true then
   (V.gl r i4).bind fun x2 =>
   (ref04_Add sum2 x2.Need).bind fun r3 =>
   if (r3.2 != 0) = true then
    some (Out.ret ((⟨0, 0, 0, 0, 0⟩ : T_api_Res), r3.2))
   else
    ref09_Used.l2 r n2 r3.1 (i64.wrap (i4 + 1))
  else
   some (Out.go sum2)
def ref09_Used (bs : List T_api_Bound) (name : ByteArray) : Option (T_api_Res × Int) :=
 (ref09_On bs name).bind fun r =>
 (ref09_Used.l1 r FU (0 : Int)).bind fun o =>
 o.on fun j =>
 (ref09_Used.l2 r FU (⟨0, 0, 0, 0, 0⟩ : T_api_Res) (0 : Int)).bind fun o2 =>
 o2.on fun sum32 =>
 some (sum32, 0)
theorem K159 (bs : List T_api_Bound) (name : ByteArray) : VS Tryz.prog 146 (ref09_Used bs name) [L49 bs, .str name] [] (fun r=>.tup [T_api_Res.vv r.1, Iw r.2]) N0 := by
 refine A3 [.cell 4 41,.tmp 5] Tryz.func146 R R R fun r hm=>?_
 unfold ref09_Used at hm
 refine Ah<|Ad R R<|A0 z41 fun b=>Ab R R (Ai R)<|Ac<|Ah<|Aa tbk [] 2 R R<|Ad R R<|Bz hm 0 R fn62 R (K146 _ _) fun r ob cap hm=>Bh (Aw 0 [(14,L47 r)] R ⟨⟨_,R,.here _ R⟩,trivial⟩ (FzH.refl _))<|Ab R R (Ai R)<|Ac<|Ae<|Ag tbk [] R R<|Bn hm (fun _ (_:Unit)=>[(4,.ptr b 0),(6,L47 r)]) (fun _ (_:Unit)=>[X41 b (⟨(0 : Int),(0 : Int),(0 : Int),(0 : Int),(0 : Int)⟩ : T_api_Res)]) (fun o hm h5=>?_) fun j _ hm=> ?_
 ·refine Bl (fun zn (zs:Int)=>ref09_Used.l1 r zn zs) (fun zs (_:Unit)=>[(4,.ptr b 0),(6,L47 r),(7,Iw zs)]) (fun _ (_:Unit)=>[X41 b (⟨(0 : Int),(0 : Int),(0 : Int),(0 : Int),(0 : Int)⟩ : T_api_Res)]) _ () (fun _=>R) hm (Af [0] R R) fun n i2 _ hm=> ?_
  rw [ref09_Used.l1] at hm
  exact Ae<|Ah<|Aa tbk [] 2 R R<|Ab R R (Av T_api_Pod.vv R Bv)<|Ab R R (A4 R R R)<|Ac<|Ak hm R (fun h6 hm=>Aj<|Ae<|Ay<|Ah<|Aa tbk [] 2 R R<|Bd hm fun x h7 hm=>Ab R R (Az T_api_Pod.vv R R el55 h7)<|Aa tbk [] 2 R R<|Ad R R<|Am hm 0 R fn111 R (K42 _) fun r2 hm=>Ab R R (Co R)<|Ac<|Ak hm R (fun h9 hm=>Ah<|Ab R R (Bt pl41 R R)<|Ad R R<|An (i:=0) R R R ld41 R R R<|Ab R R (Ai R)<|Ac<|have hm:=Lr hm h5;Rt0 hm R [] (.cons (.cell _ _ _ _ 0 _ _ _ _ R R ld41 R) (.cons (.tmp _ _ R) .nil)) R R) fun h9 hm=>Aj<|A2 tbk [] R R<|Ap _ () hm (Af [0] R R)) fun h6 hm=>A1<|Ar () hm (Af [0] R R)
 refine Ah<|Ab R R (Bt pl41 R R)<|Ad R R<|A0 z41 fun b2=>Ad R R<|An (i:=0) R R R ld41 R R R<|Ac<|Ae<|Ag tbk [] R R<|Bn hm (fun _ (_:Unit)=>[(4,.ptr b 0),(8,.ptr b2 0)]) (fun sum32 (_:Unit)=>[X41 b2 sum32,X41 b (⟨(0 : Int),(0 : Int),(0 : Int),(0 : Int),(0 : Int)⟩ : T_api_Res)]) (fun o2 hm h12=>?_) fun sum32 _ hm=> ?_
 ·refine Bl (fun zn (zs:T_api_Res × Int)=>ref09_Used.l2 r zn zs.1 zs.2) (fun zs (_:Unit)=>[(4,.ptr b 0),(6,L47 r),(8,.ptr b2 0),(9,Iw zs.2)]) (fun zs (_:Unit)=>[X41 b2 zs.1,X41 b (⟨(0 : Int),(0 : Int),(0 : Int),(0 : Int),(0 : Int)⟩ : T_api_Res)]) ((⟨(0 : Int),(0 : Int),(0 : Int),(0 : Int),(0 : Int)⟩ : T_api_Res),(0 : Int)) () (fun _=>R) hm (Af [0,0] R R) fun n2=>Pq fun sum2 i4 _ hm=> ?_
  rw [ref09_Used.l2] at hm
  refine Ae<|Ah<|Aa tbk [] 2 R R<|Ab R R (Av T_api_Pod.vv R Bv)<|Ab R R (A4 R R R)<|Ac<|Ak hm R (fun h13 hm=>?_) fun h13 hm=> ?_
  ·refine Aj<|Ae<|Ay<|Ae<|A9 0 mixed<|Aq tbk [0,1,2] [0] (by kernel_rfl) R R R<|Bd hm fun x2 h14 hm=>Ax 3 R R R (by kernel_rfl) (Az T_api_Pod.vv R R el55 h14)<|Aq tbk [4,5] [] (by kernel_rfl) R R R<|?_
   refine B4 [6,10] (by kernel_rfl) ⟨?_,?_,trivial⟩
   ·exact Au R R R<|Am hm 0 R fn186 R (K158 _ _) fun r3 hm=>Aq tbk [7,8,9] [] (by kernel_rfl) R R R<|Ao 10 (by kernel_rfl)<|Au R R R<|A0 z41 fun b3=>Ao 11 (by kernel_rfl)<|Au R R R<|An (i:=0) R R R ld41 R R R<|Ax 12 R R R (by kernel_rfl) (Ai R)<|A5 (by kernel_rfl)<|Ae<|Ag tbk [] R R<|Ak hm R (fun h17 hm=>Ah<|Ab R R (Bt pl41 R R)<|Ab R R (Al R)<|Ad R R<|An (i:=2) R R R ld41 R R R<|Ab R R (Ai R)<|Ac<|have hm:=Lr hm h12;Rt0 hm R [] (.cons (.cell _ _ _ _ 2 _ _ _ _ R R ld41 R) (.cons (.tmp _ _ R) .nil)) R R) fun h17 hm=>Aj<|Bq<|Aa tbk [0] 1 R R<|Ad R R<|An (i:=1) R R R ld41 R R R<|Ac<|A2 tbk [] R R<|Ap (r3.1,(IntKind.i64.wrap (i4 + (1 : Int)))) () hm (Af [1,1] R R)
   ·exact Au R R R<|A0 z41 fun b4=>Ao 6 (by kernel_rfl)<|Au R R R<|Am hm 0 R fn186 R (K158 _ _) fun r4 hm=>Aq tbk [7,8,9] [] (by kernel_rfl) R R R<|Ao 11 (by kernel_rfl)<|Au R R R<|An (i:=0) R R R ld41 R R R<|Ax 12 R R R (by kernel_rfl) (Ai R)<|A5 (by kernel_rfl)<|Ae<|Ag tbk [] R R<|Ak hm R (fun h20 hm=>Ah<|Ab R R (Bt pl41 R R)<|Ab R R (Al R)<|Ad R R<|An (i:=2) R R R ld41 R R R<|Ab R R (Ai R)<|Ac<|have hm:=Lr hm h12;Rt0 hm R [] (.cons (.cell _ _ _ _ 2 _ _ _ _ R R ld41 R) (.cons (.tmp _ _ R) .nil)) R R) fun h20 hm=>Aj<|Bq<|Aa tbk [0] 1 R R<|Ad R R<|An (i:=1) R R R ld41 R R R<|Ac<|A2 tbk [] R R<|Ap (r4.1,(IntKind.i64.wrap (i4 + (1 : Int)))) () hm (Af [1,1] R R)
  exact A1<|Ar () hm (Af [0,0] R R)
 exact Ah<|Aa tbk [0] 1 R R<|Ad R R<|An (i:=1) R R R ld41 R R R<|Ab R R (Ai R)<|Ac<|Rt0 hm R [] (.cons (.cell _ _ _ _ 1 _ _ _ _ R R ld41 R) (.cons (.tmp _ _ R) .nil)) R R

/-! trireme/triremeref09.Left -/
def ref09_Left (m : T_api_Machine) (bs : List T_api_Bound) : Option T_api_Res :=
 (ref09_Used bs m.Name).bind fun r =>
 (if (r.2 != 0) = true then some true else (ref04_Right m.Has).bind fun r2 =>
 some (!r2)).bind fun c =>
 if c = true then
  some (⟨0, 0, 0, 0, 0⟩ : T_api_Res)
 else
  some (⟨(max 0 (i64.wrap (m.Has.Cpu - r.1.Cpu))), (max 0 (i64.wrap (m.Has.Mem - r.1.Mem))), (max 0 (i64.wrap (m.Has.Disk - r.1.Disk))), (max 0 (i64.wrap (m.Has.Pods - r.1.Pods))), (max 0 (i64.wrap (m.Has.Dev - r.1.Dev)))⟩ : T_api_Res)
theorem K160 (m : T_api_Machine) (bs : List T_api_Bound) : VS Tryz.prog 195 (ref09_Left m bs) [T_api_Machine.vv m, L49 bs] [] (fun r=>T_api_Res.vv r) N0 := by
 refine A3 [.cell 4 41] Tryz.func195 R R R fun r hm=>?_
 unfold ref09_Left at hm
 exact Ah<|Ad R R<|Ba R R fun b=>Ad R R<|A0 z41 fun b2=>Ac<|Ah<|Aa tbk [1] 3 R R<|Ad R R<|Am hm 0 R fn146 R (K159 _ _) fun r hm=>Aa tbk [] 3 R R<|Ad R R<|A0 z41 fun b3=>Ad R R<|An (i:=0) R R R ld41 R R R<|Ab R R (Ai R)<|Ac<|Ae<|Ah<|Aa tbk [] 3 R R<|Be hm 5 22 17 R (fun _ K' h5 J hm=>Aa tbk [] 5 R R<|J 4 R R (Bj hm)) (fun _ K' h5 J hm=>Aa tbk [2] 2 R R<|A7 R R R R R<|Am hm 0 R fn111 R (K42 _) fun r2 hm=>Aa tbk [] 2 R R<|J 4 R R (Bj hm)) fun c hm=>Ac<|Ak hm R (fun h8 hm=>Ah<|Ab R R (Bt pl41 R R)<|Ad R R<|An (i:=1) R R R ld41 R R R<|Ac<|Rt0 hm R [] (.cons (.cell _ _ _ _ 1 _ _ _ _ R R ld41 R) .nil) R R) fun h8 hm=>Aj<|Ah<|Aa tbk [2] 2 R R<|Ad R R<|A0 z41 fun b4=>Ad R R<|An (i:=0) R R R ld41 R R R<|Ac<|Ah<|Aa tbk [0,1] 5 R R<|Ab R R (C9 R R)<|Aa tbk [0,1] 5 R R<|Ab R R (C9 R R)<|Aa tbk [0,1] 5 R R<|Ab R R (C9 R R)<|Aa tbk [0,1] 5 R R<|Ab R R (C9 R R)<|Aa tbk [0,1] 5 R R<|Ab R R (C9 R R)<|Ab R R (Bt pl41 R R)<|Ad R R<|An (i:=2) R R R ld41 R R R<|Ac<|Rt0 hm R [] (.cons (.cell _ _ _ _ 2 _ _ _ _ R R ld41 R) .nil) R R

/-! trireme/triremeref04.Fits -/
def ref04_Fits (a : T_api_Res) (b : T_api_Res) : Option Bool :=
 (ref04_Right a).bind fun r =>
 (if r = true then (ref04_Right b).bind fun r2 =>
 some r2 else some false).bind fun c =>
 some (((((c && (decide (a.Cpu ≤ b.Cpu))) && (decide (a.Mem ≤ b.Mem))) && (decide (a.Disk ≤ b.Disk))) && (decide (a.Pods ≤ b.Pods))) && (decide (a.Dev ≤ b.Dev)))
theorem K161 (a : T_api_Res) (b : T_api_Res) : VS Tryz.prog 194 (ref04_Fits a b) [T_api_Res.vv a, T_api_Res.vv b] [] .bool N0 := by
 refine A3 [.tmp 4] Tryz.func194 R R R fun r hm=>?_
 unfold ref04_Fits at hm
 exact Ah<|Ad R R<|Ba R R fun b2=>Ad R R<|Ba R R fun b3=>Ab R R (Ai R)<|Ac<|Ah<|Aa tbk [1] 1 R R<|Ad R R<|Am hm 0 R fn111 R (K42 _) fun r hm=>Ab R R (Al R)<|Be hm 3 10 7 R (fun _ K' h4 J hm=>Aa tbk [0] 1 R R<|A7 R R R R R<|Am hm 0 R fn111 R (K42 _) fun r2 hm=>Ab R R (Bf true R R R)<|J 2 R R (Bj hm)) (fun _ K' h4 J hm=>Aa tbk [] 3 R R<|J 2 R R (Bj hm)) fun c hm=>Ab R R (Al R)<|Bx tbk [1,0] 6 17 11 R R R R R<|Ab R R (Al R)<|Bx tbk [1,0] 6 24 18 R R R R R<|Ab R R (Al R)<|Bx tbk [1,0] 6 31 25 R R R R R<|Ab R R (Al R)<|Bx tbk [1,0] 6 38 32 R R R R R<|Ab R R (Al R)<|Bx tbk [1,0] 6 45 39 R R R R R<|Ab R R (Ai R)<|Ac<|Rt1 hm R [] R R R

/-! trireme/triremeref10.Room -/
def ref10_Room.l3 (p : T_api_Pod) (r4 : List T_api_Pod) (i2 : Int) (k2 : Int) : Nat → Int → Option (Out (Out (Out Int Unit) Unit) Unit)
 | 0, _ => none
 | n3 + 1, j4 =>
  if (decide (j4 < (p.Ports.length : Int))) = true then
   (V.gl r4 i2).bind fun x2 =>
   (V.gl x2.Ports k2).bind fun x3 =>
   (V.gl p.Ports j4).bind fun x4 =>
   if (x3 == x4) = true then
    some (Out.ret (Out.ret (Out.ret 3)))
   else
    ref10_Room.l3 p r4 i2 k2 n3 (i64.wrap (j4 + 1))
  else
   some (Out.go ())
def ref10_Room.l2 (p : T_api_Pod) (r4 : List T_api_Pod) (i2 : Int) : Nat → Int → Option (Out (Out Int Unit) Unit)
 | 0, _ => none
 | n2 + 1, k2 =>
  (V.gl r4 i2).bind fun x =>
  if (decide (k2 < (x.Ports.length : Int))) = true then
   (ref10_Room.l3 p r4 i2 k2 FU (0 : Int)).bind fun o3 =>
   o3.on fun j5 =>
   ref10_Room.l2 p r4 i2 n2 (i64.wrap (k2 + 1))
  else
   some (Out.go ())
def ref10_Room.l1 (p : T_api_Pod) (r4 : List T_api_Pod) : Nat → Int → Option (Out Int Unit)
 | 0, _ => none
 | n + 1, i2 =>
  if (decide (i2 < (r4.length : Int))) = true then
   (ref10_Room.l2 p r4 i2 FU (0 : Int)).bind fun o2 =>
   o2.on fun j2 =>
   ref10_Room.l1 p r4 n (i64.wrap (i2 + 1))
  else
   some (Out.go ())
def ref10_Room (m : T_api_Machine) (bs : List T_api_Bound) (p : T_api_Pod) : Option Int :=
 (ref10_Others bs p.Name).bind fun r =>
 (ref09_Left m r).bind fun r2 =>
 (ref04_Fits p.Need r2).bind fun r3 =>
 if (!r3) = true then
  some 2
 else
  (ref09_On r m.Name).bind fun r4 =>
  (ref10_Room.l1 p r4 FU (0 : Int)).bind fun o =>
  o.on fun j =>
  some 0
theorem K162 (m : T_api_Machine) (bs : List T_api_Bound) (p : T_api_Pod) : VS Tryz.prog 166 (ref10_Room m bs p) [T_api_Machine.vv m, L49 bs, T_api_Pod.vv p] [] Iw N0 := by
 refine A3 [.tmp 6] Tryz.func166 R R R fun r hm=>?_
 unfold ref10_Room at hm
 refine Ah<|Ad R R<|Ba R R fun b=>Ad R R<|Ba R R fun b2=>Ab R R (Ai R)<|Ac<|Ah<|Aa tbk [0] 3 R R<|Ad R R<|Bz hm 0 R fn147 R (K157 _ _) fun r ob cap hm=>Bh (Aw 0 [(15,L49 r)] R ⟨⟨_,R,.here _ R⟩,trivial⟩ (FzH.refl _))<|Ab R R (Ai R)<|Ac<|Ae<|Ae<|A9 0 mixed<|Aq tbk [0,1,2,3] [0,1] (by kernel_rfl) R R R<|Ao 4 (by kernel_rfl)<|Au R R R<|Am hm 0 R fn195 R (K160 _ _) fun r2 hm=>Ao 5 (by kernel_rfl)<|Au R R R<|Am hm 0 R fn194 R (K161 _ _) fun r3 hm=>Ax 6 R R R (by kernel_rfl) (Co R)<|A5 (by kernel_rfl)<|Ak hm R (fun h7 hm=>Ag tbk [] R R<|Rt1 hm R [] R R R) fun h7 hm=>Aj<|Ah<|Aa tbk [1] 3 R R<|Ad R R<|Bz hm 0 R fn62 R (K146 _ _) fun r4 ob2 cap2 hm=>Bh (Aw 0 [(26,L47 r4)] R ⟨⟨_,R,.here _ R⟩,trivial⟩ (FzH.refl _))<|Ab R R (Ai R)<|Ac<|Ae<|Ag tbk [] R R<|Bn hm (fun _ (_:Unit)=>[]) (fun _ (_:Unit)=>[]) (fun o hm h11=>?_) fun j _ hm=> ?_
 ·refine Bl (fun zn (zs:Int)=>ref10_Room.l1 p r4 zn zs) (fun zs (_:Unit)=>[(5,.ptr b2 0),(8,L47 r4),(9,Iw zs)]) (fun _ (_:Unit)=>[X47 b2 p]) _ () (fun _=>R) hm (Af [0] R R) fun n i2 _ hm=> ?_
  rw [ref10_Room.l1] at hm
  refine Ae<|Ah<|Aa tbk [] 2 R R<|Ab R R (Av T_api_Pod.vv R Bv)<|Ab R R (A4 R R R)<|Ac<|Ak hm R (fun h12 hm=>?_) fun h12 hm=> ?_
  ·refine Aj<|Ae<|Ay<|Ag tbk [] R R<|Bn hm (fun _ (_:Unit)=>[(5,.ptr b2 0),(8,L47 r4),(9,Iw i2)]) (fun _ (_:Unit)=>[X47 b2 p]) (fun o2 hm h14=>?_) fun j2 _ hm=> ?_
   ·refine Bl (fun zn (zs:Int)=>ref10_Room.l2 p r4 i2 zn zs) (fun zs (_:Unit)=>[(5,.ptr b2 0),(8,L47 r4),(9,Iw i2),(10,Iw zs)]) (fun _ (_:Unit)=>[X47 b2 p]) _ () (fun _=>R) hm (Af [0] R R) fun n2 k2 _ hm=> ?_
    rw [ref10_Room.l2] at hm
    refine Ae<|Ah<|Aa tbk [] 3 R R<|Bd hm fun x h15 hm=>Ab R R (Az T_api_Pod.vv R R el55 h15)<|Aa tbk [] 2 R R<|Ab R R (Av (VV.int .i64) R Ck)<|Ab R R (A4 R R R)<|Ac<|Ak hm R (fun h16 hm=>?_) fun h16 hm=> ?_
    ·refine Aj<|Ae<|Ay<|Ag tbk [] R R<|Bn hm (fun _ (_:Unit)=>[(5,.ptr b2 0),(8,L47 r4),(9,Iw i2),(10,Iw k2)]) (fun _ (_:Unit)=>[X47 b2 p]) (fun o3 hm h18=>?_) fun j5 _ hm=> ?_
     ·refine Bl (fun zn (zs:Int)=>ref10_Room.l3 p r4 i2 k2 zn zs) (fun zs (_:Unit)=>[(5,.ptr b2 0),(8,L47 r4),(9,Iw i2),(10,Iw k2),(11,Iw zs)]) (fun _ (_:Unit)=>[X47 b2 p]) _ () (fun _=>R) hm (Af [0] R R) fun n3 j4 _ hm=> ?_
      rw [ref10_Room.l3] at hm
      exact Ae<|Ah<|Aa tbk [0] 3 R R<|Ab R R (Av (VV.int .i64) R Ck)<|Ab R R (A4 R R R)<|Ac<|Ak hm R (fun h19 hm=>Aj<|Ae<|Ay<|Ae<|A9 0 mixed<|Aq tbk [0,1] [] (by kernel_rfl) R R R<|Bd hm fun x2 h20 hm=>Ax 2 R R R (by kernel_rfl) (Az T_api_Pod.vv R R el55 h20)<|Aq tbk [3,4,5] [] (by kernel_rfl) R R R<|Bd hm fun x3 h21 hm=>Ax 6 R R R (by kernel_rfl) (Az (VV.int .i64) R R el45 h21)<|Aq tbk [7,8,9,10] [0] (by kernel_rfl) R R R<|Bd hm fun x4 h22 hm=>Ax 11 R R R (by kernel_rfl) (Az (VV.int .i64) R R el45 h22)<|Aq tbk [12,13] [] (by kernel_rfl) R R R<|A5 (by kernel_rfl)<|Ak hm R (fun h23 hm=>Ag tbk [] R R<|have hm:=Lr hm h18;have hm:=Lr hm h14;have hm:=Lr hm h11;Rt1 hm R [] R R R) fun h23 hm=>Aj<|A2 tbk [] R R<|Ap _ () hm (Af [0] R R)) fun h19 hm=>A1<|Ar () hm (Af [0] R R)
     exact A2 tbk [] R R<|Ap _ () hm (Af [0] R R)
    exact A1<|Ar () hm (Af [0] R R)
   exact A2 tbk [] R R<|Ap _ () hm (Af [0] R R)
  exact A1<|Ar () hm (Af [] R R)
 exact Ag tbk [] R R<|Rt1 hm R [] R R R

/-! trireme/triremeref10.Suits -/
def ref10_Suits (m : T_api_Machine) (bs : List T_api_Bound) (p : T_api_Pod) : Option Int :=
 (ref10_Place m p).bind fun r =>
 if (r != 0) = true then
  some r
 else
  (ref10_Room m bs p).bind fun r2 =>
  some r2
theorem K163 (m : T_api_Machine) (bs : List T_api_Bound) (p : T_api_Pod) : VS Tryz.prog 117 (ref10_Suits m bs p) [T_api_Machine.vv m, L49 bs, T_api_Pod.vv p] [] Iw N0 := by
 refine A3 [.tmp 6] Tryz.func117 R R R fun r hm=>?_
 unfold ref10_Suits at hm
 exact Ah<|Ad R R<|Ba R R fun b=>Ad R R<|Ba R R fun b2=>Ab R R (Ai R)<|Ac<|Ah<|Aa tbk [1,0] 2 R R<|Ad R R<|Am hm 0 R fn165 R (K156 _ _) fun r hm=>Ab R R (Ai R)<|Ac<|Ae<|Ag tbk [] R R<|Ak hm R (fun h4 hm=>Ag tbk [] R R<|Rt1 hm R [] R R R) fun h4 hm=>Aj<|Ah<|Aa tbk [1,0] 3 R R<|Ad R R<|Am hm 0 R fn166 R (K162 _ _ _) fun r2 hm=>Ab R R (Ai R)<|Ac<|Rt1 hm R [] R R R

/-! trireme/triremeref11.zone -/
def ref11_zone (ms : List T_api_Machine) (name : ByteArray) : Option (ByteArray × Bool) :=
 (ref09_Find ms name).bind fun r =>
 if (decide (r < 0)) = true then
  some ((⟨#[]⟩ : ByteArray), false)
 else
  (V.gl ms r).bind fun x =>
  (ref05_Get x.Labels (⟨#[122, 111, 110, 101]⟩ : ByteArray)).bind fun r2 =>
  some (r2.1, r2.2)
theorem K164 (ms : List T_api_Machine) (name : ByteArray) : VS Tryz.prog 197 (ref11_zone ms name) [L61 ms, .str name] [] (fun r=>.tup [.str r.1, .bool r.2]) N0 := by
 refine A3 [.tmp 4,.tmp 5] Tryz.func197 R R R fun r hm=>?_
 unfold ref11_zone at hm
 exact Ag tbk [] R R<|Ah<|Aa tbk [] 2 R R<|Ad R R<|Am hm 0 R fn23 R (K58 _ _) fun r hm=>Ab R R (Ai R)<|Ac<|Ae<|Ag tbk [] R R<|Ak hm R (fun h2 hm=>Ag tbk [] R R<|Rt2 hm R [] R R R R) fun h2 hm=>Aj<|Ah<|Aa tbk [] 2 R R<|Bd hm fun x h3 hm=>Ab R R (Az T_api_Machine.vv R R el22 h3)<|Aa tbk [] 2 R R<|Ad R R<|Am hm 0 R fn116 R (K148 _ _) fun r2 hm=>Aa tbk [] 4 R R<|Ac<|Rt2 hm R [] R R R R

/-! trireme/triremeref11.together -/
def ref11_together (ms : List T_api_Machine) (a : ByteArray) (b : ByteArray) (wide : Bool) : Option Bool :=
 if (V.seq a b) = true then
  some true
 else
  (ref11_zone ms a).bind fun r =>
  (ref11_zone ms b).bind fun r2 =>
  some (((wide && r.2) && r2.2) && (V.seq r.1 r2.1))
theorem K165 (ms : List T_api_Machine) (a : ByteArray) (b : ByteArray) (wide : Bool) : VS Tryz.prog 196 (ref11_together ms a b wide) [L61 ms, .str a, .str b, .bool wide] [] .bool N0 := by
 refine A3 [.tmp 8] Tryz.func196 R R R fun r hm=>?_
 unfold ref11_together at hm
 exact Ag tbk [] R R<|Ae<|Ag tbk [] R R<|Ak hm R (fun h1 hm=>Ag tbk [] R R<|Rt1 hm R [] R R R) fun h1 hm=>Aj<|Ah<|Aa tbk [] 2 R R<|Ad R R<|Am hm 0 R fn197 R (K164 _ _) fun r hm=>Aa tbk [] 5 R R<|Ac<|Ah<|Aa tbk [] 2 R R<|Ad R R<|Am hm 0 R fn197 R (K164 _ _) fun r2 hm=>Aa tbk [] 5 R R<|Ac<|Ah<|Aa tbk [] 2 R R<|Bx tbk [] 2 31 29 R R R R R<|Ab R R (Al R)<|Bx tbk [] 2 34 32 R R R R R<|Ab R R (Al R)<|Bx tbk [] 4 39 35 R R R R R<|Ab R R (Ai R)<|Ac<|Rt1 hm R [] R R R

/-! trireme/triremeref11.Near -/
def ref11_Near.l1 (ms : List T_api_Machine) (bs : List T_api_Bound) (p : T_api_Pod) (on_ : ByteArray) : Nat → Int → Option (Out Bool Unit)
 | 0, _ => none
 | n + 1, i2 =>
  if (decide (i2 < (bs.length : Int))) = true then
   (V.gl bs i2).bind fun x =>
   (if (V.seq x.Pod.Name p.Name) = true then some true else (V.gl bs i2).bind fun x2 =>
   some (V.seq x2.On (⟨#[]⟩ : ByteArray))).bind fun c =>
   if c = true then
    ref11_Near.l1 ms bs p on_ n (i64.wrap (i2 + 1))
   else
    (if (decide ((p.Apart.length : Int) > 0)) = true then (ref05_Has x.Pod.Labels p.Apart).bind fun r2 =>
    some r2 else some false).bind fun c2 =>
    (if c2 = true then (V.gl bs i2).bind fun x3 =>
    (ref11_together ms on_ x3.On p.Wide).bind fun r3 =>
    some r3 else some false).bind fun c3 =>
    if c3 = true then
     some (Out.ret true)
    else
     (if (decide ((x.Pod.Apart.length : Int) > 0)) = true then (ref05_Has p.Labels x.Pod.Apart).bind fun r4 =>
     some r4 else some false).bind fun c4 =>
     (if c4 = true then (V.gl bs i2).bind fun x4 =>
     (ref11_together ms on_ x4.On x.Pod.Wide).bind fun r5 =>
     some r5 else some false).bind fun c5 =>
     if c5 = true then
      some (Out.ret true)
     else
      ref11_Near.l1 ms bs p on_ n (i64.wrap (i2 + 1))
  else
   some (Out.go ())
def ref11_Near (ms : List T_api_Machine) (bs : List T_api_Bound) (p : T_api_Pod) (on_ : ByteArray) : Option Bool :=
 (ref09_Find ms on_).bind fun r =>
 if (decide (r < 0)) = true then
  some false
 else
  (ref11_Near.l1 ms bs p on_ FU (0 : Int)).bind fun o =>
  o.on fun j =>
  some false
theorem K166 (ms : List T_api_Machine) (bs : List T_api_Bound) (p : T_api_Pod) (on_ : ByteArray) : VS Tryz.prog 167 (ref11_Near ms bs p on_) [L61 ms, L49 bs, T_api_Pod.vv p, .str on_] [] .bool N0 := by
 refine A3 [.tmp 8] Tryz.func167 R R R fun r hm=>?_
 unfold ref11_Near at hm
 refine Ah<|Ad R R<|Ba R R fun b=>Ab R R (Ai R)<|Ac<|Ae<|Ah<|Aa tbk [] 2 R R<|Ad R R<|Am hm 0 R fn23 R (K58 _ _) fun r hm=>Ab R R (A4 R R R)<|Ac<|Ak hm R (fun h3 hm=>Ag tbk [] R R<|Rt1 hm R [] R R R) fun h3 hm=>Aj<|Ae<|Ag tbk [] R R<|Bn hm (fun _ (_:Unit)=>[]) (fun _ (_:Unit)=>[]) (fun o hm h5=>?_) fun j _ hm=> ?_
 ·refine Bl (fun zn (zs:Int)=>ref11_Near.l1 ms bs p on_ zn zs) (fun zs (_:Unit)=>[(0,L61 ms),(1,L49 bs),(3,.str on_),(6,.ptr b 0),(9,Iw zs)]) (fun _ (_:Unit)=>[X47 b p]) _ () (fun _=>R) hm (Af [0] R R) fun n i2 _ hm=> ?_
  rw [ref11_Near.l1] at hm
  refine Ae<|Ah<|Aa tbk [] 2 R R<|Ab R R (Av T_api_Bound.vv R Bk)<|Ab R R (A4 R R R)<|Ac<|Ak hm R (fun h6 hm=>?_) fun h6 hm=> ?_
  ·refine Aj<|Ae<|Ay<|Ah<|Aa tbk [] 2 R R<|Bd hm fun x h7 hm=>Ab R R (Az T_api_Bound.vv R R el23 h7)<|Aa tbk [] 2 R R<|Ad R R<|A0 z47 fun b2=>Ad R R<|An (i:=0) R R R ld47 R R R<|Ac<|Ae<|Ah<|Aa tbk [0,1] 6 R R<|Be hm 7 38 31 R (fun _ K' h9 J hm=>Aa tbk [] 7 R R<|J 6 R R (Bj hm)) (fun _ K' h9 J hm=>Aa tbk [] 2 R R<|Bd hm fun x2 h10 hm=>Bg R R R R R (Az T_api_Bound.vv R R el23 h10)<|Aa tbk [] 4 R R<|J 6 R R (Bj hm)) fun c hm=>Ac<|Ak hm R (fun h12 hm=>A1<|A2 tbk [] R R<|Ap _ () hm (Af [1] R R)) fun h12 hm=>Aj<|Ae<|Ae<|A9 0 mixed<|Aq tbk [0,1] [1] (by kernel_rfl) R R R<|Ax 2 R R R (by kernel_rfl) (Av T_api_Label.vv R Br)<|Aq tbk [3,4] [] (by kernel_rfl) R R R<|Cr hm [10,9,8,7,6,5,4,3,2,1,0] 49 43 R (fun _ K' h13 J hm=>Aq tbk [5,6,7,8] [0,1] (by kernel_rfl) R R R<|Ao 9 (by kernel_rfl)<|Cv R R R R R R<|Am hm 0 R fn63 R (K149 _ _) fun r2 hm=>Ax 10 R R R (by kernel_rfl) (Bf true R R R)<|J 5 R R (Bj hm)) (fun _ K' h13 J hm=>Aq tbk [5,6,7,8,9,10] [] (by kernel_rfl) R R R<|J 5 R R (Bj hm)) fun c2 hm=>Ax 11 R R R (by kernel_rfl) (Al R)<|Cr hm [22,21,20,19,18,17,16,15,14,13,12,11,10,9,8,7,6,5,4,3,2,1,0] 61 50 R (fun _ K' h16 J hm=>Aq tbk [12,13,14,15] [] (by kernel_rfl) R R R<|Bd hm fun x3 h17 hm=>Ce 16 R R R R R R (by kernel_rfl) (Az T_api_Bound.vv R R el23 h17)<|Aq tbk [17,18,19,20] [1] (by kernel_rfl) R R R<|Ao 21 (by kernel_rfl)<|Cv R R R R R R<|Am hm 0 R fn196 R (K165 _ _ _ _) fun r3 hm=>Ax 22 R R R (by kernel_rfl) (Bf true R R R)<|J 10 R R (Bj hm)) (fun _ K' h16 J hm=>Aq tbk [12,13,14,15,16,17,18,19,20,21,22] [] (by kernel_rfl) R R R<|J 10 R R (Bj hm)) fun c3 hm=>A5 (by kernel_rfl)<|Ak hm R (fun h20 hm=>Ag tbk [] R R<|have hm:=Lr hm h5;Rt1 hm R [] R R R) fun h20 hm=>Aj<|Ae<|A9 0 mixed<|Aq tbk [0,1] [0] (by kernel_rfl) R R R<|Ax 2 R R R (by kernel_rfl) (Av T_api_Label.vv R Br)<|Aq tbk [3,4] [] (by kernel_rfl) R R R<|Cr hm [10,9,8,7,6,5,4,3,2,1,0] 72 66 R (fun _ K' h21 J hm=>Aq tbk [5,6,7,8] [1,0] (by kernel_rfl) R R R<|Ao 9 (by kernel_rfl)<|Cv R R R R R R<|Am hm 0 R fn63 R (K149 _ _) fun r4 hm=>Ax 10 R R R (by kernel_rfl) (Bf true R R R)<|J 5 R R (Bj hm)) (fun _ K' h21 J hm=>Aq tbk [5,6,7,8,9,10] [] (by kernel_rfl) R R R<|J 5 R R (Bj hm)) fun c4 hm=>Ax 11 R R R (by kernel_rfl) (Al R)<|Cr hm [22,21,20,19,18,17,16,15,14,13,12,11,10,9,8,7,6,5,4,3,2,1,0] 84 73 R (fun _ K' h24 J hm=>Aq tbk [12,13,14,15] [] (by kernel_rfl) R R R<|Bd hm fun x4 h25 hm=>Ce 16 R R R R R R (by kernel_rfl) (Az T_api_Bound.vv R R el23 h25)<|Aq tbk [17,18,19,20] [0] (by kernel_rfl) R R R<|Ao 21 (by kernel_rfl)<|Cv R R R R R R<|Am hm 0 R fn196 R (K165 _ _ _ _) fun r5 hm=>Ax 22 R R R (by kernel_rfl) (Bf true R R R)<|J 10 R R (Bj hm)) (fun _ K' h24 J hm=>Aq tbk [12,13,14,15,16,17,18,19,20,21,22] [] (by kernel_rfl) R R R<|J 10 R R (Bj hm)) fun c5 hm=>A5 (by kernel_rfl)<|?_
   exact Ak hm R (fun h28 hm=>Ag tbk [] R R<|have hm:=Lr hm h5;Rt1 hm R [] R R R) fun h28 hm=>Aj<|A2 tbk [] R R<|Ap _ () hm (Af [1] R R)
  exact A1<|Ar () hm (Af [] R R)
 exact Ag tbk [] R R<|Rt1 hm R [] R R R

/-! trireme/triremeref09.Zones -/
def ref09_Zones.l2 (out2 : List ByteArray) (r : ByteArray × Bool) : Nat → Bool → Int → Option Bool
 | 0, _, _ => none
 | n2 + 1, is2, k2 =>
  if (decide (k2 < (out2.length : Int))) = true then
   (if is2 = true then (V.gl out2 k2).bind fun x2 =>
   some (!(V.seq x2 r.1)) else some false).bind fun c =>
   ref09_Zones.l2 out2 r n2 c (i64.wrap (k2 + 1))
  else
   some is2
def ref09_Zones.l1 (ms : List T_api_Machine) : Nat → (List ByteArray) → Int → Option (List ByteArray)
 | 0, _, _ => none
 | n + 1, out2, i2 =>
  if (decide (i2 < (ms.length : Int))) = true then
   (V.gl ms i2).bind fun x =>
   (ref05_Get x.Labels (⟨#[122, 111, 110, 101]⟩ : ByteArray)).bind fun r =>
   (ref09_Zones.l2 out2 r FU r.2 (0 : Int)).bind fun is32 =>
   (if is32 = true then (V.gl ms i2).bind fun x3 =>
   some x3.Ready else some false).bind fun c2 =>
   if c2 = true then
    (V.ap 16 out2 [r.1]).bind fun out4 =>
    ref09_Zones.l1 ms n out4 (i64.wrap (i2 + 1))
   else
    ref09_Zones.l1 ms n out2 (i64.wrap (i2 + 1))
  else
   some out2
def ref09_Zones (ms : List T_api_Machine) : Option (List ByteArray) :=
 (ref09_Zones.l1 ms FU ([] : List ByteArray) (0 : Int)).bind fun out32 =>
 some out32
theorem K167 (ms : List T_api_Machine) : VS2 Tryz.prog 216 (ref09_Zones ms) [L61 ms] [] (fun r ob0 cap0=>Z9 ob0 r cap0) (fun r ob0 cap0=>[Q9 ob0 cap0 r]) := by
 refine Cl [.tmp 2] Tryz.func216 R R R fun r hm=>?_
 unfold ref09_Zones at hm
 refine Ag tbk [] R R<|Ag tbk [] R R<|Ae<|Ag tbk [] R R<|Bw hm (fun out32 (gg:Option Nat × Nat)=>[(3,Z9 gg.1 out32 gg.2)]) (fun out32 (gg:Option Nat × Nat)=>[Q9 gg.1 gg.2 out32]) (fun o hm=>?_) fun out32=>Pq fun ob3 cap3 hm=> ?_
 ·refine Bl (fun zn (zs:List ByteArray × Int)=>ref09_Zones.l1 ms zn zs.1 zs.2) (fun zs (zg:Option Nat × Nat)=>[(0,L61 ms),(3,Z9 zg.1 zs.1 zg.2),(4,Iw zs.2)]) (fun zs (zg:Option Nat × Nat)=>[Q9 zg.1 zg.2 zs.1]) (([] : List ByteArray),(0 : Int)) (none,0) (fun _=>R) hm (Bb (Bc 9) (Af [0] R R)) fun n=>Pq fun out2 i2=>Pq fun ob2 cap2 hm=> ?_
  rw [ref09_Zones.l1] at hm
  refine Ae<|Ah<|Aa tbk [] 2 R R<|Ab R R (Av T_api_Machine.vv R Bu)<|Ab R R (A4 R R R)<|Ac<|Ak hm R (fun h5 hm=>?_) fun h5 hm=> ?_
  ·refine Aj<|Ae<|Ay<|Ah<|Aa tbk [] 2 R R<|Bd hm fun x h6 hm=>Ab R R (Az T_api_Machine.vv R R el22 h6)<|Aa tbk [] 2 R R<|Ad R R<|Am hm 0 R fn116 R (K148 _ _) fun r hm=>Aa tbk [] 5 R R<|Ac<|Ae<|Ag tbk [] R R<|Bw hm (fun is32 (_:Unit)=>[(0,L61 ms),(3,Z9 ob2 out2 cap2),(4,Iw i2),(5,.str r.1),(6,.bool is32)]) (fun _ (_:Unit)=>[Q9 ob2 cap2 out2]) (fun o2 hm=>?_) fun is32 _ hm=> ?_
   ·refine Bl (fun zn (zs:Bool × Int)=>ref09_Zones.l2 out2 r zn zs.1 zs.2) (fun zs (_:Unit)=>[(0,L61 ms),(3,Z9 ob2 out2 cap2),(4,Iw i2),(5,.str r.1),(6,.bool zs.1),(7,Iw zs.2)]) (fun _ (_:Unit)=>[Q9 ob2 cap2 out2]) (r.2,(0 : Int)) () (fun _=>R) hm (Af [0] R R) fun n2=>Pq fun is2 k2 _ hm=> ?_
    rw [ref09_Zones.l2] at hm
    refine Ae<|Ah<|Aa tbk [] 2 R R<|Ab R R (Cu VV.str R Bo)<|Ab R R (A4 R R R)<|Ac<|Ak hm R (fun h10 hm=>?_) fun h10 hm=> ?_
    ·refine Aj<|Ae<|Ay<|Bq<|Aa tbk [] 2 R R<|Be hm 7 37 30 R (fun _ K' h11 J hm=>?_) (fun _ K' h11 J hm=>Aa tbk [] 7 R R<|J 6 R R (Bj hm)) fun c hm=> ?_
     ·refine Aa tbk [] 2 R R<|Bd hm fun x2 h12 hm=>Cx 0 R (gl_pos VV.str h12) fun b h13=> ?_
      subst h13
      exact Bg R R R R R (Cf VV.str R R el25 h12)<|Bg R R R R R (Cd (i:=0) (y:=VV.str x2) R R R (gl_map _ (gl_some h12).2) ld9 R)<|Aa tbk [] 3 R R<|J 6 R R (Bj hm)
     exact Ab R R (Ai R)<|Ac<|A2 tbk [] R R<|Ap (c,(IntKind.i64.wrap (k2 + (1 : Int)))) () hm (Af [0] R R)
    exact A1<|As () hm (Af [0] R R)
   exact Ah<|Aa tbk [] 2 R R<|Be hm 6 45 39 R (fun _ K' h15 J hm=>Aa tbk [] 2 R R<|Bd hm fun x3 h16 hm=>Bg R R R R R (Az T_api_Machine.vv R R el22 h16)<|Aa tbk [] 3 R R<|J 5 R R (Bj hm)) (fun _ K' h15 J hm=>Aa tbk [] 6 R R<|J 5 R R (Bj hm)) fun c2 hm=>Ac<|Ak hm R (fun h18 hm=>Bq<|Aa tbk [] 2 R R<|Ad R R<|A8 ap25 R R R R R fun b2=>Bd hm fun out4 h20 hm=>Ad R R<|B3 1 VV.str (l:=out2) (l2:=[r.1]) ap25 R R (sT_row 0 VV.str el25 R R) h20 fun ob4 cap4=>Ab R R (Ai R)<|Ac<|A2 tbk [] R R<|Ap (out4,(IntKind.i64.wrap (i2 + (1 : Int)))) (ob4,cap4) hm (Af [1] R R)) fun h18 hm=>Aj<|A2 tbk [] R R<|Ap (out2,(IntKind.i64.wrap (i2 + (1 : Int)))) (ob2,cap2) hm (Af [0] R R)
  exact A1<|As (ob2,cap2) hm (Af [0] R R)
 exact Ag tbk [] R R<|Rg2 hm R [0] ob3 cap3 (.cons (.tmp _ _ R) .nil) R R

/-! trireme/triremeref11.Counts -/
def ref11_Counts.l2 (ms : List T_api_Machine) (bs : List T_api_Bound) (p : T_api_Pod) (r : List ByteArray) (i2 : Int) : Nat → Int → Int → Option Int
 | 0, _, _ => none
 | n5 + 1, k2, j2 =>
  if (decide (j2 < (bs.length : Int))) = true then
   (V.gl bs j2).bind fun x =>
   (ref11_zone ms x.On).bind fun r2 =>
   (V.gl bs j2).bind fun x2 =>
   (if (!(V.seq x2.On (⟨#[]⟩ : ByteArray))) = true then (V.gl bs j2).bind fun x3 =>
   some (!(V.seq x3.Pod.Name p.Name)) else some false).bind fun c =>
   (if (c && r2.2) = true then (V.gl r i2).bind fun x4 =>
   some (V.seq r2.1 x4) else some false).bind fun c2 =>
   (if c2 = true then (V.gl bs j2).bind fun x5 =>
   (ref05_Has x5.Pod.Labels p.Spread).bind fun r3 =>
   some r3 else some false).bind fun c3 =>
   if c3 = true then
    ref11_Counts.l2 ms bs p r i2 n5 (i64.wrap (k2 + 1)) (i64.wrap (j2 + 1))
   else
    ref11_Counts.l2 ms bs p r i2 n5 k2 (i64.wrap (j2 + 1))
  else
   some k2
def ref11_Counts.l1 (ms : List T_api_Machine) (bs : List T_api_Bound) (p : T_api_Pod) (r : List ByteArray) : Nat → (List Int) → Int → Option (List Int)
 | 0, _, _ => none
 | n4 + 1, n2, i2 =>
  if (decide (i2 < (r.length : Int))) = true then
   (ref11_Counts.l2 ms bs p r i2 FU 0 (0 : Int)).bind fun k32 =>
   (V.ap 8 n2 [k32]).bind fun n6 =>
   ref11_Counts.l1 ms bs p r n4 n6 (i64.wrap (i2 + 1))
  else
   some n2
def ref11_Counts (ms : List T_api_Machine) (bs : List T_api_Bound) (p : T_api_Pod) : Option (List ByteArray × List Int) :=
 (ref09_Zones ms).bind fun r =>
 (ref11_Counts.l1 ms bs p r FU ([] : List Int) (0 : Int)).bind fun n32 =>
 some (r, n32)
theorem K168 (ms : List T_api_Machine) (bs : List T_api_Bound) (p : T_api_Pod) : VS2 Tryz.prog 198 (ref11_Counts ms bs p) [L61 ms, L49 bs, T_api_Pod.vv p] [] (fun r ob1 cap1=>.tup [L9 r.1, Z3 ob1 r.2 cap1]) (fun r ob1 cap1=>[Q3 ob1 cap1 r.2]) := by
 refine Cl [.tmp 6,.tmp 7] Tryz.func198 R R R fun r hm=>?_
 unfold ref11_Counts at hm
 refine Ah<|Ad R R<|Ba R R fun b=>Aa tbk [] 2 R R<|Ac<|Ah<|Ab R R (Al R)<|Ad R R<|Bz hm 0 R fn216 R (K167 _) fun r ob cap hm=>Bh (Aw 0 [(16,L9 r)] R ⟨⟨_,R,.here _ R⟩,trivial⟩ (FzH.refl _))<|Ab R R (Ai R)<|Ac<|Ag tbk [] R R<|Ae<|Ag tbk [] R R<|Bw hm (fun n32 (gg:Option Nat × Nat)=>[(8,L9 r),(9,Z3 gg.1 n32 gg.2)]) (fun n32 (gg:Option Nat × Nat)=>[Q3 gg.1 gg.2 n32]) (fun o hm=>?_) fun n32=>Pq fun ob4 cap4 hm=> ?_
 ·refine Bl (fun zn (zs:List Int × Int)=>ref11_Counts.l1 ms bs p r zn zs.1 zs.2) (fun zs (zg:Option Nat × Nat)=>[(0,L61 ms),(1,L49 bs),(5,.ptr b 0),(8,L9 r),(9,Z3 zg.1 zs.1 zg.2),(10,Iw zs.2)]) (fun zs (zg:Option Nat × Nat)=>[Q3 zg.1 zg.2 zs.1,X47 b p]) (([] : List Int),(0 : Int)) (none,0) (fun _=>R) hm (Bb (Bc 3) (Af [0,0] R R)) fun n4=>Pq fun n2 i2=>Pq fun ob3 cap3 hm=> ?_
  rw [ref11_Counts.l1] at hm
  refine Ae<|Ah<|Aa tbk [] 2 R R<|Ab R R (Av VV.str R Bo)<|Ab R R (A4 R R R)<|Ac<|Ak hm R (fun h8 hm=>?_) fun h8 hm=> ?_
  ·refine Aj<|Ae<|Ay<|Ag tbk [] R R<|Ae<|Ag tbk [] R R<|Bw hm (fun k32 (_:Unit)=>[(0,L61 ms),(1,L49 bs),(5,.ptr b 0),(8,L9 r),(9,Z3 ob3 n2 cap3),(10,Iw i2),(11,Iw k32)]) (fun _ (_:Unit)=>[Q3 ob3 cap3 n2,X47 b p]) (fun o2 hm=>?_) fun k32 _ hm=> ?_
   ·refine Bl (fun zn (zs:Int × Int)=>ref11_Counts.l2 ms bs p r i2 zn zs.1 zs.2) (fun zs (_:Unit)=>[(0,L61 ms),(1,L49 bs),(5,.ptr b 0),(8,L9 r),(9,Z3 ob3 n2 cap3),(10,Iw i2),(11,Iw zs.1),(12,Iw zs.2)]) (fun _ (_:Unit)=>[Q3 ob3 cap3 n2,X47 b p]) ((0 : Int),(0 : Int)) () (fun _=>R) hm (Af [0,0] R R) fun n5=>Pq fun k2 j2 _ hm=> ?_
    rw [ref11_Counts.l2] at hm
    refine Ae<|Ah<|Aa tbk [] 2 R R<|Ab R R (Av T_api_Bound.vv R Bk)<|Ab R R (A4 R R R)<|Ac<|Ak hm R (fun h11 hm=>?_) fun h11 hm=> ?_
    ·exact Aj<|Ae<|Ay<|Ah<|Aa tbk [] 3 R R<|Bd hm fun x h12 hm=>Ab R R (Az T_api_Bound.vv R R el23 h12)<|Aa tbk [] 2 R R<|Ad R R<|Am hm 0 R fn197 R (K164 _ _) fun r2 hm=>Aa tbk [] 5 R R<|Ac<|Ae<|A9 0 mixed<|Aq tbk [0,1] [] (by kernel_rfl) R R R<|Bd hm fun x2 h14 hm=>Ax 2 R R R (by kernel_rfl) (Az T_api_Bound.vv R R el23 h14)<|Aq tbk [3,4,5,6] [] (by kernel_rfl) R R R<|Cr hm [16,15,14,13,12,11,10,9,8,7,6,5,4,3,2,1,0] 55 45 R (fun _ K' h15 J hm=>Aq tbk [7,8] [] (by kernel_rfl) R R R<|Bd hm fun x3 h16 hm=>Ce 9 R R R R R R (by kernel_rfl) (Az T_api_Bound.vv R R el23 h16)<|Aq tbk [10,11,12,13,14,15,16] [1] (by kernel_rfl) R R R<|J 9 R R (Bj hm)) (fun _ K' h15 J hm=>Aq tbk [7,8,9,10,11,12,13,14,15,16] [] (by kernel_rfl) R R R<|J 9 R R (Bj hm)) fun c hm=>Ax 17 R R R (by kernel_rfl) (Al R)<|Df [19,18,17,16,15,14,13,12,11,10,9,8,7,6,5,4,3,2,1,0] 58 56 R (fun h18 K' J=>Aq tbk [18,19] [] (by kernel_rfl) R R R<|J 1 R R R) (fun K' J=>Aq tbk [18,19] [] (by kernel_rfl) R R R<|J 1 R R R)<|Ax 20 R R R (by kernel_rfl) (Al R)<|Cr hm [27,26,25,24,23,22,21,20,19,18,17,16,15,14,13,12,11,10,9,8,7,6,5,4,3,2,1,0] 66 59 R (fun _ K' h19 J hm=>Aq tbk [21,22,23] [] (by kernel_rfl) R R R<|Bd hm fun x4 h20 hm=>Ce 24 R R R R R R (by kernel_rfl) (Az VV.str R R el25 h20)<|Aq tbk [25,26,27] [] (by kernel_rfl) R R R<|J 6 R R (Bj hm)) (fun _ K' h19 J hm=>Aq tbk [21,22,23,24,25,26,27] [] (by kernel_rfl) R R R<|J 6 R R (Bj hm)) fun c2 hm=>Ax 28 R R R (by kernel_rfl) (Al R)<|Cr hm [38,37,36,35,34,33,32,31,30,29,28,27,26,25,24,23,22,21,20,19,18,17,16,15,14,13,12,11,10,9,8,7,6,5,4,3,2,1,0] 77 67 R (fun _ K' h22 J hm=>Aq tbk [29,30] [] (by kernel_rfl) R R R<|Bd hm fun x5 h23 hm=>Ce 31 R R R R R R (by kernel_rfl) (Az T_api_Bound.vv R R el23 h23)<|Aq tbk [32,33,34,35,36] [1] (by kernel_rfl) R R R<|Ao 37 (by kernel_rfl)<|Cv R R R R R R<|Am hm 0 R fn63 R (K149 _ _) fun r3 hm=>Ax 38 R R R (by kernel_rfl) (Bf true R R R)<|J 9 R R (Bj hm)) (fun _ K' h22 J hm=>Aq tbk [29,30,31,32,33,34,35,36,37,38] [] (by kernel_rfl) R R R<|J 9 R R (Bj hm)) fun c3 hm=>A5 (by kernel_rfl)<|Ak hm R (fun h26 hm=>A2 tbk [] R R<|A2 tbk [] R R<|Ap ((IntKind.i64.wrap (k2 + (1 : Int))),(IntKind.i64.wrap (j2 + (1 : Int)))) () hm (Af [0,0] R R)) fun h26 hm=>Aj<|A2 tbk [] R R<|Ap (k2,(IntKind.i64.wrap (j2 + (1 : Int)))) () hm (Af [0,0] R R)
    exact A1<|As () hm (Af [0,0] R R)
   exact Bq<|Aa tbk [] 2 R R<|Ad R R<|A8 ap45 R R R R R fun b2=>Bd hm fun n6 h28 hm=>Ad R R<|B3 1 (VV.int .i64) (l:=n2) (l2:=[k32]) ap45 R R (sT_row 0 (VV.int .i64) el45 R R) h28 fun ob5 cap5=>Ab R R (Ai R)<|Ac<|A2 tbk [] R R<|Ap (n6,(IntKind.i64.wrap (i2 + (1 : Int)))) (ob5,cap5) hm (Af [1,1] R R)
  exact A1<|As (ob3,cap3) hm (Af [0] R R)
 exact Ag tbk [] R R<|Rg2 hm R [0] ob4 cap4 (.cons (.tmp _ _ R) (.cons (.tmp _ _ R) .nil)) R R

/-! trireme/triremeref11.Many -/
def ref11_Many.l1 (r2 : ByteArray × Bool) (r3 : List ByteArray × List Int) : Nat → Int → Int → Int → Option (Int × Int)
 | 0, _, _, _ => none
 | n + 1, mine2, least2, i2 =>
  if (decide (i2 < (r3.1.length : Int))) = true then
   (if (i2 == 0) = true then some true else (V.gl r3.2 i2).bind fun x =>
   some (decide (x < least2))).bind fun c2 =>
   if c2 = true then
    (V.gl r3.2 i2).bind fun x2 =>
    (if r2.2 = true then (V.gl r3.1 i2).bind fun x3 =>
    some (V.seq x3 r2.1) else some false).bind fun c3 =>
    if c3 = true then
     (V.gl r3.2 i2).bind fun x4 =>
     ref11_Many.l1 r2 r3 n x4 x2 (i64.wrap (i2 + 1))
    else
     ref11_Many.l1 r2 r3 n mine2 x2 (i64.wrap (i2 + 1))
   else
    (if r2.2 = true then (V.gl r3.1 i2).bind fun x5 =>
    some (V.seq x5 r2.1) else some false).bind fun c4 =>
    if c4 = true then
     (V.gl r3.2 i2).bind fun x6 =>
     ref11_Many.l1 r2 r3 n x6 least2 (i64.wrap (i2 + 1))
    else
     ref11_Many.l1 r2 r3 n mine2 least2 (i64.wrap (i2 + 1))
  else
   some (mine2, least2)
def ref11_Many (ms : List T_api_Machine) (bs : List T_api_Bound) (p : T_api_Pod) (on_ : ByteArray) : Option Bool :=
 (if ((p.Spread.length : Int) == 0) = true then some true else (ref09_Find ms on_).bind fun r =>
 some (decide (r < 0))).bind fun c =>
 if c = true then
  some false
 else
  (ref11_zone ms on_).bind fun r2 =>
  (ref11_Counts ms bs p).bind fun r3 =>
  (ref11_Many.l1 r2 r3 FU (-1) 0 (0 : Int)).bind fun j =>
  if (decide (j.1 < 0)) = true then
   some true
  else
   (ref05_Has p.Labels p.Spread).bind fun r4 =>
   if r4 = true then
    some (decide ((i64.wrap ((i64.wrap (j.1 + 1)) - j.2)) > p.Skew))
   else
    some (decide ((i64.wrap (j.1 - j.2)) > p.Skew))
theorem K169 (ms : List T_api_Machine) (bs : List T_api_Bound) (p : T_api_Pod) (on_ : ByteArray) : VS Tryz.prog 168 (ref11_Many ms bs p on_) [L61 ms, L49 bs, T_api_Pod.vv p, .str on_] [] .bool N0 := by
 refine A3 [.tmp 8] Tryz.func168 R R R fun r hm=>?_
 unfold ref11_Many at hm
 refine Ah<|Ad R R<|Ba R R fun b=>Ab R R (Ai R)<|Ac<|Ae<|Ah<|Aa tbk [0] 2 R R<|Ab R R (Av T_api_Label.vv R Br)<|Aa tbk [] 2 R R<|Be hm 5 25 20 R (fun _ K' h2 J hm=>Aa tbk [] 5 R R<|J 4 R R (Bj hm)) (fun _ K' h2 J hm=>Aa tbk [] 2 R R<|A7 R R R R R<|Am hm 0 R fn23 R (K58 _ _) fun r hm=>Aa tbk [] 2 R R<|J 4 R R (Bj hm)) fun c hm=>Ac<|Ak hm R (fun h5 hm=>Ag tbk [] R R<|Rt1 hm R [] R R R) fun h5 hm=>Aj<|Ah<|Aa tbk [] 2 R R<|Ad R R<|Am hm 0 R fn197 R (K164 _ _) fun r2 hm=>Aa tbk [] 5 R R<|Ac<|Ah<|Aa tbk [0] 3 R R<|Ad R R<|Bz hm 0 R fn198 R (K168 _ _ _) fun r3 ob cap hm=>Aa tbk [] 5 R R<|Ac<|Ag tbk [] R R<|Ag tbk [] R R<|Ae<|Ag tbk [] R R<|Bw hm (fun j (_:Unit)=>[(6,.ptr b 0),(13,Iw j.1),(14,Iw j.2)]) (fun _ (_:Unit)=>[X47 b p]) (fun o hm=>?_) fun j _ hm=> ?_
 ·refine Bl (fun zn (zs:Int × Int × Int)=>ref11_Many.l1 r2 r3 zn zs.1 zs.2.1 zs.2.2) (fun zs (zg:Option Nat)=>[(6,.ptr b 0),(9,.str r2.1),(10,.bool r2.2),(11,L9 r3.1),(12,Z3 zg r3.2 cap),(13,Iw zs.1),(14,Iw zs.2.1),(15,Iw zs.2.2)]) (fun _ (zg:Option Nat)=>[Q3 zg cap r3.2,X47 b p]) ((-1 : Int),(0 : Int),(0 : Int)) _ (fun _=>R) hm (Af [0,0] R R) fun n=>Pq fun mine2=>Pq fun least2 i2 ob3 hm=> ?_
  rw [ref11_Many.l1] at hm
  refine Ae<|Ah<|Aa tbk [] 2 R R<|Ab R R (Av VV.str R Bo)<|Ab R R (A4 R R R)<|Ac<|Ak hm R (fun h11 hm=>?_) fun h11 hm=> ?_
  ·refine Aj<|Ae<|Ay<|Ae<|Ah<|Aa tbk [] 3 R R<|Be hm 7 54 47 R (fun _ K' h12 J hm=>Aa tbk [] 7 R R<|J 6 R R (Bj hm)) (fun _ K' h12 J hm=>?_) fun c2 hm=> ?_
   ·refine Aa tbk [] 2 R R<|Bd hm fun x h13 hm=>Cx 0 R (gl_pos (VV.int .i64) h13) fun b2 h14=> ?_
    subst h14
    exact Bg R R R R R (Cf (VV.int .i64) R R el45 h13)<|Bg R R R R R (Cd (i:=0) (y:=(VV.int .i64) x) R R R (gl_map _ (gl_some h13).2) ld3 R)<|Aa tbk [] 3 R R<|J 6 R R (Bj hm)
   refine Ac<|Ak hm R (fun h16 hm=>?_) fun h16 hm=> ?_
   ·refine Bq<|Aa tbk [] 2 R R<|Bd hm fun x2 h17 hm=>Cx 0 R (gl_pos (VV.int .i64) h17) fun b3 h18=> ?_
    subst h18
    exact Ab R R (Cf (VV.int .i64) R R el45 h17)<|Ab R R (Cd (i:=0) (y:=(VV.int .i64) x2) R R R (gl_map _ (gl_some h17).2) ld3 R)<|Ab R R (Ai R)<|Ac<|Ah<|Aa tbk [] 2 R R<|Be hm 7 67 60 R (fun _ K' h19 J hm=>Aa tbk [] 2 R R<|Bd hm fun x3 h20 hm=>Bg R R R R R (Az VV.str R R el25 h20)<|Aa tbk [] 4 R R<|J 6 R R (Bj hm)) (fun _ K' h19 J hm=>Aa tbk [] 7 R R<|J 6 R R (Bj hm)) fun c3 hm=>Ac<|Ak hm R (fun h22 hm=>Bq<|Aa tbk [] 2 R R<|Bd hm fun x4 h23 hm=>Ab R R (Cf (VV.int .i64) R R el45 h23)<|Ab R R (Cd (i:=0) (y:=(VV.int .i64) x4) R R R (gl_map _ (gl_some h23).2) ld3 R)<|Ab R R (Ai R)<|Ac<|A2 tbk [] R R<|Ap (x4,x2,(IntKind.i64.wrap (i2 + (1 : Int)))) _ hm (Af [0,0] R R)) fun h22 hm=>Aj<|A2 tbk [] R R<|Ap (mine2,x2,(IntKind.i64.wrap (i2 + (1 : Int)))) _ hm (Af [0,0] R R)
   refine Aj<|Ah<|Aa tbk [] 2 R R<|Be hm 7 67 60 R (fun _ K' h24 J hm=>Aa tbk [] 2 R R<|Bd hm fun x5 h25 hm=>Bg R R R R R (Az VV.str R R el25 h25)<|Aa tbk [] 4 R R<|J 6 R R (Bj hm)) (fun _ K' h24 J hm=>Aa tbk [] 7 R R<|J 6 R R (Bj hm)) fun c4 hm=>Ac<|Ak hm R (fun h27 hm=>?_) fun h27 hm=> ?_
   ·refine Bq<|Aa tbk [] 2 R R<|Bd hm fun x6 h28 hm=>Cx 0 R (gl_pos (VV.int .i64) h28) fun b4 h29=> ?_
    subst h29
    exact Ab R R (Cf (VV.int .i64) R R el45 h28)<|Ab R R (Cd (i:=0) (y:=(VV.int .i64) x6) R R R (gl_map _ (gl_some h28).2) ld3 R)<|Ab R R (Ai R)<|Ac<|A2 tbk [] R R<|Ap (x6,least2,(IntKind.i64.wrap (i2 + (1 : Int)))) _ hm (Af [0,0] R R)
   exact Aj<|A2 tbk [] R R<|Ap (mine2,least2,(IntKind.i64.wrap (i2 + (1 : Int)))) _ hm (Af [0,0] R R)
  exact A1<|As () hm (Af [1] R R)
 exact Ae<|Ag tbk [] R R<|Ak hm R (fun h30 hm=>Ag tbk [] R R<|Rt1 hm R [] R R R) fun h30 hm=>Aj<|Ae<|Ah<|Aa tbk [0,0] 4 R R<|Ad R R<|Am hm 0 R fn63 R (K149 _ _) fun r4 hm=>Ac<|Ak hm R (fun h32 hm=>A2 tbk [] R R<|Ag tbk [0] R R<|Rt1 hm R [] R R R) fun h32 hm=>Aj<|Ag tbk [0] R R<|Rt1 hm R [] R R R

/-! trireme/triremeref11.Why -/
def ref11_Why (ms : List T_api_Machine) (bs : List T_api_Bound) (p : T_api_Pod) (on_ : ByteArray) : Option Int :=
 (ref11_Near ms bs p on_).bind fun r =>
 if r = true then
  some 7
 else
  (ref11_Many ms bs p on_).bind fun r2 =>
  if r2 = true then
   some 8
  else
   some 0
theorem K170 (ms : List T_api_Machine) (bs : List T_api_Bound) (p : T_api_Pod) (on_ : ByteArray) : VS Tryz.prog 118 (ref11_Why ms bs p on_) [L61 ms, L49 bs, T_api_Pod.vv p, .str on_] [] Iw N0 := by
 refine A3 [.tmp 8] Tryz.func118 R R R fun r hm=>?_
 unfold ref11_Why at hm
 exact Ah<|Ad R R<|Ba R R fun b=>Ab R R (Ai R)<|Ac<|Ae<|Ah<|Aa tbk [0] 4 R R<|Ad R R<|Am hm 0 R fn167 R (K166 _ _ _ _) fun r hm=>Ac<|Ak hm R (fun h3 hm=>Ag tbk [] R R<|Rt1 hm R [] R R R) fun h3 hm=>Aj<|Ae<|Ah<|Aa tbk [0] 4 R R<|Ad R R<|Am hm 0 R fn168 R (K169 _ _ _ _) fun r2 hm=>Ac<|Ak hm R (fun h5 hm=>Ag tbk [] R R<|Rt1 hm R [] R R R) fun h5 hm=>Aj<|Ag tbk [] R R<|Rt1 hm R [] R R R

/-! trireme/triremeref12.Why -/
def ref12_Why (ms : List T_api_Machine) (bs : List T_api_Bound) (p : T_api_Pod) (on_ : ByteArray) : Option Int :=
 (ref09_Find ms on_).bind fun r =>
 if (decide (r < 0)) = true then
  some 1
 else
  (V.gl ms r).bind fun x =>
  (ref10_Suits x bs p).bind fun r2 =>
  if (r2 != 0) = true then
   some r2
  else
   (ref11_Why ms bs p on_).bind fun r3 =>
   some r3
theorem K171 (ms : List T_api_Machine) (bs : List T_api_Bound) (p : T_api_Pod) (on_ : ByteArray) : VS Tryz.prog 64 (ref12_Why ms bs p on_) [L61 ms, L49 bs, T_api_Pod.vv p, .str on_] [] Iw N0 := by
 refine A3 [.tmp 8] Tryz.func64 R R R fun r hm=>?_
 unfold ref12_Why at hm
 exact Ah<|Ad R R<|Ba R R fun b=>Ab R R (Ai R)<|Ac<|Ah<|Aa tbk [] 2 R R<|Ad R R<|Am hm 0 R fn23 R (K58 _ _) fun r hm=>Ab R R (Ai R)<|Ac<|Ae<|Ag tbk [] R R<|Ak hm R (fun h3 hm=>Ag tbk [] R R<|Rt1 hm R [] R R R) fun h3 hm=>Aj<|Ae<|A9 0 mixed<|Aq tbk [0,1] [] (by kernel_rfl) R R R<|Bd hm fun x h4 hm=>Ax 2 R R R (by kernel_rfl) (Az T_api_Machine.vv R R el22 h4)<|Aq tbk [3,4,5] [0] (by kernel_rfl) R R R<|Ao 6 (by kernel_rfl)<|Au R R R<|Am hm 0 R fn117 R (K163 _ _ _) fun r2 hm=>Ax 7 R R R (by kernel_rfl) (Ai R)<|A5 (by kernel_rfl)<|Ae<|Ag tbk [] R R<|Ak hm R (fun h6 hm=>Ag tbk [] R R<|Rt1 hm R [] R R R) fun h6 hm=>Aj<|Ah<|Aa tbk [0] 4 R R<|Ad R R<|Am hm 0 R fn118 R (K170 _ _ _ _) fun r3 hm=>Ab R R (Ai R)<|Ac<|Rt1 hm R [] R R R

end Go.Proofs.YtmpkpnclmihdnaaGreat.M

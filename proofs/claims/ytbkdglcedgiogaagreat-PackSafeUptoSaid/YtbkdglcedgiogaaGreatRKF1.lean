/-
  Printed by a program of this session out of the loaded functions: models and their proofs. Own text.
-/
import Derived.Test.YtbkdglcedgiogaaGreatRKF0
namespace Go.Proofs.YtbkdglcedgiogaaGreat.M
open Go Go.Proofs Go.Proofs.YtbkdglcedgiogaaGreat.V
open Go.IntKind (i64)
set_option linter.unusedVariables false
set_option maxRecDepth 20000
set_option maxHeartbeats 4000000
/-! trireme/suit.Room -/
def suit_Room.l1 (p : T_api_Pod) : List T_api_Pod → Nat → Option (Out Int Unit)
 | [], k => some (Out.go ())
 | x :: l, k =>
  (suit_common p.Ports x.Ports).bind fun r5 =>
  if r5 = true then
   some (Out.ret 3)
  else
   suit_Room.l1 p l (k + 1)
def suit_Room (m : T_api_Machine) (bs : List T_api_Bound) (p : T_api_Pod) : Option Int :=
 (suit_others bs p.Name).bind fun r =>
 (yard_Left m r).bind fun r2 =>
 (res_Fits p.Need r2).bind fun r3 =>
 if (!r3) = true then
  some 2
 else
  (yard_On r m.Name).bind fun r4 =>
  (suit_Room.l1 p r4 0).bind fun o =>
  o.on fun j =>
  some 0
theorem K111 (m : T_api_Machine) (bs : List T_api_Bound) (p : T_api_Pod) : VS Tryz.prog 157 (suit_Room m bs p) [T_api_Machine.vv m, L50 bs, T_api_Pod.vv p] [] Iw N0 := by
 refine A2 [.tmp 6] Tryz.func157 R R R fun r hm=>?_
 unfold suit_Room at hm
 refine Ah<|Ac R R<|A9 R R fun b=>Ac R R<|A9 R R fun b2=>Ab R R (Ai R)<|Ad<|Ah<|Aa tbk [0] 3 R R<|Ac R R<|B7 hm 0 R fn172 R (K93 _ _) fun r ob cap hm=>Be (Aw 0 [(13,L50 r)] R ⟨⟨_,R,.here _ R⟩,trivial⟩ (FzH.refl _))<|Ab R R (Ai R)<|Ad<|Ae<|Ae<|Bc 0 mixed<|Au tbk [0,1,2,3] [0,1] (by kernel_rfl) R R R<|Ao 4 (by kernel_rfl)<|Aq R R R<|Am hm 0 R fn174 R (K108 _ _) fun r2 hm=>Ao 5 (by kernel_rfl)<|Aq R R R<|Am hm 0 R fn173 R (K109 _ _) fun r3 hm=>Av 6 R R R (by kernel_rfl) (Cl R)<|A1 (by kernel_rfl)<|Ak hm R (fun h7 hm=>Ag tbk [] R R<|Rt1 hm R [] R R R) fun h7 hm=>Aj<|Ae<|Ah<|Aa tbk [1] 3 R R<|Ac R R<|B7 hm 0 R fn139 R (K94 _ _) fun r4 ob2 cap2 hm=>Be (Aw 0 [(24,L48 r4)] R ⟨⟨_,R,.here _ R⟩,trivial⟩ (FzH.refl _))<|Ab R R (Ax T_api_Pod.vv R B4)<|Ab R R (Al R)<|Ad<|Cf 24 R fun h12=>Bu hm (fun _ (_:Unit)=>[]) (fun _ (_:Unit)=>[]) (fun o hm h11=>?_) fun j _ hm=> ?_
 ·refine Cq (r4) (fun zl zk (zs:Unit)=>suit_Room.l1 p zl zk) (fun k _ (_:Unit)=>[(5,.ptr b2 0),(24,L48 r4),(25,Iw (r4.length : Int)),(26,Iw (k : Int))]) (fun _ _ (_:Unit)=>[X48 b2 p]) () () hm (Af [0] R R) (fun k _ _ hk hm=>?_) fun k x l _ _ h13 hm=> ?_
  ·rw [suit_Room.l1] at hm
   exact Ag tbk [] R R<|Ae<|Ca R (k_end hk)<|A3<|Ar () hm (Af [] R R)
  rw [suit_Room.l1] at hm
  exact Ag tbk [] R R<|Ae<|B8 R (k_lt h13)<|Aj<|Ae<|Az<|Ah<|Ab R R (Cj T_api_Pod.vv R R el24 h13)<|Ab R R (Bl R ld48 R)<|Ac R R<|Ay z48 fun b3=>Ac R R<|An (i:=0) R R R ld48 R R R<|Ad<|Ah<|Aa tbk [1,0] 4 R R<|Ac R R<|Am hm 0 R fn175 R (K110 _ _) fun r5 hm=>Ad<|Ak hm R (fun h16 hm=>Ag tbk [] R R<|have hm:=Lr hm h11;Rt1 hm R [] R R R) fun h16 hm=>Aj<|A6 tbk [] R R<|Ap () () hm (Bt [1] R ⟨R,R,R,congrArg some (k_next h13 h12),trivial⟩)
 exact Ag tbk [] R R<|Rt1 hm R [] R R R

/-! trireme/suit.Suits -/
def suit_Suits (m : T_api_Machine) (bs : List T_api_Bound) (p : T_api_Pod) : Option Int :=
 (suit_Place m p).bind fun r =>
 if (r == 1) = true then
  some r
 else
  if (r == 4) = true then
   some r
  else
   if (r == 5) = true then
    some r
   else
    if (r == 6) = true then
     some r
    else
     (suit_Room m bs p).bind fun r2 =>
     some r2
theorem K112 (m : T_api_Machine) (bs : List T_api_Bound) (p : T_api_Pod) : VS Tryz.prog 137 (suit_Suits m bs p) [T_api_Machine.vv m, L50 bs, T_api_Pod.vv p] [] Iw N0 := by
 refine A2 [.tmp 6] Tryz.func137 R R R fun r hm=>?_
 unfold suit_Suits at hm
 exact Ah<|Ac R R<|A9 R R fun b=>Ac R R<|A9 R R fun b2=>Ab R R (Ai R)<|Ad<|Ah<|Aa tbk [1,0] 2 R R<|Ac R R<|Am hm 0 R fn156 R (K92 _ _) fun r hm=>Ab R R (Ai R)<|Ad<|Ae<|Ag tbk [] R R<|Az<|Ae<|Az<|Az<|Az<|Ae<|Ae<|Ag tbk [] R R<|Ak hm R (fun h4 hm=>A3<|Ae<|Ag tbk [] R R<|Rt1 hm R [] R R R) fun h4 hm=>Aj<|Ae<|Ag tbk [] R R<|Ak hm R (fun h5 hm=>A3<|Ae<|Ag tbk [] R R<|Rt1 hm R [] R R R) fun h5 hm=>Aj<|Ae<|Ag tbk [] R R<|Ak hm R (fun h6 hm=>Aj<|B8 R h6<|A3<|Ae<|Ag tbk [] R R<|Rt1 hm R [] R R R) fun h6 hm=>A6 tbk [] R R<|Ak hm R (fun h7 hm=>A3<|Ae<|Ag tbk [] R R<|Rt1 hm R [] R R R) fun h7 hm=>Aj<|A3<|Ah<|Aa tbk [1,0] 3 R R<|Ac R R<|Am hm 0 R fn157 R (K111 _ _ _) fun r2 hm=>Ab R R (Ai R)<|Ad<|Rt1 hm R [] R R R

/-! trireme/apart.zones -/
def apart_zones.l1 : List T_api_Machine → Nat → (List (ByteArray × ByteArray)) → Option (List (ByteArray × ByteArray))
 | [], k, out2 => some out2
 | x :: l, k, out2 =>
  (labels_Get x.Labels (⟨#[122, 111, 110, 101]⟩ : ByteArray)).bind fun r =>
  if r.2 = true then
   apart_zones.l1 l (k + 1) (V.mp out2 x.Name r.1)
  else
   apart_zones.l1 l (k + 1) out2
def apart_zones (ms : List T_api_Machine) : Option (List (ByteArray × ByteArray)) :=
 (apart_zones.l1 ms 0 ([] : List (ByteArray × ByteArray))).bind fun out32 =>
 some out32
theorem K113 (ms : List T_api_Machine) : VS1 Tryz.prog 176 (apart_zones ms) [L30 ms] [] (fun r b_0=>.map b_0) (fun r b_0=>[.map b_0 (List.map (pf VV.str VV.str) r)]) := by
 refine VS1.run [.tmp 2] Tryz.func176 R R R fun r hm=>?_
 unfold apart_zones at hm
 refine Ag tbk [] R R<|Ah<|Ac R R<|Di fun b=>Ab R R (Ai R)<|Ad<|Ae<|Ah<|Ab R R (Al R)<|Ab R R (Ax T_api_Machine.vv R Bv)<|Ab R R (Al R)<|Ad<|Cf 9 R fun h4=>Bx hm (fun _ (_:Unit)=>[(3,.map b)]) (fun out32 (_:Unit)=>[.map b (List.map (pf VV.str VV.str) out32)]) (fun o hm=>?_) fun out32 _ hm=> ?_
 ·refine Cq (ms) (fun zl zk (zs:List (ByteArray × ByteArray))=>apart_zones.l1 zl zk zs) (fun k _ (_:Unit)=>[(3,.map b),(9,L30 ms),(10,Iw (ms.length : Int)),(11,Iw (k : Int))]) (fun _ zs (_:Unit)=>[.map b (List.map (pf VV.str VV.str) zs)]) _ () hm (Af [0] R R) (fun k out2 _ hk hm=>?_) fun k x l out2 _ h5 hm=> ?_
  ·rw [apart_zones.l1] at hm
   exact Ag tbk [] R R<|Ae<|Ca R (k_end hk)<|A3<|As () hm (Af [0] R R)
  rw [apart_zones.l1] at hm
  exact Ag tbk [] R R<|Ae<|B8 R (k_lt h5)<|Aj<|Ae<|Az<|Ah<|Ab R R (Cj T_api_Machine.vv R R el22 h5)<|Ab R R (Bl R ld30 R)<|Ac R R<|Ay z30 fun b2=>Ac R R<|An (i:=0) R R R ld30 R R R<|Ad<|Ah<|Aa tbk [0] 2 R R<|Ac R R<|Am hm 0 R fn185 R (K76 _ _) fun r hm=>Aa tbk [] 5 R R<|Ad<|Ag tbk [] R R<|Ak hm R (fun h8 hm=>Bo<|Aa tbk [0] 4 R R<|Ac R R<|Df 1 (kf:=VV.str) (vf:=VV.str) (l:=out2) (k:=x.Name) (z:=r.1) mk9 Cy R R R R<|Ad<|A6 tbk [] R R<|Ap _ () hm (Bt [1] R ⟨R,R,R,congrArg some (k_next h5 h4),trivial⟩)) fun h8 hm=>Aj<|A6 tbk [] R R<|Ap _ () hm (Bt [1] R ⟨R,R,R,congrArg some (k_next h5 h4),trivial⟩)
 exact Ag tbk [] R R<|Rg1 hm R [0] b (.cons (.tmp _ _ R) .nil) R R

/-! (trireme/apart.place).one -/
def apart_place_one (x : T_apart_place) (a : ByteArray) (b2 : ByteArray) (wide : Bool) : Option Bool :=
 if ((V.seq a b2) || (!wide)) = true then
  some (V.seq a b2)
 else
  some ((((V.mg x.zones a).isSome) && ((V.mg x.zones b2).isSome)) && (V.seq ((V.mg x.zones a).getD (⟨#[]⟩ : ByteArray)) ((V.mg x.zones b2).getD (⟨#[]⟩ : ByteArray))))
theorem K114 (x : T_apart_place) (a : ByteArray) (b2 : ByteArray) (wide : Bool) (b : Nat) : VS Tryz.prog 189 (apart_place_one x a b2 wide) [.agg [.map b], .str a, .str b2, .bool wide] [.map b (List.map (pf VV.str VV.str) x.zones)] .bool (fun r=>[.map b (List.map (pf VV.str VV.str) x.zones)]) := by
 refine A2 [.tmp 8] Tryz.func189 R R R fun r hm=>?_
 unfold apart_place_one at hm
 exact Ah<|Ac R R<|A9 R R fun b3=>Ab R R (Ai R)<|Ad<|Ae<|Ah<|Aa tbk [] 4 R R<|Cn tbk [] 3 19 16 R R R R R<|Ad<|Ak hm R (fun h3 hm=>Ag tbk [] R R<|Rt1 hm R [1] R R R) fun h3 hm=>Aj<|Ah<|Aa tbk [0] 3 R R<|Ab R R (C2 1 (kf:=VV.str) (vf:=VV.str) (l:=x.zones) (k:=a) (z:=(⟨#[]⟩ : ByteArray)) true mk9 Cy R R R zc9 R)<|Aa tbk [] 5 R R<|Ad<|Ah<|Aa tbk [0] 3 R R<|Ab R R (C2 1 (kf:=VV.str) (vf:=VV.str) (l:=x.zones) (k:=b2) (z:=(⟨#[]⟩ : ByteArray)) true mk9 Cy R R R zc9 R)<|Aa tbk [] 5 R R<|Ad<|Ah<|Aa tbk [] 2 R R<|B0 tbk [] 2 40 38 R R R R R<|Ab R R (Al R)<|B0 tbk [] 4 45 41 R R R R R<|Ab R R (Ai R)<|Ad<|Rt1 hm R [1] R R R

/-! (trireme/apart.place).bars -/
def apart_place_bars (x : T_apart_place) (p : T_api_Pod) (q_ : T_api_Pod) (a : ByteArray) (b2 : ByteArray) : Option Bool :=
 (if (decide ((p.Apart.length : Int) > 0)) = true then (labels_Has q_.Labels p.Apart).bind fun r =>
 some r else some false).bind fun c =>
 (if c = true then (apart_place_one x a b2 p.Wide).bind fun r2 =>
 some r2 else some false).bind fun c2 =>
 some c2
theorem K115 (x : T_apart_place) (p : T_api_Pod) (q_ : T_api_Pod) (a : ByteArray) (b2 : ByteArray) (b : Nat) : VS Tryz.prog 177 (apart_place_bars x p q_ a b2) [.agg [.map b], T_api_Pod.vv p, T_api_Pod.vv q_, .str a, .str b2] [.map b (List.map (pf VV.str VV.str) x.zones)] .bool (fun r=>[.map b (List.map (pf VV.str VV.str) x.zones)]) := by
 refine A2 [.tmp 10] Tryz.func177 R R R fun r hm=>?_
 unfold apart_place_bars at hm
 exact Ah<|Ac R R<|A9 R R fun b3=>Ac R R<|A9 R R fun b4=>Ac R R<|A9 R R fun b5=>Ab R R (Ai R)<|Ad<|Ah<|Aa tbk [1] 2 R R<|Ab R R (Ax T_api_Label.vv R Bp)<|Aa tbk [] 2 R R<|Bf hm 6 21 15 R (fun _ K' h4 J hm=>Aa tbk [0,1] 4 R R<|A8 R R R R R<|Am hm 0 R fn169 R (K77 _ _) fun r hm=>Ab R R (Bg true R R R)<|J 5 R R (Bj hm)) (fun _ K' h4 J hm=>Aa tbk [] 6 R R<|J 5 R R (Bj hm)) fun c hm=>Ab R R (Al R)<|Bf hm 7 29 22 R (fun _ K' h7 J hm=>Aa tbk [2,1] 5 R R<|Be (Ce [3,0,0,0] R)<|A8 R R R R R<|Am hm 1 R fn189 R (K114 _ _ _ _ _) fun r2 hm=>Ab R R (Bg true R R R)<|Be (Ce [1,1,1,0] R)<|J 6 R R (Bj hm)) (fun _ K' h7 J hm=>Aa tbk [] 7 R R<|J 6 R R (Bj hm)) fun c2 hm=>Ab R R (Ai R)<|Ad<|Rt1 hm R [3] R R R

/-! trireme/apart.Near -/
def apart_Near.l1 (p : T_api_Pod) (on_ : ByteArray) (r2 : (List (ByteArray × ByteArray))) : List T_api_Bound → Nat → Option (Out Bool Unit)
 | [], k => some (Out.go ())
 | x :: l, k =>
  if ((V.seq x.On (⟨#[]⟩ : ByteArray)) || (V.seq x.Pod.Name p.Name)) = true then
   apart_Near.l1 p on_ r2 l (k + 1)
  else
   (apart_place_bars (⟨r2⟩ : T_apart_place) p x.Pod on_ x.On).bind fun r3 =>
   (if r3 = true then some true else (apart_place_bars (⟨r2⟩ : T_apart_place) x.Pod p x.On on_).bind fun r4 =>
   some r4).bind fun c =>
   if c = true then
    some (Out.ret true)
   else
    apart_Near.l1 p on_ r2 l (k + 1)
def apart_Near (ms : List T_api_Machine) (bs : List T_api_Bound) (p : T_api_Pod) (on_ : ByteArray) : Option Bool :=
 (yard_Find ms on_).bind fun r =>
 if (decide (r < 0)) = true then
  some false
 else
  (apart_zones ms).bind fun r2 =>
  (apart_Near.l1 p on_ r2 bs 0).bind fun o =>
  o.on fun j =>
  some false
theorem K116 (ms : List T_api_Machine) (bs : List T_api_Bound) (p : T_api_Pod) (on_ : ByteArray) : VS Tryz.prog 158 (apart_Near ms bs p on_) [L30 ms, L50 bs, T_api_Pod.vv p, .str on_] [] .bool N0 := by
 refine A2 [.tmp 8] Tryz.func158 R R R fun r hm=>?_
 unfold apart_Near at hm
 refine Ah<|Ac R R<|A9 R R fun b=>Ab R R (Ai R)<|Ad<|Ae<|Ah<|Aa tbk [] 2 R R<|Ac R R<|Am hm 0 R fn78 R (K74 _ _) fun r hm=>Ab R R (A5 R R R)<|Ad<|Ak hm R (fun h3 hm=>Ag tbk [] R R<|Rt1 hm R [] R R R) fun h3 hm=>Aj<|Ah<|Ab R R (Al R)<|Ac R R<|VO.cl1 hm 0 R fn176 R (K113 _) fun r2 b2 hm=>Ab R R (Bi pl185 R R)<|Ac R R<|Ay z185 fun b3=>Ac R R<|An (i:=0) R R R ld185 R R R<|Ad<|Ae<|Ah<|Ab R R (Al R)<|Ab R R (Ax T_api_Bound.vv R Bn)<|Ab R R (Al R)<|Ad<|Cf 19 R fun h9=>Bu hm (fun _ (_:Unit)=>[]) (fun _ (_:Unit)=>[]) (fun o hm h8=>?_) fun j _ hm=> ?_
 ·refine Cq (bs) (fun zl zk (zs:Unit)=>apart_Near.l1 p on_ r2 zl zk) (fun k _ (_:Unit)=>[(3,.str on_),(6,.ptr b 0),(9,.ptr b3 0),(19,L50 bs),(20,Iw (bs.length : Int)),(21,Iw (k : Int))]) (fun _ _ (_:Unit)=>[.box b3 185 [.map b2],.map b2 (List.map (pf VV.str VV.str) ((⟨r2⟩ : T_apart_place).zones)),X48 b p]) () () hm (Af [0,0,0] R R) (fun k _ _ hk hm=>?_) fun k x l _ _ h10 hm=> ?_
  ·rw [apart_Near.l1] at hm
   exact Ag tbk [] R R<|Ae<|Ca R (k_end hk)<|A3<|Ar () hm (Af [] R R)
  rw [apart_Near.l1] at hm
  exact Ag tbk [] R R<|Ae<|B8 R (k_lt h10)<|Aj<|Ae<|Az<|Ah<|Ab R R (Cj T_api_Bound.vv R R el23 h10)<|Ab R R (Bl R ld50 R)<|Ac R R<|Ay z50 fun b4=>Ac R R<|An (i:=0) R R R ld50 R R R<|Ad<|Ae<|Ah<|Aa tbk [0] 4 R R<|Cn tbk [0,3] 7 35 28 R R R R R<|Ad<|Ak hm R (fun h13 hm=>A3<|A6 tbk [] R R<|Ap () () hm (Bt [1,1,1] R ⟨R,R,R,R,R,congrArg some (k_next h10 h9),trivial⟩)) fun h13 hm=>Aj<|Ah<|Aa tbk [1,3,0,0] 7 R R<|Be (Ce [2,0,0,0] R)<|Ac R R<|Am hm 1 R fn177 R (K115 _ _ _ _ _ _) fun r3 hm=>Ab R R (Al R)<|Bf hm 9 53 44 R (fun _ K' h15 J hm=>Aa tbk [] 9 R R<|J 8 R R (Bj hm)) (fun _ K' h15 J hm=>Aa tbk [2,1,3,1] 7 R R<|A8 R R R R R<|Am hm 1 R fn177 R (K115 _ _ _ _ _ _) fun r4 hm=>Ab R R (Bg false R R R)<|J 8 R R (Bj hm)) fun c hm=>Ad<|Ak hm R (fun h18 hm=>Ag tbk [] R R<|have hm:=Lr hm h8;Rt1 hm R [] R R R) fun h18 hm=>Aj<|A6 tbk [] R R<|Ap () () hm (Bt [2,0,1] R ⟨R,R,R,R,R,congrArg some (k_next h10 h9),trivial⟩)
 exact Ag tbk [] R R<|Rt1 hm R [] R R R

/-! trireme/apart.tally -/
def apart_tally.l1 (p : T_api_Pod) (r : (List (ByteArray × ByteArray))) : List T_api_Bound → Nat → (List (ByteArray × Int)) → Option (List (ByteArray × Int))
 | [], k, n2 => some n2
 | x :: l, k, n2 =>
  (if ((((V.mg r x.On).isSome) && (!(V.seq x.On (⟨#[]⟩ : ByteArray)))) && (!(V.seq x.Pod.Name p.Name))) = true then (labels_Has x.Pod.Labels p.Spread).bind fun r2 =>
  some r2 else some false).bind fun c =>
  if c = true then
   apart_tally.l1 p r l (k + 1) (V.mp n2 ((V.mg r x.On).getD (⟨#[]⟩ : ByteArray)) (i64.wrap (((V.mg n2 ((V.mg r x.On).getD (⟨#[]⟩ : ByteArray))).getD 0) + 1)))
  else
   apart_tally.l1 p r l (k + 1) n2
def apart_tally (ms : List T_api_Machine) (bs : List T_api_Bound) (p : T_api_Pod) : Option (List (ByteArray × Int)) :=
 (apart_zones ms).bind fun r =>
 (apart_tally.l1 p r bs 0 ([] : List (ByteArray × Int))).bind fun n32 =>
 some n32
theorem K117 (ms : List T_api_Machine) (bs : List T_api_Bound) (p : T_api_Pod) : VS1 Tryz.prog 190 (apart_tally ms bs p) [L30 ms, L50 bs, T_api_Pod.vv p] [] (fun r b_0=>.map b_0) (fun r b_0=>[.map b_0 (List.map (pf VV.str (VV.int .i64)) r)]) := by
 refine VS1.run [.tmp 6] Tryz.func190 R R R fun r hm=>?_
 unfold apart_tally at hm
 refine Ah<|Ac R R<|A9 R R fun b=>Ab R R (Ai R)<|Ad<|Ah<|Ab R R (Al R)<|Ac R R<|VO.cl1 hm 0 R fn176 R (K113 _) fun r b2 hm=>Ab R R (Ai R)<|Ad<|Ah<|Ac R R<|Di fun b3=>Ab R R (Ai R)<|Ad<|Ae<|Ah<|Ab R R (Al R)<|Ab R R (Ax T_api_Bound.vv R Bn)<|Ab R R (Al R)<|Ad<|Cf 16 R fun h7=>Bx hm (fun _ (_:Unit)=>[(8,.map b3)]) (fun n32 (_:Unit)=>[.map b3 (List.map (pf VV.str (VV.int .i64)) n32)]) (fun o hm=>?_) fun n32 _ hm=> ?_
 ·refine Cq (bs) (fun zl zk (zs:List (ByteArray × Int))=>apart_tally.l1 p r zl zk zs) (fun k _ (_:Unit)=>[(5,.ptr b 0),(7,.map b2),(8,.map b3),(16,L50 bs),(17,Iw (bs.length : Int)),(18,Iw (k : Int))]) (fun _ zs (_:Unit)=>[.map b3 (List.map (pf VV.str (VV.int .i64)) zs),.map b2 (List.map (pf VV.str VV.str) r),X48 b p]) _ () hm (Af [0,0,0] R R) (fun k n2 _ hk hm=>?_) fun k x l n2 _ h8 hm=> ?_
  ·rw [apart_tally.l1] at hm
   exact Ag tbk [] R R<|Ae<|Ca R (k_end hk)<|A3<|As () hm (Af [0] R R)
  rw [apart_tally.l1] at hm
  exact Ag tbk [] R R<|Ae<|B8 R (k_lt h8)<|Aj<|Ae<|Az<|Ah<|Ab R R (Cj T_api_Bound.vv R R el23 h8)<|Ab R R (Bl R ld50 R)<|Ac R R<|Ay z50 fun b4=>Ac R R<|An (i:=0) R R R ld50 R R R<|Ad<|Ah<|Aa tbk [0] 3 R R<|Ab R R (C2 2 (kf:=VV.str) (vf:=VV.str) (l:=r) (k:=x.On) (z:=(⟨#[]⟩ : ByteArray)) true mk9 Cy R R R zc9 R)<|Aa tbk [] 5 R R<|Ad<|Ah<|Aa tbk [] 2 R R<|B0 tbk [0] 4 34 30 R R R R R<|Ab R R (Al R)<|B0 tbk [0,3] 7 42 35 R R R R R<|Ab R R (Al R)<|Bf hm 7 50 43 R (fun _ K' h12 J hm=>Aa tbk [0,3] 5 R R<|A8 R R R R R<|Am hm 0 R fn169 R (K77 _ _) fun r2 hm=>Ab R R (Bg true R R R)<|J 6 R R (Bj hm)) (fun _ K' h12 J hm=>Aa tbk [] 7 R R<|J 6 R R (Bj hm)) fun c hm=>Ad<|Ak hm R (fun h15 hm=>Bo<|Aa tbk [] 2 R R<|Ab R R (C2 1 (kf:=VV.str) (vf:=(VV.int .i64)) (l:=n2) (k:=((V.mg r x.On).getD (⟨#[]⟩ : ByteArray))) (z:=(0 : Int)) false mk9 Cu R R R zc3 R)<|Ab R R (A5 R R R)<|Ac R R<|Df 1 (kf:=VV.str) (vf:=(VV.int .i64)) (l:=n2) (k:=((V.mg r x.On).getD (⟨#[]⟩ : ByteArray))) (z:=(IntKind.i64.wrap (((V.mg n2 ((V.mg r x.On).getD (⟨#[]⟩ : ByteArray))).getD (0 : Int)) + (1 : Int)))) mk9 Cu R R R R<|Ad<|A6 tbk [] R R<|Ap _ () hm (Bt [1,1,1] R ⟨R,R,R,R,R,congrArg some (k_next h8 h7),trivial⟩)) fun h15 hm=>Aj<|A6 tbk [] R R<|Ap _ () hm (Bt [1,1,1] R ⟨R,R,R,R,R,congrArg some (k_next h8 h7),trivial⟩)
 exact Ag tbk [] R R<|Rg1 hm R [0] b3 (.cons (.tmp _ _ R) .nil) R R

/-! trireme/yard.Zones -/
def yard_Zones.l1 : List T_api_Machine → Nat → (List (ByteArray × Int)) → (List ByteArray) → Option (List ByteArray)
 | [], k, had2, l2 => some l2
 | x :: l4, k, had2, l2 =>
  (labels_Get x.Labels (⟨#[122, 111, 110, 101]⟩ : ByteArray)).bind fun r =>
  if ((!r.2) || (!x.Ready)) = true then
   yard_Zones.l1 l4 (k + 1) had2 l2
  else
   if (((V.mg (V.mp had2 r.1 (i64.wrap (((V.mg had2 r.1).getD 0) + 1))) r.1).getD 0) == 1) = true then
    (V.ap 16 l2 [r.1]).bind fun l5 =>
    yard_Zones.l1 l4 (k + 1) (V.mp had2 r.1 (i64.wrap (((V.mg had2 r.1).getD 0) + 1))) l5
   else
    yard_Zones.l1 l4 (k + 1) (V.mp had2 r.1 (i64.wrap (((V.mg had2 r.1).getD 0) + 1))) l2
def yard_Zones (ms : List T_api_Machine) : Option (List ByteArray) :=
 (yard_Zones.l1 ms 0 ([] : List (ByteArray × Int)) ([] : List ByteArray)).bind fun l32 =>
 some l32
theorem K118 (ms : List T_api_Machine) : VS2 Tryz.prog 191 (yard_Zones ms) [L30 ms] [] (fun r ob0 cap0=>Z9 ob0 r cap0) (fun r ob0 cap0=>[Q9 ob0 cap0 r]) := by
 refine Cg [.tmp 2] Tryz.func191 R R R fun r hm=>?_
 unfold yard_Zones at hm
 refine Ag tbk [] R R<|Ah<|Ac R R<|Di fun b=>Ab R R (Ai R)<|Ad<|Ag tbk [] R R<|Ae<|Ah<|Ab R R (Al R)<|Ab R R (Ax T_api_Machine.vv R Bv)<|Ab R R (Al R)<|Ad<|Cf 10 R fun h6=>Bx hm (fun l32 (gg:Option Nat × Nat)=>[(4,Z9 gg.1 l32 gg.2)]) (fun l32 (gg:Option Nat × Nat)=>[Q9 gg.1 gg.2 l32]) (fun o hm=>?_) fun l32=>Pq fun ob3 cap3 hm=> ?_
 ·refine Cq (ms) (fun zl zk (zs:List (ByteArray × Int) × List ByteArray)=>yard_Zones.l1 zl zk zs.1 zs.2) (fun k zs (zg:Option Nat × Nat)=>[(3,.map b),(4,Z9 zg.1 zs.2 zg.2),(10,L30 ms),(11,Iw (ms.length : Int)),(12,Iw (k : Int))]) (fun _ zs (zg:Option Nat × Nat)=>[Q9 zg.1 zg.2 zs.2,.map b (List.map (pf VV.str (VV.int .i64)) zs.1)]) (([] : List (ByteArray × Int)),([] : List ByteArray)) (none,0) hm (Ba (Bb 9) (Af [0,0] R R)) (fun k=>Pq fun had2 l2=>Pq fun ob2 cap2 hk hm=>?_) fun k x l4=>Pq fun had2 l2=>Pq fun ob2 cap2 h7 hm=> ?_
  ·rw [yard_Zones.l1] at hm
   exact Ag tbk [] R R<|Ae<|Ca R (k_end hk)<|A3<|As (ob2,cap2) hm (Af [0] R R)
  rw [yard_Zones.l1] at hm
  exact Ag tbk [] R R<|Ae<|B8 R (k_lt h7)<|Aj<|Ae<|Az<|Ah<|Ab R R (Cj T_api_Machine.vv R R el22 h7)<|Ab R R (Bl R ld30 R)<|Ac R R<|Ay z30 fun b2=>Ac R R<|An (i:=0) R R R ld30 R R R<|Ad<|Ah<|Aa tbk [0] 2 R R<|Ac R R<|Am hm 0 R fn185 R (K76 _ _) fun r hm=>Aa tbk [] 5 R R<|Ad<|Ae<|Ah<|Aa tbk [] 3 R R<|Cn tbk [0] 4 28 24 R R R R R<|Ad<|Ak hm R (fun h11 hm=>A3<|A6 tbk [] R R<|Ap (had2,l2) (ob2,cap2) hm (Bt [1,1] R ⟨R,R,R,R,congrArg some (k_next h7 h6),trivial⟩)) fun h11 hm=>Aj<|Ah<|Aa tbk [] 2 R R<|Ab R R (C2 2 (kf:=VV.str) (vf:=(VV.int .i64)) (l:=had2) (k:=r.1) (z:=(0 : Int)) false mk9 Cu R R R zc3 R)<|Ab R R (A5 R R R)<|Ac R R<|Df 2 (kf:=VV.str) (vf:=(VV.int .i64)) (l:=had2) (k:=r.1) (z:=(IntKind.i64.wrap (((V.mg had2 r.1).getD (0 : Int)) + (1 : Int)))) mk9 Cu R R R R<|Ad<|Ah<|Aa tbk [] 2 R R<|Ab R R (C2 2 (kf:=VV.str) (vf:=(VV.int .i64)) (l:=(V.mp had2 r.1 (IntKind.i64.wrap (((V.mg had2 r.1).getD (0 : Int)) + (1 : Int))))) (k:=r.1) (z:=(0 : Int)) false mk9 Cu R R R zc3 R)<|Ab R R (A5 R R R)<|Ad<|Ak hm R (fun h12 hm=>Bo<|Aa tbk [] 2 R R<|Ac R R<|A7 ap51 R R R R R fun b3=>Bd hm fun l5 h14 hm=>Ac R R<|Bz 2 VV.str (l:=l2) (l2:=[r.1]) ap51 R R (sT_row 0 VV.str el51 R R) h14 fun ob4 cap4=>Ab R R (Ai R)<|Ad<|A6 tbk [] R R<|Ap ((V.mp had2 r.1 (IntKind.i64.wrap (((V.mg had2 r.1).getD (0 : Int)) + (1 : Int)))),l5) (ob4,cap4) hm (Bt [2,2] R ⟨R,R,R,R,congrArg some (k_next h7 h6),trivial⟩)) fun h12 hm=>Aj<|A6 tbk [] R R<|Ap ((V.mp had2 r.1 (IntKind.i64.wrap (((V.mg had2 r.1).getD (0 : Int)) + (1 : Int)))),l2) (ob2,cap2) hm (Bt [1,1] R ⟨R,R,R,R,congrArg some (k_next h7 h6),trivial⟩)
 exact Ag tbk [] R R<|Rg2 hm R [0] ob3 cap3 (.cons (.tmp _ _ R) .nil) R R

/-! trireme/apart.Counts -/
def apart_Counts.l1 (r : (List (ByteArray × Int))) : List ByteArray → Nat → (List Int) → Option (List Int)
 | [], k, out2 => some out2
 | x :: l, k, out2 =>
  (V.ap 8 out2 [((V.mg r x).getD 0)]).bind fun out4 =>
  apart_Counts.l1 r l (k + 1) out4
def apart_Counts (ms : List T_api_Machine) (bs : List T_api_Bound) (p : T_api_Pod) : Option (List ByteArray × List Int) :=
 (apart_tally ms bs p).bind fun r =>
 (yard_Zones ms).bind fun r2 =>
 (apart_Counts.l1 r r2 0 ([] : List Int)).bind fun out32 =>
 some (r2, out32)
theorem K119 (ms : List T_api_Machine) (bs : List T_api_Bound) (p : T_api_Pod) : VS2 Tryz.prog 178 (apart_Counts ms bs p) [L30 ms, L50 bs, T_api_Pod.vv p] [] (fun r ob1 cap1=>.tup [L9 r.1, Z3 ob1 r.2 cap1]) (fun r ob1 cap1=>[Q3 ob1 cap1 r.2]) := by
 refine Cg [.tmp 6,.tmp 7] Tryz.func178 R R R fun r hm=>?_
 unfold apart_Counts at hm
 refine Ah<|Ac R R<|A9 R R fun b=>Aa tbk [] 2 R R<|Ad<|Ah<|Aa tbk [0] 3 R R<|Ac R R<|VO.cl1 hm 0 R fn190 R (K117 _ _ _) fun r b2 hm=>Ab R R (Ai R)<|Ad<|Ah<|Ab R R (Al R)<|Ac R R<|B7 hm 0 R fn191 R (K118 _) fun r2 ob cap hm=>Be (Aw 0 [(18,L9 r2)] R ⟨⟨_,R,.here _ R⟩,trivial⟩ (FzH.refl _))<|Ab R R (Ai R)<|Ad<|Ag tbk [] R R<|Ae<|Ah<|Ab R R (Al R)<|Ab R R (Ax VV.str R Br)<|Ab R R (Al R)<|Ad<|Cf 9 R fun h10=>Bx hm (fun out32 (gg:Option Nat × Nat)=>[(9,L9 r2),(10,Z3 gg.1 out32 gg.2)]) (fun out32 (gg:Option Nat × Nat)=>[Q3 gg.1 gg.2 out32]) (fun o hm=>?_) fun out32=>Pq fun ob4 cap4 hm=> ?_
 ·refine Cq (r2) (fun zl zk (zs:List Int)=>apart_Counts.l1 r zl zk zs) (fun k zs (zg:Option Nat × Nat)=>[(8,.map b2),(9,L9 r2),(10,Z3 zg.1 zs zg.2),(19,L9 r2),(20,Iw (r2.length : Int)),(21,Iw (k : Int))]) (fun _ zs (zg:Option Nat × Nat)=>[Q3 zg.1 zg.2 zs,.map b2 (List.map (pf VV.str (VV.int .i64)) r)]) _ (none,0) hm (Ba (Bb 3) (Af [0,0] R R)) (fun k out2=>Pq fun ob3 cap3 hk hm=>?_) fun k x l out2=>Pq fun ob3 cap3 h11 hm=> ?_
  ·rw [apart_Counts.l1] at hm
   exact Ag tbk [] R R<|Ae<|Ca R (k_end hk)<|A3<|As (ob3,cap3) hm (Af [0] R R)
  rw [apart_Counts.l1] at hm
  exact Ag tbk [] R R<|Ae<|B8 R (k_lt h11)<|Aj<|Ae<|Az<|Ah<|Ab R R (Cj VV.str R R el51 h11)<|Aa tbk [] 2 R R<|Ad<|Bo<|Aa tbk [] 3 R R<|Ab R R (C2 1 (kf:=VV.str) (vf:=(VV.int .i64)) (l:=r) (k:=x) (z:=(0 : Int)) false mk9 Cu R R R zc3 R)<|Ac R R<|A7 ap41 R R R R R fun b3=>Bd hm fun out4 h13 hm=>Ac R R<|Bz 1 (VV.int .i64) (l:=out2) (l2:=[((V.mg r x).getD (0 : Int))]) ap41 R R (sT_row 0 (VV.int .i64) el41 R R) h13 fun ob5 cap5=>Ab R R (Ai R)<|Ad<|A6 tbk [] R R<|Ap _ (ob5,cap5) hm (Bt [1,1] R ⟨R,R,R,R,R,congrArg some (k_next h11 h10),trivial⟩)
 exact Ag tbk [] R R<|Rg2 hm R [0] ob4 cap4 (.cons (.tmp _ _ R) (.cons (.tmp _ _ R) .nil)) R R

/-! trireme/apart.Many -/
def apart_Many.l1 (on_ : ByteArray) (r2 : (List (ByteArray × ByteArray))) (r3 : List ByteArray × List Int) : List ByteArray → Nat → Bool → Int → Int → Option (Bool × Int × Int)
 | [], k, met2, mine2, least2 => some (met2, mine2, least2)
 | x :: l, k, met2, mine2, least2 =>
  (V.gl r3.2 (k : Int)).bind fun x2 =>
  if (((V.mg r2 on_).isSome) && (V.seq x ((V.mg r2 on_).getD (⟨#[]⟩ : ByteArray)))) = true then
   (V.gl r3.2 (k : Int)).bind fun x3 =>
   apart_Many.l1 on_ r2 r3 l (k + 1) true x3 (min least2 x2)
  else
   apart_Many.l1 on_ r2 r3 l (k + 1) met2 mine2 (min least2 x2)
def apart_Many (ms : List T_api_Machine) (bs : List T_api_Bound) (p : T_api_Pod) (on_ : ByteArray) : Option Bool :=
 (if ((p.Spread.length : Int) == 0) = true then some true else (yard_Find ms on_).bind fun r =>
 some (decide (r < 0))).bind fun c =>
 if c = true then
  some false
 else
  (apart_zones ms).bind fun r2 =>
  (apart_Counts ms bs p).bind fun r3 =>
  (apart_Many.l1 on_ r2 r3 r3.1 0 false 0 (401 : Int)).bind fun j =>
  (labels_Has p.Labels p.Spread).bind fun r4 =>
  if r4 = true then
   some ((!j.1) || (decide ((i64.wrap (j.2.1 + 1)) > (i64.wrap (j.2.2 + p.Skew)))))
  else
   some ((!j.1) || (decide (j.2.1 > (i64.wrap (j.2.2 + p.Skew)))))
theorem K120 (ms : List T_api_Machine) (bs : List T_api_Bound) (p : T_api_Pod) (on_ : ByteArray) : VS Tryz.prog 159 (apart_Many ms bs p on_) [L30 ms, L50 bs, T_api_Pod.vv p, .str on_] [] .bool N0 := by
 refine A2 [.tmp 8] Tryz.func159 R R R fun r hm=>?_
 unfold apart_Many at hm
 refine Ah<|Ac R R<|A9 R R fun b=>Ab R R (Ai R)<|Ad<|Ae<|Ah<|Aa tbk [0] 2 R R<|Ab R R (Ax T_api_Label.vv R Bp)<|Aa tbk [] 2 R R<|Bf hm 5 27 22 R (fun _ K' h2 J hm=>Aa tbk [] 5 R R<|J 4 R R (Bj hm)) (fun _ K' h2 J hm=>Aa tbk [] 2 R R<|A8 R R R R R<|Am hm 0 R fn78 R (K74 _ _) fun r hm=>Aa tbk [] 2 R R<|J 4 R R (Bj hm)) fun c hm=>Ad<|Ak hm R (fun h5 hm=>Ag tbk [] R R<|Rt1 hm R [] R R R) fun h5 hm=>Aj<|Ah<|Ab R R (Al R)<|Ac R R<|VO.cl1 hm 0 R fn176 R (K113 _) fun r2 b2 hm=>Ab R R (Al R)<|Ab R R (C2 0 (kf:=VV.str) (vf:=VV.str) (l:=r2) (k:=on_) (z:=(⟨#[]⟩ : ByteArray)) true mk9 Cy R R R zc9 R)<|Aa tbk [] 5 R R<|Ad<|Ah<|Aa tbk [1] 3 R R<|Ac R R<|B7 hm 0 R fn178 R (K119 _ _ _) fun r3 ob cap hm=>Aa tbk [] 5 R R<|Ad<|Ag tbk [] R R<|Ag tbk [] R R<|Ae<|Ah<|Ab R R (Al R)<|Ab R R (Ax VV.str R Br)<|Ab R R (Al R)<|Ad<|Cf 42 R fun h12=>Bx hm (fun j (_:Unit)=>[(6,.ptr b 0),(13,.bool j.1),(14,Iw j.2.1),(15,Iw j.2.2)]) (fun _ (_:Unit)=>[X48 b p]) (fun o hm=>?_) fun j _ hm=> ?_
 ·refine Cq (r3.1) (fun zl zk (zs:Bool × Int × Int)=>apart_Many.l1 on_ r2 r3 zl zk zs.1 zs.2.1 zs.2.2) (fun k zs (zg:Option Nat)=>[(6,.ptr b 0),(9,.str ((V.mg r2 on_).getD (⟨#[]⟩ : ByteArray))),(10,.bool ((V.mg r2 on_).isSome)),(12,Z3 zg r3.2 cap),(13,.bool zs.1),(14,Iw zs.2.1),(15,Iw zs.2.2),(42,L9 r3.1),(43,Iw (r3.1.length : Int)),(44,Iw (k : Int))]) (fun _ _ (zg:Option Nat)=>[Q3 zg cap r3.2,X48 b p]) (false,(0 : Int),(401 : Int)) _ hm (Af [0,1] R R) (fun k=>Pq fun met2=>Pq fun mine2 least2 ob3 hk hm=>?_) fun k x l=>Pq fun met2=>Pq fun mine2 least2 ob3 h13 hm=> ?_
  ·rw [apart_Many.l1] at hm
   exact Ag tbk [] R R<|Ae<|Ca R (k_end hk)<|A3<|As () hm (Af [1] R R)
  rw [apart_Many.l1] at hm
  refine Ag tbk [] R R<|Ae<|B8 R (k_lt h13)<|Aj<|Ae<|Az<|Ah<|Ab R R (Al R)<|Ab R R (Cj VV.str R R el51 h13)<|Aa tbk [] 3 R R<|Ad<|Ah<|Aa tbk [] 3 R R<|Bd hm fun x2 h14 hm=>Ci 0 R (gl_pos (VV.int .i64) h14) fun b3 h15=> ?_
  subst h15
  exact Ab R R (Cd (VV.int .i64) R R el41 h14)<|Ab R R (Cb (i:=0) (y:=(VV.int .i64) x2) R R R (gl_map _ (gl_some h14).2) ld3 R)<|Ab R R (Dg R R)<|Ab R R (Ai R)<|Ad<|Ah<|Aa tbk [] 2 R R<|B0 tbk [] 4 60 56 R R R R R<|Ad<|Ak hm R (fun h17 hm=>Bc 0 mixed<|Au tbk [0,1] [] (by kernel_rfl) R R R<|Bd hm fun x3 h18 hm=>Av 2 R R R (by kernel_rfl) (Cd (VV.int .i64) R R el41 h18)<|Av 3 R R R (by kernel_rfl) (Cb (i:=0) (y:=(VV.int .i64) x3) R R R (gl_map _ (gl_some h18).2) ld3 R)<|Au tbk [4,5] [] (by kernel_rfl) R R R<|A1 (by kernel_rfl)<|A6 tbk [] R R<|Ap (true,x3,(min least2 x2)) _ hm (Bt [0,0] R ⟨R,R,R,R,R,R,R,R,R,congrArg some (k_next h13 h12),trivial⟩)) fun h17 hm=>Aj<|A6 tbk [] R R<|Ap (met2,mine2,(min least2 x2)) _ hm (Bt [0,0] R ⟨R,R,R,R,R,R,R,R,R,congrArg some (k_next h13 h12),trivial⟩)
 exact Ae<|Ah<|Aa tbk [0,0] 4 R R<|Ac R R<|Am hm 0 R fn169 R (K77 _ _) fun r4 hm=>Ad<|Ak hm R (fun h20 hm=>A6 tbk [] R R<|Ah<|Aa tbk [] 3 R R<|Cn tbk [0] 7 82 75 R R R R R<|Ab R R (Ai R)<|Ad<|Rt1 hm R [] R R R) fun h20 hm=>Aj<|Ah<|Aa tbk [] 3 R R<|Cn tbk [0] 7 82 75 R R R R R<|Ab R R (Ai R)<|Ad<|Rt1 hm R [] R R R

/-! trireme/apart.Why -/
def apart_Why (ms : List T_api_Machine) (bs : List T_api_Bound) (p : T_api_Pod) (on_ : ByteArray) : Option Int :=
 (apart_Near ms bs p on_).bind fun r =>
 if r = true then
  some 7
 else
  (apart_Many ms bs p on_).bind fun r2 =>
  if r2 = true then
   some 8
  else
   some 0
theorem K121 (ms : List T_api_Machine) (bs : List T_api_Bound) (p : T_api_Pod) (on_ : ByteArray) : VS Tryz.prog 138 (apart_Why ms bs p on_) [L30 ms, L50 bs, T_api_Pod.vv p, .str on_] [] Iw N0 := by
 refine A2 [.tmp 8] Tryz.func138 R R R fun r hm=>?_
 unfold apart_Why at hm
 exact Ah<|Ac R R<|A9 R R fun b=>Ab R R (Ai R)<|Ad<|Ae<|Az<|Ah<|Aa tbk [0] 4 R R<|Ac R R<|Am hm 0 R fn158 R (K116 _ _ _ _) fun r hm=>Ab R R (Ai R)<|Ad<|Ak hm R (fun h3 hm=>Ag tbk [] R R<|Rt1 hm R [] R R R) fun h3 hm=>Ah<|Aa tbk [0] 4 R R<|Ac R R<|Am hm 0 R fn159 R (K120 _ _ _ _) fun r2 hm=>Ab R R (Ai R)<|Ad<|Ak hm R (fun h5 hm=>Ag tbk [] R R<|Rt1 hm R [] R R R) fun h5 hm=>Aj<|Ag tbk [] R R<|Rt1 hm R [] R R R

/-! (trireme/fit.asker).why -/
def fit_asker_why (a : T_fit_asker) (m : T_api_Machine) : Option Int :=
 (suit_Suits m a.bs a.p).bind fun r =>
 if (r != 0) = true then
  some r
 else
  (apart_Why a.ms a.bs a.p m.Name).bind fun r2 =>
  some r2
theorem K122 (a : T_fit_asker) (m : T_api_Machine) : VS Tryz.prog 109 (fit_asker_why a m) [T_fit_asker.vv a, T_api_Machine.vv m] [] Iw N0 := by
 refine A2 [.tmp 4] Tryz.func109 R R R fun r hm=>?_
 unfold fit_asker_why at hm
 exact Ah<|Ac R R<|A9 R R fun b=>Ac R R<|A9 R R fun b2=>Ab R R (Ai R)<|Ad<|Ae<|Ah<|Aa tbk [0,1,1] 5 R R<|Ac R R<|Am hm 0 R fn137 R (K112 _ _ _) fun r hm=>Ab R R (Ai R)<|Ad<|Ag tbk [] R R<|Ak hm R (fun h4 hm=>Ag tbk [] R R<|Rt1 hm R [] R R R) fun h4 hm=>Aj<|Ah<|Aa tbk [1,1,1,0] 8 R R<|Ac R R<|Am hm 0 R fn138 R (K121 _ _ _ _) fun r2 hm=>Ab R R (Ai R)<|Ad<|Rt1 hm R [] R R R

/-! trireme/fit.Why -/
def fit_Why (ms : List T_api_Machine) (bs : List T_api_Bound) (p : T_api_Pod) (on_ : ByteArray) : Option Int :=
 (yard_Find ms on_).bind fun r =>
 if (decide (r < 0)) = true then
  some 1
 else
  (V.gl ms r).bind fun x =>
  (fit_asker_why (⟨ms, bs, p⟩ : T_fit_asker) x).bind fun r2 =>
  some r2
theorem K123 (ms : List T_api_Machine) (bs : List T_api_Bound) (p : T_api_Pod) (on_ : ByteArray) : VS Tryz.prog 95 (fit_Why ms bs p on_) [L30 ms, L50 bs, T_api_Pod.vv p, .str on_] [] Iw N0 := by
 refine A2 [.tmp 8] Tryz.func95 R R R fun r hm=>?_
 unfold fit_Why at hm
 exact Ah<|Ac R R<|A9 R R fun b=>Ab R R (Ai R)<|Ad<|Ah<|Aa tbk [] 2 R R<|Ac R R<|Am hm 0 R fn78 R (K74 _ _) fun r hm=>Ab R R (Ai R)<|Ad<|Ae<|Ag tbk [] R R<|Ak hm R (fun h3 hm=>Ag tbk [] R R<|Rt1 hm R [] R R R) fun h3 hm=>Aj<|Ae<|Bc 0 mixed<|Au tbk [0,1,2] [0] (by kernel_rfl) R R R<|Av 3 R R R (by kernel_rfl) (Bi pl138 R R)<|Au tbk [4,5] [] (by kernel_rfl) R R R<|Bd hm fun x h4 hm=>Av 6 R R R (by kernel_rfl) (A0 T_api_Machine.vv R R el22 h4)<|Av 7 R R R (by kernel_rfl) (Bl R ld30 R)<|Ao 8 (by kernel_rfl)<|Aq R R R<|Am hm 0 R fn109 R (K122 _ _) fun r2 hm=>Av 9 R R R (by kernel_rfl) (Ai R)<|A1 (by kernel_rfl)<|Rt1 hm R [] R R R

/-! trireme/pack.decimal -/
def pack_decimal : Nat → Int → Option ByteArray
 | 0, _ => none
 | nn + 1, n =>
  if (decide (n < 10)) = true then
   some (strOfNums [(IntKind.u8.wrap (i64.wrap (48 + (max n 0))))])
  else
   (V.quo n (10 : Int)).bind fun v =>
   (V.rem n (10 : Int)).bind fun v2 =>
   ((pack_decimal nn) (i64.wrap v)).bind fun r =>
   (V.cat r (strOfNums [(IntKind.u8.wrap (i64.wrap (48 + v2)))])).bind fun v3 =>
   some v3
theorem K124 (nn : Nat) : ∀ (n : Int), VS Tryz.prog 55 (pack_decimal nn n) [Iw n] [] .str N0 := by
 induction nn with
 | zero => intro n; exact VS.none (by rw [pack_decimal])
 | succ nn ih =>
  intro n
  refine A2 [.tmp 2] Tryz.func55 R R R fun r hm=>?_
  rw [pack_decimal] at hm
  refine Ag tbk [] R R<|Ae<|Ag tbk [] R R<|Ak hm R (fun h1 hm=>Ah<|Ab R R (Al R)<|Ab R R (C4 R R)<|Ab R R (A5 R R R)<|Ab R R (Cs B3 Bw R)<|Ac R R<|A7 ap122 R R R R R fun b=>Be (Aw 0 [(9,L5 [(IntKind.u8.wrap (IntKind.i64.wrap ((48 : Int) + (max n (0 : Int)))))])] R ⟨⟨_,R,.here _ R⟩,trivial⟩ (FzH.refl _))<|Ab R R (C6 (l:=[(IntKind.u8.wrap (IntKind.i64.wrap ((48 : Int) + (max n (0 : Int)))))]) el122 Bw A4 R)<|Ab R R (Ai R)<|Ad<|Rt1 hm R [] R R R) fun h1 hm=>Aj<|Ae<|Bc 0 mixed<|Av 0 R R R (by kernel_rfl) (Al R)<|Bd hm fun v h3 hm=>Av 1 R R R (by kernel_rfl) (C5 R R h3)<|Av 3 R R R (by kernel_rfl) (Al R)<|Bd hm fun v2 h4 hm=>Av 4 R R R (by kernel_rfl) (VP.remT R R h4)<|Av 5 R R R (by kernel_rfl) (A5 R R R)<|Av 6 R R R (by kernel_rfl) (Cs B3 Bw R)<|?_
  refine B2 [2,7] (by kernel_rfl) ⟨?_,?_,trivial⟩
  ·exact Aq R R R<|Am hm 0 R fn55 R (ih _) fun r hm=>Ao 7 (by kernel_rfl)<|Aq R R R<|A7 ap122 R R R R R fun b2=>Cm (Aw 0 [(18,L5 [(IntKind.u8.wrap (IntKind.i64.wrap ((48 : Int) + v2)))])] R ⟨⟨_,R,.here _ R⟩,trivial⟩ (FzH.refl _))<|Av 8 R R R (by kernel_rfl) (C6 (l:=[(IntKind.u8.wrap (IntKind.i64.wrap ((48 : Int) + v2)))]) el122 Bw A4 R)<|Bd hm fun v3 h7 hm=>Av 9 R R R (by kernel_rfl) (Bh R R h7)<|Av 10 R R R (by kernel_rfl) (Ai R)<|A1 (by kernel_rfl)<|Rt1 hm R [] R R R
  ·exact Aq R R R<|A7 ap122 R R R R R fun b3=>Cm (Aw 0 [(18,L5 [(IntKind.u8.wrap (IntKind.i64.wrap ((48 : Int) + v2)))])] R ⟨⟨_,R,.here _ R⟩,trivial⟩ (FzH.refl _))<|Av 8 R R R (by kernel_rfl) (C6 (l:=[(IntKind.u8.wrap (IntKind.i64.wrap ((48 : Int) + v2)))]) el122 Bw A4 R)<|Ao 2 (by kernel_rfl)<|Aq R R R<|Am hm 0 R fn55 R (ih _) fun r2 hm=>Bd hm fun v4 h10 hm=>Av 9 R R R (by kernel_rfl) (Bh R R h10)<|Av 10 R R R (by kernel_rfl) (Ai R)<|A1 (by kernel_rfl)<|Rt1 hm R [] R R R

/-! trireme/pack.Fresh -/
def pack_Fresh (like : T_api_Machine) (n : Int) : Option T_api_Machine :=
 (V.cat like.Group (⟨#[43]⟩ : ByteArray)).bind fun v =>
 (pack_decimal FU n).bind fun r =>
 (V.cat v r).bind fun v2 =>
 (V.ap 32 ([] : List T_api_Label) like.Labels).bind fun l =>
 (V.ap 40 ([] : List T_api_Taint) like.Taints).bind fun l2 =>
 some (⟨v2, like.Group, like.Has, l, l2, like.Ready⟩ : T_api_Machine)
theorem K125 (like : T_api_Machine) (n : Int) : VS Tryz.prog 15 (pack_Fresh like n) [T_api_Machine.vv like, Iw n] [] (fun r=>T_api_Machine.vv r) N0 := by
 refine A2 [.cell 4 30] Tryz.func15 R R R fun r hm=>?_
 unfold pack_Fresh at hm
 refine Ah<|Ac R R<|A9 R R fun b=>Ac R R<|Ay z30 fun b2=>Ad<|Ah<|Aa tbk [1] 1 R R<|Ac R R<|Ay z30 fun b3=>Ac R R<|An (i:=0) R R R ld30 R R R<|Ad<|Ae<|Bc 1 mixed<|Au tbk [0,1] [1] (by kernel_rfl) R R R<|Bd hm fun v h4 hm=>Av 2 R R R (by kernel_rfl) (Bh R R h4)<|Av 3 R R R (by kernel_rfl) (Al R)<|Ao 4 (by kernel_rfl)<|Aq R R R<|Am hm 0 R fn55 R (K124 FU _) fun r hm=>Bd hm fun v2 h6 hm=>Av 5 R R R (by kernel_rfl) (Bh R R h6)<|Av 6 R R R (by kernel_rfl) (Dc R fa30_0)<|Ao 7 (by kernel_rfl)<|Aq R R R<|An (i:=0) R R R ld9 R R R<|A1 (by kernel_rfl)<|Ah<|Aa tbk [0] 2 R R<|Be (Bb 124)<|Bd hm fun l h8 hm=>Ac R R<|Bz 0 T_api_Label.vv (l:=([] : List T_api_Label)) (l2:=like.Labels) ap27 R R (sT_list T_api_Label.vv el27 R R) h8 fun ob cap=>Ab R R (Dc R fa30_3)<|Ac R R<|An (i:=1) R R R ld27 R R R<|Ad<|Ah<|Aa tbk [1] 2 R R<|Be (Bb 126)<|Bd hm fun l2 h10 hm=>Ac R R<|Bz 0 T_api_Taint.vv (l:=([] : List T_api_Taint)) (l2:=like.Taints) ap28 R R (sT_list T_api_Taint.vv el28 R R) h10 fun ob2 cap2=>Ab R R (Dc R fa30_4)<|Ac R R<|An (i:=2) R R R ld28 R R R<|Ad<|Ah<|Aa tbk [2] 1 R R<|Ac R R<|An (i:=3) R R R ld30 R R R<|Ad<|B6 (Aw (H':=[Q126 ob2 cap2 l2,.box b3 30 [.str v2,.str like.Group,Iw like.Has.Cpu,Iw like.Has.Mem,Iw like.Has.Disk,Iw like.Has.Pods,Iw like.Has.Dev,L124 l,Z126 ob2 l2 cap2,.bool like.Ready],.box b2 30 [.str v2,.str like.Group,Iw like.Has.Cpu,Iw like.Has.Mem,Iw like.Has.Disk,Iw like.Has.Pods,Iw like.Has.Dev,L124 l,Z126 ob2 l2 cap2,.bool like.Ready],X30 b like]) 1 [(16,L124 l),(22,.agg [.str v2,.str like.Group,Iw like.Has.Cpu,Iw like.Has.Mem,Iw like.Has.Disk,Iw like.Has.Pods,Iw like.Has.Dev,L124 l,Z126 ob2 l2 cap2,.bool like.Ready])] R ⟨⟨_,R,.here _ R⟩,⟨_,R,.aggL ⟨.same _,.same _,.same _,.same _,.same _,.same _,.same _,.here _ R,.same _,.same _,trivial⟩⟩,trivial⟩ ⟨.same _,.box _ _ _ _ ⟨.same _,.same _,.same _,.same _,.same _,.same _,.same _,.here _ R,.same _,.same _,trivial⟩,.box _ _ _ _ ⟨.same _,.same _,.same _,.same _,.same _,.same _,.same _,.here _ R,.same _,.same _,trivial⟩,.same _,trivial⟩)<|B6 (Aw (H':=[X30 b3 (⟨v2,like.Group,like.Has,l,l2,like.Ready⟩ : T_api_Machine),X30 b2 (⟨v2,like.Group,like.Has,l,l2,like.Ready⟩ : T_api_Machine),X30 b like]) 0 [(20,L126 l2),(22,T_api_Machine.vv (⟨v2,like.Group,like.Has,l,l2,like.Ready⟩ : T_api_Machine))] R ⟨⟨_,R,.here _ R⟩,⟨_,R,.aggL ⟨.same _,.same _,.same _,.same _,.same _,.same _,.same _,.same _,.here _ R,.same _,trivial⟩⟩,trivial⟩ ⟨.box _ _ _ _ ⟨.same _,.same _,.same _,.same _,.same _,.same _,.same _,.same _,.here _ R,.same _,trivial⟩,.box _ _ _ _ ⟨.same _,.same _,.same _,.same _,.same _,.same _,.same _,.same _,.here _ R,.same _,trivial⟩,.same _,trivial⟩)<|?_
 exact Rt0 hm R [] (.cons (.cell _ _ _ _ 1 _ _ _ _ R R ld30 R) .nil) R R

/-! (*trireme/pack.packer).place -/
def pack_packer_place.l1 (x : T_pack_packer) (p : T_api_Pod) : Nat → Int → Option (Out (ByteArray × T_pack_packer) Unit)
 | 0, _ => none
 | n + 1, v2 =>
  if (decide (v2 < (x.names.length : Int))) = true then
   (V.gl x.names v2).bind fun x2 =>
   (fit_Why x.ms x.bs p x2).bind fun r =>
   if (r == 0) = true then
    some (Out.ret (x2, x))
   else
    pack_packer_place.l1 x p n (i64.wrap (v2 + 1))
  else
   some (Out.go ())
def pack_packer_place (x : T_pack_packer) (p : T_api_Pod) : Option (ByteArray × T_pack_packer) :=
 (pack_packer_place.l1 x p FU (0 : Int)).bind fun o =>
 o.on fun j =>
 if (decide ((x.names.length : Int) ≥ x.limit)) = true then
  some ((⟨#[]⟩ : ByteArray), x)
 else
  ((pack_Fresh x.like (i64.wrap ((x.names.length : Int) + 1))).bind fun r2 =>
  some r2).bind fun m2 =>
  (V.sl x.ms none (some (x.ms.length : Int))).bind fun v3 =>
  (V.ap 128 v3 [m2]).bind fun l2 =>
  (fit_Why l2 x.bs p m2.Name).bind fun r4 =>
  if (r4 != 0) = true then
   some ((⟨#[]⟩ : ByteArray), x)
  else
   (V.ap 16 x.names [m2.Name]).bind fun l3 =>
   some (m2.Name, (⟨l2, x.bs, x.like, l3, x.limit⟩ : T_pack_packer))
theorem K126 (x : T_pack_packer) (p : T_api_Pod) (b : Nat) (ob : Option Nat) (cap : Nat) : VS2 Tryz.prog 53 (pack_packer_place x p) [.ptr b 0, T_api_Pod.vv p] [.box b 88 [L30 x.ms, L50 x.bs, .str x.like.Name, .str x.like.Group, Iw x.like.Has.Cpu, Iw x.like.Has.Mem, Iw x.like.Has.Disk, Iw x.like.Has.Pods, Iw x.like.Has.Dev, L124 x.like.Labels, L126 x.like.Taints, .bool x.like.Ready, Z9 ob x.names cap, Iw x.limit], Q9 ob cap x.names] (fun r ob0_12 cap0_12=>.str r.1) (fun r ob0_12 cap0_12=>[.box b 88 [L30 r.2.ms, L50 r.2.bs, .str r.2.like.Name, .str r.2.like.Group, Iw r.2.like.Has.Cpu, Iw r.2.like.Has.Mem, Iw r.2.like.Has.Disk, Iw r.2.like.Has.Pods, Iw r.2.like.Has.Dev, L124 r.2.like.Labels, L126 r.2.like.Taints, .bool r.2.like.Ready, Z9 ob0_12 r.2.names cap0_12, Iw r.2.limit], Q9 ob0_12 cap0_12 r.2.names]) := by
 refine Cg [.tmp 4] Tryz.func53 R R R fun r hm=>?_
 unfold pack_packer_place at hm
 refine Ah<|Ac R R<|A9 R R fun b2=>Ab R R (Ai R)<|Ad<|Ae<|Ah<|Aa tbk [1] 4 R R<|Ab R R (Cr VV.str R Br)<|Ab R R (Al R)<|Ad<|Bu hm (fun _ (gg:Option Nat)=>[(0,.ptr b 0),(3,.ptr b2 0)]) (fun _ (gg:Option Nat)=>[X48 b2 p,.box b 88 [L30 x.ms,L50 x.bs,.str x.like.Name,.str x.like.Group,Iw x.like.Has.Cpu,Iw x.like.Has.Mem,Iw x.like.Has.Disk,Iw x.like.Has.Pods,Iw x.like.Has.Dev,L124 x.like.Labels,L126 x.like.Taints,.bool x.like.Ready,Z9 gg x.names cap,Iw x.limit],Q9 gg cap x.names]) (fun o hm h3=>?_) fun j ob4 hm=> ?_
 ·refine Bm (fun zn (zs:Int)=>pack_packer_place.l1 x p zn zs) (fun zs (zg:Option Nat)=>[(0,.ptr b 0),(3,.ptr b2 0),(12,Z9 zg x.names cap),(13,Iw (x.names.length : Int)),(14,Iw zs)]) (fun _ (zg:Option Nat)=>[X48 b2 p,.box b 88 [L30 x.ms,L50 x.bs,.str x.like.Name,.str x.like.Group,Iw x.like.Has.Cpu,Iw x.like.Has.Mem,Iw x.like.Has.Disk,Iw x.like.Has.Pods,Iw x.like.Has.Dev,L124 x.like.Labels,L126 x.like.Taints,.bool x.like.Ready,Z9 zg x.names cap,Iw x.limit],Q9 zg cap x.names]) _ _ (fun _=>R) hm (Af [0,0,0] R R) fun n v2 ob3 hm=> ?_
  rw [pack_packer_place.l1] at hm
  refine Ag tbk [] R R<|Ae<|Ak hm R (fun h4 hm=>?_) fun h4 hm=> ?_
  ·refine Aj<|Ae<|Az<|Ah<|Bd hm fun x2 h5 hm=>Ci 2 R (gl_pos VV.str h5) fun b3 h6=> ?_
   subst h6
   exact Ab R R (Cd VV.str R R el51 h5)<|Ab R R (Cb (i:=2) (y:=VV.str x2) R R R (gl_map _ (gl_some h5).2) ld9 R)<|Ab R R (Ai R)<|Ad<|Ae<|Bc 0 mixed<|Au tbk [0,1,2,3,4,5,6,7,8,9] [1,1,0] (by kernel_rfl) R R R<|Ao 10 (by kernel_rfl)<|Aq R R R<|Am hm 0 R fn95 R (K123 _ _ _ _) fun r hm=>Av 11 R R R (by kernel_rfl) (A5 R R R)<|A1 (by kernel_rfl)<|Ak hm R (fun h8 hm=>Ag tbk [] R R<|have hm:=Lr hm h3;Rg2 hm R [1,1] (some b3) cap (.cons (.tmp _ _ R) .nil) R R) fun h8 hm=>Aj<|A6 tbk [] R R<|Ap _ _ hm (Af [0,0,0] R R)
  exact A3<|Ar _ hm (Af [0,0,0] R R)
 refine Ae<|Ae<|Bc 0 mixed<|Au tbk [0,1,2,3] [1] (by kernel_rfl) R R R<|Av 4 R R R (by kernel_rfl) (Cr VV.str R Br)<|Au tbk [5,6,7,8,9] [1] (by kernel_rfl) R R R<|A1 (by kernel_rfl)<|Ak hm R (fun h9 hm=>Ag tbk [] R R<|Rg2 hm R [1,1] ob4 cap (.cons (.tmp _ _ R) .nil) R R) fun h9 hm=>Aj<|C0 hm (fun _ (gg:Nat)=>[(0,.ptr b 0),(3,.ptr b2 0),(7,.ptr gg 0)]) (fun m2 (gg:Nat)=>[X30 gg m2,X48 b2 p,.box b 88 [L30 x.ms,L50 x.bs,.str x.like.Name,.str x.like.Group,Iw x.like.Has.Cpu,Iw x.like.Has.Mem,Iw x.like.Has.Disk,Iw x.like.Has.Pods,Iw x.like.Has.Dev,L124 x.like.Labels,L126 x.like.Taints,.bool x.like.Ready,Z9 ob4 x.names cap,Iw x.limit],Q9 ob4 cap x.names]) (fun o2 hm=>?_) fun m2 b4 hm=> ?_
 ·refine Bc 0 mixed<|Au tbk [0,1,2,3,4,5,6,7] [1,1] (by kernel_rfl) R R R<|Av 8 R R R (by kernel_rfl) (Cr VV.str R Br)<|Av 9 R R R (by kernel_rfl) (A5 R R R)<|?_
  refine B2 [10,11] (by kernel_rfl) ⟨?_,?_,trivial⟩
  ·exact Aq R R R<|Am hm 0 R fn15 R (K125 _ _) fun r2 hm=>Ao 11 (by kernel_rfl)<|Aq R R R<|Ay z30 fun b5=>Ao 12 (by kernel_rfl)<|Aq R R R<|An (i:=0) R R R ld30 R R R<|A1 (by kernel_rfl)<|As _ hm (Af [0,0,0,0] R R)
  ·exact Aq R R R<|Ay z30 fun b6=>Ao 10 (by kernel_rfl)<|Aq R R R<|Am hm 0 R fn15 R (K125 _ _) fun r3 hm=>Ao 12 (by kernel_rfl)<|Aq R R R<|An (i:=0) R R R ld30 R R R<|A1 (by kernel_rfl)<|As _ hm (Af [0,0,0,0] R R)
 refine Ae<|Bc 0 mixed<|Au tbk [0,1,2,3,4,5,6,7] [2,2] (by kernel_rfl) R R R<|Av 8 R R R (by kernel_rfl) (Ax T_api_Machine.vv R Bv)<|Au tbk [9,10,11,12] [2] (by kernel_rfl) R R R<|Av 13 R R R (by kernel_rfl) (Ax T_api_Machine.vv R Bv)<|Bd hm fun v3 h17 hm=>Av 14 R R R (by kernel_rfl) (VP.slice3 (f:=T_api_Machine.vv) el22 R R R R R h17)<|Au tbk [15] [0] (by kernel_rfl) R R R<|Ao 16 (by kernel_rfl)<|Aq R R R<|A7 ap22 R R R R R fun b7=>Ao 17 (by kernel_rfl)<|Bd hm fun l2 h19 hm=>Aq R R R<|VO.appFl (f:=T_api_Machine.vv) (l2:=[m2]) ap22 R (sT_row 0 T_api_Machine.vv el22 R R) h19<|Av 18 R R R (by kernel_rfl) (Ai R)<|A1 (by kernel_rfl)<|Ae<|Ae<|Bc 0 mixed<|Au tbk [0,1,2,3,4,5,6,7] [3,2,1] (by kernel_rfl) R R R<|Ao 8 (by kernel_rfl)<|Aq R R R<|Am hm 0 R fn95 R (K123 _ _ _ _) fun r4 hm=>Av 9 R R R (by kernel_rfl) (A5 R R R)<|A1 (by kernel_rfl)<|Ak hm R (fun h21 hm=>Ag tbk [] R R<|Rg2 hm R [3,3] ob4 cap (.cons (.tmp _ _ R) .nil) R R) fun h21 hm=>Aj<|Ah<|Aa tbk [] 4 R R<|Ac R R<|An (i:=3) R R R ld22 R R R<|Ad<|Ae<|B6 (Ce [3,3,0,0,0] R)<|Bc 2 mixed<|Au tbk [0,1,2,3,5,6] [1] (by kernel_rfl) R R R<|?_
 refine B2 [4,7] (by kernel_rfl) ⟨?_,?_,trivial⟩
 ·exact Aq R R R<|VP.vo (VP.loadP (i:=0) R R ld51 R)<|Ao 7 (by kernel_rfl)<|Aq R R R<|A7 ap51 R R R R R fun b8=>Ao 8 (by kernel_rfl)<|Bd hm fun l3 h23 hm=>Aq R R R<|Bz 2 VV.str (l:=x.names) (l2:=[m2.Name]) ap51 R R (sT_row 0 VV.str el51 R R) h23 fun ob5 cap2=>Au tbk [9,10] [] (by kernel_rfl) R R R<|Ao 11 (by kernel_rfl)<|Aq R R R<|An (i:=1) R R R ld51 R R R<|A1 (by kernel_rfl)<|Ag tbk [4] R R<|Rg2 hm R [1,1] ob5 cap2 (.cons (.tmp _ _ R) .nil) R R
 ·exact Aq R R R<|A7 ap51 R R R R R fun b9=>Ao 4 (by kernel_rfl)<|Aq R R R<|VP.vo (VP.loadP (i:=1) R R ld51 R)<|Ao 8 (by kernel_rfl)<|Bd hm fun l4 h25 hm=>Aq R R R<|Bz 2 VV.str (l:=x.names) (l2:=[m2.Name]) ap51 R R (sT_row 0 VV.str el51 R R) h25 fun ob6 cap3=>Au tbk [9,10] [] (by kernel_rfl) R R R<|Ao 11 (by kernel_rfl)<|Aq R R R<|An (i:=1) R R R ld51 R R R<|A1 (by kernel_rfl)<|Ag tbk [4] R R<|Rg2 hm R [1,1] ob6 cap3 (.cons (.tmp _ _ R) .nil) R R

/-! trireme/fit.Put -/
def fit_Put.l1 (p : T_api_Pod) : List T_api_Bound → Nat → (List T_api_Bound) → Option (List T_api_Bound)
 | [], k, l2 => some l2
 | x :: l4, k, l2 =>
  if (!(V.seq x.Pod.Name p.Name)) = true then
   (V.ap 288 l2 [x]).bind fun l5 =>
   fit_Put.l1 p l4 (k + 1) l5
  else
   fit_Put.l1 p l4 (k + 1) l2
def fit_Put (bs : List T_api_Bound) (p : T_api_Pod) (on_ : ByteArray) : Option (List T_api_Bound) :=
 (fit_Put.l1 p bs 0 ([] : List T_api_Bound)).bind fun l32 =>
 (V.ap 288 l32 [(⟨p, on_⟩ : T_api_Bound)]).bind fun l6 =>
 some l6
theorem K127 (bs : List T_api_Bound) (p : T_api_Pod) (on_ : ByteArray) : VS2 Tryz.prog 54 (fit_Put bs p on_) [L50 bs, T_api_Pod.vv p, .str on_] [] (fun r ob0 cap0=>Z50 ob0 r cap0) (fun r ob0 cap0=>[Q50 ob0 cap0 r]) := by
 refine Cg [.tmp 6] Tryz.func54 R R R fun r hm=>?_
 unfold fit_Put at hm
 refine Ah<|Ac R R<|A9 R R fun b=>Ab R R (Ai R)<|Ad<|Ag tbk [] R R<|Ae<|Ah<|Ab R R (Al R)<|Ab R R (Ax T_api_Bound.vv R Bn)<|Ab R R (Al R)<|Ad<|Cf 10 R fun h6=>Bx hm (fun l32 (gg:Option Nat × Nat)=>[(2,.str on_),(4,.ptr b 0),(7,Z50 gg.1 l32 gg.2)]) (fun l32 (gg:Option Nat × Nat)=>[Q50 gg.1 gg.2 l32,X48 b p]) (fun o hm=>?_) fun l32=>Pq fun ob3 cap3 hm=> ?_
 ·refine Cq (bs) (fun zl zk (zs:List T_api_Bound)=>fit_Put.l1 p zl zk zs) (fun k zs (zg:Option Nat × Nat)=>[(2,.str on_),(4,.ptr b 0),(7,Z50 zg.1 zs zg.2),(10,L50 bs),(11,Iw (bs.length : Int)),(12,Iw (k : Int))]) (fun _ zs (zg:Option Nat × Nat)=>[Q50 zg.1 zg.2 zs,X48 b p]) _ (none,0) hm (Ba (Bb 50) (Af [0,0] R R)) (fun k l2=>Pq fun ob2 cap2 hk hm=>?_) fun k x l4 l2=>Pq fun ob2 cap2 h7 hm=> ?_
  ·rw [fit_Put.l1] at hm
   exact Ag tbk [] R R<|Ae<|Ca R (k_end hk)<|A3<|As (ob2,cap2) hm (Af [0,0] R R)
  rw [fit_Put.l1] at hm
  exact Ag tbk [] R R<|Ae<|B8 R (k_lt h7)<|Aj<|Ae<|Az<|Ah<|Ab R R (Cj T_api_Bound.vv R R el23 h7)<|Ab R R (Bl R ld50 R)<|Ac R R<|Ay z50 fun b2=>Ac R R<|An (i:=0) R R R ld50 R R R<|Ad<|Ag tbk [0,2] R R<|Ak hm R (fun h9 hm=>Bo<|Aa tbk [0] 2 R R<|Ac R R<|A7 ap23 R R R R R fun b3=>Bd hm fun l5 h11 hm=>Ac R R<|Bz 2 T_api_Bound.vv (l:=l2) (l2:=[x]) ap23 R R (sT_row 0 T_api_Bound.vv el23 R R) h11 fun ob4 cap4=>Ab R R (Ai R)<|Ad<|A6 tbk [] R R<|Ap _ (ob4,cap4) hm (Bt [2,2] R ⟨R,R,R,R,R,congrArg some (k_next h7 h6),trivial⟩)) fun h9 hm=>Aj<|A6 tbk [] R R<|Ap _ (ob2,cap2) hm (Bt [1,1] R ⟨R,R,R,R,R,congrArg some (k_next h7 h6),trivial⟩)
 exact Ah<|Aa tbk [1] 3 R R<|Ab R R (Bi pl50 R R)<|Ac R R<|A7 ap23 R R R R R fun b4=>Bd hm fun l6 h14 hm=>Ac R R<|Bz 1 T_api_Bound.vv (l:=l32) (l2:=[(⟨p,on_⟩ : T_api_Bound)]) ap23 R R (sT_row 0 T_api_Bound.vv el23 R R) h14 fun ob5 cap5=>Ab R R (Ai R)<|Ad<|Rg2 hm R [1] ob5 cap5 (.cons (.tmp _ _ R) .nil) R R

/-! trireme/pack.Estimate -/
def pack_Estimate.l1 (l : List T_api_Pod) : List Int → Nat → T_pack_packer → (List T_api_Move) → Option (T_pack_packer × List T_api_Move)
 | [], k, x2, moves2 => some (x2, moves2)
 | x4 :: l2, k, x2, moves2 =>
  (V.gl l x4).bind fun x5 =>
  (pack_packer_place x2 x5).bind fun r2 =>
  if (!(V.seq r2.1 (⟨#[]⟩ : ByteArray))) = true then
   (fit_Put r2.2.bs x5 r2.1).bind fun r3 =>
   (V.ap 32 moves2 [(⟨x5.Name, r2.1⟩ : T_api_Move)]).bind fun moves4 =>
   pack_Estimate.l1 l l2 (k + 1) (⟨r2.2.ms, r3, r2.2.like, r2.2.names, r2.2.limit⟩ : T_pack_packer) moves4
  else
   pack_Estimate.l1 l l2 (k + 1) r2.2 moves2
def pack_Estimate (ms : List T_api_Machine) (bs : List T_api_Bound) (l : List T_api_Pod) (like : T_api_Machine) (limit : Int) : Option (List T_api_Move × Int) :=
 (pack_Order l like).bind fun r =>
 (pack_Estimate.l1 l r 0 (⟨ms, bs, like, ([] : List ByteArray), limit⟩ : T_pack_packer) ([] : List T_api_Move)).bind fun j =>
 some (j.2, (j.1.names.length : Int))
theorem K128 (ms : List T_api_Machine) (bs : List T_api_Bound) (l : List T_api_Pod) (like : T_api_Machine) (limit : Int) : VS2 Tryz.prog 13 (pack_Estimate ms bs l like limit) [L30 ms, L50 bs, L48 l, T_api_Machine.vv like, Iw limit] [] (fun r ob0 cap0=>.tup [Z53 ob0 r.1 cap0, Iw r.2]) (fun r ob0 cap0=>[Q53 ob0 cap0 r.1]) := by
 refine Cg [.tmp 10,.tmp 11] Tryz.func13 R R R fun r hm=>?_
 unfold pack_Estimate at hm
 refine Ah<|Ac R R<|A9 R R fun b=>Aa tbk [] 2 R R<|Ad<|Ah<|Aa tbk [0] 4 R R<|Ab R R (Bi pl88 R R)<|Ac R R<|A9 R R fun b2=>Ab R R (Ai R)<|Ad<|Ag tbk [] R R<|Ae<|Ah<|Aa tbk [1] 2 R R<|Ac R R<|B7 hm 0 R fn18 R (K71 _ _) fun r ob cap hm=>Be (Aw 0 [(26,L3 r)] R ⟨⟨_,R,.here _ R⟩,trivial⟩ (FzH.refl _))<|Ab R R (Ax (VV.int .i64) R Bq)<|Ab R R (Al R)<|Ad<|Cf 26 R fun h11=>Bx hm (fun j (gg:Option Nat × Nat × Option Nat × Nat)=>[(12,.ptr b2 0),(13,Z53 gg.2.2.1 j.2 gg.2.2.2)]) (fun j (gg:Option Nat × Nat × Option Nat × Nat)=>[Q9 gg.1 gg.2.1 j.1.names,Q53 gg.2.2.1 gg.2.2.2 j.2,.box b2 88 [L30 j.1.ms,L50 j.1.bs,.str j.1.like.Name,.str j.1.like.Group,Iw j.1.like.Has.Cpu,Iw j.1.like.Has.Mem,Iw j.1.like.Has.Disk,Iw j.1.like.Has.Pods,Iw j.1.like.Has.Dev,L124 j.1.like.Labels,L126 j.1.like.Taints,.bool j.1.like.Ready,Z9 gg.1 j.1.names gg.2.1,Iw j.1.limit]]) (fun o hm=>?_) fun j=>Pq fun ob6=>Pq fun cap6=>Pq fun ob7 cap7 hm=> ?_
 ·refine Cq (r) (fun zl zk (zs:T_pack_packer × List T_api_Move)=>pack_Estimate.l1 l zl zk zs.1 zs.2) (fun k zs (zg:Option Nat × Nat × Option Nat × Nat)=>[(2,L48 l),(12,.ptr b2 0),(13,Z53 zg.2.2.1 zs.2 zg.2.2.2),(26,L3 r),(27,Iw (r.length : Int)),(28,Iw (k : Int))]) (fun _ zs (zg:Option Nat × Nat × Option Nat × Nat)=>[Q9 zg.1 zg.2.1 zs.1.names,Q53 zg.2.2.1 zg.2.2.2 zs.2,.box b2 88 [L30 zs.1.ms,L50 zs.1.bs,.str zs.1.like.Name,.str zs.1.like.Group,Iw zs.1.like.Has.Cpu,Iw zs.1.like.Has.Mem,Iw zs.1.like.Has.Disk,Iw zs.1.like.Has.Pods,Iw zs.1.like.Has.Dev,L124 zs.1.like.Labels,L126 zs.1.like.Taints,.bool zs.1.like.Ready,Z9 zg.1 zs.1.names zg.2.1,Iw zs.1.limit]]) ((⟨ms,bs,like,([] : List ByteArray),limit⟩ : T_pack_packer),([] : List T_api_Move)) (none,0,none,0) hm (Ba (Bb 53) (Ba (Bb 9) (Af [0,0,0] R R))) (fun k=>Pq fun x2 moves2=>Pq fun ob4=>Pq fun cap4=>Pq fun ob5 cap5 hk hm=>?_) fun k x4 l2=>Pq fun x2 moves2=>Pq fun ob4=>Pq fun cap4=>Pq fun ob5 cap5 h12 hm=> ?_
  ·rw [pack_Estimate.l1] at hm
   exact Ag tbk [] R R<|Ae<|Ca R (k_end hk)<|A3<|As (ob4,cap4,ob5,cap5) hm (Af [0,0,0] R R)
  rw [pack_Estimate.l1] at hm
  exact Ag tbk [] R R<|Ae<|B8 R (k_lt h12)<|Aj<|Ae<|Az<|Ah<|Ab R R (Cj (VV.int .i64) R R el41 h12)<|Aa tbk [] 2 R R<|Ad<|Ah<|Aa tbk [] 2 R R<|Bd hm fun x5 h13 hm=>Ab R R (A0 T_api_Pod.vv R R el24 h13)<|Ab R R (Bl R ld48 R)<|Ac R R<|Ay z48 fun b3=>Ac R R<|An (i:=0) R R R ld48 R R R<|Ad<|Ah<|Aa tbk [0] 2 R R<|Be (Ce [3,1,0,0] R)<|Ac R R<|B7 hm 2 R fn53 R (K126 _ _ _ _ _) fun r2 ob8 cap8 hm=>Ab R R (Ai R)<|Ad<|Ag tbk [] R R<|Ak hm R (fun h16 hm=>Ae<|Bc 1 mixed<|Au tbk [0,1,2,3,5,6] [1] (by kernel_rfl) R R R<|Ao 4 (by kernel_rfl)<|Aq R R R<|VP.vo (VP.loadP (i:=0) R R ld23 R)<|Ao 7 (by kernel_rfl)<|Aq R R R<|B7 hm 0 R fn54 R (K127 _ _ _) fun r3 ob9 cap9 hm=>Cm (Aw 0 [(48,L50 r3)] R ⟨⟨_,R,.here _ R⟩,trivial⟩ (FzH.refl _))<|Au tbk [8,9] [] (by kernel_rfl) R R R<|Ao 10 (by kernel_rfl)<|Aq R R R<|An (i:=0) R R R ld23 R R R<|A1 (by kernel_rfl)<|Bo<|Aa tbk [2] 4 R R<|Ab R R (Bi pl53 R R)<|Ac R R<|A7 ap35 R R R R R fun b4=>Bd hm fun moves4 h20 hm=>Ac R R<|Bz 4 T_api_Move.vv (l:=moves2) (l2:=[(⟨x5.Name,r2.1⟩ : T_api_Move)]) ap35 R R (sT_row 0 T_api_Move.vv el35 R R) h20 fun ob10 cap10=>Ab R R (Ai R)<|Ad<|A6 tbk [] R R<|Ap ((⟨r2.2.ms,r3,r2.2.like,r2.2.names,r2.2.limit⟩ : T_pack_packer),moves4) (ob8,cap8,ob10,cap10) hm (Bt [2,3,1] R ⟨R,R,R,R,R,congrArg some (k_next h12 h11),trivial⟩)) fun h16 hm=>Aj<|A6 tbk [] R R<|Ap (r2.2,moves2) (ob8,cap8,ob5,cap5) hm (Bt [1,2,0] R ⟨R,R,R,R,R,congrArg some (k_next h12 h11),trivial⟩)
 exact Ae<|Bc 0 mixed<|Au tbk [0,1,2,3,4] [2] (by kernel_rfl) R R R<|Av 5 R R R (by kernel_rfl) (Cr VV.str R Br)<|Au tbk [6,7] [] (by kernel_rfl) R R R<|A1 (by kernel_rfl)<|Rg2 hm R [1] ob7 cap7 (.cons (.tmp _ _ R) (.cons (.tmp _ _ R) .nil)) R R

/-! trireme/triremeref14.Moves -/
def ref14_Moves.l1 (a : List T_api_Move) (b : List T_api_Move) : Nat → Int → Option (Out Bool Unit)
 | 0, _ => none
 | n + 1, i2 =>
  if (decide (i2 < (a.length : Int))) = true then
   (V.gl a i2).bind fun x =>
   (V.gl b i2).bind fun x2 =>
   if (!(((x.Pod == x2.Pod) && ((x.To == x2.To) && true)) == true)) = true then
    some (Out.ret false)
   else
    ref14_Moves.l1 a b n (i64.wrap (i2 + 1))
  else
   some (Out.go ())
def ref14_Moves (a : List T_api_Move) (b : List T_api_Move) : Option Bool :=
 if ((a.length : Int) != (b.length : Int)) = true then
  some false
 else
  (ref14_Moves.l1 a b FU (0 : Int)).bind fun o =>
  o.on fun j =>
  some true
theorem K129 (a : List T_api_Move) (b : List T_api_Move) : VS Tryz.prog 16 (ref14_Moves a b) [L53 a, L53 b] [] .bool N0 := by
 refine A2 [.tmp 4] Tryz.func16 R R R fun r hm=>?_
 unfold ref14_Moves at hm
 refine Ag tbk [] R R<|Ae<|Ah<|Ab R R (Al R)<|Ab R R (Ax T_api_Move.vv R Co)<|Ab R R (Al R)<|Ab R R (Ax T_api_Move.vv R Co)<|Ab R R (A5 R R R)<|Ad<|Ak hm R (fun h1 hm=>Ag tbk [] R R<|Rt1 hm R [] R R R) fun h1 hm=>Aj<|Ae<|Ag tbk [] R R<|Bu hm (fun _ (_:Unit)=>[]) (fun _ (_:Unit)=>[]) (fun o hm h3=>?_) fun j _ hm=> ?_
 ·refine Bm (fun zn (zs:Int)=>ref14_Moves.l1 a b zn zs) (fun zs (_:Unit)=>[(0,L53 a),(1,L53 b),(5,Iw zs)]) (fun _ (_:Unit)=>[]) _ () (fun _=>R) hm (Af [] R R) fun n i2 _ hm=> ?_
  rw [ref14_Moves.l1] at hm
  exact Ae<|Ah<|Aa tbk [] 2 R R<|Ab R R (Ax T_api_Move.vv R Co)<|Ab R R (A5 R R R)<|Ad<|Ak hm R (fun h4 hm=>Aj<|Ae<|Az<|Ae<|Bc 0 mixed<|Au tbk [0,1] [] (by kernel_rfl) R R R<|Bd hm fun x h5 hm=>Av 2 R R R (by kernel_rfl) (A0 T_api_Move.vv R R el35 h5)<|Au tbk [3,4,5] [] (by kernel_rfl) R R R<|Bd hm fun x2 h6 hm=>Av 6 R R R (by kernel_rfl) (A0 T_api_Move.vv R R el35 h6)<|Av 7 R R R (by kernel_rfl) (Bl R ld53 R)<|Av 8 R R R (by kernel_rfl) (Dh shp53 eq53 R R R R)<|A1 (by kernel_rfl)<|Ak hm R (fun h7 hm=>Ag tbk [] R R<|have hm:=Lr hm h3;Rt1 hm R [] R R R) fun h7 hm=>Aj<|A6 tbk [] R R<|Ap _ () hm (Af [] R R)) fun h4 hm=>A3<|Ar () hm (Af [] R R)
 exact Ag tbk [] R R<|Rt1 hm R [] R R R

/-! trireme/triremeref02.Ints -/
def ref02_Ints.l1 (a : List Int) (b : List Int) : Nat → Int → Option (Out Bool Unit)
 | 0, _ => none
 | n + 1, i2 =>
  if (decide (i2 < (a.length : Int))) = true then
   (V.gl a i2).bind fun x =>
   (V.gl b i2).bind fun x2 =>
   if (x != x2) = true then
    some (Out.ret false)
   else
    ref02_Ints.l1 a b n (i64.wrap (i2 + 1))
  else
   some (Out.go ())
def ref02_Ints (a : List Int) (b : List Int) : Option Bool :=
 if ((a.length : Int) != (b.length : Int)) = true then
  some false
 else
  (ref02_Ints.l1 a b FU (0 : Int)).bind fun o =>
  o.on fun j =>
  some true
theorem K130 (a : List Int) (b : List Int) : VS Tryz.prog 17 (ref02_Ints a b) [L3 a, L3 b] [] .bool N0 := by
 refine A2 [.tmp 4] Tryz.func17 R R R fun r hm=>?_
 unfold ref02_Ints at hm
 refine Ag tbk [] R R<|Ae<|Ah<|Ab R R (Al R)<|Ab R R (Ax (VV.int .i64) R Bq)<|Ab R R (Al R)<|Ab R R (Ax (VV.int .i64) R Bq)<|Ab R R (A5 R R R)<|Ad<|Ak hm R (fun h1 hm=>Ag tbk [] R R<|Rt1 hm R [] R R R) fun h1 hm=>Aj<|Ae<|Ag tbk [] R R<|Bu hm (fun _ (_:Unit)=>[]) (fun _ (_:Unit)=>[]) (fun o hm h3=>?_) fun j _ hm=> ?_
 ·refine Bm (fun zn (zs:Int)=>ref02_Ints.l1 a b zn zs) (fun zs (_:Unit)=>[(0,L3 a),(1,L3 b),(5,Iw zs)]) (fun _ (_:Unit)=>[]) _ () (fun _=>R) hm (Af [] R R) fun n i2 _ hm=> ?_
  rw [ref02_Ints.l1] at hm
  exact Ae<|Ah<|Aa tbk [] 2 R R<|Ab R R (Ax (VV.int .i64) R Bq)<|Ab R R (A5 R R R)<|Ad<|Ak hm R (fun h4 hm=>Aj<|Ae<|Az<|Ae<|Bc 0 mixed<|Au tbk [0,1] [] (by kernel_rfl) R R R<|Bd hm fun x h5 hm=>Av 2 R R R (by kernel_rfl) (A0 (VV.int .i64) R R el41 h5)<|Au tbk [3,4,5] [] (by kernel_rfl) R R R<|Bd hm fun x2 h6 hm=>Av 6 R R R (by kernel_rfl) (A0 (VV.int .i64) R R el41 h6)<|Au tbk [7,8] [] (by kernel_rfl) R R R<|A1 (by kernel_rfl)<|Ak hm R (fun h7 hm=>Ag tbk [] R R<|have hm:=Lr hm h3;Rt1 hm R [] R R R) fun h7 hm=>Aj<|A6 tbk [] R R<|Ap _ () hm (Af [] R R)) fun h4 hm=>A3<|Ar () hm (Af [] R R)
 exact Ag tbk [] R R<|Rt1 hm R [] R R R

/-! trireme/triremelaw19.known -/
def law19_known : Option Bool :=
 (law19_one (⟨#[97]⟩ : ByteArray) (400 : Int)).bind fun r =>
 (law19_one (⟨#[98]⟩ : ByteArray) (600 : Int)).bind fun r2 =>
 (law19_one (⟨#[99]⟩ : ByteArray) (600 : Int)).bind fun r3 =>
 (law19_one (⟨#[100]⟩ : ByteArray) (600 : Int)).bind fun r4 =>
 (law19_one (⟨#[101]⟩ : ByteArray) (1001 : Int)).bind fun r5 =>
 (pack_Estimate ([] : List T_api_Machine) ([] : List T_api_Bound) [r, r2, r3, r4, r5] (⟨(⟨#[]⟩ : ByteArray), (⟨#[103]⟩ : ByteArray), (⟨1000, 0, 0, 5, 0⟩ : T_api_Res), ([] : List T_api_Label), ([] : List T_api_Taint), true⟩ : T_api_Machine) (5 : Int)).bind fun r6 =>
 (pack_Estimate ([] : List T_api_Machine) ([] : List T_api_Bound) [r, r2, r3, r4, r5] (⟨(⟨#[]⟩ : ByteArray), (⟨#[103]⟩ : ByteArray), (⟨1000, 0, 0, 5, 0⟩ : T_api_Res), ([] : List T_api_Label), ([] : List T_api_Taint), true⟩ : T_api_Machine) (1 : Int)).bind fun r7 =>
 (if (r6.2 == 3) = true then (ref14_Moves r6.1 [(⟨(⟨#[98]⟩ : ByteArray), (⟨#[103, 43, 49]⟩ : ByteArray)⟩ : T_api_Move), (⟨(⟨#[99]⟩ : ByteArray), (⟨#[103, 43, 50]⟩ : ByteArray)⟩ : T_api_Move), (⟨(⟨#[100]⟩ : ByteArray), (⟨#[103, 43, 51]⟩ : ByteArray)⟩ : T_api_Move), (⟨(⟨#[97]⟩ : ByteArray), (⟨#[103, 43, 49]⟩ : ByteArray)⟩ : T_api_Move)]).bind fun r8 =>
 some r8 else some false).bind fun c =>
 (if ((c && (r7.2 == 1)) && ((r7.1.length : Int) == 2)) = true then (pack_Order [r, r2, r3, r4, r5] (⟨(⟨#[]⟩ : ByteArray), (⟨#[103]⟩ : ByteArray), (⟨1000, 0, 0, 5, 0⟩ : T_api_Res), ([] : List T_api_Label), ([] : List T_api_Taint), true⟩ : T_api_Machine)).bind fun r9 =>
 (ref02_Ints r9 [4, 1, 2, 3, 0]).bind fun r10 =>
 some r10 else some false).bind fun c2 =>
 (if c2 = true then (pack_Fresh (⟨(⟨#[]⟩ : ByteArray), (⟨#[103]⟩ : ByteArray), (⟨1000, 0, 0, 5, 0⟩ : T_api_Res), ([] : List T_api_Label), ([] : List T_api_Taint), true⟩ : T_api_Machine) (7 : Int)).bind fun r11 =>
 some (V.seq r11.Name (⟨#[103, 43, 55]⟩ : ByteArray)) else some false).bind fun c3 =>
 some c3
theorem K131 : VS Tryz.prog 12 (law19_known) [] [] .bool N0 := by
 refine A2 [.tmp 0] Tryz.func12 R R R fun r hm=>?_
 unfold law19_known at hm
 refine Ag tbk [] R R<|Ah<|Ab R R (Bi pl26 R R)<|Ab R R (Bi pl30 R R)<|Ac R R<|Ay z30 fun b=>Ac R R<|An (i:=0) R R R ld30 R R R<|Ad<|Ah<|Ac R R<|Am hm 0 R fn52 R (K65 _ _) fun r hm=>Ac R R<|Am hm 0 R fn52 R (K65 _ _) fun r2 hm=>Ac R R<|Am hm 0 R fn52 R (K65 _ _) fun r3 hm=>Ac R R<|Am hm 0 R fn52 R (K65 _ _) fun r4 hm=>Ac R R<|Am hm 0 R fn52 R (K65 _ _) fun r5 hm=>Ac R R<|A7 ap24 R R R R R fun b2=>Be (Aw 0 [(15,L48 [r,r2,r3,r4,r5])] R ⟨⟨_,R,.here _ R⟩,trivial⟩ (FzH.refl _))<|Ab R R (Ai R)<|Ad<|Ah<|Aa tbk [0] 2 R R<|Bd hm fun r6 h8 hm=>Ac R R<|VO.callN 0 [.nil 30,.nil 50,.same,.agg [none,none,none,none,none,none,none,some 124,some 126],.same] R fn13 R (K128 ([] : List T_api_Machine) ([] : List T_api_Bound) [r,r2,r3,r4,r5] (⟨(⟨#[]⟩ : ByteArray),(⟨#[103]⟩ : ByteArray),(⟨(1000 : Int),(0 : Int),(0 : Int),(5 : Int),(0 : Int)⟩ : T_api_Res),([] : List T_api_Label),([] : List T_api_Taint),true⟩ : T_api_Machine) (5 : Int) r6 h8) fun _ _ h30=> ?_
 obtain ⟨ob,cap,rfl,rfl⟩:=h30
 refine Aa tbk [] 5 R R<|Ad<|Ah<|Aa tbk [1] 2 R R<|Bd hm fun r7 h10 hm=>Ac R R<|VO.callN 0 [.nil 30,.nil 50,.same,.agg [none,none,none,none,none,none,none,some 124,some 126],.same] R fn13 R (K128 ([] : List T_api_Machine) ([] : List T_api_Bound) [r,r2,r3,r4,r5] (⟨(⟨#[]⟩ : ByteArray),(⟨#[103]⟩ : ByteArray),(⟨(1000 : Int),(0 : Int),(0 : Int),(5 : Int),(0 : Int)⟩ : T_api_Res),([] : List T_api_Label),([] : List T_api_Taint),true⟩ : T_api_Machine) (1 : Int) r7 h10) fun _ _ h29=> ?_
 obtain ⟨ob2,cap2,rfl,rfl⟩:=h29
 refine Aa tbk [] 5 R R<|Ad<|Ah<|Ab R R (Bi pl53 R R)<|Ab R R (Bi pl53 R R)<|Ab R R (Bi pl53 R R)<|Ab R R (Bi pl53 R R)<|Ac R R<|A7 ap35 R R R R R fun b3=>Be (Aw 0 [(32,L53 [(⟨(⟨#[98]⟩ : ByteArray),(⟨#[103,43,49]⟩ : ByteArray)⟩ : T_api_Move),(⟨(⟨#[99]⟩ : ByteArray),(⟨#[103,43,50]⟩ : ByteArray)⟩ : T_api_Move),(⟨(⟨#[100]⟩ : ByteArray),(⟨#[103,43,51]⟩ : ByteArray)⟩ : T_api_Move),(⟨(⟨#[97]⟩ : ByteArray),(⟨#[103,43,49]⟩ : ByteArray)⟩ : T_api_Move)])] R ⟨⟨_,R,.here _ R⟩,trivial⟩ (FzH.refl _))<|Ab R R (Ai R)<|Ad<|Ae<|B6 (Aw 1 [(20,L53 r6.1),(3,L53 r6.1)] R ⟨⟨_,R,.here _ R⟩,⟨_,R,.here _ R⟩,trivial⟩ (FzH.refl _))<|Bo<|Aa tbk [] 3 R R<|Bf hm 4 39 35 R (fun _ K' h14 J hm=>Aa tbk [] 2 R R<|A8 R R R R R<|Am hm 0 R fn16 R (K129 _ _) fun r8 hm=>Ab R R (Bg true R R R)<|J 3 R R (Bj hm)) (fun _ K' h14 J hm=>Aa tbk [] 4 R R<|J 3 R R (Bj hm)) fun c hm=>Ab R R (Al R)<|B0 tbk [] 3 43 40 R R R R R<|Ab R R (Al R)<|C3 4 48 44 R (fun h18 K' J=>Bk R R R R R (Al R)<|Bk R R R R R (Cr T_api_Move.vv R Co)<|Aa tbk [] 2 R R<|J 3 R R R) (fun K' J=>Aa tbk [] 4 R R<|J 3 R R R)<|Ab R R (Al R)<|Bf hm 6 55 49 R (fun _ K' h19 J hm=>?_) (fun _ K' h19 J hm=>Aa tbk [] 6 R R<|J 5 R R (Bj hm)) fun c2 hm=> ?_
 ·refine Aa tbk [1] 2 R R<|Bd hm fun r9 h20 hm=>A8 R R R R R<|VO.callN 0 [.same,.agg [none,none,none,none,none,none,none,some 124,some 126]] R fn18 R (K71 [r,r2,r3,r4,r5] (⟨(⟨#[]⟩ : ByteArray),(⟨#[103]⟩ : ByteArray),(⟨(1000 : Int),(0 : Int),(0 : Int),(5 : Int),(0 : Int)⟩ : T_api_Res),([] : List T_api_Label),([] : List T_api_Taint),true⟩ : T_api_Machine) r9 h20) fun _ _ h24=> ?_
  obtain ⟨ob3,cap3,rfl,rfl⟩:=h24
  exact Be (Aw 0 [(52,L3 r9)] R ⟨⟨_,R,.here _ R⟩,trivial⟩ (FzH.refl _))<|A8 R R R R R<|A7 ap41 R R R R R fun b4=>Be (Aw 0 [(53,L3 [(4 : Int),(1 : Int),(2 : Int),(3 : Int),(0 : Int)])] R ⟨⟨_,R,.here _ R⟩,trivial⟩ (FzH.refl _))<|A8 R R R R R<|Am hm 0 R fn17 R (K130 _ _) fun r10 hm=>Ab R R (Bg true R R R)<|J 7 R R (Bj hm)
 exact Ab R R (Al R)<|Bf hm 5 61 56 R (fun _ K' h26 J hm=>Aa tbk [1] 1 R R<|A8 R R R R R<|VO.cn hm 0 [.agg [none,none,none,none,none,none,none,some 124,some 126],.same] R fn15 R (K125 _ _) fun r11 hm=>Bk R R R R R (VP.field R fd30_0 R)<|Aa tbk [] 2 R R<|J 4 R R (Bj hm)) (fun _ K' h26 J hm=>Aa tbk [] 5 R R<|J 4 R R (Bj hm)) fun c3 hm=>Ab R R (Ai R)<|Ad<|Rt1 hm R [] R R R

/-! trireme/triremeref04.part -/
def ref04_part (a : Int) (b : Int) : Option Int :=
 if (b == 0) = true then
  if (a == 0) = true then
   some 0
  else
   some 1000000
 else
  (V.quo (i64.wrap (1000 * a)) b).bind fun v =>
  some (min (i64.wrap v) 1000000)
theorem K132 (a : Int) (b : Int) : VS Tryz.prog 98 (ref04_part a b) [Iw a, Iw b] [] Iw N0 := by
 refine A2 [.tmp 4] Tryz.func98 R R R fun r hm=>?_
 unfold ref04_part at hm
 exact Ag tbk [] R R<|Ae<|Ag tbk [] R R<|Ak hm R (fun h1 hm=>Ae<|Ag tbk [] R R<|Ak hm R (fun h2 hm=>Ag tbk [] R R<|Rt1 hm R [] R R R) fun h2 hm=>Aj<|Ag tbk [] R R<|Rt1 hm R [] R R R) fun h1 hm=>Aj<|Ah<|Aa tbk [] 3 R R<|Bd hm fun v h3 hm=>Ab R R (C5 R R h3)<|Ab R R (Dg R R)<|Ab R R (Ai R)<|Ad<|Rt1 hm R [] R R R

/-! trireme/triremeref04.Share -/
def ref04_Share (a : T_api_Res) (b : T_api_Res) : Option Int :=
 (ref04_Right a).bind fun r =>
 (if (!r) = true then some true else (ref04_Right b).bind fun r2 =>
 some (!r2)).bind fun c =>
 if c = true then
  some 0
 else
  (ref04_part a.Cpu b.Cpu).bind fun r3 =>
  (ref04_part a.Mem b.Mem).bind fun r4 =>
  some (max r3 r4)
theorem K133 (a : T_api_Res) (b : T_api_Res) : VS Tryz.prog 58 (ref04_Share a b) [T_api_Res.vv a, T_api_Res.vv b] [] Iw N0 := by
 refine A2 [.tmp 4] Tryz.func58 R R R fun r hm=>?_
 unfold ref04_Share at hm
 exact Ah<|Ac R R<|A9 R R fun b2=>Ac R R<|A9 R R fun b3=>Ab R R (Ai R)<|Ad<|Ae<|Ah<|Aa tbk [1] 1 R R<|Ac R R<|Am hm 0 R fn70 R (K44 _) fun r hm=>Aa tbk [] 2 R R<|Bf hm 4 12 8 R (fun _ K' h4 J hm=>Aa tbk [] 4 R R<|J 3 R R (Bj hm)) (fun _ K' h4 J hm=>Aa tbk [0] 1 R R<|A8 R R R R R<|Am hm 0 R fn70 R (K44 _) fun r2 hm=>Aa tbk [] 2 R R<|J 3 R R (Bj hm)) fun c hm=>Ad<|Ak hm R (fun h7 hm=>Ag tbk [] R R<|Rt1 hm R [] R R R) fun h7 hm=>Aj<|Ae<|Bc 0 mixed<|Au tbk [0,1,2,3,5,6,7,8] [1,0,1,0] (by kernel_rfl) R R R<|Ao 4 (by kernel_rfl)<|Aq R R R<|Am hm 0 R fn98 R (K132 _ _) fun r3 hm=>Ao 9 (by kernel_rfl)<|Aq R R R<|Am hm 0 R fn98 R (K132 _ _) fun r4 hm=>Av 10 R R R (by kernel_rfl) (C4 R R)<|Av 11 R R R (by kernel_rfl) (Ai R)<|A1 (by kernel_rfl)<|Rt1 hm R [] R R R

/-! trireme/triremeref19.Order -/
def ref19_Order.l2 (l : List T_api_Pod) (like : T_api_Machine) (out2 : List Int) (i2 : Int) : Nat → Int → (List Int) → Option (Int × List Int)
 | 0, _, _ => none
 | n2 + 1, k2, next2 =>
  (if (decide (k2 < (out2.length : Int))) = true then (V.gl out2 k2).bind fun x =>
  (V.gl l x).bind fun x2 =>
  (V.gl l i2).bind fun x3 =>
  (ref04_Share x2.Need like.Has).bind fun r =>
  (ref04_Share x3.Need like.Has).bind fun r2 =>
  some (decide (r ≥ r2)) else some false).bind fun c =>
  if c = true then
   (V.gl out2 k2).bind fun x4 =>
   (V.ap 8 next2 [x4]).bind fun next4 =>
   ref19_Order.l2 l like out2 i2 n2 (i64.wrap (k2 + 1)) next4
  else
   some (k2, next2)
def ref19_Order.l1 (l : List T_api_Pod) (like : T_api_Machine) : Nat → (List Int) → Int → Option (List Int)
 | 0, _, _ => none
 | n + 1, out2, i2 =>
  if (decide (i2 < (l.length : Int))) = true then
   (ref19_Order.l2 l like out2 i2 FU 0 ([] : List Int)).bind fun j =>
   (V.ap 8 j.2 [i2]).bind fun next5 =>
   (V.sl out2 (some j.1) none).bind fun v =>
   (V.ap 8 next5 v).bind fun next6 =>
   ref19_Order.l1 l like n next6 (i64.wrap (i2 + 1))
  else
   some out2
def ref19_Order (l : List T_api_Pod) (like : T_api_Machine) : Option (List Int) :=
 (ref19_Order.l1 l like FU ([] : List Int) (0 : Int)).bind fun out32 =>
 some out32
theorem K134 (l : List T_api_Pod) (like : T_api_Machine) : VS2 Tryz.prog 19 (ref19_Order l like) [L48 l, T_api_Machine.vv like] [] (fun r ob0 cap0=>Z3 ob0 r cap0) (fun r ob0 cap0=>[Q3 ob0 cap0 r]) := by
 refine Cg [.tmp 4] Tryz.func19 R R R fun r hm=>?_
 unfold ref19_Order at hm
 refine Ah<|Ac R R<|A9 R R fun b=>Ab R R (Ai R)<|Ad<|Ag tbk [] R R<|Ae<|Ag tbk [] R R<|Bx hm (fun out32 (gg:Option Nat × Nat)=>[(5,Z3 gg.1 out32 gg.2)]) (fun out32 (gg:Option Nat × Nat)=>[Q3 gg.1 gg.2 out32]) (fun o hm=>?_) fun out32=>Pq fun ob3 cap3 hm=> ?_
 ·refine Bm (fun zn (zs:List Int × Int)=>ref19_Order.l1 l like zn zs.1 zs.2) (fun zs (zg:Option Nat × Nat)=>[(0,L48 l),(3,.ptr b 0),(5,Z3 zg.1 zs.1 zg.2),(6,Iw zs.2)]) (fun zs (zg:Option Nat × Nat)=>[Q3 zg.1 zg.2 zs.1,X30 b like]) (([] : List Int),(0 : Int)) (none,0) (fun _=>R) hm (Ba (Bb 3) (Af [0,0] R R)) fun n=>Pq fun out2 i2=>Pq fun ob2 cap2 hm=> ?_
  rw [ref19_Order.l1] at hm
  refine Ae<|Ah<|Aa tbk [] 2 R R<|Ab R R (Ax T_api_Pod.vv R B4)<|Ab R R (A5 R R R)<|Ad<|Ak hm R (fun h6 hm=>?_) fun h6 hm=> ?_
  ·refine Aj<|Ae<|Az<|Ag tbk [] R R<|Ag tbk [] R R<|C0 hm (fun j (gg:Option Nat × Option Nat × Nat)=>[(0,L48 l),(3,.ptr b 0),(5,Z3 gg.1 out2 cap2),(6,Iw i2),(7,Iw j.1),(8,Z3 gg.2.1 j.2 gg.2.2)]) (fun j (gg:Option Nat × Option Nat × Nat)=>[Q3 gg.2.1 gg.2.2 j.2,Q3 gg.1 cap2 out2,X30 b like]) (fun o2 hm=>?_) fun j=>Pq fun ob8=>Pq fun ob9 cap6 hm=> ?_
   ·refine Bm (fun zn (zs:Int × List Int)=>ref19_Order.l2 l like out2 i2 zn zs.1 zs.2) (fun zs (zg:Option Nat × Option Nat × Nat)=>[(0,L48 l),(3,.ptr b 0),(5,Z3 zg.1 out2 cap2),(6,Iw i2),(7,Iw zs.1),(8,Z3 zg.2.1 zs.2 zg.2.2)]) (fun zs (zg:Option Nat × Option Nat × Nat)=>[Q3 zg.2.1 zg.2.2 zs.2,Q3 zg.1 cap2 out2,X30 b like]) ((0 : Int),([] : List Int)) (ob2,none,0) (fun _=>R) hm (Ba (Bb 3) (Af [0,0,0] R R)) fun n2=>Pq fun k2 next2=>Pq fun ob6=>Pq fun ob7 cap5 hm=> ?_
    rw [ref19_Order.l2] at hm
    refine Ae<|Ae<|Bc 0 mixed<|Au tbk [0,1] [] (by kernel_rfl) R R R<|Av 2 R R R (by kernel_rfl) (Cr (VV.int .i64) R Bq)<|Au tbk [3,4] [] (by kernel_rfl) R R R<|Ct hm [25,24,23,22,21,20,19,18,17,16,15,14,13,12,11,10,9,8,7,6,5,4,3,2,1,0] 40 19 R (fun _ K' h11 J hm=>?_) (fun _ K' h11 J hm=>Au tbk [5,6,7,8,9,10,11,12,13,14,15,16,17,18,19,20,21,22,23,24,25] [] (by kernel_rfl) R R R<|J 20 R R (Bj hm)) fun c hm=> ?_
    ·refine Au tbk [5,6,7] [] (by kernel_rfl) R R R<|Bd hm fun x h12 hm=>Dd 1 R (gl_pos (VV.int .i64) h12) fun b2 h13=> ?_
     subst h13
     exact Cc 8 R R R R R R (by kernel_rfl) (Cd (VV.int .i64) R R el41 h12)<|Cc 9 R R R R R R (by kernel_rfl) (Cb (i:=1) (y:=(VV.int .i64) x) R R R (gl_map _ (gl_some h12).2) ld3 R)<|Bd hm fun x2 h14 hm=>Cc 10 R R R R R R (by kernel_rfl) (A0 T_api_Pod.vv R R el24 h14)<|Au tbk [11,12,13,14,16,17] [2] (by kernel_rfl) R R R<|Bd hm fun x3 h15 hm=>Cc 18 R R R R R R (by kernel_rfl) (A0 T_api_Pod.vv R R el24 h15)<|Au tbk [19,20,21,22] [2] (by kernel_rfl) R R R<|Ao 15 (by kernel_rfl)<|Cv R R R R R R<|Am hm 0 R fn58 R (K133 _ _) fun r hm=>Ao 23 (by kernel_rfl)<|Cv R R R R R R<|Am hm 0 R fn58 R (K133 _ _) fun r2 hm=>Au tbk [24,25] [] (by kernel_rfl) R R R<|VA.reord [25,24,23,22,21,20,19,18,17,16,15,14,13,12,11,10,9,8,7,6,5,4,3,2,1,0] (by kernel_rfl) R<|J 20 R R (Bj hm)
    refine A1 (by kernel_rfl)<|Ak hm R (fun h19 hm=>?_) fun h19 hm=> ?_
    ·refine Aj<|Az<|Ah<|Aa tbk [] 3 R R<|Bd hm fun x4 h20 hm=>Ci 1 R (gl_pos (VV.int .i64) h20) fun b3 h21=> ?_
     subst h21
     exact Ab R R (Cd (VV.int .i64) R R el41 h20)<|Ab R R (Cb (i:=1) (y:=(VV.int .i64) x4) R R R (gl_map _ (gl_some h20).2) ld3 R)<|Ac R R<|A7 ap41 R R R R R fun b4=>Bd hm fun next4 h23 hm=>Ac R R<|Bz 1 (VV.int .i64) (l:=next2) (l2:=[x4]) ap41 R R (sT_row 0 (VV.int .i64) el41 R R) h23 fun ob10 cap7=>Ab R R (Ai R)<|Ad<|A6 tbk [] R R<|Ap ((IntKind.i64.wrap (k2 + (1 : Int))),next4) ((some b3),ob10,cap7) hm (Af [1,1,1] R R)
    exact A3<|As (ob6,ob7,cap5) hm (Af [0,0,0] R R)
   exact Ah<|Aa tbk [] 2 R R<|Ac R R<|A7 ap41 R R R R R fun b5=>Bd hm fun next5 h26 hm=>Ac R R<|Bz 1 (VV.int .i64) (l:=j.2) (l2:=[i2]) ap41 R R (sT_row 0 (VV.int .i64) el41 R R) h26 fun ob11 cap8=>Ab R R (Ai R)<|Ad<|Bo<|Aa tbk [] 3 R R<|Be (Aw 2 [(5,L3 out2),(55,L3 out2)] R ⟨⟨_,R,.here _ R⟩,⟨_,R,.here _ R⟩,trivial⟩ (FzH.refl _))<|Bd hm fun v h27 hm=>Ab R R (C8 R R R el41 h27)<|Bd hm fun next6 h28 hm=>Ac R R<|Bz 1 (VV.int .i64) (l:=next5) (l2:=v) ap41 R R (sT_list (VV.int .i64) el41 R R) h28 fun ob12 cap9=>Ab R R (Ai R)<|Ad<|A6 tbk [] R R<|Ap (next6,(IntKind.i64.wrap (i2 + (1 : Int)))) (ob12,cap9) hm (Af [1,1] R R)
  exact A3<|As (ob2,cap2) hm (Af [0] R R)
 exact Ag tbk [] R R<|Rg2 hm R [0] ob3 cap3 (.cons (.tmp _ _ R) .nil) R R

/-! trireme/triremeref01.Digits -/
def ref01_Digits : Nat → Int → Option ByteArray
 | 0, _ => none
 | nn + 1, n =>
  if (decide (n < 10)) = true then
   some (strOfNums [(IntKind.u8.wrap (i64.wrap (48 + n)))])
  else
   (V.quo n (10 : Int)).bind fun v =>
   (V.rem n (10 : Int)).bind fun v2 =>
   ((ref01_Digits nn) (i64.wrap v)).bind fun r =>
   (V.cat r (strOfNums [(IntKind.u8.wrap (i64.wrap (48 + v2)))])).bind fun v3 =>
   some v3
theorem K135 (nn : Nat) : ∀ (n : Int), VS Tryz.prog 61 (ref01_Digits nn n) [Iw n] [] .str N0 := by
 induction nn with
 | zero => intro n; exact VS.none (by rw [ref01_Digits])
 | succ nn ih =>
  intro n
  refine A2 [.tmp 2] Tryz.func61 R R R fun r hm=>?_
  rw [ref01_Digits] at hm
  refine Ag tbk [] R R<|Ae<|Ag tbk [] R R<|Ak hm R (fun h1 hm=>Ah<|Aa tbk [] 2 R R<|Ab R R (Cs B3 Bw R)<|Ac R R<|A7 ap122 R R R R R fun b=>Be (Aw 0 [(8,L5 [(IntKind.u8.wrap (IntKind.i64.wrap ((48 : Int) + n)))])] R ⟨⟨_,R,.here _ R⟩,trivial⟩ (FzH.refl _))<|Ab R R (C6 (l:=[(IntKind.u8.wrap (IntKind.i64.wrap ((48 : Int) + n)))]) el122 Bw A4 R)<|Ab R R (Ai R)<|Ad<|Rt1 hm R [] R R R) fun h1 hm=>Aj<|Ae<|Bc 0 mixed<|Av 0 R R R (by kernel_rfl) (Al R)<|Bd hm fun v h3 hm=>Av 1 R R R (by kernel_rfl) (C5 R R h3)<|Av 3 R R R (by kernel_rfl) (Al R)<|Bd hm fun v2 h4 hm=>Av 4 R R R (by kernel_rfl) (VP.remT R R h4)<|Av 5 R R R (by kernel_rfl) (A5 R R R)<|Av 6 R R R (by kernel_rfl) (Cs B3 Bw R)<|?_
  refine B2 [2,7] (by kernel_rfl) ⟨?_,?_,trivial⟩
  ·exact Aq R R R<|Am hm 0 R fn61 R (ih _) fun r hm=>Ao 7 (by kernel_rfl)<|Aq R R R<|A7 ap122 R R R R R fun b2=>Cm (Aw 0 [(17,L5 [(IntKind.u8.wrap (IntKind.i64.wrap ((48 : Int) + v2)))])] R ⟨⟨_,R,.here _ R⟩,trivial⟩ (FzH.refl _))<|Av 8 R R R (by kernel_rfl) (C6 (l:=[(IntKind.u8.wrap (IntKind.i64.wrap ((48 : Int) + v2)))]) el122 Bw A4 R)<|Bd hm fun v3 h7 hm=>Av 9 R R R (by kernel_rfl) (Bh R R h7)<|Av 10 R R R (by kernel_rfl) (Ai R)<|A1 (by kernel_rfl)<|Rt1 hm R [] R R R
  ·exact Aq R R R<|A7 ap122 R R R R R fun b3=>Cm (Aw 0 [(17,L5 [(IntKind.u8.wrap (IntKind.i64.wrap ((48 : Int) + v2)))])] R ⟨⟨_,R,.here _ R⟩,trivial⟩ (FzH.refl _))<|Av 8 R R R (by kernel_rfl) (C6 (l:=[(IntKind.u8.wrap (IntKind.i64.wrap ((48 : Int) + v2)))]) el122 Bw A4 R)<|Ao 2 (by kernel_rfl)<|Aq R R R<|Am hm 0 R fn61 R (ih _) fun r2 hm=>Bd hm fun v4 h10 hm=>Av 9 R R R (by kernel_rfl) (Bh R R h10)<|Av 10 R R R (by kernel_rfl) (Ai R)<|A1 (by kernel_rfl)<|Rt1 hm R [] R R R

/-! trireme/triremeref19.Fresh -/
def ref19_Fresh (like : T_api_Machine) (n : Int) : Option T_api_Machine :=
 if (decide (n < 0)) = true then
  (V.cat like.Group (⟨#[43]⟩ : ByteArray)).bind fun v =>
  (ref01_Digits FU (0 : Int)).bind fun r =>
  (V.cat v r).bind fun v2 =>
  some (⟨v2, like.Group, like.Has, like.Labels, like.Taints, like.Ready⟩ : T_api_Machine)
 else
  (V.cat like.Group (⟨#[43]⟩ : ByteArray)).bind fun v3 =>
  (ref01_Digits FU n).bind fun r2 =>
  (V.cat v3 r2).bind fun v4 =>
  some (⟨v4, like.Group, like.Has, like.Labels, like.Taints, like.Ready⟩ : T_api_Machine)
theorem K136 (like : T_api_Machine) (n : Int) : VS Tryz.prog 21 (ref19_Fresh like n) [T_api_Machine.vv like, Iw n] [] (fun r=>T_api_Machine.vv r) N0 := by
 refine A2 [.cell 4 30] Tryz.func21 R R R fun r hm=>?_
 unfold ref19_Fresh at hm
 exact Ah<|Ac R R<|A9 R R fun b=>Ac R R<|Ay z30 fun b2=>Ad<|Ae<|Ag tbk [] R R<|Ak hm R (fun h3 hm=>A6 tbk [] R R<|Ah<|Aa tbk [1] 1 R R<|Ac R R<|Ay z30 fun b3=>Ac R R<|An (i:=0) R R R ld30 R R R<|Ad<|Ae<|Bc 1 mixed<|Au tbk [0,1] [1] (by kernel_rfl) R R R<|Bd hm fun v h5 hm=>Av 2 R R R (by kernel_rfl) (Bh R R h5)<|Av 3 R R R (by kernel_rfl) (Al R)<|Ao 4 (by kernel_rfl)<|Aq R R R<|Am hm 0 R fn61 R (K135 FU _) fun r hm=>Bd hm fun v2 h7 hm=>Av 5 R R R (by kernel_rfl) (Bh R R h7)<|Av 6 R R R (by kernel_rfl) (Dc R fa30_0)<|Ao 7 (by kernel_rfl)<|Aq R R R<|An (i:=0) R R R ld9 R R R<|A1 (by kernel_rfl)<|Ah<|Aa tbk [0] 1 R R<|Ac R R<|An (i:=1) R R R ld30 R R R<|Ad<|Rt0 hm R [] (.cons (.cell _ _ _ _ 1 _ _ _ _ R R ld30 R) .nil) R R) fun h3 hm=>Aj<|Ah<|Aa tbk [1] 1 R R<|Ac R R<|Ay z30 fun b4=>Ac R R<|An (i:=0) R R R ld30 R R R<|Ad<|Ae<|Bc 1 mixed<|Au tbk [0,1] [1] (by kernel_rfl) R R R<|Bd hm fun v3 h9 hm=>Av 2 R R R (by kernel_rfl) (Bh R R h9)<|Av 3 R R R (by kernel_rfl) (Al R)<|Ao 4 (by kernel_rfl)<|Aq R R R<|Am hm 0 R fn61 R (K135 FU _) fun r2 hm=>Bd hm fun v4 h11 hm=>Av 5 R R R (by kernel_rfl) (Bh R R h11)<|Av 6 R R R (by kernel_rfl) (Dc R fa30_0)<|Ao 7 (by kernel_rfl)<|Aq R R R<|An (i:=0) R R R ld9 R R R<|A1 (by kernel_rfl)<|Ah<|Aa tbk [0] 1 R R<|Ac R R<|An (i:=1) R R R ld30 R R R<|Ad<|Rt0 hm R [] (.cons (.cell _ _ _ _ 1 _ _ _ _ R R ld30 R) .nil) R R

/-! trireme/triremeref05.Get -/
def ref05_Get.l1 (l : List T_api_Label) (key : ByteArray) : Nat → Int → Option (Out (ByteArray × Bool) Unit)
 | 0, _ => none
 | n + 1, i2 =>
  if (decide (i2 < (l.length : Int))) = true then
   (V.gl l i2).bind fun x =>
   if (V.seq x.Key key) = true then
    (V.gl l i2).bind fun x2 =>
    some (Out.ret (x2.Val, true))
   else
    ref05_Get.l1 l key n (i64.wrap (i2 + 1))
  else
   some (Out.go ())
def ref05_Get (l : List T_api_Label) (key : ByteArray) : Option (ByteArray × Bool) :=
 (ref05_Get.l1 l key FU (0 : Int)).bind fun o =>
 o.on fun j =>
 some ((⟨#[]⟩ : ByteArray), false)
theorem K137 (l : List T_api_Label) (key : ByteArray) : VS Tryz.prog 163 (ref05_Get l key) [L124 l, .str key] [] (fun r=>.tup [.str r.1, .bool r.2]) N0 := by
 refine A2 [.tmp 4,.tmp 5] Tryz.func163 R R R fun r hm=>?_
 unfold ref05_Get at hm
 refine Ag tbk [] R R<|Ae<|Ag tbk [] R R<|Bu hm (fun _ (_:Unit)=>[]) (fun _ (_:Unit)=>[]) (fun o hm h2=>?_) fun j _ hm=> ?_
 ·refine Bm (fun zn (zs:Int)=>ref05_Get.l1 l key zn zs) (fun zs (_:Unit)=>[(0,L124 l),(1,.str key),(6,Iw zs)]) (fun _ (_:Unit)=>[]) _ () (fun _=>R) hm (Af [] R R) fun n i2 _ hm=> ?_
  rw [ref05_Get.l1] at hm
  exact Ae<|Ah<|Aa tbk [] 2 R R<|Ab R R (Ax T_api_Label.vv R Bp)<|Ab R R (A5 R R R)<|Ad<|Ak hm R (fun h3 hm=>Aj<|Ae<|Az<|Ah<|Aa tbk [] 2 R R<|Bd hm fun x h4 hm=>Ab R R (A0 T_api_Label.vv R R el27 h4)<|Aa tbk [] 4 R R<|Ad<|Ak hm R (fun h5 hm=>Ah<|Aa tbk [] 2 R R<|Bd hm fun x2 h6 hm=>Ab R R (A0 T_api_Label.vv R R el27 h6)<|Aa tbk [] 4 R R<|Ad<|have hm:=Lr hm h2;Rt2 hm R [] R R R R) fun h5 hm=>Aj<|A6 tbk [] R R<|Ap _ () hm (Af [] R R)) fun h3 hm=>A3<|Ar () hm (Af [] R R)
 exact Ag tbk [] R R<|Rt2 hm R [] R R R R

/-! trireme/triremeref05.Has -/
def ref05_Has.l1 (l : List T_api_Label) (some_ : List T_api_Label) : Nat → Int → Option (Out Bool Unit)
 | 0, _ => none
 | n + 1, i2 =>
  if (decide (i2 < (some_.length : Int))) = true then
   (V.gl some_ i2).bind fun x =>
   (ref05_Get l x.Key).bind fun r =>
   (if (!r.2) = true then some true else (V.gl some_ i2).bind fun x2 =>
   some (!(V.seq r.1 x2.Val))).bind fun c =>
   if c = true then
    some (Out.ret false)
   else
    ref05_Has.l1 l some_ n (i64.wrap (i2 + 1))
  else
   some (Out.go ())
def ref05_Has (l : List T_api_Label) (some_ : List T_api_Label) : Option Bool :=
 (ref05_Has.l1 l some_ FU (0 : Int)).bind fun o =>
 o.on fun j =>
 some true
theorem K138 (l : List T_api_Label) (some_ : List T_api_Label) : VS Tryz.prog 143 (ref05_Has l some_) [L124 l, L124 some_] [] .bool N0 := by
 refine A2 [.tmp 4] Tryz.func143 R R R fun r hm=>?_
 unfold ref05_Has at hm
 refine Ag tbk [] R R<|Ae<|Ag tbk [] R R<|Bu hm (fun _ (_:Unit)=>[]) (fun _ (_:Unit)=>[]) (fun o hm h2=>?_) fun j _ hm=> ?_
 ·refine Bm (fun zn (zs:Int)=>ref05_Has.l1 l some_ zn zs) (fun zs (_:Unit)=>[(0,L124 l),(1,L124 some_),(5,Iw zs)]) (fun _ (_:Unit)=>[]) _ () (fun _=>R) hm (Af [] R R) fun n i2 _ hm=> ?_
  rw [ref05_Has.l1] at hm
  exact Ae<|Ah<|Aa tbk [] 2 R R<|Ab R R (Ax T_api_Label.vv R Bp)<|Ab R R (A5 R R R)<|Ad<|Ak hm R (fun h3 hm=>Aj<|Ae<|Az<|Ah<|Aa tbk [] 3 R R<|Bd hm fun x h4 hm=>Ab R R (A0 T_api_Label.vv R R el27 h4)<|Aa tbk [] 2 R R<|Ac R R<|Am hm 0 R fn163 R (K137 _ _) fun r hm=>Aa tbk [] 5 R R<|Ad<|Ah<|Aa tbk [] 3 R R<|Bf hm 8 34 26 R (fun _ K' h6 J hm=>Aa tbk [] 8 R R<|J 7 R R (Bj hm)) (fun _ K' h6 J hm=>Aa tbk [] 3 R R<|Bd hm fun x2 h7 hm=>Bk R R R R R (A0 T_api_Label.vv R R el27 h7)<|Aa tbk [] 4 R R<|J 7 R R (Bj hm)) fun c hm=>Ad<|Ak hm R (fun h9 hm=>Ag tbk [] R R<|have hm:=Lr hm h2;Rt1 hm R [] R R R) fun h9 hm=>Aj<|A6 tbk [] R R<|Ap _ () hm (Af [] R R)) fun h3 hm=>A3<|Ar () hm (Af [] R R)
 exact Ag tbk [] R R<|Rt1 hm R [] R R R

/-! trireme/triremeref05.Meets -/
def ref05_Meets.l1 (t : T_api_Term) (r : ByteArray × Bool) : Nat → Bool → Int → Option Bool
 | 0, _, _ => none
 | n + 1, in_2, i2 =>
  if (decide (i2 < (t.Vals.length : Int))) = true then
   (if in_2 = true then some true else (if r.2 = true then (V.gl t.Vals i2).bind fun x =>
   some (V.seq x r.1) else some false).bind fun c =>
   some c).bind fun c2 =>
   ref05_Meets.l1 t r n c2 (i64.wrap (i2 + 1))
  else
   some in_2
def ref05_Meets (l : List T_api_Label) (t : T_api_Term) : Option Bool :=
 (ref05_Get l t.Key).bind fun r =>
 (ref05_Meets.l1 t r FU false (0 : Int)).bind fun in_32 =>
 if (t.Op == 1) = true then
  some in_32
 else
  if (t.Op == 2) = true then
   some (!in_32)
  else
   if (t.Op == 3) = true then
    some r.2
   else
    if (t.Op == 4) = true then
     some (!r.2)
    else
     (ref03_Number r.1).bind fun r2 =>
     (V.gl t.Vals (0 : Int)).bind fun x2 =>
     (ref03_Number x2).bind fun r3 =>
     if ((!r.2) || (r2.2 != 0)) = true then
      some false
     else
      if (t.Op == 5) = true then
       some (decide (r2.1 > r3.1))
      else
       some (decide (r2.1 < r3.1))
theorem K139 (l : List T_api_Label) (t : T_api_Term) : VS Tryz.prog 164 (ref05_Meets l t) [L124 l, T_api_Term.vv t] [] .bool N0 := by
 refine A2 [.tmp 4] Tryz.func164 R R R fun r hm=>?_
 unfold ref05_Meets at hm
 refine Ah<|Ac R R<|A9 R R fun b=>Ab R R (Ai R)<|Ad<|Ah<|Aa tbk [0] 3 R R<|Ac R R<|Am hm 0 R fn163 R (K137 _ _) fun r hm=>Aa tbk [] 5 R R<|Ad<|Ag tbk [] R R<|Ae<|Ag tbk [] R R<|Bx hm (fun in_32 (_:Unit)=>[(3,.ptr b 0),(5,.str r.1),(6,.bool r.2),(7,.bool in_32)]) (fun _ (_:Unit)=>[X103 b t]) (fun o hm=>?_) fun in_32 _ hm=> ?_
 ·refine Bm (fun zn (zs:Bool × Int)=>ref05_Meets.l1 t r zn zs.1 zs.2) (fun zs (_:Unit)=>[(3,.ptr b 0),(5,.str r.1),(6,.bool r.2),(7,.bool zs.1),(8,Iw zs.2)]) (fun _ (_:Unit)=>[X103 b t]) (false,(0 : Int)) () (fun _=>R) hm (Af [0] R R) fun n=>Pq fun in_2 i2 _ hm=> ?_
  rw [ref05_Meets.l1] at hm
  exact Ae<|Ah<|Aa tbk [0] 3 R R<|Ab R R (Ax VV.str R Br)<|Ab R R (A5 R R R)<|Ad<|Ak hm R (fun h5 hm=>Aj<|Ae<|Az<|Bo<|Aa tbk [] 2 R R<|Bf hm 11 39 28 R (fun _ K' h6 J hm=>Aa tbk [] 11 R R<|J 10 R R (Bj hm)) (fun _ K' h6 J hm=>Aa tbk [] 2 R R<|Bf hm 8 38 30 R (fun _ K' h7 J hm=>Aa tbk [0] 3 R R<|Bd hm fun x h8 hm=>Bk R R R R R (A0 VV.str R R el51 h8)<|Aa tbk [] 4 R R<|J 7 R R (Bj hm)) (fun _ K' h7 J hm=>Aa tbk [] 8 R R<|J 7 R R (Bj hm)) fun c hm=>Ab R R (Bg false R R R)<|J 3 R R (Bj hm)) fun c2 hm=>Ab R R (Ai R)<|Ad<|A6 tbk [] R R<|Ap (c2,(IntKind.i64.wrap (i2 + (1 : Int)))) () hm (Af [0] R R)) fun h5 hm=>A3<|As () hm (Af [0] R R)
 exact Ae<|Ag tbk [0] R R<|Az<|Ag tbk [] R R<|Ak hm R (fun h11 hm=>Ag tbk [] R R<|Rt1 hm R [] R R R) fun h11 hm=>Ag tbk [] R R<|Ak hm R (fun h12 hm=>Ag tbk [] R R<|Rt1 hm R [] R R R) fun h12 hm=>Ag tbk [] R R<|Ak hm R (fun h13 hm=>Ag tbk [] R R<|Rt1 hm R [] R R R) fun h13 hm=>Ag tbk [] R R<|Ak hm R (fun h14 hm=>Ag tbk [] R R<|Rt1 hm R [] R R R) fun h14 hm=>Aj<|Ah<|Ab R R (Al R)<|Ac R R<|Am hm 0 R fn104 R (K56 _) fun r2 hm=>Aa tbk [] 5 R R<|Ad<|Ah<|Aa tbk [0] 2 R R<|Bd hm fun x2 h16 hm=>Ab R R (A0 VV.str R R el51 h16)<|Ab R R (Bl R ld9 R)<|Ac R R<|Am hm 0 R fn104 R (K56 _) fun r3 hm=>Aa tbk [] 5 R R<|Ad<|Ae<|Ah<|Aa tbk [] 3 R R<|Cn tbk [] 3 74 71 R R R R R<|Ad<|Ak hm R (fun h19 hm=>Ag tbk [] R R<|Rt1 hm R [] R R R) fun h19 hm=>Aj<|Ae<|Ag tbk [0] R R<|Ak hm R (fun h20 hm=>Ag tbk [] R R<|Rt1 hm R [] R R R) fun h20 hm=>Aj<|Ag tbk [] R R<|Rt1 hm R [] R R R

/-! trireme/triremeref05.All -/
def ref05_All.l1 (l : List T_api_Label) (terms : List T_api_Term) : Nat → Int → Option (Out Bool Unit)
 | 0, _ => none
 | n + 1, i2 =>
  if (decide (i2 < (terms.length : Int))) = true then
   (V.gl terms i2).bind fun x =>
   (ref05_Meets l x).bind fun r =>
   if (!r) = true then
    some (Out.ret false)
   else
    ref05_All.l1 l terms n (i64.wrap (i2 + 1))
  else
   some (Out.go ())
def ref05_All (l : List T_api_Label) (terms : List T_api_Term) : Option Bool :=
 (ref05_All.l1 l terms FU (0 : Int)).bind fun o =>
 o.on fun j =>
 some true
theorem K140 (l : List T_api_Label) (terms : List T_api_Term) : VS Tryz.prog 144 (ref05_All l terms) [L124 l, L103 terms] [] .bool N0 := by
 refine A2 [.tmp 4] Tryz.func144 R R R fun r hm=>?_
 unfold ref05_All at hm
 refine Ag tbk [] R R<|Ae<|Ag tbk [] R R<|Bu hm (fun _ (_:Unit)=>[]) (fun _ (_:Unit)=>[]) (fun o hm h2=>?_) fun j _ hm=> ?_
 ·refine Bm (fun zn (zs:Int)=>ref05_All.l1 l terms zn zs) (fun zs (_:Unit)=>[(0,L124 l),(1,L103 terms),(5,Iw zs)]) (fun _ (_:Unit)=>[]) _ () (fun _=>R) hm (Af [] R R) fun n i2 _ hm=> ?_
  rw [ref05_All.l1] at hm
  exact Ae<|Ah<|Aa tbk [] 2 R R<|Ab R R (Ax T_api_Term.vv R Ch)<|Ab R R (A5 R R R)<|Ad<|Ak hm R (fun h3 hm=>Aj<|Ae<|Az<|Ah<|Aa tbk [] 3 R R<|Bd hm fun x h4 hm=>Ab R R (A0 T_api_Term.vv R R el45 h4)<|Ab R R (Bl R ld103 R)<|Ac R R<|Am hm 0 R fn164 R (K139 _ _) fun r hm=>Ab R R (Cl R)<|Ad<|Ak hm R (fun h6 hm=>Ag tbk [] R R<|have hm:=Lr hm h2;Rt1 hm R [] R R R) fun h6 hm=>Aj<|A6 tbk [] R R<|Ap _ () hm (Af [] R R)) fun h3 hm=>A3<|Ar () hm (Af [] R R)
 exact Ag tbk [] R R<|Rt1 hm R [] R R R

/-! trireme/triremeref06.Bears -/
def ref06_Bears (t : T_api_Toleration) (x : T_api_Taint) : Option Bool :=
 some ((((t.Effect == 0) || (t.Effect == x.Effect)) && ((V.seq t.Key (⟨#[]⟩ : ByteArray)) || (V.seq t.Key x.Key))) && (t.Any || (V.seq t.Val x.Val)))
theorem K141 (t : T_api_Toleration) (x : T_api_Taint) : VS Tryz.prog 184 (ref06_Bears t x) [T_api_Toleration.vv t, T_api_Taint.vv x] [] .bool N0 := by
 refine A2 [.tmp 4] Tryz.func184 R R R fun r hm=>?_
 unfold ref06_Bears at hm
 exact Ah<|Ac R R<|A9 R R fun b=>Ac R R<|A9 R R fun b2=>Ab R R (Ai R)<|Ad<|Ah<|Aa tbk [1] 4 R R<|Cn tbk [1,0] 6 14 8 R R R R R<|Ab R R (Al R)<|C3 11 26 15 R (fun h4 K' J=>Aa tbk [1] 4 R R<|Cn tbk [1,0] 6 25 19 R R R R R<|Ab R R (Bg true R R R)<|J 5 R R R) (fun K' J=>Aa tbk [] 11 R R<|J 10 R R R)<|Ab R R (Al R)<|C3 10 37 27 R (fun h6 K' J=>Aa tbk [1] 3 R R<|Cn tbk [1,0] 6 36 30 R R R R R<|Ab R R (Bg true R R R)<|J 4 R R R) (fun K' J=>Aa tbk [] 10 R R<|J 9 R R R)<|Ab R R (Ai R)<|Ad<|Rt1 hm R [] R R R

/-! trireme/triremeref06.Unborne -/
def ref06_Unborne.l2 (l : List T_api_Toleration) (taints : List T_api_Taint) (i2 : Int) : Nat → Bool → Int → Option Bool
 | 0, _, _ => none
 | n2 + 1, borne2, k2 =>
  if (decide (k2 < (l.length : Int))) = true then
   (if borne2 = true then some true else (V.gl l k2).bind fun x2 =>
   (V.gl taints i2).bind fun x3 =>
   (ref06_Bears x2 x3).bind fun r =>
   some r).bind fun c2 =>
   ref06_Unborne.l2 l taints i2 n2 c2 (i64.wrap (k2 + 1))
  else
   some borne2
def ref06_Unborne.l1 (l : List T_api_Toleration) (taints : List T_api_Taint) (effect : Int) : Nat → (List T_api_Taint) → Int → Option (List T_api_Taint)
 | 0, _, _ => none
 | n + 1, out2, i2 =>
  if (decide (i2 < (taints.length : Int))) = true then
   (if (effect != 0) = true then (V.gl taints i2).bind fun x =>
   some (x.Effect != effect) else some false).bind fun c =>
   (ref06_Unborne.l2 l taints i2 FU c (0 : Int)).bind fun borne32 =>
   if (!borne32) = true then
    (V.gl taints i2).bind fun x4 =>
    (V.ap 40 out2 [x4]).bind fun out4 =>
    ref06_Unborne.l1 l taints effect n out4 (i64.wrap (i2 + 1))
   else
    ref06_Unborne.l1 l taints effect n out2 (i64.wrap (i2 + 1))
  else
   some out2
def ref06_Unborne (l : List T_api_Toleration) (taints : List T_api_Taint) (effect : Int) : Option (List T_api_Taint) :=
 (ref06_Unborne.l1 l taints effect FU ([] : List T_api_Taint) (0 : Int)).bind fun out32 =>
 some out32
theorem K142 (l : List T_api_Toleration) (taints : List T_api_Taint) (effect : Int) : VS2 Tryz.prog 165 (ref06_Unborne l taints effect) [L128 l, L126 taints, Iw effect] [] (fun r ob0 cap0=>Z126 ob0 r cap0) (fun r ob0 cap0=>[Q126 ob0 cap0 r]) := by
 refine Cg [.tmp 6] Tryz.func165 R R R fun r hm=>?_
 unfold ref06_Unborne at hm
 refine Ag tbk [] R R<|Ag tbk [] R R<|Ae<|Ag tbk [] R R<|Bx hm (fun out32 (gg:Option Nat × Nat)=>[(7,Z126 gg.1 out32 gg.2)]) (fun out32 (gg:Option Nat × Nat)=>[Q126 gg.1 gg.2 out32]) (fun o hm=>?_) fun out32=>Pq fun ob3 cap3 hm=> ?_
 ·refine Bm (fun zn (zs:List T_api_Taint × Int)=>ref06_Unborne.l1 l taints effect zn zs.1 zs.2) (fun zs (zg:Option Nat × Nat)=>[(0,L128 l),(1,L126 taints),(2,Iw effect),(7,Z126 zg.1 zs.1 zg.2),(8,Iw zs.2)]) (fun zs (zg:Option Nat × Nat)=>[Q126 zg.1 zg.2 zs.1]) (([] : List T_api_Taint),(0 : Int)) (none,0) (fun _=>R) hm (Ba (Bb 126) (Af [0] R R)) fun n=>Pq fun out2 i2=>Pq fun ob2 cap2 hm=> ?_
  rw [ref06_Unborne.l1] at hm
  refine Ae<|Ah<|Aa tbk [] 2 R R<|Ab R R (Ax T_api_Taint.vv R B1)<|Ab R R (A5 R R R)<|Ad<|Ak hm R (fun h5 hm=>?_) fun h5 hm=> ?_
  ·refine Aj<|Ae<|Az<|Ah<|Aa tbk [] 3 R R<|Bf hm 8 27 19 R (fun _ K' h6 J hm=>Aa tbk [] 2 R R<|Bd hm fun x h7 hm=>Bk R R R R R (A0 T_api_Taint.vv R R el28 h7)<|Aa tbk [] 5 R R<|J 7 R R (Bj hm)) (fun _ K' h6 J hm=>Aa tbk [] 8 R R<|J 7 R R (Bj hm)) fun c hm=>Ab R R (Ai R)<|Ad<|Ae<|Ag tbk [] R R<|Bx hm (fun borne32 (_:Unit)=>[(0,L128 l),(1,L126 taints),(2,Iw effect),(7,Z126 ob2 out2 cap2),(8,Iw i2),(9,.bool borne32)]) (fun _ (_:Unit)=>[Q126 ob2 cap2 out2]) (fun o2 hm=>?_) fun borne32 _ hm=> ?_
   ·refine Bm (fun zn (zs:Bool × Int)=>ref06_Unborne.l2 l taints i2 zn zs.1 zs.2) (fun zs (_:Unit)=>[(0,L128 l),(1,L126 taints),(2,Iw effect),(7,Z126 ob2 out2 cap2),(8,Iw i2),(9,.bool zs.1),(10,Iw zs.2)]) (fun _ (_:Unit)=>[Q126 ob2 cap2 out2]) (c,(0 : Int)) () (fun _=>R) hm (Af [0] R R) fun n2=>Pq fun borne2 k2 _ hm=> ?_
    rw [ref06_Unborne.l2] at hm
    exact Ae<|Ah<|Aa tbk [] 2 R R<|Ab R R (Ax T_api_Toleration.vv R Cp)<|Ab R R (A5 R R R)<|Ad<|Ak hm R (fun h11 hm=>Aj<|Ae<|Az<|Bc 0 mixed<|Au tbk [0,1] [] (by kernel_rfl) R R R<|Ct hm [11,10,9,8,7,6,5,4,3,2,1,0] 45 35 R (fun _ K' h12 J hm=>Au tbk [2,3,4,5,6,7,8,9,10,11] [] (by kernel_rfl) R R R<|J 9 R R (Bj hm)) (fun _ K' h12 J hm=>Au tbk [2,3] [] (by kernel_rfl) R R R<|Bd hm fun x2 h13 hm=>Cc 4 R R R R R R (by kernel_rfl) (A0 T_api_Toleration.vv R R el46 h13)<|Au tbk [5,6,7] [] (by kernel_rfl) R R R<|Bd hm fun x3 h14 hm=>Cc 8 R R R R R R (by kernel_rfl) (A0 T_api_Taint.vv R R el28 h14)<|Cc 9 R R R R R R (by kernel_rfl) (Bl R ld126 R)<|Ao 10 (by kernel_rfl)<|Cv R R R R R R<|Am hm 0 R fn184 R (K141 _ _) fun r hm=>Av 11 R R R (by kernel_rfl) (Bg false R R R)<|J 9 R R (Bj hm)) fun c2 hm=>Av 12 R R R (by kernel_rfl) (Ai R)<|A1 (by kernel_rfl)<|A6 tbk [] R R<|Ap (c2,(IntKind.i64.wrap (k2 + (1 : Int)))) () hm (Af [0] R R)) fun h11 hm=>A3<|As () hm (Af [0] R R)
   exact Ag tbk [] R R<|Ak hm R (fun h17 hm=>Bo<|Aa tbk [] 3 R R<|Bd hm fun x4 h18 hm=>Ab R R (A0 T_api_Taint.vv R R el28 h18)<|Ab R R (Bl R ld126 R)<|Ac R R<|A7 ap28 R R R R R fun b=>Bd hm fun out4 h20 hm=>Ac R R<|Bz 1 T_api_Taint.vv (l:=out2) (l2:=[x4]) ap28 R R (sT_row 0 T_api_Taint.vv el28 R R) h20 fun ob4 cap4=>Ab R R (Ai R)<|Ad<|A6 tbk [] R R<|Ap (out4,(IntKind.i64.wrap (i2 + (1 : Int)))) (ob4,cap4) hm (Af [1] R R)) fun h17 hm=>Aj<|A6 tbk [] R R<|Ap (out2,(IntKind.i64.wrap (i2 + (1 : Int)))) (ob2,cap2) hm (Af [0] R R)
  exact A3<|As (ob2,cap2) hm (Af [0] R R)
 exact Ag tbk [] R R<|Rg2 hm R [0] ob3 cap3 (.cons (.tmp _ _ R) .nil) R R

/-! trireme/triremeref06.hard -/
def ref06_hard (n : Int) : Option Bool :=
 some ((n == 1) || (n == 3))
theorem K143 (n : Int) : VS Tryz.prog 166 (ref06_hard n) [Iw n] [] .bool N0 := by
 refine A2 [.tmp 2] Tryz.func166 R R R fun r hm=>?_
 unfold ref06_hard at hm
 exact Ag tbk [] R R<|Ah<|Aa tbk [] 3 R R<|Cn tbk [] 3 8 5 R R R R R<|Ab R R (Ai R)<|Ad<|Rt1 hm R [] R R R

/-! trireme/triremeref06.Allows -/
def ref06_Allows.l1 (r : List T_api_Taint) : Nat → Int → Option (Out Bool Unit)
 | 0, _ => none
 | n + 1, i2 =>
  if (decide (i2 < (r.length : Int))) = true then
   (V.gl r i2).bind fun x =>
   (ref06_hard x.Effect).bind fun r2 =>
   if r2 = true then
    some (Out.ret false)
   else
    ref06_Allows.l1 r n (i64.wrap (i2 + 1))
  else
   some (Out.go ())
def ref06_Allows (l : List T_api_Toleration) (taints : List T_api_Taint) : Option Bool :=
 (ref06_Unborne l taints (0 : Int)).bind fun r =>
 (ref06_Allows.l1 r FU (0 : Int)).bind fun o =>
 o.on fun j =>
 some true
theorem K144 (l : List T_api_Toleration) (taints : List T_api_Taint) : VS Tryz.prog 145 (ref06_Allows l taints) [L128 l, L126 taints] [] .bool N0 := by
 refine A2 [.tmp 4] Tryz.func145 R R R fun r hm=>?_
 unfold ref06_Allows at hm
 refine Ag tbk [] R R<|Ah<|Aa tbk [] 2 R R<|Ac R R<|B7 hm 0 R fn165 R (K142 _ _ _) fun r ob cap hm=>Be (Aw 0 [(9,L126 r)] R ⟨⟨_,R,.here _ R⟩,trivial⟩ (FzH.refl _))<|Ab R R (Ai R)<|Ad<|Ae<|Ag tbk [] R R<|Bu hm (fun _ (_:Unit)=>[]) (fun _ (_:Unit)=>[]) (fun o hm h4=>?_) fun j _ hm=> ?_
 ·refine Bm (fun zn (zs:Int)=>ref06_Allows.l1 r zn zs) (fun zs (_:Unit)=>[(5,L126 r),(6,Iw zs)]) (fun _ (_:Unit)=>[]) _ () (fun _=>R) hm (Af [] R R) fun n i2 _ hm=> ?_
  rw [ref06_Allows.l1] at hm
  exact Ae<|Ah<|Aa tbk [] 2 R R<|Ab R R (Ax T_api_Taint.vv R B1)<|Ab R R (A5 R R R)<|Ad<|Ak hm R (fun h5 hm=>Aj<|Ae<|Az<|Ah<|Aa tbk [] 2 R R<|Bd hm fun x h6 hm=>Ab R R (A0 T_api_Taint.vv R R el28 h6)<|Aa tbk [] 2 R R<|Ac R R<|Am hm 0 R fn166 R (K143 _) fun r2 hm=>Ad<|Ak hm R (fun h8 hm=>Ag tbk [] R R<|have hm:=Lr hm h4;Rt1 hm R [] R R R) fun h8 hm=>Aj<|A6 tbk [] R R<|Ap _ () hm (Af [] R R)) fun h5 hm=>A3<|Ar () hm (Af [] R R)
 exact Ag tbk [] R R<|Rt1 hm R [] R R R

/-! trireme/triremeref10.Place -/
def ref10_Place (m : T_api_Machine) (p : T_api_Pod) : Option Int :=
 if (!m.Ready) = true then
  some 1
 else
  (ref05_Has m.Labels p.Select).bind fun r =>
  if (!r) = true then
   some 4
  else
   (ref05_All m.Labels p.Terms).bind fun r2 =>
   if (!r2) = true then
    some 5
   else
    (ref06_Allows p.Bears m.Taints).bind fun r3 =>
    if (!r3) = true then
     some 6
    else
     some 0
theorem K145 (m : T_api_Machine) (p : T_api_Pod) : VS Tryz.prog 115 (ref10_Place m p) [T_api_Machine.vv m, T_api_Pod.vv p] [] Iw N0 := by
 refine A2 [.tmp 4] Tryz.func115 R R R fun r hm=>?_
 unfold ref10_Place at hm
 exact Ah<|Ac R R<|A9 R R fun b=>Ac R R<|A9 R R fun b2=>Ab R R (Ai R)<|Ad<|Ae<|Ag tbk [1] R R<|Ak hm R (fun h3 hm=>Ag tbk [] R R<|Rt1 hm R [] R R R) fun h3 hm=>Aj<|Ae<|Ah<|Aa tbk [1,0] 4 R R<|Ac R R<|Am hm 0 R fn143 R (K138 _ _) fun r hm=>Ab R R (Cl R)<|Ad<|Ak hm R (fun h5 hm=>Ag tbk [] R R<|Rt1 hm R [] R R R) fun h5 hm=>Aj<|Ae<|Ah<|Aa tbk [1,0] 4 R R<|Ac R R<|Am hm 0 R fn144 R (K140 _ _) fun r2 hm=>Ab R R (Cl R)<|Ad<|Ak hm R (fun h7 hm=>Ag tbk [] R R<|Rt1 hm R [] R R R) fun h7 hm=>Aj<|Ae<|Ah<|Aa tbk [0,1] 4 R R<|Ac R R<|Am hm 0 R fn145 R (K144 _ _) fun r3 hm=>Ab R R (Cl R)<|Ad<|Ak hm R (fun h9 hm=>Ag tbk [] R R<|Rt1 hm R [] R R R) fun h9 hm=>Aj<|Ag tbk [] R R<|Rt1 hm R [] R R R

/-! trireme/triremeref10.Others -/
def ref10_Others.l1 (bs : List T_api_Bound) (name : ByteArray) : Nat → (List T_api_Bound) → Int → Option (List T_api_Bound)
 | 0, _, _ => none
 | n + 1, out2, i2 =>
  if (decide (i2 < (bs.length : Int))) = true then
   (V.gl bs i2).bind fun x =>
   if (!(V.seq x.Pod.Name name)) = true then
    (V.gl bs i2).bind fun x2 =>
    (V.ap 288 out2 [x2]).bind fun out4 =>
    ref10_Others.l1 bs name n out4 (i64.wrap (i2 + 1))
   else
    ref10_Others.l1 bs name n out2 (i64.wrap (i2 + 1))
  else
   some out2
def ref10_Others (bs : List T_api_Bound) (name : ByteArray) : Option (List T_api_Bound) :=
 (ref10_Others.l1 bs name FU ([] : List T_api_Bound) (0 : Int)).bind fun out32 =>
 some out32
theorem K146 (bs : List T_api_Bound) (name : ByteArray) : VS2 Tryz.prog 62 (ref10_Others bs name) [L50 bs, .str name] [] (fun r ob0 cap0=>Z50 ob0 r cap0) (fun r ob0 cap0=>[Q50 ob0 cap0 r]) := by
 refine Cg [.tmp 4] Tryz.func62 R R R fun r hm=>?_
 unfold ref10_Others at hm
 refine Ag tbk [] R R<|Ag tbk [] R R<|Ae<|Ag tbk [] R R<|Bx hm (fun out32 (gg:Option Nat × Nat)=>[(5,Z50 gg.1 out32 gg.2)]) (fun out32 (gg:Option Nat × Nat)=>[Q50 gg.1 gg.2 out32]) (fun o hm=>?_) fun out32=>Pq fun ob3 cap3 hm=> ?_
 ·refine Bm (fun zn (zs:List T_api_Bound × Int)=>ref10_Others.l1 bs name zn zs.1 zs.2) (fun zs (zg:Option Nat × Nat)=>[(0,L50 bs),(1,.str name),(5,Z50 zg.1 zs.1 zg.2),(6,Iw zs.2)]) (fun zs (zg:Option Nat × Nat)=>[Q50 zg.1 zg.2 zs.1]) (([] : List T_api_Bound),(0 : Int)) (none,0) (fun _=>R) hm (Ba (Bb 50) (Af [0] R R)) fun n=>Pq fun out2 i2=>Pq fun ob2 cap2 hm=> ?_
  rw [ref10_Others.l1] at hm
  exact Ae<|Ah<|Aa tbk [] 2 R R<|Ab R R (Ax T_api_Bound.vv R Bn)<|Ab R R (A5 R R R)<|Ad<|Ak hm R (fun h5 hm=>Aj<|Ae<|Az<|Ah<|Aa tbk [] 2 R R<|Bd hm fun x h6 hm=>Ab R R (A0 T_api_Bound.vv R R el23 h6)<|Aa tbk [] 5 R R<|Ad<|Ak hm R (fun h7 hm=>Bo<|Aa tbk [] 3 R R<|Bd hm fun x2 h8 hm=>Ab R R (A0 T_api_Bound.vv R R el23 h8)<|Ab R R (Bl R ld50 R)<|Ac R R<|A7 ap23 R R R R R fun b=>Bd hm fun out4 h10 hm=>Ac R R<|Bz 1 T_api_Bound.vv (l:=out2) (l2:=[x2]) ap23 R R (sT_row 0 T_api_Bound.vv el23 R R) h10 fun ob4 cap4=>Ab R R (Ai R)<|Ad<|A6 tbk [] R R<|Ap (out4,(IntKind.i64.wrap (i2 + (1 : Int)))) (ob4,cap4) hm (Af [1] R R)) fun h7 hm=>Aj<|A6 tbk [] R R<|Ap (out2,(IntKind.i64.wrap (i2 + (1 : Int)))) (ob2,cap2) hm (Af [0] R R)) fun h5 hm=>A3<|As (ob2,cap2) hm (Af [0] R R)
 exact Ag tbk [] R R<|Rg2 hm R [0] ob3 cap3 (.cons (.tmp _ _ R) .nil) R R

/-! trireme/triremeref09.On -/
def ref09_On.l1 (bs : List T_api_Bound) (name : ByteArray) : Nat → (List T_api_Pod) → Int → Option (List T_api_Pod)
 | 0, _, _ => none
 | n + 1, out2, i2 =>
  if (decide (i2 < (bs.length : Int))) = true then
   (V.gl bs i2).bind fun x =>
   if (V.seq x.On name) = true then
    (V.gl bs i2).bind fun x2 =>
    (V.ap 272 out2 [x2.Pod]).bind fun out4 =>
    ref09_On.l1 bs name n out4 (i64.wrap (i2 + 1))
   else
    ref09_On.l1 bs name n out2 (i64.wrap (i2 + 1))
  else
   some out2
def ref09_On (bs : List T_api_Bound) (name : ByteArray) : Option (List T_api_Pod) :=
 (ref09_On.l1 bs name FU ([] : List T_api_Pod) (0 : Int)).bind fun out32 =>
 some out32
theorem K147 (bs : List T_api_Bound) (name : ByteArray) : VS2 Tryz.prog 148 (ref09_On bs name) [L50 bs, .str name] [] (fun r ob0 cap0=>Z48 ob0 r cap0) (fun r ob0 cap0=>[Q48 ob0 cap0 r]) := by
 refine Cg [.tmp 4] Tryz.func148 R R R fun r hm=>?_
 unfold ref09_On at hm
 refine Ag tbk [] R R<|Ag tbk [] R R<|Ae<|Ag tbk [] R R<|Bx hm (fun out32 (gg:Option Nat × Nat)=>[(5,Z48 gg.1 out32 gg.2)]) (fun out32 (gg:Option Nat × Nat)=>[Q48 gg.1 gg.2 out32]) (fun o hm=>?_) fun out32=>Pq fun ob3 cap3 hm=> ?_
 ·refine Bm (fun zn (zs:List T_api_Pod × Int)=>ref09_On.l1 bs name zn zs.1 zs.2) (fun zs (zg:Option Nat × Nat)=>[(0,L50 bs),(1,.str name),(5,Z48 zg.1 zs.1 zg.2),(6,Iw zs.2)]) (fun zs (zg:Option Nat × Nat)=>[Q48 zg.1 zg.2 zs.1]) (([] : List T_api_Pod),(0 : Int)) (none,0) (fun _=>R) hm (Ba (Bb 48) (Af [0] R R)) fun n=>Pq fun out2 i2=>Pq fun ob2 cap2 hm=> ?_
  rw [ref09_On.l1] at hm
  exact Ae<|Ah<|Aa tbk [] 2 R R<|Ab R R (Ax T_api_Bound.vv R Bn)<|Ab R R (A5 R R R)<|Ad<|Ak hm R (fun h5 hm=>Aj<|Ae<|Az<|Ah<|Aa tbk [] 2 R R<|Bd hm fun x h6 hm=>Ab R R (A0 T_api_Bound.vv R R el23 h6)<|Aa tbk [] 4 R R<|Ad<|Ak hm R (fun h7 hm=>Bo<|Aa tbk [] 3 R R<|Bd hm fun x2 h8 hm=>Ab R R (A0 T_api_Bound.vv R R el23 h8)<|Aa tbk [] 2 R R<|Ac R R<|A7 ap24 R R R R R fun b=>Bd hm fun out4 h10 hm=>Ac R R<|Bz 1 T_api_Pod.vv (l:=out2) (l2:=[x2.Pod]) ap24 R R (sT_row 0 T_api_Pod.vv el24 R R) h10 fun ob4 cap4=>Ab R R (Ai R)<|Ad<|A6 tbk [] R R<|Ap (out4,(IntKind.i64.wrap (i2 + (1 : Int)))) (ob4,cap4) hm (Af [1] R R)) fun h7 hm=>Aj<|A6 tbk [] R R<|Ap (out2,(IntKind.i64.wrap (i2 + (1 : Int)))) (ob2,cap2) hm (Af [0] R R)) fun h5 hm=>A3<|As (ob2,cap2) hm (Af [0] R R)
 exact Ag tbk [] R R<|Rg2 hm R [0] ob3 cap3 (.cons (.tmp _ _ R) .nil) R R

/-! trireme/triremeref04.Add -/
def ref04_Add (a : T_api_Res) (b : T_api_Res) : Option (T_api_Res × Int) :=
 (ref04_Right a).bind fun r =>
 (if (!r) = true then some true else (ref04_Right b).bind fun r2 =>
 some (!r2)).bind fun c =>
 if c = true then
  some ((⟨0, 0, 0, 0, 0⟩ : T_api_Res), 1)
 else
  (ref04_Right (⟨(i64.wrap (a.Cpu + b.Cpu)), (i64.wrap (a.Mem + b.Mem)), (i64.wrap (a.Disk + b.Disk)), (i64.wrap (a.Pods + b.Pods)), (i64.wrap (a.Dev + b.Dev))⟩ : T_api_Res)).bind fun r3 =>
  if (!r3) = true then
   some ((⟨0, 0, 0, 0, 0⟩ : T_api_Res), 10)
  else
   some ((⟨(i64.wrap (a.Cpu + b.Cpu)), (i64.wrap (a.Mem + b.Mem)), (i64.wrap (a.Disk + b.Disk)), (i64.wrap (a.Pods + b.Pods)), (i64.wrap (a.Dev + b.Dev))⟩ : T_api_Res), 0)
theorem K148 (a : T_api_Res) (b : T_api_Res) : VS Tryz.prog 153 (ref04_Add a b) [T_api_Res.vv a, T_api_Res.vv b] [] (fun r=>.tup [T_api_Res.vv r.1, Iw r.2]) N0 := by
 refine A2 [.cell 4 26,.tmp 5] Tryz.func153 R R R fun r hm=>?_
 unfold ref04_Add at hm
 exact Ah<|Ac R R<|A9 R R fun b2=>Ac R R<|A9 R R fun b3=>Ac R R<|Ay z26 fun b4=>Ab R R (Ai R)<|Ad<|Ae<|Ah<|Aa tbk [2] 1 R R<|Ac R R<|Am hm 0 R fn70 R (K44 _) fun r hm=>Aa tbk [] 2 R R<|Bf hm 4 14 10 R (fun _ K' h5 J hm=>Aa tbk [] 4 R R<|J 3 R R (Bj hm)) (fun _ K' h5 J hm=>Aa tbk [1] 1 R R<|A8 R R R R R<|Am hm 0 R fn70 R (K44 _) fun r2 hm=>Aa tbk [] 2 R R<|J 3 R R (Bj hm)) fun c hm=>Ad<|Ak hm R (fun h8 hm=>Ah<|Ab R R (Bi pl26 R R)<|Ac R R<|An (i:=0) R R R ld26 R R R<|Ab R R (Ai R)<|Ad<|Rt0 hm R [] (.cons (.cell _ _ _ _ 0 _ _ _ _ R R ld26 R) (.cons (.tmp _ _ R) .nil)) R R) fun h8 hm=>Aj<|Ah<|Aa tbk [2,1,2,1,2,1,2,1,2,1] 25 R R<|Ab R R (Bi pl26 R R)<|Ac R R<|Ay z26 fun b5=>Ac R R<|An (i:=0) R R R ld26 R R R<|Ad<|Ae<|Ah<|Aa tbk [0] 1 R R<|Ac R R<|Am hm 0 R fn70 R (K44 _) fun r3 hm=>Ab R R (Cl R)<|Ad<|Ak hm R (fun h11 hm=>Ah<|Ab R R (Bi pl26 R R)<|Ac R R<|An (i:=1) R R R ld26 R R R<|Ab R R (Ai R)<|Ad<|Rt0 hm R [] (.cons (.cell _ _ _ _ 1 _ _ _ _ R R ld26 R) (.cons (.tmp _ _ R) .nil)) R R) fun h11 hm=>Aj<|Ah<|Aa tbk [0] 1 R R<|Ac R R<|An (i:=1) R R R ld26 R R R<|Ab R R (Ai R)<|Ad<|Rt0 hm R [] (.cons (.cell _ _ _ _ 1 _ _ _ _ R R ld26 R) (.cons (.tmp _ _ R) .nil)) R R

/-! trireme/triremeref09.Used -/
def ref09_Used.l1 (r : List T_api_Pod) : Nat → Int → Option (Out (T_api_Res × Int) Unit)
 | 0, _ => none
 | n + 1, i2 =>
  if (decide (i2 < (r.length : Int))) = true then
   (V.gl r i2).bind fun x =>
   (ref04_Right x.Need).bind fun r2 =>
   if (!r2) = true then
    some (Out.ret ((⟨0, 0, 0, 0, 0⟩ : T_api_Res), 12))
   else
    ref09_Used.l1 r n (i64.wrap (i2 + 1))
  else
   some (Out.go ())
def ref09_Used.l2 (r : List T_api_Pod) : Nat → T_api_Res → Int → Option (Out (T_api_Res × Int) T_api_Res)
 | 0, _, _ => none
 | n2 + 1, sum2, i4 =>
  if (decide (i4 < (r.length : Int))) = true then
   (V.gl r i4).bind fun x2 =>
   (ref04_Add sum2 x2.Need).bind fun r3 =>
   if (r3.2 != 0) = true then
    some (Out.ret ((⟨0, 0, 0, 0, 0⟩ : T_api_Res), r3.2))
   else
    ref09_Used.l2 r n2 r3.1 (i64.wrap (i4 + 1))
  else
   some (Out.go sum2)
def ref09_Used (bs : List T_api_Bound) (name : ByteArray) : Option (T_api_Res × Int) :=
 (ref09_On bs name).bind fun r =>
 (ref09_Used.l1 r FU (0 : Int)).bind fun o =>
 o.on fun j =>
 (ref09_Used.l2 r FU (⟨0, 0, 0, 0, 0⟩ : T_api_Res) (0 : Int)).bind fun o2 =>
 o2.on fun sum32 =>
 some (sum32, 0)
theorem K149 (bs : List T_api_Bound) (name : ByteArray) : VS Tryz.prog 120 (ref09_Used bs name) [L50 bs, .str name] [] (fun r=>.tup [T_api_Res.vv r.1, Iw r.2]) N0 := by
 refine A2 [.cell 4 26,.tmp 5] Tryz.func120 R R R fun r hm=>?_
 unfold ref09_Used at hm
 refine Ah<|Ac R R<|Ay z26 fun b=>Ab R R (Ai R)<|Ad<|Ah<|Aa tbk [] 2 R R<|Ac R R<|B7 hm 0 R fn148 R (K147 _ _) fun r ob cap hm=>Be (Aw 0 [(14,L48 r)] R ⟨⟨_,R,.here _ R⟩,trivial⟩ (FzH.refl _))<|Ab R R (Ai R)<|Ad<|Ae<|Ag tbk [] R R<|Bu hm (fun _ (_:Unit)=>[(4,.ptr b 0),(6,L48 r)]) (fun _ (_:Unit)=>[X26 b (⟨(0 : Int),(0 : Int),(0 : Int),(0 : Int),(0 : Int)⟩ : T_api_Res)]) (fun o hm h5=>?_) fun j _ hm=> ?_
 ·refine Bm (fun zn (zs:Int)=>ref09_Used.l1 r zn zs) (fun zs (_:Unit)=>[(4,.ptr b 0),(6,L48 r),(7,Iw zs)]) (fun _ (_:Unit)=>[X26 b (⟨(0 : Int),(0 : Int),(0 : Int),(0 : Int),(0 : Int)⟩ : T_api_Res)]) _ () (fun _=>R) hm (Af [0] R R) fun n i2 _ hm=> ?_
  rw [ref09_Used.l1] at hm
  exact Ae<|Ah<|Aa tbk [] 2 R R<|Ab R R (Ax T_api_Pod.vv R B4)<|Ab R R (A5 R R R)<|Ad<|Ak hm R (fun h6 hm=>Aj<|Ae<|Az<|Ah<|Aa tbk [] 2 R R<|Bd hm fun x h7 hm=>Ab R R (A0 T_api_Pod.vv R R el24 h7)<|Aa tbk [] 2 R R<|Ac R R<|Am hm 0 R fn70 R (K44 _) fun r2 hm=>Ab R R (Cl R)<|Ad<|Ak hm R (fun h9 hm=>Ah<|Ab R R (Bi pl26 R R)<|Ac R R<|An (i:=0) R R R ld26 R R R<|Ab R R (Ai R)<|Ad<|have hm:=Lr hm h5;Rt0 hm R [] (.cons (.cell _ _ _ _ 0 _ _ _ _ R R ld26 R) (.cons (.tmp _ _ R) .nil)) R R) fun h9 hm=>Aj<|A6 tbk [] R R<|Ap _ () hm (Af [0] R R)) fun h6 hm=>A3<|Ar () hm (Af [0] R R)
 refine Ah<|Ab R R (Bi pl26 R R)<|Ac R R<|Ay z26 fun b2=>Ac R R<|An (i:=0) R R R ld26 R R R<|Ad<|Ae<|Ag tbk [] R R<|Bu hm (fun _ (_:Unit)=>[(4,.ptr b 0),(8,.ptr b2 0)]) (fun sum32 (_:Unit)=>[X26 b2 sum32,X26 b (⟨(0 : Int),(0 : Int),(0 : Int),(0 : Int),(0 : Int)⟩ : T_api_Res)]) (fun o2 hm h12=>?_) fun sum32 _ hm=> ?_
 ·refine Bm (fun zn (zs:T_api_Res × Int)=>ref09_Used.l2 r zn zs.1 zs.2) (fun zs (_:Unit)=>[(4,.ptr b 0),(6,L48 r),(8,.ptr b2 0),(9,Iw zs.2)]) (fun zs (_:Unit)=>[X26 b2 zs.1,X26 b (⟨(0 : Int),(0 : Int),(0 : Int),(0 : Int),(0 : Int)⟩ : T_api_Res)]) ((⟨(0 : Int),(0 : Int),(0 : Int),(0 : Int),(0 : Int)⟩ : T_api_Res),(0 : Int)) () (fun _=>R) hm (Af [0,0] R R) fun n2=>Pq fun sum2 i4 _ hm=> ?_
  rw [ref09_Used.l2] at hm
  refine Ae<|Ah<|Aa tbk [] 2 R R<|Ab R R (Ax T_api_Pod.vv R B4)<|Ab R R (A5 R R R)<|Ad<|Ak hm R (fun h13 hm=>?_) fun h13 hm=> ?_
  ·refine Aj<|Ae<|Az<|Ae<|Bc 0 mixed<|Au tbk [0,1,2] [0] (by kernel_rfl) R R R<|Bd hm fun x2 h14 hm=>Av 3 R R R (by kernel_rfl) (A0 T_api_Pod.vv R R el24 h14)<|Au tbk [4,5] [] (by kernel_rfl) R R R<|?_
   refine B2 [6,10] (by kernel_rfl) ⟨?_,?_,trivial⟩
   ·exact Aq R R R<|Am hm 0 R fn153 R (K148 _ _) fun r3 hm=>Au tbk [7,8,9] [] (by kernel_rfl) R R R<|Ao 10 (by kernel_rfl)<|Aq R R R<|Ay z26 fun b3=>Ao 11 (by kernel_rfl)<|Aq R R R<|An (i:=0) R R R ld26 R R R<|Av 12 R R R (by kernel_rfl) (Ai R)<|A1 (by kernel_rfl)<|Ae<|Ag tbk [] R R<|Ak hm R (fun h17 hm=>Ah<|Ab R R (Bi pl26 R R)<|Ab R R (Al R)<|Ac R R<|An (i:=2) R R R ld26 R R R<|Ab R R (Ai R)<|Ad<|have hm:=Lr hm h12;Rt0 hm R [] (.cons (.cell _ _ _ _ 2 _ _ _ _ R R ld26 R) (.cons (.tmp _ _ R) .nil)) R R) fun h17 hm=>Aj<|Bo<|Aa tbk [0] 1 R R<|Ac R R<|An (i:=1) R R R ld26 R R R<|Ad<|A6 tbk [] R R<|Ap (r3.1,(IntKind.i64.wrap (i4 + (1 : Int)))) () hm (Af [1,1] R R)
   ·exact Aq R R R<|Ay z26 fun b4=>Ao 6 (by kernel_rfl)<|Aq R R R<|Am hm 0 R fn153 R (K148 _ _) fun r4 hm=>Au tbk [7,8,9] [] (by kernel_rfl) R R R<|Ao 11 (by kernel_rfl)<|Aq R R R<|An (i:=0) R R R ld26 R R R<|Av 12 R R R (by kernel_rfl) (Ai R)<|A1 (by kernel_rfl)<|Ae<|Ag tbk [] R R<|Ak hm R (fun h20 hm=>Ah<|Ab R R (Bi pl26 R R)<|Ab R R (Al R)<|Ac R R<|An (i:=2) R R R ld26 R R R<|Ab R R (Ai R)<|Ad<|have hm:=Lr hm h12;Rt0 hm R [] (.cons (.cell _ _ _ _ 2 _ _ _ _ R R ld26 R) (.cons (.tmp _ _ R) .nil)) R R) fun h20 hm=>Aj<|Bo<|Aa tbk [0] 1 R R<|Ac R R<|An (i:=1) R R R ld26 R R R<|Ad<|A6 tbk [] R R<|Ap (r4.1,(IntKind.i64.wrap (i4 + (1 : Int)))) () hm (Af [1,1] R R)
  exact A3<|Ar () hm (Af [0,0] R R)
 exact Ah<|Aa tbk [0] 1 R R<|Ac R R<|An (i:=1) R R R ld26 R R R<|Ab R R (Ai R)<|Ad<|Rt0 hm R [] (.cons (.cell _ _ _ _ 1 _ _ _ _ R R ld26 R) (.cons (.tmp _ _ R) .nil)) R R

/-! trireme/triremeref09.Left -/
def ref09_Left (m : T_api_Machine) (bs : List T_api_Bound) : Option T_api_Res :=
 (ref09_Used bs m.Name).bind fun r =>
 (if (r.2 != 0) = true then some true else (ref04_Right m.Has).bind fun r2 =>
 some (!r2)).bind fun c =>
 if c = true then
  some (⟨0, 0, 0, 0, 0⟩ : T_api_Res)
 else
  some (⟨(max 0 (i64.wrap (m.Has.Cpu - r.1.Cpu))), (max 0 (i64.wrap (m.Has.Mem - r.1.Mem))), (max 0 (i64.wrap (m.Has.Disk - r.1.Disk))), (max 0 (i64.wrap (m.Has.Pods - r.1.Pods))), (max 0 (i64.wrap (m.Has.Dev - r.1.Dev)))⟩ : T_api_Res)
theorem K150 (m : T_api_Machine) (bs : List T_api_Bound) : VS Tryz.prog 147 (ref09_Left m bs) [T_api_Machine.vv m, L50 bs] [] (fun r=>T_api_Res.vv r) N0 := by
 refine A2 [.cell 4 26] Tryz.func147 R R R fun r hm=>?_
 unfold ref09_Left at hm
 exact Ah<|Ac R R<|A9 R R fun b=>Ac R R<|Ay z26 fun b2=>Ad<|Ah<|Aa tbk [1] 3 R R<|Ac R R<|Am hm 0 R fn120 R (K149 _ _) fun r hm=>Aa tbk [] 3 R R<|Ac R R<|Ay z26 fun b3=>Ac R R<|An (i:=0) R R R ld26 R R R<|Ab R R (Ai R)<|Ad<|Ae<|Ah<|Aa tbk [] 3 R R<|Bf hm 5 22 17 R (fun _ K' h5 J hm=>Aa tbk [] 5 R R<|J 4 R R (Bj hm)) (fun _ K' h5 J hm=>Aa tbk [2] 2 R R<|A8 R R R R R<|Am hm 0 R fn70 R (K44 _) fun r2 hm=>Aa tbk [] 2 R R<|J 4 R R (Bj hm)) fun c hm=>Ad<|Ak hm R (fun h8 hm=>Ah<|Ab R R (Bi pl26 R R)<|Ac R R<|An (i:=1) R R R ld26 R R R<|Ad<|Rt0 hm R [] (.cons (.cell _ _ _ _ 1 _ _ _ _ R R ld26 R) .nil) R R) fun h8 hm=>Aj<|Ah<|Aa tbk [2] 2 R R<|Ac R R<|Ay z26 fun b4=>Ac R R<|An (i:=0) R R R ld26 R R R<|Ad<|Ah<|Aa tbk [0,1] 5 R R<|Ab R R (C4 R R)<|Aa tbk [0,1] 5 R R<|Ab R R (C4 R R)<|Aa tbk [0,1] 5 R R<|Ab R R (C4 R R)<|Aa tbk [0,1] 5 R R<|Ab R R (C4 R R)<|Aa tbk [0,1] 5 R R<|Ab R R (C4 R R)<|Ab R R (Bi pl26 R R)<|Ac R R<|An (i:=2) R R R ld26 R R R<|Ad<|Rt0 hm R [] (.cons (.cell _ _ _ _ 2 _ _ _ _ R R ld26 R) .nil) R R

/-! trireme/triremeref04.Fits -/
def ref04_Fits (a : T_api_Res) (b : T_api_Res) : Option Bool :=
 (ref04_Right a).bind fun r =>
 (if r = true then (ref04_Right b).bind fun r2 =>
 some r2 else some false).bind fun c =>
 some (((((c && (decide (a.Cpu ≤ b.Cpu))) && (decide (a.Mem ≤ b.Mem))) && (decide (a.Disk ≤ b.Disk))) && (decide (a.Pods ≤ b.Pods))) && (decide (a.Dev ≤ b.Dev)))
theorem K151 (a : T_api_Res) (b : T_api_Res) : VS Tryz.prog 146 (ref04_Fits a b) [T_api_Res.vv a, T_api_Res.vv b] [] .bool N0 := by
 refine A2 [.tmp 4] Tryz.func146 R R R fun r hm=>?_
 unfold ref04_Fits at hm
 exact Ah<|Ac R R<|A9 R R fun b2=>Ac R R<|A9 R R fun b3=>Ab R R (Ai R)<|Ad<|Ah<|Aa tbk [1] 1 R R<|Ac R R<|Am hm 0 R fn70 R (K44 _) fun r hm=>Ab R R (Al R)<|Bf hm 3 10 7 R (fun _ K' h4 J hm=>Aa tbk [0] 1 R R<|A8 R R R R R<|Am hm 0 R fn70 R (K44 _) fun r2 hm=>Ab R R (Bg true R R R)<|J 2 R R (Bj hm)) (fun _ K' h4 J hm=>Aa tbk [] 3 R R<|J 2 R R (Bj hm)) fun c hm=>Ab R R (Al R)<|B0 tbk [1,0] 6 17 11 R R R R R<|Ab R R (Al R)<|B0 tbk [1,0] 6 24 18 R R R R R<|Ab R R (Al R)<|B0 tbk [1,0] 6 31 25 R R R R R<|Ab R R (Al R)<|B0 tbk [1,0] 6 38 32 R R R R R<|Ab R R (Al R)<|B0 tbk [1,0] 6 45 39 R R R R R<|Ab R R (Ai R)<|Ad<|Rt1 hm R [] R R R

/-! trireme/triremeref10.Room -/
def ref10_Room.l3 (p : T_api_Pod) (r4 : List T_api_Pod) (i2 : Int) (k2 : Int) : Nat → Int → Option (Out (Out (Out Int Unit) Unit) Unit)
 | 0, _ => none
 | n3 + 1, j4 =>
  if (decide (j4 < (p.Ports.length : Int))) = true then
   (V.gl r4 i2).bind fun x2 =>
   (V.gl x2.Ports k2).bind fun x3 =>
   (V.gl p.Ports j4).bind fun x4 =>
   if (x3 == x4) = true then
    some (Out.ret (Out.ret (Out.ret 3)))
   else
    ref10_Room.l3 p r4 i2 k2 n3 (i64.wrap (j4 + 1))
  else
   some (Out.go ())
def ref10_Room.l2 (p : T_api_Pod) (r4 : List T_api_Pod) (i2 : Int) : Nat → Int → Option (Out (Out Int Unit) Unit)
 | 0, _ => none
 | n2 + 1, k2 =>
  (V.gl r4 i2).bind fun x =>
  if (decide (k2 < (x.Ports.length : Int))) = true then
   (ref10_Room.l3 p r4 i2 k2 FU (0 : Int)).bind fun o3 =>
   o3.on fun j5 =>
   ref10_Room.l2 p r4 i2 n2 (i64.wrap (k2 + 1))
  else
   some (Out.go ())
def ref10_Room.l1 (p : T_api_Pod) (r4 : List T_api_Pod) : Nat → Int → Option (Out Int Unit)
 | 0, _ => none
 | n + 1, i2 =>
  if (decide (i2 < (r4.length : Int))) = true then
   (ref10_Room.l2 p r4 i2 FU (0 : Int)).bind fun o2 =>
   o2.on fun j2 =>
   ref10_Room.l1 p r4 n (i64.wrap (i2 + 1))
  else
   some (Out.go ())
def ref10_Room (m : T_api_Machine) (bs : List T_api_Bound) (p : T_api_Pod) : Option Int :=
 (ref10_Others bs p.Name).bind fun r =>
 (ref09_Left m r).bind fun r2 =>
 (ref04_Fits p.Need r2).bind fun r3 =>
 if (!r3) = true then
  some 2
 else
  (ref09_On r m.Name).bind fun r4 =>
  (ref10_Room.l1 p r4 FU (0 : Int)).bind fun o =>
  o.on fun j =>
  some 0
theorem K152 (m : T_api_Machine) (bs : List T_api_Bound) (p : T_api_Pod) : VS Tryz.prog 116 (ref10_Room m bs p) [T_api_Machine.vv m, L50 bs, T_api_Pod.vv p] [] Iw N0 := by
 refine A2 [.tmp 6] Tryz.func116 R R R fun r hm=>?_
 unfold ref10_Room at hm
 refine Ah<|Ac R R<|A9 R R fun b=>Ac R R<|A9 R R fun b2=>Ab R R (Ai R)<|Ad<|Ah<|Aa tbk [0] 3 R R<|Ac R R<|B7 hm 0 R fn62 R (K146 _ _) fun r ob cap hm=>Be (Aw 0 [(15,L50 r)] R ⟨⟨_,R,.here _ R⟩,trivial⟩ (FzH.refl _))<|Ab R R (Ai R)<|Ad<|Ae<|Ae<|Bc 0 mixed<|Au tbk [0,1,2,3] [0,1] (by kernel_rfl) R R R<|Ao 4 (by kernel_rfl)<|Aq R R R<|Am hm 0 R fn147 R (K150 _ _) fun r2 hm=>Ao 5 (by kernel_rfl)<|Aq R R R<|Am hm 0 R fn146 R (K151 _ _) fun r3 hm=>Av 6 R R R (by kernel_rfl) (Cl R)<|A1 (by kernel_rfl)<|Ak hm R (fun h7 hm=>Ag tbk [] R R<|Rt1 hm R [] R R R) fun h7 hm=>Aj<|Ah<|Aa tbk [1] 3 R R<|Ac R R<|B7 hm 0 R fn148 R (K147 _ _) fun r4 ob2 cap2 hm=>Be (Aw 0 [(26,L48 r4)] R ⟨⟨_,R,.here _ R⟩,trivial⟩ (FzH.refl _))<|Ab R R (Ai R)<|Ad<|Ae<|Ag tbk [] R R<|Bu hm (fun _ (_:Unit)=>[]) (fun _ (_:Unit)=>[]) (fun o hm h11=>?_) fun j _ hm=> ?_
 ·refine Bm (fun zn (zs:Int)=>ref10_Room.l1 p r4 zn zs) (fun zs (_:Unit)=>[(5,.ptr b2 0),(8,L48 r4),(9,Iw zs)]) (fun _ (_:Unit)=>[X48 b2 p]) _ () (fun _=>R) hm (Af [0] R R) fun n i2 _ hm=> ?_
  rw [ref10_Room.l1] at hm
  refine Ae<|Ah<|Aa tbk [] 2 R R<|Ab R R (Ax T_api_Pod.vv R B4)<|Ab R R (A5 R R R)<|Ad<|Ak hm R (fun h12 hm=>?_) fun h12 hm=> ?_
  ·refine Aj<|Ae<|Az<|Ag tbk [] R R<|Bu hm (fun _ (_:Unit)=>[(5,.ptr b2 0),(8,L48 r4),(9,Iw i2)]) (fun _ (_:Unit)=>[X48 b2 p]) (fun o2 hm h14=>?_) fun j2 _ hm=> ?_
   ·refine Bm (fun zn (zs:Int)=>ref10_Room.l2 p r4 i2 zn zs) (fun zs (_:Unit)=>[(5,.ptr b2 0),(8,L48 r4),(9,Iw i2),(10,Iw zs)]) (fun _ (_:Unit)=>[X48 b2 p]) _ () (fun _=>R) hm (Af [0] R R) fun n2 k2 _ hm=> ?_
    rw [ref10_Room.l2] at hm
    refine Ae<|Ah<|Aa tbk [] 3 R R<|Bd hm fun x h15 hm=>Ab R R (A0 T_api_Pod.vv R R el24 h15)<|Aa tbk [] 2 R R<|Ab R R (Ax (VV.int .i64) R Bq)<|Ab R R (A5 R R R)<|Ad<|Ak hm R (fun h16 hm=>?_) fun h16 hm=> ?_
    ·refine Aj<|Ae<|Az<|Ag tbk [] R R<|Bu hm (fun _ (_:Unit)=>[(5,.ptr b2 0),(8,L48 r4),(9,Iw i2),(10,Iw k2)]) (fun _ (_:Unit)=>[X48 b2 p]) (fun o3 hm h18=>?_) fun j5 _ hm=> ?_
     ·refine Bm (fun zn (zs:Int)=>ref10_Room.l3 p r4 i2 k2 zn zs) (fun zs (_:Unit)=>[(5,.ptr b2 0),(8,L48 r4),(9,Iw i2),(10,Iw k2),(11,Iw zs)]) (fun _ (_:Unit)=>[X48 b2 p]) _ () (fun _=>R) hm (Af [0] R R) fun n3 j4 _ hm=> ?_
      rw [ref10_Room.l3] at hm
      exact Ae<|Ah<|Aa tbk [0] 3 R R<|Ab R R (Ax (VV.int .i64) R Bq)<|Ab R R (A5 R R R)<|Ad<|Ak hm R (fun h19 hm=>Aj<|Ae<|Az<|Ae<|Bc 0 mixed<|Au tbk [0,1] [] (by kernel_rfl) R R R<|Bd hm fun x2 h20 hm=>Av 2 R R R (by kernel_rfl) (A0 T_api_Pod.vv R R el24 h20)<|Au tbk [3,4,5] [] (by kernel_rfl) R R R<|Bd hm fun x3 h21 hm=>Av 6 R R R (by kernel_rfl) (A0 (VV.int .i64) R R el41 h21)<|Au tbk [7,8,9,10] [0] (by kernel_rfl) R R R<|Bd hm fun x4 h22 hm=>Av 11 R R R (by kernel_rfl) (A0 (VV.int .i64) R R el41 h22)<|Au tbk [12,13] [] (by kernel_rfl) R R R<|A1 (by kernel_rfl)<|Ak hm R (fun h23 hm=>Ag tbk [] R R<|have hm:=Lr hm h18;have hm:=Lr hm h14;have hm:=Lr hm h11;Rt1 hm R [] R R R) fun h23 hm=>Aj<|A6 tbk [] R R<|Ap _ () hm (Af [0] R R)) fun h19 hm=>A3<|Ar () hm (Af [0] R R)
     exact A6 tbk [] R R<|Ap _ () hm (Af [0] R R)
    exact A3<|Ar () hm (Af [0] R R)
   exact A6 tbk [] R R<|Ap _ () hm (Af [0] R R)
  exact A3<|Ar () hm (Af [] R R)
 exact Ag tbk [] R R<|Rt1 hm R [] R R R

/-! trireme/triremeref10.Suits -/
def ref10_Suits (m : T_api_Machine) (bs : List T_api_Bound) (p : T_api_Pod) : Option Int :=
 (ref10_Place m p).bind fun r =>
 if (r != 0) = true then
  some r
 else
  (ref10_Room m bs p).bind fun r2 =>
  some r2
theorem K153 (m : T_api_Machine) (bs : List T_api_Bound) (p : T_api_Pod) : VS Tryz.prog 81 (ref10_Suits m bs p) [T_api_Machine.vv m, L50 bs, T_api_Pod.vv p] [] Iw N0 := by
 refine A2 [.tmp 6] Tryz.func81 R R R fun r hm=>?_
 unfold ref10_Suits at hm
 exact Ah<|Ac R R<|A9 R R fun b=>Ac R R<|A9 R R fun b2=>Ab R R (Ai R)<|Ad<|Ah<|Aa tbk [1,0] 2 R R<|Ac R R<|Am hm 0 R fn115 R (K145 _ _) fun r hm=>Ab R R (Ai R)<|Ad<|Ae<|Ag tbk [] R R<|Ak hm R (fun h4 hm=>Ag tbk [] R R<|Rt1 hm R [] R R R) fun h4 hm=>Aj<|Ah<|Aa tbk [1,0] 3 R R<|Ac R R<|Am hm 0 R fn116 R (K152 _ _ _) fun r2 hm=>Ab R R (Ai R)<|Ad<|Rt1 hm R [] R R R

/-! trireme/triremeref11.zone -/
def ref11_zone (ms : List T_api_Machine) (name : ByteArray) : Option (ByteArray × Bool) :=
 (ref09_Find ms name).bind fun r =>
 if (decide (r < 0)) = true then
  some ((⟨#[]⟩ : ByteArray), false)
 else
  (V.gl ms r).bind fun x =>
  (ref05_Get x.Labels (⟨#[122, 111, 110, 101]⟩ : ByteArray)).bind fun r2 =>
  some (r2.1, r2.2)
theorem K154 (ms : List T_api_Machine) (name : ByteArray) : VS Tryz.prog 150 (ref11_zone ms name) [L30 ms, .str name] [] (fun r=>.tup [.str r.1, .bool r.2]) N0 := by
 refine A2 [.tmp 4,.tmp 5] Tryz.func150 R R R fun r hm=>?_
 unfold ref11_zone at hm
 exact Ag tbk [] R R<|Ah<|Aa tbk [] 2 R R<|Ac R R<|Am hm 0 R fn80 R (K60 _ _) fun r hm=>Ab R R (Ai R)<|Ad<|Ae<|Ag tbk [] R R<|Ak hm R (fun h2 hm=>Ag tbk [] R R<|Rt2 hm R [] R R R R) fun h2 hm=>Aj<|Ah<|Aa tbk [] 2 R R<|Bd hm fun x h3 hm=>Ab R R (A0 T_api_Machine.vv R R el22 h3)<|Aa tbk [] 2 R R<|Ac R R<|Am hm 0 R fn163 R (K137 _ _) fun r2 hm=>Aa tbk [] 4 R R<|Ad<|Rt2 hm R [] R R R R

/-! trireme/triremeref11.together -/
def ref11_together (ms : List T_api_Machine) (a : ByteArray) (b : ByteArray) (wide : Bool) : Option Bool :=
 if (V.seq a b) = true then
  some true
 else
  (ref11_zone ms a).bind fun r =>
  (ref11_zone ms b).bind fun r2 =>
  some (((wide && r.2) && r2.2) && (V.seq r.1 r2.1))
theorem K155 (ms : List T_api_Machine) (a : ByteArray) (b : ByteArray) (wide : Bool) : VS Tryz.prog 149 (ref11_together ms a b wide) [L30 ms, .str a, .str b, .bool wide] [] .bool N0 := by
 refine A2 [.tmp 8] Tryz.func149 R R R fun r hm=>?_
 unfold ref11_together at hm
 exact Ag tbk [] R R<|Ae<|Ag tbk [] R R<|Ak hm R (fun h1 hm=>Ag tbk [] R R<|Rt1 hm R [] R R R) fun h1 hm=>Aj<|Ah<|Aa tbk [] 2 R R<|Ac R R<|Am hm 0 R fn150 R (K154 _ _) fun r hm=>Aa tbk [] 5 R R<|Ad<|Ah<|Aa tbk [] 2 R R<|Ac R R<|Am hm 0 R fn150 R (K154 _ _) fun r2 hm=>Aa tbk [] 5 R R<|Ad<|Ah<|Aa tbk [] 2 R R<|B0 tbk [] 2 31 29 R R R R R<|Ab R R (Al R)<|B0 tbk [] 2 34 32 R R R R R<|Ab R R (Al R)<|B0 tbk [] 4 39 35 R R R R R<|Ab R R (Ai R)<|Ad<|Rt1 hm R [] R R R

/-! trireme/triremeref11.Near -/
def ref11_Near.l1 (ms : List T_api_Machine) (bs : List T_api_Bound) (p : T_api_Pod) (on_ : ByteArray) : Nat → Int → Option (Out Bool Unit)
 | 0, _ => none
 | n + 1, i2 =>
  if (decide (i2 < (bs.length : Int))) = true then
   (V.gl bs i2).bind fun x =>
   (if (V.seq x.Pod.Name p.Name) = true then some true else (V.gl bs i2).bind fun x2 =>
   some (V.seq x2.On (⟨#[]⟩ : ByteArray))).bind fun c =>
   if c = true then
    ref11_Near.l1 ms bs p on_ n (i64.wrap (i2 + 1))
   else
    (if (decide ((p.Apart.length : Int) > 0)) = true then (ref05_Has x.Pod.Labels p.Apart).bind fun r2 =>
    some r2 else some false).bind fun c2 =>
    (if c2 = true then (V.gl bs i2).bind fun x3 =>
    (ref11_together ms on_ x3.On p.Wide).bind fun r3 =>
    some r3 else some false).bind fun c3 =>
    if c3 = true then
     some (Out.ret true)
    else
     (if (decide ((x.Pod.Apart.length : Int) > 0)) = true then (ref05_Has p.Labels x.Pod.Apart).bind fun r4 =>
     some r4 else some false).bind fun c4 =>
     (if c4 = true then (V.gl bs i2).bind fun x4 =>
     (ref11_together ms on_ x4.On x.Pod.Wide).bind fun r5 =>
     some r5 else some false).bind fun c5 =>
     if c5 = true then
      some (Out.ret true)
     else
      ref11_Near.l1 ms bs p on_ n (i64.wrap (i2 + 1))
  else
   some (Out.go ())
def ref11_Near (ms : List T_api_Machine) (bs : List T_api_Bound) (p : T_api_Pod) (on_ : ByteArray) : Option Bool :=
 (ref09_Find ms on_).bind fun r =>
 if (decide (r < 0)) = true then
  some false
 else
  (ref11_Near.l1 ms bs p on_ FU (0 : Int)).bind fun o =>
  o.on fun j =>
  some false
theorem K156 (ms : List T_api_Machine) (bs : List T_api_Bound) (p : T_api_Pod) (on_ : ByteArray) : VS Tryz.prog 117 (ref11_Near ms bs p on_) [L30 ms, L50 bs, T_api_Pod.vv p, .str on_] [] .bool N0 := by
 refine A2 [.tmp 8] Tryz.func117 R R R fun r hm=>?_
 unfold ref11_Near at hm
 refine Ah<|Ac R R<|A9 R R fun b=>Ab R R (Ai R)<|Ad<|Ae<|Ah<|Aa tbk [] 2 R R<|Ac R R<|Am hm 0 R fn80 R (K60 _ _) fun r hm=>Ab R R (A5 R R R)<|Ad<|Ak hm R (fun h3 hm=>Ag tbk [] R R<|Rt1 hm R [] R R R) fun h3 hm=>Aj<|Ae<|Ag tbk [] R R<|Bu hm (fun _ (_:Unit)=>[]) (fun _ (_:Unit)=>[]) (fun o hm h5=>?_) fun j _ hm=> ?_
 ·refine Bm (fun zn (zs:Int)=>ref11_Near.l1 ms bs p on_ zn zs) (fun zs (_:Unit)=>[(0,L30 ms),(1,L50 bs),(3,.str on_),(6,.ptr b 0),(9,Iw zs)]) (fun _ (_:Unit)=>[X48 b p]) _ () (fun _=>R) hm (Af [0] R R) fun n i2 _ hm=> ?_
  rw [ref11_Near.l1] at hm
  refine Ae<|Ah<|Aa tbk [] 2 R R<|Ab R R (Ax T_api_Bound.vv R Bn)<|Ab R R (A5 R R R)<|Ad<|Ak hm R (fun h6 hm=>?_) fun h6 hm=> ?_
  ·refine Aj<|Ae<|Az<|Ah<|Aa tbk [] 2 R R<|Bd hm fun x h7 hm=>Ab R R (A0 T_api_Bound.vv R R el23 h7)<|Aa tbk [] 2 R R<|Ac R R<|Ay z48 fun b2=>Ac R R<|An (i:=0) R R R ld48 R R R<|Ad<|Ae<|Ah<|Aa tbk [0,1] 6 R R<|Bf hm 7 38 31 R (fun _ K' h9 J hm=>Aa tbk [] 7 R R<|J 6 R R (Bj hm)) (fun _ K' h9 J hm=>Aa tbk [] 2 R R<|Bd hm fun x2 h10 hm=>Bk R R R R R (A0 T_api_Bound.vv R R el23 h10)<|Aa tbk [] 4 R R<|J 6 R R (Bj hm)) fun c hm=>Ad<|Ak hm R (fun h12 hm=>A3<|A6 tbk [] R R<|Ap _ () hm (Af [1] R R)) fun h12 hm=>Aj<|Ae<|Ae<|Bc 0 mixed<|Au tbk [0,1] [1] (by kernel_rfl) R R R<|Av 2 R R R (by kernel_rfl) (Ax T_api_Label.vv R Bp)<|Au tbk [3,4] [] (by kernel_rfl) R R R<|Ct hm [10,9,8,7,6,5,4,3,2,1,0] 49 43 R (fun _ K' h13 J hm=>Au tbk [5,6,7,8] [0,1] (by kernel_rfl) R R R<|Ao 9 (by kernel_rfl)<|Cv R R R R R R<|Am hm 0 R fn143 R (K138 _ _) fun r2 hm=>Av 10 R R R (by kernel_rfl) (Bg true R R R)<|J 5 R R (Bj hm)) (fun _ K' h13 J hm=>Au tbk [5,6,7,8,9,10] [] (by kernel_rfl) R R R<|J 5 R R (Bj hm)) fun c2 hm=>Av 11 R R R (by kernel_rfl) (Al R)<|Ct hm [22,21,20,19,18,17,16,15,14,13,12,11,10,9,8,7,6,5,4,3,2,1,0] 61 50 R (fun _ K' h16 J hm=>Au tbk [12,13,14,15] [] (by kernel_rfl) R R R<|Bd hm fun x3 h17 hm=>Cc 16 R R R R R R (by kernel_rfl) (A0 T_api_Bound.vv R R el23 h17)<|Au tbk [17,18,19,20] [1] (by kernel_rfl) R R R<|Ao 21 (by kernel_rfl)<|Cv R R R R R R<|Am hm 0 R fn149 R (K155 _ _ _ _) fun r3 hm=>Av 22 R R R (by kernel_rfl) (Bg true R R R)<|J 10 R R (Bj hm)) (fun _ K' h16 J hm=>Au tbk [12,13,14,15,16,17,18,19,20,21,22] [] (by kernel_rfl) R R R<|J 10 R R (Bj hm)) fun c3 hm=>A1 (by kernel_rfl)<|Ak hm R (fun h20 hm=>Ag tbk [] R R<|have hm:=Lr hm h5;Rt1 hm R [] R R R) fun h20 hm=>Aj<|Ae<|Bc 0 mixed<|Au tbk [0,1] [0] (by kernel_rfl) R R R<|Av 2 R R R (by kernel_rfl) (Ax T_api_Label.vv R Bp)<|Au tbk [3,4] [] (by kernel_rfl) R R R<|Ct hm [10,9,8,7,6,5,4,3,2,1,0] 72 66 R (fun _ K' h21 J hm=>Au tbk [5,6,7,8] [1,0] (by kernel_rfl) R R R<|Ao 9 (by kernel_rfl)<|Cv R R R R R R<|Am hm 0 R fn143 R (K138 _ _) fun r4 hm=>Av 10 R R R (by kernel_rfl) (Bg true R R R)<|J 5 R R (Bj hm)) (fun _ K' h21 J hm=>Au tbk [5,6,7,8,9,10] [] (by kernel_rfl) R R R<|J 5 R R (Bj hm)) fun c4 hm=>Av 11 R R R (by kernel_rfl) (Al R)<|Ct hm [22,21,20,19,18,17,16,15,14,13,12,11,10,9,8,7,6,5,4,3,2,1,0] 84 73 R (fun _ K' h24 J hm=>Au tbk [12,13,14,15] [] (by kernel_rfl) R R R<|Bd hm fun x4 h25 hm=>Cc 16 R R R R R R (by kernel_rfl) (A0 T_api_Bound.vv R R el23 h25)<|Au tbk [17,18,19,20] [0] (by kernel_rfl) R R R<|Ao 21 (by kernel_rfl)<|Cv R R R R R R<|Am hm 0 R fn149 R (K155 _ _ _ _) fun r5 hm=>Av 22 R R R (by kernel_rfl) (Bg true R R R)<|J 10 R R (Bj hm)) (fun _ K' h24 J hm=>Au tbk [12,13,14,15,16,17,18,19,20,21,22] [] (by kernel_rfl) R R R<|J 10 R R (Bj hm)) fun c5 hm=>A1 (by kernel_rfl)<|?_
   exact Ak hm R (fun h28 hm=>Ag tbk [] R R<|have hm:=Lr hm h5;Rt1 hm R [] R R R) fun h28 hm=>Aj<|A6 tbk [] R R<|Ap _ () hm (Af [1] R R)
  exact A3<|Ar () hm (Af [] R R)
 exact Ag tbk [] R R<|Rt1 hm R [] R R R

/-! trireme/triremeref09.Zones -/
def ref09_Zones.l2 (out2 : List ByteArray) (r : ByteArray × Bool) : Nat → Bool → Int → Option Bool
 | 0, _, _ => none
 | n2 + 1, is2, k2 =>
  if (decide (k2 < (out2.length : Int))) = true then
   (if is2 = true then (V.gl out2 k2).bind fun x2 =>
   some (!(V.seq x2 r.1)) else some false).bind fun c =>
   ref09_Zones.l2 out2 r n2 c (i64.wrap (k2 + 1))
  else
   some is2
def ref09_Zones.l1 (ms : List T_api_Machine) : Nat → (List ByteArray) → Int → Option (List ByteArray)
 | 0, _, _ => none
 | n + 1, out2, i2 =>
  if (decide (i2 < (ms.length : Int))) = true then
   (V.gl ms i2).bind fun x =>
   (ref05_Get x.Labels (⟨#[122, 111, 110, 101]⟩ : ByteArray)).bind fun r =>
   (ref09_Zones.l2 out2 r FU r.2 (0 : Int)).bind fun is32 =>
   (if is32 = true then (V.gl ms i2).bind fun x3 =>
   some x3.Ready else some false).bind fun c2 =>
   if c2 = true then
    (V.ap 16 out2 [r.1]).bind fun out4 =>
    ref09_Zones.l1 ms n out4 (i64.wrap (i2 + 1))
   else
    ref09_Zones.l1 ms n out2 (i64.wrap (i2 + 1))
  else
   some out2
def ref09_Zones (ms : List T_api_Machine) : Option (List ByteArray) :=
 (ref09_Zones.l1 ms FU ([] : List ByteArray) (0 : Int)).bind fun out32 =>
 some out32
theorem K157 (ms : List T_api_Machine) : VS2 Tryz.prog 167 (ref09_Zones ms) [L30 ms] [] (fun r ob0 cap0=>Z9 ob0 r cap0) (fun r ob0 cap0=>[Q9 ob0 cap0 r]) := by
 refine Cg [.tmp 2] Tryz.func167 R R R fun r hm=>?_
 unfold ref09_Zones at hm
 refine Ag tbk [] R R<|Ag tbk [] R R<|Ae<|Ag tbk [] R R<|Bx hm (fun out32 (gg:Option Nat × Nat)=>[(3,Z9 gg.1 out32 gg.2)]) (fun out32 (gg:Option Nat × Nat)=>[Q9 gg.1 gg.2 out32]) (fun o hm=>?_) fun out32=>Pq fun ob3 cap3 hm=> ?_
 ·refine Bm (fun zn (zs:List ByteArray × Int)=>ref09_Zones.l1 ms zn zs.1 zs.2) (fun zs (zg:Option Nat × Nat)=>[(0,L30 ms),(3,Z9 zg.1 zs.1 zg.2),(4,Iw zs.2)]) (fun zs (zg:Option Nat × Nat)=>[Q9 zg.1 zg.2 zs.1]) (([] : List ByteArray),(0 : Int)) (none,0) (fun _=>R) hm (Ba (Bb 9) (Af [0] R R)) fun n=>Pq fun out2 i2=>Pq fun ob2 cap2 hm=> ?_
  rw [ref09_Zones.l1] at hm
  refine Ae<|Ah<|Aa tbk [] 2 R R<|Ab R R (Ax T_api_Machine.vv R Bv)<|Ab R R (A5 R R R)<|Ad<|Ak hm R (fun h5 hm=>?_) fun h5 hm=> ?_
  ·refine Aj<|Ae<|Az<|Ah<|Aa tbk [] 2 R R<|Bd hm fun x h6 hm=>Ab R R (A0 T_api_Machine.vv R R el22 h6)<|Aa tbk [] 2 R R<|Ac R R<|Am hm 0 R fn163 R (K137 _ _) fun r hm=>Aa tbk [] 5 R R<|Ad<|Ae<|Ag tbk [] R R<|Bx hm (fun is32 (_:Unit)=>[(0,L30 ms),(3,Z9 ob2 out2 cap2),(4,Iw i2),(5,.str r.1),(6,.bool is32)]) (fun _ (_:Unit)=>[Q9 ob2 cap2 out2]) (fun o2 hm=>?_) fun is32 _ hm=> ?_
   ·refine Bm (fun zn (zs:Bool × Int)=>ref09_Zones.l2 out2 r zn zs.1 zs.2) (fun zs (_:Unit)=>[(0,L30 ms),(3,Z9 ob2 out2 cap2),(4,Iw i2),(5,.str r.1),(6,.bool zs.1),(7,Iw zs.2)]) (fun _ (_:Unit)=>[Q9 ob2 cap2 out2]) (r.2,(0 : Int)) () (fun _=>R) hm (Af [0] R R) fun n2=>Pq fun is2 k2 _ hm=> ?_
    rw [ref09_Zones.l2] at hm
    refine Ae<|Ah<|Aa tbk [] 2 R R<|Ab R R (Cr VV.str R Br)<|Ab R R (A5 R R R)<|Ad<|Ak hm R (fun h10 hm=>?_) fun h10 hm=> ?_
    ·refine Aj<|Ae<|Az<|Bo<|Aa tbk [] 2 R R<|Bf hm 7 37 30 R (fun _ K' h11 J hm=>?_) (fun _ K' h11 J hm=>Aa tbk [] 7 R R<|J 6 R R (Bj hm)) fun c hm=> ?_
     ·refine Aa tbk [] 2 R R<|Bd hm fun x2 h12 hm=>Ci 0 R (gl_pos VV.str h12) fun b h13=> ?_
      subst h13
      exact Bk R R R R R (Cd VV.str R R el51 h12)<|Bk R R R R R (Cb (i:=0) (y:=VV.str x2) R R R (gl_map _ (gl_some h12).2) ld9 R)<|Aa tbk [] 3 R R<|J 6 R R (Bj hm)
     exact Ab R R (Ai R)<|Ad<|A6 tbk [] R R<|Ap (c,(IntKind.i64.wrap (k2 + (1 : Int)))) () hm (Af [0] R R)
    exact A3<|As () hm (Af [0] R R)
   exact Ah<|Aa tbk [] 2 R R<|Bf hm 6 45 39 R (fun _ K' h15 J hm=>Aa tbk [] 2 R R<|Bd hm fun x3 h16 hm=>Bk R R R R R (A0 T_api_Machine.vv R R el22 h16)<|Aa tbk [] 3 R R<|J 5 R R (Bj hm)) (fun _ K' h15 J hm=>Aa tbk [] 6 R R<|J 5 R R (Bj hm)) fun c2 hm=>Ad<|Ak hm R (fun h18 hm=>Bo<|Aa tbk [] 2 R R<|Ac R R<|A7 ap51 R R R R R fun b2=>Bd hm fun out4 h20 hm=>Ac R R<|Bz 1 VV.str (l:=out2) (l2:=[r.1]) ap51 R R (sT_row 0 VV.str el51 R R) h20 fun ob4 cap4=>Ab R R (Ai R)<|Ad<|A6 tbk [] R R<|Ap (out4,(IntKind.i64.wrap (i2 + (1 : Int)))) (ob4,cap4) hm (Af [1] R R)) fun h18 hm=>Aj<|A6 tbk [] R R<|Ap (out2,(IntKind.i64.wrap (i2 + (1 : Int)))) (ob2,cap2) hm (Af [0] R R)
  exact A3<|As (ob2,cap2) hm (Af [0] R R)
 exact Ag tbk [] R R<|Rg2 hm R [0] ob3 cap3 (.cons (.tmp _ _ R) .nil) R R

/-! trireme/triremeref11.Counts -/
def ref11_Counts.l2 (ms : List T_api_Machine) (bs : List T_api_Bound) (p : T_api_Pod) (r : List ByteArray) (i2 : Int) : Nat → Int → Int → Option Int
 | 0, _, _ => none
 | n5 + 1, k2, j2 =>
  if (decide (j2 < (bs.length : Int))) = true then
   (V.gl bs j2).bind fun x =>
   (ref11_zone ms x.On).bind fun r2 =>
   (V.gl bs j2).bind fun x2 =>
   (if (!(V.seq x2.On (⟨#[]⟩ : ByteArray))) = true then (V.gl bs j2).bind fun x3 =>
   some (!(V.seq x3.Pod.Name p.Name)) else some false).bind fun c =>
   (if (c && r2.2) = true then (V.gl r i2).bind fun x4 =>
   some (V.seq r2.1 x4) else some false).bind fun c2 =>
   (if c2 = true then (V.gl bs j2).bind fun x5 =>
   (ref05_Has x5.Pod.Labels p.Spread).bind fun r3 =>
   some r3 else some false).bind fun c3 =>
   if c3 = true then
    ref11_Counts.l2 ms bs p r i2 n5 (i64.wrap (k2 + 1)) (i64.wrap (j2 + 1))
   else
    ref11_Counts.l2 ms bs p r i2 n5 k2 (i64.wrap (j2 + 1))
  else
   some k2
def ref11_Counts.l1 (ms : List T_api_Machine) (bs : List T_api_Bound) (p : T_api_Pod) (r : List ByteArray) : Nat → (List Int) → Int → Option (List Int)
 | 0, _, _ => none
 | n4 + 1, n2, i2 =>
  if (decide (i2 < (r.length : Int))) = true then
   (ref11_Counts.l2 ms bs p r i2 FU 0 (0 : Int)).bind fun k32 =>
   (V.ap 8 n2 [k32]).bind fun n6 =>
   ref11_Counts.l1 ms bs p r n4 n6 (i64.wrap (i2 + 1))
  else
   some n2
def ref11_Counts (ms : List T_api_Machine) (bs : List T_api_Bound) (p : T_api_Pod) : Option (List ByteArray × List Int) :=
 (ref09_Zones ms).bind fun r =>
 (ref11_Counts.l1 ms bs p r FU ([] : List Int) (0 : Int)).bind fun n32 =>
 some (r, n32)
theorem K158 (ms : List T_api_Machine) (bs : List T_api_Bound) (p : T_api_Pod) : VS2 Tryz.prog 151 (ref11_Counts ms bs p) [L30 ms, L50 bs, T_api_Pod.vv p] [] (fun r ob1 cap1=>.tup [L9 r.1, Z3 ob1 r.2 cap1]) (fun r ob1 cap1=>[Q3 ob1 cap1 r.2]) := by
 refine Cg [.tmp 6,.tmp 7] Tryz.func151 R R R fun r hm=>?_
 unfold ref11_Counts at hm
 refine Ah<|Ac R R<|A9 R R fun b=>Aa tbk [] 2 R R<|Ad<|Ah<|Ab R R (Al R)<|Ac R R<|B7 hm 0 R fn167 R (K157 _) fun r ob cap hm=>Be (Aw 0 [(16,L9 r)] R ⟨⟨_,R,.here _ R⟩,trivial⟩ (FzH.refl _))<|Ab R R (Ai R)<|Ad<|Ag tbk [] R R<|Ae<|Ag tbk [] R R<|Bx hm (fun n32 (gg:Option Nat × Nat)=>[(8,L9 r),(9,Z3 gg.1 n32 gg.2)]) (fun n32 (gg:Option Nat × Nat)=>[Q3 gg.1 gg.2 n32]) (fun o hm=>?_) fun n32=>Pq fun ob4 cap4 hm=> ?_
 ·refine Bm (fun zn (zs:List Int × Int)=>ref11_Counts.l1 ms bs p r zn zs.1 zs.2) (fun zs (zg:Option Nat × Nat)=>[(0,L30 ms),(1,L50 bs),(5,.ptr b 0),(8,L9 r),(9,Z3 zg.1 zs.1 zg.2),(10,Iw zs.2)]) (fun zs (zg:Option Nat × Nat)=>[Q3 zg.1 zg.2 zs.1,X48 b p]) (([] : List Int),(0 : Int)) (none,0) (fun _=>R) hm (Ba (Bb 3) (Af [0,0] R R)) fun n4=>Pq fun n2 i2=>Pq fun ob3 cap3 hm=> ?_
  rw [ref11_Counts.l1] at hm
  refine Ae<|Ah<|Aa tbk [] 2 R R<|Ab R R (Ax VV.str R Br)<|Ab R R (A5 R R R)<|Ad<|Ak hm R (fun h8 hm=>?_) fun h8 hm=> ?_
  ·refine Aj<|Ae<|Az<|Ag tbk [] R R<|Ae<|Ag tbk [] R R<|Bx hm (fun k32 (_:Unit)=>[(0,L30 ms),(1,L50 bs),(5,.ptr b 0),(8,L9 r),(9,Z3 ob3 n2 cap3),(10,Iw i2),(11,Iw k32)]) (fun _ (_:Unit)=>[Q3 ob3 cap3 n2,X48 b p]) (fun o2 hm=>?_) fun k32 _ hm=> ?_
   ·refine Bm (fun zn (zs:Int × Int)=>ref11_Counts.l2 ms bs p r i2 zn zs.1 zs.2) (fun zs (_:Unit)=>[(0,L30 ms),(1,L50 bs),(5,.ptr b 0),(8,L9 r),(9,Z3 ob3 n2 cap3),(10,Iw i2),(11,Iw zs.1),(12,Iw zs.2)]) (fun _ (_:Unit)=>[Q3 ob3 cap3 n2,X48 b p]) ((0 : Int),(0 : Int)) () (fun _=>R) hm (Af [0,0] R R) fun n5=>Pq fun k2 j2 _ hm=> ?_
    rw [ref11_Counts.l2] at hm
    refine Ae<|Ah<|Aa tbk [] 2 R R<|Ab R R (Ax T_api_Bound.vv R Bn)<|Ab R R (A5 R R R)<|Ad<|Ak hm R (fun h11 hm=>?_) fun h11 hm=> ?_
    ·exact Aj<|Ae<|Az<|Ah<|Aa tbk [] 3 R R<|Bd hm fun x h12 hm=>Ab R R (A0 T_api_Bound.vv R R el23 h12)<|Aa tbk [] 2 R R<|Ac R R<|Am hm 0 R fn150 R (K154 _ _) fun r2 hm=>Aa tbk [] 5 R R<|Ad<|Ae<|Bc 0 mixed<|Au tbk [0,1] [] (by kernel_rfl) R R R<|Bd hm fun x2 h14 hm=>Av 2 R R R (by kernel_rfl) (A0 T_api_Bound.vv R R el23 h14)<|Au tbk [3,4,5,6] [] (by kernel_rfl) R R R<|Ct hm [16,15,14,13,12,11,10,9,8,7,6,5,4,3,2,1,0] 55 45 R (fun _ K' h15 J hm=>Au tbk [7,8] [] (by kernel_rfl) R R R<|Bd hm fun x3 h16 hm=>Cc 9 R R R R R R (by kernel_rfl) (A0 T_api_Bound.vv R R el23 h16)<|Au tbk [10,11,12,13,14,15,16] [1] (by kernel_rfl) R R R<|J 9 R R (Bj hm)) (fun _ K' h15 J hm=>Au tbk [7,8,9,10,11,12,13,14,15,16] [] (by kernel_rfl) R R R<|J 9 R R (Bj hm)) fun c hm=>Av 17 R R R (by kernel_rfl) (Al R)<|Db [19,18,17,16,15,14,13,12,11,10,9,8,7,6,5,4,3,2,1,0] 58 56 R (fun h18 K' J=>Au tbk [18,19] [] (by kernel_rfl) R R R<|J 1 R R R) (fun K' J=>Au tbk [18,19] [] (by kernel_rfl) R R R<|J 1 R R R)<|Av 20 R R R (by kernel_rfl) (Al R)<|Ct hm [27,26,25,24,23,22,21,20,19,18,17,16,15,14,13,12,11,10,9,8,7,6,5,4,3,2,1,0] 66 59 R (fun _ K' h19 J hm=>Au tbk [21,22,23] [] (by kernel_rfl) R R R<|Bd hm fun x4 h20 hm=>Cc 24 R R R R R R (by kernel_rfl) (A0 VV.str R R el51 h20)<|Au tbk [25,26,27] [] (by kernel_rfl) R R R<|J 6 R R (Bj hm)) (fun _ K' h19 J hm=>Au tbk [21,22,23,24,25,26,27] [] (by kernel_rfl) R R R<|J 6 R R (Bj hm)) fun c2 hm=>Av 28 R R R (by kernel_rfl) (Al R)<|Ct hm [38,37,36,35,34,33,32,31,30,29,28,27,26,25,24,23,22,21,20,19,18,17,16,15,14,13,12,11,10,9,8,7,6,5,4,3,2,1,0] 77 67 R (fun _ K' h22 J hm=>Au tbk [29,30] [] (by kernel_rfl) R R R<|Bd hm fun x5 h23 hm=>Cc 31 R R R R R R (by kernel_rfl) (A0 T_api_Bound.vv R R el23 h23)<|Au tbk [32,33,34,35,36] [1] (by kernel_rfl) R R R<|Ao 37 (by kernel_rfl)<|Cv R R R R R R<|Am hm 0 R fn143 R (K138 _ _) fun r3 hm=>Av 38 R R R (by kernel_rfl) (Bg true R R R)<|J 9 R R (Bj hm)) (fun _ K' h22 J hm=>Au tbk [29,30,31,32,33,34,35,36,37,38] [] (by kernel_rfl) R R R<|J 9 R R (Bj hm)) fun c3 hm=>A1 (by kernel_rfl)<|Ak hm R (fun h26 hm=>A6 tbk [] R R<|A6 tbk [] R R<|Ap ((IntKind.i64.wrap (k2 + (1 : Int))),(IntKind.i64.wrap (j2 + (1 : Int)))) () hm (Af [0,0] R R)) fun h26 hm=>Aj<|A6 tbk [] R R<|Ap (k2,(IntKind.i64.wrap (j2 + (1 : Int)))) () hm (Af [0,0] R R)
    exact A3<|As () hm (Af [0,0] R R)
   exact Bo<|Aa tbk [] 2 R R<|Ac R R<|A7 ap41 R R R R R fun b2=>Bd hm fun n6 h28 hm=>Ac R R<|Bz 1 (VV.int .i64) (l:=n2) (l2:=[k32]) ap41 R R (sT_row 0 (VV.int .i64) el41 R R) h28 fun ob5 cap5=>Ab R R (Ai R)<|Ad<|A6 tbk [] R R<|Ap (n6,(IntKind.i64.wrap (i2 + (1 : Int)))) (ob5,cap5) hm (Af [1,1] R R)
  exact A3<|As (ob3,cap3) hm (Af [0] R R)
 exact Ag tbk [] R R<|Rg2 hm R [0] ob4 cap4 (.cons (.tmp _ _ R) (.cons (.tmp _ _ R) .nil)) R R

/-! trireme/triremeref11.Many -/
def ref11_Many.l1 (r2 : ByteArray × Bool) (r3 : List ByteArray × List Int) : Nat → Int → Int → Int → Option (Int × Int)
 | 0, _, _, _ => none
 | n + 1, mine2, least2, i2 =>
  if (decide (i2 < (r3.1.length : Int))) = true then
   (if (i2 == 0) = true then some true else (V.gl r3.2 i2).bind fun x =>
   some (decide (x < least2))).bind fun c2 =>
   if c2 = true then
    (V.gl r3.2 i2).bind fun x2 =>
    (if r2.2 = true then (V.gl r3.1 i2).bind fun x3 =>
    some (V.seq x3 r2.1) else some false).bind fun c3 =>
    if c3 = true then
     (V.gl r3.2 i2).bind fun x4 =>
     ref11_Many.l1 r2 r3 n x4 x2 (i64.wrap (i2 + 1))
    else
     ref11_Many.l1 r2 r3 n mine2 x2 (i64.wrap (i2 + 1))
   else
    (if r2.2 = true then (V.gl r3.1 i2).bind fun x5 =>
    some (V.seq x5 r2.1) else some false).bind fun c4 =>
    if c4 = true then
     (V.gl r3.2 i2).bind fun x6 =>
     ref11_Many.l1 r2 r3 n x6 least2 (i64.wrap (i2 + 1))
    else
     ref11_Many.l1 r2 r3 n mine2 least2 (i64.wrap (i2 + 1))
  else
   some (mine2, least2)
def ref11_Many (ms : List T_api_Machine) (bs : List T_api_Bound) (p : T_api_Pod) (on_ : ByteArray) : Option Bool :=
 (if ((p.Spread.length : Int) == 0) = true then some true else (ref09_Find ms on_).bind fun r =>
 some (decide (r < 0))).bind fun c =>
 if c = true then
  some false
 else
  (ref11_zone ms on_).bind fun r2 =>
  (ref11_Counts ms bs p).bind fun r3 =>
  (ref11_Many.l1 r2 r3 FU (-1) 0 (0 : Int)).bind fun j =>
  if (decide (j.1 < 0)) = true then
   some true
  else
   (ref05_Has p.Labels p.Spread).bind fun r4 =>
   if r4 = true then
    some (decide ((i64.wrap ((i64.wrap (j.1 + 1)) - j.2)) > p.Skew))
   else
    some (decide ((i64.wrap (j.1 - j.2)) > p.Skew))
theorem K159 (ms : List T_api_Machine) (bs : List T_api_Bound) (p : T_api_Pod) (on_ : ByteArray) : VS Tryz.prog 118 (ref11_Many ms bs p on_) [L30 ms, L50 bs, T_api_Pod.vv p, .str on_] [] .bool N0 := by
 refine A2 [.tmp 8] Tryz.func118 R R R fun r hm=>?_
 unfold ref11_Many at hm
 refine Ah<|Ac R R<|A9 R R fun b=>Ab R R (Ai R)<|Ad<|Ae<|Ah<|Aa tbk [0] 2 R R<|Ab R R (Ax T_api_Label.vv R Bp)<|Aa tbk [] 2 R R<|Bf hm 5 25 20 R (fun _ K' h2 J hm=>Aa tbk [] 5 R R<|J 4 R R (Bj hm)) (fun _ K' h2 J hm=>Aa tbk [] 2 R R<|A8 R R R R R<|Am hm 0 R fn80 R (K60 _ _) fun r hm=>Aa tbk [] 2 R R<|J 4 R R (Bj hm)) fun c hm=>Ad<|Ak hm R (fun h5 hm=>Ag tbk [] R R<|Rt1 hm R [] R R R) fun h5 hm=>Aj<|Ah<|Aa tbk [] 2 R R<|Ac R R<|Am hm 0 R fn150 R (K154 _ _) fun r2 hm=>Aa tbk [] 5 R R<|Ad<|Ah<|Aa tbk [0] 3 R R<|Ac R R<|B7 hm 0 R fn151 R (K158 _ _ _) fun r3 ob cap hm=>Aa tbk [] 5 R R<|Ad<|Ag tbk [] R R<|Ag tbk [] R R<|Ae<|Ag tbk [] R R<|Bx hm (fun j (_:Unit)=>[(6,.ptr b 0),(13,Iw j.1),(14,Iw j.2)]) (fun _ (_:Unit)=>[X48 b p]) (fun o hm=>?_) fun j _ hm=> ?_
 ·refine Bm (fun zn (zs:Int × Int × Int)=>ref11_Many.l1 r2 r3 zn zs.1 zs.2.1 zs.2.2) (fun zs (zg:Option Nat)=>[(6,.ptr b 0),(9,.str r2.1),(10,.bool r2.2),(11,L9 r3.1),(12,Z3 zg r3.2 cap),(13,Iw zs.1),(14,Iw zs.2.1),(15,Iw zs.2.2)]) (fun _ (zg:Option Nat)=>[Q3 zg cap r3.2,X48 b p]) ((-1 : Int),(0 : Int),(0 : Int)) _ (fun _=>R) hm (Af [0,0] R R) fun n=>Pq fun mine2=>Pq fun least2 i2 ob3 hm=> ?_
  rw [ref11_Many.l1] at hm
  refine Ae<|Ah<|Aa tbk [] 2 R R<|Ab R R (Ax VV.str R Br)<|Ab R R (A5 R R R)<|Ad<|Ak hm R (fun h11 hm=>?_) fun h11 hm=> ?_
  ·refine Aj<|Ae<|Az<|Ae<|Ah<|Aa tbk [] 3 R R<|Bf hm 7 54 47 R (fun _ K' h12 J hm=>Aa tbk [] 7 R R<|J 6 R R (Bj hm)) (fun _ K' h12 J hm=>?_) fun c2 hm=> ?_
   ·refine Aa tbk [] 2 R R<|Bd hm fun x h13 hm=>Ci 0 R (gl_pos (VV.int .i64) h13) fun b2 h14=> ?_
    subst h14
    exact Bk R R R R R (Cd (VV.int .i64) R R el41 h13)<|Bk R R R R R (Cb (i:=0) (y:=(VV.int .i64) x) R R R (gl_map _ (gl_some h13).2) ld3 R)<|Aa tbk [] 3 R R<|J 6 R R (Bj hm)
   refine Ad<|Ak hm R (fun h16 hm=>?_) fun h16 hm=> ?_
   ·refine Bo<|Aa tbk [] 2 R R<|Bd hm fun x2 h17 hm=>Ci 0 R (gl_pos (VV.int .i64) h17) fun b3 h18=> ?_
    subst h18
    exact Ab R R (Cd (VV.int .i64) R R el41 h17)<|Ab R R (Cb (i:=0) (y:=(VV.int .i64) x2) R R R (gl_map _ (gl_some h17).2) ld3 R)<|Ab R R (Ai R)<|Ad<|Ah<|Aa tbk [] 2 R R<|Bf hm 7 67 60 R (fun _ K' h19 J hm=>Aa tbk [] 2 R R<|Bd hm fun x3 h20 hm=>Bk R R R R R (A0 VV.str R R el51 h20)<|Aa tbk [] 4 R R<|J 6 R R (Bj hm)) (fun _ K' h19 J hm=>Aa tbk [] 7 R R<|J 6 R R (Bj hm)) fun c3 hm=>Ad<|Ak hm R (fun h22 hm=>Bo<|Aa tbk [] 2 R R<|Bd hm fun x4 h23 hm=>Ab R R (Cd (VV.int .i64) R R el41 h23)<|Ab R R (Cb (i:=0) (y:=(VV.int .i64) x4) R R R (gl_map _ (gl_some h23).2) ld3 R)<|Ab R R (Ai R)<|Ad<|A6 tbk [] R R<|Ap (x4,x2,(IntKind.i64.wrap (i2 + (1 : Int)))) _ hm (Af [0,0] R R)) fun h22 hm=>Aj<|A6 tbk [] R R<|Ap (mine2,x2,(IntKind.i64.wrap (i2 + (1 : Int)))) _ hm (Af [0,0] R R)
   refine Aj<|Ah<|Aa tbk [] 2 R R<|Bf hm 7 67 60 R (fun _ K' h24 J hm=>Aa tbk [] 2 R R<|Bd hm fun x5 h25 hm=>Bk R R R R R (A0 VV.str R R el51 h25)<|Aa tbk [] 4 R R<|J 6 R R (Bj hm)) (fun _ K' h24 J hm=>Aa tbk [] 7 R R<|J 6 R R (Bj hm)) fun c4 hm=>Ad<|Ak hm R (fun h27 hm=>?_) fun h27 hm=> ?_
   ·refine Bo<|Aa tbk [] 2 R R<|Bd hm fun x6 h28 hm=>Ci 0 R (gl_pos (VV.int .i64) h28) fun b4 h29=> ?_
    subst h29
    exact Ab R R (Cd (VV.int .i64) R R el41 h28)<|Ab R R (Cb (i:=0) (y:=(VV.int .i64) x6) R R R (gl_map _ (gl_some h28).2) ld3 R)<|Ab R R (Ai R)<|Ad<|A6 tbk [] R R<|Ap (x6,least2,(IntKind.i64.wrap (i2 + (1 : Int)))) _ hm (Af [0,0] R R)
   exact Aj<|A6 tbk [] R R<|Ap (mine2,least2,(IntKind.i64.wrap (i2 + (1 : Int)))) _ hm (Af [0,0] R R)
  exact A3<|As () hm (Af [1] R R)
 exact Ae<|Ag tbk [] R R<|Ak hm R (fun h30 hm=>Ag tbk [] R R<|Rt1 hm R [] R R R) fun h30 hm=>Aj<|Ae<|Ah<|Aa tbk [0,0] 4 R R<|Ac R R<|Am hm 0 R fn143 R (K138 _ _) fun r4 hm=>Ad<|Ak hm R (fun h32 hm=>A6 tbk [] R R<|Ag tbk [0] R R<|Rt1 hm R [] R R R) fun h32 hm=>Aj<|Ag tbk [0] R R<|Rt1 hm R [] R R R

/-! trireme/triremeref11.Why -/
def ref11_Why (ms : List T_api_Machine) (bs : List T_api_Bound) (p : T_api_Pod) (on_ : ByteArray) : Option Int :=
 (ref11_Near ms bs p on_).bind fun r =>
 if r = true then
  some 7
 else
  (ref11_Many ms bs p on_).bind fun r2 =>
  if r2 = true then
   some 8
  else
   some 0
theorem K160 (ms : List T_api_Machine) (bs : List T_api_Bound) (p : T_api_Pod) (on_ : ByteArray) : VS Tryz.prog 82 (ref11_Why ms bs p on_) [L30 ms, L50 bs, T_api_Pod.vv p, .str on_] [] Iw N0 := by
 refine A2 [.tmp 8] Tryz.func82 R R R fun r hm=>?_
 unfold ref11_Why at hm
 exact Ah<|Ac R R<|A9 R R fun b=>Ab R R (Ai R)<|Ad<|Ae<|Ah<|Aa tbk [0] 4 R R<|Ac R R<|Am hm 0 R fn117 R (K156 _ _ _ _) fun r hm=>Ad<|Ak hm R (fun h3 hm=>Ag tbk [] R R<|Rt1 hm R [] R R R) fun h3 hm=>Aj<|Ae<|Ah<|Aa tbk [0] 4 R R<|Ac R R<|Am hm 0 R fn118 R (K159 _ _ _ _) fun r2 hm=>Ad<|Ak hm R (fun h5 hm=>Ag tbk [] R R<|Rt1 hm R [] R R R) fun h5 hm=>Aj<|Ag tbk [] R R<|Rt1 hm R [] R R R

/-! trireme/triremeref12.Why -/
def ref12_Why (ms : List T_api_Machine) (bs : List T_api_Bound) (p : T_api_Pod) (on_ : ByteArray) : Option Int :=
 (ref09_Find ms on_).bind fun r =>
 if (decide (r < 0)) = true then
  some 1
 else
  (V.gl ms r).bind fun x =>
  (ref10_Suits x bs p).bind fun r2 =>
  if (r2 != 0) = true then
   some r2
  else
   (ref11_Why ms bs p on_).bind fun r3 =>
   some r3
theorem K161 (ms : List T_api_Machine) (bs : List T_api_Bound) (p : T_api_Pod) (on_ : ByteArray) : VS Tryz.prog 34 (ref12_Why ms bs p on_) [L30 ms, L50 bs, T_api_Pod.vv p, .str on_] [] Iw N0 := by
 refine A2 [.tmp 8] Tryz.func34 R R R fun r hm=>?_
 unfold ref12_Why at hm
 exact Ah<|Ac R R<|A9 R R fun b=>Ab R R (Ai R)<|Ad<|Ah<|Aa tbk [] 2 R R<|Ac R R<|Am hm 0 R fn80 R (K60 _ _) fun r hm=>Ab R R (Ai R)<|Ad<|Ae<|Ag tbk [] R R<|Ak hm R (fun h3 hm=>Ag tbk [] R R<|Rt1 hm R [] R R R) fun h3 hm=>Aj<|Ae<|Bc 0 mixed<|Au tbk [0,1] [] (by kernel_rfl) R R R<|Bd hm fun x h4 hm=>Av 2 R R R (by kernel_rfl) (A0 T_api_Machine.vv R R el22 h4)<|Au tbk [3,4,5] [0] (by kernel_rfl) R R R<|Ao 6 (by kernel_rfl)<|Aq R R R<|Am hm 0 R fn81 R (K153 _ _ _) fun r2 hm=>Av 7 R R R (by kernel_rfl) (Ai R)<|A1 (by kernel_rfl)<|Ae<|Ag tbk [] R R<|Ak hm R (fun h6 hm=>Ag tbk [] R R<|Rt1 hm R [] R R R) fun h6 hm=>Aj<|Ah<|Aa tbk [0] 4 R R<|Ac R R<|Am hm 0 R fn82 R (K160 _ _ _ _) fun r3 hm=>Ab R R (Ai R)<|Ad<|Rt1 hm R [] R R R

/-! trireme/triremeref12.Put -/
def ref12_Put (bs : List T_api_Bound) (p : T_api_Pod) (on_ : ByteArray) : Option (List T_api_Bound) :=
 (ref10_Others bs p.Name).bind fun r =>
 (V.ap 288 r [(⟨p, on_⟩ : T_api_Bound)]).bind fun o =>
 some o
theorem K162 (bs : List T_api_Bound) (p : T_api_Pod) (on_ : ByteArray) : VS2 Tryz.prog 22 (ref12_Put bs p on_) [L50 bs, T_api_Pod.vv p, .str on_] [] (fun r ob0 cap0=>Z50 ob0 r cap0) (fun r ob0 cap0=>[Q50 ob0 cap0 r]) := by
 refine Cg [.tmp 6] Tryz.func22 R R R fun r hm=>?_
 unfold ref12_Put at hm
 exact Ah<|Ac R R<|A9 R R fun b=>Ab R R (Ai R)<|Ad<|Ah<|Aa tbk [0] 3 R R<|Ac R R<|B7 hm 0 R fn62 R (K146 _ _) fun r ob cap hm=>Ab R R (Ai R)<|Ad<|Ah<|Aa tbk [1] 3 R R<|Ab R R (Bi pl50 R R)<|Ac R R<|A7 ap23 R R R R R fun b2=>Bd hm fun o h5 hm=>Ac R R<|Bz 1 T_api_Bound.vv (l:=r) (l2:=[(⟨p,on_⟩ : T_api_Bound)]) ap23 R R (sT_row 0 T_api_Bound.vv el23 R R) h5 fun ob2 cap2=>Ab R R (Ai R)<|Ad<|Rg2 hm R [1] ob2 cap2 (.cons (.tmp _ _ R) .nil) R R

/-! trireme/triremeref19.Estimate -/
def ref19_Estimate.l2 (like : T_api_Machine) (bs3 : List T_api_Bound) (all2 : List T_api_Machine) (n2 : Int) (x2 : T_api_Pod) : Nat → ByteArray → Int → Option ByteArray
 | 0, _, _ => none
 | n5 + 1, on_2, k2 =>
  if ((decide (k2 ≤ n2)) && (V.seq on_2 (⟨#[]⟩ : ByteArray))) = true then
   (ref19_Fresh like k2).bind fun r2 =>
   (ref12_Why all2 bs3 x2 r2.Name).bind fun r3 =>
   if (r3 == 0) = true then
    ref19_Estimate.l2 like bs3 all2 n2 x2 n5 r2.Name (i64.wrap (k2 + 1))
   else
    ref19_Estimate.l2 like bs3 all2 n2 x2 n5 on_2 (i64.wrap (k2 + 1))
  else
   some on_2
def ref19_Estimate.l1 (l : List T_api_Pod) (like : T_api_Machine) (limit : Int) (r : List Int) : Nat → (List T_api_Bound) → (List T_api_Move) → (List T_api_Machine) → Int → Int → Option (List T_api_Move × Int)
 | 0, _, _, _, _, _ => none
 | n4 + 1, bs3, moves2, all2, n2, i2 =>
  if (decide (i2 < (r.length : Int))) = true then
   (V.gl r i2).bind fun x =>
   (V.gl l x).bind fun x2 =>
   (ref19_Estimate.l2 like bs3 all2 n2 x2 FU (⟨#[]⟩ : ByteArray) (1 : Int)).bind fun on_32 =>
   (if ((V.seq on_32 (⟨#[]⟩ : ByteArray)) && (decide (n2 < limit))) = true then
    (ref19_Fresh like (i64.wrap (n2 + 1))).bind fun r4 =>
    (V.ap 128 ([] : List T_api_Machine) all2).bind fun l5 =>
    (V.ap 128 l5 [r4]).bind fun more =>
    (ref12_Why more bs3 x2 r4.Name).bind fun r5 =>
    if (r5 == 0) = true then
     some (more, (i64.wrap (n2 + 1)), r4.Name)
    else
     some (all2, n2, on_32)
   else
    some (all2, n2, on_32)).bind fun j2 =>
   if (!(V.seq j2.2.2 (⟨#[]⟩ : ByteArray))) = true then
    (ref12_Put bs3 x2 j2.2.2).bind fun r6 =>
    (V.ap 32 moves2 [(⟨x2.Name, j2.2.2⟩ : T_api_Move)]).bind fun moves4 =>
    ref19_Estimate.l1 l like limit r n4 r6 moves4 j2.1 j2.2.1 (i64.wrap (i2 + 1))
   else
    ref19_Estimate.l1 l like limit r n4 bs3 moves2 j2.1 j2.2.1 (i64.wrap (i2 + 1))
  else
   some (moves2, n2)
def ref19_Estimate (ms : List T_api_Machine) (bs : List T_api_Bound) (l : List T_api_Pod) (like : T_api_Machine) (limit : Int) : Option (List T_api_Move × Int) :=
 (V.ap 128 ([] : List T_api_Machine) ms).bind fun l2 =>
 (ref19_Order l like).bind fun r =>
 (ref19_Estimate.l1 l like limit r FU bs ([] : List T_api_Move) l2 0 (0 : Int)).bind fun j =>
 some (j.1, j.2)
theorem K163 (ms : List T_api_Machine) (bs : List T_api_Bound) (l : List T_api_Pod) (like : T_api_Machine) (limit : Int) : VS2 Tryz.prog 14 (ref19_Estimate ms bs l like limit) [L30 ms, L50 bs, L48 l, T_api_Machine.vv like, Iw limit] [] (fun r ob0 cap0=>.tup [Z53 ob0 r.1 cap0, Iw r.2]) (fun r ob0 cap0=>[Q53 ob0 cap0 r.1]) := by
 refine Cg [.tmp 10,.tmp 11] Tryz.func14 R R R fun r hm=>?_
 unfold ref19_Estimate at hm
 refine Ah<|Ac R R<|A9 R R fun b=>Aa tbk [] 2 R R<|Ad<|Ag tbk [] R R<|Ag tbk [] R R<|Ah<|Aa tbk [] 2 R R<|Be (Bb 30)<|Bd hm fun l2 h3 hm=>Ac R R<|Bz 0 T_api_Machine.vv (l:=([] : List T_api_Machine)) (l2:=ms) ap22 R R (sT_list T_api_Machine.vv el22 R R) h3 fun ob cap=>Ab R R (Ai R)<|Ad<|Ag tbk [] R R<|Ah<|Aa tbk [1] 2 R R<|Ac R R<|B7 hm 0 R fn19 R (K134 _ _) fun r ob2 cap2 hm=>Be (Aw 0 [(28,L3 r)] R ⟨⟨_,R,.here _ R⟩,trivial⟩ (FzH.refl _))<|Ab R R (Ai R)<|Ad<|Ae<|Ag tbk [] R R<|Bx hm (fun j (gg:Option Nat × Nat)=>[(12,Z53 gg.1 j.1 gg.2),(14,Iw j.2)]) (fun j (gg:Option Nat × Nat)=>[Q53 gg.1 gg.2 j.1]) (fun o hm=>?_) fun j=>Pq fun ob7 cap7 hm=> ?_
 ·refine Bm (fun zn (zs:List T_api_Bound × List T_api_Move × List T_api_Machine × Int × Int)=>ref19_Estimate.l1 l like limit r zn zs.1 zs.2.1 zs.2.2.1 zs.2.2.2.1 zs.2.2.2.2) (fun zs (zg:Option Nat × Nat × Option Nat × Nat)=>[(1,L50 zs.1),(2,L48 l),(4,Iw limit),(8,.ptr b 0),(12,Z53 zg.1 zs.2.1 zg.2.1),(13,Z30 zg.2.2.1 zs.2.2.1 zg.2.2.2),(14,Iw zs.2.2.2.1),(15,L3 r),(16,Iw zs.2.2.2.2)]) (fun zs (zg:Option Nat × Nat × Option Nat × Nat)=>[Q53 zg.1 zg.2.1 zs.2.1,Q30 zg.2.2.1 zg.2.2.2 zs.2.2.1,X30 b like]) (bs,([] : List T_api_Move),l2,(0 : Int),(0 : Int)) (none,0,ob,cap) (fun _=>R) hm (Ba (Bb 53) (Af [0,0,0] R R)) fun n4=>Pq fun bs3=>Pq fun moves2=>Pq fun all2=>Pq fun n2 i2=>Pq fun ob5=>Pq fun cap5=>Pq fun ob6 cap6 hm=> ?_
  rw [ref19_Estimate.l1] at hm
  refine Ae<|Ah<|Aa tbk [] 2 R R<|Ab R R (Ax (VV.int .i64) R Bq)<|Ab R R (A5 R R R)<|Ad<|Ak hm R (fun h12 hm=>?_) fun h12 hm=> ?_
  ·refine Aj<|Ae<|Az<|Ah<|Aa tbk [] 3 R R<|Bd hm fun x h13 hm=>Ab R R (A0 (VV.int .i64) R R el41 h13)<|Ab R R (Bl R ld3 R)<|Bd hm fun x2 h14 hm=>Ab R R (A0 T_api_Pod.vv R R el24 h14)<|Ab R R (Bl R ld48 R)<|Ac R R<|Ay z48 fun b2=>Ac R R<|An (i:=0) R R R ld48 R R R<|Ad<|Ag tbk [] R R<|Ae<|Ag tbk [] R R<|Bx hm (fun on_32 (_:Unit)=>[(1,L50 bs3),(2,L48 l),(4,Iw limit),(8,.ptr b 0),(12,Z53 ob5 moves2 cap5),(13,Z30 ob6 all2 cap6),(14,Iw n2),(15,L3 r),(16,Iw i2),(17,.ptr b2 0),(18,.str on_32)]) (fun _ (_:Unit)=>[X48 b2 x2,Q53 ob5 cap5 moves2,Q30 ob6 cap6 all2,X30 b like]) (fun o2 hm=>?_) fun on_32 _ hm=> ?_
   ·refine Bm (fun zn (zs:ByteArray × Int)=>ref19_Estimate.l2 like bs3 all2 n2 x2 zn zs.1 zs.2) (fun zs (_:Unit)=>[(1,L50 bs3),(2,L48 l),(4,Iw limit),(8,.ptr b 0),(12,Z53 ob5 moves2 cap5),(13,Z30 ob6 all2 cap6),(14,Iw n2),(15,L3 r),(16,Iw i2),(17,.ptr b2 0),(18,.str zs.1),(19,Iw zs.2)]) (fun _ (_:Unit)=>[X48 b2 x2,Q53 ob5 cap5 moves2,Q30 ob6 cap6 all2,X30 b like]) ((⟨#[]⟩ : ByteArray),(1 : Int)) () (fun _=>R) hm (Af [0,0,0,0] R R) fun n5=>Pq fun on_2 k2 _ hm=> ?_
    rw [ref19_Estimate.l2] at hm
    exact Ae<|Ah<|Aa tbk [] 4 R R<|B0 tbk [] 3 48 45 R R R R R<|Ad<|Ak hm R (fun h19 hm=>Aj<|Ae<|Az<|Ah<|Aa tbk [3] 2 R R<|Ac R R<|Am hm 0 R fn21 R (K136 _ _) fun r2 hm=>Ab R R (VP.field R fd30_0 R)<|Ab R R (Ai R)<|Ad<|Ah<|Aa tbk [0] 4 R R<|Ac R R<|Da hm (Aw 2 [(13,L30 all2),(55,L30 all2)] R ⟨⟨_,R,.here _ R⟩,⟨_,R,.here _ R⟩,trivial⟩ (FzH.refl _)) [.same,.same,.same,.same] R fn34 R (K161 _ _ _ _) (fun _=>R) (fun _=>R) fun r3 hm=>Ab R R (A5 R R R)<|Ad<|Ak hm R (fun h22 hm=>A6 tbk [] R R<|A6 tbk [] R R<|Ap (r2.Name,(IntKind.i64.wrap (k2 + (1 : Int)))) () hm (Af [0,0,0,0] R R)) fun h22 hm=>Aj<|A6 tbk [] R R<|Ap (on_2,(IntKind.i64.wrap (k2 + (1 : Int)))) () hm (Af [0,0,0,0] R R)) fun h19 hm=>A3<|As () hm (Af [0,0,0,0] R R)
   refine C0 hm (fun j2 (gg:Option Nat × Nat)=>[(1,L50 bs3),(2,L48 l),(4,Iw limit),(8,.ptr b 0),(12,Z53 ob5 moves2 cap5),(13,Z30 gg.1 j2.1 gg.2),(14,Iw j2.2.1),(15,L3 r),(16,Iw i2),(17,.ptr b2 0),(18,.str j2.2.2)]) (fun j2 (gg:Option Nat × Nat)=>[Q30 gg.1 gg.2 j2.1,X48 b2 x2,Q53 ob5 cap5 moves2,X30 b like]) (fun o3 hm=>?_) fun j2=>Pq fun ob8 cap8 hm=> ?_
   ·exact Ah<|Aa tbk [] 3 R R<|B0 tbk [] 4 68 64 R R R R R<|Ad<|Ak hm R (fun h27 hm=>Ah<|Aa tbk [3] 3 R R<|Ac R R<|Am hm 0 R fn21 R (K136 _ _) fun r4 hm=>Ac R R<|Ay z30 fun b3=>Ac R R<|An (i:=0) R R R ld30 R R R<|Ad<|Ag tbk [] R R<|Ah<|Aa tbk [] 2 R R<|Be (Bb 30)<|Bd hm fun l5 h31 hm=>Ac R R<|Bz 0 T_api_Machine.vv (l:=([] : List T_api_Machine)) (l2:=all2) ap22 R R (sT_row 4 T_api_Machine.vv el22 R R) h31 fun ob9 cap9=>Ab R R (Ai R)<|Ad<|Ah<|Aa tbk [1] 2 R R<|Ac R R<|A7 ap22 R R R R R fun b4=>Bd hm fun more h33 hm=>Ac R R<|Bz 1 T_api_Machine.vv (l:=l5) (l2:=[r4]) ap22 R R (sT_row 0 T_api_Machine.vv el22 R R) h33 fun ob10 cap10=>Ab R R (Ai R)<|Ad<|Ah<|Aa tbk [3,2] 5 R R<|Ac R R<|Da hm (Aw 1 [(79,L30 more),(22,L30 more),(80,L30 more)] R ⟨⟨_,R,.here _ R⟩,⟨_,R,.here _ R⟩,⟨_,R,.here _ R⟩,trivial⟩ (FzH.refl _)) [.same,.same,.same,.same] R fn34 R (K161 _ _ _ _) (fun _=>R) (fun _=>R) fun r5 hm=>Ab R R (A5 R R R)<|Ad<|Ak hm R (fun h35 hm=>Ag tbk [] R R<|Ag tbk [2] R R<|A6 tbk [] R R<|As (ob10,cap10) hm (Af [1,2,2,3] R R)) fun h35 hm=>Aj<|As (ob6,cap6) hm (Af [5,3,3,3] R R)) fun h27 hm=>Aj<|As (ob6,cap6) hm (Af [2,0,0,0] R R)
   exact Ag tbk [] R R<|Ak hm R (fun h36 hm=>Ah<|Aa tbk [1] 3 R R<|Ac R R<|B7 hm 0 R fn22 R (K162 _ _ _) fun r6 ob11 cap11 hm=>Be (Aw 0 [(97,L50 r6)] R ⟨⟨_,R,.here _ R⟩,trivial⟩ (FzH.refl _))<|Ab R R (Ai R)<|Ad<|Bo<|Aa tbk [1] 4 R R<|Ab R R (Bi pl53 R R)<|Ac R R<|A7 ap35 R R R R R fun b5=>Bd hm fun moves4 h40 hm=>Ac R R<|Bz 3 T_api_Move.vv (l:=moves2) (l2:=[(⟨x2.Name,j2.2.2⟩ : T_api_Move)]) ap35 R R (sT_row 0 T_api_Move.vv el35 R R) h40 fun ob12 cap12=>Ab R R (Ai R)<|Ad<|A6 tbk [] R R<|Ap (r6,moves4,j2.1,j2.2.1,(IntKind.i64.wrap (i2 + (1 : Int)))) (ob12,cap12,ob8,cap8) hm (Af [3,1,2] R R)) fun h36 hm=>Aj<|A6 tbk [] R R<|Ap (bs3,moves2,j2.1,j2.2.1,(IntKind.i64.wrap (i2 + (1 : Int)))) (ob5,cap5,ob8,cap8) hm (Af [2,0,1] R R)
  exact A3<|As (ob5,cap5) hm (Af [0] R R)
 exact Ag tbk [] R R<|Rg2 hm R [0] ob7 cap7 (.cons (.tmp _ _ R) (.cons (.tmp _ _ R) .nil)) R R

/-! trireme/triremeref05.Same -/
def ref05_Same.l1 (a : List T_api_Label) (b : List T_api_Label) : Nat → Int → Option (Out Bool Unit)
 | 0, _ => none
 | n + 1, i2 =>
  if (decide (i2 < (a.length : Int))) = true then
   (V.gl a i2).bind fun x =>
   (V.gl b i2).bind fun x2 =>
   if (!(((x.Key == x2.Key) && ((x.Val == x2.Val) && true)) == true)) = true then
    some (Out.ret false)
   else
    ref05_Same.l1 a b n (i64.wrap (i2 + 1))
  else
   some (Out.go ())
def ref05_Same (a : List T_api_Label) (b : List T_api_Label) : Option Bool :=
 if ((a.length : Int) != (b.length : Int)) = true then
  some false
 else
  (ref05_Same.l1 a b FU (0 : Int)).bind fun o =>
  o.on fun j =>
  some true
theorem K164 (a : List T_api_Label) (b : List T_api_Label) : VS Tryz.prog 59 (ref05_Same a b) [L124 a, L124 b] [] .bool N0 := by
 refine A2 [.tmp 4] Tryz.func59 R R R fun r hm=>?_
 unfold ref05_Same at hm
 refine Ag tbk [] R R<|Ae<|Ah<|Ab R R (Al R)<|Ab R R (Ax T_api_Label.vv R Bp)<|Ab R R (Al R)<|Ab R R (Ax T_api_Label.vv R Bp)<|Ab R R (A5 R R R)<|Ad<|Ak hm R (fun h1 hm=>Ag tbk [] R R<|Rt1 hm R [] R R R) fun h1 hm=>Aj<|Ae<|Ag tbk [] R R<|Bu hm (fun _ (_:Unit)=>[]) (fun _ (_:Unit)=>[]) (fun o hm h3=>?_) fun j _ hm=> ?_
 ·refine Bm (fun zn (zs:Int)=>ref05_Same.l1 a b zn zs) (fun zs (_:Unit)=>[(0,L124 a),(1,L124 b),(5,Iw zs)]) (fun _ (_:Unit)=>[]) _ () (fun _=>R) hm (Af [] R R) fun n i2 _ hm=> ?_
  rw [ref05_Same.l1] at hm
  exact Ae<|Ah<|Aa tbk [] 2 R R<|Ab R R (Ax T_api_Label.vv R Bp)<|Ab R R (A5 R R R)<|Ad<|Ak hm R (fun h4 hm=>Aj<|Ae<|Az<|Ae<|Bc 0 mixed<|Au tbk [0,1] [] (by kernel_rfl) R R R<|Bd hm fun x h5 hm=>Av 2 R R R (by kernel_rfl) (A0 T_api_Label.vv R R el27 h5)<|Au tbk [3,4,5] [] (by kernel_rfl) R R R<|Bd hm fun x2 h6 hm=>Av 6 R R R (by kernel_rfl) (A0 T_api_Label.vv R R el27 h6)<|Av 7 R R R (by kernel_rfl) (Bl R ld124 R)<|Av 8 R R R (by kernel_rfl) (Dh shp124 eq124 R R R R)<|A1 (by kernel_rfl)<|Ak hm R (fun h7 hm=>Ag tbk [] R R<|have hm:=Lr hm h3;Rt1 hm R [] R R R) fun h7 hm=>Aj<|A6 tbk [] R R<|Ap _ () hm (Af [] R R)) fun h4 hm=>A3<|Ar () hm (Af [] R R)
 exact Ag tbk [] R R<|Rt1 hm R [] R R R

/-! trireme/triremeref06.Same -/
def ref06_Same.l1 (a : List T_api_Taint) (b : List T_api_Taint) : Nat → Int → Option (Out Bool Unit)
 | 0, _ => none
 | n + 1, i2 =>
  if (decide (i2 < (a.length : Int))) = true then
   (V.gl a i2).bind fun x =>
   (V.gl b i2).bind fun x2 =>
   if (!(((x.Key == x2.Key) && ((x.Val == x2.Val) && ((x.Effect == x2.Effect) && true))) == true)) = true then
    some (Out.ret false)
   else
    ref06_Same.l1 a b n (i64.wrap (i2 + 1))
  else
   some (Out.go ())
def ref06_Same (a : List T_api_Taint) (b : List T_api_Taint) : Option Bool :=
 if ((a.length : Int) != (b.length : Int)) = true then
  some false
 else
  (ref06_Same.l1 a b FU (0 : Int)).bind fun o =>
  o.on fun j =>
  some true
theorem K165 (a : List T_api_Taint) (b : List T_api_Taint) : VS Tryz.prog 60 (ref06_Same a b) [L126 a, L126 b] [] .bool N0 := by
 refine A2 [.tmp 4] Tryz.func60 R R R fun r hm=>?_
 unfold ref06_Same at hm
 refine Ag tbk [] R R<|Ae<|Ah<|Ab R R (Al R)<|Ab R R (Ax T_api_Taint.vv R B1)<|Ab R R (Al R)<|Ab R R (Ax T_api_Taint.vv R B1)<|Ab R R (A5 R R R)<|Ad<|Ak hm R (fun h1 hm=>Ag tbk [] R R<|Rt1 hm R [] R R R) fun h1 hm=>Aj<|Ae<|Ag tbk [] R R<|Bu hm (fun _ (_:Unit)=>[]) (fun _ (_:Unit)=>[]) (fun o hm h3=>?_) fun j _ hm=> ?_
 ·refine Bm (fun zn (zs:Int)=>ref06_Same.l1 a b zn zs) (fun zs (_:Unit)=>[(0,L126 a),(1,L126 b),(5,Iw zs)]) (fun _ (_:Unit)=>[]) _ () (fun _=>R) hm (Af [] R R) fun n i2 _ hm=> ?_
  rw [ref06_Same.l1] at hm
  exact Ae<|Ah<|Aa tbk [] 2 R R<|Ab R R (Ax T_api_Taint.vv R B1)<|Ab R R (A5 R R R)<|Ad<|Ak hm R (fun h4 hm=>Aj<|Ae<|Az<|Ae<|Bc 0 mixed<|Au tbk [0,1] [] (by kernel_rfl) R R R<|Bd hm fun x h5 hm=>Av 2 R R R (by kernel_rfl) (A0 T_api_Taint.vv R R el28 h5)<|Au tbk [3,4,5] [] (by kernel_rfl) R R R<|Bd hm fun x2 h6 hm=>Av 6 R R R (by kernel_rfl) (A0 T_api_Taint.vv R R el28 h6)<|Av 7 R R R (by kernel_rfl) (Bl R ld126 R)<|Av 8 R R R (by kernel_rfl) (Dh shp126 eq126 R R R R)<|A1 (by kernel_rfl)<|Ak hm R (fun h7 hm=>Ag tbk [] R R<|have hm:=Lr hm h3;Rt1 hm R [] R R R) fun h7 hm=>Aj<|A6 tbk [] R R<|Ap _ () hm (Af [] R R)) fun h4 hm=>A3<|Ar () hm (Af [] R R)
 exact Ag tbk [] R R<|Rt1 hm R [] R R R

/-! trireme/triremeref07.SameMachine -/
def ref07_SameMachine (a : T_api_Machine) (b : T_api_Machine) : Option Bool :=
 (if ((((V.seq a.Name b.Name) && (V.seq a.Group b.Group)) && (((a.Has.Cpu == b.Has.Cpu) && ((a.Has.Mem == b.Has.Mem) && ((a.Has.Disk == b.Has.Disk) && ((a.Has.Pods == b.Has.Pods) && ((a.Has.Dev == b.Has.Dev) && true))))) == true)) && (a.Ready == b.Ready)) = true then (ref05_Same a.Labels b.Labels).bind fun r =>
 some r else some false).bind fun c =>
 (if c = true then (ref06_Same a.Taints b.Taints).bind fun r2 =>
 some r2 else some false).bind fun c2 =>
 some c2
theorem K166 (a : T_api_Machine) (b : T_api_Machine) : VS Tryz.prog 20 (ref07_SameMachine a b) [T_api_Machine.vv a, T_api_Machine.vv b] [] .bool N0 := by
 refine A2 [.tmp 4] Tryz.func20 R R R fun r hm=>?_
 unfold ref07_SameMachine at hm
 exact Ah<|Ac R R<|A9 R R fun b2=>Ac R R<|A9 R R fun b3=>Ab R R (Ai R)<|Ad<|Ah<|Aa tbk [1,0] 6 R R<|B0 tbk [1,0] 6 16 10 R R R R R<|Ab R R (Al R)<|C3 6 23 17 R (fun h4 K' J=>Aa tbk [1,0] 4 R R<|Bk R R R R R (Dh shp26 eq26 R R R R)<|Ab R R (Bg true R R R)<|J 5 R R R) (fun K' J=>Aa tbk [] 6 R R<|J 5 R R R)<|Ab R R (Al R)<|C3 6 30 24 R (fun h5 K' J=>Aa tbk [1,0] 4 R R<|Bk R R R R R (VP.boolop Tryz.underlying4 R R R)<|Ab R R (Bg true R R R)<|J 5 R R R) (fun K' J=>Aa tbk [] 6 R R<|J 5 R R R)<|Ab R R (Al R)<|Bf hm 6 37 31 R (fun _ K' h6 J hm=>Aa tbk [1,0] 4 R R<|A8 R R R R R<|Am hm 0 R fn59 R (K164 _ _) fun r hm=>Ab R R (Bg true R R R)<|J 5 R R (Bj hm)) (fun _ K' h6 J hm=>Aa tbk [] 6 R R<|J 5 R R (Bj hm)) fun c hm=>Ab R R (Al R)<|Bf hm 6 44 38 R (fun _ K' h9 J hm=>Aa tbk [1,0] 4 R R<|A8 R R R R R<|Am hm 0 R fn60 R (K165 _ _) fun r2 hm=>Ab R R (Bg true R R R)<|J 5 R R (Bj hm)) (fun _ K' h9 J hm=>Aa tbk [] 6 R R<|J 5 R R (Bj hm)) fun c2 hm=>Ab R R (Ai R)<|Ad<|Rt1 hm R [] R R R

/-! trireme/triremelaw19.PackEstimates -/
def law19_PackEstimates (c : T_law19_Case) : Option Bool :=
 (ref19_Right c.Ms c.Bs c.L c.Like).bind fun r =>
 if (!r) = true then
  (law19_known).bind fun r2 =>
  some r2
 else
  (pack_Estimate c.Ms c.Bs c.L c.Like c.Limit).bind fun r3 =>
  (ref19_Estimate c.Ms c.Bs c.L c.Like c.Limit).bind fun r4 =>
  (pack_Fresh c.Like (c.L.length : Int)).bind fun r5 =>
  (ref14_Moves r3.1 r4.1).bind fun r6 =>
  (if (r6 && (r3.2 == r4.2)) = true then (pack_Order c.L c.Like).bind fun r7 =>
  (ref19_Order c.L c.Like).bind fun r8 =>
  (ref02_Ints r7 r8).bind fun r9 =>
  some r9 else some false).bind fun c2 =>
  (if c2 = true then (ref19_Fresh c.Like (c.L.length : Int)).bind fun r10 =>
  (ref07_SameMachine r5 r10).bind fun r11 =>
  some r11 else some false).bind fun c3 =>
  (if c3 = true then (law19_known).bind fun r12 =>
  some r12 else some false).bind fun c4 =>
  some c4
theorem law19_PackEstimates_ok (c : T_law19_Case) : VS Tryz.prog 3 (law19_PackEstimates c) [T_law19_Case.vv c] [] .bool N0 := by
 refine A2 [.tmp 2] Tryz.func3 R R R fun r hm=>?_
 unfold law19_PackEstimates at hm
 refine Ah<|Ac R R<|A9 R R fun b=>Ab R R (Ai R)<|Ad<|Ae<|Ah<|Aa tbk [0,0,0,0] 8 R R<|Ac R R<|Am hm 0 R fn11 R (K64 _ _ _ _) fun r hm=>Ab R R (Cl R)<|Ad<|Ak hm R (fun h3 hm=>Ah<|Ac R R<|Am hm 0 R fn12 R (K131) fun r2 hm=>Ab R R (Ai R)<|Ad<|Rt1 hm R [] R R R) fun h3 hm=>Aj<|Ah<|Aa tbk [0,0,0,0,0] 10 R R<|Ac R R<|B7 hm 0 R fn13 R (K128 _ _ _ _ _) fun r3 ob cap hm=>Aa tbk [] 5 R R<|Ad<|Ah<|Aa tbk [1,1,1,1,1] 10 R R<|Ac R R<|B7 hm 0 R fn14 R (K163 _ _ _ _ _) fun r4 ob2 cap2 hm=>Aa tbk [] 5 R R<|Ad<|Ah<|Aa tbk [2,2] 4 R R<|Ab R R (Ax T_api_Pod.vv R B4)<|Ac R R<|Am hm 0 R fn15 R (K125 _ _) fun r5 hm=>Ac R R<|Ay z30 fun b2=>Ac R R<|An (i:=0) R R R ld30 R R R<|Ad<|Ae<|B6 (Ba (Aw 2 [(31,L53 r3.1),(3,L53 r3.1)] R ⟨⟨_,R,.here _ R⟩,⟨_,R,.here _ R⟩,trivial⟩ (FzH.refl _)) (Aw 1 [(45,L53 r4.1),(5,L53 r4.1)] R ⟨⟨_,R,.here _ R⟩,⟨_,R,.here _ R⟩,trivial⟩ (FzH.refl _)))<|Bc 0 mixed<|Au tbk [0,1] [] (by kernel_rfl) R R R<|Ao 2 (by kernel_rfl)<|Aq R R R<|Am hm 0 R fn16 R (K129 _ _) fun r6 hm=>Av 3 R R R (by kernel_rfl) (Al R)<|Db [7,6,5,4,3,2,1,0] 60 56 R (fun h12 K' J=>Au tbk [4,5,6,7] [] (by kernel_rfl) R R R<|J 3 R R R) (fun K' J=>Au tbk [4,5,6,7] [] (by kernel_rfl) R R R<|J 3 R R R)<|Av 8 R R R (by kernel_rfl) (Al R)<|Ct hm [20,19,18,17,16,15,14,13,12,11,10,9,8,7,6,5,4,3,2,1,0] 73 61 R (fun _ K' h13 J hm=>Au tbk [9,10,11,12,14,15,16,17] [1,1,1,1] (by kernel_rfl) R R R<|Ao 13 (by kernel_rfl)<|Cv R R R R R R<|B7 hm 0 R fn18 R (K71 _ _) fun r7 ob3 cap3 hm=>Cm (Aw 0 [(66,L3 r7)] R ⟨⟨_,R,.here _ R⟩,trivial⟩ (FzH.refl _))<|Ao 18 (by kernel_rfl)<|Cv R R R R R R<|B7 hm 0 R fn19 R (K134 _ _) fun r8 ob4 cap4 hm=>Cm (Aw 0 [(71,L3 r8)] R ⟨⟨_,R,.here _ R⟩,trivial⟩ (FzH.refl _))<|Ao 19 (by kernel_rfl)<|Cv R R R R R R<|Am hm 0 R fn17 R (K130 _ _) fun r9 hm=>Av 20 R R R (by kernel_rfl) (Bg true R R R)<|VA.reord [20,19,18,17,16,15,14,13,12,11,10,9,8,7,6,5,4,3,2,1,0] (by kernel_rfl) R<|J 13 R R (Bj hm)) (fun _ K' h13 J hm=>Au tbk [9,10,11,12,13,14,15,16,17,18,19,20] [] (by kernel_rfl) R R R<|J 11 R R (Bj hm)) fun c2 hm=>Av 21 R R R (by kernel_rfl) (Al R)<|Ct hm [30,29,28,27,26,25,24,23,22,21,20,19,18,17,16,15,14,13,12,11,10,9,8,7,6,5,4,3,2,1,0] 83 74 R (fun _ K' h20 J hm=>Au tbk [22,23,24,25,26] [0,1,1] (by kernel_rfl) R R R<|Cc 27 R R R R R R (by kernel_rfl) (Ax T_api_Pod.vv R B4)<|Ao 28 (by kernel_rfl)<|Cv R R R R R R<|Am hm 0 R fn21 R (K136 _ _) fun r10 hm=>Ao 29 (by kernel_rfl)<|Cv R R R R R R<|Am hm 0 R fn20 R (K166 _ _) fun r11 hm=>Av 30 R R R (by kernel_rfl) (Bg true R R R)<|J 8 R R (Bj hm)) (fun _ K' h20 J hm=>Au tbk [22,23,24,25,26,27,28,29,30] [] (by kernel_rfl) R R R<|J 8 R R (Bj hm)) fun c3 hm=>Av 31 R R R (by kernel_rfl) (Al R)<|?_
 exact Ct hm [33,32,31,30,29,28,27,26,25,24,23,22,21,20,19,18,17,16,15,14,13,12,11,10,9,8,7,6,5,4,3,2,1,0] 86 84 R (fun _ K' h24 J hm=>Ao 32 (by kernel_rfl)<|Cv R R R R R R<|Am hm 0 R fn12 R (K131) fun r12 hm=>Av 33 R R R (by kernel_rfl) (Bg true R R R)<|J 1 R R (Bj hm)) (fun _ K' h24 J hm=>Au tbk [32,33] [] (by kernel_rfl) R R R<|J 1 R R (Bj hm)) fun c4 hm=>Av 34 R R R (by kernel_rfl) (Ai R)<|A1 (by kernel_rfl)<|Rt1 hm R [] R R R

/-! trireme/triremeref12.Feasible -/
def ref12_Feasible.l1 (ms : List T_api_Machine) (bs : List T_api_Bound) : Nat → Int → Option (Out Bool Unit)
 | 0, _ => none
 | n + 1, i2 =>
  if (decide (i2 < (bs.length : Int))) = true then
   (V.gl bs i2).bind fun x =>
   (if (!(V.seq x.On (⟨#[]⟩ : ByteArray))) = true then (V.gl bs i2).bind fun x2 =>
   (V.gl bs i2).bind fun x3 =>
   (ref12_Why ms bs x2.Pod x3.On).bind fun r =>
   some (r != 0) else some false).bind fun c =>
   if c = true then
    some (Out.ret false)
   else
    ref12_Feasible.l1 ms bs n (i64.wrap (i2 + 1))
  else
   some (Out.go ())
def ref12_Feasible (ms : List T_api_Machine) (bs : List T_api_Bound) : Option Bool :=
 (ref12_Feasible.l1 ms bs FU (0 : Int)).bind fun o =>
 o.on fun j =>
 some true
theorem K167 (ms : List T_api_Machine) (bs : List T_api_Bound) : VS Tryz.prog 23 (ref12_Feasible ms bs) [L30 ms, L50 bs] [] .bool N0 := by
 refine A2 [.tmp 4] Tryz.func23 R R R fun r hm=>?_
 unfold ref12_Feasible at hm
 refine Ag tbk [] R R<|Ae<|Ag tbk [] R R<|Bu hm (fun _ (_:Unit)=>[]) (fun _ (_:Unit)=>[]) (fun o hm h2=>?_) fun j _ hm=> ?_
 ·refine Bm (fun zn (zs:Int)=>ref12_Feasible.l1 ms bs zn zs) (fun zs (_:Unit)=>[(0,L30 ms),(1,L50 bs),(5,Iw zs)]) (fun _ (_:Unit)=>[]) _ () (fun _=>R) hm (Af [] R R) fun n i2 _ hm=> ?_
  rw [ref12_Feasible.l1] at hm
  exact Ae<|Ah<|Aa tbk [] 2 R R<|Ab R R (Ax T_api_Bound.vv R Bn)<|Ab R R (A5 R R R)<|Ad<|Ak hm R (fun h3 hm=>Aj<|Ae<|Az<|Ae<|Bc 0 mixed<|Au tbk [0,1] [] (by kernel_rfl) R R R<|Bd hm fun x h4 hm=>Av 2 R R R (by kernel_rfl) (A0 T_api_Bound.vv R R el23 h4)<|Au tbk [3,4,5,6] [] (by kernel_rfl) R R R<|Ct hm [21,20,19,18,17,16,15,14,13,12,11,10,9,8,7,6,5,4,3,2,1,0] 33 18 R (fun _ K' h5 J hm=>Au tbk [7,8,9,10] [] (by kernel_rfl) R R R<|Bd hm fun x2 h6 hm=>Cc 11 R R R R R R (by kernel_rfl) (A0 T_api_Bound.vv R R el23 h6)<|Au tbk [12,13,14,15] [] (by kernel_rfl) R R R<|Bd hm fun x3 h7 hm=>Cc 16 R R R R R R (by kernel_rfl) (A0 T_api_Bound.vv R R el23 h7)<|Au tbk [17,18] [] (by kernel_rfl) R R R<|Ao 19 (by kernel_rfl)<|Cv R R R R R R<|Am hm 0 R fn34 R (K161 _ _ _ _) fun r hm=>Au tbk [20,21] [] (by kernel_rfl) R R R<|J 14 R R (Bj hm)) (fun _ K' h5 J hm=>Au tbk [7,8,9,10,11,12,13,14,15,16,17,18,19,20,21] [] (by kernel_rfl) R R R<|J 14 R R (Bj hm)) fun c hm=>A1 (by kernel_rfl)<|Ak hm R (fun h10 hm=>Ag tbk [] R R<|have hm:=Lr hm h2;Rt1 hm R [] R R R) fun h10 hm=>Aj<|A6 tbk [] R R<|Ap _ () hm (Af [] R R)) fun h3 hm=>A3<|Ar () hm (Af [] R R)
 exact Ag tbk [] R R<|Rt1 hm R [] R R R

end Go.Proofs.YtbkdglcedgiogaaGreat.M

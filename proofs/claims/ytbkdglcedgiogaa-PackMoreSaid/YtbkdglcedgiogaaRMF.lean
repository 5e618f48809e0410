/-
  Printed by a program of this session out of the loaded functions: models and their proofs. Own text.
-/
import Derived.Test.YtbkdglcedgiogaaRMF0
namespace Go.Proofs.Ytbkdglcedgiogaa.M
open Go Go.Proofs Go.Proofs.Ytbkdglcedgiogaa.V
open Go.IntKind (i64)
set_option linter.unusedVariables false
set_option maxRecDepth 20000
set_option maxHeartbeats 4000000
/-! trireme/suit.Room -/
def suit_Room.l1 (p : T_api_Pod) : List T_api_Pod → Nat → Option (Out Int Unit)
 | [], k => some (Out.go ())
 | x :: l, k =>
  (suit_common p.Ports x.Ports).bind fun r5 =>
  if r5 = true then
   some (Out.ret 3)
  else
   suit_Room.l1 p l (k + 1)
def suit_Room (m : T_api_Machine) (bs : List T_api_Bound) (p : T_api_Pod) : Option Int :=
 (suit_others bs p.Name).bind fun r =>
 (yard_Left m r).bind fun r2 =>
 (res_Fits p.Need r2).bind fun r3 =>
 if (!r3) = true then
  some 2
 else
  (yard_On r m.Name).bind fun r4 =>
  (suit_Room.l1 p r4 0).bind fun o =>
  o.on fun j =>
  some 0
theorem K0 (m : T_api_Machine) (bs : List T_api_Bound) (p : T_api_Pod) : VS Try.prog 79 (suit_Room m bs p) [T_api_Machine.vv m, L50 bs, T_api_Pod.vv p] [] Iw N0 := by
 refine A0 [.tmp 6] Try.func79 R R R fun r hm=>?_
 unfold suit_Room at hm
 refine Af<|Ac R R<|Ba R R fun b=>Ac R R<|Ba R R fun b2=>Ab R R (Ai R)<|Ad<|Af<|Aa tbk [0] 3 R R<|Ac R R<|Ck hm 0 R fn89 R (K97 _ _) fun r ob cap hm=>Bh (Aw 0 [(13,L50 r)] R ⟨⟨_,R,.here _ R⟩,trivial⟩ (FzH.refl _))<|Ab R R (Ai R)<|Ad<|Ae<|Ae<|Bi 0 mixed<|Az tbk [0,1,2,3] [0,1] (by kernel_rfl) R R R<|Ao 4 (by kernel_rfl)<|Aq R R R<|Am hm 0 R fn91 R (K112 _ _) fun r2 hm=>Ao 5 (by kernel_rfl)<|Aq R R R<|Am hm 0 R fn90 R (K113 _ _) fun r3 hm=>A8 6 R R R (by kernel_rfl) (Ct R)<|A1 (by kernel_rfl)<|An hm R (fun h7 hm=>Ah tbk [] R R<|Rt1 hm R [] R R R) fun h7 hm=>Ak<|Ae<|Af<|Aa tbk [1] 3 R R<|Ac R R<|Ck hm 0 R fn71 R (K98 _ _) fun r4 ob2 cap2 hm=>Bh (Aw 0 [(24,L39 r4)] R ⟨⟨_,R,.here _ R⟩,trivial⟩ (FzH.refl _))<|Ab R R (Ax T_api_Pod.vv R Ce)<|Ab R R (Aj R)<|Ad<|B5 24 R fun h12=>Bo hm (fun _ (_:Unit)=>[]) (fun _ (_:Unit)=>[]) (fun o hm h11=>?_) fun j _ hm=> ?_
 ·refine Cd (r4) (fun zl zk (zs:Unit)=>suit_Room.l1 p zl zk) (fun k _ (_:Unit)=>[(5,.ptr b2 0),(24,L39 r4),(25,Iw (r4.length : Int)),(26,Iw (k : Int))]) (fun _ _ (_:Unit)=>[X39 b2 p]) () () hm (Ag [0] R R) (fun k _ _ hk hm=>?_) fun k x l _ _ h13 hm=> ?_
  ·rw [suit_Room.l1] at hm
   exact Ah tbk [] R R<|Ae<|B2 R (k_end hk)<|A3<|Ar () hm (Ag [] R R)
  rw [suit_Room.l1] at hm
  exact Ah tbk [] R R<|Ae<|Bz R (k_lt h13)<|Ak<|Ae<|Ay<|Af<|Ab R R (B8 T_api_Pod.vv R R el24 h13)<|Ab R R (Bl R ld39 R)<|Ac R R<|Au z39 fun b3=>Ac R R<|Al (i:=0) R R R ld39 R R R<|Ad<|Af<|Aa tbk [1,0] 4 R R<|Ac R R<|Am hm 0 R fn92 R (K114 _ _) fun r5 hm=>Ad<|An hm R (fun h16 hm=>Ah tbk [] R R<|have hm:=Lr hm h11;Rt1 hm R [] R R R) fun h16 hm=>Ak<|A7 tbk [] R R<|Ap () () hm (Bg [1] R ⟨R,R,R,congrArg some (k_next h13 h12),trivial⟩)
 exact Ah tbk [] R R<|Rt1 hm R [] R R R

/-! trireme/suit.Suits -/
def suit_Suits (m : T_api_Machine) (bs : List T_api_Bound) (p : T_api_Pod) : Option Int :=
 (suit_Place m p).bind fun r =>
 if (r == 1) = true then
  some r
 else
  if (r == 4) = true then
   some r
  else
   if (r == 5) = true then
    some r
   else
    if (r == 6) = true then
     some r
    else
     (suit_Room m bs p).bind fun r2 =>
     some r2
theorem K1 (m : T_api_Machine) (bs : List T_api_Bound) (p : T_api_Pod) : VS Try.prog 69 (suit_Suits m bs p) [T_api_Machine.vv m, L50 bs, T_api_Pod.vv p] [] Iw N0 := by
 refine A0 [.tmp 6] Try.func69 R R R fun r hm=>?_
 unfold suit_Suits at hm
 exact Af<|Ac R R<|Ba R R fun b=>Ac R R<|Ba R R fun b2=>Ab R R (Ai R)<|Ad<|Af<|Aa tbk [1,0] 2 R R<|Ac R R<|Am hm 0 R fn78 R (K96 _ _) fun r hm=>Ab R R (Ai R)<|Ad<|Ae<|Ah tbk [] R R<|Ay<|Ae<|Ay<|Ay<|Ay<|Ae<|Ae<|Ah tbk [] R R<|An hm R (fun h4 hm=>A3<|Ae<|Ah tbk [] R R<|Rt1 hm R [] R R R) fun h4 hm=>Ak<|Ae<|Ah tbk [] R R<|An hm R (fun h5 hm=>A3<|Ae<|Ah tbk [] R R<|Rt1 hm R [] R R R) fun h5 hm=>Ak<|Ae<|Ah tbk [] R R<|An hm R (fun h6 hm=>Ak<|Bz R h6<|A3<|Ae<|Ah tbk [] R R<|Rt1 hm R [] R R R) fun h6 hm=>A7 tbk [] R R<|An hm R (fun h7 hm=>A3<|Ae<|Ah tbk [] R R<|Rt1 hm R [] R R R) fun h7 hm=>Ak<|A3<|Af<|Aa tbk [1,0] 3 R R<|Ac R R<|Am hm 0 R fn79 R (K0 _ _ _) fun r2 hm=>Ab R R (Ai R)<|Ad<|Rt1 hm R [] R R R

/-! trireme/apart.zones -/
def apart_zones.l1 : List T_api_Machine → Nat → (List (ByteArray × ByteArray)) → Option (List (ByteArray × ByteArray))
 | [], k, out2 => some out2
 | x :: l, k, out2 =>
  (labels_Get x.Labels (⟨#[122, 111, 110, 101]⟩ : ByteArray)).bind fun r =>
  if r.2 = true then
   apart_zones.l1 l (k + 1) (V.mp out2 x.Name r.1)
  else
   apart_zones.l1 l (k + 1) out2
def apart_zones (ms : List T_api_Machine) : Option (List (ByteArray × ByteArray)) :=
 (apart_zones.l1 ms 0 ([] : List (ByteArray × ByteArray))).bind fun out32 =>
 some out32
theorem K2 (ms : List T_api_Machine) : VS1 Try.prog 93 (apart_zones ms) [L30 ms] [] (fun r b_0=>.map b_0) (fun r b_0=>[.map b_0 (List.map (pf VV.str VV.str) r)]) := by
 refine VS1.run [.tmp 2] Try.func93 R R R fun r hm=>?_
 unfold apart_zones at hm
 refine Ah tbk [] R R<|Af<|Ac R R<|C8 fun b=>Ab R R (Ai R)<|Ad<|Ae<|Af<|Ab R R (Aj R)<|Ab R R (Ax T_api_Machine.vv R Bu)<|Ab R R (Aj R)<|Ad<|B5 9 R fun h4=>B9 hm (fun _ (_:Unit)=>[(3,.map b)]) (fun out32 (_:Unit)=>[.map b (List.map (pf VV.str VV.str) out32)]) (fun o hm=>?_) fun out32 _ hm=> ?_
 ·refine Cd (ms) (fun zl zk (zs:List (ByteArray × ByteArray))=>apart_zones.l1 zl zk zs) (fun k _ (_:Unit)=>[(3,.map b),(9,L30 ms),(10,Iw (ms.length : Int)),(11,Iw (k : Int))]) (fun _ zs (_:Unit)=>[.map b (List.map (pf VV.str VV.str) zs)]) _ () hm (Ag [0] R R) (fun k out2 _ hk hm=>?_) fun k x l out2 _ h5 hm=> ?_
  ·rw [apart_zones.l1] at hm
   exact Ah tbk [] R R<|Ae<|B2 R (k_end hk)<|A3<|As () hm (Ag [0] R R)
  rw [apart_zones.l1] at hm
  exact Ah tbk [] R R<|Ae<|Bz R (k_lt h5)<|Ak<|Ae<|Ay<|Af<|Ab R R (B8 T_api_Machine.vv R R el22 h5)<|Ab R R (Bl R ld30 R)<|Ac R R<|Au z30 fun b2=>Ac R R<|Al (i:=0) R R R ld30 R R R<|Ad<|Af<|Aa tbk [0] 2 R R<|Ac R R<|Am hm 0 R fn101 R (K80 _ _) fun r hm=>Aa tbk [] 5 R R<|Ad<|Ah tbk [] R R<|An hm R (fun h8 hm=>Bt<|Aa tbk [0] 4 R R<|Ac R R<|C4 1 (kf:=VV.str) (vf:=VV.str) (l:=out2) (k:=x.Name) (z:=r.1) mk9 Cm R R R R<|Ad<|A7 tbk [] R R<|Ap _ () hm (Bg [1] R ⟨R,R,R,congrArg some (k_next h5 h4),trivial⟩)) fun h8 hm=>Ak<|A7 tbk [] R R<|Ap _ () hm (Bg [1] R ⟨R,R,R,congrArg some (k_next h5 h4),trivial⟩)
 exact Ah tbk [] R R<|Rg1 hm R [0] b (.cons (.tmp _ _ R) .nil) R R

/-! (trireme/apart.place).one -/
def apart_place_one (x : T_apart_place) (a : ByteArray) (b2 : ByteArray) (wide : Bool) : Option Bool :=
 if ((V.seq a b2) || (!wide)) = true then
  some (V.seq a b2)
 else
  some ((((V.mg x.zones a).isSome) && ((V.mg x.zones b2).isSome)) && (V.seq ((V.mg x.zones a).getD (⟨#[]⟩ : ByteArray)) ((V.mg x.zones b2).getD (⟨#[]⟩ : ByteArray))))
theorem K3 (x : T_apart_place) (a : ByteArray) (b2 : ByteArray) (wide : Bool) (b : Nat) : VS Try.prog 105 (apart_place_one x a b2 wide) [.agg [.map b], .str a, .str b2, .bool wide] [.map b (List.map (pf VV.str VV.str) x.zones)] .bool (fun r=>[.map b (List.map (pf VV.str VV.str) x.zones)]) := by
 refine A0 [.tmp 8] Try.func105 R R R fun r hm=>?_
 unfold apart_place_one at hm
 exact Af<|Ac R R<|Ba R R fun b3=>Ab R R (Ai R)<|Ad<|Ae<|Af<|Aa tbk [] 4 R R<|Cq tbk [] 3 19 16 R R R R R<|Ad<|An hm R (fun h3 hm=>Ah tbk [] R R<|Rt1 hm R [1] R R R) fun h3 hm=>Ak<|Af<|Aa tbk [0] 3 R R<|Ab R R (Cr 1 (kf:=VV.str) (vf:=VV.str) (l:=x.zones) (k:=a) (z:=(⟨#[]⟩ : ByteArray)) true mk9 Cm R R R zc9 R)<|Aa tbk [] 5 R R<|Ad<|Af<|Aa tbk [0] 3 R R<|Ab R R (Cr 1 (kf:=VV.str) (vf:=VV.str) (l:=x.zones) (k:=b2) (z:=(⟨#[]⟩ : ByteArray)) true mk9 Cm R R R zc9 R)<|Aa tbk [] 5 R R<|Ad<|Af<|Aa tbk [] 2 R R<|Bw tbk [] 2 40 38 R R R R R<|Ab R R (Aj R)<|Bw tbk [] 4 45 41 R R R R R<|Ab R R (Ai R)<|Ad<|Rt1 hm R [1] R R R

/-! (trireme/apart.place).bars -/
def apart_place_bars (x : T_apart_place) (p : T_api_Pod) (q_ : T_api_Pod) (a : ByteArray) (b2 : ByteArray) : Option Bool :=
 (if (decide ((p.Apart.length : Int) > 0)) = true then (labels_Has q_.Labels p.Apart).bind fun r =>
 some r else some false).bind fun c =>
 (if c = true then (apart_place_one x a b2 p.Wide).bind fun r2 =>
 some r2 else some false).bind fun c2 =>
 some c2
theorem K4 (x : T_apart_place) (p : T_api_Pod) (q_ : T_api_Pod) (a : ByteArray) (b2 : ByteArray) (b : Nat) : VS Try.prog 94 (apart_place_bars x p q_ a b2) [.agg [.map b], T_api_Pod.vv p, T_api_Pod.vv q_, .str a, .str b2] [.map b (List.map (pf VV.str VV.str) x.zones)] .bool (fun r=>[.map b (List.map (pf VV.str VV.str) x.zones)]) := by
 refine A0 [.tmp 10] Try.func94 R R R fun r hm=>?_
 unfold apart_place_bars at hm
 exact Af<|Ac R R<|Ba R R fun b3=>Ac R R<|Ba R R fun b4=>Ac R R<|Ba R R fun b5=>Ab R R (Ai R)<|Ad<|Af<|Aa tbk [1] 2 R R<|Ab R R (Ax T_api_Label.vv R B0)<|Aa tbk [] 2 R R<|Bc hm 6 21 15 R (fun _ K' h4 J hm=>Aa tbk [0,1] 4 R R<|A2 R R R R R<|Am hm 0 R fn86 R (K81 _ _) fun r hm=>Ab R R (Bk true R R R)<|J 5 R R (Bj hm)) (fun _ K' h4 J hm=>Aa tbk [] 6 R R<|J 5 R R (Bj hm)) fun c hm=>Ab R R (Aj R)<|Bc hm 7 29 22 R (fun _ K' h7 J hm=>Aa tbk [2,1] 5 R R<|Bh (B4 [3,0,0,0] R)<|A2 R R R R R<|Am hm 1 R fn105 R (K3 _ _ _ _ _) fun r2 hm=>Ab R R (Bk true R R R)<|Bh (B4 [1,1,1,0] R)<|J 6 R R (Bj hm)) (fun _ K' h7 J hm=>Aa tbk [] 7 R R<|J 6 R R (Bj hm)) fun c2 hm=>Ab R R (Ai R)<|Ad<|Rt1 hm R [3] R R R

/-! trireme/apart.Near -/
def apart_Near.l1 (p : T_api_Pod) (on_ : ByteArray) (r2 : (List (ByteArray × ByteArray))) : List T_api_Bound → Nat → Option (Out Bool Unit)
 | [], k => some (Out.go ())
 | x :: l, k =>
  if ((V.seq x.On (⟨#[]⟩ : ByteArray)) || (V.seq x.Pod.Name p.Name)) = true then
   apart_Near.l1 p on_ r2 l (k + 1)
  else
   (apart_place_bars (⟨r2⟩ : T_apart_place) p x.Pod on_ x.On).bind fun r3 =>
   (if r3 = true then some true else (apart_place_bars (⟨r2⟩ : T_apart_place) x.Pod p x.On on_).bind fun r4 =>
   some r4).bind fun c =>
   if c = true then
    some (Out.ret true)
   else
    apart_Near.l1 p on_ r2 l (k + 1)
def apart_Near (ms : List T_api_Machine) (bs : List T_api_Bound) (p : T_api_Pod) (on_ : ByteArray) : Option Bool :=
 (yard_Find ms on_).bind fun r =>
 if (decide (r < 0)) = true then
  some false
 else
  (apart_zones ms).bind fun r2 =>
  (apart_Near.l1 p on_ r2 bs 0).bind fun o =>
  o.on fun j =>
  some false
theorem K5 (ms : List T_api_Machine) (bs : List T_api_Bound) (p : T_api_Pod) (on_ : ByteArray) : VS Try.prog 80 (apart_Near ms bs p on_) [L30 ms, L50 bs, T_api_Pod.vv p, .str on_] [] .bool N0 := by
 refine A0 [.tmp 8] Try.func80 R R R fun r hm=>?_
 unfold apart_Near at hm
 refine Af<|Ac R R<|Ba R R fun b=>Ab R R (Ai R)<|Ad<|Ae<|Af<|Aa tbk [] 2 R R<|Ac R R<|Am hm 0 R fn44 R (K78 _ _) fun r hm=>Ab R R (A9 R R R)<|Ad<|An hm R (fun h3 hm=>Ah tbk [] R R<|Rt1 hm R [] R R R) fun h3 hm=>Ak<|Af<|Ab R R (Aj R)<|Ac R R<|VO.cl1 hm 0 R fn93 R (K2 _) fun r2 b2 hm=>Ab R R (Be pl134 R R)<|Ac R R<|Au z134 fun b3=>Ac R R<|Al (i:=0) R R R ld134 R R R<|Ad<|Ae<|Af<|Ab R R (Aj R)<|Ab R R (Ax T_api_Bound.vv R Bn)<|Ab R R (Aj R)<|Ad<|B5 19 R fun h9=>Bo hm (fun _ (_:Unit)=>[]) (fun _ (_:Unit)=>[]) (fun o hm h8=>?_) fun j _ hm=> ?_
 ·refine Cd (bs) (fun zl zk (zs:Unit)=>apart_Near.l1 p on_ r2 zl zk) (fun k _ (_:Unit)=>[(3,.str on_),(6,.ptr b 0),(9,.ptr b3 0),(19,L50 bs),(20,Iw (bs.length : Int)),(21,Iw (k : Int))]) (fun _ _ (_:Unit)=>[.box b3 134 [.map b2],.map b2 (List.map (pf VV.str VV.str) ((⟨r2⟩ : T_apart_place).zones)),X39 b p]) () () hm (Ag [0,0,0] R R) (fun k _ _ hk hm=>?_) fun k x l _ _ h10 hm=> ?_
  ·rw [apart_Near.l1] at hm
   exact Ah tbk [] R R<|Ae<|B2 R (k_end hk)<|A3<|Ar () hm (Ag [] R R)
  rw [apart_Near.l1] at hm
  exact Ah tbk [] R R<|Ae<|Bz R (k_lt h10)<|Ak<|Ae<|Ay<|Af<|Ab R R (B8 T_api_Bound.vv R R el23 h10)<|Ab R R (Bl R ld50 R)<|Ac R R<|Au z50 fun b4=>Ac R R<|Al (i:=0) R R R ld50 R R R<|Ad<|Ae<|Af<|Aa tbk [0] 4 R R<|Cq tbk [0,3] 7 35 28 R R R R R<|Ad<|An hm R (fun h13 hm=>A3<|A7 tbk [] R R<|Ap () () hm (Bg [1,1,1] R ⟨R,R,R,R,R,congrArg some (k_next h10 h9),trivial⟩)) fun h13 hm=>Ak<|Af<|Aa tbk [1,3,0,0] 7 R R<|Bh (B4 [2,0,0,0] R)<|Ac R R<|Am hm 1 R fn94 R (K4 _ _ _ _ _ _) fun r3 hm=>Ab R R (Aj R)<|Bc hm 9 53 44 R (fun _ K' h15 J hm=>Aa tbk [] 9 R R<|J 8 R R (Bj hm)) (fun _ K' h15 J hm=>Aa tbk [2,1,3,1] 7 R R<|A2 R R R R R<|Am hm 1 R fn94 R (K4 _ _ _ _ _ _) fun r4 hm=>Ab R R (Bk false R R R)<|J 8 R R (Bj hm)) fun c hm=>Ad<|An hm R (fun h18 hm=>Ah tbk [] R R<|have hm:=Lr hm h8;Rt1 hm R [] R R R) fun h18 hm=>Ak<|A7 tbk [] R R<|Ap () () hm (Bg [2,0,1] R ⟨R,R,R,R,R,congrArg some (k_next h10 h9),trivial⟩)
 exact Ah tbk [] R R<|Rt1 hm R [] R R R

/-! trireme/apart.tally -/
def apart_tally.l1 (p : T_api_Pod) (r : (List (ByteArray × ByteArray))) : List T_api_Bound → Nat → (List (ByteArray × Int)) → Option (List (ByteArray × Int))
 | [], k, n2 => some n2
 | x :: l, k, n2 =>
  (if ((((V.mg r x.On).isSome) && (!(V.seq x.On (⟨#[]⟩ : ByteArray)))) && (!(V.seq x.Pod.Name p.Name))) = true then (labels_Has x.Pod.Labels p.Spread).bind fun r2 =>
  some r2 else some false).bind fun c =>
  if c = true then
   apart_tally.l1 p r l (k + 1) (V.mp n2 ((V.mg r x.On).getD (⟨#[]⟩ : ByteArray)) (i64.wrap (((V.mg n2 ((V.mg r x.On).getD (⟨#[]⟩ : ByteArray))).getD 0) + 1)))
  else
   apart_tally.l1 p r l (k + 1) n2
def apart_tally (ms : List T_api_Machine) (bs : List T_api_Bound) (p : T_api_Pod) : Option (List (ByteArray × Int)) :=
 (apart_zones ms).bind fun r =>
 (apart_tally.l1 p r bs 0 ([] : List (ByteArray × Int))).bind fun n32 =>
 some n32
theorem K6 (ms : List T_api_Machine) (bs : List T_api_Bound) (p : T_api_Pod) : VS1 Try.prog 106 (apart_tally ms bs p) [L30 ms, L50 bs, T_api_Pod.vv p] [] (fun r b_0=>.map b_0) (fun r b_0=>[.map b_0 (List.map (pf VV.str (VV.int .i64)) r)]) := by
 refine VS1.run [.tmp 6] Try.func106 R R R fun r hm=>?_
 unfold apart_tally at hm
 refine Af<|Ac R R<|Ba R R fun b=>Ab R R (Ai R)<|Ad<|Af<|Ab R R (Aj R)<|Ac R R<|VO.cl1 hm 0 R fn93 R (K2 _) fun r b2 hm=>Ab R R (Ai R)<|Ad<|Af<|Ac R R<|C8 fun b3=>Ab R R (Ai R)<|Ad<|Ae<|Af<|Ab R R (Aj R)<|Ab R R (Ax T_api_Bound.vv R Bn)<|Ab R R (Aj R)<|Ad<|B5 16 R fun h7=>B9 hm (fun _ (_:Unit)=>[(8,.map b3)]) (fun n32 (_:Unit)=>[.map b3 (List.map (pf VV.str (VV.int .i64)) n32)]) (fun o hm=>?_) fun n32 _ hm=> ?_
 ·refine Cd (bs) (fun zl zk (zs:List (ByteArray × Int))=>apart_tally.l1 p r zl zk zs) (fun k _ (_:Unit)=>[(5,.ptr b 0),(7,.map b2),(8,.map b3),(16,L50 bs),(17,Iw (bs.length : Int)),(18,Iw (k : Int))]) (fun _ zs (_:Unit)=>[.map b3 (List.map (pf VV.str (VV.int .i64)) zs),.map b2 (List.map (pf VV.str VV.str) r),X39 b p]) _ () hm (Ag [0,0,0] R R) (fun k n2 _ hk hm=>?_) fun k x l n2 _ h8 hm=> ?_
  ·rw [apart_tally.l1] at hm
   exact Ah tbk [] R R<|Ae<|B2 R (k_end hk)<|A3<|As () hm (Ag [0] R R)
  rw [apart_tally.l1] at hm
  exact Ah tbk [] R R<|Ae<|Bz R (k_lt h8)<|Ak<|Ae<|Ay<|Af<|Ab R R (B8 T_api_Bound.vv R R el23 h8)<|Ab R R (Bl R ld50 R)<|Ac R R<|Au z50 fun b4=>Ac R R<|Al (i:=0) R R R ld50 R R R<|Ad<|Af<|Aa tbk [0] 3 R R<|Ab R R (Cr 2 (kf:=VV.str) (vf:=VV.str) (l:=r) (k:=x.On) (z:=(⟨#[]⟩ : ByteArray)) true mk9 Cm R R R zc9 R)<|Aa tbk [] 5 R R<|Ad<|Af<|Aa tbk [] 2 R R<|Bw tbk [0] 4 34 30 R R R R R<|Ab R R (Aj R)<|Bw tbk [0,3] 7 42 35 R R R R R<|Ab R R (Aj R)<|Bc hm 7 50 43 R (fun _ K' h12 J hm=>Aa tbk [0,3] 5 R R<|A2 R R R R R<|Am hm 0 R fn86 R (K81 _ _) fun r2 hm=>Ab R R (Bk true R R R)<|J 6 R R (Bj hm)) (fun _ K' h12 J hm=>Aa tbk [] 7 R R<|J 6 R R (Bj hm)) fun c hm=>Ad<|An hm R (fun h15 hm=>Bt<|Aa tbk [] 2 R R<|Ab R R (Cr 1 (kf:=VV.str) (vf:=(VV.int .i64)) (l:=n2) (k:=((V.mg r x.On).getD (⟨#[]⟩ : ByteArray))) (z:=(0 : Int)) false mk9 Cg R R R zc3 R)<|Ab R R (A9 R R R)<|Ac R R<|C4 1 (kf:=VV.str) (vf:=(VV.int .i64)) (l:=n2) (k:=((V.mg r x.On).getD (⟨#[]⟩ : ByteArray))) (z:=(IntKind.i64.wrap (((V.mg n2 ((V.mg r x.On).getD (⟨#[]⟩ : ByteArray))).getD (0 : Int)) + (1 : Int)))) mk9 Cg R R R R<|Ad<|A7 tbk [] R R<|Ap _ () hm (Bg [1,1,1] R ⟨R,R,R,R,R,congrArg some (k_next h8 h7),trivial⟩)) fun h15 hm=>Ak<|A7 tbk [] R R<|Ap _ () hm (Bg [1,1,1] R ⟨R,R,R,R,R,congrArg some (k_next h8 h7),trivial⟩)
 exact Ah tbk [] R R<|Rg1 hm R [0] b3 (.cons (.tmp _ _ R) .nil) R R

/-! trireme/yard.Zones -/
def yard_Zones.l1 : List T_api_Machine → Nat → (List (ByteArray × Int)) → (List ByteArray) → Option (List ByteArray)
 | [], k, had2, l2 => some l2
 | x :: l4, k, had2, l2 =>
  (labels_Get x.Labels (⟨#[122, 111, 110, 101]⟩ : ByteArray)).bind fun r =>
  if ((!r.2) || (!x.Ready)) = true then
   yard_Zones.l1 l4 (k + 1) had2 l2
  else
   if (((V.mg (V.mp had2 r.1 (i64.wrap (((V.mg had2 r.1).getD 0) + 1))) r.1).getD 0) == 1) = true then
    (V.ap 16 l2 [r.1]).bind fun l5 =>
    yard_Zones.l1 l4 (k + 1) (V.mp had2 r.1 (i64.wrap (((V.mg had2 r.1).getD 0) + 1))) l5
   else
    yard_Zones.l1 l4 (k + 1) (V.mp had2 r.1 (i64.wrap (((V.mg had2 r.1).getD 0) + 1))) l2
def yard_Zones (ms : List T_api_Machine) : Option (List ByteArray) :=
 (yard_Zones.l1 ms 0 ([] : List (ByteArray × Int)) ([] : List ByteArray)).bind fun l32 =>
 some l32
theorem K7 (ms : List T_api_Machine) : VS2 Try.prog 107 (yard_Zones ms) [L30 ms] [] (fun r ob0 cap0=>Z9 ob0 r cap0) (fun r ob0 cap0=>[Q9 ob0 cap0 r]) := by
 refine Cj [.tmp 2] Try.func107 R R R fun r hm=>?_
 unfold yard_Zones at hm
 refine Ah tbk [] R R<|Af<|Ac R R<|C8 fun b=>Ab R R (Ai R)<|Ad<|Ah tbk [] R R<|Ae<|Af<|Ab R R (Aj R)<|Ab R R (Ax T_api_Machine.vv R Bu)<|Ab R R (Aj R)<|Ad<|B5 10 R fun h6=>B9 hm (fun l32 (gg:Option Nat × Nat)=>[(4,Z9 gg.1 l32 gg.2)]) (fun l32 (gg:Option Nat × Nat)=>[Q9 gg.1 gg.2 l32]) (fun o hm=>?_) fun l32=>Pq fun ob3 cap3 hm=> ?_
 ·refine Cd (ms) (fun zl zk (zs:List (ByteArray × Int) × List ByteArray)=>yard_Zones.l1 zl zk zs.1 zs.2) (fun k zs (zg:Option Nat × Nat)=>[(3,.map b),(4,Z9 zg.1 zs.2 zg.2),(10,L30 ms),(11,Iw (ms.length : Int)),(12,Iw (k : Int))]) (fun _ zs (zg:Option Nat × Nat)=>[Q9 zg.1 zg.2 zs.2,.map b (List.map (pf VV.str (VV.int .i64)) zs.1)]) (([] : List (ByteArray × Int)),([] : List ByteArray)) (none,0) hm (A4 (A6 9) (Ag [0,0] R R)) (fun k=>Pq fun had2 l2=>Pq fun ob2 cap2 hk hm=>?_) fun k x l4=>Pq fun had2 l2=>Pq fun ob2 cap2 h7 hm=> ?_
  ·rw [yard_Zones.l1] at hm
   exact Ah tbk [] R R<|Ae<|B2 R (k_end hk)<|A3<|As (ob2,cap2) hm (Ag [0] R R)
  rw [yard_Zones.l1] at hm
  exact Ah tbk [] R R<|Ae<|Bz R (k_lt h7)<|Ak<|Ae<|Ay<|Af<|Ab R R (B8 T_api_Machine.vv R R el22 h7)<|Ab R R (Bl R ld30 R)<|Ac R R<|Au z30 fun b2=>Ac R R<|Al (i:=0) R R R ld30 R R R<|Ad<|Af<|Aa tbk [0] 2 R R<|Ac R R<|Am hm 0 R fn101 R (K80 _ _) fun r hm=>Aa tbk [] 5 R R<|Ad<|Ae<|Af<|Aa tbk [] 3 R R<|Cq tbk [0] 4 28 24 R R R R R<|Ad<|An hm R (fun h11 hm=>A3<|A7 tbk [] R R<|Ap (had2,l2) (ob2,cap2) hm (Bg [1,1] R ⟨R,R,R,R,congrArg some (k_next h7 h6),trivial⟩)) fun h11 hm=>Ak<|Af<|Aa tbk [] 2 R R<|Ab R R (Cr 2 (kf:=VV.str) (vf:=(VV.int .i64)) (l:=had2) (k:=r.1) (z:=(0 : Int)) false mk9 Cg R R R zc3 R)<|Ab R R (A9 R R R)<|Ac R R<|C4 2 (kf:=VV.str) (vf:=(VV.int .i64)) (l:=had2) (k:=r.1) (z:=(IntKind.i64.wrap (((V.mg had2 r.1).getD (0 : Int)) + (1 : Int)))) mk9 Cg R R R R<|Ad<|Af<|Aa tbk [] 2 R R<|Ab R R (Cr 2 (kf:=VV.str) (vf:=(VV.int .i64)) (l:=(V.mp had2 r.1 (IntKind.i64.wrap (((V.mg had2 r.1).getD (0 : Int)) + (1 : Int))))) (k:=r.1) (z:=(0 : Int)) false mk9 Cg R R R zc3 R)<|Ab R R (A9 R R R)<|Ad<|An hm R (fun h12 hm=>Bt<|Aa tbk [] 2 R R<|Ac R R<|Bb ap66 R R R R R fun b3=>Bd hm fun l5 h14 hm=>Ac R R<|B6 2 VV.str (l:=l2) (l2:=[r.1]) ap66 R R (sT_row 0 VV.str el66 R R) h14 fun ob4 cap4=>Ab R R (Ai R)<|Ad<|A7 tbk [] R R<|Ap ((V.mp had2 r.1 (IntKind.i64.wrap (((V.mg had2 r.1).getD (0 : Int)) + (1 : Int)))),l5) (ob4,cap4) hm (Bg [2,2] R ⟨R,R,R,R,congrArg some (k_next h7 h6),trivial⟩)) fun h12 hm=>Ak<|A7 tbk [] R R<|Ap ((V.mp had2 r.1 (IntKind.i64.wrap (((V.mg had2 r.1).getD (0 : Int)) + (1 : Int)))),l2) (ob2,cap2) hm (Bg [1,1] R ⟨R,R,R,R,congrArg some (k_next h7 h6),trivial⟩)
 exact Ah tbk [] R R<|Rg2 hm R [0] ob3 cap3 (.cons (.tmp _ _ R) .nil) R R

/-! trireme/apart.Counts -/
def apart_Counts.l1 (r : (List (ByteArray × Int))) : List ByteArray → Nat → (List Int) → Option (List Int)
 | [], k, out2 => some out2
 | x :: l, k, out2 =>
  (V.ap 8 out2 [((V.mg r x).getD 0)]).bind fun out4 =>
  apart_Counts.l1 r l (k + 1) out4
def apart_Counts (ms : List T_api_Machine) (bs : List T_api_Bound) (p : T_api_Pod) : Option (List ByteArray × List Int) :=
 (apart_tally ms bs p).bind fun r =>
 (yard_Zones ms).bind fun r2 =>
 (apart_Counts.l1 r r2 0 ([] : List Int)).bind fun out32 =>
 some (r2, out32)
theorem K8 (ms : List T_api_Machine) (bs : List T_api_Bound) (p : T_api_Pod) : VS2 Try.prog 95 (apart_Counts ms bs p) [L30 ms, L50 bs, T_api_Pod.vv p] [] (fun r ob1 cap1=>.tup [L9 r.1, Z3 ob1 r.2 cap1]) (fun r ob1 cap1=>[Q3 ob1 cap1 r.2]) := by
 refine Cj [.tmp 6,.tmp 7] Try.func95 R R R fun r hm=>?_
 unfold apart_Counts at hm
 refine Af<|Ac R R<|Ba R R fun b=>Aa tbk [] 2 R R<|Ad<|Af<|Aa tbk [0] 3 R R<|Ac R R<|VO.cl1 hm 0 R fn106 R (K6 _ _ _) fun r b2 hm=>Ab R R (Ai R)<|Ad<|Af<|Ab R R (Aj R)<|Ac R R<|Ck hm 0 R fn107 R (K7 _) fun r2 ob cap hm=>Bh (Aw 0 [(18,L9 r2)] R ⟨⟨_,R,.here _ R⟩,trivial⟩ (FzH.refl _))<|Ab R R (Ai R)<|Ad<|Ah tbk [] R R<|Ae<|Af<|Ab R R (Aj R)<|Ab R R (Ax VV.str R Bp)<|Ab R R (Aj R)<|Ad<|B5 9 R fun h10=>B9 hm (fun out32 (gg:Option Nat × Nat)=>[(9,L9 r2),(10,Z3 gg.1 out32 gg.2)]) (fun out32 (gg:Option Nat × Nat)=>[Q3 gg.1 gg.2 out32]) (fun o hm=>?_) fun out32=>Pq fun ob4 cap4 hm=> ?_
 ·refine Cd (r2) (fun zl zk (zs:List Int)=>apart_Counts.l1 r zl zk zs) (fun k zs (zg:Option Nat × Nat)=>[(8,.map b2),(9,L9 r2),(10,Z3 zg.1 zs zg.2),(19,L9 r2),(20,Iw (r2.length : Int)),(21,Iw (k : Int))]) (fun _ zs (zg:Option Nat × Nat)=>[Q3 zg.1 zg.2 zs,.map b2 (List.map (pf VV.str (VV.int .i64)) r)]) _ (none,0) hm (A4 (A6 3) (Ag [0,0] R R)) (fun k out2=>Pq fun ob3 cap3 hk hm=>?_) fun k x l out2=>Pq fun ob3 cap3 h11 hm=> ?_
  ·rw [apart_Counts.l1] at hm
   exact Ah tbk [] R R<|Ae<|B2 R (k_end hk)<|A3<|As (ob3,cap3) hm (Ag [0] R R)
  rw [apart_Counts.l1] at hm
  exact Ah tbk [] R R<|Ae<|Bz R (k_lt h11)<|Ak<|Ae<|Ay<|Af<|Ab R R (B8 VV.str R R el66 h11)<|Aa tbk [] 2 R R<|Ad<|Bt<|Aa tbk [] 3 R R<|Ab R R (Cr 1 (kf:=VV.str) (vf:=(VV.int .i64)) (l:=r) (k:=x) (z:=(0 : Int)) false mk9 Cg R R R zc3 R)<|Ac R R<|Bb ap37 R R R R R fun b3=>Bd hm fun out4 h13 hm=>Ac R R<|B6 1 (VV.int .i64) (l:=out2) (l2:=[((V.mg r x).getD (0 : Int))]) ap37 R R (sT_row 0 (VV.int .i64) el37 R R) h13 fun ob5 cap5=>Ab R R (Ai R)<|Ad<|A7 tbk [] R R<|Ap _ (ob5,cap5) hm (Bg [1,1] R ⟨R,R,R,R,R,congrArg some (k_next h11 h10),trivial⟩)
 exact Ah tbk [] R R<|Rg2 hm R [0] ob4 cap4 (.cons (.tmp _ _ R) (.cons (.tmp _ _ R) .nil)) R R

/-! trireme/apart.Many -/
def apart_Many.l1 (on_ : ByteArray) (r2 : (List (ByteArray × ByteArray))) (r3 : List ByteArray × List Int) : List ByteArray → Nat → Bool → Int → Int → Option (Bool × Int × Int)
 | [], k, met2, mine2, least2 => some (met2, mine2, least2)
 | x :: l, k, met2, mine2, least2 =>
  (V.gl r3.2 (k : Int)).bind fun x2 =>
  if (((V.mg r2 on_).isSome) && (V.seq x ((V.mg r2 on_).getD (⟨#[]⟩ : ByteArray)))) = true then
   (V.gl r3.2 (k : Int)).bind fun x3 =>
   apart_Many.l1 on_ r2 r3 l (k + 1) true x3 (min least2 x2)
  else
   apart_Many.l1 on_ r2 r3 l (k + 1) met2 mine2 (min least2 x2)
def apart_Many (ms : List T_api_Machine) (bs : List T_api_Bound) (p : T_api_Pod) (on_ : ByteArray) : Option Bool :=
 (if ((p.Spread.length : Int) == 0) = true then some true else (yard_Find ms on_).bind fun r =>
 some (decide (r < 0))).bind fun c =>
 if c = true then
  some false
 else
  (apart_zones ms).bind fun r2 =>
  (apart_Counts ms bs p).bind fun r3 =>
  (apart_Many.l1 on_ r2 r3 r3.1 0 false 0 (401 : Int)).bind fun j =>
  (labels_Has p.Labels p.Spread).bind fun r4 =>
  if r4 = true then
   some ((!j.1) || (decide ((i64.wrap (j.2.1 + 1)) > (i64.wrap (j.2.2 + p.Skew)))))
  else
   some ((!j.1) || (decide (j.2.1 > (i64.wrap (j.2.2 + p.Skew)))))
theorem K9 (ms : List T_api_Machine) (bs : List T_api_Bound) (p : T_api_Pod) (on_ : ByteArray) : VS Try.prog 81 (apart_Many ms bs p on_) [L30 ms, L50 bs, T_api_Pod.vv p, .str on_] [] .bool N0 := by
 refine A0 [.tmp 8] Try.func81 R R R fun r hm=>?_
 unfold apart_Many at hm
 refine Af<|Ac R R<|Ba R R fun b=>Ab R R (Ai R)<|Ad<|Ae<|Af<|Aa tbk [0] 2 R R<|Ab R R (Ax T_api_Label.vv R B0)<|Aa tbk [] 2 R R<|Bc hm 5 27 22 R (fun _ K' h2 J hm=>Aa tbk [] 5 R R<|J 4 R R (Bj hm)) (fun _ K' h2 J hm=>Aa tbk [] 2 R R<|A2 R R R R R<|Am hm 0 R fn44 R (K78 _ _) fun r hm=>Aa tbk [] 2 R R<|J 4 R R (Bj hm)) fun c hm=>Ad<|An hm R (fun h5 hm=>Ah tbk [] R R<|Rt1 hm R [] R R R) fun h5 hm=>Ak<|Af<|Ab R R (Aj R)<|Ac R R<|VO.cl1 hm 0 R fn93 R (K2 _) fun r2 b2 hm=>Ab R R (Aj R)<|Ab R R (Cr 0 (kf:=VV.str) (vf:=VV.str) (l:=r2) (k:=on_) (z:=(⟨#[]⟩ : ByteArray)) true mk9 Cm R R R zc9 R)<|Aa tbk [] 5 R R<|Ad<|Af<|Aa tbk [1] 3 R R<|Ac R R<|Ck hm 0 R fn95 R (K8 _ _ _) fun r3 ob cap hm=>Aa tbk [] 5 R R<|Ad<|Ah tbk [] R R<|Ah tbk [] R R<|Ae<|Af<|Ab R R (Aj R)<|Ab R R (Ax VV.str R Bp)<|Ab R R (Aj R)<|Ad<|B5 42 R fun h12=>B9 hm (fun j (_:Unit)=>[(6,.ptr b 0),(13,.bool j.1),(14,Iw j.2.1),(15,Iw j.2.2)]) (fun _ (_:Unit)=>[X39 b p]) (fun o hm=>?_) fun j _ hm=> ?_
 ·refine Cd (r3.1) (fun zl zk (zs:Bool × Int × Int)=>apart_Many.l1 on_ r2 r3 zl zk zs.1 zs.2.1 zs.2.2) (fun k zs (zg:Option Nat)=>[(6,.ptr b 0),(9,.str ((V.mg r2 on_).getD (⟨#[]⟩ : ByteArray))),(10,.bool ((V.mg r2 on_).isSome)),(12,Z3 zg r3.2 cap),(13,.bool zs.1),(14,Iw zs.2.1),(15,Iw zs.2.2),(42,L9 r3.1),(43,Iw (r3.1.length : Int)),(44,Iw (k : Int))]) (fun _ _ (zg:Option Nat)=>[Q3 zg cap r3.2,X39 b p]) (false,(0 : Int),(401 : Int)) _ hm (Ag [0,1] R R) (fun k=>Pq fun met2=>Pq fun mine2 least2 ob3 hk hm=>?_) fun k x l=>Pq fun met2=>Pq fun mine2 least2 ob3 h13 hm=> ?_
  ·rw [apart_Many.l1] at hm
   exact Ah tbk [] R R<|Ae<|B2 R (k_end hk)<|A3<|As () hm (Ag [1] R R)
  rw [apart_Many.l1] at hm
  refine Ah tbk [] R R<|Ae<|Bz R (k_lt h13)<|Ak<|Ae<|Ay<|Af<|Ab R R (Aj R)<|Ab R R (B8 VV.str R R el66 h13)<|Aa tbk [] 3 R R<|Ad<|Af<|Aa tbk [] 3 R R<|Bd hm fun x2 h14 hm=>Cu 0 R (gl_pos (VV.int .i64) h14) fun b3 h15=> ?_
  subst h15
  exact Ab R R (C0 (VV.int .i64) R R el37 h14)<|Ab R R (Cw (i:=0) (y:=(VV.int .i64) x2) R R R (gl_map _ (gl_some h14).2) ld3 R)<|Ab R R (VP.min2 R R)<|Ab R R (Ai R)<|Ad<|Af<|Aa tbk [] 2 R R<|Bw tbk [] 4 60 56 R R R R R<|Ad<|An hm R (fun h17 hm=>Bi 0 mixed<|Az tbk [0,1] [] (by kernel_rfl) R R R<|Bd hm fun x3 h18 hm=>A8 2 R R R (by kernel_rfl) (C0 (VV.int .i64) R R el37 h18)<|A8 3 R R R (by kernel_rfl) (Cw (i:=0) (y:=(VV.int .i64) x3) R R R (gl_map _ (gl_some h18).2) ld3 R)<|Az tbk [4,5] [] (by kernel_rfl) R R R<|A1 (by kernel_rfl)<|A7 tbk [] R R<|Ap (true,x3,(min least2 x2)) _ hm (Bg [0,0] R ⟨R,R,R,R,R,R,R,R,R,congrArg some (k_next h13 h12),trivial⟩)) fun h17 hm=>Ak<|A7 tbk [] R R<|Ap (met2,mine2,(min least2 x2)) _ hm (Bg [0,0] R ⟨R,R,R,R,R,R,R,R,R,congrArg some (k_next h13 h12),trivial⟩)
 exact Ae<|Af<|Aa tbk [0,0] 4 R R<|Ac R R<|Am hm 0 R fn86 R (K81 _ _) fun r4 hm=>Ad<|An hm R (fun h20 hm=>A7 tbk [] R R<|Af<|Aa tbk [] 3 R R<|Cq tbk [0] 7 82 75 R R R R R<|Ab R R (Ai R)<|Ad<|Rt1 hm R [] R R R) fun h20 hm=>Ak<|Af<|Aa tbk [] 3 R R<|Cq tbk [0] 7 82 75 R R R R R<|Ab R R (Ai R)<|Ad<|Rt1 hm R [] R R R

/-! trireme/apart.Why -/
def apart_Why (ms : List T_api_Machine) (bs : List T_api_Bound) (p : T_api_Pod) (on_ : ByteArray) : Option Int :=
 (apart_Near ms bs p on_).bind fun r =>
 if r = true then
  some 7
 else
  (apart_Many ms bs p on_).bind fun r2 =>
  if r2 = true then
   some 8
  else
   some 0
theorem K10 (ms : List T_api_Machine) (bs : List T_api_Bound) (p : T_api_Pod) (on_ : ByteArray) : VS Try.prog 70 (apart_Why ms bs p on_) [L30 ms, L50 bs, T_api_Pod.vv p, .str on_] [] Iw N0 := by
 refine A0 [.tmp 8] Try.func70 R R R fun r hm=>?_
 unfold apart_Why at hm
 exact Af<|Ac R R<|Ba R R fun b=>Ab R R (Ai R)<|Ad<|Ae<|Ay<|Af<|Aa tbk [0] 4 R R<|Ac R R<|Am hm 0 R fn80 R (K5 _ _ _ _) fun r hm=>Ab R R (Ai R)<|Ad<|An hm R (fun h3 hm=>Ah tbk [] R R<|Rt1 hm R [] R R R) fun h3 hm=>Af<|Aa tbk [0] 4 R R<|Ac R R<|Am hm 0 R fn81 R (K9 _ _ _ _) fun r2 hm=>Ab R R (Ai R)<|Ad<|An hm R (fun h5 hm=>Ah tbk [] R R<|Rt1 hm R [] R R R) fun h5 hm=>Ak<|Ah tbk [] R R<|Rt1 hm R [] R R R

/-! (trireme/fit.asker).why -/
def fit_asker_why (a : T_fit_asker) (m : T_api_Machine) : Option Int :=
 (suit_Suits m a.bs a.p).bind fun r =>
 if (r != 0) = true then
  some r
 else
  (apart_Why a.ms a.bs a.p m.Name).bind fun r2 =>
  some r2
theorem K11 (a : T_fit_asker) (m : T_api_Machine) : VS Try.prog 58 (fit_asker_why a m) [T_fit_asker.vv a, T_api_Machine.vv m] [] Iw N0 := by
 refine A0 [.tmp 4] Try.func58 R R R fun r hm=>?_
 unfold fit_asker_why at hm
 exact Af<|Ac R R<|Ba R R fun b=>Ac R R<|Ba R R fun b2=>Ab R R (Ai R)<|Ad<|Ae<|Af<|Aa tbk [0,1,1] 5 R R<|Ac R R<|Am hm 0 R fn69 R (K1 _ _ _) fun r hm=>Ab R R (Ai R)<|Ad<|Ah tbk [] R R<|An hm R (fun h4 hm=>Ah tbk [] R R<|Rt1 hm R [] R R R) fun h4 hm=>Ak<|Af<|Aa tbk [1,1,1,0] 8 R R<|Ac R R<|Am hm 0 R fn70 R (K10 _ _ _ _) fun r2 hm=>Ab R R (Ai R)<|Ad<|Rt1 hm R [] R R R

/-! trireme/fit.Why -/
def fit_Why (ms : List T_api_Machine) (bs : List T_api_Bound) (p : T_api_Pod) (on_ : ByteArray) : Option Int :=
 (yard_Find ms on_).bind fun r =>
 if (decide (r < 0)) = true then
  some 1
 else
  (V.gl ms r).bind fun x =>
  (fit_asker_why (⟨ms, bs, p⟩ : T_fit_asker) x).bind fun r2 =>
  some r2
theorem K12 (ms : List T_api_Machine) (bs : List T_api_Bound) (p : T_api_Pod) (on_ : ByteArray) : VS Try.prog 41 (fit_Why ms bs p on_) [L30 ms, L50 bs, T_api_Pod.vv p, .str on_] [] Iw N0 := by
 refine A0 [.tmp 8] Try.func41 R R R fun r hm=>?_
 unfold fit_Why at hm
 exact Af<|Ac R R<|Ba R R fun b=>Ab R R (Ai R)<|Ad<|Af<|Aa tbk [] 2 R R<|Ac R R<|Am hm 0 R fn44 R (K78 _ _) fun r hm=>Ab R R (Ai R)<|Ad<|Ae<|Ah tbk [] R R<|An hm R (fun h3 hm=>Ah tbk [] R R<|Rt1 hm R [] R R R) fun h3 hm=>Ak<|Ae<|Bi 0 mixed<|Az tbk [0,1,2] [0] (by kernel_rfl) R R R<|A8 3 R R R (by kernel_rfl) (Be pl103 R R)<|Az tbk [4,5] [] (by kernel_rfl) R R R<|Bd hm fun x h4 hm=>A8 6 R R R (by kernel_rfl) (A5 T_api_Machine.vv R R el22 h4)<|A8 7 R R R (by kernel_rfl) (Bl R ld30 R)<|Ao 8 (by kernel_rfl)<|Aq R R R<|Am hm 0 R fn58 R (K11 _ _) fun r2 hm=>A8 9 R R R (by kernel_rfl) (Ai R)<|A1 (by kernel_rfl)<|Rt1 hm R [] R R R

/-! trireme/pack.decimal -/
def pack_decimal : Nat → Int → Option ByteArray
 | 0, _ => none
 | nn + 1, n =>
  if (decide (n < 10)) = true then
   some (strOfNums [(IntKind.u8.wrap (i64.wrap (48 + (max n 0))))])
  else
   (V.quo n (10 : Int)).bind fun v =>
   (V.rem n (10 : Int)).bind fun v2 =>
   ((pack_decimal nn) (i64.wrap v)).bind fun r =>
   (V.cat r (strOfNums [(IntKind.u8.wrap (i64.wrap (48 + v2)))])).bind fun v3 =>
   some v3
theorem K13 (nn : Nat) : ∀ (n : Int), VS Try.prog 40 (pack_decimal nn n) [Iw n] [] .str N0 := by
 induction nn with
 | zero => intro n; exact VS.none (by rw [pack_decimal])
 | succ nn ih =>
  intro n
  refine A0 [.tmp 2] Try.func40 R R R fun r hm=>?_
  rw [pack_decimal] at hm
  refine Ah tbk [] R R<|Ae<|Ah tbk [] R R<|An hm R (fun h1 hm=>Af<|Ab R R (Aj R)<|Ab R R (VP.max2 R R)<|Ab R R (A9 R R R)<|Ab R R (Cf Bx Bq R)<|Ac R R<|Bb ap40 R R R R R fun b=>Bh (Aw 0 [(9,L5 [(IntKind.u8.wrap (IntKind.i64.wrap ((48 : Int) + (max n (0 : Int)))))])] R ⟨⟨_,R,.here _ R⟩,trivial⟩ (FzH.refl _))<|Ab R R (C5 (l:=[(IntKind.u8.wrap (IntKind.i64.wrap ((48 : Int) + (max n (0 : Int)))))]) el40 Bq Av R)<|Ab R R (Ai R)<|Ad<|Rt1 hm R [] R R R) fun h1 hm=>Ak<|Ae<|Bi 0 mixed<|A8 0 R R R (by kernel_rfl) (Aj R)<|Bd hm fun v h3 hm=>A8 1 R R R (by kernel_rfl) (VP.quoT R R h3)<|A8 3 R R R (by kernel_rfl) (Aj R)<|Bd hm fun v2 h4 hm=>A8 4 R R R (by kernel_rfl) (VP.remT R R h4)<|A8 5 R R R (by kernel_rfl) (A9 R R R)<|A8 6 R R R (by kernel_rfl) (Cf Bx Bq R)<|?_
  refine Bv [2,7] (by kernel_rfl) ⟨?_,?_,trivial⟩
  ·exact Aq R R R<|Am hm 0 R fn40 R (ih _) fun r hm=>Ao 7 (by kernel_rfl)<|Aq R R R<|Bb ap40 R R R R R fun b2=>Cx (Aw 0 [(18,L5 [(IntKind.u8.wrap (IntKind.i64.wrap ((48 : Int) + v2)))])] R ⟨⟨_,R,.here _ R⟩,trivial⟩ (FzH.refl _))<|A8 8 R R R (by kernel_rfl) (C5 (l:=[(IntKind.u8.wrap (IntKind.i64.wrap ((48 : Int) + v2)))]) el40 Bq Av R)<|Bd hm fun v3 h7 hm=>A8 9 R R R (by kernel_rfl) (C7 R R h7)<|A8 10 R R R (by kernel_rfl) (Ai R)<|A1 (by kernel_rfl)<|Rt1 hm R [] R R R
  ·exact Aq R R R<|Bb ap40 R R R R R fun b3=>Cx (Aw 0 [(18,L5 [(IntKind.u8.wrap (IntKind.i64.wrap ((48 : Int) + v2)))])] R ⟨⟨_,R,.here _ R⟩,trivial⟩ (FzH.refl _))<|A8 8 R R R (by kernel_rfl) (C5 (l:=[(IntKind.u8.wrap (IntKind.i64.wrap ((48 : Int) + v2)))]) el40 Bq Av R)<|Ao 2 (by kernel_rfl)<|Aq R R R<|Am hm 0 R fn40 R (ih _) fun r2 hm=>Bd hm fun v4 h10 hm=>A8 9 R R R (by kernel_rfl) (C7 R R h10)<|A8 10 R R R (by kernel_rfl) (Ai R)<|A1 (by kernel_rfl)<|Rt1 hm R [] R R R

/-! trireme/pack.Fresh -/
def pack_Fresh (like : T_api_Machine) (n : Int) : Option T_api_Machine :=
 (V.cat like.Group (⟨#[43]⟩ : ByteArray)).bind fun v =>
 (pack_decimal FU n).bind fun r =>
 (V.cat v r).bind fun v2 =>
 (V.ap 32 ([] : List T_api_Label) like.Labels).bind fun l =>
 (V.ap 40 ([] : List T_api_Taint) like.Taints).bind fun l2 =>
 some (⟨v2, like.Group, like.Has, l, l2, like.Ready⟩ : T_api_Machine)
theorem K14 (like : T_api_Machine) (n : Int) : VS Try.prog 24 (pack_Fresh like n) [T_api_Machine.vv like, Iw n] [] (fun r=>T_api_Machine.vv r) N0 := by
 refine A0 [.cell 4 30] Try.func24 R R R fun r hm=>?_
 unfold pack_Fresh at hm
 refine Af<|Ac R R<|Ba R R fun b=>Ac R R<|Au z30 fun b2=>Ad<|Af<|Aa tbk [1] 1 R R<|Ac R R<|Au z30 fun b3=>Ac R R<|Al (i:=0) R R R ld30 R R R<|Ad<|Ae<|Bi 1 mixed<|Az tbk [0,1] [1] (by kernel_rfl) R R R<|Bd hm fun v h4 hm=>A8 2 R R R (by kernel_rfl) (C7 R R h4)<|A8 3 R R R (by kernel_rfl) (Aj R)<|Ao 4 (by kernel_rfl)<|Aq R R R<|Am hm 0 R fn40 R (K13 FU _) fun r hm=>Bd hm fun v2 h6 hm=>A8 5 R R R (by kernel_rfl) (C7 R R h6)<|A8 6 R R R (by kernel_rfl) (C1 R fa30_0)<|Ao 7 (by kernel_rfl)<|Aq R R R<|Al (i:=0) R R R ld9 R R R<|A1 (by kernel_rfl)<|Af<|Aa tbk [0] 2 R R<|Bh (A6 92)<|Bd hm fun l h8 hm=>Ac R R<|B6 0 T_api_Label.vv (l:=([] : List T_api_Label)) (l2:=like.Labels) ap27 R R (sT_list T_api_Label.vv el27 R R) h8 fun ob cap=>Ab R R (C1 R fa30_3)<|Ac R R<|Al (i:=1) R R R ld27 R R R<|Ad<|Af<|Aa tbk [1] 2 R R<|Bh (A6 96)<|Bd hm fun l2 h10 hm=>Ac R R<|B6 0 T_api_Taint.vv (l:=([] : List T_api_Taint)) (l2:=like.Taints) ap28 R R (sT_list T_api_Taint.vv el28 R R) h10 fun ob2 cap2=>Ab R R (C1 R fa30_4)<|Ac R R<|Al (i:=2) R R R ld28 R R R<|Ad<|Af<|Aa tbk [2] 1 R R<|Ac R R<|Al (i:=3) R R R ld30 R R R<|Ad<|B3 (Aw (H':=[Q96 ob2 cap2 l2,.box b3 30 [.str v2,.str like.Group,Iw like.Has.Cpu,Iw like.Has.Mem,Iw like.Has.Disk,Iw like.Has.Pods,Iw like.Has.Dev,L92 l,Z96 ob2 l2 cap2,.bool like.Ready],.box b2 30 [.str v2,.str like.Group,Iw like.Has.Cpu,Iw like.Has.Mem,Iw like.Has.Disk,Iw like.Has.Pods,Iw like.Has.Dev,L92 l,Z96 ob2 l2 cap2,.bool like.Ready],X30 b like]) 1 [(16,L92 l),(22,.agg [.str v2,.str like.Group,Iw like.Has.Cpu,Iw like.Has.Mem,Iw like.Has.Disk,Iw like.Has.Pods,Iw like.Has.Dev,L92 l,Z96 ob2 l2 cap2,.bool like.Ready])] R ⟨⟨_,R,.here _ R⟩,⟨_,R,.aggL ⟨.same _,.same _,.same _,.same _,.same _,.same _,.same _,.here _ R,.same _,.same _,trivial⟩⟩,trivial⟩ ⟨.same _,.box _ _ _ _ ⟨.same _,.same _,.same _,.same _,.same _,.same _,.same _,.here _ R,.same _,.same _,trivial⟩,.box _ _ _ _ ⟨.same _,.same _,.same _,.same _,.same _,.same _,.same _,.here _ R,.same _,.same _,trivial⟩,.same _,trivial⟩)<|B3 (Aw (H':=[X30 b3 (⟨v2,like.Group,like.Has,l,l2,like.Ready⟩ : T_api_Machine),X30 b2 (⟨v2,like.Group,like.Has,l,l2,like.Ready⟩ : T_api_Machine),X30 b like]) 0 [(20,L96 l2),(22,T_api_Machine.vv (⟨v2,like.Group,like.Has,l,l2,like.Ready⟩ : T_api_Machine))] R ⟨⟨_,R,.here _ R⟩,⟨_,R,.aggL ⟨.same _,.same _,.same _,.same _,.same _,.same _,.same _,.same _,.here _ R,.same _,trivial⟩⟩,trivial⟩ ⟨.box _ _ _ _ ⟨.same _,.same _,.same _,.same _,.same _,.same _,.same _,.same _,.here _ R,.same _,trivial⟩,.box _ _ _ _ ⟨.same _,.same _,.same _,.same _,.same _,.same _,.same _,.same _,.here _ R,.same _,trivial⟩,.same _,trivial⟩)<|?_
 exact Rt0 hm R [] (.cons (.cell _ _ _ _ 1 _ _ _ _ R R ld30 R) .nil) R R

/-! (*trireme/pack.packer).place -/
def pack_packer_place.l1 (x : T_pack_packer) (p : T_api_Pod) : Nat → Int → Option (Out (ByteArray × T_pack_packer) Unit)
 | 0, _ => none
 | n + 1, v2 =>
  if (decide (v2 < (x.names.length : Int))) = true then
   (V.gl x.names v2).bind fun x2 =>
   (fit_Why x.ms x.bs p x2).bind fun r =>
   if (r == 0) = true then
    some (Out.ret (x2, x))
   else
    pack_packer_place.l1 x p n (i64.wrap (v2 + 1))
  else
   some (Out.go ())
def pack_packer_place (x : T_pack_packer) (p : T_api_Pod) : Option (ByteArray × T_pack_packer) :=
 (pack_packer_place.l1 x p FU (0 : Int)).bind fun o =>
 o.on fun j =>
 if (decide ((x.names.length : Int) ≥ x.limit)) = true then
  some ((⟨#[]⟩ : ByteArray), x)
 else
  ((pack_Fresh x.like (i64.wrap ((x.names.length : Int) + 1))).bind fun r2 =>
  some r2).bind fun m2 =>
  (V.sl x.ms none (some (x.ms.length : Int))).bind fun v3 =>
  (V.ap 128 v3 [m2]).bind fun l2 =>
  (fit_Why l2 x.bs p m2.Name).bind fun r4 =>
  if (r4 != 0) = true then
   some ((⟨#[]⟩ : ByteArray), x)
  else
   (V.ap 16 x.names [m2.Name]).bind fun l3 =>
   some (m2.Name, (⟨l2, x.bs, x.like, l3, x.limit⟩ : T_pack_packer))
theorem K15 (x : T_pack_packer) (p : T_api_Pod) (b : Nat) (ob : Option Nat) (cap : Nat) : VS2 Try.prog 25 (pack_packer_place x p) [.ptr b 0, T_api_Pod.vv p] [.box b 68 [L30 x.ms, L50 x.bs, .str x.like.Name, .str x.like.Group, Iw x.like.Has.Cpu, Iw x.like.Has.Mem, Iw x.like.Has.Disk, Iw x.like.Has.Pods, Iw x.like.Has.Dev, L92 x.like.Labels, L96 x.like.Taints, .bool x.like.Ready, Z9 ob x.names cap, Iw x.limit], Q9 ob cap x.names] (fun r ob0_12 cap0_12=>.str r.1) (fun r ob0_12 cap0_12=>[.box b 68 [L30 r.2.ms, L50 r.2.bs, .str r.2.like.Name, .str r.2.like.Group, Iw r.2.like.Has.Cpu, Iw r.2.like.Has.Mem, Iw r.2.like.Has.Disk, Iw r.2.like.Has.Pods, Iw r.2.like.Has.Dev, L92 r.2.like.Labels, L96 r.2.like.Taints, .bool r.2.like.Ready, Z9 ob0_12 r.2.names cap0_12, Iw r.2.limit], Q9 ob0_12 cap0_12 r.2.names]) := by
 refine Cj [.tmp 4] Try.func25 R R R fun r hm=>?_
 unfold pack_packer_place at hm
 refine Af<|Ac R R<|Ba R R fun b2=>Ab R R (Ai R)<|Ad<|Ae<|Af<|Aa tbk [1] 4 R R<|Ab R R (Cl VV.str R Bp)<|Ab R R (Aj R)<|Ad<|Bo hm (fun _ (gg:Option Nat)=>[(0,.ptr b 0),(3,.ptr b2 0)]) (fun _ (gg:Option Nat)=>[X39 b2 p,.box b 68 [L30 x.ms,L50 x.bs,.str x.like.Name,.str x.like.Group,Iw x.like.Has.Cpu,Iw x.like.Has.Mem,Iw x.like.Has.Disk,Iw x.like.Has.Pods,Iw x.like.Has.Dev,L92 x.like.Labels,L96 x.like.Taints,.bool x.like.Ready,Z9 gg x.names cap,Iw x.limit],Q9 gg cap x.names]) (fun o hm h3=>?_) fun j ob4 hm=> ?_
 ·refine Br (fun zn (zs:Int)=>pack_packer_place.l1 x p zn zs) (fun zs (zg:Option Nat)=>[(0,.ptr b 0),(3,.ptr b2 0),(12,Z9 zg x.names cap),(13,Iw (x.names.length : Int)),(14,Iw zs)]) (fun _ (zg:Option Nat)=>[X39 b2 p,.box b 68 [L30 x.ms,L50 x.bs,.str x.like.Name,.str x.like.Group,Iw x.like.Has.Cpu,Iw x.like.Has.Mem,Iw x.like.Has.Disk,Iw x.like.Has.Pods,Iw x.like.Has.Dev,L92 x.like.Labels,L96 x.like.Taints,.bool x.like.Ready,Z9 zg x.names cap,Iw x.limit],Q9 zg cap x.names]) _ _ (fun _=>R) hm (Ag [0,0,0] R R) fun n v2 ob3 hm=> ?_
  rw [pack_packer_place.l1] at hm
  refine Ah tbk [] R R<|Ae<|An hm R (fun h4 hm=>?_) fun h4 hm=> ?_
  ·refine Ak<|Ae<|Ay<|Af<|Bd hm fun x2 h5 hm=>Cu 2 R (gl_pos VV.str h5) fun b3 h6=> ?_
   subst h6
   exact Ab R R (C0 VV.str R R el66 h5)<|Ab R R (Cw (i:=2) (y:=VV.str x2) R R R (gl_map _ (gl_some h5).2) ld9 R)<|Ab R R (Ai R)<|Ad<|Ae<|Bi 0 mixed<|Az tbk [0,1,2,3,4,5,6,7,8,9] [1,1,0] (by kernel_rfl) R R R<|Ao 10 (by kernel_rfl)<|Aq R R R<|Am hm 0 R fn41 R (K12 _ _ _ _) fun r hm=>A8 11 R R R (by kernel_rfl) (A9 R R R)<|A1 (by kernel_rfl)<|An hm R (fun h8 hm=>Ah tbk [] R R<|have hm:=Lr hm h3;Rg2 hm R [1,1] (some b3) cap (.cons (.tmp _ _ R) .nil) R R) fun h8 hm=>Ak<|A7 tbk [] R R<|Ap _ _ hm (Ag [0,0,0] R R)
  exact A3<|Ar _ hm (Ag [0,0,0] R R)
 refine Ae<|Ae<|Bi 0 mixed<|Az tbk [0,1,2,3] [1] (by kernel_rfl) R R R<|A8 4 R R R (by kernel_rfl) (Cl VV.str R Bp)<|Az tbk [5,6,7,8,9] [1] (by kernel_rfl) R R R<|A1 (by kernel_rfl)<|An hm R (fun h9 hm=>Ah tbk [] R R<|Rg2 hm R [1,1] ob4 cap (.cons (.tmp _ _ R) .nil) R R) fun h9 hm=>Ak<|Cv hm (fun _ (gg:Nat)=>[(0,.ptr b 0),(3,.ptr b2 0),(7,.ptr gg 0)]) (fun m2 (gg:Nat)=>[X30 gg m2,X39 b2 p,.box b 68 [L30 x.ms,L50 x.bs,.str x.like.Name,.str x.like.Group,Iw x.like.Has.Cpu,Iw x.like.Has.Mem,Iw x.like.Has.Disk,Iw x.like.Has.Pods,Iw x.like.Has.Dev,L92 x.like.Labels,L96 x.like.Taints,.bool x.like.Ready,Z9 ob4 x.names cap,Iw x.limit],Q9 ob4 cap x.names]) (fun o2 hm=>?_) fun m2 b4 hm=> ?_
 ·refine Bi 0 mixed<|Az tbk [0,1,2,3,4,5,6,7] [1,1] (by kernel_rfl) R R R<|A8 8 R R R (by kernel_rfl) (Cl VV.str R Bp)<|A8 9 R R R (by kernel_rfl) (A9 R R R)<|?_
  refine Bv [10,11] (by kernel_rfl) ⟨?_,?_,trivial⟩
  ·exact Aq R R R<|Am hm 0 R fn24 R (K14 _ _) fun r2 hm=>Ao 11 (by kernel_rfl)<|Aq R R R<|Au z30 fun b5=>Ao 12 (by kernel_rfl)<|Aq R R R<|Al (i:=0) R R R ld30 R R R<|A1 (by kernel_rfl)<|As _ hm (Ag [0,0,0,0] R R)
  ·exact Aq R R R<|Au z30 fun b6=>Ao 10 (by kernel_rfl)<|Aq R R R<|Am hm 0 R fn24 R (K14 _ _) fun r3 hm=>Ao 12 (by kernel_rfl)<|Aq R R R<|Al (i:=0) R R R ld30 R R R<|A1 (by kernel_rfl)<|As _ hm (Ag [0,0,0,0] R R)
 refine Ae<|Bi 0 mixed<|Az tbk [0,1,2,3,4,5,6,7] [2,2] (by kernel_rfl) R R R<|A8 8 R R R (by kernel_rfl) (Ax T_api_Machine.vv R Bu)<|Az tbk [9,10,11,12] [2] (by kernel_rfl) R R R<|A8 13 R R R (by kernel_rfl) (Ax T_api_Machine.vv R Bu)<|Bd hm fun v3 h17 hm=>A8 14 R R R (by kernel_rfl) (VP.slice3 (f:=T_api_Machine.vv) el22 R R R R R h17)<|Az tbk [15] [0] (by kernel_rfl) R R R<|Ao 16 (by kernel_rfl)<|Aq R R R<|Bb ap22 R R R R R fun b7=>Ao 17 (by kernel_rfl)<|Bd hm fun l2 h19 hm=>Aq R R R<|VO.appFl (f:=T_api_Machine.vv) (l2:=[m2]) ap22 R (sT_row 0 T_api_Machine.vv el22 R R) h19<|A8 18 R R R (by kernel_rfl) (Ai R)<|A1 (by kernel_rfl)<|Ae<|Ae<|Bi 0 mixed<|Az tbk [0,1,2,3,4,5,6,7] [3,2,1] (by kernel_rfl) R R R<|Ao 8 (by kernel_rfl)<|Aq R R R<|Am hm 0 R fn41 R (K12 _ _ _ _) fun r4 hm=>A8 9 R R R (by kernel_rfl) (A9 R R R)<|A1 (by kernel_rfl)<|An hm R (fun h21 hm=>Ah tbk [] R R<|Rg2 hm R [3,3] ob4 cap (.cons (.tmp _ _ R) .nil) R R) fun h21 hm=>Ak<|Af<|Aa tbk [] 4 R R<|Ac R R<|Al (i:=3) R R R ld22 R R R<|Ad<|Ae<|B3 (B4 [3,3,0,0,0] R)<|Bi 2 mixed<|Az tbk [0,1,2,3,5,6] [1] (by kernel_rfl) R R R<|?_
 refine Bv [4,7] (by kernel_rfl) ⟨?_,?_,trivial⟩
 ·exact Aq R R R<|VP.vo (VP.loadP (i:=0) R R ld66 R)<|Ao 7 (by kernel_rfl)<|Aq R R R<|Bb ap66 R R R R R fun b8=>Ao 8 (by kernel_rfl)<|Bd hm fun l3 h23 hm=>Aq R R R<|B6 2 VV.str (l:=x.names) (l2:=[m2.Name]) ap66 R R (sT_row 0 VV.str el66 R R) h23 fun ob5 cap2=>Az tbk [9,10] [] (by kernel_rfl) R R R<|Ao 11 (by kernel_rfl)<|Aq R R R<|Al (i:=1) R R R ld66 R R R<|A1 (by kernel_rfl)<|Ah tbk [4] R R<|Rg2 hm R [1,1] ob5 cap2 (.cons (.tmp _ _ R) .nil) R R
 ·exact Aq R R R<|Bb ap66 R R R R R fun b9=>Ao 4 (by kernel_rfl)<|Aq R R R<|VP.vo (VP.loadP (i:=1) R R ld66 R)<|Ao 8 (by kernel_rfl)<|Bd hm fun l4 h25 hm=>Aq R R R<|B6 2 VV.str (l:=x.names) (l2:=[m2.Name]) ap66 R R (sT_row 0 VV.str el66 R R) h25 fun ob6 cap3=>Az tbk [9,10] [] (by kernel_rfl) R R R<|Ao 11 (by kernel_rfl)<|Aq R R R<|Al (i:=1) R R R ld66 R R R<|A1 (by kernel_rfl)<|Ah tbk [4] R R<|Rg2 hm R [1,1] ob6 cap3 (.cons (.tmp _ _ R) .nil) R R

/-! trireme/fit.Put -/
def fit_Put.l1 (p : T_api_Pod) : List T_api_Bound → Nat → (List T_api_Bound) → Option (List T_api_Bound)
 | [], k, l2 => some l2
 | x :: l4, k, l2 =>
  if (!(V.seq x.Pod.Name p.Name)) = true then
   (V.ap 288 l2 [x]).bind fun l5 =>
   fit_Put.l1 p l4 (k + 1) l5
  else
   fit_Put.l1 p l4 (k + 1) l2
def fit_Put (bs : List T_api_Bound) (p : T_api_Pod) (on_ : ByteArray) : Option (List T_api_Bound) :=
 (fit_Put.l1 p bs 0 ([] : List T_api_Bound)).bind fun l32 =>
 (V.ap 288 l32 [(⟨p, on_⟩ : T_api_Bound)]).bind fun l6 =>
 some l6
theorem K16 (bs : List T_api_Bound) (p : T_api_Pod) (on_ : ByteArray) : VS2 Try.prog 26 (fit_Put bs p on_) [L50 bs, T_api_Pod.vv p, .str on_] [] (fun r ob0 cap0=>Z50 ob0 r cap0) (fun r ob0 cap0=>[Q50 ob0 cap0 r]) := by
 refine Cj [.tmp 6] Try.func26 R R R fun r hm=>?_
 unfold fit_Put at hm
 refine Af<|Ac R R<|Ba R R fun b=>Ab R R (Ai R)<|Ad<|Ah tbk [] R R<|Ae<|Af<|Ab R R (Aj R)<|Ab R R (Ax T_api_Bound.vv R Bn)<|Ab R R (Aj R)<|Ad<|B5 10 R fun h6=>B9 hm (fun l32 (gg:Option Nat × Nat)=>[(2,.str on_),(4,.ptr b 0),(7,Z50 gg.1 l32 gg.2)]) (fun l32 (gg:Option Nat × Nat)=>[Q50 gg.1 gg.2 l32,X39 b p]) (fun o hm=>?_) fun l32=>Pq fun ob3 cap3 hm=> ?_
 ·refine Cd (bs) (fun zl zk (zs:List T_api_Bound)=>fit_Put.l1 p zl zk zs) (fun k zs (zg:Option Nat × Nat)=>[(2,.str on_),(4,.ptr b 0),(7,Z50 zg.1 zs zg.2),(10,L50 bs),(11,Iw (bs.length : Int)),(12,Iw (k : Int))]) (fun _ zs (zg:Option Nat × Nat)=>[Q50 zg.1 zg.2 zs,X39 b p]) _ (none,0) hm (A4 (A6 50) (Ag [0,0] R R)) (fun k l2=>Pq fun ob2 cap2 hk hm=>?_) fun k x l4 l2=>Pq fun ob2 cap2 h7 hm=> ?_
  ·rw [fit_Put.l1] at hm
   exact Ah tbk [] R R<|Ae<|B2 R (k_end hk)<|A3<|As (ob2,cap2) hm (Ag [0,0] R R)
  rw [fit_Put.l1] at hm
  exact Ah tbk [] R R<|Ae<|Bz R (k_lt h7)<|Ak<|Ae<|Ay<|Af<|Ab R R (B8 T_api_Bound.vv R R el23 h7)<|Ab R R (Bl R ld50 R)<|Ac R R<|Au z50 fun b2=>Ac R R<|Al (i:=0) R R R ld50 R R R<|Ad<|Ah tbk [0,2] R R<|An hm R (fun h9 hm=>Bt<|Aa tbk [0] 2 R R<|Ac R R<|Bb ap23 R R R R R fun b3=>Bd hm fun l5 h11 hm=>Ac R R<|B6 2 T_api_Bound.vv (l:=l2) (l2:=[x]) ap23 R R (sT_row 0 T_api_Bound.vv el23 R R) h11 fun ob4 cap4=>Ab R R (Ai R)<|Ad<|A7 tbk [] R R<|Ap _ (ob4,cap4) hm (Bg [2,2] R ⟨R,R,R,R,R,congrArg some (k_next h7 h6),trivial⟩)) fun h9 hm=>Ak<|A7 tbk [] R R<|Ap _ (ob2,cap2) hm (Bg [1,1] R ⟨R,R,R,R,R,congrArg some (k_next h7 h6),trivial⟩)
 exact Af<|Aa tbk [1] 3 R R<|Ab R R (Be pl50 R R)<|Ac R R<|Bb ap23 R R R R R fun b4=>Bd hm fun l6 h14 hm=>Ac R R<|B6 1 T_api_Bound.vv (l:=l32) (l2:=[(⟨p,on_⟩ : T_api_Bound)]) ap23 R R (sT_row 0 T_api_Bound.vv el23 R R) h14 fun ob5 cap5=>Ab R R (Ai R)<|Ad<|Rg2 hm R [1] ob5 cap5 (.cons (.tmp _ _ R) .nil) R R

/-! trireme/pack.Estimate -/
def pack_Estimate.l1 (l : List T_api_Pod) : List Int → Nat → T_pack_packer → (List T_api_Move) → Option (T_pack_packer × List T_api_Move)
 | [], k, x2, moves2 => some (x2, moves2)
 | x4 :: l2, k, x2, moves2 =>
  (V.gl l x4).bind fun x5 =>
  (pack_packer_place x2 x5).bind fun r2 =>
  if (!(V.seq r2.1 (⟨#[]⟩ : ByteArray))) = true then
   (fit_Put r2.2.bs x5 r2.1).bind fun r3 =>
   (V.ap 32 moves2 [(⟨x5.Name, r2.1⟩ : T_api_Move)]).bind fun moves4 =>
   pack_Estimate.l1 l l2 (k + 1) (⟨r2.2.ms, r3, r2.2.like, r2.2.names, r2.2.limit⟩ : T_pack_packer) moves4
  else
   pack_Estimate.l1 l l2 (k + 1) r2.2 moves2
def pack_Estimate (ms : List T_api_Machine) (bs : List T_api_Bound) (l : List T_api_Pod) (like : T_api_Machine) (limit : Int) : Option (List T_api_Move × Int) :=
 (pack_Order l like).bind fun r =>
 (pack_Estimate.l1 l r 0 (⟨ms, bs, like, ([] : List ByteArray), limit⟩ : T_pack_packer) ([] : List T_api_Move)).bind fun j =>
 some (j.2, (j.1.names.length : Int))
theorem K17 (ms : List T_api_Machine) (bs : List T_api_Bound) (l : List T_api_Pod) (like : T_api_Machine) (limit : Int) : VS2 Try.prog 7 (pack_Estimate ms bs l like limit) [L30 ms, L50 bs, L39 l, T_api_Machine.vv like, Iw limit] [] (fun r ob0 cap0=>.tup [Z53 ob0 r.1 cap0, Iw r.2]) (fun r ob0 cap0=>[Q53 ob0 cap0 r.1]) := by
 refine Cj [.tmp 10,.tmp 11] Try.func7 R R R fun r hm=>?_
 unfold pack_Estimate at hm
 refine Af<|Ac R R<|Ba R R fun b=>Aa tbk [] 2 R R<|Ad<|Af<|Aa tbk [0] 4 R R<|Ab R R (Be pl68 R R)<|Ac R R<|Ba R R fun b2=>Ab R R (Ai R)<|Ad<|Ah tbk [] R R<|Ae<|Af<|Aa tbk [1] 2 R R<|Ac R R<|Ck hm 0 R fn23 R (K75 _ _) fun r ob cap hm=>Bh (Aw 0 [(26,L3 r)] R ⟨⟨_,R,.here _ R⟩,trivial⟩ (FzH.refl _))<|Ab R R (Ax (VV.int .i64) R Bm)<|Ab R R (Aj R)<|Ad<|B5 26 R fun h11=>B9 hm (fun j (gg:Option Nat × Nat × Option Nat × Nat)=>[(12,.ptr b2 0),(13,Z53 gg.2.2.1 j.2 gg.2.2.2)]) (fun j (gg:Option Nat × Nat × Option Nat × Nat)=>[Q9 gg.1 gg.2.1 j.1.names,Q53 gg.2.2.1 gg.2.2.2 j.2,.box b2 68 [L30 j.1.ms,L50 j.1.bs,.str j.1.like.Name,.str j.1.like.Group,Iw j.1.like.Has.Cpu,Iw j.1.like.Has.Mem,Iw j.1.like.Has.Disk,Iw j.1.like.Has.Pods,Iw j.1.like.Has.Dev,L92 j.1.like.Labels,L96 j.1.like.Taints,.bool j.1.like.Ready,Z9 gg.1 j.1.names gg.2.1,Iw j.1.limit]]) (fun o hm=>?_) fun j=>Pq fun ob6=>Pq fun cap6=>Pq fun ob7 cap7 hm=> ?_
 ·refine Cd (r) (fun zl zk (zs:T_pack_packer × List T_api_Move)=>pack_Estimate.l1 l zl zk zs.1 zs.2) (fun k zs (zg:Option Nat × Nat × Option Nat × Nat)=>[(2,L39 l),(12,.ptr b2 0),(13,Z53 zg.2.2.1 zs.2 zg.2.2.2),(26,L3 r),(27,Iw (r.length : Int)),(28,Iw (k : Int))]) (fun _ zs (zg:Option Nat × Nat × Option Nat × Nat)=>[Q9 zg.1 zg.2.1 zs.1.names,Q53 zg.2.2.1 zg.2.2.2 zs.2,.box b2 68 [L30 zs.1.ms,L50 zs.1.bs,.str zs.1.like.Name,.str zs.1.like.Group,Iw zs.1.like.Has.Cpu,Iw zs.1.like.Has.Mem,Iw zs.1.like.Has.Disk,Iw zs.1.like.Has.Pods,Iw zs.1.like.Has.Dev,L92 zs.1.like.Labels,L96 zs.1.like.Taints,.bool zs.1.like.Ready,Z9 zg.1 zs.1.names zg.2.1,Iw zs.1.limit]]) ((⟨ms,bs,like,([] : List ByteArray),limit⟩ : T_pack_packer),([] : List T_api_Move)) (none,0,none,0) hm (A4 (A6 53) (A4 (A6 9) (Ag [0,0,0] R R))) (fun k=>Pq fun x2 moves2=>Pq fun ob4=>Pq fun cap4=>Pq fun ob5 cap5 hk hm=>?_) fun k x4 l2=>Pq fun x2 moves2=>Pq fun ob4=>Pq fun cap4=>Pq fun ob5 cap5 h12 hm=> ?_
  ·rw [pack_Estimate.l1] at hm
   exact Ah tbk [] R R<|Ae<|B2 R (k_end hk)<|A3<|As (ob4,cap4,ob5,cap5) hm (Ag [0,0,0] R R)
  rw [pack_Estimate.l1] at hm
  exact Ah tbk [] R R<|Ae<|Bz R (k_lt h12)<|Ak<|Ae<|Ay<|Af<|Ab R R (B8 (VV.int .i64) R R el37 h12)<|Aa tbk [] 2 R R<|Ad<|Af<|Aa tbk [] 2 R R<|Bd hm fun x5 h13 hm=>Ab R R (A5 T_api_Pod.vv R R el24 h13)<|Ab R R (Bl R ld39 R)<|Ac R R<|Au z39 fun b3=>Ac R R<|Al (i:=0) R R R ld39 R R R<|Ad<|Af<|Aa tbk [0] 2 R R<|Bh (B4 [3,1,0,0] R)<|Ac R R<|Ck hm 2 R fn25 R (K15 _ _ _ _ _) fun r2 ob8 cap8 hm=>Ab R R (Ai R)<|Ad<|Ah tbk [] R R<|An hm R (fun h16 hm=>Ae<|Bi 1 mixed<|Az tbk [0,1,2,3,5,6] [1] (by kernel_rfl) R R R<|Ao 4 (by kernel_rfl)<|Aq R R R<|VP.vo (VP.loadP (i:=0) R R ld23 R)<|Ao 7 (by kernel_rfl)<|Aq R R R<|Ck hm 0 R fn26 R (K16 _ _ _) fun r3 ob9 cap9 hm=>Cx (Aw 0 [(48,L50 r3)] R ⟨⟨_,R,.here _ R⟩,trivial⟩ (FzH.refl _))<|Az tbk [8,9] [] (by kernel_rfl) R R R<|Ao 10 (by kernel_rfl)<|Aq R R R<|Al (i:=0) R R R ld23 R R R<|A1 (by kernel_rfl)<|Bt<|Aa tbk [2] 4 R R<|Ab R R (Be pl53 R R)<|Ac R R<|Bb ap41 R R R R R fun b4=>Bd hm fun moves4 h20 hm=>Ac R R<|B6 4 T_api_Move.vv (l:=moves2) (l2:=[(⟨x5.Name,r2.1⟩ : T_api_Move)]) ap41 R R (sT_row 0 T_api_Move.vv el41 R R) h20 fun ob10 cap10=>Ab R R (Ai R)<|Ad<|A7 tbk [] R R<|Ap ((⟨r2.2.ms,r3,r2.2.like,r2.2.names,r2.2.limit⟩ : T_pack_packer),moves4) (ob8,cap8,ob10,cap10) hm (Bg [2,3,1] R ⟨R,R,R,R,R,congrArg some (k_next h12 h11),trivial⟩)) fun h16 hm=>Ak<|A7 tbk [] R R<|Ap (r2.2,moves2) (ob8,cap8,ob5,cap5) hm (Bg [1,2,0] R ⟨R,R,R,R,R,congrArg some (k_next h12 h11),trivial⟩)
 exact Ae<|Bi 0 mixed<|Az tbk [0,1,2,3,4] [2] (by kernel_rfl) R R R<|A8 5 R R R (by kernel_rfl) (Cl VV.str R Bp)<|Az tbk [6,7] [] (by kernel_rfl) R R R<|A1 (by kernel_rfl)<|Rg2 hm R [1] ob7 cap7 (.cons (.tmp _ _ R) (.cons (.tmp _ _ R) .nil)) R R

/-! trireme/triremeref14.Moves -/
def ref14_Moves.l1 (a : List T_api_Move) (b : List T_api_Move) : Nat → Int → Option (Out Bool Unit)
 | 0, _ => none
 | n + 1, i2 =>
  if (decide (i2 < (a.length : Int))) = true then
   (V.gl a i2).bind fun x =>
   (V.gl b i2).bind fun x2 =>
   if (!(((x.Pod == x2.Pod) && ((x.To == x2.To) && true)) == true)) = true then
    some (Out.ret false)
   else
    ref14_Moves.l1 a b n (i64.wrap (i2 + 1))
  else
   some (Out.go ())
def ref14_Moves (a : List T_api_Move) (b : List T_api_Move) : Option Bool :=
 if ((a.length : Int) != (b.length : Int)) = true then
  some false
 else
  (ref14_Moves.l1 a b FU (0 : Int)).bind fun o =>
  o.on fun j =>
  some true
theorem K18 (a : List T_api_Move) (b : List T_api_Move) : VS Try.prog 21 (ref14_Moves a b) [L53 a, L53 b] [] .bool N0 := by
 refine A0 [.tmp 4] Try.func21 R R R fun r hm=>?_
 unfold ref14_Moves at hm
 refine Ah tbk [] R R<|Ae<|Af<|Ab R R (Aj R)<|Ab R R (Ax T_api_Move.vv R B7)<|Ab R R (Aj R)<|Ab R R (Ax T_api_Move.vv R B7)<|Ab R R (A9 R R R)<|Ad<|An hm R (fun h1 hm=>Ah tbk [] R R<|Rt1 hm R [] R R R) fun h1 hm=>Ak<|Ae<|Ah tbk [] R R<|Bo hm (fun _ (_:Unit)=>[]) (fun _ (_:Unit)=>[]) (fun o hm h3=>?_) fun j _ hm=> ?_
 ·refine Br (fun zn (zs:Int)=>ref14_Moves.l1 a b zn zs) (fun zs (_:Unit)=>[(0,L53 a),(1,L53 b),(5,Iw zs)]) (fun _ (_:Unit)=>[]) _ () (fun _=>R) hm (Ag [] R R) fun n i2 _ hm=> ?_
  rw [ref14_Moves.l1] at hm
  exact Ae<|Af<|Aa tbk [] 2 R R<|Ab R R (Ax T_api_Move.vv R B7)<|Ab R R (A9 R R R)<|Ad<|An hm R (fun h4 hm=>Ak<|Ae<|Ay<|Ae<|Bi 0 mixed<|Az tbk [0,1] [] (by kernel_rfl) R R R<|Bd hm fun x h5 hm=>A8 2 R R R (by kernel_rfl) (A5 T_api_Move.vv R R el41 h5)<|Az tbk [3,4,5] [] (by kernel_rfl) R R R<|Bd hm fun x2 h6 hm=>A8 6 R R R (by kernel_rfl) (A5 T_api_Move.vv R R el41 h6)<|A8 7 R R R (by kernel_rfl) (Bl R ld53 R)<|A8 8 R R R (by kernel_rfl) (VP.eqS shp53 eq53 R R R R)<|A1 (by kernel_rfl)<|An hm R (fun h7 hm=>Ah tbk [] R R<|have hm:=Lr hm h3;Rt1 hm R [] R R R) fun h7 hm=>Ak<|A7 tbk [] R R<|Ap _ () hm (Ag [] R R)) fun h4 hm=>A3<|Ar () hm (Ag [] R R)
 exact Ah tbk [] R R<|Rt1 hm R [] R R R

/-! trireme/triremeref02.Ints -/
def ref02_Ints.l1 (a : List Int) (b : List Int) : Nat → Int → Option (Out Bool Unit)
 | 0, _ => none
 | n + 1, i2 =>
  if (decide (i2 < (a.length : Int))) = true then
   (V.gl a i2).bind fun x =>
   (V.gl b i2).bind fun x2 =>
   if (x != x2) = true then
    some (Out.ret false)
   else
    ref02_Ints.l1 a b n (i64.wrap (i2 + 1))
  else
   some (Out.go ())
def ref02_Ints (a : List Int) (b : List Int) : Option Bool :=
 if ((a.length : Int) != (b.length : Int)) = true then
  some false
 else
  (ref02_Ints.l1 a b FU (0 : Int)).bind fun o =>
  o.on fun j =>
  some true
theorem K19 (a : List Int) (b : List Int) : VS Try.prog 22 (ref02_Ints a b) [L3 a, L3 b] [] .bool N0 := by
 refine A0 [.tmp 4] Try.func22 R R R fun r hm=>?_
 unfold ref02_Ints at hm
 refine Ah tbk [] R R<|Ae<|Af<|Ab R R (Aj R)<|Ab R R (Ax (VV.int .i64) R Bm)<|Ab R R (Aj R)<|Ab R R (Ax (VV.int .i64) R Bm)<|Ab R R (A9 R R R)<|Ad<|An hm R (fun h1 hm=>Ah tbk [] R R<|Rt1 hm R [] R R R) fun h1 hm=>Ak<|Ae<|Ah tbk [] R R<|Bo hm (fun _ (_:Unit)=>[]) (fun _ (_:Unit)=>[]) (fun o hm h3=>?_) fun j _ hm=> ?_
 ·refine Br (fun zn (zs:Int)=>ref02_Ints.l1 a b zn zs) (fun zs (_:Unit)=>[(0,L3 a),(1,L3 b),(5,Iw zs)]) (fun _ (_:Unit)=>[]) _ () (fun _=>R) hm (Ag [] R R) fun n i2 _ hm=> ?_
  rw [ref02_Ints.l1] at hm
  exact Ae<|Af<|Aa tbk [] 2 R R<|Ab R R (Ax (VV.int .i64) R Bm)<|Ab R R (A9 R R R)<|Ad<|An hm R (fun h4 hm=>Ak<|Ae<|Ay<|Ae<|Bi 0 mixed<|Az tbk [0,1] [] (by kernel_rfl) R R R<|Bd hm fun x h5 hm=>A8 2 R R R (by kernel_rfl) (A5 (VV.int .i64) R R el37 h5)<|Az tbk [3,4,5] [] (by kernel_rfl) R R R<|Bd hm fun x2 h6 hm=>A8 6 R R R (by kernel_rfl) (A5 (VV.int .i64) R R el37 h6)<|Az tbk [7,8] [] (by kernel_rfl) R R R<|A1 (by kernel_rfl)<|An hm R (fun h7 hm=>Ah tbk [] R R<|have hm:=Lr hm h3;Rt1 hm R [] R R R) fun h7 hm=>Ak<|A7 tbk [] R R<|Ap _ () hm (Ag [] R R)) fun h4 hm=>A3<|Ar () hm (Ag [] R R)
 exact Ah tbk [] R R<|Rt1 hm R [] R R R

/-! trireme/triremelaw19.known -/
def law19_known : Option Bool :=
 (law19_one (⟨#[97]⟩ : ByteArray) (400 : Int)).bind fun r =>
 (law19_one (⟨#[98]⟩ : ByteArray) (600 : Int)).bind fun r2 =>
 (law19_one (⟨#[99]⟩ : ByteArray) (600 : Int)).bind fun r3 =>
 (law19_one (⟨#[100]⟩ : ByteArray) (600 : Int)).bind fun r4 =>
 (law19_one (⟨#[101]⟩ : ByteArray) (1001 : Int)).bind fun r5 =>
 (pack_Estimate ([] : List T_api_Machine) ([] : List T_api_Bound) [r, r2, r3, r4, r5] (⟨(⟨#[]⟩ : ByteArray), (⟨#[103]⟩ : ByteArray), (⟨1000, 0, 0, 5, 0⟩ : T_api_Res), ([] : List T_api_Label), ([] : List T_api_Taint), true⟩ : T_api_Machine) (5 : Int)).bind fun r6 =>
 (pack_Estimate ([] : List T_api_Machine) ([] : List T_api_Bound) [r, r2, r3, r4, r5] (⟨(⟨#[]⟩ : ByteArray), (⟨#[103]⟩ : ByteArray), (⟨1000, 0, 0, 5, 0⟩ : T_api_Res), ([] : List T_api_Label), ([] : List T_api_Taint), true⟩ : T_api_Machine) (1 : Int)).bind fun r7 =>
 (if (r6.2 == 3) = true then (ref14_Moves r6.1 [(⟨(⟨#[98]⟩ : ByteArray), (⟨#[103, 43, 49]⟩ : ByteArray)⟩ : T_api_Move), (⟨(⟨#[99]⟩ : ByteArray), (⟨#[103, 43, 50]⟩ : ByteArray)⟩ : T_api_Move), (⟨(⟨#[100]⟩ : ByteArray), (⟨#[103, 43, 51]⟩ : ByteArray)⟩ : T_api_Move), (⟨(⟨#[97]⟩ : ByteArray), (⟨#[103, 43, 49]⟩ : ByteArray)⟩ : T_api_Move)]).bind fun r8 =>
 some r8 else some false).bind fun c =>
 (if ((c && (r7.2 == 1)) && ((r7.1.length : Int) == 2)) = true then (pack_Order [r, r2, r3, r4, r5] (⟨(⟨#[]⟩ : ByteArray), (⟨#[103]⟩ : ByteArray), (⟨1000, 0, 0, 5, 0⟩ : T_api_Res), ([] : List T_api_Label), ([] : List T_api_Taint), true⟩ : T_api_Machine)).bind fun r9 =>
 (ref02_Ints r9 [4, 1, 2, 3, 0]).bind fun r10 =>
 some r10 else some false).bind fun c2 =>
 (if c2 = true then (pack_Fresh (⟨(⟨#[]⟩ : ByteArray), (⟨#[103]⟩ : ByteArray), (⟨1000, 0, 0, 5, 0⟩ : T_api_Res), ([] : List T_api_Label), ([] : List T_api_Taint), true⟩ : T_api_Machine) (7 : Int)).bind fun r11 =>
 some (V.seq r11.Name (⟨#[103, 43, 55]⟩ : ByteArray)) else some false).bind fun c3 =>
 some c3
theorem K20 : VS Try.prog 6 (law19_known) [] [] .bool N0 := by
 refine A0 [.tmp 0] Try.func6 R R R fun r hm=>?_
 unfold law19_known at hm
 refine Ah tbk [] R R<|Af<|Ab R R (Be pl26 R R)<|Ab R R (Be pl30 R R)<|Ac R R<|Au z30 fun b=>Ac R R<|Al (i:=0) R R R ld30 R R R<|Ad<|Af<|Ac R R<|Am hm 0 R fn20 R (K69 _ _) fun r hm=>Ac R R<|Am hm 0 R fn20 R (K69 _ _) fun r2 hm=>Ac R R<|Am hm 0 R fn20 R (K69 _ _) fun r3 hm=>Ac R R<|Am hm 0 R fn20 R (K69 _ _) fun r4 hm=>Ac R R<|Am hm 0 R fn20 R (K69 _ _) fun r5 hm=>Ac R R<|Bb ap24 R R R R R fun b2=>Bh (Aw 0 [(15,L39 [r,r2,r3,r4,r5])] R ⟨⟨_,R,.here _ R⟩,trivial⟩ (FzH.refl _))<|Ab R R (Ai R)<|Ad<|Af<|Aa tbk [0] 2 R R<|Bd hm fun r6 h8 hm=>Ac R R<|VO.callN 0 [.nil 30,.nil 50,.same,.agg [none,none,none,none,none,none,none,some 92,some 96],.same] R fn7 R (K17 ([] : List T_api_Machine) ([] : List T_api_Bound) [r,r2,r3,r4,r5] (⟨(⟨#[]⟩ : ByteArray),(⟨#[103]⟩ : ByteArray),(⟨(1000 : Int),(0 : Int),(0 : Int),(5 : Int),(0 : Int)⟩ : T_api_Res),([] : List T_api_Label),([] : List T_api_Taint),true⟩ : T_api_Machine) (5 : Int) r6 h8) fun _ _ h30=> ?_
 obtain ⟨ob,cap,rfl,rfl⟩:=h30
 refine Aa tbk [] 5 R R<|Ad<|Af<|Aa tbk [1] 2 R R<|Bd hm fun r7 h10 hm=>Ac R R<|VO.callN 0 [.nil 30,.nil 50,.same,.agg [none,none,none,none,none,none,none,some 92,some 96],.same] R fn7 R (K17 ([] : List T_api_Machine) ([] : List T_api_Bound) [r,r2,r3,r4,r5] (⟨(⟨#[]⟩ : ByteArray),(⟨#[103]⟩ : ByteArray),(⟨(1000 : Int),(0 : Int),(0 : Int),(5 : Int),(0 : Int)⟩ : T_api_Res),([] : List T_api_Label),([] : List T_api_Taint),true⟩ : T_api_Machine) (1 : Int) r7 h10) fun _ _ h29=> ?_
 obtain ⟨ob2,cap2,rfl,rfl⟩:=h29
 refine Aa tbk [] 5 R R<|Ad<|Af<|Ab R R (Be pl53 R R)<|Ab R R (Be pl53 R R)<|Ab R R (Be pl53 R R)<|Ab R R (Be pl53 R R)<|Ac R R<|Bb ap41 R R R R R fun b3=>Bh (Aw 0 [(32,L53 [(⟨(⟨#[98]⟩ : ByteArray),(⟨#[103,43,49]⟩ : ByteArray)⟩ : T_api_Move),(⟨(⟨#[99]⟩ : ByteArray),(⟨#[103,43,50]⟩ : ByteArray)⟩ : T_api_Move),(⟨(⟨#[100]⟩ : ByteArray),(⟨#[103,43,51]⟩ : ByteArray)⟩ : T_api_Move),(⟨(⟨#[97]⟩ : ByteArray),(⟨#[103,43,49]⟩ : ByteArray)⟩ : T_api_Move)])] R ⟨⟨_,R,.here _ R⟩,trivial⟩ (FzH.refl _))<|Ab R R (Ai R)<|Ad<|Ae<|B3 (Aw 1 [(20,L53 r6.1),(3,L53 r6.1)] R ⟨⟨_,R,.here _ R⟩,⟨_,R,.here _ R⟩,trivial⟩ (FzH.refl _))<|Bt<|Aa tbk [] 3 R R<|Bc hm 4 39 35 R (fun _ K' h14 J hm=>Aa tbk [] 2 R R<|A2 R R R R R<|Am hm 0 R fn21 R (K18 _ _) fun r8 hm=>Ab R R (Bk true R R R)<|J 3 R R (Bj hm)) (fun _ K' h14 J hm=>Aa tbk [] 4 R R<|J 3 R R (Bj hm)) fun c hm=>Ab R R (Aj R)<|Bw tbk [] 3 43 40 R R R R R<|Ab R R (Aj R)<|Cy 4 48 44 R (fun h18 K' J=>Bf R R R R R (Aj R)<|Bf R R R R R (Cl T_api_Move.vv R B7)<|Aa tbk [] 2 R R<|J 3 R R R) (fun K' J=>Aa tbk [] 4 R R<|J 3 R R R)<|Ab R R (Aj R)<|Bc hm 6 55 49 R (fun _ K' h19 J hm=>?_) (fun _ K' h19 J hm=>Aa tbk [] 6 R R<|J 5 R R (Bj hm)) fun c2 hm=> ?_
 ·refine Aa tbk [1] 2 R R<|Bd hm fun r9 h20 hm=>A2 R R R R R<|VO.callN 0 [.same,.agg [none,none,none,none,none,none,none,some 92,some 96]] R fn23 R (K75 [r,r2,r3,r4,r5] (⟨(⟨#[]⟩ : ByteArray),(⟨#[103]⟩ : ByteArray),(⟨(1000 : Int),(0 : Int),(0 : Int),(5 : Int),(0 : Int)⟩ : T_api_Res),([] : List T_api_Label),([] : List T_api_Taint),true⟩ : T_api_Machine) r9 h20) fun _ _ h24=> ?_
  obtain ⟨ob3,cap3,rfl,rfl⟩:=h24
  exact Bh (Aw 0 [(52,L3 r9)] R ⟨⟨_,R,.here _ R⟩,trivial⟩ (FzH.refl _))<|A2 R R R R R<|Bb ap37 R R R R R fun b4=>Bh (Aw 0 [(53,L3 [(4 : Int),(1 : Int),(2 : Int),(3 : Int),(0 : Int)])] R ⟨⟨_,R,.here _ R⟩,trivial⟩ (FzH.refl _))<|A2 R R R R R<|Am hm 0 R fn22 R (K19 _ _) fun r10 hm=>Ab R R (Bk true R R R)<|J 7 R R (Bj hm)
 exact Ab R R (Aj R)<|Bc hm 5 61 56 R (fun _ K' h26 J hm=>Aa tbk [1] 1 R R<|A2 R R R R R<|VO.cn hm 0 [.agg [none,none,none,none,none,none,none,some 92,some 96],.same] R fn24 R (K14 _ _) fun r11 hm=>Bf R R R R R (VP.field R fd30_0 R)<|Aa tbk [] 2 R R<|J 4 R R (Bj hm)) (fun _ K' h26 J hm=>Aa tbk [] 5 R R<|J 4 R R (Bj hm)) fun c3 hm=>Ab R R (Ai R)<|Ad<|Rt1 hm R [] R R R

/-! trireme/triremelaw19.PackMore -/
def law19_PackMore.l1 (c : T_law19_Case) (names : Int) : Nat → (List T_api_Pod) → Int → Option (List T_api_Pod)
 | 0, _, _ => none
 | n + 1, l2, i2 =>
  (V.rem (i64.wrap names) (8 : Int)).bind fun v2 =>
  if (decide (i2 < (i64.wrap (1 + v2)))) = true then
   (V.gl c.L (0 : Int)).bind fun x =>
   (V.cat x.Name (strOfNums [(IntKind.u8.wrap (i64.wrap (48 + i2)))])).bind fun v3 =>
   (V.ap 272 l2 [(⟨v3, x.Need, x.Labels, x.Select, x.Terms, x.Bears, x.Ports, x.Apart, x.Wide, ([] : List T_api_Label), 0, x.Rank, x.Owner, x.Daemon, x.Pinned, x.Local⟩ : T_api_Pod)]).bind fun l5 =>
   law19_PackMore.l1 c names n l5 (i64.wrap (i2 + 1))
  else
   some l2
def law19_PackMore (c : T_law19_Case) (names : Int) : Option Bool :=
 (if ((c.L.length : Int) == 0) = true then some true else (V.sl c.L none (some 1)).bind fun v =>
 (ref19_Right c.Ms c.Bs v c.Like).bind fun r =>
 some (!r)).bind fun c2 =>
 if (c2 || (decide (c.Limit > 20))) = true then
  (law19_known).bind fun r2 =>
  some r2
 else
  (law19_PackMore.l1 c names FU ([] : List T_api_Pod) (0 : Int)).bind fun l32 =>
  (ref19_Right c.Ms c.Bs l32 c.Like).bind fun r3 =>
  if (!r3) = true then
   (law19_known).bind fun r4 =>
   some r4
  else
   (pack_Estimate c.Ms c.Bs l32 c.Like c.Limit).bind fun r5 =>
   (pack_Estimate c.Ms c.Bs l32 c.Like (i64.wrap ((max c.Limit 0) + 1))).bind fun r6 =>
   (if (((decide ((r5.1.length : Int) ≤ (r6.1.length : Int))) && (decide (r5.2 ≤ r6.2))) && ((decide (c.Limit > 0)) || (((r5.1.length : Int) == 0) && (r5.2 == 0)))) = true then (law19_known).bind fun r7 =>
   some r7 else some false).bind fun c3 =>
   some c3
theorem law19_PackMore_ok (c : T_law19_Case) (names : Int) : VS Try.prog 3 (law19_PackMore c names) [T_law19_Case.vv c, .int .u8 names] [] .bool N0 := by
 refine A0 [.tmp 4] Try.func3 R R R fun r hm=>?_
 unfold law19_PackMore at hm
 refine Af<|Ac R R<|Ba R R fun b=>Ab R R (Ai R)<|Ad<|Ae<|Ae<|Bi 0 mixed<|Az tbk [0,1] [0] (by kernel_rfl) R R R<|A8 2 R R R (by kernel_rfl) (Ax T_api_Pod.vv R Ce)<|Az tbk [3,4] [] (by kernel_rfl) R R R<|Cz hm [16,15,14,13,12,11,10,9,8,7,6,5,4,3,2,1,0] 28 16 R (fun _ K' h2 J hm=>Az tbk [5,6,7,8,9,10,11,12,13,14,15,16] [] (by kernel_rfl) R R R<|J 11 R R (Bj hm)) (fun _ K' h2 J hm=>Az tbk [5,6,7,8,9,10] [0,0,0] (by kernel_rfl) R R R<|Bd hm fun v h3 hm=>Ch 11 R R R R R R (by kernel_rfl) (C3 R R R el24 h3)<|Az tbk [12,13] [0] (by kernel_rfl) R R R<|Ao 14 (by kernel_rfl)<|VB.oG R R R R R R<|Am hm 0 R fn5 R (K68 _ _ _ _) fun r hm=>Az tbk [15,16] [] (by kernel_rfl) R R R<|J 11 R R (Bj hm)) fun c2 hm=>A8 17 R R R (by kernel_rfl) (Aj R)<|VA.so [21,20,19,18,17,16,15,14,13,12,11,10,9,8,7,6,5,4,3,2,1,0] 33 29 R (fun K' J=>Az tbk [18,19,20,21] [] (by kernel_rfl) R R R<|J 3 R R R) (fun h6 K' J=>Az tbk [18,19,20,21] [0] (by kernel_rfl) R R R<|J 3 R R R)<|A1 (by kernel_rfl)<|An hm R (fun h7 hm=>Af<|Ac R R<|Am hm 0 R fn6 R (K20) fun r2 hm=>Ab R R (Ai R)<|Ad<|Rt1 hm R [] R R R) fun h7 hm=>Ak<|Ah tbk [] R R<|Ae<|Ah tbk [] R R<|B9 hm (fun l32 (gg:Option Nat × Nat)=>[(2,.ptr b 0),(5,Z39 gg.1 l32 gg.2)]) (fun l32 (gg:Option Nat × Nat)=>[Q39 gg.1 gg.2 l32,X32 b c]) (fun o hm=>?_) fun l32=>Pq fun ob3 cap3 hm=> ?_
 ·refine Br (fun zn (zs:List T_api_Pod × Int)=>law19_PackMore.l1 c names zn zs.1 zs.2) (fun zs (zg:Option Nat × Nat)=>[(1,.int .u8 names),(2,.ptr b 0),(5,Z39 zg.1 zs.1 zg.2),(6,Iw zs.2)]) (fun zs (zg:Option Nat × Nat)=>[Q39 zg.1 zg.2 zs.1,X32 b c]) (([] : List T_api_Pod),(0 : Int)) (none,0) (fun _=>R) hm (A4 (A6 39) (Ag [0,0] R R)) fun n=>Pq fun l2 i2=>Pq fun ob2 cap2 hm=> ?_
  rw [law19_PackMore.l1] at hm
  refine Ae<|Af<|Aa tbk [] 2 R R<|Ab R R (Cf Bq Bx R)<|Bd hm fun v2 h13 hm=>Ab R R (VP.remT R R h13)<|Aa tbk [] 2 R R<|Ad<|An hm R (fun h14 hm=>?_) fun h14 hm=> ?_
  ·exact Ak<|Ae<|Ay<|Af<|Aa tbk [1] 2 R R<|Bd hm fun x h15 hm=>Ab R R (A5 T_api_Pod.vv R R el24 h15)<|Ab R R (Bl R ld39 R)<|Ac R R<|Au z39 fun b2=>Ac R R<|Al (i:=0) R R R ld39 R R R<|Ad<|Af<|Aa tbk [0] 4 R R<|Ab R R (Cf Bx Bq R)<|Ac R R<|Bb ap40 R R R R R fun b3=>Bh (Aw 0 [(52,L5 [(IntKind.u8.wrap (IntKind.i64.wrap ((48 : Int) + i2)))])] R ⟨⟨_,R,.here _ R⟩,trivial⟩ (FzH.refl _))<|Ab R R (C5 (l:=[(IntKind.u8.wrap (IntKind.i64.wrap ((48 : Int) + i2)))]) el40 Bq Av R)<|Bd hm fun v3 h18 hm=>Ab R R (C7 R R h18)<|Ab R R (C1 R fa39_0)<|Ac R R<|Al (i:=0) R R R ld9 R R R<|Ad<|Af<|Ab R R (C1 R fa39_9)<|Ac R R<|Al (i:=0) R R R ld27 R R R<|Ad<|Af<|Ab R R (C1 R fa39_10)<|Ac R R<|Al (i:=0) R R R ld3 R R R<|Ad<|Bt<|Aa tbk [0] 2 R R<|Bh (A4 (A6 92) (Aw 0 [(59,T_api_Pod.vv (⟨v3,x.Need,x.Labels,x.Select,x.Terms,x.Bears,x.Ports,x.Apart,x.Wide,([] : List T_api_Label),(0 : Int),x.Rank,x.Owner,x.Daemon,x.Pinned,x.Local⟩ : T_api_Pod))] R ⟨⟨_,R,.aggL ⟨.same _,.same _,.same _,.same _,.same _,.same _,.same _,.same _,.same _,.same _,.same _,.same _,.same _,.here _ R,.same _,.same _,.same _,.same _,.same _,.same _,trivial⟩⟩,trivial⟩ (FzH.refl _)))<|Ac R R<|Bb ap24 R R R R R fun b4=>Bd hm fun l5 h20 hm=>Ac R R<|B6 2 T_api_Pod.vv (l:=l2) (l2:=[(⟨v3,x.Need,x.Labels,x.Select,x.Terms,x.Bears,x.Ports,x.Apart,x.Wide,([] : List T_api_Label),(0 : Int),x.Rank,x.Owner,x.Daemon,x.Pinned,x.Local⟩ : T_api_Pod)]) ap24 R R (sT_row 0 T_api_Pod.vv el24 R R) h20 fun ob4 cap4=>Ab R R (Ai R)<|Ad<|A7 tbk [] R R<|Ap (l5,(IntKind.i64.wrap (i2 + (1 : Int)))) (ob4,cap4) hm (Ag [2,2] R R)
  exact A3<|As (ob2,cap2) hm (Ag [0,0] R R)
 exact Ae<|Af<|Aa tbk [1,1,1] 7 R R<|Ac R R<|VO.ce hm (Aw 0 [(5,L39 l32),(66,L39 l32)] R ⟨⟨_,R,.here _ R⟩,⟨_,R,.here _ R⟩,trivial⟩ (FzH.refl _)) [.same,.same,.same,.same] R fn5 R (K68 _ _ _ _) (fun _=>R) (fun _=>R) fun r3 hm=>Ab R R (Ct R)<|Ad<|An hm R (fun h23 hm=>Af<|Ac R R<|Am hm 0 R fn6 R (K20) fun r4 hm=>Ab R R (Ai R)<|Ad<|Rt1 hm R [] R R R) fun h23 hm=>Ak<|Af<|Aa tbk [1,1,1,1] 9 R R<|Bh (Aw 0 [(5,L39 l32),(66,L39 l32),(77,L39 l32)] R ⟨⟨_,R,.here _ R⟩,⟨_,R,.here _ R⟩,⟨_,R,.here _ R⟩,trivial⟩ (FzH.refl _))<|Ac R R<|Ck hm 0 R fn7 R (K17 _ _ _ _ _) fun r5 ob5 cap5 hm=>Aa tbk [] 5 R R<|Ad<|Af<|Aa tbk [1,1,1,1] 9 R R<|Ab R R (VP.max2 R R)<|Ab R R (A9 R R R)<|Ac R R<|Ck hm 0 R fn7 R (K17 _ _ _ _ _) fun r6 ob6 cap6 hm=>Aa tbk [] 5 R R<|Ad<|Af<|Ab R R (Aj R)<|Ab R R (Cl T_api_Move.vv R B7)<|Ab R R (Aj R)<|Ab R R (Cl T_api_Move.vv R B7)<|Aa tbk [] 2 R R<|Bw tbk [] 4 109 105 R R R R R<|Ab R R (Aj R)<|Cy 13 123 110 R (fun h30 K' J=>Aa tbk [2] 4 R R<|Cs 8 122 114 R (fun K' J=>Aa tbk [] 8 R R<|J 7 R R R) (fun h31 K' J=>Bf R R R R R (Aj R)<|Bf R R R R R (Cl T_api_Move.vv R B7)<|Aa tbk [] 2 R R<|Bw tbk [] 3 121 118 R R R R R<|Bf R R R R R (Bk false R R R)<|J 5 R R R)<|Ab R R (Bk true R R R)<|J 5 R R R) (fun K' J=>Aa tbk [] 13 R R<|J 12 R R R)<|Ab R R (Aj R)<|Bc hm 2 126 124 R (fun _ K' h33 J hm=>A2 R R R R R<|Am hm 0 R fn6 R (K20) fun r7 hm=>Ab R R (Bk true R R R)<|J 1 R R (Bj hm)) (fun _ K' h33 J hm=>Aa tbk [] 2 R R<|J 1 R R (Bj hm)) fun c3 hm=>Ab R R (Ai R)<|Ad<|Rt1 hm R [] R R R

/-! trireme/triremelaw14.right -/
def law14_right (ms : List T_api_Machine) (bs : List T_api_Bound) : Option Bool :=
 (ref09_Light ms bs).bind fun r =>
 (if r = true then (ref09_Check ms bs).bind fun r2 =>
 some (r2 == 0) else some false).bind fun c =>
 some c
theorem K21 (ms : List T_api_Machine) (bs : List T_api_Bound) : VS Try.prog 8 (law14_right ms bs) [L30 ms, L50 bs] [] .bool N0 := by
 refine A0 [.tmp 4] Try.func8 R R R fun r hm=>?_
 unfold law14_right at hm
 exact Ah tbk [] R R<|Af<|Aa tbk [] 2 R R<|Ac R R<|Am hm 0 R fn15 R (K41 _ _) fun r hm=>Ab R R (Aj R)<|Bc hm 5 13 8 R (fun _ K' h2 J hm=>Aa tbk [] 2 R R<|A2 R R R R R<|Am hm 0 R fn18 R (K66 _ _) fun r2 hm=>Aa tbk [] 2 R R<|J 4 R R (Bj hm)) (fun _ K' h2 J hm=>Aa tbk [] 5 R R<|J 4 R R (Bj hm)) fun c hm=>Ab R R (Ai R)<|Ad<|Rt1 hm R [] R R R

/-! trireme/sched.Order$1 -/
def sched_Order_1 (a : Int) (b : Int) (a2 : List T_api_Bound) : Option Bool :=
 (V.gl a2 a).bind fun x =>
 (V.gl a2 b).bind fun x2 =>
 some (decide (x.Pod.Rank > x2.Pod.Rank))
theorem K22 (a : Int) (b : Int) (a2 : List T_api_Bound) (b2 : Nat) : VS Try.prog 29 (sched_Order_1 a b a2) [Iw a, Iw b, .ptr b2 0] [.box b2 23 [L50 a2]] .bool (fun r=>[.box b2 23 [L50 a2]]) := by
 refine A0 [.tmp 5] Try.func29 R R R fun r hm=>?_
 unfold sched_Order_1 at hm
 exact Ah tbk [] R R<|Ae<|Bi 0 mixed<|Az tbk [0,1] [0] (by kernel_rfl) R R R<|Bd hm fun x h1 hm=>A8 2 R R R (by kernel_rfl) (A5 T_api_Bound.vv R R el23 h1)<|Az tbk [3,4,5,6,7] [0] (by kernel_rfl) R R R<|Bd hm fun x2 h2 hm=>A8 8 R R R (by kernel_rfl) (A5 T_api_Bound.vv R R el23 h2)<|Az tbk [9,10,11,12,13] [] (by kernel_rfl) R R R<|A1 (by kernel_rfl)<|Rt1 hm R [0] R R R

/-! trireme/sched.sorted -/
def sched_sorted_sched_Order_1.l1 (c : List T_api_Bound) : Nat → (List Int) → (List Int) → (List Int) → Option (List Int × List Int × List Int)
 | 0, _, _, _ => none
 | n + 1, a2, b3, out2 =>
  if ((decide ((a2.length : Int) > 0)) && (decide ((b3.length : Int) > 0))) = true then
   (V.gl b3 (0 : Int)).bind fun x =>
   (V.gl a2 (0 : Int)).bind fun x2 =>
   (sched_Order_1 x x2 c).bind fun r3 =>
   if r3 = true then
    (V.gl b3 (0 : Int)).bind fun x3 =>
    (V.ap 8 out2 [x3]).bind fun out4 =>
    (V.sl b3 (some 1) none).bind fun v4 =>
    sched_sorted_sched_Order_1.l1 c n a2 v4 out4
   else
    (V.gl a2 (0 : Int)).bind fun x4 =>
    (V.ap 8 out2 [x4]).bind fun out5 =>
    (V.sl a2 (some 1) none).bind fun v5 =>
    sched_sorted_sched_Order_1.l1 c n v5 b3 out5
  else
   some (a2, b3, out2)
def sched_sorted_sched_Order_1 : Nat → (List Int) → (List T_api_Bound) → Option (List Int)
 | 0, _, _ => none
 | nn + 1, l, c =>
  if (decide ((l.length : Int) < 2)) = true then
   some l
  else
   (V.quo (l.length : Int) (2 : Int)).bind fun v =>
   (V.sl l none (some (i64.wrap v))).bind fun v2 =>
   (V.sl l (some (i64.wrap v)) none).bind fun v3 =>
   ((sched_sorted_sched_Order_1 nn) v2 c).bind fun r =>
   ((sched_sorted_sched_Order_1 nn) v3 c).bind fun r2 =>
   (sched_sorted_sched_Order_1.l1 c FU r r2 ([] : List Int)).bind fun j =>
   (V.ap 8 j.2.2 j.1).bind fun out6 =>
   (V.ap 8 out6 j.2.1).bind fun out7 =>
   some out7
theorem K23 (nn : Nat) : ∀ (l : List Int) (c : List T_api_Bound) (b : Nat), VS Try.prog 28 (sched_sorted_sched_Order_1 nn l c) [L3 l, .clo (.func 29) [] [.ptr b 0]] [.box b 23 [L50 c]] (fun r=>L3 r) (fun r=>[.box b 23 [L50 c]]) := by
 induction nn with
 | zero => intro l c b; exact VS.none (by rw [sched_sorted_sched_Order_1])
 | succ nn ih =>
  intro l c b
  refine A0 [.tmp 4] Try.func28 R R R fun r hm=>?_
  rw [sched_sorted_sched_Order_1] at hm
  refine Ah tbk [] R R<|Ae<|Af<|Ab R R (Aj R)<|Ab R R (Ax (VV.int .i64) R Bm)<|Ab R R (A9 R R R)<|Ad<|An hm R (fun h1 hm=>Ah tbk [] R R<|Rt1 hm R [0] R R R) fun h1 hm=>Ak<|Af<|Ab R R (Aj R)<|Ab R R (Ax (VV.int .i64) R Bm)<|Bd hm fun v h2 hm=>Ab R R (VP.quoT R R h2)<|Ab R R (Ai R)<|Ad<|Ae<|Bi 1 mixed<|Az tbk [0,1] [] (by kernel_rfl) R R R<|Bd hm fun v2 h3 hm=>A8 2 R R R (by kernel_rfl) (C3 R R R el37 h3)<|Az tbk [3,5,6] [] (by kernel_rfl) R R R<|Bd hm fun v3 h4 hm=>A8 7 R R R (by kernel_rfl) (C3 R R R el37 h4)<|A8 8 R R R (by kernel_rfl) (Aj R)<|Ao 4 (by kernel_rfl)<|Aq R R R<|Am hm 1 R fn28 R (ih _ _ _) fun r hm=>Ao 9 (by kernel_rfl)<|Aq R R R<|Am hm 1 R fn28 R (ih _ _ _) fun r2 hm=>Az tbk [10,11] [] (by kernel_rfl) R R R<|A1 (by kernel_rfl)<|Ah tbk [] R R<|Cv hm (fun j (gg:Option Nat × Nat)=>[(6,L3 j.1),(7,L3 j.2.1),(8,Z3 gg.1 j.2.2 gg.2)]) (fun j (gg:Option Nat × Nat)=>[Q3 gg.1 gg.2 j.2.2,.box b 23 [L50 c]]) (fun o hm=>?_) fun j=>Pq fun ob3 cap3 hm=> ?_
  ·refine Br (fun zn (zs:List Int × List Int × List Int)=>sched_sorted_sched_Order_1.l1 c zn zs.1 zs.2.1 zs.2.2) (fun zs (zg:Option Nat × Nat)=>[(1,.clo (.func 29) [] [.ptr b 0]),(6,L3 zs.1),(7,L3 zs.2.1),(8,Z3 zg.1 zs.2.2 zg.2)]) (fun zs (zg:Option Nat × Nat)=>[Q3 zg.1 zg.2 zs.2.2,.box b 23 [L50 c]]) (r,r2,([] : List Int)) (none,0) (fun _=>R) hm (A4 (A6 3) (Ag [0,0] R R)) fun n=>Pq fun a2=>Pq fun b3 out2=>Pq fun ob2 cap2 hm=> ?_
   rw [sched_sorted_sched_Order_1.l1] at hm
   refine Ae<|Af<|Ab R R (Aj R)<|Ab R R (Ax (VV.int .i64) R Bm)<|Aa tbk [] 2 R R<|Cy 4 33 29 R (fun h11 K' J=>Bf R R R R R (Aj R)<|Bf R R R R R (Ax (VV.int .i64) R Bm)<|Aa tbk [] 2 R R<|J 3 R R R) (fun K' J=>Aa tbk [] 4 R R<|J 3 R R R)<|Ad<|An hm R (fun h12 hm=>?_) fun h12 hm=> ?_
   ·exact Ak<|Ay<|Ae<|B3 (B4 [1,0] R)<|Bi 1 mixed<|Az tbk [0,1] [] (by kernel_rfl) R R R<|Bd hm fun x h13 hm=>A8 2 R R R (by kernel_rfl) (A5 (VV.int .i64) R R el37 h13)<|Az tbk [3,4] [] (by kernel_rfl) R R R<|Bd hm fun x2 h14 hm=>A8 5 R R R (by kernel_rfl) (A5 (VV.int .i64) R R el37 h14)<|A8 6 R R R (by kernel_rfl) (Bl R ld3 R)<|Ao 7 (by kernel_rfl)<|Aq R R R<|Am hm 1 R fn29 R (K22 _ _ _ _) fun r3 hm=>A1 (by kernel_rfl)<|An hm R (fun h16 hm=>Af<|Aa tbk [] 2 R R<|Bd hm fun x3 h17 hm=>Ab R R (A5 (VV.int .i64) R R el37 h17)<|Ab R R (Bl R ld3 R)<|Ac R R<|Bb ap37 R R R R R fun b5=>Bd hm fun out4 h19 hm=>Ac R R<|B6 2 (VV.int .i64) (l:=out2) (l2:=[x3]) ap37 R R (sT_row 0 (VV.int .i64) el37 R R) h19 fun ob4 cap4=>Ab R R (Ai R)<|Ad<|Bt<|Ab R R (Aj R)<|Bd hm fun v4 h20 hm=>Ab R R (C3 R R R el37 h20)<|Ab R R (Ai R)<|Ad<|Ap (a2,v4,out4) (ob4,cap4) hm (Ag [2,1] R R)) fun h16 hm=>Af<|Aa tbk [] 2 R R<|Bd hm fun x4 h21 hm=>Ab R R (A5 (VV.int .i64) R R el37 h21)<|Ab R R (Bl R ld3 R)<|Ac R R<|Bb ap37 R R R R R fun b6=>Bd hm fun out5 h23 hm=>Ac R R<|B6 2 (VV.int .i64) (l:=out2) (l2:=[x4]) ap37 R R (sT_row 0 (VV.int .i64) el37 R R) h23 fun ob5 cap5=>Ab R R (Ai R)<|Ad<|Bt<|Ab R R (Aj R)<|Bd hm fun v5 h24 hm=>Ab R R (C3 R R R el37 h24)<|Ab R R (Ai R)<|Ad<|Ap (v5,b3,out5) (ob5,cap5) hm (Ag [2,1] R R)
   exact A3<|As (ob2,cap2) hm (Ag [0,0] R R)
  exact Af<|Aa tbk [] 2 R R<|Bd hm fun out6 h26 hm=>Ac R R<|B6 0 (VV.int .i64) (l:=j.2.2) (l2:=j.1) ap37 R R (sT_list (VV.int .i64) el37 R R) h26 fun ob6 cap6=>Ab R R (Ai R)<|Ad<|Af<|Aa tbk [] 2 R R<|Bd hm fun out7 h27 hm=>Ac R R<|B6 0 (VV.int .i64) (l:=out6) (l2:=j.2.1) ap37 R R (sT_list (VV.int .i64) el37 R R) h27 fun ob7 cap7=>Ab R R (Ai R)<|Ad<|B3 (Aw 0 [(63,L3 out7),(4,L3 out7)] R ⟨⟨_,R,.here _ R⟩,⟨_,R,.here _ R⟩,trivial⟩ (FzH.refl _))<|Rt1 hm R [0] R R R

/-! trireme/sched.Order -/
def sched_Order.l1 : List T_api_Bound → Nat → (List Int) → Option (List Int)
 | [], k, l2 => some l2
 | x :: l4, k, l2 =>
  if (V.seq x.On (⟨#[]⟩ : ByteArray)) = true then
   (V.ap 8 l2 [(k : Int)]).bind fun l5 =>
   sched_Order.l1 l4 (k + 1) l5
  else
   sched_Order.l1 l4 (k + 1) l2
def sched_Order (bs : List T_api_Bound) : Option (List Int) :=
 (sched_Order.l1 bs 0 ([] : List Int)).bind fun l32 =>
 (sched_sorted_sched_Order_1 FU l32 bs).bind fun r =>
 some r
theorem K24 (bs : List T_api_Bound) : VS Try.prog 11 (sched_Order bs) [L50 bs] [] (fun r=>L3 r) N0 := by
 refine A0 [.tmp 2] Try.func11 R R R fun r hm=>?_
 unfold sched_Order at hm
 refine Af<|Ac R R<|Ba R R fun b=>Ab R R (Ai R)<|Ad<|Ah tbk [] R R<|Ae<|Af<|Aa tbk [0] 1 R R<|Ab R R (Ax T_api_Bound.vv R Bn)<|Ab R R (Aj R)<|Ad<|B5 6 R fun h6=>B9 hm (fun l32 (gg:Option Nat × Nat)=>[(1,.ptr b 0),(3,Z3 gg.1 l32 gg.2)]) (fun l32 (gg:Option Nat × Nat)=>[Q3 gg.1 gg.2 l32,.box b 23 [L50 bs]]) (fun o hm=>?_) fun l32=>Pq fun ob3 cap3 hm=> ?_
 ·refine Cd (bs) (fun zl zk (zs:List Int)=>sched_Order.l1 zl zk zs) (fun k zs (zg:Option Nat × Nat)=>[(1,.ptr b 0),(3,Z3 zg.1 zs zg.2),(6,L50 bs),(7,Iw (bs.length : Int)),(8,Iw (k : Int))]) (fun _ zs (zg:Option Nat × Nat)=>[Q3 zg.1 zg.2 zs,.box b 23 [L50 bs]]) _ (none,0) hm (A4 (A6 3) (Ag [0,0] R R)) (fun k l2=>Pq fun ob2 cap2 hk hm=>?_) fun k x l4 l2=>Pq fun ob2 cap2 h7 hm=> ?_
  ·rw [sched_Order.l1] at hm
   exact Ah tbk [] R R<|Ae<|B2 R (k_end hk)<|A3<|As (ob2,cap2) hm (Ag [0,0] R R)
  rw [sched_Order.l1] at hm
  exact Ah tbk [] R R<|Ae<|Bz R (k_lt h7)<|Ak<|Ae<|Ay<|Af<|Ab R R (Aj R)<|Ab R R (B8 T_api_Bound.vv R R el23 h7)<|Ab R R (Bl R ld50 R)<|Ac R R<|Au z50 fun b2=>Ab R R (Ai R)<|Ac R R<|Al (i:=0) R R R ld50 R R R<|Ad<|Ah tbk [0] R R<|An hm R (fun h9 hm=>Bt<|Aa tbk [] 2 R R<|Ac R R<|Bb ap37 R R R R R fun b3=>Bd hm fun l5 h11 hm=>Ac R R<|B6 2 (VV.int .i64) (l:=l2) (l2:=[(k : Int)]) ap37 R R (sT_row 0 (VV.int .i64) el37 R R) h11 fun ob4 cap4=>Ab R R (Ai R)<|Ad<|A7 tbk [] R R<|Ap _ (ob4,cap4) hm (Bg [2,2] R ⟨R,R,R,R,congrArg some (k_next h7 h6),trivial⟩)) fun h9 hm=>Ak<|A7 tbk [] R R<|Ap _ (ob2,cap2) hm (Bg [1,1] R ⟨R,R,R,R,congrArg some (k_next h7 h6),trivial⟩)
 exact Af<|Ab R R (Aj R)<|Ab R R (Cp R R)<|Bh (Aw 0 [(3,L3 l32),(21,L3 l32)] R ⟨⟨_,R,.here _ R⟩,⟨_,R,.here _ R⟩,trivial⟩ (FzH.refl _))<|Ac R R<|Am hm 1 R fn28 R (K23 FU _ _ _) fun r hm=>Ab R R (Ai R)<|Ad<|Rt1 hm R [] R R R

/-! trireme/fit.Where$1 -/
def fit_Where_1 (name : ByteArray) (why : Int) (a : List ByteArray) : Option (List ByteArray) :=
 if (why == 0) = true then
  (V.ap 16 a [name]).bind fun l =>
  some l
 else
  some a
theorem K25 (name : ByteArray) (why : Int) (a : List ByteArray) (b : Nat) (ob : Option Nat) (cap : Nat) : VS2 Try.prog 60 (fit_Where_1 name why a) [.str name, Iw why, .ptr b 0] [.box b 66 [Z9 ob a cap], Q9 ob cap a] (fun r ob0_0 cap0_0=>.tup []) (fun r ob0_0 cap0_0=>[.box b 66 [Z9 ob0_0 r cap0_0], Q9 ob0_0 cap0_0 r]) := by
 refine Cj [] Try.func60 R R R fun r hm=>?_
 unfold fit_Where_1 at hm
 refine Ah tbk [] R R<|An hm R (fun h1 hm=>?_) fun h1 hm=> ?_
 ·refine Bt<|Aa tbk [0] 2 R R<|Ac R R<|Bb ap66 R R R R R fun b2=>Bd hm fun l h3 hm=>Ac R R<|B6 2 VV.str (l:=a) (l2:=[name]) ap66 R R (sT_row 0 VV.str el66 R R) h3 fun ob2 cap2=>Ac R R<|Al (i:=1) R R R ld66 R R R<|Ad<|?_
  obtain rfl:=Option.some.inj hm
  exact ⟨.inr R,_,.nil,[1,1],_,R,ob2,cap2,R,R⟩
 refine Ak<|?_
 obtain rfl:=Option.some.inj hm
 exact ⟨.inr R,_,.nil,[0,0],_,R,ob,cap,R,R⟩

/-! trireme/fit.each -/
def fit_each_fit_asker_why_fit_Where_1.l1 (c : T_fit_asker) : List T_api_Machine → Nat → (List ByteArray) → Option (List ByteArray)
 | [], k, do_2 => some do_2
 | x :: l3, k, do_2 =>
  (fit_asker_why c x).bind fun r =>
  (fit_Where_1 x.Name r do_2).bind fun r2 =>
  fit_each_fit_asker_why_fit_Where_1.l1 c l3 (k + 1) r2
def fit_each_fit_asker_why_fit_Where_1 (ms : List T_api_Machine) (c : T_fit_asker) (c2 : List ByteArray) : Option (List ByteArray) :=
 (fit_each_fit_asker_why_fit_Where_1.l1 c ms 0 c2).bind fun l2 =>
 some l2
theorem K26 (ms : List T_api_Machine) (c : T_fit_asker) (c2 : List ByteArray) (b : Nat) (ob : Option Nat) (cap : Nat) : VS2 Try.prog 59 (fit_each_fit_asker_why_fit_Where_1 ms c c2) [L30 ms, .clo (.func 58) [T_fit_asker.vv c] [], .clo (.func 60) [] [.ptr b 0]] [.box b 66 [Z9 ob c2 cap], Q9 ob cap c2] (fun r ob0_0 cap0_0=>.tup []) (fun r ob0_0 cap0_0=>[.box b 66 [Z9 ob0_0 r cap0_0], Q9 ob0_0 cap0_0 r]) := by
 refine Cj [] Try.func59 R R R fun r hm=>?_
 unfold fit_each_fit_asker_why_fit_Where_1 at hm
 refine Af<|Ab R R (Aj R)<|Ab R R (Ax T_api_Machine.vv R Bu)<|Ab R R (Aj R)<|Ad<|B5 8 R fun h3=>B9 hm (fun _ (gg:Option Nat × Nat)=>[]) (fun l2 (gg:Option Nat × Nat)=>[.box b 66 [Z9 gg.1 l2 gg.2],Q9 gg.1 gg.2 l2]) (fun o hm=>?_) fun l2=>Pq fun ob4 cap4 hm=> ?_
 ·refine Cd (ms) (fun zl zk (zs:List ByteArray)=>fit_each_fit_asker_why_fit_Where_1.l1 c zl zk zs) (fun k _ (_:Option Nat × Nat)=>[(1,.clo (.func 58) [T_fit_asker.vv c] []),(2,.clo (.func 60) [] [.ptr b 0]),(8,L30 ms),(9,Iw (ms.length : Int)),(10,Iw (k : Int))]) (fun _ zs (zg:Option Nat × Nat)=>[.box b 66 [Z9 zg.1 zs zg.2],Q9 zg.1 zg.2 zs]) _ (ob,cap) hm (Ag [0,0] R R) (fun k do_2=>Pq fun ob3 cap3 hk hm=>?_) fun k x l3 do_2=>Pq fun ob3 cap3 h4 hm=> ?_
  ·rw [fit_each_fit_asker_why_fit_Where_1.l1] at hm
   exact Ah tbk [] R R<|Ae<|B2 R (k_end hk)<|A3<|As (ob3,cap3) hm (Ag [0,0] R R)
  rw [fit_each_fit_asker_why_fit_Where_1.l1] at hm
  exact Ah tbk [] R R<|Ae<|Bz R (k_lt h4)<|Ak<|Ae<|Ay<|Af<|Ab R R (B8 T_api_Machine.vv R R el22 h4)<|Ab R R (Bl R ld30 R)<|Ac R R<|Au z30 fun b2=>Ac R R<|Al (i:=0) R R R ld30 R R R<|Ad<|B3 (B4 [1,1,0] R)<|Bi 2 mixed<|Az tbk [0,1,2,3,4] [0,0] (by kernel_rfl) R R R<|Ao 5 (by kernel_rfl)<|Aq R R R<|Am hm 0 R fn58 R (K11 _ _) fun r hm=>Ao 6 (by kernel_rfl)<|Aq R R R<|Ck hm 2 R fn60 R (K25 _ _ _ _ _ _) fun r2 ob5 cap5 hm=>A1 (by kernel_rfl)<|A7 tbk [] R R<|Ap _ (ob5,cap5) hm (Bg [0,0] R ⟨R,R,R,R,congrArg some (k_next h4 h3),trivial⟩)
 obtain rfl:=Option.some.inj hm
 exact ⟨.inr R,_,.nil,[0,0],_,R,ob4,cap4,R,R⟩

/-! trireme/fit.Where -/
def fit_Where (ms : List T_api_Machine) (bs : List T_api_Bound) (p : T_api_Pod) : Option (List ByteArray) :=
 (fit_each_fit_asker_why_fit_Where_1 ms (⟨ms, bs, p⟩ : T_fit_asker) ([] : List ByteArray)).bind fun r =>
 some r
theorem K27 (ms : List T_api_Machine) (bs : List T_api_Bound) (p : T_api_Pod) : VS2 Try.prog 42 (fit_Where ms bs p) [L30 ms, L50 bs, T_api_Pod.vv p] [] (fun r ob0 cap0=>Z9 ob0 r cap0) (fun r ob0 cap0=>[Q9 ob0 cap0 r]) := by
 refine Cj [.tmp 6] Try.func42 R R R fun r hm=>?_
 unfold fit_Where at hm
 exact Af<|Ac R R<|Ba R R fun b=>Ab R R (Ai R)<|Ad<|Af<|Ac R R<|Au z66 fun b2=>Ad<|Af<|Aa tbk [1] 4 R R<|Ab R R (Be pl103 R R)<|Ab R R (Cp R R)<|Ab R R (Cp R R)<|Bh (A6 9)<|Bh (B4 [1,0,0] R)<|Ac R R<|Ck hm 2 R fn59 R (K26 _ _ _ _ _ _) fun r ob cap hm=>Ad<|Ah tbk [0] R R<|Rg2 hm R [1] ob cap (.cons (.tmp _ _ R) .nil) R R

/-! trireme/taints.Prefers -/
def taints_Prefers (l : List T_api_Toleration) (taints : List T_api_Taint) : Option Int :=
 (taints_Unborne l taints (2 : Int)).bind fun r =>
 some (r.length : Int)
theorem K28 (l : List T_api_Toleration) (taints : List T_api_Taint) : VS Try.prog 74 (taints_Prefers l taints) [L94 l, L96 taints] [] Iw N0 := by
 refine A0 [.tmp 4] Try.func74 R R R fun r hm=>?_
 unfold taints_Prefers at hm
 exact Ah tbk [] R R<|Af<|Aa tbk [] 2 R R<|Ac R R<|Am hm 0 R fn84 R (K94 _ _ _) fun r hm=>Ab R R (Ax T_api_Taint.vv R Cb)<|Ab R R (Ai R)<|Ad<|Rt1 hm R [] R R R

/-! trireme/suit.Prefers -/
def suit_Prefers (m : T_api_Machine) (p : T_api_Pod) : Option Int :=
 (taints_Prefers p.Bears m.Taints).bind fun r =>
 some r
theorem K29 (m : T_api_Machine) (p : T_api_Pod) : VS Try.prog 62 (suit_Prefers m p) [T_api_Machine.vv m, T_api_Pod.vv p] [] Iw N0 := by
 refine A0 [.tmp 4] Try.func62 R R R fun r hm=>?_
 unfold suit_Prefers at hm
 exact Af<|Ac R R<|Ba R R fun b=>Ac R R<|Ba R R fun b2=>Ab R R (Ai R)<|Ad<|Af<|Aa tbk [0,1] 4 R R<|Ac R R<|Am hm 0 R fn74 R (K28 _ _) fun r hm=>Ab R R (Ai R)<|Ad<|Rt1 hm R [] R R R

/-! trireme/sched.of -/
def sched_of.l1 (p : T_api_Pod) : List T_api_Bound → Nat → (List T_api_Bound) → Option (List T_api_Bound)
 | [], k, others2 => some others2
 | x :: l, k, others2 =>
  if (!(V.seq x.Pod.Name p.Name)) = true then
   (V.ap 288 others2 [x]).bind fun others4 =>
   sched_of.l1 p l (k + 1) others4
  else
   sched_of.l1 p l (k + 1) others2
def sched_of (m : T_api_Machine) (bs : List T_api_Bound) (p : T_api_Pod) : Option T_sched_score :=
 (sched_of.l1 p bs 0 ([] : List T_api_Bound)).bind fun others32 =>
 (yard_Used others32 m.Name).bind fun r =>
 (suit_Prefers m p).bind fun r2 =>
 (res_Share r.1 m.Has).bind fun r3 =>
 some (⟨r2, r3⟩ : T_sched_score)
theorem K30 (m : T_api_Machine) (bs : List T_api_Bound) (p : T_api_Pod) : VS Try.prog 43 (sched_of m bs p) [T_api_Machine.vv m, L50 bs, T_api_Pod.vv p] [] (fun r=>T_sched_score.vv r) N0 := by
 refine A0 [.cell 6 84] Try.func43 R R R fun r hm=>?_
 unfold sched_of at hm
 refine Af<|Ac R R<|Ba R R fun b=>Ac R R<|Ba R R fun b2=>Ac R R<|Au z84 fun b3=>Ad<|Ah tbk [] R R<|Ae<|Af<|Ab R R (Aj R)<|Ab R R (Ax T_api_Bound.vv R Bn)<|Ab R R (Aj R)<|Ad<|B5 12 R fun h8=>B9 hm (fun others32 (gg:Option Nat × Nat)=>[(3,.ptr b 0),(5,.ptr b2 0),(6,.ptr b3 0),(7,Z50 gg.1 others32 gg.2)]) (fun others32 (gg:Option Nat × Nat)=>[Q50 gg.1 gg.2 others32,X84 b3 (⟨(0 : Int),(0 : Int)⟩ : T_sched_score),X39 b2 p,X30 b m]) (fun o hm=>?_) fun others32=>Pq fun ob3 cap3 hm=> ?_
 ·refine Cd (bs) (fun zl zk (zs:List T_api_Bound)=>sched_of.l1 p zl zk zs) (fun k zs (zg:Option Nat × Nat)=>[(3,.ptr b 0),(5,.ptr b2 0),(6,.ptr b3 0),(7,Z50 zg.1 zs zg.2),(12,L50 bs),(13,Iw (bs.length : Int)),(14,Iw (k : Int))]) (fun _ zs (zg:Option Nat × Nat)=>[Q50 zg.1 zg.2 zs,X84 b3 (⟨(0 : Int),(0 : Int)⟩ : T_sched_score),X39 b2 p,X30 b m]) _ (none,0) hm (A4 (A6 50) (Ag [0,0,0,0] R R)) (fun k others2=>Pq fun ob2 cap2 hk hm=>?_) fun k x l others2=>Pq fun ob2 cap2 h9 hm=> ?_
  ·rw [sched_of.l1] at hm
   exact Ah tbk [] R R<|Ae<|B2 R (k_end hk)<|A3<|As (ob2,cap2) hm (Ag [0,0,0,0] R R)
  rw [sched_of.l1] at hm
  exact Ah tbk [] R R<|Ae<|Bz R (k_lt h9)<|Ak<|Ae<|Ay<|Af<|Ab R R (B8 T_api_Bound.vv R R el23 h9)<|Ab R R (Bl R ld50 R)<|Ac R R<|Au z50 fun b4=>Ac R R<|Al (i:=0) R R R ld50 R R R<|Ad<|Ah tbk [0,3] R R<|An hm R (fun h11 hm=>Bt<|Aa tbk [0] 2 R R<|Ac R R<|Bb ap23 R R R R R fun b5=>Bd hm fun others4 h13 hm=>Ac R R<|B6 2 T_api_Bound.vv (l:=others2) (l2:=[x]) ap23 R R (sT_row 0 T_api_Bound.vv el23 R R) h13 fun ob4 cap4=>Ab R R (Ai R)<|Ad<|A7 tbk [] R R<|Ap _ (ob4,cap4) hm (Bg [2,2,2,2] R ⟨R,R,R,R,R,R,congrArg some (k_next h9 h8),trivial⟩)) fun h11 hm=>Ak<|A7 tbk [] R R<|Ap _ (ob2,cap2) hm (Bg [1,1,1,1] R ⟨R,R,R,R,R,R,congrArg some (k_next h9 h8),trivial⟩)
 exact Af<|Aa tbk [3] 3 R R<|Ac R R<|VO.ce hm (Aw 0 [(7,L50 others32),(30,L50 others32)] R ⟨⟨_,R,.here _ R⟩,⟨_,R,.here _ R⟩,trivial⟩ (FzH.refl _)) [.same,.same] R fn61 R (K105 _ _) (fun _=>R) (fun _=>R) fun r hm=>Aa tbk [] 3 R R<|Ac R R<|Au z26 fun b6=>Ac R R<|Al (i:=0) R R R ld26 R R R<|Ab R R (Ai R)<|Ad<|Ae<|B3 (B4 [2,0,0,0,0] R)<|Bi 1 mixed<|Az tbk [0,1,3,4,5] [3,2,0,3] (by kernel_rfl) R R R<|Ao 2 (by kernel_rfl)<|Aq R R R<|Am hm 0 R fn62 R (K29 _ _) fun r2 hm=>Ao 6 (by kernel_rfl)<|Aq R R R<|Am hm 0 R fn39 R (K73 _ _) fun r3 hm=>A8 7 R R R (by kernel_rfl) (Be pl84 R R)<|Ao 8 (by kernel_rfl)<|Aq R R R<|Al (i:=0) R R R ld84 R R R<|A1 (by kernel_rfl)<|Rt0 hm R [] (.cons (.cell _ _ _ _ 0 _ _ _ _ R R ld84 R) .nil) R R

/-! (trireme/sched.score).less -/
def sched_score_less (a : T_sched_score) (b : T_sched_score) : Option Bool :=
 if (a.prefers != b.prefers) = true then
  some (decide (a.prefers < b.prefers))
 else
  some (decide (a.share < b.share))
theorem K31 (a : T_sched_score) (b : T_sched_score) : VS Try.prog 45 (sched_score_less a b) [T_sched_score.vv a, T_sched_score.vv b] [] .bool N0 := by
 refine A0 [.tmp 4] Try.func45 R R R fun r hm=>?_
 unfold sched_score_less at hm
 exact Af<|Ac R R<|Ba R R fun b2=>Ac R R<|Ba R R fun b3=>Ab R R (Ai R)<|Ad<|Ae<|Ah tbk [1,0] R R<|An hm R (fun h3 hm=>Ah tbk [1,0] R R<|Rt1 hm R [] R R R) fun h3 hm=>Ak<|Ah tbk [1,0] R R<|Rt1 hm R [] R R R

/-! trireme/sched.Best -/
def sched_Best.l1 (ms : List T_api_Machine) (bs : List T_api_Bound) (p : T_api_Pod) : List ByteArray → Nat → ByteArray → T_sched_score → Option ByteArray
 | [], k, best2, least2 => some best2
 | x :: l, k, best2, least2 =>
  ((yard_Find ms x).bind fun r2 =>
  (V.gl ms r2).bind fun x3 =>
  (sched_of x3 bs p).bind fun r3 =>
  some r3).bind fun x22 =>
  (if (V.seq best2 (⟨#[]⟩ : ByteArray)) = true then some true else (sched_score_less x22 least2).bind fun r7 =>
  some r7).bind fun c =>
  if c = true then
   sched_Best.l1 ms bs p l (k + 1) x x22
  else
   sched_Best.l1 ms bs p l (k + 1) best2 least2
def sched_Best (ms : List T_api_Machine) (bs : List T_api_Bound) (p : T_api_Pod) : Option ByteArray :=
 (fit_Where ms bs p).bind fun r =>
 (sched_Best.l1 ms bs p r 0 (⟨#[]⟩ : ByteArray) (⟨0, 0⟩ : T_sched_score)).bind fun best32 =>
 some best32
theorem K32 (ms : List T_api_Machine) (bs : List T_api_Bound) (p : T_api_Pod) : VS Try.prog 27 (sched_Best ms bs p) [L30 ms, L50 bs, T_api_Pod.vv p] [] .str N0 := by
 refine A0 [.tmp 6] Try.func27 R R R fun r hm=>?_
 unfold sched_Best at hm
 refine Af<|Ac R R<|Ba R R fun b=>Ab R R (Ai R)<|Ad<|Ah tbk [] R R<|Af<|Ac R R<|Au z84 fun b2=>Ad<|Ae<|Af<|Aa tbk [1] 3 R R<|Ac R R<|Ck hm 0 R fn42 R (K27 _ _ _) fun r ob cap hm=>Bh (Aw 0 [(15,L9 r)] R ⟨⟨_,R,.here _ R⟩,trivial⟩ (FzH.refl _))<|Ab R R (Ax VV.str R Bp)<|Ab R R (Aj R)<|Ad<|B5 15 R fun h7=>B9 hm (fun best32 (_:Unit)=>[(7,.str best32)]) (fun _ (_:Unit)=>[]) (fun o hm=>?_) fun best32 _ hm=> ?_
 ·refine Cd (r) (fun zl zk (zs:ByteArray × T_sched_score)=>sched_Best.l1 ms bs p zl zk zs.1 zs.2) (fun k zs (_:Unit)=>[(0,L30 ms),(1,L50 bs),(5,.ptr b 0),(7,.str zs.1),(8,.ptr b2 0),(15,L9 r),(16,Iw (r.length : Int)),(17,Iw (k : Int))]) (fun _ zs (_:Unit)=>[X84 b2 zs.2,X39 b p]) ((⟨#[]⟩ : ByteArray),(⟨(0 : Int),(0 : Int)⟩ : T_sched_score)) () hm (Ag [0,0] R R) (fun k=>Pq fun best2 least2 _ hk hm=>?_) fun k x l=>Pq fun best2 least2 _ h8 hm=> ?_
  ·rw [sched_Best.l1] at hm
   exact Ah tbk [] R R<|Ae<|B2 R (k_end hk)<|A3<|As () hm (Ag [] R R)
  rw [sched_Best.l1] at hm
  refine Ah tbk [] R R<|Ae<|Bz R (k_lt h8)<|Ak<|Ae<|Ay<|Af<|Ab R R (B8 VV.str R R el66 h8)<|Aa tbk [] 2 R R<|Ad<|Cv hm (fun _ (gg:Nat)=>[(0,L30 ms),(1,L50 bs),(5,.ptr b 0),(7,.str best2),(8,.ptr b2 0),(10,.str x),(11,.ptr gg 0),(15,L9 r),(16,Iw (r.length : Int)),(17,Iw (k : Int))]) (fun x22 (gg:Nat)=>[X84 gg x22,X84 b2 least2,X39 b p]) (fun o2 hm=>?_) fun x22 b3 hm=> ?_
  ·refine Bi 0 mixed<|Az tbk [0,1,2,6,7] [1] (by kernel_rfl) R R R<|?_
   refine Bv [3,9] (by kernel_rfl) ⟨?_,?_,trivial⟩
   ·refine Aq R R R<|Am hm 0 R fn44 R (K78 _ _) fun r2 hm=>Bd hm fun x3 h13 hm=>A8 4 R R R (by kernel_rfl) (A5 T_api_Machine.vv R R el22 h13)<|A8 5 R R R (by kernel_rfl) (Bl R ld30 R)<|?_
    refine Bv [8,9] (by kernel_rfl) ⟨?_,?_,trivial⟩
    ·exact Aq R R R<|Am hm 0 R fn43 R (K30 _ _ _) fun r3 hm=>Ao 9 (by kernel_rfl)<|Aq R R R<|Au z84 fun b4=>Ao 10 (by kernel_rfl)<|Aq R R R<|Al (i:=0) R R R ld84 R R R<|A1 (by kernel_rfl)<|As _ hm (Ag [0,0,0] R R)
    ·exact Aq R R R<|Au z84 fun b5=>Ao 8 (by kernel_rfl)<|Aq R R R<|Am hm 0 R fn43 R (K30 _ _ _) fun r4 hm=>Ao 10 (by kernel_rfl)<|Aq R R R<|Al (i:=0) R R R ld84 R R R<|A1 (by kernel_rfl)<|As _ hm (Ag [0,0,0] R R)
   ·exact Aq R R R<|Au z84 fun b6=>Ao 3 (by kernel_rfl)<|Aq R R R<|Am hm 0 R fn44 R (K78 _ _) fun r5 hm=>Bd hm fun x4 h20 hm=>A8 4 R R R (by kernel_rfl) (A5 T_api_Machine.vv R R el22 h20)<|A8 5 R R R (by kernel_rfl) (Bl R ld30 R)<|Ao 8 (by kernel_rfl)<|Aq R R R<|Am hm 0 R fn43 R (K30 _ _ _) fun r6 hm=>Ao 10 (by kernel_rfl)<|Aq R R R<|Al (i:=0) R R R ld84 R R R<|A1 (by kernel_rfl)<|As _ hm (Ag [0,0,0] R R)
  exact Af<|Aa tbk [] 3 R R<|Bc hm 4 36 32 R (fun _ K' h22 J hm=>Aa tbk [] 4 R R<|J 3 R R (Bj hm)) (fun _ K' h22 J hm=>Aa tbk [0,1] 2 R R<|A2 R R R R R<|Am hm 0 R fn45 R (K31 _ _) fun r7 hm=>Ab R R (Bk false R R R)<|J 3 R R (Bj hm)) fun c hm=>Ad<|An hm R (fun h25 hm=>B3 (B4 [1,0,0] R)<|Bi 1 mixed<|Az tbk [0,1,2] [0] (by kernel_rfl) R R R<|Ao 3 (by kernel_rfl)<|Aq R R R<|Al (i:=0) R R R ld84 R R R<|A1 (by kernel_rfl)<|A7 tbk [] R R<|Ap (x,x22) () hm (Bg [0,1] R ⟨R,R,R,R,R,R,R,congrArg some (k_next h8 h7),trivial⟩)) fun h25 hm=>Ak<|A7 tbk [] R R<|Ap (best2,least2) () hm (Bg [1,1] R ⟨R,R,R,R,R,R,R,congrArg some (k_next h8 h7),trivial⟩)
 exact Ah tbk [] R R<|Rt1 hm R [] R R R

/-! trireme/sched.Step -/
def sched_Step.l1 (ms : List T_api_Machine) : List Int → Nat → (List T_api_Bound) → (List T_api_Move) → Option (List T_api_Bound × List T_api_Move)
 | [], k, out2, moves2 => some (out2, moves2)
 | x :: l2, k, out2, moves2 =>
  (V.gl out2 x).bind fun x2 =>
  (sched_Best ms out2 x2.Pod).bind fun r2 =>
  if (!(V.seq r2 (⟨#[]⟩ : ByteArray))) = true then
   (V.gl out2 x).bind fun x3 =>
   (V.ap 32 moves2 [(⟨x2.Pod.Name, r2⟩ : T_api_Move)]).bind fun moves4 =>
   sched_Step.l1 ms l2 (k + 1) (List.set out2 (x).toNat (⟨x3.Pod, r2⟩ : T_api_Bound)) moves4
  else
   sched_Step.l1 ms l2 (k + 1) out2 moves2
def sched_Step (ms : List T_api_Machine) (bs : List T_api_Bound) : Option (List T_api_Bound × List T_api_Move) :=
 (V.ap 288 ([] : List T_api_Bound) bs).bind fun l =>
 (sched_Order bs).bind fun r =>
 (sched_Step.l1 ms r 0 l ([] : List T_api_Move)).bind fun j =>
 some (j.1, j.2)
theorem K33 (ms : List T_api_Machine) (bs : List T_api_Bound) : ∀ r : List T_api_Bound × List T_api_Move, sched_Step ms bs = some r → VC Try.prog 10 [L30 ms, L50 bs] [] fun zx zH => ∃ (ob0 : Option Nat) (cap0 : Nat) (ob1 : Option Nat) (cap1 : Nat), zx = .tup [Z50 ob0 r.1 cap0, Z53 ob1 r.2 cap1] ∧ zH = [Q50 ob0 cap0 r.1, Q53 ob1 cap1 r.2] := by
 refine VCx.run [.tmp 4,.tmp 5] Try.func10 R R R fun r hm=>?_
 unfold sched_Step at hm
 refine Ah tbk [] R R<|Af<|Ab R R (Aj R)<|Bh (A6 50)<|Bd hm fun l h2 hm=>Ac R R<|B6 0 T_api_Bound.vv (l:=([] : List T_api_Bound)) (l2:=bs) ap23 R R (sT_list T_api_Bound.vv el23 R R) h2 fun ob cap=>Ab R R (Ai R)<|Ad<|Ah tbk [] R R<|Ae<|Af<|Ab R R (Aj R)<|Ac R R<|Am hm 0 R fn11 R (K24 _) fun r hm=>Ab R R (Ax (VV.int .i64) R Bm)<|Ab R R (Aj R)<|Ad<|B5 15 R fun h8=>B9 hm (fun j (gg:Option Nat × Option Nat × Nat)=>[(6,Z50 gg.1 j.1 cap),(7,Z53 gg.2.1 j.2 gg.2.2)]) (fun j (gg:Option Nat × Option Nat × Nat)=>[Q53 gg.2.1 gg.2.2 j.2,Q50 gg.1 cap j.1]) (fun o hm=>?_) fun j=>Pq fun ob6=>Pq fun ob7 cap4 hm=> ?_
 ·refine Cd (r) (fun zl zk (zs:List T_api_Bound × List T_api_Move)=>sched_Step.l1 ms zl zk zs.1 zs.2) (fun k zs (zg:Option Nat × Option Nat × Nat)=>[(0,L30 ms),(6,Z50 zg.1 zs.1 cap),(7,Z53 zg.2.1 zs.2 zg.2.2),(15,L3 r),(16,Iw (r.length : Int)),(17,Iw (k : Int))]) (fun _ zs (zg:Option Nat × Option Nat × Nat)=>[Q53 zg.2.1 zg.2.2 zs.2,Q50 zg.1 cap zs.1]) (l,([] : List T_api_Move)) (ob,none,0) hm (A4 (A6 53) (Ag [0,0] R R)) (fun k=>Pq fun out2 moves2=>Pq fun ob4=>Pq fun ob5 cap3 hk hm=>?_) fun k x l2=>Pq fun out2 moves2=>Pq fun ob4=>Pq fun ob5 cap3 h9 hm=> ?_
  ·rw [sched_Step.l1] at hm
   exact Ah tbk [] R R<|Ae<|B2 R (k_end hk)<|A3<|As (ob4,ob5,cap3) hm (Ag [0,0] R R)
  rw [sched_Step.l1] at hm
  refine Ah tbk [] R R<|Ae<|Bz R (k_lt h9)<|Ak<|Ae<|Ay<|Af<|Ab R R (B8 (VV.int .i64) R R el37 h9)<|Aa tbk [] 2 R R<|Ad<|Af<|Aa tbk [] 2 R R<|Bd hm fun x2 h10 hm=>Cu 1 R (gl_pos T_api_Bound.vv h10) fun b h11=> ?_
  subst h11
  exact Ab R R (C0 T_api_Bound.vv R R el23 h10)<|Ab R R (C6 R fa50_0)<|Ab R R (Cw (i:=1) (y:=T_api_Bound.vv x2) R R R (gl_map _ (gl_some h10).2) ld39 R)<|Ac R R<|Au z39 fun b2=>Ac R R<|Al (i:=0) R R R ld39 R R R<|Ad<|Af<|Aa tbk [0] 3 R R<|Ac R R<|VO.ce hm (Aw 2 [(6,L50 out2),(21,L50 out2),(27,L50 out2)] R ⟨⟨_,R,.here _ R⟩,⟨_,R,.here _ R⟩,⟨_,R,.here _ R⟩,trivial⟩ (FzH.refl _)) [.same,.same,.same] R fn27 R (K32 _ _ _) (fun _=>R) (fun _=>R) fun r2 hm=>Ab R R (Ai R)<|Ad<|Ah tbk [] R R<|An hm R (fun h14 hm=>Af<|Aa tbk [] 3 R R<|Bd hm fun x3 h15 hm=>Ab R R (C0 T_api_Bound.vv R R el23 h15)<|Ab R R (C6 R fa50_1)<|Ac R R<|VO.storeRT 2 (f:=T_api_Bound.vv) (l:=out2) (q:=x3) (q':=(⟨x3.Pod,r2⟩ : T_api_Bound)) R R R R h15 ld9 R R R R ⟨R,List.all_eq_true.1 R⟩<|Bh (Ca 6 (List.map T_api_Bound.vv (List.set out2 (x).toNat (⟨x3.Pod,r2⟩ : T_api_Bound))).length R (len_set _ _ _ _))<|Bh (Ca 21 (List.map T_api_Bound.vv (List.set out2 (x).toNat (⟨x3.Pod,r2⟩ : T_api_Bound))).length R (len_set _ _ _ _))<|Bh (Ca 27 (List.map T_api_Bound.vv (List.set out2 (x).toNat (⟨x3.Pod,r2⟩ : T_api_Bound))).length R (len_set _ _ _ _))<|Bh (Ca 32 (List.map T_api_Bound.vv (List.set out2 (x).toNat (⟨x3.Pod,r2⟩ : T_api_Bound))).length R (len_set _ _ _ _))<|Ad<|Bt<|Aa tbk [0] 4 R R<|Ab R R (Be pl53 R R)<|Ac R R<|Bb ap41 R R R R R fun b3=>Bd hm fun moves4 h17 hm=>Ac R R<|B6 2 T_api_Move.vv (l:=moves2) (l2:=[(⟨x2.Pod.Name,r2⟩ : T_api_Move)]) ap41 R R (sT_row 0 T_api_Move.vv el41 R R) h17 fun ob8 cap5=>Ab R R (Ai R)<|Ad<|A7 tbk [] R R<|Ap ((List.set out2 (x).toNat (⟨x3.Pod,r2⟩ : T_api_Bound)),moves4) ((some b),ob8,cap5) hm (Bg [2,2] R ⟨R,R,R,R,R,congrArg some (k_next h9 h8),trivial⟩)) fun h14 hm=>Ak<|A7 tbk [] R R<|Ap (out2,moves2) ((some b),ob5,cap3) hm (Bg [1,1] R ⟨R,R,R,R,R,congrArg some (k_next h9 h8),trivial⟩)
 refine Ah tbk [] R R<|?_
 obtain rfl:=Option.some.inj hm
 exact VW.ret ⟨.inl R,_,.cons (.tmp _ _ R) (.cons (.tmp _ _ R) .nil),[1,0],_,R,ob6,cap,ob7,cap4,R,R⟩

/-! trireme/triremelaw14.known -/
def law14_known : Option Bool :=
 (sched_Step [(⟨(⟨#[109]⟩ : ByteArray), (⟨#[]⟩ : ByteArray), (⟨1000, 0, 0, 9, 0⟩ : T_api_Res), ([] : List T_api_Label), ([] : List T_api_Taint), true⟩ : T_api_Machine), (⟨(⟨#[110]⟩ : ByteArray), (⟨#[]⟩ : ByteArray), (⟨1000, 0, 0, 9, 0⟩ : T_api_Res), ([] : List T_api_Label), ([] : List T_api_Taint), true⟩ : T_api_Machine)] [(⟨(⟨(⟨#[112]⟩ : ByteArray), (⟨600, 0, 0, 1, 0⟩ : T_api_Res), ([] : List T_api_Label), ([] : List T_api_Label), ([] : List T_api_Term), ([] : List T_api_Toleration), ([] : List Int), ([] : List T_api_Label), false, ([] : List T_api_Label), 0, 0, (⟨#[]⟩ : ByteArray), false, false, false⟩ : T_api_Pod), (⟨#[]⟩ : ByteArray)⟩ : T_api_Bound), (⟨(⟨(⟨#[113]⟩ : ByteArray), (⟨600, 0, 0, 1, 0⟩ : T_api_Res), ([] : List T_api_Label), ([] : List T_api_Label), ([] : List T_api_Term), ([] : List T_api_Toleration), ([] : List Int), ([] : List T_api_Label), false, ([] : List T_api_Label), 0, 5, (⟨#[]⟩ : ByteArray), false, false, false⟩ : T_api_Pod), (⟨#[]⟩ : ByteArray)⟩ : T_api_Bound), (⟨(⟨(⟨#[114]⟩ : ByteArray), (⟨600, 0, 0, 1, 0⟩ : T_api_Res), ([] : List T_api_Label), ([] : List T_api_Label), ([] : List T_api_Term), ([] : List T_api_Toleration), ([] : List Int), ([] : List T_api_Label), false, ([] : List T_api_Label), 0, 0, (⟨#[]⟩ : ByteArray), false, false, false⟩ : T_api_Pod), (⟨#[]⟩ : ByteArray)⟩ : T_api_Bound)]).bind fun r =>
 (sched_Order [(⟨(⟨(⟨#[112]⟩ : ByteArray), (⟨600, 0, 0, 1, 0⟩ : T_api_Res), ([] : List T_api_Label), ([] : List T_api_Label), ([] : List T_api_Term), ([] : List T_api_Toleration), ([] : List Int), ([] : List T_api_Label), false, ([] : List T_api_Label), 0, 0, (⟨#[]⟩ : ByteArray), false, false, false⟩ : T_api_Pod), (⟨#[]⟩ : ByteArray)⟩ : T_api_Bound), (⟨(⟨(⟨#[113]⟩ : ByteArray), (⟨600, 0, 0, 1, 0⟩ : T_api_Res), ([] : List T_api_Label), ([] : List T_api_Label), ([] : List T_api_Term), ([] : List T_api_Toleration), ([] : List Int), ([] : List T_api_Label), false, ([] : List T_api_Label), 0, 5, (⟨#[]⟩ : ByteArray), false, false, false⟩ : T_api_Pod), (⟨#[]⟩ : ByteArray)⟩ : T_api_Bound), (⟨(⟨(⟨#[114]⟩ : ByteArray), (⟨600, 0, 0, 1, 0⟩ : T_api_Res), ([] : List T_api_Label), ([] : List T_api_Label), ([] : List T_api_Term), ([] : List T_api_Toleration), ([] : List Int), ([] : List T_api_Label), false, ([] : List T_api_Label), 0, 0, (⟨#[]⟩ : ByteArray), false, false, false⟩ : T_api_Pod), (⟨#[]⟩ : ByteArray)⟩ : T_api_Bound)]).bind fun r7 =>
 (ref02_Ints r7 [1, 0, 2]).bind fun r8 =>
 (if (r8 && ((r.1.length : Int) == 3)) = true then (V.gl r.1 (0 : Int)).bind fun x8 =>
 some (V.seq x8.On (⟨#[110]⟩ : ByteArray)) else some false).bind fun c8 =>
 (if c8 = true then (V.gl r.1 (1 : Int)).bind fun x9 =>
 some (V.seq x9.On (⟨#[109]⟩ : ByteArray)) else some false).bind fun c9 =>
 (if c9 = true then (V.gl r.1 (2 : Int)).bind fun x10 =>
 some (V.seq x10.On (⟨#[]⟩ : ByteArray)) else some false).bind fun c10 =>
 (if c10 = true then (ref14_Moves r.2 [(⟨(⟨#[113]⟩ : ByteArray), (⟨#[109]⟩ : ByteArray)⟩ : T_api_Move), (⟨(⟨#[112]⟩ : ByteArray), (⟨#[110]⟩ : ByteArray)⟩ : T_api_Move)]).bind fun r9 =>
 some r9 else some false).bind fun c11 =>
 (if c11 = true then (V.gl [(⟨(⟨(⟨#[112]⟩ : ByteArray), (⟨600, 0, 0, 1, 0⟩ : T_api_Res), ([] : List T_api_Label), ([] : List T_api_Label), ([] : List T_api_Term), ([] : List T_api_Toleration), ([] : List Int), ([] : List T_api_Label), false, ([] : List T_api_Label), 0, 0, (⟨#[]⟩ : ByteArray), false, false, false⟩ : T_api_Pod), (⟨#[]⟩ : ByteArray)⟩ : T_api_Bound), (⟨(⟨(⟨#[113]⟩ : ByteArray), (⟨600, 0, 0, 1, 0⟩ : T_api_Res), ([] : List T_api_Label), ([] : List T_api_Label), ([] : List T_api_Term), ([] : List T_api_Toleration), ([] : List Int), ([] : List T_api_Label), false, ([] : List T_api_Label), 0, 5, (⟨#[]⟩ : ByteArray), false, false, false⟩ : T_api_Pod), (⟨#[]⟩ : ByteArray)⟩ : T_api_Bound), (⟨(⟨(⟨#[114]⟩ : ByteArray), (⟨600, 0, 0, 1, 0⟩ : T_api_Res), ([] : List T_api_Label), ([] : List T_api_Label), ([] : List T_api_Term), ([] : List T_api_Toleration), ([] : List Int), ([] : List T_api_Label), false, ([] : List T_api_Label), 0, 0, (⟨#[]⟩ : ByteArray), false, false, false⟩ : T_api_Pod), (⟨#[]⟩ : ByteArray)⟩ : T_api_Bound)] (2 : Int)).bind fun x11 =>
 (sched_Best [(⟨(⟨#[109]⟩ : ByteArray), (⟨#[]⟩ : ByteArray), (⟨1000, 0, 0, 9, 0⟩ : T_api_Res), ([] : List T_api_Label), ([] : List T_api_Taint), true⟩ : T_api_Machine), (⟨(⟨#[110]⟩ : ByteArray), (⟨#[]⟩ : ByteArray), (⟨1000, 0, 0, 9, 0⟩ : T_api_Res), ([] : List T_api_Label), ([] : List T_api_Taint), true⟩ : T_api_Machine)] r.1 x11.Pod).bind fun r10 =>
 some (V.seq r10 (⟨#[]⟩ : ByteArray)) else some false).bind fun c12 =>
 (if c12 = true then (V.gl [(⟨(⟨(⟨#[112]⟩ : ByteArray), (⟨600, 0, 0, 1, 0⟩ : T_api_Res), ([] : List T_api_Label), ([] : List T_api_Label), ([] : List T_api_Term), ([] : List T_api_Toleration), ([] : List Int), ([] : List T_api_Label), false, ([] : List T_api_Label), 0, 0, (⟨#[]⟩ : ByteArray), false, false, false⟩ : T_api_Pod), (⟨#[]⟩ : ByteArray)⟩ : T_api_Bound), (⟨(⟨(⟨#[113]⟩ : ByteArray), (⟨600, 0, 0, 1, 0⟩ : T_api_Res), ([] : List T_api_Label), ([] : List T_api_Label), ([] : List T_api_Term), ([] : List T_api_Toleration), ([] : List Int), ([] : List T_api_Label), false, ([] : List T_api_Label), 0, 5, (⟨#[]⟩ : ByteArray), false, false, false⟩ : T_api_Pod), (⟨#[]⟩ : ByteArray)⟩ : T_api_Bound), (⟨(⟨(⟨#[114]⟩ : ByteArray), (⟨600, 0, 0, 1, 0⟩ : T_api_Res), ([] : List T_api_Label), ([] : List T_api_Label), ([] : List T_api_Term), ([] : List T_api_Toleration), ([] : List Int), ([] : List T_api_Label), false, ([] : List T_api_Label), 0, 0, (⟨#[]⟩ : ByteArray), false, false, false⟩ : T_api_Pod), (⟨#[]⟩ : ByteArray)⟩ : T_api_Bound)] (2 : Int)).bind fun x12 =>
 (sched_Best [(⟨(⟨#[109]⟩ : ByteArray), (⟨#[]⟩ : ByteArray), (⟨1000, 0, 0, 9, 0⟩ : T_api_Res), ([] : List T_api_Label), ([] : List T_api_Taint), true⟩ : T_api_Machine), (⟨(⟨#[110]⟩ : ByteArray), (⟨#[]⟩ : ByteArray), (⟨1000, 0, 0, 9, 0⟩ : T_api_Res), ([] : List T_api_Label), ([] : List T_api_Taint), true⟩ : T_api_Machine)] ([] : List T_api_Bound) x12.Pod).bind fun r11 =>
 some (V.seq r11 (⟨#[109]⟩ : ByteArray)) else some false).bind fun c13 =>
 some c13
theorem K34 : VS Try.prog 9 (law14_known) [] [] .bool N0 := by
 refine A0 [.tmp 0] Try.func9 R R R fun r hm=>?_
 unfold law14_known at hm
 refine Ah tbk [] R R<|Af<|Ab R R (Be pl26 R R)<|Ab R R (Be pl30 R R)<|Ab R R (Be pl26 R R)<|Ab R R (Be pl30 R R)<|Bh (A4 (A6 92) (A4 (Aw 0 [(6,.agg [.str (⟨#[109]⟩ : ByteArray),.str (⟨#[]⟩ : ByteArray),Iw (1000 : Int),Iw (0 : Int),Iw (0 : Int),Iw (9 : Int),Iw (0 : Int),L92 ([] : List T_api_Label),.sl none 0 0,.bool true])] R ⟨⟨_,R,.aggL ⟨.same _,.same _,.same _,.same _,.same _,.same _,.same _,.here _ R,.same _,.same _,trivial⟩⟩,trivial⟩ (FzH.refl _)) (A4 (A6 96) (A4 (Aw 0 [(6,T_api_Machine.vv (⟨(⟨#[109]⟩ : ByteArray),(⟨#[]⟩ : ByteArray),(⟨(1000 : Int),(0 : Int),(0 : Int),(9 : Int),(0 : Int)⟩ : T_api_Res),([] : List T_api_Label),([] : List T_api_Taint),true⟩ : T_api_Machine))] R ⟨⟨_,R,.aggL ⟨.same _,.same _,.same _,.same _,.same _,.same _,.same _,.same _,.here _ R,.same _,trivial⟩⟩,trivial⟩ (FzH.refl _)) (A4 (A6 92) (A4 (Aw 0 [(8,.agg [.str (⟨#[110]⟩ : ByteArray),.str (⟨#[]⟩ : ByteArray),Iw (1000 : Int),Iw (0 : Int),Iw (0 : Int),Iw (9 : Int),Iw (0 : Int),L92 ([] : List T_api_Label),.sl none 0 0,.bool true])] R ⟨⟨_,R,.aggL ⟨.same _,.same _,.same _,.same _,.same _,.same _,.same _,.here _ R,.same _,.same _,trivial⟩⟩,trivial⟩ (FzH.refl _)) (A4 (A6 96) (Aw 0 [(8,T_api_Machine.vv (⟨(⟨#[110]⟩ : ByteArray),(⟨#[]⟩ : ByteArray),(⟨(1000 : Int),(0 : Int),(0 : Int),(9 : Int),(0 : Int)⟩ : T_api_Res),([] : List T_api_Label),([] : List T_api_Taint),true⟩ : T_api_Machine))] R ⟨⟨_,R,.aggL ⟨.same _,.same _,.same _,.same _,.same _,.same _,.same _,.same _,.here _ R,.same _,trivial⟩⟩,trivial⟩ (FzH.refl _)))))))))<|Ac R R<|Bb ap22 R R R R R fun b=>Bh (Aw 0 [(9,L30 [(⟨(⟨#[109]⟩ : ByteArray),(⟨#[]⟩ : ByteArray),(⟨(1000 : Int),(0 : Int),(0 : Int),(9 : Int),(0 : Int)⟩ : T_api_Res),([] : List T_api_Label),([] : List T_api_Taint),true⟩ : T_api_Machine),(⟨(⟨#[110]⟩ : ByteArray),(⟨#[]⟩ : ByteArray),(⟨(1000 : Int),(0 : Int),(0 : Int),(9 : Int),(0 : Int)⟩ : T_api_Res),([] : List T_api_Label),([] : List T_api_Taint),true⟩ : T_api_Machine)])] R ⟨⟨_,R,.here _ R⟩,trivial⟩ (FzH.refl _))<|Ab R R (Ai R)<|Ad<|Af<|Ab R R (Be pl26 R R)<|Ab R R (Be pl39 R R)<|Ab R R (Be pl50 R R)<|Ab R R (Be pl26 R R)<|Ab R R (Be pl39 R R)<|Ab R R (Be pl50 R R)<|Ab R R (Be pl26 R R)<|Ab R R (Be pl39 R R)<|Ab R R (Be pl50 R R)<|Bh (A4 (A6 92) (A4 (Aw 0 [(12,.agg [.str (⟨#[112]⟩ : ByteArray),Iw (600 : Int),Iw (0 : Int),Iw (0 : Int),Iw (1 : Int),Iw (0 : Int),L92 ([] : List T_api_Label),L92 ([] : List T_api_Label),.sl none 0 0,.sl none 0 0,.sl none 0 0,L92 ([] : List T_api_Label),.bool false,L92 ([] : List T_api_Label),Iw (0 : Int),Iw (0 : Int),.str (⟨#[]⟩ : ByteArray),.bool false,.bool false,.bool false,.str (⟨#[]⟩ : ByteArray)])] R ⟨⟨_,R,.aggL ⟨.same _,.same _,.same _,.same _,.same _,.same _,.here _ R,.here _ R,.same _,.same _,.same _,.here _ R,.same _,.here _ R,.same _,.same _,.same _,.same _,.same _,.same _,.same _,trivial⟩⟩,trivial⟩ (FzH.refl _)) (A4 (A6 90) (A4 (Aw 0 [(12,.agg [.str (⟨#[112]⟩ : ByteArray),Iw (600 : Int),Iw (0 : Int),Iw (0 : Int),Iw (1 : Int),Iw (0 : Int),L92 ([] : List T_api_Label),L92 ([] : List T_api_Label),L90 ([] : List T_api_Term),.sl none 0 0,.sl none 0 0,L92 ([] : List T_api_Label),.bool false,L92 ([] : List T_api_Label),Iw (0 : Int),Iw (0 : Int),.str (⟨#[]⟩ : ByteArray),.bool false,.bool false,.bool false,.str (⟨#[]⟩ : ByteArray)])] R ⟨⟨_,R,.aggL ⟨.same _,.same _,.same _,.same _,.same _,.same _,.same _,.same _,.here _ R,.same _,.same _,.same _,.same _,.same _,.same _,.same _,.same _,.same _,.same _,.same _,.same _,trivial⟩⟩,trivial⟩ (FzH.refl _)) (A4 (A6 94) (A4 (Aw 0 [(12,.agg [.str (⟨#[112]⟩ : ByteArray),Iw (600 : Int),Iw (0 : Int),Iw (0 : Int),Iw (1 : Int),Iw (0 : Int),L92 ([] : List T_api_Label),L92 ([] : List T_api_Label),L90 ([] : List T_api_Term),L94 ([] : List T_api_Toleration),.sl none 0 0,L92 ([] : List T_api_Label),.bool false,L92 ([] : List T_api_Label),Iw (0 : Int),Iw (0 : Int),.str (⟨#[]⟩ : ByteArray),.bool false,.bool false,.bool false,.str (⟨#[]⟩ : ByteArray)])] R ⟨⟨_,R,.aggL ⟨.same _,.same _,.same _,.same _,.same _,.same _,.same _,.same _,.same _,.here _ R,.same _,.same _,.same _,.same _,.same _,.same _,.same _,.same _,.same _,.same _,.same _,trivial⟩⟩,trivial⟩ (FzH.refl _)) (A4 (A6 3) (A4 (Aw 0 [(12,T_api_Bound.vv (⟨(⟨(⟨#[112]⟩ : ByteArray),(⟨(600 : Int),(0 : Int),(0 : Int),(1 : Int),(0 : Int)⟩ : T_api_Res),([] : List T_api_Label),([] : List T_api_Label),([] : List T_api_Term),([] : List T_api_Toleration),([] : List Int),([] : List T_api_Label),false,([] : List T_api_Label),(0 : Int),(0 : Int),(⟨#[]⟩ : ByteArray),false,false,false⟩ : T_api_Pod),(⟨#[]⟩ : ByteArray)⟩ : T_api_Bound))] R ⟨⟨_,R,.aggL ⟨.same _,.same _,.same _,.same _,.same _,.same _,.same _,.same _,.same _,.same _,.here _ R,.same _,.same _,.same _,.same _,.same _,.same _,.same _,.same _,.same _,.same _,trivial⟩⟩,trivial⟩ (FzH.refl _)) (A4 (A6 92) (A4 (Aw 0 [(15,.agg [.str (⟨#[113]⟩ : ByteArray),Iw (600 : Int),Iw (0 : Int),Iw (0 : Int),Iw (1 : Int),Iw (0 : Int),L92 ([] : List T_api_Label),L92 ([] : List T_api_Label),.sl none 0 0,.sl none 0 0,.sl none 0 0,L92 ([] : List T_api_Label),.bool false,L92 ([] : List T_api_Label),Iw (0 : Int),Iw (5 : Int),.str (⟨#[]⟩ : ByteArray),.bool false,.bool false,.bool false,.str (⟨#[]⟩ : ByteArray)])] R ⟨⟨_,R,.aggL ⟨.same _,.same _,.same _,.same _,.same _,.same _,.here _ R,.here _ R,.same _,.same _,.same _,.here _ R,.same _,.here _ R,.same _,.same _,.same _,.same _,.same _,.same _,.same _,trivial⟩⟩,trivial⟩ (FzH.refl _)) (A4 (A6 90) (A4 (Aw 0 [(15,.agg [.str (⟨#[113]⟩ : ByteArray),Iw (600 : Int),Iw (0 : Int),Iw (0 : Int),Iw (1 : Int),Iw (0 : Int),L92 ([] : List T_api_Label),L92 ([] : List T_api_Label),L90 ([] : List T_api_Term),.sl none 0 0,.sl none 0 0,L92 ([] : List T_api_Label),.bool false,L92 ([] : List T_api_Label),Iw (0 : Int),Iw (5 : Int),.str (⟨#[]⟩ : ByteArray),.bool false,.bool false,.bool false,.str (⟨#[]⟩ : ByteArray)])] R ⟨⟨_,R,.aggL ⟨.same _,.same _,.same _,.same _,.same _,.same _,.same _,.same _,.here _ R,.same _,.same _,.same _,.same _,.same _,.same _,.same _,.same _,.same _,.same _,.same _,.same _,trivial⟩⟩,trivial⟩ (FzH.refl _)) (A4 (A6 94) (A4 (Aw 0 [(15,.agg [.str (⟨#[113]⟩ : ByteArray),Iw (600 : Int),Iw (0 : Int),Iw (0 : Int),Iw (1 : Int),Iw (0 : Int),L92 ([] : List T_api_Label),L92 ([] : List T_api_Label),L90 ([] : List T_api_Term),L94 ([] : List T_api_Toleration),.sl none 0 0,L92 ([] : List T_api_Label),.bool false,L92 ([] : List T_api_Label),Iw (0 : Int),Iw (5 : Int),.str (⟨#[]⟩ : ByteArray),.bool false,.bool false,.bool false,.str (⟨#[]⟩ : ByteArray)])] R ⟨⟨_,R,.aggL ⟨.same _,.same _,.same _,.same _,.same _,.same _,.same _,.same _,.same _,.here _ R,.same _,.same _,.same _,.same _,.same _,.same _,.same _,.same _,.same _,.same _,.same _,trivial⟩⟩,trivial⟩ (FzH.refl _)) (A4 (A6 3) (A4 (Aw 0 [(15,T_api_Bound.vv (⟨(⟨(⟨#[113]⟩ : ByteArray),(⟨(600 : Int),(0 : Int),(0 : Int),(1 : Int),(0 : Int)⟩ : T_api_Res),([] : List T_api_Label),([] : List T_api_Label),([] : List T_api_Term),([] : List T_api_Toleration),([] : List Int),([] : List T_api_Label),false,([] : List T_api_Label),(0 : Int),(5 : Int),(⟨#[]⟩ : ByteArray),false,false,false⟩ : T_api_Pod),(⟨#[]⟩ : ByteArray)⟩ : T_api_Bound))] R ⟨⟨_,R,.aggL ⟨.same _,.same _,.same _,.same _,.same _,.same _,.same _,.same _,.same _,.same _,.here _ R,.same _,.same _,.same _,.same _,.same _,.same _,.same _,.same _,.same _,.same _,trivial⟩⟩,trivial⟩ (FzH.refl _)) (A4 (A6 92) (A4 (Aw 0 [(18,.agg [.str (⟨#[114]⟩ : ByteArray),Iw (600 : Int),Iw (0 : Int),Iw (0 : Int),Iw (1 : Int),Iw (0 : Int),L92 ([] : List T_api_Label),L92 ([] : List T_api_Label),.sl none 0 0,.sl none 0 0,.sl none 0 0,L92 ([] : List T_api_Label),.bool false,L92 ([] : List T_api_Label),Iw (0 : Int),Iw (0 : Int),.str (⟨#[]⟩ : ByteArray),.bool false,.bool false,.bool false,.str (⟨#[]⟩ : ByteArray)])] R ⟨⟨_,R,.aggL ⟨.same _,.same _,.same _,.same _,.same _,.same _,.here _ R,.here _ R,.same _,.same _,.same _,.here _ R,.same _,.here _ R,.same _,.same _,.same _,.same _,.same _,.same _,.same _,trivial⟩⟩,trivial⟩ (FzH.refl _)) (A4 (A6 90) (A4 (Aw 0 [(18,.agg [.str (⟨#[114]⟩ : ByteArray),Iw (600 : Int),Iw (0 : Int),Iw (0 : Int),Iw (1 : Int),Iw (0 : Int),L92 ([] : List T_api_Label),L92 ([] : List T_api_Label),L90 ([] : List T_api_Term),.sl none 0 0,.sl none 0 0,L92 ([] : List T_api_Label),.bool false,L92 ([] : List T_api_Label),Iw (0 : Int),Iw (0 : Int),.str (⟨#[]⟩ : ByteArray),.bool false,.bool false,.bool false,.str (⟨#[]⟩ : ByteArray)])] R ⟨⟨_,R,.aggL ⟨.same _,.same _,.same _,.same _,.same _,.same _,.same _,.same _,.here _ R,.same _,.same _,.same _,.same _,.same _,.same _,.same _,.same _,.same _,.same _,.same _,.same _,trivial⟩⟩,trivial⟩ (FzH.refl _)) (A4 (A6 94) (A4 (Aw 0 [(18,.agg [.str (⟨#[114]⟩ : ByteArray),Iw (600 : Int),Iw (0 : Int),Iw (0 : Int),Iw (1 : Int),Iw (0 : Int),L92 ([] : List T_api_Label),L92 ([] : List T_api_Label),L90 ([] : List T_api_Term),L94 ([] : List T_api_Toleration),.sl none 0 0,L92 ([] : List T_api_Label),.bool false,L92 ([] : List T_api_Label),Iw (0 : Int),Iw (0 : Int),.str (⟨#[]⟩ : ByteArray),.bool false,.bool false,.bool false,.str (⟨#[]⟩ : ByteArray)])] R ⟨⟨_,R,.aggL ⟨.same _,.same _,.same _,.same _,.same _,.same _,.same _,.same _,.same _,.here _ R,.same _,.same _,.same _,.same _,.same _,.same _,.same _,.same _,.same _,.same _,.same _,trivial⟩⟩,trivial⟩ (FzH.refl _)) (A4 (A6 3) (Aw 0 [(18,T_api_Bound.vv (⟨(⟨(⟨#[114]⟩ : ByteArray),(⟨(600 : Int),(0 : Int),(0 : Int),(1 : Int),(0 : Int)⟩ : T_api_Res),([] : List T_api_Label),([] : List T_api_Label),([] : List T_api_Term),([] : List T_api_Toleration),([] : List Int),([] : List T_api_Label),false,([] : List T_api_Label),(0 : Int),(0 : Int),(⟨#[]⟩ : ByteArray),false,false,false⟩ : T_api_Pod),(⟨#[]⟩ : ByteArray)⟩ : T_api_Bound))] R ⟨⟨_,R,.aggL ⟨.same _,.same _,.same _,.same _,.same _,.same _,.same _,.same _,.same _,.same _,.here _ R,.same _,.same _,.same _,.same _,.same _,.same _,.same _,.same _,.same _,.same _,trivial⟩⟩,trivial⟩ (FzH.refl _)))))))))))))))))))))))))<|?_
 refine Ac R R<|Bb ap23 R R R R R fun b2=>Bh (Aw 0 [(19,L50 [(⟨(⟨(⟨#[112]⟩ : ByteArray),(⟨(600 : Int),(0 : Int),(0 : Int),(1 : Int),(0 : Int)⟩ : T_api_Res),([] : List T_api_Label),([] : List T_api_Label),([] : List T_api_Term),([] : List T_api_Toleration),([] : List Int),([] : List T_api_Label),false,([] : List T_api_Label),(0 : Int),(0 : Int),(⟨#[]⟩ : ByteArray),false,false,false⟩ : T_api_Pod),(⟨#[]⟩ : ByteArray)⟩ : T_api_Bound),(⟨(⟨(⟨#[113]⟩ : ByteArray),(⟨(600 : Int),(0 : Int),(0 : Int),(1 : Int),(0 : Int)⟩ : T_api_Res),([] : List T_api_Label),([] : List T_api_Label),([] : List T_api_Term),([] : List T_api_Toleration),([] : List Int),([] : List T_api_Label),false,([] : List T_api_Label),(0 : Int),(5 : Int),(⟨#[]⟩ : ByteArray),false,false,false⟩ : T_api_Pod),(⟨#[]⟩ : ByteArray)⟩ : T_api_Bound),(⟨(⟨(⟨#[114]⟩ : ByteArray),(⟨(600 : Int),(0 : Int),(0 : Int),(1 : Int),(0 : Int)⟩ : T_api_Res),([] : List T_api_Label),([] : List T_api_Label),([] : List T_api_Term),([] : List T_api_Toleration),([] : List Int),([] : List T_api_Label),false,([] : List T_api_Label),(0 : Int),(0 : Int),(⟨#[]⟩ : ByteArray),false,false,false⟩ : T_api_Pod),(⟨#[]⟩ : ByteArray)⟩ : T_api_Bound)])] R ⟨⟨_,R,.here _ R⟩,trivial⟩ (FzH.refl _))<|Ab R R (Ai R)<|Ad<|Af<|Aa tbk [] 2 R R<|Bd hm fun r h3 hm=>Ac R R<|VO.callK 0 R fn10 R (K33 [(⟨(⟨#[109]⟩ : ByteArray),(⟨#[]⟩ : ByteArray),(⟨(1000 : Int),(0 : Int),(0 : Int),(9 : Int),(0 : Int)⟩ : T_api_Res),([] : List T_api_Label),([] : List T_api_Taint),true⟩ : T_api_Machine),(⟨(⟨#[110]⟩ : ByteArray),(⟨#[]⟩ : ByteArray),(⟨(1000 : Int),(0 : Int),(0 : Int),(9 : Int),(0 : Int)⟩ : T_api_Res),([] : List T_api_Label),([] : List T_api_Taint),true⟩ : T_api_Machine)] [(⟨(⟨(⟨#[112]⟩ : ByteArray),(⟨(600 : Int),(0 : Int),(0 : Int),(1 : Int),(0 : Int)⟩ : T_api_Res),([] : List T_api_Label),([] : List T_api_Label),([] : List T_api_Term),([] : List T_api_Toleration),([] : List Int),([] : List T_api_Label),false,([] : List T_api_Label),(0 : Int),(0 : Int),(⟨#[]⟩ : ByteArray),false,false,false⟩ : T_api_Pod),(⟨#[]⟩ : ByteArray)⟩ : T_api_Bound),(⟨(⟨(⟨#[113]⟩ : ByteArray),(⟨(600 : Int),(0 : Int),(0 : Int),(1 : Int),(0 : Int)⟩ : T_api_Res),([] : List T_api_Label),([] : List T_api_Label),([] : List T_api_Term),([] : List T_api_Toleration),([] : List Int),([] : List T_api_Label),false,([] : List T_api_Label),(0 : Int),(5 : Int),(⟨#[]⟩ : ByteArray),false,false,false⟩ : T_api_Pod),(⟨#[]⟩ : ByteArray)⟩ : T_api_Bound),(⟨(⟨(⟨#[114]⟩ : ByteArray),(⟨(600 : Int),(0 : Int),(0 : Int),(1 : Int),(0 : Int)⟩ : T_api_Res),([] : List T_api_Label),([] : List T_api_Label),([] : List T_api_Term),([] : List T_api_Toleration),([] : List Int),([] : List T_api_Label),false,([] : List T_api_Label),(0 : Int),(0 : Int),(⟨#[]⟩ : ByteArray),false,false,false⟩ : T_api_Pod),(⟨#[]⟩ : ByteArray)⟩ : T_api_Bound)] r h3) fun _ _ h71=> ?_
 obtain ⟨ob,cap,ob2,cap2,rfl,rfl⟩:=h71
 refine Aa tbk [] 5 R R<|Ad<|Ae<|B3 (Aw 1 [(25,L53 r.2),(4,L53 r.2)] R ⟨⟨_,R,.here _ R⟩,⟨_,R,.here _ R⟩,trivial⟩ (FzH.refl _))<|B3 (Aw 0 [(24,L50 r.1),(3,L50 r.1)] R ⟨⟨_,R,.here _ R⟩,⟨_,R,.here _ R⟩,trivial⟩ (FzH.refl _))<|Bt<|Ab R R (Aj R)<|Ac R R<|Am hm 0 R fn11 R (K24 _) fun r7 hm=>Ac R R<|Bb ap37 R R R R R fun b13=>Bh (Aw 0 [(28,L3 [(1 : Int),(0 : Int),(2 : Int)])] R ⟨⟨_,R,.here _ R⟩,trivial⟩ (FzH.refl _))<|Ac R R<|Am hm 0 R fn22 R (K19 _ _) fun r8 hm=>Ab R R (Aj R)<|Cy 4 34 30 R (fun h49 K' J=>Bf R R R R R (Aj R)<|Bf R R R R R (Ax T_api_Bound.vv R Bn)<|Aa tbk [] 2 R R<|J 3 R R R) (fun K' J=>Aa tbk [] 4 R R<|J 3 R R R)<|Ab R R (Aj R)<|Bc hm 6 41 35 R (fun _ K' h50 J hm=>Bf R R R R R (Aj R)<|Bd hm fun x8 h51 hm=>Bf R R R R R (A5 T_api_Bound.vv R R el23 h51)<|Aa tbk [] 4 R R<|J 5 R R (Bj hm)) (fun _ K' h50 J hm=>Aa tbk [] 6 R R<|J 5 R R (Bj hm)) fun c8 hm=>Ab R R (Aj R)<|Bc hm 6 48 42 R (fun _ K' h53 J hm=>Bf R R R R R (Aj R)<|Bd hm fun x9 h54 hm=>Bf R R R R R (A5 T_api_Bound.vv R R el23 h54)<|Aa tbk [] 4 R R<|J 5 R R (Bj hm)) (fun _ K' h53 J hm=>Aa tbk [] 6 R R<|J 5 R R (Bj hm)) fun c9 hm=>Ab R R (Aj R)<|Bc hm 6 55 49 R (fun _ K' h56 J hm=>Bf R R R R R (Aj R)<|Bd hm fun x10 h57 hm=>Bf R R R R R (A5 T_api_Bound.vv R R el23 h57)<|Aa tbk [] 4 R R<|J 5 R R (Bj hm)) (fun _ K' h56 J hm=>Aa tbk [] 6 R R<|J 5 R R (Bj hm)) fun c10 hm=>Ab R R (Aj R)<|Bc hm 6 62 56 R (fun _ K' h59 J hm=>Bf R R R R R (Aj R)<|Bf R R R R R (Be pl53 R R)<|Bf R R R R R (Be pl53 R R)<|A2 R R R R R<|Bb ap41 R R R R R fun b14=>Bh (Aw 0 [(60,L53 [(⟨(⟨#[113]⟩ : ByteArray),(⟨#[109]⟩ : ByteArray)⟩ : T_api_Move),(⟨(⟨#[112]⟩ : ByteArray),(⟨#[110]⟩ : ByteArray)⟩ : T_api_Move)])] R ⟨⟨_,R,.here _ R⟩,trivial⟩ (FzH.refl _))<|A2 R R R R R<|Am hm 0 R fn21 R (K18 _ _) fun r9 hm=>Ab R R (Bk true R R R)<|J 6 R R (Bj hm)) (fun _ K' h59 J hm=>Aa tbk [] 6 R R<|J 5 R R (Bj hm)) fun c11 hm=>Ab R R (Aj R)<|Bc hm 9 72 63 R (fun _ K' h63 J hm=>Aa tbk [] 3 R R<|Bd hm fun x11 h64 hm=>Bf R R R R R (A5 T_api_Bound.vv R R el23 h64)<|Aa tbk [] 2 R R<|A2 R R R R R<|Am hm 0 R fn27 R (K32 _ _ _) fun r10 hm=>Aa tbk [] 2 R R<|J 8 R R (Bj hm)) (fun _ K' h63 J hm=>Aa tbk [] 9 R R<|J 8 R R (Bj hm)) fun c12 hm=>Ab R R (Aj R)<|?_
 exact Bc hm 8 81 73 R (fun _ K' h67 J hm=>Aa tbk [] 2 R R<|Bd hm fun x12 h68 hm=>Bf R R R R R (A5 T_api_Bound.vv R R el23 h68)<|Aa tbk [] 2 R R<|A2 R R R R R<|VO.cn hm 0 [.same,.nil 50,.same] R fn27 R (K32 _ _ _) fun r11 hm=>Aa tbk [] 2 R R<|J 7 R R (Bj hm)) (fun _ K' h67 J hm=>Aa tbk [] 8 R R<|J 7 R R (Bj hm)) fun c13 hm=>Ab R R (Ai R)<|Ad<|Rt1 hm R [] R R R

/-! trireme/triremeref09.On -/
def ref09_On.l1 (bs : List T_api_Bound) (name : ByteArray) : Nat → (List T_api_Pod) → Int → Option (List T_api_Pod)
 | 0, _, _ => none
 | n + 1, out2, i2 =>
  if (decide (i2 < (bs.length : Int))) = true then
   (V.gl bs i2).bind fun x =>
   if (V.seq x.On name) = true then
    (V.gl bs i2).bind fun x2 =>
    (V.ap 272 out2 [x2.Pod]).bind fun out4 =>
    ref09_On.l1 bs name n out4 (i64.wrap (i2 + 1))
   else
    ref09_On.l1 bs name n out2 (i64.wrap (i2 + 1))
  else
   some out2
def ref09_On (bs : List T_api_Bound) (name : ByteArray) : Option (List T_api_Pod) :=
 (ref09_On.l1 bs name FU ([] : List T_api_Pod) (0 : Int)).bind fun out32 =>
 some out32
theorem K35 (bs : List T_api_Bound) (name : ByteArray) : VS2 Try.prog 14 (ref09_On bs name) [L50 bs, .str name] [] (fun r ob0 cap0=>Z39 ob0 r cap0) (fun r ob0 cap0=>[Q39 ob0 cap0 r]) := by
 refine Cj [.tmp 4] Try.func14 R R R fun r hm=>?_
 unfold ref09_On at hm
 refine Ah tbk [] R R<|Ah tbk [] R R<|Ae<|Ah tbk [] R R<|B9 hm (fun out32 (gg:Option Nat × Nat)=>[(5,Z39 gg.1 out32 gg.2)]) (fun out32 (gg:Option Nat × Nat)=>[Q39 gg.1 gg.2 out32]) (fun o hm=>?_) fun out32=>Pq fun ob3 cap3 hm=> ?_
 ·refine Br (fun zn (zs:List T_api_Pod × Int)=>ref09_On.l1 bs name zn zs.1 zs.2) (fun zs (zg:Option Nat × Nat)=>[(0,L50 bs),(1,.str name),(5,Z39 zg.1 zs.1 zg.2),(6,Iw zs.2)]) (fun zs (zg:Option Nat × Nat)=>[Q39 zg.1 zg.2 zs.1]) (([] : List T_api_Pod),(0 : Int)) (none,0) (fun _=>R) hm (A4 (A6 39) (Ag [0] R R)) fun n=>Pq fun out2 i2=>Pq fun ob2 cap2 hm=> ?_
  rw [ref09_On.l1] at hm
  exact Ae<|Af<|Aa tbk [] 2 R R<|Ab R R (Ax T_api_Bound.vv R Bn)<|Ab R R (A9 R R R)<|Ad<|An hm R (fun h5 hm=>Ak<|Ae<|Ay<|Af<|Aa tbk [] 2 R R<|Bd hm fun x h6 hm=>Ab R R (A5 T_api_Bound.vv R R el23 h6)<|Aa tbk [] 4 R R<|Ad<|An hm R (fun h7 hm=>Bt<|Aa tbk [] 3 R R<|Bd hm fun x2 h8 hm=>Ab R R (A5 T_api_Bound.vv R R el23 h8)<|Aa tbk [] 2 R R<|Ac R R<|Bb ap24 R R R R R fun b=>Bd hm fun out4 h10 hm=>Ac R R<|B6 1 T_api_Pod.vv (l:=out2) (l2:=[x2.Pod]) ap24 R R (sT_row 0 T_api_Pod.vv el24 R R) h10 fun ob4 cap4=>Ab R R (Ai R)<|Ad<|A7 tbk [] R R<|Ap (out4,(IntKind.i64.wrap (i2 + (1 : Int)))) (ob4,cap4) hm (Ag [1] R R)) fun h7 hm=>Ak<|A7 tbk [] R R<|Ap (out2,(IntKind.i64.wrap (i2 + (1 : Int)))) (ob2,cap2) hm (Ag [0] R R)) fun h5 hm=>A3<|As (ob2,cap2) hm (Ag [0] R R)
 exact Ah tbk [] R R<|Rg2 hm R [0] ob3 cap3 (.cons (.tmp _ _ R) .nil) R R

/-! trireme/triremelaw14.SchedCount -/
def law14_SchedCount.l2 (r4 : List Int) (i2 : Int) : Nat → Int → Option (Out (Out Bool Unit) Unit)
 | 0, _ => none
 | n2 + 1, k2 =>
  if (decide (k2 < i2)) = true then
   (V.gl r4 k2).bind fun x9 =>
   (V.gl r4 i2).bind fun x10 =>
   if (x9 == x10) = true then
    some (Out.ret (Out.ret false))
   else
    law14_SchedCount.l2 r4 i2 n2 (i64.wrap (k2 + 1))
  else
   some (Out.go ())
def law14_SchedCount.l1 (bs : List T_api_Bound) (r4 : List Int) : Nat → Int → Option (Out Bool Unit)
 | 0, _ => none
 | n + 1, i2 =>
  if (decide (i2 < (r4.length : Int))) = true then
   (V.gl r4 i2).bind fun x =>
   (if (decide (x < 0)) = true then some true else (V.gl r4 i2).bind fun x2 =>
   some (decide (x2 ≥ (bs.length : Int)))).bind fun c =>
   (if c = true then some true else (V.gl r4 i2).bind fun x3 =>
   (V.gl bs x3).bind fun x4 =>
   some (!(V.seq x4.On (⟨#[]⟩ : ByteArray)))).bind fun c2 =>
   (if c2 = true then some true else (if (decide (i2 > 0)) = true then (V.gl r4 i2).bind fun x5 =>
   (V.gl bs x5).bind fun x6 =>
   (V.gl r4 (i64.wrap (i2 - 1))).bind fun x7 =>
   (V.gl bs x7).bind fun x8 =>
   some (decide (x6.Pod.Rank > x8.Pod.Rank)) else some false).bind fun c3 =>
   some c3).bind fun c4 =>
   if c4 = true then
    some (Out.ret false)
   else
    (law14_SchedCount.l2 r4 i2 FU (0 : Int)).bind fun o2 =>
    o2.on fun j2 =>
    law14_SchedCount.l1 bs r4 n (i64.wrap (i2 + 1))
  else
   some (Out.go ())
def law14_SchedCount.l3 (ms : List T_api_Machine) (bs : List T_api_Bound) (r3 : List T_api_Bound × List T_api_Move) : Nat → Int → Option (Out Bool Unit)
 | 0, _ => none
 | n3 + 1, i4 =>
  if (decide (i4 < (r3.2.length : Int))) = true then
   (V.gl r3.2 i4).bind fun x11 =>
   (ref09_Place bs x11.Pod).bind fun r5 =>
   (V.gl r3.2 i4).bind fun x12 =>
   (ref09_Find ms x12.To).bind fun r6 =>
   (if ((decide (r5 < 0)) || (decide (r6 < 0))) = true then some true else (V.gl bs r5).bind fun x13 =>
   some (!(V.seq x13.On (⟨#[]⟩ : ByteArray)))).bind fun c5 =>
   (if c5 = true then some true else (V.gl ms r6).bind fun x14 =>
   some (!x14.Ready)).bind fun c6 =>
   if c6 = true then
    some (Out.ret false)
   else
    law14_SchedCount.l3 ms bs r3 n3 (i64.wrap (i4 + 1))
  else
   some (Out.go ())
def law14_SchedCount (ms : List T_api_Machine) (bs : List T_api_Bound) : Option Bool :=
 (law14_right ms bs).bind fun r =>
 if (!r) = true then
  (law14_known).bind fun r2 =>
  some r2
 else
  (sched_Step ms bs).bind fun r3 =>
  (sched_Order bs).bind fun r4 =>
  (law14_SchedCount.l1 bs r4 FU (0 : Int)).bind fun o =>
  o.on fun j =>
  (law14_SchedCount.l3 ms bs r3 FU (0 : Int)).bind fun o3 =>
  o3.on fun j3 =>
  (ref09_On bs (⟨#[]⟩ : ByteArray)).bind fun r7 =>
  (if (((r4.length : Int) == (r7.length : Int)) && (decide ((r3.2.length : Int) ≤ (r4.length : Int)))) = true then (law14_known).bind fun r8 =>
  some r8 else some false).bind fun c7 =>
  some c7
theorem law14_SchedCount_ok (ms : List T_api_Machine) (bs : List T_api_Bound) : VS Try.prog 4 (law14_SchedCount ms bs) [L30 ms, L50 bs] [] .bool N0 := by
 refine A0 [.tmp 4] Try.func4 R R R fun r hm=>?_
 unfold law14_SchedCount at hm
 refine Ah tbk [] R R<|Ae<|Af<|Aa tbk [] 2 R R<|Ac R R<|Am hm 0 R fn8 R (K21 _ _) fun r hm=>Ab R R (Ct R)<|Ad<|An hm R (fun h2 hm=>Af<|Ac R R<|Am hm 0 R fn9 R (K34) fun r2 hm=>Ab R R (Ai R)<|Ad<|Rt1 hm R [] R R R) fun h2 hm=>Ak<|Af<|Aa tbk [] 2 R R<|Bd hm fun r3 h4 hm=>Ac R R<|VO.callK 0 R fn10 R (K33 ms bs r3 h4) fun _ _ h56=> ?_
 obtain ⟨ob,cap,ob2,cap2,rfl,rfl⟩:=h56
 refine Aa tbk [] 5 R R<|Ad<|Af<|Ab R R (Aj R)<|Ac R R<|Am hm 0 R fn11 R (K24 _) fun r4 hm=>Ab R R (Ai R)<|Ad<|Ae<|Ah tbk [] R R<|Bo hm (fun _ (_:Unit)=>[(0,L30 ms),(1,L50 bs),(6,Z53 ob2 r3.2 cap2),(7,L3 r4)]) (fun _ (_:Unit)=>[Q53 ob2 cap2 r3.2]) (fun o hm h9=>?_) fun j _ hm=> ?_
 ·refine Br (fun zn (zs:Int)=>law14_SchedCount.l1 bs r4 zn zs) (fun zs (_:Unit)=>[(0,L30 ms),(1,L50 bs),(6,Z53 ob2 r3.2 cap2),(7,L3 r4),(8,Iw zs)]) (fun _ (_:Unit)=>[Q53 ob2 cap2 r3.2]) _ () (fun _=>R) hm (Ag [1] R R) fun n i2 _ hm=> ?_
  rw [law14_SchedCount.l1] at hm
  refine Ae<|Af<|Aa tbk [] 2 R R<|Ab R R (Ax (VV.int .i64) R Bm)<|Ab R R (A9 R R R)<|Ad<|An hm R (fun h10 hm=>?_) fun h10 hm=> ?_
  ·refine Ak<|Ae<|Ay<|Ae<|Ae<|Bi 0 mixed<|Az tbk [0,1] [] (by kernel_rfl) R R R<|Bd hm fun x h11 hm=>A8 2 R R R (by kernel_rfl) (A5 (VV.int .i64) R R el37 h11)<|Az tbk [3,4,5] [] (by kernel_rfl) R R R<|Cz hm [13,12,11,10,9,8,7,6,5,4,3,2,1,0] 45 37 R (fun _ K' h12 J hm=>Az tbk [6,7,8,9,10,11,12,13] [] (by kernel_rfl) R R R<|J 7 R R (Bj hm)) (fun _ K' h12 J hm=>Az tbk [6,7] [] (by kernel_rfl) R R R<|Bd hm fun x2 h13 hm=>Ch 8 R R R R R R (by kernel_rfl) (A5 (VV.int .i64) R R el37 h13)<|Az tbk [9,10] [] (by kernel_rfl) R R R<|Ch 11 R R R R R R (by kernel_rfl) (Ax T_api_Bound.vv R Bn)<|Az tbk [12,13] [] (by kernel_rfl) R R R<|J 7 R R (Bj hm)) fun c hm=>A8 14 R R R (by kernel_rfl) (Aj R)<|Cz hm [24,23,22,21,20,19,18,17,16,15,14,13,12,11,10,9,8,7,6,5,4,3,2,1,0] 56 46 R (fun _ K' h15 J hm=>Az tbk [15,16,17,18,19,20,21,22,23,24] [] (by kernel_rfl) R R R<|J 9 R R (Bj hm)) (fun _ K' h15 J hm=>Az tbk [15,16,17] [] (by kernel_rfl) R R R<|Bd hm fun x3 h16 hm=>Ch 18 R R R R R R (by kernel_rfl) (A5 (VV.int .i64) R R el37 h16)<|Ch 19 R R R R R R (by kernel_rfl) (Bl R ld3 R)<|Bd hm fun x4 h17 hm=>Ch 20 R R R R R R (by kernel_rfl) (A5 T_api_Bound.vv R R el23 h17)<|Az tbk [21,22,23,24] [] (by kernel_rfl) R R R<|J 9 R R (Bj hm)) fun c2 hm=>A8 25 R R R (by kernel_rfl) (Aj R)<|Cz hm [50,49,48,47,46,45,44,43,42,41,40,39,38,37,36,35,34,33,32,31,30,29,28,27,26,25,24,23,22,21,20,19,18,17,16,15,14,13,12,11,10,9,8,7,6,5,4,3,2,1,0] 82 57 R (fun _ K' h19 J hm=>Az tbk [26,27,28,29,30,31,32,33,34,35,36,37,38,39,40,41,42,43,44,45,46,47,48,49,50] [] (by kernel_rfl) R R R<|J 24 R R (Bj hm)) (fun _ K' h19 J hm=>Az tbk [26,27,28] [] (by kernel_rfl) R R R<|Cz hm [49,48,47,46,45,44,43,42,41,40,39,38,37,36,35,34,33,32,31,30,29,28,27,26,25,24,23,22,21,20,19,18,17,16,15,14,13,12,11,10,9,8,7,6,5,4,3,2,1,0] 81 60 R (fun _ K' h20 J hm=>Az tbk [29,30,31] [] (by kernel_rfl) R R R<|Bd hm fun x5 h21 hm=>Ch 32 R R R R R R (by kernel_rfl) (A5 (VV.int .i64) R R el37 h21)<|Ch 33 R R R R R R (by kernel_rfl) (Bl R ld3 R)<|Bd hm fun x6 h22 hm=>Ch 34 R R R R R R (by kernel_rfl) (A5 T_api_Bound.vv R R el23 h22)<|Az tbk [35,36,37,38,39,40,41] [] (by kernel_rfl) R R R<|Bd hm fun x7 h23 hm=>Ch 42 R R R R R R (by kernel_rfl) (A5 (VV.int .i64) R R el37 h23)<|Ch 43 R R R R R R (by kernel_rfl) (Bl R ld3 R)<|Bd hm fun x8 h24 hm=>Ch 44 R R R R R R (by kernel_rfl) (A5 T_api_Bound.vv R R el23 h24)<|Az tbk [45,46,47,48,49] [] (by kernel_rfl) R R R<|J 20 R R (Bj hm)) (fun _ K' h20 J hm=>Az tbk [29,30,31,32,33,34,35,36,37,38,39,40,41,42,43,44,45,46,47,48,49] [] (by kernel_rfl) R R R<|J 20 R R (Bj hm)) fun c3 hm=>A8 50 R R R (by kernel_rfl) (Bk false R R R)<|J 4 R R (Bj hm)) fun c4 hm=>A1 (by kernel_rfl)<|?_
   refine An hm R (fun h27 hm=>Ah tbk [] R R<|have hm:=Lr hm h9;Rt1 hm R [] R R R) fun h27 hm=>Ak<|Ah tbk [] R R<|Bo hm (fun _ (_:Unit)=>[(0,L30 ms),(1,L50 bs),(6,Z53 ob2 r3.2 cap2),(7,L3 r4),(8,Iw i2)]) (fun _ (_:Unit)=>[Q53 ob2 cap2 r3.2]) (fun o2 hm h29=>?_) fun j2 _ hm=> ?_
   ·refine Br (fun zn (zs:Int)=>law14_SchedCount.l2 r4 i2 zn zs) (fun zs (_:Unit)=>[(0,L30 ms),(1,L50 bs),(6,Z53 ob2 r3.2 cap2),(7,L3 r4),(8,Iw i2),(9,Iw zs)]) (fun _ (_:Unit)=>[Q53 ob2 cap2 r3.2]) _ () (fun _=>R) hm (Ag [0] R R) fun n2 k2 _ hm=> ?_
    rw [law14_SchedCount.l2] at hm
    exact Ae<|Ah tbk [] R R<|An hm R (fun h30 hm=>Ak<|Ae<|Ay<|Ae<|Bi 0 mixed<|Az tbk [0,1] [] (by kernel_rfl) R R R<|Bd hm fun x9 h31 hm=>A8 2 R R R (by kernel_rfl) (A5 (VV.int .i64) R R el37 h31)<|Az tbk [3,4,5] [] (by kernel_rfl) R R R<|Bd hm fun x10 h32 hm=>A8 6 R R R (by kernel_rfl) (A5 (VV.int .i64) R R el37 h32)<|Az tbk [7,8] [] (by kernel_rfl) R R R<|A1 (by kernel_rfl)<|An hm R (fun h33 hm=>Ah tbk [] R R<|have hm:=Lr hm h29;have hm:=Lr hm h9;Rt1 hm R [] R R R) fun h33 hm=>Ak<|A7 tbk [] R R<|Ap _ () hm (Ag [0] R R)) fun h30 hm=>A3<|Ar () hm (Ag [0] R R)
   exact A7 tbk [] R R<|Ap _ () hm (Ag [0] R R)
  exact A3<|Ar () hm (Ag [0] R R)
 refine Ae<|Ah tbk [] R R<|Bo hm (fun _ (gg:Option Nat)=>[(1,L50 bs),(6,Z53 gg r3.2 cap2),(7,L3 r4)]) (fun _ (gg:Option Nat)=>[Q53 gg cap2 r3.2]) (fun o3 hm h35=>?_) fun j3 ob5 hm=> ?_
 ·refine Br (fun zn (zs:Int)=>law14_SchedCount.l3 ms bs r3 zn zs) (fun zs (zg:Option Nat)=>[(0,L30 ms),(1,L50 bs),(6,Z53 zg r3.2 cap2),(7,L3 r4),(10,Iw zs)]) (fun _ (zg:Option Nat)=>[Q53 zg cap2 r3.2]) _ _ (fun _=>R) hm (Ag [0] R R) fun n3 i4 ob4 hm=> ?_
  rw [law14_SchedCount.l3] at hm
  refine Ae<|Af<|Aa tbk [] 2 R R<|Ab R R (Cl T_api_Move.vv R B7)<|Ab R R (A9 R R R)<|Ad<|An hm R (fun h36 hm=>?_) fun h36 hm=> ?_
  ·refine Ak<|Ae<|Ay<|Af<|Aa tbk [] 3 R R<|Bd hm fun x11 h37 hm=>Cu 0 R (gl_pos T_api_Move.vv h37) fun b h38=> ?_
   subst h38
   exact Ab R R (C0 T_api_Move.vv R R el41 h37)<|Ab R R (C6 R fa53_0)<|Ab R R (Cw (i:=0) (y:=T_api_Move.vv x11) R R R (gl_map _ (gl_some h37).2) ld9 R)<|Ac R R<|Am hm 0 R fn12 R (K65 _ _) fun r5 hm=>Ab R R (Ai R)<|Ad<|Af<|Aa tbk [] 3 R R<|Bd hm fun x12 h40 hm=>Ab R R (C0 T_api_Move.vv R R el41 h40)<|Ab R R (C6 R fa53_1)<|Ab R R (Cw (i:=0) (y:=T_api_Move.vv x12) R R R (gl_map _ (gl_some h40).2) ld9 R)<|Ac R R<|Am hm 0 R fn13 R (K64 _ _) fun r6 hm=>Ab R R (Ai R)<|Ad<|Af<|Aa tbk [] 3 R R<|Cq tbk [] 3 122 119 R R R R R<|Ab R R (Aj R)<|Bc hm 7 130 123 R (fun _ K' h43 J hm=>Aa tbk [] 7 R R<|J 6 R R (Bj hm)) (fun _ K' h43 J hm=>Aa tbk [] 2 R R<|Bd hm fun x13 h44 hm=>Bf R R R R R (A5 T_api_Bound.vv R R el23 h44)<|Aa tbk [] 4 R R<|J 6 R R (Bj hm)) fun c5 hm=>Ab R R (Aj R)<|Bc hm 7 138 131 R (fun _ K' h46 J hm=>Aa tbk [] 7 R R<|J 6 R R (Bj hm)) (fun _ K' h46 J hm=>Aa tbk [] 2 R R<|Bd hm fun x14 h47 hm=>Bf R R R R R (A5 T_api_Machine.vv R R el22 h47)<|Aa tbk [] 4 R R<|J 6 R R (Bj hm)) fun c6 hm=>Ad<|An hm R (fun h49 hm=>Ah tbk [] R R<|have hm:=Lr hm h35;Rt1 hm R [] R R R) fun h49 hm=>Ak<|A7 tbk [] R R<|Ap _ _ hm (Ag [0] R R)
  exact A3<|Ar _ hm (Ag [0] R R)
 exact Af<|Ab R R (Aj R)<|Ab R R (Ax (VV.int .i64) R Bm)<|Ab R R (Aj R)<|Ac R R<|Ck hm 0 R fn14 R (K35 _ _) fun r7 ob6 cap3 hm=>Bh (Aw 0 [(142,L39 r7)] R ⟨⟨_,R,.here _ R⟩,trivial⟩ (FzH.refl _))<|Ab R R (Ax T_api_Pod.vv R Ce)<|Aa tbk [] 2 R R<|Cy 6 151 145 R (fun h52 K' J=>Bf R R R R R (Aj R)<|Bf R R R R R (Cl T_api_Move.vv R B7)<|Bf R R R R R (Aj R)<|Bf R R R R R (Ax (VV.int .i64) R Bm)<|Aa tbk [] 2 R R<|J 5 R R R) (fun K' J=>Aa tbk [] 6 R R<|J 5 R R R)<|Ab R R (Aj R)<|Bc hm 2 154 152 R (fun _ K' h53 J hm=>A2 R R R R R<|Am hm 0 R fn9 R (K34) fun r8 hm=>Ab R R (Bk true R R R)<|J 1 R R (Bj hm)) (fun _ K' h53 J hm=>Aa tbk [] 2 R R<|J 1 R R (Bj hm)) fun c7 hm=>Ab R R (Ai R)<|Ad<|Rt1 hm R [] R R R

end Go.Proofs.Ytbkdglcedgiogaa.M

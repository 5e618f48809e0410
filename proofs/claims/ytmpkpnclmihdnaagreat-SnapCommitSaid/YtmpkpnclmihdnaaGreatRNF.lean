/-
  Printed by a program of this session out of the loaded functions: models and their proofs. Own text.
-/
import Derived.Test.YtmpkpnclmihdnaaGreatRNF2
namespace Go.Proofs.YtmpkpnclmihdnaaGreat.M
open Go Go.Proofs Go.Proofs.YtmpkpnclmihdnaaGreat.V
open Go.IntKind (i64)
set_option linter.unusedVariables false
set_option maxRecDepth 20000
set_option maxHeartbeats 4000000
/-! trireme/triremeref11.Why -/
def ref11_Why (ms : List T_api_Machine) (bs : List T_api_Bound) (p : T_api_Pod) (on_ : ByteArray) : Option Int :=
 (ref11_Near ms bs p on_).bind fun r =>
 if r = true then
  some 7
 else
  (ref11_Many ms bs p on_).bind fun r2 =>
  if r2 = true then
   some 8
  else
   some 0
theorem K0 (ms : List T_api_Machine) (bs : List T_api_Bound) (p : T_api_Pod) (on_ : ByteArray) : VS Tryz.prog 118 (ref11_Why ms bs p on_) [L61 ms, L49 bs, T_api_Pod.vv p, .str on_] [] Iw N0 := by
 refine A4 [.tmp 8] Tryz.func118 R R R fun r hm=>?_
 unfold ref11_Why at hm
 exact Ai<|Ad R R<|Bg R R fun b=>Ab R R (Ak R)<|Ac<|Af<|Ai<|Aa tbk [0] 4 R R<|Ad R R<|Av hm 0 R fn167 R (K214 _ _ _ _) fun r hm=>Ac<|Ao hm R (fun h3 hm=>Ae tbk [] R R<|Rt1 hm R [] R R R) fun h3 hm=>Am<|Af<|Ai<|Aa tbk [0] 4 R R<|Ad R R<|Av hm 0 R fn168 R (K217 _ _ _ _) fun r2 hm=>Ac<|Ao hm R (fun h5 hm=>Ae tbk [] R R<|Rt1 hm R [] R R R) fun h5 hm=>Am<|Ae tbk [] R R<|Rt1 hm R [] R R R

/-! trireme/triremeref12.Why -/
def ref12_Why (ms : List T_api_Machine) (bs : List T_api_Bound) (p : T_api_Pod) (on_ : ByteArray) : Option Int :=
 (ref09_Find ms on_).bind fun r =>
 if (decide (r < 0)) = true then
  some 1
 else
  (V.gl ms r).bind fun x =>
  (ref10_Suits x bs p).bind fun r2 =>
  if (r2 != 0) = true then
   some r2
  else
   (ref11_Why ms bs p on_).bind fun r3 =>
   some r3
theorem K1 (ms : List T_api_Machine) (bs : List T_api_Bound) (p : T_api_Pod) (on_ : ByteArray) : VS Tryz.prog 64 (ref12_Why ms bs p on_) [L61 ms, L49 bs, T_api_Pod.vv p, .str on_] [] Iw N0 := by
 refine A4 [.tmp 8] Tryz.func64 R R R fun r hm=>?_
 unfold ref12_Why at hm
 refine Ai<|Ad R R<|Bg R R fun b=>Ab R R (Ak R)<|Ac<|Ai<|Aa tbk [] 2 R R<|Ad R R<|Av hm 0 R fn23 R (K166 _ _) fun r hm=>Ab R R (Ak R)<|Ac<|Af<|Ae tbk [] R R<|Ao hm R (fun h3 hm=>Ae tbk [] R R<|Rt1 hm R [] R R R) fun h3 hm=>Am<|Af<|Be 0 mixed<|Aq tbk [0,1] [] (by kernel_rfl) R R R<|Bd hm fun x h4 hm=>Ax 2 R R R (by kernel_rfl) (Bf T_api_Machine.vv R R el22 h4)<|Aq tbk [3,4,5] [0] (by kernel_rfl) R R R<|Ah 6 (by kernel_rfl)<|Bd hm fun r2 h5 hm=>Al R R R<|Au 0 R fn117 R (K211 x bs p r2 h5) fun _ _ h8=> ?_
 obtain ⟨rfl,rfl⟩:=h8
 exact Ax 7 R R R (by kernel_rfl) (Ak R)<|A0 (by kernel_rfl)<|Af<|Ae tbk [] R R<|Ao hm R (fun h6 hm=>Ae tbk [] R R<|Rt1 hm R [] R R R) fun h6 hm=>Am<|Ai<|Aa tbk [0] 4 R R<|Ad R R<|Av hm 0 R fn118 R (K0 _ _ _ _) fun r3 hm=>Ab R R (Ak R)<|Ac<|Rt1 hm R [] R R R

/-! (*trireme/triremeref13.Snap).Why -/
def ref13_Snap_Why (s : T_ref13_Snap) (p : T_api_Pod) (on_ : ByteArray) : Option Int :=
 (ref07_RightPod p).bind fun r =>
 if (!r) = true then
  some 1
 else
  (ref12_Why s.Y.Ms s.Y.Bs p on_).bind fun r2 =>
  some r2
theorem K2 (s : T_ref13_Snap) (p : T_api_Pod) (on_ : ByteArray) (b : Nat) (ob : Option Nat) (cap : Nat) : VS Tryz.prog 37 (ref13_Snap_Why s p on_) [.ptr b 0, T_api_Pod.vv p, .str on_] [.box b 82 [L61 s.Y.Ms, L49 s.Y.Bs, Z79 ob s.Kept cap], Q79 ob cap s.Kept] Iw (fun r=>[.box b 82 [L61 s.Y.Ms, L49 s.Y.Bs, Z79 ob s.Kept cap], Q79 ob cap s.Kept]) := by
 refine A4 [.tmp 6] Tryz.func37 R R R fun r hm=>?_
 unfold ref13_Snap_Why at hm
 exact Ai<|Ad R R<|Bg R R fun b2=>Ab R R (Ak R)<|Ac<|Af<|Ai<|Aa tbk [0] 1 R R<|Ad R R<|Av hm 0 R fn61 R (K165 _) fun r hm=>Ab R R (B6 R)<|Ac<|Ao hm R (fun h3 hm=>Ae tbk [] R R<|Rt1 hm R [1,1] R R R) fun h3 hm=>Am<|Af<|Be 0 mixed<|Aq tbk [0,1,2,3,4,5,6,7,8,9,10,11] [1,1,0] (by kernel_rfl) R R R<|Ah 12 (by kernel_rfl)<|Al R R R<|Av hm 0 R fn64 R (K1 _ _ _ _) fun r2 hm=>Ax 13 R R R (by kernel_rfl) (Ak R)<|A0 (by kernel_rfl)<|Rt1 hm R [1,1] R R R

/-! trireme/triremelaw13.does -/
def law13_does_x (s : T_snap_Snap) (r_ : T_ref13_Snap) (o : T_law13_Op) : Option (Bool × T_snap_Snap × T_ref13_Snap) :=
 if (o.Kind == 0) = true then
  (snap_Snap_Add_x s o.M).bind fun r =>
  (ref13_Snap_Add r_ o.M).bind fun r2 =>
  some ((r.1 == r2.1), r.2, r2.2)
 else
  if (o.Kind == 1) = true then
   (snap_Snap_Drop_x s o.Name).bind fun r3 =>
   (ref13_Snap_Drop r_ o.Name).bind fun r4 =>
   some ((r3.1 == r4.1), r3.2, r4.2)
  else
   if (o.Kind == 2) = true then
    (snap_Snap_Put_x s o.P_ o.Name).bind fun r5 =>
    (ref13_Snap_Put r_ o.P_ o.Name).bind fun r6 =>
    some ((r5.1 == r6.1), r5.2, r6.2)
   else
    if (o.Kind == 3) = true then
     (snap_Snap_Take_x s o.Name).bind fun r7 =>
     (ref13_Snap_Take r_ o.Name).bind fun r8 =>
     some ((r7.1 == r8.1), r7.2, r8.2)
    else
     if (o.Kind == 4) = true then
      (snap_Snap_Fork_x s).bind fun r9 =>
      (ref13_Snap_Fork r_).bind fun r10 =>
      some ((r9.1 == r10.1), r9.2, r10.2)
     else
      if (o.Kind == 5) = true then
       (snap_Snap_Commit_x s).bind fun r11 =>
       (ref13_Snap_Commit r_).bind fun r12 =>
       some ((r11.1 == r12.1), r11.2, r12.2)
      else
       (snap_Snap_Revert_x s).bind fun r13 =>
       (ref13_Snap_Revert r_).bind fun r14 =>
       some ((r13.1 == r14.1), r13.2, r14.2)
theorem K3 (s : T_snap_Snap) (r_ : T_ref13_Snap) (o : T_law13_Op) (b : Nat) (ob : Option Nat) (cap : Nat) (b2 : Nat) (ob2 : Option Nat) (cap2 : Nat) : ∀ r : Bool × T_snap_Snap × T_ref13_Snap, law13_does_x s r_ o = some r → VC Tryz.prog 32 [.ptr b 0, .ptr b2 0, T_law13_Op.vv o] [.box b 96 [T_snap_state.pf s.now, Z93 ob s.kept cap, Iw s.tried], Q93 ob cap s.kept, .box b2 82 [L61 r_.Y.Ms, L49 r_.Y.Bs, Z79 ob2 r_.Kept cap2], Q79 ob2 cap2 r_.Kept] fun zx zH => ∃ (ob0_1 : Option Nat) (cap0_1 : Nat) (ob1_2 : Option Nat) (cap1_2 : Nat), zx = .bool r.1 ∧ zH = [.box b 96 [T_snap_state.pf r.2.1.now, Z93 ob0_1 r.2.1.kept cap0_1, Iw r.2.1.tried], Q93 ob0_1 cap0_1 r.2.1.kept, .box b2 82 [L61 r.2.2.Y.Ms, L49 r.2.2.Y.Bs, Z79 ob1_2 r.2.2.Kept cap1_2], Q79 ob1_2 cap1_2 r.2.2.Kept] := by
 refine VCx.run [.tmp 6] Tryz.func32 R R R fun r hm=>?_
 unfold law13_does_x at hm
 refine Ai<|Ad R R<|Bg R R fun b3=>Ab R R (Ak R)<|Ac<|Af<|Ae tbk [0] R R<|A2<|Ae tbk [] R R<|Ao hm R (fun h2 hm=>?_) fun h2 hm=> ?_
 ·refine Af<|Bz (Bi [1,1,1,1,0] R)<|Be 4 mixed<|Aq tbk [0,1,2,4,5,6] [0,0] (by kernel_rfl) R R R<|Ah 3 (by kernel_rfl)<|Bd hm fun r h3 hm=>Al R R R<|Au 2 R fn39 R (K74 s o.M b ob cap r h3) fun _ _ h6=> ?_
  obtain ⟨ob3,cap3,rfl,rfl⟩:=h6
  refine Ah 7 (by kernel_rfl)<|Bd hm fun r2 h4 hm=>Al R R R<|Da (Bi [2,2,0,0] R)<|Au 2 R fn70 R (K171 r_ o.M b2 ob2 cap2 r2 h4) fun _ _ h5=> ?_
  obtain ⟨ob4,cap4,rfl,rfl⟩:=h5
  refine Aq tbk [8,9] [] (by kernel_rfl) R R R<|A0 (by kernel_rfl)<|?_
  obtain rfl:=Option.some.inj hm
  exact C5 ⟨.inl R,_,.cons (.tmp _ _ R) .nil,[2,2,0,0],_,R,ob3,cap3,ob4,cap4,R,R⟩
 refine Ae tbk [] R R<|Ao hm R (fun h7 hm=>?_) fun h7 hm=> ?_
 ·refine Af<|Bz (Bi [1,1,1,1,0] R)<|Be 4 mixed<|Aq tbk [0,1,2,4,5,6] [0,0] (by kernel_rfl) R R R<|Ah 3 (by kernel_rfl)<|Bd hm fun r3 h8 hm=>Al R R R<|Au 2 R fn40 R (K85 s o.Name b ob cap r3 h8) fun _ _ h11=> ?_
  obtain ⟨ob5,cap5,rfl,rfl⟩:=h11
  refine Ah 7 (by kernel_rfl)<|Bd hm fun r4 h9 hm=>Al R R R<|Da (Bi [2,2,0,0] R)<|Au 2 R fn71 R (K173 r_ o.Name b2 ob2 cap2 r4 h9) fun _ _ h10=> ?_
  obtain ⟨ob6,cap6,rfl,rfl⟩:=h10
  refine Aq tbk [8,9] [] (by kernel_rfl) R R R<|A0 (by kernel_rfl)<|?_
  obtain rfl:=Option.some.inj hm
  exact C5 ⟨.inl R,_,.cons (.tmp _ _ R) .nil,[2,2,0,0],_,R,ob5,cap5,ob6,cap6,R,R⟩
 refine Ae tbk [] R R<|Ao hm R (fun h12 hm=>?_) fun h12 hm=> ?_
 ·refine Af<|Bz (Bi [1,1,1,1,0] R)<|Be 4 mixed<|Aq tbk [0,1,2,3,4,6,7,8,9,10] [0,0,0,0] (by kernel_rfl) R R R<|Ah 5 (by kernel_rfl)<|Bd hm fun r5 h13 hm=>Al R R R<|Au 2 R fn41 R (K81 s o.P_ o.Name b ob cap r5 h13) fun _ _ h16=> ?_
  obtain ⟨ob7,cap7,rfl,rfl⟩:=h16
  refine Ah 11 (by kernel_rfl)<|Bd hm fun r6 h14 hm=>Al R R R<|Da (Bi [2,2,0,0] R)<|Au 2 R fn72 R (K176 r_ o.P_ o.Name b2 ob2 cap2 r6 h14) fun _ _ h15=> ?_
  obtain ⟨ob8,cap8,rfl,rfl⟩:=h15
  refine Aq tbk [12,13] [] (by kernel_rfl) R R R<|A0 (by kernel_rfl)<|?_
  obtain rfl:=Option.some.inj hm
  exact C5 ⟨.inl R,_,.cons (.tmp _ _ R) .nil,[2,2,0,0],_,R,ob7,cap7,ob8,cap8,R,R⟩
 refine Ae tbk [] R R<|Ao hm R (fun h17 hm=>?_) fun h17 hm=> ?_
 ·refine Af<|Bz (Bi [1,1,1,1,0] R)<|Be 4 mixed<|Aq tbk [0,1,2,4,5,6] [0,0] (by kernel_rfl) R R R<|Ah 3 (by kernel_rfl)<|Bd hm fun r7 h18 hm=>Al R R R<|Au 2 R fn42 R (K142 s o.Name b ob cap r7 h18) fun _ _ h21=> ?_
  obtain ⟨ob9,cap9,rfl,rfl⟩:=h21
  refine Ah 7 (by kernel_rfl)<|Bd hm fun r8 h19 hm=>Al R R R<|Da (Bi [2,2,0,0] R)<|Au 2 R fn73 R (K177 r_ o.Name b2 ob2 cap2 r8 h19) fun _ _ h20=> ?_
  obtain ⟨ob10,cap10,rfl,rfl⟩:=h20
  refine Aq tbk [8,9] [] (by kernel_rfl) R R R<|A0 (by kernel_rfl)<|?_
  obtain rfl:=Option.some.inj hm
  exact C5 ⟨.inl R,_,.cons (.tmp _ _ R) .nil,[2,2,0,0],_,R,ob9,cap9,ob10,cap10,R,R⟩
 refine Ae tbk [] R R<|Ao hm R (fun h22 hm=>?_) fun h22 hm=> ?_
 ·refine Ai<|Ab R R (Aj R)<|Bl (Bi [1,1,0,0,0] R)<|Ad R R<|B3 hm 2 R fn38 R (K67 _ _ _ _) fun r9 ob11 cap11 hm=>Ab R R (Aj R)<|Bl (Bi [3,3,0,0,0] R)<|Ad R R<|B3 hm 2 R fn74 R (K178 _ _ _ _) fun r10 ob12 cap12 hm=>Aa tbk [] 2 R R<|Ac<|?_
  obtain rfl:=Option.some.inj hm
  exact C5 ⟨.inl R,_,.cons (.tmp _ _ R) .nil,[2,2,0,0],_,R,ob11,cap11,ob12,cap12,R,R⟩
 refine Ae tbk [] R R<|Ao hm R (fun h25 hm=>?_) fun h25 hm=> ?_
 ·refine Ai<|Ab R R (Aj R)<|Bl (Bi [1,1,0,0,0] R)<|Ad R R<|B3 hm 2 R fn44 R (K139 _ _ _ _) fun r11 ob13 cap13 hm=>Ab R R (Aj R)<|Bl (Bi [3,3,0,0,0] R)<|Ad R R<|B3 hm 2 R fn75 R (K179 _ _ _ _) fun r12 ob14 cap14 hm=>Aa tbk [] 2 R R<|Ac<|?_
  obtain rfl:=Option.some.inj hm
  exact C5 ⟨.inl R,_,.cons (.tmp _ _ R) .nil,[2,2,0,0],_,R,ob13,cap13,ob14,cap14,R,R⟩
 refine Am<|Ai<|Ab R R (Aj R)<|Bl (Bi [1,1,0,0,0] R)<|Ad R R<|B3 hm 2 R fn43 R (K135 _ _ _ _) fun r13 ob15 cap15 hm=>Ab R R (Aj R)<|Bl (Bi [3,3,0,0,0] R)<|Ad R R<|B3 hm 2 R fn76 R (K180 _ _ _ _) fun r14 ob16 cap16 hm=>Aa tbk [] 2 R R<|Ac<|?_
 obtain rfl:=Option.some.inj hm
 exact C5 ⟨.inl R,_,.cons (.tmp _ _ R) .nil,[2,2,0,0],_,R,ob15,cap15,ob16,cap16,R,R⟩

/-! trireme/triremelaw13.SnapPlays -/
def law13_SnapPlays.l1 (script : List T_law13_Op) : Nat → T_ref13_Snap → Int → Option (Out Bool Unit)
 | 0, _, _ => none
 | n + 1, r6, i2 =>
  if (((decide (i2 < (script.length : Int))) && (decide (i2 < 30))) && false) = true then
   (V.gl script i2).bind fun x2 =>
   (law13_light x2).bind fun r7 =>
   if (!r7) = true then
    law13_SnapPlays.l1 script n r6 (i64.wrap (i2 + 1))
   else
    (V.gl script i2).bind fun x3 =>
    (law13_does r6 x3).bind fun r8 =>
    (if (!r8.1) = true then some true else (snap_Snap_Depth).bind fun r9 =>
    some (r9 != (r8.2.Kept.length : Int))).bind fun c =>
    (if c = true then some true else (snap_Snap_Machines).bind fun r11 =>
    (snap_Snap_Bounds).bind fun r12 =>
    (ref09_Same r11 r12 r8.2.Y.Ms r8.2.Y.Bs).bind fun r13 =>
    some (!r13)).bind fun c2 =>
    if c2 = true then
     some (Out.ret false)
    else
     (V.gl script i2).bind fun x4 =>
     (V.gl script i2).bind fun x5 =>
     (V.gl script i2).bind fun x6 =>
     (V.gl script i2).bind fun x7 =>
     (snap_Snap_Why x4.P_ x5.Name).bind fun r39 =>
     (ref13_Snap_Why r8.2 x6.P_ x7.Name).bind fun r40 =>
     (if (r39 != r40) = true then some true else (snap_Snap_Machines).bind fun r41 =>
     (snap_Snap_Bounds).bind fun r42 =>
     (ref09_Check r41 r42).bind fun r43 =>
     some (r43 != 0)).bind fun c3 =>
     if c3 = true then
      some (Out.ret false)
     else
      law13_SnapPlays.l1 script n r8.2 (i64.wrap (i2 + 1))
  else
   some (Out.go ())
def law13_SnapPlays.l2 (script : List T_law13_Op) : Nat → T_snap_Snap → T_ref13_Snap → Int → Option (Out Bool Unit)
 | 0, _, _, _ => none
 | n2 + 1, s2, r47, i4 =>
  if (((decide (i4 < (script.length : Int))) && (decide (i4 < 30))) && true) = true then
   (V.gl script i4).bind fun x8 =>
   (law13_light x8).bind fun r48 =>
   if (!r48) = true then
    law13_SnapPlays.l2 script n2 s2 r47 (i64.wrap (i4 + 1))
   else
    (V.gl script i4).bind fun x9 =>
    (law13_does_x s2 r47 x9).bind fun r49 =>
    (if (!r49.1) = true then some true else (snap_Snap_Depth_x r49.2.1).bind fun r50 =>
    some (r50 != (r49.2.2.Kept.length : Int))).bind fun c4 =>
    (if c4 = true then some true else (snap_Snap_Machines_x r49.2.1).bind fun r52 =>
    (snap_Snap_Bounds_x r49.2.1).bind fun r53 =>
    (ref09_Same r52 r53 r49.2.2.Y.Ms r49.2.2.Y.Bs).bind fun r54 =>
    some (!r54)).bind fun c5 =>
    if c5 = true then
     some (Out.ret false)
    else
     (V.gl script i4).bind fun x10 =>
     (V.gl script i4).bind fun x11 =>
     (V.gl script i4).bind fun x12 =>
     (V.gl script i4).bind fun x13 =>
     (snap_Snap_Why_x r49.2.1 x10.P_ x11.Name).bind fun r80 =>
     (ref13_Snap_Why r49.2.2 x12.P_ x13.Name).bind fun r81 =>
     (if (r80 != r81) = true then some true else (snap_Snap_Machines_x r49.2.1).bind fun r82 =>
     (snap_Snap_Bounds_x r49.2.1).bind fun r83 =>
     (ref09_Check r82 r83).bind fun r84 =>
     some (r84 != 0)).bind fun c6 =>
     if c6 = true then
      some (Out.ret false)
     else
      law13_SnapPlays.l2 script n2 r49.2.1 r49.2.2 (i64.wrap (i4 + 1))
  else
   some (Out.go ())
def law13_SnapPlays (ms : List T_api_Machine) (bs : List T_api_Bound) (script : List T_law13_Op) : Option Bool :=
 (ref09_Light ms bs).bind fun r =>
 if (!r) = true then
  (law13_known).bind fun r2 =>
  some r2
 else
  (snap_New ms bs).bind fun r3 =>
  po r3.1 (
   (ref13_New ms bs).bind fun r4 =>
   if ((r3.2 != r4.2) || (!(false == (r4.2 == 0)))) = true then
    some false
   else
    (law13_SnapPlays.l1 script FU r4.1 (0 : Int)).bind fun o =>
    o.on fun j =>
    (law13_known).bind fun r44 =>
    some r44) fun x =>
  (ref13_New ms bs).bind fun r45 =>
  if ((r3.2 != r45.2) || (!(true == (r45.2 == 0)))) = true then
   some false
  else
   (law13_SnapPlays.l2 script FU x r45.1 (0 : Int)).bind fun o2 =>
   o2.on fun j2 =>
   (law13_known).bind fun r85 =>
   some r85
theorem law13_SnapPlays_ok (ms : List T_api_Machine) (bs : List T_api_Bound) (script : List T_law13_Op) : VS Tryz.prog 7 (law13_SnapPlays ms bs script) [L61 ms, L49 bs, L75 script] [] .bool N0 := by
 refine A4 [.tmp 6] Tryz.func7 R R R fun r hm=>?_
 unfold law13_SnapPlays at hm
 refine Ae tbk [] R R<|Af<|Ai<|Aa tbk [] 2 R R<|Ad R R<|Av hm 0 R fn27 R (K9 _ _) fun r hm=>Ab R R (B6 R)<|Ac<|Ao hm R (fun h2 hm=>Ai<|Ad R R<|Av hm 0 R fn28 R (K143) fun r2 hm=>Ab R R (Ak R)<|Ac<|Rt1 hm R [] R R R) fun h2 hm=>Am<|Ai<|Aa tbk [] 2 R R<|Bd hm fun r3 h4 hm=>Ad R R<|Au 0 R fn29 R (K47 ms bs r3 h4) fun _ _ h212=> ?_
 obtain ⟨b,ob,cap,rfl,rfl⟩:=h212
 rcases po_or hm with ⟨h211,hm⟩ | ⟨x,h211,hm⟩
 ·rw [h211]
  refine Aa tbk [] 5 R R<|Ac<|Ai<|Aa tbk [] 2 R R<|Bd hm fun r4 h7 hm=>Ad R R<|Au 0 R fn30 R (K169 ms bs r4 h7) fun _ _ h117=> ?_
  obtain ⟨b2,ob2,cap2,rfl,rfl⟩:=h117
  refine Aa tbk [] 5 R R<|Ac<|Af<|Ai<|Aa tbk [] 4 R R<|Cv 6 38 32 R (fun K' J=>Aa tbk [] 6 R R<|J 5 R R R) (fun h10 K' J=>Bb R R R R R (Aj R)<|Bb R R R R R (Dk B9 R R)<|Aa tbk [] 2 R R<|Bb R R R R R (VP.boolop Dp R R R)<|Ab R R (Bk false R R R)<|J 5 R R R)<|Ac<|Ao hm R (fun h11 hm=>Ae tbk [] R R<|Rt1 hm R [] R R R) fun h11 hm=>Am<|Af<|Ae tbk [] R R<|Bw hm (fun _ (_:Unit)=>[]) (fun _ (_:Unit)=>[]) (fun o hm h13=>?_) fun j _ hm=> ?_
  ·refine B1 (fun zn (zs:T_ref13_Snap × Int)=>law13_SnapPlays.l1 script zn zs.1 zs.2) (fun zs (_:Option Nat × Nat)=>[(2,L75 script),(7,.nilptr),(9,.ptr b2 0),(11,Iw zs.2)]) (fun zs (zg:Option Nat × Nat)=>[.box b2 82 [L61 zs.1.Y.Ms,L49 zs.1.Y.Bs,Z79 zg.1 zs.1.Kept zg.2],Q79 zg.1 zg.2 zs.1.Kept]) (r4.1,(0 : Int)) (ob2,cap2) (fun _=>R) hm (Ag [0,0] R R) fun n=>Pq fun r6 i2=>Pq fun ob4 cap4 hm=> ?_
   rw [law13_SnapPlays.l1] at hm
   refine Af<|Ai<|Aa tbk [] 2 R R<|Ab R R (Aw T_law13_Op.vv R C2)<|Aa tbk [] 2 R R<|B5 tbk [] 3 46 43 R R R R R<|Ab R R (Aj R)<|Db 3 50 47 R (fun h15 K' J=>Bb R R R R R (Aj R)<|Bb R R R R R (Dk B9 R R)<|Ab R R (Bk true R R R)<|J 2 R R R) (fun K' J=>Aa tbk [] 3 R R<|J 2 R R R)<|Ac<|Ao hm R (fun h16 hm=>?_) fun h16 hm=> ?_
   ·refine Am<|Af<|A2<|Af<|Ai<|Aa tbk [] 2 R R<|Bd hm fun x2 h17 hm=>Ab R R (Bf T_law13_Op.vv R R el66 h17)<|Ab R R (Bt R ld75 R)<|Ad R R<|Av hm 0 R fn31 R (K170 _) fun r7 hm=>Ab R R (B6 R)<|Ac<|Ao hm R (fun h19 hm=>A7<|Bc tbk [] R R<|Ap (r6,(IntKind.i64.wrap (i2 + (1 : Int)))) (ob4,cap4) hm (Ag [0,0] R R)) fun h19 hm=>Am<|Af<|Af<|Be 2 mixed<|Aq tbk [0,1,2,3] [] (by kernel_rfl) R R R<|Bd hm fun x3 h20 hm=>Ax 4 R R R (by kernel_rfl) (Bf T_law13_Op.vv R R el66 h20)<|Ax 5 R R R (by kernel_rfl) (Bt R ld75 R)<|Ah 6 (by kernel_rfl)<|Bd hm fun r8 h21 hm=>Al R R R<|Au 2 R fn32 R (K181 r6 x3 b2 ob4 cap4 r8 h21) fun _ _ h115=> ?_
    obtain ⟨ob5,cap5,rfl,rfl⟩:=h115
    refine Aq tbk [7,8] [] (by kernel_rfl) R R R<|Cw hm [17,16,15,14,13,12,11,10,9,8,7,6,5,4,3,2,1,0] 76 67 R (fun _ K' h22 J hm=>Aq tbk [9,10,11,12,13,14,15,16,17] [] (by kernel_rfl) R R R<|J 8 R R (Bj hm)) (fun _ K' h22 J hm=>?_) fun c hm=> ?_
    ·refine Aq tbk [9,11,12,13] [] (by kernel_rfl) R R R<|?_
     refine Bm [10,14] (by kernel_rfl) ⟨?_,?_,trivial⟩
     ·exact Bo R R R R R R<|Av hm 0 R fn33 R (K56) fun r9 hm=>Ah 14 (by kernel_rfl)<|Bo R R R R R R<|A8 (Az (i:=0) R R ld80 R)<|Cs 15 R R R R R R (by kernel_rfl) (Cq T_ref13_Yard.vv R Cb)<|Aq tbk [16,17] [] (by kernel_rfl) R R R<|Ce [17,16,15,14,13,12,11,10,9,8,7,6,5,4,3,2,1,0] (by kernel_rfl) R<|J 8 R R (Bj hm)
     ·refine Bo R R R R R R<|A8 (Az (i:=0) R R ld80 R)<|Cs 15 R R R R R R (by kernel_rfl) (Cq T_ref13_Yard.vv R Cb)<|Ah 10 (by kernel_rfl)<|Bd hm fun r10 h24 hm=>Bo R R R R R R<|Au 0 R fn33 R (K56 r10 h24) fun _ _ h25=> ?_
      obtain ⟨rfl,rfl⟩:=h25
      exact Aq tbk [16,17] [] (by kernel_rfl) R R R<|Ce [17,16,15,14,13,12,11,10,9,8,7,6,5,4,3,2,1,0] (by kernel_rfl) R<|J 8 R R (Bj hm)
    refine Ax 18 R R R (by kernel_rfl) (Aj R)<|Cw hm [35,34,33,32,31,30,29,28,27,26,25,24,23,22,21,20,19,18,17,16,15,14,13,12,11,10,9,8,7,6,5,4,3,2,1,0] 94 77 R (fun _ K' h27 J hm=>Aq tbk [19,20,21,22,23,24,25,26,27,28,29,30,31,32,33,34,35] [] (by kernel_rfl) R R R<|J 16 R R (Bj hm)) (fun _ K' h27 J hm=>?_) fun c2 hm=> ?_
    ·refine Aq tbk [19,21,23,24,25,26,28,29,30,31] [] (by kernel_rfl) R R R<|?_
     refine Bm [20,27,32] (by kernel_rfl) ⟨?_,?_,?_,trivial⟩
     ·refine Bo R R R R R R<|B3 hm 0 R fn34 R (K61) fun r11 ob6 cap6 hm=>Ck (A6 0 [(79,L61 r11)] R ⟨⟨_,R,.here _ R⟩,trivial⟩ (FzH.refl _))<|?_
      refine Bm [22,27,32] (by kernel_rfl) ⟨?_,?_,?_,trivial⟩
      ·refine Bo R R R R R R<|B3 hm 0 R fn35 R (K57) fun r12 ob7 cap7 hm=>Ck (A6 0 [(81,L49 r12)] R ⟨⟨_,R,.here _ R⟩,trivial⟩ (FzH.refl _))<|?_
       refine Bm [27,32] (by kernel_rfl) ⟨?_,?_,trivial⟩
       ·exact Bo R R R R R R<|A8 (Az (i:=0) R R ld22 R)<|Ah 32 (by kernel_rfl)<|Bo R R R R R R<|A8 (Az (i:=0) R R ld23 R)<|Ah 33 (by kernel_rfl)<|Bo R R R R R R<|Av hm 0 R fn19 R (K196 _ _ _ _) fun r13 hm=>Aq tbk [34,35] [] (by kernel_rfl) R R R<|Ce [35,34,33,32,31,30,29,28,27,26,25,24,23,22,21,20,19,18,17,16,15,14,13,12,11,10,9,8,7,6,5,4,3,2,1,0] (by kernel_rfl) R<|J 18 R R (Bj hm)
       ·refine Bo R R R R R R<|A8 (Az (i:=0) R R ld23 R)<|Ah 27 (by kernel_rfl)<|Bo R R R R R R<|A8 (Az (i:=0) R R ld22 R)<|Ah 33 (by kernel_rfl)<|Bd hm fun r14 h33 hm=>Bo R R R R R R<|Au 0 R fn19 R (K196 r11 r12 r8.2.Y.Ms r8.2.Y.Bs r14 h33) fun _ _ h34=> ?_
        obtain ⟨rfl,rfl⟩:=h34
        exact Aq tbk [34,35] [] (by kernel_rfl) R R R<|Ce [35,34,33,32,31,30,29,28,27,26,25,24,23,22,21,20,19,18,17,16,15,14,13,12,11,10,9,8,7,6,5,4,3,2,1,0] (by kernel_rfl) R<|J 18 R R (Bj hm)
      ·refine Bo R R R R R R<|A8 (Az (i:=0) R R ld22 R)<|?_
       refine Bm [22,32] (by kernel_rfl) ⟨?_,?_,trivial⟩
       ·refine Bd hm fun r15 h35 hm=>Bo R R R R R R<|Au 0 R fn35 R (K57 r15 h35) fun _ _ h39=> ?_
        obtain ⟨ob8,cap8,rfl,rfl⟩:=h39
        refine Ck (A6 0 [(81,L49 r15)] R ⟨⟨_,R,.here _ R⟩,trivial⟩ (FzH.refl _))<|Ah 32 (by kernel_rfl)<|Bo R R R R R R<|A8 (Az (i:=0) R R ld23 R)<|Ah 33 (by kernel_rfl)<|Bd hm fun r16 h37 hm=>Bo R R R R R R<|Au 0 R fn19 R (K196 r11 r15 r8.2.Y.Ms r8.2.Y.Bs r16 h37) fun _ _ h38=> ?_
        obtain ⟨rfl,rfl⟩:=h38
        exact Aq tbk [34,35] [] (by kernel_rfl) R R R<|Ce [35,34,33,32,31,30,29,28,27,26,25,24,23,22,21,20,19,18,17,16,15,14,13,12,11,10,9,8,7,6,5,4,3,2,1,0] (by kernel_rfl) R<|J 18 R R (Bj hm)
       ·refine Bo R R R R R R<|A8 (Az (i:=0) R R ld23 R)<|Ah 22 (by kernel_rfl)<|Bd hm fun r17 h40 hm=>Bo R R R R R R<|Au 0 R fn35 R (K57 r17 h40) fun _ _ h44=> ?_
        obtain ⟨ob9,cap9,rfl,rfl⟩:=h44
        refine Ck (A6 0 [(81,L49 r17)] R ⟨⟨_,R,.here _ R⟩,trivial⟩ (FzH.refl _))<|Ah 33 (by kernel_rfl)<|Bd hm fun r18 h42 hm=>Bo R R R R R R<|Au 0 R fn19 R (K196 r11 r17 r8.2.Y.Ms r8.2.Y.Bs r18 h42) fun _ _ h43=> ?_
        obtain ⟨rfl,rfl⟩:=h43
        exact Aq tbk [34,35] [] (by kernel_rfl) R R R<|Ce [35,34,33,32,31,30,29,28,27,26,25,24,23,22,21,20,19,18,17,16,15,14,13,12,11,10,9,8,7,6,5,4,3,2,1,0] (by kernel_rfl) R<|J 18 R R (Bj hm)
      ·refine Bo R R R R R R<|A8 (Az (i:=0) R R ld23 R)<|?_
       refine Bm [22,27] (by kernel_rfl) ⟨?_,?_,trivial⟩
       ·refine Bd hm fun r19 h45 hm=>Bo R R R R R R<|Au 0 R fn35 R (K57 r19 h45) fun _ _ h49=> ?_
        obtain ⟨ob10,cap10,rfl,rfl⟩:=h49
        refine Ck (A6 0 [(81,L49 r19)] R ⟨⟨_,R,.here _ R⟩,trivial⟩ (FzH.refl _))<|Ah 27 (by kernel_rfl)<|Bo R R R R R R<|A8 (Az (i:=0) R R ld22 R)<|Ah 33 (by kernel_rfl)<|Bd hm fun r20 h47 hm=>Bo R R R R R R<|Au 0 R fn19 R (K196 r11 r19 r8.2.Y.Ms r8.2.Y.Bs r20 h47) fun _ _ h48=> ?_
        obtain ⟨rfl,rfl⟩:=h48
        exact Aq tbk [34,35] [] (by kernel_rfl) R R R<|Ce [35,34,33,32,31,30,29,28,27,26,25,24,23,22,21,20,19,18,17,16,15,14,13,12,11,10,9,8,7,6,5,4,3,2,1,0] (by kernel_rfl) R<|J 18 R R (Bj hm)
       ·refine Bo R R R R R R<|A8 (Az (i:=0) R R ld22 R)<|Ah 22 (by kernel_rfl)<|Bd hm fun r21 h50 hm=>Bo R R R R R R<|Au 0 R fn35 R (K57 r21 h50) fun _ _ h54=> ?_
        obtain ⟨ob11,cap11,rfl,rfl⟩:=h54
        refine Ck (A6 0 [(81,L49 r21)] R ⟨⟨_,R,.here _ R⟩,trivial⟩ (FzH.refl _))<|Ah 33 (by kernel_rfl)<|Bd hm fun r22 h52 hm=>Bo R R R R R R<|Au 0 R fn19 R (K196 r11 r21 r8.2.Y.Ms r8.2.Y.Bs r22 h52) fun _ _ h53=> ?_
        obtain ⟨rfl,rfl⟩:=h53
        exact Aq tbk [34,35] [] (by kernel_rfl) R R R<|Ce [35,34,33,32,31,30,29,28,27,26,25,24,23,22,21,20,19,18,17,16,15,14,13,12,11,10,9,8,7,6,5,4,3,2,1,0] (by kernel_rfl) R<|J 18 R R (Bj hm)
     ·refine Bo R R R R R R<|A8 (Az (i:=0) R R ld22 R)<|?_
      refine Bm [20,32] (by kernel_rfl) ⟨?_,?_,trivial⟩
      ·refine Bd hm fun r23 h55 hm=>Bo R R R R R R<|Au 0 R fn34 R (K61 r23 h55) fun _ _ h67=> ?_
       obtain ⟨ob12,cap12,rfl,rfl⟩:=h67
       refine Ck (A6 0 [(79,L61 r23)] R ⟨⟨_,R,.here _ R⟩,trivial⟩ (FzH.refl _))<|?_
       refine Bm [22,32] (by kernel_rfl) ⟨?_,?_,trivial⟩
       ·refine Bd hm fun r24 h57 hm=>Bo R R R R R R<|Au 0 R fn35 R (K57 r24 h57) fun _ _ h61=> ?_
        obtain ⟨ob13,cap13,rfl,rfl⟩:=h61
        refine Ck (A6 0 [(81,L49 r24)] R ⟨⟨_,R,.here _ R⟩,trivial⟩ (FzH.refl _))<|Ah 32 (by kernel_rfl)<|Bo R R R R R R<|A8 (Az (i:=0) R R ld23 R)<|Ah 33 (by kernel_rfl)<|Bd hm fun r25 h59 hm=>Bo R R R R R R<|Au 0 R fn19 R (K196 r23 r24 r8.2.Y.Ms r8.2.Y.Bs r25 h59) fun _ _ h60=> ?_
        obtain ⟨rfl,rfl⟩:=h60
        exact Aq tbk [34,35] [] (by kernel_rfl) R R R<|Ce [35,34,33,32,31,30,29,28,27,26,25,24,23,22,21,20,19,18,17,16,15,14,13,12,11,10,9,8,7,6,5,4,3,2,1,0] (by kernel_rfl) R<|J 18 R R (Bj hm)
       ·refine Bo R R R R R R<|A8 (Az (i:=0) R R ld23 R)<|Ah 22 (by kernel_rfl)<|Bd hm fun r26 h62 hm=>Bo R R R R R R<|Au 0 R fn35 R (K57 r26 h62) fun _ _ h66=> ?_
        obtain ⟨ob14,cap14,rfl,rfl⟩:=h66
        refine Ck (A6 0 [(81,L49 r26)] R ⟨⟨_,R,.here _ R⟩,trivial⟩ (FzH.refl _))<|Ah 33 (by kernel_rfl)<|Bd hm fun r27 h64 hm=>Bo R R R R R R<|Au 0 R fn19 R (K196 r23 r26 r8.2.Y.Ms r8.2.Y.Bs r27 h64) fun _ _ h65=> ?_
        obtain ⟨rfl,rfl⟩:=h65
        exact Aq tbk [34,35] [] (by kernel_rfl) R R R<|Ce [35,34,33,32,31,30,29,28,27,26,25,24,23,22,21,20,19,18,17,16,15,14,13,12,11,10,9,8,7,6,5,4,3,2,1,0] (by kernel_rfl) R<|J 18 R R (Bj hm)
      ·refine Bo R R R R R R<|A8 (Az (i:=0) R R ld23 R)<|Ah 20 (by kernel_rfl)<|Bd hm fun r28 h68 hm=>Bo R R R R R R<|Au 0 R fn34 R (K61 r28 h68) fun _ _ h75=> ?_
       obtain ⟨ob15,cap15,rfl,rfl⟩:=h75
       refine Ck (A6 0 [(79,L61 r28)] R ⟨⟨_,R,.here _ R⟩,trivial⟩ (FzH.refl _))<|Ah 22 (by kernel_rfl)<|Bd hm fun r29 h70 hm=>Bo R R R R R R<|Au 0 R fn35 R (K57 r29 h70) fun _ _ h74=> ?_
       obtain ⟨ob16,cap16,rfl,rfl⟩:=h74
       refine Ck (A6 0 [(81,L49 r29)] R ⟨⟨_,R,.here _ R⟩,trivial⟩ (FzH.refl _))<|Ah 33 (by kernel_rfl)<|Bd hm fun r30 h72 hm=>Bo R R R R R R<|Au 0 R fn19 R (K196 r28 r29 r8.2.Y.Ms r8.2.Y.Bs r30 h72) fun _ _ h73=> ?_
       obtain ⟨rfl,rfl⟩:=h73
       exact Aq tbk [34,35] [] (by kernel_rfl) R R R<|Ce [35,34,33,32,31,30,29,28,27,26,25,24,23,22,21,20,19,18,17,16,15,14,13,12,11,10,9,8,7,6,5,4,3,2,1,0] (by kernel_rfl) R<|J 18 R R (Bj hm)
     ·refine Bo R R R R R R<|A8 (Az (i:=0) R R ld23 R)<|?_
      refine Bm [20,27] (by kernel_rfl) ⟨?_,?_,trivial⟩
      ·refine Bd hm fun r31 h76 hm=>Bo R R R R R R<|Au 0 R fn34 R (K61 r31 h76) fun _ _ h88=> ?_
       obtain ⟨ob17,cap17,rfl,rfl⟩:=h88
       refine Ck (A6 0 [(79,L61 r31)] R ⟨⟨_,R,.here _ R⟩,trivial⟩ (FzH.refl _))<|?_
       refine Bm [22,27] (by kernel_rfl) ⟨?_,?_,trivial⟩
       ·refine Bd hm fun r32 h78 hm=>Bo R R R R R R<|Au 0 R fn35 R (K57 r32 h78) fun _ _ h82=> ?_
        obtain ⟨ob18,cap18,rfl,rfl⟩:=h82
        refine Ck (A6 0 [(81,L49 r32)] R ⟨⟨_,R,.here _ R⟩,trivial⟩ (FzH.refl _))<|Ah 27 (by kernel_rfl)<|Bo R R R R R R<|A8 (Az (i:=0) R R ld22 R)<|Ah 33 (by kernel_rfl)<|Bd hm fun r33 h80 hm=>Bo R R R R R R<|Au 0 R fn19 R (K196 r31 r32 r8.2.Y.Ms r8.2.Y.Bs r33 h80) fun _ _ h81=> ?_
        obtain ⟨rfl,rfl⟩:=h81
        exact Aq tbk [34,35] [] (by kernel_rfl) R R R<|Ce [35,34,33,32,31,30,29,28,27,26,25,24,23,22,21,20,19,18,17,16,15,14,13,12,11,10,9,8,7,6,5,4,3,2,1,0] (by kernel_rfl) R<|J 18 R R (Bj hm)
       ·refine Bo R R R R R R<|A8 (Az (i:=0) R R ld22 R)<|Ah 22 (by kernel_rfl)<|Bd hm fun r34 h83 hm=>Bo R R R R R R<|Au 0 R fn35 R (K57 r34 h83) fun _ _ h87=> ?_
        obtain ⟨ob19,cap19,rfl,rfl⟩:=h87
        refine Ck (A6 0 [(81,L49 r34)] R ⟨⟨_,R,.here _ R⟩,trivial⟩ (FzH.refl _))<|Ah 33 (by kernel_rfl)<|Bd hm fun r35 h85 hm=>Bo R R R R R R<|Au 0 R fn19 R (K196 r31 r34 r8.2.Y.Ms r8.2.Y.Bs r35 h85) fun _ _ h86=> ?_
        obtain ⟨rfl,rfl⟩:=h86
        exact Aq tbk [34,35] [] (by kernel_rfl) R R R<|Ce [35,34,33,32,31,30,29,28,27,26,25,24,23,22,21,20,19,18,17,16,15,14,13,12,11,10,9,8,7,6,5,4,3,2,1,0] (by kernel_rfl) R<|J 18 R R (Bj hm)
      ·refine Bo R R R R R R<|A8 (Az (i:=0) R R ld22 R)<|Ah 20 (by kernel_rfl)<|Bd hm fun r36 h89 hm=>Bo R R R R R R<|Au 0 R fn34 R (K61 r36 h89) fun _ _ h96=> ?_
       obtain ⟨ob20,cap20,rfl,rfl⟩:=h96
       refine Ck (A6 0 [(79,L61 r36)] R ⟨⟨_,R,.here _ R⟩,trivial⟩ (FzH.refl _))<|Ah 22 (by kernel_rfl)<|Bd hm fun r37 h91 hm=>Bo R R R R R R<|Au 0 R fn35 R (K57 r37 h91) fun _ _ h95=> ?_
       obtain ⟨ob21,cap21,rfl,rfl⟩:=h95
       refine Ck (A6 0 [(81,L49 r37)] R ⟨⟨_,R,.here _ R⟩,trivial⟩ (FzH.refl _))<|Ah 33 (by kernel_rfl)<|Bd hm fun r38 h93 hm=>Bo R R R R R R<|Au 0 R fn19 R (K196 r36 r37 r8.2.Y.Ms r8.2.Y.Bs r38 h93) fun _ _ h94=> ?_
       obtain ⟨rfl,rfl⟩:=h94
       exact Aq tbk [34,35] [] (by kernel_rfl) R R R<|Ce [35,34,33,32,31,30,29,28,27,26,25,24,23,22,21,20,19,18,17,16,15,14,13,12,11,10,9,8,7,6,5,4,3,2,1,0] (by kernel_rfl) R<|J 18 R R (Bj hm)
    refine A0 (by kernel_rfl)<|Ao hm R (fun h98 hm=>Ae tbk [] R R<|have hm:=Lr hm h13;Rt1 hm R [] R R R) fun h98 hm=>Am<|Af<|Be 2 mixed<|Aq tbk [0,1,2] [] (by kernel_rfl) R R R<|Bd hm fun x4 h99 hm=>Ax 3 R R R (by kernel_rfl) (Bf T_law13_Op.vv R R el66 h99)<|Aq tbk [4,5,6,7] [] (by kernel_rfl) R R R<|Bd hm fun x5 h100 hm=>Ax 8 R R R (by kernel_rfl) (Bf T_law13_Op.vv R R el66 h100)<|Aq tbk [9,10,12,13,14] [] (by kernel_rfl) R R R<|Bd hm fun x6 h101 hm=>Ax 15 R R R (by kernel_rfl) (Bf T_law13_Op.vv R R el66 h101)<|Aq tbk [16,17,18,19] [] (by kernel_rfl) R R R<|Bd hm fun x7 h102 hm=>Ax 20 R R R (by kernel_rfl) (Bf T_law13_Op.vv R R el66 h102)<|Aq tbk [21,22] [] (by kernel_rfl) R R R<|Ah 11 (by kernel_rfl)<|Bd hm fun r39 h103 hm=>Al R R R<|Au 0 R fn36 R (K58 x4.P_ x5.Name r39 h103) fun _ _ h114=> ?_
    obtain ⟨rfl,rfl⟩:=h114
    refine Ah 23 (by kernel_rfl)<|Bd hm fun r40 h104 hm=>Al R R R<|Au 2 R fn37 R (K2 r8.2 x6.P_ x7.Name b2 ob5 cap5 r40 h104) fun _ _ h113=> ?_
    obtain ⟨rfl,rfl⟩:=h113
    exact Aq tbk [24,25] [] (by kernel_rfl) R R R<|Cw hm [32,31,30,29,28,27,26,25,24,23,11,22,21,20,19,18,17,16,15,14,13,12,10,9,8,7,6,5,4,3,2,1,0] 127 120 R (fun _ K' h105 J hm=>Aq tbk [26,27,28,29,30,31,32] [] (by kernel_rfl) R R R<|J 6 R R (Bj hm)) (fun _ K' h105 J hm=>Aq tbk [26,28] [] (by kernel_rfl) R R R<|Ah 27 (by kernel_rfl)<|Bo R R R R R R<|B3 hm 0 R fn34 R (K61) fun r41 ob22 cap22 hm=>Ck (A6 0 [(122,L61 r41)] R ⟨⟨_,R,.here _ R⟩,trivial⟩ (FzH.refl _))<|Ah 29 (by kernel_rfl)<|Bo R R R R R R<|B3 hm 0 R fn35 R (K57) fun r42 ob23 cap23 hm=>Ck (A6 0 [(124,L49 r42)] R ⟨⟨_,R,.here _ R⟩,trivial⟩ (FzH.refl _))<|Ah 30 (by kernel_rfl)<|Bo R R R R R R<|Av hm 0 R fn22 R (K168 _ _) fun r43 hm=>Aq tbk [31,32] [] (by kernel_rfl) R R R<|Ce [32,31,30,29,28,27,26,25,24,23,11,22,21,20,19,18,17,16,15,14,13,12,10,9,8,7,6,5,4,3,2,1,0] (by kernel_rfl) R<|J 8 R R (Bj hm)) fun c3 hm=>A0 (by kernel_rfl)<|Ao hm R (fun h112 hm=>Ae tbk [] R R<|have hm:=Lr hm h13;Rt1 hm R [] R R R) fun h112 hm=>Am<|Bc tbk [] R R<|Ap (r8.2,(IntKind.i64.wrap (i2 + (1 : Int)))) (ob5,cap5) hm (Ag [0,0] R R)
   exact A7<|Ar () hm (Ag [] R R)
  exact Ai<|Ad R R<|Av hm 0 R fn28 R (K143) fun r44 hm=>Ab R R (Ak R)<|Ac<|Rt1 hm R [] R R R
 ·rw [h211]
  refine Aa tbk [] 5 R R<|Ac<|Ai<|Aa tbk [] 2 R R<|Bd hm fun r45 h118 hm=>Ad R R<|Au 0 R fn30 R (K169 ms bs r45 h118) fun _ _ h210=> ?_
  obtain ⟨b3,ob24,cap24,rfl,rfl⟩:=h210
  refine Aa tbk [] 5 R R<|Ac<|Af<|Ai<|Aa tbk [] 4 R R<|Cv 6 38 32 R (fun K' J=>Aa tbk [] 6 R R<|J 5 R R R) (fun h121 K' J=>Bb R R R R R (Aj R)<|Bb R R R R R (Dk B9 R R)<|Aa tbk [] 2 R R<|Bb R R R R R (VP.boolop Dp R R R)<|Ab R R (Bk false R R R)<|J 5 R R R)<|Ac<|Ao hm R (fun h122 hm=>Ae tbk [] R R<|Rt1 hm R [] R R R) fun h122 hm=>Am<|Af<|Ae tbk [] R R<|Bw hm (fun _ (_:Unit)=>[]) (fun _ (_:Unit)=>[]) (fun o2 hm h124=>?_) fun j2 _ hm=> ?_
  ·refine B1 (fun zn (zs:T_snap_Snap × T_ref13_Snap × Int)=>law13_SnapPlays.l2 script zn zs.1 zs.2.1 zs.2.2) (fun zs (_:Option Nat × Nat × Option Nat × Nat)=>[(2,L75 script),(7,.ptr b 0),(9,.ptr b3 0),(11,Iw zs.2.2)]) (fun zs (zg:Option Nat × Nat × Option Nat × Nat)=>[.box b3 82 [L61 zs.2.1.Y.Ms,L49 zs.2.1.Y.Bs,Z79 zg.2.2.1 zs.2.1.Kept zg.2.2.2],Q79 zg.2.2.1 zg.2.2.2 zs.2.1.Kept,.box b 96 [T_snap_state.pf zs.1.now,Z93 zg.1 zs.1.kept zg.2.1,Iw zs.1.tried],Q93 zg.1 zg.2.1 zs.1.kept]) (x,r45.1,(0 : Int)) (ob,cap,ob24,cap24) (fun _=>R) hm (Ag [0,0,0,0] R R) fun n2=>Pq fun s2=>Pq fun r47 i4=>Pq fun ob27=>Pq fun cap27=>Pq fun ob28 cap28 hm=> ?_
   rw [law13_SnapPlays.l2] at hm
   refine Af<|Ai<|Aa tbk [] 2 R R<|Ab R R (Aw T_law13_Op.vv R C2)<|Aa tbk [] 2 R R<|B5 tbk [] 3 46 43 R R R R R<|Ab R R (Aj R)<|Db 3 50 47 R (fun h126 K' J=>Bb R R R R R (Aj R)<|Bb R R R R R (Dk B9 R R)<|Ab R R (Bk true R R R)<|J 2 R R R) (fun K' J=>Aa tbk [] 3 R R<|J 2 R R R)<|Ac<|Ao hm R (fun h127 hm=>?_) fun h127 hm=> ?_
   ·refine Am<|Af<|A2<|Af<|Ai<|Aa tbk [] 2 R R<|Bd hm fun x8 h128 hm=>Ab R R (Bf T_law13_Op.vv R R el66 h128)<|Ab R R (Bt R ld75 R)<|Ad R R<|Av hm 0 R fn31 R (K170 _) fun r48 hm=>Ab R R (B6 R)<|Ac<|Ao hm R (fun h130 hm=>A7<|Bc tbk [] R R<|Ap (s2,r47,(IntKind.i64.wrap (i4 + (1 : Int)))) (ob27,cap27,ob28,cap28) hm (Ag [0,0,0,0] R R)) fun h130 hm=>Am<|Af<|Af<|Bz (Bi [2,2,0,0] R)<|Be 4 mixed<|Aq tbk [0,1,2,3] [] (by kernel_rfl) R R R<|Bd hm fun x9 h131 hm=>Ax 4 R R R (by kernel_rfl) (Bf T_law13_Op.vv R R el66 h131)<|Ax 5 R R R (by kernel_rfl) (Bt R ld75 R)<|Ah 6 (by kernel_rfl)<|Bd hm fun r49 h132 hm=>Al R R R<|Au 4 R fn32 R (K3 s2 r47 x9 b ob27 cap27 b3 ob28 cap28 r49 h132) fun _ _ h208=> ?_
    obtain ⟨ob29,cap29,ob30,cap30,rfl,rfl⟩:=h208
    refine Aq tbk [7,8] [] (by kernel_rfl) R R R<|Cw hm [17,16,15,14,13,12,11,10,9,8,7,6,5,4,3,2,1,0] 76 67 R (fun _ K' h133 J hm=>Aq tbk [9,10,11,12,13,14,15,16,17] [] (by kernel_rfl) R R R<|J 8 R R (Bj hm)) (fun _ K' h133 J hm=>?_) fun c4 hm=> ?_
    ·refine Aq tbk [9,11,12,13] [] (by kernel_rfl) R R R<|?_
     refine Bm [10,14] (by kernel_rfl) ⟨?_,?_,trivial⟩
     ·exact Bo R R R R R R<|Av hm 2 R fn33 R (K86 _ _ _ _) fun r50 hm=>Ah 14 (by kernel_rfl)<|Bo R R R R R R<|A8 (Az (i:=2) R R ld80 R)<|Cs 15 R R R R R R (by kernel_rfl) (Cq T_ref13_Yard.vv R Cb)<|Aq tbk [16,17] [] (by kernel_rfl) R R R<|Ce [17,16,15,14,13,12,11,10,9,8,7,6,5,4,3,2,1,0] (by kernel_rfl) R<|J 8 R R (Bj hm)
     ·refine Bo R R R R R R<|A8 (Az (i:=2) R R ld80 R)<|Cs 15 R R R R R R (by kernel_rfl) (Cq T_ref13_Yard.vv R Cb)<|Ah 10 (by kernel_rfl)<|Bd hm fun r51 h135 hm=>Bo R R R R R R<|Au 2 R fn33 R (K86 r49.2.1 b ob29 cap29 r51 h135) fun _ _ h136=> ?_
      obtain ⟨rfl,rfl⟩:=h136
      exact Aq tbk [16,17] [] (by kernel_rfl) R R R<|Ce [17,16,15,14,13,12,11,10,9,8,7,6,5,4,3,2,1,0] (by kernel_rfl) R<|J 8 R R (Bj hm)
    refine Ax 18 R R R (by kernel_rfl) (Aj R)<|Cw hm [35,34,33,32,31,30,29,28,27,26,25,24,23,22,21,20,19,18,17,16,15,14,13,12,11,10,9,8,7,6,5,4,3,2,1,0] 94 77 R (fun _ K' h138 J hm=>Aq tbk [19,20,21,22,23,24,25,26,27,28,29,30,31,32,33,34,35] [] (by kernel_rfl) R R R<|J 16 R R (Bj hm)) (fun _ K' h138 J hm=>?_) fun c5 hm=> ?_
    ·refine Aq tbk [19,21,23,24,25,26,28,29,30,31] [] (by kernel_rfl) R R R<|?_
     refine Bm [20,27,32] (by kernel_rfl) ⟨?_,?_,?_,trivial⟩
     ·refine Bo R R R R R R<|Av hm 2 R fn34 R (K136 _ _ _ _) fun r52 hm=> ?_
      refine Bm [22,27,32] (by kernel_rfl) ⟨?_,?_,?_,trivial⟩
      ·refine Bo R R R R R R<|Av hm 2 R fn35 R (K87 _ _ _ _) fun r53 hm=> ?_
       refine Bm [27,32] (by kernel_rfl) ⟨?_,?_,trivial⟩
       ·exact Bo R R R R R R<|A8 (Az (i:=2) R R ld22 R)<|Ah 32 (by kernel_rfl)<|Bo R R R R R R<|A8 (Az (i:=2) R R ld23 R)<|Ah 33 (by kernel_rfl)<|Bo R R R R R R<|Av hm 0 R fn19 R (K196 _ _ _ _) fun r54 hm=>Aq tbk [34,35] [] (by kernel_rfl) R R R<|Ce [35,34,33,32,31,30,29,28,27,26,25,24,23,22,21,20,19,18,17,16,15,14,13,12,11,10,9,8,7,6,5,4,3,2,1,0] (by kernel_rfl) R<|J 16 R R (Bj hm)
       ·refine Bo R R R R R R<|A8 (Az (i:=2) R R ld23 R)<|Ah 27 (by kernel_rfl)<|Bo R R R R R R<|A8 (Az (i:=2) R R ld22 R)<|Ah 33 (by kernel_rfl)<|Bd hm fun r55 h142 hm=>Bo R R R R R R<|Au 0 R fn19 R (K196 r52 r53 r49.2.2.Y.Ms r49.2.2.Y.Bs r55 h142) fun _ _ h143=> ?_
        obtain ⟨rfl,rfl⟩:=h143
        exact Aq tbk [34,35] [] (by kernel_rfl) R R R<|Ce [35,34,33,32,31,30,29,28,27,26,25,24,23,22,21,20,19,18,17,16,15,14,13,12,11,10,9,8,7,6,5,4,3,2,1,0] (by kernel_rfl) R<|J 16 R R (Bj hm)
      ·refine Bo R R R R R R<|A8 (Az (i:=2) R R ld22 R)<|?_
       refine Bm [22,32] (by kernel_rfl) ⟨?_,?_,trivial⟩
       ·refine Bd hm fun r56 h144 hm=>Bo R R R R R R<|Au 2 R fn35 R (K87 r49.2.1 b ob29 cap29 r56 h144) fun _ _ h147=> ?_
        obtain ⟨rfl,rfl⟩:=h147
        refine Ah 32 (by kernel_rfl)<|Bo R R R R R R<|A8 (Az (i:=2) R R ld23 R)<|Ah 33 (by kernel_rfl)<|Bd hm fun r57 h145 hm=>Bo R R R R R R<|Au 0 R fn19 R (K196 r52 r56 r49.2.2.Y.Ms r49.2.2.Y.Bs r57 h145) fun _ _ h146=> ?_
        obtain ⟨rfl,rfl⟩:=h146
        exact Aq tbk [34,35] [] (by kernel_rfl) R R R<|Ce [35,34,33,32,31,30,29,28,27,26,25,24,23,22,21,20,19,18,17,16,15,14,13,12,11,10,9,8,7,6,5,4,3,2,1,0] (by kernel_rfl) R<|J 16 R R (Bj hm)
       ·refine Bo R R R R R R<|A8 (Az (i:=2) R R ld23 R)<|Ah 22 (by kernel_rfl)<|Bd hm fun r58 h148 hm=>Bo R R R R R R<|Au 2 R fn35 R (K87 r49.2.1 b ob29 cap29 r58 h148) fun _ _ h151=> ?_
        obtain ⟨rfl,rfl⟩:=h151
        refine Ah 33 (by kernel_rfl)<|Bd hm fun r59 h149 hm=>Bo R R R R R R<|Au 0 R fn19 R (K196 r52 r58 r49.2.2.Y.Ms r49.2.2.Y.Bs r59 h149) fun _ _ h150=> ?_
        obtain ⟨rfl,rfl⟩:=h150
        exact Aq tbk [34,35] [] (by kernel_rfl) R R R<|Ce [35,34,33,32,31,30,29,28,27,26,25,24,23,22,21,20,19,18,17,16,15,14,13,12,11,10,9,8,7,6,5,4,3,2,1,0] (by kernel_rfl) R<|J 16 R R (Bj hm)
      ·refine Bo R R R R R R<|A8 (Az (i:=2) R R ld23 R)<|?_
       refine Bm [22,27] (by kernel_rfl) ⟨?_,?_,trivial⟩
       ·refine Bd hm fun r60 h152 hm=>Bo R R R R R R<|Au 2 R fn35 R (K87 r49.2.1 b ob29 cap29 r60 h152) fun _ _ h155=> ?_
        obtain ⟨rfl,rfl⟩:=h155
        refine Ah 27 (by kernel_rfl)<|Bo R R R R R R<|A8 (Az (i:=2) R R ld22 R)<|Ah 33 (by kernel_rfl)<|Bd hm fun r61 h153 hm=>Bo R R R R R R<|Au 0 R fn19 R (K196 r52 r60 r49.2.2.Y.Ms r49.2.2.Y.Bs r61 h153) fun _ _ h154=> ?_
        obtain ⟨rfl,rfl⟩:=h154
        exact Aq tbk [34,35] [] (by kernel_rfl) R R R<|Ce [35,34,33,32,31,30,29,28,27,26,25,24,23,22,21,20,19,18,17,16,15,14,13,12,11,10,9,8,7,6,5,4,3,2,1,0] (by kernel_rfl) R<|J 16 R R (Bj hm)
       ·refine Bo R R R R R R<|A8 (Az (i:=2) R R ld22 R)<|Ah 22 (by kernel_rfl)<|Bd hm fun r62 h156 hm=>Bo R R R R R R<|Au 2 R fn35 R (K87 r49.2.1 b ob29 cap29 r62 h156) fun _ _ h159=> ?_
        obtain ⟨rfl,rfl⟩:=h159
        refine Ah 33 (by kernel_rfl)<|Bd hm fun r63 h157 hm=>Bo R R R R R R<|Au 0 R fn19 R (K196 r52 r62 r49.2.2.Y.Ms r49.2.2.Y.Bs r63 h157) fun _ _ h158=> ?_
        obtain ⟨rfl,rfl⟩:=h158
        exact Aq tbk [34,35] [] (by kernel_rfl) R R R<|Ce [35,34,33,32,31,30,29,28,27,26,25,24,23,22,21,20,19,18,17,16,15,14,13,12,11,10,9,8,7,6,5,4,3,2,1,0] (by kernel_rfl) R<|J 16 R R (Bj hm)
     ·refine Bo R R R R R R<|A8 (Az (i:=2) R R ld22 R)<|?_
      refine Bm [20,32] (by kernel_rfl) ⟨?_,?_,trivial⟩
      ·refine Bd hm fun r64 h160 hm=>Bo R R R R R R<|Au 2 R fn34 R (K136 r49.2.1 b ob29 cap29 r64 h160) fun _ _ h169=> ?_
       obtain ⟨rfl,rfl⟩:=h169
       refine Bm [22,32] (by kernel_rfl) ⟨?_,?_,trivial⟩
       ·refine Bd hm fun r65 h161 hm=>Bo R R R R R R<|Au 2 R fn35 R (K87 r49.2.1 b ob29 cap29 r65 h161) fun _ _ h164=> ?_
        obtain ⟨rfl,rfl⟩:=h164
        refine Ah 32 (by kernel_rfl)<|Bo R R R R R R<|A8 (Az (i:=2) R R ld23 R)<|Ah 33 (by kernel_rfl)<|Bd hm fun r66 h162 hm=>Bo R R R R R R<|Au 0 R fn19 R (K196 r64 r65 r49.2.2.Y.Ms r49.2.2.Y.Bs r66 h162) fun _ _ h163=> ?_
        obtain ⟨rfl,rfl⟩:=h163
        exact Aq tbk [34,35] [] (by kernel_rfl) R R R<|Ce [35,34,33,32,31,30,29,28,27,26,25,24,23,22,21,20,19,18,17,16,15,14,13,12,11,10,9,8,7,6,5,4,3,2,1,0] (by kernel_rfl) R<|J 16 R R (Bj hm)
       ·refine Bo R R R R R R<|A8 (Az (i:=2) R R ld23 R)<|Ah 22 (by kernel_rfl)<|Bd hm fun r67 h165 hm=>Bo R R R R R R<|Au 2 R fn35 R (K87 r49.2.1 b ob29 cap29 r67 h165) fun _ _ h168=> ?_
        obtain ⟨rfl,rfl⟩:=h168
        refine Ah 33 (by kernel_rfl)<|Bd hm fun r68 h166 hm=>Bo R R R R R R<|Au 0 R fn19 R (K196 r64 r67 r49.2.2.Y.Ms r49.2.2.Y.Bs r68 h166) fun _ _ h167=> ?_
        obtain ⟨rfl,rfl⟩:=h167
        exact Aq tbk [34,35] [] (by kernel_rfl) R R R<|Ce [35,34,33,32,31,30,29,28,27,26,25,24,23,22,21,20,19,18,17,16,15,14,13,12,11,10,9,8,7,6,5,4,3,2,1,0] (by kernel_rfl) R<|J 16 R R (Bj hm)
      ·refine Bo R R R R R R<|A8 (Az (i:=2) R R ld23 R)<|Ah 20 (by kernel_rfl)<|Bd hm fun r69 h170 hm=>Bo R R R R R R<|Au 2 R fn34 R (K136 r49.2.1 b ob29 cap29 r69 h170) fun _ _ h175=> ?_
       obtain ⟨rfl,rfl⟩:=h175
       refine Ah 22 (by kernel_rfl)<|Bd hm fun r70 h171 hm=>Bo R R R R R R<|Au 2 R fn35 R (K87 r49.2.1 b ob29 cap29 r70 h171) fun _ _ h174=> ?_
       obtain ⟨rfl,rfl⟩:=h174
       refine Ah 33 (by kernel_rfl)<|Bd hm fun r71 h172 hm=>Bo R R R R R R<|Au 0 R fn19 R (K196 r69 r70 r49.2.2.Y.Ms r49.2.2.Y.Bs r71 h172) fun _ _ h173=> ?_
       obtain ⟨rfl,rfl⟩:=h173
       exact Aq tbk [34,35] [] (by kernel_rfl) R R R<|Ce [35,34,33,32,31,30,29,28,27,26,25,24,23,22,21,20,19,18,17,16,15,14,13,12,11,10,9,8,7,6,5,4,3,2,1,0] (by kernel_rfl) R<|J 16 R R (Bj hm)
     ·refine Bo R R R R R R<|A8 (Az (i:=2) R R ld23 R)<|?_
      refine Bm [20,27] (by kernel_rfl) ⟨?_,?_,trivial⟩
      ·refine Bd hm fun r72 h176 hm=>Bo R R R R R R<|Au 2 R fn34 R (K136 r49.2.1 b ob29 cap29 r72 h176) fun _ _ h185=> ?_
       obtain ⟨rfl,rfl⟩:=h185
       refine Bm [22,27] (by kernel_rfl) ⟨?_,?_,trivial⟩
       ·refine Bd hm fun r73 h177 hm=>Bo R R R R R R<|Au 2 R fn35 R (K87 r49.2.1 b ob29 cap29 r73 h177) fun _ _ h180=> ?_
        obtain ⟨rfl,rfl⟩:=h180
        refine Ah 27 (by kernel_rfl)<|Bo R R R R R R<|A8 (Az (i:=2) R R ld22 R)<|Ah 33 (by kernel_rfl)<|Bd hm fun r74 h178 hm=>Bo R R R R R R<|Au 0 R fn19 R (K196 r72 r73 r49.2.2.Y.Ms r49.2.2.Y.Bs r74 h178) fun _ _ h179=> ?_
        obtain ⟨rfl,rfl⟩:=h179
        exact Aq tbk [34,35] [] (by kernel_rfl) R R R<|Ce [35,34,33,32,31,30,29,28,27,26,25,24,23,22,21,20,19,18,17,16,15,14,13,12,11,10,9,8,7,6,5,4,3,2,1,0] (by kernel_rfl) R<|J 16 R R (Bj hm)
       ·refine Bo R R R R R R<|A8 (Az (i:=2) R R ld22 R)<|Ah 22 (by kernel_rfl)<|Bd hm fun r75 h181 hm=>Bo R R R R R R<|Au 2 R fn35 R (K87 r49.2.1 b ob29 cap29 r75 h181) fun _ _ h184=> ?_
        obtain ⟨rfl,rfl⟩:=h184
        refine Ah 33 (by kernel_rfl)<|Bd hm fun r76 h182 hm=>Bo R R R R R R<|Au 0 R fn19 R (K196 r72 r75 r49.2.2.Y.Ms r49.2.2.Y.Bs r76 h182) fun _ _ h183=> ?_
        obtain ⟨rfl,rfl⟩:=h183
        exact Aq tbk [34,35] [] (by kernel_rfl) R R R<|Ce [35,34,33,32,31,30,29,28,27,26,25,24,23,22,21,20,19,18,17,16,15,14,13,12,11,10,9,8,7,6,5,4,3,2,1,0] (by kernel_rfl) R<|J 16 R R (Bj hm)
      ·refine Bo R R R R R R<|A8 (Az (i:=2) R R ld22 R)<|Ah 20 (by kernel_rfl)<|Bd hm fun r77 h186 hm=>Bo R R R R R R<|Au 2 R fn34 R (K136 r49.2.1 b ob29 cap29 r77 h186) fun _ _ h191=> ?_
       obtain ⟨rfl,rfl⟩:=h191
       refine Ah 22 (by kernel_rfl)<|Bd hm fun r78 h187 hm=>Bo R R R R R R<|Au 2 R fn35 R (K87 r49.2.1 b ob29 cap29 r78 h187) fun _ _ h190=> ?_
       obtain ⟨rfl,rfl⟩:=h190
       refine Ah 33 (by kernel_rfl)<|Bd hm fun r79 h188 hm=>Bo R R R R R R<|Au 0 R fn19 R (K196 r77 r78 r49.2.2.Y.Ms r49.2.2.Y.Bs r79 h188) fun _ _ h189=> ?_
       obtain ⟨rfl,rfl⟩:=h189
       exact Aq tbk [34,35] [] (by kernel_rfl) R R R<|Ce [35,34,33,32,31,30,29,28,27,26,25,24,23,22,21,20,19,18,17,16,15,14,13,12,11,10,9,8,7,6,5,4,3,2,1,0] (by kernel_rfl) R<|J 16 R R (Bj hm)
    refine A0 (by kernel_rfl)<|Ao hm R (fun h193 hm=>Ae tbk [] R R<|have hm:=Lr hm h124;Rt1 hm R [] R R R) fun h193 hm=>Am<|Af<|Be 4 mixed<|Aq tbk [0,1,2] [] (by kernel_rfl) R R R<|Bd hm fun x10 h194 hm=>Ax 3 R R R (by kernel_rfl) (Bf T_law13_Op.vv R R el66 h194)<|Aq tbk [4,5,6,7] [] (by kernel_rfl) R R R<|Bd hm fun x11 h195 hm=>Ax 8 R R R (by kernel_rfl) (Bf T_law13_Op.vv R R el66 h195)<|Aq tbk [9,10,12,13,14] [] (by kernel_rfl) R R R<|Bd hm fun x12 h196 hm=>Ax 15 R R R (by kernel_rfl) (Bf T_law13_Op.vv R R el66 h196)<|Aq tbk [16,17,18,19] [] (by kernel_rfl) R R R<|Bd hm fun x13 h197 hm=>Ax 20 R R R (by kernel_rfl) (Bf T_law13_Op.vv R R el66 h197)<|Aq tbk [21,22] [] (by kernel_rfl) R R R<|Ah 11 (by kernel_rfl)<|Bd hm fun r80 h198 hm=>Al R R R<|Au 2 R fn36 R (K132 r49.2.1 x10.P_ x11.Name b ob29 cap29 r80 h198) fun _ _ h207=> ?_
    obtain ⟨rfl,rfl⟩:=h207
    refine Ah 23 (by kernel_rfl)<|Bd hm fun r81 h199 hm=>Al R R R<|Da (Bi [2,2,0,0] R)<|Au 2 R fn37 R (K2 r49.2.2 x12.P_ x13.Name b3 ob30 cap30 r81 h199) fun _ _ h206=> ?_
    obtain ⟨rfl,rfl⟩:=h206
    exact Aq tbk [24,25] [] (by kernel_rfl) R R R<|Cw hm [32,31,30,29,28,27,26,25,24,23,11,22,21,20,19,18,17,16,15,14,13,12,10,9,8,7,6,5,4,3,2,1,0] 127 120 R (fun _ K' h200 J hm=>Aq tbk [26,27,28,29,30,31,32] [] (by kernel_rfl) R R R<|J 6 R R (Bj hm)) (fun _ K' h200 J hm=>Aq tbk [26,28] [] (by kernel_rfl) R R R<|Ah 27 (by kernel_rfl)<|Bo R R R R R R<|Da (Bi [2,2,0,0] R)<|Av hm 2 R fn34 R (K136 _ _ _ _) fun r82 hm=>Ah 29 (by kernel_rfl)<|Bo R R R R R R<|Av hm 2 R fn35 R (K87 _ _ _ _) fun r83 hm=>Ah 30 (by kernel_rfl)<|Bo R R R R R R<|Av hm 0 R fn22 R (K168 _ _) fun r84 hm=>Aq tbk [31,32] [] (by kernel_rfl) R R R<|Ce [32,31,30,29,28,27,26,25,24,23,11,22,21,20,19,18,17,16,15,14,13,12,10,9,8,7,6,5,4,3,2,1,0] (by kernel_rfl) R<|Ck (Bi [2,2,0,0] R)<|J 6 R R (Bj hm)) fun c6 hm=>A0 (by kernel_rfl)<|Ao hm R (fun h205 hm=>Ae tbk [] R R<|have hm:=Lr hm h124;Rt1 hm R [] R R R) fun h205 hm=>Am<|Bc tbk [] R R<|Ap (r49.2.1,r49.2.2,(IntKind.i64.wrap (i4 + (1 : Int)))) (ob29,cap29,ob30,cap30) hm (Ag [0,0,0,0] R R)
   exact A7<|Ar () hm (Ag [] R R)
  exact Ai<|Ad R R<|Av hm 0 R fn28 R (K143) fun r85 hm=>Ab R R (Ak R)<|Ac<|Rt1 hm R [] R R R

/-! trireme/triremelaw13.SnapNil -/
def law13_SnapNil.l1 (r4 : Int) (r5 : Int × T_snap_Snap) (r6 : Int) (r7 : Int) (r8 : Int × T_snap_Snap) (r9 : Int) (r10 : Int) (r11 : Int × T_snap_Snap) (r12 : Int) (r13 : Int × T_snap_Snap) (r14 : Int) : Nat → Int → Option (Out Bool Unit)
 | 0, _ => none
 | n + 1, i2 =>
  if (decide (i2 < ([r4, r5.1, r6, r7, r8.1, r9, r10, r11.1, r12, r13.1, r14].length : Int))) = true then
   (V.gl [r4, r5.1, r6, r7, r8.1, r9, r10, r11.1, r12, r13.1, r14] i2).bind fun x =>
   if (x != 23) = true then
    some (Out.ret false)
   else
    law13_SnapNil.l1 r4 r5 r6 r7 r8 r9 r10 r11 r12 r13 r14 n (i64.wrap (i2 + 1))
  else
   some (Out.go ())
def law13_SnapNil (m : T_api_Machine) (p : T_api_Pod) (name : ByteArray) : Option Bool :=
 (law13_light (⟨0, m, p, name⟩ : T_law13_Op)).bind fun r =>
 if (!r) = true then
  (law13_known).bind fun r2 =>
  some r2
 else
  (snap_Snap_Add m).bind fun r4 =>
  (snap_Snap_Add_x (⟨(none : Option T_snap_state), ([] : List T_snap_state), 0⟩ : T_snap_Snap) m).bind fun r5 =>
  (snap_Snap_Drop name).bind fun r6 =>
  (snap_Snap_Put p name).bind fun r7 =>
  (snap_Snap_Put_x r5.2 p name).bind fun r8 =>
  (snap_Snap_Take name).bind fun r9 =>
  (snap_Snap_Fork).bind fun r10 =>
  (snap_Snap_Fork_x r8.2).bind fun r11 =>
  (snap_Snap_Commit).bind fun r12 =>
  (snap_Snap_Commit_x r11.2).bind fun r13 =>
  (snap_Snap_Revert).bind fun r14 =>
  (law13_SnapNil.l1 r4 r5 r6 r7 r8 r9 r10 r11 r12 r13 r14 FU (0 : Int)).bind fun o =>
  o.on fun j =>
  (snap_Snap_Machines).bind fun r15 =>
  (if ((r15.length : Int) == 0) = true then (snap_Snap_Bounds_x r13.2).bind fun r16 =>
  some ((r16.length : Int) == 0) else some false).bind fun c =>
  (if c = true then (snap_Snap_Depth).bind fun r17 =>
  some (r17 == 0) else some false).bind fun c2 =>
  (if c2 = true then (snap_Snap_Why p name).bind fun r18 =>
  some (r18 == 1) else some false).bind fun c3 =>
  (if c3 = true then (snap_Snap_Why_x r13.2 p name).bind fun r19 =>
  some (r19 == 1) else some false).bind fun c4 =>
  (if c4 = true then (law13_known).bind fun r20 =>
  some r20 else some false).bind fun c5 =>
  some c5
theorem law13_SnapNil_ok (m : T_api_Machine) (p : T_api_Pod) (name : ByteArray) : VS Tryz.prog 9 (law13_SnapNil m p name) [T_api_Machine.vv m, T_api_Pod.vv p, .str name] [] .bool N0 := by
 refine A4 [.tmp 6] Tryz.func9 R R R fun r hm=>?_
 unfold law13_SnapNil at hm
 refine Ai<|Ad R R<|Bg R R fun b=>Ad R R<|Bg R R fun b2=>Ab R R (Ak R)<|Ac<|Af<|Ai<|Aa tbk [1,0] 3 R R<|Ab R R (B4 pl75 R R)<|Ad R R<|Av hm 0 R fn31 R (K170 _) fun r hm=>Ab R R (B6 R)<|Ac<|Ao hm R (fun h4 hm=>Ai<|Ad R R<|Av hm 0 R fn28 R (K143) fun r2 hm=>Ab R R (Ak R)<|Ac<|Rt1 hm R [] R R R) fun h4 hm=>Am<|Ae tbk [] R R<|Ai<|Ab R R (B4 pl96 R R)<|Ad R R<|Bg R R fun b3=>Ab R R (Ak R)<|Ac<|Af<|Bz (Bx 93)<|Bz (Bi [1,0,0,0] R)<|Be 2 mixed<|Aq tbk [0,1,3,4,6,7,9,10,11,13,14,15,17,18,20,22,24,26,28] [1,1,0,0] (by kernel_rfl) R R R<|Ah 2 (by kernel_rfl)<|Bd hm fun r4 h9 hm=>Al R R R<|Au 0 R fn39 R (K51 m r4 h9) fun _ _ h53=> ?_
 obtain ⟨rfl,rfl⟩:=h53
 refine Ah 5 (by kernel_rfl)<|Bd hm fun r5 h10 hm=>Al R R R<|Au 2 R fn39 R (K74 (⟨(none : Option T_snap_state),([] : List T_snap_state),(0 : Int)⟩ : T_snap_Snap) m b3 none 0 r5 h10) fun _ _ h52=> ?_
 obtain ⟨ob,cap,rfl,rfl⟩:=h52
 refine Ah 8 (by kernel_rfl)<|Bd hm fun r6 h11 hm=>Al R R R<|Au 0 R fn40 R (K55 name r6 h11) fun _ _ h51=> ?_
 obtain ⟨rfl,rfl⟩:=h51
 refine Ah 12 (by kernel_rfl)<|Bd hm fun r7 h12 hm=>Al R R R<|Au 0 R fn41 R (K53 p name r7 h12) fun _ _ h50=> ?_
 obtain ⟨rfl,rfl⟩:=h50
 refine Ah 16 (by kernel_rfl)<|Bd hm fun r8 h13 hm=>Al R R R<|Au 2 R fn41 R (K81 r5.2 p name b3 ob cap r8 h13) fun _ _ h49=> ?_
 obtain ⟨ob2,cap2,rfl,rfl⟩:=h49
 refine Ah 19 (by kernel_rfl)<|Bd hm fun r9 h14 hm=>Al R R R<|Au 0 R fn42 R (K65 name r9 h14) fun _ _ h48=> ?_
 obtain ⟨rfl,rfl⟩:=h48
 refine Ah 21 (by kernel_rfl)<|Bd hm fun r10 h15 hm=>Al R R R<|Au 0 R fn38 R (K49 r10 h15) fun _ _ h47=> ?_
 obtain ⟨rfl,rfl⟩:=h47
 refine Ah 23 (by kernel_rfl)<|Bd hm fun r11 h16 hm=>Al R R R<|Au 2 R fn38 R (K67 r8.2 b3 ob2 cap2 r11 h16) fun _ _ h46=> ?_
 obtain ⟨ob3,cap3,rfl,rfl⟩:=h46
 refine Ah 25 (by kernel_rfl)<|Bd hm fun r12 h17 hm=>Al R R R<|Au 0 R fn44 R (K63 r12 h17) fun _ _ h45=> ?_
 obtain ⟨rfl,rfl⟩:=h45
 refine Ah 27 (by kernel_rfl)<|Bd hm fun r13 h18 hm=>Al R R R<|Au 2 R fn44 R (K139 r11.2 b3 ob3 cap3 r13 h18) fun _ _ h44=> ?_
 obtain ⟨ob4,cap4,rfl,rfl⟩:=h44
 refine Ah 29 (by kernel_rfl)<|Bd hm fun r14 h19 hm=>Al R R R<|Au 0 R fn43 R (K60 r14 h19) fun _ _ h43=> ?_
 obtain ⟨rfl,rfl⟩:=h43
 refine Ah 30 (by kernel_rfl)<|Al R R R<|A5 ap97 R R R R R fun b4=>Ck (A6 0 [(50,L50 [r4,r5.1,r6,r7,r8.1,r9,r10,r11.1,r12,r13.1,r14])] R ⟨⟨_,R,.here _ R⟩,trivial⟩ (FzH.refl _))<|Ax 31 R R R (by kernel_rfl) (Ak R)<|A0 (by kernel_rfl)<|Af<|Ae tbk [] R R<|Bw hm (fun _ (_:Unit)=>[(2,.str name),(4,.ptr b2 0),(7,.nilptr),(8,.ptr b3 0)]) (fun _ (_:Unit)=>[.box b3 96 [T_snap_state.pf r13.2.now,Z93 ob4 r13.2.kept cap4,Iw r13.2.tried],Q93 ob4 cap4 r13.2.kept,X47 b2 p]) (fun o hm h22=>?_) fun j _ hm=> ?_
 ·refine B1 (fun zn (zs:Int)=>law13_SnapNil.l1 r4 r5 r6 r7 r8 r9 r10 r11 r12 r13 r14 zn zs) (fun zs (_:Unit)=>[(2,.str name),(4,.ptr b2 0),(7,.nilptr),(8,.ptr b3 0),(9,L50 [r4,r5.1,r6,r7,r8.1,r9,r10,r11.1,r12,r13.1,r14]),(10,Iw zs)]) (fun _ (_:Unit)=>[.box b3 96 [T_snap_state.pf r13.2.now,Z93 ob4 r13.2.kept cap4,Iw r13.2.tried],Q93 ob4 cap4 r13.2.kept,X47 b2 p]) _ () (fun _=>R) hm (Ag [0,0,0] R R) fun n i2 _ hm=> ?_
  rw [law13_SnapNil.l1] at hm
  exact Af<|Ai<|Aa tbk [] 2 R R<|Ab R R (Aw (VV.int .i64) R Tryz.underlying97)<|Ab R R (Ba R R R)<|Ac<|Ao hm R (fun h23 hm=>Am<|Af<|A2<|Ai<|Aa tbk [] 2 R R<|Bd hm fun x h24 hm=>Ab R R (Bf (VV.int .i64) R R el97 h24)<|Aa tbk [] 2 R R<|Ac<|Ao hm R (fun h25 hm=>Ae tbk [] R R<|have hm:=Lr hm h22;Rt1 hm R [] R R R) fun h25 hm=>Am<|Bc tbk [] R R<|Ap _ () hm (Ag [0,0,0] R R)) fun h23 hm=>A7<|Ar () hm (Ag [0,0,0] R R)
 exact Ai<|Ab R R (Aj R)<|Ad R R<|B3 hm 0 R fn34 R (K61) fun r15 ob5 cap5 hm=>Bl (A6 0 [(63,L61 r15)] R ⟨⟨_,R,.here _ R⟩,trivial⟩ (FzH.refl _))<|Ab R R (Aw T_api_Machine.vv R Ay)<|Aa tbk [] 2 R R<|Bh hm 5 71 66 R (fun _ K' h28 J hm=>Bb R R R R R (Aj R)<|A1 R R R R R<|Av hm 2 R fn35 R (K87 _ _ _ _) fun r16 hm=>Bb R R R R R (Aw T_api_Bound.vv R Bq)<|Aa tbk [] 2 R R<|J 4 R R (Bj hm)) (fun _ K' h28 J hm=>Aa tbk [] 5 R R<|J 4 R R (Bj hm)) fun c hm=>Ab R R (Aj R)<|Bh hm 4 76 72 R (fun _ K' h31 J hm=>Bb R R R R R (Aj R)<|A1 R R R R R<|Av hm 0 R fn33 R (K56) fun r17 hm=>Aa tbk [] 2 R R<|J 3 R R (Bj hm)) (fun _ K' h31 J hm=>Aa tbk [] 4 R R<|J 3 R R (Bj hm)) fun c2 hm=>Ab R R (Aj R)<|Bh hm 6 83 77 R (fun _ K' h34 J hm=>Aa tbk [2] 3 R R<|A1 R R R R R<|Av hm 0 R fn36 R (K58 _ _) fun r18 hm=>Aa tbk [] 2 R R<|J 5 R R (Bj hm)) (fun _ K' h34 J hm=>Aa tbk [] 6 R R<|J 5 R R (Bj hm)) fun c3 hm=>Ab R R (Aj R)<|Bh hm 6 90 84 R (fun _ K' h37 J hm=>Aa tbk [2] 3 R R<|A1 R R R R R<|Av hm 2 R fn36 R (K132 _ _ _ _ _ _) fun r19 hm=>Aa tbk [] 2 R R<|J 5 R R (Bj hm)) (fun _ K' h37 J hm=>Aa tbk [] 6 R R<|J 5 R R (Bj hm)) fun c4 hm=>Ab R R (Aj R)<|Bh hm 2 93 91 R (fun _ K' h40 J hm=>A1 R R R R R<|Av hm 0 R fn28 R (K143) fun r20 hm=>Ab R R (Bk true R R R)<|J 1 R R (Bj hm)) (fun _ K' h40 J hm=>Aa tbk [] 2 R R<|J 1 R R (Bj hm)) fun c5 hm=>Ab R R (Ak R)<|Ac<|Rt1 hm R [] R R R

/-! trireme/triremelaw13.SnapCommit -/
def law13_SnapCommit.l1 (script : List T_law13_Op) : Nat → Int → Option (Out Bool Unit)
 | 0, _ => none
 | n + 1, i2 =>
  if ((decide (i2 < (script.length : Int))) && (decide (i2 < 20))) = true then
   (V.gl script i2).bind fun x3 =>
   (law13_light x3).bind fun r7 =>
   if (!r7) = true then
    law13_SnapCommit.l1 script n (i64.wrap (i2 + 1))
   else
    if (x3.Kind == 0) = true then
     (snap_Snap_Add x3.M).bind fun r8 =>
     (snap_Snap_Add x3.M).bind fun r9 =>
     if (r8 != r9) = true then
      some (Out.ret false)
     else
      law13_SnapCommit.l1 script n (i64.wrap (i2 + 1))
    else
     if (x3.Kind == 1) = true then
      (snap_Snap_Drop x3.Name).bind fun r10 =>
      (snap_Snap_Drop x3.Name).bind fun r11 =>
      if (r10 != r11) = true then
       some (Out.ret false)
      else
       law13_SnapCommit.l1 script n (i64.wrap (i2 + 1))
     else
      if (x3.Kind == 2) = true then
       (snap_Snap_Put x3.P_ x3.Name).bind fun r12 =>
       (snap_Snap_Put x3.P_ x3.Name).bind fun r13 =>
       if (r12 != r13) = true then
        some (Out.ret false)
       else
        law13_SnapCommit.l1 script n (i64.wrap (i2 + 1))
      else
       if (x3.Kind == 3) = true then
        (snap_Snap_Take x3.Name).bind fun r14 =>
        (snap_Snap_Take x3.Name).bind fun r15 =>
        if (r14 != r15) = true then
         some (Out.ret false)
        else
         law13_SnapCommit.l1 script n (i64.wrap (i2 + 1))
       else
        law13_SnapCommit.l1 script n (i64.wrap (i2 + 1))
  else
   some (Out.go ())
def law13_SnapCommit.l2 (script : List T_law13_Op) : Nat → T_snap_Snap → Int → Option (Out Bool T_snap_Snap)
 | 0, _, _ => none
 | n2 + 1, t2, i4 =>
  if ((decide (i4 < (script.length : Int))) && (decide (i4 < 20))) = true then
   (V.gl script i4).bind fun x4 =>
   (law13_light x4).bind fun r25 =>
   if (!r25) = true then
    law13_SnapCommit.l2 script n2 t2 (i64.wrap (i4 + 1))
   else
    if (x4.Kind == 0) = true then
     (snap_Snap_Add x4.M).bind fun r26 =>
     (snap_Snap_Add_x t2 x4.M).bind fun r27 =>
     if (r26 != r27.1) = true then
      some (Out.ret false)
     else
      law13_SnapCommit.l2 script n2 r27.2 (i64.wrap (i4 + 1))
    else
     if (x4.Kind == 1) = true then
      (snap_Snap_Drop x4.Name).bind fun r28 =>
      (snap_Snap_Drop_x t2 x4.Name).bind fun r29 =>
      if (r28 != r29.1) = true then
       some (Out.ret false)
      else
       law13_SnapCommit.l2 script n2 r29.2 (i64.wrap (i4 + 1))
     else
      if (x4.Kind == 2) = true then
       (snap_Snap_Put x4.P_ x4.Name).bind fun r30 =>
       (snap_Snap_Put_x t2 x4.P_ x4.Name).bind fun r31 =>
       if (r30 != r31.1) = true then
        some (Out.ret false)
       else
        law13_SnapCommit.l2 script n2 r31.2 (i64.wrap (i4 + 1))
      else
       if (x4.Kind == 3) = true then
        (snap_Snap_Take x4.Name).bind fun r32 =>
        (snap_Snap_Take_x t2 x4.Name).bind fun r33 =>
        if (r32 != r33.1) = true then
         some (Out.ret false)
        else
         law13_SnapCommit.l2 script n2 r33.2 (i64.wrap (i4 + 1))
       else
        law13_SnapCommit.l2 script n2 t2 (i64.wrap (i4 + 1))
  else
   some (Out.go t2)
def law13_SnapCommit.l3 (script : List T_law13_Op) : Nat → T_snap_Snap → Int → Option (Out Bool T_snap_Snap)
 | 0, _, _ => none
 | n3 + 1, s2, i6 =>
  if ((decide (i6 < (script.length : Int))) && (decide (i6 < 20))) = true then
   (V.gl script i6).bind fun x6 =>
   (law13_light x6).bind fun r45 =>
   if (!r45) = true then
    law13_SnapCommit.l3 script n3 s2 (i64.wrap (i6 + 1))
   else
    if (x6.Kind == 0) = true then
     (snap_Snap_Add_x s2 x6.M).bind fun r46 =>
     (snap_Snap_Add x6.M).bind fun r47 =>
     if (r46.1 != r47) = true then
      some (Out.ret false)
     else
      law13_SnapCommit.l3 script n3 r46.2 (i64.wrap (i6 + 1))
    else
     if (x6.Kind == 1) = true then
      (snap_Snap_Drop_x s2 x6.Name).bind fun r48 =>
      (snap_Snap_Drop x6.Name).bind fun r49 =>
      if (r48.1 != r49) = true then
       some (Out.ret false)
      else
       law13_SnapCommit.l3 script n3 r48.2 (i64.wrap (i6 + 1))
     else
      if (x6.Kind == 2) = true then
       (snap_Snap_Put_x s2 x6.P_ x6.Name).bind fun r50 =>
       (snap_Snap_Put x6.P_ x6.Name).bind fun r51 =>
       if (r50.1 != r51) = true then
        some (Out.ret false)
       else
        law13_SnapCommit.l3 script n3 r50.2 (i64.wrap (i6 + 1))
      else
       if (x6.Kind == 3) = true then
        (snap_Snap_Take_x s2 x6.Name).bind fun r52 =>
        (snap_Snap_Take x6.Name).bind fun r53 =>
        if (r52.1 != r53) = true then
         some (Out.ret false)
        else
         law13_SnapCommit.l3 script n3 r52.2 (i64.wrap (i6 + 1))
       else
        law13_SnapCommit.l3 script n3 s2 (i64.wrap (i6 + 1))
  else
   some (Out.go s2)
def law13_SnapCommit.l4 (script : List T_law13_Op) : Nat → T_snap_Snap → T_snap_Snap → Int → Option (Out Bool (T_snap_Snap × T_snap_Snap))
 | 0, _, _, _ => none
 | n4 + 1, s5, t5, i8 =>
  if ((decide (i8 < (script.length : Int))) && (decide (i8 < 20))) = true then
   (V.gl script i8).bind fun x7 =>
   (law13_light x7).bind fun r64 =>
   if (!r64) = true then
    law13_SnapCommit.l4 script n4 s5 t5 (i64.wrap (i8 + 1))
   else
    if (x7.Kind == 0) = true then
     (snap_Snap_Add_x s5 x7.M).bind fun r65 =>
     (snap_Snap_Add_x t5 x7.M).bind fun r66 =>
     if (r65.1 != r66.1) = true then
      some (Out.ret false)
     else
      law13_SnapCommit.l4 script n4 r65.2 r66.2 (i64.wrap (i8 + 1))
    else
     if (x7.Kind == 1) = true then
      (snap_Snap_Drop_x s5 x7.Name).bind fun r67 =>
      (snap_Snap_Drop_x t5 x7.Name).bind fun r68 =>
      if (r67.1 != r68.1) = true then
       some (Out.ret false)
      else
       law13_SnapCommit.l4 script n4 r67.2 r68.2 (i64.wrap (i8 + 1))
     else
      if (x7.Kind == 2) = true then
       (snap_Snap_Put_x s5 x7.P_ x7.Name).bind fun r69 =>
       (snap_Snap_Put_x t5 x7.P_ x7.Name).bind fun r70 =>
       if (r69.1 != r70.1) = true then
        some (Out.ret false)
       else
        law13_SnapCommit.l4 script n4 r69.2 r70.2 (i64.wrap (i8 + 1))
      else
       if (x7.Kind == 3) = true then
        (snap_Snap_Take_x s5 x7.Name).bind fun r71 =>
        (snap_Snap_Take_x t5 x7.Name).bind fun r72 =>
        if (r71.1 != r72.1) = true then
         some (Out.ret false)
        else
         law13_SnapCommit.l4 script n4 r71.2 r72.2 (i64.wrap (i8 + 1))
       else
        law13_SnapCommit.l4 script n4 s5 t5 (i64.wrap (i8 + 1))
  else
   some (Out.go (s5, t5))
def law13_SnapCommit (ms : List T_api_Machine) (bs : List T_api_Bound) (script : List T_law13_Op) : Option Bool :=
 (ref09_Light ms bs).bind fun r =>
 (if (!r) = true then some true else (ref09_Check ms bs).bind fun r2 =>
 some (r2 != 0)).bind fun c =>
 if c = true then
  (law13_known).bind fun r3 =>
  some r3
 else
  (snap_New ms bs).bind fun r4 =>
  po r4.1 (
   (snap_New ms bs).bind fun r5 =>
   po r5.1 (
    (if ((((r4.2 != 0) || (r5.2 != 0)) || true) || true) = true then some true else (snap_Snap_Fork).bind fun r6 =>
    some (r6 != 0)).bind fun c2 =>
    if c2 = true then
     some false
    else
     (law13_SnapCommit.l1 script FU (0 : Int)).bind fun o =>
     o.on fun j =>
     (snap_Snap_Commit).bind fun r16 =>
     (if (r16 == 0) = true then (snap_Snap_Depth).bind fun r17 =>
     some (r17 == 0) else some false).bind fun c3 =>
     (if c3 = true then (snap_Snap_Machines).bind fun r18 =>
     (snap_Snap_Bounds).bind fun r19 =>
     (snap_Snap_Machines).bind fun r20 =>
     (snap_Snap_Bounds).bind fun r21 =>
     (ref09_Same r18 r19 r20 r21).bind fun r22 =>
     some r22 else some false).bind fun c4 =>
     (if c4 = true then (law13_known).bind fun r23 =>
     some r23 else some false).bind fun c5 =>
     some c5) fun x2 =>
   (if ((((r4.2 != 0) || (r5.2 != 0)) || true) || false) = true then some true else (snap_Snap_Fork).bind fun r24 =>
   some (r24 != 0)).bind fun c6 =>
   if c6 = true then
    some false
   else
    (law13_SnapCommit.l2 script FU x2 (0 : Int)).bind fun o2 =>
    o2.on fun t32 =>
    (snap_Snap_Commit).bind fun r34 =>
    (if (r34 == 0) = true then (snap_Snap_Depth).bind fun r35 =>
    some (r35 == 0) else some false).bind fun c7 =>
    (if c7 = true then (snap_Snap_Machines).bind fun r36 =>
    (snap_Snap_Bounds).bind fun r37 =>
    (snap_Snap_Machines_x t32).bind fun r38 =>
    (snap_Snap_Bounds_x t32).bind fun r39 =>
    (ref09_Same r36 r37 r38 r39).bind fun r40 =>
    some r40 else some false).bind fun c8 =>
    (if c8 = true then (law13_known).bind fun r41 =>
    some r41 else some false).bind fun c9 =>
    some c9) fun x =>
  (snap_New ms bs).bind fun r42 =>
  po r42.1 (
   if ((((r4.2 != 0) || (r42.2 != 0)) || false) || true) = true then
    some false
   else
    (snap_Snap_Fork_x x).bind fun r44 =>
    if (r44.1 != 0) = true then
     some false
    else
     (law13_SnapCommit.l3 script FU r44.2 (0 : Int)).bind fun o3 =>
     o3.on fun s32 =>
     (snap_Snap_Commit_x s32).bind fun r54 =>
     (if (r54.1 == 0) = true then (snap_Snap_Depth_x r54.2).bind fun r55 =>
     some (r55 == 0) else some false).bind fun c10 =>
     (if c10 = true then (snap_Snap_Machines_x r54.2).bind fun r56 =>
     (snap_Snap_Bounds_x r54.2).bind fun r57 =>
     (snap_Snap_Machines).bind fun r58 =>
     (snap_Snap_Bounds).bind fun r59 =>
     (ref09_Same r56 r57 r58 r59).bind fun r60 =>
     some r60 else some false).bind fun c11 =>
     (if c11 = true then (law13_known).bind fun r61 =>
     some r61 else some false).bind fun c12 =>
     some c12) fun x5 =>
  if ((((r4.2 != 0) || (r42.2 != 0)) || false) || false) = true then
   some false
  else
   (snap_Snap_Fork_x x).bind fun r63 =>
   if (r63.1 != 0) = true then
    some false
   else
    (law13_SnapCommit.l4 script FU r63.2 x5 (0 : Int)).bind fun o4 =>
    o4.on fun j2 =>
    (snap_Snap_Commit_x j2.1).bind fun r73 =>
    (if (r73.1 == 0) = true then (snap_Snap_Depth_x r73.2).bind fun r74 =>
    some (r74 == 0) else some false).bind fun c13 =>
    (if c13 = true then (snap_Snap_Machines_x r73.2).bind fun r75 =>
    (snap_Snap_Bounds_x r73.2).bind fun r76 =>
    (snap_Snap_Machines_x j2.2).bind fun r77 =>
    (snap_Snap_Bounds_x j2.2).bind fun r78 =>
    (ref09_Same r75 r76 r77 r78).bind fun r79 =>
    some r79 else some false).bind fun c14 =>
    (if c14 = true then (law13_known).bind fun r80 =>
    some r80 else some false).bind fun c15 =>
    some c15
theorem law13_SnapCommit_ok (ms : List T_api_Machine) (bs : List T_api_Bound) (script : List T_law13_Op) : VS Tryz.prog 10 (law13_SnapCommit ms bs script) [L61 ms, L49 bs, L75 script] [] .bool N0 := by
 refine A4 [.tmp 6] Tryz.func10 R R R fun r hm=>?_
 unfold law13_SnapCommit at hm
 refine Ae tbk [] R R<|Af<|Ai<|Aa tbk [] 2 R R<|Ad R R<|Av hm 0 R fn27 R (K9 _ _) fun r hm=>Aa tbk [] 2 R R<|Bh hm 5 22 17 R (fun _ K' h2 J hm=>Aa tbk [] 5 R R<|J 4 R R (Bj hm)) (fun _ K' h2 J hm=>Aa tbk [] 2 R R<|A1 R R R R R<|Av hm 0 R fn22 R (K168 _ _) fun r2 hm=>Aa tbk [] 2 R R<|J 4 R R (Bj hm)) fun c hm=>Ac<|Ao hm R (fun h5 hm=>Ai<|Ad R R<|Av hm 0 R fn28 R (K143) fun r3 hm=>Ab R R (Ak R)<|Ac<|Rt1 hm R [] R R R) fun h5 hm=>Am<|Ai<|Aa tbk [] 2 R R<|Bd hm fun r4 h7 hm=>Ad R R<|Au 0 R fn29 R (K47 ms bs r4 h7) fun _ _ h243=> ?_
 obtain ⟨b,ob,cap,rfl,rfl⟩:=h243
 rcases po_or hm with ⟨h242,hm⟩ | ⟨x,h242,hm⟩
 ·rw [h242]
  refine Aa tbk [] 5 R R<|Ac<|Ai<|Aa tbk [] 2 R R<|Bd hm fun r5 h10 hm=>Ad R R<|Au 0 R fn29 R (K47 ms bs r5 h10) fun _ _ h126=> ?_
  obtain ⟨b2,ob2,cap2,rfl,rfl⟩:=h126
  rcases po_or hm with ⟨h125,hm⟩ | ⟨x2,h125,hm⟩
  ·rw [h125]
   refine Aa tbk [] 5 R R<|Ac<|Af<|Ai<|Aa tbk [] 3 R R<|Cr tbk [] 3 41 38 R R R R R<|Ab R R (Aj R)<|Cv 3 45 42 R (fun K' J=>Aa tbk [] 3 R R<|J 2 R R R) (fun h14 K' J=>Bb R R R R R (Aj R)<|Bb R R R R R (Dc B9 R R)<|Ab R R (Bk false R R R)<|J 2 R R R)<|Ab R R (Aj R)<|Cv 3 49 46 R (fun K' J=>Aa tbk [] 3 R R<|J 2 R R R) (fun h15 K' J=>Bb R R R R R (Aj R)<|Bb R R R R R (Dc B9 R R)<|Ab R R (Bk false R R R)<|J 2 R R R)<|Ab R R (Aj R)<|Bh hm 4 54 50 R (fun _ K' h16 J hm=>Aa tbk [] 4 R R<|J 3 R R (Bj hm)) (fun _ K' h16 J hm=>Bb R R R R R (Aj R)<|A1 R R R R R<|Av hm 0 R fn38 R (K49) fun r6 hm=>Aa tbk [] 2 R R<|J 3 R R (Bj hm)) fun c2 hm=>Ac<|Ao hm R (fun h19 hm=>Ae tbk [] R R<|Rt1 hm R [] R R R) fun h19 hm=>Am<|Af<|Ae tbk [] R R<|Bw hm (fun _ (_:Unit)=>[(7,.nilptr),(9,.nilptr)]) (fun _ (_:Unit)=>[]) (fun o hm h21=>?_) fun j _ hm=> ?_
   ·refine B1 (fun zn (zs:Int)=>law13_SnapCommit.l1 script zn zs) (fun zs (_:Unit)=>[(2,L75 script),(7,.nilptr),(9,.nilptr),(11,Iw zs)]) (fun _ (_:Unit)=>[]) _ () (fun _=>R) hm (Ag [] R R) fun n i2 _ hm=> ?_
    rw [law13_SnapCommit.l1] at hm
    refine Af<|Ai<|Aa tbk [] 2 R R<|Ab R R (Aw T_law13_Op.vv R C2)<|Aa tbk [] 2 R R<|B5 tbk [] 3 62 59 R R R R R<|Ac<|Ao hm R (fun h23 hm=>?_) fun h23 hm=> ?_
    ·refine Am<|Af<|A2<|Ai<|Aa tbk [] 2 R R<|Bd hm fun x3 h24 hm=>Ab R R (Bf T_law13_Op.vv R R el66 h24)<|Ab R R (Bt R ld75 R)<|Ad R R<|A3 z75 fun b3=>Ad R R<|An (i:=0) R R R ld75 R R R<|Ac<|Af<|Ai<|Aa tbk [0] 1 R R<|Ad R R<|Av hm 0 R fn31 R (K170 _) fun r7 hm=>Ab R R (B6 R)<|Ac<|Ao hm R (fun h27 hm=>A7<|Bc tbk [] R R<|Ap _ () hm (Ag [] R R)) fun h27 hm=>Am<|Ae tbk [0] R R<|A2<|Ae tbk [] R R<|Ao hm R (fun h28 hm=>?_) fun h28 hm=> ?_
     ·refine Af<|Be 0 mixed<|Aq tbk [0,1,2,4,5,6] [0,0] (by kernel_rfl) R R R<|Ah 3 (by kernel_rfl)<|Bd hm fun r8 h29 hm=>Al R R R<|Au 0 R fn39 R (K51 x3.M r8 h29) fun _ _ h33=> ?_
      obtain ⟨rfl,rfl⟩:=h33
      refine Ah 7 (by kernel_rfl)<|Bd hm fun r9 h30 hm=>Al R R R<|Au 0 R fn39 R (K51 x3.M r9 h30) fun _ _ h32=> ?_
      obtain ⟨rfl,rfl⟩:=h32
      exact Ax 8 R R R (by kernel_rfl) (Ba R R R)<|A0 (by kernel_rfl)<|Ao hm R (fun h31 hm=>Ae tbk [] R R<|have hm:=Lr hm h21;Rt1 hm R [] R R R) fun h31 hm=>Am<|Bc tbk [] R R<|Ap _ () hm (Ag [] R R)
     refine Ae tbk [] R R<|Ao hm R (fun h34 hm=>?_) fun h34 hm=> ?_
     ·refine Af<|Be 0 mixed<|Aq tbk [0,1,2,4,5,6] [0,0] (by kernel_rfl) R R R<|Ah 3 (by kernel_rfl)<|Bd hm fun r10 h35 hm=>Al R R R<|Au 0 R fn40 R (K55 x3.Name r10 h35) fun _ _ h39=> ?_
      obtain ⟨rfl,rfl⟩:=h39
      refine Ah 7 (by kernel_rfl)<|Bd hm fun r11 h36 hm=>Al R R R<|Au 0 R fn40 R (K55 x3.Name r11 h36) fun _ _ h38=> ?_
      obtain ⟨rfl,rfl⟩:=h38
      exact Ax 8 R R R (by kernel_rfl) (Ba R R R)<|A0 (by kernel_rfl)<|Ao hm R (fun h37 hm=>Ae tbk [] R R<|have hm:=Lr hm h21;Rt1 hm R [] R R R) fun h37 hm=>Am<|Bc tbk [] R R<|Ap _ () hm (Ag [] R R)
     refine Ae tbk [] R R<|Ao hm R (fun h40 hm=>?_) fun h40 hm=> ?_
     ·refine Af<|Be 0 mixed<|Aq tbk [0,1,2,3,4,6,7,8,9,10] [0,0,0,0] (by kernel_rfl) R R R<|Ah 5 (by kernel_rfl)<|Bd hm fun r12 h41 hm=>Al R R R<|Au 0 R fn41 R (K53 x3.P_ x3.Name r12 h41) fun _ _ h45=> ?_
      obtain ⟨rfl,rfl⟩:=h45
      refine Ah 11 (by kernel_rfl)<|Bd hm fun r13 h42 hm=>Al R R R<|Au 0 R fn41 R (K53 x3.P_ x3.Name r13 h42) fun _ _ h44=> ?_
      obtain ⟨rfl,rfl⟩:=h44
      exact Ax 12 R R R (by kernel_rfl) (Ba R R R)<|A0 (by kernel_rfl)<|Ao hm R (fun h43 hm=>Ae tbk [] R R<|have hm:=Lr hm h21;Rt1 hm R [] R R R) fun h43 hm=>Am<|Bc tbk [] R R<|Ap _ () hm (Ag [] R R)
     refine Ae tbk [] R R<|Ao hm R (fun h46 hm=>?_) fun h46 hm=> ?_
     ·refine Af<|Be 0 mixed<|Aq tbk [0,1,2,4,5,6] [0,0] (by kernel_rfl) R R R<|Ah 3 (by kernel_rfl)<|Bd hm fun r14 h47 hm=>Al R R R<|Au 0 R fn42 R (K65 x3.Name r14 h47) fun _ _ h51=> ?_
      obtain ⟨rfl,rfl⟩:=h51
      refine Ah 7 (by kernel_rfl)<|Bd hm fun r15 h48 hm=>Al R R R<|Au 0 R fn42 R (K65 x3.Name r15 h48) fun _ _ h50=> ?_
      obtain ⟨rfl,rfl⟩:=h50
      exact Ax 8 R R R (by kernel_rfl) (Ba R R R)<|A0 (by kernel_rfl)<|Ao hm R (fun h49 hm=>Ae tbk [] R R<|have hm:=Lr hm h21;Rt1 hm R [] R R R) fun h49 hm=>Am<|Bc tbk [] R R<|Ap _ () hm (Ag [] R R)
     exact Am<|Bc tbk [] R R<|Ap _ () hm (Ag [] R R)
    exact A7<|Ar () hm (Ag [] R R)
   exact Ai<|Ab R R (Aj R)<|Ad R R<|Av hm 0 R fn44 R (K63) fun r16 hm=>Aa tbk [] 2 R R<|Bh hm 4 129 125 R (fun _ K' h53 J hm=>Bb R R R R R (Aj R)<|A1 R R R R R<|Av hm 0 R fn33 R (K56) fun r17 hm=>Aa tbk [] 2 R R<|J 3 R R (Bj hm)) (fun _ K' h53 J hm=>Aa tbk [] 4 R R<|J 3 R R (Bj hm)) fun c3 hm=>Ab R R (Aj R)<|Bh hm 10 140 130 R (fun _ K' h56 J hm=>Bb R R R R R (Aj R)<|A1 R R R R R<|B3 hm 0 R fn34 R (K61) fun r18 ob3 cap3 hm=>Bl (A6 0 [(132,L61 r18)] R ⟨⟨_,R,.here _ R⟩,trivial⟩ (FzH.refl _))<|Bb R R R R R (Aj R)<|A1 R R R R R<|B3 hm 0 R fn35 R (K57) fun r19 ob4 cap4 hm=>Bl (A6 0 [(134,L49 r19)] R ⟨⟨_,R,.here _ R⟩,trivial⟩ (FzH.refl _))<|Bb R R R R R (Aj R)<|A1 R R R R R<|B3 hm 0 R fn34 R (K61) fun r20 ob5 cap5 hm=>Bl (A6 0 [(136,L61 r20)] R ⟨⟨_,R,.here _ R⟩,trivial⟩ (FzH.refl _))<|Bb R R R R R (Aj R)<|A1 R R R R R<|B3 hm 0 R fn35 R (K57) fun r21 ob6 cap6 hm=>Bl (A6 0 [(138,L49 r21)] R ⟨⟨_,R,.here _ R⟩,trivial⟩ (FzH.refl _))<|A1 R R R R R<|Av hm 0 R fn19 R (K196 _ _ _ _) fun r22 hm=>Ab R R (Bk true R R R)<|J 13 R R (Bj hm)) (fun _ K' h56 J hm=>Aa tbk [] 10 R R<|J 9 R R (Bj hm)) fun c4 hm=>Ab R R (Aj R)<|Bh hm 2 143 141 R (fun _ K' h67 J hm=>A1 R R R R R<|Av hm 0 R fn28 R (K143) fun r23 hm=>Ab R R (Bk true R R R)<|J 1 R R (Bj hm)) (fun _ K' h67 J hm=>Aa tbk [] 2 R R<|J 1 R R (Bj hm)) fun c5 hm=>Ab R R (Ak R)<|Ac<|Rt1 hm R [] R R R
  ·rw [h125]
   refine Aa tbk [] 5 R R<|Ac<|Af<|Ai<|Aa tbk [] 3 R R<|Cr tbk [] 3 41 38 R R R R R<|Ab R R (Aj R)<|Cv 3 45 42 R (fun K' J=>Aa tbk [] 3 R R<|J 2 R R R) (fun h71 K' J=>Bb R R R R R (Aj R)<|Bb R R R R R (Dc B9 R R)<|Ab R R (Bk false R R R)<|J 2 R R R)<|Ab R R (Aj R)<|Cv 3 49 46 R (fun K' J=>Aa tbk [] 3 R R<|J 2 R R R) (fun h72 K' J=>Bb R R R R R (Aj R)<|Bb R R R R R (Dc B9 R R)<|Ab R R (Bk false R R R)<|J 2 R R R)<|Ab R R (Aj R)<|Bh hm 4 54 50 R (fun _ K' h73 J hm=>Aa tbk [] 4 R R<|J 3 R R (Bj hm)) (fun _ K' h73 J hm=>Bb R R R R R (Aj R)<|A1 R R R R R<|Av hm 0 R fn38 R (K49) fun r24 hm=>Aa tbk [] 2 R R<|J 3 R R (Bj hm)) fun c6 hm=>Ac<|Ao hm R (fun h76 hm=>Ae tbk [] R R<|Rt1 hm R [] R R R) fun h76 hm=>Am<|Af<|Ae tbk [] R R<|Bw hm (fun _ (gg:Option Nat × Nat)=>[(7,.nilptr),(9,.ptr b2 0)]) (fun t32 (gg:Option Nat × Nat)=>[.box b2 96 [T_snap_state.pf t32.now,Z93 gg.1 t32.kept gg.2,Iw t32.tried],Q93 gg.1 gg.2 t32.kept]) (fun o2 hm h78=>?_) fun t32=>Pq fun ob9 cap9 hm=> ?_
   ·refine B1 (fun zn (zs:T_snap_Snap × Int)=>law13_SnapCommit.l2 script zn zs.1 zs.2) (fun zs (_:Option Nat × Nat)=>[(2,L75 script),(7,.nilptr),(9,.ptr b2 0),(11,Iw zs.2)]) (fun zs (zg:Option Nat × Nat)=>[.box b2 96 [T_snap_state.pf zs.1.now,Z93 zg.1 zs.1.kept zg.2,Iw zs.1.tried],Q93 zg.1 zg.2 zs.1.kept]) (x2,(0 : Int)) (ob2,cap2) (fun _=>R) hm (Ag [0,0] R R) fun n2=>Pq fun t2 i4=>Pq fun ob8 cap8 hm=> ?_
    rw [law13_SnapCommit.l2] at hm
    refine Af<|Ai<|Aa tbk [] 2 R R<|Ab R R (Aw T_law13_Op.vv R C2)<|Aa tbk [] 2 R R<|B5 tbk [] 3 62 59 R R R R R<|Ac<|Ao hm R (fun h80 hm=>?_) fun h80 hm=> ?_
    ·refine Am<|Af<|A2<|Ai<|Aa tbk [] 2 R R<|Bd hm fun x4 h81 hm=>Ab R R (Bf T_law13_Op.vv R R el66 h81)<|Ab R R (Bt R ld75 R)<|Ad R R<|A3 z75 fun b4=>Ad R R<|An (i:=0) R R R ld75 R R R<|Ac<|Af<|Ai<|Aa tbk [0] 1 R R<|Ad R R<|Av hm 0 R fn31 R (K170 _) fun r25 hm=>Ab R R (B6 R)<|Ac<|Ao hm R (fun h84 hm=>A7<|Bc tbk [] R R<|Ap (t2,(IntKind.i64.wrap (i4 + (1 : Int)))) (ob8,cap8) hm (Ag [1,1] R R)) fun h84 hm=>Am<|Ae tbk [0] R R<|A2<|Ae tbk [] R R<|Ao hm R (fun h85 hm=>?_) fun h85 hm=> ?_
     ·refine Af<|Bz (Bi [1,1,0] R)<|Be 2 mixed<|Aq tbk [0,1,2,4,5,6] [0,0] (by kernel_rfl) R R R<|Ah 3 (by kernel_rfl)<|Bd hm fun r26 h86 hm=>Al R R R<|Au 0 R fn39 R (K51 x4.M r26 h86) fun _ _ h90=> ?_
      obtain ⟨rfl,rfl⟩:=h90
      refine Ah 7 (by kernel_rfl)<|Bd hm fun r27 h87 hm=>Al R R R<|Au 2 R fn39 R (K74 t2 x4.M b2 ob8 cap8 r27 h87) fun _ _ h89=> ?_
      obtain ⟨ob10,cap10,rfl,rfl⟩:=h89
      exact Ax 8 R R R (by kernel_rfl) (Ba R R R)<|A0 (by kernel_rfl)<|Ao hm R (fun h88 hm=>Ae tbk [] R R<|have hm:=Lr hm h78;Rt1 hm R [] R R R) fun h88 hm=>Am<|Bc tbk [] R R<|Ap (r27.2,(IntKind.i64.wrap (i4 + (1 : Int)))) (ob10,cap10) hm (Ag [0,0] R R)
     refine Ae tbk [] R R<|Ao hm R (fun h91 hm=>?_) fun h91 hm=> ?_
     ·refine Af<|Bz (Bi [1,1,0] R)<|Be 2 mixed<|Aq tbk [0,1,2,4,5,6] [0,0] (by kernel_rfl) R R R<|Ah 3 (by kernel_rfl)<|Bd hm fun r28 h92 hm=>Al R R R<|Au 0 R fn40 R (K55 x4.Name r28 h92) fun _ _ h96=> ?_
      obtain ⟨rfl,rfl⟩:=h96
      refine Ah 7 (by kernel_rfl)<|Bd hm fun r29 h93 hm=>Al R R R<|Au 2 R fn40 R (K85 t2 x4.Name b2 ob8 cap8 r29 h93) fun _ _ h95=> ?_
      obtain ⟨ob11,cap11,rfl,rfl⟩:=h95
      exact Ax 8 R R R (by kernel_rfl) (Ba R R R)<|A0 (by kernel_rfl)<|Ao hm R (fun h94 hm=>Ae tbk [] R R<|have hm:=Lr hm h78;Rt1 hm R [] R R R) fun h94 hm=>Am<|Bc tbk [] R R<|Ap (r29.2,(IntKind.i64.wrap (i4 + (1 : Int)))) (ob11,cap11) hm (Ag [0,0] R R)
     refine Ae tbk [] R R<|Ao hm R (fun h97 hm=>?_) fun h97 hm=> ?_
     ·refine Af<|Bz (Bi [1,1,0] R)<|Be 2 mixed<|Aq tbk [0,1,2,3,4,6,7,8,9,10] [0,0,0,0] (by kernel_rfl) R R R<|Ah 5 (by kernel_rfl)<|Bd hm fun r30 h98 hm=>Al R R R<|Au 0 R fn41 R (K53 x4.P_ x4.Name r30 h98) fun _ _ h102=> ?_
      obtain ⟨rfl,rfl⟩:=h102
      refine Ah 11 (by kernel_rfl)<|Bd hm fun r31 h99 hm=>Al R R R<|Au 2 R fn41 R (K81 t2 x4.P_ x4.Name b2 ob8 cap8 r31 h99) fun _ _ h101=> ?_
      obtain ⟨ob12,cap12,rfl,rfl⟩:=h101
      exact Ax 12 R R R (by kernel_rfl) (Ba R R R)<|A0 (by kernel_rfl)<|Ao hm R (fun h100 hm=>Ae tbk [] R R<|have hm:=Lr hm h78;Rt1 hm R [] R R R) fun h100 hm=>Am<|Bc tbk [] R R<|Ap (r31.2,(IntKind.i64.wrap (i4 + (1 : Int)))) (ob12,cap12) hm (Ag [0,0] R R)
     refine Ae tbk [] R R<|Ao hm R (fun h103 hm=>?_) fun h103 hm=> ?_
     ·refine Af<|Bz (Bi [1,1,0] R)<|Be 2 mixed<|Aq tbk [0,1,2,4,5,6] [0,0] (by kernel_rfl) R R R<|Ah 3 (by kernel_rfl)<|Bd hm fun r32 h104 hm=>Al R R R<|Au 0 R fn42 R (K65 x4.Name r32 h104) fun _ _ h108=> ?_
      obtain ⟨rfl,rfl⟩:=h108
      refine Ah 7 (by kernel_rfl)<|Bd hm fun r33 h105 hm=>Al R R R<|Au 2 R fn42 R (K142 t2 x4.Name b2 ob8 cap8 r33 h105) fun _ _ h107=> ?_
      obtain ⟨ob13,cap13,rfl,rfl⟩:=h107
      exact Ax 8 R R R (by kernel_rfl) (Ba R R R)<|A0 (by kernel_rfl)<|Ao hm R (fun h106 hm=>Ae tbk [] R R<|have hm:=Lr hm h78;Rt1 hm R [] R R R) fun h106 hm=>Am<|Bc tbk [] R R<|Ap (r33.2,(IntKind.i64.wrap (i4 + (1 : Int)))) (ob13,cap13) hm (Ag [0,0] R R)
     exact Am<|Bc tbk [] R R<|Ap (t2,(IntKind.i64.wrap (i4 + (1 : Int)))) (ob8,cap8) hm (Ag [1,1] R R)
    exact A7<|Ar (ob8,cap8) hm (Ag [0,0] R R)
   exact Ai<|Ab R R (Aj R)<|Ad R R<|Av hm 0 R fn44 R (K63) fun r34 hm=>Aa tbk [] 2 R R<|Bh hm 4 129 125 R (fun _ K' h110 J hm=>Bb R R R R R (Aj R)<|A1 R R R R R<|Av hm 0 R fn33 R (K56) fun r35 hm=>Aa tbk [] 2 R R<|J 3 R R (Bj hm)) (fun _ K' h110 J hm=>Aa tbk [] 4 R R<|J 3 R R (Bj hm)) fun c7 hm=>Ab R R (Aj R)<|Bh hm 10 140 130 R (fun _ K' h113 J hm=>Bb R R R R R (Aj R)<|A1 R R R R R<|B3 hm 0 R fn34 R (K61) fun r36 ob14 cap14 hm=>Bl (A6 0 [(132,L61 r36)] R ⟨⟨_,R,.here _ R⟩,trivial⟩ (FzH.refl _))<|Bb R R R R R (Aj R)<|A1 R R R R R<|B3 hm 0 R fn35 R (K57) fun r37 ob15 cap15 hm=>Bl (A6 0 [(134,L49 r37)] R ⟨⟨_,R,.here _ R⟩,trivial⟩ (FzH.refl _))<|Bb R R R R R (Aj R)<|A1 R R R R R<|Av hm 2 R fn34 R (K136 _ _ _ _) fun r38 hm=>Bb R R R R R (Aj R)<|A1 R R R R R<|Av hm 2 R fn35 R (K87 _ _ _ _) fun r39 hm=>A1 R R R R R<|Av hm 0 R fn19 R (K196 _ _ _ _) fun r40 hm=>Ab R R (Bk true R R R)<|J 11 R R (Bj hm)) (fun _ K' h113 J hm=>Aa tbk [] 10 R R<|J 9 R R (Bj hm)) fun c8 hm=>Ab R R (Aj R)<|Bh hm 2 143 141 R (fun _ K' h122 J hm=>A1 R R R R R<|Av hm 0 R fn28 R (K143) fun r41 hm=>Ab R R (Bk true R R R)<|J 1 R R (Bj hm)) (fun _ K' h122 J hm=>Aa tbk [] 2 R R<|J 1 R R (Bj hm)) fun c9 hm=>Ab R R (Ak R)<|Ac<|Rt1 hm R [] R R R
 ·rw [h242]
  refine Aa tbk [] 5 R R<|Ac<|Ai<|Aa tbk [] 2 R R<|Bd hm fun r42 h127 hm=>Ad R R<|Au 0 R fn29 R (K47 ms bs r42 h127) fun _ _ h241=> ?_
  obtain ⟨b5,ob16,cap16,rfl,rfl⟩:=h241
  rcases po_or hm with ⟨h240,hm⟩ | ⟨x5,h240,hm⟩
  ·rw [h240]
   refine Aa tbk [] 5 R R<|Ac<|Af<|Ai<|Aa tbk [] 3 R R<|Cr tbk [] 3 41 38 R R R R R<|Ab R R (Aj R)<|Cv 3 45 42 R (fun K' J=>Aa tbk [] 3 R R<|J 2 R R R) (fun h131 K' J=>Bb R R R R R (Aj R)<|Bb R R R R R (Dc B9 R R)<|Ab R R (Bk false R R R)<|J 2 R R R)<|Ab R R (Aj R)<|Cv 3 49 46 R (fun K' J=>Aa tbk [] 3 R R<|J 2 R R R) (fun h132 K' J=>Bb R R R R R (Aj R)<|Bb R R R R R (Dc B9 R R)<|Ab R R (Bk false R R R)<|J 2 R R R)<|Ab R R (Aj R)<|Dl hm 50 R (fun h135 hm=>Aa tbk [] 4 R R<|Ac<|B7 R R<|Ae tbk [] R R<|Rt1 hm R [] R R R) fun h135 hm=>Bb R R R R R (Aj R)<|A1 R R R R R<|B3 hm 2 R fn38 R (K67 _ _ _ _) fun r44 ob18 cap18 hm=>Aa tbk [] 2 R R<|Ac<|Ao hm R (fun h137 hm=>Ae tbk [] R R<|Rt1 hm R [] R R R) fun h137 hm=>Am<|Af<|Ae tbk [] R R<|Bw hm (fun _ (gg:Option Nat × Nat)=>[(7,.ptr b 0),(9,.nilptr)]) (fun s32 (gg:Option Nat × Nat)=>[.box b 96 [T_snap_state.pf s32.now,Z93 gg.1 s32.kept gg.2,Iw s32.tried],Q93 gg.1 gg.2 s32.kept]) (fun o3 hm h139=>?_) fun s32=>Pq fun ob21 cap21 hm=> ?_
   ·refine B1 (fun zn (zs:T_snap_Snap × Int)=>law13_SnapCommit.l3 script zn zs.1 zs.2) (fun zs (_:Option Nat × Nat)=>[(2,L75 script),(7,.ptr b 0),(9,.nilptr),(11,Iw zs.2)]) (fun zs (zg:Option Nat × Nat)=>[.box b 96 [T_snap_state.pf zs.1.now,Z93 zg.1 zs.1.kept zg.2,Iw zs.1.tried],Q93 zg.1 zg.2 zs.1.kept]) (r44.2,(0 : Int)) (ob18,cap18) (fun _=>R) hm (Ag [0,0] R R) fun n3=>Pq fun s2 i6=>Pq fun ob20 cap20 hm=> ?_
    rw [law13_SnapCommit.l3] at hm
    refine Af<|Ai<|Aa tbk [] 2 R R<|Ab R R (Aw T_law13_Op.vv R C2)<|Aa tbk [] 2 R R<|B5 tbk [] 3 62 59 R R R R R<|Ac<|Ao hm R (fun h141 hm=>?_) fun h141 hm=> ?_
    ·refine Am<|Af<|A2<|Ai<|Aa tbk [] 2 R R<|Bd hm fun x6 h142 hm=>Ab R R (Bf T_law13_Op.vv R R el66 h142)<|Ab R R (Bt R ld75 R)<|Ad R R<|A3 z75 fun b6=>Ad R R<|An (i:=0) R R R ld75 R R R<|Ac<|Af<|Ai<|Aa tbk [0] 1 R R<|Ad R R<|Av hm 0 R fn31 R (K170 _) fun r45 hm=>Ab R R (B6 R)<|Ac<|Ao hm R (fun h145 hm=>A7<|Bc tbk [] R R<|Ap (s2,(IntKind.i64.wrap (i6 + (1 : Int)))) (ob20,cap20) hm (Ag [1,1] R R)) fun h145 hm=>Am<|Ae tbk [0] R R<|A2<|Ae tbk [] R R<|Ao hm R (fun h146 hm=>?_) fun h146 hm=> ?_
     ·refine Af<|Bz (Bi [1,1,0] R)<|Be 2 mixed<|Aq tbk [0,1,2,4,5,6] [0,0] (by kernel_rfl) R R R<|Ah 3 (by kernel_rfl)<|Bd hm fun r46 h147 hm=>Al R R R<|Au 2 R fn39 R (K74 s2 x6.M b ob20 cap20 r46 h147) fun _ _ h151=> ?_
      obtain ⟨ob22,cap22,rfl,rfl⟩:=h151
      refine Ah 7 (by kernel_rfl)<|Bd hm fun r47 h148 hm=>Al R R R<|Au 0 R fn39 R (K51 x6.M r47 h148) fun _ _ h150=> ?_
      obtain ⟨rfl,rfl⟩:=h150
      exact Ax 8 R R R (by kernel_rfl) (Ba R R R)<|A0 (by kernel_rfl)<|Ao hm R (fun h149 hm=>Ae tbk [] R R<|have hm:=Lr hm h139;Rt1 hm R [] R R R) fun h149 hm=>Am<|Bc tbk [] R R<|Ap (r46.2,(IntKind.i64.wrap (i6 + (1 : Int)))) (ob22,cap22) hm (Ag [0,0] R R)
     refine Ae tbk [] R R<|Ao hm R (fun h152 hm=>?_) fun h152 hm=> ?_
     ·refine Af<|Bz (Bi [1,1,0] R)<|Be 2 mixed<|Aq tbk [0,1,2,4,5,6] [0,0] (by kernel_rfl) R R R<|Ah 3 (by kernel_rfl)<|Bd hm fun r48 h153 hm=>Al R R R<|Au 2 R fn40 R (K85 s2 x6.Name b ob20 cap20 r48 h153) fun _ _ h157=> ?_
      obtain ⟨ob23,cap23,rfl,rfl⟩:=h157
      refine Ah 7 (by kernel_rfl)<|Bd hm fun r49 h154 hm=>Al R R R<|Au 0 R fn40 R (K55 x6.Name r49 h154) fun _ _ h156=> ?_
      obtain ⟨rfl,rfl⟩:=h156
      exact Ax 8 R R R (by kernel_rfl) (Ba R R R)<|A0 (by kernel_rfl)<|Ao hm R (fun h155 hm=>Ae tbk [] R R<|have hm:=Lr hm h139;Rt1 hm R [] R R R) fun h155 hm=>Am<|Bc tbk [] R R<|Ap (r48.2,(IntKind.i64.wrap (i6 + (1 : Int)))) (ob23,cap23) hm (Ag [0,0] R R)
     refine Ae tbk [] R R<|Ao hm R (fun h158 hm=>?_) fun h158 hm=> ?_
     ·refine Af<|Bz (Bi [1,1,0] R)<|Be 2 mixed<|Aq tbk [0,1,2,3,4,6,7,8,9,10] [0,0,0,0] (by kernel_rfl) R R R<|Ah 5 (by kernel_rfl)<|Bd hm fun r50 h159 hm=>Al R R R<|Au 2 R fn41 R (K81 s2 x6.P_ x6.Name b ob20 cap20 r50 h159) fun _ _ h163=> ?_
      obtain ⟨ob24,cap24,rfl,rfl⟩:=h163
      refine Ah 11 (by kernel_rfl)<|Bd hm fun r51 h160 hm=>Al R R R<|Au 0 R fn41 R (K53 x6.P_ x6.Name r51 h160) fun _ _ h162=> ?_
      obtain ⟨rfl,rfl⟩:=h162
      exact Ax 12 R R R (by kernel_rfl) (Ba R R R)<|A0 (by kernel_rfl)<|Ao hm R (fun h161 hm=>Ae tbk [] R R<|have hm:=Lr hm h139;Rt1 hm R [] R R R) fun h161 hm=>Am<|Bc tbk [] R R<|Ap (r50.2,(IntKind.i64.wrap (i6 + (1 : Int)))) (ob24,cap24) hm (Ag [0,0] R R)
     refine Ae tbk [] R R<|Ao hm R (fun h164 hm=>?_) fun h164 hm=> ?_
     ·refine Af<|Bz (Bi [1,1,0] R)<|Be 2 mixed<|Aq tbk [0,1,2,4,5,6] [0,0] (by kernel_rfl) R R R<|Ah 3 (by kernel_rfl)<|Bd hm fun r52 h165 hm=>Al R R R<|Au 2 R fn42 R (K142 s2 x6.Name b ob20 cap20 r52 h165) fun _ _ h169=> ?_
      obtain ⟨ob25,cap25,rfl,rfl⟩:=h169
      refine Ah 7 (by kernel_rfl)<|Bd hm fun r53 h166 hm=>Al R R R<|Au 0 R fn42 R (K65 x6.Name r53 h166) fun _ _ h168=> ?_
      obtain ⟨rfl,rfl⟩:=h168
      exact Ax 8 R R R (by kernel_rfl) (Ba R R R)<|A0 (by kernel_rfl)<|Ao hm R (fun h167 hm=>Ae tbk [] R R<|have hm:=Lr hm h139;Rt1 hm R [] R R R) fun h167 hm=>Am<|Bc tbk [] R R<|Ap (r52.2,(IntKind.i64.wrap (i6 + (1 : Int)))) (ob25,cap25) hm (Ag [0,0] R R)
     exact Am<|Bc tbk [] R R<|Ap (s2,(IntKind.i64.wrap (i6 + (1 : Int)))) (ob20,cap20) hm (Ag [1,1] R R)
    exact A7<|Ar (ob20,cap20) hm (Ag [0,0] R R)
   exact Ai<|Ab R R (Aj R)<|Ad R R<|B3 hm 2 R fn44 R (K139 _ _ _ _) fun r54 ob26 cap26 hm=>Aa tbk [] 2 R R<|Bh hm 4 129 125 R (fun _ K' h171 J hm=>Bb R R R R R (Aj R)<|A1 R R R R R<|Av hm 2 R fn33 R (K86 _ _ _ _) fun r55 hm=>Aa tbk [] 2 R R<|J 3 R R (Bj hm)) (fun _ K' h171 J hm=>Aa tbk [] 4 R R<|J 3 R R (Bj hm)) fun c10 hm=>Ab R R (Aj R)<|Bh hm 10 140 130 R (fun _ K' h174 J hm=>Bb R R R R R (Aj R)<|A1 R R R R R<|Av hm 2 R fn34 R (K136 _ _ _ _) fun r56 hm=>Bb R R R R R (Aj R)<|A1 R R R R R<|Av hm 2 R fn35 R (K87 _ _ _ _) fun r57 hm=>Bb R R R R R (Aj R)<|A1 R R R R R<|B3 hm 0 R fn34 R (K61) fun r58 ob27 cap27 hm=>Bl (A6 0 [(136,L61 r58)] R ⟨⟨_,R,.here _ R⟩,trivial⟩ (FzH.refl _))<|Bb R R R R R (Aj R)<|A1 R R R R R<|B3 hm 0 R fn35 R (K57) fun r59 ob28 cap28 hm=>Bl (A6 0 [(138,L49 r59)] R ⟨⟨_,R,.here _ R⟩,trivial⟩ (FzH.refl _))<|A1 R R R R R<|Av hm 0 R fn19 R (K196 _ _ _ _) fun r60 hm=>Ab R R (Bk true R R R)<|J 11 R R (Bj hm)) (fun _ K' h174 J hm=>Aa tbk [] 10 R R<|J 9 R R (Bj hm)) fun c11 hm=>Ab R R (Aj R)<|Bh hm 2 143 141 R (fun _ K' h183 J hm=>A1 R R R R R<|Av hm 0 R fn28 R (K143) fun r61 hm=>Ab R R (Bk true R R R)<|J 1 R R (Bj hm)) (fun _ K' h183 J hm=>Aa tbk [] 2 R R<|J 1 R R (Bj hm)) fun c12 hm=>Ab R R (Ak R)<|Ac<|Rt1 hm R [] R R R
  ·rw [h240]
   refine Aa tbk [] 5 R R<|Ac<|Af<|Ai<|Aa tbk [] 3 R R<|Cr tbk [] 3 41 38 R R R R R<|Ab R R (Aj R)<|Cv 3 45 42 R (fun K' J=>Aa tbk [] 3 R R<|J 2 R R R) (fun h187 K' J=>Bb R R R R R (Aj R)<|Bb R R R R R (Dc B9 R R)<|Ab R R (Bk false R R R)<|J 2 R R R)<|Ab R R (Aj R)<|Cv 3 49 46 R (fun K' J=>Aa tbk [] 3 R R<|J 2 R R R) (fun h188 K' J=>Bb R R R R R (Aj R)<|Bb R R R R R (Dc B9 R R)<|Ab R R (Bk false R R R)<|J 2 R R R)<|Ab R R (Aj R)<|Dl hm 50 R (fun h191 hm=>Aa tbk [] 4 R R<|Ac<|B7 R R<|Ae tbk [] R R<|Rt1 hm R [] R R R) fun h191 hm=>Bb R R R R R (Aj R)<|Bl (Bi [2,2,0,0] R)<|A1 R R R R R<|B3 hm 2 R fn38 R (K67 _ _ _ _) fun r63 ob30 cap30 hm=>Aa tbk [] 2 R R<|Ac<|Ao hm R (fun h193 hm=>Ae tbk [] R R<|Rt1 hm R [] R R R) fun h193 hm=>Am<|Af<|Ae tbk [] R R<|Bw hm (fun _ (gg:Option Nat × Nat × Option Nat × Nat)=>[(7,.ptr b 0),(9,.ptr b5 0)]) (fun j2 (gg:Option Nat × Nat × Option Nat × Nat)=>[.box b 96 [T_snap_state.pf j2.1.now,Z93 gg.1 j2.1.kept gg.2.1,Iw j2.1.tried],Q93 gg.1 gg.2.1 j2.1.kept,.box b5 96 [T_snap_state.pf j2.2.now,Z93 gg.2.2.1 j2.2.kept gg.2.2.2,Iw j2.2.tried],Q93 gg.2.2.1 gg.2.2.2 j2.2.kept]) (fun o4 hm h195=>?_) fun j2=>Pq fun ob35=>Pq fun cap35=>Pq fun ob36 cap36 hm=> ?_
   ·refine B1 (fun zn (zs:T_snap_Snap × T_snap_Snap × Int)=>law13_SnapCommit.l4 script zn zs.1 zs.2.1 zs.2.2) (fun zs (_:Option Nat × Nat × Option Nat × Nat)=>[(2,L75 script),(7,.ptr b 0),(9,.ptr b5 0),(11,Iw zs.2.2)]) (fun zs (zg:Option Nat × Nat × Option Nat × Nat)=>[.box b 96 [T_snap_state.pf zs.1.now,Z93 zg.1 zs.1.kept zg.2.1,Iw zs.1.tried],Q93 zg.1 zg.2.1 zs.1.kept,.box b5 96 [T_snap_state.pf zs.2.1.now,Z93 zg.2.2.1 zs.2.1.kept zg.2.2.2,Iw zs.2.1.tried],Q93 zg.2.2.1 zg.2.2.2 zs.2.1.kept]) (r63.2,x5,(0 : Int)) (ob30,cap30,ob16,cap16) (fun _=>R) hm (Ag [0,0,0,0] R R) fun n4=>Pq fun s5=>Pq fun t5 i8=>Pq fun ob33=>Pq fun cap33=>Pq fun ob34 cap34 hm=> ?_
    rw [law13_SnapCommit.l4] at hm
    refine Af<|Ai<|Aa tbk [] 2 R R<|Ab R R (Aw T_law13_Op.vv R C2)<|Aa tbk [] 2 R R<|B5 tbk [] 3 62 59 R R R R R<|Ac<|Ao hm R (fun h197 hm=>?_) fun h197 hm=> ?_
    ·refine Am<|Af<|A2<|Ai<|Aa tbk [] 2 R R<|Bd hm fun x7 h198 hm=>Ab R R (Bf T_law13_Op.vv R R el66 h198)<|Ab R R (Bt R ld75 R)<|Ad R R<|A3 z75 fun b7=>Ad R R<|An (i:=0) R R R ld75 R R R<|Ac<|Af<|Ai<|Aa tbk [0] 1 R R<|Ad R R<|Av hm 0 R fn31 R (K170 _) fun r64 hm=>Ab R R (B6 R)<|Ac<|Ao hm R (fun h201 hm=>A7<|Bc tbk [] R R<|Ap (s5,t5,(IntKind.i64.wrap (i8 + (1 : Int)))) (ob33,cap33,ob34,cap34) hm (Ag [1,1,1,1] R R)) fun h201 hm=>Am<|Ae tbk [0] R R<|A2<|Ae tbk [] R R<|Ao hm R (fun h202 hm=>?_) fun h202 hm=> ?_
     ·refine Af<|Bz (Bi [1,1,1,1,0] R)<|Be 4 mixed<|Aq tbk [0,1,2,4,5,6] [0,0] (by kernel_rfl) R R R<|Ah 3 (by kernel_rfl)<|Bd hm fun r65 h203 hm=>Al R R R<|Au 2 R fn39 R (K74 s5 x7.M b ob33 cap33 r65 h203) fun _ _ h207=> ?_
      obtain ⟨ob37,cap37,rfl,rfl⟩:=h207
      refine Ah 7 (by kernel_rfl)<|Bd hm fun r66 h204 hm=>Al R R R<|Da (Bi [2,2,0,0] R)<|Au 2 R fn39 R (K74 t5 x7.M b5 ob34 cap34 r66 h204) fun _ _ h206=> ?_
      obtain ⟨ob38,cap38,rfl,rfl⟩:=h206
      exact Ax 8 R R R (by kernel_rfl) (Ba R R R)<|A0 (by kernel_rfl)<|Ao hm R (fun h205 hm=>Ae tbk [] R R<|have hm:=Lr hm h195;Rt1 hm R [] R R R) fun h205 hm=>Am<|Bc tbk [] R R<|Ap (r65.2,r66.2,(IntKind.i64.wrap (i8 + (1 : Int)))) (ob37,cap37,ob38,cap38) hm (Ag [2,2,0,0] R R)
     refine Ae tbk [] R R<|Ao hm R (fun h208 hm=>?_) fun h208 hm=> ?_
     ·refine Af<|Bz (Bi [1,1,1,1,0] R)<|Be 4 mixed<|Aq tbk [0,1,2,4,5,6] [0,0] (by kernel_rfl) R R R<|Ah 3 (by kernel_rfl)<|Bd hm fun r67 h209 hm=>Al R R R<|Au 2 R fn40 R (K85 s5 x7.Name b ob33 cap33 r67 h209) fun _ _ h213=> ?_
      obtain ⟨ob39,cap39,rfl,rfl⟩:=h213
      refine Ah 7 (by kernel_rfl)<|Bd hm fun r68 h210 hm=>Al R R R<|Da (Bi [2,2,0,0] R)<|Au 2 R fn40 R (K85 t5 x7.Name b5 ob34 cap34 r68 h210) fun _ _ h212=> ?_
      obtain ⟨ob40,cap40,rfl,rfl⟩:=h212
      exact Ax 8 R R R (by kernel_rfl) (Ba R R R)<|A0 (by kernel_rfl)<|Ao hm R (fun h211 hm=>Ae tbk [] R R<|have hm:=Lr hm h195;Rt1 hm R [] R R R) fun h211 hm=>Am<|Bc tbk [] R R<|Ap (r67.2,r68.2,(IntKind.i64.wrap (i8 + (1 : Int)))) (ob39,cap39,ob40,cap40) hm (Ag [2,2,0,0] R R)
     refine Ae tbk [] R R<|Ao hm R (fun h214 hm=>?_) fun h214 hm=> ?_
     ·refine Af<|Bz (Bi [1,1,1,1,0] R)<|Be 4 mixed<|Aq tbk [0,1,2,3,4,6,7,8,9,10] [0,0,0,0] (by kernel_rfl) R R R<|Ah 5 (by kernel_rfl)<|Bd hm fun r69 h215 hm=>Al R R R<|Au 2 R fn41 R (K81 s5 x7.P_ x7.Name b ob33 cap33 r69 h215) fun _ _ h219=> ?_
      obtain ⟨ob41,cap41,rfl,rfl⟩:=h219
      refine Ah 11 (by kernel_rfl)<|Bd hm fun r70 h216 hm=>Al R R R<|Da (Bi [2,2,0,0] R)<|Au 2 R fn41 R (K81 t5 x7.P_ x7.Name b5 ob34 cap34 r70 h216) fun _ _ h218=> ?_
      obtain ⟨ob42,cap42,rfl,rfl⟩:=h218
      exact Ax 12 R R R (by kernel_rfl) (Ba R R R)<|A0 (by kernel_rfl)<|Ao hm R (fun h217 hm=>Ae tbk [] R R<|have hm:=Lr hm h195;Rt1 hm R [] R R R) fun h217 hm=>Am<|Bc tbk [] R R<|Ap (r69.2,r70.2,(IntKind.i64.wrap (i8 + (1 : Int)))) (ob41,cap41,ob42,cap42) hm (Ag [2,2,0,0] R R)
     refine Ae tbk [] R R<|Ao hm R (fun h220 hm=>?_) fun h220 hm=> ?_
     ·refine Af<|Bz (Bi [1,1,1,1,0] R)<|Be 4 mixed<|Aq tbk [0,1,2,4,5,6] [0,0] (by kernel_rfl) R R R<|Ah 3 (by kernel_rfl)<|Bd hm fun r71 h221 hm=>Al R R R<|Au 2 R fn42 R (K142 s5 x7.Name b ob33 cap33 r71 h221) fun _ _ h225=> ?_
      obtain ⟨ob43,cap43,rfl,rfl⟩:=h225
      refine Ah 7 (by kernel_rfl)<|Bd hm fun r72 h222 hm=>Al R R R<|Da (Bi [2,2,0,0] R)<|Au 2 R fn42 R (K142 t5 x7.Name b5 ob34 cap34 r72 h222) fun _ _ h224=> ?_
      obtain ⟨ob44,cap44,rfl,rfl⟩:=h224
      exact Ax 8 R R R (by kernel_rfl) (Ba R R R)<|A0 (by kernel_rfl)<|Ao hm R (fun h223 hm=>Ae tbk [] R R<|have hm:=Lr hm h195;Rt1 hm R [] R R R) fun h223 hm=>Am<|Bc tbk [] R R<|Ap (r71.2,r72.2,(IntKind.i64.wrap (i8 + (1 : Int)))) (ob43,cap43,ob44,cap44) hm (Ag [2,2,0,0] R R)
     exact Am<|Bc tbk [] R R<|Ap (s5,t5,(IntKind.i64.wrap (i8 + (1 : Int)))) (ob33,cap33,ob34,cap34) hm (Ag [1,1,1,1] R R)
    exact A7<|Ar (ob33,cap33,ob34,cap34) hm (Ag [0,0,0,0] R R)
   exact Ai<|Ab R R (Aj R)<|Ad R R<|B3 hm 2 R fn44 R (K139 _ _ _ _) fun r73 ob45 cap45 hm=>Aa tbk [] 2 R R<|Bh hm 4 129 125 R (fun _ K' h227 J hm=>Bb R R R R R (Aj R)<|A1 R R R R R<|Av hm 2 R fn33 R (K86 _ _ _ _) fun r74 hm=>Aa tbk [] 2 R R<|J 3 R R (Bj hm)) (fun _ K' h227 J hm=>Aa tbk [] 4 R R<|J 3 R R (Bj hm)) fun c13 hm=>Ab R R (Aj R)<|Bh hm 10 140 130 R (fun _ K' h230 J hm=>Bb R R R R R (Aj R)<|A1 R R R R R<|Av hm 2 R fn34 R (K136 _ _ _ _) fun r75 hm=>Bb R R R R R (Aj R)<|A1 R R R R R<|Av hm 2 R fn35 R (K87 _ _ _ _) fun r76 hm=>Bb R R R R R (Aj R)<|Bl (Bi [2,2,0,0] R)<|A1 R R R R R<|Av hm 2 R fn34 R (K136 _ _ _ _) fun r77 hm=>Bb R R R R R (Aj R)<|A1 R R R R R<|Av hm 2 R fn35 R (K87 _ _ _ _) fun r78 hm=>A1 R R R R R<|Av hm 0 R fn19 R (K196 _ _ _ _) fun r79 hm=>Ab R R (Bk true R R R)<|Bl (Bi [2,2,0,0] R)<|J 9 R R (Bj hm)) (fun _ K' h230 J hm=>Aa tbk [] 10 R R<|J 9 R R (Bj hm)) fun c14 hm=>Ab R R (Aj R)<|Bh hm 2 143 141 R (fun _ K' h237 J hm=>A1 R R R R R<|Av hm 0 R fn28 R (K143) fun r80 hm=>Ab R R (Bk true R R R)<|J 1 R R (Bj hm)) (fun _ K' h237 J hm=>Aa tbk [] 2 R R<|J 1 R R (Bj hm)) fun c15 hm=>Ab R R (Ak R)<|Ac<|Rt1 hm R [] R R R

end Go.Proofs.YtmpkpnclmihdnaaGreat.M

/-
  Printed by a program of this session out of the loaded functions: models and their proofs. Own text.
-/
import Derived.Test.YtbkdglcedgiogaaGreatRSF3
namespace Go.Proofs.YtbkdglcedgiogaaGreat.M
open Go Go.Proofs Go.Proofs.YtbkdglcedgiogaaGreat.V
set_option linter.unusedVariables false
set_option maxRecDepth 20000
set_option maxHeartbeats 4000000
/-! trireme/triremeref11.Near -/
def ref11_Near.l1 (ms : List T_api_Machine) (bs : List T_api_Bound) (p : T_api_Pod) (on_ : ByteArray) : Nat → Int → Option (Out Bool Unit)
 | 0, _ => none
 | n + 1, i2 =>
  if (decide (i2 < (bs.length : Int))) = true then
   (V.gl bs i2).bind fun x =>
   (if (V.seq x.Pod.Name p.Name) = true then some true else (V.gl bs i2).bind fun x2 =>
   some (V.seq x2.On (⟨#[]⟩ : ByteArray))).bind fun c =>
   if c = true then
    ref11_Near.l1 ms bs p on_ n (IntKind.i64.wrap (i2 + (1 : Int)))
   else
    (if (decide ((p.Apart.length : Int) > (0 : Int))) = true then (ref05_Has x.Pod.Labels p.Apart).bind fun r2 =>
    some r2 else some false).bind fun c2 =>
    (if c2 = true then (V.gl bs i2).bind fun x3 =>
    (ref11_together ms on_ x3.On p.Wide).bind fun r3 =>
    some r3 else some false).bind fun c3 =>
    if c3 = true then
     some (Out.ret true)
    else
     (if (decide ((x.Pod.Apart.length : Int) > (0 : Int))) = true then (ref05_Has p.Labels x.Pod.Apart).bind fun r4 =>
     some r4 else some false).bind fun c4 =>
     (if c4 = true then (V.gl bs i2).bind fun x4 =>
     (ref11_together ms on_ x4.On x.Pod.Wide).bind fun r5 =>
     some r5 else some false).bind fun c5 =>
     if c5 = true then
      some (Out.ret true)
     else
      ref11_Near.l1 ms bs p on_ n (IntKind.i64.wrap (i2 + (1 : Int)))
  else
   some (Out.go ())
def ref11_Near (ms : List T_api_Machine) (bs : List T_api_Bound) (p : T_api_Pod) (on_ : ByteArray) : Option Bool :=
 (ref09_Find ms on_).bind fun r =>
 if (decide (r < (0 : Int))) = true then
  some false
 else
  (ref11_Near.l1 ms bs p on_ FU (0 : Int)).bind fun o =>
  o.on fun j =>
  some false
theorem ref11_Near_ok (ms : List T_api_Machine) (bs : List T_api_Bound) (p : T_api_Pod) (on_ : ByteArray) (r : Bool) (hm : ref11_Near ms bs p on_ = some r) :
  VC Tryz.prog 117 [.list 30 (List.map T_api_Machine.vv ms), .list 50 (List.map T_api_Bound.vv bs), T_api_Pod.vv p, .str on_] [] (fun zx zH => zx = .bool r ∧ zH = []) := by
 unfold ref11_Near at hm
 refine VC.run (c := _) (rs := [.tmp 8]) Tryz.func117 R R R <| VW.seq <| VW.region ?_
 refine VR.cons R R (VO.box R R fun b => ?_)
 refine VR.p R R (VP.assign R) <| VR.nil <| VW.seq <| VW.seq <| VW.region <| VR.p R R (VP.move R) <| VR.p R R (VP.move R) ?_
 obtain ⟨r, h2, hm⟩ := bnd hm
 refine VR.cons R R (VO.callK 0 R fn80 R (ref09_Find_ok ms on_ r h2) fun _ _ h33 => ?_)
 obtain ⟨rfl, rfl⟩ := h33
 refine VR.p R R (VP.arith R R R) <| VR.nil ?_
 rcases ite_or hm with ⟨h3, hm⟩ | ⟨h3, hm⟩
 ·refine VW.condT R h3 <| VW.seq <| VW.region <| VR.p R R (VP.assign R) <| VR.nil ?_
  obtain rfl := Option.some.inj hm
  exact VW.ret ⟨.inl R, _, .cons (.tmp _ _ R) .nil, [], _, R, R, R⟩
 ·have h3 := bf h3
  refine VW.condF R h3 <| VW.skip <| VW.seq <| VW.seq <| VW.region <| VR.p R R (VP.assign R) <| VR.nil ?_
  obtain ⟨o, h4, h5⟩ := bnd hm
  refine VW.joinE (fun (q : Unit) => o = Out.go q) (fun (j : Unit) (gg : Unit) => []) (fun (j : Unit) (gg : Unit) => []) ?_ ?_
  ·have hm := h4
   refine VW.block (VW.loop FU ?_)
   refine VL.fuelS (R := _) (fun zn (zs : Int) => ref11_Near.l1 ms bs p on_ zn zs) (fun (zs : Int) (zg : Unit) => [(0, .list 30 (List.map T_api_Machine.vv ms)), (1, .list 50 (List.map T_api_Bound.vv bs)), (3, .str on_), (6, .ptr b 0), (9, .int .i64 zs)]) (fun (zs : Int) (zg : Unit) => [.box b 48 (T_api_Pod.cells p)]) (0 : Int) () (fun zs => R) (Shift.pick [0] R ⟨R, R, R, R, R, trivial⟩) h4 ?_
   rintro n i2 _ hm
   rw [ref11_Near.l1] at hm
   refine VW.seq <| VW.seq <| VW.region <| VR.p R R (VP.move R) <| VR.p R R (VP.move R) <| VR.p R R (VP.lenT T_api_Bound.vv R Tryz.underlying23) <| VR.p R R (VP.arith R R R) <| VR.nil ?_
   rcases ite_or hm with ⟨h6, hm⟩ | ⟨h6, hm⟩
   ·refine VW.condT R h6 <| VW.skip <| VW.seq <| VW.block <| VW.seq <| VW.region <| VR.p R R (VP.move R) <| VR.p R R (VP.move R) ?_
    obtain ⟨x, h7, hm⟩ := bnd hm
    refine VR.p R R (VP.glE T_api_Bound.vv R R el23 h7) <| VR.p R R (VP.fieldE R fa50_0) <| VR.p R R (VP.loadE R ld48 R) ?_
    refine VR.cons R R (VO.alloc z48 fun b2 => ?_)
    refine VR.cons R R (VO.storeP (i := 0) R R R ld48 R R R ?_)
    refine VR.nil <| VW.seq <| VW.seq <| VW.region <| VR.p R R (VP.fieldP R fa48_0) <| VR.p R R (VP.loadP (i := 0) R R ld9 R) <| VR.p R R (VP.fieldP R fa48_0) <| VR.p R R (VP.loadP (i := 1) R R ld9 R) <| VR.p R R (VP.strop R R R) <| VR.p R R (VP.move R) ?_
    obtain ⟨c, h11, hm⟩ := bnd hm
    refine VR.sc 7 38 (.bool c) (fun K' J => ?_) ?_
    ·have hm := h11
     rcases ite_or hm with ⟨h9, hm⟩ | ⟨h9, hm⟩
     ·refine VR.skipG R R R R h9 <| VR.skipG R R R R h9 <| VR.skipG R R R R h9 <| VR.skipG R R R R h9 <| VR.skipG R R R R h9 <| VR.skipG R R R R h9 <| VR.p R R (VP.pickB true R h9 R) ?_
      exact J [_, _, _, _, _, _] _ R (congrArg VV.bool (Option.some.inj hm))
     ·have h9 := bf h9
      refine VR.pG R R R R h9 (VP.move R) <| VR.pG R R R R h9 (VP.move R) ?_
      obtain ⟨x2, h10, hm⟩ := bnd hm
      refine VR.pG R R R R h9 (VP.glE T_api_Bound.vv R R el23 h10) <| VR.pG R R R R h9 (VP.fieldE R fa50_1) <| VR.pG R R R R h9 (VP.loadE R ld9 R) <| VR.pG R R R R h9 (VP.strop R R R) <| VR.p R R (VP.pickB false R h9 R) ?_
      exact J [_, _, _, _, _, _] _ R (congrArg VV.bool (Option.some.inj hm))
    ·refine VR.nil ?_
     rcases ite_or hm with ⟨h12, hm⟩ | ⟨h12, hm⟩
     ·refine VW.condT R h12 <| VW.exit <| VW.region <| VR.p R R (VP.move R) <| VR.p R R (VP.arith R R R) <| VR.p R R (VP.assign R) <| VR.nil ?_
      exact ⟨(IntKind.i64.wrap (i2 + (1 : Int))), (), hm, (Shift.pick [1] R ⟨R, R, R, R, R, trivial⟩)⟩
     ·have h12 := bf h12
      refine VW.condF R h12 <| VW.skip <| VW.seq <| VW.seq <| VW.drawK 0 mixed <| VA.p 0 R R R (by kernel_rfl) (VP.fieldP R fa48_7) <| VA.p 1 R R R (by kernel_rfl) (VP.loadP (i := 1) R R ld27 R) <| VA.p 2 R R R (by kernel_rfl) (VP.lenT T_api_Label.vv R Tryz.underlying27) <| VA.p 3 R R R (by kernel_rfl) (VP.arith R R R) <| VA.p 4 R R R (by kernel_rfl) (VP.move R) ?_
      obtain ⟨c2, h16, hm⟩ := bnd hm
      refine VA.sc [10, 9, 8, 7, 6, 5, 4, 3, 2, 1, 0] 49 (.bool c2) (fun K' J => ?_) ?_
      ·have hm := h16
       rcases ite_or hm with ⟨h13, hm⟩ | ⟨h13, hm⟩
       ·refine VA.pG 5 R R R R R h13 (by kernel_rfl) (VP.fieldP R fa48_2) <| VA.pG 6 R R R R R h13 (by kernel_rfl) (VP.loadP (i := 0) R R ld27 R) <| VA.pG 7 R R R R R h13 (by kernel_rfl) (VP.fieldP R fa48_7) <| VA.pG 8 R R R R R h13 (by kernel_rfl) (VP.loadP (i := 1) R R ld27 R) ?_
        refine VA.all [9] (by kernel_rfl) ⟨?_, trivial⟩
        obtain ⟨r2, h14, hm⟩ := bnd hm
        refine VB.oG R R R R R h13 (VO.callK 0 R fn143 R (ref05_Has_ok x.Pod.Labels p.Apart r2 h14) fun _ _ h15 => ?_)
        obtain ⟨rfl, rfl⟩ := h15
        refine VA.p 10 R R R (by kernel_rfl) (VP.pickB true R h13 R) ?_
        exact J [_, _, _, _, _] _ R (congrArg VV.bool (Option.some.inj hm))
       ·have h13 := bf h13
        refine VA.skipG 5 R R R R R h13 (by kernel_rfl) <| VA.skipG 6 R R R R R h13 (by kernel_rfl) <| VA.skipG 7 R R R R R h13 (by kernel_rfl) <| VA.skipG 8 R R R R R h13 (by kernel_rfl) <| VA.skipG 9 R R R R R h13 (by kernel_rfl) <| VA.p 10 R R R (by kernel_rfl) (VP.pickB false R h13 R) ?_
        exact J [_, _, _, _, _] _ R (congrArg VV.bool (Option.some.inj hm))
      ·refine VA.p 11 R R R (by kernel_rfl) (VP.move R) ?_
       obtain ⟨c3, h21, hm⟩ := bnd hm
       refine VA.sc [22, 21, 20, 19, 18, 17, 16, 15, 14, 13, 12, 11, 10, 9, 8, 7, 6, 5, 4, 3, 2, 1, 0] 61 (.bool c3) (fun K' J => ?_) ?_
       ·have hm := h21
        rcases ite_or hm with ⟨h17, hm⟩ | ⟨h17, hm⟩
        ·refine VA.pG 12 R R R R R h17 (by kernel_rfl) (VP.move R) <| VA.pG 13 R R R R R h17 (by kernel_rfl) (VP.move R) <| VA.pG 14 R R R R R h17 (by kernel_rfl) (VP.move R) <| VA.pG 15 R R R R R h17 (by kernel_rfl) (VP.move R) ?_
         obtain ⟨x3, h18, hm⟩ := bnd hm
         refine VA.pG 16 R R R R R h17 (by kernel_rfl) (VP.glE T_api_Bound.vv R R el23 h18) <| VA.pG 17 R R R R R h17 (by kernel_rfl) (VP.fieldE R fa50_1) <| VA.pG 18 R R R R R h17 (by kernel_rfl) (VP.loadE R ld9 R) <| VA.pG 19 R R R R R h17 (by kernel_rfl) (VP.fieldP R fa48_8) <| VA.pG 20 R R R R R h17 (by kernel_rfl) (VP.loadP (i := 1) R R ld4 R) ?_
         refine VA.all [21] (by kernel_rfl) ⟨?_, trivial⟩
         obtain ⟨r3, h19, hm⟩ := bnd hm
         refine VB.oG R R R R R h17 (VO.callK 0 R fn149 R (ref11_together_ok ms on_ x3.On p.Wide r3 h19) fun _ _ h20 => ?_)
         obtain ⟨rfl, rfl⟩ := h20
         refine VA.p 22 R R R (by kernel_rfl) (VP.pickB true R h17 R) ?_
         exact J [_, _, _, _, _, _, _, _, _, _] _ R (congrArg VV.bool (Option.some.inj hm))
        ·have h17 := bf h17
         refine VA.skipG 12 R R R R R h17 (by kernel_rfl) <| VA.skipG 13 R R R R R h17 (by kernel_rfl) <| VA.skipG 14 R R R R R h17 (by kernel_rfl) <| VA.skipG 15 R R R R R h17 (by kernel_rfl) <| VA.skipG 16 R R R R R h17 (by kernel_rfl) <| VA.skipG 17 R R R R R h17 (by kernel_rfl) <| VA.skipG 18 R R R R R h17 (by kernel_rfl) <| VA.skipG 19 R R R R R h17 (by kernel_rfl) <| VA.skipG 20 R R R R R h17 (by kernel_rfl) <| VA.skipG 21 R R R R R h17 (by kernel_rfl) <| VA.p 22 R R R (by kernel_rfl) (VP.pickB false R h17 R) ?_
         exact J [_, _, _, _, _, _, _, _, _, _] _ R (congrArg VV.bool (Option.some.inj hm))
       ·refine VA.done (by kernel_rfl) ?_
        rcases ite_or hm with ⟨h22, hm⟩ | ⟨h22, hm⟩
        ·refine VW.condT R h22 <| VW.seq <| VW.region <| VR.p R R (VP.assign R) <| VR.nil ?_
         obtain rfl := Option.some.inj hm
         have hm := Out.ret_on h5
         obtain rfl := Option.some.inj hm
         exact VW.ret ⟨.inl R, _, .cons (.tmp _ _ R) .nil, [], _, R, R, R⟩
        ·have h22 := bf h22
         refine VW.condF R h22 <| VW.skip <| VW.seq <| VW.drawK 0 mixed <| VA.p 0 R R R (by kernel_rfl) (VP.fieldP R fa48_7) <| VA.p 1 R R R (by kernel_rfl) (VP.loadP (i := 0) R R ld27 R) <| VA.p 2 R R R (by kernel_rfl) (VP.lenT T_api_Label.vv R Tryz.underlying27) <| VA.p 3 R R R (by kernel_rfl) (VP.arith R R R) <| VA.p 4 R R R (by kernel_rfl) (VP.move R) ?_
         obtain ⟨c4, h26, hm⟩ := bnd hm
         refine VA.sc [10, 9, 8, 7, 6, 5, 4, 3, 2, 1, 0] 72 (.bool c4) (fun K' J => ?_) ?_
         ·have hm := h26
          rcases ite_or hm with ⟨h23, hm⟩ | ⟨h23, hm⟩
          ·refine VA.pG 5 R R R R R h23 (by kernel_rfl) (VP.fieldP R fa48_2) <| VA.pG 6 R R R R R h23 (by kernel_rfl) (VP.loadP (i := 1) R R ld27 R) <| VA.pG 7 R R R R R h23 (by kernel_rfl) (VP.fieldP R fa48_7) <| VA.pG 8 R R R R R h23 (by kernel_rfl) (VP.loadP (i := 0) R R ld27 R) ?_
           refine VA.all [9] (by kernel_rfl) ⟨?_, trivial⟩
           obtain ⟨r4, h24, hm⟩ := bnd hm
           refine VB.oG R R R R R h23 (VO.callK 0 R fn143 R (ref05_Has_ok p.Labels x.Pod.Apart r4 h24) fun _ _ h25 => ?_)
           obtain ⟨rfl, rfl⟩ := h25
           refine VA.p 10 R R R (by kernel_rfl) (VP.pickB true R h23 R) ?_
           exact J [_, _, _, _, _] _ R (congrArg VV.bool (Option.some.inj hm))
          ·have h23 := bf h23
           refine VA.skipG 5 R R R R R h23 (by kernel_rfl) <| VA.skipG 6 R R R R R h23 (by kernel_rfl) <| VA.skipG 7 R R R R R h23 (by kernel_rfl) <| VA.skipG 8 R R R R R h23 (by kernel_rfl) <| VA.skipG 9 R R R R R h23 (by kernel_rfl) <| VA.p 10 R R R (by kernel_rfl) (VP.pickB false R h23 R) ?_
           exact J [_, _, _, _, _] _ R (congrArg VV.bool (Option.some.inj hm))
         ·refine VA.p 11 R R R (by kernel_rfl) (VP.move R) ?_
          obtain ⟨c5, h31, hm⟩ := bnd hm
          refine VA.sc [22, 21, 20, 19, 18, 17, 16, 15, 14, 13, 12, 11, 10, 9, 8, 7, 6, 5, 4, 3, 2, 1, 0] 84 (.bool c5) (fun K' J => ?_) ?_
          ·have hm := h31
           rcases ite_or hm with ⟨h27, hm⟩ | ⟨h27, hm⟩
           ·refine VA.pG 12 R R R R R h27 (by kernel_rfl) (VP.move R) <| VA.pG 13 R R R R R h27 (by kernel_rfl) (VP.move R) <| VA.pG 14 R R R R R h27 (by kernel_rfl) (VP.move R) <| VA.pG 15 R R R R R h27 (by kernel_rfl) (VP.move R) ?_
            obtain ⟨x4, h28, hm⟩ := bnd hm
            refine VA.pG 16 R R R R R h27 (by kernel_rfl) (VP.glE T_api_Bound.vv R R el23 h28) <| VA.pG 17 R R R R R h27 (by kernel_rfl) (VP.fieldE R fa50_1) <| VA.pG 18 R R R R R h27 (by kernel_rfl) (VP.loadE R ld9 R) <| VA.pG 19 R R R R R h27 (by kernel_rfl) (VP.fieldP R fa48_8) <| VA.pG 20 R R R R R h27 (by kernel_rfl) (VP.loadP (i := 0) R R ld4 R) ?_
            refine VA.all [21] (by kernel_rfl) ⟨?_, trivial⟩
            obtain ⟨r5, h29, hm⟩ := bnd hm
            refine VB.oG R R R R R h27 (VO.callK 0 R fn149 R (ref11_together_ok ms on_ x4.On x.Pod.Wide r5 h29) fun _ _ h30 => ?_)
            obtain ⟨rfl, rfl⟩ := h30
            refine VA.p 22 R R R (by kernel_rfl) (VP.pickB true R h27 R) ?_
            exact J [_, _, _, _, _, _, _, _, _, _] _ R (congrArg VV.bool (Option.some.inj hm))
           ·have h27 := bf h27
            refine VA.skipG 12 R R R R R h27 (by kernel_rfl) <| VA.skipG 13 R R R R R h27 (by kernel_rfl) <| VA.skipG 14 R R R R R h27 (by kernel_rfl) <| VA.skipG 15 R R R R R h27 (by kernel_rfl) <| VA.skipG 16 R R R R R h27 (by kernel_rfl) <| VA.skipG 17 R R R R R h27 (by kernel_rfl) <| VA.skipG 18 R R R R R h27 (by kernel_rfl) <| VA.skipG 19 R R R R R h27 (by kernel_rfl) <| VA.skipG 20 R R R R R h27 (by kernel_rfl) <| VA.skipG 21 R R R R R h27 (by kernel_rfl) <| VA.p 22 R R R (by kernel_rfl) (VP.pickB false R h27 R) ?_
            exact J [_, _, _, _, _, _, _, _, _, _] _ R (congrArg VV.bool (Option.some.inj hm))
          ·refine VA.done (by kernel_rfl) ?_
           rcases ite_or hm with ⟨h32, hm⟩ | ⟨h32, hm⟩
           ·refine VW.condT R h32 <| VW.seq <| VW.region <| VR.p R R (VP.assign R) <| VR.nil ?_
            obtain rfl := Option.some.inj hm
            have hm := Out.ret_on h5
            obtain rfl := Option.some.inj hm
            exact VW.ret ⟨.inl R, _, .cons (.tmp _ _ R) .nil, [], _, R, R, R⟩
           ·have h32 := bf h32
            refine VW.condF R h32 <| VW.skip <| VW.region <| VR.p R R (VP.move R) <| VR.p R R (VP.arith R R R) <| VR.p R R (VP.assign R) <| VR.nil ?_
            exact ⟨(IntKind.i64.wrap (i2 + (1 : Int))), (), hm, (Shift.pick [1] R ⟨R, R, R, R, R, trivial⟩)⟩
   ·have h6 := bf h6
    refine VW.condF R h6 <| VW.exit ?_
    exact ⟨(), (), (Option.some.inj hm).symm, (Shift.pick [] R trivial)⟩
  ·rintro j _ rfl
   have hm := Out.go_on h5
   refine VW.seq <| VW.region <| VR.p R R (VP.assign R) <| VR.nil ?_
   obtain rfl := Option.some.inj hm
   exact VW.ret ⟨.inl R, _, .cons (.tmp _ _ R) .nil, [], _, R, R, R⟩

/-! trireme/triremeref09.Zones -/
def ref09_Zones.l2 (out2 : List ByteArray) (r : ByteArray × Bool) : Nat → Bool → Int → Option Bool
 | 0, _, _ => none
 | n2 + 1, is2, k2 =>
  if (decide (k2 < (out2.length : Int))) = true then
   (if is2 = true then (V.gl out2 k2).bind fun x2 =>
   some (!(V.seq x2 r.1)) else some false).bind fun c =>
   ref09_Zones.l2 out2 r n2 c (IntKind.i64.wrap (k2 + (1 : Int)))
  else
   some is2
def ref09_Zones.l1 (ms : List T_api_Machine) : Nat → (List ByteArray) → Int → Option (List ByteArray)
 | 0, _, _ => none
 | n + 1, out2, i2 =>
  if (decide (i2 < (ms.length : Int))) = true then
   (V.gl ms i2).bind fun x =>
   (ref05_Get x.Labels (⟨#[122, 111, 110, 101]⟩ : ByteArray)).bind fun r =>
   (ref09_Zones.l2 out2 r FU r.2 (0 : Int)).bind fun is32 =>
   (if is32 = true then (V.gl ms i2).bind fun x3 =>
   some x3.Ready else some false).bind fun c2 =>
   if c2 = true then
    (V.ap 16 out2 [r.1]).bind fun out4 =>
    ref09_Zones.l1 ms n out4 (IntKind.i64.wrap (i2 + (1 : Int)))
   else
    ref09_Zones.l1 ms n out2 (IntKind.i64.wrap (i2 + (1 : Int)))
  else
   some out2
def ref09_Zones (ms : List T_api_Machine) : Option (List ByteArray) :=
 (ref09_Zones.l1 ms FU ([] : List ByteArray) (0 : Int)).bind fun out32 =>
 some out32
theorem ref09_Zones_ok (ms : List T_api_Machine) (r : List ByteArray) (hm : ref09_Zones ms = some r) :
  VC Tryz.prog 167 [.list 30 (List.map T_api_Machine.vv ms)] [] (fun zx zH => ∃ (ob0 : Option Nat) (cap0 : Nat), zx = .sl ob0 (List.map VV.str r).length cap0 ∧ zH = [.row ob0 9 cap0 (List.map VV.str r)]) := by
 unfold ref09_Zones at hm
 refine VC.run (c := _) (rs := [.tmp 2]) Tryz.func167 R R R <| VW.seq <| VW.region <| VR.p R R (VP.assign R) <| VR.nil <| VW.seq <| VW.region <| VR.p R R (VP.assign R) <| VR.nil <| VW.seq <| VW.seq <| VW.region <| VR.p R R (VP.assign R) <| VR.nil ?_
 obtain ⟨o, h3, h4⟩ := bnd hm
 refine VW.joinE (fun (q : List ByteArray) => q = o) (fun (out32 : List ByteArray) (gg : Option Nat × Nat) => [(3, .sl gg.1 (List.map VV.str out32).length gg.2)]) (fun (out32 : List ByteArray) (gg : Option Nat × Nat) => [.row gg.1 9 gg.2 (List.map VV.str out32)]) ?_ ?_
 ·have hm := h3
  refine VW.block (VW.loop FU ?_)
  refine VL.fuelS (R := _) (fun zn (zs : List ByteArray × Int) => ref09_Zones.l1 ms zn zs.1 zs.2) (fun (zs : List ByteArray × Int) (zg : Option Nat × Nat) => [(0, .list 30 (List.map T_api_Machine.vv ms)), (3, .sl zg.1 (List.map VV.str zs.1).length zg.2), (4, .int .i64 zs.2)]) (fun (zs : List ByteArray × Int) (zg : Option Nat × Nat) => [.row zg.1 9 zg.2 (List.map VV.str zs.1)]) (([] : List ByteArray), (0 : Int)) (none, 0) (fun zs => R) (Shift.trans (Shift.nilRow 9) (Shift.pick [0] R ⟨R, R, R, trivial⟩)) h3 ?_
  rintro n ⟨out2, i2⟩ ⟨ob2, cap2⟩ hm
  rw [ref09_Zones.l1] at hm
  refine VW.seq <| VW.seq <| VW.region <| VR.p R R (VP.move R) <| VR.p R R (VP.move R) <| VR.p R R (VP.lenT T_api_Machine.vv R Tryz.underlying22) <| VR.p R R (VP.arith R R R) <| VR.nil ?_
  rcases ite_or hm with ⟨h5, hm⟩ | ⟨h5, hm⟩
  ·refine VW.condT R h5 <| VW.skip <| VW.seq <| VW.block <| VW.seq <| VW.region <| VR.p R R (VP.move R) <| VR.p R R (VP.move R) ?_
   obtain ⟨x, h6, hm⟩ := bnd hm
   refine VR.p R R (VP.glE T_api_Machine.vv R R el22 h6) <| VR.p R R (VP.fieldE R fa30_3) <| VR.p R R (VP.loadE R ld27 R) ?_
   obtain ⟨r, h7, hm⟩ := bnd hm
   refine VR.cons R R (VO.callK 0 R fn163 R (ref05_Get_ok x.Labels (⟨#[122, 111, 110, 101]⟩ : ByteArray) r h7) fun _ _ h21 => ?_)
   obtain ⟨rfl, rfl⟩ := h21
   refine VR.p R R (VP.move R) <| VR.p R R (VP.extract R R) <| VR.p R R (VP.extract R R) <| VR.p R R (VP.assign R) <| VR.p R R (VP.assign R) <| VR.nil <| VW.seq <| VW.seq <| VW.region <| VR.p R R (VP.assign R) <| VR.nil ?_
   obtain ⟨o2, h8, h9⟩ := bnd hm
   refine VW.joinE (fun (q : Bool) => q = o2) (fun (is32 : Bool) (gg : Unit) => [(0, .list 30 (List.map T_api_Machine.vv ms)), (3, .sl ob2 (List.map VV.str out2).length cap2), (4, .int .i64 i2), (5, .str r.1), (6, .bool is32)]) (fun (is32 : Bool) (gg : Unit) => [.row ob2 9 cap2 (List.map VV.str out2)]) ?_ ?_
   ·have hm := h8
    refine VW.block (VW.loop FU ?_)
    refine VL.fuelS (R := _) (fun zn (zs : Bool × Int) => ref09_Zones.l2 out2 r zn zs.1 zs.2) (fun (zs : Bool × Int) (zg : Unit) => [(0, .list 30 (List.map T_api_Machine.vv ms)), (3, .sl ob2 (List.map VV.str out2).length cap2), (4, .int .i64 i2), (5, .str r.1), (6, .bool zs.1), (7, .int .i64 zs.2)]) (fun (zs : Bool × Int) (zg : Unit) => [.row ob2 9 cap2 (List.map VV.str out2)]) (r.2, (0 : Int)) () (fun zs => R) (Shift.pick [0] R ⟨R, R, R, R, R, R, trivial⟩) h8 ?_
    rintro n2 ⟨is2, k2⟩ _ hm
    rw [ref09_Zones.l2] at hm
    refine VW.seq <| VW.seq <| VW.region <| VR.p R R (VP.move R) <| VR.p R R (VP.move R) <| VR.p R R (VP.lenRT VV.str R Tryz.underlying51) <| VR.p R R (VP.arith R R R) <| VR.nil ?_
    rcases ite_or hm with ⟨h10, hm⟩ | ⟨h10, hm⟩
    ·refine VW.condT R h10 <| VW.skip <| VW.seq <| VW.block <| VW.region <| VR.p R R (VP.move R) <| VR.p R R (VP.move R) ?_
     obtain ⟨c, h14, hm⟩ := bnd hm
     refine VR.sc 7 37 (.bool c) (fun K' J => ?_) ?_
     ·have hm := h14
      rcases ite_or hm with ⟨h11, hm⟩ | ⟨h11, hm⟩
      ·refine VR.pG R R R R h11 (VP.move R) <| VR.pG R R R R h11 (VP.move R) ?_
       obtain ⟨x2, h12, hm⟩ := bnd hm
       refine VR.someRow 0 R (gl_pos VV.str h12) fun b h13 => ?_
       subst h13
       refine VR.pG R R R R h11 (VP.glR VV.str R R el51 h12) <| VR.pG R R R R h11 (VP.loadR (i := 0) (y := VV.str x2) R R R (gl_map _ (gl_some h12).2) ld9 R) <| VR.pG R R R R h11 (VP.move R) <| VR.pG R R R R h11 (VP.strop R R R) <| VR.p R R (VP.pickB true R h11 R) ?_
       exact J [_, _, _, _, _, _] _ R (congrArg VV.bool (Option.some.inj hm))
      ·have h11 := bf h11
       refine VR.skipG R R R R h11 <| VR.skipG R R R R h11 <| VR.skipG R R R R h11 <| VR.skipG R R R R h11 <| VR.skipG R R R R h11 <| VR.skipG R R R R h11 <| VR.p R R (VP.pickB false R h11 R) ?_
       exact J [_, _, _, _, _, _] _ R (congrArg VV.bool (Option.some.inj hm))
     ·refine VR.p R R (VP.assign R) <| VR.nil <| VW.region <| VR.p R R (VP.move R) <| VR.p R R (VP.arith R R R) <| VR.p R R (VP.assign R) <| VR.nil ?_
      exact ⟨(c, (IntKind.i64.wrap (k2 + (1 : Int)))), (), hm, (Shift.pick [0] R ⟨R, R, R, R, R, R, trivial⟩)⟩
    ·have h10 := bf h10
     refine VW.condF R h10 <| VW.exit ?_
     exact ⟨is2, (), Option.some.inj hm, (Shift.pick [0] R ⟨R, R, R, R, R, trivial⟩)⟩
   ·rintro is32 _ rfl
    have hm := h9
    refine VW.seq <| VW.region <| VR.p R R (VP.move R) <| VR.p R R (VP.move R) ?_
    obtain ⟨c2, h17, hm⟩ := bnd hm
    refine VR.sc 6 45 (.bool c2) (fun K' J => ?_) ?_
    ·have hm := h17
     rcases ite_or hm with ⟨h15, hm⟩ | ⟨h15, hm⟩
     ·refine VR.pG R R R R h15 (VP.move R) <| VR.pG R R R R h15 (VP.move R) ?_
      obtain ⟨x3, h16, hm⟩ := bnd hm
      refine VR.pG R R R R h15 (VP.glE T_api_Machine.vv R R el22 h16) <| VR.pG R R R R h15 (VP.fieldE R fa30_5) <| VR.pG R R R R h15 (VP.loadE R ld4 R) <| VR.p R R (VP.pickB true R h15 R) ?_
      exact J [_, _, _, _, _] _ R (congrArg VV.bool (Option.some.inj hm))
     ·have h15 := bf h15
      refine VR.skipG R R R R h15 <| VR.skipG R R R R h15 <| VR.skipG R R R R h15 <| VR.skipG R R R R h15 <| VR.skipG R R R R h15 <| VR.p R R (VP.pickB false R h15 R) ?_
      exact J [_, _, _, _, _] _ R (congrArg VV.bool (Option.some.inj hm))
    ·refine VR.nil ?_
     rcases ite_or hm with ⟨h18, hm⟩ | ⟨h18, hm⟩
     ·refine VW.condT R h18 <| VW.region <| VR.p R R (VP.move R) <| VR.p R R (VP.move R) ?_
      refine VR.cons R R (VO.buildSlice ap51 R R R R R fun b2 => ?_)
      obtain ⟨out4, h20, hm⟩ := bnd hm
      refine VR.cons R R (VO.apT 1 VV.str (l := out2) (l2 := [r.1]) ap51 R R (sT_row 0 VV.str el51 R R) h20 fun ob4 cap4 => ?_)
      refine VR.p R R (VP.assign R) <| VR.nil <| VW.region <| VR.p R R (VP.move R) <| VR.p R R (VP.arith R R R) <| VR.p R R (VP.assign R) <| VR.nil ?_
      exact ⟨(out4, (IntKind.i64.wrap (i2 + (1 : Int)))), (ob4, cap4), hm, (Shift.pick [1] R ⟨R, R, R, trivial⟩)⟩
     ·have h18 := bf h18
      refine VW.condF R h18 <| VW.skip <| VW.region <| VR.p R R (VP.move R) <| VR.p R R (VP.arith R R R) <| VR.p R R (VP.assign R) <| VR.nil ?_
      exact ⟨(out2, (IntKind.i64.wrap (i2 + (1 : Int)))), (ob2, cap2), hm, (Shift.pick [0] R ⟨R, R, R, trivial⟩)⟩
  ·have h5 := bf h5
   refine VW.condF R h5 <| VW.exit ?_
   exact ⟨out2, (ob2, cap2), Option.some.inj hm, (Shift.pick [0] R ⟨R, trivial⟩)⟩
 ·rintro out32 ⟨ob3, cap3⟩ rfl
  have hm := h4
  refine VW.seq <| VW.region <| VR.p R R (VP.move R) <| VR.p R R (VP.assign R) <| VR.nil ?_
  obtain rfl := Option.some.inj hm
  exact VW.ret ⟨.inl R, _, .cons (.tmp _ _ R) .nil, [0], _, R, ob3, cap3, R, R⟩

/-! trireme/triremeref11.Counts -/
def ref11_Counts.l2 (ms : List T_api_Machine) (bs : List T_api_Bound) (p : T_api_Pod) (r : List ByteArray) (i2 : Int) : Nat → Int → Int → Option Int
 | 0, _, _ => none
 | n5 + 1, k2, j2 =>
  if (decide (j2 < (bs.length : Int))) = true then
   (V.gl bs j2).bind fun x =>
   (ref11_zone ms x.On).bind fun r2 =>
   (V.gl bs j2).bind fun x2 =>
   (if (!(V.seq x2.On (⟨#[]⟩ : ByteArray))) = true then (V.gl bs j2).bind fun x3 =>
   some (!(V.seq x3.Pod.Name p.Name)) else some false).bind fun c =>
   (if (c && r2.2) = true then (V.gl r i2).bind fun x4 =>
   some (V.seq r2.1 x4) else some false).bind fun c2 =>
   (if c2 = true then (V.gl bs j2).bind fun x5 =>
   (ref05_Has x5.Pod.Labels p.Spread).bind fun r3 =>
   some r3 else some false).bind fun c3 =>
   if c3 = true then
    ref11_Counts.l2 ms bs p r i2 n5 (IntKind.i64.wrap (k2 + (1 : Int))) (IntKind.i64.wrap (j2 + (1 : Int)))
   else
    ref11_Counts.l2 ms bs p r i2 n5 k2 (IntKind.i64.wrap (j2 + (1 : Int)))
  else
   some k2
def ref11_Counts.l1 (ms : List T_api_Machine) (bs : List T_api_Bound) (p : T_api_Pod) (r : List ByteArray) : Nat → (List Int) → Int → Option (List Int)
 | 0, _, _ => none
 | n4 + 1, n2, i2 =>
  if (decide (i2 < (r.length : Int))) = true then
   (ref11_Counts.l2 ms bs p r i2 FU (0 : Int) (0 : Int)).bind fun k32 =>
   (V.ap 8 n2 [k32]).bind fun n6 =>
   ref11_Counts.l1 ms bs p r n4 n6 (IntKind.i64.wrap (i2 + (1 : Int)))
  else
   some n2
def ref11_Counts (ms : List T_api_Machine) (bs : List T_api_Bound) (p : T_api_Pod) : Option (List ByteArray × List Int) :=
 (ref09_Zones ms).bind fun r =>
 (ref11_Counts.l1 ms bs p r FU ([] : List Int) (0 : Int)).bind fun n32 =>
 some (r, n32)
theorem ref11_Counts_ok (ms : List T_api_Machine) (bs : List T_api_Bound) (p : T_api_Pod) (r : List ByteArray × List Int) (hm : ref11_Counts ms bs p = some r) :
  VC Tryz.prog 151 [.list 30 (List.map T_api_Machine.vv ms), .list 50 (List.map T_api_Bound.vv bs), T_api_Pod.vv p] [] (fun zx zH => ∃ (ob1 : Option Nat) (cap1 : Nat), zx = .tup [.list 9 (List.map VV.str r.1), .sl ob1 (List.map (VV.int .i64) r.2).length cap1] ∧ zH = [.row ob1 3 cap1 (List.map (VV.int .i64) r.2)]) := by
 unfold ref11_Counts at hm
 refine VC.run (c := _) (rs := [.tmp 6, .tmp 7]) Tryz.func151 R R R <| VW.seq <| VW.region ?_
 refine VR.cons R R (VO.box R R fun b => ?_)
 refine VR.p R R (VP.assign R) <| VR.p R R (VP.assign R) <| VR.nil <| VW.seq <| VW.region <| VR.p R R (VP.move R) ?_
 obtain ⟨r, h2, hm⟩ := bnd hm
 refine VR.cons R R (VO.callK 0 R fn167 R (ref09_Zones_ok ms r h2) fun _ _ h32 => ?_)
 obtain ⟨ob, cap, rfl, rfl⟩ := h32
 refine VR.shift (Shift.freezeE 0 [(16, .list 9 (List.map VV.str r))] R ⟨⟨_, R, .here _ R⟩, trivial⟩ (FzH.refl _)) <| VR.p R R (VP.assign R) <| VR.nil <| VW.seq <| VW.region <| VR.p R R (VP.assign R) <| VR.nil <| VW.seq <| VW.seq <| VW.region <| VR.p R R (VP.assign R) <| VR.nil ?_
 obtain ⟨o, h6, h7⟩ := bnd hm
 refine VW.joinE (fun (q : List Int) => q = o) (fun (n32 : List Int) (gg : Option Nat × Nat) => [(8, .list 9 (List.map VV.str r)), (9, .sl gg.1 (List.map (VV.int .i64) n32).length gg.2)]) (fun (n32 : List Int) (gg : Option Nat × Nat) => [.row gg.1 3 gg.2 (List.map (VV.int .i64) n32)]) ?_ ?_
 ·have hm := h6
  refine VW.block (VW.loop FU ?_)
  refine VL.fuelS (R := _) (fun zn (zs : List Int × Int) => ref11_Counts.l1 ms bs p r zn zs.1 zs.2) (fun (zs : List Int × Int) (zg : Option Nat × Nat) => [(0, .list 30 (List.map T_api_Machine.vv ms)), (1, .list 50 (List.map T_api_Bound.vv bs)), (5, .ptr b 0), (8, .list 9 (List.map VV.str r)), (9, .sl zg.1 (List.map (VV.int .i64) zs.1).length zg.2), (10, .int .i64 zs.2)]) (fun (zs : List Int × Int) (zg : Option Nat × Nat) => [.row zg.1 3 zg.2 (List.map (VV.int .i64) zs.1), .box b 48 (T_api_Pod.cells p)]) (([] : List Int), (0 : Int)) (none, 0) (fun zs => R) (Shift.trans (Shift.nilRow 3) (Shift.pick [0, 0] R ⟨R, R, R, R, R, R, trivial⟩)) h6 ?_
  rintro n4 ⟨n2, i2⟩ ⟨ob3, cap3⟩ hm
  rw [ref11_Counts.l1] at hm
  refine VW.seq <| VW.seq <| VW.region <| VR.p R R (VP.move R) <| VR.p R R (VP.move R) <| VR.p R R (VP.lenT VV.str R Tryz.underlying51) <| VR.p R R (VP.arith R R R) <| VR.nil ?_
  rcases ite_or hm with ⟨h8, hm⟩ | ⟨h8, hm⟩
  ·refine VW.condT R h8 <| VW.skip <| VW.seq <| VW.block <| VW.seq <| VW.region <| VR.p R R (VP.assign R) <| VR.nil <| VW.seq <| VW.seq <| VW.region <| VR.p R R (VP.assign R) <| VR.nil ?_
   obtain ⟨o2, h9, h10⟩ := bnd hm
   refine VW.joinE (fun (q : Int) => q = o2) (fun (k32 : Int) (gg : Unit) => [(0, .list 30 (List.map T_api_Machine.vv ms)), (1, .list 50 (List.map T_api_Bound.vv bs)), (5, .ptr b 0), (8, .list 9 (List.map VV.str r)), (9, .sl ob3 (List.map (VV.int .i64) n2).length cap3), (10, .int .i64 i2), (11, .int .i64 k32)]) (fun (k32 : Int) (gg : Unit) => [.row ob3 3 cap3 (List.map (VV.int .i64) n2), .box b 48 (T_api_Pod.cells p)]) ?_ ?_
   ·have hm := h9
    refine VW.block (VW.loop FU ?_)
    refine VL.fuelS (R := _) (fun zn (zs : Int × Int) => ref11_Counts.l2 ms bs p r i2 zn zs.1 zs.2) (fun (zs : Int × Int) (zg : Unit) => [(0, .list 30 (List.map T_api_Machine.vv ms)), (1, .list 50 (List.map T_api_Bound.vv bs)), (5, .ptr b 0), (8, .list 9 (List.map VV.str r)), (9, .sl ob3 (List.map (VV.int .i64) n2).length cap3), (10, .int .i64 i2), (11, .int .i64 zs.1), (12, .int .i64 zs.2)]) (fun (zs : Int × Int) (zg : Unit) => [.row ob3 3 cap3 (List.map (VV.int .i64) n2), .box b 48 (T_api_Pod.cells p)]) ((0 : Int), (0 : Int)) () (fun zs => R) (Shift.pick [0, 0] R ⟨R, R, R, R, R, R, R, R, trivial⟩) h9 ?_
    rintro n5 ⟨k2, j2⟩ _ hm
    rw [ref11_Counts.l2] at hm
    refine VW.seq <| VW.seq <| VW.region <| VR.p R R (VP.move R) <| VR.p R R (VP.move R) <| VR.p R R (VP.lenT T_api_Bound.vv R Tryz.underlying23) <| VR.p R R (VP.arith R R R) <| VR.nil ?_
    rcases ite_or hm with ⟨h11, hm⟩ | ⟨h11, hm⟩
    ·refine VW.condT R h11 <| VW.skip <| VW.seq <| VW.block <| VW.seq <| VW.region <| VR.p R R (VP.move R) <| VR.p R R (VP.move R) <| VR.p R R (VP.move R) ?_
     obtain ⟨x, h12, hm⟩ := bnd hm
     refine VR.p R R (VP.glE T_api_Bound.vv R R el23 h12) <| VR.p R R (VP.fieldE R fa50_1) <| VR.p R R (VP.loadE R ld9 R) ?_
     obtain ⟨r2, h13, hm⟩ := bnd hm
     refine VR.cons R R (VO.callK 0 R fn150 R (ref11_zone_ok ms x.On r2 h13) fun _ _ h28 => ?_)
     obtain ⟨rfl, rfl⟩ := h28
     refine VR.p R R (VP.move R) <| VR.p R R (VP.extract R R) <| VR.p R R (VP.extract R R) <| VR.p R R (VP.assign R) <| VR.p R R (VP.assign R) <| VR.nil <| VW.seq <| VW.drawK 0 mixed <| VA.p 0 R R R (by kernel_rfl) (VP.move R) <| VA.p 1 R R R (by kernel_rfl) (VP.move R) ?_
     obtain ⟨x2, h14, hm⟩ := bnd hm
     refine VA.p 2 R R R (by kernel_rfl) (VP.glE T_api_Bound.vv R R el23 h14) <| VA.p 3 R R R (by kernel_rfl) (VP.fieldE R fa50_1) <| VA.p 4 R R R (by kernel_rfl) (VP.loadE R ld9 R) <| VA.p 5 R R R (by kernel_rfl) (VP.strop R R R) <| VA.p 6 R R R (by kernel_rfl) (VP.move R) ?_
     obtain ⟨c, h17, hm⟩ := bnd hm
     refine VA.sc [16, 15, 14, 13, 12, 11, 10, 9, 8, 7, 6, 5, 4, 3, 2, 1, 0] 55 (.bool c) (fun K' J => ?_) ?_
     ·have hm := h17
      rcases ite_or hm with ⟨h15, hm⟩ | ⟨h15, hm⟩
      ·refine VA.pG 7 R R R R R h15 (by kernel_rfl) (VP.move R) <| VA.pG 8 R R R R R h15 (by kernel_rfl) (VP.move R) ?_
       obtain ⟨x3, h16, hm⟩ := bnd hm
       refine VA.pG 9 R R R R R h15 (by kernel_rfl) (VP.glE T_api_Bound.vv R R el23 h16) <| VA.pG 10 R R R R R h15 (by kernel_rfl) (VP.fieldE R fa50_0) <| VA.pG 11 R R R R R h15 (by kernel_rfl) (VP.fieldE R fa48_0) <| VA.pG 12 R R R R R h15 (by kernel_rfl) (VP.loadE R ld9 R) <| VA.pG 13 R R R R R h15 (by kernel_rfl) (VP.fieldP R fa48_0) <| VA.pG 14 R R R R R h15 (by kernel_rfl) (VP.loadP (i := 1) R R ld9 R) <| VA.pG 15 R R R R R h15 (by kernel_rfl) (VP.strop R R R) <| VA.p 16 R R R (by kernel_rfl) (VP.pickB true R h15 R) ?_
       exact J [_, _, _, _, _, _, _, _, _] _ R (congrArg VV.bool (Option.some.inj hm))
      ·have h15 := bf h15
       refine VA.skipG 7 R R R R R h15 (by kernel_rfl) <| VA.skipG 8 R R R R R h15 (by kernel_rfl) <| VA.skipG 9 R R R R R h15 (by kernel_rfl) <| VA.skipG 10 R R R R R h15 (by kernel_rfl) <| VA.skipG 11 R R R R R h15 (by kernel_rfl) <| VA.skipG 12 R R R R R h15 (by kernel_rfl) <| VA.skipG 13 R R R R R h15 (by kernel_rfl) <| VA.skipG 14 R R R R R h15 (by kernel_rfl) <| VA.skipG 15 R R R R R h15 (by kernel_rfl) <| VA.p 16 R R R (by kernel_rfl) (VP.pickB false R h15 R) ?_
       exact J [_, _, _, _, _, _, _, _, _] _ R (congrArg VV.bool (Option.some.inj hm))
     ·refine VA.p 17 R R R (by kernel_rfl) (VP.move R) ?_
      refine VA.sc [19, 18, 17, 16, 15, 14, 13, 12, 11, 10, 9, 8, 7, 6, 5, 4, 3, 2, 1, 0] 58 (.bool (c && r2.2)) (fun K' J => ?_) ?_
      ·rcases Bool.eq_false_or_eq_true c with h18 | h18
       ·refine VA.pG 18 R R R R R h18 (by kernel_rfl) (VP.move R) <| VA.p 19 R R R (by kernel_rfl) (VP.pickB true R h18 R) ?_
        exact J [_] _ R (andT h18)
       ·refine VA.skipG 18 R R R R R h18 (by kernel_rfl) <| VA.p 19 R R R (by kernel_rfl) (VP.pickB false R h18 R) ?_
        exact J [_] _ R (andF h18)
      ·refine VA.p 20 R R R (by kernel_rfl) (VP.move R) ?_
       obtain ⟨c2, h21, hm⟩ := bnd hm
       refine VA.sc [27, 26, 25, 24, 23, 22, 21, 20, 19, 18, 17, 16, 15, 14, 13, 12, 11, 10, 9, 8, 7, 6, 5, 4, 3, 2, 1, 0] 66 (.bool c2) (fun K' J => ?_) ?_
       ·have hm := h21
        rcases ite_or hm with ⟨h19, hm⟩ | ⟨h19, hm⟩
        ·refine VA.pG 21 R R R R R h19 (by kernel_rfl) (VP.move R) <| VA.pG 22 R R R R R h19 (by kernel_rfl) (VP.move R) <| VA.pG 23 R R R R R h19 (by kernel_rfl) (VP.move R) ?_
         obtain ⟨x4, h20, hm⟩ := bnd hm
         refine VA.pG 24 R R R R R h19 (by kernel_rfl) (VP.glE VV.str R R el51 h20) <| VA.pG 25 R R R R R h19 (by kernel_rfl) (VP.loadE R ld9 R) <| VA.pG 26 R R R R R h19 (by kernel_rfl) (VP.strop R R R) <| VA.p 27 R R R (by kernel_rfl) (VP.pickB true R h19 R) ?_
         exact J [_, _, _, _, _, _] _ R (congrArg VV.bool (Option.some.inj hm))
        ·have h19 := bf h19
         refine VA.skipG 21 R R R R R h19 (by kernel_rfl) <| VA.skipG 22 R R R R R h19 (by kernel_rfl) <| VA.skipG 23 R R R R R h19 (by kernel_rfl) <| VA.skipG 24 R R R R R h19 (by kernel_rfl) <| VA.skipG 25 R R R R R h19 (by kernel_rfl) <| VA.skipG 26 R R R R R h19 (by kernel_rfl) <| VA.p 27 R R R (by kernel_rfl) (VP.pickB false R h19 R) ?_
         exact J [_, _, _, _, _, _] _ R (congrArg VV.bool (Option.some.inj hm))
       ·refine VA.p 28 R R R (by kernel_rfl) (VP.move R) ?_
        obtain ⟨c3, h26, hm⟩ := bnd hm
        refine VA.sc [38, 37, 36, 35, 34, 33, 32, 31, 30, 29, 28, 27, 26, 25, 24, 23, 22, 21, 20, 19, 18, 17, 16, 15, 14, 13, 12, 11, 10, 9, 8, 7, 6, 5, 4, 3, 2, 1, 0] 77 (.bool c3) (fun K' J => ?_) ?_
        ·have hm := h26
         rcases ite_or hm with ⟨h22, hm⟩ | ⟨h22, hm⟩
         ·refine VA.pG 29 R R R R R h22 (by kernel_rfl) (VP.move R) <| VA.pG 30 R R R R R h22 (by kernel_rfl) (VP.move R) ?_
          obtain ⟨x5, h23, hm⟩ := bnd hm
          refine VA.pG 31 R R R R R h22 (by kernel_rfl) (VP.glE T_api_Bound.vv R R el23 h23) <| VA.pG 32 R R R R R h22 (by kernel_rfl) (VP.fieldE R fa50_0) <| VA.pG 33 R R R R R h22 (by kernel_rfl) (VP.fieldE R fa48_2) <| VA.pG 34 R R R R R h22 (by kernel_rfl) (VP.loadE R ld27 R) <| VA.pG 35 R R R R R h22 (by kernel_rfl) (VP.fieldP R fa48_9) <| VA.pG 36 R R R R R h22 (by kernel_rfl) (VP.loadP (i := 1) R R ld27 R) ?_
          refine VA.all [37] (by kernel_rfl) ⟨?_, trivial⟩
          obtain ⟨r3, h24, hm⟩ := bnd hm
          refine VB.oG R R R R R h22 (VO.callK 0 R fn143 R (ref05_Has_ok x5.Pod.Labels p.Spread r3 h24) fun _ _ h25 => ?_)
          obtain ⟨rfl, rfl⟩ := h25
          refine VA.p 38 R R R (by kernel_rfl) (VP.pickB true R h22 R) ?_
          exact J [_, _, _, _, _, _, _, _, _] _ R (congrArg VV.bool (Option.some.inj hm))
         ·have h22 := bf h22
          refine VA.skipG 29 R R R R R h22 (by kernel_rfl) <| VA.skipG 30 R R R R R h22 (by kernel_rfl) <| VA.skipG 31 R R R R R h22 (by kernel_rfl) <| VA.skipG 32 R R R R R h22 (by kernel_rfl) <| VA.skipG 33 R R R R R h22 (by kernel_rfl) <| VA.skipG 34 R R R R R h22 (by kernel_rfl) <| VA.skipG 35 R R R R R h22 (by kernel_rfl) <| VA.skipG 36 R R R R R h22 (by kernel_rfl) <| VA.skipG 37 R R R R R h22 (by kernel_rfl) <| VA.p 38 R R R (by kernel_rfl) (VP.pickB false R h22 R) ?_
          exact J [_, _, _, _, _, _, _, _, _] _ R (congrArg VV.bool (Option.some.inj hm))
        ·refine VA.done (by kernel_rfl) ?_
         rcases ite_or hm with ⟨h27, hm⟩ | ⟨h27, hm⟩
         ·refine VW.condT R h27 <| VW.region <| VR.p R R (VP.move R) <| VR.p R R (VP.arith R R R) <| VR.p R R (VP.assign R) <| VR.nil <| VW.region <| VR.p R R (VP.move R) <| VR.p R R (VP.arith R R R) <| VR.p R R (VP.assign R) <| VR.nil ?_
          exact ⟨((IntKind.i64.wrap (k2 + (1 : Int))), (IntKind.i64.wrap (j2 + (1 : Int)))), (), hm, (Shift.pick [0, 0] R ⟨R, R, R, R, R, R, R, R, trivial⟩)⟩
         ·have h27 := bf h27
          refine VW.condF R h27 <| VW.skip <| VW.region <| VR.p R R (VP.move R) <| VR.p R R (VP.arith R R R) <| VR.p R R (VP.assign R) <| VR.nil ?_
          exact ⟨(k2, (IntKind.i64.wrap (j2 + (1 : Int)))), (), hm, (Shift.pick [0, 0] R ⟨R, R, R, R, R, R, R, R, trivial⟩)⟩
    ·have h11 := bf h11
     refine VW.condF R h11 <| VW.exit ?_
     exact ⟨k2, (), Option.some.inj hm, (Shift.pick [0, 0] R ⟨R, R, R, R, R, R, R, trivial⟩)⟩
   ·rintro k32 _ rfl
    have hm := h10
    refine VW.region <| VR.p R R (VP.move R) <| VR.p R R (VP.move R) ?_
    refine VR.cons R R (VO.buildSlice ap41 R R R R R fun b2 => ?_)
    obtain ⟨n6, h30, hm⟩ := bnd hm
    refine VR.cons R R (VO.apT 1 (VV.int .i64) (l := n2) (l2 := [k32]) ap41 R R (sT_row 0 (VV.int .i64) el41 R R) h30 fun ob5 cap5 => ?_)
    refine VR.p R R (VP.assign R) <| VR.nil <| VW.region <| VR.p R R (VP.move R) <| VR.p R R (VP.arith R R R) <| VR.p R R (VP.assign R) <| VR.nil ?_
    exact ⟨(n6, (IntKind.i64.wrap (i2 + (1 : Int)))), (ob5, cap5), hm, (Shift.pick [1, 1] R ⟨R, R, R, R, R, R, trivial⟩)⟩
  ·have h8 := bf h8
   refine VW.condF R h8 <| VW.exit ?_
   exact ⟨n2, (ob3, cap3), Option.some.inj hm, (Shift.pick [0] R ⟨R, R, trivial⟩)⟩
 ·rintro n32 ⟨ob4, cap4⟩ rfl
  have hm := h7
  refine VW.seq <| VW.region <| VR.p R R (VP.move R) <| VR.p R R (VP.move R) <| VR.p R R (VP.assign R) <| VR.p R R (VP.assign R) <| VR.nil ?_
  obtain rfl := Option.some.inj hm
  exact VW.ret ⟨.inl R, _, .cons (.tmp _ _ R) (.cons (.tmp _ _ R) .nil), [0], _, R, ob4, cap4, R, R⟩

/-! trireme/triremeref11.Many -/
def ref11_Many.l1 (r2 : ByteArray × Bool) (r3 : List ByteArray × List Int) : Nat → Int → Int → Int → Option (Int × Int)
 | 0, _, _, _ => none
 | n + 1, mine2, least2, i2 =>
  if (decide (i2 < (r3.1.length : Int))) = true then
   (if (i2 == (0 : Int)) = true then some true else (V.gl r3.2 i2).bind fun x =>
   some (decide (x < least2))).bind fun c2 =>
   if c2 = true then
    (V.gl r3.2 i2).bind fun x2 =>
    (if r2.2 = true then (V.gl r3.1 i2).bind fun x3 =>
    some (V.seq x3 r2.1) else some false).bind fun c3 =>
    if c3 = true then
     (V.gl r3.2 i2).bind fun x4 =>
     ref11_Many.l1 r2 r3 n x4 x2 (IntKind.i64.wrap (i2 + (1 : Int)))
    else
     ref11_Many.l1 r2 r3 n mine2 x2 (IntKind.i64.wrap (i2 + (1 : Int)))
   else
    (if r2.2 = true then (V.gl r3.1 i2).bind fun x5 =>
    some (V.seq x5 r2.1) else some false).bind fun c4 =>
    if c4 = true then
     (V.gl r3.2 i2).bind fun x6 =>
     ref11_Many.l1 r2 r3 n x6 least2 (IntKind.i64.wrap (i2 + (1 : Int)))
    else
     ref11_Many.l1 r2 r3 n mine2 least2 (IntKind.i64.wrap (i2 + (1 : Int)))
  else
   some (mine2, least2)
def ref11_Many (ms : List T_api_Machine) (bs : List T_api_Bound) (p : T_api_Pod) (on_ : ByteArray) : Option Bool :=
 (if ((p.Spread.length : Int) == (0 : Int)) = true then some true else (ref09_Find ms on_).bind fun r =>
 some (decide (r < (0 : Int)))).bind fun c =>
 if c = true then
  some false
 else
  (ref11_zone ms on_).bind fun r2 =>
  (ref11_Counts ms bs p).bind fun r3 =>
  (ref11_Many.l1 r2 r3 FU (-1 : Int) (0 : Int) (0 : Int)).bind fun j =>
  if (decide (j.1 < (0 : Int))) = true then
   some true
  else
   (ref05_Has p.Labels p.Spread).bind fun r4 =>
   if r4 = true then
    some (decide ((IntKind.i64.wrap ((IntKind.i64.wrap (j.1 + (1 : Int))) - j.2)) > p.Skew))
   else
    some (decide ((IntKind.i64.wrap (j.1 - j.2)) > p.Skew))
theorem ref11_Many_ok (ms : List T_api_Machine) (bs : List T_api_Bound) (p : T_api_Pod) (on_ : ByteArray) (r : Bool) (hm : ref11_Many ms bs p on_ = some r) :
  VC Tryz.prog 118 [.list 30 (List.map T_api_Machine.vv ms), .list 50 (List.map T_api_Bound.vv bs), T_api_Pod.vv p, .str on_] [] (fun zx zH => zx = .bool r ∧ zH = []) := by
 unfold ref11_Many at hm
 refine VC.run (c := _) (rs := [.tmp 8]) Tryz.func118 R R R <| VW.seq <| VW.region ?_
 refine VR.cons R R (VO.box R R fun b => ?_)
 refine VR.p R R (VP.assign R) <| VR.nil <| VW.seq <| VW.seq <| VW.region <| VR.p R R (VP.fieldP R fa48_9) <| VR.p R R (VP.loadP (i := 0) R R ld27 R) <| VR.p R R (VP.lenT T_api_Label.vv R Tryz.underlying27) <| VR.p R R (VP.arith R R R) <| VR.p R R (VP.move R) ?_
 obtain ⟨c, h5, hm⟩ := bnd hm
 refine VR.sc 5 25 (.bool c) (fun K' J => ?_) ?_
 ·have hm := h5
  rcases ite_or hm with ⟨h2, hm⟩ | ⟨h2, hm⟩
  ·refine VR.skipG R R R R h2 <| VR.skipG R R R R h2 <| VR.skipG R R R R h2 <| VR.skipG R R R R h2 <| VR.p R R (VP.pickB true R h2 R) ?_
   exact J [_, _, _, _] _ R (congrArg VV.bool (Option.some.inj hm))
  ·have h2 := bf h2
   refine VR.pG R R R R h2 (VP.move R) <| VR.pG R R R R h2 (VP.move R) ?_
   obtain ⟨r, h3, hm⟩ := bnd hm
   refine VR.consG R R R R h2 (VO.callK 0 R fn80 R (ref09_Find_ok ms on_ r h3) fun _ _ h4 => ?_)
   obtain ⟨rfl, rfl⟩ := h4
   refine VR.pG R R R R h2 (VP.arith R R R) <| VR.p R R (VP.pickB false R h2 R) ?_
   exact J [_, _, _, _] _ R (congrArg VV.bool (Option.some.inj hm))
 ·refine VR.nil ?_
  rcases ite_or hm with ⟨h6, hm⟩ | ⟨h6, hm⟩
  ·refine VW.condT R h6 <| VW.seq <| VW.region <| VR.p R R (VP.assign R) <| VR.nil ?_
   obtain rfl := Option.some.inj hm
   exact VW.ret ⟨.inl R, _, .cons (.tmp _ _ R) .nil, [], _, R, R, R⟩
  ·have h6 := bf h6
   refine VW.condF R h6 <| VW.skip <| VW.seq <| VW.region <| VR.p R R (VP.move R) <| VR.p R R (VP.move R) ?_
   obtain ⟨r2, h7, hm⟩ := bnd hm
   refine VR.cons R R (VO.callK 0 R fn150 R (ref11_zone_ok ms on_ r2 h7) fun _ _ h36 => ?_)
   obtain ⟨rfl, rfl⟩ := h36
   refine VR.p R R (VP.move R) <| VR.p R R (VP.extract R R) <| VR.p R R (VP.extract R R) <| VR.p R R (VP.assign R) <| VR.p R R (VP.assign R) <| VR.nil <| VW.seq <| VW.region <| VR.p R R (VP.move R) <| VR.p R R (VP.move R) <| VR.p R R (VP.loadP (i := 0) R R ld48 R) ?_
   obtain ⟨r3, h8, hm⟩ := bnd hm
   refine VR.cons R R (VO.callK 0 R fn151 R (ref11_Counts_ok ms bs p r3 h8) fun _ _ h35 => ?_)
   obtain ⟨ob, cap, rfl, rfl⟩ := h35
   refine VR.p R R (VP.move R) <| VR.p R R (VP.extract R R) <| VR.p R R (VP.extract R R) <| VR.p R R (VP.assign R) <| VR.p R R (VP.assign R) <| VR.nil <| VW.seq <| VW.region <| VR.p R R (VP.assign R) <| VR.nil <| VW.seq <| VW.region <| VR.p R R (VP.assign R) <| VR.nil <| VW.seq <| VW.seq <| VW.region <| VR.p R R (VP.assign R) <| VR.nil ?_
   obtain ⟨o, h10, h11⟩ := bnd hm
   refine VW.joinE (fun (q : Int × Int) => q = o) (fun (j : Int × Int) (gg : Unit) => [(6, .ptr b 0), (13, .int .i64 j.1), (14, .int .i64 j.2)]) (fun (j : Int × Int) (gg : Unit) => [.box b 48 (T_api_Pod.cells p)]) ?_ ?_
   ·have hm := h10
    refine VW.block (VW.loop FU ?_)
    refine VL.fuelS (R := _) (fun zn (zs : Int × Int × Int) => ref11_Many.l1 r2 r3 zn zs.1 zs.2.1 zs.2.2) (fun (zs : Int × Int × Int) (zg : Option Nat) => [(6, .ptr b 0), (9, .str r2.1), (10, .bool r2.2), (11, .list 9 (List.map VV.str r3.1)), (12, .sl zg (List.map (VV.int .i64) r3.2).length cap), (13, .int .i64 zs.1), (14, .int .i64 zs.2.1), (15, .int .i64 zs.2.2)]) (fun (zs : Int × Int × Int) (zg : Option Nat) => [.row zg 3 cap (List.map (VV.int .i64) r3.2), .box b 48 (T_api_Pod.cells p)]) ((-1 : Int), (0 : Int), (0 : Int)) ob (fun zs => R) (Shift.pick [0, 0] R ⟨R, R, R, R, R, R, R, R, trivial⟩) h10 ?_
    rintro n ⟨mine2, least2, i2⟩ ob3 hm
    rw [ref11_Many.l1] at hm
    refine VW.seq <| VW.seq <| VW.region <| VR.p R R (VP.move R) <| VR.p R R (VP.move R) <| VR.p R R (VP.lenT VV.str R Tryz.underlying51) <| VR.p R R (VP.arith R R R) <| VR.nil ?_
    rcases ite_or hm with ⟨h12, hm⟩ | ⟨h12, hm⟩
    ·refine VW.condT R h12 <| VW.skip <| VW.seq <| VW.block <| VW.seq <| VW.seq <| VW.region <| VR.p R R (VP.move R) <| VR.p R R (VP.arith R R R) <| VR.p R R (VP.move R) ?_
     obtain ⟨c2, h16, hm⟩ := bnd hm
     refine VR.sc 7 54 (.bool c2) (fun K' J => ?_) ?_
     ·have hm := h16
      rcases ite_or hm with ⟨h13, hm⟩ | ⟨h13, hm⟩
      ·refine VR.skipG R R R R h13 <| VR.skipG R R R R h13 <| VR.skipG R R R R h13 <| VR.skipG R R R R h13 <| VR.skipG R R R R h13 <| VR.skipG R R R R h13 <| VR.p R R (VP.pickB true R h13 R) ?_
       exact J [_, _, _, _, _, _] _ R (congrArg VV.bool (Option.some.inj hm))
      ·have h13 := bf h13
       refine VR.pG R R R R h13 (VP.move R) <| VR.pG R R R R h13 (VP.move R) ?_
       obtain ⟨x, h14, hm⟩ := bnd hm
       refine VR.someRow 0 R (gl_pos (VV.int .i64) h14) fun b2 h15 => ?_
       subst h15
       refine VR.pG R R R R h13 (VP.glR (VV.int .i64) R R el41 h14) <| VR.pG R R R R h13 (VP.loadR (i := 0) (y := (VV.int .i64) x) R R R (gl_map _ (gl_some h14).2) ld3 R) <| VR.pG R R R R h13 (VP.move R) <| VR.pG R R R R h13 (VP.arith R R R) <| VR.p R R (VP.pickB false R h13 R) ?_
       exact J [_, _, _, _, _, _] _ R (congrArg VV.bool (Option.some.inj hm))
     ·refine VR.nil ?_
      rcases ite_or hm with ⟨h17, hm⟩ | ⟨h17, hm⟩
      ·refine VW.condT R h17 <| VW.region <| VR.p R R (VP.move R) <| VR.p R R (VP.move R) ?_
       obtain ⟨x2, h18, hm⟩ := bnd hm
       refine VR.someRow 0 R (gl_pos (VV.int .i64) h18) fun b3 h19 => ?_
       subst h19
       refine VR.p R R (VP.glR (VV.int .i64) R R el41 h18) <| VR.p R R (VP.loadR (i := 0) (y := (VV.int .i64) x2) R R R (gl_map _ (gl_some h18).2) ld3 R) <| VR.p R R (VP.assign R) <| VR.nil <| VW.seq <| VW.region <| VR.p R R (VP.move R) <| VR.p R R (VP.move R) ?_
       obtain ⟨c3, h22, hm⟩ := bnd hm
       refine VR.sc 7 67 (.bool c3) (fun K' J => ?_) ?_
       ·have hm := h22
        rcases ite_or hm with ⟨h20, hm⟩ | ⟨h20, hm⟩
        ·refine VR.pG R R R R h20 (VP.move R) <| VR.pG R R R R h20 (VP.move R) ?_
         obtain ⟨x3, h21, hm⟩ := bnd hm
         refine VR.pG R R R R h20 (VP.glE VV.str R R el51 h21) <| VR.pG R R R R h20 (VP.loadE R ld9 R) <| VR.pG R R R R h20 (VP.move R) <| VR.pG R R R R h20 (VP.strop R R R) <| VR.p R R (VP.pickB true R h20 R) ?_
         exact J [_, _, _, _, _, _] _ R (congrArg VV.bool (Option.some.inj hm))
        ·have h20 := bf h20
         refine VR.skipG R R R R h20 <| VR.skipG R R R R h20 <| VR.skipG R R R R h20 <| VR.skipG R R R R h20 <| VR.skipG R R R R h20 <| VR.skipG R R R R h20 <| VR.p R R (VP.pickB false R h20 R) ?_
         exact J [_, _, _, _, _, _] _ R (congrArg VV.bool (Option.some.inj hm))
       ·refine VR.nil ?_
        rcases ite_or hm with ⟨h23, hm⟩ | ⟨h23, hm⟩
        ·refine VW.condT R h23 <| VW.region <| VR.p R R (VP.move R) <| VR.p R R (VP.move R) ?_
         obtain ⟨x4, h24, hm⟩ := bnd hm
         refine VR.p R R (VP.glR (VV.int .i64) R R el41 h24) <| VR.p R R (VP.loadR (i := 0) (y := (VV.int .i64) x4) R R R (gl_map _ (gl_some h24).2) ld3 R) <| VR.p R R (VP.assign R) <| VR.nil <| VW.region <| VR.p R R (VP.move R) <| VR.p R R (VP.arith R R R) <| VR.p R R (VP.assign R) <| VR.nil ?_
         exact ⟨(x4, x2, (IntKind.i64.wrap (i2 + (1 : Int)))), (some b3), hm, (Shift.pick [0, 0] R ⟨R, R, R, R, R, R, R, R, trivial⟩)⟩
        ·have h23 := bf h23
         refine VW.condF R h23 <| VW.skip <| VW.region <| VR.p R R (VP.move R) <| VR.p R R (VP.arith R R R) <| VR.p R R (VP.assign R) <| VR.nil ?_
         exact ⟨(mine2, x2, (IntKind.i64.wrap (i2 + (1 : Int)))), (some b3), hm, (Shift.pick [0, 0] R ⟨R, R, R, R, R, R, R, R, trivial⟩)⟩
      ·have h17 := bf h17
       refine VW.condF R h17 <| VW.skip <| VW.seq <| VW.region <| VR.p R R (VP.move R) <| VR.p R R (VP.move R) ?_
       obtain ⟨c4, h27, hm⟩ := bnd hm
       refine VR.sc 7 67 (.bool c4) (fun K' J => ?_) ?_
       ·have hm := h27
        rcases ite_or hm with ⟨h25, hm⟩ | ⟨h25, hm⟩
        ·refine VR.pG R R R R h25 (VP.move R) <| VR.pG R R R R h25 (VP.move R) ?_
         obtain ⟨x5, h26, hm⟩ := bnd hm
         refine VR.pG R R R R h25 (VP.glE VV.str R R el51 h26) <| VR.pG R R R R h25 (VP.loadE R ld9 R) <| VR.pG R R R R h25 (VP.move R) <| VR.pG R R R R h25 (VP.strop R R R) <| VR.p R R (VP.pickB true R h25 R) ?_
         exact J [_, _, _, _, _, _] _ R (congrArg VV.bool (Option.some.inj hm))
        ·have h25 := bf h25
         refine VR.skipG R R R R h25 <| VR.skipG R R R R h25 <| VR.skipG R R R R h25 <| VR.skipG R R R R h25 <| VR.skipG R R R R h25 <| VR.skipG R R R R h25 <| VR.p R R (VP.pickB false R h25 R) ?_
         exact J [_, _, _, _, _, _] _ R (congrArg VV.bool (Option.some.inj hm))
       ·refine VR.nil ?_
        rcases ite_or hm with ⟨h28, hm⟩ | ⟨h28, hm⟩
        ·refine VW.condT R h28 <| VW.region <| VR.p R R (VP.move R) <| VR.p R R (VP.move R) ?_
         obtain ⟨x6, h29, hm⟩ := bnd hm
         refine VR.someRow 0 R (gl_pos (VV.int .i64) h29) fun b4 h30 => ?_
         subst h30
         refine VR.p R R (VP.glR (VV.int .i64) R R el41 h29) <| VR.p R R (VP.loadR (i := 0) (y := (VV.int .i64) x6) R R R (gl_map _ (gl_some h29).2) ld3 R) <| VR.p R R (VP.assign R) <| VR.nil <| VW.region <| VR.p R R (VP.move R) <| VR.p R R (VP.arith R R R) <| VR.p R R (VP.assign R) <| VR.nil ?_
         exact ⟨(x6, least2, (IntKind.i64.wrap (i2 + (1 : Int)))), (some b4), hm, (Shift.pick [0, 0] R ⟨R, R, R, R, R, R, R, R, trivial⟩)⟩
        ·have h28 := bf h28
         refine VW.condF R h28 <| VW.skip <| VW.region <| VR.p R R (VP.move R) <| VR.p R R (VP.arith R R R) <| VR.p R R (VP.assign R) <| VR.nil ?_
         exact ⟨(mine2, least2, (IntKind.i64.wrap (i2 + (1 : Int)))), ob3, hm, (Shift.pick [0, 0] R ⟨R, R, R, R, R, R, R, R, trivial⟩)⟩
    ·have h12 := bf h12
     refine VW.condF R h12 <| VW.exit ?_
     exact ⟨(mine2, least2), (), Option.some.inj hm, (Shift.pick [1] R ⟨R, R, R, trivial⟩)⟩
   ·rintro j _ rfl
    have hm := h11
    refine VW.seq <| VW.seq <| VW.region <| VR.p R R (VP.move R) <| VR.p R R (VP.arith R R R) <| VR.nil ?_
    rcases ite_or hm with ⟨h31, hm⟩ | ⟨h31, hm⟩
    ·refine VW.condT R h31 <| VW.seq <| VW.region <| VR.p R R (VP.assign R) <| VR.nil ?_
     obtain rfl := Option.some.inj hm
     exact VW.ret ⟨.inl R, _, .cons (.tmp _ _ R) .nil, [], _, R, R, R⟩
    ·have h31 := bf h31
     refine VW.condF R h31 <| VW.skip <| VW.seq <| VW.seq <| VW.region <| VR.p R R (VP.fieldP R fa48_2) <| VR.p R R (VP.loadP (i := 0) R R ld27 R) <| VR.p R R (VP.fieldP R fa48_9) <| VR.p R R (VP.loadP (i := 0) R R ld27 R) ?_
     obtain ⟨r4, h32, hm⟩ := bnd hm
     refine VR.cons R R (VO.callK 0 R fn143 R (ref05_Has_ok p.Labels p.Spread r4 h32) fun _ _ h34 => ?_)
     obtain ⟨rfl, rfl⟩ := h34
     refine VR.nil ?_
     rcases ite_or hm with ⟨h33, hm⟩ | ⟨h33, hm⟩
     ·refine VW.condT R h33 <| VW.region <| VR.p R R (VP.move R) <| VR.p R R (VP.arith R R R) <| VR.p R R (VP.assign R) <| VR.nil <| VW.seq <| VW.region <| VR.p R R (VP.move R) <| VR.p R R (VP.move R) <| VR.p R R (VP.arith R R R) <| VR.p R R (VP.fieldP R fa48_10) <| VR.p R R (VP.loadP (i := 0) R R ld3 R) <| VR.p R R (VP.arith R R R) <| VR.p R R (VP.assign R) <| VR.nil ?_
      obtain rfl := Option.some.inj hm
      exact VW.ret ⟨.inl R, _, .cons (.tmp _ _ R) .nil, [], _, R, R, R⟩
     ·have h33 := bf h33
      refine VW.condF R h33 <| VW.skip <| VW.seq <| VW.region <| VR.p R R (VP.move R) <| VR.p R R (VP.move R) <| VR.p R R (VP.arith R R R) <| VR.p R R (VP.fieldP R fa48_10) <| VR.p R R (VP.loadP (i := 0) R R ld3 R) <| VR.p R R (VP.arith R R R) <| VR.p R R (VP.assign R) <| VR.nil ?_
      obtain rfl := Option.some.inj hm
      exact VW.ret ⟨.inl R, _, .cons (.tmp _ _ R) .nil, [], _, R, R, R⟩

/-! trireme/triremeref11.Why -/
def ref11_Why (ms : List T_api_Machine) (bs : List T_api_Bound) (p : T_api_Pod) (on_ : ByteArray) : Option Int :=
 (ref11_Near ms bs p on_).bind fun r =>
 if r = true then
  some (7 : Int)
 else
  (ref11_Many ms bs p on_).bind fun r2 =>
  if r2 = true then
   some (8 : Int)
  else
   some (0 : Int)
theorem ref11_Why_ok (ms : List T_api_Machine) (bs : List T_api_Bound) (p : T_api_Pod) (on_ : ByteArray) (r : Int) (hm : ref11_Why ms bs p on_ = some r) :
  VC Tryz.prog 82 [.list 30 (List.map T_api_Machine.vv ms), .list 50 (List.map T_api_Bound.vv bs), T_api_Pod.vv p, .str on_] [] (fun zx zH => zx = .int .i64 r ∧ zH = []) := by
 unfold ref11_Why at hm
 refine VC.run (c := _) (rs := [.tmp 8]) Tryz.func82 R R R <| VW.seq <| VW.region ?_
 refine VR.cons R R (VO.box R R fun b => ?_)
 refine VR.p R R (VP.assign R) <| VR.nil <| VW.seq <| VW.seq <| VW.region <| VR.p R R (VP.move R) <| VR.p R R (VP.move R) <| VR.p R R (VP.loadP (i := 0) R R ld48 R) <| VR.p R R (VP.move R) ?_
 obtain ⟨r, h2, hm⟩ := bnd hm
 refine VR.cons R R (VO.callK 0 R fn117 R (ref11_Near_ok ms bs p on_ r h2) fun _ _ h7 => ?_)
 obtain ⟨rfl, rfl⟩ := h7
 refine VR.nil ?_
 rcases ite_or hm with ⟨h3, hm⟩ | ⟨h3, hm⟩
 ·refine VW.condT R h3 <| VW.seq <| VW.region <| VR.p R R (VP.assign R) <| VR.nil ?_
  obtain rfl := Option.some.inj hm
  exact VW.ret ⟨.inl R, _, .cons (.tmp _ _ R) .nil, [], _, R, R, R⟩
 ·have h3 := bf h3
  refine VW.condF R h3 <| VW.skip <| VW.seq <| VW.seq <| VW.region <| VR.p R R (VP.move R) <| VR.p R R (VP.move R) <| VR.p R R (VP.loadP (i := 0) R R ld48 R) <| VR.p R R (VP.move R) ?_
  obtain ⟨r2, h4, hm⟩ := bnd hm
  refine VR.cons R R (VO.callK 0 R fn118 R (ref11_Many_ok ms bs p on_ r2 h4) fun _ _ h6 => ?_)
  obtain ⟨rfl, rfl⟩ := h6
  refine VR.nil ?_
  rcases ite_or hm with ⟨h5, hm⟩ | ⟨h5, hm⟩
  ·refine VW.condT R h5 <| VW.seq <| VW.region <| VR.p R R (VP.assign R) <| VR.nil ?_
   obtain rfl := Option.some.inj hm
   exact VW.ret ⟨.inl R, _, .cons (.tmp _ _ R) .nil, [], _, R, R, R⟩
  ·have h5 := bf h5
   refine VW.condF R h5 <| VW.skip <| VW.seq <| VW.region <| VR.p R R (VP.assign R) <| VR.nil ?_
   obtain rfl := Option.some.inj hm
   exact VW.ret ⟨.inl R, _, .cons (.tmp _ _ R) .nil, [], _, R, R, R⟩

/-! trireme/triremeref12.Why -/
def ref12_Why (ms : List T_api_Machine) (bs : List T_api_Bound) (p : T_api_Pod) (on_ : ByteArray) : Option Int :=
 (ref09_Find ms on_).bind fun r =>
 if (decide (r < (0 : Int))) = true then
  some (1 : Int)
 else
  (V.gl ms r).bind fun x =>
  (ref10_Suits x bs p).bind fun r2 =>
  if (r2 != (0 : Int)) = true then
   some r2
  else
   (ref11_Why ms bs p on_).bind fun r3 =>
   some r3
theorem ref12_Why_ok (ms : List T_api_Machine) (bs : List T_api_Bound) (p : T_api_Pod) (on_ : ByteArray) (r : Int) (hm : ref12_Why ms bs p on_ = some r) :
  VC Tryz.prog 34 [.list 30 (List.map T_api_Machine.vv ms), .list 50 (List.map T_api_Bound.vv bs), T_api_Pod.vv p, .str on_] [] (fun zx zH => zx = .int .i64 r ∧ zH = []) := by
 unfold ref12_Why at hm
 refine VC.run (c := _) (rs := [.tmp 8]) Tryz.func34 R R R <| VW.seq <| VW.region ?_
 refine VR.cons R R (VO.box R R fun b => ?_)
 refine VR.p R R (VP.assign R) <| VR.nil <| VW.seq <| VW.region <| VR.p R R (VP.move R) <| VR.p R R (VP.move R) ?_
 obtain ⟨r, h2, hm⟩ := bnd hm
 refine VR.cons R R (VO.callK 0 R fn80 R (ref09_Find_ok ms on_ r h2) fun _ _ h10 => ?_)
 obtain ⟨rfl, rfl⟩ := h10
 refine VR.p R R (VP.assign R) <| VR.nil <| VW.seq <| VW.seq <| VW.region <| VR.p R R (VP.move R) <| VR.p R R (VP.arith R R R) <| VR.nil ?_
 rcases ite_or hm with ⟨h3, hm⟩ | ⟨h3, hm⟩
 ·refine VW.condT R h3 <| VW.seq <| VW.region <| VR.p R R (VP.assign R) <| VR.nil ?_
  obtain rfl := Option.some.inj hm
  exact VW.ret ⟨.inl R, _, .cons (.tmp _ _ R) .nil, [], _, R, R, R⟩
 ·have h3 := bf h3
  refine VW.condF R h3 <| VW.skip <| VW.seq <| VW.drawK 0 mixed <| VA.p 0 R R R (by kernel_rfl) (VP.move R) <| VA.p 1 R R R (by kernel_rfl) (VP.move R) ?_
  obtain ⟨x, h4, hm⟩ := bnd hm
  refine VA.p 2 R R R (by kernel_rfl) (VP.glE T_api_Machine.vv R R el22 h4) <| VA.p 3 R R R (by kernel_rfl) (VP.loadE R ld30 R) <| VA.p 4 R R R (by kernel_rfl) (VP.move R) <| VA.p 5 R R R (by kernel_rfl) (VP.loadP (i := 0) R R ld48 R) ?_
  refine VA.all [6] (by kernel_rfl) ⟨?_, trivial⟩
  obtain ⟨r2, h5, hm⟩ := bnd hm
  refine VB.o R R R (VO.callK 0 R fn81 R (ref10_Suits_ok x bs p r2 h5) fun _ _ h9 => ?_)
  obtain ⟨rfl, rfl⟩ := h9
  refine VA.p 7 R R R (by kernel_rfl) (VP.assign R) <| VA.done (by kernel_rfl) <| VW.seq <| VW.seq <| VW.region <| VR.p R R (VP.move R) <| VR.p R R (VP.arith R R R) <| VR.nil ?_
  rcases ite_or hm with ⟨h6, hm⟩ | ⟨h6, hm⟩
  ·refine VW.condT R h6 <| VW.seq <| VW.region <| VR.p R R (VP.move R) <| VR.p R R (VP.assign R) <| VR.nil ?_
   obtain rfl := Option.some.inj hm
   exact VW.ret ⟨.inl R, _, .cons (.tmp _ _ R) .nil, [], _, R, R, R⟩
  ·have h6 := bf h6
   refine VW.condF R h6 <| VW.skip <| VW.seq <| VW.region <| VR.p R R (VP.move R) <| VR.p R R (VP.move R) <| VR.p R R (VP.loadP (i := 0) R R ld48 R) <| VR.p R R (VP.move R) ?_
   obtain ⟨r3, h7, hm⟩ := bnd hm
   refine VR.cons R R (VO.callK 0 R fn82 R (ref11_Why_ok ms bs p on_ r3 h7) fun _ _ h8 => ?_)
   obtain ⟨rfl, rfl⟩ := h8
   refine VR.p R R (VP.assign R) <| VR.nil ?_
   obtain rfl := Option.some.inj hm
   exact VW.ret ⟨.inl R, _, .cons (.tmp _ _ R) .nil, [], _, R, R, R⟩

/-! trireme/triremeref12.Where -/
def ref12_Where.l1 (ms : List T_api_Machine) (bs : List T_api_Bound) (p : T_api_Pod) : Nat → (List ByteArray) → Int → Option (List ByteArray)
 | 0, _, _ => none
 | n + 1, out2, i2 =>
  if (decide (i2 < (ms.length : Int))) = true then
   (V.gl ms i2).bind fun x =>
   (ref12_Why ms bs p x.Name).bind fun r =>
   if (r == (0 : Int)) = true then
    (V.gl ms i2).bind fun x2 =>
    (V.ap 16 out2 [x2.Name]).bind fun out4 =>
    ref12_Where.l1 ms bs p n out4 (IntKind.i64.wrap (i2 + (1 : Int)))
   else
    ref12_Where.l1 ms bs p n out2 (IntKind.i64.wrap (i2 + (1 : Int)))
  else
   some out2
def ref12_Where (ms : List T_api_Machine) (bs : List T_api_Bound) (p : T_api_Pod) : Option (List ByteArray) :=
 (ref12_Where.l1 ms bs p FU ([] : List ByteArray) (0 : Int)).bind fun out32 =>
 some out32
theorem ref12_Where_ok (ms : List T_api_Machine) (bs : List T_api_Bound) (p : T_api_Pod) (r : List ByteArray) (hm : ref12_Where ms bs p = some r) :
  VC Tryz.prog 36 [.list 30 (List.map T_api_Machine.vv ms), .list 50 (List.map T_api_Bound.vv bs), T_api_Pod.vv p] [] (fun zx zH => ∃ (ob0 : Option Nat) (cap0 : Nat), zx = .sl ob0 (List.map VV.str r).length cap0 ∧ zH = [.row ob0 9 cap0 (List.map VV.str r)]) := by
 unfold ref12_Where at hm
 refine VC.run (c := _) (rs := [.tmp 6]) Tryz.func36 R R R <| VW.seq <| VW.region ?_
 refine VR.cons R R (VO.box R R fun b => ?_)
 refine VR.p R R (VP.assign R) <| VR.nil <| VW.seq <| VW.region <| VR.p R R (VP.assign R) <| VR.nil <| VW.seq <| VW.seq <| VW.region <| VR.p R R (VP.assign R) <| VR.nil ?_
 obtain ⟨o, h4, h5⟩ := bnd hm
 refine VW.joinE (fun (q : List ByteArray) => q = o) (fun (out32 : List ByteArray) (gg : Option Nat × Nat) => [(7, .sl gg.1 (List.map VV.str out32).length gg.2)]) (fun (out32 : List ByteArray) (gg : Option Nat × Nat) => [.row gg.1 9 gg.2 (List.map VV.str out32)]) ?_ ?_
 ·have hm := h4
  refine VW.block (VW.loop FU ?_)
  refine VL.fuelS (R := _) (fun zn (zs : List ByteArray × Int) => ref12_Where.l1 ms bs p zn zs.1 zs.2) (fun (zs : List ByteArray × Int) (zg : Option Nat × Nat) => [(0, .list 30 (List.map T_api_Machine.vv ms)), (1, .list 50 (List.map T_api_Bound.vv bs)), (5, .ptr b 0), (7, .sl zg.1 (List.map VV.str zs.1).length zg.2), (8, .int .i64 zs.2)]) (fun (zs : List ByteArray × Int) (zg : Option Nat × Nat) => [.row zg.1 9 zg.2 (List.map VV.str zs.1), .box b 48 (T_api_Pod.cells p)]) (([] : List ByteArray), (0 : Int)) (none, 0) (fun zs => R) (Shift.trans (Shift.nilRow 9) (Shift.pick [0, 0] R ⟨R, R, R, R, R, trivial⟩)) h4 ?_
  rintro n ⟨out2, i2⟩ ⟨ob2, cap2⟩ hm
  rw [ref12_Where.l1] at hm
  refine VW.seq <| VW.seq <| VW.region <| VR.p R R (VP.move R) <| VR.p R R (VP.move R) <| VR.p R R (VP.lenT T_api_Machine.vv R Tryz.underlying22) <| VR.p R R (VP.arith R R R) <| VR.nil ?_
  rcases ite_or hm with ⟨h6, hm⟩ | ⟨h6, hm⟩
  ·refine VW.condT R h6 <| VW.skip <| VW.seq <| VW.block <| VW.seq <| VW.drawK 0 mixed <| VA.p 0 R R R (by kernel_rfl) (VP.move R) <| VA.p 1 R R R (by kernel_rfl) (VP.move R) <| VA.p 2 R R R (by kernel_rfl) (VP.loadP (i := 1) R R ld48 R) <| VA.p 3 R R R (by kernel_rfl) (VP.move R) <| VA.p 4 R R R (by kernel_rfl) (VP.move R) ?_
   obtain ⟨x, h7, hm⟩ := bnd hm
   refine VA.p 5 R R R (by kernel_rfl) (VP.glE T_api_Machine.vv R R el22 h7) <| VA.p 6 R R R (by kernel_rfl) (VP.fieldE R fa30_0) <| VA.p 7 R R R (by kernel_rfl) (VP.loadE R ld9 R) ?_
   refine VA.all [8] (by kernel_rfl) ⟨?_, trivial⟩
   obtain ⟨r, h8, hm⟩ := bnd hm
   refine VB.o R R R (VO.callK 0 R fn34 R (ref12_Why_ok ms bs p x.Name r h8) fun _ _ h13 => ?_)
   obtain ⟨rfl, rfl⟩ := h13
   refine VA.p 9 R R R (by kernel_rfl) (VP.arith R R R) <| VA.done (by kernel_rfl) ?_
   rcases ite_or hm with ⟨h9, hm⟩ | ⟨h9, hm⟩
   ·refine VW.condT R h9 <| VW.region <| VR.p R R (VP.move R) <| VR.p R R (VP.move R) <| VR.p R R (VP.move R) ?_
    obtain ⟨x2, h10, hm⟩ := bnd hm
    refine VR.p R R (VP.glE T_api_Machine.vv R R el22 h10) <| VR.p R R (VP.fieldE R fa30_0) <| VR.p R R (VP.loadE R ld9 R) ?_
    refine VR.cons R R (VO.buildSlice ap51 R R R R R fun b2 => ?_)
    obtain ⟨out4, h12, hm⟩ := bnd hm
    refine VR.cons R R (VO.apT 1 VV.str (l := out2) (l2 := [x2.Name]) ap51 R R (sT_row 0 VV.str el51 R R) h12 fun ob4 cap4 => ?_)
    refine VR.p R R (VP.assign R) <| VR.nil <| VW.region <| VR.p R R (VP.move R) <| VR.p R R (VP.arith R R R) <| VR.p R R (VP.assign R) <| VR.nil ?_
    exact ⟨(out4, (IntKind.i64.wrap (i2 + (1 : Int)))), (ob4, cap4), hm, (Shift.pick [1, 1] R ⟨R, R, R, R, R, trivial⟩)⟩
   ·have h9 := bf h9
    refine VW.condF R h9 <| VW.skip <| VW.region <| VR.p R R (VP.move R) <| VR.p R R (VP.arith R R R) <| VR.p R R (VP.assign R) <| VR.nil ?_
    exact ⟨(out2, (IntKind.i64.wrap (i2 + (1 : Int)))), (ob2, cap2), hm, (Shift.pick [0, 0] R ⟨R, R, R, R, R, trivial⟩)⟩
  ·have h6 := bf h6
   refine VW.condF R h6 <| VW.exit ?_
   exact ⟨out2, (ob2, cap2), Option.some.inj hm, (Shift.pick [0] R ⟨R, trivial⟩)⟩
 ·rintro out32 ⟨ob3, cap3⟩ rfl
  have hm := h5
  refine VW.seq <| VW.region <| VR.p R R (VP.move R) <| VR.p R R (VP.assign R) <| VR.nil ?_
  obtain rfl := Option.some.inj hm
  exact VW.ret ⟨.inl R, _, .cons (.tmp _ _ R) .nil, [0], _, R, ob3, cap3, R, R⟩

/-! trireme/triremeref06.Prefers -/
def ref06_Prefers (l : List T_api_Toleration) (taints : List T_api_Taint) : Option Int :=
 (ref06_Unborne l taints (2 : Int)).bind fun r =>
 some (r.length : Int)
theorem ref06_Prefers_ok (l : List T_api_Toleration) (taints : List T_api_Taint) (r : Int) (hm : ref06_Prefers l taints = some r) :
  VC Tryz.prog 152 [.list 128 (List.map T_api_Toleration.vv l), .list 126 (List.map T_api_Taint.vv taints)] [] (fun zx zH => zx = .int .i64 r ∧ zH = []) := by
 unfold ref06_Prefers at hm
 refine VC.run (c := _) (rs := [.tmp 4]) Tryz.func152 R R R <| VW.seq <| VW.region <| VR.p R R (VP.assign R) <| VR.nil <| VW.seq <| VW.region <| VR.p R R (VP.move R) <| VR.p R R (VP.move R) ?_
 obtain ⟨r, h1, hm⟩ := bnd hm
 refine VR.cons R R (VO.callK 0 R fn165 R (ref06_Unborne_ok l taints (2 : Int) r h1) fun _ _ h3 => ?_)
 obtain ⟨ob, cap, rfl, rfl⟩ := h3
 refine VR.shift (Shift.freezeE 0 [(7, .list 126 (List.map T_api_Taint.vv r))] R ⟨⟨_, R, .here _ R⟩, trivial⟩ (FzH.refl _)) <| VR.p R R (VP.lenT T_api_Taint.vv R Tryz.underlying28) <| VR.p R R (VP.assign R) <| VR.nil ?_
 obtain rfl := Option.some.inj hm
 exact VW.ret ⟨.inl R, _, .cons (.tmp _ _ R) .nil, [], _, R, R, R⟩

/-! trireme/triremeref10.Prefers -/
def ref10_Prefers (m : T_api_Machine) (p : T_api_Pod) : Option Int :=
 (ref06_Prefers p.Bears m.Taints).bind fun r =>
 some r
theorem ref10_Prefers_ok (m : T_api_Machine) (p : T_api_Pod) (r : Int) (hm : ref10_Prefers m p = some r) :
  VC Tryz.prog 119 [T_api_Machine.vv m, T_api_Pod.vv p] [] (fun zx zH => zx = .int .i64 r ∧ zH = []) := by
 unfold ref10_Prefers at hm
 refine VC.run (c := _) (rs := [.tmp 4]) Tryz.func119 R R R <| VW.seq <| VW.region ?_
 refine VR.cons R R (VO.box R R fun b => ?_)
 refine VR.cons R R (VO.box R R fun b2 => ?_)
 refine VR.p R R (VP.assign R) <| VR.nil <| VW.seq <| VW.region <| VR.p R R (VP.fieldP R fa48_5) <| VR.p R R (VP.loadP (i := 0) R R ld46 R) <| VR.p R R (VP.fieldP R fa30_4) <| VR.p R R (VP.loadP (i := 1) R R ld28 R) ?_
 obtain ⟨r, h3, hm⟩ := bnd hm
 refine VR.cons R R (VO.callK 0 R fn152 R (ref06_Prefers_ok p.Bears m.Taints r h3) fun _ _ h4 => ?_)
 obtain ⟨rfl, rfl⟩ := h4
 refine VR.p R R (VP.assign R) <| VR.nil ?_
 obtain rfl := Option.some.inj hm
 exact VW.ret ⟨.inl R, _, .cons (.tmp _ _ R) .nil, [], _, R, R, R⟩

/-! trireme/triremeref04.part -/
def ref04_part (a : Int) (b : Int) : Option Int :=
 if (b == (0 : Int)) = true then
  if (a == (0 : Int)) = true then
   some (0 : Int)
  else
   some (1000000 : Int)
 else
  (V.quo (IntKind.i64.wrap ((1000 : Int) * a)) b).bind fun v =>
  some (min (IntKind.i64.wrap v) (1000000 : Int))
theorem ref04_part_ok (a : Int) (b : Int) (r : Int) (hm : ref04_part a b = some r) :
  VC Tryz.prog 98 [.int .i64 a, .int .i64 b] [] (fun zx zH => zx = .int .i64 r ∧ zH = []) := by
 unfold ref04_part at hm
 refine VC.run (c := _) (rs := [.tmp 4]) Tryz.func98 R R R <| VW.seq <| VW.region <| VR.p R R (VP.assign R) <| VR.nil <| VW.seq <| VW.seq <| VW.region <| VR.p R R (VP.move R) <| VR.p R R (VP.arith R R R) <| VR.nil ?_
 rcases ite_or hm with ⟨h1, hm⟩ | ⟨h1, hm⟩
 ·refine VW.condT R h1 <| VW.seq <| VW.seq <| VW.region <| VR.p R R (VP.move R) <| VR.p R R (VP.arith R R R) <| VR.nil ?_
  rcases ite_or hm with ⟨h2, hm⟩ | ⟨h2, hm⟩
  ·refine VW.condT R h2 <| VW.seq <| VW.region <| VR.p R R (VP.assign R) <| VR.nil ?_
   obtain rfl := Option.some.inj hm
   exact VW.ret ⟨.inl R, _, .cons (.tmp _ _ R) .nil, [], _, R, R, R⟩
  ·have h2 := bf h2
   refine VW.condF R h2 <| VW.skip <| VW.seq <| VW.region <| VR.p R R (VP.assign R) <| VR.nil ?_
   obtain rfl := Option.some.inj hm
   exact VW.ret ⟨.inl R, _, .cons (.tmp _ _ R) .nil, [], _, R, R, R⟩
 ·have h1 := bf h1
  refine VW.condF R h1 <| VW.skip <| VW.seq <| VW.region <| VR.p R R (VP.move R) <| VR.p R R (VP.arith R R R) <| VR.p R R (VP.move R) ?_
  obtain ⟨v, h3, hm⟩ := bnd hm
  refine VR.p R R (VP.quoT R R h3) <| VR.p R R (VP.min2 R R) <| VR.p R R (VP.assign R) <| VR.nil ?_
  obtain rfl := Option.some.inj hm
  exact VW.ret ⟨.inl R, _, .cons (.tmp _ _ R) .nil, [], _, R, R, R⟩

/-! trireme/triremeref04.Share -/
def ref04_Share (a : T_api_Res) (b : T_api_Res) : Option Int :=
 (ref04_Right a).bind fun r =>
 (if (!r) = true then some true else (ref04_Right b).bind fun r2 =>
 some (!r2)).bind fun c =>
 if c = true then
  some (0 : Int)
 else
  (ref04_part a.Cpu b.Cpu).bind fun r3 =>
  (ref04_part a.Mem b.Mem).bind fun r4 =>
  some (max r3 r4)
theorem ref04_Share_ok (a : T_api_Res) (b : T_api_Res) (r : Int) (hm : ref04_Share a b = some r) :
  VC Tryz.prog 58 [T_api_Res.vv a, T_api_Res.vv b] [] (fun zx zH => zx = .int .i64 r ∧ zH = []) := by
 unfold ref04_Share at hm
 refine VC.run (c := _) (rs := [.tmp 4]) Tryz.func58 R R R <| VW.seq <| VW.region ?_
 refine VR.cons R R (VO.box R R fun b2 => ?_)
 refine VR.cons R R (VO.box R R fun b3 => ?_)
 refine VR.p R R (VP.assign R) <| VR.nil <| VW.seq <| VW.seq <| VW.region <| VR.p R R (VP.loadP (i := 1) R R ld26 R) ?_
 obtain ⟨r, h3, hm⟩ := bnd hm
 refine VR.cons R R (VO.callK 0 R fn70 R (ref04_Right_ok a r h3) fun _ _ h13 => ?_)
 obtain ⟨rfl, rfl⟩ := h13
 refine VR.p R R (VP.not R) <| VR.p R R (VP.move R) ?_
 obtain ⟨c, h7, hm⟩ := bnd hm
 refine VR.sc 4 12 (.bool c) (fun K' J => ?_) ?_
 ·have hm := h7
  rcases ite_or hm with ⟨h4, hm⟩ | ⟨h4, hm⟩
  ·refine VR.skipG R R R R h4 <| VR.skipG R R R R h4 <| VR.skipG R R R R h4 <| VR.p R R (VP.pickB true R h4 R) ?_
   exact J [_, _, _] _ R (congrArg VV.bool (Option.some.inj hm))
  ·have h4 := bf h4
   refine VR.pG R R R R h4 (VP.loadP (i := 0) R R ld26 R) ?_
   obtain ⟨r2, h5, hm⟩ := bnd hm
   refine VR.consG R R R R h4 (VO.callK 0 R fn70 R (ref04_Right_ok b r2 h5) fun _ _ h6 => ?_)
   obtain ⟨rfl, rfl⟩ := h6
   refine VR.pG R R R R h4 (VP.not R) <| VR.p R R (VP.pickB false R h4 R) ?_
   exact J [_, _, _] _ R (congrArg VV.bool (Option.some.inj hm))
 ·refine VR.nil ?_
  rcases ite_or hm with ⟨h8, hm⟩ | ⟨h8, hm⟩
  ·refine VW.condT R h8 <| VW.seq <| VW.region <| VR.p R R (VP.assign R) <| VR.nil ?_
   obtain rfl := Option.some.inj hm
   exact VW.ret ⟨.inl R, _, .cons (.tmp _ _ R) .nil, [], _, R, R, R⟩
  ·have h8 := bf h8
   refine VW.condF R h8 <| VW.skip <| VW.seq <| VW.drawK 0 mixed <| VA.p 0 R R R (by kernel_rfl) (VP.fieldP R fa26_0) <| VA.p 1 R R R (by kernel_rfl) (VP.loadP (i := 1) R R ld3 R) <| VA.p 2 R R R (by kernel_rfl) (VP.fieldP R fa26_0) <| VA.p 3 R R R (by kernel_rfl) (VP.loadP (i := 0) R R ld3 R) <| VA.p 5 R R R (by kernel_rfl) (VP.fieldP R fa26_1) <| VA.p 6 R R R (by kernel_rfl) (VP.loadP (i := 1) R R ld3 R) <| VA.p 7 R R R (by kernel_rfl) (VP.fieldP R fa26_1) <| VA.p 8 R R R (by kernel_rfl) (VP.loadP (i := 0) R R ld3 R) ?_
   refine VA.all [4] (by kernel_rfl) ⟨?_, trivial⟩
   obtain ⟨r3, h9, hm⟩ := bnd hm
   refine VB.o R R R (VO.callK 0 R fn98 R (ref04_part_ok a.Cpu b.Cpu r3 h9) fun _ _ h12 => ?_)
   obtain ⟨rfl, rfl⟩ := h12
   refine VA.all [9] (by kernel_rfl) ⟨?_, trivial⟩
   obtain ⟨r4, h10, hm⟩ := bnd hm
   refine VB.o R R R (VO.callK 0 R fn98 R (ref04_part_ok a.Mem b.Mem r4 h10) fun _ _ h11 => ?_)
   obtain ⟨rfl, rfl⟩ := h11
   refine VA.p 10 R R R (by kernel_rfl) (VP.max2 R R) <| VA.p 11 R R R (by kernel_rfl) (VP.assign R) <| VA.done (by kernel_rfl) ?_
   obtain rfl := Option.some.inj hm
   exact VW.ret ⟨.inl R, _, .cons (.tmp _ _ R) .nil, [], _, R, R, R⟩

/-! trireme/triremeref14.Among -/
def ref14_Among.l1 (ms : List T_api_Machine) (bs : List T_api_Bound) (p : T_api_Pod) (l : List ByteArray) : Nat → ByteArray → Int → Int → Int → Option ByteArray
 | 0, _, _, _, _ => none
 | n + 1, best2, worst2, share2, i2 =>
  if (decide (i2 < (l.length : Int))) = true then
   (V.gl l i2).bind fun x =>
   (ref09_Find ms x).bind fun r =>
   (V.gl ms r).bind fun x2 =>
   (ref10_Prefers x2 p).bind fun r2 =>
   ((ref10_Others bs p.Name).bind fun r3 =>
   (ref09_Used r3 x2.Name).bind fun r4 =>
   some r4.1).bind fun u2 =>
   (ref04_Share u2 x2.Has).bind fun r8 =>
   if (((V.seq best2 (⟨#[]⟩ : ByteArray)) || (decide (r2 < worst2))) || ((r2 == worst2) && (decide (r8 < share2)))) = true then
    ref14_Among.l1 ms bs p l n x2.Name r2 r8 (IntKind.i64.wrap (i2 + (1 : Int)))
   else
    ref14_Among.l1 ms bs p l n best2 worst2 share2 (IntKind.i64.wrap (i2 + (1 : Int)))
  else
   some best2
def ref14_Among (ms : List T_api_Machine) (bs : List T_api_Bound) (p : T_api_Pod) (l : List ByteArray) : Option ByteArray :=
 (ref14_Among.l1 ms bs p l FU (⟨#[]⟩ : ByteArray) (0 : Int) (0 : Int) (0 : Int)).bind fun best32 =>
 some best32
theorem ref14_Among_ok (ms : List T_api_Machine) (bs : List T_api_Bound) (p : T_api_Pod) (l : List ByteArray) (r : ByteArray) (hm : ref14_Among ms bs p l = some r) :
  VC Tryz.prog 83 [.list 30 (List.map T_api_Machine.vv ms), .list 50 (List.map T_api_Bound.vv bs), T_api_Pod.vv p, .list 9 (List.map VV.str l)] [] (fun zx zH => zx = .str r ∧ zH = []) := by
 unfold ref14_Among at hm
 refine VC.run (c := _) (rs := [.tmp 8]) Tryz.func83 R R R <| VW.seq <| VW.region ?_
 refine VR.cons R R (VO.box R R fun b => ?_)
 refine VR.p R R (VP.assign R) <| VR.nil <| VW.seq <| VW.region <| VR.p R R (VP.assign R) <| VR.nil <| VW.seq <| VW.region <| VR.p R R (VP.assign R) <| VR.nil <| VW.seq <| VW.region <| VR.p R R (VP.assign R) <| VR.nil <| VW.seq <| VW.seq <| VW.region <| VR.p R R (VP.assign R) <| VR.nil ?_
 obtain ⟨o, h2, h3⟩ := bnd hm
 refine VW.joinE (fun (q : ByteArray) => q = o) (fun (best32 : ByteArray) (gg : Unit) => [(9, .str best32)]) (fun (best32 : ByteArray) (gg : Unit) => []) ?_ ?_
 ·have hm := h2
  refine VW.block (VW.loop FU ?_)
  refine VL.fuelS (R := _) (fun zn (zs : ByteArray × Int × Int × Int) => ref14_Among.l1 ms bs p l zn zs.1 zs.2.1 zs.2.2.1 zs.2.2.2) (fun (zs : ByteArray × Int × Int × Int) (zg : Unit) => [(0, .list 30 (List.map T_api_Machine.vv ms)), (1, .list 50 (List.map T_api_Bound.vv bs)), (3, .list 9 (List.map VV.str l)), (6, .ptr b 0), (9, .str zs.1), (10, .int .i64 zs.2.1), (11, .int .i64 zs.2.2.1), (12, .int .i64 zs.2.2.2)]) (fun (zs : ByteArray × Int × Int × Int) (zg : Unit) => [.box b 48 (T_api_Pod.cells p)]) ((⟨#[]⟩ : ByteArray), (0 : Int), (0 : Int), (0 : Int)) () (fun zs => R) (Shift.pick [0] R ⟨R, R, R, R, R, R, R, R, trivial⟩) h2 ?_
  rintro n ⟨best2, worst2, share2, i2⟩ _ hm
  rw [ref14_Among.l1] at hm
  refine VW.seq <| VW.seq <| VW.region <| VR.p R R (VP.move R) <| VR.p R R (VP.move R) <| VR.p R R (VP.lenT VV.str R Tryz.underlying51) <| VR.p R R (VP.arith R R R) <| VR.nil ?_
  rcases ite_or hm with ⟨h4, hm⟩ | ⟨h4, hm⟩
  ·refine VW.condT R h4 <| VW.skip <| VW.seq <| VW.block <| VW.seq <| VW.region <| VR.p R R (VP.move R) <| VR.p R R (VP.move R) <| VR.p R R (VP.move R) <| VR.p R R (VP.move R) ?_
   obtain ⟨x, h5, hm⟩ := bnd hm
   refine VR.p R R (VP.glE VV.str R R el51 h5) <| VR.p R R (VP.loadE R ld9 R) ?_
   obtain ⟨r, h6, hm⟩ := bnd hm
   refine VR.cons R R (VO.callK 0 R fn80 R (ref09_Find_ok ms x r h6) fun _ _ h35 => ?_)
   obtain ⟨rfl, rfl⟩ := h35
   obtain ⟨x2, h7, hm⟩ := bnd hm
   refine VR.p R R (VP.glE T_api_Machine.vv R R el22 h7) <| VR.p R R (VP.loadE R ld30 R) ?_
   refine VR.cons R R (VO.alloc z30 fun b2 => ?_)
   refine VR.cons R R (VO.storeP (i := 0) R R R ld30 R R R ?_)
   refine VR.nil <| VW.seq <| VW.region <| VR.p R R (VP.loadP (i := 0) R R ld30 R) <| VR.p R R (VP.loadP (i := 1) R R ld48 R) ?_
   obtain ⟨r2, h9, hm⟩ := bnd hm
   refine VR.cons R R (VO.callK 0 R fn119 R (ref10_Prefers_ok x2 p r2 h9) fun _ _ h34 => ?_)
   obtain ⟨rfl, rfl⟩ := h34
   refine VR.p R R (VP.assign R) <| VR.nil ?_
   obtain ⟨o2, h11, h12⟩ := bnd hm
   refine VW.join (fun (q : T_api_Res) => q = o2) (fun (u2 : T_api_Res) (gg : Nat) => [(0, .list 30 (List.map T_api_Machine.vv ms)), (1, .list 50 (List.map T_api_Bound.vv bs)), (3, .list 9 (List.map VV.str l)), (6, .ptr b 0), (9, .str best2), (10, .int .i64 worst2), (11, .int .i64 share2), (12, .int .i64 i2), (13, .ptr b2 0), (14, .int .i64 r2), (15, .ptr gg 0)]) (fun (u2 : T_api_Res) (gg : Nat) => [.box gg 26 (T_api_Res.cells u2), .box b2 30 (T_api_Machine.cells x2), .box b 48 (T_api_Pod.cells p)]) ?_ ?_
   ·have hm := h11
    refine VW.drawK 0 mixed <| VA.p 0 R R R (by kernel_rfl) (VP.move R) <| VA.p 1 R R R (by kernel_rfl) (VP.fieldP R fa48_0) <| VA.p 2 R R R (by kernel_rfl) (VP.loadP (i := 1) R R ld9 R) <| VA.p 4 R R R (by kernel_rfl) (VP.fieldP R fa30_0) <| VA.p 5 R R R (by kernel_rfl) (VP.loadP (i := 0) R R ld9 R) ?_
    refine VA.all [3, 10] (by kernel_rfl) ⟨?_, ?_, trivial⟩
    ·obtain ⟨r3, h13, hm⟩ := bnd hm
     refine VB.o R R R (VO.callK 0 R fn62 R (ref10_Others_ok bs p.Name r3 h13) fun _ _ h21 => ?_)
     obtain ⟨ob, cap, rfl, rfl⟩ := h21
     refine VA.shift (Shift.freezeE 0 [(40, .list 50 (List.map T_api_Bound.vv r3))] R ⟨⟨_, R, .here _ R⟩, trivial⟩ (FzH.refl _)) ?_
     refine VA.all [6, 10] (by kernel_rfl) ⟨?_, ?_, trivial⟩
     ·obtain ⟨r4, h15, hm⟩ := bnd hm
      refine VB.o R R R (VO.callK 0 R fn120 R (ref09_Used_ok r3 x2.Name r4 h15) fun _ _ h17 => ?_)
      obtain ⟨rfl, rfl⟩ := h17
      refine VA.p 7 R R R (by kernel_rfl) (VP.move R) <| VA.p 8 R R R (by kernel_rfl) (VP.extract R R) <| VA.p 9 R R R (by kernel_rfl) (VP.extract R R) ?_
      refine VA.all [10] (by kernel_rfl) ⟨?_, trivial⟩
      refine VB.o R R R (VO.alloc z26 fun b4 => ?_)
      refine VA.all [11] (by kernel_rfl) ⟨?_, trivial⟩
      refine VB.o R R R (VO.storeP (i := 0) R R R ld26 R R R ?_)
      refine VA.p 12 R R R (by kernel_rfl) (VP.assign R) <| VA.done (by kernel_rfl) ?_
      exact ⟨r4.1, b4, Option.some.inj hm, (Shift.pick [0, 0, 0] R ⟨R, R, R, R, R, R, R, R, R, R, R, trivial⟩)⟩
     ·refine VB.o R R R (VO.alloc z26 fun b5 => ?_)
      refine VA.all [6] (by kernel_rfl) ⟨?_, trivial⟩
      obtain ⟨r5, h19, hm⟩ := bnd hm
      refine VB.o R R R (VO.callK 0 R fn120 R (ref09_Used_ok r3 x2.Name r5 h19) fun _ _ h20 => ?_)
      obtain ⟨rfl, rfl⟩ := h20
      refine VA.p 7 R R R (by kernel_rfl) (VP.move R) <| VA.p 8 R R R (by kernel_rfl) (VP.extract R R) <| VA.p 9 R R R (by kernel_rfl) (VP.extract R R) ?_
      refine VA.all [11] (by kernel_rfl) ⟨?_, trivial⟩
      refine VB.o R R R (VO.storeP (i := 0) R R R ld26 R R R ?_)
      refine VA.p 12 R R R (by kernel_rfl) (VP.assign R) <| VA.done (by kernel_rfl) ?_
      exact ⟨r5.1, b5, Option.some.inj hm, (Shift.pick [0, 0, 0] R ⟨R, R, R, R, R, R, R, R, R, R, R, trivial⟩)⟩
    ·refine VB.o R R R (VO.alloc z26 fun b6 => ?_)
     refine VA.all [3] (by kernel_rfl) ⟨?_, trivial⟩
     obtain ⟨r6, h23, hm⟩ := bnd hm
     refine VB.o R R R (VO.callK 0 R fn62 R (ref10_Others_ok bs p.Name r6 h23) fun _ _ h27 => ?_)
     obtain ⟨ob2, cap2, rfl, rfl⟩ := h27
     refine VA.shift (Shift.freezeE 0 [(40, .list 50 (List.map T_api_Bound.vv r6))] R ⟨⟨_, R, .here _ R⟩, trivial⟩ (FzH.refl _)) ?_
     refine VA.all [6] (by kernel_rfl) ⟨?_, trivial⟩
     obtain ⟨r7, h25, hm⟩ := bnd hm
     refine VB.o R R R (VO.callK 0 R fn120 R (ref09_Used_ok r6 x2.Name r7 h25) fun _ _ h26 => ?_)
     obtain ⟨rfl, rfl⟩ := h26
     refine VA.p 7 R R R (by kernel_rfl) (VP.move R) <| VA.p 8 R R R (by kernel_rfl) (VP.extract R R) <| VA.p 9 R R R (by kernel_rfl) (VP.extract R R) ?_
     refine VA.all [11] (by kernel_rfl) ⟨?_, trivial⟩
     refine VB.o R R R (VO.storeP (i := 0) R R R ld26 R R R ?_)
     refine VA.p 12 R R R (by kernel_rfl) (VP.assign R) <| VA.done (by kernel_rfl) ?_
     exact ⟨r7.1, b6, Option.some.inj hm, (Shift.pick [0, 0, 0] R ⟨R, R, R, R, R, R, R, R, R, R, R, trivial⟩)⟩
   ·rintro u2 b3 rfl
    have hm := h12
    refine VW.seq <| VW.region <| VR.p R R (VP.loadP (i := 0) R R ld26 R) <| VR.p R R (VP.fieldP R fa30_2) <| VR.p R R (VP.loadP (i := 1) R R ld26 R) ?_
    obtain ⟨r8, h28, hm⟩ := bnd hm
    refine VR.cons R R (VO.callK 0 R fn58 R (ref04_Share_ok u2 x2.Has r8 h28) fun _ _ h33 => ?_)
    obtain ⟨rfl, rfl⟩ := h33
    refine VR.p R R (VP.assign R) <| VR.nil <| VW.seq <| VW.region <| VR.p R R (VP.move R) <| VR.p R R (VP.strop R R R) <| VR.p R R (VP.move R) ?_
    refine VR.sc 4 56 (.bool ((V.seq best2 (⟨#[]⟩ : ByteArray)) || (decide (r2 < worst2)))) (fun K' J => ?_) ?_
    ·rcases Bool.eq_false_or_eq_true (V.seq best2 (⟨#[]⟩ : ByteArray)) with h29 | h29
     ·refine VR.skipG R R R R h29 <| VR.skipG R R R R h29 <| VR.skipG R R R R h29 <| VR.p R R (VP.pickB true R h29 R) ?_
      exact J [_, _, _] _ R (orT h29)
     ·refine VR.pG R R R R h29 (VP.move R) <| VR.pG R R R R h29 (VP.move R) <| VR.pG R R R R h29 (VP.arith R R R) <| VR.p R R (VP.pickB false R h29 R) ?_
      exact J [_, _, _] _ R (orF h29)
    ·refine VR.p R R (VP.move R) ?_
     refine VR.sc 9 66 (.bool (((V.seq best2 (⟨#[]⟩ : ByteArray)) || (decide (r2 < worst2))) || ((r2 == worst2) && (decide (r8 < share2))))) (fun K' J => ?_) ?_
     ·rcases Bool.eq_false_or_eq_true ((V.seq best2 (⟨#[]⟩ : ByteArray)) || (decide (r2 < worst2))) with h30 | h30
      ·refine VR.skipG R R R R h30 <| VR.skipG R R R R h30 <| VR.skipG R R R R h30 <| VR.skipG R R R R h30 <| VR.skipU R R R R <| VR.skipU R R R R <| VR.skipU R R R R <| VR.skipG R R R R h30 <| VR.p R R (VP.pickB true R h30 R) ?_
       exact J [_, _, _, _, _, _, _, _] _ R (orT h30)
      ·refine VR.pG R R R R h30 (VP.move R) <| VR.pG R R R R h30 (VP.move R) <| VR.pG R R R R h30 (VP.arith R R R) <| VR.pG R R R R h30 (VP.move R) ?_
       refine VR.sc 4 65 (.bool ((r2 == worst2) && (decide (r8 < share2)))) (fun K' J => ?_) ?_
       ·rcases Bool.eq_false_or_eq_true (r2 == worst2) with h31 | h31
        ·refine VR.pG R R R R h31 (VP.move R) <| VR.pG R R R R h31 (VP.move R) <| VR.pG R R R R h31 (VP.arith R R R) <| VR.pG R R R R h30 (VP.pickB true R h31 R) ?_
         exact J [_, _, _] _ R (andT h31)
        ·refine VR.skipG R R R R h31 <| VR.skipG R R R R h31 <| VR.skipG R R R R h31 <| VR.pG R R R R h30 (VP.pickB false R h31 R) ?_
         exact J [_, _, _] _ R (andF h31)
       ·refine VR.p R R (VP.pickB false R h30 R) ?_
        exact J [_, _, _, _, _] _ R (orF h30)
     ·refine VR.nil ?_
      rcases ite_or hm with ⟨h32, hm⟩ | ⟨h32, hm⟩
      ·refine VW.condT R h32 <| VW.seq <| VW.region <| VR.p R R (VP.fieldP R fa30_0) <| VR.p R R (VP.loadP (i := 1) R R ld9 R) <| VR.p R R (VP.assign R) <| VR.nil <| VW.seq <| VW.region <| VR.p R R (VP.move R) <| VR.p R R (VP.assign R) <| VR.nil <| VW.region <| VR.p R R (VP.move R) <| VR.p R R (VP.assign R) <| VR.nil <| VW.region <| VR.p R R (VP.move R) <| VR.p R R (VP.arith R R R) <| VR.p R R (VP.assign R) <| VR.nil ?_
       exact ⟨(x2.Name, r2, r8, (IntKind.i64.wrap (i2 + (1 : Int)))), (), hm, (Shift.pick [2] R ⟨R, R, R, R, R, R, R, R, trivial⟩)⟩
      ·have h32 := bf h32
       refine VW.condF R h32 <| VW.skip <| VW.region <| VR.p R R (VP.move R) <| VR.p R R (VP.arith R R R) <| VR.p R R (VP.assign R) <| VR.nil ?_
       exact ⟨(best2, worst2, share2, (IntKind.i64.wrap (i2 + (1 : Int)))), (), hm, (Shift.pick [2] R ⟨R, R, R, R, R, R, R, R, trivial⟩)⟩
  ·have h4 := bf h4
   refine VW.condF R h4 <| VW.exit ?_
   exact ⟨best2, (), Option.some.inj hm, (Shift.pick [] R ⟨R, trivial⟩)⟩
 ·rintro best32 _ rfl
  have hm := h3
  refine VW.seq <| VW.region <| VR.p R R (VP.move R) <| VR.p R R (VP.assign R) <| VR.nil ?_
  obtain rfl := Option.some.inj hm
  exact VW.ret ⟨.inl R, _, .cons (.tmp _ _ R) .nil, [], _, R, R, R⟩

/-! trireme/triremeref14.Best -/
def ref14_Best (ms : List T_api_Machine) (bs : List T_api_Bound) (p : T_api_Pod) : Option ByteArray :=
 (ref12_Where ms bs p).bind fun r =>
 (ref14_Among ms bs p r).bind fun r2 =>
 some r2
theorem ref14_Best_ok (ms : List T_api_Machine) (bs : List T_api_Bound) (p : T_api_Pod) (r : ByteArray) (hm : ref14_Best ms bs p = some r) :
  VC Tryz.prog 35 [.list 30 (List.map T_api_Machine.vv ms), .list 50 (List.map T_api_Bound.vv bs), T_api_Pod.vv p] [] (fun zx zH => zx = .str r ∧ zH = []) := by
 unfold ref14_Best at hm
 refine VC.run (c := _) (rs := [.tmp 6]) Tryz.func35 R R R <| VW.seq <| VW.region ?_
 refine VR.cons R R (VO.box R R fun b => ?_)
 refine VR.p R R (VP.assign R) <| VR.nil <| VW.seq <| VW.drawK 0 mixed <| VA.p 0 R R R (by kernel_rfl) (VP.move R) <| VA.p 1 R R R (by kernel_rfl) (VP.move R) <| VA.p 2 R R R (by kernel_rfl) (VP.loadP (i := 0) R R ld48 R) <| VA.p 3 R R R (by kernel_rfl) (VP.move R) <| VA.p 4 R R R (by kernel_rfl) (VP.move R) <| VA.p 5 R R R (by kernel_rfl) (VP.loadP (i := 0) R R ld48 R) ?_
 refine VA.all [6] (by kernel_rfl) ⟨?_, trivial⟩
 obtain ⟨r, h2, hm⟩ := bnd hm
 refine VB.o R R R (VO.callK 0 R fn36 R (ref12_Where_ok ms bs p r h2) fun _ _ h6 => ?_)
 obtain ⟨ob, cap, rfl, rfl⟩ := h6
 refine VA.shift (Shift.freezeE 0 [(13, .list 9 (List.map VV.str r))] R ⟨⟨_, R, .here _ R⟩, trivial⟩ (FzH.refl _)) ?_
 refine VA.all [7] (by kernel_rfl) ⟨?_, trivial⟩
 obtain ⟨r2, h4, hm⟩ := bnd hm
 refine VB.o R R R (VO.callK 0 R fn83 R (ref14_Among_ok ms bs p r r2 h4) fun _ _ h5 => ?_)
 obtain ⟨rfl, rfl⟩ := h5
 refine VA.p 8 R R R (by kernel_rfl) (VP.assign R) <| VA.done (by kernel_rfl) ?_
 obtain rfl := Option.some.inj hm
 exact VW.ret ⟨.inl R, _, .cons (.tmp _ _ R) .nil, [], _, R, R, R⟩

/-! trireme/triremelaw14.SchedBest -/
def law14_SchedBest (ms : List T_api_Machine) (bs : List T_api_Bound) (p : T_api_Pod) : Option Bool :=
 (law14_right ms bs).bind fun r =>
 (if (!r) = true then some true else (ref07_LightPod p).bind fun r2 =>
 some (!r2)).bind fun c =>
 (if c = true then some true else (ref07_RightPod p).bind fun r3 =>
 some (!r3)).bind fun c2 =>
 if c2 = true then
  (law14_known).bind fun r4 =>
  some r4
 else
  (sched_Best ms bs p).bind fun r5 =>
  (if (!(V.seq r5 (⟨#[]⟩ : ByteArray))) = true then (ref12_Why ms bs p r5).bind fun r6 =>
  some (r6 != (0 : Int)) else some false).bind fun c3 =>
  if c3 = true then
   some false
  else
   (ref14_Best ms bs p).bind fun r7 =>
   (if (V.seq r5 r7) = true then (if (!(V.seq r5 (⟨#[]⟩ : ByteArray))) = true then some true else (ref12_Where ms bs p).bind fun r8 =>
   some ((r8.length : Int) == (0 : Int))).bind fun c4 =>
   some c4 else some false).bind fun c5 =>
   (if c5 = true then (law14_known).bind fun r9 =>
   some r9 else some false).bind fun c6 =>
   some c6
theorem law14_SchedBest_ok (ms : List T_api_Machine) (bs : List T_api_Bound) (p : T_api_Pod) (r : Bool) (hm : law14_SchedBest ms bs p = some r) :
  VC Tryz.prog 6 [.list 30 (List.map T_api_Machine.vv ms), .list 50 (List.map T_api_Bound.vv bs), T_api_Pod.vv p] [] (fun zx zH => zx = .bool r ∧ zH = []) := by
 unfold law14_SchedBest at hm
 refine VC.run (c := _) (rs := [.tmp 6]) Tryz.func6 R R R <| VW.seq <| VW.region ?_
 refine VR.cons R R (VO.box R R fun b => ?_)
 refine VR.p R R (VP.assign R) <| VR.nil <| VW.seq <| VW.seq <| VW.region <| VR.p R R (VP.move R) <| VR.p R R (VP.move R) ?_
 obtain ⟨r, h2, hm⟩ := bnd hm
 refine VR.cons R R (VO.callK 0 R fn24 R (law14_right_ok ms bs r h2) fun _ _ h34 => ?_)
 obtain ⟨rfl, rfl⟩ := h34
 refine VR.p R R (VP.not R) <| VR.p R R (VP.move R) ?_
 obtain ⟨c, h6, hm⟩ := bnd hm
 refine VR.sc 4 16 (.bool c) (fun K' J => ?_) ?_
 ·have hm := h6
  rcases ite_or hm with ⟨h3, hm⟩ | ⟨h3, hm⟩
  ·refine VR.skipG R R R R h3 <| VR.skipG R R R R h3 <| VR.skipG R R R R h3 <| VR.p R R (VP.pickB true R h3 R) ?_
   exact J [_, _, _] _ R (congrArg VV.bool (Option.some.inj hm))
  ·have h3 := bf h3
   refine VR.pG R R R R h3 (VP.loadP (i := 0) R R ld48 R) ?_
   obtain ⟨r2, h4, hm⟩ := bnd hm
   refine VR.consG R R R R h3 (VO.callK 0 R fn31 R (ref07_LightPod_ok p r2 h4) fun _ _ h5 => ?_)
   obtain ⟨rfl, rfl⟩ := h5
   refine VR.pG R R R R h3 (VP.not R) <| VR.p R R (VP.pickB false R h3 R) ?_
   exact J [_, _, _] _ R (congrArg VV.bool (Option.some.inj hm))
 ·refine VR.p R R (VP.move R) ?_
  obtain ⟨c2, h10, hm⟩ := bnd hm
  refine VR.sc 4 21 (.bool c2) (fun K' J => ?_) ?_
  ·have hm := h10
   rcases ite_or hm with ⟨h7, hm⟩ | ⟨h7, hm⟩
   ·refine VR.skipG R R R R h7 <| VR.skipG R R R R h7 <| VR.skipG R R R R h7 <| VR.p R R (VP.pickB true R h7 R) ?_
    exact J [_, _, _] _ R (congrArg VV.bool (Option.some.inj hm))
   ·have h7 := bf h7
    refine VR.pG R R R R h7 (VP.loadP (i := 0) R R ld48 R) ?_
    obtain ⟨r3, h8, hm⟩ := bnd hm
    refine VR.consG R R R R h7 (VO.callK 0 R fn32 R (ref07_RightPod_ok p r3 h8) fun _ _ h9 => ?_)
    obtain ⟨rfl, rfl⟩ := h9
    refine VR.pG R R R R h7 (VP.not R) <| VR.p R R (VP.pickB false R h7 R) ?_
    exact J [_, _, _] _ R (congrArg VV.bool (Option.some.inj hm))
  ·refine VR.nil ?_
   rcases ite_or hm with ⟨h11, hm⟩ | ⟨h11, hm⟩
   ·refine VW.condT R h11 <| VW.seq <| VW.region ?_
    obtain ⟨r4, h12, hm⟩ := bnd hm
    refine VR.cons R R (VO.callK 0 R fn25 R (law14_known_ok r4 h12) fun _ _ h13 => ?_)
    obtain ⟨rfl, rfl⟩ := h13
    refine VR.p R R (VP.assign R) <| VR.nil ?_
    obtain rfl := Option.some.inj hm
    exact VW.ret ⟨.inl R, _, .cons (.tmp _ _ R) .nil, [], _, R, R, R⟩
   ·have h11 := bf h11
    refine VW.condF R h11 <| VW.skip <| VW.seq <| VW.region <| VR.p R R (VP.move R) <| VR.p R R (VP.move R) <| VR.p R R (VP.loadP (i := 0) R R ld48 R) ?_
    obtain ⟨r5, h14, hm⟩ := bnd hm
    refine VR.cons R R (VO.callK 0 R fn33 R (sched_Best_ok ms bs p r5 h14) fun _ _ h33 => ?_)
    obtain ⟨rfl, rfl⟩ := h33
    refine VR.p R R (VP.assign R) <| VR.nil <| VW.seq <| VW.seq <| VW.region <| VR.p R R (VP.move R) <| VR.p R R (VP.strop R R R) <| VR.p R R (VP.move R) ?_
    obtain ⟨c3, h18, hm⟩ := bnd hm
    refine VR.sc 7 36 (.bool c3) (fun K' J => ?_) ?_
    ·have hm := h18
     rcases ite_or hm with ⟨h15, hm⟩ | ⟨h15, hm⟩
     ·refine VR.pG R R R R h15 (VP.move R) <| VR.pG R R R R h15 (VP.move R) <| VR.pG R R R R h15 (VP.loadP (i := 0) R R ld48 R) <| VR.pG R R R R h15 (VP.move R) ?_
      obtain ⟨r6, h16, hm⟩ := bnd hm
      refine VR.consG R R R R h15 (VO.callK 0 R fn34 R (ref12_Why_ok ms bs p r5 r6 h16) fun _ _ h17 => ?_)
      obtain ⟨rfl, rfl⟩ := h17
      refine VR.pG R R R R h15 (VP.arith R R R) <| VR.p R R (VP.pickB true R h15 R) ?_
      exact J [_, _, _, _, _, _] _ R (congrArg VV.bool (Option.some.inj hm))
     ·have h15 := bf h15
      refine VR.skipG R R R R h15 <| VR.skipG R R R R h15 <| VR.skipG R R R R h15 <| VR.skipG R R R R h15 <| VR.skipG R R R R h15 <| VR.skipG R R R R h15 <| VR.p R R (VP.pickB false R h15 R) ?_
      exact J [_, _, _, _, _, _] _ R (congrArg VV.bool (Option.some.inj hm))
    ·refine VR.nil ?_
     rcases ite_or hm with ⟨h19, hm⟩ | ⟨h19, hm⟩
     ·refine VW.condT R h19 <| VW.seq <| VW.region <| VR.p R R (VP.assign R) <| VR.nil ?_
      obtain rfl := Option.some.inj hm
      exact VW.ret ⟨.inl R, _, .cons (.tmp _ _ R) .nil, [], _, R, R, R⟩
     ·have h19 := bf h19
      refine VW.condF R h19 <| VW.skip <| VW.seq <| VW.region <| VR.p R R (VP.move R) <| VR.p R R (VP.move R) <| VR.p R R (VP.move R) <| VR.p R R (VP.loadP (i := 0) R R ld48 R) ?_
      obtain ⟨r7, h20, hm⟩ := bnd hm
      refine VR.cons R R (VO.callK 0 R fn35 R (ref14_Best_ok ms bs p r7 h20) fun _ _ h32 => ?_)
      obtain ⟨rfl, rfl⟩ := h32
      refine VR.p R R (VP.strop R R R) <| VR.p R R (VP.move R) ?_
      obtain ⟨c5, h27, hm⟩ := bnd hm
      refine VR.sc 11 54 (.bool c5) (fun K' J => ?_) ?_
      ·have hm := h27
       rcases ite_or hm with ⟨h21, hm⟩ | ⟨h21, hm⟩
       ·refine VR.pG R R R R h21 (VP.move R) <| VR.pG R R R R h21 (VP.strop R R R) <| VR.pG R R R R h21 (VP.move R) ?_
        obtain ⟨c4, h26, hm⟩ := bnd hm
        refine VR.sc 7 53 (.bool c4) (fun K' J => ?_) ?_
        ·have hm := h26
         rcases ite_or hm with ⟨h22, hm⟩ | ⟨h22, hm⟩
         ·refine VR.skipG R R R R h22 <| VR.skipG R R R R h22 <| VR.skipG R R R R h22 <| VR.skipG R R R R h22 <| VR.skipG R R R R h22 <| VR.skipG R R R R h22 <| VR.pG R R R R h21 (VP.pickB true R h22 R) ?_
          exact J [_, _, _, _, _, _] _ R (congrArg VV.bool (Option.some.inj hm))
         ·have h22 := bf h22
          refine VR.pG R R R R h22 (VP.move R) <| VR.pG R R R R h22 (VP.move R) <| VR.pG R R R R h22 (VP.loadP (i := 0) R R ld48 R) ?_
          obtain ⟨r8, h23, hm⟩ := bnd hm
          refine VR.consG R R R R h22 (VO.callK 0 R fn36 R (ref12_Where_ok ms bs p r8 h23) fun _ _ h25 => ?_)
          obtain ⟨ob, cap, rfl, rfl⟩ := h25
          refine VR.shift (Shift.freezeE 0 [(50, .list 9 (List.map VV.str r8))] R ⟨⟨_, R, .here _ R⟩, trivial⟩ (FzH.refl _)) <| VR.pG R R R R h22 (VP.lenT VV.str R Tryz.underlying51) <| VR.pG R R R R h22 (VP.arith R R R) <| VR.pG R R R R h21 (VP.pickB false R h22 R) ?_
          exact J [_, _, _, _, _, _, _] _ R (congrArg VV.bool (Option.some.inj hm))
        ·refine VR.p R R (VP.pickB true R h21 R) ?_
         exact J [_, _, _, _] _ R (congrArg VV.bool (Option.some.inj hm))
       ·have h21 := bf h21
        refine VR.skipG R R R R h21 <| VR.skipG R R R R h21 <| VR.skipG R R R R h21 <| VR.skipU R R R R <| VR.skipU R R R R <| VR.skipU R R R R <| VR.skipU R R R R <| VR.skipU R R R R <| VR.skipU R R R R <| VR.skipG R R R R h21 <| VR.p R R (VP.pickB false R h21 R) ?_
        exact J [_, _, _, _, _, _, _, _, _, _] _ R (congrArg VV.bool (Option.some.inj hm))
      ·refine VR.p R R (VP.move R) ?_
       obtain ⟨c6, h31, hm⟩ := bnd hm
       refine VR.sc 2 57 (.bool c6) (fun K' J => ?_) ?_
       ·have hm := h31
        rcases ite_or hm with ⟨h28, hm⟩ | ⟨h28, hm⟩
        ·obtain ⟨r9, h29, hm⟩ := bnd hm
         refine VR.consG R R R R h28 (VO.callK 0 R fn25 R (law14_known_ok r9 h29) fun _ _ h30 => ?_)
         obtain ⟨rfl, rfl⟩ := h30
         refine VR.p R R (VP.pickB true R h28 R) ?_
         exact J [_] _ R (congrArg VV.bool (Option.some.inj hm))
        ·have h28 := bf h28
         refine VR.skipG R R R R h28 <| VR.p R R (VP.pickB false R h28 R) ?_
         exact J [_] _ R (congrArg VV.bool (Option.some.inj hm))
       ·refine VR.p R R (VP.assign R) <| VR.nil ?_
        obtain rfl := Option.some.inj hm
        exact VW.ret ⟨.inl R, _, .cons (.tmp _ _ R) .nil, [], _, R, R, R⟩

/-! trireme/triremeref12.Feasible -/
def ref12_Feasible.l1 (ms : List T_api_Machine) (bs : List T_api_Bound) : Nat → Int → Option (Out Bool Unit)
 | 0, _ => none
 | n + 1, i2 =>
  if (decide (i2 < (bs.length : Int))) = true then
   (V.gl bs i2).bind fun x =>
   (if (!(V.seq x.On (⟨#[]⟩ : ByteArray))) = true then (V.gl bs i2).bind fun x2 =>
   (V.gl bs i2).bind fun x3 =>
   (ref12_Why ms bs x2.Pod x3.On).bind fun r =>
   some (r != (0 : Int)) else some false).bind fun c =>
   if c = true then
    some (Out.ret false)
   else
    ref12_Feasible.l1 ms bs n (IntKind.i64.wrap (i2 + (1 : Int)))
  else
   some (Out.go ())
def ref12_Feasible (ms : List T_api_Machine) (bs : List T_api_Bound) : Option Bool :=
 (ref12_Feasible.l1 ms bs FU (0 : Int)).bind fun o =>
 o.on fun j =>
 some true
theorem ref12_Feasible_ok (ms : List T_api_Machine) (bs : List T_api_Bound) (r : Bool) (hm : ref12_Feasible ms bs = some r) :
  VC Tryz.prog 23 [.list 30 (List.map T_api_Machine.vv ms), .list 50 (List.map T_api_Bound.vv bs)] [] (fun zx zH => zx = .bool r ∧ zH = []) := by
 unfold ref12_Feasible at hm
 refine VC.run (c := _) (rs := [.tmp 4]) Tryz.func23 R R R <| VW.seq <| VW.region <| VR.p R R (VP.assign R) <| VR.nil <| VW.seq <| VW.seq <| VW.region <| VR.p R R (VP.assign R) <| VR.nil ?_
 obtain ⟨o, h1, h2⟩ := bnd hm
 refine VW.joinE (fun (q : Unit) => o = Out.go q) (fun (j : Unit) (gg : Unit) => []) (fun (j : Unit) (gg : Unit) => []) ?_ ?_
 ·have hm := h1
  refine VW.block (VW.loop FU ?_)
  refine VL.fuelS (R := _) (fun zn (zs : Int) => ref12_Feasible.l1 ms bs zn zs) (fun (zs : Int) (zg : Unit) => [(0, .list 30 (List.map T_api_Machine.vv ms)), (1, .list 50 (List.map T_api_Bound.vv bs)), (5, .int .i64 zs)]) (fun (zs : Int) (zg : Unit) => []) (0 : Int) () (fun zs => R) (Shift.pick [] R ⟨R, R, R, trivial⟩) h1 ?_
  rintro n i2 _ hm
  rw [ref12_Feasible.l1] at hm
  refine VW.seq <| VW.seq <| VW.region <| VR.p R R (VP.move R) <| VR.p R R (VP.move R) <| VR.p R R (VP.lenT T_api_Bound.vv R Tryz.underlying23) <| VR.p R R (VP.arith R R R) <| VR.nil ?_
  rcases ite_or hm with ⟨h3, hm⟩ | ⟨h3, hm⟩
  ·refine VW.condT R h3 <| VW.skip <| VW.seq <| VW.block <| VW.seq <| VW.drawK 0 mixed <| VA.p 0 R R R (by kernel_rfl) (VP.move R) <| VA.p 1 R R R (by kernel_rfl) (VP.move R) ?_
   obtain ⟨x, h4, hm⟩ := bnd hm
   refine VA.p 2 R R R (by kernel_rfl) (VP.glE T_api_Bound.vv R R el23 h4) <| VA.p 3 R R R (by kernel_rfl) (VP.fieldE R fa50_1) <| VA.p 4 R R R (by kernel_rfl) (VP.loadE R ld9 R) <| VA.p 5 R R R (by kernel_rfl) (VP.strop R R R) <| VA.p 6 R R R (by kernel_rfl) (VP.move R) ?_
   obtain ⟨c, h10, hm⟩ := bnd hm
   refine VA.sc [21, 20, 19, 18, 17, 16, 15, 14, 13, 12, 11, 10, 9, 8, 7, 6, 5, 4, 3, 2, 1, 0] 33 (.bool c) (fun K' J => ?_) ?_
   ·have hm := h10
    rcases ite_or hm with ⟨h5, hm⟩ | ⟨h5, hm⟩
    ·refine VA.pG 7 R R R R R h5 (by kernel_rfl) (VP.move R) <| VA.pG 8 R R R R R h5 (by kernel_rfl) (VP.move R) <| VA.pG 9 R R R R R h5 (by kernel_rfl) (VP.move R) <| VA.pG 10 R R R R R h5 (by kernel_rfl) (VP.move R) ?_
     obtain ⟨x2, h6, hm⟩ := bnd hm
     refine VA.pG 11 R R R R R h5 (by kernel_rfl) (VP.glE T_api_Bound.vv R R el23 h6) <| VA.pG 12 R R R R R h5 (by kernel_rfl) (VP.fieldE R fa50_0) <| VA.pG 13 R R R R R h5 (by kernel_rfl) (VP.loadE R ld48 R) <| VA.pG 14 R R R R R h5 (by kernel_rfl) (VP.move R) <| VA.pG 15 R R R R R h5 (by kernel_rfl) (VP.move R) ?_
     obtain ⟨x3, h7, hm⟩ := bnd hm
     refine VA.pG 16 R R R R R h5 (by kernel_rfl) (VP.glE T_api_Bound.vv R R el23 h7) <| VA.pG 17 R R R R R h5 (by kernel_rfl) (VP.fieldE R fa50_1) <| VA.pG 18 R R R R R h5 (by kernel_rfl) (VP.loadE R ld9 R) ?_
     refine VA.all [19] (by kernel_rfl) ⟨?_, trivial⟩
     obtain ⟨r, h8, hm⟩ := bnd hm
     refine VB.oG R R R R R h5 (VO.callK 0 R fn34 R (ref12_Why_ok ms bs x2.Pod x3.On r h8) fun _ _ h9 => ?_)
     obtain ⟨rfl, rfl⟩ := h9
     refine VA.pG 20 R R R R R h5 (by kernel_rfl) (VP.arith R R R) <| VA.p 21 R R R (by kernel_rfl) (VP.pickB true R h5 R) ?_
     exact J [_, _, _, _, _, _, _, _, _, _, _, _, _, _] _ R (congrArg VV.bool (Option.some.inj hm))
    ·have h5 := bf h5
     refine VA.skipG 7 R R R R R h5 (by kernel_rfl) <| VA.skipG 8 R R R R R h5 (by kernel_rfl) <| VA.skipG 9 R R R R R h5 (by kernel_rfl) <| VA.skipG 10 R R R R R h5 (by kernel_rfl) <| VA.skipG 11 R R R R R h5 (by kernel_rfl) <| VA.skipG 12 R R R R R h5 (by kernel_rfl) <| VA.skipG 13 R R R R R h5 (by kernel_rfl) <| VA.skipG 14 R R R R R h5 (by kernel_rfl) <| VA.skipG 15 R R R R R h5 (by kernel_rfl) <| VA.skipG 16 R R R R R h5 (by kernel_rfl) <| VA.skipG 17 R R R R R h5 (by kernel_rfl) <| VA.skipG 18 R R R R R h5 (by kernel_rfl) <| VA.skipG 19 R R R R R h5 (by kernel_rfl) <| VA.skipG 20 R R R R R h5 (by kernel_rfl) <| VA.p 21 R R R (by kernel_rfl) (VP.pickB false R h5 R) ?_
     exact J [_, _, _, _, _, _, _, _, _, _, _, _, _, _] _ R (congrArg VV.bool (Option.some.inj hm))
   ·refine VA.done (by kernel_rfl) ?_
    rcases ite_or hm with ⟨h11, hm⟩ | ⟨h11, hm⟩
    ·refine VW.condT R h11 <| VW.seq <| VW.region <| VR.p R R (VP.assign R) <| VR.nil ?_
     obtain rfl := Option.some.inj hm
     have hm := Out.ret_on h2
     obtain rfl := Option.some.inj hm
     exact VW.ret ⟨.inl R, _, .cons (.tmp _ _ R) .nil, [], _, R, R, R⟩
    ·have h11 := bf h11
     refine VW.condF R h11 <| VW.skip <| VW.region <| VR.p R R (VP.move R) <| VR.p R R (VP.arith R R R) <| VR.p R R (VP.assign R) <| VR.nil ?_
     exact ⟨(IntKind.i64.wrap (i2 + (1 : Int))), (), hm, (Shift.pick [] R ⟨R, R, R, trivial⟩)⟩
  ·have h3 := bf h3
   refine VW.condF R h3 <| VW.exit ?_
   exact ⟨(), (), (Option.some.inj hm).symm, (Shift.pick [] R trivial)⟩
 ·rintro j _ rfl
  have hm := Out.go_on h2
  refine VW.seq <| VW.region <| VR.p R R (VP.assign R) <| VR.nil ?_
  obtain rfl := Option.some.inj hm
  exact VW.ret ⟨.inl R, _, .cons (.tmp _ _ R) .nil, [], _, R, R, R⟩

/-! trireme/triremelaw14.SchedSafe -/
def law14_SchedSafe.l1 (bs : List T_api_Bound) (r3 : List T_api_Bound × List T_api_Move) : Nat → Bool → Int → Int → Option (Out Bool (Bool × Int))
 | 0, _, _, _ => none
 | n + 1, free2, count2, i2 =>
  if (decide (i2 < (bs.length : Int))) = true then
   (if free2 = true then (V.gl bs i2).bind fun x =>
   some ((x.Pod.Spread.length : Int) == (0 : Int)) else some false).bind fun c =>
   (V.gl r3.1 i2).bind fun x2 =>
   (V.gl bs i2).bind fun x3 =>
   (if (!(V.seq x2.Pod.Name x3.Pod.Name)) = true then some true else (V.gl bs i2).bind fun x4 =>
   (if (!(V.seq x4.On (⟨#[]⟩ : ByteArray))) = true then (V.gl r3.1 i2).bind fun x5 =>
   (V.gl bs i2).bind fun x6 =>
   some (!(V.seq x5.On x6.On)) else some false).bind fun c2 =>
   some c2).bind fun c3 =>
   if c3 = true then
    some (Out.ret false)
   else
    (V.gl r3.1 i2).bind fun x7 =>
    (V.gl bs i2).bind fun x8 =>
    if (!(V.seq x7.On x8.On)) = true then
     law14_SchedSafe.l1 bs r3 n c (IntKind.i64.wrap (count2 + (1 : Int))) (IntKind.i64.wrap (i2 + (1 : Int)))
    else
     law14_SchedSafe.l1 bs r3 n c count2 (IntKind.i64.wrap (i2 + (1 : Int)))
  else
   some (Out.go (free2, count2))
def law14_SchedSafe.l2 (ms : List T_api_Machine) (r3 : List T_api_Bound × List T_api_Move) : Nat → Int → Option (Out Bool Unit)
 | 0, _ => none
 | n2 + 1, i4 =>
  if (decide (i4 < (r3.1.length : Int))) = true then
   (V.gl r3.1 i4).bind fun x9 =>
   (if (V.seq x9.On (⟨#[]⟩ : ByteArray)) = true then (V.gl r3.1 i4).bind fun x10 =>
   (ref12_Where ms r3.1 x10.Pod).bind fun r8 =>
   some (decide ((r8.length : Int) > (0 : Int))) else some false).bind fun c6 =>
   if c6 = true then
    some (Out.ret false)
   else
    law14_SchedSafe.l2 ms r3 n2 (IntKind.i64.wrap (i4 + (1 : Int)))
  else
   some (Out.go ())
def law14_SchedSafe (ms : List T_api_Machine) (bs : List T_api_Bound) : Option Bool :=
 (law14_right ms bs).bind fun r =>
 if (!r) = true then
  (law14_known).bind fun r2 =>
  some r2
 else
  (sched_Step ms bs).bind fun r3 =>
  if ((r3.1.length : Int) != (bs.length : Int)) = true then
   some false
  else
   (law14_SchedSafe.l1 bs r3 FU true (0 : Int) (0 : Int)).bind fun o =>
   o.on fun j =>
   (if (j.2 != (r3.2.length : Int)) = true then some true else (ref09_Check ms r3.1).bind fun r4 =>
   some (r4 != (0 : Int))).bind fun c4 =>
   if c4 = true then
    some false
   else
    if (!j.1) = true then
     (law14_known).bind fun r5 =>
     some r5
    else
     (ref12_Feasible ms bs).bind fun r6 =>
     (if r6 = true then (ref12_Feasible ms r3.1).bind fun r7 =>
     some (!r7) else some false).bind fun c5 =>
     if c5 = true then
      some false
     else
      (law14_SchedSafe.l2 ms r3 FU (0 : Int)).bind fun o2 =>
      o2.on fun j2 =>
      (sched_Step ms r3.1).bind fun r9 =>
      (if ((r9.2.length : Int) == (0 : Int)) = true then (law14_known).bind fun r10 =>
      some r10 else some false).bind fun c7 =>
      some c7
theorem law14_SchedSafe_ok (ms : List T_api_Machine) (bs : List T_api_Bound) (r : Bool) (hm : law14_SchedSafe ms bs = some r) :
  VC Tryz.prog 7 [.list 30 (List.map T_api_Machine.vv ms), .list 50 (List.map T_api_Bound.vv bs)] [] (fun zx zH => zx = .bool r ∧ zH = []) := by
 unfold law14_SchedSafe at hm
 refine VC.run (c := _) (rs := [.tmp 4]) Tryz.func7 R R R <| VW.seq <| VW.region <| VR.p R R (VP.assign R) <| VR.nil <| VW.seq <| VW.seq <| VW.region <| VR.p R R (VP.move R) <| VR.p R R (VP.move R) ?_
 obtain ⟨r, h1, hm⟩ := bnd hm
 refine VR.cons R R (VO.callK 0 R fn24 R (law14_right_ok ms bs r h1) fun _ _ h65 => ?_)
 obtain ⟨rfl, rfl⟩ := h65
 refine VR.p R R (VP.not R) <| VR.nil ?_
 rcases ite_or hm with ⟨h2, hm⟩ | ⟨h2, hm⟩
 ·refine VW.condT R h2 <| VW.seq <| VW.region ?_
  obtain ⟨r2, h3, hm⟩ := bnd hm
  refine VR.cons R R (VO.callK 0 R fn25 R (law14_known_ok r2 h3) fun _ _ h4 => ?_)
  obtain ⟨rfl, rfl⟩ := h4
  refine VR.p R R (VP.assign R) <| VR.nil ?_
  obtain rfl := Option.some.inj hm
  exact VW.ret ⟨.inl R, _, .cons (.tmp _ _ R) .nil, [], _, R, R, R⟩
 ·have h2 := bf h2
  refine VW.condF R h2 <| VW.skip <| VW.seq <| VW.region <| VR.p R R (VP.move R) <| VR.p R R (VP.move R) ?_
  obtain ⟨r3, h5, hm⟩ := bnd hm
  refine VR.cons R R (VO.callK 0 R fn26 R (sched_Step_ok ms bs r3 h5) fun _ _ h64 => ?_)
  obtain ⟨ob, cap, ob2, cap2, rfl, rfl⟩ := h64
  refine VR.p R R (VP.move R) <| VR.p R R (VP.extract R R) <| VR.p R R (VP.extract R R) <| VR.p R R (VP.assign R) <| VR.p R R (VP.assign R) <| VR.nil <| VW.seq <| VW.seq <| VW.region <| VR.p R R (VP.move R) <| VR.p R R (VP.lenRT T_api_Bound.vv R Tryz.underlying23) <| VR.p R R (VP.move R) <| VR.p R R (VP.lenT T_api_Bound.vv R Tryz.underlying23) <| VR.p R R (VP.arith R R R) <| VR.nil ?_
  rcases ite_or hm with ⟨h8, hm⟩ | ⟨h8, hm⟩
  ·refine VW.condT R h8 <| VW.seq <| VW.region <| VR.p R R (VP.assign R) <| VR.nil ?_
   obtain rfl := Option.some.inj hm
   exact VW.ret ⟨.inl R, _, .cons (.tmp _ _ R) .nil, [], _, R, R, R⟩
  ·have h8 := bf h8
   refine VW.condF R h8 <| VW.skip <| VW.seq <| VW.region <| VR.p R R (VP.assign R) <| VR.nil <| VW.seq <| VW.region <| VR.p R R (VP.assign R) <| VR.nil <| VW.seq <| VW.seq <| VW.region <| VR.p R R (VP.assign R) <| VR.nil ?_
   obtain ⟨o, h9, h10⟩ := bnd hm
   refine VW.joinE (fun (q : Bool × Int) => o = Out.go q) (fun (j : Bool × Int) (gg : Option Nat) => [(0, .list 30 (List.map T_api_Machine.vv ms)), (1, .list 50 (List.map T_api_Bound.vv bs)), (5, .sl gg (List.map T_api_Bound.vv r3.1).length cap), (6, .sl ob2 (List.map T_api_Move.vv r3.2).length cap2), (7, .bool j.1), (8, .int .i64 j.2)]) (fun (j : Bool × Int) (gg : Option Nat) => [.row gg 50 cap (List.map T_api_Bound.vv r3.1), .row ob2 53 cap2 (List.map T_api_Move.vv r3.2)]) ?_ ?_
   ·have hm := h9
    refine VW.block (VW.loop FU ?_)
    refine VL.fuelS (R := _) (fun zn (zs : Bool × Int × Int) => law14_SchedSafe.l1 bs r3 zn zs.1 zs.2.1 zs.2.2) (fun (zs : Bool × Int × Int) (zg : Option Nat) => [(0, .list 30 (List.map T_api_Machine.vv ms)), (1, .list 50 (List.map T_api_Bound.vv bs)), (5, .sl zg (List.map T_api_Bound.vv r3.1).length cap), (6, .sl ob2 (List.map T_api_Move.vv r3.2).length cap2), (7, .bool zs.1), (8, .int .i64 zs.2.1), (9, .int .i64 zs.2.2)]) (fun (zs : Bool × Int × Int) (zg : Option Nat) => [.row zg 50 cap (List.map T_api_Bound.vv r3.1), .row ob2 53 cap2 (List.map T_api_Move.vv r3.2)]) (true, (0 : Int), (0 : Int)) ob (fun zs => R) (Shift.pick [0, 0] R ⟨R, R, R, R, R, R, R, trivial⟩) h9 ?_
    rintro n ⟨free2, count2, i2⟩ ob4 hm
    rw [law14_SchedSafe.l1] at hm
    refine VW.seq <| VW.seq <| VW.region <| VR.p R R (VP.move R) <| VR.p R R (VP.move R) <| VR.p R R (VP.lenT T_api_Bound.vv R Tryz.underlying23) <| VR.p R R (VP.arith R R R) <| VR.nil ?_
    rcases ite_or hm with ⟨h11, hm⟩ | ⟨h11, hm⟩
    ·refine VW.condT R h11 <| VW.skip <| VW.seq <| VW.block <| VW.seq <| VW.region <| VR.p R R (VP.move R) <| VR.p R R (VP.move R) ?_
     obtain ⟨c, h14, hm⟩ := bnd hm
     refine VR.sc 9 45 (.bool c) (fun K' J => ?_) ?_
     ·have hm := h14
      rcases ite_or hm with ⟨h12, hm⟩ | ⟨h12, hm⟩
      ·refine VR.pG R R R R h12 (VP.move R) <| VR.pG R R R R h12 (VP.move R) ?_
       obtain ⟨x, h13, hm⟩ := bnd hm
       refine VR.pG R R R R h12 (VP.glE T_api_Bound.vv R R el23 h13) <| VR.pG R R R R h12 (VP.fieldE R fa50_0) <| VR.pG R R R R h12 (VP.fieldE R fa48_9) <| VR.pG R R R R h12 (VP.loadE R ld27 R) <| VR.pG R R R R h12 (VP.lenT T_api_Label.vv R Tryz.underlying27) <| VR.pG R R R R h12 (VP.arith R R R) <| VR.p R R (VP.pickB true R h12 R) ?_
       exact J [_, _, _, _, _, _, _, _] _ R (congrArg VV.bool (Option.some.inj hm))
      ·have h12 := bf h12
       refine VR.skipG R R R R h12 <| VR.skipG R R R R h12 <| VR.skipG R R R R h12 <| VR.skipG R R R R h12 <| VR.skipG R R R R h12 <| VR.skipG R R R R h12 <| VR.skipG R R R R h12 <| VR.skipG R R R R h12 <| VR.p R R (VP.pickB false R h12 R) ?_
       exact J [_, _, _, _, _, _, _, _] _ R (congrArg VV.bool (Option.some.inj hm))
     ·refine VR.p R R (VP.assign R) <| VR.nil <| VW.seq <| VW.seq <| VW.drawK 0 mixed <| VA.p 0 R R R (by kernel_rfl) (VP.move R) <| VA.p 1 R R R (by kernel_rfl) (VP.move R) ?_
      obtain ⟨x2, h15, hm⟩ := bnd hm
      refine VA.someRow 0 R (gl_pos T_api_Bound.vv h15) fun b h16 => ?_
      subst h16
      refine VA.p 2 R R R (by kernel_rfl) (VP.glR T_api_Bound.vv R R el23 h15) <| VA.p 3 R R R (by kernel_rfl) (VP.fieldR R fa50_0) <| VA.p 4 R R R (by kernel_rfl) (VP.fieldR R fa48_0) <| VA.p 5 R R R (by kernel_rfl) (VP.loadR (i := 0) (y := T_api_Bound.vv x2) R R R (gl_map _ (gl_some h15).2) ld9 R) <| VA.p 6 R R R (by kernel_rfl) (VP.move R) <| VA.p 7 R R R (by kernel_rfl) (VP.move R) ?_
      obtain ⟨x3, h17, hm⟩ := bnd hm
      refine VA.p 8 R R R (by kernel_rfl) (VP.glE T_api_Bound.vv R R el23 h17) <| VA.p 9 R R R (by kernel_rfl) (VP.fieldE R fa50_0) <| VA.p 10 R R R (by kernel_rfl) (VP.fieldE R fa48_0) <| VA.p 11 R R R (by kernel_rfl) (VP.loadE R ld9 R) <| VA.p 12 R R R (by kernel_rfl) (VP.strop R R R) <| VA.p 13 R R R (by kernel_rfl) (VP.move R) ?_
      obtain ⟨c3, h24, hm⟩ := bnd hm
      refine VA.sc [33, 32, 31, 30, 29, 28, 27, 26, 25, 24, 23, 22, 21, 20, 19, 18, 17, 16, 15, 14, 13, 12, 11, 10, 9, 8, 7, 6, 5, 4, 3, 2, 1, 0] 79 (.bool c3) (fun K' J => ?_) ?_
      ·have hm := h24
       rcases ite_or hm with ⟨h18, hm⟩ | ⟨h18, hm⟩
       ·refine VA.skipG 14 R R R R R h18 (by kernel_rfl) <| VA.skipG 15 R R R R R h18 (by kernel_rfl) <| VA.skipG 16 R R R R R h18 (by kernel_rfl) <| VA.skipG 17 R R R R R h18 (by kernel_rfl) <| VA.skipG 18 R R R R R h18 (by kernel_rfl) <| VA.skipG 19 R R R R R h18 (by kernel_rfl) <| VA.skipG 20 R R R R R h18 (by kernel_rfl) <| VA.skipU 21 R R R R R (by kernel_rfl) <| VA.skipU 22 R R R R R (by kernel_rfl) <| VA.skipU 23 R R R R R (by kernel_rfl) <| VA.skipU 24 R R R R R (by kernel_rfl) <| VA.skipU 25 R R R R R (by kernel_rfl) <| VA.skipU 26 R R R R R (by kernel_rfl) <| VA.skipU 27 R R R R R (by kernel_rfl) <| VA.skipU 28 R R R R R (by kernel_rfl) <| VA.skipU 29 R R R R R (by kernel_rfl) <| VA.skipU 30 R R R R R (by kernel_rfl) <| VA.skipU 31 R R R R R (by kernel_rfl) <| VA.skipG 32 R R R R R h18 (by kernel_rfl) <| VA.p 33 R R R (by kernel_rfl) (VP.pickB true R h18 R) ?_
        exact J [_, _, _, _, _, _, _, _, _, _, _, _, _, _, _, _, _, _, _] _ R (congrArg VV.bool (Option.some.inj hm))
       ·have h18 := bf h18
        refine VA.pG 14 R R R R R h18 (by kernel_rfl) (VP.move R) <| VA.pG 15 R R R R R h18 (by kernel_rfl) (VP.move R) ?_
        obtain ⟨x4, h19, hm⟩ := bnd hm
        refine VA.pG 16 R R R R R h18 (by kernel_rfl) (VP.glE T_api_Bound.vv R R el23 h19) <| VA.pG 17 R R R R R h18 (by kernel_rfl) (VP.fieldE R fa50_1) <| VA.pG 18 R R R R R h18 (by kernel_rfl) (VP.loadE R ld9 R) <| VA.pG 19 R R R R R h18 (by kernel_rfl) (VP.strop R R R) <| VA.pG 20 R R R R R h18 (by kernel_rfl) (VP.move R) ?_
        obtain ⟨c2, h23, hm⟩ := bnd hm
        refine VA.sc [32, 31, 30, 29, 28, 27, 26, 25, 24, 23, 22, 21, 20, 19, 18, 17, 16, 15, 14, 13, 12, 11, 10, 9, 8, 7, 6, 5, 4, 3, 2, 1, 0] 78 (.bool c2) (fun K' J => ?_) ?_
        ·have hm := h23
         rcases ite_or hm with ⟨h20, hm⟩ | ⟨h20, hm⟩
         ·refine VA.pG 21 R R R R R h20 (by kernel_rfl) (VP.move R) <| VA.pG 22 R R R R R h20 (by kernel_rfl) (VP.move R) ?_
          obtain ⟨x5, h21, hm⟩ := bnd hm
          refine VA.pG 23 R R R R R h20 (by kernel_rfl) (VP.glR T_api_Bound.vv R R el23 h21) <| VA.pG 24 R R R R R h20 (by kernel_rfl) (VP.fieldR R fa50_1) <| VA.pG 25 R R R R R h20 (by kernel_rfl) (VP.loadR (i := 0) (y := T_api_Bound.vv x5) R R R (gl_map _ (gl_some h21).2) ld9 R) <| VA.pG 26 R R R R R h20 (by kernel_rfl) (VP.move R) <| VA.pG 27 R R R R R h20 (by kernel_rfl) (VP.move R) ?_
          obtain ⟨x6, h22, hm⟩ := bnd hm
          refine VA.pG 28 R R R R R h20 (by kernel_rfl) (VP.glE T_api_Bound.vv R R el23 h22) <| VA.pG 29 R R R R R h20 (by kernel_rfl) (VP.fieldE R fa50_1) <| VA.pG 30 R R R R R h20 (by kernel_rfl) (VP.loadE R ld9 R) <| VA.pG 31 R R R R R h20 (by kernel_rfl) (VP.strop R R R) <| VA.pG 32 R R R R R h18 (by kernel_rfl) (VP.pickB true R h20 R) ?_
          exact J [_, _, _, _, _, _, _, _, _, _, _] _ R (congrArg VV.bool (Option.some.inj hm))
         ·have h20 := bf h20
          refine VA.skipG 21 R R R R R h20 (by kernel_rfl) <| VA.skipG 22 R R R R R h20 (by kernel_rfl) <| VA.skipG 23 R R R R R h20 (by kernel_rfl) <| VA.skipG 24 R R R R R h20 (by kernel_rfl) <| VA.skipG 25 R R R R R h20 (by kernel_rfl) <| VA.skipG 26 R R R R R h20 (by kernel_rfl) <| VA.skipG 27 R R R R R h20 (by kernel_rfl) <| VA.skipG 28 R R R R R h20 (by kernel_rfl) <| VA.skipG 29 R R R R R h20 (by kernel_rfl) <| VA.skipG 30 R R R R R h20 (by kernel_rfl) <| VA.skipG 31 R R R R R h20 (by kernel_rfl) <| VA.pG 32 R R R R R h18 (by kernel_rfl) (VP.pickB false R h20 R) ?_
          exact J [_, _, _, _, _, _, _, _, _, _, _] _ R (congrArg VV.bool (Option.some.inj hm))
        ·refine VA.p 33 R R R (by kernel_rfl) (VP.pickB false R h18 R) ?_
         exact J [_, _, _, _, _, _, _, _] _ R (congrArg VV.bool (Option.some.inj hm))
      ·refine VA.done (by kernel_rfl) ?_
       rcases ite_or hm with ⟨h25, hm⟩ | ⟨h25, hm⟩
       ·refine VW.condT R h25 <| VW.seq <| VW.region <| VR.p R R (VP.assign R) <| VR.nil ?_
        obtain rfl := Option.some.inj hm
        have hm := Out.ret_on h10
        obtain rfl := Option.some.inj hm
        exact VW.ret ⟨.inl R, _, .cons (.tmp _ _ R) .nil, [], _, R, R, R⟩
       ·have h25 := bf h25
        refine VW.condF R h25 <| VW.skip <| VW.seq <| VW.drawK 0 mixed <| VA.p 0 R R R (by kernel_rfl) (VP.move R) <| VA.p 1 R R R (by kernel_rfl) (VP.move R) ?_
        obtain ⟨x7, h26, hm⟩ := bnd hm
        refine VA.p 2 R R R (by kernel_rfl) (VP.glR T_api_Bound.vv R R el23 h26) <| VA.p 3 R R R (by kernel_rfl) (VP.fieldR R fa50_1) <| VA.p 4 R R R (by kernel_rfl) (VP.loadR (i := 0) (y := T_api_Bound.vv x7) R R R (gl_map _ (gl_some h26).2) ld9 R) <| VA.p 5 R R R (by kernel_rfl) (VP.move R) <| VA.p 6 R R R (by kernel_rfl) (VP.move R) ?_
        obtain ⟨x8, h27, hm⟩ := bnd hm
        refine VA.p 7 R R R (by kernel_rfl) (VP.glE T_api_Bound.vv R R el23 h27) <| VA.p 8 R R R (by kernel_rfl) (VP.fieldE R fa50_1) <| VA.p 9 R R R (by kernel_rfl) (VP.loadE R ld9 R) <| VA.p 10 R R R (by kernel_rfl) (VP.strop R R R) <| VA.done (by kernel_rfl) ?_
        rcases ite_or hm with ⟨h28, hm⟩ | ⟨h28, hm⟩
        ·refine VW.condT R h28 <| VW.region <| VR.p R R (VP.move R) <| VR.p R R (VP.arith R R R) <| VR.p R R (VP.assign R) <| VR.nil <| VW.region <| VR.p R R (VP.move R) <| VR.p R R (VP.arith R R R) <| VR.p R R (VP.assign R) <| VR.nil ?_
         exact ⟨(c, (IntKind.i64.wrap (count2 + (1 : Int))), (IntKind.i64.wrap (i2 + (1 : Int)))), (some b), hm, (Shift.pick [0, 0] R ⟨R, R, R, R, R, R, R, trivial⟩)⟩
        ·have h28 := bf h28
         refine VW.condF R h28 <| VW.skip <| VW.region <| VR.p R R (VP.move R) <| VR.p R R (VP.arith R R R) <| VR.p R R (VP.assign R) <| VR.nil ?_
         exact ⟨(c, count2, (IntKind.i64.wrap (i2 + (1 : Int)))), (some b), hm, (Shift.pick [0, 0] R ⟨R, R, R, R, R, R, R, trivial⟩)⟩
    ·have h11 := bf h11
     refine VW.condF R h11 <| VW.exit ?_
     exact ⟨(free2, count2), ob4, (Option.some.inj hm).symm, (Shift.pick [0, 0] R ⟨R, R, R, R, R, R, trivial⟩)⟩
   ·rintro j ob5 rfl
    have hm := Out.go_on h10
    refine VW.seq <| VW.seq <| VW.shift (Shift.freezeE 0 [(5, .list 50 (List.map T_api_Bound.vv r3.1))] R ⟨⟨_, R, .here _ R⟩, trivial⟩ (FzH.refl _)) <| VW.region <| VR.p R R (VP.move R) <| VR.p R R (VP.move R) <| VR.p R R (VP.lenRT T_api_Move.vv R Tryz.underlying35) <| VR.p R R (VP.arith R R R) <| VR.p R R (VP.move R) ?_
    obtain ⟨c4, h33, hm⟩ := bnd hm
    refine VR.sc 5 102 (.bool c4) (fun K' J => ?_) ?_
    ·have hm := h33
     rcases ite_or hm with ⟨h30, hm⟩ | ⟨h30, hm⟩
     ·refine VR.skipG R R R R h30 <| VR.skipG R R R R h30 <| VR.skipG R R R R h30 <| VR.skipG R R R R h30 <| VR.p R R (VP.pickB true R h30 R) ?_
      exact J [_, _, _, _] _ R (congrArg VV.bool (Option.some.inj hm))
     ·have h30 := bf h30
      refine VR.pG R R R R h30 (VP.move R) <| VR.pG R R R R h30 (VP.move R) ?_
      obtain ⟨r4, h31, hm⟩ := bnd hm
      refine VR.consG R R R R h30 (VO.callK 0 R fn37 R (ref09_Check_ok ms r3.1 r4 h31) fun _ _ h32 => ?_)
      obtain ⟨rfl, rfl⟩ := h32
      refine VR.pG R R R R h30 (VP.arith R R R) <| VR.p R R (VP.pickB false R h30 R) ?_
      exact J [_, _, _, _] _ R (congrArg VV.bool (Option.some.inj hm))
    ·refine VR.nil ?_
     rcases ite_or hm with ⟨h34, hm⟩ | ⟨h34, hm⟩
     ·refine VW.condT R h34 <| VW.seq <| VW.region <| VR.p R R (VP.assign R) <| VR.nil ?_
      obtain rfl := Option.some.inj hm
      exact VW.ret ⟨.inl R, _, .cons (.tmp _ _ R) .nil, [], _, R, R, R⟩
     ·have h34 := bf h34
      refine VW.condF R h34 <| VW.skip <| VW.seq <| VW.seq <| VW.region <| VR.p R R (VP.move R) <| VR.p R R (VP.not R) <| VR.nil ?_
      rcases ite_or hm with ⟨h35, hm⟩ | ⟨h35, hm⟩
      ·refine VW.condT R h35 <| VW.seq <| VW.region ?_
       obtain ⟨r5, h36, hm⟩ := bnd hm
       refine VR.cons R R (VO.callK 0 R fn25 R (law14_known_ok r5 h36) fun _ _ h37 => ?_)
       obtain ⟨rfl, rfl⟩ := h37
       refine VR.p R R (VP.assign R) <| VR.nil ?_
       obtain rfl := Option.some.inj hm
       exact VW.ret ⟨.inl R, _, .cons (.tmp _ _ R) .nil, [], _, R, R, R⟩
      ·have h35 := bf h35
       refine VW.condF R h35 <| VW.skip <| VW.seq <| VW.seq <| VW.region <| VR.p R R (VP.move R) <| VR.p R R (VP.move R) ?_
       obtain ⟨r6, h38, hm⟩ := bnd hm
       refine VR.cons R R (VO.callK 0 R fn23 R (ref12_Feasible_ok ms bs r6 h38) fun _ _ h63 => ?_)
       obtain ⟨rfl, rfl⟩ := h63
       refine VR.p R R (VP.move R) ?_
       obtain ⟨c5, h42, hm⟩ := bnd hm
       refine VR.sc 5 114 (.bool c5) (fun K' J => ?_) ?_
       ·have hm := h42
        rcases ite_or hm with ⟨h39, hm⟩ | ⟨h39, hm⟩
        ·refine VR.pG R R R R h39 (VP.move R) <| VR.pG R R R R h39 (VP.move R) ?_
         obtain ⟨r7, h40, hm⟩ := bnd hm
         refine VR.consG R R R R h39 (VO.callK 0 R fn23 R (ref12_Feasible_ok ms r3.1 r7 h40) fun _ _ h41 => ?_)
         obtain ⟨rfl, rfl⟩ := h41
         refine VR.pG R R R R h39 (VP.not R) <| VR.p R R (VP.pickB true R h39 R) ?_
         exact J [_, _, _, _] _ R (congrArg VV.bool (Option.some.inj hm))
        ·have h39 := bf h39
         refine VR.skipG R R R R h39 <| VR.skipG R R R R h39 <| VR.skipG R R R R h39 <| VR.skipG R R R R h39 <| VR.p R R (VP.pickB false R h39 R) ?_
         exact J [_, _, _, _] _ R (congrArg VV.bool (Option.some.inj hm))
       ·refine VR.nil ?_
        rcases ite_or hm with ⟨h43, hm⟩ | ⟨h43, hm⟩
        ·refine VW.condT R h43 <| VW.seq <| VW.region <| VR.p R R (VP.assign R) <| VR.nil ?_
         obtain rfl := Option.some.inj hm
         exact VW.ret ⟨.inl R, _, .cons (.tmp _ _ R) .nil, [], _, R, R, R⟩
        ·have h43 := bf h43
         refine VW.condF R h43 <| VW.skip <| VW.seq <| VW.seq <| VW.region <| VR.p R R (VP.assign R) <| VR.nil ?_
         obtain ⟨o2, h44, h45⟩ := bnd hm
         refine VW.joinE (fun (q : Unit) => o2 = Out.go q) (fun (j2 : Unit) (gg : Unit) => [(0, .list 30 (List.map T_api_Machine.vv ms)), (5, .list 50 (List.map T_api_Bound.vv r3.1))]) (fun (j2 : Unit) (gg : Unit) => []) ?_ ?_
         ·have hm := h44
          refine VW.block (VW.loop FU ?_)
          refine VL.fuelS (R := _) (fun zn (zs : Int) => law14_SchedSafe.l2 ms r3 zn zs) (fun (zs : Int) (zg : Unit) => [(0, .list 30 (List.map T_api_Machine.vv ms)), (5, .list 50 (List.map T_api_Bound.vv r3.1)), (10, .int .i64 zs)]) (fun (zs : Int) (zg : Unit) => []) (0 : Int) () (fun zs => R) (Shift.pick [] R ⟨R, R, R, trivial⟩) h44 ?_
          rintro n2 i4 _ hm
          rw [law14_SchedSafe.l2] at hm
          refine VW.seq <| VW.seq <| VW.region <| VR.p R R (VP.move R) <| VR.p R R (VP.move R) <| VR.p R R (VP.lenT T_api_Bound.vv R Tryz.underlying23) <| VR.p R R (VP.arith R R R) <| VR.nil ?_
          rcases ite_or hm with ⟨h46, hm⟩ | ⟨h46, hm⟩
          ·refine VW.condT R h46 <| VW.skip <| VW.seq <| VW.block <| VW.seq <| VW.region <| VR.p R R (VP.move R) <| VR.p R R (VP.move R) ?_
           obtain ⟨x9, h47, hm⟩ := bnd hm
           refine VR.p R R (VP.glE T_api_Bound.vv R R el23 h47) <| VR.p R R (VP.fieldE R fa50_1) <| VR.p R R (VP.loadE R ld9 R) <| VR.p R R (VP.strop R R R) <| VR.p R R (VP.move R) ?_
           obtain ⟨c6, h53, hm⟩ := bnd hm
           refine VR.sc 11 138 (.bool c6) (fun K' J => ?_) ?_
           ·have hm := h53
            rcases ite_or hm with ⟨h48, hm⟩ | ⟨h48, hm⟩
            ·refine VR.pG R R R R h48 (VP.move R) <| VR.pG R R R R h48 (VP.move R) <| VR.pG R R R R h48 (VP.move R) <| VR.pG R R R R h48 (VP.move R) ?_
             obtain ⟨x10, h49, hm⟩ := bnd hm
             refine VR.pG R R R R h48 (VP.glE T_api_Bound.vv R R el23 h49) <| VR.pG R R R R h48 (VP.fieldE R fa50_0) <| VR.pG R R R R h48 (VP.loadE R ld48 R) ?_
             obtain ⟨r8, h50, hm⟩ := bnd hm
             refine VR.consG R R R R h48 (VO.callK 0 R fn36 R (ref12_Where_ok ms r3.1 x10.Pod r8 h50) fun _ _ h52 => ?_)
             obtain ⟨ob6, cap3, rfl, rfl⟩ := h52
             refine VR.shift (Shift.freezeE 0 [(135, .list 9 (List.map VV.str r8))] R ⟨⟨_, R, .here _ R⟩, trivial⟩ (FzH.refl _)) <| VR.pG R R R R h48 (VP.lenT VV.str R Tryz.underlying51) <| VR.pG R R R R h48 (VP.arith R R R) <| VR.p R R (VP.pickB true R h48 R) ?_
             exact J [_, _, _, _, _, _, _, _, _, _, _] _ R (congrArg VV.bool (Option.some.inj hm))
            ·have h48 := bf h48
             refine VR.skipG R R R R h48 <| VR.skipG R R R R h48 <| VR.skipG R R R R h48 <| VR.skipG R R R R h48 <| VR.skipG R R R R h48 <| VR.skipG R R R R h48 <| VR.skipG R R R R h48 <| VR.skipG R R R R h48 <| VR.skipG R R R R h48 <| VR.skipG R R R R h48 <| VR.p R R (VP.pickB false R h48 R) ?_
             exact J [_, _, _, _, _, _, _, _, _, _] _ R (congrArg VV.bool (Option.some.inj hm))
           ·refine VR.nil ?_
            rcases ite_or hm with ⟨h54, hm⟩ | ⟨h54, hm⟩
            ·refine VW.condT R h54 <| VW.seq <| VW.region <| VR.p R R (VP.assign R) <| VR.nil ?_
             obtain rfl := Option.some.inj hm
             have hm := Out.ret_on h45
             obtain rfl := Option.some.inj hm
             exact VW.ret ⟨.inl R, _, .cons (.tmp _ _ R) .nil, [], _, R, R, R⟩
            ·have h54 := bf h54
             refine VW.condF R h54 <| VW.skip <| VW.region <| VR.p R R (VP.move R) <| VR.p R R (VP.arith R R R) <| VR.p R R (VP.assign R) <| VR.nil ?_
             exact ⟨(IntKind.i64.wrap (i4 + (1 : Int))), (), hm, (Shift.pick [] R ⟨R, R, R, trivial⟩)⟩
          ·have h46 := bf h46
           refine VW.condF R h46 <| VW.exit ?_
           exact ⟨(), (), (Option.some.inj hm).symm, (Shift.pick [] R ⟨R, R, trivial⟩)⟩
         ·rintro j2 _ rfl
          have hm := Out.go_on h45
          refine VW.seq <| VW.region <| VR.p R R (VP.move R) <| VR.p R R (VP.move R) ?_
          obtain ⟨r9, h55, hm⟩ := bnd hm
          refine VR.cons R R (VO.callK 0 R fn26 R (sched_Step_ok ms r3.1 r9 h55) fun _ _ h62 => ?_)
          obtain ⟨ob7, cap4, ob8, cap5, rfl, rfl⟩ := h62
          refine VR.p R R (VP.move R) <| VR.p R R (VP.extract R R) <| VR.p R R (VP.extract R R) <| VR.p R R (VP.assign R) <| VR.p R R (VP.assign R) <| VR.nil <| VW.seq <| VW.region <| VR.p R R (VP.move R) <| VR.p R R (VP.lenRT T_api_Move.vv R Tryz.underlying35) <| VR.p R R (VP.arith R R R) <| VR.p R R (VP.move R) ?_
          obtain ⟨c7, h61, hm⟩ := bnd hm
          refine VR.sc 2 150 (.bool c7) (fun K' J => ?_) ?_
          ·have hm := h61
           rcases ite_or hm with ⟨h58, hm⟩ | ⟨h58, hm⟩
           ·obtain ⟨r10, h59, hm⟩ := bnd hm
            refine VR.consG R R R R h58 (VO.callK 0 R fn25 R (law14_known_ok r10 h59) fun _ _ h60 => ?_)
            obtain ⟨rfl, rfl⟩ := h60
            refine VR.p R R (VP.pickB true R h58 R) ?_
            exact J [_] _ R (congrArg VV.bool (Option.some.inj hm))
           ·have h58 := bf h58
            refine VR.skipG R R R R h58 <| VR.p R R (VP.pickB false R h58 R) ?_
            exact J [_] _ R (congrArg VV.bool (Option.some.inj hm))
          ·refine VR.p R R (VP.assign R) <| VR.nil ?_
           obtain rfl := Option.some.inj hm
           exact VW.ret ⟨.inl R, _, .cons (.tmp _ _ R) .nil, [], _, R, R, R⟩

end Go.Proofs.YtbkdglcedgiogaaGreat.M

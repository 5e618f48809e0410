/-
  Printed by a program of this session out of the loaded functions: models and their proofs. Own text.
-/
import Derived.Test.YtbkdglcedgiogaaRCF0
namespace Go.Proofs.Ytbkdglcedgiogaa.M
open Go Go.Proofs Go.Proofs.Ytbkdglcedgiogaa.V
set_option linter.unusedVariables false
set_option maxRecDepth 20000
set_option maxHeartbeats 4000000
/-! trireme/triremeref07.RightPod -/
def ref07_RightPod.l1 (p : T_api_Pod) : Nat → Int → Option (Out Bool Unit)
 | 0, _ => none
 | n + 1, i2 =>
  if (decide (i2 < (p.Terms.length : Int))) = true then
   (V.gl p.Terms i2).bind fun x =>
   (ref05_RightTerm x).bind fun r5 =>
   if (!r5) = true then
    some (Out.ret false)
   else
    ref07_RightPod.l1 p n (IntKind.i64.wrap (i2 + (1 : Int)))
  else
   some (Out.go ())
def ref07_RightPod.l2 (p : T_api_Pod) : Nat → Int → Option (Out Bool Unit)
 | 0, _ => none
 | n2 + 1, i4 =>
  if (decide (i4 < (p.Ports.length : Int))) = true then
   (V.gl p.Ports i4).bind fun x2 =>
   (ref07_in x2 (1 : Int) (65535 : Int)).bind fun r6 =>
   (if (!r6) = true then some true else (if (decide (i4 > (0 : Int))) = true then (V.gl p.Ports i4).bind fun x3 =>
   (V.gl p.Ports (IntKind.i64.wrap (i4 - (1 : Int)))).bind fun x4 =>
   some (decide (x3 ≤ x4)) else some false).bind fun c4 =>
   some c4).bind fun c5 =>
   if c5 = true then
    some (Out.ret false)
   else
    ref07_RightPod.l2 p n2 (IntKind.i64.wrap (i4 + (1 : Int)))
  else
   some (Out.go ())
def ref07_RightPod (p : T_api_Pod) : Option Bool :=
 (ref01_Word p.Name).bind fun r =>
 (if (!r) = true then some true else (ref04_Right p.Need).bind fun r2 =>
 some (!r2)).bind fun c =>
 (if (c || (p.Need.Pods != (1 : Int))) = true then some true else (ref07_maybe p.Owner).bind fun r3 =>
 some (!r3)).bind fun c2 =>
 (if c2 = true then some true else (ref07_in p.Rank (0 : Int) (1000 : Int)).bind fun r4 =>
 some (!r4)).bind fun c3 =>
 if ((c3 || (decide ((p.Terms.length : Int) > (16 : Int)))) || (decide ((p.Ports.length : Int) > (16 : Int)))) = true then
  some false
 else
  (ref07_RightPod.l1 p FU (0 : Int)).bind fun o =>
  o.on fun j =>
  (ref07_RightPod.l2 p FU (0 : Int)).bind fun o2 =>
  o2.on fun j2 =>
  (if ((p.Wide && ((p.Apart.length : Int) == (0 : Int))) || (((p.Spread.length : Int) == (0 : Int)) && (p.Skew != (0 : Int)))) = true then some true else (if (decide ((p.Spread.length : Int) > (0 : Int))) = true then (ref07_in p.Skew (1 : Int) (100 : Int)).bind fun r7 =>
  some (!r7) else some false).bind fun c6 =>
  some c6).bind fun c7 =>
  if c7 = true then
   some false
  else
   (ref05_Right p.Labels).bind fun r8 =>
   (if r8 = true then (ref05_Right p.Select).bind fun r9 =>
   some r9 else some false).bind fun c8 =>
   (if c8 = true then (ref05_Right p.Apart).bind fun r10 =>
   some r10 else some false).bind fun c9 =>
   (if c9 = true then (ref05_Right p.Spread).bind fun r11 =>
   some r11 else some false).bind fun c10 =>
   (if c10 = true then (ref06_RightBears p.Bears).bind fun r12 =>
   some r12 else some false).bind fun c11 =>
   some c11
theorem ref07_RightPod_ok (p : T_api_Pod) (r : Bool) (hm : ref07_RightPod p = some r) :
  VC Try.prog 37 [T_api_Pod.vv p] [] (fun zx zH => zx = .bool r ∧ zH = []) := by
 unfold ref07_RightPod at hm
 refine VC.run (c := _) (rs := [.tmp 2]) Try.func37 R R R <| VW.seq <| VW.region ?_
 refine VR.cons R R (VO.box R R fun b => ?_)
 refine VR.p R R (VP.assign R) <| VR.nil <| VW.seq <| VW.seq <| VW.region <| VR.p R R (VP.fieldP R fa39_0) <| VR.p R R (VP.loadP (i := 0) R R ld9 R) ?_
 obtain ⟨r, h2, hm⟩ := bnd hm
 refine VR.cons R R (VO.callK 0 R fn47 R (ref01_Word_ok p.Name r h2) fun _ _ h67 => ?_)
 obtain ⟨rfl, rfl⟩ := h67
 refine VR.p R R (VP.not R) <| VR.p R R (VP.move R) ?_
 obtain ⟨c, h6, hm⟩ := bnd hm
 refine VR.sc 5 14 (.bool c) (fun K' J => ?_) ?_
 ·have hm := h6
  rcases ite_or hm with ⟨h3, hm⟩ | ⟨h3, hm⟩
  ·refine VR.skipG R R R R h3 <| VR.skipG R R R R h3 <| VR.skipG R R R R h3 <| VR.skipG R R R R h3 <| VR.p R R (VP.pickB true R h3 R) ?_
   exact J [_, _, _, _] _ R (congrArg VV.bool (Option.some.inj hm))
  ·have h3 := bf h3
   refine VR.pG R R R R h3 (VP.fieldP R fa39_1) <| VR.pG R R R R h3 (VP.loadP (i := 0) R R ld26 R) ?_
   obtain ⟨r2, h4, hm⟩ := bnd hm
   refine VR.consG R R R R h3 (VO.callK 0 R fn34 R (ref04_Right_ok p.Need r2 h4) fun _ _ h5 => ?_)
   obtain ⟨rfl, rfl⟩ := h5
   refine VR.pG R R R R h3 (VP.not R) <| VR.p R R (VP.pickB false R h3 R) ?_
   exact J [_, _, _, _] _ R (congrArg VV.bool (Option.some.inj hm))
 ·refine VR.p R R (VP.move R) ?_
  refine VR.sc 5 20 (.bool (c || (p.Need.Pods != (1 : Int)))) (fun K' J => ?_) ?_
  ·rcases Bool.eq_false_or_eq_true c with h7 | h7
   ·refine VR.skipG R R R R h7 <| VR.skipG R R R R h7 <| VR.skipG R R R R h7 <| VR.skipG R R R R h7 <| VR.p R R (VP.pickB true R h7 R) ?_
    exact J [_, _, _, _] _ R (orT h7)
   ·refine VR.pG R R R R h7 (VP.fieldP R fa39_1) <| VR.pG R R R R h7 (VP.fieldP R fa26_3) <| VR.pG R R R R h7 (VP.loadP (i := 0) R R ld3 R) <| VR.pG R R R R h7 (VP.arith R R R) <| VR.p R R (VP.pickB false R h7 R) ?_
    exact J [_, _, _, _] _ R (orF h7)
  ·refine VR.p R R (VP.move R) ?_
   obtain ⟨c2, h11, hm⟩ := bnd hm
   refine VR.sc 5 26 (.bool c2) (fun K' J => ?_) ?_
   ·have hm := h11
    rcases ite_or hm with ⟨h8, hm⟩ | ⟨h8, hm⟩
    ·refine VR.skipG R R R R h8 <| VR.skipG R R R R h8 <| VR.skipG R R R R h8 <| VR.skipG R R R R h8 <| VR.p R R (VP.pickB true R h8 R) ?_
     exact J [_, _, _, _] _ R (congrArg VV.bool (Option.some.inj hm))
    ·have h8 := bf h8
     refine VR.pG R R R R h8 (VP.fieldP R fa39_12) <| VR.pG R R R R h8 (VP.loadP (i := 0) R R ld9 R) ?_
     obtain ⟨r3, h9, hm⟩ := bnd hm
     refine VR.consG R R R R h8 (VO.callK 0 R fn33 R (ref07_maybe_ok p.Owner r3 h9) fun _ _ h10 => ?_)
     obtain ⟨rfl, rfl⟩ := h10
     refine VR.pG R R R R h8 (VP.not R) <| VR.p R R (VP.pickB false R h8 R) ?_
     exact J [_, _, _, _] _ R (congrArg VV.bool (Option.some.inj hm))
   ·refine VR.p R R (VP.move R) ?_
    obtain ⟨c3, h15, hm⟩ := bnd hm
    refine VR.sc 5 32 (.bool c3) (fun K' J => ?_) ?_
    ·have hm := h15
     rcases ite_or hm with ⟨h12, hm⟩ | ⟨h12, hm⟩
     ·refine VR.skipG R R R R h12 <| VR.skipG R R R R h12 <| VR.skipG R R R R h12 <| VR.skipG R R R R h12 <| VR.p R R (VP.pickB true R h12 R) ?_
      exact J [_, _, _, _] _ R (congrArg VV.bool (Option.some.inj hm))
     ·have h12 := bf h12
      refine VR.pG R R R R h12 (VP.fieldP R fa39_11) <| VR.pG R R R R h12 (VP.loadP (i := 0) R R ld3 R) ?_
      obtain ⟨r4, h13, hm⟩ := bnd hm
      refine VR.consG R R R R h12 (VO.callK 0 R fn53 R (ref07_in_ok p.Rank (0 : Int) (1000 : Int) r4 h13) fun _ _ h14 => ?_)
      obtain ⟨rfl, rfl⟩ := h14
      refine VR.pG R R R R h12 (VP.not R) <| VR.p R R (VP.pickB false R h12 R) ?_
      exact J [_, _, _, _] _ R (congrArg VV.bool (Option.some.inj hm))
    ·refine VR.p R R (VP.move R) ?_
     refine VR.sc 5 38 (.bool (c3 || (decide ((p.Terms.length : Int) > (16 : Int))))) (fun K' J => ?_) ?_
     ·rcases Bool.eq_false_or_eq_true c3 with h16 | h16
      ·refine VR.skipG R R R R h16 <| VR.skipG R R R R h16 <| VR.skipG R R R R h16 <| VR.skipG R R R R h16 <| VR.p R R (VP.pickB true R h16 R) ?_
       exact J [_, _, _, _] _ R (orT h16)
      ·refine VR.pG R R R R h16 (VP.fieldP R fa39_4) <| VR.pG R R R R h16 (VP.loadP (i := 0) R R ld35 R) <| VR.pG R R R R h16 (VP.lenT T_api_Term.vv R Try.underlying35) <| VR.pG R R R R h16 (VP.arith R R R) <| VR.p R R (VP.pickB false R h16 R) ?_
       exact J [_, _, _, _] _ R (orF h16)
     ·refine VR.p R R (VP.move R) ?_
      refine VR.sc 5 44 (.bool ((c3 || (decide ((p.Terms.length : Int) > (16 : Int)))) || (decide ((p.Ports.length : Int) > (16 : Int))))) (fun K' J => ?_) ?_
      ·rcases Bool.eq_false_or_eq_true (c3 || (decide ((p.Terms.length : Int) > (16 : Int)))) with h17 | h17
       ·refine VR.skipG R R R R h17 <| VR.skipG R R R R h17 <| VR.skipG R R R R h17 <| VR.skipG R R R R h17 <| VR.p R R (VP.pickB true R h17 R) ?_
        exact J [_, _, _, _] _ R (orT h17)
       ·refine VR.pG R R R R h17 (VP.fieldP R fa39_6) <| VR.pG R R R R h17 (VP.loadP (i := 0) R R ld37 R) <| VR.pG R R R R h17 (VP.lenT (VV.int .i64) R Try.underlying37) <| VR.pG R R R R h17 (VP.arith R R R) <| VR.p R R (VP.pickB false R h17 R) ?_
        exact J [_, _, _, _] _ R (orF h17)
      ·refine VR.nil ?_
       rcases ite_or hm with ⟨h18, hm⟩ | ⟨h18, hm⟩
       ·refine VW.condT R h18 <| VW.seq <| VW.region <| VR.p R R (VP.assign R) <| VR.nil ?_
        obtain rfl := Option.some.inj hm
        exact VW.ret ⟨.inl R, _, .cons (.tmp _ _ R) .nil, [], _, R, R, R⟩
       ·have h18 := bf h18
        refine VW.condF R h18 <| VW.skip <| VW.seq <| VW.seq <| VW.region <| VR.p R R (VP.assign R) <| VR.nil ?_
        obtain ⟨o, h19, h20⟩ := bnd hm
        refine VW.joinE (fun (q : Unit) => o = Out.go q) (fun (j : Unit) (gg : Unit) => [(1, .ptr b 0)]) (fun (j : Unit) (gg : Unit) => [.box b 39 (T_api_Pod.cells p)]) ?_ ?_
        ·have hm := h19
         refine VW.block (VW.loop FU ?_)
         refine VL.fuelS (R := _) (fun zn (zs : Int) => ref07_RightPod.l1 p zn zs) (fun (zs : Int) (zg : Unit) => [(1, .ptr b 0), (3, .int .i64 zs)]) (fun (zs : Int) (zg : Unit) => [.box b 39 (T_api_Pod.cells p)]) (0 : Int) () (fun zs => R) (Shift.pick [0] R ⟨R, R, trivial⟩) h19 ?_
         rintro n i2 _ hm
         rw [ref07_RightPod.l1] at hm
         refine VW.seq <| VW.seq <| VW.region <| VR.p R R (VP.move R) <| VR.p R R (VP.fieldP R fa39_4) <| VR.p R R (VP.loadP (i := 0) R R ld35 R) <| VR.p R R (VP.lenT T_api_Term.vv R Try.underlying35) <| VR.p R R (VP.arith R R R) <| VR.nil ?_
         rcases ite_or hm with ⟨h21, hm⟩ | ⟨h21, hm⟩
         ·refine VW.condT R h21 <| VW.skip <| VW.seq <| VW.block <| VW.seq <| VW.region <| VR.p R R (VP.fieldP R fa39_4) <| VR.p R R (VP.loadP (i := 0) R R ld35 R) <| VR.p R R (VP.move R) ?_
          obtain ⟨x, h22, hm⟩ := bnd hm
          refine VR.p R R (VP.glE T_api_Term.vv R R el35 h22) <| VR.p R R (VP.loadE R ld90 R) ?_
          obtain ⟨r5, h23, hm⟩ := bnd hm
          refine VR.cons R R (VO.callK 0 R fn54 R (ref05_RightTerm_ok x r5 h23) fun _ _ h25 => ?_)
          obtain ⟨rfl, rfl⟩ := h25
          refine VR.p R R (VP.not R) <| VR.nil ?_
          rcases ite_or hm with ⟨h24, hm⟩ | ⟨h24, hm⟩
          ·refine VW.condT R h24 <| VW.seq <| VW.region <| VR.p R R (VP.assign R) <| VR.nil ?_
           obtain rfl := Option.some.inj hm
           have hm := Out.ret_on h20
           obtain rfl := Option.some.inj hm
           exact VW.ret ⟨.inl R, _, .cons (.tmp _ _ R) .nil, [], _, R, R, R⟩
          ·have h24 := bf h24
           refine VW.condF R h24 <| VW.skip <| VW.region <| VR.p R R (VP.move R) <| VR.p R R (VP.arith R R R) <| VR.p R R (VP.assign R) <| VR.nil ?_
           exact ⟨(IntKind.i64.wrap (i2 + (1 : Int))), (), hm, (Shift.pick [0] R ⟨R, R, trivial⟩)⟩
         ·have h21 := bf h21
          refine VW.condF R h21 <| VW.exit ?_
          exact ⟨(), (), (Option.some.inj hm).symm, (Shift.pick [0] R ⟨R, trivial⟩)⟩
        ·rintro j _ rfl
         have hm := Out.go_on h20
         refine VW.seq <| VW.seq <| VW.region <| VR.p R R (VP.assign R) <| VR.nil ?_
         obtain ⟨o2, h26, h27⟩ := bnd hm
         refine VW.joinE (fun (q : Unit) => o2 = Out.go q) (fun (j2 : Unit) (gg : Unit) => [(1, .ptr b 0)]) (fun (j2 : Unit) (gg : Unit) => [.box b 39 (T_api_Pod.cells p)]) ?_ ?_
         ·have hm := h26
          refine VW.block (VW.loop FU ?_)
          refine VL.fuelS (R := _) (fun zn (zs : Int) => ref07_RightPod.l2 p zn zs) (fun (zs : Int) (zg : Unit) => [(1, .ptr b 0), (4, .int .i64 zs)]) (fun (zs : Int) (zg : Unit) => [.box b 39 (T_api_Pod.cells p)]) (0 : Int) () (fun zs => R) (Shift.pick [0] R ⟨R, R, trivial⟩) h26 ?_
          rintro n2 i4 _ hm
          rw [ref07_RightPod.l2] at hm
          refine VW.seq <| VW.seq <| VW.region <| VR.p R R (VP.move R) <| VR.p R R (VP.fieldP R fa39_6) <| VR.p R R (VP.loadP (i := 0) R R ld37 R) <| VR.p R R (VP.lenT (VV.int .i64) R Try.underlying37) <| VR.p R R (VP.arith R R R) <| VR.nil ?_
          rcases ite_or hm with ⟨h28, hm⟩ | ⟨h28, hm⟩
          ·refine VW.condT R h28 <| VW.skip <| VW.seq <| VW.block <| VW.seq <| VW.drawK 0 mixed <| VA.p 0 R R R (by kernel_rfl) (VP.fieldP R fa39_6) <| VA.p 1 R R R (by kernel_rfl) (VP.loadP (i := 0) R R ld37 R) <| VA.p 2 R R R (by kernel_rfl) (VP.move R) ?_
           obtain ⟨x2, h29, hm⟩ := bnd hm
           refine VA.p 3 R R R (by kernel_rfl) (VP.glE (VV.int .i64) R R el37 h29) <| VA.p 4 R R R (by kernel_rfl) (VP.loadE R ld3 R) ?_
           refine VA.all [5] (by kernel_rfl) ⟨?_, trivial⟩
           obtain ⟨r6, h30, hm⟩ := bnd hm
           refine VB.o R R R (VO.callK 0 R fn53 R (ref07_in_ok x2 (1 : Int) (65535 : Int) r6 h30) fun _ _ h38 => ?_)
           obtain ⟨rfl, rfl⟩ := h38
           refine VA.p 6 R R R (by kernel_rfl) (VP.not R) <| VA.p 7 R R R (by kernel_rfl) (VP.move R) ?_
           obtain ⟨c5, h36, hm⟩ := bnd hm
           refine VA.sc [24, 23, 22, 21, 20, 19, 18, 17, 16, 15, 14, 13, 12, 11, 10, 9, 8, 7, 6, 5, 4, 3, 2, 1, 0] 90 (.bool c5) (fun K' J => ?_) ?_
           ·have hm := h36
            rcases ite_or hm with ⟨h31, hm⟩ | ⟨h31, hm⟩
            ·refine VA.skipG 8 R R R R R h31 (by kernel_rfl) <| VA.skipG 9 R R R R R h31 (by kernel_rfl) <| VA.skipG 10 R R R R R h31 (by kernel_rfl) <| VA.skipU 11 R R R R R (by kernel_rfl) <| VA.skipU 12 R R R R R (by kernel_rfl) <| VA.skipU 13 R R R R R (by kernel_rfl) <| VA.skipU 14 R R R R R (by kernel_rfl) <| VA.skipU 15 R R R R R (by kernel_rfl) <| VA.skipU 16 R R R R R (by kernel_rfl) <| VA.skipU 17 R R R R R (by kernel_rfl) <| VA.skipU 18 R R R R R (by kernel_rfl) <| VA.skipU 19 R R R R R (by kernel_rfl) <| VA.skipU 20 R R R R R (by kernel_rfl) <| VA.skipU 21 R R R R R (by kernel_rfl) <| VA.skipU 22 R R R R R (by kernel_rfl) <| VA.skipG 23 R R R R R h31 (by kernel_rfl) <| VA.p 24 R R R (by kernel_rfl) (VP.pickB true R h31 R) ?_
             exact J [_, _, _, _, _, _, _, _, _, _, _, _, _, _, _, _] _ R (congrArg VV.bool (Option.some.inj hm))
            ·have h31 := bf h31
             refine VA.pG 8 R R R R R h31 (by kernel_rfl) (VP.move R) <| VA.pG 9 R R R R R h31 (by kernel_rfl) (VP.arith R R R) <| VA.pG 10 R R R R R h31 (by kernel_rfl) (VP.move R) ?_
             obtain ⟨c4, h35, hm⟩ := bnd hm
             refine VA.sc [23, 22, 21, 20, 19, 18, 17, 16, 15, 14, 13, 12, 11, 10, 9, 8, 7, 6, 5, 4, 3, 2, 1, 0] 89 (.bool c4) (fun K' J => ?_) ?_
             ·have hm := h35
              rcases ite_or hm with ⟨h32, hm⟩ | ⟨h32, hm⟩
              ·refine VA.pG 11 R R R R R h32 (by kernel_rfl) (VP.fieldP R fa39_6) <| VA.pG 12 R R R R R h32 (by kernel_rfl) (VP.loadP (i := 0) R R ld37 R) <| VA.pG 13 R R R R R h32 (by kernel_rfl) (VP.move R) ?_
               obtain ⟨x3, h33, hm⟩ := bnd hm
               refine VA.pG 14 R R R R R h32 (by kernel_rfl) (VP.glE (VV.int .i64) R R el37 h33) <| VA.pG 15 R R R R R h32 (by kernel_rfl) (VP.loadE R ld3 R) <| VA.pG 16 R R R R R h32 (by kernel_rfl) (VP.fieldP R fa39_6) <| VA.pG 17 R R R R R h32 (by kernel_rfl) (VP.loadP (i := 0) R R ld37 R) <| VA.pG 18 R R R R R h32 (by kernel_rfl) (VP.move R) <| VA.pG 19 R R R R R h32 (by kernel_rfl) (VP.arith R R R) ?_
               obtain ⟨x4, h34, hm⟩ := bnd hm
               refine VA.pG 20 R R R R R h32 (by kernel_rfl) (VP.glE (VV.int .i64) R R el37 h34) <| VA.pG 21 R R R R R h32 (by kernel_rfl) (VP.loadE R ld3 R) <| VA.pG 22 R R R R R h32 (by kernel_rfl) (VP.arith R R R) <| VA.pG 23 R R R R R h31 (by kernel_rfl) (VP.pickB true R h32 R) ?_
               exact J [_, _, _, _, _, _, _, _, _, _, _, _] _ R (congrArg VV.bool (Option.some.inj hm))
              ·have h32 := bf h32
               refine VA.skipG 11 R R R R R h32 (by kernel_rfl) <| VA.skipG 12 R R R R R h32 (by kernel_rfl) <| VA.skipG 13 R R R R R h32 (by kernel_rfl) <| VA.skipG 14 R R R R R h32 (by kernel_rfl) <| VA.skipG 15 R R R R R h32 (by kernel_rfl) <| VA.skipG 16 R R R R R h32 (by kernel_rfl) <| VA.skipG 17 R R R R R h32 (by kernel_rfl) <| VA.skipG 18 R R R R R h32 (by kernel_rfl) <| VA.skipG 19 R R R R R h32 (by kernel_rfl) <| VA.skipG 20 R R R R R h32 (by kernel_rfl) <| VA.skipG 21 R R R R R h32 (by kernel_rfl) <| VA.skipG 22 R R R R R h32 (by kernel_rfl) <| VA.pG 23 R R R R R h31 (by kernel_rfl) (VP.pickB false R h32 R) ?_
               exact J [_, _, _, _, _, _, _, _, _, _, _, _] _ R (congrArg VV.bool (Option.some.inj hm))
             ·refine VA.p 24 R R R (by kernel_rfl) (VP.pickB false R h31 R) ?_
              exact J [_, _, _, _] _ R (congrArg VV.bool (Option.some.inj hm))
           ·refine VA.done (by kernel_rfl) ?_
            rcases ite_or hm with ⟨h37, hm⟩ | ⟨h37, hm⟩
            ·refine VW.condT R h37 <| VW.seq <| VW.region <| VR.p R R (VP.assign R) <| VR.nil ?_
             obtain rfl := Option.some.inj hm
             have hm := Out.ret_on h27
             obtain rfl := Option.some.inj hm
             exact VW.ret ⟨.inl R, _, .cons (.tmp _ _ R) .nil, [], _, R, R, R⟩
            ·have h37 := bf h37
             refine VW.condF R h37 <| VW.skip <| VW.region <| VR.p R R (VP.move R) <| VR.p R R (VP.arith R R R) <| VR.p R R (VP.assign R) <| VR.nil ?_
             exact ⟨(IntKind.i64.wrap (i4 + (1 : Int))), (), hm, (Shift.pick [0] R ⟨R, R, trivial⟩)⟩
          ·have h28 := bf h28
           refine VW.condF R h28 <| VW.exit ?_
           exact ⟨(), (), (Option.some.inj hm).symm, (Shift.pick [0] R ⟨R, trivial⟩)⟩
         ·rintro j2 _ rfl
          have hm := Out.go_on h27
          refine VW.seq <| VW.seq <| VW.region <| VR.p R R (VP.fieldP R fa39_8) <| VR.p R R (VP.loadP (i := 0) R R ld4 R) <| VR.p R R (VP.move R) ?_
          refine VR.sc 5 98 (.bool (p.Wide && ((p.Apart.length : Int) == (0 : Int)))) (fun K' J => ?_) ?_
          ·rcases Bool.eq_false_or_eq_true p.Wide with h39 | h39
           ·refine VR.pG R R R R h39 (VP.fieldP R fa39_7) <| VR.pG R R R R h39 (VP.loadP (i := 0) R R ld27 R) <| VR.pG R R R R h39 (VP.lenT T_api_Label.vv R Try.underlying27) <| VR.pG R R R R h39 (VP.arith R R R) <| VR.p R R (VP.pickB true R h39 R) ?_
            exact J [_, _, _, _] _ R (andT h39)
           ·refine VR.skipG R R R R h39 <| VR.skipG R R R R h39 <| VR.skipG R R R R h39 <| VR.skipG R R R R h39 <| VR.p R R (VP.pickB false R h39 R) ?_
            exact J [_, _, _, _] _ R (andF h39)
          ·refine VR.p R R (VP.move R) ?_
           refine VR.sc 10 109 (.bool ((p.Wide && ((p.Apart.length : Int) == (0 : Int))) || (((p.Spread.length : Int) == (0 : Int)) && (p.Skew != (0 : Int))))) (fun K' J => ?_) ?_
           ·rcases Bool.eq_false_or_eq_true (p.Wide && ((p.Apart.length : Int) == (0 : Int))) with h40 | h40
            ·refine VR.skipG R R R R h40 <| VR.skipG R R R R h40 <| VR.skipG R R R R h40 <| VR.skipG R R R R h40 <| VR.skipG R R R R h40 <| VR.skipU R R R R <| VR.skipU R R R R <| VR.skipU R R R R <| VR.skipG R R R R h40 <| VR.p R R (VP.pickB true R h40 R) ?_
             exact J [_, _, _, _, _, _, _, _, _] _ R (orT h40)
            ·refine VR.pG R R R R h40 (VP.fieldP R fa39_9) <| VR.pG R R R R h40 (VP.loadP (i := 0) R R ld27 R) <| VR.pG R R R R h40 (VP.lenT T_api_Label.vv R Try.underlying27) <| VR.pG R R R R h40 (VP.arith R R R) <| VR.pG R R R R h40 (VP.move R) ?_
             refine VR.sc 4 108 (.bool (((p.Spread.length : Int) == (0 : Int)) && (p.Skew != (0 : Int)))) (fun K' J => ?_) ?_
             ·rcases Bool.eq_false_or_eq_true ((p.Spread.length : Int) == (0 : Int)) with h41 | h41
              ·refine VR.pG R R R R h41 (VP.fieldP R fa39_10) <| VR.pG R R R R h41 (VP.loadP (i := 0) R R ld3 R) <| VR.pG R R R R h41 (VP.arith R R R) <| VR.pG R R R R h40 (VP.pickB true R h41 R) ?_
               exact J [_, _, _] _ R (andT h41)
              ·refine VR.skipG R R R R h41 <| VR.skipG R R R R h41 <| VR.skipG R R R R h41 <| VR.pG R R R R h40 (VP.pickB false R h41 R) ?_
               exact J [_, _, _] _ R (andF h41)
             ·refine VR.p R R (VP.pickB false R h40 R) ?_
              exact J [_, _, _, _, _, _] _ R (orF h40)
           ·refine VR.p R R (VP.move R) ?_
            obtain ⟨c7, h47, hm⟩ := bnd hm
            refine VR.sc 11 121 (.bool c7) (fun K' J => ?_) ?_
            ·have hm := h47
             rcases ite_or hm with ⟨h42, hm⟩ | ⟨h42, hm⟩
             ·refine VR.skipG R R R R h42 <| VR.skipG R R R R h42 <| VR.skipG R R R R h42 <| VR.skipG R R R R h42 <| VR.skipG R R R R h42 <| VR.skipU R R R R <| VR.skipU R R R R <| VR.skipU R R R R <| VR.skipU R R R R <| VR.skipG R R R R h42 <| VR.p R R (VP.pickB true R h42 R) ?_
              exact J [_, _, _, _, _, _, _, _, _, _] _ R (congrArg VV.bool (Option.some.inj hm))
             ·have h42 := bf h42
              refine VR.pG R R R R h42 (VP.fieldP R fa39_9) <| VR.pG R R R R h42 (VP.loadP (i := 0) R R ld27 R) <| VR.pG R R R R h42 (VP.lenT T_api_Label.vv R Try.underlying27) <| VR.pG R R R R h42 (VP.arith R R R) <| VR.pG R R R R h42 (VP.move R) ?_
              obtain ⟨c6, h46, hm⟩ := bnd hm
              refine VR.sc 5 120 (.bool c6) (fun K' J => ?_) ?_
              ·have hm := h46
               rcases ite_or hm with ⟨h43, hm⟩ | ⟨h43, hm⟩
               ·refine VR.pG R R R R h43 (VP.fieldP R fa39_10) <| VR.pG R R R R h43 (VP.loadP (i := 0) R R ld3 R) ?_
                obtain ⟨r7, h44, hm⟩ := bnd hm
                refine VR.consG R R R R h43 (VO.callK 0 R fn53 R (ref07_in_ok p.Skew (1 : Int) (100 : Int) r7 h44) fun _ _ h45 => ?_)
                obtain ⟨rfl, rfl⟩ := h45
                refine VR.pG R R R R h43 (VP.not R) <| VR.pG R R R R h42 (VP.pickB true R h43 R) ?_
                exact J [_, _, _, _] _ R (congrArg VV.bool (Option.some.inj hm))
               ·have h43 := bf h43
                refine VR.skipG R R R R h43 <| VR.skipG R R R R h43 <| VR.skipG R R R R h43 <| VR.skipG R R R R h43 <| VR.pG R R R R h42 (VP.pickB false R h43 R) ?_
                exact J [_, _, _, _] _ R (congrArg VV.bool (Option.some.inj hm))
              ·refine VR.p R R (VP.pickB false R h42 R) ?_
               exact J [_, _, _, _, _, _] _ R (congrArg VV.bool (Option.some.inj hm))
            ·refine VR.nil ?_
             rcases ite_or hm with ⟨h48, hm⟩ | ⟨h48, hm⟩
             ·refine VW.condT R h48 <| VW.seq <| VW.region <| VR.p R R (VP.assign R) <| VR.nil ?_
              obtain rfl := Option.some.inj hm
              exact VW.ret ⟨.inl R, _, .cons (.tmp _ _ R) .nil, [], _, R, R, R⟩
             ·have h48 := bf h48
              refine VW.condF R h48 <| VW.skip <| VW.seq <| VW.region <| VR.p R R (VP.fieldP R fa39_2) <| VR.p R R (VP.loadP (i := 0) R R ld27 R) ?_
              obtain ⟨r8, h49, hm⟩ := bnd hm
              refine VR.cons R R (VO.callK 0 R fn35 R (ref05_Right_ok p.Labels r8 h49) fun _ _ h66 => ?_)
              obtain ⟨rfl, rfl⟩ := h66
              refine VR.p R R (VP.move R) ?_
              obtain ⟨c8, h53, hm⟩ := bnd hm
              refine VR.sc 4 129 (.bool c8) (fun K' J => ?_) ?_
              ·have hm := h53
               rcases ite_or hm with ⟨h50, hm⟩ | ⟨h50, hm⟩
               ·refine VR.pG R R R R h50 (VP.fieldP R fa39_3) <| VR.pG R R R R h50 (VP.loadP (i := 0) R R ld27 R) ?_
                obtain ⟨r9, h51, hm⟩ := bnd hm
                refine VR.consG R R R R h50 (VO.callK 0 R fn35 R (ref05_Right_ok p.Select r9 h51) fun _ _ h52 => ?_)
                obtain ⟨rfl, rfl⟩ := h52
                refine VR.p R R (VP.pickB true R h50 R) ?_
                exact J [_, _, _] _ R (congrArg VV.bool (Option.some.inj hm))
               ·have h50 := bf h50
                refine VR.skipG R R R R h50 <| VR.skipG R R R R h50 <| VR.skipG R R R R h50 <| VR.p R R (VP.pickB false R h50 R) ?_
                exact J [_, _, _] _ R (congrArg VV.bool (Option.some.inj hm))
              ·refine VR.p R R (VP.move R) ?_
               obtain ⟨c9, h57, hm⟩ := bnd hm
               refine VR.sc 4 134 (.bool c9) (fun K' J => ?_) ?_
               ·have hm := h57
                rcases ite_or hm with ⟨h54, hm⟩ | ⟨h54, hm⟩
                ·refine VR.pG R R R R h54 (VP.fieldP R fa39_7) <| VR.pG R R R R h54 (VP.loadP (i := 0) R R ld27 R) ?_
                 obtain ⟨r10, h55, hm⟩ := bnd hm
                 refine VR.consG R R R R h54 (VO.callK 0 R fn35 R (ref05_Right_ok p.Apart r10 h55) fun _ _ h56 => ?_)
                 obtain ⟨rfl, rfl⟩ := h56
                 refine VR.p R R (VP.pickB true R h54 R) ?_
                 exact J [_, _, _] _ R (congrArg VV.bool (Option.some.inj hm))
                ·have h54 := bf h54
                 refine VR.skipG R R R R h54 <| VR.skipG R R R R h54 <| VR.skipG R R R R h54 <| VR.p R R (VP.pickB false R h54 R) ?_
                 exact J [_, _, _] _ R (congrArg VV.bool (Option.some.inj hm))
               ·refine VR.p R R (VP.move R) ?_
                obtain ⟨c10, h61, hm⟩ := bnd hm
                refine VR.sc 4 139 (.bool c10) (fun K' J => ?_) ?_
                ·have hm := h61
                 rcases ite_or hm with ⟨h58, hm⟩ | ⟨h58, hm⟩
                 ·refine VR.pG R R R R h58 (VP.fieldP R fa39_9) <| VR.pG R R R R h58 (VP.loadP (i := 0) R R ld27 R) ?_
                  obtain ⟨r11, h59, hm⟩ := bnd hm
                  refine VR.consG R R R R h58 (VO.callK 0 R fn35 R (ref05_Right_ok p.Spread r11 h59) fun _ _ h60 => ?_)
                  obtain ⟨rfl, rfl⟩ := h60
                  refine VR.p R R (VP.pickB true R h58 R) ?_
                  exact J [_, _, _] _ R (congrArg VV.bool (Option.some.inj hm))
                 ·have h58 := bf h58
                  refine VR.skipG R R R R h58 <| VR.skipG R R R R h58 <| VR.skipG R R R R h58 <| VR.p R R (VP.pickB false R h58 R) ?_
                  exact J [_, _, _] _ R (congrArg VV.bool (Option.some.inj hm))
                ·refine VR.p R R (VP.move R) ?_
                 obtain ⟨c11, h65, hm⟩ := bnd hm
                 refine VR.sc 4 144 (.bool c11) (fun K' J => ?_) ?_
                 ·have hm := h65
                  rcases ite_or hm with ⟨h62, hm⟩ | ⟨h62, hm⟩
                  ·refine VR.pG R R R R h62 (VP.fieldP R fa39_5) <| VR.pG R R R R h62 (VP.loadP (i := 0) R R ld36 R) ?_
                   obtain ⟨r12, h63, hm⟩ := bnd hm
                   refine VR.consG R R R R h62 (VO.callK 0 R fn55 R (ref06_RightBears_ok p.Bears r12 h63) fun _ _ h64 => ?_)
                   obtain ⟨rfl, rfl⟩ := h64
                   refine VR.p R R (VP.pickB true R h62 R) ?_
                   exact J [_, _, _] _ R (congrArg VV.bool (Option.some.inj hm))
                  ·have h62 := bf h62
                   refine VR.skipG R R R R h62 <| VR.skipG R R R R h62 <| VR.skipG R R R R h62 <| VR.p R R (VP.pickB false R h62 R) ?_
                   exact J [_, _, _] _ R (congrArg VV.bool (Option.some.inj hm))
                 ·refine VR.p R R (VP.assign R) <| VR.nil ?_
                  obtain rfl := Option.some.inj hm
                  exact VW.ret ⟨.inl R, _, .cons (.tmp _ _ R) .nil, [], _, R, R, R⟩

/-! trireme/triremeref09.Find -/
def ref09_Find.l1 (ms : List T_api_Machine) (name : ByteArray) : Nat → Int → Option (Out Int Unit)
 | 0, _ => none
 | n + 1, i2 =>
  if (decide (i2 < (ms.length : Int))) = true then
   (V.gl ms i2).bind fun x =>
   if (V.seq x.Name name) = true then
    some (Out.ret i2)
   else
    ref09_Find.l1 ms name n (IntKind.i64.wrap (i2 + (1 : Int)))
  else
   some (Out.go ())
def ref09_Find (ms : List T_api_Machine) (name : ByteArray) : Option Int :=
 (ref09_Find.l1 ms name FU (0 : Int)).bind fun o =>
 o.on fun j =>
 some (-1 : Int)
theorem ref09_Find_ok (ms : List T_api_Machine) (name : ByteArray) (r : Int) (hm : ref09_Find ms name = some r) :
  VC Try.prog 13 [.list 30 (List.map T_api_Machine.vv ms), .str name] [] (fun zx zH => zx = .int .i64 r ∧ zH = []) := by
 unfold ref09_Find at hm
 refine VC.run (c := _) (rs := [.tmp 4]) Try.func13 R R R <| VW.seq <| VW.region <| VR.p R R (VP.assign R) <| VR.nil <| VW.seq <| VW.seq <| VW.region <| VR.p R R (VP.assign R) <| VR.nil ?_
 obtain ⟨o, h1, h2⟩ := bnd hm
 refine VW.joinE (fun (q : Unit) => o = Out.go q) (fun (j : Unit) (gg : Unit) => []) (fun (j : Unit) (gg : Unit) => []) ?_ ?_
 ·have hm := h1
  refine VW.block (VW.loop FU ?_)
  refine VL.fuelS (R := _) (fun zn (zs : Int) => ref09_Find.l1 ms name zn zs) (fun (zs : Int) (zg : Unit) => [(0, .list 30 (List.map T_api_Machine.vv ms)), (1, .str name), (5, .int .i64 zs)]) (fun (zs : Int) (zg : Unit) => []) (0 : Int) () (fun zs => R) (Shift.pick [] R ⟨R, R, R, trivial⟩) h1 ?_
  rintro n i2 _ hm
  rw [ref09_Find.l1] at hm
  refine VW.seq <| VW.seq <| VW.region <| VR.p R R (VP.move R) <| VR.p R R (VP.move R) <| VR.p R R (VP.lenT T_api_Machine.vv R Try.underlying22) <| VR.p R R (VP.arith R R R) <| VR.nil ?_
  rcases ite_or hm with ⟨h3, hm⟩ | ⟨h3, hm⟩
  ·refine VW.condT R h3 <| VW.skip <| VW.seq <| VW.block <| VW.seq <| VW.region <| VR.p R R (VP.move R) <| VR.p R R (VP.move R) ?_
   obtain ⟨x, h4, hm⟩ := bnd hm
   refine VR.p R R (VP.glE T_api_Machine.vv R R el22 h4) <| VR.p R R (VP.fieldE R fa30_0) <| VR.p R R (VP.loadE R ld9 R) <| VR.p R R (VP.move R) <| VR.p R R (VP.strop R R R) <| VR.nil ?_
   rcases ite_or hm with ⟨h5, hm⟩ | ⟨h5, hm⟩
   ·refine VW.condT R h5 <| VW.seq <| VW.region <| VR.p R R (VP.move R) <| VR.p R R (VP.assign R) <| VR.nil ?_
    obtain rfl := Option.some.inj hm
    have hm := Out.ret_on h2
    obtain rfl := Option.some.inj hm
    exact VW.ret ⟨.inl R, _, .cons (.tmp _ _ R) .nil, [], _, R, R, R⟩
   ·have h5 := bf h5
    refine VW.condF R h5 <| VW.skip <| VW.region <| VR.p R R (VP.move R) <| VR.p R R (VP.arith R R R) <| VR.p R R (VP.assign R) <| VR.nil ?_
    exact ⟨(IntKind.i64.wrap (i2 + (1 : Int))), (), hm, (Shift.pick [] R ⟨R, R, R, trivial⟩)⟩
  ·have h3 := bf h3
   refine VW.condF R h3 <| VW.exit ?_
   exact ⟨(), (), (Option.some.inj hm).symm, (Shift.pick [] R trivial)⟩
 ·rintro j _ rfl
  have hm := Out.go_on h2
  refine VW.seq <| VW.region <| VR.p R R (VP.assign R) <| VR.nil ?_
  obtain rfl := Option.some.inj hm
  exact VW.ret ⟨.inl R, _, .cons (.tmp _ _ R) .nil, [], _, R, R, R⟩

/-! trireme/triremeref09.Place -/
def ref09_Place.l1 (bs : List T_api_Bound) (name : ByteArray) : Nat → Int → Option (Out Int Unit)
 | 0, _ => none
 | n + 1, i2 =>
  if (decide (i2 < (bs.length : Int))) = true then
   (V.gl bs i2).bind fun x =>
   if (V.seq x.Pod.Name name) = true then
    some (Out.ret i2)
   else
    ref09_Place.l1 bs name n (IntKind.i64.wrap (i2 + (1 : Int)))
  else
   some (Out.go ())
def ref09_Place (bs : List T_api_Bound) (name : ByteArray) : Option Int :=
 (ref09_Place.l1 bs name FU (0 : Int)).bind fun o =>
 o.on fun j =>
 some (-1 : Int)
theorem ref09_Place_ok (bs : List T_api_Bound) (name : ByteArray) (r : Int) (hm : ref09_Place bs name = some r) :
  VC Try.prog 12 [.list 50 (List.map T_api_Bound.vv bs), .str name] [] (fun zx zH => zx = .int .i64 r ∧ zH = []) := by
 unfold ref09_Place at hm
 refine VC.run (c := _) (rs := [.tmp 4]) Try.func12 R R R <| VW.seq <| VW.region <| VR.p R R (VP.assign R) <| VR.nil <| VW.seq <| VW.seq <| VW.region <| VR.p R R (VP.assign R) <| VR.nil ?_
 obtain ⟨o, h1, h2⟩ := bnd hm
 refine VW.joinE (fun (q : Unit) => o = Out.go q) (fun (j : Unit) (gg : Unit) => []) (fun (j : Unit) (gg : Unit) => []) ?_ ?_
 ·have hm := h1
  refine VW.block (VW.loop FU ?_)
  refine VL.fuelS (R := _) (fun zn (zs : Int) => ref09_Place.l1 bs name zn zs) (fun (zs : Int) (zg : Unit) => [(0, .list 50 (List.map T_api_Bound.vv bs)), (1, .str name), (5, .int .i64 zs)]) (fun (zs : Int) (zg : Unit) => []) (0 : Int) () (fun zs => R) (Shift.pick [] R ⟨R, R, R, trivial⟩) h1 ?_
  rintro n i2 _ hm
  rw [ref09_Place.l1] at hm
  refine VW.seq <| VW.seq <| VW.region <| VR.p R R (VP.move R) <| VR.p R R (VP.move R) <| VR.p R R (VP.lenT T_api_Bound.vv R Try.underlying23) <| VR.p R R (VP.arith R R R) <| VR.nil ?_
  rcases ite_or hm with ⟨h3, hm⟩ | ⟨h3, hm⟩
  ·refine VW.condT R h3 <| VW.skip <| VW.seq <| VW.block <| VW.seq <| VW.region <| VR.p R R (VP.move R) <| VR.p R R (VP.move R) ?_
   obtain ⟨x, h4, hm⟩ := bnd hm
   refine VR.p R R (VP.glE T_api_Bound.vv R R el23 h4) <| VR.p R R (VP.fieldE R fa50_0) <| VR.p R R (VP.fieldE R fa39_0) <| VR.p R R (VP.loadE R ld9 R) <| VR.p R R (VP.move R) <| VR.p R R (VP.strop R R R) <| VR.nil ?_
   rcases ite_or hm with ⟨h5, hm⟩ | ⟨h5, hm⟩
   ·refine VW.condT R h5 <| VW.seq <| VW.region <| VR.p R R (VP.move R) <| VR.p R R (VP.assign R) <| VR.nil ?_
    obtain rfl := Option.some.inj hm
    have hm := Out.ret_on h2
    obtain rfl := Option.some.inj hm
    exact VW.ret ⟨.inl R, _, .cons (.tmp _ _ R) .nil, [], _, R, R, R⟩
   ·have h5 := bf h5
    refine VW.condF R h5 <| VW.skip <| VW.region <| VR.p R R (VP.move R) <| VR.p R R (VP.arith R R R) <| VR.p R R (VP.assign R) <| VR.nil ?_
    exact ⟨(IntKind.i64.wrap (i2 + (1 : Int))), (), hm, (Shift.pick [] R ⟨R, R, R, trivial⟩)⟩
  ·have h3 := bf h3
   refine VW.condF R h3 <| VW.exit ?_
   exact ⟨(), (), (Option.some.inj hm).symm, (Shift.pick [] R trivial)⟩
 ·rintro j _ rfl
  have hm := Out.go_on h2
  refine VW.seq <| VW.region <| VR.p R R (VP.assign R) <| VR.nil ?_
  obtain rfl := Option.some.inj hm
  exact VW.ret ⟨.inl R, _, .cons (.tmp _ _ R) .nil, [], _, R, R, R⟩

/-! trireme/triremeref09.Check -/
def ref09_Check.l1 (ms : List T_api_Machine) : Nat → Int → Option (Out Int Unit)
 | 0, _ => none
 | n + 1, i2 =>
  if (decide (i2 < (ms.length : Int))) = true then
   (V.gl ms i2).bind fun x =>
   (if (V.seq x.Name (⟨#[]⟩ : ByteArray)) = true then some true else (V.gl ms i2).bind fun x2 =>
   (ref07_RightMachine x2).bind fun r =>
   some (!r)).bind fun c =>
   if c = true then
    some (Out.ret (12 : Int))
   else
    ref09_Check.l1 ms n (IntKind.i64.wrap (i2 + (1 : Int)))
  else
   some (Out.go ())
def ref09_Check.l2 (bs : List T_api_Bound) : Nat → Int → Option (Out Int Unit)
 | 0, _ => none
 | n2 + 1, i4 =>
  if (decide (i4 < (bs.length : Int))) = true then
   (V.gl bs i4).bind fun x3 =>
   (ref07_RightPod x3.Pod).bind fun r2 =>
   if (!r2) = true then
    some (Out.ret (12 : Int))
   else
    ref09_Check.l2 bs n2 (IntKind.i64.wrap (i4 + (1 : Int)))
  else
   some (Out.go ())
def ref09_Check.l3 (ms : List T_api_Machine) : Nat → Int → Option (Out Int Unit)
 | 0, _ => none
 | n3 + 1, i6 =>
  if (decide (i6 < (ms.length : Int))) = true then
   (V.gl ms i6).bind fun x4 =>
   (ref09_Find ms x4.Name).bind fun r3 =>
   if (r3 != i6) = true then
    some (Out.ret (15 : Int))
   else
    ref09_Check.l3 ms n3 (IntKind.i64.wrap (i6 + (1 : Int)))
  else
   some (Out.go ())
def ref09_Check.l4 (bs : List T_api_Bound) : Nat → Int → Option (Out Int Unit)
 | 0, _ => none
 | n4 + 1, i8 =>
  if (decide (i8 < (bs.length : Int))) = true then
   (V.gl bs i8).bind fun x5 =>
   (ref09_Place bs x5.Pod.Name).bind fun r4 =>
   if (r4 != i8) = true then
    some (Out.ret (15 : Int))
   else
    ref09_Check.l4 bs n4 (IntKind.i64.wrap (i8 + (1 : Int)))
  else
   some (Out.go ())
def ref09_Check.l5 (ms : List T_api_Machine) (bs : List T_api_Bound) : Nat → Int → Option (Out Int Unit)
 | 0, _ => none
 | n5 + 1, i10 =>
  if (decide (i10 < (bs.length : Int))) = true then
   (V.gl bs i10).bind fun x6 =>
   (if (!(V.seq x6.On (⟨#[]⟩ : ByteArray))) = true then (V.gl bs i10).bind fun x7 =>
   (ref09_Find ms x7.On).bind fun r5 =>
   some (decide (r5 < (0 : Int))) else some false).bind fun c2 =>
   if c2 = true then
    some (Out.ret (16 : Int))
   else
    ref09_Check.l5 ms bs n5 (IntKind.i64.wrap (i10 + (1 : Int)))
  else
   some (Out.go ())
def ref09_Check (ms : List T_api_Machine) (bs : List T_api_Bound) : Option Int :=
 if ((decide ((ms.length : Int) > (200 : Int))) || (decide ((bs.length : Int) > (400 : Int)))) = true then
  some (7 : Int)
 else
  (ref09_Check.l1 ms FU (0 : Int)).bind fun o =>
  o.on fun j =>
  (ref09_Check.l2 bs FU (0 : Int)).bind fun o2 =>
  o2.on fun j2 =>
  (ref09_Check.l3 ms FU (0 : Int)).bind fun o3 =>
  o3.on fun j3 =>
  (ref09_Check.l4 bs FU (0 : Int)).bind fun o4 =>
  o4.on fun j4 =>
  (ref09_Check.l5 ms bs FU (0 : Int)).bind fun o5 =>
  o5.on fun j5 =>
  some (0 : Int)
theorem ref09_Check_ok (ms : List T_api_Machine) (bs : List T_api_Bound) (r : Int) (hm : ref09_Check ms bs = some r) :
  VC Try.prog 18 [.list 30 (List.map T_api_Machine.vv ms), .list 50 (List.map T_api_Bound.vv bs)] [] (fun zx zH => zx = .int .i64 r ∧ zH = []) := by
 unfold ref09_Check at hm
 refine VC.run (c := _) (rs := [.tmp 4]) Try.func18 R R R <| VW.seq <| VW.region <| VR.p R R (VP.assign R) <| VR.nil <| VW.seq <| VW.seq <| VW.region <| VR.p R R (VP.move R) <| VR.p R R (VP.lenT T_api_Machine.vv R Try.underlying22) <| VR.p R R (VP.arith R R R) <| VR.p R R (VP.move R) ?_
 refine VR.sc 4 17 (.bool ((decide ((ms.length : Int) > (200 : Int))) || (decide ((bs.length : Int) > (400 : Int))))) (fun K' J => ?_) ?_
 ·rcases Bool.eq_false_or_eq_true (decide ((ms.length : Int) > (200 : Int))) with h1 | h1
  ·refine VR.skipG R R R R h1 <| VR.skipG R R R R h1 <| VR.skipG R R R R h1 <| VR.p R R (VP.pickB true R h1 R) ?_
   exact J [_, _, _] _ R (orT h1)
  ·refine VR.pG R R R R h1 (VP.move R) <| VR.pG R R R R h1 (VP.lenT T_api_Bound.vv R Try.underlying23) <| VR.pG R R R R h1 (VP.arith R R R) <| VR.p R R (VP.pickB false R h1 R) ?_
   exact J [_, _, _] _ R (orF h1)
 ·refine VR.nil ?_
  rcases ite_or hm with ⟨h2, hm⟩ | ⟨h2, hm⟩
  ·refine VW.condT R h2 <| VW.seq <| VW.region <| VR.p R R (VP.assign R) <| VR.nil ?_
   obtain rfl := Option.some.inj hm
   exact VW.ret ⟨.inl R, _, .cons (.tmp _ _ R) .nil, [], _, R, R, R⟩
  ·have h2 := bf h2
   refine VW.condF R h2 <| VW.skip <| VW.seq <| VW.seq <| VW.region <| VR.p R R (VP.assign R) <| VR.nil ?_
   obtain ⟨o, h3, h4⟩ := bnd hm
   refine VW.joinE (fun (q : Unit) => o = Out.go q) (fun (j : Unit) (gg : Unit) => [(0, .list 30 (List.map T_api_Machine.vv ms)), (1, .list 50 (List.map T_api_Bound.vv bs))]) (fun (j : Unit) (gg : Unit) => []) ?_ ?_
   ·have hm := h3
    refine VW.block (VW.loop FU ?_)
    refine VL.fuelS (R := _) (fun zn (zs : Int) => ref09_Check.l1 ms zn zs) (fun (zs : Int) (zg : Unit) => [(0, .list 30 (List.map T_api_Machine.vv ms)), (1, .list 50 (List.map T_api_Bound.vv bs)), (5, .int .i64 zs)]) (fun (zs : Int) (zg : Unit) => []) (0 : Int) () (fun zs => R) (Shift.pick [] R ⟨R, R, R, trivial⟩) h3 ?_
    rintro n i2 _ hm
    rw [ref09_Check.l1] at hm
    refine VW.seq <| VW.seq <| VW.region <| VR.p R R (VP.move R) <| VR.p R R (VP.move R) <| VR.p R R (VP.lenT T_api_Machine.vv R Try.underlying22) <| VR.p R R (VP.arith R R R) <| VR.nil ?_
    rcases ite_or hm with ⟨h5, hm⟩ | ⟨h5, hm⟩
    ·refine VW.condT R h5 <| VW.skip <| VW.seq <| VW.block <| VW.seq <| VW.region <| VR.p R R (VP.move R) <| VR.p R R (VP.move R) ?_
     obtain ⟨x, h6, hm⟩ := bnd hm
     refine VR.p R R (VP.glE T_api_Machine.vv R R el22 h6) <| VR.p R R (VP.fieldE R fa30_0) <| VR.p R R (VP.loadE R ld9 R) <| VR.p R R (VP.strop R R R) <| VR.p R R (VP.move R) ?_
     obtain ⟨c, h11, hm⟩ := bnd hm
     refine VR.sc 7 37 (.bool c) (fun K' J => ?_) ?_
     ·have hm := h11
      rcases ite_or hm with ⟨h7, hm⟩ | ⟨h7, hm⟩
      ·refine VR.skipG R R R R h7 <| VR.skipG R R R R h7 <| VR.skipG R R R R h7 <| VR.skipG R R R R h7 <| VR.skipG R R R R h7 <| VR.skipG R R R R h7 <| VR.p R R (VP.pickB true R h7 R) ?_
       exact J [_, _, _, _, _, _] _ R (congrArg VV.bool (Option.some.inj hm))
      ·have h7 := bf h7
       refine VR.pG R R R R h7 (VP.move R) <| VR.pG R R R R h7 (VP.move R) ?_
       obtain ⟨x2, h8, hm⟩ := bnd hm
       refine VR.pG R R R R h7 (VP.glE T_api_Machine.vv R R el22 h8) <| VR.pG R R R R h7 (VP.loadE R ld30 R) ?_
       obtain ⟨r, h9, hm⟩ := bnd hm
       refine VR.consG R R R R h7 (VO.callK 0 R fn17 R (ref07_RightMachine_ok x2 r h9) fun _ _ h10 => ?_)
       obtain ⟨rfl, rfl⟩ := h10
       refine VR.pG R R R R h7 (VP.not R) <| VR.p R R (VP.pickB false R h7 R) ?_
       exact J [_, _, _, _, _, _] _ R (congrArg VV.bool (Option.some.inj hm))
     ·refine VR.nil ?_
      rcases ite_or hm with ⟨h12, hm⟩ | ⟨h12, hm⟩
      ·refine VW.condT R h12 <| VW.seq <| VW.region <| VR.p R R (VP.assign R) <| VR.nil ?_
       obtain rfl := Option.some.inj hm
       have hm := Out.ret_on h4
       obtain rfl := Option.some.inj hm
       exact VW.ret ⟨.inl R, _, .cons (.tmp _ _ R) .nil, [], _, R, R, R⟩
      ·have h12 := bf h12
       refine VW.condF R h12 <| VW.skip <| VW.region <| VR.p R R (VP.move R) <| VR.p R R (VP.arith R R R) <| VR.p R R (VP.assign R) <| VR.nil ?_
       exact ⟨(IntKind.i64.wrap (i2 + (1 : Int))), (), hm, (Shift.pick [] R ⟨R, R, R, trivial⟩)⟩
    ·have h5 := bf h5
     refine VW.condF R h5 <| VW.exit ?_
     exact ⟨(), (), (Option.some.inj hm).symm, (Shift.pick [] R ⟨R, R, trivial⟩)⟩
   ·rintro j _ rfl
    have hm := Out.go_on h4
    refine VW.seq <| VW.seq <| VW.region <| VR.p R R (VP.assign R) <| VR.nil ?_
    obtain ⟨o2, h13, h14⟩ := bnd hm
    refine VW.joinE (fun (q : Unit) => o2 = Out.go q) (fun (j2 : Unit) (gg : Unit) => [(0, .list 30 (List.map T_api_Machine.vv ms)), (1, .list 50 (List.map T_api_Bound.vv bs))]) (fun (j2 : Unit) (gg : Unit) => []) ?_ ?_
    ·have hm := h13
     refine VW.block (VW.loop FU ?_)
     refine VL.fuelS (R := _) (fun zn (zs : Int) => ref09_Check.l2 bs zn zs) (fun (zs : Int) (zg : Unit) => [(0, .list 30 (List.map T_api_Machine.vv ms)), (1, .list 50 (List.map T_api_Bound.vv bs)), (6, .int .i64 zs)]) (fun (zs : Int) (zg : Unit) => []) (0 : Int) () (fun zs => R) (Shift.pick [] R ⟨R, R, R, trivial⟩) h13 ?_
     rintro n2 i4 _ hm
     rw [ref09_Check.l2] at hm
     refine VW.seq <| VW.seq <| VW.region <| VR.p R R (VP.move R) <| VR.p R R (VP.move R) <| VR.p R R (VP.lenT T_api_Bound.vv R Try.underlying23) <| VR.p R R (VP.arith R R R) <| VR.nil ?_
     rcases ite_or hm with ⟨h15, hm⟩ | ⟨h15, hm⟩
     ·refine VW.condT R h15 <| VW.skip <| VW.seq <| VW.block <| VW.seq <| VW.region <| VR.p R R (VP.move R) <| VR.p R R (VP.move R) ?_
      obtain ⟨x3, h16, hm⟩ := bnd hm
      refine VR.p R R (VP.glE T_api_Bound.vv R R el23 h16) <| VR.p R R (VP.fieldE R fa50_0) <| VR.p R R (VP.loadE R ld39 R) ?_
      obtain ⟨r2, h17, hm⟩ := bnd hm
      refine VR.cons R R (VO.callK 0 R fn37 R (ref07_RightPod_ok x3.Pod r2 h17) fun _ _ h19 => ?_)
      obtain ⟨rfl, rfl⟩ := h19
      refine VR.p R R (VP.not R) <| VR.nil ?_
      rcases ite_or hm with ⟨h18, hm⟩ | ⟨h18, hm⟩
      ·refine VW.condT R h18 <| VW.seq <| VW.region <| VR.p R R (VP.assign R) <| VR.nil ?_
       obtain rfl := Option.some.inj hm
       have hm := Out.ret_on h14
       obtain rfl := Option.some.inj hm
       exact VW.ret ⟨.inl R, _, .cons (.tmp _ _ R) .nil, [], _, R, R, R⟩
      ·have h18 := bf h18
       refine VW.condF R h18 <| VW.skip <| VW.region <| VR.p R R (VP.move R) <| VR.p R R (VP.arith R R R) <| VR.p R R (VP.assign R) <| VR.nil ?_
       exact ⟨(IntKind.i64.wrap (i4 + (1 : Int))), (), hm, (Shift.pick [] R ⟨R, R, R, trivial⟩)⟩
     ·have h15 := bf h15
      refine VW.condF R h15 <| VW.exit ?_
      exact ⟨(), (), (Option.some.inj hm).symm, (Shift.pick [] R ⟨R, R, trivial⟩)⟩
    ·rintro j2 _ rfl
     have hm := Out.go_on h14
     refine VW.seq <| VW.seq <| VW.region <| VR.p R R (VP.assign R) <| VR.nil ?_
     obtain ⟨o3, h20, h21⟩ := bnd hm
     refine VW.joinE (fun (q : Unit) => o3 = Out.go q) (fun (j3 : Unit) (gg : Unit) => [(0, .list 30 (List.map T_api_Machine.vv ms)), (1, .list 50 (List.map T_api_Bound.vv bs))]) (fun (j3 : Unit) (gg : Unit) => []) ?_ ?_
     ·have hm := h20
      refine VW.block (VW.loop FU ?_)
      refine VL.fuelS (R := _) (fun zn (zs : Int) => ref09_Check.l3 ms zn zs) (fun (zs : Int) (zg : Unit) => [(0, .list 30 (List.map T_api_Machine.vv ms)), (1, .list 50 (List.map T_api_Bound.vv bs)), (7, .int .i64 zs)]) (fun (zs : Int) (zg : Unit) => []) (0 : Int) () (fun zs => R) (Shift.pick [] R ⟨R, R, R, trivial⟩) h20 ?_
      rintro n3 i6 _ hm
      rw [ref09_Check.l3] at hm
      refine VW.seq <| VW.seq <| VW.region <| VR.p R R (VP.move R) <| VR.p R R (VP.move R) <| VR.p R R (VP.lenT T_api_Machine.vv R Try.underlying22) <| VR.p R R (VP.arith R R R) <| VR.nil ?_
      rcases ite_or hm with ⟨h22, hm⟩ | ⟨h22, hm⟩
      ·refine VW.condT R h22 <| VW.skip <| VW.seq <| VW.block <| VW.seq <| VW.region <| VR.p R R (VP.move R) <| VR.p R R (VP.move R) <| VR.p R R (VP.move R) ?_
       obtain ⟨x4, h23, hm⟩ := bnd hm
       refine VR.p R R (VP.glE T_api_Machine.vv R R el22 h23) <| VR.p R R (VP.fieldE R fa30_0) <| VR.p R R (VP.loadE R ld9 R) ?_
       obtain ⟨r3, h24, hm⟩ := bnd hm
       refine VR.cons R R (VO.callK 0 R fn13 R (ref09_Find_ok ms x4.Name r3 h24) fun _ _ h26 => ?_)
       obtain ⟨rfl, rfl⟩ := h26
       refine VR.p R R (VP.move R) <| VR.p R R (VP.arith R R R) <| VR.nil ?_
       rcases ite_or hm with ⟨h25, hm⟩ | ⟨h25, hm⟩
       ·refine VW.condT R h25 <| VW.seq <| VW.region <| VR.p R R (VP.assign R) <| VR.nil ?_
        obtain rfl := Option.some.inj hm
        have hm := Out.ret_on h21
        obtain rfl := Option.some.inj hm
        exact VW.ret ⟨.inl R, _, .cons (.tmp _ _ R) .nil, [], _, R, R, R⟩
       ·have h25 := bf h25
        refine VW.condF R h25 <| VW.skip <| VW.region <| VR.p R R (VP.move R) <| VR.p R R (VP.arith R R R) <| VR.p R R (VP.assign R) <| VR.nil ?_
        exact ⟨(IntKind.i64.wrap (i6 + (1 : Int))), (), hm, (Shift.pick [] R ⟨R, R, R, trivial⟩)⟩
      ·have h22 := bf h22
       refine VW.condF R h22 <| VW.exit ?_
       exact ⟨(), (), (Option.some.inj hm).symm, (Shift.pick [] R ⟨R, R, trivial⟩)⟩
     ·rintro j3 _ rfl
      have hm := Out.go_on h21
      refine VW.seq <| VW.seq <| VW.region <| VR.p R R (VP.assign R) <| VR.nil ?_
      obtain ⟨o4, h27, h28⟩ := bnd hm
      refine VW.joinE (fun (q : Unit) => o4 = Out.go q) (fun (j4 : Unit) (gg : Unit) => [(0, .list 30 (List.map T_api_Machine.vv ms)), (1, .list 50 (List.map T_api_Bound.vv bs))]) (fun (j4 : Unit) (gg : Unit) => []) ?_ ?_
      ·have hm := h27
       refine VW.block (VW.loop FU ?_)
       refine VL.fuelS (R := _) (fun zn (zs : Int) => ref09_Check.l4 bs zn zs) (fun (zs : Int) (zg : Unit) => [(0, .list 30 (List.map T_api_Machine.vv ms)), (1, .list 50 (List.map T_api_Bound.vv bs)), (8, .int .i64 zs)]) (fun (zs : Int) (zg : Unit) => []) (0 : Int) () (fun zs => R) (Shift.pick [] R ⟨R, R, R, trivial⟩) h27 ?_
       rintro n4 i8 _ hm
       rw [ref09_Check.l4] at hm
       refine VW.seq <| VW.seq <| VW.region <| VR.p R R (VP.move R) <| VR.p R R (VP.move R) <| VR.p R R (VP.lenT T_api_Bound.vv R Try.underlying23) <| VR.p R R (VP.arith R R R) <| VR.nil ?_
       rcases ite_or hm with ⟨h29, hm⟩ | ⟨h29, hm⟩
       ·refine VW.condT R h29 <| VW.skip <| VW.seq <| VW.block <| VW.seq <| VW.region <| VR.p R R (VP.move R) <| VR.p R R (VP.move R) <| VR.p R R (VP.move R) ?_
        obtain ⟨x5, h30, hm⟩ := bnd hm
        refine VR.p R R (VP.glE T_api_Bound.vv R R el23 h30) <| VR.p R R (VP.fieldE R fa50_0) <| VR.p R R (VP.fieldE R fa39_0) <| VR.p R R (VP.loadE R ld9 R) ?_
        obtain ⟨r4, h31, hm⟩ := bnd hm
        refine VR.cons R R (VO.callK 0 R fn12 R (ref09_Place_ok bs x5.Pod.Name r4 h31) fun _ _ h33 => ?_)
        obtain ⟨rfl, rfl⟩ := h33
        refine VR.p R R (VP.move R) <| VR.p R R (VP.arith R R R) <| VR.nil ?_
        rcases ite_or hm with ⟨h32, hm⟩ | ⟨h32, hm⟩
        ·refine VW.condT R h32 <| VW.seq <| VW.region <| VR.p R R (VP.assign R) <| VR.nil ?_
         obtain rfl := Option.some.inj hm
         have hm := Out.ret_on h28
         obtain rfl := Option.some.inj hm
         exact VW.ret ⟨.inl R, _, .cons (.tmp _ _ R) .nil, [], _, R, R, R⟩
        ·have h32 := bf h32
         refine VW.condF R h32 <| VW.skip <| VW.region <| VR.p R R (VP.move R) <| VR.p R R (VP.arith R R R) <| VR.p R R (VP.assign R) <| VR.nil ?_
         exact ⟨(IntKind.i64.wrap (i8 + (1 : Int))), (), hm, (Shift.pick [] R ⟨R, R, R, trivial⟩)⟩
       ·have h29 := bf h29
        refine VW.condF R h29 <| VW.exit ?_
        exact ⟨(), (), (Option.some.inj hm).symm, (Shift.pick [] R ⟨R, R, trivial⟩)⟩
      ·rintro j4 _ rfl
       have hm := Out.go_on h28
       refine VW.seq <| VW.seq <| VW.region <| VR.p R R (VP.assign R) <| VR.nil ?_
       obtain ⟨o5, h34, h35⟩ := bnd hm
       refine VW.joinE (fun (q : Unit) => o5 = Out.go q) (fun (j5 : Unit) (gg : Unit) => []) (fun (j5 : Unit) (gg : Unit) => []) ?_ ?_
       ·have hm := h34
        refine VW.block (VW.loop FU ?_)
        refine VL.fuelS (R := _) (fun zn (zs : Int) => ref09_Check.l5 ms bs zn zs) (fun (zs : Int) (zg : Unit) => [(0, .list 30 (List.map T_api_Machine.vv ms)), (1, .list 50 (List.map T_api_Bound.vv bs)), (9, .int .i64 zs)]) (fun (zs : Int) (zg : Unit) => []) (0 : Int) () (fun zs => R) (Shift.pick [] R ⟨R, R, R, trivial⟩) h34 ?_
        rintro n5 i10 _ hm
        rw [ref09_Check.l5] at hm
        refine VW.seq <| VW.seq <| VW.region <| VR.p R R (VP.move R) <| VR.p R R (VP.move R) <| VR.p R R (VP.lenT T_api_Bound.vv R Try.underlying23) <| VR.p R R (VP.arith R R R) <| VR.nil ?_
        rcases ite_or hm with ⟨h36, hm⟩ | ⟨h36, hm⟩
        ·refine VW.condT R h36 <| VW.skip <| VW.seq <| VW.block <| VW.seq <| VW.region <| VR.p R R (VP.move R) <| VR.p R R (VP.move R) ?_
         obtain ⟨x6, h37, hm⟩ := bnd hm
         refine VR.p R R (VP.glE T_api_Bound.vv R R el23 h37) <| VR.p R R (VP.fieldE R fa50_1) <| VR.p R R (VP.loadE R ld9 R) <| VR.p R R (VP.strop R R R) <| VR.p R R (VP.move R) ?_
         obtain ⟨c2, h42, hm⟩ := bnd hm
         refine VR.sc 9 103 (.bool c2) (fun K' J => ?_) ?_
         ·have hm := h42
          rcases ite_or hm with ⟨h38, hm⟩ | ⟨h38, hm⟩
          ·refine VR.pG R R R R h38 (VP.move R) <| VR.pG R R R R h38 (VP.move R) <| VR.pG R R R R h38 (VP.move R) ?_
           obtain ⟨x7, h39, hm⟩ := bnd hm
           refine VR.pG R R R R h38 (VP.glE T_api_Bound.vv R R el23 h39) <| VR.pG R R R R h38 (VP.fieldE R fa50_1) <| VR.pG R R R R h38 (VP.loadE R ld9 R) ?_
           obtain ⟨r5, h40, hm⟩ := bnd hm
           refine VR.consG R R R R h38 (VO.callK 0 R fn13 R (ref09_Find_ok ms x7.On r5 h40) fun _ _ h41 => ?_)
           obtain ⟨rfl, rfl⟩ := h41
           refine VR.pG R R R R h38 (VP.arith R R R) <| VR.p R R (VP.pickB true R h38 R) ?_
           exact J [_, _, _, _, _, _, _, _] _ R (congrArg VV.bool (Option.some.inj hm))
          ·have h38 := bf h38
           refine VR.skipG R R R R h38 <| VR.skipG R R R R h38 <| VR.skipG R R R R h38 <| VR.skipG R R R R h38 <| VR.skipG R R R R h38 <| VR.skipG R R R R h38 <| VR.skipG R R R R h38 <| VR.skipG R R R R h38 <| VR.p R R (VP.pickB false R h38 R) ?_
           exact J [_, _, _, _, _, _, _, _] _ R (congrArg VV.bool (Option.some.inj hm))
         ·refine VR.nil ?_
          rcases ite_or hm with ⟨h43, hm⟩ | ⟨h43, hm⟩
          ·refine VW.condT R h43 <| VW.seq <| VW.region <| VR.p R R (VP.assign R) <| VR.nil ?_
           obtain rfl := Option.some.inj hm
           have hm := Out.ret_on h35
           obtain rfl := Option.some.inj hm
           exact VW.ret ⟨.inl R, _, .cons (.tmp _ _ R) .nil, [], _, R, R, R⟩
          ·have h43 := bf h43
           refine VW.condF R h43 <| VW.skip <| VW.region <| VR.p R R (VP.move R) <| VR.p R R (VP.arith R R R) <| VR.p R R (VP.assign R) <| VR.nil ?_
           exact ⟨(IntKind.i64.wrap (i10 + (1 : Int))), (), hm, (Shift.pick [] R ⟨R, R, R, trivial⟩)⟩
        ·have h36 := bf h36
         refine VW.condF R h36 <| VW.exit ?_
         exact ⟨(), (), (Option.some.inj hm).symm, (Shift.pick [] R trivial)⟩
       ·rintro j5 _ rfl
        have hm := Out.go_on h35
        refine VW.seq <| VW.region <| VR.p R R (VP.assign R) <| VR.nil ?_
        obtain rfl := Option.some.inj hm
        exact VW.ret ⟨.inl R, _, .cons (.tmp _ _ R) .nil, [], _, R, R, R⟩

/-! trireme/triremelaw14.right -/
def law14_right (ms : List T_api_Machine) (bs : List T_api_Bound) : Option Bool :=
 (ref09_Light ms bs).bind fun r =>
 (if r = true then (ref09_Check ms bs).bind fun r2 =>
 some (r2 == (0 : Int)) else some false).bind fun c =>
 some c
theorem law14_right_ok (ms : List T_api_Machine) (bs : List T_api_Bound) (r : Bool) (hm : law14_right ms bs = some r) :
  VC Try.prog 8 [.list 30 (List.map T_api_Machine.vv ms), .list 50 (List.map T_api_Bound.vv bs)] [] (fun zx zH => zx = .bool r ∧ zH = []) := by
 unfold law14_right at hm
 refine VC.run (c := _) (rs := [.tmp 4]) Try.func8 R R R <| VW.seq <| VW.region <| VR.p R R (VP.assign R) <| VR.nil <| VW.seq <| VW.region <| VR.p R R (VP.move R) <| VR.p R R (VP.move R) ?_
 obtain ⟨r, h1, hm⟩ := bnd hm
 refine VR.cons R R (VO.callK 0 R fn15 R (ref09_Light_ok ms bs r h1) fun _ _ h6 => ?_)
 obtain ⟨rfl, rfl⟩ := h6
 refine VR.p R R (VP.move R) ?_
 obtain ⟨c, h5, hm⟩ := bnd hm
 refine VR.sc 5 13 (.bool c) (fun K' J => ?_) ?_
 ·have hm := h5
  rcases ite_or hm with ⟨h2, hm⟩ | ⟨h2, hm⟩
  ·refine VR.pG R R R R h2 (VP.move R) <| VR.pG R R R R h2 (VP.move R) ?_
   obtain ⟨r2, h3, hm⟩ := bnd hm
   refine VR.consG R R R R h2 (VO.callK 0 R fn18 R (ref09_Check_ok ms bs r2 h3) fun _ _ h4 => ?_)
   obtain ⟨rfl, rfl⟩ := h4
   refine VR.pG R R R R h2 (VP.arith R R R) <| VR.p R R (VP.pickB true R h2 R) ?_
   exact J [_, _, _, _] _ R (congrArg VV.bool (Option.some.inj hm))
  ·have h2 := bf h2
   refine VR.skipG R R R R h2 <| VR.skipG R R R R h2 <| VR.skipG R R R R h2 <| VR.skipG R R R R h2 <| VR.p R R (VP.pickB false R h2 R) ?_
   exact J [_, _, _, _] _ R (congrArg VV.bool (Option.some.inj hm))
 ·refine VR.p R R (VP.assign R) <| VR.nil ?_
  obtain rfl := Option.some.inj hm
  exact VW.ret ⟨.inl R, _, .cons (.tmp _ _ R) .nil, [], _, R, R, R⟩

/-! trireme/sched.Order$1 -/
def sched_Order_1 (a : Int) (b : Int) (a2 : List T_api_Bound) : Option Bool :=
 (V.gl a2 a).bind fun x =>
 (V.gl a2 b).bind fun x2 =>
 some (decide (x.Pod.Rank > x2.Pod.Rank))
theorem sched_Order_1_ok (a : Int) (b : Int) (a2 : List T_api_Bound) (b2 : Nat) (r : Bool) (hm : sched_Order_1 a b a2 = some r) :
  VC Try.prog 29 [.int .i64 a, .int .i64 b, .ptr b2 0] [.box b2 23 [.list 50 (List.map T_api_Bound.vv a2)]] (fun zx zH => zx = .bool r ∧ zH = [.box b2 23 [.list 50 (List.map T_api_Bound.vv a2)]]) := by
 unfold sched_Order_1 at hm
 refine VC.run (c := _) (rs := [.tmp 5]) Try.func29 R R R <| VW.seq <| VW.region <| VR.p R R (VP.assign R) <| VR.nil <| VW.seq <| VW.drawK 0 mixed <| VA.p 0 R R R (by kernel_rfl) (VP.loadP (i := 0) R R ld23 R) <| VA.p 1 R R R (by kernel_rfl) (VP.move R) ?_
 obtain ⟨x, h1, hm⟩ := bnd hm
 refine VA.p 2 R R R (by kernel_rfl) (VP.glE T_api_Bound.vv R R el23 h1) <| VA.p 3 R R R (by kernel_rfl) (VP.fieldE R fa50_0) <| VA.p 4 R R R (by kernel_rfl) (VP.fieldE R fa39_11) <| VA.p 5 R R R (by kernel_rfl) (VP.loadE R ld3 R) <| VA.p 6 R R R (by kernel_rfl) (VP.loadP (i := 0) R R ld23 R) <| VA.p 7 R R R (by kernel_rfl) (VP.move R) ?_
 obtain ⟨x2, h2, hm⟩ := bnd hm
 refine VA.p 8 R R R (by kernel_rfl) (VP.glE T_api_Bound.vv R R el23 h2) <| VA.p 9 R R R (by kernel_rfl) (VP.fieldE R fa50_0) <| VA.p 10 R R R (by kernel_rfl) (VP.fieldE R fa39_11) <| VA.p 11 R R R (by kernel_rfl) (VP.loadE R ld3 R) <| VA.p 12 R R R (by kernel_rfl) (VP.arith R R R) <| VA.p 13 R R R (by kernel_rfl) (VP.assign R) <| VA.done (by kernel_rfl) ?_
 obtain rfl := Option.some.inj hm
 exact VW.ret ⟨.inl R, _, .cons (.tmp _ _ R) .nil, [0], _, R, R, R⟩

/-! trireme/sched.sorted -/
def sched_sorted_sched_Order_1.l1 (c : List T_api_Bound) : Nat → (List Int) → (List Int) → (List Int) → Option (List Int × List Int × List Int)
 | 0, _, _, _ => none
 | n + 1, a2, b3, out2 =>
  if ((decide ((a2.length : Int) > (0 : Int))) && (decide ((b3.length : Int) > (0 : Int)))) = true then
   (V.gl b3 (0 : Int)).bind fun x =>
   (V.gl a2 (0 : Int)).bind fun x2 =>
   (sched_Order_1 x x2 c).bind fun r3 =>
   if r3 = true then
    (V.gl b3 (0 : Int)).bind fun x3 =>
    (V.ap 8 out2 [x3]).bind fun out4 =>
    (V.sl b3 (some (1 : Int)) none).bind fun v4 =>
    sched_sorted_sched_Order_1.l1 c n a2 v4 out4
   else
    (V.gl a2 (0 : Int)).bind fun x4 =>
    (V.ap 8 out2 [x4]).bind fun out5 =>
    (V.sl a2 (some (1 : Int)) none).bind fun v5 =>
    sched_sorted_sched_Order_1.l1 c n v5 b3 out5
  else
   some (a2, b3, out2)
def sched_sorted_sched_Order_1 : Nat → (List Int) → (List T_api_Bound) → Option (List Int)
 | 0, _, _ => none
 | nn + 1, l, c =>
  if (decide ((l.length : Int) < (2 : Int))) = true then
   some l
  else
   (V.quo (l.length : Int) (2 : Int)).bind fun v =>
   (V.sl l none (some (IntKind.i64.wrap v))).bind fun v2 =>
   (V.sl l (some (IntKind.i64.wrap v)) none).bind fun v3 =>
   ((sched_sorted_sched_Order_1 nn) v2 c).bind fun r =>
   ((sched_sorted_sched_Order_1 nn) v3 c).bind fun r2 =>
   (sched_sorted_sched_Order_1.l1 c FU r r2 ([] : List Int)).bind fun j =>
   (V.ap 8 j.2.2 j.1).bind fun out6 =>
   (V.ap 8 out6 j.2.1).bind fun out7 =>
   some out7
theorem sched_sorted_sched_Order_1_ok (nn : Nat) : ∀ (l : List Int) (c : List T_api_Bound) (b : Nat) (r : List Int) (hm : sched_sorted_sched_Order_1 nn l c = some r),
  VC Try.prog 28 [.list 3 (List.map (VV.int .i64) l), .clo (.func 29) [] [.ptr b 0]] [.box b 23 [.list 50 (List.map T_api_Bound.vv c)]] (fun zx zH => zx = .list 3 (List.map (VV.int .i64) r) ∧ zH = [.box b 23 [.list 50 (List.map T_api_Bound.vv c)]]) := by
 induction nn with
 | zero => intro l c b r hm; exact absurd hm (by rw [sched_sorted_sched_Order_1]; simp)
 | succ nn ih =>
  intro l c b r hm
  rw [sched_sorted_sched_Order_1] at hm
  refine VC.run (c := _) (rs := [.tmp 4]) Try.func28 R R R <| VW.seq <| VW.region <| VR.p R R (VP.assign R) <| VR.nil <| VW.seq <| VW.seq <| VW.region <| VR.p R R (VP.move R) <| VR.p R R (VP.lenT (VV.int .i64) R Try.underlying37) <| VR.p R R (VP.arith R R R) <| VR.nil ?_
  rcases ite_or hm with ⟨h1, hm⟩ | ⟨h1, hm⟩
  ·refine VW.condT R h1 <| VW.seq <| VW.region <| VR.p R R (VP.move R) <| VR.p R R (VP.assign R) <| VR.nil ?_
   obtain rfl := Option.some.inj hm
   exact VW.ret ⟨.inl R, _, .cons (.tmp _ _ R) .nil, [0], _, R, R, R⟩
  ·have h1 := bf h1
   refine VW.condF R h1 <| VW.skip <| VW.seq <| VW.region <| VR.p R R (VP.move R) <| VR.p R R (VP.lenT (VV.int .i64) R Try.underlying37) ?_
   obtain ⟨v, h2, hm⟩ := bnd hm
   refine VR.p R R (VP.quoT R R h2) <| VR.p R R (VP.assign R) <| VR.nil <| VW.seq <| VW.drawK 1 mixed <| VA.p 0 R R R (by kernel_rfl) (VP.move R) <| VA.p 1 R R R (by kernel_rfl) (VP.move R) ?_
   obtain ⟨v2, h3, hm⟩ := bnd hm
   refine VA.p 2 R R R (by kernel_rfl) (VP.slT R R R el37 h3) <| VA.p 3 R R R (by kernel_rfl) (VP.move R) <| VA.p 5 R R R (by kernel_rfl) (VP.move R) <| VA.p 6 R R R (by kernel_rfl) (VP.move R) ?_
   obtain ⟨v3, h4, hm⟩ := bnd hm
   refine VA.p 7 R R R (by kernel_rfl) (VP.slT R R R el37 h4) <| VA.p 8 R R R (by kernel_rfl) (VP.move R) ?_
   refine VA.all [4] (by kernel_rfl) ⟨?_, trivial⟩
   obtain ⟨r, h5, hm⟩ := bnd hm
   refine VB.o R R R (VO.callK 1 R fn28 R (ih v2 c b r h5) fun _ _ h30 => ?_)
   obtain ⟨rfl, rfl⟩ := h30
   refine VA.all [9] (by kernel_rfl) ⟨?_, trivial⟩
   obtain ⟨r2, h6, hm⟩ := bnd hm
   refine VB.o R R R (VO.callK 1 R fn28 R (ih v3 c b r2 h6) fun _ _ h29 => ?_)
   obtain ⟨rfl, rfl⟩ := h29
   refine VA.p 10 R R R (by kernel_rfl) (VP.assign R) <| VA.p 11 R R R (by kernel_rfl) (VP.assign R) <| VA.done (by kernel_rfl) <| VW.seq <| VW.region <| VR.p R R (VP.assign R) <| VR.nil ?_
   obtain ⟨o, h9, h10⟩ := bnd hm
   refine VW.join (fun (q : List Int × List Int × List Int) => q = o) (fun (j : List Int × List Int × List Int) (gg : Option Nat × Nat) => [(6, .list 3 (List.map (VV.int .i64) j.1)), (7, .list 3 (List.map (VV.int .i64) j.2.1)), (8, .sl gg.1 (List.map (VV.int .i64) j.2.2).length gg.2)]) (fun (j : List Int × List Int × List Int) (gg : Option Nat × Nat) => [.row gg.1 3 gg.2 (List.map (VV.int .i64) j.2.2), .box b 23 [.list 50 (List.map T_api_Bound.vv c)]]) ?_ ?_
   ·have hm := h9
    refine VW.block (VW.loop FU ?_)
    refine VL.fuelS (R := _) (fun zn (zs : List Int × List Int × List Int) => sched_sorted_sched_Order_1.l1 c zn zs.1 zs.2.1 zs.2.2) (fun (zs : List Int × List Int × List Int) (zg : Option Nat × Nat) => [(1, .clo (.func 29) [] [.ptr b 0]), (6, .list 3 (List.map (VV.int .i64) zs.1)), (7, .list 3 (List.map (VV.int .i64) zs.2.1)), (8, .sl zg.1 (List.map (VV.int .i64) zs.2.2).length zg.2)]) (fun (zs : List Int × List Int × List Int) (zg : Option Nat × Nat) => [.row zg.1 3 zg.2 (List.map (VV.int .i64) zs.2.2), .box b 23 [.list 50 (List.map T_api_Bound.vv c)]]) (r, r2, ([] : List Int)) (none, 0) (fun zs => R) (Shift.trans (Shift.nilRow 3) (Shift.pick [0, 0] R ⟨R, R, R, R, trivial⟩)) h9 ?_
    rintro n ⟨a2, b3, out2⟩ ⟨ob2, cap2⟩ hm
    rw [sched_sorted_sched_Order_1.l1] at hm
    refine VW.seq <| VW.seq <| VW.region <| VR.p R R (VP.move R) <| VR.p R R (VP.lenT (VV.int .i64) R Try.underlying37) <| VR.p R R (VP.arith R R R) <| VR.p R R (VP.move R) ?_
    refine VR.sc 4 33 (.bool ((decide ((a2.length : Int) > (0 : Int))) && (decide ((b3.length : Int) > (0 : Int))))) (fun K' J => ?_) ?_
    ·rcases Bool.eq_false_or_eq_true (decide ((a2.length : Int) > (0 : Int))) with h11 | h11
     ·refine VR.pG R R R R h11 (VP.move R) <| VR.pG R R R R h11 (VP.lenT (VV.int .i64) R Try.underlying37) <| VR.pG R R R R h11 (VP.arith R R R) <| VR.p R R (VP.pickB true R h11 R) ?_
      exact J [_, _, _] _ R (andT h11)
     ·refine VR.skipG R R R R h11 <| VR.skipG R R R R h11 <| VR.skipG R R R R h11 <| VR.p R R (VP.pickB false R h11 R) ?_
      exact J [_, _, _] _ R (andF h11)
    ·refine VR.nil ?_
     rcases ite_or hm with ⟨h12, hm⟩ | ⟨h12, hm⟩
     ·refine VW.condT R h12 <| VW.skip <| VW.block <| VW.seq <| VW.shift (Shift.mem [1, 0] R) <| VW.drawK 1 mixed <| VA.p 0 R R R (by kernel_rfl) (VP.move R) <| VA.p 1 R R R (by kernel_rfl) (VP.move R) ?_
      obtain ⟨x, h13, hm⟩ := bnd hm
      refine VA.p 2 R R R (by kernel_rfl) (VP.glE (VV.int .i64) R R el37 h13) <| VA.p 3 R R R (by kernel_rfl) (VP.loadE R ld3 R) <| VA.p 4 R R R (by kernel_rfl) (VP.move R) ?_
      obtain ⟨x2, h14, hm⟩ := bnd hm
      refine VA.p 5 R R R (by kernel_rfl) (VP.glE (VV.int .i64) R R el37 h14) <| VA.p 6 R R R (by kernel_rfl) (VP.loadE R ld3 R) ?_
      refine VA.all [7] (by kernel_rfl) ⟨?_, trivial⟩
      obtain ⟨r3, h15, hm⟩ := bnd hm
      refine VB.o R R R (VO.callK 1 R fn29 R (sched_Order_1_ok x x2 c b r3 h15) fun _ _ h25 => ?_)
      obtain ⟨rfl, rfl⟩ := h25
      refine VA.done (by kernel_rfl) ?_
      rcases ite_or hm with ⟨h16, hm⟩ | ⟨h16, hm⟩
      ·refine VW.condT R h16 <| VW.seq <| VW.region <| VR.p R R (VP.move R) <| VR.p R R (VP.move R) ?_
       obtain ⟨x3, h17, hm⟩ := bnd hm
       refine VR.p R R (VP.glE (VV.int .i64) R R el37 h17) <| VR.p R R (VP.loadE R ld3 R) ?_
       refine VR.cons R R (VO.buildSlice ap37 R R R R R fun b5 => ?_)
       obtain ⟨out4, h19, hm⟩ := bnd hm
       refine VR.cons R R (VO.apT 2 (VV.int .i64) (l := out2) (l2 := [x3]) ap37 R R (sT_row 0 (VV.int .i64) el37 R R) h19 fun ob4 cap4 => ?_)
       refine VR.p R R (VP.assign R) <| VR.nil <| VW.region <| VR.p R R (VP.move R) ?_
       obtain ⟨v4, h20, hm⟩ := bnd hm
       refine VR.p R R (VP.slT R R R el37 h20) <| VR.p R R (VP.assign R) <| VR.nil ?_
       exact ⟨(a2, v4, out4), (ob4, cap4), hm, (Shift.pick [2, 1] R ⟨R, R, R, R, trivial⟩)⟩
      ·have h16 := bf h16
       refine VW.condF R h16 <| VW.seq <| VW.region <| VR.p R R (VP.move R) <| VR.p R R (VP.move R) ?_
       obtain ⟨x4, h21, hm⟩ := bnd hm
       refine VR.p R R (VP.glE (VV.int .i64) R R el37 h21) <| VR.p R R (VP.loadE R ld3 R) ?_
       refine VR.cons R R (VO.buildSlice ap37 R R R R R fun b6 => ?_)
       obtain ⟨out5, h23, hm⟩ := bnd hm
       refine VR.cons R R (VO.apT 2 (VV.int .i64) (l := out2) (l2 := [x4]) ap37 R R (sT_row 0 (VV.int .i64) el37 R R) h23 fun ob5 cap5 => ?_)
       refine VR.p R R (VP.assign R) <| VR.nil <| VW.region <| VR.p R R (VP.move R) ?_
       obtain ⟨v5, h24, hm⟩ := bnd hm
       refine VR.p R R (VP.slT R R R el37 h24) <| VR.p R R (VP.assign R) <| VR.nil ?_
       exact ⟨(v5, b3, out5), (ob5, cap5), hm, (Shift.pick [2, 1] R ⟨R, R, R, R, trivial⟩)⟩
     ·have h12 := bf h12
      refine VW.condF R h12 <| VW.exit ?_
      exact ⟨(a2, b3, out2), (ob2, cap2), Option.some.inj hm, (Shift.pick [0, 0] R ⟨R, R, R, trivial⟩)⟩
   ·rintro j ⟨ob3, cap3⟩ rfl
    have hm := h10
    refine VW.seq <| VW.region <| VR.p R R (VP.move R) <| VR.p R R (VP.move R) ?_
    obtain ⟨out6, h27, hm⟩ := bnd hm
    refine VR.cons R R (VO.apT 0 (VV.int .i64) (l := j.2.2) (l2 := j.1) ap37 R R (sT_list (VV.int .i64) el37 R R) h27 fun ob6 cap6 => ?_)
    refine VR.p R R (VP.assign R) <| VR.nil <| VW.seq <| VW.region <| VR.p R R (VP.move R) <| VR.p R R (VP.move R) ?_
    obtain ⟨out7, h28, hm⟩ := bnd hm
    refine VR.cons R R (VO.apT 0 (VV.int .i64) (l := out6) (l2 := j.2.1) ap37 R R (sT_list (VV.int .i64) el37 R R) h28 fun ob7 cap7 => ?_)
    refine VR.p R R (VP.assign R) <| VR.nil ?_
    obtain rfl := Option.some.inj hm
    refine VW.shift (Shift.freezeE 0 [(63, .list 3 (List.map (VV.int .i64) out7)), (4, .list 3 (List.map (VV.int .i64) out7))] R ⟨⟨_, R, .here _ R⟩, ⟨_, R, .here _ R⟩, trivial⟩ (FzH.refl _)) ?_
    exact VW.ret ⟨.inl R, _, .cons (.tmp _ _ R) .nil, [0], _, R, R, R⟩

/-! trireme/sched.Order -/
def sched_Order.l1 : List T_api_Bound → Nat → (List Int) → Option (List Int)
 | [], k, l2 => some l2
 | x :: l4, k, l2 =>
  if (V.seq x.On (⟨#[]⟩ : ByteArray)) = true then
   (V.ap 8 l2 [(k : Int)]).bind fun l5 =>
   sched_Order.l1 l4 (k + 1) l5
  else
   sched_Order.l1 l4 (k + 1) l2
def sched_Order (bs : List T_api_Bound) : Option (List Int) :=
 (sched_Order.l1 bs 0 ([] : List Int)).bind fun l32 =>
 (sched_sorted_sched_Order_1 FU l32 bs).bind fun r =>
 some r
theorem sched_Order_ok (bs : List T_api_Bound) (r : List Int) (hm : sched_Order bs = some r) :
  VC Try.prog 11 [.list 50 (List.map T_api_Bound.vv bs)] [] (fun zx zH => zx = .list 3 (List.map (VV.int .i64) r) ∧ zH = []) := by
 unfold sched_Order at hm
 refine VC.run (c := _) (rs := [.tmp 2]) Try.func11 R R R <| VW.seq <| VW.region ?_
 refine VR.cons R R (VO.box R R fun b => ?_)
 refine VR.p R R (VP.assign R) <| VR.nil <| VW.seq <| VW.region <| VR.p R R (VP.assign R) <| VR.nil <| VW.seq <| VW.seq <| VW.region <| VR.p R R (VP.loadP (i := 0) R R ld23 R) <| VR.p R R (VP.lenT T_api_Bound.vv R Try.underlying23) <| VR.p R R (VP.move R) <| VR.nil <| VW.lenL 6 R fun h6 => ?_
 have h6 := max_map h6
 obtain ⟨o, h4, h5⟩ := bnd hm
 refine VW.joinE (fun (q : List Int) => q = o) (fun (l32 : List Int) (gg : Option Nat × Nat) => [(1, .ptr b 0), (3, .sl gg.1 (List.map (VV.int .i64) l32).length gg.2)]) (fun (l32 : List Int) (gg : Option Nat × Nat) => [.row gg.1 3 gg.2 (List.map (VV.int .i64) l32), .box b 23 [.list 50 (List.map T_api_Bound.vv bs)]]) ?_ ?_
 ·have hm := h4
  refine VW.block (VW.loop (bs.length + 1) ?_)
  refine VL.eachS (l := bs) (R := _) (fun zl zk (zs : List Int) => sched_Order.l1 zl zk zs) (fun (k : Nat) (zs : List Int) (zg : Option Nat × Nat) => [(1, .ptr b 0), (3, .sl zg.1 (List.map (VV.int .i64) zs).length zg.2), (6, .list 50 (List.map T_api_Bound.vv bs)), (7, .int .i64 (bs.length : Int)), (8, .int .i64 (k : Int))]) (fun (k : Nat) (zs : List Int) (zg : Option Nat × Nat) => [.row zg.1 3 zg.2 (List.map (VV.int .i64) zs), .box b 23 [.list 50 (List.map T_api_Bound.vv bs)]]) ([] : List Int) (none, 0) (Shift.trans (Shift.nilRow 3) (Shift.pick [0, 0] R ⟨R, R, R, R, R, trivial⟩)) h4 ?_ ?_
  ·rintro k l2 ⟨ob2, cap2⟩ hk hm
   rw [sched_Order.l1] at hm
   refine VW.seq <| VW.region <| VR.p R R (VP.arith R R R) <| VR.nil <| VW.seq <| VW.condF R (k_end hk) <| VW.exit ?_
   exact ⟨l2, (ob2, cap2), Option.some.inj hm, (Shift.pick [0, 0] R ⟨R, R, trivial⟩)⟩
  ·rintro k x l4 l2 ⟨ob2, cap2⟩ h7 hm
   rw [sched_Order.l1] at hm
   refine VW.seq <| VW.region <| VR.p R R (VP.arith R R R) <| VR.nil <| VW.seq <| VW.condT R (k_lt h7) <| VW.skip <| VW.seq <| VW.block <| VW.seq <| VW.region <| VR.p R R (VP.move R) <| VR.p R R (VP.glK T_api_Bound.vv R R el23 h7) <| VR.p R R (VP.loadE R ld50 R) ?_
   refine VR.cons R R (VO.alloc z50 fun b2 => ?_)
   refine VR.p R R (VP.assign R) ?_
   refine VR.cons R R (VO.storeP (i := 0) R R R ld50 R R R ?_)
   refine VR.nil <| VW.seq <| VW.region <| VR.p R R (VP.fieldP R fa50_1) <| VR.p R R (VP.loadP (i := 0) R R ld9 R) <| VR.p R R (VP.strop R R R) <| VR.nil ?_
   rcases ite_or hm with ⟨h9, hm⟩ | ⟨h9, hm⟩
   ·refine VW.condT R h9 <| VW.region <| VR.p R R (VP.move R) <| VR.p R R (VP.move R) ?_
    refine VR.cons R R (VO.buildSlice ap37 R R R R R fun b3 => ?_)
    obtain ⟨l5, h11, hm⟩ := bnd hm
    refine VR.cons R R (VO.apT 2 (VV.int .i64) (l := l2) (l2 := [(k : Int)]) ap37 R R (sT_row 0 (VV.int .i64) el37 R R) h11 fun ob4 cap4 => ?_)
    refine VR.p R R (VP.assign R) <| VR.nil <| VW.region <| VR.p R R (VP.arith R R R) <| VR.p R R (VP.move R) <| VR.nil ?_
    exact ⟨l5, (ob4, cap4), hm, (Shift.pick [2, 2] R ⟨R, R, R, R, congrArg some (k_next h7 h6), trivial⟩)⟩
   ·have h9 := bf h9
    refine VW.condF R h9 <| VW.skip <| VW.region <| VR.p R R (VP.arith R R R) <| VR.p R R (VP.move R) <| VR.nil ?_
    exact ⟨l2, (ob2, cap2), hm, (Shift.pick [1, 1] R ⟨R, R, R, R, congrArg some (k_next h7 h6), trivial⟩)⟩
 ·rintro l32 ⟨ob3, cap3⟩ rfl
  have hm := h5
  refine VW.seq <| VW.region <| VR.p R R (VP.move R) <| VR.p R R (VP.makeFunc R R) <| VR.shift (Shift.freezeE 0 [(3, .list 3 (List.map (VV.int .i64) l32)), (21, .list 3 (List.map (VV.int .i64) l32))] R ⟨⟨_, R, .here _ R⟩, ⟨_, R, .here _ R⟩, trivial⟩ (FzH.refl _)) ?_
  obtain ⟨r, h13, hm⟩ := bnd hm
  refine VR.cons R R (VO.callK 1 R fn28 R (sched_sorted_sched_Order_1_ok FU l32 bs b r h13) fun _ _ h14 => ?_)
  obtain ⟨rfl, rfl⟩ := h14
  refine VR.p R R (VP.assign R) <| VR.nil ?_
  obtain rfl := Option.some.inj hm
  exact VW.ret ⟨.inl R, _, .cons (.tmp _ _ R) .nil, [], _, R, R, R⟩

/-! trireme/labels.at -/
def labels_at.l1 (key : ByteArray) : List T_api_Label → Nat → Option (Out (Int × Bool) Unit)
 | [], k => some (Out.go ())
 | x :: l2, k =>
  if (!(V.slt x.Key key)) = true then
   some (Out.ret ((k : Int), (V.seq x.Key key)))
  else
   labels_at.l1 key l2 (k + 1)
def labels_at (l : List T_api_Label) (key : ByteArray) : Option (Int × Bool) :=
 (labels_at.l1 key l 0).bind fun o =>
 o.on fun j =>
 some ((l.length : Int), false)
theorem labels_at_ok (l : List T_api_Label) (key : ByteArray) (r : Int × Bool) (hm : labels_at l key = some r) :
  VC Try.prog 109 [.list 92 (List.map T_api_Label.vv l), .str key] [] (fun zx zH => zx = .tup [.int .i64 r.1, .bool r.2] ∧ zH = []) := by
 unfold labels_at at hm
 refine VC.run (c := _) (rs := [.tmp 4, .tmp 5]) Try.func109 R R R <| VW.seq <| VW.region <| VR.p R R (VP.assign R) <| VR.p R R (VP.assign R) <| VR.nil <| VW.seq <| VW.seq <| VW.region <| VR.p R R (VP.move R) <| VR.p R R (VP.lenT T_api_Label.vv R Try.underlying27) <| VR.p R R (VP.move R) <| VR.nil <| VW.lenL 0 R fun h3 => ?_
 have h3 := max_map h3
 obtain ⟨o, h1, h2⟩ := bnd hm
 refine VW.joinE (fun (q : Unit) => o = Out.go q) (fun (j : Unit) (gg : Unit) => [(0, .list 92 (List.map T_api_Label.vv l))]) (fun (j : Unit) (gg : Unit) => []) ?_ ?_
 ·have hm := h1
  refine VW.block (VW.loop (l.length + 1) ?_)
  refine VL.eachS (l := l) (R := _) (fun zl zk (zs : Unit) => labels_at.l1 key zl zk) (fun (k : Nat) (zs : Unit) (zg : Unit) => [(0, .list 92 (List.map T_api_Label.vv l)), (1, .str key), (8, .list 92 (List.map T_api_Label.vv l)), (9, .int .i64 (l.length : Int)), (10, .int .i64 (k : Int))]) (fun (k : Nat) (zs : Unit) (zg : Unit) => []) () () (Shift.pick [] R ⟨R, R, R, R, R, trivial⟩) h1 ?_ ?_
  ·rintro k _ _ hk hm
   rw [labels_at.l1] at hm
   refine VW.seq <| VW.region <| VR.p R R (VP.arith R R R) <| VR.nil <| VW.seq <| VW.condF R (k_end hk) <| VW.exit ?_
   exact ⟨(), (), (Option.some.inj hm).symm, (Shift.pick [] R ⟨R, trivial⟩)⟩
  ·rintro k x l2 _ _ h4 hm
   rw [labels_at.l1] at hm
   refine VW.seq <| VW.region <| VR.p R R (VP.arith R R R) <| VR.nil <| VW.seq <| VW.condT R (k_lt h4) <| VW.skip <| VW.seq <| VW.block <| VW.seq <| VW.region <| VR.p R R (VP.move R) <| VR.p R R (VP.glK T_api_Label.vv R R el27 h4) <| VR.p R R (VP.loadE R ld92 R) ?_
   refine VR.cons R R (VO.alloc z92 fun b => ?_)
   refine VR.p R R (VP.assign R) ?_
   refine VR.cons R R (VO.storeP (i := 0) R R R ld92 R R R ?_)
   refine VR.nil <| VW.seq <| VW.region <| VR.p R R (VP.fieldP R fa92_0) <| VR.p R R (VP.loadP (i := 0) R R ld9 R) <| VR.p R R (VP.move R) <| VR.p R R (VP.strop R R R) <| VR.nil ?_
   rcases ite_or hm with ⟨h6, hm⟩ | ⟨h6, hm⟩
   ·refine VW.condT R h6 <| VW.seq <| VW.drawK 0 mixed <| VA.p 0 R R R (by kernel_rfl) (VP.move R) <| VA.p 1 R R R (by kernel_rfl) (VP.fieldP R fa92_0) <| VA.p 2 R R R (by kernel_rfl) (VP.loadP (i := 0) R R ld9 R) <| VA.p 3 R R R (by kernel_rfl) (VP.move R) <| VA.p 4 R R R (by kernel_rfl) (VP.strop R R R) <| VA.p 5 R R R (by kernel_rfl) (VP.assign R) <| VA.p 6 R R R (by kernel_rfl) (VP.assign R) <| VA.done (by kernel_rfl) ?_
    obtain rfl := Option.some.inj hm
    have hm := Out.ret_on h2
    obtain rfl := Option.some.inj hm
    exact VW.ret ⟨.inl R, _, .cons (.tmp _ _ R) (.cons (.tmp _ _ R) .nil), [], _, R, R, R⟩
   ·have h6 := bf h6
    refine VW.condF R h6 <| VW.skip <| VW.region <| VR.p R R (VP.arith R R R) <| VR.p R R (VP.move R) <| VR.nil ?_
    exact ⟨(), (), hm, (Shift.pick [] R ⟨R, R, R, R, congrArg some (k_next h4 h3), trivial⟩)⟩
 ·rintro j _ rfl
  have hm := Out.go_on h2
  refine VW.seq <| VW.region <| VR.p R R (VP.move R) <| VR.p R R (VP.lenT T_api_Label.vv R Try.underlying27) <| VR.p R R (VP.assign R) <| VR.p R R (VP.assign R) <| VR.nil ?_
  obtain rfl := Option.some.inj hm
  exact VW.ret ⟨.inl R, _, .cons (.tmp _ _ R) (.cons (.tmp _ _ R) .nil), [], _, R, R, R⟩

/-! trireme/labels.Get -/
def labels_Get (l : List T_api_Label) (key : ByteArray) : Option (ByteArray × Bool) :=
 (labels_at l key).bind fun r =>
 if (!r.2) = true then
  some ((⟨#[]⟩ : ByteArray), false)
 else
  (V.gl l r.1).bind fun x =>
  some (x.Val, true)
theorem labels_Get_ok (l : List T_api_Label) (key : ByteArray) (r : ByteArray × Bool) (hm : labels_Get l key = some r) :
  VC Try.prog 101 [.list 92 (List.map T_api_Label.vv l), .str key] [] (fun zx zH => zx = .tup [.str r.1, .bool r.2] ∧ zH = []) := by
 unfold labels_Get at hm
 refine VC.run (c := _) (rs := [.tmp 4, .tmp 5]) Try.func101 R R R <| VW.seq <| VW.region <| VR.p R R (VP.assign R) <| VR.p R R (VP.assign R) <| VR.nil <| VW.seq <| VW.region <| VR.p R R (VP.move R) <| VR.p R R (VP.move R) ?_
 obtain ⟨r, h1, hm⟩ := bnd hm
 refine VR.cons R R (VO.callK 0 R fn109 R (labels_at_ok l key r h1) fun _ _ h4 => ?_)
 obtain ⟨rfl, rfl⟩ := h4
 refine VR.p R R (VP.move R) <| VR.p R R (VP.extract R R) <| VR.p R R (VP.extract R R) <| VR.p R R (VP.assign R) <| VR.p R R (VP.assign R) <| VR.nil <| VW.seq <| VW.seq <| VW.region <| VR.p R R (VP.move R) <| VR.p R R (VP.not R) <| VR.nil ?_
 rcases ite_or hm with ⟨h2, hm⟩ | ⟨h2, hm⟩
 ·refine VW.condT R h2 <| VW.seq <| VW.region <| VR.p R R (VP.assign R) <| VR.p R R (VP.assign R) <| VR.nil ?_
  obtain rfl := Option.some.inj hm
  exact VW.ret ⟨.inl R, _, .cons (.tmp _ _ R) (.cons (.tmp _ _ R) .nil), [], _, R, R, R⟩
 ·have h2 := bf h2
  refine VW.condF R h2 <| VW.skip <| VW.seq <| VW.region <| VR.p R R (VP.move R) <| VR.p R R (VP.move R) ?_
  obtain ⟨x, h3, hm⟩ := bnd hm
  refine VR.p R R (VP.glE T_api_Label.vv R R el27 h3) <| VR.p R R (VP.fieldE R fa92_1) <| VR.p R R (VP.loadE R ld9 R) <| VR.p R R (VP.assign R) <| VR.p R R (VP.assign R) <| VR.nil ?_
  obtain rfl := Option.some.inj hm
  exact VW.ret ⟨.inl R, _, .cons (.tmp _ _ R) (.cons (.tmp _ _ R) .nil), [], _, R, R, R⟩

/-! trireme/labels.Has -/
def labels_Has.l1 (l : List T_api_Label) : List T_api_Label → Nat → Option (Out Bool Unit)
 | [], k => some (Out.go ())
 | x :: l2, k =>
  (labels_Get l x.Key).bind fun r =>
  if ((!r.2) || (!(V.seq r.1 x.Val))) = true then
   some (Out.ret false)
  else
   labels_Has.l1 l l2 (k + 1)
def labels_Has (l : List T_api_Label) (some_ : List T_api_Label) : Option Bool :=
 (labels_Has.l1 l some_ 0).bind fun o =>
 o.on fun j =>
 some true
theorem labels_Has_ok (l : List T_api_Label) (some_ : List T_api_Label) (r : Bool) (hm : labels_Has l some_ = some r) :
  VC Try.prog 86 [.list 92 (List.map T_api_Label.vv l), .list 92 (List.map T_api_Label.vv some_)] [] (fun zx zH => zx = .bool r ∧ zH = []) := by
 unfold labels_Has at hm
 refine VC.run (c := _) (rs := [.tmp 4]) Try.func86 R R R <| VW.seq <| VW.region <| VR.p R R (VP.assign R) <| VR.nil <| VW.seq <| VW.seq <| VW.region <| VR.p R R (VP.move R) <| VR.p R R (VP.lenT T_api_Label.vv R Try.underlying27) <| VR.p R R (VP.move R) <| VR.nil <| VW.lenL 9 R fun h3 => ?_
 have h3 := max_map h3
 obtain ⟨o, h1, h2⟩ := bnd hm
 refine VW.joinE (fun (q : Unit) => o = Out.go q) (fun (j : Unit) (gg : Unit) => []) (fun (j : Unit) (gg : Unit) => []) ?_ ?_
 ·have hm := h1
  refine VW.block (VW.loop (some_.length + 1) ?_)
  refine VL.eachS (l := some_) (R := _) (fun zl zk (zs : Unit) => labels_Has.l1 l zl zk) (fun (k : Nat) (zs : Unit) (zg : Unit) => [(0, .list 92 (List.map T_api_Label.vv l)), (9, .list 92 (List.map T_api_Label.vv some_)), (10, .int .i64 (some_.length : Int)), (11, .int .i64 (k : Int))]) (fun (k : Nat) (zs : Unit) (zg : Unit) => []) () () (Shift.pick [] R ⟨R, R, R, R, trivial⟩) h1 ?_ ?_
  ·rintro k _ _ hk hm
   rw [labels_Has.l1] at hm
   refine VW.seq <| VW.region <| VR.p R R (VP.arith R R R) <| VR.nil <| VW.seq <| VW.condF R (k_end hk) <| VW.exit ?_
   exact ⟨(), (), (Option.some.inj hm).symm, (Shift.pick [] R trivial)⟩
  ·rintro k x l2 _ _ h4 hm
   rw [labels_Has.l1] at hm
   refine VW.seq <| VW.region <| VR.p R R (VP.arith R R R) <| VR.nil <| VW.seq <| VW.condT R (k_lt h4) <| VW.skip <| VW.seq <| VW.block <| VW.seq <| VW.region <| VR.p R R (VP.glK T_api_Label.vv R R el27 h4) <| VR.p R R (VP.loadE R ld92 R) ?_
   refine VR.cons R R (VO.alloc z92 fun b => ?_)
   refine VR.cons R R (VO.storeP (i := 0) R R R ld92 R R R ?_)
   refine VR.nil <| VW.seq <| VW.region <| VR.p R R (VP.move R) <| VR.p R R (VP.fieldP R fa92_0) <| VR.p R R (VP.loadP (i := 0) R R ld9 R) ?_
   obtain ⟨r, h6, hm⟩ := bnd hm
   refine VR.cons R R (VO.callK 0 R fn101 R (labels_Get_ok l x.Key r h6) fun _ _ h9 => ?_)
   obtain ⟨rfl, rfl⟩ := h9
   refine VR.p R R (VP.move R) <| VR.p R R (VP.extract R R) <| VR.p R R (VP.extract R R) <| VR.p R R (VP.assign R) <| VR.p R R (VP.assign R) <| VR.nil <| VW.seq <| VW.region <| VR.p R R (VP.move R) <| VR.p R R (VP.not R) <| VR.p R R (VP.move R) ?_
   refine VR.sc 5 29 (.bool ((!r.2) || (!(V.seq r.1 x.Val)))) (fun K' J => ?_) ?_
   ·rcases Bool.eq_false_or_eq_true (!r.2) with h7 | h7
    ·refine VR.skipG R R R R h7 <| VR.skipG R R R R h7 <| VR.skipG R R R R h7 <| VR.skipG R R R R h7 <| VR.p R R (VP.pickB true R h7 R) ?_
     exact J [_, _, _, _] _ R (orT h7)
    ·refine VR.pG R R R R h7 (VP.move R) <| VR.pG R R R R h7 (VP.fieldP R fa92_1) <| VR.pG R R R R h7 (VP.loadP (i := 0) R R ld9 R) <| VR.pG R R R R h7 (VP.strop R R R) <| VR.p R R (VP.pickB false R h7 R) ?_
     exact J [_, _, _, _] _ R (orF h7)
   ·refine VR.nil ?_
    rcases ite_or hm with ⟨h8, hm⟩ | ⟨h8, hm⟩
    ·refine VW.condT R h8 <| VW.seq <| VW.region <| VR.p R R (VP.assign R) <| VR.nil ?_
     obtain rfl := Option.some.inj hm
     have hm := Out.ret_on h2
     obtain rfl := Option.some.inj hm
     exact VW.ret ⟨.inl R, _, .cons (.tmp _ _ R) .nil, [], _, R, R, R⟩
    ·have h8 := bf h8
     refine VW.condF R h8 <| VW.skip <| VW.region <| VR.p R R (VP.arith R R R) <| VR.p R R (VP.move R) <| VR.nil ?_
     exact ⟨(), (), hm, (Shift.pick [] R ⟨R, R, R, congrArg some (k_next h4 h3), trivial⟩)⟩
 ·rintro j _ rfl
  have hm := Out.go_on h2
  refine VW.seq <| VW.region <| VR.p R R (VP.assign R) <| VR.nil ?_
  obtain rfl := Option.some.inj hm
  exact VW.ret ⟨.inl R, _, .cons (.tmp _ _ R) .nil, [], _, R, R, R⟩

/-! trireme/labels.among -/
def labels_among.l1 (s : ByteArray) : List ByteArray → Nat → Option (Out Bool Unit)
 | [], k => some (Out.go ())
 | x :: l2, k =>
  if (V.seq x s) = true then
   some (Out.ret true)
  else
   labels_among.l1 s l2 (k + 1)
def labels_among (l : List ByteArray) (s : ByteArray) : Option Bool :=
 (labels_among.l1 s l 0).bind fun o =>
 o.on fun j =>
 some false
theorem labels_among_ok (l : List ByteArray) (s : ByteArray) (r : Bool) (hm : labels_among l s = some r) :
  VC Try.prog 110 [.list 9 (List.map VV.str l), .str s] [] (fun zx zH => zx = .bool r ∧ zH = []) := by
 unfold labels_among at hm
 refine VC.run (c := _) (rs := [.tmp 4]) Try.func110 R R R <| VW.seq <| VW.region <| VR.p R R (VP.assign R) <| VR.nil <| VW.seq <| VW.seq <| VW.region <| VR.p R R (VP.move R) <| VR.p R R (VP.lenT VV.str R Try.underlying66) <| VR.p R R (VP.move R) <| VR.nil <| VW.lenL 7 R fun h3 => ?_
 have h3 := max_map h3
 obtain ⟨o, h1, h2⟩ := bnd hm
 refine VW.joinE (fun (q : Unit) => o = Out.go q) (fun (j : Unit) (gg : Unit) => []) (fun (j : Unit) (gg : Unit) => []) ?_ ?_
 ·have hm := h1
  refine VW.block (VW.loop (l.length + 1) ?_)
  refine VL.eachS (l := l) (R := _) (fun zl zk (zs : Unit) => labels_among.l1 s zl zk) (fun (k : Nat) (zs : Unit) (zg : Unit) => [(1, .str s), (7, .list 9 (List.map VV.str l)), (8, .int .i64 (l.length : Int)), (9, .int .i64 (k : Int))]) (fun (k : Nat) (zs : Unit) (zg : Unit) => []) () () (Shift.pick [] R ⟨R, R, R, R, trivial⟩) h1 ?_ ?_
  ·rintro k _ _ hk hm
   rw [labels_among.l1] at hm
   refine VW.seq <| VW.region <| VR.p R R (VP.arith R R R) <| VR.nil <| VW.seq <| VW.condF R (k_end hk) <| VW.exit ?_
   exact ⟨(), (), (Option.some.inj hm).symm, (Shift.pick [] R trivial)⟩
  ·rintro k x l2 _ _ h4 hm
   rw [labels_among.l1] at hm
   refine VW.seq <| VW.region <| VR.p R R (VP.arith R R R) <| VR.nil <| VW.seq <| VW.condT R (k_lt h4) <| VW.skip <| VW.seq <| VW.block <| VW.seq <| VW.region <| VR.p R R (VP.glK VV.str R R el66 h4) <| VR.p R R (VP.loadE R ld9 R) <| VR.p R R (VP.assign R) <| VR.nil <| VW.seq <| VW.region <| VR.p R R (VP.move R) <| VR.p R R (VP.move R) <| VR.p R R (VP.strop R R R) <| VR.nil ?_
   rcases ite_or hm with ⟨h5, hm⟩ | ⟨h5, hm⟩
   ·refine VW.condT R h5 <| VW.seq <| VW.region <| VR.p R R (VP.assign R) <| VR.nil ?_
    obtain rfl := Option.some.inj hm
    have hm := Out.ret_on h2
    obtain rfl := Option.some.inj hm
    exact VW.ret ⟨.inl R, _, .cons (.tmp _ _ R) .nil, [], _, R, R, R⟩
   ·have h5 := bf h5
    refine VW.condF R h5 <| VW.skip <| VW.region <| VR.p R R (VP.arith R R R) <| VR.p R R (VP.move R) <| VR.nil ?_
    exact ⟨(), (), hm, (Shift.pick [] R ⟨R, R, R, congrArg some (k_next h4 h3), trivial⟩)⟩
 ·rintro j _ rfl
  have hm := Out.go_on h2
  refine VW.seq <| VW.region <| VR.p R R (VP.assign R) <| VR.nil ?_
  obtain rfl := Option.some.inj hm
  exact VW.ret ⟨.inl R, _, .cons (.tmp _ _ R) .nil, [], _, R, R, R⟩

/-! trireme/quant.head -/
def quant_head.l1 (s : ByteArray) : Nat → Int → Option Int
 | 0, _ => none
 | n4 + 1, n2 =>
  (if (decide (n2 < (s.size : Int))) = true then (V.gi s n2).bind fun v =>
  some (decide (v ≥ (48 : Int))) else some false).bind fun c =>
  (if c = true then (V.gi s n2).bind fun v2 =>
  some (decide (v2 ≤ (57 : Int))) else some false).bind fun c2 =>
  if c2 = true then
   quant_head.l1 s n4 (IntKind.i64.wrap (n2 + (1 : Int)))
  else
   some n2
def quant_head (s : ByteArray) : Option Int :=
 (quant_head.l1 s FU (0 : Int)).bind fun n32 =>
 some n32
theorem quant_head_ok (s : ByteArray) (r : Int) (hm : quant_head s = some r) :
  VC Try.prog 115 [.str s] [] (fun zx zH => zx = .int .i64 r ∧ zH = []) := by
 unfold quant_head at hm
 refine VC.run (c := _) (rs := [.tmp 2]) Try.func115 R R R <| VW.seq <| VW.region <| VR.p R R (VP.assign R) <| VR.nil <| VW.seq <| VW.region <| VR.p R R (VP.assign R) <| VR.nil ?_
 obtain ⟨o, h1, h2⟩ := bnd hm
 refine VW.join (fun (q : Int) => q = o) (fun (n32 : Int) (gg : Unit) => [(3, .int .i64 n32)]) (fun (n32 : Int) (gg : Unit) => []) ?_ ?_
 ·have hm := h1
  refine VW.block (VW.loop FU ?_)
  refine VL.fuelS (R := _) (fun zn (zs : Int) => quant_head.l1 s zn zs) (fun (zs : Int) (zg : Unit) => [(0, .str s), (3, .int .i64 zs)]) (fun (zs : Int) (zg : Unit) => []) (0 : Int) () (fun zs => R) (Shift.pick [] R ⟨R, R, trivial⟩) h1 ?_
  rintro n4 n2 _ hm
  rw [quant_head.l1] at hm
  refine VW.seq <| VW.seq <| VW.region <| VR.p R R (VP.move R) <| VR.p R R (VP.move R) <| VR.p R R (VP.lenS R Try.underlying9) <| VR.p R R (VP.arith R R R) <| VR.p R R (VP.move R) ?_
  obtain ⟨c, h5, hm⟩ := bnd hm
  refine VR.sc 5 13 (.bool c) (fun K' J => ?_) ?_
  ·have hm := h5
   rcases ite_or hm with ⟨h3, hm⟩ | ⟨h3, hm⟩
   ·refine VR.pG R R R R h3 (VP.move R) <| VR.pG R R R R h3 (VP.move R) ?_
    obtain ⟨v, h4, hm⟩ := bnd hm
    refine VR.pG R R R R h3 (VP.gi R R Try.underlying9 h4) <| VR.pG R R R R h3 (VP.arith R R R) <| VR.p R R (VP.pickB true R h3 R) ?_
    exact J [_, _, _, _] _ R (congrArg VV.bool (Option.some.inj hm))
   ·have h3 := bf h3
    refine VR.skipG R R R R h3 <| VR.skipG R R R R h3 <| VR.skipG R R R R h3 <| VR.skipG R R R R h3 <| VR.p R R (VP.pickB false R h3 R) ?_
    exact J [_, _, _, _] _ R (congrArg VV.bool (Option.some.inj hm))
  ·refine VR.p R R (VP.move R) ?_
   obtain ⟨c2, h8, hm⟩ := bnd hm
   refine VR.sc 5 19 (.bool c2) (fun K' J => ?_) ?_
   ·have hm := h8
    rcases ite_or hm with ⟨h6, hm⟩ | ⟨h6, hm⟩
    ·refine VR.pG R R R R h6 (VP.move R) <| VR.pG R R R R h6 (VP.move R) ?_
     obtain ⟨v2, h7, hm⟩ := bnd hm
     refine VR.pG R R R R h6 (VP.gi R R Try.underlying9 h7) <| VR.pG R R R R h6 (VP.arith R R R) <| VR.p R R (VP.pickB true R h6 R) ?_
     exact J [_, _, _, _] _ R (congrArg VV.bool (Option.some.inj hm))
    ·have h6 := bf h6
     refine VR.skipG R R R R h6 <| VR.skipG R R R R h6 <| VR.skipG R R R R h6 <| VR.skipG R R R R h6 <| VR.p R R (VP.pickB false R h6 R) ?_
     exact J [_, _, _, _] _ R (congrArg VV.bool (Option.some.inj hm))
   ·refine VR.nil ?_
    rcases ite_or hm with ⟨h9, hm⟩ | ⟨h9, hm⟩
    ·refine VW.condT R h9 <| VW.skip <| VW.block <| VW.region <| VR.p R R (VP.move R) <| VR.p R R (VP.arith R R R) <| VR.p R R (VP.assign R) <| VR.nil ?_
     exact ⟨(IntKind.i64.wrap (n2 + (1 : Int))), (), hm, (Shift.pick [] R ⟨R, R, trivial⟩)⟩
    ·have h9 := bf h9
     refine VW.condF R h9 <| VW.exit ?_
     exact ⟨n2, (), Option.some.inj hm, (Shift.pick [] R ⟨R, trivial⟩)⟩
 ·rintro n32 _ rfl
  have hm := h2
  refine VW.seq <| VW.region <| VR.p R R (VP.move R) <| VR.p R R (VP.assign R) <| VR.nil ?_
  obtain rfl := Option.some.inj hm
  exact VW.ret ⟨.inl R, _, .cons (.tmp _ _ R) .nil, [], _, R, R, R⟩

/-! trireme/quant.value -/
def quant_value.l1 (s : ByteArray) (most : Int) : Nat → Int → Int → Option (Out (Int × Bool) Int)
 | 0, _, _ => none
 | n4 + 1, n2, v2 =>
  if (decide (v2 < (s.size : Int))) = true then
   (V.gi s v2).bind fun v3 =>
   (V.quo (IntKind.i64.wrap (most - (IntKind.i64.wrap (IntKind.u8.wrap (v3 - (48 : Int)))))) (10 : Int)).bind fun v4 =>
   if (decide (n2 > (IntKind.i64.wrap v4))) = true then
    some (Out.ret ((0 : Int), false))
   else
    quant_value.l1 s most n4 (IntKind.i64.wrap ((IntKind.i64.wrap ((10 : Int) * n2)) + (IntKind.i64.wrap (IntKind.u8.wrap (v3 - (48 : Int)))))) (IntKind.i64.wrap (v2 + (1 : Int)))
  else
   some (Out.go n2)
def quant_value (s : ByteArray) (most : Int) : Option (Int × Bool) :=
 (quant_value.l1 s most FU (0 : Int) (0 : Int)).bind fun o =>
 o.on fun n32 =>
 some (n32, true)
theorem quant_value_ok (s : ByteArray) (most : Int) (r : Int × Bool) (hm : quant_value s most = some r) :
  VC Try.prog 116 [.str s, .int .i64 most] [] (fun zx zH => zx = .tup [.int .i64 r.1, .bool r.2] ∧ zH = []) := by
 unfold quant_value at hm
 refine VC.run (c := _) (rs := [.tmp 4, .tmp 5]) Try.func116 R R R <| VW.seq <| VW.region <| VR.p R R (VP.assign R) <| VR.p R R (VP.assign R) <| VR.nil <| VW.seq <| VW.region <| VR.p R R (VP.assign R) <| VR.nil <| VW.seq <| VW.seq <| VW.region <| VR.p R R (VP.move R) <| VR.p R R (VP.lenS R Try.underlying9) <| VR.p R R (VP.move R) <| VR.nil ?_
 obtain ⟨o, h1, h2⟩ := bnd hm
 refine VW.joinE (fun (q : Int) => o = Out.go q) (fun (n32 : Int) (gg : Unit) => [(6, .int .i64 n32)]) (fun (n32 : Int) (gg : Unit) => []) ?_ ?_
 ·have hm := h1
  refine VW.block (VW.loop FU ?_)
  refine VL.fuelS (R := _) (fun zn (zs : Int × Int) => quant_value.l1 s most zn zs.1 zs.2) (fun (zs : Int × Int) (zg : Unit) => [(0, .str s), (1, .int .i64 most), (6, .int .i64 zs.1), (10, .int .i64 (s.size : Int)), (11, .int .i64 zs.2)]) (fun (zs : Int × Int) (zg : Unit) => []) ((0 : Int), (0 : Int)) () (fun zs => R) (Shift.pick [] R ⟨R, R, R, R, R, trivial⟩) h1 ?_
  rintro n4 ⟨n2, v2⟩ _ hm
  rw [quant_value.l1] at hm
  refine VW.seq <| VW.region <| VR.p R R (VP.arith R R R) <| VR.nil <| VW.seq ?_
  rcases ite_or hm with ⟨h3, hm⟩ | ⟨h3, hm⟩
  ·refine VW.condT R h3 <| VW.skip <| VW.seq <| VW.block <| VW.seq <| VW.region <| VR.p R R (VP.move R) <| VR.p R R (VP.assign R) <| VR.nil <| VW.seq <| VW.region <| VR.p R R (VP.move R) <| VR.p R R (VP.move R) ?_
   obtain ⟨v3, h4, hm⟩ := bnd hm
   refine VR.p R R (VP.gi R R Try.underlying9 h4) <| VR.p R R (VP.arith R R R) <| VR.p R R (VP.convI Try.underlying5 Try.underlying3 R) <| VR.p R R (VP.assign R) <| VR.nil <| VW.seq <| VW.seq <| VW.region <| VR.p R R (VP.move R) <| VR.p R R (VP.move R) <| VR.p R R (VP.move R) <| VR.p R R (VP.arith R R R) ?_
   obtain ⟨v4, h5, hm⟩ := bnd hm
   refine VR.p R R (VP.quoT R R h5) <| VR.p R R (VP.arith R R R) <| VR.nil ?_
   rcases ite_or hm with ⟨h6, hm⟩ | ⟨h6, hm⟩
   ·refine VW.condT R h6 <| VW.seq <| VW.region <| VR.p R R (VP.assign R) <| VR.p R R (VP.assign R) <| VR.nil ?_
    obtain rfl := Option.some.inj hm
    have hm := Out.ret_on h2
    obtain rfl := Option.some.inj hm
    exact VW.ret ⟨.inl R, _, .cons (.tmp _ _ R) (.cons (.tmp _ _ R) .nil), [], _, R, R, R⟩
   ·have h6 := bf h6
    refine VW.condF R h6 <| VW.skip <| VW.region <| VR.p R R (VP.move R) <| VR.p R R (VP.arith R R R) <| VR.p R R (VP.move R) <| VR.p R R (VP.arith R R R) <| VR.p R R (VP.assign R) <| VR.nil <| VW.region <| VR.p R R (VP.arith R R R) <| VR.p R R (VP.move R) <| VR.nil ?_
    exact ⟨((IntKind.i64.wrap ((IntKind.i64.wrap ((10 : Int) * n2)) + (IntKind.i64.wrap (IntKind.u8.wrap (v3 - (48 : Int)))))), (IntKind.i64.wrap (v2 + (1 : Int)))), (), hm, (Shift.pick [] R ⟨R, R, R, R, R, trivial⟩)⟩
  ·have h3 := bf h3
   refine VW.condF R h3 <| VW.exit ?_
   exact ⟨n2, (), (Option.some.inj hm).symm, (Shift.pick [] R ⟨R, trivial⟩)⟩
 ·rintro n32 _ rfl
  have hm := Out.go_on h2
  refine VW.seq <| VW.region <| VR.p R R (VP.move R) <| VR.p R R (VP.assign R) <| VR.p R R (VP.assign R) <| VR.nil ?_
  obtain rfl := Option.some.inj hm
  exact VW.ret ⟨.inl R, _, .cons (.tmp _ _ R) (.cons (.tmp _ _ R) .nil), [], _, R, R, R⟩

/-! trireme/quant.Number -/
def quant_Number (s : ByteArray) : Option (Int × Int) :=
 (if (V.seq s (⟨#[]⟩ : ByteArray)) = true then some true else (quant_head s).bind fun r =>
 some (r != (s.size : Int))).bind fun c =>
 if c = true then
  some ((0 : Int), (8 : Int))
 else
  (quant_value s (1125899906842624 : Int)).bind fun r2 =>
  if (!r2.2) = true then
   some ((0 : Int), (10 : Int))
  else
   some (r2.1, (0 : Int))
theorem quant_Number_ok (s : ByteArray) (r : Int × Int) (hm : quant_Number s = some r) :
  VC Try.prog 114 [.str s] [] (fun zx zH => zx = .tup [.int .i64 r.1, .int .i64 r.2] ∧ zH = []) := by
 unfold quant_Number at hm
 refine VC.run (c := _) (rs := [.tmp 2, .tmp 3]) Try.func114 R R R <| VW.seq <| VW.region <| VR.p R R (VP.assign R) <| VR.p R R (VP.assign R) <| VR.nil <| VW.seq <| VW.seq <| VW.region <| VR.p R R (VP.move R) <| VR.p R R (VP.strop R R R) <| VR.p R R (VP.move R) ?_
 obtain ⟨c, h4, hm⟩ := bnd hm
 refine VR.sc 6 14 (.bool c) (fun K' J => ?_) ?_
 ·have hm := h4
  rcases ite_or hm with ⟨h1, hm⟩ | ⟨h1, hm⟩
  ·refine VR.skipG R R R R h1 <| VR.skipG R R R R h1 <| VR.skipG R R R R h1 <| VR.skipG R R R R h1 <| VR.skipG R R R R h1 <| VR.p R R (VP.pickB true R h1 R) ?_
   exact J [_, _, _, _, _] _ R (congrArg VV.bool (Option.some.inj hm))
  ·have h1 := bf h1
   refine VR.pG R R R R h1 (VP.move R) ?_
   obtain ⟨r, h2, hm⟩ := bnd hm
   refine VR.consG R R R R h1 (VO.callK 0 R fn115 R (quant_head_ok s r h2) fun _ _ h3 => ?_)
   obtain ⟨rfl, rfl⟩ := h3
   refine VR.pG R R R R h1 (VP.move R) <| VR.pG R R R R h1 (VP.lenS R Try.underlying9) <| VR.pG R R R R h1 (VP.arith R R R) <| VR.p R R (VP.pickB false R h1 R) ?_
   exact J [_, _, _, _, _] _ R (congrArg VV.bool (Option.some.inj hm))
 ·refine VR.nil ?_
  rcases ite_or hm with ⟨h5, hm⟩ | ⟨h5, hm⟩
  ·refine VW.condT R h5 <| VW.seq <| VW.region <| VR.p R R (VP.assign R) <| VR.p R R (VP.assign R) <| VR.nil ?_
   obtain rfl := Option.some.inj hm
   exact VW.ret ⟨.inl R, _, .cons (.tmp _ _ R) (.cons (.tmp _ _ R) .nil), [], _, R, R, R⟩
  ·have h5 := bf h5
   refine VW.condF R h5 <| VW.skip <| VW.seq <| VW.region <| VR.p R R (VP.move R) ?_
   obtain ⟨r2, h6, hm⟩ := bnd hm
   refine VR.cons R R (VO.callK 0 R fn116 R (quant_value_ok s (1125899906842624 : Int) r2 h6) fun _ _ h8 => ?_)
   obtain ⟨rfl, rfl⟩ := h8
   refine VR.p R R (VP.move R) <| VR.p R R (VP.extract R R) <| VR.p R R (VP.extract R R) <| VR.p R R (VP.assign R) <| VR.p R R (VP.assign R) <| VR.nil <| VW.seq <| VW.seq <| VW.region <| VR.p R R (VP.move R) <| VR.p R R (VP.not R) <| VR.nil ?_
   rcases ite_or hm with ⟨h7, hm⟩ | ⟨h7, hm⟩
   ·refine VW.condT R h7 <| VW.seq <| VW.region <| VR.p R R (VP.assign R) <| VR.p R R (VP.assign R) <| VR.nil ?_
    obtain rfl := Option.some.inj hm
    exact VW.ret ⟨.inl R, _, .cons (.tmp _ _ R) (.cons (.tmp _ _ R) .nil), [], _, R, R, R⟩
   ·have h7 := bf h7
    refine VW.condF R h7 <| VW.skip <| VW.seq <| VW.region <| VR.p R R (VP.move R) <| VR.p R R (VP.assign R) <| VR.p R R (VP.assign R) <| VR.nil ?_
    obtain rfl := Option.some.inj hm
    exact VW.ret ⟨.inl R, _, .cons (.tmp _ _ R) (.cons (.tmp _ _ R) .nil), [], _, R, R, R⟩

/-! trireme/labels.number -/
def labels_number (s : ByteArray) : Option (Int × Bool) :=
 (quant_Number s).bind fun r =>
 some (r.1, (r.2 == (0 : Int)))
theorem labels_number_ok (s : ByteArray) (r : Int × Bool) (hm : labels_number s = some r) :
  VC Try.prog 111 [.str s] [] (fun zx zH => zx = .tup [.int .i64 r.1, .bool r.2] ∧ zH = []) := by
 unfold labels_number at hm
 refine VC.run (c := _) (rs := [.tmp 2, .tmp 3]) Try.func111 R R R <| VW.seq <| VW.region <| VR.p R R (VP.assign R) <| VR.p R R (VP.assign R) <| VR.nil <| VW.seq <| VW.region <| VR.p R R (VP.move R) ?_
 obtain ⟨r, h1, hm⟩ := bnd hm
 refine VR.cons R R (VO.callK 0 R fn114 R (quant_Number_ok s r h1) fun _ _ h2 => ?_)
 obtain ⟨rfl, rfl⟩ := h2
 refine VR.p R R (VP.move R) <| VR.p R R (VP.extract R R) <| VR.p R R (VP.extract R R) <| VR.p R R (VP.assign R) <| VR.p R R (VP.assign R) <| VR.nil <| VW.seq <| VW.region <| VR.p R R (VP.move R) <| VR.p R R (VP.move R) <| VR.p R R (VP.arith R R R) <| VR.p R R (VP.assign R) <| VR.p R R (VP.assign R) <| VR.nil ?_
 obtain rfl := Option.some.inj hm
 exact VW.ret ⟨.inl R, _, .cons (.tmp _ _ R) (.cons (.tmp _ _ R) .nil), [], _, R, R, R⟩

/-! trireme/labels.Meets -/
def labels_Meets (l : List T_api_Label) (t : T_api_Term) : Option Bool :=
 (labels_Get l t.Key).bind fun r =>
 if (t.Op == (1 : Int)) = true then
  (if r.2 = true then (labels_among t.Vals r.1).bind fun r2 =>
  some r2 else some false).bind fun c =>
  some c
 else
  if (t.Op == (2 : Int)) = true then
   (if (!r.2) = true then some true else (labels_among t.Vals r.1).bind fun r3 =>
   some (!r3)).bind fun c2 =>
   some c2
  else
   if (t.Op == (3 : Int)) = true then
    some r.2
   else
    if (t.Op == (4 : Int)) = true then
     some (!r.2)
    else
     if ((!r.2) || ((t.Vals.length : Int) != (1 : Int))) = true then
      some false
     else
      (labels_number r.1).bind fun r4 =>
      (V.gl t.Vals (0 : Int)).bind fun x =>
      (labels_number x).bind fun r5 =>
      if (t.Op == (6 : Int)) = true then
       some (r4.2 && (decide (r5.1 > r4.1)))
      else
       some (r4.2 && (decide (r4.1 > r5.1)))
theorem labels_Meets_ok (l : List T_api_Label) (t : T_api_Term) (r : Bool) (hm : labels_Meets l t = some r) :
  VC Try.prog 102 [.list 92 (List.map T_api_Label.vv l), T_api_Term.vv t] [] (fun zx zH => zx = .bool r ∧ zH = []) := by
 unfold labels_Meets at hm
 refine VC.run (c := _) (rs := [.tmp 4]) Try.func102 R R R <| VW.seq <| VW.region ?_
 refine VR.cons R R (VO.box R R fun b => ?_)
 refine VR.p R R (VP.assign R) <| VR.nil <| VW.seq <| VW.region <| VR.p R R (VP.move R) <| VR.p R R (VP.fieldP R fa90_0) <| VR.p R R (VP.loadP (i := 0) R R ld9 R) ?_
 obtain ⟨r, h2, hm⟩ := bnd hm
 refine VR.cons R R (VO.callK 0 R fn101 R (labels_Get_ok l t.Key r h2) fun _ _ h25 => ?_)
 obtain ⟨rfl, rfl⟩ := h25
 refine VR.p R R (VP.move R) <| VR.p R R (VP.extract R R) <| VR.p R R (VP.extract R R) <| VR.p R R (VP.assign R) <| VR.p R R (VP.assign R) <| VR.nil <| VW.seq <| VW.seq <| VW.region <| VR.p R R (VP.fieldP R fa90_1) <| VR.p R R (VP.loadP (i := 0) R R ld3 R) <| VR.nil <| VW.block <| VW.seq <| VW.region <| VR.p R R (VP.arith R R R) <| VR.p R R (VP.assign R) <| VR.nil ?_
 rcases ite_or hm with ⟨h3, hm⟩ | ⟨h3, hm⟩
 ·refine VW.condT R h3 <| VW.seq <| VW.region <| VR.p R R (VP.move R) <| VR.p R R (VP.move R) ?_
  obtain ⟨c, h7, hm⟩ := bnd hm
  refine VR.sc 5 28 (.bool c) (fun K' J => ?_) ?_
  ·have hm := h7
   rcases ite_or hm with ⟨h4, hm⟩ | ⟨h4, hm⟩
   ·refine VR.pG R R R R h4 (VP.fieldP R fa90_2) <| VR.pG R R R R h4 (VP.loadP (i := 0) R R ld66 R) <| VR.pG R R R R h4 (VP.move R) ?_
    obtain ⟨r2, h5, hm⟩ := bnd hm
    refine VR.consG R R R R h4 (VO.callK 0 R fn110 R (labels_among_ok t.Vals r.1 r2 h5) fun _ _ h6 => ?_)
    obtain ⟨rfl, rfl⟩ := h6
    refine VR.p R R (VP.pickB true R h4 R) ?_
    exact J [_, _, _, _] _ R (congrArg VV.bool (Option.some.inj hm))
   ·have h4 := bf h4
    refine VR.skipG R R R R h4 <| VR.skipG R R R R h4 <| VR.skipG R R R R h4 <| VR.skipG R R R R h4 <| VR.p R R (VP.pickB false R h4 R) ?_
    exact J [_, _, _, _] _ R (congrArg VV.bool (Option.some.inj hm))
  ·refine VR.p R R (VP.assign R) <| VR.nil ?_
   obtain rfl := Option.some.inj hm
   exact VW.ret ⟨.inl R, _, .cons (.tmp _ _ R) .nil, [], _, R, R, R⟩
 ·have h3 := bf h3
  refine VW.condF R h3 <| VW.seq <| VW.region <| VR.p R R (VP.arith R R R) <| VR.p R R (VP.assign R) <| VR.nil ?_
  rcases ite_or hm with ⟨h8, hm⟩ | ⟨h8, hm⟩
  ·refine VW.condT R h8 <| VW.seq <| VW.region <| VR.p R R (VP.move R) <| VR.p R R (VP.not R) <| VR.p R R (VP.move R) ?_
   obtain ⟨c2, h12, hm⟩ := bnd hm
   refine VR.sc 6 39 (.bool c2) (fun K' J => ?_) ?_
   ·have hm := h12
    rcases ite_or hm with ⟨h9, hm⟩ | ⟨h9, hm⟩
    ·refine VR.skipG R R R R h9 <| VR.skipG R R R R h9 <| VR.skipG R R R R h9 <| VR.skipG R R R R h9 <| VR.skipG R R R R h9 <| VR.p R R (VP.pickB true R h9 R) ?_
     exact J [_, _, _, _, _] _ R (congrArg VV.bool (Option.some.inj hm))
    ·have h9 := bf h9
     refine VR.pG R R R R h9 (VP.fieldP R fa90_2) <| VR.pG R R R R h9 (VP.loadP (i := 0) R R ld66 R) <| VR.pG R R R R h9 (VP.move R) ?_
     obtain ⟨r3, h10, hm⟩ := bnd hm
     refine VR.consG R R R R h9 (VO.callK 0 R fn110 R (labels_among_ok t.Vals r.1 r3 h10) fun _ _ h11 => ?_)
     obtain ⟨rfl, rfl⟩ := h11
     refine VR.pG R R R R h9 (VP.not R) <| VR.p R R (VP.pickB false R h9 R) ?_
     exact J [_, _, _, _, _] _ R (congrArg VV.bool (Option.some.inj hm))
   ·refine VR.p R R (VP.assign R) <| VR.nil ?_
    obtain rfl := Option.some.inj hm
    exact VW.ret ⟨.inl R, _, .cons (.tmp _ _ R) .nil, [], _, R, R, R⟩
  ·have h8 := bf h8
   refine VW.condF R h8 <| VW.seq <| VW.region <| VR.p R R (VP.arith R R R) <| VR.p R R (VP.assign R) <| VR.nil ?_
   rcases ite_or hm with ⟨h13, hm⟩ | ⟨h13, hm⟩
   ·refine VW.condT R h13 <| VW.seq <| VW.region <| VR.p R R (VP.move R) <| VR.p R R (VP.assign R) <| VR.nil ?_
    obtain rfl := Option.some.inj hm
    exact VW.ret ⟨.inl R, _, .cons (.tmp _ _ R) .nil, [], _, R, R, R⟩
   ·have h13 := bf h13
    refine VW.condF R h13 <| VW.seq <| VW.region <| VR.p R R (VP.arith R R R) <| VR.p R R (VP.assign R) <| VR.nil ?_
    rcases ite_or hm with ⟨h14, hm⟩ | ⟨h14, hm⟩
    ·refine VW.condT R h14 <| VW.seq <| VW.region <| VR.p R R (VP.move R) <| VR.p R R (VP.not R) <| VR.p R R (VP.assign R) <| VR.nil ?_
     obtain rfl := Option.some.inj hm
     exact VW.ret ⟨.inl R, _, .cons (.tmp _ _ R) .nil, [], _, R, R, R⟩
    ·have h14 := bf h14
     refine VW.condF R h14 <| VW.skip <| VW.seq <| VW.seq <| VW.region <| VR.p R R (VP.move R) <| VR.p R R (VP.not R) <| VR.p R R (VP.move R) ?_
     refine VR.sc 5 54 (.bool ((!r.2) || ((t.Vals.length : Int) != (1 : Int)))) (fun K' J => ?_) ?_
     ·rcases Bool.eq_false_or_eq_true (!r.2) with h15 | h15
      ·refine VR.skipG R R R R h15 <| VR.skipG R R R R h15 <| VR.skipG R R R R h15 <| VR.skipG R R R R h15 <| VR.p R R (VP.pickB true R h15 R) ?_
       exact J [_, _, _, _] _ R (orT h15)
      ·refine VR.pG R R R R h15 (VP.fieldP R fa90_2) <| VR.pG R R R R h15 (VP.loadP (i := 0) R R ld66 R) <| VR.pG R R R R h15 (VP.lenT VV.str R Try.underlying66) <| VR.pG R R R R h15 (VP.arith R R R) <| VR.p R R (VP.pickB false R h15 R) ?_
       exact J [_, _, _, _] _ R (orF h15)
     ·refine VR.nil ?_
      rcases ite_or hm with ⟨h16, hm⟩ | ⟨h16, hm⟩
      ·refine VW.condT R h16 <| VW.seq <| VW.region <| VR.p R R (VP.assign R) <| VR.nil ?_
       obtain rfl := Option.some.inj hm
       exact VW.ret ⟨.inl R, _, .cons (.tmp _ _ R) .nil, [], _, R, R, R⟩
      ·have h16 := bf h16
       refine VW.condF R h16 <| VW.skip <| VW.seq <| VW.region <| VR.p R R (VP.move R) ?_
       obtain ⟨r4, h17, hm⟩ := bnd hm
       refine VR.cons R R (VO.callK 0 R fn111 R (labels_number_ok r.1 r4 h17) fun _ _ h24 => ?_)
       obtain ⟨rfl, rfl⟩ := h24
       refine VR.p R R (VP.move R) <| VR.p R R (VP.extract R R) <| VR.p R R (VP.extract R R) <| VR.p R R (VP.assign R) <| VR.p R R (VP.assign R) <| VR.nil <| VW.seq <| VW.region <| VR.p R R (VP.fieldP R fa90_2) <| VR.p R R (VP.loadP (i := 0) R R ld66 R) ?_
       obtain ⟨x, h18, hm⟩ := bnd hm
       refine VR.p R R (VP.glE VV.str R R el66 h18) <| VR.p R R (VP.loadE R ld9 R) ?_
       obtain ⟨r5, h19, hm⟩ := bnd hm
       refine VR.cons R R (VO.callK 0 R fn111 R (labels_number_ok x r5 h19) fun _ _ h23 => ?_)
       obtain ⟨rfl, rfl⟩ := h23
       refine VR.p R R (VP.move R) <| VR.p R R (VP.extract R R) <| VR.p R R (VP.extract R R) <| VR.p R R (VP.assign R) <| VR.p R R (VP.assign R) <| VR.nil <| VW.seq <| VW.seq <| VW.region <| VR.p R R (VP.fieldP R fa90_1) <| VR.p R R (VP.loadP (i := 0) R R ld3 R) <| VR.p R R (VP.arith R R R) <| VR.nil ?_
       rcases ite_or hm with ⟨h20, hm⟩ | ⟨h20, hm⟩
       ·refine VW.condT R h20 <| VW.region <| VR.p R R (VP.move R) <| VR.p R R (VP.move R) <| VR.p R R (VP.assign R) <| VR.p R R (VP.assign R) <| VR.nil <| VW.seq <| VW.region <| VR.p R R (VP.move R) <| VR.p R R (VP.move R) ?_
        refine VR.sc 4 78 (.bool (r4.2 && (decide (r5.1 > r4.1)))) (fun K' J => ?_) ?_
        ·rcases Bool.eq_false_or_eq_true r4.2 with h21 | h21
         ·refine VR.pG R R R R h21 (VP.move R) <| VR.pG R R R R h21 (VP.move R) <| VR.pG R R R R h21 (VP.arith R R R) <| VR.p R R (VP.pickB true R h21 R) ?_
          exact J [_, _, _] _ R (andT h21)
         ·refine VR.skipG R R R R h21 <| VR.skipG R R R R h21 <| VR.skipG R R R R h21 <| VR.p R R (VP.pickB false R h21 R) ?_
          exact J [_, _, _] _ R (andF h21)
        ·refine VR.p R R (VP.assign R) <| VR.nil ?_
         obtain rfl := Option.some.inj hm
         exact VW.ret ⟨.inl R, _, .cons (.tmp _ _ R) .nil, [], _, R, R, R⟩
       ·have h20 := bf h20
        refine VW.condF R h20 <| VW.skip <| VW.seq <| VW.region <| VR.p R R (VP.move R) <| VR.p R R (VP.move R) ?_
        refine VR.sc 4 78 (.bool (r4.2 && (decide (r4.1 > r5.1)))) (fun K' J => ?_) ?_
        ·rcases Bool.eq_false_or_eq_true r4.2 with h22 | h22
         ·refine VR.pG R R R R h22 (VP.move R) <| VR.pG R R R R h22 (VP.move R) <| VR.pG R R R R h22 (VP.arith R R R) <| VR.p R R (VP.pickB true R h22 R) ?_
          exact J [_, _, _] _ R (andT h22)
         ·refine VR.skipG R R R R h22 <| VR.skipG R R R R h22 <| VR.skipG R R R R h22 <| VR.p R R (VP.pickB false R h22 R) ?_
          exact J [_, _, _] _ R (andF h22)
        ·refine VR.p R R (VP.assign R) <| VR.nil ?_
         obtain rfl := Option.some.inj hm
         exact VW.ret ⟨.inl R, _, .cons (.tmp _ _ R) .nil, [], _, R, R, R⟩

/-! trireme/labels.All -/
def labels_All.l1 (l : List T_api_Label) : List T_api_Term → Nat → Option (Out Bool Unit)
 | [], k => some (Out.go ())
 | x :: l2, k =>
  (labels_Meets l x).bind fun r =>
  if (!r) = true then
   some (Out.ret false)
  else
   labels_All.l1 l l2 (k + 1)
def labels_All (l : List T_api_Label) (terms : List T_api_Term) : Option Bool :=
 (labels_All.l1 l terms 0).bind fun o =>
 o.on fun j =>
 some true
theorem labels_All_ok (l : List T_api_Label) (terms : List T_api_Term) (r : Bool) (hm : labels_All l terms = some r) :
  VC Try.prog 87 [.list 92 (List.map T_api_Label.vv l), .list 90 (List.map T_api_Term.vv terms)] [] (fun zx zH => zx = .bool r ∧ zH = []) := by
 unfold labels_All at hm
 refine VC.run (c := _) (rs := [.tmp 4]) Try.func87 R R R <| VW.seq <| VW.region <| VR.p R R (VP.assign R) <| VR.nil <| VW.seq <| VW.seq <| VW.region <| VR.p R R (VP.move R) <| VR.p R R (VP.lenT T_api_Term.vv R Try.underlying35) <| VR.p R R (VP.move R) <| VR.nil <| VW.lenL 7 R fun h3 => ?_
 have h3 := max_map h3
 obtain ⟨o, h1, h2⟩ := bnd hm
 refine VW.joinE (fun (q : Unit) => o = Out.go q) (fun (j : Unit) (gg : Unit) => []) (fun (j : Unit) (gg : Unit) => []) ?_ ?_
 ·have hm := h1
  refine VW.block (VW.loop (terms.length + 1) ?_)
  refine VL.eachS (l := terms) (R := _) (fun zl zk (zs : Unit) => labels_All.l1 l zl zk) (fun (k : Nat) (zs : Unit) (zg : Unit) => [(0, .list 92 (List.map T_api_Label.vv l)), (7, .list 90 (List.map T_api_Term.vv terms)), (8, .int .i64 (terms.length : Int)), (9, .int .i64 (k : Int))]) (fun (k : Nat) (zs : Unit) (zg : Unit) => []) () () (Shift.pick [] R ⟨R, R, R, R, trivial⟩) h1 ?_ ?_
  ·rintro k _ _ hk hm
   rw [labels_All.l1] at hm
   refine VW.seq <| VW.region <| VR.p R R (VP.arith R R R) <| VR.nil <| VW.seq <| VW.condF R (k_end hk) <| VW.exit ?_
   exact ⟨(), (), (Option.some.inj hm).symm, (Shift.pick [] R trivial)⟩
  ·rintro k x l2 _ _ h4 hm
   rw [labels_All.l1] at hm
   refine VW.seq <| VW.region <| VR.p R R (VP.arith R R R) <| VR.nil <| VW.seq <| VW.condT R (k_lt h4) <| VW.skip <| VW.seq <| VW.block <| VW.seq <| VW.region <| VR.p R R (VP.glK T_api_Term.vv R R el35 h4) <| VR.p R R (VP.loadE R ld90 R) ?_
   refine VR.cons R R (VO.alloc z90 fun b => ?_)
   refine VR.cons R R (VO.storeP (i := 0) R R R ld90 R R R ?_)
   refine VR.nil <| VW.seq <| VW.region <| VR.p R R (VP.move R) <| VR.p R R (VP.loadP (i := 0) R R ld90 R) ?_
   obtain ⟨r, h6, hm⟩ := bnd hm
   refine VR.cons R R (VO.callK 0 R fn102 R (labels_Meets_ok l x r h6) fun _ _ h8 => ?_)
   obtain ⟨rfl, rfl⟩ := h8
   refine VR.p R R (VP.not R) <| VR.nil ?_
   rcases ite_or hm with ⟨h7, hm⟩ | ⟨h7, hm⟩
   ·refine VW.condT R h7 <| VW.seq <| VW.region <| VR.p R R (VP.assign R) <| VR.nil ?_
    obtain rfl := Option.some.inj hm
    have hm := Out.ret_on h2
    obtain rfl := Option.some.inj hm
    exact VW.ret ⟨.inl R, _, .cons (.tmp _ _ R) .nil, [], _, R, R, R⟩
   ·have h7 := bf h7
    refine VW.condF R h7 <| VW.skip <| VW.region <| VR.p R R (VP.arith R R R) <| VR.p R R (VP.move R) <| VR.nil ?_
    exact ⟨(), (), hm, (Shift.pick [] R ⟨R, R, R, congrArg some (k_next h4 h3), trivial⟩)⟩
 ·rintro j _ rfl
  have hm := Out.go_on h2
  refine VW.seq <| VW.region <| VR.p R R (VP.assign R) <| VR.nil ?_
  obtain rfl := Option.some.inj hm
  exact VW.ret ⟨.inl R, _, .cons (.tmp _ _ R) .nil, [], _, R, R, R⟩

/-! trireme/taints.of -/
def taints_of (x : T_api_Taint) (effect : Int) : Option Bool :=
 some ((effect == (0 : Int)) || (x.Effect == effect))
theorem taints_of_ok (x : T_api_Taint) (effect : Int) (r : Bool) (hm : taints_of x effect = some r) :
  VC Try.prog 99 [T_api_Taint.vv x, .int .i64 effect] [] (fun zx zH => zx = .bool r ∧ zH = []) := by
 unfold taints_of at hm
 refine VC.run (c := _) (rs := [.tmp 4]) Try.func99 R R R <| VW.seq <| VW.region ?_
 refine VR.cons R R (VO.box R R fun b => ?_)
 refine VR.p R R (VP.assign R) <| VR.nil <| VW.seq <| VW.region <| VR.p R R (VP.move R) <| VR.p R R (VP.arith R R R) <| VR.p R R (VP.move R) ?_
 refine VR.sc 5 12 (.bool ((effect == (0 : Int)) || (x.Effect == effect))) (fun K' J => ?_) ?_
 ·rcases Bool.eq_false_or_eq_true (effect == (0 : Int)) with h2 | h2
  ·refine VR.skipG R R R R h2 <| VR.skipG R R R R h2 <| VR.skipG R R R R h2 <| VR.skipG R R R R h2 <| VR.p R R (VP.pickB true R h2 R) ?_
   exact J [_, _, _, _] _ R (orT h2)
  ·refine VR.pG R R R R h2 (VP.fieldP R fa96_2) <| VR.pG R R R R h2 (VP.loadP (i := 0) R R ld3 R) <| VR.pG R R R R h2 (VP.move R) <| VR.pG R R R R h2 (VP.arith R R R) <| VR.p R R (VP.pickB false R h2 R) ?_
   exact J [_, _, _, _] _ R (orF h2)
 ·refine VR.p R R (VP.assign R) <| VR.nil ?_
  obtain rfl := Option.some.inj hm
  exact VW.ret ⟨.inl R, _, .cons (.tmp _ _ R) .nil, [], _, R, R, R⟩

/-! trireme/taints.Bears -/
def taints_Bears (t : T_api_Toleration) (x : T_api_Taint) : Option Bool :=
 if ((t.Effect != (0 : Int)) && (t.Effect != x.Effect)) = true then
  some false
 else
  if ((!(V.seq t.Key (⟨#[]⟩ : ByteArray))) && (!(V.seq t.Key x.Key))) = true then
   some false
  else
   some (t.Any || (V.seq t.Val x.Val))
theorem taints_Bears_ok (t : T_api_Toleration) (x : T_api_Taint) (r : Bool) (hm : taints_Bears t x = some r) :
  VC Try.prog 108 [T_api_Toleration.vv t, T_api_Taint.vv x] [] (fun zx zH => zx = .bool r ∧ zH = []) := by
 unfold taints_Bears at hm
 refine VC.run (c := _) (rs := [.tmp 4]) Try.func108 R R R <| VW.seq <| VW.region ?_
 refine VR.cons R R (VO.box R R fun b => ?_)
 refine VR.cons R R (VO.box R R fun b2 => ?_)
 refine VR.p R R (VP.assign R) <| VR.nil <| VW.seq <| VW.block <| VW.seq <| VW.region <| VR.p R R (VP.fieldP R fa94_3) <| VR.p R R (VP.loadP (i := 1) R R ld3 R) <| VR.p R R (VP.arith R R R) <| VR.p R R (VP.move R) ?_
 refine VR.sc 6 15 (.bool ((t.Effect != (0 : Int)) && (t.Effect != x.Effect))) (fun K' J => ?_) ?_
 ·rcases Bool.eq_false_or_eq_true (t.Effect != (0 : Int)) with h3 | h3
  ·refine VR.pG R R R R h3 (VP.fieldP R fa94_3) <| VR.pG R R R R h3 (VP.loadP (i := 1) R R ld3 R) <| VR.pG R R R R h3 (VP.fieldP R fa96_2) <| VR.pG R R R R h3 (VP.loadP (i := 0) R R ld3 R) <| VR.pG R R R R h3 (VP.arith R R R) <| VR.p R R (VP.pickB true R h3 R) ?_
   exact J [_, _, _, _, _] _ R (andT h3)
  ·refine VR.skipG R R R R h3 <| VR.skipG R R R R h3 <| VR.skipG R R R R h3 <| VR.skipG R R R R h3 <| VR.skipG R R R R h3 <| VR.p R R (VP.pickB false R h3 R) ?_
   exact J [_, _, _, _, _] _ R (andF h3)
 ·refine VR.p R R (VP.assign R) <| VR.nil ?_
  rcases ite_or hm with ⟨h4, hm⟩ | ⟨h4, hm⟩
  ·refine VW.condT R h4 <| VW.seq <| VW.region <| VR.p R R (VP.assign R) <| VR.nil ?_
   obtain rfl := Option.some.inj hm
   exact VW.ret ⟨.inl R, _, .cons (.tmp _ _ R) .nil, [], _, R, R, R⟩
  ·have h4 := bf h4
   refine VW.condF R h4 <| VW.seq <| VW.region <| VR.p R R (VP.fieldP R fa94_0) <| VR.p R R (VP.loadP (i := 1) R R ld9 R) <| VR.p R R (VP.strop R R R) <| VR.p R R (VP.move R) ?_
   refine VR.sc 6 26 (.bool ((!(V.seq t.Key (⟨#[]⟩ : ByteArray))) && (!(V.seq t.Key x.Key)))) (fun K' J => ?_) ?_
   ·rcases Bool.eq_false_or_eq_true (!(V.seq t.Key (⟨#[]⟩ : ByteArray))) with h5 | h5
    ·refine VR.pG R R R R h5 (VP.fieldP R fa94_0) <| VR.pG R R R R h5 (VP.loadP (i := 1) R R ld9 R) <| VR.pG R R R R h5 (VP.fieldP R fa96_0) <| VR.pG R R R R h5 (VP.loadP (i := 0) R R ld9 R) <| VR.pG R R R R h5 (VP.strop R R R) <| VR.p R R (VP.pickB true R h5 R) ?_
     exact J [_, _, _, _, _] _ R (andT h5)
    ·refine VR.skipG R R R R h5 <| VR.skipG R R R R h5 <| VR.skipG R R R R h5 <| VR.skipG R R R R h5 <| VR.skipG R R R R h5 <| VR.p R R (VP.pickB false R h5 R) ?_
     exact J [_, _, _, _, _] _ R (andF h5)
   ·refine VR.p R R (VP.assign R) <| VR.nil ?_
    rcases ite_or hm with ⟨h6, hm⟩ | ⟨h6, hm⟩
    ·refine VW.condT R h6 <| VW.seq <| VW.region <| VR.p R R (VP.assign R) <| VR.nil ?_
     obtain rfl := Option.some.inj hm
     exact VW.ret ⟨.inl R, _, .cons (.tmp _ _ R) .nil, [], _, R, R, R⟩
    ·have h6 := bf h6
     refine VW.condF R h6 <| VW.skip <| VW.seq <| VW.region <| VR.p R R (VP.fieldP R fa94_2) <| VR.p R R (VP.loadP (i := 1) R R ld4 R) <| VR.p R R (VP.move R) ?_
     refine VR.sc 6 35 (.bool (t.Any || (V.seq t.Val x.Val))) (fun K' J => ?_) ?_
     ·rcases Bool.eq_false_or_eq_true t.Any with h7 | h7
      ·refine VR.skipG R R R R h7 <| VR.skipG R R R R h7 <| VR.skipG R R R R h7 <| VR.skipG R R R R h7 <| VR.skipG R R R R h7 <| VR.p R R (VP.pickB true R h7 R) ?_
       exact J [_, _, _, _, _] _ R (orT h7)
      ·refine VR.pG R R R R h7 (VP.fieldP R fa94_1) <| VR.pG R R R R h7 (VP.loadP (i := 1) R R ld9 R) <| VR.pG R R R R h7 (VP.fieldP R fa96_1) <| VR.pG R R R R h7 (VP.loadP (i := 0) R R ld9 R) <| VR.pG R R R R h7 (VP.strop R R R) <| VR.p R R (VP.pickB false R h7 R) ?_
       exact J [_, _, _, _, _] _ R (orF h7)
     ·refine VR.p R R (VP.assign R) <| VR.nil ?_
      obtain rfl := Option.some.inj hm
      exact VW.ret ⟨.inl R, _, .cons (.tmp _ _ R) .nil, [], _, R, R, R⟩

/-! trireme/taints.borne -/
def taints_borne.l1 (x : T_api_Taint) : List T_api_Toleration → Nat → Option (Out Bool Unit)
 | [], k => some (Out.go ())
 | x2 :: l2, k =>
  (taints_Bears x2 x).bind fun r =>
  if r = true then
   some (Out.ret true)
  else
   taints_borne.l1 x l2 (k + 1)
def taints_borne (l : List T_api_Toleration) (x : T_api_Taint) : Option Bool :=
 (taints_borne.l1 x l 0).bind fun o =>
 o.on fun j =>
 some false
theorem taints_borne_ok (l : List T_api_Toleration) (x : T_api_Taint) (r : Bool) (hm : taints_borne l x = some r) :
  VC Try.prog 100 [.list 94 (List.map T_api_Toleration.vv l), T_api_Taint.vv x] [] (fun zx zH => zx = .bool r ∧ zH = []) := by
 unfold taints_borne at hm
 refine VC.run (c := _) (rs := [.tmp 4]) Try.func100 R R R <| VW.seq <| VW.region ?_
 refine VR.cons R R (VO.box R R fun b => ?_)
 refine VR.p R R (VP.assign R) <| VR.nil <| VW.seq <| VW.seq <| VW.region <| VR.p R R (VP.move R) <| VR.p R R (VP.lenT T_api_Toleration.vv R Try.underlying36) <| VR.p R R (VP.move R) <| VR.nil <| VW.lenL 7 R fun h4 => ?_
 have h4 := max_map h4
 obtain ⟨o, h2, h3⟩ := bnd hm
 refine VW.joinE (fun (q : Unit) => o = Out.go q) (fun (j : Unit) (gg : Unit) => []) (fun (j : Unit) (gg : Unit) => []) ?_ ?_
 ·have hm := h2
  refine VW.block (VW.loop (l.length + 1) ?_)
  refine VL.eachS (l := l) (R := _) (fun zl zk (zs : Unit) => taints_borne.l1 x zl zk) (fun (k : Nat) (zs : Unit) (zg : Unit) => [(3, .ptr b 0), (7, .list 94 (List.map T_api_Toleration.vv l)), (8, .int .i64 (l.length : Int)), (9, .int .i64 (k : Int))]) (fun (k : Nat) (zs : Unit) (zg : Unit) => [.box b 96 (T_api_Taint.cells x)]) () () (Shift.pick [0] R ⟨R, R, R, R, trivial⟩) h2 ?_ ?_
  ·rintro k _ _ hk hm
   rw [taints_borne.l1] at hm
   refine VW.seq <| VW.region <| VR.p R R (VP.arith R R R) <| VR.nil <| VW.seq <| VW.condF R (k_end hk) <| VW.exit ?_
   exact ⟨(), (), (Option.some.inj hm).symm, (Shift.pick [] R trivial)⟩
  ·rintro k x2 l2 _ _ h5 hm
   rw [taints_borne.l1] at hm
   refine VW.seq <| VW.region <| VR.p R R (VP.arith R R R) <| VR.nil <| VW.seq <| VW.condT R (k_lt h5) <| VW.skip <| VW.seq <| VW.block <| VW.seq <| VW.region <| VR.p R R (VP.glK T_api_Toleration.vv R R el36 h5) <| VR.p R R (VP.loadE R ld94 R) ?_
   refine VR.cons R R (VO.alloc z94 fun b2 => ?_)
   refine VR.cons R R (VO.storeP (i := 0) R R R ld94 R R R ?_)
   refine VR.nil <| VW.seq <| VW.region <| VR.p R R (VP.loadP (i := 0) R R ld94 R) <| VR.p R R (VP.loadP (i := 1) R R ld96 R) ?_
   obtain ⟨r, h7, hm⟩ := bnd hm
   refine VR.cons R R (VO.callK 0 R fn108 R (taints_Bears_ok x2 x r h7) fun _ _ h9 => ?_)
   obtain ⟨rfl, rfl⟩ := h9
   refine VR.nil ?_
   rcases ite_or hm with ⟨h8, hm⟩ | ⟨h8, hm⟩
   ·refine VW.condT R h8 <| VW.seq <| VW.region <| VR.p R R (VP.assign R) <| VR.nil ?_
    obtain rfl := Option.some.inj hm
    have hm := Out.ret_on h3
    obtain rfl := Option.some.inj hm
    exact VW.ret ⟨.inl R, _, .cons (.tmp _ _ R) .nil, [], _, R, R, R⟩
   ·have h8 := bf h8
    refine VW.condF R h8 <| VW.skip <| VW.region <| VR.p R R (VP.arith R R R) <| VR.p R R (VP.move R) <| VR.nil ?_
    exact ⟨(), (), hm, (Shift.pick [1] R ⟨R, R, R, congrArg some (k_next h5 h4), trivial⟩)⟩
 ·rintro j _ rfl
  have hm := Out.go_on h3
  refine VW.seq <| VW.region <| VR.p R R (VP.assign R) <| VR.nil ?_
  obtain rfl := Option.some.inj hm
  exact VW.ret ⟨.inl R, _, .cons (.tmp _ _ R) .nil, [], _, R, R, R⟩

/-! trireme/taints.Unborne$1 -/
def taints_Unborne_1 (x : T_api_Taint) (a : Int) (a2 : List T_api_Toleration) : Option Bool :=
 (taints_of x a).bind fun r =>
 (if r = true then (taints_borne a2 x).bind fun r2 =>
 some (!r2) else some false).bind fun c =>
 some c
theorem taints_Unborne_1_ok (x : T_api_Taint) (a : Int) (a2 : List T_api_Toleration) (b : Nat) (b2 : Nat) (r : Bool) (hm : taints_Unborne_1 x a a2 = some r) :
  VC Try.prog 98 [T_api_Taint.vv x, .ptr b 0, .ptr b2 0] [.box b 3 [.int .i64 a], .box b2 36 [.list 94 (List.map T_api_Toleration.vv a2)]] (fun zx zH => zx = .bool r ∧ zH = [.box b 3 [.int .i64 a], .box b2 36 [.list 94 (List.map T_api_Toleration.vv a2)]]) := by
 unfold taints_Unborne_1 at hm
 refine VC.run (c := _) (rs := [.tmp 4]) Try.func98 R R R <| VW.seq <| VW.region ?_
 refine VR.cons R R (VO.box R R fun b3 => ?_)
 refine VR.p R R (VP.assign R) <| VR.nil <| VW.seq <| VW.region <| VR.p R R (VP.loadP (i := 0) R R ld96 R) <| VR.p R R (VP.loadP (i := 1) R R ld3 R) ?_
 obtain ⟨r, h2, hm⟩ := bnd hm
 refine VR.cons R R (VO.callK 0 R fn99 R (taints_of_ok x a r h2) fun _ _ h7 => ?_)
 obtain ⟨rfl, rfl⟩ := h7
 refine VR.p R R (VP.move R) ?_
 obtain ⟨c, h6, hm⟩ := bnd hm
 refine VR.sc 5 13 (.bool c) (fun K' J => ?_) ?_
 ·have hm := h6
  rcases ite_or hm with ⟨h3, hm⟩ | ⟨h3, hm⟩
  ·refine VR.pG R R R R h3 (VP.loadP (i := 2) R R ld36 R) <| VR.pG R R R R h3 (VP.loadP (i := 0) R R ld96 R) ?_
   obtain ⟨r2, h4, hm⟩ := bnd hm
   refine VR.consG R R R R h3 (VO.callK 0 R fn100 R (taints_borne_ok a2 x r2 h4) fun _ _ h5 => ?_)
   obtain ⟨rfl, rfl⟩ := h5
   refine VR.pG R R R R h3 (VP.not R) <| VR.p R R (VP.pickB true R h3 R) ?_
   exact J [_, _, _, _] _ R (congrArg VV.bool (Option.some.inj hm))
  ·have h3 := bf h3
   refine VR.skipG R R R R h3 <| VR.skipG R R R R h3 <| VR.skipG R R R R h3 <| VR.skipG R R R R h3 <| VR.p R R (VP.pickB false R h3 R) ?_
   exact J [_, _, _, _] _ R (congrArg VV.bool (Option.some.inj hm))
 ·refine VR.p R R (VP.assign R) <| VR.nil ?_
  obtain rfl := Option.some.inj hm
  exact VW.ret ⟨.inl R, _, .cons (.tmp _ _ R) .nil, [1, 1], _, R, R, R⟩

/-! trireme/taints.some -/
def taints_some_taints_Unborne_1.l1 (c : Int) (c2 : List T_api_Toleration) : List T_api_Taint → Nat → (List T_api_Taint) → Option (List T_api_Taint)
 | [], k, out2 => some out2
 | x :: l2, k, out2 =>
  (taints_Unborne_1 x c c2).bind fun r =>
  if r = true then
   (V.ap 40 out2 [x]).bind fun out4 =>
   taints_some_taints_Unborne_1.l1 c c2 l2 (k + 1) out4
  else
   taints_some_taints_Unborne_1.l1 c c2 l2 (k + 1) out2
def taints_some_taints_Unborne_1 (l : List T_api_Taint) (c : Int) (c2 : List T_api_Toleration) : Option (List T_api_Taint) :=
 (taints_some_taints_Unborne_1.l1 c c2 l 0 ([] : List T_api_Taint)).bind fun out32 =>
 some out32
theorem taints_some_taints_Unborne_1_ok (l : List T_api_Taint) (c : Int) (c2 : List T_api_Toleration) (b : Nat) (b2 : Nat) (r : List T_api_Taint) (hm : taints_some_taints_Unborne_1 l c c2 = some r) :
  VC Try.prog 97 [.list 96 (List.map T_api_Taint.vv l), .clo (.func 98) [] [.ptr b 0, .ptr b2 0]] [.box b 3 [.int .i64 c], .box b2 36 [.list 94 (List.map T_api_Toleration.vv c2)]] (fun zx zH => ∃ (ob0 : Option Nat) (cap0 : Nat), zx = .sl ob0 (List.map T_api_Taint.vv r).length cap0 ∧ zH = [.row ob0 96 cap0 (List.map T_api_Taint.vv r), .box b 3 [.int .i64 c], .box b2 36 [.list 94 (List.map T_api_Toleration.vv c2)]]) := by
 unfold taints_some_taints_Unborne_1 at hm
 refine VC.run (c := _) (rs := [.tmp 4]) Try.func97 R R R <| VW.seq <| VW.region <| VR.p R R (VP.assign R) <| VR.nil <| VW.seq <| VW.region <| VR.p R R (VP.assign R) <| VR.nil <| VW.seq <| VW.seq <| VW.region <| VR.p R R (VP.move R) <| VR.p R R (VP.lenT T_api_Taint.vv R Try.underlying28) <| VR.p R R (VP.move R) <| VR.nil <| VW.lenL 8 R fun h5 => ?_
 have h5 := max_map h5
 obtain ⟨o, h3, h4⟩ := bnd hm
 refine VW.joinE (fun (q : List T_api_Taint) => q = o) (fun (out32 : List T_api_Taint) (gg : Option Nat × Nat) => [(5, .sl gg.1 (List.map T_api_Taint.vv out32).length gg.2)]) (fun (out32 : List T_api_Taint) (gg : Option Nat × Nat) => [.row gg.1 96 gg.2 (List.map T_api_Taint.vv out32), .box b 3 [.int .i64 c], .box b2 36 [.list 94 (List.map T_api_Toleration.vv c2)]]) ?_ ?_
 ·have hm := h3
  refine VW.block (VW.loop (l.length + 1) ?_)
  refine VL.eachS (l := l) (R := _) (fun zl zk (zs : List T_api_Taint) => taints_some_taints_Unborne_1.l1 c c2 zl zk zs) (fun (k : Nat) (zs : List T_api_Taint) (zg : Option Nat × Nat) => [(1, .clo (.func 98) [] [.ptr b 0, .ptr b2 0]), (5, .sl zg.1 (List.map T_api_Taint.vv zs).length zg.2), (8, .list 96 (List.map T_api_Taint.vv l)), (9, .int .i64 (l.length : Int)), (10, .int .i64 (k : Int))]) (fun (k : Nat) (zs : List T_api_Taint) (zg : Option Nat × Nat) => [.row zg.1 96 zg.2 (List.map T_api_Taint.vv zs), .box b 3 [.int .i64 c], .box b2 36 [.list 94 (List.map T_api_Toleration.vv c2)]]) ([] : List T_api_Taint) (none, 0) (Shift.trans (Shift.nilRow 96) (Shift.pick [0, 0, 0] R ⟨R, R, R, R, R, trivial⟩)) h3 ?_ ?_
  ·rintro k out2 ⟨ob2, cap2⟩ hk hm
   rw [taints_some_taints_Unborne_1.l1] at hm
   refine VW.seq <| VW.region <| VR.p R R (VP.arith R R R) <| VR.nil <| VW.seq <| VW.condF R (k_end hk) <| VW.exit ?_
   exact ⟨out2, (ob2, cap2), Option.some.inj hm, (Shift.pick [0, 0, 0] R ⟨R, trivial⟩)⟩
  ·rintro k x l2 out2 ⟨ob2, cap2⟩ h6 hm
   rw [taints_some_taints_Unborne_1.l1] at hm
   refine VW.seq <| VW.region <| VR.p R R (VP.arith R R R) <| VR.nil <| VW.seq <| VW.condT R (k_lt h6) <| VW.skip <| VW.seq <| VW.block <| VW.seq <| VW.region <| VR.p R R (VP.glK T_api_Taint.vv R R el28 h6) <| VR.p R R (VP.loadE R ld96 R) ?_
   refine VR.cons R R (VO.alloc z96 fun b3 => ?_)
   refine VR.cons R R (VO.storeP (i := 0) R R R ld96 R R R ?_)
   refine VR.nil <| VW.seq <| VW.region <| VR.p R R (VP.move R) <| VR.p R R (VP.loadP (i := 0) R R ld96 R) ?_
   obtain ⟨r, h8, hm⟩ := bnd hm
   refine VR.shift (Shift.mem [2, 2, 0, 0] R) ?_
   refine VR.cons R R (VO.callK 2 R fn98 R (taints_Unborne_1_ok x c c2 b b2 r h8) fun _ _ h12 => ?_)
   obtain ⟨rfl, rfl⟩ := h12
   refine VR.nil ?_
   rcases ite_or hm with ⟨h9, hm⟩ | ⟨h9, hm⟩
   ·refine VW.condT R h9 <| VW.region <| VR.p R R (VP.move R) <| VR.p R R (VP.loadP (i := 2) R R ld96 R) ?_
    refine VR.cons R R (VO.buildSlice ap28 R R R R R fun b4 => ?_)
    obtain ⟨out4, h11, hm⟩ := bnd hm
    refine VR.cons R R (VO.apT 4 T_api_Taint.vv (l := out2) (l2 := [x]) ap28 R R (sT_row 0 T_api_Taint.vv el28 R R) h11 fun ob4 cap4 => ?_)
    refine VR.p R R (VP.assign R) <| VR.nil <| VW.region <| VR.p R R (VP.arith R R R) <| VR.p R R (VP.move R) <| VR.nil ?_
    exact ⟨out4, (ob4, cap4), hm, (Shift.pick [4, 1, 1] R ⟨R, R, R, R, congrArg some (k_next h6 h5), trivial⟩)⟩
   ·have h9 := bf h9
    refine VW.condF R h9 <| VW.skip <| VW.region <| VR.p R R (VP.arith R R R) <| VR.p R R (VP.move R) <| VR.nil ?_
    exact ⟨out2, (ob2, cap2), hm, (Shift.pick [3, 0, 0] R ⟨R, R, R, R, congrArg some (k_next h6 h5), trivial⟩)⟩
 ·rintro out32 ⟨ob3, cap3⟩ rfl
  have hm := h4
  refine VW.seq <| VW.region <| VR.p R R (VP.move R) <| VR.p R R (VP.assign R) <| VR.nil ?_
  obtain rfl := Option.some.inj hm
  exact VW.ret ⟨.inl R, _, .cons (.tmp _ _ R) .nil, [0, 0, 0], _, R, ob3, cap3, R, R⟩

/-! trireme/taints.Unborne -/
def taints_Unborne (l : List T_api_Toleration) (taints : List T_api_Taint) (effect : Int) : Option (List T_api_Taint) :=
 (taints_some_taints_Unborne_1 taints effect l).bind fun r =>
 some r
theorem taints_Unborne_ok (l : List T_api_Toleration) (taints : List T_api_Taint) (effect : Int) (r : List T_api_Taint) (hm : taints_Unborne l taints effect = some r) :
  VC Try.prog 84 [.list 94 (List.map T_api_Toleration.vv l), .list 96 (List.map T_api_Taint.vv taints), .int .i64 effect] [] (fun zx zH => zx = .list 96 (List.map T_api_Taint.vv r) ∧ zH = []) := by
 unfold taints_Unborne at hm
 refine VC.run (c := _) (rs := [.tmp 6]) Try.func84 R R R <| VW.seq <| VW.region ?_
 refine VR.cons R R (VO.box R R fun b => ?_)
 refine VR.cons R R (VO.box R R fun b2 => ?_)
 refine VR.p R R (VP.assign R) <| VR.nil <| VW.seq <| VW.region <| VR.p R R (VP.move R) <| VR.p R R (VP.makeFunc R R) ?_
 obtain ⟨r, h3, hm⟩ := bnd hm
 refine VR.cons R R (VO.callK 2 R fn97 R (taints_some_taints_Unborne_1_ok taints effect l b2 b r h3) fun _ _ h5 => ?_)
 obtain ⟨ob, cap, rfl, rfl⟩ := h5
 refine VR.shift (Shift.freezeE 0 [(9, .list 96 (List.map T_api_Taint.vv r))] R ⟨⟨_, R, .here _ R⟩, trivial⟩ (FzH.refl _)) <| VR.p R R (VP.assign R) <| VR.nil ?_
 obtain rfl := Option.some.inj hm
 exact VW.ret ⟨.inl R, _, .cons (.tmp _ _ R) .nil, [], _, R, R, R⟩

/-! trireme/taints.Allows -/
def taints_Allows (l : List T_api_Toleration) (taints : List T_api_Taint) : Option Bool :=
 (taints_Unborne l taints (1 : Int)).bind fun r =>
 (taints_Unborne l taints (3 : Int)).bind fun r2 =>
 some ((IntKind.i64.wrap ((r.length : Int) + (r2.length : Int))) == (0 : Int))
theorem taints_Allows_ok (l : List T_api_Toleration) (taints : List T_api_Taint) (r : Bool) (hm : taints_Allows l taints = some r) :
  VC Try.prog 88 [.list 94 (List.map T_api_Toleration.vv l), .list 96 (List.map T_api_Taint.vv taints)] [] (fun zx zH => zx = .bool r ∧ zH = []) := by
 unfold taints_Allows at hm
 refine VC.run (c := _) (rs := [.tmp 4]) Try.func88 R R R <| VW.seq <| VW.region <| VR.p R R (VP.assign R) <| VR.nil <| VW.seq <| VW.region <| VR.p R R (VP.move R) <| VR.p R R (VP.move R) ?_
 obtain ⟨r, h1, hm⟩ := bnd hm
 refine VR.cons R R (VO.callK 0 R fn84 R (taints_Unborne_ok l taints (1 : Int) r h1) fun _ _ h4 => ?_)
 obtain ⟨rfl, rfl⟩ := h4
 refine VR.p R R (VP.lenT T_api_Taint.vv R Try.underlying28) <| VR.p R R (VP.move R) <| VR.p R R (VP.move R) ?_
 obtain ⟨r2, h2, hm⟩ := bnd hm
 refine VR.cons R R (VO.callK 0 R fn84 R (taints_Unborne_ok l taints (3 : Int) r2 h2) fun _ _ h3 => ?_)
 obtain ⟨rfl, rfl⟩ := h3
 refine VR.p R R (VP.lenT T_api_Taint.vv R Try.underlying28) <| VR.p R R (VP.arith R R R) <| VR.p R R (VP.arith R R R) <| VR.p R R (VP.assign R) <| VR.nil ?_
 obtain rfl := Option.some.inj hm
 exact VW.ret ⟨.inl R, _, .cons (.tmp _ _ R) .nil, [], _, R, R, R⟩

/-! trireme/suit.Place -/
def suit_Place (m : T_api_Machine) (p : T_api_Pod) : Option Int :=
 if (!m.Ready) = true then
  some (1 : Int)
 else
  (labels_Has m.Labels p.Select).bind fun r =>
  if (!r) = true then
   some (4 : Int)
  else
   (labels_All m.Labels p.Terms).bind fun r2 =>
   if (!r2) = true then
    some (5 : Int)
   else
    (taints_Allows p.Bears m.Taints).bind fun r3 =>
    if (!r3) = true then
     some (6 : Int)
    else
     some (0 : Int)
theorem suit_Place_ok (m : T_api_Machine) (p : T_api_Pod) (r : Int) (hm : suit_Place m p = some r) :
  VC Try.prog 78 [T_api_Machine.vv m, T_api_Pod.vv p] [] (fun zx zH => zx = .int .i64 r ∧ zH = []) := by
 unfold suit_Place at hm
 refine VC.run (c := _) (rs := [.tmp 4]) Try.func78 R R R <| VW.seq <| VW.region ?_
 refine VR.cons R R (VO.box R R fun b => ?_)
 refine VR.cons R R (VO.box R R fun b2 => ?_)
 refine VR.p R R (VP.assign R) <| VR.nil <| VW.seq <| VW.region <| VR.p R R (VP.assign R) <| VR.nil <| VW.seq <| VW.block <| VW.seq <| VW.region <| VR.p R R (VP.fieldP R fa30_5) <| VR.p R R (VP.loadP (i := 1) R R ld4 R) <| VR.p R R (VP.not R) <| VR.p R R (VP.assign R) <| VR.nil ?_
 rcases ite_or hm with ⟨h3, hm⟩ | ⟨h3, hm⟩
 ·refine VW.condT R h3 <| VW.region <| VR.p R R (VP.assign R) <| VR.nil <| VW.seq <| VW.region <| VR.p R R (VP.move R) <| VR.p R R (VP.assign R) <| VR.nil ?_
  obtain rfl := Option.some.inj hm
  exact VW.ret ⟨.inl R, _, .cons (.tmp _ _ R) .nil, [], _, R, R, R⟩
 ·have h3 := bf h3
  refine VW.condF R h3 <| VW.seq <| VW.region <| VR.p R R (VP.fieldP R fa30_3) <| VR.p R R (VP.loadP (i := 1) R R ld27 R) <| VR.p R R (VP.fieldP R fa39_3) <| VR.p R R (VP.loadP (i := 0) R R ld27 R) ?_
  obtain ⟨r, h4, hm⟩ := bnd hm
  refine VR.cons R R (VO.callK 0 R fn86 R (labels_Has_ok m.Labels p.Select r h4) fun _ _ h12 => ?_)
  obtain ⟨rfl, rfl⟩ := h12
  refine VR.p R R (VP.not R) <| VR.p R R (VP.assign R) <| VR.nil ?_
  rcases ite_or hm with ⟨h5, hm⟩ | ⟨h5, hm⟩
  ·refine VW.condT R h5 <| VW.region <| VR.p R R (VP.assign R) <| VR.nil <| VW.seq <| VW.region <| VR.p R R (VP.move R) <| VR.p R R (VP.assign R) <| VR.nil ?_
   obtain rfl := Option.some.inj hm
   exact VW.ret ⟨.inl R, _, .cons (.tmp _ _ R) .nil, [], _, R, R, R⟩
  ·have h5 := bf h5
   refine VW.condF R h5 <| VW.seq <| VW.region <| VR.p R R (VP.fieldP R fa30_3) <| VR.p R R (VP.loadP (i := 1) R R ld27 R) <| VR.p R R (VP.fieldP R fa39_4) <| VR.p R R (VP.loadP (i := 0) R R ld35 R) ?_
   obtain ⟨r2, h6, hm⟩ := bnd hm
   refine VR.cons R R (VO.callK 0 R fn87 R (labels_All_ok m.Labels p.Terms r2 h6) fun _ _ h11 => ?_)
   obtain ⟨rfl, rfl⟩ := h11
   refine VR.p R R (VP.not R) <| VR.p R R (VP.assign R) <| VR.nil ?_
   rcases ite_or hm with ⟨h7, hm⟩ | ⟨h7, hm⟩
   ·refine VW.condT R h7 <| VW.region <| VR.p R R (VP.assign R) <| VR.nil <| VW.seq <| VW.region <| VR.p R R (VP.move R) <| VR.p R R (VP.assign R) <| VR.nil ?_
    obtain rfl := Option.some.inj hm
    exact VW.ret ⟨.inl R, _, .cons (.tmp _ _ R) .nil, [], _, R, R, R⟩
   ·have h7 := bf h7
    refine VW.condF R h7 <| VW.seq <| VW.region <| VR.p R R (VP.fieldP R fa39_5) <| VR.p R R (VP.loadP (i := 0) R R ld36 R) <| VR.p R R (VP.fieldP R fa30_4) <| VR.p R R (VP.loadP (i := 1) R R ld28 R) ?_
    obtain ⟨r3, h8, hm⟩ := bnd hm
    refine VR.cons R R (VO.callK 0 R fn88 R (taints_Allows_ok p.Bears m.Taints r3 h8) fun _ _ h10 => ?_)
    obtain ⟨rfl, rfl⟩ := h10
    refine VR.p R R (VP.not R) <| VR.p R R (VP.assign R) <| VR.nil ?_
    rcases ite_or hm with ⟨h9, hm⟩ | ⟨h9, hm⟩
    ·refine VW.condT R h9 <| VW.region <| VR.p R R (VP.assign R) <| VR.nil <| VW.seq <| VW.region <| VR.p R R (VP.move R) <| VR.p R R (VP.assign R) <| VR.nil ?_
     obtain rfl := Option.some.inj hm
     exact VW.ret ⟨.inl R, _, .cons (.tmp _ _ R) .nil, [], _, R, R, R⟩
    ·have h9 := bf h9
     refine VW.condF R h9 <| VW.skip <| VW.seq <| VW.region <| VR.p R R (VP.move R) <| VR.p R R (VP.assign R) <| VR.nil ?_
     obtain rfl := Option.some.inj hm
     exact VW.ret ⟨.inl R, _, .cons (.tmp _ _ R) .nil, [], _, R, R, R⟩

/-! trireme/suit.others -/
def suit_others.l1 (name : ByteArray) : List T_api_Bound → Nat → (List T_api_Bound) → Option (List T_api_Bound)
 | [], k, l2 => some l2
 | x :: l4, k, l2 =>
  if (!(V.seq x.Pod.Name name)) = true then
   (V.ap 288 l2 [x]).bind fun l5 =>
   suit_others.l1 name l4 (k + 1) l5
  else
   suit_others.l1 name l4 (k + 1) l2
def suit_others (bs : List T_api_Bound) (name : ByteArray) : Option (List T_api_Bound) :=
 (suit_others.l1 name bs 0 ([] : List T_api_Bound)).bind fun l32 =>
 some l32
theorem suit_others_ok (bs : List T_api_Bound) (name : ByteArray) (r : List T_api_Bound) (hm : suit_others bs name = some r) :
  VC Try.prog 89 [.list 50 (List.map T_api_Bound.vv bs), .str name] [] (fun zx zH => ∃ (ob0 : Option Nat) (cap0 : Nat), zx = .sl ob0 (List.map T_api_Bound.vv r).length cap0 ∧ zH = [.row ob0 50 cap0 (List.map T_api_Bound.vv r)]) := by
 unfold suit_others at hm
 refine VC.run (c := _) (rs := [.tmp 4]) Try.func89 R R R <| VW.seq <| VW.region <| VR.p R R (VP.assign R) <| VR.nil <| VW.seq <| VW.region <| VR.p R R (VP.assign R) <| VR.nil <| VW.seq <| VW.seq <| VW.region <| VR.p R R (VP.move R) <| VR.p R R (VP.lenT T_api_Bound.vv R Try.underlying23) <| VR.p R R (VP.move R) <| VR.nil <| VW.lenL 8 R fun h5 => ?_
 have h5 := max_map h5
 obtain ⟨o, h3, h4⟩ := bnd hm
 refine VW.joinE (fun (q : List T_api_Bound) => q = o) (fun (l32 : List T_api_Bound) (gg : Option Nat × Nat) => [(5, .sl gg.1 (List.map T_api_Bound.vv l32).length gg.2)]) (fun (l32 : List T_api_Bound) (gg : Option Nat × Nat) => [.row gg.1 50 gg.2 (List.map T_api_Bound.vv l32)]) ?_ ?_
 ·have hm := h3
  refine VW.block (VW.loop (bs.length + 1) ?_)
  refine VL.eachS (l := bs) (R := _) (fun zl zk (zs : List T_api_Bound) => suit_others.l1 name zl zk zs) (fun (k : Nat) (zs : List T_api_Bound) (zg : Option Nat × Nat) => [(1, .str name), (5, .sl zg.1 (List.map T_api_Bound.vv zs).length zg.2), (8, .list 50 (List.map T_api_Bound.vv bs)), (9, .int .i64 (bs.length : Int)), (10, .int .i64 (k : Int))]) (fun (k : Nat) (zs : List T_api_Bound) (zg : Option Nat × Nat) => [.row zg.1 50 zg.2 (List.map T_api_Bound.vv zs)]) ([] : List T_api_Bound) (none, 0) (Shift.trans (Shift.nilRow 50) (Shift.pick [0] R ⟨R, R, R, R, R, trivial⟩)) h3 ?_ ?_
  ·rintro k l2 ⟨ob2, cap2⟩ hk hm
   rw [suit_others.l1] at hm
   refine VW.seq <| VW.region <| VR.p R R (VP.arith R R R) <| VR.nil <| VW.seq <| VW.condF R (k_end hk) <| VW.exit ?_
   exact ⟨l2, (ob2, cap2), Option.some.inj hm, (Shift.pick [0] R ⟨R, trivial⟩)⟩
  ·rintro k x l4 l2 ⟨ob2, cap2⟩ h6 hm
   rw [suit_others.l1] at hm
   refine VW.seq <| VW.region <| VR.p R R (VP.arith R R R) <| VR.nil <| VW.seq <| VW.condT R (k_lt h6) <| VW.skip <| VW.seq <| VW.block <| VW.seq <| VW.region <| VR.p R R (VP.glK T_api_Bound.vv R R el23 h6) <| VR.p R R (VP.loadE R ld50 R) ?_
   refine VR.cons R R (VO.alloc z50 fun b => ?_)
   refine VR.cons R R (VO.storeP (i := 0) R R R ld50 R R R ?_)
   refine VR.nil <| VW.seq <| VW.region <| VR.p R R (VP.fieldP R fa50_0) <| VR.p R R (VP.fieldP R fa39_0) <| VR.p R R (VP.loadP (i := 0) R R ld9 R) <| VR.p R R (VP.move R) <| VR.p R R (VP.strop R R R) <| VR.nil ?_
   rcases ite_or hm with ⟨h8, hm⟩ | ⟨h8, hm⟩
   ·refine VW.condT R h8 <| VW.region <| VR.p R R (VP.move R) <| VR.p R R (VP.loadP (i := 0) R R ld50 R) ?_
    refine VR.cons R R (VO.buildSlice ap23 R R R R R fun b2 => ?_)
    obtain ⟨l5, h10, hm⟩ := bnd hm
    refine VR.cons R R (VO.apT 2 T_api_Bound.vv (l := l2) (l2 := [x]) ap23 R R (sT_row 0 T_api_Bound.vv el23 R R) h10 fun ob4 cap4 => ?_)
    refine VR.p R R (VP.assign R) <| VR.nil <| VW.region <| VR.p R R (VP.arith R R R) <| VR.p R R (VP.move R) <| VR.nil ?_
    exact ⟨l5, (ob4, cap4), hm, (Shift.pick [2] R ⟨R, R, R, R, congrArg some (k_next h6 h5), trivial⟩)⟩
   ·have h8 := bf h8
    refine VW.condF R h8 <| VW.skip <| VW.region <| VR.p R R (VP.arith R R R) <| VR.p R R (VP.move R) <| VR.nil ?_
    exact ⟨l2, (ob2, cap2), hm, (Shift.pick [1] R ⟨R, R, R, R, congrArg some (k_next h6 h5), trivial⟩)⟩
 ·rintro l32 ⟨ob3, cap3⟩ rfl
  have hm := h4
  refine VW.seq <| VW.region <| VR.p R R (VP.move R) <| VR.p R R (VP.assign R) <| VR.nil ?_
  obtain rfl := Option.some.inj hm
  exact VW.ret ⟨.inl R, _, .cons (.tmp _ _ R) .nil, [0], _, R, ob3, cap3, R, R⟩

/-! trireme/yard.On -/
def yard_On.l1 (name : ByteArray) : List T_api_Bound → Nat → (List T_api_Pod) → Option (List T_api_Pod)
 | [], k, l2 => some l2
 | x :: l4, k, l2 =>
  if (V.seq x.On name) = true then
   (V.ap 272 l2 [x.Pod]).bind fun l5 =>
   yard_On.l1 name l4 (k + 1) l5
  else
   yard_On.l1 name l4 (k + 1) l2
def yard_On (bs : List T_api_Bound) (name : ByteArray) : Option (List T_api_Pod) :=
 (yard_On.l1 name bs 0 ([] : List T_api_Pod)).bind fun l32 =>
 some l32
theorem yard_On_ok (bs : List T_api_Bound) (name : ByteArray) (r : List T_api_Pod) (hm : yard_On bs name = some r) :
  VC Try.prog 71 [.list 50 (List.map T_api_Bound.vv bs), .str name] [] (fun zx zH => ∃ (ob0 : Option Nat) (cap0 : Nat), zx = .sl ob0 (List.map T_api_Pod.vv r).length cap0 ∧ zH = [.row ob0 39 cap0 (List.map T_api_Pod.vv r)]) := by
 unfold yard_On at hm
 refine VC.run (c := _) (rs := [.tmp 4]) Try.func71 R R R <| VW.seq <| VW.region <| VR.p R R (VP.assign R) <| VR.nil <| VW.seq <| VW.region <| VR.p R R (VP.assign R) <| VR.nil <| VW.seq <| VW.seq <| VW.region <| VR.p R R (VP.move R) <| VR.p R R (VP.lenT T_api_Bound.vv R Try.underlying23) <| VR.p R R (VP.move R) <| VR.nil <| VW.lenL 8 R fun h5 => ?_
 have h5 := max_map h5
 obtain ⟨o, h3, h4⟩ := bnd hm
 refine VW.joinE (fun (q : List T_api_Pod) => q = o) (fun (l32 : List T_api_Pod) (gg : Option Nat × Nat) => [(5, .sl gg.1 (List.map T_api_Pod.vv l32).length gg.2)]) (fun (l32 : List T_api_Pod) (gg : Option Nat × Nat) => [.row gg.1 39 gg.2 (List.map T_api_Pod.vv l32)]) ?_ ?_
 ·have hm := h3
  refine VW.block (VW.loop (bs.length + 1) ?_)
  refine VL.eachS (l := bs) (R := _) (fun zl zk (zs : List T_api_Pod) => yard_On.l1 name zl zk zs) (fun (k : Nat) (zs : List T_api_Pod) (zg : Option Nat × Nat) => [(1, .str name), (5, .sl zg.1 (List.map T_api_Pod.vv zs).length zg.2), (8, .list 50 (List.map T_api_Bound.vv bs)), (9, .int .i64 (bs.length : Int)), (10, .int .i64 (k : Int))]) (fun (k : Nat) (zs : List T_api_Pod) (zg : Option Nat × Nat) => [.row zg.1 39 zg.2 (List.map T_api_Pod.vv zs)]) ([] : List T_api_Pod) (none, 0) (Shift.trans (Shift.nilRow 39) (Shift.pick [0] R ⟨R, R, R, R, R, trivial⟩)) h3 ?_ ?_
  ·rintro k l2 ⟨ob2, cap2⟩ hk hm
   rw [yard_On.l1] at hm
   refine VW.seq <| VW.region <| VR.p R R (VP.arith R R R) <| VR.nil <| VW.seq <| VW.condF R (k_end hk) <| VW.exit ?_
   exact ⟨l2, (ob2, cap2), Option.some.inj hm, (Shift.pick [0] R ⟨R, trivial⟩)⟩
  ·rintro k x l4 l2 ⟨ob2, cap2⟩ h6 hm
   rw [yard_On.l1] at hm
   refine VW.seq <| VW.region <| VR.p R R (VP.arith R R R) <| VR.nil <| VW.seq <| VW.condT R (k_lt h6) <| VW.skip <| VW.seq <| VW.block <| VW.seq <| VW.region <| VR.p R R (VP.glK T_api_Bound.vv R R el23 h6) <| VR.p R R (VP.loadE R ld50 R) ?_
   refine VR.cons R R (VO.alloc z50 fun b => ?_)
   refine VR.cons R R (VO.storeP (i := 0) R R R ld50 R R R ?_)
   refine VR.nil <| VW.seq <| VW.region <| VR.p R R (VP.fieldP R fa50_1) <| VR.p R R (VP.loadP (i := 0) R R ld9 R) <| VR.p R R (VP.move R) <| VR.p R R (VP.strop R R R) <| VR.nil ?_
   rcases ite_or hm with ⟨h8, hm⟩ | ⟨h8, hm⟩
   ·refine VW.condT R h8 <| VW.region <| VR.p R R (VP.move R) <| VR.p R R (VP.fieldP R fa50_0) <| VR.p R R (VP.loadP (i := 0) R R ld39 R) ?_
    refine VR.cons R R (VO.buildSlice ap24 R R R R R fun b2 => ?_)
    obtain ⟨l5, h10, hm⟩ := bnd hm
    refine VR.cons R R (VO.apT 2 T_api_Pod.vv (l := l2) (l2 := [x.Pod]) ap24 R R (sT_row 0 T_api_Pod.vv el24 R R) h10 fun ob4 cap4 => ?_)
    refine VR.p R R (VP.assign R) <| VR.nil <| VW.region <| VR.p R R (VP.arith R R R) <| VR.p R R (VP.move R) <| VR.nil ?_
    exact ⟨l5, (ob4, cap4), hm, (Shift.pick [2] R ⟨R, R, R, R, congrArg some (k_next h6 h5), trivial⟩)⟩
   ·have h8 := bf h8
    refine VW.condF R h8 <| VW.skip <| VW.region <| VR.p R R (VP.arith R R R) <| VR.p R R (VP.move R) <| VR.nil ?_
    exact ⟨l2, (ob2, cap2), hm, (Shift.pick [1] R ⟨R, R, R, R, congrArg some (k_next h6 h5), trivial⟩)⟩
 ·rintro l32 ⟨ob3, cap3⟩ rfl
  have hm := h4
  refine VW.seq <| VW.region <| VR.p R R (VP.move R) <| VR.p R R (VP.assign R) <| VR.nil ?_
  obtain rfl := Option.some.inj hm
  exact VW.ret ⟨.inl R, _, .cons (.tmp _ _ R) .nil, [0], _, R, ob3, cap3, R, R⟩

/-! trireme/res.row -/
def res_row (a : T_api_Res) : Option Arr5_Int :=
 some (⟨a.Cpu, a.Mem, a.Disk, a.Pods, a.Dev⟩ : Arr5_Int)
theorem res_row_ok (a : T_api_Res) (r : Arr5_Int) (hm : res_row a = some r) :
  VC Try.prog 68 [T_api_Res.vv a] [] (fun zx zH => zx = Arr5_Int.vv r ∧ zH = []) := by
 unfold res_row at hm
 refine VC.run (c := _) (rs := [.cell 2 115]) Try.func68 R R R <| VW.seq <| VW.region ?_
 refine VR.cons R R (VO.box R R fun b => ?_)
 refine VR.cons R R (VO.alloc z115 fun b2 => ?_)
 refine VR.nil <| VW.seq <| VW.region <| VR.p R R (VP.fieldP R fa26_0) <| VR.p R R (VP.loadP (i := 1) R R ld3 R) <| VR.p R R (VP.fieldP R fa26_1) <| VR.p R R (VP.loadP (i := 1) R R ld3 R) <| VR.p R R (VP.fieldP R fa26_2) <| VR.p R R (VP.loadP (i := 1) R R ld3 R) <| VR.p R R (VP.fieldP R fa26_3) <| VR.p R R (VP.loadP (i := 1) R R ld3 R) <| VR.p R R (VP.fieldP R fa26_4) <| VR.p R R (VP.loadP (i := 1) R R ld3 R) <| VR.p R R (VP.buildP pl115 R R) ?_
 refine VR.cons R R (VO.storeP (i := 0) R R R ld115 R R R ?_)
 refine VR.nil ?_
 obtain rfl := Option.some.inj hm
 exact VW.ret ⟨.inl R, _, .cons (.cell _ _ _ _ 0 _ _ _ _ R R ld115 R) .nil, [], _, R, R, R⟩

/-! trireme/res.Right -/
def res_Right.l1 (r : Arr5_Int) : Nat → Int → Option (Out Bool Unit)
 | 0, _ => none
 | n + 1, v2 =>
  if (decide (v2 < (5 : Int))) = true then
   (V.gl (Arr5_Int.l r) v2).bind fun x =>
   if ((decide (x < (0 : Int))) || (decide (x > (1125899906842624 : Int)))) = true then
    some (Out.ret false)
   else
    res_Right.l1 r n (IntKind.i64.wrap (v2 + (1 : Int)))
  else
   some (Out.go ())
def res_Right (a : T_api_Res) : Option Bool :=
 (res_row a).bind fun r =>
 (res_Right.l1 r FU (0 : Int)).bind fun o =>
 o.on fun j =>
 some true
theorem res_Right_ok (a : T_api_Res) (r : Bool) (hm : res_Right a = some r) :
  VC Try.prog 56 [T_api_Res.vv a] [] (fun zx zH => zx = .bool r ∧ zH = []) := by
 unfold res_Right at hm
 refine VC.run (c := _) (rs := [.tmp 2]) Try.func56 R R R <| VW.seq <| VW.region ?_
 refine VR.cons R R (VO.box R R fun b => ?_)
 refine VR.p R R (VP.assign R) <| VR.nil <| VW.seq <| VW.seq <| VW.region <| VR.p R R (VP.loadP (i := 0) R R ld26 R) ?_
 obtain ⟨r, h2, hm⟩ := bnd hm
 refine VR.cons R R (VO.callK 0 R fn68 R (res_row_ok a r h2) fun _ _ h9 => ?_)
 obtain ⟨rfl, rfl⟩ := h9
 refine VR.p R R (VP.move R) <| VR.nil ?_
 obtain ⟨o, h3, h4⟩ := bnd hm
 refine VW.joinE (fun (q : Unit) => o = Out.go q) (fun (j : Unit) (gg : Unit) => []) (fun (j : Unit) (gg : Unit) => []) ?_ ?_
 ·have hm := h3
  refine VW.block (VW.loop FU ?_)
  refine VL.fuelS (R := _) (fun zn (zs : Int) => res_Right.l1 r zn zs) (fun (zs : Int) (zg : Unit) => [(6, Arr5_Int.vv r), (7, .int .i64 zs)]) (fun (zs : Int) (zg : Unit) => []) (0 : Int) () (fun zs => R) (Shift.pick [] R ⟨R, R, trivial⟩) h3 ?_
  rintro n v2 _ hm
  rw [res_Right.l1] at hm
  refine VW.seq <| VW.region <| VR.p R R (VP.arith R R R) <| VR.nil <| VW.seq ?_
  rcases ite_or hm with ⟨h5, hm⟩ | ⟨h5, hm⟩
  ·refine VW.condT R h5 <| VW.skip <| VW.seq <| VW.block <| VW.seq <| VW.region ?_
   obtain ⟨x, h6, hm⟩ := bnd hm
   refine VR.p R R (VP.indexG (f := (VV.int .i64)) R R ar115 R ld3 h6) <| VR.p R R (VP.assign R) <| VR.nil <| VW.seq <| VW.region <| VR.p R R (VP.move R) <| VR.p R R (VP.arith R R R) <| VR.p R R (VP.move R) ?_
   refine VR.sc 3 15 (.bool ((decide (x < (0 : Int))) || (decide (x > (1125899906842624 : Int))))) (fun K' J => ?_) ?_
   ·rcases Bool.eq_false_or_eq_true (decide (x < (0 : Int))) with h7 | h7
    ·refine VR.skipG R R R R h7 <| VR.skipG R R R R h7 <| VR.p R R (VP.pickB true R h7 R) ?_
     exact J [_, _] _ R (orT h7)
    ·refine VR.pG R R R R h7 (VP.move R) <| VR.pG R R R R h7 (VP.arith R R R) <| VR.p R R (VP.pickB false R h7 R) ?_
     exact J [_, _] _ R (orF h7)
   ·refine VR.nil ?_
    rcases ite_or hm with ⟨h8, hm⟩ | ⟨h8, hm⟩
    ·refine VW.condT R h8 <| VW.seq <| VW.region <| VR.p R R (VP.assign R) <| VR.nil ?_
     obtain rfl := Option.some.inj hm
     have hm := Out.ret_on h4
     obtain rfl := Option.some.inj hm
     exact VW.ret ⟨.inl R, _, .cons (.tmp _ _ R) .nil, [], _, R, R, R⟩
    ·have h8 := bf h8
     refine VW.condF R h8 <| VW.skip <| VW.region <| VR.p R R (VP.arith R R R) <| VR.p R R (VP.move R) <| VR.nil ?_
     exact ⟨(IntKind.i64.wrap (v2 + (1 : Int))), (), hm, (Shift.pick [] R ⟨R, R, trivial⟩)⟩
  ·have h5 := bf h5
   refine VW.condF R h5 <| VW.exit ?_
   exact ⟨(), (), (Option.some.inj hm).symm, (Shift.pick [] R trivial)⟩
 ·rintro j _ rfl
  have hm := Out.go_on h4
  refine VW.seq <| VW.region <| VR.p R R (VP.assign R) <| VR.nil ?_
  obtain rfl := Option.some.inj hm
  exact VW.ret ⟨.inl R, _, .cons (.tmp _ _ R) .nil, [], _, R, R, R⟩

/-! trireme/yard.Used$1 -/
def yard_Used_1 (i : Int) (a : List T_api_Pod) : Option Bool :=
 (V.gl a i).bind fun x =>
 (res_Right x.Need).bind fun r =>
 some (!r)
theorem yard_Used_1_ok (i : Int) (a : List T_api_Pod) (b : Nat) (r : Bool) (hm : yard_Used_1 i a = some r) :
  VC Try.prog 72 [.int .i64 i, .ptr b 0] [.box b 24 [.list 39 (List.map T_api_Pod.vv a)]] (fun zx zH => zx = .bool r ∧ zH = [.box b 24 [.list 39 (List.map T_api_Pod.vv a)]]) := by
 unfold yard_Used_1 at hm
 refine VC.run (c := _) (rs := [.tmp 3]) Try.func72 R R R <| VW.seq <| VW.region <| VR.p R R (VP.assign R) <| VR.nil <| VW.seq <| VW.region <| VR.p R R (VP.loadP (i := 0) R R ld24 R) <| VR.p R R (VP.move R) ?_
 obtain ⟨x, h1, hm⟩ := bnd hm
 refine VR.p R R (VP.glE T_api_Pod.vv R R el24 h1) <| VR.p R R (VP.fieldE R fa39_1) <| VR.p R R (VP.loadE R ld26 R) ?_
 obtain ⟨r, h2, hm⟩ := bnd hm
 refine VR.cons R R (VO.callK 0 R fn56 R (res_Right_ok x.Need r h2) fun _ _ h3 => ?_)
 obtain ⟨rfl, rfl⟩ := h3
 refine VR.p R R (VP.not R) <| VR.p R R (VP.assign R) <| VR.nil ?_
 obtain rfl := Option.some.inj hm
 exact VW.ret ⟨.inl R, _, .cons (.tmp _ _ R) .nil, [0], _, R, R, R⟩

/-! trireme/yard.first -/
def yard_first_yard_Used_1.l1 (n : Int) (c : List T_api_Pod) : Nat → Int → Option (Out Int Unit)
 | 0, _ => none
 | n2 + 1, v2 =>
  if (decide (v2 < n)) = true then
   (yard_Used_1 v2 c).bind fun r =>
   if r = true then
    some (Out.ret v2)
   else
    yard_first_yard_Used_1.l1 n c n2 (IntKind.i64.wrap (v2 + (1 : Int)))
  else
   some (Out.go ())
def yard_first_yard_Used_1 (n : Int) (c : List T_api_Pod) : Option Int :=
 (yard_first_yard_Used_1.l1 n c FU (0 : Int)).bind fun o =>
 o.on fun j =>
 some (-1 : Int)
theorem yard_first_yard_Used_1_ok (n : Int) (c : List T_api_Pod) (b : Nat) (r : Int) (hm : yard_first_yard_Used_1 n c = some r) :
  VC Try.prog 63 [.int .i64 n, .clo (.func 72) [] [.ptr b 0]] [.box b 24 [.list 39 (List.map T_api_Pod.vv c)]] (fun zx zH => zx = .int .i64 r ∧ zH = [.box b 24 [.list 39 (List.map T_api_Pod.vv c)]]) := by
 unfold yard_first_yard_Used_1 at hm
 refine VC.run (c := _) (rs := [.tmp 4]) Try.func63 R R R <| VW.seq <| VW.region <| VR.p R R (VP.assign R) <| VR.nil <| VW.seq <| VW.seq <| VW.region <| VR.p R R (VP.move R) <| VR.p R R (VP.move R) <| VR.nil ?_
 obtain ⟨o, h1, h2⟩ := bnd hm
 refine VW.joinE (fun (q : Unit) => o = Out.go q) (fun (j : Unit) (gg : Unit) => []) (fun (j : Unit) (gg : Unit) => [.box b 24 [.list 39 (List.map T_api_Pod.vv c)]]) ?_ ?_
 ·have hm := h1
  refine VW.block (VW.loop FU ?_)
  refine VL.fuelS (R := _) (fun zn (zs : Int) => yard_first_yard_Used_1.l1 n c zn zs) (fun (zs : Int) (zg : Unit) => [(1, .clo (.func 72) [] [.ptr b 0]), (6, .int .i64 n), (7, .int .i64 zs)]) (fun (zs : Int) (zg : Unit) => [.box b 24 [.list 39 (List.map T_api_Pod.vv c)]]) (0 : Int) () (fun zs => R) (Shift.pick [0] R ⟨R, R, R, trivial⟩) h1 ?_
  rintro n2 v2 _ hm
  rw [yard_first_yard_Used_1.l1] at hm
  refine VW.seq <| VW.region <| VR.p R R (VP.arith R R R) <| VR.nil <| VW.seq ?_
  rcases ite_or hm with ⟨h3, hm⟩ | ⟨h3, hm⟩
  ·refine VW.condT R h3 <| VW.skip <| VW.seq <| VW.block <| VW.seq <| VW.region <| VR.p R R (VP.move R) <| VR.p R R (VP.assign R) <| VR.nil <| VW.seq <| VW.region <| VR.p R R (VP.move R) <| VR.p R R (VP.move R) ?_
   obtain ⟨r, h4, hm⟩ := bnd hm
   refine VR.cons R R (VO.callK 1 R fn72 R (yard_Used_1_ok v2 c b r h4) fun _ _ h6 => ?_)
   obtain ⟨rfl, rfl⟩ := h6
   refine VR.nil ?_
   rcases ite_or hm with ⟨h5, hm⟩ | ⟨h5, hm⟩
   ·refine VW.condT R h5 <| VW.seq <| VW.region <| VR.p R R (VP.move R) <| VR.p R R (VP.assign R) <| VR.nil ?_
    obtain rfl := Option.some.inj hm
    have hm := Out.ret_on h2
    obtain rfl := Option.some.inj hm
    exact VW.ret ⟨.inl R, _, .cons (.tmp _ _ R) .nil, [0], _, R, R, R⟩
   ·have h5 := bf h5
    refine VW.condF R h5 <| VW.skip <| VW.region <| VR.p R R (VP.arith R R R) <| VR.p R R (VP.move R) <| VR.nil ?_
    exact ⟨(IntKind.i64.wrap (v2 + (1 : Int))), (), hm, (Shift.pick [0] R ⟨R, R, R, trivial⟩)⟩
  ·have h3 := bf h3
   refine VW.condF R h3 <| VW.exit ?_
   exact ⟨(), (), (Option.some.inj hm).symm, (Shift.pick [0] R trivial)⟩
 ·rintro j _ rfl
  have hm := Out.go_on h2
  refine VW.seq <| VW.region <| VR.p R R (VP.assign R) <| VR.nil ?_
  obtain rfl := Option.some.inj hm
  exact VW.ret ⟨.inl R, _, .cons (.tmp _ _ R) .nil, [0], _, R, R, R⟩

/-! trireme/res.Add$1 -/
def res_Add_1 (x : Int) (y : Int) : Option Int :=
 some (IntKind.i64.wrap (x + y))
theorem res_Add_1_ok (x : Int) (y : Int) (r : Int) (hm : res_Add_1 x y = some r) :
  VC Try.prog 83 [.int .i64 x, .int .i64 y] [] (fun zx zH => zx = .int .i64 r ∧ zH = []) := by
 unfold res_Add_1 at hm
 refine VC.run (c := _) (rs := [.tmp 4]) Try.func83 R R R <| VW.seq <| VW.region <| VR.p R R (VP.assign R) <| VR.nil <| VW.seq <| VW.region <| VR.p R R (VP.move R) <| VR.p R R (VP.move R) <| VR.p R R (VP.arith R R R) <| VR.p R R (VP.assign R) <| VR.nil ?_
 obtain rfl := Option.some.inj hm
 exact VW.ret ⟨.inl R, _, .cons (.tmp _ _ R) .nil, [], _, R, R, R⟩

/-! trireme/res.back -/
def res_back (l : Arr5_Int) : Option T_api_Res :=
 some (⟨l.x0, l.x1, l.x2, l.x3, l.x4⟩ : T_api_Res)
theorem res_back_ok (l : Arr5_Int) (r : T_api_Res) (hm : res_back l = some r) :
  VC Try.prog 96 [Arr5_Int.vv l] [] (fun zx zH => zx = T_api_Res.vv r ∧ zH = []) := by
 unfold res_back at hm
 refine VC.run (c := _) (rs := [.cell 2 26]) Try.func96 R R R <| VW.seq <| VW.region ?_
 refine VR.cons R R (VO.box R R fun b => ?_)
 refine VR.cons R R (VO.alloc z26 fun b2 => ?_)
 refine VR.nil <| VW.seq <| VW.region <| VR.p R R (VP.indexA R R ar115 (by decide) (by decide)) <| VR.p R R (VP.loadP (i := 1) R R ld3 R) <| VR.p R R (VP.indexA R R ar115 (by decide) (by decide)) <| VR.p R R (VP.loadP (i := 1) R R ld3 R) <| VR.p R R (VP.indexA R R ar115 (by decide) (by decide)) <| VR.p R R (VP.loadP (i := 1) R R ld3 R) <| VR.p R R (VP.indexA R R ar115 (by decide) (by decide)) <| VR.p R R (VP.loadP (i := 1) R R ld3 R) <| VR.p R R (VP.indexA R R ar115 (by decide) (by decide)) <| VR.p R R (VP.loadP (i := 1) R R ld3 R) <| VR.p R R (VP.buildP pl26 R R) ?_
 refine VR.cons R R (VO.storeP (i := 0) R R R ld26 R R R ?_)
 refine VR.nil ?_
 obtain rfl := Option.some.inj hm
 exact VW.ret ⟨.inl R, _, .cons (.cell _ _ _ _ 0 _ _ _ _ R R ld26 R) .nil, [], _, R, R, R⟩

end Go.Proofs.Ytbkdglcedgiogaa.M

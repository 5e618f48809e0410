/-
  Printed by a program of this session out of the loaded functions: models and their proofs. Own text.
-/
import Derived.Test.YtbkdglcedgiogaaRCT
namespace Go.Proofs.Ytbkdglcedgiogaa.M
open Go Go.Proofs Go.Proofs.Ytbkdglcedgiogaa.V
set_option linter.unusedVariables false
set_option maxRecDepth 20000
set_option maxHeartbeats 4000000
/-! trireme/triremeref05.Light -/
def ref05_Light.l1 (l : List T_api_Label) : Nat → Int → Option (Out Bool Unit)
 | 0, _ => none
 | n + 1, i2 =>
  if (decide (i2 < (l.length : Int))) = true then
   (V.gl l i2).bind fun x =>
   (if (decide ((x.Key.size : Int) > (300 : Int))) = true then some true else (V.gl l i2).bind fun x2 =>
   some (decide ((x2.Val.size : Int) > (300 : Int)))).bind fun c =>
   if c = true then
    some (Out.ret false)
   else
    ref05_Light.l1 l n (IntKind.i64.wrap (i2 + (1 : Int)))
  else
   some (Out.go ())
def ref05_Light (l : List T_api_Label) : Option Bool :=
 if (decide ((l.length : Int) > (40 : Int))) = true then
  some false
 else
  (ref05_Light.l1 l FU (0 : Int)).bind fun o =>
  o.on fun j =>
  some true
theorem ref05_Light_ok (l : List T_api_Label) (r : Bool) (hm : ref05_Light l = some r) :
  VC Try.prog 31 [.list 92 (List.map T_api_Label.vv l)] [] (fun zx zH => zx = .bool r ∧ zH = []) := by
 unfold ref05_Light at hm
 refine VC.run (c := _) (rs := [.tmp 2]) Try.func31 R R R <| VW.seq <| VW.region <| VR.p R R (VP.assign R) <| VR.nil <| VW.seq <| VW.seq <| VW.region <| VR.p R R (VP.move R) <| VR.p R R (VP.lenT T_api_Label.vv R Try.underlying27) <| VR.p R R (VP.arith R R R) <| VR.nil ?_
 rcases ite_or hm with ⟨h1, hm⟩ | ⟨h1, hm⟩
 ·refine VW.condT R h1 <| VW.seq <| VW.region <| VR.p R R (VP.assign R) <| VR.nil ?_
  obtain rfl := Option.some.inj hm
  exact VW.ret ⟨.inl R, _, .cons (.tmp _ _ R) .nil, [], _, R, R, R⟩
 ·have h1 := bf h1
  refine VW.condF R h1 <| VW.skip <| VW.seq <| VW.seq <| VW.region <| VR.p R R (VP.assign R) <| VR.nil ?_
  obtain ⟨o, h2, h3⟩ := bnd hm
  refine VW.joinE (fun (q : Unit) => o = Out.go q) (fun (j : Unit) (gg : Unit) => []) (fun (j : Unit) (gg : Unit) => []) ?_ ?_
  ·have hm := h2
   refine VW.block (VW.loop FU ?_)
   refine VL.fuelS (R := _) (fun zn (zs : Int) => ref05_Light.l1 l zn zs) (fun (zs : Int) (zg : Unit) => [(0, .list 92 (List.map T_api_Label.vv l)), (3, .int .i64 zs)]) (fun (zs : Int) (zg : Unit) => []) (0 : Int) () (fun zs => R) (Shift.pick [] R ⟨R, R, trivial⟩) h2 ?_
   rintro n i2 _ hm
   rw [ref05_Light.l1] at hm
   refine VW.seq <| VW.seq <| VW.region <| VR.p R R (VP.move R) <| VR.p R R (VP.move R) <| VR.p R R (VP.lenT T_api_Label.vv R Try.underlying27) <| VR.p R R (VP.arith R R R) <| VR.nil ?_
   rcases ite_or hm with ⟨h4, hm⟩ | ⟨h4, hm⟩
   ·refine VW.condT R h4 <| VW.skip <| VW.seq <| VW.block <| VW.seq <| VW.region <| VR.p R R (VP.move R) <| VR.p R R (VP.move R) ?_
    obtain ⟨x, h5, hm⟩ := bnd hm
    refine VR.p R R (VP.glE T_api_Label.vv R R el27 h5) <| VR.p R R (VP.fieldE R fa92_0) <| VR.p R R (VP.loadE R ld9 R) <| VR.p R R (VP.lenS R Try.underlying9) <| VR.p R R (VP.arith R R R) <| VR.p R R (VP.move R) ?_
    obtain ⟨c, h8, hm⟩ := bnd hm
    refine VR.sc 8 28 (.bool c) (fun K' J => ?_) ?_
    ·have hm := h8
     rcases ite_or hm with ⟨h6, hm⟩ | ⟨h6, hm⟩
     ·refine VR.skipG R R R R h6 <| VR.skipG R R R R h6 <| VR.skipG R R R R h6 <| VR.skipG R R R R h6 <| VR.skipG R R R R h6 <| VR.skipG R R R R h6 <| VR.skipG R R R R h6 <| VR.p R R (VP.pickB true R h6 R) ?_
      exact J [_, _, _, _, _, _, _] _ R (congrArg VV.bool (Option.some.inj hm))
     ·have h6 := bf h6
      refine VR.pG R R R R h6 (VP.move R) <| VR.pG R R R R h6 (VP.move R) ?_
      obtain ⟨x2, h7, hm⟩ := bnd hm
      refine VR.pG R R R R h6 (VP.glE T_api_Label.vv R R el27 h7) <| VR.pG R R R R h6 (VP.fieldE R fa92_1) <| VR.pG R R R R h6 (VP.loadE R ld9 R) <| VR.pG R R R R h6 (VP.lenS R Try.underlying9) <| VR.pG R R R R h6 (VP.arith R R R) <| VR.p R R (VP.pickB false R h6 R) ?_
      exact J [_, _, _, _, _, _, _] _ R (congrArg VV.bool (Option.some.inj hm))
    ·refine VR.nil ?_
     rcases ite_or hm with ⟨h9, hm⟩ | ⟨h9, hm⟩
     ·refine VW.condT R h9 <| VW.seq <| VW.region <| VR.p R R (VP.assign R) <| VR.nil ?_
      obtain rfl := Option.some.inj hm
      have hm := Out.ret_on h3
      obtain rfl := Option.some.inj hm
      exact VW.ret ⟨.inl R, _, .cons (.tmp _ _ R) .nil, [], _, R, R, R⟩
     ·have h9 := bf h9
      refine VW.condF R h9 <| VW.skip <| VW.region <| VR.p R R (VP.move R) <| VR.p R R (VP.arith R R R) <| VR.p R R (VP.assign R) <| VR.nil ?_
      exact ⟨(IntKind.i64.wrap (i2 + (1 : Int))), (), hm, (Shift.pick [] R ⟨R, R, trivial⟩)⟩
   ·have h4 := bf h4
    refine VW.condF R h4 <| VW.exit ?_
    exact ⟨(), (), (Option.some.inj hm).symm, (Shift.pick [] R trivial)⟩
  ·rintro j _ rfl
   have hm := Out.go_on h3
   refine VW.seq <| VW.region <| VR.p R R (VP.assign R) <| VR.nil ?_
   obtain rfl := Option.some.inj hm
   exact VW.ret ⟨.inl R, _, .cons (.tmp _ _ R) .nil, [], _, R, R, R⟩

/-! trireme/triremeref06.Light -/
def ref06_Light.l1 (l : List T_api_Toleration) : Nat → Int → Option (Out Bool Unit)
 | 0, _ => none
 | n + 1, i2 =>
  if (decide (i2 < (l.length : Int))) = true then
   (V.gl l i2).bind fun x =>
   (if (decide ((x.Key.size : Int) > (300 : Int))) = true then some true else (V.gl l i2).bind fun x2 =>
   some (decide ((x2.Val.size : Int) > (300 : Int)))).bind fun c =>
   if c = true then
    some (Out.ret false)
   else
    ref06_Light.l1 l n (IntKind.i64.wrap (i2 + (1 : Int)))
  else
   some (Out.go ())
def ref06_Light.l2 (taints : List T_api_Taint) : Nat → Int → Option (Out Bool Unit)
 | 0, _ => none
 | n2 + 1, i4 =>
  if (decide (i4 < (taints.length : Int))) = true then
   (V.gl taints i4).bind fun x3 =>
   (if (decide ((x3.Key.size : Int) > (300 : Int))) = true then some true else (V.gl taints i4).bind fun x4 =>
   some (decide ((x4.Val.size : Int) > (300 : Int)))).bind fun c2 =>
   if c2 = true then
    some (Out.ret false)
   else
    ref06_Light.l2 taints n2 (IntKind.i64.wrap (i4 + (1 : Int)))
  else
   some (Out.go ())
def ref06_Light (l : List T_api_Toleration) (taints : List T_api_Taint) : Option Bool :=
 if ((decide ((l.length : Int) > (40 : Int))) || (decide ((taints.length : Int) > (40 : Int)))) = true then
  some false
 else
  (ref06_Light.l1 l FU (0 : Int)).bind fun o =>
  o.on fun j =>
  (ref06_Light.l2 taints FU (0 : Int)).bind fun o2 =>
  o2.on fun j2 =>
  some true
theorem ref06_Light_ok (l : List T_api_Toleration) (taints : List T_api_Taint) (r : Bool) (hm : ref06_Light l taints = some r) :
  VC Try.prog 32 [.list 94 (List.map T_api_Toleration.vv l), .list 96 (List.map T_api_Taint.vv taints)] [] (fun zx zH => zx = .bool r ∧ zH = []) := by
 unfold ref06_Light at hm
 refine VC.run (c := _) (rs := [.tmp 4]) Try.func32 R R R <| VW.seq <| VW.region <| VR.p R R (VP.assign R) <| VR.nil <| VW.seq <| VW.seq <| VW.region <| VR.p R R (VP.move R) <| VR.p R R (VP.lenT T_api_Toleration.vv R Try.underlying36) <| VR.p R R (VP.arith R R R) <| VR.p R R (VP.move R) ?_
 refine VR.sc 4 14 (.bool ((decide ((l.length : Int) > (40 : Int))) || (decide ((taints.length : Int) > (40 : Int))))) (fun K' J => ?_) ?_
 ·rcases Bool.eq_false_or_eq_true (decide ((l.length : Int) > (40 : Int))) with h1 | h1
  ·refine VR.skipG R R R R h1 <| VR.skipG R R R R h1 <| VR.skipG R R R R h1 <| VR.p R R (VP.pickB true R h1 R) ?_
   exact J [_, _, _] _ R (orT h1)
  ·refine VR.pG R R R R h1 (VP.move R) <| VR.pG R R R R h1 (VP.lenT T_api_Taint.vv R Try.underlying28) <| VR.pG R R R R h1 (VP.arith R R R) <| VR.p R R (VP.pickB false R h1 R) ?_
   exact J [_, _, _] _ R (orF h1)
 ·refine VR.nil ?_
  rcases ite_or hm with ⟨h2, hm⟩ | ⟨h2, hm⟩
  ·refine VW.condT R h2 <| VW.seq <| VW.region <| VR.p R R (VP.assign R) <| VR.nil ?_
   obtain rfl := Option.some.inj hm
   exact VW.ret ⟨.inl R, _, .cons (.tmp _ _ R) .nil, [], _, R, R, R⟩
  ·have h2 := bf h2
   refine VW.condF R h2 <| VW.skip <| VW.seq <| VW.seq <| VW.region <| VR.p R R (VP.assign R) <| VR.nil ?_
   obtain ⟨o, h3, h4⟩ := bnd hm
   refine VW.joinE (fun (q : Unit) => o = Out.go q) (fun (j : Unit) (gg : Unit) => [(1, .list 96 (List.map T_api_Taint.vv taints))]) (fun (j : Unit) (gg : Unit) => []) ?_ ?_
   ·have hm := h3
    refine VW.block (VW.loop FU ?_)
    refine VL.fuelS (R := _) (fun zn (zs : Int) => ref06_Light.l1 l zn zs) (fun (zs : Int) (zg : Unit) => [(0, .list 94 (List.map T_api_Toleration.vv l)), (1, .list 96 (List.map T_api_Taint.vv taints)), (5, .int .i64 zs)]) (fun (zs : Int) (zg : Unit) => []) (0 : Int) () (fun zs => R) (Shift.pick [] R ⟨R, R, R, trivial⟩) h3 ?_
    rintro n i2 _ hm
    rw [ref06_Light.l1] at hm
    refine VW.seq <| VW.seq <| VW.region <| VR.p R R (VP.move R) <| VR.p R R (VP.move R) <| VR.p R R (VP.lenT T_api_Toleration.vv R Try.underlying36) <| VR.p R R (VP.arith R R R) <| VR.nil ?_
    rcases ite_or hm with ⟨h5, hm⟩ | ⟨h5, hm⟩
    ·refine VW.condT R h5 <| VW.skip <| VW.seq <| VW.block <| VW.seq <| VW.region <| VR.p R R (VP.move R) <| VR.p R R (VP.move R) ?_
     obtain ⟨x, h6, hm⟩ := bnd hm
     refine VR.p R R (VP.glE T_api_Toleration.vv R R el36 h6) <| VR.p R R (VP.fieldE R fa94_0) <| VR.p R R (VP.loadE R ld9 R) <| VR.p R R (VP.lenS R Try.underlying9) <| VR.p R R (VP.arith R R R) <| VR.p R R (VP.move R) ?_
     obtain ⟨c, h9, hm⟩ := bnd hm
     refine VR.sc 8 36 (.bool c) (fun K' J => ?_) ?_
     ·have hm := h9
      rcases ite_or hm with ⟨h7, hm⟩ | ⟨h7, hm⟩
      ·refine VR.skipG R R R R h7 <| VR.skipG R R R R h7 <| VR.skipG R R R R h7 <| VR.skipG R R R R h7 <| VR.skipG R R R R h7 <| VR.skipG R R R R h7 <| VR.skipG R R R R h7 <| VR.p R R (VP.pickB true R h7 R) ?_
       exact J [_, _, _, _, _, _, _] _ R (congrArg VV.bool (Option.some.inj hm))
      ·have h7 := bf h7
       refine VR.pG R R R R h7 (VP.move R) <| VR.pG R R R R h7 (VP.move R) ?_
       obtain ⟨x2, h8, hm⟩ := bnd hm
       refine VR.pG R R R R h7 (VP.glE T_api_Toleration.vv R R el36 h8) <| VR.pG R R R R h7 (VP.fieldE R fa94_1) <| VR.pG R R R R h7 (VP.loadE R ld9 R) <| VR.pG R R R R h7 (VP.lenS R Try.underlying9) <| VR.pG R R R R h7 (VP.arith R R R) <| VR.p R R (VP.pickB false R h7 R) ?_
       exact J [_, _, _, _, _, _, _] _ R (congrArg VV.bool (Option.some.inj hm))
     ·refine VR.nil ?_
      rcases ite_or hm with ⟨h10, hm⟩ | ⟨h10, hm⟩
      ·refine VW.condT R h10 <| VW.seq <| VW.region <| VR.p R R (VP.assign R) <| VR.nil ?_
       obtain rfl := Option.some.inj hm
       have hm := Out.ret_on h4
       obtain rfl := Option.some.inj hm
       exact VW.ret ⟨.inl R, _, .cons (.tmp _ _ R) .nil, [], _, R, R, R⟩
      ·have h10 := bf h10
       refine VW.condF R h10 <| VW.skip <| VW.region <| VR.p R R (VP.move R) <| VR.p R R (VP.arith R R R) <| VR.p R R (VP.assign R) <| VR.nil ?_
       exact ⟨(IntKind.i64.wrap (i2 + (1 : Int))), (), hm, (Shift.pick [] R ⟨R, R, R, trivial⟩)⟩
    ·have h5 := bf h5
     refine VW.condF R h5 <| VW.exit ?_
     exact ⟨(), (), (Option.some.inj hm).symm, (Shift.pick [] R ⟨R, trivial⟩)⟩
   ·rintro j _ rfl
    have hm := Out.go_on h4
    refine VW.seq <| VW.seq <| VW.region <| VR.p R R (VP.assign R) <| VR.nil ?_
    obtain ⟨o2, h11, h12⟩ := bnd hm
    refine VW.joinE (fun (q : Unit) => o2 = Out.go q) (fun (j2 : Unit) (gg : Unit) => []) (fun (j2 : Unit) (gg : Unit) => []) ?_ ?_
    ·have hm := h11
     refine VW.block (VW.loop FU ?_)
     refine VL.fuelS (R := _) (fun zn (zs : Int) => ref06_Light.l2 taints zn zs) (fun (zs : Int) (zg : Unit) => [(1, .list 96 (List.map T_api_Taint.vv taints)), (6, .int .i64 zs)]) (fun (zs : Int) (zg : Unit) => []) (0 : Int) () (fun zs => R) (Shift.pick [] R ⟨R, R, trivial⟩) h11 ?_
     rintro n2 i4 _ hm
     rw [ref06_Light.l2] at hm
     refine VW.seq <| VW.seq <| VW.region <| VR.p R R (VP.move R) <| VR.p R R (VP.move R) <| VR.p R R (VP.lenT T_api_Taint.vv R Try.underlying28) <| VR.p R R (VP.arith R R R) <| VR.nil ?_
     rcases ite_or hm with ⟨h13, hm⟩ | ⟨h13, hm⟩
     ·refine VW.condT R h13 <| VW.skip <| VW.seq <| VW.block <| VW.seq <| VW.region <| VR.p R R (VP.move R) <| VR.p R R (VP.move R) ?_
      obtain ⟨x3, h14, hm⟩ := bnd hm
      refine VR.p R R (VP.glE T_api_Taint.vv R R el28 h14) <| VR.p R R (VP.fieldE R fa96_0) <| VR.p R R (VP.loadE R ld9 R) <| VR.p R R (VP.lenS R Try.underlying9) <| VR.p R R (VP.arith R R R) <| VR.p R R (VP.move R) ?_
      obtain ⟨c2, h17, hm⟩ := bnd hm
      refine VR.sc 8 58 (.bool c2) (fun K' J => ?_) ?_
      ·have hm := h17
       rcases ite_or hm with ⟨h15, hm⟩ | ⟨h15, hm⟩
       ·refine VR.skipG R R R R h15 <| VR.skipG R R R R h15 <| VR.skipG R R R R h15 <| VR.skipG R R R R h15 <| VR.skipG R R R R h15 <| VR.skipG R R R R h15 <| VR.skipG R R R R h15 <| VR.p R R (VP.pickB true R h15 R) ?_
        exact J [_, _, _, _, _, _, _] _ R (congrArg VV.bool (Option.some.inj hm))
       ·have h15 := bf h15
        refine VR.pG R R R R h15 (VP.move R) <| VR.pG R R R R h15 (VP.move R) ?_
        obtain ⟨x4, h16, hm⟩ := bnd hm
        refine VR.pG R R R R h15 (VP.glE T_api_Taint.vv R R el28 h16) <| VR.pG R R R R h15 (VP.fieldE R fa96_1) <| VR.pG R R R R h15 (VP.loadE R ld9 R) <| VR.pG R R R R h15 (VP.lenS R Try.underlying9) <| VR.pG R R R R h15 (VP.arith R R R) <| VR.p R R (VP.pickB false R h15 R) ?_
        exact J [_, _, _, _, _, _, _] _ R (congrArg VV.bool (Option.some.inj hm))
      ·refine VR.nil ?_
       rcases ite_or hm with ⟨h18, hm⟩ | ⟨h18, hm⟩
       ·refine VW.condT R h18 <| VW.seq <| VW.region <| VR.p R R (VP.assign R) <| VR.nil ?_
        obtain rfl := Option.some.inj hm
        have hm := Out.ret_on h12
        obtain rfl := Option.some.inj hm
        exact VW.ret ⟨.inl R, _, .cons (.tmp _ _ R) .nil, [], _, R, R, R⟩
       ·have h18 := bf h18
        refine VW.condF R h18 <| VW.skip <| VW.region <| VR.p R R (VP.move R) <| VR.p R R (VP.arith R R R) <| VR.p R R (VP.assign R) <| VR.nil ?_
        exact ⟨(IntKind.i64.wrap (i4 + (1 : Int))), (), hm, (Shift.pick [] R ⟨R, R, trivial⟩)⟩
     ·have h13 := bf h13
      refine VW.condF R h13 <| VW.exit ?_
      exact ⟨(), (), (Option.some.inj hm).symm, (Shift.pick [] R trivial)⟩
    ·rintro j2 _ rfl
     have hm := Out.go_on h12
     refine VW.seq <| VW.region <| VR.p R R (VP.assign R) <| VR.nil ?_
     obtain rfl := Option.some.inj hm
     exact VW.ret ⟨.inl R, _, .cons (.tmp _ _ R) .nil, [], _, R, R, R⟩

/-! trireme/triremeref07.LightMachine -/
def ref07_LightMachine (m : T_api_Machine) : Option Bool :=
 (if ((decide ((m.Name.size : Int) ≤ (300 : Int))) && (decide ((m.Group.size : Int) ≤ (300 : Int)))) = true then (ref05_Light m.Labels).bind fun r =>
 some r else some false).bind fun c =>
 (if c = true then (ref06_Light ([] : List T_api_Toleration) m.Taints).bind fun r2 =>
 some r2 else some false).bind fun c2 =>
 some c2
theorem ref07_LightMachine_ok (m : T_api_Machine) (r : Bool) (hm : ref07_LightMachine m = some r) :
  VC Try.prog 16 [T_api_Machine.vv m] [] (fun zx zH => zx = .bool r ∧ zH = []) := by
 unfold ref07_LightMachine at hm
 refine VC.run (c := _) (rs := [.tmp 2]) Try.func16 R R R <| VW.seq <| VW.region ?_
 refine VR.cons R R (VO.box R R fun b => ?_)
 refine VR.p R R (VP.assign R) <| VR.nil <| VW.seq <| VW.region <| VR.p R R (VP.fieldP R fa30_0) <| VR.p R R (VP.loadP (i := 0) R R ld9 R) <| VR.p R R (VP.lenS R Try.underlying9) <| VR.p R R (VP.arith R R R) <| VR.p R R (VP.move R) ?_
 refine VR.sc 5 12 (.bool ((decide ((m.Name.size : Int) ≤ (300 : Int))) && (decide ((m.Group.size : Int) ≤ (300 : Int))))) (fun K' J => ?_) ?_
 ·rcases Bool.eq_false_or_eq_true (decide ((m.Name.size : Int) ≤ (300 : Int))) with h2 | h2
  ·refine VR.pG R R R R h2 (VP.fieldP R fa30_1) <| VR.pG R R R R h2 (VP.loadP (i := 0) R R ld9 R) <| VR.pG R R R R h2 (VP.lenS R Try.underlying9) <| VR.pG R R R R h2 (VP.arith R R R) <| VR.p R R (VP.pickB true R h2 R) ?_
   exact J [_, _, _, _] _ R (andT h2)
  ·refine VR.skipG R R R R h2 <| VR.skipG R R R R h2 <| VR.skipG R R R R h2 <| VR.skipG R R R R h2 <| VR.p R R (VP.pickB false R h2 R) ?_
   exact J [_, _, _, _] _ R (andF h2)
 ·refine VR.p R R (VP.move R) ?_
  obtain ⟨c, h6, hm⟩ := bnd hm
  refine VR.sc 4 17 (.bool c) (fun K' J => ?_) ?_
  ·have hm := h6
   rcases ite_or hm with ⟨h3, hm⟩ | ⟨h3, hm⟩
   ·refine VR.pG R R R R h3 (VP.fieldP R fa30_3) <| VR.pG R R R R h3 (VP.loadP (i := 0) R R ld27 R) ?_
    obtain ⟨r, h4, hm⟩ := bnd hm
    refine VR.consG R R R R h3 (VO.callK 0 R fn31 R (ref05_Light_ok m.Labels r h4) fun _ _ h5 => ?_)
    obtain ⟨rfl, rfl⟩ := h5
    refine VR.p R R (VP.pickB true R h3 R) ?_
    exact J [_, _, _] _ R (congrArg VV.bool (Option.some.inj hm))
   ·have h3 := bf h3
    refine VR.skipG R R R R h3 <| VR.skipG R R R R h3 <| VR.skipG R R R R h3 <| VR.p R R (VP.pickB false R h3 R) ?_
    exact J [_, _, _] _ R (congrArg VV.bool (Option.some.inj hm))
  ·refine VR.p R R (VP.move R) ?_
   obtain ⟨c2, h10, hm⟩ := bnd hm
   refine VR.sc 4 22 (.bool c2) (fun K' J => ?_) ?_
   ·have hm := h10
    rcases ite_or hm with ⟨h7, hm⟩ | ⟨h7, hm⟩
    ·refine VR.pG R R R R h7 (VP.fieldP R fa30_4) <| VR.pG R R R R h7 (VP.loadP (i := 0) R R ld28 R) ?_
     obtain ⟨r2, h8, hm⟩ := bnd hm
     refine VR.consG R R R R h7 (VO.callN 0 [.nil 94, .same] R fn32 R (ref06_Light_ok ([] : List T_api_Toleration) m.Taints r2 h8) fun _ _ h9 => ?_)
     obtain ⟨rfl, rfl⟩ := h9
     refine VR.p R R (VP.pickB true R h7 R) ?_
     exact J [_, _, _] _ R (congrArg VV.bool (Option.some.inj hm))
    ·have h7 := bf h7
     refine VR.skipG R R R R h7 <| VR.skipG R R R R h7 <| VR.skipG R R R R h7 <| VR.p R R (VP.pickB false R h7 R) ?_
     exact J [_, _, _] _ R (congrArg VV.bool (Option.some.inj hm))
   ·refine VR.p R R (VP.assign R) <| VR.nil ?_
    obtain rfl := Option.some.inj hm
    exact VW.ret ⟨.inl R, _, .cons (.tmp _ _ R) .nil, [], _, R, R, R⟩

/-! trireme/triremeref05.LightTerm -/
def ref05_LightTerm.l1 (t : T_api_Term) : Nat → Int → Option (Out Bool Unit)
 | 0, _ => none
 | n + 1, i2 =>
  if (decide (i2 < (t.Vals.length : Int))) = true then
   (V.gl t.Vals i2).bind fun x =>
   if (decide ((x.size : Int) > (300 : Int))) = true then
    some (Out.ret false)
   else
    ref05_LightTerm.l1 t n (IntKind.i64.wrap (i2 + (1 : Int)))
  else
   some (Out.go ())
def ref05_LightTerm (t : T_api_Term) : Option Bool :=
 if ((decide ((t.Vals.length : Int) > (40 : Int))) || (decide ((t.Key.size : Int) > (300 : Int)))) = true then
  some false
 else
  (ref05_LightTerm.l1 t FU (0 : Int)).bind fun o =>
  o.on fun j =>
  some true
theorem ref05_LightTerm_ok (t : T_api_Term) (r : Bool) (hm : ref05_LightTerm t = some r) :
  VC Try.prog 46 [T_api_Term.vv t] [] (fun zx zH => zx = .bool r ∧ zH = []) := by
 unfold ref05_LightTerm at hm
 refine VC.run (c := _) (rs := [.tmp 2]) Try.func46 R R R <| VW.seq <| VW.region ?_
 refine VR.cons R R (VO.box R R fun b => ?_)
 refine VR.p R R (VP.assign R) <| VR.nil <| VW.seq <| VW.seq <| VW.region <| VR.p R R (VP.fieldP R fa90_2) <| VR.p R R (VP.loadP (i := 0) R R ld66 R) <| VR.p R R (VP.lenT VV.str R Try.underlying66) <| VR.p R R (VP.arith R R R) <| VR.p R R (VP.move R) ?_
 refine VR.sc 5 13 (.bool ((decide ((t.Vals.length : Int) > (40 : Int))) || (decide ((t.Key.size : Int) > (300 : Int))))) (fun K' J => ?_) ?_
 ·rcases Bool.eq_false_or_eq_true (decide ((t.Vals.length : Int) > (40 : Int))) with h2 | h2
  ·refine VR.skipG R R R R h2 <| VR.skipG R R R R h2 <| VR.skipG R R R R h2 <| VR.skipG R R R R h2 <| VR.p R R (VP.pickB true R h2 R) ?_
   exact J [_, _, _, _] _ R (orT h2)
  ·refine VR.pG R R R R h2 (VP.fieldP R fa90_0) <| VR.pG R R R R h2 (VP.loadP (i := 0) R R ld9 R) <| VR.pG R R R R h2 (VP.lenS R Try.underlying9) <| VR.pG R R R R h2 (VP.arith R R R) <| VR.p R R (VP.pickB false R h2 R) ?_
   exact J [_, _, _, _] _ R (orF h2)
 ·refine VR.nil ?_
  rcases ite_or hm with ⟨h3, hm⟩ | ⟨h3, hm⟩
  ·refine VW.condT R h3 <| VW.seq <| VW.region <| VR.p R R (VP.assign R) <| VR.nil ?_
   obtain rfl := Option.some.inj hm
   exact VW.ret ⟨.inl R, _, .cons (.tmp _ _ R) .nil, [], _, R, R, R⟩
  ·have h3 := bf h3
   refine VW.condF R h3 <| VW.skip <| VW.seq <| VW.seq <| VW.region <| VR.p R R (VP.assign R) <| VR.nil ?_
   obtain ⟨o, h4, h5⟩ := bnd hm
   refine VW.joinE (fun (q : Unit) => o = Out.go q) (fun (j : Unit) (gg : Unit) => []) (fun (j : Unit) (gg : Unit) => []) ?_ ?_
   ·have hm := h4
    refine VW.block (VW.loop FU ?_)
    refine VL.fuelS (R := _) (fun zn (zs : Int) => ref05_LightTerm.l1 t zn zs) (fun (zs : Int) (zg : Unit) => [(1, .ptr b 0), (3, .int .i64 zs)]) (fun (zs : Int) (zg : Unit) => [.box b 90 (T_api_Term.cells t)]) (0 : Int) () (fun zs => R) (Shift.pick [0] R ⟨R, R, trivial⟩) h4 ?_
    rintro n i2 _ hm
    rw [ref05_LightTerm.l1] at hm
    refine VW.seq <| VW.seq <| VW.region <| VR.p R R (VP.move R) <| VR.p R R (VP.fieldP R fa90_2) <| VR.p R R (VP.loadP (i := 0) R R ld66 R) <| VR.p R R (VP.lenT VV.str R Try.underlying66) <| VR.p R R (VP.arith R R R) <| VR.nil ?_
    rcases ite_or hm with ⟨h6, hm⟩ | ⟨h6, hm⟩
    ·refine VW.condT R h6 <| VW.skip <| VW.seq <| VW.block <| VW.seq <| VW.region <| VR.p R R (VP.fieldP R fa90_2) <| VR.p R R (VP.loadP (i := 0) R R ld66 R) <| VR.p R R (VP.move R) ?_
     obtain ⟨x, h7, hm⟩ := bnd hm
     refine VR.p R R (VP.glE VV.str R R el66 h7) <| VR.p R R (VP.loadE R ld9 R) <| VR.p R R (VP.lenS R Try.underlying9) <| VR.p R R (VP.arith R R R) <| VR.nil ?_
     rcases ite_or hm with ⟨h8, hm⟩ | ⟨h8, hm⟩
     ·refine VW.condT R h8 <| VW.seq <| VW.region <| VR.p R R (VP.assign R) <| VR.nil ?_
      obtain rfl := Option.some.inj hm
      have hm := Out.ret_on h5
      obtain rfl := Option.some.inj hm
      exact VW.ret ⟨.inl R, _, .cons (.tmp _ _ R) .nil, [], _, R, R, R⟩
     ·have h8 := bf h8
      refine VW.condF R h8 <| VW.skip <| VW.region <| VR.p R R (VP.move R) <| VR.p R R (VP.arith R R R) <| VR.p R R (VP.assign R) <| VR.nil ?_
      exact ⟨(IntKind.i64.wrap (i2 + (1 : Int))), (), hm, (Shift.pick [0] R ⟨R, R, trivial⟩)⟩
    ·have h6 := bf h6
     refine VW.condF R h6 <| VW.exit ?_
     exact ⟨(), (), (Option.some.inj hm).symm, (Shift.pick [] R trivial)⟩
   ·rintro j _ rfl
    have hm := Out.go_on h5
    refine VW.seq <| VW.region <| VR.p R R (VP.assign R) <| VR.nil ?_
    obtain rfl := Option.some.inj hm
    exact VW.ret ⟨.inl R, _, .cons (.tmp _ _ R) .nil, [], _, R, R, R⟩

/-! trireme/triremeref07.LightPod -/
def ref07_LightPod.l1 (p : T_api_Pod) : Nat → Int → Option (Out Bool Unit)
 | 0, _ => none
 | n + 1, i2 =>
  if (decide (i2 < (p.Terms.length : Int))) = true then
   (V.gl p.Terms i2).bind fun x =>
   (ref05_LightTerm x).bind fun r6 =>
   if (!r6) = true then
    some (Out.ret false)
   else
    ref07_LightPod.l1 p n (IntKind.i64.wrap (i2 + (1 : Int)))
  else
   some (Out.go ())
def ref07_LightPod (p : T_api_Pod) : Option Bool :=
 (if ((((decide ((p.Name.size : Int) > (300 : Int))) || (decide ((p.Owner.size : Int) > (300 : Int)))) || (decide ((p.Terms.length : Int) > (30 : Int)))) || (decide ((p.Ports.length : Int) > (30 : Int)))) = true then some true else (ref05_Light p.Labels).bind fun r =>
 some (!r)).bind fun c =>
 (if c = true then some true else (ref05_Light p.Select).bind fun r2 =>
 some (!r2)).bind fun c2 =>
 (if c2 = true then some true else (ref05_Light p.Apart).bind fun r3 =>
 some (!r3)).bind fun c3 =>
 (if c3 = true then some true else (ref05_Light p.Spread).bind fun r4 =>
 some (!r4)).bind fun c4 =>
 (if c4 = true then some true else (ref06_Light p.Bears ([] : List T_api_Taint)).bind fun r5 =>
 some (!r5)).bind fun c5 =>
 if c5 = true then
  some false
 else
  (ref07_LightPod.l1 p FU (0 : Int)).bind fun o =>
  o.on fun j =>
  some true
theorem ref07_LightPod_ok (p : T_api_Pod) (r : Bool) (hm : ref07_LightPod p = some r) :
  VC Try.prog 30 [T_api_Pod.vv p] [] (fun zx zH => zx = .bool r ∧ zH = []) := by
 unfold ref07_LightPod at hm
 refine VC.run (c := _) (rs := [.tmp 2]) Try.func30 R R R <| VW.seq <| VW.region ?_
 refine VR.cons R R (VO.box R R fun b => ?_)
 refine VR.p R R (VP.assign R) <| VR.nil <| VW.seq <| VW.seq <| VW.region <| VR.p R R (VP.fieldP R fa39_0) <| VR.p R R (VP.loadP (i := 0) R R ld9 R) <| VR.p R R (VP.lenS R Try.underlying9) <| VR.p R R (VP.arith R R R) <| VR.p R R (VP.move R) ?_
 refine VR.sc 5 13 (.bool ((decide ((p.Name.size : Int) > (300 : Int))) || (decide ((p.Owner.size : Int) > (300 : Int))))) (fun K' J => ?_) ?_
 ·rcases Bool.eq_false_or_eq_true (decide ((p.Name.size : Int) > (300 : Int))) with h2 | h2
  ·refine VR.skipG R R R R h2 <| VR.skipG R R R R h2 <| VR.skipG R R R R h2 <| VR.skipG R R R R h2 <| VR.p R R (VP.pickB true R h2 R) ?_
   exact J [_, _, _, _] _ R (orT h2)
  ·refine VR.pG R R R R h2 (VP.fieldP R fa39_12) <| VR.pG R R R R h2 (VP.loadP (i := 0) R R ld9 R) <| VR.pG R R R R h2 (VP.lenS R Try.underlying9) <| VR.pG R R R R h2 (VP.arith R R R) <| VR.p R R (VP.pickB false R h2 R) ?_
   exact J [_, _, _, _] _ R (orF h2)
 ·refine VR.p R R (VP.move R) ?_
  refine VR.sc 5 19 (.bool (((decide ((p.Name.size : Int) > (300 : Int))) || (decide ((p.Owner.size : Int) > (300 : Int)))) || (decide ((p.Terms.length : Int) > (30 : Int))))) (fun K' J => ?_) ?_
  ·rcases Bool.eq_false_or_eq_true ((decide ((p.Name.size : Int) > (300 : Int))) || (decide ((p.Owner.size : Int) > (300 : Int)))) with h3 | h3
   ·refine VR.skipG R R R R h3 <| VR.skipG R R R R h3 <| VR.skipG R R R R h3 <| VR.skipG R R R R h3 <| VR.p R R (VP.pickB true R h3 R) ?_
    exact J [_, _, _, _] _ R (orT h3)
   ·refine VR.pG R R R R h3 (VP.fieldP R fa39_4) <| VR.pG R R R R h3 (VP.loadP (i := 0) R R ld35 R) <| VR.pG R R R R h3 (VP.lenT T_api_Term.vv R Try.underlying35) <| VR.pG R R R R h3 (VP.arith R R R) <| VR.p R R (VP.pickB false R h3 R) ?_
    exact J [_, _, _, _] _ R (orF h3)
  ·refine VR.p R R (VP.move R) ?_
   refine VR.sc 5 25 (.bool ((((decide ((p.Name.size : Int) > (300 : Int))) || (decide ((p.Owner.size : Int) > (300 : Int)))) || (decide ((p.Terms.length : Int) > (30 : Int)))) || (decide ((p.Ports.length : Int) > (30 : Int))))) (fun K' J => ?_) ?_
   ·rcases Bool.eq_false_or_eq_true (((decide ((p.Name.size : Int) > (300 : Int))) || (decide ((p.Owner.size : Int) > (300 : Int)))) || (decide ((p.Terms.length : Int) > (30 : Int)))) with h4 | h4
    ·refine VR.skipG R R R R h4 <| VR.skipG R R R R h4 <| VR.skipG R R R R h4 <| VR.skipG R R R R h4 <| VR.p R R (VP.pickB true R h4 R) ?_
     exact J [_, _, _, _] _ R (orT h4)
    ·refine VR.pG R R R R h4 (VP.fieldP R fa39_6) <| VR.pG R R R R h4 (VP.loadP (i := 0) R R ld37 R) <| VR.pG R R R R h4 (VP.lenT (VV.int .i64) R Try.underlying37) <| VR.pG R R R R h4 (VP.arith R R R) <| VR.p R R (VP.pickB false R h4 R) ?_
     exact J [_, _, _, _] _ R (orF h4)
   ·refine VR.p R R (VP.move R) ?_
    obtain ⟨c, h8, hm⟩ := bnd hm
    refine VR.sc 5 31 (.bool c) (fun K' J => ?_) ?_
    ·have hm := h8
     rcases ite_or hm with ⟨h5, hm⟩ | ⟨h5, hm⟩
     ·refine VR.skipG R R R R h5 <| VR.skipG R R R R h5 <| VR.skipG R R R R h5 <| VR.skipG R R R R h5 <| VR.p R R (VP.pickB true R h5 R) ?_
      exact J [_, _, _, _] _ R (congrArg VV.bool (Option.some.inj hm))
     ·have h5 := bf h5
      refine VR.pG R R R R h5 (VP.fieldP R fa39_2) <| VR.pG R R R R h5 (VP.loadP (i := 0) R R ld27 R) ?_
      obtain ⟨r, h6, hm⟩ := bnd hm
      refine VR.consG R R R R h5 (VO.callK 0 R fn31 R (ref05_Light_ok p.Labels r h6) fun _ _ h7 => ?_)
      obtain ⟨rfl, rfl⟩ := h7
      refine VR.pG R R R R h5 (VP.not R) <| VR.p R R (VP.pickB false R h5 R) ?_
      exact J [_, _, _, _] _ R (congrArg VV.bool (Option.some.inj hm))
    ·refine VR.p R R (VP.move R) ?_
     obtain ⟨c2, h12, hm⟩ := bnd hm
     refine VR.sc 5 37 (.bool c2) (fun K' J => ?_) ?_
     ·have hm := h12
      rcases ite_or hm with ⟨h9, hm⟩ | ⟨h9, hm⟩
      ·refine VR.skipG R R R R h9 <| VR.skipG R R R R h9 <| VR.skipG R R R R h9 <| VR.skipG R R R R h9 <| VR.p R R (VP.pickB true R h9 R) ?_
       exact J [_, _, _, _] _ R (congrArg VV.bool (Option.some.inj hm))
      ·have h9 := bf h9
       refine VR.pG R R R R h9 (VP.fieldP R fa39_3) <| VR.pG R R R R h9 (VP.loadP (i := 0) R R ld27 R) ?_
       obtain ⟨r2, h10, hm⟩ := bnd hm
       refine VR.consG R R R R h9 (VO.callK 0 R fn31 R (ref05_Light_ok p.Select r2 h10) fun _ _ h11 => ?_)
       obtain ⟨rfl, rfl⟩ := h11
       refine VR.pG R R R R h9 (VP.not R) <| VR.p R R (VP.pickB false R h9 R) ?_
       exact J [_, _, _, _] _ R (congrArg VV.bool (Option.some.inj hm))
     ·refine VR.p R R (VP.move R) ?_
      obtain ⟨c3, h16, hm⟩ := bnd hm
      refine VR.sc 5 43 (.bool c3) (fun K' J => ?_) ?_
      ·have hm := h16
       rcases ite_or hm with ⟨h13, hm⟩ | ⟨h13, hm⟩
       ·refine VR.skipG R R R R h13 <| VR.skipG R R R R h13 <| VR.skipG R R R R h13 <| VR.skipG R R R R h13 <| VR.p R R (VP.pickB true R h13 R) ?_
        exact J [_, _, _, _] _ R (congrArg VV.bool (Option.some.inj hm))
       ·have h13 := bf h13
        refine VR.pG R R R R h13 (VP.fieldP R fa39_7) <| VR.pG R R R R h13 (VP.loadP (i := 0) R R ld27 R) ?_
        obtain ⟨r3, h14, hm⟩ := bnd hm
        refine VR.consG R R R R h13 (VO.callK 0 R fn31 R (ref05_Light_ok p.Apart r3 h14) fun _ _ h15 => ?_)
        obtain ⟨rfl, rfl⟩ := h15
        refine VR.pG R R R R h13 (VP.not R) <| VR.p R R (VP.pickB false R h13 R) ?_
        exact J [_, _, _, _] _ R (congrArg VV.bool (Option.some.inj hm))
      ·refine VR.p R R (VP.move R) ?_
       obtain ⟨c4, h20, hm⟩ := bnd hm
       refine VR.sc 5 49 (.bool c4) (fun K' J => ?_) ?_
       ·have hm := h20
        rcases ite_or hm with ⟨h17, hm⟩ | ⟨h17, hm⟩
        ·refine VR.skipG R R R R h17 <| VR.skipG R R R R h17 <| VR.skipG R R R R h17 <| VR.skipG R R R R h17 <| VR.p R R (VP.pickB true R h17 R) ?_
         exact J [_, _, _, _] _ R (congrArg VV.bool (Option.some.inj hm))
        ·have h17 := bf h17
         refine VR.pG R R R R h17 (VP.fieldP R fa39_9) <| VR.pG R R R R h17 (VP.loadP (i := 0) R R ld27 R) ?_
         obtain ⟨r4, h18, hm⟩ := bnd hm
         refine VR.consG R R R R h17 (VO.callK 0 R fn31 R (ref05_Light_ok p.Spread r4 h18) fun _ _ h19 => ?_)
         obtain ⟨rfl, rfl⟩ := h19
         refine VR.pG R R R R h17 (VP.not R) <| VR.p R R (VP.pickB false R h17 R) ?_
         exact J [_, _, _, _] _ R (congrArg VV.bool (Option.some.inj hm))
       ·refine VR.p R R (VP.move R) ?_
        obtain ⟨c5, h24, hm⟩ := bnd hm
        refine VR.sc 5 55 (.bool c5) (fun K' J => ?_) ?_
        ·have hm := h24
         rcases ite_or hm with ⟨h21, hm⟩ | ⟨h21, hm⟩
         ·refine VR.skipG R R R R h21 <| VR.skipG R R R R h21 <| VR.skipG R R R R h21 <| VR.skipG R R R R h21 <| VR.p R R (VP.pickB true R h21 R) ?_
          exact J [_, _, _, _] _ R (congrArg VV.bool (Option.some.inj hm))
         ·have h21 := bf h21
          refine VR.pG R R R R h21 (VP.fieldP R fa39_5) <| VR.pG R R R R h21 (VP.loadP (i := 0) R R ld36 R) ?_
          obtain ⟨r5, h22, hm⟩ := bnd hm
          refine VR.consG R R R R h21 (VO.callN 0 [.same, .nil 96] R fn32 R (ref06_Light_ok p.Bears ([] : List T_api_Taint) r5 h22) fun _ _ h23 => ?_)
          obtain ⟨rfl, rfl⟩ := h23
          refine VR.pG R R R R h21 (VP.not R) <| VR.p R R (VP.pickB false R h21 R) ?_
          exact J [_, _, _, _] _ R (congrArg VV.bool (Option.some.inj hm))
        ·refine VR.nil ?_
         rcases ite_or hm with ⟨h25, hm⟩ | ⟨h25, hm⟩
         ·refine VW.condT R h25 <| VW.seq <| VW.region <| VR.p R R (VP.assign R) <| VR.nil ?_
          obtain rfl := Option.some.inj hm
          exact VW.ret ⟨.inl R, _, .cons (.tmp _ _ R) .nil, [], _, R, R, R⟩
         ·have h25 := bf h25
          refine VW.condF R h25 <| VW.skip <| VW.seq <| VW.seq <| VW.region <| VR.p R R (VP.assign R) <| VR.nil ?_
          obtain ⟨o, h26, h27⟩ := bnd hm
          refine VW.joinE (fun (q : Unit) => o = Out.go q) (fun (j : Unit) (gg : Unit) => []) (fun (j : Unit) (gg : Unit) => []) ?_ ?_
          ·have hm := h26
           refine VW.block (VW.loop FU ?_)
           refine VL.fuelS (R := _) (fun zn (zs : Int) => ref07_LightPod.l1 p zn zs) (fun (zs : Int) (zg : Unit) => [(1, .ptr b 0), (3, .int .i64 zs)]) (fun (zs : Int) (zg : Unit) => [.box b 39 (T_api_Pod.cells p)]) (0 : Int) () (fun zs => R) (Shift.pick [0] R ⟨R, R, trivial⟩) h26 ?_
           rintro n i2 _ hm
           rw [ref07_LightPod.l1] at hm
           refine VW.seq <| VW.seq <| VW.region <| VR.p R R (VP.move R) <| VR.p R R (VP.fieldP R fa39_4) <| VR.p R R (VP.loadP (i := 0) R R ld35 R) <| VR.p R R (VP.lenT T_api_Term.vv R Try.underlying35) <| VR.p R R (VP.arith R R R) <| VR.nil ?_
           rcases ite_or hm with ⟨h28, hm⟩ | ⟨h28, hm⟩
           ·refine VW.condT R h28 <| VW.skip <| VW.seq <| VW.block <| VW.seq <| VW.region <| VR.p R R (VP.fieldP R fa39_4) <| VR.p R R (VP.loadP (i := 0) R R ld35 R) <| VR.p R R (VP.move R) ?_
            obtain ⟨x, h29, hm⟩ := bnd hm
            refine VR.p R R (VP.glE T_api_Term.vv R R el35 h29) <| VR.p R R (VP.loadE R ld90 R) ?_
            obtain ⟨r6, h30, hm⟩ := bnd hm
            refine VR.cons R R (VO.callK 0 R fn46 R (ref05_LightTerm_ok x r6 h30) fun _ _ h32 => ?_)
            obtain ⟨rfl, rfl⟩ := h32
            refine VR.p R R (VP.not R) <| VR.nil ?_
            rcases ite_or hm with ⟨h31, hm⟩ | ⟨h31, hm⟩
            ·refine VW.condT R h31 <| VW.seq <| VW.region <| VR.p R R (VP.assign R) <| VR.nil ?_
             obtain rfl := Option.some.inj hm
             have hm := Out.ret_on h27
             obtain rfl := Option.some.inj hm
             exact VW.ret ⟨.inl R, _, .cons (.tmp _ _ R) .nil, [], _, R, R, R⟩
            ·have h31 := bf h31
             refine VW.condF R h31 <| VW.skip <| VW.region <| VR.p R R (VP.move R) <| VR.p R R (VP.arith R R R) <| VR.p R R (VP.assign R) <| VR.nil ?_
             exact ⟨(IntKind.i64.wrap (i2 + (1 : Int))), (), hm, (Shift.pick [0] R ⟨R, R, trivial⟩)⟩
           ·have h28 := bf h28
            refine VW.condF R h28 <| VW.exit ?_
            exact ⟨(), (), (Option.some.inj hm).symm, (Shift.pick [] R trivial)⟩
          ·rintro j _ rfl
           have hm := Out.go_on h27
           refine VW.seq <| VW.region <| VR.p R R (VP.assign R) <| VR.nil ?_
           obtain rfl := Option.some.inj hm
           exact VW.ret ⟨.inl R, _, .cons (.tmp _ _ R) .nil, [], _, R, R, R⟩

/-! trireme/triremeref09.Light -/
def ref09_Light.l1 (ms : List T_api_Machine) : Nat → Int → Option (Out Bool Unit)
 | 0, _ => none
 | n + 1, i2 =>
  if (decide (i2 < (ms.length : Int))) = true then
   (V.gl ms i2).bind fun x =>
   (ref07_LightMachine x).bind fun r =>
   if (!r) = true then
    some (Out.ret false)
   else
    ref09_Light.l1 ms n (IntKind.i64.wrap (i2 + (1 : Int)))
  else
   some (Out.go ())
def ref09_Light.l2 (bs : List T_api_Bound) : Nat → Int → Option (Out Bool Unit)
 | 0, _ => none
 | n2 + 1, i4 =>
  if (decide (i4 < (bs.length : Int))) = true then
   (V.gl bs i4).bind fun x2 =>
   (ref07_LightPod x2.Pod).bind fun r2 =>
   (if (!r2) = true then some true else (V.gl bs i4).bind fun x3 =>
   some (decide ((x3.On.size : Int) > (300 : Int)))).bind fun c =>
   if c = true then
    some (Out.ret false)
   else
    ref09_Light.l2 bs n2 (IntKind.i64.wrap (i4 + (1 : Int)))
  else
   some (Out.go ())
def ref09_Light (ms : List T_api_Machine) (bs : List T_api_Bound) : Option Bool :=
 if ((decide ((ms.length : Int) > (20 : Int))) || (decide ((bs.length : Int) > (40 : Int)))) = true then
  some false
 else
  (ref09_Light.l1 ms FU (0 : Int)).bind fun o =>
  o.on fun j =>
  (ref09_Light.l2 bs FU (0 : Int)).bind fun o2 =>
  o2.on fun j2 =>
  some true
theorem ref09_Light_ok (ms : List T_api_Machine) (bs : List T_api_Bound) (r : Bool) (hm : ref09_Light ms bs = some r) :
  VC Try.prog 15 [.list 30 (List.map T_api_Machine.vv ms), .list 50 (List.map T_api_Bound.vv bs)] [] (fun zx zH => zx = .bool r ∧ zH = []) := by
 unfold ref09_Light at hm
 refine VC.run (c := _) (rs := [.tmp 4]) Try.func15 R R R <| VW.seq <| VW.region <| VR.p R R (VP.assign R) <| VR.nil <| VW.seq <| VW.seq <| VW.region <| VR.p R R (VP.move R) <| VR.p R R (VP.lenT T_api_Machine.vv R Try.underlying22) <| VR.p R R (VP.arith R R R) <| VR.p R R (VP.move R) ?_
 refine VR.sc 4 14 (.bool ((decide ((ms.length : Int) > (20 : Int))) || (decide ((bs.length : Int) > (40 : Int))))) (fun K' J => ?_) ?_
 ·rcases Bool.eq_false_or_eq_true (decide ((ms.length : Int) > (20 : Int))) with h1 | h1
  ·refine VR.skipG R R R R h1 <| VR.skipG R R R R h1 <| VR.skipG R R R R h1 <| VR.p R R (VP.pickB true R h1 R) ?_
   exact J [_, _, _] _ R (orT h1)
  ·refine VR.pG R R R R h1 (VP.move R) <| VR.pG R R R R h1 (VP.lenT T_api_Bound.vv R Try.underlying23) <| VR.pG R R R R h1 (VP.arith R R R) <| VR.p R R (VP.pickB false R h1 R) ?_
   exact J [_, _, _] _ R (orF h1)
 ·refine VR.nil ?_
  rcases ite_or hm with ⟨h2, hm⟩ | ⟨h2, hm⟩
  ·refine VW.condT R h2 <| VW.seq <| VW.region <| VR.p R R (VP.assign R) <| VR.nil ?_
   obtain rfl := Option.some.inj hm
   exact VW.ret ⟨.inl R, _, .cons (.tmp _ _ R) .nil, [], _, R, R, R⟩
  ·have h2 := bf h2
   refine VW.condF R h2 <| VW.skip <| VW.seq <| VW.seq <| VW.region <| VR.p R R (VP.assign R) <| VR.nil ?_
   obtain ⟨o, h3, h4⟩ := bnd hm
   refine VW.joinE (fun (q : Unit) => o = Out.go q) (fun (j : Unit) (gg : Unit) => [(1, .list 50 (List.map T_api_Bound.vv bs))]) (fun (j : Unit) (gg : Unit) => []) ?_ ?_
   ·have hm := h3
    refine VW.block (VW.loop FU ?_)
    refine VL.fuelS (R := _) (fun zn (zs : Int) => ref09_Light.l1 ms zn zs) (fun (zs : Int) (zg : Unit) => [(0, .list 30 (List.map T_api_Machine.vv ms)), (1, .list 50 (List.map T_api_Bound.vv bs)), (5, .int .i64 zs)]) (fun (zs : Int) (zg : Unit) => []) (0 : Int) () (fun zs => R) (Shift.pick [] R ⟨R, R, R, trivial⟩) h3 ?_
    rintro n i2 _ hm
    rw [ref09_Light.l1] at hm
    refine VW.seq <| VW.seq <| VW.region <| VR.p R R (VP.move R) <| VR.p R R (VP.move R) <| VR.p R R (VP.lenT T_api_Machine.vv R Try.underlying22) <| VR.p R R (VP.arith R R R) <| VR.nil ?_
    rcases ite_or hm with ⟨h5, hm⟩ | ⟨h5, hm⟩
    ·refine VW.condT R h5 <| VW.skip <| VW.seq <| VW.block <| VW.seq <| VW.region <| VR.p R R (VP.move R) <| VR.p R R (VP.move R) ?_
     obtain ⟨x, h6, hm⟩ := bnd hm
     refine VR.p R R (VP.glE T_api_Machine.vv R R el22 h6) <| VR.p R R (VP.loadE R ld30 R) ?_
     obtain ⟨r, h7, hm⟩ := bnd hm
     refine VR.cons R R (VO.callK 0 R fn16 R (ref07_LightMachine_ok x r h7) fun _ _ h9 => ?_)
     obtain ⟨rfl, rfl⟩ := h9
     refine VR.p R R (VP.not R) <| VR.nil ?_
     rcases ite_or hm with ⟨h8, hm⟩ | ⟨h8, hm⟩
     ·refine VW.condT R h8 <| VW.seq <| VW.region <| VR.p R R (VP.assign R) <| VR.nil ?_
      obtain rfl := Option.some.inj hm
      have hm := Out.ret_on h4
      obtain rfl := Option.some.inj hm
      exact VW.ret ⟨.inl R, _, .cons (.tmp _ _ R) .nil, [], _, R, R, R⟩
     ·have h8 := bf h8
      refine VW.condF R h8 <| VW.skip <| VW.region <| VR.p R R (VP.move R) <| VR.p R R (VP.arith R R R) <| VR.p R R (VP.assign R) <| VR.nil ?_
      exact ⟨(IntKind.i64.wrap (i2 + (1 : Int))), (), hm, (Shift.pick [] R ⟨R, R, R, trivial⟩)⟩
    ·have h5 := bf h5
     refine VW.condF R h5 <| VW.exit ?_
     exact ⟨(), (), (Option.some.inj hm).symm, (Shift.pick [] R ⟨R, trivial⟩)⟩
   ·rintro j _ rfl
    have hm := Out.go_on h4
    refine VW.seq <| VW.seq <| VW.region <| VR.p R R (VP.assign R) <| VR.nil ?_
    obtain ⟨o2, h10, h11⟩ := bnd hm
    refine VW.joinE (fun (q : Unit) => o2 = Out.go q) (fun (j2 : Unit) (gg : Unit) => []) (fun (j2 : Unit) (gg : Unit) => []) ?_ ?_
    ·have hm := h10
     refine VW.block (VW.loop FU ?_)
     refine VL.fuelS (R := _) (fun zn (zs : Int) => ref09_Light.l2 bs zn zs) (fun (zs : Int) (zg : Unit) => [(1, .list 50 (List.map T_api_Bound.vv bs)), (6, .int .i64 zs)]) (fun (zs : Int) (zg : Unit) => []) (0 : Int) () (fun zs => R) (Shift.pick [] R ⟨R, R, trivial⟩) h10 ?_
     rintro n2 i4 _ hm
     rw [ref09_Light.l2] at hm
     refine VW.seq <| VW.seq <| VW.region <| VR.p R R (VP.move R) <| VR.p R R (VP.move R) <| VR.p R R (VP.lenT T_api_Bound.vv R Try.underlying23) <| VR.p R R (VP.arith R R R) <| VR.nil ?_
     rcases ite_or hm with ⟨h12, hm⟩ | ⟨h12, hm⟩
     ·refine VW.condT R h12 <| VW.skip <| VW.seq <| VW.block <| VW.seq <| VW.region <| VR.p R R (VP.move R) <| VR.p R R (VP.move R) ?_
      obtain ⟨x2, h13, hm⟩ := bnd hm
      refine VR.p R R (VP.glE T_api_Bound.vv R R el23 h13) <| VR.p R R (VP.fieldE R fa50_0) <| VR.p R R (VP.loadE R ld39 R) ?_
      obtain ⟨r2, h14, hm⟩ := bnd hm
      refine VR.cons R R (VO.callK 0 R fn30 R (ref07_LightPod_ok x2.Pod r2 h14) fun _ _ h19 => ?_)
      obtain ⟨rfl, rfl⟩ := h19
      refine VR.p R R (VP.not R) <| VR.p R R (VP.move R) ?_
      obtain ⟨c, h17, hm⟩ := bnd hm
      refine VR.sc 8 48 (.bool c) (fun K' J => ?_) ?_
      ·have hm := h17
       rcases ite_or hm with ⟨h15, hm⟩ | ⟨h15, hm⟩
       ·refine VR.skipG R R R R h15 <| VR.skipG R R R R h15 <| VR.skipG R R R R h15 <| VR.skipG R R R R h15 <| VR.skipG R R R R h15 <| VR.skipG R R R R h15 <| VR.skipG R R R R h15 <| VR.p R R (VP.pickB true R h15 R) ?_
        exact J [_, _, _, _, _, _, _] _ R (congrArg VV.bool (Option.some.inj hm))
       ·have h15 := bf h15
        refine VR.pG R R R R h15 (VP.move R) <| VR.pG R R R R h15 (VP.move R) ?_
        obtain ⟨x3, h16, hm⟩ := bnd hm
        refine VR.pG R R R R h15 (VP.glE T_api_Bound.vv R R el23 h16) <| VR.pG R R R R h15 (VP.fieldE R fa50_1) <| VR.pG R R R R h15 (VP.loadE R ld9 R) <| VR.pG R R R R h15 (VP.lenS R Try.underlying9) <| VR.pG R R R R h15 (VP.arith R R R) <| VR.p R R (VP.pickB false R h15 R) ?_
        exact J [_, _, _, _, _, _, _] _ R (congrArg VV.bool (Option.some.inj hm))
      ·refine VR.nil ?_
       rcases ite_or hm with ⟨h18, hm⟩ | ⟨h18, hm⟩
       ·refine VW.condT R h18 <| VW.seq <| VW.region <| VR.p R R (VP.assign R) <| VR.nil ?_
        obtain rfl := Option.some.inj hm
        have hm := Out.ret_on h11
        obtain rfl := Option.some.inj hm
        exact VW.ret ⟨.inl R, _, .cons (.tmp _ _ R) .nil, [], _, R, R, R⟩
       ·have h18 := bf h18
        refine VW.condF R h18 <| VW.skip <| VW.region <| VR.p R R (VP.move R) <| VR.p R R (VP.arith R R R) <| VR.p R R (VP.assign R) <| VR.nil ?_
        exact ⟨(IntKind.i64.wrap (i4 + (1 : Int))), (), hm, (Shift.pick [] R ⟨R, R, trivial⟩)⟩
     ·have h12 := bf h12
      refine VW.condF R h12 <| VW.exit ?_
      exact ⟨(), (), (Option.some.inj hm).symm, (Shift.pick [] R trivial)⟩
    ·rintro j2 _ rfl
     have hm := Out.go_on h11
     refine VW.seq <| VW.region <| VR.p R R (VP.assign R) <| VR.nil ?_
     obtain rfl := Option.some.inj hm
     exact VW.ret ⟨.inl R, _, .cons (.tmp _ _ R) .nil, [], _, R, R, R⟩

/-! trireme/triremeref01.more -/
def ref01_more (s : ByteArray) (i : Int) : Option Bool :=
 (if (decide (i < (s.size : Int))) = true then (V.gi s i).bind fun v =>
 some (decide (v ≥ (128 : Int))) else some false).bind fun c =>
 (if c = true then (V.gi s i).bind fun v2 =>
 some (decide (v2 < (192 : Int))) else some false).bind fun c2 =>
 some c2
theorem ref01_more_ok (s : ByteArray) (i : Int) (r : Bool) (hm : ref01_more s i = some r) :
  VC Try.prog 75 [.str s, .int .i64 i] [] (fun zx zH => zx = .bool r ∧ zH = []) := by
 unfold ref01_more at hm
 refine VC.run (c := _) (rs := [.tmp 4]) Try.func75 R R R <| VW.seq <| VW.region <| VR.p R R (VP.assign R) <| VR.nil <| VW.seq <| VW.region <| VR.p R R (VP.move R) <| VR.p R R (VP.move R) <| VR.p R R (VP.lenS R Try.underlying9) <| VR.p R R (VP.arith R R R) <| VR.p R R (VP.move R) ?_
 obtain ⟨c, h3, hm⟩ := bnd hm
 refine VR.sc 5 14 (.bool c) (fun K' J => ?_) ?_
 ·have hm := h3
  rcases ite_or hm with ⟨h1, hm⟩ | ⟨h1, hm⟩
  ·refine VR.pG R R R R h1 (VP.move R) <| VR.pG R R R R h1 (VP.move R) ?_
   obtain ⟨v, h2, hm⟩ := bnd hm
   refine VR.pG R R R R h1 (VP.gi R R Try.underlying9 h2) <| VR.pG R R R R h1 (VP.arith R R R) <| VR.p R R (VP.pickB true R h1 R) ?_
   exact J [_, _, _, _] _ R (congrArg VV.bool (Option.some.inj hm))
  ·have h1 := bf h1
   refine VR.skipG R R R R h1 <| VR.skipG R R R R h1 <| VR.skipG R R R R h1 <| VR.skipG R R R R h1 <| VR.p R R (VP.pickB false R h1 R) ?_
   exact J [_, _, _, _] _ R (congrArg VV.bool (Option.some.inj hm))
 ·refine VR.p R R (VP.move R) ?_
  obtain ⟨c2, h6, hm⟩ := bnd hm
  refine VR.sc 5 20 (.bool c2) (fun K' J => ?_) ?_
  ·have hm := h6
   rcases ite_or hm with ⟨h4, hm⟩ | ⟨h4, hm⟩
   ·refine VR.pG R R R R h4 (VP.move R) <| VR.pG R R R R h4 (VP.move R) ?_
    obtain ⟨v2, h5, hm⟩ := bnd hm
    refine VR.pG R R R R h4 (VP.gi R R Try.underlying9 h5) <| VR.pG R R R R h4 (VP.arith R R R) <| VR.p R R (VP.pickB true R h4 R) ?_
    exact J [_, _, _, _] _ R (congrArg VV.bool (Option.some.inj hm))
   ·have h4 := bf h4
    refine VR.skipG R R R R h4 <| VR.skipG R R R R h4 <| VR.skipG R R R R h4 <| VR.skipG R R R R h4 <| VR.p R R (VP.pickB false R h4 R) ?_
    exact J [_, _, _, _] _ R (congrArg VV.bool (Option.some.inj hm))
  ·refine VR.p R R (VP.assign R) <| VR.nil ?_
   obtain rfl := Option.some.inj hm
   exact VW.ret ⟨.inl R, _, .cons (.tmp _ _ R) .nil, [], _, R, R, R⟩

/-! trireme/triremeref01.Rune -/
def ref01_Rune (s : ByteArray) (i : Int) : Option (Int × Int) :=
 (V.gi s i).bind fun v =>
 if (decide ((IntKind.i64.wrap v) < (128 : Int))) = true then
  some ((IntKind.i64.wrap v), (1 : Int))
 else
  (if ((decide ((IntKind.i64.wrap v) ≥ (192 : Int))) && (decide ((IntKind.i64.wrap v) < (224 : Int)))) = true then (ref01_more s (IntKind.i64.wrap (i + (1 : Int)))).bind fun r =>
  some r else some false).bind fun c =>
  if c = true then
   (V.gi s (IntKind.i64.wrap (i + (1 : Int)))).bind fun v2 =>
   if (decide ((IntKind.i64.wrap ((IntKind.i64.wrap ((IntKind.i64.wrap ((IntKind.i64.wrap ((IntKind.i64.wrap v) - (192 : Int))) * (64 : Int))) + (IntKind.i64.wrap v2))) - (128 : Int))) ≥ (128 : Int))) = true then
    some ((IntKind.i64.wrap ((IntKind.i64.wrap ((IntKind.i64.wrap ((IntKind.i64.wrap ((IntKind.i64.wrap v) - (192 : Int))) * (64 : Int))) + (IntKind.i64.wrap v2))) - (128 : Int))), (2 : Int))
   else
    some ((0 : Int), (0 : Int))
  else
   (if ((decide ((IntKind.i64.wrap v) ≥ (224 : Int))) && (decide ((IntKind.i64.wrap v) < (240 : Int)))) = true then (ref01_more s (IntKind.i64.wrap (i + (1 : Int)))).bind fun r2 =>
   some r2 else some false).bind fun c2 =>
   (if c2 = true then (ref01_more s (IntKind.i64.wrap (i + (2 : Int)))).bind fun r3 =>
   some r3 else some false).bind fun c3 =>
   if c3 = true then
    (V.gi s (IntKind.i64.wrap (i + (1 : Int)))).bind fun v3 =>
    (V.gi s (IntKind.i64.wrap (i + (2 : Int)))).bind fun v4 =>
    if ((decide ((IntKind.i64.wrap ((IntKind.i64.wrap ((IntKind.i64.wrap ((IntKind.i64.wrap ((IntKind.i64.wrap ((IntKind.i64.wrap v) - (224 : Int))) * (4096 : Int))) + (IntKind.i64.wrap ((IntKind.i64.wrap ((IntKind.i64.wrap v3) - (128 : Int))) * (64 : Int))))) + (IntKind.i64.wrap v4))) - (128 : Int))) ≥ (2048 : Int))) && ((decide ((IntKind.i64.wrap ((IntKind.i64.wrap ((IntKind.i64.wrap ((IntKind.i64.wrap ((IntKind.i64.wrap ((IntKind.i64.wrap v) - (224 : Int))) * (4096 : Int))) + (IntKind.i64.wrap ((IntKind.i64.wrap ((IntKind.i64.wrap v3) - (128 : Int))) * (64 : Int))))) + (IntKind.i64.wrap v4))) - (128 : Int))) < (55296 : Int))) || (decide ((IntKind.i64.wrap ((IntKind.i64.wrap ((IntKind.i64.wrap ((IntKind.i64.wrap ((IntKind.i64.wrap ((IntKind.i64.wrap v) - (224 : Int))) * (4096 : Int))) + (IntKind.i64.wrap ((IntKind.i64.wrap ((IntKind.i64.wrap v3) - (128 : Int))) * (64 : Int))))) + (IntKind.i64.wrap v4))) - (128 : Int))) > (57343 : Int))))) = true then
     some ((IntKind.i64.wrap ((IntKind.i64.wrap ((IntKind.i64.wrap ((IntKind.i64.wrap ((IntKind.i64.wrap ((IntKind.i64.wrap v) - (224 : Int))) * (4096 : Int))) + (IntKind.i64.wrap ((IntKind.i64.wrap ((IntKind.i64.wrap v3) - (128 : Int))) * (64 : Int))))) + (IntKind.i64.wrap v4))) - (128 : Int))), (3 : Int))
    else
     some ((0 : Int), (0 : Int))
   else
    (if ((decide ((IntKind.i64.wrap v) ≥ (240 : Int))) && (decide ((IntKind.i64.wrap v) < (248 : Int)))) = true then (ref01_more s (IntKind.i64.wrap (i + (1 : Int)))).bind fun r4 =>
    some r4 else some false).bind fun c4 =>
    (if c4 = true then (ref01_more s (IntKind.i64.wrap (i + (2 : Int)))).bind fun r5 =>
    some r5 else some false).bind fun c5 =>
    (if c5 = true then (ref01_more s (IntKind.i64.wrap (i + (3 : Int)))).bind fun r6 =>
    some r6 else some false).bind fun c6 =>
    if c6 = true then
     (V.gi s (IntKind.i64.wrap (i + (1 : Int)))).bind fun v5 =>
     (V.gi s (IntKind.i64.wrap (i + (2 : Int)))).bind fun v6 =>
     (V.gi s (IntKind.i64.wrap (i + (3 : Int)))).bind fun v7 =>
     if ((decide ((IntKind.i64.wrap ((IntKind.i64.wrap ((IntKind.i64.wrap ((IntKind.i64.wrap ((IntKind.i64.wrap ((IntKind.i64.wrap ((IntKind.i64.wrap v) - (240 : Int))) * (262144 : Int))) + (IntKind.i64.wrap ((IntKind.i64.wrap ((IntKind.i64.wrap v5) - (128 : Int))) * (4096 : Int))))) + (IntKind.i64.wrap ((IntKind.i64.wrap ((IntKind.i64.wrap v6) - (128 : Int))) * (64 : Int))))) + (IntKind.i64.wrap v7))) - (128 : Int))) ≥ (65536 : Int))) && (decide ((IntKind.i64.wrap ((IntKind.i64.wrap ((IntKind.i64.wrap ((IntKind.i64.wrap ((IntKind.i64.wrap ((IntKind.i64.wrap ((IntKind.i64.wrap v) - (240 : Int))) * (262144 : Int))) + (IntKind.i64.wrap ((IntKind.i64.wrap ((IntKind.i64.wrap v5) - (128 : Int))) * (4096 : Int))))) + (IntKind.i64.wrap ((IntKind.i64.wrap ((IntKind.i64.wrap v6) - (128 : Int))) * (64 : Int))))) + (IntKind.i64.wrap v7))) - (128 : Int))) ≤ (1114111 : Int)))) = true then
      some ((IntKind.i64.wrap ((IntKind.i64.wrap ((IntKind.i64.wrap ((IntKind.i64.wrap ((IntKind.i64.wrap ((IntKind.i64.wrap ((IntKind.i64.wrap v) - (240 : Int))) * (262144 : Int))) + (IntKind.i64.wrap ((IntKind.i64.wrap ((IntKind.i64.wrap v5) - (128 : Int))) * (4096 : Int))))) + (IntKind.i64.wrap ((IntKind.i64.wrap ((IntKind.i64.wrap v6) - (128 : Int))) * (64 : Int))))) + (IntKind.i64.wrap v7))) - (128 : Int))), (4 : Int))
     else
      some ((0 : Int), (0 : Int))
    else
     some ((0 : Int), (0 : Int))
theorem ref01_Rune_ok (s : ByteArray) (i : Int) (r : Int × Int) (hm : ref01_Rune s i = some r) :
  VC Try.prog 65 [.str s, .int .i64 i] [] (fun zx zH => zx = .tup [.int .i64 r.1, .int .i64 r.2] ∧ zH = []) := by
 unfold ref01_Rune at hm
 refine VC.run (c := _) (rs := [.tmp 4, .tmp 5]) Try.func65 R R R <| VW.seq <| VW.region <| VR.p R R (VP.assign R) <| VR.p R R (VP.assign R) <| VR.nil <| VW.seq <| VW.region <| VR.p R R (VP.move R) <| VR.p R R (VP.move R) ?_
 obtain ⟨v, h1, hm⟩ := bnd hm
 refine VR.p R R (VP.gi R R Try.underlying9 h1) <| VR.p R R (VP.convI Try.underlying5 Try.underlying3 R) <| VR.p R R (VP.assign R) <| VR.nil <| VW.seq <| VW.block <| VW.seq <| VW.region <| VR.p R R (VP.move R) <| VR.p R R (VP.arith R R R) <| VR.p R R (VP.assign R) <| VR.nil ?_
 rcases ite_or hm with ⟨h2, hm⟩ | ⟨h2, hm⟩
 ·refine VW.condT R h2 <| VW.seq <| VW.region <| VR.p R R (VP.move R) <| VR.p R R (VP.assign R) <| VR.p R R (VP.assign R) <| VR.nil ?_
  obtain rfl := Option.some.inj hm
  exact VW.ret ⟨.inl R, _, .cons (.tmp _ _ R) (.cons (.tmp _ _ R) .nil), [], _, R, R, R⟩
 ·have h2 := bf h2
  refine VW.condF R h2 <| VW.seq <| VW.region <| VR.p R R (VP.move R) <| VR.p R R (VP.arith R R R) <| VR.p R R (VP.move R) ?_
  refine VR.sc 3 24 (.bool ((decide ((IntKind.i64.wrap v) ≥ (192 : Int))) && (decide ((IntKind.i64.wrap v) < (224 : Int))))) (fun K' J => ?_) ?_
  ·rcases Bool.eq_false_or_eq_true (decide ((IntKind.i64.wrap v) ≥ (192 : Int))) with h3 | h3
   ·refine VR.pG R R R R h3 (VP.move R) <| VR.pG R R R R h3 (VP.arith R R R) <| VR.p R R (VP.pickB true R h3 R) ?_
    exact J [_, _] _ R (andT h3)
   ·refine VR.skipG R R R R h3 <| VR.skipG R R R R h3 <| VR.p R R (VP.pickB false R h3 R) ?_
    exact J [_, _] _ R (andF h3)
  ·refine VR.p R R (VP.move R) ?_
   obtain ⟨c, h7, hm⟩ := bnd hm
   refine VR.sc 5 30 (.bool c) (fun K' J => ?_) ?_
   ·have hm := h7
    rcases ite_or hm with ⟨h4, hm⟩ | ⟨h4, hm⟩
    ·refine VR.pG R R R R h4 (VP.move R) <| VR.pG R R R R h4 (VP.move R) <| VR.pG R R R R h4 (VP.arith R R R) ?_
     obtain ⟨r, h5, hm⟩ := bnd hm
     refine VR.consG R R R R h4 (VO.callK 0 R fn75 R (ref01_more_ok s (IntKind.i64.wrap (i + (1 : Int))) r h5) fun _ _ h6 => ?_)
     obtain ⟨rfl, rfl⟩ := h6
     refine VR.p R R (VP.pickB true R h4 R) ?_
     exact J [_, _, _, _] _ R (congrArg VV.bool (Option.some.inj hm))
    ·have h4 := bf h4
     refine VR.skipG R R R R h4 <| VR.skipG R R R R h4 <| VR.skipG R R R R h4 <| VR.skipG R R R R h4 <| VR.p R R (VP.pickB false R h4 R) ?_
     exact J [_, _, _, _] _ R (congrArg VV.bool (Option.some.inj hm))
   ·refine VR.p R R (VP.assign R) <| VR.nil ?_
    rcases ite_or hm with ⟨h8, hm⟩ | ⟨h8, hm⟩
    ·refine VW.condT R h8 <| VW.seq <| VW.region <| VR.p R R (VP.move R) <| VR.p R R (VP.arith R R R) <| VR.p R R (VP.arith R R R) <| VR.p R R (VP.move R) <| VR.p R R (VP.move R) <| VR.p R R (VP.arith R R R) ?_
     obtain ⟨v2, h9, hm⟩ := bnd hm
     refine VR.p R R (VP.gi R R Try.underlying9 h9) <| VR.p R R (VP.convI Try.underlying5 Try.underlying3 R) <| VR.p R R (VP.arith R R R) <| VR.p R R (VP.arith R R R) <| VR.p R R (VP.assign R) <| VR.nil <| VW.seq <| VW.region <| VR.p R R (VP.move R) <| VR.p R R (VP.arith R R R) <| VR.nil ?_
     rcases ite_or hm with ⟨h10, hm⟩ | ⟨h10, hm⟩
     ·refine VW.condT R h10 <| VW.seq <| VW.region <| VR.p R R (VP.move R) <| VR.p R R (VP.assign R) <| VR.p R R (VP.assign R) <| VR.nil ?_
      obtain rfl := Option.some.inj hm
      exact VW.ret ⟨.inl R, _, .cons (.tmp _ _ R) (.cons (.tmp _ _ R) .nil), [], _, R, R, R⟩
     ·have h10 := bf h10
      refine VW.condF R h10 <| VW.skip <| VW.seq <| VW.region <| VR.p R R (VP.assign R) <| VR.p R R (VP.assign R) <| VR.nil ?_
      obtain rfl := Option.some.inj hm
      exact VW.ret ⟨.inl R, _, .cons (.tmp _ _ R) (.cons (.tmp _ _ R) .nil), [], _, R, R, R⟩
    ·have h8 := bf h8
     refine VW.condF R h8 <| VW.seq <| VW.region <| VR.p R R (VP.move R) <| VR.p R R (VP.arith R R R) <| VR.p R R (VP.move R) ?_
     refine VR.sc 3 50 (.bool ((decide ((IntKind.i64.wrap v) ≥ (224 : Int))) && (decide ((IntKind.i64.wrap v) < (240 : Int))))) (fun K' J => ?_) ?_
     ·rcases Bool.eq_false_or_eq_true (decide ((IntKind.i64.wrap v) ≥ (224 : Int))) with h11 | h11
      ·refine VR.pG R R R R h11 (VP.move R) <| VR.pG R R R R h11 (VP.arith R R R) <| VR.p R R (VP.pickB true R h11 R) ?_
       exact J [_, _] _ R (andT h11)
      ·refine VR.skipG R R R R h11 <| VR.skipG R R R R h11 <| VR.p R R (VP.pickB false R h11 R) ?_
       exact J [_, _] _ R (andF h11)
     ·refine VR.p R R (VP.move R) ?_
      obtain ⟨c2, h15, hm⟩ := bnd hm
      refine VR.sc 5 56 (.bool c2) (fun K' J => ?_) ?_
      ·have hm := h15
       rcases ite_or hm with ⟨h12, hm⟩ | ⟨h12, hm⟩
       ·refine VR.pG R R R R h12 (VP.move R) <| VR.pG R R R R h12 (VP.move R) <| VR.pG R R R R h12 (VP.arith R R R) ?_
        obtain ⟨r2, h13, hm⟩ := bnd hm
        refine VR.consG R R R R h12 (VO.callK 0 R fn75 R (ref01_more_ok s (IntKind.i64.wrap (i + (1 : Int))) r2 h13) fun _ _ h14 => ?_)
        obtain ⟨rfl, rfl⟩ := h14
        refine VR.p R R (VP.pickB true R h12 R) ?_
        exact J [_, _, _, _] _ R (congrArg VV.bool (Option.some.inj hm))
       ·have h12 := bf h12
        refine VR.skipG R R R R h12 <| VR.skipG R R R R h12 <| VR.skipG R R R R h12 <| VR.skipG R R R R h12 <| VR.p R R (VP.pickB false R h12 R) ?_
        exact J [_, _, _, _] _ R (congrArg VV.bool (Option.some.inj hm))
      ·refine VR.p R R (VP.move R) ?_
       obtain ⟨c3, h19, hm⟩ := bnd hm
       refine VR.sc 5 62 (.bool c3) (fun K' J => ?_) ?_
       ·have hm := h19
        rcases ite_or hm with ⟨h16, hm⟩ | ⟨h16, hm⟩
        ·refine VR.pG R R R R h16 (VP.move R) <| VR.pG R R R R h16 (VP.move R) <| VR.pG R R R R h16 (VP.arith R R R) ?_
         obtain ⟨r3, h17, hm⟩ := bnd hm
         refine VR.consG R R R R h16 (VO.callK 0 R fn75 R (ref01_more_ok s (IntKind.i64.wrap (i + (2 : Int))) r3 h17) fun _ _ h18 => ?_)
         obtain ⟨rfl, rfl⟩ := h18
         refine VR.p R R (VP.pickB true R h16 R) ?_
         exact J [_, _, _, _] _ R (congrArg VV.bool (Option.some.inj hm))
        ·have h16 := bf h16
         refine VR.skipG R R R R h16 <| VR.skipG R R R R h16 <| VR.skipG R R R R h16 <| VR.skipG R R R R h16 <| VR.p R R (VP.pickB false R h16 R) ?_
         exact J [_, _, _, _] _ R (congrArg VV.bool (Option.some.inj hm))
       ·refine VR.p R R (VP.assign R) <| VR.nil ?_
        rcases ite_or hm with ⟨h20, hm⟩ | ⟨h20, hm⟩
        ·refine VW.condT R h20 <| VW.seq <| VW.drawK 0 mixed <| VA.p 0 R R R (by kernel_rfl) (VP.move R) <| VA.p 1 R R R (by kernel_rfl) (VP.arith R R R) <| VA.p 2 R R R (by kernel_rfl) (VP.arith R R R) <| VA.p 3 R R R (by kernel_rfl) (VP.move R) <| VA.p 4 R R R (by kernel_rfl) (VP.move R) <| VA.p 5 R R R (by kernel_rfl) (VP.arith R R R) ?_
         obtain ⟨v3, h21, hm⟩ := bnd hm
         refine VA.p 6 R R R (by kernel_rfl) (VP.gi R R Try.underlying9 h21) <| VA.p 7 R R R (by kernel_rfl) (VP.convI Try.underlying5 Try.underlying3 R) <| VA.p 8 R R R (by kernel_rfl) (VP.arith R R R) <| VA.p 9 R R R (by kernel_rfl) (VP.arith R R R) <| VA.p 10 R R R (by kernel_rfl) (VP.arith R R R) <| VA.p 11 R R R (by kernel_rfl) (VP.move R) <| VA.p 12 R R R (by kernel_rfl) (VP.move R) <| VA.p 13 R R R (by kernel_rfl) (VP.arith R R R) ?_
         obtain ⟨v4, h22, hm⟩ := bnd hm
         refine VA.p 14 R R R (by kernel_rfl) (VP.gi R R Try.underlying9 h22) <| VA.p 15 R R R (by kernel_rfl) (VP.convI Try.underlying5 Try.underlying3 R) <| VA.p 16 R R R (by kernel_rfl) (VP.arith R R R) <| VA.p 17 R R R (by kernel_rfl) (VP.arith R R R) <| VA.p 18 R R R (by kernel_rfl) (VP.assign R) <| VA.done (by kernel_rfl) <| VW.seq <| VW.region <| VR.p R R (VP.move R) <| VR.p R R (VP.arith R R R) <| VR.p R R (VP.move R) ?_
         refine VR.sc 7 90 (.bool ((decide ((IntKind.i64.wrap ((IntKind.i64.wrap ((IntKind.i64.wrap ((IntKind.i64.wrap ((IntKind.i64.wrap ((IntKind.i64.wrap v) - (224 : Int))) * (4096 : Int))) + (IntKind.i64.wrap ((IntKind.i64.wrap ((IntKind.i64.wrap v3) - (128 : Int))) * (64 : Int))))) + (IntKind.i64.wrap v4))) - (128 : Int))) ≥ (2048 : Int))) && ((decide ((IntKind.i64.wrap ((IntKind.i64.wrap ((IntKind.i64.wrap ((IntKind.i64.wrap ((IntKind.i64.wrap ((IntKind.i64.wrap v) - (224 : Int))) * (4096 : Int))) + (IntKind.i64.wrap ((IntKind.i64.wrap ((IntKind.i64.wrap v3) - (128 : Int))) * (64 : Int))))) + (IntKind.i64.wrap v4))) - (128 : Int))) < (55296 : Int))) || (decide ((IntKind.i64.wrap ((IntKind.i64.wrap ((IntKind.i64.wrap ((IntKind.i64.wrap ((IntKind.i64.wrap ((IntKind.i64.wrap v) - (224 : Int))) * (4096 : Int))) + (IntKind.i64.wrap ((IntKind.i64.wrap ((IntKind.i64.wrap v3) - (128 : Int))) * (64 : Int))))) + (IntKind.i64.wrap v4))) - (128 : Int))) > (57343 : Int)))))) (fun K' J => ?_) ?_
         ·rcases Bool.eq_false_or_eq_true (decide ((IntKind.i64.wrap ((IntKind.i64.wrap ((IntKind.i64.wrap ((IntKind.i64.wrap ((IntKind.i64.wrap ((IntKind.i64.wrap v) - (224 : Int))) * (4096 : Int))) + (IntKind.i64.wrap ((IntKind.i64.wrap ((IntKind.i64.wrap v3) - (128 : Int))) * (64 : Int))))) + (IntKind.i64.wrap v4))) - (128 : Int))) ≥ (2048 : Int))) with h23 | h23
          ·refine VR.pG R R R R h23 (VP.move R) <| VR.pG R R R R h23 (VP.arith R R R) <| VR.pG R R R R h23 (VP.move R) ?_
           refine VR.sc 3 89 (.bool ((decide ((IntKind.i64.wrap ((IntKind.i64.wrap ((IntKind.i64.wrap ((IntKind.i64.wrap ((IntKind.i64.wrap ((IntKind.i64.wrap v) - (224 : Int))) * (4096 : Int))) + (IntKind.i64.wrap ((IntKind.i64.wrap ((IntKind.i64.wrap v3) - (128 : Int))) * (64 : Int))))) + (IntKind.i64.wrap v4))) - (128 : Int))) < (55296 : Int))) || (decide ((IntKind.i64.wrap ((IntKind.i64.wrap ((IntKind.i64.wrap ((IntKind.i64.wrap ((IntKind.i64.wrap ((IntKind.i64.wrap v) - (224 : Int))) * (4096 : Int))) + (IntKind.i64.wrap ((IntKind.i64.wrap ((IntKind.i64.wrap v3) - (128 : Int))) * (64 : Int))))) + (IntKind.i64.wrap v4))) - (128 : Int))) > (57343 : Int))))) (fun K' J => ?_) ?_
           ·rcases Bool.eq_false_or_eq_true (decide ((IntKind.i64.wrap ((IntKind.i64.wrap ((IntKind.i64.wrap ((IntKind.i64.wrap ((IntKind.i64.wrap ((IntKind.i64.wrap v) - (224 : Int))) * (4096 : Int))) + (IntKind.i64.wrap ((IntKind.i64.wrap ((IntKind.i64.wrap v3) - (128 : Int))) * (64 : Int))))) + (IntKind.i64.wrap v4))) - (128 : Int))) < (55296 : Int))) with h24 | h24
            ·refine VR.skipG R R R R h24 <| VR.skipG R R R R h24 <| VR.pG R R R R h23 (VP.pickB true R h24 R) ?_
             exact J [_, _] _ R (orT h24)
            ·refine VR.pG R R R R h24 (VP.move R) <| VR.pG R R R R h24 (VP.arith R R R) <| VR.pG R R R R h23 (VP.pickB false R h24 R) ?_
             exact J [_, _] _ R (orF h24)
           ·refine VR.p R R (VP.pickB true R h23 R) ?_
            exact J [_, _, _, _] _ R (andT h23)
          ·refine VR.skipG R R R R h23 <| VR.skipG R R R R h23 <| VR.skipG R R R R h23 <| VR.skipU R R R R <| VR.skipU R R R R <| VR.skipG R R R R h23 <| VR.p R R (VP.pickB false R h23 R) ?_
           exact J [_, _, _, _, _, _] _ R (andF h23)
         ·refine VR.nil ?_
          rcases ite_or hm with ⟨h25, hm⟩ | ⟨h25, hm⟩
          ·refine VW.condT R h25 <| VW.seq <| VW.region <| VR.p R R (VP.move R) <| VR.p R R (VP.assign R) <| VR.p R R (VP.assign R) <| VR.nil ?_
           obtain rfl := Option.some.inj hm
           exact VW.ret ⟨.inl R, _, .cons (.tmp _ _ R) (.cons (.tmp _ _ R) .nil), [], _, R, R, R⟩
          ·have h25 := bf h25
           refine VW.condF R h25 <| VW.skip <| VW.seq <| VW.region <| VR.p R R (VP.assign R) <| VR.p R R (VP.assign R) <| VR.nil ?_
           obtain rfl := Option.some.inj hm
           exact VW.ret ⟨.inl R, _, .cons (.tmp _ _ R) (.cons (.tmp _ _ R) .nil), [], _, R, R, R⟩
        ·have h20 := bf h20
         refine VW.condF R h20 <| VW.seq <| VW.region <| VR.p R R (VP.move R) <| VR.p R R (VP.arith R R R) <| VR.p R R (VP.move R) ?_
         refine VR.sc 3 98 (.bool ((decide ((IntKind.i64.wrap v) ≥ (240 : Int))) && (decide ((IntKind.i64.wrap v) < (248 : Int))))) (fun K' J => ?_) ?_
         ·rcases Bool.eq_false_or_eq_true (decide ((IntKind.i64.wrap v) ≥ (240 : Int))) with h26 | h26
          ·refine VR.pG R R R R h26 (VP.move R) <| VR.pG R R R R h26 (VP.arith R R R) <| VR.p R R (VP.pickB true R h26 R) ?_
           exact J [_, _] _ R (andT h26)
          ·refine VR.skipG R R R R h26 <| VR.skipG R R R R h26 <| VR.p R R (VP.pickB false R h26 R) ?_
           exact J [_, _] _ R (andF h26)
         ·refine VR.p R R (VP.move R) ?_
          obtain ⟨c4, h30, hm⟩ := bnd hm
          refine VR.sc 5 104 (.bool c4) (fun K' J => ?_) ?_
          ·have hm := h30
           rcases ite_or hm with ⟨h27, hm⟩ | ⟨h27, hm⟩
           ·refine VR.pG R R R R h27 (VP.move R) <| VR.pG R R R R h27 (VP.move R) <| VR.pG R R R R h27 (VP.arith R R R) ?_
            obtain ⟨r4, h28, hm⟩ := bnd hm
            refine VR.consG R R R R h27 (VO.callK 0 R fn75 R (ref01_more_ok s (IntKind.i64.wrap (i + (1 : Int))) r4 h28) fun _ _ h29 => ?_)
            obtain ⟨rfl, rfl⟩ := h29
            refine VR.p R R (VP.pickB true R h27 R) ?_
            exact J [_, _, _, _] _ R (congrArg VV.bool (Option.some.inj hm))
           ·have h27 := bf h27
            refine VR.skipG R R R R h27 <| VR.skipG R R R R h27 <| VR.skipG R R R R h27 <| VR.skipG R R R R h27 <| VR.p R R (VP.pickB false R h27 R) ?_
            exact J [_, _, _, _] _ R (congrArg VV.bool (Option.some.inj hm))
          ·refine VR.p R R (VP.move R) ?_
           obtain ⟨c5, h34, hm⟩ := bnd hm
           refine VR.sc 5 110 (.bool c5) (fun K' J => ?_) ?_
           ·have hm := h34
            rcases ite_or hm with ⟨h31, hm⟩ | ⟨h31, hm⟩
            ·refine VR.pG R R R R h31 (VP.move R) <| VR.pG R R R R h31 (VP.move R) <| VR.pG R R R R h31 (VP.arith R R R) ?_
             obtain ⟨r5, h32, hm⟩ := bnd hm
             refine VR.consG R R R R h31 (VO.callK 0 R fn75 R (ref01_more_ok s (IntKind.i64.wrap (i + (2 : Int))) r5 h32) fun _ _ h33 => ?_)
             obtain ⟨rfl, rfl⟩ := h33
             refine VR.p R R (VP.pickB true R h31 R) ?_
             exact J [_, _, _, _] _ R (congrArg VV.bool (Option.some.inj hm))
            ·have h31 := bf h31
             refine VR.skipG R R R R h31 <| VR.skipG R R R R h31 <| VR.skipG R R R R h31 <| VR.skipG R R R R h31 <| VR.p R R (VP.pickB false R h31 R) ?_
             exact J [_, _, _, _] _ R (congrArg VV.bool (Option.some.inj hm))
           ·refine VR.p R R (VP.move R) ?_
            obtain ⟨c6, h38, hm⟩ := bnd hm
            refine VR.sc 5 116 (.bool c6) (fun K' J => ?_) ?_
            ·have hm := h38
             rcases ite_or hm with ⟨h35, hm⟩ | ⟨h35, hm⟩
             ·refine VR.pG R R R R h35 (VP.move R) <| VR.pG R R R R h35 (VP.move R) <| VR.pG R R R R h35 (VP.arith R R R) ?_
              obtain ⟨r6, h36, hm⟩ := bnd hm
              refine VR.consG R R R R h35 (VO.callK 0 R fn75 R (ref01_more_ok s (IntKind.i64.wrap (i + (3 : Int))) r6 h36) fun _ _ h37 => ?_)
              obtain ⟨rfl, rfl⟩ := h37
              refine VR.p R R (VP.pickB true R h35 R) ?_
              exact J [_, _, _, _] _ R (congrArg VV.bool (Option.some.inj hm))
             ·have h35 := bf h35
              refine VR.skipG R R R R h35 <| VR.skipG R R R R h35 <| VR.skipG R R R R h35 <| VR.skipG R R R R h35 <| VR.p R R (VP.pickB false R h35 R) ?_
              exact J [_, _, _, _] _ R (congrArg VV.bool (Option.some.inj hm))
            ·refine VR.p R R (VP.assign R) <| VR.nil ?_
             rcases ite_or hm with ⟨h39, hm⟩ | ⟨h39, hm⟩
             ·refine VW.condT R h39 <| VW.seq <| VW.drawK 0 mixed <| VA.p 0 R R R (by kernel_rfl) (VP.move R) <| VA.p 1 R R R (by kernel_rfl) (VP.arith R R R) <| VA.p 2 R R R (by kernel_rfl) (VP.arith R R R) <| VA.p 3 R R R (by kernel_rfl) (VP.move R) <| VA.p 4 R R R (by kernel_rfl) (VP.move R) <| VA.p 5 R R R (by kernel_rfl) (VP.arith R R R) ?_
              obtain ⟨v5, h40, hm⟩ := bnd hm
              refine VA.p 6 R R R (by kernel_rfl) (VP.gi R R Try.underlying9 h40) <| VA.p 7 R R R (by kernel_rfl) (VP.convI Try.underlying5 Try.underlying3 R) <| VA.p 8 R R R (by kernel_rfl) (VP.arith R R R) <| VA.p 9 R R R (by kernel_rfl) (VP.arith R R R) <| VA.p 10 R R R (by kernel_rfl) (VP.arith R R R) <| VA.p 11 R R R (by kernel_rfl) (VP.move R) <| VA.p 12 R R R (by kernel_rfl) (VP.move R) <| VA.p 13 R R R (by kernel_rfl) (VP.arith R R R) ?_
              obtain ⟨v6, h41, hm⟩ := bnd hm
              refine VA.p 14 R R R (by kernel_rfl) (VP.gi R R Try.underlying9 h41) <| VA.p 15 R R R (by kernel_rfl) (VP.convI Try.underlying5 Try.underlying3 R) <| VA.p 16 R R R (by kernel_rfl) (VP.arith R R R) <| VA.p 17 R R R (by kernel_rfl) (VP.arith R R R) <| VA.p 18 R R R (by kernel_rfl) (VP.arith R R R) <| VA.p 19 R R R (by kernel_rfl) (VP.move R) <| VA.p 20 R R R (by kernel_rfl) (VP.move R) <| VA.p 21 R R R (by kernel_rfl) (VP.arith R R R) ?_
              obtain ⟨v7, h42, hm⟩ := bnd hm
              refine VA.p 22 R R R (by kernel_rfl) (VP.gi R R Try.underlying9 h42) <| VA.p 23 R R R (by kernel_rfl) (VP.convI Try.underlying5 Try.underlying3 R) <| VA.p 24 R R R (by kernel_rfl) (VP.arith R R R) <| VA.p 25 R R R (by kernel_rfl) (VP.arith R R R) <| VA.p 26 R R R (by kernel_rfl) (VP.assign R) <| VA.done (by kernel_rfl) <| VW.seq <| VW.region <| VR.p R R (VP.move R) <| VR.p R R (VP.arith R R R) <| VR.p R R (VP.move R) ?_
              refine VR.sc 3 148 (.bool ((decide ((IntKind.i64.wrap ((IntKind.i64.wrap ((IntKind.i64.wrap ((IntKind.i64.wrap ((IntKind.i64.wrap ((IntKind.i64.wrap ((IntKind.i64.wrap v) - (240 : Int))) * (262144 : Int))) + (IntKind.i64.wrap ((IntKind.i64.wrap ((IntKind.i64.wrap v5) - (128 : Int))) * (4096 : Int))))) + (IntKind.i64.wrap ((IntKind.i64.wrap ((IntKind.i64.wrap v6) - (128 : Int))) * (64 : Int))))) + (IntKind.i64.wrap v7))) - (128 : Int))) ≥ (65536 : Int))) && (decide ((IntKind.i64.wrap ((IntKind.i64.wrap ((IntKind.i64.wrap ((IntKind.i64.wrap ((IntKind.i64.wrap ((IntKind.i64.wrap ((IntKind.i64.wrap v) - (240 : Int))) * (262144 : Int))) + (IntKind.i64.wrap ((IntKind.i64.wrap ((IntKind.i64.wrap v5) - (128 : Int))) * (4096 : Int))))) + (IntKind.i64.wrap ((IntKind.i64.wrap ((IntKind.i64.wrap v6) - (128 : Int))) * (64 : Int))))) + (IntKind.i64.wrap v7))) - (128 : Int))) ≤ (1114111 : Int))))) (fun K' J => ?_) ?_
              ·rcases Bool.eq_false_or_eq_true (decide ((IntKind.i64.wrap ((IntKind.i64.wrap ((IntKind.i64.wrap ((IntKind.i64.wrap ((IntKind.i64.wrap ((IntKind.i64.wrap ((IntKind.i64.wrap v) - (240 : Int))) * (262144 : Int))) + (IntKind.i64.wrap ((IntKind.i64.wrap ((IntKind.i64.wrap v5) - (128 : Int))) * (4096 : Int))))) + (IntKind.i64.wrap ((IntKind.i64.wrap ((IntKind.i64.wrap v6) - (128 : Int))) * (64 : Int))))) + (IntKind.i64.wrap v7))) - (128 : Int))) ≥ (65536 : Int))) with h43 | h43
               ·refine VR.pG R R R R h43 (VP.move R) <| VR.pG R R R R h43 (VP.arith R R R) <| VR.p R R (VP.pickB true R h43 R) ?_
                exact J [_, _] _ R (andT h43)
               ·refine VR.skipG R R R R h43 <| VR.skipG R R R R h43 <| VR.p R R (VP.pickB false R h43 R) ?_
                exact J [_, _] _ R (andF h43)
              ·refine VR.nil ?_
               rcases ite_or hm with ⟨h44, hm⟩ | ⟨h44, hm⟩
               ·refine VW.condT R h44 <| VW.seq <| VW.region <| VR.p R R (VP.move R) <| VR.p R R (VP.assign R) <| VR.p R R (VP.assign R) <| VR.nil ?_
                obtain rfl := Option.some.inj hm
                exact VW.ret ⟨.inl R, _, .cons (.tmp _ _ R) (.cons (.tmp _ _ R) .nil), [], _, R, R, R⟩
               ·have h44 := bf h44
                refine VW.condF R h44 <| VW.skip <| VW.seq <| VW.region <| VR.p R R (VP.assign R) <| VR.p R R (VP.assign R) <| VR.nil ?_
                obtain rfl := Option.some.inj hm
                exact VW.ret ⟨.inl R, _, .cons (.tmp _ _ R) (.cons (.tmp _ _ R) .nil), [], _, R, R, R⟩
             ·have h39 := bf h39
              refine VW.condF R h39 <| VW.skip <| VW.seq <| VW.region <| VR.p R R (VP.assign R) <| VR.p R R (VP.assign R) <| VR.nil ?_
              obtain rfl := Option.some.inj hm
              exact VW.ret ⟨.inl R, _, .cons (.tmp _ _ R) (.cons (.tmp _ _ R) .nil), [], _, R, R, R⟩

/-! trireme/triremeref01.plain -/
def ref01_plain (c : Int) : Option Bool :=
 some ((((((decide (c > (32 : Int))) && (c != (127 : Int))) && (c != (40 : Int))) && (c != (41 : Int))) && (c != (34 : Int))) && (c != (59 : Int)))
theorem ref01_plain_ok (c : Int) (r : Bool) (hm : ref01_plain c = some r) :
  VC Try.prog 66 [.int .i64 c] [] (fun zx zH => zx = .bool r ∧ zH = []) := by
 unfold ref01_plain at hm
 refine VC.run (c := _) (rs := [.tmp 2]) Try.func66 R R R <| VW.seq <| VW.region <| VR.p R R (VP.assign R) <| VR.nil <| VW.seq <| VW.region <| VR.p R R (VP.move R) <| VR.p R R (VP.arith R R R) <| VR.p R R (VP.move R) ?_
 refine VR.sc 3 8 (.bool ((decide (c > (32 : Int))) && (c != (127 : Int)))) (fun K' J => ?_) ?_
 ·rcases Bool.eq_false_or_eq_true (decide (c > (32 : Int))) with h1 | h1
  ·refine VR.pG R R R R h1 (VP.move R) <| VR.pG R R R R h1 (VP.arith R R R) <| VR.p R R (VP.pickB true R h1 R) ?_
   exact J [_, _] _ R (andT h1)
  ·refine VR.skipG R R R R h1 <| VR.skipG R R R R h1 <| VR.p R R (VP.pickB false R h1 R) ?_
   exact J [_, _] _ R (andF h1)
 ·refine VR.p R R (VP.move R) ?_
  refine VR.sc 3 12 (.bool (((decide (c > (32 : Int))) && (c != (127 : Int))) && (c != (40 : Int)))) (fun K' J => ?_) ?_
  ·rcases Bool.eq_false_or_eq_true ((decide (c > (32 : Int))) && (c != (127 : Int))) with h2 | h2
   ·refine VR.pG R R R R h2 (VP.move R) <| VR.pG R R R R h2 (VP.arith R R R) <| VR.p R R (VP.pickB true R h2 R) ?_
    exact J [_, _] _ R (andT h2)
   ·refine VR.skipG R R R R h2 <| VR.skipG R R R R h2 <| VR.p R R (VP.pickB false R h2 R) ?_
    exact J [_, _] _ R (andF h2)
  ·refine VR.p R R (VP.move R) ?_
   refine VR.sc 3 16 (.bool ((((decide (c > (32 : Int))) && (c != (127 : Int))) && (c != (40 : Int))) && (c != (41 : Int)))) (fun K' J => ?_) ?_
   ·rcases Bool.eq_false_or_eq_true (((decide (c > (32 : Int))) && (c != (127 : Int))) && (c != (40 : Int))) with h3 | h3
    ·refine VR.pG R R R R h3 (VP.move R) <| VR.pG R R R R h3 (VP.arith R R R) <| VR.p R R (VP.pickB true R h3 R) ?_
     exact J [_, _] _ R (andT h3)
    ·refine VR.skipG R R R R h3 <| VR.skipG R R R R h3 <| VR.p R R (VP.pickB false R h3 R) ?_
     exact J [_, _] _ R (andF h3)
   ·refine VR.p R R (VP.move R) ?_
    refine VR.sc 3 20 (.bool (((((decide (c > (32 : Int))) && (c != (127 : Int))) && (c != (40 : Int))) && (c != (41 : Int))) && (c != (34 : Int)))) (fun K' J => ?_) ?_
    ·rcases Bool.eq_false_or_eq_true ((((decide (c > (32 : Int))) && (c != (127 : Int))) && (c != (40 : Int))) && (c != (41 : Int))) with h4 | h4
     ·refine VR.pG R R R R h4 (VP.move R) <| VR.pG R R R R h4 (VP.arith R R R) <| VR.p R R (VP.pickB true R h4 R) ?_
      exact J [_, _] _ R (andT h4)
     ·refine VR.skipG R R R R h4 <| VR.skipG R R R R h4 <| VR.p R R (VP.pickB false R h4 R) ?_
      exact J [_, _] _ R (andF h4)
    ·refine VR.p R R (VP.move R) ?_
     refine VR.sc 3 24 (.bool ((((((decide (c > (32 : Int))) && (c != (127 : Int))) && (c != (40 : Int))) && (c != (41 : Int))) && (c != (34 : Int))) && (c != (59 : Int)))) (fun K' J => ?_) ?_
     ·rcases Bool.eq_false_or_eq_true (((((decide (c > (32 : Int))) && (c != (127 : Int))) && (c != (40 : Int))) && (c != (41 : Int))) && (c != (34 : Int))) with h5 | h5
      ·refine VR.pG R R R R h5 (VP.move R) <| VR.pG R R R R h5 (VP.arith R R R) <| VR.p R R (VP.pickB true R h5 R) ?_
       exact J [_, _] _ R (andT h5)
      ·refine VR.skipG R R R R h5 <| VR.skipG R R R R h5 <| VR.p R R (VP.pickB false R h5 R) ?_
       exact J [_, _] _ R (andF h5)
     ·refine VR.p R R (VP.assign R) <| VR.nil ?_
      obtain rfl := Option.some.inj hm
      exact VW.ret ⟨.inl R, _, .cons (.tmp _ _ R) .nil, [], _, R, R, R⟩

/-! trireme/triremeref01.Word -/
def ref01_Word.l1 (s : ByteArray) : Nat → Int → Int → Option (Out Bool Int)
 | 0, _, _ => none
 | n4 + 1, n2, i2 =>
  if (decide (i2 < (s.size : Int))) = true then
   (ref01_Rune s i2).bind fun r =>
   (if (r.2 == (0 : Int)) = true then some true else (ref01_plain r.1).bind fun r2 =>
   some (!r2)).bind fun c =>
   if c = true then
    some (Out.ret false)
   else
    ref01_Word.l1 s n4 (IntKind.i64.wrap (n2 + (1 : Int))) (IntKind.i64.wrap (i2 + r.2))
  else
   some (Out.go n2)
def ref01_Word (s : ByteArray) : Option Bool :=
 (ref01_Word.l1 s FU (0 : Int) (0 : Int)).bind fun o =>
 o.on fun n32 =>
 some ((decide (n32 ≥ (1 : Int))) && (decide (n32 ≤ (64 : Int))))
theorem ref01_Word_ok (s : ByteArray) (r : Bool) (hm : ref01_Word s = some r) :
  VC Try.prog 47 [.str s] [] (fun zx zH => zx = .bool r ∧ zH = []) := by
 unfold ref01_Word at hm
 refine VC.run (c := _) (rs := [.tmp 2]) Try.func47 R R R <| VW.seq <| VW.region <| VR.p R R (VP.assign R) <| VR.nil <| VW.seq <| VW.region <| VR.p R R (VP.assign R) <| VR.nil <| VW.seq <| VW.seq <| VW.region <| VR.p R R (VP.assign R) <| VR.nil ?_
 obtain ⟨o, h1, h2⟩ := bnd hm
 refine VW.joinE (fun (q : Int) => o = Out.go q) (fun (n32 : Int) (gg : Unit) => [(3, .int .i64 n32)]) (fun (n32 : Int) (gg : Unit) => []) ?_ ?_
 ·have hm := h1
  refine VW.block (VW.loop FU ?_)
  refine VL.fuelS (R := _) (fun zn (zs : Int × Int) => ref01_Word.l1 s zn zs.1 zs.2) (fun (zs : Int × Int) (zg : Unit) => [(0, .str s), (3, .int .i64 zs.1), (4, .int .i64 zs.2)]) (fun (zs : Int × Int) (zg : Unit) => []) ((0 : Int), (0 : Int)) () (fun zs => R) (Shift.pick [] R ⟨R, R, R, trivial⟩) h1 ?_
  rintro n4 ⟨n2, i2⟩ _ hm
  rw [ref01_Word.l1] at hm
  refine VW.seq <| VW.seq <| VW.region <| VR.p R R (VP.move R) <| VR.p R R (VP.move R) <| VR.p R R (VP.lenS R Try.underlying9) <| VR.p R R (VP.arith R R R) <| VR.nil ?_
  rcases ite_or hm with ⟨h3, hm⟩ | ⟨h3, hm⟩
  ·refine VW.condT R h3 <| VW.skip <| VW.block <| VW.seq <| VW.region <| VR.p R R (VP.move R) <| VR.p R R (VP.move R) ?_
   obtain ⟨r, h4, hm⟩ := bnd hm
   refine VR.cons R R (VO.callK 0 R fn65 R (ref01_Rune_ok s i2 r h4) fun _ _ h10 => ?_)
   obtain ⟨rfl, rfl⟩ := h10
   refine VR.p R R (VP.move R) <| VR.p R R (VP.extract R R) <| VR.p R R (VP.extract R R) <| VR.p R R (VP.assign R) <| VR.p R R (VP.assign R) <| VR.nil <| VW.seq <| VW.seq <| VW.region <| VR.p R R (VP.move R) <| VR.p R R (VP.arith R R R) <| VR.p R R (VP.move R) ?_
   obtain ⟨c, h8, hm⟩ := bnd hm
   refine VR.sc 4 23 (.bool c) (fun K' J => ?_) ?_
   ·have hm := h8
    rcases ite_or hm with ⟨h5, hm⟩ | ⟨h5, hm⟩
    ·refine VR.skipG R R R R h5 <| VR.skipG R R R R h5 <| VR.skipG R R R R h5 <| VR.p R R (VP.pickB true R h5 R) ?_
     exact J [_, _, _] _ R (congrArg VV.bool (Option.some.inj hm))
    ·have h5 := bf h5
     refine VR.pG R R R R h5 (VP.move R) ?_
     obtain ⟨r2, h6, hm⟩ := bnd hm
     refine VR.consG R R R R h5 (VO.callK 0 R fn66 R (ref01_plain_ok r.1 r2 h6) fun _ _ h7 => ?_)
     obtain ⟨rfl, rfl⟩ := h7
     refine VR.pG R R R R h5 (VP.not R) <| VR.p R R (VP.pickB false R h5 R) ?_
     exact J [_, _, _] _ R (congrArg VV.bool (Option.some.inj hm))
   ·refine VR.nil ?_
    rcases ite_or hm with ⟨h9, hm⟩ | ⟨h9, hm⟩
    ·refine VW.condT R h9 <| VW.seq <| VW.region <| VR.p R R (VP.assign R) <| VR.nil ?_
     obtain rfl := Option.some.inj hm
     have hm := Out.ret_on h2
     obtain rfl := Option.some.inj hm
     exact VW.ret ⟨.inl R, _, .cons (.tmp _ _ R) .nil, [], _, R, R, R⟩
    ·have h9 := bf h9
     refine VW.condF R h9 <| VW.skip <| VW.seq <| VW.region <| VR.p R R (VP.move R) <| VR.p R R (VP.arith R R R) <| VR.p R R (VP.assign R) <| VR.nil <| VW.region <| VR.p R R (VP.move R) <| VR.p R R (VP.move R) <| VR.p R R (VP.arith R R R) <| VR.p R R (VP.assign R) <| VR.nil ?_
     exact ⟨((IntKind.i64.wrap (n2 + (1 : Int))), (IntKind.i64.wrap (i2 + r.2))), (), hm, (Shift.pick [] R ⟨R, R, R, trivial⟩)⟩
  ·have h3 := bf h3
   refine VW.condF R h3 <| VW.exit ?_
   exact ⟨n2, (), (Option.some.inj hm).symm, (Shift.pick [] R ⟨R, trivial⟩)⟩
 ·rintro n32 _ rfl
  have hm := Out.go_on h2
  refine VW.seq <| VW.region <| VR.p R R (VP.move R) <| VR.p R R (VP.arith R R R) <| VR.p R R (VP.move R) ?_
  refine VR.sc 3 34 (.bool ((decide (n32 ≥ (1 : Int))) && (decide (n32 ≤ (64 : Int))))) (fun K' J => ?_) ?_
  ·rcases Bool.eq_false_or_eq_true (decide (n32 ≥ (1 : Int))) with h11 | h11
   ·refine VR.pG R R R R h11 (VP.move R) <| VR.pG R R R R h11 (VP.arith R R R) <| VR.p R R (VP.pickB true R h11 R) ?_
    exact J [_, _] _ R (andT h11)
   ·refine VR.skipG R R R R h11 <| VR.skipG R R R R h11 <| VR.p R R (VP.pickB false R h11 R) ?_
    exact J [_, _] _ R (andF h11)
  ·refine VR.p R R (VP.assign R) <| VR.nil ?_
   obtain rfl := Option.some.inj hm
   exact VW.ret ⟨.inl R, _, .cons (.tmp _ _ R) .nil, [], _, R, R, R⟩

/-! trireme/triremeref07.maybe -/
def ref07_maybe (s : ByteArray) : Option Bool :=
 (if (V.seq s (⟨#[]⟩ : ByteArray)) = true then some true else (ref01_Word s).bind fun r =>
 some r).bind fun c =>
 some c
theorem ref07_maybe_ok (s : ByteArray) (r : Bool) (hm : ref07_maybe s = some r) :
  VC Try.prog 33 [.str s] [] (fun zx zH => zx = .bool r ∧ zH = []) := by
 unfold ref07_maybe at hm
 refine VC.run (c := _) (rs := [.tmp 2]) Try.func33 R R R <| VW.seq <| VW.region <| VR.p R R (VP.assign R) <| VR.nil <| VW.seq <| VW.region <| VR.p R R (VP.move R) <| VR.p R R (VP.strop R R R) <| VR.p R R (VP.move R) ?_
 obtain ⟨c, h4, hm⟩ := bnd hm
 refine VR.sc 3 8 (.bool c) (fun K' J => ?_) ?_
 ·have hm := h4
  rcases ite_or hm with ⟨h1, hm⟩ | ⟨h1, hm⟩
  ·refine VR.skipG R R R R h1 <| VR.skipG R R R R h1 <| VR.p R R (VP.pickB true R h1 R) ?_
   exact J [_, _] _ R (congrArg VV.bool (Option.some.inj hm))
  ·have h1 := bf h1
   refine VR.pG R R R R h1 (VP.move R) ?_
   obtain ⟨r, h2, hm⟩ := bnd hm
   refine VR.consG R R R R h1 (VO.callK 0 R fn47 R (ref01_Word_ok s r h2) fun _ _ h3 => ?_)
   obtain ⟨rfl, rfl⟩ := h3
   refine VR.p R R (VP.pickB false R h1 R) ?_
   exact J [_, _] _ R (congrArg VV.bool (Option.some.inj hm))
 ·refine VR.p R R (VP.assign R) <| VR.nil ?_
  obtain rfl := Option.some.inj hm
  exact VW.ret ⟨.inl R, _, .cons (.tmp _ _ R) .nil, [], _, R, R, R⟩

/-! trireme/triremeref04.one -/
def ref04_one (n : Int) : Option Bool :=
 some ((decide (n ≥ (0 : Int))) && (decide (n ≤ (1125899906842624 : Int))))
theorem ref04_one_ok (n : Int) (r : Bool) (hm : ref04_one n = some r) :
  VC Try.prog 48 [.int .i64 n] [] (fun zx zH => zx = .bool r ∧ zH = []) := by
 unfold ref04_one at hm
 refine VC.run (c := _) (rs := [.tmp 2]) Try.func48 R R R <| VW.seq <| VW.region <| VR.p R R (VP.assign R) <| VR.nil <| VW.seq <| VW.region <| VR.p R R (VP.move R) <| VR.p R R (VP.arith R R R) <| VR.p R R (VP.move R) ?_
 refine VR.sc 3 8 (.bool ((decide (n ≥ (0 : Int))) && (decide (n ≤ (1125899906842624 : Int))))) (fun K' J => ?_) ?_
 ·rcases Bool.eq_false_or_eq_true (decide (n ≥ (0 : Int))) with h1 | h1
  ·refine VR.pG R R R R h1 (VP.move R) <| VR.pG R R R R h1 (VP.arith R R R) <| VR.p R R (VP.pickB true R h1 R) ?_
   exact J [_, _] _ R (andT h1)
  ·refine VR.skipG R R R R h1 <| VR.skipG R R R R h1 <| VR.p R R (VP.pickB false R h1 R) ?_
   exact J [_, _] _ R (andF h1)
 ·refine VR.p R R (VP.assign R) <| VR.nil ?_
  obtain rfl := Option.some.inj hm
  exact VW.ret ⟨.inl R, _, .cons (.tmp _ _ R) .nil, [], _, R, R, R⟩

/-! trireme/triremeref04.Right -/
def ref04_Right (a : T_api_Res) : Option Bool :=
 (ref04_one a.Cpu).bind fun r =>
 (if r = true then (ref04_one a.Mem).bind fun r2 =>
 some r2 else some false).bind fun c =>
 (if c = true then (ref04_one a.Disk).bind fun r3 =>
 some r3 else some false).bind fun c2 =>
 (if c2 = true then (ref04_one a.Pods).bind fun r4 =>
 some r4 else some false).bind fun c3 =>
 (if c3 = true then (ref04_one a.Dev).bind fun r5 =>
 some r5 else some false).bind fun c4 =>
 some c4
theorem ref04_Right_ok (a : T_api_Res) (r : Bool) (hm : ref04_Right a = some r) :
  VC Try.prog 34 [T_api_Res.vv a] [] (fun zx zH => zx = .bool r ∧ zH = []) := by
 unfold ref04_Right at hm
 refine VC.run (c := _) (rs := [.tmp 2]) Try.func34 R R R <| VW.seq <| VW.region ?_
 refine VR.cons R R (VO.box R R fun b => ?_)
 refine VR.p R R (VP.assign R) <| VR.nil <| VW.seq <| VW.region <| VR.p R R (VP.fieldP R fa26_0) <| VR.p R R (VP.loadP (i := 0) R R ld3 R) ?_
 obtain ⟨r, h2, hm⟩ := bnd hm
 refine VR.cons R R (VO.callK 0 R fn48 R (ref04_one_ok a.Cpu r h2) fun _ _ h19 => ?_)
 obtain ⟨rfl, rfl⟩ := h19
 refine VR.p R R (VP.move R) ?_
 obtain ⟨c, h6, hm⟩ := bnd hm
 refine VR.sc 4 10 (.bool c) (fun K' J => ?_) ?_
 ·have hm := h6
  rcases ite_or hm with ⟨h3, hm⟩ | ⟨h3, hm⟩
  ·refine VR.pG R R R R h3 (VP.fieldP R fa26_1) <| VR.pG R R R R h3 (VP.loadP (i := 0) R R ld3 R) ?_
   obtain ⟨r2, h4, hm⟩ := bnd hm
   refine VR.consG R R R R h3 (VO.callK 0 R fn48 R (ref04_one_ok a.Mem r2 h4) fun _ _ h5 => ?_)
   obtain ⟨rfl, rfl⟩ := h5
   refine VR.p R R (VP.pickB true R h3 R) ?_
   exact J [_, _, _] _ R (congrArg VV.bool (Option.some.inj hm))
  ·have h3 := bf h3
   refine VR.skipG R R R R h3 <| VR.skipG R R R R h3 <| VR.skipG R R R R h3 <| VR.p R R (VP.pickB false R h3 R) ?_
   exact J [_, _, _] _ R (congrArg VV.bool (Option.some.inj hm))
 ·refine VR.p R R (VP.move R) ?_
  obtain ⟨c2, h10, hm⟩ := bnd hm
  refine VR.sc 4 15 (.bool c2) (fun K' J => ?_) ?_
  ·have hm := h10
   rcases ite_or hm with ⟨h7, hm⟩ | ⟨h7, hm⟩
   ·refine VR.pG R R R R h7 (VP.fieldP R fa26_2) <| VR.pG R R R R h7 (VP.loadP (i := 0) R R ld3 R) ?_
    obtain ⟨r3, h8, hm⟩ := bnd hm
    refine VR.consG R R R R h7 (VO.callK 0 R fn48 R (ref04_one_ok a.Disk r3 h8) fun _ _ h9 => ?_)
    obtain ⟨rfl, rfl⟩ := h9
    refine VR.p R R (VP.pickB true R h7 R) ?_
    exact J [_, _, _] _ R (congrArg VV.bool (Option.some.inj hm))
   ·have h7 := bf h7
    refine VR.skipG R R R R h7 <| VR.skipG R R R R h7 <| VR.skipG R R R R h7 <| VR.p R R (VP.pickB false R h7 R) ?_
    exact J [_, _, _] _ R (congrArg VV.bool (Option.some.inj hm))
  ·refine VR.p R R (VP.move R) ?_
   obtain ⟨c3, h14, hm⟩ := bnd hm
   refine VR.sc 4 20 (.bool c3) (fun K' J => ?_) ?_
   ·have hm := h14
    rcases ite_or hm with ⟨h11, hm⟩ | ⟨h11, hm⟩
    ·refine VR.pG R R R R h11 (VP.fieldP R fa26_3) <| VR.pG R R R R h11 (VP.loadP (i := 0) R R ld3 R) ?_
     obtain ⟨r4, h12, hm⟩ := bnd hm
     refine VR.consG R R R R h11 (VO.callK 0 R fn48 R (ref04_one_ok a.Pods r4 h12) fun _ _ h13 => ?_)
     obtain ⟨rfl, rfl⟩ := h13
     refine VR.p R R (VP.pickB true R h11 R) ?_
     exact J [_, _, _] _ R (congrArg VV.bool (Option.some.inj hm))
    ·have h11 := bf h11
     refine VR.skipG R R R R h11 <| VR.skipG R R R R h11 <| VR.skipG R R R R h11 <| VR.p R R (VP.pickB false R h11 R) ?_
     exact J [_, _, _] _ R (congrArg VV.bool (Option.some.inj hm))
   ·refine VR.p R R (VP.move R) ?_
    obtain ⟨c4, h18, hm⟩ := bnd hm
    refine VR.sc 4 25 (.bool c4) (fun K' J => ?_) ?_
    ·have hm := h18
     rcases ite_or hm with ⟨h15, hm⟩ | ⟨h15, hm⟩
     ·refine VR.pG R R R R h15 (VP.fieldP R fa26_4) <| VR.pG R R R R h15 (VP.loadP (i := 0) R R ld3 R) ?_
      obtain ⟨r5, h16, hm⟩ := bnd hm
      refine VR.consG R R R R h15 (VO.callK 0 R fn48 R (ref04_one_ok a.Dev r5 h16) fun _ _ h17 => ?_)
      obtain ⟨rfl, rfl⟩ := h17
      refine VR.p R R (VP.pickB true R h15 R) ?_
      exact J [_, _, _] _ R (congrArg VV.bool (Option.some.inj hm))
     ·have h15 := bf h15
      refine VR.skipG R R R R h15 <| VR.skipG R R R R h15 <| VR.skipG R R R R h15 <| VR.p R R (VP.pickB false R h15 R) ?_
      exact J [_, _, _] _ R (congrArg VV.bool (Option.some.inj hm))
    ·refine VR.p R R (VP.assign R) <| VR.nil ?_
     obtain rfl := Option.some.inj hm
     exact VW.ret ⟨.inl R, _, .cons (.tmp _ _ R) .nil, [], _, R, R, R⟩

/-! trireme/triremeref05.maybe -/
def ref05_maybe (s : ByteArray) : Option Bool :=
 (if (V.seq s (⟨#[]⟩ : ByteArray)) = true then some true else (ref01_Word s).bind fun r =>
 some r).bind fun c =>
 some c
theorem ref05_maybe_ok (s : ByteArray) (r : Bool) (hm : ref05_maybe s = some r) :
  VC Try.prog 49 [.str s] [] (fun zx zH => zx = .bool r ∧ zH = []) := by
 unfold ref05_maybe at hm
 refine VC.run (c := _) (rs := [.tmp 2]) Try.func49 R R R <| VW.seq <| VW.region <| VR.p R R (VP.assign R) <| VR.nil <| VW.seq <| VW.region <| VR.p R R (VP.move R) <| VR.p R R (VP.strop R R R) <| VR.p R R (VP.move R) ?_
 obtain ⟨c, h4, hm⟩ := bnd hm
 refine VR.sc 3 8 (.bool c) (fun K' J => ?_) ?_
 ·have hm := h4
  rcases ite_or hm with ⟨h1, hm⟩ | ⟨h1, hm⟩
  ·refine VR.skipG R R R R h1 <| VR.skipG R R R R h1 <| VR.p R R (VP.pickB true R h1 R) ?_
   exact J [_, _] _ R (congrArg VV.bool (Option.some.inj hm))
  ·have h1 := bf h1
   refine VR.pG R R R R h1 (VP.move R) ?_
   obtain ⟨r, h2, hm⟩ := bnd hm
   refine VR.consG R R R R h1 (VO.callK 0 R fn47 R (ref01_Word_ok s r h2) fun _ _ h3 => ?_)
   obtain ⟨rfl, rfl⟩ := h3
   refine VR.p R R (VP.pickB false R h1 R) ?_
   exact J [_, _] _ R (congrArg VV.bool (Option.some.inj hm))
 ·refine VR.p R R (VP.assign R) <| VR.nil ?_
  obtain rfl := Option.some.inj hm
  exact VW.ret ⟨.inl R, _, .cons (.tmp _ _ R) .nil, [], _, R, R, R⟩

/-! trireme/triremeref05.Less -/
def ref05_Less.l1 (a : ByteArray) (b : ByteArray) : Nat → Int → Option (Out Bool Unit)
 | 0, _ => none
 | n + 1, i2 =>
  if ((decide (i2 < (a.size : Int))) && (decide (i2 < (b.size : Int)))) = true then
   (V.gi a i2).bind fun v =>
   (V.gi b i2).bind fun v2 =>
   if (v != v2) = true then
    (V.gi a i2).bind fun v3 =>
    (V.gi b i2).bind fun v4 =>
    some (Out.ret (decide (v3 < v4)))
   else
    ref05_Less.l1 a b n (IntKind.i64.wrap (i2 + (1 : Int)))
  else
   some (Out.go ())
def ref05_Less (a : ByteArray) (b : ByteArray) : Option Bool :=
 (ref05_Less.l1 a b FU (0 : Int)).bind fun o =>
 o.on fun j =>
 some (decide ((a.size : Int) < (b.size : Int)))
theorem ref05_Less_ok (a : ByteArray) (b : ByteArray) (r : Bool) (hm : ref05_Less a b = some r) :
  VC Try.prog 50 [.str a, .str b] [] (fun zx zH => zx = .bool r ∧ zH = []) := by
 unfold ref05_Less at hm
 refine VC.run (c := _) (rs := [.tmp 4]) Try.func50 R R R <| VW.seq <| VW.region <| VR.p R R (VP.assign R) <| VR.nil <| VW.seq <| VW.seq <| VW.region <| VR.p R R (VP.assign R) <| VR.nil ?_
 obtain ⟨o, h1, h2⟩ := bnd hm
 refine VW.joinE (fun (q : Unit) => o = Out.go q) (fun (j : Unit) (gg : Unit) => [(0, .str a), (1, .str b)]) (fun (j : Unit) (gg : Unit) => []) ?_ ?_
 ·have hm := h1
  refine VW.block (VW.loop FU ?_)
  refine VL.fuelS (R := _) (fun zn (zs : Int) => ref05_Less.l1 a b zn zs) (fun (zs : Int) (zg : Unit) => [(0, .str a), (1, .str b), (5, .int .i64 zs)]) (fun (zs : Int) (zg : Unit) => []) (0 : Int) () (fun zs => R) (Shift.pick [] R ⟨R, R, R, trivial⟩) h1 ?_
  rintro n i2 _ hm
  rw [ref05_Less.l1] at hm
  refine VW.seq <| VW.seq <| VW.region <| VR.p R R (VP.move R) <| VR.p R R (VP.move R) <| VR.p R R (VP.lenS R Try.underlying9) <| VR.p R R (VP.arith R R R) <| VR.p R R (VP.move R) ?_
  refine VR.sc 5 15 (.bool ((decide (i2 < (a.size : Int))) && (decide (i2 < (b.size : Int))))) (fun K' J => ?_) ?_
  ·rcases Bool.eq_false_or_eq_true (decide (i2 < (a.size : Int))) with h3 | h3
   ·refine VR.pG R R R R h3 (VP.move R) <| VR.pG R R R R h3 (VP.move R) <| VR.pG R R R R h3 (VP.lenS R Try.underlying9) <| VR.pG R R R R h3 (VP.arith R R R) <| VR.p R R (VP.pickB true R h3 R) ?_
    exact J [_, _, _, _] _ R (andT h3)
   ·refine VR.skipG R R R R h3 <| VR.skipG R R R R h3 <| VR.skipG R R R R h3 <| VR.skipG R R R R h3 <| VR.p R R (VP.pickB false R h3 R) ?_
    exact J [_, _, _, _] _ R (andF h3)
  ·refine VR.nil ?_
   rcases ite_or hm with ⟨h4, hm⟩ | ⟨h4, hm⟩
   ·refine VW.condT R h4 <| VW.skip <| VW.seq <| VW.block <| VW.seq <| VW.drawK 0 mixed <| VA.p 0 R R R (by kernel_rfl) (VP.move R) <| VA.p 1 R R R (by kernel_rfl) (VP.move R) ?_
    obtain ⟨v, h5, hm⟩ := bnd hm
    refine VA.p 2 R R R (by kernel_rfl) (VP.gi R R Try.underlying9 h5) <| VA.p 3 R R R (by kernel_rfl) (VP.move R) <| VA.p 4 R R R (by kernel_rfl) (VP.move R) ?_
    obtain ⟨v2, h6, hm⟩ := bnd hm
    refine VA.p 5 R R R (by kernel_rfl) (VP.gi R R Try.underlying9 h6) <| VA.p 6 R R R (by kernel_rfl) (VP.arith R R R) <| VA.done (by kernel_rfl) ?_
    rcases ite_or hm with ⟨h7, hm⟩ | ⟨h7, hm⟩
    ·refine VW.condT R h7 <| VW.seq <| VW.drawK 0 mixed <| VA.p 0 R R R (by kernel_rfl) (VP.move R) <| VA.p 1 R R R (by kernel_rfl) (VP.move R) ?_
     obtain ⟨v3, h8, hm⟩ := bnd hm
     refine VA.p 2 R R R (by kernel_rfl) (VP.gi R R Try.underlying9 h8) <| VA.p 3 R R R (by kernel_rfl) (VP.move R) <| VA.p 4 R R R (by kernel_rfl) (VP.move R) ?_
     obtain ⟨v4, h9, hm⟩ := bnd hm
     refine VA.p 5 R R R (by kernel_rfl) (VP.gi R R Try.underlying9 h9) <| VA.p 6 R R R (by kernel_rfl) (VP.arith R R R) <| VA.p 7 R R R (by kernel_rfl) (VP.assign R) <| VA.done (by kernel_rfl) ?_
     obtain rfl := Option.some.inj hm
     have hm := Out.ret_on h2
     obtain rfl := Option.some.inj hm
     exact VW.ret ⟨.inl R, _, .cons (.tmp _ _ R) .nil, [], _, R, R, R⟩
    ·have h7 := bf h7
     refine VW.condF R h7 <| VW.skip <| VW.region <| VR.p R R (VP.move R) <| VR.p R R (VP.arith R R R) <| VR.p R R (VP.assign R) <| VR.nil ?_
     exact ⟨(IntKind.i64.wrap (i2 + (1 : Int))), (), hm, (Shift.pick [] R ⟨R, R, R, trivial⟩)⟩
   ·have h4 := bf h4
    refine VW.condF R h4 <| VW.exit ?_
    exact ⟨(), (), (Option.some.inj hm).symm, (Shift.pick [] R ⟨R, R, trivial⟩)⟩
 ·rintro j _ rfl
  have hm := Out.go_on h2
  refine VW.seq <| VW.region <| VR.p R R (VP.move R) <| VR.p R R (VP.lenS R Try.underlying9) <| VR.p R R (VP.move R) <| VR.p R R (VP.lenS R Try.underlying9) <| VR.p R R (VP.arith R R R) <| VR.p R R (VP.assign R) <| VR.nil ?_
  obtain rfl := Option.some.inj hm
  exact VW.ret ⟨.inl R, _, .cons (.tmp _ _ R) .nil, [], _, R, R, R⟩

/-! trireme/triremeref05.Right -/
def ref05_Right.l1 (l : List T_api_Label) : Nat → Int → Option (Out Bool Unit)
 | 0, _ => none
 | n + 1, i2 =>
  if (decide (i2 < (l.length : Int))) = true then
   (V.gl l i2).bind fun x =>
   (ref01_Word x.Key).bind fun r =>
   (if (!r) = true then some true else (V.gl l i2).bind fun x2 =>
   (ref05_maybe x2.Val).bind fun r2 =>
   some (!r2)).bind fun c =>
   (if c = true then some true else (if (decide (i2 > (0 : Int))) = true then (V.gl l (IntKind.i64.wrap (i2 - (1 : Int)))).bind fun x3 =>
   (V.gl l i2).bind fun x4 =>
   (ref05_Less x3.Key x4.Key).bind fun r3 =>
   some (!r3) else some false).bind fun c2 =>
   some c2).bind fun c3 =>
   if c3 = true then
    some (Out.ret false)
   else
    ref05_Right.l1 l n (IntKind.i64.wrap (i2 + (1 : Int)))
  else
   some (Out.go ())
def ref05_Right (l : List T_api_Label) : Option Bool :=
 if (decide ((l.length : Int) > (16 : Int))) = true then
  some false
 else
  (ref05_Right.l1 l FU (0 : Int)).bind fun o =>
  o.on fun j =>
  some true
theorem ref05_Right_ok (l : List T_api_Label) (r : Bool) (hm : ref05_Right l = some r) :
  VC Try.prog 35 [.list 92 (List.map T_api_Label.vv l)] [] (fun zx zH => zx = .bool r ∧ zH = []) := by
 unfold ref05_Right at hm
 refine VC.run (c := _) (rs := [.tmp 2]) Try.func35 R R R <| VW.seq <| VW.region <| VR.p R R (VP.assign R) <| VR.nil <| VW.seq <| VW.seq <| VW.region <| VR.p R R (VP.move R) <| VR.p R R (VP.lenT T_api_Label.vv R Try.underlying27) <| VR.p R R (VP.arith R R R) <| VR.nil ?_
 rcases ite_or hm with ⟨h1, hm⟩ | ⟨h1, hm⟩
 ·refine VW.condT R h1 <| VW.seq <| VW.region <| VR.p R R (VP.assign R) <| VR.nil ?_
  obtain rfl := Option.some.inj hm
  exact VW.ret ⟨.inl R, _, .cons (.tmp _ _ R) .nil, [], _, R, R, R⟩
 ·have h1 := bf h1
  refine VW.condF R h1 <| VW.skip <| VW.seq <| VW.seq <| VW.region <| VR.p R R (VP.assign R) <| VR.nil ?_
  obtain ⟨o, h2, h3⟩ := bnd hm
  refine VW.joinE (fun (q : Unit) => o = Out.go q) (fun (j : Unit) (gg : Unit) => []) (fun (j : Unit) (gg : Unit) => []) ?_ ?_
  ·have hm := h2
   refine VW.block (VW.loop FU ?_)
   refine VL.fuelS (R := _) (fun zn (zs : Int) => ref05_Right.l1 l zn zs) (fun (zs : Int) (zg : Unit) => [(0, .list 92 (List.map T_api_Label.vv l)), (3, .int .i64 zs)]) (fun (zs : Int) (zg : Unit) => []) (0 : Int) () (fun zs => R) (Shift.pick [] R ⟨R, R, trivial⟩) h2 ?_
   rintro n i2 _ hm
   rw [ref05_Right.l1] at hm
   refine VW.seq <| VW.seq <| VW.region <| VR.p R R (VP.move R) <| VR.p R R (VP.move R) <| VR.p R R (VP.lenT T_api_Label.vv R Try.underlying27) <| VR.p R R (VP.arith R R R) <| VR.nil ?_
   rcases ite_or hm with ⟨h4, hm⟩ | ⟨h4, hm⟩
   ·refine VW.condT R h4 <| VW.skip <| VW.seq <| VW.block <| VW.seq <| VW.drawK 0 mixed <| VA.p 0 R R R (by kernel_rfl) (VP.move R) <| VA.p 1 R R R (by kernel_rfl) (VP.move R) ?_
    obtain ⟨x, h5, hm⟩ := bnd hm
    refine VA.p 2 R R R (by kernel_rfl) (VP.glE T_api_Label.vv R R el27 h5) <| VA.p 3 R R R (by kernel_rfl) (VP.fieldE R fa92_0) <| VA.p 4 R R R (by kernel_rfl) (VP.loadE R ld9 R) ?_
    refine VA.all [5] (by kernel_rfl) ⟨?_, trivial⟩
    obtain ⟨r, h6, hm⟩ := bnd hm
    refine VB.o R R R (VO.callK 0 R fn47 R (ref01_Word_ok x.Key r h6) fun _ _ h21 => ?_)
    obtain ⟨rfl, rfl⟩ := h21
    refine VA.p 6 R R R (by kernel_rfl) (VP.not R) <| VA.p 7 R R R (by kernel_rfl) (VP.move R) ?_
    obtain ⟨c, h11, hm⟩ := bnd hm
    refine VA.sc [15, 14, 13, 12, 11, 10, 9, 8, 7, 6, 5, 4, 3, 2, 1, 0] 28 (.bool c) (fun K' J => ?_) ?_
    ·have hm := h11
     rcases ite_or hm with ⟨h7, hm⟩ | ⟨h7, hm⟩
     ·refine VA.skipG 8 R R R R R h7 (by kernel_rfl) <| VA.skipG 9 R R R R R h7 (by kernel_rfl) <| VA.skipG 10 R R R R R h7 (by kernel_rfl) <| VA.skipG 11 R R R R R h7 (by kernel_rfl) <| VA.skipG 12 R R R R R h7 (by kernel_rfl) <| VA.skipG 13 R R R R R h7 (by kernel_rfl) <| VA.skipG 14 R R R R R h7 (by kernel_rfl) <| VA.p 15 R R R (by kernel_rfl) (VP.pickB true R h7 R) ?_
      exact J [_, _, _, _, _, _, _] _ R (congrArg VV.bool (Option.some.inj hm))
     ·have h7 := bf h7
      refine VA.pG 8 R R R R R h7 (by kernel_rfl) (VP.move R) <| VA.pG 9 R R R R R h7 (by kernel_rfl) (VP.move R) ?_
      obtain ⟨x2, h8, hm⟩ := bnd hm
      refine VA.pG 10 R R R R R h7 (by kernel_rfl) (VP.glE T_api_Label.vv R R el27 h8) <| VA.pG 11 R R R R R h7 (by kernel_rfl) (VP.fieldE R fa92_1) <| VA.pG 12 R R R R R h7 (by kernel_rfl) (VP.loadE R ld9 R) ?_
      refine VA.all [13] (by kernel_rfl) ⟨?_, trivial⟩
      obtain ⟨r2, h9, hm⟩ := bnd hm
      refine VB.oG R R R R R h7 (VO.callK 0 R fn49 R (ref05_maybe_ok x2.Val r2 h9) fun _ _ h10 => ?_)
      obtain ⟨rfl, rfl⟩ := h10
      refine VA.pG 14 R R R R R h7 (by kernel_rfl) (VP.not R) <| VA.p 15 R R R (by kernel_rfl) (VP.pickB false R h7 R) ?_
      exact J [_, _, _, _, _, _, _] _ R (congrArg VV.bool (Option.some.inj hm))
    ·refine VA.p 16 R R R (by kernel_rfl) (VP.move R) ?_
     obtain ⟨c3, h19, hm⟩ := bnd hm
     refine VA.sc [34, 33, 32, 31, 30, 29, 28, 27, 26, 25, 24, 23, 22, 21, 20, 19, 18, 17, 16, 15, 14, 13, 12, 11, 10, 9, 8, 7, 6, 5, 4, 3, 2, 1, 0] 47 (.bool c3) (fun K' J => ?_) ?_
     ·have hm := h19
      rcases ite_or hm with ⟨h12, hm⟩ | ⟨h12, hm⟩
      ·refine VA.skipG 17 R R R R R h12 (by kernel_rfl) <| VA.skipG 18 R R R R R h12 (by kernel_rfl) <| VA.skipG 19 R R R R R h12 (by kernel_rfl) <| VA.skipU 20 R R R R R (by kernel_rfl) <| VA.skipU 21 R R R R R (by kernel_rfl) <| VA.skipU 22 R R R R R (by kernel_rfl) <| VA.skipU 23 R R R R R (by kernel_rfl) <| VA.skipU 24 R R R R R (by kernel_rfl) <| VA.skipU 25 R R R R R (by kernel_rfl) <| VA.skipU 26 R R R R R (by kernel_rfl) <| VA.skipU 27 R R R R R (by kernel_rfl) <| VA.skipU 28 R R R R R (by kernel_rfl) <| VA.skipU 29 R R R R R (by kernel_rfl) <| VA.skipU 30 R R R R R (by kernel_rfl) <| VA.skipU 31 R R R R R (by kernel_rfl) <| VA.skipU 32 R R R R R (by kernel_rfl) <| VA.skipG 33 R R R R R h12 (by kernel_rfl) <| VA.p 34 R R R (by kernel_rfl) (VP.pickB true R h12 R) ?_
       exact J [_, _, _, _, _, _, _, _, _, _, _, _, _, _, _, _, _] _ R (congrArg VV.bool (Option.some.inj hm))
      ·have h12 := bf h12
       refine VA.pG 17 R R R R R h12 (by kernel_rfl) (VP.move R) <| VA.pG 18 R R R R R h12 (by kernel_rfl) (VP.arith R R R) <| VA.pG 19 R R R R R h12 (by kernel_rfl) (VP.move R) ?_
       obtain ⟨c2, h18, hm⟩ := bnd hm
       refine VA.sc [33, 32, 31, 30, 29, 28, 27, 26, 25, 24, 23, 22, 21, 20, 19, 18, 17, 16, 15, 14, 13, 12, 11, 10, 9, 8, 7, 6, 5, 4, 3, 2, 1, 0] 46 (.bool c2) (fun K' J => ?_) ?_
       ·have hm := h18
        rcases ite_or hm with ⟨h13, hm⟩ | ⟨h13, hm⟩
        ·refine VA.pG 20 R R R R R h13 (by kernel_rfl) (VP.move R) <| VA.pG 21 R R R R R h13 (by kernel_rfl) (VP.move R) <| VA.pG 22 R R R R R h13 (by kernel_rfl) (VP.arith R R R) ?_
         obtain ⟨x3, h14, hm⟩ := bnd hm
         refine VA.pG 23 R R R R R h13 (by kernel_rfl) (VP.glE T_api_Label.vv R R el27 h14) <| VA.pG 24 R R R R R h13 (by kernel_rfl) (VP.fieldE R fa92_0) <| VA.pG 25 R R R R R h13 (by kernel_rfl) (VP.loadE R ld9 R) <| VA.pG 26 R R R R R h13 (by kernel_rfl) (VP.move R) <| VA.pG 27 R R R R R h13 (by kernel_rfl) (VP.move R) ?_
         obtain ⟨x4, h15, hm⟩ := bnd hm
         refine VA.pG 28 R R R R R h13 (by kernel_rfl) (VP.glE T_api_Label.vv R R el27 h15) <| VA.pG 29 R R R R R h13 (by kernel_rfl) (VP.fieldE R fa92_0) <| VA.pG 30 R R R R R h13 (by kernel_rfl) (VP.loadE R ld9 R) ?_
         refine VA.all [31] (by kernel_rfl) ⟨?_, trivial⟩
         obtain ⟨r3, h16, hm⟩ := bnd hm
         refine VB.oG R R R R R h13 (VO.callK 0 R fn50 R (ref05_Less_ok x3.Key x4.Key r3 h16) fun _ _ h17 => ?_)
         obtain ⟨rfl, rfl⟩ := h17
         refine VA.pG 32 R R R R R h13 (by kernel_rfl) (VP.not R) <| VA.pG 33 R R R R R h12 (by kernel_rfl) (VP.pickB true R h13 R) ?_
         exact J [_, _, _, _, _, _, _, _, _, _, _, _, _] _ R (congrArg VV.bool (Option.some.inj hm))
        ·have h13 := bf h13
         refine VA.skipG 20 R R R R R h13 (by kernel_rfl) <| VA.skipG 21 R R R R R h13 (by kernel_rfl) <| VA.skipG 22 R R R R R h13 (by kernel_rfl) <| VA.skipG 23 R R R R R h13 (by kernel_rfl) <| VA.skipG 24 R R R R R h13 (by kernel_rfl) <| VA.skipG 25 R R R R R h13 (by kernel_rfl) <| VA.skipG 26 R R R R R h13 (by kernel_rfl) <| VA.skipG 27 R R R R R h13 (by kernel_rfl) <| VA.skipG 28 R R R R R h13 (by kernel_rfl) <| VA.skipG 29 R R R R R h13 (by kernel_rfl) <| VA.skipG 30 R R R R R h13 (by kernel_rfl) <| VA.skipG 31 R R R R R h13 (by kernel_rfl) <| VA.skipG 32 R R R R R h13 (by kernel_rfl) <| VA.pG 33 R R R R R h12 (by kernel_rfl) (VP.pickB false R h13 R) ?_
         exact J [_, _, _, _, _, _, _, _, _, _, _, _, _] _ R (congrArg VV.bool (Option.some.inj hm))
       ·refine VA.p 34 R R R (by kernel_rfl) (VP.pickB false R h12 R) ?_
        exact J [_, _, _, _] _ R (congrArg VV.bool (Option.some.inj hm))
     ·refine VA.done (by kernel_rfl) ?_
      rcases ite_or hm with ⟨h20, hm⟩ | ⟨h20, hm⟩
      ·refine VW.condT R h20 <| VW.seq <| VW.region <| VR.p R R (VP.assign R) <| VR.nil ?_
       obtain rfl := Option.some.inj hm
       have hm := Out.ret_on h3
       obtain rfl := Option.some.inj hm
       exact VW.ret ⟨.inl R, _, .cons (.tmp _ _ R) .nil, [], _, R, R, R⟩
      ·have h20 := bf h20
       refine VW.condF R h20 <| VW.skip <| VW.region <| VR.p R R (VP.move R) <| VR.p R R (VP.arith R R R) <| VR.p R R (VP.assign R) <| VR.nil ?_
       exact ⟨(IntKind.i64.wrap (i2 + (1 : Int))), (), hm, (Shift.pick [] R ⟨R, R, trivial⟩)⟩
   ·have h4 := bf h4
    refine VW.condF R h4 <| VW.exit ?_
    exact ⟨(), (), (Option.some.inj hm).symm, (Shift.pick [] R trivial)⟩
  ·rintro j _ rfl
   have hm := Out.go_on h3
   refine VW.seq <| VW.region <| VR.p R R (VP.assign R) <| VR.nil ?_
   obtain rfl := Option.some.inj hm
   exact VW.ret ⟨.inl R, _, .cons (.tmp _ _ R) .nil, [], _, R, R, R⟩

/-! trireme/triremeref06.maybe -/
def ref06_maybe (s : ByteArray) : Option Bool :=
 (if (V.seq s (⟨#[]⟩ : ByteArray)) = true then some true else (ref01_Word s).bind fun r =>
 some r).bind fun c =>
 some c
theorem ref06_maybe_ok (s : ByteArray) (r : Bool) (hm : ref06_maybe s = some r) :
  VC Try.prog 51 [.str s] [] (fun zx zH => zx = .bool r ∧ zH = []) := by
 unfold ref06_maybe at hm
 refine VC.run (c := _) (rs := [.tmp 2]) Try.func51 R R R <| VW.seq <| VW.region <| VR.p R R (VP.assign R) <| VR.nil <| VW.seq <| VW.region <| VR.p R R (VP.move R) <| VR.p R R (VP.strop R R R) <| VR.p R R (VP.move R) ?_
 obtain ⟨c, h4, hm⟩ := bnd hm
 refine VR.sc 3 8 (.bool c) (fun K' J => ?_) ?_
 ·have hm := h4
  rcases ite_or hm with ⟨h1, hm⟩ | ⟨h1, hm⟩
  ·refine VR.skipG R R R R h1 <| VR.skipG R R R R h1 <| VR.p R R (VP.pickB true R h1 R) ?_
   exact J [_, _] _ R (congrArg VV.bool (Option.some.inj hm))
  ·have h1 := bf h1
   refine VR.pG R R R R h1 (VP.move R) ?_
   obtain ⟨r, h2, hm⟩ := bnd hm
   refine VR.consG R R R R h1 (VO.callK 0 R fn47 R (ref01_Word_ok s r h2) fun _ _ h3 => ?_)
   obtain ⟨rfl, rfl⟩ := h3
   refine VR.p R R (VP.pickB false R h1 R) ?_
   exact J [_, _] _ R (congrArg VV.bool (Option.some.inj hm))
 ·refine VR.p R R (VP.assign R) <| VR.nil ?_
  obtain rfl := Option.some.inj hm
  exact VW.ret ⟨.inl R, _, .cons (.tmp _ _ R) .nil, [], _, R, R, R⟩

/-! trireme/triremeref06.effect -/
def ref06_effect (n : Int) : Option Bool :=
 some ((decide (n ≥ (1 : Int))) && (decide (n ≤ (3 : Int))))
theorem ref06_effect_ok (n : Int) (r : Bool) (hm : ref06_effect n = some r) :
  VC Try.prog 52 [.int .i64 n] [] (fun zx zH => zx = .bool r ∧ zH = []) := by
 unfold ref06_effect at hm
 refine VC.run (c := _) (rs := [.tmp 2]) Try.func52 R R R <| VW.seq <| VW.region <| VR.p R R (VP.assign R) <| VR.nil <| VW.seq <| VW.region <| VR.p R R (VP.move R) <| VR.p R R (VP.arith R R R) <| VR.p R R (VP.move R) ?_
 refine VR.sc 3 8 (.bool ((decide (n ≥ (1 : Int))) && (decide (n ≤ (3 : Int))))) (fun K' J => ?_) ?_
 ·rcases Bool.eq_false_or_eq_true (decide (n ≥ (1 : Int))) with h1 | h1
  ·refine VR.pG R R R R h1 (VP.move R) <| VR.pG R R R R h1 (VP.arith R R R) <| VR.p R R (VP.pickB true R h1 R) ?_
   exact J [_, _] _ R (andT h1)
  ·refine VR.skipG R R R R h1 <| VR.skipG R R R R h1 <| VR.p R R (VP.pickB false R h1 R) ?_
   exact J [_, _] _ R (andF h1)
 ·refine VR.p R R (VP.assign R) <| VR.nil ?_
  obtain rfl := Option.some.inj hm
  exact VW.ret ⟨.inl R, _, .cons (.tmp _ _ R) .nil, [], _, R, R, R⟩

/-! trireme/triremeref06.Right -/
def ref06_Right.l2 (l : List T_api_Taint) (i2 : Int) : Nat → Int → Option (Out (Out Bool Unit) Unit)
 | 0, _ => none
 | n2 + 1, k2 =>
  if (decide (k2 < i2)) = true then
   (V.gl l k2).bind fun x4 =>
   (V.gl l i2).bind fun x5 =>
   (if (V.seq x4.Key x5.Key) = true then (V.gl l k2).bind fun x6 =>
   (V.gl l i2).bind fun x7 =>
   some (x6.Effect == x7.Effect) else some false).bind fun c3 =>
   if c3 = true then
    some (Out.ret (Out.ret false))
   else
    ref06_Right.l2 l i2 n2 (IntKind.i64.wrap (k2 + (1 : Int)))
  else
   some (Out.go ())
def ref06_Right.l1 (l : List T_api_Taint) : Nat → Int → Option (Out Bool Unit)
 | 0, _ => none
 | n + 1, i2 =>
  if (decide (i2 < (l.length : Int))) = true then
   (V.gl l i2).bind fun x =>
   (ref01_Word x.Key).bind fun r =>
   (if (!r) = true then some true else (V.gl l i2).bind fun x2 =>
   (ref06_maybe x2.Val).bind fun r2 =>
   some (!r2)).bind fun c =>
   (if c = true then some true else (V.gl l i2).bind fun x3 =>
   (ref06_effect x3.Effect).bind fun r3 =>
   some (!r3)).bind fun c2 =>
   if c2 = true then
    some (Out.ret false)
   else
    (ref06_Right.l2 l i2 FU (0 : Int)).bind fun o2 =>
    o2.on fun j2 =>
    ref06_Right.l1 l n (IntKind.i64.wrap (i2 + (1 : Int)))
  else
   some (Out.go ())
def ref06_Right (l : List T_api_Taint) : Option Bool :=
 if (decide ((l.length : Int) > (16 : Int))) = true then
  some false
 else
  (ref06_Right.l1 l FU (0 : Int)).bind fun o =>
  o.on fun j =>
  some true
theorem ref06_Right_ok (l : List T_api_Taint) (r : Bool) (hm : ref06_Right l = some r) :
  VC Try.prog 36 [.list 96 (List.map T_api_Taint.vv l)] [] (fun zx zH => zx = .bool r ∧ zH = []) := by
 unfold ref06_Right at hm
 refine VC.run (c := _) (rs := [.tmp 2]) Try.func36 R R R <| VW.seq <| VW.region <| VR.p R R (VP.assign R) <| VR.nil <| VW.seq <| VW.seq <| VW.region <| VR.p R R (VP.move R) <| VR.p R R (VP.lenT T_api_Taint.vv R Try.underlying28) <| VR.p R R (VP.arith R R R) <| VR.nil ?_
 rcases ite_or hm with ⟨h1, hm⟩ | ⟨h1, hm⟩
 ·refine VW.condT R h1 <| VW.seq <| VW.region <| VR.p R R (VP.assign R) <| VR.nil ?_
  obtain rfl := Option.some.inj hm
  exact VW.ret ⟨.inl R, _, .cons (.tmp _ _ R) .nil, [], _, R, R, R⟩
 ·have h1 := bf h1
  refine VW.condF R h1 <| VW.skip <| VW.seq <| VW.seq <| VW.region <| VR.p R R (VP.assign R) <| VR.nil ?_
  obtain ⟨o, h2, h3⟩ := bnd hm
  refine VW.joinE (fun (q : Unit) => o = Out.go q) (fun (j : Unit) (gg : Unit) => []) (fun (j : Unit) (gg : Unit) => []) ?_ ?_
  ·have hm := h2
   refine VW.block (VW.loop FU ?_)
   refine VL.fuelS (R := _) (fun zn (zs : Int) => ref06_Right.l1 l zn zs) (fun (zs : Int) (zg : Unit) => [(0, .list 96 (List.map T_api_Taint.vv l)), (3, .int .i64 zs)]) (fun (zs : Int) (zg : Unit) => []) (0 : Int) () (fun zs => R) (Shift.pick [] R ⟨R, R, trivial⟩) h2 ?_
   rintro n i2 _ hm
   rw [ref06_Right.l1] at hm
   refine VW.seq <| VW.seq <| VW.region <| VR.p R R (VP.move R) <| VR.p R R (VP.move R) <| VR.p R R (VP.lenT T_api_Taint.vv R Try.underlying28) <| VR.p R R (VP.arith R R R) <| VR.nil ?_
   rcases ite_or hm with ⟨h4, hm⟩ | ⟨h4, hm⟩
   ·refine VW.condT R h4 <| VW.skip <| VW.seq <| VW.block <| VW.seq <| VW.seq <| VW.region <| VR.p R R (VP.move R) <| VR.p R R (VP.move R) ?_
    obtain ⟨x, h5, hm⟩ := bnd hm
    refine VR.p R R (VP.glE T_api_Taint.vv R R el28 h5) <| VR.p R R (VP.fieldE R fa96_0) <| VR.p R R (VP.loadE R ld9 R) ?_
    obtain ⟨r, h6, hm⟩ := bnd hm
    refine VR.cons R R (VO.callK 0 R fn47 R (ref01_Word_ok x.Key r h6) fun _ _ h28 => ?_)
    obtain ⟨rfl, rfl⟩ := h28
    refine VR.p R R (VP.not R) <| VR.p R R (VP.move R) ?_
    obtain ⟨c, h11, hm⟩ := bnd hm
    refine VR.sc 8 29 (.bool c) (fun K' J => ?_) ?_
    ·have hm := h11
     rcases ite_or hm with ⟨h7, hm⟩ | ⟨h7, hm⟩
     ·refine VR.skipG R R R R h7 <| VR.skipG R R R R h7 <| VR.skipG R R R R h7 <| VR.skipG R R R R h7 <| VR.skipG R R R R h7 <| VR.skipG R R R R h7 <| VR.skipG R R R R h7 <| VR.p R R (VP.pickB true R h7 R) ?_
      exact J [_, _, _, _, _, _, _] _ R (congrArg VV.bool (Option.some.inj hm))
     ·have h7 := bf h7
      refine VR.pG R R R R h7 (VP.move R) <| VR.pG R R R R h7 (VP.move R) ?_
      obtain ⟨x2, h8, hm⟩ := bnd hm
      refine VR.pG R R R R h7 (VP.glE T_api_Taint.vv R R el28 h8) <| VR.pG R R R R h7 (VP.fieldE R fa96_1) <| VR.pG R R R R h7 (VP.loadE R ld9 R) ?_
      obtain ⟨r2, h9, hm⟩ := bnd hm
      refine VR.consG R R R R h7 (VO.callK 0 R fn51 R (ref06_maybe_ok x2.Val r2 h9) fun _ _ h10 => ?_)
      obtain ⟨rfl, rfl⟩ := h10
      refine VR.pG R R R R h7 (VP.not R) <| VR.p R R (VP.pickB false R h7 R) ?_
      exact J [_, _, _, _, _, _, _] _ R (congrArg VV.bool (Option.some.inj hm))
    ·refine VR.p R R (VP.move R) ?_
     obtain ⟨c2, h16, hm⟩ := bnd hm
     refine VR.sc 8 38 (.bool c2) (fun K' J => ?_) ?_
     ·have hm := h16
      rcases ite_or hm with ⟨h12, hm⟩ | ⟨h12, hm⟩
      ·refine VR.skipG R R R R h12 <| VR.skipG R R R R h12 <| VR.skipG R R R R h12 <| VR.skipG R R R R h12 <| VR.skipG R R R R h12 <| VR.skipG R R R R h12 <| VR.skipG R R R R h12 <| VR.p R R (VP.pickB true R h12 R) ?_
       exact J [_, _, _, _, _, _, _] _ R (congrArg VV.bool (Option.some.inj hm))
      ·have h12 := bf h12
       refine VR.pG R R R R h12 (VP.move R) <| VR.pG R R R R h12 (VP.move R) ?_
       obtain ⟨x3, h13, hm⟩ := bnd hm
       refine VR.pG R R R R h12 (VP.glE T_api_Taint.vv R R el28 h13) <| VR.pG R R R R h12 (VP.fieldE R fa96_2) <| VR.pG R R R R h12 (VP.loadE R ld3 R) ?_
       obtain ⟨r3, h14, hm⟩ := bnd hm
       refine VR.consG R R R R h12 (VO.callK 0 R fn52 R (ref06_effect_ok x3.Effect r3 h14) fun _ _ h15 => ?_)
       obtain ⟨rfl, rfl⟩ := h15
       refine VR.pG R R R R h12 (VP.not R) <| VR.p R R (VP.pickB false R h12 R) ?_
       exact J [_, _, _, _, _, _, _] _ R (congrArg VV.bool (Option.some.inj hm))
     ·refine VR.nil ?_
      rcases ite_or hm with ⟨h17, hm⟩ | ⟨h17, hm⟩
      ·refine VW.condT R h17 <| VW.seq <| VW.region <| VR.p R R (VP.assign R) <| VR.nil ?_
       obtain rfl := Option.some.inj hm
       have hm := Out.ret_on h3
       obtain rfl := Option.some.inj hm
       exact VW.ret ⟨.inl R, _, .cons (.tmp _ _ R) .nil, [], _, R, R, R⟩
      ·have h17 := bf h17
       refine VW.condF R h17 <| VW.skip <| VW.seq <| VW.region <| VR.p R R (VP.assign R) <| VR.nil ?_
       obtain ⟨o2, h18, h19⟩ := bnd hm
       refine VW.joinE (fun (q : Unit) => o2 = Out.go q) (fun (j2 : Unit) (gg : Unit) => [(0, .list 96 (List.map T_api_Taint.vv l)), (3, .int .i64 i2)]) (fun (j2 : Unit) (gg : Unit) => []) ?_ ?_
       ·have hm := h18
        refine VW.block (VW.loop FU ?_)
        refine VL.fuelS (R := _) (fun zn (zs : Int) => ref06_Right.l2 l i2 zn zs) (fun (zs : Int) (zg : Unit) => [(0, .list 96 (List.map T_api_Taint.vv l)), (3, .int .i64 i2), (4, .int .i64 zs)]) (fun (zs : Int) (zg : Unit) => []) (0 : Int) () (fun zs => R) (Shift.pick [] R ⟨R, R, R, trivial⟩) h18 ?_
        rintro n2 k2 _ hm
        rw [ref06_Right.l2] at hm
        refine VW.seq <| VW.seq <| VW.region <| VR.p R R (VP.move R) <| VR.p R R (VP.move R) <| VR.p R R (VP.arith R R R) <| VR.nil ?_
        rcases ite_or hm with ⟨h20, hm⟩ | ⟨h20, hm⟩
        ·refine VW.condT R h20 <| VW.skip <| VW.seq <| VW.block <| VW.seq <| VW.drawK 0 mixed <| VA.p 0 R R R (by kernel_rfl) (VP.move R) <| VA.p 1 R R R (by kernel_rfl) (VP.move R) ?_
         obtain ⟨x4, h21, hm⟩ := bnd hm
         refine VA.p 2 R R R (by kernel_rfl) (VP.glE T_api_Taint.vv R R el28 h21) <| VA.p 3 R R R (by kernel_rfl) (VP.fieldE R fa96_0) <| VA.p 4 R R R (by kernel_rfl) (VP.loadE R ld9 R) <| VA.p 5 R R R (by kernel_rfl) (VP.move R) <| VA.p 6 R R R (by kernel_rfl) (VP.move R) ?_
         obtain ⟨x5, h22, hm⟩ := bnd hm
         refine VA.p 7 R R R (by kernel_rfl) (VP.glE T_api_Taint.vv R R el28 h22) <| VA.p 8 R R R (by kernel_rfl) (VP.fieldE R fa96_0) <| VA.p 9 R R R (by kernel_rfl) (VP.loadE R ld9 R) <| VA.p 10 R R R (by kernel_rfl) (VP.strop R R R) <| VA.p 11 R R R (by kernel_rfl) (VP.move R) ?_
         obtain ⟨c3, h26, hm⟩ := bnd hm
         refine VA.sc [23, 22, 21, 20, 19, 18, 17, 16, 15, 14, 13, 12, 11, 10, 9, 8, 7, 6, 5, 4, 3, 2, 1, 0] 67 (.bool c3) (fun K' J => ?_) ?_
         ·have hm := h26
          rcases ite_or hm with ⟨h23, hm⟩ | ⟨h23, hm⟩
          ·refine VA.pG 12 R R R R R h23 (by kernel_rfl) (VP.move R) <| VA.pG 13 R R R R R h23 (by kernel_rfl) (VP.move R) ?_
           obtain ⟨x6, h24, hm⟩ := bnd hm
           refine VA.pG 14 R R R R R h23 (by kernel_rfl) (VP.glE T_api_Taint.vv R R el28 h24) <| VA.pG 15 R R R R R h23 (by kernel_rfl) (VP.fieldE R fa96_2) <| VA.pG 16 R R R R R h23 (by kernel_rfl) (VP.loadE R ld3 R) <| VA.pG 17 R R R R R h23 (by kernel_rfl) (VP.move R) <| VA.pG 18 R R R R R h23 (by kernel_rfl) (VP.move R) ?_
           obtain ⟨x7, h25, hm⟩ := bnd hm
           refine VA.pG 19 R R R R R h23 (by kernel_rfl) (VP.glE T_api_Taint.vv R R el28 h25) <| VA.pG 20 R R R R R h23 (by kernel_rfl) (VP.fieldE R fa96_2) <| VA.pG 21 R R R R R h23 (by kernel_rfl) (VP.loadE R ld3 R) <| VA.pG 22 R R R R R h23 (by kernel_rfl) (VP.arith R R R) <| VA.p 23 R R R (by kernel_rfl) (VP.pickB true R h23 R) ?_
           exact J [_, _, _, _, _, _, _, _, _, _, _] _ R (congrArg VV.bool (Option.some.inj hm))
          ·have h23 := bf h23
           refine VA.skipG 12 R R R R R h23 (by kernel_rfl) <| VA.skipG 13 R R R R R h23 (by kernel_rfl) <| VA.skipG 14 R R R R R h23 (by kernel_rfl) <| VA.skipG 15 R R R R R h23 (by kernel_rfl) <| VA.skipG 16 R R R R R h23 (by kernel_rfl) <| VA.skipG 17 R R R R R h23 (by kernel_rfl) <| VA.skipG 18 R R R R R h23 (by kernel_rfl) <| VA.skipG 19 R R R R R h23 (by kernel_rfl) <| VA.skipG 20 R R R R R h23 (by kernel_rfl) <| VA.skipG 21 R R R R R h23 (by kernel_rfl) <| VA.skipG 22 R R R R R h23 (by kernel_rfl) <| VA.p 23 R R R (by kernel_rfl) (VP.pickB false R h23 R) ?_
           exact J [_, _, _, _, _, _, _, _, _, _, _] _ R (congrArg VV.bool (Option.some.inj hm))
         ·refine VA.done (by kernel_rfl) ?_
          rcases ite_or hm with ⟨h27, hm⟩ | ⟨h27, hm⟩
          ·refine VW.condT R h27 <| VW.seq <| VW.region <| VR.p R R (VP.assign R) <| VR.nil ?_
           obtain rfl := Option.some.inj hm
           have hm := Out.ret_on h19
           obtain rfl := Option.some.inj hm
           have hm := Out.ret_on h3
           obtain rfl := Option.some.inj hm
           exact VW.ret ⟨.inl R, _, .cons (.tmp _ _ R) .nil, [], _, R, R, R⟩
          ·have h27 := bf h27
           refine VW.condF R h27 <| VW.skip <| VW.region <| VR.p R R (VP.move R) <| VR.p R R (VP.arith R R R) <| VR.p R R (VP.assign R) <| VR.nil ?_
           exact ⟨(IntKind.i64.wrap (k2 + (1 : Int))), (), hm, (Shift.pick [] R ⟨R, R, R, trivial⟩)⟩
        ·have h20 := bf h20
         refine VW.condF R h20 <| VW.exit ?_
         exact ⟨(), (), (Option.some.inj hm).symm, (Shift.pick [] R ⟨R, R, trivial⟩)⟩
       ·rintro j2 _ rfl
        have hm := Out.go_on h19
        refine VW.region <| VR.p R R (VP.move R) <| VR.p R R (VP.arith R R R) <| VR.p R R (VP.assign R) <| VR.nil ?_
        exact ⟨(IntKind.i64.wrap (i2 + (1 : Int))), (), hm, (Shift.pick [] R ⟨R, R, trivial⟩)⟩
   ·have h4 := bf h4
    refine VW.condF R h4 <| VW.exit ?_
    exact ⟨(), (), (Option.some.inj hm).symm, (Shift.pick [] R trivial)⟩
  ·rintro j _ rfl
   have hm := Out.go_on h3
   refine VW.seq <| VW.region <| VR.p R R (VP.assign R) <| VR.nil ?_
   obtain rfl := Option.some.inj hm
   exact VW.ret ⟨.inl R, _, .cons (.tmp _ _ R) .nil, [], _, R, R, R⟩

/-! trireme/triremeref07.RightMachine -/
def ref07_RightMachine (m : T_api_Machine) : Option Bool :=
 (ref07_maybe m.Name).bind fun r =>
 (if r = true then (ref07_maybe m.Group).bind fun r2 =>
 some r2 else some false).bind fun c =>
 (if c = true then (ref04_Right m.Has).bind fun r3 =>
 some r3 else some false).bind fun c2 =>
 (if c2 = true then (ref05_Right m.Labels).bind fun r4 =>
 some r4 else some false).bind fun c3 =>
 (if c3 = true then (ref06_Right m.Taints).bind fun r5 =>
 some r5 else some false).bind fun c4 =>
 some c4
theorem ref07_RightMachine_ok (m : T_api_Machine) (r : Bool) (hm : ref07_RightMachine m = some r) :
  VC Try.prog 17 [T_api_Machine.vv m] [] (fun zx zH => zx = .bool r ∧ zH = []) := by
 unfold ref07_RightMachine at hm
 refine VC.run (c := _) (rs := [.tmp 2]) Try.func17 R R R <| VW.seq <| VW.region ?_
 refine VR.cons R R (VO.box R R fun b => ?_)
 refine VR.p R R (VP.assign R) <| VR.nil <| VW.seq <| VW.region <| VR.p R R (VP.fieldP R fa30_0) <| VR.p R R (VP.loadP (i := 0) R R ld9 R) ?_
 obtain ⟨r, h2, hm⟩ := bnd hm
 refine VR.cons R R (VO.callK 0 R fn33 R (ref07_maybe_ok m.Name r h2) fun _ _ h19 => ?_)
 obtain ⟨rfl, rfl⟩ := h19
 refine VR.p R R (VP.move R) ?_
 obtain ⟨c, h6, hm⟩ := bnd hm
 refine VR.sc 4 10 (.bool c) (fun K' J => ?_) ?_
 ·have hm := h6
  rcases ite_or hm with ⟨h3, hm⟩ | ⟨h3, hm⟩
  ·refine VR.pG R R R R h3 (VP.fieldP R fa30_1) <| VR.pG R R R R h3 (VP.loadP (i := 0) R R ld9 R) ?_
   obtain ⟨r2, h4, hm⟩ := bnd hm
   refine VR.consG R R R R h3 (VO.callK 0 R fn33 R (ref07_maybe_ok m.Group r2 h4) fun _ _ h5 => ?_)
   obtain ⟨rfl, rfl⟩ := h5
   refine VR.p R R (VP.pickB true R h3 R) ?_
   exact J [_, _, _] _ R (congrArg VV.bool (Option.some.inj hm))
  ·have h3 := bf h3
   refine VR.skipG R R R R h3 <| VR.skipG R R R R h3 <| VR.skipG R R R R h3 <| VR.p R R (VP.pickB false R h3 R) ?_
   exact J [_, _, _] _ R (congrArg VV.bool (Option.some.inj hm))
 ·refine VR.p R R (VP.move R) ?_
  obtain ⟨c2, h10, hm⟩ := bnd hm
  refine VR.sc 4 15 (.bool c2) (fun K' J => ?_) ?_
  ·have hm := h10
   rcases ite_or hm with ⟨h7, hm⟩ | ⟨h7, hm⟩
   ·refine VR.pG R R R R h7 (VP.fieldP R fa30_2) <| VR.pG R R R R h7 (VP.loadP (i := 0) R R ld26 R) ?_
    obtain ⟨r3, h8, hm⟩ := bnd hm
    refine VR.consG R R R R h7 (VO.callK 0 R fn34 R (ref04_Right_ok m.Has r3 h8) fun _ _ h9 => ?_)
    obtain ⟨rfl, rfl⟩ := h9
    refine VR.p R R (VP.pickB true R h7 R) ?_
    exact J [_, _, _] _ R (congrArg VV.bool (Option.some.inj hm))
   ·have h7 := bf h7
    refine VR.skipG R R R R h7 <| VR.skipG R R R R h7 <| VR.skipG R R R R h7 <| VR.p R R (VP.pickB false R h7 R) ?_
    exact J [_, _, _] _ R (congrArg VV.bool (Option.some.inj hm))
  ·refine VR.p R R (VP.move R) ?_
   obtain ⟨c3, h14, hm⟩ := bnd hm
   refine VR.sc 4 20 (.bool c3) (fun K' J => ?_) ?_
   ·have hm := h14
    rcases ite_or hm with ⟨h11, hm⟩ | ⟨h11, hm⟩
    ·refine VR.pG R R R R h11 (VP.fieldP R fa30_3) <| VR.pG R R R R h11 (VP.loadP (i := 0) R R ld27 R) ?_
     obtain ⟨r4, h12, hm⟩ := bnd hm
     refine VR.consG R R R R h11 (VO.callK 0 R fn35 R (ref05_Right_ok m.Labels r4 h12) fun _ _ h13 => ?_)
     obtain ⟨rfl, rfl⟩ := h13
     refine VR.p R R (VP.pickB true R h11 R) ?_
     exact J [_, _, _] _ R (congrArg VV.bool (Option.some.inj hm))
    ·have h11 := bf h11
     refine VR.skipG R R R R h11 <| VR.skipG R R R R h11 <| VR.skipG R R R R h11 <| VR.p R R (VP.pickB false R h11 R) ?_
     exact J [_, _, _] _ R (congrArg VV.bool (Option.some.inj hm))
   ·refine VR.p R R (VP.move R) ?_
    obtain ⟨c4, h18, hm⟩ := bnd hm
    refine VR.sc 4 25 (.bool c4) (fun K' J => ?_) ?_
    ·have hm := h18
     rcases ite_or hm with ⟨h15, hm⟩ | ⟨h15, hm⟩
     ·refine VR.pG R R R R h15 (VP.fieldP R fa30_4) <| VR.pG R R R R h15 (VP.loadP (i := 0) R R ld28 R) ?_
      obtain ⟨r5, h16, hm⟩ := bnd hm
      refine VR.consG R R R R h15 (VO.callK 0 R fn36 R (ref06_Right_ok m.Taints r5 h16) fun _ _ h17 => ?_)
      obtain ⟨rfl, rfl⟩ := h17
      refine VR.p R R (VP.pickB true R h15 R) ?_
      exact J [_, _, _] _ R (congrArg VV.bool (Option.some.inj hm))
     ·have h15 := bf h15
      refine VR.skipG R R R R h15 <| VR.skipG R R R R h15 <| VR.skipG R R R R h15 <| VR.p R R (VP.pickB false R h15 R) ?_
      exact J [_, _, _] _ R (congrArg VV.bool (Option.some.inj hm))
    ·refine VR.p R R (VP.assign R) <| VR.nil ?_
     obtain rfl := Option.some.inj hm
     exact VW.ret ⟨.inl R, _, .cons (.tmp _ _ R) .nil, [], _, R, R, R⟩

/-! trireme/triremeref07.in -/
def ref07_in (n : Int) (low : Int) (high : Int) : Option Bool :=
 some ((decide (n ≥ low)) && (decide (n ≤ high)))
theorem ref07_in_ok (n : Int) (low : Int) (high : Int) (r : Bool) (hm : ref07_in n low high = some r) :
  VC Try.prog 53 [.int .i64 n, .int .i64 low, .int .i64 high] [] (fun zx zH => zx = .bool r ∧ zH = []) := by
 unfold ref07_in at hm
 refine VC.run (c := _) (rs := [.tmp 6]) Try.func53 R R R <| VW.seq <| VW.region <| VR.p R R (VP.assign R) <| VR.nil <| VW.seq <| VW.region <| VR.p R R (VP.move R) <| VR.p R R (VP.move R) <| VR.p R R (VP.arith R R R) <| VR.p R R (VP.move R) ?_
 refine VR.sc 4 14 (.bool ((decide (n ≥ low)) && (decide (n ≤ high)))) (fun K' J => ?_) ?_
 ·rcases Bool.eq_false_or_eq_true (decide (n ≥ low)) with h1 | h1
  ·refine VR.pG R R R R h1 (VP.move R) <| VR.pG R R R R h1 (VP.move R) <| VR.pG R R R R h1 (VP.arith R R R) <| VR.p R R (VP.pickB true R h1 R) ?_
   exact J [_, _, _] _ R (andT h1)
  ·refine VR.skipG R R R R h1 <| VR.skipG R R R R h1 <| VR.skipG R R R R h1 <| VR.p R R (VP.pickB false R h1 R) ?_
   exact J [_, _, _] _ R (andF h1)
 ·refine VR.p R R (VP.assign R) <| VR.nil ?_
  obtain rfl := Option.some.inj hm
  exact VW.ret ⟨.inl R, _, .cons (.tmp _ _ R) .nil, [], _, R, R, R⟩

/-! trireme/triremeref03.digit -/
def ref03_digit (c : Int) : Option Bool :=
 some ((decide (c ≥ (48 : Int))) && (decide (c ≤ (57 : Int))))
theorem ref03_digit_ok (c : Int) (r : Bool) (hm : ref03_digit c = some r) :
  VC Try.prog 85 [.int .u8 c] [] (fun zx zH => zx = .bool r ∧ zH = []) := by
 unfold ref03_digit at hm
 refine VC.run (c := _) (rs := [.tmp 2]) Try.func85 R R R <| VW.seq <| VW.region <| VR.p R R (VP.assign R) <| VR.nil <| VW.seq <| VW.region <| VR.p R R (VP.move R) <| VR.p R R (VP.arith R R R) <| VR.p R R (VP.move R) ?_
 refine VR.sc 3 8 (.bool ((decide (c ≥ (48 : Int))) && (decide (c ≤ (57 : Int))))) (fun K' J => ?_) ?_
 ·rcases Bool.eq_false_or_eq_true (decide (c ≥ (48 : Int))) with h1 | h1
  ·refine VR.pG R R R R h1 (VP.move R) <| VR.pG R R R R h1 (VP.arith R R R) <| VR.p R R (VP.pickB true R h1 R) ?_
   exact J [_, _] _ R (andT h1)
  ·refine VR.skipG R R R R h1 <| VR.skipG R R R R h1 <| VR.p R R (VP.pickB false R h1 R) ?_
   exact J [_, _] _ R (andF h1)
 ·refine VR.p R R (VP.assign R) <| VR.nil ?_
  obtain rfl := Option.some.inj hm
  exact VW.ret ⟨.inl R, _, .cons (.tmp _ _ R) .nil, [], _, R, R, R⟩

/-! trireme/triremeref03.digits -/
def ref03_digits.l1 (s : ByteArray) : Nat → Int → Option Int
 | 0, _ => none
 | n4 + 1, n2 =>
  (if (decide (n2 < (s.size : Int))) = true then (V.gi s n2).bind fun v =>
  (ref03_digit v).bind fun r =>
  some r else some false).bind fun c =>
  if c = true then
   ref03_digits.l1 s n4 (IntKind.i64.wrap (n2 + (1 : Int)))
  else
   some n2
def ref03_digits (s : ByteArray) : Option Int :=
 (ref03_digits.l1 s FU (0 : Int)).bind fun n32 =>
 some n32
theorem ref03_digits_ok (s : ByteArray) (r : Int) (hm : ref03_digits s = some r) :
  VC Try.prog 76 [.str s] [] (fun zx zH => zx = .int .i64 r ∧ zH = []) := by
 unfold ref03_digits at hm
 refine VC.run (c := _) (rs := [.tmp 2]) Try.func76 R R R <| VW.seq <| VW.region <| VR.p R R (VP.assign R) <| VR.nil <| VW.seq <| VW.region <| VR.p R R (VP.assign R) <| VR.nil ?_
 obtain ⟨o, h1, h2⟩ := bnd hm
 refine VW.join (fun (q : Int) => q = o) (fun (n32 : Int) (gg : Unit) => [(3, .int .i64 n32)]) (fun (n32 : Int) (gg : Unit) => []) ?_ ?_
 ·have hm := h1
  refine VW.block (VW.loop FU ?_)
  refine VL.fuelS (R := _) (fun zn (zs : Int) => ref03_digits.l1 s zn zs) (fun (zs : Int) (zg : Unit) => [(0, .str s), (3, .int .i64 zs)]) (fun (zs : Int) (zg : Unit) => []) (0 : Int) () (fun zs => R) (Shift.pick [] R ⟨R, R, trivial⟩) h1 ?_
  rintro n4 n2 _ hm
  rw [ref03_digits.l1] at hm
  refine VW.seq <| VW.seq <| VW.region <| VR.p R R (VP.move R) <| VR.p R R (VP.move R) <| VR.p R R (VP.lenS R Try.underlying9) <| VR.p R R (VP.arith R R R) <| VR.p R R (VP.move R) ?_
  obtain ⟨c, h7, hm⟩ := bnd hm
  refine VR.sc 5 13 (.bool c) (fun K' J => ?_) ?_
  ·have hm := h7
   rcases ite_or hm with ⟨h3, hm⟩ | ⟨h3, hm⟩
   ·refine VR.pG R R R R h3 (VP.move R) <| VR.pG R R R R h3 (VP.move R) ?_
    obtain ⟨v, h4, hm⟩ := bnd hm
    refine VR.pG R R R R h3 (VP.gi R R Try.underlying9 h4) ?_
    obtain ⟨r, h5, hm⟩ := bnd hm
    refine VR.consG R R R R h3 (VO.callK 0 R fn85 R (ref03_digit_ok v r h5) fun _ _ h6 => ?_)
    obtain ⟨rfl, rfl⟩ := h6
    refine VR.p R R (VP.pickB true R h3 R) ?_
    exact J [_, _, _, _] _ R (congrArg VV.bool (Option.some.inj hm))
   ·have h3 := bf h3
    refine VR.skipG R R R R h3 <| VR.skipG R R R R h3 <| VR.skipG R R R R h3 <| VR.skipG R R R R h3 <| VR.p R R (VP.pickB false R h3 R) ?_
    exact J [_, _, _, _] _ R (congrArg VV.bool (Option.some.inj hm))
  ·refine VR.nil ?_
   rcases ite_or hm with ⟨h8, hm⟩ | ⟨h8, hm⟩
   ·refine VW.condT R h8 <| VW.skip <| VW.block <| VW.region <| VR.p R R (VP.move R) <| VR.p R R (VP.arith R R R) <| VR.p R R (VP.assign R) <| VR.nil ?_
    exact ⟨(IntKind.i64.wrap (n2 + (1 : Int))), (), hm, (Shift.pick [] R ⟨R, R, trivial⟩)⟩
   ·have h8 := bf h8
    refine VW.condF R h8 <| VW.exit ?_
    exact ⟨n2, (), Option.some.inj hm, (Shift.pick [] R ⟨R, trivial⟩)⟩
 ·rintro n32 _ rfl
  have hm := h2
  refine VW.seq <| VW.region <| VR.p R R (VP.move R) <| VR.p R R (VP.assign R) <| VR.nil ?_
  obtain rfl := Option.some.inj hm
  exact VW.ret ⟨.inl R, _, .cons (.tmp _ _ R) .nil, [], _, R, R, R⟩

/-! trireme/triremeref03.value -/
def ref03_value.l1 (s : ByteArray) : Nat → Int → Int → Option Int
 | 0, _, _ => none
 | n4 + 1, n2, i2 =>
  if (decide (i2 < (s.size : Int))) = true then
   (V.gi s i2).bind fun v =>
   ref03_value.l1 s n4 (min (IntKind.i64.wrap ((IntKind.i64.wrap ((10 : Int) * n2)) + (IntKind.i64.wrap (IntKind.u8.wrap (v - (48 : Int)))))) (1125899906842625 : Int)) (IntKind.i64.wrap (i2 + (1 : Int)))
  else
   some n2
def ref03_value (s : ByteArray) : Option Int :=
 (ref03_value.l1 s FU (0 : Int) (0 : Int)).bind fun n32 =>
 some n32
theorem ref03_value_ok (s : ByteArray) (r : Int) (hm : ref03_value s = some r) :
  VC Try.prog 77 [.str s] [] (fun zx zH => zx = .int .i64 r ∧ zH = []) := by
 unfold ref03_value at hm
 refine VC.run (c := _) (rs := [.tmp 2]) Try.func77 R R R <| VW.seq <| VW.region <| VR.p R R (VP.assign R) <| VR.nil <| VW.seq <| VW.region <| VR.p R R (VP.assign R) <| VR.nil <| VW.seq <| VW.seq <| VW.region <| VR.p R R (VP.assign R) <| VR.nil ?_
 obtain ⟨o, h1, h2⟩ := bnd hm
 refine VW.joinE (fun (q : Int) => q = o) (fun (n32 : Int) (gg : Unit) => [(3, .int .i64 n32)]) (fun (n32 : Int) (gg : Unit) => []) ?_ ?_
 ·have hm := h1
  refine VW.block (VW.loop FU ?_)
  refine VL.fuelS (R := _) (fun zn (zs : Int × Int) => ref03_value.l1 s zn zs.1 zs.2) (fun (zs : Int × Int) (zg : Unit) => [(0, .str s), (3, .int .i64 zs.1), (4, .int .i64 zs.2)]) (fun (zs : Int × Int) (zg : Unit) => []) ((0 : Int), (0 : Int)) () (fun zs => R) (Shift.pick [] R ⟨R, R, R, trivial⟩) h1 ?_
  rintro n4 ⟨n2, i2⟩ _ hm
  rw [ref03_value.l1] at hm
  refine VW.seq <| VW.seq <| VW.region <| VR.p R R (VP.move R) <| VR.p R R (VP.move R) <| VR.p R R (VP.lenS R Try.underlying9) <| VR.p R R (VP.arith R R R) <| VR.nil ?_
  rcases ite_or hm with ⟨h3, hm⟩ | ⟨h3, hm⟩
  ·refine VW.condT R h3 <| VW.skip <| VW.seq <| VW.block <| VW.region <| VR.p R R (VP.move R) <| VR.p R R (VP.arith R R R) <| VR.p R R (VP.move R) <| VR.p R R (VP.move R) ?_
   obtain ⟨v, h4, hm⟩ := bnd hm
   refine VR.p R R (VP.gi R R Try.underlying9 h4) <| VR.p R R (VP.arith R R R) <| VR.p R R (VP.convI Try.underlying5 Try.underlying3 R) <| VR.p R R (VP.arith R R R) <| VR.p R R (VP.min2 R R) <| VR.p R R (VP.assign R) <| VR.nil <| VW.region <| VR.p R R (VP.move R) <| VR.p R R (VP.arith R R R) <| VR.p R R (VP.assign R) <| VR.nil ?_
   exact ⟨((min (IntKind.i64.wrap ((IntKind.i64.wrap ((10 : Int) * n2)) + (IntKind.i64.wrap (IntKind.u8.wrap (v - (48 : Int)))))) (1125899906842625 : Int)), (IntKind.i64.wrap (i2 + (1 : Int)))), (), hm, (Shift.pick [] R ⟨R, R, R, trivial⟩)⟩
  ·have h3 := bf h3
   refine VW.condF R h3 <| VW.exit ?_
   exact ⟨n2, (), Option.some.inj hm, (Shift.pick [] R ⟨R, trivial⟩)⟩
 ·rintro n32 _ rfl
  have hm := h2
  refine VW.seq <| VW.region <| VR.p R R (VP.move R) <| VR.p R R (VP.assign R) <| VR.nil ?_
  obtain rfl := Option.some.inj hm
  exact VW.ret ⟨.inl R, _, .cons (.tmp _ _ R) .nil, [], _, R, R, R⟩

/-! trireme/triremeref03.Number -/
def ref03_Number (s : ByteArray) : Option (Int × Int) :=
 (if ((s.size : Int) == (0 : Int)) = true then some true else (ref03_digits s).bind fun r =>
 some (decide (r < (s.size : Int)))).bind fun c =>
 if c = true then
  some ((0 : Int), (8 : Int))
 else
  (ref03_value s).bind fun r2 =>
  if (decide (r2 > (1125899906842624 : Int))) = true then
   some ((0 : Int), (10 : Int))
  else
   some (r2, (0 : Int))
theorem ref03_Number_ok (s : ByteArray) (r : Int × Int) (hm : ref03_Number s = some r) :
  VC Try.prog 67 [.str s] [] (fun zx zH => zx = .tup [.int .i64 r.1, .int .i64 r.2] ∧ zH = []) := by
 unfold ref03_Number at hm
 refine VC.run (c := _) (rs := [.tmp 2, .tmp 3]) Try.func67 R R R <| VW.seq <| VW.region <| VR.p R R (VP.assign R) <| VR.p R R (VP.assign R) <| VR.nil <| VW.seq <| VW.seq <| VW.region <| VR.p R R (VP.move R) <| VR.p R R (VP.lenS R Try.underlying9) <| VR.p R R (VP.arith R R R) <| VR.p R R (VP.move R) ?_
 obtain ⟨c, h4, hm⟩ := bnd hm
 refine VR.sc 6 14 (.bool c) (fun K' J => ?_) ?_
 ·have hm := h4
  rcases ite_or hm with ⟨h1, hm⟩ | ⟨h1, hm⟩
  ·refine VR.skipG R R R R h1 <| VR.skipG R R R R h1 <| VR.skipG R R R R h1 <| VR.skipG R R R R h1 <| VR.skipG R R R R h1 <| VR.p R R (VP.pickB true R h1 R) ?_
   exact J [_, _, _, _, _] _ R (congrArg VV.bool (Option.some.inj hm))
  ·have h1 := bf h1
   refine VR.pG R R R R h1 (VP.move R) ?_
   obtain ⟨r, h2, hm⟩ := bnd hm
   refine VR.consG R R R R h1 (VO.callK 0 R fn76 R (ref03_digits_ok s r h2) fun _ _ h3 => ?_)
   obtain ⟨rfl, rfl⟩ := h3
   refine VR.pG R R R R h1 (VP.move R) <| VR.pG R R R R h1 (VP.lenS R Try.underlying9) <| VR.pG R R R R h1 (VP.arith R R R) <| VR.p R R (VP.pickB false R h1 R) ?_
   exact J [_, _, _, _, _] _ R (congrArg VV.bool (Option.some.inj hm))
 ·refine VR.nil ?_
  rcases ite_or hm with ⟨h5, hm⟩ | ⟨h5, hm⟩
  ·refine VW.condT R h5 <| VW.seq <| VW.region <| VR.p R R (VP.assign R) <| VR.p R R (VP.assign R) <| VR.nil ?_
   obtain rfl := Option.some.inj hm
   exact VW.ret ⟨.inl R, _, .cons (.tmp _ _ R) (.cons (.tmp _ _ R) .nil), [], _, R, R, R⟩
  ·have h5 := bf h5
   refine VW.condF R h5 <| VW.skip <| VW.seq <| VW.region <| VR.p R R (VP.move R) ?_
   obtain ⟨r2, h6, hm⟩ := bnd hm
   refine VR.cons R R (VO.callK 0 R fn77 R (ref03_value_ok s r2 h6) fun _ _ h8 => ?_)
   obtain ⟨rfl, rfl⟩ := h8
   refine VR.p R R (VP.assign R) <| VR.nil <| VW.seq <| VW.seq <| VW.region <| VR.p R R (VP.move R) <| VR.p R R (VP.arith R R R) <| VR.nil ?_
   rcases ite_or hm with ⟨h7, hm⟩ | ⟨h7, hm⟩
   ·refine VW.condT R h7 <| VW.seq <| VW.region <| VR.p R R (VP.assign R) <| VR.p R R (VP.assign R) <| VR.nil ?_
    obtain rfl := Option.some.inj hm
    exact VW.ret ⟨.inl R, _, .cons (.tmp _ _ R) (.cons (.tmp _ _ R) .nil), [], _, R, R, R⟩
   ·have h7 := bf h7
    refine VW.condF R h7 <| VW.skip <| VW.seq <| VW.region <| VR.p R R (VP.move R) <| VR.p R R (VP.assign R) <| VR.p R R (VP.assign R) <| VR.nil ?_
    obtain rfl := Option.some.inj hm
    exact VW.ret ⟨.inl R, _, .cons (.tmp _ _ R) (.cons (.tmp _ _ R) .nil), [], _, R, R, R⟩

/-! trireme/triremeref05.RightTerm -/
def ref05_RightTerm.l1 (t : T_api_Term) : Nat → Int → Option (Out Bool Unit)
 | 0, _ => none
 | n + 1, i2 =>
  if (decide (i2 < (t.Vals.length : Int))) = true then
   (V.gl t.Vals i2).bind fun x =>
   (ref05_maybe x).bind fun r2 =>
   if (!r2) = true then
    some (Out.ret false)
   else
    ref05_RightTerm.l1 t n (IntKind.i64.wrap (i2 + (1 : Int)))
  else
   some (Out.go ())
def ref05_RightTerm (t : T_api_Term) : Option Bool :=
 (ref01_Word t.Key).bind fun r =>
 if (!r) = true then
  some false
 else
  (if (t.Op == (1 : Int)) = true then
   some (t.Op == (1 : Int))
  else
   some (t.Op == (2 : Int))).bind fun v2 =>
  if v2 = true then
   (ref05_RightTerm.l1 t FU (0 : Int)).bind fun o2 =>
   o2.on fun j =>
   some ((decide ((t.Vals.length : Int) ≥ (1 : Int))) && (decide ((t.Vals.length : Int) ≤ (16 : Int))))
  else
   (if (t.Op == (3 : Int)) = true then
    some (t.Op == (3 : Int))
   else
    some (t.Op == (4 : Int))).bind fun v32 =>
   if v32 = true then
    some ((t.Vals.length : Int) == (0 : Int))
   else
    (if (t.Op == (5 : Int)) = true then
     some (t.Op == (5 : Int))
    else
     some (t.Op == (6 : Int))).bind fun v42 =>
    if v42 = true then
     if ((t.Vals.length : Int) != (1 : Int)) = true then
      some false
     else
      (V.gl t.Vals (0 : Int)).bind fun x2 =>
      (ref03_Number x2).bind fun r3 =>
      some (r3.2 == (0 : Int))
    else
     some false
theorem ref05_RightTerm_ok (t : T_api_Term) (r : Bool) (hm : ref05_RightTerm t = some r) :
  VC Try.prog 54 [T_api_Term.vv t] [] (fun zx zH => zx = .bool r ∧ zH = []) := by
 unfold ref05_RightTerm at hm
 refine VC.run (c := _) (rs := [.tmp 2]) Try.func54 R R R <| VW.seq <| VW.region ?_
 refine VR.cons R R (VO.box R R fun b => ?_)
 refine VR.p R R (VP.assign R) <| VR.nil <| VW.seq <| VW.seq <| VW.region <| VR.p R R (VP.fieldP R fa90_0) <| VR.p R R (VP.loadP (i := 0) R R ld9 R) ?_
 obtain ⟨r, h2, hm⟩ := bnd hm
 refine VR.cons R R (VO.callK 0 R fn47 R (ref01_Word_ok t.Key r h2) fun _ _ h28 => ?_)
 obtain ⟨rfl, rfl⟩ := h28
 refine VR.p R R (VP.not R) <| VR.nil ?_
 rcases ite_or hm with ⟨h3, hm⟩ | ⟨h3, hm⟩
 ·refine VW.condT R h3 <| VW.seq <| VW.region <| VR.p R R (VP.assign R) <| VR.nil ?_
  obtain rfl := Option.some.inj hm
  exact VW.ret ⟨.inl R, _, .cons (.tmp _ _ R) .nil, [], _, R, R, R⟩
 ·have h3 := bf h3
  refine VW.condF R h3 <| VW.skip <| VW.seq <| VW.seq <| VW.region <| VR.p R R (VP.fieldP R fa90_1) <| VR.p R R (VP.loadP (i := 0) R R ld3 R) <| VR.nil <| VW.block ?_
  obtain ⟨o, h4, h5⟩ := bnd hm
  refine VW.join (fun (q : Bool) => q = o) (fun (v2 : Bool) (gg : Unit) => [(1, .ptr b 0), (11, .int .i64 t.Op), (12, .bool v2)]) (fun (v2 : Bool) (gg : Unit) => [.box b 90 (T_api_Term.cells t)]) ?_ ?_
  ·have hm := h4
   refine VW.seq <| VW.region <| VR.p R R (VP.arith R R R) <| VR.p R R (VP.assign R) <| VR.nil ?_
   rcases ite_or hm with ⟨h6, hm⟩ | ⟨h6, hm⟩
   ·refine VW.condT R h6 <| VW.skip ?_
    exact ⟨(t.Op == (1 : Int)), (), Option.some.inj hm, (Shift.pick [0] R ⟨R, R, R, trivial⟩)⟩
   ·have h6 := bf h6
    refine VW.condF R h6 <| VW.region <| VR.p R R (VP.arith R R R) <| VR.p R R (VP.assign R) <| VR.nil ?_
    exact ⟨(t.Op == (2 : Int)), (), Option.some.inj hm, (Shift.pick [0] R ⟨R, R, R, trivial⟩)⟩
  ·rintro v2 _ rfl
   have hm := h5
   rcases ite_or hm with ⟨h7, hm⟩ | ⟨h7, hm⟩
   ·refine VW.condT R h7 <| VW.seq <| VW.seq <| VW.region <| VR.p R R (VP.assign R) <| VR.nil ?_
    obtain ⟨o2, h8, h9⟩ := bnd hm
    refine VW.joinE (fun (q : Unit) => o2 = Out.go q) (fun (j : Unit) (gg : Unit) => [(1, .ptr b 0)]) (fun (j : Unit) (gg : Unit) => [.box b 90 (T_api_Term.cells t)]) ?_ ?_
    ·have hm := h8
     refine VW.block (VW.loop FU ?_)
     refine VL.fuelS (R := _) (fun zn (zs : Int) => ref05_RightTerm.l1 t zn zs) (fun (zs : Int) (zg : Unit) => [(1, .ptr b 0), (3, .int .i64 zs)]) (fun (zs : Int) (zg : Unit) => [.box b 90 (T_api_Term.cells t)]) (0 : Int) () (fun zs => R) (Shift.pick [0] R ⟨R, R, trivial⟩) h8 ?_
     rintro n i2 _ hm
     rw [ref05_RightTerm.l1] at hm
     refine VW.seq <| VW.seq <| VW.region <| VR.p R R (VP.move R) <| VR.p R R (VP.fieldP R fa90_2) <| VR.p R R (VP.loadP (i := 0) R R ld66 R) <| VR.p R R (VP.lenT VV.str R Try.underlying66) <| VR.p R R (VP.arith R R R) <| VR.nil ?_
     rcases ite_or hm with ⟨h10, hm⟩ | ⟨h10, hm⟩
     ·refine VW.condT R h10 <| VW.skip <| VW.seq <| VW.block <| VW.seq <| VW.region <| VR.p R R (VP.fieldP R fa90_2) <| VR.p R R (VP.loadP (i := 0) R R ld66 R) <| VR.p R R (VP.move R) ?_
      obtain ⟨x, h11, hm⟩ := bnd hm
      refine VR.p R R (VP.glE VV.str R R el66 h11) <| VR.p R R (VP.loadE R ld9 R) ?_
      obtain ⟨r2, h12, hm⟩ := bnd hm
      refine VR.cons R R (VO.callK 0 R fn49 R (ref05_maybe_ok x r2 h12) fun _ _ h14 => ?_)
      obtain ⟨rfl, rfl⟩ := h14
      refine VR.p R R (VP.not R) <| VR.nil ?_
      rcases ite_or hm with ⟨h13, hm⟩ | ⟨h13, hm⟩
      ·refine VW.condT R h13 <| VW.seq <| VW.region <| VR.p R R (VP.assign R) <| VR.nil ?_
       obtain rfl := Option.some.inj hm
       have hm := Out.ret_on h9
       obtain rfl := Option.some.inj hm
       exact VW.ret ⟨.inl R, _, .cons (.tmp _ _ R) .nil, [], _, R, R, R⟩
      ·have h13 := bf h13
       refine VW.condF R h13 <| VW.skip <| VW.region <| VR.p R R (VP.move R) <| VR.p R R (VP.arith R R R) <| VR.p R R (VP.assign R) <| VR.nil ?_
       exact ⟨(IntKind.i64.wrap (i2 + (1 : Int))), (), hm, (Shift.pick [0] R ⟨R, R, trivial⟩)⟩
     ·have h10 := bf h10
      refine VW.condF R h10 <| VW.exit ?_
      exact ⟨(), (), (Option.some.inj hm).symm, (Shift.pick [0] R ⟨R, trivial⟩)⟩
    ·rintro j _ rfl
     have hm := Out.go_on h9
     refine VW.seq <| VW.region <| VR.p R R (VP.fieldP R fa90_2) <| VR.p R R (VP.loadP (i := 0) R R ld66 R) <| VR.p R R (VP.lenT VV.str R Try.underlying66) <| VR.p R R (VP.arith R R R) <| VR.p R R (VP.move R) ?_
     refine VR.sc 5 38 (.bool ((decide ((t.Vals.length : Int) ≥ (1 : Int))) && (decide ((t.Vals.length : Int) ≤ (16 : Int))))) (fun K' J => ?_) ?_
     ·rcases Bool.eq_false_or_eq_true (decide ((t.Vals.length : Int) ≥ (1 : Int))) with h15 | h15
      ·refine VR.pG R R R R h15 (VP.fieldP R fa90_2) <| VR.pG R R R R h15 (VP.loadP (i := 0) R R ld66 R) <| VR.pG R R R R h15 (VP.lenT VV.str R Try.underlying66) <| VR.pG R R R R h15 (VP.arith R R R) <| VR.p R R (VP.pickB true R h15 R) ?_
       exact J [_, _, _, _] _ R (andT h15)
      ·refine VR.skipG R R R R h15 <| VR.skipG R R R R h15 <| VR.skipG R R R R h15 <| VR.skipG R R R R h15 <| VR.p R R (VP.pickB false R h15 R) ?_
       exact J [_, _, _, _] _ R (andF h15)
     ·refine VR.p R R (VP.assign R) <| VR.nil ?_
      obtain rfl := Option.some.inj hm
      exact VW.ret ⟨.inl R, _, .cons (.tmp _ _ R) .nil, [], _, R, R, R⟩
   ·have h7 := bf h7
    refine VW.condF R h7 ?_
    obtain ⟨o3, h16, h17⟩ := bnd hm
    refine VW.join (fun (q : Bool) => q = o3) (fun (v32 : Bool) (gg : Unit) => [(1, .ptr b 0), (11, .int .i64 t.Op), (39, .bool v32)]) (fun (v32 : Bool) (gg : Unit) => [.box b 90 (T_api_Term.cells t)]) ?_ ?_
    ·have hm := h16
     refine VW.seq <| VW.region <| VR.p R R (VP.arith R R R) <| VR.p R R (VP.assign R) <| VR.nil ?_
     rcases ite_or hm with ⟨h18, hm⟩ | ⟨h18, hm⟩
     ·refine VW.condT R h18 <| VW.skip ?_
      exact ⟨(t.Op == (3 : Int)), (), Option.some.inj hm, (Shift.pick [0] R ⟨R, R, R, trivial⟩)⟩
     ·have h18 := bf h18
      refine VW.condF R h18 <| VW.region <| VR.p R R (VP.arith R R R) <| VR.p R R (VP.assign R) <| VR.nil ?_
      exact ⟨(t.Op == (4 : Int)), (), Option.some.inj hm, (Shift.pick [0] R ⟨R, R, R, trivial⟩)⟩
    ·rintro v32 _ rfl
     have hm := h17
     rcases ite_or hm with ⟨h19, hm⟩ | ⟨h19, hm⟩
     ·refine VW.condT R h19 <| VW.seq <| VW.region <| VR.p R R (VP.fieldP R fa90_2) <| VR.p R R (VP.loadP (i := 0) R R ld66 R) <| VR.p R R (VP.lenT VV.str R Try.underlying66) <| VR.p R R (VP.arith R R R) <| VR.p R R (VP.assign R) <| VR.nil ?_
      obtain rfl := Option.some.inj hm
      exact VW.ret ⟨.inl R, _, .cons (.tmp _ _ R) .nil, [], _, R, R, R⟩
     ·have h19 := bf h19
      refine VW.condF R h19 ?_
      obtain ⟨o4, h20, h21⟩ := bnd hm
      refine VW.join (fun (q : Bool) => q = o4) (fun (v42 : Bool) (gg : Unit) => [(1, .ptr b 0), (46, .bool v42)]) (fun (v42 : Bool) (gg : Unit) => [.box b 90 (T_api_Term.cells t)]) ?_ ?_
      ·have hm := h20
       refine VW.seq <| VW.region <| VR.p R R (VP.arith R R R) <| VR.p R R (VP.assign R) <| VR.nil ?_
       rcases ite_or hm with ⟨h22, hm⟩ | ⟨h22, hm⟩
       ·refine VW.condT R h22 <| VW.skip ?_
        exact ⟨(t.Op == (5 : Int)), (), Option.some.inj hm, (Shift.pick [0] R ⟨R, R, trivial⟩)⟩
       ·have h22 := bf h22
        refine VW.condF R h22 <| VW.region <| VR.p R R (VP.arith R R R) <| VR.p R R (VP.assign R) <| VR.nil ?_
        exact ⟨(t.Op == (6 : Int)), (), Option.some.inj hm, (Shift.pick [0] R ⟨R, R, trivial⟩)⟩
      ·rintro v42 _ rfl
       have hm := h21
       rcases ite_or hm with ⟨h23, hm⟩ | ⟨h23, hm⟩
       ·refine VW.condT R h23 <| VW.seq <| VW.seq <| VW.region <| VR.p R R (VP.fieldP R fa90_2) <| VR.p R R (VP.loadP (i := 0) R R ld66 R) <| VR.p R R (VP.lenT VV.str R Try.underlying66) <| VR.p R R (VP.arith R R R) <| VR.nil ?_
        rcases ite_or hm with ⟨h24, hm⟩ | ⟨h24, hm⟩
        ·refine VW.condT R h24 <| VW.seq <| VW.region <| VR.p R R (VP.assign R) <| VR.nil ?_
         obtain rfl := Option.some.inj hm
         exact VW.ret ⟨.inl R, _, .cons (.tmp _ _ R) .nil, [], _, R, R, R⟩
        ·have h24 := bf h24
         refine VW.condF R h24 <| VW.skip <| VW.seq <| VW.region <| VR.p R R (VP.fieldP R fa90_2) <| VR.p R R (VP.loadP (i := 0) R R ld66 R) ?_
         obtain ⟨x2, h25, hm⟩ := bnd hm
         refine VR.p R R (VP.glE VV.str R R el66 h25) <| VR.p R R (VP.loadE R ld9 R) ?_
         obtain ⟨r3, h26, hm⟩ := bnd hm
         refine VR.cons R R (VO.callK 0 R fn67 R (ref03_Number_ok x2 r3 h26) fun _ _ h27 => ?_)
         obtain ⟨rfl, rfl⟩ := h27
         refine VR.p R R (VP.move R) <| VR.p R R (VP.extract R R) <| VR.p R R (VP.extract R R) <| VR.p R R (VP.assign R) <| VR.p R R (VP.assign R) <| VR.nil <| VW.seq <| VW.region <| VR.p R R (VP.move R) <| VR.p R R (VP.arith R R R) <| VR.p R R (VP.assign R) <| VR.nil ?_
         obtain rfl := Option.some.inj hm
         exact VW.ret ⟨.inl R, _, .cons (.tmp _ _ R) .nil, [], _, R, R, R⟩
       ·have h23 := bf h23
        refine VW.condF R h23 <| VW.skip <| VW.seq <| VW.region <| VR.p R R (VP.assign R) <| VR.nil ?_
        obtain rfl := Option.some.inj hm
        exact VW.ret ⟨.inl R, _, .cons (.tmp _ _ R) .nil, [], _, R, R, R⟩

/-! trireme/triremeref06.RightBears -/
def ref06_RightBears.l1 (l : List T_api_Toleration) : Nat → Int → Option (Out Bool Unit)
 | 0, _ => none
 | n + 1, i2 =>
  if (decide (i2 < (l.length : Int))) = true then
   (V.gl l i2).bind fun x =>
   (ref06_maybe x.Key).bind fun r =>
   (if (!r) = true then some true else (ref06_maybe x.Val).bind fun r2 =>
   some (!r2)).bind fun c =>
   (if c = true then some true else (if (x.Effect != (0 : Int)) = true then (ref06_effect x.Effect).bind fun r3 =>
   some (!r3) else some false).bind fun c2 =>
   some c2).bind fun c3 =>
   if ((c3 || (x.Any && (!(V.seq x.Val (⟨#[]⟩ : ByteArray))))) || ((V.seq x.Key (⟨#[]⟩ : ByteArray)) && (!x.Any))) = true then
    some (Out.ret false)
   else
    ref06_RightBears.l1 l n (IntKind.i64.wrap (i2 + (1 : Int)))
  else
   some (Out.go ())
def ref06_RightBears (l : List T_api_Toleration) : Option Bool :=
 if (decide ((l.length : Int) > (16 : Int))) = true then
  some false
 else
  (ref06_RightBears.l1 l FU (0 : Int)).bind fun o =>
  o.on fun j =>
  some true
theorem ref06_RightBears_ok (l : List T_api_Toleration) (r : Bool) (hm : ref06_RightBears l = some r) :
  VC Try.prog 55 [.list 94 (List.map T_api_Toleration.vv l)] [] (fun zx zH => zx = .bool r ∧ zH = []) := by
 unfold ref06_RightBears at hm
 refine VC.run (c := _) (rs := [.tmp 2]) Try.func55 R R R <| VW.seq <| VW.region <| VR.p R R (VP.assign R) <| VR.nil <| VW.seq <| VW.seq <| VW.region <| VR.p R R (VP.move R) <| VR.p R R (VP.lenT T_api_Toleration.vv R Try.underlying36) <| VR.p R R (VP.arith R R R) <| VR.nil ?_
 rcases ite_or hm with ⟨h1, hm⟩ | ⟨h1, hm⟩
 ·refine VW.condT R h1 <| VW.seq <| VW.region <| VR.p R R (VP.assign R) <| VR.nil ?_
  obtain rfl := Option.some.inj hm
  exact VW.ret ⟨.inl R, _, .cons (.tmp _ _ R) .nil, [], _, R, R, R⟩
 ·have h1 := bf h1
  refine VW.condF R h1 <| VW.skip <| VW.seq <| VW.seq <| VW.region <| VR.p R R (VP.assign R) <| VR.nil ?_
  obtain ⟨o, h2, h3⟩ := bnd hm
  refine VW.joinE (fun (q : Unit) => o = Out.go q) (fun (j : Unit) (gg : Unit) => []) (fun (j : Unit) (gg : Unit) => []) ?_ ?_
  ·have hm := h2
   refine VW.block (VW.loop FU ?_)
   refine VL.fuelS (R := _) (fun zn (zs : Int) => ref06_RightBears.l1 l zn zs) (fun (zs : Int) (zg : Unit) => [(0, .list 94 (List.map T_api_Toleration.vv l)), (3, .int .i64 zs)]) (fun (zs : Int) (zg : Unit) => []) (0 : Int) () (fun zs => R) (Shift.pick [] R ⟨R, R, trivial⟩) h2 ?_
   rintro n i2 _ hm
   rw [ref06_RightBears.l1] at hm
   refine VW.seq <| VW.seq <| VW.region <| VR.p R R (VP.move R) <| VR.p R R (VP.move R) <| VR.p R R (VP.lenT T_api_Toleration.vv R Try.underlying36) <| VR.p R R (VP.arith R R R) <| VR.nil ?_
   rcases ite_or hm with ⟨h4, hm⟩ | ⟨h4, hm⟩
   ·refine VW.condT R h4 <| VW.skip <| VW.seq <| VW.block <| VW.seq <| VW.region <| VR.p R R (VP.move R) <| VR.p R R (VP.move R) ?_
    obtain ⟨x, h5, hm⟩ := bnd hm
    refine VR.p R R (VP.glE T_api_Toleration.vv R R el36 h5) <| VR.p R R (VP.loadE R ld94 R) ?_
    refine VR.cons R R (VO.alloc z94 fun b => ?_)
    refine VR.cons R R (VO.storeP (i := 0) R R R ld94 R R R ?_)
    refine VR.nil <| VW.seq <| VW.region <| VR.p R R (VP.fieldP R fa94_0) <| VR.p R R (VP.loadP (i := 0) R R ld9 R) ?_
    obtain ⟨r, h7, hm⟩ := bnd hm
    refine VR.cons R R (VO.callK 0 R fn51 R (ref06_maybe_ok x.Key r h7) fun _ _ h23 => ?_)
    obtain ⟨rfl, rfl⟩ := h23
    refine VR.p R R (VP.not R) <| VR.p R R (VP.move R) ?_
    obtain ⟨c, h11, hm⟩ := bnd hm
    refine VR.sc 5 27 (.bool c) (fun K' J => ?_) ?_
    ·have hm := h11
     rcases ite_or hm with ⟨h8, hm⟩ | ⟨h8, hm⟩
     ·refine VR.skipG R R R R h8 <| VR.skipG R R R R h8 <| VR.skipG R R R R h8 <| VR.skipG R R R R h8 <| VR.p R R (VP.pickB true R h8 R) ?_
      exact J [_, _, _, _] _ R (congrArg VV.bool (Option.some.inj hm))
     ·have h8 := bf h8
      refine VR.pG R R R R h8 (VP.fieldP R fa94_1) <| VR.pG R R R R h8 (VP.loadP (i := 0) R R ld9 R) ?_
      obtain ⟨r2, h9, hm⟩ := bnd hm
      refine VR.consG R R R R h8 (VO.callK 0 R fn51 R (ref06_maybe_ok x.Val r2 h9) fun _ _ h10 => ?_)
      obtain ⟨rfl, rfl⟩ := h10
      refine VR.pG R R R R h8 (VP.not R) <| VR.p R R (VP.pickB false R h8 R) ?_
      exact J [_, _, _, _] _ R (congrArg VV.bool (Option.some.inj hm))
    ·refine VR.p R R (VP.move R) ?_
     obtain ⟨c3, h17, hm⟩ := bnd hm
     refine VR.sc 10 38 (.bool c3) (fun K' J => ?_) ?_
     ·have hm := h17
      rcases ite_or hm with ⟨h12, hm⟩ | ⟨h12, hm⟩
      ·refine VR.skipG R R R R h12 <| VR.skipG R R R R h12 <| VR.skipG R R R R h12 <| VR.skipG R R R R h12 <| VR.skipU R R R R <| VR.skipU R R R R <| VR.skipU R R R R <| VR.skipU R R R R <| VR.skipG R R R R h12 <| VR.p R R (VP.pickB true R h12 R) ?_
       exact J [_, _, _, _, _, _, _, _, _] _ R (congrArg VV.bool (Option.some.inj hm))
      ·have h12 := bf h12
       refine VR.pG R R R R h12 (VP.fieldP R fa94_3) <| VR.pG R R R R h12 (VP.loadP (i := 0) R R ld3 R) <| VR.pG R R R R h12 (VP.arith R R R) <| VR.pG R R R R h12 (VP.move R) ?_
       obtain ⟨c2, h16, hm⟩ := bnd hm
       refine VR.sc 5 37 (.bool c2) (fun K' J => ?_) ?_
       ·have hm := h16
        rcases ite_or hm with ⟨h13, hm⟩ | ⟨h13, hm⟩
        ·refine VR.pG R R R R h13 (VP.fieldP R fa94_3) <| VR.pG R R R R h13 (VP.loadP (i := 0) R R ld3 R) ?_
         obtain ⟨r3, h14, hm⟩ := bnd hm
         refine VR.consG R R R R h13 (VO.callK 0 R fn52 R (ref06_effect_ok x.Effect r3 h14) fun _ _ h15 => ?_)
         obtain ⟨rfl, rfl⟩ := h15
         refine VR.pG R R R R h13 (VP.not R) <| VR.pG R R R R h12 (VP.pickB true R h13 R) ?_
         exact J [_, _, _, _] _ R (congrArg VV.bool (Option.some.inj hm))
        ·have h13 := bf h13
         refine VR.skipG R R R R h13 <| VR.skipG R R R R h13 <| VR.skipG R R R R h13 <| VR.skipG R R R R h13 <| VR.pG R R R R h12 (VP.pickB false R h13 R) ?_
         exact J [_, _, _, _] _ R (congrArg VV.bool (Option.some.inj hm))
       ·refine VR.p R R (VP.pickB false R h12 R) ?_
        exact J [_, _, _, _, _] _ R (congrArg VV.bool (Option.some.inj hm))
     ·refine VR.p R R (VP.move R) ?_
      refine VR.sc 8 47 (.bool (c3 || (x.Any && (!(V.seq x.Val (⟨#[]⟩ : ByteArray)))))) (fun K' J => ?_) ?_
      ·rcases Bool.eq_false_or_eq_true c3 with h18 | h18
       ·refine VR.skipG R R R R h18 <| VR.skipG R R R R h18 <| VR.skipG R R R R h18 <| VR.skipU R R R R <| VR.skipU R R R R <| VR.skipU R R R R <| VR.skipG R R R R h18 <| VR.p R R (VP.pickB true R h18 R) ?_
        exact J [_, _, _, _, _, _, _] _ R (orT h18)
       ·refine VR.pG R R R R h18 (VP.fieldP R fa94_2) <| VR.pG R R R R h18 (VP.loadP (i := 0) R R ld4 R) <| VR.pG R R R R h18 (VP.move R) ?_
        refine VR.sc 4 46 (.bool (x.Any && (!(V.seq x.Val (⟨#[]⟩ : ByteArray))))) (fun K' J => ?_) ?_
        ·rcases Bool.eq_false_or_eq_true x.Any with h19 | h19
         ·refine VR.pG R R R R h19 (VP.fieldP R fa94_1) <| VR.pG R R R R h19 (VP.loadP (i := 0) R R ld9 R) <| VR.pG R R R R h19 (VP.strop R R R) <| VR.pG R R R R h18 (VP.pickB true R h19 R) ?_
          exact J [_, _, _] _ R (andT h19)
         ·refine VR.skipG R R R R h19 <| VR.skipG R R R R h19 <| VR.skipG R R R R h19 <| VR.pG R R R R h18 (VP.pickB false R h19 R) ?_
          exact J [_, _, _] _ R (andF h19)
        ·refine VR.p R R (VP.pickB false R h18 R) ?_
         exact J [_, _, _, _] _ R (orF h18)
      ·refine VR.p R R (VP.move R) ?_
       refine VR.sc 9 57 (.bool ((c3 || (x.Any && (!(V.seq x.Val (⟨#[]⟩ : ByteArray))))) || ((V.seq x.Key (⟨#[]⟩ : ByteArray)) && (!x.Any)))) (fun K' J => ?_) ?_
       ·rcases Bool.eq_false_or_eq_true (c3 || (x.Any && (!(V.seq x.Val (⟨#[]⟩ : ByteArray))))) with h20 | h20
        ·refine VR.skipG R R R R h20 <| VR.skipG R R R R h20 <| VR.skipG R R R R h20 <| VR.skipG R R R R h20 <| VR.skipU R R R R <| VR.skipU R R R R <| VR.skipU R R R R <| VR.skipG R R R R h20 <| VR.p R R (VP.pickB true R h20 R) ?_
         exact J [_, _, _, _, _, _, _, _] _ R (orT h20)
        ·refine VR.pG R R R R h20 (VP.fieldP R fa94_0) <| VR.pG R R R R h20 (VP.loadP (i := 0) R R ld9 R) <| VR.pG R R R R h20 (VP.strop R R R) <| VR.pG R R R R h20 (VP.move R) ?_
         refine VR.sc 4 56 (.bool ((V.seq x.Key (⟨#[]⟩ : ByteArray)) && (!x.Any))) (fun K' J => ?_) ?_
         ·rcases Bool.eq_false_or_eq_true (V.seq x.Key (⟨#[]⟩ : ByteArray)) with h21 | h21
          ·refine VR.pG R R R R h21 (VP.fieldP R fa94_2) <| VR.pG R R R R h21 (VP.loadP (i := 0) R R ld4 R) <| VR.pG R R R R h21 (VP.not R) <| VR.pG R R R R h20 (VP.pickB true R h21 R) ?_
           exact J [_, _, _] _ R (andT h21)
          ·refine VR.skipG R R R R h21 <| VR.skipG R R R R h21 <| VR.skipG R R R R h21 <| VR.pG R R R R h20 (VP.pickB false R h21 R) ?_
           exact J [_, _, _] _ R (andF h21)
         ·refine VR.p R R (VP.pickB false R h20 R) ?_
          exact J [_, _, _, _, _] _ R (orF h20)
       ·refine VR.nil ?_
        rcases ite_or hm with ⟨h22, hm⟩ | ⟨h22, hm⟩
        ·refine VW.condT R h22 <| VW.seq <| VW.region <| VR.p R R (VP.assign R) <| VR.nil ?_
         obtain rfl := Option.some.inj hm
         have hm := Out.ret_on h3
         obtain rfl := Option.some.inj hm
         exact VW.ret ⟨.inl R, _, .cons (.tmp _ _ R) .nil, [], _, R, R, R⟩
        ·have h22 := bf h22
         refine VW.condF R h22 <| VW.skip <| VW.region <| VR.p R R (VP.move R) <| VR.p R R (VP.arith R R R) <| VR.p R R (VP.assign R) <| VR.nil ?_
         exact ⟨(IntKind.i64.wrap (i2 + (1 : Int))), (), hm, (Shift.pick [] R ⟨R, R, trivial⟩)⟩
   ·have h4 := bf h4
    refine VW.condF R h4 <| VW.exit ?_
    exact ⟨(), (), (Option.some.inj hm).symm, (Shift.pick [] R trivial)⟩
  ·rintro j _ rfl
   have hm := Out.go_on h3
   refine VW.seq <| VW.region <| VR.p R R (VP.assign R) <| VR.nil ?_
   obtain rfl := Option.some.inj hm
   exact VW.ret ⟨.inl R, _, .cons (.tmp _ _ R) .nil, [], _, R, R, R⟩

end Go.Proofs.Ytbkdglcedgiogaa.M

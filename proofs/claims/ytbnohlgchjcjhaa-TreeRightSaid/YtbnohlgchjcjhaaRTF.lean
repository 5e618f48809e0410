/-
  Printed by a program of this session out of the loaded functions: models and their proofs. Own text.
-/
import Derived.Test.YtbnohlgchjcjhaaRTF1
namespace Go.Proofs.Ytbnohlgchjcjhaa.M
open Go Go.Proofs Go.Proofs.Ytbnohlgchjcjhaa.V
set_option linter.unusedVariables false
set_option maxRecDepth 20000
set_option maxHeartbeats 4000000
/-! trireme/triremeref02.Show -/
def ref02_Show.l1 (l : List T_api_Node) (r2 : List Int) : Nat → ByteArray → Int → Option ByteArray
 | 0, _, _ => none
 | n + 1, s2, i2 =>
  if (decide (i2 < (r2.length : Int))) = true then
   (V.gl r2 i2).bind fun x =>
   (ref02_show FU l x).bind fun r3 =>
   (V.cat s2 r3).bind fun v =>
   (V.cat v (⟨#[10]⟩ : ByteArray)).bind fun v2 =>
   ref02_Show.l1 l r2 n v2 (IntKind.i64.wrap (i2 + (1 : Int)))
  else
   some s2
def ref02_Show (l : List T_api_Node) : Option ByteArray :=
 (ref02_Check l).bind fun r =>
 if (r != (0 : Int)) = true then
  some (⟨#[]⟩ : ByteArray)
 else
  (ref02_Tops l).bind fun r2 =>
  (ref02_Show.l1 l r2 FU (⟨#[]⟩ : ByteArray) (0 : Int)).bind fun s32 =>
  some s32
theorem ref02_Show_ok (l : List T_api_Node) (r : ByteArray) (hm : ref02_Show l = some r) :
  VC Try.prog 12 [.list 40 (List.map T_api_Node.vv l)] [] (fun zx zH => zx = .str r ∧ zH = []) := by
 unfold ref02_Show at hm
 refine VC.run (c := _) (rs := [.tmp 2]) Try.func12 R R R <| VW.seq <| VW.region <| VR.p R R (VP.assign R) <| VR.nil <| VW.seq <| VW.seq <| VW.region <| VR.p R R (VP.move R) ?_
 obtain ⟨r, h1, hm⟩ := bnd hm
 refine VR.cons R R (VO.callK 0 R fn10 R (ref02_Check_ok l r h1) fun _ _ h14 => ?_)
 obtain ⟨rfl, rfl⟩ := h14
 refine VR.p R R (VP.arith R R R) <| VR.nil ?_
 rcases ite_or hm with ⟨h2, hm⟩ | ⟨h2, hm⟩
 ·refine VW.condT R h2 <| VW.seq <| VW.region <| VR.p R R (VP.assign R) <| VR.nil ?_
  obtain rfl := Option.some.inj hm
  exact VW.ret ⟨.inl R, _, .cons (.tmp _ _ R) .nil, [], _, R, R, R⟩
 ·have h2 := bf h2
  refine VW.condF R h2 <| VW.skip <| VW.seq <| VW.region <| VR.p R R (VP.assign R) <| VR.nil <| VW.seq <| VW.region <| VR.p R R (VP.move R) ?_
  obtain ⟨r2, h3, hm⟩ := bnd hm
  refine VR.cons R R (VO.callK 0 R fn19 R (ref02_Tops_ok l r2 h3) fun _ _ h13 => ?_)
  obtain ⟨ob, cap, rfl, rfl⟩ := h13
  refine VR.shift (Shift.freezeE 0 [(10, .list 3 (List.map (VV.int .i64) r2))] R ⟨⟨_, R, .here _ R⟩, trivial⟩ (FzH.refl _)) <| VR.p R R (VP.assign R) <| VR.nil <| VW.seq <| VW.seq <| VW.region <| VR.p R R (VP.assign R) <| VR.nil ?_
  obtain ⟨o, h5, h6⟩ := bnd hm
  refine VW.joinE (fun (q : ByteArray) => q = o) (fun (s32 : ByteArray) (gg : Unit) => [(3, .str s32)]) (fun (s32 : ByteArray) (gg : Unit) => []) ?_ ?_
  ·have hm := h5
   refine VW.block (VW.loop FU ?_)
   refine VL.fuelS (R := _) (fun zn (zs : ByteArray × Int) => ref02_Show.l1 l r2 zn zs.1 zs.2) (fun (zs : ByteArray × Int) (zg : Unit) => [(0, .list 40 (List.map T_api_Node.vv l)), (3, .str zs.1), (4, .list 3 (List.map (VV.int .i64) r2)), (5, .int .i64 zs.2)]) (fun (zs : ByteArray × Int) (zg : Unit) => []) ((⟨#[]⟩ : ByteArray), (0 : Int)) () (fun zs => R) (Shift.pick [] R ⟨R, R, R, R, trivial⟩) h5 ?_
   rintro n ⟨s2, i2⟩ _ hm
   rw [ref02_Show.l1] at hm
   refine VW.seq <| VW.seq <| VW.region <| VR.p R R (VP.move R) <| VR.p R R (VP.move R) <| VR.p R R (VP.lenT (VV.int .i64) R Try.underlying30) <| VR.p R R (VP.arith R R R) <| VR.nil ?_
   rcases ite_or hm with ⟨h7, hm⟩ | ⟨h7, hm⟩
   ·refine VW.condT R h7 <| VW.skip <| VW.seq <| VW.block <| VW.region <| VR.p R R (VP.move R) <| VR.p R R (VP.move R) <| VR.p R R (VP.move R) <| VR.p R R (VP.move R) ?_
    obtain ⟨x, h8, hm⟩ := bnd hm
    refine VR.p R R (VP.glE (VV.int .i64) R R el30 h8) <| VR.p R R (VP.loadE R ld3 R) ?_
    obtain ⟨r3, h9, hm⟩ := bnd hm
    refine VR.cons R R (VO.callK 0 R fn30 R (ref02_show_ok FU l x r3 h9) fun _ _ h12 => ?_)
    obtain ⟨rfl, rfl⟩ := h12
    obtain ⟨v, h10, hm⟩ := bnd hm
    refine VR.p R R (VP.catT R R h10) ?_
    obtain ⟨v2, h11, hm⟩ := bnd hm
    refine VR.p R R (VP.catT R R h11) <| VR.p R R (VP.assign R) <| VR.nil <| VW.region <| VR.p R R (VP.move R) <| VR.p R R (VP.arith R R R) <| VR.p R R (VP.assign R) <| VR.nil ?_
    exact ⟨(v2, (IntKind.i64.wrap (i2 + (1 : Int)))), (), hm, (Shift.pick [] R ⟨R, R, R, R, trivial⟩)⟩
   ·have h7 := bf h7
    refine VW.condF R h7 <| VW.exit ?_
    exact ⟨s2, (), Option.some.inj hm, (Shift.pick [] R ⟨R, trivial⟩)⟩
  ·rintro s32 _ rfl
   have hm := h6
   refine VW.seq <| VW.region <| VR.p R R (VP.move R) <| VR.p R R (VP.assign R) <| VR.nil ?_
   obtain rfl := Option.some.inj hm
   exact VW.ret ⟨.inl R, _, .cons (.tmp _ _ R) .nil, [], _, R, R, R⟩

/-! trireme/triremelaw02.TreeShows -/
def law02_TreeShows (l : List T_api_Node) (i : Int) : Option Bool :=
 (ref02_Light l).bind fun r =>
 if (!r) = true then
  (law02_known).bind fun r2 =>
  some r2
 else
  (tree_Check l).bind fun r3 =>
  (ref02_Check l).bind fun r4 =>
  (if (r3 == r4) = true then (tree_Show l).bind fun r5 =>
  (ref02_Show l).bind fun r6 =>
  some (V.seq r5 r6) else some false).bind fun c =>
  (if c = true then (tree_End l i).bind fun r7 =>
  (ref02_End l i).bind fun r8 =>
  some (r7 == r8) else some false).bind fun c2 =>
  (if c2 = true then (tree_Kids l i).bind fun r9 =>
  (ref02_Kids l i).bind fun r10 =>
  (ref02_Ints r9 r10).bind fun r11 =>
  some r11 else some false).bind fun c3 =>
  (if c3 = true then (tree_Tops l).bind fun r12 =>
  (ref02_Tops l).bind fun r13 =>
  (ref02_Ints r12 r13).bind fun r14 =>
  some r14 else some false).bind fun c4 =>
  (if c4 = true then (law02_known).bind fun r15 =>
  some r15 else some false).bind fun c5 =>
  some c5
theorem law02_TreeShows_ok (l : List T_api_Node) (i : Int) (r : Bool) (hm : law02_TreeShows l i = some r) :
  VC Try.prog 3 [.list 40 (List.map T_api_Node.vv l), .int .i64 i] [] (fun zx zH => zx = .bool r ∧ zH = []) := by
 unfold law02_TreeShows at hm
 refine VC.run (c := _) (rs := [.tmp 4]) Try.func3 R R R <| VW.seq <| VW.region <| VR.p R R (VP.assign R) <| VR.nil <| VW.seq <| VW.seq <| VW.region <| VR.p R R (VP.move R) ?_
 obtain ⟨r, h1, hm⟩ := bnd hm
 refine VR.cons R R (VO.callK 0 R fn7 R (ref02_Light_ok l r h1) fun _ _ h43 => ?_)
 obtain ⟨rfl, rfl⟩ := h43
 refine VR.p R R (VP.not R) <| VR.nil ?_
 rcases ite_or hm with ⟨h2, hm⟩ | ⟨h2, hm⟩
 ·refine VW.condT R h2 <| VW.seq <| VW.region ?_
  obtain ⟨r2, h3, hm⟩ := bnd hm
  refine VR.cons R R (VO.callK 0 R fn8 R (law02_known_ok r2 h3) fun _ _ h4 => ?_)
  obtain ⟨rfl, rfl⟩ := h4
  refine VR.p R R (VP.assign R) <| VR.nil ?_
  obtain rfl := Option.some.inj hm
  exact VW.ret ⟨.inl R, _, .cons (.tmp _ _ R) .nil, [], _, R, R, R⟩
 ·have h2 := bf h2
  refine VW.condF R h2 <| VW.skip <| VW.seq <| VW.region <| VR.p R R (VP.move R) ?_
  obtain ⟨r3, h5, hm⟩ := bnd hm
  refine VR.cons R R (VO.callK 0 R fn9 R (tree_Check_ok l r3 h5) fun _ _ h42 => ?_)
  obtain ⟨rfl, rfl⟩ := h42
  refine VR.p R R (VP.move R) ?_
  obtain ⟨r4, h6, hm⟩ := bnd hm
  refine VR.cons R R (VO.callK 0 R fn10 R (ref02_Check_ok l r4 h6) fun _ _ h41 => ?_)
  obtain ⟨rfl, rfl⟩ := h41
  refine VR.p R R (VP.arith R R R) <| VR.p R R (VP.move R) ?_
  obtain ⟨c, h12, hm⟩ := bnd hm
  refine VR.sc 6 20 (.bool c) (fun K' J => ?_) ?_
  ·have hm := h12
   rcases ite_or hm with ⟨h7, hm⟩ | ⟨h7, hm⟩
   ·refine VR.pG R R R R h7 (VP.move R) ?_
    obtain ⟨r5, h8, hm⟩ := bnd hm
    refine VR.consG R R R R h7 (VO.callK 0 R fn11 R (tree_Show_ok l r5 h8) fun _ _ h11 => ?_)
    obtain ⟨rfl, rfl⟩ := h11
    refine VR.pG R R R R h7 (VP.move R) ?_
    obtain ⟨r6, h9, hm⟩ := bnd hm
    refine VR.consG R R R R h7 (VO.callK 0 R fn12 R (ref02_Show_ok l r6 h9) fun _ _ h10 => ?_)
    obtain ⟨rfl, rfl⟩ := h10
    refine VR.pG R R R R h7 (VP.strop R R R) <| VR.p R R (VP.pickB true R h7 R) ?_
    exact J [_, _, _, _, _] _ R (congrArg VV.bool (Option.some.inj hm))
   ·have h7 := bf h7
    refine VR.skipG R R R R h7 <| VR.skipG R R R R h7 <| VR.skipG R R R R h7 <| VR.skipG R R R R h7 <| VR.skipG R R R R h7 <| VR.p R R (VP.pickB false R h7 R) ?_
    exact J [_, _, _, _, _] _ R (congrArg VV.bool (Option.some.inj hm))
  ·refine VR.p R R (VP.move R) ?_
   obtain ⟨c2, h18, hm⟩ := bnd hm
   refine VR.sc 8 29 (.bool c2) (fun K' J => ?_) ?_
   ·have hm := h18
    rcases ite_or hm with ⟨h13, hm⟩ | ⟨h13, hm⟩
    ·refine VR.pG R R R R h13 (VP.move R) <| VR.pG R R R R h13 (VP.move R) ?_
     obtain ⟨r7, h14, hm⟩ := bnd hm
     refine VR.consG R R R R h13 (VO.callK 0 R fn13 R (tree_End_ok l i r7 h14) fun _ _ h17 => ?_)
     obtain ⟨rfl, rfl⟩ := h17
     refine VR.pG R R R R h13 (VP.move R) <| VR.pG R R R R h13 (VP.move R) ?_
     obtain ⟨r8, h15, hm⟩ := bnd hm
     refine VR.consG R R R R h13 (VO.callK 0 R fn14 R (ref02_End_ok l i r8 h15) fun _ _ h16 => ?_)
     obtain ⟨rfl, rfl⟩ := h16
     refine VR.pG R R R R h13 (VP.arith R R R) <| VR.p R R (VP.pickB true R h13 R) ?_
     exact J [_, _, _, _, _, _, _] _ R (congrArg VV.bool (Option.some.inj hm))
    ·have h13 := bf h13
     refine VR.skipG R R R R h13 <| VR.skipG R R R R h13 <| VR.skipG R R R R h13 <| VR.skipG R R R R h13 <| VR.skipG R R R R h13 <| VR.skipG R R R R h13 <| VR.skipG R R R R h13 <| VR.p R R (VP.pickB false R h13 R) ?_
     exact J [_, _, _, _, _, _, _] _ R (congrArg VV.bool (Option.some.inj hm))
   ·refine VR.p R R (VP.move R) ?_
    obtain ⟨c3, h27, hm⟩ := bnd hm
    refine VR.sc 8 38 (.bool c3) (fun K' J => ?_) ?_
    ·have hm := h27
     rcases ite_or hm with ⟨h19, hm⟩ | ⟨h19, hm⟩
     ·refine VR.pG R R R R h19 (VP.move R) <| VR.pG R R R R h19 (VP.move R) ?_
      obtain ⟨r9, h20, hm⟩ := bnd hm
      refine VR.consG R R R R h19 (VO.callK 0 R fn16 R (tree_Kids_ok l i r9 h20) fun _ _ h26 => ?_)
      obtain ⟨rfl, rfl⟩ := h26
      refine VR.pG R R R R h19 (VP.move R) <| VR.pG R R R R h19 (VP.move R) ?_
      obtain ⟨r10, h21, hm⟩ := bnd hm
      refine VR.consG R R R R h19 (VO.callK 0 R fn17 R (ref02_Kids_ok l i r10 h21) fun _ _ h25 => ?_)
      obtain ⟨ob, cap, rfl, rfl⟩ := h25
      refine VR.shift (Shift.freezeE 0 [(36, .list 3 (List.map (VV.int .i64) r10))] R ⟨⟨_, R, .here _ R⟩, trivial⟩ (FzH.refl _)) ?_
      obtain ⟨r11, h23, hm⟩ := bnd hm
      refine VR.consG R R R R h19 (VO.callK 0 R fn15 R (ref02_Ints_ok r9 r10 r11 h23) fun _ _ h24 => ?_)
      obtain ⟨rfl, rfl⟩ := h24
      refine VR.p R R (VP.pickB true R h19 R) ?_
      exact J [_, _, _, _, _, _, _, _] _ R (congrArg VV.bool (Option.some.inj hm))
     ·have h19 := bf h19
      refine VR.skipG R R R R h19 <| VR.skipG R R R R h19 <| VR.skipG R R R R h19 <| VR.skipG R R R R h19 <| VR.skipG R R R R h19 <| VR.skipG R R R R h19 <| VR.skipG R R R R h19 <| VR.p R R (VP.pickB false R h19 R) ?_
      exact J [_, _, _, _, _, _, _] _ R (congrArg VV.bool (Option.some.inj hm))
    ·refine VR.p R R (VP.move R) ?_
     obtain ⟨c4, h36, hm⟩ := bnd hm
     refine VR.sc 6 45 (.bool c4) (fun K' J => ?_) ?_
     ·have hm := h36
      rcases ite_or hm with ⟨h28, hm⟩ | ⟨h28, hm⟩
      ·refine VR.pG R R R R h28 (VP.move R) ?_
       obtain ⟨r12, h29, hm⟩ := bnd hm
       refine VR.consG R R R R h28 (VO.callK 0 R fn18 R (tree_Tops_ok l r12 h29) fun _ _ h35 => ?_)
       obtain ⟨rfl, rfl⟩ := h35
       refine VR.pG R R R R h28 (VP.move R) ?_
       obtain ⟨r13, h30, hm⟩ := bnd hm
       refine VR.consG R R R R h28 (VO.callK 0 R fn19 R (ref02_Tops_ok l r13 h30) fun _ _ h34 => ?_)
       obtain ⟨ob2, cap2, rfl, rfl⟩ := h34
       refine VR.shift (Shift.freezeE 0 [(43, .list 3 (List.map (VV.int .i64) r13))] R ⟨⟨_, R, .here _ R⟩, trivial⟩ (FzH.refl _)) ?_
       obtain ⟨r14, h32, hm⟩ := bnd hm
       refine VR.consG R R R R h28 (VO.callK 0 R fn15 R (ref02_Ints_ok r12 r13 r14 h32) fun _ _ h33 => ?_)
       obtain ⟨rfl, rfl⟩ := h33
       refine VR.p R R (VP.pickB true R h28 R) ?_
       exact J [_, _, _, _, _, _] _ R (congrArg VV.bool (Option.some.inj hm))
      ·have h28 := bf h28
       refine VR.skipG R R R R h28 <| VR.skipG R R R R h28 <| VR.skipG R R R R h28 <| VR.skipG R R R R h28 <| VR.skipG R R R R h28 <| VR.p R R (VP.pickB false R h28 R) ?_
       exact J [_, _, _, _, _] _ R (congrArg VV.bool (Option.some.inj hm))
     ·refine VR.p R R (VP.move R) ?_
      obtain ⟨c5, h40, hm⟩ := bnd hm
      refine VR.sc 2 48 (.bool c5) (fun K' J => ?_) ?_
      ·have hm := h40
       rcases ite_or hm with ⟨h37, hm⟩ | ⟨h37, hm⟩
       ·obtain ⟨r15, h38, hm⟩ := bnd hm
        refine VR.consG R R R R h37 (VO.callK 0 R fn8 R (law02_known_ok r15 h38) fun _ _ h39 => ?_)
        obtain ⟨rfl, rfl⟩ := h39
        refine VR.p R R (VP.pickB true R h37 R) ?_
        exact J [_] _ R (congrArg VV.bool (Option.some.inj hm))
       ·have h37 := bf h37
        refine VR.skipG R R R R h37 <| VR.p R R (VP.pickB false R h37 R) ?_
        exact J [_] _ R (congrArg VV.bool (Option.some.inj hm))
      ·refine VR.p R R (VP.assign R) <| VR.nil ?_
       obtain rfl := Option.some.inj hm
       exact VW.ret ⟨.inl R, _, .cons (.tmp _ _ R) .nil, [], _, R, R, R⟩

/-! trireme/triremeref02.Same -/
def ref02_Same.l1 (a : List T_api_Node) (b : List T_api_Node) (places : Bool) : Nat → Int → Option (Out Bool Unit)
 | 0, _ => none
 | n + 1, i2 =>
  if (decide (i2 < (a.length : Int))) = true then
   (V.gl a i2).bind fun x =>
   (V.gl b i2).bind fun x2 =>
   (if (x.Kind != x2.Kind) = true then some true else (V.gl a i2).bind fun x3 =>
   (V.gl b i2).bind fun x4 =>
   some (!(V.seq x3.Text x4.Text))).bind fun c =>
   (if c = true then some true else (V.gl a i2).bind fun x5 =>
   (V.gl b i2).bind fun x6 =>
   some (x5.Kids != x6.Kids)).bind fun c2 =>
   (if c2 = true then some true else (if places = true then (V.gl a i2).bind fun x7 =>
   (V.gl b i2).bind fun x8 =>
   some (x7.At != x8.At) else some false).bind fun c3 =>
   some c3).bind fun c4 =>
   if c4 = true then
    some (Out.ret false)
   else
    ref02_Same.l1 a b places n (IntKind.i64.wrap (i2 + (1 : Int)))
  else
   some (Out.go ())
def ref02_Same (a : List T_api_Node) (b : List T_api_Node) (places : Bool) : Option Bool :=
 if ((a.length : Int) != (b.length : Int)) = true then
  some false
 else
  (ref02_Same.l1 a b places FU (0 : Int)).bind fun o =>
  o.on fun j =>
  some true
theorem ref02_Same_ok (a : List T_api_Node) (b : List T_api_Node) (places : Bool) (r : Bool) (hm : ref02_Same a b places = some r) :
  VC Try.prog 21 [.list 40 (List.map T_api_Node.vv a), .list 40 (List.map T_api_Node.vv b), .bool places] [] (fun zx zH => zx = .bool r ∧ zH = []) := by
 unfold ref02_Same at hm
 refine VC.run (c := _) (rs := [.tmp 6]) Try.func21 R R R <| VW.seq <| VW.region <| VR.p R R (VP.assign R) <| VR.nil <| VW.seq <| VW.seq <| VW.region <| VR.p R R (VP.move R) <| VR.p R R (VP.lenT T_api_Node.vv R Try.underlying22) <| VR.p R R (VP.move R) <| VR.p R R (VP.lenT T_api_Node.vv R Try.underlying22) <| VR.p R R (VP.arith R R R) <| VR.nil ?_
 rcases ite_or hm with ⟨h1, hm⟩ | ⟨h1, hm⟩
 ·refine VW.condT R h1 <| VW.seq <| VW.region <| VR.p R R (VP.assign R) <| VR.nil ?_
  obtain rfl := Option.some.inj hm
  exact VW.ret ⟨.inl R, _, .cons (.tmp _ _ R) .nil, [], _, R, R, R⟩
 ·have h1 := bf h1
  refine VW.condF R h1 <| VW.skip <| VW.seq <| VW.seq <| VW.region <| VR.p R R (VP.assign R) <| VR.nil ?_
  obtain ⟨o, h2, h3⟩ := bnd hm
  refine VW.joinE (fun (q : Unit) => o = Out.go q) (fun (j : Unit) (gg : Unit) => []) (fun (j : Unit) (gg : Unit) => []) ?_ ?_
  ·have hm := h2
   refine VW.block (VW.loop FU ?_)
   refine VL.fuelS (R := _) (fun zn (zs : Int) => ref02_Same.l1 a b places zn zs) (fun (zs : Int) (zg : Unit) => [(0, .list 40 (List.map T_api_Node.vv a)), (1, .list 40 (List.map T_api_Node.vv b)), (2, .bool places), (7, .int .i64 zs)]) (fun (zs : Int) (zg : Unit) => []) (0 : Int) () (fun zs => R) (Shift.pick [] R ⟨R, R, R, R, trivial⟩) h2 ?_
   rintro n i2 _ hm
   rw [ref02_Same.l1] at hm
   refine VW.seq <| VW.seq <| VW.region <| VR.p R R (VP.move R) <| VR.p R R (VP.move R) <| VR.p R R (VP.lenT T_api_Node.vv R Try.underlying22) <| VR.p R R (VP.arith R R R) <| VR.nil ?_
   rcases ite_or hm with ⟨h4, hm⟩ | ⟨h4, hm⟩
   ·refine VW.condT R h4 <| VW.skip <| VW.seq <| VW.block <| VW.seq <| VW.drawK 0 mixed <| VA.p 0 R R R (by kernel_rfl) (VP.move R) <| VA.p 1 R R R (by kernel_rfl) (VP.move R) ?_
    obtain ⟨x, h5, hm⟩ := bnd hm
    refine VA.p 2 R R R (by kernel_rfl) (VP.glE T_api_Node.vv R R el22 h5) <| VA.p 3 R R R (by kernel_rfl) (VP.fieldE R fa40_0) <| VA.p 4 R R R (by kernel_rfl) (VP.loadE R ld3 R) <| VA.p 5 R R R (by kernel_rfl) (VP.move R) <| VA.p 6 R R R (by kernel_rfl) (VP.move R) ?_
    obtain ⟨x2, h6, hm⟩ := bnd hm
    refine VA.p 7 R R R (by kernel_rfl) (VP.glE T_api_Node.vv R R el22 h6) <| VA.p 8 R R R (by kernel_rfl) (VP.fieldE R fa40_0) <| VA.p 9 R R R (by kernel_rfl) (VP.loadE R ld3 R) <| VA.p 10 R R R (by kernel_rfl) (VP.arith R R R) <| VA.p 11 R R R (by kernel_rfl) (VP.move R) ?_
    obtain ⟨c, h10, hm⟩ := bnd hm
    refine VA.sc [23, 22, 21, 20, 19, 18, 17, 16, 15, 14, 13, 12, 11, 10, 9, 8, 7, 6, 5, 4, 3, 2, 1, 0] 42 (.bool c) (fun K' J => ?_) ?_
    ·have hm := h10
     rcases ite_or hm with ⟨h7, hm⟩ | ⟨h7, hm⟩
     ·refine VA.skipG 12 R R R R R h7 (by kernel_rfl) <| VA.skipG 13 R R R R R h7 (by kernel_rfl) <| VA.skipG 14 R R R R R h7 (by kernel_rfl) <| VA.skipG 15 R R R R R h7 (by kernel_rfl) <| VA.skipG 16 R R R R R h7 (by kernel_rfl) <| VA.skipG 17 R R R R R h7 (by kernel_rfl) <| VA.skipG 18 R R R R R h7 (by kernel_rfl) <| VA.skipG 19 R R R R R h7 (by kernel_rfl) <| VA.skipG 20 R R R R R h7 (by kernel_rfl) <| VA.skipG 21 R R R R R h7 (by kernel_rfl) <| VA.skipG 22 R R R R R h7 (by kernel_rfl) <| VA.p 23 R R R (by kernel_rfl) (VP.pickB true R h7 R) ?_
      exact J [_, _, _, _, _, _, _, _, _, _, _] _ R (congrArg VV.bool (Option.some.inj hm))
     ·have h7 := bf h7
      refine VA.pG 12 R R R R R h7 (by kernel_rfl) (VP.move R) <| VA.pG 13 R R R R R h7 (by kernel_rfl) (VP.move R) ?_
      obtain ⟨x3, h8, hm⟩ := bnd hm
      refine VA.pG 14 R R R R R h7 (by kernel_rfl) (VP.glE T_api_Node.vv R R el22 h8) <| VA.pG 15 R R R R R h7 (by kernel_rfl) (VP.fieldE R fa40_1) <| VA.pG 16 R R R R R h7 (by kernel_rfl) (VP.loadE R ld9 R) <| VA.pG 17 R R R R R h7 (by kernel_rfl) (VP.move R) <| VA.pG 18 R R R R R h7 (by kernel_rfl) (VP.move R) ?_
      obtain ⟨x4, h9, hm⟩ := bnd hm
      refine VA.pG 19 R R R R R h7 (by kernel_rfl) (VP.glE T_api_Node.vv R R el22 h9) <| VA.pG 20 R R R R R h7 (by kernel_rfl) (VP.fieldE R fa40_1) <| VA.pG 21 R R R R R h7 (by kernel_rfl) (VP.loadE R ld9 R) <| VA.pG 22 R R R R R h7 (by kernel_rfl) (VP.strop R R R) <| VA.p 23 R R R (by kernel_rfl) (VP.pickB false R h7 R) ?_
      exact J [_, _, _, _, _, _, _, _, _, _, _] _ R (congrArg VV.bool (Option.some.inj hm))
    ·refine VA.p 24 R R R (by kernel_rfl) (VP.move R) ?_
     obtain ⟨c2, h14, hm⟩ := bnd hm
     refine VA.sc [36, 35, 34, 33, 32, 31, 30, 29, 28, 27, 26, 25, 24, 23, 22, 21, 20, 19, 18, 17, 16, 15, 14, 13, 12, 11, 10, 9, 8, 7, 6, 5, 4, 3, 2, 1, 0] 55 (.bool c2) (fun K' J => ?_) ?_
     ·have hm := h14
      rcases ite_or hm with ⟨h11, hm⟩ | ⟨h11, hm⟩
      ·refine VA.skipG 25 R R R R R h11 (by kernel_rfl) <| VA.skipG 26 R R R R R h11 (by kernel_rfl) <| VA.skipG 27 R R R R R h11 (by kernel_rfl) <| VA.skipG 28 R R R R R h11 (by kernel_rfl) <| VA.skipG 29 R R R R R h11 (by kernel_rfl) <| VA.skipG 30 R R R R R h11 (by kernel_rfl) <| VA.skipG 31 R R R R R h11 (by kernel_rfl) <| VA.skipG 32 R R R R R h11 (by kernel_rfl) <| VA.skipG 33 R R R R R h11 (by kernel_rfl) <| VA.skipG 34 R R R R R h11 (by kernel_rfl) <| VA.skipG 35 R R R R R h11 (by kernel_rfl) <| VA.p 36 R R R (by kernel_rfl) (VP.pickB true R h11 R) ?_
       exact J [_, _, _, _, _, _, _, _, _, _, _] _ R (congrArg VV.bool (Option.some.inj hm))
      ·have h11 := bf h11
       refine VA.pG 25 R R R R R h11 (by kernel_rfl) (VP.move R) <| VA.pG 26 R R R R R h11 (by kernel_rfl) (VP.move R) ?_
       obtain ⟨x5, h12, hm⟩ := bnd hm
       refine VA.pG 27 R R R R R h11 (by kernel_rfl) (VP.glE T_api_Node.vv R R el22 h12) <| VA.pG 28 R R R R R h11 (by kernel_rfl) (VP.fieldE R fa40_2) <| VA.pG 29 R R R R R h11 (by kernel_rfl) (VP.loadE R ld3 R) <| VA.pG 30 R R R R R h11 (by kernel_rfl) (VP.move R) <| VA.pG 31 R R R R R h11 (by kernel_rfl) (VP.move R) ?_
       obtain ⟨x6, h13, hm⟩ := bnd hm
       refine VA.pG 32 R R R R R h11 (by kernel_rfl) (VP.glE T_api_Node.vv R R el22 h13) <| VA.pG 33 R R R R R h11 (by kernel_rfl) (VP.fieldE R fa40_2) <| VA.pG 34 R R R R R h11 (by kernel_rfl) (VP.loadE R ld3 R) <| VA.pG 35 R R R R R h11 (by kernel_rfl) (VP.arith R R R) <| VA.p 36 R R R (by kernel_rfl) (VP.pickB false R h11 R) ?_
       exact J [_, _, _, _, _, _, _, _, _, _, _] _ R (congrArg VV.bool (Option.some.inj hm))
     ·refine VA.p 37 R R R (by kernel_rfl) (VP.move R) ?_
      obtain ⟨c4, h20, hm⟩ := bnd hm
      refine VA.sc [52, 51, 50, 49, 48, 47, 46, 45, 44, 43, 42, 41, 40, 39, 38, 37, 36, 35, 34, 33, 32, 31, 30, 29, 28, 27, 26, 25, 24, 23, 22, 21, 20, 19, 18, 17, 16, 15, 14, 13, 12, 11, 10, 9, 8, 7, 6, 5, 4, 3, 2, 1, 0] 71 (.bool c4) (fun K' J => ?_) ?_
      ·have hm := h20
       rcases ite_or hm with ⟨h15, hm⟩ | ⟨h15, hm⟩
       ·refine VA.skipG 38 R R R R R h15 (by kernel_rfl) <| VA.skipG 39 R R R R R h15 (by kernel_rfl) <| VA.skipU 40 R R R R R (by kernel_rfl) <| VA.skipU 41 R R R R R (by kernel_rfl) <| VA.skipU 42 R R R R R (by kernel_rfl) <| VA.skipU 43 R R R R R (by kernel_rfl) <| VA.skipU 44 R R R R R (by kernel_rfl) <| VA.skipU 45 R R R R R (by kernel_rfl) <| VA.skipU 46 R R R R R (by kernel_rfl) <| VA.skipU 47 R R R R R (by kernel_rfl) <| VA.skipU 48 R R R R R (by kernel_rfl) <| VA.skipU 49 R R R R R (by kernel_rfl) <| VA.skipU 50 R R R R R (by kernel_rfl) <| VA.skipG 51 R R R R R h15 (by kernel_rfl) <| VA.p 52 R R R (by kernel_rfl) (VP.pickB true R h15 R) ?_
        exact J [_, _, _, _, _, _, _, _, _, _, _, _, _, _] _ R (congrArg VV.bool (Option.some.inj hm))
       ·have h15 := bf h15
        refine VA.pG 38 R R R R R h15 (by kernel_rfl) (VP.move R) <| VA.pG 39 R R R R R h15 (by kernel_rfl) (VP.move R) ?_
        obtain ⟨c3, h19, hm⟩ := bnd hm
        refine VA.sc [51, 50, 49, 48, 47, 46, 45, 44, 43, 42, 41, 40, 39, 38, 37, 36, 35, 34, 33, 32, 31, 30, 29, 28, 27, 26, 25, 24, 23, 22, 21, 20, 19, 18, 17, 16, 15, 14, 13, 12, 11, 10, 9, 8, 7, 6, 5, 4, 3, 2, 1, 0] 70 (.bool c3) (fun K' J => ?_) ?_
        ·have hm := h19
         rcases ite_or hm with ⟨h16, hm⟩ | ⟨h16, hm⟩
         ·refine VA.pG 40 R R R R R h16 (by kernel_rfl) (VP.move R) <| VA.pG 41 R R R R R h16 (by kernel_rfl) (VP.move R) ?_
          obtain ⟨x7, h17, hm⟩ := bnd hm
          refine VA.pG 42 R R R R R h16 (by kernel_rfl) (VP.glE T_api_Node.vv R R el22 h17) <| VA.pG 43 R R R R R h16 (by kernel_rfl) (VP.fieldE R fa40_3) <| VA.pG 44 R R R R R h16 (by kernel_rfl) (VP.loadE R ld3 R) <| VA.pG 45 R R R R R h16 (by kernel_rfl) (VP.move R) <| VA.pG 46 R R R R R h16 (by kernel_rfl) (VP.move R) ?_
          obtain ⟨x8, h18, hm⟩ := bnd hm
          refine VA.pG 47 R R R R R h16 (by kernel_rfl) (VP.glE T_api_Node.vv R R el22 h18) <| VA.pG 48 R R R R R h16 (by kernel_rfl) (VP.fieldE R fa40_3) <| VA.pG 49 R R R R R h16 (by kernel_rfl) (VP.loadE R ld3 R) <| VA.pG 50 R R R R R h16 (by kernel_rfl) (VP.arith R R R) <| VA.pG 51 R R R R R h15 (by kernel_rfl) (VP.pickB true R h16 R) ?_
          exact J [_, _, _, _, _, _, _, _, _, _, _] _ R (congrArg VV.bool (Option.some.inj hm))
         ·have h16 := bf h16
          refine VA.skipG 40 R R R R R h16 (by kernel_rfl) <| VA.skipG 41 R R R R R h16 (by kernel_rfl) <| VA.skipG 42 R R R R R h16 (by kernel_rfl) <| VA.skipG 43 R R R R R h16 (by kernel_rfl) <| VA.skipG 44 R R R R R h16 (by kernel_rfl) <| VA.skipG 45 R R R R R h16 (by kernel_rfl) <| VA.skipG 46 R R R R R h16 (by kernel_rfl) <| VA.skipG 47 R R R R R h16 (by kernel_rfl) <| VA.skipG 48 R R R R R h16 (by kernel_rfl) <| VA.skipG 49 R R R R R h16 (by kernel_rfl) <| VA.skipG 50 R R R R R h16 (by kernel_rfl) <| VA.pG 51 R R R R R h15 (by kernel_rfl) (VP.pickB false R h16 R) ?_
          exact J [_, _, _, _, _, _, _, _, _, _, _] _ R (congrArg VV.bool (Option.some.inj hm))
        ·refine VA.p 52 R R R (by kernel_rfl) (VP.pickB false R h15 R) ?_
         exact J [_, _, _] _ R (congrArg VV.bool (Option.some.inj hm))
      ·refine VA.done (by kernel_rfl) ?_
       rcases ite_or hm with ⟨h21, hm⟩ | ⟨h21, hm⟩
       ·refine VW.condT R h21 <| VW.seq <| VW.region <| VR.p R R (VP.assign R) <| VR.nil ?_
        obtain rfl := Option.some.inj hm
        have hm := Out.ret_on h3
        obtain rfl := Option.some.inj hm
        exact VW.ret ⟨.inl R, _, .cons (.tmp _ _ R) .nil, [], _, R, R, R⟩
       ·have h21 := bf h21
        refine VW.condF R h21 <| VW.skip <| VW.region <| VR.p R R (VP.move R) <| VR.p R R (VP.arith R R R) <| VR.p R R (VP.assign R) <| VR.nil ?_
        exact ⟨(IntKind.i64.wrap (i2 + (1 : Int))), (), hm, (Shift.pick [] R ⟨R, R, R, R, trivial⟩)⟩
   ·have h4 := bf h4
    refine VW.condF R h4 <| VW.exit ?_
    exact ⟨(), (), (Option.some.inj hm).symm, (Shift.pick [] R trivial)⟩
  ·rintro j _ rfl
   have hm := Out.go_on h3
   refine VW.seq <| VW.region <| VR.p R R (VP.assign R) <| VR.nil ?_
   obtain rfl := Option.some.inj hm
   exact VW.ret ⟨.inl R, _, .cons (.tmp _ _ R) .nil, [], _, R, R, R⟩

/-! trireme/triremelaw02.TreeBack -/
def law02_TreeBack (l : List T_api_Node) : Option Bool :=
 (ref02_Light l).bind fun r =>
 if (!r) = true then
  (law02_known).bind fun r2 =>
  some r2
 else
  (tree_Show l).bind fun r3 =>
  (tree_Check l).bind fun r4 =>
  if (r4 != (0 : Int)) = true then
   (if (V.seq r3 (⟨#[]⟩ : ByteArray)) = true then (law02_known).bind fun r5 =>
   some r5 else some false).bind fun c =>
   some c
  else
   (tree_Parse r3).bind fun r6 =>
   (if (decide ((r3.size : Int) > (65536 : Int))) = true then some true else (if (r6.2.1 == (0 : Int)) = true then (ref02_Same r6.1 l false).bind fun r7 =>
   some r7 else some false).bind fun c2 =>
   some c2).bind fun c3 =>
   (if c3 = true then (law02_known).bind fun r8 =>
   some r8 else some false).bind fun c4 =>
   some c4
theorem law02_TreeBack_ok (l : List T_api_Node) (r : Bool) (hm : law02_TreeBack l = some r) :
  VC Try.prog 4 [.list 40 (List.map T_api_Node.vv l)] [] (fun zx zH => zx = .bool r ∧ zH = []) := by
 unfold law02_TreeBack at hm
 refine VC.run (c := _) (rs := [.tmp 2]) Try.func4 R R R <| VW.seq <| VW.region <| VR.p R R (VP.assign R) <| VR.nil <| VW.seq <| VW.seq <| VW.region <| VR.p R R (VP.move R) ?_
 obtain ⟨r, h1, hm⟩ := bnd hm
 refine VR.cons R R (VO.callK 0 R fn7 R (ref02_Light_ok l r h1) fun _ _ h29 => ?_)
 obtain ⟨rfl, rfl⟩ := h29
 refine VR.p R R (VP.not R) <| VR.nil ?_
 rcases ite_or hm with ⟨h2, hm⟩ | ⟨h2, hm⟩
 ·refine VW.condT R h2 <| VW.seq <| VW.region ?_
  obtain ⟨r2, h3, hm⟩ := bnd hm
  refine VR.cons R R (VO.callK 0 R fn8 R (law02_known_ok r2 h3) fun _ _ h4 => ?_)
  obtain ⟨rfl, rfl⟩ := h4
  refine VR.p R R (VP.assign R) <| VR.nil ?_
  obtain rfl := Option.some.inj hm
  exact VW.ret ⟨.inl R, _, .cons (.tmp _ _ R) .nil, [], _, R, R, R⟩
 ·have h2 := bf h2
  refine VW.condF R h2 <| VW.skip <| VW.seq <| VW.region <| VR.p R R (VP.move R) ?_
  obtain ⟨r3, h5, hm⟩ := bnd hm
  refine VR.cons R R (VO.callK 0 R fn11 R (tree_Show_ok l r3 h5) fun _ _ h28 => ?_)
  obtain ⟨rfl, rfl⟩ := h28
  refine VR.p R R (VP.assign R) <| VR.nil <| VW.seq <| VW.seq <| VW.region <| VR.p R R (VP.move R) ?_
  obtain ⟨r4, h6, hm⟩ := bnd hm
  refine VR.cons R R (VO.callK 0 R fn9 R (tree_Check_ok l r4 h6) fun _ _ h27 => ?_)
  obtain ⟨rfl, rfl⟩ := h27
  refine VR.p R R (VP.arith R R R) <| VR.nil ?_
  rcases ite_or hm with ⟨h7, hm⟩ | ⟨h7, hm⟩
  ·refine VW.condT R h7 <| VW.seq <| VW.region <| VR.p R R (VP.move R) <| VR.p R R (VP.strop R R R) <| VR.p R R (VP.move R) ?_
   obtain ⟨c, h11, hm⟩ := bnd hm
   refine VR.sc 2 20 (.bool c) (fun K' J => ?_) ?_
   ·have hm := h11
    rcases ite_or hm with ⟨h8, hm⟩ | ⟨h8, hm⟩
    ·obtain ⟨r5, h9, hm⟩ := bnd hm
     refine VR.consG R R R R h8 (VO.callK 0 R fn8 R (law02_known_ok r5 h9) fun _ _ h10 => ?_)
     obtain ⟨rfl, rfl⟩ := h10
     refine VR.p R R (VP.pickB true R h8 R) ?_
     exact J [_] _ R (congrArg VV.bool (Option.some.inj hm))
    ·have h8 := bf h8
     refine VR.skipG R R R R h8 <| VR.p R R (VP.pickB false R h8 R) ?_
     exact J [_] _ R (congrArg VV.bool (Option.some.inj hm))
   ·refine VR.p R R (VP.assign R) <| VR.nil ?_
    obtain rfl := Option.some.inj hm
    exact VW.ret ⟨.inl R, _, .cons (.tmp _ _ R) .nil, [], _, R, R, R⟩
  ·have h7 := bf h7
   refine VW.condF R h7 <| VW.skip <| VW.seq <| VW.region <| VR.p R R (VP.move R) ?_
   obtain ⟨r6, h12, hm⟩ := bnd hm
   refine VR.cons R R (VO.callK 0 R fn20 R (tree_Parse_ok r3 r6 h12) fun _ _ h26 => ?_)
   obtain ⟨ob, cap, rfl, rfl⟩ := h26
   refine VR.p R R (VP.move R) <| VR.p R R (VP.extract R R) <| VR.p R R (VP.extract R R) <| VR.p R R (VP.extract R R) <| VR.p R R (VP.assign R) <| VR.p R R (VP.assign R) <| VR.p R R (VP.assign R) <| VR.nil <| VW.seq <| VW.shift (Shift.freezeE 0 [(24, .list 40 (List.map T_api_Node.vv r6.1)), (4, .list 40 (List.map T_api_Node.vv r6.1))] R ⟨⟨_, R, .here _ R⟩, ⟨_, R, .here _ R⟩, trivial⟩ (FzH.refl _)) <| VW.region <| VR.p R R (VP.move R) <| VR.p R R (VP.lenS R Try.underlying9) <| VR.p R R (VP.arith R R R) <| VR.p R R (VP.move R) ?_
   obtain ⟨c3, h21, hm⟩ := bnd hm
   refine VR.sc 8 38 (.bool c3) (fun K' J => ?_) ?_
   ·have hm := h21
    rcases ite_or hm with ⟨h16, hm⟩ | ⟨h16, hm⟩
    ·refine VR.skipG R R R R h16 <| VR.skipG R R R R h16 <| VR.skipG R R R R h16 <| VR.skipU R R R R <| VR.skipU R R R R <| VR.skipU R R R R <| VR.skipG R R R R h16 <| VR.p R R (VP.pickB true R h16 R) ?_
     exact J [_, _, _, _, _, _, _] _ R (congrArg VV.bool (Option.some.inj hm))
    ·have h16 := bf h16
     refine VR.pG R R R R h16 (VP.move R) <| VR.pG R R R R h16 (VP.arith R R R) <| VR.pG R R R R h16 (VP.move R) ?_
     obtain ⟨c2, h20, hm⟩ := bnd hm
     refine VR.sc 4 37 (.bool c2) (fun K' J => ?_) ?_
     ·have hm := h20
      rcases ite_or hm with ⟨h17, hm⟩ | ⟨h17, hm⟩
      ·refine VR.pG R R R R h17 (VP.move R) <| VR.pG R R R R h17 (VP.move R) ?_
       obtain ⟨r7, h18, hm⟩ := bnd hm
       refine VR.consG R R R R h17 (VO.callK 0 R fn21 R (ref02_Same_ok r6.1 l false r7 h18) fun _ _ h19 => ?_)
       obtain ⟨rfl, rfl⟩ := h19
       refine VR.pG R R R R h16 (VP.pickB true R h17 R) ?_
       exact J [_, _, _] _ R (congrArg VV.bool (Option.some.inj hm))
      ·have h17 := bf h17
       refine VR.skipG R R R R h17 <| VR.skipG R R R R h17 <| VR.skipG R R R R h17 <| VR.pG R R R R h16 (VP.pickB false R h17 R) ?_
       exact J [_, _, _] _ R (congrArg VV.bool (Option.some.inj hm))
     ·refine VR.p R R (VP.pickB false R h16 R) ?_
      exact J [_, _, _, _] _ R (congrArg VV.bool (Option.some.inj hm))
   ·refine VR.p R R (VP.move R) ?_
    obtain ⟨c4, h25, hm⟩ := bnd hm
    refine VR.sc 2 41 (.bool c4) (fun K' J => ?_) ?_
    ·have hm := h25
     rcases ite_or hm with ⟨h22, hm⟩ | ⟨h22, hm⟩
     ·obtain ⟨r8, h23, hm⟩ := bnd hm
      refine VR.consG R R R R h22 (VO.callK 0 R fn8 R (law02_known_ok r8 h23) fun _ _ h24 => ?_)
      obtain ⟨rfl, rfl⟩ := h24
      refine VR.p R R (VP.pickB true R h22 R) ?_
      exact J [_] _ R (congrArg VV.bool (Option.some.inj hm))
     ·have h22 := bf h22
      refine VR.skipG R R R R h22 <| VR.p R R (VP.pickB false R h22 R) ?_
      exact J [_] _ R (congrArg VV.bool (Option.some.inj hm))
    ·refine VR.p R R (VP.assign R) <| VR.nil ?_
     obtain rfl := Option.some.inj hm
     exact VW.ret ⟨.inl R, _, .cons (.tmp _ _ R) .nil, [], _, R, R, R⟩

/-! trireme/triremelaw02.TreeRight -/
def law02_TreeRight (s : ByteArray) : Option Bool :=
 if (decide ((s.size : Int) > (3000 : Int))) = true then
  (law02_known).bind fun r =>
  some r
 else
  (tree_Parse s).bind fun r2 =>
  if (r2.2.1 != (0 : Int)) = true then
   (if ((((r2.1.length : Int) == (0 : Int)) && (decide (r2.2.2 ≥ (0 : Int)))) && (decide (r2.2.2 ≤ (s.size : Int)))) = true then (law02_known).bind fun r3 =>
   some r3 else some false).bind fun c =>
   some c
  else
   (tree_Show r2.1).bind fun r4 =>
   (tree_Parse r4).bind fun r5 =>
   (tree_Check r2.1).bind fun r7 =>
   (if ((r7 == (0 : Int)) && (r5.2.1 == (0 : Int))) = true then (ref02_Same r2.1 r5.1 false).bind fun r8 =>
   some r8 else some false).bind fun c2 =>
   (if (c2 && (r2.2.2 == (0 : Int))) = true then (law02_known).bind fun r9 =>
   some r9 else some false).bind fun c3 =>
   some c3
theorem law02_TreeRight_ok (s : ByteArray) (r : Bool) (hm : law02_TreeRight s = some r) :
  VC Try.prog 5 [.str s] [] (fun zx zH => zx = .bool r ∧ zH = []) := by
 unfold law02_TreeRight at hm
 refine VC.run (c := _) (rs := [.tmp 2]) Try.func5 R R R <| VW.seq <| VW.region <| VR.p R R (VP.assign R) <| VR.nil <| VW.seq <| VW.seq <| VW.region <| VR.p R R (VP.move R) <| VR.p R R (VP.lenS R Try.underlying9) <| VR.p R R (VP.arith R R R) <| VR.nil ?_
 rcases ite_or hm with ⟨h1, hm⟩ | ⟨h1, hm⟩
 ·refine VW.condT R h1 <| VW.seq <| VW.region ?_
  obtain ⟨r, h2, hm⟩ := bnd hm
  refine VR.cons R R (VO.callK 0 R fn8 R (law02_known_ok r h2) fun _ _ h3 => ?_)
  obtain ⟨rfl, rfl⟩ := h3
  refine VR.p R R (VP.assign R) <| VR.nil ?_
  obtain rfl := Option.some.inj hm
  exact VW.ret ⟨.inl R, _, .cons (.tmp _ _ R) .nil, [], _, R, R, R⟩
 ·have h1 := bf h1
  refine VW.condF R h1 <| VW.skip <| VW.seq <| VW.region <| VR.p R R (VP.move R) ?_
  obtain ⟨r2, h4, hm⟩ := bnd hm
  refine VR.cons R R (VO.callK 0 R fn20 R (tree_Parse_ok s r2 h4) fun _ _ h33 => ?_)
  obtain ⟨ob, cap, rfl, rfl⟩ := h33
  refine VR.p R R (VP.move R) <| VR.p R R (VP.extract R R) <| VR.p R R (VP.extract R R) <| VR.p R R (VP.extract R R) <| VR.p R R (VP.assign R) <| VR.p R R (VP.assign R) <| VR.p R R (VP.assign R) <| VR.nil <| VW.seq <| VW.seq <| VW.region <| VR.p R R (VP.move R) <| VR.p R R (VP.arith R R R) <| VR.nil ?_
  rcases ite_or hm with ⟨h6, hm⟩ | ⟨h6, hm⟩
  ·refine VW.condT R h6 <| VW.seq <| VW.region <| VR.p R R (VP.move R) <| VR.p R R (VP.lenRT T_api_Node.vv R Try.underlying22) <| VR.p R R (VP.arith R R R) <| VR.p R R (VP.move R) ?_
   refine VR.sc 3 27 (.bool (((r2.1.length : Int) == (0 : Int)) && (decide (r2.2.2 ≥ (0 : Int))))) (fun K' J => ?_) ?_
   ·rcases Bool.eq_false_or_eq_true ((r2.1.length : Int) == (0 : Int)) with h7 | h7
    ·refine VR.pG R R R R h7 (VP.move R) <| VR.pG R R R R h7 (VP.arith R R R) <| VR.p R R (VP.pickB true R h7 R) ?_
     exact J [_, _] _ R (andT h7)
    ·refine VR.skipG R R R R h7 <| VR.skipG R R R R h7 <| VR.p R R (VP.pickB false R h7 R) ?_
     exact J [_, _] _ R (andF h7)
   ·refine VR.p R R (VP.move R) ?_
    refine VR.sc 5 33 (.bool ((((r2.1.length : Int) == (0 : Int)) && (decide (r2.2.2 ≥ (0 : Int)))) && (decide (r2.2.2 ≤ (s.size : Int))))) (fun K' J => ?_) ?_
    ·rcases Bool.eq_false_or_eq_true (((r2.1.length : Int) == (0 : Int)) && (decide (r2.2.2 ≥ (0 : Int)))) with h8 | h8
     ·refine VR.pG R R R R h8 (VP.move R) <| VR.pG R R R R h8 (VP.move R) <| VR.pG R R R R h8 (VP.lenS R Try.underlying9) <| VR.pG R R R R h8 (VP.arith R R R) <| VR.p R R (VP.pickB true R h8 R) ?_
      exact J [_, _, _, _] _ R (andT h8)
     ·refine VR.skipG R R R R h8 <| VR.skipG R R R R h8 <| VR.skipG R R R R h8 <| VR.skipG R R R R h8 <| VR.p R R (VP.pickB false R h8 R) ?_
      exact J [_, _, _, _] _ R (andF h8)
    ·refine VR.p R R (VP.move R) ?_
     obtain ⟨c, h12, hm⟩ := bnd hm
     refine VR.sc 2 36 (.bool c) (fun K' J => ?_) ?_
     ·have hm := h12
      rcases ite_or hm with ⟨h9, hm⟩ | ⟨h9, hm⟩
      ·obtain ⟨r3, h10, hm⟩ := bnd hm
       refine VR.consG R R R R h9 (VO.callK 0 R fn8 R (law02_known_ok r3 h10) fun _ _ h11 => ?_)
       obtain ⟨rfl, rfl⟩ := h11
       refine VR.p R R (VP.pickB true R h9 R) ?_
       exact J [_] _ R (congrArg VV.bool (Option.some.inj hm))
      ·have h9 := bf h9
       refine VR.skipG R R R R h9 <| VR.p R R (VP.pickB false R h9 R) ?_
       exact J [_] _ R (congrArg VV.bool (Option.some.inj hm))
     ·refine VR.p R R (VP.assign R) <| VR.nil ?_
      obtain rfl := Option.some.inj hm
      exact VW.ret ⟨.inl R, _, .cons (.tmp _ _ R) .nil, [], _, R, R, R⟩
  ·have h6 := bf h6
   refine VW.condF R h6 <| VW.skip <| VW.seq <| VW.region <| VR.p R R (VP.move R) <| VR.shift (Shift.freezeE 0 [(16, .list 40 (List.map T_api_Node.vv r2.1)), (3, .list 40 (List.map T_api_Node.vv r2.1)), (38, .list 40 (List.map T_api_Node.vv r2.1))] R ⟨⟨_, R, .here _ R⟩, ⟨_, R, .here _ R⟩, ⟨_, R, .here _ R⟩, trivial⟩ (FzH.refl _)) ?_
   obtain ⟨r4, h13, hm⟩ := bnd hm
   refine VR.cons R R (VO.callK 0 R fn11 R (tree_Show_ok r2.1 r4 h13) fun _ _ h32 => ?_)
   obtain ⟨rfl, rfl⟩ := h32
   obtain ⟨r5, h14, hm⟩ := bnd hm
   refine VR.cons R R (VO.callK 0 R fn20 R (tree_Parse_ok r4 r5 h14) fun _ _ h31 => ?_)
   obtain ⟨ob2, cap2, rfl, rfl⟩ := h31
   refine VR.p R R (VP.move R) <| VR.p R R (VP.extract R R) <| VR.p R R (VP.extract R R) <| VR.p R R (VP.extract R R) <| VR.p R R (VP.assign R) <| VR.p R R (VP.assign R) <| VR.p R R (VP.assign R) <| VR.nil <| VW.seq <| VW.shift (Shift.freezeE 0 [(41, .list 40 (List.map T_api_Node.vv r5.1)), (6, .list 40 (List.map T_api_Node.vv r5.1))] R ⟨⟨_, R, .here _ R⟩, ⟨_, R, .here _ R⟩, trivial⟩ (FzH.refl _)) <| VW.region <| VR.p R R (VP.move R) ?_
   obtain ⟨r7, h19, hm⟩ := bnd hm
   refine VR.cons R R (VO.callK 0 R fn9 R (tree_Check_ok r2.1 r7 h19) fun _ _ h30 => ?_)
   obtain ⟨rfl, rfl⟩ := h30
   refine VR.p R R (VP.arith R R R) <| VR.p R R (VP.move R) ?_
   refine VR.sc 3 50 (.bool ((r7 == (0 : Int)) && (r5.2.1 == (0 : Int)))) (fun K' J => ?_) ?_
   ·rcases Bool.eq_false_or_eq_true (r7 == (0 : Int)) with h20 | h20
    ·refine VR.pG R R R R h20 (VP.move R) <| VR.pG R R R R h20 (VP.arith R R R) <| VR.p R R (VP.pickB true R h20 R) ?_
     exact J [_, _] _ R (andT h20)
    ·refine VR.skipG R R R R h20 <| VR.skipG R R R R h20 <| VR.p R R (VP.pickB false R h20 R) ?_
     exact J [_, _] _ R (andF h20)
   ·refine VR.p R R (VP.move R) ?_
    obtain ⟨c2, h24, hm⟩ := bnd hm
    refine VR.sc 4 55 (.bool c2) (fun K' J => ?_) ?_
    ·have hm := h24
     rcases ite_or hm with ⟨h21, hm⟩ | ⟨h21, hm⟩
     ·refine VR.pG R R R R h21 (VP.move R) <| VR.pG R R R R h21 (VP.move R) ?_
      obtain ⟨r8, h22, hm⟩ := bnd hm
      refine VR.consG R R R R h21 (VO.callK 0 R fn21 R (ref02_Same_ok r2.1 r5.1 false r8 h22) fun _ _ h23 => ?_)
      obtain ⟨rfl, rfl⟩ := h23
      refine VR.p R R (VP.pickB true R h21 R) ?_
      exact J [_, _, _] _ R (congrArg VV.bool (Option.some.inj hm))
     ·have h21 := bf h21
      refine VR.skipG R R R R h21 <| VR.skipG R R R R h21 <| VR.skipG R R R R h21 <| VR.p R R (VP.pickB false R h21 R) ?_
      exact J [_, _, _] _ R (congrArg VV.bool (Option.some.inj hm))
    ·refine VR.p R R (VP.move R) ?_
     refine VR.sc 3 59 (.bool (c2 && (r2.2.2 == (0 : Int)))) (fun K' J => ?_) ?_
     ·rcases Bool.eq_false_or_eq_true c2 with h25 | h25
      ·refine VR.pG R R R R h25 (VP.move R) <| VR.pG R R R R h25 (VP.arith R R R) <| VR.p R R (VP.pickB true R h25 R) ?_
       exact J [_, _] _ R (andT h25)
      ·refine VR.skipG R R R R h25 <| VR.skipG R R R R h25 <| VR.p R R (VP.pickB false R h25 R) ?_
       exact J [_, _] _ R (andF h25)
     ·refine VR.p R R (VP.move R) ?_
      obtain ⟨c3, h29, hm⟩ := bnd hm
      refine VR.sc 2 62 (.bool c3) (fun K' J => ?_) ?_
      ·have hm := h29
       rcases ite_or hm with ⟨h26, hm⟩ | ⟨h26, hm⟩
       ·obtain ⟨r9, h27, hm⟩ := bnd hm
        refine VR.consG R R R R h26 (VO.callK 0 R fn8 R (law02_known_ok r9 h27) fun _ _ h28 => ?_)
        obtain ⟨rfl, rfl⟩ := h28
        refine VR.p R R (VP.pickB true R h26 R) ?_
        exact J [_] _ R (congrArg VV.bool (Option.some.inj hm))
       ·have h26 := bf h26
        refine VR.skipG R R R R h26 <| VR.p R R (VP.pickB false R h26 R) ?_
        exact J [_] _ R (congrArg VV.bool (Option.some.inj hm))
      ·refine VR.p R R (VP.assign R) <| VR.nil ?_
       obtain rfl := Option.some.inj hm
       exact VW.ret ⟨.inl R, _, .cons (.tmp _ _ R) .nil, [], _, R, R, R⟩

/-! trireme/triremelaw02.TreeJoins -/
def law02_TreeJoins (a : ByteArray) (b : ByteArray) : Option Bool :=
 if ((decide ((a.size : Int) > (1500 : Int))) || (decide ((b.size : Int) > (1500 : Int)))) = true then
  (law02_known).bind fun r =>
  some r
 else
  (tree_Parse a).bind fun r2 =>
  (tree_Parse b).bind fun r3 =>
  if ((r2.2.1 != (0 : Int)) || (r3.2.1 != (0 : Int))) = true then
   (law02_known).bind fun r4 =>
   some r4
  else
   (V.cat a (⟨#[10]⟩ : ByteArray)).bind fun v =>
   (V.cat v b).bind fun v2 =>
   (tree_Parse v2).bind fun r5 =>
   (V.ap 40 ([] : List T_api_Node) r2.1).bind fun l =>
   (V.ap 40 l r3.1).bind fun both =>
   (if (r5.2.1 == (0 : Int)) = true then (ref02_Same r5.1 both false).bind fun r12 =>
   some r12 else some false).bind fun c4 =>
   (if c4 = true then (tree_Tops r5.1).bind fun r13 =>
   (tree_Tops r2.1).bind fun r14 =>
   (tree_Tops r3.1).bind fun r15 =>
   some ((r13.length : Int) == (IntKind.i64.wrap ((r14.length : Int) + (r15.length : Int)))) else some false).bind fun c5 =>
   (if c5 = true then (law02_known).bind fun r16 =>
   some r16 else some false).bind fun c6 =>
   some c6
theorem law02_TreeJoins_ok (a : ByteArray) (b : ByteArray) (r : Bool) (hm : law02_TreeJoins a b = some r) :
  VC Try.prog 6 [.str a, .str b] [] (fun zx zH => zx = .bool r ∧ zH = []) := by
 unfold law02_TreeJoins at hm
 refine VC.run (c := _) (rs := [.tmp 4]) Try.func6 R R R <| VW.seq <| VW.region <| VR.p R R (VP.assign R) <| VR.nil <| VW.seq <| VW.seq <| VW.region <| VR.p R R (VP.move R) <| VR.p R R (VP.lenS R Try.underlying9) <| VR.p R R (VP.arith R R R) <| VR.p R R (VP.move R) ?_
 refine VR.sc 4 22 (.bool ((decide ((a.size : Int) > (1500 : Int))) || (decide ((b.size : Int) > (1500 : Int))))) (fun K' J => ?_) ?_
 ·rcases Bool.eq_false_or_eq_true (decide ((a.size : Int) > (1500 : Int))) with h1 | h1
  ·refine VR.skipG R R R R h1 <| VR.skipG R R R R h1 <| VR.skipG R R R R h1 <| VR.p R R (VP.pickB true R h1 R) ?_
   exact J [_, _, _] _ R (orT h1)
  ·refine VR.pG R R R R h1 (VP.move R) <| VR.pG R R R R h1 (VP.lenS R Try.underlying9) <| VR.pG R R R R h1 (VP.arith R R R) <| VR.p R R (VP.pickB false R h1 R) ?_
   exact J [_, _, _] _ R (orF h1)
 ·refine VR.nil ?_
  rcases ite_or hm with ⟨h2, hm⟩ | ⟨h2, hm⟩
  ·refine VW.condT R h2 <| VW.seq <| VW.region ?_
   obtain ⟨r, h3, hm⟩ := bnd hm
   refine VR.cons R R (VO.callK 0 R fn8 R (law02_known_ok r h3) fun _ _ h4 => ?_)
   obtain ⟨rfl, rfl⟩ := h4
   refine VR.p R R (VP.assign R) <| VR.nil ?_
   obtain rfl := Option.some.inj hm
   exact VW.ret ⟨.inl R, _, .cons (.tmp _ _ R) .nil, [], _, R, R, R⟩
  ·have h2 := bf h2
   refine VW.condF R h2 <| VW.skip <| VW.seq <| VW.region <| VR.p R R (VP.move R) ?_
   obtain ⟨r2, h5, hm⟩ := bnd hm
   refine VR.cons R R (VO.callK 0 R fn20 R (tree_Parse_ok a r2 h5) fun _ _ h56 => ?_)
   obtain ⟨ob, cap, rfl, rfl⟩ := h56
   refine VR.p R R (VP.move R) <| VR.p R R (VP.extract R R) <| VR.p R R (VP.extract R R) <| VR.p R R (VP.extract R R) <| VR.p R R (VP.assign R) <| VR.p R R (VP.assign R) <| VR.p R R (VP.assign R) <| VR.nil <| VW.seq <| VW.region <| VR.p R R (VP.move R) ?_
   obtain ⟨r3, h7, hm⟩ := bnd hm
   refine VR.cons R R (VO.callK 0 R fn20 R (tree_Parse_ok b r3 h7) fun _ _ h55 => ?_)
   obtain ⟨ob2, cap2, rfl, rfl⟩ := h55
   refine VR.p R R (VP.move R) <| VR.p R R (VP.extract R R) <| VR.p R R (VP.extract R R) <| VR.p R R (VP.extract R R) <| VR.p R R (VP.assign R) <| VR.p R R (VP.assign R) <| VR.p R R (VP.assign R) <| VR.nil <| VW.seq <| VW.seq <| VW.region <| VR.p R R (VP.move R) <| VR.p R R (VP.arith R R R) <| VR.p R R (VP.move R) ?_
   refine VR.sc 3 41 (.bool ((r2.2.1 != (0 : Int)) || (r3.2.1 != (0 : Int)))) (fun K' J => ?_) ?_
   ·rcases Bool.eq_false_or_eq_true (r2.2.1 != (0 : Int)) with h9 | h9
    ·refine VR.skipG R R R R h9 <| VR.skipG R R R R h9 <| VR.p R R (VP.pickB true R h9 R) ?_
     exact J [_, _] _ R (orT h9)
    ·refine VR.pG R R R R h9 (VP.move R) <| VR.pG R R R R h9 (VP.arith R R R) <| VR.p R R (VP.pickB false R h9 R) ?_
     exact J [_, _] _ R (orF h9)
   ·refine VR.nil ?_
    rcases ite_or hm with ⟨h10, hm⟩ | ⟨h10, hm⟩
    ·refine VW.condT R h10 <| VW.seq <| VW.region ?_
     obtain ⟨r4, h11, hm⟩ := bnd hm
     refine VR.cons R R (VO.callK 0 R fn8 R (law02_known_ok r4 h11) fun _ _ h12 => ?_)
     obtain ⟨rfl, rfl⟩ := h12
     refine VR.p R R (VP.assign R) <| VR.nil ?_
     obtain rfl := Option.some.inj hm
     exact VW.ret ⟨.inl R, _, .cons (.tmp _ _ R) .nil, [], _, R, R, R⟩
    ·have h10 := bf h10
     refine VW.condF R h10 <| VW.skip <| VW.seq <| VW.region <| VR.p R R (VP.move R) ?_
     obtain ⟨v, h13, hm⟩ := bnd hm
     refine VR.p R R (VP.catT R R h13) <| VR.p R R (VP.move R) ?_
     obtain ⟨v2, h14, hm⟩ := bnd hm
     refine VR.p R R (VP.catT R R h14) ?_
     obtain ⟨r5, h15, hm⟩ := bnd hm
     refine VR.cons R R (VO.callK 0 R fn20 R (tree_Parse_ok v2 r5 h15) fun _ _ h54 => ?_)
     obtain ⟨ob3, cap3, rfl, rfl⟩ := h54
     refine VR.p R R (VP.move R) <| VR.p R R (VP.extract R R) <| VR.p R R (VP.extract R R) <| VR.p R R (VP.extract R R) <| VR.p R R (VP.assign R) <| VR.p R R (VP.assign R) <| VR.p R R (VP.assign R) <| VR.nil <| VW.seq <| VW.region <| VR.p R R (VP.assign R) <| VR.nil <| VW.seq <| VW.region <| VR.p R R (VP.move R) <| VR.p R R (VP.move R) <| VR.shift (Shift.nilRow 40) ?_
     obtain ⟨l, h18, hm⟩ := bnd hm
     refine VR.cons R R (VO.apT 0 T_api_Node.vv (l := ([] : List T_api_Node)) (l2 := r2.1) ap22 R R (sT_row 3 T_api_Node.vv el22 R R) h18 fun ob4 cap4 => ?_)
     refine VR.p R R (VP.assign R) <| VR.nil <| VW.seq <| VW.region <| VR.p R R (VP.move R) <| VR.p R R (VP.move R) ?_
     obtain ⟨both, h19, hm⟩ := bnd hm
     refine VR.cons R R (VO.apT 0 T_api_Node.vv (l := l) (l2 := r3.1) ap22 R R (sT_row 2 T_api_Node.vv el22 R R) h19 fun ob5 cap5 => ?_)
     refine VR.p R R (VP.assign R) <| VR.nil <| VW.seq <| VW.shift (Shift.freezeE 1 [(49, .list 40 (List.map T_api_Node.vv r5.1)), (11, .list 40 (List.map T_api_Node.vv r5.1))] R ⟨⟨_, R, .here _ R⟩, ⟨_, R, .here _ R⟩, trivial⟩ (FzH.refl _)) <| VW.shift (Shift.freezeE 2 [(27, .list 40 (List.map T_api_Node.vv r2.1)), (5, .list 40 (List.map T_api_Node.vv r2.1)), (53, .list 40 (List.map T_api_Node.vv r2.1))] R ⟨⟨_, R, .here _ R⟩, ⟨_, R, .here _ R⟩, ⟨_, R, .here _ R⟩, trivial⟩ (FzH.refl _)) <| VW.shift (Shift.freezeE 1 [(33, .list 40 (List.map T_api_Node.vv r3.1)), (8, .list 40 (List.map T_api_Node.vv r3.1)), (56, .list 40 (List.map T_api_Node.vv r3.1))] R ⟨⟨_, R, .here _ R⟩, ⟨_, R, .here _ R⟩, ⟨_, R, .here _ R⟩, trivial⟩ (FzH.refl _)) <| VW.region <| VR.p R R (VP.move R) <| VR.p R R (VP.arith R R R) <| VR.p R R (VP.move R) ?_
     obtain ⟨c4, h41, hm⟩ := bnd hm
     refine VR.sc 4 64 (.bool c4) (fun K' J => ?_) ?_
     ·have hm := h41
      rcases ite_or hm with ⟨h38, hm⟩ | ⟨h38, hm⟩
      ·refine VR.pG R R R R h38 (VP.move R) <| VR.pG R R R R h38 (VP.move R) ?_
       obtain ⟨r12, h39, hm⟩ := bnd hm
       refine VR.consG R R R R h38 (VO.callL (Shift.freezeE 0 [(57, .list 40 (List.map T_api_Node.vv both)), (14, .list 40 (List.map T_api_Node.vv both)), (62, .list 40 (List.map T_api_Node.vv both))] R ⟨⟨_, R, .here _ R⟩, ⟨_, R, .here _ R⟩, ⟨_, R, .here _ R⟩, trivial⟩ (FzH.refl _)) [.same, .same, .same] R fn21 R (ref02_Same_ok r5.1 both false r12 h39) fun _ _ h40 => ?_)
       obtain ⟨rfl, rfl⟩ := h40
       refine ⟨R, R, ?_⟩
       refine VR.p R R (VP.pickB true R h38 R) ?_
       exact J [_, _, _] _ R (congrArg VV.bool (Option.some.inj hm))
      ·have h38 := bf h38
       refine VR.skipG R R R R h38 <| VR.skipG R R R R h38 <| VR.skipG R R R R h38 <| VR.p R R (VP.pickB false R h38 R) ?_
       exact J [_, _, _] _ R (congrArg VV.bool (Option.some.inj hm))
     ·refine VR.p R R (VP.move R) ?_
      obtain ⟨c5, h49, hm⟩ := bnd hm
      refine VR.sc 12 77 (.bool c5) (fun K' J => ?_) ?_
      ·have hm := h49
       rcases ite_or hm with ⟨h42, hm⟩ | ⟨h42, hm⟩
       ·refine VR.pG R R R R h42 (VP.move R) ?_
        obtain ⟨r13, h43, hm⟩ := bnd hm
        refine VR.consG R R R R h42 (VO.callK 0 R fn18 R (tree_Tops_ok r5.1 r13 h43) fun _ _ h48 => ?_)
        obtain ⟨rfl, rfl⟩ := h48
        refine VR.pG R R R R h42 (VP.lenT (VV.int .i64) R Try.underlying30) <| VR.pG R R R R h42 (VP.move R) ?_
        obtain ⟨r14, h44, hm⟩ := bnd hm
        refine VR.consG R R R R h42 (VO.callK 0 R fn18 R (tree_Tops_ok r2.1 r14 h44) fun _ _ h47 => ?_)
        obtain ⟨rfl, rfl⟩ := h47
        refine VR.pG R R R R h42 (VP.lenT (VV.int .i64) R Try.underlying30) <| VR.pG R R R R h42 (VP.move R) ?_
        obtain ⟨r15, h45, hm⟩ := bnd hm
        refine VR.consG R R R R h42 (VO.callK 0 R fn18 R (tree_Tops_ok r3.1 r15 h45) fun _ _ h46 => ?_)
        obtain ⟨rfl, rfl⟩ := h46
        refine VR.pG R R R R h42 (VP.lenT (VV.int .i64) R Try.underlying30) <| VR.pG R R R R h42 (VP.arith R R R) <| VR.pG R R R R h42 (VP.arith R R R) <| VR.p R R (VP.pickB true R h42 R) ?_
        exact J [_, _, _, _, _, _, _, _, _, _, _] _ R (congrArg VV.bool (Option.some.inj hm))
       ·have h42 := bf h42
        refine VR.skipG R R R R h42 <| VR.skipG R R R R h42 <| VR.skipG R R R R h42 <| VR.skipG R R R R h42 <| VR.skipG R R R R h42 <| VR.skipG R R R R h42 <| VR.skipG R R R R h42 <| VR.skipG R R R R h42 <| VR.skipG R R R R h42 <| VR.skipG R R R R h42 <| VR.skipG R R R R h42 <| VR.p R R (VP.pickB false R h42 R) ?_
        exact J [_, _, _, _, _, _, _, _, _, _, _] _ R (congrArg VV.bool (Option.some.inj hm))
      ·refine VR.p R R (VP.move R) ?_
       obtain ⟨c6, h53, hm⟩ := bnd hm
       refine VR.sc 2 80 (.bool c6) (fun K' J => ?_) ?_
       ·have hm := h53
        rcases ite_or hm with ⟨h50, hm⟩ | ⟨h50, hm⟩
        ·obtain ⟨r16, h51, hm⟩ := bnd hm
         refine VR.consG R R R R h50 (VO.callK 0 R fn8 R (law02_known_ok r16 h51) fun _ _ h52 => ?_)
         obtain ⟨rfl, rfl⟩ := h52
         refine VR.p R R (VP.pickB true R h50 R) ?_
         exact J [_] _ R (congrArg VV.bool (Option.some.inj hm))
        ·have h50 := bf h50
         refine VR.skipG R R R R h50 <| VR.p R R (VP.pickB false R h50 R) ?_
         exact J [_] _ R (congrArg VV.bool (Option.some.inj hm))
       ·refine VR.p R R (VP.assign R) <| VR.nil ?_
        obtain rfl := Option.some.inj hm
        exact VW.ret ⟨.inl R, _, .cons (.tmp _ _ R) .nil, [], _, R, R, R⟩

end Go.Proofs.Ytbnohlgchjcjhaa.M

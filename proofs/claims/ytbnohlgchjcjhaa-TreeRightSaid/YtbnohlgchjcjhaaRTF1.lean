/-
  Printed by a program of this session out of the loaded functions: models and their proofs. Own text.
-/
import Derived.Test.YtbnohlgchjcjhaaRTF0
namespace Go.Proofs.Ytbnohlgchjcjhaa.M
open Go Go.Proofs Go.Proofs.Ytbnohlgchjcjhaa.V
set_option linter.unusedVariables false
set_option maxRecDepth 20000
set_option maxHeartbeats 4000000
/-! trireme/tree.Show$1 -/
def tree_Show_1 (i : Int) (a : ByteArray) (a2 : List T_api_Node) : Option ByteArray :=
 (tree_one FU a2 i).bind fun r =>
 (V.cat r (⟨#[10]⟩ : ByteArray)).bind fun v =>
 (V.cat a v).bind fun v2 =>
 some v2
theorem tree_Show_1_ok (i : Int) (a : ByteArray) (a2 : List T_api_Node) (b : Nat) (b2 : Nat) (r : ByteArray) (hm : tree_Show_1 i a a2 = some r) :
  VC Try.prog 28 [.int .i64 i, .ptr b 0, .ptr b2 0] [.box b 9 [.str a], .box b2 22 [.list 40 (List.map T_api_Node.vv a2)]] (fun zx zH => zx = .tup [] ∧ zH = [.box b 9 [.str r], .box b2 22 [.list 40 (List.map T_api_Node.vv a2)]]) := by
 unfold tree_Show_1 at hm
 refine VC.run (c := _) (rs := []) Try.func28 R R R <| VW.drawK 1 mixed <| VA.p 1 R R R (by kernel_rfl) (VP.loadP (i := 0) R R ld22 R) <| VA.p 2 R R R (by kernel_rfl) (VP.move R) ?_
 refine VA.all [0, 3] (by kernel_rfl) ⟨?_, ?_, trivial⟩
 ·refine VB.o R R R (VP.vo (VP.loadP (i := 0) R R ld9 R) ?_)
  refine VA.all [3] (by kernel_rfl) ⟨?_, trivial⟩
  obtain ⟨r, h1, hm⟩ := bnd hm
  refine VB.o R R R (VO.callK 0 R fn29 R (tree_one_ok FU a2 i r h1) fun _ _ h4 => ?_)
  obtain ⟨rfl, rfl⟩ := h4
  obtain ⟨v, h2, hm⟩ := bnd hm
  refine VA.p 4 R R R (by kernel_rfl) (VP.catT R R h2) ?_
  obtain ⟨v2, h3, hm⟩ := bnd hm
  refine VA.p 5 R R R (by kernel_rfl) (VP.catT R R h3) ?_
  refine VA.all [6] (by kernel_rfl) ⟨?_, trivial⟩
  refine VB.o R R R (VO.storeP (i := 0) R R R ld9 R R R ?_)
  refine VA.done (by kernel_rfl) ?_
  obtain rfl := Option.some.inj hm
  exact ⟨.inr R, _, .nil, [0, 0], _, R, R, R⟩
 ·obtain ⟨r2, h5, hm⟩ := bnd hm
  refine VB.o R R R (VO.callK 0 R fn29 R (tree_one_ok FU a2 i r2 h5) fun _ _ h8 => ?_)
  obtain ⟨rfl, rfl⟩ := h8
  obtain ⟨v3, h6, hm⟩ := bnd hm
  refine VA.p 4 R R R (by kernel_rfl) (VP.catT R R h6) ?_
  refine VA.all [0] (by kernel_rfl) ⟨?_, trivial⟩
  refine VB.o R R R (VP.vo (VP.loadP (i := 0) R R ld9 R) ?_)
  obtain ⟨v4, h7, hm⟩ := bnd hm
  refine VA.p 5 R R R (by kernel_rfl) (VP.catT R R h7) ?_
  refine VA.all [6] (by kernel_rfl) ⟨?_, trivial⟩
  refine VB.o R R R (VO.storeP (i := 0) R R R ld9 R R R ?_)
  refine VA.done (by kernel_rfl) ?_
  obtain rfl := Option.some.inj hm
  exact ⟨.inr R, _, .nil, [0, 0], _, R, R, R⟩

/-! trireme/tree.walk -/
def tree_walk_tree_Show_1.l1 (l : List T_api_Node) (to : Int) (c2 : List T_api_Node) : Nat → Int → ByteArray → Option (Out (Bool × ByteArray) ByteArray)
 | 0, _, _ => none
 | n + 1, from_3, do_2 =>
  if (decide (from_3 < to)) = true then
   (tree_End l from_3).bind fun r =>
   if (decide (r < (0 : Int))) = true then
    some (Out.ret (false, do_2))
   else
    (tree_Show_1 from_3 do_2 c2).bind fun r2 =>
    tree_walk_tree_Show_1.l1 l to c2 n r r2
  else
   some (Out.go do_2)
def tree_walk_tree_Show_1 (l : List T_api_Node) (from_ : Int) (to : Int) (c : ByteArray) (c2 : List T_api_Node) : Option (Bool × ByteArray) :=
 (tree_walk_tree_Show_1.l1 l to c2 FU from_ c).bind fun o =>
 o.on fun v2 =>
 some (true, v2)
theorem tree_walk_tree_Show_1_ok (l : List T_api_Node) (from_ : Int) (to : Int) (c : ByteArray) (c2 : List T_api_Node) (b : Nat) (b2 : Nat) (r : Bool × ByteArray) (hm : tree_walk_tree_Show_1 l from_ to c c2 = some r) :
  VC Try.prog 22 [.list 40 (List.map T_api_Node.vv l), .int .i64 from_, .int .i64 to, .clo (.func 28) [] [.ptr b 0, .ptr b2 0]] [.box b 9 [.str c], .box b2 22 [.list 40 (List.map T_api_Node.vv c2)]] (fun zx zH => zx = .bool r.1 ∧ zH = [.box b 9 [.str r.2], .box b2 22 [.list 40 (List.map T_api_Node.vv c2)]]) := by
 unfold tree_walk_tree_Show_1 at hm
 refine VC.run (c := _) (rs := [.tmp 8]) Try.func22 R R R <| VW.seq <| VW.region <| VR.p R R (VP.assign R) <| VR.nil ?_
 obtain ⟨o, h1, h2⟩ := bnd hm
 refine VW.join (fun (q : ByteArray) => o = Out.go q) (fun (v2 : ByteArray) (gg : Unit) => []) (fun (v2 : ByteArray) (gg : Unit) => [.box b 9 [.str v2], .box b2 22 [.list 40 (List.map T_api_Node.vv c2)]]) ?_ ?_
 ·have hm := h1
  refine VW.block (VW.loop FU ?_)
  refine VL.fuelS (R := _) (fun zn (zs : Int × ByteArray) => tree_walk_tree_Show_1.l1 l to c2 zn zs.1 zs.2) (fun (zs : Int × ByteArray) (zg : Unit) => [(0, .list 40 (List.map T_api_Node.vv l)), (1, .int .i64 zs.1), (2, .int .i64 to), (3, .clo (.func 28) [] [.ptr b 0, .ptr b2 0])]) (fun (zs : Int × ByteArray) (zg : Unit) => [.box b 9 [.str zs.2], .box b2 22 [.list 40 (List.map T_api_Node.vv c2)]]) (from_, c) () (fun zs => R) (Shift.pick [0, 0] R ⟨R, R, R, R, trivial⟩) h1 ?_
  rintro n ⟨from_3, do_2⟩ _ hm
  rw [tree_walk_tree_Show_1.l1] at hm
  refine VW.seq <| VW.seq <| VW.region <| VR.p R R (VP.move R) <| VR.p R R (VP.move R) <| VR.p R R (VP.arith R R R) <| VR.nil ?_
  rcases ite_or hm with ⟨h3, hm⟩ | ⟨h3, hm⟩
  ·refine VW.condT R h3 <| VW.skip <| VW.block <| VW.seq <| VW.region <| VR.p R R (VP.move R) <| VR.p R R (VP.move R) ?_
   obtain ⟨r, h4, hm⟩ := bnd hm
   refine VR.cons R R (VO.callK 0 R fn13 R (tree_End_ok l from_3 r h4) fun _ _ h8 => ?_)
   obtain ⟨rfl, rfl⟩ := h8
   refine VR.p R R (VP.assign R) <| VR.nil <| VW.seq <| VW.seq <| VW.region <| VR.p R R (VP.move R) <| VR.p R R (VP.arith R R R) <| VR.nil ?_
   rcases ite_or hm with ⟨h5, hm⟩ | ⟨h5, hm⟩
   ·refine VW.condT R h5 <| VW.seq <| VW.region <| VR.p R R (VP.assign R) <| VR.nil ?_
    obtain rfl := Option.some.inj hm
    have hm := Out.ret_on h2
    obtain rfl := Option.some.inj hm
    exact VW.ret ⟨.inl R, _, .cons (.tmp _ _ R) .nil, [0, 0], _, R, R, R⟩
   ·have h5 := bf h5
    refine VW.condF R h5 <| VW.skip <| VW.seq <| VW.region <| VR.p R R (VP.move R) <| VR.p R R (VP.move R) ?_
    obtain ⟨r2, h6, hm⟩ := bnd hm
    refine VR.cons R R (VO.callK 2 R fn28 R (tree_Show_1_ok from_3 do_2 c2 b b2 r2 h6) fun _ _ h7 => ?_)
    obtain ⟨rfl, rfl⟩ := h7
    refine VR.nil <| VW.region <| VR.p R R (VP.move R) <| VR.p R R (VP.assign R) <| VR.nil ?_
    exact ⟨(r, r2), (), hm, (Shift.pick [0, 0] R ⟨R, R, R, R, trivial⟩)⟩
  ·have h3 := bf h3
   refine VW.condF R h3 <| VW.exit ?_
   exact ⟨do_2, (), (Option.some.inj hm).symm, (Shift.pick [0, 0] R trivial)⟩
 ·rintro v2 _ rfl
  have hm := Out.go_on h2
  refine VW.seq <| VW.region <| VR.p R R (VP.assign R) <| VR.nil ?_
  obtain rfl := Option.some.inj hm
  exact VW.ret ⟨.inl R, _, .cons (.tmp _ _ R) .nil, [0, 0], _, R, R, R⟩

/-! trireme/tree.Show -/
def tree_Show (l : List T_api_Node) : Option ByteArray :=
 (tree_Check l).bind fun r =>
 if (r != (0 : Int)) = true then
  some (⟨#[]⟩ : ByteArray)
 else
  (tree_walk_tree_Show_1 l (0 : Int) (l.length : Int) (⟨#[]⟩ : ByteArray) l).bind fun r2 =>
  some r2.2
theorem tree_Show_ok (l : List T_api_Node) (r : ByteArray) (hm : tree_Show l = some r) :
  VC Try.prog 11 [.list 40 (List.map T_api_Node.vv l)] [] (fun zx zH => zx = .str r ∧ zH = []) := by
 unfold tree_Show at hm
 refine VC.run (c := _) (rs := [.tmp 2]) Try.func11 R R R <| VW.seq <| VW.region ?_
 refine VR.cons R R (VO.box R R fun b => ?_)
 refine VR.p R R (VP.assign R) <| VR.nil <| VW.seq <| VW.seq <| VW.region <| VR.p R R (VP.loadP (i := 0) R R ld22 R) ?_
 obtain ⟨r, h2, hm⟩ := bnd hm
 refine VR.cons R R (VO.callK 0 R fn9 R (tree_Check_ok l r h2) fun _ _ h7 => ?_)
 obtain ⟨rfl, rfl⟩ := h7
 refine VR.p R R (VP.arith R R R) <| VR.nil ?_
 rcases ite_or hm with ⟨h3, hm⟩ | ⟨h3, hm⟩
 ·refine VW.condT R h3 <| VW.seq <| VW.region <| VR.p R R (VP.assign R) <| VR.nil ?_
  obtain rfl := Option.some.inj hm
  exact VW.ret ⟨.inl R, _, .cons (.tmp _ _ R) .nil, [], _, R, R, R⟩
 ·have h3 := bf h3
  refine VW.condF R h3 <| VW.skip <| VW.seq <| VW.region ?_
  refine VR.cons R R (VO.alloc z9 fun b2 => ?_)
  refine VR.cons R R (VO.storeP (i := 0) R R R ld9 R R R ?_)
  refine VR.nil <| VW.seq <| VW.region <| VR.p R R (VP.loadP (i := 1) R R ld22 R) <| VR.p R R (VP.loadP (i := 1) R R ld22 R) <| VR.p R R (VP.lenT T_api_Node.vv R Try.underlying22) <| VR.p R R (VP.makeFunc R R) ?_
  obtain ⟨r2, h5, hm⟩ := bnd hm
  refine VR.cons R R (VO.callK 2 R fn22 R (tree_walk_tree_Show_1_ok l (0 : Int) (l.length : Int) (⟨#[]⟩ : ByteArray) l b2 b r2 h5) fun _ _ h6 => ?_)
  obtain ⟨rfl, rfl⟩ := h6
  refine VR.nil <| VW.seq <| VW.region <| VR.p R R (VP.loadP (i := 0) R R ld9 R) <| VR.p R R (VP.assign R) <| VR.nil ?_
  obtain rfl := Option.some.inj hm
  exact VW.ret ⟨.inl R, _, .cons (.tmp _ _ R) .nil, [], _, R, R, R⟩

/-! trireme/triremelaw02.known -/
def law02_known : Option Bool :=
 (tree_Parse (⟨#[40, 97, 32, 40, 98, 41, 32, 34, 99, 34, 41, 32, 100]⟩ : ByteArray)).bind fun r =>
 (tree_Parse (⟨#[40, 97]⟩ : ByteArray)).bind fun r2 =>
 (tree_Parse (⟨#[97, 41]⟩ : ByteArray)).bind fun r3 =>
 (if ((r.2.1 == (0 : Int)) && ((r.1.length : Int) == (6 : Int))) = true then (V.gl r.1 (0 : Int)).bind fun x2 =>
 some (x2.Kids == (3 : Int)) else some false).bind fun c2 =>
 (if c2 = true then (tree_End r.1 (0 : Int)).bind fun r4 =>
 some (r4 == (5 : Int)) else some false).bind fun c3 =>
 (if c3 = true then (tree_Kids r.1 (0 : Int)).bind fun r5 =>
 (ref02_Ints r5 [(1 : Int), (2 : Int), (4 : Int)]).bind fun r6 =>
 some r6 else some false).bind fun c4 =>
 (if c4 = true then (tree_Tops r.1).bind fun r7 =>
 (ref02_Ints r7 [(0 : Int), (5 : Int)]).bind fun r8 =>
 some r8 else some false).bind fun c5 =>
 (if ((((c5 && (r2.2.1 == (5 : Int))) && (r2.2.2 == (0 : Int))) && (r3.2.1 == (6 : Int))) && (r3.2.2 == (1 : Int))) = true then (tree_Show r.1).bind fun r9 =>
 some (V.seq r9 (⟨#[40, 97, 32, 40, 98, 41, 32, 34, 99, 34, 41, 10, 100, 10]⟩ : ByteArray)) else some false).bind fun c6 =>
 (if c6 = true then (tree_Check r.1).bind fun r10 =>
 some (r10 == (0 : Int)) else some false).bind fun c7 =>
 some c7
theorem law02_known_ok (r : Bool) (hm : law02_known = some r) :
  VC Try.prog 8 [] [] (fun zx zH => zx = .bool r ∧ zH = []) := by
 unfold law02_known at hm
 refine VC.run (c := _) (rs := [.tmp 0]) Try.func8 R R R <| VW.seq <| VW.region <| VR.p R R (VP.assign R) <| VR.nil <| VW.seq <| VW.region ?_
 obtain ⟨r, h1, hm⟩ := bnd hm
 refine VR.cons R R (VO.callK 0 R fn20 R (tree_Parse_ok (⟨#[40, 97, 32, 40, 98, 41, 32, 34, 99, 34, 41, 32, 100]⟩ : ByteArray) r h1) fun _ _ h49 => ?_)
 obtain ⟨ob, cap, rfl, rfl⟩ := h49
 refine VR.p R R (VP.move R) <| VR.p R R (VP.extract R R) <| VR.p R R (VP.extract R R) <| VR.p R R (VP.extract R R) <| VR.p R R (VP.assign R) <| VR.p R R (VP.assign R) <| VR.p R R (VP.assign R) <| VR.nil <| VW.seq <| VW.region ?_
 obtain ⟨r2, h3, hm⟩ := bnd hm
 refine VR.cons R R (VO.callK 0 R fn20 R (tree_Parse_ok (⟨#[40, 97]⟩ : ByteArray) r2 h3) fun _ _ h48 => ?_)
 obtain ⟨ob2, cap2, rfl, rfl⟩ := h48
 refine VR.p R R (VP.move R) <| VR.p R R (VP.extract R R) <| VR.p R R (VP.extract R R) <| VR.p R R (VP.extract R R) <| VR.p R R (VP.assign R) <| VR.p R R (VP.assign R) <| VR.p R R (VP.assign R) <| VR.nil <| VW.seq <| VW.region ?_
 obtain ⟨r3, h5, hm⟩ := bnd hm
 refine VR.cons R R (VO.callK 0 R fn20 R (tree_Parse_ok (⟨#[97, 41]⟩ : ByteArray) r3 h5) fun _ _ h47 => ?_)
 obtain ⟨ob3, cap3, rfl, rfl⟩ := h47
 refine VR.p R R (VP.move R) <| VR.p R R (VP.extract R R) <| VR.p R R (VP.extract R R) <| VR.p R R (VP.extract R R) <| VR.p R R (VP.assign R) <| VR.p R R (VP.assign R) <| VR.p R R (VP.assign R) <| VR.nil <| VW.seq <| VW.shift (Shift.freezeE 2 [(12, .list 40 (List.map T_api_Node.vv r.1)), (1, .list 40 (List.map T_api_Node.vv r.1))] R ⟨⟨_, R, .here _ R⟩, ⟨_, R, .here _ R⟩, trivial⟩ (FzH.refl _)) <| VW.region <| VR.p R R (VP.move R) <| VR.p R R (VP.arith R R R) <| VR.p R R (VP.move R) ?_
 refine VR.sc 4 31 (.bool ((r.2.1 == (0 : Int)) && ((r.1.length : Int) == (6 : Int)))) (fun K' J => ?_) ?_
 ·rcases Bool.eq_false_or_eq_true (r.2.1 == (0 : Int)) with h13 | h13
  ·refine VR.pG R R R R h13 (VP.move R) <| VR.pG R R R R h13 (VP.lenT T_api_Node.vv R Try.underlying22) <| VR.pG R R R R h13 (VP.arith R R R) <| VR.p R R (VP.pickB true R h13 R) ?_
   exact J [_, _, _] _ R (andT h13)
  ·refine VR.skipG R R R R h13 <| VR.skipG R R R R h13 <| VR.skipG R R R R h13 <| VR.p R R (VP.pickB false R h13 R) ?_
   exact J [_, _, _] _ R (andF h13)
 ·refine VR.p R R (VP.move R) ?_
  obtain ⟨c2, h16, hm⟩ := bnd hm
  refine VR.sc 6 38 (.bool c2) (fun K' J => ?_) ?_
  ·have hm := h16
   rcases ite_or hm with ⟨h14, hm⟩ | ⟨h14, hm⟩
   ·refine VR.pG R R R R h14 (VP.move R) ?_
    obtain ⟨x2, h15, hm⟩ := bnd hm
    refine VR.pG R R R R h14 (VP.glE T_api_Node.vv R R el22 h15) <| VR.pG R R R R h14 (VP.fieldE R fa40_2) <| VR.pG R R R R h14 (VP.loadE R ld3 R) <| VR.pG R R R R h14 (VP.arith R R R) <| VR.p R R (VP.pickB true R h14 R) ?_
    exact J [_, _, _, _, _] _ R (congrArg VV.bool (Option.some.inj hm))
   ·have h14 := bf h14
    refine VR.skipG R R R R h14 <| VR.skipG R R R R h14 <| VR.skipG R R R R h14 <| VR.skipG R R R R h14 <| VR.skipG R R R R h14 <| VR.p R R (VP.pickB false R h14 R) ?_
    exact J [_, _, _, _, _] _ R (congrArg VV.bool (Option.some.inj hm))
  ·refine VR.p R R (VP.move R) ?_
   obtain ⟨c3, h20, hm⟩ := bnd hm
   refine VR.sc 4 43 (.bool c3) (fun K' J => ?_) ?_
   ·have hm := h20
    rcases ite_or hm with ⟨h17, hm⟩ | ⟨h17, hm⟩
    ·refine VR.pG R R R R h17 (VP.move R) ?_
     obtain ⟨r4, h18, hm⟩ := bnd hm
     refine VR.consG R R R R h17 (VO.callK 0 R fn13 R (tree_End_ok r.1 (0 : Int) r4 h18) fun _ _ h19 => ?_)
     obtain ⟨rfl, rfl⟩ := h19
     refine VR.pG R R R R h17 (VP.arith R R R) <| VR.p R R (VP.pickB true R h17 R) ?_
     exact J [_, _, _] _ R (congrArg VV.bool (Option.some.inj hm))
    ·have h17 := bf h17
     refine VR.skipG R R R R h17 <| VR.skipG R R R R h17 <| VR.skipG R R R R h17 <| VR.p R R (VP.pickB false R h17 R) ?_
     exact J [_, _, _] _ R (congrArg VV.bool (Option.some.inj hm))
   ·refine VR.p R R (VP.move R) ?_
    obtain ⟨c4, h27, hm⟩ := bnd hm
    refine VR.sc 5 49 (.bool c4) (fun K' J => ?_) ?_
    ·have hm := h27
     rcases ite_or hm with ⟨h21, hm⟩ | ⟨h21, hm⟩
     ·refine VR.pG R R R R h21 (VP.move R) ?_
      obtain ⟨r5, h22, hm⟩ := bnd hm
      refine VR.consG R R R R h21 (VO.callK 0 R fn16 R (tree_Kids_ok r.1 (0 : Int) r5 h22) fun _ _ h26 => ?_)
      obtain ⟨rfl, rfl⟩ := h26
      refine VR.consG R R R R h21 (VO.buildSlice ap30 R R R R R fun b2 => ?_)
      refine VR.shift (Shift.freezeE 0 [(47, .list 3 (List.map (VV.int .i64) [(1 : Int), (2 : Int), (4 : Int)]))] R ⟨⟨_, R, .here _ R⟩, trivial⟩ (FzH.refl _)) ?_
      obtain ⟨r6, h24, hm⟩ := bnd hm
      refine VR.consG R R R R h21 (VO.callK 0 R fn15 R (ref02_Ints_ok r5 [(1 : Int), (2 : Int), (4 : Int)] r6 h24) fun _ _ h25 => ?_)
      obtain ⟨rfl, rfl⟩ := h25
      refine VR.p R R (VP.pickB true R h21 R) ?_
      exact J [_, _, _, _, _] _ R (congrArg VV.bool (Option.some.inj hm))
     ·have h21 := bf h21
      refine VR.skipG R R R R h21 <| VR.skipG R R R R h21 <| VR.skipG R R R R h21 <| VR.skipG R R R R h21 <| VR.p R R (VP.pickB false R h21 R) ?_
      exact J [_, _, _, _] _ R (congrArg VV.bool (Option.some.inj hm))
    ·refine VR.p R R (VP.move R) ?_
     obtain ⟨c5, h34, hm⟩ := bnd hm
     refine VR.sc 5 55 (.bool c5) (fun K' J => ?_) ?_
     ·have hm := h34
      rcases ite_or hm with ⟨h28, hm⟩ | ⟨h28, hm⟩
      ·refine VR.pG R R R R h28 (VP.move R) ?_
       obtain ⟨r7, h29, hm⟩ := bnd hm
       refine VR.consG R R R R h28 (VO.callK 0 R fn18 R (tree_Tops_ok r.1 r7 h29) fun _ _ h33 => ?_)
       obtain ⟨rfl, rfl⟩ := h33
       refine VR.consG R R R R h28 (VO.buildSlice ap30 R R R R R fun b3 => ?_)
       refine VR.shift (Shift.freezeE 0 [(53, .list 3 (List.map (VV.int .i64) [(0 : Int), (5 : Int)]))] R ⟨⟨_, R, .here _ R⟩, trivial⟩ (FzH.refl _)) ?_
       obtain ⟨r8, h31, hm⟩ := bnd hm
       refine VR.consG R R R R h28 (VO.callK 0 R fn15 R (ref02_Ints_ok r7 [(0 : Int), (5 : Int)] r8 h31) fun _ _ h32 => ?_)
       obtain ⟨rfl, rfl⟩ := h32
       refine VR.p R R (VP.pickB true R h28 R) ?_
       exact J [_, _, _, _, _] _ R (congrArg VV.bool (Option.some.inj hm))
      ·have h28 := bf h28
       refine VR.skipG R R R R h28 <| VR.skipG R R R R h28 <| VR.skipG R R R R h28 <| VR.skipG R R R R h28 <| VR.p R R (VP.pickB false R h28 R) ?_
       exact J [_, _, _, _] _ R (congrArg VV.bool (Option.some.inj hm))
     ·refine VR.p R R (VP.move R) ?_
      refine VR.sc 3 59 (.bool (c5 && (r2.2.1 == (5 : Int)))) (fun K' J => ?_) ?_
      ·rcases Bool.eq_false_or_eq_true c5 with h35 | h35
       ·refine VR.pG R R R R h35 (VP.move R) <| VR.pG R R R R h35 (VP.arith R R R) <| VR.p R R (VP.pickB true R h35 R) ?_
        exact J [_, _] _ R (andT h35)
       ·refine VR.skipG R R R R h35 <| VR.skipG R R R R h35 <| VR.p R R (VP.pickB false R h35 R) ?_
        exact J [_, _] _ R (andF h35)
      ·refine VR.p R R (VP.move R) ?_
       refine VR.sc 3 63 (.bool ((c5 && (r2.2.1 == (5 : Int))) && (r2.2.2 == (0 : Int)))) (fun K' J => ?_) ?_
       ·rcases Bool.eq_false_or_eq_true (c5 && (r2.2.1 == (5 : Int))) with h36 | h36
        ·refine VR.pG R R R R h36 (VP.move R) <| VR.pG R R R R h36 (VP.arith R R R) <| VR.p R R (VP.pickB true R h36 R) ?_
         exact J [_, _] _ R (andT h36)
        ·refine VR.skipG R R R R h36 <| VR.skipG R R R R h36 <| VR.p R R (VP.pickB false R h36 R) ?_
         exact J [_, _] _ R (andF h36)
       ·refine VR.p R R (VP.move R) ?_
        refine VR.sc 3 67 (.bool (((c5 && (r2.2.1 == (5 : Int))) && (r2.2.2 == (0 : Int))) && (r3.2.1 == (6 : Int)))) (fun K' J => ?_) ?_
        ·rcases Bool.eq_false_or_eq_true ((c5 && (r2.2.1 == (5 : Int))) && (r2.2.2 == (0 : Int))) with h37 | h37
         ·refine VR.pG R R R R h37 (VP.move R) <| VR.pG R R R R h37 (VP.arith R R R) <| VR.p R R (VP.pickB true R h37 R) ?_
          exact J [_, _] _ R (andT h37)
         ·refine VR.skipG R R R R h37 <| VR.skipG R R R R h37 <| VR.p R R (VP.pickB false R h37 R) ?_
          exact J [_, _] _ R (andF h37)
        ·refine VR.p R R (VP.move R) ?_
         refine VR.sc 3 71 (.bool ((((c5 && (r2.2.1 == (5 : Int))) && (r2.2.2 == (0 : Int))) && (r3.2.1 == (6 : Int))) && (r3.2.2 == (1 : Int)))) (fun K' J => ?_) ?_
         ·rcases Bool.eq_false_or_eq_true (((c5 && (r2.2.1 == (5 : Int))) && (r2.2.2 == (0 : Int))) && (r3.2.1 == (6 : Int))) with h38 | h38
          ·refine VR.pG R R R R h38 (VP.move R) <| VR.pG R R R R h38 (VP.arith R R R) <| VR.p R R (VP.pickB true R h38 R) ?_
           exact J [_, _] _ R (andT h38)
          ·refine VR.skipG R R R R h38 <| VR.skipG R R R R h38 <| VR.p R R (VP.pickB false R h38 R) ?_
           exact J [_, _] _ R (andF h38)
         ·refine VR.p R R (VP.move R) ?_
          obtain ⟨c6, h42, hm⟩ := bnd hm
          refine VR.sc 4 76 (.bool c6) (fun K' J => ?_) ?_
          ·have hm := h42
           rcases ite_or hm with ⟨h39, hm⟩ | ⟨h39, hm⟩
           ·refine VR.pG R R R R h39 (VP.move R) ?_
            obtain ⟨r9, h40, hm⟩ := bnd hm
            refine VR.consG R R R R h39 (VO.callK 0 R fn11 R (tree_Show_ok r.1 r9 h40) fun _ _ h41 => ?_)
            obtain ⟨rfl, rfl⟩ := h41
            refine VR.pG R R R R h39 (VP.strop R R R) <| VR.p R R (VP.pickB true R h39 R) ?_
            exact J [_, _, _] _ R (congrArg VV.bool (Option.some.inj hm))
           ·have h39 := bf h39
            refine VR.skipG R R R R h39 <| VR.skipG R R R R h39 <| VR.skipG R R R R h39 <| VR.p R R (VP.pickB false R h39 R) ?_
            exact J [_, _, _] _ R (congrArg VV.bool (Option.some.inj hm))
          ·refine VR.p R R (VP.move R) ?_
           obtain ⟨c7, h46, hm⟩ := bnd hm
           refine VR.sc 4 81 (.bool c7) (fun K' J => ?_) ?_
           ·have hm := h46
            rcases ite_or hm with ⟨h43, hm⟩ | ⟨h43, hm⟩
            ·refine VR.pG R R R R h43 (VP.move R) ?_
             obtain ⟨r10, h44, hm⟩ := bnd hm
             refine VR.consG R R R R h43 (VO.callK 0 R fn9 R (tree_Check_ok r.1 r10 h44) fun _ _ h45 => ?_)
             obtain ⟨rfl, rfl⟩ := h45
             refine VR.pG R R R R h43 (VP.arith R R R) <| VR.p R R (VP.pickB true R h43 R) ?_
             exact J [_, _, _] _ R (congrArg VV.bool (Option.some.inj hm))
            ·have h43 := bf h43
             refine VR.skipG R R R R h43 <| VR.skipG R R R R h43 <| VR.skipG R R R R h43 <| VR.p R R (VP.pickB false R h43 R) ?_
             exact J [_, _, _] _ R (congrArg VV.bool (Option.some.inj hm))
           ·refine VR.p R R (VP.assign R) <| VR.nil ?_
            obtain rfl := Option.some.inj hm
            exact VW.ret ⟨.inl R, _, .cons (.tmp _ _ R) .nil, [], _, R, R, R⟩

/-! trireme/triremeref02.End -/
def ref02_End.l1 (l : List T_api_Node) : Nat → Int → Int → Option (Out Int Unit)
 | 0, _, _ => none
 | n + 1, want2, k2 =>
  if (decide (k2 < (l.length : Int))) = true then
   (V.gl l k2).bind fun x =>
   (if (decide (x.Kids < (0 : Int))) = true then some true else (V.gl l k2).bind fun x2 =>
   some (decide (x2.Kids > (l.length : Int)))).bind fun c =>
   if c = true then
    some (Out.ret (-1 : Int))
   else
    (V.gl l k2).bind fun x3 =>
    if ((IntKind.i64.wrap ((IntKind.i64.wrap (want2 - (1 : Int))) + x3.Kids)) == (0 : Int)) = true then
     some (Out.ret (IntKind.i64.wrap (k2 + (1 : Int))))
    else
     ref02_End.l1 l n (IntKind.i64.wrap ((IntKind.i64.wrap (want2 - (1 : Int))) + x3.Kids)) (IntKind.i64.wrap (k2 + (1 : Int)))
  else
   some (Out.go ())
def ref02_End (l : List T_api_Node) (i : Int) : Option Int :=
 if (decide (i < (0 : Int))) = true then
  some (-1 : Int)
 else
  (ref02_End.l1 l FU (1 : Int) i).bind fun o =>
  o.on fun j =>
  some (-1 : Int)
theorem ref02_End_ok (l : List T_api_Node) (i : Int) (r : Int) (hm : ref02_End l i = some r) :
  VC Try.prog 14 [.list 40 (List.map T_api_Node.vv l), .int .i64 i] [] (fun zx zH => zx = .int .i64 r ∧ zH = []) := by
 unfold ref02_End at hm
 refine VC.run (c := _) (rs := [.tmp 4]) Try.func14 R R R <| VW.seq <| VW.region <| VR.p R R (VP.assign R) <| VR.nil <| VW.seq <| VW.seq <| VW.region <| VR.p R R (VP.move R) <| VR.p R R (VP.arith R R R) <| VR.nil ?_
 rcases ite_or hm with ⟨h1, hm⟩ | ⟨h1, hm⟩
 ·refine VW.condT R h1 <| VW.seq <| VW.region <| VR.p R R (VP.assign R) <| VR.nil ?_
  obtain rfl := Option.some.inj hm
  exact VW.ret ⟨.inl R, _, .cons (.tmp _ _ R) .nil, [], _, R, R, R⟩
 ·have h1 := bf h1
  refine VW.condF R h1 <| VW.skip <| VW.seq <| VW.region <| VR.p R R (VP.assign R) <| VR.nil <| VW.seq <| VW.seq <| VW.region <| VR.p R R (VP.move R) <| VR.p R R (VP.assign R) <| VR.nil ?_
  obtain ⟨o, h2, h3⟩ := bnd hm
  refine VW.joinE (fun (q : Unit) => o = Out.go q) (fun (j : Unit) (gg : Unit) => []) (fun (j : Unit) (gg : Unit) => []) ?_ ?_
  ·have hm := h2
   refine VW.block (VW.loop FU ?_)
   refine VL.fuelS (R := _) (fun zn (zs : Int × Int) => ref02_End.l1 l zn zs.1 zs.2) (fun (zs : Int × Int) (zg : Unit) => [(0, .list 40 (List.map T_api_Node.vv l)), (5, .int .i64 zs.1), (6, .int .i64 zs.2)]) (fun (zs : Int × Int) (zg : Unit) => []) ((1 : Int), i) () (fun zs => R) (Shift.pick [] R ⟨R, R, R, trivial⟩) h2 ?_
   rintro n ⟨want2, k2⟩ _ hm
   rw [ref02_End.l1] at hm
   refine VW.seq <| VW.seq <| VW.region <| VR.p R R (VP.move R) <| VR.p R R (VP.move R) <| VR.p R R (VP.lenT T_api_Node.vv R Try.underlying22) <| VR.p R R (VP.arith R R R) <| VR.nil ?_
   rcases ite_or hm with ⟨h4, hm⟩ | ⟨h4, hm⟩
   ·refine VW.condT R h4 <| VW.skip <| VW.seq <| VW.block <| VW.seq <| VW.seq <| VW.region <| VR.p R R (VP.move R) <| VR.p R R (VP.move R) ?_
    obtain ⟨x, h5, hm⟩ := bnd hm
    refine VR.p R R (VP.glE T_api_Node.vv R R el22 h5) <| VR.p R R (VP.fieldE R fa40_2) <| VR.p R R (VP.loadE R ld3 R) <| VR.p R R (VP.arith R R R) <| VR.p R R (VP.move R) ?_
    obtain ⟨c, h8, hm⟩ := bnd hm
    refine VR.sc 9 31 (.bool c) (fun K' J => ?_) ?_
    ·have hm := h8
     rcases ite_or hm with ⟨h6, hm⟩ | ⟨h6, hm⟩
     ·refine VR.skipG R R R R h6 <| VR.skipG R R R R h6 <| VR.skipG R R R R h6 <| VR.skipG R R R R h6 <| VR.skipG R R R R h6 <| VR.skipG R R R R h6 <| VR.skipG R R R R h6 <| VR.skipG R R R R h6 <| VR.p R R (VP.pickB true R h6 R) ?_
      exact J [_, _, _, _, _, _, _, _] _ R (congrArg VV.bool (Option.some.inj hm))
     ·have h6 := bf h6
      refine VR.pG R R R R h6 (VP.move R) <| VR.pG R R R R h6 (VP.move R) ?_
      obtain ⟨x2, h7, hm⟩ := bnd hm
      refine VR.pG R R R R h6 (VP.glE T_api_Node.vv R R el22 h7) <| VR.pG R R R R h6 (VP.fieldE R fa40_2) <| VR.pG R R R R h6 (VP.loadE R ld3 R) <| VR.pG R R R R h6 (VP.move R) <| VR.pG R R R R h6 (VP.lenT T_api_Node.vv R Try.underlying22) <| VR.pG R R R R h6 (VP.arith R R R) <| VR.p R R (VP.pickB false R h6 R) ?_
      exact J [_, _, _, _, _, _, _, _] _ R (congrArg VV.bool (Option.some.inj hm))
    ·refine VR.nil ?_
     rcases ite_or hm with ⟨h9, hm⟩ | ⟨h9, hm⟩
     ·refine VW.condT R h9 <| VW.seq <| VW.region <| VR.p R R (VP.assign R) <| VR.nil ?_
      obtain rfl := Option.some.inj hm
      have hm := Out.ret_on h3
      obtain rfl := Option.some.inj hm
      exact VW.ret ⟨.inl R, _, .cons (.tmp _ _ R) .nil, [], _, R, R, R⟩
     ·have h9 := bf h9
      refine VW.condF R h9 <| VW.skip <| VW.seq <| VW.region <| VR.p R R (VP.move R) <| VR.p R R (VP.arith R R R) <| VR.p R R (VP.move R) <| VR.p R R (VP.move R) ?_
      obtain ⟨x3, h10, hm⟩ := bnd hm
      refine VR.p R R (VP.glE T_api_Node.vv R R el22 h10) <| VR.p R R (VP.fieldE R fa40_2) <| VR.p R R (VP.loadE R ld3 R) <| VR.p R R (VP.arith R R R) <| VR.p R R (VP.assign R) <| VR.nil <| VW.seq <| VW.region <| VR.p R R (VP.move R) <| VR.p R R (VP.arith R R R) <| VR.nil ?_
      rcases ite_or hm with ⟨h11, hm⟩ | ⟨h11, hm⟩
      ·refine VW.condT R h11 <| VW.seq <| VW.region <| VR.p R R (VP.move R) <| VR.p R R (VP.arith R R R) <| VR.p R R (VP.assign R) <| VR.nil ?_
       obtain rfl := Option.some.inj hm
       have hm := Out.ret_on h3
       obtain rfl := Option.some.inj hm
       exact VW.ret ⟨.inl R, _, .cons (.tmp _ _ R) .nil, [], _, R, R, R⟩
      ·have h11 := bf h11
       refine VW.condF R h11 <| VW.skip <| VW.region <| VR.p R R (VP.move R) <| VR.p R R (VP.arith R R R) <| VR.p R R (VP.assign R) <| VR.nil ?_
       exact ⟨((IntKind.i64.wrap ((IntKind.i64.wrap (want2 - (1 : Int))) + x3.Kids)), (IntKind.i64.wrap (k2 + (1 : Int)))), (), hm, (Shift.pick [] R ⟨R, R, R, trivial⟩)⟩
   ·have h4 := bf h4
    refine VW.condF R h4 <| VW.exit ?_
    exact ⟨(), (), (Option.some.inj hm).symm, (Shift.pick [] R trivial)⟩
  ·rintro j _ rfl
   have hm := Out.go_on h3
   refine VW.seq <| VW.region <| VR.p R R (VP.assign R) <| VR.nil ?_
   obtain rfl := Option.some.inj hm
   exact VW.ret ⟨.inl R, _, .cons (.tmp _ _ R) .nil, [], _, R, R, R⟩

/-! trireme/triremeref02.Tops -/
def ref02_Tops.l1 (l : List T_api_Node) : Nat → (List Int) → Int → Option (Out (List Int) (List Int))
 | 0, _, _ => none
 | n + 1, out2, at_2 =>
  if (decide (at_2 < (l.length : Int))) = true then
   (ref02_End l at_2).bind fun r =>
   if (decide (r < (0 : Int))) = true then
    some (Out.ret ([] : List Int))
   else
    (V.ap 8 out2 [at_2]).bind fun out4 =>
    ref02_Tops.l1 l n out4 r
  else
   some (Out.go out2)
def ref02_Tops (l : List T_api_Node) : Option (List Int) :=
 (ref02_Tops.l1 l FU ([] : List Int) (0 : Int)).bind fun o =>
 o.on fun out32 =>
 some out32
theorem ref02_Tops_ok (l : List T_api_Node) (r : List Int) (hm : ref02_Tops l = some r) :
  VC Try.prog 19 [.list 40 (List.map T_api_Node.vv l)] [] (fun zx zH => ∃ (ob0 : Option Nat) (cap0 : Nat), zx = .sl ob0 (List.map (VV.int .i64) r).length cap0 ∧ zH = [.row ob0 3 cap0 (List.map (VV.int .i64) r)]) := by
 unfold ref02_Tops at hm
 refine VC.run (c := _) (rs := [.tmp 2]) Try.func19 R R R <| VW.seq <| VW.region <| VR.p R R (VP.assign R) <| VR.nil <| VW.seq <| VW.region <| VR.p R R (VP.assign R) <| VR.nil <| VW.seq <| VW.seq <| VW.region <| VR.p R R (VP.assign R) <| VR.nil ?_
 obtain ⟨o, h3, h4⟩ := bnd hm
 refine VW.joinE (fun (q : List Int) => o = Out.go q) (fun (out32 : List Int) (gg : Option Nat × Nat) => [(3, .sl gg.1 (List.map (VV.int .i64) out32).length gg.2)]) (fun (out32 : List Int) (gg : Option Nat × Nat) => [.row gg.1 3 gg.2 (List.map (VV.int .i64) out32)]) ?_ ?_
 ·have hm := h3
  refine VW.block (VW.loop FU ?_)
  refine VL.fuelS (R := _) (fun zn (zs : List Int × Int) => ref02_Tops.l1 l zn zs.1 zs.2) (fun (zs : List Int × Int) (zg : Option Nat × Nat) => [(0, .list 40 (List.map T_api_Node.vv l)), (3, .sl zg.1 (List.map (VV.int .i64) zs.1).length zg.2), (4, .int .i64 zs.2)]) (fun (zs : List Int × Int) (zg : Option Nat × Nat) => [.row zg.1 3 zg.2 (List.map (VV.int .i64) zs.1)]) (([] : List Int), (0 : Int)) (none, 0) (fun zs => R) (Shift.trans (Shift.nilRow 3) (Shift.pick [0] R ⟨R, R, R, trivial⟩)) h3 ?_
  rintro n ⟨out2, at_2⟩ ⟨ob2, cap2⟩ hm
  rw [ref02_Tops.l1] at hm
  refine VW.seq <| VW.seq <| VW.region <| VR.p R R (VP.move R) <| VR.p R R (VP.move R) <| VR.p R R (VP.lenT T_api_Node.vv R Try.underlying22) <| VR.p R R (VP.arith R R R) <| VR.nil ?_
  rcases ite_or hm with ⟨h5, hm⟩ | ⟨h5, hm⟩
  ·refine VW.condT R h5 <| VW.skip <| VW.block <| VW.seq <| VW.region <| VR.p R R (VP.move R) <| VR.p R R (VP.move R) ?_
   obtain ⟨r, h6, hm⟩ := bnd hm
   refine VR.cons R R (VO.callK 0 R fn14 R (ref02_End_ok l at_2 r h6) fun _ _ h11 => ?_)
   obtain ⟨rfl, rfl⟩ := h11
   refine VR.p R R (VP.assign R) <| VR.nil <| VW.seq <| VW.seq <| VW.region <| VR.p R R (VP.move R) <| VR.p R R (VP.arith R R R) <| VR.nil ?_
   rcases ite_or hm with ⟨h7, hm⟩ | ⟨h7, hm⟩
   ·refine VW.condT R h7 <| VW.seq <| VW.region <| VR.p R R (VP.assign R) <| VR.nil ?_
    obtain rfl := Option.some.inj hm
    have hm := Out.ret_on h4
    obtain rfl := Option.some.inj hm
    refine VW.shift (Shift.nilRow 3) ?_
    exact VW.ret ⟨.inl R, _, .cons (.tmp _ _ R) .nil, [0], _, R, none, 0, R, R⟩
   ·have h7 := bf h7
    refine VW.condF R h7 <| VW.skip <| VW.seq <| VW.region <| VR.p R R (VP.move R) <| VR.p R R (VP.move R) ?_
    refine VR.cons R R (VO.buildSlice ap30 R R R R R fun b => ?_)
    obtain ⟨out4, h10, hm⟩ := bnd hm
    refine VR.cons R R (VO.apT 1 (VV.int .i64) (l := out2) (l2 := [at_2]) ap30 R R (sT_row 0 (VV.int .i64) el30 R R) h10 fun ob4 cap4 => ?_)
    refine VR.p R R (VP.assign R) <| VR.nil <| VW.region <| VR.p R R (VP.move R) <| VR.p R R (VP.assign R) <| VR.nil ?_
    exact ⟨(out4, r), (ob4, cap4), hm, (Shift.pick [1] R ⟨R, R, R, trivial⟩)⟩
  ·have h5 := bf h5
   refine VW.condF R h5 <| VW.exit ?_
   exact ⟨out2, (ob2, cap2), (Option.some.inj hm).symm, (Shift.pick [0] R ⟨R, trivial⟩)⟩
 ·rintro out32 ⟨ob3, cap3⟩ rfl
  have hm := Out.go_on h4
  refine VW.seq <| VW.region <| VR.p R R (VP.move R) <| VR.p R R (VP.assign R) <| VR.nil ?_
  obtain rfl := Option.some.inj hm
  exact VW.ret ⟨.inl R, _, .cons (.tmp _ _ R) .nil, [0], _, R, ob3, cap3, R, R⟩

/-! trireme/triremeref01.more -/
def ref01_more (s : ByteArray) (i : Int) : Option Bool :=
 (if (decide (i < (s.size : Int))) = true then (V.gi s i).bind fun v =>
 some (decide (v ≥ (128 : Int))) else some false).bind fun c =>
 (if c = true then (V.gi s i).bind fun v2 =>
 some (decide (v2 < (192 : Int))) else some false).bind fun c2 =>
 some c2
theorem ref01_more_ok (s : ByteArray) (i : Int) (r : Bool) (hm : ref01_more s i = some r) :
  VC Try.prog 56 [.str s, .int .i64 i] [] (fun zx zH => zx = .bool r ∧ zH = []) := by
 unfold ref01_more at hm
 refine VC.run (c := _) (rs := [.tmp 4]) Try.func56 R R R <| VW.seq <| VW.region <| VR.p R R (VP.assign R) <| VR.nil <| VW.seq <| VW.region <| VR.p R R (VP.move R) <| VR.p R R (VP.move R) <| VR.p R R (VP.lenS R Try.underlying9) <| VR.p R R (VP.arith R R R) <| VR.p R R (VP.move R) ?_
 obtain ⟨c, h3, hm⟩ := bnd hm
 refine VR.sc 5 14 (.bool c) (fun K' J => ?_) ?_
 ·have hm := h3
  rcases ite_or hm with ⟨h1, hm⟩ | ⟨h1, hm⟩
  ·refine VR.pG R R R R h1 (VP.move R) <| VR.pG R R R R h1 (VP.move R) ?_
   obtain ⟨v, h2, hm⟩ := bnd hm
   refine VR.pG R R R R h1 (VP.gi R R Try.underlying9 h2) <| VR.pG R R R R h1 (VP.arith R R R) <| VR.p R R (VP.pickB true R h1 R) ?_
   exact J [_, _, _, _] _ R (congrArg VV.bool (Option.some.inj hm))
  ·have h1 := bf h1
   refine VR.skipG R R R R h1 <| VR.skipG R R R R h1 <| VR.skipG R R R R h1 <| VR.skipG R R R R h1 <| VR.p R R (VP.pickB false R h1 R) ?_
   exact J [_, _, _, _] _ R (congrArg VV.bool (Option.some.inj hm))
 ·refine VR.p R R (VP.move R) ?_
  obtain ⟨c2, h6, hm⟩ := bnd hm
  refine VR.sc 5 20 (.bool c2) (fun K' J => ?_) ?_
  ·have hm := h6
   rcases ite_or hm with ⟨h4, hm⟩ | ⟨h4, hm⟩
   ·refine VR.pG R R R R h4 (VP.move R) <| VR.pG R R R R h4 (VP.move R) ?_
    obtain ⟨v2, h5, hm⟩ := bnd hm
    refine VR.pG R R R R h4 (VP.gi R R Try.underlying9 h5) <| VR.pG R R R R h4 (VP.arith R R R) <| VR.p R R (VP.pickB true R h4 R) ?_
    exact J [_, _, _, _] _ R (congrArg VV.bool (Option.some.inj hm))
   ·have h4 := bf h4
    refine VR.skipG R R R R h4 <| VR.skipG R R R R h4 <| VR.skipG R R R R h4 <| VR.skipG R R R R h4 <| VR.p R R (VP.pickB false R h4 R) ?_
    exact J [_, _, _, _] _ R (congrArg VV.bool (Option.some.inj hm))
  ·refine VR.p R R (VP.assign R) <| VR.nil ?_
   obtain rfl := Option.some.inj hm
   exact VW.ret ⟨.inl R, _, .cons (.tmp _ _ R) .nil, [], _, R, R, R⟩

/-! trireme/triremeref01.Rune -/
def ref01_Rune (s : ByteArray) (i : Int) : Option (Int × Int) :=
 (V.gi s i).bind fun v =>
 if (decide ((IntKind.i64.wrap v) < (128 : Int))) = true then
  some ((IntKind.i64.wrap v), (1 : Int))
 else
  (if ((decide ((IntKind.i64.wrap v) ≥ (192 : Int))) && (decide ((IntKind.i64.wrap v) < (224 : Int)))) = true then (ref01_more s (IntKind.i64.wrap (i + (1 : Int)))).bind fun r =>
  some r else some false).bind fun c =>
  if c = true then
   (V.gi s (IntKind.i64.wrap (i + (1 : Int)))).bind fun v2 =>
   if (decide ((IntKind.i64.wrap ((IntKind.i64.wrap ((IntKind.i64.wrap ((IntKind.i64.wrap ((IntKind.i64.wrap v) - (192 : Int))) * (64 : Int))) + (IntKind.i64.wrap v2))) - (128 : Int))) ≥ (128 : Int))) = true then
    some ((IntKind.i64.wrap ((IntKind.i64.wrap ((IntKind.i64.wrap ((IntKind.i64.wrap ((IntKind.i64.wrap v) - (192 : Int))) * (64 : Int))) + (IntKind.i64.wrap v2))) - (128 : Int))), (2 : Int))
   else
    some ((0 : Int), (0 : Int))
  else
   (if ((decide ((IntKind.i64.wrap v) ≥ (224 : Int))) && (decide ((IntKind.i64.wrap v) < (240 : Int)))) = true then (ref01_more s (IntKind.i64.wrap (i + (1 : Int)))).bind fun r2 =>
   some r2 else some false).bind fun c2 =>
   (if c2 = true then (ref01_more s (IntKind.i64.wrap (i + (2 : Int)))).bind fun r3 =>
   some r3 else some false).bind fun c3 =>
   if c3 = true then
    (V.gi s (IntKind.i64.wrap (i + (1 : Int)))).bind fun v3 =>
    (V.gi s (IntKind.i64.wrap (i + (2 : Int)))).bind fun v4 =>
    if ((decide ((IntKind.i64.wrap ((IntKind.i64.wrap ((IntKind.i64.wrap ((IntKind.i64.wrap ((IntKind.i64.wrap ((IntKind.i64.wrap v) - (224 : Int))) * (4096 : Int))) + (IntKind.i64.wrap ((IntKind.i64.wrap ((IntKind.i64.wrap v3) - (128 : Int))) * (64 : Int))))) + (IntKind.i64.wrap v4))) - (128 : Int))) ≥ (2048 : Int))) && ((decide ((IntKind.i64.wrap ((IntKind.i64.wrap ((IntKind.i64.wrap ((IntKind.i64.wrap ((IntKind.i64.wrap ((IntKind.i64.wrap v) - (224 : Int))) * (4096 : Int))) + (IntKind.i64.wrap ((IntKind.i64.wrap ((IntKind.i64.wrap v3) - (128 : Int))) * (64 : Int))))) + (IntKind.i64.wrap v4))) - (128 : Int))) < (55296 : Int))) || (decide ((IntKind.i64.wrap ((IntKind.i64.wrap ((IntKind.i64.wrap ((IntKind.i64.wrap ((IntKind.i64.wrap ((IntKind.i64.wrap v) - (224 : Int))) * (4096 : Int))) + (IntKind.i64.wrap ((IntKind.i64.wrap ((IntKind.i64.wrap v3) - (128 : Int))) * (64 : Int))))) + (IntKind.i64.wrap v4))) - (128 : Int))) > (57343 : Int))))) = true then
     some ((IntKind.i64.wrap ((IntKind.i64.wrap ((IntKind.i64.wrap ((IntKind.i64.wrap ((IntKind.i64.wrap ((IntKind.i64.wrap v) - (224 : Int))) * (4096 : Int))) + (IntKind.i64.wrap ((IntKind.i64.wrap ((IntKind.i64.wrap v3) - (128 : Int))) * (64 : Int))))) + (IntKind.i64.wrap v4))) - (128 : Int))), (3 : Int))
    else
     some ((0 : Int), (0 : Int))
   else
    (if ((decide ((IntKind.i64.wrap v) ≥ (240 : Int))) && (decide ((IntKind.i64.wrap v) < (248 : Int)))) = true then (ref01_more s (IntKind.i64.wrap (i + (1 : Int)))).bind fun r4 =>
    some r4 else some false).bind fun c4 =>
    (if c4 = true then (ref01_more s (IntKind.i64.wrap (i + (2 : Int)))).bind fun r5 =>
    some r5 else some false).bind fun c5 =>
    (if c5 = true then (ref01_more s (IntKind.i64.wrap (i + (3 : Int)))).bind fun r6 =>
    some r6 else some false).bind fun c6 =>
    if c6 = true then
     (V.gi s (IntKind.i64.wrap (i + (1 : Int)))).bind fun v5 =>
     (V.gi s (IntKind.i64.wrap (i + (2 : Int)))).bind fun v6 =>
     (V.gi s (IntKind.i64.wrap (i + (3 : Int)))).bind fun v7 =>
     if ((decide ((IntKind.i64.wrap ((IntKind.i64.wrap ((IntKind.i64.wrap ((IntKind.i64.wrap ((IntKind.i64.wrap ((IntKind.i64.wrap ((IntKind.i64.wrap v) - (240 : Int))) * (262144 : Int))) + (IntKind.i64.wrap ((IntKind.i64.wrap ((IntKind.i64.wrap v5) - (128 : Int))) * (4096 : Int))))) + (IntKind.i64.wrap ((IntKind.i64.wrap ((IntKind.i64.wrap v6) - (128 : Int))) * (64 : Int))))) + (IntKind.i64.wrap v7))) - (128 : Int))) ≥ (65536 : Int))) && (decide ((IntKind.i64.wrap ((IntKind.i64.wrap ((IntKind.i64.wrap ((IntKind.i64.wrap ((IntKind.i64.wrap ((IntKind.i64.wrap ((IntKind.i64.wrap v) - (240 : Int))) * (262144 : Int))) + (IntKind.i64.wrap ((IntKind.i64.wrap ((IntKind.i64.wrap v5) - (128 : Int))) * (4096 : Int))))) + (IntKind.i64.wrap ((IntKind.i64.wrap ((IntKind.i64.wrap v6) - (128 : Int))) * (64 : Int))))) + (IntKind.i64.wrap v7))) - (128 : Int))) ≤ (1114111 : Int)))) = true then
      some ((IntKind.i64.wrap ((IntKind.i64.wrap ((IntKind.i64.wrap ((IntKind.i64.wrap ((IntKind.i64.wrap ((IntKind.i64.wrap ((IntKind.i64.wrap v) - (240 : Int))) * (262144 : Int))) + (IntKind.i64.wrap ((IntKind.i64.wrap ((IntKind.i64.wrap v5) - (128 : Int))) * (4096 : Int))))) + (IntKind.i64.wrap ((IntKind.i64.wrap ((IntKind.i64.wrap v6) - (128 : Int))) * (64 : Int))))) + (IntKind.i64.wrap v7))) - (128 : Int))), (4 : Int))
     else
      some ((0 : Int), (0 : Int))
    else
     some ((0 : Int), (0 : Int))
theorem ref01_Rune_ok (s : ByteArray) (i : Int) (r : Int × Int) (hm : ref01_Rune s i = some r) :
  VC Try.prog 43 [.str s, .int .i64 i] [] (fun zx zH => zx = .tup [.int .i64 r.1, .int .i64 r.2] ∧ zH = []) := by
 unfold ref01_Rune at hm
 refine VC.run (c := _) (rs := [.tmp 4, .tmp 5]) Try.func43 R R R <| VW.seq <| VW.region <| VR.p R R (VP.assign R) <| VR.p R R (VP.assign R) <| VR.nil <| VW.seq <| VW.region <| VR.p R R (VP.move R) <| VR.p R R (VP.move R) ?_
 obtain ⟨v, h1, hm⟩ := bnd hm
 refine VR.p R R (VP.gi R R Try.underlying9 h1) <| VR.p R R (VP.convI Try.underlying5 Try.underlying3 R) <| VR.p R R (VP.assign R) <| VR.nil <| VW.seq <| VW.block <| VW.seq <| VW.region <| VR.p R R (VP.move R) <| VR.p R R (VP.arith R R R) <| VR.p R R (VP.assign R) <| VR.nil ?_
 rcases ite_or hm with ⟨h2, hm⟩ | ⟨h2, hm⟩
 ·refine VW.condT R h2 <| VW.seq <| VW.region <| VR.p R R (VP.move R) <| VR.p R R (VP.assign R) <| VR.p R R (VP.assign R) <| VR.nil ?_
  obtain rfl := Option.some.inj hm
  exact VW.ret ⟨.inl R, _, .cons (.tmp _ _ R) (.cons (.tmp _ _ R) .nil), [], _, R, R, R⟩
 ·have h2 := bf h2
  refine VW.condF R h2 <| VW.seq <| VW.region <| VR.p R R (VP.move R) <| VR.p R R (VP.arith R R R) <| VR.p R R (VP.move R) ?_
  refine VR.sc 3 24 (.bool ((decide ((IntKind.i64.wrap v) ≥ (192 : Int))) && (decide ((IntKind.i64.wrap v) < (224 : Int))))) (fun K' J => ?_) ?_
  ·rcases Bool.eq_false_or_eq_true (decide ((IntKind.i64.wrap v) ≥ (192 : Int))) with h3 | h3
   ·refine VR.pG R R R R h3 (VP.move R) <| VR.pG R R R R h3 (VP.arith R R R) <| VR.p R R (VP.pickB true R h3 R) ?_
    exact J [_, _] _ R (andT h3)
   ·refine VR.skipG R R R R h3 <| VR.skipG R R R R h3 <| VR.p R R (VP.pickB false R h3 R) ?_
    exact J [_, _] _ R (andF h3)
  ·refine VR.p R R (VP.move R) ?_
   obtain ⟨c, h7, hm⟩ := bnd hm
   refine VR.sc 5 30 (.bool c) (fun K' J => ?_) ?_
   ·have hm := h7
    rcases ite_or hm with ⟨h4, hm⟩ | ⟨h4, hm⟩
    ·refine VR.pG R R R R h4 (VP.move R) <| VR.pG R R R R h4 (VP.move R) <| VR.pG R R R R h4 (VP.arith R R R) ?_
     obtain ⟨r, h5, hm⟩ := bnd hm
     refine VR.consG R R R R h4 (VO.callK 0 R fn56 R (ref01_more_ok s (IntKind.i64.wrap (i + (1 : Int))) r h5) fun _ _ h6 => ?_)
     obtain ⟨rfl, rfl⟩ := h6
     refine VR.p R R (VP.pickB true R h4 R) ?_
     exact J [_, _, _, _] _ R (congrArg VV.bool (Option.some.inj hm))
    ·have h4 := bf h4
     refine VR.skipG R R R R h4 <| VR.skipG R R R R h4 <| VR.skipG R R R R h4 <| VR.skipG R R R R h4 <| VR.p R R (VP.pickB false R h4 R) ?_
     exact J [_, _, _, _] _ R (congrArg VV.bool (Option.some.inj hm))
   ·refine VR.p R R (VP.assign R) <| VR.nil ?_
    rcases ite_or hm with ⟨h8, hm⟩ | ⟨h8, hm⟩
    ·refine VW.condT R h8 <| VW.seq <| VW.region <| VR.p R R (VP.move R) <| VR.p R R (VP.arith R R R) <| VR.p R R (VP.arith R R R) <| VR.p R R (VP.move R) <| VR.p R R (VP.move R) <| VR.p R R (VP.arith R R R) ?_
     obtain ⟨v2, h9, hm⟩ := bnd hm
     refine VR.p R R (VP.gi R R Try.underlying9 h9) <| VR.p R R (VP.convI Try.underlying5 Try.underlying3 R) <| VR.p R R (VP.arith R R R) <| VR.p R R (VP.arith R R R) <| VR.p R R (VP.assign R) <| VR.nil <| VW.seq <| VW.region <| VR.p R R (VP.move R) <| VR.p R R (VP.arith R R R) <| VR.nil ?_
     rcases ite_or hm with ⟨h10, hm⟩ | ⟨h10, hm⟩
     ·refine VW.condT R h10 <| VW.seq <| VW.region <| VR.p R R (VP.move R) <| VR.p R R (VP.assign R) <| VR.p R R (VP.assign R) <| VR.nil ?_
      obtain rfl := Option.some.inj hm
      exact VW.ret ⟨.inl R, _, .cons (.tmp _ _ R) (.cons (.tmp _ _ R) .nil), [], _, R, R, R⟩
     ·have h10 := bf h10
      refine VW.condF R h10 <| VW.skip <| VW.seq <| VW.region <| VR.p R R (VP.assign R) <| VR.p R R (VP.assign R) <| VR.nil ?_
      obtain rfl := Option.some.inj hm
      exact VW.ret ⟨.inl R, _, .cons (.tmp _ _ R) (.cons (.tmp _ _ R) .nil), [], _, R, R, R⟩
    ·have h8 := bf h8
     refine VW.condF R h8 <| VW.seq <| VW.region <| VR.p R R (VP.move R) <| VR.p R R (VP.arith R R R) <| VR.p R R (VP.move R) ?_
     refine VR.sc 3 50 (.bool ((decide ((IntKind.i64.wrap v) ≥ (224 : Int))) && (decide ((IntKind.i64.wrap v) < (240 : Int))))) (fun K' J => ?_) ?_
     ·rcases Bool.eq_false_or_eq_true (decide ((IntKind.i64.wrap v) ≥ (224 : Int))) with h11 | h11
      ·refine VR.pG R R R R h11 (VP.move R) <| VR.pG R R R R h11 (VP.arith R R R) <| VR.p R R (VP.pickB true R h11 R) ?_
       exact J [_, _] _ R (andT h11)
      ·refine VR.skipG R R R R h11 <| VR.skipG R R R R h11 <| VR.p R R (VP.pickB false R h11 R) ?_
       exact J [_, _] _ R (andF h11)
     ·refine VR.p R R (VP.move R) ?_
      obtain ⟨c2, h15, hm⟩ := bnd hm
      refine VR.sc 5 56 (.bool c2) (fun K' J => ?_) ?_
      ·have hm := h15
       rcases ite_or hm with ⟨h12, hm⟩ | ⟨h12, hm⟩
       ·refine VR.pG R R R R h12 (VP.move R) <| VR.pG R R R R h12 (VP.move R) <| VR.pG R R R R h12 (VP.arith R R R) ?_
        obtain ⟨r2, h13, hm⟩ := bnd hm
        refine VR.consG R R R R h12 (VO.callK 0 R fn56 R (ref01_more_ok s (IntKind.i64.wrap (i + (1 : Int))) r2 h13) fun _ _ h14 => ?_)
        obtain ⟨rfl, rfl⟩ := h14
        refine VR.p R R (VP.pickB true R h12 R) ?_
        exact J [_, _, _, _] _ R (congrArg VV.bool (Option.some.inj hm))
       ·have h12 := bf h12
        refine VR.skipG R R R R h12 <| VR.skipG R R R R h12 <| VR.skipG R R R R h12 <| VR.skipG R R R R h12 <| VR.p R R (VP.pickB false R h12 R) ?_
        exact J [_, _, _, _] _ R (congrArg VV.bool (Option.some.inj hm))
      ·refine VR.p R R (VP.move R) ?_
       obtain ⟨c3, h19, hm⟩ := bnd hm
       refine VR.sc 5 62 (.bool c3) (fun K' J => ?_) ?_
       ·have hm := h19
        rcases ite_or hm with ⟨h16, hm⟩ | ⟨h16, hm⟩
        ·refine VR.pG R R R R h16 (VP.move R) <| VR.pG R R R R h16 (VP.move R) <| VR.pG R R R R h16 (VP.arith R R R) ?_
         obtain ⟨r3, h17, hm⟩ := bnd hm
         refine VR.consG R R R R h16 (VO.callK 0 R fn56 R (ref01_more_ok s (IntKind.i64.wrap (i + (2 : Int))) r3 h17) fun _ _ h18 => ?_)
         obtain ⟨rfl, rfl⟩ := h18
         refine VR.p R R (VP.pickB true R h16 R) ?_
         exact J [_, _, _, _] _ R (congrArg VV.bool (Option.some.inj hm))
        ·have h16 := bf h16
         refine VR.skipG R R R R h16 <| VR.skipG R R R R h16 <| VR.skipG R R R R h16 <| VR.skipG R R R R h16 <| VR.p R R (VP.pickB false R h16 R) ?_
         exact J [_, _, _, _] _ R (congrArg VV.bool (Option.some.inj hm))
       ·refine VR.p R R (VP.assign R) <| VR.nil ?_
        rcases ite_or hm with ⟨h20, hm⟩ | ⟨h20, hm⟩
        ·refine VW.condT R h20 <| VW.seq <| VW.drawK 0 mixed <| VA.p 0 R R R (by kernel_rfl) (VP.move R) <| VA.p 1 R R R (by kernel_rfl) (VP.arith R R R) <| VA.p 2 R R R (by kernel_rfl) (VP.arith R R R) <| VA.p 3 R R R (by kernel_rfl) (VP.move R) <| VA.p 4 R R R (by kernel_rfl) (VP.move R) <| VA.p 5 R R R (by kernel_rfl) (VP.arith R R R) ?_
         obtain ⟨v3, h21, hm⟩ := bnd hm
         refine VA.p 6 R R R (by kernel_rfl) (VP.gi R R Try.underlying9 h21) <| VA.p 7 R R R (by kernel_rfl) (VP.convI Try.underlying5 Try.underlying3 R) <| VA.p 8 R R R (by kernel_rfl) (VP.arith R R R) <| VA.p 9 R R R (by kernel_rfl) (VP.arith R R R) <| VA.p 10 R R R (by kernel_rfl) (VP.arith R R R) <| VA.p 11 R R R (by kernel_rfl) (VP.move R) <| VA.p 12 R R R (by kernel_rfl) (VP.move R) <| VA.p 13 R R R (by kernel_rfl) (VP.arith R R R) ?_
         obtain ⟨v4, h22, hm⟩ := bnd hm
         refine VA.p 14 R R R (by kernel_rfl) (VP.gi R R Try.underlying9 h22) <| VA.p 15 R R R (by kernel_rfl) (VP.convI Try.underlying5 Try.underlying3 R) <| VA.p 16 R R R (by kernel_rfl) (VP.arith R R R) <| VA.p 17 R R R (by kernel_rfl) (VP.arith R R R) <| VA.p 18 R R R (by kernel_rfl) (VP.assign R) <| VA.done (by kernel_rfl) <| VW.seq <| VW.region <| VR.p R R (VP.move R) <| VR.p R R (VP.arith R R R) <| VR.p R R (VP.move R) ?_
         refine VR.sc 7 90 (.bool ((decide ((IntKind.i64.wrap ((IntKind.i64.wrap ((IntKind.i64.wrap ((IntKind.i64.wrap ((IntKind.i64.wrap ((IntKind.i64.wrap v) - (224 : Int))) * (4096 : Int))) + (IntKind.i64.wrap ((IntKind.i64.wrap ((IntKind.i64.wrap v3) - (128 : Int))) * (64 : Int))))) + (IntKind.i64.wrap v4))) - (128 : Int))) ≥ (2048 : Int))) && ((decide ((IntKind.i64.wrap ((IntKind.i64.wrap ((IntKind.i64.wrap ((IntKind.i64.wrap ((IntKind.i64.wrap ((IntKind.i64.wrap v) - (224 : Int))) * (4096 : Int))) + (IntKind.i64.wrap ((IntKind.i64.wrap ((IntKind.i64.wrap v3) - (128 : Int))) * (64 : Int))))) + (IntKind.i64.wrap v4))) - (128 : Int))) < (55296 : Int))) || (decide ((IntKind.i64.wrap ((IntKind.i64.wrap ((IntKind.i64.wrap ((IntKind.i64.wrap ((IntKind.i64.wrap ((IntKind.i64.wrap v) - (224 : Int))) * (4096 : Int))) + (IntKind.i64.wrap ((IntKind.i64.wrap ((IntKind.i64.wrap v3) - (128 : Int))) * (64 : Int))))) + (IntKind.i64.wrap v4))) - (128 : Int))) > (57343 : Int)))))) (fun K' J => ?_) ?_
         ·rcases Bool.eq_false_or_eq_true (decide ((IntKind.i64.wrap ((IntKind.i64.wrap ((IntKind.i64.wrap ((IntKind.i64.wrap ((IntKind.i64.wrap ((IntKind.i64.wrap v) - (224 : Int))) * (4096 : Int))) + (IntKind.i64.wrap ((IntKind.i64.wrap ((IntKind.i64.wrap v3) - (128 : Int))) * (64 : Int))))) + (IntKind.i64.wrap v4))) - (128 : Int))) ≥ (2048 : Int))) with h23 | h23
          ·refine VR.pG R R R R h23 (VP.move R) <| VR.pG R R R R h23 (VP.arith R R R) <| VR.pG R R R R h23 (VP.move R) ?_
           refine VR.sc 3 89 (.bool ((decide ((IntKind.i64.wrap ((IntKind.i64.wrap ((IntKind.i64.wrap ((IntKind.i64.wrap ((IntKind.i64.wrap ((IntKind.i64.wrap v) - (224 : Int))) * (4096 : Int))) + (IntKind.i64.wrap ((IntKind.i64.wrap ((IntKind.i64.wrap v3) - (128 : Int))) * (64 : Int))))) + (IntKind.i64.wrap v4))) - (128 : Int))) < (55296 : Int))) || (decide ((IntKind.i64.wrap ((IntKind.i64.wrap ((IntKind.i64.wrap ((IntKind.i64.wrap ((IntKind.i64.wrap ((IntKind.i64.wrap v) - (224 : Int))) * (4096 : Int))) + (IntKind.i64.wrap ((IntKind.i64.wrap ((IntKind.i64.wrap v3) - (128 : Int))) * (64 : Int))))) + (IntKind.i64.wrap v4))) - (128 : Int))) > (57343 : Int))))) (fun K' J => ?_) ?_
           ·rcases Bool.eq_false_or_eq_true (decide ((IntKind.i64.wrap ((IntKind.i64.wrap ((IntKind.i64.wrap ((IntKind.i64.wrap ((IntKind.i64.wrap ((IntKind.i64.wrap v) - (224 : Int))) * (4096 : Int))) + (IntKind.i64.wrap ((IntKind.i64.wrap ((IntKind.i64.wrap v3) - (128 : Int))) * (64 : Int))))) + (IntKind.i64.wrap v4))) - (128 : Int))) < (55296 : Int))) with h24 | h24
            ·refine VR.skipG R R R R h24 <| VR.skipG R R R R h24 <| VR.pG R R R R h23 (VP.pickB true R h24 R) ?_
             exact J [_, _] _ R (orT h24)
            ·refine VR.pG R R R R h24 (VP.move R) <| VR.pG R R R R h24 (VP.arith R R R) <| VR.pG R R R R h23 (VP.pickB false R h24 R) ?_
             exact J [_, _] _ R (orF h24)
           ·refine VR.p R R (VP.pickB true R h23 R) ?_
            exact J [_, _, _, _] _ R (andT h23)
          ·refine VR.skipG R R R R h23 <| VR.skipG R R R R h23 <| VR.skipG R R R R h23 <| VR.skipU R R R R <| VR.skipU R R R R <| VR.skipG R R R R h23 <| VR.p R R (VP.pickB false R h23 R) ?_
           exact J [_, _, _, _, _, _] _ R (andF h23)
         ·refine VR.nil ?_
          rcases ite_or hm with ⟨h25, hm⟩ | ⟨h25, hm⟩
          ·refine VW.condT R h25 <| VW.seq <| VW.region <| VR.p R R (VP.move R) <| VR.p R R (VP.assign R) <| VR.p R R (VP.assign R) <| VR.nil ?_
           obtain rfl := Option.some.inj hm
           exact VW.ret ⟨.inl R, _, .cons (.tmp _ _ R) (.cons (.tmp _ _ R) .nil), [], _, R, R, R⟩
          ·have h25 := bf h25
           refine VW.condF R h25 <| VW.skip <| VW.seq <| VW.region <| VR.p R R (VP.assign R) <| VR.p R R (VP.assign R) <| VR.nil ?_
           obtain rfl := Option.some.inj hm
           exact VW.ret ⟨.inl R, _, .cons (.tmp _ _ R) (.cons (.tmp _ _ R) .nil), [], _, R, R, R⟩
        ·have h20 := bf h20
         refine VW.condF R h20 <| VW.seq <| VW.region <| VR.p R R (VP.move R) <| VR.p R R (VP.arith R R R) <| VR.p R R (VP.move R) ?_
         refine VR.sc 3 98 (.bool ((decide ((IntKind.i64.wrap v) ≥ (240 : Int))) && (decide ((IntKind.i64.wrap v) < (248 : Int))))) (fun K' J => ?_) ?_
         ·rcases Bool.eq_false_or_eq_true (decide ((IntKind.i64.wrap v) ≥ (240 : Int))) with h26 | h26
          ·refine VR.pG R R R R h26 (VP.move R) <| VR.pG R R R R h26 (VP.arith R R R) <| VR.p R R (VP.pickB true R h26 R) ?_
           exact J [_, _] _ R (andT h26)
          ·refine VR.skipG R R R R h26 <| VR.skipG R R R R h26 <| VR.p R R (VP.pickB false R h26 R) ?_
           exact J [_, _] _ R (andF h26)
         ·refine VR.p R R (VP.move R) ?_
          obtain ⟨c4, h30, hm⟩ := bnd hm
          refine VR.sc 5 104 (.bool c4) (fun K' J => ?_) ?_
          ·have hm := h30
           rcases ite_or hm with ⟨h27, hm⟩ | ⟨h27, hm⟩
           ·refine VR.pG R R R R h27 (VP.move R) <| VR.pG R R R R h27 (VP.move R) <| VR.pG R R R R h27 (VP.arith R R R) ?_
            obtain ⟨r4, h28, hm⟩ := bnd hm
            refine VR.consG R R R R h27 (VO.callK 0 R fn56 R (ref01_more_ok s (IntKind.i64.wrap (i + (1 : Int))) r4 h28) fun _ _ h29 => ?_)
            obtain ⟨rfl, rfl⟩ := h29
            refine VR.p R R (VP.pickB true R h27 R) ?_
            exact J [_, _, _, _] _ R (congrArg VV.bool (Option.some.inj hm))
           ·have h27 := bf h27
            refine VR.skipG R R R R h27 <| VR.skipG R R R R h27 <| VR.skipG R R R R h27 <| VR.skipG R R R R h27 <| VR.p R R (VP.pickB false R h27 R) ?_
            exact J [_, _, _, _] _ R (congrArg VV.bool (Option.some.inj hm))
          ·refine VR.p R R (VP.move R) ?_
           obtain ⟨c5, h34, hm⟩ := bnd hm
           refine VR.sc 5 110 (.bool c5) (fun K' J => ?_) ?_
           ·have hm := h34
            rcases ite_or hm with ⟨h31, hm⟩ | ⟨h31, hm⟩
            ·refine VR.pG R R R R h31 (VP.move R) <| VR.pG R R R R h31 (VP.move R) <| VR.pG R R R R h31 (VP.arith R R R) ?_
             obtain ⟨r5, h32, hm⟩ := bnd hm
             refine VR.consG R R R R h31 (VO.callK 0 R fn56 R (ref01_more_ok s (IntKind.i64.wrap (i + (2 : Int))) r5 h32) fun _ _ h33 => ?_)
             obtain ⟨rfl, rfl⟩ := h33
             refine VR.p R R (VP.pickB true R h31 R) ?_
             exact J [_, _, _, _] _ R (congrArg VV.bool (Option.some.inj hm))
            ·have h31 := bf h31
             refine VR.skipG R R R R h31 <| VR.skipG R R R R h31 <| VR.skipG R R R R h31 <| VR.skipG R R R R h31 <| VR.p R R (VP.pickB false R h31 R) ?_
             exact J [_, _, _, _] _ R (congrArg VV.bool (Option.some.inj hm))
           ·refine VR.p R R (VP.move R) ?_
            obtain ⟨c6, h38, hm⟩ := bnd hm
            refine VR.sc 5 116 (.bool c6) (fun K' J => ?_) ?_
            ·have hm := h38
             rcases ite_or hm with ⟨h35, hm⟩ | ⟨h35, hm⟩
             ·refine VR.pG R R R R h35 (VP.move R) <| VR.pG R R R R h35 (VP.move R) <| VR.pG R R R R h35 (VP.arith R R R) ?_
              obtain ⟨r6, h36, hm⟩ := bnd hm
              refine VR.consG R R R R h35 (VO.callK 0 R fn56 R (ref01_more_ok s (IntKind.i64.wrap (i + (3 : Int))) r6 h36) fun _ _ h37 => ?_)
              obtain ⟨rfl, rfl⟩ := h37
              refine VR.p R R (VP.pickB true R h35 R) ?_
              exact J [_, _, _, _] _ R (congrArg VV.bool (Option.some.inj hm))
             ·have h35 := bf h35
              refine VR.skipG R R R R h35 <| VR.skipG R R R R h35 <| VR.skipG R R R R h35 <| VR.skipG R R R R h35 <| VR.p R R (VP.pickB false R h35 R) ?_
              exact J [_, _, _, _] _ R (congrArg VV.bool (Option.some.inj hm))
            ·refine VR.p R R (VP.assign R) <| VR.nil ?_
             rcases ite_or hm with ⟨h39, hm⟩ | ⟨h39, hm⟩
             ·refine VW.condT R h39 <| VW.seq <| VW.drawK 0 mixed <| VA.p 0 R R R (by kernel_rfl) (VP.move R) <| VA.p 1 R R R (by kernel_rfl) (VP.arith R R R) <| VA.p 2 R R R (by kernel_rfl) (VP.arith R R R) <| VA.p 3 R R R (by kernel_rfl) (VP.move R) <| VA.p 4 R R R (by kernel_rfl) (VP.move R) <| VA.p 5 R R R (by kernel_rfl) (VP.arith R R R) ?_
              obtain ⟨v5, h40, hm⟩ := bnd hm
              refine VA.p 6 R R R (by kernel_rfl) (VP.gi R R Try.underlying9 h40) <| VA.p 7 R R R (by kernel_rfl) (VP.convI Try.underlying5 Try.underlying3 R) <| VA.p 8 R R R (by kernel_rfl) (VP.arith R R R) <| VA.p 9 R R R (by kernel_rfl) (VP.arith R R R) <| VA.p 10 R R R (by kernel_rfl) (VP.arith R R R) <| VA.p 11 R R R (by kernel_rfl) (VP.move R) <| VA.p 12 R R R (by kernel_rfl) (VP.move R) <| VA.p 13 R R R (by kernel_rfl) (VP.arith R R R) ?_
              obtain ⟨v6, h41, hm⟩ := bnd hm
              refine VA.p 14 R R R (by kernel_rfl) (VP.gi R R Try.underlying9 h41) <| VA.p 15 R R R (by kernel_rfl) (VP.convI Try.underlying5 Try.underlying3 R) <| VA.p 16 R R R (by kernel_rfl) (VP.arith R R R) <| VA.p 17 R R R (by kernel_rfl) (VP.arith R R R) <| VA.p 18 R R R (by kernel_rfl) (VP.arith R R R) <| VA.p 19 R R R (by kernel_rfl) (VP.move R) <| VA.p 20 R R R (by kernel_rfl) (VP.move R) <| VA.p 21 R R R (by kernel_rfl) (VP.arith R R R) ?_
              obtain ⟨v7, h42, hm⟩ := bnd hm
              refine VA.p 22 R R R (by kernel_rfl) (VP.gi R R Try.underlying9 h42) <| VA.p 23 R R R (by kernel_rfl) (VP.convI Try.underlying5 Try.underlying3 R) <| VA.p 24 R R R (by kernel_rfl) (VP.arith R R R) <| VA.p 25 R R R (by kernel_rfl) (VP.arith R R R) <| VA.p 26 R R R (by kernel_rfl) (VP.assign R) <| VA.done (by kernel_rfl) <| VW.seq <| VW.region <| VR.p R R (VP.move R) <| VR.p R R (VP.arith R R R) <| VR.p R R (VP.move R) ?_
              refine VR.sc 3 148 (.bool ((decide ((IntKind.i64.wrap ((IntKind.i64.wrap ((IntKind.i64.wrap ((IntKind.i64.wrap ((IntKind.i64.wrap ((IntKind.i64.wrap ((IntKind.i64.wrap v) - (240 : Int))) * (262144 : Int))) + (IntKind.i64.wrap ((IntKind.i64.wrap ((IntKind.i64.wrap v5) - (128 : Int))) * (4096 : Int))))) + (IntKind.i64.wrap ((IntKind.i64.wrap ((IntKind.i64.wrap v6) - (128 : Int))) * (64 : Int))))) + (IntKind.i64.wrap v7))) - (128 : Int))) ≥ (65536 : Int))) && (decide ((IntKind.i64.wrap ((IntKind.i64.wrap ((IntKind.i64.wrap ((IntKind.i64.wrap ((IntKind.i64.wrap ((IntKind.i64.wrap ((IntKind.i64.wrap v) - (240 : Int))) * (262144 : Int))) + (IntKind.i64.wrap ((IntKind.i64.wrap ((IntKind.i64.wrap v5) - (128 : Int))) * (4096 : Int))))) + (IntKind.i64.wrap ((IntKind.i64.wrap ((IntKind.i64.wrap v6) - (128 : Int))) * (64 : Int))))) + (IntKind.i64.wrap v7))) - (128 : Int))) ≤ (1114111 : Int))))) (fun K' J => ?_) ?_
              ·rcases Bool.eq_false_or_eq_true (decide ((IntKind.i64.wrap ((IntKind.i64.wrap ((IntKind.i64.wrap ((IntKind.i64.wrap ((IntKind.i64.wrap ((IntKind.i64.wrap ((IntKind.i64.wrap v) - (240 : Int))) * (262144 : Int))) + (IntKind.i64.wrap ((IntKind.i64.wrap ((IntKind.i64.wrap v5) - (128 : Int))) * (4096 : Int))))) + (IntKind.i64.wrap ((IntKind.i64.wrap ((IntKind.i64.wrap v6) - (128 : Int))) * (64 : Int))))) + (IntKind.i64.wrap v7))) - (128 : Int))) ≥ (65536 : Int))) with h43 | h43
               ·refine VR.pG R R R R h43 (VP.move R) <| VR.pG R R R R h43 (VP.arith R R R) <| VR.p R R (VP.pickB true R h43 R) ?_
                exact J [_, _] _ R (andT h43)
               ·refine VR.skipG R R R R h43 <| VR.skipG R R R R h43 <| VR.p R R (VP.pickB false R h43 R) ?_
                exact J [_, _] _ R (andF h43)
              ·refine VR.nil ?_
               rcases ite_or hm with ⟨h44, hm⟩ | ⟨h44, hm⟩
               ·refine VW.condT R h44 <| VW.seq <| VW.region <| VR.p R R (VP.move R) <| VR.p R R (VP.assign R) <| VR.p R R (VP.assign R) <| VR.nil ?_
                obtain rfl := Option.some.inj hm
                exact VW.ret ⟨.inl R, _, .cons (.tmp _ _ R) (.cons (.tmp _ _ R) .nil), [], _, R, R, R⟩
               ·have h44 := bf h44
                refine VW.condF R h44 <| VW.skip <| VW.seq <| VW.region <| VR.p R R (VP.assign R) <| VR.p R R (VP.assign R) <| VR.nil ?_
                obtain rfl := Option.some.inj hm
                exact VW.ret ⟨.inl R, _, .cons (.tmp _ _ R) (.cons (.tmp _ _ R) .nil), [], _, R, R, R⟩
             ·have h39 := bf h39
              refine VW.condF R h39 <| VW.skip <| VW.seq <| VW.region <| VR.p R R (VP.assign R) <| VR.p R R (VP.assign R) <| VR.nil ?_
              obtain rfl := Option.some.inj hm
              exact VW.ret ⟨.inl R, _, .cons (.tmp _ _ R) (.cons (.tmp _ _ R) .nil), [], _, R, R, R⟩

/-! trireme/triremeref01.plain -/
def ref01_plain (c : Int) : Option Bool :=
 some ((((((decide (c > (32 : Int))) && (c != (127 : Int))) && (c != (40 : Int))) && (c != (41 : Int))) && (c != (34 : Int))) && (c != (59 : Int)))
theorem ref01_plain_ok (c : Int) (r : Bool) (hm : ref01_plain c = some r) :
  VC Try.prog 44 [.int .i64 c] [] (fun zx zH => zx = .bool r ∧ zH = []) := by
 unfold ref01_plain at hm
 refine VC.run (c := _) (rs := [.tmp 2]) Try.func44 R R R <| VW.seq <| VW.region <| VR.p R R (VP.assign R) <| VR.nil <| VW.seq <| VW.region <| VR.p R R (VP.move R) <| VR.p R R (VP.arith R R R) <| VR.p R R (VP.move R) ?_
 refine VR.sc 3 8 (.bool ((decide (c > (32 : Int))) && (c != (127 : Int)))) (fun K' J => ?_) ?_
 ·rcases Bool.eq_false_or_eq_true (decide (c > (32 : Int))) with h1 | h1
  ·refine VR.pG R R R R h1 (VP.move R) <| VR.pG R R R R h1 (VP.arith R R R) <| VR.p R R (VP.pickB true R h1 R) ?_
   exact J [_, _] _ R (andT h1)
  ·refine VR.skipG R R R R h1 <| VR.skipG R R R R h1 <| VR.p R R (VP.pickB false R h1 R) ?_
   exact J [_, _] _ R (andF h1)
 ·refine VR.p R R (VP.move R) ?_
  refine VR.sc 3 12 (.bool (((decide (c > (32 : Int))) && (c != (127 : Int))) && (c != (40 : Int)))) (fun K' J => ?_) ?_
  ·rcases Bool.eq_false_or_eq_true ((decide (c > (32 : Int))) && (c != (127 : Int))) with h2 | h2
   ·refine VR.pG R R R R h2 (VP.move R) <| VR.pG R R R R h2 (VP.arith R R R) <| VR.p R R (VP.pickB true R h2 R) ?_
    exact J [_, _] _ R (andT h2)
   ·refine VR.skipG R R R R h2 <| VR.skipG R R R R h2 <| VR.p R R (VP.pickB false R h2 R) ?_
    exact J [_, _] _ R (andF h2)
  ·refine VR.p R R (VP.move R) ?_
   refine VR.sc 3 16 (.bool ((((decide (c > (32 : Int))) && (c != (127 : Int))) && (c != (40 : Int))) && (c != (41 : Int)))) (fun K' J => ?_) ?_
   ·rcases Bool.eq_false_or_eq_true (((decide (c > (32 : Int))) && (c != (127 : Int))) && (c != (40 : Int))) with h3 | h3
    ·refine VR.pG R R R R h3 (VP.move R) <| VR.pG R R R R h3 (VP.arith R R R) <| VR.p R R (VP.pickB true R h3 R) ?_
     exact J [_, _] _ R (andT h3)
    ·refine VR.skipG R R R R h3 <| VR.skipG R R R R h3 <| VR.p R R (VP.pickB false R h3 R) ?_
     exact J [_, _] _ R (andF h3)
   ·refine VR.p R R (VP.move R) ?_
    refine VR.sc 3 20 (.bool (((((decide (c > (32 : Int))) && (c != (127 : Int))) && (c != (40 : Int))) && (c != (41 : Int))) && (c != (34 : Int)))) (fun K' J => ?_) ?_
    ·rcases Bool.eq_false_or_eq_true ((((decide (c > (32 : Int))) && (c != (127 : Int))) && (c != (40 : Int))) && (c != (41 : Int))) with h4 | h4
     ·refine VR.pG R R R R h4 (VP.move R) <| VR.pG R R R R h4 (VP.arith R R R) <| VR.p R R (VP.pickB true R h4 R) ?_
      exact J [_, _] _ R (andT h4)
     ·refine VR.skipG R R R R h4 <| VR.skipG R R R R h4 <| VR.p R R (VP.pickB false R h4 R) ?_
      exact J [_, _] _ R (andF h4)
    ·refine VR.p R R (VP.move R) ?_
     refine VR.sc 3 24 (.bool ((((((decide (c > (32 : Int))) && (c != (127 : Int))) && (c != (40 : Int))) && (c != (41 : Int))) && (c != (34 : Int))) && (c != (59 : Int)))) (fun K' J => ?_) ?_
     ·rcases Bool.eq_false_or_eq_true (((((decide (c > (32 : Int))) && (c != (127 : Int))) && (c != (40 : Int))) && (c != (41 : Int))) && (c != (34 : Int))) with h5 | h5
      ·refine VR.pG R R R R h5 (VP.move R) <| VR.pG R R R R h5 (VP.arith R R R) <| VR.p R R (VP.pickB true R h5 R) ?_
       exact J [_, _] _ R (andT h5)
      ·refine VR.skipG R R R R h5 <| VR.skipG R R R R h5 <| VR.p R R (VP.pickB false R h5 R) ?_
       exact J [_, _] _ R (andF h5)
     ·refine VR.p R R (VP.assign R) <| VR.nil ?_
      obtain rfl := Option.some.inj hm
      exact VW.ret ⟨.inl R, _, .cons (.tmp _ _ R) .nil, [], _, R, R, R⟩

/-! trireme/triremeref01.Word -/
def ref01_Word.l1 (s : ByteArray) : Nat → Int → Int → Option (Out Bool Int)
 | 0, _, _ => none
 | n4 + 1, n2, i2 =>
  if (decide (i2 < (s.size : Int))) = true then
   (ref01_Rune s i2).bind fun r =>
   (if (r.2 == (0 : Int)) = true then some true else (ref01_plain r.1).bind fun r2 =>
   some (!r2)).bind fun c =>
   if c = true then
    some (Out.ret false)
   else
    ref01_Word.l1 s n4 (IntKind.i64.wrap (n2 + (1 : Int))) (IntKind.i64.wrap (i2 + r.2))
  else
   some (Out.go n2)
def ref01_Word (s : ByteArray) : Option Bool :=
 (ref01_Word.l1 s FU (0 : Int) (0 : Int)).bind fun o =>
 o.on fun n32 =>
 some ((decide (n32 ≥ (1 : Int))) && (decide (n32 ≤ (64 : Int))))
theorem ref01_Word_ok (s : ByteArray) (r : Bool) (hm : ref01_Word s = some r) :
  VC Try.prog 35 [.str s] [] (fun zx zH => zx = .bool r ∧ zH = []) := by
 unfold ref01_Word at hm
 refine VC.run (c := _) (rs := [.tmp 2]) Try.func35 R R R <| VW.seq <| VW.region <| VR.p R R (VP.assign R) <| VR.nil <| VW.seq <| VW.region <| VR.p R R (VP.assign R) <| VR.nil <| VW.seq <| VW.seq <| VW.region <| VR.p R R (VP.assign R) <| VR.nil ?_
 obtain ⟨o, h1, h2⟩ := bnd hm
 refine VW.joinE (fun (q : Int) => o = Out.go q) (fun (n32 : Int) (gg : Unit) => [(3, .int .i64 n32)]) (fun (n32 : Int) (gg : Unit) => []) ?_ ?_
 ·have hm := h1
  refine VW.block (VW.loop FU ?_)
  refine VL.fuelS (R := _) (fun zn (zs : Int × Int) => ref01_Word.l1 s zn zs.1 zs.2) (fun (zs : Int × Int) (zg : Unit) => [(0, .str s), (3, .int .i64 zs.1), (4, .int .i64 zs.2)]) (fun (zs : Int × Int) (zg : Unit) => []) ((0 : Int), (0 : Int)) () (fun zs => R) (Shift.pick [] R ⟨R, R, R, trivial⟩) h1 ?_
  rintro n4 ⟨n2, i2⟩ _ hm
  rw [ref01_Word.l1] at hm
  refine VW.seq <| VW.seq <| VW.region <| VR.p R R (VP.move R) <| VR.p R R (VP.move R) <| VR.p R R (VP.lenS R Try.underlying9) <| VR.p R R (VP.arith R R R) <| VR.nil ?_
  rcases ite_or hm with ⟨h3, hm⟩ | ⟨h3, hm⟩
  ·refine VW.condT R h3 <| VW.skip <| VW.block <| VW.seq <| VW.region <| VR.p R R (VP.move R) <| VR.p R R (VP.move R) ?_
   obtain ⟨r, h4, hm⟩ := bnd hm
   refine VR.cons R R (VO.callK 0 R fn43 R (ref01_Rune_ok s i2 r h4) fun _ _ h10 => ?_)
   obtain ⟨rfl, rfl⟩ := h10
   refine VR.p R R (VP.move R) <| VR.p R R (VP.extract R R) <| VR.p R R (VP.extract R R) <| VR.p R R (VP.assign R) <| VR.p R R (VP.assign R) <| VR.nil <| VW.seq <| VW.seq <| VW.region <| VR.p R R (VP.move R) <| VR.p R R (VP.arith R R R) <| VR.p R R (VP.move R) ?_
   obtain ⟨c, h8, hm⟩ := bnd hm
   refine VR.sc 4 23 (.bool c) (fun K' J => ?_) ?_
   ·have hm := h8
    rcases ite_or hm with ⟨h5, hm⟩ | ⟨h5, hm⟩
    ·refine VR.skipG R R R R h5 <| VR.skipG R R R R h5 <| VR.skipG R R R R h5 <| VR.p R R (VP.pickB true R h5 R) ?_
     exact J [_, _, _] _ R (congrArg VV.bool (Option.some.inj hm))
    ·have h5 := bf h5
     refine VR.pG R R R R h5 (VP.move R) ?_
     obtain ⟨r2, h6, hm⟩ := bnd hm
     refine VR.consG R R R R h5 (VO.callK 0 R fn44 R (ref01_plain_ok r.1 r2 h6) fun _ _ h7 => ?_)
     obtain ⟨rfl, rfl⟩ := h7
     refine VR.pG R R R R h5 (VP.not R) <| VR.p R R (VP.pickB false R h5 R) ?_
     exact J [_, _, _] _ R (congrArg VV.bool (Option.some.inj hm))
   ·refine VR.nil ?_
    rcases ite_or hm with ⟨h9, hm⟩ | ⟨h9, hm⟩
    ·refine VW.condT R h9 <| VW.seq <| VW.region <| VR.p R R (VP.assign R) <| VR.nil ?_
     obtain rfl := Option.some.inj hm
     have hm := Out.ret_on h2
     obtain rfl := Option.some.inj hm
     exact VW.ret ⟨.inl R, _, .cons (.tmp _ _ R) .nil, [], _, R, R, R⟩
    ·have h9 := bf h9
     refine VW.condF R h9 <| VW.skip <| VW.seq <| VW.region <| VR.p R R (VP.move R) <| VR.p R R (VP.arith R R R) <| VR.p R R (VP.assign R) <| VR.nil <| VW.region <| VR.p R R (VP.move R) <| VR.p R R (VP.move R) <| VR.p R R (VP.arith R R R) <| VR.p R R (VP.assign R) <| VR.nil ?_
     exact ⟨((IntKind.i64.wrap (n2 + (1 : Int))), (IntKind.i64.wrap (i2 + r.2))), (), hm, (Shift.pick [] R ⟨R, R, R, trivial⟩)⟩
  ·have h3 := bf h3
   refine VW.condF R h3 <| VW.exit ?_
   exact ⟨n2, (), (Option.some.inj hm).symm, (Shift.pick [] R ⟨R, trivial⟩)⟩
 ·rintro n32 _ rfl
  have hm := Out.go_on h2
  refine VW.seq <| VW.region <| VR.p R R (VP.move R) <| VR.p R R (VP.arith R R R) <| VR.p R R (VP.move R) ?_
  refine VR.sc 3 34 (.bool ((decide (n32 ≥ (1 : Int))) && (decide (n32 ≤ (64 : Int))))) (fun K' J => ?_) ?_
  ·rcases Bool.eq_false_or_eq_true (decide (n32 ≥ (1 : Int))) with h11 | h11
   ·refine VR.pG R R R R h11 (VP.move R) <| VR.pG R R R R h11 (VP.arith R R R) <| VR.p R R (VP.pickB true R h11 R) ?_
    exact J [_, _] _ R (andT h11)
   ·refine VR.skipG R R R R h11 <| VR.skipG R R R R h11 <| VR.p R R (VP.pickB false R h11 R) ?_
    exact J [_, _] _ R (andF h11)
  ·refine VR.p R R (VP.assign R) <| VR.nil ?_
   obtain rfl := Option.some.inj hm
   exact VW.ret ⟨.inl R, _, .cons (.tmp _ _ R) .nil, [], _, R, R, R⟩

/-! trireme/triremeref01.Quote -/
def ref01_Quote.l1 (s : ByteArray) : Nat → (List Int) → Int → Option (List Int)
 | 0, _, _ => none
 | n + 1, b3, i2 =>
  if (decide (i2 < (s.size : Int))) = true then
   (V.gi s i2).bind fun v =>
   if (v == (10 : Int)) = true then
    (V.ap 1 b3 [(92 : Int), (110 : Int)]).bind fun b6 =>
    ref01_Quote.l1 s n b6 (IntKind.i64.wrap (i2 + (1 : Int)))
   else
    if (v == (34 : Int)) = true then
     (V.gi s i2).bind fun v2 =>
     (V.ap 1 b3 [(92 : Int), v2]).bind fun b8 =>
     ref01_Quote.l1 s n b8 (IntKind.i64.wrap (i2 + (1 : Int)))
    else
     if (v == (92 : Int)) = true then
      (V.gi s i2).bind fun v3 =>
      (V.ap 1 b3 [(92 : Int), v3]).bind fun b10 =>
      ref01_Quote.l1 s n b10 (IntKind.i64.wrap (i2 + (1 : Int)))
     else
      (V.gi s i2).bind fun v4 =>
      (V.ap 1 b3 [v4]).bind fun b12 =>
      ref01_Quote.l1 s n b12 (IntKind.i64.wrap (i2 + (1 : Int)))
  else
   some b3
def ref01_Quote (s : ByteArray) : Option ByteArray :=
 (ref01_Quote.l1 s FU [(34 : Int)] (0 : Int)).bind fun b42 =>
 (V.ap 1 b42 [(34 : Int)]).bind fun b14 =>
 some (strOfNums b14)
theorem ref01_Quote_ok (s : ByteArray) (r : ByteArray) (hm : ref01_Quote s = some r) :
  VC Try.prog 37 [.str s] [] (fun zx zH => zx = .str r ∧ zH = []) := by
 unfold ref01_Quote at hm
 refine VC.run (c := _) (rs := [.tmp 2]) Try.func37 R R R <| VW.seq <| VW.region <| VR.p R R (VP.assign R) <| VR.nil <| VW.seq <| VW.region ?_
 refine VR.cons R R (VO.buildSlice ap64 R R R R R fun b => ?_)
 refine VR.p R R (VP.assign R) <| VR.nil <| VW.seq <| VW.seq <| VW.region <| VR.p R R (VP.assign R) <| VR.nil ?_
 obtain ⟨o, h2, h3⟩ := bnd hm
 refine VW.joinE (fun (q : List Int) => q = o) (fun (b42 : List Int) (gg : Option Nat × Nat) => [(3, .sl gg.1 (List.map (VV.int .u8) b42).length gg.2)]) (fun (b42 : List Int) (gg : Option Nat × Nat) => [.row gg.1 5 gg.2 (List.map (VV.int .u8) b42)]) ?_ ?_
 ·have hm := h2
  refine VW.block (VW.loop FU ?_)
  refine VL.fuelS (R := _) (fun zn (zs : List Int × Int) => ref01_Quote.l1 s zn zs.1 zs.2) (fun (zs : List Int × Int) (zg : Option Nat × Nat) => [(0, .str s), (3, .sl zg.1 (List.map (VV.int .u8) zs.1).length zg.2), (4, .int .i64 zs.2)]) (fun (zs : List Int × Int) (zg : Option Nat × Nat) => [.row zg.1 5 zg.2 (List.map (VV.int .u8) zs.1)]) ([(34 : Int)], (0 : Int)) ((some b), 1) (fun zs => R) (Shift.pick [0] R ⟨R, R, R, trivial⟩) h2 ?_
  rintro n ⟨b3, i2⟩ ⟨ob2, cap2⟩ hm
  rw [ref01_Quote.l1] at hm
  refine VW.seq <| VW.seq <| VW.region <| VR.p R R (VP.move R) <| VR.p R R (VP.move R) <| VR.p R R (VP.lenS R Try.underlying9) <| VR.p R R (VP.arith R R R) <| VR.nil ?_
  rcases ite_or hm with ⟨h4, hm⟩ | ⟨h4, hm⟩
  ·refine VW.condT R h4 <| VW.skip <| VW.seq <| VW.block <| VW.seq <| VW.region <| VR.p R R (VP.move R) <| VR.p R R (VP.move R) ?_
   obtain ⟨v, h5, hm⟩ := bnd hm
   refine VR.p R R (VP.gi R R Try.underlying9 h5) <| VR.nil <| VW.block <| VW.seq <| VW.region <| VR.p R R (VP.arith R R R) <| VR.p R R (VP.assign R) <| VR.nil ?_
   rcases ite_or hm with ⟨h6, hm⟩ | ⟨h6, hm⟩
   ·refine VW.condT R h6 <| VW.region <| VR.p R R (VP.move R) ?_
    refine VR.cons R R (VO.buildSlice ap64 R R R R R fun b5 => ?_)
    obtain ⟨b6, h8, hm⟩ := bnd hm
    refine VR.cons R R (VO.apT 1 (VV.int .u8) (l := b3) (l2 := [(92 : Int), (110 : Int)]) ap64 R R (sT_row 0 (VV.int .u8) el64 R R) h8 fun ob4 cap4 => ?_)
    refine VR.p R R (VP.assign R) <| VR.nil <| VW.region <| VR.p R R (VP.move R) <| VR.p R R (VP.arith R R R) <| VR.p R R (VP.assign R) <| VR.nil ?_
    exact ⟨(b6, (IntKind.i64.wrap (i2 + (1 : Int)))), (ob4, cap4), hm, (Shift.pick [1] R ⟨R, R, R, trivial⟩)⟩
   ·have h6 := bf h6
    refine VW.condF R h6 <| VW.seq <| VW.seq <| VW.region <| VR.p R R (VP.arith R R R) <| VR.p R R (VP.assign R) <| VR.nil ?_
    rcases ite_or hm with ⟨h9, hm⟩ | ⟨h9, hm⟩
    ·refine VW.condT R h9 <| VW.skip <| VW.condT R h9 <| VW.region <| VR.p R R (VP.move R) <| VR.p R R (VP.move R) <| VR.p R R (VP.move R) ?_
     obtain ⟨v2, h10, hm⟩ := bnd hm
     refine VR.p R R (VP.gi R R Try.underlying9 h10) ?_
     refine VR.cons R R (VO.buildSlice ap64 R R R R R fun b7 => ?_)
     obtain ⟨b8, h12, hm⟩ := bnd hm
     refine VR.cons R R (VO.apT 1 (VV.int .u8) (l := b3) (l2 := [(92 : Int), v2]) ap64 R R (sT_row 0 (VV.int .u8) el64 R R) h12 fun ob5 cap5 => ?_)
     refine VR.p R R (VP.assign R) <| VR.nil <| VW.region <| VR.p R R (VP.move R) <| VR.p R R (VP.arith R R R) <| VR.p R R (VP.assign R) <| VR.nil ?_
     exact ⟨(b8, (IntKind.i64.wrap (i2 + (1 : Int)))), (ob5, cap5), hm, (Shift.pick [1] R ⟨R, R, R, trivial⟩)⟩
    ·have h9 := bf h9
     refine VW.condF R h9 <| VW.region <| VR.p R R (VP.arith R R R) <| VR.p R R (VP.assign R) <| VR.nil ?_
     rcases ite_or hm with ⟨h13, hm⟩ | ⟨h13, hm⟩
     ·refine VW.condT R h13 <| VW.region <| VR.p R R (VP.move R) <| VR.p R R (VP.move R) <| VR.p R R (VP.move R) ?_
      obtain ⟨v3, h14, hm⟩ := bnd hm
      refine VR.p R R (VP.gi R R Try.underlying9 h14) ?_
      refine VR.cons R R (VO.buildSlice ap64 R R R R R fun b9 => ?_)
      obtain ⟨b10, h16, hm⟩ := bnd hm
      refine VR.cons R R (VO.apT 1 (VV.int .u8) (l := b3) (l2 := [(92 : Int), v3]) ap64 R R (sT_row 0 (VV.int .u8) el64 R R) h16 fun ob6 cap6 => ?_)
      refine VR.p R R (VP.assign R) <| VR.nil <| VW.region <| VR.p R R (VP.move R) <| VR.p R R (VP.arith R R R) <| VR.p R R (VP.assign R) <| VR.nil ?_
      exact ⟨(b10, (IntKind.i64.wrap (i2 + (1 : Int)))), (ob6, cap6), hm, (Shift.pick [1] R ⟨R, R, R, trivial⟩)⟩
     ·have h13 := bf h13
      refine VW.condF R h13 <| VW.region <| VR.p R R (VP.move R) <| VR.p R R (VP.move R) <| VR.p R R (VP.move R) ?_
      obtain ⟨v4, h17, hm⟩ := bnd hm
      refine VR.p R R (VP.gi R R Try.underlying9 h17) ?_
      refine VR.cons R R (VO.buildSlice ap64 R R R R R fun b11 => ?_)
      obtain ⟨b12, h19, hm⟩ := bnd hm
      refine VR.cons R R (VO.apT 1 (VV.int .u8) (l := b3) (l2 := [v4]) ap64 R R (sT_row 0 (VV.int .u8) el64 R R) h19 fun ob7 cap7 => ?_)
      refine VR.p R R (VP.assign R) <| VR.nil <| VW.region <| VR.p R R (VP.move R) <| VR.p R R (VP.arith R R R) <| VR.p R R (VP.assign R) <| VR.nil ?_
      exact ⟨(b12, (IntKind.i64.wrap (i2 + (1 : Int)))), (ob7, cap7), hm, (Shift.pick [1] R ⟨R, R, R, trivial⟩)⟩
  ·have h4 := bf h4
   refine VW.condF R h4 <| VW.exit ?_
   exact ⟨b3, (ob2, cap2), Option.some.inj hm, (Shift.pick [0] R ⟨R, trivial⟩)⟩
 ·rintro b42 ⟨ob3, cap3⟩ rfl
  have hm := h3
  refine VW.seq <| VW.region <| VR.p R R (VP.move R) ?_
  refine VR.cons R R (VO.buildSlice ap64 R R R R R fun b13 => ?_)
  obtain ⟨b14, h21, hm⟩ := bnd hm
  refine VR.cons R R (VO.apT 1 (VV.int .u8) (l := b42) (l2 := [(34 : Int)]) ap64 R R (sT_row 0 (VV.int .u8) el64 R R) h21 fun ob8 cap8 => ?_)
  refine VR.p R R (VP.convB (i := 1) (l := b14) el64 Try.underlying5 Try.underlying9 R R) <| VR.p R R (VP.assign R) <| VR.nil ?_
  obtain rfl := Option.some.inj hm
  exact VW.ret ⟨.inl R, _, .cons (.tmp _ _ R) .nil, [], _, R, R, R⟩

/-! trireme/triremeref01.Runes -/
def ref01_Runes.l1 (s : ByteArray) : Nat → Int → Int → Option (Out Int Int)
 | 0, _, _ => none
 | n4 + 1, n2, i2 =>
  if (decide (i2 < (s.size : Int))) = true then
   (ref01_Rune s i2).bind fun r =>
   if (r.2 == (0 : Int)) = true then
    some (Out.ret (-1 : Int))
   else
    ref01_Runes.l1 s n4 (IntKind.i64.wrap (n2 + (1 : Int))) (IntKind.i64.wrap (i2 + r.2))
  else
   some (Out.go n2)
def ref01_Runes (s : ByteArray) : Option Int :=
 (ref01_Runes.l1 s FU (0 : Int) (0 : Int)).bind fun o =>
 o.on fun n32 =>
 some n32
theorem ref01_Runes_ok (s : ByteArray) (r : Int) (hm : ref01_Runes s = some r) :
  VC Try.prog 57 [.str s] [] (fun zx zH => zx = .int .i64 r ∧ zH = []) := by
 unfold ref01_Runes at hm
 refine VC.run (c := _) (rs := [.tmp 2]) Try.func57 R R R <| VW.seq <| VW.region <| VR.p R R (VP.assign R) <| VR.nil <| VW.seq <| VW.region <| VR.p R R (VP.assign R) <| VR.nil <| VW.seq <| VW.seq <| VW.region <| VR.p R R (VP.assign R) <| VR.nil ?_
 obtain ⟨o, h1, h2⟩ := bnd hm
 refine VW.joinE (fun (q : Int) => o = Out.go q) (fun (n32 : Int) (gg : Unit) => [(3, .int .i64 n32)]) (fun (n32 : Int) (gg : Unit) => []) ?_ ?_
 ·have hm := h1
  refine VW.block (VW.loop FU ?_)
  refine VL.fuelS (R := _) (fun zn (zs : Int × Int) => ref01_Runes.l1 s zn zs.1 zs.2) (fun (zs : Int × Int) (zg : Unit) => [(0, .str s), (3, .int .i64 zs.1), (4, .int .i64 zs.2)]) (fun (zs : Int × Int) (zg : Unit) => []) ((0 : Int), (0 : Int)) () (fun zs => R) (Shift.pick [] R ⟨R, R, R, trivial⟩) h1 ?_
  rintro n4 ⟨n2, i2⟩ _ hm
  rw [ref01_Runes.l1] at hm
  refine VW.seq <| VW.seq <| VW.region <| VR.p R R (VP.move R) <| VR.p R R (VP.move R) <| VR.p R R (VP.lenS R Try.underlying9) <| VR.p R R (VP.arith R R R) <| VR.nil ?_
  rcases ite_or hm with ⟨h3, hm⟩ | ⟨h3, hm⟩
  ·refine VW.condT R h3 <| VW.skip <| VW.block <| VW.seq <| VW.region <| VR.p R R (VP.move R) <| VR.p R R (VP.move R) ?_
   obtain ⟨r, h4, hm⟩ := bnd hm
   refine VR.cons R R (VO.callK 0 R fn43 R (ref01_Rune_ok s i2 r h4) fun _ _ h6 => ?_)
   obtain ⟨rfl, rfl⟩ := h6
   refine VR.p R R (VP.move R) <| VR.p R R (VP.extract R R) <| VR.p R R (VP.extract R R) <| VR.p R R (VP.assign R) <| VR.p R R (VP.assign R) <| VR.nil <| VW.seq <| VW.seq <| VW.region <| VR.p R R (VP.move R) <| VR.p R R (VP.arith R R R) <| VR.nil ?_
   rcases ite_or hm with ⟨h5, hm⟩ | ⟨h5, hm⟩
   ·refine VW.condT R h5 <| VW.seq <| VW.region <| VR.p R R (VP.assign R) <| VR.nil ?_
    obtain rfl := Option.some.inj hm
    have hm := Out.ret_on h2
    obtain rfl := Option.some.inj hm
    exact VW.ret ⟨.inl R, _, .cons (.tmp _ _ R) .nil, [], _, R, R, R⟩
   ·have h5 := bf h5
    refine VW.condF R h5 <| VW.skip <| VW.seq <| VW.region <| VR.p R R (VP.move R) <| VR.p R R (VP.arith R R R) <| VR.p R R (VP.assign R) <| VR.nil <| VW.region <| VR.p R R (VP.move R) <| VR.p R R (VP.move R) <| VR.p R R (VP.arith R R R) <| VR.p R R (VP.assign R) <| VR.nil ?_
    exact ⟨((IntKind.i64.wrap (n2 + (1 : Int))), (IntKind.i64.wrap (i2 + r.2))), (), hm, (Shift.pick [] R ⟨R, R, R, trivial⟩)⟩
  ·have h3 := bf h3
   refine VW.condF R h3 <| VW.exit ?_
   exact ⟨n2, (), (Option.some.inj hm).symm, (Shift.pick [] R ⟨R, trivial⟩)⟩
 ·rintro n32 _ rfl
  have hm := Out.go_on h2
  refine VW.seq <| VW.region <| VR.p R R (VP.move R) <| VR.p R R (VP.assign R) <| VR.nil ?_
  obtain rfl := Option.some.inj hm
  exact VW.ret ⟨.inl R, _, .cons (.tmp _ _ R) .nil, [], _, R, R, R⟩

/-! trireme/triremeref01.where -/
def ref01_where.l1 (s : ByteArray) (at_ : Int) : Nat → Int → Int → Int → Option (Int × Int)
 | 0, _, _, _ => none
 | n + 1, line2, from_2, i2 =>
  if (decide (i2 < at_)) = true then
   (V.gi s i2).bind fun v =>
   if (v == (10 : Int)) = true then
    ref01_where.l1 s at_ n (IntKind.i64.wrap (line2 + (1 : Int))) (IntKind.i64.wrap (i2 + (1 : Int))) (IntKind.i64.wrap (i2 + (1 : Int)))
   else
    ref01_where.l1 s at_ n line2 from_2 (IntKind.i64.wrap (i2 + (1 : Int)))
  else
   some (line2, from_2)
def ref01_where (s : ByteArray) (at_ : Int) : Option (Int × Int) :=
 (ref01_where.l1 s at_ FU (1 : Int) (0 : Int) (0 : Int)).bind fun j =>
 (V.ss s (some j.2) (some at_)).bind fun v2 =>
 (ref01_Runes v2).bind fun r =>
 some (j.1, (IntKind.i64.wrap ((1 : Int) + r)))
theorem ref01_where_ok (s : ByteArray) (at_ : Int) (r : Int × Int) (hm : ref01_where s at_ = some r) :
  VC Try.prog 45 [.str s, .int .i64 at_] [] (fun zx zH => zx = .tup [.int .i64 r.1, .int .i64 r.2] ∧ zH = []) := by
 unfold ref01_where at hm
 refine VC.run (c := _) (rs := [.tmp 4, .tmp 5]) Try.func45 R R R <| VW.seq <| VW.region <| VR.p R R (VP.assign R) <| VR.p R R (VP.assign R) <| VR.nil <| VW.seq <| VW.region <| VR.p R R (VP.assign R) <| VR.nil <| VW.seq <| VW.region <| VR.p R R (VP.assign R) <| VR.nil <| VW.seq <| VW.seq <| VW.region <| VR.p R R (VP.assign R) <| VR.nil ?_
 obtain ⟨o, h1, h2⟩ := bnd hm
 refine VW.joinE (fun (q : Int × Int) => q = o) (fun (j : Int × Int) (gg : Unit) => [(0, .str s), (1, .int .i64 at_), (6, .int .i64 j.1), (7, .int .i64 j.2)]) (fun (j : Int × Int) (gg : Unit) => []) ?_ ?_
 ·have hm := h1
  refine VW.block (VW.loop FU ?_)
  refine VL.fuelS (R := _) (fun zn (zs : Int × Int × Int) => ref01_where.l1 s at_ zn zs.1 zs.2.1 zs.2.2) (fun (zs : Int × Int × Int) (zg : Unit) => [(0, .str s), (1, .int .i64 at_), (6, .int .i64 zs.1), (7, .int .i64 zs.2.1), (8, .int .i64 zs.2.2)]) (fun (zs : Int × Int × Int) (zg : Unit) => []) ((1 : Int), (0 : Int), (0 : Int)) () (fun zs => R) (Shift.pick [] R ⟨R, R, R, R, R, trivial⟩) h1 ?_
  rintro n ⟨line2, from_2, i2⟩ _ hm
  rw [ref01_where.l1] at hm
  refine VW.seq <| VW.seq <| VW.region <| VR.p R R (VP.move R) <| VR.p R R (VP.move R) <| VR.p R R (VP.arith R R R) <| VR.nil ?_
  rcases ite_or hm with ⟨h3, hm⟩ | ⟨h3, hm⟩
  ·refine VW.condT R h3 <| VW.skip <| VW.seq <| VW.block <| VW.seq <| VW.region <| VR.p R R (VP.move R) <| VR.p R R (VP.move R) ?_
   obtain ⟨v, h4, hm⟩ := bnd hm
   refine VR.p R R (VP.gi R R Try.underlying9 h4) <| VR.p R R (VP.arith R R R) <| VR.nil ?_
   rcases ite_or hm with ⟨h5, hm⟩ | ⟨h5, hm⟩
   ·refine VW.condT R h5 <| VW.seq <| VW.region <| VR.p R R (VP.move R) <| VR.p R R (VP.arith R R R) <| VR.p R R (VP.assign R) <| VR.nil <| VW.region <| VR.p R R (VP.move R) <| VR.p R R (VP.arith R R R) <| VR.p R R (VP.assign R) <| VR.nil <| VW.region <| VR.p R R (VP.move R) <| VR.p R R (VP.arith R R R) <| VR.p R R (VP.assign R) <| VR.nil ?_
    exact ⟨((IntKind.i64.wrap (line2 + (1 : Int))), (IntKind.i64.wrap (i2 + (1 : Int))), (IntKind.i64.wrap (i2 + (1 : Int)))), (), hm, (Shift.pick [] R ⟨R, R, R, R, R, trivial⟩)⟩
   ·have h5 := bf h5
    refine VW.condF R h5 <| VW.skip <| VW.region <| VR.p R R (VP.move R) <| VR.p R R (VP.arith R R R) <| VR.p R R (VP.assign R) <| VR.nil ?_
    exact ⟨(line2, from_2, (IntKind.i64.wrap (i2 + (1 : Int)))), (), hm, (Shift.pick [] R ⟨R, R, R, R, R, trivial⟩)⟩
  ·have h3 := bf h3
   refine VW.condF R h3 <| VW.exit ?_
   exact ⟨(line2, from_2), (), Option.some.inj hm, (Shift.pick [] R ⟨R, R, R, R, trivial⟩)⟩
 ·rintro j _ rfl
  have hm := h2
  refine VW.seq <| VW.region <| VR.p R R (VP.move R) <| VR.p R R (VP.move R) <| VR.p R R (VP.move R) <| VR.p R R (VP.move R) ?_
  obtain ⟨v2, h6, hm⟩ := bnd hm
  refine VR.p R R (VP.ssT R R R Try.underlying9 h6) ?_
  obtain ⟨r, h7, hm⟩ := bnd hm
  refine VR.cons R R (VO.callK 0 R fn57 R (ref01_Runes_ok v2 r h7) fun _ _ h8 => ?_)
  obtain ⟨rfl, rfl⟩ := h8
  refine VR.p R R (VP.arith R R R) <| VR.p R R (VP.assign R) <| VR.p R R (VP.assign R) <| VR.nil ?_
  obtain rfl := Option.some.inj hm
  exact VW.ret ⟨.inl R, _, .cons (.tmp _ _ R) (.cons (.tmp _ _ R) .nil), [], _, R, R, R⟩

/-! trireme/triremeref01.blank -/
def ref01_blank (c : Int) : Option Bool :=
 some ((((c == (32 : Int)) || (c == (9 : Int))) || (c == (10 : Int))) || (c == (13 : Int)))
theorem ref01_blank_ok (c : Int) (r : Bool) (hm : ref01_blank c = some r) :
  VC Try.prog 46 [.int .i64 c] [] (fun zx zH => zx = .bool r ∧ zH = []) := by
 unfold ref01_blank at hm
 refine VC.run (c := _) (rs := [.tmp 2]) Try.func46 R R R <| VW.seq <| VW.region <| VR.p R R (VP.assign R) <| VR.nil <| VW.seq <| VW.region <| VR.p R R (VP.move R) <| VR.p R R (VP.arith R R R) <| VR.p R R (VP.move R) ?_
 refine VR.sc 3 8 (.bool ((c == (32 : Int)) || (c == (9 : Int)))) (fun K' J => ?_) ?_
 ·rcases Bool.eq_false_or_eq_true (c == (32 : Int)) with h1 | h1
  ·refine VR.skipG R R R R h1 <| VR.skipG R R R R h1 <| VR.p R R (VP.pickB true R h1 R) ?_
   exact J [_, _] _ R (orT h1)
  ·refine VR.pG R R R R h1 (VP.move R) <| VR.pG R R R R h1 (VP.arith R R R) <| VR.p R R (VP.pickB false R h1 R) ?_
   exact J [_, _] _ R (orF h1)
 ·refine VR.p R R (VP.move R) ?_
  refine VR.sc 3 12 (.bool (((c == (32 : Int)) || (c == (9 : Int))) || (c == (10 : Int)))) (fun K' J => ?_) ?_
  ·rcases Bool.eq_false_or_eq_true ((c == (32 : Int)) || (c == (9 : Int))) with h2 | h2
   ·refine VR.skipG R R R R h2 <| VR.skipG R R R R h2 <| VR.p R R (VP.pickB true R h2 R) ?_
    exact J [_, _] _ R (orT h2)
   ·refine VR.pG R R R R h2 (VP.move R) <| VR.pG R R R R h2 (VP.arith R R R) <| VR.p R R (VP.pickB false R h2 R) ?_
    exact J [_, _] _ R (orF h2)
  ·refine VR.p R R (VP.move R) ?_
   refine VR.sc 3 16 (.bool ((((c == (32 : Int)) || (c == (9 : Int))) || (c == (10 : Int))) || (c == (13 : Int)))) (fun K' J => ?_) ?_
   ·rcases Bool.eq_false_or_eq_true (((c == (32 : Int)) || (c == (9 : Int))) || (c == (10 : Int))) with h3 | h3
    ·refine VR.skipG R R R R h3 <| VR.skipG R R R R h3 <| VR.p R R (VP.pickB true R h3 R) ?_
     exact J [_, _] _ R (orT h3)
    ·refine VR.pG R R R R h3 (VP.move R) <| VR.pG R R R R h3 (VP.arith R R R) <| VR.p R R (VP.pickB false R h3 R) ?_
     exact J [_, _] _ R (orF h3)
   ·refine VR.p R R (VP.assign R) <| VR.nil ?_
    obtain rfl := Option.some.inj hm
    exact VW.ret ⟨.inl R, _, .cons (.tmp _ _ R) .nil, [], _, R, R, R⟩

/-! trireme/triremeref01.remark -/
def ref01_remark.l1 (s : ByteArray) : Nat → Int → Option (Out (Int × Bool) Int)
 | 0, _ => none
 | n + 1, at_3 =>
  (if (decide (at_3 < (s.size : Int))) = true then (V.gi s at_3).bind fun v =>
  some (v != (10 : Int)) else some false).bind fun c =>
  if c = true then
   (ref01_Rune s at_3).bind fun r =>
   if (r.2 == (0 : Int)) = true then
    some (Out.ret (at_3, false))
   else
    ref01_remark.l1 s n (IntKind.i64.wrap (at_3 + r.2))
  else
   some (Out.go at_3)
def ref01_remark (s : ByteArray) (at_ : Int) : Option (Int × Bool) :=
 (ref01_remark.l1 s FU at_).bind fun o =>
 o.on fun at_42 =>
 some (at_42, true)
theorem ref01_remark_ok (s : ByteArray) (at_ : Int) (r : Int × Bool) (hm : ref01_remark s at_ = some r) :
  VC Try.prog 47 [.str s, .int .i64 at_] [] (fun zx zH => zx = .tup [.int .i64 r.1, .bool r.2] ∧ zH = []) := by
 unfold ref01_remark at hm
 refine VC.run (c := _) (rs := [.tmp 4, .tmp 5]) Try.func47 R R R <| VW.seq <| VW.region <| VR.p R R (VP.assign R) <| VR.p R R (VP.assign R) <| VR.nil ?_
 obtain ⟨o, h1, h2⟩ := bnd hm
 refine VW.join (fun (q : Int) => o = Out.go q) (fun (at_42 : Int) (gg : Unit) => [(1, .int .i64 at_42)]) (fun (at_42 : Int) (gg : Unit) => []) ?_ ?_
 ·have hm := h1
  refine VW.block (VW.loop FU ?_)
  refine VL.fuelS (R := _) (fun zn (zs : Int) => ref01_remark.l1 s zn zs) (fun (zs : Int) (zg : Unit) => [(0, .str s), (1, .int .i64 zs)]) (fun (zs : Int) (zg : Unit) => []) at_ () (fun zs => R) (Shift.pick [] R ⟨R, R, trivial⟩) h1 ?_
  rintro n at_3 _ hm
  rw [ref01_remark.l1] at hm
  refine VW.seq <| VW.seq <| VW.region <| VR.p R R (VP.move R) <| VR.p R R (VP.move R) <| VR.p R R (VP.lenS R Try.underlying9) <| VR.p R R (VP.arith R R R) <| VR.p R R (VP.move R) ?_
  obtain ⟨c, h5, hm⟩ := bnd hm
  refine VR.sc 5 17 (.bool c) (fun K' J => ?_) ?_
  ·have hm := h5
   rcases ite_or hm with ⟨h3, hm⟩ | ⟨h3, hm⟩
   ·refine VR.pG R R R R h3 (VP.move R) <| VR.pG R R R R h3 (VP.move R) ?_
    obtain ⟨v, h4, hm⟩ := bnd hm
    refine VR.pG R R R R h3 (VP.gi R R Try.underlying9 h4) <| VR.pG R R R R h3 (VP.arith R R R) <| VR.p R R (VP.pickB true R h3 R) ?_
    exact J [_, _, _, _] _ R (congrArg VV.bool (Option.some.inj hm))
   ·have h3 := bf h3
    refine VR.skipG R R R R h3 <| VR.skipG R R R R h3 <| VR.skipG R R R R h3 <| VR.skipG R R R R h3 <| VR.p R R (VP.pickB false R h3 R) ?_
    exact J [_, _, _, _] _ R (congrArg VV.bool (Option.some.inj hm))
  ·refine VR.nil ?_
   rcases ite_or hm with ⟨h6, hm⟩ | ⟨h6, hm⟩
   ·refine VW.condT R h6 <| VW.skip <| VW.block <| VW.seq <| VW.region <| VR.p R R (VP.move R) <| VR.p R R (VP.move R) ?_
    obtain ⟨r, h7, hm⟩ := bnd hm
    refine VR.cons R R (VO.callK 0 R fn43 R (ref01_Rune_ok s at_3 r h7) fun _ _ h9 => ?_)
    obtain ⟨rfl, rfl⟩ := h9
    refine VR.p R R (VP.move R) <| VR.p R R (VP.extract R R) <| VR.p R R (VP.extract R R) <| VR.p R R (VP.assign R) <| VR.p R R (VP.assign R) <| VR.nil <| VW.seq <| VW.seq <| VW.region <| VR.p R R (VP.move R) <| VR.p R R (VP.arith R R R) <| VR.nil ?_
    rcases ite_or hm with ⟨h8, hm⟩ | ⟨h8, hm⟩
    ·refine VW.condT R h8 <| VW.seq <| VW.region <| VR.p R R (VP.move R) <| VR.p R R (VP.assign R) <| VR.p R R (VP.assign R) <| VR.nil ?_
     obtain rfl := Option.some.inj hm
     have hm := Out.ret_on h2
     obtain rfl := Option.some.inj hm
     exact VW.ret ⟨.inl R, _, .cons (.tmp _ _ R) (.cons (.tmp _ _ R) .nil), [], _, R, R, R⟩
    ·have h8 := bf h8
     refine VW.condF R h8 <| VW.skip <| VW.region <| VR.p R R (VP.move R) <| VR.p R R (VP.move R) <| VR.p R R (VP.arith R R R) <| VR.p R R (VP.assign R) <| VR.nil ?_
     exact ⟨(IntKind.i64.wrap (at_3 + r.2)), (), hm, (Shift.pick [] R ⟨R, R, trivial⟩)⟩
   ·have h6 := bf h6
    refine VW.condF R h6 <| VW.exit ?_
    exact ⟨at_3, (), (Option.some.inj hm).symm, (Shift.pick [] R ⟨R, trivial⟩)⟩
 ·rintro at_42 _ rfl
  have hm := Out.go_on h2
  refine VW.seq <| VW.region <| VR.p R R (VP.move R) <| VR.p R R (VP.assign R) <| VR.p R R (VP.assign R) <| VR.nil ?_
  obtain rfl := Option.some.inj hm
  exact VW.ret ⟨.inl R, _, .cons (.tmp _ _ R) (.cons (.tmp _ _ R) .nil), [], _, R, R, R⟩

/-! trireme/triremeref01.quoted -/
def ref01_quoted.l1 (s : ByteArray) : Nat → (List Int) → Int → Option (Out (ByteArray × Int × Int × Int) Unit)
 | 0, _, _ => none
 | n + 1, b2, i2 =>
  if (decide (i2 < (s.size : Int))) = true then
   (ref01_Rune s i2).bind fun r =>
   if (((r.2 == (0 : Int)) || (((decide (r.1 < (32 : Int))) && (r.1 != (9 : Int))) && (r.1 != (10 : Int)))) || (r.1 == (127 : Int))) = true then
    some (Out.ret ((⟨#[]⟩ : ByteArray), (0 : Int), (2 : Int), i2))
   else
    if (r.1 == (34 : Int)) = true then
     some (Out.ret ((strOfNums b2), (IntKind.i64.wrap (i2 + (1 : Int))), (0 : Int), (0 : Int)))
    else
     if (r.1 == (92 : Int)) = true then
      (if ((IntKind.i64.wrap (i2 + (1 : Int))) == (s.size : Int)) = true then some true else (V.gi s (IntKind.i64.wrap (i2 + (1 : Int)))).bind fun v =>
      (if (v != (110 : Int)) = true then (V.gi s (IntKind.i64.wrap (i2 + (1 : Int)))).bind fun v2 =>
      some (v2 != (34 : Int)) else some false).bind fun c =>
      (if c = true then (V.gi s (IntKind.i64.wrap (i2 + (1 : Int)))).bind fun v3 =>
      some (v3 != (92 : Int)) else some false).bind fun c2 =>
      some c2).bind fun c3 =>
      if c3 = true then
       some (Out.ret ((⟨#[]⟩ : ByteArray), (0 : Int), (2 : Int), i2))
      else
       (V.gi s (IntKind.i64.wrap (i2 + (1 : Int)))).bind fun v4 =>
       if (v4 == (110 : Int)) = true then
        (V.ap 1 b2 [(10 : Int)]).bind fun b4 =>
        ref01_quoted.l1 s n b4 (IntKind.i64.wrap (i2 + (2 : Int)))
       else
        (V.gi s (IntKind.i64.wrap (i2 + (1 : Int)))).bind fun v5 =>
        (V.ap 1 b2 [v5]).bind fun b6 =>
        ref01_quoted.l1 s n b6 (IntKind.i64.wrap (i2 + (2 : Int)))
     else
      (V.ss s (some i2) (some (IntKind.i64.wrap (i2 + r.2)))).bind fun v6 =>
      (V.ap 1 b2 (V.bytesL v6)).bind fun b7 =>
      ref01_quoted.l1 s n b7 (IntKind.i64.wrap (i2 + r.2))
  else
   some (Out.go ())
def ref01_quoted (s : ByteArray) (at_ : Int) : Option (ByteArray × Int × Int × Int) :=
 (ref01_quoted.l1 s FU ([] : List Int) (IntKind.i64.wrap (at_ + (1 : Int)))).bind fun o =>
 o.on fun j =>
 some ((⟨#[]⟩ : ByteArray), (0 : Int), (3 : Int), at_)
theorem ref01_quoted_ok (s : ByteArray) (at_ : Int) (r : ByteArray × Int × Int × Int) (hm : ref01_quoted s at_ = some r) :
  VC Try.prog 48 [.str s, .int .i64 at_] [] (fun zx zH => zx = .tup [.str r.1, .int .i64 r.2.1, .int .i64 r.2.2.1, .int .i64 r.2.2.2] ∧ zH = []) := by
 unfold ref01_quoted at hm
 refine VC.run (c := _) (rs := [.tmp 4, .tmp 5, .tmp 6, .tmp 7]) Try.func48 R R R <| VW.seq <| VW.region <| VR.p R R (VP.assign R) <| VR.p R R (VP.assign R) <| VR.p R R (VP.assign R) <| VR.p R R (VP.assign R) <| VR.nil <| VW.seq <| VW.region <| VR.p R R (VP.assign R) <| VR.nil <| VW.seq <| VW.seq <| VW.region <| VR.p R R (VP.move R) <| VR.p R R (VP.arith R R R) <| VR.p R R (VP.assign R) <| VR.nil ?_
 obtain ⟨o, h3, h4⟩ := bnd hm
 refine VW.joinE (fun (q : Unit) => o = Out.go q) (fun (j : Unit) (gg : Unit) => [(1, .int .i64 at_)]) (fun (j : Unit) (gg : Unit) => []) ?_ ?_
 ·have hm := h3
  refine VW.block (VW.loop FU ?_)
  refine VL.fuelS (R := _) (fun zn (zs : List Int × Int) => ref01_quoted.l1 s zn zs.1 zs.2) (fun (zs : List Int × Int) (zg : Option Nat × Nat) => [(0, .str s), (1, .int .i64 at_), (8, .sl zg.1 (List.map (VV.int .u8) zs.1).length zg.2), (9, .int .i64 zs.2)]) (fun (zs : List Int × Int) (zg : Option Nat × Nat) => [.row zg.1 5 zg.2 (List.map (VV.int .u8) zs.1)]) (([] : List Int), (IntKind.i64.wrap (at_ + (1 : Int)))) (none, 0) (fun zs => R) (Shift.trans (Shift.nilRow 5) (Shift.pick [0] R ⟨R, R, R, R, trivial⟩)) h3 ?_
  rintro n ⟨b2, i2⟩ ⟨ob2, cap2⟩ hm
  rw [ref01_quoted.l1] at hm
  refine VW.seq <| VW.seq <| VW.region <| VR.p R R (VP.move R) <| VR.p R R (VP.move R) <| VR.p R R (VP.lenS R Try.underlying9) <| VR.p R R (VP.arith R R R) <| VR.nil ?_
  rcases ite_or hm with ⟨h5, hm⟩ | ⟨h5, hm⟩
  ·refine VW.condT R h5 <| VW.skip <| VW.block <| VW.seq <| VW.region <| VR.p R R (VP.move R) <| VR.p R R (VP.move R) ?_
   obtain ⟨r, h6, hm⟩ := bnd hm
   refine VR.cons R R (VO.callK 0 R fn43 R (ref01_Rune_ok s i2 r h6) fun _ _ h33 => ?_)
   obtain ⟨rfl, rfl⟩ := h33
   refine VR.p R R (VP.move R) <| VR.p R R (VP.extract R R) <| VR.p R R (VP.extract R R) <| VR.p R R (VP.assign R) <| VR.p R R (VP.assign R) <| VR.nil <| VW.block <| VW.seq <| VW.region <| VR.p R R (VP.move R) <| VR.p R R (VP.arith R R R) <| VR.p R R (VP.move R) ?_
   refine VR.sc 11 49 (.bool ((r.2 == (0 : Int)) || (((decide (r.1 < (32 : Int))) && (r.1 != (9 : Int))) && (r.1 != (10 : Int))))) (fun K' J => ?_) ?_
   ·rcases Bool.eq_false_or_eq_true (r.2 == (0 : Int)) with h7 | h7
    ·refine VR.skipG R R R R h7 <| VR.skipG R R R R h7 <| VR.skipG R R R R h7 <| VR.skipU R R R R <| VR.skipU R R R R <| VR.skipG R R R R h7 <| VR.skipG R R R R h7 <| VR.skipU R R R R <| VR.skipU R R R R <| VR.skipG R R R R h7 <| VR.p R R (VP.pickB true R h7 R) ?_
     exact J [_, _, _, _, _, _, _, _, _, _] _ R (orT h7)
    ·refine VR.pG R R R R h7 (VP.move R) <| VR.pG R R R R h7 (VP.arith R R R) <| VR.pG R R R R h7 (VP.move R) ?_
     refine VR.sc 3 44 (.bool ((decide (r.1 < (32 : Int))) && (r.1 != (9 : Int)))) (fun K' J => ?_) ?_
     ·rcases Bool.eq_false_or_eq_true (decide (r.1 < (32 : Int))) with h8 | h8
      ·refine VR.pG R R R R h8 (VP.move R) <| VR.pG R R R R h8 (VP.arith R R R) <| VR.pG R R R R h7 (VP.pickB true R h8 R) ?_
       exact J [_, _] _ R (andT h8)
      ·refine VR.skipG R R R R h8 <| VR.skipG R R R R h8 <| VR.pG R R R R h7 (VP.pickB false R h8 R) ?_
       exact J [_, _] _ R (andF h8)
     ·refine VR.pG R R R R h7 (VP.move R) ?_
      refine VR.sc 3 48 (.bool (((decide (r.1 < (32 : Int))) && (r.1 != (9 : Int))) && (r.1 != (10 : Int)))) (fun K' J => ?_) ?_
      ·rcases Bool.eq_false_or_eq_true ((decide (r.1 < (32 : Int))) && (r.1 != (9 : Int))) with h9 | h9
       ·refine VR.pG R R R R h9 (VP.move R) <| VR.pG R R R R h9 (VP.arith R R R) <| VR.pG R R R R h7 (VP.pickB true R h9 R) ?_
        exact J [_, _] _ R (andT h9)
       ·refine VR.skipG R R R R h9 <| VR.skipG R R R R h9 <| VR.pG R R R R h7 (VP.pickB false R h9 R) ?_
        exact J [_, _] _ R (andF h9)
      ·refine VR.p R R (VP.pickB false R h7 R) ?_
       exact J [_, _, _, _, _, _] _ R (orF h7)
   ·refine VR.p R R (VP.move R) ?_
    refine VR.sc 3 53 (.bool (((r.2 == (0 : Int)) || (((decide (r.1 < (32 : Int))) && (r.1 != (9 : Int))) && (r.1 != (10 : Int)))) || (r.1 == (127 : Int)))) (fun K' J => ?_) ?_
    ·rcases Bool.eq_false_or_eq_true ((r.2 == (0 : Int)) || (((decide (r.1 < (32 : Int))) && (r.1 != (9 : Int))) && (r.1 != (10 : Int)))) with h10 | h10
     ·refine VR.skipG R R R R h10 <| VR.skipG R R R R h10 <| VR.p R R (VP.pickB true R h10 R) ?_
      exact J [_, _] _ R (orT h10)
     ·refine VR.pG R R R R h10 (VP.move R) <| VR.pG R R R R h10 (VP.arith R R R) <| VR.p R R (VP.pickB false R h10 R) ?_
      exact J [_, _] _ R (orF h10)
    ·refine VR.p R R (VP.assign R) <| VR.nil ?_
     rcases ite_or hm with ⟨h11, hm⟩ | ⟨h11, hm⟩
     ·refine VW.condT R h11 <| VW.seq <| VW.region <| VR.p R R (VP.move R) <| VR.p R R (VP.assign R) <| VR.p R R (VP.assign R) <| VR.p R R (VP.assign R) <| VR.p R R (VP.assign R) <| VR.nil ?_
      obtain rfl := Option.some.inj hm
      have hm := Out.ret_on h4
      obtain rfl := Option.some.inj hm
      exact VW.ret ⟨.inl R, _, .cons (.tmp _ _ R) (.cons (.tmp _ _ R) (.cons (.tmp _ _ R) (.cons (.tmp _ _ R) .nil))), [], _, R, R, R⟩
     ·have h11 := bf h11
      refine VW.condF R h11 <| VW.seq <| VW.region <| VR.p R R (VP.move R) <| VR.p R R (VP.arith R R R) <| VR.p R R (VP.assign R) <| VR.nil ?_
      rcases ite_or hm with ⟨h12, hm⟩ | ⟨h12, hm⟩
      ·refine VW.condT R h12 <| VW.seq <| VW.region <| VR.p R R (VP.move R) <| VR.p R R (VP.convB (i := 0) (l := b2) el64 Try.underlying5 Try.underlying9 R R) <| VR.p R R (VP.move R) <| VR.p R R (VP.arith R R R) <| VR.p R R (VP.assign R) <| VR.p R R (VP.assign R) <| VR.p R R (VP.assign R) <| VR.p R R (VP.assign R) <| VR.nil ?_
       obtain rfl := Option.some.inj hm
       have hm := Out.ret_on h4
       obtain rfl := Option.some.inj hm
       exact VW.ret ⟨.inl R, _, .cons (.tmp _ _ R) (.cons (.tmp _ _ R) (.cons (.tmp _ _ R) (.cons (.tmp _ _ R) .nil))), [], _, R, R, R⟩
      ·have h12 := bf h12
       refine VW.condF R h12 <| VW.seq <| VW.region <| VR.p R R (VP.move R) <| VR.p R R (VP.arith R R R) <| VR.p R R (VP.assign R) <| VR.nil ?_
       rcases ite_or hm with ⟨h13, hm⟩ | ⟨h13, hm⟩
       ·refine VW.condT R h13 <| VW.seq <| VW.seq <| VW.region <| VR.p R R (VP.move R) <| VR.p R R (VP.arith R R R) <| VR.p R R (VP.move R) <| VR.p R R (VP.lenS R Try.underlying9) <| VR.p R R (VP.arith R R R) <| VR.p R R (VP.move R) ?_
        obtain ⟨c3, h22, hm⟩ := bnd hm
        refine VR.sc 20 90 (.bool c3) (fun K' J => ?_) ?_
        ·have hm := h22
         rcases ite_or hm with ⟨h14, hm⟩ | ⟨h14, hm⟩
         ·refine VR.skipG R R R R h14 <| VR.skipG R R R R h14 <| VR.skipG R R R R h14 <| VR.skipG R R R R h14 <| VR.skipG R R R R h14 <| VR.skipG R R R R h14 <| VR.skipU R R R R <| VR.skipU R R R R <| VR.skipU R R R R <| VR.skipU R R R R <| VR.skipU R R R R <| VR.skipG R R R R h14 <| VR.skipG R R R R h14 <| VR.skipU R R R R <| VR.skipU R R R R <| VR.skipU R R R R <| VR.skipU R R R R <| VR.skipU R R R R <| VR.skipG R R R R h14 <| VR.p R R (VP.pickB true R h14 R) ?_
          exact J [_, _, _, _, _, _, _, _, _, _, _, _, _, _, _, _, _, _, _] _ R (congrArg VV.bool (Option.some.inj hm))
         ·have h14 := bf h14
          refine VR.pG R R R R h14 (VP.move R) <| VR.pG R R R R h14 (VP.move R) <| VR.pG R R R R h14 (VP.arith R R R) ?_
          obtain ⟨v, h15, hm⟩ := bnd hm
          refine VR.pG R R R R h14 (VP.gi R R Try.underlying9 h15) <| VR.pG R R R R h14 (VP.arith R R R) <| VR.pG R R R R h14 (VP.move R) ?_
          obtain ⟨c, h18, hm⟩ := bnd hm
          refine VR.sc 6 82 (.bool c) (fun K' J => ?_) ?_
          ·have hm := h18
           rcases ite_or hm with ⟨h16, hm⟩ | ⟨h16, hm⟩
           ·refine VR.pG R R R R h16 (VP.move R) <| VR.pG R R R R h16 (VP.move R) <| VR.pG R R R R h16 (VP.arith R R R) ?_
            obtain ⟨v2, h17, hm⟩ := bnd hm
            refine VR.pG R R R R h16 (VP.gi R R Try.underlying9 h17) <| VR.pG R R R R h16 (VP.arith R R R) <| VR.pG R R R R h14 (VP.pickB true R h16 R) ?_
            exact J [_, _, _, _, _] _ R (congrArg VV.bool (Option.some.inj hm))
           ·have h16 := bf h16
            refine VR.skipG R R R R h16 <| VR.skipG R R R R h16 <| VR.skipG R R R R h16 <| VR.skipG R R R R h16 <| VR.skipG R R R R h16 <| VR.pG R R R R h14 (VP.pickB false R h16 R) ?_
            exact J [_, _, _, _, _] _ R (congrArg VV.bool (Option.some.inj hm))
          ·refine VR.pG R R R R h14 (VP.move R) ?_
           obtain ⟨c2, h21, hm⟩ := bnd hm
           refine VR.sc 6 89 (.bool c2) (fun K' J => ?_) ?_
           ·have hm := h21
            rcases ite_or hm with ⟨h19, hm⟩ | ⟨h19, hm⟩
            ·refine VR.pG R R R R h19 (VP.move R) <| VR.pG R R R R h19 (VP.move R) <| VR.pG R R R R h19 (VP.arith R R R) ?_
             obtain ⟨v3, h20, hm⟩ := bnd hm
             refine VR.pG R R R R h19 (VP.gi R R Try.underlying9 h20) <| VR.pG R R R R h19 (VP.arith R R R) <| VR.pG R R R R h14 (VP.pickB true R h19 R) ?_
             exact J [_, _, _, _, _] _ R (congrArg VV.bool (Option.some.inj hm))
            ·have h19 := bf h19
             refine VR.skipG R R R R h19 <| VR.skipG R R R R h19 <| VR.skipG R R R R h19 <| VR.skipG R R R R h19 <| VR.skipG R R R R h19 <| VR.pG R R R R h14 (VP.pickB false R h19 R) ?_
             exact J [_, _, _, _, _] _ R (congrArg VV.bool (Option.some.inj hm))
           ·refine VR.p R R (VP.pickB false R h14 R) ?_
            exact J [_, _, _, _, _, _, _, _, _] _ R (congrArg VV.bool (Option.some.inj hm))
        ·refine VR.nil ?_
         rcases ite_or hm with ⟨h23, hm⟩ | ⟨h23, hm⟩
         ·refine VW.condT R h23 <| VW.seq <| VW.region <| VR.p R R (VP.move R) <| VR.p R R (VP.assign R) <| VR.p R R (VP.assign R) <| VR.p R R (VP.assign R) <| VR.p R R (VP.assign R) <| VR.nil ?_
          obtain rfl := Option.some.inj hm
          have hm := Out.ret_on h4
          obtain rfl := Option.some.inj hm
          exact VW.ret ⟨.inl R, _, .cons (.tmp _ _ R) (.cons (.tmp _ _ R) (.cons (.tmp _ _ R) (.cons (.tmp _ _ R) .nil))), [], _, R, R, R⟩
         ·have h23 := bf h23
          refine VW.condF R h23 <| VW.skip <| VW.seq <| VW.seq <| VW.region <| VR.p R R (VP.move R) <| VR.p R R (VP.move R) <| VR.p R R (VP.arith R R R) ?_
          obtain ⟨v4, h24, hm⟩ := bnd hm
          refine VR.p R R (VP.gi R R Try.underlying9 h24) <| VR.p R R (VP.arith R R R) <| VR.nil ?_
          rcases ite_or hm with ⟨h25, hm⟩ | ⟨h25, hm⟩
          ·refine VW.condT R h25 <| VW.region <| VR.p R R (VP.move R) ?_
           refine VR.cons R R (VO.buildSlice ap64 R R R R R fun b3 => ?_)
           obtain ⟨b4, h27, hm⟩ := bnd hm
           refine VR.cons R R (VO.apT 1 (VV.int .u8) (l := b2) (l2 := [(10 : Int)]) ap64 R R (sT_row 0 (VV.int .u8) el64 R R) h27 fun ob3 cap3 => ?_)
           refine VR.p R R (VP.assign R) <| VR.nil <| VW.region <| VR.p R R (VP.move R) <| VR.p R R (VP.arith R R R) <| VR.p R R (VP.assign R) <| VR.nil ?_
           exact ⟨(b4, (IntKind.i64.wrap (i2 + (2 : Int)))), (ob3, cap3), hm, (Shift.pick [1] R ⟨R, R, R, R, trivial⟩)⟩
          ·have h25 := bf h25
           refine VW.condF R h25 <| VW.region <| VR.p R R (VP.move R) <| VR.p R R (VP.move R) <| VR.p R R (VP.move R) <| VR.p R R (VP.arith R R R) ?_
           obtain ⟨v5, h28, hm⟩ := bnd hm
           refine VR.p R R (VP.gi R R Try.underlying9 h28) ?_
           refine VR.cons R R (VO.buildSlice ap64 R R R R R fun b5 => ?_)
           obtain ⟨b6, h30, hm⟩ := bnd hm
           refine VR.cons R R (VO.apT 1 (VV.int .u8) (l := b2) (l2 := [v5]) ap64 R R (sT_row 0 (VV.int .u8) el64 R R) h30 fun ob4 cap4 => ?_)
           refine VR.p R R (VP.assign R) <| VR.nil <| VW.region <| VR.p R R (VP.move R) <| VR.p R R (VP.arith R R R) <| VR.p R R (VP.assign R) <| VR.nil ?_
           exact ⟨(b6, (IntKind.i64.wrap (i2 + (2 : Int)))), (ob4, cap4), hm, (Shift.pick [1] R ⟨R, R, R, R, trivial⟩)⟩
       ·have h13 := bf h13
        refine VW.condF R h13 <| VW.seq <| VW.region <| VR.p R R (VP.move R) <| VR.p R R (VP.move R) <| VR.p R R (VP.move R) <| VR.p R R (VP.move R) <| VR.p R R (VP.move R) <| VR.p R R (VP.arith R R R) ?_
        obtain ⟨v6, h31, hm⟩ := bnd hm
        refine VR.p R R (VP.ssT R R R Try.underlying9 h31) ?_
        obtain ⟨b7, h32, hm⟩ := bnd hm
        refine VR.cons R R (VO.apS 0 (l := b2) ap64 u8z5 Try.underlying9 R R R h32 fun ob5 cap5 => ?_)
        refine VR.p R R (VP.assign R) <| VR.nil <| VW.region <| VR.p R R (VP.move R) <| VR.p R R (VP.move R) <| VR.p R R (VP.arith R R R) <| VR.p R R (VP.assign R) <| VR.nil ?_
        exact ⟨(b7, (IntKind.i64.wrap (i2 + r.2))), (ob5, cap5), hm, (Shift.pick [0] R ⟨R, R, R, R, trivial⟩)⟩
  ·have h5 := bf h5
   refine VW.condF R h5 <| VW.exit ?_
   exact ⟨(), (), (Option.some.inj hm).symm, (Shift.pick [] R ⟨R, trivial⟩)⟩
 ·rintro j _ rfl
  have hm := Out.go_on h4
  refine VW.seq <| VW.region <| VR.p R R (VP.move R) <| VR.p R R (VP.assign R) <| VR.p R R (VP.assign R) <| VR.p R R (VP.assign R) <| VR.p R R (VP.assign R) <| VR.nil ?_
  obtain rfl := Option.some.inj hm
  exact VW.ret ⟨.inl R, _, .cons (.tmp _ _ R) (.cons (.tmp _ _ R) (.cons (.tmp _ _ R) (.cons (.tmp _ _ R) .nil))), [], _, R, R, R⟩

/-! trireme/triremeref01.word -/
def ref01_word.l1 (s : ByteArray) : Nat → Int → Option Int
 | 0, _ => none
 | n + 1, i2 =>
  if (decide (i2 < (s.size : Int))) = true then
   (ref01_Rune s i2).bind fun r =>
   (if (r.2 == (0 : Int)) = true then some true else (ref01_plain r.1).bind fun r2 =>
   some (!r2)).bind fun c =>
   if c = true then
    some i2
   else
    ref01_word.l1 s n (IntKind.i64.wrap (i2 + r.2))
  else
   some i2
def ref01_word (s : ByteArray) (at_ : Int) : Option (Int × Int × Int) :=
 (ref01_word.l1 s FU at_).bind fun i32 =>
 if (i32 == at_) = true then
  some ((0 : Int), (2 : Int), at_)
 else
  (V.ss s (some at_) (some i32)).bind fun v =>
  (ref01_Runes v).bind fun r3 =>
  if (decide (r3 > (64 : Int))) = true then
   some ((0 : Int), (4 : Int), at_)
  else
   some (i32, (0 : Int), (0 : Int))
theorem ref01_word_ok (s : ByteArray) (at_ : Int) (r : Int × Int × Int) (hm : ref01_word s at_ = some r) :
  VC Try.prog 49 [.str s, .int .i64 at_] [] (fun zx zH => zx = .tup [.int .i64 r.1, .int .i64 r.2.1, .int .i64 r.2.2] ∧ zH = []) := by
 unfold ref01_word at hm
 refine VC.run (c := _) (rs := [.tmp 4, .tmp 5, .tmp 6]) Try.func49 R R R <| VW.seq <| VW.region <| VR.p R R (VP.assign R) <| VR.p R R (VP.assign R) <| VR.p R R (VP.assign R) <| VR.nil <| VW.seq <| VW.region <| VR.p R R (VP.move R) <| VR.p R R (VP.assign R) <| VR.nil ?_
 obtain ⟨o, h1, h2⟩ := bnd hm
 refine VW.join (fun (q : Int) => q = o) (fun (i32 : Int) (gg : Unit) => [(0, .str s), (1, .int .i64 at_), (7, .int .i64 i32)]) (fun (i32 : Int) (gg : Unit) => []) ?_ ?_
 ·have hm := h1
  refine VW.block (VW.loop FU ?_)
  refine VL.fuelS (R := _) (fun zn (zs : Int) => ref01_word.l1 s zn zs) (fun (zs : Int) (zg : Unit) => [(0, .str s), (1, .int .i64 at_), (7, .int .i64 zs)]) (fun (zs : Int) (zg : Unit) => []) at_ () (fun zs => R) (Shift.pick [] R ⟨R, R, R, trivial⟩) h1 ?_
  rintro n i2 _ hm
  rw [ref01_word.l1] at hm
  refine VW.seq <| VW.seq <| VW.region <| VR.p R R (VP.move R) <| VR.p R R (VP.move R) <| VR.p R R (VP.lenS R Try.underlying9) <| VR.p R R (VP.arith R R R) <| VR.nil ?_
  rcases ite_or hm with ⟨h3, hm⟩ | ⟨h3, hm⟩
  ·refine VW.condT R h3 <| VW.skip <| VW.block <| VW.seq <| VW.region <| VR.p R R (VP.move R) <| VR.p R R (VP.move R) ?_
   obtain ⟨r, h4, hm⟩ := bnd hm
   refine VR.cons R R (VO.callK 0 R fn43 R (ref01_Rune_ok s i2 r h4) fun _ _ h10 => ?_)
   obtain ⟨rfl, rfl⟩ := h10
   refine VR.p R R (VP.move R) <| VR.p R R (VP.extract R R) <| VR.p R R (VP.extract R R) <| VR.p R R (VP.assign R) <| VR.p R R (VP.assign R) <| VR.nil <| VW.seq <| VW.seq <| VW.region <| VR.p R R (VP.move R) <| VR.p R R (VP.arith R R R) <| VR.p R R (VP.move R) ?_
   obtain ⟨c, h8, hm⟩ := bnd hm
   refine VR.sc 4 27 (.bool c) (fun K' J => ?_) ?_
   ·have hm := h8
    rcases ite_or hm with ⟨h5, hm⟩ | ⟨h5, hm⟩
    ·refine VR.skipG R R R R h5 <| VR.skipG R R R R h5 <| VR.skipG R R R R h5 <| VR.p R R (VP.pickB true R h5 R) ?_
     exact J [_, _, _] _ R (congrArg VV.bool (Option.some.inj hm))
    ·have h5 := bf h5
     refine VR.pG R R R R h5 (VP.move R) ?_
     obtain ⟨r2, h6, hm⟩ := bnd hm
     refine VR.consG R R R R h5 (VO.callK 0 R fn44 R (ref01_plain_ok r.1 r2 h6) fun _ _ h7 => ?_)
     obtain ⟨rfl, rfl⟩ := h7
     refine VR.pG R R R R h5 (VP.not R) <| VR.p R R (VP.pickB false R h5 R) ?_
     exact J [_, _, _] _ R (congrArg VV.bool (Option.some.inj hm))
   ·refine VR.nil ?_
    rcases ite_or hm with ⟨h9, hm⟩ | ⟨h9, hm⟩
    ·refine VW.condT R h9 <| VW.exit ?_
     exact ⟨i2, (), Option.some.inj hm, (Shift.pick [] R ⟨R, R, R, trivial⟩)⟩
    ·have h9 := bf h9
     refine VW.condF R h9 <| VW.skip <| VW.region <| VR.p R R (VP.move R) <| VR.p R R (VP.move R) <| VR.p R R (VP.arith R R R) <| VR.p R R (VP.assign R) <| VR.nil ?_
     exact ⟨(IntKind.i64.wrap (i2 + r.2)), (), hm, (Shift.pick [] R ⟨R, R, R, trivial⟩)⟩
  ·have h3 := bf h3
   refine VW.condF R h3 <| VW.exit ?_
   exact ⟨i2, (), Option.some.inj hm, (Shift.pick [] R ⟨R, R, R, trivial⟩)⟩
 ·rintro i32 _ rfl
  have hm := h2
  refine VW.seq <| VW.seq <| VW.region <| VR.p R R (VP.move R) <| VR.p R R (VP.move R) <| VR.p R R (VP.arith R R R) <| VR.nil ?_
  rcases ite_or hm with ⟨h11, hm⟩ | ⟨h11, hm⟩
  ·refine VW.condT R h11 <| VW.seq <| VW.region <| VR.p R R (VP.move R) <| VR.p R R (VP.assign R) <| VR.p R R (VP.assign R) <| VR.p R R (VP.assign R) <| VR.nil ?_
   obtain rfl := Option.some.inj hm
   exact VW.ret ⟨.inl R, _, .cons (.tmp _ _ R) (.cons (.tmp _ _ R) (.cons (.tmp _ _ R) .nil)), [], _, R, R, R⟩
  ·have h11 := bf h11
   refine VW.condF R h11 <| VW.skip <| VW.seq <| VW.seq <| VW.region <| VR.p R R (VP.move R) <| VR.p R R (VP.move R) <| VR.p R R (VP.move R) ?_
   obtain ⟨v, h12, hm⟩ := bnd hm
   refine VR.p R R (VP.ssT R R R Try.underlying9 h12) ?_
   obtain ⟨r3, h13, hm⟩ := bnd hm
   refine VR.cons R R (VO.callK 0 R fn57 R (ref01_Runes_ok v r3 h13) fun _ _ h15 => ?_)
   obtain ⟨rfl, rfl⟩ := h15
   refine VR.p R R (VP.arith R R R) <| VR.nil ?_
   rcases ite_or hm with ⟨h14, hm⟩ | ⟨h14, hm⟩
   ·refine VW.condT R h14 <| VW.seq <| VW.region <| VR.p R R (VP.move R) <| VR.p R R (VP.assign R) <| VR.p R R (VP.assign R) <| VR.p R R (VP.assign R) <| VR.nil ?_
    obtain rfl := Option.some.inj hm
    exact VW.ret ⟨.inl R, _, .cons (.tmp _ _ R) (.cons (.tmp _ _ R) (.cons (.tmp _ _ R) .nil)), [], _, R, R, R⟩
   ·have h14 := bf h14
    refine VW.condF R h14 <| VW.skip <| VW.seq <| VW.region <| VR.p R R (VP.move R) <| VR.p R R (VP.assign R) <| VR.p R R (VP.assign R) <| VR.p R R (VP.assign R) <| VR.nil ?_
    obtain rfl := Option.some.inj hm
    exact VW.ret ⟨.inl R, _, .cons (.tmp _ _ R) (.cons (.tmp _ _ R) (.cons (.tmp _ _ R) .nil)), [], _, R, R, R⟩

/-! trireme/triremeref01.Scan -/
def ref01_Scan.l1 (s : ByteArray) : Nat → (List T_api_Token) → Int → Option (Out (List T_api_Token × Int × Int) (List T_api_Token))
 | 0, _, _ => none
 | n + 1, out2, at_2 =>
  if (decide (at_2 < (s.size : Int))) = true then
   (V.gi s at_2).bind fun v =>
   (ref01_where s at_2).bind fun r =>
   (ref01_blank (IntKind.i64.wrap v)).bind fun r2 =>
   if r2 = true then
    ref01_Scan.l1 s n out2 (IntKind.i64.wrap (at_2 + (1 : Int)))
   else
    if ((IntKind.i64.wrap v) == (59 : Int)) = true then
     (ref01_remark s at_2).bind fun r3 =>
     if (!r3.2) = true then
      some (Out.ret (([] : List T_api_Token), (2 : Int), r3.1))
     else
      ref01_Scan.l1 s n out2 r3.1
    else
     if (((IntKind.i64.wrap v) == (40 : Int)) || ((IntKind.i64.wrap v) == (41 : Int))) = true then
      if ((IntKind.i64.wrap v) == (41 : Int)) = true then
       (V.ss s (some at_2) (some (IntKind.i64.wrap (at_2 + (1 : Int))))).bind fun v2 =>
       (V.ap 48 out2 [(⟨(2 : Int), v2, at_2, r.1, r.2⟩ : T_api_Token)]).bind fun out4 =>
       ref01_Scan.l1 s n out4 (IntKind.i64.wrap (at_2 + (1 : Int)))
      else
       (V.ss s (some at_2) (some (IntKind.i64.wrap (at_2 + (1 : Int))))).bind fun v3 =>
       (V.ap 48 out2 [(⟨(1 : Int), v3, at_2, r.1, r.2⟩ : T_api_Token)]).bind fun out5 =>
       ref01_Scan.l1 s n out5 (IntKind.i64.wrap (at_2 + (1 : Int)))
     else
      if ((IntKind.i64.wrap v) == (34 : Int)) = true then
       (ref01_quoted s at_2).bind fun r4 =>
       if (r4.2.2.1 != (0 : Int)) = true then
        some (Out.ret (([] : List T_api_Token), r4.2.2.1, r4.2.2.2))
       else
        (V.ap 48 out2 [(⟨(4 : Int), r4.1, at_2, r.1, r.2⟩ : T_api_Token)]).bind fun out6 =>
        ref01_Scan.l1 s n out6 r4.2.1
      else
       (ref01_word s at_2).bind fun r5 =>
       if (r5.2.1 != (0 : Int)) = true then
        some (Out.ret (([] : List T_api_Token), r5.2.1, r5.2.2))
       else
        (V.ss s (some at_2) (some r5.1)).bind fun v4 =>
        (V.ap 48 out2 [(⟨(3 : Int), v4, at_2, r.1, r.2⟩ : T_api_Token)]).bind fun out7 =>
        ref01_Scan.l1 s n out7 r5.1
  else
   some (Out.go out2)
def ref01_Scan (s : ByteArray) : Option (List T_api_Token × Int × Int) :=
 if (decide ((s.size : Int) > (65536 : Int))) = true then
  some (([] : List T_api_Token), (7 : Int), (65536 : Int))
 else
  (ref01_Scan.l1 s FU ([] : List T_api_Token) (0 : Int)).bind fun o =>
  o.on fun out32 =>
  some (out32, (0 : Int), (0 : Int))
theorem ref01_Scan_ok (s : ByteArray) (r : List T_api_Token × Int × Int) (hm : ref01_Scan s = some r) :
  VC Try.prog 36 [.str s] [] (fun zx zH => ∃ (ob0 : Option Nat) (cap0 : Nat), zx = .tup [.sl ob0 (List.map T_api_Token.vv r.1).length cap0, .int .i64 r.2.1, .int .i64 r.2.2] ∧ zH = [.row ob0 51 cap0 (List.map T_api_Token.vv r.1)]) := by
 unfold ref01_Scan at hm
 refine VC.run (c := _) (rs := [.tmp 2, .tmp 3, .tmp 4]) Try.func36 R R R <| VW.seq <| VW.region <| VR.p R R (VP.assign R) <| VR.p R R (VP.assign R) <| VR.p R R (VP.assign R) <| VR.nil <| VW.seq <| VW.seq <| VW.region <| VR.p R R (VP.move R) <| VR.p R R (VP.lenS R Try.underlying9) <| VR.p R R (VP.arith R R R) <| VR.nil ?_
 rcases ite_or hm with ⟨h1, hm⟩ | ⟨h1, hm⟩
 ·refine VW.condT R h1 <| VW.seq <| VW.region <| VR.p R R (VP.assign R) <| VR.p R R (VP.assign R) <| VR.p R R (VP.assign R) <| VR.nil ?_
  obtain rfl := Option.some.inj hm
  refine VW.shift (Shift.nilRow 51) ?_
  exact VW.ret ⟨.inl R, _, .cons (.tmp _ _ R) (.cons (.tmp _ _ R) (.cons (.tmp _ _ R) .nil)), [0], _, R, none, 0, R, R⟩
 ·have h1 := bf h1
  refine VW.condF R h1 <| VW.skip <| VW.seq <| VW.region <| VR.p R R (VP.assign R) <| VR.nil <| VW.seq <| VW.seq <| VW.region <| VR.p R R (VP.assign R) <| VR.nil ?_
  obtain ⟨o, h5, h6⟩ := bnd hm
  refine VW.joinE (fun (q : List T_api_Token) => o = Out.go q) (fun (out32 : List T_api_Token) (gg : Option Nat × Nat) => [(5, .sl gg.1 (List.map T_api_Token.vv out32).length gg.2)]) (fun (out32 : List T_api_Token) (gg : Option Nat × Nat) => [.row gg.1 51 gg.2 (List.map T_api_Token.vv out32)]) ?_ ?_
  ·have hm := h5
   refine VW.block (VW.loop FU ?_)
   refine VL.fuelS (R := _) (fun zn (zs : List T_api_Token × Int) => ref01_Scan.l1 s zn zs.1 zs.2) (fun (zs : List T_api_Token × Int) (zg : Option Nat × Nat) => [(0, .str s), (5, .sl zg.1 (List.map T_api_Token.vv zs.1).length zg.2), (6, .int .i64 zs.2)]) (fun (zs : List T_api_Token × Int) (zg : Option Nat × Nat) => [.row zg.1 51 zg.2 (List.map T_api_Token.vv zs.1)]) (([] : List T_api_Token), (0 : Int)) (none, 0) (fun zs => R) (Shift.trans (Shift.nilRow 51) (Shift.pick [0] R ⟨R, R, R, trivial⟩)) h5 ?_
   rintro n ⟨out2, at_2⟩ ⟨ob2, cap2⟩ hm
   rw [ref01_Scan.l1] at hm
   refine VW.seq <| VW.seq <| VW.region <| VR.p R R (VP.move R) <| VR.p R R (VP.move R) <| VR.p R R (VP.lenS R Try.underlying9) <| VR.p R R (VP.arith R R R) <| VR.nil ?_
   rcases ite_or hm with ⟨h7, hm⟩ | ⟨h7, hm⟩
   ·refine VW.condT R h7 <| VW.skip <| VW.block <| VW.seq <| VW.region <| VR.p R R (VP.move R) <| VR.p R R (VP.move R) ?_
    obtain ⟨v, h8, hm⟩ := bnd hm
    refine VR.p R R (VP.gi R R Try.underlying9 h8) <| VR.p R R (VP.convI Try.underlying5 Try.underlying3 R) <| VR.p R R (VP.assign R) <| VR.nil <| VW.seq <| VW.region <| VR.p R R (VP.move R) <| VR.p R R (VP.move R) ?_
    obtain ⟨r, h9, hm⟩ := bnd hm
    refine VR.cons R R (VO.callK 0 R fn45 R (ref01_where_ok s at_2 r h9) fun _ _ h42 => ?_)
    obtain ⟨rfl, rfl⟩ := h42
    refine VR.p R R (VP.move R) <| VR.p R R (VP.extract R R) <| VR.p R R (VP.extract R R) <| VR.p R R (VP.assign R) <| VR.p R R (VP.assign R) <| VR.nil <| VW.seq <| VW.region <| VR.p R R (VP.move R) <| VR.p R R (VP.move R) <| VR.p R R (VP.move R) <| VR.p R R (VP.buildP pl51 R R) ?_
    refine VR.cons R R (VO.alloc z51 fun b => ?_)
    refine VR.cons R R (VO.storeP (i := 0) R R R ld51 R R R ?_)
    refine VR.nil <| VW.seq <| VW.block <| VW.seq <| VW.region <| VR.p R R (VP.move R) ?_
    obtain ⟨r2, h11, hm⟩ := bnd hm
    refine VR.cons R R (VO.callK 0 R fn46 R (ref01_blank_ok (IntKind.i64.wrap v) r2 h11) fun _ _ h41 => ?_)
    obtain ⟨rfl, rfl⟩ := h41
    refine VR.p R R (VP.assign R) <| VR.nil ?_
    rcases ite_or hm with ⟨h12, hm⟩ | ⟨h12, hm⟩
    ·refine VW.condT R h12 <| VW.seq <| VW.region <| VR.p R R (VP.move R) <| VR.p R R (VP.arith R R R) <| VR.p R R (VP.assign R) <| VR.nil <| VW.exit ?_
     exact ⟨(out2, (IntKind.i64.wrap (at_2 + (1 : Int)))), (ob2, cap2), hm, (Shift.pick [1] R ⟨R, R, R, trivial⟩)⟩
    ·have h12 := bf h12
     refine VW.condF R h12 <| VW.seq <| VW.region <| VR.p R R (VP.move R) <| VR.p R R (VP.arith R R R) <| VR.p R R (VP.assign R) <| VR.nil ?_
     rcases ite_or hm with ⟨h13, hm⟩ | ⟨h13, hm⟩
     ·refine VW.condT R h13 <| VW.seq <| VW.region <| VR.p R R (VP.move R) <| VR.p R R (VP.move R) ?_
      obtain ⟨r3, h14, hm⟩ := bnd hm
      refine VR.cons R R (VO.callK 0 R fn47 R (ref01_remark_ok s at_2 r3 h14) fun _ _ h17 => ?_)
      obtain ⟨rfl, rfl⟩ := h17
      refine VR.p R R (VP.move R) <| VR.p R R (VP.extract R R) <| VR.p R R (VP.extract R R) <| VR.p R R (VP.assign R) <| VR.p R R (VP.assign R) <| VR.nil <| VW.seq <| VW.seq <| VW.region <| VR.p R R (VP.move R) <| VR.p R R (VP.not R) <| VR.nil ?_
      rcases ite_or hm with ⟨h15, hm⟩ | ⟨h15, hm⟩
      ·refine VW.condT R h15 <| VW.seq <| VW.region <| VR.p R R (VP.move R) <| VR.p R R (VP.assign R) <| VR.p R R (VP.assign R) <| VR.p R R (VP.assign R) <| VR.nil ?_
       obtain rfl := Option.some.inj hm
       have hm := Out.ret_on h6
       obtain rfl := Option.some.inj hm
       refine VW.shift (Shift.nilRow 51) ?_
       exact VW.ret ⟨.inl R, _, .cons (.tmp _ _ R) (.cons (.tmp _ _ R) (.cons (.tmp _ _ R) .nil)), [0], _, R, none, 0, R, R⟩
      ·have h15 := bf h15
       refine VW.condF R h15 <| VW.skip <| VW.seq <| VW.region <| VR.p R R (VP.move R) <| VR.p R R (VP.assign R) <| VR.nil <| VW.exit ?_
       exact ⟨(out2, r3.1), (ob2, cap2), hm, (Shift.pick [1] R ⟨R, R, R, trivial⟩)⟩
     ·have h13 := bf h13
      refine VW.condF R h13 <| VW.seq <| VW.region <| VR.p R R (VP.move R) <| VR.p R R (VP.arith R R R) <| VR.p R R (VP.move R) ?_
      refine VR.sc 3 83 (.bool (((IntKind.i64.wrap v) == (40 : Int)) || ((IntKind.i64.wrap v) == (41 : Int)))) (fun K' J => ?_) ?_
      ·rcases Bool.eq_false_or_eq_true ((IntKind.i64.wrap v) == (40 : Int)) with h18 | h18
       ·refine VR.skipG R R R R h18 <| VR.skipG R R R R h18 <| VR.p R R (VP.pickB true R h18 R) ?_
        exact J [_, _] _ R (orT h18)
       ·refine VR.pG R R R R h18 (VP.move R) <| VR.pG R R R R h18 (VP.arith R R R) <| VR.p R R (VP.pickB false R h18 R) ?_
        exact J [_, _] _ R (orF h18)
      ·refine VR.p R R (VP.assign R) <| VR.nil ?_
       rcases ite_or hm with ⟨h19, hm⟩ | ⟨h19, hm⟩
       ·refine VW.condT R h19 <| VW.seq <| VW.region <| VR.p R R (VP.fieldP R fa51_0) ?_
        refine VR.cons R R (VO.storeP (i := 0) R R R ld3 R R R ?_)
        refine VR.nil <| VW.seq <| VW.seq <| VW.region <| VR.p R R (VP.move R) <| VR.p R R (VP.arith R R R) <| VR.nil ?_
        rcases ite_or hm with ⟨h20, hm⟩ | ⟨h20, hm⟩
        ·refine VW.condT R h20 <| VW.region <| VR.p R R (VP.fieldP R fa51_0) ?_
         refine VR.cons R R (VO.storeP (i := 0) R R R ld3 R R R ?_)
         refine VR.nil <| VW.seq <| VW.region <| VR.p R R (VP.move R) <| VR.p R R (VP.move R) <| VR.p R R (VP.move R) <| VR.p R R (VP.arith R R R) ?_
         obtain ⟨v2, h21, hm⟩ := bnd hm
         refine VR.p R R (VP.ssT R R R Try.underlying9 h21) <| VR.p R R (VP.fieldP R fa51_1) ?_
         refine VR.cons R R (VO.storeP (i := 0) R R R ld9 R R R ?_)
         refine VR.nil <| VW.region <| VR.p R R (VP.move R) <| VR.p R R (VP.arith R R R) <| VR.p R R (VP.assign R) <| VR.nil <| VW.region <| VR.p R R (VP.move R) <| VR.p R R (VP.loadP (i := 0) R R ld51 R) ?_
         refine VR.cons R R (VO.buildSlice ap47 R R R R R fun b2 => ?_)
         obtain ⟨out4, h23, hm⟩ := bnd hm
         refine VR.cons R R (VO.apT 2 T_api_Token.vv (l := out2) (l2 := [(⟨(2 : Int), v2, at_2, r.1, r.2⟩ : T_api_Token)]) ap47 R R (sT_row 0 T_api_Token.vv el47 R R) h23 fun ob4 cap4 => ?_)
         refine VR.p R R (VP.assign R) <| VR.nil ?_
         exact ⟨(out4, (IntKind.i64.wrap (at_2 + (1 : Int)))), (ob4, cap4), hm, (Shift.pick [2] R ⟨R, R, R, trivial⟩)⟩
        ·have h20 := bf h20
         refine VW.condF R h20 <| VW.skip <| VW.seq <| VW.region <| VR.p R R (VP.move R) <| VR.p R R (VP.move R) <| VR.p R R (VP.move R) <| VR.p R R (VP.arith R R R) ?_
         obtain ⟨v3, h24, hm⟩ := bnd hm
         refine VR.p R R (VP.ssT R R R Try.underlying9 h24) <| VR.p R R (VP.fieldP R fa51_1) ?_
         refine VR.cons R R (VO.storeP (i := 0) R R R ld9 R R R ?_)
         refine VR.nil <| VW.region <| VR.p R R (VP.move R) <| VR.p R R (VP.arith R R R) <| VR.p R R (VP.assign R) <| VR.nil <| VW.region <| VR.p R R (VP.move R) <| VR.p R R (VP.loadP (i := 0) R R ld51 R) ?_
         refine VR.cons R R (VO.buildSlice ap47 R R R R R fun b3 => ?_)
         obtain ⟨out5, h26, hm⟩ := bnd hm
         refine VR.cons R R (VO.apT 2 T_api_Token.vv (l := out2) (l2 := [(⟨(1 : Int), v3, at_2, r.1, r.2⟩ : T_api_Token)]) ap47 R R (sT_row 0 T_api_Token.vv el47 R R) h26 fun ob5 cap5 => ?_)
         refine VR.p R R (VP.assign R) <| VR.nil ?_
         exact ⟨(out5, (IntKind.i64.wrap (at_2 + (1 : Int)))), (ob5, cap5), hm, (Shift.pick [2] R ⟨R, R, R, trivial⟩)⟩
       ·have h19 := bf h19
        refine VW.condF R h19 <| VW.seq <| VW.region <| VR.p R R (VP.move R) <| VR.p R R (VP.arith R R R) <| VR.p R R (VP.assign R) <| VR.nil ?_
        rcases ite_or hm with ⟨h27, hm⟩ | ⟨h27, hm⟩
        ·refine VW.condT R h27 <| VW.seq <| VW.region <| VR.p R R (VP.move R) <| VR.p R R (VP.move R) ?_
         obtain ⟨r4, h28, hm⟩ := bnd hm
         refine VR.cons R R (VO.callK 0 R fn48 R (ref01_quoted_ok s at_2 r4 h28) fun _ _ h33 => ?_)
         obtain ⟨rfl, rfl⟩ := h33
         refine VR.p R R (VP.move R) <| VR.p R R (VP.extract R R) <| VR.p R R (VP.extract R R) <| VR.p R R (VP.extract R R) <| VR.p R R (VP.extract R R) <| VR.p R R (VP.assign R) <| VR.p R R (VP.assign R) <| VR.p R R (VP.assign R) <| VR.p R R (VP.assign R) <| VR.nil <| VW.seq <| VW.seq <| VW.region <| VR.p R R (VP.move R) <| VR.p R R (VP.arith R R R) <| VR.nil ?_
         rcases ite_or hm with ⟨h29, hm⟩ | ⟨h29, hm⟩
         ·refine VW.condT R h29 <| VW.seq <| VW.region <| VR.p R R (VP.move R) <| VR.p R R (VP.move R) <| VR.p R R (VP.assign R) <| VR.p R R (VP.assign R) <| VR.p R R (VP.assign R) <| VR.nil ?_
          obtain rfl := Option.some.inj hm
          have hm := Out.ret_on h6
          obtain rfl := Option.some.inj hm
          refine VW.shift (Shift.nilRow 51) ?_
          exact VW.ret ⟨.inl R, _, .cons (.tmp _ _ R) (.cons (.tmp _ _ R) (.cons (.tmp _ _ R) .nil)), [0], _, R, none, 0, R, R⟩
         ·have h29 := bf h29
          refine VW.condF R h29 <| VW.skip <| VW.seq <| VW.region <| VR.p R R (VP.fieldP R fa51_0) ?_
          refine VR.cons R R (VO.storeP (i := 0) R R R ld3 R R R ?_)
          refine VR.nil <| VW.seq <| VW.region <| VR.p R R (VP.move R) <| VR.p R R (VP.fieldP R fa51_1) ?_
          refine VR.cons R R (VO.storeP (i := 0) R R R ld9 R R R ?_)
          refine VR.nil <| VW.region <| VR.p R R (VP.move R) <| VR.p R R (VP.assign R) <| VR.nil <| VW.region <| VR.p R R (VP.move R) <| VR.p R R (VP.loadP (i := 0) R R ld51 R) ?_
          refine VR.cons R R (VO.buildSlice ap47 R R R R R fun b4 => ?_)
          obtain ⟨out6, h32, hm⟩ := bnd hm
          refine VR.cons R R (VO.apT 2 T_api_Token.vv (l := out2) (l2 := [(⟨(4 : Int), r4.1, at_2, r.1, r.2⟩ : T_api_Token)]) ap47 R R (sT_row 0 T_api_Token.vv el47 R R) h32 fun ob6 cap6 => ?_)
          refine VR.p R R (VP.assign R) <| VR.nil ?_
          exact ⟨(out6, r4.2.1), (ob6, cap6), hm, (Shift.pick [2] R ⟨R, R, R, trivial⟩)⟩
        ·have h27 := bf h27
         refine VW.condF R h27 <| VW.seq <| VW.region <| VR.p R R (VP.move R) <| VR.p R R (VP.move R) ?_
         obtain ⟨r5, h34, hm⟩ := bnd hm
         refine VR.cons R R (VO.callK 0 R fn49 R (ref01_word_ok s at_2 r5 h34) fun _ _ h40 => ?_)
         obtain ⟨rfl, rfl⟩ := h40
         refine VR.p R R (VP.move R) <| VR.p R R (VP.extract R R) <| VR.p R R (VP.extract R R) <| VR.p R R (VP.extract R R) <| VR.p R R (VP.assign R) <| VR.p R R (VP.assign R) <| VR.p R R (VP.assign R) <| VR.nil <| VW.seq <| VW.seq <| VW.region <| VR.p R R (VP.move R) <| VR.p R R (VP.arith R R R) <| VR.nil ?_
         rcases ite_or hm with ⟨h35, hm⟩ | ⟨h35, hm⟩
         ·refine VW.condT R h35 <| VW.seq <| VW.region <| VR.p R R (VP.move R) <| VR.p R R (VP.move R) <| VR.p R R (VP.assign R) <| VR.p R R (VP.assign R) <| VR.p R R (VP.assign R) <| VR.nil ?_
          obtain rfl := Option.some.inj hm
          have hm := Out.ret_on h6
          obtain rfl := Option.some.inj hm
          refine VW.shift (Shift.nilRow 51) ?_
          exact VW.ret ⟨.inl R, _, .cons (.tmp _ _ R) (.cons (.tmp _ _ R) (.cons (.tmp _ _ R) .nil)), [0], _, R, none, 0, R, R⟩
         ·have h35 := bf h35
          refine VW.condF R h35 <| VW.skip <| VW.seq <| VW.region <| VR.p R R (VP.fieldP R fa51_0) ?_
          refine VR.cons R R (VO.storeP (i := 0) R R R ld3 R R R ?_)
          refine VR.nil <| VW.seq <| VW.region <| VR.p R R (VP.move R) <| VR.p R R (VP.move R) <| VR.p R R (VP.move R) ?_
          obtain ⟨v4, h37, hm⟩ := bnd hm
          refine VR.p R R (VP.ssT R R R Try.underlying9 h37) <| VR.p R R (VP.fieldP R fa51_1) ?_
          refine VR.cons R R (VO.storeP (i := 0) R R R ld9 R R R ?_)
          refine VR.nil <| VW.region <| VR.p R R (VP.move R) <| VR.p R R (VP.assign R) <| VR.nil <| VW.region <| VR.p R R (VP.move R) <| VR.p R R (VP.loadP (i := 0) R R ld51 R) ?_
          refine VR.cons R R (VO.buildSlice ap47 R R R R R fun b5 => ?_)
          obtain ⟨out7, h39, hm⟩ := bnd hm
          refine VR.cons R R (VO.apT 2 T_api_Token.vv (l := out2) (l2 := [(⟨(3 : Int), v4, at_2, r.1, r.2⟩ : T_api_Token)]) ap47 R R (sT_row 0 T_api_Token.vv el47 R R) h39 fun ob7 cap7 => ?_)
          refine VR.p R R (VP.assign R) <| VR.nil ?_
          exact ⟨(out7, r5.1), (ob7, cap7), hm, (Shift.pick [2] R ⟨R, R, R, trivial⟩)⟩
   ·have h7 := bf h7
    refine VW.condF R h7 <| VW.exit ?_
    exact ⟨out2, (ob2, cap2), (Option.some.inj hm).symm, (Shift.pick [0] R ⟨R, trivial⟩)⟩
  ·rintro out32 ⟨ob3, cap3⟩ rfl
   have hm := Out.go_on h6
   refine VW.seq <| VW.region <| VR.p R R (VP.move R) <| VR.p R R (VP.assign R) <| VR.p R R (VP.assign R) <| VR.p R R (VP.assign R) <| VR.nil ?_
   obtain rfl := Option.some.inj hm
   exact VW.ret ⟨.inl R, _, .cons (.tmp _ _ R) (.cons (.tmp _ _ R) (.cons (.tmp _ _ R) .nil)), [0], _, R, ob3, cap3, R, R⟩

/-! trireme/triremeref02.right -/
def ref02_right (x : T_api_Node) : Option Bool :=
 if (x.Kind == (5 : Int)) = true then
  some ((V.seq x.Text (⟨#[]⟩ : ByteArray)) && (decide (x.At ≥ (0 : Int))))
 else
  if (x.Kind == (3 : Int)) = true then
   (if (x.Kids == (0 : Int)) = true then (ref01_Word x.Text).bind fun r =>
   some r else some false).bind fun c =>
   some (c && (decide (x.At ≥ (0 : Int))))
  else
   if (x.Kind == (4 : Int)) = true then
    (ref01_Quote x.Text).bind fun r2 =>
    (ref01_Scan r2).bind fun r3 =>
    some ((((x.Kids == (0 : Int)) && (r3.2.1 == (0 : Int))) && ((r3.1.length : Int) == (1 : Int))) && (decide (x.At ≥ (0 : Int))))
   else
    some false
theorem ref02_right_ok (x : T_api_Node) (r : Bool) (hm : ref02_right x = some r) :
  VC Try.prog 26 [T_api_Node.vv x] [] (fun zx zH => zx = .bool r ∧ zH = []) := by
 unfold ref02_right at hm
 refine VC.run (c := _) (rs := [.tmp 2]) Try.func26 R R R <| VW.seq <| VW.region ?_
 refine VR.cons R R (VO.box R R fun b => ?_)
 refine VR.p R R (VP.assign R) <| VR.nil <| VW.seq <| VW.seq <| VW.region <| VR.p R R (VP.fieldP R fa40_0) <| VR.p R R (VP.loadP (i := 0) R R ld3 R) <| VR.nil <| VW.block <| VW.seq <| VW.region <| VR.p R R (VP.arith R R R) <| VR.p R R (VP.assign R) <| VR.nil ?_
 rcases ite_or hm with ⟨h2, hm⟩ | ⟨h2, hm⟩
 ·refine VW.condT R h2 <| VW.seq <| VW.region <| VR.p R R (VP.fieldP R fa40_1) <| VR.p R R (VP.loadP (i := 0) R R ld9 R) <| VR.p R R (VP.strop R R R) <| VR.p R R (VP.move R) ?_
  refine VR.sc 4 17 (.bool ((V.seq x.Text (⟨#[]⟩ : ByteArray)) && (decide (x.At ≥ (0 : Int))))) (fun K' J => ?_) ?_
  ·rcases Bool.eq_false_or_eq_true (V.seq x.Text (⟨#[]⟩ : ByteArray)) with h3 | h3
   ·refine VR.pG R R R R h3 (VP.fieldP R fa40_3) <| VR.pG R R R R h3 (VP.loadP (i := 0) R R ld3 R) <| VR.pG R R R R h3 (VP.arith R R R) <| VR.p R R (VP.pickB true R h3 R) ?_
    exact J [_, _, _] _ R (andT h3)
   ·refine VR.skipG R R R R h3 <| VR.skipG R R R R h3 <| VR.skipG R R R R h3 <| VR.p R R (VP.pickB false R h3 R) ?_
    exact J [_, _, _] _ R (andF h3)
  ·refine VR.p R R (VP.assign R) <| VR.nil ?_
   obtain rfl := Option.some.inj hm
   exact VW.ret ⟨.inl R, _, .cons (.tmp _ _ R) .nil, [], _, R, R, R⟩
 ·have h2 := bf h2
  refine VW.condF R h2 <| VW.seq <| VW.region <| VR.p R R (VP.arith R R R) <| VR.p R R (VP.assign R) <| VR.nil ?_
  rcases ite_or hm with ⟨h4, hm⟩ | ⟨h4, hm⟩
  ·refine VW.condT R h4 <| VW.seq <| VW.region <| VR.p R R (VP.fieldP R fa40_2) <| VR.p R R (VP.loadP (i := 0) R R ld3 R) <| VR.p R R (VP.arith R R R) <| VR.p R R (VP.move R) ?_
   obtain ⟨c, h8, hm⟩ := bnd hm
   refine VR.sc 4 27 (.bool c) (fun K' J => ?_) ?_
   ·have hm := h8
    rcases ite_or hm with ⟨h5, hm⟩ | ⟨h5, hm⟩
    ·refine VR.pG R R R R h5 (VP.fieldP R fa40_1) <| VR.pG R R R R h5 (VP.loadP (i := 0) R R ld9 R) ?_
     obtain ⟨r, h6, hm⟩ := bnd hm
     refine VR.consG R R R R h5 (VO.callK 0 R fn35 R (ref01_Word_ok x.Text r h6) fun _ _ h7 => ?_)
     obtain ⟨rfl, rfl⟩ := h7
     refine VR.p R R (VP.pickB true R h5 R) ?_
     exact J [_, _, _] _ R (congrArg VV.bool (Option.some.inj hm))
    ·have h5 := bf h5
     refine VR.skipG R R R R h5 <| VR.skipG R R R R h5 <| VR.skipG R R R R h5 <| VR.p R R (VP.pickB false R h5 R) ?_
     exact J [_, _, _] _ R (congrArg VV.bool (Option.some.inj hm))
   ·refine VR.p R R (VP.move R) ?_
    refine VR.sc 4 32 (.bool (c && (decide (x.At ≥ (0 : Int))))) (fun K' J => ?_) ?_
    ·rcases Bool.eq_false_or_eq_true c with h9 | h9
     ·refine VR.pG R R R R h9 (VP.fieldP R fa40_3) <| VR.pG R R R R h9 (VP.loadP (i := 0) R R ld3 R) <| VR.pG R R R R h9 (VP.arith R R R) <| VR.p R R (VP.pickB true R h9 R) ?_
      exact J [_, _, _] _ R (andT h9)
     ·refine VR.skipG R R R R h9 <| VR.skipG R R R R h9 <| VR.skipG R R R R h9 <| VR.p R R (VP.pickB false R h9 R) ?_
      exact J [_, _, _] _ R (andF h9)
    ·refine VR.p R R (VP.assign R) <| VR.nil ?_
     obtain rfl := Option.some.inj hm
     exact VW.ret ⟨.inl R, _, .cons (.tmp _ _ R) .nil, [], _, R, R, R⟩
  ·have h4 := bf h4
   refine VW.condF R h4 <| VW.seq <| VW.region <| VR.p R R (VP.arith R R R) <| VR.p R R (VP.assign R) <| VR.nil ?_
   rcases ite_or hm with ⟨h10, hm⟩ | ⟨h10, hm⟩
   ·refine VW.condT R h10 <| VW.seq <| VW.region <| VR.p R R (VP.fieldP R fa40_1) <| VR.p R R (VP.loadP (i := 0) R R ld9 R) ?_
    obtain ⟨r2, h11, hm⟩ := bnd hm
    refine VR.cons R R (VO.callK 0 R fn37 R (ref01_Quote_ok x.Text r2 h11) fun _ _ h18 => ?_)
    obtain ⟨rfl, rfl⟩ := h18
    obtain ⟨r3, h12, hm⟩ := bnd hm
    refine VR.cons R R (VO.callK 0 R fn36 R (ref01_Scan_ok r2 r3 h12) fun _ _ h17 => ?_)
    obtain ⟨ob, cap, rfl, rfl⟩ := h17
    refine VR.p R R (VP.move R) <| VR.p R R (VP.extract R R) <| VR.p R R (VP.extract R R) <| VR.p R R (VP.extract R R) <| VR.p R R (VP.assign R) <| VR.p R R (VP.assign R) <| VR.p R R (VP.assign R) <| VR.nil <| VW.seq <| VW.region <| VR.p R R (VP.fieldP R fa40_2) <| VR.p R R (VP.loadP (i := 1) R R ld3 R) <| VR.p R R (VP.arith R R R) <| VR.p R R (VP.move R) ?_
    refine VR.sc 3 49 (.bool ((x.Kids == (0 : Int)) && (r3.2.1 == (0 : Int)))) (fun K' J => ?_) ?_
    ·rcases Bool.eq_false_or_eq_true (x.Kids == (0 : Int)) with h14 | h14
     ·refine VR.pG R R R R h14 (VP.move R) <| VR.pG R R R R h14 (VP.arith R R R) <| VR.p R R (VP.pickB true R h14 R) ?_
      exact J [_, _] _ R (andT h14)
     ·refine VR.skipG R R R R h14 <| VR.skipG R R R R h14 <| VR.p R R (VP.pickB false R h14 R) ?_
      exact J [_, _] _ R (andF h14)
    ·refine VR.p R R (VP.move R) ?_
     refine VR.sc 4 54 (.bool (((x.Kids == (0 : Int)) && (r3.2.1 == (0 : Int))) && ((r3.1.length : Int) == (1 : Int)))) (fun K' J => ?_) ?_
     ·rcases Bool.eq_false_or_eq_true ((x.Kids == (0 : Int)) && (r3.2.1 == (0 : Int))) with h15 | h15
      ·refine VR.pG R R R R h15 (VP.move R) <| VR.pG R R R R h15 (VP.lenRT T_api_Token.vv R Try.underlying47) <| VR.pG R R R R h15 (VP.arith R R R) <| VR.p R R (VP.pickB true R h15 R) ?_
       exact J [_, _, _] _ R (andT h15)
      ·refine VR.skipG R R R R h15 <| VR.skipG R R R R h15 <| VR.skipG R R R R h15 <| VR.p R R (VP.pickB false R h15 R) ?_
       exact J [_, _, _] _ R (andF h15)
     ·refine VR.p R R (VP.move R) ?_
      refine VR.sc 4 59 (.bool ((((x.Kids == (0 : Int)) && (r3.2.1 == (0 : Int))) && ((r3.1.length : Int) == (1 : Int))) && (decide (x.At ≥ (0 : Int))))) (fun K' J => ?_) ?_
      ·rcases Bool.eq_false_or_eq_true (((x.Kids == (0 : Int)) && (r3.2.1 == (0 : Int))) && ((r3.1.length : Int) == (1 : Int))) with h16 | h16
       ·refine VR.pG R R R R h16 (VP.fieldP R fa40_3) <| VR.pG R R R R h16 (VP.loadP (i := 1) R R ld3 R) <| VR.pG R R R R h16 (VP.arith R R R) <| VR.p R R (VP.pickB true R h16 R) ?_
        exact J [_, _, _] _ R (andT h16)
       ·refine VR.skipG R R R R h16 <| VR.skipG R R R R h16 <| VR.skipG R R R R h16 <| VR.p R R (VP.pickB false R h16 R) ?_
        exact J [_, _, _] _ R (andF h16)
      ·refine VR.p R R (VP.assign R) <| VR.nil ?_
       obtain rfl := Option.some.inj hm
       exact VW.ret ⟨.inl R, _, .cons (.tmp _ _ R) .nil, [], _, R, R, R⟩
   ·have h10 := bf h10
    refine VW.condF R h10 <| VW.skip <| VW.seq <| VW.region <| VR.p R R (VP.assign R) <| VR.nil ?_
    obtain rfl := Option.some.inj hm
    exact VW.ret ⟨.inl R, _, .cons (.tmp _ _ R) .nil, [], _, R, R, R⟩

/-! trireme/triremeref02.Kids -/
def ref02_Kids.l1 (l : List T_api_Node) (i : Int) : Nat → (List Int) → Int → Int → Option (List Int)
 | 0, _, _, _ => none
 | n + 1, out2, at_2, k2 =>
  (V.gl l i).bind fun x =>
  if (decide (k2 < x.Kids)) = true then
   (V.ap 8 out2 [at_2]).bind fun out4 =>
   (ref02_End l at_2).bind fun r2 =>
   ref02_Kids.l1 l i n out4 r2 (IntKind.i64.wrap (k2 + (1 : Int)))
  else
   some out2
def ref02_Kids (l : List T_api_Node) (i : Int) : Option (List Int) :=
 (ref02_End l i).bind fun r =>
 if (decide (r < (0 : Int))) = true then
  some ([] : List Int)
 else
  (ref02_Kids.l1 l i FU ([] : List Int) (IntKind.i64.wrap (i + (1 : Int))) (0 : Int)).bind fun out32 =>
  some out32
theorem ref02_Kids_ok (l : List T_api_Node) (i : Int) (r : List Int) (hm : ref02_Kids l i = some r) :
  VC Try.prog 17 [.list 40 (List.map T_api_Node.vv l), .int .i64 i] [] (fun zx zH => ∃ (ob0 : Option Nat) (cap0 : Nat), zx = .sl ob0 (List.map (VV.int .i64) r).length cap0 ∧ zH = [.row ob0 3 cap0 (List.map (VV.int .i64) r)]) := by
 unfold ref02_Kids at hm
 refine VC.run (c := _) (rs := [.tmp 4]) Try.func17 R R R <| VW.seq <| VW.region <| VR.p R R (VP.assign R) <| VR.nil <| VW.seq <| VW.seq <| VW.region <| VR.p R R (VP.move R) <| VR.p R R (VP.move R) ?_
 obtain ⟨r, h1, hm⟩ := bnd hm
 refine VR.cons R R (VO.callK 0 R fn14 R (ref02_End_ok l i r h1) fun _ _ h15 => ?_)
 obtain ⟨rfl, rfl⟩ := h15
 refine VR.p R R (VP.arith R R R) <| VR.nil ?_
 rcases ite_or hm with ⟨h2, hm⟩ | ⟨h2, hm⟩
 ·refine VW.condT R h2 <| VW.seq <| VW.region <| VR.p R R (VP.assign R) <| VR.nil ?_
  obtain rfl := Option.some.inj hm
  refine VW.shift (Shift.nilRow 3) ?_
  exact VW.ret ⟨.inl R, _, .cons (.tmp _ _ R) .nil, [0], _, R, none, 0, R, R⟩
 ·have h2 := bf h2
  refine VW.condF R h2 <| VW.skip <| VW.seq <| VW.region <| VR.p R R (VP.assign R) <| VR.nil <| VW.seq <| VW.region <| VR.p R R (VP.move R) <| VR.p R R (VP.arith R R R) <| VR.p R R (VP.assign R) <| VR.nil <| VW.seq <| VW.seq <| VW.region <| VR.p R R (VP.assign R) <| VR.nil ?_
  obtain ⟨o, h6, h7⟩ := bnd hm
  refine VW.joinE (fun (q : List Int) => q = o) (fun (out32 : List Int) (gg : Option Nat × Nat) => [(5, .sl gg.1 (List.map (VV.int .i64) out32).length gg.2)]) (fun (out32 : List Int) (gg : Option Nat × Nat) => [.row gg.1 3 gg.2 (List.map (VV.int .i64) out32)]) ?_ ?_
  ·have hm := h6
   refine VW.block (VW.loop FU ?_)
   refine VL.fuelS (R := _) (fun zn (zs : List Int × Int × Int) => ref02_Kids.l1 l i zn zs.1 zs.2.1 zs.2.2) (fun (zs : List Int × Int × Int) (zg : Option Nat × Nat) => [(0, .list 40 (List.map T_api_Node.vv l)), (1, .int .i64 i), (5, .sl zg.1 (List.map (VV.int .i64) zs.1).length zg.2), (6, .int .i64 zs.2.1), (7, .int .i64 zs.2.2)]) (fun (zs : List Int × Int × Int) (zg : Option Nat × Nat) => [.row zg.1 3 zg.2 (List.map (VV.int .i64) zs.1)]) (([] : List Int), (IntKind.i64.wrap (i + (1 : Int))), (0 : Int)) (none, 0) (fun zs => R) (Shift.trans (Shift.nilRow 3) (Shift.pick [0] R ⟨R, R, R, R, R, trivial⟩)) h6 ?_
   rintro n ⟨out2, at_2, k2⟩ ⟨ob2, cap2⟩ hm
   rw [ref02_Kids.l1] at hm
   refine VW.seq <| VW.seq <| VW.region <| VR.p R R (VP.move R) <| VR.p R R (VP.move R) <| VR.p R R (VP.move R) ?_
   obtain ⟨x, h8, hm⟩ := bnd hm
   refine VR.p R R (VP.glE T_api_Node.vv R R el22 h8) <| VR.p R R (VP.fieldE R fa40_2) <| VR.p R R (VP.loadE R ld3 R) <| VR.p R R (VP.arith R R R) <| VR.nil ?_
   rcases ite_or hm with ⟨h9, hm⟩ | ⟨h9, hm⟩
   ·refine VW.condT R h9 <| VW.skip <| VW.seq <| VW.block <| VW.seq <| VW.region <| VR.p R R (VP.move R) <| VR.p R R (VP.move R) ?_
    refine VR.cons R R (VO.buildSlice ap30 R R R R R fun b => ?_)
    obtain ⟨out4, h11, hm⟩ := bnd hm
    refine VR.cons R R (VO.apT 1 (VV.int .i64) (l := out2) (l2 := [at_2]) ap30 R R (sT_row 0 (VV.int .i64) el30 R R) h11 fun ob4 cap4 => ?_)
    refine VR.p R R (VP.assign R) <| VR.nil <| VW.region <| VR.p R R (VP.move R) <| VR.p R R (VP.move R) ?_
    obtain ⟨r2, h12, hm⟩ := bnd hm
    refine VR.cons R R (VO.callK 0 R fn14 R (ref02_End_ok l at_2 r2 h12) fun _ _ h13 => ?_)
    obtain ⟨rfl, rfl⟩ := h13
    refine VR.p R R (VP.assign R) <| VR.nil <| VW.region <| VR.p R R (VP.move R) <| VR.p R R (VP.arith R R R) <| VR.p R R (VP.assign R) <| VR.nil ?_
    exact ⟨(out4, r2, (IntKind.i64.wrap (k2 + (1 : Int)))), (ob4, cap4), hm, (Shift.pick [1] R ⟨R, R, R, R, R, trivial⟩)⟩
   ·have h9 := bf h9
    refine VW.condF R h9 <| VW.exit ?_
    exact ⟨out2, (ob2, cap2), Option.some.inj hm, (Shift.pick [0] R ⟨R, trivial⟩)⟩
  ·rintro out32 ⟨ob3, cap3⟩ rfl
   have hm := h7
   refine VW.seq <| VW.region <| VR.p R R (VP.move R) <| VR.p R R (VP.assign R) <| VR.nil ?_
   obtain rfl := Option.some.inj hm
   exact VW.ret ⟨.inl R, _, .cons (.tmp _ _ R) .nil, [0], _, R, ob3, cap3, R, R⟩

/-! trireme/triremeref02.deep -/
def ref02_deep.l1 (self_ : (List T_api_Node) → Int → Option Int) (l : List T_api_Node) (r : List Int) : Nat → Int → Int → Option Int
 | 0, _, _ => none
 | n4 + 1, n2, j2 =>
  if (decide (j2 < (r.length : Int))) = true then
   (V.gl r j2).bind fun x2 =>
   (self_ l x2).bind fun r2 =>
   ref02_deep.l1 self_ l r n4 (max n2 r2) (IntKind.i64.wrap (j2 + (1 : Int)))
  else
   some n2
def ref02_deep : Nat → (List T_api_Node) → Int → Option Int
 | 0, _, _ => none
 | nn + 1, l, i =>
  (V.gl l i).bind fun x =>
  if (x.Kind != (5 : Int)) = true then
   some (0 : Int)
  else
   (ref02_Kids l i).bind fun r =>
   (ref02_deep.l1 (ref02_deep nn) l r FU (0 : Int) (0 : Int)).bind fun n32 =>
   some (IntKind.i64.wrap (n32 + (1 : Int)))
theorem ref02_deep_ok (nn : Nat) : ∀ (l : List T_api_Node) (i : Int) (r : Int) (hm : ref02_deep nn l i = some r),
  VC Try.prog 27 [.list 40 (List.map T_api_Node.vv l), .int .i64 i] [] (fun zx zH => zx = .int .i64 r ∧ zH = []) := by
 induction nn with
 | zero => intro l i r hm; exact absurd hm (by rw [ref02_deep]; simp)
 | succ nn ih =>
  intro l i r hm
  rw [ref02_deep] at hm
  refine VC.run (c := _) (rs := [.tmp 4]) Try.func27 R R R <| VW.seq <| VW.region <| VR.p R R (VP.assign R) <| VR.nil <| VW.seq <| VW.seq <| VW.region <| VR.p R R (VP.move R) <| VR.p R R (VP.move R) ?_
  obtain ⟨x, h1, hm⟩ := bnd hm
  refine VR.p R R (VP.glE T_api_Node.vv R R el22 h1) <| VR.p R R (VP.fieldE R fa40_0) <| VR.p R R (VP.loadE R ld3 R) <| VR.p R R (VP.arith R R R) <| VR.nil ?_
  rcases ite_or hm with ⟨h2, hm⟩ | ⟨h2, hm⟩
  ·refine VW.condT R h2 <| VW.seq <| VW.region <| VR.p R R (VP.assign R) <| VR.nil ?_
   obtain rfl := Option.some.inj hm
   exact VW.ret ⟨.inl R, _, .cons (.tmp _ _ R) .nil, [], _, R, R, R⟩
  ·have h2 := bf h2
   refine VW.condF R h2 <| VW.skip <| VW.seq <| VW.region <| VR.p R R (VP.assign R) <| VR.nil <| VW.seq <| VW.region <| VR.p R R (VP.move R) <| VR.p R R (VP.move R) ?_
   obtain ⟨r, h3, hm⟩ := bnd hm
   refine VR.cons R R (VO.callK 0 R fn17 R (ref02_Kids_ok l i r h3) fun _ _ h11 => ?_)
   obtain ⟨ob, cap, rfl, rfl⟩ := h11
   refine VR.shift (Shift.freezeE 0 [(16, .list 3 (List.map (VV.int .i64) r))] R ⟨⟨_, R, .here _ R⟩, trivial⟩ (FzH.refl _)) <| VR.p R R (VP.assign R) <| VR.nil <| VW.seq <| VW.seq <| VW.region <| VR.p R R (VP.assign R) <| VR.nil ?_
   obtain ⟨o, h5, h6⟩ := bnd hm
   refine VW.joinE (fun (q : Int) => q = o) (fun (n32 : Int) (gg : Unit) => [(5, .int .i64 n32)]) (fun (n32 : Int) (gg : Unit) => []) ?_ ?_
   ·have hm := h5
    refine VW.block (VW.loop FU ?_)
    refine VL.fuelS (R := _) (fun zn (zs : Int × Int) => ref02_deep.l1 (ref02_deep nn) l r zn zs.1 zs.2) (fun (zs : Int × Int) (zg : Unit) => [(0, .list 40 (List.map T_api_Node.vv l)), (5, .int .i64 zs.1), (6, .list 3 (List.map (VV.int .i64) r)), (7, .int .i64 zs.2)]) (fun (zs : Int × Int) (zg : Unit) => []) ((0 : Int), (0 : Int)) () (fun zs => R) (Shift.pick [] R ⟨R, R, R, R, trivial⟩) h5 ?_
    rintro n4 ⟨n2, j2⟩ _ hm
    rw [ref02_deep.l1] at hm
    refine VW.seq <| VW.seq <| VW.region <| VR.p R R (VP.move R) <| VR.p R R (VP.move R) <| VR.p R R (VP.lenT (VV.int .i64) R Try.underlying30) <| VR.p R R (VP.arith R R R) <| VR.nil ?_
    rcases ite_or hm with ⟨h7, hm⟩ | ⟨h7, hm⟩
    ·refine VW.condT R h7 <| VW.skip <| VW.seq <| VW.block <| VW.region <| VR.p R R (VP.move R) <| VR.p R R (VP.move R) <| VR.p R R (VP.move R) <| VR.p R R (VP.move R) ?_
     obtain ⟨x2, h8, hm⟩ := bnd hm
     refine VR.p R R (VP.glE (VV.int .i64) R R el30 h8) <| VR.p R R (VP.loadE R ld3 R) ?_
     obtain ⟨r2, h9, hm⟩ := bnd hm
     refine VR.cons R R (VO.callK 0 R fn27 R (ih l x2 r2 h9) fun _ _ h10 => ?_)
     obtain ⟨rfl, rfl⟩ := h10
     refine VR.p R R (VP.max2 R R) <| VR.p R R (VP.assign R) <| VR.nil <| VW.region <| VR.p R R (VP.move R) <| VR.p R R (VP.arith R R R) <| VR.p R R (VP.assign R) <| VR.nil ?_
     exact ⟨((max n2 r2), (IntKind.i64.wrap (j2 + (1 : Int)))), (), hm, (Shift.pick [] R ⟨R, R, R, R, trivial⟩)⟩
    ·have h7 := bf h7
     refine VW.condF R h7 <| VW.exit ?_
     exact ⟨n2, (), Option.some.inj hm, (Shift.pick [] R ⟨R, trivial⟩)⟩
   ·rintro n32 _ rfl
    have hm := h6
    refine VW.seq <| VW.region <| VR.p R R (VP.move R) <| VR.p R R (VP.arith R R R) <| VR.p R R (VP.assign R) <| VR.nil ?_
    obtain rfl := Option.some.inj hm
    exact VW.ret ⟨.inl R, _, .cons (.tmp _ _ R) .nil, [], _, R, R, R⟩

/-! trireme/triremeref02.Check -/
def ref02_Check.l1 (l : List T_api_Node) : Nat → Int → Option (Out Int Unit)
 | 0, _ => none
 | n + 1, i2 =>
  if (decide (i2 < (l.length : Int))) = true then
   (V.gl l i2).bind fun x =>
   (ref02_right x).bind fun r2 =>
   if (!r2) = true then
    some (Out.ret (12 : Int))
   else
    ref02_Check.l1 l n (IntKind.i64.wrap (i2 + (1 : Int)))
  else
   some (Out.go ())
def ref02_Check.l2 (l : List T_api_Node) (r : List Int) : Nat → Int → Option (Out Int Unit)
 | 0, _ => none
 | n2 + 1, i4 =>
  if (decide (i4 < (r.length : Int))) = true then
   (V.gl r i4).bind fun x2 =>
   (ref02_deep FU l x2).bind fun r3 =>
   if (decide (r3 > (20 : Int))) = true then
    some (Out.ret (12 : Int))
   else
    ref02_Check.l2 l r n2 (IntKind.i64.wrap (i4 + (1 : Int)))
  else
   some (Out.go ())
def ref02_Check (l : List T_api_Node) : Option Int :=
 (ref02_Tops l).bind fun r =>
 if ((decide ((l.length : Int) > (4000 : Int))) || ((decide ((l.length : Int) > (0 : Int))) && ((r.length : Int) == (0 : Int)))) = true then
  some (12 : Int)
 else
  (ref02_Check.l1 l FU (0 : Int)).bind fun o =>
  o.on fun j =>
  (ref02_Check.l2 l r FU (0 : Int)).bind fun o2 =>
  o2.on fun j2 =>
  some (0 : Int)
theorem ref02_Check_ok (l : List T_api_Node) (r : Int) (hm : ref02_Check l = some r) :
  VC Try.prog 10 [.list 40 (List.map T_api_Node.vv l)] [] (fun zx zH => zx = .int .i64 r ∧ zH = []) := by
 unfold ref02_Check at hm
 refine VC.run (c := _) (rs := [.tmp 2]) Try.func10 R R R <| VW.seq <| VW.region <| VR.p R R (VP.assign R) <| VR.nil <| VW.seq <| VW.region <| VR.p R R (VP.move R) ?_
 obtain ⟨r, h1, hm⟩ := bnd hm
 refine VR.cons R R (VO.callK 0 R fn19 R (ref02_Tops_ok l r h1) fun _ _ h20 => ?_)
 obtain ⟨ob, cap, rfl, rfl⟩ := h20
 refine VR.shift (Shift.freezeE 0 [(7, .list 3 (List.map (VV.int .i64) r))] R ⟨⟨_, R, .here _ R⟩, trivial⟩ (FzH.refl _)) <| VR.p R R (VP.assign R) <| VR.nil <| VW.seq <| VW.seq <| VW.region <| VR.p R R (VP.move R) <| VR.p R R (VP.lenT T_api_Node.vv R Try.underlying22) <| VR.p R R (VP.arith R R R) <| VR.p R R (VP.move R) ?_
 refine VR.sc 9 20 (.bool ((decide ((l.length : Int) > (4000 : Int))) || ((decide ((l.length : Int) > (0 : Int))) && ((r.length : Int) == (0 : Int))))) (fun K' J => ?_) ?_
 ·rcases Bool.eq_false_or_eq_true (decide ((l.length : Int) > (4000 : Int))) with h3 | h3
  ·refine VR.skipG R R R R h3 <| VR.skipG R R R R h3 <| VR.skipG R R R R h3 <| VR.skipG R R R R h3 <| VR.skipU R R R R <| VR.skipU R R R R <| VR.skipU R R R R <| VR.skipG R R R R h3 <| VR.p R R (VP.pickB true R h3 R) ?_
   exact J [_, _, _, _, _, _, _, _] _ R (orT h3)
  ·refine VR.pG R R R R h3 (VP.move R) <| VR.pG R R R R h3 (VP.lenT T_api_Node.vv R Try.underlying22) <| VR.pG R R R R h3 (VP.arith R R R) <| VR.pG R R R R h3 (VP.move R) ?_
   refine VR.sc 4 19 (.bool ((decide ((l.length : Int) > (0 : Int))) && ((r.length : Int) == (0 : Int)))) (fun K' J => ?_) ?_
   ·rcases Bool.eq_false_or_eq_true (decide ((l.length : Int) > (0 : Int))) with h4 | h4
    ·refine VR.pG R R R R h4 (VP.move R) <| VR.pG R R R R h4 (VP.lenT (VV.int .i64) R Try.underlying30) <| VR.pG R R R R h4 (VP.arith R R R) <| VR.pG R R R R h3 (VP.pickB true R h4 R) ?_
     exact J [_, _, _] _ R (andT h4)
    ·refine VR.skipG R R R R h4 <| VR.skipG R R R R h4 <| VR.skipG R R R R h4 <| VR.pG R R R R h3 (VP.pickB false R h4 R) ?_
     exact J [_, _, _] _ R (andF h4)
   ·refine VR.p R R (VP.pickB false R h3 R) ?_
    exact J [_, _, _, _, _] _ R (orF h3)
 ·refine VR.nil ?_
  rcases ite_or hm with ⟨h5, hm⟩ | ⟨h5, hm⟩
  ·refine VW.condT R h5 <| VW.seq <| VW.region <| VR.p R R (VP.assign R) <| VR.nil ?_
   obtain rfl := Option.some.inj hm
   exact VW.ret ⟨.inl R, _, .cons (.tmp _ _ R) .nil, [], _, R, R, R⟩
  ·have h5 := bf h5
   refine VW.condF R h5 <| VW.skip <| VW.seq <| VW.seq <| VW.region <| VR.p R R (VP.assign R) <| VR.nil ?_
   obtain ⟨o, h6, h7⟩ := bnd hm
   refine VW.joinE (fun (q : Unit) => o = Out.go q) (fun (j : Unit) (gg : Unit) => [(0, .list 40 (List.map T_api_Node.vv l)), (3, .list 3 (List.map (VV.int .i64) r))]) (fun (j : Unit) (gg : Unit) => []) ?_ ?_
   ·have hm := h6
    refine VW.block (VW.loop FU ?_)
    refine VL.fuelS (R := _) (fun zn (zs : Int) => ref02_Check.l1 l zn zs) (fun (zs : Int) (zg : Unit) => [(0, .list 40 (List.map T_api_Node.vv l)), (3, .list 3 (List.map (VV.int .i64) r)), (4, .int .i64 zs)]) (fun (zs : Int) (zg : Unit) => []) (0 : Int) () (fun zs => R) (Shift.pick [] R ⟨R, R, R, trivial⟩) h6 ?_
    rintro n i2 _ hm
    rw [ref02_Check.l1] at hm
    refine VW.seq <| VW.seq <| VW.region <| VR.p R R (VP.move R) <| VR.p R R (VP.move R) <| VR.p R R (VP.lenT T_api_Node.vv R Try.underlying22) <| VR.p R R (VP.arith R R R) <| VR.nil ?_
    rcases ite_or hm with ⟨h8, hm⟩ | ⟨h8, hm⟩
    ·refine VW.condT R h8 <| VW.skip <| VW.seq <| VW.block <| VW.seq <| VW.region <| VR.p R R (VP.move R) <| VR.p R R (VP.move R) ?_
     obtain ⟨x, h9, hm⟩ := bnd hm
     refine VR.p R R (VP.glE T_api_Node.vv R R el22 h9) <| VR.p R R (VP.loadE R ld40 R) ?_
     obtain ⟨r2, h10, hm⟩ := bnd hm
     refine VR.cons R R (VO.callK 0 R fn26 R (ref02_right_ok x r2 h10) fun _ _ h12 => ?_)
     obtain ⟨rfl, rfl⟩ := h12
     refine VR.p R R (VP.not R) <| VR.nil ?_
     rcases ite_or hm with ⟨h11, hm⟩ | ⟨h11, hm⟩
     ·refine VW.condT R h11 <| VW.seq <| VW.region <| VR.p R R (VP.assign R) <| VR.nil ?_
      obtain rfl := Option.some.inj hm
      have hm := Out.ret_on h7
      obtain rfl := Option.some.inj hm
      exact VW.ret ⟨.inl R, _, .cons (.tmp _ _ R) .nil, [], _, R, R, R⟩
     ·have h11 := bf h11
      refine VW.condF R h11 <| VW.skip <| VW.region <| VR.p R R (VP.move R) <| VR.p R R (VP.arith R R R) <| VR.p R R (VP.assign R) <| VR.nil ?_
      exact ⟨(IntKind.i64.wrap (i2 + (1 : Int))), (), hm, (Shift.pick [] R ⟨R, R, R, trivial⟩)⟩
    ·have h8 := bf h8
     refine VW.condF R h8 <| VW.exit ?_
     exact ⟨(), (), (Option.some.inj hm).symm, (Shift.pick [] R ⟨R, R, trivial⟩)⟩
   ·rintro j _ rfl
    have hm := Out.go_on h7
    refine VW.seq <| VW.seq <| VW.region <| VR.p R R (VP.assign R) <| VR.nil ?_
    obtain ⟨o2, h13, h14⟩ := bnd hm
    refine VW.joinE (fun (q : Unit) => o2 = Out.go q) (fun (j2 : Unit) (gg : Unit) => []) (fun (j2 : Unit) (gg : Unit) => []) ?_ ?_
    ·have hm := h13
     refine VW.block (VW.loop FU ?_)
     refine VL.fuelS (R := _) (fun zn (zs : Int) => ref02_Check.l2 l r zn zs) (fun (zs : Int) (zg : Unit) => [(0, .list 40 (List.map T_api_Node.vv l)), (3, .list 3 (List.map (VV.int .i64) r)), (5, .int .i64 zs)]) (fun (zs : Int) (zg : Unit) => []) (0 : Int) () (fun zs => R) (Shift.pick [] R ⟨R, R, R, trivial⟩) h13 ?_
     rintro n2 i4 _ hm
     rw [ref02_Check.l2] at hm
     refine VW.seq <| VW.seq <| VW.region <| VR.p R R (VP.move R) <| VR.p R R (VP.move R) <| VR.p R R (VP.lenT (VV.int .i64) R Try.underlying30) <| VR.p R R (VP.arith R R R) <| VR.nil ?_
     rcases ite_or hm with ⟨h15, hm⟩ | ⟨h15, hm⟩
     ·refine VW.condT R h15 <| VW.skip <| VW.seq <| VW.block <| VW.seq <| VW.region <| VR.p R R (VP.move R) <| VR.p R R (VP.move R) <| VR.p R R (VP.move R) ?_
      obtain ⟨x2, h16, hm⟩ := bnd hm
      refine VR.p R R (VP.glE (VV.int .i64) R R el30 h16) <| VR.p R R (VP.loadE R ld3 R) ?_
      obtain ⟨r3, h17, hm⟩ := bnd hm
      refine VR.cons R R (VO.callK 0 R fn27 R (ref02_deep_ok FU l x2 r3 h17) fun _ _ h19 => ?_)
      obtain ⟨rfl, rfl⟩ := h19
      refine VR.p R R (VP.arith R R R) <| VR.nil ?_
      rcases ite_or hm with ⟨h18, hm⟩ | ⟨h18, hm⟩
      ·refine VW.condT R h18 <| VW.seq <| VW.region <| VR.p R R (VP.assign R) <| VR.nil ?_
       obtain rfl := Option.some.inj hm
       have hm := Out.ret_on h14
       obtain rfl := Option.some.inj hm
       exact VW.ret ⟨.inl R, _, .cons (.tmp _ _ R) .nil, [], _, R, R, R⟩
      ·have h18 := bf h18
       refine VW.condF R h18 <| VW.skip <| VW.region <| VR.p R R (VP.move R) <| VR.p R R (VP.arith R R R) <| VR.p R R (VP.assign R) <| VR.nil ?_
       exact ⟨(IntKind.i64.wrap (i4 + (1 : Int))), (), hm, (Shift.pick [] R ⟨R, R, R, trivial⟩)⟩
     ·have h15 := bf h15
      refine VW.condF R h15 <| VW.exit ?_
      exact ⟨(), (), (Option.some.inj hm).symm, (Shift.pick [] R trivial)⟩
    ·rintro j2 _ rfl
     have hm := Out.go_on h14
     refine VW.seq <| VW.region <| VR.p R R (VP.assign R) <| VR.nil ?_
     obtain rfl := Option.some.inj hm
     exact VW.ret ⟨.inl R, _, .cons (.tmp _ _ R) .nil, [], _, R, R, R⟩

/-! trireme/triremeref02.show -/
def ref02_show.l1 (self_ : (List T_api_Node) → Int → Option ByteArray) (l : List T_api_Node) (r2 : List Int) : Nat → ByteArray → Int → Option ByteArray
 | 0, _, _ => none
 | n + 1, s2, j2 =>
  if (decide (j2 < (r2.length : Int))) = true then
   if (decide (j2 > (0 : Int))) = true then
    (V.cat s2 (⟨#[32]⟩ : ByteArray)).bind fun v =>
    (V.gl r2 j2).bind fun x4 =>
    (self_ l x4).bind fun r3 =>
    (V.cat v r3).bind fun v2 =>
    ref02_show.l1 self_ l r2 n v2 (IntKind.i64.wrap (j2 + (1 : Int)))
   else
    (V.gl r2 j2).bind fun x5 =>
    (self_ l x5).bind fun r4 =>
    (V.cat s2 r4).bind fun v3 =>
    ref02_show.l1 self_ l r2 n v3 (IntKind.i64.wrap (j2 + (1 : Int)))
  else
   some s2
def ref02_show : Nat → (List T_api_Node) → Int → Option ByteArray
 | 0, _, _ => none
 | nn + 1, l, i =>
  (V.gl l i).bind fun x =>
  if (x.Kind == (3 : Int)) = true then
   (V.gl l i).bind fun x2 =>
   some x2.Text
  else
   if (x.Kind == (4 : Int)) = true then
    (V.gl l i).bind fun x3 =>
    (ref01_Quote x3.Text).bind fun r =>
    some r
   else
    (ref02_Kids l i).bind fun r2 =>
    (ref02_show.l1 (ref02_show nn) l r2 FU (⟨#[40]⟩ : ByteArray) (0 : Int)).bind fun s32 =>
    (V.cat s32 (⟨#[41]⟩ : ByteArray)).bind fun v4 =>
    some v4
theorem ref02_show_ok (nn : Nat) : ∀ (l : List T_api_Node) (i : Int) (r : ByteArray) (hm : ref02_show nn l i = some r),
  VC Try.prog 30 [.list 40 (List.map T_api_Node.vv l), .int .i64 i] [] (fun zx zH => zx = .str r ∧ zH = []) := by
 induction nn with
 | zero => intro l i r hm; exact absurd hm (by rw [ref02_show]; simp)
 | succ nn ih =>
  intro l i r hm
  rw [ref02_show] at hm
  refine VC.run (c := _) (rs := [.tmp 4]) Try.func30 R R R <| VW.seq <| VW.region <| VR.p R R (VP.assign R) <| VR.nil <| VW.seq <| VW.seq <| VW.region <| VR.p R R (VP.move R) <| VR.p R R (VP.move R) ?_
  obtain ⟨x, h1, hm⟩ := bnd hm
  refine VR.p R R (VP.glE T_api_Node.vv R R el22 h1) <| VR.p R R (VP.fieldE R fa40_0) <| VR.p R R (VP.loadE R ld3 R) <| VR.nil <| VW.block <| VW.seq <| VW.region <| VR.p R R (VP.arith R R R) <| VR.p R R (VP.assign R) <| VR.nil ?_
  rcases ite_or hm with ⟨h2, hm⟩ | ⟨h2, hm⟩
  ·refine VW.condT R h2 <| VW.seq <| VW.region <| VR.p R R (VP.move R) <| VR.p R R (VP.move R) ?_
   obtain ⟨x2, h3, hm⟩ := bnd hm
   refine VR.p R R (VP.glE T_api_Node.vv R R el22 h3) <| VR.p R R (VP.fieldE R fa40_1) <| VR.p R R (VP.loadE R ld9 R) <| VR.p R R (VP.assign R) <| VR.nil ?_
   obtain rfl := Option.some.inj hm
   exact VW.ret ⟨.inl R, _, .cons (.tmp _ _ R) .nil, [], _, R, R, R⟩
  ·have h2 := bf h2
   refine VW.condF R h2 <| VW.seq <| VW.region <| VR.p R R (VP.arith R R R) <| VR.p R R (VP.assign R) <| VR.nil ?_
   rcases ite_or hm with ⟨h4, hm⟩ | ⟨h4, hm⟩
   ·refine VW.condT R h4 <| VW.seq <| VW.region <| VR.p R R (VP.move R) <| VR.p R R (VP.move R) ?_
    obtain ⟨x3, h5, hm⟩ := bnd hm
    refine VR.p R R (VP.glE T_api_Node.vv R R el22 h5) <| VR.p R R (VP.fieldE R fa40_1) <| VR.p R R (VP.loadE R ld9 R) ?_
    obtain ⟨r, h6, hm⟩ := bnd hm
    refine VR.cons R R (VO.callK 0 R fn37 R (ref01_Quote_ok x3.Text r h6) fun _ _ h7 => ?_)
    obtain ⟨rfl, rfl⟩ := h7
    refine VR.p R R (VP.assign R) <| VR.nil ?_
    obtain rfl := Option.some.inj hm
    exact VW.ret ⟨.inl R, _, .cons (.tmp _ _ R) .nil, [], _, R, R, R⟩
   ·have h4 := bf h4
    refine VW.condF R h4 <| VW.skip <| VW.seq <| VW.region <| VR.p R R (VP.assign R) <| VR.nil <| VW.seq <| VW.region <| VR.p R R (VP.move R) <| VR.p R R (VP.move R) ?_
    obtain ⟨r2, h8, hm⟩ := bnd hm
    refine VR.cons R R (VO.callK 0 R fn17 R (ref02_Kids_ok l i r2 h8) fun _ _ h24 => ?_)
    obtain ⟨ob, cap, rfl, rfl⟩ := h24
    refine VR.shift (Shift.freezeE 0 [(30, .list 3 (List.map (VV.int .i64) r2))] R ⟨⟨_, R, .here _ R⟩, trivial⟩ (FzH.refl _)) <| VR.p R R (VP.assign R) <| VR.nil <| VW.seq <| VW.seq <| VW.region <| VR.p R R (VP.assign R) <| VR.nil ?_
    obtain ⟨o, h10, h11⟩ := bnd hm
    refine VW.joinE (fun (q : ByteArray) => q = o) (fun (s32 : ByteArray) (gg : Unit) => [(5, .str s32)]) (fun (s32 : ByteArray) (gg : Unit) => []) ?_ ?_
    ·have hm := h10
     refine VW.block (VW.loop FU ?_)
     refine VL.fuelS (R := _) (fun zn (zs : ByteArray × Int) => ref02_show.l1 (ref02_show nn) l r2 zn zs.1 zs.2) (fun (zs : ByteArray × Int) (zg : Unit) => [(0, .list 40 (List.map T_api_Node.vv l)), (5, .str zs.1), (6, .list 3 (List.map (VV.int .i64) r2)), (7, .int .i64 zs.2)]) (fun (zs : ByteArray × Int) (zg : Unit) => []) ((⟨#[40]⟩ : ByteArray), (0 : Int)) () (fun zs => R) (Shift.pick [] R ⟨R, R, R, R, trivial⟩) h10 ?_
     rintro n ⟨s2, j2⟩ _ hm
     rw [ref02_show.l1] at hm
     refine VW.seq <| VW.seq <| VW.region <| VR.p R R (VP.move R) <| VR.p R R (VP.move R) <| VR.p R R (VP.lenT (VV.int .i64) R Try.underlying30) <| VR.p R R (VP.arith R R R) <| VR.nil ?_
     rcases ite_or hm with ⟨h12, hm⟩ | ⟨h12, hm⟩
     ·refine VW.condT R h12 <| VW.skip <| VW.seq <| VW.block <| VW.seq <| VW.seq <| VW.region <| VR.p R R (VP.move R) <| VR.p R R (VP.arith R R R) <| VR.nil ?_
      rcases ite_or hm with ⟨h13, hm⟩ | ⟨h13, hm⟩
      ·refine VW.condT R h13 <| VW.region <| VR.p R R (VP.move R) ?_
       obtain ⟨v, h14, hm⟩ := bnd hm
       refine VR.p R R (VP.catT R R h14) <| VR.p R R (VP.assign R) <| VR.nil <| VW.region <| VR.p R R (VP.move R) <| VR.p R R (VP.move R) <| VR.p R R (VP.move R) <| VR.p R R (VP.move R) ?_
       obtain ⟨x4, h15, hm⟩ := bnd hm
       refine VR.p R R (VP.glE (VV.int .i64) R R el30 h15) <| VR.p R R (VP.loadE R ld3 R) ?_
       obtain ⟨r3, h16, hm⟩ := bnd hm
       refine VR.cons R R (VO.callK 0 R fn30 R (ih l x4 r3 h16) fun _ _ h18 => ?_)
       obtain ⟨rfl, rfl⟩ := h18
       obtain ⟨v2, h17, hm⟩ := bnd hm
       refine VR.p R R (VP.catT R R h17) <| VR.p R R (VP.assign R) <| VR.nil <| VW.region <| VR.p R R (VP.move R) <| VR.p R R (VP.arith R R R) <| VR.p R R (VP.assign R) <| VR.nil ?_
       exact ⟨(v2, (IntKind.i64.wrap (j2 + (1 : Int)))), (), hm, (Shift.pick [] R ⟨R, R, R, R, trivial⟩)⟩
      ·have h13 := bf h13
       refine VW.condF R h13 <| VW.skip <| VW.region <| VR.p R R (VP.move R) <| VR.p R R (VP.move R) <| VR.p R R (VP.move R) <| VR.p R R (VP.move R) ?_
       obtain ⟨x5, h19, hm⟩ := bnd hm
       refine VR.p R R (VP.glE (VV.int .i64) R R el30 h19) <| VR.p R R (VP.loadE R ld3 R) ?_
       obtain ⟨r4, h20, hm⟩ := bnd hm
       refine VR.cons R R (VO.callK 0 R fn30 R (ih l x5 r4 h20) fun _ _ h22 => ?_)
       obtain ⟨rfl, rfl⟩ := h22
       obtain ⟨v3, h21, hm⟩ := bnd hm
       refine VR.p R R (VP.catT R R h21) <| VR.p R R (VP.assign R) <| VR.nil <| VW.region <| VR.p R R (VP.move R) <| VR.p R R (VP.arith R R R) <| VR.p R R (VP.assign R) <| VR.nil ?_
       exact ⟨(v3, (IntKind.i64.wrap (j2 + (1 : Int)))), (), hm, (Shift.pick [] R ⟨R, R, R, R, trivial⟩)⟩
     ·have h12 := bf h12
      refine VW.condF R h12 <| VW.exit ?_
      exact ⟨s2, (), Option.some.inj hm, (Shift.pick [] R ⟨R, trivial⟩)⟩
    ·rintro s32 _ rfl
     have hm := h11
     refine VW.seq <| VW.region <| VR.p R R (VP.move R) ?_
     obtain ⟨v4, h23, hm⟩ := bnd hm
     refine VR.p R R (VP.catT R R h23) <| VR.p R R (VP.assign R) <| VR.nil ?_
     obtain rfl := Option.some.inj hm
     exact VW.ret ⟨.inl R, _, .cons (.tmp _ _ R) .nil, [], _, R, R, R⟩

end Go.Proofs.Ytbnohlgchjcjhaa.M

/-
  Printed by a program of this session out of the loaded functions: models and their proofs. Own text.
-/
import Derived.Test.YtbnohlgchjcjhaaRTT
namespace Go.Proofs.Ytbnohlgchjcjhaa.M
open Go Go.Proofs Go.Proofs.Ytbnohlgchjcjhaa.V
set_option linter.unusedVariables false
set_option maxRecDepth 20000
set_option maxHeartbeats 4000000
/-! trireme/triremeref02.Light -/
def ref02_Light.l1 (l : List T_api_Node) : Nat → Int → Option (Out Bool Unit)
 | 0, _ => none
 | n + 1, i2 =>
  if (decide (i2 < (l.length : Int))) = true then
   (V.gl l i2).bind fun x =>
   if (decide ((x.Text.size : Int) > (300 : Int))) = true then
    some (Out.ret false)
   else
    ref02_Light.l1 l n (IntKind.i64.wrap (i2 + (1 : Int)))
  else
   some (Out.go ())
def ref02_Light (l : List T_api_Node) : Option Bool :=
 if (decide ((l.length : Int) > (300 : Int))) = true then
  some false
 else
  (ref02_Light.l1 l FU (0 : Int)).bind fun o =>
  o.on fun j =>
  some true
theorem ref02_Light_ok (l : List T_api_Node) (r : Bool) (hm : ref02_Light l = some r) :
  VC Try.prog 7 [.list 40 (List.map T_api_Node.vv l)] [] (fun zx zH => zx = .bool r ∧ zH = []) := by
 unfold ref02_Light at hm
 refine VC.run (c := _) (rs := [.tmp 2]) Try.func7 R R R <| VW.seq <| VW.region <| VR.p R R (VP.assign R) <| VR.nil <| VW.seq <| VW.seq <| VW.region <| VR.p R R (VP.move R) <| VR.p R R (VP.lenT T_api_Node.vv R Try.underlying22) <| VR.p R R (VP.arith R R R) <| VR.nil ?_
 rcases ite_or hm with ⟨h1, hm⟩ | ⟨h1, hm⟩
 ·refine VW.condT R h1 <| VW.seq <| VW.region <| VR.p R R (VP.assign R) <| VR.nil ?_
  obtain rfl := Option.some.inj hm
  exact VW.ret ⟨.inl R, _, .cons (.tmp _ _ R) .nil, [], _, R, R, R⟩
 ·have h1 := bf h1
  refine VW.condF R h1 <| VW.skip <| VW.seq <| VW.seq <| VW.region <| VR.p R R (VP.assign R) <| VR.nil ?_
  obtain ⟨o, h2, h3⟩ := bnd hm
  refine VW.joinE (fun (q : Unit) => o = Out.go q) (fun (j : Unit) (gg : Unit) => []) (fun (j : Unit) (gg : Unit) => []) ?_ ?_
  ·have hm := h2
   refine VW.block (VW.loop FU ?_)
   refine VL.fuelS (R := _) (fun zn (zs : Int) => ref02_Light.l1 l zn zs) (fun (zs : Int) (zg : Unit) => [(0, .list 40 (List.map T_api_Node.vv l)), (3, .int .i64 zs)]) (fun (zs : Int) (zg : Unit) => []) (0 : Int) () (fun zs => R) (Shift.pick [] R ⟨R, R, trivial⟩) h2 ?_
   rintro n i2 _ hm
   rw [ref02_Light.l1] at hm
   refine VW.seq <| VW.seq <| VW.region <| VR.p R R (VP.move R) <| VR.p R R (VP.move R) <| VR.p R R (VP.lenT T_api_Node.vv R Try.underlying22) <| VR.p R R (VP.arith R R R) <| VR.nil ?_
   rcases ite_or hm with ⟨h4, hm⟩ | ⟨h4, hm⟩
   ·refine VW.condT R h4 <| VW.skip <| VW.seq <| VW.block <| VW.seq <| VW.region <| VR.p R R (VP.move R) <| VR.p R R (VP.move R) ?_
    obtain ⟨x, h5, hm⟩ := bnd hm
    refine VR.p R R (VP.glE T_api_Node.vv R R el22 h5) <| VR.p R R (VP.fieldE R fa40_1) <| VR.p R R (VP.loadE R ld9 R) <| VR.p R R (VP.lenS R Try.underlying9) <| VR.p R R (VP.arith R R R) <| VR.nil ?_
    rcases ite_or hm with ⟨h6, hm⟩ | ⟨h6, hm⟩
    ·refine VW.condT R h6 <| VW.seq <| VW.region <| VR.p R R (VP.assign R) <| VR.nil ?_
     obtain rfl := Option.some.inj hm
     have hm := Out.ret_on h3
     obtain rfl := Option.some.inj hm
     exact VW.ret ⟨.inl R, _, .cons (.tmp _ _ R) .nil, [], _, R, R, R⟩
    ·have h6 := bf h6
     refine VW.condF R h6 <| VW.skip <| VW.region <| VR.p R R (VP.move R) <| VR.p R R (VP.arith R R R) <| VR.p R R (VP.assign R) <| VR.nil ?_
     exact ⟨(IntKind.i64.wrap (i2 + (1 : Int))), (), hm, (Shift.pick [] R ⟨R, R, trivial⟩)⟩
   ·have h4 := bf h4
    refine VW.condF R h4 <| VW.exit ?_
    exact ⟨(), (), (Option.some.inj hm).symm, (Shift.pick [] R trivial)⟩
  ·rintro j _ rfl
   have hm := Out.go_on h3
   refine VW.seq <| VW.region <| VR.p R R (VP.assign R) <| VR.nil ?_
   obtain rfl := Option.some.inj hm
   exact VW.ret ⟨.inl R, _, .cons (.tmp _ _ R) .nil, [], _, R, R, R⟩

/-! trireme/lex.right -/
def lex_right (s : ByteArray) (i : Int) (c : Int) : Option Bool :=
 (if (c != (65533 : Int)) = true then some true else (if (decide ((IntKind.i64.wrap (i + (2 : Int))) < (s.size : Int))) = true then (V.gi s i).bind fun v =>
 some (v == (239 : Int)) else some false).bind fun c2 =>
 (if c2 = true then (V.gi s (IntKind.i64.wrap (i + (1 : Int)))).bind fun v2 =>
 some (v2 == (191 : Int)) else some false).bind fun c3 =>
 (if c3 = true then (V.gi s (IntKind.i64.wrap (i + (2 : Int)))).bind fun v3 =>
 some (v3 == (189 : Int)) else some false).bind fun c4 =>
 some c4).bind fun c5 =>
 some c5
theorem lex_right_ok (s : ByteArray) (i : Int) (c : Int) (r : Bool) (hm : lex_right s i c = some r) :
  VC Try.prog 55 [.str s, .int .i64 i, .int .i32 c] [] (fun zx zH => zx = .bool r ∧ zH = []) := by
 unfold lex_right at hm
 refine VC.run (c := _) (rs := [.tmp 6]) Try.func55 R R R <| VW.seq <| VW.region <| VR.p R R (VP.assign R) <| VR.nil <| VW.seq <| VW.region <| VR.p R R (VP.move R) <| VR.p R R (VP.arith R R R) <| VR.p R R (VP.move R) ?_
 obtain ⟨c5, h11, hm⟩ := bnd hm
 refine VR.sc 26 35 (.bool c5) (fun K' J => ?_) ?_
 ·have hm := h11
  rcases ite_or hm with ⟨h1, hm⟩ | ⟨h1, hm⟩
  ·refine VR.skipG R R R R h1 <| VR.skipG R R R R h1 <| VR.skipG R R R R h1 <| VR.skipG R R R R h1 <| VR.skipG R R R R h1 <| VR.skipG R R R R h1 <| VR.skipU R R R R <| VR.skipU R R R R <| VR.skipU R R R R <| VR.skipU R R R R <| VR.skipG R R R R h1 <| VR.skipG R R R R h1 <| VR.skipU R R R R <| VR.skipU R R R R <| VR.skipU R R R R <| VR.skipU R R R R <| VR.skipU R R R R <| VR.skipG R R R R h1 <| VR.skipG R R R R h1 <| VR.skipU R R R R <| VR.skipU R R R R <| VR.skipU R R R R <| VR.skipU R R R R <| VR.skipU R R R R <| VR.skipG R R R R h1 <| VR.p R R (VP.pickB true R h1 R) ?_
   exact J [_, _, _, _, _, _, _, _, _, _, _, _, _, _, _, _, _, _, _, _, _, _, _, _, _] _ R (congrArg VV.bool (Option.some.inj hm))
  ·have h1 := bf h1
   refine VR.pG R R R R h1 (VP.move R) <| VR.pG R R R R h1 (VP.arith R R R) <| VR.pG R R R R h1 (VP.move R) <| VR.pG R R R R h1 (VP.lenS R Try.underlying9) <| VR.pG R R R R h1 (VP.arith R R R) <| VR.pG R R R R h1 (VP.move R) ?_
   obtain ⟨c2, h4, hm⟩ := bnd hm
   refine VR.sc 5 20 (.bool c2) (fun K' J => ?_) ?_
   ·have hm := h4
    rcases ite_or hm with ⟨h2, hm⟩ | ⟨h2, hm⟩
    ·refine VR.pG R R R R h2 (VP.move R) <| VR.pG R R R R h2 (VP.move R) ?_
     obtain ⟨v, h3, hm⟩ := bnd hm
     refine VR.pG R R R R h2 (VP.gi R R Try.underlying9 h3) <| VR.pG R R R R h2 (VP.arith R R R) <| VR.pG R R R R h1 (VP.pickB true R h2 R) ?_
     exact J [_, _, _, _] _ R (congrArg VV.bool (Option.some.inj hm))
    ·have h2 := bf h2
     refine VR.skipG R R R R h2 <| VR.skipG R R R R h2 <| VR.skipG R R R R h2 <| VR.skipG R R R R h2 <| VR.pG R R R R h1 (VP.pickB false R h2 R) ?_
     exact J [_, _, _, _] _ R (congrArg VV.bool (Option.some.inj hm))
   ·refine VR.pG R R R R h1 (VP.move R) ?_
    obtain ⟨c3, h7, hm⟩ := bnd hm
    refine VR.sc 6 27 (.bool c3) (fun K' J => ?_) ?_
    ·have hm := h7
     rcases ite_or hm with ⟨h5, hm⟩ | ⟨h5, hm⟩
     ·refine VR.pG R R R R h5 (VP.move R) <| VR.pG R R R R h5 (VP.move R) <| VR.pG R R R R h5 (VP.arith R R R) ?_
      obtain ⟨v2, h6, hm⟩ := bnd hm
      refine VR.pG R R R R h5 (VP.gi R R Try.underlying9 h6) <| VR.pG R R R R h5 (VP.arith R R R) <| VR.pG R R R R h1 (VP.pickB true R h5 R) ?_
      exact J [_, _, _, _, _] _ R (congrArg VV.bool (Option.some.inj hm))
     ·have h5 := bf h5
      refine VR.skipG R R R R h5 <| VR.skipG R R R R h5 <| VR.skipG R R R R h5 <| VR.skipG R R R R h5 <| VR.skipG R R R R h5 <| VR.pG R R R R h1 (VP.pickB false R h5 R) ?_
      exact J [_, _, _, _, _] _ R (congrArg VV.bool (Option.some.inj hm))
    ·refine VR.pG R R R R h1 (VP.move R) ?_
     obtain ⟨c4, h10, hm⟩ := bnd hm
     refine VR.sc 6 34 (.bool c4) (fun K' J => ?_) ?_
     ·have hm := h10
      rcases ite_or hm with ⟨h8, hm⟩ | ⟨h8, hm⟩
      ·refine VR.pG R R R R h8 (VP.move R) <| VR.pG R R R R h8 (VP.move R) <| VR.pG R R R R h8 (VP.arith R R R) ?_
       obtain ⟨v3, h9, hm⟩ := bnd hm
       refine VR.pG R R R R h8 (VP.gi R R Try.underlying9 h9) <| VR.pG R R R R h8 (VP.arith R R R) <| VR.pG R R R R h1 (VP.pickB true R h8 R) ?_
       exact J [_, _, _, _, _] _ R (congrArg VV.bool (Option.some.inj hm))
      ·have h8 := bf h8
       refine VR.skipG R R R R h8 <| VR.skipG R R R R h8 <| VR.skipG R R R R h8 <| VR.skipG R R R R h8 <| VR.skipG R R R R h8 <| VR.pG R R R R h1 (VP.pickB false R h8 R) ?_
       exact J [_, _, _, _, _] _ R (congrArg VV.bool (Option.some.inj hm))
     ·refine VR.p R R (VP.pickB false R h1 R) ?_
      exact J [_, _, _, _, _, _, _, _, _, _, _] _ R (congrArg VV.bool (Option.some.inj hm))
 ·refine VR.p R R (VP.assign R) <| VR.nil ?_
  obtain rfl := Option.some.inj hm
  exact VW.ret ⟨.inl R, _, .cons (.tmp _ _ R) .nil, [], _, R, R, R⟩

/-! trireme/lex.Runes -/
def lex_Runes.l1 (s : ByteArray) : Nat → Int → Nat → Option (Out Int Int)
 | 0, _, _ => none
 | n4 + 1, n2, pos2 =>
  if pos2 < s.size then
   (lex_right s (pos2 : Int) ((Utf8.decode s pos2).1 : Int)).bind fun r =>
   if (!r) = true then
    some (Out.ret (-1 : Int))
   else
    lex_Runes.l1 s n4 (IntKind.i64.wrap (n2 + (1 : Int))) (pos2 + (Utf8.decode s pos2).2)
  else
   some (Out.go n2)
def lex_Runes (s : ByteArray) : Option Int :=
 (lex_Runes.l1 s FU (0 : Int) 0).bind fun o =>
 o.on fun n32 =>
 some n32
theorem lex_Runes_ok (s : ByteArray) (r : Int) (hm : lex_Runes s = some r) :
  VC Try.prog 42 [.str s] [] (fun zx zH => zx = .int .i64 r ∧ zH = []) := by
 unfold lex_Runes at hm
 refine VC.run (c := _) (rs := [.tmp 2]) Try.func42 R R R <| VW.seq <| VW.region <| VR.p R R (VP.assign R) <| VR.nil <| VW.seq <| VW.region <| VR.p R R (VP.assign R) <| VR.nil <| VW.seq <| VW.seq <| VW.region <| VR.p R R (VP.move R) ?_
 refine VR.cons R R (VO.range Try.underlying9 R fun b => ?_)
 refine VR.nil ?_
 obtain ⟨o, h2, h3⟩ := bnd hm
 refine VW.joinE (fun (q : Int) => o = Out.go q) (fun (n32 : Int) (gg : Unit) => [(3, .int .i64 n32)]) (fun (n32 : Int) (gg : Unit) => []) ?_ ?_
 ·have hm := h2
  refine VW.block (VW.loop FU ?_)
  refine VL.fuelS (R := _) (fun zn (zs : Int × Nat) => lex_Runes.l1 s zn zs.1 zs.2) (fun (zs : Int × Nat) (zg : Unit) => [(0, .str s), (3, .int .i64 zs.1), (7, .ptr b 0)]) (fun (zs : Int × Nat) (zg : Unit) => [.iter b s zs.2]) ((0 : Int), 0) () (fun zs => R) (Shift.pick [0] R ⟨R, R, R, trivial⟩) h2 ?_
  rintro n4 ⟨n2, pos2⟩ _ hm
  rw [lex_Runes.l1] at hm
  refine VW.seq <| VW.region ?_
  rcases ite_or hm with ⟨h4, hm⟩ | ⟨h4, hm⟩
  ·refine VR.cons R R (VO.nextS (i := 0) R R h4 ?_)
   refine VR.p R R (VP.extract R R) <| VR.nil <| VW.seq <| VW.condT R R <| VW.skip <| VW.block <| VW.seq <| VW.region <| VR.p R R (VP.extract R R) <| VR.p R R (VP.extract R R) <| VR.p R R (VP.assign R) <| VR.p R R (VP.assign R) <| VR.nil <| VW.seq <| VW.seq <| VW.region <| VR.p R R (VP.move R) <| VR.p R R (VP.move R) <| VR.p R R (VP.move R) ?_
   obtain ⟨r, h5, hm⟩ := bnd hm
   refine VR.cons R R (VO.callK 0 R fn55 R (lex_right_ok s (pos2 : Int) ((Utf8.decode s pos2).1 : Int) r h5) fun _ _ h7 => ?_)
   obtain ⟨rfl, rfl⟩ := h7
   refine VR.p R R (VP.not R) <| VR.nil ?_
   rcases ite_or hm with ⟨h6, hm⟩ | ⟨h6, hm⟩
   ·refine VW.condT R h6 <| VW.seq <| VW.region <| VR.p R R (VP.assign R) <| VR.nil ?_
    obtain rfl := Option.some.inj hm
    have hm := Out.ret_on h3
    obtain rfl := Option.some.inj hm
    exact VW.ret ⟨.inl R, _, .cons (.tmp _ _ R) .nil, [], _, R, R, R⟩
   ·have h6 := bf h6
    refine VW.condF R h6 <| VW.skip <| VW.region <| VR.p R R (VP.move R) <| VR.p R R (VP.arith R R R) <| VR.p R R (VP.assign R) <| VR.nil ?_
    exact ⟨((IntKind.i64.wrap (n2 + (1 : Int))), (pos2 + (Utf8.decode s pos2).2)), (), hm, (Shift.pick [0] R ⟨R, R, R, trivial⟩)⟩
  ·refine VR.cons R R (VP.vo (VP.nextE (i := 0) R R h4) ?_)
   refine VR.p R R (VP.extract R R) <| VR.nil <| VW.seq <| VW.condF R R <| VW.exit ?_
   exact ⟨n2, (), (Option.some.inj hm).symm, (Shift.pick [] R ⟨R, trivial⟩)⟩
 ·rintro n32 _ rfl
  have hm := Out.go_on h3
  refine VW.seq <| VW.region <| VR.p R R (VP.move R) <| VR.p R R (VP.assign R) <| VR.nil ?_
  obtain rfl := Option.some.inj hm
  exact VW.ret ⟨.inl R, _, .cons (.tmp _ _ R) .nil, [], _, R, R, R⟩

/-! trireme/lex.blank -/
def lex_blank (c : Int) : Option Bool :=
 some ((((c == (32 : Int)) || (c == (9 : Int))) || (c == (10 : Int))) || (c == (13 : Int)))
theorem lex_blank_ok (c : Int) (r : Bool) (hm : lex_blank c = some r) :
  VC Try.prog 50 [.int .i32 c] [] (fun zx zH => zx = .bool r ∧ zH = []) := by
 unfold lex_blank at hm
 refine VC.run (c := _) (rs := [.tmp 2]) Try.func50 R R R <| VW.seq <| VW.region <| VR.p R R (VP.assign R) <| VR.nil <| VW.seq <| VW.region <| VR.p R R (VP.move R) <| VR.p R R (VP.arith R R R) <| VR.p R R (VP.move R) ?_
 refine VR.sc 3 8 (.bool ((c == (32 : Int)) || (c == (9 : Int)))) (fun K' J => ?_) ?_
 ·rcases Bool.eq_false_or_eq_true (c == (32 : Int)) with h1 | h1
  ·refine VR.skipG R R R R h1 <| VR.skipG R R R R h1 <| VR.p R R (VP.pickB true R h1 R) ?_
   exact J [_, _] _ R (orT h1)
  ·refine VR.pG R R R R h1 (VP.move R) <| VR.pG R R R R h1 (VP.arith R R R) <| VR.p R R (VP.pickB false R h1 R) ?_
   exact J [_, _] _ R (orF h1)
 ·refine VR.p R R (VP.move R) ?_
  refine VR.sc 3 12 (.bool (((c == (32 : Int)) || (c == (9 : Int))) || (c == (10 : Int)))) (fun K' J => ?_) ?_
  ·rcases Bool.eq_false_or_eq_true ((c == (32 : Int)) || (c == (9 : Int))) with h2 | h2
   ·refine VR.skipG R R R R h2 <| VR.skipG R R R R h2 <| VR.p R R (VP.pickB true R h2 R) ?_
    exact J [_, _] _ R (orT h2)
   ·refine VR.pG R R R R h2 (VP.move R) <| VR.pG R R R R h2 (VP.arith R R R) <| VR.p R R (VP.pickB false R h2 R) ?_
    exact J [_, _] _ R (orF h2)
  ·refine VR.p R R (VP.move R) ?_
   refine VR.sc 3 16 (.bool ((((c == (32 : Int)) || (c == (9 : Int))) || (c == (10 : Int))) || (c == (13 : Int)))) (fun K' J => ?_) ?_
   ·rcases Bool.eq_false_or_eq_true (((c == (32 : Int)) || (c == (9 : Int))) || (c == (10 : Int))) with h3 | h3
    ·refine VR.skipG R R R R h3 <| VR.skipG R R R R h3 <| VR.p R R (VP.pickB true R h3 R) ?_
     exact J [_, _] _ R (orT h3)
    ·refine VR.pG R R R R h3 (VP.move R) <| VR.pG R R R R h3 (VP.arith R R R) <| VR.p R R (VP.pickB false R h3 R) ?_
     exact J [_, _] _ R (orF h3)
   ·refine VR.p R R (VP.assign R) <| VR.nil ?_
    obtain rfl := Option.some.inj hm
    exact VW.ret ⟨.inl R, _, .cons (.tmp _ _ R) .nil, [], _, R, R, R⟩

/-! (*trireme/lex.scanner).pass -/
def lex_scanner_pass.l1 (n : Int) : Nat → T_lex_scanner → Int → Option T_lex_scanner
 | 0, _, _ => none
 | n2 + 1, x3, i2 =>
  if (decide (i2 < (IntKind.i64.wrap (x3.at_ + n)))) = true then
   (V.gi x3.s i2).bind fun v =>
   if (v == (10 : Int)) = true then
    lex_scanner_pass.l1 n n2 (⟨x3.s, x3.at_, (IntKind.i64.wrap (x3.line + (1 : Int))), (IntKind.i64.wrap (i2 + (1 : Int)))⟩ : T_lex_scanner) (IntKind.i64.wrap (i2 + (1 : Int)))
   else
    lex_scanner_pass.l1 n n2 x3 (IntKind.i64.wrap (i2 + (1 : Int)))
  else
   some x3
def lex_scanner_pass (x : T_lex_scanner) (n : Int) : Option T_lex_scanner :=
 (lex_scanner_pass.l1 n FU x x.at_).bind fun x42 =>
 some (⟨x42.s, (IntKind.i64.wrap (x42.at_ + n)), x42.line, x42.from_⟩ : T_lex_scanner)
theorem lex_scanner_pass_ok (x : T_lex_scanner) (n : Int) (b : Nat) (r : T_lex_scanner) (hm : lex_scanner_pass x n = some r) :
  VC Try.prog 51 [.ptr b 0, .int .i64 n] [.box b 55 (T_lex_scanner.cells x)] (fun zx zH => zx = .tup [] ∧ zH = [.box b 55 (T_lex_scanner.cells r)]) := by
 unfold lex_scanner_pass at hm
 refine VC.run (c := _) (rs := []) Try.func51 R R R <| VW.seq <| VW.seq <| VW.region <| VR.p R R (VP.move R) <| VR.p R R (VP.nilCheckP R) <| VR.p R R (VP.fieldP R fa55_1) <| VR.p R R (VP.loadP (i := 0) R R ld3 R) <| VR.p R R (VP.assign R) <| VR.nil ?_
 obtain ⟨o, h1, h2⟩ := bnd hm
 refine VW.joinE (fun (q : T_lex_scanner) => q = o) (fun (x42 : T_lex_scanner) (gg : Unit) => [(0, .ptr b 0), (1, .int .i64 n)]) (fun (x42 : T_lex_scanner) (gg : Unit) => [.box b 55 (T_lex_scanner.cells x42)]) ?_ ?_
 ·have hm := h1
  refine VW.block (VW.loop FU ?_)
  refine VL.fuelS (R := _) (fun zn (zs : T_lex_scanner × Int) => lex_scanner_pass.l1 n zn zs.1 zs.2) (fun (zs : T_lex_scanner × Int) (zg : Unit) => [(0, .ptr b 0), (1, .int .i64 n), (4, .int .i64 zs.2)]) (fun (zs : T_lex_scanner × Int) (zg : Unit) => [.box b 55 (T_lex_scanner.cells zs.1)]) (x, x.at_) () (fun zs => R) (Shift.pick [0] R ⟨R, R, R, trivial⟩) h1 ?_
  rintro n2 ⟨x3, i2⟩ _ hm
  rw [lex_scanner_pass.l1] at hm
  refine VW.seq <| VW.seq <| VW.region <| VR.p R R (VP.move R) <| VR.p R R (VP.move R) <| VR.p R R (VP.nilCheckP R) <| VR.p R R (VP.fieldP R fa55_1) <| VR.p R R (VP.loadP (i := 0) R R ld3 R) <| VR.p R R (VP.move R) <| VR.p R R (VP.arith R R R) <| VR.p R R (VP.arith R R R) <| VR.nil ?_
  rcases ite_or hm with ⟨h3, hm⟩ | ⟨h3, hm⟩
  ·refine VW.condT R h3 <| VW.skip <| VW.seq <| VW.block <| VW.seq <| VW.region <| VR.p R R (VP.move R) <| VR.p R R (VP.nilCheckP R) <| VR.p R R (VP.fieldP R fa55_0) <| VR.p R R (VP.loadP (i := 0) R R ld9 R) <| VR.p R R (VP.move R) ?_
   obtain ⟨v, h4, hm⟩ := bnd hm
   refine VR.p R R (VP.gi R R Try.underlying9 h4) <| VR.p R R (VP.arith R R R) <| VR.nil ?_
   rcases ite_or hm with ⟨h5, hm⟩ | ⟨h5, hm⟩
   ·refine VW.condT R h5 <| VW.seq <| VW.region <| VR.p R R (VP.move R) <| VR.p R R (VP.nilCheckP R) <| VR.p R R (VP.fieldP R fa55_2) <| VR.p R R (VP.loadP (i := 0) R R ld3 R) <| VR.p R R (VP.arith R R R) <| VR.p R R (VP.nilCheckP R) <| VR.p R R (VP.fieldP R fa55_2) ?_
    refine VR.cons R R (VO.storeP (i := 0) R R R ld3 R R R ?_)
    refine VR.nil <| VW.region <| VR.p R R (VP.move R) <| VR.p R R (VP.move R) <| VR.p R R (VP.arith R R R) <| VR.p R R (VP.nilCheckP R) <| VR.p R R (VP.fieldP R fa55_3) ?_
    refine VR.cons R R (VO.storeP (i := 0) R R R ld3 R R R ?_)
    refine VR.nil <| VW.region <| VR.p R R (VP.move R) <| VR.p R R (VP.arith R R R) <| VR.p R R (VP.assign R) <| VR.nil ?_
    exact ⟨((⟨x3.s, x3.at_, (IntKind.i64.wrap (x3.line + (1 : Int))), (IntKind.i64.wrap (i2 + (1 : Int)))⟩ : T_lex_scanner), (IntKind.i64.wrap (i2 + (1 : Int)))), (), hm, (Shift.pick [0] R ⟨R, R, R, trivial⟩)⟩
   ·have h5 := bf h5
    refine VW.condF R h5 <| VW.skip <| VW.region <| VR.p R R (VP.move R) <| VR.p R R (VP.arith R R R) <| VR.p R R (VP.assign R) <| VR.nil ?_
    exact ⟨(x3, (IntKind.i64.wrap (i2 + (1 : Int)))), (), hm, (Shift.pick [0] R ⟨R, R, R, trivial⟩)⟩
  ·have h3 := bf h3
   refine VW.condF R h3 <| VW.exit ?_
   exact ⟨x3, (), Option.some.inj hm, (Shift.pick [0] R ⟨R, R, trivial⟩)⟩
 ·rintro x42 _ rfl
  have hm := h2
  refine VW.region <| VR.p R R (VP.move R) <| VR.p R R (VP.nilCheckP R) <| VR.p R R (VP.fieldP R fa55_1) <| VR.p R R (VP.loadP (i := 0) R R ld3 R) <| VR.p R R (VP.move R) <| VR.p R R (VP.arith R R R) <| VR.p R R (VP.nilCheckP R) <| VR.p R R (VP.fieldP R fa55_1) ?_
  refine VR.cons R R (VO.storeP (i := 0) R R R ld3 R R R ?_)
  refine VR.nil ?_
  obtain rfl := Option.some.inj hm
  exact ⟨.inr R, _, .nil, [0], _, R, R, R⟩

/-! (*trireme/lex.scanner).remark$1 -/
def lex_scanner_remark_1 (c : Int) : Option Bool :=
 some (c != (10 : Int))
theorem lex_scanner_remark_1_ok (c : Int) (r : Bool) (hm : lex_scanner_remark_1 c = some r) :
  VC Try.prog 58 [.int .i32 c] [] (fun zx zH => zx = .bool r ∧ zH = []) := by
 unfold lex_scanner_remark_1 at hm
 refine VC.run (c := _) (rs := [.tmp 2]) Try.func58 R R R <| VW.seq <| VW.region <| VR.p R R (VP.assign R) <| VR.nil <| VW.seq <| VW.region <| VR.p R R (VP.move R) <| VR.p R R (VP.arith R R R) <| VR.p R R (VP.assign R) <| VR.nil ?_
 obtain rfl := Option.some.inj hm
 exact VW.ret ⟨.inl R, _, .cons (.tmp _ _ R) .nil, [], _, R, R, R⟩

/-! trireme/lex.head -/
def lex_head_lex_scanner_remark_1.l1 (s : ByteArray) : Nat → Nat → Option (Out (Int × Bool) Unit)
 | 0, _ => none
 | n + 1, pos2 =>
  if pos2 < s.size then
   (lex_right s (pos2 : Int) ((Utf8.decode s pos2).1 : Int)).bind fun r =>
   if (!r) = true then
    some (Out.ret ((pos2 : Int), false))
   else
    (lex_scanner_remark_1 ((Utf8.decode s pos2).1 : Int)).bind fun r2 =>
    if (!r2) = true then
     some (Out.ret ((pos2 : Int), true))
    else
     lex_head_lex_scanner_remark_1.l1 s n (pos2 + (Utf8.decode s pos2).2)
  else
   some (Out.go ())
def lex_head_lex_scanner_remark_1 (s : ByteArray) : Option (Int × Bool) :=
 (lex_head_lex_scanner_remark_1.l1 s FU 0).bind fun o =>
 o.on fun j =>
 some ((s.size : Int), true)
theorem lex_head_lex_scanner_remark_1_ok (s : ByteArray) (r : Int × Bool) (hm : lex_head_lex_scanner_remark_1 s = some r) :
  VC Try.prog 40 [.str s, .clo (.func 58) [] []] [] (fun zx zH => zx = .tup [.int .i64 r.1, .bool r.2] ∧ zH = []) := by
 unfold lex_head_lex_scanner_remark_1 at hm
 refine VC.run (c := _) (rs := [.tmp 4, .tmp 5]) Try.func40 R R R <| VW.seq <| VW.region <| VR.p R R (VP.assign R) <| VR.p R R (VP.assign R) <| VR.nil <| VW.seq <| VW.seq <| VW.region <| VR.p R R (VP.move R) ?_
 refine VR.cons R R (VO.range Try.underlying9 R fun b => ?_)
 refine VR.nil ?_
 obtain ⟨o, h2, h3⟩ := bnd hm
 refine VW.joinE (fun (q : Unit) => o = Out.go q) (fun (j : Unit) (gg : Unit) => [(0, .str s)]) (fun (j : Unit) (gg : Unit) => []) ?_ ?_
 ·have hm := h2
  refine VW.block (VW.loop FU ?_)
  refine VL.fuelS (R := _) (fun zn (zs : Nat) => lex_head_lex_scanner_remark_1.l1 s zn zs) (fun (zs : Nat) (zg : Unit) => [(0, .str s), (1, .clo (.func 58) [] []), (9, .ptr b 0)]) (fun (zs : Nat) (zg : Unit) => [.iter b s zs]) 0 () (fun zs => R) (Shift.pick [0] R ⟨R, R, R, trivial⟩) h2 ?_
  rintro n pos2 _ hm
  rw [lex_head_lex_scanner_remark_1.l1] at hm
  refine VW.seq <| VW.region ?_
  rcases ite_or hm with ⟨h4, hm⟩ | ⟨h4, hm⟩
  ·refine VR.cons R R (VO.nextS (i := 0) R R h4 ?_)
   refine VR.p R R (VP.extract R R) <| VR.nil <| VW.seq <| VW.condT R R <| VW.skip <| VW.block <| VW.seq <| VW.region <| VR.p R R (VP.extract R R) <| VR.p R R (VP.extract R R) <| VR.p R R (VP.assign R) <| VR.p R R (VP.assign R) <| VR.nil <| VW.seq <| VW.seq <| VW.region <| VR.p R R (VP.move R) <| VR.p R R (VP.move R) <| VR.p R R (VP.move R) ?_
   obtain ⟨r, h5, hm⟩ := bnd hm
   refine VR.cons R R (VO.callK 0 R fn55 R (lex_right_ok s (pos2 : Int) ((Utf8.decode s pos2).1 : Int) r h5) fun _ _ h10 => ?_)
   obtain ⟨rfl, rfl⟩ := h10
   refine VR.p R R (VP.not R) <| VR.nil ?_
   rcases ite_or hm with ⟨h6, hm⟩ | ⟨h6, hm⟩
   ·refine VW.condT R h6 <| VW.seq <| VW.region <| VR.p R R (VP.move R) <| VR.p R R (VP.assign R) <| VR.p R R (VP.assign R) <| VR.nil ?_
    obtain rfl := Option.some.inj hm
    have hm := Out.ret_on h3
    obtain rfl := Option.some.inj hm
    exact VW.ret ⟨.inl R, _, .cons (.tmp _ _ R) (.cons (.tmp _ _ R) .nil), [], _, R, R, R⟩
   ·have h6 := bf h6
    refine VW.condF R h6 <| VW.skip <| VW.seq <| VW.region <| VR.p R R (VP.move R) <| VR.p R R (VP.move R) ?_
    obtain ⟨r2, h7, hm⟩ := bnd hm
    refine VR.cons R R (VO.callK 0 R fn58 R (lex_scanner_remark_1_ok ((Utf8.decode s pos2).1 : Int) r2 h7) fun _ _ h9 => ?_)
    obtain ⟨rfl, rfl⟩ := h9
    refine VR.p R R (VP.not R) <| VR.nil ?_
    rcases ite_or hm with ⟨h8, hm⟩ | ⟨h8, hm⟩
    ·refine VW.condT R h8 <| VW.seq <| VW.region <| VR.p R R (VP.move R) <| VR.p R R (VP.assign R) <| VR.p R R (VP.assign R) <| VR.nil ?_
     obtain rfl := Option.some.inj hm
     have hm := Out.ret_on h3
     obtain rfl := Option.some.inj hm
     exact VW.ret ⟨.inl R, _, .cons (.tmp _ _ R) (.cons (.tmp _ _ R) .nil), [], _, R, R, R⟩
    ·have h8 := bf h8
     refine VW.condF R h8 <| VW.skip ?_
     exact ⟨(pos2 + (Utf8.decode s pos2).2), (), hm, (Shift.pick [0] R ⟨R, R, R, trivial⟩)⟩
  ·refine VR.cons R R (VP.vo (VP.nextE (i := 0) R R h4) ?_)
   refine VR.p R R (VP.extract R R) <| VR.nil <| VW.seq <| VW.condF R R <| VW.exit ?_
   exact ⟨(), (), (Option.some.inj hm).symm, (Shift.pick [] R ⟨R, trivial⟩)⟩
 ·rintro j _ rfl
  have hm := Out.go_on h3
  refine VW.seq <| VW.region <| VR.p R R (VP.move R) <| VR.p R R (VP.lenS R Try.underlying9) <| VR.p R R (VP.assign R) <| VR.p R R (VP.assign R) <| VR.nil ?_
  obtain rfl := Option.some.inj hm
  exact VW.ret ⟨.inl R, _, .cons (.tmp _ _ R) (.cons (.tmp _ _ R) .nil), [], _, R, R, R⟩

/-! (*trireme/lex.scanner).remark -/
def lex_scanner_remark (x : T_lex_scanner) : Option (T_lex_fault × T_lex_scanner) :=
 (V.ss x.s (some x.at_) none).bind fun v =>
 (lex_head_lex_scanner_remark_1 v).bind fun r =>
 if (!r.2) = true then
  some ((⟨(2 : Int), (IntKind.i64.wrap (x.at_ + r.1))⟩ : T_lex_fault), x)
 else
  (lex_scanner_pass x r.1).bind fun r2 =>
  some ((⟨(0 : Int), (0 : Int)⟩ : T_lex_fault), r2)
theorem lex_scanner_remark_ok (x : T_lex_scanner) (b : Nat) (r : T_lex_fault × T_lex_scanner) (hm : lex_scanner_remark x = some r) :
  VC Try.prog 52 [.ptr b 0] [.box b 55 (T_lex_scanner.cells x)] (fun zx zH => zx = T_lex_fault.vv r.1 ∧ zH = [.box b 55 (T_lex_scanner.cells r.2)]) := by
 unfold lex_scanner_remark at hm
 refine VC.run (c := _) (rs := [.cell 2 57]) Try.func52 R R R <| VW.seq <| VW.region ?_
 refine VR.cons R R (VO.alloc z57 fun b2 => ?_)
 refine VR.nil <| VW.seq <| VW.drawK 0 mixed <| VA.p 0 R R R (by kernel_rfl) (VP.move R) <| VA.p 1 R R R (by kernel_rfl) (VP.nilCheckP R) <| VA.p 2 R R R (by kernel_rfl) (VP.fieldP R fa55_0) <| VA.p 3 R R R (by kernel_rfl) (VP.loadP (i := 1) R R ld9 R) <| VA.p 4 R R R (by kernel_rfl) (VP.move R) <| VA.p 5 R R R (by kernel_rfl) (VP.nilCheckP R) <| VA.p 6 R R R (by kernel_rfl) (VP.fieldP R fa55_1) <| VA.p 7 R R R (by kernel_rfl) (VP.loadP (i := 1) R R ld3 R) ?_
 obtain ⟨v, h2, hm⟩ := bnd hm
 refine VA.p 8 R R R (by kernel_rfl) (VP.ssT R R R Try.underlying9 h2) ?_
 refine VA.all [9] (by kernel_rfl) ⟨?_, trivial⟩
 obtain ⟨r, h3, hm⟩ := bnd hm
 refine VB.o R R R (VO.callK 0 R fn40 R (lex_head_lex_scanner_remark_1_ok v r h3) fun _ _ h7 => ?_)
 obtain ⟨rfl, rfl⟩ := h7
 refine VA.p 10 R R R (by kernel_rfl) (VP.move R) <| VA.p 11 R R R (by kernel_rfl) (VP.extract R R) <| VA.p 12 R R R (by kernel_rfl) (VP.extract R R) <| VA.p 13 R R R (by kernel_rfl) (VP.assign R) <| VA.p 14 R R R (by kernel_rfl) (VP.assign R) <| VA.done (by kernel_rfl) <| VW.seq <| VW.seq <| VW.region <| VR.p R R (VP.move R) <| VR.p R R (VP.not R) <| VR.nil ?_
 rcases ite_or hm with ⟨h4, hm⟩ | ⟨h4, hm⟩
 ·refine VW.condT R h4 <| VW.seq <| VW.region <| VR.p R R (VP.move R) <| VR.p R R (VP.nilCheckP R) <| VR.p R R (VP.fieldP R fa55_1) <| VR.p R R (VP.loadP (i := 1) R R ld3 R) <| VR.p R R (VP.move R) <| VR.p R R (VP.arith R R R) <| VR.p R R (VP.buildP pl57 R R) ?_
  refine VR.cons R R (VO.storeP (i := 0) R R R ld57 R R R ?_)
  refine VR.nil ?_
  obtain rfl := Option.some.inj hm
  exact VW.ret ⟨.inl R, _, .cons (.cell _ _ _ _ 0 _ _ _ _ R R ld57 R) .nil, [1], _, R, R, R⟩
 ·have h4 := bf h4
  refine VW.condF R h4 <| VW.skip <| VW.seq <| VW.region <| VR.p R R (VP.move R) <| VR.p R R (VP.move R) ?_
  obtain ⟨r2, h5, hm⟩ := bnd hm
  refine VR.shift (Shift.mem [1, 0] R) ?_
  refine VR.cons R R (VO.callK 1 R fn51 R (lex_scanner_pass_ok x r.1 b r2 h5) fun _ _ h6 => ?_)
  obtain ⟨rfl, rfl⟩ := h6
  refine VR.nil <| VW.seq <| VW.region <| VR.p R R (VP.buildP pl57 R R) ?_
  refine VR.cons R R (VO.storeP (i := 1) R R R ld57 R R R ?_)
  refine VR.nil ?_
  obtain rfl := Option.some.inj hm
  exact VW.ret ⟨.inl R, _, .cons (.cell _ _ _ _ 1 _ _ _ _ R R ld57 R) .nil, [0], _, R, R, R⟩

/-! trireme/lex.masked -/
def lex_masked (c : Int) : Option (Int × Bool) :=
 if (c == (110 : Int)) = true then
  some ((10 : Int), true)
 else
  if (c == (34 : Int)) = true then
   some (c, true)
  else
   if (c == (92 : Int)) = true then
    some (c, true)
   else
    some ((0 : Int), false)
theorem lex_masked_ok (c : Int) (r : Int × Bool) (hm : lex_masked c = some r) :
  VC Try.prog 59 [.int .u8 c] [] (fun zx zH => zx = .tup [.int .u8 r.1, .bool r.2] ∧ zH = []) := by
 unfold lex_masked at hm
 refine VC.run (c := _) (rs := [.tmp 2, .tmp 3]) Try.func59 R R R <| VW.seq <| VW.region <| VR.p R R (VP.assign R) <| VR.p R R (VP.assign R) <| VR.nil <| VW.seq <| VW.seq <| VW.region <| VR.p R R (VP.move R) <| VR.nil <| VW.block <| VW.seq <| VW.region <| VR.p R R (VP.arith R R R) <| VR.p R R (VP.assign R) <| VR.nil ?_
 rcases ite_or hm with ⟨h1, hm⟩ | ⟨h1, hm⟩
 ·refine VW.condT R h1 <| VW.seq <| VW.region <| VR.p R R (VP.assign R) <| VR.p R R (VP.assign R) <| VR.nil ?_
  obtain rfl := Option.some.inj hm
  exact VW.ret ⟨.inl R, _, .cons (.tmp _ _ R) (.cons (.tmp _ _ R) .nil), [], _, R, R, R⟩
 ·have h1 := bf h1
  refine VW.condF R h1 <| VW.seq <| VW.seq <| VW.region <| VR.p R R (VP.arith R R R) <| VR.p R R (VP.assign R) <| VR.nil ?_
  rcases ite_or hm with ⟨h2, hm⟩ | ⟨h2, hm⟩
  ·refine VW.condT R h2 <| VW.skip <| VW.condT R h2 <| VW.seq <| VW.region <| VR.p R R (VP.move R) <| VR.p R R (VP.assign R) <| VR.p R R (VP.assign R) <| VR.nil ?_
   obtain rfl := Option.some.inj hm
   exact VW.ret ⟨.inl R, _, .cons (.tmp _ _ R) (.cons (.tmp _ _ R) .nil), [], _, R, R, R⟩
  ·have h2 := bf h2
   refine VW.condF R h2 <| VW.region <| VR.p R R (VP.arith R R R) <| VR.p R R (VP.assign R) <| VR.nil ?_
   rcases ite_or hm with ⟨h3, hm⟩ | ⟨h3, hm⟩
   ·refine VW.condT R h3 <| VW.seq <| VW.region <| VR.p R R (VP.move R) <| VR.p R R (VP.assign R) <| VR.p R R (VP.assign R) <| VR.nil ?_
    obtain rfl := Option.some.inj hm
    exact VW.ret ⟨.inl R, _, .cons (.tmp _ _ R) (.cons (.tmp _ _ R) .nil), [], _, R, R, R⟩
   ·have h3 := bf h3
    refine VW.condF R h3 <| VW.skip <| VW.seq <| VW.region <| VR.p R R (VP.assign R) <| VR.p R R (VP.assign R) <| VR.nil ?_
    obtain rfl := Option.some.inj hm
    exact VW.ret ⟨.inl R, _, .cons (.tmp _ _ R) (.cons (.tmp _ _ R) .nil), [], _, R, R, R⟩

/-! (*trireme/lex.scanner).text -/
def lex_scanner_text.l1 (x : T_lex_scanner) (v : ByteArray) : Nat → (List Int) → Int → Nat → Option (Out (ByteArray × T_lex_fault × T_lex_scanner) Unit)
 | 0, _, _, _ => none
 | n + 1, b5, skip2, pos3 =>
  if pos3 < v.size then
   if ((pos3 : Int) == (0 : Int)) = true then
    lex_scanner_text.l1 x v n b5 skip2 (pos3 + (Utf8.decode v pos3).2)
   else
    if (decide (skip2 > (0 : Int))) = true then
     lex_scanner_text.l1 x v n b5 (IntKind.i64.wrap (skip2 - (1 : Int))) (pos3 + (Utf8.decode v pos3).2)
    else
     (lex_right v (pos3 : Int) ((Utf8.decode v pos3).1 : Int)).bind fun r =>
     if (((!r) || (((decide (((Utf8.decode v pos3).1 : Int) < (32 : Int))) && (((Utf8.decode v pos3).1 : Int) != (9 : Int))) && (((Utf8.decode v pos3).1 : Int) != (10 : Int)))) || (((Utf8.decode v pos3).1 : Int) == (127 : Int))) = true then
      some (Out.ret ((⟨#[]⟩ : ByteArray), (⟨(2 : Int), (IntKind.i64.wrap (x.at_ + (pos3 : Int)))⟩ : T_lex_fault), x))
     else
      if (((Utf8.decode v pos3).1 : Int) == (34 : Int)) = true then
       (lex_scanner_pass x (IntKind.i64.wrap ((pos3 : Int) + (1 : Int)))).bind fun r2 =>
       some (Out.ret ((strOfNums b5), (⟨(0 : Int), (0 : Int)⟩ : T_lex_fault), r2))
      else
       if (((Utf8.decode v pos3).1 : Int) == (92 : Int)) = true then
        if ((IntKind.i64.wrap ((pos3 : Int) + (1 : Int))) == (v.size : Int)) = true then
         some (Out.ret ((⟨#[]⟩ : ByteArray), (⟨(2 : Int), (IntKind.i64.wrap (x.at_ + (pos3 : Int)))⟩ : T_lex_fault), x))
        else
         (V.gi v (IntKind.i64.wrap ((pos3 : Int) + (1 : Int)))).bind fun v2 =>
         (lex_masked v2).bind fun r3 =>
         if (!r3.2) = true then
          some (Out.ret ((⟨#[]⟩ : ByteArray), (⟨(2 : Int), (IntKind.i64.wrap (x.at_ + (pos3 : Int)))⟩ : T_lex_fault), x))
         else
          (V.ap 1 b5 [r3.1]).bind fun b7 =>
          lex_scanner_text.l1 x v n b7 (1 : Int) (pos3 + (Utf8.decode v pos3).2)
       else
        (V.ap 1 b5 (V.bytesL (Utf8.encode ((Utf8.decode v pos3).1 : Int)))).bind fun b8 =>
        lex_scanner_text.l1 x v n b8 skip2 (pos3 + (Utf8.decode v pos3).2)
  else
   some (Out.go ())
def lex_scanner_text (x : T_lex_scanner) : Option (ByteArray × T_lex_fault × T_lex_scanner) :=
 (V.ss x.s (some x.at_) none).bind fun v =>
 (lex_scanner_text.l1 x v FU ([] : List Int) (0 : Int) 0).bind fun o =>
 o.on fun j =>
 some ((⟨#[]⟩ : ByteArray), (⟨(3 : Int), x.at_⟩ : T_lex_fault), x)
theorem lex_scanner_text_ok (x : T_lex_scanner) (b : Nat) (r : ByteArray × T_lex_fault × T_lex_scanner) (hm : lex_scanner_text x = some r) :
  VC Try.prog 53 [.ptr b 0] [.box b 55 (T_lex_scanner.cells x)] (fun zx zH => zx = .tup [.str r.1, T_lex_fault.vv r.2.1] ∧ zH = [.box b 55 (T_lex_scanner.cells r.2.2)]) := by
 unfold lex_scanner_text at hm
 refine VC.run (c := _) (rs := [.tmp 2, .cell 3 57]) Try.func53 R R R <| VW.seq <| VW.region <| VR.p R R (VP.assign R) ?_
 refine VR.cons R R (VO.alloc z57 fun b2 => ?_)
 refine VR.nil <| VW.seq <| VW.region <| VR.p R R (VP.move R) <| VR.p R R (VP.nilCheckP R) <| VR.p R R (VP.fieldP R fa55_1) <| VR.p R R (VP.loadP (i := 1) R R ld3 R) <| VR.p R R (VP.assign R) <| VR.nil <| VW.seq <| VW.region <| VR.p R R (VP.move R) <| VR.p R R (VP.nilCheckP R) <| VR.p R R (VP.fieldP R fa55_0) <| VR.p R R (VP.loadP (i := 1) R R ld9 R) <| VR.p R R (VP.move R) ?_
 obtain ⟨v, h2, hm⟩ := bnd hm
 refine VR.p R R (VP.ssT R R R Try.underlying9 h2) <| VR.p R R (VP.assign R) <| VR.nil <| VW.seq <| VW.region <| VR.p R R (VP.assign R) <| VR.nil <| VW.seq <| VW.region <| VR.p R R (VP.assign R) <| VR.nil <| VW.seq <| VW.seq <| VW.region <| VR.p R R (VP.move R) ?_
 refine VR.cons R R (VO.range Try.underlying9 R fun b3 => ?_)
 refine VR.nil ?_
 obtain ⟨o, h6, h7⟩ := bnd hm
 refine VW.joinE (fun (q : Unit) => o = Out.go q) (fun (j : Unit) (gg : Unit) => [(3, .ptr b2 0), (4, .int .i64 x.at_)]) (fun (j : Unit) (gg : Unit) => [.box b2 57 (T_lex_fault.cells (⟨(0 : Int), (0 : Int)⟩ : T_lex_fault)), .box b 55 (T_lex_scanner.cells x)]) ?_ ?_
 ·have hm := h6
  refine VW.block (VW.loop FU ?_)
  refine VL.fuelS (R := _) (fun zn (zs : List Int × Int × Nat) => lex_scanner_text.l1 x v zn zs.1 zs.2.1 zs.2.2) (fun (zs : List Int × Int × Nat) (zg : Option Nat × Nat) => [(0, .ptr b 0), (3, .ptr b2 0), (4, .int .i64 x.at_), (5, .str v), (6, .sl zg.1 (List.map (VV.int .u8) zs.1).length zg.2), (7, .int .i64 zs.2.1), (23, .ptr b3 0)]) (fun (zs : List Int × Int × Nat) (zg : Option Nat × Nat) => [.row zg.1 5 zg.2 (List.map (VV.int .u8) zs.1), .iter b3 v zs.2.2, .box b2 57 (T_lex_fault.cells (⟨(0 : Int), (0 : Int)⟩ : T_lex_fault)), .box b 55 (T_lex_scanner.cells x)]) (([] : List Int), (0 : Int), 0) (none, 0) (fun zs => R) (Shift.trans (Shift.nilRow 5) (Shift.pick [0, 0, 0, 0] R ⟨R, R, R, R, R, R, R, trivial⟩)) h6 ?_
  rintro n ⟨b5, skip2, pos3⟩ ⟨ob2, cap2⟩ hm
  rw [lex_scanner_text.l1] at hm
  refine VW.seq <| VW.region ?_
  rcases ite_or hm with ⟨h8, hm⟩ | ⟨h8, hm⟩
  ·refine VR.cons R R (VO.nextS (i := 1) R R h8 ?_)
   refine VR.p R R (VP.extract R R) <| VR.nil <| VW.seq <| VW.condT R R <| VW.skip <| VW.block <| VW.seq <| VW.region <| VR.p R R (VP.extract R R) <| VR.p R R (VP.extract R R) <| VR.p R R (VP.assign R) <| VR.p R R (VP.assign R) <| VR.nil <| VW.block <| VW.seq <| VW.region <| VR.p R R (VP.move R) <| VR.p R R (VP.arith R R R) <| VR.p R R (VP.assign R) <| VR.nil ?_
   rcases ite_or hm with ⟨h9, hm⟩ | ⟨h9, hm⟩
   ·refine VW.condT R h9 <| VW.skip ?_
    exact ⟨(b5, skip2, (pos3 + (Utf8.decode v pos3).2)), (ob2, cap2), hm, (Shift.pick [0, 0, 0, 0] R ⟨R, R, R, R, R, R, R, trivial⟩)⟩
   ·have h9 := bf h9
    refine VW.condF R h9 <| VW.seq <| VW.region <| VR.p R R (VP.move R) <| VR.p R R (VP.arith R R R) <| VR.p R R (VP.assign R) <| VR.nil ?_
    rcases ite_or hm with ⟨h10, hm⟩ | ⟨h10, hm⟩
    ·refine VW.condT R h10 <| VW.region <| VR.p R R (VP.move R) <| VR.p R R (VP.arith R R R) <| VR.p R R (VP.assign R) <| VR.nil ?_
     exact ⟨(b5, (IntKind.i64.wrap (skip2 - (1 : Int))), (pos3 + (Utf8.decode v pos3).2)), (ob2, cap2), hm, (Shift.pick [0, 0, 0, 0] R ⟨R, R, R, R, R, R, R, trivial⟩)⟩
    ·have h10 := bf h10
     refine VW.condF R h10 <| VW.seq <| VW.region <| VR.p R R (VP.move R) <| VR.p R R (VP.move R) <| VR.p R R (VP.move R) ?_
     obtain ⟨r, h11, hm⟩ := bnd hm
     refine VR.cons R R (VO.callK 0 R fn55 R (lex_right_ok v (pos3 : Int) ((Utf8.decode v pos3).1 : Int) r h11) fun _ _ h29 => ?_)
     obtain ⟨rfl, rfl⟩ := h29
     refine VR.p R R (VP.not R) <| VR.p R R (VP.move R) ?_
     refine VR.sc 11 57 (.bool ((!r) || (((decide (((Utf8.decode v pos3).1 : Int) < (32 : Int))) && (((Utf8.decode v pos3).1 : Int) != (9 : Int))) && (((Utf8.decode v pos3).1 : Int) != (10 : Int))))) (fun K' J => ?_) ?_
     ·rcases Bool.eq_false_or_eq_true (!r) with h12 | h12
      ·refine VR.skipG R R R R h12 <| VR.skipG R R R R h12 <| VR.skipG R R R R h12 <| VR.skipU R R R R <| VR.skipU R R R R <| VR.skipG R R R R h12 <| VR.skipG R R R R h12 <| VR.skipU R R R R <| VR.skipU R R R R <| VR.skipG R R R R h12 <| VR.p R R (VP.pickB true R h12 R) ?_
       exact J [_, _, _, _, _, _, _, _, _, _] _ R (orT h12)
      ·refine VR.pG R R R R h12 (VP.move R) <| VR.pG R R R R h12 (VP.arith R R R) <| VR.pG R R R R h12 (VP.move R) ?_
       refine VR.sc 3 52 (.bool ((decide (((Utf8.decode v pos3).1 : Int) < (32 : Int))) && (((Utf8.decode v pos3).1 : Int) != (9 : Int)))) (fun K' J => ?_) ?_
       ·rcases Bool.eq_false_or_eq_true (decide (((Utf8.decode v pos3).1 : Int) < (32 : Int))) with h13 | h13
        ·refine VR.pG R R R R h13 (VP.move R) <| VR.pG R R R R h13 (VP.arith R R R) <| VR.pG R R R R h12 (VP.pickB true R h13 R) ?_
         exact J [_, _] _ R (andT h13)
        ·refine VR.skipG R R R R h13 <| VR.skipG R R R R h13 <| VR.pG R R R R h12 (VP.pickB false R h13 R) ?_
         exact J [_, _] _ R (andF h13)
       ·refine VR.pG R R R R h12 (VP.move R) ?_
        refine VR.sc 3 56 (.bool (((decide (((Utf8.decode v pos3).1 : Int) < (32 : Int))) && (((Utf8.decode v pos3).1 : Int) != (9 : Int))) && (((Utf8.decode v pos3).1 : Int) != (10 : Int)))) (fun K' J => ?_) ?_
        ·rcases Bool.eq_false_or_eq_true ((decide (((Utf8.decode v pos3).1 : Int) < (32 : Int))) && (((Utf8.decode v pos3).1 : Int) != (9 : Int))) with h14 | h14
         ·refine VR.pG R R R R h14 (VP.move R) <| VR.pG R R R R h14 (VP.arith R R R) <| VR.pG R R R R h12 (VP.pickB true R h14 R) ?_
          exact J [_, _] _ R (andT h14)
         ·refine VR.skipG R R R R h14 <| VR.skipG R R R R h14 <| VR.pG R R R R h12 (VP.pickB false R h14 R) ?_
          exact J [_, _] _ R (andF h14)
        ·refine VR.p R R (VP.pickB false R h12 R) ?_
         exact J [_, _, _, _, _, _] _ R (orF h12)
     ·refine VR.p R R (VP.move R) ?_
      refine VR.sc 3 61 (.bool (((!r) || (((decide (((Utf8.decode v pos3).1 : Int) < (32 : Int))) && (((Utf8.decode v pos3).1 : Int) != (9 : Int))) && (((Utf8.decode v pos3).1 : Int) != (10 : Int)))) || (((Utf8.decode v pos3).1 : Int) == (127 : Int)))) (fun K' J => ?_) ?_
      ·rcases Bool.eq_false_or_eq_true ((!r) || (((decide (((Utf8.decode v pos3).1 : Int) < (32 : Int))) && (((Utf8.decode v pos3).1 : Int) != (9 : Int))) && (((Utf8.decode v pos3).1 : Int) != (10 : Int)))) with h15 | h15
       ·refine VR.skipG R R R R h15 <| VR.skipG R R R R h15 <| VR.p R R (VP.pickB true R h15 R) ?_
        exact J [_, _] _ R (orT h15)
       ·refine VR.pG R R R R h15 (VP.move R) <| VR.pG R R R R h15 (VP.arith R R R) <| VR.p R R (VP.pickB false R h15 R) ?_
        exact J [_, _] _ R (orF h15)
      ·refine VR.p R R (VP.assign R) <| VR.nil ?_
       rcases ite_or hm with ⟨h16, hm⟩ | ⟨h16, hm⟩
       ·refine VW.condT R h16 <| VW.seq <| VW.region <| VR.p R R (VP.move R) <| VR.p R R (VP.move R) <| VR.p R R (VP.arith R R R) <| VR.p R R (VP.buildP pl57 R R) <| VR.p R R (VP.assign R) ?_
        refine VR.cons R R (VO.storeP (i := 2) R R R ld57 R R R ?_)
        refine VR.nil ?_
        obtain rfl := Option.some.inj hm
        have hm := Out.ret_on h7
        obtain rfl := Option.some.inj hm
        exact VW.ret ⟨.inl R, _, .cons (.tmp _ _ R) (.cons (.cell _ _ _ _ 2 _ _ _ _ R R ld57 R) .nil), [3], _, R, R, R⟩
       ·have h16 := bf h16
        refine VW.condF R h16 <| VW.seq <| VW.region <| VR.p R R (VP.move R) <| VR.p R R (VP.arith R R R) <| VR.p R R (VP.assign R) <| VR.nil ?_
        rcases ite_or hm with ⟨h17, hm⟩ | ⟨h17, hm⟩
        ·refine VW.condT R h17 <| VW.seq <| VW.region <| VR.p R R (VP.move R) <| VR.p R R (VP.move R) <| VR.p R R (VP.arith R R R) ?_
         obtain ⟨r2, h18, hm⟩ := bnd hm
         refine VR.shift (Shift.mem [3, 0, 0, 0] R) ?_
         refine VR.cons R R (VO.callK 1 R fn51 R (lex_scanner_pass_ok x (IntKind.i64.wrap ((pos3 : Int) + (1 : Int))) b r2 h18) fun _ _ h19 => ?_)
         obtain ⟨rfl, rfl⟩ := h19
         refine VR.nil <| VW.seq <| VW.region <| VR.p R R (VP.move R) <| VR.p R R (VP.convB (i := 1) (l := b5) el64 Try.underlying5 Try.underlying9 R R) <| VR.p R R (VP.buildP pl57 R R) <| VR.p R R (VP.assign R) ?_
         refine VR.cons R R (VO.storeP (i := 3) R R R ld57 R R R ?_)
         refine VR.nil ?_
         obtain rfl := Option.some.inj hm
         have hm := Out.ret_on h7
         obtain rfl := Option.some.inj hm
         exact VW.ret ⟨.inl R, _, .cons (.tmp _ _ R) (.cons (.cell _ _ _ _ 3 _ _ _ _ R R ld57 R) .nil), [0], _, R, R, R⟩
        ·have h17 := bf h17
         refine VW.condF R h17 <| VW.seq <| VW.region <| VR.p R R (VP.move R) <| VR.p R R (VP.arith R R R) <| VR.p R R (VP.assign R) <| VR.nil ?_
         rcases ite_or hm with ⟨h20, hm⟩ | ⟨h20, hm⟩
         ·refine VW.condT R h20 <| VW.seq <| VW.seq <| VW.region <| VR.p R R (VP.move R) <| VR.p R R (VP.arith R R R) <| VR.p R R (VP.move R) <| VR.p R R (VP.lenS R Try.underlying9) <| VR.p R R (VP.arith R R R) <| VR.nil ?_
          rcases ite_or hm with ⟨h21, hm⟩ | ⟨h21, hm⟩
          ·refine VW.condT R h21 <| VW.seq <| VW.region <| VR.p R R (VP.move R) <| VR.p R R (VP.move R) <| VR.p R R (VP.arith R R R) <| VR.p R R (VP.buildP pl57 R R) <| VR.p R R (VP.assign R) ?_
           refine VR.cons R R (VO.storeP (i := 2) R R R ld57 R R R ?_)
           refine VR.nil ?_
           obtain rfl := Option.some.inj hm
           have hm := Out.ret_on h7
           obtain rfl := Option.some.inj hm
           exact VW.ret ⟨.inl R, _, .cons (.tmp _ _ R) (.cons (.cell _ _ _ _ 2 _ _ _ _ R R ld57 R) .nil), [3], _, R, R, R⟩
          ·have h21 := bf h21
           refine VW.condF R h21 <| VW.skip <| VW.seq <| VW.region <| VR.p R R (VP.move R) <| VR.p R R (VP.move R) <| VR.p R R (VP.arith R R R) ?_
           obtain ⟨v2, h22, hm⟩ := bnd hm
           refine VR.p R R (VP.gi R R Try.underlying9 h22) ?_
           obtain ⟨r3, h23, hm⟩ := bnd hm
           refine VR.cons R R (VO.callK 0 R fn59 R (lex_masked_ok v2 r3 h23) fun _ _ h27 => ?_)
           obtain ⟨rfl, rfl⟩ := h27
           refine VR.p R R (VP.move R) <| VR.p R R (VP.extract R R) <| VR.p R R (VP.extract R R) <| VR.p R R (VP.assign R) <| VR.p R R (VP.assign R) <| VR.nil <| VW.seq <| VW.seq <| VW.region <| VR.p R R (VP.move R) <| VR.p R R (VP.not R) <| VR.nil ?_
           rcases ite_or hm with ⟨h24, hm⟩ | ⟨h24, hm⟩
           ·refine VW.condT R h24 <| VW.seq <| VW.region <| VR.p R R (VP.move R) <| VR.p R R (VP.move R) <| VR.p R R (VP.arith R R R) <| VR.p R R (VP.buildP pl57 R R) <| VR.p R R (VP.assign R) ?_
            refine VR.cons R R (VO.storeP (i := 2) R R R ld57 R R R ?_)
            refine VR.nil ?_
            obtain rfl := Option.some.inj hm
            have hm := Out.ret_on h7
            obtain rfl := Option.some.inj hm
            exact VW.ret ⟨.inl R, _, .cons (.tmp _ _ R) (.cons (.cell _ _ _ _ 2 _ _ _ _ R R ld57 R) .nil), [3], _, R, R, R⟩
           ·have h24 := bf h24
            refine VW.condF R h24 <| VW.skip <| VW.seq <| VW.region <| VR.p R R (VP.move R) <| VR.p R R (VP.move R) ?_
            refine VR.cons R R (VO.buildSlice ap64 R R R R R fun b6 => ?_)
            obtain ⟨b7, h26, hm⟩ := bnd hm
            refine VR.cons R R (VO.apT 1 (VV.int .u8) (l := b5) (l2 := [r3.1]) ap64 R R (sT_row 0 (VV.int .u8) el64 R R) h26 fun ob3 cap3 => ?_)
            refine VR.p R R (VP.assign R) <| VR.nil <| VW.region <| VR.p R R (VP.assign R) <| VR.nil ?_
            exact ⟨(b7, (1 : Int), (pos3 + (Utf8.decode v pos3).2)), (ob3, cap3), hm, (Shift.pick [1, 1, 1, 1] R ⟨R, R, R, R, R, R, R, trivial⟩)⟩
         ·have h20 := bf h20
          refine VW.condF R h20 <| VW.region <| VR.p R R (VP.move R) <| VR.p R R (VP.move R) <| VR.p R R (VP.convRune Try.underlying21 Try.underlying9 R) ?_
          obtain ⟨b8, h28, hm⟩ := bnd hm
          refine VR.cons R R (VO.apS 0 (l := b5) ap64 u8z5 Try.underlying9 R R R h28 fun ob4 cap4 => ?_)
          refine VR.p R R (VP.assign R) <| VR.nil ?_
          exact ⟨(b8, skip2, (pos3 + (Utf8.decode v pos3).2)), (ob4, cap4), hm, (Shift.pick [0, 0, 0, 0] R ⟨R, R, R, R, R, R, R, trivial⟩)⟩
  ·refine VR.cons R R (VP.vo (VP.nextE (i := 1) R R h8) ?_)
   refine VR.p R R (VP.extract R R) <| VR.nil <| VW.seq <| VW.condF R R <| VW.exit ?_
   exact ⟨(), (), (Option.some.inj hm).symm, (Shift.pick [2, 2] R ⟨R, R, trivial⟩)⟩
 ·rintro j _ rfl
  have hm := Out.go_on h7
  refine VW.seq <| VW.region <| VR.p R R (VP.move R) <| VR.p R R (VP.buildP pl57 R R) <| VR.p R R (VP.assign R) ?_
  refine VR.cons R R (VO.storeP (i := 0) R R R ld57 R R R ?_)
  refine VR.nil ?_
  obtain rfl := Option.some.inj hm
  exact VW.ret ⟨.inl R, _, .cons (.tmp _ _ R) (.cons (.cell _ _ _ _ 0 _ _ _ _ R R ld57 R) .nil), [1], _, R, R, R⟩

/-! trireme/lex.plain -/
def lex_plain (c : Int) : Option Bool :=
 (if (c == (40 : Int)) = true then
  some (c == (40 : Int))
 else
  if (c == (41 : Int)) = true then
   some (c == (41 : Int))
  else
   if (c == (34 : Int)) = true then
    some (c == (34 : Int))
   else
    if (c == (59 : Int)) = true then
     some (c == (59 : Int))
    else
     some (c == (127 : Int))).bind fun v2 =>
 if v2 = true then
  some false
 else
  some (decide (c > (32 : Int)))
theorem lex_plain_ok (c : Int) (r : Bool) (hm : lex_plain c = some r) :
  VC Try.prog 41 [.int .i32 c] [] (fun zx zH => zx = .bool r ∧ zH = []) := by
 unfold lex_plain at hm
 refine VC.run (c := _) (rs := [.tmp 2]) Try.func41 R R R <| VW.seq <| VW.region <| VR.p R R (VP.assign R) <| VR.nil <| VW.seq <| VW.seq <| VW.region <| VR.p R R (VP.move R) <| VR.nil <| VW.block ?_
 obtain ⟨o, h1, h2⟩ := bnd hm
 refine VW.join (fun (q : Bool) => q = o) (fun (v2 : Bool) (gg : Unit) => [(0, .int .i32 c), (4, .bool v2)]) (fun (v2 : Bool) (gg : Unit) => []) ?_ ?_
 ·have hm := h1
  refine VW.seq <| VW.region <| VR.p R R (VP.arith R R R) <| VR.p R R (VP.assign R) <| VR.nil ?_
  rcases ite_or hm with ⟨h3, hm⟩ | ⟨h3, hm⟩
  ·refine VW.condT R h3 <| VW.skip ?_
   exact ⟨(c == (40 : Int)), (), Option.some.inj hm, (Shift.pick [] R ⟨R, R, trivial⟩)⟩
  ·have h3 := bf h3
   refine VW.condF R h3 <| VW.seq <| VW.region <| VR.p R R (VP.arith R R R) <| VR.p R R (VP.assign R) <| VR.nil ?_
   rcases ite_or hm with ⟨h4, hm⟩ | ⟨h4, hm⟩
   ·refine VW.condT R h4 <| VW.skip ?_
    exact ⟨(c == (41 : Int)), (), Option.some.inj hm, (Shift.pick [] R ⟨R, R, trivial⟩)⟩
   ·have h4 := bf h4
    refine VW.condF R h4 <| VW.seq <| VW.region <| VR.p R R (VP.arith R R R) <| VR.p R R (VP.assign R) <| VR.nil ?_
    rcases ite_or hm with ⟨h5, hm⟩ | ⟨h5, hm⟩
    ·refine VW.condT R h5 <| VW.skip ?_
     exact ⟨(c == (34 : Int)), (), Option.some.inj hm, (Shift.pick [] R ⟨R, R, trivial⟩)⟩
    ·have h5 := bf h5
     refine VW.condF R h5 <| VW.seq <| VW.region <| VR.p R R (VP.arith R R R) <| VR.p R R (VP.assign R) <| VR.nil ?_
     rcases ite_or hm with ⟨h6, hm⟩ | ⟨h6, hm⟩
     ·refine VW.condT R h6 <| VW.skip ?_
      exact ⟨(c == (59 : Int)), (), Option.some.inj hm, (Shift.pick [] R ⟨R, R, trivial⟩)⟩
     ·have h6 := bf h6
      refine VW.condF R h6 <| VW.region <| VR.p R R (VP.arith R R R) <| VR.p R R (VP.assign R) <| VR.nil ?_
      exact ⟨(c == (127 : Int)), (), Option.some.inj hm, (Shift.pick [] R ⟨R, R, trivial⟩)⟩
 ·rintro v2 _ rfl
  have hm := h2
  rcases ite_or hm with ⟨h7, hm⟩ | ⟨h7, hm⟩
  ·refine VW.condT R h7 <| VW.seq <| VW.region <| VR.p R R (VP.assign R) <| VR.nil ?_
   obtain rfl := Option.some.inj hm
   exact VW.ret ⟨.inl R, _, .cons (.tmp _ _ R) .nil, [], _, R, R, R⟩
  ·have h7 := bf h7
   refine VW.condF R h7 <| VW.skip <| VW.seq <| VW.region <| VR.p R R (VP.move R) <| VR.p R R (VP.arith R R R) <| VR.p R R (VP.assign R) <| VR.nil ?_
   obtain rfl := Option.some.inj hm
   exact VW.ret ⟨.inl R, _, .cons (.tmp _ _ R) .nil, [], _, R, R, R⟩

/-! trireme/lex.head -/
def lex_head_lex_plain.l1 (s : ByteArray) : Nat → Nat → Option (Out (Int × Bool) Unit)
 | 0, _ => none
 | n + 1, pos2 =>
  if pos2 < s.size then
   (lex_right s (pos2 : Int) ((Utf8.decode s pos2).1 : Int)).bind fun r =>
   if (!r) = true then
    some (Out.ret ((pos2 : Int), false))
   else
    (lex_plain ((Utf8.decode s pos2).1 : Int)).bind fun r2 =>
    if (!r2) = true then
     some (Out.ret ((pos2 : Int), true))
    else
     lex_head_lex_plain.l1 s n (pos2 + (Utf8.decode s pos2).2)
  else
   some (Out.go ())
def lex_head_lex_plain (s : ByteArray) : Option (Int × Bool) :=
 (lex_head_lex_plain.l1 s FU 0).bind fun o =>
 o.on fun j =>
 some ((s.size : Int), true)
theorem lex_head_lex_plain_ok (s : ByteArray) (r : Int × Bool) (hm : lex_head_lex_plain s = some r) :
  VC Try.prog 40 [.str s, .clo (.func 41) [] []] [] (fun zx zH => zx = .tup [.int .i64 r.1, .bool r.2] ∧ zH = []) := by
 unfold lex_head_lex_plain at hm
 refine VC.run (c := _) (rs := [.tmp 4, .tmp 5]) Try.func40 R R R <| VW.seq <| VW.region <| VR.p R R (VP.assign R) <| VR.p R R (VP.assign R) <| VR.nil <| VW.seq <| VW.seq <| VW.region <| VR.p R R (VP.move R) ?_
 refine VR.cons R R (VO.range Try.underlying9 R fun b => ?_)
 refine VR.nil ?_
 obtain ⟨o, h2, h3⟩ := bnd hm
 refine VW.joinE (fun (q : Unit) => o = Out.go q) (fun (j : Unit) (gg : Unit) => [(0, .str s)]) (fun (j : Unit) (gg : Unit) => []) ?_ ?_
 ·have hm := h2
  refine VW.block (VW.loop FU ?_)
  refine VL.fuelS (R := _) (fun zn (zs : Nat) => lex_head_lex_plain.l1 s zn zs) (fun (zs : Nat) (zg : Unit) => [(0, .str s), (1, .clo (.func 41) [] []), (9, .ptr b 0)]) (fun (zs : Nat) (zg : Unit) => [.iter b s zs]) 0 () (fun zs => R) (Shift.pick [0] R ⟨R, R, R, trivial⟩) h2 ?_
  rintro n pos2 _ hm
  rw [lex_head_lex_plain.l1] at hm
  refine VW.seq <| VW.region ?_
  rcases ite_or hm with ⟨h4, hm⟩ | ⟨h4, hm⟩
  ·refine VR.cons R R (VO.nextS (i := 0) R R h4 ?_)
   refine VR.p R R (VP.extract R R) <| VR.nil <| VW.seq <| VW.condT R R <| VW.skip <| VW.block <| VW.seq <| VW.region <| VR.p R R (VP.extract R R) <| VR.p R R (VP.extract R R) <| VR.p R R (VP.assign R) <| VR.p R R (VP.assign R) <| VR.nil <| VW.seq <| VW.seq <| VW.region <| VR.p R R (VP.move R) <| VR.p R R (VP.move R) <| VR.p R R (VP.move R) ?_
   obtain ⟨r, h5, hm⟩ := bnd hm
   refine VR.cons R R (VO.callK 0 R fn55 R (lex_right_ok s (pos2 : Int) ((Utf8.decode s pos2).1 : Int) r h5) fun _ _ h10 => ?_)
   obtain ⟨rfl, rfl⟩ := h10
   refine VR.p R R (VP.not R) <| VR.nil ?_
   rcases ite_or hm with ⟨h6, hm⟩ | ⟨h6, hm⟩
   ·refine VW.condT R h6 <| VW.seq <| VW.region <| VR.p R R (VP.move R) <| VR.p R R (VP.assign R) <| VR.p R R (VP.assign R) <| VR.nil ?_
    obtain rfl := Option.some.inj hm
    have hm := Out.ret_on h3
    obtain rfl := Option.some.inj hm
    exact VW.ret ⟨.inl R, _, .cons (.tmp _ _ R) (.cons (.tmp _ _ R) .nil), [], _, R, R, R⟩
   ·have h6 := bf h6
    refine VW.condF R h6 <| VW.skip <| VW.seq <| VW.region <| VR.p R R (VP.move R) <| VR.p R R (VP.move R) ?_
    obtain ⟨r2, h7, hm⟩ := bnd hm
    refine VR.cons R R (VO.callK 0 R fn41 R (lex_plain_ok ((Utf8.decode s pos2).1 : Int) r2 h7) fun _ _ h9 => ?_)
    obtain ⟨rfl, rfl⟩ := h9
    refine VR.p R R (VP.not R) <| VR.nil ?_
    rcases ite_or hm with ⟨h8, hm⟩ | ⟨h8, hm⟩
    ·refine VW.condT R h8 <| VW.seq <| VW.region <| VR.p R R (VP.move R) <| VR.p R R (VP.assign R) <| VR.p R R (VP.assign R) <| VR.nil ?_
     obtain rfl := Option.some.inj hm
     have hm := Out.ret_on h3
     obtain rfl := Option.some.inj hm
     exact VW.ret ⟨.inl R, _, .cons (.tmp _ _ R) (.cons (.tmp _ _ R) .nil), [], _, R, R, R⟩
    ·have h8 := bf h8
     refine VW.condF R h8 <| VW.skip ?_
     exact ⟨(pos2 + (Utf8.decode s pos2).2), (), hm, (Shift.pick [0] R ⟨R, R, R, trivial⟩)⟩
  ·refine VR.cons R R (VP.vo (VP.nextE (i := 0) R R h4) ?_)
   refine VR.p R R (VP.extract R R) <| VR.nil <| VW.seq <| VW.condF R R <| VW.exit ?_
   exact ⟨(), (), (Option.some.inj hm).symm, (Shift.pick [] R ⟨R, trivial⟩)⟩
 ·rintro j _ rfl
  have hm := Out.go_on h3
  refine VW.seq <| VW.region <| VR.p R R (VP.move R) <| VR.p R R (VP.lenS R Try.underlying9) <| VR.p R R (VP.assign R) <| VR.p R R (VP.assign R) <| VR.nil ?_
  obtain rfl := Option.some.inj hm
  exact VW.ret ⟨.inl R, _, .cons (.tmp _ _ R) (.cons (.tmp _ _ R) .nil), [], _, R, R, R⟩

/-! (*trireme/lex.scanner).word -/
def lex_scanner_word (x : T_lex_scanner) : Option (ByteArray × T_lex_fault × T_lex_scanner) :=
 (V.ss x.s (some x.at_) none).bind fun v =>
 (lex_head_lex_plain v).bind fun r =>
 if (r.1 == (0 : Int)) = true then
  some ((⟨#[]⟩ : ByteArray), (⟨(2 : Int), x.at_⟩ : T_lex_fault), x)
 else
  (V.ss v none (some r.1)).bind fun v2 =>
  (lex_Runes v2).bind fun r2 =>
  if (decide (r2 > (64 : Int))) = true then
   some ((⟨#[]⟩ : ByteArray), (⟨(4 : Int), x.at_⟩ : T_lex_fault), x)
  else
   (lex_scanner_pass x r.1).bind fun r3 =>
   (V.ss v none (some r.1)).bind fun v3 =>
   some (v3, (⟨(0 : Int), (0 : Int)⟩ : T_lex_fault), r3)
theorem lex_scanner_word_ok (x : T_lex_scanner) (b : Nat) (r : ByteArray × T_lex_fault × T_lex_scanner) (hm : lex_scanner_word x = some r) :
  VC Try.prog 54 [.ptr b 0] [.box b 55 (T_lex_scanner.cells x)] (fun zx zH => zx = .tup [.str r.1, T_lex_fault.vv r.2.1] ∧ zH = [.box b 55 (T_lex_scanner.cells r.2.2)]) := by
 unfold lex_scanner_word at hm
 refine VC.run (c := _) (rs := [.tmp 2, .cell 3 57]) Try.func54 R R R <| VW.seq <| VW.region <| VR.p R R (VP.assign R) ?_
 refine VR.cons R R (VO.alloc z57 fun b2 => ?_)
 refine VR.nil <| VW.seq <| VW.drawK 0 mixed <| VA.p 0 R R R (by kernel_rfl) (VP.move R) <| VA.p 1 R R R (by kernel_rfl) (VP.nilCheckP R) <| VA.p 2 R R R (by kernel_rfl) (VP.fieldP R fa55_0) <| VA.p 3 R R R (by kernel_rfl) (VP.loadP (i := 1) R R ld9 R) <| VA.p 4 R R R (by kernel_rfl) (VP.move R) <| VA.p 5 R R R (by kernel_rfl) (VP.nilCheckP R) <| VA.p 6 R R R (by kernel_rfl) (VP.fieldP R fa55_1) <| VA.p 7 R R R (by kernel_rfl) (VP.loadP (i := 1) R R ld3 R) ?_
 obtain ⟨v, h2, hm⟩ := bnd hm
 refine VA.p 8 R R R (by kernel_rfl) (VP.ssT R R R Try.underlying9 h2) <| VA.p 9 R R R (by kernel_rfl) (VP.assign R) <| VA.done (by kernel_rfl) <| VW.seq <| VW.region <| VR.p R R (VP.move R) ?_
 obtain ⟨r, h3, hm⟩ := bnd hm
 refine VR.cons R R (VO.callK 0 R fn40 R (lex_head_lex_plain_ok v r h3) fun _ _ h12 => ?_)
 obtain ⟨rfl, rfl⟩ := h12
 refine VR.p R R (VP.move R) <| VR.p R R (VP.extract R R) <| VR.p R R (VP.extract R R) <| VR.p R R (VP.assign R) <| VR.p R R (VP.assign R) <| VR.nil <| VW.seq <| VW.block <| VW.seq <| VW.region <| VR.p R R (VP.move R) <| VR.p R R (VP.arith R R R) <| VR.p R R (VP.assign R) <| VR.nil ?_
 rcases ite_or hm with ⟨h4, hm⟩ | ⟨h4, hm⟩
 ·refine VW.condT R h4 <| VW.seq <| VW.drawK 1 mixed <| VA.p 0 R R R (by kernel_rfl) (VP.move R) <| VA.p 1 R R R (by kernel_rfl) (VP.nilCheckP R) <| VA.p 2 R R R (by kernel_rfl) (VP.fieldP R fa55_1) <| VA.p 3 R R R (by kernel_rfl) (VP.loadP (i := 0) R R ld3 R) <| VA.p 4 R R R (by kernel_rfl) (VP.buildP pl57 R R) <| VA.p 5 R R R (by kernel_rfl) (VP.assign R) ?_
  refine VA.all [6] (by kernel_rfl) ⟨?_, trivial⟩
  refine VB.o R R R (VO.storeP (i := 0) R R R ld57 R R R ?_)
  refine VA.done (by kernel_rfl) ?_
  obtain rfl := Option.some.inj hm
  exact VW.ret ⟨.inl R, _, .cons (.tmp _ _ R) (.cons (.cell _ _ _ _ 0 _ _ _ _ R R ld57 R) .nil), [1], _, R, R, R⟩
 ·have h4 := bf h4
  refine VW.condF R h4 <| VW.seq <| VW.region <| VR.p R R (VP.move R) <| VR.p R R (VP.move R) ?_
  obtain ⟨v2, h5, hm⟩ := bnd hm
  refine VR.p R R (VP.ssT R R R Try.underlying9 h5) ?_
  obtain ⟨r2, h6, hm⟩ := bnd hm
  refine VR.cons R R (VO.callK 0 R fn42 R (lex_Runes_ok v2 r2 h6) fun _ _ h11 => ?_)
  obtain ⟨rfl, rfl⟩ := h11
  refine VR.p R R (VP.arith R R R) <| VR.p R R (VP.assign R) <| VR.nil ?_
  rcases ite_or hm with ⟨h7, hm⟩ | ⟨h7, hm⟩
  ·refine VW.condT R h7 <| VW.seq <| VW.drawK 1 mixed <| VA.p 0 R R R (by kernel_rfl) (VP.move R) <| VA.p 1 R R R (by kernel_rfl) (VP.nilCheckP R) <| VA.p 2 R R R (by kernel_rfl) (VP.fieldP R fa55_1) <| VA.p 3 R R R (by kernel_rfl) (VP.loadP (i := 0) R R ld3 R) <| VA.p 4 R R R (by kernel_rfl) (VP.buildP pl57 R R) <| VA.p 5 R R R (by kernel_rfl) (VP.assign R) ?_
   refine VA.all [6] (by kernel_rfl) ⟨?_, trivial⟩
   refine VB.o R R R (VO.storeP (i := 0) R R R ld57 R R R ?_)
   refine VA.done (by kernel_rfl) ?_
   obtain rfl := Option.some.inj hm
   exact VW.ret ⟨.inl R, _, .cons (.tmp _ _ R) (.cons (.cell _ _ _ _ 0 _ _ _ _ R R ld57 R) .nil), [1], _, R, R, R⟩
  ·have h7 := bf h7
   refine VW.condF R h7 <| VW.skip <| VW.seq <| VW.region <| VR.p R R (VP.move R) <| VR.p R R (VP.move R) ?_
   obtain ⟨r3, h8, hm⟩ := bnd hm
   refine VR.shift (Shift.mem [1, 0] R) ?_
   refine VR.cons R R (VO.callK 1 R fn51 R (lex_scanner_pass_ok x r.1 b r3 h8) fun _ _ h10 => ?_)
   obtain ⟨rfl, rfl⟩ := h10
   refine VR.nil <| VW.seq <| VW.region <| VR.p R R (VP.move R) <| VR.p R R (VP.move R) ?_
   obtain ⟨v3, h9, hm⟩ := bnd hm
   refine VR.p R R (VP.ssT R R R Try.underlying9 h9) <| VR.p R R (VP.buildP pl57 R R) <| VR.p R R (VP.assign R) ?_
   refine VR.cons R R (VO.storeP (i := 1) R R R ld57 R R R ?_)
   refine VR.nil ?_
   obtain rfl := Option.some.inj hm
   exact VW.ret ⟨.inl R, _, .cons (.tmp _ _ R) (.cons (.cell _ _ _ _ 1 _ _ _ _ R R ld57 R) .nil), [0], _, R, R, R⟩

/-! (*trireme/lex.scanner).token -/
def lex_scanner_token.l1 : Nat → T_lex_scanner → Option (Out (T_api_Token × Bool × T_lex_fault × T_lex_scanner) T_lex_scanner)
 | 0, _ => none
 | n + 1, x3 =>
  if (decide (x3.at_ < (x3.s.size : Int))) = true then
   (V.gi x3.s x3.at_).bind fun v =>
   ((V.ss x3.s (some x3.from_) (some x3.at_)).bind fun v2 =>
   (lex_Runes v2).bind fun r =>
   some (⟨(0 : Int), (⟨#[]⟩ : ByteArray), x3.at_, x3.line, (IntKind.i64.wrap ((1 : Int) + r))⟩ : T_api_Token)).bind fun t2 =>
   ((lex_blank (IntKind.i32.wrap v)).bind fun r3 =>
   if r3 = true then
    (lex_scanner_pass x3 (1 : Int)).bind fun r4 =>
    (lex_scanner_token.l1 n r4).bind fun q => some (Out.ret q)
   else
    if (v == (59 : Int)) = true then
     (lex_scanner_remark x3).bind fun r5 =>
     if (r5.1.e != (0 : Int)) = true then
      some (Out.ret (Out.ret ((⟨(0 : Int), (⟨#[]⟩ : ByteArray), (0 : Int), (0 : Int), (0 : Int)⟩ : T_api_Token), false, r5.1, r5.2)))
     else
      (lex_scanner_token.l1 n r5.2).bind fun q => some (Out.ret q)
    else
     if (v == (40 : Int)) = true then
      (lex_scanner_pass x3 (1 : Int)).bind fun r6 =>
      some (Out.go ((⟨(1 : Int), (⟨#[40]⟩ : ByteArray), t2.At, t2.Line, t2.Col⟩ : T_api_Token), (⟨(0 : Int), (0 : Int)⟩ : T_lex_fault), r6))
     else
      if (v == (41 : Int)) = true then
       (lex_scanner_pass x3 (1 : Int)).bind fun r7 =>
       some (Out.go ((⟨(2 : Int), (⟨#[41]⟩ : ByteArray), t2.At, t2.Line, t2.Col⟩ : T_api_Token), (⟨(0 : Int), (0 : Int)⟩ : T_lex_fault), r7))
      else
       if (v == (34 : Int)) = true then
        (lex_scanner_text x3).bind fun r8 =>
        some (Out.go ((⟨(4 : Int), r8.1, t2.At, t2.Line, t2.Col⟩ : T_api_Token), r8.2.1, r8.2.2))
       else
        (lex_scanner_word x3).bind fun r9 =>
        some (Out.go ((⟨(3 : Int), r9.1, t2.At, t2.Line, t2.Col⟩ : T_api_Token), r9.2.1, r9.2.2))).bind fun o3 =>
   o3.on fun j =>
   some (Out.ret (j.1, (j.2.1.e == (0 : Int)), j.2.1, j.2.2))
  else
   some (Out.go x3)
def lex_scanner_token (x : T_lex_scanner) : Option (T_api_Token × Bool × T_lex_fault × T_lex_scanner) :=
 (lex_scanner_token.l1 FU x).bind fun o =>
 o.on fun x42 =>
 some ((⟨(0 : Int), (⟨#[]⟩ : ByteArray), (0 : Int), (0 : Int), (0 : Int)⟩ : T_api_Token), false, (⟨(0 : Int), (0 : Int)⟩ : T_lex_fault), x42)
theorem lex_scanner_token_ok (x : T_lex_scanner) (b : Nat) (r : T_api_Token × Bool × T_lex_fault × T_lex_scanner) (hm : lex_scanner_token x = some r) :
  VC Try.prog 39 [.ptr b 0] [.box b 55 (T_lex_scanner.cells x)] (fun zx zH => zx = .tup [T_api_Token.vv r.1, .bool r.2.1, T_lex_fault.vv r.2.2.1] ∧ zH = [.box b 55 (T_lex_scanner.cells r.2.2.2)]) := by
 unfold lex_scanner_token at hm
 refine VC.run (c := _) (rs := [.cell 2 51, .tmp 3, .cell 4 57]) Try.func39 R R R <| VW.seq <| VW.region ?_
 refine VR.cons R R (VO.alloc z51 fun b2 => ?_)
 refine VR.p R R (VP.assign R) ?_
 refine VR.cons R R (VO.alloc z57 fun b3 => ?_)
 refine VR.nil ?_
 obtain ⟨o, h3, h4⟩ := bnd hm
 refine VW.join (fun (q : T_lex_scanner) => o = Out.go q) (fun (x42 : T_lex_scanner) (gg : Unit) => [(2, .ptr b2 0), (4, .ptr b3 0)]) (fun (x42 : T_lex_scanner) (gg : Unit) => [.box b3 57 (T_lex_fault.cells (⟨(0 : Int), (0 : Int)⟩ : T_lex_fault)), .box b2 51 (T_api_Token.cells (⟨(0 : Int), (⟨#[]⟩ : ByteArray), (0 : Int), (0 : Int), (0 : Int)⟩ : T_api_Token)), .box b 55 (T_lex_scanner.cells x42)]) ?_ ?_
 ·have hm := h3
  refine VW.block (VW.loop FU ?_)
  refine VL.fuelS (R := _) (fun zn (zs : T_lex_scanner) => lex_scanner_token.l1 zn zs) (fun (zs : T_lex_scanner) (zg : Unit) => [(0, .ptr b 0), (2, .ptr b2 0), (4, .ptr b3 0)]) (fun (zs : T_lex_scanner) (zg : Unit) => [.box b3 57 (T_lex_fault.cells (⟨(0 : Int), (0 : Int)⟩ : T_lex_fault)), .box b2 51 (T_api_Token.cells (⟨(0 : Int), (⟨#[]⟩ : ByteArray), (0 : Int), (0 : Int), (0 : Int)⟩ : T_api_Token)), .box b 55 (T_lex_scanner.cells zs)]) x () (fun zs => R) (Shift.pick [0, 0, 0] R ⟨R, R, R, trivial⟩) h3 ?_
  rintro n x3 _ hm
  rw [lex_scanner_token.l1] at hm
  refine VW.seq <| VW.seq <| VW.drawK 0 mixed <| VA.p 0 R R R (by kernel_rfl) (VP.move R) <| VA.p 1 R R R (by kernel_rfl) (VP.nilCheckP R) <| VA.p 2 R R R (by kernel_rfl) (VP.fieldP R fa55_1) <| VA.p 3 R R R (by kernel_rfl) (VP.loadP (i := 2) R R ld3 R) <| VA.p 4 R R R (by kernel_rfl) (VP.move R) <| VA.p 5 R R R (by kernel_rfl) (VP.nilCheckP R) <| VA.p 6 R R R (by kernel_rfl) (VP.fieldP R fa55_0) <| VA.p 7 R R R (by kernel_rfl) (VP.loadP (i := 2) R R ld9 R) <| VA.p 8 R R R (by kernel_rfl) (VP.lenS R Try.underlying9) <| VA.p 9 R R R (by kernel_rfl) (VP.arith R R R) <| VA.done (by kernel_rfl) ?_
  rcases ite_or hm with ⟨h5, hm⟩ | ⟨h5, hm⟩
  ·refine VW.condT R h5 <| VW.skip <| VW.block <| VW.seq <| VW.drawK 0 mixed <| VA.p 0 R R R (by kernel_rfl) (VP.move R) <| VA.p 1 R R R (by kernel_rfl) (VP.nilCheckP R) <| VA.p 2 R R R (by kernel_rfl) (VP.fieldP R fa55_0) <| VA.p 3 R R R (by kernel_rfl) (VP.loadP (i := 2) R R ld9 R) <| VA.p 4 R R R (by kernel_rfl) (VP.move R) <| VA.p 5 R R R (by kernel_rfl) (VP.nilCheckP R) <| VA.p 6 R R R (by kernel_rfl) (VP.fieldP R fa55_1) <| VA.p 7 R R R (by kernel_rfl) (VP.loadP (i := 2) R R ld3 R) ?_
   obtain ⟨v, h6, hm⟩ := bnd hm
   refine VA.p 8 R R R (by kernel_rfl) (VP.gi R R Try.underlying9 h6) <| VA.p 9 R R R (by kernel_rfl) (VP.assign R) <| VA.done (by kernel_rfl) ?_
   obtain ⟨o2, h8, h9⟩ := bnd hm
   refine VW.join (fun (q : T_api_Token) => q = o2) (fun (t2 : T_api_Token) (gg : Nat) => [(0, .ptr b 0), (2, .ptr b2 0), (4, .ptr b3 0), (5, .int .u8 v), (6, .ptr gg 0)]) (fun (t2 : T_api_Token) (gg : Nat) => [.box gg 51 (T_api_Token.cells t2), .box b3 57 (T_lex_fault.cells (⟨(0 : Int), (0 : Int)⟩ : T_lex_fault)), .box b2 51 (T_api_Token.cells (⟨(0 : Int), (⟨#[]⟩ : ByteArray), (0 : Int), (0 : Int), (0 : Int)⟩ : T_api_Token)), .box b 55 (T_lex_scanner.cells x3)]) ?_ ?_
   ·have hm := h8
    refine VW.drawK 0 mixed <| VA.p 0 R R R (by kernel_rfl) (VP.move R) <| VA.p 1 R R R (by kernel_rfl) (VP.nilCheckP R) <| VA.p 2 R R R (by kernel_rfl) (VP.fieldP R fa55_1) <| VA.p 3 R R R (by kernel_rfl) (VP.loadP (i := 2) R R ld3 R) <| VA.p 4 R R R (by kernel_rfl) (VP.move R) <| VA.p 5 R R R (by kernel_rfl) (VP.nilCheckP R) <| VA.p 6 R R R (by kernel_rfl) (VP.fieldP R fa55_2) <| VA.p 7 R R R (by kernel_rfl) (VP.loadP (i := 2) R R ld3 R) <| VA.p 8 R R R (by kernel_rfl) (VP.move R) <| VA.p 9 R R R (by kernel_rfl) (VP.nilCheckP R) <| VA.p 10 R R R (by kernel_rfl) (VP.fieldP R fa55_0) <| VA.p 11 R R R (by kernel_rfl) (VP.loadP (i := 2) R R ld9 R) <| VA.p 12 R R R (by kernel_rfl) (VP.move R) <| VA.p 13 R R R (by kernel_rfl) (VP.nilCheckP R) <| VA.p 14 R R R (by kernel_rfl) (VP.fieldP R fa55_3) <| VA.p 15 R R R (by kernel_rfl) (VP.loadP (i := 2) R R ld3 R) <| VA.p 16 R R R (by kernel_rfl) (VP.move R) <| VA.p 17 R R R (by kernel_rfl) (VP.nilCheckP R) <| VA.p 18 R R R (by kernel_rfl) (VP.fieldP R fa55_1) <| VA.p 19 R R R (by kernel_rfl) (VP.loadP (i := 2) R R ld3 R) ?_
    obtain ⟨v2, h10, hm⟩ := bnd hm
    refine VA.p 20 R R R (by kernel_rfl) (VP.ssT R R R Try.underlying9 h10) ?_
    refine VA.all [21, 24] (by kernel_rfl) ⟨?_, ?_, trivial⟩
    ·obtain ⟨r, h11, hm⟩ := bnd hm
     refine VB.o R R R (VO.callK 0 R fn42 R (lex_Runes_ok v2 r h11) fun _ _ h13 => ?_)
     obtain ⟨rfl, rfl⟩ := h13
     refine VA.p 22 R R R (by kernel_rfl) (VP.arith R R R) <| VA.p 23 R R R (by kernel_rfl) (VP.buildP pl51 R R) ?_
     refine VA.all [24] (by kernel_rfl) ⟨?_, trivial⟩
     refine VB.o R R R (VO.alloc z51 fun b5 => ?_)
     refine VA.all [25] (by kernel_rfl) ⟨?_, trivial⟩
     refine VB.o R R R (VO.storeP (i := 0) R R R ld51 R R R ?_)
     refine VA.done (by kernel_rfl) ?_
     exact ⟨(⟨(0 : Int), (⟨#[]⟩ : ByteArray), x3.at_, x3.line, (IntKind.i64.wrap ((1 : Int) + r))⟩ : T_api_Token), b5, Option.some.inj hm, (Shift.pick [0, 0, 0, 0] R ⟨R, R, R, R, R, trivial⟩)⟩
    ·refine VB.o R R R (VO.alloc z51 fun b6 => ?_)
     refine VA.all [21] (by kernel_rfl) ⟨?_, trivial⟩
     obtain ⟨r2, h15, hm⟩ := bnd hm
     refine VB.o R R R (VO.callK 0 R fn42 R (lex_Runes_ok v2 r2 h15) fun _ _ h16 => ?_)
     obtain ⟨rfl, rfl⟩ := h16
     refine VA.p 22 R R R (by kernel_rfl) (VP.arith R R R) <| VA.p 23 R R R (by kernel_rfl) (VP.buildP pl51 R R) ?_
     refine VA.all [25] (by kernel_rfl) ⟨?_, trivial⟩
     refine VB.o R R R (VO.storeP (i := 0) R R R ld51 R R R ?_)
     refine VA.done (by kernel_rfl) ?_
     exact ⟨(⟨(0 : Int), (⟨#[]⟩ : ByteArray), x3.at_, x3.line, (IntKind.i64.wrap ((1 : Int) + r2))⟩ : T_api_Token), b6, Option.some.inj hm, (Shift.pick [0, 0, 0, 0] R ⟨R, R, R, R, R, trivial⟩)⟩
   ·rintro t2 b4 rfl
    have hm := h9
    refine VW.seq <| VW.region ?_
    refine VR.cons R R (VO.alloc z57 fun b7 => ?_)
    refine VR.nil ?_
    obtain ⟨o3, h18, h19⟩ := bnd hm
    refine VW.join (fun (q : T_api_Token × T_lex_fault × T_lex_scanner) => o3 = Out.go q) (fun (j : T_api_Token × T_lex_fault × T_lex_scanner) (gg : Unit) => [(2, .ptr b2 0), (4, .ptr b3 0), (6, .ptr b4 0), (7, .ptr b7 0)]) (fun (j : T_api_Token × T_lex_fault × T_lex_scanner) (gg : Unit) => [.box b 55 (T_lex_scanner.cells j.2.2), .box b7 57 (T_lex_fault.cells j.2.1), .box b4 51 (T_api_Token.cells j.1), .box b3 57 (T_lex_fault.cells (⟨(0 : Int), (0 : Int)⟩ : T_lex_fault)), .box b2 51 (T_api_Token.cells (⟨(0 : Int), (⟨#[]⟩ : ByteArray), (0 : Int), (0 : Int), (0 : Int)⟩ : T_api_Token))]) ?_ ?_
    ·have hm := h18
     refine VW.block <| VW.seq <| VW.region <| VR.p R R (VP.move R) <| VR.p R R (VP.convI Try.underlying5 Try.underlying21 R) ?_
     obtain ⟨r3, h20, hm⟩ := bnd hm
     refine VR.cons R R (VO.callK 0 R fn50 R (lex_blank_ok (IntKind.i32.wrap v) r3 h20) fun _ _ h41 => ?_)
     obtain ⟨rfl, rfl⟩ := h41
     refine VR.p R R (VP.assign R) <| VR.nil ?_
     rcases ite_or hm with ⟨h21, hm⟩ | ⟨h21, hm⟩
     ·refine VW.condT R h21 <| VW.seq <| VW.region <| VR.p R R (VP.move R) ?_
      obtain ⟨r4, h22, hm⟩ := bnd hm
      refine VR.shift (Shift.mem [4, 0, 0, 0, 0] R) ?_
      refine VR.cons R R (VO.callK 1 R fn51 R (lex_scanner_pass_ok x3 (1 : Int) b r4 h22) fun _ _ h24 => ?_)
      obtain ⟨rfl, rfl⟩ := h24
      refine VR.nil <| VW.exit ?_
      obtain ⟨q_, h23, hm⟩ := bnd hm
      obtain rfl := Option.some.inj hm
      obtain rfl := Option.some.inj (Out.ret_on h19)
      have hm := h23
      exact ⟨r4, (), hm, (Shift.pick [3, 3, 0] R ⟨R, R, R, trivial⟩)⟩
     ·have h21 := bf h21
      refine VW.condF R h21 <| VW.seq <| VW.region <| VR.p R R (VP.move R) <| VR.p R R (VP.arith R R R) <| VR.p R R (VP.assign R) <| VR.nil ?_
      rcases ite_or hm with ⟨h25, hm⟩ | ⟨h25, hm⟩
      ·refine VW.condT R h25 <| VW.seq <| VW.seq <| VW.region <| VR.p R R (VP.move R) ?_
       obtain ⟨r5, h26, hm⟩ := bnd hm
       refine VR.shift (Shift.mem [4, 0, 0, 0, 0] R) ?_
       refine VR.cons R R (VO.callK 1 R fn52 R (lex_scanner_remark_ok x3 b r5 h26) fun _ _ h29 => ?_)
       obtain ⟨rfl, rfl⟩ := h29
       refine VR.cons R R (VO.storeP (i := 1) R R R ld57 R R R ?_)
       refine VR.nil <| VW.seq <| VW.region <| VR.p R R (VP.fieldP R fa57_0) <| VR.p R R (VP.loadP (i := 1) R R ld25 R) <| VR.p R R (VP.arith R R R) <| VR.nil ?_
       rcases ite_or hm with ⟨h27, hm⟩ | ⟨h27, hm⟩
       ·refine VW.condT R h27 <| VW.seq <| VW.shift (Shift.mem [3, 3, 0, 0, 0] R) <| VW.drawK 2 mixed <| VA.p 0 R R R (by kernel_rfl) (VP.buildP pl51 R R) <| VA.p 1 R R R (by kernel_rfl) (VP.loadP (i := 1) R R ld57 R) ?_
        refine VA.all [2] (by kernel_rfl) ⟨?_, trivial⟩
        refine VB.o R R R (VO.storeP (i := 1) R R R ld51 R R R ?_)
        refine VA.p 3 R R R (by kernel_rfl) (VP.assign R) ?_
        refine VA.all [4] (by kernel_rfl) ⟨?_, trivial⟩
        refine VB.o R R R (VO.storeP (i := 0) R R R ld57 R R R ?_)
        refine VA.done (by kernel_rfl) ?_
        obtain rfl := Option.some.inj hm
        have hm := Out.ret_on h19
        obtain rfl := Option.some.inj hm
        have hm := Out.ret_on h4
        obtain rfl := Option.some.inj hm
        exact VW.ret ⟨.inl R, _, .cons (.cell _ _ _ _ 1 _ _ _ _ R R ld51 R) (.cons (.tmp _ _ R) (.cons (.cell _ _ _ _ 0 _ _ _ _ R R ld57 R) .nil)), [2], _, R, R, R⟩
       ·have h27 := bf h27
        refine VW.condF R h27 <| VW.skip <| VW.exit ?_
        obtain ⟨q_2, h28, hm⟩ := bnd hm
        obtain rfl := Option.some.inj hm
        obtain rfl := Option.some.inj (Out.ret_on h19)
        have hm := h28
        exact ⟨r5.2, (), hm, (Shift.pick [3, 3, 0] R ⟨R, R, R, trivial⟩)⟩
      ·have h25 := bf h25
       refine VW.condF R h25 <| VW.seq <| VW.region <| VR.p R R (VP.move R) <| VR.p R R (VP.arith R R R) <| VR.p R R (VP.assign R) <| VR.nil ?_
       rcases ite_or hm with ⟨h30, hm⟩ | ⟨h30, hm⟩
       ·refine VW.condT R h30 <| VW.seq <| VW.region <| VR.p R R (VP.fieldP R fa51_0) ?_
        refine VR.cons R R (VO.storeP (i := 1) R R R ld3 R R R ?_)
        refine VR.p R R (VP.fieldP R fa51_1) ?_
        refine VR.cons R R (VO.storeP (i := 1) R R R ld9 R R R ?_)
        refine VR.nil <| VW.region <| VR.p R R (VP.move R) ?_
        obtain ⟨r6, h31, hm⟩ := bnd hm
        refine VR.shift (Shift.mem [4, 0, 0, 0, 0] R) ?_
        refine VR.cons R R (VO.callK 1 R fn51 R (lex_scanner_pass_ok x3 (1 : Int) b r6 h31) fun _ _ h32 => ?_)
        obtain ⟨rfl, rfl⟩ := h32
        refine VR.nil ?_
        exact ⟨((⟨(1 : Int), (⟨#[40]⟩ : ByteArray), t2.At, t2.Line, t2.Col⟩ : T_api_Token), (⟨(0 : Int), (0 : Int)⟩ : T_lex_fault), r6), (), (Option.some.inj hm).symm, (Shift.pick [0, 0, 0, 0, 0] R ⟨R, R, R, R, trivial⟩)⟩
       ·have h30 := bf h30
        refine VW.condF R h30 <| VW.seq <| VW.region <| VR.p R R (VP.move R) <| VR.p R R (VP.arith R R R) <| VR.p R R (VP.assign R) <| VR.nil ?_
        rcases ite_or hm with ⟨h33, hm⟩ | ⟨h33, hm⟩
        ·refine VW.condT R h33 <| VW.seq <| VW.region <| VR.p R R (VP.fieldP R fa51_0) ?_
         refine VR.cons R R (VO.storeP (i := 1) R R R ld3 R R R ?_)
         refine VR.p R R (VP.fieldP R fa51_1) ?_
         refine VR.cons R R (VO.storeP (i := 1) R R R ld9 R R R ?_)
         refine VR.nil <| VW.region <| VR.p R R (VP.move R) ?_
         obtain ⟨r7, h34, hm⟩ := bnd hm
         refine VR.shift (Shift.mem [4, 0, 0, 0, 0] R) ?_
         refine VR.cons R R (VO.callK 1 R fn51 R (lex_scanner_pass_ok x3 (1 : Int) b r7 h34) fun _ _ h35 => ?_)
         obtain ⟨rfl, rfl⟩ := h35
         refine VR.nil ?_
         exact ⟨((⟨(2 : Int), (⟨#[41]⟩ : ByteArray), t2.At, t2.Line, t2.Col⟩ : T_api_Token), (⟨(0 : Int), (0 : Int)⟩ : T_lex_fault), r7), (), (Option.some.inj hm).symm, (Shift.pick [0, 0, 0, 0, 0] R ⟨R, R, R, R, trivial⟩)⟩
        ·have h33 := bf h33
         refine VW.condF R h33 <| VW.seq <| VW.region <| VR.p R R (VP.move R) <| VR.p R R (VP.arith R R R) <| VR.p R R (VP.assign R) <| VR.nil ?_
         rcases ite_or hm with ⟨h36, hm⟩ | ⟨h36, hm⟩
         ·refine VW.condT R h36 <| VW.seq <| VW.region <| VR.p R R (VP.fieldP R fa51_0) ?_
          refine VR.cons R R (VO.storeP (i := 1) R R R ld3 R R R ?_)
          refine VR.nil <| VW.region <| VR.p R R (VP.move R) ?_
          obtain ⟨r8, h37, hm⟩ := bnd hm
          refine VR.shift (Shift.mem [4, 0, 0, 0, 0] R) ?_
          refine VR.cons R R (VO.callK 1 R fn53 R (lex_scanner_text_ok x3 b r8 h37) fun _ _ h38 => ?_)
          obtain ⟨rfl, rfl⟩ := h38
          refine VR.p R R (VP.move R) <| VR.p R R (VP.extract R R) <| VR.p R R (VP.extract R R) <| VR.p R R (VP.fieldP R fa51_1) ?_
          refine VR.cons R R (VO.storeP (i := 2) R R R ld9 R R R ?_)
          refine VR.cons R R (VO.storeP (i := 1) R R R ld57 R R R ?_)
          refine VR.nil ?_
          exact ⟨((⟨(4 : Int), r8.1, t2.At, t2.Line, t2.Col⟩ : T_api_Token), r8.2.1, r8.2.2), (), (Option.some.inj hm).symm, (Shift.pick [0, 0, 0, 0, 0] R ⟨R, R, R, R, trivial⟩)⟩
         ·have h36 := bf h36
          refine VW.condF R h36 <| VW.seq <| VW.region <| VR.p R R (VP.fieldP R fa51_0) ?_
          refine VR.cons R R (VO.storeP (i := 1) R R R ld3 R R R ?_)
          refine VR.nil <| VW.region <| VR.p R R (VP.move R) ?_
          obtain ⟨r9, h39, hm⟩ := bnd hm
          refine VR.shift (Shift.mem [4, 0, 0, 0, 0] R) ?_
          refine VR.cons R R (VO.callK 1 R fn54 R (lex_scanner_word_ok x3 b r9 h39) fun _ _ h40 => ?_)
          obtain ⟨rfl, rfl⟩ := h40
          refine VR.p R R (VP.move R) <| VR.p R R (VP.extract R R) <| VR.p R R (VP.extract R R) <| VR.p R R (VP.fieldP R fa51_1) ?_
          refine VR.cons R R (VO.storeP (i := 2) R R R ld9 R R R ?_)
          refine VR.cons R R (VO.storeP (i := 1) R R R ld57 R R R ?_)
          refine VR.nil ?_
          exact ⟨((⟨(3 : Int), r9.1, t2.At, t2.Line, t2.Col⟩ : T_api_Token), r9.2.1, r9.2.2), (), (Option.some.inj hm).symm, (Shift.pick [0, 0, 0, 0, 0] R ⟨R, R, R, R, trivial⟩)⟩
    ·rintro j _ rfl
     have hm := Out.go_on h19
     refine VW.seq <| VW.shift (Shift.mem [3, 3, 0, 0, 0] R) <| VW.drawK 2 mixed <| VA.p 0 R R R (by kernel_rfl) (VP.loadP (i := 2) R R ld51 R) <| VA.p 1 R R R (by kernel_rfl) (VP.fieldP R fa57_0) <| VA.p 2 R R R (by kernel_rfl) (VP.loadP (i := 1) R R ld25 R) <| VA.p 3 R R R (by kernel_rfl) (VP.arith R R R) <| VA.p 4 R R R (by kernel_rfl) (VP.loadP (i := 1) R R ld57 R) ?_
     refine VA.all [5] (by kernel_rfl) ⟨?_, trivial⟩
     refine VB.o R R R (VO.storeP (i := 1) R R R ld51 R R R ?_)
     refine VA.p 6 R R R (by kernel_rfl) (VP.assign R) ?_
     refine VA.all [7] (by kernel_rfl) ⟨?_, trivial⟩
     refine VB.o R R R (VO.storeP (i := 0) R R R ld57 R R R ?_)
     refine VA.done (by kernel_rfl) ?_
     obtain rfl := Option.some.inj hm
     have hm := Out.ret_on h4
     obtain rfl := Option.some.inj hm
     exact VW.ret ⟨.inl R, _, .cons (.cell _ _ _ _ 1 _ _ _ _ R R ld51 R) (.cons (.tmp _ _ R) (.cons (.cell _ _ _ _ 0 _ _ _ _ R R ld57 R) .nil)), [2], _, R, R, R⟩
  ·have h5 := bf h5
   refine VW.condF R h5 <| VW.exit ?_
   exact ⟨x3, (), (Option.some.inj hm).symm, (Shift.pick [0, 0, 0] R ⟨R, R, trivial⟩)⟩
 ·rintro x42 _ rfl
  have hm := Out.go_on h4
  refine VW.seq <| VW.region <| VR.p R R (VP.buildP pl51 R R) <| VR.p R R (VP.buildP pl57 R R) ?_
  refine VR.cons R R (VO.storeP (i := 1) R R R ld51 R R R ?_)
  refine VR.p R R (VP.assign R) ?_
  refine VR.cons R R (VO.storeP (i := 0) R R R ld57 R R R ?_)
  refine VR.nil ?_
  obtain rfl := Option.some.inj hm
  exact VW.ret ⟨.inl R, _, .cons (.cell _ _ _ _ 1 _ _ _ _ R R ld51 R) (.cons (.tmp _ _ R) (.cons (.cell _ _ _ _ 0 _ _ _ _ R R ld57 R) .nil)), [2], _, R, R, R⟩

/-! trireme/lex.Scan -/
def lex_Scan.l1 : Nat → T_lex_scanner → (List T_api_Token) → Option (List T_api_Token × Int × Int)
 | 0, _, _ => none
 | n + 1, x2, l2 =>
  (lex_scanner_token x2).bind fun r =>
  if (r.2.2.1.e != (0 : Int)) = true then
   some (([] : List T_api_Token), r.2.2.1.e, r.2.2.1.at_)
  else
   if (!r.2.1) = true then
    some (l2, (0 : Int), (0 : Int))
   else
    (V.ap 48 l2 [r.1]).bind fun l4 =>
    lex_Scan.l1 n r.2.2.2 l4
def lex_Scan (s : ByteArray) : Option (List T_api_Token × Int × Int) :=
 if (decide ((s.size : Int) > (65536 : Int))) = true then
  some (([] : List T_api_Token), (7 : Int), (65536 : Int))
 else
  lex_Scan.l1 FU (⟨s, (0 : Int), (1 : Int), (0 : Int)⟩ : T_lex_scanner) ([] : List T_api_Token)
theorem lex_Scan_ok (s : ByteArray) (r : List T_api_Token × Int × Int) (hm : lex_Scan s = some r) :
  VC Try.prog 32 [.str s] [] (fun zx zH => ∃ (ob0 : Option Nat) (cap0 : Nat), zx = .tup [.sl ob0 (List.map T_api_Token.vv r.1).length cap0, .int .i64 r.2.1, .int .i64 r.2.2] ∧ zH = [.row ob0 51 cap0 (List.map T_api_Token.vv r.1)]) := by
 unfold lex_Scan at hm
 refine VC.run (c := _) (rs := [.tmp 2, .tmp 3, .tmp 4]) Try.func32 R R R <| VW.seq <| VW.region <| VR.p R R (VP.assign R) <| VR.p R R (VP.assign R) <| VR.p R R (VP.assign R) <| VR.nil <| VW.seq <| VW.seq <| VW.region <| VR.p R R (VP.move R) <| VR.p R R (VP.lenS R Try.underlying9) <| VR.p R R (VP.arith R R R) <| VR.nil ?_
 rcases ite_or hm with ⟨h1, hm⟩ | ⟨h1, hm⟩
 ·refine VW.condT R h1 <| VW.seq <| VW.region <| VR.p R R (VP.assign R) <| VR.p R R (VP.assign R) <| VR.p R R (VP.assign R) <| VR.nil ?_
  obtain rfl := Option.some.inj hm
  refine VW.shift (Shift.nilRow 51) ?_
  exact VW.ret ⟨.inl R, _, .cons (.tmp _ _ R) (.cons (.tmp _ _ R) (.cons (.tmp _ _ R) .nil)), [0], _, R, none, 0, R, R⟩
 ·have h1 := bf h1
  refine VW.condF R h1 <| VW.skip <| VW.seq <| VW.region <| VR.p R R (VP.move R) <| VR.p R R (VP.buildP pl55 R R) ?_
  refine VR.cons R R (VO.box R R fun b => ?_)
  refine VR.p R R (VP.assign R) <| VR.nil <| VW.seq <| VW.region <| VR.p R R (VP.assign R) <| VR.nil ?_
  refine VW.block (VW.loop FU ?_)
  refine VL.fuelS (R := _) (fun zn (zs : T_lex_scanner × List T_api_Token) => lex_Scan.l1 zn zs.1 zs.2) (fun (zs : T_lex_scanner × List T_api_Token) (zg : Option Nat × Nat) => [(5, .ptr b 0), (6, .sl zg.1 (List.map T_api_Token.vv zs.2).length zg.2)]) (fun (zs : T_lex_scanner × List T_api_Token) (zg : Option Nat × Nat) => [.row zg.1 51 zg.2 (List.map T_api_Token.vv zs.2), .box b 55 (T_lex_scanner.cells zs.1)]) ((⟨s, (0 : Int), (1 : Int), (0 : Int)⟩ : T_lex_scanner), ([] : List T_api_Token)) (none, 0) (fun zs => R) (Shift.trans (Shift.nilRow 51) (Shift.pick [0, 0] R ⟨R, R, trivial⟩)) hm ?_
  rintro n ⟨x2, l2⟩ ⟨ob2, cap2⟩ hm
  rw [lex_Scan.l1] at hm
  refine VW.block <| VW.seq <| VW.region <| VR.p R R (VP.move R) ?_
  obtain ⟨r, h6, hm⟩ := bnd hm
  refine VR.shift (Shift.mem [1, 0] R) ?_
  refine VR.cons R R (VO.callK 1 R fn39 R (lex_scanner_token_ok x2 b r h6) fun _ _ h14 => ?_)
  obtain ⟨rfl, rfl⟩ := h14
  refine VR.p R R (VP.move R) <| VR.p R R (VP.extract R R) <| VR.p R R (VP.extract R R) <| VR.p R R (VP.extract R R) ?_
  refine VR.cons R R (VO.alloc z51 fun b2 => ?_)
  refine VR.cons R R (VO.alloc z57 fun b3 => ?_)
  refine VR.cons R R (VO.storeP (i := 1) R R R ld51 R R R ?_)
  refine VR.p R R (VP.assign R) ?_
  refine VR.cons R R (VO.storeP (i := 0) R R R ld57 R R R ?_)
  refine VR.nil <| VW.seq <| VW.block <| VW.seq <| VW.region <| VR.p R R (VP.fieldP R fa57_0) <| VR.p R R (VP.loadP (i := 0) R R ld25 R) <| VR.p R R (VP.arith R R R) <| VR.p R R (VP.assign R) <| VR.nil ?_
  rcases ite_or hm with ⟨h9, hm⟩ | ⟨h9, hm⟩
  ·refine VW.condT R h9 <| VW.seq <| VW.drawK 0 mixed <| VA.p 0 R R R (by kernel_rfl) (VP.fieldP R fa57_0) <| VA.p 1 R R R (by kernel_rfl) (VP.loadP (i := 0) R R ld25 R) <| VA.p 2 R R R (by kernel_rfl) (VP.fieldP R fa57_1) <| VA.p 3 R R R (by kernel_rfl) (VP.loadP (i := 0) R R ld3 R) <| VA.p 4 R R R (by kernel_rfl) (VP.assign R) <| VA.p 5 R R R (by kernel_rfl) (VP.assign R) <| VA.p 6 R R R (by kernel_rfl) (VP.assign R) <| VA.done (by kernel_rfl) ?_
   obtain rfl := Option.some.inj hm
   refine VW.shift (Shift.nilRow 51) ?_
   exact VW.ret ⟨.inl R, _, .cons (.tmp _ _ R) (.cons (.tmp _ _ R) (.cons (.tmp _ _ R) .nil)), [0], _, R, none, 0, R, R⟩
  ·have h9 := bf h9
   refine VW.condF R h9 <| VW.seq <| VW.region <| VR.p R R (VP.move R) <| VR.p R R (VP.not R) <| VR.p R R (VP.assign R) <| VR.nil ?_
   rcases ite_or hm with ⟨h11, hm⟩ | ⟨h11, hm⟩
   ·refine VW.condT R h11 <| VW.seq <| VW.region <| VR.p R R (VP.move R) <| VR.p R R (VP.assign R) <| VR.p R R (VP.assign R) <| VR.p R R (VP.assign R) <| VR.nil ?_
    obtain rfl := Option.some.inj hm
    exact VW.ret ⟨.inl R, _, .cons (.tmp _ _ R) (.cons (.tmp _ _ R) (.cons (.tmp _ _ R) .nil)), [3], _, R, ob2, cap2, R, R⟩
   ·have h11 := bf h11
    refine VW.condF R h11 <| VW.skip <| VW.region <| VR.p R R (VP.move R) <| VR.p R R (VP.loadP (i := 1) R R ld51 R) ?_
    refine VR.cons R R (VO.buildSlice ap47 R R R R R fun b4 => ?_)
    obtain ⟨l4, h13, hm⟩ := bnd hm
    refine VR.cons R R (VO.apT 4 T_api_Token.vv (l := l2) (l2 := [r.1]) ap47 R R (sT_row 0 T_api_Token.vv el47 R R) h13 fun ob3 cap3 => ?_)
    refine VR.p R R (VP.assign R) <| VR.nil ?_
    exact ⟨(r.2.2.2, l4), (ob3, cap3), hm, (Shift.pick [4, 3] R ⟨R, R, trivial⟩)⟩

/-! trireme/tree.Parse -/
def tree_Parse.l1 (r : List T_api_Token × Int × Int) : Nat → (List T_api_Node) → (List Int) → Int → Option (Out (List T_api_Node × Int × Int) (List T_api_Node × List Int))
 | 0, _, _, _ => none
 | n + 1, l2, open_2, v2 =>
  if (decide (v2 < (r.1.length : Int))) = true then
   (V.gl r.1 v2).bind fun x =>
   if ((x.Kind == (2 : Int)) && ((open_2.length : Int) == (0 : Int))) = true then
    some (Out.ret (([] : List T_api_Node), (6 : Int), x.At))
   else
    if (x.Kind == (2 : Int)) = true then
     (V.sl open_2 none (some (IntKind.i64.wrap ((open_2.length : Int) - (1 : Int))))).bind fun open_4 =>
     tree_Parse.l1 r n l2 open_4 (IntKind.i64.wrap (v2 + (1 : Int)))
    else
     if (((l2.length : Int) == (4000 : Int)) || ((x.Kind == (1 : Int)) && ((open_2.length : Int) == (20 : Int)))) = true then
      some (Out.ret (([] : List T_api_Node), (7 : Int), x.At))
     else
      (if (decide ((open_2.length : Int) > (0 : Int))) = true then
       (V.gl open_2 (IntKind.i64.wrap ((open_2.length : Int) - (1 : Int)))).bind fun x2 =>
       (V.gl l2 x2).bind fun x3 =>
       (V.gl l2 x2).bind fun x4 =>
       some (List.set l2 (x2).toNat (⟨x4.Kind, x4.Text, (IntKind.i64.wrap (x3.Kids + (1 : Int))), x4.At⟩ : T_api_Node))
      else
       some l2).bind fun l52 =>
      if (x.Kind == (1 : Int)) = true then
       (V.ap 8 open_2 [(l52.length : Int)]).bind fun open_5 =>
       (V.ap 40 l52 [(⟨(5 : Int), (⟨#[]⟩ : ByteArray), (0 : Int), x.At⟩ : T_api_Node)]).bind fun l6 =>
       tree_Parse.l1 r n l6 open_5 (IntKind.i64.wrap (v2 + (1 : Int)))
      else
       (V.ap 40 l52 [(⟨x.Kind, x.Text, (0 : Int), x.At⟩ : T_api_Node)]).bind fun l7 =>
       tree_Parse.l1 r n l7 open_2 (IntKind.i64.wrap (v2 + (1 : Int)))
  else
   some (Out.go (l2, open_2))
def tree_Parse (s : ByteArray) : Option (List T_api_Node × Int × Int) :=
 (lex_Scan s).bind fun r =>
 if (r.2.1 != (0 : Int)) = true then
  some (([] : List T_api_Node), r.2.1, r.2.2)
 else
  (tree_Parse.l1 r FU ([] : List T_api_Node) ([] : List Int) (0 : Int)).bind fun o =>
  o.on fun j =>
  if (decide ((j.2.length : Int) > (0 : Int))) = true then
   (V.gl j.2 (IntKind.i64.wrap ((j.2.length : Int) - (1 : Int)))).bind fun x5 =>
   (V.gl j.1 x5).bind fun x6 =>
   some (([] : List T_api_Node), (5 : Int), x6.At)
  else
   some (j.1, (0 : Int), (0 : Int))
theorem tree_Parse_ok (s : ByteArray) (r : List T_api_Node × Int × Int) (hm : tree_Parse s = some r) :
  VC Try.prog 20 [.str s] [] (fun zx zH => ∃ (ob0 : Option Nat) (cap0 : Nat), zx = .tup [.sl ob0 (List.map T_api_Node.vv r.1).length cap0, .int .i64 r.2.1, .int .i64 r.2.2] ∧ zH = [.row ob0 40 cap0 (List.map T_api_Node.vv r.1)]) := by
 unfold tree_Parse at hm
 refine VC.run (c := _) (rs := [.tmp 2, .tmp 3, .tmp 4]) Try.func20 R R R <| VW.seq <| VW.region <| VR.p R R (VP.assign R) <| VR.p R R (VP.assign R) <| VR.p R R (VP.assign R) <| VR.nil <| VW.seq <| VW.region <| VR.p R R (VP.move R) ?_
 obtain ⟨r, h1, hm⟩ := bnd hm
 refine VR.cons R R (VO.callK 0 R fn32 R (lex_Scan_ok s r h1) fun _ _ h48 => ?_)
 obtain ⟨ob, cap, rfl, rfl⟩ := h48
 refine VR.p R R (VP.move R) <| VR.p R R (VP.extract R R) <| VR.p R R (VP.extract R R) <| VR.p R R (VP.extract R R) <| VR.p R R (VP.assign R) <| VR.p R R (VP.assign R) <| VR.p R R (VP.assign R) <| VR.nil <| VW.seq <| VW.seq <| VW.region <| VR.p R R (VP.move R) <| VR.p R R (VP.arith R R R) <| VR.nil ?_
 rcases ite_or hm with ⟨h3, hm⟩ | ⟨h3, hm⟩
 ·refine VW.condT R h3 <| VW.seq <| VW.region <| VR.p R R (VP.move R) <| VR.p R R (VP.move R) <| VR.p R R (VP.assign R) <| VR.p R R (VP.assign R) <| VR.p R R (VP.assign R) <| VR.nil ?_
  obtain rfl := Option.some.inj hm
  refine VW.shift (Shift.nilRow 40) ?_
  exact VW.ret ⟨.inl R, _, .cons (.tmp _ _ R) (.cons (.tmp _ _ R) (.cons (.tmp _ _ R) .nil)), [0], _, R, none, 0, R, R⟩
 ·have h3 := bf h3
  refine VW.condF R h3 <| VW.skip <| VW.seq <| VW.region <| VR.p R R (VP.assign R) <| VR.nil <| VW.seq <| VW.region <| VR.p R R (VP.assign R) <| VR.nil <| VW.seq <| VW.seq <| VW.region <| VR.p R R (VP.move R) <| VR.p R R (VP.lenRT T_api_Token.vv R Try.underlying47) <| VR.p R R (VP.move R) <| VR.nil ?_
  obtain ⟨o, h9, h10⟩ := bnd hm
  refine VW.joinE (fun (q : List T_api_Node × List Int) => o = Out.go q) (fun (j : List T_api_Node × List Int) (gg : Option Nat × Nat × Option Nat × Nat) => [(8, .sl gg.1 (List.map T_api_Node.vv j.1).length gg.2.1), (9, .sl gg.2.2.1 (List.map (VV.int .i64) j.2).length gg.2.2.2)]) (fun (j : List T_api_Node × List Int) (gg : Option Nat × Nat × Option Nat × Nat) => [.row gg.1 40 gg.2.1 (List.map T_api_Node.vv j.1), .row gg.2.2.1 3 gg.2.2.2 (List.map (VV.int .i64) j.2)]) ?_ ?_
  ·have hm := h9
   refine VW.block (VW.loop FU ?_)
   refine VL.fuelS (R := _) (fun zn (zs : List T_api_Node × List Int × Int) => tree_Parse.l1 r zn zs.1 zs.2.1 zs.2.2) (fun (zs : List T_api_Node × List Int × Int) (zg : Option Nat × Nat × Option Nat × Nat × Option Nat) => [(8, .sl zg.1 (List.map T_api_Node.vv zs.1).length zg.2.1), (9, .sl zg.2.2.1 (List.map (VV.int .i64) zs.2.1).length zg.2.2.2.1), (24, .sl zg.2.2.2.2 (List.map T_api_Token.vv r.1).length cap), (25, .int .i64 (r.1.length : Int)), (26, .int .i64 zs.2.2)]) (fun (zs : List T_api_Node × List Int × Int) (zg : Option Nat × Nat × Option Nat × Nat × Option Nat) => [.row zg.1 40 zg.2.1 (List.map T_api_Node.vv zs.1), .row zg.2.2.1 3 zg.2.2.2.1 (List.map (VV.int .i64) zs.2.1), .row zg.2.2.2.2 51 cap (List.map T_api_Token.vv r.1)]) (([] : List T_api_Node), ([] : List Int), (0 : Int)) (none, 0, none, 0, ob) (fun zs => R) (Shift.trans (Shift.nilRow 40) (Shift.trans (Shift.nilRow 3) (Shift.pick [1, 0, 0] R ⟨R, R, R, R, R, trivial⟩))) h9 ?_
   rintro n ⟨l2, open_2, v2⟩ ⟨ob5, cap4, ob6, cap5, ob7⟩ hm
   rw [tree_Parse.l1] at hm
   refine VW.seq <| VW.region <| VR.p R R (VP.arith R R R) <| VR.nil <| VW.seq ?_
   rcases ite_or hm with ⟨h11, hm⟩ | ⟨h11, hm⟩
   ·refine VW.condT R h11 <| VW.skip <| VW.seq <| VW.block <| VW.seq <| VW.region ?_
    obtain ⟨x, h12, hm⟩ := bnd hm
    refine VR.someRow 2 R (gl_pos T_api_Token.vv h12) fun b h13 => ?_
    subst h13
    refine VR.p R R (VP.glR T_api_Token.vv R R el47 h12) <| VR.p R R (VP.loadR (i := 2) (y := T_api_Token.vv x) R R R (gl_map _ (gl_some h12).2) ld51 R) ?_
    refine VR.cons R R (VO.alloc z51 fun b2 => ?_)
    refine VR.cons R R (VO.storeP (i := 0) R R R ld51 R R R ?_)
    refine VR.nil <| VW.seq <| VW.region <| VR.p R R (VP.fieldP R fa51_0) <| VR.p R R (VP.loadP (i := 0) R R ld3 R) <| VR.p R R (VP.assign R) <| VR.nil <| VW.seq <| VW.block <| VW.seq <| VW.region <| VR.p R R (VP.move R) <| VR.p R R (VP.arith R R R) <| VR.p R R (VP.move R) ?_
    refine VR.sc 4 39 (.bool ((x.Kind == (2 : Int)) && ((open_2.length : Int) == (0 : Int)))) (fun K' J => ?_) ?_
    ·rcases Bool.eq_false_or_eq_true (x.Kind == (2 : Int)) with h15 | h15
     ·refine VR.pG R R R R h15 (VP.move R) <| VR.pG R R R R h15 (VP.lenRT (VV.int .i64) R Try.underlying30) <| VR.pG R R R R h15 (VP.arith R R R) <| VR.p R R (VP.pickB true R h15 R) ?_
      exact J [_, _, _] _ R (andT h15)
     ·refine VR.skipG R R R R h15 <| VR.skipG R R R R h15 <| VR.skipG R R R R h15 <| VR.p R R (VP.pickB false R h15 R) ?_
      exact J [_, _, _] _ R (andF h15)
    ·refine VR.p R R (VP.assign R) <| VR.nil ?_
     rcases ite_or hm with ⟨h16, hm⟩ | ⟨h16, hm⟩
     ·refine VW.condT R h16 <| VW.seq <| VW.drawK 0 mixed <| VA.p 0 R R R (by kernel_rfl) (VP.fieldP R fa51_2) <| VA.p 1 R R R (by kernel_rfl) (VP.loadP (i := 0) R R ld3 R) <| VA.p 2 R R R (by kernel_rfl) (VP.assign R) <| VA.p 3 R R R (by kernel_rfl) (VP.assign R) <| VA.p 4 R R R (by kernel_rfl) (VP.assign R) <| VA.done (by kernel_rfl) ?_
      obtain rfl := Option.some.inj hm
      have hm := Out.ret_on h10
      obtain rfl := Option.some.inj hm
      refine VW.shift (Shift.nilRow 40) ?_
      exact VW.ret ⟨.inl R, _, .cons (.tmp _ _ R) (.cons (.tmp _ _ R) (.cons (.tmp _ _ R) .nil)), [0], _, R, none, 0, R, R⟩
     ·have h16 := bf h16
      refine VW.condF R h16 <| VW.seq <| VW.region <| VR.p R R (VP.move R) <| VR.p R R (VP.arith R R R) <| VR.p R R (VP.assign R) <| VR.nil ?_
      rcases ite_or hm with ⟨h18, hm⟩ | ⟨h18, hm⟩
      ·refine VW.condT R h18 <| VW.seq <| VW.region <| VR.p R R (VP.move R) <| VR.p R R (VP.move R) <| VR.p R R (VP.lenRT (VV.int .i64) R Try.underlying30) <| VR.p R R (VP.arith R R R) ?_
       obtain ⟨open_4, h19, hm⟩ := bnd hm
       refine VR.cons R R (VO.sliceRV 2 (f := (VV.int .i64)) (l := open_2) el30 R R R h19 ?_)
       refine VR.p R R (VP.assign R) <| VR.nil <| VW.exit <| VW.region <| VR.p R R (VP.arith R R R) <| VR.p R R (VP.move R) <| VR.nil ?_
       exact ⟨(l2, open_4, (IntKind.i64.wrap (v2 + (1 : Int)))), (ob5, cap4, ob6, cap5, (some b)), hm, (Shift.pick [1, 1, 1] R ⟨R, R, R, R, R, trivial⟩)⟩
      ·have h18 := bf h18
       refine VW.condF R h18 <| VW.seq <| VW.region <| VR.p R R (VP.move R) <| VR.p R R (VP.lenRT T_api_Node.vv R Try.underlying22) <| VR.p R R (VP.arith R R R) <| VR.p R R (VP.move R) ?_
       refine VR.sc 8 62 (.bool (((l2.length : Int) == (4000 : Int)) || ((x.Kind == (1 : Int)) && ((open_2.length : Int) == (20 : Int))))) (fun K' J => ?_) ?_
       ·rcases Bool.eq_false_or_eq_true ((l2.length : Int) == (4000 : Int)) with h20 | h20
        ·refine VR.skipG R R R R h20 <| VR.skipG R R R R h20 <| VR.skipG R R R R h20 <| VR.skipU R R R R <| VR.skipU R R R R <| VR.skipU R R R R <| VR.skipG R R R R h20 <| VR.p R R (VP.pickB true R h20 R) ?_
         exact J [_, _, _, _, _, _, _] _ R (orT h20)
        ·refine VR.pG R R R R h20 (VP.move R) <| VR.pG R R R R h20 (VP.arith R R R) <| VR.pG R R R R h20 (VP.move R) ?_
         refine VR.sc 4 61 (.bool ((x.Kind == (1 : Int)) && ((open_2.length : Int) == (20 : Int)))) (fun K' J => ?_) ?_
         ·rcases Bool.eq_false_or_eq_true (x.Kind == (1 : Int)) with h21 | h21
          ·refine VR.pG R R R R h21 (VP.move R) <| VR.pG R R R R h21 (VP.lenRT (VV.int .i64) R Try.underlying30) <| VR.pG R R R R h21 (VP.arith R R R) <| VR.pG R R R R h20 (VP.pickB true R h21 R) ?_
           exact J [_, _, _] _ R (andT h21)
          ·refine VR.skipG R R R R h21 <| VR.skipG R R R R h21 <| VR.skipG R R R R h21 <| VR.pG R R R R h20 (VP.pickB false R h21 R) ?_
           exact J [_, _, _] _ R (andF h21)
         ·refine VR.p R R (VP.pickB false R h20 R) ?_
          exact J [_, _, _, _] _ R (orF h20)
       ·refine VR.p R R (VP.assign R) <| VR.nil ?_
        rcases ite_or hm with ⟨h22, hm⟩ | ⟨h22, hm⟩
        ·refine VW.condT R h22 <| VW.seq <| VW.drawK 0 mixed <| VA.p 0 R R R (by kernel_rfl) (VP.fieldP R fa51_2) <| VA.p 1 R R R (by kernel_rfl) (VP.loadP (i := 0) R R ld3 R) <| VA.p 2 R R R (by kernel_rfl) (VP.assign R) <| VA.p 3 R R R (by kernel_rfl) (VP.assign R) <| VA.p 4 R R R (by kernel_rfl) (VP.assign R) <| VA.done (by kernel_rfl) ?_
         obtain rfl := Option.some.inj hm
         have hm := Out.ret_on h10
         obtain rfl := Option.some.inj hm
         refine VW.shift (Shift.nilRow 40) ?_
         exact VW.ret ⟨.inl R, _, .cons (.tmp _ _ R) (.cons (.tmp _ _ R) (.cons (.tmp _ _ R) .nil)), [0], _, R, none, 0, R, R⟩
        ·have h22 := bf h22
         refine VW.condF R h22 <| VW.skip ?_
         obtain ⟨o2, h24, h25⟩ := bnd hm
         refine VW.join (fun (q : List T_api_Node) => q = o2) (fun (l52 : List T_api_Node) (gg : Option Nat × Option Nat) => [(8, .sl gg.1 (List.map T_api_Node.vv l52).length cap4), (9, .sl gg.2 (List.map (VV.int .i64) open_2).length cap5), (11, .ptr b2 0), (12, .int .i64 x.Kind), (24, .sl (some b) (List.map T_api_Token.vv r.1).length cap), (25, .int .i64 (r.1.length : Int)), (26, .int .i64 v2)]) (fun (l52 : List T_api_Node) (gg : Option Nat × Option Nat) => [.box b2 51 (T_api_Token.cells x), .row gg.1 40 cap4 (List.map T_api_Node.vv l52), .row gg.2 3 cap5 (List.map (VV.int .i64) open_2), .row (some b) 51 cap (List.map T_api_Token.vv r.1)]) ?_ ?_
         ·have hm := h24
          refine VW.seq <| VW.region <| VR.p R R (VP.move R) <| VR.p R R (VP.lenRT (VV.int .i64) R Try.underlying30) <| VR.p R R (VP.arith R R R) <| VR.nil ?_
          rcases ite_or hm with ⟨h26, hm⟩ | ⟨h26, hm⟩
          ·refine VW.condT R h26 <| VW.region <| VR.p R R (VP.move R) <| VR.p R R (VP.move R) <| VR.p R R (VP.move R) <| VR.p R R (VP.lenRT (VV.int .i64) R Try.underlying30) <| VR.p R R (VP.arith R R R) ?_
           obtain ⟨x2, h27, hm⟩ := bnd hm
           refine VR.someRow 2 R (gl_pos (VV.int .i64) h27) fun b3 h28 => ?_
           subst h28
           refine VR.p R R (VP.glR (VV.int .i64) R R el30 h27) <| VR.p R R (VP.loadR (i := 2) (y := (VV.int .i64) x2) R R R (gl_map _ (gl_some h27).2) ld3 R) ?_
           obtain ⟨x3, h29, hm⟩ := bnd hm
           refine VR.someRow 1 R (gl_pos T_api_Node.vv h29) fun b4 h30 => ?_
           subst h30
           refine VR.p R R (VP.glR T_api_Node.vv R R el22 h29) <| VR.p R R (VP.fieldR R fa40_2) <| VR.p R R (VP.loadR (i := 1) (y := T_api_Node.vv x3) R R R (gl_map _ (gl_some h29).2) ld3 R) <| VR.p R R (VP.arith R R R) ?_
           obtain ⟨x4, h31, hm⟩ := bnd hm
           refine VR.p R R (VP.glR T_api_Node.vv R R el22 h31) <| VR.p R R (VP.fieldR R fa40_2) ?_
           refine VR.cons R R (VO.storeRT 1 (f := T_api_Node.vv) (l := l2) (q := x4) (q' := (⟨x4.Kind, x4.Text, (IntKind.i64.wrap (x3.Kids + (1 : Int))), x4.At⟩ : T_api_Node)) R R R R h31 ld3 R R R R ⟨R, List.all_eq_true.1 R⟩ ?_)
           refine VR.shift (Shift.reSl 8 (List.map T_api_Node.vv (List.set l2 (x2).toNat (⟨x4.Kind, x4.Text, (IntKind.i64.wrap (x3.Kids + (1 : Int))), x4.At⟩ : T_api_Node))).length R (len_set _ _ _ _)) <| VR.shift (Shift.reSl 51 (List.map T_api_Node.vv (List.set l2 (x2).toNat (⟨x4.Kind, x4.Text, (IntKind.i64.wrap (x3.Kids + (1 : Int))), x4.At⟩ : T_api_Node))).length R (len_set _ _ _ _)) <| VR.shift (Shift.reSl 68 (List.map T_api_Node.vv (List.set l2 (x2).toNat (⟨x4.Kind, x4.Text, (IntKind.i64.wrap (x3.Kids + (1 : Int))), x4.At⟩ : T_api_Node))).length R (len_set _ _ _ _)) <| VR.nil ?_
           exact ⟨(List.set l2 (x2).toNat (⟨x4.Kind, x4.Text, (IntKind.i64.wrap (x3.Kids + (1 : Int))), x4.At⟩ : T_api_Node)), ((some b4), (some b3)), Option.some.inj hm, (Shift.pick [0, 0, 0, 0] R ⟨R, R, R, R, R, R, R, trivial⟩)⟩
          ·have h26 := bf h26
           refine VW.condF R h26 <| VW.skip ?_
           exact ⟨l2, (ob5, ob6), Option.some.inj hm, (Shift.pick [0, 0, 0, 0] R ⟨R, R, R, R, R, R, R, trivial⟩)⟩
         ·rintro l52 ⟨ob10, ob11⟩ rfl
          have hm := h25
          refine VW.seq <| VW.region <| VR.p R R (VP.move R) <| VR.p R R (VP.fieldP R fa51_1) <| VR.p R R (VP.loadP (i := 0) R R ld9 R) <| VR.p R R (VP.fieldP R fa51_2) <| VR.p R R (VP.loadP (i := 0) R R ld3 R) <| VR.p R R (VP.buildP pl40 R R) ?_
          refine VR.cons R R (VO.alloc z40 fun b5 => ?_)
          refine VR.cons R R (VO.storeP (i := 0) R R R ld40 R R R ?_)
          refine VR.nil <| VW.seq <| VW.seq <| VW.region <| VR.p R R (VP.move R) <| VR.p R R (VP.arith R R R) <| VR.nil ?_
          rcases ite_or hm with ⟨h33, hm⟩ | ⟨h33, hm⟩
          ·refine VW.condT R h33 <| VW.seq <| VW.region <| VR.p R R (VP.fieldP R fa40_0) ?_
           refine VR.cons R R (VO.storeP (i := 0) R R R ld3 R R R ?_)
           refine VR.p R R (VP.fieldP R fa40_1) ?_
           refine VR.cons R R (VO.storeP (i := 0) R R R ld9 R R R ?_)
           refine VR.nil <| VW.region <| VR.p R R (VP.move R) <| VR.p R R (VP.move R) <| VR.p R R (VP.lenRT T_api_Node.vv R Try.underlying22) ?_
           refine VR.cons R R (VO.buildSlice ap30 R R R R R fun b6 => ?_)
           obtain ⟨open_5, h35, hm⟩ := bnd hm
           refine VR.cons R R (VO.apT 4 (VV.int .i64) (l := open_2) (l2 := [(l52.length : Int)]) ap30 R R (sT_row 0 (VV.int .i64) el30 R R) h35 fun ob12 cap8 => ?_)
           refine VR.p R R (VP.assign R) <| VR.nil <| VW.region <| VR.p R R (VP.move R) <| VR.p R R (VP.loadP (i := 1) R R ld40 R) ?_
           refine VR.cons R R (VO.buildSlice ap22 R R R R R fun b7 => ?_)
           obtain ⟨l6, h37, hm⟩ := bnd hm
           refine VR.cons R R (VO.apT 4 T_api_Node.vv (l := l52) (l2 := [(⟨(5 : Int), (⟨#[]⟩ : ByteArray), (0 : Int), x.At⟩ : T_api_Node)]) ap22 R R (sT_row 0 T_api_Node.vv el22 R R) h37 fun ob13 cap9 => ?_)
           refine VR.p R R (VP.assign R) <| VR.nil <| VW.region <| VR.p R R (VP.arith R R R) <| VR.p R R (VP.move R) <| VR.nil ?_
           exact ⟨(l6, open_5, (IntKind.i64.wrap (v2 + (1 : Int)))), (ob13, cap9, ob12, cap8, (some b)), hm, (Shift.pick [4, 4, 4] R ⟨R, R, R, R, R, trivial⟩)⟩
          ·have h33 := bf h33
           refine VW.condF R h33 <| VW.skip <| VW.region <| VR.p R R (VP.move R) <| VR.p R R (VP.loadP (i := 0) R R ld40 R) ?_
           refine VR.cons R R (VO.buildSlice ap22 R R R R R fun b8 => ?_)
           obtain ⟨l7, h39, hm⟩ := bnd hm
           refine VR.cons R R (VO.apT 3 T_api_Node.vv (l := l52) (l2 := [(⟨x.Kind, x.Text, (0 : Int), x.At⟩ : T_api_Node)]) ap22 R R (sT_row 0 T_api_Node.vv el22 R R) h39 fun ob14 cap10 => ?_)
           refine VR.p R R (VP.assign R) <| VR.nil <| VW.region <| VR.p R R (VP.arith R R R) <| VR.p R R (VP.move R) <| VR.nil ?_
           exact ⟨(l7, open_2, (IntKind.i64.wrap (v2 + (1 : Int)))), (ob14, cap10, ob11, cap5, (some b)), hm, (Shift.pick [3, 3, 3] R ⟨R, R, R, R, R, trivial⟩)⟩
   ·have h11 := bf h11
    refine VW.condF R h11 <| VW.exit ?_
    exact ⟨(l2, open_2), (ob5, cap4, ob6, cap5), (Option.some.inj hm).symm, (Shift.pick [0, 0] R ⟨R, R, trivial⟩)⟩
  ·rintro j ⟨ob8, cap6, ob9, cap7⟩ rfl
   have hm := Out.go_on h10
   refine VW.seq <| VW.seq <| VW.region <| VR.p R R (VP.move R) <| VR.p R R (VP.lenRT (VV.int .i64) R Try.underlying30) <| VR.p R R (VP.arith R R R) <| VR.nil ?_
   rcases ite_or hm with ⟨h42, hm⟩ | ⟨h42, hm⟩
   ·refine VW.condT R h42 <| VW.seq <| VW.drawK 0 mixed <| VA.p 0 R R R (by kernel_rfl) (VP.move R) <| VA.p 1 R R R (by kernel_rfl) (VP.move R) <| VA.p 2 R R R (by kernel_rfl) (VP.move R) <| VA.p 3 R R R (by kernel_rfl) (VP.lenRT (VV.int .i64) R Try.underlying30) <| VA.p 4 R R R (by kernel_rfl) (VP.arith R R R) ?_
    obtain ⟨x5, h43, hm⟩ := bnd hm
    refine VA.someRow 1 R (gl_pos (VV.int .i64) h43) fun b9 h44 => ?_
    subst h44
    refine VA.p 5 R R R (by kernel_rfl) (VP.glR (VV.int .i64) R R el30 h43) <| VA.p 6 R R R (by kernel_rfl) (VP.loadR (i := 1) (y := (VV.int .i64) x5) R R R (gl_map _ (gl_some h43).2) ld3 R) ?_
    obtain ⟨x6, h45, hm⟩ := bnd hm
    refine VA.someRow 0 R (gl_pos T_api_Node.vv h45) fun b10 h46 => ?_
    subst h46
    refine VA.p 7 R R R (by kernel_rfl) (VP.glR T_api_Node.vv R R el22 h45) <| VA.p 8 R R R (by kernel_rfl) (VP.fieldR R fa40_3) <| VA.p 9 R R R (by kernel_rfl) (VP.loadR (i := 0) (y := T_api_Node.vv x6) R R R (gl_map _ (gl_some h45).2) ld3 R) <| VA.p 10 R R R (by kernel_rfl) (VP.assign R) <| VA.p 11 R R R (by kernel_rfl) (VP.assign R) <| VA.p 12 R R R (by kernel_rfl) (VP.assign R) <| VA.done (by kernel_rfl) ?_
    obtain rfl := Option.some.inj hm
    refine VW.shift (Shift.nilRow 40) ?_
    exact VW.ret ⟨.inl R, _, .cons (.tmp _ _ R) (.cons (.tmp _ _ R) (.cons (.tmp _ _ R) .nil)), [0], _, R, none, 0, R, R⟩
   ·have h42 := bf h42
    refine VW.condF R h42 <| VW.skip <| VW.seq <| VW.region <| VR.p R R (VP.move R) <| VR.p R R (VP.assign R) <| VR.p R R (VP.assign R) <| VR.p R R (VP.assign R) <| VR.nil ?_
    obtain rfl := Option.some.inj hm
    exact VW.ret ⟨.inl R, _, .cons (.tmp _ _ R) (.cons (.tmp _ _ R) (.cons (.tmp _ _ R) .nil)), [0], _, R, ob8, cap6, R, R⟩

/-! trireme/tree.End -/
def tree_End.l1 (l : List T_api_Node) : Nat → Int → Int → Option (Out Int Unit)
 | 0, _, _ => none
 | n + 1, i3, want2 =>
  if (decide (i3 < (l.length : Int))) = true then
   (V.gl l i3).bind fun x =>
   if ((decide (x.Kids < (0 : Int))) || (decide (x.Kids > (l.length : Int)))) = true then
    some (Out.ret (-1 : Int))
   else
    if ((IntKind.i64.wrap (want2 + (IntKind.i64.wrap (x.Kids - (1 : Int))))) == (0 : Int)) = true then
     some (Out.ret (IntKind.i64.wrap (i3 + (1 : Int))))
    else
     tree_End.l1 l n (IntKind.i64.wrap (i3 + (1 : Int))) (IntKind.i64.wrap (want2 + (IntKind.i64.wrap (x.Kids - (1 : Int)))))
  else
   some (Out.go ())
def tree_End (l : List T_api_Node) (i : Int) : Option Int :=
 if (decide (i < (0 : Int))) = true then
  some (-1 : Int)
 else
  (tree_End.l1 l FU i (1 : Int)).bind fun o =>
  o.on fun j =>
  some (-1 : Int)
theorem tree_End_ok (l : List T_api_Node) (i : Int) (r : Int) (hm : tree_End l i = some r) :
  VC Try.prog 13 [.list 40 (List.map T_api_Node.vv l), .int .i64 i] [] (fun zx zH => zx = .int .i64 r ∧ zH = []) := by
 unfold tree_End at hm
 refine VC.run (c := _) (rs := [.tmp 4]) Try.func13 R R R <| VW.seq <| VW.region <| VR.p R R (VP.assign R) <| VR.nil <| VW.seq <| VW.seq <| VW.region <| VR.p R R (VP.move R) <| VR.p R R (VP.arith R R R) <| VR.nil ?_
 rcases ite_or hm with ⟨h1, hm⟩ | ⟨h1, hm⟩
 ·refine VW.condT R h1 <| VW.seq <| VW.region <| VR.p R R (VP.assign R) <| VR.nil ?_
  obtain rfl := Option.some.inj hm
  exact VW.ret ⟨.inl R, _, .cons (.tmp _ _ R) .nil, [], _, R, R, R⟩
 ·have h1 := bf h1
  refine VW.condF R h1 <| VW.skip <| VW.seq <| VW.seq <| VW.region <| VR.p R R (VP.assign R) <| VR.nil ?_
  obtain ⟨o, h2, h3⟩ := bnd hm
  refine VW.joinE (fun (q : Unit) => o = Out.go q) (fun (j : Unit) (gg : Unit) => []) (fun (j : Unit) (gg : Unit) => []) ?_ ?_
  ·have hm := h2
   refine VW.block (VW.loop FU ?_)
   refine VL.fuelS (R := _) (fun zn (zs : Int × Int) => tree_End.l1 l zn zs.1 zs.2) (fun (zs : Int × Int) (zg : Unit) => [(0, .list 40 (List.map T_api_Node.vv l)), (1, .int .i64 zs.1), (5, .int .i64 zs.2)]) (fun (zs : Int × Int) (zg : Unit) => []) (i, (1 : Int)) () (fun zs => R) (Shift.pick [] R ⟨R, R, R, trivial⟩) h2 ?_
   rintro n ⟨i3, want2⟩ _ hm
   rw [tree_End.l1] at hm
   refine VW.seq <| VW.seq <| VW.region <| VR.p R R (VP.move R) <| VR.p R R (VP.move R) <| VR.p R R (VP.lenT T_api_Node.vv R Try.underlying22) <| VR.p R R (VP.arith R R R) <| VR.nil ?_
   rcases ite_or hm with ⟨h4, hm⟩ | ⟨h4, hm⟩
   ·refine VW.condT R h4 <| VW.skip <| VW.seq <| VW.block <| VW.seq <| VW.region <| VR.p R R (VP.move R) <| VR.p R R (VP.move R) ?_
    obtain ⟨x, h5, hm⟩ := bnd hm
    refine VR.p R R (VP.glE T_api_Node.vv R R el22 h5) <| VR.p R R (VP.fieldE R fa40_2) <| VR.p R R (VP.loadE R ld3 R) <| VR.p R R (VP.assign R) <| VR.nil <| VW.seq <| VW.seq <| VW.region <| VR.p R R (VP.move R) <| VR.p R R (VP.arith R R R) <| VR.p R R (VP.move R) ?_
    refine VR.sc 5 27 (.bool ((decide (x.Kids < (0 : Int))) || (decide (x.Kids > (l.length : Int))))) (fun K' J => ?_) ?_
    ·rcases Bool.eq_false_or_eq_true (decide (x.Kids < (0 : Int))) with h6 | h6
     ·refine VR.skipG R R R R h6 <| VR.skipG R R R R h6 <| VR.skipG R R R R h6 <| VR.skipG R R R R h6 <| VR.p R R (VP.pickB true R h6 R) ?_
      exact J [_, _, _, _] _ R (orT h6)
     ·refine VR.pG R R R R h6 (VP.move R) <| VR.pG R R R R h6 (VP.move R) <| VR.pG R R R R h6 (VP.lenT T_api_Node.vv R Try.underlying22) <| VR.pG R R R R h6 (VP.arith R R R) <| VR.p R R (VP.pickB false R h6 R) ?_
      exact J [_, _, _, _] _ R (orF h6)
    ·refine VR.nil ?_
     rcases ite_or hm with ⟨h7, hm⟩ | ⟨h7, hm⟩
     ·refine VW.condT R h7 <| VW.seq <| VW.region <| VR.p R R (VP.assign R) <| VR.nil ?_
      obtain rfl := Option.some.inj hm
      have hm := Out.ret_on h3
      obtain rfl := Option.some.inj hm
      exact VW.ret ⟨.inl R, _, .cons (.tmp _ _ R) .nil, [], _, R, R, R⟩
     ·have h7 := bf h7
      refine VW.condF R h7 <| VW.skip <| VW.seq <| VW.region <| VR.p R R (VP.move R) <| VR.p R R (VP.move R) <| VR.p R R (VP.arith R R R) <| VR.p R R (VP.arith R R R) <| VR.p R R (VP.assign R) <| VR.nil <| VW.seq <| VW.region <| VR.p R R (VP.move R) <| VR.p R R (VP.arith R R R) <| VR.nil ?_
      rcases ite_or hm with ⟨h8, hm⟩ | ⟨h8, hm⟩
      ·refine VW.condT R h8 <| VW.seq <| VW.region <| VR.p R R (VP.move R) <| VR.p R R (VP.arith R R R) <| VR.p R R (VP.assign R) <| VR.nil ?_
       obtain rfl := Option.some.inj hm
       have hm := Out.ret_on h3
       obtain rfl := Option.some.inj hm
       exact VW.ret ⟨.inl R, _, .cons (.tmp _ _ R) .nil, [], _, R, R, R⟩
      ·have h8 := bf h8
       refine VW.condF R h8 <| VW.skip <| VW.region <| VR.p R R (VP.move R) <| VR.p R R (VP.arith R R R) <| VR.p R R (VP.assign R) <| VR.nil ?_
       exact ⟨((IntKind.i64.wrap (i3 + (1 : Int))), (IntKind.i64.wrap (want2 + (IntKind.i64.wrap (x.Kids - (1 : Int)))))), (), hm, (Shift.pick [] R ⟨R, R, R, trivial⟩)⟩
   ·have h4 := bf h4
    refine VW.condF R h4 <| VW.exit ?_
    exact ⟨(), (), (Option.some.inj hm).symm, (Shift.pick [] R trivial)⟩
  ·rintro j _ rfl
   have hm := Out.go_on h3
   refine VW.seq <| VW.region <| VR.p R R (VP.assign R) <| VR.nil ?_
   obtain rfl := Option.some.inj hm
   exact VW.ret ⟨.inl R, _, .cons (.tmp _ _ R) .nil, [], _, R, R, R⟩

/-! trireme/tree.places$1 -/
def tree_places_1 (i : Int) (a : List Int) : Option (List Int) :=
 (V.ap 8 a [i]).bind fun l =>
 some l
theorem tree_places_1_ok (i : Int) (a : List Int) (b : Nat) (ob : Option Nat) (cap : Nat) (r : List Int) (hm : tree_places_1 i a = some r) :
  VC Try.prog 38 [.int .i64 i, .ptr b 0] [.box b 30 [.sl ob (List.map (VV.int .i64) a).length cap], .row ob 3 cap (List.map (VV.int .i64) a)] (fun zx zH => ∃ (ob0_0 : Option Nat) (cap0_0 : Nat), zx = .tup [] ∧ zH = [.box b 30 [.sl ob0_0 (List.map (VV.int .i64) r).length cap0_0], .row ob0_0 3 cap0_0 (List.map (VV.int .i64) r)]) := by
 unfold tree_places_1 at hm
 refine VC.run (c := _) (rs := []) Try.func38 R R R <| VW.region <| VR.p R R (VP.loadP (i := 0) R R ld30 R) <| VR.p R R (VP.move R) ?_
 refine VR.cons R R (VO.buildSlice ap30 R R R R R fun b2 => ?_)
 obtain ⟨l, h2, hm⟩ := bnd hm
 refine VR.cons R R (VO.apT 2 (VV.int .i64) (l := a) (l2 := [i]) ap30 R R (sT_row 0 (VV.int .i64) el30 R R) h2 fun ob2 cap2 => ?_)
 refine VR.cons R R (VO.storeP (i := 1) R R R ld30 R R R ?_)
 refine VR.nil ?_
 obtain rfl := Option.some.inj hm
 exact ⟨.inr R, _, .nil, [1, 1], _, R, ob2, cap2, R, R⟩

/-! trireme/tree.walk -/
def tree_walk_tree_places_1.l1 (l : List T_api_Node) (to : Int) : Nat → Int → (List Int) → Option (Out (Bool × List Int) (List Int))
 | 0, _, _ => none
 | n + 1, from_3, do_2 =>
  if (decide (from_3 < to)) = true then
   (tree_End l from_3).bind fun r =>
   if (decide (r < (0 : Int))) = true then
    some (Out.ret (false, do_2))
   else
    (tree_places_1 from_3 do_2).bind fun r2 =>
    tree_walk_tree_places_1.l1 l to n r r2
  else
   some (Out.go do_2)
def tree_walk_tree_places_1 (l : List T_api_Node) (from_ : Int) (to : Int) (c : List Int) : Option (Bool × List Int) :=
 (tree_walk_tree_places_1.l1 l to FU from_ c).bind fun o =>
 o.on fun l22 =>
 some (true, l22)
theorem tree_walk_tree_places_1_ok (l : List T_api_Node) (from_ : Int) (to : Int) (c : List Int) (b : Nat) (ob : Option Nat) (cap : Nat) (r : Bool × List Int) (hm : tree_walk_tree_places_1 l from_ to c = some r) :
  VC Try.prog 22 [.list 40 (List.map T_api_Node.vv l), .int .i64 from_, .int .i64 to, .clo (.func 38) [] [.ptr b 0]] [.box b 30 [.sl ob (List.map (VV.int .i64) c).length cap], .row ob 3 cap (List.map (VV.int .i64) c)] (fun zx zH => ∃ (ob0_0 : Option Nat) (cap0_0 : Nat), zx = .bool r.1 ∧ zH = [.box b 30 [.sl ob0_0 (List.map (VV.int .i64) r.2).length cap0_0], .row ob0_0 3 cap0_0 (List.map (VV.int .i64) r.2)]) := by
 unfold tree_walk_tree_places_1 at hm
 refine VC.run (c := _) (rs := [.tmp 8]) Try.func22 R R R <| VW.seq <| VW.region <| VR.p R R (VP.assign R) <| VR.nil ?_
 obtain ⟨o, h1, h2⟩ := bnd hm
 refine VW.join (fun (q : List Int) => o = Out.go q) (fun (l22 : List Int) (gg : Option Nat × Nat) => []) (fun (l22 : List Int) (gg : Option Nat × Nat) => [.box b 30 [.sl gg.1 (List.map (VV.int .i64) l22).length gg.2], .row gg.1 3 gg.2 (List.map (VV.int .i64) l22)]) ?_ ?_
 ·have hm := h1
  refine VW.block (VW.loop FU ?_)
  refine VL.fuelS (R := _) (fun zn (zs : Int × List Int) => tree_walk_tree_places_1.l1 l to zn zs.1 zs.2) (fun (zs : Int × List Int) (zg : Option Nat × Nat) => [(0, .list 40 (List.map T_api_Node.vv l)), (1, .int .i64 zs.1), (2, .int .i64 to), (3, .clo (.func 38) [] [.ptr b 0])]) (fun (zs : Int × List Int) (zg : Option Nat × Nat) => [.box b 30 [.sl zg.1 (List.map (VV.int .i64) zs.2).length zg.2], .row zg.1 3 zg.2 (List.map (VV.int .i64) zs.2)]) (from_, c) (ob, cap) (fun zs => R) (Shift.pick [0, 0] R ⟨R, R, R, R, trivial⟩) h1 ?_
  rintro n ⟨from_3, do_2⟩ ⟨ob3, cap3⟩ hm
  rw [tree_walk_tree_places_1.l1] at hm
  refine VW.seq <| VW.seq <| VW.region <| VR.p R R (VP.move R) <| VR.p R R (VP.move R) <| VR.p R R (VP.arith R R R) <| VR.nil ?_
  rcases ite_or hm with ⟨h3, hm⟩ | ⟨h3, hm⟩
  ·refine VW.condT R h3 <| VW.skip <| VW.block <| VW.seq <| VW.region <| VR.p R R (VP.move R) <| VR.p R R (VP.move R) ?_
   obtain ⟨r, h4, hm⟩ := bnd hm
   refine VR.cons R R (VO.callK 0 R fn13 R (tree_End_ok l from_3 r h4) fun _ _ h8 => ?_)
   obtain ⟨rfl, rfl⟩ := h8
   refine VR.p R R (VP.assign R) <| VR.nil <| VW.seq <| VW.seq <| VW.region <| VR.p R R (VP.move R) <| VR.p R R (VP.arith R R R) <| VR.nil ?_
   rcases ite_or hm with ⟨h5, hm⟩ | ⟨h5, hm⟩
   ·refine VW.condT R h5 <| VW.seq <| VW.region <| VR.p R R (VP.assign R) <| VR.nil ?_
    obtain rfl := Option.some.inj hm
    have hm := Out.ret_on h2
    obtain rfl := Option.some.inj hm
    exact VW.ret ⟨.inl R, _, .cons (.tmp _ _ R) .nil, [0, 0], _, R, ob3, cap3, R, R⟩
   ·have h5 := bf h5
    refine VW.condF R h5 <| VW.skip <| VW.seq <| VW.region <| VR.p R R (VP.move R) <| VR.p R R (VP.move R) ?_
    obtain ⟨r2, h6, hm⟩ := bnd hm
    refine VR.cons R R (VO.callK 2 R fn38 R (tree_places_1_ok from_3 do_2 b ob3 cap3 r2 h6) fun _ _ h7 => ?_)
    obtain ⟨ob5, cap5, rfl, rfl⟩ := h7
    refine VR.nil <| VW.region <| VR.p R R (VP.move R) <| VR.p R R (VP.assign R) <| VR.nil ?_
    exact ⟨(r, r2), (ob5, cap5), hm, (Shift.pick [0, 0] R ⟨R, R, R, R, trivial⟩)⟩
  ·have h3 := bf h3
   refine VW.condF R h3 <| VW.exit ?_
   exact ⟨do_2, (ob3, cap3), (Option.some.inj hm).symm, (Shift.pick [0, 0] R trivial)⟩
 ·rintro l22 ⟨ob4, cap4⟩ rfl
  have hm := Out.go_on h2
  refine VW.seq <| VW.region <| VR.p R R (VP.assign R) <| VR.nil ?_
  obtain rfl := Option.some.inj hm
  exact VW.ret ⟨.inl R, _, .cons (.tmp _ _ R) .nil, [0, 0], _, R, ob4, cap4, R, R⟩

/-! trireme/tree.places -/
def tree_places (l : List T_api_Node) (from_ : Int) (to : Int) : Option (List Int) :=
 (tree_walk_tree_places_1 l from_ to ([] : List Int)).bind fun r =>
 if (!r.1) = true then
  some ([] : List Int)
 else
  some r.2
theorem tree_places_ok (l : List T_api_Node) (from_ : Int) (to : Int) (r : List Int) (hm : tree_places l from_ to = some r) :
  VC Try.prog 31 [.list 40 (List.map T_api_Node.vv l), .int .i64 from_, .int .i64 to] [] (fun zx zH => ∃ (ob0 : Option Nat) (cap0 : Nat), zx = .sl ob0 (List.map (VV.int .i64) r).length cap0 ∧ zH = [.row ob0 3 cap0 (List.map (VV.int .i64) r)]) := by
 unfold tree_places at hm
 refine VC.run (c := _) (rs := [.tmp 6]) Try.func31 R R R <| VW.seq <| VW.region <| VR.p R R (VP.assign R) <| VR.nil <| VW.seq <| VW.region ?_
 refine VR.cons R R (VO.alloc z30 fun b => ?_)
 refine VR.nil <| VW.seq <| VW.seq <| VW.region <| VR.p R R (VP.move R) <| VR.p R R (VP.move R) <| VR.p R R (VP.move R) <| VR.p R R (VP.makeFunc R R) <| VR.shift (Shift.nilRow 3) ?_
 obtain ⟨r, h3, hm⟩ := bnd hm
 refine VR.shift (Shift.mem [1, 0] R) ?_
 refine VR.cons R R (VO.callK 2 R fn22 R (tree_walk_tree_places_1_ok l from_ to ([] : List Int) b none 0 r h3) fun _ _ h6 => ?_)
 obtain ⟨ob, cap, rfl, rfl⟩ := h6
 refine VR.p R R (VP.not R) <| VR.nil ?_
 rcases ite_or hm with ⟨h4, hm⟩ | ⟨h4, hm⟩
 ·refine VW.condT R h4 <| VW.seq <| VW.region <| VR.p R R (VP.assign R) <| VR.nil ?_
  obtain rfl := Option.some.inj hm
  refine VW.shift (Shift.nilRow 3) ?_
  exact VW.ret ⟨.inl R, _, .cons (.tmp _ _ R) .nil, [0], _, R, none, 0, R, R⟩
 ·have h4 := bf h4
  refine VW.condF R h4 <| VW.skip <| VW.seq <| VW.region <| VR.p R R (VP.loadP (i := 0) R R ld30 R) <| VR.p R R (VP.assign R) <| VR.nil ?_
  obtain rfl := Option.some.inj hm
  exact VW.ret ⟨.inl R, _, .cons (.tmp _ _ R) .nil, [1], _, R, ob, cap, R, R⟩

/-! trireme/tree.Kids -/
def tree_Kids (l : List T_api_Node) (i : Int) : Option (List Int) :=
 (tree_End l i).bind fun r =>
 if (decide (r < (0 : Int))) = true then
  some ([] : List Int)
 else
  (tree_places l (IntKind.i64.wrap (i + (1 : Int))) r).bind fun r2 =>
  some r2
theorem tree_Kids_ok (l : List T_api_Node) (i : Int) (r : List Int) (hm : tree_Kids l i = some r) :
  VC Try.prog 16 [.list 40 (List.map T_api_Node.vv l), .int .i64 i] [] (fun zx zH => zx = .list 3 (List.map (VV.int .i64) r) ∧ zH = []) := by
 unfold tree_Kids at hm
 refine VC.run (c := _) (rs := [.tmp 4]) Try.func16 R R R <| VW.seq <| VW.region <| VR.p R R (VP.assign R) <| VR.nil <| VW.seq <| VW.region <| VR.p R R (VP.move R) <| VR.p R R (VP.move R) ?_
 obtain ⟨r, h1, hm⟩ := bnd hm
 refine VR.cons R R (VO.callK 0 R fn13 R (tree_End_ok l i r h1) fun _ _ h6 => ?_)
 obtain ⟨rfl, rfl⟩ := h6
 refine VR.p R R (VP.assign R) <| VR.nil <| VW.seq <| VW.seq <| VW.region <| VR.p R R (VP.move R) <| VR.p R R (VP.arith R R R) <| VR.nil ?_
 rcases ite_or hm with ⟨h2, hm⟩ | ⟨h2, hm⟩
 ·refine VW.condT R h2 <| VW.seq <| VW.region <| VR.p R R (VP.assign R) <| VR.nil ?_
  obtain rfl := Option.some.inj hm
  refine VW.shift (Shift.nilList 4 3 R) ?_
  exact VW.ret ⟨.inl R, _, .cons (.tmp _ _ R) .nil, [], _, R, R, R⟩
 ·have h2 := bf h2
  refine VW.condF R h2 <| VW.skip <| VW.seq <| VW.region <| VR.p R R (VP.move R) <| VR.p R R (VP.move R) <| VR.p R R (VP.arith R R R) <| VR.p R R (VP.move R) ?_
  obtain ⟨r2, h3, hm⟩ := bnd hm
  refine VR.cons R R (VO.callK 0 R fn31 R (tree_places_ok l (IntKind.i64.wrap (i + (1 : Int))) r r2 h3) fun _ _ h5 => ?_)
  obtain ⟨ob, cap, rfl, rfl⟩ := h5
  refine VR.shift (Shift.freezeE 0 [(15, .list 3 (List.map (VV.int .i64) r2))] R ⟨⟨_, R, .here _ R⟩, trivial⟩ (FzH.refl _)) <| VR.p R R (VP.assign R) <| VR.nil ?_
  obtain rfl := Option.some.inj hm
  exact VW.ret ⟨.inl R, _, .cons (.tmp _ _ R) .nil, [], _, R, R, R⟩

/-! trireme/triremeref02.Ints -/
def ref02_Ints.l1 (a : List Int) (b : List Int) : Nat → Int → Option (Out Bool Unit)
 | 0, _ => none
 | n + 1, i2 =>
  if (decide (i2 < (a.length : Int))) = true then
   (V.gl a i2).bind fun x =>
   (V.gl b i2).bind fun x2 =>
   if (x != x2) = true then
    some (Out.ret false)
   else
    ref02_Ints.l1 a b n (IntKind.i64.wrap (i2 + (1 : Int)))
  else
   some (Out.go ())
def ref02_Ints (a : List Int) (b : List Int) : Option Bool :=
 if ((a.length : Int) != (b.length : Int)) = true then
  some false
 else
  (ref02_Ints.l1 a b FU (0 : Int)).bind fun o =>
  o.on fun j =>
  some true
theorem ref02_Ints_ok (a : List Int) (b : List Int) (r : Bool) (hm : ref02_Ints a b = some r) :
  VC Try.prog 15 [.list 3 (List.map (VV.int .i64) a), .list 3 (List.map (VV.int .i64) b)] [] (fun zx zH => zx = .bool r ∧ zH = []) := by
 unfold ref02_Ints at hm
 refine VC.run (c := _) (rs := [.tmp 4]) Try.func15 R R R <| VW.seq <| VW.region <| VR.p R R (VP.assign R) <| VR.nil <| VW.seq <| VW.seq <| VW.region <| VR.p R R (VP.move R) <| VR.p R R (VP.lenT (VV.int .i64) R Try.underlying30) <| VR.p R R (VP.move R) <| VR.p R R (VP.lenT (VV.int .i64) R Try.underlying30) <| VR.p R R (VP.arith R R R) <| VR.nil ?_
 rcases ite_or hm with ⟨h1, hm⟩ | ⟨h1, hm⟩
 ·refine VW.condT R h1 <| VW.seq <| VW.region <| VR.p R R (VP.assign R) <| VR.nil ?_
  obtain rfl := Option.some.inj hm
  exact VW.ret ⟨.inl R, _, .cons (.tmp _ _ R) .nil, [], _, R, R, R⟩
 ·have h1 := bf h1
  refine VW.condF R h1 <| VW.skip <| VW.seq <| VW.seq <| VW.region <| VR.p R R (VP.assign R) <| VR.nil ?_
  obtain ⟨o, h2, h3⟩ := bnd hm
  refine VW.joinE (fun (q : Unit) => o = Out.go q) (fun (j : Unit) (gg : Unit) => []) (fun (j : Unit) (gg : Unit) => []) ?_ ?_
  ·have hm := h2
   refine VW.block (VW.loop FU ?_)
   refine VL.fuelS (R := _) (fun zn (zs : Int) => ref02_Ints.l1 a b zn zs) (fun (zs : Int) (zg : Unit) => [(0, .list 3 (List.map (VV.int .i64) a)), (1, .list 3 (List.map (VV.int .i64) b)), (5, .int .i64 zs)]) (fun (zs : Int) (zg : Unit) => []) (0 : Int) () (fun zs => R) (Shift.pick [] R ⟨R, R, R, trivial⟩) h2 ?_
   rintro n i2 _ hm
   rw [ref02_Ints.l1] at hm
   refine VW.seq <| VW.seq <| VW.region <| VR.p R R (VP.move R) <| VR.p R R (VP.move R) <| VR.p R R (VP.lenT (VV.int .i64) R Try.underlying30) <| VR.p R R (VP.arith R R R) <| VR.nil ?_
   rcases ite_or hm with ⟨h4, hm⟩ | ⟨h4, hm⟩
   ·refine VW.condT R h4 <| VW.skip <| VW.seq <| VW.block <| VW.seq <| VW.drawK 0 mixed <| VA.p 0 R R R (by kernel_rfl) (VP.move R) <| VA.p 1 R R R (by kernel_rfl) (VP.move R) ?_
    obtain ⟨x, h5, hm⟩ := bnd hm
    refine VA.p 2 R R R (by kernel_rfl) (VP.glE (VV.int .i64) R R el30 h5) <| VA.p 3 R R R (by kernel_rfl) (VP.loadE R ld3 R) <| VA.p 4 R R R (by kernel_rfl) (VP.move R) <| VA.p 5 R R R (by kernel_rfl) (VP.move R) ?_
    obtain ⟨x2, h6, hm⟩ := bnd hm
    refine VA.p 6 R R R (by kernel_rfl) (VP.glE (VV.int .i64) R R el30 h6) <| VA.p 7 R R R (by kernel_rfl) (VP.loadE R ld3 R) <| VA.p 8 R R R (by kernel_rfl) (VP.arith R R R) <| VA.done (by kernel_rfl) ?_
    rcases ite_or hm with ⟨h7, hm⟩ | ⟨h7, hm⟩
    ·refine VW.condT R h7 <| VW.seq <| VW.region <| VR.p R R (VP.assign R) <| VR.nil ?_
     obtain rfl := Option.some.inj hm
     have hm := Out.ret_on h3
     obtain rfl := Option.some.inj hm
     exact VW.ret ⟨.inl R, _, .cons (.tmp _ _ R) .nil, [], _, R, R, R⟩
    ·have h7 := bf h7
     refine VW.condF R h7 <| VW.skip <| VW.region <| VR.p R R (VP.move R) <| VR.p R R (VP.arith R R R) <| VR.p R R (VP.assign R) <| VR.nil ?_
     exact ⟨(IntKind.i64.wrap (i2 + (1 : Int))), (), hm, (Shift.pick [] R ⟨R, R, R, trivial⟩)⟩
   ·have h4 := bf h4
    refine VW.condF R h4 <| VW.exit ?_
    exact ⟨(), (), (Option.some.inj hm).symm, (Shift.pick [] R trivial)⟩
  ·rintro j _ rfl
   have hm := Out.go_on h3
   refine VW.seq <| VW.region <| VR.p R R (VP.assign R) <| VR.nil ?_
   obtain rfl := Option.some.inj hm
   exact VW.ret ⟨.inl R, _, .cons (.tmp _ _ R) .nil, [], _, R, R, R⟩

/-! trireme/tree.Tops -/
def tree_Tops (l : List T_api_Node) : Option (List Int) :=
 (tree_places l (0 : Int) (l.length : Int)).bind fun r =>
 some r
theorem tree_Tops_ok (l : List T_api_Node) (r : List Int) (hm : tree_Tops l = some r) :
  VC Try.prog 18 [.list 40 (List.map T_api_Node.vv l)] [] (fun zx zH => zx = .list 3 (List.map (VV.int .i64) r) ∧ zH = []) := by
 unfold tree_Tops at hm
 refine VC.run (c := _) (rs := [.tmp 2]) Try.func18 R R R <| VW.seq <| VW.region <| VR.p R R (VP.assign R) <| VR.nil <| VW.seq <| VW.region <| VR.p R R (VP.move R) <| VR.p R R (VP.move R) <| VR.p R R (VP.lenT T_api_Node.vv R Try.underlying22) ?_
 obtain ⟨r, h1, hm⟩ := bnd hm
 refine VR.cons R R (VO.callK 0 R fn31 R (tree_places_ok l (0 : Int) (l.length : Int) r h1) fun _ _ h3 => ?_)
 obtain ⟨ob, cap, rfl, rfl⟩ := h3
 refine VR.shift (Shift.freezeE 0 [(6, .list 3 (List.map (VV.int .i64) r))] R ⟨⟨_, R, .here _ R⟩, trivial⟩ (FzH.refl _)) <| VR.p R R (VP.assign R) <| VR.nil ?_
 obtain rfl := Option.some.inj hm
 exact VW.ret ⟨.inl R, _, .cons (.tmp _ _ R) .nil, [], _, R, R, R⟩

/-! trireme/tree.Check$1 -/
def tree_Check_1 (a : Int) : Option Unit :=
 some ()
theorem tree_Check_1_ok (a : Int) (r : Unit) (hm : tree_Check_1 a = some r) :
  VC Try.prog 23 [.int .i64 a] [] (fun zx zH => zx = .tup [] ∧ zH = []) := by
 unfold tree_Check_1 at hm
 refine VC.run (c := _) (rs := []) Try.func23 R R R <| VW.skip ?_
 obtain rfl := Option.some.inj hm
 exact ⟨.inr R, _, .nil, [], _, R, R, R⟩

/-! trireme/tree.walk -/
def tree_walk_tree_Check_1.l1 (l : List T_api_Node) (to : Int) : Nat → Int → Option (Out Bool Unit)
 | 0, _ => none
 | n + 1, from_3 =>
  if (decide (from_3 < to)) = true then
   (tree_End l from_3).bind fun r =>
   if (decide (r < (0 : Int))) = true then
    some (Out.ret false)
   else
    (tree_Check_1 from_3).bind fun r2 =>
    tree_walk_tree_Check_1.l1 l to n r
  else
   some (Out.go ())
def tree_walk_tree_Check_1 (l : List T_api_Node) (from_ : Int) (to : Int) : Option Bool :=
 (tree_walk_tree_Check_1.l1 l to FU from_).bind fun o =>
 o.on fun j =>
 some true
theorem tree_walk_tree_Check_1_ok (l : List T_api_Node) (from_ : Int) (to : Int) (r : Bool) (hm : tree_walk_tree_Check_1 l from_ to = some r) :
  VC Try.prog 22 [.list 40 (List.map T_api_Node.vv l), .int .i64 from_, .int .i64 to, .clo (.func 23) [] []] [] (fun zx zH => zx = .bool r ∧ zH = []) := by
 unfold tree_walk_tree_Check_1 at hm
 refine VC.run (c := _) (rs := [.tmp 8]) Try.func22 R R R <| VW.seq <| VW.region <| VR.p R R (VP.assign R) <| VR.nil ?_
 obtain ⟨o, h1, h2⟩ := bnd hm
 refine VW.join (fun (q : Unit) => o = Out.go q) (fun (j : Unit) (gg : Unit) => []) (fun (j : Unit) (gg : Unit) => []) ?_ ?_
 ·have hm := h1
  refine VW.block (VW.loop FU ?_)
  refine VL.fuelS (R := _) (fun zn (zs : Int) => tree_walk_tree_Check_1.l1 l to zn zs) (fun (zs : Int) (zg : Unit) => [(0, .list 40 (List.map T_api_Node.vv l)), (1, .int .i64 zs), (2, .int .i64 to), (3, .clo (.func 23) [] [])]) (fun (zs : Int) (zg : Unit) => []) from_ () (fun zs => R) (Shift.pick [] R ⟨R, R, R, R, trivial⟩) h1 ?_
  rintro n from_3 _ hm
  rw [tree_walk_tree_Check_1.l1] at hm
  refine VW.seq <| VW.seq <| VW.region <| VR.p R R (VP.move R) <| VR.p R R (VP.move R) <| VR.p R R (VP.arith R R R) <| VR.nil ?_
  rcases ite_or hm with ⟨h3, hm⟩ | ⟨h3, hm⟩
  ·refine VW.condT R h3 <| VW.skip <| VW.block <| VW.seq <| VW.region <| VR.p R R (VP.move R) <| VR.p R R (VP.move R) ?_
   obtain ⟨r, h4, hm⟩ := bnd hm
   refine VR.cons R R (VO.callK 0 R fn13 R (tree_End_ok l from_3 r h4) fun _ _ h8 => ?_)
   obtain ⟨rfl, rfl⟩ := h8
   refine VR.p R R (VP.assign R) <| VR.nil <| VW.seq <| VW.seq <| VW.region <| VR.p R R (VP.move R) <| VR.p R R (VP.arith R R R) <| VR.nil ?_
   rcases ite_or hm with ⟨h5, hm⟩ | ⟨h5, hm⟩
   ·refine VW.condT R h5 <| VW.seq <| VW.region <| VR.p R R (VP.assign R) <| VR.nil ?_
    obtain rfl := Option.some.inj hm
    have hm := Out.ret_on h2
    obtain rfl := Option.some.inj hm
    exact VW.ret ⟨.inl R, _, .cons (.tmp _ _ R) .nil, [], _, R, R, R⟩
   ·have h5 := bf h5
    refine VW.condF R h5 <| VW.skip <| VW.seq <| VW.region <| VR.p R R (VP.move R) <| VR.p R R (VP.move R) ?_
    obtain ⟨r2, h6, hm⟩ := bnd hm
    refine VR.cons R R (VO.callK 0 R fn23 R (tree_Check_1_ok from_3 r2 h6) fun _ _ h7 => ?_)
    obtain ⟨rfl, rfl⟩ := h7
    refine VR.nil <| VW.region <| VR.p R R (VP.move R) <| VR.p R R (VP.assign R) <| VR.nil ?_
    exact ⟨r, (), hm, (Shift.pick [] R ⟨R, R, R, R, trivial⟩)⟩
  ·have h3 := bf h3
   refine VW.condF R h3 <| VW.exit ?_
   exact ⟨(), (), (Option.some.inj hm).symm, (Shift.pick [] R trivial)⟩
 ·rintro j _ rfl
  have hm := Out.go_on h2
  refine VW.seq <| VW.region <| VR.p R R (VP.assign R) <| VR.nil ?_
  obtain rfl := Option.some.inj hm
  exact VW.ret ⟨.inl R, _, .cons (.tmp _ _ R) .nil, [], _, R, R, R⟩

/-! trireme/lex.Word -/
def lex_Word (s : ByteArray) : Option Bool :=
 (lex_head_lex_plain s).bind fun r =>
 (if ((r.2 && (r.1 == (s.size : Int))) && (decide (r.1 > (0 : Int)))) = true then (lex_Runes s).bind fun r2 =>
 some (decide (r2 ≤ (64 : Int))) else some false).bind fun c =>
 some c
theorem lex_Word_ok (s : ByteArray) (r : Bool) (hm : lex_Word s = some r) :
  VC Try.prog 33 [.str s] [] (fun zx zH => zx = .bool r ∧ zH = []) := by
 unfold lex_Word at hm
 refine VC.run (c := _) (rs := [.tmp 2]) Try.func33 R R R <| VW.seq <| VW.region <| VR.p R R (VP.assign R) <| VR.nil <| VW.seq <| VW.region <| VR.p R R (VP.move R) ?_
 obtain ⟨r, h1, hm⟩ := bnd hm
 refine VR.cons R R (VO.callK 0 R fn40 R (lex_head_lex_plain_ok s r h1) fun _ _ h8 => ?_)
 obtain ⟨rfl, rfl⟩ := h8
 refine VR.p R R (VP.move R) <| VR.p R R (VP.extract R R) <| VR.p R R (VP.extract R R) <| VR.p R R (VP.assign R) <| VR.p R R (VP.assign R) <| VR.nil <| VW.seq <| VW.region <| VR.p R R (VP.move R) <| VR.p R R (VP.move R) ?_
 refine VR.sc 5 16 (.bool (r.2 && (r.1 == (s.size : Int)))) (fun K' J => ?_) ?_
 ·rcases Bool.eq_false_or_eq_true r.2 with h2 | h2
  ·refine VR.pG R R R R h2 (VP.move R) <| VR.pG R R R R h2 (VP.move R) <| VR.pG R R R R h2 (VP.lenS R Try.underlying9) <| VR.pG R R R R h2 (VP.arith R R R) <| VR.p R R (VP.pickB true R h2 R) ?_
   exact J [_, _, _, _] _ R (andT h2)
  ·refine VR.skipG R R R R h2 <| VR.skipG R R R R h2 <| VR.skipG R R R R h2 <| VR.skipG R R R R h2 <| VR.p R R (VP.pickB false R h2 R) ?_
   exact J [_, _, _, _] _ R (andF h2)
 ·refine VR.p R R (VP.move R) ?_
  refine VR.sc 3 20 (.bool ((r.2 && (r.1 == (s.size : Int))) && (decide (r.1 > (0 : Int))))) (fun K' J => ?_) ?_
  ·rcases Bool.eq_false_or_eq_true (r.2 && (r.1 == (s.size : Int))) with h3 | h3
   ·refine VR.pG R R R R h3 (VP.move R) <| VR.pG R R R R h3 (VP.arith R R R) <| VR.p R R (VP.pickB true R h3 R) ?_
    exact J [_, _] _ R (andT h3)
   ·refine VR.skipG R R R R h3 <| VR.skipG R R R R h3 <| VR.p R R (VP.pickB false R h3 R) ?_
    exact J [_, _] _ R (andF h3)
  ·refine VR.p R R (VP.move R) ?_
   obtain ⟨c, h7, hm⟩ := bnd hm
   refine VR.sc 4 25 (.bool c) (fun K' J => ?_) ?_
   ·have hm := h7
    rcases ite_or hm with ⟨h4, hm⟩ | ⟨h4, hm⟩
    ·refine VR.pG R R R R h4 (VP.move R) ?_
     obtain ⟨r2, h5, hm⟩ := bnd hm
     refine VR.consG R R R R h4 (VO.callK 0 R fn42 R (lex_Runes_ok s r2 h5) fun _ _ h6 => ?_)
     obtain ⟨rfl, rfl⟩ := h6
     refine VR.pG R R R R h4 (VP.arith R R R) <| VR.p R R (VP.pickB true R h4 R) ?_
     exact J [_, _, _] _ R (congrArg VV.bool (Option.some.inj hm))
    ·have h4 := bf h4
     refine VR.skipG R R R R h4 <| VR.skipG R R R R h4 <| VR.skipG R R R R h4 <| VR.p R R (VP.pickB false R h4 R) ?_
     exact J [_, _, _] _ R (congrArg VV.bool (Option.some.inj hm))
   ·refine VR.p R R (VP.assign R) <| VR.nil ?_
    obtain rfl := Option.some.inj hm
    exact VW.ret ⟨.inl R, _, .cons (.tmp _ _ R) .nil, [], _, R, R, R⟩

/-! trireme/lex.Quote -/
def lex_Quote.l1 (s : ByteArray) : Nat → (List Int) → Int → Option (List Int)
 | 0, _, _ => none
 | n + 1, b3, v2 =>
  if (decide (v2 < (s.size : Int))) = true then
   (V.gi s v2).bind fun v3 =>
   if (v3 == (10 : Int)) = true then
    (V.ap 1 b3 [(92 : Int), (110 : Int)]).bind fun b6 =>
    lex_Quote.l1 s n b6 (IntKind.i64.wrap (v2 + (1 : Int)))
   else
    if (v3 == (34 : Int)) = true then
     (V.ap 1 b3 [(92 : Int), v3]).bind fun b8 =>
     lex_Quote.l1 s n b8 (IntKind.i64.wrap (v2 + (1 : Int)))
    else
     if (v3 == (92 : Int)) = true then
      (V.ap 1 b3 [(92 : Int), v3]).bind fun b10 =>
      lex_Quote.l1 s n b10 (IntKind.i64.wrap (v2 + (1 : Int)))
     else
      (V.ap 1 b3 [v3]).bind fun b12 =>
      lex_Quote.l1 s n b12 (IntKind.i64.wrap (v2 + (1 : Int)))
  else
   some b3
def lex_Quote (s : ByteArray) : Option ByteArray :=
 (lex_Quote.l1 s FU [(34 : Int)] (0 : Int)).bind fun b42 =>
 (V.ap 1 b42 [(34 : Int)]).bind fun b14 =>
 some (strOfNums b14)
theorem lex_Quote_ok (s : ByteArray) (r : ByteArray) (hm : lex_Quote s = some r) :
  VC Try.prog 34 [.str s] [] (fun zx zH => zx = .str r ∧ zH = []) := by
 unfold lex_Quote at hm
 refine VC.run (c := _) (rs := [.tmp 2]) Try.func34 R R R <| VW.seq <| VW.region <| VR.p R R (VP.assign R) <| VR.nil <| VW.seq <| VW.region ?_
 refine VR.cons R R (VO.buildSlice ap64 R R R R R fun b => ?_)
 refine VR.p R R (VP.assign R) <| VR.nil <| VW.seq <| VW.seq <| VW.region <| VR.p R R (VP.move R) <| VR.p R R (VP.lenS R Try.underlying9) <| VR.p R R (VP.move R) <| VR.nil ?_
 obtain ⟨o, h2, h3⟩ := bnd hm
 refine VW.joinE (fun (q : List Int) => q = o) (fun (b42 : List Int) (gg : Option Nat × Nat) => [(3, .sl gg.1 (List.map (VV.int .u8) b42).length gg.2)]) (fun (b42 : List Int) (gg : Option Nat × Nat) => [.row gg.1 5 gg.2 (List.map (VV.int .u8) b42)]) ?_ ?_
 ·have hm := h2
  refine VW.block (VW.loop FU ?_)
  refine VL.fuelS (R := _) (fun zn (zs : List Int × Int) => lex_Quote.l1 s zn zs.1 zs.2) (fun (zs : List Int × Int) (zg : Option Nat × Nat) => [(0, .str s), (3, .sl zg.1 (List.map (VV.int .u8) zs.1).length zg.2), (8, .int .i64 (s.size : Int)), (9, .int .i64 zs.2)]) (fun (zs : List Int × Int) (zg : Option Nat × Nat) => [.row zg.1 5 zg.2 (List.map (VV.int .u8) zs.1)]) ([(34 : Int)], (0 : Int)) ((some b), 1) (fun zs => R) (Shift.pick [0] R ⟨R, R, R, R, trivial⟩) h2 ?_
  rintro n ⟨b3, v2⟩ ⟨ob2, cap2⟩ hm
  rw [lex_Quote.l1] at hm
  refine VW.seq <| VW.region <| VR.p R R (VP.arith R R R) <| VR.nil <| VW.seq ?_
  rcases ite_or hm with ⟨h4, hm⟩ | ⟨h4, hm⟩
  ·refine VW.condT R h4 <| VW.skip <| VW.seq <| VW.block <| VW.seq <| VW.region <| VR.p R R (VP.move R) <| VR.p R R (VP.assign R) <| VR.nil <| VW.seq <| VW.region <| VR.p R R (VP.move R) <| VR.p R R (VP.move R) ?_
   obtain ⟨v3, h5, hm⟩ := bnd hm
   refine VR.p R R (VP.gi R R Try.underlying9 h5) <| VR.p R R (VP.assign R) <| VR.nil <| VW.seq <| VW.region <| VR.p R R (VP.move R) <| VR.nil <| VW.block <| VW.seq <| VW.region <| VR.p R R (VP.arith R R R) <| VR.p R R (VP.assign R) <| VR.nil ?_
   rcases ite_or hm with ⟨h6, hm⟩ | ⟨h6, hm⟩
   ·refine VW.condT R h6 <| VW.region <| VR.p R R (VP.move R) ?_
    refine VR.cons R R (VO.buildSlice ap64 R R R R R fun b5 => ?_)
    obtain ⟨b6, h8, hm⟩ := bnd hm
    refine VR.cons R R (VO.apT 1 (VV.int .u8) (l := b3) (l2 := [(92 : Int), (110 : Int)]) ap64 R R (sT_row 0 (VV.int .u8) el64 R R) h8 fun ob4 cap4 => ?_)
    refine VR.p R R (VP.assign R) <| VR.nil <| VW.region <| VR.p R R (VP.arith R R R) <| VR.p R R (VP.move R) <| VR.nil ?_
    exact ⟨(b6, (IntKind.i64.wrap (v2 + (1 : Int)))), (ob4, cap4), hm, (Shift.pick [1] R ⟨R, R, R, R, trivial⟩)⟩
   ·have h6 := bf h6
    refine VW.condF R h6 <| VW.seq <| VW.seq <| VW.region <| VR.p R R (VP.arith R R R) <| VR.p R R (VP.assign R) <| VR.nil ?_
    rcases ite_or hm with ⟨h9, hm⟩ | ⟨h9, hm⟩
    ·refine VW.condT R h9 <| VW.skip <| VW.condT R h9 <| VW.region <| VR.p R R (VP.move R) <| VR.p R R (VP.move R) ?_
     refine VR.cons R R (VO.buildSlice ap64 R R R R R fun b7 => ?_)
     obtain ⟨b8, h11, hm⟩ := bnd hm
     refine VR.cons R R (VO.apT 1 (VV.int .u8) (l := b3) (l2 := [(92 : Int), v3]) ap64 R R (sT_row 0 (VV.int .u8) el64 R R) h11 fun ob5 cap5 => ?_)
     refine VR.p R R (VP.assign R) <| VR.nil <| VW.region <| VR.p R R (VP.arith R R R) <| VR.p R R (VP.move R) <| VR.nil ?_
     exact ⟨(b8, (IntKind.i64.wrap (v2 + (1 : Int)))), (ob5, cap5), hm, (Shift.pick [1] R ⟨R, R, R, R, trivial⟩)⟩
    ·have h9 := bf h9
     refine VW.condF R h9 <| VW.region <| VR.p R R (VP.arith R R R) <| VR.p R R (VP.assign R) <| VR.nil ?_
     rcases ite_or hm with ⟨h12, hm⟩ | ⟨h12, hm⟩
     ·refine VW.condT R h12 <| VW.region <| VR.p R R (VP.move R) <| VR.p R R (VP.move R) ?_
      refine VR.cons R R (VO.buildSlice ap64 R R R R R fun b9 => ?_)
      obtain ⟨b10, h14, hm⟩ := bnd hm
      refine VR.cons R R (VO.apT 1 (VV.int .u8) (l := b3) (l2 := [(92 : Int), v3]) ap64 R R (sT_row 0 (VV.int .u8) el64 R R) h14 fun ob6 cap6 => ?_)
      refine VR.p R R (VP.assign R) <| VR.nil <| VW.region <| VR.p R R (VP.arith R R R) <| VR.p R R (VP.move R) <| VR.nil ?_
      exact ⟨(b10, (IntKind.i64.wrap (v2 + (1 : Int)))), (ob6, cap6), hm, (Shift.pick [1] R ⟨R, R, R, R, trivial⟩)⟩
     ·have h12 := bf h12
      refine VW.condF R h12 <| VW.region <| VR.p R R (VP.move R) <| VR.p R R (VP.move R) ?_
      refine VR.cons R R (VO.buildSlice ap64 R R R R R fun b11 => ?_)
      obtain ⟨b12, h16, hm⟩ := bnd hm
      refine VR.cons R R (VO.apT 1 (VV.int .u8) (l := b3) (l2 := [v3]) ap64 R R (sT_row 0 (VV.int .u8) el64 R R) h16 fun ob7 cap7 => ?_)
      refine VR.p R R (VP.assign R) <| VR.nil <| VW.region <| VR.p R R (VP.arith R R R) <| VR.p R R (VP.move R) <| VR.nil ?_
      exact ⟨(b12, (IntKind.i64.wrap (v2 + (1 : Int)))), (ob7, cap7), hm, (Shift.pick [1] R ⟨R, R, R, R, trivial⟩)⟩
  ·have h4 := bf h4
   refine VW.condF R h4 <| VW.exit ?_
   exact ⟨b3, (ob2, cap2), Option.some.inj hm, (Shift.pick [0] R ⟨R, trivial⟩)⟩
 ·rintro b42 ⟨ob3, cap3⟩ rfl
  have hm := h3
  refine VW.seq <| VW.region <| VR.p R R (VP.move R) ?_
  refine VR.cons R R (VO.buildSlice ap64 R R R R R fun b13 => ?_)
  obtain ⟨b14, h18, hm⟩ := bnd hm
  refine VR.cons R R (VO.apT 1 (VV.int .u8) (l := b42) (l2 := [(34 : Int)]) ap64 R R (sT_row 0 (VV.int .u8) el64 R R) h18 fun ob8 cap8 => ?_)
  refine VR.p R R (VP.convB (i := 1) (l := b14) el64 Try.underlying5 Try.underlying9 R R) <| VR.p R R (VP.assign R) <| VR.nil ?_
  obtain rfl := Option.some.inj hm
  exact VW.ret ⟨.inl R, _, .cons (.tmp _ _ R) .nil, [], _, R, R, R⟩

/-! trireme/tree.fits -/
def tree_fits (x : T_api_Node) : Option Bool :=
 if (decide (x.At < (0 : Int))) = true then
  some false
 else
  if (x.Kind == (5 : Int)) = true then
   some (V.seq x.Text (⟨#[]⟩ : ByteArray))
  else
   if (x.Kind == (3 : Int)) = true then
    (if (x.Kids == (0 : Int)) = true then (lex_Word x.Text).bind fun r =>
    some r else some false).bind fun c =>
    some c
   else
    if (x.Kind == (4 : Int)) = true then
     (lex_Quote x.Text).bind fun r2 =>
     (lex_Scan r2).bind fun r3 =>
     some ((x.Kids == (0 : Int)) && (r3.2.1 == (0 : Int)))
    else
     some false
theorem tree_fits_ok (x : T_api_Node) (r : Bool) (hm : tree_fits x = some r) :
  VC Try.prog 24 [T_api_Node.vv x] [] (fun zx zH => zx = .bool r ∧ zH = []) := by
 unfold tree_fits at hm
 refine VC.run (c := _) (rs := [.tmp 2]) Try.func24 R R R <| VW.seq <| VW.region ?_
 refine VR.cons R R (VO.box R R fun b => ?_)
 refine VR.p R R (VP.assign R) <| VR.nil <| VW.seq <| VW.seq <| VW.region <| VR.p R R (VP.fieldP R fa40_3) <| VR.p R R (VP.loadP (i := 0) R R ld3 R) <| VR.p R R (VP.arith R R R) <| VR.nil ?_
 rcases ite_or hm with ⟨h2, hm⟩ | ⟨h2, hm⟩
 ·refine VW.condT R h2 <| VW.seq <| VW.region <| VR.p R R (VP.assign R) <| VR.nil ?_
  obtain rfl := Option.some.inj hm
  exact VW.ret ⟨.inl R, _, .cons (.tmp _ _ R) .nil, [], _, R, R, R⟩
 ·have h2 := bf h2
  refine VW.condF R h2 <| VW.skip <| VW.seq <| VW.seq <| VW.region <| VR.p R R (VP.fieldP R fa40_0) <| VR.p R R (VP.loadP (i := 0) R R ld3 R) <| VR.nil <| VW.block <| VW.seq <| VW.region <| VR.p R R (VP.arith R R R) <| VR.p R R (VP.assign R) <| VR.nil ?_
  rcases ite_or hm with ⟨h3, hm⟩ | ⟨h3, hm⟩
  ·refine VW.condT R h3 <| VW.seq <| VW.region <| VR.p R R (VP.fieldP R fa40_1) <| VR.p R R (VP.loadP (i := 0) R R ld9 R) <| VR.p R R (VP.strop R R R) <| VR.p R R (VP.assign R) <| VR.nil ?_
   obtain rfl := Option.some.inj hm
   exact VW.ret ⟨.inl R, _, .cons (.tmp _ _ R) .nil, [], _, R, R, R⟩
  ·have h3 := bf h3
   refine VW.condF R h3 <| VW.seq <| VW.region <| VR.p R R (VP.arith R R R) <| VR.p R R (VP.assign R) <| VR.nil ?_
   rcases ite_or hm with ⟨h4, hm⟩ | ⟨h4, hm⟩
   ·refine VW.condT R h4 <| VW.seq <| VW.region <| VR.p R R (VP.fieldP R fa40_2) <| VR.p R R (VP.loadP (i := 0) R R ld3 R) <| VR.p R R (VP.arith R R R) <| VR.p R R (VP.move R) ?_
    obtain ⟨c, h8, hm⟩ := bnd hm
    refine VR.sc 4 25 (.bool c) (fun K' J => ?_) ?_
    ·have hm := h8
     rcases ite_or hm with ⟨h5, hm⟩ | ⟨h5, hm⟩
     ·refine VR.pG R R R R h5 (VP.fieldP R fa40_1) <| VR.pG R R R R h5 (VP.loadP (i := 0) R R ld9 R) ?_
      obtain ⟨r, h6, hm⟩ := bnd hm
      refine VR.consG R R R R h5 (VO.callK 0 R fn33 R (lex_Word_ok x.Text r h6) fun _ _ h7 => ?_)
      obtain ⟨rfl, rfl⟩ := h7
      refine VR.p R R (VP.pickB true R h5 R) ?_
      exact J [_, _, _] _ R (congrArg VV.bool (Option.some.inj hm))
     ·have h5 := bf h5
      refine VR.skipG R R R R h5 <| VR.skipG R R R R h5 <| VR.skipG R R R R h5 <| VR.p R R (VP.pickB false R h5 R) ?_
      exact J [_, _, _] _ R (congrArg VV.bool (Option.some.inj hm))
    ·refine VR.p R R (VP.assign R) <| VR.nil ?_
     obtain rfl := Option.some.inj hm
     exact VW.ret ⟨.inl R, _, .cons (.tmp _ _ R) .nil, [], _, R, R, R⟩
   ·have h4 := bf h4
    refine VW.condF R h4 <| VW.seq <| VW.region <| VR.p R R (VP.arith R R R) <| VR.p R R (VP.assign R) <| VR.nil ?_
    rcases ite_or hm with ⟨h9, hm⟩ | ⟨h9, hm⟩
    ·refine VW.condT R h9 <| VW.seq <| VW.region <| VR.p R R (VP.fieldP R fa40_1) <| VR.p R R (VP.loadP (i := 0) R R ld9 R) ?_
     obtain ⟨r2, h10, hm⟩ := bnd hm
     refine VR.cons R R (VO.callK 0 R fn34 R (lex_Quote_ok x.Text r2 h10) fun _ _ h15 => ?_)
     obtain ⟨rfl, rfl⟩ := h15
     obtain ⟨r3, h11, hm⟩ := bnd hm
     refine VR.cons R R (VO.callK 0 R fn32 R (lex_Scan_ok r2 r3 h11) fun _ _ h14 => ?_)
     obtain ⟨ob, cap, rfl, rfl⟩ := h14
     refine VR.p R R (VP.move R) <| VR.p R R (VP.extract R R) <| VR.p R R (VP.extract R R) <| VR.p R R (VP.extract R R) <| VR.p R R (VP.assign R) <| VR.p R R (VP.assign R) <| VR.p R R (VP.assign R) <| VR.nil <| VW.seq <| VW.region <| VR.p R R (VP.fieldP R fa40_2) <| VR.p R R (VP.loadP (i := 1) R R ld3 R) <| VR.p R R (VP.arith R R R) <| VR.p R R (VP.move R) ?_
     refine VR.sc 3 42 (.bool ((x.Kids == (0 : Int)) && (r3.2.1 == (0 : Int)))) (fun K' J => ?_) ?_
     ·rcases Bool.eq_false_or_eq_true (x.Kids == (0 : Int)) with h13 | h13
      ·refine VR.pG R R R R h13 (VP.move R) <| VR.pG R R R R h13 (VP.arith R R R) <| VR.p R R (VP.pickB true R h13 R) ?_
       exact J [_, _] _ R (andT h13)
      ·refine VR.skipG R R R R h13 <| VR.skipG R R R R h13 <| VR.p R R (VP.pickB false R h13 R) ?_
       exact J [_, _] _ R (andF h13)
     ·refine VR.p R R (VP.assign R) <| VR.nil ?_
      obtain rfl := Option.some.inj hm
      exact VW.ret ⟨.inl R, _, .cons (.tmp _ _ R) .nil, [], _, R, R, R⟩
    ·have h9 := bf h9
     refine VW.condF R h9 <| VW.skip <| VW.seq <| VW.region <| VR.p R R (VP.assign R) <| VR.nil ?_
     obtain rfl := Option.some.inj hm
     exact VW.ret ⟨.inl R, _, .cons (.tmp _ _ R) .nil, [], _, R, R, R⟩

/-! trireme/tree.lists -/
def tree_lists.l2 : Nat → (List Int) → Option (List Int)
 | 0, _ => none
 | n2 + 1, open_6 =>
  (if (decide ((open_6.length : Int) > (0 : Int))) = true then (V.gl open_6 (IntKind.i64.wrap ((open_6.length : Int) - (1 : Int)))).bind fun x4 =>
  some (x4 == (1 : Int)) else some false).bind fun c =>
  if c = true then
   (V.sl open_6 none (some (IntKind.i64.wrap ((open_6.length : Int) - (1 : Int))))).bind fun open_8 =>
   if (decide ((open_8.length : Int) > (0 : Int))) = true then
    (V.gl open_8 (IntKind.i64.wrap ((open_8.length : Int) - (1 : Int)))).bind fun x5 =>
    (V.gl open_8 (IntKind.i64.wrap ((open_8.length : Int) - (1 : Int)))).bind fun x6 =>
    tree_lists.l2 n2 (List.set open_8 ((IntKind.i64.wrap ((open_8.length : Int) - (1 : Int)))).toNat (IntKind.i64.wrap (x5 - (1 : Int))))
   else
    tree_lists.l2 n2 open_8
  else
   some open_6
def tree_lists.l1 : List T_api_Node → Nat → (List Int) → Int → Option Int
 | [], k, open_2, most2 => some most2
 | x :: l2, k, open_2, most2 =>
  (if (x.Kind == (5 : Int)) = true then
   (V.ap 8 open_2 [(IntKind.i64.wrap (x.Kids + (1 : Int)))]).bind fun open_4 =>
   some (open_4, (max most2 (open_4.length : Int)))
  else
   if (decide ((open_2.length : Int) > (0 : Int))) = true then
    (V.gl open_2 (IntKind.i64.wrap ((open_2.length : Int) - (1 : Int)))).bind fun x2 =>
    (V.gl open_2 (IntKind.i64.wrap ((open_2.length : Int) - (1 : Int)))).bind fun x3 =>
    some ((List.set open_2 ((IntKind.i64.wrap ((open_2.length : Int) - (1 : Int)))).toNat (IntKind.i64.wrap (x2 - (1 : Int)))), most2)
   else
    some (open_2, most2)).bind fun j =>
  (tree_lists.l2 FU j.1).bind fun open_72 =>
  tree_lists.l1 l2 (k + 1) open_72 j.2
def tree_lists (l : List T_api_Node) : Option Int :=
 (tree_lists.l1 l 0 ([] : List Int) (0 : Int)).bind fun most32 =>
 some most32
theorem tree_lists_ok (l : List T_api_Node) (r : Int) (hm : tree_lists l = some r) :
  VC Try.prog 25 [.list 40 (List.map T_api_Node.vv l)] [] (fun zx zH => zx = .int .i64 r ∧ zH = []) := by
 unfold tree_lists at hm
 refine VC.run (c := _) (rs := [.tmp 2]) Try.func25 R R R <| VW.seq <| VW.region <| VR.p R R (VP.assign R) <| VR.nil <| VW.seq <| VW.region <| VR.p R R (VP.assign R) <| VR.nil <| VW.seq <| VW.region <| VR.p R R (VP.assign R) <| VR.nil <| VW.seq <| VW.seq <| VW.region <| VR.p R R (VP.move R) <| VR.p R R (VP.lenT T_api_Node.vv R Try.underlying22) <| VR.p R R (VP.move R) <| VR.nil <| VW.lenL 7 R fun h5 => ?_
 have h5 := max_map h5
 obtain ⟨o, h3, h4⟩ := bnd hm
 refine VW.joinE (fun (q : Int) => q = o) (fun (most32 : Int) (gg : Unit) => [(4, .int .i64 most32)]) (fun (most32 : Int) (gg : Unit) => []) ?_ ?_
 ·have hm := h3
  refine VW.block (VW.loop (l.length + 1) ?_)
  refine VL.eachS (l := l) (R := _) (fun zl zk (zs : List Int × Int) => tree_lists.l1 zl zk zs.1 zs.2) (fun (k : Nat) (zs : List Int × Int) (zg : Option Nat × Nat) => [(3, .sl zg.1 (List.map (VV.int .i64) zs.1).length zg.2), (4, .int .i64 zs.2), (7, .list 40 (List.map T_api_Node.vv l)), (8, .int .i64 (l.length : Int)), (9, .int .i64 (k : Int))]) (fun (k : Nat) (zs : List Int × Int) (zg : Option Nat × Nat) => [.row zg.1 3 zg.2 (List.map (VV.int .i64) zs.1)]) (([] : List Int), (0 : Int)) (none, 0) (Shift.trans (Shift.nilRow 3) (Shift.pick [0] R ⟨R, R, R, R, R, trivial⟩)) h3 ?_ ?_
  ·rintro k ⟨open_2, most2⟩ ⟨ob2, cap2⟩ hk hm
   rw [tree_lists.l1] at hm
   refine VW.seq <| VW.region <| VR.p R R (VP.arith R R R) <| VR.nil <| VW.seq <| VW.condF R (k_end hk) <| VW.exit ?_
   exact ⟨most2, (), Option.some.inj hm, (Shift.pick [] R ⟨R, trivial⟩)⟩
  ·rintro k x l2 ⟨open_2, most2⟩ ⟨ob2, cap2⟩ h6 hm
   rw [tree_lists.l1] at hm
   refine VW.seq <| VW.region <| VR.p R R (VP.arith R R R) <| VR.nil <| VW.seq <| VW.condT R (k_lt h6) <| VW.skip <| VW.seq <| VW.block <| VW.seq <| VW.region <| VR.p R R (VP.glK T_api_Node.vv R R el22 h6) <| VR.p R R (VP.loadE R ld40 R) ?_
   refine VR.cons R R (VO.alloc z40 fun b => ?_)
   refine VR.cons R R (VO.storeP (i := 0) R R R ld40 R R R ?_)
   refine VR.nil ?_
   obtain ⟨o2, h8, h9⟩ := bnd hm
   refine VW.join (fun (q : List Int × Int) => q = o2) (fun (j : List Int × Int) (gg : Option Nat × Nat) => [(3, .sl gg.1 (List.map (VV.int .i64) j.1).length gg.2), (4, .int .i64 j.2), (7, .list 40 (List.map T_api_Node.vv l)), (8, .int .i64 (l.length : Int)), (9, .int .i64 (k : Int))]) (fun (j : List Int × Int) (gg : Option Nat × Nat) => [.row gg.1 3 gg.2 (List.map (VV.int .i64) j.1)]) ?_ ?_
   ·have hm := h8
    refine VW.seq <| VW.region <| VR.p R R (VP.fieldP R fa40_0) <| VR.p R R (VP.loadP (i := 0) R R ld3 R) <| VR.p R R (VP.arith R R R) <| VR.nil ?_
    rcases ite_or hm with ⟨h10, hm⟩ | ⟨h10, hm⟩
    ·refine VW.condT R h10 <| VW.seq <| VW.region <| VR.p R R (VP.move R) <| VR.p R R (VP.fieldP R fa40_2) <| VR.p R R (VP.loadP (i := 0) R R ld3 R) <| VR.p R R (VP.arith R R R) ?_
     refine VR.cons R R (VO.buildSlice ap30 R R R R R fun b2 => ?_)
     obtain ⟨open_4, h12, hm⟩ := bnd hm
     refine VR.cons R R (VO.apT 2 (VV.int .i64) (l := open_2) (l2 := [(IntKind.i64.wrap (x.Kids + (1 : Int)))]) ap30 R R (sT_row 0 (VV.int .i64) el30 R R) h12 fun ob4 cap4 => ?_)
     refine VR.p R R (VP.assign R) <| VR.nil <| VW.region <| VR.p R R (VP.move R) <| VR.p R R (VP.move R) <| VR.p R R (VP.lenRT (VV.int .i64) R Try.underlying30) <| VR.p R R (VP.max2 R R) <| VR.p R R (VP.assign R) <| VR.nil ?_
     exact ⟨(open_4, (max most2 (open_4.length : Int))), (ob4, cap4), Option.some.inj hm, (Shift.pick [2] R ⟨R, R, R, R, R, trivial⟩)⟩
    ·have h10 := bf h10
     refine VW.condF R h10 <| VW.seq <| VW.region <| VR.p R R (VP.move R) <| VR.p R R (VP.lenRT (VV.int .i64) R Try.underlying30) <| VR.p R R (VP.arith R R R) <| VR.nil ?_
     rcases ite_or hm with ⟨h13, hm⟩ | ⟨h13, hm⟩
     ·refine VW.condT R h13 <| VW.region <| VR.p R R (VP.move R) <| VR.p R R (VP.move R) <| VR.p R R (VP.lenRT (VV.int .i64) R Try.underlying30) <| VR.p R R (VP.arith R R R) ?_
      obtain ⟨x2, h14, hm⟩ := bnd hm
      refine VR.someRow 1 R (gl_pos (VV.int .i64) h14) fun b3 h15 => ?_
      subst h15
      refine VR.p R R (VP.glR (VV.int .i64) R R el30 h14) <| VR.p R R (VP.loadR (i := 1) (y := (VV.int .i64) x2) R R R (gl_map _ (gl_some h14).2) ld3 R) <| VR.p R R (VP.arith R R R) ?_
      obtain ⟨x3, h16, hm⟩ := bnd hm
      refine VR.p R R (VP.glR (VV.int .i64) R R el30 h16) ?_
      refine VR.cons R R (VO.storeRT 1 (f := (VV.int .i64)) (l := open_2) (q := x3) (q' := (IntKind.i64.wrap (x2 - (1 : Int)))) R R R R h16 ld3 R R R R ⟨R, List.all_eq_true.1 R⟩ ?_)
      refine VR.shift (Shift.reSl 3 (List.map (VV.int .i64) (List.set open_2 ((IntKind.i64.wrap ((open_2.length : Int) - (1 : Int)))).toNat (IntKind.i64.wrap (x2 - (1 : Int))))).length R (len_set _ _ _ _)) <| VR.shift (Shift.reSl 26 (List.map (VV.int .i64) (List.set open_2 ((IntKind.i64.wrap ((open_2.length : Int) - (1 : Int)))).toNat (IntKind.i64.wrap (x2 - (1 : Int))))).length R (len_set _ _ _ _)) <| VR.shift (Shift.reSl 29 (List.map (VV.int .i64) (List.set open_2 ((IntKind.i64.wrap ((open_2.length : Int) - (1 : Int)))).toNat (IntKind.i64.wrap (x2 - (1 : Int))))).length R (len_set _ _ _ _)) <| VR.shift (Shift.reSl 30 (List.map (VV.int .i64) (List.set open_2 ((IntKind.i64.wrap ((open_2.length : Int) - (1 : Int)))).toNat (IntKind.i64.wrap (x2 - (1 : Int))))).length R (len_set _ _ _ _)) <| VR.nil ?_
      exact ⟨((List.set open_2 ((IntKind.i64.wrap ((open_2.length : Int) - (1 : Int)))).toNat (IntKind.i64.wrap (x2 - (1 : Int)))), most2), ((some b3), cap2), Option.some.inj hm, (Shift.pick [1] R ⟨R, R, R, R, R, trivial⟩)⟩
     ·have h13 := bf h13
      refine VW.condF R h13 <| VW.skip ?_
      exact ⟨(open_2, most2), (ob2, cap2), Option.some.inj hm, (Shift.pick [1] R ⟨R, R, R, R, R, trivial⟩)⟩
   ·rintro j ⟨ob3, cap3⟩ rfl
    have hm := h9
    obtain ⟨o3, h17, h18⟩ := bnd hm
    refine VW.joinE (fun (q : List Int) => q = o3) (fun (open_72 : List Int) (gg : Option Nat) => [(3, .sl gg (List.map (VV.int .i64) open_72).length cap3), (4, .int .i64 j.2), (7, .list 40 (List.map T_api_Node.vv l)), (8, .int .i64 (l.length : Int)), (9, .int .i64 (k : Int))]) (fun (open_72 : List Int) (gg : Option Nat) => [.row gg 3 cap3 (List.map (VV.int .i64) open_72)]) ?_ ?_
    ·have hm := h17
     refine VW.block (VW.loop FU ?_)
     refine VL.fuelS (R := _) (fun zn (zs : List Int) => tree_lists.l2 zn zs) (fun (zs : List Int) (zg : Option Nat) => [(3, .sl zg (List.map (VV.int .i64) zs).length cap3), (4, .int .i64 j.2), (7, .list 40 (List.map T_api_Node.vv l)), (8, .int .i64 (l.length : Int)), (9, .int .i64 (k : Int))]) (fun (zs : List Int) (zg : Option Nat) => [.row zg 3 cap3 (List.map (VV.int .i64) zs)]) j.1 ob3 (fun zs => R) (Shift.pick [0] R ⟨R, R, R, R, R, trivial⟩) h17 ?_
     rintro n2 open_6 ob6 hm
     rw [tree_lists.l2] at hm
     refine VW.seq <| VW.seq <| VW.region <| VR.p R R (VP.move R) <| VR.p R R (VP.lenRT (VV.int .i64) R Try.underlying30) <| VR.p R R (VP.arith R R R) <| VR.p R R (VP.move R) ?_
     obtain ⟨c, h22, hm⟩ := bnd hm
     refine VR.sc 8 48 (.bool c) (fun K' J => ?_) ?_
     ·have hm := h22
      rcases ite_or hm with ⟨h19, hm⟩ | ⟨h19, hm⟩
      ·refine VR.pG R R R R h19 (VP.move R) <| VR.pG R R R R h19 (VP.move R) <| VR.pG R R R R h19 (VP.lenRT (VV.int .i64) R Try.underlying30) <| VR.pG R R R R h19 (VP.arith R R R) ?_
       obtain ⟨x4, h20, hm⟩ := bnd hm
       refine VR.someRow 0 R (gl_pos (VV.int .i64) h20) fun b4 h21 => ?_
       subst h21
       refine VR.pG R R R R h19 (VP.glR (VV.int .i64) R R el30 h20) <| VR.pG R R R R h19 (VP.loadR (i := 0) (y := (VV.int .i64) x4) R R R (gl_map _ (gl_some h20).2) ld3 R) <| VR.pG R R R R h19 (VP.arith R R R) <| VR.p R R (VP.pickB true R h19 R) ?_
       exact J [_, _, _, _, _, _, _] _ R (congrArg VV.bool (Option.some.inj hm))
      ·have h19 := bf h19
       refine VR.skipG R R R R h19 <| VR.skipG R R R R h19 <| VR.skipG R R R R h19 <| VR.skipG R R R R h19 <| VR.skipG R R R R h19 <| VR.skipG R R R R h19 <| VR.skipG R R R R h19 <| VR.p R R (VP.pickB false R h19 R) ?_
       exact J [_, _, _, _, _, _, _] _ R (congrArg VV.bool (Option.some.inj hm))
     ·refine VR.nil ?_
      rcases ite_or hm with ⟨h23, hm⟩ | ⟨h23, hm⟩
      ·refine VW.condT R h23 <| VW.skip <| VW.block <| VW.seq <| VW.region <| VR.p R R (VP.move R) <| VR.p R R (VP.move R) <| VR.p R R (VP.lenRT (VV.int .i64) R Try.underlying30) <| VR.p R R (VP.arith R R R) ?_
       obtain ⟨open_8, h24, hm⟩ := bnd hm
       refine VR.cons R R (VO.sliceRV 0 (f := (VV.int .i64)) (l := open_6) el30 R R R h24 ?_)
       refine VR.p R R (VP.assign R) <| VR.nil <| VW.seq <| VW.region <| VR.p R R (VP.move R) <| VR.p R R (VP.lenRT (VV.int .i64) R Try.underlying30) <| VR.p R R (VP.arith R R R) <| VR.nil ?_
       rcases ite_or hm with ⟨h25, hm⟩ | ⟨h25, hm⟩
       ·refine VW.condT R h25 <| VW.region <| VR.p R R (VP.move R) <| VR.p R R (VP.move R) <| VR.p R R (VP.lenRT (VV.int .i64) R Try.underlying30) <| VR.p R R (VP.arith R R R) ?_
        obtain ⟨x5, h26, hm⟩ := bnd hm
        refine VR.someRow 0 R (gl_pos (VV.int .i64) h26) fun b5 h27 => ?_
        subst h27
        refine VR.p R R (VP.glR (VV.int .i64) R R el30 h26) <| VR.p R R (VP.loadR (i := 0) (y := (VV.int .i64) x5) R R R (gl_map _ (gl_some h26).2) ld3 R) <| VR.p R R (VP.arith R R R) ?_
        obtain ⟨x6, h28, hm⟩ := bnd hm
        refine VR.p R R (VP.glR (VV.int .i64) R R el30 h28) ?_
        refine VR.cons R R (VO.storeRT 0 (f := (VV.int .i64)) (l := open_8) (q := x6) (q' := (IntKind.i64.wrap (x5 - (1 : Int)))) R R R R h28 ld3 R R R R ⟨R, List.all_eq_true.1 R⟩ ?_)
        refine VR.shift (Shift.reSl 53 (List.map (VV.int .i64) (List.set open_8 ((IntKind.i64.wrap ((open_8.length : Int) - (1 : Int)))).toNat (IntKind.i64.wrap (x5 - (1 : Int))))).length R (len_set _ _ _ _)) <| VR.shift (Shift.reSl 3 (List.map (VV.int .i64) (List.set open_8 ((IntKind.i64.wrap ((open_8.length : Int) - (1 : Int)))).toNat (IntKind.i64.wrap (x5 - (1 : Int))))).length R (len_set _ _ _ _)) <| VR.shift (Shift.reSl 54 (List.map (VV.int .i64) (List.set open_8 ((IntKind.i64.wrap ((open_8.length : Int) - (1 : Int)))).toNat (IntKind.i64.wrap (x5 - (1 : Int))))).length R (len_set _ _ _ _)) <| VR.shift (Shift.reSl 57 (List.map (VV.int .i64) (List.set open_8 ((IntKind.i64.wrap ((open_8.length : Int) - (1 : Int)))).toNat (IntKind.i64.wrap (x5 - (1 : Int))))).length R (len_set _ _ _ _)) <| VR.shift (Shift.reSl 58 (List.map (VV.int .i64) (List.set open_8 ((IntKind.i64.wrap ((open_8.length : Int) - (1 : Int)))).toNat (IntKind.i64.wrap (x5 - (1 : Int))))).length R (len_set _ _ _ _)) <| VR.nil ?_
        exact ⟨(List.set open_8 ((IntKind.i64.wrap ((open_8.length : Int) - (1 : Int)))).toNat (IntKind.i64.wrap (x5 - (1 : Int)))), (some b5), hm, (Shift.pick [0] R ⟨R, R, R, R, R, trivial⟩)⟩
       ·have h25 := bf h25
        refine VW.condF R h25 <| VW.skip ?_
        exact ⟨open_8, ob6, hm, (Shift.pick [0] R ⟨R, R, R, R, R, trivial⟩)⟩
      ·have h23 := bf h23
       refine VW.condF R h23 <| VW.exit ?_
       exact ⟨open_6, ob6, Option.some.inj hm, (Shift.pick [0] R ⟨R, R, R, R, R, trivial⟩)⟩
    ·rintro open_72 ob7 rfl
     have hm := h18
     refine VW.region <| VR.p R R (VP.arith R R R) <| VR.p R R (VP.move R) <| VR.nil ?_
     exact ⟨(open_72, j.2), (ob7, cap3), hm, (Shift.pick [0] R ⟨R, R, R, R, congrArg some (k_next h6 h5), trivial⟩)⟩
 ·rintro most32 _ rfl
  have hm := h4
  refine VW.seq <| VW.region <| VR.p R R (VP.move R) <| VR.p R R (VP.assign R) <| VR.nil ?_
  obtain rfl := Option.some.inj hm
  exact VW.ret ⟨.inl R, _, .cons (.tmp _ _ R) .nil, [], _, R, R, R⟩

/-! trireme/tree.Check -/
def tree_Check.l1 : List T_api_Node → Nat → Option (Out Int Unit)
 | [], k => some (Out.go ())
 | x :: l2, k =>
  (tree_fits x).bind fun r2 =>
  if (!r2) = true then
   some (Out.ret (12 : Int))
  else
   tree_Check.l1 l2 (k + 1)
def tree_Check (l : List T_api_Node) : Option Int :=
 (if (decide ((l.length : Int) > (4000 : Int))) = true then some true else (tree_walk_tree_Check_1 l (0 : Int) (l.length : Int)).bind fun r =>
 some (!r)).bind fun c =>
 if c = true then
  some (12 : Int)
 else
  (tree_Check.l1 l 0).bind fun o =>
  o.on fun j =>
  (tree_lists l).bind fun r3 =>
  if (decide (r3 > (20 : Int))) = true then
   some (12 : Int)
  else
   some (0 : Int)
theorem tree_Check_ok (l : List T_api_Node) (r : Int) (hm : tree_Check l = some r) :
  VC Try.prog 9 [.list 40 (List.map T_api_Node.vv l)] [] (fun zx zH => zx = .int .i64 r ∧ zH = []) := by
 unfold tree_Check at hm
 refine VC.run (c := _) (rs := [.tmp 2]) Try.func9 R R R <| VW.seq <| VW.region <| VR.p R R (VP.assign R) <| VR.nil <| VW.seq <| VW.seq <| VW.region <| VR.p R R (VP.move R) <| VR.p R R (VP.lenT T_api_Node.vv R Try.underlying22) <| VR.p R R (VP.arith R R R) <| VR.p R R (VP.move R) ?_
 obtain ⟨c, h4, hm⟩ := bnd hm
 refine VR.sc 6 14 (.bool c) (fun K' J => ?_) ?_
 ·have hm := h4
  rcases ite_or hm with ⟨h1, hm⟩ | ⟨h1, hm⟩
  ·refine VR.skipG R R R R h1 <| VR.skipG R R R R h1 <| VR.skipG R R R R h1 <| VR.skipG R R R R h1 <| VR.skipG R R R R h1 <| VR.p R R (VP.pickB true R h1 R) ?_
   exact J [_, _, _, _, _] _ R (congrArg VV.bool (Option.some.inj hm))
  ·have h1 := bf h1
   refine VR.pG R R R R h1 (VP.move R) <| VR.pG R R R R h1 (VP.move R) <| VR.pG R R R R h1 (VP.lenT T_api_Node.vv R Try.underlying22) ?_
   obtain ⟨r, h2, hm⟩ := bnd hm
   refine VR.consG R R R R h1 (VO.callK 0 R fn22 R (tree_walk_tree_Check_1_ok l (0 : Int) (l.length : Int) r h2) fun _ _ h3 => ?_)
   obtain ⟨rfl, rfl⟩ := h3
   refine VR.pG R R R R h1 (VP.not R) <| VR.p R R (VP.pickB false R h1 R) ?_
   exact J [_, _, _, _, _] _ R (congrArg VV.bool (Option.some.inj hm))
 ·refine VR.nil ?_
  rcases ite_or hm with ⟨h5, hm⟩ | ⟨h5, hm⟩
  ·refine VW.condT R h5 <| VW.seq <| VW.region <| VR.p R R (VP.assign R) <| VR.nil ?_
   obtain rfl := Option.some.inj hm
   exact VW.ret ⟨.inl R, _, .cons (.tmp _ _ R) .nil, [], _, R, R, R⟩
  ·have h5 := bf h5
   refine VW.condF R h5 <| VW.skip <| VW.seq <| VW.seq <| VW.region <| VR.p R R (VP.move R) <| VR.p R R (VP.lenT T_api_Node.vv R Try.underlying22) <| VR.p R R (VP.move R) <| VR.nil <| VW.lenL 0 R fun h8 => ?_
   have h8 := max_map h8
   obtain ⟨o, h6, h7⟩ := bnd hm
   refine VW.joinE (fun (q : Unit) => o = Out.go q) (fun (j : Unit) (gg : Unit) => [(0, .list 40 (List.map T_api_Node.vv l))]) (fun (j : Unit) (gg : Unit) => []) ?_ ?_
   ·have hm := h6
    refine VW.block (VW.loop (l.length + 1) ?_)
    refine VL.eachS (l := l) (R := _) (fun zl zk (zs : Unit) => tree_Check.l1 zl zk) (fun (k : Nat) (zs : Unit) (zg : Unit) => [(0, .list 40 (List.map T_api_Node.vv l)), (15, .list 40 (List.map T_api_Node.vv l)), (16, .int .i64 (l.length : Int)), (17, .int .i64 (k : Int))]) (fun (k : Nat) (zs : Unit) (zg : Unit) => []) () () (Shift.pick [] R ⟨R, R, R, R, trivial⟩) h6 ?_ ?_
    ·rintro k _ _ hk hm
     rw [tree_Check.l1] at hm
     refine VW.seq <| VW.region <| VR.p R R (VP.arith R R R) <| VR.nil <| VW.seq <| VW.condF R (k_end hk) <| VW.exit ?_
     exact ⟨(), (), (Option.some.inj hm).symm, (Shift.pick [] R ⟨R, trivial⟩)⟩
    ·rintro k x l2 _ _ h9 hm
     rw [tree_Check.l1] at hm
     refine VW.seq <| VW.region <| VR.p R R (VP.arith R R R) <| VR.nil <| VW.seq <| VW.condT R (k_lt h9) <| VW.skip <| VW.seq <| VW.block <| VW.seq <| VW.region <| VR.p R R (VP.glK T_api_Node.vv R R el22 h9) <| VR.p R R (VP.loadE R ld40 R) ?_
     refine VR.cons R R (VO.alloc z40 fun b => ?_)
     refine VR.cons R R (VO.storeP (i := 0) R R R ld40 R R R ?_)
     refine VR.nil <| VW.seq <| VW.region <| VR.p R R (VP.loadP (i := 0) R R ld40 R) ?_
     obtain ⟨r2, h11, hm⟩ := bnd hm
     refine VR.cons R R (VO.callK 0 R fn24 R (tree_fits_ok x r2 h11) fun _ _ h13 => ?_)
     obtain ⟨rfl, rfl⟩ := h13
     refine VR.p R R (VP.not R) <| VR.nil ?_
     rcases ite_or hm with ⟨h12, hm⟩ | ⟨h12, hm⟩
     ·refine VW.condT R h12 <| VW.seq <| VW.region <| VR.p R R (VP.assign R) <| VR.nil ?_
      obtain rfl := Option.some.inj hm
      have hm := Out.ret_on h7
      obtain rfl := Option.some.inj hm
      exact VW.ret ⟨.inl R, _, .cons (.tmp _ _ R) .nil, [], _, R, R, R⟩
     ·have h12 := bf h12
      refine VW.condF R h12 <| VW.skip <| VW.region <| VR.p R R (VP.arith R R R) <| VR.p R R (VP.move R) <| VR.nil ?_
      exact ⟨(), (), hm, (Shift.pick [] R ⟨R, R, R, congrArg some (k_next h9 h8), trivial⟩)⟩
   ·rintro j _ rfl
    have hm := Out.go_on h7
    refine VW.seq <| VW.seq <| VW.region <| VR.p R R (VP.move R) ?_
    obtain ⟨r3, h14, hm⟩ := bnd hm
    refine VR.cons R R (VO.callK 0 R fn25 R (tree_lists_ok l r3 h14) fun _ _ h16 => ?_)
    obtain ⟨rfl, rfl⟩ := h16
    refine VR.p R R (VP.arith R R R) <| VR.nil ?_
    rcases ite_or hm with ⟨h15, hm⟩ | ⟨h15, hm⟩
    ·refine VW.condT R h15 <| VW.seq <| VW.region <| VR.p R R (VP.assign R) <| VR.nil ?_
     obtain rfl := Option.some.inj hm
     exact VW.ret ⟨.inl R, _, .cons (.tmp _ _ R) .nil, [], _, R, R, R⟩
    ·have h15 := bf h15
     refine VW.condF R h15 <| VW.skip <| VW.seq <| VW.region <| VR.p R R (VP.assign R) <| VR.nil ?_
     obtain rfl := Option.some.inj hm
     exact VW.ret ⟨.inl R, _, .cons (.tmp _ _ R) .nil, [], _, R, R, R⟩

/-! trireme/tree.one -/
def tree_one.l1 (self_ : (List T_api_Node) → Int → Option ByteArray) (l : List T_api_Node) : List Int → Nat → ByteArray → Option ByteArray
 | [], k, s2 => some s2
 | x2 :: l2, k, s2 =>
  if (decide ((k : Int) > (0 : Int))) = true then
   (V.cat s2 (⟨#[32]⟩ : ByteArray)).bind fun v =>
   (self_ l x2).bind fun r3 =>
   (V.cat v r3).bind fun v2 =>
   tree_one.l1 self_ l l2 (k + 1) v2
  else
   (self_ l x2).bind fun r4 =>
   (V.cat s2 r4).bind fun v3 =>
   tree_one.l1 self_ l l2 (k + 1) v3
def tree_one : Nat → (List T_api_Node) → Int → Option ByteArray
 | 0, _, _ => none
 | nn + 1, l, i =>
  (V.gl l i).bind fun x =>
  if (x.Kind == (3 : Int)) = true then
   some x.Text
  else
   if (x.Kind == (4 : Int)) = true then
    (lex_Quote x.Text).bind fun r =>
    some r
   else
    (tree_Kids l i).bind fun r2 =>
    (tree_one.l1 (tree_one nn) l r2 0 (⟨#[]⟩ : ByteArray)).bind fun s32 =>
    (V.cat (⟨#[40]⟩ : ByteArray) s32).bind fun v4 =>
    (V.cat v4 (⟨#[41]⟩ : ByteArray)).bind fun v5 =>
    some v5
theorem tree_one_ok (nn : Nat) : ∀ (l : List T_api_Node) (i : Int) (r : ByteArray) (hm : tree_one nn l i = some r),
  VC Try.prog 29 [.list 40 (List.map T_api_Node.vv l), .int .i64 i] [] (fun zx zH => zx = .str r ∧ zH = []) := by
 induction nn with
 | zero => intro l i r hm; exact absurd hm (by rw [tree_one]; simp)
 | succ nn ih =>
  intro l i r hm
  rw [tree_one] at hm
  refine VC.run (c := _) (rs := [.tmp 4]) Try.func29 R R R <| VW.seq <| VW.region <| VR.p R R (VP.assign R) <| VR.nil <| VW.seq <| VW.region <| VR.p R R (VP.move R) <| VR.p R R (VP.move R) ?_
  obtain ⟨x, h1, hm⟩ := bnd hm
  refine VR.p R R (VP.glE T_api_Node.vv R R el22 h1) <| VR.p R R (VP.loadE R ld40 R) ?_
  refine VR.cons R R (VO.alloc z40 fun b => ?_)
  refine VR.cons R R (VO.storeP (i := 0) R R R ld40 R R R ?_)
  refine VR.nil <| VW.seq <| VW.seq <| VW.region <| VR.p R R (VP.fieldP R fa40_0) <| VR.p R R (VP.loadP (i := 0) R R ld3 R) <| VR.nil <| VW.block <| VW.seq <| VW.region <| VR.p R R (VP.arith R R R) <| VR.p R R (VP.assign R) <| VR.nil ?_
  rcases ite_or hm with ⟨h3, hm⟩ | ⟨h3, hm⟩
  ·refine VW.condT R h3 <| VW.seq <| VW.region <| VR.p R R (VP.fieldP R fa40_1) <| VR.p R R (VP.loadP (i := 0) R R ld9 R) <| VR.p R R (VP.assign R) <| VR.nil ?_
   obtain rfl := Option.some.inj hm
   exact VW.ret ⟨.inl R, _, .cons (.tmp _ _ R) .nil, [], _, R, R, R⟩
  ·have h3 := bf h3
   refine VW.condF R h3 <| VW.seq <| VW.region <| VR.p R R (VP.arith R R R) <| VR.p R R (VP.assign R) <| VR.nil ?_
   rcases ite_or hm with ⟨h4, hm⟩ | ⟨h4, hm⟩
   ·refine VW.condT R h4 <| VW.seq <| VW.region <| VR.p R R (VP.fieldP R fa40_1) <| VR.p R R (VP.loadP (i := 0) R R ld9 R) ?_
    obtain ⟨r, h5, hm⟩ := bnd hm
    refine VR.cons R R (VO.callK 0 R fn34 R (lex_Quote_ok x.Text r h5) fun _ _ h6 => ?_)
    obtain ⟨rfl, rfl⟩ := h6
    refine VR.p R R (VP.assign R) <| VR.nil ?_
    obtain rfl := Option.some.inj hm
    exact VW.ret ⟨.inl R, _, .cons (.tmp _ _ R) .nil, [], _, R, R, R⟩
   ·have h4 := bf h4
    refine VW.condF R h4 <| VW.skip <| VW.seq <| VW.region <| VR.p R R (VP.assign R) <| VR.nil <| VW.seq <| VW.seq <| VW.region <| VR.p R R (VP.move R) <| VR.p R R (VP.move R) ?_
    obtain ⟨r2, h7, hm⟩ := bnd hm
    refine VR.cons R R (VO.callK 0 R fn16 R (tree_Kids_ok l i r2 h7) fun _ _ h22 => ?_)
    obtain ⟨rfl, rfl⟩ := h22
    refine VR.p R R (VP.lenT (VV.int .i64) R Try.underlying30) <| VR.p R R (VP.move R) <| VR.nil <| VW.lenL 26 R fun h10 => ?_
    have h10 := max_map h10
    obtain ⟨o, h8, h9⟩ := bnd hm
    refine VW.joinE (fun (q : ByteArray) => q = o) (fun (s32 : ByteArray) (gg : Unit) => [(6, .str s32)]) (fun (s32 : ByteArray) (gg : Unit) => []) ?_ ?_
    ·have hm := h8
     refine VW.block (VW.loop (r2.length + 1) ?_)
     refine VL.eachS (l := r2) (R := _) (fun zl zk (zs : ByteArray) => tree_one.l1 (tree_one nn) l zl zk zs) (fun (k : Nat) (zs : ByteArray) (zg : Unit) => [(0, .list 40 (List.map T_api_Node.vv l)), (6, .str zs), (26, .list 3 (List.map (VV.int .i64) r2)), (27, .int .i64 (r2.length : Int)), (28, .int .i64 (k : Int))]) (fun (k : Nat) (zs : ByteArray) (zg : Unit) => []) (⟨#[]⟩ : ByteArray) () (Shift.pick [] R ⟨R, R, R, R, R, trivial⟩) h8 ?_ ?_
     ·rintro k s2 _ hk hm
      rw [tree_one.l1] at hm
      refine VW.seq <| VW.region <| VR.p R R (VP.arith R R R) <| VR.nil <| VW.seq <| VW.condF R (k_end hk) <| VW.exit ?_
      exact ⟨s2, (), Option.some.inj hm, (Shift.pick [] R ⟨R, trivial⟩)⟩
     ·rintro k x2 l2 s2 _ h11 hm
      rw [tree_one.l1] at hm
      refine VW.seq <| VW.region <| VR.p R R (VP.arith R R R) <| VR.nil <| VW.seq <| VW.condT R (k_lt h11) <| VW.skip <| VW.seq <| VW.block <| VW.seq <| VW.region <| VR.p R R (VP.move R) <| VR.p R R (VP.glK (VV.int .i64) R R el30 h11) <| VR.p R R (VP.loadE R ld3 R) <| VR.p R R (VP.assign R) <| VR.p R R (VP.assign R) <| VR.nil <| VW.seq <| VW.seq <| VW.region <| VR.p R R (VP.move R) <| VR.p R R (VP.arith R R R) <| VR.nil ?_
      rcases ite_or hm with ⟨h12, hm⟩ | ⟨h12, hm⟩
      ·refine VW.condT R h12 <| VW.region <| VR.p R R (VP.move R) ?_
       obtain ⟨v, h13, hm⟩ := bnd hm
       refine VR.p R R (VP.catT R R h13) <| VR.p R R (VP.assign R) <| VR.nil <| VW.region <| VR.p R R (VP.move R) <| VR.p R R (VP.move R) <| VR.p R R (VP.move R) ?_
       obtain ⟨r3, h14, hm⟩ := bnd hm
       refine VR.cons R R (VO.callK 0 R fn29 R (ih l x2 r3 h14) fun _ _ h16 => ?_)
       obtain ⟨rfl, rfl⟩ := h16
       obtain ⟨v2, h15, hm⟩ := bnd hm
       refine VR.p R R (VP.catT R R h15) <| VR.p R R (VP.assign R) <| VR.nil <| VW.region <| VR.p R R (VP.arith R R R) <| VR.p R R (VP.move R) <| VR.nil ?_
       exact ⟨v2, (), hm, (Shift.pick [] R ⟨R, R, R, R, congrArg some (k_next h11 h10), trivial⟩)⟩
      ·have h12 := bf h12
       refine VW.condF R h12 <| VW.skip <| VW.region <| VR.p R R (VP.move R) <| VR.p R R (VP.move R) <| VR.p R R (VP.move R) ?_
       obtain ⟨r4, h17, hm⟩ := bnd hm
       refine VR.cons R R (VO.callK 0 R fn29 R (ih l x2 r4 h17) fun _ _ h19 => ?_)
       obtain ⟨rfl, rfl⟩ := h19
       obtain ⟨v3, h18, hm⟩ := bnd hm
       refine VR.p R R (VP.catT R R h18) <| VR.p R R (VP.assign R) <| VR.nil <| VW.region <| VR.p R R (VP.arith R R R) <| VR.p R R (VP.move R) <| VR.nil ?_
       exact ⟨v3, (), hm, (Shift.pick [] R ⟨R, R, R, R, congrArg some (k_next h11 h10), trivial⟩)⟩
    ·rintro s32 _ rfl
     have hm := h9
     refine VW.seq <| VW.region <| VR.p R R (VP.move R) ?_
     obtain ⟨v4, h20, hm⟩ := bnd hm
     refine VR.p R R (VP.catT R R h20) ?_
     obtain ⟨v5, h21, hm⟩ := bnd hm
     refine VR.p R R (VP.catT R R h21) <| VR.p R R (VP.assign R) <| VR.nil ?_
     obtain rfl := Option.some.inj hm
     exact VW.ret ⟨.inl R, _, .cons (.tmp _ _ R) .nil, [], _, R, R, R⟩

end Go.Proofs.Ytbnohlgchjcjhaa.M

/-
  Printed by a program of this session out of the loaded functions: models and their proofs. Own text.
-/
import Derived.Test.YtfenmdnodoogbaaR1T
namespace Go.Proofs.Ytfenmdnodoogbaa.M
open Go Go.Proofs Go.Proofs.Ytfenmdnodoogbaa.V
set_option linter.unusedVariables false
set_option maxRecDepth 20000
set_option maxHeartbeats 4000000
/-! trireme/triremeref01.Same -/
def ref01_Same.l1 (a : List T_api_Token) (b : List T_api_Token) (places : Bool) : Nat → Int → Option (Out Bool Unit)
  | 0, _ => none
  | n + 1, i2 =>
    if (decide (i2 < (a.length : Int))) = true then
      (V.gl a i2).bind fun x =>
      (V.gl b i2).bind fun x2 =>
      (if (x.Kind != x2.Kind) = true then some true else (V.gl a i2).bind fun x3 =>
      (V.gl b i2).bind fun x4 =>
      some (!(V.seq x3.Text x4.Text))).bind fun c =>
      (if c = true then some true else (if places = true then (V.gl a i2).bind fun x5 =>
      (V.gl b i2).bind fun x6 =>
      some (!(((x5.Kind == x6.Kind) && ((x5.Text == x6.Text) && ((x5.At == x6.At) && ((x5.Line == x6.Line) && ((x5.Col == x6.Col) && true))))) == true)) else some false).bind fun c2 =>
      some c2).bind fun c3 =>
      if c3 = true then
        some (Out.ret false)
      else
        ref01_Same.l1 a b places n (IntKind.i64.wrap (i2 + (1 : Int)))
    else
      some (Out.go ())
def ref01_Same (a : List T_api_Token) (b : List T_api_Token) (places : Bool) : Option Bool :=
  if ((a.length : Int) != (b.length : Int)) = true then
    some false
  else
    (ref01_Same.l1 a b places FU (0 : Int)).bind fun o =>
    o.on fun j =>
    some true
theorem ref01_Same_ok (a : List T_api_Token) (b : List T_api_Token) (places : Bool) (r : Bool) (hm : ref01_Same a b places = some r) :
    VC Try.prog 19 [.list 28 (List.map T_api_Token.vv a), .list 28 (List.map T_api_Token.vv b), .bool places] [] (fun x H' => x = .bool r ∧ H' = []) := by
  unfold ref01_Same at hm
  refine VC.run (c := _) (rs := [.tmp 6]) Try.func19 rfl rfl rfl ?_
  refine VW.seq ?_
  refine VW.region ?_
  refine VR.p rfl rfl (VP.assign rfl) ?_
  refine VR.nil ?_
  refine VW.seq ?_
  refine VW.seq ?_
  refine VW.region ?_
  refine VR.p rfl rfl (VP.move rfl) ?_
  refine VR.p rfl rfl (VP.lenT T_api_Token.vv rfl Try.underlying26) ?_
  refine VR.p rfl rfl (VP.move rfl) ?_
  refine VR.p rfl rfl (VP.lenT T_api_Token.vv rfl Try.underlying26) ?_
  refine VR.p rfl rfl (VP.arith rfl rfl rfl) ?_
  refine VR.nil ?_
  rcases ite_or hm with ⟨h1, hm⟩ | ⟨h1, hm⟩
  · refine VW.condT rfl h1 ?_
    refine VW.seq ?_
    refine VW.region ?_
    refine VR.p rfl rfl (VP.assign rfl) ?_
    refine VR.nil ?_
    obtain rfl := Option.some.inj hm
    exact VW.ret ⟨.inl rfl, _, .cons (.tmp _ _ rfl) .nil, [], _, rfl, rfl, rfl⟩
  · have h1 := bf h1
    refine VW.condF rfl h1 ?_
    refine VW.skip ?_
    refine VW.seq ?_
    refine VW.seq ?_
    refine VW.region ?_
    refine VR.p rfl rfl (VP.assign rfl) ?_
    refine VR.nil ?_
    obtain ⟨o, h2, h3⟩ := bnd hm
    refine VW.joinE (fun (q : Unit) => o = Out.go q) (fun (j : Unit) (gg : Unit) => []) (fun (j : Unit) (gg : Unit) => []) ?_ ?_
    · have hm := h2
      refine VW.block (VW.loop FU ?_)
      refine VL.fuelS (R := _) (fun zn (zs : Int) => ref01_Same.l1 a b places zn zs) (fun (zs : Int) (zg : Unit) => [(0, .list 28 (List.map T_api_Token.vv a)), (1, .list 28 (List.map T_api_Token.vv b)), (2, .bool places), (7, .int .i64 zs)]) (fun (zs : Int) (zg : Unit) => []) (0 : Int) () (fun zs => rfl) (Shift.pick [] rfl ⟨rfl, rfl, rfl, rfl, trivial⟩) h2 ?_
      rintro n i2 _ hm
      rw [ref01_Same.l1] at hm
      refine VW.seq ?_
      refine VW.seq ?_
      refine VW.region ?_
      refine VR.p rfl rfl (VP.move rfl) ?_
      refine VR.p rfl rfl (VP.move rfl) ?_
      refine VR.p rfl rfl (VP.lenT T_api_Token.vv rfl Try.underlying26) ?_
      refine VR.p rfl rfl (VP.arith rfl rfl rfl) ?_
      refine VR.nil ?_
      rcases ite_or hm with ⟨h4, hm⟩ | ⟨h4, hm⟩
      · refine VW.condT rfl h4 ?_
        refine VW.skip ?_
        refine VW.seq ?_
        refine VW.block ?_
        refine VW.seq ?_
        refine VW.drawK 0 mixed ?_
        refine VA.p 0 rfl rfl rfl (by kernel_rfl) (VP.move rfl) ?_
        refine VA.p 1 rfl rfl rfl (by kernel_rfl) (VP.move rfl) ?_
        obtain ⟨x, h5, hm⟩ := bnd hm
        refine VA.p 2 rfl rfl rfl (by kernel_rfl) (VP.glE T_api_Token.vv rfl rfl el26 h5) ?_
        refine VA.p 3 rfl rfl rfl (by kernel_rfl) (VP.fieldE rfl fa28_0) ?_
        refine VA.p 4 rfl rfl rfl (by kernel_rfl) (VP.loadE rfl ld3 rfl) ?_
        refine VA.p 5 rfl rfl rfl (by kernel_rfl) (VP.move rfl) ?_
        refine VA.p 6 rfl rfl rfl (by kernel_rfl) (VP.move rfl) ?_
        obtain ⟨x2, h6, hm⟩ := bnd hm
        refine VA.p 7 rfl rfl rfl (by kernel_rfl) (VP.glE T_api_Token.vv rfl rfl el26 h6) ?_
        refine VA.p 8 rfl rfl rfl (by kernel_rfl) (VP.fieldE rfl fa28_0) ?_
        refine VA.p 9 rfl rfl rfl (by kernel_rfl) (VP.loadE rfl ld3 rfl) ?_
        refine VA.p 10 rfl rfl rfl (by kernel_rfl) (VP.arith rfl rfl rfl) ?_
        refine VA.p 11 rfl rfl rfl (by kernel_rfl) (VP.move rfl) ?_
        obtain ⟨c, h10, hm⟩ := bnd hm
        refine VA.sc [23, 22, 21, 20, 19, 18, 17, 16, 15, 14, 13, 12, 11, 10, 9, 8, 7, 6, 5, 4, 3, 2, 1, 0] 42 (.bool c) (fun K' J => ?_) ?_
        · have hm := h10
          rcases ite_or hm with ⟨h7, hm⟩ | ⟨h7, hm⟩
          · refine VA.skipG 12 rfl rfl rfl rfl rfl h7 (by kernel_rfl) ?_
            refine VA.skipG 13 rfl rfl rfl rfl rfl h7 (by kernel_rfl) ?_
            refine VA.skipG 14 rfl rfl rfl rfl rfl h7 (by kernel_rfl) ?_
            refine VA.skipG 15 rfl rfl rfl rfl rfl h7 (by kernel_rfl) ?_
            refine VA.skipG 16 rfl rfl rfl rfl rfl h7 (by kernel_rfl) ?_
            refine VA.skipG 17 rfl rfl rfl rfl rfl h7 (by kernel_rfl) ?_
            refine VA.skipG 18 rfl rfl rfl rfl rfl h7 (by kernel_rfl) ?_
            refine VA.skipG 19 rfl rfl rfl rfl rfl h7 (by kernel_rfl) ?_
            refine VA.skipG 20 rfl rfl rfl rfl rfl h7 (by kernel_rfl) ?_
            refine VA.skipG 21 rfl rfl rfl rfl rfl h7 (by kernel_rfl) ?_
            refine VA.skipG 22 rfl rfl rfl rfl rfl h7 (by kernel_rfl) ?_
            refine VA.p 23 rfl rfl rfl (by kernel_rfl) (VP.pickB true rfl h7 rfl) ?_
            exact J [_, _, _, _, _, _, _, _, _, _, _] _ rfl (congrArg VV.bool (Option.some.inj hm))
          · have h7 := bf h7
            refine VA.pG 12 rfl rfl rfl rfl rfl h7 (by kernel_rfl) (VP.move rfl) ?_
            refine VA.pG 13 rfl rfl rfl rfl rfl h7 (by kernel_rfl) (VP.move rfl) ?_
            obtain ⟨x3, h8, hm⟩ := bnd hm
            refine VA.pG 14 rfl rfl rfl rfl rfl h7 (by kernel_rfl) (VP.glE T_api_Token.vv rfl rfl el26 h8) ?_
            refine VA.pG 15 rfl rfl rfl rfl rfl h7 (by kernel_rfl) (VP.fieldE rfl fa28_1) ?_
            refine VA.pG 16 rfl rfl rfl rfl rfl h7 (by kernel_rfl) (VP.loadE rfl ld9 rfl) ?_
            refine VA.pG 17 rfl rfl rfl rfl rfl h7 (by kernel_rfl) (VP.move rfl) ?_
            refine VA.pG 18 rfl rfl rfl rfl rfl h7 (by kernel_rfl) (VP.move rfl) ?_
            obtain ⟨x4, h9, hm⟩ := bnd hm
            refine VA.pG 19 rfl rfl rfl rfl rfl h7 (by kernel_rfl) (VP.glE T_api_Token.vv rfl rfl el26 h9) ?_
            refine VA.pG 20 rfl rfl rfl rfl rfl h7 (by kernel_rfl) (VP.fieldE rfl fa28_1) ?_
            refine VA.pG 21 rfl rfl rfl rfl rfl h7 (by kernel_rfl) (VP.loadE rfl ld9 rfl) ?_
            refine VA.pG 22 rfl rfl rfl rfl rfl h7 (by kernel_rfl) (VP.strop rfl rfl rfl) ?_
            refine VA.p 23 rfl rfl rfl (by kernel_rfl) (VP.pickB false rfl h7 rfl) ?_
            exact J [_, _, _, _, _, _, _, _, _, _, _] _ rfl (congrArg VV.bool (Option.some.inj hm))
        · refine VA.p 24 rfl rfl rfl (by kernel_rfl) (VP.move rfl) ?_
          obtain ⟨c3, h16, hm⟩ := bnd hm
          refine VA.sc [37, 36, 35, 34, 33, 32, 31, 30, 29, 28, 27, 26, 25, 24, 23, 22, 21, 20, 19, 18, 17, 16, 15, 14, 13, 12, 11, 10, 9, 8, 7, 6, 5, 4, 3, 2, 1, 0] 56 (.bool c3) (fun K' J => ?_) ?_
          · have hm := h16
            rcases ite_or hm with ⟨h11, hm⟩ | ⟨h11, hm⟩
            · refine VA.skipG 25 rfl rfl rfl rfl rfl h11 (by kernel_rfl) ?_
              refine VA.skipG 26 rfl rfl rfl rfl rfl h11 (by kernel_rfl) ?_
              refine VA.skipU 27 rfl rfl rfl rfl rfl (by kernel_rfl) ?_
              refine VA.skipU 28 rfl rfl rfl rfl rfl (by kernel_rfl) ?_
              refine VA.skipU 29 rfl rfl rfl rfl rfl (by kernel_rfl) ?_
              refine VA.skipU 30 rfl rfl rfl rfl rfl (by kernel_rfl) ?_
              refine VA.skipU 31 rfl rfl rfl rfl rfl (by kernel_rfl) ?_
              refine VA.skipU 32 rfl rfl rfl rfl rfl (by kernel_rfl) ?_
              refine VA.skipU 33 rfl rfl rfl rfl rfl (by kernel_rfl) ?_
              refine VA.skipU 34 rfl rfl rfl rfl rfl (by kernel_rfl) ?_
              refine VA.skipU 35 rfl rfl rfl rfl rfl (by kernel_rfl) ?_
              refine VA.skipG 36 rfl rfl rfl rfl rfl h11 (by kernel_rfl) ?_
              refine VA.p 37 rfl rfl rfl (by kernel_rfl) (VP.pickB true rfl h11 rfl) ?_
              exact J [_, _, _, _, _, _, _, _, _, _, _, _] _ rfl (congrArg VV.bool (Option.some.inj hm))
            · have h11 := bf h11
              refine VA.pG 25 rfl rfl rfl rfl rfl h11 (by kernel_rfl) (VP.move rfl) ?_
              refine VA.pG 26 rfl rfl rfl rfl rfl h11 (by kernel_rfl) (VP.move rfl) ?_
              obtain ⟨c2, h15, hm⟩ := bnd hm
              refine VA.sc [36, 35, 34, 33, 32, 31, 30, 29, 28, 27, 26, 25, 24, 23, 22, 21, 20, 19, 18, 17, 16, 15, 14, 13, 12, 11, 10, 9, 8, 7, 6, 5, 4, 3, 2, 1, 0] 55 (.bool c2) (fun K' J => ?_) ?_
              · have hm := h15
                rcases ite_or hm with ⟨h12, hm⟩ | ⟨h12, hm⟩
                · refine VA.pG 27 rfl rfl rfl rfl rfl h12 (by kernel_rfl) (VP.move rfl) ?_
                  refine VA.pG 28 rfl rfl rfl rfl rfl h12 (by kernel_rfl) (VP.move rfl) ?_
                  obtain ⟨x5, h13, hm⟩ := bnd hm
                  refine VA.pG 29 rfl rfl rfl rfl rfl h12 (by kernel_rfl) (VP.glE T_api_Token.vv rfl rfl el26 h13) ?_
                  refine VA.pG 30 rfl rfl rfl rfl rfl h12 (by kernel_rfl) (VP.loadE rfl ld28 rfl) ?_
                  refine VA.pG 31 rfl rfl rfl rfl rfl h12 (by kernel_rfl) (VP.move rfl) ?_
                  refine VA.pG 32 rfl rfl rfl rfl rfl h12 (by kernel_rfl) (VP.move rfl) ?_
                  obtain ⟨x6, h14, hm⟩ := bnd hm
                  refine VA.pG 33 rfl rfl rfl rfl rfl h12 (by kernel_rfl) (VP.glE T_api_Token.vv rfl rfl el26 h14) ?_
                  refine VA.pG 34 rfl rfl rfl rfl rfl h12 (by kernel_rfl) (VP.loadE rfl ld28 rfl) ?_
                  refine VA.pG 35 rfl rfl rfl rfl rfl h12 (by kernel_rfl) (VP.eqS shp28 eq28 rfl rfl rfl rfl) ?_
                  refine VA.pG 36 rfl rfl rfl rfl rfl h11 (by kernel_rfl) (VP.pickB true rfl h12 rfl) ?_
                  exact J [_, _, _, _, _, _, _, _, _] _ rfl (congrArg VV.bool (Option.some.inj hm))
                · have h12 := bf h12
                  refine VA.skipG 27 rfl rfl rfl rfl rfl h12 (by kernel_rfl) ?_
                  refine VA.skipG 28 rfl rfl rfl rfl rfl h12 (by kernel_rfl) ?_
                  refine VA.skipG 29 rfl rfl rfl rfl rfl h12 (by kernel_rfl) ?_
                  refine VA.skipG 30 rfl rfl rfl rfl rfl h12 (by kernel_rfl) ?_
                  refine VA.skipG 31 rfl rfl rfl rfl rfl h12 (by kernel_rfl) ?_
                  refine VA.skipG 32 rfl rfl rfl rfl rfl h12 (by kernel_rfl) ?_
                  refine VA.skipG 33 rfl rfl rfl rfl rfl h12 (by kernel_rfl) ?_
                  refine VA.skipG 34 rfl rfl rfl rfl rfl h12 (by kernel_rfl) ?_
                  refine VA.skipG 35 rfl rfl rfl rfl rfl h12 (by kernel_rfl) ?_
                  refine VA.pG 36 rfl rfl rfl rfl rfl h11 (by kernel_rfl) (VP.pickB false rfl h12 rfl) ?_
                  exact J [_, _, _, _, _, _, _, _, _] _ rfl (congrArg VV.bool (Option.some.inj hm))
              · refine VA.p 37 rfl rfl rfl (by kernel_rfl) (VP.pickB false rfl h11 rfl) ?_
                exact J [_, _, _] _ rfl (congrArg VV.bool (Option.some.inj hm))
          · refine VA.done (by kernel_rfl) ?_
            rcases ite_or hm with ⟨h17, hm⟩ | ⟨h17, hm⟩
            · refine VW.condT rfl h17 ?_
              refine VW.seq ?_
              refine VW.region ?_
              refine VR.p rfl rfl (VP.assign rfl) ?_
              refine VR.nil ?_
              obtain rfl := Option.some.inj hm
              have hm := Out.ret_on h3
              obtain rfl := Option.some.inj hm
              exact VW.ret ⟨.inl rfl, _, .cons (.tmp _ _ rfl) .nil, [], _, rfl, rfl, rfl⟩
            · have h17 := bf h17
              refine VW.condF rfl h17 ?_
              refine VW.skip ?_
              refine VW.region ?_
              refine VR.p rfl rfl (VP.move rfl) ?_
              refine VR.p rfl rfl (VP.arith rfl rfl rfl) ?_
              refine VR.p rfl rfl (VP.assign rfl) ?_
              refine VR.nil ?_
              exact ⟨(IntKind.i64.wrap (i2 + (1 : Int))), (), hm, (Shift.pick [] rfl ⟨rfl, rfl, rfl, rfl, trivial⟩)⟩
      · have h4 := bf h4
        refine VW.condF rfl h4 ?_
        refine VW.exit ?_
        exact ⟨(), (), (Option.some.inj hm).symm, (Shift.pick [] rfl trivial)⟩
    · rintro j _ rfl
      have hm := Out.go_on h3
      refine VW.seq ?_
      refine VW.region ?_
      refine VR.p rfl rfl (VP.assign rfl) ?_
      refine VR.nil ?_
      obtain rfl := Option.some.inj hm
      exact VW.ret ⟨.inl rfl, _, .cons (.tmp _ _ rfl) .nil, [], _, rfl, rfl, rfl⟩

/-! trireme/lex.right -/
def lex_right (s : ByteArray) (i : Int) (c : Int) : Option Bool :=
  (if (c != (65533 : Int)) = true then some true else (if (decide ((IntKind.i64.wrap (i + (2 : Int))) < (s.size : Int))) = true then (V.gi s i).bind fun v =>
  some (v == (239 : Int)) else some false).bind fun c2 =>
  (if c2 = true then (V.gi s (IntKind.i64.wrap (i + (1 : Int)))).bind fun v2 =>
  some (v2 == (191 : Int)) else some false).bind fun c3 =>
  (if c3 = true then (V.gi s (IntKind.i64.wrap (i + (2 : Int)))).bind fun v3 =>
  some (v3 == (189 : Int)) else some false).bind fun c4 =>
  some c4).bind fun c5 =>
  some c5
theorem lex_right_ok (s : ByteArray) (i : Int) (c : Int) (r : Bool) (hm : lex_right s i c = some r) :
    VC Try.prog 24 [.str s, .int .i64 i, .int .i32 c] [] (fun x H' => x = .bool r ∧ H' = []) := by
  unfold lex_right at hm
  refine VC.run (c := _) (rs := [.tmp 6]) Try.func24 rfl rfl rfl ?_
  refine VW.seq ?_
  refine VW.region ?_
  refine VR.p rfl rfl (VP.assign rfl) ?_
  refine VR.nil ?_
  refine VW.seq ?_
  refine VW.region ?_
  refine VR.p rfl rfl (VP.move rfl) ?_
  refine VR.p rfl rfl (VP.arith rfl rfl rfl) ?_
  refine VR.p rfl rfl (VP.move rfl) ?_
  obtain ⟨c5, h11, hm⟩ := bnd hm
  refine VR.sc 26 35 (.bool c5) (fun K' J => ?_) ?_
  · have hm := h11
    rcases ite_or hm with ⟨h1, hm⟩ | ⟨h1, hm⟩
    · refine VR.skipG rfl rfl rfl rfl h1 ?_
      refine VR.skipG rfl rfl rfl rfl h1 ?_
      refine VR.skipG rfl rfl rfl rfl h1 ?_
      refine VR.skipG rfl rfl rfl rfl h1 ?_
      refine VR.skipG rfl rfl rfl rfl h1 ?_
      refine VR.skipG rfl rfl rfl rfl h1 ?_
      refine VR.skipU rfl rfl rfl rfl ?_
      refine VR.skipU rfl rfl rfl rfl ?_
      refine VR.skipU rfl rfl rfl rfl ?_
      refine VR.skipU rfl rfl rfl rfl ?_
      refine VR.skipG rfl rfl rfl rfl h1 ?_
      refine VR.skipG rfl rfl rfl rfl h1 ?_
      refine VR.skipU rfl rfl rfl rfl ?_
      refine VR.skipU rfl rfl rfl rfl ?_
      refine VR.skipU rfl rfl rfl rfl ?_
      refine VR.skipU rfl rfl rfl rfl ?_
      refine VR.skipU rfl rfl rfl rfl ?_
      refine VR.skipG rfl rfl rfl rfl h1 ?_
      refine VR.skipG rfl rfl rfl rfl h1 ?_
      refine VR.skipU rfl rfl rfl rfl ?_
      refine VR.skipU rfl rfl rfl rfl ?_
      refine VR.skipU rfl rfl rfl rfl ?_
      refine VR.skipU rfl rfl rfl rfl ?_
      refine VR.skipU rfl rfl rfl rfl ?_
      refine VR.skipG rfl rfl rfl rfl h1 ?_
      refine VR.p rfl rfl (VP.pickB true rfl h1 rfl) ?_
      exact J [_, _, _, _, _, _, _, _, _, _, _, _, _, _, _, _, _, _, _, _, _, _, _, _, _] _ rfl (congrArg VV.bool (Option.some.inj hm))
    · have h1 := bf h1
      refine VR.pG rfl rfl rfl rfl h1 (VP.move rfl) ?_
      refine VR.pG rfl rfl rfl rfl h1 (VP.arith rfl rfl rfl) ?_
      refine VR.pG rfl rfl rfl rfl h1 (VP.move rfl) ?_
      refine VR.pG rfl rfl rfl rfl h1 (VP.lenS rfl Try.underlying9) ?_
      refine VR.pG rfl rfl rfl rfl h1 (VP.arith rfl rfl rfl) ?_
      refine VR.pG rfl rfl rfl rfl h1 (VP.move rfl) ?_
      obtain ⟨c2, h4, hm⟩ := bnd hm
      refine VR.sc 5 20 (.bool c2) (fun K' J => ?_) ?_
      · have hm := h4
        rcases ite_or hm with ⟨h2, hm⟩ | ⟨h2, hm⟩
        · refine VR.pG rfl rfl rfl rfl h2 (VP.move rfl) ?_
          refine VR.pG rfl rfl rfl rfl h2 (VP.move rfl) ?_
          obtain ⟨v, h3, hm⟩ := bnd hm
          refine VR.pG rfl rfl rfl rfl h2 (VP.gi rfl rfl Try.underlying9 h3) ?_
          refine VR.pG rfl rfl rfl rfl h2 (VP.arith rfl rfl rfl) ?_
          refine VR.pG rfl rfl rfl rfl h1 (VP.pickB true rfl h2 rfl) ?_
          exact J [_, _, _, _] _ rfl (congrArg VV.bool (Option.some.inj hm))
        · have h2 := bf h2
          refine VR.skipG rfl rfl rfl rfl h2 ?_
          refine VR.skipG rfl rfl rfl rfl h2 ?_
          refine VR.skipG rfl rfl rfl rfl h2 ?_
          refine VR.skipG rfl rfl rfl rfl h2 ?_
          refine VR.pG rfl rfl rfl rfl h1 (VP.pickB false rfl h2 rfl) ?_
          exact J [_, _, _, _] _ rfl (congrArg VV.bool (Option.some.inj hm))
      · refine VR.pG rfl rfl rfl rfl h1 (VP.move rfl) ?_
        obtain ⟨c3, h7, hm⟩ := bnd hm
        refine VR.sc 6 27 (.bool c3) (fun K' J => ?_) ?_
        · have hm := h7
          rcases ite_or hm with ⟨h5, hm⟩ | ⟨h5, hm⟩
          · refine VR.pG rfl rfl rfl rfl h5 (VP.move rfl) ?_
            refine VR.pG rfl rfl rfl rfl h5 (VP.move rfl) ?_
            refine VR.pG rfl rfl rfl rfl h5 (VP.arith rfl rfl rfl) ?_
            obtain ⟨v2, h6, hm⟩ := bnd hm
            refine VR.pG rfl rfl rfl rfl h5 (VP.gi rfl rfl Try.underlying9 h6) ?_
            refine VR.pG rfl rfl rfl rfl h5 (VP.arith rfl rfl rfl) ?_
            refine VR.pG rfl rfl rfl rfl h1 (VP.pickB true rfl h5 rfl) ?_
            exact J [_, _, _, _, _] _ rfl (congrArg VV.bool (Option.some.inj hm))
          · have h5 := bf h5
            refine VR.skipG rfl rfl rfl rfl h5 ?_
            refine VR.skipG rfl rfl rfl rfl h5 ?_
            refine VR.skipG rfl rfl rfl rfl h5 ?_
            refine VR.skipG rfl rfl rfl rfl h5 ?_
            refine VR.skipG rfl rfl rfl rfl h5 ?_
            refine VR.pG rfl rfl rfl rfl h1 (VP.pickB false rfl h5 rfl) ?_
            exact J [_, _, _, _, _] _ rfl (congrArg VV.bool (Option.some.inj hm))
        · refine VR.pG rfl rfl rfl rfl h1 (VP.move rfl) ?_
          obtain ⟨c4, h10, hm⟩ := bnd hm
          refine VR.sc 6 34 (.bool c4) (fun K' J => ?_) ?_
          · have hm := h10
            rcases ite_or hm with ⟨h8, hm⟩ | ⟨h8, hm⟩
            · refine VR.pG rfl rfl rfl rfl h8 (VP.move rfl) ?_
              refine VR.pG rfl rfl rfl rfl h8 (VP.move rfl) ?_
              refine VR.pG rfl rfl rfl rfl h8 (VP.arith rfl rfl rfl) ?_
              obtain ⟨v3, h9, hm⟩ := bnd hm
              refine VR.pG rfl rfl rfl rfl h8 (VP.gi rfl rfl Try.underlying9 h9) ?_
              refine VR.pG rfl rfl rfl rfl h8 (VP.arith rfl rfl rfl) ?_
              refine VR.pG rfl rfl rfl rfl h1 (VP.pickB true rfl h8 rfl) ?_
              exact J [_, _, _, _, _] _ rfl (congrArg VV.bool (Option.some.inj hm))
            · have h8 := bf h8
              refine VR.skipG rfl rfl rfl rfl h8 ?_
              refine VR.skipG rfl rfl rfl rfl h8 ?_
              refine VR.skipG rfl rfl rfl rfl h8 ?_
              refine VR.skipG rfl rfl rfl rfl h8 ?_
              refine VR.skipG rfl rfl rfl rfl h8 ?_
              refine VR.pG rfl rfl rfl rfl h1 (VP.pickB false rfl h8 rfl) ?_
              exact J [_, _, _, _, _] _ rfl (congrArg VV.bool (Option.some.inj hm))
          · refine VR.p rfl rfl (VP.pickB false rfl h1 rfl) ?_
            exact J [_, _, _, _, _, _, _, _, _, _, _] _ rfl (congrArg VV.bool (Option.some.inj hm))
  · refine VR.p rfl rfl (VP.assign rfl) ?_
    refine VR.nil ?_
    obtain rfl := Option.some.inj hm
    exact VW.ret ⟨.inl rfl, _, .cons (.tmp _ _ rfl) .nil, [], _, rfl, rfl, rfl⟩

/-! trireme/lex.Runes -/
def lex_Runes.l1 (s : ByteArray) : Nat → Int → Nat → Option (Out Int Int)
  | 0, _, _ => none
  | n4 + 1, n2, pos2 =>
    if pos2 < s.size then
      (lex_right s (pos2 : Int) ((Utf8.decode s pos2).1 : Int)).bind fun r =>
      if (!r) = true then
        some (Out.ret (-1 : Int))
      else
        lex_Runes.l1 s n4 (IntKind.i64.wrap (n2 + (1 : Int))) (pos2 + (Utf8.decode s pos2).2)
    else
      some (Out.go n2)
def lex_Runes (s : ByteArray) : Option Int :=
  (lex_Runes.l1 s FU (0 : Int) 0).bind fun o =>
  o.on fun n32 =>
  some n32
theorem lex_Runes_ok (s : ByteArray) (r : Int) (hm : lex_Runes s = some r) :
    VC Try.prog 14 [.str s] [] (fun x H' => x = .int .i64 r ∧ H' = []) := by
  unfold lex_Runes at hm
  refine VC.run (c := _) (rs := [.tmp 2]) Try.func14 rfl rfl rfl ?_
  refine VW.seq ?_
  refine VW.region ?_
  refine VR.p rfl rfl (VP.assign rfl) ?_
  refine VR.nil ?_
  refine VW.seq ?_
  refine VW.region ?_
  refine VR.p rfl rfl (VP.assign rfl) ?_
  refine VR.nil ?_
  refine VW.seq ?_
  refine VW.seq ?_
  refine VW.region ?_
  refine VR.p rfl rfl (VP.move rfl) ?_
  refine VR.cons rfl rfl (VO.range Try.underlying9 rfl fun b => ?_)
  refine VR.nil ?_
  obtain ⟨o, h2, h3⟩ := bnd hm
  refine VW.joinE (fun (q : Int) => o = Out.go q) (fun (n32 : Int) (gg : Unit) => [(3, .int .i64 n32)]) (fun (n32 : Int) (gg : Unit) => []) ?_ ?_
  · have hm := h2
    refine VW.block (VW.loop FU ?_)
    refine VL.fuelS (R := _) (fun zn (zs : Int × Nat) => lex_Runes.l1 s zn zs.1 zs.2) (fun (zs : Int × Nat) (zg : Unit) => [(0, .str s), (3, .int .i64 zs.1), (7, .ptr b 0)]) (fun (zs : Int × Nat) (zg : Unit) => [.iter b s zs.2]) ((0 : Int), 0) () (fun zs => rfl) (Shift.pick [0] rfl ⟨rfl, rfl, rfl, trivial⟩) h2 ?_
    rintro n4 ⟨n2, pos2⟩ _ hm
    rw [lex_Runes.l1] at hm
    refine VW.seq ?_
    refine VW.region ?_
    rcases ite_or hm with ⟨h4, hm⟩ | ⟨h4, hm⟩
    · refine VR.cons rfl rfl (VO.nextS (i := 0) rfl rfl h4 ?_)
      refine VR.p rfl rfl (VP.extract rfl rfl) ?_
      refine VR.nil ?_
      refine VW.seq ?_
      refine VW.condT rfl rfl ?_
      refine VW.skip ?_
      refine VW.block ?_
      refine VW.seq ?_
      refine VW.region ?_
      refine VR.p rfl rfl (VP.extract rfl rfl) ?_
      refine VR.p rfl rfl (VP.extract rfl rfl) ?_
      refine VR.p rfl rfl (VP.assign rfl) ?_
      refine VR.p rfl rfl (VP.assign rfl) ?_
      refine VR.nil ?_
      refine VW.seq ?_
      refine VW.seq ?_
      refine VW.region ?_
      refine VR.p rfl rfl (VP.move rfl) ?_
      refine VR.p rfl rfl (VP.move rfl) ?_
      refine VR.p rfl rfl (VP.move rfl) ?_
      obtain ⟨r, h5, hm⟩ := bnd hm
      refine VR.cons rfl rfl (VO.callK 0 rfl fn24 rfl (lex_right_ok s (pos2 : Int) ((Utf8.decode s pos2).1 : Int) r h5) fun _ _ h7 => ?_)
      obtain ⟨rfl, rfl⟩ := h7
      refine VR.p rfl rfl (VP.not rfl) ?_
      refine VR.nil ?_
      rcases ite_or hm with ⟨h6, hm⟩ | ⟨h6, hm⟩
      · refine VW.condT rfl h6 ?_
        refine VW.seq ?_
        refine VW.region ?_
        refine VR.p rfl rfl (VP.assign rfl) ?_
        refine VR.nil ?_
        obtain rfl := Option.some.inj hm
        have hm := Out.ret_on h3
        obtain rfl := Option.some.inj hm
        exact VW.ret ⟨.inl rfl, _, .cons (.tmp _ _ rfl) .nil, [], _, rfl, rfl, rfl⟩
      · have h6 := bf h6
        refine VW.condF rfl h6 ?_
        refine VW.skip ?_
        refine VW.region ?_
        refine VR.p rfl rfl (VP.move rfl) ?_
        refine VR.p rfl rfl (VP.arith rfl rfl rfl) ?_
        refine VR.p rfl rfl (VP.assign rfl) ?_
        refine VR.nil ?_
        exact ⟨((IntKind.i64.wrap (n2 + (1 : Int))), (pos2 + (Utf8.decode s pos2).2)), (), hm, (Shift.pick [0] rfl ⟨rfl, rfl, rfl, trivial⟩)⟩
    · refine VR.cons rfl rfl (VP.vo (VP.nextE (i := 0) rfl rfl h4) ?_)
      refine VR.p rfl rfl (VP.extract rfl rfl) ?_
      refine VR.nil ?_
      refine VW.seq ?_
      refine VW.condF rfl rfl ?_
      refine VW.exit ?_
      exact ⟨n2, (), (Option.some.inj hm).symm, (Shift.pick [] rfl ⟨rfl, trivial⟩)⟩
  · rintro n32 _ rfl
    have hm := Out.go_on h3
    refine VW.seq ?_
    refine VW.region ?_
    refine VR.p rfl rfl (VP.move rfl) ?_
    refine VR.p rfl rfl (VP.assign rfl) ?_
    refine VR.nil ?_
    obtain rfl := Option.some.inj hm
    exact VW.ret ⟨.inl rfl, _, .cons (.tmp _ _ rfl) .nil, [], _, rfl, rfl, rfl⟩

/-! trireme/lex.blank -/
def lex_blank (c : Int) : Option Bool :=
  some ((((c == (32 : Int)) || (c == (9 : Int))) || (c == (10 : Int))) || (c == (13 : Int)))
theorem lex_blank_ok (c : Int) (r : Bool) (hm : lex_blank c = some r) :
    VC Try.prog 27 [.int .i32 c] [] (fun x H' => x = .bool r ∧ H' = []) := by
  unfold lex_blank at hm
  refine VC.run (c := _) (rs := [.tmp 2]) Try.func27 rfl rfl rfl ?_
  refine VW.seq ?_
  refine VW.region ?_
  refine VR.p rfl rfl (VP.assign rfl) ?_
  refine VR.nil ?_
  refine VW.seq ?_
  refine VW.region ?_
  refine VR.p rfl rfl (VP.move rfl) ?_
  refine VR.p rfl rfl (VP.arith rfl rfl rfl) ?_
  refine VR.p rfl rfl (VP.move rfl) ?_
  refine VR.sc 3 8 (.bool ((c == (32 : Int)) || (c == (9 : Int)))) (fun K' J => ?_) ?_
  · rcases Bool.eq_false_or_eq_true (c == (32 : Int)) with h1 | h1
    · refine VR.skipG rfl rfl rfl rfl h1 ?_
      refine VR.skipG rfl rfl rfl rfl h1 ?_
      refine VR.p rfl rfl (VP.pickB true rfl h1 rfl) ?_
      exact J [_, _] _ rfl (orT h1)
    · refine VR.pG rfl rfl rfl rfl h1 (VP.move rfl) ?_
      refine VR.pG rfl rfl rfl rfl h1 (VP.arith rfl rfl rfl) ?_
      refine VR.p rfl rfl (VP.pickB false rfl h1 rfl) ?_
      exact J [_, _] _ rfl (orF h1)
  · refine VR.p rfl rfl (VP.move rfl) ?_
    refine VR.sc 3 12 (.bool (((c == (32 : Int)) || (c == (9 : Int))) || (c == (10 : Int)))) (fun K' J => ?_) ?_
    · rcases Bool.eq_false_or_eq_true ((c == (32 : Int)) || (c == (9 : Int))) with h2 | h2
      · refine VR.skipG rfl rfl rfl rfl h2 ?_
        refine VR.skipG rfl rfl rfl rfl h2 ?_
        refine VR.p rfl rfl (VP.pickB true rfl h2 rfl) ?_
        exact J [_, _] _ rfl (orT h2)
      · refine VR.pG rfl rfl rfl rfl h2 (VP.move rfl) ?_
        refine VR.pG rfl rfl rfl rfl h2 (VP.arith rfl rfl rfl) ?_
        refine VR.p rfl rfl (VP.pickB false rfl h2 rfl) ?_
        exact J [_, _] _ rfl (orF h2)
    · refine VR.p rfl rfl (VP.move rfl) ?_
      refine VR.sc 3 16 (.bool ((((c == (32 : Int)) || (c == (9 : Int))) || (c == (10 : Int))) || (c == (13 : Int)))) (fun K' J => ?_) ?_
      · rcases Bool.eq_false_or_eq_true (((c == (32 : Int)) || (c == (9 : Int))) || (c == (10 : Int))) with h3 | h3
        · refine VR.skipG rfl rfl rfl rfl h3 ?_
          refine VR.skipG rfl rfl rfl rfl h3 ?_
          refine VR.p rfl rfl (VP.pickB true rfl h3 rfl) ?_
          exact J [_, _] _ rfl (orT h3)
        · refine VR.pG rfl rfl rfl rfl h3 (VP.move rfl) ?_
          refine VR.pG rfl rfl rfl rfl h3 (VP.arith rfl rfl rfl) ?_
          refine VR.p rfl rfl (VP.pickB false rfl h3 rfl) ?_
          exact J [_, _] _ rfl (orF h3)
      · refine VR.p rfl rfl (VP.assign rfl) ?_
        refine VR.nil ?_
        obtain rfl := Option.some.inj hm
        exact VW.ret ⟨.inl rfl, _, .cons (.tmp _ _ rfl) .nil, [], _, rfl, rfl, rfl⟩

/-! (*trireme/lex.scanner).pass -/
def lex_scanner_pass.l1 (n : Int) : Nat → T_lex_scanner → Int → Option T_lex_scanner
  | 0, _, _ => none
  | n2 + 1, x3, i2 =>
    if (decide (i2 < (IntKind.i64.wrap (x3.at_ + n)))) = true then
      (V.gi x3.s i2).bind fun v =>
      if (v == (10 : Int)) = true then
        lex_scanner_pass.l1 n n2 (⟨x3.s, x3.at_, (IntKind.i64.wrap (x3.line + (1 : Int))), (IntKind.i64.wrap (i2 + (1 : Int)))⟩ : T_lex_scanner) (IntKind.i64.wrap (i2 + (1 : Int)))
      else
        lex_scanner_pass.l1 n n2 x3 (IntKind.i64.wrap (i2 + (1 : Int)))
    else
      some x3
def lex_scanner_pass (x : T_lex_scanner) (n : Int) : Option T_lex_scanner :=
  (lex_scanner_pass.l1 n FU x x.at_).bind fun x42 =>
  some (⟨x42.s, (IntKind.i64.wrap (x42.at_ + n)), x42.line, x42.from_⟩ : T_lex_scanner)
theorem lex_scanner_pass_ok (x : T_lex_scanner) (n : Int) (b : Nat) (r : T_lex_scanner) (hm : lex_scanner_pass x n = some r) :
    VC Try.prog 28 [.ptr b 0, .int .i64 n] [.box b 46 (T_lex_scanner.cells x)] (fun x H' => x = .tup [] ∧ H' = [.box b 46 (T_lex_scanner.cells r)]) := by
  unfold lex_scanner_pass at hm
  refine VC.run (c := _) (rs := []) Try.func28 rfl rfl rfl ?_
  refine VW.seq ?_
  refine VW.seq ?_
  refine VW.region ?_
  refine VR.p rfl rfl (VP.move rfl) ?_
  refine VR.p rfl rfl (VP.nilCheckP rfl) ?_
  refine VR.p rfl rfl (VP.fieldP rfl fa46_1) ?_
  refine VR.p rfl rfl (VP.loadP (i := 0) rfl rfl ld3 rfl) ?_
  refine VR.p rfl rfl (VP.assign rfl) ?_
  refine VR.nil ?_
  obtain ⟨o, h1, h2⟩ := bnd hm
  refine VW.joinE (fun (q : T_lex_scanner) => q = o) (fun (x42 : T_lex_scanner) (gg : Unit) => [(0, .ptr b 0), (1, .int .i64 n)]) (fun (x42 : T_lex_scanner) (gg : Unit) => [.box b 46 (T_lex_scanner.cells x42)]) ?_ ?_
  · have hm := h1
    refine VW.block (VW.loop FU ?_)
    refine VL.fuelS (R := _) (fun zn (zs : T_lex_scanner × Int) => lex_scanner_pass.l1 n zn zs.1 zs.2) (fun (zs : T_lex_scanner × Int) (zg : Unit) => [(0, .ptr b 0), (1, .int .i64 n), (4, .int .i64 zs.2)]) (fun (zs : T_lex_scanner × Int) (zg : Unit) => [.box b 46 (T_lex_scanner.cells zs.1)]) (x, x.at_) () (fun zs => rfl) (Shift.pick [0] rfl ⟨rfl, rfl, rfl, trivial⟩) h1 ?_
    rintro n2 ⟨x3, i2⟩ _ hm
    rw [lex_scanner_pass.l1] at hm
    refine VW.seq ?_
    refine VW.seq ?_
    refine VW.region ?_
    refine VR.p rfl rfl (VP.move rfl) ?_
    refine VR.p rfl rfl (VP.move rfl) ?_
    refine VR.p rfl rfl (VP.nilCheckP rfl) ?_
    refine VR.p rfl rfl (VP.fieldP rfl fa46_1) ?_
    refine VR.p rfl rfl (VP.loadP (i := 0) rfl rfl ld3 rfl) ?_
    refine VR.p rfl rfl (VP.move rfl) ?_
    refine VR.p rfl rfl (VP.arith rfl rfl rfl) ?_
    refine VR.p rfl rfl (VP.arith rfl rfl rfl) ?_
    refine VR.nil ?_
    rcases ite_or hm with ⟨h3, hm⟩ | ⟨h3, hm⟩
    · refine VW.condT rfl h3 ?_
      refine VW.skip ?_
      refine VW.seq ?_
      refine VW.block ?_
      refine VW.seq ?_
      refine VW.region ?_
      refine VR.p rfl rfl (VP.move rfl) ?_
      refine VR.p rfl rfl (VP.nilCheckP rfl) ?_
      refine VR.p rfl rfl (VP.fieldP rfl fa46_0) ?_
      refine VR.p rfl rfl (VP.loadP (i := 0) rfl rfl ld9 rfl) ?_
      refine VR.p rfl rfl (VP.move rfl) ?_
      obtain ⟨v, h4, hm⟩ := bnd hm
      refine VR.p rfl rfl (VP.gi rfl rfl Try.underlying9 h4) ?_
      refine VR.p rfl rfl (VP.arith rfl rfl rfl) ?_
      refine VR.nil ?_
      rcases ite_or hm with ⟨h5, hm⟩ | ⟨h5, hm⟩
      · refine VW.condT rfl h5 ?_
        refine VW.seq ?_
        refine VW.region ?_
        refine VR.p rfl rfl (VP.move rfl) ?_
        refine VR.p rfl rfl (VP.nilCheckP rfl) ?_
        refine VR.p rfl rfl (VP.fieldP rfl fa46_2) ?_
        refine VR.p rfl rfl (VP.loadP (i := 0) rfl rfl ld3 rfl) ?_
        refine VR.p rfl rfl (VP.arith rfl rfl rfl) ?_
        refine VR.p rfl rfl (VP.nilCheckP rfl) ?_
        refine VR.p rfl rfl (VP.fieldP rfl fa46_2) ?_
        refine VR.cons rfl rfl (VO.storeP (i := 0) rfl rfl rfl ld3 rfl rfl rfl ?_)
        refine VR.nil ?_
        refine VW.region ?_
        refine VR.p rfl rfl (VP.move rfl) ?_
        refine VR.p rfl rfl (VP.move rfl) ?_
        refine VR.p rfl rfl (VP.arith rfl rfl rfl) ?_
        refine VR.p rfl rfl (VP.nilCheckP rfl) ?_
        refine VR.p rfl rfl (VP.fieldP rfl fa46_3) ?_
        refine VR.cons rfl rfl (VO.storeP (i := 0) rfl rfl rfl ld3 rfl rfl rfl ?_)
        refine VR.nil ?_
        refine VW.region ?_
        refine VR.p rfl rfl (VP.move rfl) ?_
        refine VR.p rfl rfl (VP.arith rfl rfl rfl) ?_
        refine VR.p rfl rfl (VP.assign rfl) ?_
        refine VR.nil ?_
        exact ⟨((⟨x3.s, x3.at_, (IntKind.i64.wrap (x3.line + (1 : Int))), (IntKind.i64.wrap (i2 + (1 : Int)))⟩ : T_lex_scanner), (IntKind.i64.wrap (i2 + (1 : Int)))), (), hm, (Shift.pick [0] rfl ⟨rfl, rfl, rfl, trivial⟩)⟩
      · have h5 := bf h5
        refine VW.condF rfl h5 ?_
        refine VW.skip ?_
        refine VW.region ?_
        refine VR.p rfl rfl (VP.move rfl) ?_
        refine VR.p rfl rfl (VP.arith rfl rfl rfl) ?_
        refine VR.p rfl rfl (VP.assign rfl) ?_
        refine VR.nil ?_
        exact ⟨(x3, (IntKind.i64.wrap (i2 + (1 : Int)))), (), hm, (Shift.pick [0] rfl ⟨rfl, rfl, rfl, trivial⟩)⟩
    · have h3 := bf h3
      refine VW.condF rfl h3 ?_
      refine VW.exit ?_
      exact ⟨x3, (), Option.some.inj hm, (Shift.pick [0] rfl ⟨rfl, rfl, trivial⟩)⟩
  · rintro x42 _ rfl
    have hm := h2
    refine VW.region ?_
    refine VR.p rfl rfl (VP.move rfl) ?_
    refine VR.p rfl rfl (VP.nilCheckP rfl) ?_
    refine VR.p rfl rfl (VP.fieldP rfl fa46_1) ?_
    refine VR.p rfl rfl (VP.loadP (i := 0) rfl rfl ld3 rfl) ?_
    refine VR.p rfl rfl (VP.move rfl) ?_
    refine VR.p rfl rfl (VP.arith rfl rfl rfl) ?_
    refine VR.p rfl rfl (VP.nilCheckP rfl) ?_
    refine VR.p rfl rfl (VP.fieldP rfl fa46_1) ?_
    refine VR.cons rfl rfl (VO.storeP (i := 0) rfl rfl rfl ld3 rfl rfl rfl ?_)
    refine VR.nil ?_
    obtain rfl := Option.some.inj hm
    exact ⟨.inr rfl, _, .nil, [0], _, rfl, rfl, rfl⟩

/-! (*trireme/lex.scanner).remark$1 -/
def lex_scanner_remark_1 (c : Int) : Option Bool :=
  some (c != (10 : Int))
theorem lex_scanner_remark_1_ok (c : Int) (r : Bool) (hm : lex_scanner_remark_1 c = some r) :
    VC Try.prog 32 [.int .i32 c] [] (fun x H' => x = .bool r ∧ H' = []) := by
  unfold lex_scanner_remark_1 at hm
  refine VC.run (c := _) (rs := [.tmp 2]) Try.func32 rfl rfl rfl ?_
  refine VW.seq ?_
  refine VW.region ?_
  refine VR.p rfl rfl (VP.assign rfl) ?_
  refine VR.nil ?_
  refine VW.seq ?_
  refine VW.region ?_
  refine VR.p rfl rfl (VP.move rfl) ?_
  refine VR.p rfl rfl (VP.arith rfl rfl rfl) ?_
  refine VR.p rfl rfl (VP.assign rfl) ?_
  refine VR.nil ?_
  obtain rfl := Option.some.inj hm
  exact VW.ret ⟨.inl rfl, _, .cons (.tmp _ _ rfl) .nil, [], _, rfl, rfl, rfl⟩

/-! trireme/lex.head -/
def lex_head_lex_scanner_remark_1.l1 (s : ByteArray) : Nat → Nat → Option (Out (Int × Bool) Unit)
  | 0, _ => none
  | n + 1, pos2 =>
    if pos2 < s.size then
      (lex_right s (pos2 : Int) ((Utf8.decode s pos2).1 : Int)).bind fun r =>
      if (!r) = true then
        some (Out.ret ((pos2 : Int), false))
      else
        (lex_scanner_remark_1 ((Utf8.decode s pos2).1 : Int)).bind fun r2 =>
        if (!r2) = true then
          some (Out.ret ((pos2 : Int), true))
        else
          lex_head_lex_scanner_remark_1.l1 s n (pos2 + (Utf8.decode s pos2).2)
    else
      some (Out.go ())
def lex_head_lex_scanner_remark_1 (s : ByteArray) : Option (Int × Bool) :=
  (lex_head_lex_scanner_remark_1.l1 s FU 0).bind fun o =>
  o.on fun j =>
  some ((s.size : Int), true)
theorem lex_head_lex_scanner_remark_1_ok (s : ByteArray) (r : Int × Bool) (hm : lex_head_lex_scanner_remark_1 s = some r) :
    VC Try.prog 20 [.str s, .clo (.func 32) [] []] [] (fun x H' => x = .tup [.int .i64 r.1, .bool r.2] ∧ H' = []) := by
  unfold lex_head_lex_scanner_remark_1 at hm
  refine VC.run (c := _) (rs := [.tmp 4, .tmp 5]) Try.func20 rfl rfl rfl ?_
  refine VW.seq ?_
  refine VW.region ?_
  refine VR.p rfl rfl (VP.assign rfl) ?_
  refine VR.p rfl rfl (VP.assign rfl) ?_
  refine VR.nil ?_
  refine VW.seq ?_
  refine VW.seq ?_
  refine VW.region ?_
  refine VR.p rfl rfl (VP.move rfl) ?_
  refine VR.cons rfl rfl (VO.range Try.underlying9 rfl fun b => ?_)
  refine VR.nil ?_
  obtain ⟨o, h2, h3⟩ := bnd hm
  refine VW.joinE (fun (q : Unit) => o = Out.go q) (fun (j : Unit) (gg : Unit) => [(0, .str s)]) (fun (j : Unit) (gg : Unit) => []) ?_ ?_
  · have hm := h2
    refine VW.block (VW.loop FU ?_)
    refine VL.fuelS (R := _) (fun zn (zs : Nat) => lex_head_lex_scanner_remark_1.l1 s zn zs) (fun (zs : Nat) (zg : Unit) => [(0, .str s), (1, .clo (.func 32) [] []), (9, .ptr b 0)]) (fun (zs : Nat) (zg : Unit) => [.iter b s zs]) 0 () (fun zs => rfl) (Shift.pick [0] rfl ⟨rfl, rfl, rfl, trivial⟩) h2 ?_
    rintro n pos2 _ hm
    rw [lex_head_lex_scanner_remark_1.l1] at hm
    refine VW.seq ?_
    refine VW.region ?_
    rcases ite_or hm with ⟨h4, hm⟩ | ⟨h4, hm⟩
    · refine VR.cons rfl rfl (VO.nextS (i := 0) rfl rfl h4 ?_)
      refine VR.p rfl rfl (VP.extract rfl rfl) ?_
      refine VR.nil ?_
      refine VW.seq ?_
      refine VW.condT rfl rfl ?_
      refine VW.skip ?_
      refine VW.block ?_
      refine VW.seq ?_
      refine VW.region ?_
      refine VR.p rfl rfl (VP.extract rfl rfl) ?_
      refine VR.p rfl rfl (VP.extract rfl rfl) ?_
      refine VR.p rfl rfl (VP.assign rfl) ?_
      refine VR.p rfl rfl (VP.assign rfl) ?_
      refine VR.nil ?_
      refine VW.seq ?_
      refine VW.seq ?_
      refine VW.region ?_
      refine VR.p rfl rfl (VP.move rfl) ?_
      refine VR.p rfl rfl (VP.move rfl) ?_
      refine VR.p rfl rfl (VP.move rfl) ?_
      obtain ⟨r, h5, hm⟩ := bnd hm
      refine VR.cons rfl rfl (VO.callK 0 rfl fn24 rfl (lex_right_ok s (pos2 : Int) ((Utf8.decode s pos2).1 : Int) r h5) fun _ _ h10 => ?_)
      obtain ⟨rfl, rfl⟩ := h10
      refine VR.p rfl rfl (VP.not rfl) ?_
      refine VR.nil ?_
      rcases ite_or hm with ⟨h6, hm⟩ | ⟨h6, hm⟩
      · refine VW.condT rfl h6 ?_
        refine VW.seq ?_
        refine VW.region ?_
        refine VR.p rfl rfl (VP.move rfl) ?_
        refine VR.p rfl rfl (VP.assign rfl) ?_
        refine VR.p rfl rfl (VP.assign rfl) ?_
        refine VR.nil ?_
        obtain rfl := Option.some.inj hm
        have hm := Out.ret_on h3
        obtain rfl := Option.some.inj hm
        exact VW.ret ⟨.inl rfl, _, .cons (.tmp _ _ rfl) (.cons (.tmp _ _ rfl) .nil), [], _, rfl, rfl, rfl⟩
      · have h6 := bf h6
        refine VW.condF rfl h6 ?_
        refine VW.skip ?_
        refine VW.seq ?_
        refine VW.region ?_
        refine VR.p rfl rfl (VP.move rfl) ?_
        refine VR.p rfl rfl (VP.move rfl) ?_
        obtain ⟨r2, h7, hm⟩ := bnd hm
        refine VR.cons rfl rfl (VO.callK 0 rfl fn32 rfl (lex_scanner_remark_1_ok ((Utf8.decode s pos2).1 : Int) r2 h7) fun _ _ h9 => ?_)
        obtain ⟨rfl, rfl⟩ := h9
        refine VR.p rfl rfl (VP.not rfl) ?_
        refine VR.nil ?_
        rcases ite_or hm with ⟨h8, hm⟩ | ⟨h8, hm⟩
        · refine VW.condT rfl h8 ?_
          refine VW.seq ?_
          refine VW.region ?_
          refine VR.p rfl rfl (VP.move rfl) ?_
          refine VR.p rfl rfl (VP.assign rfl) ?_
          refine VR.p rfl rfl (VP.assign rfl) ?_
          refine VR.nil ?_
          obtain rfl := Option.some.inj hm
          have hm := Out.ret_on h3
          obtain rfl := Option.some.inj hm
          exact VW.ret ⟨.inl rfl, _, .cons (.tmp _ _ rfl) (.cons (.tmp _ _ rfl) .nil), [], _, rfl, rfl, rfl⟩
        · have h8 := bf h8
          refine VW.condF rfl h8 ?_
          refine VW.skip ?_
          exact ⟨(pos2 + (Utf8.decode s pos2).2), (), hm, (Shift.pick [0] rfl ⟨rfl, rfl, rfl, trivial⟩)⟩
    · refine VR.cons rfl rfl (VP.vo (VP.nextE (i := 0) rfl rfl h4) ?_)
      refine VR.p rfl rfl (VP.extract rfl rfl) ?_
      refine VR.nil ?_
      refine VW.seq ?_
      refine VW.condF rfl rfl ?_
      refine VW.exit ?_
      exact ⟨(), (), (Option.some.inj hm).symm, (Shift.pick [] rfl ⟨rfl, trivial⟩)⟩
  · rintro j _ rfl
    have hm := Out.go_on h3
    refine VW.seq ?_
    refine VW.region ?_
    refine VR.p rfl rfl (VP.move rfl) ?_
    refine VR.p rfl rfl (VP.lenS rfl Try.underlying9) ?_
    refine VR.p rfl rfl (VP.assign rfl) ?_
    refine VR.p rfl rfl (VP.assign rfl) ?_
    refine VR.nil ?_
    obtain rfl := Option.some.inj hm
    exact VW.ret ⟨.inl rfl, _, .cons (.tmp _ _ rfl) (.cons (.tmp _ _ rfl) .nil), [], _, rfl, rfl, rfl⟩

/-! (*trireme/lex.scanner).remark -/
def lex_scanner_remark (x : T_lex_scanner) : Option (T_lex_fault × T_lex_scanner) :=
  (V.ss x.s (some x.at_) none).bind fun v =>
  (lex_head_lex_scanner_remark_1 v).bind fun r =>
  if (!r.2) = true then
    some ((⟨(2 : Int), (IntKind.i64.wrap (x.at_ + r.1))⟩ : T_lex_fault), x)
  else
    (lex_scanner_pass x r.1).bind fun r2 =>
    some ((⟨(0 : Int), (0 : Int)⟩ : T_lex_fault), r2)
theorem lex_scanner_remark_ok (x : T_lex_scanner) (b : Nat) (r : T_lex_fault × T_lex_scanner) (hm : lex_scanner_remark x = some r) :
    VC Try.prog 29 [.ptr b 0] [.box b 46 (T_lex_scanner.cells x)] (fun x H' => x = T_lex_fault.vv r.1 ∧ H' = [.box b 46 (T_lex_scanner.cells r.2)]) := by
  unfold lex_scanner_remark at hm
  refine VC.run (c := _) (rs := [.cell 2 48]) Try.func29 rfl rfl rfl ?_
  refine VW.seq ?_
  refine VW.region ?_
  refine VR.cons rfl rfl (VO.alloc z48 fun b2 => ?_)
  refine VR.nil ?_
  refine VW.seq ?_
  refine VW.drawK 0 mixed ?_
  refine VA.p 0 rfl rfl rfl (by kernel_rfl) (VP.move rfl) ?_
  refine VA.p 1 rfl rfl rfl (by kernel_rfl) (VP.nilCheckP rfl) ?_
  refine VA.p 2 rfl rfl rfl (by kernel_rfl) (VP.fieldP rfl fa46_0) ?_
  refine VA.p 3 rfl rfl rfl (by kernel_rfl) (VP.loadP (i := 1) rfl rfl ld9 rfl) ?_
  refine VA.p 4 rfl rfl rfl (by kernel_rfl) (VP.move rfl) ?_
  refine VA.p 5 rfl rfl rfl (by kernel_rfl) (VP.nilCheckP rfl) ?_
  refine VA.p 6 rfl rfl rfl (by kernel_rfl) (VP.fieldP rfl fa46_1) ?_
  refine VA.p 7 rfl rfl rfl (by kernel_rfl) (VP.loadP (i := 1) rfl rfl ld3 rfl) ?_
  obtain ⟨v, h2, hm⟩ := bnd hm
  refine VA.p 8 rfl rfl rfl (by kernel_rfl) (VP.ssT rfl rfl rfl Try.underlying9 h2) ?_
  refine VA.all [9] (by kernel_rfl) ⟨?_, trivial⟩
  obtain ⟨r, h3, hm⟩ := bnd hm
  refine VB.o rfl rfl rfl (VO.callK 0 rfl fn20 rfl (lex_head_lex_scanner_remark_1_ok v r h3) fun _ _ h7 => ?_)
  obtain ⟨rfl, rfl⟩ := h7
  refine VA.p 10 rfl rfl rfl (by kernel_rfl) (VP.move rfl) ?_
  refine VA.p 11 rfl rfl rfl (by kernel_rfl) (VP.extract rfl rfl) ?_
  refine VA.p 12 rfl rfl rfl (by kernel_rfl) (VP.extract rfl rfl) ?_
  refine VA.p 13 rfl rfl rfl (by kernel_rfl) (VP.assign rfl) ?_
  refine VA.p 14 rfl rfl rfl (by kernel_rfl) (VP.assign rfl) ?_
  refine VA.done (by kernel_rfl) ?_
  refine VW.seq ?_
  refine VW.seq ?_
  refine VW.region ?_
  refine VR.p rfl rfl (VP.move rfl) ?_
  refine VR.p rfl rfl (VP.not rfl) ?_
  refine VR.nil ?_
  rcases ite_or hm with ⟨h4, hm⟩ | ⟨h4, hm⟩
  · refine VW.condT rfl h4 ?_
    refine VW.seq ?_
    refine VW.region ?_
    refine VR.p rfl rfl (VP.move rfl) ?_
    refine VR.p rfl rfl (VP.nilCheckP rfl) ?_
    refine VR.p rfl rfl (VP.fieldP rfl fa46_1) ?_
    refine VR.p rfl rfl (VP.loadP (i := 1) rfl rfl ld3 rfl) ?_
    refine VR.p rfl rfl (VP.move rfl) ?_
    refine VR.p rfl rfl (VP.arith rfl rfl rfl) ?_
    refine VR.p rfl rfl (VP.buildP pl48 rfl rfl) ?_
    refine VR.cons rfl rfl (VO.storeP (i := 0) rfl rfl rfl ld48 rfl rfl rfl ?_)
    refine VR.nil ?_
    obtain rfl := Option.some.inj hm
    exact VW.ret ⟨.inl rfl, _, .cons (.cell _ _ _ _ 0 _ _ _ _ rfl rfl ld48 rfl) .nil, [1], _, rfl, rfl, rfl⟩
  · have h4 := bf h4
    refine VW.condF rfl h4 ?_
    refine VW.skip ?_
    refine VW.seq ?_
    refine VW.region ?_
    refine VR.p rfl rfl (VP.move rfl) ?_
    refine VR.p rfl rfl (VP.move rfl) ?_
    obtain ⟨r2, h5, hm⟩ := bnd hm
    refine VR.shift (Shift.mem [1, 0] rfl) ?_
    refine VR.cons rfl rfl (VO.callK 1 rfl fn28 rfl (lex_scanner_pass_ok x r.1 b r2 h5) fun _ _ h6 => ?_)
    obtain ⟨rfl, rfl⟩ := h6
    refine VR.nil ?_
    refine VW.seq ?_
    refine VW.region ?_
    refine VR.p rfl rfl (VP.buildP pl48 rfl rfl) ?_
    refine VR.cons rfl rfl (VO.storeP (i := 1) rfl rfl rfl ld48 rfl rfl rfl ?_)
    refine VR.nil ?_
    obtain rfl := Option.some.inj hm
    exact VW.ret ⟨.inl rfl, _, .cons (.cell _ _ _ _ 1 _ _ _ _ rfl rfl ld48 rfl) .nil, [0], _, rfl, rfl, rfl⟩

/-! trireme/lex.masked -/
def lex_masked (c : Int) : Option (Int × Bool) :=
  if (c == (110 : Int)) = true then
    some ((10 : Int), true)
  else
    if (c == (34 : Int)) = true then
      some (c, true)
    else
      if (c == (92 : Int)) = true then
        some (c, true)
      else
        some ((0 : Int), false)
theorem lex_masked_ok (c : Int) (r : Int × Bool) (hm : lex_masked c = some r) :
    VC Try.prog 33 [.int .u8 c] [] (fun x H' => x = .tup [.int .u8 r.1, .bool r.2] ∧ H' = []) := by
  unfold lex_masked at hm
  refine VC.run (c := _) (rs := [.tmp 2, .tmp 3]) Try.func33 rfl rfl rfl ?_
  refine VW.seq ?_
  refine VW.region ?_
  refine VR.p rfl rfl (VP.assign rfl) ?_
  refine VR.p rfl rfl (VP.assign rfl) ?_
  refine VR.nil ?_
  refine VW.seq ?_
  refine VW.seq ?_
  refine VW.region ?_
  refine VR.p rfl rfl (VP.move rfl) ?_
  refine VR.nil ?_
  refine VW.block ?_
  refine VW.seq ?_
  refine VW.region ?_
  refine VR.p rfl rfl (VP.arith rfl rfl rfl) ?_
  refine VR.p rfl rfl (VP.assign rfl) ?_
  refine VR.nil ?_
  rcases ite_or hm with ⟨h1, hm⟩ | ⟨h1, hm⟩
  · refine VW.condT rfl h1 ?_
    refine VW.seq ?_
    refine VW.region ?_
    refine VR.p rfl rfl (VP.assign rfl) ?_
    refine VR.p rfl rfl (VP.assign rfl) ?_
    refine VR.nil ?_
    obtain rfl := Option.some.inj hm
    exact VW.ret ⟨.inl rfl, _, .cons (.tmp _ _ rfl) (.cons (.tmp _ _ rfl) .nil), [], _, rfl, rfl, rfl⟩
  · have h1 := bf h1
    refine VW.condF rfl h1 ?_
    refine VW.seq ?_
    refine VW.seq ?_
    refine VW.region ?_
    refine VR.p rfl rfl (VP.arith rfl rfl rfl) ?_
    refine VR.p rfl rfl (VP.assign rfl) ?_
    refine VR.nil ?_
    rcases ite_or hm with ⟨h2, hm⟩ | ⟨h2, hm⟩
    · refine VW.condT rfl h2 ?_
      refine VW.skip ?_
      refine VW.condT rfl h2 ?_
      refine VW.seq ?_
      refine VW.region ?_
      refine VR.p rfl rfl (VP.move rfl) ?_
      refine VR.p rfl rfl (VP.assign rfl) ?_
      refine VR.p rfl rfl (VP.assign rfl) ?_
      refine VR.nil ?_
      obtain rfl := Option.some.inj hm
      exact VW.ret ⟨.inl rfl, _, .cons (.tmp _ _ rfl) (.cons (.tmp _ _ rfl) .nil), [], _, rfl, rfl, rfl⟩
    · have h2 := bf h2
      refine VW.condF rfl h2 ?_
      refine VW.region ?_
      refine VR.p rfl rfl (VP.arith rfl rfl rfl) ?_
      refine VR.p rfl rfl (VP.assign rfl) ?_
      refine VR.nil ?_
      rcases ite_or hm with ⟨h3, hm⟩ | ⟨h3, hm⟩
      · refine VW.condT rfl h3 ?_
        refine VW.seq ?_
        refine VW.region ?_
        refine VR.p rfl rfl (VP.move rfl) ?_
        refine VR.p rfl rfl (VP.assign rfl) ?_
        refine VR.p rfl rfl (VP.assign rfl) ?_
        refine VR.nil ?_
        obtain rfl := Option.some.inj hm
        exact VW.ret ⟨.inl rfl, _, .cons (.tmp _ _ rfl) (.cons (.tmp _ _ rfl) .nil), [], _, rfl, rfl, rfl⟩
      · have h3 := bf h3
        refine VW.condF rfl h3 ?_
        refine VW.skip ?_
        refine VW.seq ?_
        refine VW.region ?_
        refine VR.p rfl rfl (VP.assign rfl) ?_
        refine VR.p rfl rfl (VP.assign rfl) ?_
        refine VR.nil ?_
        obtain rfl := Option.some.inj hm
        exact VW.ret ⟨.inl rfl, _, .cons (.tmp _ _ rfl) (.cons (.tmp _ _ rfl) .nil), [], _, rfl, rfl, rfl⟩

/-! (*trireme/lex.scanner).text -/
def lex_scanner_text.l1 (x : T_lex_scanner) (v : ByteArray) : Nat → (List Int) → Int → Nat → Option (Out (ByteArray × T_lex_fault × T_lex_scanner) Unit)
  | 0, _, _, _ => none
  | n + 1, b5, skip2, pos3 =>
    if pos3 < v.size then
      if ((pos3 : Int) == (0 : Int)) = true then
        lex_scanner_text.l1 x v n b5 skip2 (pos3 + (Utf8.decode v pos3).2)
      else
        if (decide (skip2 > (0 : Int))) = true then
          lex_scanner_text.l1 x v n b5 (IntKind.i64.wrap (skip2 - (1 : Int))) (pos3 + (Utf8.decode v pos3).2)
        else
          (lex_right v (pos3 : Int) ((Utf8.decode v pos3).1 : Int)).bind fun r =>
          if (((!r) || (((decide (((Utf8.decode v pos3).1 : Int) < (32 : Int))) && (((Utf8.decode v pos3).1 : Int) != (9 : Int))) && (((Utf8.decode v pos3).1 : Int) != (10 : Int)))) || (((Utf8.decode v pos3).1 : Int) == (127 : Int))) = true then
            some (Out.ret ((⟨#[]⟩ : ByteArray), (⟨(2 : Int), (IntKind.i64.wrap (x.at_ + (pos3 : Int)))⟩ : T_lex_fault), x))
          else
            if (((Utf8.decode v pos3).1 : Int) == (34 : Int)) = true then
              (lex_scanner_pass x (IntKind.i64.wrap ((pos3 : Int) + (1 : Int)))).bind fun r2 =>
              some (Out.ret ((strOfNums b5), (⟨(0 : Int), (0 : Int)⟩ : T_lex_fault), r2))
            else
              if (((Utf8.decode v pos3).1 : Int) == (92 : Int)) = true then
                if ((IntKind.i64.wrap ((pos3 : Int) + (1 : Int))) == (v.size : Int)) = true then
                  some (Out.ret ((⟨#[]⟩ : ByteArray), (⟨(2 : Int), (IntKind.i64.wrap (x.at_ + (pos3 : Int)))⟩ : T_lex_fault), x))
                else
                  (V.gi v (IntKind.i64.wrap ((pos3 : Int) + (1 : Int)))).bind fun v2 =>
                  (lex_masked v2).bind fun r3 =>
                  if (!r3.2) = true then
                    some (Out.ret ((⟨#[]⟩ : ByteArray), (⟨(2 : Int), (IntKind.i64.wrap (x.at_ + (pos3 : Int)))⟩ : T_lex_fault), x))
                  else
                    (V.ap 1 b5 [r3.1]).bind fun b7 =>
                    lex_scanner_text.l1 x v n b7 (1 : Int) (pos3 + (Utf8.decode v pos3).2)
              else
                (V.ap 1 b5 (V.bytesL (Utf8.encode ((Utf8.decode v pos3).1 : Int)))).bind fun b8 =>
                lex_scanner_text.l1 x v n b8 skip2 (pos3 + (Utf8.decode v pos3).2)
    else
      some (Out.go ())
def lex_scanner_text (x : T_lex_scanner) : Option (ByteArray × T_lex_fault × T_lex_scanner) :=
  (V.ss x.s (some x.at_) none).bind fun v =>
  (lex_scanner_text.l1 x v FU ([] : List Int) (0 : Int) 0).bind fun o =>
  o.on fun j =>
  some ((⟨#[]⟩ : ByteArray), (⟨(3 : Int), x.at_⟩ : T_lex_fault), x)
theorem lex_scanner_text_ok (x : T_lex_scanner) (b : Nat) (r : ByteArray × T_lex_fault × T_lex_scanner) (hm : lex_scanner_text x = some r) :
    VC Try.prog 30 [.ptr b 0] [.box b 46 (T_lex_scanner.cells x)] (fun x H' => x = .tup [.str r.1, T_lex_fault.vv r.2.1] ∧ H' = [.box b 46 (T_lex_scanner.cells r.2.2)]) := by
  unfold lex_scanner_text at hm
  refine VC.run (c := _) (rs := [.tmp 2, .cell 3 48]) Try.func30 rfl rfl rfl ?_
  refine VW.seq ?_
  refine VW.region ?_
  refine VR.p rfl rfl (VP.assign rfl) ?_
  refine VR.cons rfl rfl (VO.alloc z48 fun b2 => ?_)
  refine VR.nil ?_
  refine VW.seq ?_
  refine VW.region ?_
  refine VR.p rfl rfl (VP.move rfl) ?_
  refine VR.p rfl rfl (VP.nilCheckP rfl) ?_
  refine VR.p rfl rfl (VP.fieldP rfl fa46_1) ?_
  refine VR.p rfl rfl (VP.loadP (i := 1) rfl rfl ld3 rfl) ?_
  refine VR.p rfl rfl (VP.assign rfl) ?_
  refine VR.nil ?_
  refine VW.seq ?_
  refine VW.region ?_
  refine VR.p rfl rfl (VP.move rfl) ?_
  refine VR.p rfl rfl (VP.nilCheckP rfl) ?_
  refine VR.p rfl rfl (VP.fieldP rfl fa46_0) ?_
  refine VR.p rfl rfl (VP.loadP (i := 1) rfl rfl ld9 rfl) ?_
  refine VR.p rfl rfl (VP.move rfl) ?_
  obtain ⟨v, h2, hm⟩ := bnd hm
  refine VR.p rfl rfl (VP.ssT rfl rfl rfl Try.underlying9 h2) ?_
  refine VR.p rfl rfl (VP.assign rfl) ?_
  refine VR.nil ?_
  refine VW.seq ?_
  refine VW.region ?_
  refine VR.p rfl rfl (VP.assign rfl) ?_
  refine VR.nil ?_
  refine VW.seq ?_
  refine VW.region ?_
  refine VR.p rfl rfl (VP.assign rfl) ?_
  refine VR.nil ?_
  refine VW.seq ?_
  refine VW.seq ?_
  refine VW.region ?_
  refine VR.p rfl rfl (VP.move rfl) ?_
  refine VR.cons rfl rfl (VO.range Try.underlying9 rfl fun b3 => ?_)
  refine VR.nil ?_
  obtain ⟨o, h6, h7⟩ := bnd hm
  refine VW.joinE (fun (q : Unit) => o = Out.go q) (fun (j : Unit) (gg : Unit) => [(3, .ptr b2 0), (4, .int .i64 x.at_)]) (fun (j : Unit) (gg : Unit) => [.box b2 48 (T_lex_fault.cells (⟨(0 : Int), (0 : Int)⟩ : T_lex_fault)), .box b 46 (T_lex_scanner.cells x)]) ?_ ?_
  · have hm := h6
    refine VW.block (VW.loop FU ?_)
    refine VL.fuelS (R := _) (fun zn (zs : List Int × Int × Nat) => lex_scanner_text.l1 x v zn zs.1 zs.2.1 zs.2.2) (fun (zs : List Int × Int × Nat) (zg : Option Nat × Nat) => [(0, .ptr b 0), (3, .ptr b2 0), (4, .int .i64 x.at_), (5, .str v), (6, .sl zg.1 (List.map (VV.int .u8) zs.1).length zg.2), (7, .int .i64 zs.2.1), (23, .ptr b3 0)]) (fun (zs : List Int × Int × Nat) (zg : Option Nat × Nat) => [.row zg.1 5 zg.2 (List.map (VV.int .u8) zs.1), .iter b3 v zs.2.2, .box b2 48 (T_lex_fault.cells (⟨(0 : Int), (0 : Int)⟩ : T_lex_fault)), .box b 46 (T_lex_scanner.cells x)]) (([] : List Int), (0 : Int), 0) (none, 0) (fun zs => rfl) (Shift.trans (Shift.nilRow 5) (Shift.pick [0, 0, 0, 0] rfl ⟨rfl, rfl, rfl, rfl, rfl, rfl, rfl, trivial⟩)) h6 ?_
    rintro n ⟨b5, skip2, pos3⟩ ⟨ob2, cap2⟩ hm
    rw [lex_scanner_text.l1] at hm
    refine VW.seq ?_
    refine VW.region ?_
    rcases ite_or hm with ⟨h8, hm⟩ | ⟨h8, hm⟩
    · refine VR.cons rfl rfl (VO.nextS (i := 1) rfl rfl h8 ?_)
      refine VR.p rfl rfl (VP.extract rfl rfl) ?_
      refine VR.nil ?_
      refine VW.seq ?_
      refine VW.condT rfl rfl ?_
      refine VW.skip ?_
      refine VW.block ?_
      refine VW.seq ?_
      refine VW.region ?_
      refine VR.p rfl rfl (VP.extract rfl rfl) ?_
      refine VR.p rfl rfl (VP.extract rfl rfl) ?_
      refine VR.p rfl rfl (VP.assign rfl) ?_
      refine VR.p rfl rfl (VP.assign rfl) ?_
      refine VR.nil ?_
      refine VW.block ?_
      refine VW.seq ?_
      refine VW.region ?_
      refine VR.p rfl rfl (VP.move rfl) ?_
      refine VR.p rfl rfl (VP.arith rfl rfl rfl) ?_
      refine VR.p rfl rfl (VP.assign rfl) ?_
      refine VR.nil ?_
      rcases ite_or hm with ⟨h9, hm⟩ | ⟨h9, hm⟩
      · refine VW.condT rfl h9 ?_
        refine VW.skip ?_
        exact ⟨(b5, skip2, (pos3 + (Utf8.decode v pos3).2)), (ob2, cap2), hm, (Shift.pick [0, 0, 0, 0] rfl ⟨rfl, rfl, rfl, rfl, rfl, rfl, rfl, trivial⟩)⟩
      · have h9 := bf h9
        refine VW.condF rfl h9 ?_
        refine VW.seq ?_
        refine VW.region ?_
        refine VR.p rfl rfl (VP.move rfl) ?_
        refine VR.p rfl rfl (VP.arith rfl rfl rfl) ?_
        refine VR.p rfl rfl (VP.assign rfl) ?_
        refine VR.nil ?_
        rcases ite_or hm with ⟨h10, hm⟩ | ⟨h10, hm⟩
        · refine VW.condT rfl h10 ?_
          refine VW.region ?_
          refine VR.p rfl rfl (VP.move rfl) ?_
          refine VR.p rfl rfl (VP.arith rfl rfl rfl) ?_
          refine VR.p rfl rfl (VP.assign rfl) ?_
          refine VR.nil ?_
          exact ⟨(b5, (IntKind.i64.wrap (skip2 - (1 : Int))), (pos3 + (Utf8.decode v pos3).2)), (ob2, cap2), hm, (Shift.pick [0, 0, 0, 0] rfl ⟨rfl, rfl, rfl, rfl, rfl, rfl, rfl, trivial⟩)⟩
        · have h10 := bf h10
          refine VW.condF rfl h10 ?_
          refine VW.seq ?_
          refine VW.region ?_
          refine VR.p rfl rfl (VP.move rfl) ?_
          refine VR.p rfl rfl (VP.move rfl) ?_
          refine VR.p rfl rfl (VP.move rfl) ?_
          obtain ⟨r, h11, hm⟩ := bnd hm
          refine VR.cons rfl rfl (VO.callK 0 rfl fn24 rfl (lex_right_ok v (pos3 : Int) ((Utf8.decode v pos3).1 : Int) r h11) fun _ _ h29 => ?_)
          obtain ⟨rfl, rfl⟩ := h29
          refine VR.p rfl rfl (VP.not rfl) ?_
          refine VR.p rfl rfl (VP.move rfl) ?_
          refine VR.sc 11 57 (.bool ((!r) || (((decide (((Utf8.decode v pos3).1 : Int) < (32 : Int))) && (((Utf8.decode v pos3).1 : Int) != (9 : Int))) && (((Utf8.decode v pos3).1 : Int) != (10 : Int))))) (fun K' J => ?_) ?_
          · rcases Bool.eq_false_or_eq_true (!r) with h12 | h12
            · refine VR.skipG rfl rfl rfl rfl h12 ?_
              refine VR.skipG rfl rfl rfl rfl h12 ?_
              refine VR.skipG rfl rfl rfl rfl h12 ?_
              refine VR.skipU rfl rfl rfl rfl ?_
              refine VR.skipU rfl rfl rfl rfl ?_
              refine VR.skipG rfl rfl rfl rfl h12 ?_
              refine VR.skipG rfl rfl rfl rfl h12 ?_
              refine VR.skipU rfl rfl rfl rfl ?_
              refine VR.skipU rfl rfl rfl rfl ?_
              refine VR.skipG rfl rfl rfl rfl h12 ?_
              refine VR.p rfl rfl (VP.pickB true rfl h12 rfl) ?_
              exact J [_, _, _, _, _, _, _, _, _, _] _ rfl (orT h12)
            · refine VR.pG rfl rfl rfl rfl h12 (VP.move rfl) ?_
              refine VR.pG rfl rfl rfl rfl h12 (VP.arith rfl rfl rfl) ?_
              refine VR.pG rfl rfl rfl rfl h12 (VP.move rfl) ?_
              refine VR.sc 3 52 (.bool ((decide (((Utf8.decode v pos3).1 : Int) < (32 : Int))) && (((Utf8.decode v pos3).1 : Int) != (9 : Int)))) (fun K' J => ?_) ?_
              · rcases Bool.eq_false_or_eq_true (decide (((Utf8.decode v pos3).1 : Int) < (32 : Int))) with h13 | h13
                · refine VR.pG rfl rfl rfl rfl h13 (VP.move rfl) ?_
                  refine VR.pG rfl rfl rfl rfl h13 (VP.arith rfl rfl rfl) ?_
                  refine VR.pG rfl rfl rfl rfl h12 (VP.pickB true rfl h13 rfl) ?_
                  exact J [_, _] _ rfl (andT h13)
                · refine VR.skipG rfl rfl rfl rfl h13 ?_
                  refine VR.skipG rfl rfl rfl rfl h13 ?_
                  refine VR.pG rfl rfl rfl rfl h12 (VP.pickB false rfl h13 rfl) ?_
                  exact J [_, _] _ rfl (andF h13)
              · refine VR.pG rfl rfl rfl rfl h12 (VP.move rfl) ?_
                refine VR.sc 3 56 (.bool (((decide (((Utf8.decode v pos3).1 : Int) < (32 : Int))) && (((Utf8.decode v pos3).1 : Int) != (9 : Int))) && (((Utf8.decode v pos3).1 : Int) != (10 : Int)))) (fun K' J => ?_) ?_
                · rcases Bool.eq_false_or_eq_true ((decide (((Utf8.decode v pos3).1 : Int) < (32 : Int))) && (((Utf8.decode v pos3).1 : Int) != (9 : Int))) with h14 | h14
                  · refine VR.pG rfl rfl rfl rfl h14 (VP.move rfl) ?_
                    refine VR.pG rfl rfl rfl rfl h14 (VP.arith rfl rfl rfl) ?_
                    refine VR.pG rfl rfl rfl rfl h12 (VP.pickB true rfl h14 rfl) ?_
                    exact J [_, _] _ rfl (andT h14)
                  · refine VR.skipG rfl rfl rfl rfl h14 ?_
                    refine VR.skipG rfl rfl rfl rfl h14 ?_
                    refine VR.pG rfl rfl rfl rfl h12 (VP.pickB false rfl h14 rfl) ?_
                    exact J [_, _] _ rfl (andF h14)
                · refine VR.p rfl rfl (VP.pickB false rfl h12 rfl) ?_
                  exact J [_, _, _, _, _, _] _ rfl (orF h12)
          · refine VR.p rfl rfl (VP.move rfl) ?_
            refine VR.sc 3 61 (.bool (((!r) || (((decide (((Utf8.decode v pos3).1 : Int) < (32 : Int))) && (((Utf8.decode v pos3).1 : Int) != (9 : Int))) && (((Utf8.decode v pos3).1 : Int) != (10 : Int)))) || (((Utf8.decode v pos3).1 : Int) == (127 : Int)))) (fun K' J => ?_) ?_
            · rcases Bool.eq_false_or_eq_true ((!r) || (((decide (((Utf8.decode v pos3).1 : Int) < (32 : Int))) && (((Utf8.decode v pos3).1 : Int) != (9 : Int))) && (((Utf8.decode v pos3).1 : Int) != (10 : Int)))) with h15 | h15
              · refine VR.skipG rfl rfl rfl rfl h15 ?_
                refine VR.skipG rfl rfl rfl rfl h15 ?_
                refine VR.p rfl rfl (VP.pickB true rfl h15 rfl) ?_
                exact J [_, _] _ rfl (orT h15)
              · refine VR.pG rfl rfl rfl rfl h15 (VP.move rfl) ?_
                refine VR.pG rfl rfl rfl rfl h15 (VP.arith rfl rfl rfl) ?_
                refine VR.p rfl rfl (VP.pickB false rfl h15 rfl) ?_
                exact J [_, _] _ rfl (orF h15)
            · refine VR.p rfl rfl (VP.assign rfl) ?_
              refine VR.nil ?_
              rcases ite_or hm with ⟨h16, hm⟩ | ⟨h16, hm⟩
              · refine VW.condT rfl h16 ?_
                refine VW.seq ?_
                refine VW.region ?_
                refine VR.p rfl rfl (VP.move rfl) ?_
                refine VR.p rfl rfl (VP.move rfl) ?_
                refine VR.p rfl rfl (VP.arith rfl rfl rfl) ?_
                refine VR.p rfl rfl (VP.buildP pl48 rfl rfl) ?_
                refine VR.p rfl rfl (VP.assign rfl) ?_
                refine VR.cons rfl rfl (VO.storeP (i := 2) rfl rfl rfl ld48 rfl rfl rfl ?_)
                refine VR.nil ?_
                obtain rfl := Option.some.inj hm
                have hm := Out.ret_on h7
                obtain rfl := Option.some.inj hm
                exact VW.ret ⟨.inl rfl, _, .cons (.tmp _ _ rfl) (.cons (.cell _ _ _ _ 2 _ _ _ _ rfl rfl ld48 rfl) .nil), [3], _, rfl, rfl, rfl⟩
              · have h16 := bf h16
                refine VW.condF rfl h16 ?_
                refine VW.seq ?_
                refine VW.region ?_
                refine VR.p rfl rfl (VP.move rfl) ?_
                refine VR.p rfl rfl (VP.arith rfl rfl rfl) ?_
                refine VR.p rfl rfl (VP.assign rfl) ?_
                refine VR.nil ?_
                rcases ite_or hm with ⟨h17, hm⟩ | ⟨h17, hm⟩
                · refine VW.condT rfl h17 ?_
                  refine VW.seq ?_
                  refine VW.region ?_
                  refine VR.p rfl rfl (VP.move rfl) ?_
                  refine VR.p rfl rfl (VP.move rfl) ?_
                  refine VR.p rfl rfl (VP.arith rfl rfl rfl) ?_
                  obtain ⟨r2, h18, hm⟩ := bnd hm
                  refine VR.shift (Shift.mem [3, 0, 0, 0] rfl) ?_
                  refine VR.cons rfl rfl (VO.callK 1 rfl fn28 rfl (lex_scanner_pass_ok x (IntKind.i64.wrap ((pos3 : Int) + (1 : Int))) b r2 h18) fun _ _ h19 => ?_)
                  obtain ⟨rfl, rfl⟩ := h19
                  refine VR.nil ?_
                  refine VW.seq ?_
                  refine VW.region ?_
                  refine VR.p rfl rfl (VP.move rfl) ?_
                  refine VR.p rfl rfl (VP.convB (i := 1) (l := b5) el36 Try.underlying5 Try.underlying9 rfl rfl) ?_
                  refine VR.p rfl rfl (VP.buildP pl48 rfl rfl) ?_
                  refine VR.p rfl rfl (VP.assign rfl) ?_
                  refine VR.cons rfl rfl (VO.storeP (i := 3) rfl rfl rfl ld48 rfl rfl rfl ?_)
                  refine VR.nil ?_
                  obtain rfl := Option.some.inj hm
                  have hm := Out.ret_on h7
                  obtain rfl := Option.some.inj hm
                  exact VW.ret ⟨.inl rfl, _, .cons (.tmp _ _ rfl) (.cons (.cell _ _ _ _ 3 _ _ _ _ rfl rfl ld48 rfl) .nil), [0], _, rfl, rfl, rfl⟩
                · have h17 := bf h17
                  refine VW.condF rfl h17 ?_
                  refine VW.seq ?_
                  refine VW.region ?_
                  refine VR.p rfl rfl (VP.move rfl) ?_
                  refine VR.p rfl rfl (VP.arith rfl rfl rfl) ?_
                  refine VR.p rfl rfl (VP.assign rfl) ?_
                  refine VR.nil ?_
                  rcases ite_or hm with ⟨h20, hm⟩ | ⟨h20, hm⟩
                  · refine VW.condT rfl h20 ?_
                    refine VW.seq ?_
                    refine VW.seq ?_
                    refine VW.region ?_
                    refine VR.p rfl rfl (VP.move rfl) ?_
                    refine VR.p rfl rfl (VP.arith rfl rfl rfl) ?_
                    refine VR.p rfl rfl (VP.move rfl) ?_
                    refine VR.p rfl rfl (VP.lenS rfl Try.underlying9) ?_
                    refine VR.p rfl rfl (VP.arith rfl rfl rfl) ?_
                    refine VR.nil ?_
                    rcases ite_or hm with ⟨h21, hm⟩ | ⟨h21, hm⟩
                    · refine VW.condT rfl h21 ?_
                      refine VW.seq ?_
                      refine VW.region ?_
                      refine VR.p rfl rfl (VP.move rfl) ?_
                      refine VR.p rfl rfl (VP.move rfl) ?_
                      refine VR.p rfl rfl (VP.arith rfl rfl rfl) ?_
                      refine VR.p rfl rfl (VP.buildP pl48 rfl rfl) ?_
                      refine VR.p rfl rfl (VP.assign rfl) ?_
                      refine VR.cons rfl rfl (VO.storeP (i := 2) rfl rfl rfl ld48 rfl rfl rfl ?_)
                      refine VR.nil ?_
                      obtain rfl := Option.some.inj hm
                      have hm := Out.ret_on h7
                      obtain rfl := Option.some.inj hm
                      exact VW.ret ⟨.inl rfl, _, .cons (.tmp _ _ rfl) (.cons (.cell _ _ _ _ 2 _ _ _ _ rfl rfl ld48 rfl) .nil), [3], _, rfl, rfl, rfl⟩
                    · have h21 := bf h21
                      refine VW.condF rfl h21 ?_
                      refine VW.skip ?_
                      refine VW.seq ?_
                      refine VW.region ?_
                      refine VR.p rfl rfl (VP.move rfl) ?_
                      refine VR.p rfl rfl (VP.move rfl) ?_
                      refine VR.p rfl rfl (VP.arith rfl rfl rfl) ?_
                      obtain ⟨v2, h22, hm⟩ := bnd hm
                      refine VR.p rfl rfl (VP.gi rfl rfl Try.underlying9 h22) ?_
                      obtain ⟨r3, h23, hm⟩ := bnd hm
                      refine VR.cons rfl rfl (VO.callK 0 rfl fn33 rfl (lex_masked_ok v2 r3 h23) fun _ _ h27 => ?_)
                      obtain ⟨rfl, rfl⟩ := h27
                      refine VR.p rfl rfl (VP.move rfl) ?_
                      refine VR.p rfl rfl (VP.extract rfl rfl) ?_
                      refine VR.p rfl rfl (VP.extract rfl rfl) ?_
                      refine VR.p rfl rfl (VP.assign rfl) ?_
                      refine VR.p rfl rfl (VP.assign rfl) ?_
                      refine VR.nil ?_
                      refine VW.seq ?_
                      refine VW.seq ?_
                      refine VW.region ?_
                      refine VR.p rfl rfl (VP.move rfl) ?_
                      refine VR.p rfl rfl (VP.not rfl) ?_
                      refine VR.nil ?_
                      rcases ite_or hm with ⟨h24, hm⟩ | ⟨h24, hm⟩
                      · refine VW.condT rfl h24 ?_
                        refine VW.seq ?_
                        refine VW.region ?_
                        refine VR.p rfl rfl (VP.move rfl) ?_
                        refine VR.p rfl rfl (VP.move rfl) ?_
                        refine VR.p rfl rfl (VP.arith rfl rfl rfl) ?_
                        refine VR.p rfl rfl (VP.buildP pl48 rfl rfl) ?_
                        refine VR.p rfl rfl (VP.assign rfl) ?_
                        refine VR.cons rfl rfl (VO.storeP (i := 2) rfl rfl rfl ld48 rfl rfl rfl ?_)
                        refine VR.nil ?_
                        obtain rfl := Option.some.inj hm
                        have hm := Out.ret_on h7
                        obtain rfl := Option.some.inj hm
                        exact VW.ret ⟨.inl rfl, _, .cons (.tmp _ _ rfl) (.cons (.cell _ _ _ _ 2 _ _ _ _ rfl rfl ld48 rfl) .nil), [3], _, rfl, rfl, rfl⟩
                      · have h24 := bf h24
                        refine VW.condF rfl h24 ?_
                        refine VW.skip ?_
                        refine VW.seq ?_
                        refine VW.region ?_
                        refine VR.p rfl rfl (VP.move rfl) ?_
                        refine VR.p rfl rfl (VP.move rfl) ?_
                        refine VR.cons rfl rfl (VO.buildSlice ap36 rfl rfl rfl rfl rfl fun b6 => ?_)
                        obtain ⟨b7, h26, hm⟩ := bnd hm
                        refine VR.cons rfl rfl (VO.apT 1 (VV.int .u8) (l := b5) (l2 := [r3.1]) ap36 rfl rfl (sT_row 0 (VV.int .u8) el36 rfl rfl) h26 fun ob3 cap3 => ?_)
                        refine VR.p rfl rfl (VP.assign rfl) ?_
                        refine VR.nil ?_
                        refine VW.region ?_
                        refine VR.p rfl rfl (VP.assign rfl) ?_
                        refine VR.nil ?_
                        exact ⟨(b7, (1 : Int), (pos3 + (Utf8.decode v pos3).2)), (ob3, cap3), hm, (Shift.pick [1, 1, 1, 1] rfl ⟨rfl, rfl, rfl, rfl, rfl, rfl, rfl, trivial⟩)⟩
                  · have h20 := bf h20
                    refine VW.condF rfl h20 ?_
                    refine VW.region ?_
                    refine VR.p rfl rfl (VP.move rfl) ?_
                    refine VR.p rfl rfl (VP.move rfl) ?_
                    refine VR.p rfl rfl (VP.convRune Try.underlying21 Try.underlying9 rfl) ?_
                    obtain ⟨b8, h28, hm⟩ := bnd hm
                    refine VR.cons rfl rfl (VO.apS 0 (l := b5) ap36 u8z5 Try.underlying9 rfl rfl rfl h28 fun ob4 cap4 => ?_)
                    refine VR.p rfl rfl (VP.assign rfl) ?_
                    refine VR.nil ?_
                    exact ⟨(b8, skip2, (pos3 + (Utf8.decode v pos3).2)), (ob4, cap4), hm, (Shift.pick [0, 0, 0, 0] rfl ⟨rfl, rfl, rfl, rfl, rfl, rfl, rfl, trivial⟩)⟩
    · refine VR.cons rfl rfl (VP.vo (VP.nextE (i := 1) rfl rfl h8) ?_)
      refine VR.p rfl rfl (VP.extract rfl rfl) ?_
      refine VR.nil ?_
      refine VW.seq ?_
      refine VW.condF rfl rfl ?_
      refine VW.exit ?_
      exact ⟨(), (), (Option.some.inj hm).symm, (Shift.pick [2, 2] rfl ⟨rfl, rfl, trivial⟩)⟩
  · rintro j _ rfl
    have hm := Out.go_on h7
    refine VW.seq ?_
    refine VW.region ?_
    refine VR.p rfl rfl (VP.move rfl) ?_
    refine VR.p rfl rfl (VP.buildP pl48 rfl rfl) ?_
    refine VR.p rfl rfl (VP.assign rfl) ?_
    refine VR.cons rfl rfl (VO.storeP (i := 0) rfl rfl rfl ld48 rfl rfl rfl ?_)
    refine VR.nil ?_
    obtain rfl := Option.some.inj hm
    exact VW.ret ⟨.inl rfl, _, .cons (.tmp _ _ rfl) (.cons (.cell _ _ _ _ 0 _ _ _ _ rfl rfl ld48 rfl) .nil), [1], _, rfl, rfl, rfl⟩

/-! trireme/lex.plain -/
def lex_plain (c : Int) : Option Bool :=
  (if (c == (40 : Int)) = true then
    some (c == (40 : Int))
  else
    if (c == (41 : Int)) = true then
      some (c == (41 : Int))
    else
      if (c == (34 : Int)) = true then
        some (c == (34 : Int))
      else
        if (c == (59 : Int)) = true then
          some (c == (59 : Int))
        else
          some (c == (127 : Int))).bind fun v2 =>
  if v2 = true then
    some false
  else
    some (decide (c > (32 : Int)))
theorem lex_plain_ok (c : Int) (r : Bool) (hm : lex_plain c = some r) :
    VC Try.prog 21 [.int .i32 c] [] (fun x H' => x = .bool r ∧ H' = []) := by
  unfold lex_plain at hm
  refine VC.run (c := _) (rs := [.tmp 2]) Try.func21 rfl rfl rfl ?_
  refine VW.seq ?_
  refine VW.region ?_
  refine VR.p rfl rfl (VP.assign rfl) ?_
  refine VR.nil ?_
  refine VW.seq ?_
  refine VW.seq ?_
  refine VW.region ?_
  refine VR.p rfl rfl (VP.move rfl) ?_
  refine VR.nil ?_
  refine VW.block ?_
  obtain ⟨o, h1, h2⟩ := bnd hm
  refine VW.join (fun (q : Bool) => q = o) (fun (v2 : Bool) (gg : Unit) => [(0, .int .i32 c), (4, .bool v2)]) (fun (v2 : Bool) (gg : Unit) => []) ?_ ?_
  · have hm := h1
    refine VW.seq ?_
    refine VW.region ?_
    refine VR.p rfl rfl (VP.arith rfl rfl rfl) ?_
    refine VR.p rfl rfl (VP.assign rfl) ?_
    refine VR.nil ?_
    rcases ite_or hm with ⟨h3, hm⟩ | ⟨h3, hm⟩
    · refine VW.condT rfl h3 ?_
      refine VW.skip ?_
      exact ⟨(c == (40 : Int)), (), Option.some.inj hm, (Shift.pick [] rfl ⟨rfl, rfl, trivial⟩)⟩
    · have h3 := bf h3
      refine VW.condF rfl h3 ?_
      refine VW.seq ?_
      refine VW.region ?_
      refine VR.p rfl rfl (VP.arith rfl rfl rfl) ?_
      refine VR.p rfl rfl (VP.assign rfl) ?_
      refine VR.nil ?_
      rcases ite_or hm with ⟨h4, hm⟩ | ⟨h4, hm⟩
      · refine VW.condT rfl h4 ?_
        refine VW.skip ?_
        exact ⟨(c == (41 : Int)), (), Option.some.inj hm, (Shift.pick [] rfl ⟨rfl, rfl, trivial⟩)⟩
      · have h4 := bf h4
        refine VW.condF rfl h4 ?_
        refine VW.seq ?_
        refine VW.region ?_
        refine VR.p rfl rfl (VP.arith rfl rfl rfl) ?_
        refine VR.p rfl rfl (VP.assign rfl) ?_
        refine VR.nil ?_
        rcases ite_or hm with ⟨h5, hm⟩ | ⟨h5, hm⟩
        · refine VW.condT rfl h5 ?_
          refine VW.skip ?_
          exact ⟨(c == (34 : Int)), (), Option.some.inj hm, (Shift.pick [] rfl ⟨rfl, rfl, trivial⟩)⟩
        · have h5 := bf h5
          refine VW.condF rfl h5 ?_
          refine VW.seq ?_
          refine VW.region ?_
          refine VR.p rfl rfl (VP.arith rfl rfl rfl) ?_
          refine VR.p rfl rfl (VP.assign rfl) ?_
          refine VR.nil ?_
          rcases ite_or hm with ⟨h6, hm⟩ | ⟨h6, hm⟩
          · refine VW.condT rfl h6 ?_
            refine VW.skip ?_
            exact ⟨(c == (59 : Int)), (), Option.some.inj hm, (Shift.pick [] rfl ⟨rfl, rfl, trivial⟩)⟩
          · have h6 := bf h6
            refine VW.condF rfl h6 ?_
            refine VW.region ?_
            refine VR.p rfl rfl (VP.arith rfl rfl rfl) ?_
            refine VR.p rfl rfl (VP.assign rfl) ?_
            refine VR.nil ?_
            exact ⟨(c == (127 : Int)), (), Option.some.inj hm, (Shift.pick [] rfl ⟨rfl, rfl, trivial⟩)⟩
  · rintro v2 _ rfl
    have hm := h2
    rcases ite_or hm with ⟨h7, hm⟩ | ⟨h7, hm⟩
    · refine VW.condT rfl h7 ?_
      refine VW.seq ?_
      refine VW.region ?_
      refine VR.p rfl rfl (VP.assign rfl) ?_
      refine VR.nil ?_
      obtain rfl := Option.some.inj hm
      exact VW.ret ⟨.inl rfl, _, .cons (.tmp _ _ rfl) .nil, [], _, rfl, rfl, rfl⟩
    · have h7 := bf h7
      refine VW.condF rfl h7 ?_
      refine VW.skip ?_
      refine VW.seq ?_
      refine VW.region ?_
      refine VR.p rfl rfl (VP.move rfl) ?_
      refine VR.p rfl rfl (VP.arith rfl rfl rfl) ?_
      refine VR.p rfl rfl (VP.assign rfl) ?_
      refine VR.nil ?_
      obtain rfl := Option.some.inj hm
      exact VW.ret ⟨.inl rfl, _, .cons (.tmp _ _ rfl) .nil, [], _, rfl, rfl, rfl⟩

/-! trireme/lex.head -/
def lex_head_lex_plain.l1 (s : ByteArray) : Nat → Nat → Option (Out (Int × Bool) Unit)
  | 0, _ => none
  | n + 1, pos2 =>
    if pos2 < s.size then
      (lex_right s (pos2 : Int) ((Utf8.decode s pos2).1 : Int)).bind fun r =>
      if (!r) = true then
        some (Out.ret ((pos2 : Int), false))
      else
        (lex_plain ((Utf8.decode s pos2).1 : Int)).bind fun r2 =>
        if (!r2) = true then
          some (Out.ret ((pos2 : Int), true))
        else
          lex_head_lex_plain.l1 s n (pos2 + (Utf8.decode s pos2).2)
    else
      some (Out.go ())
def lex_head_lex_plain (s : ByteArray) : Option (Int × Bool) :=
  (lex_head_lex_plain.l1 s FU 0).bind fun o =>
  o.on fun j =>
  some ((s.size : Int), true)
theorem lex_head_lex_plain_ok (s : ByteArray) (r : Int × Bool) (hm : lex_head_lex_plain s = some r) :
    VC Try.prog 20 [.str s, .clo (.func 21) [] []] [] (fun x H' => x = .tup [.int .i64 r.1, .bool r.2] ∧ H' = []) := by
  unfold lex_head_lex_plain at hm
  refine VC.run (c := _) (rs := [.tmp 4, .tmp 5]) Try.func20 rfl rfl rfl ?_
  refine VW.seq ?_
  refine VW.region ?_
  refine VR.p rfl rfl (VP.assign rfl) ?_
  refine VR.p rfl rfl (VP.assign rfl) ?_
  refine VR.nil ?_
  refine VW.seq ?_
  refine VW.seq ?_
  refine VW.region ?_
  refine VR.p rfl rfl (VP.move rfl) ?_
  refine VR.cons rfl rfl (VO.range Try.underlying9 rfl fun b => ?_)
  refine VR.nil ?_
  obtain ⟨o, h2, h3⟩ := bnd hm
  refine VW.joinE (fun (q : Unit) => o = Out.go q) (fun (j : Unit) (gg : Unit) => [(0, .str s)]) (fun (j : Unit) (gg : Unit) => []) ?_ ?_
  · have hm := h2
    refine VW.block (VW.loop FU ?_)
    refine VL.fuelS (R := _) (fun zn (zs : Nat) => lex_head_lex_plain.l1 s zn zs) (fun (zs : Nat) (zg : Unit) => [(0, .str s), (1, .clo (.func 21) [] []), (9, .ptr b 0)]) (fun (zs : Nat) (zg : Unit) => [.iter b s zs]) 0 () (fun zs => rfl) (Shift.pick [0] rfl ⟨rfl, rfl, rfl, trivial⟩) h2 ?_
    rintro n pos2 _ hm
    rw [lex_head_lex_plain.l1] at hm
    refine VW.seq ?_
    refine VW.region ?_
    rcases ite_or hm with ⟨h4, hm⟩ | ⟨h4, hm⟩
    · refine VR.cons rfl rfl (VO.nextS (i := 0) rfl rfl h4 ?_)
      refine VR.p rfl rfl (VP.extract rfl rfl) ?_
      refine VR.nil ?_
      refine VW.seq ?_
      refine VW.condT rfl rfl ?_
      refine VW.skip ?_
      refine VW.block ?_
      refine VW.seq ?_
      refine VW.region ?_
      refine VR.p rfl rfl (VP.extract rfl rfl) ?_
      refine VR.p rfl rfl (VP.extract rfl rfl) ?_
      refine VR.p rfl rfl (VP.assign rfl) ?_
      refine VR.p rfl rfl (VP.assign rfl) ?_
      refine VR.nil ?_
      refine VW.seq ?_
      refine VW.seq ?_
      refine VW.region ?_
      refine VR.p rfl rfl (VP.move rfl) ?_
      refine VR.p rfl rfl (VP.move rfl) ?_
      refine VR.p rfl rfl (VP.move rfl) ?_
      obtain ⟨r, h5, hm⟩ := bnd hm
      refine VR.cons rfl rfl (VO.callK 0 rfl fn24 rfl (lex_right_ok s (pos2 : Int) ((Utf8.decode s pos2).1 : Int) r h5) fun _ _ h10 => ?_)
      obtain ⟨rfl, rfl⟩ := h10
      refine VR.p rfl rfl (VP.not rfl) ?_
      refine VR.nil ?_
      rcases ite_or hm with ⟨h6, hm⟩ | ⟨h6, hm⟩
      · refine VW.condT rfl h6 ?_
        refine VW.seq ?_
        refine VW.region ?_
        refine VR.p rfl rfl (VP.move rfl) ?_
        refine VR.p rfl rfl (VP.assign rfl) ?_
        refine VR.p rfl rfl (VP.assign rfl) ?_
        refine VR.nil ?_
        obtain rfl := Option.some.inj hm
        have hm := Out.ret_on h3
        obtain rfl := Option.some.inj hm
        exact VW.ret ⟨.inl rfl, _, .cons (.tmp _ _ rfl) (.cons (.tmp _ _ rfl) .nil), [], _, rfl, rfl, rfl⟩
      · have h6 := bf h6
        refine VW.condF rfl h6 ?_
        refine VW.skip ?_
        refine VW.seq ?_
        refine VW.region ?_
        refine VR.p rfl rfl (VP.move rfl) ?_
        refine VR.p rfl rfl (VP.move rfl) ?_
        obtain ⟨r2, h7, hm⟩ := bnd hm
        refine VR.cons rfl rfl (VO.callK 0 rfl fn21 rfl (lex_plain_ok ((Utf8.decode s pos2).1 : Int) r2 h7) fun _ _ h9 => ?_)
        obtain ⟨rfl, rfl⟩ := h9
        refine VR.p rfl rfl (VP.not rfl) ?_
        refine VR.nil ?_
        rcases ite_or hm with ⟨h8, hm⟩ | ⟨h8, hm⟩
        · refine VW.condT rfl h8 ?_
          refine VW.seq ?_
          refine VW.region ?_
          refine VR.p rfl rfl (VP.move rfl) ?_
          refine VR.p rfl rfl (VP.assign rfl) ?_
          refine VR.p rfl rfl (VP.assign rfl) ?_
          refine VR.nil ?_
          obtain rfl := Option.some.inj hm
          have hm := Out.ret_on h3
          obtain rfl := Option.some.inj hm
          exact VW.ret ⟨.inl rfl, _, .cons (.tmp _ _ rfl) (.cons (.tmp _ _ rfl) .nil), [], _, rfl, rfl, rfl⟩
        · have h8 := bf h8
          refine VW.condF rfl h8 ?_
          refine VW.skip ?_
          exact ⟨(pos2 + (Utf8.decode s pos2).2), (), hm, (Shift.pick [0] rfl ⟨rfl, rfl, rfl, trivial⟩)⟩
    · refine VR.cons rfl rfl (VP.vo (VP.nextE (i := 0) rfl rfl h4) ?_)
      refine VR.p rfl rfl (VP.extract rfl rfl) ?_
      refine VR.nil ?_
      refine VW.seq ?_
      refine VW.condF rfl rfl ?_
      refine VW.exit ?_
      exact ⟨(), (), (Option.some.inj hm).symm, (Shift.pick [] rfl ⟨rfl, trivial⟩)⟩
  · rintro j _ rfl
    have hm := Out.go_on h3
    refine VW.seq ?_
    refine VW.region ?_
    refine VR.p rfl rfl (VP.move rfl) ?_
    refine VR.p rfl rfl (VP.lenS rfl Try.underlying9) ?_
    refine VR.p rfl rfl (VP.assign rfl) ?_
    refine VR.p rfl rfl (VP.assign rfl) ?_
    refine VR.nil ?_
    obtain rfl := Option.some.inj hm
    exact VW.ret ⟨.inl rfl, _, .cons (.tmp _ _ rfl) (.cons (.tmp _ _ rfl) .nil), [], _, rfl, rfl, rfl⟩

/-! (*trireme/lex.scanner).word -/
def lex_scanner_word (x : T_lex_scanner) : Option (ByteArray × T_lex_fault × T_lex_scanner) :=
  (V.ss x.s (some x.at_) none).bind fun v =>
  (lex_head_lex_plain v).bind fun r =>
  if (r.1 == (0 : Int)) = true then
    some ((⟨#[]⟩ : ByteArray), (⟨(2 : Int), x.at_⟩ : T_lex_fault), x)
  else
    (V.ss v none (some r.1)).bind fun v2 =>
    (lex_Runes v2).bind fun r2 =>
    if (decide (r2 > (64 : Int))) = true then
      some ((⟨#[]⟩ : ByteArray), (⟨(4 : Int), x.at_⟩ : T_lex_fault), x)
    else
      (lex_scanner_pass x r.1).bind fun r3 =>
      (V.ss v none (some r.1)).bind fun v3 =>
      some (v3, (⟨(0 : Int), (0 : Int)⟩ : T_lex_fault), r3)
theorem lex_scanner_word_ok (x : T_lex_scanner) (b : Nat) (r : ByteArray × T_lex_fault × T_lex_scanner) (hm : lex_scanner_word x = some r) :
    VC Try.prog 31 [.ptr b 0] [.box b 46 (T_lex_scanner.cells x)] (fun x H' => x = .tup [.str r.1, T_lex_fault.vv r.2.1] ∧ H' = [.box b 46 (T_lex_scanner.cells r.2.2)]) := by
  unfold lex_scanner_word at hm
  refine VC.run (c := _) (rs := [.tmp 2, .cell 3 48]) Try.func31 rfl rfl rfl ?_
  refine VW.seq ?_
  refine VW.region ?_
  refine VR.p rfl rfl (VP.assign rfl) ?_
  refine VR.cons rfl rfl (VO.alloc z48 fun b2 => ?_)
  refine VR.nil ?_
  refine VW.seq ?_
  refine VW.drawK 0 mixed ?_
  refine VA.p 0 rfl rfl rfl (by kernel_rfl) (VP.move rfl) ?_
  refine VA.p 1 rfl rfl rfl (by kernel_rfl) (VP.nilCheckP rfl) ?_
  refine VA.p 2 rfl rfl rfl (by kernel_rfl) (VP.fieldP rfl fa46_0) ?_
  refine VA.p 3 rfl rfl rfl (by kernel_rfl) (VP.loadP (i := 1) rfl rfl ld9 rfl) ?_
  refine VA.p 4 rfl rfl rfl (by kernel_rfl) (VP.move rfl) ?_
  refine VA.p 5 rfl rfl rfl (by kernel_rfl) (VP.nilCheckP rfl) ?_
  refine VA.p 6 rfl rfl rfl (by kernel_rfl) (VP.fieldP rfl fa46_1) ?_
  refine VA.p 7 rfl rfl rfl (by kernel_rfl) (VP.loadP (i := 1) rfl rfl ld3 rfl) ?_
  obtain ⟨v, h2, hm⟩ := bnd hm
  refine VA.p 8 rfl rfl rfl (by kernel_rfl) (VP.ssT rfl rfl rfl Try.underlying9 h2) ?_
  refine VA.p 9 rfl rfl rfl (by kernel_rfl) (VP.assign rfl) ?_
  refine VA.done (by kernel_rfl) ?_
  refine VW.seq ?_
  refine VW.region ?_
  refine VR.p rfl rfl (VP.move rfl) ?_
  obtain ⟨r, h3, hm⟩ := bnd hm
  refine VR.cons rfl rfl (VO.callK 0 rfl fn20 rfl (lex_head_lex_plain_ok v r h3) fun _ _ h12 => ?_)
  obtain ⟨rfl, rfl⟩ := h12
  refine VR.p rfl rfl (VP.move rfl) ?_
  refine VR.p rfl rfl (VP.extract rfl rfl) ?_
  refine VR.p rfl rfl (VP.extract rfl rfl) ?_
  refine VR.p rfl rfl (VP.assign rfl) ?_
  refine VR.p rfl rfl (VP.assign rfl) ?_
  refine VR.nil ?_
  refine VW.seq ?_
  refine VW.block ?_
  refine VW.seq ?_
  refine VW.region ?_
  refine VR.p rfl rfl (VP.move rfl) ?_
  refine VR.p rfl rfl (VP.arith rfl rfl rfl) ?_
  refine VR.p rfl rfl (VP.assign rfl) ?_
  refine VR.nil ?_
  rcases ite_or hm with ⟨h4, hm⟩ | ⟨h4, hm⟩
  · refine VW.condT rfl h4 ?_
    refine VW.seq ?_
    refine VW.drawK 1 mixed ?_
    refine VA.p 0 rfl rfl rfl (by kernel_rfl) (VP.move rfl) ?_
    refine VA.p 1 rfl rfl rfl (by kernel_rfl) (VP.nilCheckP rfl) ?_
    refine VA.p 2 rfl rfl rfl (by kernel_rfl) (VP.fieldP rfl fa46_1) ?_
    refine VA.p 3 rfl rfl rfl (by kernel_rfl) (VP.loadP (i := 0) rfl rfl ld3 rfl) ?_
    refine VA.p 4 rfl rfl rfl (by kernel_rfl) (VP.buildP pl48 rfl rfl) ?_
    refine VA.p 5 rfl rfl rfl (by kernel_rfl) (VP.assign rfl) ?_
    refine VA.all [6] (by kernel_rfl) ⟨?_, trivial⟩
    refine VB.o rfl rfl rfl (VO.storeP (i := 0) rfl rfl rfl ld48 rfl rfl rfl ?_)
    refine VA.done (by kernel_rfl) ?_
    obtain rfl := Option.some.inj hm
    exact VW.ret ⟨.inl rfl, _, .cons (.tmp _ _ rfl) (.cons (.cell _ _ _ _ 0 _ _ _ _ rfl rfl ld48 rfl) .nil), [1], _, rfl, rfl, rfl⟩
  · have h4 := bf h4
    refine VW.condF rfl h4 ?_
    refine VW.seq ?_
    refine VW.region ?_
    refine VR.p rfl rfl (VP.move rfl) ?_
    refine VR.p rfl rfl (VP.move rfl) ?_
    obtain ⟨v2, h5, hm⟩ := bnd hm
    refine VR.p rfl rfl (VP.ssT rfl rfl rfl Try.underlying9 h5) ?_
    obtain ⟨r2, h6, hm⟩ := bnd hm
    refine VR.cons rfl rfl (VO.callK 0 rfl fn14 rfl (lex_Runes_ok v2 r2 h6) fun _ _ h11 => ?_)
    obtain ⟨rfl, rfl⟩ := h11
    refine VR.p rfl rfl (VP.arith rfl rfl rfl) ?_
    refine VR.p rfl rfl (VP.assign rfl) ?_
    refine VR.nil ?_
    rcases ite_or hm with ⟨h7, hm⟩ | ⟨h7, hm⟩
    · refine VW.condT rfl h7 ?_
      refine VW.seq ?_
      refine VW.drawK 1 mixed ?_
      refine VA.p 0 rfl rfl rfl (by kernel_rfl) (VP.move rfl) ?_
      refine VA.p 1 rfl rfl rfl (by kernel_rfl) (VP.nilCheckP rfl) ?_
      refine VA.p 2 rfl rfl rfl (by kernel_rfl) (VP.fieldP rfl fa46_1) ?_
      refine VA.p 3 rfl rfl rfl (by kernel_rfl) (VP.loadP (i := 0) rfl rfl ld3 rfl) ?_
      refine VA.p 4 rfl rfl rfl (by kernel_rfl) (VP.buildP pl48 rfl rfl) ?_
      refine VA.p 5 rfl rfl rfl (by kernel_rfl) (VP.assign rfl) ?_
      refine VA.all [6] (by kernel_rfl) ⟨?_, trivial⟩
      refine VB.o rfl rfl rfl (VO.storeP (i := 0) rfl rfl rfl ld48 rfl rfl rfl ?_)
      refine VA.done (by kernel_rfl) ?_
      obtain rfl := Option.some.inj hm
      exact VW.ret ⟨.inl rfl, _, .cons (.tmp _ _ rfl) (.cons (.cell _ _ _ _ 0 _ _ _ _ rfl rfl ld48 rfl) .nil), [1], _, rfl, rfl, rfl⟩
    · have h7 := bf h7
      refine VW.condF rfl h7 ?_
      refine VW.skip ?_
      refine VW.seq ?_
      refine VW.region ?_
      refine VR.p rfl rfl (VP.move rfl) ?_
      refine VR.p rfl rfl (VP.move rfl) ?_
      obtain ⟨r3, h8, hm⟩ := bnd hm
      refine VR.shift (Shift.mem [1, 0] rfl) ?_
      refine VR.cons rfl rfl (VO.callK 1 rfl fn28 rfl (lex_scanner_pass_ok x r.1 b r3 h8) fun _ _ h10 => ?_)
      obtain ⟨rfl, rfl⟩ := h10
      refine VR.nil ?_
      refine VW.seq ?_
      refine VW.region ?_
      refine VR.p rfl rfl (VP.move rfl) ?_
      refine VR.p rfl rfl (VP.move rfl) ?_
      obtain ⟨v3, h9, hm⟩ := bnd hm
      refine VR.p rfl rfl (VP.ssT rfl rfl rfl Try.underlying9 h9) ?_
      refine VR.p rfl rfl (VP.buildP pl48 rfl rfl) ?_
      refine VR.p rfl rfl (VP.assign rfl) ?_
      refine VR.cons rfl rfl (VO.storeP (i := 1) rfl rfl rfl ld48 rfl rfl rfl ?_)
      refine VR.nil ?_
      obtain rfl := Option.some.inj hm
      exact VW.ret ⟨.inl rfl, _, .cons (.tmp _ _ rfl) (.cons (.cell _ _ _ _ 1 _ _ _ _ rfl rfl ld48 rfl) .nil), [0], _, rfl, rfl, rfl⟩

/-! (*trireme/lex.scanner).token -/
def lex_scanner_token.l1 : Nat → T_lex_scanner → Option (Out (T_api_Token × Bool × T_lex_fault × T_lex_scanner) T_lex_scanner)
  | 0, _ => none
  | n + 1, x3 =>
    if (decide (x3.at_ < (x3.s.size : Int))) = true then
      (V.gi x3.s x3.at_).bind fun v =>
      ((V.ss x3.s (some x3.from_) (some x3.at_)).bind fun v2 =>
      (lex_Runes v2).bind fun r =>
      some (⟨(0 : Int), (⟨#[]⟩ : ByteArray), x3.at_, x3.line, (IntKind.i64.wrap ((1 : Int) + r))⟩ : T_api_Token)).bind fun t2 =>
      ((lex_blank (IntKind.i32.wrap v)).bind fun r3 =>
      if r3 = true then
        (lex_scanner_pass x3 (1 : Int)).bind fun r4 =>
        (lex_scanner_token.l1 n r4).bind fun q => some (Out.ret q)
      else
        if (v == (59 : Int)) = true then
          (lex_scanner_remark x3).bind fun r5 =>
          if (r5.1.e != (0 : Int)) = true then
            some (Out.ret (Out.ret ((⟨(0 : Int), (⟨#[]⟩ : ByteArray), (0 : Int), (0 : Int), (0 : Int)⟩ : T_api_Token), false, r5.1, r5.2)))
          else
            (lex_scanner_token.l1 n r5.2).bind fun q => some (Out.ret q)
        else
          if (v == (40 : Int)) = true then
            (lex_scanner_pass x3 (1 : Int)).bind fun r6 =>
            some (Out.go ((⟨(1 : Int), (⟨#[40]⟩ : ByteArray), t2.At, t2.Line, t2.Col⟩ : T_api_Token), (⟨(0 : Int), (0 : Int)⟩ : T_lex_fault), r6))
          else
            if (v == (41 : Int)) = true then
              (lex_scanner_pass x3 (1 : Int)).bind fun r7 =>
              some (Out.go ((⟨(2 : Int), (⟨#[41]⟩ : ByteArray), t2.At, t2.Line, t2.Col⟩ : T_api_Token), (⟨(0 : Int), (0 : Int)⟩ : T_lex_fault), r7))
            else
              if (v == (34 : Int)) = true then
                (lex_scanner_text x3).bind fun r8 =>
                some (Out.go ((⟨(4 : Int), r8.1, t2.At, t2.Line, t2.Col⟩ : T_api_Token), r8.2.1, r8.2.2))
              else
                (lex_scanner_word x3).bind fun r9 =>
                some (Out.go ((⟨(3 : Int), r9.1, t2.At, t2.Line, t2.Col⟩ : T_api_Token), r9.2.1, r9.2.2))).bind fun o3 =>
      o3.on fun j =>
      some (Out.ret (j.1, (j.2.1.e == (0 : Int)), j.2.1, j.2.2))
    else
      some (Out.go x3)
def lex_scanner_token (x : T_lex_scanner) : Option (T_api_Token × Bool × T_lex_fault × T_lex_scanner) :=
  (lex_scanner_token.l1 FU x).bind fun o =>
  o.on fun x42 =>
  some ((⟨(0 : Int), (⟨#[]⟩ : ByteArray), (0 : Int), (0 : Int), (0 : Int)⟩ : T_api_Token), false, (⟨(0 : Int), (0 : Int)⟩ : T_lex_fault), x42)
theorem lex_scanner_token_ok (x : T_lex_scanner) (b : Nat) (r : T_api_Token × Bool × T_lex_fault × T_lex_scanner) (hm : lex_scanner_token x = some r) :
    VC Try.prog 25 [.ptr b 0] [.box b 46 (T_lex_scanner.cells x)] (fun x H' => x = .tup [T_api_Token.vv r.1, .bool r.2.1, T_lex_fault.vv r.2.2.1] ∧ H' = [.box b 46 (T_lex_scanner.cells r.2.2.2)]) := by
  unfold lex_scanner_token at hm
  refine VC.run (c := _) (rs := [.cell 2 28, .tmp 3, .cell 4 48]) Try.func25 rfl rfl rfl ?_
  refine VW.seq ?_
  refine VW.region ?_
  refine VR.cons rfl rfl (VO.alloc z28 fun b2 => ?_)
  refine VR.p rfl rfl (VP.assign rfl) ?_
  refine VR.cons rfl rfl (VO.alloc z48 fun b3 => ?_)
  refine VR.nil ?_
  obtain ⟨o, h3, h4⟩ := bnd hm
  refine VW.join (fun (q : T_lex_scanner) => o = Out.go q) (fun (x42 : T_lex_scanner) (gg : Unit) => [(2, .ptr b2 0), (4, .ptr b3 0)]) (fun (x42 : T_lex_scanner) (gg : Unit) => [.box b3 48 (T_lex_fault.cells (⟨(0 : Int), (0 : Int)⟩ : T_lex_fault)), .box b2 28 (T_api_Token.cells (⟨(0 : Int), (⟨#[]⟩ : ByteArray), (0 : Int), (0 : Int), (0 : Int)⟩ : T_api_Token)), .box b 46 (T_lex_scanner.cells x42)]) ?_ ?_
  · have hm := h3
    refine VW.block (VW.loop FU ?_)
    refine VL.fuelS (R := _) (fun zn (zs : T_lex_scanner) => lex_scanner_token.l1 zn zs) (fun (zs : T_lex_scanner) (zg : Unit) => [(0, .ptr b 0), (2, .ptr b2 0), (4, .ptr b3 0)]) (fun (zs : T_lex_scanner) (zg : Unit) => [.box b3 48 (T_lex_fault.cells (⟨(0 : Int), (0 : Int)⟩ : T_lex_fault)), .box b2 28 (T_api_Token.cells (⟨(0 : Int), (⟨#[]⟩ : ByteArray), (0 : Int), (0 : Int), (0 : Int)⟩ : T_api_Token)), .box b 46 (T_lex_scanner.cells zs)]) x () (fun zs => rfl) (Shift.pick [0, 0, 0] rfl ⟨rfl, rfl, rfl, trivial⟩) h3 ?_
    rintro n x3 _ hm
    rw [lex_scanner_token.l1] at hm
    refine VW.seq ?_
    refine VW.seq ?_
    refine VW.drawK 0 mixed ?_
    refine VA.p 0 rfl rfl rfl (by kernel_rfl) (VP.move rfl) ?_
    refine VA.p 1 rfl rfl rfl (by kernel_rfl) (VP.nilCheckP rfl) ?_
    refine VA.p 2 rfl rfl rfl (by kernel_rfl) (VP.fieldP rfl fa46_1) ?_
    refine VA.p 3 rfl rfl rfl (by kernel_rfl) (VP.loadP (i := 2) rfl rfl ld3 rfl) ?_
    refine VA.p 4 rfl rfl rfl (by kernel_rfl) (VP.move rfl) ?_
    refine VA.p 5 rfl rfl rfl (by kernel_rfl) (VP.nilCheckP rfl) ?_
    refine VA.p 6 rfl rfl rfl (by kernel_rfl) (VP.fieldP rfl fa46_0) ?_
    refine VA.p 7 rfl rfl rfl (by kernel_rfl) (VP.loadP (i := 2) rfl rfl ld9 rfl) ?_
    refine VA.p 8 rfl rfl rfl (by kernel_rfl) (VP.lenS rfl Try.underlying9) ?_
    refine VA.p 9 rfl rfl rfl (by kernel_rfl) (VP.arith rfl rfl rfl) ?_
    refine VA.done (by kernel_rfl) ?_
    rcases ite_or hm with ⟨h5, hm⟩ | ⟨h5, hm⟩
    · refine VW.condT rfl h5 ?_
      refine VW.skip ?_
      refine VW.block ?_
      refine VW.seq ?_
      refine VW.drawK 0 mixed ?_
      refine VA.p 0 rfl rfl rfl (by kernel_rfl) (VP.move rfl) ?_
      refine VA.p 1 rfl rfl rfl (by kernel_rfl) (VP.nilCheckP rfl) ?_
      refine VA.p 2 rfl rfl rfl (by kernel_rfl) (VP.fieldP rfl fa46_0) ?_
      refine VA.p 3 rfl rfl rfl (by kernel_rfl) (VP.loadP (i := 2) rfl rfl ld9 rfl) ?_
      refine VA.p 4 rfl rfl rfl (by kernel_rfl) (VP.move rfl) ?_
      refine VA.p 5 rfl rfl rfl (by kernel_rfl) (VP.nilCheckP rfl) ?_
      refine VA.p 6 rfl rfl rfl (by kernel_rfl) (VP.fieldP rfl fa46_1) ?_
      refine VA.p 7 rfl rfl rfl (by kernel_rfl) (VP.loadP (i := 2) rfl rfl ld3 rfl) ?_
      obtain ⟨v, h6, hm⟩ := bnd hm
      refine VA.p 8 rfl rfl rfl (by kernel_rfl) (VP.gi rfl rfl Try.underlying9 h6) ?_
      refine VA.p 9 rfl rfl rfl (by kernel_rfl) (VP.assign rfl) ?_
      refine VA.done (by kernel_rfl) ?_
      obtain ⟨o2, h8, h9⟩ := bnd hm
      refine VW.join (fun (q : T_api_Token) => q = o2) (fun (t2 : T_api_Token) (gg : Nat) => [(0, .ptr b 0), (2, .ptr b2 0), (4, .ptr b3 0), (5, .int .u8 v), (6, .ptr gg 0)]) (fun (t2 : T_api_Token) (gg : Nat) => [.box gg 28 (T_api_Token.cells t2), .box b3 48 (T_lex_fault.cells (⟨(0 : Int), (0 : Int)⟩ : T_lex_fault)), .box b2 28 (T_api_Token.cells (⟨(0 : Int), (⟨#[]⟩ : ByteArray), (0 : Int), (0 : Int), (0 : Int)⟩ : T_api_Token)), .box b 46 (T_lex_scanner.cells x3)]) ?_ ?_
      · have hm := h8
        refine VW.drawK 0 mixed ?_
        refine VA.p 0 rfl rfl rfl (by kernel_rfl) (VP.move rfl) ?_
        refine VA.p 1 rfl rfl rfl (by kernel_rfl) (VP.nilCheckP rfl) ?_
        refine VA.p 2 rfl rfl rfl (by kernel_rfl) (VP.fieldP rfl fa46_1) ?_
        refine VA.p 3 rfl rfl rfl (by kernel_rfl) (VP.loadP (i := 2) rfl rfl ld3 rfl) ?_
        refine VA.p 4 rfl rfl rfl (by kernel_rfl) (VP.move rfl) ?_
        refine VA.p 5 rfl rfl rfl (by kernel_rfl) (VP.nilCheckP rfl) ?_
        refine VA.p 6 rfl rfl rfl (by kernel_rfl) (VP.fieldP rfl fa46_2) ?_
        refine VA.p 7 rfl rfl rfl (by kernel_rfl) (VP.loadP (i := 2) rfl rfl ld3 rfl) ?_
        refine VA.p 8 rfl rfl rfl (by kernel_rfl) (VP.move rfl) ?_
        refine VA.p 9 rfl rfl rfl (by kernel_rfl) (VP.nilCheckP rfl) ?_
        refine VA.p 10 rfl rfl rfl (by kernel_rfl) (VP.fieldP rfl fa46_0) ?_
        refine VA.p 11 rfl rfl rfl (by kernel_rfl) (VP.loadP (i := 2) rfl rfl ld9 rfl) ?_
        refine VA.p 12 rfl rfl rfl (by kernel_rfl) (VP.move rfl) ?_
        refine VA.p 13 rfl rfl rfl (by kernel_rfl) (VP.nilCheckP rfl) ?_
        refine VA.p 14 rfl rfl rfl (by kernel_rfl) (VP.fieldP rfl fa46_3) ?_
        refine VA.p 15 rfl rfl rfl (by kernel_rfl) (VP.loadP (i := 2) rfl rfl ld3 rfl) ?_
        refine VA.p 16 rfl rfl rfl (by kernel_rfl) (VP.move rfl) ?_
        refine VA.p 17 rfl rfl rfl (by kernel_rfl) (VP.nilCheckP rfl) ?_
        refine VA.p 18 rfl rfl rfl (by kernel_rfl) (VP.fieldP rfl fa46_1) ?_
        refine VA.p 19 rfl rfl rfl (by kernel_rfl) (VP.loadP (i := 2) rfl rfl ld3 rfl) ?_
        obtain ⟨v2, h10, hm⟩ := bnd hm
        refine VA.p 20 rfl rfl rfl (by kernel_rfl) (VP.ssT rfl rfl rfl Try.underlying9 h10) ?_
        refine VA.all [21, 24] (by kernel_rfl) ⟨?_, ?_, trivial⟩
        · obtain ⟨r, h11, hm⟩ := bnd hm
          refine VB.o rfl rfl rfl (VO.callK 0 rfl fn14 rfl (lex_Runes_ok v2 r h11) fun _ _ h13 => ?_)
          obtain ⟨rfl, rfl⟩ := h13
          refine VA.p 22 rfl rfl rfl (by kernel_rfl) (VP.arith rfl rfl rfl) ?_
          refine VA.p 23 rfl rfl rfl (by kernel_rfl) (VP.buildP pl28 rfl rfl) ?_
          refine VA.all [24] (by kernel_rfl) ⟨?_, trivial⟩
          refine VB.o rfl rfl rfl (VO.alloc z28 fun b5 => ?_)
          refine VA.all [25] (by kernel_rfl) ⟨?_, trivial⟩
          refine VB.o rfl rfl rfl (VO.storeP (i := 0) rfl rfl rfl ld28 rfl rfl rfl ?_)
          refine VA.done (by kernel_rfl) ?_
          exact ⟨(⟨(0 : Int), (⟨#[]⟩ : ByteArray), x3.at_, x3.line, (IntKind.i64.wrap ((1 : Int) + r))⟩ : T_api_Token), b5, Option.some.inj hm, (Shift.pick [0, 0, 0, 0] rfl ⟨rfl, rfl, rfl, rfl, rfl, trivial⟩)⟩
        · refine VB.o rfl rfl rfl (VO.alloc z28 fun b6 => ?_)
          refine VA.all [21] (by kernel_rfl) ⟨?_, trivial⟩
          obtain ⟨r2, h15, hm⟩ := bnd hm
          refine VB.o rfl rfl rfl (VO.callK 0 rfl fn14 rfl (lex_Runes_ok v2 r2 h15) fun _ _ h16 => ?_)
          obtain ⟨rfl, rfl⟩ := h16
          refine VA.p 22 rfl rfl rfl (by kernel_rfl) (VP.arith rfl rfl rfl) ?_
          refine VA.p 23 rfl rfl rfl (by kernel_rfl) (VP.buildP pl28 rfl rfl) ?_
          refine VA.all [25] (by kernel_rfl) ⟨?_, trivial⟩
          refine VB.o rfl rfl rfl (VO.storeP (i := 0) rfl rfl rfl ld28 rfl rfl rfl ?_)
          refine VA.done (by kernel_rfl) ?_
          exact ⟨(⟨(0 : Int), (⟨#[]⟩ : ByteArray), x3.at_, x3.line, (IntKind.i64.wrap ((1 : Int) + r2))⟩ : T_api_Token), b6, Option.some.inj hm, (Shift.pick [0, 0, 0, 0] rfl ⟨rfl, rfl, rfl, rfl, rfl, trivial⟩)⟩
      · rintro t2 b4 rfl
        have hm := h9
        refine VW.seq ?_
        refine VW.region ?_
        refine VR.cons rfl rfl (VO.alloc z48 fun b7 => ?_)
        refine VR.nil ?_
        obtain ⟨o3, h18, h19⟩ := bnd hm
        refine VW.join (fun (q : T_api_Token × T_lex_fault × T_lex_scanner) => o3 = Out.go q) (fun (j : T_api_Token × T_lex_fault × T_lex_scanner) (gg : Unit) => [(2, .ptr b2 0), (4, .ptr b3 0), (6, .ptr b4 0), (7, .ptr b7 0)]) (fun (j : T_api_Token × T_lex_fault × T_lex_scanner) (gg : Unit) => [.box b 46 (T_lex_scanner.cells j.2.2), .box b7 48 (T_lex_fault.cells j.2.1), .box b4 28 (T_api_Token.cells j.1), .box b3 48 (T_lex_fault.cells (⟨(0 : Int), (0 : Int)⟩ : T_lex_fault)), .box b2 28 (T_api_Token.cells (⟨(0 : Int), (⟨#[]⟩ : ByteArray), (0 : Int), (0 : Int), (0 : Int)⟩ : T_api_Token))]) ?_ ?_
        · have hm := h18
          refine VW.block ?_
          refine VW.seq ?_
          refine VW.region ?_
          refine VR.p rfl rfl (VP.move rfl) ?_
          refine VR.p rfl rfl (VP.convI Try.underlying5 Try.underlying21 rfl) ?_
          obtain ⟨r3, h20, hm⟩ := bnd hm
          refine VR.cons rfl rfl (VO.callK 0 rfl fn27 rfl (lex_blank_ok (IntKind.i32.wrap v) r3 h20) fun _ _ h41 => ?_)
          obtain ⟨rfl, rfl⟩ := h41
          refine VR.p rfl rfl (VP.assign rfl) ?_
          refine VR.nil ?_
          rcases ite_or hm with ⟨h21, hm⟩ | ⟨h21, hm⟩
          · refine VW.condT rfl h21 ?_
            refine VW.seq ?_
            refine VW.region ?_
            refine VR.p rfl rfl (VP.move rfl) ?_
            obtain ⟨r4, h22, hm⟩ := bnd hm
            refine VR.shift (Shift.mem [4, 0, 0, 0, 0] rfl) ?_
            refine VR.cons rfl rfl (VO.callK 1 rfl fn28 rfl (lex_scanner_pass_ok x3 (1 : Int) b r4 h22) fun _ _ h24 => ?_)
            obtain ⟨rfl, rfl⟩ := h24
            refine VR.nil ?_
            refine VW.exit ?_
            obtain ⟨q_, h23, hm⟩ := bnd hm
            obtain rfl := Option.some.inj hm
            obtain rfl := Option.some.inj (Out.ret_on h19)
            have hm := h23
            exact ⟨r4, (), hm, (Shift.pick [3, 3, 0] rfl ⟨rfl, rfl, rfl, trivial⟩)⟩
          · have h21 := bf h21
            refine VW.condF rfl h21 ?_
            refine VW.seq ?_
            refine VW.region ?_
            refine VR.p rfl rfl (VP.move rfl) ?_
            refine VR.p rfl rfl (VP.arith rfl rfl rfl) ?_
            refine VR.p rfl rfl (VP.assign rfl) ?_
            refine VR.nil ?_
            rcases ite_or hm with ⟨h25, hm⟩ | ⟨h25, hm⟩
            · refine VW.condT rfl h25 ?_
              refine VW.seq ?_
              refine VW.seq ?_
              refine VW.region ?_
              refine VR.p rfl rfl (VP.move rfl) ?_
              obtain ⟨r5, h26, hm⟩ := bnd hm
              refine VR.shift (Shift.mem [4, 0, 0, 0, 0] rfl) ?_
              refine VR.cons rfl rfl (VO.callK 1 rfl fn29 rfl (lex_scanner_remark_ok x3 b r5 h26) fun _ _ h29 => ?_)
              obtain ⟨rfl, rfl⟩ := h29
              refine VR.cons rfl rfl (VO.storeP (i := 1) rfl rfl rfl ld48 rfl rfl rfl ?_)
              refine VR.nil ?_
              refine VW.seq ?_
              refine VW.region ?_
              refine VR.p rfl rfl (VP.fieldP rfl fa48_0) ?_
              refine VR.p rfl rfl (VP.loadP (i := 1) rfl rfl ld31 rfl) ?_
              refine VR.p rfl rfl (VP.arith rfl rfl rfl) ?_
              refine VR.nil ?_
              rcases ite_or hm with ⟨h27, hm⟩ | ⟨h27, hm⟩
              · refine VW.condT rfl h27 ?_
                refine VW.seq ?_
                refine VW.shift (Shift.mem [3, 3, 0, 0, 0] rfl) ?_
                refine VW.drawK 2 mixed ?_
                refine VA.p 0 rfl rfl rfl (by kernel_rfl) (VP.buildP pl28 rfl rfl) ?_
                refine VA.p 1 rfl rfl rfl (by kernel_rfl) (VP.loadP (i := 1) rfl rfl ld48 rfl) ?_
                refine VA.all [2] (by kernel_rfl) ⟨?_, trivial⟩
                refine VB.o rfl rfl rfl (VO.storeP (i := 1) rfl rfl rfl ld28 rfl rfl rfl ?_)
                refine VA.p 3 rfl rfl rfl (by kernel_rfl) (VP.assign rfl) ?_
                refine VA.all [4] (by kernel_rfl) ⟨?_, trivial⟩
                refine VB.o rfl rfl rfl (VO.storeP (i := 0) rfl rfl rfl ld48 rfl rfl rfl ?_)
                refine VA.done (by kernel_rfl) ?_
                obtain rfl := Option.some.inj hm
                have hm := Out.ret_on h19
                obtain rfl := Option.some.inj hm
                have hm := Out.ret_on h4
                obtain rfl := Option.some.inj hm
                exact VW.ret ⟨.inl rfl, _, .cons (.cell _ _ _ _ 1 _ _ _ _ rfl rfl ld28 rfl) (.cons (.tmp _ _ rfl) (.cons (.cell _ _ _ _ 0 _ _ _ _ rfl rfl ld48 rfl) .nil)), [2], _, rfl, rfl, rfl⟩
              · have h27 := bf h27
                refine VW.condF rfl h27 ?_
                refine VW.skip ?_
                refine VW.exit ?_
                obtain ⟨q_2, h28, hm⟩ := bnd hm
                obtain rfl := Option.some.inj hm
                obtain rfl := Option.some.inj (Out.ret_on h19)
                have hm := h28
                exact ⟨r5.2, (), hm, (Shift.pick [3, 3, 0] rfl ⟨rfl, rfl, rfl, trivial⟩)⟩
            · have h25 := bf h25
              refine VW.condF rfl h25 ?_
              refine VW.seq ?_
              refine VW.region ?_
              refine VR.p rfl rfl (VP.move rfl) ?_
              refine VR.p rfl rfl (VP.arith rfl rfl rfl) ?_
              refine VR.p rfl rfl (VP.assign rfl) ?_
              refine VR.nil ?_
              rcases ite_or hm with ⟨h30, hm⟩ | ⟨h30, hm⟩
              · refine VW.condT rfl h30 ?_
                refine VW.seq ?_
                refine VW.region ?_
                refine VR.p rfl rfl (VP.fieldP rfl fa28_0) ?_
                refine VR.cons rfl rfl (VO.storeP (i := 1) rfl rfl rfl ld3 rfl rfl rfl ?_)
                refine VR.p rfl rfl (VP.fieldP rfl fa28_1) ?_
                refine VR.cons rfl rfl (VO.storeP (i := 1) rfl rfl rfl ld9 rfl rfl rfl ?_)
                refine VR.nil ?_
                refine VW.region ?_
                refine VR.p rfl rfl (VP.move rfl) ?_
                obtain ⟨r6, h31, hm⟩ := bnd hm
                refine VR.shift (Shift.mem [4, 0, 0, 0, 0] rfl) ?_
                refine VR.cons rfl rfl (VO.callK 1 rfl fn28 rfl (lex_scanner_pass_ok x3 (1 : Int) b r6 h31) fun _ _ h32 => ?_)
                obtain ⟨rfl, rfl⟩ := h32
                refine VR.nil ?_
                exact ⟨((⟨(1 : Int), (⟨#[40]⟩ : ByteArray), t2.At, t2.Line, t2.Col⟩ : T_api_Token), (⟨(0 : Int), (0 : Int)⟩ : T_lex_fault), r6), (), (Option.some.inj hm).symm, (Shift.pick [0, 0, 0, 0, 0] rfl ⟨rfl, rfl, rfl, rfl, trivial⟩)⟩
              · have h30 := bf h30
                refine VW.condF rfl h30 ?_
                refine VW.seq ?_
                refine VW.region ?_
                refine VR.p rfl rfl (VP.move rfl) ?_
                refine VR.p rfl rfl (VP.arith rfl rfl rfl) ?_
                refine VR.p rfl rfl (VP.assign rfl) ?_
                refine VR.nil ?_
                rcases ite_or hm with ⟨h33, hm⟩ | ⟨h33, hm⟩
                · refine VW.condT rfl h33 ?_
                  refine VW.seq ?_
                  refine VW.region ?_
                  refine VR.p rfl rfl (VP.fieldP rfl fa28_0) ?_
                  refine VR.cons rfl rfl (VO.storeP (i := 1) rfl rfl rfl ld3 rfl rfl rfl ?_)
                  refine VR.p rfl rfl (VP.fieldP rfl fa28_1) ?_
                  refine VR.cons rfl rfl (VO.storeP (i := 1) rfl rfl rfl ld9 rfl rfl rfl ?_)
                  refine VR.nil ?_
                  refine VW.region ?_
                  refine VR.p rfl rfl (VP.move rfl) ?_
                  obtain ⟨r7, h34, hm⟩ := bnd hm
                  refine VR.shift (Shift.mem [4, 0, 0, 0, 0] rfl) ?_
                  refine VR.cons rfl rfl (VO.callK 1 rfl fn28 rfl (lex_scanner_pass_ok x3 (1 : Int) b r7 h34) fun _ _ h35 => ?_)
                  obtain ⟨rfl, rfl⟩ := h35
                  refine VR.nil ?_
                  exact ⟨((⟨(2 : Int), (⟨#[41]⟩ : ByteArray), t2.At, t2.Line, t2.Col⟩ : T_api_Token), (⟨(0 : Int), (0 : Int)⟩ : T_lex_fault), r7), (), (Option.some.inj hm).symm, (Shift.pick [0, 0, 0, 0, 0] rfl ⟨rfl, rfl, rfl, rfl, trivial⟩)⟩
                · have h33 := bf h33
                  refine VW.condF rfl h33 ?_
                  refine VW.seq ?_
                  refine VW.region ?_
                  refine VR.p rfl rfl (VP.move rfl) ?_
                  refine VR.p rfl rfl (VP.arith rfl rfl rfl) ?_
                  refine VR.p rfl rfl (VP.assign rfl) ?_
                  refine VR.nil ?_
                  rcases ite_or hm with ⟨h36, hm⟩ | ⟨h36, hm⟩
                  · refine VW.condT rfl h36 ?_
                    refine VW.seq ?_
                    refine VW.region ?_
                    refine VR.p rfl rfl (VP.fieldP rfl fa28_0) ?_
                    refine VR.cons rfl rfl (VO.storeP (i := 1) rfl rfl rfl ld3 rfl rfl rfl ?_)
                    refine VR.nil ?_
                    refine VW.region ?_
                    refine VR.p rfl rfl (VP.move rfl) ?_
                    obtain ⟨r8, h37, hm⟩ := bnd hm
                    refine VR.shift (Shift.mem [4, 0, 0, 0, 0] rfl) ?_
                    refine VR.cons rfl rfl (VO.callK 1 rfl fn30 rfl (lex_scanner_text_ok x3 b r8 h37) fun _ _ h38 => ?_)
                    obtain ⟨rfl, rfl⟩ := h38
                    refine VR.p rfl rfl (VP.move rfl) ?_
                    refine VR.p rfl rfl (VP.extract rfl rfl) ?_
                    refine VR.p rfl rfl (VP.extract rfl rfl) ?_
                    refine VR.p rfl rfl (VP.fieldP rfl fa28_1) ?_
                    refine VR.cons rfl rfl (VO.storeP (i := 2) rfl rfl rfl ld9 rfl rfl rfl ?_)
                    refine VR.cons rfl rfl (VO.storeP (i := 1) rfl rfl rfl ld48 rfl rfl rfl ?_)
                    refine VR.nil ?_
                    exact ⟨((⟨(4 : Int), r8.1, t2.At, t2.Line, t2.Col⟩ : T_api_Token), r8.2.1, r8.2.2), (), (Option.some.inj hm).symm, (Shift.pick [0, 0, 0, 0, 0] rfl ⟨rfl, rfl, rfl, rfl, trivial⟩)⟩
                  · have h36 := bf h36
                    refine VW.condF rfl h36 ?_
                    refine VW.seq ?_
                    refine VW.region ?_
                    refine VR.p rfl rfl (VP.fieldP rfl fa28_0) ?_
                    refine VR.cons rfl rfl (VO.storeP (i := 1) rfl rfl rfl ld3 rfl rfl rfl ?_)
                    refine VR.nil ?_
                    refine VW.region ?_
                    refine VR.p rfl rfl (VP.move rfl) ?_
                    obtain ⟨r9, h39, hm⟩ := bnd hm
                    refine VR.shift (Shift.mem [4, 0, 0, 0, 0] rfl) ?_
                    refine VR.cons rfl rfl (VO.callK 1 rfl fn31 rfl (lex_scanner_word_ok x3 b r9 h39) fun _ _ h40 => ?_)
                    obtain ⟨rfl, rfl⟩ := h40
                    refine VR.p rfl rfl (VP.move rfl) ?_
                    refine VR.p rfl rfl (VP.extract rfl rfl) ?_
                    refine VR.p rfl rfl (VP.extract rfl rfl) ?_
                    refine VR.p rfl rfl (VP.fieldP rfl fa28_1) ?_
                    refine VR.cons rfl rfl (VO.storeP (i := 2) rfl rfl rfl ld9 rfl rfl rfl ?_)
                    refine VR.cons rfl rfl (VO.storeP (i := 1) rfl rfl rfl ld48 rfl rfl rfl ?_)
                    refine VR.nil ?_
                    exact ⟨((⟨(3 : Int), r9.1, t2.At, t2.Line, t2.Col⟩ : T_api_Token), r9.2.1, r9.2.2), (), (Option.some.inj hm).symm, (Shift.pick [0, 0, 0, 0, 0] rfl ⟨rfl, rfl, rfl, rfl, trivial⟩)⟩
        · rintro j _ rfl
          have hm := Out.go_on h19
          refine VW.seq ?_
          refine VW.shift (Shift.mem [3, 3, 0, 0, 0] rfl) ?_
          refine VW.drawK 2 mixed ?_
          refine VA.p 0 rfl rfl rfl (by kernel_rfl) (VP.loadP (i := 2) rfl rfl ld28 rfl) ?_
          refine VA.p 1 rfl rfl rfl (by kernel_rfl) (VP.fieldP rfl fa48_0) ?_
          refine VA.p 2 rfl rfl rfl (by kernel_rfl) (VP.loadP (i := 1) rfl rfl ld31 rfl) ?_
          refine VA.p 3 rfl rfl rfl (by kernel_rfl) (VP.arith rfl rfl rfl) ?_
          refine VA.p 4 rfl rfl rfl (by kernel_rfl) (VP.loadP (i := 1) rfl rfl ld48 rfl) ?_
          refine VA.all [5] (by kernel_rfl) ⟨?_, trivial⟩
          refine VB.o rfl rfl rfl (VO.storeP (i := 1) rfl rfl rfl ld28 rfl rfl rfl ?_)
          refine VA.p 6 rfl rfl rfl (by kernel_rfl) (VP.assign rfl) ?_
          refine VA.all [7] (by kernel_rfl) ⟨?_, trivial⟩
          refine VB.o rfl rfl rfl (VO.storeP (i := 0) rfl rfl rfl ld48 rfl rfl rfl ?_)
          refine VA.done (by kernel_rfl) ?_
          obtain rfl := Option.some.inj hm
          have hm := Out.ret_on h4
          obtain rfl := Option.some.inj hm
          exact VW.ret ⟨.inl rfl, _, .cons (.cell _ _ _ _ 1 _ _ _ _ rfl rfl ld28 rfl) (.cons (.tmp _ _ rfl) (.cons (.cell _ _ _ _ 0 _ _ _ _ rfl rfl ld48 rfl) .nil)), [2], _, rfl, rfl, rfl⟩
    · have h5 := bf h5
      refine VW.condF rfl h5 ?_
      refine VW.exit ?_
      exact ⟨x3, (), (Option.some.inj hm).symm, (Shift.pick [0, 0, 0] rfl ⟨rfl, rfl, trivial⟩)⟩
  · rintro x42 _ rfl
    have hm := Out.go_on h4
    refine VW.seq ?_
    refine VW.region ?_
    refine VR.p rfl rfl (VP.buildP pl28 rfl rfl) ?_
    refine VR.p rfl rfl (VP.buildP pl48 rfl rfl) ?_
    refine VR.cons rfl rfl (VO.storeP (i := 1) rfl rfl rfl ld28 rfl rfl rfl ?_)
    refine VR.p rfl rfl (VP.assign rfl) ?_
    refine VR.cons rfl rfl (VO.storeP (i := 0) rfl rfl rfl ld48 rfl rfl rfl ?_)
    refine VR.nil ?_
    obtain rfl := Option.some.inj hm
    exact VW.ret ⟨.inl rfl, _, .cons (.cell _ _ _ _ 1 _ _ _ _ rfl rfl ld28 rfl) (.cons (.tmp _ _ rfl) (.cons (.cell _ _ _ _ 0 _ _ _ _ rfl rfl ld48 rfl) .nil)), [2], _, rfl, rfl, rfl⟩

/-! trireme/lex.Scan -/
def lex_Scan.l1 : Nat → T_lex_scanner → (List T_api_Token) → Option (List T_api_Token × Int × Int)
  | 0, _, _ => none
  | n + 1, x2, l2 =>
    (lex_scanner_token x2).bind fun r =>
    if (r.2.2.1.e != (0 : Int)) = true then
      some (([] : List T_api_Token), r.2.2.1.e, r.2.2.1.at_)
    else
      if (!r.2.1) = true then
        some (l2, (0 : Int), (0 : Int))
      else
        (V.ap 48 l2 [r.1]).bind fun l4 =>
        lex_Scan.l1 n r.2.2.2 l4
def lex_Scan (s : ByteArray) : Option (List T_api_Token × Int × Int) :=
  if (decide ((s.size : Int) > (65536 : Int))) = true then
    some (([] : List T_api_Token), (7 : Int), (65536 : Int))
  else
    lex_Scan.l1 FU (⟨s, (0 : Int), (1 : Int), (0 : Int)⟩ : T_lex_scanner) ([] : List T_api_Token)
theorem lex_Scan_ok (s : ByteArray) (r : List T_api_Token × Int × Int) (hm : lex_Scan s = some r) :
    VC Try.prog 18 [.str s] [] (fun x H' => ∃ (ob0 : Option Nat) (cap0 : Nat), x = .tup [.sl ob0 (List.map T_api_Token.vv r.1).length cap0, .int .i64 r.2.1, .int .i64 r.2.2] ∧ H' = [.row ob0 28 cap0 (List.map T_api_Token.vv r.1)]) := by
  unfold lex_Scan at hm
  refine VC.run (c := _) (rs := [.tmp 2, .tmp 3, .tmp 4]) Try.func18 rfl rfl rfl ?_
  refine VW.seq ?_
  refine VW.region ?_
  refine VR.p rfl rfl (VP.assign rfl) ?_
  refine VR.p rfl rfl (VP.assign rfl) ?_
  refine VR.p rfl rfl (VP.assign rfl) ?_
  refine VR.nil ?_
  refine VW.seq ?_
  refine VW.seq ?_
  refine VW.region ?_
  refine VR.p rfl rfl (VP.move rfl) ?_
  refine VR.p rfl rfl (VP.lenS rfl Try.underlying9) ?_
  refine VR.p rfl rfl (VP.arith rfl rfl rfl) ?_
  refine VR.nil ?_
  rcases ite_or hm with ⟨h1, hm⟩ | ⟨h1, hm⟩
  · refine VW.condT rfl h1 ?_
    refine VW.seq ?_
    refine VW.region ?_
    refine VR.p rfl rfl (VP.assign rfl) ?_
    refine VR.p rfl rfl (VP.assign rfl) ?_
    refine VR.p rfl rfl (VP.assign rfl) ?_
    refine VR.nil ?_
    obtain rfl := Option.some.inj hm
    refine VW.shift (Shift.nilRow 28) ?_
    exact VW.ret ⟨.inl rfl, _, .cons (.tmp _ _ rfl) (.cons (.tmp _ _ rfl) (.cons (.tmp _ _ rfl) .nil)), [0], _, rfl, none, 0, rfl, rfl⟩
  · have h1 := bf h1
    refine VW.condF rfl h1 ?_
    refine VW.skip ?_
    refine VW.seq ?_
    refine VW.region ?_
    refine VR.p rfl rfl (VP.move rfl) ?_
    refine VR.p rfl rfl (VP.buildP pl46 rfl rfl) ?_
    refine VR.cons rfl rfl (VO.box rfl rfl fun b => ?_)
    refine VR.p rfl rfl (VP.assign rfl) ?_
    refine VR.nil ?_
    refine VW.seq ?_
    refine VW.region ?_
    refine VR.p rfl rfl (VP.assign rfl) ?_
    refine VR.nil ?_
    refine VW.block (VW.loop FU ?_)
    refine VL.fuelS (R := _) (fun zn (zs : T_lex_scanner × List T_api_Token) => lex_Scan.l1 zn zs.1 zs.2) (fun (zs : T_lex_scanner × List T_api_Token) (zg : Option Nat × Nat) => [(5, .ptr b 0), (6, .sl zg.1 (List.map T_api_Token.vv zs.2).length zg.2)]) (fun (zs : T_lex_scanner × List T_api_Token) (zg : Option Nat × Nat) => [.row zg.1 28 zg.2 (List.map T_api_Token.vv zs.2), .box b 46 (T_lex_scanner.cells zs.1)]) ((⟨s, (0 : Int), (1 : Int), (0 : Int)⟩ : T_lex_scanner), ([] : List T_api_Token)) (none, 0) (fun zs => rfl) (Shift.trans (Shift.nilRow 28) (Shift.pick [0, 0] rfl ⟨rfl, rfl, trivial⟩)) hm ?_
    rintro n ⟨x2, l2⟩ ⟨ob2, cap2⟩ hm
    rw [lex_Scan.l1] at hm
    refine VW.block ?_
    refine VW.seq ?_
    refine VW.region ?_
    refine VR.p rfl rfl (VP.move rfl) ?_
    obtain ⟨r, h6, hm⟩ := bnd hm
    refine VR.shift (Shift.mem [1, 0] rfl) ?_
    refine VR.cons rfl rfl (VO.callK 1 rfl fn25 rfl (lex_scanner_token_ok x2 b r h6) fun _ _ h14 => ?_)
    obtain ⟨rfl, rfl⟩ := h14
    refine VR.p rfl rfl (VP.move rfl) ?_
    refine VR.p rfl rfl (VP.extract rfl rfl) ?_
    refine VR.p rfl rfl (VP.extract rfl rfl) ?_
    refine VR.p rfl rfl (VP.extract rfl rfl) ?_
    refine VR.cons rfl rfl (VO.alloc z28 fun b2 => ?_)
    refine VR.cons rfl rfl (VO.alloc z48 fun b3 => ?_)
    refine VR.cons rfl rfl (VO.storeP (i := 1) rfl rfl rfl ld28 rfl rfl rfl ?_)
    refine VR.p rfl rfl (VP.assign rfl) ?_
    refine VR.cons rfl rfl (VO.storeP (i := 0) rfl rfl rfl ld48 rfl rfl rfl ?_)
    refine VR.nil ?_
    refine VW.seq ?_
    refine VW.block ?_
    refine VW.seq ?_
    refine VW.region ?_
    refine VR.p rfl rfl (VP.fieldP rfl fa48_0) ?_
    refine VR.p rfl rfl (VP.loadP (i := 0) rfl rfl ld31 rfl) ?_
    refine VR.p rfl rfl (VP.arith rfl rfl rfl) ?_
    refine VR.p rfl rfl (VP.assign rfl) ?_
    refine VR.nil ?_
    rcases ite_or hm with ⟨h9, hm⟩ | ⟨h9, hm⟩
    · refine VW.condT rfl h9 ?_
      refine VW.seq ?_
      refine VW.drawK 0 mixed ?_
      refine VA.p 0 rfl rfl rfl (by kernel_rfl) (VP.fieldP rfl fa48_0) ?_
      refine VA.p 1 rfl rfl rfl (by kernel_rfl) (VP.loadP (i := 0) rfl rfl ld31 rfl) ?_
      refine VA.p 2 rfl rfl rfl (by kernel_rfl) (VP.fieldP rfl fa48_1) ?_
      refine VA.p 3 rfl rfl rfl (by kernel_rfl) (VP.loadP (i := 0) rfl rfl ld3 rfl) ?_
      refine VA.p 4 rfl rfl rfl (by kernel_rfl) (VP.assign rfl) ?_
      refine VA.p 5 rfl rfl rfl (by kernel_rfl) (VP.assign rfl) ?_
      refine VA.p 6 rfl rfl rfl (by kernel_rfl) (VP.assign rfl) ?_
      refine VA.done (by kernel_rfl) ?_
      obtain rfl := Option.some.inj hm
      refine VW.shift (Shift.nilRow 28) ?_
      exact VW.ret ⟨.inl rfl, _, .cons (.tmp _ _ rfl) (.cons (.tmp _ _ rfl) (.cons (.tmp _ _ rfl) .nil)), [0], _, rfl, none, 0, rfl, rfl⟩
    · have h9 := bf h9
      refine VW.condF rfl h9 ?_
      refine VW.seq ?_
      refine VW.region ?_
      refine VR.p rfl rfl (VP.move rfl) ?_
      refine VR.p rfl rfl (VP.not rfl) ?_
      refine VR.p rfl rfl (VP.assign rfl) ?_
      refine VR.nil ?_
      rcases ite_or hm with ⟨h11, hm⟩ | ⟨h11, hm⟩
      · refine VW.condT rfl h11 ?_
        refine VW.seq ?_
        refine VW.region ?_
        refine VR.p rfl rfl (VP.move rfl) ?_
        refine VR.p rfl rfl (VP.assign rfl) ?_
        refine VR.p rfl rfl (VP.assign rfl) ?_
        refine VR.p rfl rfl (VP.assign rfl) ?_
        refine VR.nil ?_
        obtain rfl := Option.some.inj hm
        exact VW.ret ⟨.inl rfl, _, .cons (.tmp _ _ rfl) (.cons (.tmp _ _ rfl) (.cons (.tmp _ _ rfl) .nil)), [3], _, rfl, ob2, cap2, rfl, rfl⟩
      · have h11 := bf h11
        refine VW.condF rfl h11 ?_
        refine VW.skip ?_
        refine VW.region ?_
        refine VR.p rfl rfl (VP.move rfl) ?_
        refine VR.p rfl rfl (VP.loadP (i := 1) rfl rfl ld28 rfl) ?_
        refine VR.cons rfl rfl (VO.buildSlice ap26 rfl rfl rfl rfl rfl fun b4 => ?_)
        obtain ⟨l4, h13, hm⟩ := bnd hm
        refine VR.cons rfl rfl (VO.apT 4 T_api_Token.vv (l := l2) (l2 := [r.1]) ap26 rfl rfl (sT_row 0 T_api_Token.vv el26 rfl rfl) h13 fun ob3 cap3 => ?_)
        refine VR.p rfl rfl (VP.assign rfl) ?_
        refine VR.nil ?_
        exact ⟨(r.2.2.2, l4), (ob3, cap3), hm, (Shift.pick [4, 3] rfl ⟨rfl, rfl, trivial⟩)⟩

/-! trireme/lex.Word -/
def lex_Word (s : ByteArray) : Option Bool :=
  (lex_head_lex_plain s).bind fun r =>
  (if ((r.2 && (r.1 == (s.size : Int))) && (decide (r.1 > (0 : Int)))) = true then (lex_Runes s).bind fun r2 =>
  some (decide (r2 ≤ (64 : Int))) else some false).bind fun c =>
  some c
theorem lex_Word_ok (s : ByteArray) (r : Bool) (hm : lex_Word s = some r) :
    VC Try.prog 12 [.str s] [] (fun x H' => x = .bool r ∧ H' = []) := by
  unfold lex_Word at hm
  refine VC.run (c := _) (rs := [.tmp 2]) Try.func12 rfl rfl rfl ?_
  refine VW.seq ?_
  refine VW.region ?_
  refine VR.p rfl rfl (VP.assign rfl) ?_
  refine VR.nil ?_
  refine VW.seq ?_
  refine VW.region ?_
  refine VR.p rfl rfl (VP.move rfl) ?_
  obtain ⟨r, h1, hm⟩ := bnd hm
  refine VR.cons rfl rfl (VO.callK 0 rfl fn20 rfl (lex_head_lex_plain_ok s r h1) fun _ _ h8 => ?_)
  obtain ⟨rfl, rfl⟩ := h8
  refine VR.p rfl rfl (VP.move rfl) ?_
  refine VR.p rfl rfl (VP.extract rfl rfl) ?_
  refine VR.p rfl rfl (VP.extract rfl rfl) ?_
  refine VR.p rfl rfl (VP.assign rfl) ?_
  refine VR.p rfl rfl (VP.assign rfl) ?_
  refine VR.nil ?_
  refine VW.seq ?_
  refine VW.region ?_
  refine VR.p rfl rfl (VP.move rfl) ?_
  refine VR.p rfl rfl (VP.move rfl) ?_
  refine VR.sc 5 16 (.bool (r.2 && (r.1 == (s.size : Int)))) (fun K' J => ?_) ?_
  · rcases Bool.eq_false_or_eq_true r.2 with h2 | h2
    · refine VR.pG rfl rfl rfl rfl h2 (VP.move rfl) ?_
      refine VR.pG rfl rfl rfl rfl h2 (VP.move rfl) ?_
      refine VR.pG rfl rfl rfl rfl h2 (VP.lenS rfl Try.underlying9) ?_
      refine VR.pG rfl rfl rfl rfl h2 (VP.arith rfl rfl rfl) ?_
      refine VR.p rfl rfl (VP.pickB true rfl h2 rfl) ?_
      exact J [_, _, _, _] _ rfl (andT h2)
    · refine VR.skipG rfl rfl rfl rfl h2 ?_
      refine VR.skipG rfl rfl rfl rfl h2 ?_
      refine VR.skipG rfl rfl rfl rfl h2 ?_
      refine VR.skipG rfl rfl rfl rfl h2 ?_
      refine VR.p rfl rfl (VP.pickB false rfl h2 rfl) ?_
      exact J [_, _, _, _] _ rfl (andF h2)
  · refine VR.p rfl rfl (VP.move rfl) ?_
    refine VR.sc 3 20 (.bool ((r.2 && (r.1 == (s.size : Int))) && (decide (r.1 > (0 : Int))))) (fun K' J => ?_) ?_
    · rcases Bool.eq_false_or_eq_true (r.2 && (r.1 == (s.size : Int))) with h3 | h3
      · refine VR.pG rfl rfl rfl rfl h3 (VP.move rfl) ?_
        refine VR.pG rfl rfl rfl rfl h3 (VP.arith rfl rfl rfl) ?_
        refine VR.p rfl rfl (VP.pickB true rfl h3 rfl) ?_
        exact J [_, _] _ rfl (andT h3)
      · refine VR.skipG rfl rfl rfl rfl h3 ?_
        refine VR.skipG rfl rfl rfl rfl h3 ?_
        refine VR.p rfl rfl (VP.pickB false rfl h3 rfl) ?_
        exact J [_, _] _ rfl (andF h3)
    · refine VR.p rfl rfl (VP.move rfl) ?_
      obtain ⟨c, h7, hm⟩ := bnd hm
      refine VR.sc 4 25 (.bool c) (fun K' J => ?_) ?_
      · have hm := h7
        rcases ite_or hm with ⟨h4, hm⟩ | ⟨h4, hm⟩
        · refine VR.pG rfl rfl rfl rfl h4 (VP.move rfl) ?_
          obtain ⟨r2, h5, hm⟩ := bnd hm
          refine VR.consG rfl rfl rfl rfl h4 (VO.callK 0 rfl fn14 rfl (lex_Runes_ok s r2 h5) fun _ _ h6 => ?_)
          obtain ⟨rfl, rfl⟩ := h6
          refine VR.pG rfl rfl rfl rfl h4 (VP.arith rfl rfl rfl) ?_
          refine VR.p rfl rfl (VP.pickB true rfl h4 rfl) ?_
          exact J [_, _, _] _ rfl (congrArg VV.bool (Option.some.inj hm))
        · have h4 := bf h4
          refine VR.skipG rfl rfl rfl rfl h4 ?_
          refine VR.skipG rfl rfl rfl rfl h4 ?_
          refine VR.skipG rfl rfl rfl rfl h4 ?_
          refine VR.p rfl rfl (VP.pickB false rfl h4 rfl) ?_
          exact J [_, _, _] _ rfl (congrArg VV.bool (Option.some.inj hm))
      · refine VR.p rfl rfl (VP.assign rfl) ?_
        refine VR.nil ?_
        obtain rfl := Option.some.inj hm
        exact VW.ret ⟨.inl rfl, _, .cons (.tmp _ _ rfl) .nil, [], _, rfl, rfl, rfl⟩

/-! trireme/lex.Quote -/
def lex_Quote.l1 (s : ByteArray) : Nat → (List Int) → Int → Option (List Int)
  | 0, _, _ => none
  | n + 1, b3, v2 =>
    if (decide (v2 < (s.size : Int))) = true then
      (V.gi s v2).bind fun v3 =>
      if (v3 == (10 : Int)) = true then
        (V.ap 1 b3 [(92 : Int), (110 : Int)]).bind fun b6 =>
        lex_Quote.l1 s n b6 (IntKind.i64.wrap (v2 + (1 : Int)))
      else
        if (v3 == (34 : Int)) = true then
          (V.ap 1 b3 [(92 : Int), v3]).bind fun b8 =>
          lex_Quote.l1 s n b8 (IntKind.i64.wrap (v2 + (1 : Int)))
        else
          if (v3 == (92 : Int)) = true then
            (V.ap 1 b3 [(92 : Int), v3]).bind fun b10 =>
            lex_Quote.l1 s n b10 (IntKind.i64.wrap (v2 + (1 : Int)))
          else
            (V.ap 1 b3 [v3]).bind fun b12 =>
            lex_Quote.l1 s n b12 (IntKind.i64.wrap (v2 + (1 : Int)))
    else
      some b3
def lex_Quote (s : ByteArray) : Option ByteArray :=
  (lex_Quote.l1 s FU [(34 : Int)] (0 : Int)).bind fun b42 =>
  (V.ap 1 b42 [(34 : Int)]).bind fun b14 =>
  some (strOfNums b14)
theorem lex_Quote_ok (s : ByteArray) (r : ByteArray) (hm : lex_Quote s = some r) :
    VC Try.prog 10 [.str s] [] (fun x H' => x = .str r ∧ H' = []) := by
  unfold lex_Quote at hm
  refine VC.run (c := _) (rs := [.tmp 2]) Try.func10 rfl rfl rfl ?_
  refine VW.seq ?_
  refine VW.region ?_
  refine VR.p rfl rfl (VP.assign rfl) ?_
  refine VR.nil ?_
  refine VW.seq ?_
  refine VW.region ?_
  refine VR.cons rfl rfl (VO.buildSlice ap36 rfl rfl rfl rfl rfl fun b => ?_)
  refine VR.p rfl rfl (VP.assign rfl) ?_
  refine VR.nil ?_
  refine VW.seq ?_
  refine VW.seq ?_
  refine VW.region ?_
  refine VR.p rfl rfl (VP.move rfl) ?_
  refine VR.p rfl rfl (VP.lenS rfl Try.underlying9) ?_
  refine VR.p rfl rfl (VP.move rfl) ?_
  refine VR.nil ?_
  obtain ⟨o, h2, h3⟩ := bnd hm
  refine VW.joinE (fun (q : List Int) => q = o) (fun (b42 : List Int) (gg : Option Nat × Nat) => [(3, .sl gg.1 (List.map (VV.int .u8) b42).length gg.2)]) (fun (b42 : List Int) (gg : Option Nat × Nat) => [.row gg.1 5 gg.2 (List.map (VV.int .u8) b42)]) ?_ ?_
  · have hm := h2
    refine VW.block (VW.loop FU ?_)
    refine VL.fuelS (R := _) (fun zn (zs : List Int × Int) => lex_Quote.l1 s zn zs.1 zs.2) (fun (zs : List Int × Int) (zg : Option Nat × Nat) => [(0, .str s), (3, .sl zg.1 (List.map (VV.int .u8) zs.1).length zg.2), (8, .int .i64 (s.size : Int)), (9, .int .i64 zs.2)]) (fun (zs : List Int × Int) (zg : Option Nat × Nat) => [.row zg.1 5 zg.2 (List.map (VV.int .u8) zs.1)]) ([(34 : Int)], (0 : Int)) ((some b), 1) (fun zs => rfl) (Shift.pick [0] rfl ⟨rfl, rfl, rfl, rfl, trivial⟩) h2 ?_
    rintro n ⟨b3, v2⟩ ⟨ob2, cap2⟩ hm
    rw [lex_Quote.l1] at hm
    refine VW.seq ?_
    refine VW.region ?_
    refine VR.p rfl rfl (VP.arith rfl rfl rfl) ?_
    refine VR.nil ?_
    refine VW.seq ?_
    rcases ite_or hm with ⟨h4, hm⟩ | ⟨h4, hm⟩
    · refine VW.condT rfl h4 ?_
      refine VW.skip ?_
      refine VW.seq ?_
      refine VW.block ?_
      refine VW.seq ?_
      refine VW.region ?_
      refine VR.p rfl rfl (VP.move rfl) ?_
      refine VR.p rfl rfl (VP.assign rfl) ?_
      refine VR.nil ?_
      refine VW.seq ?_
      refine VW.region ?_
      refine VR.p rfl rfl (VP.move rfl) ?_
      refine VR.p rfl rfl (VP.move rfl) ?_
      obtain ⟨v3, h5, hm⟩ := bnd hm
      refine VR.p rfl rfl (VP.gi rfl rfl Try.underlying9 h5) ?_
      refine VR.p rfl rfl (VP.assign rfl) ?_
      refine VR.nil ?_
      refine VW.seq ?_
      refine VW.region ?_
      refine VR.p rfl rfl (VP.move rfl) ?_
      refine VR.nil ?_
      refine VW.block ?_
      refine VW.seq ?_
      refine VW.region ?_
      refine VR.p rfl rfl (VP.arith rfl rfl rfl) ?_
      refine VR.p rfl rfl (VP.assign rfl) ?_
      refine VR.nil ?_
      rcases ite_or hm with ⟨h6, hm⟩ | ⟨h6, hm⟩
      · refine VW.condT rfl h6 ?_
        refine VW.region ?_
        refine VR.p rfl rfl (VP.move rfl) ?_
        refine VR.cons rfl rfl (VO.buildSlice ap36 rfl rfl rfl rfl rfl fun b5 => ?_)
        obtain ⟨b6, h8, hm⟩ := bnd hm
        refine VR.cons rfl rfl (VO.apT 1 (VV.int .u8) (l := b3) (l2 := [(92 : Int), (110 : Int)]) ap36 rfl rfl (sT_row 0 (VV.int .u8) el36 rfl rfl) h8 fun ob4 cap4 => ?_)
        refine VR.p rfl rfl (VP.assign rfl) ?_
        refine VR.nil ?_
        refine VW.region ?_
        refine VR.p rfl rfl (VP.arith rfl rfl rfl) ?_
        refine VR.p rfl rfl (VP.move rfl) ?_
        refine VR.nil ?_
        exact ⟨(b6, (IntKind.i64.wrap (v2 + (1 : Int)))), (ob4, cap4), hm, (Shift.pick [1] rfl ⟨rfl, rfl, rfl, rfl, trivial⟩)⟩
      · have h6 := bf h6
        refine VW.condF rfl h6 ?_
        refine VW.seq ?_
        refine VW.seq ?_
        refine VW.region ?_
        refine VR.p rfl rfl (VP.arith rfl rfl rfl) ?_
        refine VR.p rfl rfl (VP.assign rfl) ?_
        refine VR.nil ?_
        rcases ite_or hm with ⟨h9, hm⟩ | ⟨h9, hm⟩
        · refine VW.condT rfl h9 ?_
          refine VW.skip ?_
          refine VW.condT rfl h9 ?_
          refine VW.region ?_
          refine VR.p rfl rfl (VP.move rfl) ?_
          refine VR.p rfl rfl (VP.move rfl) ?_
          refine VR.cons rfl rfl (VO.buildSlice ap36 rfl rfl rfl rfl rfl fun b7 => ?_)
          obtain ⟨b8, h11, hm⟩ := bnd hm
          refine VR.cons rfl rfl (VO.apT 1 (VV.int .u8) (l := b3) (l2 := [(92 : Int), v3]) ap36 rfl rfl (sT_row 0 (VV.int .u8) el36 rfl rfl) h11 fun ob5 cap5 => ?_)
          refine VR.p rfl rfl (VP.assign rfl) ?_
          refine VR.nil ?_
          refine VW.region ?_
          refine VR.p rfl rfl (VP.arith rfl rfl rfl) ?_
          refine VR.p rfl rfl (VP.move rfl) ?_
          refine VR.nil ?_
          exact ⟨(b8, (IntKind.i64.wrap (v2 + (1 : Int)))), (ob5, cap5), hm, (Shift.pick [1] rfl ⟨rfl, rfl, rfl, rfl, trivial⟩)⟩
        · have h9 := bf h9
          refine VW.condF rfl h9 ?_
          refine VW.region ?_
          refine VR.p rfl rfl (VP.arith rfl rfl rfl) ?_
          refine VR.p rfl rfl (VP.assign rfl) ?_
          refine VR.nil ?_
          rcases ite_or hm with ⟨h12, hm⟩ | ⟨h12, hm⟩
          · refine VW.condT rfl h12 ?_
            refine VW.region ?_
            refine VR.p rfl rfl (VP.move rfl) ?_
            refine VR.p rfl rfl (VP.move rfl) ?_
            refine VR.cons rfl rfl (VO.buildSlice ap36 rfl rfl rfl rfl rfl fun b9 => ?_)
            obtain ⟨b10, h14, hm⟩ := bnd hm
            refine VR.cons rfl rfl (VO.apT 1 (VV.int .u8) (l := b3) (l2 := [(92 : Int), v3]) ap36 rfl rfl (sT_row 0 (VV.int .u8) el36 rfl rfl) h14 fun ob6 cap6 => ?_)
            refine VR.p rfl rfl (VP.assign rfl) ?_
            refine VR.nil ?_
            refine VW.region ?_
            refine VR.p rfl rfl (VP.arith rfl rfl rfl) ?_
            refine VR.p rfl rfl (VP.move rfl) ?_
            refine VR.nil ?_
            exact ⟨(b10, (IntKind.i64.wrap (v2 + (1 : Int)))), (ob6, cap6), hm, (Shift.pick [1] rfl ⟨rfl, rfl, rfl, rfl, trivial⟩)⟩
          · have h12 := bf h12
            refine VW.condF rfl h12 ?_
            refine VW.region ?_
            refine VR.p rfl rfl (VP.move rfl) ?_
            refine VR.p rfl rfl (VP.move rfl) ?_
            refine VR.cons rfl rfl (VO.buildSlice ap36 rfl rfl rfl rfl rfl fun b11 => ?_)
            obtain ⟨b12, h16, hm⟩ := bnd hm
            refine VR.cons rfl rfl (VO.apT 1 (VV.int .u8) (l := b3) (l2 := [v3]) ap36 rfl rfl (sT_row 0 (VV.int .u8) el36 rfl rfl) h16 fun ob7 cap7 => ?_)
            refine VR.p rfl rfl (VP.assign rfl) ?_
            refine VR.nil ?_
            refine VW.region ?_
            refine VR.p rfl rfl (VP.arith rfl rfl rfl) ?_
            refine VR.p rfl rfl (VP.move rfl) ?_
            refine VR.nil ?_
            exact ⟨(b12, (IntKind.i64.wrap (v2 + (1 : Int)))), (ob7, cap7), hm, (Shift.pick [1] rfl ⟨rfl, rfl, rfl, rfl, trivial⟩)⟩
    · have h4 := bf h4
      refine VW.condF rfl h4 ?_
      refine VW.exit ?_
      exact ⟨b3, (ob2, cap2), Option.some.inj hm, (Shift.pick [0] rfl ⟨rfl, trivial⟩)⟩
  · rintro b42 ⟨ob3, cap3⟩ rfl
    have hm := h3
    refine VW.seq ?_
    refine VW.region ?_
    refine VR.p rfl rfl (VP.move rfl) ?_
    refine VR.cons rfl rfl (VO.buildSlice ap36 rfl rfl rfl rfl rfl fun b13 => ?_)
    obtain ⟨b14, h18, hm⟩ := bnd hm
    refine VR.cons rfl rfl (VO.apT 1 (VV.int .u8) (l := b42) (l2 := [(34 : Int)]) ap36 rfl rfl (sT_row 0 (VV.int .u8) el36 rfl rfl) h18 fun ob8 cap8 => ?_)
    refine VR.p rfl rfl (VP.convB (i := 1) (l := b14) el36 Try.underlying5 Try.underlying9 rfl rfl) ?_
    refine VR.p rfl rfl (VP.assign rfl) ?_
    refine VR.nil ?_
    obtain rfl := Option.some.inj hm
    exact VW.ret ⟨.inl rfl, _, .cons (.tmp _ _ rfl) .nil, [], _, rfl, rfl, rfl⟩

/-! trireme/lex.Show -/
def lex_Show.l1 (l : List T_api_Token) : List T_api_Token → Nat → ByteArray → Option ByteArray
  | [], k, s2 => some s2
  | x :: l2, k, s2 =>
    ((if (decide ((k : Int) > (0 : Int))) = true then (V.gl l (IntKind.i64.wrap ((k : Int) - (1 : Int)))).bind fun x2 =>
    some (x2.Kind != (1 : Int)) else some false).bind fun c =>
    if (c && (x.Kind != (2 : Int))) = true then
      (V.cat s2 (⟨#[32]⟩ : ByteArray)).bind fun v =>
      some v
    else
      some s2).bind fun s42 =>
    if (x.Kind == (1 : Int)) = true then
      (V.cat s42 (⟨#[40]⟩ : ByteArray)).bind fun v2 =>
      lex_Show.l1 l l2 (k + 1) v2
    else
      if (x.Kind == (2 : Int)) = true then
        (V.cat s42 (⟨#[41]⟩ : ByteArray)).bind fun v3 =>
        lex_Show.l1 l l2 (k + 1) v3
      else
        if (x.Kind == (4 : Int)) = true then
          (lex_Quote x.Text).bind fun r =>
          (V.cat s42 r).bind fun v4 =>
          lex_Show.l1 l l2 (k + 1) v4
        else
          (V.cat s42 x.Text).bind fun v5 =>
          lex_Show.l1 l l2 (k + 1) v5
def lex_Show (l : List T_api_Token) : Option ByteArray :=
  (lex_Show.l1 l l 0 (⟨#[]⟩ : ByteArray)).bind fun s32 =>
  some s32
theorem lex_Show_ok (l : List T_api_Token) (r : ByteArray) (hm : lex_Show l = some r) :
    VC Try.prog 16 [.list 28 (List.map T_api_Token.vv l)] [] (fun x H' => x = .str r ∧ H' = []) := by
  unfold lex_Show at hm
  refine VC.run (c := _) (rs := [.tmp 2]) Try.func16 rfl rfl rfl ?_
  refine VW.seq ?_
  refine VW.region ?_
  refine VR.p rfl rfl (VP.assign rfl) ?_
  refine VR.nil ?_
  refine VW.seq ?_
  refine VW.region ?_
  refine VR.p rfl rfl (VP.assign rfl) ?_
  refine VR.nil ?_
  refine VW.seq ?_
  refine VW.seq ?_
  refine VW.region ?_
  refine VR.p rfl rfl (VP.move rfl) ?_
  refine VR.p rfl rfl (VP.lenT T_api_Token.vv rfl Try.underlying26) ?_
  refine VR.p rfl rfl (VP.move rfl) ?_
  refine VR.nil ?_
  refine VW.lenL 0 rfl fun h3 => ?_
  have h3 := max_map h3
  obtain ⟨o, h1, h2⟩ := bnd hm
  refine VW.joinE (fun (q : ByteArray) => q = o) (fun (s32 : ByteArray) (gg : Unit) => [(3, .str s32)]) (fun (s32 : ByteArray) (gg : Unit) => []) ?_ ?_
  · have hm := h1
    refine VW.block (VW.loop (l.length + 1) ?_)
    refine VL.eachS (l := l) (R := _) (fun zl zk (zs : ByteArray) => lex_Show.l1 l zl zk zs) (fun (k : Nat) (zs : ByteArray) (zg : Unit) => [(0, .list 28 (List.map T_api_Token.vv l)), (3, .str zs), (6, .list 28 (List.map T_api_Token.vv l)), (7, .int .i64 (l.length : Int)), (8, .int .i64 (k : Int))]) (fun (k : Nat) (zs : ByteArray) (zg : Unit) => []) (⟨#[]⟩ : ByteArray) () (Shift.pick [] rfl ⟨rfl, rfl, rfl, rfl, rfl, trivial⟩) h1 ?_ ?_
    · rintro k s2 _ hk hm
      rw [lex_Show.l1] at hm
      refine VW.seq ?_
      refine VW.region ?_
      refine VR.p rfl rfl (VP.arith rfl rfl rfl) ?_
      refine VR.nil ?_
      refine VW.seq ?_
      refine VW.condF rfl (k_end hk) ?_
      refine VW.exit ?_
      exact ⟨s2, (), Option.some.inj hm, (Shift.pick [] rfl ⟨rfl, trivial⟩)⟩
    · rintro k x l2 s2 _ h4 hm
      rw [lex_Show.l1] at hm
      refine VW.seq ?_
      refine VW.region ?_
      refine VR.p rfl rfl (VP.arith rfl rfl rfl) ?_
      refine VR.nil ?_
      refine VW.seq ?_
      refine VW.condT rfl (k_lt h4) ?_
      refine VW.skip ?_
      refine VW.seq ?_
      refine VW.block ?_
      refine VW.seq ?_
      refine VW.region ?_
      refine VR.p rfl rfl (VP.move rfl) ?_
      refine VR.p rfl rfl (VP.glK T_api_Token.vv rfl rfl el26 h4) ?_
      refine VR.p rfl rfl (VP.loadE rfl ld28 rfl) ?_
      refine VR.cons rfl rfl (VO.alloc z28 fun b => ?_)
      refine VR.p rfl rfl (VP.assign rfl) ?_
      refine VR.cons rfl rfl (VO.storeP (i := 0) rfl rfl rfl ld28 rfl rfl rfl ?_)
      refine VR.nil ?_
      obtain ⟨o2, h6, h7⟩ := bnd hm
      refine VW.join (fun (q : ByteArray) => q = o2) (fun (s42 : ByteArray) (gg : Unit) => [(0, .list 28 (List.map T_api_Token.vv l)), (3, .str s42), (5, .ptr b 0), (6, .list 28 (List.map T_api_Token.vv l)), (7, .int .i64 (l.length : Int)), (8, .int .i64 (k : Int))]) (fun (s42 : ByteArray) (gg : Unit) => [.box b 28 (T_api_Token.cells x)]) ?_ ?_
      · have hm := h6
        refine VW.seq ?_
        refine VW.region ?_
        refine VR.p rfl rfl (VP.move rfl) ?_
        refine VR.p rfl rfl (VP.arith rfl rfl rfl) ?_
        refine VR.p rfl rfl (VP.move rfl) ?_
        obtain ⟨c, h10, hm⟩ := bnd hm
        refine VR.sc 8 23 (.bool c) (fun K' J => ?_) ?_
        · have hm := h10
          rcases ite_or hm with ⟨h8, hm⟩ | ⟨h8, hm⟩
          · refine VR.pG rfl rfl rfl rfl h8 (VP.move rfl) ?_
            refine VR.pG rfl rfl rfl rfl h8 (VP.move rfl) ?_
            refine VR.pG rfl rfl rfl rfl h8 (VP.arith rfl rfl rfl) ?_
            obtain ⟨x2, h9, hm⟩ := bnd hm
            refine VR.pG rfl rfl rfl rfl h8 (VP.glE T_api_Token.vv rfl rfl el26 h9) ?_
            refine VR.pG rfl rfl rfl rfl h8 (VP.fieldE rfl fa28_0) ?_
            refine VR.pG rfl rfl rfl rfl h8 (VP.loadE rfl ld3 rfl) ?_
            refine VR.pG rfl rfl rfl rfl h8 (VP.arith rfl rfl rfl) ?_
            refine VR.p rfl rfl (VP.pickB true rfl h8 rfl) ?_
            exact J [_, _, _, _, _, _, _] _ rfl (congrArg VV.bool (Option.some.inj hm))
          · have h8 := bf h8
            refine VR.skipG rfl rfl rfl rfl h8 ?_
            refine VR.skipG rfl rfl rfl rfl h8 ?_
            refine VR.skipG rfl rfl rfl rfl h8 ?_
            refine VR.skipG rfl rfl rfl rfl h8 ?_
            refine VR.skipG rfl rfl rfl rfl h8 ?_
            refine VR.skipG rfl rfl rfl rfl h8 ?_
            refine VR.skipG rfl rfl rfl rfl h8 ?_
            refine VR.p rfl rfl (VP.pickB false rfl h8 rfl) ?_
            exact J [_, _, _, _, _, _, _] _ rfl (congrArg VV.bool (Option.some.inj hm))
        · refine VR.p rfl rfl (VP.move rfl) ?_
          refine VR.sc 4 28 (.bool (c && (x.Kind != (2 : Int)))) (fun K' J => ?_) ?_
          · rcases Bool.eq_false_or_eq_true c with h11 | h11
            · refine VR.pG rfl rfl rfl rfl h11 (VP.fieldP rfl fa28_0) ?_
              refine VR.pG rfl rfl rfl rfl h11 (VP.loadP (i := 0) rfl rfl ld3 rfl) ?_
              refine VR.pG rfl rfl rfl rfl h11 (VP.arith rfl rfl rfl) ?_
              refine VR.p rfl rfl (VP.pickB true rfl h11 rfl) ?_
              exact J [_, _, _] _ rfl (andT h11)
            · refine VR.skipG rfl rfl rfl rfl h11 ?_
              refine VR.skipG rfl rfl rfl rfl h11 ?_
              refine VR.skipG rfl rfl rfl rfl h11 ?_
              refine VR.p rfl rfl (VP.pickB false rfl h11 rfl) ?_
              exact J [_, _, _] _ rfl (andF h11)
          · refine VR.nil ?_
            rcases ite_or hm with ⟨h12, hm⟩ | ⟨h12, hm⟩
            · refine VW.condT rfl h12 ?_
              refine VW.region ?_
              refine VR.p rfl rfl (VP.move rfl) ?_
              obtain ⟨v, h13, hm⟩ := bnd hm
              refine VR.p rfl rfl (VP.catT rfl rfl h13) ?_
              refine VR.p rfl rfl (VP.assign rfl) ?_
              refine VR.nil ?_
              exact ⟨v, (), Option.some.inj hm, (Shift.pick [0] rfl ⟨rfl, rfl, rfl, rfl, rfl, rfl, trivial⟩)⟩
            · have h12 := bf h12
              refine VW.condF rfl h12 ?_
              refine VW.skip ?_
              exact ⟨s2, (), Option.some.inj hm, (Shift.pick [0] rfl ⟨rfl, rfl, rfl, rfl, rfl, rfl, trivial⟩)⟩
      · rintro s42 _ rfl
        have hm := h7
        refine VW.seq ?_
        refine VW.region ?_
        refine VR.p rfl rfl (VP.fieldP rfl fa28_0) ?_
        refine VR.p rfl rfl (VP.loadP (i := 0) rfl rfl ld3 rfl) ?_
        refine VR.nil ?_
        refine VW.block ?_
        refine VW.seq ?_
        refine VW.region ?_
        refine VR.p rfl rfl (VP.arith rfl rfl rfl) ?_
        refine VR.p rfl rfl (VP.assign rfl) ?_
        refine VR.nil ?_
        rcases ite_or hm with ⟨h14, hm⟩ | ⟨h14, hm⟩
        · refine VW.condT rfl h14 ?_
          refine VW.region ?_
          refine VR.p rfl rfl (VP.move rfl) ?_
          obtain ⟨v2, h15, hm⟩ := bnd hm
          refine VR.p rfl rfl (VP.catT rfl rfl h15) ?_
          refine VR.p rfl rfl (VP.assign rfl) ?_
          refine VR.nil ?_
          refine VW.region ?_
          refine VR.p rfl rfl (VP.arith rfl rfl rfl) ?_
          refine VR.p rfl rfl (VP.move rfl) ?_
          refine VR.nil ?_
          exact ⟨v2, (), hm, (Shift.pick [] rfl ⟨rfl, rfl, rfl, rfl, congrArg some (k_next h4 h3), trivial⟩)⟩
        · have h14 := bf h14
          refine VW.condF rfl h14 ?_
          refine VW.seq ?_
          refine VW.region ?_
          refine VR.p rfl rfl (VP.arith rfl rfl rfl) ?_
          refine VR.p rfl rfl (VP.assign rfl) ?_
          refine VR.nil ?_
          rcases ite_or hm with ⟨h16, hm⟩ | ⟨h16, hm⟩
          · refine VW.condT rfl h16 ?_
            refine VW.region ?_
            refine VR.p rfl rfl (VP.move rfl) ?_
            obtain ⟨v3, h17, hm⟩ := bnd hm
            refine VR.p rfl rfl (VP.catT rfl rfl h17) ?_
            refine VR.p rfl rfl (VP.assign rfl) ?_
            refine VR.nil ?_
            refine VW.region ?_
            refine VR.p rfl rfl (VP.arith rfl rfl rfl) ?_
            refine VR.p rfl rfl (VP.move rfl) ?_
            refine VR.nil ?_
            exact ⟨v3, (), hm, (Shift.pick [] rfl ⟨rfl, rfl, rfl, rfl, congrArg some (k_next h4 h3), trivial⟩)⟩
          · have h16 := bf h16
            refine VW.condF rfl h16 ?_
            refine VW.seq ?_
            refine VW.region ?_
            refine VR.p rfl rfl (VP.arith rfl rfl rfl) ?_
            refine VR.p rfl rfl (VP.assign rfl) ?_
            refine VR.nil ?_
            rcases ite_or hm with ⟨h18, hm⟩ | ⟨h18, hm⟩
            · refine VW.condT rfl h18 ?_
              refine VW.region ?_
              refine VR.p rfl rfl (VP.move rfl) ?_
              refine VR.p rfl rfl (VP.fieldP rfl fa28_1) ?_
              refine VR.p rfl rfl (VP.loadP (i := 0) rfl rfl ld9 rfl) ?_
              obtain ⟨r, h19, hm⟩ := bnd hm
              refine VR.cons rfl rfl (VO.callK 0 rfl fn10 rfl (lex_Quote_ok x.Text r h19) fun _ _ h21 => ?_)
              obtain ⟨rfl, rfl⟩ := h21
              obtain ⟨v4, h20, hm⟩ := bnd hm
              refine VR.p rfl rfl (VP.catT rfl rfl h20) ?_
              refine VR.p rfl rfl (VP.assign rfl) ?_
              refine VR.nil ?_
              refine VW.region ?_
              refine VR.p rfl rfl (VP.arith rfl rfl rfl) ?_
              refine VR.p rfl rfl (VP.move rfl) ?_
              refine VR.nil ?_
              exact ⟨v4, (), hm, (Shift.pick [] rfl ⟨rfl, rfl, rfl, rfl, congrArg some (k_next h4 h3), trivial⟩)⟩
            · have h18 := bf h18
              refine VW.condF rfl h18 ?_
              refine VW.region ?_
              refine VR.p rfl rfl (VP.move rfl) ?_
              refine VR.p rfl rfl (VP.fieldP rfl fa28_1) ?_
              refine VR.p rfl rfl (VP.loadP (i := 0) rfl rfl ld9 rfl) ?_
              obtain ⟨v5, h22, hm⟩ := bnd hm
              refine VR.p rfl rfl (VP.catT rfl rfl h22) ?_
              refine VR.p rfl rfl (VP.assign rfl) ?_
              refine VR.nil ?_
              refine VW.region ?_
              refine VR.p rfl rfl (VP.arith rfl rfl rfl) ?_
              refine VR.p rfl rfl (VP.move rfl) ?_
              refine VR.nil ?_
              exact ⟨v5, (), hm, (Shift.pick [] rfl ⟨rfl, rfl, rfl, rfl, congrArg some (k_next h4 h3), trivial⟩)⟩
  · rintro s32 _ rfl
    have hm := h2
    refine VW.seq ?_
    refine VW.region ?_
    refine VR.p rfl rfl (VP.move rfl) ?_
    refine VR.p rfl rfl (VP.assign rfl) ?_
    refine VR.nil ?_
    obtain rfl := Option.some.inj hm
    exact VW.ret ⟨.inl rfl, _, .cons (.tmp _ _ rfl) .nil, [], _, rfl, rfl, rfl⟩

/-! trireme/triremelaw01.known -/
def law01_known : Option Bool :=
  (lex_Scan (⟨#[40, 112, 111, 100, 32, 34, 97, 32, 98, 34, 41, 32, 59, 32, 110, 111]⟩ : ByteArray)).bind fun r =>
  (lex_Scan (⟨#[120, 32, 34, 97]⟩ : ByteArray)).bind fun r2 =>
  (lex_Scan (⟨#[97, 10, 32, 195, 169, 98, 32, 99]⟩ : ByteArray)).bind fun r3 =>
  (if ((r.2.1 == (0 : Int)) && ((r.1.length : Int) == (4 : Int))) = true then (V.gl r.1 (0 : Int)).bind fun x6 =>
  some (x6.Kind == (1 : Int)) else some false).bind fun c11 =>
  (if c11 = true then (V.gl r.1 (2 : Int)).bind fun x7 =>
  some (V.seq x7.Text (⟨#[97, 32, 98]⟩ : ByteArray)) else some false).bind fun c12 =>
  (if c12 = true then (V.gl r.1 (2 : Int)).bind fun x8 =>
  some (x8.Col == (6 : Int)) else some false).bind fun c13 =>
  (if ((((c13 && (r2.2.1 == (3 : Int))) && (r2.2.2 == (2 : Int))) && (r3.2.1 == (0 : Int))) && ((r3.1.length : Int) == (3 : Int))) = true then (V.gl r3.1 (2 : Int)).bind fun x9 =>
  some (x9.Line == (2 : Int)) else some false).bind fun c14 =>
  (if c14 = true then (V.gl r3.1 (2 : Int)).bind fun x10 =>
  some (x10.Col == (5 : Int)) else some false).bind fun c15 =>
  (if c15 = true then (lex_Word (⟨#[120, 45, 49]⟩ : ByteArray)).bind fun r9 =>
  some r9 else some false).bind fun c16 =>
  (if c16 = true then (lex_Word (⟨#[97, 32, 98]⟩ : ByteArray)).bind fun r10 =>
  some (!r10) else some false).bind fun c17 =>
  (if c17 = true then (lex_Runes (⟨#[195, 169, 97]⟩ : ByteArray)).bind fun r11 =>
  some (r11 == (2 : Int)) else some false).bind fun c18 =>
  (if c18 = true then (lex_Runes (⟨#[255]⟩ : ByteArray)).bind fun r12 =>
  some (r12 == (-1 : Int)) else some false).bind fun c19 =>
  (if c19 = true then (lex_Quote (⟨#[97, 34]⟩ : ByteArray)).bind fun r13 =>
  some (V.seq r13 (⟨#[34, 97, 92, 34, 34]⟩ : ByteArray)) else some false).bind fun c20 =>
  (if c20 = true then (lex_Show r.1).bind fun r14 =>
  some (V.seq r14 (⟨#[40, 112, 111, 100, 32, 34, 97, 32, 98, 34, 41]⟩ : ByteArray)) else some false).bind fun c21 =>
  some c21
theorem law01_known_ok (r : Bool) (hm : law01_known = some r) :
    VC Try.prog 9 [] [] (fun x H' => x = .bool r ∧ H' = []) := by
  unfold law01_known at hm
  refine VC.run (c := _) (rs := [.tmp 0]) Try.func9 rfl rfl rfl ?_
  refine VW.seq ?_
  refine VW.region ?_
  refine VR.p rfl rfl (VP.assign rfl) ?_
  refine VR.nil ?_
  refine VW.seq ?_
  refine VW.region ?_
  obtain ⟨r, h1, hm⟩ := bnd hm
  refine VR.cons rfl rfl (VO.callK 0 rfl fn18 rfl (lex_Scan_ok (⟨#[40, 112, 111, 100, 32, 34, 97, 32, 98, 34, 41, 32, 59, 32, 110, 111]⟩ : ByteArray) r h1) fun _ _ h101 => ?_)
  obtain ⟨ob, cap, rfl, rfl⟩ := h101
  refine VR.p rfl rfl (VP.move rfl) ?_
  refine VR.p rfl rfl (VP.extract rfl rfl) ?_
  refine VR.p rfl rfl (VP.extract rfl rfl) ?_
  refine VR.p rfl rfl (VP.extract rfl rfl) ?_
  refine VR.p rfl rfl (VP.assign rfl) ?_
  refine VR.p rfl rfl (VP.assign rfl) ?_
  refine VR.p rfl rfl (VP.assign rfl) ?_
  refine VR.nil ?_
  refine VW.seq ?_
  refine VW.region ?_
  obtain ⟨r2, h3, hm⟩ := bnd hm
  refine VR.cons rfl rfl (VO.callK 0 rfl fn18 rfl (lex_Scan_ok (⟨#[120, 32, 34, 97]⟩ : ByteArray) r2 h3) fun _ _ h100 => ?_)
  obtain ⟨ob2, cap2, rfl, rfl⟩ := h100
  refine VR.p rfl rfl (VP.move rfl) ?_
  refine VR.p rfl rfl (VP.extract rfl rfl) ?_
  refine VR.p rfl rfl (VP.extract rfl rfl) ?_
  refine VR.p rfl rfl (VP.extract rfl rfl) ?_
  refine VR.p rfl rfl (VP.assign rfl) ?_
  refine VR.p rfl rfl (VP.assign rfl) ?_
  refine VR.p rfl rfl (VP.assign rfl) ?_
  refine VR.nil ?_
  refine VW.seq ?_
  refine VW.region ?_
  obtain ⟨r3, h5, hm⟩ := bnd hm
  refine VR.cons rfl rfl (VO.callK 0 rfl fn18 rfl (lex_Scan_ok (⟨#[97, 10, 32, 195, 169, 98, 32, 99]⟩ : ByteArray) r3 h5) fun _ _ h99 => ?_)
  obtain ⟨ob3, cap3, rfl, rfl⟩ := h99
  refine VR.p rfl rfl (VP.move rfl) ?_
  refine VR.p rfl rfl (VP.extract rfl rfl) ?_
  refine VR.p rfl rfl (VP.extract rfl rfl) ?_
  refine VR.p rfl rfl (VP.extract rfl rfl) ?_
  refine VR.p rfl rfl (VP.assign rfl) ?_
  refine VR.p rfl rfl (VP.assign rfl) ?_
  refine VR.p rfl rfl (VP.assign rfl) ?_
  refine VR.nil ?_
  refine VW.seq ?_
  refine VW.shift (Shift.freezeE 2 [(12, .list 28 (List.map T_api_Token.vv r.1)), (1, .list 28 (List.map T_api_Token.vv r.1))] rfl ⟨⟨_, rfl, .here _ rfl⟩, ⟨_, rfl, .here _ rfl⟩, trivial⟩ (FzH.refl _)) ?_
  refine VW.region ?_
  refine VR.p rfl rfl (VP.move rfl) ?_
  refine VR.p rfl rfl (VP.arith rfl rfl rfl) ?_
  refine VR.p rfl rfl (VP.move rfl) ?_
  refine VR.sc 4 31 (.bool ((r.2.1 == (0 : Int)) && ((r.1.length : Int) == (4 : Int)))) (fun K' J => ?_) ?_
  · rcases Bool.eq_false_or_eq_true (r.2.1 == (0 : Int)) with h53 | h53
    · refine VR.pG rfl rfl rfl rfl h53 (VP.move rfl) ?_
      refine VR.pG rfl rfl rfl rfl h53 (VP.lenT T_api_Token.vv rfl Try.underlying26) ?_
      refine VR.pG rfl rfl rfl rfl h53 (VP.arith rfl rfl rfl) ?_
      refine VR.p rfl rfl (VP.pickB true rfl h53 rfl) ?_
      exact J [_, _, _] _ rfl (andT h53)
    · refine VR.skipG rfl rfl rfl rfl h53 ?_
      refine VR.skipG rfl rfl rfl rfl h53 ?_
      refine VR.skipG rfl rfl rfl rfl h53 ?_
      refine VR.p rfl rfl (VP.pickB false rfl h53 rfl) ?_
      exact J [_, _, _] _ rfl (andF h53)
  · refine VR.p rfl rfl (VP.move rfl) ?_
    obtain ⟨c11, h56, hm⟩ := bnd hm
    refine VR.sc 6 38 (.bool c11) (fun K' J => ?_) ?_
    · have hm := h56
      rcases ite_or hm with ⟨h54, hm⟩ | ⟨h54, hm⟩
      · refine VR.pG rfl rfl rfl rfl h54 (VP.move rfl) ?_
        obtain ⟨x6, h55, hm⟩ := bnd hm
        refine VR.pG rfl rfl rfl rfl h54 (VP.glE T_api_Token.vv rfl rfl el26 h55) ?_
        refine VR.pG rfl rfl rfl rfl h54 (VP.fieldE rfl fa28_0) ?_
        refine VR.pG rfl rfl rfl rfl h54 (VP.loadE rfl ld3 rfl) ?_
        refine VR.pG rfl rfl rfl rfl h54 (VP.arith rfl rfl rfl) ?_
        refine VR.p rfl rfl (VP.pickB true rfl h54 rfl) ?_
        exact J [_, _, _, _, _] _ rfl (congrArg VV.bool (Option.some.inj hm))
      · have h54 := bf h54
        refine VR.skipG rfl rfl rfl rfl h54 ?_
        refine VR.skipG rfl rfl rfl rfl h54 ?_
        refine VR.skipG rfl rfl rfl rfl h54 ?_
        refine VR.skipG rfl rfl rfl rfl h54 ?_
        refine VR.skipG rfl rfl rfl rfl h54 ?_
        refine VR.p rfl rfl (VP.pickB false rfl h54 rfl) ?_
        exact J [_, _, _, _, _] _ rfl (congrArg VV.bool (Option.some.inj hm))
    · refine VR.p rfl rfl (VP.move rfl) ?_
      obtain ⟨c12, h59, hm⟩ := bnd hm
      refine VR.sc 6 45 (.bool c12) (fun K' J => ?_) ?_
      · have hm := h59
        rcases ite_or hm with ⟨h57, hm⟩ | ⟨h57, hm⟩
        · refine VR.pG rfl rfl rfl rfl h57 (VP.move rfl) ?_
          obtain ⟨x7, h58, hm⟩ := bnd hm
          refine VR.pG rfl rfl rfl rfl h57 (VP.glE T_api_Token.vv rfl rfl el26 h58) ?_
          refine VR.pG rfl rfl rfl rfl h57 (VP.fieldE rfl fa28_1) ?_
          refine VR.pG rfl rfl rfl rfl h57 (VP.loadE rfl ld9 rfl) ?_
          refine VR.pG rfl rfl rfl rfl h57 (VP.strop rfl rfl rfl) ?_
          refine VR.p rfl rfl (VP.pickB true rfl h57 rfl) ?_
          exact J [_, _, _, _, _] _ rfl (congrArg VV.bool (Option.some.inj hm))
        · have h57 := bf h57
          refine VR.skipG rfl rfl rfl rfl h57 ?_
          refine VR.skipG rfl rfl rfl rfl h57 ?_
          refine VR.skipG rfl rfl rfl rfl h57 ?_
          refine VR.skipG rfl rfl rfl rfl h57 ?_
          refine VR.skipG rfl rfl rfl rfl h57 ?_
          refine VR.p rfl rfl (VP.pickB false rfl h57 rfl) ?_
          exact J [_, _, _, _, _] _ rfl (congrArg VV.bool (Option.some.inj hm))
      · refine VR.p rfl rfl (VP.move rfl) ?_
        obtain ⟨c13, h62, hm⟩ := bnd hm
        refine VR.sc 6 52 (.bool c13) (fun K' J => ?_) ?_
        · have hm := h62
          rcases ite_or hm with ⟨h60, hm⟩ | ⟨h60, hm⟩
          · refine VR.pG rfl rfl rfl rfl h60 (VP.move rfl) ?_
            obtain ⟨x8, h61, hm⟩ := bnd hm
            refine VR.pG rfl rfl rfl rfl h60 (VP.glE T_api_Token.vv rfl rfl el26 h61) ?_
            refine VR.pG rfl rfl rfl rfl h60 (VP.fieldE rfl fa28_4) ?_
            refine VR.pG rfl rfl rfl rfl h60 (VP.loadE rfl ld3 rfl) ?_
            refine VR.pG rfl rfl rfl rfl h60 (VP.arith rfl rfl rfl) ?_
            refine VR.p rfl rfl (VP.pickB true rfl h60 rfl) ?_
            exact J [_, _, _, _, _] _ rfl (congrArg VV.bool (Option.some.inj hm))
          · have h60 := bf h60
            refine VR.skipG rfl rfl rfl rfl h60 ?_
            refine VR.skipG rfl rfl rfl rfl h60 ?_
            refine VR.skipG rfl rfl rfl rfl h60 ?_
            refine VR.skipG rfl rfl rfl rfl h60 ?_
            refine VR.skipG rfl rfl rfl rfl h60 ?_
            refine VR.p rfl rfl (VP.pickB false rfl h60 rfl) ?_
            exact J [_, _, _, _, _] _ rfl (congrArg VV.bool (Option.some.inj hm))
        · refine VR.p rfl rfl (VP.move rfl) ?_
          refine VR.sc 3 56 (.bool (c13 && (r2.2.1 == (3 : Int)))) (fun K' J => ?_) ?_
          · rcases Bool.eq_false_or_eq_true c13 with h63 | h63
            · refine VR.pG rfl rfl rfl rfl h63 (VP.move rfl) ?_
              refine VR.pG rfl rfl rfl rfl h63 (VP.arith rfl rfl rfl) ?_
              refine VR.p rfl rfl (VP.pickB true rfl h63 rfl) ?_
              exact J [_, _] _ rfl (andT h63)
            · refine VR.skipG rfl rfl rfl rfl h63 ?_
              refine VR.skipG rfl rfl rfl rfl h63 ?_
              refine VR.p rfl rfl (VP.pickB false rfl h63 rfl) ?_
              exact J [_, _] _ rfl (andF h63)
          · refine VR.p rfl rfl (VP.move rfl) ?_
            refine VR.sc 3 60 (.bool ((c13 && (r2.2.1 == (3 : Int))) && (r2.2.2 == (2 : Int)))) (fun K' J => ?_) ?_
            · rcases Bool.eq_false_or_eq_true (c13 && (r2.2.1 == (3 : Int))) with h64 | h64
              · refine VR.pG rfl rfl rfl rfl h64 (VP.move rfl) ?_
                refine VR.pG rfl rfl rfl rfl h64 (VP.arith rfl rfl rfl) ?_
                refine VR.p rfl rfl (VP.pickB true rfl h64 rfl) ?_
                exact J [_, _] _ rfl (andT h64)
              · refine VR.skipG rfl rfl rfl rfl h64 ?_
                refine VR.skipG rfl rfl rfl rfl h64 ?_
                refine VR.p rfl rfl (VP.pickB false rfl h64 rfl) ?_
                exact J [_, _] _ rfl (andF h64)
            · refine VR.p rfl rfl (VP.move rfl) ?_
              refine VR.sc 3 64 (.bool (((c13 && (r2.2.1 == (3 : Int))) && (r2.2.2 == (2 : Int))) && (r3.2.1 == (0 : Int)))) (fun K' J => ?_) ?_
              · rcases Bool.eq_false_or_eq_true ((c13 && (r2.2.1 == (3 : Int))) && (r2.2.2 == (2 : Int))) with h65 | h65
                · refine VR.pG rfl rfl rfl rfl h65 (VP.move rfl) ?_
                  refine VR.pG rfl rfl rfl rfl h65 (VP.arith rfl rfl rfl) ?_
                  refine VR.p rfl rfl (VP.pickB true rfl h65 rfl) ?_
                  exact J [_, _] _ rfl (andT h65)
                · refine VR.skipG rfl rfl rfl rfl h65 ?_
                  refine VR.skipG rfl rfl rfl rfl h65 ?_
                  refine VR.p rfl rfl (VP.pickB false rfl h65 rfl) ?_
                  exact J [_, _] _ rfl (andF h65)
              · refine VR.p rfl rfl (VP.move rfl) ?_
                refine VR.sc 4 69 (.bool ((((c13 && (r2.2.1 == (3 : Int))) && (r2.2.2 == (2 : Int))) && (r3.2.1 == (0 : Int))) && ((r3.1.length : Int) == (3 : Int)))) (fun K' J => ?_) ?_
                · rcases Bool.eq_false_or_eq_true (((c13 && (r2.2.1 == (3 : Int))) && (r2.2.2 == (2 : Int))) && (r3.2.1 == (0 : Int))) with h66 | h66
                  · refine VR.pG rfl rfl rfl rfl h66 (VP.move rfl) ?_
                    refine VR.pG rfl rfl rfl rfl h66 (VP.lenRT T_api_Token.vv rfl Try.underlying26) ?_
                    refine VR.pG rfl rfl rfl rfl h66 (VP.arith rfl rfl rfl) ?_
                    refine VR.p rfl rfl (VP.pickB true rfl h66 rfl) ?_
                    exact J [_, _, _] _ rfl (andT h66)
                  · refine VR.skipG rfl rfl rfl rfl h66 ?_
                    refine VR.skipG rfl rfl rfl rfl h66 ?_
                    refine VR.skipG rfl rfl rfl rfl h66 ?_
                    refine VR.p rfl rfl (VP.pickB false rfl h66 rfl) ?_
                    exact J [_, _, _] _ rfl (andF h66)
                · refine VR.p rfl rfl (VP.move rfl) ?_
                  obtain ⟨c14, h70, hm⟩ := bnd hm
                  refine VR.sc 6 76 (.bool c14) (fun K' J => ?_) ?_
                  · have hm := h70
                    rcases ite_or hm with ⟨h67, hm⟩ | ⟨h67, hm⟩
                    · refine VR.pG rfl rfl rfl rfl h67 (VP.move rfl) ?_
                      obtain ⟨x9, h68, hm⟩ := bnd hm
                      refine VR.someRow 0 rfl (gl_pos T_api_Token.vv h68) fun b6 h69 => ?_
                      subst h69
                      refine VR.pG rfl rfl rfl rfl h67 (VP.glR T_api_Token.vv rfl rfl el26 h68) ?_
                      refine VR.pG rfl rfl rfl rfl h67 (VP.fieldR rfl fa28_3) ?_
                      refine VR.pG rfl rfl rfl rfl h67 (VP.loadR (i := 0) (y := T_api_Token.vv x9) rfl rfl rfl (gl_map _ (gl_some h68).2) ld3 rfl) ?_
                      refine VR.pG rfl rfl rfl rfl h67 (VP.arith rfl rfl rfl) ?_
                      refine VR.p rfl rfl (VP.pickB true rfl h67 rfl) ?_
                      exact J [_, _, _, _, _] _ rfl (congrArg VV.bool (Option.some.inj hm))
                    · have h67 := bf h67
                      refine VR.skipG rfl rfl rfl rfl h67 ?_
                      refine VR.skipG rfl rfl rfl rfl h67 ?_
                      refine VR.skipG rfl rfl rfl rfl h67 ?_
                      refine VR.skipG rfl rfl rfl rfl h67 ?_
                      refine VR.skipG rfl rfl rfl rfl h67 ?_
                      refine VR.p rfl rfl (VP.pickB false rfl h67 rfl) ?_
                      exact J [_, _, _, _, _] _ rfl (congrArg VV.bool (Option.some.inj hm))
                  · refine VR.p rfl rfl (VP.move rfl) ?_
                    obtain ⟨c15, h74, hm⟩ := bnd hm
                    refine VR.sc 6 83 (.bool c15) (fun K' J => ?_) ?_
                    · have hm := h74
                      rcases ite_or hm with ⟨h71, hm⟩ | ⟨h71, hm⟩
                      · refine VR.pG rfl rfl rfl rfl h71 (VP.move rfl) ?_
                        obtain ⟨x10, h72, hm⟩ := bnd hm
                        refine VR.someRow 0 rfl (gl_pos T_api_Token.vv h72) fun b7 h73 => ?_
                        subst h73
                        refine VR.pG rfl rfl rfl rfl h71 (VP.glR T_api_Token.vv rfl rfl el26 h72) ?_
                        refine VR.pG rfl rfl rfl rfl h71 (VP.fieldR rfl fa28_4) ?_
                        refine VR.pG rfl rfl rfl rfl h71 (VP.loadR (i := 0) (y := T_api_Token.vv x10) rfl rfl rfl (gl_map _ (gl_some h72).2) ld3 rfl) ?_
                        refine VR.pG rfl rfl rfl rfl h71 (VP.arith rfl rfl rfl) ?_
                        refine VR.p rfl rfl (VP.pickB true rfl h71 rfl) ?_
                        exact J [_, _, _, _, _] _ rfl (congrArg VV.bool (Option.some.inj hm))
                      · have h71 := bf h71
                        refine VR.skipG rfl rfl rfl rfl h71 ?_
                        refine VR.skipG rfl rfl rfl rfl h71 ?_
                        refine VR.skipG rfl rfl rfl rfl h71 ?_
                        refine VR.skipG rfl rfl rfl rfl h71 ?_
                        refine VR.skipG rfl rfl rfl rfl h71 ?_
                        refine VR.p rfl rfl (VP.pickB false rfl h71 rfl) ?_
                        exact J [_, _, _, _, _] _ rfl (congrArg VV.bool (Option.some.inj hm))
                    · refine VR.p rfl rfl (VP.move rfl) ?_
                      obtain ⟨c16, h78, hm⟩ := bnd hm
                      refine VR.sc 2 86 (.bool c16) (fun K' J => ?_) ?_
                      · have hm := h78
                        rcases ite_or hm with ⟨h75, hm⟩ | ⟨h75, hm⟩
                        · obtain ⟨r9, h76, hm⟩ := bnd hm
                          refine VR.consG rfl rfl rfl rfl h75 (VO.callK 0 rfl fn12 rfl (lex_Word_ok (⟨#[120, 45, 49]⟩ : ByteArray) r9 h76) fun _ _ h77 => ?_)
                          obtain ⟨rfl, rfl⟩ := h77
                          refine VR.p rfl rfl (VP.pickB true rfl h75 rfl) ?_
                          exact J [_] _ rfl (congrArg VV.bool (Option.some.inj hm))
                        · have h75 := bf h75
                          refine VR.skipG rfl rfl rfl rfl h75 ?_
                          refine VR.p rfl rfl (VP.pickB false rfl h75 rfl) ?_
                          exact J [_] _ rfl (congrArg VV.bool (Option.some.inj hm))
                      · refine VR.p rfl rfl (VP.move rfl) ?_
                        obtain ⟨c17, h82, hm⟩ := bnd hm
                        refine VR.sc 3 90 (.bool c17) (fun K' J => ?_) ?_
                        · have hm := h82
                          rcases ite_or hm with ⟨h79, hm⟩ | ⟨h79, hm⟩
                          · obtain ⟨r10, h80, hm⟩ := bnd hm
                            refine VR.consG rfl rfl rfl rfl h79 (VO.callK 0 rfl fn12 rfl (lex_Word_ok (⟨#[97, 32, 98]⟩ : ByteArray) r10 h80) fun _ _ h81 => ?_)
                            obtain ⟨rfl, rfl⟩ := h81
                            refine VR.pG rfl rfl rfl rfl h79 (VP.not rfl) ?_
                            refine VR.p rfl rfl (VP.pickB true rfl h79 rfl) ?_
                            exact J [_, _] _ rfl (congrArg VV.bool (Option.some.inj hm))
                          · have h79 := bf h79
                            refine VR.skipG rfl rfl rfl rfl h79 ?_
                            refine VR.skipG rfl rfl rfl rfl h79 ?_
                            refine VR.p rfl rfl (VP.pickB false rfl h79 rfl) ?_
                            exact J [_, _] _ rfl (congrArg VV.bool (Option.some.inj hm))
                        · refine VR.p rfl rfl (VP.move rfl) ?_
                          obtain ⟨c18, h86, hm⟩ := bnd hm
                          refine VR.sc 3 94 (.bool c18) (fun K' J => ?_) ?_
                          · have hm := h86
                            rcases ite_or hm with ⟨h83, hm⟩ | ⟨h83, hm⟩
                            · obtain ⟨r11, h84, hm⟩ := bnd hm
                              refine VR.consG rfl rfl rfl rfl h83 (VO.callK 0 rfl fn14 rfl (lex_Runes_ok (⟨#[195, 169, 97]⟩ : ByteArray) r11 h84) fun _ _ h85 => ?_)
                              obtain ⟨rfl, rfl⟩ := h85
                              refine VR.pG rfl rfl rfl rfl h83 (VP.arith rfl rfl rfl) ?_
                              refine VR.p rfl rfl (VP.pickB true rfl h83 rfl) ?_
                              exact J [_, _] _ rfl (congrArg VV.bool (Option.some.inj hm))
                            · have h83 := bf h83
                              refine VR.skipG rfl rfl rfl rfl h83 ?_
                              refine VR.skipG rfl rfl rfl rfl h83 ?_
                              refine VR.p rfl rfl (VP.pickB false rfl h83 rfl) ?_
                              exact J [_, _] _ rfl (congrArg VV.bool (Option.some.inj hm))
                          · refine VR.p rfl rfl (VP.move rfl) ?_
                            obtain ⟨c19, h90, hm⟩ := bnd hm
                            refine VR.sc 3 98 (.bool c19) (fun K' J => ?_) ?_
                            · have hm := h90
                              rcases ite_or hm with ⟨h87, hm⟩ | ⟨h87, hm⟩
                              · obtain ⟨r12, h88, hm⟩ := bnd hm
                                refine VR.consG rfl rfl rfl rfl h87 (VO.callK 0 rfl fn14 rfl (lex_Runes_ok (⟨#[255]⟩ : ByteArray) r12 h88) fun _ _ h89 => ?_)
                                obtain ⟨rfl, rfl⟩ := h89
                                refine VR.pG rfl rfl rfl rfl h87 (VP.arith rfl rfl rfl) ?_
                                refine VR.p rfl rfl (VP.pickB true rfl h87 rfl) ?_
                                exact J [_, _] _ rfl (congrArg VV.bool (Option.some.inj hm))
                              · have h87 := bf h87
                                refine VR.skipG rfl rfl rfl rfl h87 ?_
                                refine VR.skipG rfl rfl rfl rfl h87 ?_
                                refine VR.p rfl rfl (VP.pickB false rfl h87 rfl) ?_
                                exact J [_, _] _ rfl (congrArg VV.bool (Option.some.inj hm))
                            · refine VR.p rfl rfl (VP.move rfl) ?_
                              obtain ⟨c20, h94, hm⟩ := bnd hm
                              refine VR.sc 3 102 (.bool c20) (fun K' J => ?_) ?_
                              · have hm := h94
                                rcases ite_or hm with ⟨h91, hm⟩ | ⟨h91, hm⟩
                                · obtain ⟨r13, h92, hm⟩ := bnd hm
                                  refine VR.consG rfl rfl rfl rfl h91 (VO.callK 0 rfl fn10 rfl (lex_Quote_ok (⟨#[97, 34]⟩ : ByteArray) r13 h92) fun _ _ h93 => ?_)
                                  obtain ⟨rfl, rfl⟩ := h93
                                  refine VR.pG rfl rfl rfl rfl h91 (VP.strop rfl rfl rfl) ?_
                                  refine VR.p rfl rfl (VP.pickB true rfl h91 rfl) ?_
                                  exact J [_, _] _ rfl (congrArg VV.bool (Option.some.inj hm))
                                · have h91 := bf h91
                                  refine VR.skipG rfl rfl rfl rfl h91 ?_
                                  refine VR.skipG rfl rfl rfl rfl h91 ?_
                                  refine VR.p rfl rfl (VP.pickB false rfl h91 rfl) ?_
                                  exact J [_, _] _ rfl (congrArg VV.bool (Option.some.inj hm))
                              · refine VR.p rfl rfl (VP.move rfl) ?_
                                obtain ⟨c21, h98, hm⟩ := bnd hm
                                refine VR.sc 4 107 (.bool c21) (fun K' J => ?_) ?_
                                · have hm := h98
                                  rcases ite_or hm with ⟨h95, hm⟩ | ⟨h95, hm⟩
                                  · refine VR.pG rfl rfl rfl rfl h95 (VP.move rfl) ?_
                                    obtain ⟨r14, h96, hm⟩ := bnd hm
                                    refine VR.consG rfl rfl rfl rfl h95 (VO.callK 0 rfl fn16 rfl (lex_Show_ok r.1 r14 h96) fun _ _ h97 => ?_)
                                    obtain ⟨rfl, rfl⟩ := h97
                                    refine VR.pG rfl rfl rfl rfl h95 (VP.strop rfl rfl rfl) ?_
                                    refine VR.p rfl rfl (VP.pickB true rfl h95 rfl) ?_
                                    exact J [_, _, _] _ rfl (congrArg VV.bool (Option.some.inj hm))
                                  · have h95 := bf h95
                                    refine VR.skipG rfl rfl rfl rfl h95 ?_
                                    refine VR.skipG rfl rfl rfl rfl h95 ?_
                                    refine VR.skipG rfl rfl rfl rfl h95 ?_
                                    refine VR.p rfl rfl (VP.pickB false rfl h95 rfl) ?_
                                    exact J [_, _, _] _ rfl (congrArg VV.bool (Option.some.inj hm))
                                · refine VR.p rfl rfl (VP.assign rfl) ?_
                                  refine VR.nil ?_
                                  obtain rfl := Option.some.inj hm
                                  exact VW.ret ⟨.inl rfl, _, .cons (.tmp _ _ rfl) .nil, [], _, rfl, rfl, rfl⟩

/-! trireme/triremeref01.Quote -/
def ref01_Quote.l1 (s : ByteArray) : Nat → (List Int) → Int → Option (List Int)
  | 0, _, _ => none
  | n + 1, b3, i2 =>
    if (decide (i2 < (s.size : Int))) = true then
      (V.gi s i2).bind fun v =>
      if (v == (10 : Int)) = true then
        (V.ap 1 b3 [(92 : Int), (110 : Int)]).bind fun b6 =>
        ref01_Quote.l1 s n b6 (IntKind.i64.wrap (i2 + (1 : Int)))
      else
        if (v == (34 : Int)) = true then
          (V.gi s i2).bind fun v2 =>
          (V.ap 1 b3 [(92 : Int), v2]).bind fun b8 =>
          ref01_Quote.l1 s n b8 (IntKind.i64.wrap (i2 + (1 : Int)))
        else
          if (v == (92 : Int)) = true then
            (V.gi s i2).bind fun v3 =>
            (V.ap 1 b3 [(92 : Int), v3]).bind fun b10 =>
            ref01_Quote.l1 s n b10 (IntKind.i64.wrap (i2 + (1 : Int)))
          else
            (V.gi s i2).bind fun v4 =>
            (V.ap 1 b3 [v4]).bind fun b12 =>
            ref01_Quote.l1 s n b12 (IntKind.i64.wrap (i2 + (1 : Int)))
    else
      some b3
def ref01_Quote (s : ByteArray) : Option ByteArray :=
  (ref01_Quote.l1 s FU [(34 : Int)] (0 : Int)).bind fun b42 =>
  (V.ap 1 b42 [(34 : Int)]).bind fun b14 =>
  some (strOfNums b14)
theorem ref01_Quote_ok (s : ByteArray) (r : ByteArray) (hm : ref01_Quote s = some r) :
    VC Try.prog 11 [.str s] [] (fun x H' => x = .str r ∧ H' = []) := by
  unfold ref01_Quote at hm
  refine VC.run (c := _) (rs := [.tmp 2]) Try.func11 rfl rfl rfl ?_
  refine VW.seq ?_
  refine VW.region ?_
  refine VR.p rfl rfl (VP.assign rfl) ?_
  refine VR.nil ?_
  refine VW.seq ?_
  refine VW.region ?_
  refine VR.cons rfl rfl (VO.buildSlice ap36 rfl rfl rfl rfl rfl fun b => ?_)
  refine VR.p rfl rfl (VP.assign rfl) ?_
  refine VR.nil ?_
  refine VW.seq ?_
  refine VW.seq ?_
  refine VW.region ?_
  refine VR.p rfl rfl (VP.assign rfl) ?_
  refine VR.nil ?_
  obtain ⟨o, h2, h3⟩ := bnd hm
  refine VW.joinE (fun (q : List Int) => q = o) (fun (b42 : List Int) (gg : Option Nat × Nat) => [(3, .sl gg.1 (List.map (VV.int .u8) b42).length gg.2)]) (fun (b42 : List Int) (gg : Option Nat × Nat) => [.row gg.1 5 gg.2 (List.map (VV.int .u8) b42)]) ?_ ?_
  · have hm := h2
    refine VW.block (VW.loop FU ?_)
    refine VL.fuelS (R := _) (fun zn (zs : List Int × Int) => ref01_Quote.l1 s zn zs.1 zs.2) (fun (zs : List Int × Int) (zg : Option Nat × Nat) => [(0, .str s), (3, .sl zg.1 (List.map (VV.int .u8) zs.1).length zg.2), (4, .int .i64 zs.2)]) (fun (zs : List Int × Int) (zg : Option Nat × Nat) => [.row zg.1 5 zg.2 (List.map (VV.int .u8) zs.1)]) ([(34 : Int)], (0 : Int)) ((some b), 1) (fun zs => rfl) (Shift.pick [0] rfl ⟨rfl, rfl, rfl, trivial⟩) h2 ?_
    rintro n ⟨b3, i2⟩ ⟨ob2, cap2⟩ hm
    rw [ref01_Quote.l1] at hm
    refine VW.seq ?_
    refine VW.seq ?_
    refine VW.region ?_
    refine VR.p rfl rfl (VP.move rfl) ?_
    refine VR.p rfl rfl (VP.move rfl) ?_
    refine VR.p rfl rfl (VP.lenS rfl Try.underlying9) ?_
    refine VR.p rfl rfl (VP.arith rfl rfl rfl) ?_
    refine VR.nil ?_
    rcases ite_or hm with ⟨h4, hm⟩ | ⟨h4, hm⟩
    · refine VW.condT rfl h4 ?_
      refine VW.skip ?_
      refine VW.seq ?_
      refine VW.block ?_
      refine VW.seq ?_
      refine VW.region ?_
      refine VR.p rfl rfl (VP.move rfl) ?_
      refine VR.p rfl rfl (VP.move rfl) ?_
      obtain ⟨v, h5, hm⟩ := bnd hm
      refine VR.p rfl rfl (VP.gi rfl rfl Try.underlying9 h5) ?_
      refine VR.nil ?_
      refine VW.block ?_
      refine VW.seq ?_
      refine VW.region ?_
      refine VR.p rfl rfl (VP.arith rfl rfl rfl) ?_
      refine VR.p rfl rfl (VP.assign rfl) ?_
      refine VR.nil ?_
      rcases ite_or hm with ⟨h6, hm⟩ | ⟨h6, hm⟩
      · refine VW.condT rfl h6 ?_
        refine VW.region ?_
        refine VR.p rfl rfl (VP.move rfl) ?_
        refine VR.cons rfl rfl (VO.buildSlice ap36 rfl rfl rfl rfl rfl fun b5 => ?_)
        obtain ⟨b6, h8, hm⟩ := bnd hm
        refine VR.cons rfl rfl (VO.apT 1 (VV.int .u8) (l := b3) (l2 := [(92 : Int), (110 : Int)]) ap36 rfl rfl (sT_row 0 (VV.int .u8) el36 rfl rfl) h8 fun ob4 cap4 => ?_)
        refine VR.p rfl rfl (VP.assign rfl) ?_
        refine VR.nil ?_
        refine VW.region ?_
        refine VR.p rfl rfl (VP.move rfl) ?_
        refine VR.p rfl rfl (VP.arith rfl rfl rfl) ?_
        refine VR.p rfl rfl (VP.assign rfl) ?_
        refine VR.nil ?_
        exact ⟨(b6, (IntKind.i64.wrap (i2 + (1 : Int)))), (ob4, cap4), hm, (Shift.pick [1] rfl ⟨rfl, rfl, rfl, trivial⟩)⟩
      · have h6 := bf h6
        refine VW.condF rfl h6 ?_
        refine VW.seq ?_
        refine VW.seq ?_
        refine VW.region ?_
        refine VR.p rfl rfl (VP.arith rfl rfl rfl) ?_
        refine VR.p rfl rfl (VP.assign rfl) ?_
        refine VR.nil ?_
        rcases ite_or hm with ⟨h9, hm⟩ | ⟨h9, hm⟩
        · refine VW.condT rfl h9 ?_
          refine VW.skip ?_
          refine VW.condT rfl h9 ?_
          refine VW.region ?_
          refine VR.p rfl rfl (VP.move rfl) ?_
          refine VR.p rfl rfl (VP.move rfl) ?_
          refine VR.p rfl rfl (VP.move rfl) ?_
          obtain ⟨v2, h10, hm⟩ := bnd hm
          refine VR.p rfl rfl (VP.gi rfl rfl Try.underlying9 h10) ?_
          refine VR.cons rfl rfl (VO.buildSlice ap36 rfl rfl rfl rfl rfl fun b7 => ?_)
          obtain ⟨b8, h12, hm⟩ := bnd hm
          refine VR.cons rfl rfl (VO.apT 1 (VV.int .u8) (l := b3) (l2 := [(92 : Int), v2]) ap36 rfl rfl (sT_row 0 (VV.int .u8) el36 rfl rfl) h12 fun ob5 cap5 => ?_)
          refine VR.p rfl rfl (VP.assign rfl) ?_
          refine VR.nil ?_
          refine VW.region ?_
          refine VR.p rfl rfl (VP.move rfl) ?_
          refine VR.p rfl rfl (VP.arith rfl rfl rfl) ?_
          refine VR.p rfl rfl (VP.assign rfl) ?_
          refine VR.nil ?_
          exact ⟨(b8, (IntKind.i64.wrap (i2 + (1 : Int)))), (ob5, cap5), hm, (Shift.pick [1] rfl ⟨rfl, rfl, rfl, trivial⟩)⟩
        · have h9 := bf h9
          refine VW.condF rfl h9 ?_
          refine VW.region ?_
          refine VR.p rfl rfl (VP.arith rfl rfl rfl) ?_
          refine VR.p rfl rfl (VP.assign rfl) ?_
          refine VR.nil ?_
          rcases ite_or hm with ⟨h13, hm⟩ | ⟨h13, hm⟩
          · refine VW.condT rfl h13 ?_
            refine VW.region ?_
            refine VR.p rfl rfl (VP.move rfl) ?_
            refine VR.p rfl rfl (VP.move rfl) ?_
            refine VR.p rfl rfl (VP.move rfl) ?_
            obtain ⟨v3, h14, hm⟩ := bnd hm
            refine VR.p rfl rfl (VP.gi rfl rfl Try.underlying9 h14) ?_
            refine VR.cons rfl rfl (VO.buildSlice ap36 rfl rfl rfl rfl rfl fun b9 => ?_)
            obtain ⟨b10, h16, hm⟩ := bnd hm
            refine VR.cons rfl rfl (VO.apT 1 (VV.int .u8) (l := b3) (l2 := [(92 : Int), v3]) ap36 rfl rfl (sT_row 0 (VV.int .u8) el36 rfl rfl) h16 fun ob6 cap6 => ?_)
            refine VR.p rfl rfl (VP.assign rfl) ?_
            refine VR.nil ?_
            refine VW.region ?_
            refine VR.p rfl rfl (VP.move rfl) ?_
            refine VR.p rfl rfl (VP.arith rfl rfl rfl) ?_
            refine VR.p rfl rfl (VP.assign rfl) ?_
            refine VR.nil ?_
            exact ⟨(b10, (IntKind.i64.wrap (i2 + (1 : Int)))), (ob6, cap6), hm, (Shift.pick [1] rfl ⟨rfl, rfl, rfl, trivial⟩)⟩
          · have h13 := bf h13
            refine VW.condF rfl h13 ?_
            refine VW.region ?_
            refine VR.p rfl rfl (VP.move rfl) ?_
            refine VR.p rfl rfl (VP.move rfl) ?_
            refine VR.p rfl rfl (VP.move rfl) ?_
            obtain ⟨v4, h17, hm⟩ := bnd hm
            refine VR.p rfl rfl (VP.gi rfl rfl Try.underlying9 h17) ?_
            refine VR.cons rfl rfl (VO.buildSlice ap36 rfl rfl rfl rfl rfl fun b11 => ?_)
            obtain ⟨b12, h19, hm⟩ := bnd hm
            refine VR.cons rfl rfl (VO.apT 1 (VV.int .u8) (l := b3) (l2 := [v4]) ap36 rfl rfl (sT_row 0 (VV.int .u8) el36 rfl rfl) h19 fun ob7 cap7 => ?_)
            refine VR.p rfl rfl (VP.assign rfl) ?_
            refine VR.nil ?_
            refine VW.region ?_
            refine VR.p rfl rfl (VP.move rfl) ?_
            refine VR.p rfl rfl (VP.arith rfl rfl rfl) ?_
            refine VR.p rfl rfl (VP.assign rfl) ?_
            refine VR.nil ?_
            exact ⟨(b12, (IntKind.i64.wrap (i2 + (1 : Int)))), (ob7, cap7), hm, (Shift.pick [1] rfl ⟨rfl, rfl, rfl, trivial⟩)⟩
    · have h4 := bf h4
      refine VW.condF rfl h4 ?_
      refine VW.exit ?_
      exact ⟨b3, (ob2, cap2), Option.some.inj hm, (Shift.pick [0] rfl ⟨rfl, trivial⟩)⟩
  · rintro b42 ⟨ob3, cap3⟩ rfl
    have hm := h3
    refine VW.seq ?_
    refine VW.region ?_
    refine VR.p rfl rfl (VP.move rfl) ?_
    refine VR.cons rfl rfl (VO.buildSlice ap36 rfl rfl rfl rfl rfl fun b13 => ?_)
    obtain ⟨b14, h21, hm⟩ := bnd hm
    refine VR.cons rfl rfl (VO.apT 1 (VV.int .u8) (l := b42) (l2 := [(34 : Int)]) ap36 rfl rfl (sT_row 0 (VV.int .u8) el36 rfl rfl) h21 fun ob8 cap8 => ?_)
    refine VR.p rfl rfl (VP.convB (i := 1) (l := b14) el36 Try.underlying5 Try.underlying9 rfl rfl) ?_
    refine VR.p rfl rfl (VP.assign rfl) ?_
    refine VR.nil ?_
    obtain rfl := Option.some.inj hm
    exact VW.ret ⟨.inl rfl, _, .cons (.tmp _ _ rfl) .nil, [], _, rfl, rfl, rfl⟩

/-! trireme/triremeref01.more -/
def ref01_more (s : ByteArray) (i : Int) : Option Bool :=
  (if (decide (i < (s.size : Int))) = true then (V.gi s i).bind fun v =>
  some (decide (v ≥ (128 : Int))) else some false).bind fun c =>
  (if c = true then (V.gi s i).bind fun v2 =>
  some (decide (v2 < (192 : Int))) else some false).bind fun c2 =>
  some c2
theorem ref01_more_ok (s : ByteArray) (i : Int) (r : Bool) (hm : ref01_more s i = some r) :
    VC Try.prog 26 [.str s, .int .i64 i] [] (fun x H' => x = .bool r ∧ H' = []) := by
  unfold ref01_more at hm
  refine VC.run (c := _) (rs := [.tmp 4]) Try.func26 rfl rfl rfl ?_
  refine VW.seq ?_
  refine VW.region ?_
  refine VR.p rfl rfl (VP.assign rfl) ?_
  refine VR.nil ?_
  refine VW.seq ?_
  refine VW.region ?_
  refine VR.p rfl rfl (VP.move rfl) ?_
  refine VR.p rfl rfl (VP.move rfl) ?_
  refine VR.p rfl rfl (VP.lenS rfl Try.underlying9) ?_
  refine VR.p rfl rfl (VP.arith rfl rfl rfl) ?_
  refine VR.p rfl rfl (VP.move rfl) ?_
  obtain ⟨c, h3, hm⟩ := bnd hm
  refine VR.sc 5 14 (.bool c) (fun K' J => ?_) ?_
  · have hm := h3
    rcases ite_or hm with ⟨h1, hm⟩ | ⟨h1, hm⟩
    · refine VR.pG rfl rfl rfl rfl h1 (VP.move rfl) ?_
      refine VR.pG rfl rfl rfl rfl h1 (VP.move rfl) ?_
      obtain ⟨v, h2, hm⟩ := bnd hm
      refine VR.pG rfl rfl rfl rfl h1 (VP.gi rfl rfl Try.underlying9 h2) ?_
      refine VR.pG rfl rfl rfl rfl h1 (VP.arith rfl rfl rfl) ?_
      refine VR.p rfl rfl (VP.pickB true rfl h1 rfl) ?_
      exact J [_, _, _, _] _ rfl (congrArg VV.bool (Option.some.inj hm))
    · have h1 := bf h1
      refine VR.skipG rfl rfl rfl rfl h1 ?_
      refine VR.skipG rfl rfl rfl rfl h1 ?_
      refine VR.skipG rfl rfl rfl rfl h1 ?_
      refine VR.skipG rfl rfl rfl rfl h1 ?_
      refine VR.p rfl rfl (VP.pickB false rfl h1 rfl) ?_
      exact J [_, _, _, _] _ rfl (congrArg VV.bool (Option.some.inj hm))
  · refine VR.p rfl rfl (VP.move rfl) ?_
    obtain ⟨c2, h6, hm⟩ := bnd hm
    refine VR.sc 5 20 (.bool c2) (fun K' J => ?_) ?_
    · have hm := h6
      rcases ite_or hm with ⟨h4, hm⟩ | ⟨h4, hm⟩
      · refine VR.pG rfl rfl rfl rfl h4 (VP.move rfl) ?_
        refine VR.pG rfl rfl rfl rfl h4 (VP.move rfl) ?_
        obtain ⟨v2, h5, hm⟩ := bnd hm
        refine VR.pG rfl rfl rfl rfl h4 (VP.gi rfl rfl Try.underlying9 h5) ?_
        refine VR.pG rfl rfl rfl rfl h4 (VP.arith rfl rfl rfl) ?_
        refine VR.p rfl rfl (VP.pickB true rfl h4 rfl) ?_
        exact J [_, _, _, _] _ rfl (congrArg VV.bool (Option.some.inj hm))
      · have h4 := bf h4
        refine VR.skipG rfl rfl rfl rfl h4 ?_
        refine VR.skipG rfl rfl rfl rfl h4 ?_
        refine VR.skipG rfl rfl rfl rfl h4 ?_
        refine VR.skipG rfl rfl rfl rfl h4 ?_
        refine VR.p rfl rfl (VP.pickB false rfl h4 rfl) ?_
        exact J [_, _, _, _] _ rfl (congrArg VV.bool (Option.some.inj hm))
    · refine VR.p rfl rfl (VP.assign rfl) ?_
      refine VR.nil ?_
      obtain rfl := Option.some.inj hm
      exact VW.ret ⟨.inl rfl, _, .cons (.tmp _ _ rfl) .nil, [], _, rfl, rfl, rfl⟩

/-! trireme/triremeref01.Rune -/
def ref01_Rune (s : ByteArray) (i : Int) : Option (Int × Int) :=
  (V.gi s i).bind fun v =>
  if (decide ((IntKind.i64.wrap v) < (128 : Int))) = true then
    some ((IntKind.i64.wrap v), (1 : Int))
  else
    (if ((decide ((IntKind.i64.wrap v) ≥ (192 : Int))) && (decide ((IntKind.i64.wrap v) < (224 : Int)))) = true then (ref01_more s (IntKind.i64.wrap (i + (1 : Int)))).bind fun r =>
    some r else some false).bind fun c =>
    if c = true then
      (V.gi s (IntKind.i64.wrap (i + (1 : Int)))).bind fun v2 =>
      if (decide ((IntKind.i64.wrap ((IntKind.i64.wrap ((IntKind.i64.wrap ((IntKind.i64.wrap ((IntKind.i64.wrap v) - (192 : Int))) * (64 : Int))) + (IntKind.i64.wrap v2))) - (128 : Int))) ≥ (128 : Int))) = true then
        some ((IntKind.i64.wrap ((IntKind.i64.wrap ((IntKind.i64.wrap ((IntKind.i64.wrap ((IntKind.i64.wrap v) - (192 : Int))) * (64 : Int))) + (IntKind.i64.wrap v2))) - (128 : Int))), (2 : Int))
      else
        some ((0 : Int), (0 : Int))
    else
      (if ((decide ((IntKind.i64.wrap v) ≥ (224 : Int))) && (decide ((IntKind.i64.wrap v) < (240 : Int)))) = true then (ref01_more s (IntKind.i64.wrap (i + (1 : Int)))).bind fun r2 =>
      some r2 else some false).bind fun c2 =>
      (if c2 = true then (ref01_more s (IntKind.i64.wrap (i + (2 : Int)))).bind fun r3 =>
      some r3 else some false).bind fun c3 =>
      if c3 = true then
        (V.gi s (IntKind.i64.wrap (i + (1 : Int)))).bind fun v3 =>
        (V.gi s (IntKind.i64.wrap (i + (2 : Int)))).bind fun v4 =>
        if ((decide ((IntKind.i64.wrap ((IntKind.i64.wrap ((IntKind.i64.wrap ((IntKind.i64.wrap ((IntKind.i64.wrap ((IntKind.i64.wrap v) - (224 : Int))) * (4096 : Int))) + (IntKind.i64.wrap ((IntKind.i64.wrap ((IntKind.i64.wrap v3) - (128 : Int))) * (64 : Int))))) + (IntKind.i64.wrap v4))) - (128 : Int))) ≥ (2048 : Int))) && ((decide ((IntKind.i64.wrap ((IntKind.i64.wrap ((IntKind.i64.wrap ((IntKind.i64.wrap ((IntKind.i64.wrap ((IntKind.i64.wrap v) - (224 : Int))) * (4096 : Int))) + (IntKind.i64.wrap ((IntKind.i64.wrap ((IntKind.i64.wrap v3) - (128 : Int))) * (64 : Int))))) + (IntKind.i64.wrap v4))) - (128 : Int))) < (55296 : Int))) || (decide ((IntKind.i64.wrap ((IntKind.i64.wrap ((IntKind.i64.wrap ((IntKind.i64.wrap ((IntKind.i64.wrap ((IntKind.i64.wrap v) - (224 : Int))) * (4096 : Int))) + (IntKind.i64.wrap ((IntKind.i64.wrap ((IntKind.i64.wrap v3) - (128 : Int))) * (64 : Int))))) + (IntKind.i64.wrap v4))) - (128 : Int))) > (57343 : Int))))) = true then
          some ((IntKind.i64.wrap ((IntKind.i64.wrap ((IntKind.i64.wrap ((IntKind.i64.wrap ((IntKind.i64.wrap ((IntKind.i64.wrap v) - (224 : Int))) * (4096 : Int))) + (IntKind.i64.wrap ((IntKind.i64.wrap ((IntKind.i64.wrap v3) - (128 : Int))) * (64 : Int))))) + (IntKind.i64.wrap v4))) - (128 : Int))), (3 : Int))
        else
          some ((0 : Int), (0 : Int))
      else
        (if ((decide ((IntKind.i64.wrap v) ≥ (240 : Int))) && (decide ((IntKind.i64.wrap v) < (248 : Int)))) = true then (ref01_more s (IntKind.i64.wrap (i + (1 : Int)))).bind fun r4 =>
        some r4 else some false).bind fun c4 =>
        (if c4 = true then (ref01_more s (IntKind.i64.wrap (i + (2 : Int)))).bind fun r5 =>
        some r5 else some false).bind fun c5 =>
        (if c5 = true then (ref01_more s (IntKind.i64.wrap (i + (3 : Int)))).bind fun r6 =>
        some r6 else some false).bind fun c6 =>
        if c6 = true then
          (V.gi s (IntKind.i64.wrap (i + (1 : Int)))).bind fun v5 =>
          (V.gi s (IntKind.i64.wrap (i + (2 : Int)))).bind fun v6 =>
          (V.gi s (IntKind.i64.wrap (i + (3 : Int)))).bind fun v7 =>
          if ((decide ((IntKind.i64.wrap ((IntKind.i64.wrap ((IntKind.i64.wrap ((IntKind.i64.wrap ((IntKind.i64.wrap ((IntKind.i64.wrap ((IntKind.i64.wrap v) - (240 : Int))) * (262144 : Int))) + (IntKind.i64.wrap ((IntKind.i64.wrap ((IntKind.i64.wrap v5) - (128 : Int))) * (4096 : Int))))) + (IntKind.i64.wrap ((IntKind.i64.wrap ((IntKind.i64.wrap v6) - (128 : Int))) * (64 : Int))))) + (IntKind.i64.wrap v7))) - (128 : Int))) ≥ (65536 : Int))) && (decide ((IntKind.i64.wrap ((IntKind.i64.wrap ((IntKind.i64.wrap ((IntKind.i64.wrap ((IntKind.i64.wrap ((IntKind.i64.wrap ((IntKind.i64.wrap v) - (240 : Int))) * (262144 : Int))) + (IntKind.i64.wrap ((IntKind.i64.wrap ((IntKind.i64.wrap v5) - (128 : Int))) * (4096 : Int))))) + (IntKind.i64.wrap ((IntKind.i64.wrap ((IntKind.i64.wrap v6) - (128 : Int))) * (64 : Int))))) + (IntKind.i64.wrap v7))) - (128 : Int))) ≤ (1114111 : Int)))) = true then
            some ((IntKind.i64.wrap ((IntKind.i64.wrap ((IntKind.i64.wrap ((IntKind.i64.wrap ((IntKind.i64.wrap ((IntKind.i64.wrap ((IntKind.i64.wrap v) - (240 : Int))) * (262144 : Int))) + (IntKind.i64.wrap ((IntKind.i64.wrap ((IntKind.i64.wrap v5) - (128 : Int))) * (4096 : Int))))) + (IntKind.i64.wrap ((IntKind.i64.wrap ((IntKind.i64.wrap v6) - (128 : Int))) * (64 : Int))))) + (IntKind.i64.wrap v7))) - (128 : Int))), (4 : Int))
          else
            some ((0 : Int), (0 : Int))
        else
          some ((0 : Int), (0 : Int))
theorem ref01_Rune_ok (s : ByteArray) (i : Int) (r : Int × Int) (hm : ref01_Rune s i = some r) :
    VC Try.prog 22 [.str s, .int .i64 i] [] (fun x H' => x = .tup [.int .i64 r.1, .int .i64 r.2] ∧ H' = []) := by
  unfold ref01_Rune at hm
  refine VC.run (c := _) (rs := [.tmp 4, .tmp 5]) Try.func22 rfl rfl rfl ?_
  refine VW.seq ?_
  refine VW.region ?_
  refine VR.p rfl rfl (VP.assign rfl) ?_
  refine VR.p rfl rfl (VP.assign rfl) ?_
  refine VR.nil ?_
  refine VW.seq ?_
  refine VW.region ?_
  refine VR.p rfl rfl (VP.move rfl) ?_
  refine VR.p rfl rfl (VP.move rfl) ?_
  obtain ⟨v, h1, hm⟩ := bnd hm
  refine VR.p rfl rfl (VP.gi rfl rfl Try.underlying9 h1) ?_
  refine VR.p rfl rfl (VP.convI Try.underlying5 Try.underlying3 rfl) ?_
  refine VR.p rfl rfl (VP.assign rfl) ?_
  refine VR.nil ?_
  refine VW.seq ?_
  refine VW.block ?_
  refine VW.seq ?_
  refine VW.region ?_
  refine VR.p rfl rfl (VP.move rfl) ?_
  refine VR.p rfl rfl (VP.arith rfl rfl rfl) ?_
  refine VR.p rfl rfl (VP.assign rfl) ?_
  refine VR.nil ?_
  rcases ite_or hm with ⟨h2, hm⟩ | ⟨h2, hm⟩
  · refine VW.condT rfl h2 ?_
    refine VW.seq ?_
    refine VW.region ?_
    refine VR.p rfl rfl (VP.move rfl) ?_
    refine VR.p rfl rfl (VP.assign rfl) ?_
    refine VR.p rfl rfl (VP.assign rfl) ?_
    refine VR.nil ?_
    obtain rfl := Option.some.inj hm
    exact VW.ret ⟨.inl rfl, _, .cons (.tmp _ _ rfl) (.cons (.tmp _ _ rfl) .nil), [], _, rfl, rfl, rfl⟩
  · have h2 := bf h2
    refine VW.condF rfl h2 ?_
    refine VW.seq ?_
    refine VW.region ?_
    refine VR.p rfl rfl (VP.move rfl) ?_
    refine VR.p rfl rfl (VP.arith rfl rfl rfl) ?_
    refine VR.p rfl rfl (VP.move rfl) ?_
    refine VR.sc 3 24 (.bool ((decide ((IntKind.i64.wrap v) ≥ (192 : Int))) && (decide ((IntKind.i64.wrap v) < (224 : Int))))) (fun K' J => ?_) ?_
    · rcases Bool.eq_false_or_eq_true (decide ((IntKind.i64.wrap v) ≥ (192 : Int))) with h3 | h3
      · refine VR.pG rfl rfl rfl rfl h3 (VP.move rfl) ?_
        refine VR.pG rfl rfl rfl rfl h3 (VP.arith rfl rfl rfl) ?_
        refine VR.p rfl rfl (VP.pickB true rfl h3 rfl) ?_
        exact J [_, _] _ rfl (andT h3)
      · refine VR.skipG rfl rfl rfl rfl h3 ?_
        refine VR.skipG rfl rfl rfl rfl h3 ?_
        refine VR.p rfl rfl (VP.pickB false rfl h3 rfl) ?_
        exact J [_, _] _ rfl (andF h3)
    · refine VR.p rfl rfl (VP.move rfl) ?_
      obtain ⟨c, h7, hm⟩ := bnd hm
      refine VR.sc 5 30 (.bool c) (fun K' J => ?_) ?_
      · have hm := h7
        rcases ite_or hm with ⟨h4, hm⟩ | ⟨h4, hm⟩
        · refine VR.pG rfl rfl rfl rfl h4 (VP.move rfl) ?_
          refine VR.pG rfl rfl rfl rfl h4 (VP.move rfl) ?_
          refine VR.pG rfl rfl rfl rfl h4 (VP.arith rfl rfl rfl) ?_
          obtain ⟨r, h5, hm⟩ := bnd hm
          refine VR.consG rfl rfl rfl rfl h4 (VO.callK 0 rfl fn26 rfl (ref01_more_ok s (IntKind.i64.wrap (i + (1 : Int))) r h5) fun _ _ h6 => ?_)
          obtain ⟨rfl, rfl⟩ := h6
          refine VR.p rfl rfl (VP.pickB true rfl h4 rfl) ?_
          exact J [_, _, _, _] _ rfl (congrArg VV.bool (Option.some.inj hm))
        · have h4 := bf h4
          refine VR.skipG rfl rfl rfl rfl h4 ?_
          refine VR.skipG rfl rfl rfl rfl h4 ?_
          refine VR.skipG rfl rfl rfl rfl h4 ?_
          refine VR.skipG rfl rfl rfl rfl h4 ?_
          refine VR.p rfl rfl (VP.pickB false rfl h4 rfl) ?_
          exact J [_, _, _, _] _ rfl (congrArg VV.bool (Option.some.inj hm))
      · refine VR.p rfl rfl (VP.assign rfl) ?_
        refine VR.nil ?_
        rcases ite_or hm with ⟨h8, hm⟩ | ⟨h8, hm⟩
        · refine VW.condT rfl h8 ?_
          refine VW.seq ?_
          refine VW.region ?_
          refine VR.p rfl rfl (VP.move rfl) ?_
          refine VR.p rfl rfl (VP.arith rfl rfl rfl) ?_
          refine VR.p rfl rfl (VP.arith rfl rfl rfl) ?_
          refine VR.p rfl rfl (VP.move rfl) ?_
          refine VR.p rfl rfl (VP.move rfl) ?_
          refine VR.p rfl rfl (VP.arith rfl rfl rfl) ?_
          obtain ⟨v2, h9, hm⟩ := bnd hm
          refine VR.p rfl rfl (VP.gi rfl rfl Try.underlying9 h9) ?_
          refine VR.p rfl rfl (VP.convI Try.underlying5 Try.underlying3 rfl) ?_
          refine VR.p rfl rfl (VP.arith rfl rfl rfl) ?_
          refine VR.p rfl rfl (VP.arith rfl rfl rfl) ?_
          refine VR.p rfl rfl (VP.assign rfl) ?_
          refine VR.nil ?_
          refine VW.seq ?_
          refine VW.region ?_
          refine VR.p rfl rfl (VP.move rfl) ?_
          refine VR.p rfl rfl (VP.arith rfl rfl rfl) ?_
          refine VR.nil ?_
          rcases ite_or hm with ⟨h10, hm⟩ | ⟨h10, hm⟩
          · refine VW.condT rfl h10 ?_
            refine VW.seq ?_
            refine VW.region ?_
            refine VR.p rfl rfl (VP.move rfl) ?_
            refine VR.p rfl rfl (VP.assign rfl) ?_
            refine VR.p rfl rfl (VP.assign rfl) ?_
            refine VR.nil ?_
            obtain rfl := Option.some.inj hm
            exact VW.ret ⟨.inl rfl, _, .cons (.tmp _ _ rfl) (.cons (.tmp _ _ rfl) .nil), [], _, rfl, rfl, rfl⟩
          · have h10 := bf h10
            refine VW.condF rfl h10 ?_
            refine VW.skip ?_
            refine VW.seq ?_
            refine VW.region ?_
            refine VR.p rfl rfl (VP.assign rfl) ?_
            refine VR.p rfl rfl (VP.assign rfl) ?_
            refine VR.nil ?_
            obtain rfl := Option.some.inj hm
            exact VW.ret ⟨.inl rfl, _, .cons (.tmp _ _ rfl) (.cons (.tmp _ _ rfl) .nil), [], _, rfl, rfl, rfl⟩
        · have h8 := bf h8
          refine VW.condF rfl h8 ?_
          refine VW.seq ?_
          refine VW.region ?_
          refine VR.p rfl rfl (VP.move rfl) ?_
          refine VR.p rfl rfl (VP.arith rfl rfl rfl) ?_
          refine VR.p rfl rfl (VP.move rfl) ?_
          refine VR.sc 3 50 (.bool ((decide ((IntKind.i64.wrap v) ≥ (224 : Int))) && (decide ((IntKind.i64.wrap v) < (240 : Int))))) (fun K' J => ?_) ?_
          · rcases Bool.eq_false_or_eq_true (decide ((IntKind.i64.wrap v) ≥ (224 : Int))) with h11 | h11
            · refine VR.pG rfl rfl rfl rfl h11 (VP.move rfl) ?_
              refine VR.pG rfl rfl rfl rfl h11 (VP.arith rfl rfl rfl) ?_
              refine VR.p rfl rfl (VP.pickB true rfl h11 rfl) ?_
              exact J [_, _] _ rfl (andT h11)
            · refine VR.skipG rfl rfl rfl rfl h11 ?_
              refine VR.skipG rfl rfl rfl rfl h11 ?_
              refine VR.p rfl rfl (VP.pickB false rfl h11 rfl) ?_
              exact J [_, _] _ rfl (andF h11)
          · refine VR.p rfl rfl (VP.move rfl) ?_
            obtain ⟨c2, h15, hm⟩ := bnd hm
            refine VR.sc 5 56 (.bool c2) (fun K' J => ?_) ?_
            · have hm := h15
              rcases ite_or hm with ⟨h12, hm⟩ | ⟨h12, hm⟩
              · refine VR.pG rfl rfl rfl rfl h12 (VP.move rfl) ?_
                refine VR.pG rfl rfl rfl rfl h12 (VP.move rfl) ?_
                refine VR.pG rfl rfl rfl rfl h12 (VP.arith rfl rfl rfl) ?_
                obtain ⟨r2, h13, hm⟩ := bnd hm
                refine VR.consG rfl rfl rfl rfl h12 (VO.callK 0 rfl fn26 rfl (ref01_more_ok s (IntKind.i64.wrap (i + (1 : Int))) r2 h13) fun _ _ h14 => ?_)
                obtain ⟨rfl, rfl⟩ := h14
                refine VR.p rfl rfl (VP.pickB true rfl h12 rfl) ?_
                exact J [_, _, _, _] _ rfl (congrArg VV.bool (Option.some.inj hm))
              · have h12 := bf h12
                refine VR.skipG rfl rfl rfl rfl h12 ?_
                refine VR.skipG rfl rfl rfl rfl h12 ?_
                refine VR.skipG rfl rfl rfl rfl h12 ?_
                refine VR.skipG rfl rfl rfl rfl h12 ?_
                refine VR.p rfl rfl (VP.pickB false rfl h12 rfl) ?_
                exact J [_, _, _, _] _ rfl (congrArg VV.bool (Option.some.inj hm))
            · refine VR.p rfl rfl (VP.move rfl) ?_
              obtain ⟨c3, h19, hm⟩ := bnd hm
              refine VR.sc 5 62 (.bool c3) (fun K' J => ?_) ?_
              · have hm := h19
                rcases ite_or hm with ⟨h16, hm⟩ | ⟨h16, hm⟩
                · refine VR.pG rfl rfl rfl rfl h16 (VP.move rfl) ?_
                  refine VR.pG rfl rfl rfl rfl h16 (VP.move rfl) ?_
                  refine VR.pG rfl rfl rfl rfl h16 (VP.arith rfl rfl rfl) ?_
                  obtain ⟨r3, h17, hm⟩ := bnd hm
                  refine VR.consG rfl rfl rfl rfl h16 (VO.callK 0 rfl fn26 rfl (ref01_more_ok s (IntKind.i64.wrap (i + (2 : Int))) r3 h17) fun _ _ h18 => ?_)
                  obtain ⟨rfl, rfl⟩ := h18
                  refine VR.p rfl rfl (VP.pickB true rfl h16 rfl) ?_
                  exact J [_, _, _, _] _ rfl (congrArg VV.bool (Option.some.inj hm))
                · have h16 := bf h16
                  refine VR.skipG rfl rfl rfl rfl h16 ?_
                  refine VR.skipG rfl rfl rfl rfl h16 ?_
                  refine VR.skipG rfl rfl rfl rfl h16 ?_
                  refine VR.skipG rfl rfl rfl rfl h16 ?_
                  refine VR.p rfl rfl (VP.pickB false rfl h16 rfl) ?_
                  exact J [_, _, _, _] _ rfl (congrArg VV.bool (Option.some.inj hm))
              · refine VR.p rfl rfl (VP.assign rfl) ?_
                refine VR.nil ?_
                rcases ite_or hm with ⟨h20, hm⟩ | ⟨h20, hm⟩
                · refine VW.condT rfl h20 ?_
                  refine VW.seq ?_
                  refine VW.drawK 0 mixed ?_
                  refine VA.p 0 rfl rfl rfl (by kernel_rfl) (VP.move rfl) ?_
                  refine VA.p 1 rfl rfl rfl (by kernel_rfl) (VP.arith rfl rfl rfl) ?_
                  refine VA.p 2 rfl rfl rfl (by kernel_rfl) (VP.arith rfl rfl rfl) ?_
                  refine VA.p 3 rfl rfl rfl (by kernel_rfl) (VP.move rfl) ?_
                  refine VA.p 4 rfl rfl rfl (by kernel_rfl) (VP.move rfl) ?_
                  refine VA.p 5 rfl rfl rfl (by kernel_rfl) (VP.arith rfl rfl rfl) ?_
                  obtain ⟨v3, h21, hm⟩ := bnd hm
                  refine VA.p 6 rfl rfl rfl (by kernel_rfl) (VP.gi rfl rfl Try.underlying9 h21) ?_
                  refine VA.p 7 rfl rfl rfl (by kernel_rfl) (VP.convI Try.underlying5 Try.underlying3 rfl) ?_
                  refine VA.p 8 rfl rfl rfl (by kernel_rfl) (VP.arith rfl rfl rfl) ?_
                  refine VA.p 9 rfl rfl rfl (by kernel_rfl) (VP.arith rfl rfl rfl) ?_
                  refine VA.p 10 rfl rfl rfl (by kernel_rfl) (VP.arith rfl rfl rfl) ?_
                  refine VA.p 11 rfl rfl rfl (by kernel_rfl) (VP.move rfl) ?_
                  refine VA.p 12 rfl rfl rfl (by kernel_rfl) (VP.move rfl) ?_
                  refine VA.p 13 rfl rfl rfl (by kernel_rfl) (VP.arith rfl rfl rfl) ?_
                  obtain ⟨v4, h22, hm⟩ := bnd hm
                  refine VA.p 14 rfl rfl rfl (by kernel_rfl) (VP.gi rfl rfl Try.underlying9 h22) ?_
                  refine VA.p 15 rfl rfl rfl (by kernel_rfl) (VP.convI Try.underlying5 Try.underlying3 rfl) ?_
                  refine VA.p 16 rfl rfl rfl (by kernel_rfl) (VP.arith rfl rfl rfl) ?_
                  refine VA.p 17 rfl rfl rfl (by kernel_rfl) (VP.arith rfl rfl rfl) ?_
                  refine VA.p 18 rfl rfl rfl (by kernel_rfl) (VP.assign rfl) ?_
                  refine VA.done (by kernel_rfl) ?_
                  refine VW.seq ?_
                  refine VW.region ?_
                  refine VR.p rfl rfl (VP.move rfl) ?_
                  refine VR.p rfl rfl (VP.arith rfl rfl rfl) ?_
                  refine VR.p rfl rfl (VP.move rfl) ?_
                  refine VR.sc 7 90 (.bool ((decide ((IntKind.i64.wrap ((IntKind.i64.wrap ((IntKind.i64.wrap ((IntKind.i64.wrap ((IntKind.i64.wrap ((IntKind.i64.wrap v) - (224 : Int))) * (4096 : Int))) + (IntKind.i64.wrap ((IntKind.i64.wrap ((IntKind.i64.wrap v3) - (128 : Int))) * (64 : Int))))) + (IntKind.i64.wrap v4))) - (128 : Int))) ≥ (2048 : Int))) && ((decide ((IntKind.i64.wrap ((IntKind.i64.wrap ((IntKind.i64.wrap ((IntKind.i64.wrap ((IntKind.i64.wrap ((IntKind.i64.wrap v) - (224 : Int))) * (4096 : Int))) + (IntKind.i64.wrap ((IntKind.i64.wrap ((IntKind.i64.wrap v3) - (128 : Int))) * (64 : Int))))) + (IntKind.i64.wrap v4))) - (128 : Int))) < (55296 : Int))) || (decide ((IntKind.i64.wrap ((IntKind.i64.wrap ((IntKind.i64.wrap ((IntKind.i64.wrap ((IntKind.i64.wrap ((IntKind.i64.wrap v) - (224 : Int))) * (4096 : Int))) + (IntKind.i64.wrap ((IntKind.i64.wrap ((IntKind.i64.wrap v3) - (128 : Int))) * (64 : Int))))) + (IntKind.i64.wrap v4))) - (128 : Int))) > (57343 : Int)))))) (fun K' J => ?_) ?_
                  · rcases Bool.eq_false_or_eq_true (decide ((IntKind.i64.wrap ((IntKind.i64.wrap ((IntKind.i64.wrap ((IntKind.i64.wrap ((IntKind.i64.wrap ((IntKind.i64.wrap v) - (224 : Int))) * (4096 : Int))) + (IntKind.i64.wrap ((IntKind.i64.wrap ((IntKind.i64.wrap v3) - (128 : Int))) * (64 : Int))))) + (IntKind.i64.wrap v4))) - (128 : Int))) ≥ (2048 : Int))) with h23 | h23
                    · refine VR.pG rfl rfl rfl rfl h23 (VP.move rfl) ?_
                      refine VR.pG rfl rfl rfl rfl h23 (VP.arith rfl rfl rfl) ?_
                      refine VR.pG rfl rfl rfl rfl h23 (VP.move rfl) ?_
                      refine VR.sc 3 89 (.bool ((decide ((IntKind.i64.wrap ((IntKind.i64.wrap ((IntKind.i64.wrap ((IntKind.i64.wrap ((IntKind.i64.wrap ((IntKind.i64.wrap v) - (224 : Int))) * (4096 : Int))) + (IntKind.i64.wrap ((IntKind.i64.wrap ((IntKind.i64.wrap v3) - (128 : Int))) * (64 : Int))))) + (IntKind.i64.wrap v4))) - (128 : Int))) < (55296 : Int))) || (decide ((IntKind.i64.wrap ((IntKind.i64.wrap ((IntKind.i64.wrap ((IntKind.i64.wrap ((IntKind.i64.wrap ((IntKind.i64.wrap v) - (224 : Int))) * (4096 : Int))) + (IntKind.i64.wrap ((IntKind.i64.wrap ((IntKind.i64.wrap v3) - (128 : Int))) * (64 : Int))))) + (IntKind.i64.wrap v4))) - (128 : Int))) > (57343 : Int))))) (fun K' J => ?_) ?_
                      · rcases Bool.eq_false_or_eq_true (decide ((IntKind.i64.wrap ((IntKind.i64.wrap ((IntKind.i64.wrap ((IntKind.i64.wrap ((IntKind.i64.wrap ((IntKind.i64.wrap v) - (224 : Int))) * (4096 : Int))) + (IntKind.i64.wrap ((IntKind.i64.wrap ((IntKind.i64.wrap v3) - (128 : Int))) * (64 : Int))))) + (IntKind.i64.wrap v4))) - (128 : Int))) < (55296 : Int))) with h24 | h24
                        · refine VR.skipG rfl rfl rfl rfl h24 ?_
                          refine VR.skipG rfl rfl rfl rfl h24 ?_
                          refine VR.pG rfl rfl rfl rfl h23 (VP.pickB true rfl h24 rfl) ?_
                          exact J [_, _] _ rfl (orT h24)
                        · refine VR.pG rfl rfl rfl rfl h24 (VP.move rfl) ?_
                          refine VR.pG rfl rfl rfl rfl h24 (VP.arith rfl rfl rfl) ?_
                          refine VR.pG rfl rfl rfl rfl h23 (VP.pickB false rfl h24 rfl) ?_
                          exact J [_, _] _ rfl (orF h24)
                      · refine VR.p rfl rfl (VP.pickB true rfl h23 rfl) ?_
                        exact J [_, _, _, _] _ rfl (andT h23)
                    · refine VR.skipG rfl rfl rfl rfl h23 ?_
                      refine VR.skipG rfl rfl rfl rfl h23 ?_
                      refine VR.skipG rfl rfl rfl rfl h23 ?_
                      refine VR.skipU rfl rfl rfl rfl ?_
                      refine VR.skipU rfl rfl rfl rfl ?_
                      refine VR.skipG rfl rfl rfl rfl h23 ?_
                      refine VR.p rfl rfl (VP.pickB false rfl h23 rfl) ?_
                      exact J [_, _, _, _, _, _] _ rfl (andF h23)
                  · refine VR.nil ?_
                    rcases ite_or hm with ⟨h25, hm⟩ | ⟨h25, hm⟩
                    · refine VW.condT rfl h25 ?_
                      refine VW.seq ?_
                      refine VW.region ?_
                      refine VR.p rfl rfl (VP.move rfl) ?_
                      refine VR.p rfl rfl (VP.assign rfl) ?_
                      refine VR.p rfl rfl (VP.assign rfl) ?_
                      refine VR.nil ?_
                      obtain rfl := Option.some.inj hm
                      exact VW.ret ⟨.inl rfl, _, .cons (.tmp _ _ rfl) (.cons (.tmp _ _ rfl) .nil), [], _, rfl, rfl, rfl⟩
                    · have h25 := bf h25
                      refine VW.condF rfl h25 ?_
                      refine VW.skip ?_
                      refine VW.seq ?_
                      refine VW.region ?_
                      refine VR.p rfl rfl (VP.assign rfl) ?_
                      refine VR.p rfl rfl (VP.assign rfl) ?_
                      refine VR.nil ?_
                      obtain rfl := Option.some.inj hm
                      exact VW.ret ⟨.inl rfl, _, .cons (.tmp _ _ rfl) (.cons (.tmp _ _ rfl) .nil), [], _, rfl, rfl, rfl⟩
                · have h20 := bf h20
                  refine VW.condF rfl h20 ?_
                  refine VW.seq ?_
                  refine VW.region ?_
                  refine VR.p rfl rfl (VP.move rfl) ?_
                  refine VR.p rfl rfl (VP.arith rfl rfl rfl) ?_
                  refine VR.p rfl rfl (VP.move rfl) ?_
                  refine VR.sc 3 98 (.bool ((decide ((IntKind.i64.wrap v) ≥ (240 : Int))) && (decide ((IntKind.i64.wrap v) < (248 : Int))))) (fun K' J => ?_) ?_
                  · rcases Bool.eq_false_or_eq_true (decide ((IntKind.i64.wrap v) ≥ (240 : Int))) with h26 | h26
                    · refine VR.pG rfl rfl rfl rfl h26 (VP.move rfl) ?_
                      refine VR.pG rfl rfl rfl rfl h26 (VP.arith rfl rfl rfl) ?_
                      refine VR.p rfl rfl (VP.pickB true rfl h26 rfl) ?_
                      exact J [_, _] _ rfl (andT h26)
                    · refine VR.skipG rfl rfl rfl rfl h26 ?_
                      refine VR.skipG rfl rfl rfl rfl h26 ?_
                      refine VR.p rfl rfl (VP.pickB false rfl h26 rfl) ?_
                      exact J [_, _] _ rfl (andF h26)
                  · refine VR.p rfl rfl (VP.move rfl) ?_
                    obtain ⟨c4, h30, hm⟩ := bnd hm
                    refine VR.sc 5 104 (.bool c4) (fun K' J => ?_) ?_
                    · have hm := h30
                      rcases ite_or hm with ⟨h27, hm⟩ | ⟨h27, hm⟩
                      · refine VR.pG rfl rfl rfl rfl h27 (VP.move rfl) ?_
                        refine VR.pG rfl rfl rfl rfl h27 (VP.move rfl) ?_
                        refine VR.pG rfl rfl rfl rfl h27 (VP.arith rfl rfl rfl) ?_
                        obtain ⟨r4, h28, hm⟩ := bnd hm
                        refine VR.consG rfl rfl rfl rfl h27 (VO.callK 0 rfl fn26 rfl (ref01_more_ok s (IntKind.i64.wrap (i + (1 : Int))) r4 h28) fun _ _ h29 => ?_)
                        obtain ⟨rfl, rfl⟩ := h29
                        refine VR.p rfl rfl (VP.pickB true rfl h27 rfl) ?_
                        exact J [_, _, _, _] _ rfl (congrArg VV.bool (Option.some.inj hm))
                      · have h27 := bf h27
                        refine VR.skipG rfl rfl rfl rfl h27 ?_
                        refine VR.skipG rfl rfl rfl rfl h27 ?_
                        refine VR.skipG rfl rfl rfl rfl h27 ?_
                        refine VR.skipG rfl rfl rfl rfl h27 ?_
                        refine VR.p rfl rfl (VP.pickB false rfl h27 rfl) ?_
                        exact J [_, _, _, _] _ rfl (congrArg VV.bool (Option.some.inj hm))
                    · refine VR.p rfl rfl (VP.move rfl) ?_
                      obtain ⟨c5, h34, hm⟩ := bnd hm
                      refine VR.sc 5 110 (.bool c5) (fun K' J => ?_) ?_
                      · have hm := h34
                        rcases ite_or hm with ⟨h31, hm⟩ | ⟨h31, hm⟩
                        · refine VR.pG rfl rfl rfl rfl h31 (VP.move rfl) ?_
                          refine VR.pG rfl rfl rfl rfl h31 (VP.move rfl) ?_
                          refine VR.pG rfl rfl rfl rfl h31 (VP.arith rfl rfl rfl) ?_
                          obtain ⟨r5, h32, hm⟩ := bnd hm
                          refine VR.consG rfl rfl rfl rfl h31 (VO.callK 0 rfl fn26 rfl (ref01_more_ok s (IntKind.i64.wrap (i + (2 : Int))) r5 h32) fun _ _ h33 => ?_)
                          obtain ⟨rfl, rfl⟩ := h33
                          refine VR.p rfl rfl (VP.pickB true rfl h31 rfl) ?_
                          exact J [_, _, _, _] _ rfl (congrArg VV.bool (Option.some.inj hm))
                        · have h31 := bf h31
                          refine VR.skipG rfl rfl rfl rfl h31 ?_
                          refine VR.skipG rfl rfl rfl rfl h31 ?_
                          refine VR.skipG rfl rfl rfl rfl h31 ?_
                          refine VR.skipG rfl rfl rfl rfl h31 ?_
                          refine VR.p rfl rfl (VP.pickB false rfl h31 rfl) ?_
                          exact J [_, _, _, _] _ rfl (congrArg VV.bool (Option.some.inj hm))
                      · refine VR.p rfl rfl (VP.move rfl) ?_
                        obtain ⟨c6, h38, hm⟩ := bnd hm
                        refine VR.sc 5 116 (.bool c6) (fun K' J => ?_) ?_
                        · have hm := h38
                          rcases ite_or hm with ⟨h35, hm⟩ | ⟨h35, hm⟩
                          · refine VR.pG rfl rfl rfl rfl h35 (VP.move rfl) ?_
                            refine VR.pG rfl rfl rfl rfl h35 (VP.move rfl) ?_
                            refine VR.pG rfl rfl rfl rfl h35 (VP.arith rfl rfl rfl) ?_
                            obtain ⟨r6, h36, hm⟩ := bnd hm
                            refine VR.consG rfl rfl rfl rfl h35 (VO.callK 0 rfl fn26 rfl (ref01_more_ok s (IntKind.i64.wrap (i + (3 : Int))) r6 h36) fun _ _ h37 => ?_)
                            obtain ⟨rfl, rfl⟩ := h37
                            refine VR.p rfl rfl (VP.pickB true rfl h35 rfl) ?_
                            exact J [_, _, _, _] _ rfl (congrArg VV.bool (Option.some.inj hm))
                          · have h35 := bf h35
                            refine VR.skipG rfl rfl rfl rfl h35 ?_
                            refine VR.skipG rfl rfl rfl rfl h35 ?_
                            refine VR.skipG rfl rfl rfl rfl h35 ?_
                            refine VR.skipG rfl rfl rfl rfl h35 ?_
                            refine VR.p rfl rfl (VP.pickB false rfl h35 rfl) ?_
                            exact J [_, _, _, _] _ rfl (congrArg VV.bool (Option.some.inj hm))
                        · refine VR.p rfl rfl (VP.assign rfl) ?_
                          refine VR.nil ?_
                          rcases ite_or hm with ⟨h39, hm⟩ | ⟨h39, hm⟩
                          · refine VW.condT rfl h39 ?_
                            refine VW.seq ?_
                            refine VW.drawK 0 mixed ?_
                            refine VA.p 0 rfl rfl rfl (by kernel_rfl) (VP.move rfl) ?_
                            refine VA.p 1 rfl rfl rfl (by kernel_rfl) (VP.arith rfl rfl rfl) ?_
                            refine VA.p 2 rfl rfl rfl (by kernel_rfl) (VP.arith rfl rfl rfl) ?_
                            refine VA.p 3 rfl rfl rfl (by kernel_rfl) (VP.move rfl) ?_
                            refine VA.p 4 rfl rfl rfl (by kernel_rfl) (VP.move rfl) ?_
                            refine VA.p 5 rfl rfl rfl (by kernel_rfl) (VP.arith rfl rfl rfl) ?_
                            obtain ⟨v5, h40, hm⟩ := bnd hm
                            refine VA.p 6 rfl rfl rfl (by kernel_rfl) (VP.gi rfl rfl Try.underlying9 h40) ?_
                            refine VA.p 7 rfl rfl rfl (by kernel_rfl) (VP.convI Try.underlying5 Try.underlying3 rfl) ?_
                            refine VA.p 8 rfl rfl rfl (by kernel_rfl) (VP.arith rfl rfl rfl) ?_
                            refine VA.p 9 rfl rfl rfl (by kernel_rfl) (VP.arith rfl rfl rfl) ?_
                            refine VA.p 10 rfl rfl rfl (by kernel_rfl) (VP.arith rfl rfl rfl) ?_
                            refine VA.p 11 rfl rfl rfl (by kernel_rfl) (VP.move rfl) ?_
                            refine VA.p 12 rfl rfl rfl (by kernel_rfl) (VP.move rfl) ?_
                            refine VA.p 13 rfl rfl rfl (by kernel_rfl) (VP.arith rfl rfl rfl) ?_
                            obtain ⟨v6, h41, hm⟩ := bnd hm
                            refine VA.p 14 rfl rfl rfl (by kernel_rfl) (VP.gi rfl rfl Try.underlying9 h41) ?_
                            refine VA.p 15 rfl rfl rfl (by kernel_rfl) (VP.convI Try.underlying5 Try.underlying3 rfl) ?_
                            refine VA.p 16 rfl rfl rfl (by kernel_rfl) (VP.arith rfl rfl rfl) ?_
                            refine VA.p 17 rfl rfl rfl (by kernel_rfl) (VP.arith rfl rfl rfl) ?_
                            refine VA.p 18 rfl rfl rfl (by kernel_rfl) (VP.arith rfl rfl rfl) ?_
                            refine VA.p 19 rfl rfl rfl (by kernel_rfl) (VP.move rfl) ?_
                            refine VA.p 20 rfl rfl rfl (by kernel_rfl) (VP.move rfl) ?_
                            refine VA.p 21 rfl rfl rfl (by kernel_rfl) (VP.arith rfl rfl rfl) ?_
                            obtain ⟨v7, h42, hm⟩ := bnd hm
                            refine VA.p 22 rfl rfl rfl (by kernel_rfl) (VP.gi rfl rfl Try.underlying9 h42) ?_
                            refine VA.p 23 rfl rfl rfl (by kernel_rfl) (VP.convI Try.underlying5 Try.underlying3 rfl) ?_
                            refine VA.p 24 rfl rfl rfl (by kernel_rfl) (VP.arith rfl rfl rfl) ?_
                            refine VA.p 25 rfl rfl rfl (by kernel_rfl) (VP.arith rfl rfl rfl) ?_
                            refine VA.p 26 rfl rfl rfl (by kernel_rfl) (VP.assign rfl) ?_
                            refine VA.done (by kernel_rfl) ?_
                            refine VW.seq ?_
                            refine VW.region ?_
                            refine VR.p rfl rfl (VP.move rfl) ?_
                            refine VR.p rfl rfl (VP.arith rfl rfl rfl) ?_
                            refine VR.p rfl rfl (VP.move rfl) ?_
                            refine VR.sc 3 148 (.bool ((decide ((IntKind.i64.wrap ((IntKind.i64.wrap ((IntKind.i64.wrap ((IntKind.i64.wrap ((IntKind.i64.wrap ((IntKind.i64.wrap ((IntKind.i64.wrap v) - (240 : Int))) * (262144 : Int))) + (IntKind.i64.wrap ((IntKind.i64.wrap ((IntKind.i64.wrap v5) - (128 : Int))) * (4096 : Int))))) + (IntKind.i64.wrap ((IntKind.i64.wrap ((IntKind.i64.wrap v6) - (128 : Int))) * (64 : Int))))) + (IntKind.i64.wrap v7))) - (128 : Int))) ≥ (65536 : Int))) && (decide ((IntKind.i64.wrap ((IntKind.i64.wrap ((IntKind.i64.wrap ((IntKind.i64.wrap ((IntKind.i64.wrap ((IntKind.i64.wrap ((IntKind.i64.wrap v) - (240 : Int))) * (262144 : Int))) + (IntKind.i64.wrap ((IntKind.i64.wrap ((IntKind.i64.wrap v5) - (128 : Int))) * (4096 : Int))))) + (IntKind.i64.wrap ((IntKind.i64.wrap ((IntKind.i64.wrap v6) - (128 : Int))) * (64 : Int))))) + (IntKind.i64.wrap v7))) - (128 : Int))) ≤ (1114111 : Int))))) (fun K' J => ?_) ?_
                            · rcases Bool.eq_false_or_eq_true (decide ((IntKind.i64.wrap ((IntKind.i64.wrap ((IntKind.i64.wrap ((IntKind.i64.wrap ((IntKind.i64.wrap ((IntKind.i64.wrap ((IntKind.i64.wrap v) - (240 : Int))) * (262144 : Int))) + (IntKind.i64.wrap ((IntKind.i64.wrap ((IntKind.i64.wrap v5) - (128 : Int))) * (4096 : Int))))) + (IntKind.i64.wrap ((IntKind.i64.wrap ((IntKind.i64.wrap v6) - (128 : Int))) * (64 : Int))))) + (IntKind.i64.wrap v7))) - (128 : Int))) ≥ (65536 : Int))) with h43 | h43
                              · refine VR.pG rfl rfl rfl rfl h43 (VP.move rfl) ?_
                                refine VR.pG rfl rfl rfl rfl h43 (VP.arith rfl rfl rfl) ?_
                                refine VR.p rfl rfl (VP.pickB true rfl h43 rfl) ?_
                                exact J [_, _] _ rfl (andT h43)
                              · refine VR.skipG rfl rfl rfl rfl h43 ?_
                                refine VR.skipG rfl rfl rfl rfl h43 ?_
                                refine VR.p rfl rfl (VP.pickB false rfl h43 rfl) ?_
                                exact J [_, _] _ rfl (andF h43)
                            · refine VR.nil ?_
                              rcases ite_or hm with ⟨h44, hm⟩ | ⟨h44, hm⟩
                              · refine VW.condT rfl h44 ?_
                                refine VW.seq ?_
                                refine VW.region ?_
                                refine VR.p rfl rfl (VP.move rfl) ?_
                                refine VR.p rfl rfl (VP.assign rfl) ?_
                                refine VR.p rfl rfl (VP.assign rfl) ?_
                                refine VR.nil ?_
                                obtain rfl := Option.some.inj hm
                                exact VW.ret ⟨.inl rfl, _, .cons (.tmp _ _ rfl) (.cons (.tmp _ _ rfl) .nil), [], _, rfl, rfl, rfl⟩
                              · have h44 := bf h44
                                refine VW.condF rfl h44 ?_
                                refine VW.skip ?_
                                refine VW.seq ?_
                                refine VW.region ?_
                                refine VR.p rfl rfl (VP.assign rfl) ?_
                                refine VR.p rfl rfl (VP.assign rfl) ?_
                                refine VR.nil ?_
                                obtain rfl := Option.some.inj hm
                                exact VW.ret ⟨.inl rfl, _, .cons (.tmp _ _ rfl) (.cons (.tmp _ _ rfl) .nil), [], _, rfl, rfl, rfl⟩
                          · have h39 := bf h39
                            refine VW.condF rfl h39 ?_
                            refine VW.skip ?_
                            refine VW.seq ?_
                            refine VW.region ?_
                            refine VR.p rfl rfl (VP.assign rfl) ?_
                            refine VR.p rfl rfl (VP.assign rfl) ?_
                            refine VR.nil ?_
                            obtain rfl := Option.some.inj hm
                            exact VW.ret ⟨.inl rfl, _, .cons (.tmp _ _ rfl) (.cons (.tmp _ _ rfl) .nil), [], _, rfl, rfl, rfl⟩

/-! trireme/triremeref01.plain -/
def ref01_plain (c : Int) : Option Bool :=
  some ((((((decide (c > (32 : Int))) && (c != (127 : Int))) && (c != (40 : Int))) && (c != (41 : Int))) && (c != (34 : Int))) && (c != (59 : Int)))
theorem ref01_plain_ok (c : Int) (r : Bool) (hm : ref01_plain c = some r) :
    VC Try.prog 23 [.int .i64 c] [] (fun x H' => x = .bool r ∧ H' = []) := by
  unfold ref01_plain at hm
  refine VC.run (c := _) (rs := [.tmp 2]) Try.func23 rfl rfl rfl ?_
  refine VW.seq ?_
  refine VW.region ?_
  refine VR.p rfl rfl (VP.assign rfl) ?_
  refine VR.nil ?_
  refine VW.seq ?_
  refine VW.region ?_
  refine VR.p rfl rfl (VP.move rfl) ?_
  refine VR.p rfl rfl (VP.arith rfl rfl rfl) ?_
  refine VR.p rfl rfl (VP.move rfl) ?_
  refine VR.sc 3 8 (.bool ((decide (c > (32 : Int))) && (c != (127 : Int)))) (fun K' J => ?_) ?_
  · rcases Bool.eq_false_or_eq_true (decide (c > (32 : Int))) with h1 | h1
    · refine VR.pG rfl rfl rfl rfl h1 (VP.move rfl) ?_
      refine VR.pG rfl rfl rfl rfl h1 (VP.arith rfl rfl rfl) ?_
      refine VR.p rfl rfl (VP.pickB true rfl h1 rfl) ?_
      exact J [_, _] _ rfl (andT h1)
    · refine VR.skipG rfl rfl rfl rfl h1 ?_
      refine VR.skipG rfl rfl rfl rfl h1 ?_
      refine VR.p rfl rfl (VP.pickB false rfl h1 rfl) ?_
      exact J [_, _] _ rfl (andF h1)
  · refine VR.p rfl rfl (VP.move rfl) ?_
    refine VR.sc 3 12 (.bool (((decide (c > (32 : Int))) && (c != (127 : Int))) && (c != (40 : Int)))) (fun K' J => ?_) ?_
    · rcases Bool.eq_false_or_eq_true ((decide (c > (32 : Int))) && (c != (127 : Int))) with h2 | h2
      · refine VR.pG rfl rfl rfl rfl h2 (VP.move rfl) ?_
        refine VR.pG rfl rfl rfl rfl h2 (VP.arith rfl rfl rfl) ?_
        refine VR.p rfl rfl (VP.pickB true rfl h2 rfl) ?_
        exact J [_, _] _ rfl (andT h2)
      · refine VR.skipG rfl rfl rfl rfl h2 ?_
        refine VR.skipG rfl rfl rfl rfl h2 ?_
        refine VR.p rfl rfl (VP.pickB false rfl h2 rfl) ?_
        exact J [_, _] _ rfl (andF h2)
    · refine VR.p rfl rfl (VP.move rfl) ?_
      refine VR.sc 3 16 (.bool ((((decide (c > (32 : Int))) && (c != (127 : Int))) && (c != (40 : Int))) && (c != (41 : Int)))) (fun K' J => ?_) ?_
      · rcases Bool.eq_false_or_eq_true (((decide (c > (32 : Int))) && (c != (127 : Int))) && (c != (40 : Int))) with h3 | h3
        · refine VR.pG rfl rfl rfl rfl h3 (VP.move rfl) ?_
          refine VR.pG rfl rfl rfl rfl h3 (VP.arith rfl rfl rfl) ?_
          refine VR.p rfl rfl (VP.pickB true rfl h3 rfl) ?_
          exact J [_, _] _ rfl (andT h3)
        · refine VR.skipG rfl rfl rfl rfl h3 ?_
          refine VR.skipG rfl rfl rfl rfl h3 ?_
          refine VR.p rfl rfl (VP.pickB false rfl h3 rfl) ?_
          exact J [_, _] _ rfl (andF h3)
      · refine VR.p rfl rfl (VP.move rfl) ?_
        refine VR.sc 3 20 (.bool (((((decide (c > (32 : Int))) && (c != (127 : Int))) && (c != (40 : Int))) && (c != (41 : Int))) && (c != (34 : Int)))) (fun K' J => ?_) ?_
        · rcases Bool.eq_false_or_eq_true ((((decide (c > (32 : Int))) && (c != (127 : Int))) && (c != (40 : Int))) && (c != (41 : Int))) with h4 | h4
          · refine VR.pG rfl rfl rfl rfl h4 (VP.move rfl) ?_
            refine VR.pG rfl rfl rfl rfl h4 (VP.arith rfl rfl rfl) ?_
            refine VR.p rfl rfl (VP.pickB true rfl h4 rfl) ?_
            exact J [_, _] _ rfl (andT h4)
          · refine VR.skipG rfl rfl rfl rfl h4 ?_
            refine VR.skipG rfl rfl rfl rfl h4 ?_
            refine VR.p rfl rfl (VP.pickB false rfl h4 rfl) ?_
            exact J [_, _] _ rfl (andF h4)
        · refine VR.p rfl rfl (VP.move rfl) ?_
          refine VR.sc 3 24 (.bool ((((((decide (c > (32 : Int))) && (c != (127 : Int))) && (c != (40 : Int))) && (c != (41 : Int))) && (c != (34 : Int))) && (c != (59 : Int)))) (fun K' J => ?_) ?_
          · rcases Bool.eq_false_or_eq_true (((((decide (c > (32 : Int))) && (c != (127 : Int))) && (c != (40 : Int))) && (c != (41 : Int))) && (c != (34 : Int))) with h5 | h5
            · refine VR.pG rfl rfl rfl rfl h5 (VP.move rfl) ?_
              refine VR.pG rfl rfl rfl rfl h5 (VP.arith rfl rfl rfl) ?_
              refine VR.p rfl rfl (VP.pickB true rfl h5 rfl) ?_
              exact J [_, _] _ rfl (andT h5)
            · refine VR.skipG rfl rfl rfl rfl h5 ?_
              refine VR.skipG rfl rfl rfl rfl h5 ?_
              refine VR.p rfl rfl (VP.pickB false rfl h5 rfl) ?_
              exact J [_, _] _ rfl (andF h5)
          · refine VR.p rfl rfl (VP.assign rfl) ?_
            refine VR.nil ?_
            obtain rfl := Option.some.inj hm
            exact VW.ret ⟨.inl rfl, _, .cons (.tmp _ _ rfl) .nil, [], _, rfl, rfl, rfl⟩

end Go.Proofs.Ytfenmdnodoogbaa.M

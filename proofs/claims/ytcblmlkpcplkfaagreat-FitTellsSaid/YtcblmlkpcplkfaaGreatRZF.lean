/-
  Printed by a program of this session out of the loaded functions: models and their proofs. Own text.
-/
import Derived.Test.YtcblmlkpcplkfaaGreatRZF3
namespace Go.Proofs.YtcblmlkpcplkfaaGreat.M
open Go Go.Proofs Go.Proofs.YtcblmlkpcplkfaaGreat.V
set_option linter.unusedVariables false
set_option maxRecDepth 20000
set_option maxHeartbeats 4000000
/-! trireme/triremeref11.Many -/
def ref11_Many.l1 (r2 : ByteArray × Bool) (r3 : List ByteArray × List Int) : Nat → Int → Int → Int → Option (Int × Int)
  | 0, _, _, _ => none
  | n + 1, mine2, least2, i2 =>
    if (decide (i2 < (r3.1.length : Int))) = true then
      (if (i2 == (0 : Int)) = true then some true else (V.gl r3.2 i2).bind fun x =>
      some (decide (x < least2))).bind fun c2 =>
      if c2 = true then
        (V.gl r3.2 i2).bind fun x2 =>
        (if r2.2 = true then (V.gl r3.1 i2).bind fun x3 =>
        some (V.seq x3 r2.1) else some false).bind fun c3 =>
        if c3 = true then
          (V.gl r3.2 i2).bind fun x4 =>
          ref11_Many.l1 r2 r3 n x4 x2 (IntKind.i64.wrap (i2 + (1 : Int)))
        else
          ref11_Many.l1 r2 r3 n mine2 x2 (IntKind.i64.wrap (i2 + (1 : Int)))
      else
        (if r2.2 = true then (V.gl r3.1 i2).bind fun x5 =>
        some (V.seq x5 r2.1) else some false).bind fun c4 =>
        if c4 = true then
          (V.gl r3.2 i2).bind fun x6 =>
          ref11_Many.l1 r2 r3 n x6 least2 (IntKind.i64.wrap (i2 + (1 : Int)))
        else
          ref11_Many.l1 r2 r3 n mine2 least2 (IntKind.i64.wrap (i2 + (1 : Int)))
    else
      some (mine2, least2)
def ref11_Many (ms : List T_api_Machine) (bs : List T_api_Bound) (p : T_api_Pod) (on_ : ByteArray) : Option Bool :=
  (if ((p.Spread.length : Int) == (0 : Int)) = true then some true else (ref09_Find ms on_).bind fun r =>
  some (decide (r < (0 : Int)))).bind fun c =>
  if c = true then
    some false
  else
    (ref11_zone ms on_).bind fun r2 =>
    (ref11_Counts ms bs p).bind fun r3 =>
    (ref11_Many.l1 r2 r3 FU (-1 : Int) (0 : Int) (0 : Int)).bind fun j =>
    if (decide (j.1 < (0 : Int))) = true then
      some true
    else
      (ref05_Has p.Labels p.Spread).bind fun r4 =>
      if r4 = true then
        some (decide ((IntKind.i64.wrap ((IntKind.i64.wrap (j.1 + (1 : Int))) - j.2)) > p.Skew))
      else
        some (decide ((IntKind.i64.wrap (j.1 - j.2)) > p.Skew))
theorem ref11_Many_ok (ms : List T_api_Machine) (bs : List T_api_Bound) (p : T_api_Pod) (on_ : ByteArray) (r : Bool) (hm : ref11_Many ms bs p on_ = some r) :
    VC Tryz.prog 48 [.list 37 (List.map T_api_Machine.vv ms), .list 56 (List.map T_api_Bound.vv bs), T_api_Pod.vv p, .str on_] [] (fun zx zH => zx = .bool r ∧ zH = []) := by
  unfold ref11_Many at hm
  refine VC.run (c := _) (rs := [.tmp 8]) Tryz.func48 rfl rfl rfl ?_
  refine VW.seq ?_
  refine VW.region ?_
  refine VR.cons rfl rfl (VO.box rfl rfl fun b => ?_)
  refine VR.p rfl rfl (VP.assign rfl) ?_
  refine VR.nil ?_
  refine VW.seq ?_
  refine VW.seq ?_
  refine VW.region ?_
  refine VR.p rfl rfl (VP.fieldP rfl fa31_9) ?_
  refine VR.p rfl rfl (VP.loadP (i := 0) rfl rfl ld26 rfl) ?_
  refine VR.p rfl rfl (VP.lenT T_api_Label.vv rfl Tryz.underlying26) ?_
  refine VR.p rfl rfl (VP.arith rfl rfl rfl) ?_
  refine VR.p rfl rfl (VP.move rfl) ?_
  obtain ⟨c, h5, hm⟩ := bnd hm
  refine VR.sc 5 25 (.bool c) (fun K' J => ?_) ?_
  · have hm := h5
    rcases ite_or hm with ⟨h2, hm⟩ | ⟨h2, hm⟩
    · refine VR.skipG rfl rfl rfl rfl h2 ?_
      refine VR.skipG rfl rfl rfl rfl h2 ?_
      refine VR.skipG rfl rfl rfl rfl h2 ?_
      refine VR.skipG rfl rfl rfl rfl h2 ?_
      refine VR.p rfl rfl (VP.pickB true rfl h2 rfl) ?_
      exact J [_, _, _, _] _ rfl (congrArg VV.bool (Option.some.inj hm))
    · have h2 := bf h2
      refine VR.pG rfl rfl rfl rfl h2 (VP.move rfl) ?_
      refine VR.pG rfl rfl rfl rfl h2 (VP.move rfl) ?_
      obtain ⟨r, h3, hm⟩ := bnd hm
      refine VR.consG rfl rfl rfl rfl h2 (VO.callK 0 rfl fn22 rfl (ref09_Find_ok ms on_ r h3) fun _ _ h4 => ?_)
      obtain ⟨rfl, rfl⟩ := h4
      refine VR.pG rfl rfl rfl rfl h2 (VP.arith rfl rfl rfl) ?_
      refine VR.p rfl rfl (VP.pickB false rfl h2 rfl) ?_
      exact J [_, _, _, _] _ rfl (congrArg VV.bool (Option.some.inj hm))
  · refine VR.nil ?_
    rcases ite_or hm with ⟨h6, hm⟩ | ⟨h6, hm⟩
    · refine VW.condT rfl h6 ?_
      refine VW.seq ?_
      refine VW.region ?_
      refine VR.p rfl rfl (VP.assign rfl) ?_
      refine VR.nil ?_
      obtain rfl := Option.some.inj hm
      exact VW.ret ⟨.inl rfl, _, .cons (.tmp _ _ rfl) .nil, [], _, rfl, rfl, rfl⟩
    · have h6 := bf h6
      refine VW.condF rfl h6 ?_
      refine VW.skip ?_
      refine VW.seq ?_
      refine VW.region ?_
      refine VR.p rfl rfl (VP.move rfl) ?_
      refine VR.p rfl rfl (VP.move rfl) ?_
      obtain ⟨r2, h7, hm⟩ := bnd hm
      refine VR.cons rfl rfl (VO.callK 0 rfl fn70 rfl (ref11_zone_ok ms on_ r2 h7) fun _ _ h36 => ?_)
      obtain ⟨rfl, rfl⟩ := h36
      refine VR.p rfl rfl (VP.move rfl) ?_
      refine VR.p rfl rfl (VP.extract rfl rfl) ?_
      refine VR.p rfl rfl (VP.extract rfl rfl) ?_
      refine VR.p rfl rfl (VP.assign rfl) ?_
      refine VR.p rfl rfl (VP.assign rfl) ?_
      refine VR.nil ?_
      refine VW.seq ?_
      refine VW.region ?_
      refine VR.p rfl rfl (VP.move rfl) ?_
      refine VR.p rfl rfl (VP.move rfl) ?_
      refine VR.p rfl rfl (VP.loadP (i := 0) rfl rfl ld31 rfl) ?_
      obtain ⟨r3, h8, hm⟩ := bnd hm
      refine VR.cons rfl rfl (VO.callK 0 rfl fn71 rfl (ref11_Counts_ok ms bs p r3 h8) fun _ _ h35 => ?_)
      obtain ⟨ob, cap, rfl, rfl⟩ := h35
      refine VR.p rfl rfl (VP.move rfl) ?_
      refine VR.p rfl rfl (VP.extract rfl rfl) ?_
      refine VR.p rfl rfl (VP.extract rfl rfl) ?_
      refine VR.p rfl rfl (VP.assign rfl) ?_
      refine VR.p rfl rfl (VP.assign rfl) ?_
      refine VR.nil ?_
      refine VW.seq ?_
      refine VW.region ?_
      refine VR.p rfl rfl (VP.assign rfl) ?_
      refine VR.nil ?_
      refine VW.seq ?_
      refine VW.region ?_
      refine VR.p rfl rfl (VP.assign rfl) ?_
      refine VR.nil ?_
      refine VW.seq ?_
      refine VW.seq ?_
      refine VW.region ?_
      refine VR.p rfl rfl (VP.assign rfl) ?_
      refine VR.nil ?_
      obtain ⟨o, h10, h11⟩ := bnd hm
      refine VW.joinE (fun (q : Int × Int) => q = o) (fun (j : Int × Int) (gg : Unit) => [(6, .ptr b 0), (13, .int .i64 j.1), (14, .int .i64 j.2)]) (fun (j : Int × Int) (gg : Unit) => [.box b 31 (T_api_Pod.cells p)]) ?_ ?_
      · have hm := h10
        refine VW.block (VW.loop FU ?_)
        refine VL.fuelS (R := _) (fun zn (zs : Int × Int × Int) => ref11_Many.l1 r2 r3 zn zs.1 zs.2.1 zs.2.2) (fun (zs : Int × Int × Int) (zg : Option Nat) => [(6, .ptr b 0), (9, .str r2.1), (10, .bool r2.2), (11, .list 9 (List.map VV.str r3.1)), (12, .sl zg (List.map (VV.int .i64) r3.2).length cap), (13, .int .i64 zs.1), (14, .int .i64 zs.2.1), (15, .int .i64 zs.2.2)]) (fun (zs : Int × Int × Int) (zg : Option Nat) => [.row zg 3 cap (List.map (VV.int .i64) r3.2), .box b 31 (T_api_Pod.cells p)]) ((-1 : Int), (0 : Int), (0 : Int)) ob (fun zs => rfl) (Shift.pick [0, 0] rfl ⟨rfl, rfl, rfl, rfl, rfl, rfl, rfl, rfl, trivial⟩) h10 ?_
        rintro n ⟨mine2, least2, i2⟩ ob3 hm
        rw [ref11_Many.l1] at hm
        refine VW.seq ?_
        refine VW.seq ?_
        refine VW.region ?_
        refine VR.p rfl rfl (VP.move rfl) ?_
        refine VR.p rfl rfl (VP.move rfl) ?_
        refine VR.p rfl rfl (VP.lenT VV.str rfl Tryz.underlying39) ?_
        refine VR.p rfl rfl (VP.arith rfl rfl rfl) ?_
        refine VR.nil ?_
        rcases ite_or hm with ⟨h12, hm⟩ | ⟨h12, hm⟩
        · refine VW.condT rfl h12 ?_
          refine VW.skip ?_
          refine VW.seq ?_
          refine VW.block ?_
          refine VW.seq ?_
          refine VW.seq ?_
          refine VW.region ?_
          refine VR.p rfl rfl (VP.move rfl) ?_
          refine VR.p rfl rfl (VP.arith rfl rfl rfl) ?_
          refine VR.p rfl rfl (VP.move rfl) ?_
          obtain ⟨c2, h16, hm⟩ := bnd hm
          refine VR.sc 7 54 (.bool c2) (fun K' J => ?_) ?_
          · have hm := h16
            rcases ite_or hm with ⟨h13, hm⟩ | ⟨h13, hm⟩
            · refine VR.skipG rfl rfl rfl rfl h13 ?_
              refine VR.skipG rfl rfl rfl rfl h13 ?_
              refine VR.skipG rfl rfl rfl rfl h13 ?_
              refine VR.skipG rfl rfl rfl rfl h13 ?_
              refine VR.skipG rfl rfl rfl rfl h13 ?_
              refine VR.skipG rfl rfl rfl rfl h13 ?_
              refine VR.p rfl rfl (VP.pickB true rfl h13 rfl) ?_
              exact J [_, _, _, _, _, _] _ rfl (congrArg VV.bool (Option.some.inj hm))
            · have h13 := bf h13
              refine VR.pG rfl rfl rfl rfl h13 (VP.move rfl) ?_
              refine VR.pG rfl rfl rfl rfl h13 (VP.move rfl) ?_
              obtain ⟨x, h14, hm⟩ := bnd hm
              refine VR.someRow 0 rfl (gl_pos (VV.int .i64) h14) fun b2 h15 => ?_
              subst h15
              refine VR.pG rfl rfl rfl rfl h13 (VP.glR (VV.int .i64) rfl rfl el29 h14) ?_
              refine VR.pG rfl rfl rfl rfl h13 (VP.loadR (i := 0) (y := (VV.int .i64) x) rfl rfl rfl (gl_map _ (gl_some h14).2) ld3 rfl) ?_
              refine VR.pG rfl rfl rfl rfl h13 (VP.move rfl) ?_
              refine VR.pG rfl rfl rfl rfl h13 (VP.arith rfl rfl rfl) ?_
              refine VR.p rfl rfl (VP.pickB false rfl h13 rfl) ?_
              exact J [_, _, _, _, _, _] _ rfl (congrArg VV.bool (Option.some.inj hm))
          · refine VR.nil ?_
            rcases ite_or hm with ⟨h17, hm⟩ | ⟨h17, hm⟩
            · refine VW.condT rfl h17 ?_
              refine VW.region ?_
              refine VR.p rfl rfl (VP.move rfl) ?_
              refine VR.p rfl rfl (VP.move rfl) ?_
              obtain ⟨x2, h18, hm⟩ := bnd hm
              refine VR.someRow 0 rfl (gl_pos (VV.int .i64) h18) fun b3 h19 => ?_
              subst h19
              refine VR.p rfl rfl (VP.glR (VV.int .i64) rfl rfl el29 h18) ?_
              refine VR.p rfl rfl (VP.loadR (i := 0) (y := (VV.int .i64) x2) rfl rfl rfl (gl_map _ (gl_some h18).2) ld3 rfl) ?_
              refine VR.p rfl rfl (VP.assign rfl) ?_
              refine VR.nil ?_
              refine VW.seq ?_
              refine VW.region ?_
              refine VR.p rfl rfl (VP.move rfl) ?_
              refine VR.p rfl rfl (VP.move rfl) ?_
              obtain ⟨c3, h22, hm⟩ := bnd hm
              refine VR.sc 7 67 (.bool c3) (fun K' J => ?_) ?_
              · have hm := h22
                rcases ite_or hm with ⟨h20, hm⟩ | ⟨h20, hm⟩
                · refine VR.pG rfl rfl rfl rfl h20 (VP.move rfl) ?_
                  refine VR.pG rfl rfl rfl rfl h20 (VP.move rfl) ?_
                  obtain ⟨x3, h21, hm⟩ := bnd hm
                  refine VR.pG rfl rfl rfl rfl h20 (VP.glE VV.str rfl rfl el39 h21) ?_
                  refine VR.pG rfl rfl rfl rfl h20 (VP.loadE rfl ld9 rfl) ?_
                  refine VR.pG rfl rfl rfl rfl h20 (VP.move rfl) ?_
                  refine VR.pG rfl rfl rfl rfl h20 (VP.strop rfl rfl rfl) ?_
                  refine VR.p rfl rfl (VP.pickB true rfl h20 rfl) ?_
                  exact J [_, _, _, _, _, _] _ rfl (congrArg VV.bool (Option.some.inj hm))
                · have h20 := bf h20
                  refine VR.skipG rfl rfl rfl rfl h20 ?_
                  refine VR.skipG rfl rfl rfl rfl h20 ?_
                  refine VR.skipG rfl rfl rfl rfl h20 ?_
                  refine VR.skipG rfl rfl rfl rfl h20 ?_
                  refine VR.skipG rfl rfl rfl rfl h20 ?_
                  refine VR.skipG rfl rfl rfl rfl h20 ?_
                  refine VR.p rfl rfl (VP.pickB false rfl h20 rfl) ?_
                  exact J [_, _, _, _, _, _] _ rfl (congrArg VV.bool (Option.some.inj hm))
              · refine VR.nil ?_
                rcases ite_or hm with ⟨h23, hm⟩ | ⟨h23, hm⟩
                · refine VW.condT rfl h23 ?_
                  refine VW.region ?_
                  refine VR.p rfl rfl (VP.move rfl) ?_
                  refine VR.p rfl rfl (VP.move rfl) ?_
                  obtain ⟨x4, h24, hm⟩ := bnd hm
                  refine VR.p rfl rfl (VP.glR (VV.int .i64) rfl rfl el29 h24) ?_
                  refine VR.p rfl rfl (VP.loadR (i := 0) (y := (VV.int .i64) x4) rfl rfl rfl (gl_map _ (gl_some h24).2) ld3 rfl) ?_
                  refine VR.p rfl rfl (VP.assign rfl) ?_
                  refine VR.nil ?_
                  refine VW.region ?_
                  refine VR.p rfl rfl (VP.move rfl) ?_
                  refine VR.p rfl rfl (VP.arith rfl rfl rfl) ?_
                  refine VR.p rfl rfl (VP.assign rfl) ?_
                  refine VR.nil ?_
                  exact ⟨(x4, x2, (IntKind.i64.wrap (i2 + (1 : Int)))), (some b3), hm, (Shift.pick [0, 0] rfl ⟨rfl, rfl, rfl, rfl, rfl, rfl, rfl, rfl, trivial⟩)⟩
                · have h23 := bf h23
                  refine VW.condF rfl h23 ?_
                  refine VW.skip ?_
                  refine VW.region ?_
                  refine VR.p rfl rfl (VP.move rfl) ?_
                  refine VR.p rfl rfl (VP.arith rfl rfl rfl) ?_
                  refine VR.p rfl rfl (VP.assign rfl) ?_
                  refine VR.nil ?_
                  exact ⟨(mine2, x2, (IntKind.i64.wrap (i2 + (1 : Int)))), (some b3), hm, (Shift.pick [0, 0] rfl ⟨rfl, rfl, rfl, rfl, rfl, rfl, rfl, rfl, trivial⟩)⟩
            · have h17 := bf h17
              refine VW.condF rfl h17 ?_
              refine VW.skip ?_
              refine VW.seq ?_
              refine VW.region ?_
              refine VR.p rfl rfl (VP.move rfl) ?_
              refine VR.p rfl rfl (VP.move rfl) ?_
              obtain ⟨c4, h27, hm⟩ := bnd hm
              refine VR.sc 7 67 (.bool c4) (fun K' J => ?_) ?_
              · have hm := h27
                rcases ite_or hm with ⟨h25, hm⟩ | ⟨h25, hm⟩
                · refine VR.pG rfl rfl rfl rfl h25 (VP.move rfl) ?_
                  refine VR.pG rfl rfl rfl rfl h25 (VP.move rfl) ?_
                  obtain ⟨x5, h26, hm⟩ := bnd hm
                  refine VR.pG rfl rfl rfl rfl h25 (VP.glE VV.str rfl rfl el39 h26) ?_
                  refine VR.pG rfl rfl rfl rfl h25 (VP.loadE rfl ld9 rfl) ?_
                  refine VR.pG rfl rfl rfl rfl h25 (VP.move rfl) ?_
                  refine VR.pG rfl rfl rfl rfl h25 (VP.strop rfl rfl rfl) ?_
                  refine VR.p rfl rfl (VP.pickB true rfl h25 rfl) ?_
                  exact J [_, _, _, _, _, _] _ rfl (congrArg VV.bool (Option.some.inj hm))
                · have h25 := bf h25
                  refine VR.skipG rfl rfl rfl rfl h25 ?_
                  refine VR.skipG rfl rfl rfl rfl h25 ?_
                  refine VR.skipG rfl rfl rfl rfl h25 ?_
                  refine VR.skipG rfl rfl rfl rfl h25 ?_
                  refine VR.skipG rfl rfl rfl rfl h25 ?_
                  refine VR.skipG rfl rfl rfl rfl h25 ?_
                  refine VR.p rfl rfl (VP.pickB false rfl h25 rfl) ?_
                  exact J [_, _, _, _, _, _] _ rfl (congrArg VV.bool (Option.some.inj hm))
              · refine VR.nil ?_
                rcases ite_or hm with ⟨h28, hm⟩ | ⟨h28, hm⟩
                · refine VW.condT rfl h28 ?_
                  refine VW.region ?_
                  refine VR.p rfl rfl (VP.move rfl) ?_
                  refine VR.p rfl rfl (VP.move rfl) ?_
                  obtain ⟨x6, h29, hm⟩ := bnd hm
                  refine VR.someRow 0 rfl (gl_pos (VV.int .i64) h29) fun b4 h30 => ?_
                  subst h30
                  refine VR.p rfl rfl (VP.glR (VV.int .i64) rfl rfl el29 h29) ?_
                  refine VR.p rfl rfl (VP.loadR (i := 0) (y := (VV.int .i64) x6) rfl rfl rfl (gl_map _ (gl_some h29).2) ld3 rfl) ?_
                  refine VR.p rfl rfl (VP.assign rfl) ?_
                  refine VR.nil ?_
                  refine VW.region ?_
                  refine VR.p rfl rfl (VP.move rfl) ?_
                  refine VR.p rfl rfl (VP.arith rfl rfl rfl) ?_
                  refine VR.p rfl rfl (VP.assign rfl) ?_
                  refine VR.nil ?_
                  exact ⟨(x6, least2, (IntKind.i64.wrap (i2 + (1 : Int)))), (some b4), hm, (Shift.pick [0, 0] rfl ⟨rfl, rfl, rfl, rfl, rfl, rfl, rfl, rfl, trivial⟩)⟩
                · have h28 := bf h28
                  refine VW.condF rfl h28 ?_
                  refine VW.skip ?_
                  refine VW.region ?_
                  refine VR.p rfl rfl (VP.move rfl) ?_
                  refine VR.p rfl rfl (VP.arith rfl rfl rfl) ?_
                  refine VR.p rfl rfl (VP.assign rfl) ?_
                  refine VR.nil ?_
                  exact ⟨(mine2, least2, (IntKind.i64.wrap (i2 + (1 : Int)))), ob3, hm, (Shift.pick [0, 0] rfl ⟨rfl, rfl, rfl, rfl, rfl, rfl, rfl, rfl, trivial⟩)⟩
        · have h12 := bf h12
          refine VW.condF rfl h12 ?_
          refine VW.exit ?_
          exact ⟨(mine2, least2), (), Option.some.inj hm, (Shift.pick [1] rfl ⟨rfl, rfl, rfl, trivial⟩)⟩
      · rintro j _ rfl
        have hm := h11
        refine VW.seq ?_
        refine VW.seq ?_
        refine VW.region ?_
        refine VR.p rfl rfl (VP.move rfl) ?_
        refine VR.p rfl rfl (VP.arith rfl rfl rfl) ?_
        refine VR.nil ?_
        rcases ite_or hm with ⟨h31, hm⟩ | ⟨h31, hm⟩
        · refine VW.condT rfl h31 ?_
          refine VW.seq ?_
          refine VW.region ?_
          refine VR.p rfl rfl (VP.assign rfl) ?_
          refine VR.nil ?_
          obtain rfl := Option.some.inj hm
          exact VW.ret ⟨.inl rfl, _, .cons (.tmp _ _ rfl) .nil, [], _, rfl, rfl, rfl⟩
        · have h31 := bf h31
          refine VW.condF rfl h31 ?_
          refine VW.skip ?_
          refine VW.seq ?_
          refine VW.seq ?_
          refine VW.region ?_
          refine VR.p rfl rfl (VP.fieldP rfl fa31_2) ?_
          refine VR.p rfl rfl (VP.loadP (i := 0) rfl rfl ld26 rfl) ?_
          refine VR.p rfl rfl (VP.fieldP rfl fa31_9) ?_
          refine VR.p rfl rfl (VP.loadP (i := 0) rfl rfl ld26 rfl) ?_
          obtain ⟨r4, h32, hm⟩ := bnd hm
          refine VR.cons rfl rfl (VO.callK 0 rfl fn62 rfl (ref05_Has_ok p.Labels p.Spread r4 h32) fun _ _ h34 => ?_)
          obtain ⟨rfl, rfl⟩ := h34
          refine VR.nil ?_
          rcases ite_or hm with ⟨h33, hm⟩ | ⟨h33, hm⟩
          · refine VW.condT rfl h33 ?_
            refine VW.region ?_
            refine VR.p rfl rfl (VP.move rfl) ?_
            refine VR.p rfl rfl (VP.arith rfl rfl rfl) ?_
            refine VR.p rfl rfl (VP.assign rfl) ?_
            refine VR.nil ?_
            refine VW.seq ?_
            refine VW.region ?_
            refine VR.p rfl rfl (VP.move rfl) ?_
            refine VR.p rfl rfl (VP.move rfl) ?_
            refine VR.p rfl rfl (VP.arith rfl rfl rfl) ?_
            refine VR.p rfl rfl (VP.fieldP rfl fa31_10) ?_
            refine VR.p rfl rfl (VP.loadP (i := 0) rfl rfl ld3 rfl) ?_
            refine VR.p rfl rfl (VP.arith rfl rfl rfl) ?_
            refine VR.p rfl rfl (VP.assign rfl) ?_
            refine VR.nil ?_
            obtain rfl := Option.some.inj hm
            exact VW.ret ⟨.inl rfl, _, .cons (.tmp _ _ rfl) .nil, [], _, rfl, rfl, rfl⟩
          · have h33 := bf h33
            refine VW.condF rfl h33 ?_
            refine VW.skip ?_
            refine VW.seq ?_
            refine VW.region ?_
            refine VR.p rfl rfl (VP.move rfl) ?_
            refine VR.p rfl rfl (VP.move rfl) ?_
            refine VR.p rfl rfl (VP.arith rfl rfl rfl) ?_
            refine VR.p rfl rfl (VP.fieldP rfl fa31_10) ?_
            refine VR.p rfl rfl (VP.loadP (i := 0) rfl rfl ld3 rfl) ?_
            refine VR.p rfl rfl (VP.arith rfl rfl rfl) ?_
            refine VR.p rfl rfl (VP.assign rfl) ?_
            refine VR.nil ?_
            obtain rfl := Option.some.inj hm
            exact VW.ret ⟨.inl rfl, _, .cons (.tmp _ _ rfl) .nil, [], _, rfl, rfl, rfl⟩

/-! trireme/triremeref11.Why -/
def ref11_Why (ms : List T_api_Machine) (bs : List T_api_Bound) (p : T_api_Pod) (on_ : ByteArray) : Option Int :=
  (ref11_Near ms bs p on_).bind fun r =>
  if r = true then
    some (7 : Int)
  else
    (ref11_Many ms bs p on_).bind fun r2 =>
    if r2 = true then
      some (8 : Int)
    else
      some (0 : Int)
theorem ref11_Why_ok (ms : List T_api_Machine) (bs : List T_api_Bound) (p : T_api_Pod) (on_ : ByteArray) (r : Int) (hm : ref11_Why ms bs p on_ = some r) :
    VC Tryz.prog 24 [.list 37 (List.map T_api_Machine.vv ms), .list 56 (List.map T_api_Bound.vv bs), T_api_Pod.vv p, .str on_] [] (fun zx zH => zx = .int .i64 r ∧ zH = []) := by
  unfold ref11_Why at hm
  refine VC.run (c := _) (rs := [.tmp 8]) Tryz.func24 rfl rfl rfl ?_
  refine VW.seq ?_
  refine VW.region ?_
  refine VR.cons rfl rfl (VO.box rfl rfl fun b => ?_)
  refine VR.p rfl rfl (VP.assign rfl) ?_
  refine VR.nil ?_
  refine VW.seq ?_
  refine VW.seq ?_
  refine VW.region ?_
  refine VR.p rfl rfl (VP.move rfl) ?_
  refine VR.p rfl rfl (VP.move rfl) ?_
  refine VR.p rfl rfl (VP.loadP (i := 0) rfl rfl ld31 rfl) ?_
  refine VR.p rfl rfl (VP.move rfl) ?_
  obtain ⟨r, h2, hm⟩ := bnd hm
  refine VR.cons rfl rfl (VO.callK 0 rfl fn47 rfl (ref11_Near_ok ms bs p on_ r h2) fun _ _ h7 => ?_)
  obtain ⟨rfl, rfl⟩ := h7
  refine VR.nil ?_
  rcases ite_or hm with ⟨h3, hm⟩ | ⟨h3, hm⟩
  · refine VW.condT rfl h3 ?_
    refine VW.seq ?_
    refine VW.region ?_
    refine VR.p rfl rfl (VP.assign rfl) ?_
    refine VR.nil ?_
    obtain rfl := Option.some.inj hm
    exact VW.ret ⟨.inl rfl, _, .cons (.tmp _ _ rfl) .nil, [], _, rfl, rfl, rfl⟩
  · have h3 := bf h3
    refine VW.condF rfl h3 ?_
    refine VW.skip ?_
    refine VW.seq ?_
    refine VW.seq ?_
    refine VW.region ?_
    refine VR.p rfl rfl (VP.move rfl) ?_
    refine VR.p rfl rfl (VP.move rfl) ?_
    refine VR.p rfl rfl (VP.loadP (i := 0) rfl rfl ld31 rfl) ?_
    refine VR.p rfl rfl (VP.move rfl) ?_
    obtain ⟨r2, h4, hm⟩ := bnd hm
    refine VR.cons rfl rfl (VO.callK 0 rfl fn48 rfl (ref11_Many_ok ms bs p on_ r2 h4) fun _ _ h6 => ?_)
    obtain ⟨rfl, rfl⟩ := h6
    refine VR.nil ?_
    rcases ite_or hm with ⟨h5, hm⟩ | ⟨h5, hm⟩
    · refine VW.condT rfl h5 ?_
      refine VW.seq ?_
      refine VW.region ?_
      refine VR.p rfl rfl (VP.assign rfl) ?_
      refine VR.nil ?_
      obtain rfl := Option.some.inj hm
      exact VW.ret ⟨.inl rfl, _, .cons (.tmp _ _ rfl) .nil, [], _, rfl, rfl, rfl⟩
    · have h5 := bf h5
      refine VW.condF rfl h5 ?_
      refine VW.skip ?_
      refine VW.seq ?_
      refine VW.region ?_
      refine VR.p rfl rfl (VP.assign rfl) ?_
      refine VR.nil ?_
      obtain rfl := Option.some.inj hm
      exact VW.ret ⟨.inl rfl, _, .cons (.tmp _ _ rfl) .nil, [], _, rfl, rfl, rfl⟩

/-! trireme/triremeref12.Why -/
def ref12_Why (ms : List T_api_Machine) (bs : List T_api_Bound) (p : T_api_Pod) (on_ : ByteArray) : Option Int :=
  (ref09_Find ms on_).bind fun r =>
  if (decide (r < (0 : Int))) = true then
    some (1 : Int)
  else
    (V.gl ms r).bind fun x =>
    (ref10_Suits x bs p).bind fun r2 =>
    if (r2 != (0 : Int)) = true then
      some r2
    else
      (ref11_Why ms bs p on_).bind fun r3 =>
      some r3
theorem ref12_Why_ok (ms : List T_api_Machine) (bs : List T_api_Bound) (p : T_api_Pod) (on_ : ByteArray) (r : Int) (hm : ref12_Why ms bs p on_ = some r) :
    VC Tryz.prog 7 [.list 37 (List.map T_api_Machine.vv ms), .list 56 (List.map T_api_Bound.vv bs), T_api_Pod.vv p, .str on_] [] (fun zx zH => zx = .int .i64 r ∧ zH = []) := by
  unfold ref12_Why at hm
  refine VC.run (c := _) (rs := [.tmp 8]) Tryz.func7 rfl rfl rfl ?_
  refine VW.seq ?_
  refine VW.region ?_
  refine VR.cons rfl rfl (VO.box rfl rfl fun b => ?_)
  refine VR.p rfl rfl (VP.assign rfl) ?_
  refine VR.nil ?_
  refine VW.seq ?_
  refine VW.region ?_
  refine VR.p rfl rfl (VP.move rfl) ?_
  refine VR.p rfl rfl (VP.move rfl) ?_
  obtain ⟨r, h2, hm⟩ := bnd hm
  refine VR.cons rfl rfl (VO.callK 0 rfl fn22 rfl (ref09_Find_ok ms on_ r h2) fun _ _ h10 => ?_)
  obtain ⟨rfl, rfl⟩ := h10
  refine VR.p rfl rfl (VP.assign rfl) ?_
  refine VR.nil ?_
  refine VW.seq ?_
  refine VW.seq ?_
  refine VW.region ?_
  refine VR.p rfl rfl (VP.move rfl) ?_
  refine VR.p rfl rfl (VP.arith rfl rfl rfl) ?_
  refine VR.nil ?_
  rcases ite_or hm with ⟨h3, hm⟩ | ⟨h3, hm⟩
  · refine VW.condT rfl h3 ?_
    refine VW.seq ?_
    refine VW.region ?_
    refine VR.p rfl rfl (VP.assign rfl) ?_
    refine VR.nil ?_
    obtain rfl := Option.some.inj hm
    exact VW.ret ⟨.inl rfl, _, .cons (.tmp _ _ rfl) .nil, [], _, rfl, rfl, rfl⟩
  · have h3 := bf h3
    refine VW.condF rfl h3 ?_
    refine VW.skip ?_
    refine VW.seq ?_
    refine VW.drawK 0 mixed ?_
    refine VA.p 0 rfl rfl rfl (by kernel_rfl) (VP.move rfl) ?_
    refine VA.p 1 rfl rfl rfl (by kernel_rfl) (VP.move rfl) ?_
    obtain ⟨x, h4, hm⟩ := bnd hm
    refine VA.p 2 rfl rfl rfl (by kernel_rfl) (VP.glE T_api_Machine.vv rfl rfl el22 h4) ?_
    refine VA.p 3 rfl rfl rfl (by kernel_rfl) (VP.loadE rfl ld37 rfl) ?_
    refine VA.p 4 rfl rfl rfl (by kernel_rfl) (VP.move rfl) ?_
    refine VA.p 5 rfl rfl rfl (by kernel_rfl) (VP.loadP (i := 0) rfl rfl ld31 rfl) ?_
    refine VA.all [6] (by kernel_rfl) ⟨?_, trivial⟩
    obtain ⟨r2, h5, hm⟩ := bnd hm
    refine VB.o rfl rfl rfl (VO.callK 0 rfl fn23 rfl (ref10_Suits_ok x bs p r2 h5) fun _ _ h9 => ?_)
    obtain ⟨rfl, rfl⟩ := h9
    refine VA.p 7 rfl rfl rfl (by kernel_rfl) (VP.assign rfl) ?_
    refine VA.done (by kernel_rfl) ?_
    refine VW.seq ?_
    refine VW.seq ?_
    refine VW.region ?_
    refine VR.p rfl rfl (VP.move rfl) ?_
    refine VR.p rfl rfl (VP.arith rfl rfl rfl) ?_
    refine VR.nil ?_
    rcases ite_or hm with ⟨h6, hm⟩ | ⟨h6, hm⟩
    · refine VW.condT rfl h6 ?_
      refine VW.seq ?_
      refine VW.region ?_
      refine VR.p rfl rfl (VP.move rfl) ?_
      refine VR.p rfl rfl (VP.assign rfl) ?_
      refine VR.nil ?_
      obtain rfl := Option.some.inj hm
      exact VW.ret ⟨.inl rfl, _, .cons (.tmp _ _ rfl) .nil, [], _, rfl, rfl, rfl⟩
    · have h6 := bf h6
      refine VW.condF rfl h6 ?_
      refine VW.skip ?_
      refine VW.seq ?_
      refine VW.region ?_
      refine VR.p rfl rfl (VP.move rfl) ?_
      refine VR.p rfl rfl (VP.move rfl) ?_
      refine VR.p rfl rfl (VP.loadP (i := 0) rfl rfl ld31 rfl) ?_
      refine VR.p rfl rfl (VP.move rfl) ?_
      obtain ⟨r3, h7, hm⟩ := bnd hm
      refine VR.cons rfl rfl (VO.callK 0 rfl fn24 rfl (ref11_Why_ok ms bs p on_ r3 h7) fun _ _ h8 => ?_)
      obtain ⟨rfl, rfl⟩ := h8
      refine VR.p rfl rfl (VP.assign rfl) ?_
      refine VR.nil ?_
      obtain rfl := Option.some.inj hm
      exact VW.ret ⟨.inl rfl, _, .cons (.tmp _ _ rfl) .nil, [], _, rfl, rfl, rfl⟩

/-! trireme/triremeref12.Where -/
def ref12_Where.l1 (ms : List T_api_Machine) (bs : List T_api_Bound) (p : T_api_Pod) : Nat → (List ByteArray) → Int → Option (List ByteArray)
  | 0, _, _ => none
  | n + 1, out2, i2 =>
    if (decide (i2 < (ms.length : Int))) = true then
      (V.gl ms i2).bind fun x =>
      (ref12_Why ms bs p x.Name).bind fun r =>
      if (r == (0 : Int)) = true then
        (V.gl ms i2).bind fun x2 =>
        (V.ap 16 out2 [x2.Name]).bind fun out4 =>
        ref12_Where.l1 ms bs p n out4 (IntKind.i64.wrap (i2 + (1 : Int)))
      else
        ref12_Where.l1 ms bs p n out2 (IntKind.i64.wrap (i2 + (1 : Int)))
    else
      some out2
def ref12_Where (ms : List T_api_Machine) (bs : List T_api_Bound) (p : T_api_Pod) : Option (List ByteArray) :=
  (ref12_Where.l1 ms bs p FU ([] : List ByteArray) (0 : Int)).bind fun out32 =>
  some out32
theorem ref12_Where_ok (ms : List T_api_Machine) (bs : List T_api_Bound) (p : T_api_Pod) (r : List ByteArray) (hm : ref12_Where ms bs p = some r) :
    VC Tryz.prog 10 [.list 37 (List.map T_api_Machine.vv ms), .list 56 (List.map T_api_Bound.vv bs), T_api_Pod.vv p] [] (fun zx zH => ∃ (ob0 : Option Nat) (cap0 : Nat), zx = .sl ob0 (List.map VV.str r).length cap0 ∧ zH = [.row ob0 9 cap0 (List.map VV.str r)]) := by
  unfold ref12_Where at hm
  refine VC.run (c := _) (rs := [.tmp 6]) Tryz.func10 rfl rfl rfl ?_
  refine VW.seq ?_
  refine VW.region ?_
  refine VR.cons rfl rfl (VO.box rfl rfl fun b => ?_)
  refine VR.p rfl rfl (VP.assign rfl) ?_
  refine VR.nil ?_
  refine VW.seq ?_
  refine VW.region ?_
  refine VR.p rfl rfl (VP.assign rfl) ?_
  refine VR.nil ?_
  refine VW.seq ?_
  refine VW.seq ?_
  refine VW.region ?_
  refine VR.p rfl rfl (VP.assign rfl) ?_
  refine VR.nil ?_
  obtain ⟨o, h4, h5⟩ := bnd hm
  refine VW.joinE (fun (q : List ByteArray) => q = o) (fun (out32 : List ByteArray) (gg : Option Nat × Nat) => [(7, .sl gg.1 (List.map VV.str out32).length gg.2)]) (fun (out32 : List ByteArray) (gg : Option Nat × Nat) => [.row gg.1 9 gg.2 (List.map VV.str out32)]) ?_ ?_
  · have hm := h4
    refine VW.block (VW.loop FU ?_)
    refine VL.fuelS (R := _) (fun zn (zs : List ByteArray × Int) => ref12_Where.l1 ms bs p zn zs.1 zs.2) (fun (zs : List ByteArray × Int) (zg : Option Nat × Nat) => [(0, .list 37 (List.map T_api_Machine.vv ms)), (1, .list 56 (List.map T_api_Bound.vv bs)), (5, .ptr b 0), (7, .sl zg.1 (List.map VV.str zs.1).length zg.2), (8, .int .i64 zs.2)]) (fun (zs : List ByteArray × Int) (zg : Option Nat × Nat) => [.row zg.1 9 zg.2 (List.map VV.str zs.1), .box b 31 (T_api_Pod.cells p)]) (([] : List ByteArray), (0 : Int)) (none, 0) (fun zs => rfl) (Shift.trans (Shift.nilRow 9) (Shift.pick [0, 0] rfl ⟨rfl, rfl, rfl, rfl, rfl, trivial⟩)) h4 ?_
    rintro n ⟨out2, i2⟩ ⟨ob2, cap2⟩ hm
    rw [ref12_Where.l1] at hm
    refine VW.seq ?_
    refine VW.seq ?_
    refine VW.region ?_
    refine VR.p rfl rfl (VP.move rfl) ?_
    refine VR.p rfl rfl (VP.move rfl) ?_
    refine VR.p rfl rfl (VP.lenT T_api_Machine.vv rfl Tryz.underlying22) ?_
    refine VR.p rfl rfl (VP.arith rfl rfl rfl) ?_
    refine VR.nil ?_
    rcases ite_or hm with ⟨h6, hm⟩ | ⟨h6, hm⟩
    · refine VW.condT rfl h6 ?_
      refine VW.skip ?_
      refine VW.seq ?_
      refine VW.block ?_
      refine VW.seq ?_
      refine VW.drawK 0 mixed ?_
      refine VA.p 0 rfl rfl rfl (by kernel_rfl) (VP.move rfl) ?_
      refine VA.p 1 rfl rfl rfl (by kernel_rfl) (VP.move rfl) ?_
      refine VA.p 2 rfl rfl rfl (by kernel_rfl) (VP.loadP (i := 1) rfl rfl ld31 rfl) ?_
      refine VA.p 3 rfl rfl rfl (by kernel_rfl) (VP.move rfl) ?_
      refine VA.p 4 rfl rfl rfl (by kernel_rfl) (VP.move rfl) ?_
      obtain ⟨x, h7, hm⟩ := bnd hm
      refine VA.p 5 rfl rfl rfl (by kernel_rfl) (VP.glE T_api_Machine.vv rfl rfl el22 h7) ?_
      refine VA.p 6 rfl rfl rfl (by kernel_rfl) (VP.fieldE rfl fa37_0) ?_
      refine VA.p 7 rfl rfl rfl (by kernel_rfl) (VP.loadE rfl ld9 rfl) ?_
      refine VA.all [8] (by kernel_rfl) ⟨?_, trivial⟩
      obtain ⟨r, h8, hm⟩ := bnd hm
      refine VB.o rfl rfl rfl (VO.callK 0 rfl fn7 rfl (ref12_Why_ok ms bs p x.Name r h8) fun _ _ h13 => ?_)
      obtain ⟨rfl, rfl⟩ := h13
      refine VA.p 9 rfl rfl rfl (by kernel_rfl) (VP.arith rfl rfl rfl) ?_
      refine VA.done (by kernel_rfl) ?_
      rcases ite_or hm with ⟨h9, hm⟩ | ⟨h9, hm⟩
      · refine VW.condT rfl h9 ?_
        refine VW.region ?_
        refine VR.p rfl rfl (VP.move rfl) ?_
        refine VR.p rfl rfl (VP.move rfl) ?_
        refine VR.p rfl rfl (VP.move rfl) ?_
        obtain ⟨x2, h10, hm⟩ := bnd hm
        refine VR.p rfl rfl (VP.glE T_api_Machine.vv rfl rfl el22 h10) ?_
        refine VR.p rfl rfl (VP.fieldE rfl fa37_0) ?_
        refine VR.p rfl rfl (VP.loadE rfl ld9 rfl) ?_
        refine VR.cons rfl rfl (VO.buildSlice ap39 rfl rfl rfl rfl rfl fun b2 => ?_)
        obtain ⟨out4, h12, hm⟩ := bnd hm
        refine VR.cons rfl rfl (VO.apT 1 VV.str (l := out2) (l2 := [x2.Name]) ap39 rfl rfl (sT_row 0 VV.str el39 rfl rfl) h12 fun ob4 cap4 => ?_)
        refine VR.p rfl rfl (VP.assign rfl) ?_
        refine VR.nil ?_
        refine VW.region ?_
        refine VR.p rfl rfl (VP.move rfl) ?_
        refine VR.p rfl rfl (VP.arith rfl rfl rfl) ?_
        refine VR.p rfl rfl (VP.assign rfl) ?_
        refine VR.nil ?_
        exact ⟨(out4, (IntKind.i64.wrap (i2 + (1 : Int)))), (ob4, cap4), hm, (Shift.pick [1, 1] rfl ⟨rfl, rfl, rfl, rfl, rfl, trivial⟩)⟩
      · have h9 := bf h9
        refine VW.condF rfl h9 ?_
        refine VW.skip ?_
        refine VW.region ?_
        refine VR.p rfl rfl (VP.move rfl) ?_
        refine VR.p rfl rfl (VP.arith rfl rfl rfl) ?_
        refine VR.p rfl rfl (VP.assign rfl) ?_
        refine VR.nil ?_
        exact ⟨(out2, (IntKind.i64.wrap (i2 + (1 : Int)))), (ob2, cap2), hm, (Shift.pick [0, 0] rfl ⟨rfl, rfl, rfl, rfl, rfl, trivial⟩)⟩
    · have h6 := bf h6
      refine VW.condF rfl h6 ?_
      refine VW.exit ?_
      exact ⟨out2, (ob2, cap2), Option.some.inj hm, (Shift.pick [0] rfl ⟨rfl, trivial⟩)⟩
  · rintro out32 ⟨ob3, cap3⟩ rfl
    have hm := h5
    refine VW.seq ?_
    refine VW.region ?_
    refine VR.p rfl rfl (VP.move rfl) ?_
    refine VR.p rfl rfl (VP.assign rfl) ?_
    refine VR.nil ?_
    obtain rfl := Option.some.inj hm
    exact VW.ret ⟨.inl rfl, _, .cons (.tmp _ _ rfl) .nil, [0], _, rfl, ob3, cap3, rfl, rfl⟩

/-! trireme/triremeref12.Tally -/
def ref12_Tally.l1 (ms : List T_api_Machine) (bs : List T_api_Bound) (p : T_api_Pod) : Nat → Arr9_Int → Int → Option Arr9_Int
  | 0, _, _ => none
  | n + 1, out2, i2 =>
    if (decide (i2 < (ms.length : Int))) = true then
      (V.gl ms i2).bind fun x =>
      (ref12_Why ms bs p x.Name).bind fun r =>
      (V.gl (Arr9_Int.l out2) r).bind fun x2 =>
      (V.gl (Arr9_Int.l out2) r).bind fun x3 =>
      (Arr9_Int.put out2 r (IntKind.i64.wrap (x2 + (1 : Int)))).bind fun out4 =>
      ref12_Tally.l1 ms bs p n out4 (IntKind.i64.wrap (i2 + (1 : Int)))
    else
      some out2
def ref12_Tally (ms : List T_api_Machine) (bs : List T_api_Bound) (p : T_api_Pod) : Option Arr9_Int :=
  (ref12_Tally.l1 ms bs p FU (⟨(0 : Int), (0 : Int), (0 : Int), (0 : Int), (0 : Int), (0 : Int), (0 : Int), (0 : Int), (0 : Int)⟩ : Arr9_Int) (0 : Int)).bind fun out32 =>
  some out32
theorem ref12_Tally_ok (ms : List T_api_Machine) (bs : List T_api_Bound) (p : T_api_Pod) (r : Arr9_Int) (hm : ref12_Tally ms bs p = some r) :
    VC Tryz.prog 12 [.list 37 (List.map T_api_Machine.vv ms), .list 56 (List.map T_api_Bound.vv bs), T_api_Pod.vv p] [] (fun zx zH => zx = Arr9_Int.vv r ∧ zH = []) := by
  unfold ref12_Tally at hm
  refine VC.run (c := _) (rs := [.cell 6 41]) Tryz.func12 rfl rfl rfl ?_
  refine VW.seq ?_
  refine VW.region ?_
  refine VR.cons rfl rfl (VO.box rfl rfl fun b => ?_)
  refine VR.cons rfl rfl (VO.alloc z41 fun b2 => ?_)
  refine VR.nil ?_
  refine VW.seq ?_
  refine VW.region ?_
  refine VR.cons rfl rfl (VO.alloc z41 fun b3 => ?_)
  refine VR.nil ?_
  refine VW.seq ?_
  refine VW.seq ?_
  refine VW.region ?_
  refine VR.p rfl rfl (VP.assign rfl) ?_
  refine VR.nil ?_
  obtain ⟨o, h4, h5⟩ := bnd hm
  refine VW.joinE (fun (q : Arr9_Int) => q = o) (fun (out32 : Arr9_Int) (gg : Unit) => [(6, .ptr b2 0), (7, .ptr b3 0)]) (fun (out32 : Arr9_Int) (gg : Unit) => [.box b3 41 (Arr9_Int.cells out32), .box b2 41 (Arr9_Int.cells (⟨(0 : Int), (0 : Int), (0 : Int), (0 : Int), (0 : Int), (0 : Int), (0 : Int), (0 : Int), (0 : Int)⟩ : Arr9_Int))]) ?_ ?_
  · have hm := h4
    refine VW.block (VW.loop FU ?_)
    refine VL.fuelS (R := _) (fun zn (zs : Arr9_Int × Int) => ref12_Tally.l1 ms bs p zn zs.1 zs.2) (fun (zs : Arr9_Int × Int) (zg : Unit) => [(0, .list 37 (List.map T_api_Machine.vv ms)), (1, .list 56 (List.map T_api_Bound.vv bs)), (5, .ptr b 0), (6, .ptr b2 0), (7, .ptr b3 0), (8, .int .i64 zs.2)]) (fun (zs : Arr9_Int × Int) (zg : Unit) => [.box b3 41 (Arr9_Int.cells zs.1), .box b2 41 (Arr9_Int.cells (⟨(0 : Int), (0 : Int), (0 : Int), (0 : Int), (0 : Int), (0 : Int), (0 : Int), (0 : Int), (0 : Int)⟩ : Arr9_Int)), .box b 31 (T_api_Pod.cells p)]) ((⟨(0 : Int), (0 : Int), (0 : Int), (0 : Int), (0 : Int), (0 : Int), (0 : Int), (0 : Int), (0 : Int)⟩ : Arr9_Int), (0 : Int)) () (fun zs => rfl) (Shift.pick [0, 0, 0] rfl ⟨rfl, rfl, rfl, rfl, rfl, rfl, trivial⟩) h4 ?_
    rintro n ⟨out2, i2⟩ _ hm
    rw [ref12_Tally.l1] at hm
    refine VW.seq ?_
    refine VW.seq ?_
    refine VW.region ?_
    refine VR.p rfl rfl (VP.move rfl) ?_
    refine VR.p rfl rfl (VP.move rfl) ?_
    refine VR.p rfl rfl (VP.lenT T_api_Machine.vv rfl Tryz.underlying22) ?_
    refine VR.p rfl rfl (VP.arith rfl rfl rfl) ?_
    refine VR.nil ?_
    rcases ite_or hm with ⟨h6, hm⟩ | ⟨h6, hm⟩
    · refine VW.condT rfl h6 ?_
      refine VW.skip ?_
      refine VW.seq ?_
      refine VW.block ?_
      refine VW.drawK 1 mixed ?_
      refine VA.p 0 rfl rfl rfl (by kernel_rfl) (VP.move rfl) ?_
      refine VA.p 1 rfl rfl rfl (by kernel_rfl) (VP.move rfl) ?_
      refine VA.p 2 rfl rfl rfl (by kernel_rfl) (VP.loadP (i := 1) rfl rfl ld31 rfl) ?_
      refine VA.p 3 rfl rfl rfl (by kernel_rfl) (VP.move rfl) ?_
      refine VA.p 4 rfl rfl rfl (by kernel_rfl) (VP.move rfl) ?_
      obtain ⟨x, h7, hm⟩ := bnd hm
      refine VA.p 5 rfl rfl rfl (by kernel_rfl) (VP.glE T_api_Machine.vv rfl rfl el22 h7) ?_
      refine VA.p 6 rfl rfl rfl (by kernel_rfl) (VP.fieldE rfl fa37_0) ?_
      refine VA.p 7 rfl rfl rfl (by kernel_rfl) (VP.loadE rfl ld9 rfl) ?_
      refine VA.all [8] (by kernel_rfl) ⟨?_, trivial⟩
      obtain ⟨r, h8, hm⟩ := bnd hm
      refine VB.o rfl rfl rfl (VO.callK 0 rfl fn7 rfl (ref12_Why_ok ms bs p x.Name r h8) fun _ _ h12 => ?_)
      obtain ⟨rfl, rfl⟩ := h12
      obtain ⟨x2, h9, hm⟩ := bnd hm
      refine VA.p 9 rfl rfl rfl (by kernel_rfl) (VP.indexA rfl rfl ar41 (gl_pos2 h9).1 (gl_pos2 h9).2) ?_
      refine VA.all [10] (by kernel_rfl) ⟨?_, trivial⟩
      refine VB.o rfl rfl rfl (VP.vo (VP.loadA 0 (f := (VV.int .i64)) (l := Arr9_Int.l out2) rfl rfl ld3 rfl h9) ?_)
      refine VA.p 11 rfl rfl rfl (by kernel_rfl) (VP.arith rfl rfl rfl) ?_
      obtain ⟨x3, h10, hm⟩ := bnd hm
      refine VA.p 12 rfl rfl rfl (by kernel_rfl) (VP.indexA rfl rfl ar41 (gl_pos2 h10).1 (gl_pos2 h10).2) ?_
      refine VA.all [13] (by kernel_rfl) ⟨?_, trivial⟩
      obtain ⟨out4, h11, hm⟩ := bnd hm
      refine VB.o rfl rfl rfl (VO.storeA 0 (f := (VV.int .i64)) (l := Arr9_Int.l out2) rfl rfl rfl ld3 rfl rfl (Arr9_Int.put_some h11) ?_)
      refine VA.done (by kernel_rfl) ?_
      refine VW.region ?_
      refine VR.p rfl rfl (VP.move rfl) ?_
      refine VR.p rfl rfl (VP.arith rfl rfl rfl) ?_
      refine VR.p rfl rfl (VP.assign rfl) ?_
      refine VR.nil ?_
      exact ⟨(out4, (IntKind.i64.wrap (i2 + (1 : Int)))), (), hm, (Shift.pick [0, 0, 0] rfl ⟨rfl, rfl, rfl, rfl, rfl, rfl, trivial⟩)⟩
    · have h6 := bf h6
      refine VW.condF rfl h6 ?_
      refine VW.exit ?_
      exact ⟨out2, (), Option.some.inj hm, (Shift.pick [0, 0] rfl ⟨rfl, rfl, trivial⟩)⟩
  · rintro out32 _ rfl
    have hm := h5
    refine VW.seq ?_
    refine VW.region ?_
    refine VR.p rfl rfl (VP.loadP (i := 0) rfl rfl ld41 rfl) ?_
    refine VR.cons rfl rfl (VO.storeP (i := 1) rfl rfl rfl ld41 rfl rfl rfl ?_)
    refine VR.nil ?_
    obtain rfl := Option.some.inj hm
    exact VW.ret ⟨.inl rfl, _, .cons (.cell _ _ _ _ 1 _ _ _ _ rfl rfl ld41 rfl) .nil, [], _, rfl, rfl, rfl⟩

/-! trireme/triremeref12.Feasible -/
def ref12_Feasible.l1 (ms : List T_api_Machine) (bs : List T_api_Bound) : Nat → Int → Option (Out Bool Unit)
  | 0, _ => none
  | n + 1, i2 =>
    if (decide (i2 < (bs.length : Int))) = true then
      (V.gl bs i2).bind fun x =>
      (if (!(V.seq x.On (⟨#[]⟩ : ByteArray))) = true then (V.gl bs i2).bind fun x2 =>
      (V.gl bs i2).bind fun x3 =>
      (ref12_Why ms bs x2.Pod x3.On).bind fun r =>
      some (r != (0 : Int)) else some false).bind fun c =>
      if c = true then
        some (Out.ret false)
      else
        ref12_Feasible.l1 ms bs n (IntKind.i64.wrap (i2 + (1 : Int)))
    else
      some (Out.go ())
def ref12_Feasible (ms : List T_api_Machine) (bs : List T_api_Bound) : Option Bool :=
  (ref12_Feasible.l1 ms bs FU (0 : Int)).bind fun o =>
  o.on fun j =>
  some true
theorem ref12_Feasible_ok (ms : List T_api_Machine) (bs : List T_api_Bound) (r : Bool) (hm : ref12_Feasible ms bs = some r) :
    VC Tryz.prog 14 [.list 37 (List.map T_api_Machine.vv ms), .list 56 (List.map T_api_Bound.vv bs)] [] (fun zx zH => zx = .bool r ∧ zH = []) := by
  unfold ref12_Feasible at hm
  refine VC.run (c := _) (rs := [.tmp 4]) Tryz.func14 rfl rfl rfl ?_
  refine VW.seq ?_
  refine VW.region ?_
  refine VR.p rfl rfl (VP.assign rfl) ?_
  refine VR.nil ?_
  refine VW.seq ?_
  refine VW.seq ?_
  refine VW.region ?_
  refine VR.p rfl rfl (VP.assign rfl) ?_
  refine VR.nil ?_
  obtain ⟨o, h1, h2⟩ := bnd hm
  refine VW.joinE (fun (q : Unit) => o = Out.go q) (fun (j : Unit) (gg : Unit) => []) (fun (j : Unit) (gg : Unit) => []) ?_ ?_
  · have hm := h1
    refine VW.block (VW.loop FU ?_)
    refine VL.fuelS (R := _) (fun zn (zs : Int) => ref12_Feasible.l1 ms bs zn zs) (fun (zs : Int) (zg : Unit) => [(0, .list 37 (List.map T_api_Machine.vv ms)), (1, .list 56 (List.map T_api_Bound.vv bs)), (5, .int .i64 zs)]) (fun (zs : Int) (zg : Unit) => []) (0 : Int) () (fun zs => rfl) (Shift.pick [] rfl ⟨rfl, rfl, rfl, trivial⟩) h1 ?_
    rintro n i2 _ hm
    rw [ref12_Feasible.l1] at hm
    refine VW.seq ?_
    refine VW.seq ?_
    refine VW.region ?_
    refine VR.p rfl rfl (VP.move rfl) ?_
    refine VR.p rfl rfl (VP.move rfl) ?_
    refine VR.p rfl rfl (VP.lenT T_api_Bound.vv rfl Tryz.underlying23) ?_
    refine VR.p rfl rfl (VP.arith rfl rfl rfl) ?_
    refine VR.nil ?_
    rcases ite_or hm with ⟨h3, hm⟩ | ⟨h3, hm⟩
    · refine VW.condT rfl h3 ?_
      refine VW.skip ?_
      refine VW.seq ?_
      refine VW.block ?_
      refine VW.seq ?_
      refine VW.drawK 0 mixed ?_
      refine VA.p 0 rfl rfl rfl (by kernel_rfl) (VP.move rfl) ?_
      refine VA.p 1 rfl rfl rfl (by kernel_rfl) (VP.move rfl) ?_
      obtain ⟨x, h4, hm⟩ := bnd hm
      refine VA.p 2 rfl rfl rfl (by kernel_rfl) (VP.glE T_api_Bound.vv rfl rfl el23 h4) ?_
      refine VA.p 3 rfl rfl rfl (by kernel_rfl) (VP.fieldE rfl fa56_1) ?_
      refine VA.p 4 rfl rfl rfl (by kernel_rfl) (VP.loadE rfl ld9 rfl) ?_
      refine VA.p 5 rfl rfl rfl (by kernel_rfl) (VP.strop rfl rfl rfl) ?_
      refine VA.p 6 rfl rfl rfl (by kernel_rfl) (VP.move rfl) ?_
      obtain ⟨c, h10, hm⟩ := bnd hm
      refine VA.sc [21, 20, 19, 18, 17, 16, 15, 14, 13, 12, 11, 10, 9, 8, 7, 6, 5, 4, 3, 2, 1, 0] 33 (.bool c) (fun K' J => ?_) ?_
      · have hm := h10
        rcases ite_or hm with ⟨h5, hm⟩ | ⟨h5, hm⟩
        · refine VA.pG 7 rfl rfl rfl rfl rfl h5 (by kernel_rfl) (VP.move rfl) ?_
          refine VA.pG 8 rfl rfl rfl rfl rfl h5 (by kernel_rfl) (VP.move rfl) ?_
          refine VA.pG 9 rfl rfl rfl rfl rfl h5 (by kernel_rfl) (VP.move rfl) ?_
          refine VA.pG 10 rfl rfl rfl rfl rfl h5 (by kernel_rfl) (VP.move rfl) ?_
          obtain ⟨x2, h6, hm⟩ := bnd hm
          refine VA.pG 11 rfl rfl rfl rfl rfl h5 (by kernel_rfl) (VP.glE T_api_Bound.vv rfl rfl el23 h6) ?_
          refine VA.pG 12 rfl rfl rfl rfl rfl h5 (by kernel_rfl) (VP.fieldE rfl fa56_0) ?_
          refine VA.pG 13 rfl rfl rfl rfl rfl h5 (by kernel_rfl) (VP.loadE rfl ld31 rfl) ?_
          refine VA.pG 14 rfl rfl rfl rfl rfl h5 (by kernel_rfl) (VP.move rfl) ?_
          refine VA.pG 15 rfl rfl rfl rfl rfl h5 (by kernel_rfl) (VP.move rfl) ?_
          obtain ⟨x3, h7, hm⟩ := bnd hm
          refine VA.pG 16 rfl rfl rfl rfl rfl h5 (by kernel_rfl) (VP.glE T_api_Bound.vv rfl rfl el23 h7) ?_
          refine VA.pG 17 rfl rfl rfl rfl rfl h5 (by kernel_rfl) (VP.fieldE rfl fa56_1) ?_
          refine VA.pG 18 rfl rfl rfl rfl rfl h5 (by kernel_rfl) (VP.loadE rfl ld9 rfl) ?_
          refine VA.all [19] (by kernel_rfl) ⟨?_, trivial⟩
          obtain ⟨r, h8, hm⟩ := bnd hm
          refine VB.oG rfl rfl rfl rfl rfl h5 (VO.callK 0 rfl fn7 rfl (ref12_Why_ok ms bs x2.Pod x3.On r h8) fun _ _ h9 => ?_)
          obtain ⟨rfl, rfl⟩ := h9
          refine VA.pG 20 rfl rfl rfl rfl rfl h5 (by kernel_rfl) (VP.arith rfl rfl rfl) ?_
          refine VA.p 21 rfl rfl rfl (by kernel_rfl) (VP.pickB true rfl h5 rfl) ?_
          exact J [_, _, _, _, _, _, _, _, _, _, _, _, _, _] _ rfl (congrArg VV.bool (Option.some.inj hm))
        · have h5 := bf h5
          refine VA.skipG 7 rfl rfl rfl rfl rfl h5 (by kernel_rfl) ?_
          refine VA.skipG 8 rfl rfl rfl rfl rfl h5 (by kernel_rfl) ?_
          refine VA.skipG 9 rfl rfl rfl rfl rfl h5 (by kernel_rfl) ?_
          refine VA.skipG 10 rfl rfl rfl rfl rfl h5 (by kernel_rfl) ?_
          refine VA.skipG 11 rfl rfl rfl rfl rfl h5 (by kernel_rfl) ?_
          refine VA.skipG 12 rfl rfl rfl rfl rfl h5 (by kernel_rfl) ?_
          refine VA.skipG 13 rfl rfl rfl rfl rfl h5 (by kernel_rfl) ?_
          refine VA.skipG 14 rfl rfl rfl rfl rfl h5 (by kernel_rfl) ?_
          refine VA.skipG 15 rfl rfl rfl rfl rfl h5 (by kernel_rfl) ?_
          refine VA.skipG 16 rfl rfl rfl rfl rfl h5 (by kernel_rfl) ?_
          refine VA.skipG 17 rfl rfl rfl rfl rfl h5 (by kernel_rfl) ?_
          refine VA.skipG 18 rfl rfl rfl rfl rfl h5 (by kernel_rfl) ?_
          refine VA.skipG 19 rfl rfl rfl rfl rfl h5 (by kernel_rfl) ?_
          refine VA.skipG 20 rfl rfl rfl rfl rfl h5 (by kernel_rfl) ?_
          refine VA.p 21 rfl rfl rfl (by kernel_rfl) (VP.pickB false rfl h5 rfl) ?_
          exact J [_, _, _, _, _, _, _, _, _, _, _, _, _, _] _ rfl (congrArg VV.bool (Option.some.inj hm))
      · refine VA.done (by kernel_rfl) ?_
        rcases ite_or hm with ⟨h11, hm⟩ | ⟨h11, hm⟩
        · refine VW.condT rfl h11 ?_
          refine VW.seq ?_
          refine VW.region ?_
          refine VR.p rfl rfl (VP.assign rfl) ?_
          refine VR.nil ?_
          obtain rfl := Option.some.inj hm
          have hm := Out.ret_on h2
          obtain rfl := Option.some.inj hm
          exact VW.ret ⟨.inl rfl, _, .cons (.tmp _ _ rfl) .nil, [], _, rfl, rfl, rfl⟩
        · have h11 := bf h11
          refine VW.condF rfl h11 ?_
          refine VW.skip ?_
          refine VW.region ?_
          refine VR.p rfl rfl (VP.move rfl) ?_
          refine VR.p rfl rfl (VP.arith rfl rfl rfl) ?_
          refine VR.p rfl rfl (VP.assign rfl) ?_
          refine VR.nil ?_
          exact ⟨(IntKind.i64.wrap (i2 + (1 : Int))), (), hm, (Shift.pick [] rfl ⟨rfl, rfl, rfl, trivial⟩)⟩
    · have h3 := bf h3
      refine VW.condF rfl h3 ?_
      refine VW.exit ?_
      exact ⟨(), (), (Option.some.inj hm).symm, (Shift.pick [] rfl trivial)⟩
  · rintro j _ rfl
    have hm := Out.go_on h2
    refine VW.seq ?_
    refine VW.region ?_
    refine VR.p rfl rfl (VP.assign rfl) ?_
    refine VR.nil ?_
    obtain rfl := Option.some.inj hm
    exact VW.ret ⟨.inl rfl, _, .cons (.tmp _ _ rfl) .nil, [], _, rfl, rfl, rfl⟩

/-! trireme/triremelaw12.FitTells -/
def law12_FitTells.l1 (ms : List T_api_Machine) (bs : List T_api_Bound) (p : T_api_Pod) : Nat → Int → Option (Out Bool Unit)
  | 0, _ => none
  | n + 1, i2 =>
    if (decide (i2 < (ms.length : Int))) = true then
      (V.gl ms i2).bind fun x =>
      (V.gl ms i2).bind fun x2 =>
      (fit_Why ms bs p x.Name).bind fun r3 =>
      (ref12_Why ms bs p x2.Name).bind fun r4 =>
      if (r3 != r4) = true then
        some (Out.ret false)
      else
        law12_FitTells.l1 ms bs p n (IntKind.i64.wrap (i2 + (1 : Int)))
    else
      some (Out.go ())
def law12_FitTells (ms : List T_api_Machine) (bs : List T_api_Bound) (p : T_api_Pod) : Option Bool :=
  (law12_right ms bs p).bind fun r =>
  if (!r) = true then
    (law12_known).bind fun r2 =>
    some r2
  else
    (law12_FitTells.l1 ms bs p FU (0 : Int)).bind fun o =>
    o.on fun j =>
    (fit_Where ms bs p).bind fun r5 =>
    (ref12_Where ms bs p).bind fun r6 =>
    (ref09_Texts r5 r6).bind fun r7 =>
    (if r7 = true then (fit_Tally ms bs p).bind fun r8 =>
    (ref12_Tally ms bs p).bind fun r9 =>
    some (((r8.x0 == r9.x0) && ((r8.x1 == r9.x1) && ((r8.x2 == r9.x2) && ((r8.x3 == r9.x3) && ((r8.x4 == r9.x4) && ((r8.x5 == r9.x5) && ((r8.x6 == r9.x6) && ((r8.x7 == r9.x7) && ((r8.x8 == r9.x8) && true))))))))) == true) else some false).bind fun c =>
    (if c = true then (fit_Feasible ms bs).bind fun r10 =>
    (ref12_Feasible ms bs).bind fun r11 =>
    some (r10 == r11) else some false).bind fun c2 =>
    (if c2 = true then (law12_known).bind fun r12 =>
    some r12 else some false).bind fun c3 =>
    some c3
theorem law12_FitTells_ok (ms : List T_api_Machine) (bs : List T_api_Bound) (p : T_api_Pod) (r : Bool) (hm : law12_FitTells ms bs p = some r) :
    VC Tryz.prog 3 [.list 37 (List.map T_api_Machine.vv ms), .list 56 (List.map T_api_Bound.vv bs), T_api_Pod.vv p] [] (fun zx zH => zx = .bool r ∧ zH = []) := by
  unfold law12_FitTells at hm
  refine VC.run (c := _) (rs := [.tmp 6]) Tryz.func3 rfl rfl rfl ?_
  refine VW.seq ?_
  refine VW.region ?_
  refine VR.cons rfl rfl (VO.box rfl rfl fun b => ?_)
  refine VR.p rfl rfl (VP.assign rfl) ?_
  refine VR.nil ?_
  refine VW.seq ?_
  refine VW.seq ?_
  refine VW.region ?_
  refine VR.p rfl rfl (VP.move rfl) ?_
  refine VR.p rfl rfl (VP.move rfl) ?_
  refine VR.p rfl rfl (VP.loadP (i := 0) rfl rfl ld31 rfl) ?_
  obtain ⟨r, h2, hm⟩ := bnd hm
  refine VR.cons rfl rfl (VO.callK 0 rfl fn4 rfl (law12_right_ok ms bs p r h2) fun _ _ h40 => ?_)
  obtain ⟨rfl, rfl⟩ := h40
  refine VR.p rfl rfl (VP.not rfl) ?_
  refine VR.nil ?_
  rcases ite_or hm with ⟨h3, hm⟩ | ⟨h3, hm⟩
  · refine VW.condT rfl h3 ?_
    refine VW.seq ?_
    refine VW.region ?_
    obtain ⟨r2, h4, hm⟩ := bnd hm
    refine VR.cons rfl rfl (VO.callK 0 rfl fn5 rfl (law12_known_ok r2 h4) fun _ _ h5 => ?_)
    obtain ⟨rfl, rfl⟩ := h5
    refine VR.p rfl rfl (VP.assign rfl) ?_
    refine VR.nil ?_
    obtain rfl := Option.some.inj hm
    exact VW.ret ⟨.inl rfl, _, .cons (.tmp _ _ rfl) .nil, [], _, rfl, rfl, rfl⟩
  · have h3 := bf h3
    refine VW.condF rfl h3 ?_
    refine VW.skip ?_
    refine VW.seq ?_
    refine VW.seq ?_
    refine VW.region ?_
    refine VR.p rfl rfl (VP.assign rfl) ?_
    refine VR.nil ?_
    obtain ⟨o, h6, h7⟩ := bnd hm
    refine VW.joinE (fun (q : Unit) => o = Out.go q) (fun (j : Unit) (gg : Unit) => [(0, .list 37 (List.map T_api_Machine.vv ms)), (1, .list 56 (List.map T_api_Bound.vv bs)), (5, .ptr b 0)]) (fun (j : Unit) (gg : Unit) => [.box b 31 (T_api_Pod.cells p)]) ?_ ?_
    · have hm := h6
      refine VW.block (VW.loop FU ?_)
      refine VL.fuelS (R := _) (fun zn (zs : Int) => law12_FitTells.l1 ms bs p zn zs) (fun (zs : Int) (zg : Unit) => [(0, .list 37 (List.map T_api_Machine.vv ms)), (1, .list 56 (List.map T_api_Bound.vv bs)), (5, .ptr b 0), (7, .int .i64 zs)]) (fun (zs : Int) (zg : Unit) => [.box b 31 (T_api_Pod.cells p)]) (0 : Int) () (fun zs => rfl) (Shift.pick [0] rfl ⟨rfl, rfl, rfl, rfl, trivial⟩) h6 ?_
      rintro n i2 _ hm
      rw [law12_FitTells.l1] at hm
      refine VW.seq ?_
      refine VW.seq ?_
      refine VW.region ?_
      refine VR.p rfl rfl (VP.move rfl) ?_
      refine VR.p rfl rfl (VP.move rfl) ?_
      refine VR.p rfl rfl (VP.lenT T_api_Machine.vv rfl Tryz.underlying22) ?_
      refine VR.p rfl rfl (VP.arith rfl rfl rfl) ?_
      refine VR.nil ?_
      rcases ite_or hm with ⟨h8, hm⟩ | ⟨h8, hm⟩
      · refine VW.condT rfl h8 ?_
        refine VW.skip ?_
        refine VW.seq ?_
        refine VW.block ?_
        refine VW.seq ?_
        refine VW.drawK 0 mixed ?_
        refine VA.p 0 rfl rfl rfl (by kernel_rfl) (VP.move rfl) ?_
        refine VA.p 1 rfl rfl rfl (by kernel_rfl) (VP.move rfl) ?_
        refine VA.p 2 rfl rfl rfl (by kernel_rfl) (VP.loadP (i := 0) rfl rfl ld31 rfl) ?_
        refine VA.p 3 rfl rfl rfl (by kernel_rfl) (VP.move rfl) ?_
        refine VA.p 4 rfl rfl rfl (by kernel_rfl) (VP.move rfl) ?_
        obtain ⟨x, h9, hm⟩ := bnd hm
        refine VA.p 5 rfl rfl rfl (by kernel_rfl) (VP.glE T_api_Machine.vv rfl rfl el22 h9) ?_
        refine VA.p 6 rfl rfl rfl (by kernel_rfl) (VP.fieldE rfl fa37_0) ?_
        refine VA.p 7 rfl rfl rfl (by kernel_rfl) (VP.loadE rfl ld9 rfl) ?_
        refine VA.p 9 rfl rfl rfl (by kernel_rfl) (VP.move rfl) ?_
        refine VA.p 10 rfl rfl rfl (by kernel_rfl) (VP.move rfl) ?_
        refine VA.p 11 rfl rfl rfl (by kernel_rfl) (VP.loadP (i := 0) rfl rfl ld31 rfl) ?_
        refine VA.p 12 rfl rfl rfl (by kernel_rfl) (VP.move rfl) ?_
        refine VA.p 13 rfl rfl rfl (by kernel_rfl) (VP.move rfl) ?_
        obtain ⟨x2, h10, hm⟩ := bnd hm
        refine VA.p 14 rfl rfl rfl (by kernel_rfl) (VP.glE T_api_Machine.vv rfl rfl el22 h10) ?_
        refine VA.p 15 rfl rfl rfl (by kernel_rfl) (VP.fieldE rfl fa37_0) ?_
        refine VA.p 16 rfl rfl rfl (by kernel_rfl) (VP.loadE rfl ld9 rfl) ?_
        refine VA.all [8] (by kernel_rfl) ⟨?_, trivial⟩
        obtain ⟨r3, h11, hm⟩ := bnd hm
        refine VB.o rfl rfl rfl (VO.callK 0 rfl fn6 rfl (fit_Why_ok ms bs p x.Name r3 h11) fun _ _ h15 => ?_)
        obtain ⟨rfl, rfl⟩ := h15
        refine VA.all [17] (by kernel_rfl) ⟨?_, trivial⟩
        obtain ⟨r4, h12, hm⟩ := bnd hm
        refine VB.o rfl rfl rfl (VO.callK 0 rfl fn7 rfl (ref12_Why_ok ms bs p x2.Name r4 h12) fun _ _ h14 => ?_)
        obtain ⟨rfl, rfl⟩ := h14
        refine VA.p 18 rfl rfl rfl (by kernel_rfl) (VP.arith rfl rfl rfl) ?_
        refine VA.done (by kernel_rfl) ?_
        rcases ite_or hm with ⟨h13, hm⟩ | ⟨h13, hm⟩
        · refine VW.condT rfl h13 ?_
          refine VW.seq ?_
          refine VW.region ?_
          refine VR.p rfl rfl (VP.assign rfl) ?_
          refine VR.nil ?_
          obtain rfl := Option.some.inj hm
          have hm := Out.ret_on h7
          obtain rfl := Option.some.inj hm
          exact VW.ret ⟨.inl rfl, _, .cons (.tmp _ _ rfl) .nil, [], _, rfl, rfl, rfl⟩
        · have h13 := bf h13
          refine VW.condF rfl h13 ?_
          refine VW.skip ?_
          refine VW.region ?_
          refine VR.p rfl rfl (VP.move rfl) ?_
          refine VR.p rfl rfl (VP.arith rfl rfl rfl) ?_
          refine VR.p rfl rfl (VP.assign rfl) ?_
          refine VR.nil ?_
          exact ⟨(IntKind.i64.wrap (i2 + (1 : Int))), (), hm, (Shift.pick [0] rfl ⟨rfl, rfl, rfl, rfl, trivial⟩)⟩
      · have h8 := bf h8
        refine VW.condF rfl h8 ?_
        refine VW.exit ?_
        exact ⟨(), (), (Option.some.inj hm).symm, (Shift.pick [0] rfl ⟨rfl, rfl, rfl, trivial⟩)⟩
    · rintro j _ rfl
      have hm := Out.go_on h7
      refine VW.seq ?_
      refine VW.drawK 0 mixed ?_
      refine VA.p 0 rfl rfl rfl (by kernel_rfl) (VP.move rfl) ?_
      refine VA.p 1 rfl rfl rfl (by kernel_rfl) (VP.move rfl) ?_
      refine VA.p 2 rfl rfl rfl (by kernel_rfl) (VP.loadP (i := 0) rfl rfl ld31 rfl) ?_
      refine VA.p 4 rfl rfl rfl (by kernel_rfl) (VP.move rfl) ?_
      refine VA.p 5 rfl rfl rfl (by kernel_rfl) (VP.move rfl) ?_
      refine VA.p 6 rfl rfl rfl (by kernel_rfl) (VP.loadP (i := 0) rfl rfl ld31 rfl) ?_
      refine VA.all [3] (by kernel_rfl) ⟨?_, trivial⟩
      obtain ⟨r5, h16, hm⟩ := bnd hm
      refine VB.o rfl rfl rfl (VO.callK 0 rfl fn9 rfl (fit_Where_ok ms bs p r5 h16) fun _ _ h39 => ?_)
      obtain ⟨ob, cap, rfl, rfl⟩ := h39
      refine VA.shift (Shift.freezeE 0 [(42, .list 9 (List.map VV.str r5))] rfl ⟨⟨_, rfl, .here _ rfl⟩, trivial⟩ (FzH.refl _)) ?_
      refine VA.all [7] (by kernel_rfl) ⟨?_, trivial⟩
      obtain ⟨r6, h18, hm⟩ := bnd hm
      refine VB.o rfl rfl rfl (VO.callK 0 rfl fn10 rfl (ref12_Where_ok ms bs p r6 h18) fun _ _ h38 => ?_)
      obtain ⟨ob2, cap2, rfl, rfl⟩ := h38
      refine VA.shift (Shift.freezeE 0 [(46, .list 9 (List.map VV.str r6))] rfl ⟨⟨_, rfl, .here _ rfl⟩, trivial⟩ (FzH.refl _)) ?_
      refine VA.all [8] (by kernel_rfl) ⟨?_, trivial⟩
      obtain ⟨r7, h20, hm⟩ := bnd hm
      refine VB.o rfl rfl rfl (VO.callK 0 rfl fn8 rfl (ref09_Texts_ok r5 r6 r7 h20) fun _ _ h37 => ?_)
      obtain ⟨rfl, rfl⟩ := h37
      refine VA.p 9 rfl rfl rfl (by kernel_rfl) (VP.move rfl) ?_
      obtain ⟨c, h26, hm⟩ := bnd hm
      refine VA.sc [19, 18, 17, 16, 15, 14, 13, 12, 11, 10, 9, 8, 7, 3, 6, 5, 4, 2, 1, 0] 58 (.bool c) (fun K' J => ?_) ?_
      · have hm := h26
        rcases ite_or hm with ⟨h21, hm⟩ | ⟨h21, hm⟩
        · refine VA.pG 10 rfl rfl rfl rfl rfl h21 (by kernel_rfl) (VP.move rfl) ?_
          refine VA.pG 11 rfl rfl rfl rfl rfl h21 (by kernel_rfl) (VP.move rfl) ?_
          refine VA.pG 12 rfl rfl rfl rfl rfl h21 (by kernel_rfl) (VP.loadP (i := 0) rfl rfl ld31 rfl) ?_
          refine VA.pG 14 rfl rfl rfl rfl rfl h21 (by kernel_rfl) (VP.move rfl) ?_
          refine VA.pG 15 rfl rfl rfl rfl rfl h21 (by kernel_rfl) (VP.move rfl) ?_
          refine VA.pG 16 rfl rfl rfl rfl rfl h21 (by kernel_rfl) (VP.loadP (i := 0) rfl rfl ld31 rfl) ?_
          refine VA.all [13] (by kernel_rfl) ⟨?_, trivial⟩
          obtain ⟨r8, h22, hm⟩ := bnd hm
          refine VB.oG rfl rfl rfl rfl rfl h21 (VO.callK 0 rfl fn11 rfl (fit_Tally_ok ms bs p r8 h22) fun _ _ h25 => ?_)
          obtain ⟨rfl, rfl⟩ := h25
          refine VA.all [17] (by kernel_rfl) ⟨?_, trivial⟩
          obtain ⟨r9, h23, hm⟩ := bnd hm
          refine VB.oG rfl rfl rfl rfl rfl h21 (VO.callK 0 rfl fn12 rfl (ref12_Tally_ok ms bs p r9 h23) fun _ _ h24 => ?_)
          obtain ⟨rfl, rfl⟩ := h24
          refine VA.pG 18 rfl rfl rfl rfl rfl h21 (by kernel_rfl) (VP.eqA shp3 1 false 3 9 eqa41 rfl rfl rfl rfl) ?_
          refine VA.p 19 rfl rfl rfl (by kernel_rfl) (VP.pickB true rfl h21 rfl) ?_
          refine VA.reord [19, 18, 17, 16, 15, 14, 13, 12, 11, 10, 9, 8, 7, 3, 6, 5, 4, 2, 1, 0] (by kernel_rfl) rfl ?_
          exact J [_, _, _, _, _, _, _, _, _] _ rfl (congrArg VV.bool (Option.some.inj hm))
        · have h21 := bf h21
          refine VA.skipG 10 rfl rfl rfl rfl rfl h21 (by kernel_rfl) ?_
          refine VA.skipG 11 rfl rfl rfl rfl rfl h21 (by kernel_rfl) ?_
          refine VA.skipG 12 rfl rfl rfl rfl rfl h21 (by kernel_rfl) ?_
          refine VA.skipG 13 rfl rfl rfl rfl rfl h21 (by kernel_rfl) ?_
          refine VA.skipG 14 rfl rfl rfl rfl rfl h21 (by kernel_rfl) ?_
          refine VA.skipG 15 rfl rfl rfl rfl rfl h21 (by kernel_rfl) ?_
          refine VA.skipG 16 rfl rfl rfl rfl rfl h21 (by kernel_rfl) ?_
          refine VA.skipG 17 rfl rfl rfl rfl rfl h21 (by kernel_rfl) ?_
          refine VA.skipG 18 rfl rfl rfl rfl rfl h21 (by kernel_rfl) ?_
          refine VA.p 19 rfl rfl rfl (by kernel_rfl) (VP.pickB false rfl h21 rfl) ?_
          exact J [_, _, _, _, _, _, _, _, _] _ rfl (congrArg VV.bool (Option.some.inj hm))
      · refine VA.p 20 rfl rfl rfl (by kernel_rfl) (VP.move rfl) ?_
        obtain ⟨c2, h32, hm⟩ := bnd hm
        refine VA.sc [28, 27, 26, 25, 24, 23, 22, 21, 20, 19, 18, 17, 16, 15, 14, 13, 12, 11, 10, 9, 8, 7, 3, 6, 5, 4, 2, 1, 0] 67 (.bool c2) (fun K' J => ?_) ?_
        · have hm := h32
          rcases ite_or hm with ⟨h27, hm⟩ | ⟨h27, hm⟩
          · refine VA.pG 21 rfl rfl rfl rfl rfl h27 (by kernel_rfl) (VP.move rfl) ?_
            refine VA.pG 22 rfl rfl rfl rfl rfl h27 (by kernel_rfl) (VP.move rfl) ?_
            refine VA.pG 24 rfl rfl rfl rfl rfl h27 (by kernel_rfl) (VP.move rfl) ?_
            refine VA.pG 25 rfl rfl rfl rfl rfl h27 (by kernel_rfl) (VP.move rfl) ?_
            refine VA.all [23] (by kernel_rfl) ⟨?_, trivial⟩
            obtain ⟨r10, h28, hm⟩ := bnd hm
            refine VB.oG rfl rfl rfl rfl rfl h27 (VO.callK 0 rfl fn13 rfl (fit_Feasible_ok ms bs r10 h28) fun _ _ h31 => ?_)
            obtain ⟨rfl, rfl⟩ := h31
            refine VA.all [26] (by kernel_rfl) ⟨?_, trivial⟩
            obtain ⟨r11, h29, hm⟩ := bnd hm
            refine VB.oG rfl rfl rfl rfl rfl h27 (VO.callK 0 rfl fn14 rfl (ref12_Feasible_ok ms bs r11 h29) fun _ _ h30 => ?_)
            obtain ⟨rfl, rfl⟩ := h30
            refine VA.pG 27 rfl rfl rfl rfl rfl h27 (by kernel_rfl) (VP.boolop Tryz.underlying4 rfl rfl rfl) ?_
            refine VA.p 28 rfl rfl rfl (by kernel_rfl) (VP.pickB true rfl h27 rfl) ?_
            refine VA.reord [28, 27, 26, 25, 24, 23, 22, 21, 20, 19, 18, 17, 16, 15, 14, 13, 12, 11, 10, 9, 8, 7, 3, 6, 5, 4, 2, 1, 0] (by kernel_rfl) rfl ?_
            exact J [_, _, _, _, _, _, _] _ rfl (congrArg VV.bool (Option.some.inj hm))
          · have h27 := bf h27
            refine VA.skipG 21 rfl rfl rfl rfl rfl h27 (by kernel_rfl) ?_
            refine VA.skipG 22 rfl rfl rfl rfl rfl h27 (by kernel_rfl) ?_
            refine VA.skipG 23 rfl rfl rfl rfl rfl h27 (by kernel_rfl) ?_
            refine VA.skipG 24 rfl rfl rfl rfl rfl h27 (by kernel_rfl) ?_
            refine VA.skipG 25 rfl rfl rfl rfl rfl h27 (by kernel_rfl) ?_
            refine VA.skipG 26 rfl rfl rfl rfl rfl h27 (by kernel_rfl) ?_
            refine VA.skipG 27 rfl rfl rfl rfl rfl h27 (by kernel_rfl) ?_
            refine VA.p 28 rfl rfl rfl (by kernel_rfl) (VP.pickB false rfl h27 rfl) ?_
            exact J [_, _, _, _, _, _, _] _ rfl (congrArg VV.bool (Option.some.inj hm))
        · refine VA.p 29 rfl rfl rfl (by kernel_rfl) (VP.move rfl) ?_
          obtain ⟨c3, h36, hm⟩ := bnd hm
          refine VA.sc [31, 30, 29, 28, 27, 26, 25, 24, 23, 22, 21, 20, 19, 18, 17, 16, 15, 14, 13, 12, 11, 10, 9, 8, 7, 3, 6, 5, 4, 2, 1, 0] 70 (.bool c3) (fun K' J => ?_) ?_
          · have hm := h36
            rcases ite_or hm with ⟨h33, hm⟩ | ⟨h33, hm⟩
            · refine VA.all [30] (by kernel_rfl) ⟨?_, trivial⟩
              obtain ⟨r12, h34, hm⟩ := bnd hm
              refine VB.oG rfl rfl rfl rfl rfl h33 (VO.callK 0 rfl fn5 rfl (law12_known_ok r12 h34) fun _ _ h35 => ?_)
              obtain ⟨rfl, rfl⟩ := h35
              refine VA.p 31 rfl rfl rfl (by kernel_rfl) (VP.pickB true rfl h33 rfl) ?_
              exact J [_] _ rfl (congrArg VV.bool (Option.some.inj hm))
            · have h33 := bf h33
              refine VA.skipG 30 rfl rfl rfl rfl rfl h33 (by kernel_rfl) ?_
              refine VA.p 31 rfl rfl rfl (by kernel_rfl) (VP.pickB false rfl h33 rfl) ?_
              exact J [_] _ rfl (congrArg VV.bool (Option.some.inj hm))
          · refine VA.p 32 rfl rfl rfl (by kernel_rfl) (VP.assign rfl) ?_
            refine VA.done (by kernel_rfl) ?_
            obtain rfl := Option.some.inj hm
            exact VW.ret ⟨.inl rfl, _, .cons (.tmp _ _ rfl) .nil, [], _, rfl, rfl, rfl⟩

end Go.Proofs.YtcblmlkpcplkfaaGreat.M

/-
  Printed by a program of this session out of the loaded functions: models and their proofs. Own text.
-/
import Derived.Test.YtcblmlkpcplkfaaR2T
namespace Go.Proofs.Ytcblmlkpcplkfaa.M
open Go Go.Proofs Go.Proofs.Ytcblmlkpcplkfaa.V
set_option linter.unusedVariables false
set_option maxRecDepth 20000
set_option maxHeartbeats 4000000
/-! trireme/triremeref05.Light -/
def ref05_Light.l1 (l : List T_api_Label) : Nat → Int → Option (Out Bool Unit)
  | 0, _ => none
  | n + 1, i2 =>
    if (decide (i2 < (l.length : Int))) = true then
      (V.gl l i2).bind fun x =>
      (if (decide ((x.Key.size : Int) > (300 : Int))) = true then some true else (V.gl l i2).bind fun x2 =>
      some (decide ((x2.Val.size : Int) > (300 : Int)))).bind fun c =>
      if c = true then
        some (Out.ret false)
      else
        ref05_Light.l1 l n (IntKind.i64.wrap (i2 + (1 : Int)))
    else
      some (Out.go ())
def ref05_Light (l : List T_api_Label) : Option Bool :=
  if (decide ((l.length : Int) > (40 : Int))) = true then
    some false
  else
    (ref05_Light.l1 l FU (0 : Int)).bind fun o =>
    o.on fun j =>
    some true
theorem ref05_Light_ok (l : List T_api_Label) (r : Bool) (hm : ref05_Light l = some r) :
    VC Try.prog 42 [.list 79 (List.map T_api_Label.vv l)] [] (fun zx zH => zx = .bool r ∧ zH = []) := by
  unfold ref05_Light at hm
  refine VC.run (c := _) (rs := [.tmp 2]) Try.func42 rfl rfl rfl ?_
  refine VW.seq ?_
  refine VW.region ?_
  refine VR.p rfl rfl (VP.assign rfl) ?_
  refine VR.nil ?_
  refine VW.seq ?_
  refine VW.seq ?_
  refine VW.region ?_
  refine VR.p rfl rfl (VP.move rfl) ?_
  refine VR.p rfl rfl (VP.lenT T_api_Label.vv rfl Try.underlying24) ?_
  refine VR.p rfl rfl (VP.arith rfl rfl rfl) ?_
  refine VR.nil ?_
  rcases ite_or hm with ⟨h1, hm⟩ | ⟨h1, hm⟩
  · refine VW.condT rfl h1 ?_
    refine VW.seq ?_
    refine VW.region ?_
    refine VR.p rfl rfl (VP.assign rfl) ?_
    refine VR.nil ?_
    obtain rfl := Option.some.inj hm
    exact VW.ret ⟨.inl rfl, _, .cons (.tmp _ _ rfl) .nil, [], _, rfl, rfl, rfl⟩
  · have h1 := bf h1
    refine VW.condF rfl h1 ?_
    refine VW.skip ?_
    refine VW.seq ?_
    refine VW.seq ?_
    refine VW.region ?_
    refine VR.p rfl rfl (VP.assign rfl) ?_
    refine VR.nil ?_
    obtain ⟨o, h2, h3⟩ := bnd hm
    refine VW.joinE (fun (q : Unit) => o = Out.go q) (fun (j : Unit) (gg : Unit) => []) (fun (j : Unit) (gg : Unit) => []) ?_ ?_
    · have hm := h2
      refine VW.block (VW.loop FU ?_)
      refine VL.fuelS (R := _) (fun zn (zs : Int) => ref05_Light.l1 l zn zs) (fun (zs : Int) (zg : Unit) => [(0, .list 79 (List.map T_api_Label.vv l)), (3, .int .i64 zs)]) (fun (zs : Int) (zg : Unit) => []) (0 : Int) () (fun zs => rfl) (Shift.pick [] rfl ⟨rfl, rfl, trivial⟩) h2 ?_
      rintro n i2 _ hm
      rw [ref05_Light.l1] at hm
      refine VW.seq ?_
      refine VW.seq ?_
      refine VW.region ?_
      refine VR.p rfl rfl (VP.move rfl) ?_
      refine VR.p rfl rfl (VP.move rfl) ?_
      refine VR.p rfl rfl (VP.lenT T_api_Label.vv rfl Try.underlying24) ?_
      refine VR.p rfl rfl (VP.arith rfl rfl rfl) ?_
      refine VR.nil ?_
      rcases ite_or hm with ⟨h4, hm⟩ | ⟨h4, hm⟩
      · refine VW.condT rfl h4 ?_
        refine VW.skip ?_
        refine VW.seq ?_
        refine VW.block ?_
        refine VW.seq ?_
        refine VW.region ?_
        refine VR.p rfl rfl (VP.move rfl) ?_
        refine VR.p rfl rfl (VP.move rfl) ?_
        obtain ⟨x, h5, hm⟩ := bnd hm
        refine VR.p rfl rfl (VP.glE T_api_Label.vv rfl rfl el24 h5) ?_
        refine VR.p rfl rfl (VP.fieldE rfl fa79_0) ?_
        refine VR.p rfl rfl (VP.loadE rfl ld9 rfl) ?_
        refine VR.p rfl rfl (VP.lenS rfl Try.underlying9) ?_
        refine VR.p rfl rfl (VP.arith rfl rfl rfl) ?_
        refine VR.p rfl rfl (VP.move rfl) ?_
        obtain ⟨c, h8, hm⟩ := bnd hm
        refine VR.sc 8 28 (.bool c) (fun K' J => ?_) ?_
        · have hm := h8
          rcases ite_or hm with ⟨h6, hm⟩ | ⟨h6, hm⟩
          · refine VR.skipG rfl rfl rfl rfl h6 ?_
            refine VR.skipG rfl rfl rfl rfl h6 ?_
            refine VR.skipG rfl rfl rfl rfl h6 ?_
            refine VR.skipG rfl rfl rfl rfl h6 ?_
            refine VR.skipG rfl rfl rfl rfl h6 ?_
            refine VR.skipG rfl rfl rfl rfl h6 ?_
            refine VR.skipG rfl rfl rfl rfl h6 ?_
            refine VR.p rfl rfl (VP.pickB true rfl h6 rfl) ?_
            exact J [_, _, _, _, _, _, _] _ rfl (congrArg VV.bool (Option.some.inj hm))
          · have h6 := bf h6
            refine VR.pG rfl rfl rfl rfl h6 (VP.move rfl) ?_
            refine VR.pG rfl rfl rfl rfl h6 (VP.move rfl) ?_
            obtain ⟨x2, h7, hm⟩ := bnd hm
            refine VR.pG rfl rfl rfl rfl h6 (VP.glE T_api_Label.vv rfl rfl el24 h7) ?_
            refine VR.pG rfl rfl rfl rfl h6 (VP.fieldE rfl fa79_1) ?_
            refine VR.pG rfl rfl rfl rfl h6 (VP.loadE rfl ld9 rfl) ?_
            refine VR.pG rfl rfl rfl rfl h6 (VP.lenS rfl Try.underlying9) ?_
            refine VR.pG rfl rfl rfl rfl h6 (VP.arith rfl rfl rfl) ?_
            refine VR.p rfl rfl (VP.pickB false rfl h6 rfl) ?_
            exact J [_, _, _, _, _, _, _] _ rfl (congrArg VV.bool (Option.some.inj hm))
        · refine VR.nil ?_
          rcases ite_or hm with ⟨h9, hm⟩ | ⟨h9, hm⟩
          · refine VW.condT rfl h9 ?_
            refine VW.seq ?_
            refine VW.region ?_
            refine VR.p rfl rfl (VP.assign rfl) ?_
            refine VR.nil ?_
            obtain rfl := Option.some.inj hm
            have hm := Out.ret_on h3
            obtain rfl := Option.some.inj hm
            exact VW.ret ⟨.inl rfl, _, .cons (.tmp _ _ rfl) .nil, [], _, rfl, rfl, rfl⟩
          · have h9 := bf h9
            refine VW.condF rfl h9 ?_
            refine VW.skip ?_
            refine VW.region ?_
            refine VR.p rfl rfl (VP.move rfl) ?_
            refine VR.p rfl rfl (VP.arith rfl rfl rfl) ?_
            refine VR.p rfl rfl (VP.assign rfl) ?_
            refine VR.nil ?_
            exact ⟨(IntKind.i64.wrap (i2 + (1 : Int))), (), hm, (Shift.pick [] rfl ⟨rfl, rfl, trivial⟩)⟩
      · have h4 := bf h4
        refine VW.condF rfl h4 ?_
        refine VW.exit ?_
        exact ⟨(), (), (Option.some.inj hm).symm, (Shift.pick [] rfl trivial)⟩
    · rintro j _ rfl
      have hm := Out.go_on h3
      refine VW.seq ?_
      refine VW.region ?_
      refine VR.p rfl rfl (VP.assign rfl) ?_
      refine VR.nil ?_
      obtain rfl := Option.some.inj hm
      exact VW.ret ⟨.inl rfl, _, .cons (.tmp _ _ rfl) .nil, [], _, rfl, rfl, rfl⟩

/-! trireme/triremeref06.Light -/
def ref06_Light.l1 (l : List T_api_Toleration) : Nat → Int → Option (Out Bool Unit)
  | 0, _ => none
  | n + 1, i2 =>
    if (decide (i2 < (l.length : Int))) = true then
      (V.gl l i2).bind fun x =>
      (if (decide ((x.Key.size : Int) > (300 : Int))) = true then some true else (V.gl l i2).bind fun x2 =>
      some (decide ((x2.Val.size : Int) > (300 : Int)))).bind fun c =>
      if c = true then
        some (Out.ret false)
      else
        ref06_Light.l1 l n (IntKind.i64.wrap (i2 + (1 : Int)))
    else
      some (Out.go ())
def ref06_Light.l2 (taints : List T_api_Taint) : Nat → Int → Option (Out Bool Unit)
  | 0, _ => none
  | n2 + 1, i4 =>
    if (decide (i4 < (taints.length : Int))) = true then
      (V.gl taints i4).bind fun x3 =>
      (if (decide ((x3.Key.size : Int) > (300 : Int))) = true then some true else (V.gl taints i4).bind fun x4 =>
      some (decide ((x4.Val.size : Int) > (300 : Int)))).bind fun c2 =>
      if c2 = true then
        some (Out.ret false)
      else
        ref06_Light.l2 taints n2 (IntKind.i64.wrap (i4 + (1 : Int)))
    else
      some (Out.go ())
def ref06_Light (l : List T_api_Toleration) (taints : List T_api_Taint) : Option Bool :=
  if ((decide ((l.length : Int) > (40 : Int))) || (decide ((taints.length : Int) > (40 : Int)))) = true then
    some false
  else
    (ref06_Light.l1 l FU (0 : Int)).bind fun o =>
    o.on fun j =>
    (ref06_Light.l2 taints FU (0 : Int)).bind fun o2 =>
    o2.on fun j2 =>
    some true
theorem ref06_Light_ok (l : List T_api_Toleration) (taints : List T_api_Taint) (r : Bool) (hm : ref06_Light l taints = some r) :
    VC Try.prog 43 [.list 55 (List.map T_api_Toleration.vv l), .list 97 (List.map T_api_Taint.vv taints)] [] (fun zx zH => zx = .bool r ∧ zH = []) := by
  unfold ref06_Light at hm
  refine VC.run (c := _) (rs := [.tmp 4]) Try.func43 rfl rfl rfl ?_
  refine VW.seq ?_
  refine VW.region ?_
  refine VR.p rfl rfl (VP.assign rfl) ?_
  refine VR.nil ?_
  refine VW.seq ?_
  refine VW.seq ?_
  refine VW.region ?_
  refine VR.p rfl rfl (VP.move rfl) ?_
  refine VR.p rfl rfl (VP.lenT T_api_Toleration.vv rfl Try.underlying30) ?_
  refine VR.p rfl rfl (VP.arith rfl rfl rfl) ?_
  refine VR.p rfl rfl (VP.move rfl) ?_
  refine VR.sc 4 14 (.bool ((decide ((l.length : Int) > (40 : Int))) || (decide ((taints.length : Int) > (40 : Int))))) (fun K' J => ?_) ?_
  · rcases Bool.eq_false_or_eq_true (decide ((l.length : Int) > (40 : Int))) with h1 | h1
    · refine VR.skipG rfl rfl rfl rfl h1 ?_
      refine VR.skipG rfl rfl rfl rfl h1 ?_
      refine VR.skipG rfl rfl rfl rfl h1 ?_
      refine VR.p rfl rfl (VP.pickB true rfl h1 rfl) ?_
      exact J [_, _, _] _ rfl (orT h1)
    · refine VR.pG rfl rfl rfl rfl h1 (VP.move rfl) ?_
      refine VR.pG rfl rfl rfl rfl h1 (VP.lenT T_api_Taint.vv rfl Try.underlying25) ?_
      refine VR.pG rfl rfl rfl rfl h1 (VP.arith rfl rfl rfl) ?_
      refine VR.p rfl rfl (VP.pickB false rfl h1 rfl) ?_
      exact J [_, _, _] _ rfl (orF h1)
  · refine VR.nil ?_
    rcases ite_or hm with ⟨h2, hm⟩ | ⟨h2, hm⟩
    · refine VW.condT rfl h2 ?_
      refine VW.seq ?_
      refine VW.region ?_
      refine VR.p rfl rfl (VP.assign rfl) ?_
      refine VR.nil ?_
      obtain rfl := Option.some.inj hm
      exact VW.ret ⟨.inl rfl, _, .cons (.tmp _ _ rfl) .nil, [], _, rfl, rfl, rfl⟩
    · have h2 := bf h2
      refine VW.condF rfl h2 ?_
      refine VW.skip ?_
      refine VW.seq ?_
      refine VW.seq ?_
      refine VW.region ?_
      refine VR.p rfl rfl (VP.assign rfl) ?_
      refine VR.nil ?_
      obtain ⟨o, h3, h4⟩ := bnd hm
      refine VW.joinE (fun (q : Unit) => o = Out.go q) (fun (j : Unit) (gg : Unit) => [(1, .list 97 (List.map T_api_Taint.vv taints))]) (fun (j : Unit) (gg : Unit) => []) ?_ ?_
      · have hm := h3
        refine VW.block (VW.loop FU ?_)
        refine VL.fuelS (R := _) (fun zn (zs : Int) => ref06_Light.l1 l zn zs) (fun (zs : Int) (zg : Unit) => [(0, .list 55 (List.map T_api_Toleration.vv l)), (1, .list 97 (List.map T_api_Taint.vv taints)), (5, .int .i64 zs)]) (fun (zs : Int) (zg : Unit) => []) (0 : Int) () (fun zs => rfl) (Shift.pick [] rfl ⟨rfl, rfl, rfl, trivial⟩) h3 ?_
        rintro n i2 _ hm
        rw [ref06_Light.l1] at hm
        refine VW.seq ?_
        refine VW.seq ?_
        refine VW.region ?_
        refine VR.p rfl rfl (VP.move rfl) ?_
        refine VR.p rfl rfl (VP.move rfl) ?_
        refine VR.p rfl rfl (VP.lenT T_api_Toleration.vv rfl Try.underlying30) ?_
        refine VR.p rfl rfl (VP.arith rfl rfl rfl) ?_
        refine VR.nil ?_
        rcases ite_or hm with ⟨h5, hm⟩ | ⟨h5, hm⟩
        · refine VW.condT rfl h5 ?_
          refine VW.skip ?_
          refine VW.seq ?_
          refine VW.block ?_
          refine VW.seq ?_
          refine VW.region ?_
          refine VR.p rfl rfl (VP.move rfl) ?_
          refine VR.p rfl rfl (VP.move rfl) ?_
          obtain ⟨x, h6, hm⟩ := bnd hm
          refine VR.p rfl rfl (VP.glE T_api_Toleration.vv rfl rfl el30 h6) ?_
          refine VR.p rfl rfl (VP.fieldE rfl fa55_0) ?_
          refine VR.p rfl rfl (VP.loadE rfl ld9 rfl) ?_
          refine VR.p rfl rfl (VP.lenS rfl Try.underlying9) ?_
          refine VR.p rfl rfl (VP.arith rfl rfl rfl) ?_
          refine VR.p rfl rfl (VP.move rfl) ?_
          obtain ⟨c, h9, hm⟩ := bnd hm
          refine VR.sc 8 36 (.bool c) (fun K' J => ?_) ?_
          · have hm := h9
            rcases ite_or hm with ⟨h7, hm⟩ | ⟨h7, hm⟩
            · refine VR.skipG rfl rfl rfl rfl h7 ?_
              refine VR.skipG rfl rfl rfl rfl h7 ?_
              refine VR.skipG rfl rfl rfl rfl h7 ?_
              refine VR.skipG rfl rfl rfl rfl h7 ?_
              refine VR.skipG rfl rfl rfl rfl h7 ?_
              refine VR.skipG rfl rfl rfl rfl h7 ?_
              refine VR.skipG rfl rfl rfl rfl h7 ?_
              refine VR.p rfl rfl (VP.pickB true rfl h7 rfl) ?_
              exact J [_, _, _, _, _, _, _] _ rfl (congrArg VV.bool (Option.some.inj hm))
            · have h7 := bf h7
              refine VR.pG rfl rfl rfl rfl h7 (VP.move rfl) ?_
              refine VR.pG rfl rfl rfl rfl h7 (VP.move rfl) ?_
              obtain ⟨x2, h8, hm⟩ := bnd hm
              refine VR.pG rfl rfl rfl rfl h7 (VP.glE T_api_Toleration.vv rfl rfl el30 h8) ?_
              refine VR.pG rfl rfl rfl rfl h7 (VP.fieldE rfl fa55_1) ?_
              refine VR.pG rfl rfl rfl rfl h7 (VP.loadE rfl ld9 rfl) ?_
              refine VR.pG rfl rfl rfl rfl h7 (VP.lenS rfl Try.underlying9) ?_
              refine VR.pG rfl rfl rfl rfl h7 (VP.arith rfl rfl rfl) ?_
              refine VR.p rfl rfl (VP.pickB false rfl h7 rfl) ?_
              exact J [_, _, _, _, _, _, _] _ rfl (congrArg VV.bool (Option.some.inj hm))
          · refine VR.nil ?_
            rcases ite_or hm with ⟨h10, hm⟩ | ⟨h10, hm⟩
            · refine VW.condT rfl h10 ?_
              refine VW.seq ?_
              refine VW.region ?_
              refine VR.p rfl rfl (VP.assign rfl) ?_
              refine VR.nil ?_
              obtain rfl := Option.some.inj hm
              have hm := Out.ret_on h4
              obtain rfl := Option.some.inj hm
              exact VW.ret ⟨.inl rfl, _, .cons (.tmp _ _ rfl) .nil, [], _, rfl, rfl, rfl⟩
            · have h10 := bf h10
              refine VW.condF rfl h10 ?_
              refine VW.skip ?_
              refine VW.region ?_
              refine VR.p rfl rfl (VP.move rfl) ?_
              refine VR.p rfl rfl (VP.arith rfl rfl rfl) ?_
              refine VR.p rfl rfl (VP.assign rfl) ?_
              refine VR.nil ?_
              exact ⟨(IntKind.i64.wrap (i2 + (1 : Int))), (), hm, (Shift.pick [] rfl ⟨rfl, rfl, rfl, trivial⟩)⟩
        · have h5 := bf h5
          refine VW.condF rfl h5 ?_
          refine VW.exit ?_
          exact ⟨(), (), (Option.some.inj hm).symm, (Shift.pick [] rfl ⟨rfl, trivial⟩)⟩
      · rintro j _ rfl
        have hm := Out.go_on h4
        refine VW.seq ?_
        refine VW.seq ?_
        refine VW.region ?_
        refine VR.p rfl rfl (VP.assign rfl) ?_
        refine VR.nil ?_
        obtain ⟨o2, h11, h12⟩ := bnd hm
        refine VW.joinE (fun (q : Unit) => o2 = Out.go q) (fun (j2 : Unit) (gg : Unit) => []) (fun (j2 : Unit) (gg : Unit) => []) ?_ ?_
        · have hm := h11
          refine VW.block (VW.loop FU ?_)
          refine VL.fuelS (R := _) (fun zn (zs : Int) => ref06_Light.l2 taints zn zs) (fun (zs : Int) (zg : Unit) => [(1, .list 97 (List.map T_api_Taint.vv taints)), (6, .int .i64 zs)]) (fun (zs : Int) (zg : Unit) => []) (0 : Int) () (fun zs => rfl) (Shift.pick [] rfl ⟨rfl, rfl, trivial⟩) h11 ?_
          rintro n2 i4 _ hm
          rw [ref06_Light.l2] at hm
          refine VW.seq ?_
          refine VW.seq ?_
          refine VW.region ?_
          refine VR.p rfl rfl (VP.move rfl) ?_
          refine VR.p rfl rfl (VP.move rfl) ?_
          refine VR.p rfl rfl (VP.lenT T_api_Taint.vv rfl Try.underlying25) ?_
          refine VR.p rfl rfl (VP.arith rfl rfl rfl) ?_
          refine VR.nil ?_
          rcases ite_or hm with ⟨h13, hm⟩ | ⟨h13, hm⟩
          · refine VW.condT rfl h13 ?_
            refine VW.skip ?_
            refine VW.seq ?_
            refine VW.block ?_
            refine VW.seq ?_
            refine VW.region ?_
            refine VR.p rfl rfl (VP.move rfl) ?_
            refine VR.p rfl rfl (VP.move rfl) ?_
            obtain ⟨x3, h14, hm⟩ := bnd hm
            refine VR.p rfl rfl (VP.glE T_api_Taint.vv rfl rfl el25 h14) ?_
            refine VR.p rfl rfl (VP.fieldE rfl fa97_0) ?_
            refine VR.p rfl rfl (VP.loadE rfl ld9 rfl) ?_
            refine VR.p rfl rfl (VP.lenS rfl Try.underlying9) ?_
            refine VR.p rfl rfl (VP.arith rfl rfl rfl) ?_
            refine VR.p rfl rfl (VP.move rfl) ?_
            obtain ⟨c2, h17, hm⟩ := bnd hm
            refine VR.sc 8 58 (.bool c2) (fun K' J => ?_) ?_
            · have hm := h17
              rcases ite_or hm with ⟨h15, hm⟩ | ⟨h15, hm⟩
              · refine VR.skipG rfl rfl rfl rfl h15 ?_
                refine VR.skipG rfl rfl rfl rfl h15 ?_
                refine VR.skipG rfl rfl rfl rfl h15 ?_
                refine VR.skipG rfl rfl rfl rfl h15 ?_
                refine VR.skipG rfl rfl rfl rfl h15 ?_
                refine VR.skipG rfl rfl rfl rfl h15 ?_
                refine VR.skipG rfl rfl rfl rfl h15 ?_
                refine VR.p rfl rfl (VP.pickB true rfl h15 rfl) ?_
                exact J [_, _, _, _, _, _, _] _ rfl (congrArg VV.bool (Option.some.inj hm))
              · have h15 := bf h15
                refine VR.pG rfl rfl rfl rfl h15 (VP.move rfl) ?_
                refine VR.pG rfl rfl rfl rfl h15 (VP.move rfl) ?_
                obtain ⟨x4, h16, hm⟩ := bnd hm
                refine VR.pG rfl rfl rfl rfl h15 (VP.glE T_api_Taint.vv rfl rfl el25 h16) ?_
                refine VR.pG rfl rfl rfl rfl h15 (VP.fieldE rfl fa97_1) ?_
                refine VR.pG rfl rfl rfl rfl h15 (VP.loadE rfl ld9 rfl) ?_
                refine VR.pG rfl rfl rfl rfl h15 (VP.lenS rfl Try.underlying9) ?_
                refine VR.pG rfl rfl rfl rfl h15 (VP.arith rfl rfl rfl) ?_
                refine VR.p rfl rfl (VP.pickB false rfl h15 rfl) ?_
                exact J [_, _, _, _, _, _, _] _ rfl (congrArg VV.bool (Option.some.inj hm))
            · refine VR.nil ?_
              rcases ite_or hm with ⟨h18, hm⟩ | ⟨h18, hm⟩
              · refine VW.condT rfl h18 ?_
                refine VW.seq ?_
                refine VW.region ?_
                refine VR.p rfl rfl (VP.assign rfl) ?_
                refine VR.nil ?_
                obtain rfl := Option.some.inj hm
                have hm := Out.ret_on h12
                obtain rfl := Option.some.inj hm
                exact VW.ret ⟨.inl rfl, _, .cons (.tmp _ _ rfl) .nil, [], _, rfl, rfl, rfl⟩
              · have h18 := bf h18
                refine VW.condF rfl h18 ?_
                refine VW.skip ?_
                refine VW.region ?_
                refine VR.p rfl rfl (VP.move rfl) ?_
                refine VR.p rfl rfl (VP.arith rfl rfl rfl) ?_
                refine VR.p rfl rfl (VP.assign rfl) ?_
                refine VR.nil ?_
                exact ⟨(IntKind.i64.wrap (i4 + (1 : Int))), (), hm, (Shift.pick [] rfl ⟨rfl, rfl, trivial⟩)⟩
          · have h13 := bf h13
            refine VW.condF rfl h13 ?_
            refine VW.exit ?_
            exact ⟨(), (), (Option.some.inj hm).symm, (Shift.pick [] rfl trivial)⟩
        · rintro j2 _ rfl
          have hm := Out.go_on h12
          refine VW.seq ?_
          refine VW.region ?_
          refine VR.p rfl rfl (VP.assign rfl) ?_
          refine VR.nil ?_
          obtain rfl := Option.some.inj hm
          exact VW.ret ⟨.inl rfl, _, .cons (.tmp _ _ rfl) .nil, [], _, rfl, rfl, rfl⟩

/-! trireme/triremeref07.LightMachine -/
def ref07_LightMachine (m : T_api_Machine) : Option Bool :=
  (if ((decide ((m.Name.size : Int) ≤ (300 : Int))) && (decide ((m.Group.size : Int) ≤ (300 : Int)))) = true then (ref05_Light m.Labels).bind fun r =>
  some r else some false).bind fun c =>
  (if c = true then (ref06_Light ([] : List T_api_Toleration) m.Taints).bind fun r2 =>
  some r2 else some false).bind fun c2 =>
  some c2
theorem ref07_LightMachine_ok (m : T_api_Machine) (r : Bool) (hm : ref07_LightMachine m = some r) :
    VC Try.prog 41 [T_api_Machine.vv m] [] (fun zx zH => zx = .bool r ∧ zH = []) := by
  unfold ref07_LightMachine at hm
  refine VC.run (c := _) (rs := [.tmp 2]) Try.func41 rfl rfl rfl ?_
  refine VW.seq ?_
  refine VW.region ?_
  refine VR.cons rfl rfl (VO.box rfl rfl fun b => ?_)
  refine VR.p rfl rfl (VP.assign rfl) ?_
  refine VR.nil ?_
  refine VW.seq ?_
  refine VW.region ?_
  refine VR.p rfl rfl (VP.fieldP rfl fa27_0) ?_
  refine VR.p rfl rfl (VP.loadP (i := 0) rfl rfl ld9 rfl) ?_
  refine VR.p rfl rfl (VP.lenS rfl Try.underlying9) ?_
  refine VR.p rfl rfl (VP.arith rfl rfl rfl) ?_
  refine VR.p rfl rfl (VP.move rfl) ?_
  refine VR.sc 5 12 (.bool ((decide ((m.Name.size : Int) ≤ (300 : Int))) && (decide ((m.Group.size : Int) ≤ (300 : Int))))) (fun K' J => ?_) ?_
  · rcases Bool.eq_false_or_eq_true (decide ((m.Name.size : Int) ≤ (300 : Int))) with h2 | h2
    · refine VR.pG rfl rfl rfl rfl h2 (VP.fieldP rfl fa27_1) ?_
      refine VR.pG rfl rfl rfl rfl h2 (VP.loadP (i := 0) rfl rfl ld9 rfl) ?_
      refine VR.pG rfl rfl rfl rfl h2 (VP.lenS rfl Try.underlying9) ?_
      refine VR.pG rfl rfl rfl rfl h2 (VP.arith rfl rfl rfl) ?_
      refine VR.p rfl rfl (VP.pickB true rfl h2 rfl) ?_
      exact J [_, _, _, _] _ rfl (andT h2)
    · refine VR.skipG rfl rfl rfl rfl h2 ?_
      refine VR.skipG rfl rfl rfl rfl h2 ?_
      refine VR.skipG rfl rfl rfl rfl h2 ?_
      refine VR.skipG rfl rfl rfl rfl h2 ?_
      refine VR.p rfl rfl (VP.pickB false rfl h2 rfl) ?_
      exact J [_, _, _, _] _ rfl (andF h2)
  · refine VR.p rfl rfl (VP.move rfl) ?_
    obtain ⟨c, h6, hm⟩ := bnd hm
    refine VR.sc 4 17 (.bool c) (fun K' J => ?_) ?_
    · have hm := h6
      rcases ite_or hm with ⟨h3, hm⟩ | ⟨h3, hm⟩
      · refine VR.pG rfl rfl rfl rfl h3 (VP.fieldP rfl fa27_3) ?_
        refine VR.pG rfl rfl rfl rfl h3 (VP.loadP (i := 0) rfl rfl ld24 rfl) ?_
        obtain ⟨r, h4, hm⟩ := bnd hm
        refine VR.consG rfl rfl rfl rfl h3 (VO.callK 0 rfl fn42 rfl (ref05_Light_ok m.Labels r h4) fun _ _ h5 => ?_)
        obtain ⟨rfl, rfl⟩ := h5
        refine VR.p rfl rfl (VP.pickB true rfl h3 rfl) ?_
        exact J [_, _, _] _ rfl (congrArg VV.bool (Option.some.inj hm))
      · have h3 := bf h3
        refine VR.skipG rfl rfl rfl rfl h3 ?_
        refine VR.skipG rfl rfl rfl rfl h3 ?_
        refine VR.skipG rfl rfl rfl rfl h3 ?_
        refine VR.p rfl rfl (VP.pickB false rfl h3 rfl) ?_
        exact J [_, _, _] _ rfl (congrArg VV.bool (Option.some.inj hm))
    · refine VR.p rfl rfl (VP.move rfl) ?_
      obtain ⟨c2, h10, hm⟩ := bnd hm
      refine VR.sc 4 22 (.bool c2) (fun K' J => ?_) ?_
      · have hm := h10
        rcases ite_or hm with ⟨h7, hm⟩ | ⟨h7, hm⟩
        · refine VR.pG rfl rfl rfl rfl h7 (VP.fieldP rfl fa27_4) ?_
          refine VR.pG rfl rfl rfl rfl h7 (VP.loadP (i := 0) rfl rfl ld25 rfl) ?_
          obtain ⟨r2, h8, hm⟩ := bnd hm
          refine VR.consG rfl rfl rfl rfl h7 (VO.callN 0 [.nil 55, .same] rfl fn43 rfl (ref06_Light_ok ([] : List T_api_Toleration) m.Taints r2 h8) fun _ _ h9 => ?_)
          obtain ⟨rfl, rfl⟩ := h9
          refine VR.p rfl rfl (VP.pickB true rfl h7 rfl) ?_
          exact J [_, _, _] _ rfl (congrArg VV.bool (Option.some.inj hm))
        · have h7 := bf h7
          refine VR.skipG rfl rfl rfl rfl h7 ?_
          refine VR.skipG rfl rfl rfl rfl h7 ?_
          refine VR.skipG rfl rfl rfl rfl h7 ?_
          refine VR.p rfl rfl (VP.pickB false rfl h7 rfl) ?_
          exact J [_, _, _] _ rfl (congrArg VV.bool (Option.some.inj hm))
      · refine VR.p rfl rfl (VP.assign rfl) ?_
        refine VR.nil ?_
        obtain rfl := Option.some.inj hm
        exact VW.ret ⟨.inl rfl, _, .cons (.tmp _ _ rfl) .nil, [], _, rfl, rfl, rfl⟩

/-! trireme/triremeref05.LightTerm -/
def ref05_LightTerm.l1 (t : T_api_Term) : Nat → Int → Option (Out Bool Unit)
  | 0, _ => none
  | n + 1, i2 =>
    if (decide (i2 < (t.Vals.length : Int))) = true then
      (V.gl t.Vals i2).bind fun x =>
      if (decide ((x.size : Int) > (300 : Int))) = true then
        some (Out.ret false)
      else
        ref05_LightTerm.l1 t n (IntKind.i64.wrap (i2 + (1 : Int)))
    else
      some (Out.go ())
def ref05_LightTerm (t : T_api_Term) : Option Bool :=
  if ((decide ((t.Vals.length : Int) > (40 : Int))) || (decide ((t.Key.size : Int) > (300 : Int)))) = true then
    some false
  else
    (ref05_LightTerm.l1 t FU (0 : Int)).bind fun o =>
    o.on fun j =>
    some true
theorem ref05_LightTerm_ok (t : T_api_Term) (r : Bool) (hm : ref05_LightTerm t = some r) :
    VC Try.prog 44 [T_api_Term.vv t] [] (fun zx zH => zx = .bool r ∧ zH = []) := by
  unfold ref05_LightTerm at hm
  refine VC.run (c := _) (rs := [.tmp 2]) Try.func44 rfl rfl rfl ?_
  refine VW.seq ?_
  refine VW.region ?_
  refine VR.cons rfl rfl (VO.box rfl rfl fun b => ?_)
  refine VR.p rfl rfl (VP.assign rfl) ?_
  refine VR.nil ?_
  refine VW.seq ?_
  refine VW.seq ?_
  refine VW.region ?_
  refine VR.p rfl rfl (VP.fieldP rfl fa74_2) ?_
  refine VR.p rfl rfl (VP.loadP (i := 0) rfl rfl ld65 rfl) ?_
  refine VR.p rfl rfl (VP.lenT VV.str rfl Try.underlying65) ?_
  refine VR.p rfl rfl (VP.arith rfl rfl rfl) ?_
  refine VR.p rfl rfl (VP.move rfl) ?_
  refine VR.sc 5 13 (.bool ((decide ((t.Vals.length : Int) > (40 : Int))) || (decide ((t.Key.size : Int) > (300 : Int))))) (fun K' J => ?_) ?_
  · rcases Bool.eq_false_or_eq_true (decide ((t.Vals.length : Int) > (40 : Int))) with h2 | h2
    · refine VR.skipG rfl rfl rfl rfl h2 ?_
      refine VR.skipG rfl rfl rfl rfl h2 ?_
      refine VR.skipG rfl rfl rfl rfl h2 ?_
      refine VR.skipG rfl rfl rfl rfl h2 ?_
      refine VR.p rfl rfl (VP.pickB true rfl h2 rfl) ?_
      exact J [_, _, _, _] _ rfl (orT h2)
    · refine VR.pG rfl rfl rfl rfl h2 (VP.fieldP rfl fa74_0) ?_
      refine VR.pG rfl rfl rfl rfl h2 (VP.loadP (i := 0) rfl rfl ld9 rfl) ?_
      refine VR.pG rfl rfl rfl rfl h2 (VP.lenS rfl Try.underlying9) ?_
      refine VR.pG rfl rfl rfl rfl h2 (VP.arith rfl rfl rfl) ?_
      refine VR.p rfl rfl (VP.pickB false rfl h2 rfl) ?_
      exact J [_, _, _, _] _ rfl (orF h2)
  · refine VR.nil ?_
    rcases ite_or hm with ⟨h3, hm⟩ | ⟨h3, hm⟩
    · refine VW.condT rfl h3 ?_
      refine VW.seq ?_
      refine VW.region ?_
      refine VR.p rfl rfl (VP.assign rfl) ?_
      refine VR.nil ?_
      obtain rfl := Option.some.inj hm
      exact VW.ret ⟨.inl rfl, _, .cons (.tmp _ _ rfl) .nil, [], _, rfl, rfl, rfl⟩
    · have h3 := bf h3
      refine VW.condF rfl h3 ?_
      refine VW.skip ?_
      refine VW.seq ?_
      refine VW.seq ?_
      refine VW.region ?_
      refine VR.p rfl rfl (VP.assign rfl) ?_
      refine VR.nil ?_
      obtain ⟨o, h4, h5⟩ := bnd hm
      refine VW.joinE (fun (q : Unit) => o = Out.go q) (fun (j : Unit) (gg : Unit) => []) (fun (j : Unit) (gg : Unit) => []) ?_ ?_
      · have hm := h4
        refine VW.block (VW.loop FU ?_)
        refine VL.fuelS (R := _) (fun zn (zs : Int) => ref05_LightTerm.l1 t zn zs) (fun (zs : Int) (zg : Unit) => [(1, .ptr b 0), (3, .int .i64 zs)]) (fun (zs : Int) (zg : Unit) => [.box b 74 (T_api_Term.cells t)]) (0 : Int) () (fun zs => rfl) (Shift.pick [0] rfl ⟨rfl, rfl, trivial⟩) h4 ?_
        rintro n i2 _ hm
        rw [ref05_LightTerm.l1] at hm
        refine VW.seq ?_
        refine VW.seq ?_
        refine VW.region ?_
        refine VR.p rfl rfl (VP.move rfl) ?_
        refine VR.p rfl rfl (VP.fieldP rfl fa74_2) ?_
        refine VR.p rfl rfl (VP.loadP (i := 0) rfl rfl ld65 rfl) ?_
        refine VR.p rfl rfl (VP.lenT VV.str rfl Try.underlying65) ?_
        refine VR.p rfl rfl (VP.arith rfl rfl rfl) ?_
        refine VR.nil ?_
        rcases ite_or hm with ⟨h6, hm⟩ | ⟨h6, hm⟩
        · refine VW.condT rfl h6 ?_
          refine VW.skip ?_
          refine VW.seq ?_
          refine VW.block ?_
          refine VW.seq ?_
          refine VW.region ?_
          refine VR.p rfl rfl (VP.fieldP rfl fa74_2) ?_
          refine VR.p rfl rfl (VP.loadP (i := 0) rfl rfl ld65 rfl) ?_
          refine VR.p rfl rfl (VP.move rfl) ?_
          obtain ⟨x, h7, hm⟩ := bnd hm
          refine VR.p rfl rfl (VP.glE VV.str rfl rfl el65 h7) ?_
          refine VR.p rfl rfl (VP.loadE rfl ld9 rfl) ?_
          refine VR.p rfl rfl (VP.lenS rfl Try.underlying9) ?_
          refine VR.p rfl rfl (VP.arith rfl rfl rfl) ?_
          refine VR.nil ?_
          rcases ite_or hm with ⟨h8, hm⟩ | ⟨h8, hm⟩
          · refine VW.condT rfl h8 ?_
            refine VW.seq ?_
            refine VW.region ?_
            refine VR.p rfl rfl (VP.assign rfl) ?_
            refine VR.nil ?_
            obtain rfl := Option.some.inj hm
            have hm := Out.ret_on h5
            obtain rfl := Option.some.inj hm
            exact VW.ret ⟨.inl rfl, _, .cons (.tmp _ _ rfl) .nil, [], _, rfl, rfl, rfl⟩
          · have h8 := bf h8
            refine VW.condF rfl h8 ?_
            refine VW.skip ?_
            refine VW.region ?_
            refine VR.p rfl rfl (VP.move rfl) ?_
            refine VR.p rfl rfl (VP.arith rfl rfl rfl) ?_
            refine VR.p rfl rfl (VP.assign rfl) ?_
            refine VR.nil ?_
            exact ⟨(IntKind.i64.wrap (i2 + (1 : Int))), (), hm, (Shift.pick [0] rfl ⟨rfl, rfl, trivial⟩)⟩
        · have h6 := bf h6
          refine VW.condF rfl h6 ?_
          refine VW.exit ?_
          exact ⟨(), (), (Option.some.inj hm).symm, (Shift.pick [] rfl trivial)⟩
      · rintro j _ rfl
        have hm := Out.go_on h5
        refine VW.seq ?_
        refine VW.region ?_
        refine VR.p rfl rfl (VP.assign rfl) ?_
        refine VR.nil ?_
        obtain rfl := Option.some.inj hm
        exact VW.ret ⟨.inl rfl, _, .cons (.tmp _ _ rfl) .nil, [], _, rfl, rfl, rfl⟩

/-! trireme/triremeref07.LightPod -/
def ref07_LightPod.l1 (p : T_api_Pod) : Nat → Int → Option (Out Bool Unit)
  | 0, _ => none
  | n + 1, i2 =>
    if (decide (i2 < (p.Terms.length : Int))) = true then
      (V.gl p.Terms i2).bind fun x =>
      (ref05_LightTerm x).bind fun r6 =>
      if (!r6) = true then
        some (Out.ret false)
      else
        ref07_LightPod.l1 p n (IntKind.i64.wrap (i2 + (1 : Int)))
    else
      some (Out.go ())
def ref07_LightPod (p : T_api_Pod) : Option Bool :=
  (if ((((decide ((p.Name.size : Int) > (300 : Int))) || (decide ((p.Owner.size : Int) > (300 : Int)))) || (decide ((p.Terms.length : Int) > (30 : Int)))) || (decide ((p.Ports.length : Int) > (30 : Int)))) = true then some true else (ref05_Light p.Labels).bind fun r =>
  some (!r)).bind fun c =>
  (if c = true then some true else (ref05_Light p.Select).bind fun r2 =>
  some (!r2)).bind fun c2 =>
  (if c2 = true then some true else (ref05_Light p.Apart).bind fun r3 =>
  some (!r3)).bind fun c3 =>
  (if c3 = true then some true else (ref05_Light p.Spread).bind fun r4 =>
  some (!r4)).bind fun c4 =>
  (if c4 = true then some true else (ref06_Light p.Bears ([] : List T_api_Taint)).bind fun r5 =>
  some (!r5)).bind fun c5 =>
  if c5 = true then
    some false
  else
    (ref07_LightPod.l1 p FU (0 : Int)).bind fun o =>
    o.on fun j =>
    some true
theorem ref07_LightPod_ok (p : T_api_Pod) (r : Bool) (hm : ref07_LightPod p = some r) :
    VC Try.prog 13 [T_api_Pod.vv p] [] (fun zx zH => zx = .bool r ∧ zH = []) := by
  unfold ref07_LightPod at hm
  refine VC.run (c := _) (rs := [.tmp 2]) Try.func13 rfl rfl rfl ?_
  refine VW.seq ?_
  refine VW.region ?_
  refine VR.cons rfl rfl (VO.box rfl rfl fun b => ?_)
  refine VR.p rfl rfl (VP.assign rfl) ?_
  refine VR.nil ?_
  refine VW.seq ?_
  refine VW.seq ?_
  refine VW.region ?_
  refine VR.p rfl rfl (VP.fieldP rfl fa33_0) ?_
  refine VR.p rfl rfl (VP.loadP (i := 0) rfl rfl ld9 rfl) ?_
  refine VR.p rfl rfl (VP.lenS rfl Try.underlying9) ?_
  refine VR.p rfl rfl (VP.arith rfl rfl rfl) ?_
  refine VR.p rfl rfl (VP.move rfl) ?_
  refine VR.sc 5 13 (.bool ((decide ((p.Name.size : Int) > (300 : Int))) || (decide ((p.Owner.size : Int) > (300 : Int))))) (fun K' J => ?_) ?_
  · rcases Bool.eq_false_or_eq_true (decide ((p.Name.size : Int) > (300 : Int))) with h2 | h2
    · refine VR.skipG rfl rfl rfl rfl h2 ?_
      refine VR.skipG rfl rfl rfl rfl h2 ?_
      refine VR.skipG rfl rfl rfl rfl h2 ?_
      refine VR.skipG rfl rfl rfl rfl h2 ?_
      refine VR.p rfl rfl (VP.pickB true rfl h2 rfl) ?_
      exact J [_, _, _, _] _ rfl (orT h2)
    · refine VR.pG rfl rfl rfl rfl h2 (VP.fieldP rfl fa33_12) ?_
      refine VR.pG rfl rfl rfl rfl h2 (VP.loadP (i := 0) rfl rfl ld9 rfl) ?_
      refine VR.pG rfl rfl rfl rfl h2 (VP.lenS rfl Try.underlying9) ?_
      refine VR.pG rfl rfl rfl rfl h2 (VP.arith rfl rfl rfl) ?_
      refine VR.p rfl rfl (VP.pickB false rfl h2 rfl) ?_
      exact J [_, _, _, _] _ rfl (orF h2)
  · refine VR.p rfl rfl (VP.move rfl) ?_
    refine VR.sc 5 19 (.bool (((decide ((p.Name.size : Int) > (300 : Int))) || (decide ((p.Owner.size : Int) > (300 : Int)))) || (decide ((p.Terms.length : Int) > (30 : Int))))) (fun K' J => ?_) ?_
    · rcases Bool.eq_false_or_eq_true ((decide ((p.Name.size : Int) > (300 : Int))) || (decide ((p.Owner.size : Int) > (300 : Int)))) with h3 | h3
      · refine VR.skipG rfl rfl rfl rfl h3 ?_
        refine VR.skipG rfl rfl rfl rfl h3 ?_
        refine VR.skipG rfl rfl rfl rfl h3 ?_
        refine VR.skipG rfl rfl rfl rfl h3 ?_
        refine VR.p rfl rfl (VP.pickB true rfl h3 rfl) ?_
        exact J [_, _, _, _] _ rfl (orT h3)
      · refine VR.pG rfl rfl rfl rfl h3 (VP.fieldP rfl fa33_4) ?_
        refine VR.pG rfl rfl rfl rfl h3 (VP.loadP (i := 0) rfl rfl ld29 rfl) ?_
        refine VR.pG rfl rfl rfl rfl h3 (VP.lenT T_api_Term.vv rfl Try.underlying29) ?_
        refine VR.pG rfl rfl rfl rfl h3 (VP.arith rfl rfl rfl) ?_
        refine VR.p rfl rfl (VP.pickB false rfl h3 rfl) ?_
        exact J [_, _, _, _] _ rfl (orF h3)
    · refine VR.p rfl rfl (VP.move rfl) ?_
      refine VR.sc 5 25 (.bool ((((decide ((p.Name.size : Int) > (300 : Int))) || (decide ((p.Owner.size : Int) > (300 : Int)))) || (decide ((p.Terms.length : Int) > (30 : Int)))) || (decide ((p.Ports.length : Int) > (30 : Int))))) (fun K' J => ?_) ?_
      · rcases Bool.eq_false_or_eq_true (((decide ((p.Name.size : Int) > (300 : Int))) || (decide ((p.Owner.size : Int) > (300 : Int)))) || (decide ((p.Terms.length : Int) > (30 : Int)))) with h4 | h4
        · refine VR.skipG rfl rfl rfl rfl h4 ?_
          refine VR.skipG rfl rfl rfl rfl h4 ?_
          refine VR.skipG rfl rfl rfl rfl h4 ?_
          refine VR.skipG rfl rfl rfl rfl h4 ?_
          refine VR.p rfl rfl (VP.pickB true rfl h4 rfl) ?_
          exact J [_, _, _, _] _ rfl (orT h4)
        · refine VR.pG rfl rfl rfl rfl h4 (VP.fieldP rfl fa33_6) ?_
          refine VR.pG rfl rfl rfl rfl h4 (VP.loadP (i := 0) rfl rfl ld31 rfl) ?_
          refine VR.pG rfl rfl rfl rfl h4 (VP.lenT (VV.int .i64) rfl Try.underlying31) ?_
          refine VR.pG rfl rfl rfl rfl h4 (VP.arith rfl rfl rfl) ?_
          refine VR.p rfl rfl (VP.pickB false rfl h4 rfl) ?_
          exact J [_, _, _, _] _ rfl (orF h4)
      · refine VR.p rfl rfl (VP.move rfl) ?_
        obtain ⟨c, h8, hm⟩ := bnd hm
        refine VR.sc 5 31 (.bool c) (fun K' J => ?_) ?_
        · have hm := h8
          rcases ite_or hm with ⟨h5, hm⟩ | ⟨h5, hm⟩
          · refine VR.skipG rfl rfl rfl rfl h5 ?_
            refine VR.skipG rfl rfl rfl rfl h5 ?_
            refine VR.skipG rfl rfl rfl rfl h5 ?_
            refine VR.skipG rfl rfl rfl rfl h5 ?_
            refine VR.p rfl rfl (VP.pickB true rfl h5 rfl) ?_
            exact J [_, _, _, _] _ rfl (congrArg VV.bool (Option.some.inj hm))
          · have h5 := bf h5
            refine VR.pG rfl rfl rfl rfl h5 (VP.fieldP rfl fa33_2) ?_
            refine VR.pG rfl rfl rfl rfl h5 (VP.loadP (i := 0) rfl rfl ld24 rfl) ?_
            obtain ⟨r, h6, hm⟩ := bnd hm
            refine VR.consG rfl rfl rfl rfl h5 (VO.callK 0 rfl fn42 rfl (ref05_Light_ok p.Labels r h6) fun _ _ h7 => ?_)
            obtain ⟨rfl, rfl⟩ := h7
            refine VR.pG rfl rfl rfl rfl h5 (VP.not rfl) ?_
            refine VR.p rfl rfl (VP.pickB false rfl h5 rfl) ?_
            exact J [_, _, _, _] _ rfl (congrArg VV.bool (Option.some.inj hm))
        · refine VR.p rfl rfl (VP.move rfl) ?_
          obtain ⟨c2, h12, hm⟩ := bnd hm
          refine VR.sc 5 37 (.bool c2) (fun K' J => ?_) ?_
          · have hm := h12
            rcases ite_or hm with ⟨h9, hm⟩ | ⟨h9, hm⟩
            · refine VR.skipG rfl rfl rfl rfl h9 ?_
              refine VR.skipG rfl rfl rfl rfl h9 ?_
              refine VR.skipG rfl rfl rfl rfl h9 ?_
              refine VR.skipG rfl rfl rfl rfl h9 ?_
              refine VR.p rfl rfl (VP.pickB true rfl h9 rfl) ?_
              exact J [_, _, _, _] _ rfl (congrArg VV.bool (Option.some.inj hm))
            · have h9 := bf h9
              refine VR.pG rfl rfl rfl rfl h9 (VP.fieldP rfl fa33_3) ?_
              refine VR.pG rfl rfl rfl rfl h9 (VP.loadP (i := 0) rfl rfl ld24 rfl) ?_
              obtain ⟨r2, h10, hm⟩ := bnd hm
              refine VR.consG rfl rfl rfl rfl h9 (VO.callK 0 rfl fn42 rfl (ref05_Light_ok p.Select r2 h10) fun _ _ h11 => ?_)
              obtain ⟨rfl, rfl⟩ := h11
              refine VR.pG rfl rfl rfl rfl h9 (VP.not rfl) ?_
              refine VR.p rfl rfl (VP.pickB false rfl h9 rfl) ?_
              exact J [_, _, _, _] _ rfl (congrArg VV.bool (Option.some.inj hm))
          · refine VR.p rfl rfl (VP.move rfl) ?_
            obtain ⟨c3, h16, hm⟩ := bnd hm
            refine VR.sc 5 43 (.bool c3) (fun K' J => ?_) ?_
            · have hm := h16
              rcases ite_or hm with ⟨h13, hm⟩ | ⟨h13, hm⟩
              · refine VR.skipG rfl rfl rfl rfl h13 ?_
                refine VR.skipG rfl rfl rfl rfl h13 ?_
                refine VR.skipG rfl rfl rfl rfl h13 ?_
                refine VR.skipG rfl rfl rfl rfl h13 ?_
                refine VR.p rfl rfl (VP.pickB true rfl h13 rfl) ?_
                exact J [_, _, _, _] _ rfl (congrArg VV.bool (Option.some.inj hm))
              · have h13 := bf h13
                refine VR.pG rfl rfl rfl rfl h13 (VP.fieldP rfl fa33_7) ?_
                refine VR.pG rfl rfl rfl rfl h13 (VP.loadP (i := 0) rfl rfl ld24 rfl) ?_
                obtain ⟨r3, h14, hm⟩ := bnd hm
                refine VR.consG rfl rfl rfl rfl h13 (VO.callK 0 rfl fn42 rfl (ref05_Light_ok p.Apart r3 h14) fun _ _ h15 => ?_)
                obtain ⟨rfl, rfl⟩ := h15
                refine VR.pG rfl rfl rfl rfl h13 (VP.not rfl) ?_
                refine VR.p rfl rfl (VP.pickB false rfl h13 rfl) ?_
                exact J [_, _, _, _] _ rfl (congrArg VV.bool (Option.some.inj hm))
            · refine VR.p rfl rfl (VP.move rfl) ?_
              obtain ⟨c4, h20, hm⟩ := bnd hm
              refine VR.sc 5 49 (.bool c4) (fun K' J => ?_) ?_
              · have hm := h20
                rcases ite_or hm with ⟨h17, hm⟩ | ⟨h17, hm⟩
                · refine VR.skipG rfl rfl rfl rfl h17 ?_
                  refine VR.skipG rfl rfl rfl rfl h17 ?_
                  refine VR.skipG rfl rfl rfl rfl h17 ?_
                  refine VR.skipG rfl rfl rfl rfl h17 ?_
                  refine VR.p rfl rfl (VP.pickB true rfl h17 rfl) ?_
                  exact J [_, _, _, _] _ rfl (congrArg VV.bool (Option.some.inj hm))
                · have h17 := bf h17
                  refine VR.pG rfl rfl rfl rfl h17 (VP.fieldP rfl fa33_9) ?_
                  refine VR.pG rfl rfl rfl rfl h17 (VP.loadP (i := 0) rfl rfl ld24 rfl) ?_
                  obtain ⟨r4, h18, hm⟩ := bnd hm
                  refine VR.consG rfl rfl rfl rfl h17 (VO.callK 0 rfl fn42 rfl (ref05_Light_ok p.Spread r4 h18) fun _ _ h19 => ?_)
                  obtain ⟨rfl, rfl⟩ := h19
                  refine VR.pG rfl rfl rfl rfl h17 (VP.not rfl) ?_
                  refine VR.p rfl rfl (VP.pickB false rfl h17 rfl) ?_
                  exact J [_, _, _, _] _ rfl (congrArg VV.bool (Option.some.inj hm))
              · refine VR.p rfl rfl (VP.move rfl) ?_
                obtain ⟨c5, h24, hm⟩ := bnd hm
                refine VR.sc 5 55 (.bool c5) (fun K' J => ?_) ?_
                · have hm := h24
                  rcases ite_or hm with ⟨h21, hm⟩ | ⟨h21, hm⟩
                  · refine VR.skipG rfl rfl rfl rfl h21 ?_
                    refine VR.skipG rfl rfl rfl rfl h21 ?_
                    refine VR.skipG rfl rfl rfl rfl h21 ?_
                    refine VR.skipG rfl rfl rfl rfl h21 ?_
                    refine VR.p rfl rfl (VP.pickB true rfl h21 rfl) ?_
                    exact J [_, _, _, _] _ rfl (congrArg VV.bool (Option.some.inj hm))
                  · have h21 := bf h21
                    refine VR.pG rfl rfl rfl rfl h21 (VP.fieldP rfl fa33_5) ?_
                    refine VR.pG rfl rfl rfl rfl h21 (VP.loadP (i := 0) rfl rfl ld30 rfl) ?_
                    obtain ⟨r5, h22, hm⟩ := bnd hm
                    refine VR.consG rfl rfl rfl rfl h21 (VO.callN 0 [.same, .nil 97] rfl fn43 rfl (ref06_Light_ok p.Bears ([] : List T_api_Taint) r5 h22) fun _ _ h23 => ?_)
                    obtain ⟨rfl, rfl⟩ := h23
                    refine VR.pG rfl rfl rfl rfl h21 (VP.not rfl) ?_
                    refine VR.p rfl rfl (VP.pickB false rfl h21 rfl) ?_
                    exact J [_, _, _, _] _ rfl (congrArg VV.bool (Option.some.inj hm))
                · refine VR.nil ?_
                  rcases ite_or hm with ⟨h25, hm⟩ | ⟨h25, hm⟩
                  · refine VW.condT rfl h25 ?_
                    refine VW.seq ?_
                    refine VW.region ?_
                    refine VR.p rfl rfl (VP.assign rfl) ?_
                    refine VR.nil ?_
                    obtain rfl := Option.some.inj hm
                    exact VW.ret ⟨.inl rfl, _, .cons (.tmp _ _ rfl) .nil, [], _, rfl, rfl, rfl⟩
                  · have h25 := bf h25
                    refine VW.condF rfl h25 ?_
                    refine VW.skip ?_
                    refine VW.seq ?_
                    refine VW.seq ?_
                    refine VW.region ?_
                    refine VR.p rfl rfl (VP.assign rfl) ?_
                    refine VR.nil ?_
                    obtain ⟨o, h26, h27⟩ := bnd hm
                    refine VW.joinE (fun (q : Unit) => o = Out.go q) (fun (j : Unit) (gg : Unit) => []) (fun (j : Unit) (gg : Unit) => []) ?_ ?_
                    · have hm := h26
                      refine VW.block (VW.loop FU ?_)
                      refine VL.fuelS (R := _) (fun zn (zs : Int) => ref07_LightPod.l1 p zn zs) (fun (zs : Int) (zg : Unit) => [(1, .ptr b 0), (3, .int .i64 zs)]) (fun (zs : Int) (zg : Unit) => [.box b 33 (T_api_Pod.cells p)]) (0 : Int) () (fun zs => rfl) (Shift.pick [0] rfl ⟨rfl, rfl, trivial⟩) h26 ?_
                      rintro n i2 _ hm
                      rw [ref07_LightPod.l1] at hm
                      refine VW.seq ?_
                      refine VW.seq ?_
                      refine VW.region ?_
                      refine VR.p rfl rfl (VP.move rfl) ?_
                      refine VR.p rfl rfl (VP.fieldP rfl fa33_4) ?_
                      refine VR.p rfl rfl (VP.loadP (i := 0) rfl rfl ld29 rfl) ?_
                      refine VR.p rfl rfl (VP.lenT T_api_Term.vv rfl Try.underlying29) ?_
                      refine VR.p rfl rfl (VP.arith rfl rfl rfl) ?_
                      refine VR.nil ?_
                      rcases ite_or hm with ⟨h28, hm⟩ | ⟨h28, hm⟩
                      · refine VW.condT rfl h28 ?_
                        refine VW.skip ?_
                        refine VW.seq ?_
                        refine VW.block ?_
                        refine VW.seq ?_
                        refine VW.region ?_
                        refine VR.p rfl rfl (VP.fieldP rfl fa33_4) ?_
                        refine VR.p rfl rfl (VP.loadP (i := 0) rfl rfl ld29 rfl) ?_
                        refine VR.p rfl rfl (VP.move rfl) ?_
                        obtain ⟨x, h29, hm⟩ := bnd hm
                        refine VR.p rfl rfl (VP.glE T_api_Term.vv rfl rfl el29 h29) ?_
                        refine VR.p rfl rfl (VP.loadE rfl ld74 rfl) ?_
                        obtain ⟨r6, h30, hm⟩ := bnd hm
                        refine VR.cons rfl rfl (VO.callK 0 rfl fn44 rfl (ref05_LightTerm_ok x r6 h30) fun _ _ h32 => ?_)
                        obtain ⟨rfl, rfl⟩ := h32
                        refine VR.p rfl rfl (VP.not rfl) ?_
                        refine VR.nil ?_
                        rcases ite_or hm with ⟨h31, hm⟩ | ⟨h31, hm⟩
                        · refine VW.condT rfl h31 ?_
                          refine VW.seq ?_
                          refine VW.region ?_
                          refine VR.p rfl rfl (VP.assign rfl) ?_
                          refine VR.nil ?_
                          obtain rfl := Option.some.inj hm
                          have hm := Out.ret_on h27
                          obtain rfl := Option.some.inj hm
                          exact VW.ret ⟨.inl rfl, _, .cons (.tmp _ _ rfl) .nil, [], _, rfl, rfl, rfl⟩
                        · have h31 := bf h31
                          refine VW.condF rfl h31 ?_
                          refine VW.skip ?_
                          refine VW.region ?_
                          refine VR.p rfl rfl (VP.move rfl) ?_
                          refine VR.p rfl rfl (VP.arith rfl rfl rfl) ?_
                          refine VR.p rfl rfl (VP.assign rfl) ?_
                          refine VR.nil ?_
                          exact ⟨(IntKind.i64.wrap (i2 + (1 : Int))), (), hm, (Shift.pick [0] rfl ⟨rfl, rfl, trivial⟩)⟩
                      · have h28 := bf h28
                        refine VW.condF rfl h28 ?_
                        refine VW.exit ?_
                        exact ⟨(), (), (Option.some.inj hm).symm, (Shift.pick [] rfl trivial)⟩
                    · rintro j _ rfl
                      have hm := Out.go_on h27
                      refine VW.seq ?_
                      refine VW.region ?_
                      refine VR.p rfl rfl (VP.assign rfl) ?_
                      refine VR.nil ?_
                      obtain rfl := Option.some.inj hm
                      exact VW.ret ⟨.inl rfl, _, .cons (.tmp _ _ rfl) .nil, [], _, rfl, rfl, rfl⟩

/-! trireme/triremeref09.Light -/
def ref09_Light.l1 (ms : List T_api_Machine) : Nat → Int → Option (Out Bool Unit)
  | 0, _ => none
  | n + 1, i2 =>
    if (decide (i2 < (ms.length : Int))) = true then
      (V.gl ms i2).bind fun x =>
      (ref07_LightMachine x).bind fun r =>
      if (!r) = true then
        some (Out.ret false)
      else
        ref09_Light.l1 ms n (IntKind.i64.wrap (i2 + (1 : Int)))
    else
      some (Out.go ())
def ref09_Light.l2 (bs : List T_api_Bound) : Nat → Int → Option (Out Bool Unit)
  | 0, _ => none
  | n2 + 1, i4 =>
    if (decide (i4 < (bs.length : Int))) = true then
      (V.gl bs i4).bind fun x2 =>
      (ref07_LightPod x2.Pod).bind fun r2 =>
      (if (!r2) = true then some true else (V.gl bs i4).bind fun x3 =>
      some (decide ((x3.On.size : Int) > (300 : Int)))).bind fun c =>
      if c = true then
        some (Out.ret false)
      else
        ref09_Light.l2 bs n2 (IntKind.i64.wrap (i4 + (1 : Int)))
    else
      some (Out.go ())
def ref09_Light (ms : List T_api_Machine) (bs : List T_api_Bound) : Option Bool :=
  if ((decide ((ms.length : Int) > (20 : Int))) || (decide ((bs.length : Int) > (40 : Int)))) = true then
    some false
  else
    (ref09_Light.l1 ms FU (0 : Int)).bind fun o =>
    o.on fun j =>
    (ref09_Light.l2 bs FU (0 : Int)).bind fun o2 =>
    o2.on fun j2 =>
    some true
theorem ref09_Light_ok (ms : List T_api_Machine) (bs : List T_api_Bound) (r : Bool) (hm : ref09_Light ms bs = some r) :
    VC Try.prog 12 [.list 27 (List.map T_api_Machine.vv ms), .list 49 (List.map T_api_Bound.vv bs)] [] (fun zx zH => zx = .bool r ∧ zH = []) := by
  unfold ref09_Light at hm
  refine VC.run (c := _) (rs := [.tmp 4]) Try.func12 rfl rfl rfl ?_
  refine VW.seq ?_
  refine VW.region ?_
  refine VR.p rfl rfl (VP.assign rfl) ?_
  refine VR.nil ?_
  refine VW.seq ?_
  refine VW.seq ?_
  refine VW.region ?_
  refine VR.p rfl rfl (VP.move rfl) ?_
  refine VR.p rfl rfl (VP.lenT T_api_Machine.vv rfl Try.underlying37) ?_
  refine VR.p rfl rfl (VP.arith rfl rfl rfl) ?_
  refine VR.p rfl rfl (VP.move rfl) ?_
  refine VR.sc 4 14 (.bool ((decide ((ms.length : Int) > (20 : Int))) || (decide ((bs.length : Int) > (40 : Int))))) (fun K' J => ?_) ?_
  · rcases Bool.eq_false_or_eq_true (decide ((ms.length : Int) > (20 : Int))) with h1 | h1
    · refine VR.skipG rfl rfl rfl rfl h1 ?_
      refine VR.skipG rfl rfl rfl rfl h1 ?_
      refine VR.skipG rfl rfl rfl rfl h1 ?_
      refine VR.p rfl rfl (VP.pickB true rfl h1 rfl) ?_
      exact J [_, _, _] _ rfl (orT h1)
    · refine VR.pG rfl rfl rfl rfl h1 (VP.move rfl) ?_
      refine VR.pG rfl rfl rfl rfl h1 (VP.lenT T_api_Bound.vv rfl Try.underlying28) ?_
      refine VR.pG rfl rfl rfl rfl h1 (VP.arith rfl rfl rfl) ?_
      refine VR.p rfl rfl (VP.pickB false rfl h1 rfl) ?_
      exact J [_, _, _] _ rfl (orF h1)
  · refine VR.nil ?_
    rcases ite_or hm with ⟨h2, hm⟩ | ⟨h2, hm⟩
    · refine VW.condT rfl h2 ?_
      refine VW.seq ?_
      refine VW.region ?_
      refine VR.p rfl rfl (VP.assign rfl) ?_
      refine VR.nil ?_
      obtain rfl := Option.some.inj hm
      exact VW.ret ⟨.inl rfl, _, .cons (.tmp _ _ rfl) .nil, [], _, rfl, rfl, rfl⟩
    · have h2 := bf h2
      refine VW.condF rfl h2 ?_
      refine VW.skip ?_
      refine VW.seq ?_
      refine VW.seq ?_
      refine VW.region ?_
      refine VR.p rfl rfl (VP.assign rfl) ?_
      refine VR.nil ?_
      obtain ⟨o, h3, h4⟩ := bnd hm
      refine VW.joinE (fun (q : Unit) => o = Out.go q) (fun (j : Unit) (gg : Unit) => [(1, .list 49 (List.map T_api_Bound.vv bs))]) (fun (j : Unit) (gg : Unit) => []) ?_ ?_
      · have hm := h3
        refine VW.block (VW.loop FU ?_)
        refine VL.fuelS (R := _) (fun zn (zs : Int) => ref09_Light.l1 ms zn zs) (fun (zs : Int) (zg : Unit) => [(0, .list 27 (List.map T_api_Machine.vv ms)), (1, .list 49 (List.map T_api_Bound.vv bs)), (5, .int .i64 zs)]) (fun (zs : Int) (zg : Unit) => []) (0 : Int) () (fun zs => rfl) (Shift.pick [] rfl ⟨rfl, rfl, rfl, trivial⟩) h3 ?_
        rintro n i2 _ hm
        rw [ref09_Light.l1] at hm
        refine VW.seq ?_
        refine VW.seq ?_
        refine VW.region ?_
        refine VR.p rfl rfl (VP.move rfl) ?_
        refine VR.p rfl rfl (VP.move rfl) ?_
        refine VR.p rfl rfl (VP.lenT T_api_Machine.vv rfl Try.underlying37) ?_
        refine VR.p rfl rfl (VP.arith rfl rfl rfl) ?_
        refine VR.nil ?_
        rcases ite_or hm with ⟨h5, hm⟩ | ⟨h5, hm⟩
        · refine VW.condT rfl h5 ?_
          refine VW.skip ?_
          refine VW.seq ?_
          refine VW.block ?_
          refine VW.seq ?_
          refine VW.region ?_
          refine VR.p rfl rfl (VP.move rfl) ?_
          refine VR.p rfl rfl (VP.move rfl) ?_
          obtain ⟨x, h6, hm⟩ := bnd hm
          refine VR.p rfl rfl (VP.glE T_api_Machine.vv rfl rfl el37 h6) ?_
          refine VR.p rfl rfl (VP.loadE rfl ld27 rfl) ?_
          obtain ⟨r, h7, hm⟩ := bnd hm
          refine VR.cons rfl rfl (VO.callK 0 rfl fn41 rfl (ref07_LightMachine_ok x r h7) fun _ _ h9 => ?_)
          obtain ⟨rfl, rfl⟩ := h9
          refine VR.p rfl rfl (VP.not rfl) ?_
          refine VR.nil ?_
          rcases ite_or hm with ⟨h8, hm⟩ | ⟨h8, hm⟩
          · refine VW.condT rfl h8 ?_
            refine VW.seq ?_
            refine VW.region ?_
            refine VR.p rfl rfl (VP.assign rfl) ?_
            refine VR.nil ?_
            obtain rfl := Option.some.inj hm
            have hm := Out.ret_on h4
            obtain rfl := Option.some.inj hm
            exact VW.ret ⟨.inl rfl, _, .cons (.tmp _ _ rfl) .nil, [], _, rfl, rfl, rfl⟩
          · have h8 := bf h8
            refine VW.condF rfl h8 ?_
            refine VW.skip ?_
            refine VW.region ?_
            refine VR.p rfl rfl (VP.move rfl) ?_
            refine VR.p rfl rfl (VP.arith rfl rfl rfl) ?_
            refine VR.p rfl rfl (VP.assign rfl) ?_
            refine VR.nil ?_
            exact ⟨(IntKind.i64.wrap (i2 + (1 : Int))), (), hm, (Shift.pick [] rfl ⟨rfl, rfl, rfl, trivial⟩)⟩
        · have h5 := bf h5
          refine VW.condF rfl h5 ?_
          refine VW.exit ?_
          exact ⟨(), (), (Option.some.inj hm).symm, (Shift.pick [] rfl ⟨rfl, trivial⟩)⟩
      · rintro j _ rfl
        have hm := Out.go_on h4
        refine VW.seq ?_
        refine VW.seq ?_
        refine VW.region ?_
        refine VR.p rfl rfl (VP.assign rfl) ?_
        refine VR.nil ?_
        obtain ⟨o2, h10, h11⟩ := bnd hm
        refine VW.joinE (fun (q : Unit) => o2 = Out.go q) (fun (j2 : Unit) (gg : Unit) => []) (fun (j2 : Unit) (gg : Unit) => []) ?_ ?_
        · have hm := h10
          refine VW.block (VW.loop FU ?_)
          refine VL.fuelS (R := _) (fun zn (zs : Int) => ref09_Light.l2 bs zn zs) (fun (zs : Int) (zg : Unit) => [(1, .list 49 (List.map T_api_Bound.vv bs)), (6, .int .i64 zs)]) (fun (zs : Int) (zg : Unit) => []) (0 : Int) () (fun zs => rfl) (Shift.pick [] rfl ⟨rfl, rfl, trivial⟩) h10 ?_
          rintro n2 i4 _ hm
          rw [ref09_Light.l2] at hm
          refine VW.seq ?_
          refine VW.seq ?_
          refine VW.region ?_
          refine VR.p rfl rfl (VP.move rfl) ?_
          refine VR.p rfl rfl (VP.move rfl) ?_
          refine VR.p rfl rfl (VP.lenT T_api_Bound.vv rfl Try.underlying28) ?_
          refine VR.p rfl rfl (VP.arith rfl rfl rfl) ?_
          refine VR.nil ?_
          rcases ite_or hm with ⟨h12, hm⟩ | ⟨h12, hm⟩
          · refine VW.condT rfl h12 ?_
            refine VW.skip ?_
            refine VW.seq ?_
            refine VW.block ?_
            refine VW.seq ?_
            refine VW.region ?_
            refine VR.p rfl rfl (VP.move rfl) ?_
            refine VR.p rfl rfl (VP.move rfl) ?_
            obtain ⟨x2, h13, hm⟩ := bnd hm
            refine VR.p rfl rfl (VP.glE T_api_Bound.vv rfl rfl el28 h13) ?_
            refine VR.p rfl rfl (VP.fieldE rfl fa49_0) ?_
            refine VR.p rfl rfl (VP.loadE rfl ld33 rfl) ?_
            obtain ⟨r2, h14, hm⟩ := bnd hm
            refine VR.cons rfl rfl (VO.callK 0 rfl fn13 rfl (ref07_LightPod_ok x2.Pod r2 h14) fun _ _ h19 => ?_)
            obtain ⟨rfl, rfl⟩ := h19
            refine VR.p rfl rfl (VP.not rfl) ?_
            refine VR.p rfl rfl (VP.move rfl) ?_
            obtain ⟨c, h17, hm⟩ := bnd hm
            refine VR.sc 8 48 (.bool c) (fun K' J => ?_) ?_
            · have hm := h17
              rcases ite_or hm with ⟨h15, hm⟩ | ⟨h15, hm⟩
              · refine VR.skipG rfl rfl rfl rfl h15 ?_
                refine VR.skipG rfl rfl rfl rfl h15 ?_
                refine VR.skipG rfl rfl rfl rfl h15 ?_
                refine VR.skipG rfl rfl rfl rfl h15 ?_
                refine VR.skipG rfl rfl rfl rfl h15 ?_
                refine VR.skipG rfl rfl rfl rfl h15 ?_
                refine VR.skipG rfl rfl rfl rfl h15 ?_
                refine VR.p rfl rfl (VP.pickB true rfl h15 rfl) ?_
                exact J [_, _, _, _, _, _, _] _ rfl (congrArg VV.bool (Option.some.inj hm))
              · have h15 := bf h15
                refine VR.pG rfl rfl rfl rfl h15 (VP.move rfl) ?_
                refine VR.pG rfl rfl rfl rfl h15 (VP.move rfl) ?_
                obtain ⟨x3, h16, hm⟩ := bnd hm
                refine VR.pG rfl rfl rfl rfl h15 (VP.glE T_api_Bound.vv rfl rfl el28 h16) ?_
                refine VR.pG rfl rfl rfl rfl h15 (VP.fieldE rfl fa49_1) ?_
                refine VR.pG rfl rfl rfl rfl h15 (VP.loadE rfl ld9 rfl) ?_
                refine VR.pG rfl rfl rfl rfl h15 (VP.lenS rfl Try.underlying9) ?_
                refine VR.pG rfl rfl rfl rfl h15 (VP.arith rfl rfl rfl) ?_
                refine VR.p rfl rfl (VP.pickB false rfl h15 rfl) ?_
                exact J [_, _, _, _, _, _, _] _ rfl (congrArg VV.bool (Option.some.inj hm))
            · refine VR.nil ?_
              rcases ite_or hm with ⟨h18, hm⟩ | ⟨h18, hm⟩
              · refine VW.condT rfl h18 ?_
                refine VW.seq ?_
                refine VW.region ?_
                refine VR.p rfl rfl (VP.assign rfl) ?_
                refine VR.nil ?_
                obtain rfl := Option.some.inj hm
                have hm := Out.ret_on h11
                obtain rfl := Option.some.inj hm
                exact VW.ret ⟨.inl rfl, _, .cons (.tmp _ _ rfl) .nil, [], _, rfl, rfl, rfl⟩
              · have h18 := bf h18
                refine VW.condF rfl h18 ?_
                refine VW.skip ?_
                refine VW.region ?_
                refine VR.p rfl rfl (VP.move rfl) ?_
                refine VR.p rfl rfl (VP.arith rfl rfl rfl) ?_
                refine VR.p rfl rfl (VP.assign rfl) ?_
                refine VR.nil ?_
                exact ⟨(IntKind.i64.wrap (i4 + (1 : Int))), (), hm, (Shift.pick [] rfl ⟨rfl, rfl, trivial⟩)⟩
          · have h12 := bf h12
            refine VW.condF rfl h12 ?_
            refine VW.exit ?_
            exact ⟨(), (), (Option.some.inj hm).symm, (Shift.pick [] rfl trivial)⟩
        · rintro j2 _ rfl
          have hm := Out.go_on h11
          refine VW.seq ?_
          refine VW.region ?_
          refine VR.p rfl rfl (VP.assign rfl) ?_
          refine VR.nil ?_
          obtain rfl := Option.some.inj hm
          exact VW.ret ⟨.inl rfl, _, .cons (.tmp _ _ rfl) .nil, [], _, rfl, rfl, rfl⟩

/-! trireme/yard.On -/
def yard_On.l1 (name : ByteArray) : List T_api_Bound → Nat → (List T_api_Pod) → Option (List T_api_Pod)
  | [], k, l2 => some l2
  | x :: l4, k, l2 =>
    if (V.seq x.On name) = true then
      (V.ap 272 l2 [x.Pod]).bind fun l5 =>
      yard_On.l1 name l4 (k + 1) l5
    else
      yard_On.l1 name l4 (k + 1) l2
def yard_On (bs : List T_api_Bound) (name : ByteArray) : Option (List T_api_Pod) :=
  (yard_On.l1 name bs 0 ([] : List T_api_Pod)).bind fun l32 =>
  some l32
theorem yard_On_ok (bs : List T_api_Bound) (name : ByteArray) (r : List T_api_Pod) (hm : yard_On bs name = some r) :
    VC Try.prog 32 [.list 49 (List.map T_api_Bound.vv bs), .str name] [] (fun zx zH => ∃ (ob0 : Option Nat) (cap0 : Nat), zx = .sl ob0 (List.map T_api_Pod.vv r).length cap0 ∧ zH = [.row ob0 33 cap0 (List.map T_api_Pod.vv r)]) := by
  unfold yard_On at hm
  refine VC.run (c := _) (rs := [.tmp 4]) Try.func32 rfl rfl rfl ?_
  refine VW.seq ?_
  refine VW.region ?_
  refine VR.p rfl rfl (VP.assign rfl) ?_
  refine VR.nil ?_
  refine VW.seq ?_
  refine VW.region ?_
  refine VR.p rfl rfl (VP.assign rfl) ?_
  refine VR.nil ?_
  refine VW.seq ?_
  refine VW.seq ?_
  refine VW.region ?_
  refine VR.p rfl rfl (VP.move rfl) ?_
  refine VR.p rfl rfl (VP.lenT T_api_Bound.vv rfl Try.underlying28) ?_
  refine VR.p rfl rfl (VP.move rfl) ?_
  refine VR.nil ?_
  refine VW.lenL 8 rfl fun h5 => ?_
  have h5 := max_map h5
  obtain ⟨o, h3, h4⟩ := bnd hm
  refine VW.joinE (fun (q : List T_api_Pod) => q = o) (fun (l32 : List T_api_Pod) (gg : Option Nat × Nat) => [(5, .sl gg.1 (List.map T_api_Pod.vv l32).length gg.2)]) (fun (l32 : List T_api_Pod) (gg : Option Nat × Nat) => [.row gg.1 33 gg.2 (List.map T_api_Pod.vv l32)]) ?_ ?_
  · have hm := h3
    refine VW.block (VW.loop (bs.length + 1) ?_)
    refine VL.eachS (l := bs) (R := _) (fun zl zk (zs : List T_api_Pod) => yard_On.l1 name zl zk zs) (fun (k : Nat) (zs : List T_api_Pod) (zg : Option Nat × Nat) => [(1, .str name), (5, .sl zg.1 (List.map T_api_Pod.vv zs).length zg.2), (8, .list 49 (List.map T_api_Bound.vv bs)), (9, .int .i64 (bs.length : Int)), (10, .int .i64 (k : Int))]) (fun (k : Nat) (zs : List T_api_Pod) (zg : Option Nat × Nat) => [.row zg.1 33 zg.2 (List.map T_api_Pod.vv zs)]) ([] : List T_api_Pod) (none, 0) (Shift.trans (Shift.nilRow 33) (Shift.pick [0] rfl ⟨rfl, rfl, rfl, rfl, rfl, trivial⟩)) h3 ?_ ?_
    · rintro k l2 ⟨ob2, cap2⟩ hk hm
      rw [yard_On.l1] at hm
      refine VW.seq ?_
      refine VW.region ?_
      refine VR.p rfl rfl (VP.arith rfl rfl rfl) ?_
      refine VR.nil ?_
      refine VW.seq ?_
      refine VW.condF rfl (k_end hk) ?_
      refine VW.exit ?_
      exact ⟨l2, (ob2, cap2), Option.some.inj hm, (Shift.pick [0] rfl ⟨rfl, trivial⟩)⟩
    · rintro k x l4 l2 ⟨ob2, cap2⟩ h6 hm
      rw [yard_On.l1] at hm
      refine VW.seq ?_
      refine VW.region ?_
      refine VR.p rfl rfl (VP.arith rfl rfl rfl) ?_
      refine VR.nil ?_
      refine VW.seq ?_
      refine VW.condT rfl (k_lt h6) ?_
      refine VW.skip ?_
      refine VW.seq ?_
      refine VW.block ?_
      refine VW.seq ?_
      refine VW.region ?_
      refine VR.p rfl rfl (VP.glK T_api_Bound.vv rfl rfl el28 h6) ?_
      refine VR.p rfl rfl (VP.loadE rfl ld49 rfl) ?_
      refine VR.cons rfl rfl (VO.alloc z49 fun b => ?_)
      refine VR.cons rfl rfl (VO.storeP (i := 0) rfl rfl rfl ld49 rfl rfl rfl ?_)
      refine VR.nil ?_
      refine VW.seq ?_
      refine VW.region ?_
      refine VR.p rfl rfl (VP.fieldP rfl fa49_1) ?_
      refine VR.p rfl rfl (VP.loadP (i := 0) rfl rfl ld9 rfl) ?_
      refine VR.p rfl rfl (VP.move rfl) ?_
      refine VR.p rfl rfl (VP.strop rfl rfl rfl) ?_
      refine VR.nil ?_
      rcases ite_or hm with ⟨h8, hm⟩ | ⟨h8, hm⟩
      · refine VW.condT rfl h8 ?_
        refine VW.region ?_
        refine VR.p rfl rfl (VP.move rfl) ?_
        refine VR.p rfl rfl (VP.fieldP rfl fa49_0) ?_
        refine VR.p rfl rfl (VP.loadP (i := 0) rfl rfl ld33 rfl) ?_
        refine VR.cons rfl rfl (VO.buildSlice ap59 rfl rfl rfl rfl rfl fun b2 => ?_)
        obtain ⟨l5, h10, hm⟩ := bnd hm
        refine VR.cons rfl rfl (VO.apT 2 T_api_Pod.vv (l := l2) (l2 := [x.Pod]) ap59 rfl rfl (sT_row 0 T_api_Pod.vv el59 rfl rfl) h10 fun ob4 cap4 => ?_)
        refine VR.p rfl rfl (VP.assign rfl) ?_
        refine VR.nil ?_
        refine VW.region ?_
        refine VR.p rfl rfl (VP.arith rfl rfl rfl) ?_
        refine VR.p rfl rfl (VP.move rfl) ?_
        refine VR.nil ?_
        exact ⟨l5, (ob4, cap4), hm, (Shift.pick [2] rfl ⟨rfl, rfl, rfl, rfl, congrArg some (k_next h6 h5), trivial⟩)⟩
      · have h8 := bf h8
        refine VW.condF rfl h8 ?_
        refine VW.skip ?_
        refine VW.region ?_
        refine VR.p rfl rfl (VP.arith rfl rfl rfl) ?_
        refine VR.p rfl rfl (VP.move rfl) ?_
        refine VR.nil ?_
        exact ⟨l2, (ob2, cap2), hm, (Shift.pick [1] rfl ⟨rfl, rfl, rfl, rfl, congrArg some (k_next h6 h5), trivial⟩)⟩
  · rintro l32 ⟨ob3, cap3⟩ rfl
    have hm := h4
    refine VW.seq ?_
    refine VW.region ?_
    refine VR.p rfl rfl (VP.move rfl) ?_
    refine VR.p rfl rfl (VP.assign rfl) ?_
    refine VR.nil ?_
    obtain rfl := Option.some.inj hm
    exact VW.ret ⟨.inl rfl, _, .cons (.tmp _ _ rfl) .nil, [0], _, rfl, ob3, cap3, rfl, rfl⟩

/-! trireme/res.row -/
def res_row (a : T_api_Res) : Option Arr5_Int :=
  some (⟨a.Cpu, a.Mem, a.Disk, a.Pods, a.Dev⟩ : Arr5_Int)
theorem res_row_ok (a : T_api_Res) (r : Arr5_Int) (hm : res_row a = some r) :
    VC Try.prog 102 [T_api_Res.vv a] [] (fun zx zH => zx = Arr5_Int.vv r ∧ zH = []) := by
  unfold res_row at hm
  refine VC.run (c := _) (rs := [.cell 2 109]) Try.func102 rfl rfl rfl ?_
  refine VW.seq ?_
  refine VW.region ?_
  refine VR.cons rfl rfl (VO.box rfl rfl fun b => ?_)
  refine VR.cons rfl rfl (VO.alloc z109 fun b2 => ?_)
  refine VR.nil ?_
  refine VW.seq ?_
  refine VW.region ?_
  refine VR.p rfl rfl (VP.fieldP rfl fa23_0) ?_
  refine VR.p rfl rfl (VP.loadP (i := 1) rfl rfl ld3 rfl) ?_
  refine VR.p rfl rfl (VP.fieldP rfl fa23_1) ?_
  refine VR.p rfl rfl (VP.loadP (i := 1) rfl rfl ld3 rfl) ?_
  refine VR.p rfl rfl (VP.fieldP rfl fa23_2) ?_
  refine VR.p rfl rfl (VP.loadP (i := 1) rfl rfl ld3 rfl) ?_
  refine VR.p rfl rfl (VP.fieldP rfl fa23_3) ?_
  refine VR.p rfl rfl (VP.loadP (i := 1) rfl rfl ld3 rfl) ?_
  refine VR.p rfl rfl (VP.fieldP rfl fa23_4) ?_
  refine VR.p rfl rfl (VP.loadP (i := 1) rfl rfl ld3 rfl) ?_
  refine VR.p rfl rfl (VP.buildP pl109 rfl rfl) ?_
  refine VR.cons rfl rfl (VO.storeP (i := 0) rfl rfl rfl ld109 rfl rfl rfl ?_)
  refine VR.nil ?_
  obtain rfl := Option.some.inj hm
  exact VW.ret ⟨.inl rfl, _, .cons (.cell _ _ _ _ 0 _ _ _ _ rfl rfl ld109 rfl) .nil, [], _, rfl, rfl, rfl⟩

/-! trireme/res.Right -/
def res_Right.l1 (r : Arr5_Int) : Nat → Int → Option (Out Bool Unit)
  | 0, _ => none
  | n + 1, v2 =>
    if (decide (v2 < (5 : Int))) = true then
      (V.gl (Arr5_Int.l r) v2).bind fun x =>
      if ((decide (x < (0 : Int))) || (decide (x > (1125899906842624 : Int)))) = true then
        some (Out.ret false)
      else
        res_Right.l1 r n (IntKind.i64.wrap (v2 + (1 : Int)))
    else
      some (Out.go ())
def res_Right (a : T_api_Res) : Option Bool :=
  (res_row a).bind fun r =>
  (res_Right.l1 r FU (0 : Int)).bind fun o =>
  o.on fun j =>
  some true
theorem res_Right_ok (a : T_api_Res) (r : Bool) (hm : res_Right a = some r) :
    VC Try.prog 73 [T_api_Res.vv a] [] (fun zx zH => zx = .bool r ∧ zH = []) := by
  unfold res_Right at hm
  refine VC.run (c := _) (rs := [.tmp 2]) Try.func73 rfl rfl rfl ?_
  refine VW.seq ?_
  refine VW.region ?_
  refine VR.cons rfl rfl (VO.box rfl rfl fun b => ?_)
  refine VR.p rfl rfl (VP.assign rfl) ?_
  refine VR.nil ?_
  refine VW.seq ?_
  refine VW.seq ?_
  refine VW.region ?_
  refine VR.p rfl rfl (VP.loadP (i := 0) rfl rfl ld23 rfl) ?_
  obtain ⟨r, h2, hm⟩ := bnd hm
  refine VR.cons rfl rfl (VO.callK 0 rfl fn102 rfl (res_row_ok a r h2) fun _ _ h9 => ?_)
  obtain ⟨rfl, rfl⟩ := h9
  refine VR.p rfl rfl (VP.move rfl) ?_
  refine VR.nil ?_
  obtain ⟨o, h3, h4⟩ := bnd hm
  refine VW.joinE (fun (q : Unit) => o = Out.go q) (fun (j : Unit) (gg : Unit) => []) (fun (j : Unit) (gg : Unit) => []) ?_ ?_
  · have hm := h3
    refine VW.block (VW.loop FU ?_)
    refine VL.fuelS (R := _) (fun zn (zs : Int) => res_Right.l1 r zn zs) (fun (zs : Int) (zg : Unit) => [(6, Arr5_Int.vv r), (7, .int .i64 zs)]) (fun (zs : Int) (zg : Unit) => []) (0 : Int) () (fun zs => rfl) (Shift.pick [] rfl ⟨rfl, rfl, trivial⟩) h3 ?_
    rintro n v2 _ hm
    rw [res_Right.l1] at hm
    refine VW.seq ?_
    refine VW.region ?_
    refine VR.p rfl rfl (VP.arith rfl rfl rfl) ?_
    refine VR.nil ?_
    refine VW.seq ?_
    rcases ite_or hm with ⟨h5, hm⟩ | ⟨h5, hm⟩
    · refine VW.condT rfl h5 ?_
      refine VW.skip ?_
      refine VW.seq ?_
      refine VW.block ?_
      refine VW.seq ?_
      refine VW.region ?_
      obtain ⟨x, h6, hm⟩ := bnd hm
      refine VR.p rfl rfl (VP.indexG (f := (VV.int .i64)) rfl rfl ar109 rfl ld3 h6) ?_
      refine VR.p rfl rfl (VP.assign rfl) ?_
      refine VR.nil ?_
      refine VW.seq ?_
      refine VW.region ?_
      refine VR.p rfl rfl (VP.move rfl) ?_
      refine VR.p rfl rfl (VP.arith rfl rfl rfl) ?_
      refine VR.p rfl rfl (VP.move rfl) ?_
      refine VR.sc 3 15 (.bool ((decide (x < (0 : Int))) || (decide (x > (1125899906842624 : Int))))) (fun K' J => ?_) ?_
      · rcases Bool.eq_false_or_eq_true (decide (x < (0 : Int))) with h7 | h7
        · refine VR.skipG rfl rfl rfl rfl h7 ?_
          refine VR.skipG rfl rfl rfl rfl h7 ?_
          refine VR.p rfl rfl (VP.pickB true rfl h7 rfl) ?_
          exact J [_, _] _ rfl (orT h7)
        · refine VR.pG rfl rfl rfl rfl h7 (VP.move rfl) ?_
          refine VR.pG rfl rfl rfl rfl h7 (VP.arith rfl rfl rfl) ?_
          refine VR.p rfl rfl (VP.pickB false rfl h7 rfl) ?_
          exact J [_, _] _ rfl (orF h7)
      · refine VR.nil ?_
        rcases ite_or hm with ⟨h8, hm⟩ | ⟨h8, hm⟩
        · refine VW.condT rfl h8 ?_
          refine VW.seq ?_
          refine VW.region ?_
          refine VR.p rfl rfl (VP.assign rfl) ?_
          refine VR.nil ?_
          obtain rfl := Option.some.inj hm
          have hm := Out.ret_on h4
          obtain rfl := Option.some.inj hm
          exact VW.ret ⟨.inl rfl, _, .cons (.tmp _ _ rfl) .nil, [], _, rfl, rfl, rfl⟩
        · have h8 := bf h8
          refine VW.condF rfl h8 ?_
          refine VW.skip ?_
          refine VW.region ?_
          refine VR.p rfl rfl (VP.arith rfl rfl rfl) ?_
          refine VR.p rfl rfl (VP.move rfl) ?_
          refine VR.nil ?_
          exact ⟨(IntKind.i64.wrap (v2 + (1 : Int))), (), hm, (Shift.pick [] rfl ⟨rfl, rfl, trivial⟩)⟩
    · have h5 := bf h5
      refine VW.condF rfl h5 ?_
      refine VW.exit ?_
      exact ⟨(), (), (Option.some.inj hm).symm, (Shift.pick [] rfl trivial)⟩
  · rintro j _ rfl
    have hm := Out.go_on h4
    refine VW.seq ?_
    refine VW.region ?_
    refine VR.p rfl rfl (VP.assign rfl) ?_
    refine VR.nil ?_
    obtain rfl := Option.some.inj hm
    exact VW.ret ⟨.inl rfl, _, .cons (.tmp _ _ rfl) .nil, [], _, rfl, rfl, rfl⟩

/-! trireme/yard.Used$1 -/
def yard_Used_1 (i : Int) (a : List T_api_Pod) : Option Bool :=
  (V.gl a i).bind fun x =>
  (res_Right x.Need).bind fun r =>
  some (!r)
theorem yard_Used_1_ok (i : Int) (a : List T_api_Pod) (b : Nat) (r : Bool) (hm : yard_Used_1 i a = some r) :
    VC Try.prog 72 [.int .i64 i, .ptr b 0] [.box b 59 [.list 33 (List.map T_api_Pod.vv a)]] (fun zx zH => zx = .bool r ∧ zH = [.box b 59 [.list 33 (List.map T_api_Pod.vv a)]]) := by
  unfold yard_Used_1 at hm
  refine VC.run (c := _) (rs := [.tmp 3]) Try.func72 rfl rfl rfl ?_
  refine VW.seq ?_
  refine VW.region ?_
  refine VR.p rfl rfl (VP.assign rfl) ?_
  refine VR.nil ?_
  refine VW.seq ?_
  refine VW.region ?_
  refine VR.p rfl rfl (VP.loadP (i := 0) rfl rfl ld59 rfl) ?_
  refine VR.p rfl rfl (VP.move rfl) ?_
  obtain ⟨x, h1, hm⟩ := bnd hm
  refine VR.p rfl rfl (VP.glE T_api_Pod.vv rfl rfl el59 h1) ?_
  refine VR.p rfl rfl (VP.fieldE rfl fa33_1) ?_
  refine VR.p rfl rfl (VP.loadE rfl ld23 rfl) ?_
  obtain ⟨r, h2, hm⟩ := bnd hm
  refine VR.cons rfl rfl (VO.callK 0 rfl fn73 rfl (res_Right_ok x.Need r h2) fun _ _ h3 => ?_)
  obtain ⟨rfl, rfl⟩ := h3
  refine VR.p rfl rfl (VP.not rfl) ?_
  refine VR.p rfl rfl (VP.assign rfl) ?_
  refine VR.nil ?_
  obtain rfl := Option.some.inj hm
  exact VW.ret ⟨.inl rfl, _, .cons (.tmp _ _ rfl) .nil, [0], _, rfl, rfl, rfl⟩

/-! trireme/yard.first -/
def yard_first_yard_Used_1.l1 (n : Int) (c : List T_api_Pod) : Nat → Int → Option (Out Int Unit)
  | 0, _ => none
  | n2 + 1, v2 =>
    if (decide (v2 < n)) = true then
      (yard_Used_1 v2 c).bind fun r =>
      if r = true then
        some (Out.ret v2)
      else
        yard_first_yard_Used_1.l1 n c n2 (IntKind.i64.wrap (v2 + (1 : Int)))
    else
      some (Out.go ())
def yard_first_yard_Used_1 (n : Int) (c : List T_api_Pod) : Option Int :=
  (yard_first_yard_Used_1.l1 n c FU (0 : Int)).bind fun o =>
  o.on fun j =>
  some (-1 : Int)
theorem yard_first_yard_Used_1_ok (n : Int) (c : List T_api_Pod) (b : Nat) (r : Int) (hm : yard_first_yard_Used_1 n c = some r) :
    VC Try.prog 66 [.int .i64 n, .clo (.func 72) [] [.ptr b 0]] [.box b 59 [.list 33 (List.map T_api_Pod.vv c)]] (fun zx zH => zx = .int .i64 r ∧ zH = [.box b 59 [.list 33 (List.map T_api_Pod.vv c)]]) := by
  unfold yard_first_yard_Used_1 at hm
  refine VC.run (c := _) (rs := [.tmp 4]) Try.func66 rfl rfl rfl ?_
  refine VW.seq ?_
  refine VW.region ?_
  refine VR.p rfl rfl (VP.assign rfl) ?_
  refine VR.nil ?_
  refine VW.seq ?_
  refine VW.seq ?_
  refine VW.region ?_
  refine VR.p rfl rfl (VP.move rfl) ?_
  refine VR.p rfl rfl (VP.move rfl) ?_
  refine VR.nil ?_
  obtain ⟨o, h1, h2⟩ := bnd hm
  refine VW.joinE (fun (q : Unit) => o = Out.go q) (fun (j : Unit) (gg : Unit) => []) (fun (j : Unit) (gg : Unit) => [.box b 59 [.list 33 (List.map T_api_Pod.vv c)]]) ?_ ?_
  · have hm := h1
    refine VW.block (VW.loop FU ?_)
    refine VL.fuelS (R := _) (fun zn (zs : Int) => yard_first_yard_Used_1.l1 n c zn zs) (fun (zs : Int) (zg : Unit) => [(1, .clo (.func 72) [] [.ptr b 0]), (6, .int .i64 n), (7, .int .i64 zs)]) (fun (zs : Int) (zg : Unit) => [.box b 59 [.list 33 (List.map T_api_Pod.vv c)]]) (0 : Int) () (fun zs => rfl) (Shift.pick [0] rfl ⟨rfl, rfl, rfl, trivial⟩) h1 ?_
    rintro n2 v2 _ hm
    rw [yard_first_yard_Used_1.l1] at hm
    refine VW.seq ?_
    refine VW.region ?_
    refine VR.p rfl rfl (VP.arith rfl rfl rfl) ?_
    refine VR.nil ?_
    refine VW.seq ?_
    rcases ite_or hm with ⟨h3, hm⟩ | ⟨h3, hm⟩
    · refine VW.condT rfl h3 ?_
      refine VW.skip ?_
      refine VW.seq ?_
      refine VW.block ?_
      refine VW.seq ?_
      refine VW.region ?_
      refine VR.p rfl rfl (VP.move rfl) ?_
      refine VR.p rfl rfl (VP.assign rfl) ?_
      refine VR.nil ?_
      refine VW.seq ?_
      refine VW.region ?_
      refine VR.p rfl rfl (VP.move rfl) ?_
      refine VR.p rfl rfl (VP.move rfl) ?_
      obtain ⟨r, h4, hm⟩ := bnd hm
      refine VR.cons rfl rfl (VO.callK 1 rfl fn72 rfl (yard_Used_1_ok v2 c b r h4) fun _ _ h6 => ?_)
      obtain ⟨rfl, rfl⟩ := h6
      refine VR.nil ?_
      rcases ite_or hm with ⟨h5, hm⟩ | ⟨h5, hm⟩
      · refine VW.condT rfl h5 ?_
        refine VW.seq ?_
        refine VW.region ?_
        refine VR.p rfl rfl (VP.move rfl) ?_
        refine VR.p rfl rfl (VP.assign rfl) ?_
        refine VR.nil ?_
        obtain rfl := Option.some.inj hm
        have hm := Out.ret_on h2
        obtain rfl := Option.some.inj hm
        exact VW.ret ⟨.inl rfl, _, .cons (.tmp _ _ rfl) .nil, [0], _, rfl, rfl, rfl⟩
      · have h5 := bf h5
        refine VW.condF rfl h5 ?_
        refine VW.skip ?_
        refine VW.region ?_
        refine VR.p rfl rfl (VP.arith rfl rfl rfl) ?_
        refine VR.p rfl rfl (VP.move rfl) ?_
        refine VR.nil ?_
        exact ⟨(IntKind.i64.wrap (v2 + (1 : Int))), (), hm, (Shift.pick [0] rfl ⟨rfl, rfl, rfl, trivial⟩)⟩
    · have h3 := bf h3
      refine VW.condF rfl h3 ?_
      refine VW.exit ?_
      exact ⟨(), (), (Option.some.inj hm).symm, (Shift.pick [0] rfl trivial)⟩
  · rintro j _ rfl
    have hm := Out.go_on h2
    refine VW.seq ?_
    refine VW.region ?_
    refine VR.p rfl rfl (VP.assign rfl) ?_
    refine VR.nil ?_
    obtain rfl := Option.some.inj hm
    exact VW.ret ⟨.inl rfl, _, .cons (.tmp _ _ rfl) .nil, [0], _, rfl, rfl, rfl⟩

/-! trireme/res.Add$1 -/
def res_Add_1 (x : Int) (y : Int) : Option Int :=
  some (IntKind.i64.wrap (x + y))
theorem res_Add_1_ok (x : Int) (y : Int) (r : Int) (hm : res_Add_1 x y = some r) :
    VC Try.prog 104 [.int .i64 x, .int .i64 y] [] (fun zx zH => zx = .int .i64 r ∧ zH = []) := by
  unfold res_Add_1 at hm
  refine VC.run (c := _) (rs := [.tmp 4]) Try.func104 rfl rfl rfl ?_
  refine VW.seq ?_
  refine VW.region ?_
  refine VR.p rfl rfl (VP.assign rfl) ?_
  refine VR.nil ?_
  refine VW.seq ?_
  refine VW.region ?_
  refine VR.p rfl rfl (VP.move rfl) ?_
  refine VR.p rfl rfl (VP.move rfl) ?_
  refine VR.p rfl rfl (VP.arith rfl rfl rfl) ?_
  refine VR.p rfl rfl (VP.assign rfl) ?_
  refine VR.nil ?_
  obtain rfl := Option.some.inj hm
  exact VW.ret ⟨.inl rfl, _, .cons (.tmp _ _ rfl) .nil, [], _, rfl, rfl, rfl⟩

/-! trireme/res.back -/
def res_back (l : Arr5_Int) : Option T_api_Res :=
  some (⟨l.x0, l.x1, l.x2, l.x3, l.x4⟩ : T_api_Res)
theorem res_back_ok (l : Arr5_Int) (r : T_api_Res) (hm : res_back l = some r) :
    VC Try.prog 125 [Arr5_Int.vv l] [] (fun zx zH => zx = T_api_Res.vv r ∧ zH = []) := by
  unfold res_back at hm
  refine VC.run (c := _) (rs := [.cell 2 23]) Try.func125 rfl rfl rfl ?_
  refine VW.seq ?_
  refine VW.region ?_
  refine VR.cons rfl rfl (VO.box rfl rfl fun b => ?_)
  refine VR.cons rfl rfl (VO.alloc z23 fun b2 => ?_)
  refine VR.nil ?_
  refine VW.seq ?_
  refine VW.region ?_
  refine VR.p rfl rfl (VP.indexA rfl rfl ar109 (by decide) (by decide)) ?_
  refine VR.p rfl rfl (VP.loadP (i := 1) rfl rfl ld3 rfl) ?_
  refine VR.p rfl rfl (VP.indexA rfl rfl ar109 (by decide) (by decide)) ?_
  refine VR.p rfl rfl (VP.loadP (i := 1) rfl rfl ld3 rfl) ?_
  refine VR.p rfl rfl (VP.indexA rfl rfl ar109 (by decide) (by decide)) ?_
  refine VR.p rfl rfl (VP.loadP (i := 1) rfl rfl ld3 rfl) ?_
  refine VR.p rfl rfl (VP.indexA rfl rfl ar109 (by decide) (by decide)) ?_
  refine VR.p rfl rfl (VP.loadP (i := 1) rfl rfl ld3 rfl) ?_
  refine VR.p rfl rfl (VP.indexA rfl rfl ar109 (by decide) (by decide)) ?_
  refine VR.p rfl rfl (VP.loadP (i := 1) rfl rfl ld3 rfl) ?_
  refine VR.p rfl rfl (VP.buildP pl23 rfl rfl) ?_
  refine VR.cons rfl rfl (VO.storeP (i := 0) rfl rfl rfl ld23 rfl rfl rfl ?_)
  refine VR.nil ?_
  obtain rfl := Option.some.inj hm
  exact VW.ret ⟨.inl rfl, _, .cons (.cell _ _ _ _ 0 _ _ _ _ rfl rfl ld23 rfl) .nil, [], _, rfl, rfl, rfl⟩

/-! trireme/res.each -/
def res_each_res_Add_1.l1 (j : Arr5_Int × Arr5_Int) : Nat → Arr5_Int → Int → Option Arr5_Int
  | 0, _, _ => none
  | n + 1, l3, v2 =>
    if (decide (v2 < (5 : Int))) = true then
      (V.gl (Arr5_Int.l l3) v2).bind fun x =>
      (V.gl (Arr5_Int.l j.2) v2).bind fun x2 =>
      (res_Add_1 x x2).bind fun r19 =>
      (V.gl (Arr5_Int.l l3) v2).bind fun x3 =>
      (Arr5_Int.put l3 v2 r19).bind fun l6 =>
      res_each_res_Add_1.l1 j n l6 (IntKind.i64.wrap (v2 + (1 : Int)))
    else
      some l3
def res_each_res_Add_1 (a : T_api_Res) (b : T_api_Res) (wrong : Int) : Option (T_api_Res × Int) :=
  (res_Right a).bind fun r =>
  (if (!r) = true then some true else (res_Right b).bind fun r2 =>
  some (!r2)).bind fun c =>
  if c = true then
    some ((⟨(0 : Int), (0 : Int), (0 : Int), (0 : Int), (0 : Int)⟩ : T_api_Res), (1 : Int))
  else
    ((res_row a).bind fun r3 =>
    (res_row b).bind fun r4 =>
    some (r3, r4)).bind fun j =>
    (res_each_res_Add_1.l1 j FU j.1 (0 : Int)).bind fun l42 =>
    (res_back l42).bind fun r20 =>
    (res_Right r20).bind fun r21 =>
    if r21 = true then
      some (r20, (0 : Int))
    else
      some ((⟨(0 : Int), (0 : Int), (0 : Int), (0 : Int), (0 : Int)⟩ : T_api_Res), wrong)
theorem res_each_res_Add_1_ok (a : T_api_Res) (b : T_api_Res) (wrong : Int) (r : T_api_Res × Int) (hm : res_each_res_Add_1 a b wrong = some r) :
    VC Try.prog 103 [T_api_Res.vv a, T_api_Res.vv b, .clo (.func 104) [] [], .int .i64 wrong] [] (fun zx zH => zx = .tup [T_api_Res.vv r.1, .int .i64 r.2] ∧ zH = []) := by
  unfold res_each_res_Add_1 at hm
  refine VC.run (c := _) (rs := [.cell 8 23, .tmp 9]) Try.func103 rfl rfl rfl ?_
  refine VW.seq ?_
  refine VW.region ?_
  refine VR.cons rfl rfl (VO.box rfl rfl fun b2 => ?_)
  refine VR.cons rfl rfl (VO.box rfl rfl fun b3 => ?_)
  refine VR.cons rfl rfl (VO.alloc z23 fun b4 => ?_)
  refine VR.p rfl rfl (VP.assign rfl) ?_
  refine VR.nil ?_
  refine VW.seq ?_
  refine VW.seq ?_
  refine VW.region ?_
  refine VR.p rfl rfl (VP.loadP (i := 2) rfl rfl ld23 rfl) ?_
  obtain ⟨r, h4, hm⟩ := bnd hm
  refine VR.cons rfl rfl (VO.callK 0 rfl fn73 rfl (res_Right_ok a r h4) fun _ _ h79 => ?_)
  obtain ⟨rfl, rfl⟩ := h79
  refine VR.p rfl rfl (VP.not rfl) ?_
  refine VR.p rfl rfl (VP.move rfl) ?_
  obtain ⟨c, h8, hm⟩ := bnd hm
  refine VR.sc 4 21 (.bool c) (fun K' J => ?_) ?_
  · have hm := h8
    rcases ite_or hm with ⟨h5, hm⟩ | ⟨h5, hm⟩
    · refine VR.skipG rfl rfl rfl rfl h5 ?_
      refine VR.skipG rfl rfl rfl rfl h5 ?_
      refine VR.skipG rfl rfl rfl rfl h5 ?_
      refine VR.p rfl rfl (VP.pickB true rfl h5 rfl) ?_
      exact J [_, _, _] _ rfl (congrArg VV.bool (Option.some.inj hm))
    · have h5 := bf h5
      refine VR.pG rfl rfl rfl rfl h5 (VP.loadP (i := 1) rfl rfl ld23 rfl) ?_
      obtain ⟨r2, h6, hm⟩ := bnd hm
      refine VR.consG rfl rfl rfl rfl h5 (VO.callK 0 rfl fn73 rfl (res_Right_ok b r2 h6) fun _ _ h7 => ?_)
      obtain ⟨rfl, rfl⟩ := h7
      refine VR.pG rfl rfl rfl rfl h5 (VP.not rfl) ?_
      refine VR.p rfl rfl (VP.pickB false rfl h5 rfl) ?_
      exact J [_, _, _] _ rfl (congrArg VV.bool (Option.some.inj hm))
  · refine VR.nil ?_
    rcases ite_or hm with ⟨h9, hm⟩ | ⟨h9, hm⟩
    · refine VW.condT rfl h9 ?_
      refine VW.seq ?_
      refine VW.region ?_
      refine VR.p rfl rfl (VP.buildP pl23 rfl rfl) ?_
      refine VR.cons rfl rfl (VO.storeP (i := 0) rfl rfl rfl ld23 rfl rfl rfl ?_)
      refine VR.p rfl rfl (VP.assign rfl) ?_
      refine VR.nil ?_
      obtain rfl := Option.some.inj hm
      exact VW.ret ⟨.inl rfl, _, .cons (.cell _ _ _ _ 0 _ _ _ _ rfl rfl ld23 rfl) (.cons (.tmp _ _ rfl) .nil), [], _, rfl, rfl, rfl⟩
    · have h9 := bf h9
      refine VW.condF rfl h9 ?_
      refine VW.skip ?_
      obtain ⟨o, h12, h13⟩ := bnd hm
      refine VW.join (fun (q : Arr5_Int × Arr5_Int) => q = o) (fun (j : Arr5_Int × Arr5_Int) (gg : Nat × Nat) => [(2, .clo (.func 104) [] []), (3, .int .i64 wrong), (8, .ptr b4 0), (10, .ptr gg.1 0), (11, .ptr gg.2 0)]) (fun (j : Arr5_Int × Arr5_Int) (gg : Nat × Nat) => [.box gg.2 109 (Arr5_Int.cells j.2), .box gg.1 109 (Arr5_Int.cells j.1), .box b4 23 (T_api_Res.cells (⟨(0 : Int), (0 : Int), (0 : Int), (0 : Int), (0 : Int)⟩ : T_api_Res))]) ?_ ?_
      · have hm := h12
        refine VW.drawK 0 mixed ?_
        refine VA.p 0 rfl rfl rfl (by kernel_rfl) (VP.loadP (i := 2) rfl rfl ld23 rfl) ?_
        refine VA.p 2 rfl rfl rfl (by kernel_rfl) (VP.loadP (i := 1) rfl rfl ld23 rfl) ?_
        refine VA.all [1, 4, 5] (by kernel_rfl) ⟨?_, ?_, ?_, trivial⟩
        · obtain ⟨r3, h14, hm⟩ := bnd hm
          refine VB.o rfl rfl rfl (VO.callK 0 rfl fn102 rfl (res_row_ok a r3 h14) fun _ _ h35 => ?_)
          obtain ⟨rfl, rfl⟩ := h35
          refine VA.all [3, 4, 5] (by kernel_rfl) ⟨?_, ?_, ?_, trivial⟩
          · obtain ⟨r4, h15, hm⟩ := bnd hm
            refine VB.o rfl rfl rfl (VO.callK 0 rfl fn102 rfl (res_row_ok b r4 h15) fun _ _ h20 => ?_)
            obtain ⟨rfl, rfl⟩ := h20
            refine VA.all [4, 5] (by kernel_rfl) ⟨?_, ?_, trivial⟩
            · refine VB.o rfl rfl rfl (VO.alloc z109 fun b7 => ?_)
              refine VA.all [5] (by kernel_rfl) ⟨?_, trivial⟩
              refine VB.o rfl rfl rfl (VO.alloc z109 fun b8 => ?_)
              refine VA.all [6] (by kernel_rfl) ⟨?_, trivial⟩
              refine VB.o rfl rfl rfl (VO.storeP (i := 1) rfl rfl rfl ld109 rfl rfl rfl ?_)
              refine VA.all [7] (by kernel_rfl) ⟨?_, trivial⟩
              refine VB.o rfl rfl rfl (VO.storeP (i := 0) rfl rfl rfl ld109 rfl rfl rfl ?_)
              refine VA.done (by kernel_rfl) ?_
              exact ⟨(r3, r4), (b7, b8), Option.some.inj hm, (Shift.pick [0, 0, 0] rfl ⟨rfl, rfl, rfl, rfl, rfl, trivial⟩)⟩
            · refine VB.o rfl rfl rfl (VO.alloc z109 fun b9 => ?_)
              refine VA.all [4] (by kernel_rfl) ⟨?_, trivial⟩
              refine VB.o rfl rfl rfl (VO.alloc z109 fun b10 => ?_)
              refine VA.all [6] (by kernel_rfl) ⟨?_, trivial⟩
              refine VB.o rfl rfl rfl (VO.storeP (i := 0) rfl rfl rfl ld109 rfl rfl rfl ?_)
              refine VA.all [7] (by kernel_rfl) ⟨?_, trivial⟩
              refine VB.o rfl rfl rfl (VO.storeP (i := 1) rfl rfl rfl ld109 rfl rfl rfl ?_)
              refine VA.done (by kernel_rfl) ?_
              exact ⟨(r3, r4), (b10, b9), Option.some.inj hm, (Shift.pick [1, 0, 0] rfl ⟨rfl, rfl, rfl, rfl, rfl, trivial⟩)⟩
          · refine VB.o rfl rfl rfl (VO.alloc z109 fun b11 => ?_)
            refine VA.all [3, 5] (by kernel_rfl) ⟨?_, ?_, trivial⟩
            · obtain ⟨r5, h22, hm⟩ := bnd hm
              refine VB.o rfl rfl rfl (VO.callK 0 rfl fn102 rfl (res_row_ok b r5 h22) fun _ _ h24 => ?_)
              obtain ⟨rfl, rfl⟩ := h24
              refine VA.all [5] (by kernel_rfl) ⟨?_, trivial⟩
              refine VB.o rfl rfl rfl (VO.alloc z109 fun b12 => ?_)
              refine VA.all [6] (by kernel_rfl) ⟨?_, trivial⟩
              refine VB.o rfl rfl rfl (VO.storeP (i := 1) rfl rfl rfl ld109 rfl rfl rfl ?_)
              refine VA.all [7] (by kernel_rfl) ⟨?_, trivial⟩
              refine VB.o rfl rfl rfl (VO.storeP (i := 0) rfl rfl rfl ld109 rfl rfl rfl ?_)
              refine VA.done (by kernel_rfl) ?_
              exact ⟨(r3, r5), (b11, b12), Option.some.inj hm, (Shift.pick [0, 0, 0] rfl ⟨rfl, rfl, rfl, rfl, rfl, trivial⟩)⟩
            · refine VB.o rfl rfl rfl (VO.alloc z109 fun b13 => ?_)
              refine VA.all [3] (by kernel_rfl) ⟨?_, trivial⟩
              obtain ⟨r6, h26, hm⟩ := bnd hm
              refine VB.o rfl rfl rfl (VO.callK 0 rfl fn102 rfl (res_row_ok b r6 h26) fun _ _ h27 => ?_)
              obtain ⟨rfl, rfl⟩ := h27
              refine VA.all [6] (by kernel_rfl) ⟨?_, trivial⟩
              refine VB.o rfl rfl rfl (VO.storeP (i := 1) rfl rfl rfl ld109 rfl rfl rfl ?_)
              refine VA.all [7] (by kernel_rfl) ⟨?_, trivial⟩
              refine VB.o rfl rfl rfl (VO.storeP (i := 0) rfl rfl rfl ld109 rfl rfl rfl ?_)
              refine VA.done (by kernel_rfl) ?_
              exact ⟨(r3, r6), (b11, b13), Option.some.inj hm, (Shift.pick [0, 0, 0] rfl ⟨rfl, rfl, rfl, rfl, rfl, trivial⟩)⟩
          · refine VB.o rfl rfl rfl (VO.alloc z109 fun b14 => ?_)
            refine VA.all [3, 4] (by kernel_rfl) ⟨?_, ?_, trivial⟩
            · obtain ⟨r7, h29, hm⟩ := bnd hm
              refine VB.o rfl rfl rfl (VO.callK 0 rfl fn102 rfl (res_row_ok b r7 h29) fun _ _ h31 => ?_)
              obtain ⟨rfl, rfl⟩ := h31
              refine VA.all [4] (by kernel_rfl) ⟨?_, trivial⟩
              refine VB.o rfl rfl rfl (VO.alloc z109 fun b15 => ?_)
              refine VA.all [6] (by kernel_rfl) ⟨?_, trivial⟩
              refine VB.o rfl rfl rfl (VO.storeP (i := 0) rfl rfl rfl ld109 rfl rfl rfl ?_)
              refine VA.all [7] (by kernel_rfl) ⟨?_, trivial⟩
              refine VB.o rfl rfl rfl (VO.storeP (i := 1) rfl rfl rfl ld109 rfl rfl rfl ?_)
              refine VA.done (by kernel_rfl) ?_
              exact ⟨(r3, r7), (b15, b14), Option.some.inj hm, (Shift.pick [1, 0, 0] rfl ⟨rfl, rfl, rfl, rfl, rfl, trivial⟩)⟩
            · refine VB.o rfl rfl rfl (VO.alloc z109 fun b16 => ?_)
              refine VA.all [3] (by kernel_rfl) ⟨?_, trivial⟩
              obtain ⟨r8, h33, hm⟩ := bnd hm
              refine VB.o rfl rfl rfl (VO.callK 0 rfl fn102 rfl (res_row_ok b r8 h33) fun _ _ h34 => ?_)
              obtain ⟨rfl, rfl⟩ := h34
              refine VA.all [6] (by kernel_rfl) ⟨?_, trivial⟩
              refine VB.o rfl rfl rfl (VO.storeP (i := 0) rfl rfl rfl ld109 rfl rfl rfl ?_)
              refine VA.all [7] (by kernel_rfl) ⟨?_, trivial⟩
              refine VB.o rfl rfl rfl (VO.storeP (i := 1) rfl rfl rfl ld109 rfl rfl rfl ?_)
              refine VA.done (by kernel_rfl) ?_
              exact ⟨(r3, r8), (b16, b14), Option.some.inj hm, (Shift.pick [1, 0, 0] rfl ⟨rfl, rfl, rfl, rfl, rfl, trivial⟩)⟩
        · refine VB.o rfl rfl rfl (VO.alloc z109 fun b17 => ?_)
          refine VA.all [1, 5] (by kernel_rfl) ⟨?_, ?_, trivial⟩
          · obtain ⟨r9, h37, hm⟩ := bnd hm
            refine VB.o rfl rfl rfl (VO.callK 0 rfl fn102 rfl (res_row_ok a r9 h37) fun _ _ h44 => ?_)
            obtain ⟨rfl, rfl⟩ := h44
            refine VA.all [3, 5] (by kernel_rfl) ⟨?_, ?_, trivial⟩
            · obtain ⟨r10, h38, hm⟩ := bnd hm
              refine VB.o rfl rfl rfl (VO.callK 0 rfl fn102 rfl (res_row_ok b r10 h38) fun _ _ h40 => ?_)
              obtain ⟨rfl, rfl⟩ := h40
              refine VA.all [5] (by kernel_rfl) ⟨?_, trivial⟩
              refine VB.o rfl rfl rfl (VO.alloc z109 fun b18 => ?_)
              refine VA.all [6] (by kernel_rfl) ⟨?_, trivial⟩
              refine VB.o rfl rfl rfl (VO.storeP (i := 1) rfl rfl rfl ld109 rfl rfl rfl ?_)
              refine VA.all [7] (by kernel_rfl) ⟨?_, trivial⟩
              refine VB.o rfl rfl rfl (VO.storeP (i := 0) rfl rfl rfl ld109 rfl rfl rfl ?_)
              refine VA.done (by kernel_rfl) ?_
              exact ⟨(r9, r10), (b17, b18), Option.some.inj hm, (Shift.pick [0, 0, 0] rfl ⟨rfl, rfl, rfl, rfl, rfl, trivial⟩)⟩
            · refine VB.o rfl rfl rfl (VO.alloc z109 fun b19 => ?_)
              refine VA.all [3] (by kernel_rfl) ⟨?_, trivial⟩
              obtain ⟨r11, h42, hm⟩ := bnd hm
              refine VB.o rfl rfl rfl (VO.callK 0 rfl fn102 rfl (res_row_ok b r11 h42) fun _ _ h43 => ?_)
              obtain ⟨rfl, rfl⟩ := h43
              refine VA.all [6] (by kernel_rfl) ⟨?_, trivial⟩
              refine VB.o rfl rfl rfl (VO.storeP (i := 1) rfl rfl rfl ld109 rfl rfl rfl ?_)
              refine VA.all [7] (by kernel_rfl) ⟨?_, trivial⟩
              refine VB.o rfl rfl rfl (VO.storeP (i := 0) rfl rfl rfl ld109 rfl rfl rfl ?_)
              refine VA.done (by kernel_rfl) ?_
              exact ⟨(r9, r11), (b17, b19), Option.some.inj hm, (Shift.pick [0, 0, 0] rfl ⟨rfl, rfl, rfl, rfl, rfl, trivial⟩)⟩
          · refine VB.o rfl rfl rfl (VO.alloc z109 fun b20 => ?_)
            refine VA.all [1] (by kernel_rfl) ⟨?_, trivial⟩
            obtain ⟨r12, h46, hm⟩ := bnd hm
            refine VB.o rfl rfl rfl (VO.callK 0 rfl fn102 rfl (res_row_ok a r12 h46) fun _ _ h49 => ?_)
            obtain ⟨rfl, rfl⟩ := h49
            refine VA.all [3] (by kernel_rfl) ⟨?_, trivial⟩
            obtain ⟨r13, h47, hm⟩ := bnd hm
            refine VB.o rfl rfl rfl (VO.callK 0 rfl fn102 rfl (res_row_ok b r13 h47) fun _ _ h48 => ?_)
            obtain ⟨rfl, rfl⟩ := h48
            refine VA.all [6] (by kernel_rfl) ⟨?_, trivial⟩
            refine VB.o rfl rfl rfl (VO.storeP (i := 1) rfl rfl rfl ld109 rfl rfl rfl ?_)
            refine VA.all [7] (by kernel_rfl) ⟨?_, trivial⟩
            refine VB.o rfl rfl rfl (VO.storeP (i := 0) rfl rfl rfl ld109 rfl rfl rfl ?_)
            refine VA.done (by kernel_rfl) ?_
            exact ⟨(r12, r13), (b17, b20), Option.some.inj hm, (Shift.pick [0, 0, 0] rfl ⟨rfl, rfl, rfl, rfl, rfl, trivial⟩)⟩
        · refine VB.o rfl rfl rfl (VO.alloc z109 fun b21 => ?_)
          refine VA.all [1, 4] (by kernel_rfl) ⟨?_, ?_, trivial⟩
          · obtain ⟨r14, h51, hm⟩ := bnd hm
            refine VB.o rfl rfl rfl (VO.callK 0 rfl fn102 rfl (res_row_ok a r14 h51) fun _ _ h58 => ?_)
            obtain ⟨rfl, rfl⟩ := h58
            refine VA.all [3, 4] (by kernel_rfl) ⟨?_, ?_, trivial⟩
            · obtain ⟨r15, h52, hm⟩ := bnd hm
              refine VB.o rfl rfl rfl (VO.callK 0 rfl fn102 rfl (res_row_ok b r15 h52) fun _ _ h54 => ?_)
              obtain ⟨rfl, rfl⟩ := h54
              refine VA.all [4] (by kernel_rfl) ⟨?_, trivial⟩
              refine VB.o rfl rfl rfl (VO.alloc z109 fun b22 => ?_)
              refine VA.all [6] (by kernel_rfl) ⟨?_, trivial⟩
              refine VB.o rfl rfl rfl (VO.storeP (i := 0) rfl rfl rfl ld109 rfl rfl rfl ?_)
              refine VA.all [7] (by kernel_rfl) ⟨?_, trivial⟩
              refine VB.o rfl rfl rfl (VO.storeP (i := 1) rfl rfl rfl ld109 rfl rfl rfl ?_)
              refine VA.done (by kernel_rfl) ?_
              exact ⟨(r14, r15), (b22, b21), Option.some.inj hm, (Shift.pick [1, 0, 0] rfl ⟨rfl, rfl, rfl, rfl, rfl, trivial⟩)⟩
            · refine VB.o rfl rfl rfl (VO.alloc z109 fun b23 => ?_)
              refine VA.all [3] (by kernel_rfl) ⟨?_, trivial⟩
              obtain ⟨r16, h56, hm⟩ := bnd hm
              refine VB.o rfl rfl rfl (VO.callK 0 rfl fn102 rfl (res_row_ok b r16 h56) fun _ _ h57 => ?_)
              obtain ⟨rfl, rfl⟩ := h57
              refine VA.all [6] (by kernel_rfl) ⟨?_, trivial⟩
              refine VB.o rfl rfl rfl (VO.storeP (i := 0) rfl rfl rfl ld109 rfl rfl rfl ?_)
              refine VA.all [7] (by kernel_rfl) ⟨?_, trivial⟩
              refine VB.o rfl rfl rfl (VO.storeP (i := 1) rfl rfl rfl ld109 rfl rfl rfl ?_)
              refine VA.done (by kernel_rfl) ?_
              exact ⟨(r14, r16), (b23, b21), Option.some.inj hm, (Shift.pick [1, 0, 0] rfl ⟨rfl, rfl, rfl, rfl, rfl, trivial⟩)⟩
          · refine VB.o rfl rfl rfl (VO.alloc z109 fun b24 => ?_)
            refine VA.all [1] (by kernel_rfl) ⟨?_, trivial⟩
            obtain ⟨r17, h60, hm⟩ := bnd hm
            refine VB.o rfl rfl rfl (VO.callK 0 rfl fn102 rfl (res_row_ok a r17 h60) fun _ _ h63 => ?_)
            obtain ⟨rfl, rfl⟩ := h63
            refine VA.all [3] (by kernel_rfl) ⟨?_, trivial⟩
            obtain ⟨r18, h61, hm⟩ := bnd hm
            refine VB.o rfl rfl rfl (VO.callK 0 rfl fn102 rfl (res_row_ok b r18 h61) fun _ _ h62 => ?_)
            obtain ⟨rfl, rfl⟩ := h62
            refine VA.all [6] (by kernel_rfl) ⟨?_, trivial⟩
            refine VB.o rfl rfl rfl (VO.storeP (i := 0) rfl rfl rfl ld109 rfl rfl rfl ?_)
            refine VA.all [7] (by kernel_rfl) ⟨?_, trivial⟩
            refine VB.o rfl rfl rfl (VO.storeP (i := 1) rfl rfl rfl ld109 rfl rfl rfl ?_)
            refine VA.done (by kernel_rfl) ?_
            exact ⟨(r17, r18), (b24, b21), Option.some.inj hm, (Shift.pick [1, 0, 0] rfl ⟨rfl, rfl, rfl, rfl, rfl, trivial⟩)⟩
      · rintro j ⟨b5, b6⟩ rfl
        have hm := h13
        refine VW.seq ?_
        refine VW.seq ?_
        refine VW.region ?_
        refine VR.p rfl rfl (VP.move rfl) ?_
        refine VR.nil ?_
        obtain ⟨o2, h64, h65⟩ := bnd hm
        refine VW.joinE (fun (q : Arr5_Int) => q = o2) (fun (l42 : Arr5_Int) (gg : Unit) => [(3, .int .i64 wrong), (8, .ptr b4 0), (10, .ptr b5 0)]) (fun (l42 : Arr5_Int) (gg : Unit) => [.box b5 109 (Arr5_Int.cells l42), .box b4 23 (T_api_Res.cells (⟨(0 : Int), (0 : Int), (0 : Int), (0 : Int), (0 : Int)⟩ : T_api_Res))]) ?_ ?_
        · have hm := h64
          refine VW.block (VW.loop FU ?_)
          refine VL.fuelS (R := _) (fun zn (zs : Arr5_Int × Int) => res_each_res_Add_1.l1 j zn zs.1 zs.2) (fun (zs : Arr5_Int × Int) (zg : Unit) => [(2, .clo (.func 104) [] []), (3, .int .i64 wrong), (8, .ptr b4 0), (10, .ptr b5 0), (11, .ptr b6 0), (27, .int .i64 zs.2)]) (fun (zs : Arr5_Int × Int) (zg : Unit) => [.box b6 109 (Arr5_Int.cells j.2), .box b5 109 (Arr5_Int.cells zs.1), .box b4 23 (T_api_Res.cells (⟨(0 : Int), (0 : Int), (0 : Int), (0 : Int), (0 : Int)⟩ : T_api_Res))]) (j.1, (0 : Int)) () (fun zs => rfl) (Shift.pick [0, 0, 0] rfl ⟨rfl, rfl, rfl, rfl, rfl, rfl, trivial⟩) h64 ?_
          rintro n ⟨l3, v2⟩ _ hm
          rw [res_each_res_Add_1.l1] at hm
          refine VW.seq ?_
          refine VW.region ?_
          refine VR.p rfl rfl (VP.arith rfl rfl rfl) ?_
          refine VR.nil ?_
          refine VW.seq ?_
          rcases ite_or hm with ⟨h66, hm⟩ | ⟨h66, hm⟩
          · refine VW.condT rfl h66 ?_
            refine VW.skip ?_
            refine VW.seq ?_
            refine VW.block ?_
            refine VW.seq ?_
            refine VW.region ?_
            refine VR.p rfl rfl (VP.move rfl) ?_
            refine VR.p rfl rfl (VP.assign rfl) ?_
            refine VR.nil ?_
            refine VW.shift (Shift.mem [1, 0, 0] rfl) ?_
            refine VW.drawK 1 mixed ?_
            refine VA.p 0 rfl rfl rfl (by kernel_rfl) (VP.move rfl) ?_
            refine VA.p 1 rfl rfl rfl (by kernel_rfl) (VP.move rfl) ?_
            refine VA.p 2 rfl rfl rfl (by kernel_rfl) (VP.move rfl) ?_
            obtain ⟨x, h67, hm⟩ := bnd hm
            refine VA.p 3 rfl rfl rfl (by kernel_rfl) (VP.indexA rfl rfl ar109 (gl_pos2 h67).1 (gl_pos2 h67).2) ?_
            refine VA.p 5 rfl rfl rfl (by kernel_rfl) (VP.move rfl) ?_
            obtain ⟨x2, h68, hm⟩ := bnd hm
            refine VA.p 6 rfl rfl rfl (by kernel_rfl) (VP.indexA rfl rfl ar109 (gl_pos2 h68).1 (gl_pos2 h68).2) ?_
            refine VA.p 7 rfl rfl rfl (by kernel_rfl) (VP.loadA 0 (f := (VV.int .i64)) (l := Arr5_Int.l j.2) rfl rfl ld3 rfl h68) ?_
            refine VA.all [4] (by kernel_rfl) ⟨?_, trivial⟩
            refine VB.o rfl rfl rfl (VP.vo (VP.loadA 0 (f := (VV.int .i64)) (l := Arr5_Int.l l3) rfl rfl ld3 rfl h67) ?_)
            refine VA.all [8] (by kernel_rfl) ⟨?_, trivial⟩
            obtain ⟨r19, h69, hm⟩ := bnd hm
            refine VB.o rfl rfl rfl (VO.callK 0 rfl fn104 rfl (res_Add_1_ok x x2 r19 h69) fun _ _ h72 => ?_)
            obtain ⟨rfl, rfl⟩ := h72
            obtain ⟨x3, h70, hm⟩ := bnd hm
            refine VA.p 9 rfl rfl rfl (by kernel_rfl) (VP.indexA rfl rfl ar109 (gl_pos2 h70).1 (gl_pos2 h70).2) ?_
            refine VA.all [10] (by kernel_rfl) ⟨?_, trivial⟩
            obtain ⟨l6, h71, hm⟩ := bnd hm
            refine VB.o rfl rfl rfl (VO.storeA 0 (f := (VV.int .i64)) (l := Arr5_Int.l l3) rfl rfl rfl ld3 rfl rfl (Arr5_Int.put_some h71) ?_)
            refine VA.done (by kernel_rfl) ?_
            refine VW.region ?_
            refine VR.p rfl rfl (VP.arith rfl rfl rfl) ?_
            refine VR.p rfl rfl (VP.move rfl) ?_
            refine VR.nil ?_
            exact ⟨(l6, (IntKind.i64.wrap (v2 + (1 : Int)))), (), hm, (Shift.pick [1, 0, 0] rfl ⟨rfl, rfl, rfl, rfl, rfl, rfl, trivial⟩)⟩
          · have h66 := bf h66
            refine VW.condF rfl h66 ?_
            refine VW.exit ?_
            exact ⟨l3, (), Option.some.inj hm, (Shift.pick [1, 1] rfl ⟨rfl, rfl, rfl, trivial⟩)⟩
        · rintro l42 _ rfl
          have hm := h65
          refine VW.seq ?_
          refine VW.seq ?_
          refine VW.region ?_
          refine VR.p rfl rfl (VP.loadP (i := 0) rfl rfl ld109 rfl) ?_
          obtain ⟨r20, h73, hm⟩ := bnd hm
          refine VR.cons rfl rfl (VO.callK 0 rfl fn125 rfl (res_back_ok l42 r20 h73) fun _ _ h78 => ?_)
          obtain ⟨rfl, rfl⟩ := h78
          refine VR.cons rfl rfl (VO.alloc z23 fun b25 => ?_)
          refine VR.cons rfl rfl (VO.storeP (i := 0) rfl rfl rfl ld23 rfl rfl rfl ?_)
          refine VR.nil ?_
          refine VW.seq ?_
          refine VW.region ?_
          refine VR.p rfl rfl (VP.loadP (i := 0) rfl rfl ld23 rfl) ?_
          obtain ⟨r21, h75, hm⟩ := bnd hm
          refine VR.cons rfl rfl (VO.callK 0 rfl fn73 rfl (res_Right_ok r20 r21 h75) fun _ _ h77 => ?_)
          obtain ⟨rfl, rfl⟩ := h77
          refine VR.nil ?_
          rcases ite_or hm with ⟨h76, hm⟩ | ⟨h76, hm⟩
          · refine VW.condT rfl h76 ?_
            refine VW.seq ?_
            refine VW.region ?_
            refine VR.p rfl rfl (VP.loadP (i := 0) rfl rfl ld23 rfl) ?_
            refine VR.cons rfl rfl (VO.storeP (i := 2) rfl rfl rfl ld23 rfl rfl rfl ?_)
            refine VR.p rfl rfl (VP.assign rfl) ?_
            refine VR.nil ?_
            obtain rfl := Option.some.inj hm
            exact VW.ret ⟨.inl rfl, _, .cons (.cell _ _ _ _ 2 _ _ _ _ rfl rfl ld23 rfl) (.cons (.tmp _ _ rfl) .nil), [], _, rfl, rfl, rfl⟩
          · have h76 := bf h76
            refine VW.condF rfl h76 ?_
            refine VW.skip ?_
            refine VW.seq ?_
            refine VW.region ?_
            refine VR.p rfl rfl (VP.buildP pl23 rfl rfl) ?_
            refine VR.p rfl rfl (VP.move rfl) ?_
            refine VR.cons rfl rfl (VO.storeP (i := 2) rfl rfl rfl ld23 rfl rfl rfl ?_)
            refine VR.p rfl rfl (VP.assign rfl) ?_
            refine VR.nil ?_
            obtain rfl := Option.some.inj hm
            exact VW.ret ⟨.inl rfl, _, .cons (.cell _ _ _ _ 2 _ _ _ _ rfl rfl ld23 rfl) (.cons (.tmp _ _ rfl) .nil), [], _, rfl, rfl, rfl⟩

/-! trireme/res.Add -/
def res_Add (a : T_api_Res) (b : T_api_Res) : Option (T_api_Res × Int) :=
  (res_each_res_Add_1 a b (10 : Int)).bind fun r =>
  some (r.1, r.2)
theorem res_Add_ok (a : T_api_Res) (b : T_api_Res) (r : T_api_Res × Int) (hm : res_Add a b = some r) :
    VC Try.prog 74 [T_api_Res.vv a, T_api_Res.vv b] [] (fun zx zH => zx = .tup [T_api_Res.vv r.1, .int .i64 r.2] ∧ zH = []) := by
  unfold res_Add at hm
  refine VC.run (c := _) (rs := [.cell 4 23, .tmp 5]) Try.func74 rfl rfl rfl ?_
  refine VW.seq ?_
  refine VW.region ?_
  refine VR.cons rfl rfl (VO.box rfl rfl fun b2 => ?_)
  refine VR.cons rfl rfl (VO.box rfl rfl fun b3 => ?_)
  refine VR.cons rfl rfl (VO.alloc z23 fun b4 => ?_)
  refine VR.p rfl rfl (VP.assign rfl) ?_
  refine VR.nil ?_
  refine VW.seq ?_
  refine VW.region ?_
  refine VR.p rfl rfl (VP.loadP (i := 2) rfl rfl ld23 rfl) ?_
  refine VR.p rfl rfl (VP.loadP (i := 1) rfl rfl ld23 rfl) ?_
  obtain ⟨r, h4, hm⟩ := bnd hm
  refine VR.cons rfl rfl (VO.callK 0 rfl fn103 rfl (res_each_res_Add_1_ok a b (10 : Int) r h4) fun _ _ h5 => ?_)
  obtain ⟨rfl, rfl⟩ := h5
  refine VR.p rfl rfl (VP.extract rfl rfl) ?_
  refine VR.p rfl rfl (VP.extract rfl rfl) ?_
  refine VR.cons rfl rfl (VO.storeP (i := 0) rfl rfl rfl ld23 rfl rfl rfl ?_)
  refine VR.p rfl rfl (VP.assign rfl) ?_
  refine VR.nil ?_
  obtain rfl := Option.some.inj hm
  exact VW.ret ⟨.inl rfl, _, .cons (.cell _ _ _ _ 0 _ _ _ _ rfl rfl ld23 rfl) (.cons (.tmp _ _ rfl) .nil), [], _, rfl, rfl, rfl⟩

/-! trireme/yard.Used -/
def yard_Used.l1 : List T_api_Pod → Nat → T_api_Res → Option (Out (T_api_Res × Int) T_api_Res)
  | [], k, sum2 => some (Out.go sum2)
  | x :: l, k, sum2 =>
    (res_Add sum2 x.Need).bind fun r3 =>
    if (r3.2 != (0 : Int)) = true then
      some (Out.ret ((⟨(0 : Int), (0 : Int), (0 : Int), (0 : Int), (0 : Int)⟩ : T_api_Res), r3.2))
    else
      yard_Used.l1 l (k + 1) r3.1
def yard_Used (bs : List T_api_Bound) (name : ByteArray) : Option (T_api_Res × Int) :=
  (yard_On bs name).bind fun r =>
  (yard_first_yard_Used_1 (r.length : Int) r).bind fun r2 =>
  if (r2 != (-1 : Int)) = true then
    some ((⟨(0 : Int), (0 : Int), (0 : Int), (0 : Int), (0 : Int)⟩ : T_api_Res), (12 : Int))
  else
    (yard_Used.l1 r 0 (⟨(0 : Int), (0 : Int), (0 : Int), (0 : Int), (0 : Int)⟩ : T_api_Res)).bind fun o =>
    o.on fun sum32 =>
    some (sum32, (0 : Int))
theorem yard_Used_ok (bs : List T_api_Bound) (name : ByteArray) (r : T_api_Res × Int) (hm : yard_Used bs name = some r) :
    VC Try.prog 29 [.list 49 (List.map T_api_Bound.vv bs), .str name] [] (fun zx zH => zx = .tup [T_api_Res.vv r.1, .int .i64 r.2] ∧ zH = []) := by
  unfold yard_Used at hm
  refine VC.run (c := _) (rs := [.cell 4 23, .tmp 5]) Try.func29 rfl rfl rfl ?_
  refine VW.seq ?_
  refine VW.region ?_
  refine VR.cons rfl rfl (VO.alloc z23 fun b => ?_)
  refine VR.p rfl rfl (VP.assign rfl) ?_
  refine VR.nil ?_
  refine VW.seq ?_
  refine VW.region ?_
  refine VR.p rfl rfl (VP.move rfl) ?_
  refine VR.p rfl rfl (VP.move rfl) ?_
  obtain ⟨r, h2, hm⟩ := bnd hm
  refine VR.cons rfl rfl (VO.callK 0 rfl fn32 rfl (yard_On_ok bs name r h2) fun _ _ h18 => ?_)
  obtain ⟨ob, cap, rfl, rfl⟩ := h18
  refine VR.shift (Shift.freezeE 0 [(14, .list 33 (List.map T_api_Pod.vv r))] rfl ⟨⟨_, rfl, .here _ rfl⟩, trivial⟩ (FzH.refl _)) ?_
  refine VR.cons rfl rfl (VO.alloc z59 fun b2 => ?_)
  refine VR.cons rfl rfl (VO.storeP (i := 0) rfl rfl rfl ld59 rfl rfl rfl ?_)
  refine VR.nil ?_
  refine VW.seq ?_
  refine VW.seq ?_
  refine VW.region ?_
  refine VR.p rfl rfl (VP.loadP (i := 0) rfl rfl ld59 rfl) ?_
  refine VR.p rfl rfl (VP.lenT T_api_Pod.vv rfl Try.underlying59) ?_
  refine VR.p rfl rfl (VP.makeFunc rfl rfl) ?_
  obtain ⟨r2, h5, hm⟩ := bnd hm
  refine VR.cons rfl rfl (VO.callK 1 rfl fn66 rfl (yard_first_yard_Used_1_ok (r.length : Int) r b2 r2 h5) fun _ _ h17 => ?_)
  obtain ⟨rfl, rfl⟩ := h17
  refine VR.p rfl rfl (VP.arith rfl rfl rfl) ?_
  refine VR.nil ?_
  rcases ite_or hm with ⟨h6, hm⟩ | ⟨h6, hm⟩
  · refine VW.condT rfl h6 ?_
    refine VW.seq ?_
    refine VW.region ?_
    refine VR.p rfl rfl (VP.buildP pl23 rfl rfl) ?_
    refine VR.cons rfl rfl (VO.storeP (i := 1) rfl rfl rfl ld23 rfl rfl rfl ?_)
    refine VR.p rfl rfl (VP.assign rfl) ?_
    refine VR.nil ?_
    obtain rfl := Option.some.inj hm
    exact VW.ret ⟨.inl rfl, _, .cons (.cell _ _ _ _ 1 _ _ _ _ rfl rfl ld23 rfl) (.cons (.tmp _ _ rfl) .nil), [], _, rfl, rfl, rfl⟩
  · have h6 := bf h6
    refine VW.condF rfl h6 ?_
    refine VW.skip ?_
    refine VW.seq ?_
    refine VW.region ?_
    refine VR.p rfl rfl (VP.buildP pl23 rfl rfl) ?_
    refine VR.cons rfl rfl (VO.alloc z23 fun b3 => ?_)
    refine VR.cons rfl rfl (VO.storeP (i := 0) rfl rfl rfl ld23 rfl rfl rfl ?_)
    refine VR.nil ?_
    refine VW.seq ?_
    refine VW.seq ?_
    refine VW.region ?_
    refine VR.p rfl rfl (VP.loadP (i := 1) rfl rfl ld59 rfl) ?_
    refine VR.p rfl rfl (VP.lenT T_api_Pod.vv rfl Try.underlying59) ?_
    refine VR.p rfl rfl (VP.move rfl) ?_
    refine VR.nil ?_
    refine VW.lenL 22 rfl fun h10 => ?_
    have h10 := max_map h10
    obtain ⟨o, h8, h9⟩ := bnd hm
    refine VW.joinE (fun (q : T_api_Res) => o = Out.go q) (fun (sum32 : T_api_Res) (gg : Unit) => [(4, .ptr b 0), (7, .ptr b3 0)]) (fun (sum32 : T_api_Res) (gg : Unit) => [.box b3 23 (T_api_Res.cells sum32), .box b 23 (T_api_Res.cells (⟨(0 : Int), (0 : Int), (0 : Int), (0 : Int), (0 : Int)⟩ : T_api_Res))]) ?_ ?_
    · have hm := h8
      refine VW.block (VW.loop (r.length + 1) ?_)
      refine VL.eachS (l := r) (R := _) (fun zl zk (zs : T_api_Res) => yard_Used.l1 zl zk zs) (fun (k : Nat) (zs : T_api_Res) (zg : Unit) => [(4, .ptr b 0), (7, .ptr b3 0), (22, .list 33 (List.map T_api_Pod.vv r)), (23, .int .i64 (r.length : Int)), (24, .int .i64 (k : Int))]) (fun (k : Nat) (zs : T_api_Res) (zg : Unit) => [.box b3 23 (T_api_Res.cells zs), .box b 23 (T_api_Res.cells (⟨(0 : Int), (0 : Int), (0 : Int), (0 : Int), (0 : Int)⟩ : T_api_Res))]) (⟨(0 : Int), (0 : Int), (0 : Int), (0 : Int), (0 : Int)⟩ : T_api_Res) () (Shift.pick [0, 1] rfl ⟨rfl, rfl, rfl, rfl, rfl, trivial⟩) h8 ?_ ?_
      · rintro k sum2 _ hk hm
        rw [yard_Used.l1] at hm
        refine VW.seq ?_
        refine VW.region ?_
        refine VR.p rfl rfl (VP.arith rfl rfl rfl) ?_
        refine VR.nil ?_
        refine VW.seq ?_
        refine VW.condF rfl (k_end hk) ?_
        refine VW.exit ?_
        exact ⟨sum2, (), (Option.some.inj hm).symm, (Shift.pick [0, 0] rfl ⟨rfl, rfl, trivial⟩)⟩
      · rintro k x l sum2 _ h11 hm
        rw [yard_Used.l1] at hm
        refine VW.seq ?_
        refine VW.region ?_
        refine VR.p rfl rfl (VP.arith rfl rfl rfl) ?_
        refine VR.nil ?_
        refine VW.seq ?_
        refine VW.condT rfl (k_lt h11) ?_
        refine VW.skip ?_
        refine VW.seq ?_
        refine VW.block ?_
        refine VW.seq ?_
        refine VW.region ?_
        refine VR.p rfl rfl (VP.glK T_api_Pod.vv rfl rfl el59 h11) ?_
        refine VR.p rfl rfl (VP.loadE rfl ld33 rfl) ?_
        refine VR.cons rfl rfl (VO.alloc z33 fun b4 => ?_)
        refine VR.cons rfl rfl (VO.storeP (i := 0) rfl rfl rfl ld33 rfl rfl rfl ?_)
        refine VR.nil ?_
        refine VW.seq ?_
        refine VW.region ?_
        refine VR.p rfl rfl (VP.loadP (i := 1) rfl rfl ld23 rfl) ?_
        refine VR.p rfl rfl (VP.fieldP rfl fa33_1) ?_
        refine VR.p rfl rfl (VP.loadP (i := 0) rfl rfl ld23 rfl) ?_
        obtain ⟨r3, h13, hm⟩ := bnd hm
        refine VR.cons rfl rfl (VO.callK 0 rfl fn74 rfl (res_Add_ok sum2 x.Need r3 h13) fun _ _ h16 => ?_)
        obtain ⟨rfl, rfl⟩ := h16
        refine VR.p rfl rfl (VP.move rfl) ?_
        refine VR.p rfl rfl (VP.extract rfl rfl) ?_
        refine VR.p rfl rfl (VP.extract rfl rfl) ?_
        refine VR.cons rfl rfl (VO.alloc z23 fun b5 => ?_)
        refine VR.cons rfl rfl (VO.storeP (i := 0) rfl rfl rfl ld23 rfl rfl rfl ?_)
        refine VR.p rfl rfl (VP.assign rfl) ?_
        refine VR.nil ?_
        refine VW.seq ?_
        refine VW.seq ?_
        refine VW.region ?_
        refine VR.p rfl rfl (VP.move rfl) ?_
        refine VR.p rfl rfl (VP.arith rfl rfl rfl) ?_
        refine VR.nil ?_
        rcases ite_or hm with ⟨h15, hm⟩ | ⟨h15, hm⟩
        · refine VW.condT rfl h15 ?_
          refine VW.seq ?_
          refine VW.region ?_
          refine VR.p rfl rfl (VP.buildP pl23 rfl rfl) ?_
          refine VR.p rfl rfl (VP.move rfl) ?_
          refine VR.cons rfl rfl (VO.storeP (i := 3) rfl rfl rfl ld23 rfl rfl rfl ?_)
          refine VR.p rfl rfl (VP.assign rfl) ?_
          refine VR.nil ?_
          obtain rfl := Option.some.inj hm
          have hm := Out.ret_on h9
          obtain rfl := Option.some.inj hm
          exact VW.ret ⟨.inl rfl, _, .cons (.cell _ _ _ _ 3 _ _ _ _ rfl rfl ld23 rfl) (.cons (.tmp _ _ rfl) .nil), [], _, rfl, rfl, rfl⟩
        · have h15 := bf h15
          refine VW.condF rfl h15 ?_
          refine VW.skip ?_
          refine VW.region ?_
          refine VR.p rfl rfl (VP.loadP (i := 0) rfl rfl ld23 rfl) ?_
          refine VR.cons rfl rfl (VO.storeP (i := 2) rfl rfl rfl ld23 rfl rfl rfl ?_)
          refine VR.nil ?_
          refine VW.region ?_
          refine VR.p rfl rfl (VP.arith rfl rfl rfl) ?_
          refine VR.p rfl rfl (VP.move rfl) ?_
          refine VR.nil ?_
          exact ⟨r3.1, (), hm, (Shift.pick [2, 2] rfl ⟨rfl, rfl, rfl, rfl, congrArg some (k_next h11 h10), trivial⟩)⟩
    · rintro sum32 _ rfl
      have hm := Out.go_on h9
      refine VW.seq ?_
      refine VW.region ?_
      refine VR.p rfl rfl (VP.loadP (i := 0) rfl rfl ld23 rfl) ?_
      refine VR.cons rfl rfl (VO.storeP (i := 1) rfl rfl rfl ld23 rfl rfl rfl ?_)
      refine VR.p rfl rfl (VP.assign rfl) ?_
      refine VR.nil ?_
      obtain rfl := Option.some.inj hm
      exact VW.ret ⟨.inl rfl, _, .cons (.cell _ _ _ _ 1 _ _ _ _ rfl rfl ld23 rfl) (.cons (.tmp _ _ rfl) .nil), [], _, rfl, rfl, rfl⟩

/-! trireme/lex.right -/
def lex_right (s : ByteArray) (i : Int) (c : Int) : Option Bool :=
  (if (c != (65533 : Int)) = true then some true else (if (decide ((IntKind.i64.wrap (i + (2 : Int))) < (s.size : Int))) = true then (V.gi s i).bind fun v =>
  some (v == (239 : Int)) else some false).bind fun c2 =>
  (if c2 = true then (V.gi s (IntKind.i64.wrap (i + (1 : Int)))).bind fun v2 =>
  some (v2 == (191 : Int)) else some false).bind fun c3 =>
  (if c3 = true then (V.gi s (IntKind.i64.wrap (i + (2 : Int)))).bind fun v3 =>
  some (v3 == (189 : Int)) else some false).bind fun c4 =>
  some c4).bind fun c5 =>
  some c5
theorem lex_right_ok (s : ByteArray) (i : Int) (c : Int) (r : Bool) (hm : lex_right s i c = some r) :
    VC Try.prog 131 [.str s, .int .i64 i, .int .i32 c] [] (fun zx zH => zx = .bool r ∧ zH = []) := by
  unfold lex_right at hm
  refine VC.run (c := _) (rs := [.tmp 6]) Try.func131 rfl rfl rfl ?_
  refine VW.seq ?_
  refine VW.region ?_
  refine VR.p rfl rfl (VP.assign rfl) ?_
  refine VR.nil ?_
  refine VW.seq ?_
  refine VW.region ?_
  refine VR.p rfl rfl (VP.move rfl) ?_
  refine VR.p rfl rfl (VP.arith rfl rfl rfl) ?_
  refine VR.p rfl rfl (VP.move rfl) ?_
  obtain ⟨c5, h11, hm⟩ := bnd hm
  refine VR.sc 26 35 (.bool c5) (fun K' J => ?_) ?_
  · have hm := h11
    rcases ite_or hm with ⟨h1, hm⟩ | ⟨h1, hm⟩
    · refine VR.skipG rfl rfl rfl rfl h1 ?_
      refine VR.skipG rfl rfl rfl rfl h1 ?_
      refine VR.skipG rfl rfl rfl rfl h1 ?_
      refine VR.skipG rfl rfl rfl rfl h1 ?_
      refine VR.skipG rfl rfl rfl rfl h1 ?_
      refine VR.skipG rfl rfl rfl rfl h1 ?_
      refine VR.skipU rfl rfl rfl rfl ?_
      refine VR.skipU rfl rfl rfl rfl ?_
      refine VR.skipU rfl rfl rfl rfl ?_
      refine VR.skipU rfl rfl rfl rfl ?_
      refine VR.skipG rfl rfl rfl rfl h1 ?_
      refine VR.skipG rfl rfl rfl rfl h1 ?_
      refine VR.skipU rfl rfl rfl rfl ?_
      refine VR.skipU rfl rfl rfl rfl ?_
      refine VR.skipU rfl rfl rfl rfl ?_
      refine VR.skipU rfl rfl rfl rfl ?_
      refine VR.skipU rfl rfl rfl rfl ?_
      refine VR.skipG rfl rfl rfl rfl h1 ?_
      refine VR.skipG rfl rfl rfl rfl h1 ?_
      refine VR.skipU rfl rfl rfl rfl ?_
      refine VR.skipU rfl rfl rfl rfl ?_
      refine VR.skipU rfl rfl rfl rfl ?_
      refine VR.skipU rfl rfl rfl rfl ?_
      refine VR.skipU rfl rfl rfl rfl ?_
      refine VR.skipG rfl rfl rfl rfl h1 ?_
      refine VR.p rfl rfl (VP.pickB true rfl h1 rfl) ?_
      exact J [_, _, _, _, _, _, _, _, _, _, _, _, _, _, _, _, _, _, _, _, _, _, _, _, _] _ rfl (congrArg VV.bool (Option.some.inj hm))
    · have h1 := bf h1
      refine VR.pG rfl rfl rfl rfl h1 (VP.move rfl) ?_
      refine VR.pG rfl rfl rfl rfl h1 (VP.arith rfl rfl rfl) ?_
      refine VR.pG rfl rfl rfl rfl h1 (VP.move rfl) ?_
      refine VR.pG rfl rfl rfl rfl h1 (VP.lenS rfl Try.underlying9) ?_
      refine VR.pG rfl rfl rfl rfl h1 (VP.arith rfl rfl rfl) ?_
      refine VR.pG rfl rfl rfl rfl h1 (VP.move rfl) ?_
      obtain ⟨c2, h4, hm⟩ := bnd hm
      refine VR.sc 5 20 (.bool c2) (fun K' J => ?_) ?_
      · have hm := h4
        rcases ite_or hm with ⟨h2, hm⟩ | ⟨h2, hm⟩
        · refine VR.pG rfl rfl rfl rfl h2 (VP.move rfl) ?_
          refine VR.pG rfl rfl rfl rfl h2 (VP.move rfl) ?_
          obtain ⟨v, h3, hm⟩ := bnd hm
          refine VR.pG rfl rfl rfl rfl h2 (VP.gi rfl rfl Try.underlying9 h3) ?_
          refine VR.pG rfl rfl rfl rfl h2 (VP.arith rfl rfl rfl) ?_
          refine VR.pG rfl rfl rfl rfl h1 (VP.pickB true rfl h2 rfl) ?_
          exact J [_, _, _, _] _ rfl (congrArg VV.bool (Option.some.inj hm))
        · have h2 := bf h2
          refine VR.skipG rfl rfl rfl rfl h2 ?_
          refine VR.skipG rfl rfl rfl rfl h2 ?_
          refine VR.skipG rfl rfl rfl rfl h2 ?_
          refine VR.skipG rfl rfl rfl rfl h2 ?_
          refine VR.pG rfl rfl rfl rfl h1 (VP.pickB false rfl h2 rfl) ?_
          exact J [_, _, _, _] _ rfl (congrArg VV.bool (Option.some.inj hm))
      · refine VR.pG rfl rfl rfl rfl h1 (VP.move rfl) ?_
        obtain ⟨c3, h7, hm⟩ := bnd hm
        refine VR.sc 6 27 (.bool c3) (fun K' J => ?_) ?_
        · have hm := h7
          rcases ite_or hm with ⟨h5, hm⟩ | ⟨h5, hm⟩
          · refine VR.pG rfl rfl rfl rfl h5 (VP.move rfl) ?_
            refine VR.pG rfl rfl rfl rfl h5 (VP.move rfl) ?_
            refine VR.pG rfl rfl rfl rfl h5 (VP.arith rfl rfl rfl) ?_
            obtain ⟨v2, h6, hm⟩ := bnd hm
            refine VR.pG rfl rfl rfl rfl h5 (VP.gi rfl rfl Try.underlying9 h6) ?_
            refine VR.pG rfl rfl rfl rfl h5 (VP.arith rfl rfl rfl) ?_
            refine VR.pG rfl rfl rfl rfl h1 (VP.pickB true rfl h5 rfl) ?_
            exact J [_, _, _, _, _] _ rfl (congrArg VV.bool (Option.some.inj hm))
          · have h5 := bf h5
            refine VR.skipG rfl rfl rfl rfl h5 ?_
            refine VR.skipG rfl rfl rfl rfl h5 ?_
            refine VR.skipG rfl rfl rfl rfl h5 ?_
            refine VR.skipG rfl rfl rfl rfl h5 ?_
            refine VR.skipG rfl rfl rfl rfl h5 ?_
            refine VR.pG rfl rfl rfl rfl h1 (VP.pickB false rfl h5 rfl) ?_
            exact J [_, _, _, _, _] _ rfl (congrArg VV.bool (Option.some.inj hm))
        · refine VR.pG rfl rfl rfl rfl h1 (VP.move rfl) ?_
          obtain ⟨c4, h10, hm⟩ := bnd hm
          refine VR.sc 6 34 (.bool c4) (fun K' J => ?_) ?_
          · have hm := h10
            rcases ite_or hm with ⟨h8, hm⟩ | ⟨h8, hm⟩
            · refine VR.pG rfl rfl rfl rfl h8 (VP.move rfl) ?_
              refine VR.pG rfl rfl rfl rfl h8 (VP.move rfl) ?_
              refine VR.pG rfl rfl rfl rfl h8 (VP.arith rfl rfl rfl) ?_
              obtain ⟨v3, h9, hm⟩ := bnd hm
              refine VR.pG rfl rfl rfl rfl h8 (VP.gi rfl rfl Try.underlying9 h9) ?_
              refine VR.pG rfl rfl rfl rfl h8 (VP.arith rfl rfl rfl) ?_
              refine VR.pG rfl rfl rfl rfl h1 (VP.pickB true rfl h8 rfl) ?_
              exact J [_, _, _, _, _] _ rfl (congrArg VV.bool (Option.some.inj hm))
            · have h8 := bf h8
              refine VR.skipG rfl rfl rfl rfl h8 ?_
              refine VR.skipG rfl rfl rfl rfl h8 ?_
              refine VR.skipG rfl rfl rfl rfl h8 ?_
              refine VR.skipG rfl rfl rfl rfl h8 ?_
              refine VR.skipG rfl rfl rfl rfl h8 ?_
              refine VR.pG rfl rfl rfl rfl h1 (VP.pickB false rfl h8 rfl) ?_
              exact J [_, _, _, _, _] _ rfl (congrArg VV.bool (Option.some.inj hm))
          · refine VR.p rfl rfl (VP.pickB false rfl h1 rfl) ?_
            exact J [_, _, _, _, _, _, _, _, _, _, _] _ rfl (congrArg VV.bool (Option.some.inj hm))
  · refine VR.p rfl rfl (VP.assign rfl) ?_
    refine VR.nil ?_
    obtain rfl := Option.some.inj hm
    exact VW.ret ⟨.inl rfl, _, .cons (.tmp _ _ rfl) .nil, [], _, rfl, rfl, rfl⟩

/-! trireme/lex.plain -/
def lex_plain (c : Int) : Option Bool :=
  (if (c == (40 : Int)) = true then
    some (c == (40 : Int))
  else
    if (c == (41 : Int)) = true then
      some (c == (41 : Int))
    else
      if (c == (34 : Int)) = true then
        some (c == (34 : Int))
      else
        if (c == (59 : Int)) = true then
          some (c == (59 : Int))
        else
          some (c == (127 : Int))).bind fun v2 =>
  if v2 = true then
    some false
  else
    some (decide (c > (32 : Int)))
theorem lex_plain_ok (c : Int) (r : Bool) (hm : lex_plain c = some r) :
    VC Try.prog 123 [.int .i32 c] [] (fun zx zH => zx = .bool r ∧ zH = []) := by
  unfold lex_plain at hm
  refine VC.run (c := _) (rs := [.tmp 2]) Try.func123 rfl rfl rfl ?_
  refine VW.seq ?_
  refine VW.region ?_
  refine VR.p rfl rfl (VP.assign rfl) ?_
  refine VR.nil ?_
  refine VW.seq ?_
  refine VW.seq ?_
  refine VW.region ?_
  refine VR.p rfl rfl (VP.move rfl) ?_
  refine VR.nil ?_
  refine VW.block ?_
  obtain ⟨o, h1, h2⟩ := bnd hm
  refine VW.join (fun (q : Bool) => q = o) (fun (v2 : Bool) (gg : Unit) => [(0, .int .i32 c), (4, .bool v2)]) (fun (v2 : Bool) (gg : Unit) => []) ?_ ?_
  · have hm := h1
    refine VW.seq ?_
    refine VW.region ?_
    refine VR.p rfl rfl (VP.arith rfl rfl rfl) ?_
    refine VR.p rfl rfl (VP.assign rfl) ?_
    refine VR.nil ?_
    rcases ite_or hm with ⟨h3, hm⟩ | ⟨h3, hm⟩
    · refine VW.condT rfl h3 ?_
      refine VW.skip ?_
      exact ⟨(c == (40 : Int)), (), Option.some.inj hm, (Shift.pick [] rfl ⟨rfl, rfl, trivial⟩)⟩
    · have h3 := bf h3
      refine VW.condF rfl h3 ?_
      refine VW.seq ?_
      refine VW.region ?_
      refine VR.p rfl rfl (VP.arith rfl rfl rfl) ?_
      refine VR.p rfl rfl (VP.assign rfl) ?_
      refine VR.nil ?_
      rcases ite_or hm with ⟨h4, hm⟩ | ⟨h4, hm⟩
      · refine VW.condT rfl h4 ?_
        refine VW.skip ?_
        exact ⟨(c == (41 : Int)), (), Option.some.inj hm, (Shift.pick [] rfl ⟨rfl, rfl, trivial⟩)⟩
      · have h4 := bf h4
        refine VW.condF rfl h4 ?_
        refine VW.seq ?_
        refine VW.region ?_
        refine VR.p rfl rfl (VP.arith rfl rfl rfl) ?_
        refine VR.p rfl rfl (VP.assign rfl) ?_
        refine VR.nil ?_
        rcases ite_or hm with ⟨h5, hm⟩ | ⟨h5, hm⟩
        · refine VW.condT rfl h5 ?_
          refine VW.skip ?_
          exact ⟨(c == (34 : Int)), (), Option.some.inj hm, (Shift.pick [] rfl ⟨rfl, rfl, trivial⟩)⟩
        · have h5 := bf h5
          refine VW.condF rfl h5 ?_
          refine VW.seq ?_
          refine VW.region ?_
          refine VR.p rfl rfl (VP.arith rfl rfl rfl) ?_
          refine VR.p rfl rfl (VP.assign rfl) ?_
          refine VR.nil ?_
          rcases ite_or hm with ⟨h6, hm⟩ | ⟨h6, hm⟩
          · refine VW.condT rfl h6 ?_
            refine VW.skip ?_
            exact ⟨(c == (59 : Int)), (), Option.some.inj hm, (Shift.pick [] rfl ⟨rfl, rfl, trivial⟩)⟩
          · have h6 := bf h6
            refine VW.condF rfl h6 ?_
            refine VW.region ?_
            refine VR.p rfl rfl (VP.arith rfl rfl rfl) ?_
            refine VR.p rfl rfl (VP.assign rfl) ?_
            refine VR.nil ?_
            exact ⟨(c == (127 : Int)), (), Option.some.inj hm, (Shift.pick [] rfl ⟨rfl, rfl, trivial⟩)⟩
  · rintro v2 _ rfl
    have hm := h2
    rcases ite_or hm with ⟨h7, hm⟩ | ⟨h7, hm⟩
    · refine VW.condT rfl h7 ?_
      refine VW.seq ?_
      refine VW.region ?_
      refine VR.p rfl rfl (VP.assign rfl) ?_
      refine VR.nil ?_
      obtain rfl := Option.some.inj hm
      exact VW.ret ⟨.inl rfl, _, .cons (.tmp _ _ rfl) .nil, [], _, rfl, rfl, rfl⟩
    · have h7 := bf h7
      refine VW.condF rfl h7 ?_
      refine VW.skip ?_
      refine VW.seq ?_
      refine VW.region ?_
      refine VR.p rfl rfl (VP.move rfl) ?_
      refine VR.p rfl rfl (VP.arith rfl rfl rfl) ?_
      refine VR.p rfl rfl (VP.assign rfl) ?_
      refine VR.nil ?_
      obtain rfl := Option.some.inj hm
      exact VW.ret ⟨.inl rfl, _, .cons (.tmp _ _ rfl) .nil, [], _, rfl, rfl, rfl⟩

/-! trireme/lex.head -/
def lex_head_lex_plain.l1 (s : ByteArray) : Nat → Nat → Option (Out (Int × Bool) Unit)
  | 0, _ => none
  | n + 1, pos2 =>
    if pos2 < s.size then
      (lex_right s (pos2 : Int) ((Utf8.decode s pos2).1 : Int)).bind fun r =>
      if (!r) = true then
        some (Out.ret ((pos2 : Int), false))
      else
        (lex_plain ((Utf8.decode s pos2).1 : Int)).bind fun r2 =>
        if (!r2) = true then
          some (Out.ret ((pos2 : Int), true))
        else
          lex_head_lex_plain.l1 s n (pos2 + (Utf8.decode s pos2).2)
    else
      some (Out.go ())
def lex_head_lex_plain (s : ByteArray) : Option (Int × Bool) :=
  (lex_head_lex_plain.l1 s FU 0).bind fun o =>
  o.on fun j =>
  some ((s.size : Int), true)
theorem lex_head_lex_plain_ok (s : ByteArray) (r : Int × Bool) (hm : lex_head_lex_plain s = some r) :
    VC Try.prog 122 [.str s, .clo (.func 123) [] []] [] (fun zx zH => zx = .tup [.int .i64 r.1, .bool r.2] ∧ zH = []) := by
  unfold lex_head_lex_plain at hm
  refine VC.run (c := _) (rs := [.tmp 4, .tmp 5]) Try.func122 rfl rfl rfl ?_
  refine VW.seq ?_
  refine VW.region ?_
  refine VR.p rfl rfl (VP.assign rfl) ?_
  refine VR.p rfl rfl (VP.assign rfl) ?_
  refine VR.nil ?_
  refine VW.seq ?_
  refine VW.seq ?_
  refine VW.region ?_
  refine VR.p rfl rfl (VP.move rfl) ?_
  refine VR.cons rfl rfl (VO.range Try.underlying9 rfl fun b => ?_)
  refine VR.nil ?_
  obtain ⟨o, h2, h3⟩ := bnd hm
  refine VW.joinE (fun (q : Unit) => o = Out.go q) (fun (j : Unit) (gg : Unit) => [(0, .str s)]) (fun (j : Unit) (gg : Unit) => []) ?_ ?_
  · have hm := h2
    refine VW.block (VW.loop FU ?_)
    refine VL.fuelS (R := _) (fun zn (zs : Nat) => lex_head_lex_plain.l1 s zn zs) (fun (zs : Nat) (zg : Unit) => [(0, .str s), (1, .clo (.func 123) [] []), (9, .ptr b 0)]) (fun (zs : Nat) (zg : Unit) => [.iter b s zs]) 0 () (fun zs => rfl) (Shift.pick [0] rfl ⟨rfl, rfl, rfl, trivial⟩) h2 ?_
    rintro n pos2 _ hm
    rw [lex_head_lex_plain.l1] at hm
    refine VW.seq ?_
    refine VW.region ?_
    rcases ite_or hm with ⟨h4, hm⟩ | ⟨h4, hm⟩
    · refine VR.cons rfl rfl (VO.nextS (i := 0) rfl rfl h4 ?_)
      refine VR.p rfl rfl (VP.extract rfl rfl) ?_
      refine VR.nil ?_
      refine VW.seq ?_
      refine VW.condT rfl rfl ?_
      refine VW.skip ?_
      refine VW.block ?_
      refine VW.seq ?_
      refine VW.region ?_
      refine VR.p rfl rfl (VP.extract rfl rfl) ?_
      refine VR.p rfl rfl (VP.extract rfl rfl) ?_
      refine VR.p rfl rfl (VP.assign rfl) ?_
      refine VR.p rfl rfl (VP.assign rfl) ?_
      refine VR.nil ?_
      refine VW.seq ?_
      refine VW.seq ?_
      refine VW.region ?_
      refine VR.p rfl rfl (VP.move rfl) ?_
      refine VR.p rfl rfl (VP.move rfl) ?_
      refine VR.p rfl rfl (VP.move rfl) ?_
      obtain ⟨r, h5, hm⟩ := bnd hm
      refine VR.cons rfl rfl (VO.callK 0 rfl fn131 rfl (lex_right_ok s (pos2 : Int) ((Utf8.decode s pos2).1 : Int) r h5) fun _ _ h10 => ?_)
      obtain ⟨rfl, rfl⟩ := h10
      refine VR.p rfl rfl (VP.not rfl) ?_
      refine VR.nil ?_
      rcases ite_or hm with ⟨h6, hm⟩ | ⟨h6, hm⟩
      · refine VW.condT rfl h6 ?_
        refine VW.seq ?_
        refine VW.region ?_
        refine VR.p rfl rfl (VP.move rfl) ?_
        refine VR.p rfl rfl (VP.assign rfl) ?_
        refine VR.p rfl rfl (VP.assign rfl) ?_
        refine VR.nil ?_
        obtain rfl := Option.some.inj hm
        have hm := Out.ret_on h3
        obtain rfl := Option.some.inj hm
        exact VW.ret ⟨.inl rfl, _, .cons (.tmp _ _ rfl) (.cons (.tmp _ _ rfl) .nil), [], _, rfl, rfl, rfl⟩
      · have h6 := bf h6
        refine VW.condF rfl h6 ?_
        refine VW.skip ?_
        refine VW.seq ?_
        refine VW.region ?_
        refine VR.p rfl rfl (VP.move rfl) ?_
        refine VR.p rfl rfl (VP.move rfl) ?_
        obtain ⟨r2, h7, hm⟩ := bnd hm
        refine VR.cons rfl rfl (VO.callK 0 rfl fn123 rfl (lex_plain_ok ((Utf8.decode s pos2).1 : Int) r2 h7) fun _ _ h9 => ?_)
        obtain ⟨rfl, rfl⟩ := h9
        refine VR.p rfl rfl (VP.not rfl) ?_
        refine VR.nil ?_
        rcases ite_or hm with ⟨h8, hm⟩ | ⟨h8, hm⟩
        · refine VW.condT rfl h8 ?_
          refine VW.seq ?_
          refine VW.region ?_
          refine VR.p rfl rfl (VP.move rfl) ?_
          refine VR.p rfl rfl (VP.assign rfl) ?_
          refine VR.p rfl rfl (VP.assign rfl) ?_
          refine VR.nil ?_
          obtain rfl := Option.some.inj hm
          have hm := Out.ret_on h3
          obtain rfl := Option.some.inj hm
          exact VW.ret ⟨.inl rfl, _, .cons (.tmp _ _ rfl) (.cons (.tmp _ _ rfl) .nil), [], _, rfl, rfl, rfl⟩
        · have h8 := bf h8
          refine VW.condF rfl h8 ?_
          refine VW.skip ?_
          exact ⟨(pos2 + (Utf8.decode s pos2).2), (), hm, (Shift.pick [0] rfl ⟨rfl, rfl, rfl, trivial⟩)⟩
    · refine VR.cons rfl rfl (VP.vo (VP.nextE (i := 0) rfl rfl h4) ?_)
      refine VR.p rfl rfl (VP.extract rfl rfl) ?_
      refine VR.nil ?_
      refine VW.seq ?_
      refine VW.condF rfl rfl ?_
      refine VW.exit ?_
      exact ⟨(), (), (Option.some.inj hm).symm, (Shift.pick [] rfl ⟨rfl, trivial⟩)⟩
  · rintro j _ rfl
    have hm := Out.go_on h3
    refine VW.seq ?_
    refine VW.region ?_
    refine VR.p rfl rfl (VP.move rfl) ?_
    refine VR.p rfl rfl (VP.lenS rfl Try.underlying9) ?_
    refine VR.p rfl rfl (VP.assign rfl) ?_
    refine VR.p rfl rfl (VP.assign rfl) ?_
    refine VR.nil ?_
    obtain rfl := Option.some.inj hm
    exact VW.ret ⟨.inl rfl, _, .cons (.tmp _ _ rfl) (.cons (.tmp _ _ rfl) .nil), [], _, rfl, rfl, rfl⟩

/-! trireme/lex.Runes -/
def lex_Runes.l1 (s : ByteArray) : Nat → Int → Nat → Option (Out Int Int)
  | 0, _, _ => none
  | n4 + 1, n2, pos2 =>
    if pos2 < s.size then
      (lex_right s (pos2 : Int) ((Utf8.decode s pos2).1 : Int)).bind fun r =>
      if (!r) = true then
        some (Out.ret (-1 : Int))
      else
        lex_Runes.l1 s n4 (IntKind.i64.wrap (n2 + (1 : Int))) (pos2 + (Utf8.decode s pos2).2)
    else
      some (Out.go n2)
def lex_Runes (s : ByteArray) : Option Int :=
  (lex_Runes.l1 s FU (0 : Int) 0).bind fun o =>
  o.on fun n32 =>
  some n32
theorem lex_Runes_ok (s : ByteArray) (r : Int) (hm : lex_Runes s = some r) :
    VC Try.prog 124 [.str s] [] (fun zx zH => zx = .int .i64 r ∧ zH = []) := by
  unfold lex_Runes at hm
  refine VC.run (c := _) (rs := [.tmp 2]) Try.func124 rfl rfl rfl ?_
  refine VW.seq ?_
  refine VW.region ?_
  refine VR.p rfl rfl (VP.assign rfl) ?_
  refine VR.nil ?_
  refine VW.seq ?_
  refine VW.region ?_
  refine VR.p rfl rfl (VP.assign rfl) ?_
  refine VR.nil ?_
  refine VW.seq ?_
  refine VW.seq ?_
  refine VW.region ?_
  refine VR.p rfl rfl (VP.move rfl) ?_
  refine VR.cons rfl rfl (VO.range Try.underlying9 rfl fun b => ?_)
  refine VR.nil ?_
  obtain ⟨o, h2, h3⟩ := bnd hm
  refine VW.joinE (fun (q : Int) => o = Out.go q) (fun (n32 : Int) (gg : Unit) => [(3, .int .i64 n32)]) (fun (n32 : Int) (gg : Unit) => []) ?_ ?_
  · have hm := h2
    refine VW.block (VW.loop FU ?_)
    refine VL.fuelS (R := _) (fun zn (zs : Int × Nat) => lex_Runes.l1 s zn zs.1 zs.2) (fun (zs : Int × Nat) (zg : Unit) => [(0, .str s), (3, .int .i64 zs.1), (7, .ptr b 0)]) (fun (zs : Int × Nat) (zg : Unit) => [.iter b s zs.2]) ((0 : Int), 0) () (fun zs => rfl) (Shift.pick [0] rfl ⟨rfl, rfl, rfl, trivial⟩) h2 ?_
    rintro n4 ⟨n2, pos2⟩ _ hm
    rw [lex_Runes.l1] at hm
    refine VW.seq ?_
    refine VW.region ?_
    rcases ite_or hm with ⟨h4, hm⟩ | ⟨h4, hm⟩
    · refine VR.cons rfl rfl (VO.nextS (i := 0) rfl rfl h4 ?_)
      refine VR.p rfl rfl (VP.extract rfl rfl) ?_
      refine VR.nil ?_
      refine VW.seq ?_
      refine VW.condT rfl rfl ?_
      refine VW.skip ?_
      refine VW.block ?_
      refine VW.seq ?_
      refine VW.region ?_
      refine VR.p rfl rfl (VP.extract rfl rfl) ?_
      refine VR.p rfl rfl (VP.extract rfl rfl) ?_
      refine VR.p rfl rfl (VP.assign rfl) ?_
      refine VR.p rfl rfl (VP.assign rfl) ?_
      refine VR.nil ?_
      refine VW.seq ?_
      refine VW.seq ?_
      refine VW.region ?_
      refine VR.p rfl rfl (VP.move rfl) ?_
      refine VR.p rfl rfl (VP.move rfl) ?_
      refine VR.p rfl rfl (VP.move rfl) ?_
      obtain ⟨r, h5, hm⟩ := bnd hm
      refine VR.cons rfl rfl (VO.callK 0 rfl fn131 rfl (lex_right_ok s (pos2 : Int) ((Utf8.decode s pos2).1 : Int) r h5) fun _ _ h7 => ?_)
      obtain ⟨rfl, rfl⟩ := h7
      refine VR.p rfl rfl (VP.not rfl) ?_
      refine VR.nil ?_
      rcases ite_or hm with ⟨h6, hm⟩ | ⟨h6, hm⟩
      · refine VW.condT rfl h6 ?_
        refine VW.seq ?_
        refine VW.region ?_
        refine VR.p rfl rfl (VP.assign rfl) ?_
        refine VR.nil ?_
        obtain rfl := Option.some.inj hm
        have hm := Out.ret_on h3
        obtain rfl := Option.some.inj hm
        exact VW.ret ⟨.inl rfl, _, .cons (.tmp _ _ rfl) .nil, [], _, rfl, rfl, rfl⟩
      · have h6 := bf h6
        refine VW.condF rfl h6 ?_
        refine VW.skip ?_
        refine VW.region ?_
        refine VR.p rfl rfl (VP.move rfl) ?_
        refine VR.p rfl rfl (VP.arith rfl rfl rfl) ?_
        refine VR.p rfl rfl (VP.assign rfl) ?_
        refine VR.nil ?_
        exact ⟨((IntKind.i64.wrap (n2 + (1 : Int))), (pos2 + (Utf8.decode s pos2).2)), (), hm, (Shift.pick [0] rfl ⟨rfl, rfl, rfl, trivial⟩)⟩
    · refine VR.cons rfl rfl (VP.vo (VP.nextE (i := 0) rfl rfl h4) ?_)
      refine VR.p rfl rfl (VP.extract rfl rfl) ?_
      refine VR.nil ?_
      refine VW.seq ?_
      refine VW.condF rfl rfl ?_
      refine VW.exit ?_
      exact ⟨n2, (), (Option.some.inj hm).symm, (Shift.pick [] rfl ⟨rfl, trivial⟩)⟩
  · rintro n32 _ rfl
    have hm := Out.go_on h3
    refine VW.seq ?_
    refine VW.region ?_
    refine VR.p rfl rfl (VP.move rfl) ?_
    refine VR.p rfl rfl (VP.assign rfl) ?_
    refine VR.nil ?_
    obtain rfl := Option.some.inj hm
    exact VW.ret ⟨.inl rfl, _, .cons (.tmp _ _ rfl) .nil, [], _, rfl, rfl, rfl⟩

/-! trireme/lex.Word -/
def lex_Word (s : ByteArray) : Option Bool :=
  (lex_head_lex_plain s).bind fun r =>
  (if ((r.2 && (r.1 == (s.size : Int))) && (decide (r.1 > (0 : Int)))) = true then (lex_Runes s).bind fun r2 =>
  some (decide (r2 ≤ (64 : Int))) else some false).bind fun c =>
  some c
theorem lex_Word_ok (s : ByteArray) (r : Bool) (hm : lex_Word s = some r) :
    VC Try.prog 99 [.str s] [] (fun zx zH => zx = .bool r ∧ zH = []) := by
  unfold lex_Word at hm
  refine VC.run (c := _) (rs := [.tmp 2]) Try.func99 rfl rfl rfl ?_
  refine VW.seq ?_
  refine VW.region ?_
  refine VR.p rfl rfl (VP.assign rfl) ?_
  refine VR.nil ?_
  refine VW.seq ?_
  refine VW.region ?_
  refine VR.p rfl rfl (VP.move rfl) ?_
  obtain ⟨r, h1, hm⟩ := bnd hm
  refine VR.cons rfl rfl (VO.callK 0 rfl fn122 rfl (lex_head_lex_plain_ok s r h1) fun _ _ h8 => ?_)
  obtain ⟨rfl, rfl⟩ := h8
  refine VR.p rfl rfl (VP.move rfl) ?_
  refine VR.p rfl rfl (VP.extract rfl rfl) ?_
  refine VR.p rfl rfl (VP.extract rfl rfl) ?_
  refine VR.p rfl rfl (VP.assign rfl) ?_
  refine VR.p rfl rfl (VP.assign rfl) ?_
  refine VR.nil ?_
  refine VW.seq ?_
  refine VW.region ?_
  refine VR.p rfl rfl (VP.move rfl) ?_
  refine VR.p rfl rfl (VP.move rfl) ?_
  refine VR.sc 5 16 (.bool (r.2 && (r.1 == (s.size : Int)))) (fun K' J => ?_) ?_
  · rcases Bool.eq_false_or_eq_true r.2 with h2 | h2
    · refine VR.pG rfl rfl rfl rfl h2 (VP.move rfl) ?_
      refine VR.pG rfl rfl rfl rfl h2 (VP.move rfl) ?_
      refine VR.pG rfl rfl rfl rfl h2 (VP.lenS rfl Try.underlying9) ?_
      refine VR.pG rfl rfl rfl rfl h2 (VP.arith rfl rfl rfl) ?_
      refine VR.p rfl rfl (VP.pickB true rfl h2 rfl) ?_
      exact J [_, _, _, _] _ rfl (andT h2)
    · refine VR.skipG rfl rfl rfl rfl h2 ?_
      refine VR.skipG rfl rfl rfl rfl h2 ?_
      refine VR.skipG rfl rfl rfl rfl h2 ?_
      refine VR.skipG rfl rfl rfl rfl h2 ?_
      refine VR.p rfl rfl (VP.pickB false rfl h2 rfl) ?_
      exact J [_, _, _, _] _ rfl (andF h2)
  · refine VR.p rfl rfl (VP.move rfl) ?_
    refine VR.sc 3 20 (.bool ((r.2 && (r.1 == (s.size : Int))) && (decide (r.1 > (0 : Int))))) (fun K' J => ?_) ?_
    · rcases Bool.eq_false_or_eq_true (r.2 && (r.1 == (s.size : Int))) with h3 | h3
      · refine VR.pG rfl rfl rfl rfl h3 (VP.move rfl) ?_
        refine VR.pG rfl rfl rfl rfl h3 (VP.arith rfl rfl rfl) ?_
        refine VR.p rfl rfl (VP.pickB true rfl h3 rfl) ?_
        exact J [_, _] _ rfl (andT h3)
      · refine VR.skipG rfl rfl rfl rfl h3 ?_
        refine VR.skipG rfl rfl rfl rfl h3 ?_
        refine VR.p rfl rfl (VP.pickB false rfl h3 rfl) ?_
        exact J [_, _] _ rfl (andF h3)
    · refine VR.p rfl rfl (VP.move rfl) ?_
      obtain ⟨c, h7, hm⟩ := bnd hm
      refine VR.sc 4 25 (.bool c) (fun K' J => ?_) ?_
      · have hm := h7
        rcases ite_or hm with ⟨h4, hm⟩ | ⟨h4, hm⟩
        · refine VR.pG rfl rfl rfl rfl h4 (VP.move rfl) ?_
          obtain ⟨r2, h5, hm⟩ := bnd hm
          refine VR.consG rfl rfl rfl rfl h4 (VO.callK 0 rfl fn124 rfl (lex_Runes_ok s r2 h5) fun _ _ h6 => ?_)
          obtain ⟨rfl, rfl⟩ := h6
          refine VR.pG rfl rfl rfl rfl h4 (VP.arith rfl rfl rfl) ?_
          refine VR.p rfl rfl (VP.pickB true rfl h4 rfl) ?_
          exact J [_, _, _] _ rfl (congrArg VV.bool (Option.some.inj hm))
        · have h4 := bf h4
          refine VR.skipG rfl rfl rfl rfl h4 ?_
          refine VR.skipG rfl rfl rfl rfl h4 ?_
          refine VR.skipG rfl rfl rfl rfl h4 ?_
          refine VR.p rfl rfl (VP.pickB false rfl h4 rfl) ?_
          exact J [_, _, _] _ rfl (congrArg VV.bool (Option.some.inj hm))
      · refine VR.p rfl rfl (VP.assign rfl) ?_
        refine VR.nil ?_
        obtain rfl := Option.some.inj hm
        exact VW.ret ⟨.inl rfl, _, .cons (.tmp _ _ rfl) .nil, [], _, rfl, rfl, rfl⟩

/-! trireme/spec.maybe -/
def spec_maybe (s : ByteArray) : Option Bool :=
  (if (V.seq s (⟨#[]⟩ : ByteArray)) = true then some true else (lex_Word s).bind fun r =>
  some r).bind fun c =>
  some c
theorem spec_maybe_ok (s : ByteArray) (r : Bool) (hm : spec_maybe s = some r) :
    VC Try.prog 95 [.str s] [] (fun zx zH => zx = .bool r ∧ zH = []) := by
  unfold spec_maybe at hm
  refine VC.run (c := _) (rs := [.tmp 2]) Try.func95 rfl rfl rfl ?_
  refine VW.seq ?_
  refine VW.region ?_
  refine VR.p rfl rfl (VP.assign rfl) ?_
  refine VR.nil ?_
  refine VW.seq ?_
  refine VW.region ?_
  refine VR.p rfl rfl (VP.move rfl) ?_
  refine VR.p rfl rfl (VP.strop rfl rfl rfl) ?_
  refine VR.p rfl rfl (VP.move rfl) ?_
  obtain ⟨c, h4, hm⟩ := bnd hm
  refine VR.sc 3 8 (.bool c) (fun K' J => ?_) ?_
  · have hm := h4
    rcases ite_or hm with ⟨h1, hm⟩ | ⟨h1, hm⟩
    · refine VR.skipG rfl rfl rfl rfl h1 ?_
      refine VR.skipG rfl rfl rfl rfl h1 ?_
      refine VR.p rfl rfl (VP.pickB true rfl h1 rfl) ?_
      exact J [_, _] _ rfl (congrArg VV.bool (Option.some.inj hm))
    · have h1 := bf h1
      refine VR.pG rfl rfl rfl rfl h1 (VP.move rfl) ?_
      obtain ⟨r, h2, hm⟩ := bnd hm
      refine VR.consG rfl rfl rfl rfl h1 (VO.callK 0 rfl fn99 rfl (lex_Word_ok s r h2) fun _ _ h3 => ?_)
      obtain ⟨rfl, rfl⟩ := h3
      refine VR.p rfl rfl (VP.pickB false rfl h1 rfl) ?_
      exact J [_, _] _ rfl (congrArg VV.bool (Option.some.inj hm))
  · refine VR.p rfl rfl (VP.assign rfl) ?_
    refine VR.nil ?_
    obtain rfl := Option.some.inj hm
    exact VW.ret ⟨.inl rfl, _, .cons (.tmp _ _ rfl) .nil, [], _, rfl, rfl, rfl⟩

/-! trireme/labels.maybe -/
def labels_maybe (s : ByteArray) : Option Bool :=
  (if (V.seq s (⟨#[]⟩ : ByteArray)) = true then some true else (lex_Word s).bind fun r =>
  some r).bind fun c =>
  some c
theorem labels_maybe_ok (s : ByteArray) (r : Bool) (hm : labels_maybe s = some r) :
    VC Try.prog 118 [.str s] [] (fun zx zH => zx = .bool r ∧ zH = []) := by
  unfold labels_maybe at hm
  refine VC.run (c := _) (rs := [.tmp 2]) Try.func118 rfl rfl rfl ?_
  refine VW.seq ?_
  refine VW.region ?_
  refine VR.p rfl rfl (VP.assign rfl) ?_
  refine VR.nil ?_
  refine VW.seq ?_
  refine VW.region ?_
  refine VR.p rfl rfl (VP.move rfl) ?_
  refine VR.p rfl rfl (VP.strop rfl rfl rfl) ?_
  refine VR.p rfl rfl (VP.move rfl) ?_
  obtain ⟨c, h4, hm⟩ := bnd hm
  refine VR.sc 3 8 (.bool c) (fun K' J => ?_) ?_
  · have hm := h4
    rcases ite_or hm with ⟨h1, hm⟩ | ⟨h1, hm⟩
    · refine VR.skipG rfl rfl rfl rfl h1 ?_
      refine VR.skipG rfl rfl rfl rfl h1 ?_
      refine VR.p rfl rfl (VP.pickB true rfl h1 rfl) ?_
      exact J [_, _] _ rfl (congrArg VV.bool (Option.some.inj hm))
    · have h1 := bf h1
      refine VR.pG rfl rfl rfl rfl h1 (VP.move rfl) ?_
      obtain ⟨r, h2, hm⟩ := bnd hm
      refine VR.consG rfl rfl rfl rfl h1 (VO.callK 0 rfl fn99 rfl (lex_Word_ok s r h2) fun _ _ h3 => ?_)
      obtain ⟨rfl, rfl⟩ := h3
      refine VR.p rfl rfl (VP.pickB false rfl h1 rfl) ?_
      exact J [_, _] _ rfl (congrArg VV.bool (Option.some.inj hm))
  · refine VR.p rfl rfl (VP.assign rfl) ?_
    refine VR.nil ?_
    obtain rfl := Option.some.inj hm
    exact VW.ret ⟨.inl rfl, _, .cons (.tmp _ _ rfl) .nil, [], _, rfl, rfl, rfl⟩

/-! trireme/labels.Right -/
def labels_Right.l1 (l : List T_api_Label) : List T_api_Label → Nat → (List (ByteArray × Int)) → Option (Out Bool Unit)
  | [], k, had2 => some (Out.go ())
  | x :: l2, k, had2 =>
    (if (decide (((V.mg (V.mp had2 x.Key (IntKind.i64.wrap (((V.mg had2 x.Key).getD (0 : Int)) + (1 : Int)))) x.Key).getD (0 : Int)) > (1 : Int))) = true then some true else (lex_Word x.Key).bind fun r =>
    some (!r)).bind fun c =>
    (if c = true then some true else (labels_maybe x.Val).bind fun r2 =>
    some (!r2)).bind fun c2 =>
    (if c2 = true then some true else (if (decide ((k : Int) > (0 : Int))) = true then (V.gl l (IntKind.i64.wrap ((k : Int) - (1 : Int)))).bind fun x2 =>
    some (!(V.slt x2.Key x.Key || V.seq x2.Key x.Key)) else some false).bind fun c3 =>
    some c3).bind fun c4 =>
    if c4 = true then
      some (Out.ret false)
    else
      labels_Right.l1 l l2 (k + 1) (V.mp had2 x.Key (IntKind.i64.wrap (((V.mg had2 x.Key).getD (0 : Int)) + (1 : Int))))
def labels_Right (l : List T_api_Label) : Option Bool :=
  (labels_Right.l1 l l 0 ([] : List (ByteArray × Int))).bind fun o =>
  o.on fun j =>
  some (decide ((l.length : Int) ≤ (16 : Int)))
theorem labels_Right_ok (l : List T_api_Label) (r : Bool) (hm : labels_Right l = some r) :
    VC Try.prog 96 [.list 79 (List.map T_api_Label.vv l)] [] (fun zx zH => zx = .bool r ∧ zH = []) := by
  unfold labels_Right at hm
  refine VC.run (c := _) (rs := [.tmp 2]) Try.func96 rfl rfl rfl ?_
  refine VW.seq ?_
  refine VW.region ?_
  refine VR.p rfl rfl (VP.assign rfl) ?_
  refine VR.nil ?_
  refine VW.seq ?_
  refine VW.region ?_
  refine VR.cons rfl rfl (VO.makeMap fun b => ?_)
  refine VR.p rfl rfl (VP.assign rfl) ?_
  refine VR.nil ?_
  refine VW.seq ?_
  refine VW.seq ?_
  refine VW.region ?_
  refine VR.p rfl rfl (VP.move rfl) ?_
  refine VR.p rfl rfl (VP.lenT T_api_Label.vv rfl Try.underlying24) ?_
  refine VR.p rfl rfl (VP.move rfl) ?_
  refine VR.nil ?_
  refine VW.lenL 0 rfl fun h4 => ?_
  have h4 := max_map h4
  obtain ⟨o, h2, h3⟩ := bnd hm
  refine VW.joinE (fun (q : Unit) => o = Out.go q) (fun (j : Unit) (gg : Unit) => [(0, .list 79 (List.map T_api_Label.vv l))]) (fun (j : Unit) (gg : Unit) => []) ?_ ?_
  · have hm := h2
    refine VW.block (VW.loop (l.length + 1) ?_)
    refine VL.eachS (l := l) (R := _) (fun zl zk (zs : List (ByteArray × Int)) => labels_Right.l1 l zl zk zs) (fun (k : Nat) (zs : List (ByteArray × Int)) (zg : Unit) => [(0, .list 79 (List.map T_api_Label.vv l)), (3, .map b), (7, .list 79 (List.map T_api_Label.vv l)), (8, .int .i64 (l.length : Int)), (9, .int .i64 (k : Int))]) (fun (k : Nat) (zs : List (ByteArray × Int)) (zg : Unit) => [.map b (List.map (pf VV.str (VV.int .i64)) zs)]) ([] : List (ByteArray × Int)) () (Shift.pick [0] rfl ⟨rfl, rfl, rfl, rfl, rfl, trivial⟩) h2 ?_ ?_
    · rintro k had2 _ hk hm
      rw [labels_Right.l1] at hm
      refine VW.seq ?_
      refine VW.region ?_
      refine VR.p rfl rfl (VP.arith rfl rfl rfl) ?_
      refine VR.nil ?_
      refine VW.seq ?_
      refine VW.condF rfl (k_end hk) ?_
      refine VW.exit ?_
      exact ⟨(), (), (Option.some.inj hm).symm, (Shift.pick [] rfl ⟨rfl, trivial⟩)⟩
    · rintro k x l2 had2 _ h5 hm
      rw [labels_Right.l1] at hm
      refine VW.seq ?_
      refine VW.region ?_
      refine VR.p rfl rfl (VP.arith rfl rfl rfl) ?_
      refine VR.nil ?_
      refine VW.seq ?_
      refine VW.condT rfl (k_lt h5) ?_
      refine VW.skip ?_
      refine VW.seq ?_
      refine VW.block ?_
      refine VW.seq ?_
      refine VW.region ?_
      refine VR.p rfl rfl (VP.move rfl) ?_
      refine VR.p rfl rfl (VP.glK T_api_Label.vv rfl rfl el24 h5) ?_
      refine VR.p rfl rfl (VP.loadE rfl ld79 rfl) ?_
      refine VR.cons rfl rfl (VO.alloc z79 fun b2 => ?_)
      refine VR.p rfl rfl (VP.assign rfl) ?_
      refine VR.cons rfl rfl (VO.storeP (i := 0) rfl rfl rfl ld79 rfl rfl rfl ?_)
      refine VR.nil ?_
      refine VW.seq ?_
      refine VW.region ?_
      refine VR.p rfl rfl (VP.move rfl) ?_
      refine VR.p rfl rfl (VP.fieldP rfl fa79_0) ?_
      refine VR.p rfl rfl (VP.loadP (i := 0) rfl rfl ld9 rfl) ?_
      refine VR.p rfl rfl (VP.lookup 1 (kf := VV.str) (vf := (VV.int .i64)) (l := had2) (k := x.Key) (z := (0 : Int)) false mk9 Try.underlying90 rfl rfl rfl zc3 rfl) ?_
      refine VR.p rfl rfl (VP.arith rfl rfl rfl) ?_
      refine VR.cons rfl rfl (VO.mapUpdate 1 (kf := VV.str) (vf := (VV.int .i64)) (l := had2) (k := x.Key) (z := (IntKind.i64.wrap (((V.mg had2 x.Key).getD (0 : Int)) + (1 : Int)))) mk9 Try.underlying90 rfl rfl rfl rfl ?_)
      refine VR.nil ?_
      refine VW.seq ?_
      refine VW.drawK 0 mixed ?_
      refine VA.p 0 rfl rfl rfl (by kernel_rfl) (VP.move rfl) ?_
      refine VA.p 1 rfl rfl rfl (by kernel_rfl) (VP.fieldP rfl fa79_0) ?_
      refine VA.p 2 rfl rfl rfl (by kernel_rfl) (VP.loadP (i := 0) rfl rfl ld9 rfl) ?_
      refine VA.p 3 rfl rfl rfl (by kernel_rfl) (VP.lookup 1 (kf := VV.str) (vf := (VV.int .i64)) (l := (V.mp had2 x.Key (IntKind.i64.wrap (((V.mg had2 x.Key).getD (0 : Int)) + (1 : Int))))) (k := x.Key) (z := (0 : Int)) false mk9 Try.underlying90 rfl rfl rfl zc3 rfl) ?_
      refine VA.p 4 rfl rfl rfl (by kernel_rfl) (VP.arith rfl rfl rfl) ?_
      refine VA.p 5 rfl rfl rfl (by kernel_rfl) (VP.move rfl) ?_
      obtain ⟨c, h10, hm⟩ := bnd hm
      refine VA.sc [10, 9, 8, 7, 6, 5, 4, 3, 2, 1, 0] 29 (.bool c) (fun K' J => ?_) ?_
      · have hm := h10
        rcases ite_or hm with ⟨h7, hm⟩ | ⟨h7, hm⟩
        · refine VA.skipG 6 rfl rfl rfl rfl rfl h7 (by kernel_rfl) ?_
          refine VA.skipG 7 rfl rfl rfl rfl rfl h7 (by kernel_rfl) ?_
          refine VA.skipG 8 rfl rfl rfl rfl rfl h7 (by kernel_rfl) ?_
          refine VA.skipG 9 rfl rfl rfl rfl rfl h7 (by kernel_rfl) ?_
          refine VA.p 10 rfl rfl rfl (by kernel_rfl) (VP.pickB true rfl h7 rfl) ?_
          exact J [_, _, _, _] _ rfl (congrArg VV.bool (Option.some.inj hm))
        · have h7 := bf h7
          refine VA.pG 6 rfl rfl rfl rfl rfl h7 (by kernel_rfl) (VP.fieldP rfl fa79_0) ?_
          refine VA.pG 7 rfl rfl rfl rfl rfl h7 (by kernel_rfl) (VP.loadP (i := 0) rfl rfl ld9 rfl) ?_
          refine VA.all [8] (by kernel_rfl) ⟨?_, trivial⟩
          obtain ⟨r, h8, hm⟩ := bnd hm
          refine VB.oG rfl rfl rfl rfl rfl h7 (VO.callK 0 rfl fn99 rfl (lex_Word_ok x.Key r h8) fun _ _ h9 => ?_)
          obtain ⟨rfl, rfl⟩ := h9
          refine VA.pG 9 rfl rfl rfl rfl rfl h7 (by kernel_rfl) (VP.not rfl) ?_
          refine VA.p 10 rfl rfl rfl (by kernel_rfl) (VP.pickB false rfl h7 rfl) ?_
          exact J [_, _, _, _] _ rfl (congrArg VV.bool (Option.some.inj hm))
      · refine VA.p 11 rfl rfl rfl (by kernel_rfl) (VP.move rfl) ?_
        obtain ⟨c2, h14, hm⟩ := bnd hm
        refine VA.sc [16, 15, 14, 13, 12, 11, 10, 9, 8, 7, 6, 5, 4, 3, 2, 1, 0] 35 (.bool c2) (fun K' J => ?_) ?_
        · have hm := h14
          rcases ite_or hm with ⟨h11, hm⟩ | ⟨h11, hm⟩
          · refine VA.skipG 12 rfl rfl rfl rfl rfl h11 (by kernel_rfl) ?_
            refine VA.skipG 13 rfl rfl rfl rfl rfl h11 (by kernel_rfl) ?_
            refine VA.skipG 14 rfl rfl rfl rfl rfl h11 (by kernel_rfl) ?_
            refine VA.skipG 15 rfl rfl rfl rfl rfl h11 (by kernel_rfl) ?_
            refine VA.p 16 rfl rfl rfl (by kernel_rfl) (VP.pickB true rfl h11 rfl) ?_
            exact J [_, _, _, _] _ rfl (congrArg VV.bool (Option.some.inj hm))
          · have h11 := bf h11
            refine VA.pG 12 rfl rfl rfl rfl rfl h11 (by kernel_rfl) (VP.fieldP rfl fa79_1) ?_
            refine VA.pG 13 rfl rfl rfl rfl rfl h11 (by kernel_rfl) (VP.loadP (i := 0) rfl rfl ld9 rfl) ?_
            refine VA.all [14] (by kernel_rfl) ⟨?_, trivial⟩
            obtain ⟨r2, h12, hm⟩ := bnd hm
            refine VB.oG rfl rfl rfl rfl rfl h11 (VO.callK 0 rfl fn118 rfl (labels_maybe_ok x.Val r2 h12) fun _ _ h13 => ?_)
            obtain ⟨rfl, rfl⟩ := h13
            refine VA.pG 15 rfl rfl rfl rfl rfl h11 (by kernel_rfl) (VP.not rfl) ?_
            refine VA.p 16 rfl rfl rfl (by kernel_rfl) (VP.pickB false rfl h11 rfl) ?_
            exact J [_, _, _, _] _ rfl (congrArg VV.bool (Option.some.inj hm))
        · refine VA.p 17 rfl rfl rfl (by kernel_rfl) (VP.move rfl) ?_
          obtain ⟨c4, h19, hm⟩ := bnd hm
          refine VA.sc [31, 30, 29, 28, 27, 26, 25, 24, 23, 22, 21, 20, 19, 18, 17, 16, 15, 14, 13, 12, 11, 10, 9, 8, 7, 6, 5, 4, 3, 2, 1, 0] 50 (.bool c4) (fun K' J => ?_) ?_
          · have hm := h19
            rcases ite_or hm with ⟨h15, hm⟩ | ⟨h15, hm⟩
            · refine VA.skipG 18 rfl rfl rfl rfl rfl h15 (by kernel_rfl) ?_
              refine VA.skipG 19 rfl rfl rfl rfl rfl h15 (by kernel_rfl) ?_
              refine VA.skipG 20 rfl rfl rfl rfl rfl h15 (by kernel_rfl) ?_
              refine VA.skipU 21 rfl rfl rfl rfl rfl (by kernel_rfl) ?_
              refine VA.skipU 22 rfl rfl rfl rfl rfl (by kernel_rfl) ?_
              refine VA.skipU 23 rfl rfl rfl rfl rfl (by kernel_rfl) ?_
              refine VA.skipU 24 rfl rfl rfl rfl rfl (by kernel_rfl) ?_
              refine VA.skipU 25 rfl rfl rfl rfl rfl (by kernel_rfl) ?_
              refine VA.skipU 26 rfl rfl rfl rfl rfl (by kernel_rfl) ?_
              refine VA.skipU 27 rfl rfl rfl rfl rfl (by kernel_rfl) ?_
              refine VA.skipU 28 rfl rfl rfl rfl rfl (by kernel_rfl) ?_
              refine VA.skipU 29 rfl rfl rfl rfl rfl (by kernel_rfl) ?_
              refine VA.skipG 30 rfl rfl rfl rfl rfl h15 (by kernel_rfl) ?_
              refine VA.p 31 rfl rfl rfl (by kernel_rfl) (VP.pickB true rfl h15 rfl) ?_
              exact J [_, _, _, _, _, _, _, _, _, _, _, _, _] _ rfl (congrArg VV.bool (Option.some.inj hm))
            · have h15 := bf h15
              refine VA.pG 18 rfl rfl rfl rfl rfl h15 (by kernel_rfl) (VP.move rfl) ?_
              refine VA.pG 19 rfl rfl rfl rfl rfl h15 (by kernel_rfl) (VP.arith rfl rfl rfl) ?_
              refine VA.pG 20 rfl rfl rfl rfl rfl h15 (by kernel_rfl) (VP.move rfl) ?_
              obtain ⟨c3, h18, hm⟩ := bnd hm
              refine VA.sc [30, 29, 28, 27, 26, 25, 24, 23, 22, 21, 20, 19, 18, 17, 16, 15, 14, 13, 12, 11, 10, 9, 8, 7, 6, 5, 4, 3, 2, 1, 0] 49 (.bool c3) (fun K' J => ?_) ?_
              · have hm := h18
                rcases ite_or hm with ⟨h16, hm⟩ | ⟨h16, hm⟩
                · refine VA.pG 21 rfl rfl rfl rfl rfl h16 (by kernel_rfl) (VP.move rfl) ?_
                  refine VA.pG 22 rfl rfl rfl rfl rfl h16 (by kernel_rfl) (VP.move rfl) ?_
                  refine VA.pG 23 rfl rfl rfl rfl rfl h16 (by kernel_rfl) (VP.arith rfl rfl rfl) ?_
                  obtain ⟨x2, h17, hm⟩ := bnd hm
                  refine VA.pG 24 rfl rfl rfl rfl rfl h16 (by kernel_rfl) (VP.glE T_api_Label.vv rfl rfl el24 h17) ?_
                  refine VA.pG 25 rfl rfl rfl rfl rfl h16 (by kernel_rfl) (VP.fieldE rfl fa79_0) ?_
                  refine VA.pG 26 rfl rfl rfl rfl rfl h16 (by kernel_rfl) (VP.loadE rfl ld9 rfl) ?_
                  refine VA.pG 27 rfl rfl rfl rfl rfl h16 (by kernel_rfl) (VP.fieldP rfl fa79_0) ?_
                  refine VA.pG 28 rfl rfl rfl rfl rfl h16 (by kernel_rfl) (VP.loadP (i := 0) rfl rfl ld9 rfl) ?_
                  refine VA.pG 29 rfl rfl rfl rfl rfl h16 (by kernel_rfl) (VP.strop rfl rfl rfl) ?_
                  refine VA.pG 30 rfl rfl rfl rfl rfl h15 (by kernel_rfl) (VP.pickB true rfl h16 rfl) ?_
                  exact J [_, _, _, _, _, _, _, _, _] _ rfl (congrArg VV.bool (Option.some.inj hm))
                · have h16 := bf h16
                  refine VA.skipG 21 rfl rfl rfl rfl rfl h16 (by kernel_rfl) ?_
                  refine VA.skipG 22 rfl rfl rfl rfl rfl h16 (by kernel_rfl) ?_
                  refine VA.skipG 23 rfl rfl rfl rfl rfl h16 (by kernel_rfl) ?_
                  refine VA.skipG 24 rfl rfl rfl rfl rfl h16 (by kernel_rfl) ?_
                  refine VA.skipG 25 rfl rfl rfl rfl rfl h16 (by kernel_rfl) ?_
                  refine VA.skipG 26 rfl rfl rfl rfl rfl h16 (by kernel_rfl) ?_
                  refine VA.skipG 27 rfl rfl rfl rfl rfl h16 (by kernel_rfl) ?_
                  refine VA.skipG 28 rfl rfl rfl rfl rfl h16 (by kernel_rfl) ?_
                  refine VA.skipG 29 rfl rfl rfl rfl rfl h16 (by kernel_rfl) ?_
                  refine VA.pG 30 rfl rfl rfl rfl rfl h15 (by kernel_rfl) (VP.pickB false rfl h16 rfl) ?_
                  exact J [_, _, _, _, _, _, _, _, _] _ rfl (congrArg VV.bool (Option.some.inj hm))
              · refine VA.p 31 rfl rfl rfl (by kernel_rfl) (VP.pickB false rfl h15 rfl) ?_
                exact J [_, _, _, _] _ rfl (congrArg VV.bool (Option.some.inj hm))
          · refine VA.done (by kernel_rfl) ?_
            rcases ite_or hm with ⟨h20, hm⟩ | ⟨h20, hm⟩
            · refine VW.condT rfl h20 ?_
              refine VW.seq ?_
              refine VW.region ?_
              refine VR.p rfl rfl (VP.assign rfl) ?_
              refine VR.nil ?_
              obtain rfl := Option.some.inj hm
              have hm := Out.ret_on h3
              obtain rfl := Option.some.inj hm
              exact VW.ret ⟨.inl rfl, _, .cons (.tmp _ _ rfl) .nil, [], _, rfl, rfl, rfl⟩
            · have h20 := bf h20
              refine VW.condF rfl h20 ?_
              refine VW.skip ?_
              refine VW.region ?_
              refine VR.p rfl rfl (VP.arith rfl rfl rfl) ?_
              refine VR.p rfl rfl (VP.move rfl) ?_
              refine VR.nil ?_
              exact ⟨(V.mp had2 x.Key (IntKind.i64.wrap (((V.mg had2 x.Key).getD (0 : Int)) + (1 : Int)))), (), hm, (Shift.pick [1] rfl ⟨rfl, rfl, rfl, rfl, congrArg some (k_next h5 h4), trivial⟩)⟩
  · rintro j _ rfl
    have hm := Out.go_on h3
    refine VW.seq ?_
    refine VW.region ?_
    refine VR.p rfl rfl (VP.move rfl) ?_
    refine VR.p rfl rfl (VP.lenT T_api_Label.vv rfl Try.underlying24) ?_
    refine VR.p rfl rfl (VP.arith rfl rfl rfl) ?_
    refine VR.p rfl rfl (VP.assign rfl) ?_
    refine VR.nil ?_
    obtain rfl := Option.some.inj hm
    exact VW.ret ⟨.inl rfl, _, .cons (.tmp _ _ rfl) .nil, [], _, rfl, rfl, rfl⟩

/-! trireme/taints.maybe -/
def taints_maybe (s : ByteArray) : Option Bool :=
  (if (V.seq s (⟨#[]⟩ : ByteArray)) = true then some true else (lex_Word s).bind fun r =>
  some r).bind fun c =>
  some c
theorem taints_maybe_ok (s : ByteArray) (r : Bool) (hm : taints_maybe s = some r) :
    VC Try.prog 119 [.str s] [] (fun zx zH => zx = .bool r ∧ zH = []) := by
  unfold taints_maybe at hm
  refine VC.run (c := _) (rs := [.tmp 2]) Try.func119 rfl rfl rfl ?_
  refine VW.seq ?_
  refine VW.region ?_
  refine VR.p rfl rfl (VP.assign rfl) ?_
  refine VR.nil ?_
  refine VW.seq ?_
  refine VW.region ?_
  refine VR.p rfl rfl (VP.move rfl) ?_
  refine VR.p rfl rfl (VP.strop rfl rfl rfl) ?_
  refine VR.p rfl rfl (VP.move rfl) ?_
  obtain ⟨c, h4, hm⟩ := bnd hm
  refine VR.sc 3 8 (.bool c) (fun K' J => ?_) ?_
  · have hm := h4
    rcases ite_or hm with ⟨h1, hm⟩ | ⟨h1, hm⟩
    · refine VR.skipG rfl rfl rfl rfl h1 ?_
      refine VR.skipG rfl rfl rfl rfl h1 ?_
      refine VR.p rfl rfl (VP.pickB true rfl h1 rfl) ?_
      exact J [_, _] _ rfl (congrArg VV.bool (Option.some.inj hm))
    · have h1 := bf h1
      refine VR.pG rfl rfl rfl rfl h1 (VP.move rfl) ?_
      obtain ⟨r, h2, hm⟩ := bnd hm
      refine VR.consG rfl rfl rfl rfl h1 (VO.callK 0 rfl fn99 rfl (lex_Word_ok s r h2) fun _ _ h3 => ?_)
      obtain ⟨rfl, rfl⟩ := h3
      refine VR.p rfl rfl (VP.pickB false rfl h1 rfl) ?_
      exact J [_, _] _ rfl (congrArg VV.bool (Option.some.inj hm))
  · refine VR.p rfl rfl (VP.assign rfl) ?_
    refine VR.nil ?_
    obtain rfl := Option.some.inj hm
    exact VW.ret ⟨.inl rfl, _, .cons (.tmp _ _ rfl) .nil, [], _, rfl, rfl, rfl⟩

/-! trireme/taints.known -/
def taints_known (effect : Int) : Option Bool :=
  some (((effect == (1 : Int)) || (effect == (2 : Int))) || (effect == (3 : Int)))
theorem taints_known_ok (effect : Int) (r : Bool) (hm : taints_known effect = some r) :
    VC Try.prog 120 [.int .i64 effect] [] (fun zx zH => zx = .bool r ∧ zH = []) := by
  unfold taints_known at hm
  refine VC.run (c := _) (rs := [.tmp 2]) Try.func120 rfl rfl rfl ?_
  refine VW.seq ?_
  refine VW.region ?_
  refine VR.p rfl rfl (VP.assign rfl) ?_
  refine VR.nil ?_
  refine VW.seq ?_
  refine VW.region ?_
  refine VR.p rfl rfl (VP.move rfl) ?_
  refine VR.p rfl rfl (VP.arith rfl rfl rfl) ?_
  refine VR.p rfl rfl (VP.move rfl) ?_
  refine VR.sc 3 8 (.bool ((effect == (1 : Int)) || (effect == (2 : Int)))) (fun K' J => ?_) ?_
  · rcases Bool.eq_false_or_eq_true (effect == (1 : Int)) with h1 | h1
    · refine VR.skipG rfl rfl rfl rfl h1 ?_
      refine VR.skipG rfl rfl rfl rfl h1 ?_
      refine VR.p rfl rfl (VP.pickB true rfl h1 rfl) ?_
      exact J [_, _] _ rfl (orT h1)
    · refine VR.pG rfl rfl rfl rfl h1 (VP.move rfl) ?_
      refine VR.pG rfl rfl rfl rfl h1 (VP.arith rfl rfl rfl) ?_
      refine VR.p rfl rfl (VP.pickB false rfl h1 rfl) ?_
      exact J [_, _] _ rfl (orF h1)
  · refine VR.p rfl rfl (VP.move rfl) ?_
    refine VR.sc 3 12 (.bool (((effect == (1 : Int)) || (effect == (2 : Int))) || (effect == (3 : Int)))) (fun K' J => ?_) ?_
    · rcases Bool.eq_false_or_eq_true ((effect == (1 : Int)) || (effect == (2 : Int))) with h2 | h2
      · refine VR.skipG rfl rfl rfl rfl h2 ?_
        refine VR.skipG rfl rfl rfl rfl h2 ?_
        refine VR.p rfl rfl (VP.pickB true rfl h2 rfl) ?_
        exact J [_, _] _ rfl (orT h2)
      · refine VR.pG rfl rfl rfl rfl h2 (VP.move rfl) ?_
        refine VR.pG rfl rfl rfl rfl h2 (VP.arith rfl rfl rfl) ?_
        refine VR.p rfl rfl (VP.pickB false rfl h2 rfl) ?_
        exact J [_, _] _ rfl (orF h2)
    · refine VR.p rfl rfl (VP.assign rfl) ?_
      refine VR.nil ?_
      obtain rfl := Option.some.inj hm
      exact VW.ret ⟨.inl rfl, _, .cons (.tmp _ _ rfl) .nil, [], _, rfl, rfl, rfl⟩

/-! trireme/taints.like -/
def taints_like (x : T_api_Taint) : Option T_api_Taint :=
  some (⟨x.Key, (⟨#[]⟩ : ByteArray), x.Effect⟩ : T_api_Taint)
theorem taints_like_ok (x : T_api_Taint) (r : T_api_Taint) (hm : taints_like x = some r) :
    VC Try.prog 121 [T_api_Taint.vv x] [] (fun zx zH => zx = T_api_Taint.vv r ∧ zH = []) := by
  unfold taints_like at hm
  refine VC.run (c := _) (rs := [.cell 2 97]) Try.func121 rfl rfl rfl ?_
  refine VW.seq ?_
  refine VW.region ?_
  refine VR.cons rfl rfl (VO.box rfl rfl fun b => ?_)
  refine VR.cons rfl rfl (VO.alloc z97 fun b2 => ?_)
  refine VR.nil ?_
  refine VW.seq ?_
  refine VW.region ?_
  refine VR.p rfl rfl (VP.fieldP rfl fa97_1) ?_
  refine VR.cons rfl rfl (VO.storeP (i := 1) rfl rfl rfl ld9 rfl rfl rfl ?_)
  refine VR.nil ?_
  refine VW.seq ?_
  refine VW.region ?_
  refine VR.p rfl rfl (VP.loadP (i := 1) rfl rfl ld97 rfl) ?_
  refine VR.cons rfl rfl (VO.storeP (i := 0) rfl rfl rfl ld97 rfl rfl rfl ?_)
  refine VR.nil ?_
  obtain rfl := Option.some.inj hm
  exact VW.ret ⟨.inl rfl, _, .cons (.cell _ _ _ _ 0 _ _ _ _ rfl rfl ld97 rfl) .nil, [], _, rfl, rfl, rfl⟩

/-! trireme/taints.Right -/
def taints_Right.l2 (x : T_api_Taint) : List T_api_Taint → Nat → Option (Out (Out Bool Unit) Unit)
  | [], k2 => some (Out.go ())
  | x2 :: l3, k2 =>
    (taints_like x).bind fun r4 =>
    (taints_like x2).bind fun r5 =>
    if (((r4.Key == r5.Key) && ((r4.Val == r5.Val) && ((r4.Effect == r5.Effect) && true))) == true) = true then
      some (Out.ret (Out.ret false))
    else
      taints_Right.l2 x l3 (k2 + 1)
def taints_Right.l1 (l : List T_api_Taint) : List T_api_Taint → Nat → Option (Out Bool Unit)
  | [], k => some (Out.go ())
  | x :: l2, k =>
    (lex_Word x.Key).bind fun r =>
    (if (!r) = true then some true else (taints_maybe x.Val).bind fun r2 =>
    some (!r2)).bind fun c =>
    (if c = true then some true else (taints_known x.Effect).bind fun r3 =>
    some (!r3)).bind fun c2 =>
    if c2 = true then
      some (Out.ret false)
    else
      (V.sl l none (some (k : Int))).bind fun v =>
      (taints_Right.l2 x v 0).bind fun o2 =>
      o2.on fun j2 =>
      taints_Right.l1 l l2 (k + 1)
def taints_Right (l : List T_api_Taint) : Option Bool :=
  (taints_Right.l1 l l 0).bind fun o =>
  o.on fun j =>
  some (decide ((l.length : Int) ≤ (16 : Int)))
theorem taints_Right_ok (l : List T_api_Taint) (r : Bool) (hm : taints_Right l = some r) :
    VC Try.prog 97 [.list 97 (List.map T_api_Taint.vv l)] [] (fun zx zH => zx = .bool r ∧ zH = []) := by
  unfold taints_Right at hm
  refine VC.run (c := _) (rs := [.tmp 2]) Try.func97 rfl rfl rfl ?_
  refine VW.seq ?_
  refine VW.region ?_
  refine VR.p rfl rfl (VP.assign rfl) ?_
  refine VR.nil ?_
  refine VW.seq ?_
  refine VW.seq ?_
  refine VW.region ?_
  refine VR.p rfl rfl (VP.move rfl) ?_
  refine VR.p rfl rfl (VP.lenT T_api_Taint.vv rfl Try.underlying25) ?_
  refine VR.p rfl rfl (VP.move rfl) ?_
  refine VR.nil ?_
  refine VW.lenL 0 rfl fun h3 => ?_
  have h3 := max_map h3
  obtain ⟨o, h1, h2⟩ := bnd hm
  refine VW.joinE (fun (q : Unit) => o = Out.go q) (fun (j : Unit) (gg : Unit) => [(0, .list 97 (List.map T_api_Taint.vv l))]) (fun (j : Unit) (gg : Unit) => []) ?_ ?_
  · have hm := h1
    refine VW.block (VW.loop (l.length + 1) ?_)
    refine VL.eachS (l := l) (R := _) (fun zl zk (zs : Unit) => taints_Right.l1 l zl zk) (fun (k : Nat) (zs : Unit) (zg : Unit) => [(0, .list 97 (List.map T_api_Taint.vv l)), (7, .list 97 (List.map T_api_Taint.vv l)), (8, .int .i64 (l.length : Int)), (9, .int .i64 (k : Int))]) (fun (k : Nat) (zs : Unit) (zg : Unit) => []) () () (Shift.pick [] rfl ⟨rfl, rfl, rfl, rfl, trivial⟩) h1 ?_ ?_
    · rintro k _ _ hk hm
      rw [taints_Right.l1] at hm
      refine VW.seq ?_
      refine VW.region ?_
      refine VR.p rfl rfl (VP.arith rfl rfl rfl) ?_
      refine VR.nil ?_
      refine VW.seq ?_
      refine VW.condF rfl (k_end hk) ?_
      refine VW.exit ?_
      exact ⟨(), (), (Option.some.inj hm).symm, (Shift.pick [] rfl ⟨rfl, trivial⟩)⟩
    · rintro k x l2 _ _ h4 hm
      rw [taints_Right.l1] at hm
      refine VW.seq ?_
      refine VW.region ?_
      refine VR.p rfl rfl (VP.arith rfl rfl rfl) ?_
      refine VR.nil ?_
      refine VW.seq ?_
      refine VW.condT rfl (k_lt h4) ?_
      refine VW.skip ?_
      refine VW.seq ?_
      refine VW.block ?_
      refine VW.seq ?_
      refine VW.region ?_
      refine VR.p rfl rfl (VP.move rfl) ?_
      refine VR.p rfl rfl (VP.glK T_api_Taint.vv rfl rfl el25 h4) ?_
      refine VR.p rfl rfl (VP.loadE rfl ld97 rfl) ?_
      refine VR.cons rfl rfl (VO.alloc z97 fun b => ?_)
      refine VR.p rfl rfl (VP.assign rfl) ?_
      refine VR.cons rfl rfl (VO.storeP (i := 0) rfl rfl rfl ld97 rfl rfl rfl ?_)
      refine VR.nil ?_
      refine VW.seq ?_
      refine VW.seq ?_
      refine VW.region ?_
      refine VR.p rfl rfl (VP.fieldP rfl fa97_0) ?_
      refine VR.p rfl rfl (VP.loadP (i := 0) rfl rfl ld9 rfl) ?_
      obtain ⟨r, h6, hm⟩ := bnd hm
      refine VR.cons rfl rfl (VO.callK 0 rfl fn99 rfl (lex_Word_ok x.Key r h6) fun _ _ h27 => ?_)
      obtain ⟨rfl, rfl⟩ := h27
      refine VR.p rfl rfl (VP.not rfl) ?_
      refine VR.p rfl rfl (VP.move rfl) ?_
      obtain ⟨c, h10, hm⟩ := bnd hm
      refine VR.sc 5 23 (.bool c) (fun K' J => ?_) ?_
      · have hm := h10
        rcases ite_or hm with ⟨h7, hm⟩ | ⟨h7, hm⟩
        · refine VR.skipG rfl rfl rfl rfl h7 ?_
          refine VR.skipG rfl rfl rfl rfl h7 ?_
          refine VR.skipG rfl rfl rfl rfl h7 ?_
          refine VR.skipG rfl rfl rfl rfl h7 ?_
          refine VR.p rfl rfl (VP.pickB true rfl h7 rfl) ?_
          exact J [_, _, _, _] _ rfl (congrArg VV.bool (Option.some.inj hm))
        · have h7 := bf h7
          refine VR.pG rfl rfl rfl rfl h7 (VP.fieldP rfl fa97_1) ?_
          refine VR.pG rfl rfl rfl rfl h7 (VP.loadP (i := 0) rfl rfl ld9 rfl) ?_
          obtain ⟨r2, h8, hm⟩ := bnd hm
          refine VR.consG rfl rfl rfl rfl h7 (VO.callK 0 rfl fn119 rfl (taints_maybe_ok x.Val r2 h8) fun _ _ h9 => ?_)
          obtain ⟨rfl, rfl⟩ := h9
          refine VR.pG rfl rfl rfl rfl h7 (VP.not rfl) ?_
          refine VR.p rfl rfl (VP.pickB false rfl h7 rfl) ?_
          exact J [_, _, _, _] _ rfl (congrArg VV.bool (Option.some.inj hm))
      · refine VR.p rfl rfl (VP.move rfl) ?_
        obtain ⟨c2, h14, hm⟩ := bnd hm
        refine VR.sc 5 29 (.bool c2) (fun K' J => ?_) ?_
        · have hm := h14
          rcases ite_or hm with ⟨h11, hm⟩ | ⟨h11, hm⟩
          · refine VR.skipG rfl rfl rfl rfl h11 ?_
            refine VR.skipG rfl rfl rfl rfl h11 ?_
            refine VR.skipG rfl rfl rfl rfl h11 ?_
            refine VR.skipG rfl rfl rfl rfl h11 ?_
            refine VR.p rfl rfl (VP.pickB true rfl h11 rfl) ?_
            exact J [_, _, _, _] _ rfl (congrArg VV.bool (Option.some.inj hm))
          · have h11 := bf h11
            refine VR.pG rfl rfl rfl rfl h11 (VP.fieldP rfl fa97_2) ?_
            refine VR.pG rfl rfl rfl rfl h11 (VP.loadP (i := 0) rfl rfl ld3 rfl) ?_
            obtain ⟨r3, h12, hm⟩ := bnd hm
            refine VR.consG rfl rfl rfl rfl h11 (VO.callK 0 rfl fn120 rfl (taints_known_ok x.Effect r3 h12) fun _ _ h13 => ?_)
            obtain ⟨rfl, rfl⟩ := h13
            refine VR.pG rfl rfl rfl rfl h11 (VP.not rfl) ?_
            refine VR.p rfl rfl (VP.pickB false rfl h11 rfl) ?_
            exact J [_, _, _, _] _ rfl (congrArg VV.bool (Option.some.inj hm))
        · refine VR.nil ?_
          rcases ite_or hm with ⟨h15, hm⟩ | ⟨h15, hm⟩
          · refine VW.condT rfl h15 ?_
            refine VW.seq ?_
            refine VW.region ?_
            refine VR.p rfl rfl (VP.assign rfl) ?_
            refine VR.nil ?_
            obtain rfl := Option.some.inj hm
            have hm := Out.ret_on h2
            obtain rfl := Option.some.inj hm
            exact VW.ret ⟨.inl rfl, _, .cons (.tmp _ _ rfl) .nil, [], _, rfl, rfl, rfl⟩
          · have h15 := bf h15
            refine VW.condF rfl h15 ?_
            refine VW.skip ?_
            refine VW.seq ?_
            refine VW.region ?_
            refine VR.p rfl rfl (VP.move rfl) ?_
            refine VR.p rfl rfl (VP.move rfl) ?_
            obtain ⟨v, h16, hm⟩ := bnd hm
            refine VR.p rfl rfl (VP.slT rfl rfl rfl el25 h16) ?_
            refine VR.p rfl rfl (VP.lenT T_api_Taint.vv rfl Try.underlying25) ?_
            refine VR.p rfl rfl (VP.move rfl) ?_
            refine VR.nil ?_
            refine VW.lenL 32 rfl fun h19 => ?_
            have h19 := max_map h19
            obtain ⟨o2, h17, h18⟩ := bnd hm
            refine VW.joinE (fun (q : Unit) => o2 = Out.go q) (fun (j2 : Unit) (gg : Unit) => [(0, .list 97 (List.map T_api_Taint.vv l)), (7, .list 97 (List.map T_api_Taint.vv l)), (8, .int .i64 (l.length : Int)), (9, .int .i64 (k : Int))]) (fun (j2 : Unit) (gg : Unit) => []) ?_ ?_
            · have hm := h17
              refine VW.block (VW.loop (v.length + 1) ?_)
              refine VL.eachS (l := v) (R := _) (fun zl zk (zs : Unit) => taints_Right.l2 x zl zk) (fun (k2 : Nat) (zs : Unit) (zg : Unit) => [(0, .list 97 (List.map T_api_Taint.vv l)), (4, .ptr b 0), (7, .list 97 (List.map T_api_Taint.vv l)), (8, .int .i64 (l.length : Int)), (9, .int .i64 (k : Int)), (32, .list 97 (List.map T_api_Taint.vv v)), (33, .int .i64 (v.length : Int)), (34, .int .i64 (k2 : Int))]) (fun (k2 : Nat) (zs : Unit) (zg : Unit) => [.box b 97 (T_api_Taint.cells x)]) () () (Shift.pick [0] rfl ⟨rfl, rfl, rfl, rfl, rfl, rfl, rfl, rfl, trivial⟩) h17 ?_ ?_
              · rintro k2 _ _ hk hm
                rw [taints_Right.l2] at hm
                refine VW.seq ?_
                refine VW.region ?_
                refine VR.p rfl rfl (VP.arith rfl rfl rfl) ?_
                refine VR.nil ?_
                refine VW.seq ?_
                refine VW.condF rfl (k_end hk) ?_
                refine VW.exit ?_
                exact ⟨(), (), (Option.some.inj hm).symm, (Shift.pick [] rfl ⟨rfl, rfl, rfl, rfl, trivial⟩)⟩
              · rintro k2 x2 l3 _ _ h20 hm
                rw [taints_Right.l2] at hm
                refine VW.seq ?_
                refine VW.region ?_
                refine VR.p rfl rfl (VP.arith rfl rfl rfl) ?_
                refine VR.nil ?_
                refine VW.seq ?_
                refine VW.condT rfl (k_lt h20) ?_
                refine VW.skip ?_
                refine VW.seq ?_
                refine VW.block ?_
                refine VW.seq ?_
                refine VW.region ?_
                refine VR.p rfl rfl (VP.glK T_api_Taint.vv rfl rfl el25 h20) ?_
                refine VR.p rfl rfl (VP.loadE rfl ld97 rfl) ?_
                refine VR.cons rfl rfl (VO.alloc z97 fun b2 => ?_)
                refine VR.cons rfl rfl (VO.storeP (i := 0) rfl rfl rfl ld97 rfl rfl rfl ?_)
                refine VR.nil ?_
                refine VW.seq ?_
                refine VW.drawK 0 mixed ?_
                refine VA.p 0 rfl rfl rfl (by kernel_rfl) (VP.loadP (i := 1) rfl rfl ld97 rfl) ?_
                refine VA.p 2 rfl rfl rfl (by kernel_rfl) (VP.loadP (i := 0) rfl rfl ld97 rfl) ?_
                refine VA.all [1] (by kernel_rfl) ⟨?_, trivial⟩
                obtain ⟨r4, h22, hm⟩ := bnd hm
                refine VB.o rfl rfl rfl (VO.callK 0 rfl fn121 rfl (taints_like_ok x r4 h22) fun _ _ h26 => ?_)
                obtain ⟨rfl, rfl⟩ := h26
                refine VA.all [3] (by kernel_rfl) ⟨?_, trivial⟩
                obtain ⟨r5, h23, hm⟩ := bnd hm
                refine VB.o rfl rfl rfl (VO.callK 0 rfl fn121 rfl (taints_like_ok x2 r5 h23) fun _ _ h25 => ?_)
                obtain ⟨rfl, rfl⟩ := h25
                refine VA.p 4 rfl rfl rfl (by kernel_rfl) (VP.eqS shp97 eq97 rfl rfl rfl rfl) ?_
                refine VA.done (by kernel_rfl) ?_
                rcases ite_or hm with ⟨h24, hm⟩ | ⟨h24, hm⟩
                · refine VW.condT rfl h24 ?_
                  refine VW.seq ?_
                  refine VW.region ?_
                  refine VR.p rfl rfl (VP.assign rfl) ?_
                  refine VR.nil ?_
                  obtain rfl := Option.some.inj hm
                  have hm := Out.ret_on h18
                  obtain rfl := Option.some.inj hm
                  have hm := Out.ret_on h2
                  obtain rfl := Option.some.inj hm
                  exact VW.ret ⟨.inl rfl, _, .cons (.tmp _ _ rfl) .nil, [], _, rfl, rfl, rfl⟩
                · have h24 := bf h24
                  refine VW.condF rfl h24 ?_
                  refine VW.skip ?_
                  refine VW.region ?_
                  refine VR.p rfl rfl (VP.arith rfl rfl rfl) ?_
                  refine VR.p rfl rfl (VP.move rfl) ?_
                  refine VR.nil ?_
                  exact ⟨(), (), hm, (Shift.pick [1] rfl ⟨rfl, rfl, rfl, rfl, rfl, rfl, rfl, congrArg some (k_next h20 h19), trivial⟩)⟩
            · rintro j2 _ rfl
              have hm := Out.go_on h18
              refine VW.region ?_
              refine VR.p rfl rfl (VP.arith rfl rfl rfl) ?_
              refine VR.p rfl rfl (VP.move rfl) ?_
              refine VR.nil ?_
              exact ⟨(), (), hm, (Shift.pick [] rfl ⟨rfl, rfl, rfl, congrArg some (k_next h4 h3), trivial⟩)⟩
  · rintro j _ rfl
    have hm := Out.go_on h2
    refine VW.seq ?_
    refine VW.region ?_
    refine VR.p rfl rfl (VP.move rfl) ?_
    refine VR.p rfl rfl (VP.lenT T_api_Taint.vv rfl Try.underlying25) ?_
    refine VR.p rfl rfl (VP.arith rfl rfl rfl) ?_
    refine VR.p rfl rfl (VP.assign rfl) ?_
    refine VR.nil ?_
    obtain rfl := Option.some.inj hm
    exact VW.ret ⟨.inl rfl, _, .cons (.tmp _ _ rfl) .nil, [], _, rfl, rfl, rfl⟩

/-! trireme/spec.RightMachine -/
def spec_RightMachine (m : T_api_Machine) : Option Bool :=
  (spec_maybe m.Name).bind fun r =>
  (if r = true then (spec_maybe m.Group).bind fun r2 =>
  some r2 else some false).bind fun c =>
  (if c = true then (res_Right m.Has).bind fun r3 =>
  some r3 else some false).bind fun c2 =>
  (if c2 = true then (labels_Right m.Labels).bind fun r4 =>
  some r4 else some false).bind fun c3 =>
  (if c3 = true then (taints_Right m.Taints).bind fun r5 =>
  some r5 else some false).bind fun c4 =>
  some c4
theorem spec_RightMachine_ok (m : T_api_Machine) (r : Bool) (hm : spec_RightMachine m = some r) :
    VC Try.prog 68 [T_api_Machine.vv m] [] (fun zx zH => zx = .bool r ∧ zH = []) := by
  unfold spec_RightMachine at hm
  refine VC.run (c := _) (rs := [.tmp 2]) Try.func68 rfl rfl rfl ?_
  refine VW.seq ?_
  refine VW.region ?_
  refine VR.cons rfl rfl (VO.box rfl rfl fun b => ?_)
  refine VR.p rfl rfl (VP.assign rfl) ?_
  refine VR.nil ?_
  refine VW.seq ?_
  refine VW.region ?_
  refine VR.p rfl rfl (VP.fieldP rfl fa27_0) ?_
  refine VR.p rfl rfl (VP.loadP (i := 0) rfl rfl ld9 rfl) ?_
  obtain ⟨r, h2, hm⟩ := bnd hm
  refine VR.cons rfl rfl (VO.callK 0 rfl fn95 rfl (spec_maybe_ok m.Name r h2) fun _ _ h19 => ?_)
  obtain ⟨rfl, rfl⟩ := h19
  refine VR.p rfl rfl (VP.move rfl) ?_
  obtain ⟨c, h6, hm⟩ := bnd hm
  refine VR.sc 4 10 (.bool c) (fun K' J => ?_) ?_
  · have hm := h6
    rcases ite_or hm with ⟨h3, hm⟩ | ⟨h3, hm⟩
    · refine VR.pG rfl rfl rfl rfl h3 (VP.fieldP rfl fa27_1) ?_
      refine VR.pG rfl rfl rfl rfl h3 (VP.loadP (i := 0) rfl rfl ld9 rfl) ?_
      obtain ⟨r2, h4, hm⟩ := bnd hm
      refine VR.consG rfl rfl rfl rfl h3 (VO.callK 0 rfl fn95 rfl (spec_maybe_ok m.Group r2 h4) fun _ _ h5 => ?_)
      obtain ⟨rfl, rfl⟩ := h5
      refine VR.p rfl rfl (VP.pickB true rfl h3 rfl) ?_
      exact J [_, _, _] _ rfl (congrArg VV.bool (Option.some.inj hm))
    · have h3 := bf h3
      refine VR.skipG rfl rfl rfl rfl h3 ?_
      refine VR.skipG rfl rfl rfl rfl h3 ?_
      refine VR.skipG rfl rfl rfl rfl h3 ?_
      refine VR.p rfl rfl (VP.pickB false rfl h3 rfl) ?_
      exact J [_, _, _] _ rfl (congrArg VV.bool (Option.some.inj hm))
  · refine VR.p rfl rfl (VP.move rfl) ?_
    obtain ⟨c2, h10, hm⟩ := bnd hm
    refine VR.sc 4 15 (.bool c2) (fun K' J => ?_) ?_
    · have hm := h10
      rcases ite_or hm with ⟨h7, hm⟩ | ⟨h7, hm⟩
      · refine VR.pG rfl rfl rfl rfl h7 (VP.fieldP rfl fa27_2) ?_
        refine VR.pG rfl rfl rfl rfl h7 (VP.loadP (i := 0) rfl rfl ld23 rfl) ?_
        obtain ⟨r3, h8, hm⟩ := bnd hm
        refine VR.consG rfl rfl rfl rfl h7 (VO.callK 0 rfl fn73 rfl (res_Right_ok m.Has r3 h8) fun _ _ h9 => ?_)
        obtain ⟨rfl, rfl⟩ := h9
        refine VR.p rfl rfl (VP.pickB true rfl h7 rfl) ?_
        exact J [_, _, _] _ rfl (congrArg VV.bool (Option.some.inj hm))
      · have h7 := bf h7
        refine VR.skipG rfl rfl rfl rfl h7 ?_
        refine VR.skipG rfl rfl rfl rfl h7 ?_
        refine VR.skipG rfl rfl rfl rfl h7 ?_
        refine VR.p rfl rfl (VP.pickB false rfl h7 rfl) ?_
        exact J [_, _, _] _ rfl (congrArg VV.bool (Option.some.inj hm))
    · refine VR.p rfl rfl (VP.move rfl) ?_
      obtain ⟨c3, h14, hm⟩ := bnd hm
      refine VR.sc 4 20 (.bool c3) (fun K' J => ?_) ?_
      · have hm := h14
        rcases ite_or hm with ⟨h11, hm⟩ | ⟨h11, hm⟩
        · refine VR.pG rfl rfl rfl rfl h11 (VP.fieldP rfl fa27_3) ?_
          refine VR.pG rfl rfl rfl rfl h11 (VP.loadP (i := 0) rfl rfl ld24 rfl) ?_
          obtain ⟨r4, h12, hm⟩ := bnd hm
          refine VR.consG rfl rfl rfl rfl h11 (VO.callK 0 rfl fn96 rfl (labels_Right_ok m.Labels r4 h12) fun _ _ h13 => ?_)
          obtain ⟨rfl, rfl⟩ := h13
          refine VR.p rfl rfl (VP.pickB true rfl h11 rfl) ?_
          exact J [_, _, _] _ rfl (congrArg VV.bool (Option.some.inj hm))
        · have h11 := bf h11
          refine VR.skipG rfl rfl rfl rfl h11 ?_
          refine VR.skipG rfl rfl rfl rfl h11 ?_
          refine VR.skipG rfl rfl rfl rfl h11 ?_
          refine VR.p rfl rfl (VP.pickB false rfl h11 rfl) ?_
          exact J [_, _, _] _ rfl (congrArg VV.bool (Option.some.inj hm))
      · refine VR.p rfl rfl (VP.move rfl) ?_
        obtain ⟨c4, h18, hm⟩ := bnd hm
        refine VR.sc 4 25 (.bool c4) (fun K' J => ?_) ?_
        · have hm := h18
          rcases ite_or hm with ⟨h15, hm⟩ | ⟨h15, hm⟩
          · refine VR.pG rfl rfl rfl rfl h15 (VP.fieldP rfl fa27_4) ?_
            refine VR.pG rfl rfl rfl rfl h15 (VP.loadP (i := 0) rfl rfl ld25 rfl) ?_
            obtain ⟨r5, h16, hm⟩ := bnd hm
            refine VR.consG rfl rfl rfl rfl h15 (VO.callK 0 rfl fn97 rfl (taints_Right_ok m.Taints r5 h16) fun _ _ h17 => ?_)
            obtain ⟨rfl, rfl⟩ := h17
            refine VR.p rfl rfl (VP.pickB true rfl h15 rfl) ?_
            exact J [_, _, _] _ rfl (congrArg VV.bool (Option.some.inj hm))
          · have h15 := bf h15
            refine VR.skipG rfl rfl rfl rfl h15 ?_
            refine VR.skipG rfl rfl rfl rfl h15 ?_
            refine VR.skipG rfl rfl rfl rfl h15 ?_
            refine VR.p rfl rfl (VP.pickB false rfl h15 rfl) ?_
            exact J [_, _, _] _ rfl (congrArg VV.bool (Option.some.inj hm))
        · refine VR.p rfl rfl (VP.assign rfl) ?_
          refine VR.nil ?_
          obtain rfl := Option.some.inj hm
          exact VW.ret ⟨.inl rfl, _, .cons (.tmp _ _ rfl) .nil, [], _, rfl, rfl, rfl⟩

/-! trireme/yard.Check$2 -/
def yard_Check_2 (i : Int) (a : List T_api_Machine) : Option Bool :=
  (V.gl a i).bind fun x =>
  (if (V.seq x.Name (⟨#[]⟩ : ByteArray)) = true then some true else (V.gl a i).bind fun x2 =>
  (spec_RightMachine x2).bind fun r =>
  some (!r)).bind fun c =>
  some c
theorem yard_Check_2_ok (i : Int) (a : List T_api_Machine) (b : Nat) (r : Bool) (hm : yard_Check_2 i a = some r) :
    VC Try.prog 67 [.int .i64 i, .ptr b 0] [.box b 37 [.list 27 (List.map T_api_Machine.vv a)]] (fun zx zH => zx = .bool r ∧ zH = [.box b 37 [.list 27 (List.map T_api_Machine.vv a)]]) := by
  unfold yard_Check_2 at hm
  refine VC.run (c := _) (rs := [.tmp 3]) Try.func67 rfl rfl rfl ?_
  refine VW.seq ?_
  refine VW.region ?_
  refine VR.p rfl rfl (VP.assign rfl) ?_
  refine VR.nil ?_
  refine VW.seq ?_
  refine VW.region ?_
  refine VR.p rfl rfl (VP.loadP (i := 0) rfl rfl ld37 rfl) ?_
  refine VR.p rfl rfl (VP.move rfl) ?_
  obtain ⟨x, h1, hm⟩ := bnd hm
  refine VR.p rfl rfl (VP.glE T_api_Machine.vv rfl rfl el37 h1) ?_
  refine VR.p rfl rfl (VP.fieldE rfl fa27_0) ?_
  refine VR.p rfl rfl (VP.loadE rfl ld9 rfl) ?_
  refine VR.p rfl rfl (VP.strop rfl rfl rfl) ?_
  refine VR.p rfl rfl (VP.move rfl) ?_
  obtain ⟨c, h6, hm⟩ := bnd hm
  refine VR.sc 7 17 (.bool c) (fun K' J => ?_) ?_
  · have hm := h6
    rcases ite_or hm with ⟨h2, hm⟩ | ⟨h2, hm⟩
    · refine VR.skipG rfl rfl rfl rfl h2 ?_
      refine VR.skipG rfl rfl rfl rfl h2 ?_
      refine VR.skipG rfl rfl rfl rfl h2 ?_
      refine VR.skipG rfl rfl rfl rfl h2 ?_
      refine VR.skipG rfl rfl rfl rfl h2 ?_
      refine VR.skipG rfl rfl rfl rfl h2 ?_
      refine VR.p rfl rfl (VP.pickB true rfl h2 rfl) ?_
      exact J [_, _, _, _, _, _] _ rfl (congrArg VV.bool (Option.some.inj hm))
    · have h2 := bf h2
      refine VR.pG rfl rfl rfl rfl h2 (VP.loadP (i := 0) rfl rfl ld37 rfl) ?_
      refine VR.pG rfl rfl rfl rfl h2 (VP.move rfl) ?_
      obtain ⟨x2, h3, hm⟩ := bnd hm
      refine VR.pG rfl rfl rfl rfl h2 (VP.glE T_api_Machine.vv rfl rfl el37 h3) ?_
      refine VR.pG rfl rfl rfl rfl h2 (VP.loadE rfl ld27 rfl) ?_
      obtain ⟨r, h4, hm⟩ := bnd hm
      refine VR.consG rfl rfl rfl rfl h2 (VO.callK 0 rfl fn68 rfl (spec_RightMachine_ok x2 r h4) fun _ _ h5 => ?_)
      obtain ⟨rfl, rfl⟩ := h5
      refine VR.pG rfl rfl rfl rfl h2 (VP.not rfl) ?_
      refine VR.p rfl rfl (VP.pickB false rfl h2 rfl) ?_
      exact J [_, _, _, _, _, _] _ rfl (congrArg VV.bool (Option.some.inj hm))
  · refine VR.p rfl rfl (VP.assign rfl) ?_
    refine VR.nil ?_
    obtain rfl := Option.some.inj hm
    exact VW.ret ⟨.inl rfl, _, .cons (.tmp _ _ rfl) .nil, [0], _, rfl, rfl, rfl⟩

/-! trireme/yard.first -/
def yard_first_yard_Check_2.l1 (n : Int) (c : List T_api_Machine) : Nat → Int → Option (Out Int Unit)
  | 0, _ => none
  | n2 + 1, v2 =>
    if (decide (v2 < n)) = true then
      (yard_Check_2 v2 c).bind fun r =>
      if r = true then
        some (Out.ret v2)
      else
        yard_first_yard_Check_2.l1 n c n2 (IntKind.i64.wrap (v2 + (1 : Int)))
    else
      some (Out.go ())
def yard_first_yard_Check_2 (n : Int) (c : List T_api_Machine) : Option Int :=
  (yard_first_yard_Check_2.l1 n c FU (0 : Int)).bind fun o =>
  o.on fun j =>
  some (-1 : Int)
theorem yard_first_yard_Check_2_ok (n : Int) (c : List T_api_Machine) (b : Nat) (r : Int) (hm : yard_first_yard_Check_2 n c = some r) :
    VC Try.prog 66 [.int .i64 n, .clo (.func 67) [] [.ptr b 0]] [.box b 37 [.list 27 (List.map T_api_Machine.vv c)]] (fun zx zH => zx = .int .i64 r ∧ zH = [.box b 37 [.list 27 (List.map T_api_Machine.vv c)]]) := by
  unfold yard_first_yard_Check_2 at hm
  refine VC.run (c := _) (rs := [.tmp 4]) Try.func66 rfl rfl rfl ?_
  refine VW.seq ?_
  refine VW.region ?_
  refine VR.p rfl rfl (VP.assign rfl) ?_
  refine VR.nil ?_
  refine VW.seq ?_
  refine VW.seq ?_
  refine VW.region ?_
  refine VR.p rfl rfl (VP.move rfl) ?_
  refine VR.p rfl rfl (VP.move rfl) ?_
  refine VR.nil ?_
  obtain ⟨o, h1, h2⟩ := bnd hm
  refine VW.joinE (fun (q : Unit) => o = Out.go q) (fun (j : Unit) (gg : Unit) => []) (fun (j : Unit) (gg : Unit) => [.box b 37 [.list 27 (List.map T_api_Machine.vv c)]]) ?_ ?_
  · have hm := h1
    refine VW.block (VW.loop FU ?_)
    refine VL.fuelS (R := _) (fun zn (zs : Int) => yard_first_yard_Check_2.l1 n c zn zs) (fun (zs : Int) (zg : Unit) => [(1, .clo (.func 67) [] [.ptr b 0]), (6, .int .i64 n), (7, .int .i64 zs)]) (fun (zs : Int) (zg : Unit) => [.box b 37 [.list 27 (List.map T_api_Machine.vv c)]]) (0 : Int) () (fun zs => rfl) (Shift.pick [0] rfl ⟨rfl, rfl, rfl, trivial⟩) h1 ?_
    rintro n2 v2 _ hm
    rw [yard_first_yard_Check_2.l1] at hm
    refine VW.seq ?_
    refine VW.region ?_
    refine VR.p rfl rfl (VP.arith rfl rfl rfl) ?_
    refine VR.nil ?_
    refine VW.seq ?_
    rcases ite_or hm with ⟨h3, hm⟩ | ⟨h3, hm⟩
    · refine VW.condT rfl h3 ?_
      refine VW.skip ?_
      refine VW.seq ?_
      refine VW.block ?_
      refine VW.seq ?_
      refine VW.region ?_
      refine VR.p rfl rfl (VP.move rfl) ?_
      refine VR.p rfl rfl (VP.assign rfl) ?_
      refine VR.nil ?_
      refine VW.seq ?_
      refine VW.region ?_
      refine VR.p rfl rfl (VP.move rfl) ?_
      refine VR.p rfl rfl (VP.move rfl) ?_
      obtain ⟨r, h4, hm⟩ := bnd hm
      refine VR.cons rfl rfl (VO.callK 1 rfl fn67 rfl (yard_Check_2_ok v2 c b r h4) fun _ _ h6 => ?_)
      obtain ⟨rfl, rfl⟩ := h6
      refine VR.nil ?_
      rcases ite_or hm with ⟨h5, hm⟩ | ⟨h5, hm⟩
      · refine VW.condT rfl h5 ?_
        refine VW.seq ?_
        refine VW.region ?_
        refine VR.p rfl rfl (VP.move rfl) ?_
        refine VR.p rfl rfl (VP.assign rfl) ?_
        refine VR.nil ?_
        obtain rfl := Option.some.inj hm
        have hm := Out.ret_on h2
        obtain rfl := Option.some.inj hm
        exact VW.ret ⟨.inl rfl, _, .cons (.tmp _ _ rfl) .nil, [0], _, rfl, rfl, rfl⟩
      · have h5 := bf h5
        refine VW.condF rfl h5 ?_
        refine VW.skip ?_
        refine VW.region ?_
        refine VR.p rfl rfl (VP.arith rfl rfl rfl) ?_
        refine VR.p rfl rfl (VP.move rfl) ?_
        refine VR.nil ?_
        exact ⟨(IntKind.i64.wrap (v2 + (1 : Int))), (), hm, (Shift.pick [0] rfl ⟨rfl, rfl, rfl, trivial⟩)⟩
    · have h3 := bf h3
      refine VW.condF rfl h3 ?_
      refine VW.exit ?_
      exact ⟨(), (), (Option.some.inj hm).symm, (Shift.pick [0] rfl trivial)⟩
  · rintro j _ rfl
    have hm := Out.go_on h2
    refine VW.seq ?_
    refine VW.region ?_
    refine VR.p rfl rfl (VP.assign rfl) ?_
    refine VR.nil ?_
    obtain rfl := Option.some.inj hm
    exact VW.ret ⟨.inl rfl, _, .cons (.tmp _ _ rfl) .nil, [0], _, rfl, rfl, rfl⟩

/-! trireme/yard.Check$1 -/
def yard_Check_1_yard_Check_2 (n : Int) (c : List T_api_Machine) : Option Bool :=
  (yard_first_yard_Check_2 n c).bind fun r =>
  some (r != (-1 : Int))
theorem yard_Check_1_yard_Check_2_ok (n : Int) (c : List T_api_Machine) (b : Nat) (r : Bool) (hm : yard_Check_1_yard_Check_2 n c = some r) :
    VC Try.prog 65 [.int .i64 n, .clo (.func 67) [] [.ptr b 0]] [.box b 37 [.list 27 (List.map T_api_Machine.vv c)]] (fun zx zH => zx = .bool r ∧ zH = [.box b 37 [.list 27 (List.map T_api_Machine.vv c)]]) := by
  unfold yard_Check_1_yard_Check_2 at hm
  refine VC.run (c := _) (rs := [.tmp 4]) Try.func65 rfl rfl rfl ?_
  refine VW.seq ?_
  refine VW.region ?_
  refine VR.p rfl rfl (VP.assign rfl) ?_
  refine VR.nil ?_
  refine VW.seq ?_
  refine VW.region ?_
  refine VR.p rfl rfl (VP.move rfl) ?_
  refine VR.p rfl rfl (VP.move rfl) ?_
  obtain ⟨r, h1, hm⟩ := bnd hm
  refine VR.cons rfl rfl (VO.callK 1 rfl fn66 rfl (yard_first_yard_Check_2_ok n c b r h1) fun _ _ h2 => ?_)
  obtain ⟨rfl, rfl⟩ := h2
  refine VR.p rfl rfl (VP.arith rfl rfl rfl) ?_
  refine VR.p rfl rfl (VP.assign rfl) ?_
  refine VR.nil ?_
  obtain rfl := Option.some.inj hm
  exact VW.ret ⟨.inl rfl, _, .cons (.tmp _ _ rfl) .nil, [0], _, rfl, rfl, rfl⟩

/-! trireme/quant.head -/
def quant_head.l1 (s : ByteArray) : Nat → Int → Option Int
  | 0, _ => none
  | n4 + 1, n2 =>
    (if (decide (n2 < (s.size : Int))) = true then (V.gi s n2).bind fun v =>
    some (decide (v ≥ (48 : Int))) else some false).bind fun c =>
    (if c = true then (V.gi s n2).bind fun v2 =>
    some (decide (v2 ≤ (57 : Int))) else some false).bind fun c2 =>
    if c2 = true then
      quant_head.l1 s n4 (IntKind.i64.wrap (n2 + (1 : Int)))
    else
      some n2
def quant_head (s : ByteArray) : Option Int :=
  (quant_head.l1 s FU (0 : Int)).bind fun n32 =>
  some n32
theorem quant_head_ok (s : ByteArray) (r : Int) (hm : quant_head s = some r) :
    VC Try.prog 135 [.str s] [] (fun zx zH => zx = .int .i64 r ∧ zH = []) := by
  unfold quant_head at hm
  refine VC.run (c := _) (rs := [.tmp 2]) Try.func135 rfl rfl rfl ?_
  refine VW.seq ?_
  refine VW.region ?_
  refine VR.p rfl rfl (VP.assign rfl) ?_
  refine VR.nil ?_
  refine VW.seq ?_
  refine VW.region ?_
  refine VR.p rfl rfl (VP.assign rfl) ?_
  refine VR.nil ?_
  obtain ⟨o, h1, h2⟩ := bnd hm
  refine VW.join (fun (q : Int) => q = o) (fun (n32 : Int) (gg : Unit) => [(3, .int .i64 n32)]) (fun (n32 : Int) (gg : Unit) => []) ?_ ?_
  · have hm := h1
    refine VW.block (VW.loop FU ?_)
    refine VL.fuelS (R := _) (fun zn (zs : Int) => quant_head.l1 s zn zs) (fun (zs : Int) (zg : Unit) => [(0, .str s), (3, .int .i64 zs)]) (fun (zs : Int) (zg : Unit) => []) (0 : Int) () (fun zs => rfl) (Shift.pick [] rfl ⟨rfl, rfl, trivial⟩) h1 ?_
    rintro n4 n2 _ hm
    rw [quant_head.l1] at hm
    refine VW.seq ?_
    refine VW.seq ?_
    refine VW.region ?_
    refine VR.p rfl rfl (VP.move rfl) ?_
    refine VR.p rfl rfl (VP.move rfl) ?_
    refine VR.p rfl rfl (VP.lenS rfl Try.underlying9) ?_
    refine VR.p rfl rfl (VP.arith rfl rfl rfl) ?_
    refine VR.p rfl rfl (VP.move rfl) ?_
    obtain ⟨c, h5, hm⟩ := bnd hm
    refine VR.sc 5 13 (.bool c) (fun K' J => ?_) ?_
    · have hm := h5
      rcases ite_or hm with ⟨h3, hm⟩ | ⟨h3, hm⟩
      · refine VR.pG rfl rfl rfl rfl h3 (VP.move rfl) ?_
        refine VR.pG rfl rfl rfl rfl h3 (VP.move rfl) ?_
        obtain ⟨v, h4, hm⟩ := bnd hm
        refine VR.pG rfl rfl rfl rfl h3 (VP.gi rfl rfl Try.underlying9 h4) ?_
        refine VR.pG rfl rfl rfl rfl h3 (VP.arith rfl rfl rfl) ?_
        refine VR.p rfl rfl (VP.pickB true rfl h3 rfl) ?_
        exact J [_, _, _, _] _ rfl (congrArg VV.bool (Option.some.inj hm))
      · have h3 := bf h3
        refine VR.skipG rfl rfl rfl rfl h3 ?_
        refine VR.skipG rfl rfl rfl rfl h3 ?_
        refine VR.skipG rfl rfl rfl rfl h3 ?_
        refine VR.skipG rfl rfl rfl rfl h3 ?_
        refine VR.p rfl rfl (VP.pickB false rfl h3 rfl) ?_
        exact J [_, _, _, _] _ rfl (congrArg VV.bool (Option.some.inj hm))
    · refine VR.p rfl rfl (VP.move rfl) ?_
      obtain ⟨c2, h8, hm⟩ := bnd hm
      refine VR.sc 5 19 (.bool c2) (fun K' J => ?_) ?_
      · have hm := h8
        rcases ite_or hm with ⟨h6, hm⟩ | ⟨h6, hm⟩
        · refine VR.pG rfl rfl rfl rfl h6 (VP.move rfl) ?_
          refine VR.pG rfl rfl rfl rfl h6 (VP.move rfl) ?_
          obtain ⟨v2, h7, hm⟩ := bnd hm
          refine VR.pG rfl rfl rfl rfl h6 (VP.gi rfl rfl Try.underlying9 h7) ?_
          refine VR.pG rfl rfl rfl rfl h6 (VP.arith rfl rfl rfl) ?_
          refine VR.p rfl rfl (VP.pickB true rfl h6 rfl) ?_
          exact J [_, _, _, _] _ rfl (congrArg VV.bool (Option.some.inj hm))
        · have h6 := bf h6
          refine VR.skipG rfl rfl rfl rfl h6 ?_
          refine VR.skipG rfl rfl rfl rfl h6 ?_
          refine VR.skipG rfl rfl rfl rfl h6 ?_
          refine VR.skipG rfl rfl rfl rfl h6 ?_
          refine VR.p rfl rfl (VP.pickB false rfl h6 rfl) ?_
          exact J [_, _, _, _] _ rfl (congrArg VV.bool (Option.some.inj hm))
      · refine VR.nil ?_
        rcases ite_or hm with ⟨h9, hm⟩ | ⟨h9, hm⟩
        · refine VW.condT rfl h9 ?_
          refine VW.skip ?_
          refine VW.block ?_
          refine VW.region ?_
          refine VR.p rfl rfl (VP.move rfl) ?_
          refine VR.p rfl rfl (VP.arith rfl rfl rfl) ?_
          refine VR.p rfl rfl (VP.assign rfl) ?_
          refine VR.nil ?_
          exact ⟨(IntKind.i64.wrap (n2 + (1 : Int))), (), hm, (Shift.pick [] rfl ⟨rfl, rfl, trivial⟩)⟩
        · have h9 := bf h9
          refine VW.condF rfl h9 ?_
          refine VW.exit ?_
          exact ⟨n2, (), Option.some.inj hm, (Shift.pick [] rfl ⟨rfl, trivial⟩)⟩
  · rintro n32 _ rfl
    have hm := h2
    refine VW.seq ?_
    refine VW.region ?_
    refine VR.p rfl rfl (VP.move rfl) ?_
    refine VR.p rfl rfl (VP.assign rfl) ?_
    refine VR.nil ?_
    obtain rfl := Option.some.inj hm
    exact VW.ret ⟨.inl rfl, _, .cons (.tmp _ _ rfl) .nil, [], _, rfl, rfl, rfl⟩

/-! trireme/quant.value -/
def quant_value.l1 (s : ByteArray) (most : Int) : Nat → Int → Int → Option (Out (Int × Bool) Int)
  | 0, _, _ => none
  | n4 + 1, n2, v2 =>
    if (decide (v2 < (s.size : Int))) = true then
      (V.gi s v2).bind fun v3 =>
      (V.quo (IntKind.i64.wrap (most - (IntKind.i64.wrap (IntKind.u8.wrap (v3 - (48 : Int)))))) (10 : Int)).bind fun v4 =>
      if (decide (n2 > (IntKind.i64.wrap v4))) = true then
        some (Out.ret ((0 : Int), false))
      else
        quant_value.l1 s most n4 (IntKind.i64.wrap ((IntKind.i64.wrap ((10 : Int) * n2)) + (IntKind.i64.wrap (IntKind.u8.wrap (v3 - (48 : Int)))))) (IntKind.i64.wrap (v2 + (1 : Int)))
    else
      some (Out.go n2)
def quant_value (s : ByteArray) (most : Int) : Option (Int × Bool) :=
  (quant_value.l1 s most FU (0 : Int) (0 : Int)).bind fun o =>
  o.on fun n32 =>
  some (n32, true)
theorem quant_value_ok (s : ByteArray) (most : Int) (r : Int × Bool) (hm : quant_value s most = some r) :
    VC Try.prog 136 [.str s, .int .i64 most] [] (fun zx zH => zx = .tup [.int .i64 r.1, .bool r.2] ∧ zH = []) := by
  unfold quant_value at hm
  refine VC.run (c := _) (rs := [.tmp 4, .tmp 5]) Try.func136 rfl rfl rfl ?_
  refine VW.seq ?_
  refine VW.region ?_
  refine VR.p rfl rfl (VP.assign rfl) ?_
  refine VR.p rfl rfl (VP.assign rfl) ?_
  refine VR.nil ?_
  refine VW.seq ?_
  refine VW.region ?_
  refine VR.p rfl rfl (VP.assign rfl) ?_
  refine VR.nil ?_
  refine VW.seq ?_
  refine VW.seq ?_
  refine VW.region ?_
  refine VR.p rfl rfl (VP.move rfl) ?_
  refine VR.p rfl rfl (VP.lenS rfl Try.underlying9) ?_
  refine VR.p rfl rfl (VP.move rfl) ?_
  refine VR.nil ?_
  obtain ⟨o, h1, h2⟩ := bnd hm
  refine VW.joinE (fun (q : Int) => o = Out.go q) (fun (n32 : Int) (gg : Unit) => [(6, .int .i64 n32)]) (fun (n32 : Int) (gg : Unit) => []) ?_ ?_
  · have hm := h1
    refine VW.block (VW.loop FU ?_)
    refine VL.fuelS (R := _) (fun zn (zs : Int × Int) => quant_value.l1 s most zn zs.1 zs.2) (fun (zs : Int × Int) (zg : Unit) => [(0, .str s), (1, .int .i64 most), (6, .int .i64 zs.1), (10, .int .i64 (s.size : Int)), (11, .int .i64 zs.2)]) (fun (zs : Int × Int) (zg : Unit) => []) ((0 : Int), (0 : Int)) () (fun zs => rfl) (Shift.pick [] rfl ⟨rfl, rfl, rfl, rfl, rfl, trivial⟩) h1 ?_
    rintro n4 ⟨n2, v2⟩ _ hm
    rw [quant_value.l1] at hm
    refine VW.seq ?_
    refine VW.region ?_
    refine VR.p rfl rfl (VP.arith rfl rfl rfl) ?_
    refine VR.nil ?_
    refine VW.seq ?_
    rcases ite_or hm with ⟨h3, hm⟩ | ⟨h3, hm⟩
    · refine VW.condT rfl h3 ?_
      refine VW.skip ?_
      refine VW.seq ?_
      refine VW.block ?_
      refine VW.seq ?_
      refine VW.region ?_
      refine VR.p rfl rfl (VP.move rfl) ?_
      refine VR.p rfl rfl (VP.assign rfl) ?_
      refine VR.nil ?_
      refine VW.seq ?_
      refine VW.region ?_
      refine VR.p rfl rfl (VP.move rfl) ?_
      refine VR.p rfl rfl (VP.move rfl) ?_
      obtain ⟨v3, h4, hm⟩ := bnd hm
      refine VR.p rfl rfl (VP.gi rfl rfl Try.underlying9 h4) ?_
      refine VR.p rfl rfl (VP.arith rfl rfl rfl) ?_
      refine VR.p rfl rfl (VP.convI Try.underlying5 Try.underlying3 rfl) ?_
      refine VR.p rfl rfl (VP.assign rfl) ?_
      refine VR.nil ?_
      refine VW.seq ?_
      refine VW.seq ?_
      refine VW.region ?_
      refine VR.p rfl rfl (VP.move rfl) ?_
      refine VR.p rfl rfl (VP.move rfl) ?_
      refine VR.p rfl rfl (VP.move rfl) ?_
      refine VR.p rfl rfl (VP.arith rfl rfl rfl) ?_
      obtain ⟨v4, h5, hm⟩ := bnd hm
      refine VR.p rfl rfl (VP.quoT rfl rfl h5) ?_
      refine VR.p rfl rfl (VP.arith rfl rfl rfl) ?_
      refine VR.nil ?_
      rcases ite_or hm with ⟨h6, hm⟩ | ⟨h6, hm⟩
      · refine VW.condT rfl h6 ?_
        refine VW.seq ?_
        refine VW.region ?_
        refine VR.p rfl rfl (VP.assign rfl) ?_
        refine VR.p rfl rfl (VP.assign rfl) ?_
        refine VR.nil ?_
        obtain rfl := Option.some.inj hm
        have hm := Out.ret_on h2
        obtain rfl := Option.some.inj hm
        exact VW.ret ⟨.inl rfl, _, .cons (.tmp _ _ rfl) (.cons (.tmp _ _ rfl) .nil), [], _, rfl, rfl, rfl⟩
      · have h6 := bf h6
        refine VW.condF rfl h6 ?_
        refine VW.skip ?_
        refine VW.region ?_
        refine VR.p rfl rfl (VP.move rfl) ?_
        refine VR.p rfl rfl (VP.arith rfl rfl rfl) ?_
        refine VR.p rfl rfl (VP.move rfl) ?_
        refine VR.p rfl rfl (VP.arith rfl rfl rfl) ?_
        refine VR.p rfl rfl (VP.assign rfl) ?_
        refine VR.nil ?_
        refine VW.region ?_
        refine VR.p rfl rfl (VP.arith rfl rfl rfl) ?_
        refine VR.p rfl rfl (VP.move rfl) ?_
        refine VR.nil ?_
        exact ⟨((IntKind.i64.wrap ((IntKind.i64.wrap ((10 : Int) * n2)) + (IntKind.i64.wrap (IntKind.u8.wrap (v3 - (48 : Int)))))), (IntKind.i64.wrap (v2 + (1 : Int)))), (), hm, (Shift.pick [] rfl ⟨rfl, rfl, rfl, rfl, rfl, trivial⟩)⟩
    · have h3 := bf h3
      refine VW.condF rfl h3 ?_
      refine VW.exit ?_
      exact ⟨n2, (), (Option.some.inj hm).symm, (Shift.pick [] rfl ⟨rfl, trivial⟩)⟩
  · rintro n32 _ rfl
    have hm := Out.go_on h2
    refine VW.seq ?_
    refine VW.region ?_
    refine VR.p rfl rfl (VP.move rfl) ?_
    refine VR.p rfl rfl (VP.assign rfl) ?_
    refine VR.p rfl rfl (VP.assign rfl) ?_
    refine VR.nil ?_
    obtain rfl := Option.some.inj hm
    exact VW.ret ⟨.inl rfl, _, .cons (.tmp _ _ rfl) (.cons (.tmp _ _ rfl) .nil), [], _, rfl, rfl, rfl⟩

/-! trireme/quant.Number -/
def quant_Number (s : ByteArray) : Option (Int × Int) :=
  (if (V.seq s (⟨#[]⟩ : ByteArray)) = true then some true else (quant_head s).bind fun r =>
  some (r != (s.size : Int))).bind fun c =>
  if c = true then
    some ((0 : Int), (8 : Int))
  else
    (quant_value s (1125899906842624 : Int)).bind fun r2 =>
    if (!r2.2) = true then
      some ((0 : Int), (10 : Int))
    else
      some (r2.1, (0 : Int))
theorem quant_Number_ok (s : ByteArray) (r : Int × Int) (hm : quant_Number s = some r) :
    VC Try.prog 129 [.str s] [] (fun zx zH => zx = .tup [.int .i64 r.1, .int .i64 r.2] ∧ zH = []) := by
  unfold quant_Number at hm
  refine VC.run (c := _) (rs := [.tmp 2, .tmp 3]) Try.func129 rfl rfl rfl ?_
  refine VW.seq ?_
  refine VW.region ?_
  refine VR.p rfl rfl (VP.assign rfl) ?_
  refine VR.p rfl rfl (VP.assign rfl) ?_
  refine VR.nil ?_
  refine VW.seq ?_
  refine VW.seq ?_
  refine VW.region ?_
  refine VR.p rfl rfl (VP.move rfl) ?_
  refine VR.p rfl rfl (VP.strop rfl rfl rfl) ?_
  refine VR.p rfl rfl (VP.move rfl) ?_
  obtain ⟨c, h4, hm⟩ := bnd hm
  refine VR.sc 6 14 (.bool c) (fun K' J => ?_) ?_
  · have hm := h4
    rcases ite_or hm with ⟨h1, hm⟩ | ⟨h1, hm⟩
    · refine VR.skipG rfl rfl rfl rfl h1 ?_
      refine VR.skipG rfl rfl rfl rfl h1 ?_
      refine VR.skipG rfl rfl rfl rfl h1 ?_
      refine VR.skipG rfl rfl rfl rfl h1 ?_
      refine VR.skipG rfl rfl rfl rfl h1 ?_
      refine VR.p rfl rfl (VP.pickB true rfl h1 rfl) ?_
      exact J [_, _, _, _, _] _ rfl (congrArg VV.bool (Option.some.inj hm))
    · have h1 := bf h1
      refine VR.pG rfl rfl rfl rfl h1 (VP.move rfl) ?_
      obtain ⟨r, h2, hm⟩ := bnd hm
      refine VR.consG rfl rfl rfl rfl h1 (VO.callK 0 rfl fn135 rfl (quant_head_ok s r h2) fun _ _ h3 => ?_)
      obtain ⟨rfl, rfl⟩ := h3
      refine VR.pG rfl rfl rfl rfl h1 (VP.move rfl) ?_
      refine VR.pG rfl rfl rfl rfl h1 (VP.lenS rfl Try.underlying9) ?_
      refine VR.pG rfl rfl rfl rfl h1 (VP.arith rfl rfl rfl) ?_
      refine VR.p rfl rfl (VP.pickB false rfl h1 rfl) ?_
      exact J [_, _, _, _, _] _ rfl (congrArg VV.bool (Option.some.inj hm))
  · refine VR.nil ?_
    rcases ite_or hm with ⟨h5, hm⟩ | ⟨h5, hm⟩
    · refine VW.condT rfl h5 ?_
      refine VW.seq ?_
      refine VW.region ?_
      refine VR.p rfl rfl (VP.assign rfl) ?_
      refine VR.p rfl rfl (VP.assign rfl) ?_
      refine VR.nil ?_
      obtain rfl := Option.some.inj hm
      exact VW.ret ⟨.inl rfl, _, .cons (.tmp _ _ rfl) (.cons (.tmp _ _ rfl) .nil), [], _, rfl, rfl, rfl⟩
    · have h5 := bf h5
      refine VW.condF rfl h5 ?_
      refine VW.skip ?_
      refine VW.seq ?_
      refine VW.region ?_
      refine VR.p rfl rfl (VP.move rfl) ?_
      obtain ⟨r2, h6, hm⟩ := bnd hm
      refine VR.cons rfl rfl (VO.callK 0 rfl fn136 rfl (quant_value_ok s (1125899906842624 : Int) r2 h6) fun _ _ h8 => ?_)
      obtain ⟨rfl, rfl⟩ := h8
      refine VR.p rfl rfl (VP.move rfl) ?_
      refine VR.p rfl rfl (VP.extract rfl rfl) ?_
      refine VR.p rfl rfl (VP.extract rfl rfl) ?_
      refine VR.p rfl rfl (VP.assign rfl) ?_
      refine VR.p rfl rfl (VP.assign rfl) ?_
      refine VR.nil ?_
      refine VW.seq ?_
      refine VW.seq ?_
      refine VW.region ?_
      refine VR.p rfl rfl (VP.move rfl) ?_
      refine VR.p rfl rfl (VP.not rfl) ?_
      refine VR.nil ?_
      rcases ite_or hm with ⟨h7, hm⟩ | ⟨h7, hm⟩
      · refine VW.condT rfl h7 ?_
        refine VW.seq ?_
        refine VW.region ?_
        refine VR.p rfl rfl (VP.assign rfl) ?_
        refine VR.p rfl rfl (VP.assign rfl) ?_
        refine VR.nil ?_
        obtain rfl := Option.some.inj hm
        exact VW.ret ⟨.inl rfl, _, .cons (.tmp _ _ rfl) (.cons (.tmp _ _ rfl) .nil), [], _, rfl, rfl, rfl⟩
      · have h7 := bf h7
        refine VW.condF rfl h7 ?_
        refine VW.skip ?_
        refine VW.seq ?_
        refine VW.region ?_
        refine VR.p rfl rfl (VP.move rfl) ?_
        refine VR.p rfl rfl (VP.assign rfl) ?_
        refine VR.p rfl rfl (VP.assign rfl) ?_
        refine VR.nil ?_
        obtain rfl := Option.some.inj hm
        exact VW.ret ⟨.inl rfl, _, .cons (.tmp _ _ rfl) (.cons (.tmp _ _ rfl) .nil), [], _, rfl, rfl, rfl⟩

/-! trireme/labels.number -/
def labels_number (s : ByteArray) : Option (Int × Bool) :=
  (quant_Number s).bind fun r =>
  some (r.1, (r.2 == (0 : Int)))
theorem labels_number_ok (s : ByteArray) (r : Int × Bool) (hm : labels_number s = some r) :
    VC Try.prog 113 [.str s] [] (fun zx zH => zx = .tup [.int .i64 r.1, .bool r.2] ∧ zH = []) := by
  unfold labels_number at hm
  refine VC.run (c := _) (rs := [.tmp 2, .tmp 3]) Try.func113 rfl rfl rfl ?_
  refine VW.seq ?_
  refine VW.region ?_
  refine VR.p rfl rfl (VP.assign rfl) ?_
  refine VR.p rfl rfl (VP.assign rfl) ?_
  refine VR.nil ?_
  refine VW.seq ?_
  refine VW.region ?_
  refine VR.p rfl rfl (VP.move rfl) ?_
  obtain ⟨r, h1, hm⟩ := bnd hm
  refine VR.cons rfl rfl (VO.callK 0 rfl fn129 rfl (quant_Number_ok s r h1) fun _ _ h2 => ?_)
  obtain ⟨rfl, rfl⟩ := h2
  refine VR.p rfl rfl (VP.move rfl) ?_
  refine VR.p rfl rfl (VP.extract rfl rfl) ?_
  refine VR.p rfl rfl (VP.extract rfl rfl) ?_
  refine VR.p rfl rfl (VP.assign rfl) ?_
  refine VR.p rfl rfl (VP.assign rfl) ?_
  refine VR.nil ?_
  refine VW.seq ?_
  refine VW.region ?_
  refine VR.p rfl rfl (VP.move rfl) ?_
  refine VR.p rfl rfl (VP.move rfl) ?_
  refine VR.p rfl rfl (VP.arith rfl rfl rfl) ?_
  refine VR.p rfl rfl (VP.assign rfl) ?_
  refine VR.p rfl rfl (VP.assign rfl) ?_
  refine VR.nil ?_
  obtain rfl := Option.some.inj hm
  exact VW.ret ⟨.inl rfl, _, .cons (.tmp _ _ rfl) (.cons (.tmp _ _ rfl) .nil), [], _, rfl, rfl, rfl⟩

/-! trireme/labels.RightTerm -/
def labels_RightTerm.l1 : List ByteArray → Nat → Option (Out (Out Bool Unit) Unit)
  | [], k => some (Out.go ())
  | x3 :: l, k =>
    (labels_maybe x3).bind fun r4 =>
    if (!r4) = true then
      some (Out.ret (Out.ret false))
    else
      labels_RightTerm.l1 l (k + 1)
def labels_RightTerm (t : T_api_Term) : Option Bool :=
  (lex_Word t.Key).bind fun r =>
  if (!r) = true then
    some false
  else
    ((if (t.Op == (1 : Int)) = true then
      some (Out.go ())
    else
      if (t.Op == (2 : Int)) = true then
        some (Out.go ())
      else
        if (t.Op == (3 : Int)) = true then
          some (Out.ret (Out.go ()))
        else
          if (t.Op == (4 : Int)) = true then
            some (Out.ret (Out.go ()))
          else
            if (t.Op == (5 : Int)) = true then
              ((if ((t.Vals.length : Int) == (1 : Int)) = true then
                (V.gl t.Vals (0 : Int)).bind fun x =>
                (labels_number x).bind fun r2 =>
                some r2.2
              else
                some false).bind fun q => some (Out.ret q)).bind fun q => some (Out.ret q)
            else
              if (t.Op == (6 : Int)) = true then
                ((if ((t.Vals.length : Int) == (1 : Int)) = true then
                  (V.gl t.Vals (0 : Int)).bind fun x2 =>
                  (labels_number x2).bind fun r3 =>
                  some r3.2
                else
                  some false).bind fun q => some (Out.ret q)).bind fun q => some (Out.ret q)
              else
                some (Out.ret (Out.ret false))).bind fun o2 =>
    o2.on fun j2 =>
    (labels_RightTerm.l1 t.Vals 0).bind fun o3 =>
    o3.on fun j3 =>
    some (Out.ret ((decide ((t.Vals.length : Int) ≥ (1 : Int))) && (decide ((t.Vals.length : Int) ≤ (16 : Int)))))).bind fun o =>
    o.on fun j =>
    some ((t.Vals.length : Int) == (0 : Int))
theorem labels_RightTerm_ok (t : T_api_Term) (r : Bool) (hm : labels_RightTerm t = some r) :
    VC Try.prog 98 [T_api_Term.vv t] [] (fun zx zH => zx = .bool r ∧ zH = []) := by
  unfold labels_RightTerm at hm
  refine VC.run (c := _) (rs := [.tmp 2]) Try.func98 rfl rfl rfl ?_
  refine VW.seq ?_
  refine VW.region ?_
  refine VR.cons rfl rfl (VO.box rfl rfl fun b => ?_)
  refine VR.p rfl rfl (VP.assign rfl) ?_
  refine VR.nil ?_
  refine VW.seq ?_
  refine VW.seq ?_
  refine VW.region ?_
  refine VR.p rfl rfl (VP.fieldP rfl fa74_0) ?_
  refine VR.p rfl rfl (VP.loadP (i := 0) rfl rfl ld9 rfl) ?_
  obtain ⟨r, h2, hm⟩ := bnd hm
  refine VR.cons rfl rfl (VO.callK 0 rfl fn99 rfl (lex_Word_ok t.Key r h2) fun _ _ h34 => ?_)
  obtain ⟨rfl, rfl⟩ := h34
  refine VR.p rfl rfl (VP.not rfl) ?_
  refine VR.nil ?_
  rcases ite_or hm with ⟨h3, hm⟩ | ⟨h3, hm⟩
  · refine VW.condT rfl h3 ?_
    refine VW.seq ?_
    refine VW.region ?_
    refine VR.p rfl rfl (VP.assign rfl) ?_
    refine VR.nil ?_
    obtain rfl := Option.some.inj hm
    exact VW.ret ⟨.inl rfl, _, .cons (.tmp _ _ rfl) .nil, [], _, rfl, rfl, rfl⟩
  · have h3 := bf h3
    refine VW.condF rfl h3 ?_
    refine VW.skip ?_
    refine VW.seq ?_
    refine VW.seq ?_
    refine VW.region ?_
    refine VR.p rfl rfl (VP.fieldP rfl fa74_1) ?_
    refine VR.p rfl rfl (VP.loadP (i := 0) rfl rfl ld3 rfl) ?_
    refine VR.nil ?_
    refine VW.block ?_
    refine VW.seq ?_
    refine VW.block ?_
    obtain ⟨o, h4, h5⟩ := bnd hm
    refine VW.join (fun (q : Unit) => o = Out.go q) (fun (j : Unit) (gg : Unit) => [(1, .ptr b 0)]) (fun (j : Unit) (gg : Unit) => [.box b 74 (T_api_Term.cells t)]) ?_ ?_
    · have hm := h4
      refine VW.block ?_
      refine VW.block ?_
      obtain ⟨o2, h6, h7⟩ := bnd hm
      refine VW.join (fun (q : Unit) => o2 = Out.go q) (fun (j2 : Unit) (gg : Unit) => [(1, .ptr b 0)]) (fun (j2 : Unit) (gg : Unit) => [.box b 74 (T_api_Term.cells t)]) ?_ ?_
      · have hm := h6
        refine VW.block ?_
        refine VW.block ?_
        refine VW.seq ?_
        refine VW.seq ?_
        refine VW.seq ?_
        refine VW.region ?_
        refine VR.p rfl rfl (VP.arith rfl rfl rfl) ?_
        refine VR.p rfl rfl (VP.assign rfl) ?_
        refine VR.nil ?_
        rcases ite_or hm with ⟨h8, hm⟩ | ⟨h8, hm⟩
        · refine VW.condT rfl h8 ?_
          refine VW.exit ?_
          exact ⟨(), (), (Option.some.inj hm).symm, (Shift.pick [0] rfl ⟨rfl, trivial⟩)⟩
        · have h8 := bf h8
          refine VW.condF rfl h8 ?_
          refine VW.skip ?_
          refine VW.seq ?_
          refine VW.seq ?_
          refine VW.region ?_
          refine VR.p rfl rfl (VP.arith rfl rfl rfl) ?_
          refine VR.p rfl rfl (VP.assign rfl) ?_
          refine VR.nil ?_
          rcases ite_or hm with ⟨h9, hm⟩ | ⟨h9, hm⟩
          · refine VW.condT rfl h9 ?_
            refine VW.exit ?_
            exact ⟨(), (), (Option.some.inj hm).symm, (Shift.pick [0] rfl ⟨rfl, trivial⟩)⟩
          · have h9 := bf h9
            refine VW.condF rfl h9 ?_
            refine VW.skip ?_
            refine VW.seq ?_
            refine VW.seq ?_
            refine VW.region ?_
            refine VR.p rfl rfl (VP.arith rfl rfl rfl) ?_
            refine VR.p rfl rfl (VP.assign rfl) ?_
            refine VR.nil ?_
            rcases ite_or hm with ⟨h10, hm⟩ | ⟨h10, hm⟩
            · refine VW.condT rfl h10 ?_
              refine VW.exit ?_
              obtain rfl := Option.some.inj hm
              have hm := Out.ret_on h7
              exact ⟨(), (), (Option.some.inj hm).symm, (Shift.pick [0] rfl ⟨rfl, trivial⟩)⟩
            · have h10 := bf h10
              refine VW.condF rfl h10 ?_
              refine VW.skip ?_
              refine VW.seq ?_
              refine VW.seq ?_
              refine VW.region ?_
              refine VR.p rfl rfl (VP.arith rfl rfl rfl) ?_
              refine VR.p rfl rfl (VP.assign rfl) ?_
              refine VR.nil ?_
              rcases ite_or hm with ⟨h11, hm⟩ | ⟨h11, hm⟩
              · refine VW.condT rfl h11 ?_
                refine VW.exit ?_
                obtain rfl := Option.some.inj hm
                have hm := Out.ret_on h7
                exact ⟨(), (), (Option.some.inj hm).symm, (Shift.pick [0] rfl ⟨rfl, trivial⟩)⟩
              · have h11 := bf h11
                refine VW.condF rfl h11 ?_
                refine VW.skip ?_
                refine VW.seq ?_
                refine VW.seq ?_
                refine VW.region ?_
                refine VR.p rfl rfl (VP.arith rfl rfl rfl) ?_
                refine VR.p rfl rfl (VP.assign rfl) ?_
                refine VR.nil ?_
                rcases ite_or hm with ⟨h12, hm⟩ | ⟨h12, hm⟩
                · refine VW.condT rfl h12 ?_
                  refine VW.skip ?_
                  refine VW.condT rfl h12 ?_
                  refine VW.exit ?_
                  obtain ⟨q_2, h18, hm⟩ := bnd hm
                  obtain rfl := Option.some.inj hm
                  obtain rfl := Option.some.inj (Out.ret_on h7)
                  have hm := h18
                  obtain ⟨q_, h17, hm⟩ := bnd hm
                  obtain rfl := Option.some.inj hm
                  obtain rfl := Option.some.inj (Out.ret_on h5)
                  have hm := h17
                  refine VW.seq ?_
                  refine VW.seq ?_
                  refine VW.region ?_
                  refine VR.p rfl rfl (VP.fieldP rfl fa74_2) ?_
                  refine VR.p rfl rfl (VP.loadP (i := 0) rfl rfl ld65 rfl) ?_
                  refine VR.p rfl rfl (VP.lenT VV.str rfl Try.underlying65) ?_
                  refine VR.p rfl rfl (VP.arith rfl rfl rfl) ?_
                  refine VR.nil ?_
                  rcases ite_or hm with ⟨h13, hm⟩ | ⟨h13, hm⟩
                  · refine VW.condT rfl h13 ?_
                    refine VW.seq ?_
                    refine VW.region ?_
                    refine VR.p rfl rfl (VP.fieldP rfl fa74_2) ?_
                    refine VR.p rfl rfl (VP.loadP (i := 0) rfl rfl ld65 rfl) ?_
                    obtain ⟨x, h14, hm⟩ := bnd hm
                    refine VR.p rfl rfl (VP.glE VV.str rfl rfl el65 h14) ?_
                    refine VR.p rfl rfl (VP.loadE rfl ld9 rfl) ?_
                    obtain ⟨r2, h15, hm⟩ := bnd hm
                    refine VR.cons rfl rfl (VO.callK 0 rfl fn113 rfl (labels_number_ok x r2 h15) fun _ _ h16 => ?_)
                    obtain ⟨rfl, rfl⟩ := h16
                    refine VR.p rfl rfl (VP.move rfl) ?_
                    refine VR.p rfl rfl (VP.extract rfl rfl) ?_
                    refine VR.p rfl rfl (VP.extract rfl rfl) ?_
                    refine VR.p rfl rfl (VP.assign rfl) ?_
                    refine VR.p rfl rfl (VP.assign rfl) ?_
                    refine VR.nil ?_
                    refine VW.seq ?_
                    refine VW.region ?_
                    refine VR.p rfl rfl (VP.move rfl) ?_
                    refine VR.p rfl rfl (VP.assign rfl) ?_
                    refine VR.nil ?_
                    obtain rfl := Option.some.inj hm
                    exact VW.ret ⟨.inl rfl, _, .cons (.tmp _ _ rfl) .nil, [], _, rfl, rfl, rfl⟩
                  · have h13 := bf h13
                    refine VW.condF rfl h13 ?_
                    refine VW.skip ?_
                    refine VW.exit ?_
                    refine VW.seq ?_
                    refine VW.region ?_
                    refine VR.p rfl rfl (VP.assign rfl) ?_
                    refine VR.nil ?_
                    obtain rfl := Option.some.inj hm
                    exact VW.ret ⟨.inl rfl, _, .cons (.tmp _ _ rfl) .nil, [], _, rfl, rfl, rfl⟩
                · have h12 := bf h12
                  refine VW.condF rfl h12 ?_
                  refine VW.region ?_
                  refine VR.p rfl rfl (VP.arith rfl rfl rfl) ?_
                  refine VR.p rfl rfl (VP.assign rfl) ?_
                  refine VR.nil ?_
                  rcases ite_or hm with ⟨h19, hm⟩ | ⟨h19, hm⟩
                  · refine VW.condT rfl h19 ?_
                    refine VW.exit ?_
                    obtain ⟨q_4, h25, hm⟩ := bnd hm
                    obtain rfl := Option.some.inj hm
                    obtain rfl := Option.some.inj (Out.ret_on h7)
                    have hm := h25
                    obtain ⟨q_3, h24, hm⟩ := bnd hm
                    obtain rfl := Option.some.inj hm
                    obtain rfl := Option.some.inj (Out.ret_on h5)
                    have hm := h24
                    refine VW.seq ?_
                    refine VW.seq ?_
                    refine VW.region ?_
                    refine VR.p rfl rfl (VP.fieldP rfl fa74_2) ?_
                    refine VR.p rfl rfl (VP.loadP (i := 0) rfl rfl ld65 rfl) ?_
                    refine VR.p rfl rfl (VP.lenT VV.str rfl Try.underlying65) ?_
                    refine VR.p rfl rfl (VP.arith rfl rfl rfl) ?_
                    refine VR.nil ?_
                    rcases ite_or hm with ⟨h20, hm⟩ | ⟨h20, hm⟩
                    · refine VW.condT rfl h20 ?_
                      refine VW.seq ?_
                      refine VW.region ?_
                      refine VR.p rfl rfl (VP.fieldP rfl fa74_2) ?_
                      refine VR.p rfl rfl (VP.loadP (i := 0) rfl rfl ld65 rfl) ?_
                      obtain ⟨x2, h21, hm⟩ := bnd hm
                      refine VR.p rfl rfl (VP.glE VV.str rfl rfl el65 h21) ?_
                      refine VR.p rfl rfl (VP.loadE rfl ld9 rfl) ?_
                      obtain ⟨r3, h22, hm⟩ := bnd hm
                      refine VR.cons rfl rfl (VO.callK 0 rfl fn113 rfl (labels_number_ok x2 r3 h22) fun _ _ h23 => ?_)
                      obtain ⟨rfl, rfl⟩ := h23
                      refine VR.p rfl rfl (VP.move rfl) ?_
                      refine VR.p rfl rfl (VP.extract rfl rfl) ?_
                      refine VR.p rfl rfl (VP.extract rfl rfl) ?_
                      refine VR.p rfl rfl (VP.assign rfl) ?_
                      refine VR.p rfl rfl (VP.assign rfl) ?_
                      refine VR.nil ?_
                      refine VW.seq ?_
                      refine VW.region ?_
                      refine VR.p rfl rfl (VP.move rfl) ?_
                      refine VR.p rfl rfl (VP.assign rfl) ?_
                      refine VR.nil ?_
                      obtain rfl := Option.some.inj hm
                      exact VW.ret ⟨.inl rfl, _, .cons (.tmp _ _ rfl) .nil, [], _, rfl, rfl, rfl⟩
                    · have h20 := bf h20
                      refine VW.condF rfl h20 ?_
                      refine VW.skip ?_
                      refine VW.exit ?_
                      refine VW.seq ?_
                      refine VW.region ?_
                      refine VR.p rfl rfl (VP.assign rfl) ?_
                      refine VR.nil ?_
                      obtain rfl := Option.some.inj hm
                      exact VW.ret ⟨.inl rfl, _, .cons (.tmp _ _ rfl) .nil, [], _, rfl, rfl, rfl⟩
                  · have h19 := bf h19
                    refine VW.condF rfl h19 ?_
                    refine VW.skip ?_
                    refine VW.exit ?_
                    obtain rfl := Option.some.inj hm
                    have hm := Out.ret_on h7
                    obtain rfl := Option.some.inj hm
                    have hm := Out.ret_on h5
                    refine VW.seq ?_
                    refine VW.region ?_
                    refine VR.p rfl rfl (VP.assign rfl) ?_
                    refine VR.nil ?_
                    obtain rfl := Option.some.inj hm
                    exact VW.ret ⟨.inl rfl, _, .cons (.tmp _ _ rfl) .nil, [], _, rfl, rfl, rfl⟩
      · rintro j2 _ rfl
        have hm := Out.go_on h7
        refine VW.seq ?_
        refine VW.seq ?_
        refine VW.seq ?_
        refine VW.region ?_
        refine VR.p rfl rfl (VP.fieldP rfl fa74_2) ?_
        refine VR.p rfl rfl (VP.loadP (i := 0) rfl rfl ld65 rfl) ?_
        refine VR.p rfl rfl (VP.lenT VV.str rfl Try.underlying65) ?_
        refine VR.p rfl rfl (VP.move rfl) ?_
        refine VR.nil ?_
        refine VW.lenL 25 rfl fun h28 => ?_
        have h28 := max_map h28
        obtain ⟨o3, h26, h27⟩ := bnd hm
        refine VW.joinE (fun (q : Unit) => o3 = Out.go q) (fun (j3 : Unit) (gg : Unit) => [(1, .ptr b 0)]) (fun (j3 : Unit) (gg : Unit) => [.box b 74 (T_api_Term.cells t)]) ?_ ?_
        · have hm := h26
          refine VW.block (VW.loop (t.Vals.length + 1) ?_)
          refine VL.eachS (l := t.Vals) (R := _) (fun zl zk (zs : Unit) => labels_RightTerm.l1 zl zk) (fun (k : Nat) (zs : Unit) (zg : Unit) => [(1, .ptr b 0), (25, .list 9 (List.map VV.str t.Vals)), (26, .int .i64 (t.Vals.length : Int)), (27, .int .i64 (k : Int))]) (fun (k : Nat) (zs : Unit) (zg : Unit) => [.box b 74 (T_api_Term.cells t)]) () () (Shift.pick [0] rfl ⟨rfl, rfl, rfl, rfl, trivial⟩) h26 ?_ ?_
          · rintro k _ _ hk hm
            rw [labels_RightTerm.l1] at hm
            refine VW.seq ?_
            refine VW.region ?_
            refine VR.p rfl rfl (VP.arith rfl rfl rfl) ?_
            refine VR.nil ?_
            refine VW.seq ?_
            refine VW.condF rfl (k_end hk) ?_
            refine VW.exit ?_
            exact ⟨(), (), (Option.some.inj hm).symm, (Shift.pick [0] rfl ⟨rfl, trivial⟩)⟩
          · rintro k x3 l _ _ h29 hm
            rw [labels_RightTerm.l1] at hm
            refine VW.seq ?_
            refine VW.region ?_
            refine VR.p rfl rfl (VP.arith rfl rfl rfl) ?_
            refine VR.nil ?_
            refine VW.seq ?_
            refine VW.condT rfl (k_lt h29) ?_
            refine VW.skip ?_
            refine VW.seq ?_
            refine VW.block ?_
            refine VW.seq ?_
            refine VW.region ?_
            refine VR.p rfl rfl (VP.glK VV.str rfl rfl el65 h29) ?_
            refine VR.p rfl rfl (VP.loadE rfl ld9 rfl) ?_
            refine VR.p rfl rfl (VP.assign rfl) ?_
            refine VR.nil ?_
            refine VW.seq ?_
            refine VW.region ?_
            refine VR.p rfl rfl (VP.move rfl) ?_
            obtain ⟨r4, h30, hm⟩ := bnd hm
            refine VR.cons rfl rfl (VO.callK 0 rfl fn118 rfl (labels_maybe_ok x3 r4 h30) fun _ _ h32 => ?_)
            obtain ⟨rfl, rfl⟩ := h32
            refine VR.p rfl rfl (VP.not rfl) ?_
            refine VR.nil ?_
            rcases ite_or hm with ⟨h31, hm⟩ | ⟨h31, hm⟩
            · refine VW.condT rfl h31 ?_
              refine VW.seq ?_
              refine VW.region ?_
              refine VR.p rfl rfl (VP.assign rfl) ?_
              refine VR.nil ?_
              obtain rfl := Option.some.inj hm
              have hm := Out.ret_on h27
              obtain rfl := Option.some.inj hm
              have hm := Out.ret_on h5
              obtain rfl := Option.some.inj hm
              exact VW.ret ⟨.inl rfl, _, .cons (.tmp _ _ rfl) .nil, [], _, rfl, rfl, rfl⟩
            · have h31 := bf h31
              refine VW.condF rfl h31 ?_
              refine VW.skip ?_
              refine VW.region ?_
              refine VR.p rfl rfl (VP.arith rfl rfl rfl) ?_
              refine VR.p rfl rfl (VP.move rfl) ?_
              refine VR.nil ?_
              exact ⟨(), (), hm, (Shift.pick [0] rfl ⟨rfl, rfl, rfl, congrArg some (k_next h29 h28), trivial⟩)⟩
        · rintro j3 _ rfl
          have hm := Out.go_on h27
          refine VW.seq ?_
          refine VW.region ?_
          refine VR.p rfl rfl (VP.fieldP rfl fa74_2) ?_
          refine VR.p rfl rfl (VP.loadP (i := 0) rfl rfl ld65 rfl) ?_
          refine VR.p rfl rfl (VP.lenT VV.str rfl Try.underlying65) ?_
          refine VR.p rfl rfl (VP.arith rfl rfl rfl) ?_
          refine VR.p rfl rfl (VP.move rfl) ?_
          refine VR.sc 5 44 (.bool ((decide ((t.Vals.length : Int) ≥ (1 : Int))) && (decide ((t.Vals.length : Int) ≤ (16 : Int))))) (fun K' J => ?_) ?_
          · rcases Bool.eq_false_or_eq_true (decide ((t.Vals.length : Int) ≥ (1 : Int))) with h33 | h33
            · refine VR.pG rfl rfl rfl rfl h33 (VP.fieldP rfl fa74_2) ?_
              refine VR.pG rfl rfl rfl rfl h33 (VP.loadP (i := 0) rfl rfl ld65 rfl) ?_
              refine VR.pG rfl rfl rfl rfl h33 (VP.lenT VV.str rfl Try.underlying65) ?_
              refine VR.pG rfl rfl rfl rfl h33 (VP.arith rfl rfl rfl) ?_
              refine VR.p rfl rfl (VP.pickB true rfl h33 rfl) ?_
              exact J [_, _, _, _] _ rfl (andT h33)
            · refine VR.skipG rfl rfl rfl rfl h33 ?_
              refine VR.skipG rfl rfl rfl rfl h33 ?_
              refine VR.skipG rfl rfl rfl rfl h33 ?_
              refine VR.skipG rfl rfl rfl rfl h33 ?_
              refine VR.p rfl rfl (VP.pickB false rfl h33 rfl) ?_
              exact J [_, _, _, _] _ rfl (andF h33)
          · refine VR.p rfl rfl (VP.assign rfl) ?_
            refine VR.nil ?_
            obtain rfl := Option.some.inj hm
            have hm := Out.ret_on h5
            obtain rfl := Option.some.inj hm
            exact VW.ret ⟨.inl rfl, _, .cons (.tmp _ _ rfl) .nil, [], _, rfl, rfl, rfl⟩
    · rintro j _ rfl
      have hm := Out.go_on h5
      refine VW.seq ?_
      refine VW.seq ?_
      refine VW.region ?_
      refine VR.p rfl rfl (VP.fieldP rfl fa74_2) ?_
      refine VR.p rfl rfl (VP.loadP (i := 0) rfl rfl ld65 rfl) ?_
      refine VR.p rfl rfl (VP.lenT VV.str rfl Try.underlying65) ?_
      refine VR.p rfl rfl (VP.arith rfl rfl rfl) ?_
      refine VR.p rfl rfl (VP.assign rfl) ?_
      refine VR.nil ?_
      obtain rfl := Option.some.inj hm
      exact VW.ret ⟨.inl rfl, _, .cons (.tmp _ _ rfl) .nil, [], _, rfl, rfl, rfl⟩

end Go.Proofs.Ytcblmlkpcplkfaa.M

/-
  Printed by a program of this session out of the loaded functions: models and their proofs. Own text.
-/
import Derived.Test.YtcblmlkpcplkfaaGreatRZF0
namespace Go.Proofs.YtcblmlkpcplkfaaGreat.M
open Go Go.Proofs Go.Proofs.YtcblmlkpcplkfaaGreat.V
set_option linter.unusedVariables false
set_option maxRecDepth 20000
set_option maxHeartbeats 4000000
/-! trireme/triremeref07.RightPod -/
def ref07_RightPod.l1 (p : T_api_Pod) : Nat → Int → Option (Out Bool Unit)
  | 0, _ => none
  | n + 1, i2 =>
    if (decide (i2 < (p.Terms.length : Int))) = true then
      (V.gl p.Terms i2).bind fun x =>
      (ref05_RightTerm x).bind fun r5 =>
      if (!r5) = true then
        some (Out.ret false)
      else
        ref07_RightPod.l1 p n (IntKind.i64.wrap (i2 + (1 : Int)))
    else
      some (Out.go ())
def ref07_RightPod.l2 (p : T_api_Pod) : Nat → Int → Option (Out Bool Unit)
  | 0, _ => none
  | n2 + 1, i4 =>
    if (decide (i4 < (p.Ports.length : Int))) = true then
      (V.gl p.Ports i4).bind fun x2 =>
      (ref07_in x2 (1 : Int) (65535 : Int)).bind fun r6 =>
      (if (!r6) = true then some true else (if (decide (i4 > (0 : Int))) = true then (V.gl p.Ports i4).bind fun x3 =>
      (V.gl p.Ports (IntKind.i64.wrap (i4 - (1 : Int)))).bind fun x4 =>
      some (decide (x3 ≤ x4)) else some false).bind fun c4 =>
      some c4).bind fun c5 =>
      if c5 = true then
        some (Out.ret false)
      else
        ref07_RightPod.l2 p n2 (IntKind.i64.wrap (i4 + (1 : Int)))
    else
      some (Out.go ())
def ref07_RightPod (p : T_api_Pod) : Option Bool :=
  (ref01_Word p.Name).bind fun r =>
  (if (!r) = true then some true else (ref04_Right p.Need).bind fun r2 =>
  some (!r2)).bind fun c =>
  (if (c || (p.Need.Pods != (1 : Int))) = true then some true else (ref07_maybe p.Owner).bind fun r3 =>
  some (!r3)).bind fun c2 =>
  (if c2 = true then some true else (ref07_in p.Rank (0 : Int) (1000 : Int)).bind fun r4 =>
  some (!r4)).bind fun c3 =>
  if ((c3 || (decide ((p.Terms.length : Int) > (16 : Int)))) || (decide ((p.Ports.length : Int) > (16 : Int)))) = true then
    some false
  else
    (ref07_RightPod.l1 p FU (0 : Int)).bind fun o =>
    o.on fun j =>
    (ref07_RightPod.l2 p FU (0 : Int)).bind fun o2 =>
    o2.on fun j2 =>
    (if ((p.Wide && ((p.Apart.length : Int) == (0 : Int))) || (((p.Spread.length : Int) == (0 : Int)) && (p.Skew != (0 : Int)))) = true then some true else (if (decide ((p.Spread.length : Int) > (0 : Int))) = true then (ref07_in p.Skew (1 : Int) (100 : Int)).bind fun r7 =>
    some (!r7) else some false).bind fun c6 =>
    some c6).bind fun c7 =>
    if c7 = true then
      some false
    else
      (ref05_Right p.Labels).bind fun r8 =>
      (if r8 = true then (ref05_Right p.Select).bind fun r9 =>
      some r9 else some false).bind fun c8 =>
      (if c8 = true then (ref05_Right p.Apart).bind fun r10 =>
      some r10 else some false).bind fun c9 =>
      (if c9 = true then (ref05_Right p.Spread).bind fun r11 =>
      some r11 else some false).bind fun c10 =>
      (if c10 = true then (ref06_RightBears p.Bears).bind fun r12 =>
      some r12 else some false).bind fun c11 =>
      some c11
theorem ref07_RightPod_ok (p : T_api_Pod) (r : Bool) (hm : ref07_RightPod p = some r) :
    VC Tryz.prog 18 [T_api_Pod.vv p] [] (fun zx zH => zx = .bool r ∧ zH = []) := by
  unfold ref07_RightPod at hm
  refine VC.run (c := _) (rs := [.tmp 2]) Tryz.func18 rfl rfl rfl ?_
  refine VW.seq ?_
  refine VW.region ?_
  refine VR.cons rfl rfl (VO.box rfl rfl fun b => ?_)
  refine VR.p rfl rfl (VP.assign rfl) ?_
  refine VR.nil ?_
  refine VW.seq ?_
  refine VW.seq ?_
  refine VW.region ?_
  refine VR.p rfl rfl (VP.fieldP rfl fa31_0) ?_
  refine VR.p rfl rfl (VP.loadP (i := 0) rfl rfl ld9 rfl) ?_
  obtain ⟨r, h2, hm⟩ := bnd hm
  refine VR.cons rfl rfl (VO.callK 0 rfl fn34 rfl (ref01_Word_ok p.Name r h2) fun _ _ h67 => ?_)
  obtain ⟨rfl, rfl⟩ := h67
  refine VR.p rfl rfl (VP.not rfl) ?_
  refine VR.p rfl rfl (VP.move rfl) ?_
  obtain ⟨c, h6, hm⟩ := bnd hm
  refine VR.sc 5 14 (.bool c) (fun K' J => ?_) ?_
  · have hm := h6
    rcases ite_or hm with ⟨h3, hm⟩ | ⟨h3, hm⟩
    · refine VR.skipG rfl rfl rfl rfl h3 ?_
      refine VR.skipG rfl rfl rfl rfl h3 ?_
      refine VR.skipG rfl rfl rfl rfl h3 ?_
      refine VR.skipG rfl rfl rfl rfl h3 ?_
      refine VR.p rfl rfl (VP.pickB true rfl h3 rfl) ?_
      exact J [_, _, _, _] _ rfl (congrArg VV.bool (Option.some.inj hm))
    · have h3 := bf h3
      refine VR.pG rfl rfl rfl rfl h3 (VP.fieldP rfl fa31_1) ?_
      refine VR.pG rfl rfl rfl rfl h3 (VP.loadP (i := 0) rfl rfl ld25 rfl) ?_
      obtain ⟨r2, h4, hm⟩ := bnd hm
      refine VR.consG rfl rfl rfl rfl h3 (VO.callK 0 rfl fn35 rfl (ref04_Right_ok p.Need r2 h4) fun _ _ h5 => ?_)
      obtain ⟨rfl, rfl⟩ := h5
      refine VR.pG rfl rfl rfl rfl h3 (VP.not rfl) ?_
      refine VR.p rfl rfl (VP.pickB false rfl h3 rfl) ?_
      exact J [_, _, _, _] _ rfl (congrArg VV.bool (Option.some.inj hm))
  · refine VR.p rfl rfl (VP.move rfl) ?_
    refine VR.sc 5 20 (.bool (c || (p.Need.Pods != (1 : Int)))) (fun K' J => ?_) ?_
    · rcases Bool.eq_false_or_eq_true c with h7 | h7
      · refine VR.skipG rfl rfl rfl rfl h7 ?_
        refine VR.skipG rfl rfl rfl rfl h7 ?_
        refine VR.skipG rfl rfl rfl rfl h7 ?_
        refine VR.skipG rfl rfl rfl rfl h7 ?_
        refine VR.p rfl rfl (VP.pickB true rfl h7 rfl) ?_
        exact J [_, _, _, _] _ rfl (orT h7)
      · refine VR.pG rfl rfl rfl rfl h7 (VP.fieldP rfl fa31_1) ?_
        refine VR.pG rfl rfl rfl rfl h7 (VP.fieldP rfl fa25_3) ?_
        refine VR.pG rfl rfl rfl rfl h7 (VP.loadP (i := 0) rfl rfl ld3 rfl) ?_
        refine VR.pG rfl rfl rfl rfl h7 (VP.arith rfl rfl rfl) ?_
        refine VR.p rfl rfl (VP.pickB false rfl h7 rfl) ?_
        exact J [_, _, _, _] _ rfl (orF h7)
    · refine VR.p rfl rfl (VP.move rfl) ?_
      obtain ⟨c2, h11, hm⟩ := bnd hm
      refine VR.sc 5 26 (.bool c2) (fun K' J => ?_) ?_
      · have hm := h11
        rcases ite_or hm with ⟨h8, hm⟩ | ⟨h8, hm⟩
        · refine VR.skipG rfl rfl rfl rfl h8 ?_
          refine VR.skipG rfl rfl rfl rfl h8 ?_
          refine VR.skipG rfl rfl rfl rfl h8 ?_
          refine VR.skipG rfl rfl rfl rfl h8 ?_
          refine VR.p rfl rfl (VP.pickB true rfl h8 rfl) ?_
          exact J [_, _, _, _] _ rfl (congrArg VV.bool (Option.some.inj hm))
        · have h8 := bf h8
          refine VR.pG rfl rfl rfl rfl h8 (VP.fieldP rfl fa31_12) ?_
          refine VR.pG rfl rfl rfl rfl h8 (VP.loadP (i := 0) rfl rfl ld9 rfl) ?_
          obtain ⟨r3, h9, hm⟩ := bnd hm
          refine VR.consG rfl rfl rfl rfl h8 (VO.callK 0 rfl fn36 rfl (ref07_maybe_ok p.Owner r3 h9) fun _ _ h10 => ?_)
          obtain ⟨rfl, rfl⟩ := h10
          refine VR.pG rfl rfl rfl rfl h8 (VP.not rfl) ?_
          refine VR.p rfl rfl (VP.pickB false rfl h8 rfl) ?_
          exact J [_, _, _, _] _ rfl (congrArg VV.bool (Option.some.inj hm))
      · refine VR.p rfl rfl (VP.move rfl) ?_
        obtain ⟨c3, h15, hm⟩ := bnd hm
        refine VR.sc 5 32 (.bool c3) (fun K' J => ?_) ?_
        · have hm := h15
          rcases ite_or hm with ⟨h12, hm⟩ | ⟨h12, hm⟩
          · refine VR.skipG rfl rfl rfl rfl h12 ?_
            refine VR.skipG rfl rfl rfl rfl h12 ?_
            refine VR.skipG rfl rfl rfl rfl h12 ?_
            refine VR.skipG rfl rfl rfl rfl h12 ?_
            refine VR.p rfl rfl (VP.pickB true rfl h12 rfl) ?_
            exact J [_, _, _, _] _ rfl (congrArg VV.bool (Option.some.inj hm))
          · have h12 := bf h12
            refine VR.pG rfl rfl rfl rfl h12 (VP.fieldP rfl fa31_11) ?_
            refine VR.pG rfl rfl rfl rfl h12 (VP.loadP (i := 0) rfl rfl ld3 rfl) ?_
            obtain ⟨r4, h13, hm⟩ := bnd hm
            refine VR.consG rfl rfl rfl rfl h12 (VO.callK 0 rfl fn37 rfl (ref07_in_ok p.Rank (0 : Int) (1000 : Int) r4 h13) fun _ _ h14 => ?_)
            obtain ⟨rfl, rfl⟩ := h14
            refine VR.pG rfl rfl rfl rfl h12 (VP.not rfl) ?_
            refine VR.p rfl rfl (VP.pickB false rfl h12 rfl) ?_
            exact J [_, _, _, _] _ rfl (congrArg VV.bool (Option.some.inj hm))
        · refine VR.p rfl rfl (VP.move rfl) ?_
          refine VR.sc 5 38 (.bool (c3 || (decide ((p.Terms.length : Int) > (16 : Int))))) (fun K' J => ?_) ?_
          · rcases Bool.eq_false_or_eq_true c3 with h16 | h16
            · refine VR.skipG rfl rfl rfl rfl h16 ?_
              refine VR.skipG rfl rfl rfl rfl h16 ?_
              refine VR.skipG rfl rfl rfl rfl h16 ?_
              refine VR.skipG rfl rfl rfl rfl h16 ?_
              refine VR.p rfl rfl (VP.pickB true rfl h16 rfl) ?_
              exact J [_, _, _, _] _ rfl (orT h16)
            · refine VR.pG rfl rfl rfl rfl h16 (VP.fieldP rfl fa31_4) ?_
              refine VR.pG rfl rfl rfl rfl h16 (VP.loadP (i := 0) rfl rfl ld27 rfl) ?_
              refine VR.pG rfl rfl rfl rfl h16 (VP.lenT T_api_Term.vv rfl Tryz.underlying27) ?_
              refine VR.pG rfl rfl rfl rfl h16 (VP.arith rfl rfl rfl) ?_
              refine VR.p rfl rfl (VP.pickB false rfl h16 rfl) ?_
              exact J [_, _, _, _] _ rfl (orF h16)
          · refine VR.p rfl rfl (VP.move rfl) ?_
            refine VR.sc 5 44 (.bool ((c3 || (decide ((p.Terms.length : Int) > (16 : Int)))) || (decide ((p.Ports.length : Int) > (16 : Int))))) (fun K' J => ?_) ?_
            · rcases Bool.eq_false_or_eq_true (c3 || (decide ((p.Terms.length : Int) > (16 : Int)))) with h17 | h17
              · refine VR.skipG rfl rfl rfl rfl h17 ?_
                refine VR.skipG rfl rfl rfl rfl h17 ?_
                refine VR.skipG rfl rfl rfl rfl h17 ?_
                refine VR.skipG rfl rfl rfl rfl h17 ?_
                refine VR.p rfl rfl (VP.pickB true rfl h17 rfl) ?_
                exact J [_, _, _, _] _ rfl (orT h17)
              · refine VR.pG rfl rfl rfl rfl h17 (VP.fieldP rfl fa31_6) ?_
                refine VR.pG rfl rfl rfl rfl h17 (VP.loadP (i := 0) rfl rfl ld29 rfl) ?_
                refine VR.pG rfl rfl rfl rfl h17 (VP.lenT (VV.int .i64) rfl Tryz.underlying29) ?_
                refine VR.pG rfl rfl rfl rfl h17 (VP.arith rfl rfl rfl) ?_
                refine VR.p rfl rfl (VP.pickB false rfl h17 rfl) ?_
                exact J [_, _, _, _] _ rfl (orF h17)
            · refine VR.nil ?_
              rcases ite_or hm with ⟨h18, hm⟩ | ⟨h18, hm⟩
              · refine VW.condT rfl h18 ?_
                refine VW.seq ?_
                refine VW.region ?_
                refine VR.p rfl rfl (VP.assign rfl) ?_
                refine VR.nil ?_
                obtain rfl := Option.some.inj hm
                exact VW.ret ⟨.inl rfl, _, .cons (.tmp _ _ rfl) .nil, [], _, rfl, rfl, rfl⟩
              · have h18 := bf h18
                refine VW.condF rfl h18 ?_
                refine VW.skip ?_
                refine VW.seq ?_
                refine VW.seq ?_
                refine VW.region ?_
                refine VR.p rfl rfl (VP.assign rfl) ?_
                refine VR.nil ?_
                obtain ⟨o, h19, h20⟩ := bnd hm
                refine VW.joinE (fun (q : Unit) => o = Out.go q) (fun (j : Unit) (gg : Unit) => [(1, .ptr b 0)]) (fun (j : Unit) (gg : Unit) => [.box b 31 (T_api_Pod.cells p)]) ?_ ?_
                · have hm := h19
                  refine VW.block (VW.loop FU ?_)
                  refine VL.fuelS (R := _) (fun zn (zs : Int) => ref07_RightPod.l1 p zn zs) (fun (zs : Int) (zg : Unit) => [(1, .ptr b 0), (3, .int .i64 zs)]) (fun (zs : Int) (zg : Unit) => [.box b 31 (T_api_Pod.cells p)]) (0 : Int) () (fun zs => rfl) (Shift.pick [0] rfl ⟨rfl, rfl, trivial⟩) h19 ?_
                  rintro n i2 _ hm
                  rw [ref07_RightPod.l1] at hm
                  refine VW.seq ?_
                  refine VW.seq ?_
                  refine VW.region ?_
                  refine VR.p rfl rfl (VP.move rfl) ?_
                  refine VR.p rfl rfl (VP.fieldP rfl fa31_4) ?_
                  refine VR.p rfl rfl (VP.loadP (i := 0) rfl rfl ld27 rfl) ?_
                  refine VR.p rfl rfl (VP.lenT T_api_Term.vv rfl Tryz.underlying27) ?_
                  refine VR.p rfl rfl (VP.arith rfl rfl rfl) ?_
                  refine VR.nil ?_
                  rcases ite_or hm with ⟨h21, hm⟩ | ⟨h21, hm⟩
                  · refine VW.condT rfl h21 ?_
                    refine VW.skip ?_
                    refine VW.seq ?_
                    refine VW.block ?_
                    refine VW.seq ?_
                    refine VW.region ?_
                    refine VR.p rfl rfl (VP.fieldP rfl fa31_4) ?_
                    refine VR.p rfl rfl (VP.loadP (i := 0) rfl rfl ld27 rfl) ?_
                    refine VR.p rfl rfl (VP.move rfl) ?_
                    obtain ⟨x, h22, hm⟩ := bnd hm
                    refine VR.p rfl rfl (VP.glE T_api_Term.vv rfl rfl el27 h22) ?_
                    refine VR.p rfl rfl (VP.loadE rfl ld62 rfl) ?_
                    obtain ⟨r5, h23, hm⟩ := bnd hm
                    refine VR.cons rfl rfl (VO.callK 0 rfl fn38 rfl (ref05_RightTerm_ok x r5 h23) fun _ _ h25 => ?_)
                    obtain ⟨rfl, rfl⟩ := h25
                    refine VR.p rfl rfl (VP.not rfl) ?_
                    refine VR.nil ?_
                    rcases ite_or hm with ⟨h24, hm⟩ | ⟨h24, hm⟩
                    · refine VW.condT rfl h24 ?_
                      refine VW.seq ?_
                      refine VW.region ?_
                      refine VR.p rfl rfl (VP.assign rfl) ?_
                      refine VR.nil ?_
                      obtain rfl := Option.some.inj hm
                      have hm := Out.ret_on h20
                      obtain rfl := Option.some.inj hm
                      exact VW.ret ⟨.inl rfl, _, .cons (.tmp _ _ rfl) .nil, [], _, rfl, rfl, rfl⟩
                    · have h24 := bf h24
                      refine VW.condF rfl h24 ?_
                      refine VW.skip ?_
                      refine VW.region ?_
                      refine VR.p rfl rfl (VP.move rfl) ?_
                      refine VR.p rfl rfl (VP.arith rfl rfl rfl) ?_
                      refine VR.p rfl rfl (VP.assign rfl) ?_
                      refine VR.nil ?_
                      exact ⟨(IntKind.i64.wrap (i2 + (1 : Int))), (), hm, (Shift.pick [0] rfl ⟨rfl, rfl, trivial⟩)⟩
                  · have h21 := bf h21
                    refine VW.condF rfl h21 ?_
                    refine VW.exit ?_
                    exact ⟨(), (), (Option.some.inj hm).symm, (Shift.pick [0] rfl ⟨rfl, trivial⟩)⟩
                · rintro j _ rfl
                  have hm := Out.go_on h20
                  refine VW.seq ?_
                  refine VW.seq ?_
                  refine VW.region ?_
                  refine VR.p rfl rfl (VP.assign rfl) ?_
                  refine VR.nil ?_
                  obtain ⟨o2, h26, h27⟩ := bnd hm
                  refine VW.joinE (fun (q : Unit) => o2 = Out.go q) (fun (j2 : Unit) (gg : Unit) => [(1, .ptr b 0)]) (fun (j2 : Unit) (gg : Unit) => [.box b 31 (T_api_Pod.cells p)]) ?_ ?_
                  · have hm := h26
                    refine VW.block (VW.loop FU ?_)
                    refine VL.fuelS (R := _) (fun zn (zs : Int) => ref07_RightPod.l2 p zn zs) (fun (zs : Int) (zg : Unit) => [(1, .ptr b 0), (4, .int .i64 zs)]) (fun (zs : Int) (zg : Unit) => [.box b 31 (T_api_Pod.cells p)]) (0 : Int) () (fun zs => rfl) (Shift.pick [0] rfl ⟨rfl, rfl, trivial⟩) h26 ?_
                    rintro n2 i4 _ hm
                    rw [ref07_RightPod.l2] at hm
                    refine VW.seq ?_
                    refine VW.seq ?_
                    refine VW.region ?_
                    refine VR.p rfl rfl (VP.move rfl) ?_
                    refine VR.p rfl rfl (VP.fieldP rfl fa31_6) ?_
                    refine VR.p rfl rfl (VP.loadP (i := 0) rfl rfl ld29 rfl) ?_
                    refine VR.p rfl rfl (VP.lenT (VV.int .i64) rfl Tryz.underlying29) ?_
                    refine VR.p rfl rfl (VP.arith rfl rfl rfl) ?_
                    refine VR.nil ?_
                    rcases ite_or hm with ⟨h28, hm⟩ | ⟨h28, hm⟩
                    · refine VW.condT rfl h28 ?_
                      refine VW.skip ?_
                      refine VW.seq ?_
                      refine VW.block ?_
                      refine VW.seq ?_
                      refine VW.drawK 0 mixed ?_
                      refine VA.p 0 rfl rfl rfl (by kernel_rfl) (VP.fieldP rfl fa31_6) ?_
                      refine VA.p 1 rfl rfl rfl (by kernel_rfl) (VP.loadP (i := 0) rfl rfl ld29 rfl) ?_
                      refine VA.p 2 rfl rfl rfl (by kernel_rfl) (VP.move rfl) ?_
                      obtain ⟨x2, h29, hm⟩ := bnd hm
                      refine VA.p 3 rfl rfl rfl (by kernel_rfl) (VP.glE (VV.int .i64) rfl rfl el29 h29) ?_
                      refine VA.p 4 rfl rfl rfl (by kernel_rfl) (VP.loadE rfl ld3 rfl) ?_
                      refine VA.all [5] (by kernel_rfl) ⟨?_, trivial⟩
                      obtain ⟨r6, h30, hm⟩ := bnd hm
                      refine VB.o rfl rfl rfl (VO.callK 0 rfl fn37 rfl (ref07_in_ok x2 (1 : Int) (65535 : Int) r6 h30) fun _ _ h38 => ?_)
                      obtain ⟨rfl, rfl⟩ := h38
                      refine VA.p 6 rfl rfl rfl (by kernel_rfl) (VP.not rfl) ?_
                      refine VA.p 7 rfl rfl rfl (by kernel_rfl) (VP.move rfl) ?_
                      obtain ⟨c5, h36, hm⟩ := bnd hm
                      refine VA.sc [24, 23, 22, 21, 20, 19, 18, 17, 16, 15, 14, 13, 12, 11, 10, 9, 8, 7, 6, 5, 4, 3, 2, 1, 0] 90 (.bool c5) (fun K' J => ?_) ?_
                      · have hm := h36
                        rcases ite_or hm with ⟨h31, hm⟩ | ⟨h31, hm⟩
                        · refine VA.skipG 8 rfl rfl rfl rfl rfl h31 (by kernel_rfl) ?_
                          refine VA.skipG 9 rfl rfl rfl rfl rfl h31 (by kernel_rfl) ?_
                          refine VA.skipG 10 rfl rfl rfl rfl rfl h31 (by kernel_rfl) ?_
                          refine VA.skipU 11 rfl rfl rfl rfl rfl (by kernel_rfl) ?_
                          refine VA.skipU 12 rfl rfl rfl rfl rfl (by kernel_rfl) ?_
                          refine VA.skipU 13 rfl rfl rfl rfl rfl (by kernel_rfl) ?_
                          refine VA.skipU 14 rfl rfl rfl rfl rfl (by kernel_rfl) ?_
                          refine VA.skipU 15 rfl rfl rfl rfl rfl (by kernel_rfl) ?_
                          refine VA.skipU 16 rfl rfl rfl rfl rfl (by kernel_rfl) ?_
                          refine VA.skipU 17 rfl rfl rfl rfl rfl (by kernel_rfl) ?_
                          refine VA.skipU 18 rfl rfl rfl rfl rfl (by kernel_rfl) ?_
                          refine VA.skipU 19 rfl rfl rfl rfl rfl (by kernel_rfl) ?_
                          refine VA.skipU 20 rfl rfl rfl rfl rfl (by kernel_rfl) ?_
                          refine VA.skipU 21 rfl rfl rfl rfl rfl (by kernel_rfl) ?_
                          refine VA.skipU 22 rfl rfl rfl rfl rfl (by kernel_rfl) ?_
                          refine VA.skipG 23 rfl rfl rfl rfl rfl h31 (by kernel_rfl) ?_
                          refine VA.p 24 rfl rfl rfl (by kernel_rfl) (VP.pickB true rfl h31 rfl) ?_
                          exact J [_, _, _, _, _, _, _, _, _, _, _, _, _, _, _, _] _ rfl (congrArg VV.bool (Option.some.inj hm))
                        · have h31 := bf h31
                          refine VA.pG 8 rfl rfl rfl rfl rfl h31 (by kernel_rfl) (VP.move rfl) ?_
                          refine VA.pG 9 rfl rfl rfl rfl rfl h31 (by kernel_rfl) (VP.arith rfl rfl rfl) ?_
                          refine VA.pG 10 rfl rfl rfl rfl rfl h31 (by kernel_rfl) (VP.move rfl) ?_
                          obtain ⟨c4, h35, hm⟩ := bnd hm
                          refine VA.sc [23, 22, 21, 20, 19, 18, 17, 16, 15, 14, 13, 12, 11, 10, 9, 8, 7, 6, 5, 4, 3, 2, 1, 0] 89 (.bool c4) (fun K' J => ?_) ?_
                          · have hm := h35
                            rcases ite_or hm with ⟨h32, hm⟩ | ⟨h32, hm⟩
                            · refine VA.pG 11 rfl rfl rfl rfl rfl h32 (by kernel_rfl) (VP.fieldP rfl fa31_6) ?_
                              refine VA.pG 12 rfl rfl rfl rfl rfl h32 (by kernel_rfl) (VP.loadP (i := 0) rfl rfl ld29 rfl) ?_
                              refine VA.pG 13 rfl rfl rfl rfl rfl h32 (by kernel_rfl) (VP.move rfl) ?_
                              obtain ⟨x3, h33, hm⟩ := bnd hm
                              refine VA.pG 14 rfl rfl rfl rfl rfl h32 (by kernel_rfl) (VP.glE (VV.int .i64) rfl rfl el29 h33) ?_
                              refine VA.pG 15 rfl rfl rfl rfl rfl h32 (by kernel_rfl) (VP.loadE rfl ld3 rfl) ?_
                              refine VA.pG 16 rfl rfl rfl rfl rfl h32 (by kernel_rfl) (VP.fieldP rfl fa31_6) ?_
                              refine VA.pG 17 rfl rfl rfl rfl rfl h32 (by kernel_rfl) (VP.loadP (i := 0) rfl rfl ld29 rfl) ?_
                              refine VA.pG 18 rfl rfl rfl rfl rfl h32 (by kernel_rfl) (VP.move rfl) ?_
                              refine VA.pG 19 rfl rfl rfl rfl rfl h32 (by kernel_rfl) (VP.arith rfl rfl rfl) ?_
                              obtain ⟨x4, h34, hm⟩ := bnd hm
                              refine VA.pG 20 rfl rfl rfl rfl rfl h32 (by kernel_rfl) (VP.glE (VV.int .i64) rfl rfl el29 h34) ?_
                              refine VA.pG 21 rfl rfl rfl rfl rfl h32 (by kernel_rfl) (VP.loadE rfl ld3 rfl) ?_
                              refine VA.pG 22 rfl rfl rfl rfl rfl h32 (by kernel_rfl) (VP.arith rfl rfl rfl) ?_
                              refine VA.pG 23 rfl rfl rfl rfl rfl h31 (by kernel_rfl) (VP.pickB true rfl h32 rfl) ?_
                              exact J [_, _, _, _, _, _, _, _, _, _, _, _] _ rfl (congrArg VV.bool (Option.some.inj hm))
                            · have h32 := bf h32
                              refine VA.skipG 11 rfl rfl rfl rfl rfl h32 (by kernel_rfl) ?_
                              refine VA.skipG 12 rfl rfl rfl rfl rfl h32 (by kernel_rfl) ?_
                              refine VA.skipG 13 rfl rfl rfl rfl rfl h32 (by kernel_rfl) ?_
                              refine VA.skipG 14 rfl rfl rfl rfl rfl h32 (by kernel_rfl) ?_
                              refine VA.skipG 15 rfl rfl rfl rfl rfl h32 (by kernel_rfl) ?_
                              refine VA.skipG 16 rfl rfl rfl rfl rfl h32 (by kernel_rfl) ?_
                              refine VA.skipG 17 rfl rfl rfl rfl rfl h32 (by kernel_rfl) ?_
                              refine VA.skipG 18 rfl rfl rfl rfl rfl h32 (by kernel_rfl) ?_
                              refine VA.skipG 19 rfl rfl rfl rfl rfl h32 (by kernel_rfl) ?_
                              refine VA.skipG 20 rfl rfl rfl rfl rfl h32 (by kernel_rfl) ?_
                              refine VA.skipG 21 rfl rfl rfl rfl rfl h32 (by kernel_rfl) ?_
                              refine VA.skipG 22 rfl rfl rfl rfl rfl h32 (by kernel_rfl) ?_
                              refine VA.pG 23 rfl rfl rfl rfl rfl h31 (by kernel_rfl) (VP.pickB false rfl h32 rfl) ?_
                              exact J [_, _, _, _, _, _, _, _, _, _, _, _] _ rfl (congrArg VV.bool (Option.some.inj hm))
                          · refine VA.p 24 rfl rfl rfl (by kernel_rfl) (VP.pickB false rfl h31 rfl) ?_
                            exact J [_, _, _, _] _ rfl (congrArg VV.bool (Option.some.inj hm))
                      · refine VA.done (by kernel_rfl) ?_
                        rcases ite_or hm with ⟨h37, hm⟩ | ⟨h37, hm⟩
                        · refine VW.condT rfl h37 ?_
                          refine VW.seq ?_
                          refine VW.region ?_
                          refine VR.p rfl rfl (VP.assign rfl) ?_
                          refine VR.nil ?_
                          obtain rfl := Option.some.inj hm
                          have hm := Out.ret_on h27
                          obtain rfl := Option.some.inj hm
                          exact VW.ret ⟨.inl rfl, _, .cons (.tmp _ _ rfl) .nil, [], _, rfl, rfl, rfl⟩
                        · have h37 := bf h37
                          refine VW.condF rfl h37 ?_
                          refine VW.skip ?_
                          refine VW.region ?_
                          refine VR.p rfl rfl (VP.move rfl) ?_
                          refine VR.p rfl rfl (VP.arith rfl rfl rfl) ?_
                          refine VR.p rfl rfl (VP.assign rfl) ?_
                          refine VR.nil ?_
                          exact ⟨(IntKind.i64.wrap (i4 + (1 : Int))), (), hm, (Shift.pick [0] rfl ⟨rfl, rfl, trivial⟩)⟩
                    · have h28 := bf h28
                      refine VW.condF rfl h28 ?_
                      refine VW.exit ?_
                      exact ⟨(), (), (Option.some.inj hm).symm, (Shift.pick [0] rfl ⟨rfl, trivial⟩)⟩
                  · rintro j2 _ rfl
                    have hm := Out.go_on h27
                    refine VW.seq ?_
                    refine VW.seq ?_
                    refine VW.region ?_
                    refine VR.p rfl rfl (VP.fieldP rfl fa31_8) ?_
                    refine VR.p rfl rfl (VP.loadP (i := 0) rfl rfl ld4 rfl) ?_
                    refine VR.p rfl rfl (VP.move rfl) ?_
                    refine VR.sc 5 98 (.bool (p.Wide && ((p.Apart.length : Int) == (0 : Int)))) (fun K' J => ?_) ?_
                    · rcases Bool.eq_false_or_eq_true p.Wide with h39 | h39
                      · refine VR.pG rfl rfl rfl rfl h39 (VP.fieldP rfl fa31_7) ?_
                        refine VR.pG rfl rfl rfl rfl h39 (VP.loadP (i := 0) rfl rfl ld26 rfl) ?_
                        refine VR.pG rfl rfl rfl rfl h39 (VP.lenT T_api_Label.vv rfl Tryz.underlying26) ?_
                        refine VR.pG rfl rfl rfl rfl h39 (VP.arith rfl rfl rfl) ?_
                        refine VR.p rfl rfl (VP.pickB true rfl h39 rfl) ?_
                        exact J [_, _, _, _] _ rfl (andT h39)
                      · refine VR.skipG rfl rfl rfl rfl h39 ?_
                        refine VR.skipG rfl rfl rfl rfl h39 ?_
                        refine VR.skipG rfl rfl rfl rfl h39 ?_
                        refine VR.skipG rfl rfl rfl rfl h39 ?_
                        refine VR.p rfl rfl (VP.pickB false rfl h39 rfl) ?_
                        exact J [_, _, _, _] _ rfl (andF h39)
                    · refine VR.p rfl rfl (VP.move rfl) ?_
                      refine VR.sc 10 109 (.bool ((p.Wide && ((p.Apart.length : Int) == (0 : Int))) || (((p.Spread.length : Int) == (0 : Int)) && (p.Skew != (0 : Int))))) (fun K' J => ?_) ?_
                      · rcases Bool.eq_false_or_eq_true (p.Wide && ((p.Apart.length : Int) == (0 : Int))) with h40 | h40
                        · refine VR.skipG rfl rfl rfl rfl h40 ?_
                          refine VR.skipG rfl rfl rfl rfl h40 ?_
                          refine VR.skipG rfl rfl rfl rfl h40 ?_
                          refine VR.skipG rfl rfl rfl rfl h40 ?_
                          refine VR.skipG rfl rfl rfl rfl h40 ?_
                          refine VR.skipU rfl rfl rfl rfl ?_
                          refine VR.skipU rfl rfl rfl rfl ?_
                          refine VR.skipU rfl rfl rfl rfl ?_
                          refine VR.skipG rfl rfl rfl rfl h40 ?_
                          refine VR.p rfl rfl (VP.pickB true rfl h40 rfl) ?_
                          exact J [_, _, _, _, _, _, _, _, _] _ rfl (orT h40)
                        · refine VR.pG rfl rfl rfl rfl h40 (VP.fieldP rfl fa31_9) ?_
                          refine VR.pG rfl rfl rfl rfl h40 (VP.loadP (i := 0) rfl rfl ld26 rfl) ?_
                          refine VR.pG rfl rfl rfl rfl h40 (VP.lenT T_api_Label.vv rfl Tryz.underlying26) ?_
                          refine VR.pG rfl rfl rfl rfl h40 (VP.arith rfl rfl rfl) ?_
                          refine VR.pG rfl rfl rfl rfl h40 (VP.move rfl) ?_
                          refine VR.sc 4 108 (.bool (((p.Spread.length : Int) == (0 : Int)) && (p.Skew != (0 : Int)))) (fun K' J => ?_) ?_
                          · rcases Bool.eq_false_or_eq_true ((p.Spread.length : Int) == (0 : Int)) with h41 | h41
                            · refine VR.pG rfl rfl rfl rfl h41 (VP.fieldP rfl fa31_10) ?_
                              refine VR.pG rfl rfl rfl rfl h41 (VP.loadP (i := 0) rfl rfl ld3 rfl) ?_
                              refine VR.pG rfl rfl rfl rfl h41 (VP.arith rfl rfl rfl) ?_
                              refine VR.pG rfl rfl rfl rfl h40 (VP.pickB true rfl h41 rfl) ?_
                              exact J [_, _, _] _ rfl (andT h41)
                            · refine VR.skipG rfl rfl rfl rfl h41 ?_
                              refine VR.skipG rfl rfl rfl rfl h41 ?_
                              refine VR.skipG rfl rfl rfl rfl h41 ?_
                              refine VR.pG rfl rfl rfl rfl h40 (VP.pickB false rfl h41 rfl) ?_
                              exact J [_, _, _] _ rfl (andF h41)
                          · refine VR.p rfl rfl (VP.pickB false rfl h40 rfl) ?_
                            exact J [_, _, _, _, _, _] _ rfl (orF h40)
                      · refine VR.p rfl rfl (VP.move rfl) ?_
                        obtain ⟨c7, h47, hm⟩ := bnd hm
                        refine VR.sc 11 121 (.bool c7) (fun K' J => ?_) ?_
                        · have hm := h47
                          rcases ite_or hm with ⟨h42, hm⟩ | ⟨h42, hm⟩
                          · refine VR.skipG rfl rfl rfl rfl h42 ?_
                            refine VR.skipG rfl rfl rfl rfl h42 ?_
                            refine VR.skipG rfl rfl rfl rfl h42 ?_
                            refine VR.skipG rfl rfl rfl rfl h42 ?_
                            refine VR.skipG rfl rfl rfl rfl h42 ?_
                            refine VR.skipU rfl rfl rfl rfl ?_
                            refine VR.skipU rfl rfl rfl rfl ?_
                            refine VR.skipU rfl rfl rfl rfl ?_
                            refine VR.skipU rfl rfl rfl rfl ?_
                            refine VR.skipG rfl rfl rfl rfl h42 ?_
                            refine VR.p rfl rfl (VP.pickB true rfl h42 rfl) ?_
                            exact J [_, _, _, _, _, _, _, _, _, _] _ rfl (congrArg VV.bool (Option.some.inj hm))
                          · have h42 := bf h42
                            refine VR.pG rfl rfl rfl rfl h42 (VP.fieldP rfl fa31_9) ?_
                            refine VR.pG rfl rfl rfl rfl h42 (VP.loadP (i := 0) rfl rfl ld26 rfl) ?_
                            refine VR.pG rfl rfl rfl rfl h42 (VP.lenT T_api_Label.vv rfl Tryz.underlying26) ?_
                            refine VR.pG rfl rfl rfl rfl h42 (VP.arith rfl rfl rfl) ?_
                            refine VR.pG rfl rfl rfl rfl h42 (VP.move rfl) ?_
                            obtain ⟨c6, h46, hm⟩ := bnd hm
                            refine VR.sc 5 120 (.bool c6) (fun K' J => ?_) ?_
                            · have hm := h46
                              rcases ite_or hm with ⟨h43, hm⟩ | ⟨h43, hm⟩
                              · refine VR.pG rfl rfl rfl rfl h43 (VP.fieldP rfl fa31_10) ?_
                                refine VR.pG rfl rfl rfl rfl h43 (VP.loadP (i := 0) rfl rfl ld3 rfl) ?_
                                obtain ⟨r7, h44, hm⟩ := bnd hm
                                refine VR.consG rfl rfl rfl rfl h43 (VO.callK 0 rfl fn37 rfl (ref07_in_ok p.Skew (1 : Int) (100 : Int) r7 h44) fun _ _ h45 => ?_)
                                obtain ⟨rfl, rfl⟩ := h45
                                refine VR.pG rfl rfl rfl rfl h43 (VP.not rfl) ?_
                                refine VR.pG rfl rfl rfl rfl h42 (VP.pickB true rfl h43 rfl) ?_
                                exact J [_, _, _, _] _ rfl (congrArg VV.bool (Option.some.inj hm))
                              · have h43 := bf h43
                                refine VR.skipG rfl rfl rfl rfl h43 ?_
                                refine VR.skipG rfl rfl rfl rfl h43 ?_
                                refine VR.skipG rfl rfl rfl rfl h43 ?_
                                refine VR.skipG rfl rfl rfl rfl h43 ?_
                                refine VR.pG rfl rfl rfl rfl h42 (VP.pickB false rfl h43 rfl) ?_
                                exact J [_, _, _, _] _ rfl (congrArg VV.bool (Option.some.inj hm))
                            · refine VR.p rfl rfl (VP.pickB false rfl h42 rfl) ?_
                              exact J [_, _, _, _, _, _] _ rfl (congrArg VV.bool (Option.some.inj hm))
                        · refine VR.nil ?_
                          rcases ite_or hm with ⟨h48, hm⟩ | ⟨h48, hm⟩
                          · refine VW.condT rfl h48 ?_
                            refine VW.seq ?_
                            refine VW.region ?_
                            refine VR.p rfl rfl (VP.assign rfl) ?_
                            refine VR.nil ?_
                            obtain rfl := Option.some.inj hm
                            exact VW.ret ⟨.inl rfl, _, .cons (.tmp _ _ rfl) .nil, [], _, rfl, rfl, rfl⟩
                          · have h48 := bf h48
                            refine VW.condF rfl h48 ?_
                            refine VW.skip ?_
                            refine VW.seq ?_
                            refine VW.region ?_
                            refine VR.p rfl rfl (VP.fieldP rfl fa31_2) ?_
                            refine VR.p rfl rfl (VP.loadP (i := 0) rfl rfl ld26 rfl) ?_
                            obtain ⟨r8, h49, hm⟩ := bnd hm
                            refine VR.cons rfl rfl (VO.callK 0 rfl fn39 rfl (ref05_Right_ok p.Labels r8 h49) fun _ _ h66 => ?_)
                            obtain ⟨rfl, rfl⟩ := h66
                            refine VR.p rfl rfl (VP.move rfl) ?_
                            obtain ⟨c8, h53, hm⟩ := bnd hm
                            refine VR.sc 4 129 (.bool c8) (fun K' J => ?_) ?_
                            · have hm := h53
                              rcases ite_or hm with ⟨h50, hm⟩ | ⟨h50, hm⟩
                              · refine VR.pG rfl rfl rfl rfl h50 (VP.fieldP rfl fa31_3) ?_
                                refine VR.pG rfl rfl rfl rfl h50 (VP.loadP (i := 0) rfl rfl ld26 rfl) ?_
                                obtain ⟨r9, h51, hm⟩ := bnd hm
                                refine VR.consG rfl rfl rfl rfl h50 (VO.callK 0 rfl fn39 rfl (ref05_Right_ok p.Select r9 h51) fun _ _ h52 => ?_)
                                obtain ⟨rfl, rfl⟩ := h52
                                refine VR.p rfl rfl (VP.pickB true rfl h50 rfl) ?_
                                exact J [_, _, _] _ rfl (congrArg VV.bool (Option.some.inj hm))
                              · have h50 := bf h50
                                refine VR.skipG rfl rfl rfl rfl h50 ?_
                                refine VR.skipG rfl rfl rfl rfl h50 ?_
                                refine VR.skipG rfl rfl rfl rfl h50 ?_
                                refine VR.p rfl rfl (VP.pickB false rfl h50 rfl) ?_
                                exact J [_, _, _] _ rfl (congrArg VV.bool (Option.some.inj hm))
                            · refine VR.p rfl rfl (VP.move rfl) ?_
                              obtain ⟨c9, h57, hm⟩ := bnd hm
                              refine VR.sc 4 134 (.bool c9) (fun K' J => ?_) ?_
                              · have hm := h57
                                rcases ite_or hm with ⟨h54, hm⟩ | ⟨h54, hm⟩
                                · refine VR.pG rfl rfl rfl rfl h54 (VP.fieldP rfl fa31_7) ?_
                                  refine VR.pG rfl rfl rfl rfl h54 (VP.loadP (i := 0) rfl rfl ld26 rfl) ?_
                                  obtain ⟨r10, h55, hm⟩ := bnd hm
                                  refine VR.consG rfl rfl rfl rfl h54 (VO.callK 0 rfl fn39 rfl (ref05_Right_ok p.Apart r10 h55) fun _ _ h56 => ?_)
                                  obtain ⟨rfl, rfl⟩ := h56
                                  refine VR.p rfl rfl (VP.pickB true rfl h54 rfl) ?_
                                  exact J [_, _, _] _ rfl (congrArg VV.bool (Option.some.inj hm))
                                · have h54 := bf h54
                                  refine VR.skipG rfl rfl rfl rfl h54 ?_
                                  refine VR.skipG rfl rfl rfl rfl h54 ?_
                                  refine VR.skipG rfl rfl rfl rfl h54 ?_
                                  refine VR.p rfl rfl (VP.pickB false rfl h54 rfl) ?_
                                  exact J [_, _, _] _ rfl (congrArg VV.bool (Option.some.inj hm))
                              · refine VR.p rfl rfl (VP.move rfl) ?_
                                obtain ⟨c10, h61, hm⟩ := bnd hm
                                refine VR.sc 4 139 (.bool c10) (fun K' J => ?_) ?_
                                · have hm := h61
                                  rcases ite_or hm with ⟨h58, hm⟩ | ⟨h58, hm⟩
                                  · refine VR.pG rfl rfl rfl rfl h58 (VP.fieldP rfl fa31_9) ?_
                                    refine VR.pG rfl rfl rfl rfl h58 (VP.loadP (i := 0) rfl rfl ld26 rfl) ?_
                                    obtain ⟨r11, h59, hm⟩ := bnd hm
                                    refine VR.consG rfl rfl rfl rfl h58 (VO.callK 0 rfl fn39 rfl (ref05_Right_ok p.Spread r11 h59) fun _ _ h60 => ?_)
                                    obtain ⟨rfl, rfl⟩ := h60
                                    refine VR.p rfl rfl (VP.pickB true rfl h58 rfl) ?_
                                    exact J [_, _, _] _ rfl (congrArg VV.bool (Option.some.inj hm))
                                  · have h58 := bf h58
                                    refine VR.skipG rfl rfl rfl rfl h58 ?_
                                    refine VR.skipG rfl rfl rfl rfl h58 ?_
                                    refine VR.skipG rfl rfl rfl rfl h58 ?_
                                    refine VR.p rfl rfl (VP.pickB false rfl h58 rfl) ?_
                                    exact J [_, _, _] _ rfl (congrArg VV.bool (Option.some.inj hm))
                                · refine VR.p rfl rfl (VP.move rfl) ?_
                                  obtain ⟨c11, h65, hm⟩ := bnd hm
                                  refine VR.sc 4 144 (.bool c11) (fun K' J => ?_) ?_
                                  · have hm := h65
                                    rcases ite_or hm with ⟨h62, hm⟩ | ⟨h62, hm⟩
                                    · refine VR.pG rfl rfl rfl rfl h62 (VP.fieldP rfl fa31_5) ?_
                                      refine VR.pG rfl rfl rfl rfl h62 (VP.loadP (i := 0) rfl rfl ld28 rfl) ?_
                                      obtain ⟨r12, h63, hm⟩ := bnd hm
                                      refine VR.consG rfl rfl rfl rfl h62 (VO.callK 0 rfl fn40 rfl (ref06_RightBears_ok p.Bears r12 h63) fun _ _ h64 => ?_)
                                      obtain ⟨rfl, rfl⟩ := h64
                                      refine VR.p rfl rfl (VP.pickB true rfl h62 rfl) ?_
                                      exact J [_, _, _] _ rfl (congrArg VV.bool (Option.some.inj hm))
                                    · have h62 := bf h62
                                      refine VR.skipG rfl rfl rfl rfl h62 ?_
                                      refine VR.skipG rfl rfl rfl rfl h62 ?_
                                      refine VR.skipG rfl rfl rfl rfl h62 ?_
                                      refine VR.p rfl rfl (VP.pickB false rfl h62 rfl) ?_
                                      exact J [_, _, _] _ rfl (congrArg VV.bool (Option.some.inj hm))
                                  · refine VR.p rfl rfl (VP.assign rfl) ?_
                                    refine VR.nil ?_
                                    obtain rfl := Option.some.inj hm
                                    exact VW.ret ⟨.inl rfl, _, .cons (.tmp _ _ rfl) .nil, [], _, rfl, rfl, rfl⟩

/-! trireme/triremeref09.Find -/
def ref09_Find.l1 (ms : List T_api_Machine) (name : ByteArray) : Nat → Int → Option (Out Int Unit)
  | 0, _ => none
  | n + 1, i2 =>
    if (decide (i2 < (ms.length : Int))) = true then
      (V.gl ms i2).bind fun x =>
      if (V.seq x.Name name) = true then
        some (Out.ret i2)
      else
        ref09_Find.l1 ms name n (IntKind.i64.wrap (i2 + (1 : Int)))
    else
      some (Out.go ())
def ref09_Find (ms : List T_api_Machine) (name : ByteArray) : Option Int :=
  (ref09_Find.l1 ms name FU (0 : Int)).bind fun o =>
  o.on fun j =>
  some (-1 : Int)
theorem ref09_Find_ok (ms : List T_api_Machine) (name : ByteArray) (r : Int) (hm : ref09_Find ms name = some r) :
    VC Tryz.prog 22 [.list 37 (List.map T_api_Machine.vv ms), .str name] [] (fun zx zH => zx = .int .i64 r ∧ zH = []) := by
  unfold ref09_Find at hm
  refine VC.run (c := _) (rs := [.tmp 4]) Tryz.func22 rfl rfl rfl ?_
  refine VW.seq ?_
  refine VW.region ?_
  refine VR.p rfl rfl (VP.assign rfl) ?_
  refine VR.nil ?_
  refine VW.seq ?_
  refine VW.seq ?_
  refine VW.region ?_
  refine VR.p rfl rfl (VP.assign rfl) ?_
  refine VR.nil ?_
  obtain ⟨o, h1, h2⟩ := bnd hm
  refine VW.joinE (fun (q : Unit) => o = Out.go q) (fun (j : Unit) (gg : Unit) => []) (fun (j : Unit) (gg : Unit) => []) ?_ ?_
  · have hm := h1
    refine VW.block (VW.loop FU ?_)
    refine VL.fuelS (R := _) (fun zn (zs : Int) => ref09_Find.l1 ms name zn zs) (fun (zs : Int) (zg : Unit) => [(0, .list 37 (List.map T_api_Machine.vv ms)), (1, .str name), (5, .int .i64 zs)]) (fun (zs : Int) (zg : Unit) => []) (0 : Int) () (fun zs => rfl) (Shift.pick [] rfl ⟨rfl, rfl, rfl, trivial⟩) h1 ?_
    rintro n i2 _ hm
    rw [ref09_Find.l1] at hm
    refine VW.seq ?_
    refine VW.seq ?_
    refine VW.region ?_
    refine VR.p rfl rfl (VP.move rfl) ?_
    refine VR.p rfl rfl (VP.move rfl) ?_
    refine VR.p rfl rfl (VP.lenT T_api_Machine.vv rfl Tryz.underlying22) ?_
    refine VR.p rfl rfl (VP.arith rfl rfl rfl) ?_
    refine VR.nil ?_
    rcases ite_or hm with ⟨h3, hm⟩ | ⟨h3, hm⟩
    · refine VW.condT rfl h3 ?_
      refine VW.skip ?_
      refine VW.seq ?_
      refine VW.block ?_
      refine VW.seq ?_
      refine VW.region ?_
      refine VR.p rfl rfl (VP.move rfl) ?_
      refine VR.p rfl rfl (VP.move rfl) ?_
      obtain ⟨x, h4, hm⟩ := bnd hm
      refine VR.p rfl rfl (VP.glE T_api_Machine.vv rfl rfl el22 h4) ?_
      refine VR.p rfl rfl (VP.fieldE rfl fa37_0) ?_
      refine VR.p rfl rfl (VP.loadE rfl ld9 rfl) ?_
      refine VR.p rfl rfl (VP.move rfl) ?_
      refine VR.p rfl rfl (VP.strop rfl rfl rfl) ?_
      refine VR.nil ?_
      rcases ite_or hm with ⟨h5, hm⟩ | ⟨h5, hm⟩
      · refine VW.condT rfl h5 ?_
        refine VW.seq ?_
        refine VW.region ?_
        refine VR.p rfl rfl (VP.move rfl) ?_
        refine VR.p rfl rfl (VP.assign rfl) ?_
        refine VR.nil ?_
        obtain rfl := Option.some.inj hm
        have hm := Out.ret_on h2
        obtain rfl := Option.some.inj hm
        exact VW.ret ⟨.inl rfl, _, .cons (.tmp _ _ rfl) .nil, [], _, rfl, rfl, rfl⟩
      · have h5 := bf h5
        refine VW.condF rfl h5 ?_
        refine VW.skip ?_
        refine VW.region ?_
        refine VR.p rfl rfl (VP.move rfl) ?_
        refine VR.p rfl rfl (VP.arith rfl rfl rfl) ?_
        refine VR.p rfl rfl (VP.assign rfl) ?_
        refine VR.nil ?_
        exact ⟨(IntKind.i64.wrap (i2 + (1 : Int))), (), hm, (Shift.pick [] rfl ⟨rfl, rfl, rfl, trivial⟩)⟩
    · have h3 := bf h3
      refine VW.condF rfl h3 ?_
      refine VW.exit ?_
      exact ⟨(), (), (Option.some.inj hm).symm, (Shift.pick [] rfl trivial)⟩
  · rintro j _ rfl
    have hm := Out.go_on h2
    refine VW.seq ?_
    refine VW.region ?_
    refine VR.p rfl rfl (VP.assign rfl) ?_
    refine VR.nil ?_
    obtain rfl := Option.some.inj hm
    exact VW.ret ⟨.inl rfl, _, .cons (.tmp _ _ rfl) .nil, [], _, rfl, rfl, rfl⟩

/-! trireme/triremeref09.Place -/
def ref09_Place.l1 (bs : List T_api_Bound) (name : ByteArray) : Nat → Int → Option (Out Int Unit)
  | 0, _ => none
  | n + 1, i2 =>
    if (decide (i2 < (bs.length : Int))) = true then
      (V.gl bs i2).bind fun x =>
      if (V.seq x.Pod.Name name) = true then
        some (Out.ret i2)
      else
        ref09_Place.l1 bs name n (IntKind.i64.wrap (i2 + (1 : Int)))
    else
      some (Out.go ())
def ref09_Place (bs : List T_api_Bound) (name : ByteArray) : Option Int :=
  (ref09_Place.l1 bs name FU (0 : Int)).bind fun o =>
  o.on fun j =>
  some (-1 : Int)
theorem ref09_Place_ok (bs : List T_api_Bound) (name : ByteArray) (r : Int) (hm : ref09_Place bs name = some r) :
    VC Tryz.prog 33 [.list 56 (List.map T_api_Bound.vv bs), .str name] [] (fun zx zH => zx = .int .i64 r ∧ zH = []) := by
  unfold ref09_Place at hm
  refine VC.run (c := _) (rs := [.tmp 4]) Tryz.func33 rfl rfl rfl ?_
  refine VW.seq ?_
  refine VW.region ?_
  refine VR.p rfl rfl (VP.assign rfl) ?_
  refine VR.nil ?_
  refine VW.seq ?_
  refine VW.seq ?_
  refine VW.region ?_
  refine VR.p rfl rfl (VP.assign rfl) ?_
  refine VR.nil ?_
  obtain ⟨o, h1, h2⟩ := bnd hm
  refine VW.joinE (fun (q : Unit) => o = Out.go q) (fun (j : Unit) (gg : Unit) => []) (fun (j : Unit) (gg : Unit) => []) ?_ ?_
  · have hm := h1
    refine VW.block (VW.loop FU ?_)
    refine VL.fuelS (R := _) (fun zn (zs : Int) => ref09_Place.l1 bs name zn zs) (fun (zs : Int) (zg : Unit) => [(0, .list 56 (List.map T_api_Bound.vv bs)), (1, .str name), (5, .int .i64 zs)]) (fun (zs : Int) (zg : Unit) => []) (0 : Int) () (fun zs => rfl) (Shift.pick [] rfl ⟨rfl, rfl, rfl, trivial⟩) h1 ?_
    rintro n i2 _ hm
    rw [ref09_Place.l1] at hm
    refine VW.seq ?_
    refine VW.seq ?_
    refine VW.region ?_
    refine VR.p rfl rfl (VP.move rfl) ?_
    refine VR.p rfl rfl (VP.move rfl) ?_
    refine VR.p rfl rfl (VP.lenT T_api_Bound.vv rfl Tryz.underlying23) ?_
    refine VR.p rfl rfl (VP.arith rfl rfl rfl) ?_
    refine VR.nil ?_
    rcases ite_or hm with ⟨h3, hm⟩ | ⟨h3, hm⟩
    · refine VW.condT rfl h3 ?_
      refine VW.skip ?_
      refine VW.seq ?_
      refine VW.block ?_
      refine VW.seq ?_
      refine VW.region ?_
      refine VR.p rfl rfl (VP.move rfl) ?_
      refine VR.p rfl rfl (VP.move rfl) ?_
      obtain ⟨x, h4, hm⟩ := bnd hm
      refine VR.p rfl rfl (VP.glE T_api_Bound.vv rfl rfl el23 h4) ?_
      refine VR.p rfl rfl (VP.fieldE rfl fa56_0) ?_
      refine VR.p rfl rfl (VP.fieldE rfl fa31_0) ?_
      refine VR.p rfl rfl (VP.loadE rfl ld9 rfl) ?_
      refine VR.p rfl rfl (VP.move rfl) ?_
      refine VR.p rfl rfl (VP.strop rfl rfl rfl) ?_
      refine VR.nil ?_
      rcases ite_or hm with ⟨h5, hm⟩ | ⟨h5, hm⟩
      · refine VW.condT rfl h5 ?_
        refine VW.seq ?_
        refine VW.region ?_
        refine VR.p rfl rfl (VP.move rfl) ?_
        refine VR.p rfl rfl (VP.assign rfl) ?_
        refine VR.nil ?_
        obtain rfl := Option.some.inj hm
        have hm := Out.ret_on h2
        obtain rfl := Option.some.inj hm
        exact VW.ret ⟨.inl rfl, _, .cons (.tmp _ _ rfl) .nil, [], _, rfl, rfl, rfl⟩
      · have h5 := bf h5
        refine VW.condF rfl h5 ?_
        refine VW.skip ?_
        refine VW.region ?_
        refine VR.p rfl rfl (VP.move rfl) ?_
        refine VR.p rfl rfl (VP.arith rfl rfl rfl) ?_
        refine VR.p rfl rfl (VP.assign rfl) ?_
        refine VR.nil ?_
        exact ⟨(IntKind.i64.wrap (i2 + (1 : Int))), (), hm, (Shift.pick [] rfl ⟨rfl, rfl, rfl, trivial⟩)⟩
    · have h3 := bf h3
      refine VW.condF rfl h3 ?_
      refine VW.exit ?_
      exact ⟨(), (), (Option.some.inj hm).symm, (Shift.pick [] rfl trivial)⟩
  · rintro j _ rfl
    have hm := Out.go_on h2
    refine VW.seq ?_
    refine VW.region ?_
    refine VR.p rfl rfl (VP.assign rfl) ?_
    refine VR.nil ?_
    obtain rfl := Option.some.inj hm
    exact VW.ret ⟨.inl rfl, _, .cons (.tmp _ _ rfl) .nil, [], _, rfl, rfl, rfl⟩

/-! trireme/triremeref09.Check -/
def ref09_Check.l1 (ms : List T_api_Machine) : Nat → Int → Option (Out Int Unit)
  | 0, _ => none
  | n + 1, i2 =>
    if (decide (i2 < (ms.length : Int))) = true then
      (V.gl ms i2).bind fun x =>
      (if (V.seq x.Name (⟨#[]⟩ : ByteArray)) = true then some true else (V.gl ms i2).bind fun x2 =>
      (ref07_RightMachine x2).bind fun r =>
      some (!r)).bind fun c =>
      if c = true then
        some (Out.ret (12 : Int))
      else
        ref09_Check.l1 ms n (IntKind.i64.wrap (i2 + (1 : Int)))
    else
      some (Out.go ())
def ref09_Check.l2 (bs : List T_api_Bound) : Nat → Int → Option (Out Int Unit)
  | 0, _ => none
  | n2 + 1, i4 =>
    if (decide (i4 < (bs.length : Int))) = true then
      (V.gl bs i4).bind fun x3 =>
      (ref07_RightPod x3.Pod).bind fun r2 =>
      if (!r2) = true then
        some (Out.ret (12 : Int))
      else
        ref09_Check.l2 bs n2 (IntKind.i64.wrap (i4 + (1 : Int)))
    else
      some (Out.go ())
def ref09_Check.l3 (ms : List T_api_Machine) : Nat → Int → Option (Out Int Unit)
  | 0, _ => none
  | n3 + 1, i6 =>
    if (decide (i6 < (ms.length : Int))) = true then
      (V.gl ms i6).bind fun x4 =>
      (ref09_Find ms x4.Name).bind fun r3 =>
      if (r3 != i6) = true then
        some (Out.ret (15 : Int))
      else
        ref09_Check.l3 ms n3 (IntKind.i64.wrap (i6 + (1 : Int)))
    else
      some (Out.go ())
def ref09_Check.l4 (bs : List T_api_Bound) : Nat → Int → Option (Out Int Unit)
  | 0, _ => none
  | n4 + 1, i8 =>
    if (decide (i8 < (bs.length : Int))) = true then
      (V.gl bs i8).bind fun x5 =>
      (ref09_Place bs x5.Pod.Name).bind fun r4 =>
      if (r4 != i8) = true then
        some (Out.ret (15 : Int))
      else
        ref09_Check.l4 bs n4 (IntKind.i64.wrap (i8 + (1 : Int)))
    else
      some (Out.go ())
def ref09_Check.l5 (ms : List T_api_Machine) (bs : List T_api_Bound) : Nat → Int → Option (Out Int Unit)
  | 0, _ => none
  | n5 + 1, i10 =>
    if (decide (i10 < (bs.length : Int))) = true then
      (V.gl bs i10).bind fun x6 =>
      (if (!(V.seq x6.On (⟨#[]⟩ : ByteArray))) = true then (V.gl bs i10).bind fun x7 =>
      (ref09_Find ms x7.On).bind fun r5 =>
      some (decide (r5 < (0 : Int))) else some false).bind fun c2 =>
      if c2 = true then
        some (Out.ret (16 : Int))
      else
        ref09_Check.l5 ms bs n5 (IntKind.i64.wrap (i10 + (1 : Int)))
    else
      some (Out.go ())
def ref09_Check (ms : List T_api_Machine) (bs : List T_api_Bound) : Option Int :=
  if ((decide ((ms.length : Int) > (200 : Int))) || (decide ((bs.length : Int) > (400 : Int)))) = true then
    some (7 : Int)
  else
    (ref09_Check.l1 ms FU (0 : Int)).bind fun o =>
    o.on fun j =>
    (ref09_Check.l2 bs FU (0 : Int)).bind fun o2 =>
    o2.on fun j2 =>
    (ref09_Check.l3 ms FU (0 : Int)).bind fun o3 =>
    o3.on fun j3 =>
    (ref09_Check.l4 bs FU (0 : Int)).bind fun o4 =>
    o4.on fun j4 =>
    (ref09_Check.l5 ms bs FU (0 : Int)).bind fun o5 =>
    o5.on fun j5 =>
    some (0 : Int)
theorem ref09_Check_ok (ms : List T_api_Machine) (bs : List T_api_Bound) (r : Int) (hm : ref09_Check ms bs = some r) :
    VC Tryz.prog 17 [.list 37 (List.map T_api_Machine.vv ms), .list 56 (List.map T_api_Bound.vv bs)] [] (fun zx zH => zx = .int .i64 r ∧ zH = []) := by
  unfold ref09_Check at hm
  refine VC.run (c := _) (rs := [.tmp 4]) Tryz.func17 rfl rfl rfl ?_
  refine VW.seq ?_
  refine VW.region ?_
  refine VR.p rfl rfl (VP.assign rfl) ?_
  refine VR.nil ?_
  refine VW.seq ?_
  refine VW.seq ?_
  refine VW.region ?_
  refine VR.p rfl rfl (VP.move rfl) ?_
  refine VR.p rfl rfl (VP.lenT T_api_Machine.vv rfl Tryz.underlying22) ?_
  refine VR.p rfl rfl (VP.arith rfl rfl rfl) ?_
  refine VR.p rfl rfl (VP.move rfl) ?_
  refine VR.sc 4 17 (.bool ((decide ((ms.length : Int) > (200 : Int))) || (decide ((bs.length : Int) > (400 : Int))))) (fun K' J => ?_) ?_
  · rcases Bool.eq_false_or_eq_true (decide ((ms.length : Int) > (200 : Int))) with h1 | h1
    · refine VR.skipG rfl rfl rfl rfl h1 ?_
      refine VR.skipG rfl rfl rfl rfl h1 ?_
      refine VR.skipG rfl rfl rfl rfl h1 ?_
      refine VR.p rfl rfl (VP.pickB true rfl h1 rfl) ?_
      exact J [_, _, _] _ rfl (orT h1)
    · refine VR.pG rfl rfl rfl rfl h1 (VP.move rfl) ?_
      refine VR.pG rfl rfl rfl rfl h1 (VP.lenT T_api_Bound.vv rfl Tryz.underlying23) ?_
      refine VR.pG rfl rfl rfl rfl h1 (VP.arith rfl rfl rfl) ?_
      refine VR.p rfl rfl (VP.pickB false rfl h1 rfl) ?_
      exact J [_, _, _] _ rfl (orF h1)
  · refine VR.nil ?_
    rcases ite_or hm with ⟨h2, hm⟩ | ⟨h2, hm⟩
    · refine VW.condT rfl h2 ?_
      refine VW.seq ?_
      refine VW.region ?_
      refine VR.p rfl rfl (VP.assign rfl) ?_
      refine VR.nil ?_
      obtain rfl := Option.some.inj hm
      exact VW.ret ⟨.inl rfl, _, .cons (.tmp _ _ rfl) .nil, [], _, rfl, rfl, rfl⟩
    · have h2 := bf h2
      refine VW.condF rfl h2 ?_
      refine VW.skip ?_
      refine VW.seq ?_
      refine VW.seq ?_
      refine VW.region ?_
      refine VR.p rfl rfl (VP.assign rfl) ?_
      refine VR.nil ?_
      obtain ⟨o, h3, h4⟩ := bnd hm
      refine VW.joinE (fun (q : Unit) => o = Out.go q) (fun (j : Unit) (gg : Unit) => [(0, .list 37 (List.map T_api_Machine.vv ms)), (1, .list 56 (List.map T_api_Bound.vv bs))]) (fun (j : Unit) (gg : Unit) => []) ?_ ?_
      · have hm := h3
        refine VW.block (VW.loop FU ?_)
        refine VL.fuelS (R := _) (fun zn (zs : Int) => ref09_Check.l1 ms zn zs) (fun (zs : Int) (zg : Unit) => [(0, .list 37 (List.map T_api_Machine.vv ms)), (1, .list 56 (List.map T_api_Bound.vv bs)), (5, .int .i64 zs)]) (fun (zs : Int) (zg : Unit) => []) (0 : Int) () (fun zs => rfl) (Shift.pick [] rfl ⟨rfl, rfl, rfl, trivial⟩) h3 ?_
        rintro n i2 _ hm
        rw [ref09_Check.l1] at hm
        refine VW.seq ?_
        refine VW.seq ?_
        refine VW.region ?_
        refine VR.p rfl rfl (VP.move rfl) ?_
        refine VR.p rfl rfl (VP.move rfl) ?_
        refine VR.p rfl rfl (VP.lenT T_api_Machine.vv rfl Tryz.underlying22) ?_
        refine VR.p rfl rfl (VP.arith rfl rfl rfl) ?_
        refine VR.nil ?_
        rcases ite_or hm with ⟨h5, hm⟩ | ⟨h5, hm⟩
        · refine VW.condT rfl h5 ?_
          refine VW.skip ?_
          refine VW.seq ?_
          refine VW.block ?_
          refine VW.seq ?_
          refine VW.region ?_
          refine VR.p rfl rfl (VP.move rfl) ?_
          refine VR.p rfl rfl (VP.move rfl) ?_
          obtain ⟨x, h6, hm⟩ := bnd hm
          refine VR.p rfl rfl (VP.glE T_api_Machine.vv rfl rfl el22 h6) ?_
          refine VR.p rfl rfl (VP.fieldE rfl fa37_0) ?_
          refine VR.p rfl rfl (VP.loadE rfl ld9 rfl) ?_
          refine VR.p rfl rfl (VP.strop rfl rfl rfl) ?_
          refine VR.p rfl rfl (VP.move rfl) ?_
          obtain ⟨c, h11, hm⟩ := bnd hm
          refine VR.sc 7 37 (.bool c) (fun K' J => ?_) ?_
          · have hm := h11
            rcases ite_or hm with ⟨h7, hm⟩ | ⟨h7, hm⟩
            · refine VR.skipG rfl rfl rfl rfl h7 ?_
              refine VR.skipG rfl rfl rfl rfl h7 ?_
              refine VR.skipG rfl rfl rfl rfl h7 ?_
              refine VR.skipG rfl rfl rfl rfl h7 ?_
              refine VR.skipG rfl rfl rfl rfl h7 ?_
              refine VR.skipG rfl rfl rfl rfl h7 ?_
              refine VR.p rfl rfl (VP.pickB true rfl h7 rfl) ?_
              exact J [_, _, _, _, _, _] _ rfl (congrArg VV.bool (Option.some.inj hm))
            · have h7 := bf h7
              refine VR.pG rfl rfl rfl rfl h7 (VP.move rfl) ?_
              refine VR.pG rfl rfl rfl rfl h7 (VP.move rfl) ?_
              obtain ⟨x2, h8, hm⟩ := bnd hm
              refine VR.pG rfl rfl rfl rfl h7 (VP.glE T_api_Machine.vv rfl rfl el22 h8) ?_
              refine VR.pG rfl rfl rfl rfl h7 (VP.loadE rfl ld37 rfl) ?_
              obtain ⟨r, h9, hm⟩ := bnd hm
              refine VR.consG rfl rfl rfl rfl h7 (VO.callK 0 rfl fn32 rfl (ref07_RightMachine_ok x2 r h9) fun _ _ h10 => ?_)
              obtain ⟨rfl, rfl⟩ := h10
              refine VR.pG rfl rfl rfl rfl h7 (VP.not rfl) ?_
              refine VR.p rfl rfl (VP.pickB false rfl h7 rfl) ?_
              exact J [_, _, _, _, _, _] _ rfl (congrArg VV.bool (Option.some.inj hm))
          · refine VR.nil ?_
            rcases ite_or hm with ⟨h12, hm⟩ | ⟨h12, hm⟩
            · refine VW.condT rfl h12 ?_
              refine VW.seq ?_
              refine VW.region ?_
              refine VR.p rfl rfl (VP.assign rfl) ?_
              refine VR.nil ?_
              obtain rfl := Option.some.inj hm
              have hm := Out.ret_on h4
              obtain rfl := Option.some.inj hm
              exact VW.ret ⟨.inl rfl, _, .cons (.tmp _ _ rfl) .nil, [], _, rfl, rfl, rfl⟩
            · have h12 := bf h12
              refine VW.condF rfl h12 ?_
              refine VW.skip ?_
              refine VW.region ?_
              refine VR.p rfl rfl (VP.move rfl) ?_
              refine VR.p rfl rfl (VP.arith rfl rfl rfl) ?_
              refine VR.p rfl rfl (VP.assign rfl) ?_
              refine VR.nil ?_
              exact ⟨(IntKind.i64.wrap (i2 + (1 : Int))), (), hm, (Shift.pick [] rfl ⟨rfl, rfl, rfl, trivial⟩)⟩
        · have h5 := bf h5
          refine VW.condF rfl h5 ?_
          refine VW.exit ?_
          exact ⟨(), (), (Option.some.inj hm).symm, (Shift.pick [] rfl ⟨rfl, rfl, trivial⟩)⟩
      · rintro j _ rfl
        have hm := Out.go_on h4
        refine VW.seq ?_
        refine VW.seq ?_
        refine VW.region ?_
        refine VR.p rfl rfl (VP.assign rfl) ?_
        refine VR.nil ?_
        obtain ⟨o2, h13, h14⟩ := bnd hm
        refine VW.joinE (fun (q : Unit) => o2 = Out.go q) (fun (j2 : Unit) (gg : Unit) => [(0, .list 37 (List.map T_api_Machine.vv ms)), (1, .list 56 (List.map T_api_Bound.vv bs))]) (fun (j2 : Unit) (gg : Unit) => []) ?_ ?_
        · have hm := h13
          refine VW.block (VW.loop FU ?_)
          refine VL.fuelS (R := _) (fun zn (zs : Int) => ref09_Check.l2 bs zn zs) (fun (zs : Int) (zg : Unit) => [(0, .list 37 (List.map T_api_Machine.vv ms)), (1, .list 56 (List.map T_api_Bound.vv bs)), (6, .int .i64 zs)]) (fun (zs : Int) (zg : Unit) => []) (0 : Int) () (fun zs => rfl) (Shift.pick [] rfl ⟨rfl, rfl, rfl, trivial⟩) h13 ?_
          rintro n2 i4 _ hm
          rw [ref09_Check.l2] at hm
          refine VW.seq ?_
          refine VW.seq ?_
          refine VW.region ?_
          refine VR.p rfl rfl (VP.move rfl) ?_
          refine VR.p rfl rfl (VP.move rfl) ?_
          refine VR.p rfl rfl (VP.lenT T_api_Bound.vv rfl Tryz.underlying23) ?_
          refine VR.p rfl rfl (VP.arith rfl rfl rfl) ?_
          refine VR.nil ?_
          rcases ite_or hm with ⟨h15, hm⟩ | ⟨h15, hm⟩
          · refine VW.condT rfl h15 ?_
            refine VW.skip ?_
            refine VW.seq ?_
            refine VW.block ?_
            refine VW.seq ?_
            refine VW.region ?_
            refine VR.p rfl rfl (VP.move rfl) ?_
            refine VR.p rfl rfl (VP.move rfl) ?_
            obtain ⟨x3, h16, hm⟩ := bnd hm
            refine VR.p rfl rfl (VP.glE T_api_Bound.vv rfl rfl el23 h16) ?_
            refine VR.p rfl rfl (VP.fieldE rfl fa56_0) ?_
            refine VR.p rfl rfl (VP.loadE rfl ld31 rfl) ?_
            obtain ⟨r2, h17, hm⟩ := bnd hm
            refine VR.cons rfl rfl (VO.callK 0 rfl fn18 rfl (ref07_RightPod_ok x3.Pod r2 h17) fun _ _ h19 => ?_)
            obtain ⟨rfl, rfl⟩ := h19
            refine VR.p rfl rfl (VP.not rfl) ?_
            refine VR.nil ?_
            rcases ite_or hm with ⟨h18, hm⟩ | ⟨h18, hm⟩
            · refine VW.condT rfl h18 ?_
              refine VW.seq ?_
              refine VW.region ?_
              refine VR.p rfl rfl (VP.assign rfl) ?_
              refine VR.nil ?_
              obtain rfl := Option.some.inj hm
              have hm := Out.ret_on h14
              obtain rfl := Option.some.inj hm
              exact VW.ret ⟨.inl rfl, _, .cons (.tmp _ _ rfl) .nil, [], _, rfl, rfl, rfl⟩
            · have h18 := bf h18
              refine VW.condF rfl h18 ?_
              refine VW.skip ?_
              refine VW.region ?_
              refine VR.p rfl rfl (VP.move rfl) ?_
              refine VR.p rfl rfl (VP.arith rfl rfl rfl) ?_
              refine VR.p rfl rfl (VP.assign rfl) ?_
              refine VR.nil ?_
              exact ⟨(IntKind.i64.wrap (i4 + (1 : Int))), (), hm, (Shift.pick [] rfl ⟨rfl, rfl, rfl, trivial⟩)⟩
          · have h15 := bf h15
            refine VW.condF rfl h15 ?_
            refine VW.exit ?_
            exact ⟨(), (), (Option.some.inj hm).symm, (Shift.pick [] rfl ⟨rfl, rfl, trivial⟩)⟩
        · rintro j2 _ rfl
          have hm := Out.go_on h14
          refine VW.seq ?_
          refine VW.seq ?_
          refine VW.region ?_
          refine VR.p rfl rfl (VP.assign rfl) ?_
          refine VR.nil ?_
          obtain ⟨o3, h20, h21⟩ := bnd hm
          refine VW.joinE (fun (q : Unit) => o3 = Out.go q) (fun (j3 : Unit) (gg : Unit) => [(0, .list 37 (List.map T_api_Machine.vv ms)), (1, .list 56 (List.map T_api_Bound.vv bs))]) (fun (j3 : Unit) (gg : Unit) => []) ?_ ?_
          · have hm := h20
            refine VW.block (VW.loop FU ?_)
            refine VL.fuelS (R := _) (fun zn (zs : Int) => ref09_Check.l3 ms zn zs) (fun (zs : Int) (zg : Unit) => [(0, .list 37 (List.map T_api_Machine.vv ms)), (1, .list 56 (List.map T_api_Bound.vv bs)), (7, .int .i64 zs)]) (fun (zs : Int) (zg : Unit) => []) (0 : Int) () (fun zs => rfl) (Shift.pick [] rfl ⟨rfl, rfl, rfl, trivial⟩) h20 ?_
            rintro n3 i6 _ hm
            rw [ref09_Check.l3] at hm
            refine VW.seq ?_
            refine VW.seq ?_
            refine VW.region ?_
            refine VR.p rfl rfl (VP.move rfl) ?_
            refine VR.p rfl rfl (VP.move rfl) ?_
            refine VR.p rfl rfl (VP.lenT T_api_Machine.vv rfl Tryz.underlying22) ?_
            refine VR.p rfl rfl (VP.arith rfl rfl rfl) ?_
            refine VR.nil ?_
            rcases ite_or hm with ⟨h22, hm⟩ | ⟨h22, hm⟩
            · refine VW.condT rfl h22 ?_
              refine VW.skip ?_
              refine VW.seq ?_
              refine VW.block ?_
              refine VW.seq ?_
              refine VW.region ?_
              refine VR.p rfl rfl (VP.move rfl) ?_
              refine VR.p rfl rfl (VP.move rfl) ?_
              refine VR.p rfl rfl (VP.move rfl) ?_
              obtain ⟨x4, h23, hm⟩ := bnd hm
              refine VR.p rfl rfl (VP.glE T_api_Machine.vv rfl rfl el22 h23) ?_
              refine VR.p rfl rfl (VP.fieldE rfl fa37_0) ?_
              refine VR.p rfl rfl (VP.loadE rfl ld9 rfl) ?_
              obtain ⟨r3, h24, hm⟩ := bnd hm
              refine VR.cons rfl rfl (VO.callK 0 rfl fn22 rfl (ref09_Find_ok ms x4.Name r3 h24) fun _ _ h26 => ?_)
              obtain ⟨rfl, rfl⟩ := h26
              refine VR.p rfl rfl (VP.move rfl) ?_
              refine VR.p rfl rfl (VP.arith rfl rfl rfl) ?_
              refine VR.nil ?_
              rcases ite_or hm with ⟨h25, hm⟩ | ⟨h25, hm⟩
              · refine VW.condT rfl h25 ?_
                refine VW.seq ?_
                refine VW.region ?_
                refine VR.p rfl rfl (VP.assign rfl) ?_
                refine VR.nil ?_
                obtain rfl := Option.some.inj hm
                have hm := Out.ret_on h21
                obtain rfl := Option.some.inj hm
                exact VW.ret ⟨.inl rfl, _, .cons (.tmp _ _ rfl) .nil, [], _, rfl, rfl, rfl⟩
              · have h25 := bf h25
                refine VW.condF rfl h25 ?_
                refine VW.skip ?_
                refine VW.region ?_
                refine VR.p rfl rfl (VP.move rfl) ?_
                refine VR.p rfl rfl (VP.arith rfl rfl rfl) ?_
                refine VR.p rfl rfl (VP.assign rfl) ?_
                refine VR.nil ?_
                exact ⟨(IntKind.i64.wrap (i6 + (1 : Int))), (), hm, (Shift.pick [] rfl ⟨rfl, rfl, rfl, trivial⟩)⟩
            · have h22 := bf h22
              refine VW.condF rfl h22 ?_
              refine VW.exit ?_
              exact ⟨(), (), (Option.some.inj hm).symm, (Shift.pick [] rfl ⟨rfl, rfl, trivial⟩)⟩
          · rintro j3 _ rfl
            have hm := Out.go_on h21
            refine VW.seq ?_
            refine VW.seq ?_
            refine VW.region ?_
            refine VR.p rfl rfl (VP.assign rfl) ?_
            refine VR.nil ?_
            obtain ⟨o4, h27, h28⟩ := bnd hm
            refine VW.joinE (fun (q : Unit) => o4 = Out.go q) (fun (j4 : Unit) (gg : Unit) => [(0, .list 37 (List.map T_api_Machine.vv ms)), (1, .list 56 (List.map T_api_Bound.vv bs))]) (fun (j4 : Unit) (gg : Unit) => []) ?_ ?_
            · have hm := h27
              refine VW.block (VW.loop FU ?_)
              refine VL.fuelS (R := _) (fun zn (zs : Int) => ref09_Check.l4 bs zn zs) (fun (zs : Int) (zg : Unit) => [(0, .list 37 (List.map T_api_Machine.vv ms)), (1, .list 56 (List.map T_api_Bound.vv bs)), (8, .int .i64 zs)]) (fun (zs : Int) (zg : Unit) => []) (0 : Int) () (fun zs => rfl) (Shift.pick [] rfl ⟨rfl, rfl, rfl, trivial⟩) h27 ?_
              rintro n4 i8 _ hm
              rw [ref09_Check.l4] at hm
              refine VW.seq ?_
              refine VW.seq ?_
              refine VW.region ?_
              refine VR.p rfl rfl (VP.move rfl) ?_
              refine VR.p rfl rfl (VP.move rfl) ?_
              refine VR.p rfl rfl (VP.lenT T_api_Bound.vv rfl Tryz.underlying23) ?_
              refine VR.p rfl rfl (VP.arith rfl rfl rfl) ?_
              refine VR.nil ?_
              rcases ite_or hm with ⟨h29, hm⟩ | ⟨h29, hm⟩
              · refine VW.condT rfl h29 ?_
                refine VW.skip ?_
                refine VW.seq ?_
                refine VW.block ?_
                refine VW.seq ?_
                refine VW.region ?_
                refine VR.p rfl rfl (VP.move rfl) ?_
                refine VR.p rfl rfl (VP.move rfl) ?_
                refine VR.p rfl rfl (VP.move rfl) ?_
                obtain ⟨x5, h30, hm⟩ := bnd hm
                refine VR.p rfl rfl (VP.glE T_api_Bound.vv rfl rfl el23 h30) ?_
                refine VR.p rfl rfl (VP.fieldE rfl fa56_0) ?_
                refine VR.p rfl rfl (VP.fieldE rfl fa31_0) ?_
                refine VR.p rfl rfl (VP.loadE rfl ld9 rfl) ?_
                obtain ⟨r4, h31, hm⟩ := bnd hm
                refine VR.cons rfl rfl (VO.callK 0 rfl fn33 rfl (ref09_Place_ok bs x5.Pod.Name r4 h31) fun _ _ h33 => ?_)
                obtain ⟨rfl, rfl⟩ := h33
                refine VR.p rfl rfl (VP.move rfl) ?_
                refine VR.p rfl rfl (VP.arith rfl rfl rfl) ?_
                refine VR.nil ?_
                rcases ite_or hm with ⟨h32, hm⟩ | ⟨h32, hm⟩
                · refine VW.condT rfl h32 ?_
                  refine VW.seq ?_
                  refine VW.region ?_
                  refine VR.p rfl rfl (VP.assign rfl) ?_
                  refine VR.nil ?_
                  obtain rfl := Option.some.inj hm
                  have hm := Out.ret_on h28
                  obtain rfl := Option.some.inj hm
                  exact VW.ret ⟨.inl rfl, _, .cons (.tmp _ _ rfl) .nil, [], _, rfl, rfl, rfl⟩
                · have h32 := bf h32
                  refine VW.condF rfl h32 ?_
                  refine VW.skip ?_
                  refine VW.region ?_
                  refine VR.p rfl rfl (VP.move rfl) ?_
                  refine VR.p rfl rfl (VP.arith rfl rfl rfl) ?_
                  refine VR.p rfl rfl (VP.assign rfl) ?_
                  refine VR.nil ?_
                  exact ⟨(IntKind.i64.wrap (i8 + (1 : Int))), (), hm, (Shift.pick [] rfl ⟨rfl, rfl, rfl, trivial⟩)⟩
              · have h29 := bf h29
                refine VW.condF rfl h29 ?_
                refine VW.exit ?_
                exact ⟨(), (), (Option.some.inj hm).symm, (Shift.pick [] rfl ⟨rfl, rfl, trivial⟩)⟩
            · rintro j4 _ rfl
              have hm := Out.go_on h28
              refine VW.seq ?_
              refine VW.seq ?_
              refine VW.region ?_
              refine VR.p rfl rfl (VP.assign rfl) ?_
              refine VR.nil ?_
              obtain ⟨o5, h34, h35⟩ := bnd hm
              refine VW.joinE (fun (q : Unit) => o5 = Out.go q) (fun (j5 : Unit) (gg : Unit) => []) (fun (j5 : Unit) (gg : Unit) => []) ?_ ?_
              · have hm := h34
                refine VW.block (VW.loop FU ?_)
                refine VL.fuelS (R := _) (fun zn (zs : Int) => ref09_Check.l5 ms bs zn zs) (fun (zs : Int) (zg : Unit) => [(0, .list 37 (List.map T_api_Machine.vv ms)), (1, .list 56 (List.map T_api_Bound.vv bs)), (9, .int .i64 zs)]) (fun (zs : Int) (zg : Unit) => []) (0 : Int) () (fun zs => rfl) (Shift.pick [] rfl ⟨rfl, rfl, rfl, trivial⟩) h34 ?_
                rintro n5 i10 _ hm
                rw [ref09_Check.l5] at hm
                refine VW.seq ?_
                refine VW.seq ?_
                refine VW.region ?_
                refine VR.p rfl rfl (VP.move rfl) ?_
                refine VR.p rfl rfl (VP.move rfl) ?_
                refine VR.p rfl rfl (VP.lenT T_api_Bound.vv rfl Tryz.underlying23) ?_
                refine VR.p rfl rfl (VP.arith rfl rfl rfl) ?_
                refine VR.nil ?_
                rcases ite_or hm with ⟨h36, hm⟩ | ⟨h36, hm⟩
                · refine VW.condT rfl h36 ?_
                  refine VW.skip ?_
                  refine VW.seq ?_
                  refine VW.block ?_
                  refine VW.seq ?_
                  refine VW.region ?_
                  refine VR.p rfl rfl (VP.move rfl) ?_
                  refine VR.p rfl rfl (VP.move rfl) ?_
                  obtain ⟨x6, h37, hm⟩ := bnd hm
                  refine VR.p rfl rfl (VP.glE T_api_Bound.vv rfl rfl el23 h37) ?_
                  refine VR.p rfl rfl (VP.fieldE rfl fa56_1) ?_
                  refine VR.p rfl rfl (VP.loadE rfl ld9 rfl) ?_
                  refine VR.p rfl rfl (VP.strop rfl rfl rfl) ?_
                  refine VR.p rfl rfl (VP.move rfl) ?_
                  obtain ⟨c2, h42, hm⟩ := bnd hm
                  refine VR.sc 9 103 (.bool c2) (fun K' J => ?_) ?_
                  · have hm := h42
                    rcases ite_or hm with ⟨h38, hm⟩ | ⟨h38, hm⟩
                    · refine VR.pG rfl rfl rfl rfl h38 (VP.move rfl) ?_
                      refine VR.pG rfl rfl rfl rfl h38 (VP.move rfl) ?_
                      refine VR.pG rfl rfl rfl rfl h38 (VP.move rfl) ?_
                      obtain ⟨x7, h39, hm⟩ := bnd hm
                      refine VR.pG rfl rfl rfl rfl h38 (VP.glE T_api_Bound.vv rfl rfl el23 h39) ?_
                      refine VR.pG rfl rfl rfl rfl h38 (VP.fieldE rfl fa56_1) ?_
                      refine VR.pG rfl rfl rfl rfl h38 (VP.loadE rfl ld9 rfl) ?_
                      obtain ⟨r5, h40, hm⟩ := bnd hm
                      refine VR.consG rfl rfl rfl rfl h38 (VO.callK 0 rfl fn22 rfl (ref09_Find_ok ms x7.On r5 h40) fun _ _ h41 => ?_)
                      obtain ⟨rfl, rfl⟩ := h41
                      refine VR.pG rfl rfl rfl rfl h38 (VP.arith rfl rfl rfl) ?_
                      refine VR.p rfl rfl (VP.pickB true rfl h38 rfl) ?_
                      exact J [_, _, _, _, _, _, _, _] _ rfl (congrArg VV.bool (Option.some.inj hm))
                    · have h38 := bf h38
                      refine VR.skipG rfl rfl rfl rfl h38 ?_
                      refine VR.skipG rfl rfl rfl rfl h38 ?_
                      refine VR.skipG rfl rfl rfl rfl h38 ?_
                      refine VR.skipG rfl rfl rfl rfl h38 ?_
                      refine VR.skipG rfl rfl rfl rfl h38 ?_
                      refine VR.skipG rfl rfl rfl rfl h38 ?_
                      refine VR.skipG rfl rfl rfl rfl h38 ?_
                      refine VR.skipG rfl rfl rfl rfl h38 ?_
                      refine VR.p rfl rfl (VP.pickB false rfl h38 rfl) ?_
                      exact J [_, _, _, _, _, _, _, _] _ rfl (congrArg VV.bool (Option.some.inj hm))
                  · refine VR.nil ?_
                    rcases ite_or hm with ⟨h43, hm⟩ | ⟨h43, hm⟩
                    · refine VW.condT rfl h43 ?_
                      refine VW.seq ?_
                      refine VW.region ?_
                      refine VR.p rfl rfl (VP.assign rfl) ?_
                      refine VR.nil ?_
                      obtain rfl := Option.some.inj hm
                      have hm := Out.ret_on h35
                      obtain rfl := Option.some.inj hm
                      exact VW.ret ⟨.inl rfl, _, .cons (.tmp _ _ rfl) .nil, [], _, rfl, rfl, rfl⟩
                    · have h43 := bf h43
                      refine VW.condF rfl h43 ?_
                      refine VW.skip ?_
                      refine VW.region ?_
                      refine VR.p rfl rfl (VP.move rfl) ?_
                      refine VR.p rfl rfl (VP.arith rfl rfl rfl) ?_
                      refine VR.p rfl rfl (VP.assign rfl) ?_
                      refine VR.nil ?_
                      exact ⟨(IntKind.i64.wrap (i10 + (1 : Int))), (), hm, (Shift.pick [] rfl ⟨rfl, rfl, rfl, trivial⟩)⟩
                · have h36 := bf h36
                  refine VW.condF rfl h36 ?_
                  refine VW.exit ?_
                  exact ⟨(), (), (Option.some.inj hm).symm, (Shift.pick [] rfl trivial)⟩
              · rintro j5 _ rfl
                have hm := Out.go_on h35
                refine VW.seq ?_
                refine VW.region ?_
                refine VR.p rfl rfl (VP.assign rfl) ?_
                refine VR.nil ?_
                obtain rfl := Option.some.inj hm
                exact VW.ret ⟨.inl rfl, _, .cons (.tmp _ _ rfl) .nil, [], _, rfl, rfl, rfl⟩

/-! trireme/triremelaw12.right -/
def law12_right (ms : List T_api_Machine) (bs : List T_api_Bound) (p : T_api_Pod) : Option Bool :=
  (ref09_Light ms bs).bind fun r =>
  (if r = true then (ref07_LightPod p).bind fun r2 =>
  some r2 else some false).bind fun c =>
  (if c = true then (ref09_Check ms bs).bind fun r3 =>
  some (r3 == (0 : Int)) else some false).bind fun c2 =>
  (if c2 = true then (ref07_RightPod p).bind fun r4 =>
  some r4 else some false).bind fun c3 =>
  some c3
theorem law12_right_ok (ms : List T_api_Machine) (bs : List T_api_Bound) (p : T_api_Pod) (r : Bool) (hm : law12_right ms bs p = some r) :
    VC Tryz.prog 4 [.list 37 (List.map T_api_Machine.vv ms), .list 56 (List.map T_api_Bound.vv bs), T_api_Pod.vv p] [] (fun zx zH => zx = .bool r ∧ zH = []) := by
  unfold law12_right at hm
  refine VC.run (c := _) (rs := [.tmp 6]) Tryz.func4 rfl rfl rfl ?_
  refine VW.seq ?_
  refine VW.region ?_
  refine VR.cons rfl rfl (VO.box rfl rfl fun b => ?_)
  refine VR.p rfl rfl (VP.assign rfl) ?_
  refine VR.nil ?_
  refine VW.seq ?_
  refine VW.region ?_
  refine VR.p rfl rfl (VP.move rfl) ?_
  refine VR.p rfl rfl (VP.move rfl) ?_
  obtain ⟨r, h2, hm⟩ := bnd hm
  refine VR.cons rfl rfl (VO.callK 0 rfl fn15 rfl (ref09_Light_ok ms bs r h2) fun _ _ h15 => ?_)
  obtain ⟨rfl, rfl⟩ := h15
  refine VR.p rfl rfl (VP.move rfl) ?_
  obtain ⟨c, h6, hm⟩ := bnd hm
  refine VR.sc 3 13 (.bool c) (fun K' J => ?_) ?_
  · have hm := h6
    rcases ite_or hm with ⟨h3, hm⟩ | ⟨h3, hm⟩
    · refine VR.pG rfl rfl rfl rfl h3 (VP.loadP (i := 0) rfl rfl ld31 rfl) ?_
      obtain ⟨r2, h4, hm⟩ := bnd hm
      refine VR.consG rfl rfl rfl rfl h3 (VO.callK 0 rfl fn16 rfl (ref07_LightPod_ok p r2 h4) fun _ _ h5 => ?_)
      obtain ⟨rfl, rfl⟩ := h5
      refine VR.p rfl rfl (VP.pickB true rfl h3 rfl) ?_
      exact J [_, _] _ rfl (congrArg VV.bool (Option.some.inj hm))
    · have h3 := bf h3
      refine VR.skipG rfl rfl rfl rfl h3 ?_
      refine VR.skipG rfl rfl rfl rfl h3 ?_
      refine VR.p rfl rfl (VP.pickB false rfl h3 rfl) ?_
      exact J [_, _] _ rfl (congrArg VV.bool (Option.some.inj hm))
  · refine VR.p rfl rfl (VP.move rfl) ?_
    obtain ⟨c2, h10, hm⟩ := bnd hm
    refine VR.sc 5 19 (.bool c2) (fun K' J => ?_) ?_
    · have hm := h10
      rcases ite_or hm with ⟨h7, hm⟩ | ⟨h7, hm⟩
      · refine VR.pG rfl rfl rfl rfl h7 (VP.move rfl) ?_
        refine VR.pG rfl rfl rfl rfl h7 (VP.move rfl) ?_
        obtain ⟨r3, h8, hm⟩ := bnd hm
        refine VR.consG rfl rfl rfl rfl h7 (VO.callK 0 rfl fn17 rfl (ref09_Check_ok ms bs r3 h8) fun _ _ h9 => ?_)
        obtain ⟨rfl, rfl⟩ := h9
        refine VR.pG rfl rfl rfl rfl h7 (VP.arith rfl rfl rfl) ?_
        refine VR.p rfl rfl (VP.pickB true rfl h7 rfl) ?_
        exact J [_, _, _, _] _ rfl (congrArg VV.bool (Option.some.inj hm))
      · have h7 := bf h7
        refine VR.skipG rfl rfl rfl rfl h7 ?_
        refine VR.skipG rfl rfl rfl rfl h7 ?_
        refine VR.skipG rfl rfl rfl rfl h7 ?_
        refine VR.skipG rfl rfl rfl rfl h7 ?_
        refine VR.p rfl rfl (VP.pickB false rfl h7 rfl) ?_
        exact J [_, _, _, _] _ rfl (congrArg VV.bool (Option.some.inj hm))
    · refine VR.p rfl rfl (VP.move rfl) ?_
      obtain ⟨c3, h14, hm⟩ := bnd hm
      refine VR.sc 3 23 (.bool c3) (fun K' J => ?_) ?_
      · have hm := h14
        rcases ite_or hm with ⟨h11, hm⟩ | ⟨h11, hm⟩
        · refine VR.pG rfl rfl rfl rfl h11 (VP.loadP (i := 0) rfl rfl ld31 rfl) ?_
          obtain ⟨r4, h12, hm⟩ := bnd hm
          refine VR.consG rfl rfl rfl rfl h11 (VO.callK 0 rfl fn18 rfl (ref07_RightPod_ok p r4 h12) fun _ _ h13 => ?_)
          obtain ⟨rfl, rfl⟩ := h13
          refine VR.p rfl rfl (VP.pickB true rfl h11 rfl) ?_
          exact J [_, _] _ rfl (congrArg VV.bool (Option.some.inj hm))
        · have h11 := bf h11
          refine VR.skipG rfl rfl rfl rfl h11 ?_
          refine VR.skipG rfl rfl rfl rfl h11 ?_
          refine VR.p rfl rfl (VP.pickB false rfl h11 rfl) ?_
          exact J [_, _] _ rfl (congrArg VV.bool (Option.some.inj hm))
      · refine VR.p rfl rfl (VP.assign rfl) ?_
        refine VR.nil ?_
        obtain rfl := Option.some.inj hm
        exact VW.ret ⟨.inl rfl, _, .cons (.tmp _ _ rfl) .nil, [], _, rfl, rfl, rfl⟩

/-! trireme/fit.Put -/
def fit_Put.l1 (p : T_api_Pod) : List T_api_Bound → Nat → (List T_api_Bound) → Option (List T_api_Bound)
  | [], k, l2 => some l2
  | x :: l4, k, l2 =>
    if (!(V.seq x.Pod.Name p.Name)) = true then
      (V.ap 288 l2 [x]).bind fun l5 =>
      fit_Put.l1 p l4 (k + 1) l5
    else
      fit_Put.l1 p l4 (k + 1) l2
def fit_Put (bs : List T_api_Bound) (p : T_api_Pod) (on_ : ByteArray) : Option (List T_api_Bound) :=
  (fit_Put.l1 p bs 0 ([] : List T_api_Bound)).bind fun l32 =>
  (V.ap 288 l32 [(⟨p, on_⟩ : T_api_Bound)]).bind fun l6 =>
  some l6
theorem fit_Put_ok (bs : List T_api_Bound) (p : T_api_Pod) (on_ : ByteArray) (r : List T_api_Bound) (hm : fit_Put bs p on_ = some r) :
    VC Tryz.prog 19 [.list 56 (List.map T_api_Bound.vv bs), T_api_Pod.vv p, .str on_] [] (fun zx zH => ∃ (ob0 : Option Nat) (cap0 : Nat), zx = .sl ob0 (List.map T_api_Bound.vv r).length cap0 ∧ zH = [.row ob0 56 cap0 (List.map T_api_Bound.vv r)]) := by
  unfold fit_Put at hm
  refine VC.run (c := _) (rs := [.tmp 6]) Tryz.func19 rfl rfl rfl ?_
  refine VW.seq ?_
  refine VW.region ?_
  refine VR.cons rfl rfl (VO.box rfl rfl fun b => ?_)
  refine VR.p rfl rfl (VP.assign rfl) ?_
  refine VR.nil ?_
  refine VW.seq ?_
  refine VW.region ?_
  refine VR.p rfl rfl (VP.assign rfl) ?_
  refine VR.nil ?_
  refine VW.seq ?_
  refine VW.seq ?_
  refine VW.region ?_
  refine VR.p rfl rfl (VP.move rfl) ?_
  refine VR.p rfl rfl (VP.lenT T_api_Bound.vv rfl Tryz.underlying23) ?_
  refine VR.p rfl rfl (VP.move rfl) ?_
  refine VR.nil ?_
  refine VW.lenL 10 rfl fun h6 => ?_
  have h6 := max_map h6
  obtain ⟨o, h4, h5⟩ := bnd hm
  refine VW.joinE (fun (q : List T_api_Bound) => q = o) (fun (l32 : List T_api_Bound) (gg : Option Nat × Nat) => [(2, .str on_), (4, .ptr b 0), (7, .sl gg.1 (List.map T_api_Bound.vv l32).length gg.2)]) (fun (l32 : List T_api_Bound) (gg : Option Nat × Nat) => [.row gg.1 56 gg.2 (List.map T_api_Bound.vv l32), .box b 31 (T_api_Pod.cells p)]) ?_ ?_
  · have hm := h4
    refine VW.block (VW.loop (bs.length + 1) ?_)
    refine VL.eachS (l := bs) (R := _) (fun zl zk (zs : List T_api_Bound) => fit_Put.l1 p zl zk zs) (fun (k : Nat) (zs : List T_api_Bound) (zg : Option Nat × Nat) => [(2, .str on_), (4, .ptr b 0), (7, .sl zg.1 (List.map T_api_Bound.vv zs).length zg.2), (10, .list 56 (List.map T_api_Bound.vv bs)), (11, .int .i64 (bs.length : Int)), (12, .int .i64 (k : Int))]) (fun (k : Nat) (zs : List T_api_Bound) (zg : Option Nat × Nat) => [.row zg.1 56 zg.2 (List.map T_api_Bound.vv zs), .box b 31 (T_api_Pod.cells p)]) ([] : List T_api_Bound) (none, 0) (Shift.trans (Shift.nilRow 56) (Shift.pick [0, 0] rfl ⟨rfl, rfl, rfl, rfl, rfl, rfl, trivial⟩)) h4 ?_ ?_
    · rintro k l2 ⟨ob2, cap2⟩ hk hm
      rw [fit_Put.l1] at hm
      refine VW.seq ?_
      refine VW.region ?_
      refine VR.p rfl rfl (VP.arith rfl rfl rfl) ?_
      refine VR.nil ?_
      refine VW.seq ?_
      refine VW.condF rfl (k_end hk) ?_
      refine VW.exit ?_
      exact ⟨l2, (ob2, cap2), Option.some.inj hm, (Shift.pick [0, 0] rfl ⟨rfl, rfl, rfl, trivial⟩)⟩
    · rintro k x l4 l2 ⟨ob2, cap2⟩ h7 hm
      rw [fit_Put.l1] at hm
      refine VW.seq ?_
      refine VW.region ?_
      refine VR.p rfl rfl (VP.arith rfl rfl rfl) ?_
      refine VR.nil ?_
      refine VW.seq ?_
      refine VW.condT rfl (k_lt h7) ?_
      refine VW.skip ?_
      refine VW.seq ?_
      refine VW.block ?_
      refine VW.seq ?_
      refine VW.region ?_
      refine VR.p rfl rfl (VP.glK T_api_Bound.vv rfl rfl el23 h7) ?_
      refine VR.p rfl rfl (VP.loadE rfl ld56 rfl) ?_
      refine VR.cons rfl rfl (VO.alloc z56 fun b2 => ?_)
      refine VR.cons rfl rfl (VO.storeP (i := 0) rfl rfl rfl ld56 rfl rfl rfl ?_)
      refine VR.nil ?_
      refine VW.seq ?_
      refine VW.region ?_
      refine VR.p rfl rfl (VP.fieldP rfl fa56_0) ?_
      refine VR.p rfl rfl (VP.fieldP rfl fa31_0) ?_
      refine VR.p rfl rfl (VP.loadP (i := 0) rfl rfl ld9 rfl) ?_
      refine VR.p rfl rfl (VP.fieldP rfl fa31_0) ?_
      refine VR.p rfl rfl (VP.loadP (i := 2) rfl rfl ld9 rfl) ?_
      refine VR.p rfl rfl (VP.strop rfl rfl rfl) ?_
      refine VR.nil ?_
      rcases ite_or hm with ⟨h9, hm⟩ | ⟨h9, hm⟩
      · refine VW.condT rfl h9 ?_
        refine VW.region ?_
        refine VR.p rfl rfl (VP.move rfl) ?_
        refine VR.p rfl rfl (VP.loadP (i := 0) rfl rfl ld56 rfl) ?_
        refine VR.cons rfl rfl (VO.buildSlice ap23 rfl rfl rfl rfl rfl fun b3 => ?_)
        obtain ⟨l5, h11, hm⟩ := bnd hm
        refine VR.cons rfl rfl (VO.apT 2 T_api_Bound.vv (l := l2) (l2 := [x]) ap23 rfl rfl (sT_row 0 T_api_Bound.vv el23 rfl rfl) h11 fun ob4 cap4 => ?_)
        refine VR.p rfl rfl (VP.assign rfl) ?_
        refine VR.nil ?_
        refine VW.region ?_
        refine VR.p rfl rfl (VP.arith rfl rfl rfl) ?_
        refine VR.p rfl rfl (VP.move rfl) ?_
        refine VR.nil ?_
        exact ⟨l5, (ob4, cap4), hm, (Shift.pick [2, 2] rfl ⟨rfl, rfl, rfl, rfl, rfl, congrArg some (k_next h7 h6), trivial⟩)⟩
      · have h9 := bf h9
        refine VW.condF rfl h9 ?_
        refine VW.skip ?_
        refine VW.region ?_
        refine VR.p rfl rfl (VP.arith rfl rfl rfl) ?_
        refine VR.p rfl rfl (VP.move rfl) ?_
        refine VR.nil ?_
        exact ⟨l2, (ob2, cap2), hm, (Shift.pick [1, 1] rfl ⟨rfl, rfl, rfl, rfl, rfl, congrArg some (k_next h7 h6), trivial⟩)⟩
  · rintro l32 ⟨ob3, cap3⟩ rfl
    have hm := h5
    refine VW.seq ?_
    refine VW.region ?_
    refine VR.p rfl rfl (VP.move rfl) ?_
    refine VR.p rfl rfl (VP.loadP (i := 1) rfl rfl ld31 rfl) ?_
    refine VR.p rfl rfl (VP.move rfl) ?_
    refine VR.p rfl rfl (VP.buildP pl56 rfl rfl) ?_
    refine VR.cons rfl rfl (VO.buildSlice ap23 rfl rfl rfl rfl rfl fun b4 => ?_)
    obtain ⟨l6, h14, hm⟩ := bnd hm
    refine VR.cons rfl rfl (VO.apT 1 T_api_Bound.vv (l := l32) (l2 := [(⟨p, on_⟩ : T_api_Bound)]) ap23 rfl rfl (sT_row 0 T_api_Bound.vv el23 rfl rfl) h14 fun ob5 cap5 => ?_)
    refine VR.p rfl rfl (VP.assign rfl) ?_
    refine VR.nil ?_
    obtain rfl := Option.some.inj hm
    exact VW.ret ⟨.inl rfl, _, .cons (.tmp _ _ rfl) .nil, [1], _, rfl, ob5, cap5, rfl, rfl⟩

/-! trireme/labels.at -/
def labels_at.l1 (key : ByteArray) : List T_api_Label → Nat → Option (Out (Int × Bool) Unit)
  | [], k => some (Out.go ())
  | x :: l2, k =>
    if (!(V.slt x.Key key)) = true then
      some (Out.ret ((k : Int), (V.seq x.Key key)))
    else
      labels_at.l1 key l2 (k + 1)
def labels_at (l : List T_api_Label) (key : ByteArray) : Option (Int × Bool) :=
  (labels_at.l1 key l 0).bind fun o =>
  o.on fun j =>
  some ((l.length : Int), false)
theorem labels_at_ok (l : List T_api_Label) (key : ByteArray) (r : Int × Bool) (hm : labels_at l key = some r) :
    VC Tryz.prog 104 [.list 73 (List.map T_api_Label.vv l), .str key] [] (fun zx zH => zx = .tup [.int .i64 r.1, .bool r.2] ∧ zH = []) := by
  unfold labels_at at hm
  refine VC.run (c := _) (rs := [.tmp 4, .tmp 5]) Tryz.func104 rfl rfl rfl ?_
  refine VW.seq ?_
  refine VW.region ?_
  refine VR.p rfl rfl (VP.assign rfl) ?_
  refine VR.p rfl rfl (VP.assign rfl) ?_
  refine VR.nil ?_
  refine VW.seq ?_
  refine VW.seq ?_
  refine VW.region ?_
  refine VR.p rfl rfl (VP.move rfl) ?_
  refine VR.p rfl rfl (VP.lenT T_api_Label.vv rfl Tryz.underlying26) ?_
  refine VR.p rfl rfl (VP.move rfl) ?_
  refine VR.nil ?_
  refine VW.lenL 0 rfl fun h3 => ?_
  have h3 := max_map h3
  obtain ⟨o, h1, h2⟩ := bnd hm
  refine VW.joinE (fun (q : Unit) => o = Out.go q) (fun (j : Unit) (gg : Unit) => [(0, .list 73 (List.map T_api_Label.vv l))]) (fun (j : Unit) (gg : Unit) => []) ?_ ?_
  · have hm := h1
    refine VW.block (VW.loop (l.length + 1) ?_)
    refine VL.eachS (l := l) (R := _) (fun zl zk (zs : Unit) => labels_at.l1 key zl zk) (fun (k : Nat) (zs : Unit) (zg : Unit) => [(0, .list 73 (List.map T_api_Label.vv l)), (1, .str key), (8, .list 73 (List.map T_api_Label.vv l)), (9, .int .i64 (l.length : Int)), (10, .int .i64 (k : Int))]) (fun (k : Nat) (zs : Unit) (zg : Unit) => []) () () (Shift.pick [] rfl ⟨rfl, rfl, rfl, rfl, rfl, trivial⟩) h1 ?_ ?_
    · rintro k _ _ hk hm
      rw [labels_at.l1] at hm
      refine VW.seq ?_
      refine VW.region ?_
      refine VR.p rfl rfl (VP.arith rfl rfl rfl) ?_
      refine VR.nil ?_
      refine VW.seq ?_
      refine VW.condF rfl (k_end hk) ?_
      refine VW.exit ?_
      exact ⟨(), (), (Option.some.inj hm).symm, (Shift.pick [] rfl ⟨rfl, trivial⟩)⟩
    · rintro k x l2 _ _ h4 hm
      rw [labels_at.l1] at hm
      refine VW.seq ?_
      refine VW.region ?_
      refine VR.p rfl rfl (VP.arith rfl rfl rfl) ?_
      refine VR.nil ?_
      refine VW.seq ?_
      refine VW.condT rfl (k_lt h4) ?_
      refine VW.skip ?_
      refine VW.seq ?_
      refine VW.block ?_
      refine VW.seq ?_
      refine VW.region ?_
      refine VR.p rfl rfl (VP.move rfl) ?_
      refine VR.p rfl rfl (VP.glK T_api_Label.vv rfl rfl el26 h4) ?_
      refine VR.p rfl rfl (VP.loadE rfl ld73 rfl) ?_
      refine VR.cons rfl rfl (VO.alloc z73 fun b => ?_)
      refine VR.p rfl rfl (VP.assign rfl) ?_
      refine VR.cons rfl rfl (VO.storeP (i := 0) rfl rfl rfl ld73 rfl rfl rfl ?_)
      refine VR.nil ?_
      refine VW.seq ?_
      refine VW.region ?_
      refine VR.p rfl rfl (VP.fieldP rfl fa73_0) ?_
      refine VR.p rfl rfl (VP.loadP (i := 0) rfl rfl ld9 rfl) ?_
      refine VR.p rfl rfl (VP.move rfl) ?_
      refine VR.p rfl rfl (VP.strop rfl rfl rfl) ?_
      refine VR.nil ?_
      rcases ite_or hm with ⟨h6, hm⟩ | ⟨h6, hm⟩
      · refine VW.condT rfl h6 ?_
        refine VW.seq ?_
        refine VW.drawK 0 mixed ?_
        refine VA.p 0 rfl rfl rfl (by kernel_rfl) (VP.move rfl) ?_
        refine VA.p 1 rfl rfl rfl (by kernel_rfl) (VP.fieldP rfl fa73_0) ?_
        refine VA.p 2 rfl rfl rfl (by kernel_rfl) (VP.loadP (i := 0) rfl rfl ld9 rfl) ?_
        refine VA.p 3 rfl rfl rfl (by kernel_rfl) (VP.move rfl) ?_
        refine VA.p 4 rfl rfl rfl (by kernel_rfl) (VP.strop rfl rfl rfl) ?_
        refine VA.p 5 rfl rfl rfl (by kernel_rfl) (VP.assign rfl) ?_
        refine VA.p 6 rfl rfl rfl (by kernel_rfl) (VP.assign rfl) ?_
        refine VA.done (by kernel_rfl) ?_
        obtain rfl := Option.some.inj hm
        have hm := Out.ret_on h2
        obtain rfl := Option.some.inj hm
        exact VW.ret ⟨.inl rfl, _, .cons (.tmp _ _ rfl) (.cons (.tmp _ _ rfl) .nil), [], _, rfl, rfl, rfl⟩
      · have h6 := bf h6
        refine VW.condF rfl h6 ?_
        refine VW.skip ?_
        refine VW.region ?_
        refine VR.p rfl rfl (VP.arith rfl rfl rfl) ?_
        refine VR.p rfl rfl (VP.move rfl) ?_
        refine VR.nil ?_
        exact ⟨(), (), hm, (Shift.pick [] rfl ⟨rfl, rfl, rfl, rfl, congrArg some (k_next h4 h3), trivial⟩)⟩
  · rintro j _ rfl
    have hm := Out.go_on h2
    refine VW.seq ?_
    refine VW.region ?_
    refine VR.p rfl rfl (VP.move rfl) ?_
    refine VR.p rfl rfl (VP.lenT T_api_Label.vv rfl Tryz.underlying26) ?_
    refine VR.p rfl rfl (VP.assign rfl) ?_
    refine VR.p rfl rfl (VP.assign rfl) ?_
    refine VR.nil ?_
    obtain rfl := Option.some.inj hm
    exact VW.ret ⟨.inl rfl, _, .cons (.tmp _ _ rfl) (.cons (.tmp _ _ rfl) .nil), [], _, rfl, rfl, rfl⟩

/-! trireme/labels.Get -/
def labels_Get (l : List T_api_Label) (key : ByteArray) : Option (ByteArray × Bool) :=
  (labels_at l key).bind fun r =>
  if (!r.2) = true then
    some ((⟨#[]⟩ : ByteArray), false)
  else
    (V.gl l r.1).bind fun x =>
    some (x.Val, true)
theorem labels_Get_ok (l : List T_api_Label) (key : ByteArray) (r : ByteArray × Bool) (hm : labels_Get l key = some r) :
    VC Tryz.prog 93 [.list 73 (List.map T_api_Label.vv l), .str key] [] (fun zx zH => zx = .tup [.str r.1, .bool r.2] ∧ zH = []) := by
  unfold labels_Get at hm
  refine VC.run (c := _) (rs := [.tmp 4, .tmp 5]) Tryz.func93 rfl rfl rfl ?_
  refine VW.seq ?_
  refine VW.region ?_
  refine VR.p rfl rfl (VP.assign rfl) ?_
  refine VR.p rfl rfl (VP.assign rfl) ?_
  refine VR.nil ?_
  refine VW.seq ?_
  refine VW.region ?_
  refine VR.p rfl rfl (VP.move rfl) ?_
  refine VR.p rfl rfl (VP.move rfl) ?_
  obtain ⟨r, h1, hm⟩ := bnd hm
  refine VR.cons rfl rfl (VO.callK 0 rfl fn104 rfl (labels_at_ok l key r h1) fun _ _ h4 => ?_)
  obtain ⟨rfl, rfl⟩ := h4
  refine VR.p rfl rfl (VP.move rfl) ?_
  refine VR.p rfl rfl (VP.extract rfl rfl) ?_
  refine VR.p rfl rfl (VP.extract rfl rfl) ?_
  refine VR.p rfl rfl (VP.assign rfl) ?_
  refine VR.p rfl rfl (VP.assign rfl) ?_
  refine VR.nil ?_
  refine VW.seq ?_
  refine VW.seq ?_
  refine VW.region ?_
  refine VR.p rfl rfl (VP.move rfl) ?_
  refine VR.p rfl rfl (VP.not rfl) ?_
  refine VR.nil ?_
  rcases ite_or hm with ⟨h2, hm⟩ | ⟨h2, hm⟩
  · refine VW.condT rfl h2 ?_
    refine VW.seq ?_
    refine VW.region ?_
    refine VR.p rfl rfl (VP.assign rfl) ?_
    refine VR.p rfl rfl (VP.assign rfl) ?_
    refine VR.nil ?_
    obtain rfl := Option.some.inj hm
    exact VW.ret ⟨.inl rfl, _, .cons (.tmp _ _ rfl) (.cons (.tmp _ _ rfl) .nil), [], _, rfl, rfl, rfl⟩
  · have h2 := bf h2
    refine VW.condF rfl h2 ?_
    refine VW.skip ?_
    refine VW.seq ?_
    refine VW.region ?_
    refine VR.p rfl rfl (VP.move rfl) ?_
    refine VR.p rfl rfl (VP.move rfl) ?_
    obtain ⟨x, h3, hm⟩ := bnd hm
    refine VR.p rfl rfl (VP.glE T_api_Label.vv rfl rfl el26 h3) ?_
    refine VR.p rfl rfl (VP.fieldE rfl fa73_1) ?_
    refine VR.p rfl rfl (VP.loadE rfl ld9 rfl) ?_
    refine VR.p rfl rfl (VP.assign rfl) ?_
    refine VR.p rfl rfl (VP.assign rfl) ?_
    refine VR.nil ?_
    obtain rfl := Option.some.inj hm
    exact VW.ret ⟨.inl rfl, _, .cons (.tmp _ _ rfl) (.cons (.tmp _ _ rfl) .nil), [], _, rfl, rfl, rfl⟩

/-! trireme/labels.Has -/
def labels_Has.l1 (l : List T_api_Label) : List T_api_Label → Nat → Option (Out Bool Unit)
  | [], k => some (Out.go ())
  | x :: l2, k =>
    (labels_Get l x.Key).bind fun r =>
    if ((!r.2) || (!(V.seq r.1 x.Val))) = true then
      some (Out.ret false)
    else
      labels_Has.l1 l l2 (k + 1)
def labels_Has (l : List T_api_Label) (some_ : List T_api_Label) : Option Bool :=
  (labels_Has.l1 l some_ 0).bind fun o =>
  o.on fun j =>
  some true
theorem labels_Has_ok (l : List T_api_Label) (some_ : List T_api_Label) (r : Bool) (hm : labels_Has l some_ = some r) :
    VC Tryz.prog 75 [.list 73 (List.map T_api_Label.vv l), .list 73 (List.map T_api_Label.vv some_)] [] (fun zx zH => zx = .bool r ∧ zH = []) := by
  unfold labels_Has at hm
  refine VC.run (c := _) (rs := [.tmp 4]) Tryz.func75 rfl rfl rfl ?_
  refine VW.seq ?_
  refine VW.region ?_
  refine VR.p rfl rfl (VP.assign rfl) ?_
  refine VR.nil ?_
  refine VW.seq ?_
  refine VW.seq ?_
  refine VW.region ?_
  refine VR.p rfl rfl (VP.move rfl) ?_
  refine VR.p rfl rfl (VP.lenT T_api_Label.vv rfl Tryz.underlying26) ?_
  refine VR.p rfl rfl (VP.move rfl) ?_
  refine VR.nil ?_
  refine VW.lenL 9 rfl fun h3 => ?_
  have h3 := max_map h3
  obtain ⟨o, h1, h2⟩ := bnd hm
  refine VW.joinE (fun (q : Unit) => o = Out.go q) (fun (j : Unit) (gg : Unit) => []) (fun (j : Unit) (gg : Unit) => []) ?_ ?_
  · have hm := h1
    refine VW.block (VW.loop (some_.length + 1) ?_)
    refine VL.eachS (l := some_) (R := _) (fun zl zk (zs : Unit) => labels_Has.l1 l zl zk) (fun (k : Nat) (zs : Unit) (zg : Unit) => [(0, .list 73 (List.map T_api_Label.vv l)), (9, .list 73 (List.map T_api_Label.vv some_)), (10, .int .i64 (some_.length : Int)), (11, .int .i64 (k : Int))]) (fun (k : Nat) (zs : Unit) (zg : Unit) => []) () () (Shift.pick [] rfl ⟨rfl, rfl, rfl, rfl, trivial⟩) h1 ?_ ?_
    · rintro k _ _ hk hm
      rw [labels_Has.l1] at hm
      refine VW.seq ?_
      refine VW.region ?_
      refine VR.p rfl rfl (VP.arith rfl rfl rfl) ?_
      refine VR.nil ?_
      refine VW.seq ?_
      refine VW.condF rfl (k_end hk) ?_
      refine VW.exit ?_
      exact ⟨(), (), (Option.some.inj hm).symm, (Shift.pick [] rfl trivial)⟩
    · rintro k x l2 _ _ h4 hm
      rw [labels_Has.l1] at hm
      refine VW.seq ?_
      refine VW.region ?_
      refine VR.p rfl rfl (VP.arith rfl rfl rfl) ?_
      refine VR.nil ?_
      refine VW.seq ?_
      refine VW.condT rfl (k_lt h4) ?_
      refine VW.skip ?_
      refine VW.seq ?_
      refine VW.block ?_
      refine VW.seq ?_
      refine VW.region ?_
      refine VR.p rfl rfl (VP.glK T_api_Label.vv rfl rfl el26 h4) ?_
      refine VR.p rfl rfl (VP.loadE rfl ld73 rfl) ?_
      refine VR.cons rfl rfl (VO.alloc z73 fun b => ?_)
      refine VR.cons rfl rfl (VO.storeP (i := 0) rfl rfl rfl ld73 rfl rfl rfl ?_)
      refine VR.nil ?_
      refine VW.seq ?_
      refine VW.region ?_
      refine VR.p rfl rfl (VP.move rfl) ?_
      refine VR.p rfl rfl (VP.fieldP rfl fa73_0) ?_
      refine VR.p rfl rfl (VP.loadP (i := 0) rfl rfl ld9 rfl) ?_
      obtain ⟨r, h6, hm⟩ := bnd hm
      refine VR.cons rfl rfl (VO.callK 0 rfl fn93 rfl (labels_Get_ok l x.Key r h6) fun _ _ h9 => ?_)
      obtain ⟨rfl, rfl⟩ := h9
      refine VR.p rfl rfl (VP.move rfl) ?_
      refine VR.p rfl rfl (VP.extract rfl rfl) ?_
      refine VR.p rfl rfl (VP.extract rfl rfl) ?_
      refine VR.p rfl rfl (VP.assign rfl) ?_
      refine VR.p rfl rfl (VP.assign rfl) ?_
      refine VR.nil ?_
      refine VW.seq ?_
      refine VW.region ?_
      refine VR.p rfl rfl (VP.move rfl) ?_
      refine VR.p rfl rfl (VP.not rfl) ?_
      refine VR.p rfl rfl (VP.move rfl) ?_
      refine VR.sc 5 29 (.bool ((!r.2) || (!(V.seq r.1 x.Val)))) (fun K' J => ?_) ?_
      · rcases Bool.eq_false_or_eq_true (!r.2) with h7 | h7
        · refine VR.skipG rfl rfl rfl rfl h7 ?_
          refine VR.skipG rfl rfl rfl rfl h7 ?_
          refine VR.skipG rfl rfl rfl rfl h7 ?_
          refine VR.skipG rfl rfl rfl rfl h7 ?_
          refine VR.p rfl rfl (VP.pickB true rfl h7 rfl) ?_
          exact J [_, _, _, _] _ rfl (orT h7)
        · refine VR.pG rfl rfl rfl rfl h7 (VP.move rfl) ?_
          refine VR.pG rfl rfl rfl rfl h7 (VP.fieldP rfl fa73_1) ?_
          refine VR.pG rfl rfl rfl rfl h7 (VP.loadP (i := 0) rfl rfl ld9 rfl) ?_
          refine VR.pG rfl rfl rfl rfl h7 (VP.strop rfl rfl rfl) ?_
          refine VR.p rfl rfl (VP.pickB false rfl h7 rfl) ?_
          exact J [_, _, _, _] _ rfl (orF h7)
      · refine VR.nil ?_
        rcases ite_or hm with ⟨h8, hm⟩ | ⟨h8, hm⟩
        · refine VW.condT rfl h8 ?_
          refine VW.seq ?_
          refine VW.region ?_
          refine VR.p rfl rfl (VP.assign rfl) ?_
          refine VR.nil ?_
          obtain rfl := Option.some.inj hm
          have hm := Out.ret_on h2
          obtain rfl := Option.some.inj hm
          exact VW.ret ⟨.inl rfl, _, .cons (.tmp _ _ rfl) .nil, [], _, rfl, rfl, rfl⟩
        · have h8 := bf h8
          refine VW.condF rfl h8 ?_
          refine VW.skip ?_
          refine VW.region ?_
          refine VR.p rfl rfl (VP.arith rfl rfl rfl) ?_
          refine VR.p rfl rfl (VP.move rfl) ?_
          refine VR.nil ?_
          exact ⟨(), (), hm, (Shift.pick [] rfl ⟨rfl, rfl, rfl, congrArg some (k_next h4 h3), trivial⟩)⟩
  · rintro j _ rfl
    have hm := Out.go_on h2
    refine VW.seq ?_
    refine VW.region ?_
    refine VR.p rfl rfl (VP.assign rfl) ?_
    refine VR.nil ?_
    obtain rfl := Option.some.inj hm
    exact VW.ret ⟨.inl rfl, _, .cons (.tmp _ _ rfl) .nil, [], _, rfl, rfl, rfl⟩

/-! trireme/labels.among -/
def labels_among.l1 (s : ByteArray) : List ByteArray → Nat → Option (Out Bool Unit)
  | [], k => some (Out.go ())
  | x :: l2, k =>
    if (V.seq x s) = true then
      some (Out.ret true)
    else
      labels_among.l1 s l2 (k + 1)
def labels_among (l : List ByteArray) (s : ByteArray) : Option Bool :=
  (labels_among.l1 s l 0).bind fun o =>
  o.on fun j =>
  some false
theorem labels_among_ok (l : List ByteArray) (s : ByteArray) (r : Bool) (hm : labels_among l s = some r) :
    VC Tryz.prog 105 [.list 9 (List.map VV.str l), .str s] [] (fun zx zH => zx = .bool r ∧ zH = []) := by
  unfold labels_among at hm
  refine VC.run (c := _) (rs := [.tmp 4]) Tryz.func105 rfl rfl rfl ?_
  refine VW.seq ?_
  refine VW.region ?_
  refine VR.p rfl rfl (VP.assign rfl) ?_
  refine VR.nil ?_
  refine VW.seq ?_
  refine VW.seq ?_
  refine VW.region ?_
  refine VR.p rfl rfl (VP.move rfl) ?_
  refine VR.p rfl rfl (VP.lenT VV.str rfl Tryz.underlying39) ?_
  refine VR.p rfl rfl (VP.move rfl) ?_
  refine VR.nil ?_
  refine VW.lenL 7 rfl fun h3 => ?_
  have h3 := max_map h3
  obtain ⟨o, h1, h2⟩ := bnd hm
  refine VW.joinE (fun (q : Unit) => o = Out.go q) (fun (j : Unit) (gg : Unit) => []) (fun (j : Unit) (gg : Unit) => []) ?_ ?_
  · have hm := h1
    refine VW.block (VW.loop (l.length + 1) ?_)
    refine VL.eachS (l := l) (R := _) (fun zl zk (zs : Unit) => labels_among.l1 s zl zk) (fun (k : Nat) (zs : Unit) (zg : Unit) => [(1, .str s), (7, .list 9 (List.map VV.str l)), (8, .int .i64 (l.length : Int)), (9, .int .i64 (k : Int))]) (fun (k : Nat) (zs : Unit) (zg : Unit) => []) () () (Shift.pick [] rfl ⟨rfl, rfl, rfl, rfl, trivial⟩) h1 ?_ ?_
    · rintro k _ _ hk hm
      rw [labels_among.l1] at hm
      refine VW.seq ?_
      refine VW.region ?_
      refine VR.p rfl rfl (VP.arith rfl rfl rfl) ?_
      refine VR.nil ?_
      refine VW.seq ?_
      refine VW.condF rfl (k_end hk) ?_
      refine VW.exit ?_
      exact ⟨(), (), (Option.some.inj hm).symm, (Shift.pick [] rfl trivial)⟩
    · rintro k x l2 _ _ h4 hm
      rw [labels_among.l1] at hm
      refine VW.seq ?_
      refine VW.region ?_
      refine VR.p rfl rfl (VP.arith rfl rfl rfl) ?_
      refine VR.nil ?_
      refine VW.seq ?_
      refine VW.condT rfl (k_lt h4) ?_
      refine VW.skip ?_
      refine VW.seq ?_
      refine VW.block ?_
      refine VW.seq ?_
      refine VW.region ?_
      refine VR.p rfl rfl (VP.glK VV.str rfl rfl el39 h4) ?_
      refine VR.p rfl rfl (VP.loadE rfl ld9 rfl) ?_
      refine VR.p rfl rfl (VP.assign rfl) ?_
      refine VR.nil ?_
      refine VW.seq ?_
      refine VW.region ?_
      refine VR.p rfl rfl (VP.move rfl) ?_
      refine VR.p rfl rfl (VP.move rfl) ?_
      refine VR.p rfl rfl (VP.strop rfl rfl rfl) ?_
      refine VR.nil ?_
      rcases ite_or hm with ⟨h5, hm⟩ | ⟨h5, hm⟩
      · refine VW.condT rfl h5 ?_
        refine VW.seq ?_
        refine VW.region ?_
        refine VR.p rfl rfl (VP.assign rfl) ?_
        refine VR.nil ?_
        obtain rfl := Option.some.inj hm
        have hm := Out.ret_on h2
        obtain rfl := Option.some.inj hm
        exact VW.ret ⟨.inl rfl, _, .cons (.tmp _ _ rfl) .nil, [], _, rfl, rfl, rfl⟩
      · have h5 := bf h5
        refine VW.condF rfl h5 ?_
        refine VW.skip ?_
        refine VW.region ?_
        refine VR.p rfl rfl (VP.arith rfl rfl rfl) ?_
        refine VR.p rfl rfl (VP.move rfl) ?_
        refine VR.nil ?_
        exact ⟨(), (), hm, (Shift.pick [] rfl ⟨rfl, rfl, rfl, congrArg some (k_next h4 h3), trivial⟩)⟩
  · rintro j _ rfl
    have hm := Out.go_on h2
    refine VW.seq ?_
    refine VW.region ?_
    refine VR.p rfl rfl (VP.assign rfl) ?_
    refine VR.nil ?_
    obtain rfl := Option.some.inj hm
    exact VW.ret ⟨.inl rfl, _, .cons (.tmp _ _ rfl) .nil, [], _, rfl, rfl, rfl⟩

/-! trireme/quant.head -/
def quant_head.l1 (s : ByteArray) : Nat → Int → Option Int
  | 0, _ => none
  | n4 + 1, n2 =>
    (if (decide (n2 < (s.size : Int))) = true then (V.gi s n2).bind fun v =>
    some (decide (v ≥ (48 : Int))) else some false).bind fun c =>
    (if c = true then (V.gi s n2).bind fun v2 =>
    some (decide (v2 ≤ (57 : Int))) else some false).bind fun c2 =>
    if c2 = true then
      quant_head.l1 s n4 (IntKind.i64.wrap (n2 + (1 : Int)))
    else
      some n2
def quant_head (s : ByteArray) : Option Int :=
  (quant_head.l1 s FU (0 : Int)).bind fun n32 =>
  some n32
theorem quant_head_ok (s : ByteArray) (r : Int) (hm : quant_head s = some r) :
    VC Tryz.prog 122 [.str s] [] (fun zx zH => zx = .int .i64 r ∧ zH = []) := by
  unfold quant_head at hm
  refine VC.run (c := _) (rs := [.tmp 2]) Tryz.func122 rfl rfl rfl ?_
  refine VW.seq ?_
  refine VW.region ?_
  refine VR.p rfl rfl (VP.assign rfl) ?_
  refine VR.nil ?_
  refine VW.seq ?_
  refine VW.region ?_
  refine VR.p rfl rfl (VP.assign rfl) ?_
  refine VR.nil ?_
  obtain ⟨o, h1, h2⟩ := bnd hm
  refine VW.join (fun (q : Int) => q = o) (fun (n32 : Int) (gg : Unit) => [(3, .int .i64 n32)]) (fun (n32 : Int) (gg : Unit) => []) ?_ ?_
  · have hm := h1
    refine VW.block (VW.loop FU ?_)
    refine VL.fuelS (R := _) (fun zn (zs : Int) => quant_head.l1 s zn zs) (fun (zs : Int) (zg : Unit) => [(0, .str s), (3, .int .i64 zs)]) (fun (zs : Int) (zg : Unit) => []) (0 : Int) () (fun zs => rfl) (Shift.pick [] rfl ⟨rfl, rfl, trivial⟩) h1 ?_
    rintro n4 n2 _ hm
    rw [quant_head.l1] at hm
    refine VW.seq ?_
    refine VW.seq ?_
    refine VW.region ?_
    refine VR.p rfl rfl (VP.move rfl) ?_
    refine VR.p rfl rfl (VP.move rfl) ?_
    refine VR.p rfl rfl (VP.lenS rfl Tryz.underlying9) ?_
    refine VR.p rfl rfl (VP.arith rfl rfl rfl) ?_
    refine VR.p rfl rfl (VP.move rfl) ?_
    obtain ⟨c, h5, hm⟩ := bnd hm
    refine VR.sc 5 13 (.bool c) (fun K' J => ?_) ?_
    · have hm := h5
      rcases ite_or hm with ⟨h3, hm⟩ | ⟨h3, hm⟩
      · refine VR.pG rfl rfl rfl rfl h3 (VP.move rfl) ?_
        refine VR.pG rfl rfl rfl rfl h3 (VP.move rfl) ?_
        obtain ⟨v, h4, hm⟩ := bnd hm
        refine VR.pG rfl rfl rfl rfl h3 (VP.gi rfl rfl Tryz.underlying9 h4) ?_
        refine VR.pG rfl rfl rfl rfl h3 (VP.arith rfl rfl rfl) ?_
        refine VR.p rfl rfl (VP.pickB true rfl h3 rfl) ?_
        exact J [_, _, _, _] _ rfl (congrArg VV.bool (Option.some.inj hm))
      · have h3 := bf h3
        refine VR.skipG rfl rfl rfl rfl h3 ?_
        refine VR.skipG rfl rfl rfl rfl h3 ?_
        refine VR.skipG rfl rfl rfl rfl h3 ?_
        refine VR.skipG rfl rfl rfl rfl h3 ?_
        refine VR.p rfl rfl (VP.pickB false rfl h3 rfl) ?_
        exact J [_, _, _, _] _ rfl (congrArg VV.bool (Option.some.inj hm))
    · refine VR.p rfl rfl (VP.move rfl) ?_
      obtain ⟨c2, h8, hm⟩ := bnd hm
      refine VR.sc 5 19 (.bool c2) (fun K' J => ?_) ?_
      · have hm := h8
        rcases ite_or hm with ⟨h6, hm⟩ | ⟨h6, hm⟩
        · refine VR.pG rfl rfl rfl rfl h6 (VP.move rfl) ?_
          refine VR.pG rfl rfl rfl rfl h6 (VP.move rfl) ?_
          obtain ⟨v2, h7, hm⟩ := bnd hm
          refine VR.pG rfl rfl rfl rfl h6 (VP.gi rfl rfl Tryz.underlying9 h7) ?_
          refine VR.pG rfl rfl rfl rfl h6 (VP.arith rfl rfl rfl) ?_
          refine VR.p rfl rfl (VP.pickB true rfl h6 rfl) ?_
          exact J [_, _, _, _] _ rfl (congrArg VV.bool (Option.some.inj hm))
        · have h6 := bf h6
          refine VR.skipG rfl rfl rfl rfl h6 ?_
          refine VR.skipG rfl rfl rfl rfl h6 ?_
          refine VR.skipG rfl rfl rfl rfl h6 ?_
          refine VR.skipG rfl rfl rfl rfl h6 ?_
          refine VR.p rfl rfl (VP.pickB false rfl h6 rfl) ?_
          exact J [_, _, _, _] _ rfl (congrArg VV.bool (Option.some.inj hm))
      · refine VR.nil ?_
        rcases ite_or hm with ⟨h9, hm⟩ | ⟨h9, hm⟩
        · refine VW.condT rfl h9 ?_
          refine VW.skip ?_
          refine VW.block ?_
          refine VW.region ?_
          refine VR.p rfl rfl (VP.move rfl) ?_
          refine VR.p rfl rfl (VP.arith rfl rfl rfl) ?_
          refine VR.p rfl rfl (VP.assign rfl) ?_
          refine VR.nil ?_
          exact ⟨(IntKind.i64.wrap (n2 + (1 : Int))), (), hm, (Shift.pick [] rfl ⟨rfl, rfl, trivial⟩)⟩
        · have h9 := bf h9
          refine VW.condF rfl h9 ?_
          refine VW.exit ?_
          exact ⟨n2, (), Option.some.inj hm, (Shift.pick [] rfl ⟨rfl, trivial⟩)⟩
  · rintro n32 _ rfl
    have hm := h2
    refine VW.seq ?_
    refine VW.region ?_
    refine VR.p rfl rfl (VP.move rfl) ?_
    refine VR.p rfl rfl (VP.assign rfl) ?_
    refine VR.nil ?_
    obtain rfl := Option.some.inj hm
    exact VW.ret ⟨.inl rfl, _, .cons (.tmp _ _ rfl) .nil, [], _, rfl, rfl, rfl⟩

/-! trireme/quant.value -/
def quant_value.l1 (s : ByteArray) (most : Int) : Nat → Int → Int → Option (Out (Int × Bool) Int)
  | 0, _, _ => none
  | n4 + 1, n2, v2 =>
    if (decide (v2 < (s.size : Int))) = true then
      (V.gi s v2).bind fun v3 =>
      (V.quo (IntKind.i64.wrap (most - (IntKind.i64.wrap (IntKind.u8.wrap (v3 - (48 : Int)))))) (10 : Int)).bind fun v4 =>
      if (decide (n2 > (IntKind.i64.wrap v4))) = true then
        some (Out.ret ((0 : Int), false))
      else
        quant_value.l1 s most n4 (IntKind.i64.wrap ((IntKind.i64.wrap ((10 : Int) * n2)) + (IntKind.i64.wrap (IntKind.u8.wrap (v3 - (48 : Int)))))) (IntKind.i64.wrap (v2 + (1 : Int)))
    else
      some (Out.go n2)
def quant_value (s : ByteArray) (most : Int) : Option (Int × Bool) :=
  (quant_value.l1 s most FU (0 : Int) (0 : Int)).bind fun o =>
  o.on fun n32 =>
  some (n32, true)
theorem quant_value_ok (s : ByteArray) (most : Int) (r : Int × Bool) (hm : quant_value s most = some r) :
    VC Tryz.prog 123 [.str s, .int .i64 most] [] (fun zx zH => zx = .tup [.int .i64 r.1, .bool r.2] ∧ zH = []) := by
  unfold quant_value at hm
  refine VC.run (c := _) (rs := [.tmp 4, .tmp 5]) Tryz.func123 rfl rfl rfl ?_
  refine VW.seq ?_
  refine VW.region ?_
  refine VR.p rfl rfl (VP.assign rfl) ?_
  refine VR.p rfl rfl (VP.assign rfl) ?_
  refine VR.nil ?_
  refine VW.seq ?_
  refine VW.region ?_
  refine VR.p rfl rfl (VP.assign rfl) ?_
  refine VR.nil ?_
  refine VW.seq ?_
  refine VW.seq ?_
  refine VW.region ?_
  refine VR.p rfl rfl (VP.move rfl) ?_
  refine VR.p rfl rfl (VP.lenS rfl Tryz.underlying9) ?_
  refine VR.p rfl rfl (VP.move rfl) ?_
  refine VR.nil ?_
  obtain ⟨o, h1, h2⟩ := bnd hm
  refine VW.joinE (fun (q : Int) => o = Out.go q) (fun (n32 : Int) (gg : Unit) => [(6, .int .i64 n32)]) (fun (n32 : Int) (gg : Unit) => []) ?_ ?_
  · have hm := h1
    refine VW.block (VW.loop FU ?_)
    refine VL.fuelS (R := _) (fun zn (zs : Int × Int) => quant_value.l1 s most zn zs.1 zs.2) (fun (zs : Int × Int) (zg : Unit) => [(0, .str s), (1, .int .i64 most), (6, .int .i64 zs.1), (10, .int .i64 (s.size : Int)), (11, .int .i64 zs.2)]) (fun (zs : Int × Int) (zg : Unit) => []) ((0 : Int), (0 : Int)) () (fun zs => rfl) (Shift.pick [] rfl ⟨rfl, rfl, rfl, rfl, rfl, trivial⟩) h1 ?_
    rintro n4 ⟨n2, v2⟩ _ hm
    rw [quant_value.l1] at hm
    refine VW.seq ?_
    refine VW.region ?_
    refine VR.p rfl rfl (VP.arith rfl rfl rfl) ?_
    refine VR.nil ?_
    refine VW.seq ?_
    rcases ite_or hm with ⟨h3, hm⟩ | ⟨h3, hm⟩
    · refine VW.condT rfl h3 ?_
      refine VW.skip ?_
      refine VW.seq ?_
      refine VW.block ?_
      refine VW.seq ?_
      refine VW.region ?_
      refine VR.p rfl rfl (VP.move rfl) ?_
      refine VR.p rfl rfl (VP.assign rfl) ?_
      refine VR.nil ?_
      refine VW.seq ?_
      refine VW.region ?_
      refine VR.p rfl rfl (VP.move rfl) ?_
      refine VR.p rfl rfl (VP.move rfl) ?_
      obtain ⟨v3, h4, hm⟩ := bnd hm
      refine VR.p rfl rfl (VP.gi rfl rfl Tryz.underlying9 h4) ?_
      refine VR.p rfl rfl (VP.arith rfl rfl rfl) ?_
      refine VR.p rfl rfl (VP.convI Tryz.underlying5 Tryz.underlying3 rfl) ?_
      refine VR.p rfl rfl (VP.assign rfl) ?_
      refine VR.nil ?_
      refine VW.seq ?_
      refine VW.seq ?_
      refine VW.region ?_
      refine VR.p rfl rfl (VP.move rfl) ?_
      refine VR.p rfl rfl (VP.move rfl) ?_
      refine VR.p rfl rfl (VP.move rfl) ?_
      refine VR.p rfl rfl (VP.arith rfl rfl rfl) ?_
      obtain ⟨v4, h5, hm⟩ := bnd hm
      refine VR.p rfl rfl (VP.quoT rfl rfl h5) ?_
      refine VR.p rfl rfl (VP.arith rfl rfl rfl) ?_
      refine VR.nil ?_
      rcases ite_or hm with ⟨h6, hm⟩ | ⟨h6, hm⟩
      · refine VW.condT rfl h6 ?_
        refine VW.seq ?_
        refine VW.region ?_
        refine VR.p rfl rfl (VP.assign rfl) ?_
        refine VR.p rfl rfl (VP.assign rfl) ?_
        refine VR.nil ?_
        obtain rfl := Option.some.inj hm
        have hm := Out.ret_on h2
        obtain rfl := Option.some.inj hm
        exact VW.ret ⟨.inl rfl, _, .cons (.tmp _ _ rfl) (.cons (.tmp _ _ rfl) .nil), [], _, rfl, rfl, rfl⟩
      · have h6 := bf h6
        refine VW.condF rfl h6 ?_
        refine VW.skip ?_
        refine VW.region ?_
        refine VR.p rfl rfl (VP.move rfl) ?_
        refine VR.p rfl rfl (VP.arith rfl rfl rfl) ?_
        refine VR.p rfl rfl (VP.move rfl) ?_
        refine VR.p rfl rfl (VP.arith rfl rfl rfl) ?_
        refine VR.p rfl rfl (VP.assign rfl) ?_
        refine VR.nil ?_
        refine VW.region ?_
        refine VR.p rfl rfl (VP.arith rfl rfl rfl) ?_
        refine VR.p rfl rfl (VP.move rfl) ?_
        refine VR.nil ?_
        exact ⟨((IntKind.i64.wrap ((IntKind.i64.wrap ((10 : Int) * n2)) + (IntKind.i64.wrap (IntKind.u8.wrap (v3 - (48 : Int)))))), (IntKind.i64.wrap (v2 + (1 : Int)))), (), hm, (Shift.pick [] rfl ⟨rfl, rfl, rfl, rfl, rfl, trivial⟩)⟩
    · have h3 := bf h3
      refine VW.condF rfl h3 ?_
      refine VW.exit ?_
      exact ⟨n2, (), (Option.some.inj hm).symm, (Shift.pick [] rfl ⟨rfl, trivial⟩)⟩
  · rintro n32 _ rfl
    have hm := Out.go_on h2
    refine VW.seq ?_
    refine VW.region ?_
    refine VR.p rfl rfl (VP.move rfl) ?_
    refine VR.p rfl rfl (VP.assign rfl) ?_
    refine VR.p rfl rfl (VP.assign rfl) ?_
    refine VR.nil ?_
    obtain rfl := Option.some.inj hm
    exact VW.ret ⟨.inl rfl, _, .cons (.tmp _ _ rfl) (.cons (.tmp _ _ rfl) .nil), [], _, rfl, rfl, rfl⟩

/-! trireme/quant.Number -/
def quant_Number (s : ByteArray) : Option (Int × Int) :=
  (if (V.seq s (⟨#[]⟩ : ByteArray)) = true then some true else (quant_head s).bind fun r =>
  some (r != (s.size : Int))).bind fun c =>
  if c = true then
    some ((0 : Int), (8 : Int))
  else
    (quant_value s (1125899906842624 : Int)).bind fun r2 =>
    if (!r2.2) = true then
      some ((0 : Int), (10 : Int))
    else
      some (r2.1, (0 : Int))
theorem quant_Number_ok (s : ByteArray) (r : Int × Int) (hm : quant_Number s = some r) :
    VC Tryz.prog 117 [.str s] [] (fun zx zH => zx = .tup [.int .i64 r.1, .int .i64 r.2] ∧ zH = []) := by
  unfold quant_Number at hm
  refine VC.run (c := _) (rs := [.tmp 2, .tmp 3]) Tryz.func117 rfl rfl rfl ?_
  refine VW.seq ?_
  refine VW.region ?_
  refine VR.p rfl rfl (VP.assign rfl) ?_
  refine VR.p rfl rfl (VP.assign rfl) ?_
  refine VR.nil ?_
  refine VW.seq ?_
  refine VW.seq ?_
  refine VW.region ?_
  refine VR.p rfl rfl (VP.move rfl) ?_
  refine VR.p rfl rfl (VP.strop rfl rfl rfl) ?_
  refine VR.p rfl rfl (VP.move rfl) ?_
  obtain ⟨c, h4, hm⟩ := bnd hm
  refine VR.sc 6 14 (.bool c) (fun K' J => ?_) ?_
  · have hm := h4
    rcases ite_or hm with ⟨h1, hm⟩ | ⟨h1, hm⟩
    · refine VR.skipG rfl rfl rfl rfl h1 ?_
      refine VR.skipG rfl rfl rfl rfl h1 ?_
      refine VR.skipG rfl rfl rfl rfl h1 ?_
      refine VR.skipG rfl rfl rfl rfl h1 ?_
      refine VR.skipG rfl rfl rfl rfl h1 ?_
      refine VR.p rfl rfl (VP.pickB true rfl h1 rfl) ?_
      exact J [_, _, _, _, _] _ rfl (congrArg VV.bool (Option.some.inj hm))
    · have h1 := bf h1
      refine VR.pG rfl rfl rfl rfl h1 (VP.move rfl) ?_
      obtain ⟨r, h2, hm⟩ := bnd hm
      refine VR.consG rfl rfl rfl rfl h1 (VO.callK 0 rfl fn122 rfl (quant_head_ok s r h2) fun _ _ h3 => ?_)
      obtain ⟨rfl, rfl⟩ := h3
      refine VR.pG rfl rfl rfl rfl h1 (VP.move rfl) ?_
      refine VR.pG rfl rfl rfl rfl h1 (VP.lenS rfl Tryz.underlying9) ?_
      refine VR.pG rfl rfl rfl rfl h1 (VP.arith rfl rfl rfl) ?_
      refine VR.p rfl rfl (VP.pickB false rfl h1 rfl) ?_
      exact J [_, _, _, _, _] _ rfl (congrArg VV.bool (Option.some.inj hm))
  · refine VR.nil ?_
    rcases ite_or hm with ⟨h5, hm⟩ | ⟨h5, hm⟩
    · refine VW.condT rfl h5 ?_
      refine VW.seq ?_
      refine VW.region ?_
      refine VR.p rfl rfl (VP.assign rfl) ?_
      refine VR.p rfl rfl (VP.assign rfl) ?_
      refine VR.nil ?_
      obtain rfl := Option.some.inj hm
      exact VW.ret ⟨.inl rfl, _, .cons (.tmp _ _ rfl) (.cons (.tmp _ _ rfl) .nil), [], _, rfl, rfl, rfl⟩
    · have h5 := bf h5
      refine VW.condF rfl h5 ?_
      refine VW.skip ?_
      refine VW.seq ?_
      refine VW.region ?_
      refine VR.p rfl rfl (VP.move rfl) ?_
      obtain ⟨r2, h6, hm⟩ := bnd hm
      refine VR.cons rfl rfl (VO.callK 0 rfl fn123 rfl (quant_value_ok s (1125899906842624 : Int) r2 h6) fun _ _ h8 => ?_)
      obtain ⟨rfl, rfl⟩ := h8
      refine VR.p rfl rfl (VP.move rfl) ?_
      refine VR.p rfl rfl (VP.extract rfl rfl) ?_
      refine VR.p rfl rfl (VP.extract rfl rfl) ?_
      refine VR.p rfl rfl (VP.assign rfl) ?_
      refine VR.p rfl rfl (VP.assign rfl) ?_
      refine VR.nil ?_
      refine VW.seq ?_
      refine VW.seq ?_
      refine VW.region ?_
      refine VR.p rfl rfl (VP.move rfl) ?_
      refine VR.p rfl rfl (VP.not rfl) ?_
      refine VR.nil ?_
      rcases ite_or hm with ⟨h7, hm⟩ | ⟨h7, hm⟩
      · refine VW.condT rfl h7 ?_
        refine VW.seq ?_
        refine VW.region ?_
        refine VR.p rfl rfl (VP.assign rfl) ?_
        refine VR.p rfl rfl (VP.assign rfl) ?_
        refine VR.nil ?_
        obtain rfl := Option.some.inj hm
        exact VW.ret ⟨.inl rfl, _, .cons (.tmp _ _ rfl) (.cons (.tmp _ _ rfl) .nil), [], _, rfl, rfl, rfl⟩
      · have h7 := bf h7
        refine VW.condF rfl h7 ?_
        refine VW.skip ?_
        refine VW.seq ?_
        refine VW.region ?_
        refine VR.p rfl rfl (VP.move rfl) ?_
        refine VR.p rfl rfl (VP.assign rfl) ?_
        refine VR.p rfl rfl (VP.assign rfl) ?_
        refine VR.nil ?_
        obtain rfl := Option.some.inj hm
        exact VW.ret ⟨.inl rfl, _, .cons (.tmp _ _ rfl) (.cons (.tmp _ _ rfl) .nil), [], _, rfl, rfl, rfl⟩

/-! trireme/labels.number -/
def labels_number (s : ByteArray) : Option (Int × Bool) :=
  (quant_Number s).bind fun r =>
  some (r.1, (r.2 == (0 : Int)))
theorem labels_number_ok (s : ByteArray) (r : Int × Bool) (hm : labels_number s = some r) :
    VC Tryz.prog 106 [.str s] [] (fun zx zH => zx = .tup [.int .i64 r.1, .bool r.2] ∧ zH = []) := by
  unfold labels_number at hm
  refine VC.run (c := _) (rs := [.tmp 2, .tmp 3]) Tryz.func106 rfl rfl rfl ?_
  refine VW.seq ?_
  refine VW.region ?_
  refine VR.p rfl rfl (VP.assign rfl) ?_
  refine VR.p rfl rfl (VP.assign rfl) ?_
  refine VR.nil ?_
  refine VW.seq ?_
  refine VW.region ?_
  refine VR.p rfl rfl (VP.move rfl) ?_
  obtain ⟨r, h1, hm⟩ := bnd hm
  refine VR.cons rfl rfl (VO.callK 0 rfl fn117 rfl (quant_Number_ok s r h1) fun _ _ h2 => ?_)
  obtain ⟨rfl, rfl⟩ := h2
  refine VR.p rfl rfl (VP.move rfl) ?_
  refine VR.p rfl rfl (VP.extract rfl rfl) ?_
  refine VR.p rfl rfl (VP.extract rfl rfl) ?_
  refine VR.p rfl rfl (VP.assign rfl) ?_
  refine VR.p rfl rfl (VP.assign rfl) ?_
  refine VR.nil ?_
  refine VW.seq ?_
  refine VW.region ?_
  refine VR.p rfl rfl (VP.move rfl) ?_
  refine VR.p rfl rfl (VP.move rfl) ?_
  refine VR.p rfl rfl (VP.arith rfl rfl rfl) ?_
  refine VR.p rfl rfl (VP.assign rfl) ?_
  refine VR.p rfl rfl (VP.assign rfl) ?_
  refine VR.nil ?_
  obtain rfl := Option.some.inj hm
  exact VW.ret ⟨.inl rfl, _, .cons (.tmp _ _ rfl) (.cons (.tmp _ _ rfl) .nil), [], _, rfl, rfl, rfl⟩

/-! trireme/labels.Meets -/
def labels_Meets (l : List T_api_Label) (t : T_api_Term) : Option Bool :=
  (labels_Get l t.Key).bind fun r =>
  if (t.Op == (1 : Int)) = true then
    (if r.2 = true then (labels_among t.Vals r.1).bind fun r2 =>
    some r2 else some false).bind fun c =>
    some c
  else
    if (t.Op == (2 : Int)) = true then
      (if (!r.2) = true then some true else (labels_among t.Vals r.1).bind fun r3 =>
      some (!r3)).bind fun c2 =>
      some c2
    else
      if (t.Op == (3 : Int)) = true then
        some r.2
      else
        if (t.Op == (4 : Int)) = true then
          some (!r.2)
        else
          if ((!r.2) || ((t.Vals.length : Int) != (1 : Int))) = true then
            some false
          else
            (labels_number r.1).bind fun r4 =>
            (V.gl t.Vals (0 : Int)).bind fun x =>
            (labels_number x).bind fun r5 =>
            if (t.Op == (6 : Int)) = true then
              some (r4.2 && (decide (r5.1 > r4.1)))
            else
              some (r4.2 && (decide (r4.1 > r5.1)))
theorem labels_Meets_ok (l : List T_api_Label) (t : T_api_Term) (r : Bool) (hm : labels_Meets l t = some r) :
    VC Tryz.prog 94 [.list 73 (List.map T_api_Label.vv l), T_api_Term.vv t] [] (fun zx zH => zx = .bool r ∧ zH = []) := by
  unfold labels_Meets at hm
  refine VC.run (c := _) (rs := [.tmp 4]) Tryz.func94 rfl rfl rfl ?_
  refine VW.seq ?_
  refine VW.region ?_
  refine VR.cons rfl rfl (VO.box rfl rfl fun b => ?_)
  refine VR.p rfl rfl (VP.assign rfl) ?_
  refine VR.nil ?_
  refine VW.seq ?_
  refine VW.region ?_
  refine VR.p rfl rfl (VP.move rfl) ?_
  refine VR.p rfl rfl (VP.fieldP rfl fa62_0) ?_
  refine VR.p rfl rfl (VP.loadP (i := 0) rfl rfl ld9 rfl) ?_
  obtain ⟨r, h2, hm⟩ := bnd hm
  refine VR.cons rfl rfl (VO.callK 0 rfl fn93 rfl (labels_Get_ok l t.Key r h2) fun _ _ h25 => ?_)
  obtain ⟨rfl, rfl⟩ := h25
  refine VR.p rfl rfl (VP.move rfl) ?_
  refine VR.p rfl rfl (VP.extract rfl rfl) ?_
  refine VR.p rfl rfl (VP.extract rfl rfl) ?_
  refine VR.p rfl rfl (VP.assign rfl) ?_
  refine VR.p rfl rfl (VP.assign rfl) ?_
  refine VR.nil ?_
  refine VW.seq ?_
  refine VW.seq ?_
  refine VW.region ?_
  refine VR.p rfl rfl (VP.fieldP rfl fa62_1) ?_
  refine VR.p rfl rfl (VP.loadP (i := 0) rfl rfl ld3 rfl) ?_
  refine VR.nil ?_
  refine VW.block ?_
  refine VW.seq ?_
  refine VW.region ?_
  refine VR.p rfl rfl (VP.arith rfl rfl rfl) ?_
  refine VR.p rfl rfl (VP.assign rfl) ?_
  refine VR.nil ?_
  rcases ite_or hm with ⟨h3, hm⟩ | ⟨h3, hm⟩
  · refine VW.condT rfl h3 ?_
    refine VW.seq ?_
    refine VW.region ?_
    refine VR.p rfl rfl (VP.move rfl) ?_
    refine VR.p rfl rfl (VP.move rfl) ?_
    obtain ⟨c, h7, hm⟩ := bnd hm
    refine VR.sc 5 28 (.bool c) (fun K' J => ?_) ?_
    · have hm := h7
      rcases ite_or hm with ⟨h4, hm⟩ | ⟨h4, hm⟩
      · refine VR.pG rfl rfl rfl rfl h4 (VP.fieldP rfl fa62_2) ?_
        refine VR.pG rfl rfl rfl rfl h4 (VP.loadP (i := 0) rfl rfl ld39 rfl) ?_
        refine VR.pG rfl rfl rfl rfl h4 (VP.move rfl) ?_
        obtain ⟨r2, h5, hm⟩ := bnd hm
        refine VR.consG rfl rfl rfl rfl h4 (VO.callK 0 rfl fn105 rfl (labels_among_ok t.Vals r.1 r2 h5) fun _ _ h6 => ?_)
        obtain ⟨rfl, rfl⟩ := h6
        refine VR.p rfl rfl (VP.pickB true rfl h4 rfl) ?_
        exact J [_, _, _, _] _ rfl (congrArg VV.bool (Option.some.inj hm))
      · have h4 := bf h4
        refine VR.skipG rfl rfl rfl rfl h4 ?_
        refine VR.skipG rfl rfl rfl rfl h4 ?_
        refine VR.skipG rfl rfl rfl rfl h4 ?_
        refine VR.skipG rfl rfl rfl rfl h4 ?_
        refine VR.p rfl rfl (VP.pickB false rfl h4 rfl) ?_
        exact J [_, _, _, _] _ rfl (congrArg VV.bool (Option.some.inj hm))
    · refine VR.p rfl rfl (VP.assign rfl) ?_
      refine VR.nil ?_
      obtain rfl := Option.some.inj hm
      exact VW.ret ⟨.inl rfl, _, .cons (.tmp _ _ rfl) .nil, [], _, rfl, rfl, rfl⟩
  · have h3 := bf h3
    refine VW.condF rfl h3 ?_
    refine VW.seq ?_
    refine VW.region ?_
    refine VR.p rfl rfl (VP.arith rfl rfl rfl) ?_
    refine VR.p rfl rfl (VP.assign rfl) ?_
    refine VR.nil ?_
    rcases ite_or hm with ⟨h8, hm⟩ | ⟨h8, hm⟩
    · refine VW.condT rfl h8 ?_
      refine VW.seq ?_
      refine VW.region ?_
      refine VR.p rfl rfl (VP.move rfl) ?_
      refine VR.p rfl rfl (VP.not rfl) ?_
      refine VR.p rfl rfl (VP.move rfl) ?_
      obtain ⟨c2, h12, hm⟩ := bnd hm
      refine VR.sc 6 39 (.bool c2) (fun K' J => ?_) ?_
      · have hm := h12
        rcases ite_or hm with ⟨h9, hm⟩ | ⟨h9, hm⟩
        · refine VR.skipG rfl rfl rfl rfl h9 ?_
          refine VR.skipG rfl rfl rfl rfl h9 ?_
          refine VR.skipG rfl rfl rfl rfl h9 ?_
          refine VR.skipG rfl rfl rfl rfl h9 ?_
          refine VR.skipG rfl rfl rfl rfl h9 ?_
          refine VR.p rfl rfl (VP.pickB true rfl h9 rfl) ?_
          exact J [_, _, _, _, _] _ rfl (congrArg VV.bool (Option.some.inj hm))
        · have h9 := bf h9
          refine VR.pG rfl rfl rfl rfl h9 (VP.fieldP rfl fa62_2) ?_
          refine VR.pG rfl rfl rfl rfl h9 (VP.loadP (i := 0) rfl rfl ld39 rfl) ?_
          refine VR.pG rfl rfl rfl rfl h9 (VP.move rfl) ?_
          obtain ⟨r3, h10, hm⟩ := bnd hm
          refine VR.consG rfl rfl rfl rfl h9 (VO.callK 0 rfl fn105 rfl (labels_among_ok t.Vals r.1 r3 h10) fun _ _ h11 => ?_)
          obtain ⟨rfl, rfl⟩ := h11
          refine VR.pG rfl rfl rfl rfl h9 (VP.not rfl) ?_
          refine VR.p rfl rfl (VP.pickB false rfl h9 rfl) ?_
          exact J [_, _, _, _, _] _ rfl (congrArg VV.bool (Option.some.inj hm))
      · refine VR.p rfl rfl (VP.assign rfl) ?_
        refine VR.nil ?_
        obtain rfl := Option.some.inj hm
        exact VW.ret ⟨.inl rfl, _, .cons (.tmp _ _ rfl) .nil, [], _, rfl, rfl, rfl⟩
    · have h8 := bf h8
      refine VW.condF rfl h8 ?_
      refine VW.seq ?_
      refine VW.region ?_
      refine VR.p rfl rfl (VP.arith rfl rfl rfl) ?_
      refine VR.p rfl rfl (VP.assign rfl) ?_
      refine VR.nil ?_
      rcases ite_or hm with ⟨h13, hm⟩ | ⟨h13, hm⟩
      · refine VW.condT rfl h13 ?_
        refine VW.seq ?_
        refine VW.region ?_
        refine VR.p rfl rfl (VP.move rfl) ?_
        refine VR.p rfl rfl (VP.assign rfl) ?_
        refine VR.nil ?_
        obtain rfl := Option.some.inj hm
        exact VW.ret ⟨.inl rfl, _, .cons (.tmp _ _ rfl) .nil, [], _, rfl, rfl, rfl⟩
      · have h13 := bf h13
        refine VW.condF rfl h13 ?_
        refine VW.seq ?_
        refine VW.region ?_
        refine VR.p rfl rfl (VP.arith rfl rfl rfl) ?_
        refine VR.p rfl rfl (VP.assign rfl) ?_
        refine VR.nil ?_
        rcases ite_or hm with ⟨h14, hm⟩ | ⟨h14, hm⟩
        · refine VW.condT rfl h14 ?_
          refine VW.seq ?_
          refine VW.region ?_
          refine VR.p rfl rfl (VP.move rfl) ?_
          refine VR.p rfl rfl (VP.not rfl) ?_
          refine VR.p rfl rfl (VP.assign rfl) ?_
          refine VR.nil ?_
          obtain rfl := Option.some.inj hm
          exact VW.ret ⟨.inl rfl, _, .cons (.tmp _ _ rfl) .nil, [], _, rfl, rfl, rfl⟩
        · have h14 := bf h14
          refine VW.condF rfl h14 ?_
          refine VW.skip ?_
          refine VW.seq ?_
          refine VW.seq ?_
          refine VW.region ?_
          refine VR.p rfl rfl (VP.move rfl) ?_
          refine VR.p rfl rfl (VP.not rfl) ?_
          refine VR.p rfl rfl (VP.move rfl) ?_
          refine VR.sc 5 54 (.bool ((!r.2) || ((t.Vals.length : Int) != (1 : Int)))) (fun K' J => ?_) ?_
          · rcases Bool.eq_false_or_eq_true (!r.2) with h15 | h15
            · refine VR.skipG rfl rfl rfl rfl h15 ?_
              refine VR.skipG rfl rfl rfl rfl h15 ?_
              refine VR.skipG rfl rfl rfl rfl h15 ?_
              refine VR.skipG rfl rfl rfl rfl h15 ?_
              refine VR.p rfl rfl (VP.pickB true rfl h15 rfl) ?_
              exact J [_, _, _, _] _ rfl (orT h15)
            · refine VR.pG rfl rfl rfl rfl h15 (VP.fieldP rfl fa62_2) ?_
              refine VR.pG rfl rfl rfl rfl h15 (VP.loadP (i := 0) rfl rfl ld39 rfl) ?_
              refine VR.pG rfl rfl rfl rfl h15 (VP.lenT VV.str rfl Tryz.underlying39) ?_
              refine VR.pG rfl rfl rfl rfl h15 (VP.arith rfl rfl rfl) ?_
              refine VR.p rfl rfl (VP.pickB false rfl h15 rfl) ?_
              exact J [_, _, _, _] _ rfl (orF h15)
          · refine VR.nil ?_
            rcases ite_or hm with ⟨h16, hm⟩ | ⟨h16, hm⟩
            · refine VW.condT rfl h16 ?_
              refine VW.seq ?_
              refine VW.region ?_
              refine VR.p rfl rfl (VP.assign rfl) ?_
              refine VR.nil ?_
              obtain rfl := Option.some.inj hm
              exact VW.ret ⟨.inl rfl, _, .cons (.tmp _ _ rfl) .nil, [], _, rfl, rfl, rfl⟩
            · have h16 := bf h16
              refine VW.condF rfl h16 ?_
              refine VW.skip ?_
              refine VW.seq ?_
              refine VW.region ?_
              refine VR.p rfl rfl (VP.move rfl) ?_
              obtain ⟨r4, h17, hm⟩ := bnd hm
              refine VR.cons rfl rfl (VO.callK 0 rfl fn106 rfl (labels_number_ok r.1 r4 h17) fun _ _ h24 => ?_)
              obtain ⟨rfl, rfl⟩ := h24
              refine VR.p rfl rfl (VP.move rfl) ?_
              refine VR.p rfl rfl (VP.extract rfl rfl) ?_
              refine VR.p rfl rfl (VP.extract rfl rfl) ?_
              refine VR.p rfl rfl (VP.assign rfl) ?_
              refine VR.p rfl rfl (VP.assign rfl) ?_
              refine VR.nil ?_
              refine VW.seq ?_
              refine VW.region ?_
              refine VR.p rfl rfl (VP.fieldP rfl fa62_2) ?_
              refine VR.p rfl rfl (VP.loadP (i := 0) rfl rfl ld39 rfl) ?_
              obtain ⟨x, h18, hm⟩ := bnd hm
              refine VR.p rfl rfl (VP.glE VV.str rfl rfl el39 h18) ?_
              refine VR.p rfl rfl (VP.loadE rfl ld9 rfl) ?_
              obtain ⟨r5, h19, hm⟩ := bnd hm
              refine VR.cons rfl rfl (VO.callK 0 rfl fn106 rfl (labels_number_ok x r5 h19) fun _ _ h23 => ?_)
              obtain ⟨rfl, rfl⟩ := h23
              refine VR.p rfl rfl (VP.move rfl) ?_
              refine VR.p rfl rfl (VP.extract rfl rfl) ?_
              refine VR.p rfl rfl (VP.extract rfl rfl) ?_
              refine VR.p rfl rfl (VP.assign rfl) ?_
              refine VR.p rfl rfl (VP.assign rfl) ?_
              refine VR.nil ?_
              refine VW.seq ?_
              refine VW.seq ?_
              refine VW.region ?_
              refine VR.p rfl rfl (VP.fieldP rfl fa62_1) ?_
              refine VR.p rfl rfl (VP.loadP (i := 0) rfl rfl ld3 rfl) ?_
              refine VR.p rfl rfl (VP.arith rfl rfl rfl) ?_
              refine VR.nil ?_
              rcases ite_or hm with ⟨h20, hm⟩ | ⟨h20, hm⟩
              · refine VW.condT rfl h20 ?_
                refine VW.region ?_
                refine VR.p rfl rfl (VP.move rfl) ?_
                refine VR.p rfl rfl (VP.move rfl) ?_
                refine VR.p rfl rfl (VP.assign rfl) ?_
                refine VR.p rfl rfl (VP.assign rfl) ?_
                refine VR.nil ?_
                refine VW.seq ?_
                refine VW.region ?_
                refine VR.p rfl rfl (VP.move rfl) ?_
                refine VR.p rfl rfl (VP.move rfl) ?_
                refine VR.sc 4 78 (.bool (r4.2 && (decide (r5.1 > r4.1)))) (fun K' J => ?_) ?_
                · rcases Bool.eq_false_or_eq_true r4.2 with h21 | h21
                  · refine VR.pG rfl rfl rfl rfl h21 (VP.move rfl) ?_
                    refine VR.pG rfl rfl rfl rfl h21 (VP.move rfl) ?_
                    refine VR.pG rfl rfl rfl rfl h21 (VP.arith rfl rfl rfl) ?_
                    refine VR.p rfl rfl (VP.pickB true rfl h21 rfl) ?_
                    exact J [_, _, _] _ rfl (andT h21)
                  · refine VR.skipG rfl rfl rfl rfl h21 ?_
                    refine VR.skipG rfl rfl rfl rfl h21 ?_
                    refine VR.skipG rfl rfl rfl rfl h21 ?_
                    refine VR.p rfl rfl (VP.pickB false rfl h21 rfl) ?_
                    exact J [_, _, _] _ rfl (andF h21)
                · refine VR.p rfl rfl (VP.assign rfl) ?_
                  refine VR.nil ?_
                  obtain rfl := Option.some.inj hm
                  exact VW.ret ⟨.inl rfl, _, .cons (.tmp _ _ rfl) .nil, [], _, rfl, rfl, rfl⟩
              · have h20 := bf h20
                refine VW.condF rfl h20 ?_
                refine VW.skip ?_
                refine VW.seq ?_
                refine VW.region ?_
                refine VR.p rfl rfl (VP.move rfl) ?_
                refine VR.p rfl rfl (VP.move rfl) ?_
                refine VR.sc 4 78 (.bool (r4.2 && (decide (r4.1 > r5.1)))) (fun K' J => ?_) ?_
                · rcases Bool.eq_false_or_eq_true r4.2 with h22 | h22
                  · refine VR.pG rfl rfl rfl rfl h22 (VP.move rfl) ?_
                    refine VR.pG rfl rfl rfl rfl h22 (VP.move rfl) ?_
                    refine VR.pG rfl rfl rfl rfl h22 (VP.arith rfl rfl rfl) ?_
                    refine VR.p rfl rfl (VP.pickB true rfl h22 rfl) ?_
                    exact J [_, _, _] _ rfl (andT h22)
                  · refine VR.skipG rfl rfl rfl rfl h22 ?_
                    refine VR.skipG rfl rfl rfl rfl h22 ?_
                    refine VR.skipG rfl rfl rfl rfl h22 ?_
                    refine VR.p rfl rfl (VP.pickB false rfl h22 rfl) ?_
                    exact J [_, _, _] _ rfl (andF h22)
                · refine VR.p rfl rfl (VP.assign rfl) ?_
                  refine VR.nil ?_
                  obtain rfl := Option.some.inj hm
                  exact VW.ret ⟨.inl rfl, _, .cons (.tmp _ _ rfl) .nil, [], _, rfl, rfl, rfl⟩

/-! trireme/labels.All -/
def labels_All.l1 (l : List T_api_Label) : List T_api_Term → Nat → Option (Out Bool Unit)
  | [], k => some (Out.go ())
  | x :: l2, k =>
    (labels_Meets l x).bind fun r =>
    if (!r) = true then
      some (Out.ret false)
    else
      labels_All.l1 l l2 (k + 1)
def labels_All (l : List T_api_Label) (terms : List T_api_Term) : Option Bool :=
  (labels_All.l1 l terms 0).bind fun o =>
  o.on fun j =>
  some true
theorem labels_All_ok (l : List T_api_Label) (terms : List T_api_Term) (r : Bool) (hm : labels_All l terms = some r) :
    VC Tryz.prog 76 [.list 73 (List.map T_api_Label.vv l), .list 62 (List.map T_api_Term.vv terms)] [] (fun zx zH => zx = .bool r ∧ zH = []) := by
  unfold labels_All at hm
  refine VC.run (c := _) (rs := [.tmp 4]) Tryz.func76 rfl rfl rfl ?_
  refine VW.seq ?_
  refine VW.region ?_
  refine VR.p rfl rfl (VP.assign rfl) ?_
  refine VR.nil ?_
  refine VW.seq ?_
  refine VW.seq ?_
  refine VW.region ?_
  refine VR.p rfl rfl (VP.move rfl) ?_
  refine VR.p rfl rfl (VP.lenT T_api_Term.vv rfl Tryz.underlying27) ?_
  refine VR.p rfl rfl (VP.move rfl) ?_
  refine VR.nil ?_
  refine VW.lenL 7 rfl fun h3 => ?_
  have h3 := max_map h3
  obtain ⟨o, h1, h2⟩ := bnd hm
  refine VW.joinE (fun (q : Unit) => o = Out.go q) (fun (j : Unit) (gg : Unit) => []) (fun (j : Unit) (gg : Unit) => []) ?_ ?_
  · have hm := h1
    refine VW.block (VW.loop (terms.length + 1) ?_)
    refine VL.eachS (l := terms) (R := _) (fun zl zk (zs : Unit) => labels_All.l1 l zl zk) (fun (k : Nat) (zs : Unit) (zg : Unit) => [(0, .list 73 (List.map T_api_Label.vv l)), (7, .list 62 (List.map T_api_Term.vv terms)), (8, .int .i64 (terms.length : Int)), (9, .int .i64 (k : Int))]) (fun (k : Nat) (zs : Unit) (zg : Unit) => []) () () (Shift.pick [] rfl ⟨rfl, rfl, rfl, rfl, trivial⟩) h1 ?_ ?_
    · rintro k _ _ hk hm
      rw [labels_All.l1] at hm
      refine VW.seq ?_
      refine VW.region ?_
      refine VR.p rfl rfl (VP.arith rfl rfl rfl) ?_
      refine VR.nil ?_
      refine VW.seq ?_
      refine VW.condF rfl (k_end hk) ?_
      refine VW.exit ?_
      exact ⟨(), (), (Option.some.inj hm).symm, (Shift.pick [] rfl trivial)⟩
    · rintro k x l2 _ _ h4 hm
      rw [labels_All.l1] at hm
      refine VW.seq ?_
      refine VW.region ?_
      refine VR.p rfl rfl (VP.arith rfl rfl rfl) ?_
      refine VR.nil ?_
      refine VW.seq ?_
      refine VW.condT rfl (k_lt h4) ?_
      refine VW.skip ?_
      refine VW.seq ?_
      refine VW.block ?_
      refine VW.seq ?_
      refine VW.region ?_
      refine VR.p rfl rfl (VP.glK T_api_Term.vv rfl rfl el27 h4) ?_
      refine VR.p rfl rfl (VP.loadE rfl ld62 rfl) ?_
      refine VR.cons rfl rfl (VO.alloc z62 fun b => ?_)
      refine VR.cons rfl rfl (VO.storeP (i := 0) rfl rfl rfl ld62 rfl rfl rfl ?_)
      refine VR.nil ?_
      refine VW.seq ?_
      refine VW.region ?_
      refine VR.p rfl rfl (VP.move rfl) ?_
      refine VR.p rfl rfl (VP.loadP (i := 0) rfl rfl ld62 rfl) ?_
      obtain ⟨r, h6, hm⟩ := bnd hm
      refine VR.cons rfl rfl (VO.callK 0 rfl fn94 rfl (labels_Meets_ok l x r h6) fun _ _ h8 => ?_)
      obtain ⟨rfl, rfl⟩ := h8
      refine VR.p rfl rfl (VP.not rfl) ?_
      refine VR.nil ?_
      rcases ite_or hm with ⟨h7, hm⟩ | ⟨h7, hm⟩
      · refine VW.condT rfl h7 ?_
        refine VW.seq ?_
        refine VW.region ?_
        refine VR.p rfl rfl (VP.assign rfl) ?_
        refine VR.nil ?_
        obtain rfl := Option.some.inj hm
        have hm := Out.ret_on h2
        obtain rfl := Option.some.inj hm
        exact VW.ret ⟨.inl rfl, _, .cons (.tmp _ _ rfl) .nil, [], _, rfl, rfl, rfl⟩
      · have h7 := bf h7
        refine VW.condF rfl h7 ?_
        refine VW.skip ?_
        refine VW.region ?_
        refine VR.p rfl rfl (VP.arith rfl rfl rfl) ?_
        refine VR.p rfl rfl (VP.move rfl) ?_
        refine VR.nil ?_
        exact ⟨(), (), hm, (Shift.pick [] rfl ⟨rfl, rfl, rfl, congrArg some (k_next h4 h3), trivial⟩)⟩
  · rintro j _ rfl
    have hm := Out.go_on h2
    refine VW.seq ?_
    refine VW.region ?_
    refine VR.p rfl rfl (VP.assign rfl) ?_
    refine VR.nil ?_
    obtain rfl := Option.some.inj hm
    exact VW.ret ⟨.inl rfl, _, .cons (.tmp _ _ rfl) .nil, [], _, rfl, rfl, rfl⟩

/-! trireme/taints.of -/
def taints_of (x : T_api_Taint) (effect : Int) : Option Bool :=
  some ((effect == (0 : Int)) || (x.Effect == effect))
theorem taints_of_ok (x : T_api_Taint) (effect : Int) (r : Bool) (hm : taints_of x effect = some r) :
    VC Tryz.prog 109 [T_api_Taint.vv x, .int .i64 effect] [] (fun zx zH => zx = .bool r ∧ zH = []) := by
  unfold taints_of at hm
  refine VC.run (c := _) (rs := [.tmp 4]) Tryz.func109 rfl rfl rfl ?_
  refine VW.seq ?_
  refine VW.region ?_
  refine VR.cons rfl rfl (VO.box rfl rfl fun b => ?_)
  refine VR.p rfl rfl (VP.assign rfl) ?_
  refine VR.nil ?_
  refine VW.seq ?_
  refine VW.region ?_
  refine VR.p rfl rfl (VP.move rfl) ?_
  refine VR.p rfl rfl (VP.arith rfl rfl rfl) ?_
  refine VR.p rfl rfl (VP.move rfl) ?_
  refine VR.sc 5 12 (.bool ((effect == (0 : Int)) || (x.Effect == effect))) (fun K' J => ?_) ?_
  · rcases Bool.eq_false_or_eq_true (effect == (0 : Int)) with h2 | h2
    · refine VR.skipG rfl rfl rfl rfl h2 ?_
      refine VR.skipG rfl rfl rfl rfl h2 ?_
      refine VR.skipG rfl rfl rfl rfl h2 ?_
      refine VR.skipG rfl rfl rfl rfl h2 ?_
      refine VR.p rfl rfl (VP.pickB true rfl h2 rfl) ?_
      exact J [_, _, _, _] _ rfl (orT h2)
    · refine VR.pG rfl rfl rfl rfl h2 (VP.fieldP rfl fa77_2) ?_
      refine VR.pG rfl rfl rfl rfl h2 (VP.loadP (i := 0) rfl rfl ld3 rfl) ?_
      refine VR.pG rfl rfl rfl rfl h2 (VP.move rfl) ?_
      refine VR.pG rfl rfl rfl rfl h2 (VP.arith rfl rfl rfl) ?_
      refine VR.p rfl rfl (VP.pickB false rfl h2 rfl) ?_
      exact J [_, _, _, _] _ rfl (orF h2)
  · refine VR.p rfl rfl (VP.assign rfl) ?_
    refine VR.nil ?_
    obtain rfl := Option.some.inj hm
    exact VW.ret ⟨.inl rfl, _, .cons (.tmp _ _ rfl) .nil, [], _, rfl, rfl, rfl⟩

/-! trireme/taints.Bears -/
def taints_Bears (t : T_api_Toleration) (x : T_api_Taint) : Option Bool :=
  if ((t.Effect != (0 : Int)) && (t.Effect != x.Effect)) = true then
    some false
  else
    if ((!(V.seq t.Key (⟨#[]⟩ : ByteArray))) && (!(V.seq t.Key x.Key))) = true then
      some false
    else
      some (t.Any || (V.seq t.Val x.Val))
theorem taints_Bears_ok (t : T_api_Toleration) (x : T_api_Taint) (r : Bool) (hm : taints_Bears t x = some r) :
    VC Tryz.prog 118 [T_api_Toleration.vv t, T_api_Taint.vv x] [] (fun zx zH => zx = .bool r ∧ zH = []) := by
  unfold taints_Bears at hm
  refine VC.run (c := _) (rs := [.tmp 4]) Tryz.func118 rfl rfl rfl ?_
  refine VW.seq ?_
  refine VW.region ?_
  refine VR.cons rfl rfl (VO.box rfl rfl fun b => ?_)
  refine VR.cons rfl rfl (VO.box rfl rfl fun b2 => ?_)
  refine VR.p rfl rfl (VP.assign rfl) ?_
  refine VR.nil ?_
  refine VW.seq ?_
  refine VW.block ?_
  refine VW.seq ?_
  refine VW.region ?_
  refine VR.p rfl rfl (VP.fieldP rfl fa75_3) ?_
  refine VR.p rfl rfl (VP.loadP (i := 1) rfl rfl ld3 rfl) ?_
  refine VR.p rfl rfl (VP.arith rfl rfl rfl) ?_
  refine VR.p rfl rfl (VP.move rfl) ?_
  refine VR.sc 6 15 (.bool ((t.Effect != (0 : Int)) && (t.Effect != x.Effect))) (fun K' J => ?_) ?_
  · rcases Bool.eq_false_or_eq_true (t.Effect != (0 : Int)) with h3 | h3
    · refine VR.pG rfl rfl rfl rfl h3 (VP.fieldP rfl fa75_3) ?_
      refine VR.pG rfl rfl rfl rfl h3 (VP.loadP (i := 1) rfl rfl ld3 rfl) ?_
      refine VR.pG rfl rfl rfl rfl h3 (VP.fieldP rfl fa77_2) ?_
      refine VR.pG rfl rfl rfl rfl h3 (VP.loadP (i := 0) rfl rfl ld3 rfl) ?_
      refine VR.pG rfl rfl rfl rfl h3 (VP.arith rfl rfl rfl) ?_
      refine VR.p rfl rfl (VP.pickB true rfl h3 rfl) ?_
      exact J [_, _, _, _, _] _ rfl (andT h3)
    · refine VR.skipG rfl rfl rfl rfl h3 ?_
      refine VR.skipG rfl rfl rfl rfl h3 ?_
      refine VR.skipG rfl rfl rfl rfl h3 ?_
      refine VR.skipG rfl rfl rfl rfl h3 ?_
      refine VR.skipG rfl rfl rfl rfl h3 ?_
      refine VR.p rfl rfl (VP.pickB false rfl h3 rfl) ?_
      exact J [_, _, _, _, _] _ rfl (andF h3)
  · refine VR.p rfl rfl (VP.assign rfl) ?_
    refine VR.nil ?_
    rcases ite_or hm with ⟨h4, hm⟩ | ⟨h4, hm⟩
    · refine VW.condT rfl h4 ?_
      refine VW.seq ?_
      refine VW.region ?_
      refine VR.p rfl rfl (VP.assign rfl) ?_
      refine VR.nil ?_
      obtain rfl := Option.some.inj hm
      exact VW.ret ⟨.inl rfl, _, .cons (.tmp _ _ rfl) .nil, [], _, rfl, rfl, rfl⟩
    · have h4 := bf h4
      refine VW.condF rfl h4 ?_
      refine VW.seq ?_
      refine VW.region ?_
      refine VR.p rfl rfl (VP.fieldP rfl fa75_0) ?_
      refine VR.p rfl rfl (VP.loadP (i := 1) rfl rfl ld9 rfl) ?_
      refine VR.p rfl rfl (VP.strop rfl rfl rfl) ?_
      refine VR.p rfl rfl (VP.move rfl) ?_
      refine VR.sc 6 26 (.bool ((!(V.seq t.Key (⟨#[]⟩ : ByteArray))) && (!(V.seq t.Key x.Key)))) (fun K' J => ?_) ?_
      · rcases Bool.eq_false_or_eq_true (!(V.seq t.Key (⟨#[]⟩ : ByteArray))) with h5 | h5
        · refine VR.pG rfl rfl rfl rfl h5 (VP.fieldP rfl fa75_0) ?_
          refine VR.pG rfl rfl rfl rfl h5 (VP.loadP (i := 1) rfl rfl ld9 rfl) ?_
          refine VR.pG rfl rfl rfl rfl h5 (VP.fieldP rfl fa77_0) ?_
          refine VR.pG rfl rfl rfl rfl h5 (VP.loadP (i := 0) rfl rfl ld9 rfl) ?_
          refine VR.pG rfl rfl rfl rfl h5 (VP.strop rfl rfl rfl) ?_
          refine VR.p rfl rfl (VP.pickB true rfl h5 rfl) ?_
          exact J [_, _, _, _, _] _ rfl (andT h5)
        · refine VR.skipG rfl rfl rfl rfl h5 ?_
          refine VR.skipG rfl rfl rfl rfl h5 ?_
          refine VR.skipG rfl rfl rfl rfl h5 ?_
          refine VR.skipG rfl rfl rfl rfl h5 ?_
          refine VR.skipG rfl rfl rfl rfl h5 ?_
          refine VR.p rfl rfl (VP.pickB false rfl h5 rfl) ?_
          exact J [_, _, _, _, _] _ rfl (andF h5)
      · refine VR.p rfl rfl (VP.assign rfl) ?_
        refine VR.nil ?_
        rcases ite_or hm with ⟨h6, hm⟩ | ⟨h6, hm⟩
        · refine VW.condT rfl h6 ?_
          refine VW.seq ?_
          refine VW.region ?_
          refine VR.p rfl rfl (VP.assign rfl) ?_
          refine VR.nil ?_
          obtain rfl := Option.some.inj hm
          exact VW.ret ⟨.inl rfl, _, .cons (.tmp _ _ rfl) .nil, [], _, rfl, rfl, rfl⟩
        · have h6 := bf h6
          refine VW.condF rfl h6 ?_
          refine VW.skip ?_
          refine VW.seq ?_
          refine VW.region ?_
          refine VR.p rfl rfl (VP.fieldP rfl fa75_2) ?_
          refine VR.p rfl rfl (VP.loadP (i := 1) rfl rfl ld4 rfl) ?_
          refine VR.p rfl rfl (VP.move rfl) ?_
          refine VR.sc 6 35 (.bool (t.Any || (V.seq t.Val x.Val))) (fun K' J => ?_) ?_
          · rcases Bool.eq_false_or_eq_true t.Any with h7 | h7
            · refine VR.skipG rfl rfl rfl rfl h7 ?_
              refine VR.skipG rfl rfl rfl rfl h7 ?_
              refine VR.skipG rfl rfl rfl rfl h7 ?_
              refine VR.skipG rfl rfl rfl rfl h7 ?_
              refine VR.skipG rfl rfl rfl rfl h7 ?_
              refine VR.p rfl rfl (VP.pickB true rfl h7 rfl) ?_
              exact J [_, _, _, _, _] _ rfl (orT h7)
            · refine VR.pG rfl rfl rfl rfl h7 (VP.fieldP rfl fa75_1) ?_
              refine VR.pG rfl rfl rfl rfl h7 (VP.loadP (i := 1) rfl rfl ld9 rfl) ?_
              refine VR.pG rfl rfl rfl rfl h7 (VP.fieldP rfl fa77_1) ?_
              refine VR.pG rfl rfl rfl rfl h7 (VP.loadP (i := 0) rfl rfl ld9 rfl) ?_
              refine VR.pG rfl rfl rfl rfl h7 (VP.strop rfl rfl rfl) ?_
              refine VR.p rfl rfl (VP.pickB false rfl h7 rfl) ?_
              exact J [_, _, _, _, _] _ rfl (orF h7)
          · refine VR.p rfl rfl (VP.assign rfl) ?_
            refine VR.nil ?_
            obtain rfl := Option.some.inj hm
            exact VW.ret ⟨.inl rfl, _, .cons (.tmp _ _ rfl) .nil, [], _, rfl, rfl, rfl⟩

/-! trireme/taints.borne -/
def taints_borne.l1 (x : T_api_Taint) : List T_api_Toleration → Nat → Option (Out Bool Unit)
  | [], k => some (Out.go ())
  | x2 :: l2, k =>
    (taints_Bears x2 x).bind fun r =>
    if r = true then
      some (Out.ret true)
    else
      taints_borne.l1 x l2 (k + 1)
def taints_borne (l : List T_api_Toleration) (x : T_api_Taint) : Option Bool :=
  (taints_borne.l1 x l 0).bind fun o =>
  o.on fun j =>
  some false
theorem taints_borne_ok (l : List T_api_Toleration) (x : T_api_Taint) (r : Bool) (hm : taints_borne l x = some r) :
    VC Tryz.prog 110 [.list 75 (List.map T_api_Toleration.vv l), T_api_Taint.vv x] [] (fun zx zH => zx = .bool r ∧ zH = []) := by
  unfold taints_borne at hm
  refine VC.run (c := _) (rs := [.tmp 4]) Tryz.func110 rfl rfl rfl ?_
  refine VW.seq ?_
  refine VW.region ?_
  refine VR.cons rfl rfl (VO.box rfl rfl fun b => ?_)
  refine VR.p rfl rfl (VP.assign rfl) ?_
  refine VR.nil ?_
  refine VW.seq ?_
  refine VW.seq ?_
  refine VW.region ?_
  refine VR.p rfl rfl (VP.move rfl) ?_
  refine VR.p rfl rfl (VP.lenT T_api_Toleration.vv rfl Tryz.underlying28) ?_
  refine VR.p rfl rfl (VP.move rfl) ?_
  refine VR.nil ?_
  refine VW.lenL 7 rfl fun h4 => ?_
  have h4 := max_map h4
  obtain ⟨o, h2, h3⟩ := bnd hm
  refine VW.joinE (fun (q : Unit) => o = Out.go q) (fun (j : Unit) (gg : Unit) => []) (fun (j : Unit) (gg : Unit) => []) ?_ ?_
  · have hm := h2
    refine VW.block (VW.loop (l.length + 1) ?_)
    refine VL.eachS (l := l) (R := _) (fun zl zk (zs : Unit) => taints_borne.l1 x zl zk) (fun (k : Nat) (zs : Unit) (zg : Unit) => [(3, .ptr b 0), (7, .list 75 (List.map T_api_Toleration.vv l)), (8, .int .i64 (l.length : Int)), (9, .int .i64 (k : Int))]) (fun (k : Nat) (zs : Unit) (zg : Unit) => [.box b 77 (T_api_Taint.cells x)]) () () (Shift.pick [0] rfl ⟨rfl, rfl, rfl, rfl, trivial⟩) h2 ?_ ?_
    · rintro k _ _ hk hm
      rw [taints_borne.l1] at hm
      refine VW.seq ?_
      refine VW.region ?_
      refine VR.p rfl rfl (VP.arith rfl rfl rfl) ?_
      refine VR.nil ?_
      refine VW.seq ?_
      refine VW.condF rfl (k_end hk) ?_
      refine VW.exit ?_
      exact ⟨(), (), (Option.some.inj hm).symm, (Shift.pick [] rfl trivial)⟩
    · rintro k x2 l2 _ _ h5 hm
      rw [taints_borne.l1] at hm
      refine VW.seq ?_
      refine VW.region ?_
      refine VR.p rfl rfl (VP.arith rfl rfl rfl) ?_
      refine VR.nil ?_
      refine VW.seq ?_
      refine VW.condT rfl (k_lt h5) ?_
      refine VW.skip ?_
      refine VW.seq ?_
      refine VW.block ?_
      refine VW.seq ?_
      refine VW.region ?_
      refine VR.p rfl rfl (VP.glK T_api_Toleration.vv rfl rfl el28 h5) ?_
      refine VR.p rfl rfl (VP.loadE rfl ld75 rfl) ?_
      refine VR.cons rfl rfl (VO.alloc z75 fun b2 => ?_)
      refine VR.cons rfl rfl (VO.storeP (i := 0) rfl rfl rfl ld75 rfl rfl rfl ?_)
      refine VR.nil ?_
      refine VW.seq ?_
      refine VW.region ?_
      refine VR.p rfl rfl (VP.loadP (i := 0) rfl rfl ld75 rfl) ?_
      refine VR.p rfl rfl (VP.loadP (i := 1) rfl rfl ld77 rfl) ?_
      obtain ⟨r, h7, hm⟩ := bnd hm
      refine VR.cons rfl rfl (VO.callK 0 rfl fn118 rfl (taints_Bears_ok x2 x r h7) fun _ _ h9 => ?_)
      obtain ⟨rfl, rfl⟩ := h9
      refine VR.nil ?_
      rcases ite_or hm with ⟨h8, hm⟩ | ⟨h8, hm⟩
      · refine VW.condT rfl h8 ?_
        refine VW.seq ?_
        refine VW.region ?_
        refine VR.p rfl rfl (VP.assign rfl) ?_
        refine VR.nil ?_
        obtain rfl := Option.some.inj hm
        have hm := Out.ret_on h3
        obtain rfl := Option.some.inj hm
        exact VW.ret ⟨.inl rfl, _, .cons (.tmp _ _ rfl) .nil, [], _, rfl, rfl, rfl⟩
      · have h8 := bf h8
        refine VW.condF rfl h8 ?_
        refine VW.skip ?_
        refine VW.region ?_
        refine VR.p rfl rfl (VP.arith rfl rfl rfl) ?_
        refine VR.p rfl rfl (VP.move rfl) ?_
        refine VR.nil ?_
        exact ⟨(), (), hm, (Shift.pick [1] rfl ⟨rfl, rfl, rfl, congrArg some (k_next h5 h4), trivial⟩)⟩
  · rintro j _ rfl
    have hm := Out.go_on h3
    refine VW.seq ?_
    refine VW.region ?_
    refine VR.p rfl rfl (VP.assign rfl) ?_
    refine VR.nil ?_
    obtain rfl := Option.some.inj hm
    exact VW.ret ⟨.inl rfl, _, .cons (.tmp _ _ rfl) .nil, [], _, rfl, rfl, rfl⟩

/-! trireme/taints.Unborne$1 -/
def taints_Unborne_1 (x : T_api_Taint) (a : Int) (a2 : List T_api_Toleration) : Option Bool :=
  (taints_of x a).bind fun r =>
  (if r = true then (taints_borne a2 x).bind fun r2 =>
  some (!r2) else some false).bind fun c =>
  some c
theorem taints_Unborne_1_ok (x : T_api_Taint) (a : Int) (a2 : List T_api_Toleration) (b : Nat) (b2 : Nat) (r : Bool) (hm : taints_Unborne_1 x a a2 = some r) :
    VC Tryz.prog 108 [T_api_Taint.vv x, .ptr b 0, .ptr b2 0] [.box b 3 [.int .i64 a], .box b2 28 [.list 75 (List.map T_api_Toleration.vv a2)]] (fun zx zH => zx = .bool r ∧ zH = [.box b 3 [.int .i64 a], .box b2 28 [.list 75 (List.map T_api_Toleration.vv a2)]]) := by
  unfold taints_Unborne_1 at hm
  refine VC.run (c := _) (rs := [.tmp 4]) Tryz.func108 rfl rfl rfl ?_
  refine VW.seq ?_
  refine VW.region ?_
  refine VR.cons rfl rfl (VO.box rfl rfl fun b3 => ?_)
  refine VR.p rfl rfl (VP.assign rfl) ?_
  refine VR.nil ?_
  refine VW.seq ?_
  refine VW.region ?_
  refine VR.p rfl rfl (VP.loadP (i := 0) rfl rfl ld77 rfl) ?_
  refine VR.p rfl rfl (VP.loadP (i := 1) rfl rfl ld3 rfl) ?_
  obtain ⟨r, h2, hm⟩ := bnd hm
  refine VR.cons rfl rfl (VO.callK 0 rfl fn109 rfl (taints_of_ok x a r h2) fun _ _ h7 => ?_)
  obtain ⟨rfl, rfl⟩ := h7
  refine VR.p rfl rfl (VP.move rfl) ?_
  obtain ⟨c, h6, hm⟩ := bnd hm
  refine VR.sc 5 13 (.bool c) (fun K' J => ?_) ?_
  · have hm := h6
    rcases ite_or hm with ⟨h3, hm⟩ | ⟨h3, hm⟩
    · refine VR.pG rfl rfl rfl rfl h3 (VP.loadP (i := 2) rfl rfl ld28 rfl) ?_
      refine VR.pG rfl rfl rfl rfl h3 (VP.loadP (i := 0) rfl rfl ld77 rfl) ?_
      obtain ⟨r2, h4, hm⟩ := bnd hm
      refine VR.consG rfl rfl rfl rfl h3 (VO.callK 0 rfl fn110 rfl (taints_borne_ok a2 x r2 h4) fun _ _ h5 => ?_)
      obtain ⟨rfl, rfl⟩ := h5
      refine VR.pG rfl rfl rfl rfl h3 (VP.not rfl) ?_
      refine VR.p rfl rfl (VP.pickB true rfl h3 rfl) ?_
      exact J [_, _, _, _] _ rfl (congrArg VV.bool (Option.some.inj hm))
    · have h3 := bf h3
      refine VR.skipG rfl rfl rfl rfl h3 ?_
      refine VR.skipG rfl rfl rfl rfl h3 ?_
      refine VR.skipG rfl rfl rfl rfl h3 ?_
      refine VR.skipG rfl rfl rfl rfl h3 ?_
      refine VR.p rfl rfl (VP.pickB false rfl h3 rfl) ?_
      exact J [_, _, _, _] _ rfl (congrArg VV.bool (Option.some.inj hm))
  · refine VR.p rfl rfl (VP.assign rfl) ?_
    refine VR.nil ?_
    obtain rfl := Option.some.inj hm
    exact VW.ret ⟨.inl rfl, _, .cons (.tmp _ _ rfl) .nil, [1, 1], _, rfl, rfl, rfl⟩

/-! trireme/taints.some -/
def taints_some_taints_Unborne_1.l1 (c : Int) (c2 : List T_api_Toleration) : List T_api_Taint → Nat → (List T_api_Taint) → Option (List T_api_Taint)
  | [], k, out2 => some out2
  | x :: l2, k, out2 =>
    (taints_Unborne_1 x c c2).bind fun r =>
    if r = true then
      (V.ap 40 out2 [x]).bind fun out4 =>
      taints_some_taints_Unborne_1.l1 c c2 l2 (k + 1) out4
    else
      taints_some_taints_Unborne_1.l1 c c2 l2 (k + 1) out2
def taints_some_taints_Unborne_1 (l : List T_api_Taint) (c : Int) (c2 : List T_api_Toleration) : Option (List T_api_Taint) :=
  (taints_some_taints_Unborne_1.l1 c c2 l 0 ([] : List T_api_Taint)).bind fun out32 =>
  some out32
theorem taints_some_taints_Unborne_1_ok (l : List T_api_Taint) (c : Int) (c2 : List T_api_Toleration) (b : Nat) (b2 : Nat) (r : List T_api_Taint) (hm : taints_some_taints_Unborne_1 l c c2 = some r) :
    VC Tryz.prog 107 [.list 77 (List.map T_api_Taint.vv l), .clo (.func 108) [] [.ptr b 0, .ptr b2 0]] [.box b 3 [.int .i64 c], .box b2 28 [.list 75 (List.map T_api_Toleration.vv c2)]] (fun zx zH => ∃ (ob0 : Option Nat) (cap0 : Nat), zx = .sl ob0 (List.map T_api_Taint.vv r).length cap0 ∧ zH = [.row ob0 77 cap0 (List.map T_api_Taint.vv r), .box b 3 [.int .i64 c], .box b2 28 [.list 75 (List.map T_api_Toleration.vv c2)]]) := by
  unfold taints_some_taints_Unborne_1 at hm
  refine VC.run (c := _) (rs := [.tmp 4]) Tryz.func107 rfl rfl rfl ?_
  refine VW.seq ?_
  refine VW.region ?_
  refine VR.p rfl rfl (VP.assign rfl) ?_
  refine VR.nil ?_
  refine VW.seq ?_
  refine VW.region ?_
  refine VR.p rfl rfl (VP.assign rfl) ?_
  refine VR.nil ?_
  refine VW.seq ?_
  refine VW.seq ?_
  refine VW.region ?_
  refine VR.p rfl rfl (VP.move rfl) ?_
  refine VR.p rfl rfl (VP.lenT T_api_Taint.vv rfl Tryz.underlying35) ?_
  refine VR.p rfl rfl (VP.move rfl) ?_
  refine VR.nil ?_
  refine VW.lenL 8 rfl fun h5 => ?_
  have h5 := max_map h5
  obtain ⟨o, h3, h4⟩ := bnd hm
  refine VW.joinE (fun (q : List T_api_Taint) => q = o) (fun (out32 : List T_api_Taint) (gg : Option Nat × Nat) => [(5, .sl gg.1 (List.map T_api_Taint.vv out32).length gg.2)]) (fun (out32 : List T_api_Taint) (gg : Option Nat × Nat) => [.row gg.1 77 gg.2 (List.map T_api_Taint.vv out32), .box b 3 [.int .i64 c], .box b2 28 [.list 75 (List.map T_api_Toleration.vv c2)]]) ?_ ?_
  · have hm := h3
    refine VW.block (VW.loop (l.length + 1) ?_)
    refine VL.eachS (l := l) (R := _) (fun zl zk (zs : List T_api_Taint) => taints_some_taints_Unborne_1.l1 c c2 zl zk zs) (fun (k : Nat) (zs : List T_api_Taint) (zg : Option Nat × Nat) => [(1, .clo (.func 108) [] [.ptr b 0, .ptr b2 0]), (5, .sl zg.1 (List.map T_api_Taint.vv zs).length zg.2), (8, .list 77 (List.map T_api_Taint.vv l)), (9, .int .i64 (l.length : Int)), (10, .int .i64 (k : Int))]) (fun (k : Nat) (zs : List T_api_Taint) (zg : Option Nat × Nat) => [.row zg.1 77 zg.2 (List.map T_api_Taint.vv zs), .box b 3 [.int .i64 c], .box b2 28 [.list 75 (List.map T_api_Toleration.vv c2)]]) ([] : List T_api_Taint) (none, 0) (Shift.trans (Shift.nilRow 77) (Shift.pick [0, 0, 0] rfl ⟨rfl, rfl, rfl, rfl, rfl, trivial⟩)) h3 ?_ ?_
    · rintro k out2 ⟨ob2, cap2⟩ hk hm
      rw [taints_some_taints_Unborne_1.l1] at hm
      refine VW.seq ?_
      refine VW.region ?_
      refine VR.p rfl rfl (VP.arith rfl rfl rfl) ?_
      refine VR.nil ?_
      refine VW.seq ?_
      refine VW.condF rfl (k_end hk) ?_
      refine VW.exit ?_
      exact ⟨out2, (ob2, cap2), Option.some.inj hm, (Shift.pick [0, 0, 0] rfl ⟨rfl, trivial⟩)⟩
    · rintro k x l2 out2 ⟨ob2, cap2⟩ h6 hm
      rw [taints_some_taints_Unborne_1.l1] at hm
      refine VW.seq ?_
      refine VW.region ?_
      refine VR.p rfl rfl (VP.arith rfl rfl rfl) ?_
      refine VR.nil ?_
      refine VW.seq ?_
      refine VW.condT rfl (k_lt h6) ?_
      refine VW.skip ?_
      refine VW.seq ?_
      refine VW.block ?_
      refine VW.seq ?_
      refine VW.region ?_
      refine VR.p rfl rfl (VP.glK T_api_Taint.vv rfl rfl el35 h6) ?_
      refine VR.p rfl rfl (VP.loadE rfl ld77 rfl) ?_
      refine VR.cons rfl rfl (VO.alloc z77 fun b3 => ?_)
      refine VR.cons rfl rfl (VO.storeP (i := 0) rfl rfl rfl ld77 rfl rfl rfl ?_)
      refine VR.nil ?_
      refine VW.seq ?_
      refine VW.region ?_
      refine VR.p rfl rfl (VP.move rfl) ?_
      refine VR.p rfl rfl (VP.loadP (i := 0) rfl rfl ld77 rfl) ?_
      obtain ⟨r, h8, hm⟩ := bnd hm
      refine VR.shift (Shift.mem [2, 2, 0, 0] rfl) ?_
      refine VR.cons rfl rfl (VO.callK 2 rfl fn108 rfl (taints_Unborne_1_ok x c c2 b b2 r h8) fun _ _ h12 => ?_)
      obtain ⟨rfl, rfl⟩ := h12
      refine VR.nil ?_
      rcases ite_or hm with ⟨h9, hm⟩ | ⟨h9, hm⟩
      · refine VW.condT rfl h9 ?_
        refine VW.region ?_
        refine VR.p rfl rfl (VP.move rfl) ?_
        refine VR.p rfl rfl (VP.loadP (i := 2) rfl rfl ld77 rfl) ?_
        refine VR.cons rfl rfl (VO.buildSlice ap35 rfl rfl rfl rfl rfl fun b4 => ?_)
        obtain ⟨out4, h11, hm⟩ := bnd hm
        refine VR.cons rfl rfl (VO.apT 4 T_api_Taint.vv (l := out2) (l2 := [x]) ap35 rfl rfl (sT_row 0 T_api_Taint.vv el35 rfl rfl) h11 fun ob4 cap4 => ?_)
        refine VR.p rfl rfl (VP.assign rfl) ?_
        refine VR.nil ?_
        refine VW.region ?_
        refine VR.p rfl rfl (VP.arith rfl rfl rfl) ?_
        refine VR.p rfl rfl (VP.move rfl) ?_
        refine VR.nil ?_
        exact ⟨out4, (ob4, cap4), hm, (Shift.pick [4, 1, 1] rfl ⟨rfl, rfl, rfl, rfl, congrArg some (k_next h6 h5), trivial⟩)⟩
      · have h9 := bf h9
        refine VW.condF rfl h9 ?_
        refine VW.skip ?_
        refine VW.region ?_
        refine VR.p rfl rfl (VP.arith rfl rfl rfl) ?_
        refine VR.p rfl rfl (VP.move rfl) ?_
        refine VR.nil ?_
        exact ⟨out2, (ob2, cap2), hm, (Shift.pick [3, 0, 0] rfl ⟨rfl, rfl, rfl, rfl, congrArg some (k_next h6 h5), trivial⟩)⟩
  · rintro out32 ⟨ob3, cap3⟩ rfl
    have hm := h4
    refine VW.seq ?_
    refine VW.region ?_
    refine VR.p rfl rfl (VP.move rfl) ?_
    refine VR.p rfl rfl (VP.assign rfl) ?_
    refine VR.nil ?_
    obtain rfl := Option.some.inj hm
    exact VW.ret ⟨.inl rfl, _, .cons (.tmp _ _ rfl) .nil, [0, 0, 0], _, rfl, ob3, cap3, rfl, rfl⟩

/-! trireme/taints.Unborne -/
def taints_Unborne (l : List T_api_Toleration) (taints : List T_api_Taint) (effect : Int) : Option (List T_api_Taint) :=
  (taints_some_taints_Unborne_1 taints effect l).bind fun r =>
  some r
theorem taints_Unborne_ok (l : List T_api_Toleration) (taints : List T_api_Taint) (effect : Int) (r : List T_api_Taint) (hm : taints_Unborne l taints effect = some r) :
    VC Tryz.prog 95 [.list 75 (List.map T_api_Toleration.vv l), .list 77 (List.map T_api_Taint.vv taints), .int .i64 effect] [] (fun zx zH => zx = .list 77 (List.map T_api_Taint.vv r) ∧ zH = []) := by
  unfold taints_Unborne at hm
  refine VC.run (c := _) (rs := [.tmp 6]) Tryz.func95 rfl rfl rfl ?_
  refine VW.seq ?_
  refine VW.region ?_
  refine VR.cons rfl rfl (VO.box rfl rfl fun b => ?_)
  refine VR.cons rfl rfl (VO.box rfl rfl fun b2 => ?_)
  refine VR.p rfl rfl (VP.assign rfl) ?_
  refine VR.nil ?_
  refine VW.seq ?_
  refine VW.region ?_
  refine VR.p rfl rfl (VP.move rfl) ?_
  refine VR.p rfl rfl (VP.makeFunc rfl rfl) ?_
  obtain ⟨r, h3, hm⟩ := bnd hm
  refine VR.cons rfl rfl (VO.callK 2 rfl fn107 rfl (taints_some_taints_Unborne_1_ok taints effect l b2 b r h3) fun _ _ h5 => ?_)
  obtain ⟨ob, cap, rfl, rfl⟩ := h5
  refine VR.shift (Shift.freezeE 0 [(9, .list 77 (List.map T_api_Taint.vv r))] rfl ⟨⟨_, rfl, .here _ rfl⟩, trivial⟩ (FzH.refl _)) ?_
  refine VR.p rfl rfl (VP.assign rfl) ?_
  refine VR.nil ?_
  obtain rfl := Option.some.inj hm
  exact VW.ret ⟨.inl rfl, _, .cons (.tmp _ _ rfl) .nil, [], _, rfl, rfl, rfl⟩

/-! trireme/taints.Allows -/
def taints_Allows (l : List T_api_Toleration) (taints : List T_api_Taint) : Option Bool :=
  (taints_Unborne l taints (1 : Int)).bind fun r =>
  (taints_Unborne l taints (3 : Int)).bind fun r2 =>
  some ((IntKind.i64.wrap ((r.length : Int) + (r2.length : Int))) == (0 : Int))
theorem taints_Allows_ok (l : List T_api_Toleration) (taints : List T_api_Taint) (r : Bool) (hm : taints_Allows l taints = some r) :
    VC Tryz.prog 77 [.list 75 (List.map T_api_Toleration.vv l), .list 77 (List.map T_api_Taint.vv taints)] [] (fun zx zH => zx = .bool r ∧ zH = []) := by
  unfold taints_Allows at hm
  refine VC.run (c := _) (rs := [.tmp 4]) Tryz.func77 rfl rfl rfl ?_
  refine VW.seq ?_
  refine VW.region ?_
  refine VR.p rfl rfl (VP.assign rfl) ?_
  refine VR.nil ?_
  refine VW.seq ?_
  refine VW.region ?_
  refine VR.p rfl rfl (VP.move rfl) ?_
  refine VR.p rfl rfl (VP.move rfl) ?_
  obtain ⟨r, h1, hm⟩ := bnd hm
  refine VR.cons rfl rfl (VO.callK 0 rfl fn95 rfl (taints_Unborne_ok l taints (1 : Int) r h1) fun _ _ h4 => ?_)
  obtain ⟨rfl, rfl⟩ := h4
  refine VR.p rfl rfl (VP.lenT T_api_Taint.vv rfl Tryz.underlying35) ?_
  refine VR.p rfl rfl (VP.move rfl) ?_
  refine VR.p rfl rfl (VP.move rfl) ?_
  obtain ⟨r2, h2, hm⟩ := bnd hm
  refine VR.cons rfl rfl (VO.callK 0 rfl fn95 rfl (taints_Unborne_ok l taints (3 : Int) r2 h2) fun _ _ h3 => ?_)
  obtain ⟨rfl, rfl⟩ := h3
  refine VR.p rfl rfl (VP.lenT T_api_Taint.vv rfl Tryz.underlying35) ?_
  refine VR.p rfl rfl (VP.arith rfl rfl rfl) ?_
  refine VR.p rfl rfl (VP.arith rfl rfl rfl) ?_
  refine VR.p rfl rfl (VP.assign rfl) ?_
  refine VR.nil ?_
  obtain rfl := Option.some.inj hm
  exact VW.ret ⟨.inl rfl, _, .cons (.tmp _ _ rfl) .nil, [], _, rfl, rfl, rfl⟩

/-! trireme/suit.Place -/
def suit_Place (m : T_api_Machine) (p : T_api_Pod) : Option Int :=
  if (!m.Ready) = true then
    some (1 : Int)
  else
    (labels_Has m.Labels p.Select).bind fun r =>
    if (!r) = true then
      some (4 : Int)
    else
      (labels_All m.Labels p.Terms).bind fun r2 =>
      if (!r2) = true then
        some (5 : Int)
      else
        (taints_Allows p.Bears m.Taints).bind fun r3 =>
        if (!r3) = true then
          some (6 : Int)
        else
          some (0 : Int)
theorem suit_Place_ok (m : T_api_Machine) (p : T_api_Pod) (r : Int) (hm : suit_Place m p = some r) :
    VC Tryz.prog 58 [T_api_Machine.vv m, T_api_Pod.vv p] [] (fun zx zH => zx = .int .i64 r ∧ zH = []) := by
  unfold suit_Place at hm
  refine VC.run (c := _) (rs := [.tmp 4]) Tryz.func58 rfl rfl rfl ?_
  refine VW.seq ?_
  refine VW.region ?_
  refine VR.cons rfl rfl (VO.box rfl rfl fun b => ?_)
  refine VR.cons rfl rfl (VO.box rfl rfl fun b2 => ?_)
  refine VR.p rfl rfl (VP.assign rfl) ?_
  refine VR.nil ?_
  refine VW.seq ?_
  refine VW.region ?_
  refine VR.p rfl rfl (VP.assign rfl) ?_
  refine VR.nil ?_
  refine VW.seq ?_
  refine VW.block ?_
  refine VW.seq ?_
  refine VW.region ?_
  refine VR.p rfl rfl (VP.fieldP rfl fa37_5) ?_
  refine VR.p rfl rfl (VP.loadP (i := 1) rfl rfl ld4 rfl) ?_
  refine VR.p rfl rfl (VP.not rfl) ?_
  refine VR.p rfl rfl (VP.assign rfl) ?_
  refine VR.nil ?_
  rcases ite_or hm with ⟨h3, hm⟩ | ⟨h3, hm⟩
  · refine VW.condT rfl h3 ?_
    refine VW.region ?_
    refine VR.p rfl rfl (VP.assign rfl) ?_
    refine VR.nil ?_
    refine VW.seq ?_
    refine VW.region ?_
    refine VR.p rfl rfl (VP.move rfl) ?_
    refine VR.p rfl rfl (VP.assign rfl) ?_
    refine VR.nil ?_
    obtain rfl := Option.some.inj hm
    exact VW.ret ⟨.inl rfl, _, .cons (.tmp _ _ rfl) .nil, [], _, rfl, rfl, rfl⟩
  · have h3 := bf h3
    refine VW.condF rfl h3 ?_
    refine VW.seq ?_
    refine VW.region ?_
    refine VR.p rfl rfl (VP.fieldP rfl fa37_3) ?_
    refine VR.p rfl rfl (VP.loadP (i := 1) rfl rfl ld26 rfl) ?_
    refine VR.p rfl rfl (VP.fieldP rfl fa31_3) ?_
    refine VR.p rfl rfl (VP.loadP (i := 0) rfl rfl ld26 rfl) ?_
    obtain ⟨r, h4, hm⟩ := bnd hm
    refine VR.cons rfl rfl (VO.callK 0 rfl fn75 rfl (labels_Has_ok m.Labels p.Select r h4) fun _ _ h12 => ?_)
    obtain ⟨rfl, rfl⟩ := h12
    refine VR.p rfl rfl (VP.not rfl) ?_
    refine VR.p rfl rfl (VP.assign rfl) ?_
    refine VR.nil ?_
    rcases ite_or hm with ⟨h5, hm⟩ | ⟨h5, hm⟩
    · refine VW.condT rfl h5 ?_
      refine VW.region ?_
      refine VR.p rfl rfl (VP.assign rfl) ?_
      refine VR.nil ?_
      refine VW.seq ?_
      refine VW.region ?_
      refine VR.p rfl rfl (VP.move rfl) ?_
      refine VR.p rfl rfl (VP.assign rfl) ?_
      refine VR.nil ?_
      obtain rfl := Option.some.inj hm
      exact VW.ret ⟨.inl rfl, _, .cons (.tmp _ _ rfl) .nil, [], _, rfl, rfl, rfl⟩
    · have h5 := bf h5
      refine VW.condF rfl h5 ?_
      refine VW.seq ?_
      refine VW.region ?_
      refine VR.p rfl rfl (VP.fieldP rfl fa37_3) ?_
      refine VR.p rfl rfl (VP.loadP (i := 1) rfl rfl ld26 rfl) ?_
      refine VR.p rfl rfl (VP.fieldP rfl fa31_4) ?_
      refine VR.p rfl rfl (VP.loadP (i := 0) rfl rfl ld27 rfl) ?_
      obtain ⟨r2, h6, hm⟩ := bnd hm
      refine VR.cons rfl rfl (VO.callK 0 rfl fn76 rfl (labels_All_ok m.Labels p.Terms r2 h6) fun _ _ h11 => ?_)
      obtain ⟨rfl, rfl⟩ := h11
      refine VR.p rfl rfl (VP.not rfl) ?_
      refine VR.p rfl rfl (VP.assign rfl) ?_
      refine VR.nil ?_
      rcases ite_or hm with ⟨h7, hm⟩ | ⟨h7, hm⟩
      · refine VW.condT rfl h7 ?_
        refine VW.region ?_
        refine VR.p rfl rfl (VP.assign rfl) ?_
        refine VR.nil ?_
        refine VW.seq ?_
        refine VW.region ?_
        refine VR.p rfl rfl (VP.move rfl) ?_
        refine VR.p rfl rfl (VP.assign rfl) ?_
        refine VR.nil ?_
        obtain rfl := Option.some.inj hm
        exact VW.ret ⟨.inl rfl, _, .cons (.tmp _ _ rfl) .nil, [], _, rfl, rfl, rfl⟩
      · have h7 := bf h7
        refine VW.condF rfl h7 ?_
        refine VW.seq ?_
        refine VW.region ?_
        refine VR.p rfl rfl (VP.fieldP rfl fa31_5) ?_
        refine VR.p rfl rfl (VP.loadP (i := 0) rfl rfl ld28 rfl) ?_
        refine VR.p rfl rfl (VP.fieldP rfl fa37_4) ?_
        refine VR.p rfl rfl (VP.loadP (i := 1) rfl rfl ld35 rfl) ?_
        obtain ⟨r3, h8, hm⟩ := bnd hm
        refine VR.cons rfl rfl (VO.callK 0 rfl fn77 rfl (taints_Allows_ok p.Bears m.Taints r3 h8) fun _ _ h10 => ?_)
        obtain ⟨rfl, rfl⟩ := h10
        refine VR.p rfl rfl (VP.not rfl) ?_
        refine VR.p rfl rfl (VP.assign rfl) ?_
        refine VR.nil ?_
        rcases ite_or hm with ⟨h9, hm⟩ | ⟨h9, hm⟩
        · refine VW.condT rfl h9 ?_
          refine VW.region ?_
          refine VR.p rfl rfl (VP.assign rfl) ?_
          refine VR.nil ?_
          refine VW.seq ?_
          refine VW.region ?_
          refine VR.p rfl rfl (VP.move rfl) ?_
          refine VR.p rfl rfl (VP.assign rfl) ?_
          refine VR.nil ?_
          obtain rfl := Option.some.inj hm
          exact VW.ret ⟨.inl rfl, _, .cons (.tmp _ _ rfl) .nil, [], _, rfl, rfl, rfl⟩
        · have h9 := bf h9
          refine VW.condF rfl h9 ?_
          refine VW.skip ?_
          refine VW.seq ?_
          refine VW.region ?_
          refine VR.p rfl rfl (VP.move rfl) ?_
          refine VR.p rfl rfl (VP.assign rfl) ?_
          refine VR.nil ?_
          obtain rfl := Option.some.inj hm
          exact VW.ret ⟨.inl rfl, _, .cons (.tmp _ _ rfl) .nil, [], _, rfl, rfl, rfl⟩

/-! trireme/suit.others -/
def suit_others.l1 (name : ByteArray) : List T_api_Bound → Nat → (List T_api_Bound) → Option (List T_api_Bound)
  | [], k, l2 => some l2
  | x :: l4, k, l2 =>
    if (!(V.seq x.Pod.Name name)) = true then
      (V.ap 288 l2 [x]).bind fun l5 =>
      suit_others.l1 name l4 (k + 1) l5
    else
      suit_others.l1 name l4 (k + 1) l2
def suit_others (bs : List T_api_Bound) (name : ByteArray) : Option (List T_api_Bound) :=
  (suit_others.l1 name bs 0 ([] : List T_api_Bound)).bind fun l32 =>
  some l32
theorem suit_others_ok (bs : List T_api_Bound) (name : ByteArray) (r : List T_api_Bound) (hm : suit_others bs name = some r) :
    VC Tryz.prog 78 [.list 56 (List.map T_api_Bound.vv bs), .str name] [] (fun zx zH => ∃ (ob0 : Option Nat) (cap0 : Nat), zx = .sl ob0 (List.map T_api_Bound.vv r).length cap0 ∧ zH = [.row ob0 56 cap0 (List.map T_api_Bound.vv r)]) := by
  unfold suit_others at hm
  refine VC.run (c := _) (rs := [.tmp 4]) Tryz.func78 rfl rfl rfl ?_
  refine VW.seq ?_
  refine VW.region ?_
  refine VR.p rfl rfl (VP.assign rfl) ?_
  refine VR.nil ?_
  refine VW.seq ?_
  refine VW.region ?_
  refine VR.p rfl rfl (VP.assign rfl) ?_
  refine VR.nil ?_
  refine VW.seq ?_
  refine VW.seq ?_
  refine VW.region ?_
  refine VR.p rfl rfl (VP.move rfl) ?_
  refine VR.p rfl rfl (VP.lenT T_api_Bound.vv rfl Tryz.underlying23) ?_
  refine VR.p rfl rfl (VP.move rfl) ?_
  refine VR.nil ?_
  refine VW.lenL 8 rfl fun h5 => ?_
  have h5 := max_map h5
  obtain ⟨o, h3, h4⟩ := bnd hm
  refine VW.joinE (fun (q : List T_api_Bound) => q = o) (fun (l32 : List T_api_Bound) (gg : Option Nat × Nat) => [(5, .sl gg.1 (List.map T_api_Bound.vv l32).length gg.2)]) (fun (l32 : List T_api_Bound) (gg : Option Nat × Nat) => [.row gg.1 56 gg.2 (List.map T_api_Bound.vv l32)]) ?_ ?_
  · have hm := h3
    refine VW.block (VW.loop (bs.length + 1) ?_)
    refine VL.eachS (l := bs) (R := _) (fun zl zk (zs : List T_api_Bound) => suit_others.l1 name zl zk zs) (fun (k : Nat) (zs : List T_api_Bound) (zg : Option Nat × Nat) => [(1, .str name), (5, .sl zg.1 (List.map T_api_Bound.vv zs).length zg.2), (8, .list 56 (List.map T_api_Bound.vv bs)), (9, .int .i64 (bs.length : Int)), (10, .int .i64 (k : Int))]) (fun (k : Nat) (zs : List T_api_Bound) (zg : Option Nat × Nat) => [.row zg.1 56 zg.2 (List.map T_api_Bound.vv zs)]) ([] : List T_api_Bound) (none, 0) (Shift.trans (Shift.nilRow 56) (Shift.pick [0] rfl ⟨rfl, rfl, rfl, rfl, rfl, trivial⟩)) h3 ?_ ?_
    · rintro k l2 ⟨ob2, cap2⟩ hk hm
      rw [suit_others.l1] at hm
      refine VW.seq ?_
      refine VW.region ?_
      refine VR.p rfl rfl (VP.arith rfl rfl rfl) ?_
      refine VR.nil ?_
      refine VW.seq ?_
      refine VW.condF rfl (k_end hk) ?_
      refine VW.exit ?_
      exact ⟨l2, (ob2, cap2), Option.some.inj hm, (Shift.pick [0] rfl ⟨rfl, trivial⟩)⟩
    · rintro k x l4 l2 ⟨ob2, cap2⟩ h6 hm
      rw [suit_others.l1] at hm
      refine VW.seq ?_
      refine VW.region ?_
      refine VR.p rfl rfl (VP.arith rfl rfl rfl) ?_
      refine VR.nil ?_
      refine VW.seq ?_
      refine VW.condT rfl (k_lt h6) ?_
      refine VW.skip ?_
      refine VW.seq ?_
      refine VW.block ?_
      refine VW.seq ?_
      refine VW.region ?_
      refine VR.p rfl rfl (VP.glK T_api_Bound.vv rfl rfl el23 h6) ?_
      refine VR.p rfl rfl (VP.loadE rfl ld56 rfl) ?_
      refine VR.cons rfl rfl (VO.alloc z56 fun b => ?_)
      refine VR.cons rfl rfl (VO.storeP (i := 0) rfl rfl rfl ld56 rfl rfl rfl ?_)
      refine VR.nil ?_
      refine VW.seq ?_
      refine VW.region ?_
      refine VR.p rfl rfl (VP.fieldP rfl fa56_0) ?_
      refine VR.p rfl rfl (VP.fieldP rfl fa31_0) ?_
      refine VR.p rfl rfl (VP.loadP (i := 0) rfl rfl ld9 rfl) ?_
      refine VR.p rfl rfl (VP.move rfl) ?_
      refine VR.p rfl rfl (VP.strop rfl rfl rfl) ?_
      refine VR.nil ?_
      rcases ite_or hm with ⟨h8, hm⟩ | ⟨h8, hm⟩
      · refine VW.condT rfl h8 ?_
        refine VW.region ?_
        refine VR.p rfl rfl (VP.move rfl) ?_
        refine VR.p rfl rfl (VP.loadP (i := 0) rfl rfl ld56 rfl) ?_
        refine VR.cons rfl rfl (VO.buildSlice ap23 rfl rfl rfl rfl rfl fun b2 => ?_)
        obtain ⟨l5, h10, hm⟩ := bnd hm
        refine VR.cons rfl rfl (VO.apT 2 T_api_Bound.vv (l := l2) (l2 := [x]) ap23 rfl rfl (sT_row 0 T_api_Bound.vv el23 rfl rfl) h10 fun ob4 cap4 => ?_)
        refine VR.p rfl rfl (VP.assign rfl) ?_
        refine VR.nil ?_
        refine VW.region ?_
        refine VR.p rfl rfl (VP.arith rfl rfl rfl) ?_
        refine VR.p rfl rfl (VP.move rfl) ?_
        refine VR.nil ?_
        exact ⟨l5, (ob4, cap4), hm, (Shift.pick [2] rfl ⟨rfl, rfl, rfl, rfl, congrArg some (k_next h6 h5), trivial⟩)⟩
      · have h8 := bf h8
        refine VW.condF rfl h8 ?_
        refine VW.skip ?_
        refine VW.region ?_
        refine VR.p rfl rfl (VP.arith rfl rfl rfl) ?_
        refine VR.p rfl rfl (VP.move rfl) ?_
        refine VR.nil ?_
        exact ⟨l2, (ob2, cap2), hm, (Shift.pick [1] rfl ⟨rfl, rfl, rfl, rfl, congrArg some (k_next h6 h5), trivial⟩)⟩
  · rintro l32 ⟨ob3, cap3⟩ rfl
    have hm := h4
    refine VW.seq ?_
    refine VW.region ?_
    refine VR.p rfl rfl (VP.move rfl) ?_
    refine VR.p rfl rfl (VP.assign rfl) ?_
    refine VR.nil ?_
    obtain rfl := Option.some.inj hm
    exact VW.ret ⟨.inl rfl, _, .cons (.tmp _ _ rfl) .nil, [0], _, rfl, ob3, cap3, rfl, rfl⟩

/-! trireme/yard.On -/
def yard_On.l1 (name : ByteArray) : List T_api_Bound → Nat → (List T_api_Pod) → Option (List T_api_Pod)
  | [], k, l2 => some l2
  | x :: l4, k, l2 =>
    if (V.seq x.On name) = true then
      (V.ap 272 l2 [x.Pod]).bind fun l5 =>
      yard_On.l1 name l4 (k + 1) l5
    else
      yard_On.l1 name l4 (k + 1) l2
def yard_On (bs : List T_api_Bound) (name : ByteArray) : Option (List T_api_Pod) :=
  (yard_On.l1 name bs 0 ([] : List T_api_Pod)).bind fun l32 =>
  some l32
theorem yard_On_ok (bs : List T_api_Bound) (name : ByteArray) (r : List T_api_Pod) (hm : yard_On bs name = some r) :
    VC Tryz.prog 81 [.list 56 (List.map T_api_Bound.vv bs), .str name] [] (fun zx zH => ∃ (ob0 : Option Nat) (cap0 : Nat), zx = .sl ob0 (List.map T_api_Pod.vv r).length cap0 ∧ zH = [.row ob0 31 cap0 (List.map T_api_Pod.vv r)]) := by
  unfold yard_On at hm
  refine VC.run (c := _) (rs := [.tmp 4]) Tryz.func81 rfl rfl rfl ?_
  refine VW.seq ?_
  refine VW.region ?_
  refine VR.p rfl rfl (VP.assign rfl) ?_
  refine VR.nil ?_
  refine VW.seq ?_
  refine VW.region ?_
  refine VR.p rfl rfl (VP.assign rfl) ?_
  refine VR.nil ?_
  refine VW.seq ?_
  refine VW.seq ?_
  refine VW.region ?_
  refine VR.p rfl rfl (VP.move rfl) ?_
  refine VR.p rfl rfl (VP.lenT T_api_Bound.vv rfl Tryz.underlying23) ?_
  refine VR.p rfl rfl (VP.move rfl) ?_
  refine VR.nil ?_
  refine VW.lenL 8 rfl fun h5 => ?_
  have h5 := max_map h5
  obtain ⟨o, h3, h4⟩ := bnd hm
  refine VW.joinE (fun (q : List T_api_Pod) => q = o) (fun (l32 : List T_api_Pod) (gg : Option Nat × Nat) => [(5, .sl gg.1 (List.map T_api_Pod.vv l32).length gg.2)]) (fun (l32 : List T_api_Pod) (gg : Option Nat × Nat) => [.row gg.1 31 gg.2 (List.map T_api_Pod.vv l32)]) ?_ ?_
  · have hm := h3
    refine VW.block (VW.loop (bs.length + 1) ?_)
    refine VL.eachS (l := bs) (R := _) (fun zl zk (zs : List T_api_Pod) => yard_On.l1 name zl zk zs) (fun (k : Nat) (zs : List T_api_Pod) (zg : Option Nat × Nat) => [(1, .str name), (5, .sl zg.1 (List.map T_api_Pod.vv zs).length zg.2), (8, .list 56 (List.map T_api_Bound.vv bs)), (9, .int .i64 (bs.length : Int)), (10, .int .i64 (k : Int))]) (fun (k : Nat) (zs : List T_api_Pod) (zg : Option Nat × Nat) => [.row zg.1 31 zg.2 (List.map T_api_Pod.vv zs)]) ([] : List T_api_Pod) (none, 0) (Shift.trans (Shift.nilRow 31) (Shift.pick [0] rfl ⟨rfl, rfl, rfl, rfl, rfl, trivial⟩)) h3 ?_ ?_
    · rintro k l2 ⟨ob2, cap2⟩ hk hm
      rw [yard_On.l1] at hm
      refine VW.seq ?_
      refine VW.region ?_
      refine VR.p rfl rfl (VP.arith rfl rfl rfl) ?_
      refine VR.nil ?_
      refine VW.seq ?_
      refine VW.condF rfl (k_end hk) ?_
      refine VW.exit ?_
      exact ⟨l2, (ob2, cap2), Option.some.inj hm, (Shift.pick [0] rfl ⟨rfl, trivial⟩)⟩
    · rintro k x l4 l2 ⟨ob2, cap2⟩ h6 hm
      rw [yard_On.l1] at hm
      refine VW.seq ?_
      refine VW.region ?_
      refine VR.p rfl rfl (VP.arith rfl rfl rfl) ?_
      refine VR.nil ?_
      refine VW.seq ?_
      refine VW.condT rfl (k_lt h6) ?_
      refine VW.skip ?_
      refine VW.seq ?_
      refine VW.block ?_
      refine VW.seq ?_
      refine VW.region ?_
      refine VR.p rfl rfl (VP.glK T_api_Bound.vv rfl rfl el23 h6) ?_
      refine VR.p rfl rfl (VP.loadE rfl ld56 rfl) ?_
      refine VR.cons rfl rfl (VO.alloc z56 fun b => ?_)
      refine VR.cons rfl rfl (VO.storeP (i := 0) rfl rfl rfl ld56 rfl rfl rfl ?_)
      refine VR.nil ?_
      refine VW.seq ?_
      refine VW.region ?_
      refine VR.p rfl rfl (VP.fieldP rfl fa56_1) ?_
      refine VR.p rfl rfl (VP.loadP (i := 0) rfl rfl ld9 rfl) ?_
      refine VR.p rfl rfl (VP.move rfl) ?_
      refine VR.p rfl rfl (VP.strop rfl rfl rfl) ?_
      refine VR.nil ?_
      rcases ite_or hm with ⟨h8, hm⟩ | ⟨h8, hm⟩
      · refine VW.condT rfl h8 ?_
        refine VW.region ?_
        refine VR.p rfl rfl (VP.move rfl) ?_
        refine VR.p rfl rfl (VP.fieldP rfl fa56_0) ?_
        refine VR.p rfl rfl (VP.loadP (i := 0) rfl rfl ld31 rfl) ?_
        refine VR.cons rfl rfl (VO.buildSlice ap89 rfl rfl rfl rfl rfl fun b2 => ?_)
        obtain ⟨l5, h10, hm⟩ := bnd hm
        refine VR.cons rfl rfl (VO.apT 2 T_api_Pod.vv (l := l2) (l2 := [x.Pod]) ap89 rfl rfl (sT_row 0 T_api_Pod.vv el89 rfl rfl) h10 fun ob4 cap4 => ?_)
        refine VR.p rfl rfl (VP.assign rfl) ?_
        refine VR.nil ?_
        refine VW.region ?_
        refine VR.p rfl rfl (VP.arith rfl rfl rfl) ?_
        refine VR.p rfl rfl (VP.move rfl) ?_
        refine VR.nil ?_
        exact ⟨l5, (ob4, cap4), hm, (Shift.pick [2] rfl ⟨rfl, rfl, rfl, rfl, congrArg some (k_next h6 h5), trivial⟩)⟩
      · have h8 := bf h8
        refine VW.condF rfl h8 ?_
        refine VW.skip ?_
        refine VW.region ?_
        refine VR.p rfl rfl (VP.arith rfl rfl rfl) ?_
        refine VR.p rfl rfl (VP.move rfl) ?_
        refine VR.nil ?_
        exact ⟨l2, (ob2, cap2), hm, (Shift.pick [1] rfl ⟨rfl, rfl, rfl, rfl, congrArg some (k_next h6 h5), trivial⟩)⟩
  · rintro l32 ⟨ob3, cap3⟩ rfl
    have hm := h4
    refine VW.seq ?_
    refine VW.region ?_
    refine VR.p rfl rfl (VP.move rfl) ?_
    refine VR.p rfl rfl (VP.assign rfl) ?_
    refine VR.nil ?_
    obtain rfl := Option.some.inj hm
    exact VW.ret ⟨.inl rfl, _, .cons (.tmp _ _ rfl) .nil, [0], _, rfl, ob3, cap3, rfl, rfl⟩

/-! trireme/res.row -/
def res_row (a : T_api_Res) : Option Arr5_Int :=
  some (⟨a.Cpu, a.Mem, a.Disk, a.Pods, a.Dev⟩ : Arr5_Int)
theorem res_row_ok (a : T_api_Res) (r : Arr5_Int) (hm : res_row a = some r) :
    VC Tryz.prog 119 [T_api_Res.vv a] [] (fun zx zH => zx = Arr5_Int.vv r ∧ zH = []) := by
  unfold res_row at hm
  refine VC.run (c := _) (rs := [.cell 2 127]) Tryz.func119 rfl rfl rfl ?_
  refine VW.seq ?_
  refine VW.region ?_
  refine VR.cons rfl rfl (VO.box rfl rfl fun b => ?_)
  refine VR.cons rfl rfl (VO.alloc z127 fun b2 => ?_)
  refine VR.nil ?_
  refine VW.seq ?_
  refine VW.region ?_
  refine VR.p rfl rfl (VP.fieldP rfl fa25_0) ?_
  refine VR.p rfl rfl (VP.loadP (i := 1) rfl rfl ld3 rfl) ?_
  refine VR.p rfl rfl (VP.fieldP rfl fa25_1) ?_
  refine VR.p rfl rfl (VP.loadP (i := 1) rfl rfl ld3 rfl) ?_
  refine VR.p rfl rfl (VP.fieldP rfl fa25_2) ?_
  refine VR.p rfl rfl (VP.loadP (i := 1) rfl rfl ld3 rfl) ?_
  refine VR.p rfl rfl (VP.fieldP rfl fa25_3) ?_
  refine VR.p rfl rfl (VP.loadP (i := 1) rfl rfl ld3 rfl) ?_
  refine VR.p rfl rfl (VP.fieldP rfl fa25_4) ?_
  refine VR.p rfl rfl (VP.loadP (i := 1) rfl rfl ld3 rfl) ?_
  refine VR.p rfl rfl (VP.buildP pl127 rfl rfl) ?_
  refine VR.cons rfl rfl (VO.storeP (i := 0) rfl rfl rfl ld127 rfl rfl rfl ?_)
  refine VR.nil ?_
  obtain rfl := Option.some.inj hm
  exact VW.ret ⟨.inl rfl, _, .cons (.cell _ _ _ _ 0 _ _ _ _ rfl rfl ld127 rfl) .nil, [], _, rfl, rfl, rfl⟩

/-! trireme/res.Right -/
def res_Right.l1 (r : Arr5_Int) : Nat → Int → Option (Out Bool Unit)
  | 0, _ => none
  | n + 1, v2 =>
    if (decide (v2 < (5 : Int))) = true then
      (V.gl (Arr5_Int.l r) v2).bind fun x =>
      if ((decide (x < (0 : Int))) || (decide (x > (1125899906842624 : Int)))) = true then
        some (Out.ret false)
      else
        res_Right.l1 r n (IntKind.i64.wrap (v2 + (1 : Int)))
    else
      some (Out.go ())
def res_Right (a : T_api_Res) : Option Bool :=
  (res_row a).bind fun r =>
  (res_Right.l1 r FU (0 : Int)).bind fun o =>
  o.on fun j =>
  some true
theorem res_Right_ok (a : T_api_Res) (r : Bool) (hm : res_Right a = some r) :
    VC Tryz.prog 114 [T_api_Res.vv a] [] (fun zx zH => zx = .bool r ∧ zH = []) := by
  unfold res_Right at hm
  refine VC.run (c := _) (rs := [.tmp 2]) Tryz.func114 rfl rfl rfl ?_
  refine VW.seq ?_
  refine VW.region ?_
  refine VR.cons rfl rfl (VO.box rfl rfl fun b => ?_)
  refine VR.p rfl rfl (VP.assign rfl) ?_
  refine VR.nil ?_
  refine VW.seq ?_
  refine VW.seq ?_
  refine VW.region ?_
  refine VR.p rfl rfl (VP.loadP (i := 0) rfl rfl ld25 rfl) ?_
  obtain ⟨r, h2, hm⟩ := bnd hm
  refine VR.cons rfl rfl (VO.callK 0 rfl fn119 rfl (res_row_ok a r h2) fun _ _ h9 => ?_)
  obtain ⟨rfl, rfl⟩ := h9
  refine VR.p rfl rfl (VP.move rfl) ?_
  refine VR.nil ?_
  obtain ⟨o, h3, h4⟩ := bnd hm
  refine VW.joinE (fun (q : Unit) => o = Out.go q) (fun (j : Unit) (gg : Unit) => []) (fun (j : Unit) (gg : Unit) => []) ?_ ?_
  · have hm := h3
    refine VW.block (VW.loop FU ?_)
    refine VL.fuelS (R := _) (fun zn (zs : Int) => res_Right.l1 r zn zs) (fun (zs : Int) (zg : Unit) => [(6, Arr5_Int.vv r), (7, .int .i64 zs)]) (fun (zs : Int) (zg : Unit) => []) (0 : Int) () (fun zs => rfl) (Shift.pick [] rfl ⟨rfl, rfl, trivial⟩) h3 ?_
    rintro n v2 _ hm
    rw [res_Right.l1] at hm
    refine VW.seq ?_
    refine VW.region ?_
    refine VR.p rfl rfl (VP.arith rfl rfl rfl) ?_
    refine VR.nil ?_
    refine VW.seq ?_
    rcases ite_or hm with ⟨h5, hm⟩ | ⟨h5, hm⟩
    · refine VW.condT rfl h5 ?_
      refine VW.skip ?_
      refine VW.seq ?_
      refine VW.block ?_
      refine VW.seq ?_
      refine VW.region ?_
      obtain ⟨x, h6, hm⟩ := bnd hm
      refine VR.p rfl rfl (VP.indexG (f := (VV.int .i64)) rfl rfl ar127 rfl ld3 h6) ?_
      refine VR.p rfl rfl (VP.assign rfl) ?_
      refine VR.nil ?_
      refine VW.seq ?_
      refine VW.region ?_
      refine VR.p rfl rfl (VP.move rfl) ?_
      refine VR.p rfl rfl (VP.arith rfl rfl rfl) ?_
      refine VR.p rfl rfl (VP.move rfl) ?_
      refine VR.sc 3 15 (.bool ((decide (x < (0 : Int))) || (decide (x > (1125899906842624 : Int))))) (fun K' J => ?_) ?_
      · rcases Bool.eq_false_or_eq_true (decide (x < (0 : Int))) with h7 | h7
        · refine VR.skipG rfl rfl rfl rfl h7 ?_
          refine VR.skipG rfl rfl rfl rfl h7 ?_
          refine VR.p rfl rfl (VP.pickB true rfl h7 rfl) ?_
          exact J [_, _] _ rfl (orT h7)
        · refine VR.pG rfl rfl rfl rfl h7 (VP.move rfl) ?_
          refine VR.pG rfl rfl rfl rfl h7 (VP.arith rfl rfl rfl) ?_
          refine VR.p rfl rfl (VP.pickB false rfl h7 rfl) ?_
          exact J [_, _] _ rfl (orF h7)
      · refine VR.nil ?_
        rcases ite_or hm with ⟨h8, hm⟩ | ⟨h8, hm⟩
        · refine VW.condT rfl h8 ?_
          refine VW.seq ?_
          refine VW.region ?_
          refine VR.p rfl rfl (VP.assign rfl) ?_
          refine VR.nil ?_
          obtain rfl := Option.some.inj hm
          have hm := Out.ret_on h4
          obtain rfl := Option.some.inj hm
          exact VW.ret ⟨.inl rfl, _, .cons (.tmp _ _ rfl) .nil, [], _, rfl, rfl, rfl⟩
        · have h8 := bf h8
          refine VW.condF rfl h8 ?_
          refine VW.skip ?_
          refine VW.region ?_
          refine VR.p rfl rfl (VP.arith rfl rfl rfl) ?_
          refine VR.p rfl rfl (VP.move rfl) ?_
          refine VR.nil ?_
          exact ⟨(IntKind.i64.wrap (v2 + (1 : Int))), (), hm, (Shift.pick [] rfl ⟨rfl, rfl, trivial⟩)⟩
    · have h5 := bf h5
      refine VW.condF rfl h5 ?_
      refine VW.exit ?_
      exact ⟨(), (), (Option.some.inj hm).symm, (Shift.pick [] rfl trivial)⟩
  · rintro j _ rfl
    have hm := Out.go_on h4
    refine VW.seq ?_
    refine VW.region ?_
    refine VR.p rfl rfl (VP.assign rfl) ?_
    refine VR.nil ?_
    obtain rfl := Option.some.inj hm
    exact VW.ret ⟨.inl rfl, _, .cons (.tmp _ _ rfl) .nil, [], _, rfl, rfl, rfl⟩

/-! trireme/yard.Used$1 -/
def yard_Used_1 (i : Int) (a : List T_api_Pod) : Option Bool :=
  (V.gl a i).bind fun x =>
  (res_Right x.Need).bind fun r =>
  some (!r)
theorem yard_Used_1_ok (i : Int) (a : List T_api_Pod) (b : Nat) (r : Bool) (hm : yard_Used_1 i a = some r) :
    VC Tryz.prog 113 [.int .i64 i, .ptr b 0] [.box b 89 [.list 31 (List.map T_api_Pod.vv a)]] (fun zx zH => zx = .bool r ∧ zH = [.box b 89 [.list 31 (List.map T_api_Pod.vv a)]]) := by
  unfold yard_Used_1 at hm
  refine VC.run (c := _) (rs := [.tmp 3]) Tryz.func113 rfl rfl rfl ?_
  refine VW.seq ?_
  refine VW.region ?_
  refine VR.p rfl rfl (VP.assign rfl) ?_
  refine VR.nil ?_
  refine VW.seq ?_
  refine VW.region ?_
  refine VR.p rfl rfl (VP.loadP (i := 0) rfl rfl ld89 rfl) ?_
  refine VR.p rfl rfl (VP.move rfl) ?_
  obtain ⟨x, h1, hm⟩ := bnd hm
  refine VR.p rfl rfl (VP.glE T_api_Pod.vv rfl rfl el89 h1) ?_
  refine VR.p rfl rfl (VP.fieldE rfl fa31_1) ?_
  refine VR.p rfl rfl (VP.loadE rfl ld25 rfl) ?_
  obtain ⟨r, h2, hm⟩ := bnd hm
  refine VR.cons rfl rfl (VO.callK 0 rfl fn114 rfl (res_Right_ok x.Need r h2) fun _ _ h3 => ?_)
  obtain ⟨rfl, rfl⟩ := h3
  refine VR.p rfl rfl (VP.not rfl) ?_
  refine VR.p rfl rfl (VP.assign rfl) ?_
  refine VR.nil ?_
  obtain rfl := Option.some.inj hm
  exact VW.ret ⟨.inl rfl, _, .cons (.tmp _ _ rfl) .nil, [0], _, rfl, rfl, rfl⟩

/-! trireme/yard.first -/
def yard_first_yard_Used_1.l1 (n : Int) (c : List T_api_Pod) : Nat → Int → Option (Out Int Unit)
  | 0, _ => none
  | n2 + 1, v2 =>
    if (decide (v2 < n)) = true then
      (yard_Used_1 v2 c).bind fun r =>
      if r = true then
        some (Out.ret v2)
      else
        yard_first_yard_Used_1.l1 n c n2 (IntKind.i64.wrap (v2 + (1 : Int)))
    else
      some (Out.go ())
def yard_first_yard_Used_1 (n : Int) (c : List T_api_Pod) : Option Int :=
  (yard_first_yard_Used_1.l1 n c FU (0 : Int)).bind fun o =>
  o.on fun j =>
  some (-1 : Int)
theorem yard_first_yard_Used_1_ok (n : Int) (c : List T_api_Pod) (b : Nat) (r : Int) (hm : yard_first_yard_Used_1 n c = some r) :
    VC Tryz.prog 41 [.int .i64 n, .clo (.func 113) [] [.ptr b 0]] [.box b 89 [.list 31 (List.map T_api_Pod.vv c)]] (fun zx zH => zx = .int .i64 r ∧ zH = [.box b 89 [.list 31 (List.map T_api_Pod.vv c)]]) := by
  unfold yard_first_yard_Used_1 at hm
  refine VC.run (c := _) (rs := [.tmp 4]) Tryz.func41 rfl rfl rfl ?_
  refine VW.seq ?_
  refine VW.region ?_
  refine VR.p rfl rfl (VP.assign rfl) ?_
  refine VR.nil ?_
  refine VW.seq ?_
  refine VW.seq ?_
  refine VW.region ?_
  refine VR.p rfl rfl (VP.move rfl) ?_
  refine VR.p rfl rfl (VP.move rfl) ?_
  refine VR.nil ?_
  obtain ⟨o, h1, h2⟩ := bnd hm
  refine VW.joinE (fun (q : Unit) => o = Out.go q) (fun (j : Unit) (gg : Unit) => []) (fun (j : Unit) (gg : Unit) => [.box b 89 [.list 31 (List.map T_api_Pod.vv c)]]) ?_ ?_
  · have hm := h1
    refine VW.block (VW.loop FU ?_)
    refine VL.fuelS (R := _) (fun zn (zs : Int) => yard_first_yard_Used_1.l1 n c zn zs) (fun (zs : Int) (zg : Unit) => [(1, .clo (.func 113) [] [.ptr b 0]), (6, .int .i64 n), (7, .int .i64 zs)]) (fun (zs : Int) (zg : Unit) => [.box b 89 [.list 31 (List.map T_api_Pod.vv c)]]) (0 : Int) () (fun zs => rfl) (Shift.pick [0] rfl ⟨rfl, rfl, rfl, trivial⟩) h1 ?_
    rintro n2 v2 _ hm
    rw [yard_first_yard_Used_1.l1] at hm
    refine VW.seq ?_
    refine VW.region ?_
    refine VR.p rfl rfl (VP.arith rfl rfl rfl) ?_
    refine VR.nil ?_
    refine VW.seq ?_
    rcases ite_or hm with ⟨h3, hm⟩ | ⟨h3, hm⟩
    · refine VW.condT rfl h3 ?_
      refine VW.skip ?_
      refine VW.seq ?_
      refine VW.block ?_
      refine VW.seq ?_
      refine VW.region ?_
      refine VR.p rfl rfl (VP.move rfl) ?_
      refine VR.p rfl rfl (VP.assign rfl) ?_
      refine VR.nil ?_
      refine VW.seq ?_
      refine VW.region ?_
      refine VR.p rfl rfl (VP.move rfl) ?_
      refine VR.p rfl rfl (VP.move rfl) ?_
      obtain ⟨r, h4, hm⟩ := bnd hm
      refine VR.cons rfl rfl (VO.callK 1 rfl fn113 rfl (yard_Used_1_ok v2 c b r h4) fun _ _ h6 => ?_)
      obtain ⟨rfl, rfl⟩ := h6
      refine VR.nil ?_
      rcases ite_or hm with ⟨h5, hm⟩ | ⟨h5, hm⟩
      · refine VW.condT rfl h5 ?_
        refine VW.seq ?_
        refine VW.region ?_
        refine VR.p rfl rfl (VP.move rfl) ?_
        refine VR.p rfl rfl (VP.assign rfl) ?_
        refine VR.nil ?_
        obtain rfl := Option.some.inj hm
        have hm := Out.ret_on h2
        obtain rfl := Option.some.inj hm
        exact VW.ret ⟨.inl rfl, _, .cons (.tmp _ _ rfl) .nil, [0], _, rfl, rfl, rfl⟩
      · have h5 := bf h5
        refine VW.condF rfl h5 ?_
        refine VW.skip ?_
        refine VW.region ?_
        refine VR.p rfl rfl (VP.arith rfl rfl rfl) ?_
        refine VR.p rfl rfl (VP.move rfl) ?_
        refine VR.nil ?_
        exact ⟨(IntKind.i64.wrap (v2 + (1 : Int))), (), hm, (Shift.pick [0] rfl ⟨rfl, rfl, rfl, trivial⟩)⟩
    · have h3 := bf h3
      refine VW.condF rfl h3 ?_
      refine VW.exit ?_
      exact ⟨(), (), (Option.some.inj hm).symm, (Shift.pick [0] rfl trivial)⟩
  · rintro j _ rfl
    have hm := Out.go_on h2
    refine VW.seq ?_
    refine VW.region ?_
    refine VR.p rfl rfl (VP.assign rfl) ?_
    refine VR.nil ?_
    obtain rfl := Option.some.inj hm
    exact VW.ret ⟨.inl rfl, _, .cons (.tmp _ _ rfl) .nil, [0], _, rfl, rfl, rfl⟩

/-! trireme/res.Add$1 -/
def res_Add_1 (x : Int) (y : Int) : Option Int :=
  some (IntKind.i64.wrap (x + y))
theorem res_Add_1_ok (x : Int) (y : Int) (r : Int) (hm : res_Add_1 x y = some r) :
    VC Tryz.prog 121 [.int .i64 x, .int .i64 y] [] (fun zx zH => zx = .int .i64 r ∧ zH = []) := by
  unfold res_Add_1 at hm
  refine VC.run (c := _) (rs := [.tmp 4]) Tryz.func121 rfl rfl rfl ?_
  refine VW.seq ?_
  refine VW.region ?_
  refine VR.p rfl rfl (VP.assign rfl) ?_
  refine VR.nil ?_
  refine VW.seq ?_
  refine VW.region ?_
  refine VR.p rfl rfl (VP.move rfl) ?_
  refine VR.p rfl rfl (VP.move rfl) ?_
  refine VR.p rfl rfl (VP.arith rfl rfl rfl) ?_
  refine VR.p rfl rfl (VP.assign rfl) ?_
  refine VR.nil ?_
  obtain rfl := Option.some.inj hm
  exact VW.ret ⟨.inl rfl, _, .cons (.tmp _ _ rfl) .nil, [], _, rfl, rfl, rfl⟩

/-! trireme/res.back -/
def res_back (l : Arr5_Int) : Option T_api_Res :=
  some (⟨l.x0, l.x1, l.x2, l.x3, l.x4⟩ : T_api_Res)
theorem res_back_ok (l : Arr5_Int) (r : T_api_Res) (hm : res_back l = some r) :
    VC Tryz.prog 120 [Arr5_Int.vv l] [] (fun zx zH => zx = T_api_Res.vv r ∧ zH = []) := by
  unfold res_back at hm
  refine VC.run (c := _) (rs := [.cell 2 25]) Tryz.func120 rfl rfl rfl ?_
  refine VW.seq ?_
  refine VW.region ?_
  refine VR.cons rfl rfl (VO.box rfl rfl fun b => ?_)
  refine VR.cons rfl rfl (VO.alloc z25 fun b2 => ?_)
  refine VR.nil ?_
  refine VW.seq ?_
  refine VW.region ?_
  refine VR.p rfl rfl (VP.indexA rfl rfl ar127 (by decide) (by decide)) ?_
  refine VR.p rfl rfl (VP.loadP (i := 1) rfl rfl ld3 rfl) ?_
  refine VR.p rfl rfl (VP.indexA rfl rfl ar127 (by decide) (by decide)) ?_
  refine VR.p rfl rfl (VP.loadP (i := 1) rfl rfl ld3 rfl) ?_
  refine VR.p rfl rfl (VP.indexA rfl rfl ar127 (by decide) (by decide)) ?_
  refine VR.p rfl rfl (VP.loadP (i := 1) rfl rfl ld3 rfl) ?_
  refine VR.p rfl rfl (VP.indexA rfl rfl ar127 (by decide) (by decide)) ?_
  refine VR.p rfl rfl (VP.loadP (i := 1) rfl rfl ld3 rfl) ?_
  refine VR.p rfl rfl (VP.indexA rfl rfl ar127 (by decide) (by decide)) ?_
  refine VR.p rfl rfl (VP.loadP (i := 1) rfl rfl ld3 rfl) ?_
  refine VR.p rfl rfl (VP.buildP pl25 rfl rfl) ?_
  refine VR.cons rfl rfl (VO.storeP (i := 0) rfl rfl rfl ld25 rfl rfl rfl ?_)
  refine VR.nil ?_
  obtain rfl := Option.some.inj hm
  exact VW.ret ⟨.inl rfl, _, .cons (.cell _ _ _ _ 0 _ _ _ _ rfl rfl ld25 rfl) .nil, [], _, rfl, rfl, rfl⟩

/-! trireme/res.each -/
def res_each_res_Add_1.l1 (j : Arr5_Int × Arr5_Int) : Nat → Arr5_Int → Int → Option Arr5_Int
  | 0, _, _ => none
  | n + 1, l3, v2 =>
    if (decide (v2 < (5 : Int))) = true then
      (V.gl (Arr5_Int.l l3) v2).bind fun x =>
      (V.gl (Arr5_Int.l j.2) v2).bind fun x2 =>
      (res_Add_1 x x2).bind fun r19 =>
      (V.gl (Arr5_Int.l l3) v2).bind fun x3 =>
      (Arr5_Int.put l3 v2 r19).bind fun l6 =>
      res_each_res_Add_1.l1 j n l6 (IntKind.i64.wrap (v2 + (1 : Int)))
    else
      some l3
def res_each_res_Add_1 (a : T_api_Res) (b : T_api_Res) (wrong : Int) : Option (T_api_Res × Int) :=
  (res_Right a).bind fun r =>
  (if (!r) = true then some true else (res_Right b).bind fun r2 =>
  some (!r2)).bind fun c =>
  if c = true then
    some ((⟨(0 : Int), (0 : Int), (0 : Int), (0 : Int), (0 : Int)⟩ : T_api_Res), (1 : Int))
  else
    ((res_row a).bind fun r3 =>
    (res_row b).bind fun r4 =>
    some (r3, r4)).bind fun j =>
    (res_each_res_Add_1.l1 j FU j.1 (0 : Int)).bind fun l42 =>
    (res_back l42).bind fun r20 =>
    (res_Right r20).bind fun r21 =>
    if r21 = true then
      some (r20, (0 : Int))
    else
      some ((⟨(0 : Int), (0 : Int), (0 : Int), (0 : Int), (0 : Int)⟩ : T_api_Res), wrong)
theorem res_each_res_Add_1_ok (a : T_api_Res) (b : T_api_Res) (wrong : Int) (r : T_api_Res × Int) (hm : res_each_res_Add_1 a b wrong = some r) :
    VC Tryz.prog 111 [T_api_Res.vv a, T_api_Res.vv b, .clo (.func 121) [] [], .int .i64 wrong] [] (fun zx zH => zx = .tup [T_api_Res.vv r.1, .int .i64 r.2] ∧ zH = []) := by
  unfold res_each_res_Add_1 at hm
  refine VC.run (c := _) (rs := [.cell 8 25, .tmp 9]) Tryz.func111 rfl rfl rfl ?_
  refine VW.seq ?_
  refine VW.region ?_
  refine VR.cons rfl rfl (VO.box rfl rfl fun b2 => ?_)
  refine VR.cons rfl rfl (VO.box rfl rfl fun b3 => ?_)
  refine VR.cons rfl rfl (VO.alloc z25 fun b4 => ?_)
  refine VR.p rfl rfl (VP.assign rfl) ?_
  refine VR.nil ?_
  refine VW.seq ?_
  refine VW.seq ?_
  refine VW.region ?_
  refine VR.p rfl rfl (VP.loadP (i := 2) rfl rfl ld25 rfl) ?_
  obtain ⟨r, h4, hm⟩ := bnd hm
  refine VR.cons rfl rfl (VO.callK 0 rfl fn114 rfl (res_Right_ok a r h4) fun _ _ h79 => ?_)
  obtain ⟨rfl, rfl⟩ := h79
  refine VR.p rfl rfl (VP.not rfl) ?_
  refine VR.p rfl rfl (VP.move rfl) ?_
  obtain ⟨c, h8, hm⟩ := bnd hm
  refine VR.sc 4 21 (.bool c) (fun K' J => ?_) ?_
  · have hm := h8
    rcases ite_or hm with ⟨h5, hm⟩ | ⟨h5, hm⟩
    · refine VR.skipG rfl rfl rfl rfl h5 ?_
      refine VR.skipG rfl rfl rfl rfl h5 ?_
      refine VR.skipG rfl rfl rfl rfl h5 ?_
      refine VR.p rfl rfl (VP.pickB true rfl h5 rfl) ?_
      exact J [_, _, _] _ rfl (congrArg VV.bool (Option.some.inj hm))
    · have h5 := bf h5
      refine VR.pG rfl rfl rfl rfl h5 (VP.loadP (i := 1) rfl rfl ld25 rfl) ?_
      obtain ⟨r2, h6, hm⟩ := bnd hm
      refine VR.consG rfl rfl rfl rfl h5 (VO.callK 0 rfl fn114 rfl (res_Right_ok b r2 h6) fun _ _ h7 => ?_)
      obtain ⟨rfl, rfl⟩ := h7
      refine VR.pG rfl rfl rfl rfl h5 (VP.not rfl) ?_
      refine VR.p rfl rfl (VP.pickB false rfl h5 rfl) ?_
      exact J [_, _, _] _ rfl (congrArg VV.bool (Option.some.inj hm))
  · refine VR.nil ?_
    rcases ite_or hm with ⟨h9, hm⟩ | ⟨h9, hm⟩
    · refine VW.condT rfl h9 ?_
      refine VW.seq ?_
      refine VW.region ?_
      refine VR.p rfl rfl (VP.buildP pl25 rfl rfl) ?_
      refine VR.cons rfl rfl (VO.storeP (i := 0) rfl rfl rfl ld25 rfl rfl rfl ?_)
      refine VR.p rfl rfl (VP.assign rfl) ?_
      refine VR.nil ?_
      obtain rfl := Option.some.inj hm
      exact VW.ret ⟨.inl rfl, _, .cons (.cell _ _ _ _ 0 _ _ _ _ rfl rfl ld25 rfl) (.cons (.tmp _ _ rfl) .nil), [], _, rfl, rfl, rfl⟩
    · have h9 := bf h9
      refine VW.condF rfl h9 ?_
      refine VW.skip ?_
      obtain ⟨o, h12, h13⟩ := bnd hm
      refine VW.join (fun (q : Arr5_Int × Arr5_Int) => q = o) (fun (j : Arr5_Int × Arr5_Int) (gg : Nat × Nat) => [(2, .clo (.func 121) [] []), (3, .int .i64 wrong), (8, .ptr b4 0), (10, .ptr gg.1 0), (11, .ptr gg.2 0)]) (fun (j : Arr5_Int × Arr5_Int) (gg : Nat × Nat) => [.box gg.2 127 (Arr5_Int.cells j.2), .box gg.1 127 (Arr5_Int.cells j.1), .box b4 25 (T_api_Res.cells (⟨(0 : Int), (0 : Int), (0 : Int), (0 : Int), (0 : Int)⟩ : T_api_Res))]) ?_ ?_
      · have hm := h12
        refine VW.drawK 0 mixed ?_
        refine VA.p 0 rfl rfl rfl (by kernel_rfl) (VP.loadP (i := 2) rfl rfl ld25 rfl) ?_
        refine VA.p 2 rfl rfl rfl (by kernel_rfl) (VP.loadP (i := 1) rfl rfl ld25 rfl) ?_
        refine VA.all [1, 4, 5] (by kernel_rfl) ⟨?_, ?_, ?_, trivial⟩
        · obtain ⟨r3, h14, hm⟩ := bnd hm
          refine VB.o rfl rfl rfl (VO.callK 0 rfl fn119 rfl (res_row_ok a r3 h14) fun _ _ h35 => ?_)
          obtain ⟨rfl, rfl⟩ := h35
          refine VA.all [3, 4, 5] (by kernel_rfl) ⟨?_, ?_, ?_, trivial⟩
          · obtain ⟨r4, h15, hm⟩ := bnd hm
            refine VB.o rfl rfl rfl (VO.callK 0 rfl fn119 rfl (res_row_ok b r4 h15) fun _ _ h20 => ?_)
            obtain ⟨rfl, rfl⟩ := h20
            refine VA.all [4, 5] (by kernel_rfl) ⟨?_, ?_, trivial⟩
            · refine VB.o rfl rfl rfl (VO.alloc z127 fun b7 => ?_)
              refine VA.all [5] (by kernel_rfl) ⟨?_, trivial⟩
              refine VB.o rfl rfl rfl (VO.alloc z127 fun b8 => ?_)
              refine VA.all [6] (by kernel_rfl) ⟨?_, trivial⟩
              refine VB.o rfl rfl rfl (VO.storeP (i := 1) rfl rfl rfl ld127 rfl rfl rfl ?_)
              refine VA.all [7] (by kernel_rfl) ⟨?_, trivial⟩
              refine VB.o rfl rfl rfl (VO.storeP (i := 0) rfl rfl rfl ld127 rfl rfl rfl ?_)
              refine VA.done (by kernel_rfl) ?_
              exact ⟨(r3, r4), (b7, b8), Option.some.inj hm, (Shift.pick [0, 0, 0] rfl ⟨rfl, rfl, rfl, rfl, rfl, trivial⟩)⟩
            · refine VB.o rfl rfl rfl (VO.alloc z127 fun b9 => ?_)
              refine VA.all [4] (by kernel_rfl) ⟨?_, trivial⟩
              refine VB.o rfl rfl rfl (VO.alloc z127 fun b10 => ?_)
              refine VA.all [6] (by kernel_rfl) ⟨?_, trivial⟩
              refine VB.o rfl rfl rfl (VO.storeP (i := 0) rfl rfl rfl ld127 rfl rfl rfl ?_)
              refine VA.all [7] (by kernel_rfl) ⟨?_, trivial⟩
              refine VB.o rfl rfl rfl (VO.storeP (i := 1) rfl rfl rfl ld127 rfl rfl rfl ?_)
              refine VA.done (by kernel_rfl) ?_
              exact ⟨(r3, r4), (b10, b9), Option.some.inj hm, (Shift.pick [1, 0, 0] rfl ⟨rfl, rfl, rfl, rfl, rfl, trivial⟩)⟩
          · refine VB.o rfl rfl rfl (VO.alloc z127 fun b11 => ?_)
            refine VA.all [3, 5] (by kernel_rfl) ⟨?_, ?_, trivial⟩
            · obtain ⟨r5, h22, hm⟩ := bnd hm
              refine VB.o rfl rfl rfl (VO.callK 0 rfl fn119 rfl (res_row_ok b r5 h22) fun _ _ h24 => ?_)
              obtain ⟨rfl, rfl⟩ := h24
              refine VA.all [5] (by kernel_rfl) ⟨?_, trivial⟩
              refine VB.o rfl rfl rfl (VO.alloc z127 fun b12 => ?_)
              refine VA.all [6] (by kernel_rfl) ⟨?_, trivial⟩
              refine VB.o rfl rfl rfl (VO.storeP (i := 1) rfl rfl rfl ld127 rfl rfl rfl ?_)
              refine VA.all [7] (by kernel_rfl) ⟨?_, trivial⟩
              refine VB.o rfl rfl rfl (VO.storeP (i := 0) rfl rfl rfl ld127 rfl rfl rfl ?_)
              refine VA.done (by kernel_rfl) ?_
              exact ⟨(r3, r5), (b11, b12), Option.some.inj hm, (Shift.pick [0, 0, 0] rfl ⟨rfl, rfl, rfl, rfl, rfl, trivial⟩)⟩
            · refine VB.o rfl rfl rfl (VO.alloc z127 fun b13 => ?_)
              refine VA.all [3] (by kernel_rfl) ⟨?_, trivial⟩
              obtain ⟨r6, h26, hm⟩ := bnd hm
              refine VB.o rfl rfl rfl (VO.callK 0 rfl fn119 rfl (res_row_ok b r6 h26) fun _ _ h27 => ?_)
              obtain ⟨rfl, rfl⟩ := h27
              refine VA.all [6] (by kernel_rfl) ⟨?_, trivial⟩
              refine VB.o rfl rfl rfl (VO.storeP (i := 1) rfl rfl rfl ld127 rfl rfl rfl ?_)
              refine VA.all [7] (by kernel_rfl) ⟨?_, trivial⟩
              refine VB.o rfl rfl rfl (VO.storeP (i := 0) rfl rfl rfl ld127 rfl rfl rfl ?_)
              refine VA.done (by kernel_rfl) ?_
              exact ⟨(r3, r6), (b11, b13), Option.some.inj hm, (Shift.pick [0, 0, 0] rfl ⟨rfl, rfl, rfl, rfl, rfl, trivial⟩)⟩
          · refine VB.o rfl rfl rfl (VO.alloc z127 fun b14 => ?_)
            refine VA.all [3, 4] (by kernel_rfl) ⟨?_, ?_, trivial⟩
            · obtain ⟨r7, h29, hm⟩ := bnd hm
              refine VB.o rfl rfl rfl (VO.callK 0 rfl fn119 rfl (res_row_ok b r7 h29) fun _ _ h31 => ?_)
              obtain ⟨rfl, rfl⟩ := h31
              refine VA.all [4] (by kernel_rfl) ⟨?_, trivial⟩
              refine VB.o rfl rfl rfl (VO.alloc z127 fun b15 => ?_)
              refine VA.all [6] (by kernel_rfl) ⟨?_, trivial⟩
              refine VB.o rfl rfl rfl (VO.storeP (i := 0) rfl rfl rfl ld127 rfl rfl rfl ?_)
              refine VA.all [7] (by kernel_rfl) ⟨?_, trivial⟩
              refine VB.o rfl rfl rfl (VO.storeP (i := 1) rfl rfl rfl ld127 rfl rfl rfl ?_)
              refine VA.done (by kernel_rfl) ?_
              exact ⟨(r3, r7), (b15, b14), Option.some.inj hm, (Shift.pick [1, 0, 0] rfl ⟨rfl, rfl, rfl, rfl, rfl, trivial⟩)⟩
            · refine VB.o rfl rfl rfl (VO.alloc z127 fun b16 => ?_)
              refine VA.all [3] (by kernel_rfl) ⟨?_, trivial⟩
              obtain ⟨r8, h33, hm⟩ := bnd hm
              refine VB.o rfl rfl rfl (VO.callK 0 rfl fn119 rfl (res_row_ok b r8 h33) fun _ _ h34 => ?_)
              obtain ⟨rfl, rfl⟩ := h34
              refine VA.all [6] (by kernel_rfl) ⟨?_, trivial⟩
              refine VB.o rfl rfl rfl (VO.storeP (i := 0) rfl rfl rfl ld127 rfl rfl rfl ?_)
              refine VA.all [7] (by kernel_rfl) ⟨?_, trivial⟩
              refine VB.o rfl rfl rfl (VO.storeP (i := 1) rfl rfl rfl ld127 rfl rfl rfl ?_)
              refine VA.done (by kernel_rfl) ?_
              exact ⟨(r3, r8), (b16, b14), Option.some.inj hm, (Shift.pick [1, 0, 0] rfl ⟨rfl, rfl, rfl, rfl, rfl, trivial⟩)⟩
        · refine VB.o rfl rfl rfl (VO.alloc z127 fun b17 => ?_)
          refine VA.all [1, 5] (by kernel_rfl) ⟨?_, ?_, trivial⟩
          · obtain ⟨r9, h37, hm⟩ := bnd hm
            refine VB.o rfl rfl rfl (VO.callK 0 rfl fn119 rfl (res_row_ok a r9 h37) fun _ _ h44 => ?_)
            obtain ⟨rfl, rfl⟩ := h44
            refine VA.all [3, 5] (by kernel_rfl) ⟨?_, ?_, trivial⟩
            · obtain ⟨r10, h38, hm⟩ := bnd hm
              refine VB.o rfl rfl rfl (VO.callK 0 rfl fn119 rfl (res_row_ok b r10 h38) fun _ _ h40 => ?_)
              obtain ⟨rfl, rfl⟩ := h40
              refine VA.all [5] (by kernel_rfl) ⟨?_, trivial⟩
              refine VB.o rfl rfl rfl (VO.alloc z127 fun b18 => ?_)
              refine VA.all [6] (by kernel_rfl) ⟨?_, trivial⟩
              refine VB.o rfl rfl rfl (VO.storeP (i := 1) rfl rfl rfl ld127 rfl rfl rfl ?_)
              refine VA.all [7] (by kernel_rfl) ⟨?_, trivial⟩
              refine VB.o rfl rfl rfl (VO.storeP (i := 0) rfl rfl rfl ld127 rfl rfl rfl ?_)
              refine VA.done (by kernel_rfl) ?_
              exact ⟨(r9, r10), (b17, b18), Option.some.inj hm, (Shift.pick [0, 0, 0] rfl ⟨rfl, rfl, rfl, rfl, rfl, trivial⟩)⟩
            · refine VB.o rfl rfl rfl (VO.alloc z127 fun b19 => ?_)
              refine VA.all [3] (by kernel_rfl) ⟨?_, trivial⟩
              obtain ⟨r11, h42, hm⟩ := bnd hm
              refine VB.o rfl rfl rfl (VO.callK 0 rfl fn119 rfl (res_row_ok b r11 h42) fun _ _ h43 => ?_)
              obtain ⟨rfl, rfl⟩ := h43
              refine VA.all [6] (by kernel_rfl) ⟨?_, trivial⟩
              refine VB.o rfl rfl rfl (VO.storeP (i := 1) rfl rfl rfl ld127 rfl rfl rfl ?_)
              refine VA.all [7] (by kernel_rfl) ⟨?_, trivial⟩
              refine VB.o rfl rfl rfl (VO.storeP (i := 0) rfl rfl rfl ld127 rfl rfl rfl ?_)
              refine VA.done (by kernel_rfl) ?_
              exact ⟨(r9, r11), (b17, b19), Option.some.inj hm, (Shift.pick [0, 0, 0] rfl ⟨rfl, rfl, rfl, rfl, rfl, trivial⟩)⟩
          · refine VB.o rfl rfl rfl (VO.alloc z127 fun b20 => ?_)
            refine VA.all [1] (by kernel_rfl) ⟨?_, trivial⟩
            obtain ⟨r12, h46, hm⟩ := bnd hm
            refine VB.o rfl rfl rfl (VO.callK 0 rfl fn119 rfl (res_row_ok a r12 h46) fun _ _ h49 => ?_)
            obtain ⟨rfl, rfl⟩ := h49
            refine VA.all [3] (by kernel_rfl) ⟨?_, trivial⟩
            obtain ⟨r13, h47, hm⟩ := bnd hm
            refine VB.o rfl rfl rfl (VO.callK 0 rfl fn119 rfl (res_row_ok b r13 h47) fun _ _ h48 => ?_)
            obtain ⟨rfl, rfl⟩ := h48
            refine VA.all [6] (by kernel_rfl) ⟨?_, trivial⟩
            refine VB.o rfl rfl rfl (VO.storeP (i := 1) rfl rfl rfl ld127 rfl rfl rfl ?_)
            refine VA.all [7] (by kernel_rfl) ⟨?_, trivial⟩
            refine VB.o rfl rfl rfl (VO.storeP (i := 0) rfl rfl rfl ld127 rfl rfl rfl ?_)
            refine VA.done (by kernel_rfl) ?_
            exact ⟨(r12, r13), (b17, b20), Option.some.inj hm, (Shift.pick [0, 0, 0] rfl ⟨rfl, rfl, rfl, rfl, rfl, trivial⟩)⟩
        · refine VB.o rfl rfl rfl (VO.alloc z127 fun b21 => ?_)
          refine VA.all [1, 4] (by kernel_rfl) ⟨?_, ?_, trivial⟩
          · obtain ⟨r14, h51, hm⟩ := bnd hm
            refine VB.o rfl rfl rfl (VO.callK 0 rfl fn119 rfl (res_row_ok a r14 h51) fun _ _ h58 => ?_)
            obtain ⟨rfl, rfl⟩ := h58
            refine VA.all [3, 4] (by kernel_rfl) ⟨?_, ?_, trivial⟩
            · obtain ⟨r15, h52, hm⟩ := bnd hm
              refine VB.o rfl rfl rfl (VO.callK 0 rfl fn119 rfl (res_row_ok b r15 h52) fun _ _ h54 => ?_)
              obtain ⟨rfl, rfl⟩ := h54
              refine VA.all [4] (by kernel_rfl) ⟨?_, trivial⟩
              refine VB.o rfl rfl rfl (VO.alloc z127 fun b22 => ?_)
              refine VA.all [6] (by kernel_rfl) ⟨?_, trivial⟩
              refine VB.o rfl rfl rfl (VO.storeP (i := 0) rfl rfl rfl ld127 rfl rfl rfl ?_)
              refine VA.all [7] (by kernel_rfl) ⟨?_, trivial⟩
              refine VB.o rfl rfl rfl (VO.storeP (i := 1) rfl rfl rfl ld127 rfl rfl rfl ?_)
              refine VA.done (by kernel_rfl) ?_
              exact ⟨(r14, r15), (b22, b21), Option.some.inj hm, (Shift.pick [1, 0, 0] rfl ⟨rfl, rfl, rfl, rfl, rfl, trivial⟩)⟩
            · refine VB.o rfl rfl rfl (VO.alloc z127 fun b23 => ?_)
              refine VA.all [3] (by kernel_rfl) ⟨?_, trivial⟩
              obtain ⟨r16, h56, hm⟩ := bnd hm
              refine VB.o rfl rfl rfl (VO.callK 0 rfl fn119 rfl (res_row_ok b r16 h56) fun _ _ h57 => ?_)
              obtain ⟨rfl, rfl⟩ := h57
              refine VA.all [6] (by kernel_rfl) ⟨?_, trivial⟩
              refine VB.o rfl rfl rfl (VO.storeP (i := 0) rfl rfl rfl ld127 rfl rfl rfl ?_)
              refine VA.all [7] (by kernel_rfl) ⟨?_, trivial⟩
              refine VB.o rfl rfl rfl (VO.storeP (i := 1) rfl rfl rfl ld127 rfl rfl rfl ?_)
              refine VA.done (by kernel_rfl) ?_
              exact ⟨(r14, r16), (b23, b21), Option.some.inj hm, (Shift.pick [1, 0, 0] rfl ⟨rfl, rfl, rfl, rfl, rfl, trivial⟩)⟩
          · refine VB.o rfl rfl rfl (VO.alloc z127 fun b24 => ?_)
            refine VA.all [1] (by kernel_rfl) ⟨?_, trivial⟩
            obtain ⟨r17, h60, hm⟩ := bnd hm
            refine VB.o rfl rfl rfl (VO.callK 0 rfl fn119 rfl (res_row_ok a r17 h60) fun _ _ h63 => ?_)
            obtain ⟨rfl, rfl⟩ := h63
            refine VA.all [3] (by kernel_rfl) ⟨?_, trivial⟩
            obtain ⟨r18, h61, hm⟩ := bnd hm
            refine VB.o rfl rfl rfl (VO.callK 0 rfl fn119 rfl (res_row_ok b r18 h61) fun _ _ h62 => ?_)
            obtain ⟨rfl, rfl⟩ := h62
            refine VA.all [6] (by kernel_rfl) ⟨?_, trivial⟩
            refine VB.o rfl rfl rfl (VO.storeP (i := 0) rfl rfl rfl ld127 rfl rfl rfl ?_)
            refine VA.all [7] (by kernel_rfl) ⟨?_, trivial⟩
            refine VB.o rfl rfl rfl (VO.storeP (i := 1) rfl rfl rfl ld127 rfl rfl rfl ?_)
            refine VA.done (by kernel_rfl) ?_
            exact ⟨(r17, r18), (b24, b21), Option.some.inj hm, (Shift.pick [1, 0, 0] rfl ⟨rfl, rfl, rfl, rfl, rfl, trivial⟩)⟩
      · rintro j ⟨b5, b6⟩ rfl
        have hm := h13
        refine VW.seq ?_
        refine VW.seq ?_
        refine VW.region ?_
        refine VR.p rfl rfl (VP.move rfl) ?_
        refine VR.nil ?_
        obtain ⟨o2, h64, h65⟩ := bnd hm
        refine VW.joinE (fun (q : Arr5_Int) => q = o2) (fun (l42 : Arr5_Int) (gg : Unit) => [(3, .int .i64 wrong), (8, .ptr b4 0), (10, .ptr b5 0)]) (fun (l42 : Arr5_Int) (gg : Unit) => [.box b5 127 (Arr5_Int.cells l42), .box b4 25 (T_api_Res.cells (⟨(0 : Int), (0 : Int), (0 : Int), (0 : Int), (0 : Int)⟩ : T_api_Res))]) ?_ ?_
        · have hm := h64
          refine VW.block (VW.loop FU ?_)
          refine VL.fuelS (R := _) (fun zn (zs : Arr5_Int × Int) => res_each_res_Add_1.l1 j zn zs.1 zs.2) (fun (zs : Arr5_Int × Int) (zg : Unit) => [(2, .clo (.func 121) [] []), (3, .int .i64 wrong), (8, .ptr b4 0), (10, .ptr b5 0), (11, .ptr b6 0), (27, .int .i64 zs.2)]) (fun (zs : Arr5_Int × Int) (zg : Unit) => [.box b6 127 (Arr5_Int.cells j.2), .box b5 127 (Arr5_Int.cells zs.1), .box b4 25 (T_api_Res.cells (⟨(0 : Int), (0 : Int), (0 : Int), (0 : Int), (0 : Int)⟩ : T_api_Res))]) (j.1, (0 : Int)) () (fun zs => rfl) (Shift.pick [0, 0, 0] rfl ⟨rfl, rfl, rfl, rfl, rfl, rfl, trivial⟩) h64 ?_
          rintro n ⟨l3, v2⟩ _ hm
          rw [res_each_res_Add_1.l1] at hm
          refine VW.seq ?_
          refine VW.region ?_
          refine VR.p rfl rfl (VP.arith rfl rfl rfl) ?_
          refine VR.nil ?_
          refine VW.seq ?_
          rcases ite_or hm with ⟨h66, hm⟩ | ⟨h66, hm⟩
          · refine VW.condT rfl h66 ?_
            refine VW.skip ?_
            refine VW.seq ?_
            refine VW.block ?_
            refine VW.seq ?_
            refine VW.region ?_
            refine VR.p rfl rfl (VP.move rfl) ?_
            refine VR.p rfl rfl (VP.assign rfl) ?_
            refine VR.nil ?_
            refine VW.shift (Shift.mem [1, 0, 0] rfl) ?_
            refine VW.drawK 1 mixed ?_
            refine VA.p 0 rfl rfl rfl (by kernel_rfl) (VP.move rfl) ?_
            refine VA.p 1 rfl rfl rfl (by kernel_rfl) (VP.move rfl) ?_
            refine VA.p 2 rfl rfl rfl (by kernel_rfl) (VP.move rfl) ?_
            obtain ⟨x, h67, hm⟩ := bnd hm
            refine VA.p 3 rfl rfl rfl (by kernel_rfl) (VP.indexA rfl rfl ar127 (gl_pos2 h67).1 (gl_pos2 h67).2) ?_
            refine VA.p 5 rfl rfl rfl (by kernel_rfl) (VP.move rfl) ?_
            obtain ⟨x2, h68, hm⟩ := bnd hm
            refine VA.p 6 rfl rfl rfl (by kernel_rfl) (VP.indexA rfl rfl ar127 (gl_pos2 h68).1 (gl_pos2 h68).2) ?_
            refine VA.p 7 rfl rfl rfl (by kernel_rfl) (VP.loadA 0 (f := (VV.int .i64)) (l := Arr5_Int.l j.2) rfl rfl ld3 rfl h68) ?_
            refine VA.all [4] (by kernel_rfl) ⟨?_, trivial⟩
            refine VB.o rfl rfl rfl (VP.vo (VP.loadA 0 (f := (VV.int .i64)) (l := Arr5_Int.l l3) rfl rfl ld3 rfl h67) ?_)
            refine VA.all [8] (by kernel_rfl) ⟨?_, trivial⟩
            obtain ⟨r19, h69, hm⟩ := bnd hm
            refine VB.o rfl rfl rfl (VO.callK 0 rfl fn121 rfl (res_Add_1_ok x x2 r19 h69) fun _ _ h72 => ?_)
            obtain ⟨rfl, rfl⟩ := h72
            obtain ⟨x3, h70, hm⟩ := bnd hm
            refine VA.p 9 rfl rfl rfl (by kernel_rfl) (VP.indexA rfl rfl ar127 (gl_pos2 h70).1 (gl_pos2 h70).2) ?_
            refine VA.all [10] (by kernel_rfl) ⟨?_, trivial⟩
            obtain ⟨l6, h71, hm⟩ := bnd hm
            refine VB.o rfl rfl rfl (VO.storeA 0 (f := (VV.int .i64)) (l := Arr5_Int.l l3) rfl rfl rfl ld3 rfl rfl (Arr5_Int.put_some h71) ?_)
            refine VA.done (by kernel_rfl) ?_
            refine VW.region ?_
            refine VR.p rfl rfl (VP.arith rfl rfl rfl) ?_
            refine VR.p rfl rfl (VP.move rfl) ?_
            refine VR.nil ?_
            exact ⟨(l6, (IntKind.i64.wrap (v2 + (1 : Int)))), (), hm, (Shift.pick [1, 0, 0] rfl ⟨rfl, rfl, rfl, rfl, rfl, rfl, trivial⟩)⟩
          · have h66 := bf h66
            refine VW.condF rfl h66 ?_
            refine VW.exit ?_
            exact ⟨l3, (), Option.some.inj hm, (Shift.pick [1, 1] rfl ⟨rfl, rfl, rfl, trivial⟩)⟩
        · rintro l42 _ rfl
          have hm := h65
          refine VW.seq ?_
          refine VW.seq ?_
          refine VW.region ?_
          refine VR.p rfl rfl (VP.loadP (i := 0) rfl rfl ld127 rfl) ?_
          obtain ⟨r20, h73, hm⟩ := bnd hm
          refine VR.cons rfl rfl (VO.callK 0 rfl fn120 rfl (res_back_ok l42 r20 h73) fun _ _ h78 => ?_)
          obtain ⟨rfl, rfl⟩ := h78
          refine VR.cons rfl rfl (VO.alloc z25 fun b25 => ?_)
          refine VR.cons rfl rfl (VO.storeP (i := 0) rfl rfl rfl ld25 rfl rfl rfl ?_)
          refine VR.nil ?_
          refine VW.seq ?_
          refine VW.region ?_
          refine VR.p rfl rfl (VP.loadP (i := 0) rfl rfl ld25 rfl) ?_
          obtain ⟨r21, h75, hm⟩ := bnd hm
          refine VR.cons rfl rfl (VO.callK 0 rfl fn114 rfl (res_Right_ok r20 r21 h75) fun _ _ h77 => ?_)
          obtain ⟨rfl, rfl⟩ := h77
          refine VR.nil ?_
          rcases ite_or hm with ⟨h76, hm⟩ | ⟨h76, hm⟩
          · refine VW.condT rfl h76 ?_
            refine VW.seq ?_
            refine VW.region ?_
            refine VR.p rfl rfl (VP.loadP (i := 0) rfl rfl ld25 rfl) ?_
            refine VR.cons rfl rfl (VO.storeP (i := 2) rfl rfl rfl ld25 rfl rfl rfl ?_)
            refine VR.p rfl rfl (VP.assign rfl) ?_
            refine VR.nil ?_
            obtain rfl := Option.some.inj hm
            exact VW.ret ⟨.inl rfl, _, .cons (.cell _ _ _ _ 2 _ _ _ _ rfl rfl ld25 rfl) (.cons (.tmp _ _ rfl) .nil), [], _, rfl, rfl, rfl⟩
          · have h76 := bf h76
            refine VW.condF rfl h76 ?_
            refine VW.skip ?_
            refine VW.seq ?_
            refine VW.region ?_
            refine VR.p rfl rfl (VP.buildP pl25 rfl rfl) ?_
            refine VR.p rfl rfl (VP.move rfl) ?_
            refine VR.cons rfl rfl (VO.storeP (i := 2) rfl rfl rfl ld25 rfl rfl rfl ?_)
            refine VR.p rfl rfl (VP.assign rfl) ?_
            refine VR.nil ?_
            obtain rfl := Option.some.inj hm
            exact VW.ret ⟨.inl rfl, _, .cons (.cell _ _ _ _ 2 _ _ _ _ rfl rfl ld25 rfl) (.cons (.tmp _ _ rfl) .nil), [], _, rfl, rfl, rfl⟩

/-! trireme/res.Add -/
def res_Add (a : T_api_Res) (b : T_api_Res) : Option (T_api_Res × Int) :=
  (res_each_res_Add_1 a b (10 : Int)).bind fun r =>
  some (r.1, r.2)
theorem res_Add_ok (a : T_api_Res) (b : T_api_Res) (r : T_api_Res × Int) (hm : res_Add a b = some r) :
    VC Tryz.prog 115 [T_api_Res.vv a, T_api_Res.vv b] [] (fun zx zH => zx = .tup [T_api_Res.vv r.1, .int .i64 r.2] ∧ zH = []) := by
  unfold res_Add at hm
  refine VC.run (c := _) (rs := [.cell 4 25, .tmp 5]) Tryz.func115 rfl rfl rfl ?_
  refine VW.seq ?_
  refine VW.region ?_
  refine VR.cons rfl rfl (VO.box rfl rfl fun b2 => ?_)
  refine VR.cons rfl rfl (VO.box rfl rfl fun b3 => ?_)
  refine VR.cons rfl rfl (VO.alloc z25 fun b4 => ?_)
  refine VR.p rfl rfl (VP.assign rfl) ?_
  refine VR.nil ?_
  refine VW.seq ?_
  refine VW.region ?_
  refine VR.p rfl rfl (VP.loadP (i := 2) rfl rfl ld25 rfl) ?_
  refine VR.p rfl rfl (VP.loadP (i := 1) rfl rfl ld25 rfl) ?_
  obtain ⟨r, h4, hm⟩ := bnd hm
  refine VR.cons rfl rfl (VO.callK 0 rfl fn111 rfl (res_each_res_Add_1_ok a b (10 : Int) r h4) fun _ _ h5 => ?_)
  obtain ⟨rfl, rfl⟩ := h5
  refine VR.p rfl rfl (VP.extract rfl rfl) ?_
  refine VR.p rfl rfl (VP.extract rfl rfl) ?_
  refine VR.cons rfl rfl (VO.storeP (i := 0) rfl rfl rfl ld25 rfl rfl rfl ?_)
  refine VR.p rfl rfl (VP.assign rfl) ?_
  refine VR.nil ?_
  obtain rfl := Option.some.inj hm
  exact VW.ret ⟨.inl rfl, _, .cons (.cell _ _ _ _ 0 _ _ _ _ rfl rfl ld25 rfl) (.cons (.tmp _ _ rfl) .nil), [], _, rfl, rfl, rfl⟩

end Go.Proofs.YtcblmlkpcplkfaaGreat.M

/-
  Printed by a program of this session out of the loaded functions: models and their proofs. Own text.
-/
import Derived.Test.YtcblmlkpcplkfaaR2F2
namespace Go.Proofs.Ytcblmlkpcplkfaa.M
open Go Go.Proofs Go.Proofs.Ytcblmlkpcplkfaa.V
set_option linter.unusedVariables false
set_option maxRecDepth 20000
set_option maxHeartbeats 4000000
/-! trireme/triremelaw09.YardChecks -/
def law09_YardChecks (ms : List T_api_Machine) (bs : List T_api_Bound) : Option Bool :=
  (ref09_Light ms bs).bind fun r =>
  if (!r) = true then
    (law09_known).bind fun r2 =>
    some r2
  else
    (yard_Check ms bs).bind fun r3 =>
    (ref09_Check ms bs).bind fun r4 =>
    (if (r3 == r4) = true then (law09_known).bind fun r5 =>
    some r5 else some false).bind fun c =>
    some c
theorem law09_YardChecks_ok (ms : List T_api_Machine) (bs : List T_api_Bound) (r : Bool) (hm : law09_YardChecks ms bs = some r) :
    VC Try.prog 6 [.list 27 (List.map T_api_Machine.vv ms), .list 49 (List.map T_api_Bound.vv bs)] [] (fun zx zH => zx = .bool r ∧ zH = []) := by
  unfold law09_YardChecks at hm
  refine VC.run (c := _) (rs := [.tmp 4]) Try.func6 rfl rfl rfl ?_
  refine VW.seq ?_
  refine VW.region ?_
  refine VR.p rfl rfl (VP.assign rfl) ?_
  refine VR.nil ?_
  refine VW.seq ?_
  refine VW.seq ?_
  refine VW.region ?_
  refine VR.p rfl rfl (VP.move rfl) ?_
  refine VR.p rfl rfl (VP.move rfl) ?_
  obtain ⟨r, h1, hm⟩ := bnd hm
  refine VR.cons rfl rfl (VO.callK 0 rfl fn12 rfl (ref09_Light_ok ms bs r h1) fun _ _ h13 => ?_)
  obtain ⟨rfl, rfl⟩ := h13
  refine VR.p rfl rfl (VP.not rfl) ?_
  refine VR.nil ?_
  rcases ite_or hm with ⟨h2, hm⟩ | ⟨h2, hm⟩
  · refine VW.condT rfl h2 ?_
    refine VW.seq ?_
    refine VW.region ?_
    obtain ⟨r2, h3, hm⟩ := bnd hm
    refine VR.cons rfl rfl (VO.callK 0 rfl fn27 rfl (law09_known_ok r2 h3) fun _ _ h4 => ?_)
    obtain ⟨rfl, rfl⟩ := h4
    refine VR.p rfl rfl (VP.assign rfl) ?_
    refine VR.nil ?_
    obtain rfl := Option.some.inj hm
    exact VW.ret ⟨.inl rfl, _, .cons (.tmp _ _ rfl) .nil, [], _, rfl, rfl, rfl⟩
  · have h2 := bf h2
    refine VW.condF rfl h2 ?_
    refine VW.skip ?_
    refine VW.seq ?_
    refine VW.region ?_
    refine VR.p rfl rfl (VP.move rfl) ?_
    refine VR.p rfl rfl (VP.move rfl) ?_
    obtain ⟨r3, h5, hm⟩ := bnd hm
    refine VR.cons rfl rfl (VO.callK 0 rfl fn28 rfl (yard_Check_ok ms bs r3 h5) fun _ _ h12 => ?_)
    obtain ⟨rfl, rfl⟩ := h12
    refine VR.p rfl rfl (VP.move rfl) ?_
    refine VR.p rfl rfl (VP.move rfl) ?_
    obtain ⟨r4, h6, hm⟩ := bnd hm
    refine VR.cons rfl rfl (VO.callK 0 rfl fn14 rfl (ref09_Check_ok ms bs r4 h6) fun _ _ h11 => ?_)
    obtain ⟨rfl, rfl⟩ := h11
    refine VR.p rfl rfl (VP.arith rfl rfl rfl) ?_
    refine VR.p rfl rfl (VP.move rfl) ?_
    obtain ⟨c, h10, hm⟩ := bnd hm
    refine VR.sc 2 19 (.bool c) (fun K' J => ?_) ?_
    · have hm := h10
      rcases ite_or hm with ⟨h7, hm⟩ | ⟨h7, hm⟩
      · obtain ⟨r5, h8, hm⟩ := bnd hm
        refine VR.consG rfl rfl rfl rfl h7 (VO.callK 0 rfl fn27 rfl (law09_known_ok r5 h8) fun _ _ h9 => ?_)
        obtain ⟨rfl, rfl⟩ := h9
        refine VR.p rfl rfl (VP.pickB true rfl h7 rfl) ?_
        exact J [_] _ rfl (congrArg VV.bool (Option.some.inj hm))
      · have h7 := bf h7
        refine VR.skipG rfl rfl rfl rfl h7 ?_
        refine VR.p rfl rfl (VP.pickB false rfl h7 rfl) ?_
        exact J [_] _ rfl (congrArg VV.bool (Option.some.inj hm))
    · refine VR.p rfl rfl (VP.assign rfl) ?_
      refine VR.nil ?_
      obtain rfl := Option.some.inj hm
      exact VW.ret ⟨.inl rfl, _, .cons (.tmp _ _ rfl) .nil, [], _, rfl, rfl, rfl⟩

/-! trireme/triremeref04.Fits -/
def ref04_Fits (a : T_api_Res) (b : T_api_Res) : Option Bool :=
  (ref04_Right a).bind fun r =>
  (if r = true then (ref04_Right b).bind fun r2 =>
  some r2 else some false).bind fun c =>
  some (((((c && (decide (a.Cpu ≤ b.Cpu))) && (decide (a.Mem ≤ b.Mem))) && (decide (a.Disk ≤ b.Disk))) && (decide (a.Pods ≤ b.Pods))) && (decide (a.Dev ≤ b.Dev)))
theorem ref04_Fits_ok (a : T_api_Res) (b : T_api_Res) (r : Bool) (hm : ref04_Fits a b = some r) :
    VC Try.prog 23 [T_api_Res.vv a, T_api_Res.vv b] [] (fun zx zH => zx = .bool r ∧ zH = []) := by
  unfold ref04_Fits at hm
  refine VC.run (c := _) (rs := [.tmp 4]) Try.func23 rfl rfl rfl ?_
  refine VW.seq ?_
  refine VW.region ?_
  refine VR.cons rfl rfl (VO.box rfl rfl fun b2 => ?_)
  refine VR.cons rfl rfl (VO.box rfl rfl fun b3 => ?_)
  refine VR.p rfl rfl (VP.assign rfl) ?_
  refine VR.nil ?_
  refine VW.seq ?_
  refine VW.region ?_
  refine VR.p rfl rfl (VP.loadP (i := 1) rfl rfl ld23 rfl) ?_
  obtain ⟨r, h3, hm⟩ := bnd hm
  refine VR.cons rfl rfl (VO.callK 0 rfl fn18 rfl (ref04_Right_ok a r h3) fun _ _ h13 => ?_)
  obtain ⟨rfl, rfl⟩ := h13
  refine VR.p rfl rfl (VP.move rfl) ?_
  obtain ⟨c, h7, hm⟩ := bnd hm
  refine VR.sc 3 10 (.bool c) (fun K' J => ?_) ?_
  · have hm := h7
    rcases ite_or hm with ⟨h4, hm⟩ | ⟨h4, hm⟩
    · refine VR.pG rfl rfl rfl rfl h4 (VP.loadP (i := 0) rfl rfl ld23 rfl) ?_
      obtain ⟨r2, h5, hm⟩ := bnd hm
      refine VR.consG rfl rfl rfl rfl h4 (VO.callK 0 rfl fn18 rfl (ref04_Right_ok b r2 h5) fun _ _ h6 => ?_)
      obtain ⟨rfl, rfl⟩ := h6
      refine VR.p rfl rfl (VP.pickB true rfl h4 rfl) ?_
      exact J [_, _] _ rfl (congrArg VV.bool (Option.some.inj hm))
    · have h4 := bf h4
      refine VR.skipG rfl rfl rfl rfl h4 ?_
      refine VR.skipG rfl rfl rfl rfl h4 ?_
      refine VR.p rfl rfl (VP.pickB false rfl h4 rfl) ?_
      exact J [_, _] _ rfl (congrArg VV.bool (Option.some.inj hm))
  · refine VR.p rfl rfl (VP.move rfl) ?_
    refine VR.sc 6 17 (.bool (c && (decide (a.Cpu ≤ b.Cpu)))) (fun K' J => ?_) ?_
    · rcases Bool.eq_false_or_eq_true c with h8 | h8
      · refine VR.pG rfl rfl rfl rfl h8 (VP.fieldP rfl fa23_0) ?_
        refine VR.pG rfl rfl rfl rfl h8 (VP.loadP (i := 1) rfl rfl ld3 rfl) ?_
        refine VR.pG rfl rfl rfl rfl h8 (VP.fieldP rfl fa23_0) ?_
        refine VR.pG rfl rfl rfl rfl h8 (VP.loadP (i := 0) rfl rfl ld3 rfl) ?_
        refine VR.pG rfl rfl rfl rfl h8 (VP.arith rfl rfl rfl) ?_
        refine VR.p rfl rfl (VP.pickB true rfl h8 rfl) ?_
        exact J [_, _, _, _, _] _ rfl (andT h8)
      · refine VR.skipG rfl rfl rfl rfl h8 ?_
        refine VR.skipG rfl rfl rfl rfl h8 ?_
        refine VR.skipG rfl rfl rfl rfl h8 ?_
        refine VR.skipG rfl rfl rfl rfl h8 ?_
        refine VR.skipG rfl rfl rfl rfl h8 ?_
        refine VR.p rfl rfl (VP.pickB false rfl h8 rfl) ?_
        exact J [_, _, _, _, _] _ rfl (andF h8)
    · refine VR.p rfl rfl (VP.move rfl) ?_
      refine VR.sc 6 24 (.bool ((c && (decide (a.Cpu ≤ b.Cpu))) && (decide (a.Mem ≤ b.Mem)))) (fun K' J => ?_) ?_
      · rcases Bool.eq_false_or_eq_true (c && (decide (a.Cpu ≤ b.Cpu))) with h9 | h9
        · refine VR.pG rfl rfl rfl rfl h9 (VP.fieldP rfl fa23_1) ?_
          refine VR.pG rfl rfl rfl rfl h9 (VP.loadP (i := 1) rfl rfl ld3 rfl) ?_
          refine VR.pG rfl rfl rfl rfl h9 (VP.fieldP rfl fa23_1) ?_
          refine VR.pG rfl rfl rfl rfl h9 (VP.loadP (i := 0) rfl rfl ld3 rfl) ?_
          refine VR.pG rfl rfl rfl rfl h9 (VP.arith rfl rfl rfl) ?_
          refine VR.p rfl rfl (VP.pickB true rfl h9 rfl) ?_
          exact J [_, _, _, _, _] _ rfl (andT h9)
        · refine VR.skipG rfl rfl rfl rfl h9 ?_
          refine VR.skipG rfl rfl rfl rfl h9 ?_
          refine VR.skipG rfl rfl rfl rfl h9 ?_
          refine VR.skipG rfl rfl rfl rfl h9 ?_
          refine VR.skipG rfl rfl rfl rfl h9 ?_
          refine VR.p rfl rfl (VP.pickB false rfl h9 rfl) ?_
          exact J [_, _, _, _, _] _ rfl (andF h9)
      · refine VR.p rfl rfl (VP.move rfl) ?_
        refine VR.sc 6 31 (.bool (((c && (decide (a.Cpu ≤ b.Cpu))) && (decide (a.Mem ≤ b.Mem))) && (decide (a.Disk ≤ b.Disk)))) (fun K' J => ?_) ?_
        · rcases Bool.eq_false_or_eq_true ((c && (decide (a.Cpu ≤ b.Cpu))) && (decide (a.Mem ≤ b.Mem))) with h10 | h10
          · refine VR.pG rfl rfl rfl rfl h10 (VP.fieldP rfl fa23_2) ?_
            refine VR.pG rfl rfl rfl rfl h10 (VP.loadP (i := 1) rfl rfl ld3 rfl) ?_
            refine VR.pG rfl rfl rfl rfl h10 (VP.fieldP rfl fa23_2) ?_
            refine VR.pG rfl rfl rfl rfl h10 (VP.loadP (i := 0) rfl rfl ld3 rfl) ?_
            refine VR.pG rfl rfl rfl rfl h10 (VP.arith rfl rfl rfl) ?_
            refine VR.p rfl rfl (VP.pickB true rfl h10 rfl) ?_
            exact J [_, _, _, _, _] _ rfl (andT h10)
          · refine VR.skipG rfl rfl rfl rfl h10 ?_
            refine VR.skipG rfl rfl rfl rfl h10 ?_
            refine VR.skipG rfl rfl rfl rfl h10 ?_
            refine VR.skipG rfl rfl rfl rfl h10 ?_
            refine VR.skipG rfl rfl rfl rfl h10 ?_
            refine VR.p rfl rfl (VP.pickB false rfl h10 rfl) ?_
            exact J [_, _, _, _, _] _ rfl (andF h10)
        · refine VR.p rfl rfl (VP.move rfl) ?_
          refine VR.sc 6 38 (.bool ((((c && (decide (a.Cpu ≤ b.Cpu))) && (decide (a.Mem ≤ b.Mem))) && (decide (a.Disk ≤ b.Disk))) && (decide (a.Pods ≤ b.Pods)))) (fun K' J => ?_) ?_
          · rcases Bool.eq_false_or_eq_true (((c && (decide (a.Cpu ≤ b.Cpu))) && (decide (a.Mem ≤ b.Mem))) && (decide (a.Disk ≤ b.Disk))) with h11 | h11
            · refine VR.pG rfl rfl rfl rfl h11 (VP.fieldP rfl fa23_3) ?_
              refine VR.pG rfl rfl rfl rfl h11 (VP.loadP (i := 1) rfl rfl ld3 rfl) ?_
              refine VR.pG rfl rfl rfl rfl h11 (VP.fieldP rfl fa23_3) ?_
              refine VR.pG rfl rfl rfl rfl h11 (VP.loadP (i := 0) rfl rfl ld3 rfl) ?_
              refine VR.pG rfl rfl rfl rfl h11 (VP.arith rfl rfl rfl) ?_
              refine VR.p rfl rfl (VP.pickB true rfl h11 rfl) ?_
              exact J [_, _, _, _, _] _ rfl (andT h11)
            · refine VR.skipG rfl rfl rfl rfl h11 ?_
              refine VR.skipG rfl rfl rfl rfl h11 ?_
              refine VR.skipG rfl rfl rfl rfl h11 ?_
              refine VR.skipG rfl rfl rfl rfl h11 ?_
              refine VR.skipG rfl rfl rfl rfl h11 ?_
              refine VR.p rfl rfl (VP.pickB false rfl h11 rfl) ?_
              exact J [_, _, _, _, _] _ rfl (andF h11)
          · refine VR.p rfl rfl (VP.move rfl) ?_
            refine VR.sc 6 45 (.bool (((((c && (decide (a.Cpu ≤ b.Cpu))) && (decide (a.Mem ≤ b.Mem))) && (decide (a.Disk ≤ b.Disk))) && (decide (a.Pods ≤ b.Pods))) && (decide (a.Dev ≤ b.Dev)))) (fun K' J => ?_) ?_
            · rcases Bool.eq_false_or_eq_true ((((c && (decide (a.Cpu ≤ b.Cpu))) && (decide (a.Mem ≤ b.Mem))) && (decide (a.Disk ≤ b.Disk))) && (decide (a.Pods ≤ b.Pods))) with h12 | h12
              · refine VR.pG rfl rfl rfl rfl h12 (VP.fieldP rfl fa23_4) ?_
                refine VR.pG rfl rfl rfl rfl h12 (VP.loadP (i := 1) rfl rfl ld3 rfl) ?_
                refine VR.pG rfl rfl rfl rfl h12 (VP.fieldP rfl fa23_4) ?_
                refine VR.pG rfl rfl rfl rfl h12 (VP.loadP (i := 0) rfl rfl ld3 rfl) ?_
                refine VR.pG rfl rfl rfl rfl h12 (VP.arith rfl rfl rfl) ?_
                refine VR.p rfl rfl (VP.pickB true rfl h12 rfl) ?_
                exact J [_, _, _, _, _] _ rfl (andT h12)
              · refine VR.skipG rfl rfl rfl rfl h12 ?_
                refine VR.skipG rfl rfl rfl rfl h12 ?_
                refine VR.skipG rfl rfl rfl rfl h12 ?_
                refine VR.skipG rfl rfl rfl rfl h12 ?_
                refine VR.skipG rfl rfl rfl rfl h12 ?_
                refine VR.p rfl rfl (VP.pickB false rfl h12 rfl) ?_
                exact J [_, _, _, _, _] _ rfl (andF h12)
            · refine VR.p rfl rfl (VP.assign rfl) ?_
              refine VR.nil ?_
              obtain rfl := Option.some.inj hm
              exact VW.ret ⟨.inl rfl, _, .cons (.tmp _ _ rfl) .nil, [], _, rfl, rfl, rfl⟩

/-! trireme/triremeref04.Add -/
def ref04_Add (a : T_api_Res) (b : T_api_Res) : Option (T_api_Res × Int) :=
  (ref04_Right a).bind fun r =>
  (if (!r) = true then some true else (ref04_Right b).bind fun r2 =>
  some (!r2)).bind fun c =>
  if c = true then
    some ((⟨(0 : Int), (0 : Int), (0 : Int), (0 : Int), (0 : Int)⟩ : T_api_Res), (1 : Int))
  else
    (ref04_Right (⟨(IntKind.i64.wrap (a.Cpu + b.Cpu)), (IntKind.i64.wrap (a.Mem + b.Mem)), (IntKind.i64.wrap (a.Disk + b.Disk)), (IntKind.i64.wrap (a.Pods + b.Pods)), (IntKind.i64.wrap (a.Dev + b.Dev))⟩ : T_api_Res)).bind fun r3 =>
    if (!r3) = true then
      some ((⟨(0 : Int), (0 : Int), (0 : Int), (0 : Int), (0 : Int)⟩ : T_api_Res), (10 : Int))
    else
      some ((⟨(IntKind.i64.wrap (a.Cpu + b.Cpu)), (IntKind.i64.wrap (a.Mem + b.Mem)), (IntKind.i64.wrap (a.Disk + b.Disk)), (IntKind.i64.wrap (a.Pods + b.Pods)), (IntKind.i64.wrap (a.Dev + b.Dev))⟩ : T_api_Res), (0 : Int))
theorem ref04_Add_ok (a : T_api_Res) (b : T_api_Res) (r : T_api_Res × Int) (hm : ref04_Add a b = some r) :
    VC Try.prog 31 [T_api_Res.vv a, T_api_Res.vv b] [] (fun zx zH => zx = .tup [T_api_Res.vv r.1, .int .i64 r.2] ∧ zH = []) := by
  unfold ref04_Add at hm
  refine VC.run (c := _) (rs := [.cell 4 23, .tmp 5]) Try.func31 rfl rfl rfl ?_
  refine VW.seq ?_
  refine VW.region ?_
  refine VR.cons rfl rfl (VO.box rfl rfl fun b2 => ?_)
  refine VR.cons rfl rfl (VO.box rfl rfl fun b3 => ?_)
  refine VR.cons rfl rfl (VO.alloc z23 fun b4 => ?_)
  refine VR.p rfl rfl (VP.assign rfl) ?_
  refine VR.nil ?_
  refine VW.seq ?_
  refine VW.seq ?_
  refine VW.region ?_
  refine VR.p rfl rfl (VP.loadP (i := 2) rfl rfl ld23 rfl) ?_
  obtain ⟨r, h4, hm⟩ := bnd hm
  refine VR.cons rfl rfl (VO.callK 0 rfl fn18 rfl (ref04_Right_ok a r h4) fun _ _ h14 => ?_)
  obtain ⟨rfl, rfl⟩ := h14
  refine VR.p rfl rfl (VP.not rfl) ?_
  refine VR.p rfl rfl (VP.move rfl) ?_
  obtain ⟨c, h8, hm⟩ := bnd hm
  refine VR.sc 4 14 (.bool c) (fun K' J => ?_) ?_
  · have hm := h8
    rcases ite_or hm with ⟨h5, hm⟩ | ⟨h5, hm⟩
    · refine VR.skipG rfl rfl rfl rfl h5 ?_
      refine VR.skipG rfl rfl rfl rfl h5 ?_
      refine VR.skipG rfl rfl rfl rfl h5 ?_
      refine VR.p rfl rfl (VP.pickB true rfl h5 rfl) ?_
      exact J [_, _, _] _ rfl (congrArg VV.bool (Option.some.inj hm))
    · have h5 := bf h5
      refine VR.pG rfl rfl rfl rfl h5 (VP.loadP (i := 1) rfl rfl ld23 rfl) ?_
      obtain ⟨r2, h6, hm⟩ := bnd hm
      refine VR.consG rfl rfl rfl rfl h5 (VO.callK 0 rfl fn18 rfl (ref04_Right_ok b r2 h6) fun _ _ h7 => ?_)
      obtain ⟨rfl, rfl⟩ := h7
      refine VR.pG rfl rfl rfl rfl h5 (VP.not rfl) ?_
      refine VR.p rfl rfl (VP.pickB false rfl h5 rfl) ?_
      exact J [_, _, _] _ rfl (congrArg VV.bool (Option.some.inj hm))
  · refine VR.nil ?_
    rcases ite_or hm with ⟨h9, hm⟩ | ⟨h9, hm⟩
    · refine VW.condT rfl h9 ?_
      refine VW.seq ?_
      refine VW.region ?_
      refine VR.p rfl rfl (VP.buildP pl23 rfl rfl) ?_
      refine VR.cons rfl rfl (VO.storeP (i := 0) rfl rfl rfl ld23 rfl rfl rfl ?_)
      refine VR.p rfl rfl (VP.assign rfl) ?_
      refine VR.nil ?_
      obtain rfl := Option.some.inj hm
      exact VW.ret ⟨.inl rfl, _, .cons (.cell _ _ _ _ 0 _ _ _ _ rfl rfl ld23 rfl) (.cons (.tmp _ _ rfl) .nil), [], _, rfl, rfl, rfl⟩
    · have h9 := bf h9
      refine VW.condF rfl h9 ?_
      refine VW.skip ?_
      refine VW.seq ?_
      refine VW.region ?_
      refine VR.p rfl rfl (VP.fieldP rfl fa23_0) ?_
      refine VR.p rfl rfl (VP.loadP (i := 2) rfl rfl ld3 rfl) ?_
      refine VR.p rfl rfl (VP.fieldP rfl fa23_0) ?_
      refine VR.p rfl rfl (VP.loadP (i := 1) rfl rfl ld3 rfl) ?_
      refine VR.p rfl rfl (VP.arith rfl rfl rfl) ?_
      refine VR.p rfl rfl (VP.fieldP rfl fa23_1) ?_
      refine VR.p rfl rfl (VP.loadP (i := 2) rfl rfl ld3 rfl) ?_
      refine VR.p rfl rfl (VP.fieldP rfl fa23_1) ?_
      refine VR.p rfl rfl (VP.loadP (i := 1) rfl rfl ld3 rfl) ?_
      refine VR.p rfl rfl (VP.arith rfl rfl rfl) ?_
      refine VR.p rfl rfl (VP.fieldP rfl fa23_2) ?_
      refine VR.p rfl rfl (VP.loadP (i := 2) rfl rfl ld3 rfl) ?_
      refine VR.p rfl rfl (VP.fieldP rfl fa23_2) ?_
      refine VR.p rfl rfl (VP.loadP (i := 1) rfl rfl ld3 rfl) ?_
      refine VR.p rfl rfl (VP.arith rfl rfl rfl) ?_
      refine VR.p rfl rfl (VP.fieldP rfl fa23_3) ?_
      refine VR.p rfl rfl (VP.loadP (i := 2) rfl rfl ld3 rfl) ?_
      refine VR.p rfl rfl (VP.fieldP rfl fa23_3) ?_
      refine VR.p rfl rfl (VP.loadP (i := 1) rfl rfl ld3 rfl) ?_
      refine VR.p rfl rfl (VP.arith rfl rfl rfl) ?_
      refine VR.p rfl rfl (VP.fieldP rfl fa23_4) ?_
      refine VR.p rfl rfl (VP.loadP (i := 2) rfl rfl ld3 rfl) ?_
      refine VR.p rfl rfl (VP.fieldP rfl fa23_4) ?_
      refine VR.p rfl rfl (VP.loadP (i := 1) rfl rfl ld3 rfl) ?_
      refine VR.p rfl rfl (VP.arith rfl rfl rfl) ?_
      refine VR.p rfl rfl (VP.buildP pl23 rfl rfl) ?_
      refine VR.cons rfl rfl (VO.alloc z23 fun b5 => ?_)
      refine VR.cons rfl rfl (VO.storeP (i := 0) rfl rfl rfl ld23 rfl rfl rfl ?_)
      refine VR.nil ?_
      refine VW.seq ?_
      refine VW.seq ?_
      refine VW.region ?_
      refine VR.p rfl rfl (VP.loadP (i := 0) rfl rfl ld23 rfl) ?_
      obtain ⟨r3, h11, hm⟩ := bnd hm
      refine VR.cons rfl rfl (VO.callK 0 rfl fn18 rfl (ref04_Right_ok (⟨(IntKind.i64.wrap (a.Cpu + b.Cpu)), (IntKind.i64.wrap (a.Mem + b.Mem)), (IntKind.i64.wrap (a.Disk + b.Disk)), (IntKind.i64.wrap (a.Pods + b.Pods)), (IntKind.i64.wrap (a.Dev + b.Dev))⟩ : T_api_Res) r3 h11) fun _ _ h13 => ?_)
      obtain ⟨rfl, rfl⟩ := h13
      refine VR.p rfl rfl (VP.not rfl) ?_
      refine VR.nil ?_
      rcases ite_or hm with ⟨h12, hm⟩ | ⟨h12, hm⟩
      · refine VW.condT rfl h12 ?_
        refine VW.seq ?_
        refine VW.region ?_
        refine VR.p rfl rfl (VP.buildP pl23 rfl rfl) ?_
        refine VR.cons rfl rfl (VO.storeP (i := 1) rfl rfl rfl ld23 rfl rfl rfl ?_)
        refine VR.p rfl rfl (VP.assign rfl) ?_
        refine VR.nil ?_
        obtain rfl := Option.some.inj hm
        exact VW.ret ⟨.inl rfl, _, .cons (.cell _ _ _ _ 1 _ _ _ _ rfl rfl ld23 rfl) (.cons (.tmp _ _ rfl) .nil), [], _, rfl, rfl, rfl⟩
      · have h12 := bf h12
        refine VW.condF rfl h12 ?_
        refine VW.skip ?_
        refine VW.seq ?_
        refine VW.region ?_
        refine VR.p rfl rfl (VP.loadP (i := 0) rfl rfl ld23 rfl) ?_
        refine VR.cons rfl rfl (VO.storeP (i := 1) rfl rfl rfl ld23 rfl rfl rfl ?_)
        refine VR.p rfl rfl (VP.assign rfl) ?_
        refine VR.nil ?_
        obtain rfl := Option.some.inj hm
        exact VW.ret ⟨.inl rfl, _, .cons (.cell _ _ _ _ 1 _ _ _ _ rfl rfl ld23 rfl) (.cons (.tmp _ _ rfl) .nil), [], _, rfl, rfl, rfl⟩

/-! trireme/triremelaw09.YardLeft -/
def law09_YardLeft.l1 (ms : List T_api_Machine) (bs : List T_api_Bound) : Nat → Int → Option (Out Bool Unit)
  | 0, _ => none
  | n + 1, i2 =>
    if (decide (i2 < (ms.length : Int))) = true then
      (V.gl ms i2).bind fun x =>
      (yard_Used bs x.Name).bind fun r4 =>
      if (r4.2 != (0 : Int)) = true then
        law09_YardLeft.l1 ms bs n (IntKind.i64.wrap (i2 + (1 : Int)))
      else
        (V.gl ms i2).bind fun x2 =>
        (yard_Left x2 bs).bind fun r5 =>
        (ref04_Right r5).bind fun r6 =>
        (if (!r6) = true then some true else (V.gl ms i2).bind fun x3 =>
        (ref04_Fits r5 x3.Has).bind fun r7 =>
        some (!r7)).bind fun c2 =>
        if c2 = true then
          some (Out.ret false)
        else
          (ref04_Add r5 r4.1).bind fun r8 =>
          (V.gl ms i2).bind fun x4 =>
          (ref04_Fits r4.1 x4.Has).bind fun r9 =>
          (if r9 = true then (V.gl ms i2).bind fun x5 =>
          some ((!(((r8.1.Cpu == x5.Has.Cpu) && ((r8.1.Mem == x5.Has.Mem) && ((r8.1.Disk == x5.Has.Disk) && ((r8.1.Pods == x5.Has.Pods) && ((r8.1.Dev == x5.Has.Dev) && true))))) == true)) || (r8.2 != (0 : Int))) else some false).bind fun c3 =>
          if c3 = true then
            some (Out.ret false)
          else
            law09_YardLeft.l1 ms bs n (IntKind.i64.wrap (i2 + (1 : Int)))
    else
      some (Out.go ())
def law09_YardLeft (ms : List T_api_Machine) (bs : List T_api_Bound) : Option Bool :=
  (ref09_Light ms bs).bind fun r =>
  (if (!r) = true then some true else (yard_Check ms bs).bind fun r2 =>
  some (r2 != (0 : Int))).bind fun c =>
  if c = true then
    (law09_known).bind fun r3 =>
    some r3
  else
    (law09_YardLeft.l1 ms bs FU (0 : Int)).bind fun o =>
    o.on fun j =>
    (law09_known).bind fun r10 =>
    some r10
theorem law09_YardLeft_ok (ms : List T_api_Machine) (bs : List T_api_Bound) (r : Bool) (hm : law09_YardLeft ms bs = some r) :
    VC Try.prog 7 [.list 27 (List.map T_api_Machine.vv ms), .list 49 (List.map T_api_Bound.vv bs)] [] (fun zx zH => zx = .bool r ∧ zH = []) := by
  unfold law09_YardLeft at hm
  refine VC.run (c := _) (rs := [.tmp 4]) Try.func7 rfl rfl rfl ?_
  refine VW.seq ?_
  refine VW.region ?_
  refine VR.p rfl rfl (VP.assign rfl) ?_
  refine VR.nil ?_
  refine VW.seq ?_
  refine VW.seq ?_
  refine VW.region ?_
  refine VR.p rfl rfl (VP.move rfl) ?_
  refine VR.p rfl rfl (VP.move rfl) ?_
  obtain ⟨r, h1, hm⟩ := bnd hm
  refine VR.cons rfl rfl (VO.callK 0 rfl fn12 rfl (ref09_Light_ok ms bs r h1) fun _ _ h42 => ?_)
  obtain ⟨rfl, rfl⟩ := h42
  refine VR.p rfl rfl (VP.not rfl) ?_
  refine VR.p rfl rfl (VP.move rfl) ?_
  obtain ⟨c, h5, hm⟩ := bnd hm
  refine VR.sc 5 20 (.bool c) (fun K' J => ?_) ?_
  · have hm := h5
    rcases ite_or hm with ⟨h2, hm⟩ | ⟨h2, hm⟩
    · refine VR.skipG rfl rfl rfl rfl h2 ?_
      refine VR.skipG rfl rfl rfl rfl h2 ?_
      refine VR.skipG rfl rfl rfl rfl h2 ?_
      refine VR.skipG rfl rfl rfl rfl h2 ?_
      refine VR.p rfl rfl (VP.pickB true rfl h2 rfl) ?_
      exact J [_, _, _, _] _ rfl (congrArg VV.bool (Option.some.inj hm))
    · have h2 := bf h2
      refine VR.pG rfl rfl rfl rfl h2 (VP.move rfl) ?_
      refine VR.pG rfl rfl rfl rfl h2 (VP.move rfl) ?_
      obtain ⟨r2, h3, hm⟩ := bnd hm
      refine VR.consG rfl rfl rfl rfl h2 (VO.callK 0 rfl fn28 rfl (yard_Check_ok ms bs r2 h3) fun _ _ h4 => ?_)
      obtain ⟨rfl, rfl⟩ := h4
      refine VR.pG rfl rfl rfl rfl h2 (VP.arith rfl rfl rfl) ?_
      refine VR.p rfl rfl (VP.pickB false rfl h2 rfl) ?_
      exact J [_, _, _, _] _ rfl (congrArg VV.bool (Option.some.inj hm))
  · refine VR.nil ?_
    rcases ite_or hm with ⟨h6, hm⟩ | ⟨h6, hm⟩
    · refine VW.condT rfl h6 ?_
      refine VW.seq ?_
      refine VW.region ?_
      obtain ⟨r3, h7, hm⟩ := bnd hm
      refine VR.cons rfl rfl (VO.callK 0 rfl fn27 rfl (law09_known_ok r3 h7) fun _ _ h8 => ?_)
      obtain ⟨rfl, rfl⟩ := h8
      refine VR.p rfl rfl (VP.assign rfl) ?_
      refine VR.nil ?_
      obtain rfl := Option.some.inj hm
      exact VW.ret ⟨.inl rfl, _, .cons (.tmp _ _ rfl) .nil, [], _, rfl, rfl, rfl⟩
    · have h6 := bf h6
      refine VW.condF rfl h6 ?_
      refine VW.skip ?_
      refine VW.seq ?_
      refine VW.seq ?_
      refine VW.region ?_
      refine VR.p rfl rfl (VP.assign rfl) ?_
      refine VR.nil ?_
      obtain ⟨o, h9, h10⟩ := bnd hm
      refine VW.joinE (fun (q : Unit) => o = Out.go q) (fun (j : Unit) (gg : Unit) => []) (fun (j : Unit) (gg : Unit) => []) ?_ ?_
      · have hm := h9
        refine VW.block (VW.loop FU ?_)
        refine VL.fuelS (R := _) (fun zn (zs : Int) => law09_YardLeft.l1 ms bs zn zs) (fun (zs : Int) (zg : Unit) => [(0, .list 27 (List.map T_api_Machine.vv ms)), (1, .list 49 (List.map T_api_Bound.vv bs)), (5, .int .i64 zs)]) (fun (zs : Int) (zg : Unit) => []) (0 : Int) () (fun zs => rfl) (Shift.pick [] rfl ⟨rfl, rfl, rfl, trivial⟩) h9 ?_
        rintro n i2 _ hm
        rw [law09_YardLeft.l1] at hm
        refine VW.seq ?_
        refine VW.seq ?_
        refine VW.region ?_
        refine VR.p rfl rfl (VP.move rfl) ?_
        refine VR.p rfl rfl (VP.move rfl) ?_
        refine VR.p rfl rfl (VP.lenT T_api_Machine.vv rfl Try.underlying37) ?_
        refine VR.p rfl rfl (VP.arith rfl rfl rfl) ?_
        refine VR.nil ?_
        rcases ite_or hm with ⟨h11, hm⟩ | ⟨h11, hm⟩
        · refine VW.condT rfl h11 ?_
          refine VW.skip ?_
          refine VW.seq ?_
          refine VW.block ?_
          refine VW.seq ?_
          refine VW.region ?_
          refine VR.p rfl rfl (VP.move rfl) ?_
          refine VR.p rfl rfl (VP.move rfl) ?_
          refine VR.p rfl rfl (VP.move rfl) ?_
          obtain ⟨x, h12, hm⟩ := bnd hm
          refine VR.p rfl rfl (VP.glE T_api_Machine.vv rfl rfl el37 h12) ?_
          refine VR.p rfl rfl (VP.fieldE rfl fa27_0) ?_
          refine VR.p rfl rfl (VP.loadE rfl ld9 rfl) ?_
          obtain ⟨r4, h13, hm⟩ := bnd hm
          refine VR.cons rfl rfl (VO.callK 0 rfl fn29 rfl (yard_Used_ok bs x.Name r4 h13) fun _ _ h39 => ?_)
          obtain ⟨rfl, rfl⟩ := h39
          refine VR.p rfl rfl (VP.move rfl) ?_
          refine VR.p rfl rfl (VP.extract rfl rfl) ?_
          refine VR.p rfl rfl (VP.extract rfl rfl) ?_
          refine VR.cons rfl rfl (VO.alloc z23 fun b => ?_)
          refine VR.cons rfl rfl (VO.storeP (i := 0) rfl rfl rfl ld23 rfl rfl rfl ?_)
          refine VR.p rfl rfl (VP.assign rfl) ?_
          refine VR.nil ?_
          refine VW.seq ?_
          refine VW.seq ?_
          refine VW.region ?_
          refine VR.p rfl rfl (VP.move rfl) ?_
          refine VR.p rfl rfl (VP.arith rfl rfl rfl) ?_
          refine VR.nil ?_
          rcases ite_or hm with ⟨h15, hm⟩ | ⟨h15, hm⟩
          · refine VW.condT rfl h15 ?_
            refine VW.exit ?_
            refine VW.region ?_
            refine VR.p rfl rfl (VP.move rfl) ?_
            refine VR.p rfl rfl (VP.arith rfl rfl rfl) ?_
            refine VR.p rfl rfl (VP.assign rfl) ?_
            refine VR.nil ?_
            exact ⟨(IntKind.i64.wrap (i2 + (1 : Int))), (), hm, (Shift.pick [] rfl ⟨rfl, rfl, rfl, trivial⟩)⟩
          · have h15 := bf h15
            refine VW.condF rfl h15 ?_
            refine VW.skip ?_
            refine VW.seq ?_
            refine VW.region ?_
            refine VR.p rfl rfl (VP.move rfl) ?_
            refine VR.p rfl rfl (VP.move rfl) ?_
            obtain ⟨x2, h16, hm⟩ := bnd hm
            refine VR.p rfl rfl (VP.glE T_api_Machine.vv rfl rfl el37 h16) ?_
            refine VR.p rfl rfl (VP.loadE rfl ld27 rfl) ?_
            refine VR.p rfl rfl (VP.move rfl) ?_
            obtain ⟨r5, h17, hm⟩ := bnd hm
            refine VR.cons rfl rfl (VO.callK 0 rfl fn30 rfl (yard_Left_ok x2 bs r5 h17) fun _ _ h38 => ?_)
            obtain ⟨rfl, rfl⟩ := h38
            refine VR.cons rfl rfl (VO.alloc z23 fun b2 => ?_)
            refine VR.cons rfl rfl (VO.storeP (i := 0) rfl rfl rfl ld23 rfl rfl rfl ?_)
            refine VR.nil ?_
            refine VW.seq ?_
            refine VW.seq ?_
            refine VW.drawK 0 mixed ?_
            refine VA.p 0 rfl rfl rfl (by kernel_rfl) (VP.loadP (i := 0) rfl rfl ld23 rfl) ?_
            refine VA.all [1] (by kernel_rfl) ⟨?_, trivial⟩
            obtain ⟨r6, h19, hm⟩ := bnd hm
            refine VB.o rfl rfl rfl (VO.callK 0 rfl fn18 rfl (ref04_Right_ok r5 r6 h19) fun _ _ h37 => ?_)
            obtain ⟨rfl, rfl⟩ := h37
            refine VA.p 2 rfl rfl rfl (by kernel_rfl) (VP.not rfl) ?_
            refine VA.p 3 rfl rfl rfl (by kernel_rfl) (VP.move rfl) ?_
            obtain ⟨c2, h24, hm⟩ := bnd hm
            refine VA.sc [12, 11, 10, 9, 8, 7, 6, 5, 4, 3, 2, 1, 0] 58 (.bool c2) (fun K' J => ?_) ?_
            · have hm := h24
              rcases ite_or hm with ⟨h20, hm⟩ | ⟨h20, hm⟩
              · refine VA.skipG 4 rfl rfl rfl rfl rfl h20 (by kernel_rfl) ?_
                refine VA.skipG 5 rfl rfl rfl rfl rfl h20 (by kernel_rfl) ?_
                refine VA.skipG 6 rfl rfl rfl rfl rfl h20 (by kernel_rfl) ?_
                refine VA.skipG 7 rfl rfl rfl rfl rfl h20 (by kernel_rfl) ?_
                refine VA.skipG 8 rfl rfl rfl rfl rfl h20 (by kernel_rfl) ?_
                refine VA.skipG 9 rfl rfl rfl rfl rfl h20 (by kernel_rfl) ?_
                refine VA.skipG 10 rfl rfl rfl rfl rfl h20 (by kernel_rfl) ?_
                refine VA.skipG 11 rfl rfl rfl rfl rfl h20 (by kernel_rfl) ?_
                refine VA.p 12 rfl rfl rfl (by kernel_rfl) (VP.pickB true rfl h20 rfl) ?_
                exact J [_, _, _, _, _, _, _, _] _ rfl (congrArg VV.bool (Option.some.inj hm))
              · have h20 := bf h20
                refine VA.pG 4 rfl rfl rfl rfl rfl h20 (by kernel_rfl) (VP.loadP (i := 0) rfl rfl ld23 rfl) ?_
                refine VA.pG 5 rfl rfl rfl rfl rfl h20 (by kernel_rfl) (VP.move rfl) ?_
                refine VA.pG 6 rfl rfl rfl rfl rfl h20 (by kernel_rfl) (VP.move rfl) ?_
                obtain ⟨x3, h21, hm⟩ := bnd hm
                refine VA.pG 7 rfl rfl rfl rfl rfl h20 (by kernel_rfl) (VP.glE T_api_Machine.vv rfl rfl el37 h21) ?_
                refine VA.pG 8 rfl rfl rfl rfl rfl h20 (by kernel_rfl) (VP.fieldE rfl fa27_2) ?_
                refine VA.pG 9 rfl rfl rfl rfl rfl h20 (by kernel_rfl) (VP.loadE rfl ld23 rfl) ?_
                refine VA.all [10] (by kernel_rfl) ⟨?_, trivial⟩
                obtain ⟨r7, h22, hm⟩ := bnd hm
                refine VB.oG rfl rfl rfl rfl rfl h20 (VO.callK 0 rfl fn23 rfl (ref04_Fits_ok r5 x3.Has r7 h22) fun _ _ h23 => ?_)
                obtain ⟨rfl, rfl⟩ := h23
                refine VA.pG 11 rfl rfl rfl rfl rfl h20 (by kernel_rfl) (VP.not rfl) ?_
                refine VA.p 12 rfl rfl rfl (by kernel_rfl) (VP.pickB false rfl h20 rfl) ?_
                exact J [_, _, _, _, _, _, _, _] _ rfl (congrArg VV.bool (Option.some.inj hm))
            · refine VA.done (by kernel_rfl) ?_
              rcases ite_or hm with ⟨h25, hm⟩ | ⟨h25, hm⟩
              · refine VW.condT rfl h25 ?_
                refine VW.seq ?_
                refine VW.region ?_
                refine VR.p rfl rfl (VP.assign rfl) ?_
                refine VR.nil ?_
                obtain rfl := Option.some.inj hm
                have hm := Out.ret_on h10
                obtain rfl := Option.some.inj hm
                exact VW.ret ⟨.inl rfl, _, .cons (.tmp _ _ rfl) .nil, [], _, rfl, rfl, rfl⟩
              · have h25 := bf h25
                refine VW.condF rfl h25 ?_
                refine VW.skip ?_
                refine VW.seq ?_
                refine VW.region ?_
                refine VR.p rfl rfl (VP.loadP (i := 0) rfl rfl ld23 rfl) ?_
                refine VR.p rfl rfl (VP.loadP (i := 1) rfl rfl ld23 rfl) ?_
                obtain ⟨r8, h26, hm⟩ := bnd hm
                refine VR.cons rfl rfl (VO.callK 0 rfl fn31 rfl (ref04_Add_ok r5 r4.1 r8 h26) fun _ _ h36 => ?_)
                obtain ⟨rfl, rfl⟩ := h36
                refine VR.p rfl rfl (VP.move rfl) ?_
                refine VR.p rfl rfl (VP.extract rfl rfl) ?_
                refine VR.p rfl rfl (VP.extract rfl rfl) ?_
                refine VR.cons rfl rfl (VO.alloc z23 fun b3 => ?_)
                refine VR.cons rfl rfl (VO.storeP (i := 0) rfl rfl rfl ld23 rfl rfl rfl ?_)
                refine VR.p rfl rfl (VP.assign rfl) ?_
                refine VR.nil ?_
                refine VW.seq ?_
                refine VW.drawK 0 mixed ?_
                refine VA.p 0 rfl rfl rfl (by kernel_rfl) (VP.loadP (i := 2) rfl rfl ld23 rfl) ?_
                refine VA.p 1 rfl rfl rfl (by kernel_rfl) (VP.move rfl) ?_
                refine VA.p 2 rfl rfl rfl (by kernel_rfl) (VP.move rfl) ?_
                obtain ⟨x4, h28, hm⟩ := bnd hm
                refine VA.p 3 rfl rfl rfl (by kernel_rfl) (VP.glE T_api_Machine.vv rfl rfl el37 h28) ?_
                refine VA.p 4 rfl rfl rfl (by kernel_rfl) (VP.fieldE rfl fa27_2) ?_
                refine VA.p 5 rfl rfl rfl (by kernel_rfl) (VP.loadE rfl ld23 rfl) ?_
                refine VA.all [6] (by kernel_rfl) ⟨?_, trivial⟩
                obtain ⟨r9, h29, hm⟩ := bnd hm
                refine VB.o rfl rfl rfl (VO.callK 0 rfl fn23 rfl (ref04_Fits_ok r4.1 x4.Has r9 h29) fun _ _ h35 => ?_)
                obtain ⟨rfl, rfl⟩ := h35
                refine VA.p 7 rfl rfl rfl (by kernel_rfl) (VP.move rfl) ?_
                obtain ⟨c3, h33, hm⟩ := bnd hm
                refine VA.sc [19, 18, 17, 16, 15, 14, 13, 12, 11, 10, 9, 8, 7, 6, 5, 4, 3, 2, 1, 0] 84 (.bool c3) (fun K' J => ?_) ?_
                · have hm := h33
                  rcases ite_or hm with ⟨h30, hm⟩ | ⟨h30, hm⟩
                  · refine VA.pG 8 rfl rfl rfl rfl rfl h30 (by kernel_rfl) (VP.loadP (i := 0) rfl rfl ld23 rfl) ?_
                    refine VA.pG 9 rfl rfl rfl rfl rfl h30 (by kernel_rfl) (VP.move rfl) ?_
                    refine VA.pG 10 rfl rfl rfl rfl rfl h30 (by kernel_rfl) (VP.move rfl) ?_
                    obtain ⟨x5, h31, hm⟩ := bnd hm
                    refine VA.pG 11 rfl rfl rfl rfl rfl h30 (by kernel_rfl) (VP.glE T_api_Machine.vv rfl rfl el37 h31) ?_
                    refine VA.pG 12 rfl rfl rfl rfl rfl h30 (by kernel_rfl) (VP.fieldE rfl fa27_2) ?_
                    refine VA.pG 13 rfl rfl rfl rfl rfl h30 (by kernel_rfl) (VP.loadE rfl ld23 rfl) ?_
                    refine VA.pG 14 rfl rfl rfl rfl rfl h30 (by kernel_rfl) (VP.eqS shp23 eq23 rfl rfl rfl rfl) ?_
                    refine VA.pG 15 rfl rfl rfl rfl rfl h30 (by kernel_rfl) (VP.move rfl) ?_
                    refine VA.sc [18, 17, 16, 15, 14, 13, 12, 11, 10, 9, 8, 7, 6, 5, 4, 3, 2, 1, 0] 83 (.bool ((!(((r8.1.Cpu == x5.Has.Cpu) && ((r8.1.Mem == x5.Has.Mem) && ((r8.1.Disk == x5.Has.Disk) && ((r8.1.Pods == x5.Has.Pods) && ((r8.1.Dev == x5.Has.Dev) && true))))) == true)) || (r8.2 != (0 : Int)))) (fun K' J => ?_) ?_
                    · rcases Bool.eq_false_or_eq_true (!(((r8.1.Cpu == x5.Has.Cpu) && ((r8.1.Mem == x5.Has.Mem) && ((r8.1.Disk == x5.Has.Disk) && ((r8.1.Pods == x5.Has.Pods) && ((r8.1.Dev == x5.Has.Dev) && true))))) == true)) with h32 | h32
                      · refine VA.skipG 16 rfl rfl rfl rfl rfl h32 (by kernel_rfl) ?_
                        refine VA.skipG 17 rfl rfl rfl rfl rfl h32 (by kernel_rfl) ?_
                        refine VA.pG 18 rfl rfl rfl rfl rfl h30 (by kernel_rfl) (VP.pickB true rfl h32 rfl) ?_
                        exact J [_, _] _ rfl (orT h32)
                      · refine VA.pG 16 rfl rfl rfl rfl rfl h32 (by kernel_rfl) (VP.move rfl) ?_
                        refine VA.pG 17 rfl rfl rfl rfl rfl h32 (by kernel_rfl) (VP.arith rfl rfl rfl) ?_
                        refine VA.pG 18 rfl rfl rfl rfl rfl h30 (by kernel_rfl) (VP.pickB false rfl h32 rfl) ?_
                        exact J [_, _] _ rfl (orF h32)
                    · refine VA.p 19 rfl rfl rfl (by kernel_rfl) (VP.pickB true rfl h30 rfl) ?_
                      exact J [_, _, _, _, _, _, _, _, _] _ rfl (congrArg VV.bool (Option.some.inj hm))
                  · have h30 := bf h30
                    refine VA.skipG 8 rfl rfl rfl rfl rfl h30 (by kernel_rfl) ?_
                    refine VA.skipG 9 rfl rfl rfl rfl rfl h30 (by kernel_rfl) ?_
                    refine VA.skipG 10 rfl rfl rfl rfl rfl h30 (by kernel_rfl) ?_
                    refine VA.skipG 11 rfl rfl rfl rfl rfl h30 (by kernel_rfl) ?_
                    refine VA.skipG 12 rfl rfl rfl rfl rfl h30 (by kernel_rfl) ?_
                    refine VA.skipG 13 rfl rfl rfl rfl rfl h30 (by kernel_rfl) ?_
                    refine VA.skipG 14 rfl rfl rfl rfl rfl h30 (by kernel_rfl) ?_
                    refine VA.skipG 15 rfl rfl rfl rfl rfl h30 (by kernel_rfl) ?_
                    refine VA.skipU 16 rfl rfl rfl rfl rfl (by kernel_rfl) ?_
                    refine VA.skipU 17 rfl rfl rfl rfl rfl (by kernel_rfl) ?_
                    refine VA.skipG 18 rfl rfl rfl rfl rfl h30 (by kernel_rfl) ?_
                    refine VA.p 19 rfl rfl rfl (by kernel_rfl) (VP.pickB false rfl h30 rfl) ?_
                    exact J [_, _, _, _, _, _, _, _, _, _, _] _ rfl (congrArg VV.bool (Option.some.inj hm))
                · refine VA.done (by kernel_rfl) ?_
                  rcases ite_or hm with ⟨h34, hm⟩ | ⟨h34, hm⟩
                  · refine VW.condT rfl h34 ?_
                    refine VW.seq ?_
                    refine VW.region ?_
                    refine VR.p rfl rfl (VP.assign rfl) ?_
                    refine VR.nil ?_
                    obtain rfl := Option.some.inj hm
                    have hm := Out.ret_on h10
                    obtain rfl := Option.some.inj hm
                    exact VW.ret ⟨.inl rfl, _, .cons (.tmp _ _ rfl) .nil, [], _, rfl, rfl, rfl⟩
                  · have h34 := bf h34
                    refine VW.condF rfl h34 ?_
                    refine VW.skip ?_
                    refine VW.region ?_
                    refine VR.p rfl rfl (VP.move rfl) ?_
                    refine VR.p rfl rfl (VP.arith rfl rfl rfl) ?_
                    refine VR.p rfl rfl (VP.assign rfl) ?_
                    refine VR.nil ?_
                    exact ⟨(IntKind.i64.wrap (i2 + (1 : Int))), (), hm, (Shift.pick [] rfl ⟨rfl, rfl, rfl, trivial⟩)⟩
        · have h11 := bf h11
          refine VW.condF rfl h11 ?_
          refine VW.exit ?_
          exact ⟨(), (), (Option.some.inj hm).symm, (Shift.pick [] rfl trivial)⟩
      · rintro j _ rfl
        have hm := Out.go_on h10
        refine VW.seq ?_
        refine VW.region ?_
        obtain ⟨r10, h40, hm⟩ := bnd hm
        refine VR.cons rfl rfl (VO.callK 0 rfl fn27 rfl (law09_known_ok r10 h40) fun _ _ h41 => ?_)
        obtain ⟨rfl, rfl⟩ := h41
        refine VR.p rfl rfl (VP.assign rfl) ?_
        refine VR.nil ?_
        obtain rfl := Option.some.inj hm
        exact VW.ret ⟨.inl rfl, _, .cons (.tmp _ _ rfl) .nil, [], _, rfl, rfl, rfl⟩

/-! trireme/triremelaw09.YardOnce -/
def law09_YardOnce.l1 (ms : List T_api_Machine) (bs : List T_api_Bound) : Nat → Int → Int → Option (Out Bool Int)
  | 0, _, _ => none
  | n4 + 1, n2, i2 =>
    if (decide (i2 < (ms.length : Int))) = true then
      (V.gl ms i2).bind fun x =>
      (yard_On bs x.Name).bind fun r5 =>
      (V.gl ms i2).bind fun x2 =>
      (yard_Find ms x2.Name).bind fun r6 =>
      if (r6 != i2) = true then
        some (Out.ret false)
      else
        law09_YardOnce.l1 ms bs n4 (IntKind.i64.wrap (n2 + (r5.length : Int))) (IntKind.i64.wrap (i2 + (1 : Int)))
    else
      some (Out.go n2)
def law09_YardOnce (ms : List T_api_Machine) (bs : List T_api_Bound) : Option Bool :=
  (ref09_Light ms bs).bind fun r =>
  (if (!r) = true then some true else (yard_Check ms bs).bind fun r2 =>
  some (r2 != (0 : Int))).bind fun c =>
  if c = true then
    (law09_known).bind fun r3 =>
    some r3
  else
    (yard_On bs (⟨#[]⟩ : ByteArray)).bind fun r4 =>
    (law09_YardOnce.l1 ms bs FU (r4.length : Int) (0 : Int)).bind fun o =>
    o.on fun n32 =>
    (if (n32 == (bs.length : Int)) = true then (yard_Check ms ([] : List T_api_Bound)).bind fun r7 =>
    some (r7 == (0 : Int)) else some false).bind fun c2 =>
    (if c2 = true then (law09_known).bind fun r8 =>
    some r8 else some false).bind fun c3 =>
    some c3
theorem law09_YardOnce_ok (ms : List T_api_Machine) (bs : List T_api_Bound) (r : Bool) (hm : law09_YardOnce ms bs = some r) :
    VC Try.prog 8 [.list 27 (List.map T_api_Machine.vv ms), .list 49 (List.map T_api_Bound.vv bs)] [] (fun zx zH => zx = .bool r ∧ zH = []) := by
  unfold law09_YardOnce at hm
  refine VC.run (c := _) (rs := [.tmp 4]) Try.func8 rfl rfl rfl ?_
  refine VW.seq ?_
  refine VW.region ?_
  refine VR.p rfl rfl (VP.assign rfl) ?_
  refine VR.nil ?_
  refine VW.seq ?_
  refine VW.seq ?_
  refine VW.region ?_
  refine VR.p rfl rfl (VP.move rfl) ?_
  refine VR.p rfl rfl (VP.move rfl) ?_
  obtain ⟨r, h1, hm⟩ := bnd hm
  refine VR.cons rfl rfl (VO.callK 0 rfl fn12 rfl (ref09_Light_ok ms bs r h1) fun _ _ h31 => ?_)
  obtain ⟨rfl, rfl⟩ := h31
  refine VR.p rfl rfl (VP.not rfl) ?_
  refine VR.p rfl rfl (VP.move rfl) ?_
  obtain ⟨c, h5, hm⟩ := bnd hm
  refine VR.sc 5 16 (.bool c) (fun K' J => ?_) ?_
  · have hm := h5
    rcases ite_or hm with ⟨h2, hm⟩ | ⟨h2, hm⟩
    · refine VR.skipG rfl rfl rfl rfl h2 ?_
      refine VR.skipG rfl rfl rfl rfl h2 ?_
      refine VR.skipG rfl rfl rfl rfl h2 ?_
      refine VR.skipG rfl rfl rfl rfl h2 ?_
      refine VR.p rfl rfl (VP.pickB true rfl h2 rfl) ?_
      exact J [_, _, _, _] _ rfl (congrArg VV.bool (Option.some.inj hm))
    · have h2 := bf h2
      refine VR.pG rfl rfl rfl rfl h2 (VP.move rfl) ?_
      refine VR.pG rfl rfl rfl rfl h2 (VP.move rfl) ?_
      obtain ⟨r2, h3, hm⟩ := bnd hm
      refine VR.consG rfl rfl rfl rfl h2 (VO.callK 0 rfl fn28 rfl (yard_Check_ok ms bs r2 h3) fun _ _ h4 => ?_)
      obtain ⟨rfl, rfl⟩ := h4
      refine VR.pG rfl rfl rfl rfl h2 (VP.arith rfl rfl rfl) ?_
      refine VR.p rfl rfl (VP.pickB false rfl h2 rfl) ?_
      exact J [_, _, _, _] _ rfl (congrArg VV.bool (Option.some.inj hm))
  · refine VR.nil ?_
    rcases ite_or hm with ⟨h6, hm⟩ | ⟨h6, hm⟩
    · refine VW.condT rfl h6 ?_
      refine VW.seq ?_
      refine VW.region ?_
      obtain ⟨r3, h7, hm⟩ := bnd hm
      refine VR.cons rfl rfl (VO.callK 0 rfl fn27 rfl (law09_known_ok r3 h7) fun _ _ h8 => ?_)
      obtain ⟨rfl, rfl⟩ := h8
      refine VR.p rfl rfl (VP.assign rfl) ?_
      refine VR.nil ?_
      obtain rfl := Option.some.inj hm
      exact VW.ret ⟨.inl rfl, _, .cons (.tmp _ _ rfl) .nil, [], _, rfl, rfl, rfl⟩
    · have h6 := bf h6
      refine VW.condF rfl h6 ?_
      refine VW.skip ?_
      refine VW.seq ?_
      refine VW.region ?_
      refine VR.p rfl rfl (VP.move rfl) ?_
      obtain ⟨r4, h9, hm⟩ := bnd hm
      refine VR.cons rfl rfl (VO.callK 0 rfl fn32 rfl (yard_On_ok bs (⟨#[]⟩ : ByteArray) r4 h9) fun _ _ h30 => ?_)
      obtain ⟨ob, cap, rfl, rfl⟩ := h30
      refine VR.shift (Shift.freezeE 0 [(19, .list 33 (List.map T_api_Pod.vv r4))] rfl ⟨⟨_, rfl, .here _ rfl⟩, trivial⟩ (FzH.refl _)) ?_
      refine VR.p rfl rfl (VP.lenT T_api_Pod.vv rfl Try.underlying59) ?_
      refine VR.p rfl rfl (VP.assign rfl) ?_
      refine VR.nil ?_
      refine VW.seq ?_
      refine VW.seq ?_
      refine VW.region ?_
      refine VR.p rfl rfl (VP.assign rfl) ?_
      refine VR.nil ?_
      obtain ⟨o, h11, h12⟩ := bnd hm
      refine VW.joinE (fun (q : Int) => o = Out.go q) (fun (n32 : Int) (gg : Unit) => [(0, .list 27 (List.map T_api_Machine.vv ms)), (1, .list 49 (List.map T_api_Bound.vv bs)), (5, .int .i64 n32)]) (fun (n32 : Int) (gg : Unit) => []) ?_ ?_
      · have hm := h11
        refine VW.block (VW.loop FU ?_)
        refine VL.fuelS (R := _) (fun zn (zs : Int × Int) => law09_YardOnce.l1 ms bs zn zs.1 zs.2) (fun (zs : Int × Int) (zg : Unit) => [(0, .list 27 (List.map T_api_Machine.vv ms)), (1, .list 49 (List.map T_api_Bound.vv bs)), (5, .int .i64 zs.1), (6, .int .i64 zs.2)]) (fun (zs : Int × Int) (zg : Unit) => []) ((r4.length : Int), (0 : Int)) () (fun zs => rfl) (Shift.pick [] rfl ⟨rfl, rfl, rfl, rfl, trivial⟩) h11 ?_
        rintro n4 ⟨n2, i2⟩ _ hm
        rw [law09_YardOnce.l1] at hm
        refine VW.seq ?_
        refine VW.seq ?_
        refine VW.region ?_
        refine VR.p rfl rfl (VP.move rfl) ?_
        refine VR.p rfl rfl (VP.move rfl) ?_
        refine VR.p rfl rfl (VP.lenT T_api_Machine.vv rfl Try.underlying37) ?_
        refine VR.p rfl rfl (VP.arith rfl rfl rfl) ?_
        refine VR.nil ?_
        rcases ite_or hm with ⟨h13, hm⟩ | ⟨h13, hm⟩
        · refine VW.condT rfl h13 ?_
          refine VW.skip ?_
          refine VW.seq ?_
          refine VW.block ?_
          refine VW.seq ?_
          refine VW.region ?_
          refine VR.p rfl rfl (VP.move rfl) ?_
          refine VR.p rfl rfl (VP.move rfl) ?_
          refine VR.p rfl rfl (VP.move rfl) ?_
          refine VR.p rfl rfl (VP.move rfl) ?_
          obtain ⟨x, h14, hm⟩ := bnd hm
          refine VR.p rfl rfl (VP.glE T_api_Machine.vv rfl rfl el37 h14) ?_
          refine VR.p rfl rfl (VP.fieldE rfl fa27_0) ?_
          refine VR.p rfl rfl (VP.loadE rfl ld9 rfl) ?_
          obtain ⟨r5, h15, hm⟩ := bnd hm
          refine VR.cons rfl rfl (VO.callK 0 rfl fn32 rfl (yard_On_ok bs x.Name r5 h15) fun _ _ h21 => ?_)
          obtain ⟨ob2, cap2, rfl, rfl⟩ := h21
          refine VR.shift (Shift.freezeE 0 [(34, .list 33 (List.map T_api_Pod.vv r5))] rfl ⟨⟨_, rfl, .here _ rfl⟩, trivial⟩ (FzH.refl _)) ?_
          refine VR.p rfl rfl (VP.lenT T_api_Pod.vv rfl Try.underlying59) ?_
          refine VR.p rfl rfl (VP.arith rfl rfl rfl) ?_
          refine VR.p rfl rfl (VP.assign rfl) ?_
          refine VR.nil ?_
          refine VW.seq ?_
          refine VW.region ?_
          refine VR.p rfl rfl (VP.move rfl) ?_
          refine VR.p rfl rfl (VP.move rfl) ?_
          refine VR.p rfl rfl (VP.move rfl) ?_
          obtain ⟨x2, h17, hm⟩ := bnd hm
          refine VR.p rfl rfl (VP.glE T_api_Machine.vv rfl rfl el37 h17) ?_
          refine VR.p rfl rfl (VP.fieldE rfl fa27_0) ?_
          refine VR.p rfl rfl (VP.loadE rfl ld9 rfl) ?_
          obtain ⟨r6, h18, hm⟩ := bnd hm
          refine VR.cons rfl rfl (VO.callK 0 rfl fn33 rfl (yard_Find_ok ms x2.Name r6 h18) fun _ _ h20 => ?_)
          obtain ⟨rfl, rfl⟩ := h20
          refine VR.p rfl rfl (VP.move rfl) ?_
          refine VR.p rfl rfl (VP.arith rfl rfl rfl) ?_
          refine VR.nil ?_
          rcases ite_or hm with ⟨h19, hm⟩ | ⟨h19, hm⟩
          · refine VW.condT rfl h19 ?_
            refine VW.seq ?_
            refine VW.region ?_
            refine VR.p rfl rfl (VP.assign rfl) ?_
            refine VR.nil ?_
            obtain rfl := Option.some.inj hm
            have hm := Out.ret_on h12
            obtain rfl := Option.some.inj hm
            exact VW.ret ⟨.inl rfl, _, .cons (.tmp _ _ rfl) .nil, [], _, rfl, rfl, rfl⟩
          · have h19 := bf h19
            refine VW.condF rfl h19 ?_
            refine VW.skip ?_
            refine VW.region ?_
            refine VR.p rfl rfl (VP.move rfl) ?_
            refine VR.p rfl rfl (VP.arith rfl rfl rfl) ?_
            refine VR.p rfl rfl (VP.assign rfl) ?_
            refine VR.nil ?_
            exact ⟨((IntKind.i64.wrap (n2 + (r5.length : Int))), (IntKind.i64.wrap (i2 + (1 : Int)))), (), hm, (Shift.pick [] rfl ⟨rfl, rfl, rfl, rfl, trivial⟩)⟩
        · have h13 := bf h13
          refine VW.condF rfl h13 ?_
          refine VW.exit ?_
          exact ⟨n2, (), (Option.some.inj hm).symm, (Shift.pick [] rfl ⟨rfl, rfl, rfl, trivial⟩)⟩
      · rintro n32 _ rfl
        have hm := Out.go_on h12
        refine VW.seq ?_
        refine VW.region ?_
        refine VR.p rfl rfl (VP.move rfl) ?_
        refine VR.p rfl rfl (VP.move rfl) ?_
        refine VR.p rfl rfl (VP.lenT T_api_Bound.vv rfl Try.underlying28) ?_
        refine VR.p rfl rfl (VP.arith rfl rfl rfl) ?_
        refine VR.p rfl rfl (VP.move rfl) ?_
        obtain ⟨c2, h25, hm⟩ := bnd hm
        refine VR.sc 4 54 (.bool c2) (fun K' J => ?_) ?_
        · have hm := h25
          rcases ite_or hm with ⟨h22, hm⟩ | ⟨h22, hm⟩
          · refine VR.pG rfl rfl rfl rfl h22 (VP.move rfl) ?_
            obtain ⟨r7, h23, hm⟩ := bnd hm
            refine VR.consG rfl rfl rfl rfl h22 (VO.callN 0 [.same, .nil 49] rfl fn28 rfl (yard_Check_ok ms ([] : List T_api_Bound) r7 h23) fun _ _ h24 => ?_)
            obtain ⟨rfl, rfl⟩ := h24
            refine VR.pG rfl rfl rfl rfl h22 (VP.arith rfl rfl rfl) ?_
            refine VR.p rfl rfl (VP.pickB true rfl h22 rfl) ?_
            exact J [_, _, _] _ rfl (congrArg VV.bool (Option.some.inj hm))
          · have h22 := bf h22
            refine VR.skipG rfl rfl rfl rfl h22 ?_
            refine VR.skipG rfl rfl rfl rfl h22 ?_
            refine VR.skipG rfl rfl rfl rfl h22 ?_
            refine VR.p rfl rfl (VP.pickB false rfl h22 rfl) ?_
            exact J [_, _, _] _ rfl (congrArg VV.bool (Option.some.inj hm))
        · refine VR.p rfl rfl (VP.move rfl) ?_
          obtain ⟨c3, h29, hm⟩ := bnd hm
          refine VR.sc 2 57 (.bool c3) (fun K' J => ?_) ?_
          · have hm := h29
            rcases ite_or hm with ⟨h26, hm⟩ | ⟨h26, hm⟩
            · obtain ⟨r8, h27, hm⟩ := bnd hm
              refine VR.consG rfl rfl rfl rfl h26 (VO.callK 0 rfl fn27 rfl (law09_known_ok r8 h27) fun _ _ h28 => ?_)
              obtain ⟨rfl, rfl⟩ := h28
              refine VR.p rfl rfl (VP.pickB true rfl h26 rfl) ?_
              exact J [_] _ rfl (congrArg VV.bool (Option.some.inj hm))
            · have h26 := bf h26
              refine VR.skipG rfl rfl rfl rfl h26 ?_
              refine VR.p rfl rfl (VP.pickB false rfl h26 rfl) ?_
              exact J [_] _ rfl (congrArg VV.bool (Option.some.inj hm))
          · refine VR.p rfl rfl (VP.assign rfl) ?_
            refine VR.nil ?_
            obtain rfl := Option.some.inj hm
            exact VW.ret ⟨.inl rfl, _, .cons (.tmp _ _ rfl) .nil, [], _, rfl, rfl, rfl⟩

end Go.Proofs.Ytcblmlkpcplkfaa.M

/-
  Printed by a program of this session out of the loaded functions: models and their proofs. Own text.
-/
import Derived.Test.YtcblmlkpcplkfaaR2F2
namespace Go.Proofs.Ytcblmlkpcplkfaa.M
open Go Go.Proofs Go.Proofs.Ytcblmlkpcplkfaa.V
set_option linter.unusedVariables false
set_option maxRecDepth 20000
set_option maxHeartbeats 4000000
/-! trireme/triremelaw10.SuitTolerant -/
def law10_SuitTolerant (c : T_law10_Case) : Option Bool :=
  (ref09_Light [c.M] c.Bs).bind fun r =>
  (if (!r) = true then some true else (ref07_LightPod c.P_).bind fun r2 =>
  some (!r2)).bind fun c2 =>
  (if c2 = true then some true else (ref09_Check [c.M] c.Bs).bind fun r3 =>
  some (r3 != (0 : Int))).bind fun c3 =>
  (if c3 = true then some true else (ref07_RightPod c.P_).bind fun r4 =>
  some (!r4)).bind fun c4 =>
  if c4 = true then
    (law10_known).bind fun r5 =>
    some r5
  else
    (suit_Place c.M (⟨c.P_.Name, c.P_.Need, c.P_.Labels, c.P_.Select, c.P_.Terms, [(⟨(⟨#[]⟩ : ByteArray), (⟨#[]⟩ : ByteArray), true, (0 : Int)⟩ : T_api_Toleration)], c.P_.Ports, c.P_.Apart, c.P_.Wide, c.P_.Spread, c.P_.Skew, c.P_.Rank, c.P_.Owner, c.P_.Daemon, c.P_.Pinned, c.P_.Local⟩ : T_api_Pod)).bind fun r6 =>
    (if (r6 == (6 : Int)) = true then some true else (suit_Prefers c.M (⟨c.P_.Name, c.P_.Need, c.P_.Labels, c.P_.Select, c.P_.Terms, [(⟨(⟨#[]⟩ : ByteArray), (⟨#[]⟩ : ByteArray), true, (0 : Int)⟩ : T_api_Toleration)], c.P_.Ports, c.P_.Apart, c.P_.Wide, c.P_.Spread, c.P_.Skew, c.P_.Rank, c.P_.Owner, c.P_.Daemon, c.P_.Pinned, c.P_.Local⟩ : T_api_Pod)).bind fun r7 =>
    some (r7 != (0 : Int))).bind fun c5 =>
    if c5 = true then
      some false
    else
      (suit_Place (⟨c.M.Name, c.M.Group, c.M.Has, c.M.Labels, c.M.Taints, true⟩ : T_api_Machine) (⟨c.P_.Name, c.P_.Need, c.P_.Labels, ([] : List T_api_Label), ([] : List T_api_Term), [(⟨(⟨#[]⟩ : ByteArray), (⟨#[]⟩ : ByteArray), true, (0 : Int)⟩ : T_api_Toleration)], c.P_.Ports, c.P_.Apart, c.P_.Wide, c.P_.Spread, c.P_.Skew, c.P_.Rank, c.P_.Owner, c.P_.Daemon, c.P_.Pinned, c.P_.Local⟩ : T_api_Pod)).bind fun r8 =>
      (if (r8 == (0 : Int)) = true then (suit_Suits (⟨c.M.Name, c.M.Group, c.M.Has, c.M.Labels, c.M.Taints, true⟩ : T_api_Machine) c.Bs (⟨c.P_.Name, c.P_.Need, c.P_.Labels, ([] : List T_api_Label), ([] : List T_api_Term), [(⟨(⟨#[]⟩ : ByteArray), (⟨#[]⟩ : ByteArray), true, (0 : Int)⟩ : T_api_Toleration)], c.P_.Ports, c.P_.Apart, c.P_.Wide, c.P_.Spread, c.P_.Skew, c.P_.Rank, c.P_.Owner, c.P_.Daemon, c.P_.Pinned, c.P_.Local⟩ : T_api_Pod)).bind fun r9 =>
      (suit_Room (⟨c.M.Name, c.M.Group, c.M.Has, c.M.Labels, c.M.Taints, true⟩ : T_api_Machine) c.Bs (⟨c.P_.Name, c.P_.Need, c.P_.Labels, ([] : List T_api_Label), ([] : List T_api_Term), [(⟨(⟨#[]⟩ : ByteArray), (⟨#[]⟩ : ByteArray), true, (0 : Int)⟩ : T_api_Toleration)], c.P_.Ports, c.P_.Apart, c.P_.Wide, c.P_.Spread, c.P_.Skew, c.P_.Rank, c.P_.Owner, c.P_.Daemon, c.P_.Pinned, c.P_.Local⟩ : T_api_Pod)).bind fun r10 =>
      some (r9 == r10) else some false).bind fun c6 =>
      (if c6 = true then (law10_known).bind fun r11 =>
      some r11 else some false).bind fun c7 =>
      some c7
theorem law10_SuitTolerant_ok (c : T_law10_Case) (r : Bool) (hm : law10_SuitTolerant c = some r) :
    VC Try.prog 5 [T_law10_Case.vv c] [] (fun zx zH => zx = .bool r ∧ zH = []) := by
  unfold law10_SuitTolerant at hm
  refine VC.run (c := _) (rs := [.tmp 2]) Try.func5 rfl rfl rfl ?_
  refine VW.seq ?_
  refine VW.region ?_
  refine VR.cons rfl rfl (VO.box rfl rfl fun b => ?_)
  refine VR.p rfl rfl (VP.assign rfl) ?_
  refine VR.nil ?_
  refine VW.seq ?_
  refine VW.seq ?_
  refine VW.region ?_
  refine VR.p rfl rfl (VP.fieldP rfl fa35_0) ?_
  refine VR.p rfl rfl (VP.loadP (i := 0) rfl rfl ld27 rfl) ?_
  refine VR.cons rfl rfl (VO.buildSlice ap37 rfl rfl rfl rfl rfl fun b2 => ?_)
  refine VR.shift (Shift.freezeE 0 [(7, .list 27 (List.map T_api_Machine.vv [c.M]))] rfl ⟨⟨_, rfl, .here _ rfl⟩, trivial⟩ (FzH.refl _)) ?_
  refine VR.p rfl rfl (VP.fieldP rfl fa35_1) ?_
  refine VR.p rfl rfl (VP.loadP (i := 0) rfl rfl ld28 rfl) ?_
  obtain ⟨r, h3, hm⟩ := bnd hm
  refine VR.cons rfl rfl (VO.callK 0 rfl fn12 rfl (ref09_Light_ok [c.M] c.Bs r h3) fun _ _ h42 => ?_)
  obtain ⟨rfl, rfl⟩ := h42
  refine VR.p rfl rfl (VP.not rfl) ?_
  refine VR.p rfl rfl (VP.move rfl) ?_
  obtain ⟨c2, h7, hm⟩ := bnd hm
  refine VR.sc 5 17 (.bool c2) (fun K' J => ?_) ?_
  · have hm := h7
    rcases ite_or hm with ⟨h4, hm⟩ | ⟨h4, hm⟩
    · refine VR.skipG rfl rfl rfl rfl h4 ?_
      refine VR.skipG rfl rfl rfl rfl h4 ?_
      refine VR.skipG rfl rfl rfl rfl h4 ?_
      refine VR.skipG rfl rfl rfl rfl h4 ?_
      refine VR.p rfl rfl (VP.pickB true rfl h4 rfl) ?_
      exact J [_, _, _, _] _ rfl (congrArg VV.bool (Option.some.inj hm))
    · have h4 := bf h4
      refine VR.pG rfl rfl rfl rfl h4 (VP.fieldP rfl fa35_2) ?_
      refine VR.pG rfl rfl rfl rfl h4 (VP.loadP (i := 0) rfl rfl ld33 rfl) ?_
      obtain ⟨r2, h5, hm⟩ := bnd hm
      refine VR.consG rfl rfl rfl rfl h4 (VO.callK 0 rfl fn13 rfl (ref07_LightPod_ok c.P_ r2 h5) fun _ _ h6 => ?_)
      obtain ⟨rfl, rfl⟩ := h6
      refine VR.pG rfl rfl rfl rfl h4 (VP.not rfl) ?_
      refine VR.p rfl rfl (VP.pickB false rfl h4 rfl) ?_
      exact J [_, _, _, _] _ rfl (congrArg VV.bool (Option.some.inj hm))
  · refine VR.p rfl rfl (VP.move rfl) ?_
    obtain ⟨c3, h12, hm⟩ := bnd hm
    refine VR.sc 8 26 (.bool c3) (fun K' J => ?_) ?_
    · have hm := h12
      rcases ite_or hm with ⟨h8, hm⟩ | ⟨h8, hm⟩
      · refine VR.skipG rfl rfl rfl rfl h8 ?_
        refine VR.skipG rfl rfl rfl rfl h8 ?_
        refine VR.skipG rfl rfl rfl rfl h8 ?_
        refine VR.skipG rfl rfl rfl rfl h8 ?_
        refine VR.skipG rfl rfl rfl rfl h8 ?_
        refine VR.skipG rfl rfl rfl rfl h8 ?_
        refine VR.skipG rfl rfl rfl rfl h8 ?_
        refine VR.p rfl rfl (VP.pickB true rfl h8 rfl) ?_
        exact J [_, _, _, _, _, _, _] _ rfl (congrArg VV.bool (Option.some.inj hm))
      · have h8 := bf h8
        refine VR.pG rfl rfl rfl rfl h8 (VP.fieldP rfl fa35_0) ?_
        refine VR.pG rfl rfl rfl rfl h8 (VP.loadP (i := 0) rfl rfl ld27 rfl) ?_
        refine VR.consG rfl rfl rfl rfl h8 (VO.buildSlice ap37 rfl rfl rfl rfl rfl fun b3 => ?_)
        refine VR.shift (Shift.freezeE 0 [(21, .list 27 (List.map T_api_Machine.vv [c.M]))] rfl ⟨⟨_, rfl, .here _ rfl⟩, trivial⟩ (FzH.refl _)) ?_
        refine VR.pG rfl rfl rfl rfl h8 (VP.fieldP rfl fa35_1) ?_
        refine VR.pG rfl rfl rfl rfl h8 (VP.loadP (i := 0) rfl rfl ld28 rfl) ?_
        obtain ⟨r3, h10, hm⟩ := bnd hm
        refine VR.consG rfl rfl rfl rfl h8 (VO.callK 0 rfl fn14 rfl (ref09_Check_ok [c.M] c.Bs r3 h10) fun _ _ h11 => ?_)
        obtain ⟨rfl, rfl⟩ := h11
        refine VR.pG rfl rfl rfl rfl h8 (VP.arith rfl rfl rfl) ?_
        refine VR.p rfl rfl (VP.pickB false rfl h8 rfl) ?_
        exact J [_, _, _, _, _, _, _, _] _ rfl (congrArg VV.bool (Option.some.inj hm))
    · refine VR.p rfl rfl (VP.move rfl) ?_
      obtain ⟨c4, h16, hm⟩ := bnd hm
      refine VR.sc 5 32 (.bool c4) (fun K' J => ?_) ?_
      · have hm := h16
        rcases ite_or hm with ⟨h13, hm⟩ | ⟨h13, hm⟩
        · refine VR.skipG rfl rfl rfl rfl h13 ?_
          refine VR.skipG rfl rfl rfl rfl h13 ?_
          refine VR.skipG rfl rfl rfl rfl h13 ?_
          refine VR.skipG rfl rfl rfl rfl h13 ?_
          refine VR.p rfl rfl (VP.pickB true rfl h13 rfl) ?_
          exact J [_, _, _, _] _ rfl (congrArg VV.bool (Option.some.inj hm))
        · have h13 := bf h13
          refine VR.pG rfl rfl rfl rfl h13 (VP.fieldP rfl fa35_2) ?_
          refine VR.pG rfl rfl rfl rfl h13 (VP.loadP (i := 0) rfl rfl ld33 rfl) ?_
          obtain ⟨r4, h14, hm⟩ := bnd hm
          refine VR.consG rfl rfl rfl rfl h13 (VO.callK 0 rfl fn15 rfl (ref07_RightPod_ok c.P_ r4 h14) fun _ _ h15 => ?_)
          obtain ⟨rfl, rfl⟩ := h15
          refine VR.pG rfl rfl rfl rfl h13 (VP.not rfl) ?_
          refine VR.p rfl rfl (VP.pickB false rfl h13 rfl) ?_
          exact J [_, _, _, _] _ rfl (congrArg VV.bool (Option.some.inj hm))
      · refine VR.nil ?_
        rcases ite_or hm with ⟨h17, hm⟩ | ⟨h17, hm⟩
        · refine VW.condT rfl h17 ?_
          refine VW.seq ?_
          refine VW.region ?_
          obtain ⟨r5, h18, hm⟩ := bnd hm
          refine VR.cons rfl rfl (VO.callK 0 rfl fn16 rfl (law10_known_ok r5 h18) fun _ _ h19 => ?_)
          obtain ⟨rfl, rfl⟩ := h19
          refine VR.p rfl rfl (VP.assign rfl) ?_
          refine VR.nil ?_
          obtain rfl := Option.some.inj hm
          exact VW.ret ⟨.inl rfl, _, .cons (.tmp _ _ rfl) .nil, [], _, rfl, rfl, rfl⟩
        · have h17 := bf h17
          refine VW.condF rfl h17 ?_
          refine VW.skip ?_
          refine VW.seq ?_
          refine VW.region ?_
          refine VR.p rfl rfl (VP.fieldP rfl fa35_2) ?_
          refine VR.p rfl rfl (VP.loadP (i := 0) rfl rfl ld33 rfl) ?_
          refine VR.cons rfl rfl (VO.alloc z33 fun b4 => ?_)
          refine VR.cons rfl rfl (VO.storeP (i := 0) rfl rfl rfl ld33 rfl rfl rfl ?_)
          refine VR.nil ?_
          refine VW.seq ?_
          refine VW.region ?_
          refine VR.p rfl rfl (VP.buildP pl55 rfl rfl) ?_
          refine VR.cons rfl rfl (VO.buildSlice ap30 rfl rfl rfl rfl rfl fun b5 => ?_)
          refine VR.shift (Shift.freezeE 0 [(37, .list 55 (List.map T_api_Toleration.vv [(⟨(⟨#[]⟩ : ByteArray), (⟨#[]⟩ : ByteArray), true, (0 : Int)⟩ : T_api_Toleration)]))] rfl ⟨⟨_, rfl, .here _ rfl⟩, trivial⟩ (FzH.refl _)) ?_
          refine VR.p rfl rfl (VP.fieldP rfl fa33_5) ?_
          refine VR.cons rfl rfl (VO.storeP (i := 0) rfl rfl rfl ld30 rfl rfl rfl ?_)
          refine VR.nil ?_
          refine VW.seq ?_
          refine VW.seq ?_
          refine VW.region ?_
          refine VR.p rfl rfl (VP.fieldP rfl fa35_0) ?_
          refine VR.p rfl rfl (VP.loadP (i := 1) rfl rfl ld27 rfl) ?_
          refine VR.p rfl rfl (VP.loadP (i := 0) rfl rfl ld33 rfl) ?_
          obtain ⟨r6, h22, hm⟩ := bnd hm
          refine VR.cons rfl rfl (VO.callK 0 rfl fn24 rfl (suit_Place_ok c.M (⟨c.P_.Name, c.P_.Need, c.P_.Labels, c.P_.Select, c.P_.Terms, [(⟨(⟨#[]⟩ : ByteArray), (⟨#[]⟩ : ByteArray), true, (0 : Int)⟩ : T_api_Toleration)], c.P_.Ports, c.P_.Apart, c.P_.Wide, c.P_.Spread, c.P_.Skew, c.P_.Rank, c.P_.Owner, c.P_.Daemon, c.P_.Pinned, c.P_.Local⟩ : T_api_Pod) r6 h22) fun _ _ h41 => ?_)
          obtain ⟨rfl, rfl⟩ := h41
          refine VR.p rfl rfl (VP.arith rfl rfl rfl) ?_
          refine VR.p rfl rfl (VP.move rfl) ?_
          obtain ⟨c5, h26, hm⟩ := bnd hm
          refine VR.sc 6 50 (.bool c5) (fun K' J => ?_) ?_
          · have hm := h26
            rcases ite_or hm with ⟨h23, hm⟩ | ⟨h23, hm⟩
            · refine VR.skipG rfl rfl rfl rfl h23 ?_
              refine VR.skipG rfl rfl rfl rfl h23 ?_
              refine VR.skipG rfl rfl rfl rfl h23 ?_
              refine VR.skipG rfl rfl rfl rfl h23 ?_
              refine VR.skipG rfl rfl rfl rfl h23 ?_
              refine VR.p rfl rfl (VP.pickB true rfl h23 rfl) ?_
              exact J [_, _, _, _, _] _ rfl (congrArg VV.bool (Option.some.inj hm))
            · have h23 := bf h23
              refine VR.pG rfl rfl rfl rfl h23 (VP.fieldP rfl fa35_0) ?_
              refine VR.pG rfl rfl rfl rfl h23 (VP.loadP (i := 1) rfl rfl ld27 rfl) ?_
              refine VR.pG rfl rfl rfl rfl h23 (VP.loadP (i := 0) rfl rfl ld33 rfl) ?_
              obtain ⟨r7, h24, hm⟩ := bnd hm
              refine VR.consG rfl rfl rfl rfl h23 (VO.callK 0 rfl fn25 rfl (suit_Prefers_ok c.M (⟨c.P_.Name, c.P_.Need, c.P_.Labels, c.P_.Select, c.P_.Terms, [(⟨(⟨#[]⟩ : ByteArray), (⟨#[]⟩ : ByteArray), true, (0 : Int)⟩ : T_api_Toleration)], c.P_.Ports, c.P_.Apart, c.P_.Wide, c.P_.Spread, c.P_.Skew, c.P_.Rank, c.P_.Owner, c.P_.Daemon, c.P_.Pinned, c.P_.Local⟩ : T_api_Pod) r7 h24) fun _ _ h25 => ?_)
              obtain ⟨rfl, rfl⟩ := h25
              refine VR.pG rfl rfl rfl rfl h23 (VP.arith rfl rfl rfl) ?_
              refine VR.p rfl rfl (VP.pickB false rfl h23 rfl) ?_
              exact J [_, _, _, _, _] _ rfl (congrArg VV.bool (Option.some.inj hm))
          · refine VR.nil ?_
            rcases ite_or hm with ⟨h27, hm⟩ | ⟨h27, hm⟩
            · refine VW.condT rfl h27 ?_
              refine VW.seq ?_
              refine VW.region ?_
              refine VR.p rfl rfl (VP.assign rfl) ?_
              refine VR.nil ?_
              obtain rfl := Option.some.inj hm
              exact VW.ret ⟨.inl rfl, _, .cons (.tmp _ _ rfl) .nil, [], _, rfl, rfl, rfl⟩
            · have h27 := bf h27
              refine VW.condF rfl h27 ?_
              refine VW.skip ?_
              refine VW.seq ?_
              refine VW.region ?_
              refine VR.p rfl rfl (VP.fieldP rfl fa33_3) ?_
              refine VR.cons rfl rfl (VO.storeP (i := 0) rfl rfl rfl ld24 rfl rfl rfl ?_)
              refine VR.nil ?_
              refine VW.seq ?_
              refine VW.region ?_
              refine VR.p rfl rfl (VP.fieldP rfl fa33_4) ?_
              refine VR.cons rfl rfl (VO.storeP (i := 0) rfl rfl rfl ld29 rfl rfl rfl ?_)
              refine VR.nil ?_
              refine VW.seq ?_
              refine VW.region ?_
              refine VR.p rfl rfl (VP.fieldP rfl fa35_0) ?_
              refine VR.p rfl rfl (VP.loadP (i := 1) rfl rfl ld27 rfl) ?_
              refine VR.cons rfl rfl (VO.alloc z27 fun b6 => ?_)
              refine VR.cons rfl rfl (VO.storeP (i := 0) rfl rfl rfl ld27 rfl rfl rfl ?_)
              refine VR.nil ?_
              refine VW.seq ?_
              refine VW.region ?_
              refine VR.p rfl rfl (VP.fieldP rfl fa27_5) ?_
              refine VR.cons rfl rfl (VO.storeP (i := 0) rfl rfl rfl ld4 rfl rfl rfl ?_)
              refine VR.nil ?_
              refine VW.seq ?_
              refine VW.drawK 0 mixed ?_
              refine VA.p 0 rfl rfl rfl (by kernel_rfl) (VP.loadP (i := 0) rfl rfl ld27 rfl) ?_
              refine VA.p 1 rfl rfl rfl (by kernel_rfl) (VP.loadP (i := 1) rfl rfl ld33 rfl) ?_
              refine VA.all [2] (by kernel_rfl) ⟨?_, trivial⟩
              obtain ⟨r8, h29, hm⟩ := bnd hm
              refine VB.o rfl rfl rfl (VO.callN 0 [.same, .agg [none, none, none, none, none, none, none, some 79, some 74]] rfl fn24 rfl (suit_Place_ok (⟨c.M.Name, c.M.Group, c.M.Has, c.M.Labels, c.M.Taints, true⟩ : T_api_Machine) (⟨c.P_.Name, c.P_.Need, c.P_.Labels, ([] : List T_api_Label), ([] : List T_api_Term), [(⟨(⟨#[]⟩ : ByteArray), (⟨#[]⟩ : ByteArray), true, (0 : Int)⟩ : T_api_Toleration)], c.P_.Ports, c.P_.Apart, c.P_.Wide, c.P_.Spread, c.P_.Skew, c.P_.Rank, c.P_.Owner, c.P_.Daemon, c.P_.Pinned, c.P_.Local⟩ : T_api_Pod) r8 h29) fun _ _ h40 => ?_)
              obtain ⟨rfl, rfl⟩ := h40
              refine VA.p 3 rfl rfl rfl (by kernel_rfl) (VP.arith rfl rfl rfl) ?_
              refine VA.p 4 rfl rfl rfl (by kernel_rfl) (VP.move rfl) ?_
              obtain ⟨c6, h35, hm⟩ := bnd hm
              refine VA.sc [16, 15, 14, 13, 12, 11, 10, 9, 8, 7, 6, 5, 4, 3, 2, 1, 0] 72 (.bool c6) (fun K' J => ?_) ?_
              · have hm := h35
                rcases ite_or hm with ⟨h30, hm⟩ | ⟨h30, hm⟩
                · refine VA.pG 5 rfl rfl rfl rfl rfl h30 (by kernel_rfl) (VP.loadP (i := 0) rfl rfl ld27 rfl) ?_
                  refine VA.pG 6 rfl rfl rfl rfl rfl h30 (by kernel_rfl) (VP.fieldP rfl fa35_1) ?_
                  refine VA.pG 7 rfl rfl rfl rfl rfl h30 (by kernel_rfl) (VP.loadP (i := 2) rfl rfl ld28 rfl) ?_
                  refine VA.pG 8 rfl rfl rfl rfl rfl h30 (by kernel_rfl) (VP.loadP (i := 1) rfl rfl ld33 rfl) ?_
                  refine VA.pG 10 rfl rfl rfl rfl rfl h30 (by kernel_rfl) (VP.loadP (i := 0) rfl rfl ld27 rfl) ?_
                  refine VA.pG 11 rfl rfl rfl rfl rfl h30 (by kernel_rfl) (VP.fieldP rfl fa35_1) ?_
                  refine VA.pG 12 rfl rfl rfl rfl rfl h30 (by kernel_rfl) (VP.loadP (i := 2) rfl rfl ld28 rfl) ?_
                  refine VA.pG 13 rfl rfl rfl rfl rfl h30 (by kernel_rfl) (VP.loadP (i := 1) rfl rfl ld33 rfl) ?_
                  refine VA.all [9] (by kernel_rfl) ⟨?_, trivial⟩
                  obtain ⟨r9, h31, hm⟩ := bnd hm
                  refine VB.oG rfl rfl rfl rfl rfl h30 (VO.callN 0 [.same, .same, .agg [none, none, none, none, none, none, none, some 79, some 74]] rfl fn17 rfl (suit_Suits_ok (⟨c.M.Name, c.M.Group, c.M.Has, c.M.Labels, c.M.Taints, true⟩ : T_api_Machine) c.Bs (⟨c.P_.Name, c.P_.Need, c.P_.Labels, ([] : List T_api_Label), ([] : List T_api_Term), [(⟨(⟨#[]⟩ : ByteArray), (⟨#[]⟩ : ByteArray), true, (0 : Int)⟩ : T_api_Toleration)], c.P_.Ports, c.P_.Apart, c.P_.Wide, c.P_.Spread, c.P_.Skew, c.P_.Rank, c.P_.Owner, c.P_.Daemon, c.P_.Pinned, c.P_.Local⟩ : T_api_Pod) r9 h31) fun _ _ h34 => ?_)
                  obtain ⟨rfl, rfl⟩ := h34
                  refine VA.all [14] (by kernel_rfl) ⟨?_, trivial⟩
                  obtain ⟨r10, h32, hm⟩ := bnd hm
                  refine VB.oG rfl rfl rfl rfl rfl h30 (VO.callN 0 [.same, .same, .agg [none, none, none, none, none, none, none, some 79, some 74]] rfl fn26 rfl (suit_Room_ok (⟨c.M.Name, c.M.Group, c.M.Has, c.M.Labels, c.M.Taints, true⟩ : T_api_Machine) c.Bs (⟨c.P_.Name, c.P_.Need, c.P_.Labels, ([] : List T_api_Label), ([] : List T_api_Term), [(⟨(⟨#[]⟩ : ByteArray), (⟨#[]⟩ : ByteArray), true, (0 : Int)⟩ : T_api_Toleration)], c.P_.Ports, c.P_.Apart, c.P_.Wide, c.P_.Spread, c.P_.Skew, c.P_.Rank, c.P_.Owner, c.P_.Daemon, c.P_.Pinned, c.P_.Local⟩ : T_api_Pod) r10 h32) fun _ _ h33 => ?_)
                  obtain ⟨rfl, rfl⟩ := h33
                  refine VA.pG 15 rfl rfl rfl rfl rfl h30 (by kernel_rfl) (VP.arith rfl rfl rfl) ?_
                  refine VA.p 16 rfl rfl rfl (by kernel_rfl) (VP.pickB true rfl h30 rfl) ?_
                  refine VA.reord [16, 15, 14, 13, 12, 11, 10, 9, 8, 7, 6, 5, 4, 3, 2, 1, 0] (by kernel_rfl) rfl ?_
                  exact J [_, _, _, _, _, _, _, _, _, _, _] _ rfl (congrArg VV.bool (Option.some.inj hm))
                · have h30 := bf h30
                  refine VA.skipG 5 rfl rfl rfl rfl rfl h30 (by kernel_rfl) ?_
                  refine VA.skipG 6 rfl rfl rfl rfl rfl h30 (by kernel_rfl) ?_
                  refine VA.skipG 7 rfl rfl rfl rfl rfl h30 (by kernel_rfl) ?_
                  refine VA.skipG 8 rfl rfl rfl rfl rfl h30 (by kernel_rfl) ?_
                  refine VA.skipG 9 rfl rfl rfl rfl rfl h30 (by kernel_rfl) ?_
                  refine VA.skipG 10 rfl rfl rfl rfl rfl h30 (by kernel_rfl) ?_
                  refine VA.skipG 11 rfl rfl rfl rfl rfl h30 (by kernel_rfl) ?_
                  refine VA.skipG 12 rfl rfl rfl rfl rfl h30 (by kernel_rfl) ?_
                  refine VA.skipG 13 rfl rfl rfl rfl rfl h30 (by kernel_rfl) ?_
                  refine VA.skipG 14 rfl rfl rfl rfl rfl h30 (by kernel_rfl) ?_
                  refine VA.skipG 15 rfl rfl rfl rfl rfl h30 (by kernel_rfl) ?_
                  refine VA.p 16 rfl rfl rfl (by kernel_rfl) (VP.pickB false rfl h30 rfl) ?_
                  exact J [_, _, _, _, _, _, _, _, _, _, _] _ rfl (congrArg VV.bool (Option.some.inj hm))
              · refine VA.p 17 rfl rfl rfl (by kernel_rfl) (VP.move rfl) ?_
                obtain ⟨c7, h39, hm⟩ := bnd hm
                refine VA.sc [19, 18, 17, 16, 15, 14, 13, 12, 11, 10, 9, 8, 7, 6, 5, 4, 3, 2, 1, 0] 75 (.bool c7) (fun K' J => ?_) ?_
                · have hm := h39
                  rcases ite_or hm with ⟨h36, hm⟩ | ⟨h36, hm⟩
                  · refine VA.all [18] (by kernel_rfl) ⟨?_, trivial⟩
                    obtain ⟨r11, h37, hm⟩ := bnd hm
                    refine VB.oG rfl rfl rfl rfl rfl h36 (VO.callK 0 rfl fn16 rfl (law10_known_ok r11 h37) fun _ _ h38 => ?_)
                    obtain ⟨rfl, rfl⟩ := h38
                    refine VA.p 19 rfl rfl rfl (by kernel_rfl) (VP.pickB true rfl h36 rfl) ?_
                    exact J [_] _ rfl (congrArg VV.bool (Option.some.inj hm))
                  · have h36 := bf h36
                    refine VA.skipG 18 rfl rfl rfl rfl rfl h36 (by kernel_rfl) ?_
                    refine VA.p 19 rfl rfl rfl (by kernel_rfl) (VP.pickB false rfl h36 rfl) ?_
                    exact J [_] _ rfl (congrArg VV.bool (Option.some.inj hm))
                · refine VA.p 20 rfl rfl rfl (by kernel_rfl) (VP.assign rfl) ?_
                  refine VA.done (by kernel_rfl) ?_
                  obtain rfl := Option.some.inj hm
                  exact VW.ret ⟨.inl rfl, _, .cons (.tmp _ _ rfl) .nil, [], _, rfl, rfl, rfl⟩

end Go.Proofs.Ytcblmlkpcplkfaa.M

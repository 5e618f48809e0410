/-
  Printed by a program of this session out of the loaded functions: models and their proofs. Own text.
-/
import Derived.Test.YtcblmlkpcplkfaaGreatRZF2
namespace Go.Proofs.YtcblmlkpcplkfaaGreat.M
open Go Go.Proofs Go.Proofs.YtcblmlkpcplkfaaGreat.V
set_option linter.unusedVariables false
set_option maxRecDepth 20000
set_option maxHeartbeats 4000000
/-! trireme/triremelaw12.known -/
def law12_known : Option Bool :=
  (fit_Put ([] : List T_api_Bound) (⟨(⟨#[112]⟩ : ByteArray), (⟨(600 : Int), (0 : Int), (0 : Int), (1 : Int), (0 : Int)⟩ : T_api_Res), ([] : List T_api_Label), ([] : List T_api_Label), ([] : List T_api_Term), ([] : List T_api_Toleration), ([] : List Int), ([] : List T_api_Label), false, ([] : List T_api_Label), (0 : Int), (0 : Int), (⟨#[]⟩ : ByteArray), false, false, false⟩ : T_api_Pod) (⟨#[109]⟩ : ByteArray)).bind fun r =>
  (fit_Tally [(⟨(⟨#[109]⟩ : ByteArray), (⟨#[]⟩ : ByteArray), (⟨(1000 : Int), (0 : Int), (0 : Int), (9 : Int), (0 : Int)⟩ : T_api_Res), ([] : List T_api_Label), ([] : List T_api_Taint), true⟩ : T_api_Machine)] r (⟨(⟨#[113]⟩ : ByteArray), (⟨(600 : Int), (0 : Int), (0 : Int), (1 : Int), (0 : Int)⟩ : T_api_Res), ([] : List T_api_Label), ([] : List T_api_Label), ([] : List T_api_Term), ([] : List T_api_Toleration), ([] : List Int), ([] : List T_api_Label), false, ([] : List T_api_Label), (0 : Int), (0 : Int), (⟨#[]⟩ : ByteArray), false, false, false⟩ : T_api_Pod)).bind fun r2 =>
  (fit_Where [(⟨(⟨#[109]⟩ : ByteArray), (⟨#[]⟩ : ByteArray), (⟨(1000 : Int), (0 : Int), (0 : Int), (9 : Int), (0 : Int)⟩ : T_api_Res), ([] : List T_api_Label), ([] : List T_api_Taint), true⟩ : T_api_Machine)] ([] : List T_api_Bound) (⟨(⟨#[112]⟩ : ByteArray), (⟨(600 : Int), (0 : Int), (0 : Int), (1 : Int), (0 : Int)⟩ : T_api_Res), ([] : List T_api_Label), ([] : List T_api_Label), ([] : List T_api_Term), ([] : List T_api_Toleration), ([] : List Int), ([] : List T_api_Label), false, ([] : List T_api_Label), (0 : Int), (0 : Int), (⟨#[]⟩ : ByteArray), false, false, false⟩ : T_api_Pod)).bind fun r3 =>
  (ref09_Texts r3 [(⟨#[109]⟩ : ByteArray)]).bind fun r4 =>
  (if (r4 && ((r.length : Int) == (1 : Int))) = true then (fit_Where [(⟨(⟨#[109]⟩ : ByteArray), (⟨#[]⟩ : ByteArray), (⟨(1000 : Int), (0 : Int), (0 : Int), (9 : Int), (0 : Int)⟩ : T_api_Res), ([] : List T_api_Label), ([] : List T_api_Taint), true⟩ : T_api_Machine)] r (⟨(⟨#[113]⟩ : ByteArray), (⟨(600 : Int), (0 : Int), (0 : Int), (1 : Int), (0 : Int)⟩ : T_api_Res), ([] : List T_api_Label), ([] : List T_api_Label), ([] : List T_api_Term), ([] : List T_api_Toleration), ([] : List Int), ([] : List T_api_Label), false, ([] : List T_api_Label), (0 : Int), (0 : Int), (⟨#[]⟩ : ByteArray), false, false, false⟩ : T_api_Pod)).bind fun r5 =>
  some ((r5.length : Int) == (0 : Int)) else some false).bind fun c =>
  (if (c && (r2.x2 == (1 : Int))) = true then (fit_Why [(⟨(⟨#[109]⟩ : ByteArray), (⟨#[]⟩ : ByteArray), (⟨(1000 : Int), (0 : Int), (0 : Int), (9 : Int), (0 : Int)⟩ : T_api_Res), ([] : List T_api_Label), ([] : List T_api_Taint), true⟩ : T_api_Machine)] r (⟨(⟨#[113]⟩ : ByteArray), (⟨(600 : Int), (0 : Int), (0 : Int), (1 : Int), (0 : Int)⟩ : T_api_Res), ([] : List T_api_Label), ([] : List T_api_Label), ([] : List T_api_Term), ([] : List T_api_Toleration), ([] : List Int), ([] : List T_api_Label), false, ([] : List T_api_Label), (0 : Int), (0 : Int), (⟨#[]⟩ : ByteArray), false, false, false⟩ : T_api_Pod) (⟨#[120]⟩ : ByteArray)).bind fun r6 =>
  some (r6 == (1 : Int)) else some false).bind fun c2 =>
  (if c2 = true then (fit_Why [(⟨(⟨#[109]⟩ : ByteArray), (⟨#[]⟩ : ByteArray), (⟨(1000 : Int), (0 : Int), (0 : Int), (9 : Int), (0 : Int)⟩ : T_api_Res), ([] : List T_api_Label), ([] : List T_api_Taint), true⟩ : T_api_Machine)] r (⟨(⟨#[113]⟩ : ByteArray), (⟨(600 : Int), (0 : Int), (0 : Int), (1 : Int), (0 : Int)⟩ : T_api_Res), ([] : List T_api_Label), ([] : List T_api_Label), ([] : List T_api_Term), ([] : List T_api_Toleration), ([] : List Int), ([] : List T_api_Label), false, ([] : List T_api_Label), (0 : Int), (0 : Int), (⟨#[]⟩ : ByteArray), false, false, false⟩ : T_api_Pod) (⟨#[109]⟩ : ByteArray)).bind fun r7 =>
  some (r7 == (2 : Int)) else some false).bind fun c3 =>
  (if c3 = true then (fit_Feasible [(⟨(⟨#[109]⟩ : ByteArray), (⟨#[]⟩ : ByteArray), (⟨(1000 : Int), (0 : Int), (0 : Int), (9 : Int), (0 : Int)⟩ : T_api_Res), ([] : List T_api_Label), ([] : List T_api_Taint), true⟩ : T_api_Machine)] r).bind fun r8 =>
  some r8 else some false).bind fun c4 =>
  (if c4 = true then (fit_Put r (⟨(⟨#[113]⟩ : ByteArray), (⟨(600 : Int), (0 : Int), (0 : Int), (1 : Int), (0 : Int)⟩ : T_api_Res), ([] : List T_api_Label), ([] : List T_api_Label), ([] : List T_api_Term), ([] : List T_api_Toleration), ([] : List Int), ([] : List T_api_Label), false, ([] : List T_api_Label), (0 : Int), (0 : Int), (⟨#[]⟩ : ByteArray), false, false, false⟩ : T_api_Pod) (⟨#[109]⟩ : ByteArray)).bind fun r9 =>
  (fit_Feasible [(⟨(⟨#[109]⟩ : ByteArray), (⟨#[]⟩ : ByteArray), (⟨(1000 : Int), (0 : Int), (0 : Int), (9 : Int), (0 : Int)⟩ : T_api_Res), ([] : List T_api_Label), ([] : List T_api_Taint), true⟩ : T_api_Machine)] r9).bind fun r10 =>
  some (!r10) else some false).bind fun c5 =>
  some c5
theorem law12_known_ok (r : Bool) (hm : law12_known = some r) :
    VC Tryz.prog 5 [] [] (fun zx zH => zx = .bool r ∧ zH = []) := by
  unfold law12_known at hm
  refine VC.run (c := _) (rs := [.tmp 0]) Tryz.func5 rfl rfl rfl ?_
  refine VW.seq ?_
  refine VW.region ?_
  refine VR.p rfl rfl (VP.assign rfl) ?_
  refine VR.nil ?_
  refine VW.seq ?_
  refine VW.region ?_
  refine VR.p rfl rfl (VP.buildP pl25 rfl rfl) ?_
  refine VR.p rfl rfl (VP.buildP pl37 rfl rfl) ?_
  refine VR.shift (Shift.trans (Shift.nilRow 73) (Shift.trans (Shift.freezeE 0 [(7, .agg [.str (⟨#[109]⟩ : ByteArray), .str (⟨#[]⟩ : ByteArray), .int .i64 (1000 : Int), .int .i64 (0 : Int), .int .i64 (0 : Int), .int .i64 (9 : Int), .int .i64 (0 : Int), .list 73 (List.map T_api_Label.vv ([] : List T_api_Label)), .sl none 0 0, .bool true])] rfl ⟨⟨_, rfl, .aggL ⟨.same _, .same _, .same _, .same _, .same _, .same _, .same _, .here _ rfl, .same _, .same _, trivial⟩⟩, trivial⟩ (FzH.refl _)) (Shift.trans (Shift.nilRow 77) (Shift.freezeE 0 [(7, T_api_Machine.vv (⟨(⟨#[109]⟩ : ByteArray), (⟨#[]⟩ : ByteArray), (⟨(1000 : Int), (0 : Int), (0 : Int), (9 : Int), (0 : Int)⟩ : T_api_Res), ([] : List T_api_Label), ([] : List T_api_Taint), true⟩ : T_api_Machine))] rfl ⟨⟨_, rfl, .aggL ⟨.same _, .same _, .same _, .same _, .same _, .same _, .same _, .same _, .here _ rfl, .same _, trivial⟩⟩, trivial⟩ (FzH.refl _))))) ?_
  refine VR.cons rfl rfl (VO.buildSlice ap22 rfl rfl rfl rfl rfl fun b => ?_)
  refine VR.shift (Shift.freezeE 0 [(8, .list 37 (List.map T_api_Machine.vv [(⟨(⟨#[109]⟩ : ByteArray), (⟨#[]⟩ : ByteArray), (⟨(1000 : Int), (0 : Int), (0 : Int), (9 : Int), (0 : Int)⟩ : T_api_Res), ([] : List T_api_Label), ([] : List T_api_Taint), true⟩ : T_api_Machine)]))] rfl ⟨⟨_, rfl, .here _ rfl⟩, trivial⟩ (FzH.refl _)) ?_
  refine VR.p rfl rfl (VP.assign rfl) ?_
  refine VR.nil ?_
  refine VW.seq ?_
  refine VW.region ?_
  refine VR.p rfl rfl (VP.buildP pl25 rfl rfl) ?_
  refine VR.p rfl rfl (VP.buildP pl31 rfl rfl) ?_
  refine VR.cons rfl rfl (VO.alloc z31 fun b2 => ?_)
  refine VR.cons rfl rfl (VO.storeP (i := 0) rfl rfl rfl ld31 rfl rfl rfl ?_)
  refine VR.nil ?_
  refine VW.seq ?_
  refine VW.region ?_
  refine VR.p rfl rfl (VP.buildP pl25 rfl rfl) ?_
  refine VR.p rfl rfl (VP.buildP pl31 rfl rfl) ?_
  refine VR.cons rfl rfl (VO.alloc z31 fun b3 => ?_)
  refine VR.cons rfl rfl (VO.storeP (i := 0) rfl rfl rfl ld31 rfl rfl rfl ?_)
  refine VR.nil ?_
  refine VW.seq ?_
  refine VW.region ?_
  refine VR.p rfl rfl (VP.loadP (i := 1) rfl rfl ld31 rfl) ?_
  obtain ⟨r, h4, hm⟩ := bnd hm
  refine VR.cons rfl rfl (VO.callN 0 [.nil 56, .agg [none, none, none, none, none, none, some 73, some 73, some 62, some 75, some 3, some 73, none, some 73], .same] rfl fn19 rfl (fit_Put_ok ([] : List T_api_Bound) (⟨(⟨#[112]⟩ : ByteArray), (⟨(600 : Int), (0 : Int), (0 : Int), (1 : Int), (0 : Int)⟩ : T_api_Res), ([] : List T_api_Label), ([] : List T_api_Label), ([] : List T_api_Term), ([] : List T_api_Toleration), ([] : List Int), ([] : List T_api_Label), false, ([] : List T_api_Label), (0 : Int), (0 : Int), (⟨#[]⟩ : ByteArray), false, false, false⟩ : T_api_Pod) (⟨#[109]⟩ : ByteArray) r h4) fun _ _ h41 => ?_)
  obtain ⟨ob, cap, rfl, rfl⟩ := h41
  refine VR.shift (Shift.freezeE 0 [(14, .list 56 (List.map T_api_Bound.vv r))] rfl ⟨⟨_, rfl, .here _ rfl⟩, trivial⟩ (FzH.refl _)) ?_
  refine VR.p rfl rfl (VP.assign rfl) ?_
  refine VR.nil ?_
  refine VW.seq ?_
  refine VW.region ?_
  refine VR.p rfl rfl (VP.move rfl) ?_
  refine VR.p rfl rfl (VP.move rfl) ?_
  refine VR.p rfl rfl (VP.loadP (i := 0) rfl rfl ld31 rfl) ?_
  obtain ⟨r2, h6, hm⟩ := bnd hm
  refine VR.cons rfl rfl (VO.callN 0 [.same, .same, .agg [none, none, none, none, none, none, some 73, some 73, some 62, some 75, some 3, some 73, none, some 73]] rfl fn11 rfl (fit_Tally_ok [(⟨(⟨#[109]⟩ : ByteArray), (⟨#[]⟩ : ByteArray), (⟨(1000 : Int), (0 : Int), (0 : Int), (9 : Int), (0 : Int)⟩ : T_api_Res), ([] : List T_api_Label), ([] : List T_api_Taint), true⟩ : T_api_Machine)] r (⟨(⟨#[113]⟩ : ByteArray), (⟨(600 : Int), (0 : Int), (0 : Int), (1 : Int), (0 : Int)⟩ : T_api_Res), ([] : List T_api_Label), ([] : List T_api_Label), ([] : List T_api_Term), ([] : List T_api_Toleration), ([] : List Int), ([] : List T_api_Label), false, ([] : List T_api_Label), (0 : Int), (0 : Int), (⟨#[]⟩ : ByteArray), false, false, false⟩ : T_api_Pod) r2 h6) fun _ _ h40 => ?_)
  obtain ⟨rfl, rfl⟩ := h40
  refine VR.cons rfl rfl (VO.alloc z41 fun b4 => ?_)
  refine VR.cons rfl rfl (VO.storeP (i := 0) rfl rfl rfl ld41 rfl rfl rfl ?_)
  refine VR.nil ?_
  refine VW.seq ?_
  refine VW.region ?_
  refine VR.p rfl rfl (VP.move rfl) ?_
  refine VR.p rfl rfl (VP.loadP (i := 2) rfl rfl ld31 rfl) ?_
  obtain ⟨r3, h8, hm⟩ := bnd hm
  refine VR.cons rfl rfl (VO.callN 0 [.same, .nil 56, .agg [none, none, none, none, none, none, some 73, some 73, some 62, some 75, some 3, some 73, none, some 73]] rfl fn9 rfl (fit_Where_ok [(⟨(⟨#[109]⟩ : ByteArray), (⟨#[]⟩ : ByteArray), (⟨(1000 : Int), (0 : Int), (0 : Int), (9 : Int), (0 : Int)⟩ : T_api_Res), ([] : List T_api_Label), ([] : List T_api_Taint), true⟩ : T_api_Machine)] ([] : List T_api_Bound) (⟨(⟨#[112]⟩ : ByteArray), (⟨(600 : Int), (0 : Int), (0 : Int), (1 : Int), (0 : Int)⟩ : T_api_Res), ([] : List T_api_Label), ([] : List T_api_Label), ([] : List T_api_Term), ([] : List T_api_Toleration), ([] : List Int), ([] : List T_api_Label), false, ([] : List T_api_Label), (0 : Int), (0 : Int), (⟨#[]⟩ : ByteArray), false, false, false⟩ : T_api_Pod) r3 h8) fun _ _ h39 => ?_)
  obtain ⟨ob2, cap2, rfl, rfl⟩ := h39
  refine VR.shift (Shift.freezeE 0 [(21, .list 9 (List.map VV.str r3))] rfl ⟨⟨_, rfl, .here _ rfl⟩, trivial⟩ (FzH.refl _)) ?_
  refine VR.cons rfl rfl (VO.buildSlice ap39 rfl rfl rfl rfl rfl fun b5 => ?_)
  refine VR.shift (Shift.freezeE 0 [(22, .list 9 (List.map VV.str [(⟨#[109]⟩ : ByteArray)]))] rfl ⟨⟨_, rfl, .here _ rfl⟩, trivial⟩ (FzH.refl _)) ?_
  obtain ⟨r4, h11, hm⟩ := bnd hm
  refine VR.cons rfl rfl (VO.callK 0 rfl fn8 rfl (ref09_Texts_ok r3 [(⟨#[109]⟩ : ByteArray)] r4 h11) fun _ _ h38 => ?_)
  obtain ⟨rfl, rfl⟩ := h38
  refine VR.p rfl rfl (VP.move rfl) ?_
  refine VR.sc 4 28 (.bool (r4 && ((r.length : Int) == (1 : Int)))) (fun K' J => ?_) ?_
  · rcases Bool.eq_false_or_eq_true r4 with h12 | h12
    · refine VR.pG rfl rfl rfl rfl h12 (VP.move rfl) ?_
      refine VR.pG rfl rfl rfl rfl h12 (VP.lenT T_api_Bound.vv rfl Tryz.underlying23) ?_
      refine VR.pG rfl rfl rfl rfl h12 (VP.arith rfl rfl rfl) ?_
      refine VR.p rfl rfl (VP.pickB true rfl h12 rfl) ?_
      exact J [_, _, _] _ rfl (andT h12)
    · refine VR.skipG rfl rfl rfl rfl h12 ?_
      refine VR.skipG rfl rfl rfl rfl h12 ?_
      refine VR.skipG rfl rfl rfl rfl h12 ?_
      refine VR.p rfl rfl (VP.pickB false rfl h12 rfl) ?_
      exact J [_, _, _] _ rfl (andF h12)
  · refine VR.p rfl rfl (VP.move rfl) ?_
    obtain ⟨c, h17, hm⟩ := bnd hm
    refine VR.sc 7 36 (.bool c) (fun K' J => ?_) ?_
    · have hm := h17
      rcases ite_or hm with ⟨h13, hm⟩ | ⟨h13, hm⟩
      · refine VR.pG rfl rfl rfl rfl h13 (VP.move rfl) ?_
        refine VR.pG rfl rfl rfl rfl h13 (VP.move rfl) ?_
        refine VR.pG rfl rfl rfl rfl h13 (VP.loadP (i := 1) rfl rfl ld31 rfl) ?_
        obtain ⟨r5, h14, hm⟩ := bnd hm
        refine VR.consG rfl rfl rfl rfl h13 (VO.callN 0 [.same, .same, .agg [none, none, none, none, none, none, some 73, some 73, some 62, some 75, some 3, some 73, none, some 73]] rfl fn9 rfl (fit_Where_ok [(⟨(⟨#[109]⟩ : ByteArray), (⟨#[]⟩ : ByteArray), (⟨(1000 : Int), (0 : Int), (0 : Int), (9 : Int), (0 : Int)⟩ : T_api_Res), ([] : List T_api_Label), ([] : List T_api_Taint), true⟩ : T_api_Machine)] r (⟨(⟨#[113]⟩ : ByteArray), (⟨(600 : Int), (0 : Int), (0 : Int), (1 : Int), (0 : Int)⟩ : T_api_Res), ([] : List T_api_Label), ([] : List T_api_Label), ([] : List T_api_Term), ([] : List T_api_Toleration), ([] : List Int), ([] : List T_api_Label), false, ([] : List T_api_Label), (0 : Int), (0 : Int), (⟨#[]⟩ : ByteArray), false, false, false⟩ : T_api_Pod) r5 h14) fun _ _ h16 => ?_)
        obtain ⟨ob3, cap3, rfl, rfl⟩ := h16
        refine VR.shift (Shift.freezeE 0 [(33, .list 9 (List.map VV.str r5))] rfl ⟨⟨_, rfl, .here _ rfl⟩, trivial⟩ (FzH.refl _)) ?_
        refine VR.pG rfl rfl rfl rfl h13 (VP.lenT VV.str rfl Tryz.underlying39) ?_
        refine VR.pG rfl rfl rfl rfl h13 (VP.arith rfl rfl rfl) ?_
        refine VR.p rfl rfl (VP.pickB true rfl h13 rfl) ?_
        exact J [_, _, _, _, _, _, _] _ rfl (congrArg VV.bool (Option.some.inj hm))
      · have h13 := bf h13
        refine VR.skipG rfl rfl rfl rfl h13 ?_
        refine VR.skipG rfl rfl rfl rfl h13 ?_
        refine VR.skipG rfl rfl rfl rfl h13 ?_
        refine VR.skipG rfl rfl rfl rfl h13 ?_
        refine VR.skipG rfl rfl rfl rfl h13 ?_
        refine VR.skipG rfl rfl rfl rfl h13 ?_
        refine VR.p rfl rfl (VP.pickB false rfl h13 rfl) ?_
        exact J [_, _, _, _, _, _] _ rfl (congrArg VV.bool (Option.some.inj hm))
    · refine VR.p rfl rfl (VP.move rfl) ?_
      refine VR.sc 4 41 (.bool (c && (r2.x2 == (1 : Int)))) (fun K' J => ?_) ?_
      · rcases Bool.eq_false_or_eq_true c with h18 | h18
        · refine VR.pG rfl rfl rfl rfl h18 (VP.indexA rfl rfl ar41 (by decide) (by decide)) ?_
          refine VR.pG rfl rfl rfl rfl h18 (VP.loadP (i := 0) rfl rfl ld3 rfl) ?_
          refine VR.pG rfl rfl rfl rfl h18 (VP.arith rfl rfl rfl) ?_
          refine VR.p rfl rfl (VP.pickB true rfl h18 rfl) ?_
          exact J [_, _, _] _ rfl (andT h18)
        · refine VR.skipG rfl rfl rfl rfl h18 ?_
          refine VR.skipG rfl rfl rfl rfl h18 ?_
          refine VR.skipG rfl rfl rfl rfl h18 ?_
          refine VR.p rfl rfl (VP.pickB false rfl h18 rfl) ?_
          exact J [_, _, _] _ rfl (andF h18)
      · refine VR.p rfl rfl (VP.move rfl) ?_
        obtain ⟨c2, h22, hm⟩ := bnd hm
        refine VR.sc 6 48 (.bool c2) (fun K' J => ?_) ?_
        · have hm := h22
          rcases ite_or hm with ⟨h19, hm⟩ | ⟨h19, hm⟩
          · refine VR.pG rfl rfl rfl rfl h19 (VP.move rfl) ?_
            refine VR.pG rfl rfl rfl rfl h19 (VP.move rfl) ?_
            refine VR.pG rfl rfl rfl rfl h19 (VP.loadP (i := 1) rfl rfl ld31 rfl) ?_
            obtain ⟨r6, h20, hm⟩ := bnd hm
            refine VR.consG rfl rfl rfl rfl h19 (VO.callN 0 [.same, .same, .agg [none, none, none, none, none, none, some 73, some 73, some 62, some 75, some 3, some 73, none, some 73], .same] rfl fn6 rfl (fit_Why_ok [(⟨(⟨#[109]⟩ : ByteArray), (⟨#[]⟩ : ByteArray), (⟨(1000 : Int), (0 : Int), (0 : Int), (9 : Int), (0 : Int)⟩ : T_api_Res), ([] : List T_api_Label), ([] : List T_api_Taint), true⟩ : T_api_Machine)] r (⟨(⟨#[113]⟩ : ByteArray), (⟨(600 : Int), (0 : Int), (0 : Int), (1 : Int), (0 : Int)⟩ : T_api_Res), ([] : List T_api_Label), ([] : List T_api_Label), ([] : List T_api_Term), ([] : List T_api_Toleration), ([] : List Int), ([] : List T_api_Label), false, ([] : List T_api_Label), (0 : Int), (0 : Int), (⟨#[]⟩ : ByteArray), false, false, false⟩ : T_api_Pod) (⟨#[120]⟩ : ByteArray) r6 h20) fun _ _ h21 => ?_)
            obtain ⟨rfl, rfl⟩ := h21
            refine VR.pG rfl rfl rfl rfl h19 (VP.arith rfl rfl rfl) ?_
            refine VR.p rfl rfl (VP.pickB true rfl h19 rfl) ?_
            exact J [_, _, _, _, _] _ rfl (congrArg VV.bool (Option.some.inj hm))
          · have h19 := bf h19
            refine VR.skipG rfl rfl rfl rfl h19 ?_
            refine VR.skipG rfl rfl rfl rfl h19 ?_
            refine VR.skipG rfl rfl rfl rfl h19 ?_
            refine VR.skipG rfl rfl rfl rfl h19 ?_
            refine VR.skipG rfl rfl rfl rfl h19 ?_
            refine VR.p rfl rfl (VP.pickB false rfl h19 rfl) ?_
            exact J [_, _, _, _, _] _ rfl (congrArg VV.bool (Option.some.inj hm))
        · refine VR.p rfl rfl (VP.move rfl) ?_
          obtain ⟨c3, h26, hm⟩ := bnd hm
          refine VR.sc 6 55 (.bool c3) (fun K' J => ?_) ?_
          · have hm := h26
            rcases ite_or hm with ⟨h23, hm⟩ | ⟨h23, hm⟩
            · refine VR.pG rfl rfl rfl rfl h23 (VP.move rfl) ?_
              refine VR.pG rfl rfl rfl rfl h23 (VP.move rfl) ?_
              refine VR.pG rfl rfl rfl rfl h23 (VP.loadP (i := 1) rfl rfl ld31 rfl) ?_
              obtain ⟨r7, h24, hm⟩ := bnd hm
              refine VR.consG rfl rfl rfl rfl h23 (VO.callN 0 [.same, .same, .agg [none, none, none, none, none, none, some 73, some 73, some 62, some 75, some 3, some 73, none, some 73], .same] rfl fn6 rfl (fit_Why_ok [(⟨(⟨#[109]⟩ : ByteArray), (⟨#[]⟩ : ByteArray), (⟨(1000 : Int), (0 : Int), (0 : Int), (9 : Int), (0 : Int)⟩ : T_api_Res), ([] : List T_api_Label), ([] : List T_api_Taint), true⟩ : T_api_Machine)] r (⟨(⟨#[113]⟩ : ByteArray), (⟨(600 : Int), (0 : Int), (0 : Int), (1 : Int), (0 : Int)⟩ : T_api_Res), ([] : List T_api_Label), ([] : List T_api_Label), ([] : List T_api_Term), ([] : List T_api_Toleration), ([] : List Int), ([] : List T_api_Label), false, ([] : List T_api_Label), (0 : Int), (0 : Int), (⟨#[]⟩ : ByteArray), false, false, false⟩ : T_api_Pod) (⟨#[109]⟩ : ByteArray) r7 h24) fun _ _ h25 => ?_)
              obtain ⟨rfl, rfl⟩ := h25
              refine VR.pG rfl rfl rfl rfl h23 (VP.arith rfl rfl rfl) ?_
              refine VR.p rfl rfl (VP.pickB true rfl h23 rfl) ?_
              exact J [_, _, _, _, _] _ rfl (congrArg VV.bool (Option.some.inj hm))
            · have h23 := bf h23
              refine VR.skipG rfl rfl rfl rfl h23 ?_
              refine VR.skipG rfl rfl rfl rfl h23 ?_
              refine VR.skipG rfl rfl rfl rfl h23 ?_
              refine VR.skipG rfl rfl rfl rfl h23 ?_
              refine VR.skipG rfl rfl rfl rfl h23 ?_
              refine VR.p rfl rfl (VP.pickB false rfl h23 rfl) ?_
              exact J [_, _, _, _, _] _ rfl (congrArg VV.bool (Option.some.inj hm))
          · refine VR.p rfl rfl (VP.move rfl) ?_
            obtain ⟨c4, h30, hm⟩ := bnd hm
            refine VR.sc 4 60 (.bool c4) (fun K' J => ?_) ?_
            · have hm := h30
              rcases ite_or hm with ⟨h27, hm⟩ | ⟨h27, hm⟩
              · refine VR.pG rfl rfl rfl rfl h27 (VP.move rfl) ?_
                refine VR.pG rfl rfl rfl rfl h27 (VP.move rfl) ?_
                obtain ⟨r8, h28, hm⟩ := bnd hm
                refine VR.consG rfl rfl rfl rfl h27 (VO.callK 0 rfl fn13 rfl (fit_Feasible_ok [(⟨(⟨#[109]⟩ : ByteArray), (⟨#[]⟩ : ByteArray), (⟨(1000 : Int), (0 : Int), (0 : Int), (9 : Int), (0 : Int)⟩ : T_api_Res), ([] : List T_api_Label), ([] : List T_api_Taint), true⟩ : T_api_Machine)] r r8 h28) fun _ _ h29 => ?_)
                obtain ⟨rfl, rfl⟩ := h29
                refine VR.p rfl rfl (VP.pickB true rfl h27 rfl) ?_
                exact J [_, _, _] _ rfl (congrArg VV.bool (Option.some.inj hm))
              · have h27 := bf h27
                refine VR.skipG rfl rfl rfl rfl h27 ?_
                refine VR.skipG rfl rfl rfl rfl h27 ?_
                refine VR.skipG rfl rfl rfl rfl h27 ?_
                refine VR.p rfl rfl (VP.pickB false rfl h27 rfl) ?_
                exact J [_, _, _] _ rfl (congrArg VV.bool (Option.some.inj hm))
            · refine VR.p rfl rfl (VP.move rfl) ?_
              obtain ⟨c5, h37, hm⟩ := bnd hm
              refine VR.sc 7 68 (.bool c5) (fun K' J => ?_) ?_
              · have hm := h37
                rcases ite_or hm with ⟨h31, hm⟩ | ⟨h31, hm⟩
                · refine VR.pG rfl rfl rfl rfl h31 (VP.move rfl) ?_
                  refine VR.pG rfl rfl rfl rfl h31 (VP.move rfl) ?_
                  refine VR.pG rfl rfl rfl rfl h31 (VP.loadP (i := 1) rfl rfl ld31 rfl) ?_
                  obtain ⟨r9, h32, hm⟩ := bnd hm
                  refine VR.consG rfl rfl rfl rfl h31 (VO.callN 0 [.same, .agg [none, none, none, none, none, none, some 73, some 73, some 62, some 75, some 3, some 73, none, some 73], .same] rfl fn19 rfl (fit_Put_ok r (⟨(⟨#[113]⟩ : ByteArray), (⟨(600 : Int), (0 : Int), (0 : Int), (1 : Int), (0 : Int)⟩ : T_api_Res), ([] : List T_api_Label), ([] : List T_api_Label), ([] : List T_api_Term), ([] : List T_api_Toleration), ([] : List Int), ([] : List T_api_Label), false, ([] : List T_api_Label), (0 : Int), (0 : Int), (⟨#[]⟩ : ByteArray), false, false, false⟩ : T_api_Pod) (⟨#[109]⟩ : ByteArray) r9 h32) fun _ _ h36 => ?_)
                  obtain ⟨ob4, cap4, rfl, rfl⟩ := h36
                  refine VR.shift (Shift.freezeE 0 [(65, .list 56 (List.map T_api_Bound.vv r9))] rfl ⟨⟨_, rfl, .here _ rfl⟩, trivial⟩ (FzH.refl _)) ?_
                  obtain ⟨r10, h34, hm⟩ := bnd hm
                  refine VR.consG rfl rfl rfl rfl h31 (VO.callK 0 rfl fn13 rfl (fit_Feasible_ok [(⟨(⟨#[109]⟩ : ByteArray), (⟨#[]⟩ : ByteArray), (⟨(1000 : Int), (0 : Int), (0 : Int), (9 : Int), (0 : Int)⟩ : T_api_Res), ([] : List T_api_Label), ([] : List T_api_Taint), true⟩ : T_api_Machine)] r9 r10 h34) fun _ _ h35 => ?_)
                  obtain ⟨rfl, rfl⟩ := h35
                  refine VR.pG rfl rfl rfl rfl h31 (VP.not rfl) ?_
                  refine VR.p rfl rfl (VP.pickB true rfl h31 rfl) ?_
                  exact J [_, _, _, _, _, _, _] _ rfl (congrArg VV.bool (Option.some.inj hm))
                · have h31 := bf h31
                  refine VR.skipG rfl rfl rfl rfl h31 ?_
                  refine VR.skipG rfl rfl rfl rfl h31 ?_
                  refine VR.skipG rfl rfl rfl rfl h31 ?_
                  refine VR.skipG rfl rfl rfl rfl h31 ?_
                  refine VR.skipG rfl rfl rfl rfl h31 ?_
                  refine VR.skipG rfl rfl rfl rfl h31 ?_
                  refine VR.p rfl rfl (VP.pickB false rfl h31 rfl) ?_
                  exact J [_, _, _, _, _, _] _ rfl (congrArg VV.bool (Option.some.inj hm))
              · refine VR.p rfl rfl (VP.assign rfl) ?_
                refine VR.nil ?_
                obtain rfl := Option.some.inj hm
                exact VW.ret ⟨.inl rfl, _, .cons (.tmp _ _ rfl) .nil, [], _, rfl, rfl, rfl⟩

/-! trireme/triremeref05.Get -/
def ref05_Get.l1 (l : List T_api_Label) (key : ByteArray) : Nat → Int → Option (Out (ByteArray × Bool) Unit)
  | 0, _ => none
  | n + 1, i2 =>
    if (decide (i2 < (l.length : Int))) = true then
      (V.gl l i2).bind fun x =>
      if (V.seq x.Key key) = true then
        (V.gl l i2).bind fun x2 =>
        some (Out.ret (x2.Val, true))
      else
        ref05_Get.l1 l key n (IntKind.i64.wrap (i2 + (1 : Int)))
    else
      some (Out.go ())
def ref05_Get (l : List T_api_Label) (key : ByteArray) : Option (ByteArray × Bool) :=
  (ref05_Get.l1 l key FU (0 : Int)).bind fun o =>
  o.on fun j =>
  some ((⟨#[]⟩ : ByteArray), false)
theorem ref05_Get_ok (l : List T_api_Label) (key : ByteArray) (r : ByteArray × Bool) (hm : ref05_Get l key = some r) :
    VC Tryz.prog 86 [.list 73 (List.map T_api_Label.vv l), .str key] [] (fun zx zH => zx = .tup [.str r.1, .bool r.2] ∧ zH = []) := by
  unfold ref05_Get at hm
  refine VC.run (c := _) (rs := [.tmp 4, .tmp 5]) Tryz.func86 rfl rfl rfl ?_
  refine VW.seq ?_
  refine VW.region ?_
  refine VR.p rfl rfl (VP.assign rfl) ?_
  refine VR.p rfl rfl (VP.assign rfl) ?_
  refine VR.nil ?_
  refine VW.seq ?_
  refine VW.seq ?_
  refine VW.region ?_
  refine VR.p rfl rfl (VP.assign rfl) ?_
  refine VR.nil ?_
  obtain ⟨o, h1, h2⟩ := bnd hm
  refine VW.joinE (fun (q : Unit) => o = Out.go q) (fun (j : Unit) (gg : Unit) => []) (fun (j : Unit) (gg : Unit) => []) ?_ ?_
  · have hm := h1
    refine VW.block (VW.loop FU ?_)
    refine VL.fuelS (R := _) (fun zn (zs : Int) => ref05_Get.l1 l key zn zs) (fun (zs : Int) (zg : Unit) => [(0, .list 73 (List.map T_api_Label.vv l)), (1, .str key), (6, .int .i64 zs)]) (fun (zs : Int) (zg : Unit) => []) (0 : Int) () (fun zs => rfl) (Shift.pick [] rfl ⟨rfl, rfl, rfl, trivial⟩) h1 ?_
    rintro n i2 _ hm
    rw [ref05_Get.l1] at hm
    refine VW.seq ?_
    refine VW.seq ?_
    refine VW.region ?_
    refine VR.p rfl rfl (VP.move rfl) ?_
    refine VR.p rfl rfl (VP.move rfl) ?_
    refine VR.p rfl rfl (VP.lenT T_api_Label.vv rfl Tryz.underlying26) ?_
    refine VR.p rfl rfl (VP.arith rfl rfl rfl) ?_
    refine VR.nil ?_
    rcases ite_or hm with ⟨h3, hm⟩ | ⟨h3, hm⟩
    · refine VW.condT rfl h3 ?_
      refine VW.skip ?_
      refine VW.seq ?_
      refine VW.block ?_
      refine VW.seq ?_
      refine VW.region ?_
      refine VR.p rfl rfl (VP.move rfl) ?_
      refine VR.p rfl rfl (VP.move rfl) ?_
      obtain ⟨x, h4, hm⟩ := bnd hm
      refine VR.p rfl rfl (VP.glE T_api_Label.vv rfl rfl el26 h4) ?_
      refine VR.p rfl rfl (VP.fieldE rfl fa73_0) ?_
      refine VR.p rfl rfl (VP.loadE rfl ld9 rfl) ?_
      refine VR.p rfl rfl (VP.move rfl) ?_
      refine VR.p rfl rfl (VP.strop rfl rfl rfl) ?_
      refine VR.nil ?_
      rcases ite_or hm with ⟨h5, hm⟩ | ⟨h5, hm⟩
      · refine VW.condT rfl h5 ?_
        refine VW.seq ?_
        refine VW.region ?_
        refine VR.p rfl rfl (VP.move rfl) ?_
        refine VR.p rfl rfl (VP.move rfl) ?_
        obtain ⟨x2, h6, hm⟩ := bnd hm
        refine VR.p rfl rfl (VP.glE T_api_Label.vv rfl rfl el26 h6) ?_
        refine VR.p rfl rfl (VP.fieldE rfl fa73_1) ?_
        refine VR.p rfl rfl (VP.loadE rfl ld9 rfl) ?_
        refine VR.p rfl rfl (VP.assign rfl) ?_
        refine VR.p rfl rfl (VP.assign rfl) ?_
        refine VR.nil ?_
        obtain rfl := Option.some.inj hm
        have hm := Out.ret_on h2
        obtain rfl := Option.some.inj hm
        exact VW.ret ⟨.inl rfl, _, .cons (.tmp _ _ rfl) (.cons (.tmp _ _ rfl) .nil), [], _, rfl, rfl, rfl⟩
      · have h5 := bf h5
        refine VW.condF rfl h5 ?_
        refine VW.skip ?_
        refine VW.region ?_
        refine VR.p rfl rfl (VP.move rfl) ?_
        refine VR.p rfl rfl (VP.arith rfl rfl rfl) ?_
        refine VR.p rfl rfl (VP.assign rfl) ?_
        refine VR.nil ?_
        exact ⟨(IntKind.i64.wrap (i2 + (1 : Int))), (), hm, (Shift.pick [] rfl ⟨rfl, rfl, rfl, trivial⟩)⟩
    · have h3 := bf h3
      refine VW.condF rfl h3 ?_
      refine VW.exit ?_
      exact ⟨(), (), (Option.some.inj hm).symm, (Shift.pick [] rfl trivial)⟩
  · rintro j _ rfl
    have hm := Out.go_on h2
    refine VW.seq ?_
    refine VW.region ?_
    refine VR.p rfl rfl (VP.assign rfl) ?_
    refine VR.p rfl rfl (VP.assign rfl) ?_
    refine VR.nil ?_
    obtain rfl := Option.some.inj hm
    exact VW.ret ⟨.inl rfl, _, .cons (.tmp _ _ rfl) (.cons (.tmp _ _ rfl) .nil), [], _, rfl, rfl, rfl⟩

/-! trireme/triremeref05.Has -/
def ref05_Has.l1 (l : List T_api_Label) (some_ : List T_api_Label) : Nat → Int → Option (Out Bool Unit)
  | 0, _ => none
  | n + 1, i2 =>
    if (decide (i2 < (some_.length : Int))) = true then
      (V.gl some_ i2).bind fun x =>
      (ref05_Get l x.Key).bind fun r =>
      (if (!r.2) = true then some true else (V.gl some_ i2).bind fun x2 =>
      some (!(V.seq r.1 x2.Val))).bind fun c =>
      if c = true then
        some (Out.ret false)
      else
        ref05_Has.l1 l some_ n (IntKind.i64.wrap (i2 + (1 : Int)))
    else
      some (Out.go ())
def ref05_Has (l : List T_api_Label) (some_ : List T_api_Label) : Option Bool :=
  (ref05_Has.l1 l some_ FU (0 : Int)).bind fun o =>
  o.on fun j =>
  some true
theorem ref05_Has_ok (l : List T_api_Label) (some_ : List T_api_Label) (r : Bool) (hm : ref05_Has l some_ = some r) :
    VC Tryz.prog 62 [.list 73 (List.map T_api_Label.vv l), .list 73 (List.map T_api_Label.vv some_)] [] (fun zx zH => zx = .bool r ∧ zH = []) := by
  unfold ref05_Has at hm
  refine VC.run (c := _) (rs := [.tmp 4]) Tryz.func62 rfl rfl rfl ?_
  refine VW.seq ?_
  refine VW.region ?_
  refine VR.p rfl rfl (VP.assign rfl) ?_
  refine VR.nil ?_
  refine VW.seq ?_
  refine VW.seq ?_
  refine VW.region ?_
  refine VR.p rfl rfl (VP.assign rfl) ?_
  refine VR.nil ?_
  obtain ⟨o, h1, h2⟩ := bnd hm
  refine VW.joinE (fun (q : Unit) => o = Out.go q) (fun (j : Unit) (gg : Unit) => []) (fun (j : Unit) (gg : Unit) => []) ?_ ?_
  · have hm := h1
    refine VW.block (VW.loop FU ?_)
    refine VL.fuelS (R := _) (fun zn (zs : Int) => ref05_Has.l1 l some_ zn zs) (fun (zs : Int) (zg : Unit) => [(0, .list 73 (List.map T_api_Label.vv l)), (1, .list 73 (List.map T_api_Label.vv some_)), (5, .int .i64 zs)]) (fun (zs : Int) (zg : Unit) => []) (0 : Int) () (fun zs => rfl) (Shift.pick [] rfl ⟨rfl, rfl, rfl, trivial⟩) h1 ?_
    rintro n i2 _ hm
    rw [ref05_Has.l1] at hm
    refine VW.seq ?_
    refine VW.seq ?_
    refine VW.region ?_
    refine VR.p rfl rfl (VP.move rfl) ?_
    refine VR.p rfl rfl (VP.move rfl) ?_
    refine VR.p rfl rfl (VP.lenT T_api_Label.vv rfl Tryz.underlying26) ?_
    refine VR.p rfl rfl (VP.arith rfl rfl rfl) ?_
    refine VR.nil ?_
    rcases ite_or hm with ⟨h3, hm⟩ | ⟨h3, hm⟩
    · refine VW.condT rfl h3 ?_
      refine VW.skip ?_
      refine VW.seq ?_
      refine VW.block ?_
      refine VW.seq ?_
      refine VW.region ?_
      refine VR.p rfl rfl (VP.move rfl) ?_
      refine VR.p rfl rfl (VP.move rfl) ?_
      refine VR.p rfl rfl (VP.move rfl) ?_
      obtain ⟨x, h4, hm⟩ := bnd hm
      refine VR.p rfl rfl (VP.glE T_api_Label.vv rfl rfl el26 h4) ?_
      refine VR.p rfl rfl (VP.fieldE rfl fa73_0) ?_
      refine VR.p rfl rfl (VP.loadE rfl ld9 rfl) ?_
      obtain ⟨r, h5, hm⟩ := bnd hm
      refine VR.cons rfl rfl (VO.callK 0 rfl fn86 rfl (ref05_Get_ok l x.Key r h5) fun _ _ h10 => ?_)
      obtain ⟨rfl, rfl⟩ := h10
      refine VR.p rfl rfl (VP.move rfl) ?_
      refine VR.p rfl rfl (VP.extract rfl rfl) ?_
      refine VR.p rfl rfl (VP.extract rfl rfl) ?_
      refine VR.p rfl rfl (VP.assign rfl) ?_
      refine VR.p rfl rfl (VP.assign rfl) ?_
      refine VR.nil ?_
      refine VW.seq ?_
      refine VW.region ?_
      refine VR.p rfl rfl (VP.move rfl) ?_
      refine VR.p rfl rfl (VP.not rfl) ?_
      refine VR.p rfl rfl (VP.move rfl) ?_
      obtain ⟨c, h8, hm⟩ := bnd hm
      refine VR.sc 8 34 (.bool c) (fun K' J => ?_) ?_
      · have hm := h8
        rcases ite_or hm with ⟨h6, hm⟩ | ⟨h6, hm⟩
        · refine VR.skipG rfl rfl rfl rfl h6 ?_
          refine VR.skipG rfl rfl rfl rfl h6 ?_
          refine VR.skipG rfl rfl rfl rfl h6 ?_
          refine VR.skipG rfl rfl rfl rfl h6 ?_
          refine VR.skipG rfl rfl rfl rfl h6 ?_
          refine VR.skipG rfl rfl rfl rfl h6 ?_
          refine VR.skipG rfl rfl rfl rfl h6 ?_
          refine VR.p rfl rfl (VP.pickB true rfl h6 rfl) ?_
          exact J [_, _, _, _, _, _, _] _ rfl (congrArg VV.bool (Option.some.inj hm))
        · have h6 := bf h6
          refine VR.pG rfl rfl rfl rfl h6 (VP.move rfl) ?_
          refine VR.pG rfl rfl rfl rfl h6 (VP.move rfl) ?_
          refine VR.pG rfl rfl rfl rfl h6 (VP.move rfl) ?_
          obtain ⟨x2, h7, hm⟩ := bnd hm
          refine VR.pG rfl rfl rfl rfl h6 (VP.glE T_api_Label.vv rfl rfl el26 h7) ?_
          refine VR.pG rfl rfl rfl rfl h6 (VP.fieldE rfl fa73_1) ?_
          refine VR.pG rfl rfl rfl rfl h6 (VP.loadE rfl ld9 rfl) ?_
          refine VR.pG rfl rfl rfl rfl h6 (VP.strop rfl rfl rfl) ?_
          refine VR.p rfl rfl (VP.pickB false rfl h6 rfl) ?_
          exact J [_, _, _, _, _, _, _] _ rfl (congrArg VV.bool (Option.some.inj hm))
      · refine VR.nil ?_
        rcases ite_or hm with ⟨h9, hm⟩ | ⟨h9, hm⟩
        · refine VW.condT rfl h9 ?_
          refine VW.seq ?_
          refine VW.region ?_
          refine VR.p rfl rfl (VP.assign rfl) ?_
          refine VR.nil ?_
          obtain rfl := Option.some.inj hm
          have hm := Out.ret_on h2
          obtain rfl := Option.some.inj hm
          exact VW.ret ⟨.inl rfl, _, .cons (.tmp _ _ rfl) .nil, [], _, rfl, rfl, rfl⟩
        · have h9 := bf h9
          refine VW.condF rfl h9 ?_
          refine VW.skip ?_
          refine VW.region ?_
          refine VR.p rfl rfl (VP.move rfl) ?_
          refine VR.p rfl rfl (VP.arith rfl rfl rfl) ?_
          refine VR.p rfl rfl (VP.assign rfl) ?_
          refine VR.nil ?_
          exact ⟨(IntKind.i64.wrap (i2 + (1 : Int))), (), hm, (Shift.pick [] rfl ⟨rfl, rfl, rfl, trivial⟩)⟩
    · have h3 := bf h3
      refine VW.condF rfl h3 ?_
      refine VW.exit ?_
      exact ⟨(), (), (Option.some.inj hm).symm, (Shift.pick [] rfl trivial)⟩
  · rintro j _ rfl
    have hm := Out.go_on h2
    refine VW.seq ?_
    refine VW.region ?_
    refine VR.p rfl rfl (VP.assign rfl) ?_
    refine VR.nil ?_
    obtain rfl := Option.some.inj hm
    exact VW.ret ⟨.inl rfl, _, .cons (.tmp _ _ rfl) .nil, [], _, rfl, rfl, rfl⟩

/-! trireme/triremeref05.Meets -/
def ref05_Meets.l1 (t : T_api_Term) (r : ByteArray × Bool) : Nat → Bool → Int → Option Bool
  | 0, _, _ => none
  | n + 1, in_2, i2 =>
    if (decide (i2 < (t.Vals.length : Int))) = true then
      (if in_2 = true then some true else (if r.2 = true then (V.gl t.Vals i2).bind fun x =>
      some (V.seq x r.1) else some false).bind fun c =>
      some c).bind fun c2 =>
      ref05_Meets.l1 t r n c2 (IntKind.i64.wrap (i2 + (1 : Int)))
    else
      some in_2
def ref05_Meets (l : List T_api_Label) (t : T_api_Term) : Option Bool :=
  (ref05_Get l t.Key).bind fun r =>
  (ref05_Meets.l1 t r FU false (0 : Int)).bind fun in_32 =>
  if (t.Op == (1 : Int)) = true then
    some in_32
  else
    if (t.Op == (2 : Int)) = true then
      some (!in_32)
    else
      if (t.Op == (3 : Int)) = true then
        some r.2
      else
        if (t.Op == (4 : Int)) = true then
          some (!r.2)
        else
          (ref03_Number r.1).bind fun r2 =>
          (V.gl t.Vals (0 : Int)).bind fun x2 =>
          (ref03_Number x2).bind fun r3 =>
          if ((!r.2) || (r2.2 != (0 : Int))) = true then
            some false
          else
            if (t.Op == (5 : Int)) = true then
              some (decide (r2.1 > r3.1))
            else
              some (decide (r2.1 < r3.1))
theorem ref05_Meets_ok (l : List T_api_Label) (t : T_api_Term) (r : Bool) (hm : ref05_Meets l t = some r) :
    VC Tryz.prog 87 [.list 73 (List.map T_api_Label.vv l), T_api_Term.vv t] [] (fun zx zH => zx = .bool r ∧ zH = []) := by
  unfold ref05_Meets at hm
  refine VC.run (c := _) (rs := [.tmp 4]) Tryz.func87 rfl rfl rfl ?_
  refine VW.seq ?_
  refine VW.region ?_
  refine VR.cons rfl rfl (VO.box rfl rfl fun b => ?_)
  refine VR.p rfl rfl (VP.assign rfl) ?_
  refine VR.nil ?_
  refine VW.seq ?_
  refine VW.region ?_
  refine VR.p rfl rfl (VP.move rfl) ?_
  refine VR.p rfl rfl (VP.fieldP rfl fa62_0) ?_
  refine VR.p rfl rfl (VP.loadP (i := 0) rfl rfl ld9 rfl) ?_
  obtain ⟨r, h2, hm⟩ := bnd hm
  refine VR.cons rfl rfl (VO.callK 0 rfl fn86 rfl (ref05_Get_ok l t.Key r h2) fun _ _ h23 => ?_)
  obtain ⟨rfl, rfl⟩ := h23
  refine VR.p rfl rfl (VP.move rfl) ?_
  refine VR.p rfl rfl (VP.extract rfl rfl) ?_
  refine VR.p rfl rfl (VP.extract rfl rfl) ?_
  refine VR.p rfl rfl (VP.assign rfl) ?_
  refine VR.p rfl rfl (VP.assign rfl) ?_
  refine VR.nil ?_
  refine VW.seq ?_
  refine VW.region ?_
  refine VR.p rfl rfl (VP.assign rfl) ?_
  refine VR.nil ?_
  refine VW.seq ?_
  refine VW.seq ?_
  refine VW.region ?_
  refine VR.p rfl rfl (VP.assign rfl) ?_
  refine VR.nil ?_
  obtain ⟨o, h3, h4⟩ := bnd hm
  refine VW.joinE (fun (q : Bool) => q = o) (fun (in_32 : Bool) (gg : Unit) => [(3, .ptr b 0), (5, .str r.1), (6, .bool r.2), (7, .bool in_32)]) (fun (in_32 : Bool) (gg : Unit) => [.box b 62 (T_api_Term.cells t)]) ?_ ?_
  · have hm := h3
    refine VW.block (VW.loop FU ?_)
    refine VL.fuelS (R := _) (fun zn (zs : Bool × Int) => ref05_Meets.l1 t r zn zs.1 zs.2) (fun (zs : Bool × Int) (zg : Unit) => [(3, .ptr b 0), (5, .str r.1), (6, .bool r.2), (7, .bool zs.1), (8, .int .i64 zs.2)]) (fun (zs : Bool × Int) (zg : Unit) => [.box b 62 (T_api_Term.cells t)]) (false, (0 : Int)) () (fun zs => rfl) (Shift.pick [0] rfl ⟨rfl, rfl, rfl, rfl, rfl, trivial⟩) h3 ?_
    rintro n ⟨in_2, i2⟩ _ hm
    rw [ref05_Meets.l1] at hm
    refine VW.seq ?_
    refine VW.seq ?_
    refine VW.region ?_
    refine VR.p rfl rfl (VP.move rfl) ?_
    refine VR.p rfl rfl (VP.fieldP rfl fa62_2) ?_
    refine VR.p rfl rfl (VP.loadP (i := 0) rfl rfl ld39 rfl) ?_
    refine VR.p rfl rfl (VP.lenT VV.str rfl Tryz.underlying39) ?_
    refine VR.p rfl rfl (VP.arith rfl rfl rfl) ?_
    refine VR.nil ?_
    rcases ite_or hm with ⟨h5, hm⟩ | ⟨h5, hm⟩
    · refine VW.condT rfl h5 ?_
      refine VW.skip ?_
      refine VW.seq ?_
      refine VW.block ?_
      refine VW.region ?_
      refine VR.p rfl rfl (VP.move rfl) ?_
      refine VR.p rfl rfl (VP.move rfl) ?_
      obtain ⟨c2, h10, hm⟩ := bnd hm
      refine VR.sc 11 39 (.bool c2) (fun K' J => ?_) ?_
      · have hm := h10
        rcases ite_or hm with ⟨h6, hm⟩ | ⟨h6, hm⟩
        · refine VR.skipG rfl rfl rfl rfl h6 ?_
          refine VR.skipG rfl rfl rfl rfl h6 ?_
          refine VR.skipU rfl rfl rfl rfl ?_
          refine VR.skipU rfl rfl rfl rfl ?_
          refine VR.skipU rfl rfl rfl rfl ?_
          refine VR.skipU rfl rfl rfl rfl ?_
          refine VR.skipU rfl rfl rfl rfl ?_
          refine VR.skipU rfl rfl rfl rfl ?_
          refine VR.skipU rfl rfl rfl rfl ?_
          refine VR.skipG rfl rfl rfl rfl h6 ?_
          refine VR.p rfl rfl (VP.pickB true rfl h6 rfl) ?_
          exact J [_, _, _, _, _, _, _, _, _, _] _ rfl (congrArg VV.bool (Option.some.inj hm))
        · have h6 := bf h6
          refine VR.pG rfl rfl rfl rfl h6 (VP.move rfl) ?_
          refine VR.pG rfl rfl rfl rfl h6 (VP.move rfl) ?_
          obtain ⟨c, h9, hm⟩ := bnd hm
          refine VR.sc 8 38 (.bool c) (fun K' J => ?_) ?_
          · have hm := h9
            rcases ite_or hm with ⟨h7, hm⟩ | ⟨h7, hm⟩
            · refine VR.pG rfl rfl rfl rfl h7 (VP.fieldP rfl fa62_2) ?_
              refine VR.pG rfl rfl rfl rfl h7 (VP.loadP (i := 0) rfl rfl ld39 rfl) ?_
              refine VR.pG rfl rfl rfl rfl h7 (VP.move rfl) ?_
              obtain ⟨x, h8, hm⟩ := bnd hm
              refine VR.pG rfl rfl rfl rfl h7 (VP.glE VV.str rfl rfl el39 h8) ?_
              refine VR.pG rfl rfl rfl rfl h7 (VP.loadE rfl ld9 rfl) ?_
              refine VR.pG rfl rfl rfl rfl h7 (VP.move rfl) ?_
              refine VR.pG rfl rfl rfl rfl h7 (VP.strop rfl rfl rfl) ?_
              refine VR.pG rfl rfl rfl rfl h6 (VP.pickB true rfl h7 rfl) ?_
              exact J [_, _, _, _, _, _, _] _ rfl (congrArg VV.bool (Option.some.inj hm))
            · have h7 := bf h7
              refine VR.skipG rfl rfl rfl rfl h7 ?_
              refine VR.skipG rfl rfl rfl rfl h7 ?_
              refine VR.skipG rfl rfl rfl rfl h7 ?_
              refine VR.skipG rfl rfl rfl rfl h7 ?_
              refine VR.skipG rfl rfl rfl rfl h7 ?_
              refine VR.skipG rfl rfl rfl rfl h7 ?_
              refine VR.skipG rfl rfl rfl rfl h7 ?_
              refine VR.pG rfl rfl rfl rfl h6 (VP.pickB false rfl h7 rfl) ?_
              exact J [_, _, _, _, _, _, _] _ rfl (congrArg VV.bool (Option.some.inj hm))
          · refine VR.p rfl rfl (VP.pickB false rfl h6 rfl) ?_
            exact J [_, _, _] _ rfl (congrArg VV.bool (Option.some.inj hm))
      · refine VR.p rfl rfl (VP.assign rfl) ?_
        refine VR.nil ?_
        refine VW.region ?_
        refine VR.p rfl rfl (VP.move rfl) ?_
        refine VR.p rfl rfl (VP.arith rfl rfl rfl) ?_
        refine VR.p rfl rfl (VP.assign rfl) ?_
        refine VR.nil ?_
        exact ⟨(c2, (IntKind.i64.wrap (i2 + (1 : Int)))), (), hm, (Shift.pick [0] rfl ⟨rfl, rfl, rfl, rfl, rfl, trivial⟩)⟩
    · have h5 := bf h5
      refine VW.condF rfl h5 ?_
      refine VW.exit ?_
      exact ⟨in_2, (), Option.some.inj hm, (Shift.pick [0] rfl ⟨rfl, rfl, rfl, rfl, trivial⟩)⟩
  · rintro in_32 _ rfl
    have hm := h4
    refine VW.seq ?_
    refine VW.seq ?_
    refine VW.region ?_
    refine VR.p rfl rfl (VP.fieldP rfl fa62_1) ?_
    refine VR.p rfl rfl (VP.loadP (i := 0) rfl rfl ld3 rfl) ?_
    refine VR.nil ?_
    refine VW.block ?_
    refine VW.seq ?_
    refine VW.region ?_
    refine VR.p rfl rfl (VP.arith rfl rfl rfl) ?_
    refine VR.p rfl rfl (VP.assign rfl) ?_
    refine VR.nil ?_
    rcases ite_or hm with ⟨h11, hm⟩ | ⟨h11, hm⟩
    · refine VW.condT rfl h11 ?_
      refine VW.seq ?_
      refine VW.region ?_
      refine VR.p rfl rfl (VP.move rfl) ?_
      refine VR.p rfl rfl (VP.assign rfl) ?_
      refine VR.nil ?_
      obtain rfl := Option.some.inj hm
      exact VW.ret ⟨.inl rfl, _, .cons (.tmp _ _ rfl) .nil, [], _, rfl, rfl, rfl⟩
    · have h11 := bf h11
      refine VW.condF rfl h11 ?_
      refine VW.seq ?_
      refine VW.region ?_
      refine VR.p rfl rfl (VP.arith rfl rfl rfl) ?_
      refine VR.p rfl rfl (VP.assign rfl) ?_
      refine VR.nil ?_
      rcases ite_or hm with ⟨h12, hm⟩ | ⟨h12, hm⟩
      · refine VW.condT rfl h12 ?_
        refine VW.seq ?_
        refine VW.region ?_
        refine VR.p rfl rfl (VP.move rfl) ?_
        refine VR.p rfl rfl (VP.not rfl) ?_
        refine VR.p rfl rfl (VP.assign rfl) ?_
        refine VR.nil ?_
        obtain rfl := Option.some.inj hm
        exact VW.ret ⟨.inl rfl, _, .cons (.tmp _ _ rfl) .nil, [], _, rfl, rfl, rfl⟩
      · have h12 := bf h12
        refine VW.condF rfl h12 ?_
        refine VW.seq ?_
        refine VW.region ?_
        refine VR.p rfl rfl (VP.arith rfl rfl rfl) ?_
        refine VR.p rfl rfl (VP.assign rfl) ?_
        refine VR.nil ?_
        rcases ite_or hm with ⟨h13, hm⟩ | ⟨h13, hm⟩
        · refine VW.condT rfl h13 ?_
          refine VW.seq ?_
          refine VW.region ?_
          refine VR.p rfl rfl (VP.move rfl) ?_
          refine VR.p rfl rfl (VP.assign rfl) ?_
          refine VR.nil ?_
          obtain rfl := Option.some.inj hm
          exact VW.ret ⟨.inl rfl, _, .cons (.tmp _ _ rfl) .nil, [], _, rfl, rfl, rfl⟩
        · have h13 := bf h13
          refine VW.condF rfl h13 ?_
          refine VW.seq ?_
          refine VW.region ?_
          refine VR.p rfl rfl (VP.arith rfl rfl rfl) ?_
          refine VR.p rfl rfl (VP.assign rfl) ?_
          refine VR.nil ?_
          rcases ite_or hm with ⟨h14, hm⟩ | ⟨h14, hm⟩
          · refine VW.condT rfl h14 ?_
            refine VW.seq ?_
            refine VW.region ?_
            refine VR.p rfl rfl (VP.move rfl) ?_
            refine VR.p rfl rfl (VP.not rfl) ?_
            refine VR.p rfl rfl (VP.assign rfl) ?_
            refine VR.nil ?_
            obtain rfl := Option.some.inj hm
            exact VW.ret ⟨.inl rfl, _, .cons (.tmp _ _ rfl) .nil, [], _, rfl, rfl, rfl⟩
          · have h14 := bf h14
            refine VW.condF rfl h14 ?_
            refine VW.skip ?_
            refine VW.seq ?_
            refine VW.region ?_
            refine VR.p rfl rfl (VP.move rfl) ?_
            obtain ⟨r2, h15, hm⟩ := bnd hm
            refine VR.cons rfl rfl (VO.callK 0 rfl fn54 rfl (ref03_Number_ok r.1 r2 h15) fun _ _ h22 => ?_)
            obtain ⟨rfl, rfl⟩ := h22
            refine VR.p rfl rfl (VP.move rfl) ?_
            refine VR.p rfl rfl (VP.extract rfl rfl) ?_
            refine VR.p rfl rfl (VP.extract rfl rfl) ?_
            refine VR.p rfl rfl (VP.assign rfl) ?_
            refine VR.p rfl rfl (VP.assign rfl) ?_
            refine VR.nil ?_
            refine VW.seq ?_
            refine VW.region ?_
            refine VR.p rfl rfl (VP.fieldP rfl fa62_2) ?_
            refine VR.p rfl rfl (VP.loadP (i := 0) rfl rfl ld39 rfl) ?_
            obtain ⟨x2, h16, hm⟩ := bnd hm
            refine VR.p rfl rfl (VP.glE VV.str rfl rfl el39 h16) ?_
            refine VR.p rfl rfl (VP.loadE rfl ld9 rfl) ?_
            obtain ⟨r3, h17, hm⟩ := bnd hm
            refine VR.cons rfl rfl (VO.callK 0 rfl fn54 rfl (ref03_Number_ok x2 r3 h17) fun _ _ h21 => ?_)
            obtain ⟨rfl, rfl⟩ := h21
            refine VR.p rfl rfl (VP.move rfl) ?_
            refine VR.p rfl rfl (VP.extract rfl rfl) ?_
            refine VR.p rfl rfl (VP.extract rfl rfl) ?_
            refine VR.p rfl rfl (VP.assign rfl) ?_
            refine VR.p rfl rfl (VP.assign rfl) ?_
            refine VR.nil ?_
            refine VW.seq ?_
            refine VW.seq ?_
            refine VW.region ?_
            refine VR.p rfl rfl (VP.move rfl) ?_
            refine VR.p rfl rfl (VP.not rfl) ?_
            refine VR.p rfl rfl (VP.move rfl) ?_
            refine VR.sc 3 74 (.bool ((!r.2) || (r2.2 != (0 : Int)))) (fun K' J => ?_) ?_
            · rcases Bool.eq_false_or_eq_true (!r.2) with h18 | h18
              · refine VR.skipG rfl rfl rfl rfl h18 ?_
                refine VR.skipG rfl rfl rfl rfl h18 ?_
                refine VR.p rfl rfl (VP.pickB true rfl h18 rfl) ?_
                exact J [_, _] _ rfl (orT h18)
              · refine VR.pG rfl rfl rfl rfl h18 (VP.move rfl) ?_
                refine VR.pG rfl rfl rfl rfl h18 (VP.arith rfl rfl rfl) ?_
                refine VR.p rfl rfl (VP.pickB false rfl h18 rfl) ?_
                exact J [_, _] _ rfl (orF h18)
            · refine VR.nil ?_
              rcases ite_or hm with ⟨h19, hm⟩ | ⟨h19, hm⟩
              · refine VW.condT rfl h19 ?_
                refine VW.seq ?_
                refine VW.region ?_
                refine VR.p rfl rfl (VP.assign rfl) ?_
                refine VR.nil ?_
                obtain rfl := Option.some.inj hm
                exact VW.ret ⟨.inl rfl, _, .cons (.tmp _ _ rfl) .nil, [], _, rfl, rfl, rfl⟩
              · have h19 := bf h19
                refine VW.condF rfl h19 ?_
                refine VW.skip ?_
                refine VW.seq ?_
                refine VW.seq ?_
                refine VW.region ?_
                refine VR.p rfl rfl (VP.fieldP rfl fa62_1) ?_
                refine VR.p rfl rfl (VP.loadP (i := 0) rfl rfl ld3 rfl) ?_
                refine VR.p rfl rfl (VP.arith rfl rfl rfl) ?_
                refine VR.nil ?_
                rcases ite_or hm with ⟨h20, hm⟩ | ⟨h20, hm⟩
                · refine VW.condT rfl h20 ?_
                  refine VW.seq ?_
                  refine VW.region ?_
                  refine VR.p rfl rfl (VP.move rfl) ?_
                  refine VR.p rfl rfl (VP.move rfl) ?_
                  refine VR.p rfl rfl (VP.arith rfl rfl rfl) ?_
                  refine VR.p rfl rfl (VP.assign rfl) ?_
                  refine VR.nil ?_
                  obtain rfl := Option.some.inj hm
                  exact VW.ret ⟨.inl rfl, _, .cons (.tmp _ _ rfl) .nil, [], _, rfl, rfl, rfl⟩
                · have h20 := bf h20
                  refine VW.condF rfl h20 ?_
                  refine VW.skip ?_
                  refine VW.seq ?_
                  refine VW.region ?_
                  refine VR.p rfl rfl (VP.move rfl) ?_
                  refine VR.p rfl rfl (VP.move rfl) ?_
                  refine VR.p rfl rfl (VP.arith rfl rfl rfl) ?_
                  refine VR.p rfl rfl (VP.assign rfl) ?_
                  refine VR.nil ?_
                  obtain rfl := Option.some.inj hm
                  exact VW.ret ⟨.inl rfl, _, .cons (.tmp _ _ rfl) .nil, [], _, rfl, rfl, rfl⟩

/-! trireme/triremeref05.All -/
def ref05_All.l1 (l : List T_api_Label) (terms : List T_api_Term) : Nat → Int → Option (Out Bool Unit)
  | 0, _ => none
  | n + 1, i2 =>
    if (decide (i2 < (terms.length : Int))) = true then
      (V.gl terms i2).bind fun x =>
      (ref05_Meets l x).bind fun r =>
      if (!r) = true then
        some (Out.ret false)
      else
        ref05_All.l1 l terms n (IntKind.i64.wrap (i2 + (1 : Int)))
    else
      some (Out.go ())
def ref05_All (l : List T_api_Label) (terms : List T_api_Term) : Option Bool :=
  (ref05_All.l1 l terms FU (0 : Int)).bind fun o =>
  o.on fun j =>
  some true
theorem ref05_All_ok (l : List T_api_Label) (terms : List T_api_Term) (r : Bool) (hm : ref05_All l terms = some r) :
    VC Tryz.prog 63 [.list 73 (List.map T_api_Label.vv l), .list 62 (List.map T_api_Term.vv terms)] [] (fun zx zH => zx = .bool r ∧ zH = []) := by
  unfold ref05_All at hm
  refine VC.run (c := _) (rs := [.tmp 4]) Tryz.func63 rfl rfl rfl ?_
  refine VW.seq ?_
  refine VW.region ?_
  refine VR.p rfl rfl (VP.assign rfl) ?_
  refine VR.nil ?_
  refine VW.seq ?_
  refine VW.seq ?_
  refine VW.region ?_
  refine VR.p rfl rfl (VP.assign rfl) ?_
  refine VR.nil ?_
  obtain ⟨o, h1, h2⟩ := bnd hm
  refine VW.joinE (fun (q : Unit) => o = Out.go q) (fun (j : Unit) (gg : Unit) => []) (fun (j : Unit) (gg : Unit) => []) ?_ ?_
  · have hm := h1
    refine VW.block (VW.loop FU ?_)
    refine VL.fuelS (R := _) (fun zn (zs : Int) => ref05_All.l1 l terms zn zs) (fun (zs : Int) (zg : Unit) => [(0, .list 73 (List.map T_api_Label.vv l)), (1, .list 62 (List.map T_api_Term.vv terms)), (5, .int .i64 zs)]) (fun (zs : Int) (zg : Unit) => []) (0 : Int) () (fun zs => rfl) (Shift.pick [] rfl ⟨rfl, rfl, rfl, trivial⟩) h1 ?_
    rintro n i2 _ hm
    rw [ref05_All.l1] at hm
    refine VW.seq ?_
    refine VW.seq ?_
    refine VW.region ?_
    refine VR.p rfl rfl (VP.move rfl) ?_
    refine VR.p rfl rfl (VP.move rfl) ?_
    refine VR.p rfl rfl (VP.lenT T_api_Term.vv rfl Tryz.underlying27) ?_
    refine VR.p rfl rfl (VP.arith rfl rfl rfl) ?_
    refine VR.nil ?_
    rcases ite_or hm with ⟨h3, hm⟩ | ⟨h3, hm⟩
    · refine VW.condT rfl h3 ?_
      refine VW.skip ?_
      refine VW.seq ?_
      refine VW.block ?_
      refine VW.seq ?_
      refine VW.region ?_
      refine VR.p rfl rfl (VP.move rfl) ?_
      refine VR.p rfl rfl (VP.move rfl) ?_
      refine VR.p rfl rfl (VP.move rfl) ?_
      obtain ⟨x, h4, hm⟩ := bnd hm
      refine VR.p rfl rfl (VP.glE T_api_Term.vv rfl rfl el27 h4) ?_
      refine VR.p rfl rfl (VP.loadE rfl ld62 rfl) ?_
      obtain ⟨r, h5, hm⟩ := bnd hm
      refine VR.cons rfl rfl (VO.callK 0 rfl fn87 rfl (ref05_Meets_ok l x r h5) fun _ _ h7 => ?_)
      obtain ⟨rfl, rfl⟩ := h7
      refine VR.p rfl rfl (VP.not rfl) ?_
      refine VR.nil ?_
      rcases ite_or hm with ⟨h6, hm⟩ | ⟨h6, hm⟩
      · refine VW.condT rfl h6 ?_
        refine VW.seq ?_
        refine VW.region ?_
        refine VR.p rfl rfl (VP.assign rfl) ?_
        refine VR.nil ?_
        obtain rfl := Option.some.inj hm
        have hm := Out.ret_on h2
        obtain rfl := Option.some.inj hm
        exact VW.ret ⟨.inl rfl, _, .cons (.tmp _ _ rfl) .nil, [], _, rfl, rfl, rfl⟩
      · have h6 := bf h6
        refine VW.condF rfl h6 ?_
        refine VW.skip ?_
        refine VW.region ?_
        refine VR.p rfl rfl (VP.move rfl) ?_
        refine VR.p rfl rfl (VP.arith rfl rfl rfl) ?_
        refine VR.p rfl rfl (VP.assign rfl) ?_
        refine VR.nil ?_
        exact ⟨(IntKind.i64.wrap (i2 + (1 : Int))), (), hm, (Shift.pick [] rfl ⟨rfl, rfl, rfl, trivial⟩)⟩
    · have h3 := bf h3
      refine VW.condF rfl h3 ?_
      refine VW.exit ?_
      exact ⟨(), (), (Option.some.inj hm).symm, (Shift.pick [] rfl trivial)⟩
  · rintro j _ rfl
    have hm := Out.go_on h2
    refine VW.seq ?_
    refine VW.region ?_
    refine VR.p rfl rfl (VP.assign rfl) ?_
    refine VR.nil ?_
    obtain rfl := Option.some.inj hm
    exact VW.ret ⟨.inl rfl, _, .cons (.tmp _ _ rfl) .nil, [], _, rfl, rfl, rfl⟩

/-! trireme/triremeref06.Bears -/
def ref06_Bears (t : T_api_Toleration) (x : T_api_Taint) : Option Bool :=
  some ((((t.Effect == (0 : Int)) || (t.Effect == x.Effect)) && ((V.seq t.Key (⟨#[]⟩ : ByteArray)) || (V.seq t.Key x.Key))) && (t.Any || (V.seq t.Val x.Val)))
theorem ref06_Bears_ok (t : T_api_Toleration) (x : T_api_Taint) (r : Bool) (hm : ref06_Bears t x = some r) :
    VC Tryz.prog 102 [T_api_Toleration.vv t, T_api_Taint.vv x] [] (fun zx zH => zx = .bool r ∧ zH = []) := by
  unfold ref06_Bears at hm
  refine VC.run (c := _) (rs := [.tmp 4]) Tryz.func102 rfl rfl rfl ?_
  refine VW.seq ?_
  refine VW.region ?_
  refine VR.cons rfl rfl (VO.box rfl rfl fun b => ?_)
  refine VR.cons rfl rfl (VO.box rfl rfl fun b2 => ?_)
  refine VR.p rfl rfl (VP.assign rfl) ?_
  refine VR.nil ?_
  refine VW.seq ?_
  refine VW.region ?_
  refine VR.p rfl rfl (VP.fieldP rfl fa75_3) ?_
  refine VR.p rfl rfl (VP.loadP (i := 1) rfl rfl ld3 rfl) ?_
  refine VR.p rfl rfl (VP.arith rfl rfl rfl) ?_
  refine VR.p rfl rfl (VP.move rfl) ?_
  refine VR.sc 6 14 (.bool ((t.Effect == (0 : Int)) || (t.Effect == x.Effect))) (fun K' J => ?_) ?_
  · rcases Bool.eq_false_or_eq_true (t.Effect == (0 : Int)) with h3 | h3
    · refine VR.skipG rfl rfl rfl rfl h3 ?_
      refine VR.skipG rfl rfl rfl rfl h3 ?_
      refine VR.skipG rfl rfl rfl rfl h3 ?_
      refine VR.skipG rfl rfl rfl rfl h3 ?_
      refine VR.skipG rfl rfl rfl rfl h3 ?_
      refine VR.p rfl rfl (VP.pickB true rfl h3 rfl) ?_
      exact J [_, _, _, _, _] _ rfl (orT h3)
    · refine VR.pG rfl rfl rfl rfl h3 (VP.fieldP rfl fa75_3) ?_
      refine VR.pG rfl rfl rfl rfl h3 (VP.loadP (i := 1) rfl rfl ld3 rfl) ?_
      refine VR.pG rfl rfl rfl rfl h3 (VP.fieldP rfl fa77_2) ?_
      refine VR.pG rfl rfl rfl rfl h3 (VP.loadP (i := 0) rfl rfl ld3 rfl) ?_
      refine VR.pG rfl rfl rfl rfl h3 (VP.arith rfl rfl rfl) ?_
      refine VR.p rfl rfl (VP.pickB false rfl h3 rfl) ?_
      exact J [_, _, _, _, _] _ rfl (orF h3)
  · refine VR.p rfl rfl (VP.move rfl) ?_
    refine VR.sc 11 26 (.bool (((t.Effect == (0 : Int)) || (t.Effect == x.Effect)) && ((V.seq t.Key (⟨#[]⟩ : ByteArray)) || (V.seq t.Key x.Key)))) (fun K' J => ?_) ?_
    · rcases Bool.eq_false_or_eq_true ((t.Effect == (0 : Int)) || (t.Effect == x.Effect)) with h4 | h4
      · refine VR.pG rfl rfl rfl rfl h4 (VP.fieldP rfl fa75_0) ?_
        refine VR.pG rfl rfl rfl rfl h4 (VP.loadP (i := 1) rfl rfl ld9 rfl) ?_
        refine VR.pG rfl rfl rfl rfl h4 (VP.strop rfl rfl rfl) ?_
        refine VR.pG rfl rfl rfl rfl h4 (VP.move rfl) ?_
        refine VR.sc 6 25 (.bool ((V.seq t.Key (⟨#[]⟩ : ByteArray)) || (V.seq t.Key x.Key))) (fun K' J => ?_) ?_
        · rcases Bool.eq_false_or_eq_true (V.seq t.Key (⟨#[]⟩ : ByteArray)) with h5 | h5
          · refine VR.skipG rfl rfl rfl rfl h5 ?_
            refine VR.skipG rfl rfl rfl rfl h5 ?_
            refine VR.skipG rfl rfl rfl rfl h5 ?_
            refine VR.skipG rfl rfl rfl rfl h5 ?_
            refine VR.skipG rfl rfl rfl rfl h5 ?_
            refine VR.pG rfl rfl rfl rfl h4 (VP.pickB true rfl h5 rfl) ?_
            exact J [_, _, _, _, _] _ rfl (orT h5)
          · refine VR.pG rfl rfl rfl rfl h5 (VP.fieldP rfl fa75_0) ?_
            refine VR.pG rfl rfl rfl rfl h5 (VP.loadP (i := 1) rfl rfl ld9 rfl) ?_
            refine VR.pG rfl rfl rfl rfl h5 (VP.fieldP rfl fa77_0) ?_
            refine VR.pG rfl rfl rfl rfl h5 (VP.loadP (i := 0) rfl rfl ld9 rfl) ?_
            refine VR.pG rfl rfl rfl rfl h5 (VP.strop rfl rfl rfl) ?_
            refine VR.pG rfl rfl rfl rfl h4 (VP.pickB false rfl h5 rfl) ?_
            exact J [_, _, _, _, _] _ rfl (orF h5)
        · refine VR.p rfl rfl (VP.pickB true rfl h4 rfl) ?_
          exact J [_, _, _, _, _] _ rfl (andT h4)
      · refine VR.skipG rfl rfl rfl rfl h4 ?_
        refine VR.skipG rfl rfl rfl rfl h4 ?_
        refine VR.skipG rfl rfl rfl rfl h4 ?_
        refine VR.skipG rfl rfl rfl rfl h4 ?_
        refine VR.skipU rfl rfl rfl rfl ?_
        refine VR.skipU rfl rfl rfl rfl ?_
        refine VR.skipU rfl rfl rfl rfl ?_
        refine VR.skipU rfl rfl rfl rfl ?_
        refine VR.skipU rfl rfl rfl rfl ?_
        refine VR.skipG rfl rfl rfl rfl h4 ?_
        refine VR.p rfl rfl (VP.pickB false rfl h4 rfl) ?_
        exact J [_, _, _, _, _, _, _, _, _, _] _ rfl (andF h4)
    · refine VR.p rfl rfl (VP.move rfl) ?_
      refine VR.sc 10 37 (.bool ((((t.Effect == (0 : Int)) || (t.Effect == x.Effect)) && ((V.seq t.Key (⟨#[]⟩ : ByteArray)) || (V.seq t.Key x.Key))) && (t.Any || (V.seq t.Val x.Val)))) (fun K' J => ?_) ?_
      · rcases Bool.eq_false_or_eq_true (((t.Effect == (0 : Int)) || (t.Effect == x.Effect)) && ((V.seq t.Key (⟨#[]⟩ : ByteArray)) || (V.seq t.Key x.Key))) with h6 | h6
        · refine VR.pG rfl rfl rfl rfl h6 (VP.fieldP rfl fa75_2) ?_
          refine VR.pG rfl rfl rfl rfl h6 (VP.loadP (i := 1) rfl rfl ld4 rfl) ?_
          refine VR.pG rfl rfl rfl rfl h6 (VP.move rfl) ?_
          refine VR.sc 6 36 (.bool (t.Any || (V.seq t.Val x.Val))) (fun K' J => ?_) ?_
          · rcases Bool.eq_false_or_eq_true t.Any with h7 | h7
            · refine VR.skipG rfl rfl rfl rfl h7 ?_
              refine VR.skipG rfl rfl rfl rfl h7 ?_
              refine VR.skipG rfl rfl rfl rfl h7 ?_
              refine VR.skipG rfl rfl rfl rfl h7 ?_
              refine VR.skipG rfl rfl rfl rfl h7 ?_
              refine VR.pG rfl rfl rfl rfl h6 (VP.pickB true rfl h7 rfl) ?_
              exact J [_, _, _, _, _] _ rfl (orT h7)
            · refine VR.pG rfl rfl rfl rfl h7 (VP.fieldP rfl fa75_1) ?_
              refine VR.pG rfl rfl rfl rfl h7 (VP.loadP (i := 1) rfl rfl ld9 rfl) ?_
              refine VR.pG rfl rfl rfl rfl h7 (VP.fieldP rfl fa77_1) ?_
              refine VR.pG rfl rfl rfl rfl h7 (VP.loadP (i := 0) rfl rfl ld9 rfl) ?_
              refine VR.pG rfl rfl rfl rfl h7 (VP.strop rfl rfl rfl) ?_
              refine VR.pG rfl rfl rfl rfl h6 (VP.pickB false rfl h7 rfl) ?_
              exact J [_, _, _, _, _] _ rfl (orF h7)
          · refine VR.p rfl rfl (VP.pickB true rfl h6 rfl) ?_
            exact J [_, _, _, _] _ rfl (andT h6)
        · refine VR.skipG rfl rfl rfl rfl h6 ?_
          refine VR.skipG rfl rfl rfl rfl h6 ?_
          refine VR.skipG rfl rfl rfl rfl h6 ?_
          refine VR.skipU rfl rfl rfl rfl ?_
          refine VR.skipU rfl rfl rfl rfl ?_
          refine VR.skipU rfl rfl rfl rfl ?_
          refine VR.skipU rfl rfl rfl rfl ?_
          refine VR.skipU rfl rfl rfl rfl ?_
          refine VR.skipG rfl rfl rfl rfl h6 ?_
          refine VR.p rfl rfl (VP.pickB false rfl h6 rfl) ?_
          exact J [_, _, _, _, _, _, _, _, _] _ rfl (andF h6)
      · refine VR.p rfl rfl (VP.assign rfl) ?_
        refine VR.nil ?_
        obtain rfl := Option.some.inj hm
        exact VW.ret ⟨.inl rfl, _, .cons (.tmp _ _ rfl) .nil, [], _, rfl, rfl, rfl⟩

/-! trireme/triremeref06.Unborne -/
def ref06_Unborne.l2 (l : List T_api_Toleration) (taints : List T_api_Taint) (i2 : Int) : Nat → Bool → Int → Option Bool
  | 0, _, _ => none
  | n2 + 1, borne2, k2 =>
    if (decide (k2 < (l.length : Int))) = true then
      (if borne2 = true then some true else (V.gl l k2).bind fun x2 =>
      (V.gl taints i2).bind fun x3 =>
      (ref06_Bears x2 x3).bind fun r =>
      some r).bind fun c2 =>
      ref06_Unborne.l2 l taints i2 n2 c2 (IntKind.i64.wrap (k2 + (1 : Int)))
    else
      some borne2
def ref06_Unborne.l1 (l : List T_api_Toleration) (taints : List T_api_Taint) (effect : Int) : Nat → (List T_api_Taint) → Int → Option (List T_api_Taint)
  | 0, _, _ => none
  | n + 1, out2, i2 =>
    if (decide (i2 < (taints.length : Int))) = true then
      (if (effect != (0 : Int)) = true then (V.gl taints i2).bind fun x =>
      some (x.Effect != effect) else some false).bind fun c =>
      (ref06_Unborne.l2 l taints i2 FU c (0 : Int)).bind fun borne32 =>
      if (!borne32) = true then
        (V.gl taints i2).bind fun x4 =>
        (V.ap 40 out2 [x4]).bind fun out4 =>
        ref06_Unborne.l1 l taints effect n out4 (IntKind.i64.wrap (i2 + (1 : Int)))
      else
        ref06_Unborne.l1 l taints effect n out2 (IntKind.i64.wrap (i2 + (1 : Int)))
    else
      some out2
def ref06_Unborne (l : List T_api_Toleration) (taints : List T_api_Taint) (effect : Int) : Option (List T_api_Taint) :=
  (ref06_Unborne.l1 l taints effect FU ([] : List T_api_Taint) (0 : Int)).bind fun out32 =>
  some out32
theorem ref06_Unborne_ok (l : List T_api_Toleration) (taints : List T_api_Taint) (effect : Int) (r : List T_api_Taint) (hm : ref06_Unborne l taints effect = some r) :
    VC Tryz.prog 88 [.list 75 (List.map T_api_Toleration.vv l), .list 77 (List.map T_api_Taint.vv taints), .int .i64 effect] [] (fun zx zH => ∃ (ob0 : Option Nat) (cap0 : Nat), zx = .sl ob0 (List.map T_api_Taint.vv r).length cap0 ∧ zH = [.row ob0 77 cap0 (List.map T_api_Taint.vv r)]) := by
  unfold ref06_Unborne at hm
  refine VC.run (c := _) (rs := [.tmp 6]) Tryz.func88 rfl rfl rfl ?_
  refine VW.seq ?_
  refine VW.region ?_
  refine VR.p rfl rfl (VP.assign rfl) ?_
  refine VR.nil ?_
  refine VW.seq ?_
  refine VW.region ?_
  refine VR.p rfl rfl (VP.assign rfl) ?_
  refine VR.nil ?_
  refine VW.seq ?_
  refine VW.seq ?_
  refine VW.region ?_
  refine VR.p rfl rfl (VP.assign rfl) ?_
  refine VR.nil ?_
  obtain ⟨o, h3, h4⟩ := bnd hm
  refine VW.joinE (fun (q : List T_api_Taint) => q = o) (fun (out32 : List T_api_Taint) (gg : Option Nat × Nat) => [(7, .sl gg.1 (List.map T_api_Taint.vv out32).length gg.2)]) (fun (out32 : List T_api_Taint) (gg : Option Nat × Nat) => [.row gg.1 77 gg.2 (List.map T_api_Taint.vv out32)]) ?_ ?_
  · have hm := h3
    refine VW.block (VW.loop FU ?_)
    refine VL.fuelS (R := _) (fun zn (zs : List T_api_Taint × Int) => ref06_Unborne.l1 l taints effect zn zs.1 zs.2) (fun (zs : List T_api_Taint × Int) (zg : Option Nat × Nat) => [(0, .list 75 (List.map T_api_Toleration.vv l)), (1, .list 77 (List.map T_api_Taint.vv taints)), (2, .int .i64 effect), (7, .sl zg.1 (List.map T_api_Taint.vv zs.1).length zg.2), (8, .int .i64 zs.2)]) (fun (zs : List T_api_Taint × Int) (zg : Option Nat × Nat) => [.row zg.1 77 zg.2 (List.map T_api_Taint.vv zs.1)]) (([] : List T_api_Taint), (0 : Int)) (none, 0) (fun zs => rfl) (Shift.trans (Shift.nilRow 77) (Shift.pick [0] rfl ⟨rfl, rfl, rfl, rfl, rfl, trivial⟩)) h3 ?_
    rintro n ⟨out2, i2⟩ ⟨ob2, cap2⟩ hm
    rw [ref06_Unborne.l1] at hm
    refine VW.seq ?_
    refine VW.seq ?_
    refine VW.region ?_
    refine VR.p rfl rfl (VP.move rfl) ?_
    refine VR.p rfl rfl (VP.move rfl) ?_
    refine VR.p rfl rfl (VP.lenT T_api_Taint.vv rfl Tryz.underlying35) ?_
    refine VR.p rfl rfl (VP.arith rfl rfl rfl) ?_
    refine VR.nil ?_
    rcases ite_or hm with ⟨h5, hm⟩ | ⟨h5, hm⟩
    · refine VW.condT rfl h5 ?_
      refine VW.skip ?_
      refine VW.seq ?_
      refine VW.block ?_
      refine VW.seq ?_
      refine VW.region ?_
      refine VR.p rfl rfl (VP.move rfl) ?_
      refine VR.p rfl rfl (VP.arith rfl rfl rfl) ?_
      refine VR.p rfl rfl (VP.move rfl) ?_
      obtain ⟨c, h8, hm⟩ := bnd hm
      refine VR.sc 8 27 (.bool c) (fun K' J => ?_) ?_
      · have hm := h8
        rcases ite_or hm with ⟨h6, hm⟩ | ⟨h6, hm⟩
        · refine VR.pG rfl rfl rfl rfl h6 (VP.move rfl) ?_
          refine VR.pG rfl rfl rfl rfl h6 (VP.move rfl) ?_
          obtain ⟨x, h7, hm⟩ := bnd hm
          refine VR.pG rfl rfl rfl rfl h6 (VP.glE T_api_Taint.vv rfl rfl el35 h7) ?_
          refine VR.pG rfl rfl rfl rfl h6 (VP.fieldE rfl fa77_2) ?_
          refine VR.pG rfl rfl rfl rfl h6 (VP.loadE rfl ld3 rfl) ?_
          refine VR.pG rfl rfl rfl rfl h6 (VP.move rfl) ?_
          refine VR.pG rfl rfl rfl rfl h6 (VP.arith rfl rfl rfl) ?_
          refine VR.p rfl rfl (VP.pickB true rfl h6 rfl) ?_
          exact J [_, _, _, _, _, _, _] _ rfl (congrArg VV.bool (Option.some.inj hm))
        · have h6 := bf h6
          refine VR.skipG rfl rfl rfl rfl h6 ?_
          refine VR.skipG rfl rfl rfl rfl h6 ?_
          refine VR.skipG rfl rfl rfl rfl h6 ?_
          refine VR.skipG rfl rfl rfl rfl h6 ?_
          refine VR.skipG rfl rfl rfl rfl h6 ?_
          refine VR.skipG rfl rfl rfl rfl h6 ?_
          refine VR.skipG rfl rfl rfl rfl h6 ?_
          refine VR.p rfl rfl (VP.pickB false rfl h6 rfl) ?_
          exact J [_, _, _, _, _, _, _] _ rfl (congrArg VV.bool (Option.some.inj hm))
      · refine VR.p rfl rfl (VP.assign rfl) ?_
        refine VR.nil ?_
        refine VW.seq ?_
        refine VW.seq ?_
        refine VW.region ?_
        refine VR.p rfl rfl (VP.assign rfl) ?_
        refine VR.nil ?_
        obtain ⟨o2, h9, h10⟩ := bnd hm
        refine VW.joinE (fun (q : Bool) => q = o2) (fun (borne32 : Bool) (gg : Unit) => [(0, .list 75 (List.map T_api_Toleration.vv l)), (1, .list 77 (List.map T_api_Taint.vv taints)), (2, .int .i64 effect), (7, .sl ob2 (List.map T_api_Taint.vv out2).length cap2), (8, .int .i64 i2), (9, .bool borne32)]) (fun (borne32 : Bool) (gg : Unit) => [.row ob2 77 cap2 (List.map T_api_Taint.vv out2)]) ?_ ?_
        · have hm := h9
          refine VW.block (VW.loop FU ?_)
          refine VL.fuelS (R := _) (fun zn (zs : Bool × Int) => ref06_Unborne.l2 l taints i2 zn zs.1 zs.2) (fun (zs : Bool × Int) (zg : Unit) => [(0, .list 75 (List.map T_api_Toleration.vv l)), (1, .list 77 (List.map T_api_Taint.vv taints)), (2, .int .i64 effect), (7, .sl ob2 (List.map T_api_Taint.vv out2).length cap2), (8, .int .i64 i2), (9, .bool zs.1), (10, .int .i64 zs.2)]) (fun (zs : Bool × Int) (zg : Unit) => [.row ob2 77 cap2 (List.map T_api_Taint.vv out2)]) (c, (0 : Int)) () (fun zs => rfl) (Shift.pick [0] rfl ⟨rfl, rfl, rfl, rfl, rfl, rfl, rfl, trivial⟩) h9 ?_
          rintro n2 ⟨borne2, k2⟩ _ hm
          rw [ref06_Unborne.l2] at hm
          refine VW.seq ?_
          refine VW.seq ?_
          refine VW.region ?_
          refine VR.p rfl rfl (VP.move rfl) ?_
          refine VR.p rfl rfl (VP.move rfl) ?_
          refine VR.p rfl rfl (VP.lenT T_api_Toleration.vv rfl Tryz.underlying28) ?_
          refine VR.p rfl rfl (VP.arith rfl rfl rfl) ?_
          refine VR.nil ?_
          rcases ite_or hm with ⟨h11, hm⟩ | ⟨h11, hm⟩
          · refine VW.condT rfl h11 ?_
            refine VW.skip ?_
            refine VW.seq ?_
            refine VW.block ?_
            refine VW.drawK 0 mixed ?_
            refine VA.p 0 rfl rfl rfl (by kernel_rfl) (VP.move rfl) ?_
            refine VA.p 1 rfl rfl rfl (by kernel_rfl) (VP.move rfl) ?_
            obtain ⟨c2, h17, hm⟩ := bnd hm
            refine VA.sc [11, 10, 9, 8, 7, 6, 5, 4, 3, 2, 1, 0] 45 (.bool c2) (fun K' J => ?_) ?_
            · have hm := h17
              rcases ite_or hm with ⟨h12, hm⟩ | ⟨h12, hm⟩
              · refine VA.skipG 2 rfl rfl rfl rfl rfl h12 (by kernel_rfl) ?_
                refine VA.skipG 3 rfl rfl rfl rfl rfl h12 (by kernel_rfl) ?_
                refine VA.skipG 4 rfl rfl rfl rfl rfl h12 (by kernel_rfl) ?_
                refine VA.skipG 5 rfl rfl rfl rfl rfl h12 (by kernel_rfl) ?_
                refine VA.skipG 6 rfl rfl rfl rfl rfl h12 (by kernel_rfl) ?_
                refine VA.skipG 7 rfl rfl rfl rfl rfl h12 (by kernel_rfl) ?_
                refine VA.skipG 8 rfl rfl rfl rfl rfl h12 (by kernel_rfl) ?_
                refine VA.skipG 9 rfl rfl rfl rfl rfl h12 (by kernel_rfl) ?_
                refine VA.skipG 10 rfl rfl rfl rfl rfl h12 (by kernel_rfl) ?_
                refine VA.p 11 rfl rfl rfl (by kernel_rfl) (VP.pickB true rfl h12 rfl) ?_
                exact J [_, _, _, _, _, _, _, _, _] _ rfl (congrArg VV.bool (Option.some.inj hm))
              · have h12 := bf h12
                refine VA.pG 2 rfl rfl rfl rfl rfl h12 (by kernel_rfl) (VP.move rfl) ?_
                refine VA.pG 3 rfl rfl rfl rfl rfl h12 (by kernel_rfl) (VP.move rfl) ?_
                obtain ⟨x2, h13, hm⟩ := bnd hm
                refine VA.pG 4 rfl rfl rfl rfl rfl h12 (by kernel_rfl) (VP.glE T_api_Toleration.vv rfl rfl el28 h13) ?_
                refine VA.pG 5 rfl rfl rfl rfl rfl h12 (by kernel_rfl) (VP.loadE rfl ld75 rfl) ?_
                refine VA.pG 6 rfl rfl rfl rfl rfl h12 (by kernel_rfl) (VP.move rfl) ?_
                refine VA.pG 7 rfl rfl rfl rfl rfl h12 (by kernel_rfl) (VP.move rfl) ?_
                obtain ⟨x3, h14, hm⟩ := bnd hm
                refine VA.pG 8 rfl rfl rfl rfl rfl h12 (by kernel_rfl) (VP.glE T_api_Taint.vv rfl rfl el35 h14) ?_
                refine VA.pG 9 rfl rfl rfl rfl rfl h12 (by kernel_rfl) (VP.loadE rfl ld77 rfl) ?_
                refine VA.all [10] (by kernel_rfl) ⟨?_, trivial⟩
                obtain ⟨r, h15, hm⟩ := bnd hm
                refine VB.oG rfl rfl rfl rfl rfl h12 (VO.callK 0 rfl fn102 rfl (ref06_Bears_ok x2 x3 r h15) fun _ _ h16 => ?_)
                obtain ⟨rfl, rfl⟩ := h16
                refine VA.p 11 rfl rfl rfl (by kernel_rfl) (VP.pickB false rfl h12 rfl) ?_
                exact J [_, _, _, _, _, _, _, _, _] _ rfl (congrArg VV.bool (Option.some.inj hm))
            · refine VA.p 12 rfl rfl rfl (by kernel_rfl) (VP.assign rfl) ?_
              refine VA.done (by kernel_rfl) ?_
              refine VW.region ?_
              refine VR.p rfl rfl (VP.move rfl) ?_
              refine VR.p rfl rfl (VP.arith rfl rfl rfl) ?_
              refine VR.p rfl rfl (VP.assign rfl) ?_
              refine VR.nil ?_
              exact ⟨(c2, (IntKind.i64.wrap (k2 + (1 : Int)))), (), hm, (Shift.pick [0] rfl ⟨rfl, rfl, rfl, rfl, rfl, rfl, rfl, trivial⟩)⟩
          · have h11 := bf h11
            refine VW.condF rfl h11 ?_
            refine VW.exit ?_
            exact ⟨borne2, (), Option.some.inj hm, (Shift.pick [0] rfl ⟨rfl, rfl, rfl, rfl, rfl, rfl, trivial⟩)⟩
        · rintro borne32 _ rfl
          have hm := h10
          refine VW.seq ?_
          refine VW.region ?_
          refine VR.p rfl rfl (VP.move rfl) ?_
          refine VR.p rfl rfl (VP.not rfl) ?_
          refine VR.nil ?_
          rcases ite_or hm with ⟨h18, hm⟩ | ⟨h18, hm⟩
          · refine VW.condT rfl h18 ?_
            refine VW.region ?_
            refine VR.p rfl rfl (VP.move rfl) ?_
            refine VR.p rfl rfl (VP.move rfl) ?_
            refine VR.p rfl rfl (VP.move rfl) ?_
            obtain ⟨x4, h19, hm⟩ := bnd hm
            refine VR.p rfl rfl (VP.glE T_api_Taint.vv rfl rfl el35 h19) ?_
            refine VR.p rfl rfl (VP.loadE rfl ld77 rfl) ?_
            refine VR.cons rfl rfl (VO.buildSlice ap35 rfl rfl rfl rfl rfl fun b => ?_)
            obtain ⟨out4, h21, hm⟩ := bnd hm
            refine VR.cons rfl rfl (VO.apT 1 T_api_Taint.vv (l := out2) (l2 := [x4]) ap35 rfl rfl (sT_row 0 T_api_Taint.vv el35 rfl rfl) h21 fun ob4 cap4 => ?_)
            refine VR.p rfl rfl (VP.assign rfl) ?_
            refine VR.nil ?_
            refine VW.region ?_
            refine VR.p rfl rfl (VP.move rfl) ?_
            refine VR.p rfl rfl (VP.arith rfl rfl rfl) ?_
            refine VR.p rfl rfl (VP.assign rfl) ?_
            refine VR.nil ?_
            exact ⟨(out4, (IntKind.i64.wrap (i2 + (1 : Int)))), (ob4, cap4), hm, (Shift.pick [1] rfl ⟨rfl, rfl, rfl, rfl, rfl, trivial⟩)⟩
          · have h18 := bf h18
            refine VW.condF rfl h18 ?_
            refine VW.skip ?_
            refine VW.region ?_
            refine VR.p rfl rfl (VP.move rfl) ?_
            refine VR.p rfl rfl (VP.arith rfl rfl rfl) ?_
            refine VR.p rfl rfl (VP.assign rfl) ?_
            refine VR.nil ?_
            exact ⟨(out2, (IntKind.i64.wrap (i2 + (1 : Int)))), (ob2, cap2), hm, (Shift.pick [0] rfl ⟨rfl, rfl, rfl, rfl, rfl, trivial⟩)⟩
    · have h5 := bf h5
      refine VW.condF rfl h5 ?_
      refine VW.exit ?_
      exact ⟨out2, (ob2, cap2), Option.some.inj hm, (Shift.pick [0] rfl ⟨rfl, trivial⟩)⟩
  · rintro out32 ⟨ob3, cap3⟩ rfl
    have hm := h4
    refine VW.seq ?_
    refine VW.region ?_
    refine VR.p rfl rfl (VP.move rfl) ?_
    refine VR.p rfl rfl (VP.assign rfl) ?_
    refine VR.nil ?_
    obtain rfl := Option.some.inj hm
    exact VW.ret ⟨.inl rfl, _, .cons (.tmp _ _ rfl) .nil, [0], _, rfl, ob3, cap3, rfl, rfl⟩

/-! trireme/triremeref06.hard -/
def ref06_hard (n : Int) : Option Bool :=
  some ((n == (1 : Int)) || (n == (3 : Int)))
theorem ref06_hard_ok (n : Int) (r : Bool) (hm : ref06_hard n = some r) :
    VC Tryz.prog 89 [.int .i64 n] [] (fun zx zH => zx = .bool r ∧ zH = []) := by
  unfold ref06_hard at hm
  refine VC.run (c := _) (rs := [.tmp 2]) Tryz.func89 rfl rfl rfl ?_
  refine VW.seq ?_
  refine VW.region ?_
  refine VR.p rfl rfl (VP.assign rfl) ?_
  refine VR.nil ?_
  refine VW.seq ?_
  refine VW.region ?_
  refine VR.p rfl rfl (VP.move rfl) ?_
  refine VR.p rfl rfl (VP.arith rfl rfl rfl) ?_
  refine VR.p rfl rfl (VP.move rfl) ?_
  refine VR.sc 3 8 (.bool ((n == (1 : Int)) || (n == (3 : Int)))) (fun K' J => ?_) ?_
  · rcases Bool.eq_false_or_eq_true (n == (1 : Int)) with h1 | h1
    · refine VR.skipG rfl rfl rfl rfl h1 ?_
      refine VR.skipG rfl rfl rfl rfl h1 ?_
      refine VR.p rfl rfl (VP.pickB true rfl h1 rfl) ?_
      exact J [_, _] _ rfl (orT h1)
    · refine VR.pG rfl rfl rfl rfl h1 (VP.move rfl) ?_
      refine VR.pG rfl rfl rfl rfl h1 (VP.arith rfl rfl rfl) ?_
      refine VR.p rfl rfl (VP.pickB false rfl h1 rfl) ?_
      exact J [_, _] _ rfl (orF h1)
  · refine VR.p rfl rfl (VP.assign rfl) ?_
    refine VR.nil ?_
    obtain rfl := Option.some.inj hm
    exact VW.ret ⟨.inl rfl, _, .cons (.tmp _ _ rfl) .nil, [], _, rfl, rfl, rfl⟩

/-! trireme/triremeref06.Allows -/
def ref06_Allows.l1 (r : List T_api_Taint) : Nat → Int → Option (Out Bool Unit)
  | 0, _ => none
  | n + 1, i2 =>
    if (decide (i2 < (r.length : Int))) = true then
      (V.gl r i2).bind fun x =>
      (ref06_hard x.Effect).bind fun r2 =>
      if r2 = true then
        some (Out.ret false)
      else
        ref06_Allows.l1 r n (IntKind.i64.wrap (i2 + (1 : Int)))
    else
      some (Out.go ())
def ref06_Allows (l : List T_api_Toleration) (taints : List T_api_Taint) : Option Bool :=
  (ref06_Unborne l taints (0 : Int)).bind fun r =>
  (ref06_Allows.l1 r FU (0 : Int)).bind fun o =>
  o.on fun j =>
  some true
theorem ref06_Allows_ok (l : List T_api_Toleration) (taints : List T_api_Taint) (r : Bool) (hm : ref06_Allows l taints = some r) :
    VC Tryz.prog 64 [.list 75 (List.map T_api_Toleration.vv l), .list 77 (List.map T_api_Taint.vv taints)] [] (fun zx zH => zx = .bool r ∧ zH = []) := by
  unfold ref06_Allows at hm
  refine VC.run (c := _) (rs := [.tmp 4]) Tryz.func64 rfl rfl rfl ?_
  refine VW.seq ?_
  refine VW.region ?_
  refine VR.p rfl rfl (VP.assign rfl) ?_
  refine VR.nil ?_
  refine VW.seq ?_
  refine VW.region ?_
  refine VR.p rfl rfl (VP.move rfl) ?_
  refine VR.p rfl rfl (VP.move rfl) ?_
  obtain ⟨r, h1, hm⟩ := bnd hm
  refine VR.cons rfl rfl (VO.callK 0 rfl fn88 rfl (ref06_Unborne_ok l taints (0 : Int) r h1) fun _ _ h10 => ?_)
  obtain ⟨ob, cap, rfl, rfl⟩ := h10
  refine VR.shift (Shift.freezeE 0 [(9, .list 77 (List.map T_api_Taint.vv r))] rfl ⟨⟨_, rfl, .here _ rfl⟩, trivial⟩ (FzH.refl _)) ?_
  refine VR.p rfl rfl (VP.assign rfl) ?_
  refine VR.nil ?_
  refine VW.seq ?_
  refine VW.seq ?_
  refine VW.region ?_
  refine VR.p rfl rfl (VP.assign rfl) ?_
  refine VR.nil ?_
  obtain ⟨o, h3, h4⟩ := bnd hm
  refine VW.joinE (fun (q : Unit) => o = Out.go q) (fun (j : Unit) (gg : Unit) => []) (fun (j : Unit) (gg : Unit) => []) ?_ ?_
  · have hm := h3
    refine VW.block (VW.loop FU ?_)
    refine VL.fuelS (R := _) (fun zn (zs : Int) => ref06_Allows.l1 r zn zs) (fun (zs : Int) (zg : Unit) => [(5, .list 77 (List.map T_api_Taint.vv r)), (6, .int .i64 zs)]) (fun (zs : Int) (zg : Unit) => []) (0 : Int) () (fun zs => rfl) (Shift.pick [] rfl ⟨rfl, rfl, trivial⟩) h3 ?_
    rintro n i2 _ hm
    rw [ref06_Allows.l1] at hm
    refine VW.seq ?_
    refine VW.seq ?_
    refine VW.region ?_
    refine VR.p rfl rfl (VP.move rfl) ?_
    refine VR.p rfl rfl (VP.move rfl) ?_
    refine VR.p rfl rfl (VP.lenT T_api_Taint.vv rfl Tryz.underlying35) ?_
    refine VR.p rfl rfl (VP.arith rfl rfl rfl) ?_
    refine VR.nil ?_
    rcases ite_or hm with ⟨h5, hm⟩ | ⟨h5, hm⟩
    · refine VW.condT rfl h5 ?_
      refine VW.skip ?_
      refine VW.seq ?_
      refine VW.block ?_
      refine VW.seq ?_
      refine VW.region ?_
      refine VR.p rfl rfl (VP.move rfl) ?_
      refine VR.p rfl rfl (VP.move rfl) ?_
      obtain ⟨x, h6, hm⟩ := bnd hm
      refine VR.p rfl rfl (VP.glE T_api_Taint.vv rfl rfl el35 h6) ?_
      refine VR.p rfl rfl (VP.fieldE rfl fa77_2) ?_
      refine VR.p rfl rfl (VP.loadE rfl ld3 rfl) ?_
      obtain ⟨r2, h7, hm⟩ := bnd hm
      refine VR.cons rfl rfl (VO.callK 0 rfl fn89 rfl (ref06_hard_ok x.Effect r2 h7) fun _ _ h9 => ?_)
      obtain ⟨rfl, rfl⟩ := h9
      refine VR.nil ?_
      rcases ite_or hm with ⟨h8, hm⟩ | ⟨h8, hm⟩
      · refine VW.condT rfl h8 ?_
        refine VW.seq ?_
        refine VW.region ?_
        refine VR.p rfl rfl (VP.assign rfl) ?_
        refine VR.nil ?_
        obtain rfl := Option.some.inj hm
        have hm := Out.ret_on h4
        obtain rfl := Option.some.inj hm
        exact VW.ret ⟨.inl rfl, _, .cons (.tmp _ _ rfl) .nil, [], _, rfl, rfl, rfl⟩
      · have h8 := bf h8
        refine VW.condF rfl h8 ?_
        refine VW.skip ?_
        refine VW.region ?_
        refine VR.p rfl rfl (VP.move rfl) ?_
        refine VR.p rfl rfl (VP.arith rfl rfl rfl) ?_
        refine VR.p rfl rfl (VP.assign rfl) ?_
        refine VR.nil ?_
        exact ⟨(IntKind.i64.wrap (i2 + (1 : Int))), (), hm, (Shift.pick [] rfl ⟨rfl, rfl, trivial⟩)⟩
    · have h5 := bf h5
      refine VW.condF rfl h5 ?_
      refine VW.exit ?_
      exact ⟨(), (), (Option.some.inj hm).symm, (Shift.pick [] rfl trivial)⟩
  · rintro j _ rfl
    have hm := Out.go_on h4
    refine VW.seq ?_
    refine VW.region ?_
    refine VR.p rfl rfl (VP.assign rfl) ?_
    refine VR.nil ?_
    obtain rfl := Option.some.inj hm
    exact VW.ret ⟨.inl rfl, _, .cons (.tmp _ _ rfl) .nil, [], _, rfl, rfl, rfl⟩

/-! trireme/triremeref10.Place -/
def ref10_Place (m : T_api_Machine) (p : T_api_Pod) : Option Int :=
  if (!m.Ready) = true then
    some (1 : Int)
  else
    (ref05_Has m.Labels p.Select).bind fun r =>
    if (!r) = true then
      some (4 : Int)
    else
      (ref05_All m.Labels p.Terms).bind fun r2 =>
      if (!r2) = true then
        some (5 : Int)
      else
        (ref06_Allows p.Bears m.Taints).bind fun r3 =>
        if (!r3) = true then
          some (6 : Int)
        else
          some (0 : Int)
theorem ref10_Place_ok (m : T_api_Machine) (p : T_api_Pod) (r : Int) (hm : ref10_Place m p = some r) :
    VC Tryz.prog 45 [T_api_Machine.vv m, T_api_Pod.vv p] [] (fun zx zH => zx = .int .i64 r ∧ zH = []) := by
  unfold ref10_Place at hm
  refine VC.run (c := _) (rs := [.tmp 4]) Tryz.func45 rfl rfl rfl ?_
  refine VW.seq ?_
  refine VW.region ?_
  refine VR.cons rfl rfl (VO.box rfl rfl fun b => ?_)
  refine VR.cons rfl rfl (VO.box rfl rfl fun b2 => ?_)
  refine VR.p rfl rfl (VP.assign rfl) ?_
  refine VR.nil ?_
  refine VW.seq ?_
  refine VW.seq ?_
  refine VW.region ?_
  refine VR.p rfl rfl (VP.fieldP rfl fa37_5) ?_
  refine VR.p rfl rfl (VP.loadP (i := 1) rfl rfl ld4 rfl) ?_
  refine VR.p rfl rfl (VP.not rfl) ?_
  refine VR.nil ?_
  rcases ite_or hm with ⟨h3, hm⟩ | ⟨h3, hm⟩
  · refine VW.condT rfl h3 ?_
    refine VW.seq ?_
    refine VW.region ?_
    refine VR.p rfl rfl (VP.assign rfl) ?_
    refine VR.nil ?_
    obtain rfl := Option.some.inj hm
    exact VW.ret ⟨.inl rfl, _, .cons (.tmp _ _ rfl) .nil, [], _, rfl, rfl, rfl⟩
  · have h3 := bf h3
    refine VW.condF rfl h3 ?_
    refine VW.skip ?_
    refine VW.seq ?_
    refine VW.seq ?_
    refine VW.region ?_
    refine VR.p rfl rfl (VP.fieldP rfl fa37_3) ?_
    refine VR.p rfl rfl (VP.loadP (i := 1) rfl rfl ld26 rfl) ?_
    refine VR.p rfl rfl (VP.fieldP rfl fa31_3) ?_
    refine VR.p rfl rfl (VP.loadP (i := 0) rfl rfl ld26 rfl) ?_
    obtain ⟨r, h4, hm⟩ := bnd hm
    refine VR.cons rfl rfl (VO.callK 0 rfl fn62 rfl (ref05_Has_ok m.Labels p.Select r h4) fun _ _ h12 => ?_)
    obtain ⟨rfl, rfl⟩ := h12
    refine VR.p rfl rfl (VP.not rfl) ?_
    refine VR.nil ?_
    rcases ite_or hm with ⟨h5, hm⟩ | ⟨h5, hm⟩
    · refine VW.condT rfl h5 ?_
      refine VW.seq ?_
      refine VW.region ?_
      refine VR.p rfl rfl (VP.assign rfl) ?_
      refine VR.nil ?_
      obtain rfl := Option.some.inj hm
      exact VW.ret ⟨.inl rfl, _, .cons (.tmp _ _ rfl) .nil, [], _, rfl, rfl, rfl⟩
    · have h5 := bf h5
      refine VW.condF rfl h5 ?_
      refine VW.skip ?_
      refine VW.seq ?_
      refine VW.seq ?_
      refine VW.region ?_
      refine VR.p rfl rfl (VP.fieldP rfl fa37_3) ?_
      refine VR.p rfl rfl (VP.loadP (i := 1) rfl rfl ld26 rfl) ?_
      refine VR.p rfl rfl (VP.fieldP rfl fa31_4) ?_
      refine VR.p rfl rfl (VP.loadP (i := 0) rfl rfl ld27 rfl) ?_
      obtain ⟨r2, h6, hm⟩ := bnd hm
      refine VR.cons rfl rfl (VO.callK 0 rfl fn63 rfl (ref05_All_ok m.Labels p.Terms r2 h6) fun _ _ h11 => ?_)
      obtain ⟨rfl, rfl⟩ := h11
      refine VR.p rfl rfl (VP.not rfl) ?_
      refine VR.nil ?_
      rcases ite_or hm with ⟨h7, hm⟩ | ⟨h7, hm⟩
      · refine VW.condT rfl h7 ?_
        refine VW.seq ?_
        refine VW.region ?_
        refine VR.p rfl rfl (VP.assign rfl) ?_
        refine VR.nil ?_
        obtain rfl := Option.some.inj hm
        exact VW.ret ⟨.inl rfl, _, .cons (.tmp _ _ rfl) .nil, [], _, rfl, rfl, rfl⟩
      · have h7 := bf h7
        refine VW.condF rfl h7 ?_
        refine VW.skip ?_
        refine VW.seq ?_
        refine VW.seq ?_
        refine VW.region ?_
        refine VR.p rfl rfl (VP.fieldP rfl fa31_5) ?_
        refine VR.p rfl rfl (VP.loadP (i := 0) rfl rfl ld28 rfl) ?_
        refine VR.p rfl rfl (VP.fieldP rfl fa37_4) ?_
        refine VR.p rfl rfl (VP.loadP (i := 1) rfl rfl ld35 rfl) ?_
        obtain ⟨r3, h8, hm⟩ := bnd hm
        refine VR.cons rfl rfl (VO.callK 0 rfl fn64 rfl (ref06_Allows_ok p.Bears m.Taints r3 h8) fun _ _ h10 => ?_)
        obtain ⟨rfl, rfl⟩ := h10
        refine VR.p rfl rfl (VP.not rfl) ?_
        refine VR.nil ?_
        rcases ite_or hm with ⟨h9, hm⟩ | ⟨h9, hm⟩
        · refine VW.condT rfl h9 ?_
          refine VW.seq ?_
          refine VW.region ?_
          refine VR.p rfl rfl (VP.assign rfl) ?_
          refine VR.nil ?_
          obtain rfl := Option.some.inj hm
          exact VW.ret ⟨.inl rfl, _, .cons (.tmp _ _ rfl) .nil, [], _, rfl, rfl, rfl⟩
        · have h9 := bf h9
          refine VW.condF rfl h9 ?_
          refine VW.skip ?_
          refine VW.seq ?_
          refine VW.region ?_
          refine VR.p rfl rfl (VP.assign rfl) ?_
          refine VR.nil ?_
          obtain rfl := Option.some.inj hm
          exact VW.ret ⟨.inl rfl, _, .cons (.tmp _ _ rfl) .nil, [], _, rfl, rfl, rfl⟩

/-! trireme/triremeref10.Others -/
def ref10_Others.l1 (bs : List T_api_Bound) (name : ByteArray) : Nat → (List T_api_Bound) → Int → Option (List T_api_Bound)
  | 0, _, _ => none
  | n + 1, out2, i2 =>
    if (decide (i2 < (bs.length : Int))) = true then
      (V.gl bs i2).bind fun x =>
      if (!(V.seq x.Pod.Name name)) = true then
        (V.gl bs i2).bind fun x2 =>
        (V.ap 288 out2 [x2]).bind fun out4 =>
        ref10_Others.l1 bs name n out4 (IntKind.i64.wrap (i2 + (1 : Int)))
      else
        ref10_Others.l1 bs name n out2 (IntKind.i64.wrap (i2 + (1 : Int)))
    else
      some out2
def ref10_Others (bs : List T_api_Bound) (name : ByteArray) : Option (List T_api_Bound) :=
  (ref10_Others.l1 bs name FU ([] : List T_api_Bound) (0 : Int)).bind fun out32 =>
  some out32
theorem ref10_Others_ok (bs : List T_api_Bound) (name : ByteArray) (r : List T_api_Bound) (hm : ref10_Others bs name = some r) :
    VC Tryz.prog 65 [.list 56 (List.map T_api_Bound.vv bs), .str name] [] (fun zx zH => ∃ (ob0 : Option Nat) (cap0 : Nat), zx = .sl ob0 (List.map T_api_Bound.vv r).length cap0 ∧ zH = [.row ob0 56 cap0 (List.map T_api_Bound.vv r)]) := by
  unfold ref10_Others at hm
  refine VC.run (c := _) (rs := [.tmp 4]) Tryz.func65 rfl rfl rfl ?_
  refine VW.seq ?_
  refine VW.region ?_
  refine VR.p rfl rfl (VP.assign rfl) ?_
  refine VR.nil ?_
  refine VW.seq ?_
  refine VW.region ?_
  refine VR.p rfl rfl (VP.assign rfl) ?_
  refine VR.nil ?_
  refine VW.seq ?_
  refine VW.seq ?_
  refine VW.region ?_
  refine VR.p rfl rfl (VP.assign rfl) ?_
  refine VR.nil ?_
  obtain ⟨o, h3, h4⟩ := bnd hm
  refine VW.joinE (fun (q : List T_api_Bound) => q = o) (fun (out32 : List T_api_Bound) (gg : Option Nat × Nat) => [(5, .sl gg.1 (List.map T_api_Bound.vv out32).length gg.2)]) (fun (out32 : List T_api_Bound) (gg : Option Nat × Nat) => [.row gg.1 56 gg.2 (List.map T_api_Bound.vv out32)]) ?_ ?_
  · have hm := h3
    refine VW.block (VW.loop FU ?_)
    refine VL.fuelS (R := _) (fun zn (zs : List T_api_Bound × Int) => ref10_Others.l1 bs name zn zs.1 zs.2) (fun (zs : List T_api_Bound × Int) (zg : Option Nat × Nat) => [(0, .list 56 (List.map T_api_Bound.vv bs)), (1, .str name), (5, .sl zg.1 (List.map T_api_Bound.vv zs.1).length zg.2), (6, .int .i64 zs.2)]) (fun (zs : List T_api_Bound × Int) (zg : Option Nat × Nat) => [.row zg.1 56 zg.2 (List.map T_api_Bound.vv zs.1)]) (([] : List T_api_Bound), (0 : Int)) (none, 0) (fun zs => rfl) (Shift.trans (Shift.nilRow 56) (Shift.pick [0] rfl ⟨rfl, rfl, rfl, rfl, trivial⟩)) h3 ?_
    rintro n ⟨out2, i2⟩ ⟨ob2, cap2⟩ hm
    rw [ref10_Others.l1] at hm
    refine VW.seq ?_
    refine VW.seq ?_
    refine VW.region ?_
    refine VR.p rfl rfl (VP.move rfl) ?_
    refine VR.p rfl rfl (VP.move rfl) ?_
    refine VR.p rfl rfl (VP.lenT T_api_Bound.vv rfl Tryz.underlying23) ?_
    refine VR.p rfl rfl (VP.arith rfl rfl rfl) ?_
    refine VR.nil ?_
    rcases ite_or hm with ⟨h5, hm⟩ | ⟨h5, hm⟩
    · refine VW.condT rfl h5 ?_
      refine VW.skip ?_
      refine VW.seq ?_
      refine VW.block ?_
      refine VW.seq ?_
      refine VW.region ?_
      refine VR.p rfl rfl (VP.move rfl) ?_
      refine VR.p rfl rfl (VP.move rfl) ?_
      obtain ⟨x, h6, hm⟩ := bnd hm
      refine VR.p rfl rfl (VP.glE T_api_Bound.vv rfl rfl el23 h6) ?_
      refine VR.p rfl rfl (VP.fieldE rfl fa56_0) ?_
      refine VR.p rfl rfl (VP.fieldE rfl fa31_0) ?_
      refine VR.p rfl rfl (VP.loadE rfl ld9 rfl) ?_
      refine VR.p rfl rfl (VP.move rfl) ?_
      refine VR.p rfl rfl (VP.strop rfl rfl rfl) ?_
      refine VR.nil ?_
      rcases ite_or hm with ⟨h7, hm⟩ | ⟨h7, hm⟩
      · refine VW.condT rfl h7 ?_
        refine VW.region ?_
        refine VR.p rfl rfl (VP.move rfl) ?_
        refine VR.p rfl rfl (VP.move rfl) ?_
        refine VR.p rfl rfl (VP.move rfl) ?_
        obtain ⟨x2, h8, hm⟩ := bnd hm
        refine VR.p rfl rfl (VP.glE T_api_Bound.vv rfl rfl el23 h8) ?_
        refine VR.p rfl rfl (VP.loadE rfl ld56 rfl) ?_
        refine VR.cons rfl rfl (VO.buildSlice ap23 rfl rfl rfl rfl rfl fun b => ?_)
        obtain ⟨out4, h10, hm⟩ := bnd hm
        refine VR.cons rfl rfl (VO.apT 1 T_api_Bound.vv (l := out2) (l2 := [x2]) ap23 rfl rfl (sT_row 0 T_api_Bound.vv el23 rfl rfl) h10 fun ob4 cap4 => ?_)
        refine VR.p rfl rfl (VP.assign rfl) ?_
        refine VR.nil ?_
        refine VW.region ?_
        refine VR.p rfl rfl (VP.move rfl) ?_
        refine VR.p rfl rfl (VP.arith rfl rfl rfl) ?_
        refine VR.p rfl rfl (VP.assign rfl) ?_
        refine VR.nil ?_
        exact ⟨(out4, (IntKind.i64.wrap (i2 + (1 : Int)))), (ob4, cap4), hm, (Shift.pick [1] rfl ⟨rfl, rfl, rfl, rfl, trivial⟩)⟩
      · have h7 := bf h7
        refine VW.condF rfl h7 ?_
        refine VW.skip ?_
        refine VW.region ?_
        refine VR.p rfl rfl (VP.move rfl) ?_
        refine VR.p rfl rfl (VP.arith rfl rfl rfl) ?_
        refine VR.p rfl rfl (VP.assign rfl) ?_
        refine VR.nil ?_
        exact ⟨(out2, (IntKind.i64.wrap (i2 + (1 : Int)))), (ob2, cap2), hm, (Shift.pick [0] rfl ⟨rfl, rfl, rfl, rfl, trivial⟩)⟩
    · have h5 := bf h5
      refine VW.condF rfl h5 ?_
      refine VW.exit ?_
      exact ⟨out2, (ob2, cap2), Option.some.inj hm, (Shift.pick [0] rfl ⟨rfl, trivial⟩)⟩
  · rintro out32 ⟨ob3, cap3⟩ rfl
    have hm := h4
    refine VW.seq ?_
    refine VW.region ?_
    refine VR.p rfl rfl (VP.move rfl) ?_
    refine VR.p rfl rfl (VP.assign rfl) ?_
    refine VR.nil ?_
    obtain rfl := Option.some.inj hm
    exact VW.ret ⟨.inl rfl, _, .cons (.tmp _ _ rfl) .nil, [0], _, rfl, ob3, cap3, rfl, rfl⟩

/-! trireme/triremeref09.On -/
def ref09_On.l1 (bs : List T_api_Bound) (name : ByteArray) : Nat → (List T_api_Pod) → Int → Option (List T_api_Pod)
  | 0, _, _ => none
  | n + 1, out2, i2 =>
    if (decide (i2 < (bs.length : Int))) = true then
      (V.gl bs i2).bind fun x =>
      if (V.seq x.On name) = true then
        (V.gl bs i2).bind fun x2 =>
        (V.ap 272 out2 [x2.Pod]).bind fun out4 =>
        ref09_On.l1 bs name n out4 (IntKind.i64.wrap (i2 + (1 : Int)))
      else
        ref09_On.l1 bs name n out2 (IntKind.i64.wrap (i2 + (1 : Int)))
    else
      some out2
def ref09_On (bs : List T_api_Bound) (name : ByteArray) : Option (List T_api_Pod) :=
  (ref09_On.l1 bs name FU ([] : List T_api_Pod) (0 : Int)).bind fun out32 =>
  some out32
theorem ref09_On_ok (bs : List T_api_Bound) (name : ByteArray) (r : List T_api_Pod) (hm : ref09_On bs name = some r) :
    VC Tryz.prog 68 [.list 56 (List.map T_api_Bound.vv bs), .str name] [] (fun zx zH => ∃ (ob0 : Option Nat) (cap0 : Nat), zx = .sl ob0 (List.map T_api_Pod.vv r).length cap0 ∧ zH = [.row ob0 31 cap0 (List.map T_api_Pod.vv r)]) := by
  unfold ref09_On at hm
  refine VC.run (c := _) (rs := [.tmp 4]) Tryz.func68 rfl rfl rfl ?_
  refine VW.seq ?_
  refine VW.region ?_
  refine VR.p rfl rfl (VP.assign rfl) ?_
  refine VR.nil ?_
  refine VW.seq ?_
  refine VW.region ?_
  refine VR.p rfl rfl (VP.assign rfl) ?_
  refine VR.nil ?_
  refine VW.seq ?_
  refine VW.seq ?_
  refine VW.region ?_
  refine VR.p rfl rfl (VP.assign rfl) ?_
  refine VR.nil ?_
  obtain ⟨o, h3, h4⟩ := bnd hm
  refine VW.joinE (fun (q : List T_api_Pod) => q = o) (fun (out32 : List T_api_Pod) (gg : Option Nat × Nat) => [(5, .sl gg.1 (List.map T_api_Pod.vv out32).length gg.2)]) (fun (out32 : List T_api_Pod) (gg : Option Nat × Nat) => [.row gg.1 31 gg.2 (List.map T_api_Pod.vv out32)]) ?_ ?_
  · have hm := h3
    refine VW.block (VW.loop FU ?_)
    refine VL.fuelS (R := _) (fun zn (zs : List T_api_Pod × Int) => ref09_On.l1 bs name zn zs.1 zs.2) (fun (zs : List T_api_Pod × Int) (zg : Option Nat × Nat) => [(0, .list 56 (List.map T_api_Bound.vv bs)), (1, .str name), (5, .sl zg.1 (List.map T_api_Pod.vv zs.1).length zg.2), (6, .int .i64 zs.2)]) (fun (zs : List T_api_Pod × Int) (zg : Option Nat × Nat) => [.row zg.1 31 zg.2 (List.map T_api_Pod.vv zs.1)]) (([] : List T_api_Pod), (0 : Int)) (none, 0) (fun zs => rfl) (Shift.trans (Shift.nilRow 31) (Shift.pick [0] rfl ⟨rfl, rfl, rfl, rfl, trivial⟩)) h3 ?_
    rintro n ⟨out2, i2⟩ ⟨ob2, cap2⟩ hm
    rw [ref09_On.l1] at hm
    refine VW.seq ?_
    refine VW.seq ?_
    refine VW.region ?_
    refine VR.p rfl rfl (VP.move rfl) ?_
    refine VR.p rfl rfl (VP.move rfl) ?_
    refine VR.p rfl rfl (VP.lenT T_api_Bound.vv rfl Tryz.underlying23) ?_
    refine VR.p rfl rfl (VP.arith rfl rfl rfl) ?_
    refine VR.nil ?_
    rcases ite_or hm with ⟨h5, hm⟩ | ⟨h5, hm⟩
    · refine VW.condT rfl h5 ?_
      refine VW.skip ?_
      refine VW.seq ?_
      refine VW.block ?_
      refine VW.seq ?_
      refine VW.region ?_
      refine VR.p rfl rfl (VP.move rfl) ?_
      refine VR.p rfl rfl (VP.move rfl) ?_
      obtain ⟨x, h6, hm⟩ := bnd hm
      refine VR.p rfl rfl (VP.glE T_api_Bound.vv rfl rfl el23 h6) ?_
      refine VR.p rfl rfl (VP.fieldE rfl fa56_1) ?_
      refine VR.p rfl rfl (VP.loadE rfl ld9 rfl) ?_
      refine VR.p rfl rfl (VP.move rfl) ?_
      refine VR.p rfl rfl (VP.strop rfl rfl rfl) ?_
      refine VR.nil ?_
      rcases ite_or hm with ⟨h7, hm⟩ | ⟨h7, hm⟩
      · refine VW.condT rfl h7 ?_
        refine VW.region ?_
        refine VR.p rfl rfl (VP.move rfl) ?_
        refine VR.p rfl rfl (VP.move rfl) ?_
        refine VR.p rfl rfl (VP.move rfl) ?_
        obtain ⟨x2, h8, hm⟩ := bnd hm
        refine VR.p rfl rfl (VP.glE T_api_Bound.vv rfl rfl el23 h8) ?_
        refine VR.p rfl rfl (VP.fieldE rfl fa56_0) ?_
        refine VR.p rfl rfl (VP.loadE rfl ld31 rfl) ?_
        refine VR.cons rfl rfl (VO.buildSlice ap89 rfl rfl rfl rfl rfl fun b => ?_)
        obtain ⟨out4, h10, hm⟩ := bnd hm
        refine VR.cons rfl rfl (VO.apT 1 T_api_Pod.vv (l := out2) (l2 := [x2.Pod]) ap89 rfl rfl (sT_row 0 T_api_Pod.vv el89 rfl rfl) h10 fun ob4 cap4 => ?_)
        refine VR.p rfl rfl (VP.assign rfl) ?_
        refine VR.nil ?_
        refine VW.region ?_
        refine VR.p rfl rfl (VP.move rfl) ?_
        refine VR.p rfl rfl (VP.arith rfl rfl rfl) ?_
        refine VR.p rfl rfl (VP.assign rfl) ?_
        refine VR.nil ?_
        exact ⟨(out4, (IntKind.i64.wrap (i2 + (1 : Int)))), (ob4, cap4), hm, (Shift.pick [1] rfl ⟨rfl, rfl, rfl, rfl, trivial⟩)⟩
      · have h7 := bf h7
        refine VW.condF rfl h7 ?_
        refine VW.skip ?_
        refine VW.region ?_
        refine VR.p rfl rfl (VP.move rfl) ?_
        refine VR.p rfl rfl (VP.arith rfl rfl rfl) ?_
        refine VR.p rfl rfl (VP.assign rfl) ?_
        refine VR.nil ?_
        exact ⟨(out2, (IntKind.i64.wrap (i2 + (1 : Int)))), (ob2, cap2), hm, (Shift.pick [0] rfl ⟨rfl, rfl, rfl, rfl, trivial⟩)⟩
    · have h5 := bf h5
      refine VW.condF rfl h5 ?_
      refine VW.exit ?_
      exact ⟨out2, (ob2, cap2), Option.some.inj hm, (Shift.pick [0] rfl ⟨rfl, trivial⟩)⟩
  · rintro out32 ⟨ob3, cap3⟩ rfl
    have hm := h4
    refine VW.seq ?_
    refine VW.region ?_
    refine VR.p rfl rfl (VP.move rfl) ?_
    refine VR.p rfl rfl (VP.assign rfl) ?_
    refine VR.nil ?_
    obtain rfl := Option.some.inj hm
    exact VW.ret ⟨.inl rfl, _, .cons (.tmp _ _ rfl) .nil, [0], _, rfl, ob3, cap3, rfl, rfl⟩

/-! trireme/triremeref04.Add -/
def ref04_Add (a : T_api_Res) (b : T_api_Res) : Option (T_api_Res × Int) :=
  (ref04_Right a).bind fun r =>
  (if (!r) = true then some true else (ref04_Right b).bind fun r2 =>
  some (!r2)).bind fun c =>
  if c = true then
    some ((⟨(0 : Int), (0 : Int), (0 : Int), (0 : Int), (0 : Int)⟩ : T_api_Res), (1 : Int))
  else
    (ref04_Right (⟨(IntKind.i64.wrap (a.Cpu + b.Cpu)), (IntKind.i64.wrap (a.Mem + b.Mem)), (IntKind.i64.wrap (a.Disk + b.Disk)), (IntKind.i64.wrap (a.Pods + b.Pods)), (IntKind.i64.wrap (a.Dev + b.Dev))⟩ : T_api_Res)).bind fun r3 =>
    if (!r3) = true then
      some ((⟨(0 : Int), (0 : Int), (0 : Int), (0 : Int), (0 : Int)⟩ : T_api_Res), (10 : Int))
    else
      some ((⟨(IntKind.i64.wrap (a.Cpu + b.Cpu)), (IntKind.i64.wrap (a.Mem + b.Mem)), (IntKind.i64.wrap (a.Disk + b.Disk)), (IntKind.i64.wrap (a.Pods + b.Pods)), (IntKind.i64.wrap (a.Dev + b.Dev))⟩ : T_api_Res), (0 : Int))
theorem ref04_Add_ok (a : T_api_Res) (b : T_api_Res) (r : T_api_Res × Int) (hm : ref04_Add a b = some r) :
    VC Tryz.prog 103 [T_api_Res.vv a, T_api_Res.vv b] [] (fun zx zH => zx = .tup [T_api_Res.vv r.1, .int .i64 r.2] ∧ zH = []) := by
  unfold ref04_Add at hm
  refine VC.run (c := _) (rs := [.cell 4 25, .tmp 5]) Tryz.func103 rfl rfl rfl ?_
  refine VW.seq ?_
  refine VW.region ?_
  refine VR.cons rfl rfl (VO.box rfl rfl fun b2 => ?_)
  refine VR.cons rfl rfl (VO.box rfl rfl fun b3 => ?_)
  refine VR.cons rfl rfl (VO.alloc z25 fun b4 => ?_)
  refine VR.p rfl rfl (VP.assign rfl) ?_
  refine VR.nil ?_
  refine VW.seq ?_
  refine VW.seq ?_
  refine VW.region ?_
  refine VR.p rfl rfl (VP.loadP (i := 2) rfl rfl ld25 rfl) ?_
  obtain ⟨r, h4, hm⟩ := bnd hm
  refine VR.cons rfl rfl (VO.callK 0 rfl fn35 rfl (ref04_Right_ok a r h4) fun _ _ h14 => ?_)
  obtain ⟨rfl, rfl⟩ := h14
  refine VR.p rfl rfl (VP.not rfl) ?_
  refine VR.p rfl rfl (VP.move rfl) ?_
  obtain ⟨c, h8, hm⟩ := bnd hm
  refine VR.sc 4 14 (.bool c) (fun K' J => ?_) ?_
  · have hm := h8
    rcases ite_or hm with ⟨h5, hm⟩ | ⟨h5, hm⟩
    · refine VR.skipG rfl rfl rfl rfl h5 ?_
      refine VR.skipG rfl rfl rfl rfl h5 ?_
      refine VR.skipG rfl rfl rfl rfl h5 ?_
      refine VR.p rfl rfl (VP.pickB true rfl h5 rfl) ?_
      exact J [_, _, _] _ rfl (congrArg VV.bool (Option.some.inj hm))
    · have h5 := bf h5
      refine VR.pG rfl rfl rfl rfl h5 (VP.loadP (i := 1) rfl rfl ld25 rfl) ?_
      obtain ⟨r2, h6, hm⟩ := bnd hm
      refine VR.consG rfl rfl rfl rfl h5 (VO.callK 0 rfl fn35 rfl (ref04_Right_ok b r2 h6) fun _ _ h7 => ?_)
      obtain ⟨rfl, rfl⟩ := h7
      refine VR.pG rfl rfl rfl rfl h5 (VP.not rfl) ?_
      refine VR.p rfl rfl (VP.pickB false rfl h5 rfl) ?_
      exact J [_, _, _] _ rfl (congrArg VV.bool (Option.some.inj hm))
  · refine VR.nil ?_
    rcases ite_or hm with ⟨h9, hm⟩ | ⟨h9, hm⟩
    · refine VW.condT rfl h9 ?_
      refine VW.seq ?_
      refine VW.region ?_
      refine VR.p rfl rfl (VP.buildP pl25 rfl rfl) ?_
      refine VR.cons rfl rfl (VO.storeP (i := 0) rfl rfl rfl ld25 rfl rfl rfl ?_)
      refine VR.p rfl rfl (VP.assign rfl) ?_
      refine VR.nil ?_
      obtain rfl := Option.some.inj hm
      exact VW.ret ⟨.inl rfl, _, .cons (.cell _ _ _ _ 0 _ _ _ _ rfl rfl ld25 rfl) (.cons (.tmp _ _ rfl) .nil), [], _, rfl, rfl, rfl⟩
    · have h9 := bf h9
      refine VW.condF rfl h9 ?_
      refine VW.skip ?_
      refine VW.seq ?_
      refine VW.region ?_
      refine VR.p rfl rfl (VP.fieldP rfl fa25_0) ?_
      refine VR.p rfl rfl (VP.loadP (i := 2) rfl rfl ld3 rfl) ?_
      refine VR.p rfl rfl (VP.fieldP rfl fa25_0) ?_
      refine VR.p rfl rfl (VP.loadP (i := 1) rfl rfl ld3 rfl) ?_
      refine VR.p rfl rfl (VP.arith rfl rfl rfl) ?_
      refine VR.p rfl rfl (VP.fieldP rfl fa25_1) ?_
      refine VR.p rfl rfl (VP.loadP (i := 2) rfl rfl ld3 rfl) ?_
      refine VR.p rfl rfl (VP.fieldP rfl fa25_1) ?_
      refine VR.p rfl rfl (VP.loadP (i := 1) rfl rfl ld3 rfl) ?_
      refine VR.p rfl rfl (VP.arith rfl rfl rfl) ?_
      refine VR.p rfl rfl (VP.fieldP rfl fa25_2) ?_
      refine VR.p rfl rfl (VP.loadP (i := 2) rfl rfl ld3 rfl) ?_
      refine VR.p rfl rfl (VP.fieldP rfl fa25_2) ?_
      refine VR.p rfl rfl (VP.loadP (i := 1) rfl rfl ld3 rfl) ?_
      refine VR.p rfl rfl (VP.arith rfl rfl rfl) ?_
      refine VR.p rfl rfl (VP.fieldP rfl fa25_3) ?_
      refine VR.p rfl rfl (VP.loadP (i := 2) rfl rfl ld3 rfl) ?_
      refine VR.p rfl rfl (VP.fieldP rfl fa25_3) ?_
      refine VR.p rfl rfl (VP.loadP (i := 1) rfl rfl ld3 rfl) ?_
      refine VR.p rfl rfl (VP.arith rfl rfl rfl) ?_
      refine VR.p rfl rfl (VP.fieldP rfl fa25_4) ?_
      refine VR.p rfl rfl (VP.loadP (i := 2) rfl rfl ld3 rfl) ?_
      refine VR.p rfl rfl (VP.fieldP rfl fa25_4) ?_
      refine VR.p rfl rfl (VP.loadP (i := 1) rfl rfl ld3 rfl) ?_
      refine VR.p rfl rfl (VP.arith rfl rfl rfl) ?_
      refine VR.p rfl rfl (VP.buildP pl25 rfl rfl) ?_
      refine VR.cons rfl rfl (VO.alloc z25 fun b5 => ?_)
      refine VR.cons rfl rfl (VO.storeP (i := 0) rfl rfl rfl ld25 rfl rfl rfl ?_)
      refine VR.nil ?_
      refine VW.seq ?_
      refine VW.seq ?_
      refine VW.region ?_
      refine VR.p rfl rfl (VP.loadP (i := 0) rfl rfl ld25 rfl) ?_
      obtain ⟨r3, h11, hm⟩ := bnd hm
      refine VR.cons rfl rfl (VO.callK 0 rfl fn35 rfl (ref04_Right_ok (⟨(IntKind.i64.wrap (a.Cpu + b.Cpu)), (IntKind.i64.wrap (a.Mem + b.Mem)), (IntKind.i64.wrap (a.Disk + b.Disk)), (IntKind.i64.wrap (a.Pods + b.Pods)), (IntKind.i64.wrap (a.Dev + b.Dev))⟩ : T_api_Res) r3 h11) fun _ _ h13 => ?_)
      obtain ⟨rfl, rfl⟩ := h13
      refine VR.p rfl rfl (VP.not rfl) ?_
      refine VR.nil ?_
      rcases ite_or hm with ⟨h12, hm⟩ | ⟨h12, hm⟩
      · refine VW.condT rfl h12 ?_
        refine VW.seq ?_
        refine VW.region ?_
        refine VR.p rfl rfl (VP.buildP pl25 rfl rfl) ?_
        refine VR.cons rfl rfl (VO.storeP (i := 1) rfl rfl rfl ld25 rfl rfl rfl ?_)
        refine VR.p rfl rfl (VP.assign rfl) ?_
        refine VR.nil ?_
        obtain rfl := Option.some.inj hm
        exact VW.ret ⟨.inl rfl, _, .cons (.cell _ _ _ _ 1 _ _ _ _ rfl rfl ld25 rfl) (.cons (.tmp _ _ rfl) .nil), [], _, rfl, rfl, rfl⟩
      · have h12 := bf h12
        refine VW.condF rfl h12 ?_
        refine VW.skip ?_
        refine VW.seq ?_
        refine VW.region ?_
        refine VR.p rfl rfl (VP.loadP (i := 0) rfl rfl ld25 rfl) ?_
        refine VR.cons rfl rfl (VO.storeP (i := 1) rfl rfl rfl ld25 rfl rfl rfl ?_)
        refine VR.p rfl rfl (VP.assign rfl) ?_
        refine VR.nil ?_
        obtain rfl := Option.some.inj hm
        exact VW.ret ⟨.inl rfl, _, .cons (.cell _ _ _ _ 1 _ _ _ _ rfl rfl ld25 rfl) (.cons (.tmp _ _ rfl) .nil), [], _, rfl, rfl, rfl⟩

/-! trireme/triremeref09.Used -/
def ref09_Used.l1 (r : List T_api_Pod) : Nat → Int → Option (Out (T_api_Res × Int) Unit)
  | 0, _ => none
  | n + 1, i2 =>
    if (decide (i2 < (r.length : Int))) = true then
      (V.gl r i2).bind fun x =>
      (ref04_Right x.Need).bind fun r2 =>
      if (!r2) = true then
        some (Out.ret ((⟨(0 : Int), (0 : Int), (0 : Int), (0 : Int), (0 : Int)⟩ : T_api_Res), (12 : Int)))
      else
        ref09_Used.l1 r n (IntKind.i64.wrap (i2 + (1 : Int)))
    else
      some (Out.go ())
def ref09_Used.l2 (r : List T_api_Pod) : Nat → T_api_Res → Int → Option (Out (T_api_Res × Int) T_api_Res)
  | 0, _, _ => none
  | n2 + 1, sum2, i4 =>
    if (decide (i4 < (r.length : Int))) = true then
      (V.gl r i4).bind fun x2 =>
      (ref04_Add sum2 x2.Need).bind fun r3 =>
      if (r3.2 != (0 : Int)) = true then
        some (Out.ret ((⟨(0 : Int), (0 : Int), (0 : Int), (0 : Int), (0 : Int)⟩ : T_api_Res), r3.2))
      else
        ref09_Used.l2 r n2 r3.1 (IntKind.i64.wrap (i4 + (1 : Int)))
    else
      some (Out.go sum2)
def ref09_Used (bs : List T_api_Bound) (name : ByteArray) : Option (T_api_Res × Int) :=
  (ref09_On bs name).bind fun r =>
  (ref09_Used.l1 r FU (0 : Int)).bind fun o =>
  o.on fun j =>
  (ref09_Used.l2 r FU (⟨(0 : Int), (0 : Int), (0 : Int), (0 : Int), (0 : Int)⟩ : T_api_Res) (0 : Int)).bind fun o2 =>
  o2.on fun sum32 =>
  some (sum32, (0 : Int))
theorem ref09_Used_ok (bs : List T_api_Bound) (name : ByteArray) (r : T_api_Res × Int) (hm : ref09_Used bs name = some r) :
    VC Tryz.prog 90 [.list 56 (List.map T_api_Bound.vv bs), .str name] [] (fun zx zH => zx = .tup [T_api_Res.vv r.1, .int .i64 r.2] ∧ zH = []) := by
  unfold ref09_Used at hm
  refine VC.run (c := _) (rs := [.cell 4 25, .tmp 5]) Tryz.func90 rfl rfl rfl ?_
  refine VW.seq ?_
  refine VW.region ?_
  refine VR.cons rfl rfl (VO.alloc z25 fun b => ?_)
  refine VR.p rfl rfl (VP.assign rfl) ?_
  refine VR.nil ?_
  refine VW.seq ?_
  refine VW.region ?_
  refine VR.p rfl rfl (VP.move rfl) ?_
  refine VR.p rfl rfl (VP.move rfl) ?_
  obtain ⟨r, h2, hm⟩ := bnd hm
  refine VR.cons rfl rfl (VO.callK 0 rfl fn68 rfl (ref09_On_ok bs name r h2) fun _ _ h24 => ?_)
  obtain ⟨ob, cap, rfl, rfl⟩ := h24
  refine VR.shift (Shift.freezeE 0 [(14, .list 31 (List.map T_api_Pod.vv r))] rfl ⟨⟨_, rfl, .here _ rfl⟩, trivial⟩ (FzH.refl _)) ?_
  refine VR.p rfl rfl (VP.assign rfl) ?_
  refine VR.nil ?_
  refine VW.seq ?_
  refine VW.seq ?_
  refine VW.region ?_
  refine VR.p rfl rfl (VP.assign rfl) ?_
  refine VR.nil ?_
  obtain ⟨o, h4, h5⟩ := bnd hm
  refine VW.joinE (fun (q : Unit) => o = Out.go q) (fun (j : Unit) (gg : Unit) => [(4, .ptr b 0), (6, .list 31 (List.map T_api_Pod.vv r))]) (fun (j : Unit) (gg : Unit) => [.box b 25 (T_api_Res.cells (⟨(0 : Int), (0 : Int), (0 : Int), (0 : Int), (0 : Int)⟩ : T_api_Res))]) ?_ ?_
  · have hm := h4
    refine VW.block (VW.loop FU ?_)
    refine VL.fuelS (R := _) (fun zn (zs : Int) => ref09_Used.l1 r zn zs) (fun (zs : Int) (zg : Unit) => [(4, .ptr b 0), (6, .list 31 (List.map T_api_Pod.vv r)), (7, .int .i64 zs)]) (fun (zs : Int) (zg : Unit) => [.box b 25 (T_api_Res.cells (⟨(0 : Int), (0 : Int), (0 : Int), (0 : Int), (0 : Int)⟩ : T_api_Res))]) (0 : Int) () (fun zs => rfl) (Shift.pick [0] rfl ⟨rfl, rfl, rfl, trivial⟩) h4 ?_
    rintro n i2 _ hm
    rw [ref09_Used.l1] at hm
    refine VW.seq ?_
    refine VW.seq ?_
    refine VW.region ?_
    refine VR.p rfl rfl (VP.move rfl) ?_
    refine VR.p rfl rfl (VP.move rfl) ?_
    refine VR.p rfl rfl (VP.lenT T_api_Pod.vv rfl Tryz.underlying89) ?_
    refine VR.p rfl rfl (VP.arith rfl rfl rfl) ?_
    refine VR.nil ?_
    rcases ite_or hm with ⟨h6, hm⟩ | ⟨h6, hm⟩
    · refine VW.condT rfl h6 ?_
      refine VW.skip ?_
      refine VW.seq ?_
      refine VW.block ?_
      refine VW.seq ?_
      refine VW.region ?_
      refine VR.p rfl rfl (VP.move rfl) ?_
      refine VR.p rfl rfl (VP.move rfl) ?_
      obtain ⟨x, h7, hm⟩ := bnd hm
      refine VR.p rfl rfl (VP.glE T_api_Pod.vv rfl rfl el89 h7) ?_
      refine VR.p rfl rfl (VP.fieldE rfl fa31_1) ?_
      refine VR.p rfl rfl (VP.loadE rfl ld25 rfl) ?_
      obtain ⟨r2, h8, hm⟩ := bnd hm
      refine VR.cons rfl rfl (VO.callK 0 rfl fn35 rfl (ref04_Right_ok x.Need r2 h8) fun _ _ h10 => ?_)
      obtain ⟨rfl, rfl⟩ := h10
      refine VR.p rfl rfl (VP.not rfl) ?_
      refine VR.nil ?_
      rcases ite_or hm with ⟨h9, hm⟩ | ⟨h9, hm⟩
      · refine VW.condT rfl h9 ?_
        refine VW.seq ?_
        refine VW.region ?_
        refine VR.p rfl rfl (VP.buildP pl25 rfl rfl) ?_
        refine VR.cons rfl rfl (VO.storeP (i := 0) rfl rfl rfl ld25 rfl rfl rfl ?_)
        refine VR.p rfl rfl (VP.assign rfl) ?_
        refine VR.nil ?_
        obtain rfl := Option.some.inj hm
        have hm := Out.ret_on h5
        obtain rfl := Option.some.inj hm
        exact VW.ret ⟨.inl rfl, _, .cons (.cell _ _ _ _ 0 _ _ _ _ rfl rfl ld25 rfl) (.cons (.tmp _ _ rfl) .nil), [], _, rfl, rfl, rfl⟩
      · have h9 := bf h9
        refine VW.condF rfl h9 ?_
        refine VW.skip ?_
        refine VW.region ?_
        refine VR.p rfl rfl (VP.move rfl) ?_
        refine VR.p rfl rfl (VP.arith rfl rfl rfl) ?_
        refine VR.p rfl rfl (VP.assign rfl) ?_
        refine VR.nil ?_
        exact ⟨(IntKind.i64.wrap (i2 + (1 : Int))), (), hm, (Shift.pick [0] rfl ⟨rfl, rfl, rfl, trivial⟩)⟩
    · have h6 := bf h6
      refine VW.condF rfl h6 ?_
      refine VW.exit ?_
      exact ⟨(), (), (Option.some.inj hm).symm, (Shift.pick [0] rfl ⟨rfl, rfl, trivial⟩)⟩
  · rintro j _ rfl
    have hm := Out.go_on h5
    refine VW.seq ?_
    refine VW.region ?_
    refine VR.p rfl rfl (VP.buildP pl25 rfl rfl) ?_
    refine VR.cons rfl rfl (VO.alloc z25 fun b2 => ?_)
    refine VR.cons rfl rfl (VO.storeP (i := 0) rfl rfl rfl ld25 rfl rfl rfl ?_)
    refine VR.nil ?_
    refine VW.seq ?_
    refine VW.seq ?_
    refine VW.region ?_
    refine VR.p rfl rfl (VP.assign rfl) ?_
    refine VR.nil ?_
    obtain ⟨o2, h12, h13⟩ := bnd hm
    refine VW.joinE (fun (q : T_api_Res) => o2 = Out.go q) (fun (sum32 : T_api_Res) (gg : Unit) => [(4, .ptr b 0), (8, .ptr b2 0)]) (fun (sum32 : T_api_Res) (gg : Unit) => [.box b2 25 (T_api_Res.cells sum32), .box b 25 (T_api_Res.cells (⟨(0 : Int), (0 : Int), (0 : Int), (0 : Int), (0 : Int)⟩ : T_api_Res))]) ?_ ?_
    · have hm := h12
      refine VW.block (VW.loop FU ?_)
      refine VL.fuelS (R := _) (fun zn (zs : T_api_Res × Int) => ref09_Used.l2 r zn zs.1 zs.2) (fun (zs : T_api_Res × Int) (zg : Unit) => [(4, .ptr b 0), (6, .list 31 (List.map T_api_Pod.vv r)), (8, .ptr b2 0), (9, .int .i64 zs.2)]) (fun (zs : T_api_Res × Int) (zg : Unit) => [.box b2 25 (T_api_Res.cells zs.1), .box b 25 (T_api_Res.cells (⟨(0 : Int), (0 : Int), (0 : Int), (0 : Int), (0 : Int)⟩ : T_api_Res))]) ((⟨(0 : Int), (0 : Int), (0 : Int), (0 : Int), (0 : Int)⟩ : T_api_Res), (0 : Int)) () (fun zs => rfl) (Shift.pick [0, 0] rfl ⟨rfl, rfl, rfl, rfl, trivial⟩) h12 ?_
      rintro n2 ⟨sum2, i4⟩ _ hm
      rw [ref09_Used.l2] at hm
      refine VW.seq ?_
      refine VW.seq ?_
      refine VW.region ?_
      refine VR.p rfl rfl (VP.move rfl) ?_
      refine VR.p rfl rfl (VP.move rfl) ?_
      refine VR.p rfl rfl (VP.lenT T_api_Pod.vv rfl Tryz.underlying89) ?_
      refine VR.p rfl rfl (VP.arith rfl rfl rfl) ?_
      refine VR.nil ?_
      rcases ite_or hm with ⟨h14, hm⟩ | ⟨h14, hm⟩
      · refine VW.condT rfl h14 ?_
        refine VW.skip ?_
        refine VW.seq ?_
        refine VW.block ?_
        refine VW.seq ?_
        refine VW.drawK 0 mixed ?_
        refine VA.p 0 rfl rfl rfl (by kernel_rfl) (VP.loadP (i := 0) rfl rfl ld25 rfl) ?_
        refine VA.p 1 rfl rfl rfl (by kernel_rfl) (VP.move rfl) ?_
        refine VA.p 2 rfl rfl rfl (by kernel_rfl) (VP.move rfl) ?_
        obtain ⟨x2, h15, hm⟩ := bnd hm
        refine VA.p 3 rfl rfl rfl (by kernel_rfl) (VP.glE T_api_Pod.vv rfl rfl el89 h15) ?_
        refine VA.p 4 rfl rfl rfl (by kernel_rfl) (VP.fieldE rfl fa31_1) ?_
        refine VA.p 5 rfl rfl rfl (by kernel_rfl) (VP.loadE rfl ld25 rfl) ?_
        refine VA.all [6, 10] (by kernel_rfl) ⟨?_, ?_, trivial⟩
        · obtain ⟨r3, h16, hm⟩ := bnd hm
          refine VB.o rfl rfl rfl (VO.callK 0 rfl fn103 rfl (ref04_Add_ok sum2 x2.Need r3 h16) fun _ _ h19 => ?_)
          obtain ⟨rfl, rfl⟩ := h19
          refine VA.p 7 rfl rfl rfl (by kernel_rfl) (VP.move rfl) ?_
          refine VA.p 8 rfl rfl rfl (by kernel_rfl) (VP.extract rfl rfl) ?_
          refine VA.p 9 rfl rfl rfl (by kernel_rfl) (VP.extract rfl rfl) ?_
          refine VA.all [10] (by kernel_rfl) ⟨?_, trivial⟩
          refine VB.o rfl rfl rfl (VO.alloc z25 fun b3 => ?_)
          refine VA.all [11] (by kernel_rfl) ⟨?_, trivial⟩
          refine VB.o rfl rfl rfl (VO.storeP (i := 0) rfl rfl rfl ld25 rfl rfl rfl ?_)
          refine VA.p 12 rfl rfl rfl (by kernel_rfl) (VP.assign rfl) ?_
          refine VA.done (by kernel_rfl) ?_
          refine VW.seq ?_
          refine VW.seq ?_
          refine VW.region ?_
          refine VR.p rfl rfl (VP.move rfl) ?_
          refine VR.p rfl rfl (VP.arith rfl rfl rfl) ?_
          refine VR.nil ?_
          rcases ite_or hm with ⟨h18, hm⟩ | ⟨h18, hm⟩
          · refine VW.condT rfl h18 ?_
            refine VW.seq ?_
            refine VW.region ?_
            refine VR.p rfl rfl (VP.buildP pl25 rfl rfl) ?_
            refine VR.p rfl rfl (VP.move rfl) ?_
            refine VR.cons rfl rfl (VO.storeP (i := 2) rfl rfl rfl ld25 rfl rfl rfl ?_)
            refine VR.p rfl rfl (VP.assign rfl) ?_
            refine VR.nil ?_
            obtain rfl := Option.some.inj hm
            have hm := Out.ret_on h13
            obtain rfl := Option.some.inj hm
            exact VW.ret ⟨.inl rfl, _, .cons (.cell _ _ _ _ 2 _ _ _ _ rfl rfl ld25 rfl) (.cons (.tmp _ _ rfl) .nil), [], _, rfl, rfl, rfl⟩
          · have h18 := bf h18
            refine VW.condF rfl h18 ?_
            refine VW.skip ?_
            refine VW.region ?_
            refine VR.p rfl rfl (VP.loadP (i := 0) rfl rfl ld25 rfl) ?_
            refine VR.cons rfl rfl (VO.storeP (i := 1) rfl rfl rfl ld25 rfl rfl rfl ?_)
            refine VR.nil ?_
            refine VW.region ?_
            refine VR.p rfl rfl (VP.move rfl) ?_
            refine VR.p rfl rfl (VP.arith rfl rfl rfl) ?_
            refine VR.p rfl rfl (VP.assign rfl) ?_
            refine VR.nil ?_
            exact ⟨(r3.1, (IntKind.i64.wrap (i4 + (1 : Int)))), (), hm, (Shift.pick [1, 1] rfl ⟨rfl, rfl, rfl, rfl, trivial⟩)⟩
        · refine VB.o rfl rfl rfl (VO.alloc z25 fun b4 => ?_)
          refine VA.all [6] (by kernel_rfl) ⟨?_, trivial⟩
          obtain ⟨r4, h21, hm⟩ := bnd hm
          refine VB.o rfl rfl rfl (VO.callK 0 rfl fn103 rfl (ref04_Add_ok sum2 x2.Need r4 h21) fun _ _ h23 => ?_)
          obtain ⟨rfl, rfl⟩ := h23
          refine VA.p 7 rfl rfl rfl (by kernel_rfl) (VP.move rfl) ?_
          refine VA.p 8 rfl rfl rfl (by kernel_rfl) (VP.extract rfl rfl) ?_
          refine VA.p 9 rfl rfl rfl (by kernel_rfl) (VP.extract rfl rfl) ?_
          refine VA.all [11] (by kernel_rfl) ⟨?_, trivial⟩
          refine VB.o rfl rfl rfl (VO.storeP (i := 0) rfl rfl rfl ld25 rfl rfl rfl ?_)
          refine VA.p 12 rfl rfl rfl (by kernel_rfl) (VP.assign rfl) ?_
          refine VA.done (by kernel_rfl) ?_
          refine VW.seq ?_
          refine VW.seq ?_
          refine VW.region ?_
          refine VR.p rfl rfl (VP.move rfl) ?_
          refine VR.p rfl rfl (VP.arith rfl rfl rfl) ?_
          refine VR.nil ?_
          rcases ite_or hm with ⟨h22, hm⟩ | ⟨h22, hm⟩
          · refine VW.condT rfl h22 ?_
            refine VW.seq ?_
            refine VW.region ?_
            refine VR.p rfl rfl (VP.buildP pl25 rfl rfl) ?_
            refine VR.p rfl rfl (VP.move rfl) ?_
            refine VR.cons rfl rfl (VO.storeP (i := 2) rfl rfl rfl ld25 rfl rfl rfl ?_)
            refine VR.p rfl rfl (VP.assign rfl) ?_
            refine VR.nil ?_
            obtain rfl := Option.some.inj hm
            have hm := Out.ret_on h13
            obtain rfl := Option.some.inj hm
            exact VW.ret ⟨.inl rfl, _, .cons (.cell _ _ _ _ 2 _ _ _ _ rfl rfl ld25 rfl) (.cons (.tmp _ _ rfl) .nil), [], _, rfl, rfl, rfl⟩
          · have h22 := bf h22
            refine VW.condF rfl h22 ?_
            refine VW.skip ?_
            refine VW.region ?_
            refine VR.p rfl rfl (VP.loadP (i := 0) rfl rfl ld25 rfl) ?_
            refine VR.cons rfl rfl (VO.storeP (i := 1) rfl rfl rfl ld25 rfl rfl rfl ?_)
            refine VR.nil ?_
            refine VW.region ?_
            refine VR.p rfl rfl (VP.move rfl) ?_
            refine VR.p rfl rfl (VP.arith rfl rfl rfl) ?_
            refine VR.p rfl rfl (VP.assign rfl) ?_
            refine VR.nil ?_
            exact ⟨(r4.1, (IntKind.i64.wrap (i4 + (1 : Int)))), (), hm, (Shift.pick [1, 1] rfl ⟨rfl, rfl, rfl, rfl, trivial⟩)⟩
      · have h14 := bf h14
        refine VW.condF rfl h14 ?_
        refine VW.exit ?_
        exact ⟨sum2, (), (Option.some.inj hm).symm, (Shift.pick [0, 0] rfl ⟨rfl, rfl, trivial⟩)⟩
    · rintro sum32 _ rfl
      have hm := Out.go_on h13
      refine VW.seq ?_
      refine VW.region ?_
      refine VR.p rfl rfl (VP.loadP (i := 0) rfl rfl ld25 rfl) ?_
      refine VR.cons rfl rfl (VO.storeP (i := 1) rfl rfl rfl ld25 rfl rfl rfl ?_)
      refine VR.p rfl rfl (VP.assign rfl) ?_
      refine VR.nil ?_
      obtain rfl := Option.some.inj hm
      exact VW.ret ⟨.inl rfl, _, .cons (.cell _ _ _ _ 1 _ _ _ _ rfl rfl ld25 rfl) (.cons (.tmp _ _ rfl) .nil), [], _, rfl, rfl, rfl⟩

/-! trireme/triremeref09.Left -/
def ref09_Left (m : T_api_Machine) (bs : List T_api_Bound) : Option T_api_Res :=
  (ref09_Used bs m.Name).bind fun r =>
  (if (r.2 != (0 : Int)) = true then some true else (ref04_Right m.Has).bind fun r2 =>
  some (!r2)).bind fun c =>
  if c = true then
    some (⟨(0 : Int), (0 : Int), (0 : Int), (0 : Int), (0 : Int)⟩ : T_api_Res)
  else
    some (⟨(max (0 : Int) (IntKind.i64.wrap (m.Has.Cpu - r.1.Cpu))), (max (0 : Int) (IntKind.i64.wrap (m.Has.Mem - r.1.Mem))), (max (0 : Int) (IntKind.i64.wrap (m.Has.Disk - r.1.Disk))), (max (0 : Int) (IntKind.i64.wrap (m.Has.Pods - r.1.Pods))), (max (0 : Int) (IntKind.i64.wrap (m.Has.Dev - r.1.Dev)))⟩ : T_api_Res)
theorem ref09_Left_ok (m : T_api_Machine) (bs : List T_api_Bound) (r : T_api_Res) (hm : ref09_Left m bs = some r) :
    VC Tryz.prog 67 [T_api_Machine.vv m, .list 56 (List.map T_api_Bound.vv bs)] [] (fun zx zH => zx = T_api_Res.vv r ∧ zH = []) := by
  unfold ref09_Left at hm
  refine VC.run (c := _) (rs := [.cell 4 25]) Tryz.func67 rfl rfl rfl ?_
  refine VW.seq ?_
  refine VW.region ?_
  refine VR.cons rfl rfl (VO.box rfl rfl fun b => ?_)
  refine VR.cons rfl rfl (VO.alloc z25 fun b2 => ?_)
  refine VR.nil ?_
  refine VW.seq ?_
  refine VW.region ?_
  refine VR.p rfl rfl (VP.move rfl) ?_
  refine VR.p rfl rfl (VP.fieldP rfl fa37_0) ?_
  refine VR.p rfl rfl (VP.loadP (i := 1) rfl rfl ld9 rfl) ?_
  obtain ⟨r, h3, hm⟩ := bnd hm
  refine VR.cons rfl rfl (VO.callK 0 rfl fn90 rfl (ref09_Used_ok bs m.Name r h3) fun _ _ h11 => ?_)
  obtain ⟨rfl, rfl⟩ := h11
  refine VR.p rfl rfl (VP.move rfl) ?_
  refine VR.p rfl rfl (VP.extract rfl rfl) ?_
  refine VR.p rfl rfl (VP.extract rfl rfl) ?_
  refine VR.cons rfl rfl (VO.alloc z25 fun b3 => ?_)
  refine VR.cons rfl rfl (VO.storeP (i := 0) rfl rfl rfl ld25 rfl rfl rfl ?_)
  refine VR.p rfl rfl (VP.assign rfl) ?_
  refine VR.nil ?_
  refine VW.seq ?_
  refine VW.seq ?_
  refine VW.region ?_
  refine VR.p rfl rfl (VP.move rfl) ?_
  refine VR.p rfl rfl (VP.arith rfl rfl rfl) ?_
  refine VR.p rfl rfl (VP.move rfl) ?_
  obtain ⟨c, h8, hm⟩ := bnd hm
  refine VR.sc 5 22 (.bool c) (fun K' J => ?_) ?_
  · have hm := h8
    rcases ite_or hm with ⟨h5, hm⟩ | ⟨h5, hm⟩
    · refine VR.skipG rfl rfl rfl rfl h5 ?_
      refine VR.skipG rfl rfl rfl rfl h5 ?_
      refine VR.skipG rfl rfl rfl rfl h5 ?_
      refine VR.skipG rfl rfl rfl rfl h5 ?_
      refine VR.p rfl rfl (VP.pickB true rfl h5 rfl) ?_
      exact J [_, _, _, _] _ rfl (congrArg VV.bool (Option.some.inj hm))
    · have h5 := bf h5
      refine VR.pG rfl rfl rfl rfl h5 (VP.fieldP rfl fa37_2) ?_
      refine VR.pG rfl rfl rfl rfl h5 (VP.loadP (i := 2) rfl rfl ld25 rfl) ?_
      obtain ⟨r2, h6, hm⟩ := bnd hm
      refine VR.consG rfl rfl rfl rfl h5 (VO.callK 0 rfl fn35 rfl (ref04_Right_ok m.Has r2 h6) fun _ _ h7 => ?_)
      obtain ⟨rfl, rfl⟩ := h7
      refine VR.pG rfl rfl rfl rfl h5 (VP.not rfl) ?_
      refine VR.p rfl rfl (VP.pickB false rfl h5 rfl) ?_
      exact J [_, _, _, _] _ rfl (congrArg VV.bool (Option.some.inj hm))
  · refine VR.nil ?_
    rcases ite_or hm with ⟨h9, hm⟩ | ⟨h9, hm⟩
    · refine VW.condT rfl h9 ?_
      refine VW.seq ?_
      refine VW.region ?_
      refine VR.p rfl rfl (VP.buildP pl25 rfl rfl) ?_
      refine VR.cons rfl rfl (VO.storeP (i := 1) rfl rfl rfl ld25 rfl rfl rfl ?_)
      refine VR.nil ?_
      obtain rfl := Option.some.inj hm
      exact VW.ret ⟨.inl rfl, _, .cons (.cell _ _ _ _ 1 _ _ _ _ rfl rfl ld25 rfl) .nil, [], _, rfl, rfl, rfl⟩
    · have h9 := bf h9
      refine VW.condF rfl h9 ?_
      refine VW.skip ?_
      refine VW.seq ?_
      refine VW.region ?_
      refine VR.p rfl rfl (VP.fieldP rfl fa37_2) ?_
      refine VR.p rfl rfl (VP.loadP (i := 2) rfl rfl ld25 rfl) ?_
      refine VR.cons rfl rfl (VO.alloc z25 fun b4 => ?_)
      refine VR.cons rfl rfl (VO.storeP (i := 0) rfl rfl rfl ld25 rfl rfl rfl ?_)
      refine VR.nil ?_
      refine VW.seq ?_
      refine VW.region ?_
      refine VR.p rfl rfl (VP.fieldP rfl fa25_0) ?_
      refine VR.p rfl rfl (VP.loadP (i := 0) rfl rfl ld3 rfl) ?_
      refine VR.p rfl rfl (VP.fieldP rfl fa25_0) ?_
      refine VR.p rfl rfl (VP.loadP (i := 1) rfl rfl ld3 rfl) ?_
      refine VR.p rfl rfl (VP.arith rfl rfl rfl) ?_
      refine VR.p rfl rfl (VP.max2 rfl rfl) ?_
      refine VR.p rfl rfl (VP.fieldP rfl fa25_1) ?_
      refine VR.p rfl rfl (VP.loadP (i := 0) rfl rfl ld3 rfl) ?_
      refine VR.p rfl rfl (VP.fieldP rfl fa25_1) ?_
      refine VR.p rfl rfl (VP.loadP (i := 1) rfl rfl ld3 rfl) ?_
      refine VR.p rfl rfl (VP.arith rfl rfl rfl) ?_
      refine VR.p rfl rfl (VP.max2 rfl rfl) ?_
      refine VR.p rfl rfl (VP.fieldP rfl fa25_2) ?_
      refine VR.p rfl rfl (VP.loadP (i := 0) rfl rfl ld3 rfl) ?_
      refine VR.p rfl rfl (VP.fieldP rfl fa25_2) ?_
      refine VR.p rfl rfl (VP.loadP (i := 1) rfl rfl ld3 rfl) ?_
      refine VR.p rfl rfl (VP.arith rfl rfl rfl) ?_
      refine VR.p rfl rfl (VP.max2 rfl rfl) ?_
      refine VR.p rfl rfl (VP.fieldP rfl fa25_3) ?_
      refine VR.p rfl rfl (VP.loadP (i := 0) rfl rfl ld3 rfl) ?_
      refine VR.p rfl rfl (VP.fieldP rfl fa25_3) ?_
      refine VR.p rfl rfl (VP.loadP (i := 1) rfl rfl ld3 rfl) ?_
      refine VR.p rfl rfl (VP.arith rfl rfl rfl) ?_
      refine VR.p rfl rfl (VP.max2 rfl rfl) ?_
      refine VR.p rfl rfl (VP.fieldP rfl fa25_4) ?_
      refine VR.p rfl rfl (VP.loadP (i := 0) rfl rfl ld3 rfl) ?_
      refine VR.p rfl rfl (VP.fieldP rfl fa25_4) ?_
      refine VR.p rfl rfl (VP.loadP (i := 1) rfl rfl ld3 rfl) ?_
      refine VR.p rfl rfl (VP.arith rfl rfl rfl) ?_
      refine VR.p rfl rfl (VP.max2 rfl rfl) ?_
      refine VR.p rfl rfl (VP.buildP pl25 rfl rfl) ?_
      refine VR.cons rfl rfl (VO.storeP (i := 2) rfl rfl rfl ld25 rfl rfl rfl ?_)
      refine VR.nil ?_
      obtain rfl := Option.some.inj hm
      exact VW.ret ⟨.inl rfl, _, .cons (.cell _ _ _ _ 2 _ _ _ _ rfl rfl ld25 rfl) .nil, [], _, rfl, rfl, rfl⟩

/-! trireme/triremeref04.Fits -/
def ref04_Fits (a : T_api_Res) (b : T_api_Res) : Option Bool :=
  (ref04_Right a).bind fun r =>
  (if r = true then (ref04_Right b).bind fun r2 =>
  some r2 else some false).bind fun c =>
  some (((((c && (decide (a.Cpu ≤ b.Cpu))) && (decide (a.Mem ≤ b.Mem))) && (decide (a.Disk ≤ b.Disk))) && (decide (a.Pods ≤ b.Pods))) && (decide (a.Dev ≤ b.Dev)))
theorem ref04_Fits_ok (a : T_api_Res) (b : T_api_Res) (r : Bool) (hm : ref04_Fits a b = some r) :
    VC Tryz.prog 66 [T_api_Res.vv a, T_api_Res.vv b] [] (fun zx zH => zx = .bool r ∧ zH = []) := by
  unfold ref04_Fits at hm
  refine VC.run (c := _) (rs := [.tmp 4]) Tryz.func66 rfl rfl rfl ?_
  refine VW.seq ?_
  refine VW.region ?_
  refine VR.cons rfl rfl (VO.box rfl rfl fun b2 => ?_)
  refine VR.cons rfl rfl (VO.box rfl rfl fun b3 => ?_)
  refine VR.p rfl rfl (VP.assign rfl) ?_
  refine VR.nil ?_
  refine VW.seq ?_
  refine VW.region ?_
  refine VR.p rfl rfl (VP.loadP (i := 1) rfl rfl ld25 rfl) ?_
  obtain ⟨r, h3, hm⟩ := bnd hm
  refine VR.cons rfl rfl (VO.callK 0 rfl fn35 rfl (ref04_Right_ok a r h3) fun _ _ h13 => ?_)
  obtain ⟨rfl, rfl⟩ := h13
  refine VR.p rfl rfl (VP.move rfl) ?_
  obtain ⟨c, h7, hm⟩ := bnd hm
  refine VR.sc 3 10 (.bool c) (fun K' J => ?_) ?_
  · have hm := h7
    rcases ite_or hm with ⟨h4, hm⟩ | ⟨h4, hm⟩
    · refine VR.pG rfl rfl rfl rfl h4 (VP.loadP (i := 0) rfl rfl ld25 rfl) ?_
      obtain ⟨r2, h5, hm⟩ := bnd hm
      refine VR.consG rfl rfl rfl rfl h4 (VO.callK 0 rfl fn35 rfl (ref04_Right_ok b r2 h5) fun _ _ h6 => ?_)
      obtain ⟨rfl, rfl⟩ := h6
      refine VR.p rfl rfl (VP.pickB true rfl h4 rfl) ?_
      exact J [_, _] _ rfl (congrArg VV.bool (Option.some.inj hm))
    · have h4 := bf h4
      refine VR.skipG rfl rfl rfl rfl h4 ?_
      refine VR.skipG rfl rfl rfl rfl h4 ?_
      refine VR.p rfl rfl (VP.pickB false rfl h4 rfl) ?_
      exact J [_, _] _ rfl (congrArg VV.bool (Option.some.inj hm))
  · refine VR.p rfl rfl (VP.move rfl) ?_
    refine VR.sc 6 17 (.bool (c && (decide (a.Cpu ≤ b.Cpu)))) (fun K' J => ?_) ?_
    · rcases Bool.eq_false_or_eq_true c with h8 | h8
      · refine VR.pG rfl rfl rfl rfl h8 (VP.fieldP rfl fa25_0) ?_
        refine VR.pG rfl rfl rfl rfl h8 (VP.loadP (i := 1) rfl rfl ld3 rfl) ?_
        refine VR.pG rfl rfl rfl rfl h8 (VP.fieldP rfl fa25_0) ?_
        refine VR.pG rfl rfl rfl rfl h8 (VP.loadP (i := 0) rfl rfl ld3 rfl) ?_
        refine VR.pG rfl rfl rfl rfl h8 (VP.arith rfl rfl rfl) ?_
        refine VR.p rfl rfl (VP.pickB true rfl h8 rfl) ?_
        exact J [_, _, _, _, _] _ rfl (andT h8)
      · refine VR.skipG rfl rfl rfl rfl h8 ?_
        refine VR.skipG rfl rfl rfl rfl h8 ?_
        refine VR.skipG rfl rfl rfl rfl h8 ?_
        refine VR.skipG rfl rfl rfl rfl h8 ?_
        refine VR.skipG rfl rfl rfl rfl h8 ?_
        refine VR.p rfl rfl (VP.pickB false rfl h8 rfl) ?_
        exact J [_, _, _, _, _] _ rfl (andF h8)
    · refine VR.p rfl rfl (VP.move rfl) ?_
      refine VR.sc 6 24 (.bool ((c && (decide (a.Cpu ≤ b.Cpu))) && (decide (a.Mem ≤ b.Mem)))) (fun K' J => ?_) ?_
      · rcases Bool.eq_false_or_eq_true (c && (decide (a.Cpu ≤ b.Cpu))) with h9 | h9
        · refine VR.pG rfl rfl rfl rfl h9 (VP.fieldP rfl fa25_1) ?_
          refine VR.pG rfl rfl rfl rfl h9 (VP.loadP (i := 1) rfl rfl ld3 rfl) ?_
          refine VR.pG rfl rfl rfl rfl h9 (VP.fieldP rfl fa25_1) ?_
          refine VR.pG rfl rfl rfl rfl h9 (VP.loadP (i := 0) rfl rfl ld3 rfl) ?_
          refine VR.pG rfl rfl rfl rfl h9 (VP.arith rfl rfl rfl) ?_
          refine VR.p rfl rfl (VP.pickB true rfl h9 rfl) ?_
          exact J [_, _, _, _, _] _ rfl (andT h9)
        · refine VR.skipG rfl rfl rfl rfl h9 ?_
          refine VR.skipG rfl rfl rfl rfl h9 ?_
          refine VR.skipG rfl rfl rfl rfl h9 ?_
          refine VR.skipG rfl rfl rfl rfl h9 ?_
          refine VR.skipG rfl rfl rfl rfl h9 ?_
          refine VR.p rfl rfl (VP.pickB false rfl h9 rfl) ?_
          exact J [_, _, _, _, _] _ rfl (andF h9)
      · refine VR.p rfl rfl (VP.move rfl) ?_
        refine VR.sc 6 31 (.bool (((c && (decide (a.Cpu ≤ b.Cpu))) && (decide (a.Mem ≤ b.Mem))) && (decide (a.Disk ≤ b.Disk)))) (fun K' J => ?_) ?_
        · rcases Bool.eq_false_or_eq_true ((c && (decide (a.Cpu ≤ b.Cpu))) && (decide (a.Mem ≤ b.Mem))) with h10 | h10
          · refine VR.pG rfl rfl rfl rfl h10 (VP.fieldP rfl fa25_2) ?_
            refine VR.pG rfl rfl rfl rfl h10 (VP.loadP (i := 1) rfl rfl ld3 rfl) ?_
            refine VR.pG rfl rfl rfl rfl h10 (VP.fieldP rfl fa25_2) ?_
            refine VR.pG rfl rfl rfl rfl h10 (VP.loadP (i := 0) rfl rfl ld3 rfl) ?_
            refine VR.pG rfl rfl rfl rfl h10 (VP.arith rfl rfl rfl) ?_
            refine VR.p rfl rfl (VP.pickB true rfl h10 rfl) ?_
            exact J [_, _, _, _, _] _ rfl (andT h10)
          · refine VR.skipG rfl rfl rfl rfl h10 ?_
            refine VR.skipG rfl rfl rfl rfl h10 ?_
            refine VR.skipG rfl rfl rfl rfl h10 ?_
            refine VR.skipG rfl rfl rfl rfl h10 ?_
            refine VR.skipG rfl rfl rfl rfl h10 ?_
            refine VR.p rfl rfl (VP.pickB false rfl h10 rfl) ?_
            exact J [_, _, _, _, _] _ rfl (andF h10)
        · refine VR.p rfl rfl (VP.move rfl) ?_
          refine VR.sc 6 38 (.bool ((((c && (decide (a.Cpu ≤ b.Cpu))) && (decide (a.Mem ≤ b.Mem))) && (decide (a.Disk ≤ b.Disk))) && (decide (a.Pods ≤ b.Pods)))) (fun K' J => ?_) ?_
          · rcases Bool.eq_false_or_eq_true (((c && (decide (a.Cpu ≤ b.Cpu))) && (decide (a.Mem ≤ b.Mem))) && (decide (a.Disk ≤ b.Disk))) with h11 | h11
            · refine VR.pG rfl rfl rfl rfl h11 (VP.fieldP rfl fa25_3) ?_
              refine VR.pG rfl rfl rfl rfl h11 (VP.loadP (i := 1) rfl rfl ld3 rfl) ?_
              refine VR.pG rfl rfl rfl rfl h11 (VP.fieldP rfl fa25_3) ?_
              refine VR.pG rfl rfl rfl rfl h11 (VP.loadP (i := 0) rfl rfl ld3 rfl) ?_
              refine VR.pG rfl rfl rfl rfl h11 (VP.arith rfl rfl rfl) ?_
              refine VR.p rfl rfl (VP.pickB true rfl h11 rfl) ?_
              exact J [_, _, _, _, _] _ rfl (andT h11)
            · refine VR.skipG rfl rfl rfl rfl h11 ?_
              refine VR.skipG rfl rfl rfl rfl h11 ?_
              refine VR.skipG rfl rfl rfl rfl h11 ?_
              refine VR.skipG rfl rfl rfl rfl h11 ?_
              refine VR.skipG rfl rfl rfl rfl h11 ?_
              refine VR.p rfl rfl (VP.pickB false rfl h11 rfl) ?_
              exact J [_, _, _, _, _] _ rfl (andF h11)
          · refine VR.p rfl rfl (VP.move rfl) ?_
            refine VR.sc 6 45 (.bool (((((c && (decide (a.Cpu ≤ b.Cpu))) && (decide (a.Mem ≤ b.Mem))) && (decide (a.Disk ≤ b.Disk))) && (decide (a.Pods ≤ b.Pods))) && (decide (a.Dev ≤ b.Dev)))) (fun K' J => ?_) ?_
            · rcases Bool.eq_false_or_eq_true ((((c && (decide (a.Cpu ≤ b.Cpu))) && (decide (a.Mem ≤ b.Mem))) && (decide (a.Disk ≤ b.Disk))) && (decide (a.Pods ≤ b.Pods))) with h12 | h12
              · refine VR.pG rfl rfl rfl rfl h12 (VP.fieldP rfl fa25_4) ?_
                refine VR.pG rfl rfl rfl rfl h12 (VP.loadP (i := 1) rfl rfl ld3 rfl) ?_
                refine VR.pG rfl rfl rfl rfl h12 (VP.fieldP rfl fa25_4) ?_
                refine VR.pG rfl rfl rfl rfl h12 (VP.loadP (i := 0) rfl rfl ld3 rfl) ?_
                refine VR.pG rfl rfl rfl rfl h12 (VP.arith rfl rfl rfl) ?_
                refine VR.p rfl rfl (VP.pickB true rfl h12 rfl) ?_
                exact J [_, _, _, _, _] _ rfl (andT h12)
              · refine VR.skipG rfl rfl rfl rfl h12 ?_
                refine VR.skipG rfl rfl rfl rfl h12 ?_
                refine VR.skipG rfl rfl rfl rfl h12 ?_
                refine VR.skipG rfl rfl rfl rfl h12 ?_
                refine VR.skipG rfl rfl rfl rfl h12 ?_
                refine VR.p rfl rfl (VP.pickB false rfl h12 rfl) ?_
                exact J [_, _, _, _, _] _ rfl (andF h12)
            · refine VR.p rfl rfl (VP.assign rfl) ?_
              refine VR.nil ?_
              obtain rfl := Option.some.inj hm
              exact VW.ret ⟨.inl rfl, _, .cons (.tmp _ _ rfl) .nil, [], _, rfl, rfl, rfl⟩

/-! trireme/triremeref10.Room -/
def ref10_Room.l3 (p : T_api_Pod) (r4 : List T_api_Pod) (i2 : Int) (k2 : Int) : Nat → Int → Option (Out (Out (Out Int Unit) Unit) Unit)
  | 0, _ => none
  | n3 + 1, j4 =>
    if (decide (j4 < (p.Ports.length : Int))) = true then
      (V.gl r4 i2).bind fun x2 =>
      (V.gl x2.Ports k2).bind fun x3 =>
      (V.gl p.Ports j4).bind fun x4 =>
      if (x3 == x4) = true then
        some (Out.ret (Out.ret (Out.ret (3 : Int))))
      else
        ref10_Room.l3 p r4 i2 k2 n3 (IntKind.i64.wrap (j4 + (1 : Int)))
    else
      some (Out.go ())
def ref10_Room.l2 (p : T_api_Pod) (r4 : List T_api_Pod) (i2 : Int) : Nat → Int → Option (Out (Out Int Unit) Unit)
  | 0, _ => none
  | n2 + 1, k2 =>
    (V.gl r4 i2).bind fun x =>
    if (decide (k2 < (x.Ports.length : Int))) = true then
      (ref10_Room.l3 p r4 i2 k2 FU (0 : Int)).bind fun o3 =>
      o3.on fun j5 =>
      ref10_Room.l2 p r4 i2 n2 (IntKind.i64.wrap (k2 + (1 : Int)))
    else
      some (Out.go ())
def ref10_Room.l1 (p : T_api_Pod) (r4 : List T_api_Pod) : Nat → Int → Option (Out Int Unit)
  | 0, _ => none
  | n + 1, i2 =>
    if (decide (i2 < (r4.length : Int))) = true then
      (ref10_Room.l2 p r4 i2 FU (0 : Int)).bind fun o2 =>
      o2.on fun j2 =>
      ref10_Room.l1 p r4 n (IntKind.i64.wrap (i2 + (1 : Int)))
    else
      some (Out.go ())
def ref10_Room (m : T_api_Machine) (bs : List T_api_Bound) (p : T_api_Pod) : Option Int :=
  (ref10_Others bs p.Name).bind fun r =>
  (ref09_Left m r).bind fun r2 =>
  (ref04_Fits p.Need r2).bind fun r3 =>
  if (!r3) = true then
    some (2 : Int)
  else
    (ref09_On r m.Name).bind fun r4 =>
    (ref10_Room.l1 p r4 FU (0 : Int)).bind fun o =>
    o.on fun j =>
    some (0 : Int)
theorem ref10_Room_ok (m : T_api_Machine) (bs : List T_api_Bound) (p : T_api_Pod) (r : Int) (hm : ref10_Room m bs p = some r) :
    VC Tryz.prog 46 [T_api_Machine.vv m, .list 56 (List.map T_api_Bound.vv bs), T_api_Pod.vv p] [] (fun zx zH => zx = .int .i64 r ∧ zH = []) := by
  unfold ref10_Room at hm
  refine VC.run (c := _) (rs := [.tmp 6]) Tryz.func46 rfl rfl rfl ?_
  refine VW.seq ?_
  refine VW.region ?_
  refine VR.cons rfl rfl (VO.box rfl rfl fun b => ?_)
  refine VR.cons rfl rfl (VO.box rfl rfl fun b2 => ?_)
  refine VR.p rfl rfl (VP.assign rfl) ?_
  refine VR.nil ?_
  refine VW.seq ?_
  refine VW.region ?_
  refine VR.p rfl rfl (VP.move rfl) ?_
  refine VR.p rfl rfl (VP.fieldP rfl fa31_0) ?_
  refine VR.p rfl rfl (VP.loadP (i := 0) rfl rfl ld9 rfl) ?_
  obtain ⟨r, h3, hm⟩ := bnd hm
  refine VR.cons rfl rfl (VO.callK 0 rfl fn65 rfl (ref10_Others_ok bs p.Name r h3) fun _ _ h27 => ?_)
  obtain ⟨ob, cap, rfl, rfl⟩ := h27
  refine VR.shift (Shift.freezeE 0 [(15, .list 56 (List.map T_api_Bound.vv r))] rfl ⟨⟨_, rfl, .here _ rfl⟩, trivial⟩ (FzH.refl _)) ?_
  refine VR.p rfl rfl (VP.assign rfl) ?_
  refine VR.nil ?_
  refine VW.seq ?_
  refine VW.seq ?_
  refine VW.drawK 0 mixed ?_
  refine VA.p 0 rfl rfl rfl (by kernel_rfl) (VP.fieldP rfl fa31_1) ?_
  refine VA.p 1 rfl rfl rfl (by kernel_rfl) (VP.loadP (i := 0) rfl rfl ld25 rfl) ?_
  refine VA.p 2 rfl rfl rfl (by kernel_rfl) (VP.loadP (i := 1) rfl rfl ld37 rfl) ?_
  refine VA.p 3 rfl rfl rfl (by kernel_rfl) (VP.move rfl) ?_
  refine VA.all [4] (by kernel_rfl) ⟨?_, trivial⟩
  obtain ⟨r2, h5, hm⟩ := bnd hm
  refine VB.o rfl rfl rfl (VO.callK 0 rfl fn67 rfl (ref09_Left_ok m r r2 h5) fun _ _ h26 => ?_)
  obtain ⟨rfl, rfl⟩ := h26
  refine VA.all [5] (by kernel_rfl) ⟨?_, trivial⟩
  obtain ⟨r3, h6, hm⟩ := bnd hm
  refine VB.o rfl rfl rfl (VO.callK 0 rfl fn66 rfl (ref04_Fits_ok p.Need r2 r3 h6) fun _ _ h25 => ?_)
  obtain ⟨rfl, rfl⟩ := h25
  refine VA.p 6 rfl rfl rfl (by kernel_rfl) (VP.not rfl) ?_
  refine VA.done (by kernel_rfl) ?_
  rcases ite_or hm with ⟨h7, hm⟩ | ⟨h7, hm⟩
  · refine VW.condT rfl h7 ?_
    refine VW.seq ?_
    refine VW.region ?_
    refine VR.p rfl rfl (VP.assign rfl) ?_
    refine VR.nil ?_
    obtain rfl := Option.some.inj hm
    exact VW.ret ⟨.inl rfl, _, .cons (.tmp _ _ rfl) .nil, [], _, rfl, rfl, rfl⟩
  · have h7 := bf h7
    refine VW.condF rfl h7 ?_
    refine VW.skip ?_
    refine VW.seq ?_
    refine VW.region ?_
    refine VR.p rfl rfl (VP.move rfl) ?_
    refine VR.p rfl rfl (VP.fieldP rfl fa37_0) ?_
    refine VR.p rfl rfl (VP.loadP (i := 1) rfl rfl ld9 rfl) ?_
    obtain ⟨r4, h8, hm⟩ := bnd hm
    refine VR.cons rfl rfl (VO.callK 0 rfl fn68 rfl (ref09_On_ok r m.Name r4 h8) fun _ _ h24 => ?_)
    obtain ⟨ob2, cap2, rfl, rfl⟩ := h24
    refine VR.shift (Shift.freezeE 0 [(26, .list 31 (List.map T_api_Pod.vv r4))] rfl ⟨⟨_, rfl, .here _ rfl⟩, trivial⟩ (FzH.refl _)) ?_
    refine VR.p rfl rfl (VP.assign rfl) ?_
    refine VR.nil ?_
    refine VW.seq ?_
    refine VW.seq ?_
    refine VW.region ?_
    refine VR.p rfl rfl (VP.assign rfl) ?_
    refine VR.nil ?_
    obtain ⟨o, h10, h11⟩ := bnd hm
    refine VW.joinE (fun (q : Unit) => o = Out.go q) (fun (j : Unit) (gg : Unit) => []) (fun (j : Unit) (gg : Unit) => []) ?_ ?_
    · have hm := h10
      refine VW.block (VW.loop FU ?_)
      refine VL.fuelS (R := _) (fun zn (zs : Int) => ref10_Room.l1 p r4 zn zs) (fun (zs : Int) (zg : Unit) => [(5, .ptr b2 0), (8, .list 31 (List.map T_api_Pod.vv r4)), (9, .int .i64 zs)]) (fun (zs : Int) (zg : Unit) => [.box b2 31 (T_api_Pod.cells p)]) (0 : Int) () (fun zs => rfl) (Shift.pick [0] rfl ⟨rfl, rfl, rfl, trivial⟩) h10 ?_
      rintro n i2 _ hm
      rw [ref10_Room.l1] at hm
      refine VW.seq ?_
      refine VW.seq ?_
      refine VW.region ?_
      refine VR.p rfl rfl (VP.move rfl) ?_
      refine VR.p rfl rfl (VP.move rfl) ?_
      refine VR.p rfl rfl (VP.lenT T_api_Pod.vv rfl Tryz.underlying89) ?_
      refine VR.p rfl rfl (VP.arith rfl rfl rfl) ?_
      refine VR.nil ?_
      rcases ite_or hm with ⟨h12, hm⟩ | ⟨h12, hm⟩
      · refine VW.condT rfl h12 ?_
        refine VW.skip ?_
        refine VW.seq ?_
        refine VW.block ?_
        refine VW.seq ?_
        refine VW.region ?_
        refine VR.p rfl rfl (VP.assign rfl) ?_
        refine VR.nil ?_
        obtain ⟨o2, h13, h14⟩ := bnd hm
        refine VW.joinE (fun (q : Unit) => o2 = Out.go q) (fun (j2 : Unit) (gg : Unit) => [(5, .ptr b2 0), (8, .list 31 (List.map T_api_Pod.vv r4)), (9, .int .i64 i2)]) (fun (j2 : Unit) (gg : Unit) => [.box b2 31 (T_api_Pod.cells p)]) ?_ ?_
        · have hm := h13
          refine VW.block (VW.loop FU ?_)
          refine VL.fuelS (R := _) (fun zn (zs : Int) => ref10_Room.l2 p r4 i2 zn zs) (fun (zs : Int) (zg : Unit) => [(5, .ptr b2 0), (8, .list 31 (List.map T_api_Pod.vv r4)), (9, .int .i64 i2), (10, .int .i64 zs)]) (fun (zs : Int) (zg : Unit) => [.box b2 31 (T_api_Pod.cells p)]) (0 : Int) () (fun zs => rfl) (Shift.pick [0] rfl ⟨rfl, rfl, rfl, rfl, trivial⟩) h13 ?_
          rintro n2 k2 _ hm
          rw [ref10_Room.l2] at hm
          refine VW.seq ?_
          refine VW.seq ?_
          refine VW.region ?_
          refine VR.p rfl rfl (VP.move rfl) ?_
          refine VR.p rfl rfl (VP.move rfl) ?_
          refine VR.p rfl rfl (VP.move rfl) ?_
          obtain ⟨x, h15, hm⟩ := bnd hm
          refine VR.p rfl rfl (VP.glE T_api_Pod.vv rfl rfl el89 h15) ?_
          refine VR.p rfl rfl (VP.fieldE rfl fa31_6) ?_
          refine VR.p rfl rfl (VP.loadE rfl ld29 rfl) ?_
          refine VR.p rfl rfl (VP.lenT (VV.int .i64) rfl Tryz.underlying29) ?_
          refine VR.p rfl rfl (VP.arith rfl rfl rfl) ?_
          refine VR.nil ?_
          rcases ite_or hm with ⟨h16, hm⟩ | ⟨h16, hm⟩
          · refine VW.condT rfl h16 ?_
            refine VW.skip ?_
            refine VW.seq ?_
            refine VW.block ?_
            refine VW.seq ?_
            refine VW.region ?_
            refine VR.p rfl rfl (VP.assign rfl) ?_
            refine VR.nil ?_
            obtain ⟨o3, h17, h18⟩ := bnd hm
            refine VW.joinE (fun (q : Unit) => o3 = Out.go q) (fun (j5 : Unit) (gg : Unit) => [(5, .ptr b2 0), (8, .list 31 (List.map T_api_Pod.vv r4)), (9, .int .i64 i2), (10, .int .i64 k2)]) (fun (j5 : Unit) (gg : Unit) => [.box b2 31 (T_api_Pod.cells p)]) ?_ ?_
            · have hm := h17
              refine VW.block (VW.loop FU ?_)
              refine VL.fuelS (R := _) (fun zn (zs : Int) => ref10_Room.l3 p r4 i2 k2 zn zs) (fun (zs : Int) (zg : Unit) => [(5, .ptr b2 0), (8, .list 31 (List.map T_api_Pod.vv r4)), (9, .int .i64 i2), (10, .int .i64 k2), (11, .int .i64 zs)]) (fun (zs : Int) (zg : Unit) => [.box b2 31 (T_api_Pod.cells p)]) (0 : Int) () (fun zs => rfl) (Shift.pick [0] rfl ⟨rfl, rfl, rfl, rfl, rfl, trivial⟩) h17 ?_
              rintro n3 j4 _ hm
              rw [ref10_Room.l3] at hm
              refine VW.seq ?_
              refine VW.seq ?_
              refine VW.region ?_
              refine VR.p rfl rfl (VP.move rfl) ?_
              refine VR.p rfl rfl (VP.fieldP rfl fa31_6) ?_
              refine VR.p rfl rfl (VP.loadP (i := 0) rfl rfl ld29 rfl) ?_
              refine VR.p rfl rfl (VP.lenT (VV.int .i64) rfl Tryz.underlying29) ?_
              refine VR.p rfl rfl (VP.arith rfl rfl rfl) ?_
              refine VR.nil ?_
              rcases ite_or hm with ⟨h19, hm⟩ | ⟨h19, hm⟩
              · refine VW.condT rfl h19 ?_
                refine VW.skip ?_
                refine VW.seq ?_
                refine VW.block ?_
                refine VW.seq ?_
                refine VW.drawK 0 mixed ?_
                refine VA.p 0 rfl rfl rfl (by kernel_rfl) (VP.move rfl) ?_
                refine VA.p 1 rfl rfl rfl (by kernel_rfl) (VP.move rfl) ?_
                obtain ⟨x2, h20, hm⟩ := bnd hm
                refine VA.p 2 rfl rfl rfl (by kernel_rfl) (VP.glE T_api_Pod.vv rfl rfl el89 h20) ?_
                refine VA.p 3 rfl rfl rfl (by kernel_rfl) (VP.fieldE rfl fa31_6) ?_
                refine VA.p 4 rfl rfl rfl (by kernel_rfl) (VP.loadE rfl ld29 rfl) ?_
                refine VA.p 5 rfl rfl rfl (by kernel_rfl) (VP.move rfl) ?_
                obtain ⟨x3, h21, hm⟩ := bnd hm
                refine VA.p 6 rfl rfl rfl (by kernel_rfl) (VP.glE (VV.int .i64) rfl rfl el29 h21) ?_
                refine VA.p 7 rfl rfl rfl (by kernel_rfl) (VP.loadE rfl ld3 rfl) ?_
                refine VA.p 8 rfl rfl rfl (by kernel_rfl) (VP.fieldP rfl fa31_6) ?_
                refine VA.p 9 rfl rfl rfl (by kernel_rfl) (VP.loadP (i := 0) rfl rfl ld29 rfl) ?_
                refine VA.p 10 rfl rfl rfl (by kernel_rfl) (VP.move rfl) ?_
                obtain ⟨x4, h22, hm⟩ := bnd hm
                refine VA.p 11 rfl rfl rfl (by kernel_rfl) (VP.glE (VV.int .i64) rfl rfl el29 h22) ?_
                refine VA.p 12 rfl rfl rfl (by kernel_rfl) (VP.loadE rfl ld3 rfl) ?_
                refine VA.p 13 rfl rfl rfl (by kernel_rfl) (VP.arith rfl rfl rfl) ?_
                refine VA.done (by kernel_rfl) ?_
                rcases ite_or hm with ⟨h23, hm⟩ | ⟨h23, hm⟩
                · refine VW.condT rfl h23 ?_
                  refine VW.seq ?_
                  refine VW.region ?_
                  refine VR.p rfl rfl (VP.assign rfl) ?_
                  refine VR.nil ?_
                  obtain rfl := Option.some.inj hm
                  have hm := Out.ret_on h18
                  obtain rfl := Option.some.inj hm
                  have hm := Out.ret_on h14
                  obtain rfl := Option.some.inj hm
                  have hm := Out.ret_on h11
                  obtain rfl := Option.some.inj hm
                  exact VW.ret ⟨.inl rfl, _, .cons (.tmp _ _ rfl) .nil, [], _, rfl, rfl, rfl⟩
                · have h23 := bf h23
                  refine VW.condF rfl h23 ?_
                  refine VW.skip ?_
                  refine VW.region ?_
                  refine VR.p rfl rfl (VP.move rfl) ?_
                  refine VR.p rfl rfl (VP.arith rfl rfl rfl) ?_
                  refine VR.p rfl rfl (VP.assign rfl) ?_
                  refine VR.nil ?_
                  exact ⟨(IntKind.i64.wrap (j4 + (1 : Int))), (), hm, (Shift.pick [0] rfl ⟨rfl, rfl, rfl, rfl, rfl, trivial⟩)⟩
              · have h19 := bf h19
                refine VW.condF rfl h19 ?_
                refine VW.exit ?_
                exact ⟨(), (), (Option.some.inj hm).symm, (Shift.pick [0] rfl ⟨rfl, rfl, rfl, rfl, trivial⟩)⟩
            · rintro j5 _ rfl
              have hm := Out.go_on h18
              refine VW.region ?_
              refine VR.p rfl rfl (VP.move rfl) ?_
              refine VR.p rfl rfl (VP.arith rfl rfl rfl) ?_
              refine VR.p rfl rfl (VP.assign rfl) ?_
              refine VR.nil ?_
              exact ⟨(IntKind.i64.wrap (k2 + (1 : Int))), (), hm, (Shift.pick [0] rfl ⟨rfl, rfl, rfl, rfl, trivial⟩)⟩
          · have h16 := bf h16
            refine VW.condF rfl h16 ?_
            refine VW.exit ?_
            exact ⟨(), (), (Option.some.inj hm).symm, (Shift.pick [0] rfl ⟨rfl, rfl, rfl, trivial⟩)⟩
        · rintro j2 _ rfl
          have hm := Out.go_on h14
          refine VW.region ?_
          refine VR.p rfl rfl (VP.move rfl) ?_
          refine VR.p rfl rfl (VP.arith rfl rfl rfl) ?_
          refine VR.p rfl rfl (VP.assign rfl) ?_
          refine VR.nil ?_
          exact ⟨(IntKind.i64.wrap (i2 + (1 : Int))), (), hm, (Shift.pick [0] rfl ⟨rfl, rfl, rfl, trivial⟩)⟩
      · have h12 := bf h12
        refine VW.condF rfl h12 ?_
        refine VW.exit ?_
        exact ⟨(), (), (Option.some.inj hm).symm, (Shift.pick [] rfl trivial)⟩
    · rintro j _ rfl
      have hm := Out.go_on h11
      refine VW.seq ?_
      refine VW.region ?_
      refine VR.p rfl rfl (VP.assign rfl) ?_
      refine VR.nil ?_
      obtain rfl := Option.some.inj hm
      exact VW.ret ⟨.inl rfl, _, .cons (.tmp _ _ rfl) .nil, [], _, rfl, rfl, rfl⟩

/-! trireme/triremeref10.Suits -/
def ref10_Suits (m : T_api_Machine) (bs : List T_api_Bound) (p : T_api_Pod) : Option Int :=
  (ref10_Place m p).bind fun r =>
  if (r != (0 : Int)) = true then
    some r
  else
    (ref10_Room m bs p).bind fun r2 =>
    some r2
theorem ref10_Suits_ok (m : T_api_Machine) (bs : List T_api_Bound) (p : T_api_Pod) (r : Int) (hm : ref10_Suits m bs p = some r) :
    VC Tryz.prog 23 [T_api_Machine.vv m, .list 56 (List.map T_api_Bound.vv bs), T_api_Pod.vv p] [] (fun zx zH => zx = .int .i64 r ∧ zH = []) := by
  unfold ref10_Suits at hm
  refine VC.run (c := _) (rs := [.tmp 6]) Tryz.func23 rfl rfl rfl ?_
  refine VW.seq ?_
  refine VW.region ?_
  refine VR.cons rfl rfl (VO.box rfl rfl fun b => ?_)
  refine VR.cons rfl rfl (VO.box rfl rfl fun b2 => ?_)
  refine VR.p rfl rfl (VP.assign rfl) ?_
  refine VR.nil ?_
  refine VW.seq ?_
  refine VW.region ?_
  refine VR.p rfl rfl (VP.loadP (i := 1) rfl rfl ld37 rfl) ?_
  refine VR.p rfl rfl (VP.loadP (i := 0) rfl rfl ld31 rfl) ?_
  obtain ⟨r, h3, hm⟩ := bnd hm
  refine VR.cons rfl rfl (VO.callK 0 rfl fn45 rfl (ref10_Place_ok m p r h3) fun _ _ h7 => ?_)
  obtain ⟨rfl, rfl⟩ := h7
  refine VR.p rfl rfl (VP.assign rfl) ?_
  refine VR.nil ?_
  refine VW.seq ?_
  refine VW.seq ?_
  refine VW.region ?_
  refine VR.p rfl rfl (VP.move rfl) ?_
  refine VR.p rfl rfl (VP.arith rfl rfl rfl) ?_
  refine VR.nil ?_
  rcases ite_or hm with ⟨h4, hm⟩ | ⟨h4, hm⟩
  · refine VW.condT rfl h4 ?_
    refine VW.seq ?_
    refine VW.region ?_
    refine VR.p rfl rfl (VP.move rfl) ?_
    refine VR.p rfl rfl (VP.assign rfl) ?_
    refine VR.nil ?_
    obtain rfl := Option.some.inj hm
    exact VW.ret ⟨.inl rfl, _, .cons (.tmp _ _ rfl) .nil, [], _, rfl, rfl, rfl⟩
  · have h4 := bf h4
    refine VW.condF rfl h4 ?_
    refine VW.skip ?_
    refine VW.seq ?_
    refine VW.region ?_
    refine VR.p rfl rfl (VP.loadP (i := 1) rfl rfl ld37 rfl) ?_
    refine VR.p rfl rfl (VP.move rfl) ?_
    refine VR.p rfl rfl (VP.loadP (i := 0) rfl rfl ld31 rfl) ?_
    obtain ⟨r2, h5, hm⟩ := bnd hm
    refine VR.cons rfl rfl (VO.callK 0 rfl fn46 rfl (ref10_Room_ok m bs p r2 h5) fun _ _ h6 => ?_)
    obtain ⟨rfl, rfl⟩ := h6
    refine VR.p rfl rfl (VP.assign rfl) ?_
    refine VR.nil ?_
    obtain rfl := Option.some.inj hm
    exact VW.ret ⟨.inl rfl, _, .cons (.tmp _ _ rfl) .nil, [], _, rfl, rfl, rfl⟩

/-! trireme/triremeref11.zone -/
def ref11_zone (ms : List T_api_Machine) (name : ByteArray) : Option (ByteArray × Bool) :=
  (ref09_Find ms name).bind fun r =>
  if (decide (r < (0 : Int))) = true then
    some ((⟨#[]⟩ : ByteArray), false)
  else
    (V.gl ms r).bind fun x =>
    (ref05_Get x.Labels (⟨#[122, 111, 110, 101]⟩ : ByteArray)).bind fun r2 =>
    some (r2.1, r2.2)
theorem ref11_zone_ok (ms : List T_api_Machine) (name : ByteArray) (r : ByteArray × Bool) (hm : ref11_zone ms name = some r) :
    VC Tryz.prog 70 [.list 37 (List.map T_api_Machine.vv ms), .str name] [] (fun zx zH => zx = .tup [.str r.1, .bool r.2] ∧ zH = []) := by
  unfold ref11_zone at hm
  refine VC.run (c := _) (rs := [.tmp 4, .tmp 5]) Tryz.func70 rfl rfl rfl ?_
  refine VW.seq ?_
  refine VW.region ?_
  refine VR.p rfl rfl (VP.assign rfl) ?_
  refine VR.p rfl rfl (VP.assign rfl) ?_
  refine VR.nil ?_
  refine VW.seq ?_
  refine VW.region ?_
  refine VR.p rfl rfl (VP.move rfl) ?_
  refine VR.p rfl rfl (VP.move rfl) ?_
  obtain ⟨r, h1, hm⟩ := bnd hm
  refine VR.cons rfl rfl (VO.callK 0 rfl fn22 rfl (ref09_Find_ok ms name r h1) fun _ _ h6 => ?_)
  obtain ⟨rfl, rfl⟩ := h6
  refine VR.p rfl rfl (VP.assign rfl) ?_
  refine VR.nil ?_
  refine VW.seq ?_
  refine VW.seq ?_
  refine VW.region ?_
  refine VR.p rfl rfl (VP.move rfl) ?_
  refine VR.p rfl rfl (VP.arith rfl rfl rfl) ?_
  refine VR.nil ?_
  rcases ite_or hm with ⟨h2, hm⟩ | ⟨h2, hm⟩
  · refine VW.condT rfl h2 ?_
    refine VW.seq ?_
    refine VW.region ?_
    refine VR.p rfl rfl (VP.assign rfl) ?_
    refine VR.p rfl rfl (VP.assign rfl) ?_
    refine VR.nil ?_
    obtain rfl := Option.some.inj hm
    exact VW.ret ⟨.inl rfl, _, .cons (.tmp _ _ rfl) (.cons (.tmp _ _ rfl) .nil), [], _, rfl, rfl, rfl⟩
  · have h2 := bf h2
    refine VW.condF rfl h2 ?_
    refine VW.skip ?_
    refine VW.seq ?_
    refine VW.region ?_
    refine VR.p rfl rfl (VP.move rfl) ?_
    refine VR.p rfl rfl (VP.move rfl) ?_
    obtain ⟨x, h3, hm⟩ := bnd hm
    refine VR.p rfl rfl (VP.glE T_api_Machine.vv rfl rfl el22 h3) ?_
    refine VR.p rfl rfl (VP.fieldE rfl fa37_3) ?_
    refine VR.p rfl rfl (VP.loadE rfl ld26 rfl) ?_
    obtain ⟨r2, h4, hm⟩ := bnd hm
    refine VR.cons rfl rfl (VO.callK 0 rfl fn86 rfl (ref05_Get_ok x.Labels (⟨#[122, 111, 110, 101]⟩ : ByteArray) r2 h4) fun _ _ h5 => ?_)
    obtain ⟨rfl, rfl⟩ := h5
    refine VR.p rfl rfl (VP.extract rfl rfl) ?_
    refine VR.p rfl rfl (VP.extract rfl rfl) ?_
    refine VR.p rfl rfl (VP.assign rfl) ?_
    refine VR.p rfl rfl (VP.assign rfl) ?_
    refine VR.nil ?_
    obtain rfl := Option.some.inj hm
    exact VW.ret ⟨.inl rfl, _, .cons (.tmp _ _ rfl) (.cons (.tmp _ _ rfl) .nil), [], _, rfl, rfl, rfl⟩

/-! trireme/triremeref11.together -/
def ref11_together (ms : List T_api_Machine) (a : ByteArray) (b : ByteArray) (wide : Bool) : Option Bool :=
  if (V.seq a b) = true then
    some true
  else
    (ref11_zone ms a).bind fun r =>
    (ref11_zone ms b).bind fun r2 =>
    some (((wide && r.2) && r2.2) && (V.seq r.1 r2.1))
theorem ref11_together_ok (ms : List T_api_Machine) (a : ByteArray) (b : ByteArray) (wide : Bool) (r : Bool) (hm : ref11_together ms a b wide = some r) :
    VC Tryz.prog 69 [.list 37 (List.map T_api_Machine.vv ms), .str a, .str b, .bool wide] [] (fun zx zH => zx = .bool r ∧ zH = []) := by
  unfold ref11_together at hm
  refine VC.run (c := _) (rs := [.tmp 8]) Tryz.func69 rfl rfl rfl ?_
  refine VW.seq ?_
  refine VW.region ?_
  refine VR.p rfl rfl (VP.assign rfl) ?_
  refine VR.nil ?_
  refine VW.seq ?_
  refine VW.seq ?_
  refine VW.region ?_
  refine VR.p rfl rfl (VP.move rfl) ?_
  refine VR.p rfl rfl (VP.move rfl) ?_
  refine VR.p rfl rfl (VP.strop rfl rfl rfl) ?_
  refine VR.nil ?_
  rcases ite_or hm with ⟨h1, hm⟩ | ⟨h1, hm⟩
  · refine VW.condT rfl h1 ?_
    refine VW.seq ?_
    refine VW.region ?_
    refine VR.p rfl rfl (VP.assign rfl) ?_
    refine VR.nil ?_
    obtain rfl := Option.some.inj hm
    exact VW.ret ⟨.inl rfl, _, .cons (.tmp _ _ rfl) .nil, [], _, rfl, rfl, rfl⟩
  · have h1 := bf h1
    refine VW.condF rfl h1 ?_
    refine VW.skip ?_
    refine VW.seq ?_
    refine VW.region ?_
    refine VR.p rfl rfl (VP.move rfl) ?_
    refine VR.p rfl rfl (VP.move rfl) ?_
    obtain ⟨r, h2, hm⟩ := bnd hm
    refine VR.cons rfl rfl (VO.callK 0 rfl fn70 rfl (ref11_zone_ok ms a r h2) fun _ _ h8 => ?_)
    obtain ⟨rfl, rfl⟩ := h8
    refine VR.p rfl rfl (VP.move rfl) ?_
    refine VR.p rfl rfl (VP.extract rfl rfl) ?_
    refine VR.p rfl rfl (VP.extract rfl rfl) ?_
    refine VR.p rfl rfl (VP.assign rfl) ?_
    refine VR.p rfl rfl (VP.assign rfl) ?_
    refine VR.nil ?_
    refine VW.seq ?_
    refine VW.region ?_
    refine VR.p rfl rfl (VP.move rfl) ?_
    refine VR.p rfl rfl (VP.move rfl) ?_
    obtain ⟨r2, h3, hm⟩ := bnd hm
    refine VR.cons rfl rfl (VO.callK 0 rfl fn70 rfl (ref11_zone_ok ms b r2 h3) fun _ _ h7 => ?_)
    obtain ⟨rfl, rfl⟩ := h7
    refine VR.p rfl rfl (VP.move rfl) ?_
    refine VR.p rfl rfl (VP.extract rfl rfl) ?_
    refine VR.p rfl rfl (VP.extract rfl rfl) ?_
    refine VR.p rfl rfl (VP.assign rfl) ?_
    refine VR.p rfl rfl (VP.assign rfl) ?_
    refine VR.nil ?_
    refine VW.seq ?_
    refine VW.region ?_
    refine VR.p rfl rfl (VP.move rfl) ?_
    refine VR.p rfl rfl (VP.move rfl) ?_
    refine VR.sc 2 31 (.bool (wide && r.2)) (fun K' J => ?_) ?_
    · rcases Bool.eq_false_or_eq_true wide with h4 | h4
      · refine VR.pG rfl rfl rfl rfl h4 (VP.move rfl) ?_
        refine VR.p rfl rfl (VP.pickB true rfl h4 rfl) ?_
        exact J [_] _ rfl (andT h4)
      · refine VR.skipG rfl rfl rfl rfl h4 ?_
        refine VR.p rfl rfl (VP.pickB false rfl h4 rfl) ?_
        exact J [_] _ rfl (andF h4)
    · refine VR.p rfl rfl (VP.move rfl) ?_
      refine VR.sc 2 34 (.bool ((wide && r.2) && r2.2)) (fun K' J => ?_) ?_
      · rcases Bool.eq_false_or_eq_true (wide && r.2) with h5 | h5
        · refine VR.pG rfl rfl rfl rfl h5 (VP.move rfl) ?_
          refine VR.p rfl rfl (VP.pickB true rfl h5 rfl) ?_
          exact J [_] _ rfl (andT h5)
        · refine VR.skipG rfl rfl rfl rfl h5 ?_
          refine VR.p rfl rfl (VP.pickB false rfl h5 rfl) ?_
          exact J [_] _ rfl (andF h5)
      · refine VR.p rfl rfl (VP.move rfl) ?_
        refine VR.sc 4 39 (.bool (((wide && r.2) && r2.2) && (V.seq r.1 r2.1))) (fun K' J => ?_) ?_
        · rcases Bool.eq_false_or_eq_true ((wide && r.2) && r2.2) with h6 | h6
          · refine VR.pG rfl rfl rfl rfl h6 (VP.move rfl) ?_
            refine VR.pG rfl rfl rfl rfl h6 (VP.move rfl) ?_
            refine VR.pG rfl rfl rfl rfl h6 (VP.strop rfl rfl rfl) ?_
            refine VR.p rfl rfl (VP.pickB true rfl h6 rfl) ?_
            exact J [_, _, _] _ rfl (andT h6)
          · refine VR.skipG rfl rfl rfl rfl h6 ?_
            refine VR.skipG rfl rfl rfl rfl h6 ?_
            refine VR.skipG rfl rfl rfl rfl h6 ?_
            refine VR.p rfl rfl (VP.pickB false rfl h6 rfl) ?_
            exact J [_, _, _] _ rfl (andF h6)
        · refine VR.p rfl rfl (VP.assign rfl) ?_
          refine VR.nil ?_
          obtain rfl := Option.some.inj hm
          exact VW.ret ⟨.inl rfl, _, .cons (.tmp _ _ rfl) .nil, [], _, rfl, rfl, rfl⟩

/-! trireme/triremeref11.Near -/
def ref11_Near.l1 (ms : List T_api_Machine) (bs : List T_api_Bound) (p : T_api_Pod) (on_ : ByteArray) : Nat → Int → Option (Out Bool Unit)
  | 0, _ => none
  | n + 1, i2 =>
    if (decide (i2 < (bs.length : Int))) = true then
      (V.gl bs i2).bind fun x =>
      (if (V.seq x.Pod.Name p.Name) = true then some true else (V.gl bs i2).bind fun x2 =>
      some (V.seq x2.On (⟨#[]⟩ : ByteArray))).bind fun c =>
      if c = true then
        ref11_Near.l1 ms bs p on_ n (IntKind.i64.wrap (i2 + (1 : Int)))
      else
        (if (decide ((p.Apart.length : Int) > (0 : Int))) = true then (ref05_Has x.Pod.Labels p.Apart).bind fun r2 =>
        some r2 else some false).bind fun c2 =>
        (if c2 = true then (V.gl bs i2).bind fun x3 =>
        (ref11_together ms on_ x3.On p.Wide).bind fun r3 =>
        some r3 else some false).bind fun c3 =>
        if c3 = true then
          some (Out.ret true)
        else
          (if (decide ((x.Pod.Apart.length : Int) > (0 : Int))) = true then (ref05_Has p.Labels x.Pod.Apart).bind fun r4 =>
          some r4 else some false).bind fun c4 =>
          (if c4 = true then (V.gl bs i2).bind fun x4 =>
          (ref11_together ms on_ x4.On x.Pod.Wide).bind fun r5 =>
          some r5 else some false).bind fun c5 =>
          if c5 = true then
            some (Out.ret true)
          else
            ref11_Near.l1 ms bs p on_ n (IntKind.i64.wrap (i2 + (1 : Int)))
    else
      some (Out.go ())
def ref11_Near (ms : List T_api_Machine) (bs : List T_api_Bound) (p : T_api_Pod) (on_ : ByteArray) : Option Bool :=
  (ref09_Find ms on_).bind fun r =>
  if (decide (r < (0 : Int))) = true then
    some false
  else
    (ref11_Near.l1 ms bs p on_ FU (0 : Int)).bind fun o =>
    o.on fun j =>
    some false
theorem ref11_Near_ok (ms : List T_api_Machine) (bs : List T_api_Bound) (p : T_api_Pod) (on_ : ByteArray) (r : Bool) (hm : ref11_Near ms bs p on_ = some r) :
    VC Tryz.prog 47 [.list 37 (List.map T_api_Machine.vv ms), .list 56 (List.map T_api_Bound.vv bs), T_api_Pod.vv p, .str on_] [] (fun zx zH => zx = .bool r ∧ zH = []) := by
  unfold ref11_Near at hm
  refine VC.run (c := _) (rs := [.tmp 8]) Tryz.func47 rfl rfl rfl ?_
  refine VW.seq ?_
  refine VW.region ?_
  refine VR.cons rfl rfl (VO.box rfl rfl fun b => ?_)
  refine VR.p rfl rfl (VP.assign rfl) ?_
  refine VR.nil ?_
  refine VW.seq ?_
  refine VW.seq ?_
  refine VW.region ?_
  refine VR.p rfl rfl (VP.move rfl) ?_
  refine VR.p rfl rfl (VP.move rfl) ?_
  obtain ⟨r, h2, hm⟩ := bnd hm
  refine VR.cons rfl rfl (VO.callK 0 rfl fn22 rfl (ref09_Find_ok ms on_ r h2) fun _ _ h33 => ?_)
  obtain ⟨rfl, rfl⟩ := h33
  refine VR.p rfl rfl (VP.arith rfl rfl rfl) ?_
  refine VR.nil ?_
  rcases ite_or hm with ⟨h3, hm⟩ | ⟨h3, hm⟩
  · refine VW.condT rfl h3 ?_
    refine VW.seq ?_
    refine VW.region ?_
    refine VR.p rfl rfl (VP.assign rfl) ?_
    refine VR.nil ?_
    obtain rfl := Option.some.inj hm
    exact VW.ret ⟨.inl rfl, _, .cons (.tmp _ _ rfl) .nil, [], _, rfl, rfl, rfl⟩
  · have h3 := bf h3
    refine VW.condF rfl h3 ?_
    refine VW.skip ?_
    refine VW.seq ?_
    refine VW.seq ?_
    refine VW.region ?_
    refine VR.p rfl rfl (VP.assign rfl) ?_
    refine VR.nil ?_
    obtain ⟨o, h4, h5⟩ := bnd hm
    refine VW.joinE (fun (q : Unit) => o = Out.go q) (fun (j : Unit) (gg : Unit) => []) (fun (j : Unit) (gg : Unit) => []) ?_ ?_
    · have hm := h4
      refine VW.block (VW.loop FU ?_)
      refine VL.fuelS (R := _) (fun zn (zs : Int) => ref11_Near.l1 ms bs p on_ zn zs) (fun (zs : Int) (zg : Unit) => [(0, .list 37 (List.map T_api_Machine.vv ms)), (1, .list 56 (List.map T_api_Bound.vv bs)), (3, .str on_), (6, .ptr b 0), (9, .int .i64 zs)]) (fun (zs : Int) (zg : Unit) => [.box b 31 (T_api_Pod.cells p)]) (0 : Int) () (fun zs => rfl) (Shift.pick [0] rfl ⟨rfl, rfl, rfl, rfl, rfl, trivial⟩) h4 ?_
      rintro n i2 _ hm
      rw [ref11_Near.l1] at hm
      refine VW.seq ?_
      refine VW.seq ?_
      refine VW.region ?_
      refine VR.p rfl rfl (VP.move rfl) ?_
      refine VR.p rfl rfl (VP.move rfl) ?_
      refine VR.p rfl rfl (VP.lenT T_api_Bound.vv rfl Tryz.underlying23) ?_
      refine VR.p rfl rfl (VP.arith rfl rfl rfl) ?_
      refine VR.nil ?_
      rcases ite_or hm with ⟨h6, hm⟩ | ⟨h6, hm⟩
      · refine VW.condT rfl h6 ?_
        refine VW.skip ?_
        refine VW.seq ?_
        refine VW.block ?_
        refine VW.seq ?_
        refine VW.region ?_
        refine VR.p rfl rfl (VP.move rfl) ?_
        refine VR.p rfl rfl (VP.move rfl) ?_
        obtain ⟨x, h7, hm⟩ := bnd hm
        refine VR.p rfl rfl (VP.glE T_api_Bound.vv rfl rfl el23 h7) ?_
        refine VR.p rfl rfl (VP.fieldE rfl fa56_0) ?_
        refine VR.p rfl rfl (VP.loadE rfl ld31 rfl) ?_
        refine VR.cons rfl rfl (VO.alloc z31 fun b2 => ?_)
        refine VR.cons rfl rfl (VO.storeP (i := 0) rfl rfl rfl ld31 rfl rfl rfl ?_)
        refine VR.nil ?_
        refine VW.seq ?_
        refine VW.seq ?_
        refine VW.region ?_
        refine VR.p rfl rfl (VP.fieldP rfl fa31_0) ?_
        refine VR.p rfl rfl (VP.loadP (i := 0) rfl rfl ld9 rfl) ?_
        refine VR.p rfl rfl (VP.fieldP rfl fa31_0) ?_
        refine VR.p rfl rfl (VP.loadP (i := 1) rfl rfl ld9 rfl) ?_
        refine VR.p rfl rfl (VP.strop rfl rfl rfl) ?_
        refine VR.p rfl rfl (VP.move rfl) ?_
        obtain ⟨c, h11, hm⟩ := bnd hm
        refine VR.sc 7 38 (.bool c) (fun K' J => ?_) ?_
        · have hm := h11
          rcases ite_or hm with ⟨h9, hm⟩ | ⟨h9, hm⟩
          · refine VR.skipG rfl rfl rfl rfl h9 ?_
            refine VR.skipG rfl rfl rfl rfl h9 ?_
            refine VR.skipG rfl rfl rfl rfl h9 ?_
            refine VR.skipG rfl rfl rfl rfl h9 ?_
            refine VR.skipG rfl rfl rfl rfl h9 ?_
            refine VR.skipG rfl rfl rfl rfl h9 ?_
            refine VR.p rfl rfl (VP.pickB true rfl h9 rfl) ?_
            exact J [_, _, _, _, _, _] _ rfl (congrArg VV.bool (Option.some.inj hm))
          · have h9 := bf h9
            refine VR.pG rfl rfl rfl rfl h9 (VP.move rfl) ?_
            refine VR.pG rfl rfl rfl rfl h9 (VP.move rfl) ?_
            obtain ⟨x2, h10, hm⟩ := bnd hm
            refine VR.pG rfl rfl rfl rfl h9 (VP.glE T_api_Bound.vv rfl rfl el23 h10) ?_
            refine VR.pG rfl rfl rfl rfl h9 (VP.fieldE rfl fa56_1) ?_
            refine VR.pG rfl rfl rfl rfl h9 (VP.loadE rfl ld9 rfl) ?_
            refine VR.pG rfl rfl rfl rfl h9 (VP.strop rfl rfl rfl) ?_
            refine VR.p rfl rfl (VP.pickB false rfl h9 rfl) ?_
            exact J [_, _, _, _, _, _] _ rfl (congrArg VV.bool (Option.some.inj hm))
        · refine VR.nil ?_
          rcases ite_or hm with ⟨h12, hm⟩ | ⟨h12, hm⟩
          · refine VW.condT rfl h12 ?_
            refine VW.exit ?_
            refine VW.region ?_
            refine VR.p rfl rfl (VP.move rfl) ?_
            refine VR.p rfl rfl (VP.arith rfl rfl rfl) ?_
            refine VR.p rfl rfl (VP.assign rfl) ?_
            refine VR.nil ?_
            exact ⟨(IntKind.i64.wrap (i2 + (1 : Int))), (), hm, (Shift.pick [1] rfl ⟨rfl, rfl, rfl, rfl, rfl, trivial⟩)⟩
          · have h12 := bf h12
            refine VW.condF rfl h12 ?_
            refine VW.skip ?_
            refine VW.seq ?_
            refine VW.seq ?_
            refine VW.drawK 0 mixed ?_
            refine VA.p 0 rfl rfl rfl (by kernel_rfl) (VP.fieldP rfl fa31_7) ?_
            refine VA.p 1 rfl rfl rfl (by kernel_rfl) (VP.loadP (i := 1) rfl rfl ld26 rfl) ?_
            refine VA.p 2 rfl rfl rfl (by kernel_rfl) (VP.lenT T_api_Label.vv rfl Tryz.underlying26) ?_
            refine VA.p 3 rfl rfl rfl (by kernel_rfl) (VP.arith rfl rfl rfl) ?_
            refine VA.p 4 rfl rfl rfl (by kernel_rfl) (VP.move rfl) ?_
            obtain ⟨c2, h16, hm⟩ := bnd hm
            refine VA.sc [10, 9, 8, 7, 6, 5, 4, 3, 2, 1, 0] 49 (.bool c2) (fun K' J => ?_) ?_
            · have hm := h16
              rcases ite_or hm with ⟨h13, hm⟩ | ⟨h13, hm⟩
              · refine VA.pG 5 rfl rfl rfl rfl rfl h13 (by kernel_rfl) (VP.fieldP rfl fa31_2) ?_
                refine VA.pG 6 rfl rfl rfl rfl rfl h13 (by kernel_rfl) (VP.loadP (i := 0) rfl rfl ld26 rfl) ?_
                refine VA.pG 7 rfl rfl rfl rfl rfl h13 (by kernel_rfl) (VP.fieldP rfl fa31_7) ?_
                refine VA.pG 8 rfl rfl rfl rfl rfl h13 (by kernel_rfl) (VP.loadP (i := 1) rfl rfl ld26 rfl) ?_
                refine VA.all [9] (by kernel_rfl) ⟨?_, trivial⟩
                obtain ⟨r2, h14, hm⟩ := bnd hm
                refine VB.oG rfl rfl rfl rfl rfl h13 (VO.callK 0 rfl fn62 rfl (ref05_Has_ok x.Pod.Labels p.Apart r2 h14) fun _ _ h15 => ?_)
                obtain ⟨rfl, rfl⟩ := h15
                refine VA.p 10 rfl rfl rfl (by kernel_rfl) (VP.pickB true rfl h13 rfl) ?_
                exact J [_, _, _, _, _] _ rfl (congrArg VV.bool (Option.some.inj hm))
              · have h13 := bf h13
                refine VA.skipG 5 rfl rfl rfl rfl rfl h13 (by kernel_rfl) ?_
                refine VA.skipG 6 rfl rfl rfl rfl rfl h13 (by kernel_rfl) ?_
                refine VA.skipG 7 rfl rfl rfl rfl rfl h13 (by kernel_rfl) ?_
                refine VA.skipG 8 rfl rfl rfl rfl rfl h13 (by kernel_rfl) ?_
                refine VA.skipG 9 rfl rfl rfl rfl rfl h13 (by kernel_rfl) ?_
                refine VA.p 10 rfl rfl rfl (by kernel_rfl) (VP.pickB false rfl h13 rfl) ?_
                exact J [_, _, _, _, _] _ rfl (congrArg VV.bool (Option.some.inj hm))
            · refine VA.p 11 rfl rfl rfl (by kernel_rfl) (VP.move rfl) ?_
              obtain ⟨c3, h21, hm⟩ := bnd hm
              refine VA.sc [22, 21, 20, 19, 18, 17, 16, 15, 14, 13, 12, 11, 10, 9, 8, 7, 6, 5, 4, 3, 2, 1, 0] 61 (.bool c3) (fun K' J => ?_) ?_
              · have hm := h21
                rcases ite_or hm with ⟨h17, hm⟩ | ⟨h17, hm⟩
                · refine VA.pG 12 rfl rfl rfl rfl rfl h17 (by kernel_rfl) (VP.move rfl) ?_
                  refine VA.pG 13 rfl rfl rfl rfl rfl h17 (by kernel_rfl) (VP.move rfl) ?_
                  refine VA.pG 14 rfl rfl rfl rfl rfl h17 (by kernel_rfl) (VP.move rfl) ?_
                  refine VA.pG 15 rfl rfl rfl rfl rfl h17 (by kernel_rfl) (VP.move rfl) ?_
                  obtain ⟨x3, h18, hm⟩ := bnd hm
                  refine VA.pG 16 rfl rfl rfl rfl rfl h17 (by kernel_rfl) (VP.glE T_api_Bound.vv rfl rfl el23 h18) ?_
                  refine VA.pG 17 rfl rfl rfl rfl rfl h17 (by kernel_rfl) (VP.fieldE rfl fa56_1) ?_
                  refine VA.pG 18 rfl rfl rfl rfl rfl h17 (by kernel_rfl) (VP.loadE rfl ld9 rfl) ?_
                  refine VA.pG 19 rfl rfl rfl rfl rfl h17 (by kernel_rfl) (VP.fieldP rfl fa31_8) ?_
                  refine VA.pG 20 rfl rfl rfl rfl rfl h17 (by kernel_rfl) (VP.loadP (i := 1) rfl rfl ld4 rfl) ?_
                  refine VA.all [21] (by kernel_rfl) ⟨?_, trivial⟩
                  obtain ⟨r3, h19, hm⟩ := bnd hm
                  refine VB.oG rfl rfl rfl rfl rfl h17 (VO.callK 0 rfl fn69 rfl (ref11_together_ok ms on_ x3.On p.Wide r3 h19) fun _ _ h20 => ?_)
                  obtain ⟨rfl, rfl⟩ := h20
                  refine VA.p 22 rfl rfl rfl (by kernel_rfl) (VP.pickB true rfl h17 rfl) ?_
                  exact J [_, _, _, _, _, _, _, _, _, _] _ rfl (congrArg VV.bool (Option.some.inj hm))
                · have h17 := bf h17
                  refine VA.skipG 12 rfl rfl rfl rfl rfl h17 (by kernel_rfl) ?_
                  refine VA.skipG 13 rfl rfl rfl rfl rfl h17 (by kernel_rfl) ?_
                  refine VA.skipG 14 rfl rfl rfl rfl rfl h17 (by kernel_rfl) ?_
                  refine VA.skipG 15 rfl rfl rfl rfl rfl h17 (by kernel_rfl) ?_
                  refine VA.skipG 16 rfl rfl rfl rfl rfl h17 (by kernel_rfl) ?_
                  refine VA.skipG 17 rfl rfl rfl rfl rfl h17 (by kernel_rfl) ?_
                  refine VA.skipG 18 rfl rfl rfl rfl rfl h17 (by kernel_rfl) ?_
                  refine VA.skipG 19 rfl rfl rfl rfl rfl h17 (by kernel_rfl) ?_
                  refine VA.skipG 20 rfl rfl rfl rfl rfl h17 (by kernel_rfl) ?_
                  refine VA.skipG 21 rfl rfl rfl rfl rfl h17 (by kernel_rfl) ?_
                  refine VA.p 22 rfl rfl rfl (by kernel_rfl) (VP.pickB false rfl h17 rfl) ?_
                  exact J [_, _, _, _, _, _, _, _, _, _] _ rfl (congrArg VV.bool (Option.some.inj hm))
              · refine VA.done (by kernel_rfl) ?_
                rcases ite_or hm with ⟨h22, hm⟩ | ⟨h22, hm⟩
                · refine VW.condT rfl h22 ?_
                  refine VW.seq ?_
                  refine VW.region ?_
                  refine VR.p rfl rfl (VP.assign rfl) ?_
                  refine VR.nil ?_
                  obtain rfl := Option.some.inj hm
                  have hm := Out.ret_on h5
                  obtain rfl := Option.some.inj hm
                  exact VW.ret ⟨.inl rfl, _, .cons (.tmp _ _ rfl) .nil, [], _, rfl, rfl, rfl⟩
                · have h22 := bf h22
                  refine VW.condF rfl h22 ?_
                  refine VW.skip ?_
                  refine VW.seq ?_
                  refine VW.drawK 0 mixed ?_
                  refine VA.p 0 rfl rfl rfl (by kernel_rfl) (VP.fieldP rfl fa31_7) ?_
                  refine VA.p 1 rfl rfl rfl (by kernel_rfl) (VP.loadP (i := 0) rfl rfl ld26 rfl) ?_
                  refine VA.p 2 rfl rfl rfl (by kernel_rfl) (VP.lenT T_api_Label.vv rfl Tryz.underlying26) ?_
                  refine VA.p 3 rfl rfl rfl (by kernel_rfl) (VP.arith rfl rfl rfl) ?_
                  refine VA.p 4 rfl rfl rfl (by kernel_rfl) (VP.move rfl) ?_
                  obtain ⟨c4, h26, hm⟩ := bnd hm
                  refine VA.sc [10, 9, 8, 7, 6, 5, 4, 3, 2, 1, 0] 72 (.bool c4) (fun K' J => ?_) ?_
                  · have hm := h26
                    rcases ite_or hm with ⟨h23, hm⟩ | ⟨h23, hm⟩
                    · refine VA.pG 5 rfl rfl rfl rfl rfl h23 (by kernel_rfl) (VP.fieldP rfl fa31_2) ?_
                      refine VA.pG 6 rfl rfl rfl rfl rfl h23 (by kernel_rfl) (VP.loadP (i := 1) rfl rfl ld26 rfl) ?_
                      refine VA.pG 7 rfl rfl rfl rfl rfl h23 (by kernel_rfl) (VP.fieldP rfl fa31_7) ?_
                      refine VA.pG 8 rfl rfl rfl rfl rfl h23 (by kernel_rfl) (VP.loadP (i := 0) rfl rfl ld26 rfl) ?_
                      refine VA.all [9] (by kernel_rfl) ⟨?_, trivial⟩
                      obtain ⟨r4, h24, hm⟩ := bnd hm
                      refine VB.oG rfl rfl rfl rfl rfl h23 (VO.callK 0 rfl fn62 rfl (ref05_Has_ok p.Labels x.Pod.Apart r4 h24) fun _ _ h25 => ?_)
                      obtain ⟨rfl, rfl⟩ := h25
                      refine VA.p 10 rfl rfl rfl (by kernel_rfl) (VP.pickB true rfl h23 rfl) ?_
                      exact J [_, _, _, _, _] _ rfl (congrArg VV.bool (Option.some.inj hm))
                    · have h23 := bf h23
                      refine VA.skipG 5 rfl rfl rfl rfl rfl h23 (by kernel_rfl) ?_
                      refine VA.skipG 6 rfl rfl rfl rfl rfl h23 (by kernel_rfl) ?_
                      refine VA.skipG 7 rfl rfl rfl rfl rfl h23 (by kernel_rfl) ?_
                      refine VA.skipG 8 rfl rfl rfl rfl rfl h23 (by kernel_rfl) ?_
                      refine VA.skipG 9 rfl rfl rfl rfl rfl h23 (by kernel_rfl) ?_
                      refine VA.p 10 rfl rfl rfl (by kernel_rfl) (VP.pickB false rfl h23 rfl) ?_
                      exact J [_, _, _, _, _] _ rfl (congrArg VV.bool (Option.some.inj hm))
                  · refine VA.p 11 rfl rfl rfl (by kernel_rfl) (VP.move rfl) ?_
                    obtain ⟨c5, h31, hm⟩ := bnd hm
                    refine VA.sc [22, 21, 20, 19, 18, 17, 16, 15, 14, 13, 12, 11, 10, 9, 8, 7, 6, 5, 4, 3, 2, 1, 0] 84 (.bool c5) (fun K' J => ?_) ?_
                    · have hm := h31
                      rcases ite_or hm with ⟨h27, hm⟩ | ⟨h27, hm⟩
                      · refine VA.pG 12 rfl rfl rfl rfl rfl h27 (by kernel_rfl) (VP.move rfl) ?_
                        refine VA.pG 13 rfl rfl rfl rfl rfl h27 (by kernel_rfl) (VP.move rfl) ?_
                        refine VA.pG 14 rfl rfl rfl rfl rfl h27 (by kernel_rfl) (VP.move rfl) ?_
                        refine VA.pG 15 rfl rfl rfl rfl rfl h27 (by kernel_rfl) (VP.move rfl) ?_
                        obtain ⟨x4, h28, hm⟩ := bnd hm
                        refine VA.pG 16 rfl rfl rfl rfl rfl h27 (by kernel_rfl) (VP.glE T_api_Bound.vv rfl rfl el23 h28) ?_
                        refine VA.pG 17 rfl rfl rfl rfl rfl h27 (by kernel_rfl) (VP.fieldE rfl fa56_1) ?_
                        refine VA.pG 18 rfl rfl rfl rfl rfl h27 (by kernel_rfl) (VP.loadE rfl ld9 rfl) ?_
                        refine VA.pG 19 rfl rfl rfl rfl rfl h27 (by kernel_rfl) (VP.fieldP rfl fa31_8) ?_
                        refine VA.pG 20 rfl rfl rfl rfl rfl h27 (by kernel_rfl) (VP.loadP (i := 0) rfl rfl ld4 rfl) ?_
                        refine VA.all [21] (by kernel_rfl) ⟨?_, trivial⟩
                        obtain ⟨r5, h29, hm⟩ := bnd hm
                        refine VB.oG rfl rfl rfl rfl rfl h27 (VO.callK 0 rfl fn69 rfl (ref11_together_ok ms on_ x4.On x.Pod.Wide r5 h29) fun _ _ h30 => ?_)
                        obtain ⟨rfl, rfl⟩ := h30
                        refine VA.p 22 rfl rfl rfl (by kernel_rfl) (VP.pickB true rfl h27 rfl) ?_
                        exact J [_, _, _, _, _, _, _, _, _, _] _ rfl (congrArg VV.bool (Option.some.inj hm))
                      · have h27 := bf h27
                        refine VA.skipG 12 rfl rfl rfl rfl rfl h27 (by kernel_rfl) ?_
                        refine VA.skipG 13 rfl rfl rfl rfl rfl h27 (by kernel_rfl) ?_
                        refine VA.skipG 14 rfl rfl rfl rfl rfl h27 (by kernel_rfl) ?_
                        refine VA.skipG 15 rfl rfl rfl rfl rfl h27 (by kernel_rfl) ?_
                        refine VA.skipG 16 rfl rfl rfl rfl rfl h27 (by kernel_rfl) ?_
                        refine VA.skipG 17 rfl rfl rfl rfl rfl h27 (by kernel_rfl) ?_
                        refine VA.skipG 18 rfl rfl rfl rfl rfl h27 (by kernel_rfl) ?_
                        refine VA.skipG 19 rfl rfl rfl rfl rfl h27 (by kernel_rfl) ?_
                        refine VA.skipG 20 rfl rfl rfl rfl rfl h27 (by kernel_rfl) ?_
                        refine VA.skipG 21 rfl rfl rfl rfl rfl h27 (by kernel_rfl) ?_
                        refine VA.p 22 rfl rfl rfl (by kernel_rfl) (VP.pickB false rfl h27 rfl) ?_
                        exact J [_, _, _, _, _, _, _, _, _, _] _ rfl (congrArg VV.bool (Option.some.inj hm))
                    · refine VA.done (by kernel_rfl) ?_
                      rcases ite_or hm with ⟨h32, hm⟩ | ⟨h32, hm⟩
                      · refine VW.condT rfl h32 ?_
                        refine VW.seq ?_
                        refine VW.region ?_
                        refine VR.p rfl rfl (VP.assign rfl) ?_
                        refine VR.nil ?_
                        obtain rfl := Option.some.inj hm
                        have hm := Out.ret_on h5
                        obtain rfl := Option.some.inj hm
                        exact VW.ret ⟨.inl rfl, _, .cons (.tmp _ _ rfl) .nil, [], _, rfl, rfl, rfl⟩
                      · have h32 := bf h32
                        refine VW.condF rfl h32 ?_
                        refine VW.skip ?_
                        refine VW.region ?_
                        refine VR.p rfl rfl (VP.move rfl) ?_
                        refine VR.p rfl rfl (VP.arith rfl rfl rfl) ?_
                        refine VR.p rfl rfl (VP.assign rfl) ?_
                        refine VR.nil ?_
                        exact ⟨(IntKind.i64.wrap (i2 + (1 : Int))), (), hm, (Shift.pick [1] rfl ⟨rfl, rfl, rfl, rfl, rfl, trivial⟩)⟩
      · have h6 := bf h6
        refine VW.condF rfl h6 ?_
        refine VW.exit ?_
        exact ⟨(), (), (Option.some.inj hm).symm, (Shift.pick [] rfl trivial)⟩
    · rintro j _ rfl
      have hm := Out.go_on h5
      refine VW.seq ?_
      refine VW.region ?_
      refine VR.p rfl rfl (VP.assign rfl) ?_
      refine VR.nil ?_
      obtain rfl := Option.some.inj hm
      exact VW.ret ⟨.inl rfl, _, .cons (.tmp _ _ rfl) .nil, [], _, rfl, rfl, rfl⟩

/-! trireme/triremeref09.Zones -/
def ref09_Zones.l2 (out2 : List ByteArray) (r : ByteArray × Bool) : Nat → Bool → Int → Option Bool
  | 0, _, _ => none
  | n2 + 1, is2, k2 =>
    if (decide (k2 < (out2.length : Int))) = true then
      (if is2 = true then (V.gl out2 k2).bind fun x2 =>
      some (!(V.seq x2 r.1)) else some false).bind fun c =>
      ref09_Zones.l2 out2 r n2 c (IntKind.i64.wrap (k2 + (1 : Int)))
    else
      some is2
def ref09_Zones.l1 (ms : List T_api_Machine) : Nat → (List ByteArray) → Int → Option (List ByteArray)
  | 0, _, _ => none
  | n + 1, out2, i2 =>
    if (decide (i2 < (ms.length : Int))) = true then
      (V.gl ms i2).bind fun x =>
      (ref05_Get x.Labels (⟨#[122, 111, 110, 101]⟩ : ByteArray)).bind fun r =>
      (ref09_Zones.l2 out2 r FU r.2 (0 : Int)).bind fun is32 =>
      (if is32 = true then (V.gl ms i2).bind fun x3 =>
      some x3.Ready else some false).bind fun c2 =>
      if c2 = true then
        (V.ap 16 out2 [r.1]).bind fun out4 =>
        ref09_Zones.l1 ms n out4 (IntKind.i64.wrap (i2 + (1 : Int)))
      else
        ref09_Zones.l1 ms n out2 (IntKind.i64.wrap (i2 + (1 : Int)))
    else
      some out2
def ref09_Zones (ms : List T_api_Machine) : Option (List ByteArray) :=
  (ref09_Zones.l1 ms FU ([] : List ByteArray) (0 : Int)).bind fun out32 =>
  some out32
theorem ref09_Zones_ok (ms : List T_api_Machine) (r : List ByteArray) (hm : ref09_Zones ms = some r) :
    VC Tryz.prog 91 [.list 37 (List.map T_api_Machine.vv ms)] [] (fun zx zH => ∃ (ob0 : Option Nat) (cap0 : Nat), zx = .sl ob0 (List.map VV.str r).length cap0 ∧ zH = [.row ob0 9 cap0 (List.map VV.str r)]) := by
  unfold ref09_Zones at hm
  refine VC.run (c := _) (rs := [.tmp 2]) Tryz.func91 rfl rfl rfl ?_
  refine VW.seq ?_
  refine VW.region ?_
  refine VR.p rfl rfl (VP.assign rfl) ?_
  refine VR.nil ?_
  refine VW.seq ?_
  refine VW.region ?_
  refine VR.p rfl rfl (VP.assign rfl) ?_
  refine VR.nil ?_
  refine VW.seq ?_
  refine VW.seq ?_
  refine VW.region ?_
  refine VR.p rfl rfl (VP.assign rfl) ?_
  refine VR.nil ?_
  obtain ⟨o, h3, h4⟩ := bnd hm
  refine VW.joinE (fun (q : List ByteArray) => q = o) (fun (out32 : List ByteArray) (gg : Option Nat × Nat) => [(3, .sl gg.1 (List.map VV.str out32).length gg.2)]) (fun (out32 : List ByteArray) (gg : Option Nat × Nat) => [.row gg.1 9 gg.2 (List.map VV.str out32)]) ?_ ?_
  · have hm := h3
    refine VW.block (VW.loop FU ?_)
    refine VL.fuelS (R := _) (fun zn (zs : List ByteArray × Int) => ref09_Zones.l1 ms zn zs.1 zs.2) (fun (zs : List ByteArray × Int) (zg : Option Nat × Nat) => [(0, .list 37 (List.map T_api_Machine.vv ms)), (3, .sl zg.1 (List.map VV.str zs.1).length zg.2), (4, .int .i64 zs.2)]) (fun (zs : List ByteArray × Int) (zg : Option Nat × Nat) => [.row zg.1 9 zg.2 (List.map VV.str zs.1)]) (([] : List ByteArray), (0 : Int)) (none, 0) (fun zs => rfl) (Shift.trans (Shift.nilRow 9) (Shift.pick [0] rfl ⟨rfl, rfl, rfl, trivial⟩)) h3 ?_
    rintro n ⟨out2, i2⟩ ⟨ob2, cap2⟩ hm
    rw [ref09_Zones.l1] at hm
    refine VW.seq ?_
    refine VW.seq ?_
    refine VW.region ?_
    refine VR.p rfl rfl (VP.move rfl) ?_
    refine VR.p rfl rfl (VP.move rfl) ?_
    refine VR.p rfl rfl (VP.lenT T_api_Machine.vv rfl Tryz.underlying22) ?_
    refine VR.p rfl rfl (VP.arith rfl rfl rfl) ?_
    refine VR.nil ?_
    rcases ite_or hm with ⟨h5, hm⟩ | ⟨h5, hm⟩
    · refine VW.condT rfl h5 ?_
      refine VW.skip ?_
      refine VW.seq ?_
      refine VW.block ?_
      refine VW.seq ?_
      refine VW.region ?_
      refine VR.p rfl rfl (VP.move rfl) ?_
      refine VR.p rfl rfl (VP.move rfl) ?_
      obtain ⟨x, h6, hm⟩ := bnd hm
      refine VR.p rfl rfl (VP.glE T_api_Machine.vv rfl rfl el22 h6) ?_
      refine VR.p rfl rfl (VP.fieldE rfl fa37_3) ?_
      refine VR.p rfl rfl (VP.loadE rfl ld26 rfl) ?_
      obtain ⟨r, h7, hm⟩ := bnd hm
      refine VR.cons rfl rfl (VO.callK 0 rfl fn86 rfl (ref05_Get_ok x.Labels (⟨#[122, 111, 110, 101]⟩ : ByteArray) r h7) fun _ _ h21 => ?_)
      obtain ⟨rfl, rfl⟩ := h21
      refine VR.p rfl rfl (VP.move rfl) ?_
      refine VR.p rfl rfl (VP.extract rfl rfl) ?_
      refine VR.p rfl rfl (VP.extract rfl rfl) ?_
      refine VR.p rfl rfl (VP.assign rfl) ?_
      refine VR.p rfl rfl (VP.assign rfl) ?_
      refine VR.nil ?_
      refine VW.seq ?_
      refine VW.seq ?_
      refine VW.region ?_
      refine VR.p rfl rfl (VP.assign rfl) ?_
      refine VR.nil ?_
      obtain ⟨o2, h8, h9⟩ := bnd hm
      refine VW.joinE (fun (q : Bool) => q = o2) (fun (is32 : Bool) (gg : Unit) => [(0, .list 37 (List.map T_api_Machine.vv ms)), (3, .sl ob2 (List.map VV.str out2).length cap2), (4, .int .i64 i2), (5, .str r.1), (6, .bool is32)]) (fun (is32 : Bool) (gg : Unit) => [.row ob2 9 cap2 (List.map VV.str out2)]) ?_ ?_
      · have hm := h8
        refine VW.block (VW.loop FU ?_)
        refine VL.fuelS (R := _) (fun zn (zs : Bool × Int) => ref09_Zones.l2 out2 r zn zs.1 zs.2) (fun (zs : Bool × Int) (zg : Unit) => [(0, .list 37 (List.map T_api_Machine.vv ms)), (3, .sl ob2 (List.map VV.str out2).length cap2), (4, .int .i64 i2), (5, .str r.1), (6, .bool zs.1), (7, .int .i64 zs.2)]) (fun (zs : Bool × Int) (zg : Unit) => [.row ob2 9 cap2 (List.map VV.str out2)]) (r.2, (0 : Int)) () (fun zs => rfl) (Shift.pick [0] rfl ⟨rfl, rfl, rfl, rfl, rfl, rfl, trivial⟩) h8 ?_
        rintro n2 ⟨is2, k2⟩ _ hm
        rw [ref09_Zones.l2] at hm
        refine VW.seq ?_
        refine VW.seq ?_
        refine VW.region ?_
        refine VR.p rfl rfl (VP.move rfl) ?_
        refine VR.p rfl rfl (VP.move rfl) ?_
        refine VR.p rfl rfl (VP.lenRT VV.str rfl Tryz.underlying39) ?_
        refine VR.p rfl rfl (VP.arith rfl rfl rfl) ?_
        refine VR.nil ?_
        rcases ite_or hm with ⟨h10, hm⟩ | ⟨h10, hm⟩
        · refine VW.condT rfl h10 ?_
          refine VW.skip ?_
          refine VW.seq ?_
          refine VW.block ?_
          refine VW.region ?_
          refine VR.p rfl rfl (VP.move rfl) ?_
          refine VR.p rfl rfl (VP.move rfl) ?_
          obtain ⟨c, h14, hm⟩ := bnd hm
          refine VR.sc 7 37 (.bool c) (fun K' J => ?_) ?_
          · have hm := h14
            rcases ite_or hm with ⟨h11, hm⟩ | ⟨h11, hm⟩
            · refine VR.pG rfl rfl rfl rfl h11 (VP.move rfl) ?_
              refine VR.pG rfl rfl rfl rfl h11 (VP.move rfl) ?_
              obtain ⟨x2, h12, hm⟩ := bnd hm
              refine VR.someRow 0 rfl (gl_pos VV.str h12) fun b h13 => ?_
              subst h13
              refine VR.pG rfl rfl rfl rfl h11 (VP.glR VV.str rfl rfl el39 h12) ?_
              refine VR.pG rfl rfl rfl rfl h11 (VP.loadR (i := 0) (y := VV.str x2) rfl rfl rfl (gl_map _ (gl_some h12).2) ld9 rfl) ?_
              refine VR.pG rfl rfl rfl rfl h11 (VP.move rfl) ?_
              refine VR.pG rfl rfl rfl rfl h11 (VP.strop rfl rfl rfl) ?_
              refine VR.p rfl rfl (VP.pickB true rfl h11 rfl) ?_
              exact J [_, _, _, _, _, _] _ rfl (congrArg VV.bool (Option.some.inj hm))
            · have h11 := bf h11
              refine VR.skipG rfl rfl rfl rfl h11 ?_
              refine VR.skipG rfl rfl rfl rfl h11 ?_
              refine VR.skipG rfl rfl rfl rfl h11 ?_
              refine VR.skipG rfl rfl rfl rfl h11 ?_
              refine VR.skipG rfl rfl rfl rfl h11 ?_
              refine VR.skipG rfl rfl rfl rfl h11 ?_
              refine VR.p rfl rfl (VP.pickB false rfl h11 rfl) ?_
              exact J [_, _, _, _, _, _] _ rfl (congrArg VV.bool (Option.some.inj hm))
          · refine VR.p rfl rfl (VP.assign rfl) ?_
            refine VR.nil ?_
            refine VW.region ?_
            refine VR.p rfl rfl (VP.move rfl) ?_
            refine VR.p rfl rfl (VP.arith rfl rfl rfl) ?_
            refine VR.p rfl rfl (VP.assign rfl) ?_
            refine VR.nil ?_
            exact ⟨(c, (IntKind.i64.wrap (k2 + (1 : Int)))), (), hm, (Shift.pick [0] rfl ⟨rfl, rfl, rfl, rfl, rfl, rfl, trivial⟩)⟩
        · have h10 := bf h10
          refine VW.condF rfl h10 ?_
          refine VW.exit ?_
          exact ⟨is2, (), Option.some.inj hm, (Shift.pick [0] rfl ⟨rfl, rfl, rfl, rfl, rfl, trivial⟩)⟩
      · rintro is32 _ rfl
        have hm := h9
        refine VW.seq ?_
        refine VW.region ?_
        refine VR.p rfl rfl (VP.move rfl) ?_
        refine VR.p rfl rfl (VP.move rfl) ?_
        obtain ⟨c2, h17, hm⟩ := bnd hm
        refine VR.sc 6 45 (.bool c2) (fun K' J => ?_) ?_
        · have hm := h17
          rcases ite_or hm with ⟨h15, hm⟩ | ⟨h15, hm⟩
          · refine VR.pG rfl rfl rfl rfl h15 (VP.move rfl) ?_
            refine VR.pG rfl rfl rfl rfl h15 (VP.move rfl) ?_
            obtain ⟨x3, h16, hm⟩ := bnd hm
            refine VR.pG rfl rfl rfl rfl h15 (VP.glE T_api_Machine.vv rfl rfl el22 h16) ?_
            refine VR.pG rfl rfl rfl rfl h15 (VP.fieldE rfl fa37_5) ?_
            refine VR.pG rfl rfl rfl rfl h15 (VP.loadE rfl ld4 rfl) ?_
            refine VR.p rfl rfl (VP.pickB true rfl h15 rfl) ?_
            exact J [_, _, _, _, _] _ rfl (congrArg VV.bool (Option.some.inj hm))
          · have h15 := bf h15
            refine VR.skipG rfl rfl rfl rfl h15 ?_
            refine VR.skipG rfl rfl rfl rfl h15 ?_
            refine VR.skipG rfl rfl rfl rfl h15 ?_
            refine VR.skipG rfl rfl rfl rfl h15 ?_
            refine VR.skipG rfl rfl rfl rfl h15 ?_
            refine VR.p rfl rfl (VP.pickB false rfl h15 rfl) ?_
            exact J [_, _, _, _, _] _ rfl (congrArg VV.bool (Option.some.inj hm))
        · refine VR.nil ?_
          rcases ite_or hm with ⟨h18, hm⟩ | ⟨h18, hm⟩
          · refine VW.condT rfl h18 ?_
            refine VW.region ?_
            refine VR.p rfl rfl (VP.move rfl) ?_
            refine VR.p rfl rfl (VP.move rfl) ?_
            refine VR.cons rfl rfl (VO.buildSlice ap39 rfl rfl rfl rfl rfl fun b2 => ?_)
            obtain ⟨out4, h20, hm⟩ := bnd hm
            refine VR.cons rfl rfl (VO.apT 1 VV.str (l := out2) (l2 := [r.1]) ap39 rfl rfl (sT_row 0 VV.str el39 rfl rfl) h20 fun ob4 cap4 => ?_)
            refine VR.p rfl rfl (VP.assign rfl) ?_
            refine VR.nil ?_
            refine VW.region ?_
            refine VR.p rfl rfl (VP.move rfl) ?_
            refine VR.p rfl rfl (VP.arith rfl rfl rfl) ?_
            refine VR.p rfl rfl (VP.assign rfl) ?_
            refine VR.nil ?_
            exact ⟨(out4, (IntKind.i64.wrap (i2 + (1 : Int)))), (ob4, cap4), hm, (Shift.pick [1] rfl ⟨rfl, rfl, rfl, trivial⟩)⟩
          · have h18 := bf h18
            refine VW.condF rfl h18 ?_
            refine VW.skip ?_
            refine VW.region ?_
            refine VR.p rfl rfl (VP.move rfl) ?_
            refine VR.p rfl rfl (VP.arith rfl rfl rfl) ?_
            refine VR.p rfl rfl (VP.assign rfl) ?_
            refine VR.nil ?_
            exact ⟨(out2, (IntKind.i64.wrap (i2 + (1 : Int)))), (ob2, cap2), hm, (Shift.pick [0] rfl ⟨rfl, rfl, rfl, trivial⟩)⟩
    · have h5 := bf h5
      refine VW.condF rfl h5 ?_
      refine VW.exit ?_
      exact ⟨out2, (ob2, cap2), Option.some.inj hm, (Shift.pick [0] rfl ⟨rfl, trivial⟩)⟩
  · rintro out32 ⟨ob3, cap3⟩ rfl
    have hm := h4
    refine VW.seq ?_
    refine VW.region ?_
    refine VR.p rfl rfl (VP.move rfl) ?_
    refine VR.p rfl rfl (VP.assign rfl) ?_
    refine VR.nil ?_
    obtain rfl := Option.some.inj hm
    exact VW.ret ⟨.inl rfl, _, .cons (.tmp _ _ rfl) .nil, [0], _, rfl, ob3, cap3, rfl, rfl⟩

/-! trireme/triremeref11.Counts -/
def ref11_Counts.l2 (ms : List T_api_Machine) (bs : List T_api_Bound) (p : T_api_Pod) (r : List ByteArray) (i2 : Int) : Nat → Int → Int → Option Int
  | 0, _, _ => none
  | n5 + 1, k2, j2 =>
    if (decide (j2 < (bs.length : Int))) = true then
      (V.gl bs j2).bind fun x =>
      (ref11_zone ms x.On).bind fun r2 =>
      (V.gl bs j2).bind fun x2 =>
      (if (!(V.seq x2.On (⟨#[]⟩ : ByteArray))) = true then (V.gl bs j2).bind fun x3 =>
      some (!(V.seq x3.Pod.Name p.Name)) else some false).bind fun c =>
      (if (c && r2.2) = true then (V.gl r i2).bind fun x4 =>
      some (V.seq r2.1 x4) else some false).bind fun c2 =>
      (if c2 = true then (V.gl bs j2).bind fun x5 =>
      (ref05_Has x5.Pod.Labels p.Spread).bind fun r3 =>
      some r3 else some false).bind fun c3 =>
      if c3 = true then
        ref11_Counts.l2 ms bs p r i2 n5 (IntKind.i64.wrap (k2 + (1 : Int))) (IntKind.i64.wrap (j2 + (1 : Int)))
      else
        ref11_Counts.l2 ms bs p r i2 n5 k2 (IntKind.i64.wrap (j2 + (1 : Int)))
    else
      some k2
def ref11_Counts.l1 (ms : List T_api_Machine) (bs : List T_api_Bound) (p : T_api_Pod) (r : List ByteArray) : Nat → (List Int) → Int → Option (List Int)
  | 0, _, _ => none
  | n4 + 1, n2, i2 =>
    if (decide (i2 < (r.length : Int))) = true then
      (ref11_Counts.l2 ms bs p r i2 FU (0 : Int) (0 : Int)).bind fun k32 =>
      (V.ap 8 n2 [k32]).bind fun n6 =>
      ref11_Counts.l1 ms bs p r n4 n6 (IntKind.i64.wrap (i2 + (1 : Int)))
    else
      some n2
def ref11_Counts (ms : List T_api_Machine) (bs : List T_api_Bound) (p : T_api_Pod) : Option (List ByteArray × List Int) :=
  (ref09_Zones ms).bind fun r =>
  (ref11_Counts.l1 ms bs p r FU ([] : List Int) (0 : Int)).bind fun n32 =>
  some (r, n32)
theorem ref11_Counts_ok (ms : List T_api_Machine) (bs : List T_api_Bound) (p : T_api_Pod) (r : List ByteArray × List Int) (hm : ref11_Counts ms bs p = some r) :
    VC Tryz.prog 71 [.list 37 (List.map T_api_Machine.vv ms), .list 56 (List.map T_api_Bound.vv bs), T_api_Pod.vv p] [] (fun zx zH => ∃ (ob1 : Option Nat) (cap1 : Nat), zx = .tup [.list 9 (List.map VV.str r.1), .sl ob1 (List.map (VV.int .i64) r.2).length cap1] ∧ zH = [.row ob1 3 cap1 (List.map (VV.int .i64) r.2)]) := by
  unfold ref11_Counts at hm
  refine VC.run (c := _) (rs := [.tmp 6, .tmp 7]) Tryz.func71 rfl rfl rfl ?_
  refine VW.seq ?_
  refine VW.region ?_
  refine VR.cons rfl rfl (VO.box rfl rfl fun b => ?_)
  refine VR.p rfl rfl (VP.assign rfl) ?_
  refine VR.p rfl rfl (VP.assign rfl) ?_
  refine VR.nil ?_
  refine VW.seq ?_
  refine VW.region ?_
  refine VR.p rfl rfl (VP.move rfl) ?_
  obtain ⟨r, h2, hm⟩ := bnd hm
  refine VR.cons rfl rfl (VO.callK 0 rfl fn91 rfl (ref09_Zones_ok ms r h2) fun _ _ h32 => ?_)
  obtain ⟨ob, cap, rfl, rfl⟩ := h32
  refine VR.shift (Shift.freezeE 0 [(16, .list 9 (List.map VV.str r))] rfl ⟨⟨_, rfl, .here _ rfl⟩, trivial⟩ (FzH.refl _)) ?_
  refine VR.p rfl rfl (VP.assign rfl) ?_
  refine VR.nil ?_
  refine VW.seq ?_
  refine VW.region ?_
  refine VR.p rfl rfl (VP.assign rfl) ?_
  refine VR.nil ?_
  refine VW.seq ?_
  refine VW.seq ?_
  refine VW.region ?_
  refine VR.p rfl rfl (VP.assign rfl) ?_
  refine VR.nil ?_
  obtain ⟨o, h6, h7⟩ := bnd hm
  refine VW.joinE (fun (q : List Int) => q = o) (fun (n32 : List Int) (gg : Option Nat × Nat) => [(8, .list 9 (List.map VV.str r)), (9, .sl gg.1 (List.map (VV.int .i64) n32).length gg.2)]) (fun (n32 : List Int) (gg : Option Nat × Nat) => [.row gg.1 3 gg.2 (List.map (VV.int .i64) n32)]) ?_ ?_
  · have hm := h6
    refine VW.block (VW.loop FU ?_)
    refine VL.fuelS (R := _) (fun zn (zs : List Int × Int) => ref11_Counts.l1 ms bs p r zn zs.1 zs.2) (fun (zs : List Int × Int) (zg : Option Nat × Nat) => [(0, .list 37 (List.map T_api_Machine.vv ms)), (1, .list 56 (List.map T_api_Bound.vv bs)), (5, .ptr b 0), (8, .list 9 (List.map VV.str r)), (9, .sl zg.1 (List.map (VV.int .i64) zs.1).length zg.2), (10, .int .i64 zs.2)]) (fun (zs : List Int × Int) (zg : Option Nat × Nat) => [.row zg.1 3 zg.2 (List.map (VV.int .i64) zs.1), .box b 31 (T_api_Pod.cells p)]) (([] : List Int), (0 : Int)) (none, 0) (fun zs => rfl) (Shift.trans (Shift.nilRow 3) (Shift.pick [0, 0] rfl ⟨rfl, rfl, rfl, rfl, rfl, rfl, trivial⟩)) h6 ?_
    rintro n4 ⟨n2, i2⟩ ⟨ob3, cap3⟩ hm
    rw [ref11_Counts.l1] at hm
    refine VW.seq ?_
    refine VW.seq ?_
    refine VW.region ?_
    refine VR.p rfl rfl (VP.move rfl) ?_
    refine VR.p rfl rfl (VP.move rfl) ?_
    refine VR.p rfl rfl (VP.lenT VV.str rfl Tryz.underlying39) ?_
    refine VR.p rfl rfl (VP.arith rfl rfl rfl) ?_
    refine VR.nil ?_
    rcases ite_or hm with ⟨h8, hm⟩ | ⟨h8, hm⟩
    · refine VW.condT rfl h8 ?_
      refine VW.skip ?_
      refine VW.seq ?_
      refine VW.block ?_
      refine VW.seq ?_
      refine VW.region ?_
      refine VR.p rfl rfl (VP.assign rfl) ?_
      refine VR.nil ?_
      refine VW.seq ?_
      refine VW.seq ?_
      refine VW.region ?_
      refine VR.p rfl rfl (VP.assign rfl) ?_
      refine VR.nil ?_
      obtain ⟨o2, h9, h10⟩ := bnd hm
      refine VW.joinE (fun (q : Int) => q = o2) (fun (k32 : Int) (gg : Unit) => [(0, .list 37 (List.map T_api_Machine.vv ms)), (1, .list 56 (List.map T_api_Bound.vv bs)), (5, .ptr b 0), (8, .list 9 (List.map VV.str r)), (9, .sl ob3 (List.map (VV.int .i64) n2).length cap3), (10, .int .i64 i2), (11, .int .i64 k32)]) (fun (k32 : Int) (gg : Unit) => [.row ob3 3 cap3 (List.map (VV.int .i64) n2), .box b 31 (T_api_Pod.cells p)]) ?_ ?_
      · have hm := h9
        refine VW.block (VW.loop FU ?_)
        refine VL.fuelS (R := _) (fun zn (zs : Int × Int) => ref11_Counts.l2 ms bs p r i2 zn zs.1 zs.2) (fun (zs : Int × Int) (zg : Unit) => [(0, .list 37 (List.map T_api_Machine.vv ms)), (1, .list 56 (List.map T_api_Bound.vv bs)), (5, .ptr b 0), (8, .list 9 (List.map VV.str r)), (9, .sl ob3 (List.map (VV.int .i64) n2).length cap3), (10, .int .i64 i2), (11, .int .i64 zs.1), (12, .int .i64 zs.2)]) (fun (zs : Int × Int) (zg : Unit) => [.row ob3 3 cap3 (List.map (VV.int .i64) n2), .box b 31 (T_api_Pod.cells p)]) ((0 : Int), (0 : Int)) () (fun zs => rfl) (Shift.pick [0, 0] rfl ⟨rfl, rfl, rfl, rfl, rfl, rfl, rfl, rfl, trivial⟩) h9 ?_
        rintro n5 ⟨k2, j2⟩ _ hm
        rw [ref11_Counts.l2] at hm
        refine VW.seq ?_
        refine VW.seq ?_
        refine VW.region ?_
        refine VR.p rfl rfl (VP.move rfl) ?_
        refine VR.p rfl rfl (VP.move rfl) ?_
        refine VR.p rfl rfl (VP.lenT T_api_Bound.vv rfl Tryz.underlying23) ?_
        refine VR.p rfl rfl (VP.arith rfl rfl rfl) ?_
        refine VR.nil ?_
        rcases ite_or hm with ⟨h11, hm⟩ | ⟨h11, hm⟩
        · refine VW.condT rfl h11 ?_
          refine VW.skip ?_
          refine VW.seq ?_
          refine VW.block ?_
          refine VW.seq ?_
          refine VW.region ?_
          refine VR.p rfl rfl (VP.move rfl) ?_
          refine VR.p rfl rfl (VP.move rfl) ?_
          refine VR.p rfl rfl (VP.move rfl) ?_
          obtain ⟨x, h12, hm⟩ := bnd hm
          refine VR.p rfl rfl (VP.glE T_api_Bound.vv rfl rfl el23 h12) ?_
          refine VR.p rfl rfl (VP.fieldE rfl fa56_1) ?_
          refine VR.p rfl rfl (VP.loadE rfl ld9 rfl) ?_
          obtain ⟨r2, h13, hm⟩ := bnd hm
          refine VR.cons rfl rfl (VO.callK 0 rfl fn70 rfl (ref11_zone_ok ms x.On r2 h13) fun _ _ h28 => ?_)
          obtain ⟨rfl, rfl⟩ := h28
          refine VR.p rfl rfl (VP.move rfl) ?_
          refine VR.p rfl rfl (VP.extract rfl rfl) ?_
          refine VR.p rfl rfl (VP.extract rfl rfl) ?_
          refine VR.p rfl rfl (VP.assign rfl) ?_
          refine VR.p rfl rfl (VP.assign rfl) ?_
          refine VR.nil ?_
          refine VW.seq ?_
          refine VW.drawK 0 mixed ?_
          refine VA.p 0 rfl rfl rfl (by kernel_rfl) (VP.move rfl) ?_
          refine VA.p 1 rfl rfl rfl (by kernel_rfl) (VP.move rfl) ?_
          obtain ⟨x2, h14, hm⟩ := bnd hm
          refine VA.p 2 rfl rfl rfl (by kernel_rfl) (VP.glE T_api_Bound.vv rfl rfl el23 h14) ?_
          refine VA.p 3 rfl rfl rfl (by kernel_rfl) (VP.fieldE rfl fa56_1) ?_
          refine VA.p 4 rfl rfl rfl (by kernel_rfl) (VP.loadE rfl ld9 rfl) ?_
          refine VA.p 5 rfl rfl rfl (by kernel_rfl) (VP.strop rfl rfl rfl) ?_
          refine VA.p 6 rfl rfl rfl (by kernel_rfl) (VP.move rfl) ?_
          obtain ⟨c, h17, hm⟩ := bnd hm
          refine VA.sc [16, 15, 14, 13, 12, 11, 10, 9, 8, 7, 6, 5, 4, 3, 2, 1, 0] 55 (.bool c) (fun K' J => ?_) ?_
          · have hm := h17
            rcases ite_or hm with ⟨h15, hm⟩ | ⟨h15, hm⟩
            · refine VA.pG 7 rfl rfl rfl rfl rfl h15 (by kernel_rfl) (VP.move rfl) ?_
              refine VA.pG 8 rfl rfl rfl rfl rfl h15 (by kernel_rfl) (VP.move rfl) ?_
              obtain ⟨x3, h16, hm⟩ := bnd hm
              refine VA.pG 9 rfl rfl rfl rfl rfl h15 (by kernel_rfl) (VP.glE T_api_Bound.vv rfl rfl el23 h16) ?_
              refine VA.pG 10 rfl rfl rfl rfl rfl h15 (by kernel_rfl) (VP.fieldE rfl fa56_0) ?_
              refine VA.pG 11 rfl rfl rfl rfl rfl h15 (by kernel_rfl) (VP.fieldE rfl fa31_0) ?_
              refine VA.pG 12 rfl rfl rfl rfl rfl h15 (by kernel_rfl) (VP.loadE rfl ld9 rfl) ?_
              refine VA.pG 13 rfl rfl rfl rfl rfl h15 (by kernel_rfl) (VP.fieldP rfl fa31_0) ?_
              refine VA.pG 14 rfl rfl rfl rfl rfl h15 (by kernel_rfl) (VP.loadP (i := 1) rfl rfl ld9 rfl) ?_
              refine VA.pG 15 rfl rfl rfl rfl rfl h15 (by kernel_rfl) (VP.strop rfl rfl rfl) ?_
              refine VA.p 16 rfl rfl rfl (by kernel_rfl) (VP.pickB true rfl h15 rfl) ?_
              exact J [_, _, _, _, _, _, _, _, _] _ rfl (congrArg VV.bool (Option.some.inj hm))
            · have h15 := bf h15
              refine VA.skipG 7 rfl rfl rfl rfl rfl h15 (by kernel_rfl) ?_
              refine VA.skipG 8 rfl rfl rfl rfl rfl h15 (by kernel_rfl) ?_
              refine VA.skipG 9 rfl rfl rfl rfl rfl h15 (by kernel_rfl) ?_
              refine VA.skipG 10 rfl rfl rfl rfl rfl h15 (by kernel_rfl) ?_
              refine VA.skipG 11 rfl rfl rfl rfl rfl h15 (by kernel_rfl) ?_
              refine VA.skipG 12 rfl rfl rfl rfl rfl h15 (by kernel_rfl) ?_
              refine VA.skipG 13 rfl rfl rfl rfl rfl h15 (by kernel_rfl) ?_
              refine VA.skipG 14 rfl rfl rfl rfl rfl h15 (by kernel_rfl) ?_
              refine VA.skipG 15 rfl rfl rfl rfl rfl h15 (by kernel_rfl) ?_
              refine VA.p 16 rfl rfl rfl (by kernel_rfl) (VP.pickB false rfl h15 rfl) ?_
              exact J [_, _, _, _, _, _, _, _, _] _ rfl (congrArg VV.bool (Option.some.inj hm))
          · refine VA.p 17 rfl rfl rfl (by kernel_rfl) (VP.move rfl) ?_
            refine VA.sc [19, 18, 17, 16, 15, 14, 13, 12, 11, 10, 9, 8, 7, 6, 5, 4, 3, 2, 1, 0] 58 (.bool (c && r2.2)) (fun K' J => ?_) ?_
            · rcases Bool.eq_false_or_eq_true c with h18 | h18
              · refine VA.pG 18 rfl rfl rfl rfl rfl h18 (by kernel_rfl) (VP.move rfl) ?_
                refine VA.p 19 rfl rfl rfl (by kernel_rfl) (VP.pickB true rfl h18 rfl) ?_
                exact J [_] _ rfl (andT h18)
              · refine VA.skipG 18 rfl rfl rfl rfl rfl h18 (by kernel_rfl) ?_
                refine VA.p 19 rfl rfl rfl (by kernel_rfl) (VP.pickB false rfl h18 rfl) ?_
                exact J [_] _ rfl (andF h18)
            · refine VA.p 20 rfl rfl rfl (by kernel_rfl) (VP.move rfl) ?_
              obtain ⟨c2, h21, hm⟩ := bnd hm
              refine VA.sc [27, 26, 25, 24, 23, 22, 21, 20, 19, 18, 17, 16, 15, 14, 13, 12, 11, 10, 9, 8, 7, 6, 5, 4, 3, 2, 1, 0] 66 (.bool c2) (fun K' J => ?_) ?_
              · have hm := h21
                rcases ite_or hm with ⟨h19, hm⟩ | ⟨h19, hm⟩
                · refine VA.pG 21 rfl rfl rfl rfl rfl h19 (by kernel_rfl) (VP.move rfl) ?_
                  refine VA.pG 22 rfl rfl rfl rfl rfl h19 (by kernel_rfl) (VP.move rfl) ?_
                  refine VA.pG 23 rfl rfl rfl rfl rfl h19 (by kernel_rfl) (VP.move rfl) ?_
                  obtain ⟨x4, h20, hm⟩ := bnd hm
                  refine VA.pG 24 rfl rfl rfl rfl rfl h19 (by kernel_rfl) (VP.glE VV.str rfl rfl el39 h20) ?_
                  refine VA.pG 25 rfl rfl rfl rfl rfl h19 (by kernel_rfl) (VP.loadE rfl ld9 rfl) ?_
                  refine VA.pG 26 rfl rfl rfl rfl rfl h19 (by kernel_rfl) (VP.strop rfl rfl rfl) ?_
                  refine VA.p 27 rfl rfl rfl (by kernel_rfl) (VP.pickB true rfl h19 rfl) ?_
                  exact J [_, _, _, _, _, _] _ rfl (congrArg VV.bool (Option.some.inj hm))
                · have h19 := bf h19
                  refine VA.skipG 21 rfl rfl rfl rfl rfl h19 (by kernel_rfl) ?_
                  refine VA.skipG 22 rfl rfl rfl rfl rfl h19 (by kernel_rfl) ?_
                  refine VA.skipG 23 rfl rfl rfl rfl rfl h19 (by kernel_rfl) ?_
                  refine VA.skipG 24 rfl rfl rfl rfl rfl h19 (by kernel_rfl) ?_
                  refine VA.skipG 25 rfl rfl rfl rfl rfl h19 (by kernel_rfl) ?_
                  refine VA.skipG 26 rfl rfl rfl rfl rfl h19 (by kernel_rfl) ?_
                  refine VA.p 27 rfl rfl rfl (by kernel_rfl) (VP.pickB false rfl h19 rfl) ?_
                  exact J [_, _, _, _, _, _] _ rfl (congrArg VV.bool (Option.some.inj hm))
              · refine VA.p 28 rfl rfl rfl (by kernel_rfl) (VP.move rfl) ?_
                obtain ⟨c3, h26, hm⟩ := bnd hm
                refine VA.sc [38, 37, 36, 35, 34, 33, 32, 31, 30, 29, 28, 27, 26, 25, 24, 23, 22, 21, 20, 19, 18, 17, 16, 15, 14, 13, 12, 11, 10, 9, 8, 7, 6, 5, 4, 3, 2, 1, 0] 77 (.bool c3) (fun K' J => ?_) ?_
                · have hm := h26
                  rcases ite_or hm with ⟨h22, hm⟩ | ⟨h22, hm⟩
                  · refine VA.pG 29 rfl rfl rfl rfl rfl h22 (by kernel_rfl) (VP.move rfl) ?_
                    refine VA.pG 30 rfl rfl rfl rfl rfl h22 (by kernel_rfl) (VP.move rfl) ?_
                    obtain ⟨x5, h23, hm⟩ := bnd hm
                    refine VA.pG 31 rfl rfl rfl rfl rfl h22 (by kernel_rfl) (VP.glE T_api_Bound.vv rfl rfl el23 h23) ?_
                    refine VA.pG 32 rfl rfl rfl rfl rfl h22 (by kernel_rfl) (VP.fieldE rfl fa56_0) ?_
                    refine VA.pG 33 rfl rfl rfl rfl rfl h22 (by kernel_rfl) (VP.fieldE rfl fa31_2) ?_
                    refine VA.pG 34 rfl rfl rfl rfl rfl h22 (by kernel_rfl) (VP.loadE rfl ld26 rfl) ?_
                    refine VA.pG 35 rfl rfl rfl rfl rfl h22 (by kernel_rfl) (VP.fieldP rfl fa31_9) ?_
                    refine VA.pG 36 rfl rfl rfl rfl rfl h22 (by kernel_rfl) (VP.loadP (i := 1) rfl rfl ld26 rfl) ?_
                    refine VA.all [37] (by kernel_rfl) ⟨?_, trivial⟩
                    obtain ⟨r3, h24, hm⟩ := bnd hm
                    refine VB.oG rfl rfl rfl rfl rfl h22 (VO.callK 0 rfl fn62 rfl (ref05_Has_ok x5.Pod.Labels p.Spread r3 h24) fun _ _ h25 => ?_)
                    obtain ⟨rfl, rfl⟩ := h25
                    refine VA.p 38 rfl rfl rfl (by kernel_rfl) (VP.pickB true rfl h22 rfl) ?_
                    exact J [_, _, _, _, _, _, _, _, _] _ rfl (congrArg VV.bool (Option.some.inj hm))
                  · have h22 := bf h22
                    refine VA.skipG 29 rfl rfl rfl rfl rfl h22 (by kernel_rfl) ?_
                    refine VA.skipG 30 rfl rfl rfl rfl rfl h22 (by kernel_rfl) ?_
                    refine VA.skipG 31 rfl rfl rfl rfl rfl h22 (by kernel_rfl) ?_
                    refine VA.skipG 32 rfl rfl rfl rfl rfl h22 (by kernel_rfl) ?_
                    refine VA.skipG 33 rfl rfl rfl rfl rfl h22 (by kernel_rfl) ?_
                    refine VA.skipG 34 rfl rfl rfl rfl rfl h22 (by kernel_rfl) ?_
                    refine VA.skipG 35 rfl rfl rfl rfl rfl h22 (by kernel_rfl) ?_
                    refine VA.skipG 36 rfl rfl rfl rfl rfl h22 (by kernel_rfl) ?_
                    refine VA.skipG 37 rfl rfl rfl rfl rfl h22 (by kernel_rfl) ?_
                    refine VA.p 38 rfl rfl rfl (by kernel_rfl) (VP.pickB false rfl h22 rfl) ?_
                    exact J [_, _, _, _, _, _, _, _, _] _ rfl (congrArg VV.bool (Option.some.inj hm))
                · refine VA.done (by kernel_rfl) ?_
                  rcases ite_or hm with ⟨h27, hm⟩ | ⟨h27, hm⟩
                  · refine VW.condT rfl h27 ?_
                    refine VW.region ?_
                    refine VR.p rfl rfl (VP.move rfl) ?_
                    refine VR.p rfl rfl (VP.arith rfl rfl rfl) ?_
                    refine VR.p rfl rfl (VP.assign rfl) ?_
                    refine VR.nil ?_
                    refine VW.region ?_
                    refine VR.p rfl rfl (VP.move rfl) ?_
                    refine VR.p rfl rfl (VP.arith rfl rfl rfl) ?_
                    refine VR.p rfl rfl (VP.assign rfl) ?_
                    refine VR.nil ?_
                    exact ⟨((IntKind.i64.wrap (k2 + (1 : Int))), (IntKind.i64.wrap (j2 + (1 : Int)))), (), hm, (Shift.pick [0, 0] rfl ⟨rfl, rfl, rfl, rfl, rfl, rfl, rfl, rfl, trivial⟩)⟩
                  · have h27 := bf h27
                    refine VW.condF rfl h27 ?_
                    refine VW.skip ?_
                    refine VW.region ?_
                    refine VR.p rfl rfl (VP.move rfl) ?_
                    refine VR.p rfl rfl (VP.arith rfl rfl rfl) ?_
                    refine VR.p rfl rfl (VP.assign rfl) ?_
                    refine VR.nil ?_
                    exact ⟨(k2, (IntKind.i64.wrap (j2 + (1 : Int)))), (), hm, (Shift.pick [0, 0] rfl ⟨rfl, rfl, rfl, rfl, rfl, rfl, rfl, rfl, trivial⟩)⟩
        · have h11 := bf h11
          refine VW.condF rfl h11 ?_
          refine VW.exit ?_
          exact ⟨k2, (), Option.some.inj hm, (Shift.pick [0, 0] rfl ⟨rfl, rfl, rfl, rfl, rfl, rfl, rfl, trivial⟩)⟩
      · rintro k32 _ rfl
        have hm := h10
        refine VW.region ?_
        refine VR.p rfl rfl (VP.move rfl) ?_
        refine VR.p rfl rfl (VP.move rfl) ?_
        refine VR.cons rfl rfl (VO.buildSlice ap29 rfl rfl rfl rfl rfl fun b2 => ?_)
        obtain ⟨n6, h30, hm⟩ := bnd hm
        refine VR.cons rfl rfl (VO.apT 1 (VV.int .i64) (l := n2) (l2 := [k32]) ap29 rfl rfl (sT_row 0 (VV.int .i64) el29 rfl rfl) h30 fun ob5 cap5 => ?_)
        refine VR.p rfl rfl (VP.assign rfl) ?_
        refine VR.nil ?_
        refine VW.region ?_
        refine VR.p rfl rfl (VP.move rfl) ?_
        refine VR.p rfl rfl (VP.arith rfl rfl rfl) ?_
        refine VR.p rfl rfl (VP.assign rfl) ?_
        refine VR.nil ?_
        exact ⟨(n6, (IntKind.i64.wrap (i2 + (1 : Int)))), (ob5, cap5), hm, (Shift.pick [1, 1] rfl ⟨rfl, rfl, rfl, rfl, rfl, rfl, trivial⟩)⟩
    · have h8 := bf h8
      refine VW.condF rfl h8 ?_
      refine VW.exit ?_
      exact ⟨n2, (ob3, cap3), Option.some.inj hm, (Shift.pick [0] rfl ⟨rfl, rfl, trivial⟩)⟩
  · rintro n32 ⟨ob4, cap4⟩ rfl
    have hm := h7
    refine VW.seq ?_
    refine VW.region ?_
    refine VR.p rfl rfl (VP.move rfl) ?_
    refine VR.p rfl rfl (VP.move rfl) ?_
    refine VR.p rfl rfl (VP.assign rfl) ?_
    refine VR.p rfl rfl (VP.assign rfl) ?_
    refine VR.nil ?_
    obtain rfl := Option.some.inj hm
    exact VW.ret ⟨.inl rfl, _, .cons (.tmp _ _ rfl) (.cons (.tmp _ _ rfl) .nil), [0], _, rfl, ob4, cap4, rfl, rfl⟩

end Go.Proofs.YtcblmlkpcplkfaaGreat.M

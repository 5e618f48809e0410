/-
  Printed by a program of this session out of the loaded functions: models and their proofs. Own text.
-/
import Derived.Test.YtcblmlkpcplkfaaR2F2
namespace Go.Proofs.Ytcblmlkpcplkfaa.M
open Go Go.Proofs Go.Proofs.Ytcblmlkpcplkfaa.V
set_option linter.unusedVariables false
set_option maxRecDepth 20000
set_option maxHeartbeats 4000000
/-! trireme/triremelaw12.known -/
def law12_known : Option Bool :=
  (fit_Put ([] : List T_api_Bound) (⟨(⟨#[112]⟩ : ByteArray), (⟨(600 : Int), (0 : Int), (0 : Int), (1 : Int), (0 : Int)⟩ : T_api_Res), ([] : List T_api_Label), ([] : List T_api_Label), ([] : List T_api_Term), ([] : List T_api_Toleration), ([] : List Int), ([] : List T_api_Label), false, ([] : List T_api_Label), (0 : Int), (0 : Int), (⟨#[]⟩ : ByteArray), false, false, false⟩ : T_api_Pod) (⟨#[109]⟩ : ByteArray)).bind fun r =>
  (fit_Tally [(⟨(⟨#[109]⟩ : ByteArray), (⟨#[]⟩ : ByteArray), (⟨(1000 : Int), (0 : Int), (0 : Int), (9 : Int), (0 : Int)⟩ : T_api_Res), ([] : List T_api_Label), ([] : List T_api_Taint), true⟩ : T_api_Machine)] r (⟨(⟨#[113]⟩ : ByteArray), (⟨(600 : Int), (0 : Int), (0 : Int), (1 : Int), (0 : Int)⟩ : T_api_Res), ([] : List T_api_Label), ([] : List T_api_Label), ([] : List T_api_Term), ([] : List T_api_Toleration), ([] : List Int), ([] : List T_api_Label), false, ([] : List T_api_Label), (0 : Int), (0 : Int), (⟨#[]⟩ : ByteArray), false, false, false⟩ : T_api_Pod)).bind fun r2 =>
  (fit_Where [(⟨(⟨#[109]⟩ : ByteArray), (⟨#[]⟩ : ByteArray), (⟨(1000 : Int), (0 : Int), (0 : Int), (9 : Int), (0 : Int)⟩ : T_api_Res), ([] : List T_api_Label), ([] : List T_api_Taint), true⟩ : T_api_Machine)] ([] : List T_api_Bound) (⟨(⟨#[112]⟩ : ByteArray), (⟨(600 : Int), (0 : Int), (0 : Int), (1 : Int), (0 : Int)⟩ : T_api_Res), ([] : List T_api_Label), ([] : List T_api_Label), ([] : List T_api_Term), ([] : List T_api_Toleration), ([] : List Int), ([] : List T_api_Label), false, ([] : List T_api_Label), (0 : Int), (0 : Int), (⟨#[]⟩ : ByteArray), false, false, false⟩ : T_api_Pod)).bind fun r3 =>
  (ref09_Texts r3 [(⟨#[109]⟩ : ByteArray)]).bind fun r4 =>
  (if (r4 && ((r.length : Int) == (1 : Int))) = true then (fit_Where [(⟨(⟨#[109]⟩ : ByteArray), (⟨#[]⟩ : ByteArray), (⟨(1000 : Int), (0 : Int), (0 : Int), (9 : Int), (0 : Int)⟩ : T_api_Res), ([] : List T_api_Label), ([] : List T_api_Taint), true⟩ : T_api_Machine)] r (⟨(⟨#[113]⟩ : ByteArray), (⟨(600 : Int), (0 : Int), (0 : Int), (1 : Int), (0 : Int)⟩ : T_api_Res), ([] : List T_api_Label), ([] : List T_api_Label), ([] : List T_api_Term), ([] : List T_api_Toleration), ([] : List Int), ([] : List T_api_Label), false, ([] : List T_api_Label), (0 : Int), (0 : Int), (⟨#[]⟩ : ByteArray), false, false, false⟩ : T_api_Pod)).bind fun r5 =>
  some ((r5.length : Int) == (0 : Int)) else some false).bind fun c =>
  (if (c && (r2.x2 == (1 : Int))) = true then (fit_Why [(⟨(⟨#[109]⟩ : ByteArray), (⟨#[]⟩ : ByteArray), (⟨(1000 : Int), (0 : Int), (0 : Int), (9 : Int), (0 : Int)⟩ : T_api_Res), ([] : List T_api_Label), ([] : List T_api_Taint), true⟩ : T_api_Machine)] r (⟨(⟨#[113]⟩ : ByteArray), (⟨(600 : Int), (0 : Int), (0 : Int), (1 : Int), (0 : Int)⟩ : T_api_Res), ([] : List T_api_Label), ([] : List T_api_Label), ([] : List T_api_Term), ([] : List T_api_Toleration), ([] : List Int), ([] : List T_api_Label), false, ([] : List T_api_Label), (0 : Int), (0 : Int), (⟨#[]⟩ : ByteArray), false, false, false⟩ : T_api_Pod) (⟨#[120]⟩ : ByteArray)).bind fun r6 =>
  some (r6 == (1 : Int)) else some false).bind fun c2 =>
  (if c2 = true then (fit_Why [(⟨(⟨#[109]⟩ : ByteArray), (⟨#[]⟩ : ByteArray), (⟨(1000 : Int), (0 : Int), (0 : Int), (9 : Int), (0 : Int)⟩ : T_api_Res), ([] : List T_api_Label), ([] : List T_api_Taint), true⟩ : T_api_Machine)] r (⟨(⟨#[113]⟩ : ByteArray), (⟨(600 : Int), (0 : Int), (0 : Int), (1 : Int), (0 : Int)⟩ : T_api_Res), ([] : List T_api_Label), ([] : List T_api_Label), ([] : List T_api_Term), ([] : List T_api_Toleration), ([] : List Int), ([] : List T_api_Label), false, ([] : List T_api_Label), (0 : Int), (0 : Int), (⟨#[]⟩ : ByteArray), false, false, false⟩ : T_api_Pod) (⟨#[109]⟩ : ByteArray)).bind fun r7 =>
  some (r7 == (2 : Int)) else some false).bind fun c3 =>
  (if c3 = true then (fit_Feasible [(⟨(⟨#[109]⟩ : ByteArray), (⟨#[]⟩ : ByteArray), (⟨(1000 : Int), (0 : Int), (0 : Int), (9 : Int), (0 : Int)⟩ : T_api_Res), ([] : List T_api_Label), ([] : List T_api_Taint), true⟩ : T_api_Machine)] r).bind fun r8 =>
  some r8 else some false).bind fun c4 =>
  (if c4 = true then (fit_Put r (⟨(⟨#[113]⟩ : ByteArray), (⟨(600 : Int), (0 : Int), (0 : Int), (1 : Int), (0 : Int)⟩ : T_api_Res), ([] : List T_api_Label), ([] : List T_api_Label), ([] : List T_api_Term), ([] : List T_api_Toleration), ([] : List Int), ([] : List T_api_Label), false, ([] : List T_api_Label), (0 : Int), (0 : Int), (⟨#[]⟩ : ByteArray), false, false, false⟩ : T_api_Pod) (⟨#[109]⟩ : ByteArray)).bind fun r9 =>
  (fit_Feasible [(⟨(⟨#[109]⟩ : ByteArray), (⟨#[]⟩ : ByteArray), (⟨(1000 : Int), (0 : Int), (0 : Int), (9 : Int), (0 : Int)⟩ : T_api_Res), ([] : List T_api_Label), ([] : List T_api_Taint), true⟩ : T_api_Machine)] r9).bind fun r10 =>
  some (!r10) else some false).bind fun c5 =>
  some c5
theorem law12_known_ok (r : Bool) (hm : law12_known = some r) :
    VC Try.prog 35 [] [] (fun zx zH => zx = .bool r ∧ zH = []) := by
  unfold law12_known at hm
  refine VC.run (c := _) (rs := [.tmp 0]) Try.func35 rfl rfl rfl ?_
  refine VW.seq ?_
  refine VW.region ?_
  refine VR.p rfl rfl (VP.assign rfl) ?_
  refine VR.nil ?_
  refine VW.seq ?_
  refine VW.region ?_
  refine VR.p rfl rfl (VP.buildP pl23 rfl rfl) ?_
  refine VR.p rfl rfl (VP.buildP pl27 rfl rfl) ?_
  refine VR.shift (Shift.trans (Shift.nilRow 79) (Shift.trans (Shift.freezeE 0 [(7, .agg [.str (⟨#[109]⟩ : ByteArray), .str (⟨#[]⟩ : ByteArray), .int .i64 (1000 : Int), .int .i64 (0 : Int), .int .i64 (0 : Int), .int .i64 (9 : Int), .int .i64 (0 : Int), .list 79 (List.map T_api_Label.vv ([] : List T_api_Label)), .sl none 0 0, .bool true])] rfl ⟨⟨_, rfl, .aggL ⟨.same _, .same _, .same _, .same _, .same _, .same _, .same _, .here _ rfl, .same _, .same _, trivial⟩⟩, trivial⟩ (FzH.refl _)) (Shift.trans (Shift.nilRow 97) (Shift.freezeE 0 [(7, T_api_Machine.vv (⟨(⟨#[109]⟩ : ByteArray), (⟨#[]⟩ : ByteArray), (⟨(1000 : Int), (0 : Int), (0 : Int), (9 : Int), (0 : Int)⟩ : T_api_Res), ([] : List T_api_Label), ([] : List T_api_Taint), true⟩ : T_api_Machine))] rfl ⟨⟨_, rfl, .aggL ⟨.same _, .same _, .same _, .same _, .same _, .same _, .same _, .same _, .here _ rfl, .same _, trivial⟩⟩, trivial⟩ (FzH.refl _))))) ?_
  refine VR.cons rfl rfl (VO.buildSlice ap37 rfl rfl rfl rfl rfl fun b => ?_)
  refine VR.shift (Shift.freezeE 0 [(8, .list 27 (List.map T_api_Machine.vv [(⟨(⟨#[109]⟩ : ByteArray), (⟨#[]⟩ : ByteArray), (⟨(1000 : Int), (0 : Int), (0 : Int), (9 : Int), (0 : Int)⟩ : T_api_Res), ([] : List T_api_Label), ([] : List T_api_Taint), true⟩ : T_api_Machine)]))] rfl ⟨⟨_, rfl, .here _ rfl⟩, trivial⟩ (FzH.refl _)) ?_
  refine VR.p rfl rfl (VP.assign rfl) ?_
  refine VR.nil ?_
  refine VW.seq ?_
  refine VW.region ?_
  refine VR.p rfl rfl (VP.buildP pl23 rfl rfl) ?_
  refine VR.p rfl rfl (VP.buildP pl33 rfl rfl) ?_
  refine VR.cons rfl rfl (VO.alloc z33 fun b2 => ?_)
  refine VR.cons rfl rfl (VO.storeP (i := 0) rfl rfl rfl ld33 rfl rfl rfl ?_)
  refine VR.nil ?_
  refine VW.seq ?_
  refine VW.region ?_
  refine VR.p rfl rfl (VP.buildP pl23 rfl rfl) ?_
  refine VR.p rfl rfl (VP.buildP pl33 rfl rfl) ?_
  refine VR.cons rfl rfl (VO.alloc z33 fun b3 => ?_)
  refine VR.cons rfl rfl (VO.storeP (i := 0) rfl rfl rfl ld33 rfl rfl rfl ?_)
  refine VR.nil ?_
  refine VW.seq ?_
  refine VW.region ?_
  refine VR.p rfl rfl (VP.loadP (i := 1) rfl rfl ld33 rfl) ?_
  obtain ⟨r, h4, hm⟩ := bnd hm
  refine VR.cons rfl rfl (VO.callN 0 [.nil 49, .agg [none, none, none, none, none, none, some 79, some 79, some 74, some 55, some 3, some 79, none, some 79], .same] rfl fn40 rfl (fit_Put_ok ([] : List T_api_Bound) (⟨(⟨#[112]⟩ : ByteArray), (⟨(600 : Int), (0 : Int), (0 : Int), (1 : Int), (0 : Int)⟩ : T_api_Res), ([] : List T_api_Label), ([] : List T_api_Label), ([] : List T_api_Term), ([] : List T_api_Toleration), ([] : List Int), ([] : List T_api_Label), false, ([] : List T_api_Label), (0 : Int), (0 : Int), (⟨#[]⟩ : ByteArray), false, false, false⟩ : T_api_Pod) (⟨#[109]⟩ : ByteArray) r h4) fun _ _ h41 => ?_)
  obtain ⟨ob, cap, rfl, rfl⟩ := h41
  refine VR.shift (Shift.freezeE 0 [(14, .list 49 (List.map T_api_Bound.vv r))] rfl ⟨⟨_, rfl, .here _ rfl⟩, trivial⟩ (FzH.refl _)) ?_
  refine VR.p rfl rfl (VP.assign rfl) ?_
  refine VR.nil ?_
  refine VW.seq ?_
  refine VW.region ?_
  refine VR.p rfl rfl (VP.move rfl) ?_
  refine VR.p rfl rfl (VP.move rfl) ?_
  refine VR.p rfl rfl (VP.loadP (i := 0) rfl rfl ld33 rfl) ?_
  obtain ⟨r2, h6, hm⟩ := bnd hm
  refine VR.cons rfl rfl (VO.callN 0 [.same, .same, .agg [none, none, none, none, none, none, some 79, some 79, some 74, some 55, some 3, some 79, none, some 79]] rfl fn36 rfl (fit_Tally_ok [(⟨(⟨#[109]⟩ : ByteArray), (⟨#[]⟩ : ByteArray), (⟨(1000 : Int), (0 : Int), (0 : Int), (9 : Int), (0 : Int)⟩ : T_api_Res), ([] : List T_api_Label), ([] : List T_api_Taint), true⟩ : T_api_Machine)] r (⟨(⟨#[113]⟩ : ByteArray), (⟨(600 : Int), (0 : Int), (0 : Int), (1 : Int), (0 : Int)⟩ : T_api_Res), ([] : List T_api_Label), ([] : List T_api_Label), ([] : List T_api_Term), ([] : List T_api_Toleration), ([] : List Int), ([] : List T_api_Label), false, ([] : List T_api_Label), (0 : Int), (0 : Int), (⟨#[]⟩ : ByteArray), false, false, false⟩ : T_api_Pod) r2 h6) fun _ _ h40 => ?_)
  obtain ⟨rfl, rfl⟩ := h40
  refine VR.cons rfl rfl (VO.alloc z63 fun b4 => ?_)
  refine VR.cons rfl rfl (VO.storeP (i := 0) rfl rfl rfl ld63 rfl rfl rfl ?_)
  refine VR.nil ?_
  refine VW.seq ?_
  refine VW.region ?_
  refine VR.p rfl rfl (VP.move rfl) ?_
  refine VR.p rfl rfl (VP.loadP (i := 2) rfl rfl ld33 rfl) ?_
  obtain ⟨r3, h8, hm⟩ := bnd hm
  refine VR.cons rfl rfl (VO.callN 0 [.same, .nil 49, .agg [none, none, none, none, none, none, some 79, some 79, some 74, some 55, some 3, some 79, none, some 79]] rfl fn37 rfl (fit_Where_ok [(⟨(⟨#[109]⟩ : ByteArray), (⟨#[]⟩ : ByteArray), (⟨(1000 : Int), (0 : Int), (0 : Int), (9 : Int), (0 : Int)⟩ : T_api_Res), ([] : List T_api_Label), ([] : List T_api_Taint), true⟩ : T_api_Machine)] ([] : List T_api_Bound) (⟨(⟨#[112]⟩ : ByteArray), (⟨(600 : Int), (0 : Int), (0 : Int), (1 : Int), (0 : Int)⟩ : T_api_Res), ([] : List T_api_Label), ([] : List T_api_Label), ([] : List T_api_Term), ([] : List T_api_Toleration), ([] : List Int), ([] : List T_api_Label), false, ([] : List T_api_Label), (0 : Int), (0 : Int), (⟨#[]⟩ : ByteArray), false, false, false⟩ : T_api_Pod) r3 h8) fun _ _ h39 => ?_)
  obtain ⟨ob2, cap2, rfl, rfl⟩ := h39
  refine VR.shift (Shift.freezeE 0 [(21, .list 9 (List.map VV.str r3))] rfl ⟨⟨_, rfl, .here _ rfl⟩, trivial⟩ (FzH.refl _)) ?_
  refine VR.cons rfl rfl (VO.buildSlice ap65 rfl rfl rfl rfl rfl fun b5 => ?_)
  refine VR.shift (Shift.freezeE 0 [(22, .list 9 (List.map VV.str [(⟨#[109]⟩ : ByteArray)]))] rfl ⟨⟨_, rfl, .here _ rfl⟩, trivial⟩ (FzH.refl _)) ?_
  obtain ⟨r4, h11, hm⟩ := bnd hm
  refine VR.cons rfl rfl (VO.callK 0 rfl fn63 rfl (ref09_Texts_ok r3 [(⟨#[109]⟩ : ByteArray)] r4 h11) fun _ _ h38 => ?_)
  obtain ⟨rfl, rfl⟩ := h38
  refine VR.p rfl rfl (VP.move rfl) ?_
  refine VR.sc 4 28 (.bool (r4 && ((r.length : Int) == (1 : Int)))) (fun K' J => ?_) ?_
  · rcases Bool.eq_false_or_eq_true r4 with h12 | h12
    · refine VR.pG rfl rfl rfl rfl h12 (VP.move rfl) ?_
      refine VR.pG rfl rfl rfl rfl h12 (VP.lenT T_api_Bound.vv rfl Try.underlying28) ?_
      refine VR.pG rfl rfl rfl rfl h12 (VP.arith rfl rfl rfl) ?_
      refine VR.p rfl rfl (VP.pickB true rfl h12 rfl) ?_
      exact J [_, _, _] _ rfl (andT h12)
    · refine VR.skipG rfl rfl rfl rfl h12 ?_
      refine VR.skipG rfl rfl rfl rfl h12 ?_
      refine VR.skipG rfl rfl rfl rfl h12 ?_
      refine VR.p rfl rfl (VP.pickB false rfl h12 rfl) ?_
      exact J [_, _, _] _ rfl (andF h12)
  · refine VR.p rfl rfl (VP.move rfl) ?_
    obtain ⟨c, h17, hm⟩ := bnd hm
    refine VR.sc 7 36 (.bool c) (fun K' J => ?_) ?_
    · have hm := h17
      rcases ite_or hm with ⟨h13, hm⟩ | ⟨h13, hm⟩
      · refine VR.pG rfl rfl rfl rfl h13 (VP.move rfl) ?_
        refine VR.pG rfl rfl rfl rfl h13 (VP.move rfl) ?_
        refine VR.pG rfl rfl rfl rfl h13 (VP.loadP (i := 1) rfl rfl ld33 rfl) ?_
        obtain ⟨r5, h14, hm⟩ := bnd hm
        refine VR.consG rfl rfl rfl rfl h13 (VO.callN 0 [.same, .same, .agg [none, none, none, none, none, none, some 79, some 79, some 74, some 55, some 3, some 79, none, some 79]] rfl fn37 rfl (fit_Where_ok [(⟨(⟨#[109]⟩ : ByteArray), (⟨#[]⟩ : ByteArray), (⟨(1000 : Int), (0 : Int), (0 : Int), (9 : Int), (0 : Int)⟩ : T_api_Res), ([] : List T_api_Label), ([] : List T_api_Taint), true⟩ : T_api_Machine)] r (⟨(⟨#[113]⟩ : ByteArray), (⟨(600 : Int), (0 : Int), (0 : Int), (1 : Int), (0 : Int)⟩ : T_api_Res), ([] : List T_api_Label), ([] : List T_api_Label), ([] : List T_api_Term), ([] : List T_api_Toleration), ([] : List Int), ([] : List T_api_Label), false, ([] : List T_api_Label), (0 : Int), (0 : Int), (⟨#[]⟩ : ByteArray), false, false, false⟩ : T_api_Pod) r5 h14) fun _ _ h16 => ?_)
        obtain ⟨ob3, cap3, rfl, rfl⟩ := h16
        refine VR.shift (Shift.freezeE 0 [(33, .list 9 (List.map VV.str r5))] rfl ⟨⟨_, rfl, .here _ rfl⟩, trivial⟩ (FzH.refl _)) ?_
        refine VR.pG rfl rfl rfl rfl h13 (VP.lenT VV.str rfl Try.underlying65) ?_
        refine VR.pG rfl rfl rfl rfl h13 (VP.arith rfl rfl rfl) ?_
        refine VR.p rfl rfl (VP.pickB true rfl h13 rfl) ?_
        exact J [_, _, _, _, _, _, _] _ rfl (congrArg VV.bool (Option.some.inj hm))
      · have h13 := bf h13
        refine VR.skipG rfl rfl rfl rfl h13 ?_
        refine VR.skipG rfl rfl rfl rfl h13 ?_
        refine VR.skipG rfl rfl rfl rfl h13 ?_
        refine VR.skipG rfl rfl rfl rfl h13 ?_
        refine VR.skipG rfl rfl rfl rfl h13 ?_
        refine VR.skipG rfl rfl rfl rfl h13 ?_
        refine VR.p rfl rfl (VP.pickB false rfl h13 rfl) ?_
        exact J [_, _, _, _, _, _] _ rfl (congrArg VV.bool (Option.some.inj hm))
    · refine VR.p rfl rfl (VP.move rfl) ?_
      refine VR.sc 4 41 (.bool (c && (r2.x2 == (1 : Int)))) (fun K' J => ?_) ?_
      · rcases Bool.eq_false_or_eq_true c with h18 | h18
        · refine VR.pG rfl rfl rfl rfl h18 (VP.indexA rfl rfl ar63 (by decide) (by decide)) ?_
          refine VR.pG rfl rfl rfl rfl h18 (VP.loadP (i := 0) rfl rfl ld3 rfl) ?_
          refine VR.pG rfl rfl rfl rfl h18 (VP.arith rfl rfl rfl) ?_
          refine VR.p rfl rfl (VP.pickB true rfl h18 rfl) ?_
          exact J [_, _, _] _ rfl (andT h18)
        · refine VR.skipG rfl rfl rfl rfl h18 ?_
          refine VR.skipG rfl rfl rfl rfl h18 ?_
          refine VR.skipG rfl rfl rfl rfl h18 ?_
          refine VR.p rfl rfl (VP.pickB false rfl h18 rfl) ?_
          exact J [_, _, _] _ rfl (andF h18)
      · refine VR.p rfl rfl (VP.move rfl) ?_
        obtain ⟨c2, h22, hm⟩ := bnd hm
        refine VR.sc 6 48 (.bool c2) (fun K' J => ?_) ?_
        · have hm := h22
          rcases ite_or hm with ⟨h19, hm⟩ | ⟨h19, hm⟩
          · refine VR.pG rfl rfl rfl rfl h19 (VP.move rfl) ?_
            refine VR.pG rfl rfl rfl rfl h19 (VP.move rfl) ?_
            refine VR.pG rfl rfl rfl rfl h19 (VP.loadP (i := 1) rfl rfl ld33 rfl) ?_
            obtain ⟨r6, h20, hm⟩ := bnd hm
            refine VR.consG rfl rfl rfl rfl h19 (VO.callN 0 [.same, .same, .agg [none, none, none, none, none, none, some 79, some 79, some 74, some 55, some 3, some 79, none, some 79], .same] rfl fn38 rfl (fit_Why_ok [(⟨(⟨#[109]⟩ : ByteArray), (⟨#[]⟩ : ByteArray), (⟨(1000 : Int), (0 : Int), (0 : Int), (9 : Int), (0 : Int)⟩ : T_api_Res), ([] : List T_api_Label), ([] : List T_api_Taint), true⟩ : T_api_Machine)] r (⟨(⟨#[113]⟩ : ByteArray), (⟨(600 : Int), (0 : Int), (0 : Int), (1 : Int), (0 : Int)⟩ : T_api_Res), ([] : List T_api_Label), ([] : List T_api_Label), ([] : List T_api_Term), ([] : List T_api_Toleration), ([] : List Int), ([] : List T_api_Label), false, ([] : List T_api_Label), (0 : Int), (0 : Int), (⟨#[]⟩ : ByteArray), false, false, false⟩ : T_api_Pod) (⟨#[120]⟩ : ByteArray) r6 h20) fun _ _ h21 => ?_)
            obtain ⟨rfl, rfl⟩ := h21
            refine VR.pG rfl rfl rfl rfl h19 (VP.arith rfl rfl rfl) ?_
            refine VR.p rfl rfl (VP.pickB true rfl h19 rfl) ?_
            exact J [_, _, _, _, _] _ rfl (congrArg VV.bool (Option.some.inj hm))
          · have h19 := bf h19
            refine VR.skipG rfl rfl rfl rfl h19 ?_
            refine VR.skipG rfl rfl rfl rfl h19 ?_
            refine VR.skipG rfl rfl rfl rfl h19 ?_
            refine VR.skipG rfl rfl rfl rfl h19 ?_
            refine VR.skipG rfl rfl rfl rfl h19 ?_
            refine VR.p rfl rfl (VP.pickB false rfl h19 rfl) ?_
            exact J [_, _, _, _, _] _ rfl (congrArg VV.bool (Option.some.inj hm))
        · refine VR.p rfl rfl (VP.move rfl) ?_
          obtain ⟨c3, h26, hm⟩ := bnd hm
          refine VR.sc 6 55 (.bool c3) (fun K' J => ?_) ?_
          · have hm := h26
            rcases ite_or hm with ⟨h23, hm⟩ | ⟨h23, hm⟩
            · refine VR.pG rfl rfl rfl rfl h23 (VP.move rfl) ?_
              refine VR.pG rfl rfl rfl rfl h23 (VP.move rfl) ?_
              refine VR.pG rfl rfl rfl rfl h23 (VP.loadP (i := 1) rfl rfl ld33 rfl) ?_
              obtain ⟨r7, h24, hm⟩ := bnd hm
              refine VR.consG rfl rfl rfl rfl h23 (VO.callN 0 [.same, .same, .agg [none, none, none, none, none, none, some 79, some 79, some 74, some 55, some 3, some 79, none, some 79], .same] rfl fn38 rfl (fit_Why_ok [(⟨(⟨#[109]⟩ : ByteArray), (⟨#[]⟩ : ByteArray), (⟨(1000 : Int), (0 : Int), (0 : Int), (9 : Int), (0 : Int)⟩ : T_api_Res), ([] : List T_api_Label), ([] : List T_api_Taint), true⟩ : T_api_Machine)] r (⟨(⟨#[113]⟩ : ByteArray), (⟨(600 : Int), (0 : Int), (0 : Int), (1 : Int), (0 : Int)⟩ : T_api_Res), ([] : List T_api_Label), ([] : List T_api_Label), ([] : List T_api_Term), ([] : List T_api_Toleration), ([] : List Int), ([] : List T_api_Label), false, ([] : List T_api_Label), (0 : Int), (0 : Int), (⟨#[]⟩ : ByteArray), false, false, false⟩ : T_api_Pod) (⟨#[109]⟩ : ByteArray) r7 h24) fun _ _ h25 => ?_)
              obtain ⟨rfl, rfl⟩ := h25
              refine VR.pG rfl rfl rfl rfl h23 (VP.arith rfl rfl rfl) ?_
              refine VR.p rfl rfl (VP.pickB true rfl h23 rfl) ?_
              exact J [_, _, _, _, _] _ rfl (congrArg VV.bool (Option.some.inj hm))
            · have h23 := bf h23
              refine VR.skipG rfl rfl rfl rfl h23 ?_
              refine VR.skipG rfl rfl rfl rfl h23 ?_
              refine VR.skipG rfl rfl rfl rfl h23 ?_
              refine VR.skipG rfl rfl rfl rfl h23 ?_
              refine VR.skipG rfl rfl rfl rfl h23 ?_
              refine VR.p rfl rfl (VP.pickB false rfl h23 rfl) ?_
              exact J [_, _, _, _, _] _ rfl (congrArg VV.bool (Option.some.inj hm))
          · refine VR.p rfl rfl (VP.move rfl) ?_
            obtain ⟨c4, h30, hm⟩ := bnd hm
            refine VR.sc 4 60 (.bool c4) (fun K' J => ?_) ?_
            · have hm := h30
              rcases ite_or hm with ⟨h27, hm⟩ | ⟨h27, hm⟩
              · refine VR.pG rfl rfl rfl rfl h27 (VP.move rfl) ?_
                refine VR.pG rfl rfl rfl rfl h27 (VP.move rfl) ?_
                obtain ⟨r8, h28, hm⟩ := bnd hm
                refine VR.consG rfl rfl rfl rfl h27 (VO.callK 0 rfl fn39 rfl (fit_Feasible_ok [(⟨(⟨#[109]⟩ : ByteArray), (⟨#[]⟩ : ByteArray), (⟨(1000 : Int), (0 : Int), (0 : Int), (9 : Int), (0 : Int)⟩ : T_api_Res), ([] : List T_api_Label), ([] : List T_api_Taint), true⟩ : T_api_Machine)] r r8 h28) fun _ _ h29 => ?_)
                obtain ⟨rfl, rfl⟩ := h29
                refine VR.p rfl rfl (VP.pickB true rfl h27 rfl) ?_
                exact J [_, _, _] _ rfl (congrArg VV.bool (Option.some.inj hm))
              · have h27 := bf h27
                refine VR.skipG rfl rfl rfl rfl h27 ?_
                refine VR.skipG rfl rfl rfl rfl h27 ?_
                refine VR.skipG rfl rfl rfl rfl h27 ?_
                refine VR.p rfl rfl (VP.pickB false rfl h27 rfl) ?_
                exact J [_, _, _] _ rfl (congrArg VV.bool (Option.some.inj hm))
            · refine VR.p rfl rfl (VP.move rfl) ?_
              obtain ⟨c5, h37, hm⟩ := bnd hm
              refine VR.sc 7 68 (.bool c5) (fun K' J => ?_) ?_
              · have hm := h37
                rcases ite_or hm with ⟨h31, hm⟩ | ⟨h31, hm⟩
                · refine VR.pG rfl rfl rfl rfl h31 (VP.move rfl) ?_
                  refine VR.pG rfl rfl rfl rfl h31 (VP.move rfl) ?_
                  refine VR.pG rfl rfl rfl rfl h31 (VP.loadP (i := 1) rfl rfl ld33 rfl) ?_
                  obtain ⟨r9, h32, hm⟩ := bnd hm
                  refine VR.consG rfl rfl rfl rfl h31 (VO.callN 0 [.same, .agg [none, none, none, none, none, none, some 79, some 79, some 74, some 55, some 3, some 79, none, some 79], .same] rfl fn40 rfl (fit_Put_ok r (⟨(⟨#[113]⟩ : ByteArray), (⟨(600 : Int), (0 : Int), (0 : Int), (1 : Int), (0 : Int)⟩ : T_api_Res), ([] : List T_api_Label), ([] : List T_api_Label), ([] : List T_api_Term), ([] : List T_api_Toleration), ([] : List Int), ([] : List T_api_Label), false, ([] : List T_api_Label), (0 : Int), (0 : Int), (⟨#[]⟩ : ByteArray), false, false, false⟩ : T_api_Pod) (⟨#[109]⟩ : ByteArray) r9 h32) fun _ _ h36 => ?_)
                  obtain ⟨ob4, cap4, rfl, rfl⟩ := h36
                  refine VR.shift (Shift.freezeE 0 [(65, .list 49 (List.map T_api_Bound.vv r9))] rfl ⟨⟨_, rfl, .here _ rfl⟩, trivial⟩ (FzH.refl _)) ?_
                  obtain ⟨r10, h34, hm⟩ := bnd hm
                  refine VR.consG rfl rfl rfl rfl h31 (VO.callK 0 rfl fn39 rfl (fit_Feasible_ok [(⟨(⟨#[109]⟩ : ByteArray), (⟨#[]⟩ : ByteArray), (⟨(1000 : Int), (0 : Int), (0 : Int), (9 : Int), (0 : Int)⟩ : T_api_Res), ([] : List T_api_Label), ([] : List T_api_Taint), true⟩ : T_api_Machine)] r9 r10 h34) fun _ _ h35 => ?_)
                  obtain ⟨rfl, rfl⟩ := h35
                  refine VR.pG rfl rfl rfl rfl h31 (VP.not rfl) ?_
                  refine VR.p rfl rfl (VP.pickB true rfl h31 rfl) ?_
                  exact J [_, _, _, _, _, _, _] _ rfl (congrArg VV.bool (Option.some.inj hm))
                · have h31 := bf h31
                  refine VR.skipG rfl rfl rfl rfl h31 ?_
                  refine VR.skipG rfl rfl rfl rfl h31 ?_
                  refine VR.skipG rfl rfl rfl rfl h31 ?_
                  refine VR.skipG rfl rfl rfl rfl h31 ?_
                  refine VR.skipG rfl rfl rfl rfl h31 ?_
                  refine VR.skipG rfl rfl rfl rfl h31 ?_
                  refine VR.p rfl rfl (VP.pickB false rfl h31 rfl) ?_
                  exact J [_, _, _, _, _, _] _ rfl (congrArg VV.bool (Option.some.inj hm))
              · refine VR.p rfl rfl (VP.assign rfl) ?_
                refine VR.nil ?_
                obtain rfl := Option.some.inj hm
                exact VW.ret ⟨.inl rfl, _, .cons (.tmp _ _ rfl) .nil, [], _, rfl, rfl, rfl⟩

/-! trireme/triremelaw12.FitOnce -/
def law12_FitOnce.l1 (r3 : Arr9_Int) : Nat → Int → Int → Option Int
  | 0, _, _ => none
  | n + 1, sum2, i2 =>
    if (decide (i2 < (9 : Int))) = true then
      (V.gl (Arr9_Int.l r3) i2).bind fun x =>
      law12_FitOnce.l1 r3 n (IntKind.i64.wrap (sum2 + x)) (IntKind.i64.wrap (i2 + (1 : Int)))
    else
      some sum2
def law12_FitOnce.l2 (ms : List T_api_Machine) (bs : List T_api_Bound) (p : T_api_Pod) (r4 : List ByteArray) : Nat → Int → Option (Out Bool Unit)
  | 0, _ => none
  | n2 + 1, i4 =>
    if (decide (i4 < (r4.length : Int))) = true then
      (V.gl r4 i4).bind fun x2 =>
      (fit_Why ms bs p x2).bind fun r5 =>
      if (r5 != (0 : Int)) = true then
        some (Out.ret false)
      else
        law12_FitOnce.l2 ms bs p r4 n2 (IntKind.i64.wrap (i4 + (1 : Int)))
    else
      some (Out.go ())
def law12_FitOnce (ms : List T_api_Machine) (bs : List T_api_Bound) (p : T_api_Pod) : Option Bool :=
  (law12_right ms bs p).bind fun r =>
  if (!r) = true then
    (law12_known).bind fun r2 =>
    some r2
  else
    (fit_Tally ms bs p).bind fun r3 =>
    (law12_FitOnce.l1 r3 FU (0 : Int) (0 : Int)).bind fun sum32 =>
    (fit_Where ms bs p).bind fun r4 =>
    (law12_FitOnce.l2 ms bs p r4 FU (0 : Int)).bind fun o2 =>
    o2.on fun j =>
    (if ((sum32 == (ms.length : Int)) && (r3.x0 == (r4.length : Int))) = true then (law12_known).bind fun r6 =>
    some r6 else some false).bind fun c =>
    some c
theorem law12_FitOnce_ok (ms : List T_api_Machine) (bs : List T_api_Bound) (p : T_api_Pod) (r : Bool) (hm : law12_FitOnce ms bs p = some r) :
    VC Try.prog 9 [.list 27 (List.map T_api_Machine.vv ms), .list 49 (List.map T_api_Bound.vv bs), T_api_Pod.vv p] [] (fun zx zH => zx = .bool r ∧ zH = []) := by
  unfold law12_FitOnce at hm
  refine VC.run (c := _) (rs := [.tmp 6]) Try.func9 rfl rfl rfl ?_
  refine VW.seq ?_
  refine VW.region ?_
  refine VR.cons rfl rfl (VO.box rfl rfl fun b => ?_)
  refine VR.p rfl rfl (VP.assign rfl) ?_
  refine VR.nil ?_
  refine VW.seq ?_
  refine VW.seq ?_
  refine VW.region ?_
  refine VR.p rfl rfl (VP.move rfl) ?_
  refine VR.p rfl rfl (VP.move rfl) ?_
  refine VR.p rfl rfl (VP.loadP (i := 0) rfl rfl ld33 rfl) ?_
  obtain ⟨r, h2, hm⟩ := bnd hm
  refine VR.cons rfl rfl (VO.callK 0 rfl fn34 rfl (law12_right_ok ms bs p r h2) fun _ _ h28 => ?_)
  obtain ⟨rfl, rfl⟩ := h28
  refine VR.p rfl rfl (VP.not rfl) ?_
  refine VR.nil ?_
  rcases ite_or hm with ⟨h3, hm⟩ | ⟨h3, hm⟩
  · refine VW.condT rfl h3 ?_
    refine VW.seq ?_
    refine VW.region ?_
    obtain ⟨r2, h4, hm⟩ := bnd hm
    refine VR.cons rfl rfl (VO.callK 0 rfl fn35 rfl (law12_known_ok r2 h4) fun _ _ h5 => ?_)
    obtain ⟨rfl, rfl⟩ := h5
    refine VR.p rfl rfl (VP.assign rfl) ?_
    refine VR.nil ?_
    obtain rfl := Option.some.inj hm
    exact VW.ret ⟨.inl rfl, _, .cons (.tmp _ _ rfl) .nil, [], _, rfl, rfl, rfl⟩
  · have h3 := bf h3
    refine VW.condF rfl h3 ?_
    refine VW.skip ?_
    refine VW.seq ?_
    refine VW.region ?_
    refine VR.p rfl rfl (VP.move rfl) ?_
    refine VR.p rfl rfl (VP.move rfl) ?_
    refine VR.p rfl rfl (VP.loadP (i := 0) rfl rfl ld33 rfl) ?_
    obtain ⟨r3, h6, hm⟩ := bnd hm
    refine VR.cons rfl rfl (VO.callK 0 rfl fn36 rfl (fit_Tally_ok ms bs p r3 h6) fun _ _ h27 => ?_)
    obtain ⟨rfl, rfl⟩ := h27
    refine VR.cons rfl rfl (VO.alloc z63 fun b2 => ?_)
    refine VR.cons rfl rfl (VO.storeP (i := 0) rfl rfl rfl ld63 rfl rfl rfl ?_)
    refine VR.nil ?_
    refine VW.seq ?_
    refine VW.region ?_
    refine VR.p rfl rfl (VP.assign rfl) ?_
    refine VR.nil ?_
    refine VW.seq ?_
    refine VW.seq ?_
    refine VW.region ?_
    refine VR.p rfl rfl (VP.assign rfl) ?_
    refine VR.nil ?_
    obtain ⟨o, h8, h9⟩ := bnd hm
    refine VW.joinE (fun (q : Int) => q = o) (fun (sum32 : Int) (gg : Unit) => [(0, .list 27 (List.map T_api_Machine.vv ms)), (1, .list 49 (List.map T_api_Bound.vv bs)), (5, .ptr b 0), (7, .ptr b2 0), (8, .int .i64 sum32)]) (fun (sum32 : Int) (gg : Unit) => [.box b2 63 (Arr9_Int.cells r3), .box b 33 (T_api_Pod.cells p)]) ?_ ?_
    · have hm := h8
      refine VW.block (VW.loop FU ?_)
      refine VL.fuelS (R := _) (fun zn (zs : Int × Int) => law12_FitOnce.l1 r3 zn zs.1 zs.2) (fun (zs : Int × Int) (zg : Unit) => [(0, .list 27 (List.map T_api_Machine.vv ms)), (1, .list 49 (List.map T_api_Bound.vv bs)), (5, .ptr b 0), (7, .ptr b2 0), (8, .int .i64 zs.1), (9, .int .i64 zs.2)]) (fun (zs : Int × Int) (zg : Unit) => [.box b2 63 (Arr9_Int.cells r3), .box b 33 (T_api_Pod.cells p)]) ((0 : Int), (0 : Int)) () (fun zs => rfl) (Shift.pick [0, 0] rfl ⟨rfl, rfl, rfl, rfl, rfl, rfl, trivial⟩) h8 ?_
      rintro n ⟨sum2, i2⟩ _ hm
      rw [law12_FitOnce.l1] at hm
      refine VW.seq ?_
      refine VW.seq ?_
      refine VW.region ?_
      refine VR.p rfl rfl (VP.move rfl) ?_
      refine VR.p rfl rfl (VP.arith rfl rfl rfl) ?_
      refine VR.nil ?_
      rcases ite_or hm with ⟨h10, hm⟩ | ⟨h10, hm⟩
      · refine VW.condT rfl h10 ?_
        refine VW.skip ?_
        refine VW.seq ?_
        refine VW.block ?_
        refine VW.region ?_
        refine VR.p rfl rfl (VP.move rfl) ?_
        refine VR.p rfl rfl (VP.move rfl) ?_
        obtain ⟨x, h11, hm⟩ := bnd hm
        refine VR.p rfl rfl (VP.indexA rfl rfl ar63 (gl_pos2 h11).1 (gl_pos2 h11).2) ?_
        refine VR.p rfl rfl (VP.loadA 0 (f := (VV.int .i64)) (l := Arr9_Int.l r3) rfl rfl ld3 rfl h11) ?_
        refine VR.p rfl rfl (VP.arith rfl rfl rfl) ?_
        refine VR.p rfl rfl (VP.assign rfl) ?_
        refine VR.nil ?_
        refine VW.region ?_
        refine VR.p rfl rfl (VP.move rfl) ?_
        refine VR.p rfl rfl (VP.arith rfl rfl rfl) ?_
        refine VR.p rfl rfl (VP.assign rfl) ?_
        refine VR.nil ?_
        exact ⟨((IntKind.i64.wrap (sum2 + x)), (IntKind.i64.wrap (i2 + (1 : Int)))), (), hm, (Shift.pick [0, 0] rfl ⟨rfl, rfl, rfl, rfl, rfl, rfl, trivial⟩)⟩
      · have h10 := bf h10
        refine VW.condF rfl h10 ?_
        refine VW.exit ?_
        exact ⟨sum2, (), Option.some.inj hm, (Shift.pick [0, 0] rfl ⟨rfl, rfl, rfl, rfl, rfl, trivial⟩)⟩
    · rintro sum32 _ rfl
      have hm := h9
      refine VW.seq ?_
      refine VW.region ?_
      refine VR.p rfl rfl (VP.move rfl) ?_
      refine VR.p rfl rfl (VP.move rfl) ?_
      refine VR.p rfl rfl (VP.loadP (i := 1) rfl rfl ld33 rfl) ?_
      obtain ⟨r4, h12, hm⟩ := bnd hm
      refine VR.cons rfl rfl (VO.callK 0 rfl fn37 rfl (fit_Where_ok ms bs p r4 h12) fun _ _ h26 => ?_)
      obtain ⟨ob, cap, rfl, rfl⟩ := h26
      refine VR.shift (Shift.freezeE 0 [(34, .list 9 (List.map VV.str r4))] rfl ⟨⟨_, rfl, .here _ rfl⟩, trivial⟩ (FzH.refl _)) ?_
      refine VR.p rfl rfl (VP.assign rfl) ?_
      refine VR.nil ?_
      refine VW.seq ?_
      refine VW.seq ?_
      refine VW.region ?_
      refine VR.p rfl rfl (VP.assign rfl) ?_
      refine VR.nil ?_
      obtain ⟨o2, h14, h15⟩ := bnd hm
      refine VW.joinE (fun (q : Unit) => o2 = Out.go q) (fun (j : Unit) (gg : Unit) => [(0, .list 27 (List.map T_api_Machine.vv ms)), (7, .ptr b2 0), (8, .int .i64 sum32), (10, .list 9 (List.map VV.str r4))]) (fun (j : Unit) (gg : Unit) => [.box b2 63 (Arr9_Int.cells r3)]) ?_ ?_
      · have hm := h14
        refine VW.block (VW.loop FU ?_)
        refine VL.fuelS (R := _) (fun zn (zs : Int) => law12_FitOnce.l2 ms bs p r4 zn zs) (fun (zs : Int) (zg : Unit) => [(0, .list 27 (List.map T_api_Machine.vv ms)), (1, .list 49 (List.map T_api_Bound.vv bs)), (5, .ptr b 0), (7, .ptr b2 0), (8, .int .i64 sum32), (10, .list 9 (List.map VV.str r4)), (11, .int .i64 zs)]) (fun (zs : Int) (zg : Unit) => [.box b2 63 (Arr9_Int.cells r3), .box b 33 (T_api_Pod.cells p)]) (0 : Int) () (fun zs => rfl) (Shift.pick [0, 0] rfl ⟨rfl, rfl, rfl, rfl, rfl, rfl, rfl, trivial⟩) h14 ?_
        rintro n2 i4 _ hm
        rw [law12_FitOnce.l2] at hm
        refine VW.seq ?_
        refine VW.seq ?_
        refine VW.region ?_
        refine VR.p rfl rfl (VP.move rfl) ?_
        refine VR.p rfl rfl (VP.move rfl) ?_
        refine VR.p rfl rfl (VP.lenT VV.str rfl Try.underlying65) ?_
        refine VR.p rfl rfl (VP.arith rfl rfl rfl) ?_
        refine VR.nil ?_
        rcases ite_or hm with ⟨h16, hm⟩ | ⟨h16, hm⟩
        · refine VW.condT rfl h16 ?_
          refine VW.skip ?_
          refine VW.seq ?_
          refine VW.block ?_
          refine VW.seq ?_
          refine VW.drawK 0 mixed ?_
          refine VA.p 0 rfl rfl rfl (by kernel_rfl) (VP.move rfl) ?_
          refine VA.p 1 rfl rfl rfl (by kernel_rfl) (VP.move rfl) ?_
          refine VA.p 2 rfl rfl rfl (by kernel_rfl) (VP.loadP (i := 1) rfl rfl ld33 rfl) ?_
          refine VA.p 3 rfl rfl rfl (by kernel_rfl) (VP.move rfl) ?_
          refine VA.p 4 rfl rfl rfl (by kernel_rfl) (VP.move rfl) ?_
          obtain ⟨x2, h17, hm⟩ := bnd hm
          refine VA.p 5 rfl rfl rfl (by kernel_rfl) (VP.glE VV.str rfl rfl el65 h17) ?_
          refine VA.p 6 rfl rfl rfl (by kernel_rfl) (VP.loadE rfl ld9 rfl) ?_
          refine VA.all [7] (by kernel_rfl) ⟨?_, trivial⟩
          obtain ⟨r5, h18, hm⟩ := bnd hm
          refine VB.o rfl rfl rfl (VO.callK 0 rfl fn38 rfl (fit_Why_ok ms bs p x2 r5 h18) fun _ _ h20 => ?_)
          obtain ⟨rfl, rfl⟩ := h20
          refine VA.p 8 rfl rfl rfl (by kernel_rfl) (VP.arith rfl rfl rfl) ?_
          refine VA.done (by kernel_rfl) ?_
          rcases ite_or hm with ⟨h19, hm⟩ | ⟨h19, hm⟩
          · refine VW.condT rfl h19 ?_
            refine VW.seq ?_
            refine VW.region ?_
            refine VR.p rfl rfl (VP.assign rfl) ?_
            refine VR.nil ?_
            obtain rfl := Option.some.inj hm
            have hm := Out.ret_on h15
            obtain rfl := Option.some.inj hm
            exact VW.ret ⟨.inl rfl, _, .cons (.tmp _ _ rfl) .nil, [], _, rfl, rfl, rfl⟩
          · have h19 := bf h19
            refine VW.condF rfl h19 ?_
            refine VW.skip ?_
            refine VW.region ?_
            refine VR.p rfl rfl (VP.move rfl) ?_
            refine VR.p rfl rfl (VP.arith rfl rfl rfl) ?_
            refine VR.p rfl rfl (VP.assign rfl) ?_
            refine VR.nil ?_
            exact ⟨(IntKind.i64.wrap (i4 + (1 : Int))), (), hm, (Shift.pick [0, 0] rfl ⟨rfl, rfl, rfl, rfl, rfl, rfl, rfl, trivial⟩)⟩
        · have h16 := bf h16
          refine VW.condF rfl h16 ?_
          refine VW.exit ?_
          exact ⟨(), (), (Option.some.inj hm).symm, (Shift.pick [0] rfl ⟨rfl, rfl, rfl, rfl, trivial⟩)⟩
      · rintro j _ rfl
        have hm := Out.go_on h15
        refine VW.seq ?_
        refine VW.region ?_
        refine VR.p rfl rfl (VP.move rfl) ?_
        refine VR.p rfl rfl (VP.move rfl) ?_
        refine VR.p rfl rfl (VP.lenT T_api_Machine.vv rfl Try.underlying37) ?_
        refine VR.p rfl rfl (VP.arith rfl rfl rfl) ?_
        refine VR.p rfl rfl (VP.move rfl) ?_
        refine VR.sc 6 60 (.bool ((sum32 == (ms.length : Int)) && (r3.x0 == (r4.length : Int)))) (fun K' J => ?_) ?_
        · rcases Bool.eq_false_or_eq_true (sum32 == (ms.length : Int)) with h21 | h21
          · refine VR.pG rfl rfl rfl rfl h21 (VP.indexA rfl rfl ar63 (by decide) (by decide)) ?_
            refine VR.pG rfl rfl rfl rfl h21 (VP.loadP (i := 0) rfl rfl ld3 rfl) ?_
            refine VR.pG rfl rfl rfl rfl h21 (VP.move rfl) ?_
            refine VR.pG rfl rfl rfl rfl h21 (VP.lenT VV.str rfl Try.underlying65) ?_
            refine VR.pG rfl rfl rfl rfl h21 (VP.arith rfl rfl rfl) ?_
            refine VR.p rfl rfl (VP.pickB true rfl h21 rfl) ?_
            exact J [_, _, _, _, _] _ rfl (andT h21)
          · refine VR.skipG rfl rfl rfl rfl h21 ?_
            refine VR.skipG rfl rfl rfl rfl h21 ?_
            refine VR.skipG rfl rfl rfl rfl h21 ?_
            refine VR.skipG rfl rfl rfl rfl h21 ?_
            refine VR.skipG rfl rfl rfl rfl h21 ?_
            refine VR.p rfl rfl (VP.pickB false rfl h21 rfl) ?_
            exact J [_, _, _, _, _] _ rfl (andF h21)
        · refine VR.p rfl rfl (VP.move rfl) ?_
          obtain ⟨c, h25, hm⟩ := bnd hm
          refine VR.sc 2 63 (.bool c) (fun K' J => ?_) ?_
          · have hm := h25
            rcases ite_or hm with ⟨h22, hm⟩ | ⟨h22, hm⟩
            · obtain ⟨r6, h23, hm⟩ := bnd hm
              refine VR.consG rfl rfl rfl rfl h22 (VO.callK 0 rfl fn35 rfl (law12_known_ok r6 h23) fun _ _ h24 => ?_)
              obtain ⟨rfl, rfl⟩ := h24
              refine VR.p rfl rfl (VP.pickB true rfl h22 rfl) ?_
              exact J [_] _ rfl (congrArg VV.bool (Option.some.inj hm))
            · have h22 := bf h22
              refine VR.skipG rfl rfl rfl rfl h22 ?_
              refine VR.p rfl rfl (VP.pickB false rfl h22 rfl) ?_
              exact J [_] _ rfl (congrArg VV.bool (Option.some.inj hm))
          · refine VR.p rfl rfl (VP.assign rfl) ?_
            refine VR.nil ?_
            obtain rfl := Option.some.inj hm
            exact VW.ret ⟨.inl rfl, _, .cons (.tmp _ _ rfl) .nil, [], _, rfl, rfl, rfl⟩

/-! trireme/triremelaw12.FitKeeps -/
def law12_FitKeeps.l1 (bs : List T_api_Bound) (p : T_api_Pod) : Nat → Int → Option (Out Bool Unit)
  | 0, _ => none
  | n + 1, i2 =>
    if (decide (i2 < (bs.length : Int))) = true then
      (V.gl bs i2).bind fun x =>
      (if (decide ((x.Pod.Spread.length : Int) > (0 : Int))) = true then some true else (V.gl bs i2).bind fun x2 =>
      some (V.seq x2.Pod.Name p.Name)).bind fun c2 =>
      if c2 = true then
        (law12_known).bind fun r4 =>
        some (Out.ret r4)
      else
        law12_FitKeeps.l1 bs p n (IntKind.i64.wrap (i2 + (1 : Int)))
    else
      some (Out.go ())
def law12_FitKeeps.l2 (ms : List T_api_Machine) (bs : List T_api_Bound) : Nat → Int → Option (Out Bool Unit)
  | 0, _ => none
  | n2 + 1, i4 =>
    if (decide (i4 < (bs.length : Int))) = true then
      (V.sl bs none (some i4)).bind fun v =>
      (V.ap 288 ([] : List T_api_Bound) v).bind fun l3 =>
      (V.sl bs (some (IntKind.i64.wrap (i4 + (1 : Int)))) none).bind fun v2 =>
      (V.ap 288 l3 v2).bind fun fewer =>
      (fit_Feasible ms fewer).bind fun r5 =>
      if (!r5) = true then
        some (Out.ret false)
      else
        law12_FitKeeps.l2 ms bs n2 (IntKind.i64.wrap (i4 + (1 : Int)))
    else
      some (Out.go ())
def law12_FitKeeps.l3 (ms : List T_api_Machine) (bs : List T_api_Bound) (p : T_api_Pod) (r6 : List ByteArray) : Nat → Int → Option (Out Bool Unit)
  | 0, _ => none
  | n3 + 1, i6 =>
    if (decide (i6 < (r6.length : Int))) = true then
      (V.gl r6 i6).bind fun x3 =>
      (fit_Put bs p x3).bind fun r7 =>
      (fit_Feasible ms r7).bind fun r8 =>
      if (!r8) = true then
        some (Out.ret false)
      else
        law12_FitKeeps.l3 ms bs p r6 n3 (IntKind.i64.wrap (i6 + (1 : Int)))
    else
      some (Out.go ())
def law12_FitKeeps (ms : List T_api_Machine) (bs : List T_api_Bound) (p : T_api_Pod) : Option Bool :=
  (law12_right ms bs p).bind fun r =>
  (if (!r) = true then some true else (fit_Feasible ms bs).bind fun r2 =>
  some (!r2)).bind fun c =>
  if c = true then
    (law12_known).bind fun r3 =>
    some r3
  else
    (law12_FitKeeps.l1 bs p FU (0 : Int)).bind fun o =>
    o.on fun j =>
    (law12_FitKeeps.l2 ms bs FU (0 : Int)).bind fun o2 =>
    o2.on fun j2 =>
    (fit_Where ms bs p).bind fun r6 =>
    (law12_FitKeeps.l3 ms bs p r6 FU (0 : Int)).bind fun o3 =>
    o3.on fun j3 =>
    (law12_known).bind fun r9 =>
    some r9
theorem law12_FitKeeps_ok (ms : List T_api_Machine) (bs : List T_api_Bound) (p : T_api_Pod) (r : Bool) (hm : law12_FitKeeps ms bs p = some r) :
    VC Try.prog 10 [.list 27 (List.map T_api_Machine.vv ms), .list 49 (List.map T_api_Bound.vv bs), T_api_Pod.vv p] [] (fun zx zH => zx = .bool r ∧ zH = []) := by
  unfold law12_FitKeeps at hm
  refine VC.run (c := _) (rs := [.tmp 6]) Try.func10 rfl rfl rfl ?_
  refine VW.seq ?_
  refine VW.region ?_
  refine VR.cons rfl rfl (VO.box rfl rfl fun b => ?_)
  refine VR.p rfl rfl (VP.assign rfl) ?_
  refine VR.nil ?_
  refine VW.seq ?_
  refine VW.seq ?_
  refine VW.region ?_
  refine VR.p rfl rfl (VP.move rfl) ?_
  refine VR.p rfl rfl (VP.move rfl) ?_
  refine VR.p rfl rfl (VP.loadP (i := 0) rfl rfl ld33 rfl) ?_
  obtain ⟨r, h2, hm⟩ := bnd hm
  refine VR.cons rfl rfl (VO.callK 0 rfl fn34 rfl (law12_right_ok ms bs p r h2) fun _ _ h46 => ?_)
  obtain ⟨rfl, rfl⟩ := h46
  refine VR.p rfl rfl (VP.not rfl) ?_
  refine VR.p rfl rfl (VP.move rfl) ?_
  obtain ⟨c, h6, hm⟩ := bnd hm
  refine VR.sc 5 22 (.bool c) (fun K' J => ?_) ?_
  · have hm := h6
    rcases ite_or hm with ⟨h3, hm⟩ | ⟨h3, hm⟩
    · refine VR.skipG rfl rfl rfl rfl h3 ?_
      refine VR.skipG rfl rfl rfl rfl h3 ?_
      refine VR.skipG rfl rfl rfl rfl h3 ?_
      refine VR.skipG rfl rfl rfl rfl h3 ?_
      refine VR.p rfl rfl (VP.pickB true rfl h3 rfl) ?_
      exact J [_, _, _, _] _ rfl (congrArg VV.bool (Option.some.inj hm))
    · have h3 := bf h3
      refine VR.pG rfl rfl rfl rfl h3 (VP.move rfl) ?_
      refine VR.pG rfl rfl rfl rfl h3 (VP.move rfl) ?_
      obtain ⟨r2, h4, hm⟩ := bnd hm
      refine VR.consG rfl rfl rfl rfl h3 (VO.callK 0 rfl fn39 rfl (fit_Feasible_ok ms bs r2 h4) fun _ _ h5 => ?_)
      obtain ⟨rfl, rfl⟩ := h5
      refine VR.pG rfl rfl rfl rfl h3 (VP.not rfl) ?_
      refine VR.p rfl rfl (VP.pickB false rfl h3 rfl) ?_
      exact J [_, _, _, _] _ rfl (congrArg VV.bool (Option.some.inj hm))
  · refine VR.nil ?_
    rcases ite_or hm with ⟨h7, hm⟩ | ⟨h7, hm⟩
    · refine VW.condT rfl h7 ?_
      refine VW.seq ?_
      refine VW.region ?_
      obtain ⟨r3, h8, hm⟩ := bnd hm
      refine VR.cons rfl rfl (VO.callK 0 rfl fn35 rfl (law12_known_ok r3 h8) fun _ _ h9 => ?_)
      obtain ⟨rfl, rfl⟩ := h9
      refine VR.p rfl rfl (VP.assign rfl) ?_
      refine VR.nil ?_
      obtain rfl := Option.some.inj hm
      exact VW.ret ⟨.inl rfl, _, .cons (.tmp _ _ rfl) .nil, [], _, rfl, rfl, rfl⟩
    · have h7 := bf h7
      refine VW.condF rfl h7 ?_
      refine VW.skip ?_
      refine VW.seq ?_
      refine VW.seq ?_
      refine VW.region ?_
      refine VR.p rfl rfl (VP.assign rfl) ?_
      refine VR.nil ?_
      obtain ⟨o, h10, h11⟩ := bnd hm
      refine VW.joinE (fun (q : Unit) => o = Out.go q) (fun (j : Unit) (gg : Unit) => [(0, .list 27 (List.map T_api_Machine.vv ms)), (1, .list 49 (List.map T_api_Bound.vv bs)), (5, .ptr b 0)]) (fun (j : Unit) (gg : Unit) => [.box b 33 (T_api_Pod.cells p)]) ?_ ?_
      · have hm := h10
        refine VW.block (VW.loop FU ?_)
        refine VL.fuelS (R := _) (fun zn (zs : Int) => law12_FitKeeps.l1 bs p zn zs) (fun (zs : Int) (zg : Unit) => [(0, .list 27 (List.map T_api_Machine.vv ms)), (1, .list 49 (List.map T_api_Bound.vv bs)), (5, .ptr b 0), (7, .int .i64 zs)]) (fun (zs : Int) (zg : Unit) => [.box b 33 (T_api_Pod.cells p)]) (0 : Int) () (fun zs => rfl) (Shift.pick [0] rfl ⟨rfl, rfl, rfl, rfl, trivial⟩) h10 ?_
        rintro n i2 _ hm
        rw [law12_FitKeeps.l1] at hm
        refine VW.seq ?_
        refine VW.seq ?_
        refine VW.region ?_
        refine VR.p rfl rfl (VP.move rfl) ?_
        refine VR.p rfl rfl (VP.move rfl) ?_
        refine VR.p rfl rfl (VP.lenT T_api_Bound.vv rfl Try.underlying28) ?_
        refine VR.p rfl rfl (VP.arith rfl rfl rfl) ?_
        refine VR.nil ?_
        rcases ite_or hm with ⟨h12, hm⟩ | ⟨h12, hm⟩
        · refine VW.condT rfl h12 ?_
          refine VW.skip ?_
          refine VW.seq ?_
          refine VW.block ?_
          refine VW.seq ?_
          refine VW.drawK 0 mixed ?_
          refine VA.p 0 rfl rfl rfl (by kernel_rfl) (VP.move rfl) ?_
          refine VA.p 1 rfl rfl rfl (by kernel_rfl) (VP.move rfl) ?_
          obtain ⟨x, h13, hm⟩ := bnd hm
          refine VA.p 2 rfl rfl rfl (by kernel_rfl) (VP.glE T_api_Bound.vv rfl rfl el28 h13) ?_
          refine VA.p 3 rfl rfl rfl (by kernel_rfl) (VP.fieldE rfl fa49_0) ?_
          refine VA.p 4 rfl rfl rfl (by kernel_rfl) (VP.fieldE rfl fa33_9) ?_
          refine VA.p 5 rfl rfl rfl (by kernel_rfl) (VP.loadE rfl ld24 rfl) ?_
          refine VA.p 6 rfl rfl rfl (by kernel_rfl) (VP.lenT T_api_Label.vv rfl Try.underlying24) ?_
          refine VA.p 7 rfl rfl rfl (by kernel_rfl) (VP.arith rfl rfl rfl) ?_
          refine VA.p 8 rfl rfl rfl (by kernel_rfl) (VP.move rfl) ?_
          obtain ⟨c2, h16, hm⟩ := bnd hm
          refine VA.sc [18, 17, 16, 15, 14, 13, 12, 11, 10, 9, 8, 7, 6, 5, 4, 3, 2, 1, 0] 48 (.bool c2) (fun K' J => ?_) ?_
          · have hm := h16
            rcases ite_or hm with ⟨h14, hm⟩ | ⟨h14, hm⟩
            · refine VA.skipG 9 rfl rfl rfl rfl rfl h14 (by kernel_rfl) ?_
              refine VA.skipG 10 rfl rfl rfl rfl rfl h14 (by kernel_rfl) ?_
              refine VA.skipG 11 rfl rfl rfl rfl rfl h14 (by kernel_rfl) ?_
              refine VA.skipG 12 rfl rfl rfl rfl rfl h14 (by kernel_rfl) ?_
              refine VA.skipG 13 rfl rfl rfl rfl rfl h14 (by kernel_rfl) ?_
              refine VA.skipG 14 rfl rfl rfl rfl rfl h14 (by kernel_rfl) ?_
              refine VA.skipG 15 rfl rfl rfl rfl rfl h14 (by kernel_rfl) ?_
              refine VA.skipG 16 rfl rfl rfl rfl rfl h14 (by kernel_rfl) ?_
              refine VA.skipG 17 rfl rfl rfl rfl rfl h14 (by kernel_rfl) ?_
              refine VA.p 18 rfl rfl rfl (by kernel_rfl) (VP.pickB true rfl h14 rfl) ?_
              exact J [_, _, _, _, _, _, _, _, _] _ rfl (congrArg VV.bool (Option.some.inj hm))
            · have h14 := bf h14
              refine VA.pG 9 rfl rfl rfl rfl rfl h14 (by kernel_rfl) (VP.move rfl) ?_
              refine VA.pG 10 rfl rfl rfl rfl rfl h14 (by kernel_rfl) (VP.move rfl) ?_
              obtain ⟨x2, h15, hm⟩ := bnd hm
              refine VA.pG 11 rfl rfl rfl rfl rfl h14 (by kernel_rfl) (VP.glE T_api_Bound.vv rfl rfl el28 h15) ?_
              refine VA.pG 12 rfl rfl rfl rfl rfl h14 (by kernel_rfl) (VP.fieldE rfl fa49_0) ?_
              refine VA.pG 13 rfl rfl rfl rfl rfl h14 (by kernel_rfl) (VP.fieldE rfl fa33_0) ?_
              refine VA.pG 14 rfl rfl rfl rfl rfl h14 (by kernel_rfl) (VP.loadE rfl ld9 rfl) ?_
              refine VA.pG 15 rfl rfl rfl rfl rfl h14 (by kernel_rfl) (VP.fieldP rfl fa33_0) ?_
              refine VA.pG 16 rfl rfl rfl rfl rfl h14 (by kernel_rfl) (VP.loadP (i := 0) rfl rfl ld9 rfl) ?_
              refine VA.pG 17 rfl rfl rfl rfl rfl h14 (by kernel_rfl) (VP.strop rfl rfl rfl) ?_
              refine VA.p 18 rfl rfl rfl (by kernel_rfl) (VP.pickB false rfl h14 rfl) ?_
              exact J [_, _, _, _, _, _, _, _, _] _ rfl (congrArg VV.bool (Option.some.inj hm))
          · refine VA.done (by kernel_rfl) ?_
            rcases ite_or hm with ⟨h17, hm⟩ | ⟨h17, hm⟩
            · refine VW.condT rfl h17 ?_
              refine VW.seq ?_
              refine VW.region ?_
              obtain ⟨r4, h18, hm⟩ := bnd hm
              refine VR.cons rfl rfl (VO.callK 0 rfl fn35 rfl (law12_known_ok r4 h18) fun _ _ h19 => ?_)
              obtain ⟨rfl, rfl⟩ := h19
              refine VR.p rfl rfl (VP.assign rfl) ?_
              refine VR.nil ?_
              obtain rfl := Option.some.inj hm
              have hm := Out.ret_on h11
              obtain rfl := Option.some.inj hm
              exact VW.ret ⟨.inl rfl, _, .cons (.tmp _ _ rfl) .nil, [], _, rfl, rfl, rfl⟩
            · have h17 := bf h17
              refine VW.condF rfl h17 ?_
              refine VW.skip ?_
              refine VW.region ?_
              refine VR.p rfl rfl (VP.move rfl) ?_
              refine VR.p rfl rfl (VP.arith rfl rfl rfl) ?_
              refine VR.p rfl rfl (VP.assign rfl) ?_
              refine VR.nil ?_
              exact ⟨(IntKind.i64.wrap (i2 + (1 : Int))), (), hm, (Shift.pick [0] rfl ⟨rfl, rfl, rfl, rfl, trivial⟩)⟩
        · have h12 := bf h12
          refine VW.condF rfl h12 ?_
          refine VW.exit ?_
          exact ⟨(), (), (Option.some.inj hm).symm, (Shift.pick [0] rfl ⟨rfl, rfl, rfl, trivial⟩)⟩
      · rintro j _ rfl
        have hm := Out.go_on h11
        refine VW.seq ?_
        refine VW.seq ?_
        refine VW.region ?_
        refine VR.p rfl rfl (VP.assign rfl) ?_
        refine VR.nil ?_
        obtain ⟨o2, h20, h21⟩ := bnd hm
        refine VW.joinE (fun (q : Unit) => o2 = Out.go q) (fun (j2 : Unit) (gg : Unit) => [(0, .list 27 (List.map T_api_Machine.vv ms)), (1, .list 49 (List.map T_api_Bound.vv bs)), (5, .ptr b 0)]) (fun (j2 : Unit) (gg : Unit) => [.box b 33 (T_api_Pod.cells p)]) ?_ ?_
        · have hm := h20
          refine VW.block (VW.loop FU ?_)
          refine VL.fuelS (R := _) (fun zn (zs : Int) => law12_FitKeeps.l2 ms bs zn zs) (fun (zs : Int) (zg : Unit) => [(0, .list 27 (List.map T_api_Machine.vv ms)), (1, .list 49 (List.map T_api_Bound.vv bs)), (5, .ptr b 0), (8, .int .i64 zs)]) (fun (zs : Int) (zg : Unit) => [.box b 33 (T_api_Pod.cells p)]) (0 : Int) () (fun zs => rfl) (Shift.pick [0] rfl ⟨rfl, rfl, rfl, rfl, trivial⟩) h20 ?_
          rintro n2 i4 _ hm
          rw [law12_FitKeeps.l2] at hm
          refine VW.seq ?_
          refine VW.seq ?_
          refine VW.region ?_
          refine VR.p rfl rfl (VP.move rfl) ?_
          refine VR.p rfl rfl (VP.move rfl) ?_
          refine VR.p rfl rfl (VP.lenT T_api_Bound.vv rfl Try.underlying28) ?_
          refine VR.p rfl rfl (VP.arith rfl rfl rfl) ?_
          refine VR.nil ?_
          rcases ite_or hm with ⟨h22, hm⟩ | ⟨h22, hm⟩
          · refine VW.condT rfl h22 ?_
            refine VW.skip ?_
            refine VW.seq ?_
            refine VW.block ?_
            refine VW.seq ?_
            refine VW.region ?_
            refine VR.p rfl rfl (VP.assign rfl) ?_
            refine VR.nil ?_
            refine VW.seq ?_
            refine VW.region ?_
            refine VR.p rfl rfl (VP.move rfl) ?_
            refine VR.p rfl rfl (VP.move rfl) ?_
            refine VR.p rfl rfl (VP.move rfl) ?_
            obtain ⟨v, h23, hm⟩ := bnd hm
            refine VR.p rfl rfl (VP.slT rfl rfl rfl el28 h23) ?_
            refine VR.shift (Shift.nilRow 49) ?_
            obtain ⟨l3, h25, hm⟩ := bnd hm
            refine VR.cons rfl rfl (VO.apT 0 T_api_Bound.vv (l := ([] : List T_api_Bound)) (l2 := v) ap28 rfl rfl (sT_list T_api_Bound.vv el28 rfl rfl) h25 fun ob cap => ?_)
            refine VR.p rfl rfl (VP.assign rfl) ?_
            refine VR.nil ?_
            refine VW.seq ?_
            refine VW.region ?_
            refine VR.p rfl rfl (VP.move rfl) ?_
            refine VR.p rfl rfl (VP.move rfl) ?_
            refine VR.p rfl rfl (VP.move rfl) ?_
            refine VR.p rfl rfl (VP.arith rfl rfl rfl) ?_
            obtain ⟨v2, h26, hm⟩ := bnd hm
            refine VR.p rfl rfl (VP.slT rfl rfl rfl el28 h26) ?_
            obtain ⟨fewer, h27, hm⟩ := bnd hm
            refine VR.cons rfl rfl (VO.apT 0 T_api_Bound.vv (l := l3) (l2 := v2) ap28 rfl rfl (sT_list T_api_Bound.vv el28 rfl rfl) h27 fun ob2 cap2 => ?_)
            refine VR.p rfl rfl (VP.assign rfl) ?_
            refine VR.nil ?_
            refine VW.seq ?_
            refine VW.region ?_
            refine VR.p rfl rfl (VP.move rfl) ?_
            refine VR.p rfl rfl (VP.move rfl) ?_
            refine VR.shift (Shift.freezeE 0 [(66, .list 49 (List.map T_api_Bound.vv fewer)), (9, .list 49 (List.map T_api_Bound.vv fewer)), (68, .list 49 (List.map T_api_Bound.vv fewer))] rfl ⟨⟨_, rfl, .here _ rfl⟩, ⟨_, rfl, .here _ rfl⟩, ⟨_, rfl, .here _ rfl⟩, trivial⟩ (FzH.refl _)) ?_
            obtain ⟨r5, h28, hm⟩ := bnd hm
            refine VR.cons rfl rfl (VO.callK 0 rfl fn39 rfl (fit_Feasible_ok ms fewer r5 h28) fun _ _ h30 => ?_)
            obtain ⟨rfl, rfl⟩ := h30
            refine VR.p rfl rfl (VP.not rfl) ?_
            refine VR.nil ?_
            rcases ite_or hm with ⟨h29, hm⟩ | ⟨h29, hm⟩
            · refine VW.condT rfl h29 ?_
              refine VW.seq ?_
              refine VW.region ?_
              refine VR.p rfl rfl (VP.assign rfl) ?_
              refine VR.nil ?_
              obtain rfl := Option.some.inj hm
              have hm := Out.ret_on h21
              obtain rfl := Option.some.inj hm
              exact VW.ret ⟨.inl rfl, _, .cons (.tmp _ _ rfl) .nil, [], _, rfl, rfl, rfl⟩
            · have h29 := bf h29
              refine VW.condF rfl h29 ?_
              refine VW.skip ?_
              refine VW.region ?_
              refine VR.p rfl rfl (VP.move rfl) ?_
              refine VR.p rfl rfl (VP.arith rfl rfl rfl) ?_
              refine VR.p rfl rfl (VP.assign rfl) ?_
              refine VR.nil ?_
              exact ⟨(IntKind.i64.wrap (i4 + (1 : Int))), (), hm, (Shift.pick [0] rfl ⟨rfl, rfl, rfl, rfl, trivial⟩)⟩
          · have h22 := bf h22
            refine VW.condF rfl h22 ?_
            refine VW.exit ?_
            exact ⟨(), (), (Option.some.inj hm).symm, (Shift.pick [0] rfl ⟨rfl, rfl, rfl, trivial⟩)⟩
        · rintro j2 _ rfl
          have hm := Out.go_on h21
          refine VW.seq ?_
          refine VW.region ?_
          refine VR.p rfl rfl (VP.move rfl) ?_
          refine VR.p rfl rfl (VP.move rfl) ?_
          refine VR.p rfl rfl (VP.loadP (i := 0) rfl rfl ld33 rfl) ?_
          obtain ⟨r6, h31, hm⟩ := bnd hm
          refine VR.cons rfl rfl (VO.callK 0 rfl fn37 rfl (fit_Where_ok ms bs p r6 h31) fun _ _ h45 => ?_)
          obtain ⟨ob3, cap3, rfl, rfl⟩ := h45
          refine VR.shift (Shift.freezeE 0 [(74, .list 9 (List.map VV.str r6))] rfl ⟨⟨_, rfl, .here _ rfl⟩, trivial⟩ (FzH.refl _)) ?_
          refine VR.p rfl rfl (VP.assign rfl) ?_
          refine VR.nil ?_
          refine VW.seq ?_
          refine VW.seq ?_
          refine VW.region ?_
          refine VR.p rfl rfl (VP.assign rfl) ?_
          refine VR.nil ?_
          obtain ⟨o3, h33, h34⟩ := bnd hm
          refine VW.joinE (fun (q : Unit) => o3 = Out.go q) (fun (j3 : Unit) (gg : Unit) => []) (fun (j3 : Unit) (gg : Unit) => []) ?_ ?_
          · have hm := h33
            refine VW.block (VW.loop FU ?_)
            refine VL.fuelS (R := _) (fun zn (zs : Int) => law12_FitKeeps.l3 ms bs p r6 zn zs) (fun (zs : Int) (zg : Unit) => [(0, .list 27 (List.map T_api_Machine.vv ms)), (1, .list 49 (List.map T_api_Bound.vv bs)), (5, .ptr b 0), (10, .list 9 (List.map VV.str r6)), (11, .int .i64 zs)]) (fun (zs : Int) (zg : Unit) => [.box b 33 (T_api_Pod.cells p)]) (0 : Int) () (fun zs => rfl) (Shift.pick [0] rfl ⟨rfl, rfl, rfl, rfl, rfl, trivial⟩) h33 ?_
            rintro n3 i6 _ hm
            rw [law12_FitKeeps.l3] at hm
            refine VW.seq ?_
            refine VW.seq ?_
            refine VW.region ?_
            refine VR.p rfl rfl (VP.move rfl) ?_
            refine VR.p rfl rfl (VP.move rfl) ?_
            refine VR.p rfl rfl (VP.lenT VV.str rfl Try.underlying65) ?_
            refine VR.p rfl rfl (VP.arith rfl rfl rfl) ?_
            refine VR.nil ?_
            rcases ite_or hm with ⟨h35, hm⟩ | ⟨h35, hm⟩
            · refine VW.condT rfl h35 ?_
              refine VW.skip ?_
              refine VW.seq ?_
              refine VW.block ?_
              refine VW.seq ?_
              refine VW.drawK 0 mixed ?_
              refine VA.p 0 rfl rfl rfl (by kernel_rfl) (VP.move rfl) ?_
              refine VA.p 1 rfl rfl rfl (by kernel_rfl) (VP.move rfl) ?_
              refine VA.p 2 rfl rfl rfl (by kernel_rfl) (VP.loadP (i := 0) rfl rfl ld33 rfl) ?_
              refine VA.p 3 rfl rfl rfl (by kernel_rfl) (VP.move rfl) ?_
              refine VA.p 4 rfl rfl rfl (by kernel_rfl) (VP.move rfl) ?_
              obtain ⟨x3, h36, hm⟩ := bnd hm
              refine VA.p 5 rfl rfl rfl (by kernel_rfl) (VP.glE VV.str rfl rfl el65 h36) ?_
              refine VA.p 6 rfl rfl rfl (by kernel_rfl) (VP.loadE rfl ld9 rfl) ?_
              refine VA.all [7] (by kernel_rfl) ⟨?_, trivial⟩
              obtain ⟨r7, h37, hm⟩ := bnd hm
              refine VB.o rfl rfl rfl (VO.callK 0 rfl fn40 rfl (fit_Put_ok bs p x3 r7 h37) fun _ _ h42 => ?_)
              obtain ⟨ob4, cap4, rfl, rfl⟩ := h42
              refine VA.shift (Shift.freezeE 0 [(88, .list 49 (List.map T_api_Bound.vv r7))] rfl ⟨⟨_, rfl, .here _ rfl⟩, trivial⟩ (FzH.refl _)) ?_
              refine VA.all [8] (by kernel_rfl) ⟨?_, trivial⟩
              obtain ⟨r8, h39, hm⟩ := bnd hm
              refine VB.o rfl rfl rfl (VO.callK 0 rfl fn39 rfl (fit_Feasible_ok ms r7 r8 h39) fun _ _ h41 => ?_)
              obtain ⟨rfl, rfl⟩ := h41
              refine VA.p 9 rfl rfl rfl (by kernel_rfl) (VP.not rfl) ?_
              refine VA.done (by kernel_rfl) ?_
              rcases ite_or hm with ⟨h40, hm⟩ | ⟨h40, hm⟩
              · refine VW.condT rfl h40 ?_
                refine VW.seq ?_
                refine VW.region ?_
                refine VR.p rfl rfl (VP.assign rfl) ?_
                refine VR.nil ?_
                obtain rfl := Option.some.inj hm
                have hm := Out.ret_on h34
                obtain rfl := Option.some.inj hm
                exact VW.ret ⟨.inl rfl, _, .cons (.tmp _ _ rfl) .nil, [], _, rfl, rfl, rfl⟩
              · have h40 := bf h40
                refine VW.condF rfl h40 ?_
                refine VW.skip ?_
                refine VW.region ?_
                refine VR.p rfl rfl (VP.move rfl) ?_
                refine VR.p rfl rfl (VP.arith rfl rfl rfl) ?_
                refine VR.p rfl rfl (VP.assign rfl) ?_
                refine VR.nil ?_
                exact ⟨(IntKind.i64.wrap (i6 + (1 : Int))), (), hm, (Shift.pick [0] rfl ⟨rfl, rfl, rfl, rfl, rfl, trivial⟩)⟩
            · have h35 := bf h35
              refine VW.condF rfl h35 ?_
              refine VW.exit ?_
              exact ⟨(), (), (Option.some.inj hm).symm, (Shift.pick [] rfl trivial)⟩
          · rintro j3 _ rfl
            have hm := Out.go_on h34
            refine VW.seq ?_
            refine VW.region ?_
            obtain ⟨r9, h43, hm⟩ := bnd hm
            refine VR.cons rfl rfl (VO.callK 0 rfl fn35 rfl (law12_known_ok r9 h43) fun _ _ h44 => ?_)
            obtain ⟨rfl, rfl⟩ := h44
            refine VR.p rfl rfl (VP.assign rfl) ?_
            refine VR.nil ?_
            obtain rfl := Option.some.inj hm
            exact VW.ret ⟨.inl rfl, _, .cons (.tmp _ _ rfl) .nil, [], _, rfl, rfl, rfl⟩

/-! trireme/triremelaw12.FitReady -/
def law12_FitReady.l1 (ms : List T_api_Machine) (bs : List T_api_Bound) (p : T_api_Pod) : Nat → (List T_api_Machine) → Int → Option (Out Bool (List T_api_Machine))
  | 0, _, _ => none
  | n + 1, down2, i2 =>
    if (decide (i2 < (ms.length : Int))) = true then
      (V.gl ms i2).bind fun x =>
      (V.ap 128 down2 [(⟨x.Name, x.Group, x.Has, x.Labels, x.Taints, false⟩ : T_api_Machine)]).bind fun down4 =>
      (V.gl ms i2).bind fun x2 =>
      (if (decide (x2.Has.Mem < (1125899906842624 : Int))) = true then (V.gl ms i2).bind fun x3 =>
      (fit_Why ms bs (⟨p.Name, (⟨p.Need.Cpu, (1125899906842624 : Int), p.Need.Disk, p.Need.Pods, p.Need.Dev⟩ : T_api_Res), p.Labels, p.Select, p.Terms, p.Bears, p.Ports, p.Apart, p.Wide, p.Spread, p.Skew, p.Rank, p.Owner, p.Daemon, p.Pinned, p.Local⟩ : T_api_Pod) x3.Name).bind fun r3 =>
      some (r3 == (0 : Int)) else some false).bind fun c =>
      if c = true then
        some (Out.ret false)
      else
        law12_FitReady.l1 ms bs p n down4 (IntKind.i64.wrap (i2 + (1 : Int)))
    else
      some (Out.go down2)
def law12_FitReady (ms : List T_api_Machine) (bs : List T_api_Bound) (p : T_api_Pod) : Option Bool :=
  (law12_right ms bs p).bind fun r =>
  if (!r) = true then
    (law12_known).bind fun r2 =>
    some r2
  else
    (law12_FitReady.l1 ms bs p FU ([] : List T_api_Machine) (0 : Int)).bind fun o =>
    o.on fun down32 =>
    (fit_Tally down32 bs p).bind fun r4 =>
    (fit_Where down32 bs p).bind fun r5 =>
    (if (((r5.length : Int) == (0 : Int)) && (r4.x1 == (ms.length : Int))) = true then (fit_Where ([] : List T_api_Machine) ([] : List T_api_Bound) p).bind fun r6 =>
    some ((r6.length : Int) == (0 : Int)) else some false).bind fun c2 =>
    (if c2 = true then (law12_known).bind fun r7 =>
    some r7 else some false).bind fun c3 =>
    some c3
theorem law12_FitReady_ok (ms : List T_api_Machine) (bs : List T_api_Bound) (p : T_api_Pod) (r : Bool) (hm : law12_FitReady ms bs p = some r) :
    VC Try.prog 11 [.list 27 (List.map T_api_Machine.vv ms), .list 49 (List.map T_api_Bound.vv bs), T_api_Pod.vv p] [] (fun zx zH => zx = .bool r ∧ zH = []) := by
  unfold law12_FitReady at hm
  refine VC.run (c := _) (rs := [.tmp 6]) Try.func11 rfl rfl rfl ?_
  refine VW.seq ?_
  refine VW.region ?_
  refine VR.cons rfl rfl (VO.box rfl rfl fun b => ?_)
  refine VR.p rfl rfl (VP.assign rfl) ?_
  refine VR.nil ?_
  refine VW.seq ?_
  refine VW.seq ?_
  refine VW.region ?_
  refine VR.p rfl rfl (VP.move rfl) ?_
  refine VR.p rfl rfl (VP.move rfl) ?_
  refine VR.p rfl rfl (VP.loadP (i := 0) rfl rfl ld33 rfl) ?_
  obtain ⟨r, h2, hm⟩ := bnd hm
  refine VR.cons rfl rfl (VO.callK 0 rfl fn34 rfl (law12_right_ok ms bs p r h2) fun _ _ h40 => ?_)
  obtain ⟨rfl, rfl⟩ := h40
  refine VR.p rfl rfl (VP.not rfl) ?_
  refine VR.nil ?_
  rcases ite_or hm with ⟨h3, hm⟩ | ⟨h3, hm⟩
  · refine VW.condT rfl h3 ?_
    refine VW.seq ?_
    refine VW.region ?_
    obtain ⟨r2, h4, hm⟩ := bnd hm
    refine VR.cons rfl rfl (VO.callK 0 rfl fn35 rfl (law12_known_ok r2 h4) fun _ _ h5 => ?_)
    obtain ⟨rfl, rfl⟩ := h5
    refine VR.p rfl rfl (VP.assign rfl) ?_
    refine VR.nil ?_
    obtain rfl := Option.some.inj hm
    exact VW.ret ⟨.inl rfl, _, .cons (.tmp _ _ rfl) .nil, [], _, rfl, rfl, rfl⟩
  · have h3 := bf h3
    refine VW.condF rfl h3 ?_
    refine VW.skip ?_
    refine VW.seq ?_
    refine VW.region ?_
    refine VR.p rfl rfl (VP.assign rfl) ?_
    refine VR.nil ?_
    refine VW.seq ?_
    refine VW.region ?_
    refine VR.p rfl rfl (VP.loadP (i := 0) rfl rfl ld33 rfl) ?_
    refine VR.cons rfl rfl (VO.alloc z33 fun b2 => ?_)
    refine VR.cons rfl rfl (VO.storeP (i := 0) rfl rfl rfl ld33 rfl rfl rfl ?_)
    refine VR.nil ?_
    refine VW.seq ?_
    refine VW.region ?_
    refine VR.p rfl rfl (VP.fieldP rfl fa33_1) ?_
    refine VR.p rfl rfl (VP.fieldP rfl fa23_1) ?_
    refine VR.cons rfl rfl (VO.storeP (i := 0) rfl rfl rfl ld3 rfl rfl rfl ?_)
    refine VR.nil ?_
    refine VW.seq ?_
    refine VW.seq ?_
    refine VW.region ?_
    refine VR.p rfl rfl (VP.assign rfl) ?_
    refine VR.nil ?_
    obtain ⟨o, h9, h10⟩ := bnd hm
    refine VW.joinE (fun (q : List T_api_Machine) => o = Out.go q) (fun (down32 : List T_api_Machine) (gg : Option Nat × Nat) => [(0, .list 27 (List.map T_api_Machine.vv ms)), (1, .list 49 (List.map T_api_Bound.vv bs)), (5, .ptr b 0), (7, .sl gg.1 (List.map T_api_Machine.vv down32).length gg.2)]) (fun (down32 : List T_api_Machine) (gg : Option Nat × Nat) => [.row gg.1 27 gg.2 (List.map T_api_Machine.vv down32), .box b 33 (T_api_Pod.cells p)]) ?_ ?_
    · have hm := h9
      refine VW.block (VW.loop FU ?_)
      refine VL.fuelS (R := _) (fun zn (zs : List T_api_Machine × Int) => law12_FitReady.l1 ms bs p zn zs.1 zs.2) (fun (zs : List T_api_Machine × Int) (zg : Option Nat × Nat) => [(0, .list 27 (List.map T_api_Machine.vv ms)), (1, .list 49 (List.map T_api_Bound.vv bs)), (5, .ptr b 0), (7, .sl zg.1 (List.map T_api_Machine.vv zs.1).length zg.2), (8, .ptr b2 0), (9, .int .i64 zs.2)]) (fun (zs : List T_api_Machine × Int) (zg : Option Nat × Nat) => [.row zg.1 27 zg.2 (List.map T_api_Machine.vv zs.1), .box b2 33 (T_api_Pod.cells (⟨p.Name, (⟨p.Need.Cpu, (1125899906842624 : Int), p.Need.Disk, p.Need.Pods, p.Need.Dev⟩ : T_api_Res), p.Labels, p.Select, p.Terms, p.Bears, p.Ports, p.Apart, p.Wide, p.Spread, p.Skew, p.Rank, p.Owner, p.Daemon, p.Pinned, p.Local⟩ : T_api_Pod)), .box b 33 (T_api_Pod.cells p)]) (([] : List T_api_Machine), (0 : Int)) (none, 0) (fun zs => rfl) (Shift.trans (Shift.nilRow 27) (Shift.pick [0, 0, 0] rfl ⟨rfl, rfl, rfl, rfl, rfl, rfl, trivial⟩)) h9 ?_
      rintro n ⟨down2, i2⟩ ⟨ob2, cap2⟩ hm
      rw [law12_FitReady.l1] at hm
      refine VW.seq ?_
      refine VW.seq ?_
      refine VW.region ?_
      refine VR.p rfl rfl (VP.move rfl) ?_
      refine VR.p rfl rfl (VP.move rfl) ?_
      refine VR.p rfl rfl (VP.lenT T_api_Machine.vv rfl Try.underlying37) ?_
      refine VR.p rfl rfl (VP.arith rfl rfl rfl) ?_
      refine VR.nil ?_
      rcases ite_or hm with ⟨h11, hm⟩ | ⟨h11, hm⟩
      · refine VW.condT rfl h11 ?_
        refine VW.skip ?_
        refine VW.seq ?_
        refine VW.block ?_
        refine VW.seq ?_
        refine VW.region ?_
        refine VR.p rfl rfl (VP.move rfl) ?_
        refine VR.p rfl rfl (VP.move rfl) ?_
        obtain ⟨x, h12, hm⟩ := bnd hm
        refine VR.p rfl rfl (VP.glE T_api_Machine.vv rfl rfl el37 h12) ?_
        refine VR.p rfl rfl (VP.loadE rfl ld27 rfl) ?_
        refine VR.cons rfl rfl (VO.alloc z27 fun b3 => ?_)
        refine VR.cons rfl rfl (VO.storeP (i := 0) rfl rfl rfl ld27 rfl rfl rfl ?_)
        refine VR.nil ?_
        refine VW.seq ?_
        refine VW.region ?_
        refine VR.p rfl rfl (VP.fieldP rfl fa27_5) ?_
        refine VR.cons rfl rfl (VO.storeP (i := 0) rfl rfl rfl ld4 rfl rfl rfl ?_)
        refine VR.nil ?_
        refine VW.seq ?_
        refine VW.region ?_
        refine VR.p rfl rfl (VP.move rfl) ?_
        refine VR.p rfl rfl (VP.loadP (i := 0) rfl rfl ld27 rfl) ?_
        refine VR.cons rfl rfl (VO.buildSlice ap37 rfl rfl rfl rfl rfl fun b4 => ?_)
        obtain ⟨down4, h15, hm⟩ := bnd hm
        refine VR.cons rfl rfl (VO.apT 2 T_api_Machine.vv (l := down2) (l2 := [(⟨x.Name, x.Group, x.Has, x.Labels, x.Taints, false⟩ : T_api_Machine)]) ap37 rfl rfl (sT_row 0 T_api_Machine.vv el37 rfl rfl) h15 fun ob4 cap4 => ?_)
        refine VR.p rfl rfl (VP.assign rfl) ?_
        refine VR.nil ?_
        refine VW.seq ?_
        refine VW.drawK 0 mixed ?_
        refine VA.p 0 rfl rfl rfl (by kernel_rfl) (VP.move rfl) ?_
        refine VA.p 1 rfl rfl rfl (by kernel_rfl) (VP.move rfl) ?_
        obtain ⟨x2, h16, hm⟩ := bnd hm
        refine VA.p 2 rfl rfl rfl (by kernel_rfl) (VP.glE T_api_Machine.vv rfl rfl el37 h16) ?_
        refine VA.p 3 rfl rfl rfl (by kernel_rfl) (VP.fieldE rfl fa27_2) ?_
        refine VA.p 4 rfl rfl rfl (by kernel_rfl) (VP.fieldE rfl fa23_1) ?_
        refine VA.p 5 rfl rfl rfl (by kernel_rfl) (VP.loadE rfl ld3 rfl) ?_
        refine VA.p 6 rfl rfl rfl (by kernel_rfl) (VP.arith rfl rfl rfl) ?_
        refine VA.p 7 rfl rfl rfl (by kernel_rfl) (VP.move rfl) ?_
        obtain ⟨c, h21, hm⟩ := bnd hm
        refine VA.sc [18, 17, 16, 15, 14, 13, 12, 11, 10, 9, 8, 7, 6, 5, 4, 3, 2, 1, 0] 54 (.bool c) (fun K' J => ?_) ?_
        · have hm := h21
          rcases ite_or hm with ⟨h17, hm⟩ | ⟨h17, hm⟩
          · refine VA.pG 8 rfl rfl rfl rfl rfl h17 (by kernel_rfl) (VP.move rfl) ?_
            refine VA.pG 9 rfl rfl rfl rfl rfl h17 (by kernel_rfl) (VP.move rfl) ?_
            refine VA.pG 10 rfl rfl rfl rfl rfl h17 (by kernel_rfl) (VP.loadP (i := 3) rfl rfl ld33 rfl) ?_
            refine VA.pG 11 rfl rfl rfl rfl rfl h17 (by kernel_rfl) (VP.move rfl) ?_
            refine VA.pG 12 rfl rfl rfl rfl rfl h17 (by kernel_rfl) (VP.move rfl) ?_
            obtain ⟨x3, h18, hm⟩ := bnd hm
            refine VA.pG 13 rfl rfl rfl rfl rfl h17 (by kernel_rfl) (VP.glE T_api_Machine.vv rfl rfl el37 h18) ?_
            refine VA.pG 14 rfl rfl rfl rfl rfl h17 (by kernel_rfl) (VP.fieldE rfl fa27_0) ?_
            refine VA.pG 15 rfl rfl rfl rfl rfl h17 (by kernel_rfl) (VP.loadE rfl ld9 rfl) ?_
            refine VA.all [16] (by kernel_rfl) ⟨?_, trivial⟩
            obtain ⟨r3, h19, hm⟩ := bnd hm
            refine VB.oG rfl rfl rfl rfl rfl h17 (VO.callK 0 rfl fn38 rfl (fit_Why_ok ms bs (⟨p.Name, (⟨p.Need.Cpu, (1125899906842624 : Int), p.Need.Disk, p.Need.Pods, p.Need.Dev⟩ : T_api_Res), p.Labels, p.Select, p.Terms, p.Bears, p.Ports, p.Apart, p.Wide, p.Spread, p.Skew, p.Rank, p.Owner, p.Daemon, p.Pinned, p.Local⟩ : T_api_Pod) x3.Name r3 h19) fun _ _ h20 => ?_)
            obtain ⟨rfl, rfl⟩ := h20
            refine VA.pG 17 rfl rfl rfl rfl rfl h17 (by kernel_rfl) (VP.arith rfl rfl rfl) ?_
            refine VA.p 18 rfl rfl rfl (by kernel_rfl) (VP.pickB true rfl h17 rfl) ?_
            exact J [_, _, _, _, _, _, _, _, _, _] _ rfl (congrArg VV.bool (Option.some.inj hm))
          · have h17 := bf h17
            refine VA.skipG 8 rfl rfl rfl rfl rfl h17 (by kernel_rfl) ?_
            refine VA.skipG 9 rfl rfl rfl rfl rfl h17 (by kernel_rfl) ?_
            refine VA.skipG 10 rfl rfl rfl rfl rfl h17 (by kernel_rfl) ?_
            refine VA.skipG 11 rfl rfl rfl rfl rfl h17 (by kernel_rfl) ?_
            refine VA.skipG 12 rfl rfl rfl rfl rfl h17 (by kernel_rfl) ?_
            refine VA.skipG 13 rfl rfl rfl rfl rfl h17 (by kernel_rfl) ?_
            refine VA.skipG 14 rfl rfl rfl rfl rfl h17 (by kernel_rfl) ?_
            refine VA.skipG 15 rfl rfl rfl rfl rfl h17 (by kernel_rfl) ?_
            refine VA.skipG 16 rfl rfl rfl rfl rfl h17 (by kernel_rfl) ?_
            refine VA.skipG 17 rfl rfl rfl rfl rfl h17 (by kernel_rfl) ?_
            refine VA.p 18 rfl rfl rfl (by kernel_rfl) (VP.pickB false rfl h17 rfl) ?_
            exact J [_, _, _, _, _, _, _, _, _, _] _ rfl (congrArg VV.bool (Option.some.inj hm))
        · refine VA.done (by kernel_rfl) ?_
          rcases ite_or hm with ⟨h22, hm⟩ | ⟨h22, hm⟩
          · refine VW.condT rfl h22 ?_
            refine VW.seq ?_
            refine VW.region ?_
            refine VR.p rfl rfl (VP.assign rfl) ?_
            refine VR.nil ?_
            obtain rfl := Option.some.inj hm
            have hm := Out.ret_on h10
            obtain rfl := Option.some.inj hm
            exact VW.ret ⟨.inl rfl, _, .cons (.tmp _ _ rfl) .nil, [], _, rfl, rfl, rfl⟩
          · have h22 := bf h22
            refine VW.condF rfl h22 ?_
            refine VW.skip ?_
            refine VW.region ?_
            refine VR.p rfl rfl (VP.move rfl) ?_
            refine VR.p rfl rfl (VP.arith rfl rfl rfl) ?_
            refine VR.p rfl rfl (VP.assign rfl) ?_
            refine VR.nil ?_
            exact ⟨(down4, (IntKind.i64.wrap (i2 + (1 : Int)))), (ob4, cap4), hm, (Shift.pick [2, 2, 2] rfl ⟨rfl, rfl, rfl, rfl, rfl, rfl, trivial⟩)⟩
      · have h11 := bf h11
        refine VW.condF rfl h11 ?_
        refine VW.exit ?_
        exact ⟨down2, (ob2, cap2), (Option.some.inj hm).symm, (Shift.pick [0, 1] rfl ⟨rfl, rfl, rfl, rfl, trivial⟩)⟩
    · rintro down32 ⟨ob3, cap3⟩ rfl
      have hm := Out.go_on h10
      refine VW.seq ?_
      refine VW.region ?_
      refine VR.p rfl rfl (VP.move rfl) ?_
      refine VR.p rfl rfl (VP.move rfl) ?_
      refine VR.p rfl rfl (VP.loadP (i := 1) rfl rfl ld33 rfl) ?_
      refine VR.shift (Shift.freezeE 0 [(7, .list 27 (List.map T_api_Machine.vv down32)), (55, .list 27 (List.map T_api_Machine.vv down32))] rfl ⟨⟨_, rfl, .here _ rfl⟩, ⟨_, rfl, .here _ rfl⟩, trivial⟩ (FzH.refl _)) ?_
      obtain ⟨r4, h24, hm⟩ := bnd hm
      refine VR.cons rfl rfl (VO.callK 0 rfl fn36 rfl (fit_Tally_ok down32 bs p r4 h24) fun _ _ h39 => ?_)
      obtain ⟨rfl, rfl⟩ := h39
      refine VR.cons rfl rfl (VO.alloc z63 fun b5 => ?_)
      refine VR.cons rfl rfl (VO.storeP (i := 0) rfl rfl rfl ld63 rfl rfl rfl ?_)
      refine VR.nil ?_
      refine VW.seq ?_
      refine VW.region ?_
      refine VR.p rfl rfl (VP.move rfl) ?_
      refine VR.p rfl rfl (VP.move rfl) ?_
      refine VR.p rfl rfl (VP.loadP (i := 1) rfl rfl ld33 rfl) ?_
      obtain ⟨r5, h26, hm⟩ := bnd hm
      refine VR.cons rfl rfl (VO.callK 0 rfl fn37 rfl (fit_Where_ok down32 bs p r5 h26) fun _ _ h38 => ?_)
      obtain ⟨ob5, cap5, rfl, rfl⟩ := h38
      refine VR.shift (Shift.freezeE 0 [(62, .list 9 (List.map VV.str r5))] rfl ⟨⟨_, rfl, .here _ rfl⟩, trivial⟩ (FzH.refl _)) ?_
      refine VR.p rfl rfl (VP.lenT VV.str rfl Try.underlying65) ?_
      refine VR.p rfl rfl (VP.arith rfl rfl rfl) ?_
      refine VR.p rfl rfl (VP.move rfl) ?_
      refine VR.sc 6 71 (.bool (((r5.length : Int) == (0 : Int)) && (r4.x1 == (ms.length : Int)))) (fun K' J => ?_) ?_
      · rcases Bool.eq_false_or_eq_true ((r5.length : Int) == (0 : Int)) with h28 | h28
        · refine VR.pG rfl rfl rfl rfl h28 (VP.indexA rfl rfl ar63 (by decide) (by decide)) ?_
          refine VR.pG rfl rfl rfl rfl h28 (VP.loadP (i := 0) rfl rfl ld3 rfl) ?_
          refine VR.pG rfl rfl rfl rfl h28 (VP.move rfl) ?_
          refine VR.pG rfl rfl rfl rfl h28 (VP.lenT T_api_Machine.vv rfl Try.underlying37) ?_
          refine VR.pG rfl rfl rfl rfl h28 (VP.arith rfl rfl rfl) ?_
          refine VR.p rfl rfl (VP.pickB true rfl h28 rfl) ?_
          exact J [_, _, _, _, _] _ rfl (andT h28)
        · refine VR.skipG rfl rfl rfl rfl h28 ?_
          refine VR.skipG rfl rfl rfl rfl h28 ?_
          refine VR.skipG rfl rfl rfl rfl h28 ?_
          refine VR.skipG rfl rfl rfl rfl h28 ?_
          refine VR.skipG rfl rfl rfl rfl h28 ?_
          refine VR.p rfl rfl (VP.pickB false rfl h28 rfl) ?_
          exact J [_, _, _, _, _] _ rfl (andF h28)
      · refine VR.p rfl rfl (VP.move rfl) ?_
        obtain ⟨c2, h33, hm⟩ := bnd hm
        refine VR.sc 5 77 (.bool c2) (fun K' J => ?_) ?_
        · have hm := h33
          rcases ite_or hm with ⟨h29, hm⟩ | ⟨h29, hm⟩
          · refine VR.pG rfl rfl rfl rfl h29 (VP.loadP (i := 1) rfl rfl ld33 rfl) ?_
            obtain ⟨r6, h30, hm⟩ := bnd hm
            refine VR.consG rfl rfl rfl rfl h29 (VO.callN 0 [.nil 27, .nil 49, .same] rfl fn37 rfl (fit_Where_ok ([] : List T_api_Machine) ([] : List T_api_Bound) p r6 h30) fun _ _ h32 => ?_)
            obtain ⟨ob6, cap6, rfl, rfl⟩ := h32
            refine VR.shift (Shift.freezeE 0 [(74, .list 9 (List.map VV.str r6))] rfl ⟨⟨_, rfl, .here _ rfl⟩, trivial⟩ (FzH.refl _)) ?_
            refine VR.pG rfl rfl rfl rfl h29 (VP.lenT VV.str rfl Try.underlying65) ?_
            refine VR.pG rfl rfl rfl rfl h29 (VP.arith rfl rfl rfl) ?_
            refine VR.p rfl rfl (VP.pickB true rfl h29 rfl) ?_
            exact J [_, _, _, _, _] _ rfl (congrArg VV.bool (Option.some.inj hm))
          · have h29 := bf h29
            refine VR.skipG rfl rfl rfl rfl h29 ?_
            refine VR.skipG rfl rfl rfl rfl h29 ?_
            refine VR.skipG rfl rfl rfl rfl h29 ?_
            refine VR.skipG rfl rfl rfl rfl h29 ?_
            refine VR.p rfl rfl (VP.pickB false rfl h29 rfl) ?_
            exact J [_, _, _, _] _ rfl (congrArg VV.bool (Option.some.inj hm))
        · refine VR.p rfl rfl (VP.move rfl) ?_
          obtain ⟨c3, h37, hm⟩ := bnd hm
          refine VR.sc 2 80 (.bool c3) (fun K' J => ?_) ?_
          · have hm := h37
            rcases ite_or hm with ⟨h34, hm⟩ | ⟨h34, hm⟩
            · obtain ⟨r7, h35, hm⟩ := bnd hm
              refine VR.consG rfl rfl rfl rfl h34 (VO.callK 0 rfl fn35 rfl (law12_known_ok r7 h35) fun _ _ h36 => ?_)
              obtain ⟨rfl, rfl⟩ := h36
              refine VR.p rfl rfl (VP.pickB true rfl h34 rfl) ?_
              exact J [_] _ rfl (congrArg VV.bool (Option.some.inj hm))
            · have h34 := bf h34
              refine VR.skipG rfl rfl rfl rfl h34 ?_
              refine VR.p rfl rfl (VP.pickB false rfl h34 rfl) ?_
              exact J [_] _ rfl (congrArg VV.bool (Option.some.inj hm))
          · refine VR.p rfl rfl (VP.assign rfl) ?_
            refine VR.nil ?_
            obtain rfl := Option.some.inj hm
            exact VW.ret ⟨.inl rfl, _, .cons (.tmp _ _ rfl) .nil, [], _, rfl, rfl, rfl⟩

end Go.Proofs.Ytcblmlkpcplkfaa.M

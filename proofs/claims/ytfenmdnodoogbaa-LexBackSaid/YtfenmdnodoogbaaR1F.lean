/-
  Printed by a program of this session out of the loaded functions: models and their proofs. Own text.
-/
import Derived.Test.YtfenmdnodoogbaaR1F0
namespace Go.Proofs.Ytfenmdnodoogbaa.M
open Go Go.Proofs Go.Proofs.Ytfenmdnodoogbaa.V
set_option linter.unusedVariables false
set_option maxRecDepth 20000
set_option maxHeartbeats 4000000
/-! trireme/triremeref01.Word -/
def ref01_Word.l1 (s : ByteArray) : Nat → Int → Int → Option (Out Bool Int)
  | 0, _, _ => none
  | n4 + 1, n2, i2 =>
    if (decide (i2 < (s.size : Int))) = true then
      (ref01_Rune s i2).bind fun r =>
      (if (r.2 == (0 : Int)) = true then some true else (ref01_plain r.1).bind fun r2 =>
      some (!r2)).bind fun c =>
      if c = true then
        some (Out.ret false)
      else
        ref01_Word.l1 s n4 (IntKind.i64.wrap (n2 + (1 : Int))) (IntKind.i64.wrap (i2 + r.2))
    else
      some (Out.go n2)
def ref01_Word (s : ByteArray) : Option Bool :=
  (ref01_Word.l1 s FU (0 : Int) (0 : Int)).bind fun o =>
  o.on fun n32 =>
  some ((decide (n32 ≥ (1 : Int))) && (decide (n32 ≤ (64 : Int))))
theorem ref01_Word_ok (s : ByteArray) (r : Bool) (hm : ref01_Word s = some r) :
    VC Try.prog 13 [.str s] [] (fun x H' => x = .bool r ∧ H' = []) := by
  unfold ref01_Word at hm
  refine VC.run (c := _) (rs := [.tmp 2]) Try.func13 rfl rfl rfl ?_
  refine VW.seq ?_
  refine VW.region ?_
  refine VR.p rfl rfl (VP.assign rfl) ?_
  refine VR.nil ?_
  refine VW.seq ?_
  refine VW.region ?_
  refine VR.p rfl rfl (VP.assign rfl) ?_
  refine VR.nil ?_
  refine VW.seq ?_
  refine VW.seq ?_
  refine VW.region ?_
  refine VR.p rfl rfl (VP.assign rfl) ?_
  refine VR.nil ?_
  obtain ⟨o, h1, h2⟩ := bnd hm
  refine VW.joinE (fun (q : Int) => o = Out.go q) (fun (n32 : Int) (gg : Unit) => [(3, .int .i64 n32)]) (fun (n32 : Int) (gg : Unit) => []) ?_ ?_
  · have hm := h1
    refine VW.block (VW.loop FU ?_)
    refine VL.fuelS (R := _) (fun zn (zs : Int × Int) => ref01_Word.l1 s zn zs.1 zs.2) (fun (zs : Int × Int) (zg : Unit) => [(0, .str s), (3, .int .i64 zs.1), (4, .int .i64 zs.2)]) (fun (zs : Int × Int) (zg : Unit) => []) ((0 : Int), (0 : Int)) () (fun zs => rfl) (Shift.pick [] rfl ⟨rfl, rfl, rfl, trivial⟩) h1 ?_
    rintro n4 ⟨n2, i2⟩ _ hm
    rw [ref01_Word.l1] at hm
    refine VW.seq ?_
    refine VW.seq ?_
    refine VW.region ?_
    refine VR.p rfl rfl (VP.move rfl) ?_
    refine VR.p rfl rfl (VP.move rfl) ?_
    refine VR.p rfl rfl (VP.lenS rfl Try.underlying9) ?_
    refine VR.p rfl rfl (VP.arith rfl rfl rfl) ?_
    refine VR.nil ?_
    rcases ite_or hm with ⟨h3, hm⟩ | ⟨h3, hm⟩
    · refine VW.condT rfl h3 ?_
      refine VW.skip ?_
      refine VW.block ?_
      refine VW.seq ?_
      refine VW.region ?_
      refine VR.p rfl rfl (VP.move rfl) ?_
      refine VR.p rfl rfl (VP.move rfl) ?_
      obtain ⟨r, h4, hm⟩ := bnd hm
      refine VR.cons rfl rfl (VO.callK 0 rfl fn22 rfl (ref01_Rune_ok s i2 r h4) fun _ _ h10 => ?_)
      obtain ⟨rfl, rfl⟩ := h10
      refine VR.p rfl rfl (VP.move rfl) ?_
      refine VR.p rfl rfl (VP.extract rfl rfl) ?_
      refine VR.p rfl rfl (VP.extract rfl rfl) ?_
      refine VR.p rfl rfl (VP.assign rfl) ?_
      refine VR.p rfl rfl (VP.assign rfl) ?_
      refine VR.nil ?_
      refine VW.seq ?_
      refine VW.seq ?_
      refine VW.region ?_
      refine VR.p rfl rfl (VP.move rfl) ?_
      refine VR.p rfl rfl (VP.arith rfl rfl rfl) ?_
      refine VR.p rfl rfl (VP.move rfl) ?_
      obtain ⟨c, h8, hm⟩ := bnd hm
      refine VR.sc 4 23 (.bool c) (fun K' J => ?_) ?_
      · have hm := h8
        rcases ite_or hm with ⟨h5, hm⟩ | ⟨h5, hm⟩
        · refine VR.skipG rfl rfl rfl rfl h5 ?_
          refine VR.skipG rfl rfl rfl rfl h5 ?_
          refine VR.skipG rfl rfl rfl rfl h5 ?_
          refine VR.p rfl rfl (VP.pickB true rfl h5 rfl) ?_
          exact J [_, _, _] _ rfl (congrArg VV.bool (Option.some.inj hm))
        · have h5 := bf h5
          refine VR.pG rfl rfl rfl rfl h5 (VP.move rfl) ?_
          obtain ⟨r2, h6, hm⟩ := bnd hm
          refine VR.consG rfl rfl rfl rfl h5 (VO.callK 0 rfl fn23 rfl (ref01_plain_ok r.1 r2 h6) fun _ _ h7 => ?_)
          obtain ⟨rfl, rfl⟩ := h7
          refine VR.pG rfl rfl rfl rfl h5 (VP.not rfl) ?_
          refine VR.p rfl rfl (VP.pickB false rfl h5 rfl) ?_
          exact J [_, _, _] _ rfl (congrArg VV.bool (Option.some.inj hm))
      · refine VR.nil ?_
        rcases ite_or hm with ⟨h9, hm⟩ | ⟨h9, hm⟩
        · refine VW.condT rfl h9 ?_
          refine VW.seq ?_
          refine VW.region ?_
          refine VR.p rfl rfl (VP.assign rfl) ?_
          refine VR.nil ?_
          obtain rfl := Option.some.inj hm
          have hm := Out.ret_on h2
          obtain rfl := Option.some.inj hm
          exact VW.ret ⟨.inl rfl, _, .cons (.tmp _ _ rfl) .nil, [], _, rfl, rfl, rfl⟩
        · have h9 := bf h9
          refine VW.condF rfl h9 ?_
          refine VW.skip ?_
          refine VW.seq ?_
          refine VW.region ?_
          refine VR.p rfl rfl (VP.move rfl) ?_
          refine VR.p rfl rfl (VP.arith rfl rfl rfl) ?_
          refine VR.p rfl rfl (VP.assign rfl) ?_
          refine VR.nil ?_
          refine VW.region ?_
          refine VR.p rfl rfl (VP.move rfl) ?_
          refine VR.p rfl rfl (VP.move rfl) ?_
          refine VR.p rfl rfl (VP.arith rfl rfl rfl) ?_
          refine VR.p rfl rfl (VP.assign rfl) ?_
          refine VR.nil ?_
          exact ⟨((IntKind.i64.wrap (n2 + (1 : Int))), (IntKind.i64.wrap (i2 + r.2))), (), hm, (Shift.pick [] rfl ⟨rfl, rfl, rfl, trivial⟩)⟩
    · have h3 := bf h3
      refine VW.condF rfl h3 ?_
      refine VW.exit ?_
      exact ⟨n2, (), (Option.some.inj hm).symm, (Shift.pick [] rfl ⟨rfl, trivial⟩)⟩
  · rintro n32 _ rfl
    have hm := Out.go_on h2
    refine VW.seq ?_
    refine VW.region ?_
    refine VR.p rfl rfl (VP.move rfl) ?_
    refine VR.p rfl rfl (VP.arith rfl rfl rfl) ?_
    refine VR.p rfl rfl (VP.move rfl) ?_
    refine VR.sc 3 34 (.bool ((decide (n32 ≥ (1 : Int))) && (decide (n32 ≤ (64 : Int))))) (fun K' J => ?_) ?_
    · rcases Bool.eq_false_or_eq_true (decide (n32 ≥ (1 : Int))) with h11 | h11
      · refine VR.pG rfl rfl rfl rfl h11 (VP.move rfl) ?_
        refine VR.pG rfl rfl rfl rfl h11 (VP.arith rfl rfl rfl) ?_
        refine VR.p rfl rfl (VP.pickB true rfl h11 rfl) ?_
        exact J [_, _] _ rfl (andT h11)
      · refine VR.skipG rfl rfl rfl rfl h11 ?_
        refine VR.skipG rfl rfl rfl rfl h11 ?_
        refine VR.p rfl rfl (VP.pickB false rfl h11 rfl) ?_
        exact J [_, _] _ rfl (andF h11)
    · refine VR.p rfl rfl (VP.assign rfl) ?_
      refine VR.nil ?_
      obtain rfl := Option.some.inj hm
      exact VW.ret ⟨.inl rfl, _, .cons (.tmp _ _ rfl) .nil, [], _, rfl, rfl, rfl⟩

/-! trireme/triremeref01.Runes -/
def ref01_Runes.l1 (s : ByteArray) : Nat → Int → Int → Option (Out Int Int)
  | 0, _, _ => none
  | n4 + 1, n2, i2 =>
    if (decide (i2 < (s.size : Int))) = true then
      (ref01_Rune s i2).bind fun r =>
      if (r.2 == (0 : Int)) = true then
        some (Out.ret (-1 : Int))
      else
        ref01_Runes.l1 s n4 (IntKind.i64.wrap (n2 + (1 : Int))) (IntKind.i64.wrap (i2 + r.2))
    else
      some (Out.go n2)
def ref01_Runes (s : ByteArray) : Option Int :=
  (ref01_Runes.l1 s FU (0 : Int) (0 : Int)).bind fun o =>
  o.on fun n32 =>
  some n32
theorem ref01_Runes_ok (s : ByteArray) (r : Int) (hm : ref01_Runes s = some r) :
    VC Try.prog 15 [.str s] [] (fun x H' => x = .int .i64 r ∧ H' = []) := by
  unfold ref01_Runes at hm
  refine VC.run (c := _) (rs := [.tmp 2]) Try.func15 rfl rfl rfl ?_
  refine VW.seq ?_
  refine VW.region ?_
  refine VR.p rfl rfl (VP.assign rfl) ?_
  refine VR.nil ?_
  refine VW.seq ?_
  refine VW.region ?_
  refine VR.p rfl rfl (VP.assign rfl) ?_
  refine VR.nil ?_
  refine VW.seq ?_
  refine VW.seq ?_
  refine VW.region ?_
  refine VR.p rfl rfl (VP.assign rfl) ?_
  refine VR.nil ?_
  obtain ⟨o, h1, h2⟩ := bnd hm
  refine VW.joinE (fun (q : Int) => o = Out.go q) (fun (n32 : Int) (gg : Unit) => [(3, .int .i64 n32)]) (fun (n32 : Int) (gg : Unit) => []) ?_ ?_
  · have hm := h1
    refine VW.block (VW.loop FU ?_)
    refine VL.fuelS (R := _) (fun zn (zs : Int × Int) => ref01_Runes.l1 s zn zs.1 zs.2) (fun (zs : Int × Int) (zg : Unit) => [(0, .str s), (3, .int .i64 zs.1), (4, .int .i64 zs.2)]) (fun (zs : Int × Int) (zg : Unit) => []) ((0 : Int), (0 : Int)) () (fun zs => rfl) (Shift.pick [] rfl ⟨rfl, rfl, rfl, trivial⟩) h1 ?_
    rintro n4 ⟨n2, i2⟩ _ hm
    rw [ref01_Runes.l1] at hm
    refine VW.seq ?_
    refine VW.seq ?_
    refine VW.region ?_
    refine VR.p rfl rfl (VP.move rfl) ?_
    refine VR.p rfl rfl (VP.move rfl) ?_
    refine VR.p rfl rfl (VP.lenS rfl Try.underlying9) ?_
    refine VR.p rfl rfl (VP.arith rfl rfl rfl) ?_
    refine VR.nil ?_
    rcases ite_or hm with ⟨h3, hm⟩ | ⟨h3, hm⟩
    · refine VW.condT rfl h3 ?_
      refine VW.skip ?_
      refine VW.block ?_
      refine VW.seq ?_
      refine VW.region ?_
      refine VR.p rfl rfl (VP.move rfl) ?_
      refine VR.p rfl rfl (VP.move rfl) ?_
      obtain ⟨r, h4, hm⟩ := bnd hm
      refine VR.cons rfl rfl (VO.callK 0 rfl fn22 rfl (ref01_Rune_ok s i2 r h4) fun _ _ h6 => ?_)
      obtain ⟨rfl, rfl⟩ := h6
      refine VR.p rfl rfl (VP.move rfl) ?_
      refine VR.p rfl rfl (VP.extract rfl rfl) ?_
      refine VR.p rfl rfl (VP.extract rfl rfl) ?_
      refine VR.p rfl rfl (VP.assign rfl) ?_
      refine VR.p rfl rfl (VP.assign rfl) ?_
      refine VR.nil ?_
      refine VW.seq ?_
      refine VW.seq ?_
      refine VW.region ?_
      refine VR.p rfl rfl (VP.move rfl) ?_
      refine VR.p rfl rfl (VP.arith rfl rfl rfl) ?_
      refine VR.nil ?_
      rcases ite_or hm with ⟨h5, hm⟩ | ⟨h5, hm⟩
      · refine VW.condT rfl h5 ?_
        refine VW.seq ?_
        refine VW.region ?_
        refine VR.p rfl rfl (VP.assign rfl) ?_
        refine VR.nil ?_
        obtain rfl := Option.some.inj hm
        have hm := Out.ret_on h2
        obtain rfl := Option.some.inj hm
        exact VW.ret ⟨.inl rfl, _, .cons (.tmp _ _ rfl) .nil, [], _, rfl, rfl, rfl⟩
      · have h5 := bf h5
        refine VW.condF rfl h5 ?_
        refine VW.skip ?_
        refine VW.seq ?_
        refine VW.region ?_
        refine VR.p rfl rfl (VP.move rfl) ?_
        refine VR.p rfl rfl (VP.arith rfl rfl rfl) ?_
        refine VR.p rfl rfl (VP.assign rfl) ?_
        refine VR.nil ?_
        refine VW.region ?_
        refine VR.p rfl rfl (VP.move rfl) ?_
        refine VR.p rfl rfl (VP.move rfl) ?_
        refine VR.p rfl rfl (VP.arith rfl rfl rfl) ?_
        refine VR.p rfl rfl (VP.assign rfl) ?_
        refine VR.nil ?_
        exact ⟨((IntKind.i64.wrap (n2 + (1 : Int))), (IntKind.i64.wrap (i2 + r.2))), (), hm, (Shift.pick [] rfl ⟨rfl, rfl, rfl, trivial⟩)⟩
    · have h3 := bf h3
      refine VW.condF rfl h3 ?_
      refine VW.exit ?_
      exact ⟨n2, (), (Option.some.inj hm).symm, (Shift.pick [] rfl ⟨rfl, trivial⟩)⟩
  · rintro n32 _ rfl
    have hm := Out.go_on h2
    refine VW.seq ?_
    refine VW.region ?_
    refine VR.p rfl rfl (VP.move rfl) ?_
    refine VR.p rfl rfl (VP.assign rfl) ?_
    refine VR.nil ?_
    obtain rfl := Option.some.inj hm
    exact VW.ret ⟨.inl rfl, _, .cons (.tmp _ _ rfl) .nil, [], _, rfl, rfl, rfl⟩

/-! trireme/triremelaw01.LexTexts -/
def law01_LexTexts (s : ByteArray) : Option Bool :=
  if (decide ((s.size : Int) > (3000 : Int))) = true then
    (law01_known).bind fun r =>
    some r
  else
    (lex_Quote s).bind fun r2 =>
    (ref01_Quote s).bind fun r3 =>
    (if (V.seq r2 r3) = true then (lex_Word s).bind fun r4 =>
    (ref01_Word s).bind fun r5 =>
    some (r4 == r5) else some false).bind fun c =>
    (if c = true then (lex_Runes s).bind fun r6 =>
    (ref01_Runes s).bind fun r7 =>
    some (r6 == r7) else some false).bind fun c2 =>
    (if c2 = true then (law01_known).bind fun r8 =>
    some r8 else some false).bind fun c3 =>
    some c3
theorem law01_LexTexts_ok (s : ByteArray) (r : Bool) (hm : law01_LexTexts s = some r) :
    VC Try.prog 3 [.str s] [] (fun x H' => x = .bool r ∧ H' = []) := by
  unfold law01_LexTexts at hm
  refine VC.run (c := _) (rs := [.tmp 2]) Try.func3 rfl rfl rfl ?_
  refine VW.seq ?_
  refine VW.region ?_
  refine VR.p rfl rfl (VP.assign rfl) ?_
  refine VR.nil ?_
  refine VW.seq ?_
  refine VW.seq ?_
  refine VW.region ?_
  refine VR.p rfl rfl (VP.move rfl) ?_
  refine VR.p rfl rfl (VP.lenS rfl Try.underlying9) ?_
  refine VR.p rfl rfl (VP.arith rfl rfl rfl) ?_
  refine VR.nil ?_
  rcases ite_or hm with ⟨h1, hm⟩ | ⟨h1, hm⟩
  · refine VW.condT rfl h1 ?_
    refine VW.seq ?_
    refine VW.region ?_
    obtain ⟨r, h2, hm⟩ := bnd hm
    refine VR.cons rfl rfl (VO.callK 0 rfl fn9 rfl (law01_known_ok r h2) fun _ _ h3 => ?_)
    obtain ⟨rfl, rfl⟩ := h3
    refine VR.p rfl rfl (VP.assign rfl) ?_
    refine VR.nil ?_
    obtain rfl := Option.some.inj hm
    exact VW.ret ⟨.inl rfl, _, .cons (.tmp _ _ rfl) .nil, [], _, rfl, rfl, rfl⟩
  · have h1 := bf h1
    refine VW.condF rfl h1 ?_
    refine VW.skip ?_
    refine VW.seq ?_
    refine VW.region ?_
    refine VR.p rfl rfl (VP.move rfl) ?_
    obtain ⟨r2, h4, hm⟩ := bnd hm
    refine VR.cons rfl rfl (VO.callK 0 rfl fn10 rfl (lex_Quote_ok s r2 h4) fun _ _ h23 => ?_)
    obtain ⟨rfl, rfl⟩ := h23
    refine VR.p rfl rfl (VP.move rfl) ?_
    obtain ⟨r3, h5, hm⟩ := bnd hm
    refine VR.cons rfl rfl (VO.callK 0 rfl fn11 rfl (ref01_Quote_ok s r3 h5) fun _ _ h22 => ?_)
    obtain ⟨rfl, rfl⟩ := h22
    refine VR.p rfl rfl (VP.strop rfl rfl rfl) ?_
    refine VR.p rfl rfl (VP.move rfl) ?_
    obtain ⟨c, h11, hm⟩ := bnd hm
    refine VR.sc 6 18 (.bool c) (fun K' J => ?_) ?_
    · have hm := h11
      rcases ite_or hm with ⟨h6, hm⟩ | ⟨h6, hm⟩
      · refine VR.pG rfl rfl rfl rfl h6 (VP.move rfl) ?_
        obtain ⟨r4, h7, hm⟩ := bnd hm
        refine VR.consG rfl rfl rfl rfl h6 (VO.callK 0 rfl fn12 rfl (lex_Word_ok s r4 h7) fun _ _ h10 => ?_)
        obtain ⟨rfl, rfl⟩ := h10
        refine VR.pG rfl rfl rfl rfl h6 (VP.move rfl) ?_
        obtain ⟨r5, h8, hm⟩ := bnd hm
        refine VR.consG rfl rfl rfl rfl h6 (VO.callK 0 rfl fn13 rfl (ref01_Word_ok s r5 h8) fun _ _ h9 => ?_)
        obtain ⟨rfl, rfl⟩ := h9
        refine VR.pG rfl rfl rfl rfl h6 (VP.boolop Try.underlying4 rfl rfl rfl) ?_
        refine VR.p rfl rfl (VP.pickB true rfl h6 rfl) ?_
        exact J [_, _, _, _, _] _ rfl (congrArg VV.bool (Option.some.inj hm))
      · have h6 := bf h6
        refine VR.skipG rfl rfl rfl rfl h6 ?_
        refine VR.skipG rfl rfl rfl rfl h6 ?_
        refine VR.skipG rfl rfl rfl rfl h6 ?_
        refine VR.skipG rfl rfl rfl rfl h6 ?_
        refine VR.skipG rfl rfl rfl rfl h6 ?_
        refine VR.p rfl rfl (VP.pickB false rfl h6 rfl) ?_
        exact J [_, _, _, _, _] _ rfl (congrArg VV.bool (Option.some.inj hm))
    · refine VR.p rfl rfl (VP.move rfl) ?_
      obtain ⟨c2, h17, hm⟩ := bnd hm
      refine VR.sc 6 25 (.bool c2) (fun K' J => ?_) ?_
      · have hm := h17
        rcases ite_or hm with ⟨h12, hm⟩ | ⟨h12, hm⟩
        · refine VR.pG rfl rfl rfl rfl h12 (VP.move rfl) ?_
          obtain ⟨r6, h13, hm⟩ := bnd hm
          refine VR.consG rfl rfl rfl rfl h12 (VO.callK 0 rfl fn14 rfl (lex_Runes_ok s r6 h13) fun _ _ h16 => ?_)
          obtain ⟨rfl, rfl⟩ := h16
          refine VR.pG rfl rfl rfl rfl h12 (VP.move rfl) ?_
          obtain ⟨r7, h14, hm⟩ := bnd hm
          refine VR.consG rfl rfl rfl rfl h12 (VO.callK 0 rfl fn15 rfl (ref01_Runes_ok s r7 h14) fun _ _ h15 => ?_)
          obtain ⟨rfl, rfl⟩ := h15
          refine VR.pG rfl rfl rfl rfl h12 (VP.arith rfl rfl rfl) ?_
          refine VR.p rfl rfl (VP.pickB true rfl h12 rfl) ?_
          exact J [_, _, _, _, _] _ rfl (congrArg VV.bool (Option.some.inj hm))
        · have h12 := bf h12
          refine VR.skipG rfl rfl rfl rfl h12 ?_
          refine VR.skipG rfl rfl rfl rfl h12 ?_
          refine VR.skipG rfl rfl rfl rfl h12 ?_
          refine VR.skipG rfl rfl rfl rfl h12 ?_
          refine VR.skipG rfl rfl rfl rfl h12 ?_
          refine VR.p rfl rfl (VP.pickB false rfl h12 rfl) ?_
          exact J [_, _, _, _, _] _ rfl (congrArg VV.bool (Option.some.inj hm))
      · refine VR.p rfl rfl (VP.move rfl) ?_
        obtain ⟨c3, h21, hm⟩ := bnd hm
        refine VR.sc 2 28 (.bool c3) (fun K' J => ?_) ?_
        · have hm := h21
          rcases ite_or hm with ⟨h18, hm⟩ | ⟨h18, hm⟩
          · obtain ⟨r8, h19, hm⟩ := bnd hm
            refine VR.consG rfl rfl rfl rfl h18 (VO.callK 0 rfl fn9 rfl (law01_known_ok r8 h19) fun _ _ h20 => ?_)
            obtain ⟨rfl, rfl⟩ := h20
            refine VR.p rfl rfl (VP.pickB true rfl h18 rfl) ?_
            exact J [_] _ rfl (congrArg VV.bool (Option.some.inj hm))
          · have h18 := bf h18
            refine VR.skipG rfl rfl rfl rfl h18 ?_
            refine VR.p rfl rfl (VP.pickB false rfl h18 rfl) ?_
            exact J [_] _ rfl (congrArg VV.bool (Option.some.inj hm))
        · refine VR.p rfl rfl (VP.assign rfl) ?_
          refine VR.nil ?_
          obtain rfl := Option.some.inj hm
          exact VW.ret ⟨.inl rfl, _, .cons (.tmp _ _ rfl) .nil, [], _, rfl, rfl, rfl⟩

/-! trireme/triremeref01.Show -/
def ref01_Show.l1 (l : List T_api_Token) : Nat → ByteArray → Int → Option ByteArray
  | 0, _, _ => none
  | n + 1, out2, i2 =>
    if (decide (i2 < (l.length : Int))) = true then
      ((if (decide (i2 > (0 : Int))) = true then (V.gl l (IntKind.i64.wrap (i2 - (1 : Int)))).bind fun x =>
      some (x.Kind != (1 : Int)) else some false).bind fun c =>
      (if c = true then (V.gl l i2).bind fun x2 =>
      some (x2.Kind != (2 : Int)) else some false).bind fun c2 =>
      if c2 = true then
        (V.cat out2 (⟨#[32]⟩ : ByteArray)).bind fun v =>
        some v
      else
        some out2).bind fun out42 =>
      (V.gl l i2).bind fun x3 =>
      if (x3.Kind == (1 : Int)) = true then
        (V.cat out42 (⟨#[40]⟩ : ByteArray)).bind fun v2 =>
        ref01_Show.l1 l n v2 (IntKind.i64.wrap (i2 + (1 : Int)))
      else
        if (x3.Kind == (2 : Int)) = true then
          (V.cat out42 (⟨#[41]⟩ : ByteArray)).bind fun v3 =>
          ref01_Show.l1 l n v3 (IntKind.i64.wrap (i2 + (1 : Int)))
        else
          if (x3.Kind == (4 : Int)) = true then
            (V.gl l i2).bind fun x4 =>
            (ref01_Quote x4.Text).bind fun r =>
            (V.cat out42 r).bind fun v4 =>
            ref01_Show.l1 l n v4 (IntKind.i64.wrap (i2 + (1 : Int)))
          else
            (V.gl l i2).bind fun x5 =>
            (V.cat out42 x5.Text).bind fun v5 =>
            ref01_Show.l1 l n v5 (IntKind.i64.wrap (i2 + (1 : Int)))
    else
      some out2
def ref01_Show (l : List T_api_Token) : Option ByteArray :=
  (ref01_Show.l1 l FU (⟨#[]⟩ : ByteArray) (0 : Int)).bind fun out32 =>
  some out32
theorem ref01_Show_ok (l : List T_api_Token) (r : ByteArray) (hm : ref01_Show l = some r) :
    VC Try.prog 17 [.list 28 (List.map T_api_Token.vv l)] [] (fun x H' => x = .str r ∧ H' = []) := by
  unfold ref01_Show at hm
  refine VC.run (c := _) (rs := [.tmp 2]) Try.func17 rfl rfl rfl ?_
  refine VW.seq ?_
  refine VW.region ?_
  refine VR.p rfl rfl (VP.assign rfl) ?_
  refine VR.nil ?_
  refine VW.seq ?_
  refine VW.region ?_
  refine VR.p rfl rfl (VP.assign rfl) ?_
  refine VR.nil ?_
  refine VW.seq ?_
  refine VW.seq ?_
  refine VW.region ?_
  refine VR.p rfl rfl (VP.assign rfl) ?_
  refine VR.nil ?_
  obtain ⟨o, h1, h2⟩ := bnd hm
  refine VW.joinE (fun (q : ByteArray) => q = o) (fun (out32 : ByteArray) (gg : Unit) => [(3, .str out32)]) (fun (out32 : ByteArray) (gg : Unit) => []) ?_ ?_
  · have hm := h1
    refine VW.block (VW.loop FU ?_)
    refine VL.fuelS (R := _) (fun zn (zs : ByteArray × Int) => ref01_Show.l1 l zn zs.1 zs.2) (fun (zs : ByteArray × Int) (zg : Unit) => [(0, .list 28 (List.map T_api_Token.vv l)), (3, .str zs.1), (4, .int .i64 zs.2)]) (fun (zs : ByteArray × Int) (zg : Unit) => []) ((⟨#[]⟩ : ByteArray), (0 : Int)) () (fun zs => rfl) (Shift.pick [] rfl ⟨rfl, rfl, rfl, trivial⟩) h1 ?_
    rintro n ⟨out2, i2⟩ _ hm
    rw [ref01_Show.l1] at hm
    refine VW.seq ?_
    refine VW.seq ?_
    refine VW.region ?_
    refine VR.p rfl rfl (VP.move rfl) ?_
    refine VR.p rfl rfl (VP.move rfl) ?_
    refine VR.p rfl rfl (VP.lenT T_api_Token.vv rfl Try.underlying26) ?_
    refine VR.p rfl rfl (VP.arith rfl rfl rfl) ?_
    refine VR.nil ?_
    rcases ite_or hm with ⟨h3, hm⟩ | ⟨h3, hm⟩
    · refine VW.condT rfl h3 ?_
      refine VW.skip ?_
      refine VW.seq ?_
      refine VW.block ?_
      obtain ⟨o2, h4, h5⟩ := bnd hm
      refine VW.join (fun (q : ByteArray) => q = o2) (fun (out42 : ByteArray) (gg : Unit) => [(0, .list 28 (List.map T_api_Token.vv l)), (3, .str out42), (4, .int .i64 i2)]) (fun (out42 : ByteArray) (gg : Unit) => []) ?_ ?_
      · have hm := h4
        refine VW.seq ?_
        refine VW.region ?_
        refine VR.p rfl rfl (VP.move rfl) ?_
        refine VR.p rfl rfl (VP.arith rfl rfl rfl) ?_
        refine VR.p rfl rfl (VP.move rfl) ?_
        obtain ⟨c, h8, hm⟩ := bnd hm
        refine VR.sc 8 21 (.bool c) (fun K' J => ?_) ?_
        · have hm := h8
          rcases ite_or hm with ⟨h6, hm⟩ | ⟨h6, hm⟩
          · refine VR.pG rfl rfl rfl rfl h6 (VP.move rfl) ?_
            refine VR.pG rfl rfl rfl rfl h6 (VP.move rfl) ?_
            refine VR.pG rfl rfl rfl rfl h6 (VP.arith rfl rfl rfl) ?_
            obtain ⟨x, h7, hm⟩ := bnd hm
            refine VR.pG rfl rfl rfl rfl h6 (VP.glE T_api_Token.vv rfl rfl el26 h7) ?_
            refine VR.pG rfl rfl rfl rfl h6 (VP.fieldE rfl fa28_0) ?_
            refine VR.pG rfl rfl rfl rfl h6 (VP.loadE rfl ld3 rfl) ?_
            refine VR.pG rfl rfl rfl rfl h6 (VP.arith rfl rfl rfl) ?_
            refine VR.p rfl rfl (VP.pickB true rfl h6 rfl) ?_
            exact J [_, _, _, _, _, _, _] _ rfl (congrArg VV.bool (Option.some.inj hm))
          · have h6 := bf h6
            refine VR.skipG rfl rfl rfl rfl h6 ?_
            refine VR.skipG rfl rfl rfl rfl h6 ?_
            refine VR.skipG rfl rfl rfl rfl h6 ?_
            refine VR.skipG rfl rfl rfl rfl h6 ?_
            refine VR.skipG rfl rfl rfl rfl h6 ?_
            refine VR.skipG rfl rfl rfl rfl h6 ?_
            refine VR.skipG rfl rfl rfl rfl h6 ?_
            refine VR.p rfl rfl (VP.pickB false rfl h6 rfl) ?_
            exact J [_, _, _, _, _, _, _] _ rfl (congrArg VV.bool (Option.some.inj hm))
        · refine VR.p rfl rfl (VP.move rfl) ?_
          obtain ⟨c2, h11, hm⟩ := bnd hm
          refine VR.sc 7 29 (.bool c2) (fun K' J => ?_) ?_
          · have hm := h11
            rcases ite_or hm with ⟨h9, hm⟩ | ⟨h9, hm⟩
            · refine VR.pG rfl rfl rfl rfl h9 (VP.move rfl) ?_
              refine VR.pG rfl rfl rfl rfl h9 (VP.move rfl) ?_
              obtain ⟨x2, h10, hm⟩ := bnd hm
              refine VR.pG rfl rfl rfl rfl h9 (VP.glE T_api_Token.vv rfl rfl el26 h10) ?_
              refine VR.pG rfl rfl rfl rfl h9 (VP.fieldE rfl fa28_0) ?_
              refine VR.pG rfl rfl rfl rfl h9 (VP.loadE rfl ld3 rfl) ?_
              refine VR.pG rfl rfl rfl rfl h9 (VP.arith rfl rfl rfl) ?_
              refine VR.p rfl rfl (VP.pickB true rfl h9 rfl) ?_
              exact J [_, _, _, _, _, _] _ rfl (congrArg VV.bool (Option.some.inj hm))
            · have h9 := bf h9
              refine VR.skipG rfl rfl rfl rfl h9 ?_
              refine VR.skipG rfl rfl rfl rfl h9 ?_
              refine VR.skipG rfl rfl rfl rfl h9 ?_
              refine VR.skipG rfl rfl rfl rfl h9 ?_
              refine VR.skipG rfl rfl rfl rfl h9 ?_
              refine VR.skipG rfl rfl rfl rfl h9 ?_
              refine VR.p rfl rfl (VP.pickB false rfl h9 rfl) ?_
              exact J [_, _, _, _, _, _] _ rfl (congrArg VV.bool (Option.some.inj hm))
          · refine VR.nil ?_
            rcases ite_or hm with ⟨h12, hm⟩ | ⟨h12, hm⟩
            · refine VW.condT rfl h12 ?_
              refine VW.region ?_
              refine VR.p rfl rfl (VP.move rfl) ?_
              obtain ⟨v, h13, hm⟩ := bnd hm
              refine VR.p rfl rfl (VP.catT rfl rfl h13) ?_
              refine VR.p rfl rfl (VP.assign rfl) ?_
              refine VR.nil ?_
              exact ⟨v, (), Option.some.inj hm, (Shift.pick [] rfl ⟨rfl, rfl, rfl, trivial⟩)⟩
            · have h12 := bf h12
              refine VW.condF rfl h12 ?_
              refine VW.skip ?_
              exact ⟨out2, (), Option.some.inj hm, (Shift.pick [] rfl ⟨rfl, rfl, rfl, trivial⟩)⟩
      · rintro out42 _ rfl
        have hm := h5
        refine VW.seq ?_
        refine VW.region ?_
        refine VR.p rfl rfl (VP.move rfl) ?_
        refine VR.p rfl rfl (VP.move rfl) ?_
        obtain ⟨x3, h14, hm⟩ := bnd hm
        refine VR.p rfl rfl (VP.glE T_api_Token.vv rfl rfl el26 h14) ?_
        refine VR.p rfl rfl (VP.fieldE rfl fa28_0) ?_
        refine VR.p rfl rfl (VP.loadE rfl ld3 rfl) ?_
        refine VR.nil ?_
        refine VW.block ?_
        refine VW.seq ?_
        refine VW.region ?_
        refine VR.p rfl rfl (VP.arith rfl rfl rfl) ?_
        refine VR.p rfl rfl (VP.assign rfl) ?_
        refine VR.nil ?_
        rcases ite_or hm with ⟨h15, hm⟩ | ⟨h15, hm⟩
        · refine VW.condT rfl h15 ?_
          refine VW.region ?_
          refine VR.p rfl rfl (VP.move rfl) ?_
          obtain ⟨v2, h16, hm⟩ := bnd hm
          refine VR.p rfl rfl (VP.catT rfl rfl h16) ?_
          refine VR.p rfl rfl (VP.assign rfl) ?_
          refine VR.nil ?_
          refine VW.region ?_
          refine VR.p rfl rfl (VP.move rfl) ?_
          refine VR.p rfl rfl (VP.arith rfl rfl rfl) ?_
          refine VR.p rfl rfl (VP.assign rfl) ?_
          refine VR.nil ?_
          exact ⟨(v2, (IntKind.i64.wrap (i2 + (1 : Int)))), (), hm, (Shift.pick [] rfl ⟨rfl, rfl, rfl, trivial⟩)⟩
        · have h15 := bf h15
          refine VW.condF rfl h15 ?_
          refine VW.seq ?_
          refine VW.region ?_
          refine VR.p rfl rfl (VP.arith rfl rfl rfl) ?_
          refine VR.p rfl rfl (VP.assign rfl) ?_
          refine VR.nil ?_
          rcases ite_or hm with ⟨h17, hm⟩ | ⟨h17, hm⟩
          · refine VW.condT rfl h17 ?_
            refine VW.region ?_
            refine VR.p rfl rfl (VP.move rfl) ?_
            obtain ⟨v3, h18, hm⟩ := bnd hm
            refine VR.p rfl rfl (VP.catT rfl rfl h18) ?_
            refine VR.p rfl rfl (VP.assign rfl) ?_
            refine VR.nil ?_
            refine VW.region ?_
            refine VR.p rfl rfl (VP.move rfl) ?_
            refine VR.p rfl rfl (VP.arith rfl rfl rfl) ?_
            refine VR.p rfl rfl (VP.assign rfl) ?_
            refine VR.nil ?_
            exact ⟨(v3, (IntKind.i64.wrap (i2 + (1 : Int)))), (), hm, (Shift.pick [] rfl ⟨rfl, rfl, rfl, trivial⟩)⟩
          · have h17 := bf h17
            refine VW.condF rfl h17 ?_
            refine VW.seq ?_
            refine VW.region ?_
            refine VR.p rfl rfl (VP.arith rfl rfl rfl) ?_
            refine VR.p rfl rfl (VP.assign rfl) ?_
            refine VR.nil ?_
            rcases ite_or hm with ⟨h19, hm⟩ | ⟨h19, hm⟩
            · refine VW.condT rfl h19 ?_
              refine VW.region ?_
              refine VR.p rfl rfl (VP.move rfl) ?_
              refine VR.p rfl rfl (VP.move rfl) ?_
              refine VR.p rfl rfl (VP.move rfl) ?_
              obtain ⟨x4, h20, hm⟩ := bnd hm
              refine VR.p rfl rfl (VP.glE T_api_Token.vv rfl rfl el26 h20) ?_
              refine VR.p rfl rfl (VP.fieldE rfl fa28_1) ?_
              refine VR.p rfl rfl (VP.loadE rfl ld9 rfl) ?_
              obtain ⟨r, h21, hm⟩ := bnd hm
              refine VR.cons rfl rfl (VO.callK 0 rfl fn11 rfl (ref01_Quote_ok x4.Text r h21) fun _ _ h23 => ?_)
              obtain ⟨rfl, rfl⟩ := h23
              obtain ⟨v4, h22, hm⟩ := bnd hm
              refine VR.p rfl rfl (VP.catT rfl rfl h22) ?_
              refine VR.p rfl rfl (VP.assign rfl) ?_
              refine VR.nil ?_
              refine VW.region ?_
              refine VR.p rfl rfl (VP.move rfl) ?_
              refine VR.p rfl rfl (VP.arith rfl rfl rfl) ?_
              refine VR.p rfl rfl (VP.assign rfl) ?_
              refine VR.nil ?_
              exact ⟨(v4, (IntKind.i64.wrap (i2 + (1 : Int)))), (), hm, (Shift.pick [] rfl ⟨rfl, rfl, rfl, trivial⟩)⟩
            · have h19 := bf h19
              refine VW.condF rfl h19 ?_
              refine VW.region ?_
              refine VR.p rfl rfl (VP.move rfl) ?_
              refine VR.p rfl rfl (VP.move rfl) ?_
              refine VR.p rfl rfl (VP.move rfl) ?_
              obtain ⟨x5, h24, hm⟩ := bnd hm
              refine VR.p rfl rfl (VP.glE T_api_Token.vv rfl rfl el26 h24) ?_
              refine VR.p rfl rfl (VP.fieldE rfl fa28_1) ?_
              refine VR.p rfl rfl (VP.loadE rfl ld9 rfl) ?_
              obtain ⟨v5, h25, hm⟩ := bnd hm
              refine VR.p rfl rfl (VP.catT rfl rfl h25) ?_
              refine VR.p rfl rfl (VP.assign rfl) ?_
              refine VR.nil ?_
              refine VW.region ?_
              refine VR.p rfl rfl (VP.move rfl) ?_
              refine VR.p rfl rfl (VP.arith rfl rfl rfl) ?_
              refine VR.p rfl rfl (VP.assign rfl) ?_
              refine VR.nil ?_
              exact ⟨(v5, (IntKind.i64.wrap (i2 + (1 : Int)))), (), hm, (Shift.pick [] rfl ⟨rfl, rfl, rfl, trivial⟩)⟩
    · have h3 := bf h3
      refine VW.condF rfl h3 ?_
      refine VW.exit ?_
      exact ⟨out2, (), Option.some.inj hm, (Shift.pick [] rfl ⟨rfl, trivial⟩)⟩
  · rintro out32 _ rfl
    have hm := h2
    refine VW.seq ?_
    refine VW.region ?_
    refine VR.p rfl rfl (VP.move rfl) ?_
    refine VR.p rfl rfl (VP.assign rfl) ?_
    refine VR.nil ?_
    obtain rfl := Option.some.inj hm
    exact VW.ret ⟨.inl rfl, _, .cons (.tmp _ _ rfl) .nil, [], _, rfl, rfl, rfl⟩

/-! trireme/triremelaw01.LexShows -/
def law01_LexShows.l1 (l : List T_api_Token) : Nat → Int → Option (Out Bool Unit)
  | 0, _ => none
  | n + 1, i2 =>
    if (decide (i2 < (l.length : Int))) = true then
      (V.gl l i2).bind fun x =>
      if (decide ((x.Text.size : Int) > (200 : Int))) = true then
        (law01_known).bind fun r2 =>
        some (Out.ret r2)
      else
        law01_LexShows.l1 l n (IntKind.i64.wrap (i2 + (1 : Int)))
    else
      some (Out.go ())
def law01_LexShows (l : List T_api_Token) : Option Bool :=
  if (decide ((l.length : Int) > (200 : Int))) = true then
    (law01_known).bind fun r =>
    some r
  else
    (law01_LexShows.l1 l FU (0 : Int)).bind fun o =>
    o.on fun j =>
    (lex_Show l).bind fun r3 =>
    (ref01_Show l).bind fun r4 =>
    (if (V.seq r3 r4) = true then (law01_known).bind fun r5 =>
    some r5 else some false).bind fun c =>
    some c
theorem law01_LexShows_ok (l : List T_api_Token) (r : Bool) (hm : law01_LexShows l = some r) :
    VC Try.prog 4 [.list 28 (List.map T_api_Token.vv l)] [] (fun x H' => x = .bool r ∧ H' = []) := by
  unfold law01_LexShows at hm
  refine VC.run (c := _) (rs := [.tmp 2]) Try.func4 rfl rfl rfl ?_
  refine VW.seq ?_
  refine VW.region ?_
  refine VR.p rfl rfl (VP.assign rfl) ?_
  refine VR.nil ?_
  refine VW.seq ?_
  refine VW.seq ?_
  refine VW.region ?_
  refine VR.p rfl rfl (VP.move rfl) ?_
  refine VR.p rfl rfl (VP.lenT T_api_Token.vv rfl Try.underlying26) ?_
  refine VR.p rfl rfl (VP.arith rfl rfl rfl) ?_
  refine VR.nil ?_
  rcases ite_or hm with ⟨h1, hm⟩ | ⟨h1, hm⟩
  · refine VW.condT rfl h1 ?_
    refine VW.seq ?_
    refine VW.region ?_
    obtain ⟨r, h2, hm⟩ := bnd hm
    refine VR.cons rfl rfl (VO.callK 0 rfl fn9 rfl (law01_known_ok r h2) fun _ _ h3 => ?_)
    obtain ⟨rfl, rfl⟩ := h3
    refine VR.p rfl rfl (VP.assign rfl) ?_
    refine VR.nil ?_
    obtain rfl := Option.some.inj hm
    exact VW.ret ⟨.inl rfl, _, .cons (.tmp _ _ rfl) .nil, [], _, rfl, rfl, rfl⟩
  · have h1 := bf h1
    refine VW.condF rfl h1 ?_
    refine VW.skip ?_
    refine VW.seq ?_
    refine VW.seq ?_
    refine VW.region ?_
    refine VR.p rfl rfl (VP.assign rfl) ?_
    refine VR.nil ?_
    obtain ⟨o, h4, h5⟩ := bnd hm
    refine VW.joinE (fun (q : Unit) => o = Out.go q) (fun (j : Unit) (gg : Unit) => [(0, .list 28 (List.map T_api_Token.vv l))]) (fun (j : Unit) (gg : Unit) => []) ?_ ?_
    · have hm := h4
      refine VW.block (VW.loop FU ?_)
      refine VL.fuelS (R := _) (fun zn (zs : Int) => law01_LexShows.l1 l zn zs) (fun (zs : Int) (zg : Unit) => [(0, .list 28 (List.map T_api_Token.vv l)), (3, .int .i64 zs)]) (fun (zs : Int) (zg : Unit) => []) (0 : Int) () (fun zs => rfl) (Shift.pick [] rfl ⟨rfl, rfl, trivial⟩) h4 ?_
      rintro n i2 _ hm
      rw [law01_LexShows.l1] at hm
      refine VW.seq ?_
      refine VW.seq ?_
      refine VW.region ?_
      refine VR.p rfl rfl (VP.move rfl) ?_
      refine VR.p rfl rfl (VP.move rfl) ?_
      refine VR.p rfl rfl (VP.lenT T_api_Token.vv rfl Try.underlying26) ?_
      refine VR.p rfl rfl (VP.arith rfl rfl rfl) ?_
      refine VR.nil ?_
      rcases ite_or hm with ⟨h6, hm⟩ | ⟨h6, hm⟩
      · refine VW.condT rfl h6 ?_
        refine VW.skip ?_
        refine VW.seq ?_
        refine VW.block ?_
        refine VW.seq ?_
        refine VW.region ?_
        refine VR.p rfl rfl (VP.move rfl) ?_
        refine VR.p rfl rfl (VP.move rfl) ?_
        obtain ⟨x, h7, hm⟩ := bnd hm
        refine VR.p rfl rfl (VP.glE T_api_Token.vv rfl rfl el26 h7) ?_
        refine VR.p rfl rfl (VP.fieldE rfl fa28_1) ?_
        refine VR.p rfl rfl (VP.loadE rfl ld9 rfl) ?_
        refine VR.p rfl rfl (VP.lenS rfl Try.underlying9) ?_
        refine VR.p rfl rfl (VP.arith rfl rfl rfl) ?_
        refine VR.nil ?_
        rcases ite_or hm with ⟨h8, hm⟩ | ⟨h8, hm⟩
        · refine VW.condT rfl h8 ?_
          refine VW.seq ?_
          refine VW.region ?_
          obtain ⟨r2, h9, hm⟩ := bnd hm
          refine VR.cons rfl rfl (VO.callK 0 rfl fn9 rfl (law01_known_ok r2 h9) fun _ _ h10 => ?_)
          obtain ⟨rfl, rfl⟩ := h10
          refine VR.p rfl rfl (VP.assign rfl) ?_
          refine VR.nil ?_
          obtain rfl := Option.some.inj hm
          have hm := Out.ret_on h5
          obtain rfl := Option.some.inj hm
          exact VW.ret ⟨.inl rfl, _, .cons (.tmp _ _ rfl) .nil, [], _, rfl, rfl, rfl⟩
        · have h8 := bf h8
          refine VW.condF rfl h8 ?_
          refine VW.skip ?_
          refine VW.region ?_
          refine VR.p rfl rfl (VP.move rfl) ?_
          refine VR.p rfl rfl (VP.arith rfl rfl rfl) ?_
          refine VR.p rfl rfl (VP.assign rfl) ?_
          refine VR.nil ?_
          exact ⟨(IntKind.i64.wrap (i2 + (1 : Int))), (), hm, (Shift.pick [] rfl ⟨rfl, rfl, trivial⟩)⟩
      · have h6 := bf h6
        refine VW.condF rfl h6 ?_
        refine VW.exit ?_
        exact ⟨(), (), (Option.some.inj hm).symm, (Shift.pick [] rfl ⟨rfl, trivial⟩)⟩
    · rintro j _ rfl
      have hm := Out.go_on h5
      refine VW.seq ?_
      refine VW.region ?_
      refine VR.p rfl rfl (VP.move rfl) ?_
      obtain ⟨r3, h11, hm⟩ := bnd hm
      refine VR.cons rfl rfl (VO.callK 0 rfl fn16 rfl (lex_Show_ok l r3 h11) fun _ _ h18 => ?_)
      obtain ⟨rfl, rfl⟩ := h18
      refine VR.p rfl rfl (VP.move rfl) ?_
      obtain ⟨r4, h12, hm⟩ := bnd hm
      refine VR.cons rfl rfl (VO.callK 0 rfl fn17 rfl (ref01_Show_ok l r4 h12) fun _ _ h17 => ?_)
      obtain ⟨rfl, rfl⟩ := h17
      refine VR.p rfl rfl (VP.strop rfl rfl rfl) ?_
      refine VR.p rfl rfl (VP.move rfl) ?_
      obtain ⟨c, h16, hm⟩ := bnd hm
      refine VR.sc 2 29 (.bool c) (fun K' J => ?_) ?_
      · have hm := h16
        rcases ite_or hm with ⟨h13, hm⟩ | ⟨h13, hm⟩
        · obtain ⟨r5, h14, hm⟩ := bnd hm
          refine VR.consG rfl rfl rfl rfl h13 (VO.callK 0 rfl fn9 rfl (law01_known_ok r5 h14) fun _ _ h15 => ?_)
          obtain ⟨rfl, rfl⟩ := h15
          refine VR.p rfl rfl (VP.pickB true rfl h13 rfl) ?_
          exact J [_] _ rfl (congrArg VV.bool (Option.some.inj hm))
        · have h13 := bf h13
          refine VR.skipG rfl rfl rfl rfl h13 ?_
          refine VR.p rfl rfl (VP.pickB false rfl h13 rfl) ?_
          exact J [_] _ rfl (congrArg VV.bool (Option.some.inj hm))
      · refine VR.p rfl rfl (VP.assign rfl) ?_
        refine VR.nil ?_
        obtain rfl := Option.some.inj hm
        exact VW.ret ⟨.inl rfl, _, .cons (.tmp _ _ rfl) .nil, [], _, rfl, rfl, rfl⟩

/-! trireme/triremelaw01.LexBack -/
def law01_LexBack.l1 (r2 : List T_api_Token × Int × Int) : Nat → Int → Option (Out Bool Unit)
  | 0, _ => none
  | n + 1, i2 =>
    if (decide (i2 < (r2.1.length : Int))) = true then
      (V.gl r2.1 i2).bind fun x =>
      (V.gl r2.1 (IntKind.i64.wrap (i2 - (1 : Int)))).bind fun x2 =>
      (if (decide (x.At ≤ x2.At)) = true then some true else (V.gl r2.1 i2).bind fun x3 =>
      (V.gl r2.1 (IntKind.i64.wrap (i2 - (1 : Int)))).bind fun x4 =>
      some (decide (x3.Line < x4.Line))).bind fun c3 =>
      (if c3 = true then some true else (V.gl r2.1 i2).bind fun x5 =>
      (V.gl r2.1 (IntKind.i64.wrap (i2 - (1 : Int)))).bind fun x6 =>
      (if (x5.Line == x6.Line) = true then (V.gl r2.1 i2).bind fun x7 =>
      (V.gl r2.1 (IntKind.i64.wrap (i2 - (1 : Int)))).bind fun x8 =>
      some (decide (x7.Col ≤ x8.Col)) else some false).bind fun c4 =>
      some c4).bind fun c5 =>
      if c5 = true then
        some (Out.ret false)
      else
        law01_LexBack.l1 r2 n (IntKind.i64.wrap (i2 + (1 : Int)))
    else
      some (Out.go ())
def law01_LexBack (s : ByteArray) : Option Bool :=
  if (decide ((s.size : Int) > (3000 : Int))) = true then
    (law01_known).bind fun r =>
    some r
  else
    (lex_Scan s).bind fun r2 =>
    if (r2.2.1 != (0 : Int)) = true then
      (if ((((r2.1.length : Int) == (0 : Int)) && (decide (r2.2.2 ≥ (0 : Int)))) && (decide (r2.2.2 ≤ (s.size : Int)))) = true then (law01_known).bind fun r3 =>
      some r3 else some false).bind fun c =>
      some c
    else
      (lex_Show r2.1).bind fun r4 =>
      (lex_Scan r4).bind fun r5 =>
      (if (r5.2.1 != (0 : Int)) = true then some true else (ref01_Same r2.1 r5.1 false).bind fun r6 =>
      some (!r6)).bind fun c2 =>
      if c2 = true then
        some false
      else
        (law01_LexBack.l1 r2 FU (1 : Int)).bind fun o =>
        o.on fun j =>
        (law01_known).bind fun r7 =>
        some r7
theorem law01_LexBack_ok (s : ByteArray) (r : Bool) (hm : law01_LexBack s = some r) :
    VC Try.prog 5 [.str s] [] (fun x H' => x = .bool r ∧ H' = []) := by
  unfold law01_LexBack at hm
  refine VC.run (c := _) (rs := [.tmp 2]) Try.func5 rfl rfl rfl ?_
  refine VW.seq ?_
  refine VW.region ?_
  refine VR.p rfl rfl (VP.assign rfl) ?_
  refine VR.nil ?_
  refine VW.seq ?_
  refine VW.seq ?_
  refine VW.region ?_
  refine VR.p rfl rfl (VP.move rfl) ?_
  refine VR.p rfl rfl (VP.lenS rfl Try.underlying9) ?_
  refine VR.p rfl rfl (VP.arith rfl rfl rfl) ?_
  refine VR.nil ?_
  rcases ite_or hm with ⟨h1, hm⟩ | ⟨h1, hm⟩
  · refine VW.condT rfl h1 ?_
    refine VW.seq ?_
    refine VW.region ?_
    obtain ⟨r, h2, hm⟩ := bnd hm
    refine VR.cons rfl rfl (VO.callK 0 rfl fn9 rfl (law01_known_ok r h2) fun _ _ h3 => ?_)
    obtain ⟨rfl, rfl⟩ := h3
    refine VR.p rfl rfl (VP.assign rfl) ?_
    refine VR.nil ?_
    obtain rfl := Option.some.inj hm
    exact VW.ret ⟨.inl rfl, _, .cons (.tmp _ _ rfl) .nil, [], _, rfl, rfl, rfl⟩
  · have h1 := bf h1
    refine VW.condF rfl h1 ?_
    refine VW.skip ?_
    refine VW.seq ?_
    refine VW.region ?_
    refine VR.p rfl rfl (VP.move rfl) ?_
    obtain ⟨r2, h4, hm⟩ := bnd hm
    refine VR.cons rfl rfl (VO.callK 0 rfl fn18 rfl (lex_Scan_ok s r2 h4) fun _ _ h44 => ?_)
    obtain ⟨ob, cap, rfl, rfl⟩ := h44
    refine VR.p rfl rfl (VP.move rfl) ?_
    refine VR.p rfl rfl (VP.extract rfl rfl) ?_
    refine VR.p rfl rfl (VP.extract rfl rfl) ?_
    refine VR.p rfl rfl (VP.extract rfl rfl) ?_
    refine VR.p rfl rfl (VP.assign rfl) ?_
    refine VR.p rfl rfl (VP.assign rfl) ?_
    refine VR.p rfl rfl (VP.assign rfl) ?_
    refine VR.nil ?_
    refine VW.seq ?_
    refine VW.seq ?_
    refine VW.region ?_
    refine VR.p rfl rfl (VP.move rfl) ?_
    refine VR.p rfl rfl (VP.arith rfl rfl rfl) ?_
    refine VR.nil ?_
    rcases ite_or hm with ⟨h6, hm⟩ | ⟨h6, hm⟩
    · refine VW.condT rfl h6 ?_
      refine VW.seq ?_
      refine VW.region ?_
      refine VR.p rfl rfl (VP.move rfl) ?_
      refine VR.p rfl rfl (VP.lenRT T_api_Token.vv rfl Try.underlying26) ?_
      refine VR.p rfl rfl (VP.arith rfl rfl rfl) ?_
      refine VR.p rfl rfl (VP.move rfl) ?_
      refine VR.sc 3 28 (.bool (((r2.1.length : Int) == (0 : Int)) && (decide (r2.2.2 ≥ (0 : Int))))) (fun K' J => ?_) ?_
      · rcases Bool.eq_false_or_eq_true ((r2.1.length : Int) == (0 : Int)) with h7 | h7
        · refine VR.pG rfl rfl rfl rfl h7 (VP.move rfl) ?_
          refine VR.pG rfl rfl rfl rfl h7 (VP.arith rfl rfl rfl) ?_
          refine VR.p rfl rfl (VP.pickB true rfl h7 rfl) ?_
          exact J [_, _] _ rfl (andT h7)
        · refine VR.skipG rfl rfl rfl rfl h7 ?_
          refine VR.skipG rfl rfl rfl rfl h7 ?_
          refine VR.p rfl rfl (VP.pickB false rfl h7 rfl) ?_
          exact J [_, _] _ rfl (andF h7)
      · refine VR.p rfl rfl (VP.move rfl) ?_
        refine VR.sc 5 34 (.bool ((((r2.1.length : Int) == (0 : Int)) && (decide (r2.2.2 ≥ (0 : Int)))) && (decide (r2.2.2 ≤ (s.size : Int))))) (fun K' J => ?_) ?_
        · rcases Bool.eq_false_or_eq_true (((r2.1.length : Int) == (0 : Int)) && (decide (r2.2.2 ≥ (0 : Int)))) with h8 | h8
          · refine VR.pG rfl rfl rfl rfl h8 (VP.move rfl) ?_
            refine VR.pG rfl rfl rfl rfl h8 (VP.move rfl) ?_
            refine VR.pG rfl rfl rfl rfl h8 (VP.lenS rfl Try.underlying9) ?_
            refine VR.pG rfl rfl rfl rfl h8 (VP.arith rfl rfl rfl) ?_
            refine VR.p rfl rfl (VP.pickB true rfl h8 rfl) ?_
            exact J [_, _, _, _] _ rfl (andT h8)
          · refine VR.skipG rfl rfl rfl rfl h8 ?_
            refine VR.skipG rfl rfl rfl rfl h8 ?_
            refine VR.skipG rfl rfl rfl rfl h8 ?_
            refine VR.skipG rfl rfl rfl rfl h8 ?_
            refine VR.p rfl rfl (VP.pickB false rfl h8 rfl) ?_
            exact J [_, _, _, _] _ rfl (andF h8)
        · refine VR.p rfl rfl (VP.move rfl) ?_
          obtain ⟨c, h12, hm⟩ := bnd hm
          refine VR.sc 2 37 (.bool c) (fun K' J => ?_) ?_
          · have hm := h12
            rcases ite_or hm with ⟨h9, hm⟩ | ⟨h9, hm⟩
            · obtain ⟨r3, h10, hm⟩ := bnd hm
              refine VR.consG rfl rfl rfl rfl h9 (VO.callK 0 rfl fn9 rfl (law01_known_ok r3 h10) fun _ _ h11 => ?_)
              obtain ⟨rfl, rfl⟩ := h11
              refine VR.p rfl rfl (VP.pickB true rfl h9 rfl) ?_
              exact J [_] _ rfl (congrArg VV.bool (Option.some.inj hm))
            · have h9 := bf h9
              refine VR.skipG rfl rfl rfl rfl h9 ?_
              refine VR.p rfl rfl (VP.pickB false rfl h9 rfl) ?_
              exact J [_] _ rfl (congrArg VV.bool (Option.some.inj hm))
          · refine VR.p rfl rfl (VP.assign rfl) ?_
            refine VR.nil ?_
            obtain rfl := Option.some.inj hm
            exact VW.ret ⟨.inl rfl, _, .cons (.tmp _ _ rfl) .nil, [], _, rfl, rfl, rfl⟩
    · have h6 := bf h6
      refine VW.condF rfl h6 ?_
      refine VW.skip ?_
      refine VW.seq ?_
      refine VW.region ?_
      refine VR.p rfl rfl (VP.move rfl) ?_
      refine VR.shift (Shift.freezeE 0 [(17, .list 28 (List.map T_api_Token.vv r2.1)), (3, .list 28 (List.map T_api_Token.vv r2.1)), (39, .list 28 (List.map T_api_Token.vv r2.1))] rfl ⟨⟨_, rfl, .here _ rfl⟩, ⟨_, rfl, .here _ rfl⟩, ⟨_, rfl, .here _ rfl⟩, trivial⟩ (FzH.refl _)) ?_
      obtain ⟨r4, h13, hm⟩ := bnd hm
      refine VR.cons rfl rfl (VO.callK 0 rfl fn16 rfl (lex_Show_ok r2.1 r4 h13) fun _ _ h43 => ?_)
      obtain ⟨rfl, rfl⟩ := h43
      obtain ⟨r5, h14, hm⟩ := bnd hm
      refine VR.cons rfl rfl (VO.callK 0 rfl fn18 rfl (lex_Scan_ok r4 r5 h14) fun _ _ h42 => ?_)
      obtain ⟨ob2, cap2, rfl, rfl⟩ := h42
      refine VR.p rfl rfl (VP.move rfl) ?_
      refine VR.p rfl rfl (VP.extract rfl rfl) ?_
      refine VR.p rfl rfl (VP.extract rfl rfl) ?_
      refine VR.p rfl rfl (VP.extract rfl rfl) ?_
      refine VR.p rfl rfl (VP.assign rfl) ?_
      refine VR.p rfl rfl (VP.assign rfl) ?_
      refine VR.p rfl rfl (VP.assign rfl) ?_
      refine VR.nil ?_
      refine VW.seq ?_
      refine VW.seq ?_
      refine VW.shift (Shift.freezeE 0 [(42, .list 28 (List.map T_api_Token.vv r5.1)), (6, .list 28 (List.map T_api_Token.vv r5.1))] rfl ⟨⟨_, rfl, .here _ rfl⟩, ⟨_, rfl, .here _ rfl⟩, trivial⟩ (FzH.refl _)) ?_
      refine VW.region ?_
      refine VR.p rfl rfl (VP.move rfl) ?_
      refine VR.p rfl rfl (VP.arith rfl rfl rfl) ?_
      refine VR.p rfl rfl (VP.move rfl) ?_
      obtain ⟨c2, h20, hm⟩ := bnd hm
      refine VR.sc 5 52 (.bool c2) (fun K' J => ?_) ?_
      · have hm := h20
        rcases ite_or hm with ⟨h17, hm⟩ | ⟨h17, hm⟩
        · refine VR.skipG rfl rfl rfl rfl h17 ?_
          refine VR.skipG rfl rfl rfl rfl h17 ?_
          refine VR.skipG rfl rfl rfl rfl h17 ?_
          refine VR.skipG rfl rfl rfl rfl h17 ?_
          refine VR.p rfl rfl (VP.pickB true rfl h17 rfl) ?_
          exact J [_, _, _, _] _ rfl (congrArg VV.bool (Option.some.inj hm))
        · have h17 := bf h17
          refine VR.pG rfl rfl rfl rfl h17 (VP.move rfl) ?_
          refine VR.pG rfl rfl rfl rfl h17 (VP.move rfl) ?_
          obtain ⟨r6, h18, hm⟩ := bnd hm
          refine VR.consG rfl rfl rfl rfl h17 (VO.callK 0 rfl fn19 rfl (ref01_Same_ok r2.1 r5.1 false r6 h18) fun _ _ h19 => ?_)
          obtain ⟨rfl, rfl⟩ := h19
          refine VR.pG rfl rfl rfl rfl h17 (VP.not rfl) ?_
          refine VR.p rfl rfl (VP.pickB false rfl h17 rfl) ?_
          exact J [_, _, _, _] _ rfl (congrArg VV.bool (Option.some.inj hm))
      · refine VR.nil ?_
        rcases ite_or hm with ⟨h21, hm⟩ | ⟨h21, hm⟩
        · refine VW.condT rfl h21 ?_
          refine VW.seq ?_
          refine VW.region ?_
          refine VR.p rfl rfl (VP.assign rfl) ?_
          refine VR.nil ?_
          obtain rfl := Option.some.inj hm
          exact VW.ret ⟨.inl rfl, _, .cons (.tmp _ _ rfl) .nil, [], _, rfl, rfl, rfl⟩
        · have h21 := bf h21
          refine VW.condF rfl h21 ?_
          refine VW.skip ?_
          refine VW.seq ?_
          refine VW.seq ?_
          refine VW.region ?_
          refine VR.p rfl rfl (VP.assign rfl) ?_
          refine VR.nil ?_
          obtain ⟨o, h22, h23⟩ := bnd hm
          refine VW.joinE (fun (q : Unit) => o = Out.go q) (fun (j : Unit) (gg : Unit) => []) (fun (j : Unit) (gg : Unit) => []) ?_ ?_
          · have hm := h22
            refine VW.block (VW.loop FU ?_)
            refine VL.fuelS (R := _) (fun zn (zs : Int) => law01_LexBack.l1 r2 zn zs) (fun (zs : Int) (zg : Unit) => [(3, .list 28 (List.map T_api_Token.vv r2.1)), (9, .int .i64 zs)]) (fun (zs : Int) (zg : Unit) => []) (1 : Int) () (fun zs => rfl) (Shift.pick [] rfl ⟨rfl, rfl, trivial⟩) h22 ?_
            rintro n i2 _ hm
            rw [law01_LexBack.l1] at hm
            refine VW.seq ?_
            refine VW.seq ?_
            refine VW.region ?_
            refine VR.p rfl rfl (VP.move rfl) ?_
            refine VR.p rfl rfl (VP.move rfl) ?_
            refine VR.p rfl rfl (VP.lenT T_api_Token.vv rfl Try.underlying26) ?_
            refine VR.p rfl rfl (VP.arith rfl rfl rfl) ?_
            refine VR.nil ?_
            rcases ite_or hm with ⟨h24, hm⟩ | ⟨h24, hm⟩
            · refine VW.condT rfl h24 ?_
              refine VW.skip ?_
              refine VW.seq ?_
              refine VW.block ?_
              refine VW.seq ?_
              refine VW.drawK 0 mixed ?_
              refine VA.p 0 rfl rfl rfl (by kernel_rfl) (VP.move rfl) ?_
              refine VA.p 1 rfl rfl rfl (by kernel_rfl) (VP.move rfl) ?_
              obtain ⟨x, h25, hm⟩ := bnd hm
              refine VA.p 2 rfl rfl rfl (by kernel_rfl) (VP.glE T_api_Token.vv rfl rfl el26 h25) ?_
              refine VA.p 3 rfl rfl rfl (by kernel_rfl) (VP.fieldE rfl fa28_2) ?_
              refine VA.p 4 rfl rfl rfl (by kernel_rfl) (VP.loadE rfl ld3 rfl) ?_
              refine VA.p 5 rfl rfl rfl (by kernel_rfl) (VP.move rfl) ?_
              refine VA.p 6 rfl rfl rfl (by kernel_rfl) (VP.move rfl) ?_
              refine VA.p 7 rfl rfl rfl (by kernel_rfl) (VP.arith rfl rfl rfl) ?_
              obtain ⟨x2, h26, hm⟩ := bnd hm
              refine VA.p 8 rfl rfl rfl (by kernel_rfl) (VP.glE T_api_Token.vv rfl rfl el26 h26) ?_
              refine VA.p 9 rfl rfl rfl (by kernel_rfl) (VP.fieldE rfl fa28_2) ?_
              refine VA.p 10 rfl rfl rfl (by kernel_rfl) (VP.loadE rfl ld3 rfl) ?_
              refine VA.p 11 rfl rfl rfl (by kernel_rfl) (VP.arith rfl rfl rfl) ?_
              refine VA.p 12 rfl rfl rfl (by kernel_rfl) (VP.move rfl) ?_
              obtain ⟨c3, h30, hm⟩ := bnd hm
              refine VA.sc [25, 24, 23, 22, 21, 20, 19, 18, 17, 16, 15, 14, 13, 12, 11, 10, 9, 8, 7, 6, 5, 4, 3, 2, 1, 0] 84 (.bool c3) (fun K' J => ?_) ?_
              · have hm := h30
                rcases ite_or hm with ⟨h27, hm⟩ | ⟨h27, hm⟩
                · refine VA.skipG 13 rfl rfl rfl rfl rfl h27 (by kernel_rfl) ?_
                  refine VA.skipG 14 rfl rfl rfl rfl rfl h27 (by kernel_rfl) ?_
                  refine VA.skipG 15 rfl rfl rfl rfl rfl h27 (by kernel_rfl) ?_
                  refine VA.skipG 16 rfl rfl rfl rfl rfl h27 (by kernel_rfl) ?_
                  refine VA.skipG 17 rfl rfl rfl rfl rfl h27 (by kernel_rfl) ?_
                  refine VA.skipG 18 rfl rfl rfl rfl rfl h27 (by kernel_rfl) ?_
                  refine VA.skipG 19 rfl rfl rfl rfl rfl h27 (by kernel_rfl) ?_
                  refine VA.skipG 20 rfl rfl rfl rfl rfl h27 (by kernel_rfl) ?_
                  refine VA.skipG 21 rfl rfl rfl rfl rfl h27 (by kernel_rfl) ?_
                  refine VA.skipG 22 rfl rfl rfl rfl rfl h27 (by kernel_rfl) ?_
                  refine VA.skipG 23 rfl rfl rfl rfl rfl h27 (by kernel_rfl) ?_
                  refine VA.skipG 24 rfl rfl rfl rfl rfl h27 (by kernel_rfl) ?_
                  refine VA.p 25 rfl rfl rfl (by kernel_rfl) (VP.pickB true rfl h27 rfl) ?_
                  exact J [_, _, _, _, _, _, _, _, _, _, _, _] _ rfl (congrArg VV.bool (Option.some.inj hm))
                · have h27 := bf h27
                  refine VA.pG 13 rfl rfl rfl rfl rfl h27 (by kernel_rfl) (VP.move rfl) ?_
                  refine VA.pG 14 rfl rfl rfl rfl rfl h27 (by kernel_rfl) (VP.move rfl) ?_
                  obtain ⟨x3, h28, hm⟩ := bnd hm
                  refine VA.pG 15 rfl rfl rfl rfl rfl h27 (by kernel_rfl) (VP.glE T_api_Token.vv rfl rfl el26 h28) ?_
                  refine VA.pG 16 rfl rfl rfl rfl rfl h27 (by kernel_rfl) (VP.fieldE rfl fa28_3) ?_
                  refine VA.pG 17 rfl rfl rfl rfl rfl h27 (by kernel_rfl) (VP.loadE rfl ld3 rfl) ?_
                  refine VA.pG 18 rfl rfl rfl rfl rfl h27 (by kernel_rfl) (VP.move rfl) ?_
                  refine VA.pG 19 rfl rfl rfl rfl rfl h27 (by kernel_rfl) (VP.move rfl) ?_
                  refine VA.pG 20 rfl rfl rfl rfl rfl h27 (by kernel_rfl) (VP.arith rfl rfl rfl) ?_
                  obtain ⟨x4, h29, hm⟩ := bnd hm
                  refine VA.pG 21 rfl rfl rfl rfl rfl h27 (by kernel_rfl) (VP.glE T_api_Token.vv rfl rfl el26 h29) ?_
                  refine VA.pG 22 rfl rfl rfl rfl rfl h27 (by kernel_rfl) (VP.fieldE rfl fa28_3) ?_
                  refine VA.pG 23 rfl rfl rfl rfl rfl h27 (by kernel_rfl) (VP.loadE rfl ld3 rfl) ?_
                  refine VA.pG 24 rfl rfl rfl rfl rfl h27 (by kernel_rfl) (VP.arith rfl rfl rfl) ?_
                  refine VA.p 25 rfl rfl rfl (by kernel_rfl) (VP.pickB false rfl h27 rfl) ?_
                  exact J [_, _, _, _, _, _, _, _, _, _, _, _] _ rfl (congrArg VV.bool (Option.some.inj hm))
              · refine VA.p 26 rfl rfl rfl (by kernel_rfl) (VP.move rfl) ?_
                obtain ⟨c5, h38, hm⟩ := bnd hm
                refine VA.sc [53, 52, 51, 50, 49, 48, 47, 46, 45, 44, 43, 42, 41, 40, 39, 38, 37, 36, 35, 34, 33, 32, 31, 30, 29, 28, 27, 26, 25, 24, 23, 22, 21, 20, 19, 18, 17, 16, 15, 14, 13, 12, 11, 10, 9, 8, 7, 6, 5, 4, 3, 2, 1, 0] 112 (.bool c5) (fun K' J => ?_) ?_
                · have hm := h38
                  rcases ite_or hm with ⟨h31, hm⟩ | ⟨h31, hm⟩
                  · refine VA.skipG 27 rfl rfl rfl rfl rfl h31 (by kernel_rfl) ?_
                    refine VA.skipG 28 rfl rfl rfl rfl rfl h31 (by kernel_rfl) ?_
                    refine VA.skipG 29 rfl rfl rfl rfl rfl h31 (by kernel_rfl) ?_
                    refine VA.skipG 30 rfl rfl rfl rfl rfl h31 (by kernel_rfl) ?_
                    refine VA.skipG 31 rfl rfl rfl rfl rfl h31 (by kernel_rfl) ?_
                    refine VA.skipG 32 rfl rfl rfl rfl rfl h31 (by kernel_rfl) ?_
                    refine VA.skipG 33 rfl rfl rfl rfl rfl h31 (by kernel_rfl) ?_
                    refine VA.skipG 34 rfl rfl rfl rfl rfl h31 (by kernel_rfl) ?_
                    refine VA.skipG 35 rfl rfl rfl rfl rfl h31 (by kernel_rfl) ?_
                    refine VA.skipG 36 rfl rfl rfl rfl rfl h31 (by kernel_rfl) ?_
                    refine VA.skipG 37 rfl rfl rfl rfl rfl h31 (by kernel_rfl) ?_
                    refine VA.skipG 38 rfl rfl rfl rfl rfl h31 (by kernel_rfl) ?_
                    refine VA.skipG 39 rfl rfl rfl rfl rfl h31 (by kernel_rfl) ?_
                    refine VA.skipU 40 rfl rfl rfl rfl rfl (by kernel_rfl) ?_
                    refine VA.skipU 41 rfl rfl rfl rfl rfl (by kernel_rfl) ?_
                    refine VA.skipU 42 rfl rfl rfl rfl rfl (by kernel_rfl) ?_
                    refine VA.skipU 43 rfl rfl rfl rfl rfl (by kernel_rfl) ?_
                    refine VA.skipU 44 rfl rfl rfl rfl rfl (by kernel_rfl) ?_
                    refine VA.skipU 45 rfl rfl rfl rfl rfl (by kernel_rfl) ?_
                    refine VA.skipU 46 rfl rfl rfl rfl rfl (by kernel_rfl) ?_
                    refine VA.skipU 47 rfl rfl rfl rfl rfl (by kernel_rfl) ?_
                    refine VA.skipU 48 rfl rfl rfl rfl rfl (by kernel_rfl) ?_
                    refine VA.skipU 49 rfl rfl rfl rfl rfl (by kernel_rfl) ?_
                    refine VA.skipU 50 rfl rfl rfl rfl rfl (by kernel_rfl) ?_
                    refine VA.skipU 51 rfl rfl rfl rfl rfl (by kernel_rfl) ?_
                    refine VA.skipG 52 rfl rfl rfl rfl rfl h31 (by kernel_rfl) ?_
                    refine VA.p 53 rfl rfl rfl (by kernel_rfl) (VP.pickB true rfl h31 rfl) ?_
                    exact J [_, _, _, _, _, _, _, _, _, _, _, _, _, _, _, _, _, _, _, _, _, _, _, _, _, _] _ rfl (congrArg VV.bool (Option.some.inj hm))
                  · have h31 := bf h31
                    refine VA.pG 27 rfl rfl rfl rfl rfl h31 (by kernel_rfl) (VP.move rfl) ?_
                    refine VA.pG 28 rfl rfl rfl rfl rfl h31 (by kernel_rfl) (VP.move rfl) ?_
                    obtain ⟨x5, h32, hm⟩ := bnd hm
                    refine VA.pG 29 rfl rfl rfl rfl rfl h31 (by kernel_rfl) (VP.glE T_api_Token.vv rfl rfl el26 h32) ?_
                    refine VA.pG 30 rfl rfl rfl rfl rfl h31 (by kernel_rfl) (VP.fieldE rfl fa28_3) ?_
                    refine VA.pG 31 rfl rfl rfl rfl rfl h31 (by kernel_rfl) (VP.loadE rfl ld3 rfl) ?_
                    refine VA.pG 32 rfl rfl rfl rfl rfl h31 (by kernel_rfl) (VP.move rfl) ?_
                    refine VA.pG 33 rfl rfl rfl rfl rfl h31 (by kernel_rfl) (VP.move rfl) ?_
                    refine VA.pG 34 rfl rfl rfl rfl rfl h31 (by kernel_rfl) (VP.arith rfl rfl rfl) ?_
                    obtain ⟨x6, h33, hm⟩ := bnd hm
                    refine VA.pG 35 rfl rfl rfl rfl rfl h31 (by kernel_rfl) (VP.glE T_api_Token.vv rfl rfl el26 h33) ?_
                    refine VA.pG 36 rfl rfl rfl rfl rfl h31 (by kernel_rfl) (VP.fieldE rfl fa28_3) ?_
                    refine VA.pG 37 rfl rfl rfl rfl rfl h31 (by kernel_rfl) (VP.loadE rfl ld3 rfl) ?_
                    refine VA.pG 38 rfl rfl rfl rfl rfl h31 (by kernel_rfl) (VP.arith rfl rfl rfl) ?_
                    refine VA.pG 39 rfl rfl rfl rfl rfl h31 (by kernel_rfl) (VP.move rfl) ?_
                    obtain ⟨c4, h37, hm⟩ := bnd hm
                    refine VA.sc [52, 51, 50, 49, 48, 47, 46, 45, 44, 43, 42, 41, 40, 39, 38, 37, 36, 35, 34, 33, 32, 31, 30, 29, 28, 27, 26, 25, 24, 23, 22, 21, 20, 19, 18, 17, 16, 15, 14, 13, 12, 11, 10, 9, 8, 7, 6, 5, 4, 3, 2, 1, 0] 111 (.bool c4) (fun K' J => ?_) ?_
                    · have hm := h37
                      rcases ite_or hm with ⟨h34, hm⟩ | ⟨h34, hm⟩
                      · refine VA.pG 40 rfl rfl rfl rfl rfl h34 (by kernel_rfl) (VP.move rfl) ?_
                        refine VA.pG 41 rfl rfl rfl rfl rfl h34 (by kernel_rfl) (VP.move rfl) ?_
                        obtain ⟨x7, h35, hm⟩ := bnd hm
                        refine VA.pG 42 rfl rfl rfl rfl rfl h34 (by kernel_rfl) (VP.glE T_api_Token.vv rfl rfl el26 h35) ?_
                        refine VA.pG 43 rfl rfl rfl rfl rfl h34 (by kernel_rfl) (VP.fieldE rfl fa28_4) ?_
                        refine VA.pG 44 rfl rfl rfl rfl rfl h34 (by kernel_rfl) (VP.loadE rfl ld3 rfl) ?_
                        refine VA.pG 45 rfl rfl rfl rfl rfl h34 (by kernel_rfl) (VP.move rfl) ?_
                        refine VA.pG 46 rfl rfl rfl rfl rfl h34 (by kernel_rfl) (VP.move rfl) ?_
                        refine VA.pG 47 rfl rfl rfl rfl rfl h34 (by kernel_rfl) (VP.arith rfl rfl rfl) ?_
                        obtain ⟨x8, h36, hm⟩ := bnd hm
                        refine VA.pG 48 rfl rfl rfl rfl rfl h34 (by kernel_rfl) (VP.glE T_api_Token.vv rfl rfl el26 h36) ?_
                        refine VA.pG 49 rfl rfl rfl rfl rfl h34 (by kernel_rfl) (VP.fieldE rfl fa28_4) ?_
                        refine VA.pG 50 rfl rfl rfl rfl rfl h34 (by kernel_rfl) (VP.loadE rfl ld3 rfl) ?_
                        refine VA.pG 51 rfl rfl rfl rfl rfl h34 (by kernel_rfl) (VP.arith rfl rfl rfl) ?_
                        refine VA.pG 52 rfl rfl rfl rfl rfl h31 (by kernel_rfl) (VP.pickB true rfl h34 rfl) ?_
                        exact J [_, _, _, _, _, _, _, _, _, _, _, _] _ rfl (congrArg VV.bool (Option.some.inj hm))
                      · have h34 := bf h34
                        refine VA.skipG 40 rfl rfl rfl rfl rfl h34 (by kernel_rfl) ?_
                        refine VA.skipG 41 rfl rfl rfl rfl rfl h34 (by kernel_rfl) ?_
                        refine VA.skipG 42 rfl rfl rfl rfl rfl h34 (by kernel_rfl) ?_
                        refine VA.skipG 43 rfl rfl rfl rfl rfl h34 (by kernel_rfl) ?_
                        refine VA.skipG 44 rfl rfl rfl rfl rfl h34 (by kernel_rfl) ?_
                        refine VA.skipG 45 rfl rfl rfl rfl rfl h34 (by kernel_rfl) ?_
                        refine VA.skipG 46 rfl rfl rfl rfl rfl h34 (by kernel_rfl) ?_
                        refine VA.skipG 47 rfl rfl rfl rfl rfl h34 (by kernel_rfl) ?_
                        refine VA.skipG 48 rfl rfl rfl rfl rfl h34 (by kernel_rfl) ?_
                        refine VA.skipG 49 rfl rfl rfl rfl rfl h34 (by kernel_rfl) ?_
                        refine VA.skipG 50 rfl rfl rfl rfl rfl h34 (by kernel_rfl) ?_
                        refine VA.skipG 51 rfl rfl rfl rfl rfl h34 (by kernel_rfl) ?_
                        refine VA.pG 52 rfl rfl rfl rfl rfl h31 (by kernel_rfl) (VP.pickB false rfl h34 rfl) ?_
                        exact J [_, _, _, _, _, _, _, _, _, _, _, _] _ rfl (congrArg VV.bool (Option.some.inj hm))
                    · refine VA.p 53 rfl rfl rfl (by kernel_rfl) (VP.pickB false rfl h31 rfl) ?_
                      exact J [_, _, _, _, _, _, _, _, _, _, _, _, _, _] _ rfl (congrArg VV.bool (Option.some.inj hm))
                · refine VA.done (by kernel_rfl) ?_
                  rcases ite_or hm with ⟨h39, hm⟩ | ⟨h39, hm⟩
                  · refine VW.condT rfl h39 ?_
                    refine VW.seq ?_
                    refine VW.region ?_
                    refine VR.p rfl rfl (VP.assign rfl) ?_
                    refine VR.nil ?_
                    obtain rfl := Option.some.inj hm
                    have hm := Out.ret_on h23
                    obtain rfl := Option.some.inj hm
                    exact VW.ret ⟨.inl rfl, _, .cons (.tmp _ _ rfl) .nil, [], _, rfl, rfl, rfl⟩
                  · have h39 := bf h39
                    refine VW.condF rfl h39 ?_
                    refine VW.skip ?_
                    refine VW.region ?_
                    refine VR.p rfl rfl (VP.move rfl) ?_
                    refine VR.p rfl rfl (VP.arith rfl rfl rfl) ?_
                    refine VR.p rfl rfl (VP.assign rfl) ?_
                    refine VR.nil ?_
                    exact ⟨(IntKind.i64.wrap (i2 + (1 : Int))), (), hm, (Shift.pick [] rfl ⟨rfl, rfl, trivial⟩)⟩
            · have h24 := bf h24
              refine VW.condF rfl h24 ?_
              refine VW.exit ?_
              exact ⟨(), (), (Option.some.inj hm).symm, (Shift.pick [] rfl trivial)⟩
          · rintro j _ rfl
            have hm := Out.go_on h23
            refine VW.seq ?_
            refine VW.region ?_
            obtain ⟨r7, h40, hm⟩ := bnd hm
            refine VR.cons rfl rfl (VO.callK 0 rfl fn9 rfl (law01_known_ok r7 h40) fun _ _ h41 => ?_)
            obtain ⟨rfl, rfl⟩ := h41
            refine VR.p rfl rfl (VP.assign rfl) ?_
            refine VR.nil ?_
            obtain rfl := Option.some.inj hm
            exact VW.ret ⟨.inl rfl, _, .cons (.tmp _ _ rfl) .nil, [], _, rfl, rfl, rfl⟩

/-! trireme/triremelaw01.LexQuotes -/
def law01_LexQuotes.l1 (s : ByteArray) : Nat → Bool → Int → Option Bool
  | 0, _, _ => none
  | n + 1, odd2, i2 =>
    if (decide (i2 < (s.size : Int))) = true then
      (if odd2 = true then some true else (V.gi s i2).bind fun v =>
      (if (decide (v < (32 : Int))) = true then (V.gi s i2).bind fun v2 =>
      some (v2 != (9 : Int)) else some false).bind fun c =>
      (if c = true then (V.gi s i2).bind fun v3 =>
      some (v3 != (10 : Int)) else some false).bind fun c2 =>
      some c2).bind fun c3 =>
      (if c3 = true then some true else (V.gi s i2).bind fun v4 =>
      some (v4 == (127 : Int))).bind fun c4 =>
      law01_LexQuotes.l1 s n c4 (IntKind.i64.wrap (i2 + (1 : Int)))
    else
      some odd2
def law01_LexQuotes (s : ByteArray) : Option Bool :=
  if (decide ((s.size : Int) > (3000 : Int))) = true then
    (law01_known).bind fun r =>
    some r
  else
    (lex_Quote s).bind fun r2 =>
    (lex_Scan r2).bind fun r3 =>
    (lex_Runes s).bind fun r4 =>
    (law01_LexQuotes.l1 s FU (decide (r4 < (0 : Int))) (0 : Int)).bind fun odd32 =>
    if odd32 = true then
      (if (r3.2.1 == (2 : Int)) = true then (law01_known).bind fun r5 =>
      some r5 else some false).bind fun c5 =>
      some c5
    else
      (if ((r3.2.1 == (0 : Int)) && ((r3.1.length : Int) == (1 : Int))) = true then (V.gl r3.1 (0 : Int)).bind fun x =>
      some (x.Kind == (4 : Int)) else some false).bind fun c6 =>
      (if c6 = true then (V.gl r3.1 (0 : Int)).bind fun x2 =>
      some (V.seq x2.Text s) else some false).bind fun c7 =>
      (if c7 = true then (law01_known).bind fun r6 =>
      some r6 else some false).bind fun c8 =>
      some c8
theorem law01_LexQuotes_ok (s : ByteArray) (r : Bool) (hm : law01_LexQuotes s = some r) :
    VC Try.prog 6 [.str s] [] (fun x H' => x = .bool r ∧ H' = []) := by
  unfold law01_LexQuotes at hm
  refine VC.run (c := _) (rs := [.tmp 2]) Try.func6 rfl rfl rfl ?_
  refine VW.seq ?_
  refine VW.region ?_
  refine VR.p rfl rfl (VP.assign rfl) ?_
  refine VR.nil ?_
  refine VW.seq ?_
  refine VW.seq ?_
  refine VW.region ?_
  refine VR.p rfl rfl (VP.move rfl) ?_
  refine VR.p rfl rfl (VP.lenS rfl Try.underlying9) ?_
  refine VR.p rfl rfl (VP.arith rfl rfl rfl) ?_
  refine VR.nil ?_
  rcases ite_or hm with ⟨h1, hm⟩ | ⟨h1, hm⟩
  · refine VW.condT rfl h1 ?_
    refine VW.seq ?_
    refine VW.region ?_
    obtain ⟨r, h2, hm⟩ := bnd hm
    refine VR.cons rfl rfl (VO.callK 0 rfl fn9 rfl (law01_known_ok r h2) fun _ _ h3 => ?_)
    obtain ⟨rfl, rfl⟩ := h3
    refine VR.p rfl rfl (VP.assign rfl) ?_
    refine VR.nil ?_
    obtain rfl := Option.some.inj hm
    exact VW.ret ⟨.inl rfl, _, .cons (.tmp _ _ rfl) .nil, [], _, rfl, rfl, rfl⟩
  · have h1 := bf h1
    refine VW.condF rfl h1 ?_
    refine VW.skip ?_
    refine VW.seq ?_
    refine VW.region ?_
    refine VR.p rfl rfl (VP.move rfl) ?_
    obtain ⟨r2, h4, hm⟩ := bnd hm
    refine VR.cons rfl rfl (VO.callK 0 rfl fn10 rfl (lex_Quote_ok s r2 h4) fun _ _ h43 => ?_)
    obtain ⟨rfl, rfl⟩ := h43
    obtain ⟨r3, h5, hm⟩ := bnd hm
    refine VR.cons rfl rfl (VO.callK 0 rfl fn18 rfl (lex_Scan_ok r2 r3 h5) fun _ _ h42 => ?_)
    obtain ⟨ob, cap, rfl, rfl⟩ := h42
    refine VR.p rfl rfl (VP.move rfl) ?_
    refine VR.p rfl rfl (VP.extract rfl rfl) ?_
    refine VR.p rfl rfl (VP.extract rfl rfl) ?_
    refine VR.p rfl rfl (VP.extract rfl rfl) ?_
    refine VR.p rfl rfl (VP.assign rfl) ?_
    refine VR.p rfl rfl (VP.assign rfl) ?_
    refine VR.p rfl rfl (VP.assign rfl) ?_
    refine VR.nil ?_
    refine VW.seq ?_
    refine VW.region ?_
    refine VR.p rfl rfl (VP.move rfl) ?_
    obtain ⟨r4, h7, hm⟩ := bnd hm
    refine VR.cons rfl rfl (VO.callK 0 rfl fn14 rfl (lex_Runes_ok s r4 h7) fun _ _ h41 => ?_)
    obtain ⟨rfl, rfl⟩ := h41
    refine VR.p rfl rfl (VP.arith rfl rfl rfl) ?_
    refine VR.p rfl rfl (VP.assign rfl) ?_
    refine VR.nil ?_
    refine VW.seq ?_
    refine VW.seq ?_
    refine VW.region ?_
    refine VR.p rfl rfl (VP.assign rfl) ?_
    refine VR.nil ?_
    obtain ⟨o, h8, h9⟩ := bnd hm
    refine VW.joinE (fun (q : Bool) => q = o) (fun (odd32 : Bool) (gg : Unit) => [(0, .str s), (3, .sl ob (List.map T_api_Token.vv r3.1).length cap), (4, .int .i64 r3.2.1), (6, .bool odd32)]) (fun (odd32 : Bool) (gg : Unit) => [.row ob 28 cap (List.map T_api_Token.vv r3.1)]) ?_ ?_
    · have hm := h8
      refine VW.block (VW.loop FU ?_)
      refine VL.fuelS (R := _) (fun zn (zs : Bool × Int) => law01_LexQuotes.l1 s zn zs.1 zs.2) (fun (zs : Bool × Int) (zg : Unit) => [(0, .str s), (3, .sl ob (List.map T_api_Token.vv r3.1).length cap), (4, .int .i64 r3.2.1), (6, .bool zs.1), (7, .int .i64 zs.2)]) (fun (zs : Bool × Int) (zg : Unit) => [.row ob 28 cap (List.map T_api_Token.vv r3.1)]) ((decide (r4 < (0 : Int))), (0 : Int)) () (fun zs => rfl) (Shift.pick [0] rfl ⟨rfl, rfl, rfl, rfl, rfl, trivial⟩) h8 ?_
      rintro n ⟨odd2, i2⟩ _ hm
      rw [law01_LexQuotes.l1] at hm
      refine VW.seq ?_
      refine VW.seq ?_
      refine VW.region ?_
      refine VR.p rfl rfl (VP.move rfl) ?_
      refine VR.p rfl rfl (VP.move rfl) ?_
      refine VR.p rfl rfl (VP.lenS rfl Try.underlying9) ?_
      refine VR.p rfl rfl (VP.arith rfl rfl rfl) ?_
      refine VR.nil ?_
      rcases ite_or hm with ⟨h10, hm⟩ | ⟨h10, hm⟩
      · refine VW.condT rfl h10 ?_
        refine VW.skip ?_
        refine VW.seq ?_
        refine VW.block ?_
        refine VW.region ?_
        refine VR.p rfl rfl (VP.move rfl) ?_
        refine VR.p rfl rfl (VP.move rfl) ?_
        obtain ⟨c3, h19, hm⟩ := bnd hm
        refine VR.sc 17 46 (.bool c3) (fun K' J => ?_) ?_
        · have hm := h19
          rcases ite_or hm with ⟨h11, hm⟩ | ⟨h11, hm⟩
          · refine VR.skipG rfl rfl rfl rfl h11 ?_
            refine VR.skipG rfl rfl rfl rfl h11 ?_
            refine VR.skipG rfl rfl rfl rfl h11 ?_
            refine VR.skipG rfl rfl rfl rfl h11 ?_
            refine VR.skipG rfl rfl rfl rfl h11 ?_
            refine VR.skipU rfl rfl rfl rfl ?_
            refine VR.skipU rfl rfl rfl rfl ?_
            refine VR.skipU rfl rfl rfl rfl ?_
            refine VR.skipU rfl rfl rfl rfl ?_
            refine VR.skipG rfl rfl rfl rfl h11 ?_
            refine VR.skipG rfl rfl rfl rfl h11 ?_
            refine VR.skipU rfl rfl rfl rfl ?_
            refine VR.skipU rfl rfl rfl rfl ?_
            refine VR.skipU rfl rfl rfl rfl ?_
            refine VR.skipU rfl rfl rfl rfl ?_
            refine VR.skipG rfl rfl rfl rfl h11 ?_
            refine VR.p rfl rfl (VP.pickB true rfl h11 rfl) ?_
            exact J [_, _, _, _, _, _, _, _, _, _, _, _, _, _, _, _] _ rfl (congrArg VV.bool (Option.some.inj hm))
          · have h11 := bf h11
            refine VR.pG rfl rfl rfl rfl h11 (VP.move rfl) ?_
            refine VR.pG rfl rfl rfl rfl h11 (VP.move rfl) ?_
            obtain ⟨v, h12, hm⟩ := bnd hm
            refine VR.pG rfl rfl rfl rfl h11 (VP.gi rfl rfl Try.underlying9 h12) ?_
            refine VR.pG rfl rfl rfl rfl h11 (VP.arith rfl rfl rfl) ?_
            refine VR.pG rfl rfl rfl rfl h11 (VP.move rfl) ?_
            obtain ⟨c, h15, hm⟩ := bnd hm
            refine VR.sc 5 39 (.bool c) (fun K' J => ?_) ?_
            · have hm := h15
              rcases ite_or hm with ⟨h13, hm⟩ | ⟨h13, hm⟩
              · refine VR.pG rfl rfl rfl rfl h13 (VP.move rfl) ?_
                refine VR.pG rfl rfl rfl rfl h13 (VP.move rfl) ?_
                obtain ⟨v2, h14, hm⟩ := bnd hm
                refine VR.pG rfl rfl rfl rfl h13 (VP.gi rfl rfl Try.underlying9 h14) ?_
                refine VR.pG rfl rfl rfl rfl h13 (VP.arith rfl rfl rfl) ?_
                refine VR.pG rfl rfl rfl rfl h11 (VP.pickB true rfl h13 rfl) ?_
                exact J [_, _, _, _] _ rfl (congrArg VV.bool (Option.some.inj hm))
              · have h13 := bf h13
                refine VR.skipG rfl rfl rfl rfl h13 ?_
                refine VR.skipG rfl rfl rfl rfl h13 ?_
                refine VR.skipG rfl rfl rfl rfl h13 ?_
                refine VR.skipG rfl rfl rfl rfl h13 ?_
                refine VR.pG rfl rfl rfl rfl h11 (VP.pickB false rfl h13 rfl) ?_
                exact J [_, _, _, _] _ rfl (congrArg VV.bool (Option.some.inj hm))
            · refine VR.pG rfl rfl rfl rfl h11 (VP.move rfl) ?_
              obtain ⟨c2, h18, hm⟩ := bnd hm
              refine VR.sc 5 45 (.bool c2) (fun K' J => ?_) ?_
              · have hm := h18
                rcases ite_or hm with ⟨h16, hm⟩ | ⟨h16, hm⟩
                · refine VR.pG rfl rfl rfl rfl h16 (VP.move rfl) ?_
                  refine VR.pG rfl rfl rfl rfl h16 (VP.move rfl) ?_
                  obtain ⟨v3, h17, hm⟩ := bnd hm
                  refine VR.pG rfl rfl rfl rfl h16 (VP.gi rfl rfl Try.underlying9 h17) ?_
                  refine VR.pG rfl rfl rfl rfl h16 (VP.arith rfl rfl rfl) ?_
                  refine VR.pG rfl rfl rfl rfl h11 (VP.pickB true rfl h16 rfl) ?_
                  exact J [_, _, _, _] _ rfl (congrArg VV.bool (Option.some.inj hm))
                · have h16 := bf h16
                  refine VR.skipG rfl rfl rfl rfl h16 ?_
                  refine VR.skipG rfl rfl rfl rfl h16 ?_
                  refine VR.skipG rfl rfl rfl rfl h16 ?_
                  refine VR.skipG rfl rfl rfl rfl h16 ?_
                  refine VR.pG rfl rfl rfl rfl h11 (VP.pickB false rfl h16 rfl) ?_
                  exact J [_, _, _, _] _ rfl (congrArg VV.bool (Option.some.inj hm))
              · refine VR.p rfl rfl (VP.pickB false rfl h11 rfl) ?_
                exact J [_, _, _, _, _, _, _, _] _ rfl (congrArg VV.bool (Option.some.inj hm))
        · refine VR.p rfl rfl (VP.move rfl) ?_
          obtain ⟨c4, h22, hm⟩ := bnd hm
          refine VR.sc 5 52 (.bool c4) (fun K' J => ?_) ?_
          · have hm := h22
            rcases ite_or hm with ⟨h20, hm⟩ | ⟨h20, hm⟩
            · refine VR.skipG rfl rfl rfl rfl h20 ?_
              refine VR.skipG rfl rfl rfl rfl h20 ?_
              refine VR.skipG rfl rfl rfl rfl h20 ?_
              refine VR.skipG rfl rfl rfl rfl h20 ?_
              refine VR.p rfl rfl (VP.pickB true rfl h20 rfl) ?_
              exact J [_, _, _, _] _ rfl (congrArg VV.bool (Option.some.inj hm))
            · have h20 := bf h20
              refine VR.pG rfl rfl rfl rfl h20 (VP.move rfl) ?_
              refine VR.pG rfl rfl rfl rfl h20 (VP.move rfl) ?_
              obtain ⟨v4, h21, hm⟩ := bnd hm
              refine VR.pG rfl rfl rfl rfl h20 (VP.gi rfl rfl Try.underlying9 h21) ?_
              refine VR.pG rfl rfl rfl rfl h20 (VP.arith rfl rfl rfl) ?_
              refine VR.p rfl rfl (VP.pickB false rfl h20 rfl) ?_
              exact J [_, _, _, _] _ rfl (congrArg VV.bool (Option.some.inj hm))
          · refine VR.p rfl rfl (VP.assign rfl) ?_
            refine VR.nil ?_
            refine VW.region ?_
            refine VR.p rfl rfl (VP.move rfl) ?_
            refine VR.p rfl rfl (VP.arith rfl rfl rfl) ?_
            refine VR.p rfl rfl (VP.assign rfl) ?_
            refine VR.nil ?_
            exact ⟨(c4, (IntKind.i64.wrap (i2 + (1 : Int)))), (), hm, (Shift.pick [0] rfl ⟨rfl, rfl, rfl, rfl, rfl, trivial⟩)⟩
      · have h10 := bf h10
        refine VW.condF rfl h10 ?_
        refine VW.exit ?_
        exact ⟨odd2, (), Option.some.inj hm, (Shift.pick [0] rfl ⟨rfl, rfl, rfl, rfl, trivial⟩)⟩
    · rintro odd32 _ rfl
      have hm := h9
      refine VW.seq ?_
      refine VW.seq ?_
      refine VW.region ?_
      refine VR.p rfl rfl (VP.move rfl) ?_
      refine VR.nil ?_
      rcases ite_or hm with ⟨h23, hm⟩ | ⟨h23, hm⟩
      · refine VW.condT rfl h23 ?_
        refine VW.seq ?_
        refine VW.region ?_
        refine VR.p rfl rfl (VP.move rfl) ?_
        refine VR.p rfl rfl (VP.arith rfl rfl rfl) ?_
        refine VR.p rfl rfl (VP.move rfl) ?_
        obtain ⟨c5, h27, hm⟩ := bnd hm
        refine VR.sc 2 58 (.bool c5) (fun K' J => ?_) ?_
        · have hm := h27
          rcases ite_or hm with ⟨h24, hm⟩ | ⟨h24, hm⟩
          · obtain ⟨r5, h25, hm⟩ := bnd hm
            refine VR.consG rfl rfl rfl rfl h24 (VO.callK 0 rfl fn9 rfl (law01_known_ok r5 h25) fun _ _ h26 => ?_)
            obtain ⟨rfl, rfl⟩ := h26
            refine VR.p rfl rfl (VP.pickB true rfl h24 rfl) ?_
            exact J [_] _ rfl (congrArg VV.bool (Option.some.inj hm))
          · have h24 := bf h24
            refine VR.skipG rfl rfl rfl rfl h24 ?_
            refine VR.p rfl rfl (VP.pickB false rfl h24 rfl) ?_
            exact J [_] _ rfl (congrArg VV.bool (Option.some.inj hm))
        · refine VR.p rfl rfl (VP.assign rfl) ?_
          refine VR.nil ?_
          obtain rfl := Option.some.inj hm
          exact VW.ret ⟨.inl rfl, _, .cons (.tmp _ _ rfl) .nil, [], _, rfl, rfl, rfl⟩
      · have h23 := bf h23
        refine VW.condF rfl h23 ?_
        refine VW.skip ?_
        refine VW.seq ?_
        refine VW.region ?_
        refine VR.p rfl rfl (VP.move rfl) ?_
        refine VR.p rfl rfl (VP.arith rfl rfl rfl) ?_
        refine VR.p rfl rfl (VP.move rfl) ?_
        refine VR.sc 4 65 (.bool ((r3.2.1 == (0 : Int)) && ((r3.1.length : Int) == (1 : Int)))) (fun K' J => ?_) ?_
        · rcases Bool.eq_false_or_eq_true (r3.2.1 == (0 : Int)) with h28 | h28
          · refine VR.pG rfl rfl rfl rfl h28 (VP.move rfl) ?_
            refine VR.pG rfl rfl rfl rfl h28 (VP.lenRT T_api_Token.vv rfl Try.underlying26) ?_
            refine VR.pG rfl rfl rfl rfl h28 (VP.arith rfl rfl rfl) ?_
            refine VR.p rfl rfl (VP.pickB true rfl h28 rfl) ?_
            exact J [_, _, _] _ rfl (andT h28)
          · refine VR.skipG rfl rfl rfl rfl h28 ?_
            refine VR.skipG rfl rfl rfl rfl h28 ?_
            refine VR.skipG rfl rfl rfl rfl h28 ?_
            refine VR.p rfl rfl (VP.pickB false rfl h28 rfl) ?_
            exact J [_, _, _] _ rfl (andF h28)
        · refine VR.p rfl rfl (VP.move rfl) ?_
          obtain ⟨c6, h32, hm⟩ := bnd hm
          refine VR.sc 6 72 (.bool c6) (fun K' J => ?_) ?_
          · have hm := h32
            rcases ite_or hm with ⟨h29, hm⟩ | ⟨h29, hm⟩
            · refine VR.pG rfl rfl rfl rfl h29 (VP.move rfl) ?_
              obtain ⟨x, h30, hm⟩ := bnd hm
              refine VR.someRow 0 rfl (gl_pos T_api_Token.vv h30) fun b h31 => ?_
              subst h31
              refine VR.pG rfl rfl rfl rfl h29 (VP.glR T_api_Token.vv rfl rfl el26 h30) ?_
              refine VR.pG rfl rfl rfl rfl h29 (VP.fieldR rfl fa28_0) ?_
              refine VR.pG rfl rfl rfl rfl h29 (VP.loadR (i := 0) (y := T_api_Token.vv x) rfl rfl rfl (gl_map _ (gl_some h30).2) ld3 rfl) ?_
              refine VR.pG rfl rfl rfl rfl h29 (VP.arith rfl rfl rfl) ?_
              refine VR.p rfl rfl (VP.pickB true rfl h29 rfl) ?_
              exact J [_, _, _, _, _] _ rfl (congrArg VV.bool (Option.some.inj hm))
            · have h29 := bf h29
              refine VR.skipG rfl rfl rfl rfl h29 ?_
              refine VR.skipG rfl rfl rfl rfl h29 ?_
              refine VR.skipG rfl rfl rfl rfl h29 ?_
              refine VR.skipG rfl rfl rfl rfl h29 ?_
              refine VR.skipG rfl rfl rfl rfl h29 ?_
              refine VR.p rfl rfl (VP.pickB false rfl h29 rfl) ?_
              exact J [_, _, _, _, _] _ rfl (congrArg VV.bool (Option.some.inj hm))
          · refine VR.p rfl rfl (VP.move rfl) ?_
            obtain ⟨c7, h36, hm⟩ := bnd hm
            refine VR.sc 7 80 (.bool c7) (fun K' J => ?_) ?_
            · have hm := h36
              rcases ite_or hm with ⟨h33, hm⟩ | ⟨h33, hm⟩
              · refine VR.pG rfl rfl rfl rfl h33 (VP.move rfl) ?_
                obtain ⟨x2, h34, hm⟩ := bnd hm
                refine VR.someRow 0 rfl (gl_pos T_api_Token.vv h34) fun b2 h35 => ?_
                subst h35
                refine VR.pG rfl rfl rfl rfl h33 (VP.glR T_api_Token.vv rfl rfl el26 h34) ?_
                refine VR.pG rfl rfl rfl rfl h33 (VP.fieldR rfl fa28_1) ?_
                refine VR.pG rfl rfl rfl rfl h33 (VP.loadR (i := 0) (y := T_api_Token.vv x2) rfl rfl rfl (gl_map _ (gl_some h34).2) ld9 rfl) ?_
                refine VR.pG rfl rfl rfl rfl h33 (VP.move rfl) ?_
                refine VR.pG rfl rfl rfl rfl h33 (VP.strop rfl rfl rfl) ?_
                refine VR.p rfl rfl (VP.pickB true rfl h33 rfl) ?_
                exact J [_, _, _, _, _, _] _ rfl (congrArg VV.bool (Option.some.inj hm))
              · have h33 := bf h33
                refine VR.skipG rfl rfl rfl rfl h33 ?_
                refine VR.skipG rfl rfl rfl rfl h33 ?_
                refine VR.skipG rfl rfl rfl rfl h33 ?_
                refine VR.skipG rfl rfl rfl rfl h33 ?_
                refine VR.skipG rfl rfl rfl rfl h33 ?_
                refine VR.skipG rfl rfl rfl rfl h33 ?_
                refine VR.p rfl rfl (VP.pickB false rfl h33 rfl) ?_
                exact J [_, _, _, _, _, _] _ rfl (congrArg VV.bool (Option.some.inj hm))
            · refine VR.p rfl rfl (VP.move rfl) ?_
              obtain ⟨c8, h40, hm⟩ := bnd hm
              refine VR.sc 2 83 (.bool c8) (fun K' J => ?_) ?_
              · have hm := h40
                rcases ite_or hm with ⟨h37, hm⟩ | ⟨h37, hm⟩
                · obtain ⟨r6, h38, hm⟩ := bnd hm
                  refine VR.consG rfl rfl rfl rfl h37 (VO.callK 0 rfl fn9 rfl (law01_known_ok r6 h38) fun _ _ h39 => ?_)
                  obtain ⟨rfl, rfl⟩ := h39
                  refine VR.p rfl rfl (VP.pickB true rfl h37 rfl) ?_
                  exact J [_] _ rfl (congrArg VV.bool (Option.some.inj hm))
                · have h37 := bf h37
                  refine VR.skipG rfl rfl rfl rfl h37 ?_
                  refine VR.p rfl rfl (VP.pickB false rfl h37 rfl) ?_
                  exact J [_] _ rfl (congrArg VV.bool (Option.some.inj hm))
              · refine VR.p rfl rfl (VP.assign rfl) ?_
                refine VR.nil ?_
                obtain rfl := Option.some.inj hm
                exact VW.ret ⟨.inl rfl, _, .cons (.tmp _ _ rfl) .nil, [], _, rfl, rfl, rfl⟩

/-! trireme/triremelaw01.LexWords -/
def law01_LexWords (s : ByteArray) : Option Bool :=
  if (decide ((s.size : Int) > (1000 : Int))) = true then
    (law01_known).bind fun r =>
    some r
  else
    (lex_Scan s).bind fun r2 =>
    (if ((r2.2.1 == (0 : Int)) && ((r2.1.length : Int) == (1 : Int))) = true then (V.gl r2.1 (0 : Int)).bind fun x =>
    some (x.Kind == (3 : Int)) else some false).bind fun c =>
    (if c = true then (V.gl r2.1 (0 : Int)).bind fun x2 =>
    some (V.seq x2.Text s) else some false).bind fun c2 =>
    (lex_Word s).bind fun r3 =>
    (if (c2 == r3) = true then (law01_known).bind fun r4 =>
    some r4 else some false).bind fun c3 =>
    some c3
theorem law01_LexWords_ok (s : ByteArray) (r : Bool) (hm : law01_LexWords s = some r) :
    VC Try.prog 7 [.str s] [] (fun x H' => x = .bool r ∧ H' = []) := by
  unfold law01_LexWords at hm
  refine VC.run (c := _) (rs := [.tmp 2]) Try.func7 rfl rfl rfl ?_
  refine VW.seq ?_
  refine VW.region ?_
  refine VR.p rfl rfl (VP.assign rfl) ?_
  refine VR.nil ?_
  refine VW.seq ?_
  refine VW.seq ?_
  refine VW.region ?_
  refine VR.p rfl rfl (VP.move rfl) ?_
  refine VR.p rfl rfl (VP.lenS rfl Try.underlying9) ?_
  refine VR.p rfl rfl (VP.arith rfl rfl rfl) ?_
  refine VR.nil ?_
  rcases ite_or hm with ⟨h1, hm⟩ | ⟨h1, hm⟩
  · refine VW.condT rfl h1 ?_
    refine VW.seq ?_
    refine VW.region ?_
    obtain ⟨r, h2, hm⟩ := bnd hm
    refine VR.cons rfl rfl (VO.callK 0 rfl fn9 rfl (law01_known_ok r h2) fun _ _ h3 => ?_)
    obtain ⟨rfl, rfl⟩ := h3
    refine VR.p rfl rfl (VP.assign rfl) ?_
    refine VR.nil ?_
    obtain rfl := Option.some.inj hm
    exact VW.ret ⟨.inl rfl, _, .cons (.tmp _ _ rfl) .nil, [], _, rfl, rfl, rfl⟩
  · have h1 := bf h1
    refine VW.condF rfl h1 ?_
    refine VW.skip ?_
    refine VW.seq ?_
    refine VW.region ?_
    refine VR.p rfl rfl (VP.move rfl) ?_
    obtain ⟨r2, h4, hm⟩ := bnd hm
    refine VR.cons rfl rfl (VO.callK 0 rfl fn18 rfl (lex_Scan_ok s r2 h4) fun _ _ h21 => ?_)
    obtain ⟨ob, cap, rfl, rfl⟩ := h21
    refine VR.p rfl rfl (VP.move rfl) ?_
    refine VR.p rfl rfl (VP.extract rfl rfl) ?_
    refine VR.p rfl rfl (VP.extract rfl rfl) ?_
    refine VR.p rfl rfl (VP.extract rfl rfl) ?_
    refine VR.p rfl rfl (VP.assign rfl) ?_
    refine VR.p rfl rfl (VP.assign rfl) ?_
    refine VR.p rfl rfl (VP.assign rfl) ?_
    refine VR.nil ?_
    refine VW.seq ?_
    refine VW.region ?_
    refine VR.p rfl rfl (VP.move rfl) ?_
    refine VR.p rfl rfl (VP.arith rfl rfl rfl) ?_
    refine VR.p rfl rfl (VP.move rfl) ?_
    refine VR.sc 4 23 (.bool ((r2.2.1 == (0 : Int)) && ((r2.1.length : Int) == (1 : Int)))) (fun K' J => ?_) ?_
    · rcases Bool.eq_false_or_eq_true (r2.2.1 == (0 : Int)) with h6 | h6
      · refine VR.pG rfl rfl rfl rfl h6 (VP.move rfl) ?_
        refine VR.pG rfl rfl rfl rfl h6 (VP.lenRT T_api_Token.vv rfl Try.underlying26) ?_
        refine VR.pG rfl rfl rfl rfl h6 (VP.arith rfl rfl rfl) ?_
        refine VR.p rfl rfl (VP.pickB true rfl h6 rfl) ?_
        exact J [_, _, _] _ rfl (andT h6)
      · refine VR.skipG rfl rfl rfl rfl h6 ?_
        refine VR.skipG rfl rfl rfl rfl h6 ?_
        refine VR.skipG rfl rfl rfl rfl h6 ?_
        refine VR.p rfl rfl (VP.pickB false rfl h6 rfl) ?_
        exact J [_, _, _] _ rfl (andF h6)
    · refine VR.p rfl rfl (VP.move rfl) ?_
      obtain ⟨c, h10, hm⟩ := bnd hm
      refine VR.sc 6 30 (.bool c) (fun K' J => ?_) ?_
      · have hm := h10
        rcases ite_or hm with ⟨h7, hm⟩ | ⟨h7, hm⟩
        · refine VR.pG rfl rfl rfl rfl h7 (VP.move rfl) ?_
          obtain ⟨x, h8, hm⟩ := bnd hm
          refine VR.someRow 0 rfl (gl_pos T_api_Token.vv h8) fun b h9 => ?_
          subst h9
          refine VR.pG rfl rfl rfl rfl h7 (VP.glR T_api_Token.vv rfl rfl el26 h8) ?_
          refine VR.pG rfl rfl rfl rfl h7 (VP.fieldR rfl fa28_0) ?_
          refine VR.pG rfl rfl rfl rfl h7 (VP.loadR (i := 0) (y := T_api_Token.vv x) rfl rfl rfl (gl_map _ (gl_some h8).2) ld3 rfl) ?_
          refine VR.pG rfl rfl rfl rfl h7 (VP.arith rfl rfl rfl) ?_
          refine VR.p rfl rfl (VP.pickB true rfl h7 rfl) ?_
          exact J [_, _, _, _, _] _ rfl (congrArg VV.bool (Option.some.inj hm))
        · have h7 := bf h7
          refine VR.skipG rfl rfl rfl rfl h7 ?_
          refine VR.skipG rfl rfl rfl rfl h7 ?_
          refine VR.skipG rfl rfl rfl rfl h7 ?_
          refine VR.skipG rfl rfl rfl rfl h7 ?_
          refine VR.skipG rfl rfl rfl rfl h7 ?_
          refine VR.p rfl rfl (VP.pickB false rfl h7 rfl) ?_
          exact J [_, _, _, _, _] _ rfl (congrArg VV.bool (Option.some.inj hm))
      · refine VR.p rfl rfl (VP.move rfl) ?_
        obtain ⟨c2, h14, hm⟩ := bnd hm
        refine VR.sc 7 38 (.bool c2) (fun K' J => ?_) ?_
        · have hm := h14
          rcases ite_or hm with ⟨h11, hm⟩ | ⟨h11, hm⟩
          · refine VR.pG rfl rfl rfl rfl h11 (VP.move rfl) ?_
            obtain ⟨x2, h12, hm⟩ := bnd hm
            refine VR.someRow 0 rfl (gl_pos T_api_Token.vv h12) fun b2 h13 => ?_
            subst h13
            refine VR.pG rfl rfl rfl rfl h11 (VP.glR T_api_Token.vv rfl rfl el26 h12) ?_
            refine VR.pG rfl rfl rfl rfl h11 (VP.fieldR rfl fa28_1) ?_
            refine VR.pG rfl rfl rfl rfl h11 (VP.loadR (i := 0) (y := T_api_Token.vv x2) rfl rfl rfl (gl_map _ (gl_some h12).2) ld9 rfl) ?_
            refine VR.pG rfl rfl rfl rfl h11 (VP.move rfl) ?_
            refine VR.pG rfl rfl rfl rfl h11 (VP.strop rfl rfl rfl) ?_
            refine VR.p rfl rfl (VP.pickB true rfl h11 rfl) ?_
            exact J [_, _, _, _, _, _] _ rfl (congrArg VV.bool (Option.some.inj hm))
          · have h11 := bf h11
            refine VR.skipG rfl rfl rfl rfl h11 ?_
            refine VR.skipG rfl rfl rfl rfl h11 ?_
            refine VR.skipG rfl rfl rfl rfl h11 ?_
            refine VR.skipG rfl rfl rfl rfl h11 ?_
            refine VR.skipG rfl rfl rfl rfl h11 ?_
            refine VR.skipG rfl rfl rfl rfl h11 ?_
            refine VR.p rfl rfl (VP.pickB false rfl h11 rfl) ?_
            exact J [_, _, _, _, _, _] _ rfl (congrArg VV.bool (Option.some.inj hm))
        · refine VR.p rfl rfl (VP.assign rfl) ?_
          refine VR.nil ?_
          refine VW.seq ?_
          refine VW.region ?_
          refine VR.p rfl rfl (VP.move rfl) ?_
          refine VR.p rfl rfl (VP.move rfl) ?_
          obtain ⟨r3, h15, hm⟩ := bnd hm
          refine VR.cons rfl rfl (VO.callK 0 rfl fn12 rfl (lex_Word_ok s r3 h15) fun _ _ h20 => ?_)
          obtain ⟨rfl, rfl⟩ := h20
          refine VR.p rfl rfl (VP.boolop Try.underlying4 rfl rfl rfl) ?_
          refine VR.p rfl rfl (VP.move rfl) ?_
          obtain ⟨c3, h19, hm⟩ := bnd hm
          refine VR.sc 2 45 (.bool c3) (fun K' J => ?_) ?_
          · have hm := h19
            rcases ite_or hm with ⟨h16, hm⟩ | ⟨h16, hm⟩
            · obtain ⟨r4, h17, hm⟩ := bnd hm
              refine VR.consG rfl rfl rfl rfl h16 (VO.callK 0 rfl fn9 rfl (law01_known_ok r4 h17) fun _ _ h18 => ?_)
              obtain ⟨rfl, rfl⟩ := h18
              refine VR.p rfl rfl (VP.pickB true rfl h16 rfl) ?_
              exact J [_] _ rfl (congrArg VV.bool (Option.some.inj hm))
            · have h16 := bf h16
              refine VR.skipG rfl rfl rfl rfl h16 ?_
              refine VR.p rfl rfl (VP.pickB false rfl h16 rfl) ?_
              exact J [_] _ rfl (congrArg VV.bool (Option.some.inj hm))
          · refine VR.p rfl rfl (VP.assign rfl) ?_
            refine VR.nil ?_
            obtain rfl := Option.some.inj hm
            exact VW.ret ⟨.inl rfl, _, .cons (.tmp _ _ rfl) .nil, [], _, rfl, rfl, rfl⟩

/-! trireme/triremelaw01.LexJoins -/
def law01_LexJoins (a : ByteArray) (b : ByteArray) : Option Bool :=
  if ((decide ((a.size : Int) > (1500 : Int))) || (decide ((b.size : Int) > (1500 : Int)))) = true then
    (law01_known).bind fun r =>
    some r
  else
    (lex_Scan a).bind fun r2 =>
    (lex_Scan b).bind fun r3 =>
    if ((r2.2.1 != (0 : Int)) || (r3.2.1 != (0 : Int))) = true then
      (law01_known).bind fun r4 =>
      some r4
    else
      (V.cat a (⟨#[10]⟩ : ByteArray)).bind fun v =>
      (V.cat v b).bind fun v2 =>
      (lex_Scan v2).bind fun r5 =>
      (V.ap 48 ([] : List T_api_Token) r2.1).bind fun l =>
      (V.ap 48 l r3.1).bind fun both =>
      (if (r5.2.1 == (0 : Int)) = true then (ref01_Same r5.1 both false).bind fun r6 =>
      some r6 else some false).bind fun c =>
      (if c = true then (law01_known).bind fun r7 =>
      some r7 else some false).bind fun c2 =>
      some c2
theorem law01_LexJoins_ok (a : ByteArray) (b : ByteArray) (r : Bool) (hm : law01_LexJoins a b = some r) :
    VC Try.prog 8 [.str a, .str b] [] (fun x H' => x = .bool r ∧ H' = []) := by
  unfold law01_LexJoins at hm
  refine VC.run (c := _) (rs := [.tmp 4]) Try.func8 rfl rfl rfl ?_
  refine VW.seq ?_
  refine VW.region ?_
  refine VR.p rfl rfl (VP.assign rfl) ?_
  refine VR.nil ?_
  refine VW.seq ?_
  refine VW.seq ?_
  refine VW.region ?_
  refine VR.p rfl rfl (VP.move rfl) ?_
  refine VR.p rfl rfl (VP.lenS rfl Try.underlying9) ?_
  refine VR.p rfl rfl (VP.arith rfl rfl rfl) ?_
  refine VR.p rfl rfl (VP.move rfl) ?_
  refine VR.sc 4 22 (.bool ((decide ((a.size : Int) > (1500 : Int))) || (decide ((b.size : Int) > (1500 : Int))))) (fun K' J => ?_) ?_
  · rcases Bool.eq_false_or_eq_true (decide ((a.size : Int) > (1500 : Int))) with h1 | h1
    · refine VR.skipG rfl rfl rfl rfl h1 ?_
      refine VR.skipG rfl rfl rfl rfl h1 ?_
      refine VR.skipG rfl rfl rfl rfl h1 ?_
      refine VR.p rfl rfl (VP.pickB true rfl h1 rfl) ?_
      exact J [_, _, _] _ rfl (orT h1)
    · refine VR.pG rfl rfl rfl rfl h1 (VP.move rfl) ?_
      refine VR.pG rfl rfl rfl rfl h1 (VP.lenS rfl Try.underlying9) ?_
      refine VR.pG rfl rfl rfl rfl h1 (VP.arith rfl rfl rfl) ?_
      refine VR.p rfl rfl (VP.pickB false rfl h1 rfl) ?_
      exact J [_, _, _] _ rfl (orF h1)
  · refine VR.nil ?_
    rcases ite_or hm with ⟨h2, hm⟩ | ⟨h2, hm⟩
    · refine VW.condT rfl h2 ?_
      refine VW.seq ?_
      refine VW.region ?_
      obtain ⟨r, h3, hm⟩ := bnd hm
      refine VR.cons rfl rfl (VO.callK 0 rfl fn9 rfl (law01_known_ok r h3) fun _ _ h4 => ?_)
      obtain ⟨rfl, rfl⟩ := h4
      refine VR.p rfl rfl (VP.assign rfl) ?_
      refine VR.nil ?_
      obtain rfl := Option.some.inj hm
      exact VW.ret ⟨.inl rfl, _, .cons (.tmp _ _ rfl) .nil, [], _, rfl, rfl, rfl⟩
    · have h2 := bf h2
      refine VW.condF rfl h2 ?_
      refine VW.skip ?_
      refine VW.seq ?_
      refine VW.region ?_
      refine VR.p rfl rfl (VP.move rfl) ?_
      obtain ⟨r2, h5, hm⟩ := bnd hm
      refine VR.cons rfl rfl (VO.callK 0 rfl fn18 rfl (lex_Scan_ok a r2 h5) fun _ _ h31 => ?_)
      obtain ⟨ob, cap, rfl, rfl⟩ := h31
      refine VR.p rfl rfl (VP.move rfl) ?_
      refine VR.p rfl rfl (VP.extract rfl rfl) ?_
      refine VR.p rfl rfl (VP.extract rfl rfl) ?_
      refine VR.p rfl rfl (VP.extract rfl rfl) ?_
      refine VR.p rfl rfl (VP.assign rfl) ?_
      refine VR.p rfl rfl (VP.assign rfl) ?_
      refine VR.p rfl rfl (VP.assign rfl) ?_
      refine VR.nil ?_
      refine VW.seq ?_
      refine VW.region ?_
      refine VR.p rfl rfl (VP.move rfl) ?_
      obtain ⟨r3, h7, hm⟩ := bnd hm
      refine VR.cons rfl rfl (VO.callK 0 rfl fn18 rfl (lex_Scan_ok b r3 h7) fun _ _ h30 => ?_)
      obtain ⟨ob2, cap2, rfl, rfl⟩ := h30
      refine VR.p rfl rfl (VP.move rfl) ?_
      refine VR.p rfl rfl (VP.extract rfl rfl) ?_
      refine VR.p rfl rfl (VP.extract rfl rfl) ?_
      refine VR.p rfl rfl (VP.extract rfl rfl) ?_
      refine VR.p rfl rfl (VP.assign rfl) ?_
      refine VR.p rfl rfl (VP.assign rfl) ?_
      refine VR.p rfl rfl (VP.assign rfl) ?_
      refine VR.nil ?_
      refine VW.seq ?_
      refine VW.seq ?_
      refine VW.region ?_
      refine VR.p rfl rfl (VP.move rfl) ?_
      refine VR.p rfl rfl (VP.arith rfl rfl rfl) ?_
      refine VR.p rfl rfl (VP.move rfl) ?_
      refine VR.sc 3 41 (.bool ((r2.2.1 != (0 : Int)) || (r3.2.1 != (0 : Int)))) (fun K' J => ?_) ?_
      · rcases Bool.eq_false_or_eq_true (r2.2.1 != (0 : Int)) with h9 | h9
        · refine VR.skipG rfl rfl rfl rfl h9 ?_
          refine VR.skipG rfl rfl rfl rfl h9 ?_
          refine VR.p rfl rfl (VP.pickB true rfl h9 rfl) ?_
          exact J [_, _] _ rfl (orT h9)
        · refine VR.pG rfl rfl rfl rfl h9 (VP.move rfl) ?_
          refine VR.pG rfl rfl rfl rfl h9 (VP.arith rfl rfl rfl) ?_
          refine VR.p rfl rfl (VP.pickB false rfl h9 rfl) ?_
          exact J [_, _] _ rfl (orF h9)
      · refine VR.nil ?_
        rcases ite_or hm with ⟨h10, hm⟩ | ⟨h10, hm⟩
        · refine VW.condT rfl h10 ?_
          refine VW.seq ?_
          refine VW.region ?_
          obtain ⟨r4, h11, hm⟩ := bnd hm
          refine VR.cons rfl rfl (VO.callK 0 rfl fn9 rfl (law01_known_ok r4 h11) fun _ _ h12 => ?_)
          obtain ⟨rfl, rfl⟩ := h12
          refine VR.p rfl rfl (VP.assign rfl) ?_
          refine VR.nil ?_
          obtain rfl := Option.some.inj hm
          exact VW.ret ⟨.inl rfl, _, .cons (.tmp _ _ rfl) .nil, [], _, rfl, rfl, rfl⟩
        · have h10 := bf h10
          refine VW.condF rfl h10 ?_
          refine VW.skip ?_
          refine VW.seq ?_
          refine VW.region ?_
          refine VR.p rfl rfl (VP.move rfl) ?_
          obtain ⟨v, h13, hm⟩ := bnd hm
          refine VR.p rfl rfl (VP.catT rfl rfl h13) ?_
          refine VR.p rfl rfl (VP.move rfl) ?_
          obtain ⟨v2, h14, hm⟩ := bnd hm
          refine VR.p rfl rfl (VP.catT rfl rfl h14) ?_
          obtain ⟨r5, h15, hm⟩ := bnd hm
          refine VR.cons rfl rfl (VO.callK 0 rfl fn18 rfl (lex_Scan_ok v2 r5 h15) fun _ _ h29 => ?_)
          obtain ⟨ob3, cap3, rfl, rfl⟩ := h29
          refine VR.p rfl rfl (VP.move rfl) ?_
          refine VR.p rfl rfl (VP.extract rfl rfl) ?_
          refine VR.p rfl rfl (VP.extract rfl rfl) ?_
          refine VR.p rfl rfl (VP.extract rfl rfl) ?_
          refine VR.p rfl rfl (VP.assign rfl) ?_
          refine VR.p rfl rfl (VP.assign rfl) ?_
          refine VR.p rfl rfl (VP.assign rfl) ?_
          refine VR.nil ?_
          refine VW.seq ?_
          refine VW.region ?_
          refine VR.p rfl rfl (VP.assign rfl) ?_
          refine VR.nil ?_
          refine VW.seq ?_
          refine VW.region ?_
          refine VR.p rfl rfl (VP.move rfl) ?_
          refine VR.p rfl rfl (VP.move rfl) ?_
          refine VR.shift (Shift.nilRow 28) ?_
          obtain ⟨l, h18, hm⟩ := bnd hm
          refine VR.cons rfl rfl (VO.apT 0 T_api_Token.vv (l := ([] : List T_api_Token)) (l2 := r2.1) ap26 rfl rfl (sT_row 3 T_api_Token.vv el26 rfl rfl) h18 fun ob4 cap4 => ?_)
          refine VR.p rfl rfl (VP.assign rfl) ?_
          refine VR.nil ?_
          refine VW.seq ?_
          refine VW.region ?_
          refine VR.p rfl rfl (VP.move rfl) ?_
          refine VR.p rfl rfl (VP.move rfl) ?_
          obtain ⟨both, h19, hm⟩ := bnd hm
          refine VR.cons rfl rfl (VO.apT 0 T_api_Token.vv (l := l) (l2 := r3.1) ap26 rfl rfl (sT_row 2 T_api_Token.vv el26 rfl rfl) h19 fun ob5 cap5 => ?_)
          refine VR.p rfl rfl (VP.assign rfl) ?_
          refine VR.nil ?_
          refine VW.seq ?_
          refine VW.shift (Shift.trans (Shift.freezeE 1 [(49, .list 28 (List.map T_api_Token.vv r5.1)), (11, .list 28 (List.map T_api_Token.vv r5.1))] rfl ⟨⟨_, rfl, .here _ rfl⟩, ⟨_, rfl, .here _ rfl⟩, trivial⟩ (FzH.refl _)) (Shift.freezeE 0 [(57, .list 28 (List.map T_api_Token.vv both)), (14, .list 28 (List.map T_api_Token.vv both))] rfl ⟨⟨_, rfl, .here _ rfl⟩, ⟨_, rfl, .here _ rfl⟩, trivial⟩ (FzH.refl _))) ?_
          refine VW.region ?_
          refine VR.p rfl rfl (VP.move rfl) ?_
          refine VR.p rfl rfl (VP.arith rfl rfl rfl) ?_
          refine VR.p rfl rfl (VP.move rfl) ?_
          obtain ⟨c, h24, hm⟩ := bnd hm
          refine VR.sc 4 64 (.bool c) (fun K' J => ?_) ?_
          · have hm := h24
            rcases ite_or hm with ⟨h21, hm⟩ | ⟨h21, hm⟩
            · refine VR.pG rfl rfl rfl rfl h21 (VP.move rfl) ?_
              refine VR.pG rfl rfl rfl rfl h21 (VP.move rfl) ?_
              obtain ⟨r6, h22, hm⟩ := bnd hm
              refine VR.consG rfl rfl rfl rfl h21 (VO.callK 0 rfl fn19 rfl (ref01_Same_ok r5.1 both false r6 h22) fun _ _ h23 => ?_)
              obtain ⟨rfl, rfl⟩ := h23
              refine VR.p rfl rfl (VP.pickB true rfl h21 rfl) ?_
              exact J [_, _, _] _ rfl (congrArg VV.bool (Option.some.inj hm))
            · have h21 := bf h21
              refine VR.skipG rfl rfl rfl rfl h21 ?_
              refine VR.skipG rfl rfl rfl rfl h21 ?_
              refine VR.skipG rfl rfl rfl rfl h21 ?_
              refine VR.p rfl rfl (VP.pickB false rfl h21 rfl) ?_
              exact J [_, _, _] _ rfl (congrArg VV.bool (Option.some.inj hm))
          · refine VR.p rfl rfl (VP.move rfl) ?_
            obtain ⟨c2, h28, hm⟩ := bnd hm
            refine VR.sc 2 67 (.bool c2) (fun K' J => ?_) ?_
            · have hm := h28
              rcases ite_or hm with ⟨h25, hm⟩ | ⟨h25, hm⟩
              · obtain ⟨r7, h26, hm⟩ := bnd hm
                refine VR.consG rfl rfl rfl rfl h25 (VO.callK 0 rfl fn9 rfl (law01_known_ok r7 h26) fun _ _ h27 => ?_)
                obtain ⟨rfl, rfl⟩ := h27
                refine VR.p rfl rfl (VP.pickB true rfl h25 rfl) ?_
                exact J [_] _ rfl (congrArg VV.bool (Option.some.inj hm))
              · have h25 := bf h25
                refine VR.skipG rfl rfl rfl rfl h25 ?_
                refine VR.p rfl rfl (VP.pickB false rfl h25 rfl) ?_
                exact J [_] _ rfl (congrArg VV.bool (Option.some.inj hm))
            · refine VR.p rfl rfl (VP.assign rfl) ?_
              refine VR.nil ?_
              obtain rfl := Option.some.inj hm
              exact VW.ret ⟨.inl rfl, _, .cons (.tmp _ _ rfl) .nil, [], _, rfl, rfl, rfl⟩

end Go.Proofs.Ytfenmdnodoogbaa.M

/-
  Printed by a program of this session out of the loaded functions: models and their proofs. Own text.
-/
import Derived.Test.YtcblmlkpcplkfaaR2F1
namespace Go.Proofs.Ytcblmlkpcplkfaa.M
open Go Go.Proofs Go.Proofs.Ytcblmlkpcplkfaa.V
set_option linter.unusedVariables false
set_option maxRecDepth 20000
set_option maxHeartbeats 4000000
/-! trireme/labels.among -/
def labels_among.l1 (s : ByteArray) : List ByteArray → Nat → Option (Out Bool Unit)
  | [], k => some (Out.go ())
  | x :: l2, k =>
    if (V.seq x s) = true then
      some (Out.ret true)
    else
      labels_among.l1 s l2 (k + 1)
def labels_among (l : List ByteArray) (s : ByteArray) : Option Bool :=
  (labels_among.l1 s l 0).bind fun o =>
  o.on fun j =>
  some false
theorem labels_among_ok (l : List ByteArray) (s : ByteArray) (r : Bool) (hm : labels_among l s = some r) :
    VC Try.prog 112 [.list 9 (List.map VV.str l), .str s] [] (fun zx zH => zx = .bool r ∧ zH = []) := by
  unfold labels_among at hm
  refine VC.run (c := _) (rs := [.tmp 4]) Try.func112 rfl rfl rfl ?_
  refine VW.seq ?_
  refine VW.region ?_
  refine VR.p rfl rfl (VP.assign rfl) ?_
  refine VR.nil ?_
  refine VW.seq ?_
  refine VW.seq ?_
  refine VW.region ?_
  refine VR.p rfl rfl (VP.move rfl) ?_
  refine VR.p rfl rfl (VP.lenT VV.str rfl Try.underlying65) ?_
  refine VR.p rfl rfl (VP.move rfl) ?_
  refine VR.nil ?_
  refine VW.lenL 7 rfl fun h3 => ?_
  have h3 := max_map h3
  obtain ⟨o, h1, h2⟩ := bnd hm
  refine VW.joinE (fun (q : Unit) => o = Out.go q) (fun (j : Unit) (gg : Unit) => []) (fun (j : Unit) (gg : Unit) => []) ?_ ?_
  · have hm := h1
    refine VW.block (VW.loop (l.length + 1) ?_)
    refine VL.eachS (l := l) (R := _) (fun zl zk (zs : Unit) => labels_among.l1 s zl zk) (fun (k : Nat) (zs : Unit) (zg : Unit) => [(1, .str s), (7, .list 9 (List.map VV.str l)), (8, .int .i64 (l.length : Int)), (9, .int .i64 (k : Int))]) (fun (k : Nat) (zs : Unit) (zg : Unit) => []) () () (Shift.pick [] rfl ⟨rfl, rfl, rfl, rfl, trivial⟩) h1 ?_ ?_
    · rintro k _ _ hk hm
      rw [labels_among.l1] at hm
      refine VW.seq ?_
      refine VW.region ?_
      refine VR.p rfl rfl (VP.arith rfl rfl rfl) ?_
      refine VR.nil ?_
      refine VW.seq ?_
      refine VW.condF rfl (k_end hk) ?_
      refine VW.exit ?_
      exact ⟨(), (), (Option.some.inj hm).symm, (Shift.pick [] rfl trivial)⟩
    · rintro k x l2 _ _ h4 hm
      rw [labels_among.l1] at hm
      refine VW.seq ?_
      refine VW.region ?_
      refine VR.p rfl rfl (VP.arith rfl rfl rfl) ?_
      refine VR.nil ?_
      refine VW.seq ?_
      refine VW.condT rfl (k_lt h4) ?_
      refine VW.skip ?_
      refine VW.seq ?_
      refine VW.block ?_
      refine VW.seq ?_
      refine VW.region ?_
      refine VR.p rfl rfl (VP.glK VV.str rfl rfl el65 h4) ?_
      refine VR.p rfl rfl (VP.loadE rfl ld9 rfl) ?_
      refine VR.p rfl rfl (VP.assign rfl) ?_
      refine VR.nil ?_
      refine VW.seq ?_
      refine VW.region ?_
      refine VR.p rfl rfl (VP.move rfl) ?_
      refine VR.p rfl rfl (VP.move rfl) ?_
      refine VR.p rfl rfl (VP.strop rfl rfl rfl) ?_
      refine VR.nil ?_
      rcases ite_or hm with ⟨h5, hm⟩ | ⟨h5, hm⟩
      · refine VW.condT rfl h5 ?_
        refine VW.seq ?_
        refine VW.region ?_
        refine VR.p rfl rfl (VP.assign rfl) ?_
        refine VR.nil ?_
        obtain rfl := Option.some.inj hm
        have hm := Out.ret_on h2
        obtain rfl := Option.some.inj hm
        exact VW.ret ⟨.inl rfl, _, .cons (.tmp _ _ rfl) .nil, [], _, rfl, rfl, rfl⟩
      · have h5 := bf h5
        refine VW.condF rfl h5 ?_
        refine VW.skip ?_
        refine VW.region ?_
        refine VR.p rfl rfl (VP.arith rfl rfl rfl) ?_
        refine VR.p rfl rfl (VP.move rfl) ?_
        refine VR.nil ?_
        exact ⟨(), (), hm, (Shift.pick [] rfl ⟨rfl, rfl, rfl, congrArg some (k_next h4 h3), trivial⟩)⟩
  · rintro j _ rfl
    have hm := Out.go_on h2
    refine VW.seq ?_
    refine VW.region ?_
    refine VR.p rfl rfl (VP.assign rfl) ?_
    refine VR.nil ?_
    obtain rfl := Option.some.inj hm
    exact VW.ret ⟨.inl rfl, _, .cons (.tmp _ _ rfl) .nil, [], _, rfl, rfl, rfl⟩

/-! trireme/quant.head -/
def quant_head.l1 (s : ByteArray) : Nat → Int → Option Int
  | 0, _ => none
  | n4 + 1, n2 =>
    (if (decide (n2 < (s.size : Int))) = true then (V.gi s n2).bind fun v =>
    some (decide (v ≥ (48 : Int))) else some false).bind fun c =>
    (if c = true then (V.gi s n2).bind fun v2 =>
    some (decide (v2 ≤ (57 : Int))) else some false).bind fun c2 =>
    if c2 = true then
      quant_head.l1 s n4 (IntKind.i64.wrap (n2 + (1 : Int)))
    else
      some n2
def quant_head (s : ByteArray) : Option Int :=
  (quant_head.l1 s FU (0 : Int)).bind fun n32 =>
  some n32
theorem quant_head_ok (s : ByteArray) (r : Int) (hm : quant_head s = some r) :
    VC Try.prog 135 [.str s] [] (fun zx zH => zx = .int .i64 r ∧ zH = []) := by
  unfold quant_head at hm
  refine VC.run (c := _) (rs := [.tmp 2]) Try.func135 rfl rfl rfl ?_
  refine VW.seq ?_
  refine VW.region ?_
  refine VR.p rfl rfl (VP.assign rfl) ?_
  refine VR.nil ?_
  refine VW.seq ?_
  refine VW.region ?_
  refine VR.p rfl rfl (VP.assign rfl) ?_
  refine VR.nil ?_
  obtain ⟨o, h1, h2⟩ := bnd hm
  refine VW.join (fun (q : Int) => q = o) (fun (n32 : Int) (gg : Unit) => [(3, .int .i64 n32)]) (fun (n32 : Int) (gg : Unit) => []) ?_ ?_
  · have hm := h1
    refine VW.block (VW.loop FU ?_)
    refine VL.fuelS (R := _) (fun zn (zs : Int) => quant_head.l1 s zn zs) (fun (zs : Int) (zg : Unit) => [(0, .str s), (3, .int .i64 zs)]) (fun (zs : Int) (zg : Unit) => []) (0 : Int) () (fun zs => rfl) (Shift.pick [] rfl ⟨rfl, rfl, trivial⟩) h1 ?_
    rintro n4 n2 _ hm
    rw [quant_head.l1] at hm
    refine VW.seq ?_
    refine VW.seq ?_
    refine VW.region ?_
    refine VR.p rfl rfl (VP.move rfl) ?_
    refine VR.p rfl rfl (VP.move rfl) ?_
    refine VR.p rfl rfl (VP.lenS rfl Try.underlying9) ?_
    refine VR.p rfl rfl (VP.arith rfl rfl rfl) ?_
    refine VR.p rfl rfl (VP.move rfl) ?_
    obtain ⟨c, h5, hm⟩ := bnd hm
    refine VR.sc 5 13 (.bool c) (fun K' J => ?_) ?_
    · have hm := h5
      rcases ite_or hm with ⟨h3, hm⟩ | ⟨h3, hm⟩
      · refine VR.pG rfl rfl rfl rfl h3 (VP.move rfl) ?_
        refine VR.pG rfl rfl rfl rfl h3 (VP.move rfl) ?_
        obtain ⟨v, h4, hm⟩ := bnd hm
        refine VR.pG rfl rfl rfl rfl h3 (VP.gi rfl rfl Try.underlying9 h4) ?_
        refine VR.pG rfl rfl rfl rfl h3 (VP.arith rfl rfl rfl) ?_
        refine VR.p rfl rfl (VP.pickB true rfl h3 rfl) ?_
        exact J [_, _, _, _] _ rfl (congrArg VV.bool (Option.some.inj hm))
      · have h3 := bf h3
        refine VR.skipG rfl rfl rfl rfl h3 ?_
        refine VR.skipG rfl rfl rfl rfl h3 ?_
        refine VR.skipG rfl rfl rfl rfl h3 ?_
        refine VR.skipG rfl rfl rfl rfl h3 ?_
        refine VR.p rfl rfl (VP.pickB false rfl h3 rfl) ?_
        exact J [_, _, _, _] _ rfl (congrArg VV.bool (Option.some.inj hm))
    · refine VR.p rfl rfl (VP.move rfl) ?_
      obtain ⟨c2, h8, hm⟩ := bnd hm
      refine VR.sc 5 19 (.bool c2) (fun K' J => ?_) ?_
      · have hm := h8
        rcases ite_or hm with ⟨h6, hm⟩ | ⟨h6, hm⟩
        · refine VR.pG rfl rfl rfl rfl h6 (VP.move rfl) ?_
          refine VR.pG rfl rfl rfl rfl h6 (VP.move rfl) ?_
          obtain ⟨v2, h7, hm⟩ := bnd hm
          refine VR.pG rfl rfl rfl rfl h6 (VP.gi rfl rfl Try.underlying9 h7) ?_
          refine VR.pG rfl rfl rfl rfl h6 (VP.arith rfl rfl rfl) ?_
          refine VR.p rfl rfl (VP.pickB true rfl h6 rfl) ?_
          exact J [_, _, _, _] _ rfl (congrArg VV.bool (Option.some.inj hm))
        · have h6 := bf h6
          refine VR.skipG rfl rfl rfl rfl h6 ?_
          refine VR.skipG rfl rfl rfl rfl h6 ?_
          refine VR.skipG rfl rfl rfl rfl h6 ?_
          refine VR.skipG rfl rfl rfl rfl h6 ?_
          refine VR.p rfl rfl (VP.pickB false rfl h6 rfl) ?_
          exact J [_, _, _, _] _ rfl (congrArg VV.bool (Option.some.inj hm))
      · refine VR.nil ?_
        rcases ite_or hm with ⟨h9, hm⟩ | ⟨h9, hm⟩
        · refine VW.condT rfl h9 ?_
          refine VW.skip ?_
          refine VW.block ?_
          refine VW.region ?_
          refine VR.p rfl rfl (VP.move rfl) ?_
          refine VR.p rfl rfl (VP.arith rfl rfl rfl) ?_
          refine VR.p rfl rfl (VP.assign rfl) ?_
          refine VR.nil ?_
          exact ⟨(IntKind.i64.wrap (n2 + (1 : Int))), (), hm, (Shift.pick [] rfl ⟨rfl, rfl, trivial⟩)⟩
        · have h9 := bf h9
          refine VW.condF rfl h9 ?_
          refine VW.exit ?_
          exact ⟨n2, (), Option.some.inj hm, (Shift.pick [] rfl ⟨rfl, trivial⟩)⟩
  · rintro n32 _ rfl
    have hm := h2
    refine VW.seq ?_
    refine VW.region ?_
    refine VR.p rfl rfl (VP.move rfl) ?_
    refine VR.p rfl rfl (VP.assign rfl) ?_
    refine VR.nil ?_
    obtain rfl := Option.some.inj hm
    exact VW.ret ⟨.inl rfl, _, .cons (.tmp _ _ rfl) .nil, [], _, rfl, rfl, rfl⟩

/-! trireme/quant.value -/
def quant_value.l1 (s : ByteArray) (most : Int) : Nat → Int → Int → Option (Out (Int × Bool) Int)
  | 0, _, _ => none
  | n4 + 1, n2, v2 =>
    if (decide (v2 < (s.size : Int))) = true then
      (V.gi s v2).bind fun v3 =>
      (V.quo (IntKind.i64.wrap (most - (IntKind.i64.wrap (IntKind.u8.wrap (v3 - (48 : Int)))))) (10 : Int)).bind fun v4 =>
      if (decide (n2 > (IntKind.i64.wrap v4))) = true then
        some (Out.ret ((0 : Int), false))
      else
        quant_value.l1 s most n4 (IntKind.i64.wrap ((IntKind.i64.wrap ((10 : Int) * n2)) + (IntKind.i64.wrap (IntKind.u8.wrap (v3 - (48 : Int)))))) (IntKind.i64.wrap (v2 + (1 : Int)))
    else
      some (Out.go n2)
def quant_value (s : ByteArray) (most : Int) : Option (Int × Bool) :=
  (quant_value.l1 s most FU (0 : Int) (0 : Int)).bind fun o =>
  o.on fun n32 =>
  some (n32, true)
theorem quant_value_ok (s : ByteArray) (most : Int) (r : Int × Bool) (hm : quant_value s most = some r) :
    VC Try.prog 136 [.str s, .int .i64 most] [] (fun zx zH => zx = .tup [.int .i64 r.1, .bool r.2] ∧ zH = []) := by
  unfold quant_value at hm
  refine VC.run (c := _) (rs := [.tmp 4, .tmp 5]) Try.func136 rfl rfl rfl ?_
  refine VW.seq ?_
  refine VW.region ?_
  refine VR.p rfl rfl (VP.assign rfl) ?_
  refine VR.p rfl rfl (VP.assign rfl) ?_
  refine VR.nil ?_
  refine VW.seq ?_
  refine VW.region ?_
  refine VR.p rfl rfl (VP.assign rfl) ?_
  refine VR.nil ?_
  refine VW.seq ?_
  refine VW.seq ?_
  refine VW.region ?_
  refine VR.p rfl rfl (VP.move rfl) ?_
  refine VR.p rfl rfl (VP.lenS rfl Try.underlying9) ?_
  refine VR.p rfl rfl (VP.move rfl) ?_
  refine VR.nil ?_
  obtain ⟨o, h1, h2⟩ := bnd hm
  refine VW.joinE (fun (q : Int) => o = Out.go q) (fun (n32 : Int) (gg : Unit) => [(6, .int .i64 n32)]) (fun (n32 : Int) (gg : Unit) => []) ?_ ?_
  · have hm := h1
    refine VW.block (VW.loop FU ?_)
    refine VL.fuelS (R := _) (fun zn (zs : Int × Int) => quant_value.l1 s most zn zs.1 zs.2) (fun (zs : Int × Int) (zg : Unit) => [(0, .str s), (1, .int .i64 most), (6, .int .i64 zs.1), (10, .int .i64 (s.size : Int)), (11, .int .i64 zs.2)]) (fun (zs : Int × Int) (zg : Unit) => []) ((0 : Int), (0 : Int)) () (fun zs => rfl) (Shift.pick [] rfl ⟨rfl, rfl, rfl, rfl, rfl, trivial⟩) h1 ?_
    rintro n4 ⟨n2, v2⟩ _ hm
    rw [quant_value.l1] at hm
    refine VW.seq ?_
    refine VW.region ?_
    refine VR.p rfl rfl (VP.arith rfl rfl rfl) ?_
    refine VR.nil ?_
    refine VW.seq ?_
    rcases ite_or hm with ⟨h3, hm⟩ | ⟨h3, hm⟩
    · refine VW.condT rfl h3 ?_
      refine VW.skip ?_
      refine VW.seq ?_
      refine VW.block ?_
      refine VW.seq ?_
      refine VW.region ?_
      refine VR.p rfl rfl (VP.move rfl) ?_
      refine VR.p rfl rfl (VP.assign rfl) ?_
      refine VR.nil ?_
      refine VW.seq ?_
      refine VW.region ?_
      refine VR.p rfl rfl (VP.move rfl) ?_
      refine VR.p rfl rfl (VP.move rfl) ?_
      obtain ⟨v3, h4, hm⟩ := bnd hm
      refine VR.p rfl rfl (VP.gi rfl rfl Try.underlying9 h4) ?_
      refine VR.p rfl rfl (VP.arith rfl rfl rfl) ?_
      refine VR.p rfl rfl (VP.convI Try.underlying5 Try.underlying3 rfl) ?_
      refine VR.p rfl rfl (VP.assign rfl) ?_
      refine VR.nil ?_
      refine VW.seq ?_
      refine VW.seq ?_
      refine VW.region ?_
      refine VR.p rfl rfl (VP.move rfl) ?_
      refine VR.p rfl rfl (VP.move rfl) ?_
      refine VR.p rfl rfl (VP.move rfl) ?_
      refine VR.p rfl rfl (VP.arith rfl rfl rfl) ?_
      obtain ⟨v4, h5, hm⟩ := bnd hm
      refine VR.p rfl rfl (VP.quoT rfl rfl h5) ?_
      refine VR.p rfl rfl (VP.arith rfl rfl rfl) ?_
      refine VR.nil ?_
      rcases ite_or hm with ⟨h6, hm⟩ | ⟨h6, hm⟩
      · refine VW.condT rfl h6 ?_
        refine VW.seq ?_
        refine VW.region ?_
        refine VR.p rfl rfl (VP.assign rfl) ?_
        refine VR.p rfl rfl (VP.assign rfl) ?_
        refine VR.nil ?_
        obtain rfl := Option.some.inj hm
        have hm := Out.ret_on h2
        obtain rfl := Option.some.inj hm
        exact VW.ret ⟨.inl rfl, _, .cons (.tmp _ _ rfl) (.cons (.tmp _ _ rfl) .nil), [], _, rfl, rfl, rfl⟩
      · have h6 := bf h6
        refine VW.condF rfl h6 ?_
        refine VW.skip ?_
        refine VW.region ?_
        refine VR.p rfl rfl (VP.move rfl) ?_
        refine VR.p rfl rfl (VP.arith rfl rfl rfl) ?_
        refine VR.p rfl rfl (VP.move rfl) ?_
        refine VR.p rfl rfl (VP.arith rfl rfl rfl) ?_
        refine VR.p rfl rfl (VP.assign rfl) ?_
        refine VR.nil ?_
        refine VW.region ?_
        refine VR.p rfl rfl (VP.arith rfl rfl rfl) ?_
        refine VR.p rfl rfl (VP.move rfl) ?_
        refine VR.nil ?_
        exact ⟨((IntKind.i64.wrap ((IntKind.i64.wrap ((10 : Int) * n2)) + (IntKind.i64.wrap (IntKind.u8.wrap (v3 - (48 : Int)))))), (IntKind.i64.wrap (v2 + (1 : Int)))), (), hm, (Shift.pick [] rfl ⟨rfl, rfl, rfl, rfl, rfl, trivial⟩)⟩
    · have h3 := bf h3
      refine VW.condF rfl h3 ?_
      refine VW.exit ?_
      exact ⟨n2, (), (Option.some.inj hm).symm, (Shift.pick [] rfl ⟨rfl, trivial⟩)⟩
  · rintro n32 _ rfl
    have hm := Out.go_on h2
    refine VW.seq ?_
    refine VW.region ?_
    refine VR.p rfl rfl (VP.move rfl) ?_
    refine VR.p rfl rfl (VP.assign rfl) ?_
    refine VR.p rfl rfl (VP.assign rfl) ?_
    refine VR.nil ?_
    obtain rfl := Option.some.inj hm
    exact VW.ret ⟨.inl rfl, _, .cons (.tmp _ _ rfl) (.cons (.tmp _ _ rfl) .nil), [], _, rfl, rfl, rfl⟩

/-! trireme/quant.Number -/
def quant_Number (s : ByteArray) : Option (Int × Int) :=
  (if (V.seq s (⟨#[]⟩ : ByteArray)) = true then some true else (quant_head s).bind fun r =>
  some (r != (s.size : Int))).bind fun c =>
  if c = true then
    some ((0 : Int), (8 : Int))
  else
    (quant_value s (1125899906842624 : Int)).bind fun r2 =>
    if (!r2.2) = true then
      some ((0 : Int), (10 : Int))
    else
      some (r2.1, (0 : Int))
theorem quant_Number_ok (s : ByteArray) (r : Int × Int) (hm : quant_Number s = some r) :
    VC Try.prog 129 [.str s] [] (fun zx zH => zx = .tup [.int .i64 r.1, .int .i64 r.2] ∧ zH = []) := by
  unfold quant_Number at hm
  refine VC.run (c := _) (rs := [.tmp 2, .tmp 3]) Try.func129 rfl rfl rfl ?_
  refine VW.seq ?_
  refine VW.region ?_
  refine VR.p rfl rfl (VP.assign rfl) ?_
  refine VR.p rfl rfl (VP.assign rfl) ?_
  refine VR.nil ?_
  refine VW.seq ?_
  refine VW.seq ?_
  refine VW.region ?_
  refine VR.p rfl rfl (VP.move rfl) ?_
  refine VR.p rfl rfl (VP.strop rfl rfl rfl) ?_
  refine VR.p rfl rfl (VP.move rfl) ?_
  obtain ⟨c, h4, hm⟩ := bnd hm
  refine VR.sc 6 14 (.bool c) (fun K' J => ?_) ?_
  · have hm := h4
    rcases ite_or hm with ⟨h1, hm⟩ | ⟨h1, hm⟩
    · refine VR.skipG rfl rfl rfl rfl h1 ?_
      refine VR.skipG rfl rfl rfl rfl h1 ?_
      refine VR.skipG rfl rfl rfl rfl h1 ?_
      refine VR.skipG rfl rfl rfl rfl h1 ?_
      refine VR.skipG rfl rfl rfl rfl h1 ?_
      refine VR.p rfl rfl (VP.pickB true rfl h1 rfl) ?_
      exact J [_, _, _, _, _] _ rfl (congrArg VV.bool (Option.some.inj hm))
    · have h1 := bf h1
      refine VR.pG rfl rfl rfl rfl h1 (VP.move rfl) ?_
      obtain ⟨r, h2, hm⟩ := bnd hm
      refine VR.consG rfl rfl rfl rfl h1 (VO.callK 0 rfl fn135 rfl (quant_head_ok s r h2) fun _ _ h3 => ?_)
      obtain ⟨rfl, rfl⟩ := h3
      refine VR.pG rfl rfl rfl rfl h1 (VP.move rfl) ?_
      refine VR.pG rfl rfl rfl rfl h1 (VP.lenS rfl Try.underlying9) ?_
      refine VR.pG rfl rfl rfl rfl h1 (VP.arith rfl rfl rfl) ?_
      refine VR.p rfl rfl (VP.pickB false rfl h1 rfl) ?_
      exact J [_, _, _, _, _] _ rfl (congrArg VV.bool (Option.some.inj hm))
  · refine VR.nil ?_
    rcases ite_or hm with ⟨h5, hm⟩ | ⟨h5, hm⟩
    · refine VW.condT rfl h5 ?_
      refine VW.seq ?_
      refine VW.region ?_
      refine VR.p rfl rfl (VP.assign rfl) ?_
      refine VR.p rfl rfl (VP.assign rfl) ?_
      refine VR.nil ?_
      obtain rfl := Option.some.inj hm
      exact VW.ret ⟨.inl rfl, _, .cons (.tmp _ _ rfl) (.cons (.tmp _ _ rfl) .nil), [], _, rfl, rfl, rfl⟩
    · have h5 := bf h5
      refine VW.condF rfl h5 ?_
      refine VW.skip ?_
      refine VW.seq ?_
      refine VW.region ?_
      refine VR.p rfl rfl (VP.move rfl) ?_
      obtain ⟨r2, h6, hm⟩ := bnd hm
      refine VR.cons rfl rfl (VO.callK 0 rfl fn136 rfl (quant_value_ok s (1125899906842624 : Int) r2 h6) fun _ _ h8 => ?_)
      obtain ⟨rfl, rfl⟩ := h8
      refine VR.p rfl rfl (VP.move rfl) ?_
      refine VR.p rfl rfl (VP.extract rfl rfl) ?_
      refine VR.p rfl rfl (VP.extract rfl rfl) ?_
      refine VR.p rfl rfl (VP.assign rfl) ?_
      refine VR.p rfl rfl (VP.assign rfl) ?_
      refine VR.nil ?_
      refine VW.seq ?_
      refine VW.seq ?_
      refine VW.region ?_
      refine VR.p rfl rfl (VP.move rfl) ?_
      refine VR.p rfl rfl (VP.not rfl) ?_
      refine VR.nil ?_
      rcases ite_or hm with ⟨h7, hm⟩ | ⟨h7, hm⟩
      · refine VW.condT rfl h7 ?_
        refine VW.seq ?_
        refine VW.region ?_
        refine VR.p rfl rfl (VP.assign rfl) ?_
        refine VR.p rfl rfl (VP.assign rfl) ?_
        refine VR.nil ?_
        obtain rfl := Option.some.inj hm
        exact VW.ret ⟨.inl rfl, _, .cons (.tmp _ _ rfl) (.cons (.tmp _ _ rfl) .nil), [], _, rfl, rfl, rfl⟩
      · have h7 := bf h7
        refine VW.condF rfl h7 ?_
        refine VW.skip ?_
        refine VW.seq ?_
        refine VW.region ?_
        refine VR.p rfl rfl (VP.move rfl) ?_
        refine VR.p rfl rfl (VP.assign rfl) ?_
        refine VR.p rfl rfl (VP.assign rfl) ?_
        refine VR.nil ?_
        obtain rfl := Option.some.inj hm
        exact VW.ret ⟨.inl rfl, _, .cons (.tmp _ _ rfl) (.cons (.tmp _ _ rfl) .nil), [], _, rfl, rfl, rfl⟩

/-! trireme/labels.number -/
def labels_number (s : ByteArray) : Option (Int × Bool) :=
  (quant_Number s).bind fun r =>
  some (r.1, (r.2 == (0 : Int)))
theorem labels_number_ok (s : ByteArray) (r : Int × Bool) (hm : labels_number s = some r) :
    VC Try.prog 113 [.str s] [] (fun zx zH => zx = .tup [.int .i64 r.1, .bool r.2] ∧ zH = []) := by
  unfold labels_number at hm
  refine VC.run (c := _) (rs := [.tmp 2, .tmp 3]) Try.func113 rfl rfl rfl ?_
  refine VW.seq ?_
  refine VW.region ?_
  refine VR.p rfl rfl (VP.assign rfl) ?_
  refine VR.p rfl rfl (VP.assign rfl) ?_
  refine VR.nil ?_
  refine VW.seq ?_
  refine VW.region ?_
  refine VR.p rfl rfl (VP.move rfl) ?_
  obtain ⟨r, h1, hm⟩ := bnd hm
  refine VR.cons rfl rfl (VO.callK 0 rfl fn129 rfl (quant_Number_ok s r h1) fun _ _ h2 => ?_)
  obtain ⟨rfl, rfl⟩ := h2
  refine VR.p rfl rfl (VP.move rfl) ?_
  refine VR.p rfl rfl (VP.extract rfl rfl) ?_
  refine VR.p rfl rfl (VP.extract rfl rfl) ?_
  refine VR.p rfl rfl (VP.assign rfl) ?_
  refine VR.p rfl rfl (VP.assign rfl) ?_
  refine VR.nil ?_
  refine VW.seq ?_
  refine VW.region ?_
  refine VR.p rfl rfl (VP.move rfl) ?_
  refine VR.p rfl rfl (VP.move rfl) ?_
  refine VR.p rfl rfl (VP.arith rfl rfl rfl) ?_
  refine VR.p rfl rfl (VP.assign rfl) ?_
  refine VR.p rfl rfl (VP.assign rfl) ?_
  refine VR.nil ?_
  obtain rfl := Option.some.inj hm
  exact VW.ret ⟨.inl rfl, _, .cons (.tmp _ _ rfl) (.cons (.tmp _ _ rfl) .nil), [], _, rfl, rfl, rfl⟩

/-! trireme/labels.Meets -/
def labels_Meets (l : List T_api_Label) (t : T_api_Term) : Option Bool :=
  (labels_Get l t.Key).bind fun r =>
  if (t.Op == (1 : Int)) = true then
    (if r.2 = true then (labels_among t.Vals r.1).bind fun r2 =>
    some r2 else some false).bind fun c =>
    some c
  else
    if (t.Op == (2 : Int)) = true then
      (if (!r.2) = true then some true else (labels_among t.Vals r.1).bind fun r3 =>
      some (!r3)).bind fun c2 =>
      some c2
    else
      if (t.Op == (3 : Int)) = true then
        some r.2
      else
        if (t.Op == (4 : Int)) = true then
          some (!r.2)
        else
          if ((!r.2) || ((t.Vals.length : Int) != (1 : Int))) = true then
            some false
          else
            (labels_number r.1).bind fun r4 =>
            (V.gl t.Vals (0 : Int)).bind fun x =>
            (labels_number x).bind fun r5 =>
            if (t.Op == (6 : Int)) = true then
              some (r4.2 && (decide (r5.1 > r4.1)))
            else
              some (r4.2 && (decide (r4.1 > r5.1)))
theorem labels_Meets_ok (l : List T_api_Label) (t : T_api_Term) (r : Bool) (hm : labels_Meets l t = some r) :
    VC Try.prog 92 [.list 79 (List.map T_api_Label.vv l), T_api_Term.vv t] [] (fun zx zH => zx = .bool r ∧ zH = []) := by
  unfold labels_Meets at hm
  refine VC.run (c := _) (rs := [.tmp 4]) Try.func92 rfl rfl rfl ?_
  refine VW.seq ?_
  refine VW.region ?_
  refine VR.cons rfl rfl (VO.box rfl rfl fun b => ?_)
  refine VR.p rfl rfl (VP.assign rfl) ?_
  refine VR.nil ?_
  refine VW.seq ?_
  refine VW.region ?_
  refine VR.p rfl rfl (VP.move rfl) ?_
  refine VR.p rfl rfl (VP.fieldP rfl fa74_0) ?_
  refine VR.p rfl rfl (VP.loadP (i := 0) rfl rfl ld9 rfl) ?_
  obtain ⟨r, h2, hm⟩ := bnd hm
  refine VR.cons rfl rfl (VO.callK 0 rfl fn91 rfl (labels_Get_ok l t.Key r h2) fun _ _ h25 => ?_)
  obtain ⟨rfl, rfl⟩ := h25
  refine VR.p rfl rfl (VP.move rfl) ?_
  refine VR.p rfl rfl (VP.extract rfl rfl) ?_
  refine VR.p rfl rfl (VP.extract rfl rfl) ?_
  refine VR.p rfl rfl (VP.assign rfl) ?_
  refine VR.p rfl rfl (VP.assign rfl) ?_
  refine VR.nil ?_
  refine VW.seq ?_
  refine VW.seq ?_
  refine VW.region ?_
  refine VR.p rfl rfl (VP.fieldP rfl fa74_1) ?_
  refine VR.p rfl rfl (VP.loadP (i := 0) rfl rfl ld3 rfl) ?_
  refine VR.nil ?_
  refine VW.block ?_
  refine VW.seq ?_
  refine VW.region ?_
  refine VR.p rfl rfl (VP.arith rfl rfl rfl) ?_
  refine VR.p rfl rfl (VP.assign rfl) ?_
  refine VR.nil ?_
  rcases ite_or hm with ⟨h3, hm⟩ | ⟨h3, hm⟩
  · refine VW.condT rfl h3 ?_
    refine VW.seq ?_
    refine VW.region ?_
    refine VR.p rfl rfl (VP.move rfl) ?_
    refine VR.p rfl rfl (VP.move rfl) ?_
    obtain ⟨c, h7, hm⟩ := bnd hm
    refine VR.sc 5 28 (.bool c) (fun K' J => ?_) ?_
    · have hm := h7
      rcases ite_or hm with ⟨h4, hm⟩ | ⟨h4, hm⟩
      · refine VR.pG rfl rfl rfl rfl h4 (VP.fieldP rfl fa74_2) ?_
        refine VR.pG rfl rfl rfl rfl h4 (VP.loadP (i := 0) rfl rfl ld65 rfl) ?_
        refine VR.pG rfl rfl rfl rfl h4 (VP.move rfl) ?_
        obtain ⟨r2, h5, hm⟩ := bnd hm
        refine VR.consG rfl rfl rfl rfl h4 (VO.callK 0 rfl fn112 rfl (labels_among_ok t.Vals r.1 r2 h5) fun _ _ h6 => ?_)
        obtain ⟨rfl, rfl⟩ := h6
        refine VR.p rfl rfl (VP.pickB true rfl h4 rfl) ?_
        exact J [_, _, _, _] _ rfl (congrArg VV.bool (Option.some.inj hm))
      · have h4 := bf h4
        refine VR.skipG rfl rfl rfl rfl h4 ?_
        refine VR.skipG rfl rfl rfl rfl h4 ?_
        refine VR.skipG rfl rfl rfl rfl h4 ?_
        refine VR.skipG rfl rfl rfl rfl h4 ?_
        refine VR.p rfl rfl (VP.pickB false rfl h4 rfl) ?_
        exact J [_, _, _, _] _ rfl (congrArg VV.bool (Option.some.inj hm))
    · refine VR.p rfl rfl (VP.assign rfl) ?_
      refine VR.nil ?_
      obtain rfl := Option.some.inj hm
      exact VW.ret ⟨.inl rfl, _, .cons (.tmp _ _ rfl) .nil, [], _, rfl, rfl, rfl⟩
  · have h3 := bf h3
    refine VW.condF rfl h3 ?_
    refine VW.seq ?_
    refine VW.region ?_
    refine VR.p rfl rfl (VP.arith rfl rfl rfl) ?_
    refine VR.p rfl rfl (VP.assign rfl) ?_
    refine VR.nil ?_
    rcases ite_or hm with ⟨h8, hm⟩ | ⟨h8, hm⟩
    · refine VW.condT rfl h8 ?_
      refine VW.seq ?_
      refine VW.region ?_
      refine VR.p rfl rfl (VP.move rfl) ?_
      refine VR.p rfl rfl (VP.not rfl) ?_
      refine VR.p rfl rfl (VP.move rfl) ?_
      obtain ⟨c2, h12, hm⟩ := bnd hm
      refine VR.sc 6 39 (.bool c2) (fun K' J => ?_) ?_
      · have hm := h12
        rcases ite_or hm with ⟨h9, hm⟩ | ⟨h9, hm⟩
        · refine VR.skipG rfl rfl rfl rfl h9 ?_
          refine VR.skipG rfl rfl rfl rfl h9 ?_
          refine VR.skipG rfl rfl rfl rfl h9 ?_
          refine VR.skipG rfl rfl rfl rfl h9 ?_
          refine VR.skipG rfl rfl rfl rfl h9 ?_
          refine VR.p rfl rfl (VP.pickB true rfl h9 rfl) ?_
          exact J [_, _, _, _, _] _ rfl (congrArg VV.bool (Option.some.inj hm))
        · have h9 := bf h9
          refine VR.pG rfl rfl rfl rfl h9 (VP.fieldP rfl fa74_2) ?_
          refine VR.pG rfl rfl rfl rfl h9 (VP.loadP (i := 0) rfl rfl ld65 rfl) ?_
          refine VR.pG rfl rfl rfl rfl h9 (VP.move rfl) ?_
          obtain ⟨r3, h10, hm⟩ := bnd hm
          refine VR.consG rfl rfl rfl rfl h9 (VO.callK 0 rfl fn112 rfl (labels_among_ok t.Vals r.1 r3 h10) fun _ _ h11 => ?_)
          obtain ⟨rfl, rfl⟩ := h11
          refine VR.pG rfl rfl rfl rfl h9 (VP.not rfl) ?_
          refine VR.p rfl rfl (VP.pickB false rfl h9 rfl) ?_
          exact J [_, _, _, _, _] _ rfl (congrArg VV.bool (Option.some.inj hm))
      · refine VR.p rfl rfl (VP.assign rfl) ?_
        refine VR.nil ?_
        obtain rfl := Option.some.inj hm
        exact VW.ret ⟨.inl rfl, _, .cons (.tmp _ _ rfl) .nil, [], _, rfl, rfl, rfl⟩
    · have h8 := bf h8
      refine VW.condF rfl h8 ?_
      refine VW.seq ?_
      refine VW.region ?_
      refine VR.p rfl rfl (VP.arith rfl rfl rfl) ?_
      refine VR.p rfl rfl (VP.assign rfl) ?_
      refine VR.nil ?_
      rcases ite_or hm with ⟨h13, hm⟩ | ⟨h13, hm⟩
      · refine VW.condT rfl h13 ?_
        refine VW.seq ?_
        refine VW.region ?_
        refine VR.p rfl rfl (VP.move rfl) ?_
        refine VR.p rfl rfl (VP.assign rfl) ?_
        refine VR.nil ?_
        obtain rfl := Option.some.inj hm
        exact VW.ret ⟨.inl rfl, _, .cons (.tmp _ _ rfl) .nil, [], _, rfl, rfl, rfl⟩
      · have h13 := bf h13
        refine VW.condF rfl h13 ?_
        refine VW.seq ?_
        refine VW.region ?_
        refine VR.p rfl rfl (VP.arith rfl rfl rfl) ?_
        refine VR.p rfl rfl (VP.assign rfl) ?_
        refine VR.nil ?_
        rcases ite_or hm with ⟨h14, hm⟩ | ⟨h14, hm⟩
        · refine VW.condT rfl h14 ?_
          refine VW.seq ?_
          refine VW.region ?_
          refine VR.p rfl rfl (VP.move rfl) ?_
          refine VR.p rfl rfl (VP.not rfl) ?_
          refine VR.p rfl rfl (VP.assign rfl) ?_
          refine VR.nil ?_
          obtain rfl := Option.some.inj hm
          exact VW.ret ⟨.inl rfl, _, .cons (.tmp _ _ rfl) .nil, [], _, rfl, rfl, rfl⟩
        · have h14 := bf h14
          refine VW.condF rfl h14 ?_
          refine VW.skip ?_
          refine VW.seq ?_
          refine VW.seq ?_
          refine VW.region ?_
          refine VR.p rfl rfl (VP.move rfl) ?_
          refine VR.p rfl rfl (VP.not rfl) ?_
          refine VR.p rfl rfl (VP.move rfl) ?_
          refine VR.sc 5 54 (.bool ((!r.2) || ((t.Vals.length : Int) != (1 : Int)))) (fun K' J => ?_) ?_
          · rcases Bool.eq_false_or_eq_true (!r.2) with h15 | h15
            · refine VR.skipG rfl rfl rfl rfl h15 ?_
              refine VR.skipG rfl rfl rfl rfl h15 ?_
              refine VR.skipG rfl rfl rfl rfl h15 ?_
              refine VR.skipG rfl rfl rfl rfl h15 ?_
              refine VR.p rfl rfl (VP.pickB true rfl h15 rfl) ?_
              exact J [_, _, _, _] _ rfl (orT h15)
            · refine VR.pG rfl rfl rfl rfl h15 (VP.fieldP rfl fa74_2) ?_
              refine VR.pG rfl rfl rfl rfl h15 (VP.loadP (i := 0) rfl rfl ld65 rfl) ?_
              refine VR.pG rfl rfl rfl rfl h15 (VP.lenT VV.str rfl Try.underlying65) ?_
              refine VR.pG rfl rfl rfl rfl h15 (VP.arith rfl rfl rfl) ?_
              refine VR.p rfl rfl (VP.pickB false rfl h15 rfl) ?_
              exact J [_, _, _, _] _ rfl (orF h15)
          · refine VR.nil ?_
            rcases ite_or hm with ⟨h16, hm⟩ | ⟨h16, hm⟩
            · refine VW.condT rfl h16 ?_
              refine VW.seq ?_
              refine VW.region ?_
              refine VR.p rfl rfl (VP.assign rfl) ?_
              refine VR.nil ?_
              obtain rfl := Option.some.inj hm
              exact VW.ret ⟨.inl rfl, _, .cons (.tmp _ _ rfl) .nil, [], _, rfl, rfl, rfl⟩
            · have h16 := bf h16
              refine VW.condF rfl h16 ?_
              refine VW.skip ?_
              refine VW.seq ?_
              refine VW.region ?_
              refine VR.p rfl rfl (VP.move rfl) ?_
              obtain ⟨r4, h17, hm⟩ := bnd hm
              refine VR.cons rfl rfl (VO.callK 0 rfl fn113 rfl (labels_number_ok r.1 r4 h17) fun _ _ h24 => ?_)
              obtain ⟨rfl, rfl⟩ := h24
              refine VR.p rfl rfl (VP.move rfl) ?_
              refine VR.p rfl rfl (VP.extract rfl rfl) ?_
              refine VR.p rfl rfl (VP.extract rfl rfl) ?_
              refine VR.p rfl rfl (VP.assign rfl) ?_
              refine VR.p rfl rfl (VP.assign rfl) ?_
              refine VR.nil ?_
              refine VW.seq ?_
              refine VW.region ?_
              refine VR.p rfl rfl (VP.fieldP rfl fa74_2) ?_
              refine VR.p rfl rfl (VP.loadP (i := 0) rfl rfl ld65 rfl) ?_
              obtain ⟨x, h18, hm⟩ := bnd hm
              refine VR.p rfl rfl (VP.glE VV.str rfl rfl el65 h18) ?_
              refine VR.p rfl rfl (VP.loadE rfl ld9 rfl) ?_
              obtain ⟨r5, h19, hm⟩ := bnd hm
              refine VR.cons rfl rfl (VO.callK 0 rfl fn113 rfl (labels_number_ok x r5 h19) fun _ _ h23 => ?_)
              obtain ⟨rfl, rfl⟩ := h23
              refine VR.p rfl rfl (VP.move rfl) ?_
              refine VR.p rfl rfl (VP.extract rfl rfl) ?_
              refine VR.p rfl rfl (VP.extract rfl rfl) ?_
              refine VR.p rfl rfl (VP.assign rfl) ?_
              refine VR.p rfl rfl (VP.assign rfl) ?_
              refine VR.nil ?_
              refine VW.seq ?_
              refine VW.seq ?_
              refine VW.region ?_
              refine VR.p rfl rfl (VP.fieldP rfl fa74_1) ?_
              refine VR.p rfl rfl (VP.loadP (i := 0) rfl rfl ld3 rfl) ?_
              refine VR.p rfl rfl (VP.arith rfl rfl rfl) ?_
              refine VR.nil ?_
              rcases ite_or hm with ⟨h20, hm⟩ | ⟨h20, hm⟩
              · refine VW.condT rfl h20 ?_
                refine VW.region ?_
                refine VR.p rfl rfl (VP.move rfl) ?_
                refine VR.p rfl rfl (VP.move rfl) ?_
                refine VR.p rfl rfl (VP.assign rfl) ?_
                refine VR.p rfl rfl (VP.assign rfl) ?_
                refine VR.nil ?_
                refine VW.seq ?_
                refine VW.region ?_
                refine VR.p rfl rfl (VP.move rfl) ?_
                refine VR.p rfl rfl (VP.move rfl) ?_
                refine VR.sc 4 78 (.bool (r4.2 && (decide (r5.1 > r4.1)))) (fun K' J => ?_) ?_
                · rcases Bool.eq_false_or_eq_true r4.2 with h21 | h21
                  · refine VR.pG rfl rfl rfl rfl h21 (VP.move rfl) ?_
                    refine VR.pG rfl rfl rfl rfl h21 (VP.move rfl) ?_
                    refine VR.pG rfl rfl rfl rfl h21 (VP.arith rfl rfl rfl) ?_
                    refine VR.p rfl rfl (VP.pickB true rfl h21 rfl) ?_
                    exact J [_, _, _] _ rfl (andT h21)
                  · refine VR.skipG rfl rfl rfl rfl h21 ?_
                    refine VR.skipG rfl rfl rfl rfl h21 ?_
                    refine VR.skipG rfl rfl rfl rfl h21 ?_
                    refine VR.p rfl rfl (VP.pickB false rfl h21 rfl) ?_
                    exact J [_, _, _] _ rfl (andF h21)
                · refine VR.p rfl rfl (VP.assign rfl) ?_
                  refine VR.nil ?_
                  obtain rfl := Option.some.inj hm
                  exact VW.ret ⟨.inl rfl, _, .cons (.tmp _ _ rfl) .nil, [], _, rfl, rfl, rfl⟩
              · have h20 := bf h20
                refine VW.condF rfl h20 ?_
                refine VW.skip ?_
                refine VW.seq ?_
                refine VW.region ?_
                refine VR.p rfl rfl (VP.move rfl) ?_
                refine VR.p rfl rfl (VP.move rfl) ?_
                refine VR.sc 4 78 (.bool (r4.2 && (decide (r4.1 > r5.1)))) (fun K' J => ?_) ?_
                · rcases Bool.eq_false_or_eq_true r4.2 with h22 | h22
                  · refine VR.pG rfl rfl rfl rfl h22 (VP.move rfl) ?_
                    refine VR.pG rfl rfl rfl rfl h22 (VP.move rfl) ?_
                    refine VR.pG rfl rfl rfl rfl h22 (VP.arith rfl rfl rfl) ?_
                    refine VR.p rfl rfl (VP.pickB true rfl h22 rfl) ?_
                    exact J [_, _, _] _ rfl (andT h22)
                  · refine VR.skipG rfl rfl rfl rfl h22 ?_
                    refine VR.skipG rfl rfl rfl rfl h22 ?_
                    refine VR.skipG rfl rfl rfl rfl h22 ?_
                    refine VR.p rfl rfl (VP.pickB false rfl h22 rfl) ?_
                    exact J [_, _, _] _ rfl (andF h22)
                · refine VR.p rfl rfl (VP.assign rfl) ?_
                  refine VR.nil ?_
                  obtain rfl := Option.some.inj hm
                  exact VW.ret ⟨.inl rfl, _, .cons (.tmp _ _ rfl) .nil, [], _, rfl, rfl, rfl⟩

/-! trireme/labels.All -/
def labels_All.l1 (l : List T_api_Label) : List T_api_Term → Nat → Option (Out Bool Unit)
  | [], k => some (Out.go ())
  | x :: l2, k =>
    (labels_Meets l x).bind fun r =>
    if (!r) = true then
      some (Out.ret false)
    else
      labels_All.l1 l l2 (k + 1)
def labels_All (l : List T_api_Label) (terms : List T_api_Term) : Option Bool :=
  (labels_All.l1 l terms 0).bind fun o =>
  o.on fun j =>
  some true
theorem labels_All_ok (l : List T_api_Label) (terms : List T_api_Term) (r : Bool) (hm : labels_All l terms = some r) :
    VC Try.prog 56 [.list 79 (List.map T_api_Label.vv l), .list 74 (List.map T_api_Term.vv terms)] [] (fun zx zH => zx = .bool r ∧ zH = []) := by
  unfold labels_All at hm
  refine VC.run (c := _) (rs := [.tmp 4]) Try.func56 rfl rfl rfl ?_
  refine VW.seq ?_
  refine VW.region ?_
  refine VR.p rfl rfl (VP.assign rfl) ?_
  refine VR.nil ?_
  refine VW.seq ?_
  refine VW.seq ?_
  refine VW.region ?_
  refine VR.p rfl rfl (VP.move rfl) ?_
  refine VR.p rfl rfl (VP.lenT T_api_Term.vv rfl Try.underlying29) ?_
  refine VR.p rfl rfl (VP.move rfl) ?_
  refine VR.nil ?_
  refine VW.lenL 7 rfl fun h3 => ?_
  have h3 := max_map h3
  obtain ⟨o, h1, h2⟩ := bnd hm
  refine VW.joinE (fun (q : Unit) => o = Out.go q) (fun (j : Unit) (gg : Unit) => []) (fun (j : Unit) (gg : Unit) => []) ?_ ?_
  · have hm := h1
    refine VW.block (VW.loop (terms.length + 1) ?_)
    refine VL.eachS (l := terms) (R := _) (fun zl zk (zs : Unit) => labels_All.l1 l zl zk) (fun (k : Nat) (zs : Unit) (zg : Unit) => [(0, .list 79 (List.map T_api_Label.vv l)), (7, .list 74 (List.map T_api_Term.vv terms)), (8, .int .i64 (terms.length : Int)), (9, .int .i64 (k : Int))]) (fun (k : Nat) (zs : Unit) (zg : Unit) => []) () () (Shift.pick [] rfl ⟨rfl, rfl, rfl, rfl, trivial⟩) h1 ?_ ?_
    · rintro k _ _ hk hm
      rw [labels_All.l1] at hm
      refine VW.seq ?_
      refine VW.region ?_
      refine VR.p rfl rfl (VP.arith rfl rfl rfl) ?_
      refine VR.nil ?_
      refine VW.seq ?_
      refine VW.condF rfl (k_end hk) ?_
      refine VW.exit ?_
      exact ⟨(), (), (Option.some.inj hm).symm, (Shift.pick [] rfl trivial)⟩
    · rintro k x l2 _ _ h4 hm
      rw [labels_All.l1] at hm
      refine VW.seq ?_
      refine VW.region ?_
      refine VR.p rfl rfl (VP.arith rfl rfl rfl) ?_
      refine VR.nil ?_
      refine VW.seq ?_
      refine VW.condT rfl (k_lt h4) ?_
      refine VW.skip ?_
      refine VW.seq ?_
      refine VW.block ?_
      refine VW.seq ?_
      refine VW.region ?_
      refine VR.p rfl rfl (VP.glK T_api_Term.vv rfl rfl el29 h4) ?_
      refine VR.p rfl rfl (VP.loadE rfl ld74 rfl) ?_
      refine VR.cons rfl rfl (VO.alloc z74 fun b => ?_)
      refine VR.cons rfl rfl (VO.storeP (i := 0) rfl rfl rfl ld74 rfl rfl rfl ?_)
      refine VR.nil ?_
      refine VW.seq ?_
      refine VW.region ?_
      refine VR.p rfl rfl (VP.move rfl) ?_
      refine VR.p rfl rfl (VP.loadP (i := 0) rfl rfl ld74 rfl) ?_
      obtain ⟨r, h6, hm⟩ := bnd hm
      refine VR.cons rfl rfl (VO.callK 0 rfl fn92 rfl (labels_Meets_ok l x r h6) fun _ _ h8 => ?_)
      obtain ⟨rfl, rfl⟩ := h8
      refine VR.p rfl rfl (VP.not rfl) ?_
      refine VR.nil ?_
      rcases ite_or hm with ⟨h7, hm⟩ | ⟨h7, hm⟩
      · refine VW.condT rfl h7 ?_
        refine VW.seq ?_
        refine VW.region ?_
        refine VR.p rfl rfl (VP.assign rfl) ?_
        refine VR.nil ?_
        obtain rfl := Option.some.inj hm
        have hm := Out.ret_on h2
        obtain rfl := Option.some.inj hm
        exact VW.ret ⟨.inl rfl, _, .cons (.tmp _ _ rfl) .nil, [], _, rfl, rfl, rfl⟩
      · have h7 := bf h7
        refine VW.condF rfl h7 ?_
        refine VW.skip ?_
        refine VW.region ?_
        refine VR.p rfl rfl (VP.arith rfl rfl rfl) ?_
        refine VR.p rfl rfl (VP.move rfl) ?_
        refine VR.nil ?_
        exact ⟨(), (), hm, (Shift.pick [] rfl ⟨rfl, rfl, rfl, congrArg some (k_next h4 h3), trivial⟩)⟩
  · rintro j _ rfl
    have hm := Out.go_on h2
    refine VW.seq ?_
    refine VW.region ?_
    refine VR.p rfl rfl (VP.assign rfl) ?_
    refine VR.nil ?_
    obtain rfl := Option.some.inj hm
    exact VW.ret ⟨.inl rfl, _, .cons (.tmp _ _ rfl) .nil, [], _, rfl, rfl, rfl⟩

/-! trireme/taints.of -/
def taints_of (x : T_api_Taint) (effect : Int) : Option Bool :=
  some ((effect == (0 : Int)) || (x.Effect == effect))
theorem taints_of_ok (x : T_api_Taint) (effect : Int) (r : Bool) (hm : taints_of x effect = some r) :
    VC Try.prog 116 [T_api_Taint.vv x, .int .i64 effect] [] (fun zx zH => zx = .bool r ∧ zH = []) := by
  unfold taints_of at hm
  refine VC.run (c := _) (rs := [.tmp 4]) Try.func116 rfl rfl rfl ?_
  refine VW.seq ?_
  refine VW.region ?_
  refine VR.cons rfl rfl (VO.box rfl rfl fun b => ?_)
  refine VR.p rfl rfl (VP.assign rfl) ?_
  refine VR.nil ?_
  refine VW.seq ?_
  refine VW.region ?_
  refine VR.p rfl rfl (VP.move rfl) ?_
  refine VR.p rfl rfl (VP.arith rfl rfl rfl) ?_
  refine VR.p rfl rfl (VP.move rfl) ?_
  refine VR.sc 5 12 (.bool ((effect == (0 : Int)) || (x.Effect == effect))) (fun K' J => ?_) ?_
  · rcases Bool.eq_false_or_eq_true (effect == (0 : Int)) with h2 | h2
    · refine VR.skipG rfl rfl rfl rfl h2 ?_
      refine VR.skipG rfl rfl rfl rfl h2 ?_
      refine VR.skipG rfl rfl rfl rfl h2 ?_
      refine VR.skipG rfl rfl rfl rfl h2 ?_
      refine VR.p rfl rfl (VP.pickB true rfl h2 rfl) ?_
      exact J [_, _, _, _] _ rfl (orT h2)
    · refine VR.pG rfl rfl rfl rfl h2 (VP.fieldP rfl fa97_2) ?_
      refine VR.pG rfl rfl rfl rfl h2 (VP.loadP (i := 0) rfl rfl ld3 rfl) ?_
      refine VR.pG rfl rfl rfl rfl h2 (VP.move rfl) ?_
      refine VR.pG rfl rfl rfl rfl h2 (VP.arith rfl rfl rfl) ?_
      refine VR.p rfl rfl (VP.pickB false rfl h2 rfl) ?_
      exact J [_, _, _, _] _ rfl (orF h2)
  · refine VR.p rfl rfl (VP.assign rfl) ?_
    refine VR.nil ?_
    obtain rfl := Option.some.inj hm
    exact VW.ret ⟨.inl rfl, _, .cons (.tmp _ _ rfl) .nil, [], _, rfl, rfl, rfl⟩

/-! trireme/taints.Bears -/
def taints_Bears (t : T_api_Toleration) (x : T_api_Taint) : Option Bool :=
  if ((t.Effect != (0 : Int)) && (t.Effect != x.Effect)) = true then
    some false
  else
    if ((!(V.seq t.Key (⟨#[]⟩ : ByteArray))) && (!(V.seq t.Key x.Key))) = true then
      some false
    else
      some (t.Any || (V.seq t.Val x.Val))
theorem taints_Bears_ok (t : T_api_Toleration) (x : T_api_Taint) (r : Bool) (hm : taints_Bears t x = some r) :
    VC Try.prog 130 [T_api_Toleration.vv t, T_api_Taint.vv x] [] (fun zx zH => zx = .bool r ∧ zH = []) := by
  unfold taints_Bears at hm
  refine VC.run (c := _) (rs := [.tmp 4]) Try.func130 rfl rfl rfl ?_
  refine VW.seq ?_
  refine VW.region ?_
  refine VR.cons rfl rfl (VO.box rfl rfl fun b => ?_)
  refine VR.cons rfl rfl (VO.box rfl rfl fun b2 => ?_)
  refine VR.p rfl rfl (VP.assign rfl) ?_
  refine VR.nil ?_
  refine VW.seq ?_
  refine VW.block ?_
  refine VW.seq ?_
  refine VW.region ?_
  refine VR.p rfl rfl (VP.fieldP rfl fa55_3) ?_
  refine VR.p rfl rfl (VP.loadP (i := 1) rfl rfl ld3 rfl) ?_
  refine VR.p rfl rfl (VP.arith rfl rfl rfl) ?_
  refine VR.p rfl rfl (VP.move rfl) ?_
  refine VR.sc 6 15 (.bool ((t.Effect != (0 : Int)) && (t.Effect != x.Effect))) (fun K' J => ?_) ?_
  · rcases Bool.eq_false_or_eq_true (t.Effect != (0 : Int)) with h3 | h3
    · refine VR.pG rfl rfl rfl rfl h3 (VP.fieldP rfl fa55_3) ?_
      refine VR.pG rfl rfl rfl rfl h3 (VP.loadP (i := 1) rfl rfl ld3 rfl) ?_
      refine VR.pG rfl rfl rfl rfl h3 (VP.fieldP rfl fa97_2) ?_
      refine VR.pG rfl rfl rfl rfl h3 (VP.loadP (i := 0) rfl rfl ld3 rfl) ?_
      refine VR.pG rfl rfl rfl rfl h3 (VP.arith rfl rfl rfl) ?_
      refine VR.p rfl rfl (VP.pickB true rfl h3 rfl) ?_
      exact J [_, _, _, _, _] _ rfl (andT h3)
    · refine VR.skipG rfl rfl rfl rfl h3 ?_
      refine VR.skipG rfl rfl rfl rfl h3 ?_
      refine VR.skipG rfl rfl rfl rfl h3 ?_
      refine VR.skipG rfl rfl rfl rfl h3 ?_
      refine VR.skipG rfl rfl rfl rfl h3 ?_
      refine VR.p rfl rfl (VP.pickB false rfl h3 rfl) ?_
      exact J [_, _, _, _, _] _ rfl (andF h3)
  · refine VR.p rfl rfl (VP.assign rfl) ?_
    refine VR.nil ?_
    rcases ite_or hm with ⟨h4, hm⟩ | ⟨h4, hm⟩
    · refine VW.condT rfl h4 ?_
      refine VW.seq ?_
      refine VW.region ?_
      refine VR.p rfl rfl (VP.assign rfl) ?_
      refine VR.nil ?_
      obtain rfl := Option.some.inj hm
      exact VW.ret ⟨.inl rfl, _, .cons (.tmp _ _ rfl) .nil, [], _, rfl, rfl, rfl⟩
    · have h4 := bf h4
      refine VW.condF rfl h4 ?_
      refine VW.seq ?_
      refine VW.region ?_
      refine VR.p rfl rfl (VP.fieldP rfl fa55_0) ?_
      refine VR.p rfl rfl (VP.loadP (i := 1) rfl rfl ld9 rfl) ?_
      refine VR.p rfl rfl (VP.strop rfl rfl rfl) ?_
      refine VR.p rfl rfl (VP.move rfl) ?_
      refine VR.sc 6 26 (.bool ((!(V.seq t.Key (⟨#[]⟩ : ByteArray))) && (!(V.seq t.Key x.Key)))) (fun K' J => ?_) ?_
      · rcases Bool.eq_false_or_eq_true (!(V.seq t.Key (⟨#[]⟩ : ByteArray))) with h5 | h5
        · refine VR.pG rfl rfl rfl rfl h5 (VP.fieldP rfl fa55_0) ?_
          refine VR.pG rfl rfl rfl rfl h5 (VP.loadP (i := 1) rfl rfl ld9 rfl) ?_
          refine VR.pG rfl rfl rfl rfl h5 (VP.fieldP rfl fa97_0) ?_
          refine VR.pG rfl rfl rfl rfl h5 (VP.loadP (i := 0) rfl rfl ld9 rfl) ?_
          refine VR.pG rfl rfl rfl rfl h5 (VP.strop rfl rfl rfl) ?_
          refine VR.p rfl rfl (VP.pickB true rfl h5 rfl) ?_
          exact J [_, _, _, _, _] _ rfl (andT h5)
        · refine VR.skipG rfl rfl rfl rfl h5 ?_
          refine VR.skipG rfl rfl rfl rfl h5 ?_
          refine VR.skipG rfl rfl rfl rfl h5 ?_
          refine VR.skipG rfl rfl rfl rfl h5 ?_
          refine VR.skipG rfl rfl rfl rfl h5 ?_
          refine VR.p rfl rfl (VP.pickB false rfl h5 rfl) ?_
          exact J [_, _, _, _, _] _ rfl (andF h5)
      · refine VR.p rfl rfl (VP.assign rfl) ?_
        refine VR.nil ?_
        rcases ite_or hm with ⟨h6, hm⟩ | ⟨h6, hm⟩
        · refine VW.condT rfl h6 ?_
          refine VW.seq ?_
          refine VW.region ?_
          refine VR.p rfl rfl (VP.assign rfl) ?_
          refine VR.nil ?_
          obtain rfl := Option.some.inj hm
          exact VW.ret ⟨.inl rfl, _, .cons (.tmp _ _ rfl) .nil, [], _, rfl, rfl, rfl⟩
        · have h6 := bf h6
          refine VW.condF rfl h6 ?_
          refine VW.skip ?_
          refine VW.seq ?_
          refine VW.region ?_
          refine VR.p rfl rfl (VP.fieldP rfl fa55_2) ?_
          refine VR.p rfl rfl (VP.loadP (i := 1) rfl rfl ld4 rfl) ?_
          refine VR.p rfl rfl (VP.move rfl) ?_
          refine VR.sc 6 35 (.bool (t.Any || (V.seq t.Val x.Val))) (fun K' J => ?_) ?_
          · rcases Bool.eq_false_or_eq_true t.Any with h7 | h7
            · refine VR.skipG rfl rfl rfl rfl h7 ?_
              refine VR.skipG rfl rfl rfl rfl h7 ?_
              refine VR.skipG rfl rfl rfl rfl h7 ?_
              refine VR.skipG rfl rfl rfl rfl h7 ?_
              refine VR.skipG rfl rfl rfl rfl h7 ?_
              refine VR.p rfl rfl (VP.pickB true rfl h7 rfl) ?_
              exact J [_, _, _, _, _] _ rfl (orT h7)
            · refine VR.pG rfl rfl rfl rfl h7 (VP.fieldP rfl fa55_1) ?_
              refine VR.pG rfl rfl rfl rfl h7 (VP.loadP (i := 1) rfl rfl ld9 rfl) ?_
              refine VR.pG rfl rfl rfl rfl h7 (VP.fieldP rfl fa97_1) ?_
              refine VR.pG rfl rfl rfl rfl h7 (VP.loadP (i := 0) rfl rfl ld9 rfl) ?_
              refine VR.pG rfl rfl rfl rfl h7 (VP.strop rfl rfl rfl) ?_
              refine VR.p rfl rfl (VP.pickB false rfl h7 rfl) ?_
              exact J [_, _, _, _, _] _ rfl (orF h7)
          · refine VR.p rfl rfl (VP.assign rfl) ?_
            refine VR.nil ?_
            obtain rfl := Option.some.inj hm
            exact VW.ret ⟨.inl rfl, _, .cons (.tmp _ _ rfl) .nil, [], _, rfl, rfl, rfl⟩

/-! trireme/taints.borne -/
def taints_borne.l1 (x : T_api_Taint) : List T_api_Toleration → Nat → Option (Out Bool Unit)
  | [], k => some (Out.go ())
  | x2 :: l2, k =>
    (taints_Bears x2 x).bind fun r =>
    if r = true then
      some (Out.ret true)
    else
      taints_borne.l1 x l2 (k + 1)
def taints_borne (l : List T_api_Toleration) (x : T_api_Taint) : Option Bool :=
  (taints_borne.l1 x l 0).bind fun o =>
  o.on fun j =>
  some false
theorem taints_borne_ok (l : List T_api_Toleration) (x : T_api_Taint) (r : Bool) (hm : taints_borne l x = some r) :
    VC Try.prog 117 [.list 55 (List.map T_api_Toleration.vv l), T_api_Taint.vv x] [] (fun zx zH => zx = .bool r ∧ zH = []) := by
  unfold taints_borne at hm
  refine VC.run (c := _) (rs := [.tmp 4]) Try.func117 rfl rfl rfl ?_
  refine VW.seq ?_
  refine VW.region ?_
  refine VR.cons rfl rfl (VO.box rfl rfl fun b => ?_)
  refine VR.p rfl rfl (VP.assign rfl) ?_
  refine VR.nil ?_
  refine VW.seq ?_
  refine VW.seq ?_
  refine VW.region ?_
  refine VR.p rfl rfl (VP.move rfl) ?_
  refine VR.p rfl rfl (VP.lenT T_api_Toleration.vv rfl Try.underlying30) ?_
  refine VR.p rfl rfl (VP.move rfl) ?_
  refine VR.nil ?_
  refine VW.lenL 7 rfl fun h4 => ?_
  have h4 := max_map h4
  obtain ⟨o, h2, h3⟩ := bnd hm
  refine VW.joinE (fun (q : Unit) => o = Out.go q) (fun (j : Unit) (gg : Unit) => []) (fun (j : Unit) (gg : Unit) => []) ?_ ?_
  · have hm := h2
    refine VW.block (VW.loop (l.length + 1) ?_)
    refine VL.eachS (l := l) (R := _) (fun zl zk (zs : Unit) => taints_borne.l1 x zl zk) (fun (k : Nat) (zs : Unit) (zg : Unit) => [(3, .ptr b 0), (7, .list 55 (List.map T_api_Toleration.vv l)), (8, .int .i64 (l.length : Int)), (9, .int .i64 (k : Int))]) (fun (k : Nat) (zs : Unit) (zg : Unit) => [.box b 97 (T_api_Taint.cells x)]) () () (Shift.pick [0] rfl ⟨rfl, rfl, rfl, rfl, trivial⟩) h2 ?_ ?_
    · rintro k _ _ hk hm
      rw [taints_borne.l1] at hm
      refine VW.seq ?_
      refine VW.region ?_
      refine VR.p rfl rfl (VP.arith rfl rfl rfl) ?_
      refine VR.nil ?_
      refine VW.seq ?_
      refine VW.condF rfl (k_end hk) ?_
      refine VW.exit ?_
      exact ⟨(), (), (Option.some.inj hm).symm, (Shift.pick [] rfl trivial)⟩
    · rintro k x2 l2 _ _ h5 hm
      rw [taints_borne.l1] at hm
      refine VW.seq ?_
      refine VW.region ?_
      refine VR.p rfl rfl (VP.arith rfl rfl rfl) ?_
      refine VR.nil ?_
      refine VW.seq ?_
      refine VW.condT rfl (k_lt h5) ?_
      refine VW.skip ?_
      refine VW.seq ?_
      refine VW.block ?_
      refine VW.seq ?_
      refine VW.region ?_
      refine VR.p rfl rfl (VP.glK T_api_Toleration.vv rfl rfl el30 h5) ?_
      refine VR.p rfl rfl (VP.loadE rfl ld55 rfl) ?_
      refine VR.cons rfl rfl (VO.alloc z55 fun b2 => ?_)
      refine VR.cons rfl rfl (VO.storeP (i := 0) rfl rfl rfl ld55 rfl rfl rfl ?_)
      refine VR.nil ?_
      refine VW.seq ?_
      refine VW.region ?_
      refine VR.p rfl rfl (VP.loadP (i := 0) rfl rfl ld55 rfl) ?_
      refine VR.p rfl rfl (VP.loadP (i := 1) rfl rfl ld97 rfl) ?_
      obtain ⟨r, h7, hm⟩ := bnd hm
      refine VR.cons rfl rfl (VO.callK 0 rfl fn130 rfl (taints_Bears_ok x2 x r h7) fun _ _ h9 => ?_)
      obtain ⟨rfl, rfl⟩ := h9
      refine VR.nil ?_
      rcases ite_or hm with ⟨h8, hm⟩ | ⟨h8, hm⟩
      · refine VW.condT rfl h8 ?_
        refine VW.seq ?_
        refine VW.region ?_
        refine VR.p rfl rfl (VP.assign rfl) ?_
        refine VR.nil ?_
        obtain rfl := Option.some.inj hm
        have hm := Out.ret_on h3
        obtain rfl := Option.some.inj hm
        exact VW.ret ⟨.inl rfl, _, .cons (.tmp _ _ rfl) .nil, [], _, rfl, rfl, rfl⟩
      · have h8 := bf h8
        refine VW.condF rfl h8 ?_
        refine VW.skip ?_
        refine VW.region ?_
        refine VR.p rfl rfl (VP.arith rfl rfl rfl) ?_
        refine VR.p rfl rfl (VP.move rfl) ?_
        refine VR.nil ?_
        exact ⟨(), (), hm, (Shift.pick [1] rfl ⟨rfl, rfl, rfl, congrArg some (k_next h5 h4), trivial⟩)⟩
  · rintro j _ rfl
    have hm := Out.go_on h3
    refine VW.seq ?_
    refine VW.region ?_
    refine VR.p rfl rfl (VP.assign rfl) ?_
    refine VR.nil ?_
    obtain rfl := Option.some.inj hm
    exact VW.ret ⟨.inl rfl, _, .cons (.tmp _ _ rfl) .nil, [], _, rfl, rfl, rfl⟩

/-! trireme/taints.Unborne$1 -/
def taints_Unborne_1 (x : T_api_Taint) (a : Int) (a2 : List T_api_Toleration) : Option Bool :=
  (taints_of x a).bind fun r =>
  (if r = true then (taints_borne a2 x).bind fun r2 =>
  some (!r2) else some false).bind fun c =>
  some c
theorem taints_Unborne_1_ok (x : T_api_Taint) (a : Int) (a2 : List T_api_Toleration) (b : Nat) (b2 : Nat) (r : Bool) (hm : taints_Unborne_1 x a a2 = some r) :
    VC Try.prog 115 [T_api_Taint.vv x, .ptr b 0, .ptr b2 0] [.box b 3 [.int .i64 a], .box b2 30 [.list 55 (List.map T_api_Toleration.vv a2)]] (fun zx zH => zx = .bool r ∧ zH = [.box b 3 [.int .i64 a], .box b2 30 [.list 55 (List.map T_api_Toleration.vv a2)]]) := by
  unfold taints_Unborne_1 at hm
  refine VC.run (c := _) (rs := [.tmp 4]) Try.func115 rfl rfl rfl ?_
  refine VW.seq ?_
  refine VW.region ?_
  refine VR.cons rfl rfl (VO.box rfl rfl fun b3 => ?_)
  refine VR.p rfl rfl (VP.assign rfl) ?_
  refine VR.nil ?_
  refine VW.seq ?_
  refine VW.region ?_
  refine VR.p rfl rfl (VP.loadP (i := 0) rfl rfl ld97 rfl) ?_
  refine VR.p rfl rfl (VP.loadP (i := 1) rfl rfl ld3 rfl) ?_
  obtain ⟨r, h2, hm⟩ := bnd hm
  refine VR.cons rfl rfl (VO.callK 0 rfl fn116 rfl (taints_of_ok x a r h2) fun _ _ h7 => ?_)
  obtain ⟨rfl, rfl⟩ := h7
  refine VR.p rfl rfl (VP.move rfl) ?_
  obtain ⟨c, h6, hm⟩ := bnd hm
  refine VR.sc 5 13 (.bool c) (fun K' J => ?_) ?_
  · have hm := h6
    rcases ite_or hm with ⟨h3, hm⟩ | ⟨h3, hm⟩
    · refine VR.pG rfl rfl rfl rfl h3 (VP.loadP (i := 2) rfl rfl ld30 rfl) ?_
      refine VR.pG rfl rfl rfl rfl h3 (VP.loadP (i := 0) rfl rfl ld97 rfl) ?_
      obtain ⟨r2, h4, hm⟩ := bnd hm
      refine VR.consG rfl rfl rfl rfl h3 (VO.callK 0 rfl fn117 rfl (taints_borne_ok a2 x r2 h4) fun _ _ h5 => ?_)
      obtain ⟨rfl, rfl⟩ := h5
      refine VR.pG rfl rfl rfl rfl h3 (VP.not rfl) ?_
      refine VR.p rfl rfl (VP.pickB true rfl h3 rfl) ?_
      exact J [_, _, _, _] _ rfl (congrArg VV.bool (Option.some.inj hm))
    · have h3 := bf h3
      refine VR.skipG rfl rfl rfl rfl h3 ?_
      refine VR.skipG rfl rfl rfl rfl h3 ?_
      refine VR.skipG rfl rfl rfl rfl h3 ?_
      refine VR.skipG rfl rfl rfl rfl h3 ?_
      refine VR.p rfl rfl (VP.pickB false rfl h3 rfl) ?_
      exact J [_, _, _, _] _ rfl (congrArg VV.bool (Option.some.inj hm))
  · refine VR.p rfl rfl (VP.assign rfl) ?_
    refine VR.nil ?_
    obtain rfl := Option.some.inj hm
    exact VW.ret ⟨.inl rfl, _, .cons (.tmp _ _ rfl) .nil, [1, 1], _, rfl, rfl, rfl⟩

/-! trireme/taints.some -/
def taints_some_taints_Unborne_1.l1 (c : Int) (c2 : List T_api_Toleration) : List T_api_Taint → Nat → (List T_api_Taint) → Option (List T_api_Taint)
  | [], k, out2 => some out2
  | x :: l2, k, out2 =>
    (taints_Unborne_1 x c c2).bind fun r =>
    if r = true then
      (V.ap 40 out2 [x]).bind fun out4 =>
      taints_some_taints_Unborne_1.l1 c c2 l2 (k + 1) out4
    else
      taints_some_taints_Unborne_1.l1 c c2 l2 (k + 1) out2
def taints_some_taints_Unborne_1 (l : List T_api_Taint) (c : Int) (c2 : List T_api_Toleration) : Option (List T_api_Taint) :=
  (taints_some_taints_Unborne_1.l1 c c2 l 0 ([] : List T_api_Taint)).bind fun out32 =>
  some out32
theorem taints_some_taints_Unborne_1_ok (l : List T_api_Taint) (c : Int) (c2 : List T_api_Toleration) (b : Nat) (b2 : Nat) (r : List T_api_Taint) (hm : taints_some_taints_Unborne_1 l c c2 = some r) :
    VC Try.prog 114 [.list 97 (List.map T_api_Taint.vv l), .clo (.func 115) [] [.ptr b 0, .ptr b2 0]] [.box b 3 [.int .i64 c], .box b2 30 [.list 55 (List.map T_api_Toleration.vv c2)]] (fun zx zH => ∃ (ob0 : Option Nat) (cap0 : Nat), zx = .sl ob0 (List.map T_api_Taint.vv r).length cap0 ∧ zH = [.row ob0 97 cap0 (List.map T_api_Taint.vv r), .box b 3 [.int .i64 c], .box b2 30 [.list 55 (List.map T_api_Toleration.vv c2)]]) := by
  unfold taints_some_taints_Unborne_1 at hm
  refine VC.run (c := _) (rs := [.tmp 4]) Try.func114 rfl rfl rfl ?_
  refine VW.seq ?_
  refine VW.region ?_
  refine VR.p rfl rfl (VP.assign rfl) ?_
  refine VR.nil ?_
  refine VW.seq ?_
  refine VW.region ?_
  refine VR.p rfl rfl (VP.assign rfl) ?_
  refine VR.nil ?_
  refine VW.seq ?_
  refine VW.seq ?_
  refine VW.region ?_
  refine VR.p rfl rfl (VP.move rfl) ?_
  refine VR.p rfl rfl (VP.lenT T_api_Taint.vv rfl Try.underlying25) ?_
  refine VR.p rfl rfl (VP.move rfl) ?_
  refine VR.nil ?_
  refine VW.lenL 8 rfl fun h5 => ?_
  have h5 := max_map h5
  obtain ⟨o, h3, h4⟩ := bnd hm
  refine VW.joinE (fun (q : List T_api_Taint) => q = o) (fun (out32 : List T_api_Taint) (gg : Option Nat × Nat) => [(5, .sl gg.1 (List.map T_api_Taint.vv out32).length gg.2)]) (fun (out32 : List T_api_Taint) (gg : Option Nat × Nat) => [.row gg.1 97 gg.2 (List.map T_api_Taint.vv out32), .box b 3 [.int .i64 c], .box b2 30 [.list 55 (List.map T_api_Toleration.vv c2)]]) ?_ ?_
  · have hm := h3
    refine VW.block (VW.loop (l.length + 1) ?_)
    refine VL.eachS (l := l) (R := _) (fun zl zk (zs : List T_api_Taint) => taints_some_taints_Unborne_1.l1 c c2 zl zk zs) (fun (k : Nat) (zs : List T_api_Taint) (zg : Option Nat × Nat) => [(1, .clo (.func 115) [] [.ptr b 0, .ptr b2 0]), (5, .sl zg.1 (List.map T_api_Taint.vv zs).length zg.2), (8, .list 97 (List.map T_api_Taint.vv l)), (9, .int .i64 (l.length : Int)), (10, .int .i64 (k : Int))]) (fun (k : Nat) (zs : List T_api_Taint) (zg : Option Nat × Nat) => [.row zg.1 97 zg.2 (List.map T_api_Taint.vv zs), .box b 3 [.int .i64 c], .box b2 30 [.list 55 (List.map T_api_Toleration.vv c2)]]) ([] : List T_api_Taint) (none, 0) (Shift.trans (Shift.nilRow 97) (Shift.pick [0, 0, 0] rfl ⟨rfl, rfl, rfl, rfl, rfl, trivial⟩)) h3 ?_ ?_
    · rintro k out2 ⟨ob2, cap2⟩ hk hm
      rw [taints_some_taints_Unborne_1.l1] at hm
      refine VW.seq ?_
      refine VW.region ?_
      refine VR.p rfl rfl (VP.arith rfl rfl rfl) ?_
      refine VR.nil ?_
      refine VW.seq ?_
      refine VW.condF rfl (k_end hk) ?_
      refine VW.exit ?_
      exact ⟨out2, (ob2, cap2), Option.some.inj hm, (Shift.pick [0, 0, 0] rfl ⟨rfl, trivial⟩)⟩
    · rintro k x l2 out2 ⟨ob2, cap2⟩ h6 hm
      rw [taints_some_taints_Unborne_1.l1] at hm
      refine VW.seq ?_
      refine VW.region ?_
      refine VR.p rfl rfl (VP.arith rfl rfl rfl) ?_
      refine VR.nil ?_
      refine VW.seq ?_
      refine VW.condT rfl (k_lt h6) ?_
      refine VW.skip ?_
      refine VW.seq ?_
      refine VW.block ?_
      refine VW.seq ?_
      refine VW.region ?_
      refine VR.p rfl rfl (VP.glK T_api_Taint.vv rfl rfl el25 h6) ?_
      refine VR.p rfl rfl (VP.loadE rfl ld97 rfl) ?_
      refine VR.cons rfl rfl (VO.alloc z97 fun b3 => ?_)
      refine VR.cons rfl rfl (VO.storeP (i := 0) rfl rfl rfl ld97 rfl rfl rfl ?_)
      refine VR.nil ?_
      refine VW.seq ?_
      refine VW.region ?_
      refine VR.p rfl rfl (VP.move rfl) ?_
      refine VR.p rfl rfl (VP.loadP (i := 0) rfl rfl ld97 rfl) ?_
      obtain ⟨r, h8, hm⟩ := bnd hm
      refine VR.shift (Shift.mem [2, 2, 0, 0] rfl) ?_
      refine VR.cons rfl rfl (VO.callK 2 rfl fn115 rfl (taints_Unborne_1_ok x c c2 b b2 r h8) fun _ _ h12 => ?_)
      obtain ⟨rfl, rfl⟩ := h12
      refine VR.nil ?_
      rcases ite_or hm with ⟨h9, hm⟩ | ⟨h9, hm⟩
      · refine VW.condT rfl h9 ?_
        refine VW.region ?_
        refine VR.p rfl rfl (VP.move rfl) ?_
        refine VR.p rfl rfl (VP.loadP (i := 2) rfl rfl ld97 rfl) ?_
        refine VR.cons rfl rfl (VO.buildSlice ap25 rfl rfl rfl rfl rfl fun b4 => ?_)
        obtain ⟨out4, h11, hm⟩ := bnd hm
        refine VR.cons rfl rfl (VO.apT 4 T_api_Taint.vv (l := out2) (l2 := [x]) ap25 rfl rfl (sT_row 0 T_api_Taint.vv el25 rfl rfl) h11 fun ob4 cap4 => ?_)
        refine VR.p rfl rfl (VP.assign rfl) ?_
        refine VR.nil ?_
        refine VW.region ?_
        refine VR.p rfl rfl (VP.arith rfl rfl rfl) ?_
        refine VR.p rfl rfl (VP.move rfl) ?_
        refine VR.nil ?_
        exact ⟨out4, (ob4, cap4), hm, (Shift.pick [4, 1, 1] rfl ⟨rfl, rfl, rfl, rfl, congrArg some (k_next h6 h5), trivial⟩)⟩
      · have h9 := bf h9
        refine VW.condF rfl h9 ?_
        refine VW.skip ?_
        refine VW.region ?_
        refine VR.p rfl rfl (VP.arith rfl rfl rfl) ?_
        refine VR.p rfl rfl (VP.move rfl) ?_
        refine VR.nil ?_
        exact ⟨out2, (ob2, cap2), hm, (Shift.pick [3, 0, 0] rfl ⟨rfl, rfl, rfl, rfl, congrArg some (k_next h6 h5), trivial⟩)⟩
  · rintro out32 ⟨ob3, cap3⟩ rfl
    have hm := h4
    refine VW.seq ?_
    refine VW.region ?_
    refine VR.p rfl rfl (VP.move rfl) ?_
    refine VR.p rfl rfl (VP.assign rfl) ?_
    refine VR.nil ?_
    obtain rfl := Option.some.inj hm
    exact VW.ret ⟨.inl rfl, _, .cons (.tmp _ _ rfl) .nil, [0, 0, 0], _, rfl, ob3, cap3, rfl, rfl⟩

/-! trireme/taints.Unborne -/
def taints_Unborne (l : List T_api_Toleration) (taints : List T_api_Taint) (effect : Int) : Option (List T_api_Taint) :=
  (taints_some_taints_Unborne_1 taints effect l).bind fun r =>
  some r
theorem taints_Unborne_ok (l : List T_api_Toleration) (taints : List T_api_Taint) (effect : Int) (r : List T_api_Taint) (hm : taints_Unborne l taints effect = some r) :
    VC Try.prog 93 [.list 55 (List.map T_api_Toleration.vv l), .list 97 (List.map T_api_Taint.vv taints), .int .i64 effect] [] (fun zx zH => zx = .list 97 (List.map T_api_Taint.vv r) ∧ zH = []) := by
  unfold taints_Unborne at hm
  refine VC.run (c := _) (rs := [.tmp 6]) Try.func93 rfl rfl rfl ?_
  refine VW.seq ?_
  refine VW.region ?_
  refine VR.cons rfl rfl (VO.box rfl rfl fun b => ?_)
  refine VR.cons rfl rfl (VO.box rfl rfl fun b2 => ?_)
  refine VR.p rfl rfl (VP.assign rfl) ?_
  refine VR.nil ?_
  refine VW.seq ?_
  refine VW.region ?_
  refine VR.p rfl rfl (VP.move rfl) ?_
  refine VR.p rfl rfl (VP.makeFunc rfl rfl) ?_
  obtain ⟨r, h3, hm⟩ := bnd hm
  refine VR.cons rfl rfl (VO.callK 2 rfl fn114 rfl (taints_some_taints_Unborne_1_ok taints effect l b2 b r h3) fun _ _ h5 => ?_)
  obtain ⟨ob, cap, rfl, rfl⟩ := h5
  refine VR.shift (Shift.freezeE 0 [(9, .list 97 (List.map T_api_Taint.vv r))] rfl ⟨⟨_, rfl, .here _ rfl⟩, trivial⟩ (FzH.refl _)) ?_
  refine VR.p rfl rfl (VP.assign rfl) ?_
  refine VR.nil ?_
  obtain rfl := Option.some.inj hm
  exact VW.ret ⟨.inl rfl, _, .cons (.tmp _ _ rfl) .nil, [], _, rfl, rfl, rfl⟩

/-! trireme/taints.Allows -/
def taints_Allows (l : List T_api_Toleration) (taints : List T_api_Taint) : Option Bool :=
  (taints_Unborne l taints (1 : Int)).bind fun r =>
  (taints_Unborne l taints (3 : Int)).bind fun r2 =>
  some ((IntKind.i64.wrap ((r.length : Int) + (r2.length : Int))) == (0 : Int))
theorem taints_Allows_ok (l : List T_api_Toleration) (taints : List T_api_Taint) (r : Bool) (hm : taints_Allows l taints = some r) :
    VC Try.prog 57 [.list 55 (List.map T_api_Toleration.vv l), .list 97 (List.map T_api_Taint.vv taints)] [] (fun zx zH => zx = .bool r ∧ zH = []) := by
  unfold taints_Allows at hm
  refine VC.run (c := _) (rs := [.tmp 4]) Try.func57 rfl rfl rfl ?_
  refine VW.seq ?_
  refine VW.region ?_
  refine VR.p rfl rfl (VP.assign rfl) ?_
  refine VR.nil ?_
  refine VW.seq ?_
  refine VW.region ?_
  refine VR.p rfl rfl (VP.move rfl) ?_
  refine VR.p rfl rfl (VP.move rfl) ?_
  obtain ⟨r, h1, hm⟩ := bnd hm
  refine VR.cons rfl rfl (VO.callK 0 rfl fn93 rfl (taints_Unborne_ok l taints (1 : Int) r h1) fun _ _ h4 => ?_)
  obtain ⟨rfl, rfl⟩ := h4
  refine VR.p rfl rfl (VP.lenT T_api_Taint.vv rfl Try.underlying25) ?_
  refine VR.p rfl rfl (VP.move rfl) ?_
  refine VR.p rfl rfl (VP.move rfl) ?_
  obtain ⟨r2, h2, hm⟩ := bnd hm
  refine VR.cons rfl rfl (VO.callK 0 rfl fn93 rfl (taints_Unborne_ok l taints (3 : Int) r2 h2) fun _ _ h3 => ?_)
  obtain ⟨rfl, rfl⟩ := h3
  refine VR.p rfl rfl (VP.lenT T_api_Taint.vv rfl Try.underlying25) ?_
  refine VR.p rfl rfl (VP.arith rfl rfl rfl) ?_
  refine VR.p rfl rfl (VP.arith rfl rfl rfl) ?_
  refine VR.p rfl rfl (VP.assign rfl) ?_
  refine VR.nil ?_
  obtain rfl := Option.some.inj hm
  exact VW.ret ⟨.inl rfl, _, .cons (.tmp _ _ rfl) .nil, [], _, rfl, rfl, rfl⟩

/-! trireme/suit.Place -/
def suit_Place (m : T_api_Machine) (p : T_api_Pod) : Option Int :=
  if (!m.Ready) = true then
    some (1 : Int)
  else
    (labels_Has m.Labels p.Select).bind fun r =>
    if (!r) = true then
      some (4 : Int)
    else
      (labels_All m.Labels p.Terms).bind fun r2 =>
      if (!r2) = true then
        some (5 : Int)
      else
        (taints_Allows p.Bears m.Taints).bind fun r3 =>
        if (!r3) = true then
          some (6 : Int)
        else
          some (0 : Int)
theorem suit_Place_ok (m : T_api_Machine) (p : T_api_Pod) (r : Int) (hm : suit_Place m p = some r) :
    VC Try.prog 24 [T_api_Machine.vv m, T_api_Pod.vv p] [] (fun zx zH => zx = .int .i64 r ∧ zH = []) := by
  unfold suit_Place at hm
  refine VC.run (c := _) (rs := [.tmp 4]) Try.func24 rfl rfl rfl ?_
  refine VW.seq ?_
  refine VW.region ?_
  refine VR.cons rfl rfl (VO.box rfl rfl fun b => ?_)
  refine VR.cons rfl rfl (VO.box rfl rfl fun b2 => ?_)
  refine VR.p rfl rfl (VP.assign rfl) ?_
  refine VR.nil ?_
  refine VW.seq ?_
  refine VW.region ?_
  refine VR.p rfl rfl (VP.assign rfl) ?_
  refine VR.nil ?_
  refine VW.seq ?_
  refine VW.block ?_
  refine VW.seq ?_
  refine VW.region ?_
  refine VR.p rfl rfl (VP.fieldP rfl fa27_5) ?_
  refine VR.p rfl rfl (VP.loadP (i := 1) rfl rfl ld4 rfl) ?_
  refine VR.p rfl rfl (VP.not rfl) ?_
  refine VR.p rfl rfl (VP.assign rfl) ?_
  refine VR.nil ?_
  rcases ite_or hm with ⟨h3, hm⟩ | ⟨h3, hm⟩
  · refine VW.condT rfl h3 ?_
    refine VW.region ?_
    refine VR.p rfl rfl (VP.assign rfl) ?_
    refine VR.nil ?_
    refine VW.seq ?_
    refine VW.region ?_
    refine VR.p rfl rfl (VP.move rfl) ?_
    refine VR.p rfl rfl (VP.assign rfl) ?_
    refine VR.nil ?_
    obtain rfl := Option.some.inj hm
    exact VW.ret ⟨.inl rfl, _, .cons (.tmp _ _ rfl) .nil, [], _, rfl, rfl, rfl⟩
  · have h3 := bf h3
    refine VW.condF rfl h3 ?_
    refine VW.seq ?_
    refine VW.region ?_
    refine VR.p rfl rfl (VP.fieldP rfl fa27_3) ?_
    refine VR.p rfl rfl (VP.loadP (i := 1) rfl rfl ld24 rfl) ?_
    refine VR.p rfl rfl (VP.fieldP rfl fa33_3) ?_
    refine VR.p rfl rfl (VP.loadP (i := 0) rfl rfl ld24 rfl) ?_
    obtain ⟨r, h4, hm⟩ := bnd hm
    refine VR.cons rfl rfl (VO.callK 0 rfl fn55 rfl (labels_Has_ok m.Labels p.Select r h4) fun _ _ h12 => ?_)
    obtain ⟨rfl, rfl⟩ := h12
    refine VR.p rfl rfl (VP.not rfl) ?_
    refine VR.p rfl rfl (VP.assign rfl) ?_
    refine VR.nil ?_
    rcases ite_or hm with ⟨h5, hm⟩ | ⟨h5, hm⟩
    · refine VW.condT rfl h5 ?_
      refine VW.region ?_
      refine VR.p rfl rfl (VP.assign rfl) ?_
      refine VR.nil ?_
      refine VW.seq ?_
      refine VW.region ?_
      refine VR.p rfl rfl (VP.move rfl) ?_
      refine VR.p rfl rfl (VP.assign rfl) ?_
      refine VR.nil ?_
      obtain rfl := Option.some.inj hm
      exact VW.ret ⟨.inl rfl, _, .cons (.tmp _ _ rfl) .nil, [], _, rfl, rfl, rfl⟩
    · have h5 := bf h5
      refine VW.condF rfl h5 ?_
      refine VW.seq ?_
      refine VW.region ?_
      refine VR.p rfl rfl (VP.fieldP rfl fa27_3) ?_
      refine VR.p rfl rfl (VP.loadP (i := 1) rfl rfl ld24 rfl) ?_
      refine VR.p rfl rfl (VP.fieldP rfl fa33_4) ?_
      refine VR.p rfl rfl (VP.loadP (i := 0) rfl rfl ld29 rfl) ?_
      obtain ⟨r2, h6, hm⟩ := bnd hm
      refine VR.cons rfl rfl (VO.callK 0 rfl fn56 rfl (labels_All_ok m.Labels p.Terms r2 h6) fun _ _ h11 => ?_)
      obtain ⟨rfl, rfl⟩ := h11
      refine VR.p rfl rfl (VP.not rfl) ?_
      refine VR.p rfl rfl (VP.assign rfl) ?_
      refine VR.nil ?_
      rcases ite_or hm with ⟨h7, hm⟩ | ⟨h7, hm⟩
      · refine VW.condT rfl h7 ?_
        refine VW.region ?_
        refine VR.p rfl rfl (VP.assign rfl) ?_
        refine VR.nil ?_
        refine VW.seq ?_
        refine VW.region ?_
        refine VR.p rfl rfl (VP.move rfl) ?_
        refine VR.p rfl rfl (VP.assign rfl) ?_
        refine VR.nil ?_
        obtain rfl := Option.some.inj hm
        exact VW.ret ⟨.inl rfl, _, .cons (.tmp _ _ rfl) .nil, [], _, rfl, rfl, rfl⟩
      · have h7 := bf h7
        refine VW.condF rfl h7 ?_
        refine VW.seq ?_
        refine VW.region ?_
        refine VR.p rfl rfl (VP.fieldP rfl fa33_5) ?_
        refine VR.p rfl rfl (VP.loadP (i := 0) rfl rfl ld30 rfl) ?_
        refine VR.p rfl rfl (VP.fieldP rfl fa27_4) ?_
        refine VR.p rfl rfl (VP.loadP (i := 1) rfl rfl ld25 rfl) ?_
        obtain ⟨r3, h8, hm⟩ := bnd hm
        refine VR.cons rfl rfl (VO.callK 0 rfl fn57 rfl (taints_Allows_ok p.Bears m.Taints r3 h8) fun _ _ h10 => ?_)
        obtain ⟨rfl, rfl⟩ := h10
        refine VR.p rfl rfl (VP.not rfl) ?_
        refine VR.p rfl rfl (VP.assign rfl) ?_
        refine VR.nil ?_
        rcases ite_or hm with ⟨h9, hm⟩ | ⟨h9, hm⟩
        · refine VW.condT rfl h9 ?_
          refine VW.region ?_
          refine VR.p rfl rfl (VP.assign rfl) ?_
          refine VR.nil ?_
          refine VW.seq ?_
          refine VW.region ?_
          refine VR.p rfl rfl (VP.move rfl) ?_
          refine VR.p rfl rfl (VP.assign rfl) ?_
          refine VR.nil ?_
          obtain rfl := Option.some.inj hm
          exact VW.ret ⟨.inl rfl, _, .cons (.tmp _ _ rfl) .nil, [], _, rfl, rfl, rfl⟩
        · have h9 := bf h9
          refine VW.condF rfl h9 ?_
          refine VW.skip ?_
          refine VW.seq ?_
          refine VW.region ?_
          refine VR.p rfl rfl (VP.move rfl) ?_
          refine VR.p rfl rfl (VP.assign rfl) ?_
          refine VR.nil ?_
          obtain rfl := Option.some.inj hm
          exact VW.ret ⟨.inl rfl, _, .cons (.tmp _ _ rfl) .nil, [], _, rfl, rfl, rfl⟩

/-! trireme/suit.Suits -/
def suit_Suits (m : T_api_Machine) (bs : List T_api_Bound) (p : T_api_Pod) : Option Int :=
  (suit_Place m p).bind fun r =>
  if (r == (1 : Int)) = true then
    some r
  else
    if (r == (4 : Int)) = true then
      some r
    else
      if (r == (5 : Int)) = true then
        some r
      else
        if (r == (6 : Int)) = true then
          some r
        else
          (suit_Room m bs p).bind fun r2 =>
          some r2
theorem suit_Suits_ok (m : T_api_Machine) (bs : List T_api_Bound) (p : T_api_Pod) (r : Int) (hm : suit_Suits m bs p = some r) :
    VC Try.prog 17 [T_api_Machine.vv m, .list 49 (List.map T_api_Bound.vv bs), T_api_Pod.vv p] [] (fun zx zH => zx = .int .i64 r ∧ zH = []) := by
  unfold suit_Suits at hm
  refine VC.run (c := _) (rs := [.tmp 6]) Try.func17 rfl rfl rfl ?_
  refine VW.seq ?_
  refine VW.region ?_
  refine VR.cons rfl rfl (VO.box rfl rfl fun b => ?_)
  refine VR.cons rfl rfl (VO.box rfl rfl fun b2 => ?_)
  refine VR.p rfl rfl (VP.assign rfl) ?_
  refine VR.nil ?_
  refine VW.seq ?_
  refine VW.region ?_
  refine VR.p rfl rfl (VP.loadP (i := 1) rfl rfl ld27 rfl) ?_
  refine VR.p rfl rfl (VP.loadP (i := 0) rfl rfl ld33 rfl) ?_
  obtain ⟨r, h3, hm⟩ := bnd hm
  refine VR.cons rfl rfl (VO.callK 0 rfl fn24 rfl (suit_Place_ok m p r h3) fun _ _ h10 => ?_)
  obtain ⟨rfl, rfl⟩ := h10
  refine VR.p rfl rfl (VP.assign rfl) ?_
  refine VR.nil ?_
  refine VW.seq ?_
  refine VW.seq ?_
  refine VW.region ?_
  refine VR.p rfl rfl (VP.move rfl) ?_
  refine VR.nil ?_
  refine VW.block ?_
  refine VW.seq ?_
  refine VW.block ?_
  refine VW.block ?_
  refine VW.block ?_
  refine VW.seq ?_
  refine VW.seq ?_
  refine VW.seq ?_
  refine VW.region ?_
  refine VR.p rfl rfl (VP.arith rfl rfl rfl) ?_
  refine VR.p rfl rfl (VP.assign rfl) ?_
  refine VR.nil ?_
  rcases ite_or hm with ⟨h4, hm⟩ | ⟨h4, hm⟩
  · refine VW.condT rfl h4 ?_
    refine VW.exit ?_
    refine VW.seq ?_
    refine VW.seq ?_
    refine VW.region ?_
    refine VR.p rfl rfl (VP.move rfl) ?_
    refine VR.p rfl rfl (VP.assign rfl) ?_
    refine VR.nil ?_
    obtain rfl := Option.some.inj hm
    exact VW.ret ⟨.inl rfl, _, .cons (.tmp _ _ rfl) .nil, [], _, rfl, rfl, rfl⟩
  · have h4 := bf h4
    refine VW.condF rfl h4 ?_
    refine VW.skip ?_
    refine VW.seq ?_
    refine VW.seq ?_
    refine VW.region ?_
    refine VR.p rfl rfl (VP.arith rfl rfl rfl) ?_
    refine VR.p rfl rfl (VP.assign rfl) ?_
    refine VR.nil ?_
    rcases ite_or hm with ⟨h5, hm⟩ | ⟨h5, hm⟩
    · refine VW.condT rfl h5 ?_
      refine VW.exit ?_
      refine VW.seq ?_
      refine VW.seq ?_
      refine VW.region ?_
      refine VR.p rfl rfl (VP.move rfl) ?_
      refine VR.p rfl rfl (VP.assign rfl) ?_
      refine VR.nil ?_
      obtain rfl := Option.some.inj hm
      exact VW.ret ⟨.inl rfl, _, .cons (.tmp _ _ rfl) .nil, [], _, rfl, rfl, rfl⟩
    · have h5 := bf h5
      refine VW.condF rfl h5 ?_
      refine VW.skip ?_
      refine VW.seq ?_
      refine VW.seq ?_
      refine VW.region ?_
      refine VR.p rfl rfl (VP.arith rfl rfl rfl) ?_
      refine VR.p rfl rfl (VP.assign rfl) ?_
      refine VR.nil ?_
      rcases ite_or hm with ⟨h6, hm⟩ | ⟨h6, hm⟩
      · refine VW.condT rfl h6 ?_
        refine VW.skip ?_
        refine VW.condT rfl h6 ?_
        refine VW.exit ?_
        refine VW.seq ?_
        refine VW.seq ?_
        refine VW.region ?_
        refine VR.p rfl rfl (VP.move rfl) ?_
        refine VR.p rfl rfl (VP.assign rfl) ?_
        refine VR.nil ?_
        obtain rfl := Option.some.inj hm
        exact VW.ret ⟨.inl rfl, _, .cons (.tmp _ _ rfl) .nil, [], _, rfl, rfl, rfl⟩
      · have h6 := bf h6
        refine VW.condF rfl h6 ?_
        refine VW.region ?_
        refine VR.p rfl rfl (VP.arith rfl rfl rfl) ?_
        refine VR.p rfl rfl (VP.assign rfl) ?_
        refine VR.nil ?_
        rcases ite_or hm with ⟨h7, hm⟩ | ⟨h7, hm⟩
        · refine VW.condT rfl h7 ?_
          refine VW.exit ?_
          refine VW.seq ?_
          refine VW.seq ?_
          refine VW.region ?_
          refine VR.p rfl rfl (VP.move rfl) ?_
          refine VR.p rfl rfl (VP.assign rfl) ?_
          refine VR.nil ?_
          obtain rfl := Option.some.inj hm
          exact VW.ret ⟨.inl rfl, _, .cons (.tmp _ _ rfl) .nil, [], _, rfl, rfl, rfl⟩
        · have h7 := bf h7
          refine VW.condF rfl h7 ?_
          refine VW.skip ?_
          refine VW.exit ?_
          refine VW.seq ?_
          refine VW.region ?_
          refine VR.p rfl rfl (VP.loadP (i := 1) rfl rfl ld27 rfl) ?_
          refine VR.p rfl rfl (VP.move rfl) ?_
          refine VR.p rfl rfl (VP.loadP (i := 0) rfl rfl ld33 rfl) ?_
          obtain ⟨r2, h8, hm⟩ := bnd hm
          refine VR.cons rfl rfl (VO.callK 0 rfl fn26 rfl (suit_Room_ok m bs p r2 h8) fun _ _ h9 => ?_)
          obtain ⟨rfl, rfl⟩ := h9
          refine VR.p rfl rfl (VP.assign rfl) ?_
          refine VR.nil ?_
          obtain rfl := Option.some.inj hm
          exact VW.ret ⟨.inl rfl, _, .cons (.tmp _ _ rfl) .nil, [], _, rfl, rfl, rfl⟩

/-! trireme/taints.Prefers -/
def taints_Prefers (l : List T_api_Toleration) (taints : List T_api_Taint) : Option Int :=
  (taints_Unborne l taints (2 : Int)).bind fun r =>
  some (r.length : Int)
theorem taints_Prefers_ok (l : List T_api_Toleration) (taints : List T_api_Taint) (r : Int) (hm : taints_Prefers l taints = some r) :
    VC Try.prog 58 [.list 55 (List.map T_api_Toleration.vv l), .list 97 (List.map T_api_Taint.vv taints)] [] (fun zx zH => zx = .int .i64 r ∧ zH = []) := by
  unfold taints_Prefers at hm
  refine VC.run (c := _) (rs := [.tmp 4]) Try.func58 rfl rfl rfl ?_
  refine VW.seq ?_
  refine VW.region ?_
  refine VR.p rfl rfl (VP.assign rfl) ?_
  refine VR.nil ?_
  refine VW.seq ?_
  refine VW.region ?_
  refine VR.p rfl rfl (VP.move rfl) ?_
  refine VR.p rfl rfl (VP.move rfl) ?_
  obtain ⟨r, h1, hm⟩ := bnd hm
  refine VR.cons rfl rfl (VO.callK 0 rfl fn93 rfl (taints_Unborne_ok l taints (2 : Int) r h1) fun _ _ h2 => ?_)
  obtain ⟨rfl, rfl⟩ := h2
  refine VR.p rfl rfl (VP.lenT T_api_Taint.vv rfl Try.underlying25) ?_
  refine VR.p rfl rfl (VP.assign rfl) ?_
  refine VR.nil ?_
  obtain rfl := Option.some.inj hm
  exact VW.ret ⟨.inl rfl, _, .cons (.tmp _ _ rfl) .nil, [], _, rfl, rfl, rfl⟩

/-! trireme/suit.Prefers -/
def suit_Prefers (m : T_api_Machine) (p : T_api_Pod) : Option Int :=
  (taints_Prefers p.Bears m.Taints).bind fun r =>
  some r
theorem suit_Prefers_ok (m : T_api_Machine) (p : T_api_Pod) (r : Int) (hm : suit_Prefers m p = some r) :
    VC Try.prog 25 [T_api_Machine.vv m, T_api_Pod.vv p] [] (fun zx zH => zx = .int .i64 r ∧ zH = []) := by
  unfold suit_Prefers at hm
  refine VC.run (c := _) (rs := [.tmp 4]) Try.func25 rfl rfl rfl ?_
  refine VW.seq ?_
  refine VW.region ?_
  refine VR.cons rfl rfl (VO.box rfl rfl fun b => ?_)
  refine VR.cons rfl rfl (VO.box rfl rfl fun b2 => ?_)
  refine VR.p rfl rfl (VP.assign rfl) ?_
  refine VR.nil ?_
  refine VW.seq ?_
  refine VW.region ?_
  refine VR.p rfl rfl (VP.fieldP rfl fa33_5) ?_
  refine VR.p rfl rfl (VP.loadP (i := 0) rfl rfl ld30 rfl) ?_
  refine VR.p rfl rfl (VP.fieldP rfl fa27_4) ?_
  refine VR.p rfl rfl (VP.loadP (i := 1) rfl rfl ld25 rfl) ?_
  obtain ⟨r, h3, hm⟩ := bnd hm
  refine VR.cons rfl rfl (VO.callK 0 rfl fn58 rfl (taints_Prefers_ok p.Bears m.Taints r h3) fun _ _ h4 => ?_)
  obtain ⟨rfl, rfl⟩ := h4
  refine VR.p rfl rfl (VP.assign rfl) ?_
  refine VR.nil ?_
  obtain rfl := Option.some.inj hm
  exact VW.ret ⟨.inl rfl, _, .cons (.tmp _ _ rfl) .nil, [], _, rfl, rfl, rfl⟩

/-! trireme/triremelaw10.known -/
def law10_known : Option Bool :=
  (suit_Room (⟨(⟨#[109]⟩ : ByteArray), (⟨#[]⟩ : ByteArray), (⟨(1000 : Int), (0 : Int), (0 : Int), (9 : Int), (0 : Int)⟩ : T_api_Res), ([] : List T_api_Label), ([] : List T_api_Taint), true⟩ : T_api_Machine) [(⟨(⟨(⟨#[112]⟩ : ByteArray), (⟨(800 : Int), (0 : Int), (0 : Int), (1 : Int), (0 : Int)⟩ : T_api_Res), ([] : List T_api_Label), ([] : List T_api_Label), ([] : List T_api_Term), ([] : List T_api_Toleration), [(80 : Int)], ([] : List T_api_Label), false, ([] : List T_api_Label), (0 : Int), (0 : Int), (⟨#[]⟩ : ByteArray), false, false, false⟩ : T_api_Pod), (⟨#[109]⟩ : ByteArray)⟩ : T_api_Bound)] (⟨(⟨#[113]⟩ : ByteArray), (⟨(300 : Int), (0 : Int), (0 : Int), (1 : Int), (0 : Int)⟩ : T_api_Res), ([] : List T_api_Label), ([] : List T_api_Label), ([] : List T_api_Term), ([] : List T_api_Toleration), ([] : List Int), ([] : List T_api_Label), false, ([] : List T_api_Label), (0 : Int), (0 : Int), (⟨#[]⟩ : ByteArray), false, false, false⟩ : T_api_Pod)).bind fun r =>
  (if (r == (2 : Int)) = true then (suit_Room (⟨(⟨#[109]⟩ : ByteArray), (⟨#[]⟩ : ByteArray), (⟨(1000 : Int), (0 : Int), (0 : Int), (9 : Int), (0 : Int)⟩ : T_api_Res), ([] : List T_api_Label), ([] : List T_api_Taint), true⟩ : T_api_Machine) [(⟨(⟨(⟨#[112]⟩ : ByteArray), (⟨(800 : Int), (0 : Int), (0 : Int), (1 : Int), (0 : Int)⟩ : T_api_Res), ([] : List T_api_Label), ([] : List T_api_Label), ([] : List T_api_Term), ([] : List T_api_Toleration), [(80 : Int)], ([] : List T_api_Label), false, ([] : List T_api_Label), (0 : Int), (0 : Int), (⟨#[]⟩ : ByteArray), false, false, false⟩ : T_api_Pod), (⟨#[109]⟩ : ByteArray)⟩ : T_api_Bound)] (⟨(⟨#[114]⟩ : ByteArray), (⟨(200 : Int), (0 : Int), (0 : Int), (1 : Int), (0 : Int)⟩ : T_api_Res), ([] : List T_api_Label), ([] : List T_api_Label), ([] : List T_api_Term), ([] : List T_api_Toleration), [(80 : Int)], ([] : List T_api_Label), false, ([] : List T_api_Label), (0 : Int), (0 : Int), (⟨#[]⟩ : ByteArray), false, false, false⟩ : T_api_Pod)).bind fun r2 =>
  some (r2 == (3 : Int)) else some false).bind fun c =>
  (if c = true then (suit_Suits (⟨(⟨#[109]⟩ : ByteArray), (⟨#[]⟩ : ByteArray), (⟨(1000 : Int), (0 : Int), (0 : Int), (9 : Int), (0 : Int)⟩ : T_api_Res), ([] : List T_api_Label), ([] : List T_api_Taint), true⟩ : T_api_Machine) [(⟨(⟨(⟨#[112]⟩ : ByteArray), (⟨(800 : Int), (0 : Int), (0 : Int), (1 : Int), (0 : Int)⟩ : T_api_Res), ([] : List T_api_Label), ([] : List T_api_Label), ([] : List T_api_Term), ([] : List T_api_Toleration), [(80 : Int)], ([] : List T_api_Label), false, ([] : List T_api_Label), (0 : Int), (0 : Int), (⟨#[]⟩ : ByteArray), false, false, false⟩ : T_api_Pod), (⟨#[109]⟩ : ByteArray)⟩ : T_api_Bound)] (⟨(⟨#[115]⟩ : ByteArray), (⟨(200 : Int), (0 : Int), (0 : Int), (1 : Int), (0 : Int)⟩ : T_api_Res), ([] : List T_api_Label), ([] : List T_api_Label), ([] : List T_api_Term), ([] : List T_api_Toleration), ([] : List Int), ([] : List T_api_Label), false, ([] : List T_api_Label), (0 : Int), (0 : Int), (⟨#[]⟩ : ByteArray), false, false, false⟩ : T_api_Pod)).bind fun r3 =>
  some (r3 == (0 : Int)) else some false).bind fun c2 =>
  (if c2 = true then (suit_Suits (⟨(⟨#[109]⟩ : ByteArray), (⟨#[]⟩ : ByteArray), (⟨(1000 : Int), (0 : Int), (0 : Int), (9 : Int), (0 : Int)⟩ : T_api_Res), ([] : List T_api_Label), ([] : List T_api_Taint), true⟩ : T_api_Machine) [(⟨(⟨(⟨#[112]⟩ : ByteArray), (⟨(800 : Int), (0 : Int), (0 : Int), (1 : Int), (0 : Int)⟩ : T_api_Res), ([] : List T_api_Label), ([] : List T_api_Label), ([] : List T_api_Term), ([] : List T_api_Toleration), [(80 : Int)], ([] : List T_api_Label), false, ([] : List T_api_Label), (0 : Int), (0 : Int), (⟨#[]⟩ : ByteArray), false, false, false⟩ : T_api_Pod), (⟨#[109]⟩ : ByteArray)⟩ : T_api_Bound)] (⟨(⟨#[112]⟩ : ByteArray), (⟨(1000 : Int), (0 : Int), (0 : Int), (1 : Int), (0 : Int)⟩ : T_api_Res), ([] : List T_api_Label), ([] : List T_api_Label), ([] : List T_api_Term), ([] : List T_api_Toleration), [(80 : Int)], ([] : List T_api_Label), false, ([] : List T_api_Label), (0 : Int), (0 : Int), (⟨#[]⟩ : ByteArray), false, false, false⟩ : T_api_Pod)).bind fun r4 =>
  some (r4 == (0 : Int)) else some false).bind fun c3 =>
  (if c3 = true then (suit_Place (⟨(⟨#[]⟩ : ByteArray), (⟨#[]⟩ : ByteArray), (⟨(0 : Int), (0 : Int), (0 : Int), (0 : Int), (0 : Int)⟩ : T_api_Res), ([] : List T_api_Label), ([] : List T_api_Taint), false⟩ : T_api_Machine) (⟨(⟨#[115]⟩ : ByteArray), (⟨(200 : Int), (0 : Int), (0 : Int), (1 : Int), (0 : Int)⟩ : T_api_Res), ([] : List T_api_Label), ([] : List T_api_Label), ([] : List T_api_Term), ([] : List T_api_Toleration), ([] : List Int), ([] : List T_api_Label), false, ([] : List T_api_Label), (0 : Int), (0 : Int), (⟨#[]⟩ : ByteArray), false, false, false⟩ : T_api_Pod)).bind fun r5 =>
  some (r5 == (1 : Int)) else some false).bind fun c4 =>
  (if c4 = true then (suit_Suits (⟨(⟨#[109]⟩ : ByteArray), (⟨#[]⟩ : ByteArray), (⟨(1000 : Int), (0 : Int), (0 : Int), (9 : Int), (0 : Int)⟩ : T_api_Res), ([] : List T_api_Label), ([] : List T_api_Taint), true⟩ : T_api_Machine) [(⟨(⟨(⟨#[112]⟩ : ByteArray), (⟨(800 : Int), (0 : Int), (0 : Int), (1 : Int), (0 : Int)⟩ : T_api_Res), ([] : List T_api_Label), ([] : List T_api_Label), ([] : List T_api_Term), ([] : List T_api_Toleration), [(80 : Int)], ([] : List T_api_Label), false, ([] : List T_api_Label), (0 : Int), (0 : Int), (⟨#[]⟩ : ByteArray), false, false, false⟩ : T_api_Pod), (⟨#[109]⟩ : ByteArray)⟩ : T_api_Bound)] (⟨(⟨#[115]⟩ : ByteArray), (⟨(200 : Int), (0 : Int), (0 : Int), (1 : Int), (0 : Int)⟩ : T_api_Res), ([] : List T_api_Label), [(⟨(⟨#[97]⟩ : ByteArray), (⟨#[98]⟩ : ByteArray)⟩ : T_api_Label)], ([] : List T_api_Term), ([] : List T_api_Toleration), ([] : List Int), ([] : List T_api_Label), false, ([] : List T_api_Label), (0 : Int), (0 : Int), (⟨#[]⟩ : ByteArray), false, false, false⟩ : T_api_Pod)).bind fun r6 =>
  some (r6 == (4 : Int)) else some false).bind fun c5 =>
  (if c5 = true then (suit_Prefers (⟨(⟨#[109]⟩ : ByteArray), (⟨#[]⟩ : ByteArray), (⟨(1000 : Int), (0 : Int), (0 : Int), (9 : Int), (0 : Int)⟩ : T_api_Res), ([] : List T_api_Label), ([] : List T_api_Taint), true⟩ : T_api_Machine) (⟨(⟨#[115]⟩ : ByteArray), (⟨(200 : Int), (0 : Int), (0 : Int), (1 : Int), (0 : Int)⟩ : T_api_Res), ([] : List T_api_Label), ([] : List T_api_Label), ([] : List T_api_Term), ([] : List T_api_Toleration), ([] : List Int), ([] : List T_api_Label), false, ([] : List T_api_Label), (0 : Int), (0 : Int), (⟨#[]⟩ : ByteArray), false, false, false⟩ : T_api_Pod)).bind fun r7 =>
  some (r7 == (0 : Int)) else some false).bind fun c6 =>
  some c6
theorem law10_known_ok (r : Bool) (hm : law10_known = some r) :
    VC Try.prog 16 [] [] (fun zx zH => zx = .bool r ∧ zH = []) := by
  unfold law10_known at hm
  refine VC.run (c := _) (rs := [.tmp 0]) Try.func16 rfl rfl rfl ?_
  refine VW.seq ?_
  refine VW.region ?_
  refine VR.p rfl rfl (VP.assign rfl) ?_
  refine VR.nil ?_
  refine VW.seq ?_
  refine VW.region ?_
  refine VR.p rfl rfl (VP.buildP pl23 rfl rfl) ?_
  refine VR.p rfl rfl (VP.buildP pl27 rfl rfl) ?_
  refine VR.cons rfl rfl (VO.alloc z27 fun b => ?_)
  refine VR.cons rfl rfl (VO.storeP (i := 0) rfl rfl rfl ld27 rfl rfl rfl ?_)
  refine VR.nil ?_
  refine VW.seq ?_
  refine VW.region ?_
  refine VR.p rfl rfl (VP.buildP pl23 rfl rfl) ?_
  refine VR.cons rfl rfl (VO.buildSlice ap31 rfl rfl rfl rfl rfl fun b2 => ?_)
  refine VR.shift (Shift.freezeE 0 [(11, .list 3 (List.map (VV.int .i64) [(80 : Int)]))] rfl ⟨⟨_, rfl, .here _ rfl⟩, trivial⟩ (FzH.refl _)) ?_
  refine VR.p rfl rfl (VP.buildP pl33 rfl rfl) ?_
  refine VR.p rfl rfl (VP.buildP pl49 rfl rfl) ?_
  refine VR.shift (Shift.trans (Shift.nilRow 79) (Shift.trans (Shift.freezeE 0 [(13, .agg [.str (⟨#[112]⟩ : ByteArray), .int .i64 (800 : Int), .int .i64 (0 : Int), .int .i64 (0 : Int), .int .i64 (1 : Int), .int .i64 (0 : Int), .list 79 (List.map T_api_Label.vv ([] : List T_api_Label)), .list 79 (List.map T_api_Label.vv ([] : List T_api_Label)), .sl none 0 0, .sl none 0 0, .list 3 (List.map (VV.int .i64) [(80 : Int)]), .list 79 (List.map T_api_Label.vv ([] : List T_api_Label)), .bool false, .list 79 (List.map T_api_Label.vv ([] : List T_api_Label)), .int .i64 (0 : Int), .int .i64 (0 : Int), .str (⟨#[]⟩ : ByteArray), .bool false, .bool false, .bool false, .str (⟨#[109]⟩ : ByteArray)])] rfl ⟨⟨_, rfl, .aggL ⟨.same _, .same _, .same _, .same _, .same _, .same _, .here _ rfl, .here _ rfl, .same _, .same _, .same _, .here _ rfl, .same _, .here _ rfl, .same _, .same _, .same _, .same _, .same _, .same _, .same _, trivial⟩⟩, trivial⟩ (FzH.refl _)) (Shift.trans (Shift.nilRow 74) (Shift.trans (Shift.freezeE 0 [(13, .agg [.str (⟨#[112]⟩ : ByteArray), .int .i64 (800 : Int), .int .i64 (0 : Int), .int .i64 (0 : Int), .int .i64 (1 : Int), .int .i64 (0 : Int), .list 79 (List.map T_api_Label.vv ([] : List T_api_Label)), .list 79 (List.map T_api_Label.vv ([] : List T_api_Label)), .list 74 (List.map T_api_Term.vv ([] : List T_api_Term)), .sl none 0 0, .list 3 (List.map (VV.int .i64) [(80 : Int)]), .list 79 (List.map T_api_Label.vv ([] : List T_api_Label)), .bool false, .list 79 (List.map T_api_Label.vv ([] : List T_api_Label)), .int .i64 (0 : Int), .int .i64 (0 : Int), .str (⟨#[]⟩ : ByteArray), .bool false, .bool false, .bool false, .str (⟨#[109]⟩ : ByteArray)])] rfl ⟨⟨_, rfl, .aggL ⟨.same _, .same _, .same _, .same _, .same _, .same _, .same _, .same _, .here _ rfl, .same _, .same _, .same _, .same _, .same _, .same _, .same _, .same _, .same _, .same _, .same _, .same _, trivial⟩⟩, trivial⟩ (FzH.refl _)) (Shift.trans (Shift.nilRow 55) (Shift.freezeE 0 [(13, T_api_Bound.vv (⟨(⟨(⟨#[112]⟩ : ByteArray), (⟨(800 : Int), (0 : Int), (0 : Int), (1 : Int), (0 : Int)⟩ : T_api_Res), ([] : List T_api_Label), ([] : List T_api_Label), ([] : List T_api_Term), ([] : List T_api_Toleration), [(80 : Int)], ([] : List T_api_Label), false, ([] : List T_api_Label), (0 : Int), (0 : Int), (⟨#[]⟩ : ByteArray), false, false, false⟩ : T_api_Pod), (⟨#[109]⟩ : ByteArray)⟩ : T_api_Bound))] rfl ⟨⟨_, rfl, .aggL ⟨.same _, .same _, .same _, .same _, .same _, .same _, .same _, .same _, .same _, .here _ rfl, .same _, .same _, .same _, .same _, .same _, .same _, .same _, .same _, .same _, .same _, .same _, trivial⟩⟩, trivial⟩ (FzH.refl _))))))) ?_
  refine VR.cons rfl rfl (VO.buildSlice ap28 rfl rfl rfl rfl rfl fun b3 => ?_)
  refine VR.shift (Shift.freezeE 0 [(14, .list 49 (List.map T_api_Bound.vv [(⟨(⟨(⟨#[112]⟩ : ByteArray), (⟨(800 : Int), (0 : Int), (0 : Int), (1 : Int), (0 : Int)⟩ : T_api_Res), ([] : List T_api_Label), ([] : List T_api_Label), ([] : List T_api_Term), ([] : List T_api_Toleration), [(80 : Int)], ([] : List T_api_Label), false, ([] : List T_api_Label), (0 : Int), (0 : Int), (⟨#[]⟩ : ByteArray), false, false, false⟩ : T_api_Pod), (⟨#[109]⟩ : ByteArray)⟩ : T_api_Bound)]))] rfl ⟨⟨_, rfl, .here _ rfl⟩, trivial⟩ (FzH.refl _)) ?_
  refine VR.p rfl rfl (VP.assign rfl) ?_
  refine VR.nil ?_
  refine VW.seq ?_
  refine VW.region ?_
  refine VR.p rfl rfl (VP.buildP pl23 rfl rfl) ?_
  refine VR.p rfl rfl (VP.buildP pl33 rfl rfl) ?_
  refine VR.cons rfl rfl (VO.alloc z33 fun b4 => ?_)
  refine VR.cons rfl rfl (VO.storeP (i := 0) rfl rfl rfl ld33 rfl rfl rfl ?_)
  refine VR.nil ?_
  refine VW.seq ?_
  refine VW.region ?_
  refine VR.p rfl rfl (VP.buildP pl23 rfl rfl) ?_
  refine VR.cons rfl rfl (VO.buildSlice ap31 rfl rfl rfl rfl rfl fun b5 => ?_)
  refine VR.shift (Shift.freezeE 0 [(18, .list 3 (List.map (VV.int .i64) [(80 : Int)]))] rfl ⟨⟨_, rfl, .here _ rfl⟩, trivial⟩ (FzH.refl _)) ?_
  refine VR.p rfl rfl (VP.buildP pl33 rfl rfl) ?_
  refine VR.cons rfl rfl (VO.alloc z33 fun b6 => ?_)
  refine VR.cons rfl rfl (VO.storeP (i := 0) rfl rfl rfl ld33 rfl rfl rfl ?_)
  refine VR.nil ?_
  refine VW.seq ?_
  refine VW.region ?_
  refine VR.p rfl rfl (VP.buildP pl23 rfl rfl) ?_
  refine VR.p rfl rfl (VP.buildP pl33 rfl rfl) ?_
  refine VR.cons rfl rfl (VO.alloc z33 fun b7 => ?_)
  refine VR.cons rfl rfl (VO.storeP (i := 0) rfl rfl rfl ld33 rfl rfl rfl ?_)
  refine VR.nil ?_
  refine VW.seq ?_
  refine VW.region ?_
  refine VR.p rfl rfl (VP.buildP pl23 rfl rfl) ?_
  refine VR.cons rfl rfl (VO.buildSlice ap31 rfl rfl rfl rfl rfl fun b8 => ?_)
  refine VR.shift (Shift.freezeE 0 [(23, .list 3 (List.map (VV.int .i64) [(80 : Int)]))] rfl ⟨⟨_, rfl, .here _ rfl⟩, trivial⟩ (FzH.refl _)) ?_
  refine VR.p rfl rfl (VP.buildP pl33 rfl rfl) ?_
  refine VR.cons rfl rfl (VO.alloc z33 fun b9 => ?_)
  refine VR.cons rfl rfl (VO.storeP (i := 0) rfl rfl rfl ld33 rfl rfl rfl ?_)
  refine VR.nil ?_
  refine VW.seq ?_
  refine VW.region ?_
  refine VR.p rfl rfl (VP.loadP (i := 1) rfl rfl ld33 rfl) ?_
  refine VR.cons rfl rfl (VO.alloc z33 fun b10 => ?_)
  refine VR.cons rfl rfl (VO.storeP (i := 0) rfl rfl rfl ld33 rfl rfl rfl ?_)
  refine VR.nil ?_
  refine VW.seq ?_
  refine VW.region ?_
  refine VR.p rfl rfl (VP.buildP pl79 rfl rfl) ?_
  refine VR.cons rfl rfl (VO.buildSlice ap24 rfl rfl rfl rfl rfl fun b11 => ?_)
  refine VR.shift (Shift.freezeE 0 [(27, .list 79 (List.map T_api_Label.vv [(⟨(⟨#[97]⟩ : ByteArray), (⟨#[98]⟩ : ByteArray)⟩ : T_api_Label)]))] rfl ⟨⟨_, rfl, .here _ rfl⟩, trivial⟩ (FzH.refl _)) ?_
  refine VR.p rfl rfl (VP.fieldP rfl fa33_3) ?_
  refine VR.cons rfl rfl (VO.storeP (i := 0) rfl rfl rfl ld24 rfl rfl rfl ?_)
  refine VR.nil ?_
  refine VW.seq ?_
  refine VW.region ?_
  refine VR.p rfl rfl (VP.loadP (i := 5) rfl rfl ld27 rfl) ?_
  refine VR.p rfl rfl (VP.move rfl) ?_
  refine VR.p rfl rfl (VP.loadP (i := 4) rfl rfl ld33 rfl) ?_
  obtain ⟨r, h12, hm⟩ := bnd hm
  refine VR.cons rfl rfl (VO.callN 0 [.agg [none, none, none, none, none, none, none, some 79, some 97], .same, .agg [none, none, none, none, none, none, some 79, some 79, some 74, some 55, some 3, some 79, none, some 79]] rfl fn26 rfl (suit_Room_ok (⟨(⟨#[109]⟩ : ByteArray), (⟨#[]⟩ : ByteArray), (⟨(1000 : Int), (0 : Int), (0 : Int), (9 : Int), (0 : Int)⟩ : T_api_Res), ([] : List T_api_Label), ([] : List T_api_Taint), true⟩ : T_api_Machine) [(⟨(⟨(⟨#[112]⟩ : ByteArray), (⟨(800 : Int), (0 : Int), (0 : Int), (1 : Int), (0 : Int)⟩ : T_api_Res), ([] : List T_api_Label), ([] : List T_api_Label), ([] : List T_api_Term), ([] : List T_api_Toleration), [(80 : Int)], ([] : List T_api_Label), false, ([] : List T_api_Label), (0 : Int), (0 : Int), (⟨#[]⟩ : ByteArray), false, false, false⟩ : T_api_Pod), (⟨#[109]⟩ : ByteArray)⟩ : T_api_Bound)] (⟨(⟨#[113]⟩ : ByteArray), (⟨(300 : Int), (0 : Int), (0 : Int), (1 : Int), (0 : Int)⟩ : T_api_Res), ([] : List T_api_Label), ([] : List T_api_Label), ([] : List T_api_Term), ([] : List T_api_Toleration), ([] : List Int), ([] : List T_api_Label), false, ([] : List T_api_Label), (0 : Int), (0 : Int), (⟨#[]⟩ : ByteArray), false, false, false⟩ : T_api_Pod) r h12) fun _ _ h37 => ?_)
  obtain ⟨rfl, rfl⟩ := h37
  refine VR.p rfl rfl (VP.arith rfl rfl rfl) ?_
  refine VR.p rfl rfl (VP.move rfl) ?_
  obtain ⟨c, h16, hm⟩ := bnd hm
  refine VR.sc 6 40 (.bool c) (fun K' J => ?_) ?_
  · have hm := h16
    rcases ite_or hm with ⟨h13, hm⟩ | ⟨h13, hm⟩
    · refine VR.pG rfl rfl rfl rfl h13 (VP.loadP (i := 5) rfl rfl ld27 rfl) ?_
      refine VR.pG rfl rfl rfl rfl h13 (VP.move rfl) ?_
      refine VR.pG rfl rfl rfl rfl h13 (VP.loadP (i := 3) rfl rfl ld33 rfl) ?_
      obtain ⟨r2, h14, hm⟩ := bnd hm
      refine VR.consG rfl rfl rfl rfl h13 (VO.callN 0 [.agg [none, none, none, none, none, none, none, some 79, some 97], .same, .agg [none, none, none, none, none, none, some 79, some 79, some 74, some 55, none, some 79, none, some 79]] rfl fn26 rfl (suit_Room_ok (⟨(⟨#[109]⟩ : ByteArray), (⟨#[]⟩ : ByteArray), (⟨(1000 : Int), (0 : Int), (0 : Int), (9 : Int), (0 : Int)⟩ : T_api_Res), ([] : List T_api_Label), ([] : List T_api_Taint), true⟩ : T_api_Machine) [(⟨(⟨(⟨#[112]⟩ : ByteArray), (⟨(800 : Int), (0 : Int), (0 : Int), (1 : Int), (0 : Int)⟩ : T_api_Res), ([] : List T_api_Label), ([] : List T_api_Label), ([] : List T_api_Term), ([] : List T_api_Toleration), [(80 : Int)], ([] : List T_api_Label), false, ([] : List T_api_Label), (0 : Int), (0 : Int), (⟨#[]⟩ : ByteArray), false, false, false⟩ : T_api_Pod), (⟨#[109]⟩ : ByteArray)⟩ : T_api_Bound)] (⟨(⟨#[114]⟩ : ByteArray), (⟨(200 : Int), (0 : Int), (0 : Int), (1 : Int), (0 : Int)⟩ : T_api_Res), ([] : List T_api_Label), ([] : List T_api_Label), ([] : List T_api_Term), ([] : List T_api_Toleration), [(80 : Int)], ([] : List T_api_Label), false, ([] : List T_api_Label), (0 : Int), (0 : Int), (⟨#[]⟩ : ByteArray), false, false, false⟩ : T_api_Pod) r2 h14) fun _ _ h15 => ?_)
      obtain ⟨rfl, rfl⟩ := h15
      refine VR.pG rfl rfl rfl rfl h13 (VP.arith rfl rfl rfl) ?_
      refine VR.p rfl rfl (VP.pickB true rfl h13 rfl) ?_
      exact J [_, _, _, _, _] _ rfl (congrArg VV.bool (Option.some.inj hm))
    · have h13 := bf h13
      refine VR.skipG rfl rfl rfl rfl h13 ?_
      refine VR.skipG rfl rfl rfl rfl h13 ?_
      refine VR.skipG rfl rfl rfl rfl h13 ?_
      refine VR.skipG rfl rfl rfl rfl h13 ?_
      refine VR.skipG rfl rfl rfl rfl h13 ?_
      refine VR.p rfl rfl (VP.pickB false rfl h13 rfl) ?_
      exact J [_, _, _, _, _] _ rfl (congrArg VV.bool (Option.some.inj hm))
  · refine VR.p rfl rfl (VP.move rfl) ?_
    obtain ⟨c2, h20, hm⟩ := bnd hm
    refine VR.sc 6 47 (.bool c2) (fun K' J => ?_) ?_
    · have hm := h20
      rcases ite_or hm with ⟨h17, hm⟩ | ⟨h17, hm⟩
      · refine VR.pG rfl rfl rfl rfl h17 (VP.loadP (i := 5) rfl rfl ld27 rfl) ?_
        refine VR.pG rfl rfl rfl rfl h17 (VP.move rfl) ?_
        refine VR.pG rfl rfl rfl rfl h17 (VP.loadP (i := 2) rfl rfl ld33 rfl) ?_
        obtain ⟨r3, h18, hm⟩ := bnd hm
        refine VR.consG rfl rfl rfl rfl h17 (VO.callN 0 [.agg [none, none, none, none, none, none, none, some 79, some 97], .same, .agg [none, none, none, none, none, none, some 79, some 79, some 74, some 55, some 3, some 79, none, some 79]] rfl fn17 rfl (suit_Suits_ok (⟨(⟨#[109]⟩ : ByteArray), (⟨#[]⟩ : ByteArray), (⟨(1000 : Int), (0 : Int), (0 : Int), (9 : Int), (0 : Int)⟩ : T_api_Res), ([] : List T_api_Label), ([] : List T_api_Taint), true⟩ : T_api_Machine) [(⟨(⟨(⟨#[112]⟩ : ByteArray), (⟨(800 : Int), (0 : Int), (0 : Int), (1 : Int), (0 : Int)⟩ : T_api_Res), ([] : List T_api_Label), ([] : List T_api_Label), ([] : List T_api_Term), ([] : List T_api_Toleration), [(80 : Int)], ([] : List T_api_Label), false, ([] : List T_api_Label), (0 : Int), (0 : Int), (⟨#[]⟩ : ByteArray), false, false, false⟩ : T_api_Pod), (⟨#[109]⟩ : ByteArray)⟩ : T_api_Bound)] (⟨(⟨#[115]⟩ : ByteArray), (⟨(200 : Int), (0 : Int), (0 : Int), (1 : Int), (0 : Int)⟩ : T_api_Res), ([] : List T_api_Label), ([] : List T_api_Label), ([] : List T_api_Term), ([] : List T_api_Toleration), ([] : List Int), ([] : List T_api_Label), false, ([] : List T_api_Label), (0 : Int), (0 : Int), (⟨#[]⟩ : ByteArray), false, false, false⟩ : T_api_Pod) r3 h18) fun _ _ h19 => ?_)
        obtain ⟨rfl, rfl⟩ := h19
        refine VR.pG rfl rfl rfl rfl h17 (VP.arith rfl rfl rfl) ?_
        refine VR.p rfl rfl (VP.pickB true rfl h17 rfl) ?_
        exact J [_, _, _, _, _] _ rfl (congrArg VV.bool (Option.some.inj hm))
      · have h17 := bf h17
        refine VR.skipG rfl rfl rfl rfl h17 ?_
        refine VR.skipG rfl rfl rfl rfl h17 ?_
        refine VR.skipG rfl rfl rfl rfl h17 ?_
        refine VR.skipG rfl rfl rfl rfl h17 ?_
        refine VR.skipG rfl rfl rfl rfl h17 ?_
        refine VR.p rfl rfl (VP.pickB false rfl h17 rfl) ?_
        exact J [_, _, _, _, _] _ rfl (congrArg VV.bool (Option.some.inj hm))
    · refine VR.p rfl rfl (VP.move rfl) ?_
      obtain ⟨c3, h24, hm⟩ := bnd hm
      refine VR.sc 6 54 (.bool c3) (fun K' J => ?_) ?_
      · have hm := h24
        rcases ite_or hm with ⟨h21, hm⟩ | ⟨h21, hm⟩
        · refine VR.pG rfl rfl rfl rfl h21 (VP.loadP (i := 5) rfl rfl ld27 rfl) ?_
          refine VR.pG rfl rfl rfl rfl h21 (VP.move rfl) ?_
          refine VR.pG rfl rfl rfl rfl h21 (VP.loadP (i := 1) rfl rfl ld33 rfl) ?_
          obtain ⟨r4, h22, hm⟩ := bnd hm
          refine VR.consG rfl rfl rfl rfl h21 (VO.callN 0 [.agg [none, none, none, none, none, none, none, some 79, some 97], .same, .agg [none, none, none, none, none, none, some 79, some 79, some 74, some 55, none, some 79, none, some 79]] rfl fn17 rfl (suit_Suits_ok (⟨(⟨#[109]⟩ : ByteArray), (⟨#[]⟩ : ByteArray), (⟨(1000 : Int), (0 : Int), (0 : Int), (9 : Int), (0 : Int)⟩ : T_api_Res), ([] : List T_api_Label), ([] : List T_api_Taint), true⟩ : T_api_Machine) [(⟨(⟨(⟨#[112]⟩ : ByteArray), (⟨(800 : Int), (0 : Int), (0 : Int), (1 : Int), (0 : Int)⟩ : T_api_Res), ([] : List T_api_Label), ([] : List T_api_Label), ([] : List T_api_Term), ([] : List T_api_Toleration), [(80 : Int)], ([] : List T_api_Label), false, ([] : List T_api_Label), (0 : Int), (0 : Int), (⟨#[]⟩ : ByteArray), false, false, false⟩ : T_api_Pod), (⟨#[109]⟩ : ByteArray)⟩ : T_api_Bound)] (⟨(⟨#[112]⟩ : ByteArray), (⟨(1000 : Int), (0 : Int), (0 : Int), (1 : Int), (0 : Int)⟩ : T_api_Res), ([] : List T_api_Label), ([] : List T_api_Label), ([] : List T_api_Term), ([] : List T_api_Toleration), [(80 : Int)], ([] : List T_api_Label), false, ([] : List T_api_Label), (0 : Int), (0 : Int), (⟨#[]⟩ : ByteArray), false, false, false⟩ : T_api_Pod) r4 h22) fun _ _ h23 => ?_)
          obtain ⟨rfl, rfl⟩ := h23
          refine VR.pG rfl rfl rfl rfl h21 (VP.arith rfl rfl rfl) ?_
          refine VR.p rfl rfl (VP.pickB true rfl h21 rfl) ?_
          exact J [_, _, _, _, _] _ rfl (congrArg VV.bool (Option.some.inj hm))
        · have h21 := bf h21
          refine VR.skipG rfl rfl rfl rfl h21 ?_
          refine VR.skipG rfl rfl rfl rfl h21 ?_
          refine VR.skipG rfl rfl rfl rfl h21 ?_
          refine VR.skipG rfl rfl rfl rfl h21 ?_
          refine VR.skipG rfl rfl rfl rfl h21 ?_
          refine VR.p rfl rfl (VP.pickB false rfl h21 rfl) ?_
          exact J [_, _, _, _, _] _ rfl (congrArg VV.bool (Option.some.inj hm))
      · refine VR.p rfl rfl (VP.move rfl) ?_
        obtain ⟨c4, h28, hm⟩ := bnd hm
        refine VR.sc 5 60 (.bool c4) (fun K' J => ?_) ?_
        · have hm := h28
          rcases ite_or hm with ⟨h25, hm⟩ | ⟨h25, hm⟩
          · refine VR.pG rfl rfl rfl rfl h25 (VP.buildP pl27 rfl rfl) ?_
            refine VR.pG rfl rfl rfl rfl h25 (VP.loadP (i := 2) rfl rfl ld33 rfl) ?_
            obtain ⟨r5, h26, hm⟩ := bnd hm
            refine VR.consG rfl rfl rfl rfl h25 (VO.callN 0 [.agg [none, none, none, none, none, none, none, some 79, some 97], .agg [none, none, none, none, none, none, some 79, some 79, some 74, some 55, some 3, some 79, none, some 79]] rfl fn24 rfl (suit_Place_ok (⟨(⟨#[]⟩ : ByteArray), (⟨#[]⟩ : ByteArray), (⟨(0 : Int), (0 : Int), (0 : Int), (0 : Int), (0 : Int)⟩ : T_api_Res), ([] : List T_api_Label), ([] : List T_api_Taint), false⟩ : T_api_Machine) (⟨(⟨#[115]⟩ : ByteArray), (⟨(200 : Int), (0 : Int), (0 : Int), (1 : Int), (0 : Int)⟩ : T_api_Res), ([] : List T_api_Label), ([] : List T_api_Label), ([] : List T_api_Term), ([] : List T_api_Toleration), ([] : List Int), ([] : List T_api_Label), false, ([] : List T_api_Label), (0 : Int), (0 : Int), (⟨#[]⟩ : ByteArray), false, false, false⟩ : T_api_Pod) r5 h26) fun _ _ h27 => ?_)
            obtain ⟨rfl, rfl⟩ := h27
            refine VR.pG rfl rfl rfl rfl h25 (VP.arith rfl rfl rfl) ?_
            refine VR.p rfl rfl (VP.pickB true rfl h25 rfl) ?_
            exact J [_, _, _, _] _ rfl (congrArg VV.bool (Option.some.inj hm))
          · have h25 := bf h25
            refine VR.skipG rfl rfl rfl rfl h25 ?_
            refine VR.skipG rfl rfl rfl rfl h25 ?_
            refine VR.skipG rfl rfl rfl rfl h25 ?_
            refine VR.skipG rfl rfl rfl rfl h25 ?_
            refine VR.p rfl rfl (VP.pickB false rfl h25 rfl) ?_
            exact J [_, _, _, _] _ rfl (congrArg VV.bool (Option.some.inj hm))
        · refine VR.p rfl rfl (VP.move rfl) ?_
          obtain ⟨c5, h32, hm⟩ := bnd hm
          refine VR.sc 6 67 (.bool c5) (fun K' J => ?_) ?_
          · have hm := h32
            rcases ite_or hm with ⟨h29, hm⟩ | ⟨h29, hm⟩
            · refine VR.pG rfl rfl rfl rfl h29 (VP.loadP (i := 5) rfl rfl ld27 rfl) ?_
              refine VR.pG rfl rfl rfl rfl h29 (VP.move rfl) ?_
              refine VR.pG rfl rfl rfl rfl h29 (VP.loadP (i := 0) rfl rfl ld33 rfl) ?_
              obtain ⟨r6, h30, hm⟩ := bnd hm
              refine VR.consG rfl rfl rfl rfl h29 (VO.callN 0 [.agg [none, none, none, none, none, none, none, some 79, some 97], .same, .agg [none, none, none, none, none, none, some 79, none, some 74, some 55, some 3, some 79, none, some 79]] rfl fn17 rfl (suit_Suits_ok (⟨(⟨#[109]⟩ : ByteArray), (⟨#[]⟩ : ByteArray), (⟨(1000 : Int), (0 : Int), (0 : Int), (9 : Int), (0 : Int)⟩ : T_api_Res), ([] : List T_api_Label), ([] : List T_api_Taint), true⟩ : T_api_Machine) [(⟨(⟨(⟨#[112]⟩ : ByteArray), (⟨(800 : Int), (0 : Int), (0 : Int), (1 : Int), (0 : Int)⟩ : T_api_Res), ([] : List T_api_Label), ([] : List T_api_Label), ([] : List T_api_Term), ([] : List T_api_Toleration), [(80 : Int)], ([] : List T_api_Label), false, ([] : List T_api_Label), (0 : Int), (0 : Int), (⟨#[]⟩ : ByteArray), false, false, false⟩ : T_api_Pod), (⟨#[109]⟩ : ByteArray)⟩ : T_api_Bound)] (⟨(⟨#[115]⟩ : ByteArray), (⟨(200 : Int), (0 : Int), (0 : Int), (1 : Int), (0 : Int)⟩ : T_api_Res), ([] : List T_api_Label), [(⟨(⟨#[97]⟩ : ByteArray), (⟨#[98]⟩ : ByteArray)⟩ : T_api_Label)], ([] : List T_api_Term), ([] : List T_api_Toleration), ([] : List Int), ([] : List T_api_Label), false, ([] : List T_api_Label), (0 : Int), (0 : Int), (⟨#[]⟩ : ByteArray), false, false, false⟩ : T_api_Pod) r6 h30) fun _ _ h31 => ?_)
              obtain ⟨rfl, rfl⟩ := h31
              refine VR.pG rfl rfl rfl rfl h29 (VP.arith rfl rfl rfl) ?_
              refine VR.p rfl rfl (VP.pickB true rfl h29 rfl) ?_
              exact J [_, _, _, _, _] _ rfl (congrArg VV.bool (Option.some.inj hm))
            · have h29 := bf h29
              refine VR.skipG rfl rfl rfl rfl h29 ?_
              refine VR.skipG rfl rfl rfl rfl h29 ?_
              refine VR.skipG rfl rfl rfl rfl h29 ?_
              refine VR.skipG rfl rfl rfl rfl h29 ?_
              refine VR.skipG rfl rfl rfl rfl h29 ?_
              refine VR.p rfl rfl (VP.pickB false rfl h29 rfl) ?_
              exact J [_, _, _, _, _] _ rfl (congrArg VV.bool (Option.some.inj hm))
          · refine VR.p rfl rfl (VP.move rfl) ?_
            obtain ⟨c6, h36, hm⟩ := bnd hm
            refine VR.sc 5 73 (.bool c6) (fun K' J => ?_) ?_
            · have hm := h36
              rcases ite_or hm with ⟨h33, hm⟩ | ⟨h33, hm⟩
              · refine VR.pG rfl rfl rfl rfl h33 (VP.loadP (i := 5) rfl rfl ld27 rfl) ?_
                refine VR.pG rfl rfl rfl rfl h33 (VP.loadP (i := 2) rfl rfl ld33 rfl) ?_
                obtain ⟨r7, h34, hm⟩ := bnd hm
                refine VR.consG rfl rfl rfl rfl h33 (VO.callN 0 [.agg [none, none, none, none, none, none, none, some 79, some 97], .agg [none, none, none, none, none, none, some 79, some 79, some 74, some 55, some 3, some 79, none, some 79]] rfl fn25 rfl (suit_Prefers_ok (⟨(⟨#[109]⟩ : ByteArray), (⟨#[]⟩ : ByteArray), (⟨(1000 : Int), (0 : Int), (0 : Int), (9 : Int), (0 : Int)⟩ : T_api_Res), ([] : List T_api_Label), ([] : List T_api_Taint), true⟩ : T_api_Machine) (⟨(⟨#[115]⟩ : ByteArray), (⟨(200 : Int), (0 : Int), (0 : Int), (1 : Int), (0 : Int)⟩ : T_api_Res), ([] : List T_api_Label), ([] : List T_api_Label), ([] : List T_api_Term), ([] : List T_api_Toleration), ([] : List Int), ([] : List T_api_Label), false, ([] : List T_api_Label), (0 : Int), (0 : Int), (⟨#[]⟩ : ByteArray), false, false, false⟩ : T_api_Pod) r7 h34) fun _ _ h35 => ?_)
                obtain ⟨rfl, rfl⟩ := h35
                refine VR.pG rfl rfl rfl rfl h33 (VP.arith rfl rfl rfl) ?_
                refine VR.p rfl rfl (VP.pickB true rfl h33 rfl) ?_
                exact J [_, _, _, _] _ rfl (congrArg VV.bool (Option.some.inj hm))
              · have h33 := bf h33
                refine VR.skipG rfl rfl rfl rfl h33 ?_
                refine VR.skipG rfl rfl rfl rfl h33 ?_
                refine VR.skipG rfl rfl rfl rfl h33 ?_
                refine VR.skipG rfl rfl rfl rfl h33 ?_
                refine VR.p rfl rfl (VP.pickB false rfl h33 rfl) ?_
                exact J [_, _, _, _] _ rfl (congrArg VV.bool (Option.some.inj hm))
            · refine VR.p rfl rfl (VP.assign rfl) ?_
              refine VR.nil ?_
              obtain rfl := Option.some.inj hm
              exact VW.ret ⟨.inl rfl, _, .cons (.tmp _ _ rfl) .nil, [], _, rfl, rfl, rfl⟩

/-! trireme/triremeref04.Least -/
def ref04_Least (a : T_api_Res) (b : T_api_Res) : Option T_api_Res :=
  (ref04_Right a).bind fun r =>
  (if (!r) = true then some true else (ref04_Right b).bind fun r2 =>
  some (!r2)).bind fun c =>
  if c = true then
    some (⟨(0 : Int), (0 : Int), (0 : Int), (0 : Int), (0 : Int)⟩ : T_api_Res)
  else
    some (⟨(min a.Cpu b.Cpu), (min a.Mem b.Mem), (min a.Disk b.Disk), (min a.Pods b.Pods), (min a.Dev b.Dev)⟩ : T_api_Res)
theorem ref04_Least_ok (a : T_api_Res) (b : T_api_Res) (r : T_api_Res) (hm : ref04_Least a b = some r) :
    VC Try.prog 19 [T_api_Res.vv a, T_api_Res.vv b] [] (fun zx zH => zx = T_api_Res.vv r ∧ zH = []) := by
  unfold ref04_Least at hm
  refine VC.run (c := _) (rs := [.cell 4 23]) Try.func19 rfl rfl rfl ?_
  refine VW.seq ?_
  refine VW.region ?_
  refine VR.cons rfl rfl (VO.box rfl rfl fun b2 => ?_)
  refine VR.cons rfl rfl (VO.box rfl rfl fun b3 => ?_)
  refine VR.cons rfl rfl (VO.alloc z23 fun b4 => ?_)
  refine VR.nil ?_
  refine VW.seq ?_
  refine VW.seq ?_
  refine VW.region ?_
  refine VR.p rfl rfl (VP.loadP (i := 2) rfl rfl ld23 rfl) ?_
  obtain ⟨r, h4, hm⟩ := bnd hm
  refine VR.cons rfl rfl (VO.callK 0 rfl fn18 rfl (ref04_Right_ok a r h4) fun _ _ h10 => ?_)
  obtain ⟨rfl, rfl⟩ := h10
  refine VR.p rfl rfl (VP.not rfl) ?_
  refine VR.p rfl rfl (VP.move rfl) ?_
  obtain ⟨c, h8, hm⟩ := bnd hm
  refine VR.sc 4 12 (.bool c) (fun K' J => ?_) ?_
  · have hm := h8
    rcases ite_or hm with ⟨h5, hm⟩ | ⟨h5, hm⟩
    · refine VR.skipG rfl rfl rfl rfl h5 ?_
      refine VR.skipG rfl rfl rfl rfl h5 ?_
      refine VR.skipG rfl rfl rfl rfl h5 ?_
      refine VR.p rfl rfl (VP.pickB true rfl h5 rfl) ?_
      exact J [_, _, _] _ rfl (congrArg VV.bool (Option.some.inj hm))
    · have h5 := bf h5
      refine VR.pG rfl rfl rfl rfl h5 (VP.loadP (i := 1) rfl rfl ld23 rfl) ?_
      obtain ⟨r2, h6, hm⟩ := bnd hm
      refine VR.consG rfl rfl rfl rfl h5 (VO.callK 0 rfl fn18 rfl (ref04_Right_ok b r2 h6) fun _ _ h7 => ?_)
      obtain ⟨rfl, rfl⟩ := h7
      refine VR.pG rfl rfl rfl rfl h5 (VP.not rfl) ?_
      refine VR.p rfl rfl (VP.pickB false rfl h5 rfl) ?_
      exact J [_, _, _] _ rfl (congrArg VV.bool (Option.some.inj hm))
  · refine VR.nil ?_
    rcases ite_or hm with ⟨h9, hm⟩ | ⟨h9, hm⟩
    · refine VW.condT rfl h9 ?_
      refine VW.seq ?_
      refine VW.region ?_
      refine VR.p rfl rfl (VP.buildP pl23 rfl rfl) ?_
      refine VR.cons rfl rfl (VO.storeP (i := 0) rfl rfl rfl ld23 rfl rfl rfl ?_)
      refine VR.nil ?_
      obtain rfl := Option.some.inj hm
      exact VW.ret ⟨.inl rfl, _, .cons (.cell _ _ _ _ 0 _ _ _ _ rfl rfl ld23 rfl) .nil, [], _, rfl, rfl, rfl⟩
    · have h9 := bf h9
      refine VW.condF rfl h9 ?_
      refine VW.skip ?_
      refine VW.seq ?_
      refine VW.region ?_
      refine VR.p rfl rfl (VP.fieldP rfl fa23_0) ?_
      refine VR.p rfl rfl (VP.loadP (i := 2) rfl rfl ld3 rfl) ?_
      refine VR.p rfl rfl (VP.fieldP rfl fa23_0) ?_
      refine VR.p rfl rfl (VP.loadP (i := 1) rfl rfl ld3 rfl) ?_
      refine VR.p rfl rfl (VP.min2 rfl rfl) ?_
      refine VR.p rfl rfl (VP.fieldP rfl fa23_1) ?_
      refine VR.p rfl rfl (VP.loadP (i := 2) rfl rfl ld3 rfl) ?_
      refine VR.p rfl rfl (VP.fieldP rfl fa23_1) ?_
      refine VR.p rfl rfl (VP.loadP (i := 1) rfl rfl ld3 rfl) ?_
      refine VR.p rfl rfl (VP.min2 rfl rfl) ?_
      refine VR.p rfl rfl (VP.fieldP rfl fa23_2) ?_
      refine VR.p rfl rfl (VP.loadP (i := 2) rfl rfl ld3 rfl) ?_
      refine VR.p rfl rfl (VP.fieldP rfl fa23_2) ?_
      refine VR.p rfl rfl (VP.loadP (i := 1) rfl rfl ld3 rfl) ?_
      refine VR.p rfl rfl (VP.min2 rfl rfl) ?_
      refine VR.p rfl rfl (VP.fieldP rfl fa23_3) ?_
      refine VR.p rfl rfl (VP.loadP (i := 2) rfl rfl ld3 rfl) ?_
      refine VR.p rfl rfl (VP.fieldP rfl fa23_3) ?_
      refine VR.p rfl rfl (VP.loadP (i := 1) rfl rfl ld3 rfl) ?_
      refine VR.p rfl rfl (VP.min2 rfl rfl) ?_
      refine VR.p rfl rfl (VP.fieldP rfl fa23_4) ?_
      refine VR.p rfl rfl (VP.loadP (i := 2) rfl rfl ld3 rfl) ?_
      refine VR.p rfl rfl (VP.fieldP rfl fa23_4) ?_
      refine VR.p rfl rfl (VP.loadP (i := 1) rfl rfl ld3 rfl) ?_
      refine VR.p rfl rfl (VP.min2 rfl rfl) ?_
      refine VR.p rfl rfl (VP.buildP pl23 rfl rfl) ?_
      refine VR.cons rfl rfl (VO.storeP (i := 0) rfl rfl rfl ld23 rfl rfl rfl ?_)
      refine VR.nil ?_
      obtain rfl := Option.some.inj hm
      exact VW.ret ⟨.inl rfl, _, .cons (.cell _ _ _ _ 0 _ _ _ _ rfl rfl ld23 rfl) .nil, [], _, rfl, rfl, rfl⟩

/-! trireme/triremelaw10.SuitLess -/
def law10_SuitLess.l1 (c : T_law10_Case) : Nat → Int → Option (Out Bool Unit)
  | 0, _ => none
  | n + 1, i2 =>
    if (decide (i2 < (c.Bs.length : Int))) = true then
      (V.sl c.Bs none (some i2)).bind fun v =>
      (V.ap 288 ([] : List T_api_Bound) v).bind fun l2 =>
      (V.sl c.Bs (some (IntKind.i64.wrap (i2 + (1 : Int)))) none).bind fun v2 =>
      (V.ap 288 l2 v2).bind fun fewer =>
      (suit_Suits c.M fewer c.P_).bind fun r11 =>
      if (r11 != (0 : Int)) = true then
        some (Out.ret false)
      else
        law10_SuitLess.l1 c n (IntKind.i64.wrap (i2 + (1 : Int)))
    else
      some (Out.go ())
def law10_SuitLess (c : T_law10_Case) : Option Bool :=
  (ref09_Light [c.M] c.Bs).bind fun r =>
  (if (!r) = true then some true else (ref07_LightPod c.P_).bind fun r2 =>
  some (!r2)).bind fun c2 =>
  (if c2 = true then some true else (ref09_Check [c.M] c.Bs).bind fun r3 =>
  some (r3 != (0 : Int))).bind fun c3 =>
  (if c3 = true then some true else (ref07_RightPod c.P_).bind fun r4 =>
  some (!r4)).bind fun c4 =>
  if c4 = true then
    (law10_known).bind fun r5 =>
    some r5
  else
    (suit_Suits c.M c.Bs c.P_).bind fun r6 =>
    if (r6 != (0 : Int)) = true then
      (law10_known).bind fun r7 =>
      some r7
    else
      ((ref04_Right c.Less).bind fun r8 =>
      if r8 = true then
        (ref04_Least c.P_.Need c.Less).bind fun r9 =>
        some (⟨c.P_.Name, (⟨r9.Cpu, r9.Mem, r9.Disk, (1 : Int), r9.Dev⟩ : T_api_Res), c.P_.Labels, c.P_.Select, c.P_.Terms, c.P_.Bears, ([] : List Int), c.P_.Apart, c.P_.Wide, c.P_.Spread, c.P_.Skew, c.P_.Rank, c.P_.Owner, c.P_.Daemon, c.P_.Pinned, c.P_.Local⟩ : T_api_Pod)
      else
        some (⟨c.P_.Name, c.P_.Need, c.P_.Labels, c.P_.Select, c.P_.Terms, c.P_.Bears, ([] : List Int), c.P_.Apart, c.P_.Wide, c.P_.Spread, c.P_.Skew, c.P_.Rank, c.P_.Owner, c.P_.Daemon, c.P_.Pinned, c.P_.Local⟩ : T_api_Pod)).bind fun q_2 =>
      (suit_Suits c.M c.Bs q_2).bind fun r10 =>
      if (r10 != (0 : Int)) = true then
        some false
      else
        (law10_SuitLess.l1 c FU (0 : Int)).bind fun o2 =>
        o2.on fun j =>
        (law10_known).bind fun r12 =>
        some r12
theorem law10_SuitLess_ok (c : T_law10_Case) (r : Bool) (hm : law10_SuitLess c = some r) :
    VC Try.prog 3 [T_law10_Case.vv c] [] (fun zx zH => zx = .bool r ∧ zH = []) := by
  unfold law10_SuitLess at hm
  refine VC.run (c := _) (rs := [.tmp 2]) Try.func3 rfl rfl rfl ?_
  refine VW.seq ?_
  refine VW.region ?_
  refine VR.cons rfl rfl (VO.box rfl rfl fun b => ?_)
  refine VR.p rfl rfl (VP.assign rfl) ?_
  refine VR.nil ?_
  refine VW.seq ?_
  refine VW.region ?_
  refine VR.p rfl rfl (VP.fieldP rfl fa35_0) ?_
  refine VR.p rfl rfl (VP.loadP (i := 0) rfl rfl ld27 rfl) ?_
  refine VR.cons rfl rfl (VO.alloc z27 fun b2 => ?_)
  refine VR.cons rfl rfl (VO.storeP (i := 0) rfl rfl rfl ld27 rfl rfl rfl ?_)
  refine VR.nil ?_
  refine VW.seq ?_
  refine VW.region ?_
  refine VR.p rfl rfl (VP.fieldP rfl fa35_1) ?_
  refine VR.p rfl rfl (VP.loadP (i := 1) rfl rfl ld28 rfl) ?_
  refine VR.p rfl rfl (VP.assign rfl) ?_
  refine VR.nil ?_
  refine VW.seq ?_
  refine VW.region ?_
  refine VR.p rfl rfl (VP.fieldP rfl fa35_2) ?_
  refine VR.p rfl rfl (VP.loadP (i := 1) rfl rfl ld33 rfl) ?_
  refine VR.cons rfl rfl (VO.alloc z33 fun b3 => ?_)
  refine VR.cons rfl rfl (VO.storeP (i := 0) rfl rfl rfl ld33 rfl rfl rfl ?_)
  refine VR.nil ?_
  refine VW.seq ?_
  refine VW.region ?_
  refine VR.p rfl rfl (VP.fieldP rfl fa35_3) ?_
  refine VR.p rfl rfl (VP.loadP (i := 2) rfl rfl ld23 rfl) ?_
  refine VR.cons rfl rfl (VO.alloc z23 fun b4 => ?_)
  refine VR.cons rfl rfl (VO.storeP (i := 0) rfl rfl rfl ld23 rfl rfl rfl ?_)
  refine VR.nil ?_
  refine VW.seq ?_
  refine VW.seq ?_
  refine VW.region ?_
  refine VR.p rfl rfl (VP.loadP (i := 2) rfl rfl ld27 rfl) ?_
  refine VR.cons rfl rfl (VO.buildSlice ap37 rfl rfl rfl rfl rfl fun b5 => ?_)
  refine VR.shift (Shift.freezeE 0 [(19, .list 27 (List.map T_api_Machine.vv [c.M]))] rfl ⟨⟨_, rfl, .here _ rfl⟩, trivial⟩ (FzH.refl _)) ?_
  refine VR.p rfl rfl (VP.move rfl) ?_
  obtain ⟨r, h6, hm⟩ := bnd hm
  refine VR.cons rfl rfl (VO.callK 0 rfl fn12 rfl (ref09_Light_ok [c.M] c.Bs r h6) fun _ _ h52 => ?_)
  obtain ⟨rfl, rfl⟩ := h52
  refine VR.p rfl rfl (VP.not rfl) ?_
  refine VR.p rfl rfl (VP.move rfl) ?_
  obtain ⟨c2, h10, hm⟩ := bnd hm
  refine VR.sc 4 27 (.bool c2) (fun K' J => ?_) ?_
  · have hm := h10
    rcases ite_or hm with ⟨h7, hm⟩ | ⟨h7, hm⟩
    · refine VR.skipG rfl rfl rfl rfl h7 ?_
      refine VR.skipG rfl rfl rfl rfl h7 ?_
      refine VR.skipG rfl rfl rfl rfl h7 ?_
      refine VR.p rfl rfl (VP.pickB true rfl h7 rfl) ?_
      exact J [_, _, _] _ rfl (congrArg VV.bool (Option.some.inj hm))
    · have h7 := bf h7
      refine VR.pG rfl rfl rfl rfl h7 (VP.loadP (i := 1) rfl rfl ld33 rfl) ?_
      obtain ⟨r2, h8, hm⟩ := bnd hm
      refine VR.consG rfl rfl rfl rfl h7 (VO.callK 0 rfl fn13 rfl (ref07_LightPod_ok c.P_ r2 h8) fun _ _ h9 => ?_)
      obtain ⟨rfl, rfl⟩ := h9
      refine VR.pG rfl rfl rfl rfl h7 (VP.not rfl) ?_
      refine VR.p rfl rfl (VP.pickB false rfl h7 rfl) ?_
      exact J [_, _, _] _ rfl (congrArg VV.bool (Option.some.inj hm))
  · refine VR.p rfl rfl (VP.move rfl) ?_
    obtain ⟨c3, h15, hm⟩ := bnd hm
    refine VR.sc 6 34 (.bool c3) (fun K' J => ?_) ?_
    · have hm := h15
      rcases ite_or hm with ⟨h11, hm⟩ | ⟨h11, hm⟩
      · refine VR.skipG rfl rfl rfl rfl h11 ?_
        refine VR.skipG rfl rfl rfl rfl h11 ?_
        refine VR.skipG rfl rfl rfl rfl h11 ?_
        refine VR.skipG rfl rfl rfl rfl h11 ?_
        refine VR.skipG rfl rfl rfl rfl h11 ?_
        refine VR.p rfl rfl (VP.pickB true rfl h11 rfl) ?_
        exact J [_, _, _, _, _] _ rfl (congrArg VV.bool (Option.some.inj hm))
      · have h11 := bf h11
        refine VR.pG rfl rfl rfl rfl h11 (VP.loadP (i := 2) rfl rfl ld27 rfl) ?_
        refine VR.consG rfl rfl rfl rfl h11 (VO.buildSlice ap37 rfl rfl rfl rfl rfl fun b6 => ?_)
        refine VR.shift (Shift.freezeE 0 [(30, .list 27 (List.map T_api_Machine.vv [c.M]))] rfl ⟨⟨_, rfl, .here _ rfl⟩, trivial⟩ (FzH.refl _)) ?_
        refine VR.pG rfl rfl rfl rfl h11 (VP.move rfl) ?_
        obtain ⟨r3, h13, hm⟩ := bnd hm
        refine VR.consG rfl rfl rfl rfl h11 (VO.callK 0 rfl fn14 rfl (ref09_Check_ok [c.M] c.Bs r3 h13) fun _ _ h14 => ?_)
        obtain ⟨rfl, rfl⟩ := h14
        refine VR.pG rfl rfl rfl rfl h11 (VP.arith rfl rfl rfl) ?_
        refine VR.p rfl rfl (VP.pickB false rfl h11 rfl) ?_
        exact J [_, _, _, _, _, _] _ rfl (congrArg VV.bool (Option.some.inj hm))
    · refine VR.p rfl rfl (VP.move rfl) ?_
      obtain ⟨c4, h19, hm⟩ := bnd hm
      refine VR.sc 4 39 (.bool c4) (fun K' J => ?_) ?_
      · have hm := h19
        rcases ite_or hm with ⟨h16, hm⟩ | ⟨h16, hm⟩
        · refine VR.skipG rfl rfl rfl rfl h16 ?_
          refine VR.skipG rfl rfl rfl rfl h16 ?_
          refine VR.skipG rfl rfl rfl rfl h16 ?_
          refine VR.p rfl rfl (VP.pickB true rfl h16 rfl) ?_
          exact J [_, _, _] _ rfl (congrArg VV.bool (Option.some.inj hm))
        · have h16 := bf h16
          refine VR.pG rfl rfl rfl rfl h16 (VP.loadP (i := 1) rfl rfl ld33 rfl) ?_
          obtain ⟨r4, h17, hm⟩ := bnd hm
          refine VR.consG rfl rfl rfl rfl h16 (VO.callK 0 rfl fn15 rfl (ref07_RightPod_ok c.P_ r4 h17) fun _ _ h18 => ?_)
          obtain ⟨rfl, rfl⟩ := h18
          refine VR.pG rfl rfl rfl rfl h16 (VP.not rfl) ?_
          refine VR.p rfl rfl (VP.pickB false rfl h16 rfl) ?_
          exact J [_, _, _] _ rfl (congrArg VV.bool (Option.some.inj hm))
      · refine VR.nil ?_
        rcases ite_or hm with ⟨h20, hm⟩ | ⟨h20, hm⟩
        · refine VW.condT rfl h20 ?_
          refine VW.seq ?_
          refine VW.region ?_
          obtain ⟨r5, h21, hm⟩ := bnd hm
          refine VR.cons rfl rfl (VO.callK 0 rfl fn16 rfl (law10_known_ok r5 h21) fun _ _ h22 => ?_)
          obtain ⟨rfl, rfl⟩ := h22
          refine VR.p rfl rfl (VP.assign rfl) ?_
          refine VR.nil ?_
          obtain rfl := Option.some.inj hm
          exact VW.ret ⟨.inl rfl, _, .cons (.tmp _ _ rfl) .nil, [], _, rfl, rfl, rfl⟩
        · have h20 := bf h20
          refine VW.condF rfl h20 ?_
          refine VW.skip ?_
          refine VW.seq ?_
          refine VW.seq ?_
          refine VW.region ?_
          refine VR.p rfl rfl (VP.loadP (i := 2) rfl rfl ld27 rfl) ?_
          refine VR.p rfl rfl (VP.move rfl) ?_
          refine VR.p rfl rfl (VP.loadP (i := 1) rfl rfl ld33 rfl) ?_
          obtain ⟨r6, h23, hm⟩ := bnd hm
          refine VR.cons rfl rfl (VO.callK 0 rfl fn17 rfl (suit_Suits_ok c.M c.Bs c.P_ r6 h23) fun _ _ h51 => ?_)
          obtain ⟨rfl, rfl⟩ := h51
          refine VR.p rfl rfl (VP.arith rfl rfl rfl) ?_
          refine VR.nil ?_
          rcases ite_or hm with ⟨h24, hm⟩ | ⟨h24, hm⟩
          · refine VW.condT rfl h24 ?_
            refine VW.seq ?_
            refine VW.region ?_
            obtain ⟨r7, h25, hm⟩ := bnd hm
            refine VR.cons rfl rfl (VO.callK 0 rfl fn16 rfl (law10_known_ok r7 h25) fun _ _ h26 => ?_)
            obtain ⟨rfl, rfl⟩ := h26
            refine VR.p rfl rfl (VP.assign rfl) ?_
            refine VR.nil ?_
            obtain rfl := Option.some.inj hm
            exact VW.ret ⟨.inl rfl, _, .cons (.tmp _ _ rfl) .nil, [], _, rfl, rfl, rfl⟩
          · have h24 := bf h24
            refine VW.condF rfl h24 ?_
            refine VW.skip ?_
            refine VW.seq ?_
            refine VW.region ?_
            refine VR.p rfl rfl (VP.loadP (i := 1) rfl rfl ld33 rfl) ?_
            refine VR.cons rfl rfl (VO.alloc z33 fun b7 => ?_)
            refine VR.cons rfl rfl (VO.storeP (i := 0) rfl rfl rfl ld33 rfl rfl rfl ?_)
            refine VR.nil ?_
            refine VW.seq ?_
            refine VW.region ?_
            refine VR.p rfl rfl (VP.fieldP rfl fa33_6) ?_
            refine VR.cons rfl rfl (VO.storeP (i := 0) rfl rfl rfl ld31 rfl rfl rfl ?_)
            refine VR.nil ?_
            obtain ⟨o, h28, h29⟩ := bnd hm
            refine VW.join (fun (q : T_api_Pod) => q = o) (fun (q_2 : T_api_Pod) (gg : Unit) => [(3, .ptr b2 0), (4, .list 49 (List.map T_api_Bound.vv c.Bs)), (5, .ptr b3 0), (7, .ptr b7 0)]) (fun (q_2 : T_api_Pod) (gg : Unit) => [.box b7 33 (T_api_Pod.cells q_2), .box b3 33 (T_api_Pod.cells c.P_), .box b2 27 (T_api_Machine.cells c.M)]) ?_ ?_
            · have hm := h28
              refine VW.seq ?_
              refine VW.region ?_
              refine VR.p rfl rfl (VP.loadP (i := 1) rfl rfl ld23 rfl) ?_
              obtain ⟨r8, h30, hm⟩ := bnd hm
              refine VR.cons rfl rfl (VO.callK 0 rfl fn18 rfl (ref04_Right_ok c.Less r8 h30) fun _ _ h34 => ?_)
              obtain ⟨rfl, rfl⟩ := h34
              refine VR.nil ?_
              rcases ite_or hm with ⟨h31, hm⟩ | ⟨h31, hm⟩
              · refine VW.condT rfl h31 ?_
                refine VW.seq ?_
                refine VW.region ?_
                refine VR.p rfl rfl (VP.fieldP rfl fa33_1) ?_
                refine VR.p rfl rfl (VP.loadP (i := 2) rfl rfl ld23 rfl) ?_
                refine VR.p rfl rfl (VP.loadP (i := 1) rfl rfl ld23 rfl) ?_
                obtain ⟨r9, h32, hm⟩ := bnd hm
                refine VR.cons rfl rfl (VO.callK 0 rfl fn19 rfl (ref04_Least_ok c.P_.Need c.Less r9 h32) fun _ _ h33 => ?_)
                obtain ⟨rfl, rfl⟩ := h33
                refine VR.p rfl rfl (VP.fieldP rfl fa33_1) ?_
                refine VR.cons rfl rfl (VO.storeP (i := 0) rfl rfl rfl ld23 rfl rfl rfl ?_)
                refine VR.nil ?_
                refine VW.region ?_
                refine VR.p rfl rfl (VP.fieldP rfl fa33_1) ?_
                refine VR.p rfl rfl (VP.fieldP rfl fa23_3) ?_
                refine VR.cons rfl rfl (VO.storeP (i := 0) rfl rfl rfl ld3 rfl rfl rfl ?_)
                refine VR.nil ?_
                exact ⟨(⟨c.P_.Name, (⟨r9.Cpu, r9.Mem, r9.Disk, (1 : Int), r9.Dev⟩ : T_api_Res), c.P_.Labels, c.P_.Select, c.P_.Terms, c.P_.Bears, ([] : List Int), c.P_.Apart, c.P_.Wide, c.P_.Spread, c.P_.Skew, c.P_.Rank, c.P_.Owner, c.P_.Daemon, c.P_.Pinned, c.P_.Local⟩ : T_api_Pod), (), Option.some.inj hm, (Shift.trans (Shift.nilRow 3) (Shift.trans (Shift.freezeE (H' := [.box b7 33 (T_api_Pod.cells (⟨c.P_.Name, (⟨r9.Cpu, r9.Mem, r9.Disk, (1 : Int), r9.Dev⟩ : T_api_Res), c.P_.Labels, c.P_.Select, c.P_.Terms, c.P_.Bears, ([] : List Int), c.P_.Apart, c.P_.Wide, c.P_.Spread, c.P_.Skew, c.P_.Rank, c.P_.Owner, c.P_.Daemon, c.P_.Pinned, c.P_.Local⟩ : T_api_Pod)), .box b4 23 (T_api_Res.cells c.Less), .box b3 33 (T_api_Pod.cells c.P_), .box b2 27 (T_api_Machine.cells c.M), .box b 35 (T_law10_Case.cells c)]) 0 [] rfl trivial ⟨.box _ _ _ _ ⟨.same _, .same _, .same _, .same _, .same _, .same _, .same _, .same _, .same _, .same _, .here _ rfl, .same _, .same _, .same _, .same _, .same _, .same _, .same _, .same _, .same _, trivial⟩, .same _, .same _, .same _, .same _, trivial⟩) (Shift.pick [0, 1, 1] rfl ⟨rfl, rfl, rfl, rfl, trivial⟩)))⟩
              · have h31 := bf h31
                refine VW.condF rfl h31 ?_
                refine VW.skip ?_
                exact ⟨(⟨c.P_.Name, c.P_.Need, c.P_.Labels, c.P_.Select, c.P_.Terms, c.P_.Bears, ([] : List Int), c.P_.Apart, c.P_.Wide, c.P_.Spread, c.P_.Skew, c.P_.Rank, c.P_.Owner, c.P_.Daemon, c.P_.Pinned, c.P_.Local⟩ : T_api_Pod), (), Option.some.inj hm, (Shift.trans (Shift.nilRow 3) (Shift.trans (Shift.freezeE (H' := [.box b7 33 (T_api_Pod.cells (⟨c.P_.Name, c.P_.Need, c.P_.Labels, c.P_.Select, c.P_.Terms, c.P_.Bears, ([] : List Int), c.P_.Apart, c.P_.Wide, c.P_.Spread, c.P_.Skew, c.P_.Rank, c.P_.Owner, c.P_.Daemon, c.P_.Pinned, c.P_.Local⟩ : T_api_Pod)), .box b4 23 (T_api_Res.cells c.Less), .box b3 33 (T_api_Pod.cells c.P_), .box b2 27 (T_api_Machine.cells c.M), .box b 35 (T_law10_Case.cells c)]) 0 [] rfl trivial ⟨.box _ _ _ _ ⟨.same _, .same _, .same _, .same _, .same _, .same _, .same _, .same _, .same _, .same _, .here _ rfl, .same _, .same _, .same _, .same _, .same _, .same _, .same _, .same _, .same _, trivial⟩, .same _, .same _, .same _, .same _, trivial⟩) (Shift.pick [0, 1, 1] rfl ⟨rfl, rfl, rfl, rfl, trivial⟩)))⟩
            · rintro q_2 _ rfl
              have hm := h29
              refine VW.seq ?_
              refine VW.seq ?_
              refine VW.region ?_
              refine VR.p rfl rfl (VP.loadP (i := 2) rfl rfl ld27 rfl) ?_
              refine VR.p rfl rfl (VP.move rfl) ?_
              refine VR.p rfl rfl (VP.loadP (i := 0) rfl rfl ld33 rfl) ?_
              obtain ⟨r10, h35, hm⟩ := bnd hm
              refine VR.cons rfl rfl (VO.callK 0 rfl fn17 rfl (suit_Suits_ok c.M c.Bs q_2 r10 h35) fun _ _ h50 => ?_)
              obtain ⟨rfl, rfl⟩ := h50
              refine VR.p rfl rfl (VP.arith rfl rfl rfl) ?_
              refine VR.nil ?_
              rcases ite_or hm with ⟨h36, hm⟩ | ⟨h36, hm⟩
              · refine VW.condT rfl h36 ?_
                refine VW.seq ?_
                refine VW.region ?_
                refine VR.p rfl rfl (VP.assign rfl) ?_
                refine VR.nil ?_
                obtain rfl := Option.some.inj hm
                exact VW.ret ⟨.inl rfl, _, .cons (.tmp _ _ rfl) .nil, [], _, rfl, rfl, rfl⟩
              · have h36 := bf h36
                refine VW.condF rfl h36 ?_
                refine VW.skip ?_
                refine VW.seq ?_
                refine VW.seq ?_
                refine VW.region ?_
                refine VR.p rfl rfl (VP.assign rfl) ?_
                refine VR.nil ?_
                obtain ⟨o2, h37, h38⟩ := bnd hm
                refine VW.joinE (fun (q : Unit) => o2 = Out.go q) (fun (j : Unit) (gg : Unit) => []) (fun (j : Unit) (gg : Unit) => []) ?_ ?_
                · have hm := h37
                  refine VW.block (VW.loop FU ?_)
                  refine VL.fuelS (R := _) (fun zn (zs : Int) => law10_SuitLess.l1 c zn zs) (fun (zs : Int) (zg : Unit) => [(3, .ptr b2 0), (4, .list 49 (List.map T_api_Bound.vv c.Bs)), (5, .ptr b3 0), (8, .int .i64 zs)]) (fun (zs : Int) (zg : Unit) => [.box b3 33 (T_api_Pod.cells c.P_), .box b2 27 (T_api_Machine.cells c.M)]) (0 : Int) () (fun zs => rfl) (Shift.pick [1, 1] rfl ⟨rfl, rfl, rfl, rfl, trivial⟩) h37 ?_
                  rintro n i2 _ hm
                  rw [law10_SuitLess.l1] at hm
                  refine VW.seq ?_
                  refine VW.seq ?_
                  refine VW.region ?_
                  refine VR.p rfl rfl (VP.move rfl) ?_
                  refine VR.p rfl rfl (VP.move rfl) ?_
                  refine VR.p rfl rfl (VP.lenT T_api_Bound.vv rfl Try.underlying28) ?_
                  refine VR.p rfl rfl (VP.arith rfl rfl rfl) ?_
                  refine VR.nil ?_
                  rcases ite_or hm with ⟨h39, hm⟩ | ⟨h39, hm⟩
                  · refine VW.condT rfl h39 ?_
                    refine VW.skip ?_
                    refine VW.seq ?_
                    refine VW.block ?_
                    refine VW.seq ?_
                    refine VW.region ?_
                    refine VR.p rfl rfl (VP.assign rfl) ?_
                    refine VR.nil ?_
                    refine VW.seq ?_
                    refine VW.region ?_
                    refine VR.p rfl rfl (VP.move rfl) ?_
                    refine VR.p rfl rfl (VP.move rfl) ?_
                    refine VR.p rfl rfl (VP.move rfl) ?_
                    obtain ⟨v, h40, hm⟩ := bnd hm
                    refine VR.p rfl rfl (VP.slT rfl rfl rfl el28 h40) ?_
                    refine VR.shift (Shift.nilRow 49) ?_
                    obtain ⟨l2, h42, hm⟩ := bnd hm
                    refine VR.cons rfl rfl (VO.apT 0 T_api_Bound.vv (l := ([] : List T_api_Bound)) (l2 := v) ap28 rfl rfl (sT_list T_api_Bound.vv el28 rfl rfl) h42 fun ob cap => ?_)
                    refine VR.p rfl rfl (VP.assign rfl) ?_
                    refine VR.nil ?_
                    refine VW.seq ?_
                    refine VW.region ?_
                    refine VR.p rfl rfl (VP.move rfl) ?_
                    refine VR.p rfl rfl (VP.move rfl) ?_
                    refine VR.p rfl rfl (VP.move rfl) ?_
                    refine VR.p rfl rfl (VP.arith rfl rfl rfl) ?_
                    obtain ⟨v2, h43, hm⟩ := bnd hm
                    refine VR.p rfl rfl (VP.slT rfl rfl rfl el28 h43) ?_
                    obtain ⟨fewer, h44, hm⟩ := bnd hm
                    refine VR.cons rfl rfl (VO.apT 0 T_api_Bound.vv (l := l2) (l2 := v2) ap28 rfl rfl (sT_list T_api_Bound.vv el28 rfl rfl) h44 fun ob2 cap2 => ?_)
                    refine VR.p rfl rfl (VP.assign rfl) ?_
                    refine VR.nil ?_
                    refine VW.seq ?_
                    refine VW.region ?_
                    refine VR.p rfl rfl (VP.loadP (i := 2) rfl rfl ld27 rfl) ?_
                    refine VR.p rfl rfl (VP.move rfl) ?_
                    refine VR.p rfl rfl (VP.loadP (i := 1) rfl rfl ld33 rfl) ?_
                    refine VR.shift (Shift.freezeE 0 [(79, .list 49 (List.map T_api_Bound.vv fewer)), (9, .list 49 (List.map T_api_Bound.vv fewer)), (81, .list 49 (List.map T_api_Bound.vv fewer))] rfl ⟨⟨_, rfl, .here _ rfl⟩, ⟨_, rfl, .here _ rfl⟩, ⟨_, rfl, .here _ rfl⟩, trivial⟩ (FzH.refl _)) ?_
                    obtain ⟨r11, h45, hm⟩ := bnd hm
                    refine VR.cons rfl rfl (VO.callK 0 rfl fn17 rfl (suit_Suits_ok c.M fewer c.P_ r11 h45) fun _ _ h47 => ?_)
                    obtain ⟨rfl, rfl⟩ := h47
                    refine VR.p rfl rfl (VP.arith rfl rfl rfl) ?_
                    refine VR.nil ?_
                    rcases ite_or hm with ⟨h46, hm⟩ | ⟨h46, hm⟩
                    · refine VW.condT rfl h46 ?_
                      refine VW.seq ?_
                      refine VW.region ?_
                      refine VR.p rfl rfl (VP.assign rfl) ?_
                      refine VR.nil ?_
                      obtain rfl := Option.some.inj hm
                      have hm := Out.ret_on h38
                      obtain rfl := Option.some.inj hm
                      exact VW.ret ⟨.inl rfl, _, .cons (.tmp _ _ rfl) .nil, [], _, rfl, rfl, rfl⟩
                    · have h46 := bf h46
                      refine VW.condF rfl h46 ?_
                      refine VW.skip ?_
                      refine VW.region ?_
                      refine VR.p rfl rfl (VP.move rfl) ?_
                      refine VR.p rfl rfl (VP.arith rfl rfl rfl) ?_
                      refine VR.p rfl rfl (VP.assign rfl) ?_
                      refine VR.nil ?_
                      exact ⟨(IntKind.i64.wrap (i2 + (1 : Int))), (), hm, (Shift.pick [0, 0] rfl ⟨rfl, rfl, rfl, rfl, trivial⟩)⟩
                  · have h39 := bf h39
                    refine VW.condF rfl h39 ?_
                    refine VW.exit ?_
                    exact ⟨(), (), (Option.some.inj hm).symm, (Shift.pick [] rfl trivial)⟩
                · rintro j _ rfl
                  have hm := Out.go_on h38
                  refine VW.seq ?_
                  refine VW.region ?_
                  obtain ⟨r12, h48, hm⟩ := bnd hm
                  refine VR.cons rfl rfl (VO.callK 0 rfl fn16 rfl (law10_known_ok r12 h48) fun _ _ h49 => ?_)
                  obtain ⟨rfl, rfl⟩ := h49
                  refine VR.p rfl rfl (VP.assign rfl) ?_
                  refine VR.nil ?_
                  obtain rfl := Option.some.inj hm
                  exact VW.ret ⟨.inl rfl, _, .cons (.tmp _ _ rfl) .nil, [], _, rfl, rfl, rfl⟩

/-! trireme/triremeref09.On -/
def ref09_On.l1 (bs : List T_api_Bound) (name : ByteArray) : Nat → (List T_api_Pod) → Int → Option (List T_api_Pod)
  | 0, _, _ => none
  | n + 1, out2, i2 =>
    if (decide (i2 < (bs.length : Int))) = true then
      (V.gl bs i2).bind fun x =>
      if (V.seq x.On name) = true then
        (V.gl bs i2).bind fun x2 =>
        (V.ap 272 out2 [x2.Pod]).bind fun out4 =>
        ref09_On.l1 bs name n out4 (IntKind.i64.wrap (i2 + (1 : Int)))
      else
        ref09_On.l1 bs name n out2 (IntKind.i64.wrap (i2 + (1 : Int)))
    else
      some out2
def ref09_On (bs : List T_api_Bound) (name : ByteArray) : Option (List T_api_Pod) :=
  (ref09_On.l1 bs name FU ([] : List T_api_Pod) (0 : Int)).bind fun out32 =>
  some out32
theorem ref09_On_ok (bs : List T_api_Bound) (name : ByteArray) (r : List T_api_Pod) (hm : ref09_On bs name = some r) :
    VC Try.prog 90 [.list 49 (List.map T_api_Bound.vv bs), .str name] [] (fun zx zH => ∃ (ob0 : Option Nat) (cap0 : Nat), zx = .sl ob0 (List.map T_api_Pod.vv r).length cap0 ∧ zH = [.row ob0 33 cap0 (List.map T_api_Pod.vv r)]) := by
  unfold ref09_On at hm
  refine VC.run (c := _) (rs := [.tmp 4]) Try.func90 rfl rfl rfl ?_
  refine VW.seq ?_
  refine VW.region ?_
  refine VR.p rfl rfl (VP.assign rfl) ?_
  refine VR.nil ?_
  refine VW.seq ?_
  refine VW.region ?_
  refine VR.p rfl rfl (VP.assign rfl) ?_
  refine VR.nil ?_
  refine VW.seq ?_
  refine VW.seq ?_
  refine VW.region ?_
  refine VR.p rfl rfl (VP.assign rfl) ?_
  refine VR.nil ?_
  obtain ⟨o, h3, h4⟩ := bnd hm
  refine VW.joinE (fun (q : List T_api_Pod) => q = o) (fun (out32 : List T_api_Pod) (gg : Option Nat × Nat) => [(5, .sl gg.1 (List.map T_api_Pod.vv out32).length gg.2)]) (fun (out32 : List T_api_Pod) (gg : Option Nat × Nat) => [.row gg.1 33 gg.2 (List.map T_api_Pod.vv out32)]) ?_ ?_
  · have hm := h3
    refine VW.block (VW.loop FU ?_)
    refine VL.fuelS (R := _) (fun zn (zs : List T_api_Pod × Int) => ref09_On.l1 bs name zn zs.1 zs.2) (fun (zs : List T_api_Pod × Int) (zg : Option Nat × Nat) => [(0, .list 49 (List.map T_api_Bound.vv bs)), (1, .str name), (5, .sl zg.1 (List.map T_api_Pod.vv zs.1).length zg.2), (6, .int .i64 zs.2)]) (fun (zs : List T_api_Pod × Int) (zg : Option Nat × Nat) => [.row zg.1 33 zg.2 (List.map T_api_Pod.vv zs.1)]) (([] : List T_api_Pod), (0 : Int)) (none, 0) (fun zs => rfl) (Shift.trans (Shift.nilRow 33) (Shift.pick [0] rfl ⟨rfl, rfl, rfl, rfl, trivial⟩)) h3 ?_
    rintro n ⟨out2, i2⟩ ⟨ob2, cap2⟩ hm
    rw [ref09_On.l1] at hm
    refine VW.seq ?_
    refine VW.seq ?_
    refine VW.region ?_
    refine VR.p rfl rfl (VP.move rfl) ?_
    refine VR.p rfl rfl (VP.move rfl) ?_
    refine VR.p rfl rfl (VP.lenT T_api_Bound.vv rfl Try.underlying28) ?_
    refine VR.p rfl rfl (VP.arith rfl rfl rfl) ?_
    refine VR.nil ?_
    rcases ite_or hm with ⟨h5, hm⟩ | ⟨h5, hm⟩
    · refine VW.condT rfl h5 ?_
      refine VW.skip ?_
      refine VW.seq ?_
      refine VW.block ?_
      refine VW.seq ?_
      refine VW.region ?_
      refine VR.p rfl rfl (VP.move rfl) ?_
      refine VR.p rfl rfl (VP.move rfl) ?_
      obtain ⟨x, h6, hm⟩ := bnd hm
      refine VR.p rfl rfl (VP.glE T_api_Bound.vv rfl rfl el28 h6) ?_
      refine VR.p rfl rfl (VP.fieldE rfl fa49_1) ?_
      refine VR.p rfl rfl (VP.loadE rfl ld9 rfl) ?_
      refine VR.p rfl rfl (VP.move rfl) ?_
      refine VR.p rfl rfl (VP.strop rfl rfl rfl) ?_
      refine VR.nil ?_
      rcases ite_or hm with ⟨h7, hm⟩ | ⟨h7, hm⟩
      · refine VW.condT rfl h7 ?_
        refine VW.region ?_
        refine VR.p rfl rfl (VP.move rfl) ?_
        refine VR.p rfl rfl (VP.move rfl) ?_
        refine VR.p rfl rfl (VP.move rfl) ?_
        obtain ⟨x2, h8, hm⟩ := bnd hm
        refine VR.p rfl rfl (VP.glE T_api_Bound.vv rfl rfl el28 h8) ?_
        refine VR.p rfl rfl (VP.fieldE rfl fa49_0) ?_
        refine VR.p rfl rfl (VP.loadE rfl ld33 rfl) ?_
        refine VR.cons rfl rfl (VO.buildSlice ap59 rfl rfl rfl rfl rfl fun b => ?_)
        obtain ⟨out4, h10, hm⟩ := bnd hm
        refine VR.cons rfl rfl (VO.apT 1 T_api_Pod.vv (l := out2) (l2 := [x2.Pod]) ap59 rfl rfl (sT_row 0 T_api_Pod.vv el59 rfl rfl) h10 fun ob4 cap4 => ?_)
        refine VR.p rfl rfl (VP.assign rfl) ?_
        refine VR.nil ?_
        refine VW.region ?_
        refine VR.p rfl rfl (VP.move rfl) ?_
        refine VR.p rfl rfl (VP.arith rfl rfl rfl) ?_
        refine VR.p rfl rfl (VP.assign rfl) ?_
        refine VR.nil ?_
        exact ⟨(out4, (IntKind.i64.wrap (i2 + (1 : Int)))), (ob4, cap4), hm, (Shift.pick [1] rfl ⟨rfl, rfl, rfl, rfl, trivial⟩)⟩
      · have h7 := bf h7
        refine VW.condF rfl h7 ?_
        refine VW.skip ?_
        refine VW.region ?_
        refine VR.p rfl rfl (VP.move rfl) ?_
        refine VR.p rfl rfl (VP.arith rfl rfl rfl) ?_
        refine VR.p rfl rfl (VP.assign rfl) ?_
        refine VR.nil ?_
        exact ⟨(out2, (IntKind.i64.wrap (i2 + (1 : Int)))), (ob2, cap2), hm, (Shift.pick [0] rfl ⟨rfl, rfl, rfl, rfl, trivial⟩)⟩
    · have h5 := bf h5
      refine VW.condF rfl h5 ?_
      refine VW.exit ?_
      exact ⟨out2, (ob2, cap2), Option.some.inj hm, (Shift.pick [0] rfl ⟨rfl, trivial⟩)⟩
  · rintro out32 ⟨ob3, cap3⟩ rfl
    have hm := h4
    refine VW.seq ?_
    refine VW.region ?_
    refine VR.p rfl rfl (VP.move rfl) ?_
    refine VR.p rfl rfl (VP.assign rfl) ?_
    refine VR.nil ?_
    obtain rfl := Option.some.inj hm
    exact VW.ret ⟨.inl rfl, _, .cons (.tmp _ _ rfl) .nil, [0], _, rfl, ob3, cap3, rfl, rfl⟩

/-! trireme/triremeref04.Add -/
def ref04_Add (a : T_api_Res) (b : T_api_Res) : Option (T_api_Res × Int) :=
  (ref04_Right a).bind fun r =>
  (if (!r) = true then some true else (ref04_Right b).bind fun r2 =>
  some (!r2)).bind fun c =>
  if c = true then
    some ((⟨(0 : Int), (0 : Int), (0 : Int), (0 : Int), (0 : Int)⟩ : T_api_Res), (1 : Int))
  else
    (ref04_Right (⟨(IntKind.i64.wrap (a.Cpu + b.Cpu)), (IntKind.i64.wrap (a.Mem + b.Mem)), (IntKind.i64.wrap (a.Disk + b.Disk)), (IntKind.i64.wrap (a.Pods + b.Pods)), (IntKind.i64.wrap (a.Dev + b.Dev))⟩ : T_api_Res)).bind fun r3 =>
    if (!r3) = true then
      some ((⟨(0 : Int), (0 : Int), (0 : Int), (0 : Int), (0 : Int)⟩ : T_api_Res), (10 : Int))
    else
      some ((⟨(IntKind.i64.wrap (a.Cpu + b.Cpu)), (IntKind.i64.wrap (a.Mem + b.Mem)), (IntKind.i64.wrap (a.Disk + b.Disk)), (IntKind.i64.wrap (a.Pods + b.Pods)), (IntKind.i64.wrap (a.Dev + b.Dev))⟩ : T_api_Res), (0 : Int))
theorem ref04_Add_ok (a : T_api_Res) (b : T_api_Res) (r : T_api_Res × Int) (hm : ref04_Add a b = some r) :
    VC Try.prog 31 [T_api_Res.vv a, T_api_Res.vv b] [] (fun zx zH => zx = .tup [T_api_Res.vv r.1, .int .i64 r.2] ∧ zH = []) := by
  unfold ref04_Add at hm
  refine VC.run (c := _) (rs := [.cell 4 23, .tmp 5]) Try.func31 rfl rfl rfl ?_
  refine VW.seq ?_
  refine VW.region ?_
  refine VR.cons rfl rfl (VO.box rfl rfl fun b2 => ?_)
  refine VR.cons rfl rfl (VO.box rfl rfl fun b3 => ?_)
  refine VR.cons rfl rfl (VO.alloc z23 fun b4 => ?_)
  refine VR.p rfl rfl (VP.assign rfl) ?_
  refine VR.nil ?_
  refine VW.seq ?_
  refine VW.seq ?_
  refine VW.region ?_
  refine VR.p rfl rfl (VP.loadP (i := 2) rfl rfl ld23 rfl) ?_
  obtain ⟨r, h4, hm⟩ := bnd hm
  refine VR.cons rfl rfl (VO.callK 0 rfl fn18 rfl (ref04_Right_ok a r h4) fun _ _ h14 => ?_)
  obtain ⟨rfl, rfl⟩ := h14
  refine VR.p rfl rfl (VP.not rfl) ?_
  refine VR.p rfl rfl (VP.move rfl) ?_
  obtain ⟨c, h8, hm⟩ := bnd hm
  refine VR.sc 4 14 (.bool c) (fun K' J => ?_) ?_
  · have hm := h8
    rcases ite_or hm with ⟨h5, hm⟩ | ⟨h5, hm⟩
    · refine VR.skipG rfl rfl rfl rfl h5 ?_
      refine VR.skipG rfl rfl rfl rfl h5 ?_
      refine VR.skipG rfl rfl rfl rfl h5 ?_
      refine VR.p rfl rfl (VP.pickB true rfl h5 rfl) ?_
      exact J [_, _, _] _ rfl (congrArg VV.bool (Option.some.inj hm))
    · have h5 := bf h5
      refine VR.pG rfl rfl rfl rfl h5 (VP.loadP (i := 1) rfl rfl ld23 rfl) ?_
      obtain ⟨r2, h6, hm⟩ := bnd hm
      refine VR.consG rfl rfl rfl rfl h5 (VO.callK 0 rfl fn18 rfl (ref04_Right_ok b r2 h6) fun _ _ h7 => ?_)
      obtain ⟨rfl, rfl⟩ := h7
      refine VR.pG rfl rfl rfl rfl h5 (VP.not rfl) ?_
      refine VR.p rfl rfl (VP.pickB false rfl h5 rfl) ?_
      exact J [_, _, _] _ rfl (congrArg VV.bool (Option.some.inj hm))
  · refine VR.nil ?_
    rcases ite_or hm with ⟨h9, hm⟩ | ⟨h9, hm⟩
    · refine VW.condT rfl h9 ?_
      refine VW.seq ?_
      refine VW.region ?_
      refine VR.p rfl rfl (VP.buildP pl23 rfl rfl) ?_
      refine VR.cons rfl rfl (VO.storeP (i := 0) rfl rfl rfl ld23 rfl rfl rfl ?_)
      refine VR.p rfl rfl (VP.assign rfl) ?_
      refine VR.nil ?_
      obtain rfl := Option.some.inj hm
      exact VW.ret ⟨.inl rfl, _, .cons (.cell _ _ _ _ 0 _ _ _ _ rfl rfl ld23 rfl) (.cons (.tmp _ _ rfl) .nil), [], _, rfl, rfl, rfl⟩
    · have h9 := bf h9
      refine VW.condF rfl h9 ?_
      refine VW.skip ?_
      refine VW.seq ?_
      refine VW.region ?_
      refine VR.p rfl rfl (VP.fieldP rfl fa23_0) ?_
      refine VR.p rfl rfl (VP.loadP (i := 2) rfl rfl ld3 rfl) ?_
      refine VR.p rfl rfl (VP.fieldP rfl fa23_0) ?_
      refine VR.p rfl rfl (VP.loadP (i := 1) rfl rfl ld3 rfl) ?_
      refine VR.p rfl rfl (VP.arith rfl rfl rfl) ?_
      refine VR.p rfl rfl (VP.fieldP rfl fa23_1) ?_
      refine VR.p rfl rfl (VP.loadP (i := 2) rfl rfl ld3 rfl) ?_
      refine VR.p rfl rfl (VP.fieldP rfl fa23_1) ?_
      refine VR.p rfl rfl (VP.loadP (i := 1) rfl rfl ld3 rfl) ?_
      refine VR.p rfl rfl (VP.arith rfl rfl rfl) ?_
      refine VR.p rfl rfl (VP.fieldP rfl fa23_2) ?_
      refine VR.p rfl rfl (VP.loadP (i := 2) rfl rfl ld3 rfl) ?_
      refine VR.p rfl rfl (VP.fieldP rfl fa23_2) ?_
      refine VR.p rfl rfl (VP.loadP (i := 1) rfl rfl ld3 rfl) ?_
      refine VR.p rfl rfl (VP.arith rfl rfl rfl) ?_
      refine VR.p rfl rfl (VP.fieldP rfl fa23_3) ?_
      refine VR.p rfl rfl (VP.loadP (i := 2) rfl rfl ld3 rfl) ?_
      refine VR.p rfl rfl (VP.fieldP rfl fa23_3) ?_
      refine VR.p rfl rfl (VP.loadP (i := 1) rfl rfl ld3 rfl) ?_
      refine VR.p rfl rfl (VP.arith rfl rfl rfl) ?_
      refine VR.p rfl rfl (VP.fieldP rfl fa23_4) ?_
      refine VR.p rfl rfl (VP.loadP (i := 2) rfl rfl ld3 rfl) ?_
      refine VR.p rfl rfl (VP.fieldP rfl fa23_4) ?_
      refine VR.p rfl rfl (VP.loadP (i := 1) rfl rfl ld3 rfl) ?_
      refine VR.p rfl rfl (VP.arith rfl rfl rfl) ?_
      refine VR.p rfl rfl (VP.buildP pl23 rfl rfl) ?_
      refine VR.cons rfl rfl (VO.alloc z23 fun b5 => ?_)
      refine VR.cons rfl rfl (VO.storeP (i := 0) rfl rfl rfl ld23 rfl rfl rfl ?_)
      refine VR.nil ?_
      refine VW.seq ?_
      refine VW.seq ?_
      refine VW.region ?_
      refine VR.p rfl rfl (VP.loadP (i := 0) rfl rfl ld23 rfl) ?_
      obtain ⟨r3, h11, hm⟩ := bnd hm
      refine VR.cons rfl rfl (VO.callK 0 rfl fn18 rfl (ref04_Right_ok (⟨(IntKind.i64.wrap (a.Cpu + b.Cpu)), (IntKind.i64.wrap (a.Mem + b.Mem)), (IntKind.i64.wrap (a.Disk + b.Disk)), (IntKind.i64.wrap (a.Pods + b.Pods)), (IntKind.i64.wrap (a.Dev + b.Dev))⟩ : T_api_Res) r3 h11) fun _ _ h13 => ?_)
      obtain ⟨rfl, rfl⟩ := h13
      refine VR.p rfl rfl (VP.not rfl) ?_
      refine VR.nil ?_
      rcases ite_or hm with ⟨h12, hm⟩ | ⟨h12, hm⟩
      · refine VW.condT rfl h12 ?_
        refine VW.seq ?_
        refine VW.region ?_
        refine VR.p rfl rfl (VP.buildP pl23 rfl rfl) ?_
        refine VR.cons rfl rfl (VO.storeP (i := 1) rfl rfl rfl ld23 rfl rfl rfl ?_)
        refine VR.p rfl rfl (VP.assign rfl) ?_
        refine VR.nil ?_
        obtain rfl := Option.some.inj hm
        exact VW.ret ⟨.inl rfl, _, .cons (.cell _ _ _ _ 1 _ _ _ _ rfl rfl ld23 rfl) (.cons (.tmp _ _ rfl) .nil), [], _, rfl, rfl, rfl⟩
      · have h12 := bf h12
        refine VW.condF rfl h12 ?_
        refine VW.skip ?_
        refine VW.seq ?_
        refine VW.region ?_
        refine VR.p rfl rfl (VP.loadP (i := 0) rfl rfl ld23 rfl) ?_
        refine VR.cons rfl rfl (VO.storeP (i := 1) rfl rfl rfl ld23 rfl rfl rfl ?_)
        refine VR.p rfl rfl (VP.assign rfl) ?_
        refine VR.nil ?_
        obtain rfl := Option.some.inj hm
        exact VW.ret ⟨.inl rfl, _, .cons (.cell _ _ _ _ 1 _ _ _ _ rfl rfl ld23 rfl) (.cons (.tmp _ _ rfl) .nil), [], _, rfl, rfl, rfl⟩

/-! trireme/triremeref09.Used -/
def ref09_Used.l1 (r : List T_api_Pod) : Nat → Int → Option (Out (T_api_Res × Int) Unit)
  | 0, _ => none
  | n + 1, i2 =>
    if (decide (i2 < (r.length : Int))) = true then
      (V.gl r i2).bind fun x =>
      (ref04_Right x.Need).bind fun r2 =>
      if (!r2) = true then
        some (Out.ret ((⟨(0 : Int), (0 : Int), (0 : Int), (0 : Int), (0 : Int)⟩ : T_api_Res), (12 : Int)))
      else
        ref09_Used.l1 r n (IntKind.i64.wrap (i2 + (1 : Int)))
    else
      some (Out.go ())
def ref09_Used.l2 (r : List T_api_Pod) : Nat → T_api_Res → Int → Option (Out (T_api_Res × Int) T_api_Res)
  | 0, _, _ => none
  | n2 + 1, sum2, i4 =>
    if (decide (i4 < (r.length : Int))) = true then
      (V.gl r i4).bind fun x2 =>
      (ref04_Add sum2 x2.Need).bind fun r3 =>
      if (r3.2 != (0 : Int)) = true then
        some (Out.ret ((⟨(0 : Int), (0 : Int), (0 : Int), (0 : Int), (0 : Int)⟩ : T_api_Res), r3.2))
      else
        ref09_Used.l2 r n2 r3.1 (IntKind.i64.wrap (i4 + (1 : Int)))
    else
      some (Out.go sum2)
def ref09_Used (bs : List T_api_Bound) (name : ByteArray) : Option (T_api_Res × Int) :=
  (ref09_On bs name).bind fun r =>
  (ref09_Used.l1 r FU (0 : Int)).bind fun o =>
  o.on fun j =>
  (ref09_Used.l2 r FU (⟨(0 : Int), (0 : Int), (0 : Int), (0 : Int), (0 : Int)⟩ : T_api_Res) (0 : Int)).bind fun o2 =>
  o2.on fun sum32 =>
  some (sum32, (0 : Int))
theorem ref09_Used_ok (bs : List T_api_Bound) (name : ByteArray) (r : T_api_Res × Int) (hm : ref09_Used bs name = some r) :
    VC Try.prog 54 [.list 49 (List.map T_api_Bound.vv bs), .str name] [] (fun zx zH => zx = .tup [T_api_Res.vv r.1, .int .i64 r.2] ∧ zH = []) := by
  unfold ref09_Used at hm
  refine VC.run (c := _) (rs := [.cell 4 23, .tmp 5]) Try.func54 rfl rfl rfl ?_
  refine VW.seq ?_
  refine VW.region ?_
  refine VR.cons rfl rfl (VO.alloc z23 fun b => ?_)
  refine VR.p rfl rfl (VP.assign rfl) ?_
  refine VR.nil ?_
  refine VW.seq ?_
  refine VW.region ?_
  refine VR.p rfl rfl (VP.move rfl) ?_
  refine VR.p rfl rfl (VP.move rfl) ?_
  obtain ⟨r, h2, hm⟩ := bnd hm
  refine VR.cons rfl rfl (VO.callK 0 rfl fn90 rfl (ref09_On_ok bs name r h2) fun _ _ h24 => ?_)
  obtain ⟨ob, cap, rfl, rfl⟩ := h24
  refine VR.shift (Shift.freezeE 0 [(14, .list 33 (List.map T_api_Pod.vv r))] rfl ⟨⟨_, rfl, .here _ rfl⟩, trivial⟩ (FzH.refl _)) ?_
  refine VR.p rfl rfl (VP.assign rfl) ?_
  refine VR.nil ?_
  refine VW.seq ?_
  refine VW.seq ?_
  refine VW.region ?_
  refine VR.p rfl rfl (VP.assign rfl) ?_
  refine VR.nil ?_
  obtain ⟨o, h4, h5⟩ := bnd hm
  refine VW.joinE (fun (q : Unit) => o = Out.go q) (fun (j : Unit) (gg : Unit) => [(4, .ptr b 0), (6, .list 33 (List.map T_api_Pod.vv r))]) (fun (j : Unit) (gg : Unit) => [.box b 23 (T_api_Res.cells (⟨(0 : Int), (0 : Int), (0 : Int), (0 : Int), (0 : Int)⟩ : T_api_Res))]) ?_ ?_
  · have hm := h4
    refine VW.block (VW.loop FU ?_)
    refine VL.fuelS (R := _) (fun zn (zs : Int) => ref09_Used.l1 r zn zs) (fun (zs : Int) (zg : Unit) => [(4, .ptr b 0), (6, .list 33 (List.map T_api_Pod.vv r)), (7, .int .i64 zs)]) (fun (zs : Int) (zg : Unit) => [.box b 23 (T_api_Res.cells (⟨(0 : Int), (0 : Int), (0 : Int), (0 : Int), (0 : Int)⟩ : T_api_Res))]) (0 : Int) () (fun zs => rfl) (Shift.pick [0] rfl ⟨rfl, rfl, rfl, trivial⟩) h4 ?_
    rintro n i2 _ hm
    rw [ref09_Used.l1] at hm
    refine VW.seq ?_
    refine VW.seq ?_
    refine VW.region ?_
    refine VR.p rfl rfl (VP.move rfl) ?_
    refine VR.p rfl rfl (VP.move rfl) ?_
    refine VR.p rfl rfl (VP.lenT T_api_Pod.vv rfl Try.underlying59) ?_
    refine VR.p rfl rfl (VP.arith rfl rfl rfl) ?_
    refine VR.nil ?_
    rcases ite_or hm with ⟨h6, hm⟩ | ⟨h6, hm⟩
    · refine VW.condT rfl h6 ?_
      refine VW.skip ?_
      refine VW.seq ?_
      refine VW.block ?_
      refine VW.seq ?_
      refine VW.region ?_
      refine VR.p rfl rfl (VP.move rfl) ?_
      refine VR.p rfl rfl (VP.move rfl) ?_
      obtain ⟨x, h7, hm⟩ := bnd hm
      refine VR.p rfl rfl (VP.glE T_api_Pod.vv rfl rfl el59 h7) ?_
      refine VR.p rfl rfl (VP.fieldE rfl fa33_1) ?_
      refine VR.p rfl rfl (VP.loadE rfl ld23 rfl) ?_
      obtain ⟨r2, h8, hm⟩ := bnd hm
      refine VR.cons rfl rfl (VO.callK 0 rfl fn18 rfl (ref04_Right_ok x.Need r2 h8) fun _ _ h10 => ?_)
      obtain ⟨rfl, rfl⟩ := h10
      refine VR.p rfl rfl (VP.not rfl) ?_
      refine VR.nil ?_
      rcases ite_or hm with ⟨h9, hm⟩ | ⟨h9, hm⟩
      · refine VW.condT rfl h9 ?_
        refine VW.seq ?_
        refine VW.region ?_
        refine VR.p rfl rfl (VP.buildP pl23 rfl rfl) ?_
        refine VR.cons rfl rfl (VO.storeP (i := 0) rfl rfl rfl ld23 rfl rfl rfl ?_)
        refine VR.p rfl rfl (VP.assign rfl) ?_
        refine VR.nil ?_
        obtain rfl := Option.some.inj hm
        have hm := Out.ret_on h5
        obtain rfl := Option.some.inj hm
        exact VW.ret ⟨.inl rfl, _, .cons (.cell _ _ _ _ 0 _ _ _ _ rfl rfl ld23 rfl) (.cons (.tmp _ _ rfl) .nil), [], _, rfl, rfl, rfl⟩
      · have h9 := bf h9
        refine VW.condF rfl h9 ?_
        refine VW.skip ?_
        refine VW.region ?_
        refine VR.p rfl rfl (VP.move rfl) ?_
        refine VR.p rfl rfl (VP.arith rfl rfl rfl) ?_
        refine VR.p rfl rfl (VP.assign rfl) ?_
        refine VR.nil ?_
        exact ⟨(IntKind.i64.wrap (i2 + (1 : Int))), (), hm, (Shift.pick [0] rfl ⟨rfl, rfl, rfl, trivial⟩)⟩
    · have h6 := bf h6
      refine VW.condF rfl h6 ?_
      refine VW.exit ?_
      exact ⟨(), (), (Option.some.inj hm).symm, (Shift.pick [0] rfl ⟨rfl, rfl, trivial⟩)⟩
  · rintro j _ rfl
    have hm := Out.go_on h5
    refine VW.seq ?_
    refine VW.region ?_
    refine VR.p rfl rfl (VP.buildP pl23 rfl rfl) ?_
    refine VR.cons rfl rfl (VO.alloc z23 fun b2 => ?_)
    refine VR.cons rfl rfl (VO.storeP (i := 0) rfl rfl rfl ld23 rfl rfl rfl ?_)
    refine VR.nil ?_
    refine VW.seq ?_
    refine VW.seq ?_
    refine VW.region ?_
    refine VR.p rfl rfl (VP.assign rfl) ?_
    refine VR.nil ?_
    obtain ⟨o2, h12, h13⟩ := bnd hm
    refine VW.joinE (fun (q : T_api_Res) => o2 = Out.go q) (fun (sum32 : T_api_Res) (gg : Unit) => [(4, .ptr b 0), (8, .ptr b2 0)]) (fun (sum32 : T_api_Res) (gg : Unit) => [.box b2 23 (T_api_Res.cells sum32), .box b 23 (T_api_Res.cells (⟨(0 : Int), (0 : Int), (0 : Int), (0 : Int), (0 : Int)⟩ : T_api_Res))]) ?_ ?_
    · have hm := h12
      refine VW.block (VW.loop FU ?_)
      refine VL.fuelS (R := _) (fun zn (zs : T_api_Res × Int) => ref09_Used.l2 r zn zs.1 zs.2) (fun (zs : T_api_Res × Int) (zg : Unit) => [(4, .ptr b 0), (6, .list 33 (List.map T_api_Pod.vv r)), (8, .ptr b2 0), (9, .int .i64 zs.2)]) (fun (zs : T_api_Res × Int) (zg : Unit) => [.box b2 23 (T_api_Res.cells zs.1), .box b 23 (T_api_Res.cells (⟨(0 : Int), (0 : Int), (0 : Int), (0 : Int), (0 : Int)⟩ : T_api_Res))]) ((⟨(0 : Int), (0 : Int), (0 : Int), (0 : Int), (0 : Int)⟩ : T_api_Res), (0 : Int)) () (fun zs => rfl) (Shift.pick [0, 0] rfl ⟨rfl, rfl, rfl, rfl, trivial⟩) h12 ?_
      rintro n2 ⟨sum2, i4⟩ _ hm
      rw [ref09_Used.l2] at hm
      refine VW.seq ?_
      refine VW.seq ?_
      refine VW.region ?_
      refine VR.p rfl rfl (VP.move rfl) ?_
      refine VR.p rfl rfl (VP.move rfl) ?_
      refine VR.p rfl rfl (VP.lenT T_api_Pod.vv rfl Try.underlying59) ?_
      refine VR.p rfl rfl (VP.arith rfl rfl rfl) ?_
      refine VR.nil ?_
      rcases ite_or hm with ⟨h14, hm⟩ | ⟨h14, hm⟩
      · refine VW.condT rfl h14 ?_
        refine VW.skip ?_
        refine VW.seq ?_
        refine VW.block ?_
        refine VW.seq ?_
        refine VW.drawK 0 mixed ?_
        refine VA.p 0 rfl rfl rfl (by kernel_rfl) (VP.loadP (i := 0) rfl rfl ld23 rfl) ?_
        refine VA.p 1 rfl rfl rfl (by kernel_rfl) (VP.move rfl) ?_
        refine VA.p 2 rfl rfl rfl (by kernel_rfl) (VP.move rfl) ?_
        obtain ⟨x2, h15, hm⟩ := bnd hm
        refine VA.p 3 rfl rfl rfl (by kernel_rfl) (VP.glE T_api_Pod.vv rfl rfl el59 h15) ?_
        refine VA.p 4 rfl rfl rfl (by kernel_rfl) (VP.fieldE rfl fa33_1) ?_
        refine VA.p 5 rfl rfl rfl (by kernel_rfl) (VP.loadE rfl ld23 rfl) ?_
        refine VA.all [6, 10] (by kernel_rfl) ⟨?_, ?_, trivial⟩
        · obtain ⟨r3, h16, hm⟩ := bnd hm
          refine VB.o rfl rfl rfl (VO.callK 0 rfl fn31 rfl (ref04_Add_ok sum2 x2.Need r3 h16) fun _ _ h19 => ?_)
          obtain ⟨rfl, rfl⟩ := h19
          refine VA.p 7 rfl rfl rfl (by kernel_rfl) (VP.move rfl) ?_
          refine VA.p 8 rfl rfl rfl (by kernel_rfl) (VP.extract rfl rfl) ?_
          refine VA.p 9 rfl rfl rfl (by kernel_rfl) (VP.extract rfl rfl) ?_
          refine VA.all [10] (by kernel_rfl) ⟨?_, trivial⟩
          refine VB.o rfl rfl rfl (VO.alloc z23 fun b3 => ?_)
          refine VA.all [11] (by kernel_rfl) ⟨?_, trivial⟩
          refine VB.o rfl rfl rfl (VO.storeP (i := 0) rfl rfl rfl ld23 rfl rfl rfl ?_)
          refine VA.p 12 rfl rfl rfl (by kernel_rfl) (VP.assign rfl) ?_
          refine VA.done (by kernel_rfl) ?_
          refine VW.seq ?_
          refine VW.seq ?_
          refine VW.region ?_
          refine VR.p rfl rfl (VP.move rfl) ?_
          refine VR.p rfl rfl (VP.arith rfl rfl rfl) ?_
          refine VR.nil ?_
          rcases ite_or hm with ⟨h18, hm⟩ | ⟨h18, hm⟩
          · refine VW.condT rfl h18 ?_
            refine VW.seq ?_
            refine VW.region ?_
            refine VR.p rfl rfl (VP.buildP pl23 rfl rfl) ?_
            refine VR.p rfl rfl (VP.move rfl) ?_
            refine VR.cons rfl rfl (VO.storeP (i := 2) rfl rfl rfl ld23 rfl rfl rfl ?_)
            refine VR.p rfl rfl (VP.assign rfl) ?_
            refine VR.nil ?_
            obtain rfl := Option.some.inj hm
            have hm := Out.ret_on h13
            obtain rfl := Option.some.inj hm
            exact VW.ret ⟨.inl rfl, _, .cons (.cell _ _ _ _ 2 _ _ _ _ rfl rfl ld23 rfl) (.cons (.tmp _ _ rfl) .nil), [], _, rfl, rfl, rfl⟩
          · have h18 := bf h18
            refine VW.condF rfl h18 ?_
            refine VW.skip ?_
            refine VW.region ?_
            refine VR.p rfl rfl (VP.loadP (i := 0) rfl rfl ld23 rfl) ?_
            refine VR.cons rfl rfl (VO.storeP (i := 1) rfl rfl rfl ld23 rfl rfl rfl ?_)
            refine VR.nil ?_
            refine VW.region ?_
            refine VR.p rfl rfl (VP.move rfl) ?_
            refine VR.p rfl rfl (VP.arith rfl rfl rfl) ?_
            refine VR.p rfl rfl (VP.assign rfl) ?_
            refine VR.nil ?_
            exact ⟨(r3.1, (IntKind.i64.wrap (i4 + (1 : Int)))), (), hm, (Shift.pick [1, 1] rfl ⟨rfl, rfl, rfl, rfl, trivial⟩)⟩
        · refine VB.o rfl rfl rfl (VO.alloc z23 fun b4 => ?_)
          refine VA.all [6] (by kernel_rfl) ⟨?_, trivial⟩
          obtain ⟨r4, h21, hm⟩ := bnd hm
          refine VB.o rfl rfl rfl (VO.callK 0 rfl fn31 rfl (ref04_Add_ok sum2 x2.Need r4 h21) fun _ _ h23 => ?_)
          obtain ⟨rfl, rfl⟩ := h23
          refine VA.p 7 rfl rfl rfl (by kernel_rfl) (VP.move rfl) ?_
          refine VA.p 8 rfl rfl rfl (by kernel_rfl) (VP.extract rfl rfl) ?_
          refine VA.p 9 rfl rfl rfl (by kernel_rfl) (VP.extract rfl rfl) ?_
          refine VA.all [11] (by kernel_rfl) ⟨?_, trivial⟩
          refine VB.o rfl rfl rfl (VO.storeP (i := 0) rfl rfl rfl ld23 rfl rfl rfl ?_)
          refine VA.p 12 rfl rfl rfl (by kernel_rfl) (VP.assign rfl) ?_
          refine VA.done (by kernel_rfl) ?_
          refine VW.seq ?_
          refine VW.seq ?_
          refine VW.region ?_
          refine VR.p rfl rfl (VP.move rfl) ?_
          refine VR.p rfl rfl (VP.arith rfl rfl rfl) ?_
          refine VR.nil ?_
          rcases ite_or hm with ⟨h22, hm⟩ | ⟨h22, hm⟩
          · refine VW.condT rfl h22 ?_
            refine VW.seq ?_
            refine VW.region ?_
            refine VR.p rfl rfl (VP.buildP pl23 rfl rfl) ?_
            refine VR.p rfl rfl (VP.move rfl) ?_
            refine VR.cons rfl rfl (VO.storeP (i := 2) rfl rfl rfl ld23 rfl rfl rfl ?_)
            refine VR.p rfl rfl (VP.assign rfl) ?_
            refine VR.nil ?_
            obtain rfl := Option.some.inj hm
            have hm := Out.ret_on h13
            obtain rfl := Option.some.inj hm
            exact VW.ret ⟨.inl rfl, _, .cons (.cell _ _ _ _ 2 _ _ _ _ rfl rfl ld23 rfl) (.cons (.tmp _ _ rfl) .nil), [], _, rfl, rfl, rfl⟩
          · have h22 := bf h22
            refine VW.condF rfl h22 ?_
            refine VW.skip ?_
            refine VW.region ?_
            refine VR.p rfl rfl (VP.loadP (i := 0) rfl rfl ld23 rfl) ?_
            refine VR.cons rfl rfl (VO.storeP (i := 1) rfl rfl rfl ld23 rfl rfl rfl ?_)
            refine VR.nil ?_
            refine VW.region ?_
            refine VR.p rfl rfl (VP.move rfl) ?_
            refine VR.p rfl rfl (VP.arith rfl rfl rfl) ?_
            refine VR.p rfl rfl (VP.assign rfl) ?_
            refine VR.nil ?_
            exact ⟨(r4.1, (IntKind.i64.wrap (i4 + (1 : Int)))), (), hm, (Shift.pick [1, 1] rfl ⟨rfl, rfl, rfl, rfl, trivial⟩)⟩
      · have h14 := bf h14
        refine VW.condF rfl h14 ?_
        refine VW.exit ?_
        exact ⟨sum2, (), (Option.some.inj hm).symm, (Shift.pick [0, 0] rfl ⟨rfl, rfl, trivial⟩)⟩
    · rintro sum32 _ rfl
      have hm := Out.go_on h13
      refine VW.seq ?_
      refine VW.region ?_
      refine VR.p rfl rfl (VP.loadP (i := 0) rfl rfl ld23 rfl) ?_
      refine VR.cons rfl rfl (VO.storeP (i := 1) rfl rfl rfl ld23 rfl rfl rfl ?_)
      refine VR.p rfl rfl (VP.assign rfl) ?_
      refine VR.nil ?_
      obtain rfl := Option.some.inj hm
      exact VW.ret ⟨.inl rfl, _, .cons (.cell _ _ _ _ 1 _ _ _ _ rfl rfl ld23 rfl) (.cons (.tmp _ _ rfl) .nil), [], _, rfl, rfl, rfl⟩

/-! trireme/triremeref09.Left -/
def ref09_Left (m : T_api_Machine) (bs : List T_api_Bound) : Option T_api_Res :=
  (ref09_Used bs m.Name).bind fun r =>
  (if (r.2 != (0 : Int)) = true then some true else (ref04_Right m.Has).bind fun r2 =>
  some (!r2)).bind fun c =>
  if c = true then
    some (⟨(0 : Int), (0 : Int), (0 : Int), (0 : Int), (0 : Int)⟩ : T_api_Res)
  else
    some (⟨(max (0 : Int) (IntKind.i64.wrap (m.Has.Cpu - r.1.Cpu))), (max (0 : Int) (IntKind.i64.wrap (m.Has.Mem - r.1.Mem))), (max (0 : Int) (IntKind.i64.wrap (m.Has.Disk - r.1.Disk))), (max (0 : Int) (IntKind.i64.wrap (m.Has.Pods - r.1.Pods))), (max (0 : Int) (IntKind.i64.wrap (m.Has.Dev - r.1.Dev)))⟩ : T_api_Res)
theorem ref09_Left_ok (m : T_api_Machine) (bs : List T_api_Bound) (r : T_api_Res) (hm : ref09_Left m bs = some r) :
    VC Try.prog 21 [T_api_Machine.vv m, .list 49 (List.map T_api_Bound.vv bs)] [] (fun zx zH => zx = T_api_Res.vv r ∧ zH = []) := by
  unfold ref09_Left at hm
  refine VC.run (c := _) (rs := [.cell 4 23]) Try.func21 rfl rfl rfl ?_
  refine VW.seq ?_
  refine VW.region ?_
  refine VR.cons rfl rfl (VO.box rfl rfl fun b => ?_)
  refine VR.cons rfl rfl (VO.alloc z23 fun b2 => ?_)
  refine VR.nil ?_
  refine VW.seq ?_
  refine VW.region ?_
  refine VR.p rfl rfl (VP.move rfl) ?_
  refine VR.p rfl rfl (VP.fieldP rfl fa27_0) ?_
  refine VR.p rfl rfl (VP.loadP (i := 1) rfl rfl ld9 rfl) ?_
  obtain ⟨r, h3, hm⟩ := bnd hm
  refine VR.cons rfl rfl (VO.callK 0 rfl fn54 rfl (ref09_Used_ok bs m.Name r h3) fun _ _ h11 => ?_)
  obtain ⟨rfl, rfl⟩ := h11
  refine VR.p rfl rfl (VP.move rfl) ?_
  refine VR.p rfl rfl (VP.extract rfl rfl) ?_
  refine VR.p rfl rfl (VP.extract rfl rfl) ?_
  refine VR.cons rfl rfl (VO.alloc z23 fun b3 => ?_)
  refine VR.cons rfl rfl (VO.storeP (i := 0) rfl rfl rfl ld23 rfl rfl rfl ?_)
  refine VR.p rfl rfl (VP.assign rfl) ?_
  refine VR.nil ?_
  refine VW.seq ?_
  refine VW.seq ?_
  refine VW.region ?_
  refine VR.p rfl rfl (VP.move rfl) ?_
  refine VR.p rfl rfl (VP.arith rfl rfl rfl) ?_
  refine VR.p rfl rfl (VP.move rfl) ?_
  obtain ⟨c, h8, hm⟩ := bnd hm
  refine VR.sc 5 22 (.bool c) (fun K' J => ?_) ?_
  · have hm := h8
    rcases ite_or hm with ⟨h5, hm⟩ | ⟨h5, hm⟩
    · refine VR.skipG rfl rfl rfl rfl h5 ?_
      refine VR.skipG rfl rfl rfl rfl h5 ?_
      refine VR.skipG rfl rfl rfl rfl h5 ?_
      refine VR.skipG rfl rfl rfl rfl h5 ?_
      refine VR.p rfl rfl (VP.pickB true rfl h5 rfl) ?_
      exact J [_, _, _, _] _ rfl (congrArg VV.bool (Option.some.inj hm))
    · have h5 := bf h5
      refine VR.pG rfl rfl rfl rfl h5 (VP.fieldP rfl fa27_2) ?_
      refine VR.pG rfl rfl rfl rfl h5 (VP.loadP (i := 2) rfl rfl ld23 rfl) ?_
      obtain ⟨r2, h6, hm⟩ := bnd hm
      refine VR.consG rfl rfl rfl rfl h5 (VO.callK 0 rfl fn18 rfl (ref04_Right_ok m.Has r2 h6) fun _ _ h7 => ?_)
      obtain ⟨rfl, rfl⟩ := h7
      refine VR.pG rfl rfl rfl rfl h5 (VP.not rfl) ?_
      refine VR.p rfl rfl (VP.pickB false rfl h5 rfl) ?_
      exact J [_, _, _, _] _ rfl (congrArg VV.bool (Option.some.inj hm))
  · refine VR.nil ?_
    rcases ite_or hm with ⟨h9, hm⟩ | ⟨h9, hm⟩
    · refine VW.condT rfl h9 ?_
      refine VW.seq ?_
      refine VW.region ?_
      refine VR.p rfl rfl (VP.buildP pl23 rfl rfl) ?_
      refine VR.cons rfl rfl (VO.storeP (i := 1) rfl rfl rfl ld23 rfl rfl rfl ?_)
      refine VR.nil ?_
      obtain rfl := Option.some.inj hm
      exact VW.ret ⟨.inl rfl, _, .cons (.cell _ _ _ _ 1 _ _ _ _ rfl rfl ld23 rfl) .nil, [], _, rfl, rfl, rfl⟩
    · have h9 := bf h9
      refine VW.condF rfl h9 ?_
      refine VW.skip ?_
      refine VW.seq ?_
      refine VW.region ?_
      refine VR.p rfl rfl (VP.fieldP rfl fa27_2) ?_
      refine VR.p rfl rfl (VP.loadP (i := 2) rfl rfl ld23 rfl) ?_
      refine VR.cons rfl rfl (VO.alloc z23 fun b4 => ?_)
      refine VR.cons rfl rfl (VO.storeP (i := 0) rfl rfl rfl ld23 rfl rfl rfl ?_)
      refine VR.nil ?_
      refine VW.seq ?_
      refine VW.region ?_
      refine VR.p rfl rfl (VP.fieldP rfl fa23_0) ?_
      refine VR.p rfl rfl (VP.loadP (i := 0) rfl rfl ld3 rfl) ?_
      refine VR.p rfl rfl (VP.fieldP rfl fa23_0) ?_
      refine VR.p rfl rfl (VP.loadP (i := 1) rfl rfl ld3 rfl) ?_
      refine VR.p rfl rfl (VP.arith rfl rfl rfl) ?_
      refine VR.p rfl rfl (VP.max2 rfl rfl) ?_
      refine VR.p rfl rfl (VP.fieldP rfl fa23_1) ?_
      refine VR.p rfl rfl (VP.loadP (i := 0) rfl rfl ld3 rfl) ?_
      refine VR.p rfl rfl (VP.fieldP rfl fa23_1) ?_
      refine VR.p rfl rfl (VP.loadP (i := 1) rfl rfl ld3 rfl) ?_
      refine VR.p rfl rfl (VP.arith rfl rfl rfl) ?_
      refine VR.p rfl rfl (VP.max2 rfl rfl) ?_
      refine VR.p rfl rfl (VP.fieldP rfl fa23_2) ?_
      refine VR.p rfl rfl (VP.loadP (i := 0) rfl rfl ld3 rfl) ?_
      refine VR.p rfl rfl (VP.fieldP rfl fa23_2) ?_
      refine VR.p rfl rfl (VP.loadP (i := 1) rfl rfl ld3 rfl) ?_
      refine VR.p rfl rfl (VP.arith rfl rfl rfl) ?_
      refine VR.p rfl rfl (VP.max2 rfl rfl) ?_
      refine VR.p rfl rfl (VP.fieldP rfl fa23_3) ?_
      refine VR.p rfl rfl (VP.loadP (i := 0) rfl rfl ld3 rfl) ?_
      refine VR.p rfl rfl (VP.fieldP rfl fa23_3) ?_
      refine VR.p rfl rfl (VP.loadP (i := 1) rfl rfl ld3 rfl) ?_
      refine VR.p rfl rfl (VP.arith rfl rfl rfl) ?_
      refine VR.p rfl rfl (VP.max2 rfl rfl) ?_
      refine VR.p rfl rfl (VP.fieldP rfl fa23_4) ?_
      refine VR.p rfl rfl (VP.loadP (i := 0) rfl rfl ld3 rfl) ?_
      refine VR.p rfl rfl (VP.fieldP rfl fa23_4) ?_
      refine VR.p rfl rfl (VP.loadP (i := 1) rfl rfl ld3 rfl) ?_
      refine VR.p rfl rfl (VP.arith rfl rfl rfl) ?_
      refine VR.p rfl rfl (VP.max2 rfl rfl) ?_
      refine VR.p rfl rfl (VP.buildP pl23 rfl rfl) ?_
      refine VR.cons rfl rfl (VO.storeP (i := 2) rfl rfl rfl ld23 rfl rfl rfl ?_)
      refine VR.nil ?_
      obtain rfl := Option.some.inj hm
      exact VW.ret ⟨.inl rfl, _, .cons (.cell _ _ _ _ 2 _ _ _ _ rfl rfl ld23 rfl) .nil, [], _, rfl, rfl, rfl⟩

/-! trireme/triremeref04.Times -/
def ref04_Times.l1 (n : Int) : Nat → (List Int) → Int → Option (Out (T_api_Res × Int) (List Int))
  | 0, _, _ => none
  | n2 + 1, l2, i2 =>
    if (decide (i2 < (5 : Int))) = true then
      (if (decide (n > (0 : Int))) = true then (V.gl l2 i2).bind fun x =>
      (V.quo (1125899906842624 : Int) n).bind fun v =>
      some (decide (x > (IntKind.i64.wrap v))) else some false).bind fun c =>
      if c = true then
        some (Out.ret ((⟨(0 : Int), (0 : Int), (0 : Int), (0 : Int), (0 : Int)⟩ : T_api_Res), (10 : Int)))
      else
        (V.gl l2 i2).bind fun x2 =>
        (V.gl l2 i2).bind fun x3 =>
        ref04_Times.l1 n n2 (List.set l2 (i2).toNat (IntKind.i64.wrap (x2 * n))) (IntKind.i64.wrap (i2 + (1 : Int)))
    else
      some (Out.go l2)
def ref04_Times (a : T_api_Res) (n : Int) : Option (T_api_Res × Int) :=
  (ref04_Right a).bind fun r =>
  if ((!r) || (decide (n < (0 : Int)))) = true then
    some ((⟨(0 : Int), (0 : Int), (0 : Int), (0 : Int), (0 : Int)⟩ : T_api_Res), (1 : Int))
  else
    (ref04_Times.l1 n FU [a.Cpu, a.Mem, a.Disk, a.Pods, a.Dev] (0 : Int)).bind fun o =>
    o.on fun l32 =>
    (V.gl l32 (0 : Int)).bind fun x4 =>
    (V.gl l32 (1 : Int)).bind fun x5 =>
    (V.gl l32 (2 : Int)).bind fun x6 =>
    (V.gl l32 (3 : Int)).bind fun x7 =>
    (V.gl l32 (4 : Int)).bind fun x8 =>
    some ((⟨x4, x5, x6, x7, x8⟩ : T_api_Res), (0 : Int))
theorem ref04_Times_ok (a : T_api_Res) (n : Int) (r : T_api_Res × Int) (hm : ref04_Times a n = some r) :
    VC Try.prog 22 [T_api_Res.vv a, .int .i64 n] [] (fun zx zH => zx = .tup [T_api_Res.vv r.1, .int .i64 r.2] ∧ zH = []) := by
  unfold ref04_Times at hm
  refine VC.run (c := _) (rs := [.cell 4 23, .tmp 5]) Try.func22 rfl rfl rfl ?_
  refine VW.seq ?_
  refine VW.region ?_
  refine VR.cons rfl rfl (VO.box rfl rfl fun b => ?_)
  refine VR.cons rfl rfl (VO.alloc z23 fun b2 => ?_)
  refine VR.p rfl rfl (VP.assign rfl) ?_
  refine VR.nil ?_
  refine VW.seq ?_
  refine VW.seq ?_
  refine VW.region ?_
  refine VR.p rfl rfl (VP.loadP (i := 1) rfl rfl ld23 rfl) ?_
  obtain ⟨r, h3, hm⟩ := bnd hm
  refine VR.cons rfl rfl (VO.callK 0 rfl fn18 rfl (ref04_Right_ok a r h3) fun _ _ h22 => ?_)
  obtain ⟨rfl, rfl⟩ := h22
  refine VR.p rfl rfl (VP.not rfl) ?_
  refine VR.p rfl rfl (VP.move rfl) ?_
  refine VR.sc 3 14 (.bool ((!r) || (decide (n < (0 : Int))))) (fun K' J => ?_) ?_
  · rcases Bool.eq_false_or_eq_true (!r) with h4 | h4
    · refine VR.skipG rfl rfl rfl rfl h4 ?_
      refine VR.skipG rfl rfl rfl rfl h4 ?_
      refine VR.p rfl rfl (VP.pickB true rfl h4 rfl) ?_
      exact J [_, _] _ rfl (orT h4)
    · refine VR.pG rfl rfl rfl rfl h4 (VP.move rfl) ?_
      refine VR.pG rfl rfl rfl rfl h4 (VP.arith rfl rfl rfl) ?_
      refine VR.p rfl rfl (VP.pickB false rfl h4 rfl) ?_
      exact J [_, _] _ rfl (orF h4)
  · refine VR.nil ?_
    rcases ite_or hm with ⟨h5, hm⟩ | ⟨h5, hm⟩
    · refine VW.condT rfl h5 ?_
      refine VW.seq ?_
      refine VW.region ?_
      refine VR.p rfl rfl (VP.buildP pl23 rfl rfl) ?_
      refine VR.cons rfl rfl (VO.storeP (i := 0) rfl rfl rfl ld23 rfl rfl rfl ?_)
      refine VR.p rfl rfl (VP.assign rfl) ?_
      refine VR.nil ?_
      obtain rfl := Option.some.inj hm
      exact VW.ret ⟨.inl rfl, _, .cons (.cell _ _ _ _ 0 _ _ _ _ rfl rfl ld23 rfl) (.cons (.tmp _ _ rfl) .nil), [], _, rfl, rfl, rfl⟩
    · have h5 := bf h5
      refine VW.condF rfl h5 ?_
      refine VW.skip ?_
      refine VW.seq ?_
      refine VW.region ?_
      refine VR.p rfl rfl (VP.fieldP rfl fa23_0) ?_
      refine VR.p rfl rfl (VP.loadP (i := 1) rfl rfl ld3 rfl) ?_
      refine VR.p rfl rfl (VP.fieldP rfl fa23_1) ?_
      refine VR.p rfl rfl (VP.loadP (i := 1) rfl rfl ld3 rfl) ?_
      refine VR.p rfl rfl (VP.fieldP rfl fa23_2) ?_
      refine VR.p rfl rfl (VP.loadP (i := 1) rfl rfl ld3 rfl) ?_
      refine VR.p rfl rfl (VP.fieldP rfl fa23_3) ?_
      refine VR.p rfl rfl (VP.loadP (i := 1) rfl rfl ld3 rfl) ?_
      refine VR.p rfl rfl (VP.fieldP rfl fa23_4) ?_
      refine VR.p rfl rfl (VP.loadP (i := 1) rfl rfl ld3 rfl) ?_
      refine VR.cons rfl rfl (VO.buildSlice ap31 rfl rfl rfl rfl rfl fun b3 => ?_)
      refine VR.p rfl rfl (VP.assign rfl) ?_
      refine VR.nil ?_
      refine VW.seq ?_
      refine VW.seq ?_
      refine VW.region ?_
      refine VR.p rfl rfl (VP.assign rfl) ?_
      refine VR.nil ?_
      obtain ⟨o, h7, h8⟩ := bnd hm
      refine VW.joinE (fun (q : List Int) => o = Out.go q) (fun (l32 : List Int) (gg : Unit) => [(4, .ptr b2 0), (6, .sl (some b3) (List.map (VV.int .i64) l32).length 5)]) (fun (l32 : List Int) (gg : Unit) => [.row (some b3) 3 5 (List.map (VV.int .i64) l32), .box b2 23 (T_api_Res.cells (⟨(0 : Int), (0 : Int), (0 : Int), (0 : Int), (0 : Int)⟩ : T_api_Res))]) ?_ ?_
      · have hm := h7
        refine VW.block (VW.loop FU ?_)
        refine VL.fuelS (R := _) (fun zn (zs : List Int × Int) => ref04_Times.l1 n zn zs.1 zs.2) (fun (zs : List Int × Int) (zg : Unit) => [(1, .int .i64 n), (4, .ptr b2 0), (6, .sl (some b3) (List.map (VV.int .i64) zs.1).length 5), (7, .int .i64 zs.2)]) (fun (zs : List Int × Int) (zg : Unit) => [.row (some b3) 3 5 (List.map (VV.int .i64) zs.1), .box b2 23 (T_api_Res.cells (⟨(0 : Int), (0 : Int), (0 : Int), (0 : Int), (0 : Int)⟩ : T_api_Res))]) ([a.Cpu, a.Mem, a.Disk, a.Pods, a.Dev], (0 : Int)) () (fun zs => rfl) (Shift.pick [0, 0] rfl ⟨rfl, rfl, rfl, rfl, trivial⟩) h7 ?_
        rintro n2 ⟨l2, i2⟩ _ hm
        rw [ref04_Times.l1] at hm
        refine VW.seq ?_
        refine VW.seq ?_
        refine VW.region ?_
        refine VR.p rfl rfl (VP.move rfl) ?_
        refine VR.p rfl rfl (VP.arith rfl rfl rfl) ?_
        refine VR.nil ?_
        rcases ite_or hm with ⟨h9, hm⟩ | ⟨h9, hm⟩
        · refine VW.condT rfl h9 ?_
          refine VW.skip ?_
          refine VW.seq ?_
          refine VW.block ?_
          refine VW.seq ?_
          refine VW.seq ?_
          refine VW.drawK 0 mixed ?_
          refine VA.p 0 rfl rfl rfl (by kernel_rfl) (VP.move rfl) ?_
          refine VA.p 1 rfl rfl rfl (by kernel_rfl) (VP.arith rfl rfl rfl) ?_
          refine VA.p 2 rfl rfl rfl (by kernel_rfl) (VP.move rfl) ?_
          obtain ⟨c, h13, hm⟩ := bnd hm
          refine VA.sc [10, 9, 8, 7, 6, 5, 4, 3, 2, 1, 0] 41 (.bool c) (fun K' J => ?_) ?_
          · have hm := h13
            rcases ite_or hm with ⟨h10, hm⟩ | ⟨h10, hm⟩
            · refine VA.pG 3 rfl rfl rfl rfl rfl h10 (by kernel_rfl) (VP.move rfl) ?_
              refine VA.pG 4 rfl rfl rfl rfl rfl h10 (by kernel_rfl) (VP.move rfl) ?_
              obtain ⟨x, h11, hm⟩ := bnd hm
              refine VA.pG 5 rfl rfl rfl rfl rfl h10 (by kernel_rfl) (VP.glR (VV.int .i64) rfl rfl el31 h11) ?_
              refine VA.pG 6 rfl rfl rfl rfl rfl h10 (by kernel_rfl) (VP.loadR (i := 0) (y := (VV.int .i64) x) rfl rfl rfl (gl_map _ (gl_some h11).2) ld3 rfl) ?_
              refine VA.pG 7 rfl rfl rfl rfl rfl h10 (by kernel_rfl) (VP.move rfl) ?_
              obtain ⟨v, h12, hm⟩ := bnd hm
              refine VA.pG 8 rfl rfl rfl rfl rfl h10 (by kernel_rfl) (VP.quoT rfl rfl h12) ?_
              refine VA.pG 9 rfl rfl rfl rfl rfl h10 (by kernel_rfl) (VP.arith rfl rfl rfl) ?_
              refine VA.p 10 rfl rfl rfl (by kernel_rfl) (VP.pickB true rfl h10 rfl) ?_
              exact J [_, _, _, _, _, _, _] _ rfl (congrArg VV.bool (Option.some.inj hm))
            · have h10 := bf h10
              refine VA.skipG 3 rfl rfl rfl rfl rfl h10 (by kernel_rfl) ?_
              refine VA.skipG 4 rfl rfl rfl rfl rfl h10 (by kernel_rfl) ?_
              refine VA.skipG 5 rfl rfl rfl rfl rfl h10 (by kernel_rfl) ?_
              refine VA.skipG 6 rfl rfl rfl rfl rfl h10 (by kernel_rfl) ?_
              refine VA.skipG 7 rfl rfl rfl rfl rfl h10 (by kernel_rfl) ?_
              refine VA.skipG 8 rfl rfl rfl rfl rfl h10 (by kernel_rfl) ?_
              refine VA.skipG 9 rfl rfl rfl rfl rfl h10 (by kernel_rfl) ?_
              refine VA.p 10 rfl rfl rfl (by kernel_rfl) (VP.pickB false rfl h10 rfl) ?_
              exact J [_, _, _, _, _, _, _] _ rfl (congrArg VV.bool (Option.some.inj hm))
          · refine VA.done (by kernel_rfl) ?_
            rcases ite_or hm with ⟨h14, hm⟩ | ⟨h14, hm⟩
            · refine VW.condT rfl h14 ?_
              refine VW.seq ?_
              refine VW.region ?_
              refine VR.p rfl rfl (VP.buildP pl23 rfl rfl) ?_
              refine VR.cons rfl rfl (VO.storeP (i := 1) rfl rfl rfl ld23 rfl rfl rfl ?_)
              refine VR.p rfl rfl (VP.assign rfl) ?_
              refine VR.nil ?_
              obtain rfl := Option.some.inj hm
              have hm := Out.ret_on h8
              obtain rfl := Option.some.inj hm
              exact VW.ret ⟨.inl rfl, _, .cons (.cell _ _ _ _ 1 _ _ _ _ rfl rfl ld23 rfl) (.cons (.tmp _ _ rfl) .nil), [], _, rfl, rfl, rfl⟩
            · have h14 := bf h14
              refine VW.condF rfl h14 ?_
              refine VW.skip ?_
              refine VW.region ?_
              refine VR.p rfl rfl (VP.move rfl) ?_
              refine VR.p rfl rfl (VP.move rfl) ?_
              refine VR.p rfl rfl (VP.move rfl) ?_
              refine VR.p rfl rfl (VP.move rfl) ?_
              obtain ⟨x2, h15, hm⟩ := bnd hm
              refine VR.p rfl rfl (VP.glR (VV.int .i64) rfl rfl el31 h15) ?_
              refine VR.p rfl rfl (VP.loadR (i := 0) (y := (VV.int .i64) x2) rfl rfl rfl (gl_map _ (gl_some h15).2) ld3 rfl) ?_
              refine VR.p rfl rfl (VP.move rfl) ?_
              refine VR.p rfl rfl (VP.arith rfl rfl rfl) ?_
              obtain ⟨x3, h16, hm⟩ := bnd hm
              refine VR.p rfl rfl (VP.glR (VV.int .i64) rfl rfl el31 h16) ?_
              refine VR.cons rfl rfl (VO.storeRT 0 (f := (VV.int .i64)) (l := l2) (q := x3) (q' := (IntKind.i64.wrap (x2 * n))) rfl rfl rfl rfl h16 ld3 rfl rfl rfl rfl ⟨rfl, List.all_eq_true.1 rfl⟩ ?_)
              refine VR.shift (Shift.reSl 6 (List.map (VV.int .i64) (List.set l2 (i2).toNat (IntKind.i64.wrap (x2 * n)))).length rfl (len_set _ _ _ _)) ?_
              refine VR.shift (Shift.reSl 43 (List.map (VV.int .i64) (List.set l2 (i2).toNat (IntKind.i64.wrap (x2 * n)))).length rfl (len_set _ _ _ _)) ?_
              refine VR.shift (Shift.reSl 45 (List.map (VV.int .i64) (List.set l2 (i2).toNat (IntKind.i64.wrap (x2 * n)))).length rfl (len_set _ _ _ _)) ?_
              refine VR.nil ?_
              refine VW.region ?_
              refine VR.p rfl rfl (VP.move rfl) ?_
              refine VR.p rfl rfl (VP.arith rfl rfl rfl) ?_
              refine VR.p rfl rfl (VP.assign rfl) ?_
              refine VR.nil ?_
              exact ⟨((List.set l2 (i2).toNat (IntKind.i64.wrap (x2 * n))), (IntKind.i64.wrap (i2 + (1 : Int)))), (), hm, (Shift.pick [0, 0] rfl ⟨rfl, rfl, rfl, rfl, trivial⟩)⟩
        · have h9 := bf h9
          refine VW.condF rfl h9 ?_
          refine VW.exit ?_
          exact ⟨l2, (), (Option.some.inj hm).symm, (Shift.pick [0, 0] rfl ⟨rfl, rfl, trivial⟩)⟩
      · rintro l32 _ rfl
        have hm := Out.go_on h8
        refine VW.seq ?_
        refine VW.shift (Shift.mem [1, 0] rfl) ?_
        refine VW.drawK 1 mixed ?_
        refine VA.p 0 rfl rfl rfl (by kernel_rfl) (VP.move rfl) ?_
        obtain ⟨x4, h17, hm⟩ := bnd hm
        refine VA.p 1 rfl rfl rfl (by kernel_rfl) (VP.glR (VV.int .i64) rfl rfl el31 h17) ?_
        refine VA.p 2 rfl rfl rfl (by kernel_rfl) (VP.loadR (i := 0) (y := (VV.int .i64) x4) rfl rfl rfl (gl_map _ (gl_some h17).2) ld3 rfl) ?_
        refine VA.p 3 rfl rfl rfl (by kernel_rfl) (VP.move rfl) ?_
        obtain ⟨x5, h18, hm⟩ := bnd hm
        refine VA.p 4 rfl rfl rfl (by kernel_rfl) (VP.glR (VV.int .i64) rfl rfl el31 h18) ?_
        refine VA.p 5 rfl rfl rfl (by kernel_rfl) (VP.loadR (i := 0) (y := (VV.int .i64) x5) rfl rfl rfl (gl_map _ (gl_some h18).2) ld3 rfl) ?_
        refine VA.p 6 rfl rfl rfl (by kernel_rfl) (VP.move rfl) ?_
        obtain ⟨x6, h19, hm⟩ := bnd hm
        refine VA.p 7 rfl rfl rfl (by kernel_rfl) (VP.glR (VV.int .i64) rfl rfl el31 h19) ?_
        refine VA.p 8 rfl rfl rfl (by kernel_rfl) (VP.loadR (i := 0) (y := (VV.int .i64) x6) rfl rfl rfl (gl_map _ (gl_some h19).2) ld3 rfl) ?_
        refine VA.p 9 rfl rfl rfl (by kernel_rfl) (VP.move rfl) ?_
        obtain ⟨x7, h20, hm⟩ := bnd hm
        refine VA.p 10 rfl rfl rfl (by kernel_rfl) (VP.glR (VV.int .i64) rfl rfl el31 h20) ?_
        refine VA.p 11 rfl rfl rfl (by kernel_rfl) (VP.loadR (i := 0) (y := (VV.int .i64) x7) rfl rfl rfl (gl_map _ (gl_some h20).2) ld3 rfl) ?_
        refine VA.p 12 rfl rfl rfl (by kernel_rfl) (VP.move rfl) ?_
        obtain ⟨x8, h21, hm⟩ := bnd hm
        refine VA.p 13 rfl rfl rfl (by kernel_rfl) (VP.glR (VV.int .i64) rfl rfl el31 h21) ?_
        refine VA.p 14 rfl rfl rfl (by kernel_rfl) (VP.loadR (i := 0) (y := (VV.int .i64) x8) rfl rfl rfl (gl_map _ (gl_some h21).2) ld3 rfl) ?_
        refine VA.p 15 rfl rfl rfl (by kernel_rfl) (VP.buildP pl23 rfl rfl) ?_
        refine VA.all [16] (by kernel_rfl) ⟨?_, trivial⟩
        refine VB.o rfl rfl rfl (VO.storeP (i := 0) rfl rfl rfl ld23 rfl rfl rfl ?_)
        refine VA.p 17 rfl rfl rfl (by kernel_rfl) (VP.assign rfl) ?_
        refine VA.done (by kernel_rfl) ?_
        obtain rfl := Option.some.inj hm
        exact VW.ret ⟨.inl rfl, _, .cons (.cell _ _ _ _ 0 _ _ _ _ rfl rfl ld23 rfl) (.cons (.tmp _ _ rfl) .nil), [], _, rfl, rfl, rfl⟩

/-! trireme/triremeref04.Fits -/
def ref04_Fits (a : T_api_Res) (b : T_api_Res) : Option Bool :=
  (ref04_Right a).bind fun r =>
  (if r = true then (ref04_Right b).bind fun r2 =>
  some r2 else some false).bind fun c =>
  some (((((c && (decide (a.Cpu ≤ b.Cpu))) && (decide (a.Mem ≤ b.Mem))) && (decide (a.Disk ≤ b.Disk))) && (decide (a.Pods ≤ b.Pods))) && (decide (a.Dev ≤ b.Dev)))
theorem ref04_Fits_ok (a : T_api_Res) (b : T_api_Res) (r : Bool) (hm : ref04_Fits a b = some r) :
    VC Try.prog 23 [T_api_Res.vv a, T_api_Res.vv b] [] (fun zx zH => zx = .bool r ∧ zH = []) := by
  unfold ref04_Fits at hm
  refine VC.run (c := _) (rs := [.tmp 4]) Try.func23 rfl rfl rfl ?_
  refine VW.seq ?_
  refine VW.region ?_
  refine VR.cons rfl rfl (VO.box rfl rfl fun b2 => ?_)
  refine VR.cons rfl rfl (VO.box rfl rfl fun b3 => ?_)
  refine VR.p rfl rfl (VP.assign rfl) ?_
  refine VR.nil ?_
  refine VW.seq ?_
  refine VW.region ?_
  refine VR.p rfl rfl (VP.loadP (i := 1) rfl rfl ld23 rfl) ?_
  obtain ⟨r, h3, hm⟩ := bnd hm
  refine VR.cons rfl rfl (VO.callK 0 rfl fn18 rfl (ref04_Right_ok a r h3) fun _ _ h13 => ?_)
  obtain ⟨rfl, rfl⟩ := h13
  refine VR.p rfl rfl (VP.move rfl) ?_
  obtain ⟨c, h7, hm⟩ := bnd hm
  refine VR.sc 3 10 (.bool c) (fun K' J => ?_) ?_
  · have hm := h7
    rcases ite_or hm with ⟨h4, hm⟩ | ⟨h4, hm⟩
    · refine VR.pG rfl rfl rfl rfl h4 (VP.loadP (i := 0) rfl rfl ld23 rfl) ?_
      obtain ⟨r2, h5, hm⟩ := bnd hm
      refine VR.consG rfl rfl rfl rfl h4 (VO.callK 0 rfl fn18 rfl (ref04_Right_ok b r2 h5) fun _ _ h6 => ?_)
      obtain ⟨rfl, rfl⟩ := h6
      refine VR.p rfl rfl (VP.pickB true rfl h4 rfl) ?_
      exact J [_, _] _ rfl (congrArg VV.bool (Option.some.inj hm))
    · have h4 := bf h4
      refine VR.skipG rfl rfl rfl rfl h4 ?_
      refine VR.skipG rfl rfl rfl rfl h4 ?_
      refine VR.p rfl rfl (VP.pickB false rfl h4 rfl) ?_
      exact J [_, _] _ rfl (congrArg VV.bool (Option.some.inj hm))
  · refine VR.p rfl rfl (VP.move rfl) ?_
    refine VR.sc 6 17 (.bool (c && (decide (a.Cpu ≤ b.Cpu)))) (fun K' J => ?_) ?_
    · rcases Bool.eq_false_or_eq_true c with h8 | h8
      · refine VR.pG rfl rfl rfl rfl h8 (VP.fieldP rfl fa23_0) ?_
        refine VR.pG rfl rfl rfl rfl h8 (VP.loadP (i := 1) rfl rfl ld3 rfl) ?_
        refine VR.pG rfl rfl rfl rfl h8 (VP.fieldP rfl fa23_0) ?_
        refine VR.pG rfl rfl rfl rfl h8 (VP.loadP (i := 0) rfl rfl ld3 rfl) ?_
        refine VR.pG rfl rfl rfl rfl h8 (VP.arith rfl rfl rfl) ?_
        refine VR.p rfl rfl (VP.pickB true rfl h8 rfl) ?_
        exact J [_, _, _, _, _] _ rfl (andT h8)
      · refine VR.skipG rfl rfl rfl rfl h8 ?_
        refine VR.skipG rfl rfl rfl rfl h8 ?_
        refine VR.skipG rfl rfl rfl rfl h8 ?_
        refine VR.skipG rfl rfl rfl rfl h8 ?_
        refine VR.skipG rfl rfl rfl rfl h8 ?_
        refine VR.p rfl rfl (VP.pickB false rfl h8 rfl) ?_
        exact J [_, _, _, _, _] _ rfl (andF h8)
    · refine VR.p rfl rfl (VP.move rfl) ?_
      refine VR.sc 6 24 (.bool ((c && (decide (a.Cpu ≤ b.Cpu))) && (decide (a.Mem ≤ b.Mem)))) (fun K' J => ?_) ?_
      · rcases Bool.eq_false_or_eq_true (c && (decide (a.Cpu ≤ b.Cpu))) with h9 | h9
        · refine VR.pG rfl rfl rfl rfl h9 (VP.fieldP rfl fa23_1) ?_
          refine VR.pG rfl rfl rfl rfl h9 (VP.loadP (i := 1) rfl rfl ld3 rfl) ?_
          refine VR.pG rfl rfl rfl rfl h9 (VP.fieldP rfl fa23_1) ?_
          refine VR.pG rfl rfl rfl rfl h9 (VP.loadP (i := 0) rfl rfl ld3 rfl) ?_
          refine VR.pG rfl rfl rfl rfl h9 (VP.arith rfl rfl rfl) ?_
          refine VR.p rfl rfl (VP.pickB true rfl h9 rfl) ?_
          exact J [_, _, _, _, _] _ rfl (andT h9)
        · refine VR.skipG rfl rfl rfl rfl h9 ?_
          refine VR.skipG rfl rfl rfl rfl h9 ?_
          refine VR.skipG rfl rfl rfl rfl h9 ?_
          refine VR.skipG rfl rfl rfl rfl h9 ?_
          refine VR.skipG rfl rfl rfl rfl h9 ?_
          refine VR.p rfl rfl (VP.pickB false rfl h9 rfl) ?_
          exact J [_, _, _, _, _] _ rfl (andF h9)
      · refine VR.p rfl rfl (VP.move rfl) ?_
        refine VR.sc 6 31 (.bool (((c && (decide (a.Cpu ≤ b.Cpu))) && (decide (a.Mem ≤ b.Mem))) && (decide (a.Disk ≤ b.Disk)))) (fun K' J => ?_) ?_
        · rcases Bool.eq_false_or_eq_true ((c && (decide (a.Cpu ≤ b.Cpu))) && (decide (a.Mem ≤ b.Mem))) with h10 | h10
          · refine VR.pG rfl rfl rfl rfl h10 (VP.fieldP rfl fa23_2) ?_
            refine VR.pG rfl rfl rfl rfl h10 (VP.loadP (i := 1) rfl rfl ld3 rfl) ?_
            refine VR.pG rfl rfl rfl rfl h10 (VP.fieldP rfl fa23_2) ?_
            refine VR.pG rfl rfl rfl rfl h10 (VP.loadP (i := 0) rfl rfl ld3 rfl) ?_
            refine VR.pG rfl rfl rfl rfl h10 (VP.arith rfl rfl rfl) ?_
            refine VR.p rfl rfl (VP.pickB true rfl h10 rfl) ?_
            exact J [_, _, _, _, _] _ rfl (andT h10)
          · refine VR.skipG rfl rfl rfl rfl h10 ?_
            refine VR.skipG rfl rfl rfl rfl h10 ?_
            refine VR.skipG rfl rfl rfl rfl h10 ?_
            refine VR.skipG rfl rfl rfl rfl h10 ?_
            refine VR.skipG rfl rfl rfl rfl h10 ?_
            refine VR.p rfl rfl (VP.pickB false rfl h10 rfl) ?_
            exact J [_, _, _, _, _] _ rfl (andF h10)
        · refine VR.p rfl rfl (VP.move rfl) ?_
          refine VR.sc 6 38 (.bool ((((c && (decide (a.Cpu ≤ b.Cpu))) && (decide (a.Mem ≤ b.Mem))) && (decide (a.Disk ≤ b.Disk))) && (decide (a.Pods ≤ b.Pods)))) (fun K' J => ?_) ?_
          · rcases Bool.eq_false_or_eq_true (((c && (decide (a.Cpu ≤ b.Cpu))) && (decide (a.Mem ≤ b.Mem))) && (decide (a.Disk ≤ b.Disk))) with h11 | h11
            · refine VR.pG rfl rfl rfl rfl h11 (VP.fieldP rfl fa23_3) ?_
              refine VR.pG rfl rfl rfl rfl h11 (VP.loadP (i := 1) rfl rfl ld3 rfl) ?_
              refine VR.pG rfl rfl rfl rfl h11 (VP.fieldP rfl fa23_3) ?_
              refine VR.pG rfl rfl rfl rfl h11 (VP.loadP (i := 0) rfl rfl ld3 rfl) ?_
              refine VR.pG rfl rfl rfl rfl h11 (VP.arith rfl rfl rfl) ?_
              refine VR.p rfl rfl (VP.pickB true rfl h11 rfl) ?_
              exact J [_, _, _, _, _] _ rfl (andT h11)
            · refine VR.skipG rfl rfl rfl rfl h11 ?_
              refine VR.skipG rfl rfl rfl rfl h11 ?_
              refine VR.skipG rfl rfl rfl rfl h11 ?_
              refine VR.skipG rfl rfl rfl rfl h11 ?_
              refine VR.skipG rfl rfl rfl rfl h11 ?_
              refine VR.p rfl rfl (VP.pickB false rfl h11 rfl) ?_
              exact J [_, _, _, _, _] _ rfl (andF h11)
          · refine VR.p rfl rfl (VP.move rfl) ?_
            refine VR.sc 6 45 (.bool (((((c && (decide (a.Cpu ≤ b.Cpu))) && (decide (a.Mem ≤ b.Mem))) && (decide (a.Disk ≤ b.Disk))) && (decide (a.Pods ≤ b.Pods))) && (decide (a.Dev ≤ b.Dev)))) (fun K' J => ?_) ?_
            · rcases Bool.eq_false_or_eq_true ((((c && (decide (a.Cpu ≤ b.Cpu))) && (decide (a.Mem ≤ b.Mem))) && (decide (a.Disk ≤ b.Disk))) && (decide (a.Pods ≤ b.Pods))) with h12 | h12
              · refine VR.pG rfl rfl rfl rfl h12 (VP.fieldP rfl fa23_4) ?_
                refine VR.pG rfl rfl rfl rfl h12 (VP.loadP (i := 1) rfl rfl ld3 rfl) ?_
                refine VR.pG rfl rfl rfl rfl h12 (VP.fieldP rfl fa23_4) ?_
                refine VR.pG rfl rfl rfl rfl h12 (VP.loadP (i := 0) rfl rfl ld3 rfl) ?_
                refine VR.pG rfl rfl rfl rfl h12 (VP.arith rfl rfl rfl) ?_
                refine VR.p rfl rfl (VP.pickB true rfl h12 rfl) ?_
                exact J [_, _, _, _, _] _ rfl (andT h12)
              · refine VR.skipG rfl rfl rfl rfl h12 ?_
                refine VR.skipG rfl rfl rfl rfl h12 ?_
                refine VR.skipG rfl rfl rfl rfl h12 ?_
                refine VR.skipG rfl rfl rfl rfl h12 ?_
                refine VR.skipG rfl rfl rfl rfl h12 ?_
                refine VR.p rfl rfl (VP.pickB false rfl h12 rfl) ?_
                exact J [_, _, _, _, _] _ rfl (andF h12)
            · refine VR.p rfl rfl (VP.assign rfl) ?_
              refine VR.nil ?_
              obtain rfl := Option.some.inj hm
              exact VW.ret ⟨.inl rfl, _, .cons (.tmp _ _ rfl) .nil, [], _, rfl, rfl, rfl⟩

/-! trireme/triremelaw10.SuitFull -/
def law10_SuitFull (m : T_api_Machine) (bs : List T_api_Bound) (p : T_api_Pod) : Option Bool :=
  (ref09_Light [m] bs).bind fun r =>
  (if (!r) = true then some true else (ref07_LightPod p).bind fun r2 =>
  some (!r2)).bind fun c =>
  (if c = true then some true else (ref09_Check [m] bs).bind fun r3 =>
  some (r3 != (0 : Int))).bind fun c2 =>
  (if c2 = true then some true else (ref07_RightPod p).bind fun r4 =>
  some (!r4)).bind fun c3 =>
  (if c3 = true then some true else (ref09_Place bs p.Name).bind fun r5 =>
  some (decide (r5 ≥ (0 : Int)))).bind fun c4 =>
  if c4 = true then
    (law10_known).bind fun r6 =>
    some r6
  else
    (suit_Suits m bs p).bind fun r7 =>
    if (r7 != (0 : Int)) = true then
      (law10_known).bind fun r8 =>
      some r8
    else
      (ref09_Left m bs).bind fun r9 =>
      (V.ap 288 [] bs).bind fun l =>
      (V.ap 288 l [(⟨p, m.Name⟩ : T_api_Bound)]).bind fun more =>
      (ref09_Place more (⟨#[115, 101, 99, 111, 110, 100]⟩ : ByteArray)).bind fun r10 =>
      if (decide (r10 ≥ (0 : Int))) = true then
        (law10_known).bind fun r11 =>
        some r11
      else
        (ref04_Times p.Need (2 : Int)).bind fun r12 =>
        (if (r12.2 == (0 : Int)) = true then (ref04_Fits r12.1 r9).bind fun r13 =>
        some r13 else some false).bind fun c5 =>
        (if (!c5) = true then
          some (2 : Int)
        else
          if (decide ((p.Ports.length : Int) > (0 : Int))) = true then
            some (3 : Int)
          else
            some (0 : Int)).bind fun want2 =>
        (suit_Suits m more p).bind fun r14 =>
        (if (r14 == (0 : Int)) = true then (suit_Suits m more (⟨(⟨#[115, 101, 99, 111, 110, 100]⟩ : ByteArray), p.Need, p.Labels, p.Select, p.Terms, p.Bears, p.Ports, p.Apart, p.Wide, p.Spread, p.Skew, p.Rank, p.Owner, p.Daemon, p.Pinned, p.Local⟩ : T_api_Pod)).bind fun r15 =>
        some (r15 == want2) else some false).bind fun c6 =>
        (if c6 = true then (law10_known).bind fun r16 =>
        some r16 else some false).bind fun c7 =>
        some c7
theorem law10_SuitFull_ok (m : T_api_Machine) (bs : List T_api_Bound) (p : T_api_Pod) (r : Bool) (hm : law10_SuitFull m bs p = some r) :
    VC Try.prog 4 [T_api_Machine.vv m, .list 49 (List.map T_api_Bound.vv bs), T_api_Pod.vv p] [] (fun zx zH => zx = .bool r ∧ zH = []) := by
  unfold law10_SuitFull at hm
  refine VC.run (c := _) (rs := [.tmp 6]) Try.func4 rfl rfl rfl ?_
  refine VW.seq ?_
  refine VW.region ?_
  refine VR.cons rfl rfl (VO.box rfl rfl fun b => ?_)
  refine VR.cons rfl rfl (VO.box rfl rfl fun b2 => ?_)
  refine VR.p rfl rfl (VP.assign rfl) ?_
  refine VR.nil ?_
  refine VW.seq ?_
  refine VW.seq ?_
  refine VW.region ?_
  refine VR.p rfl rfl (VP.loadP (i := 1) rfl rfl ld27 rfl) ?_
  refine VR.cons rfl rfl (VO.buildSlice ap37 rfl rfl rfl rfl rfl fun b3 => ?_)
  refine VR.shift (Shift.freezeE 0 [(15, .list 27 (List.map T_api_Machine.vv [m]))] rfl ⟨⟨_, rfl, .here _ rfl⟩, trivial⟩ (FzH.refl _)) ?_
  refine VR.p rfl rfl (VP.move rfl) ?_
  obtain ⟨r, h4, hm⟩ := bnd hm
  refine VR.cons rfl rfl (VO.callK 0 rfl fn12 rfl (ref09_Light_ok [m] bs r h4) fun _ _ h64 => ?_)
  obtain ⟨rfl, rfl⟩ := h64
  refine VR.p rfl rfl (VP.not rfl) ?_
  refine VR.p rfl rfl (VP.move rfl) ?_
  obtain ⟨c, h8, hm⟩ := bnd hm
  refine VR.sc 4 23 (.bool c) (fun K' J => ?_) ?_
  · have hm := h8
    rcases ite_or hm with ⟨h5, hm⟩ | ⟨h5, hm⟩
    · refine VR.skipG rfl rfl rfl rfl h5 ?_
      refine VR.skipG rfl rfl rfl rfl h5 ?_
      refine VR.skipG rfl rfl rfl rfl h5 ?_
      refine VR.p rfl rfl (VP.pickB true rfl h5 rfl) ?_
      exact J [_, _, _] _ rfl (congrArg VV.bool (Option.some.inj hm))
    · have h5 := bf h5
      refine VR.pG rfl rfl rfl rfl h5 (VP.loadP (i := 0) rfl rfl ld33 rfl) ?_
      obtain ⟨r2, h6, hm⟩ := bnd hm
      refine VR.consG rfl rfl rfl rfl h5 (VO.callK 0 rfl fn13 rfl (ref07_LightPod_ok p r2 h6) fun _ _ h7 => ?_)
      obtain ⟨rfl, rfl⟩ := h7
      refine VR.pG rfl rfl rfl rfl h5 (VP.not rfl) ?_
      refine VR.p rfl rfl (VP.pickB false rfl h5 rfl) ?_
      exact J [_, _, _] _ rfl (congrArg VV.bool (Option.some.inj hm))
  · refine VR.p rfl rfl (VP.move rfl) ?_
    obtain ⟨c2, h13, hm⟩ := bnd hm
    refine VR.sc 6 30 (.bool c2) (fun K' J => ?_) ?_
    · have hm := h13
      rcases ite_or hm with ⟨h9, hm⟩ | ⟨h9, hm⟩
      · refine VR.skipG rfl rfl rfl rfl h9 ?_
        refine VR.skipG rfl rfl rfl rfl h9 ?_
        refine VR.skipG rfl rfl rfl rfl h9 ?_
        refine VR.skipG rfl rfl rfl rfl h9 ?_
        refine VR.skipG rfl rfl rfl rfl h9 ?_
        refine VR.p rfl rfl (VP.pickB true rfl h9 rfl) ?_
        exact J [_, _, _, _, _] _ rfl (congrArg VV.bool (Option.some.inj hm))
      · have h9 := bf h9
        refine VR.pG rfl rfl rfl rfl h9 (VP.loadP (i := 1) rfl rfl ld27 rfl) ?_
        refine VR.consG rfl rfl rfl rfl h9 (VO.buildSlice ap37 rfl rfl rfl rfl rfl fun b4 => ?_)
        refine VR.shift (Shift.freezeE 0 [(26, .list 27 (List.map T_api_Machine.vv [m]))] rfl ⟨⟨_, rfl, .here _ rfl⟩, trivial⟩ (FzH.refl _)) ?_
        refine VR.pG rfl rfl rfl rfl h9 (VP.move rfl) ?_
        obtain ⟨r3, h11, hm⟩ := bnd hm
        refine VR.consG rfl rfl rfl rfl h9 (VO.callK 0 rfl fn14 rfl (ref09_Check_ok [m] bs r3 h11) fun _ _ h12 => ?_)
        obtain ⟨rfl, rfl⟩ := h12
        refine VR.pG rfl rfl rfl rfl h9 (VP.arith rfl rfl rfl) ?_
        refine VR.p rfl rfl (VP.pickB false rfl h9 rfl) ?_
        exact J [_, _, _, _, _, _] _ rfl (congrArg VV.bool (Option.some.inj hm))
    · refine VR.p rfl rfl (VP.move rfl) ?_
      obtain ⟨c3, h17, hm⟩ := bnd hm
      refine VR.sc 4 35 (.bool c3) (fun K' J => ?_) ?_
      · have hm := h17
        rcases ite_or hm with ⟨h14, hm⟩ | ⟨h14, hm⟩
        · refine VR.skipG rfl rfl rfl rfl h14 ?_
          refine VR.skipG rfl rfl rfl rfl h14 ?_
          refine VR.skipG rfl rfl rfl rfl h14 ?_
          refine VR.p rfl rfl (VP.pickB true rfl h14 rfl) ?_
          exact J [_, _, _] _ rfl (congrArg VV.bool (Option.some.inj hm))
        · have h14 := bf h14
          refine VR.pG rfl rfl rfl rfl h14 (VP.loadP (i := 0) rfl rfl ld33 rfl) ?_
          obtain ⟨r4, h15, hm⟩ := bnd hm
          refine VR.consG rfl rfl rfl rfl h14 (VO.callK 0 rfl fn15 rfl (ref07_RightPod_ok p r4 h15) fun _ _ h16 => ?_)
          obtain ⟨rfl, rfl⟩ := h16
          refine VR.pG rfl rfl rfl rfl h14 (VP.not rfl) ?_
          refine VR.p rfl rfl (VP.pickB false rfl h14 rfl) ?_
          exact J [_, _, _] _ rfl (congrArg VV.bool (Option.some.inj hm))
      · refine VR.p rfl rfl (VP.move rfl) ?_
        obtain ⟨c4, h21, hm⟩ := bnd hm
        refine VR.sc 6 42 (.bool c4) (fun K' J => ?_) ?_
        · have hm := h21
          rcases ite_or hm with ⟨h18, hm⟩ | ⟨h18, hm⟩
          · refine VR.skipG rfl rfl rfl rfl h18 ?_
            refine VR.skipG rfl rfl rfl rfl h18 ?_
            refine VR.skipG rfl rfl rfl rfl h18 ?_
            refine VR.skipG rfl rfl rfl rfl h18 ?_
            refine VR.skipG rfl rfl rfl rfl h18 ?_
            refine VR.p rfl rfl (VP.pickB true rfl h18 rfl) ?_
            exact J [_, _, _, _, _] _ rfl (congrArg VV.bool (Option.some.inj hm))
          · have h18 := bf h18
            refine VR.pG rfl rfl rfl rfl h18 (VP.move rfl) ?_
            refine VR.pG rfl rfl rfl rfl h18 (VP.fieldP rfl fa33_0) ?_
            refine VR.pG rfl rfl rfl rfl h18 (VP.loadP (i := 0) rfl rfl ld9 rfl) ?_
            obtain ⟨r5, h19, hm⟩ := bnd hm
            refine VR.consG rfl rfl rfl rfl h18 (VO.callK 0 rfl fn20 rfl (ref09_Place_ok bs p.Name r5 h19) fun _ _ h20 => ?_)
            obtain ⟨rfl, rfl⟩ := h20
            refine VR.pG rfl rfl rfl rfl h18 (VP.arith rfl rfl rfl) ?_
            refine VR.p rfl rfl (VP.pickB false rfl h18 rfl) ?_
            exact J [_, _, _, _, _] _ rfl (congrArg VV.bool (Option.some.inj hm))
        · refine VR.nil ?_
          rcases ite_or hm with ⟨h22, hm⟩ | ⟨h22, hm⟩
          · refine VW.condT rfl h22 ?_
            refine VW.seq ?_
            refine VW.region ?_
            obtain ⟨r6, h23, hm⟩ := bnd hm
            refine VR.cons rfl rfl (VO.callK 0 rfl fn16 rfl (law10_known_ok r6 h23) fun _ _ h24 => ?_)
            obtain ⟨rfl, rfl⟩ := h24
            refine VR.p rfl rfl (VP.assign rfl) ?_
            refine VR.nil ?_
            obtain rfl := Option.some.inj hm
            exact VW.ret ⟨.inl rfl, _, .cons (.tmp _ _ rfl) .nil, [], _, rfl, rfl, rfl⟩
          · have h22 := bf h22
            refine VW.condF rfl h22 ?_
            refine VW.skip ?_
            refine VW.seq ?_
            refine VW.seq ?_
            refine VW.region ?_
            refine VR.p rfl rfl (VP.loadP (i := 1) rfl rfl ld27 rfl) ?_
            refine VR.p rfl rfl (VP.move rfl) ?_
            refine VR.p rfl rfl (VP.loadP (i := 0) rfl rfl ld33 rfl) ?_
            obtain ⟨r7, h25, hm⟩ := bnd hm
            refine VR.cons rfl rfl (VO.callK 0 rfl fn17 rfl (suit_Suits_ok m bs p r7 h25) fun _ _ h63 => ?_)
            obtain ⟨rfl, rfl⟩ := h63
            refine VR.p rfl rfl (VP.arith rfl rfl rfl) ?_
            refine VR.nil ?_
            rcases ite_or hm with ⟨h26, hm⟩ | ⟨h26, hm⟩
            · refine VW.condT rfl h26 ?_
              refine VW.seq ?_
              refine VW.region ?_
              obtain ⟨r8, h27, hm⟩ := bnd hm
              refine VR.cons rfl rfl (VO.callK 0 rfl fn16 rfl (law10_known_ok r8 h27) fun _ _ h28 => ?_)
              obtain ⟨rfl, rfl⟩ := h28
              refine VR.p rfl rfl (VP.assign rfl) ?_
              refine VR.nil ?_
              obtain rfl := Option.some.inj hm
              exact VW.ret ⟨.inl rfl, _, .cons (.tmp _ _ rfl) .nil, [], _, rfl, rfl, rfl⟩
            · have h26 := bf h26
              refine VW.condF rfl h26 ?_
              refine VW.skip ?_
              refine VW.seq ?_
              refine VW.region ?_
              refine VR.p rfl rfl (VP.loadP (i := 1) rfl rfl ld27 rfl) ?_
              refine VR.p rfl rfl (VP.move rfl) ?_
              obtain ⟨r9, h29, hm⟩ := bnd hm
              refine VR.cons rfl rfl (VO.callK 0 rfl fn21 rfl (ref09_Left_ok m bs r9 h29) fun _ _ h62 => ?_)
              obtain ⟨rfl, rfl⟩ := h62
              refine VR.cons rfl rfl (VO.alloc z23 fun b5 => ?_)
              refine VR.cons rfl rfl (VO.storeP (i := 0) rfl rfl rfl ld23 rfl rfl rfl ?_)
              refine VR.nil ?_
              refine VW.seq ?_
              refine VW.region ?_
              refine VR.cons rfl rfl (VO.buildSlice ap28 rfl rfl rfl rfl rfl fun b6 => ?_)
              refine VR.p rfl rfl (VP.move rfl) ?_
              obtain ⟨l, h32, hm⟩ := bnd hm
              refine VR.cons rfl rfl (VO.apT 0 T_api_Bound.vv (l := []) (l2 := bs) ap28 rfl rfl (sT_list T_api_Bound.vv el28 rfl rfl) h32 fun ob cap => ?_)
              refine VR.p rfl rfl (VP.assign rfl) ?_
              refine VR.nil ?_
              refine VW.seq ?_
              refine VW.region ?_
              refine VR.p rfl rfl (VP.move rfl) ?_
              refine VR.p rfl rfl (VP.loadP (i := 2) rfl rfl ld33 rfl) ?_
              refine VR.p rfl rfl (VP.fieldP rfl fa27_0) ?_
              refine VR.p rfl rfl (VP.loadP (i := 3) rfl rfl ld9 rfl) ?_
              refine VR.p rfl rfl (VP.buildP pl49 rfl rfl) ?_
              refine VR.cons rfl rfl (VO.buildSlice ap28 rfl rfl rfl rfl rfl fun b7 => ?_)
              obtain ⟨more, h34, hm⟩ := bnd hm
              refine VR.cons rfl rfl (VO.apT 1 T_api_Bound.vv (l := l) (l2 := [(⟨p, m.Name⟩ : T_api_Bound)]) ap28 rfl rfl (sT_row 0 T_api_Bound.vv el28 rfl rfl) h34 fun ob2 cap2 => ?_)
              refine VR.p rfl rfl (VP.assign rfl) ?_
              refine VR.nil ?_
              refine VW.seq ?_
              refine VW.region ?_
              refine VR.p rfl rfl (VP.loadP (i := 3) rfl rfl ld33 rfl) ?_
              refine VR.cons rfl rfl (VO.alloc z33 fun b8 => ?_)
              refine VR.cons rfl rfl (VO.storeP (i := 0) rfl rfl rfl ld33 rfl rfl rfl ?_)
              refine VR.nil ?_
              refine VW.seq ?_
              refine VW.region ?_
              refine VR.p rfl rfl (VP.fieldP rfl fa33_0) ?_
              refine VR.cons rfl rfl (VO.storeP (i := 0) rfl rfl rfl ld9 rfl rfl rfl ?_)
              refine VR.nil ?_
              refine VW.seq ?_
              refine VW.seq ?_
              refine VW.region ?_
              refine VR.p rfl rfl (VP.move rfl) ?_
              refine VR.p rfl rfl (VP.fieldP rfl fa33_0) ?_
              refine VR.p rfl rfl (VP.loadP (i := 0) rfl rfl ld9 rfl) ?_
              refine VR.shift (Shift.freezeE 2 [(62, .list 49 (List.map T_api_Bound.vv more)), (8, .list 49 (List.map T_api_Bound.vv more)), (65, .list 49 (List.map T_api_Bound.vv more))] rfl ⟨⟨_, rfl, .here _ rfl⟩, ⟨_, rfl, .here _ rfl⟩, ⟨_, rfl, .here _ rfl⟩, trivial⟩ (FzH.refl _)) ?_
              obtain ⟨r10, h36, hm⟩ := bnd hm
              refine VR.cons rfl rfl (VO.callK 0 rfl fn20 rfl (ref09_Place_ok more (⟨#[115, 101, 99, 111, 110, 100]⟩ : ByteArray) r10 h36) fun _ _ h61 => ?_)
              obtain ⟨rfl, rfl⟩ := h61
              refine VR.p rfl rfl (VP.arith rfl rfl rfl) ?_
              refine VR.nil ?_
              rcases ite_or hm with ⟨h37, hm⟩ | ⟨h37, hm⟩
              · refine VW.condT rfl h37 ?_
                refine VW.seq ?_
                refine VW.region ?_
                obtain ⟨r11, h38, hm⟩ := bnd hm
                refine VR.cons rfl rfl (VO.callK 0 rfl fn16 rfl (law10_known_ok r11 h38) fun _ _ h39 => ?_)
                obtain ⟨rfl, rfl⟩ := h39
                refine VR.p rfl rfl (VP.assign rfl) ?_
                refine VR.nil ?_
                obtain rfl := Option.some.inj hm
                exact VW.ret ⟨.inl rfl, _, .cons (.tmp _ _ rfl) .nil, [], _, rfl, rfl, rfl⟩
              · have h37 := bf h37
                refine VW.condF rfl h37 ?_
                refine VW.skip ?_
                refine VW.seq ?_
                refine VW.region ?_
                refine VR.p rfl rfl (VP.fieldP rfl fa33_1) ?_
                refine VR.p rfl rfl (VP.loadP (i := 3) rfl rfl ld23 rfl) ?_
                obtain ⟨r12, h40, hm⟩ := bnd hm
                refine VR.cons rfl rfl (VO.callK 0 rfl fn22 rfl (ref04_Times_ok p.Need (2 : Int) r12 h40) fun _ _ h60 => ?_)
                obtain ⟨rfl, rfl⟩ := h60
                refine VR.p rfl rfl (VP.move rfl) ?_
                refine VR.p rfl rfl (VP.extract rfl rfl) ?_
                refine VR.p rfl rfl (VP.extract rfl rfl) ?_
                refine VR.cons rfl rfl (VO.alloc z23 fun b9 => ?_)
                refine VR.cons rfl rfl (VO.storeP (i := 0) rfl rfl rfl ld23 rfl rfl rfl ?_)
                refine VR.p rfl rfl (VP.assign rfl) ?_
                refine VR.nil ?_
                refine VW.seq ?_
                refine VW.region ?_
                refine VR.p rfl rfl (VP.move rfl) ?_
                refine VR.p rfl rfl (VP.arith rfl rfl rfl) ?_
                refine VR.p rfl rfl (VP.move rfl) ?_
                obtain ⟨c5, h45, hm⟩ := bnd hm
                refine VR.sc 4 83 (.bool c5) (fun K' J => ?_) ?_
                · have hm := h45
                  rcases ite_or hm with ⟨h42, hm⟩ | ⟨h42, hm⟩
                  · refine VR.pG rfl rfl rfl rfl h42 (VP.loadP (i := 0) rfl rfl ld23 rfl) ?_
                    refine VR.pG rfl rfl rfl rfl h42 (VP.loadP (i := 3) rfl rfl ld23 rfl) ?_
                    obtain ⟨r13, h43, hm⟩ := bnd hm
                    refine VR.consG rfl rfl rfl rfl h42 (VO.callK 0 rfl fn23 rfl (ref04_Fits_ok r12.1 r9 r13 h43) fun _ _ h44 => ?_)
                    obtain ⟨rfl, rfl⟩ := h44
                    refine VR.p rfl rfl (VP.pickB true rfl h42 rfl) ?_
                    exact J [_, _, _] _ rfl (congrArg VV.bool (Option.some.inj hm))
                  · have h42 := bf h42
                    refine VR.skipG rfl rfl rfl rfl h42 ?_
                    refine VR.skipG rfl rfl rfl rfl h42 ?_
                    refine VR.skipG rfl rfl rfl rfl h42 ?_
                    refine VR.p rfl rfl (VP.pickB false rfl h42 rfl) ?_
                    exact J [_, _, _] _ rfl (congrArg VV.bool (Option.some.inj hm))
                · refine VR.p rfl rfl (VP.assign rfl) ?_
                  refine VR.nil ?_
                  refine VW.seq ?_
                  refine VW.region ?_
                  refine VR.p rfl rfl (VP.assign rfl) ?_
                  refine VR.nil ?_
                  obtain ⟨o, h46, h47⟩ := bnd hm
                  refine VW.join (fun (q : Int) => q = o) (fun (want2 : Int) (gg : Unit) => [(3, .ptr b 0), (5, .ptr b2 0), (8, .list 49 (List.map T_api_Bound.vv more)), (9, .ptr b8 0), (13, .int .i64 want2)]) (fun (want2 : Int) (gg : Unit) => [.box b8 33 (T_api_Pod.cells (⟨(⟨#[115, 101, 99, 111, 110, 100]⟩ : ByteArray), p.Need, p.Labels, p.Select, p.Terms, p.Bears, p.Ports, p.Apart, p.Wide, p.Spread, p.Skew, p.Rank, p.Owner, p.Daemon, p.Pinned, p.Local⟩ : T_api_Pod)), .box b2 33 (T_api_Pod.cells p), .box b 27 (T_api_Machine.cells m)]) ?_ ?_
                  · have hm := h46
                    refine VW.seq ?_
                    refine VW.region ?_
                    refine VR.p rfl rfl (VP.move rfl) ?_
                    refine VR.p rfl rfl (VP.not rfl) ?_
                    refine VR.nil ?_
                    rcases ite_or hm with ⟨h48, hm⟩ | ⟨h48, hm⟩
                    · refine VW.condT rfl h48 ?_
                      refine VW.region ?_
                      refine VR.p rfl rfl (VP.assign rfl) ?_
                      refine VR.nil ?_
                      exact ⟨(2 : Int), (), Option.some.inj hm, (Shift.pick [1, 3, 3] rfl ⟨rfl, rfl, rfl, rfl, rfl, trivial⟩)⟩
                    · have h48 := bf h48
                      refine VW.condF rfl h48 ?_
                      refine VW.seq ?_
                      refine VW.region ?_
                      refine VR.p rfl rfl (VP.fieldP rfl fa33_6) ?_
                      refine VR.p rfl rfl (VP.loadP (i := 4) rfl rfl ld31 rfl) ?_
                      refine VR.p rfl rfl (VP.lenT (VV.int .i64) rfl Try.underlying31) ?_
                      refine VR.p rfl rfl (VP.arith rfl rfl rfl) ?_
                      refine VR.nil ?_
                      rcases ite_or hm with ⟨h49, hm⟩ | ⟨h49, hm⟩
                      · refine VW.condT rfl h49 ?_
                        refine VW.region ?_
                        refine VR.p rfl rfl (VP.assign rfl) ?_
                        refine VR.nil ?_
                        exact ⟨(3 : Int), (), Option.some.inj hm, (Shift.pick [1, 3, 3] rfl ⟨rfl, rfl, rfl, rfl, rfl, trivial⟩)⟩
                      · have h49 := bf h49
                        refine VW.condF rfl h49 ?_
                        refine VW.skip ?_
                        exact ⟨(0 : Int), (), Option.some.inj hm, (Shift.pick [1, 3, 3] rfl ⟨rfl, rfl, rfl, rfl, rfl, trivial⟩)⟩
                  · rintro want2 _ rfl
                    have hm := h47
                    refine VW.seq ?_
                    refine VW.region ?_
                    refine VR.p rfl rfl (VP.loadP (i := 2) rfl rfl ld27 rfl) ?_
                    refine VR.p rfl rfl (VP.move rfl) ?_
                    refine VR.p rfl rfl (VP.loadP (i := 1) rfl rfl ld33 rfl) ?_
                    obtain ⟨r14, h50, hm⟩ := bnd hm
                    refine VR.cons rfl rfl (VO.callK 0 rfl fn17 rfl (suit_Suits_ok m more p r14 h50) fun _ _ h59 => ?_)
                    obtain ⟨rfl, rfl⟩ := h59
                    refine VR.p rfl rfl (VP.arith rfl rfl rfl) ?_
                    refine VR.p rfl rfl (VP.move rfl) ?_
                    obtain ⟨c6, h54, hm⟩ := bnd hm
                    refine VR.sc 7 102 (.bool c6) (fun K' J => ?_) ?_
                    · have hm := h54
                      rcases ite_or hm with ⟨h51, hm⟩ | ⟨h51, hm⟩
                      · refine VR.pG rfl rfl rfl rfl h51 (VP.loadP (i := 2) rfl rfl ld27 rfl) ?_
                        refine VR.pG rfl rfl rfl rfl h51 (VP.move rfl) ?_
                        refine VR.pG rfl rfl rfl rfl h51 (VP.loadP (i := 0) rfl rfl ld33 rfl) ?_
                        obtain ⟨r15, h52, hm⟩ := bnd hm
                        refine VR.consG rfl rfl rfl rfl h51 (VO.callK 0 rfl fn17 rfl (suit_Suits_ok m more (⟨(⟨#[115, 101, 99, 111, 110, 100]⟩ : ByteArray), p.Need, p.Labels, p.Select, p.Terms, p.Bears, p.Ports, p.Apart, p.Wide, p.Spread, p.Skew, p.Rank, p.Owner, p.Daemon, p.Pinned, p.Local⟩ : T_api_Pod) r15 h52) fun _ _ h53 => ?_)
                        obtain ⟨rfl, rfl⟩ := h53
                        refine VR.pG rfl rfl rfl rfl h51 (VP.move rfl) ?_
                        refine VR.pG rfl rfl rfl rfl h51 (VP.arith rfl rfl rfl) ?_
                        refine VR.p rfl rfl (VP.pickB true rfl h51 rfl) ?_
                        exact J [_, _, _, _, _, _] _ rfl (congrArg VV.bool (Option.some.inj hm))
                      · have h51 := bf h51
                        refine VR.skipG rfl rfl rfl rfl h51 ?_
                        refine VR.skipG rfl rfl rfl rfl h51 ?_
                        refine VR.skipG rfl rfl rfl rfl h51 ?_
                        refine VR.skipG rfl rfl rfl rfl h51 ?_
                        refine VR.skipG rfl rfl rfl rfl h51 ?_
                        refine VR.skipG rfl rfl rfl rfl h51 ?_
                        refine VR.p rfl rfl (VP.pickB false rfl h51 rfl) ?_
                        exact J [_, _, _, _, _, _] _ rfl (congrArg VV.bool (Option.some.inj hm))
                    · refine VR.p rfl rfl (VP.move rfl) ?_
                      obtain ⟨c7, h58, hm⟩ := bnd hm
                      refine VR.sc 2 105 (.bool c7) (fun K' J => ?_) ?_
                      · have hm := h58
                        rcases ite_or hm with ⟨h55, hm⟩ | ⟨h55, hm⟩
                        · obtain ⟨r16, h56, hm⟩ := bnd hm
                          refine VR.consG rfl rfl rfl rfl h55 (VO.callK 0 rfl fn16 rfl (law10_known_ok r16 h56) fun _ _ h57 => ?_)
                          obtain ⟨rfl, rfl⟩ := h57
                          refine VR.p rfl rfl (VP.pickB true rfl h55 rfl) ?_
                          exact J [_] _ rfl (congrArg VV.bool (Option.some.inj hm))
                        · have h55 := bf h55
                          refine VR.skipG rfl rfl rfl rfl h55 ?_
                          refine VR.p rfl rfl (VP.pickB false rfl h55 rfl) ?_
                          exact J [_] _ rfl (congrArg VV.bool (Option.some.inj hm))
                      · refine VR.p rfl rfl (VP.assign rfl) ?_
                        refine VR.nil ?_
                        obtain rfl := Option.some.inj hm
                        exact VW.ret ⟨.inl rfl, _, .cons (.tmp _ _ rfl) .nil, [], _, rfl, rfl, rfl⟩

end Go.Proofs.Ytcblmlkpcplkfaa.M

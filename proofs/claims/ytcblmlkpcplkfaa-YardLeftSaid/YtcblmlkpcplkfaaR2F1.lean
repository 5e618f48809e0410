/-
  Printed by a program of this session out of the loaded functions: models and their proofs. Own text.
-/
import Derived.Test.YtcblmlkpcplkfaaR2F0
namespace Go.Proofs.Ytcblmlkpcplkfaa.M
open Go Go.Proofs Go.Proofs.Ytcblmlkpcplkfaa.V
set_option linter.unusedVariables false
set_option maxRecDepth 20000
set_option maxHeartbeats 4000000
/-! trireme/spec.between -/
def spec_between (n : Int) (low : Int) (high : Int) : Option Bool :=
  some ((decide (n ≥ low)) && (decide (n ≤ high)))
theorem spec_between_ok (n : Int) (low : Int) (high : Int) (r : Bool) (hm : spec_between n low high = some r) :
    VC Try.prog 100 [.int .i64 n, .int .i64 low, .int .i64 high] [] (fun zx zH => zx = .bool r ∧ zH = []) := by
  unfold spec_between at hm
  refine VC.run (c := _) (rs := [.tmp 6]) Try.func100 rfl rfl rfl ?_
  refine VW.seq ?_
  refine VW.region ?_
  refine VR.p rfl rfl (VP.assign rfl) ?_
  refine VR.nil ?_
  refine VW.seq ?_
  refine VW.region ?_
  refine VR.p rfl rfl (VP.move rfl) ?_
  refine VR.p rfl rfl (VP.move rfl) ?_
  refine VR.p rfl rfl (VP.arith rfl rfl rfl) ?_
  refine VR.p rfl rfl (VP.move rfl) ?_
  refine VR.sc 4 14 (.bool ((decide (n ≥ low)) && (decide (n ≤ high)))) (fun K' J => ?_) ?_
  · rcases Bool.eq_false_or_eq_true (decide (n ≥ low)) with h1 | h1
    · refine VR.pG rfl rfl rfl rfl h1 (VP.move rfl) ?_
      refine VR.pG rfl rfl rfl rfl h1 (VP.move rfl) ?_
      refine VR.pG rfl rfl rfl rfl h1 (VP.arith rfl rfl rfl) ?_
      refine VR.p rfl rfl (VP.pickB true rfl h1 rfl) ?_
      exact J [_, _, _] _ rfl (andT h1)
    · refine VR.skipG rfl rfl rfl rfl h1 ?_
      refine VR.skipG rfl rfl rfl rfl h1 ?_
      refine VR.skipG rfl rfl rfl rfl h1 ?_
      refine VR.p rfl rfl (VP.pickB false rfl h1 rfl) ?_
      exact J [_, _, _] _ rfl (andF h1)
  · refine VR.p rfl rfl (VP.assign rfl) ?_
    refine VR.nil ?_
    obtain rfl := Option.some.inj hm
    exact VW.ret ⟨.inl rfl, _, .cons (.tmp _ _ rfl) .nil, [], _, rfl, rfl, rfl⟩

/-! trireme/taints.RightBears -/
def taints_RightBears.l1 : List T_api_Toleration → Nat → Option (Out Bool Unit)
  | [], k => some (Out.go ())
  | x :: l2, k =>
    (taints_maybe x.Key).bind fun r =>
    (if (!r) = true then some true else (taints_maybe x.Val).bind fun r2 =>
    some (!r2)).bind fun c =>
    if c = true then
      some (Out.ret false)
    else
      (if (x.Effect != (0 : Int)) = true then (taints_known x.Effect).bind fun r3 =>
      some (!r3) else some false).bind fun c2 =>
      if c2 = true then
        some (Out.ret false)
      else
        if ((x.Any && (!(V.seq x.Val (⟨#[]⟩ : ByteArray)))) || ((!x.Any) && (V.seq x.Key (⟨#[]⟩ : ByteArray)))) = true then
          some (Out.ret false)
        else
          taints_RightBears.l1 l2 (k + 1)
def taints_RightBears (l : List T_api_Toleration) : Option Bool :=
  (taints_RightBears.l1 l 0).bind fun o =>
  o.on fun j =>
  some (decide ((l.length : Int) ≤ (16 : Int)))
theorem taints_RightBears_ok (l : List T_api_Toleration) (r : Bool) (hm : taints_RightBears l = some r) :
    VC Try.prog 101 [.list 55 (List.map T_api_Toleration.vv l)] [] (fun zx zH => zx = .bool r ∧ zH = []) := by
  unfold taints_RightBears at hm
  refine VC.run (c := _) (rs := [.tmp 2]) Try.func101 rfl rfl rfl ?_
  refine VW.seq ?_
  refine VW.region ?_
  refine VR.p rfl rfl (VP.assign rfl) ?_
  refine VR.nil ?_
  refine VW.seq ?_
  refine VW.seq ?_
  refine VW.region ?_
  refine VR.p rfl rfl (VP.move rfl) ?_
  refine VR.p rfl rfl (VP.lenT T_api_Toleration.vv rfl Try.underlying30) ?_
  refine VR.p rfl rfl (VP.move rfl) ?_
  refine VR.nil ?_
  refine VW.lenL 0 rfl fun h3 => ?_
  have h3 := max_map h3
  obtain ⟨o, h1, h2⟩ := bnd hm
  refine VW.joinE (fun (q : Unit) => o = Out.go q) (fun (j : Unit) (gg : Unit) => [(0, .list 55 (List.map T_api_Toleration.vv l))]) (fun (j : Unit) (gg : Unit) => []) ?_ ?_
  · have hm := h1
    refine VW.block (VW.loop (l.length + 1) ?_)
    refine VL.eachS (l := l) (R := _) (fun zl zk (zs : Unit) => taints_RightBears.l1 zl zk) (fun (k : Nat) (zs : Unit) (zg : Unit) => [(0, .list 55 (List.map T_api_Toleration.vv l)), (5, .list 55 (List.map T_api_Toleration.vv l)), (6, .int .i64 (l.length : Int)), (7, .int .i64 (k : Int))]) (fun (k : Nat) (zs : Unit) (zg : Unit) => []) () () (Shift.pick [] rfl ⟨rfl, rfl, rfl, rfl, trivial⟩) h1 ?_ ?_
    · rintro k _ _ hk hm
      rw [taints_RightBears.l1] at hm
      refine VW.seq ?_
      refine VW.region ?_
      refine VR.p rfl rfl (VP.arith rfl rfl rfl) ?_
      refine VR.nil ?_
      refine VW.seq ?_
      refine VW.condF rfl (k_end hk) ?_
      refine VW.exit ?_
      exact ⟨(), (), (Option.some.inj hm).symm, (Shift.pick [] rfl ⟨rfl, trivial⟩)⟩
    · rintro k x l2 _ _ h4 hm
      rw [taints_RightBears.l1] at hm
      refine VW.seq ?_
      refine VW.region ?_
      refine VR.p rfl rfl (VP.arith rfl rfl rfl) ?_
      refine VR.nil ?_
      refine VW.seq ?_
      refine VW.condT rfl (k_lt h4) ?_
      refine VW.skip ?_
      refine VW.seq ?_
      refine VW.block ?_
      refine VW.seq ?_
      refine VW.region ?_
      refine VR.p rfl rfl (VP.glK T_api_Toleration.vv rfl rfl el30 h4) ?_
      refine VR.p rfl rfl (VP.loadE rfl ld55 rfl) ?_
      refine VR.cons rfl rfl (VO.alloc z55 fun b => ?_)
      refine VR.cons rfl rfl (VO.storeP (i := 0) rfl rfl rfl ld55 rfl rfl rfl ?_)
      refine VR.nil ?_
      refine VW.block ?_
      refine VW.seq ?_
      refine VW.region ?_
      refine VR.p rfl rfl (VP.fieldP rfl fa55_0) ?_
      refine VR.p rfl rfl (VP.loadP (i := 0) rfl rfl ld9 rfl) ?_
      obtain ⟨r, h6, hm⟩ := bnd hm
      refine VR.cons rfl rfl (VO.callK 0 rfl fn119 rfl (taints_maybe_ok x.Key r h6) fun _ _ h21 => ?_)
      obtain ⟨rfl, rfl⟩ := h21
      refine VR.p rfl rfl (VP.not rfl) ?_
      refine VR.p rfl rfl (VP.move rfl) ?_
      obtain ⟨c, h10, hm⟩ := bnd hm
      refine VR.sc 5 21 (.bool c) (fun K' J => ?_) ?_
      · have hm := h10
        rcases ite_or hm with ⟨h7, hm⟩ | ⟨h7, hm⟩
        · refine VR.skipG rfl rfl rfl rfl h7 ?_
          refine VR.skipG rfl rfl rfl rfl h7 ?_
          refine VR.skipG rfl rfl rfl rfl h7 ?_
          refine VR.skipG rfl rfl rfl rfl h7 ?_
          refine VR.p rfl rfl (VP.pickB true rfl h7 rfl) ?_
          exact J [_, _, _, _] _ rfl (congrArg VV.bool (Option.some.inj hm))
        · have h7 := bf h7
          refine VR.pG rfl rfl rfl rfl h7 (VP.fieldP rfl fa55_1) ?_
          refine VR.pG rfl rfl rfl rfl h7 (VP.loadP (i := 0) rfl rfl ld9 rfl) ?_
          obtain ⟨r2, h8, hm⟩ := bnd hm
          refine VR.consG rfl rfl rfl rfl h7 (VO.callK 0 rfl fn119 rfl (taints_maybe_ok x.Val r2 h8) fun _ _ h9 => ?_)
          obtain ⟨rfl, rfl⟩ := h9
          refine VR.pG rfl rfl rfl rfl h7 (VP.not rfl) ?_
          refine VR.p rfl rfl (VP.pickB false rfl h7 rfl) ?_
          exact J [_, _, _, _] _ rfl (congrArg VV.bool (Option.some.inj hm))
      · refine VR.p rfl rfl (VP.assign rfl) ?_
        refine VR.nil ?_
        rcases ite_or hm with ⟨h11, hm⟩ | ⟨h11, hm⟩
        · refine VW.condT rfl h11 ?_
          refine VW.seq ?_
          refine VW.region ?_
          refine VR.p rfl rfl (VP.assign rfl) ?_
          refine VR.nil ?_
          obtain rfl := Option.some.inj hm
          have hm := Out.ret_on h2
          obtain rfl := Option.some.inj hm
          exact VW.ret ⟨.inl rfl, _, .cons (.tmp _ _ rfl) .nil, [], _, rfl, rfl, rfl⟩
        · have h11 := bf h11
          refine VW.condF rfl h11 ?_
          refine VW.seq ?_
          refine VW.region ?_
          refine VR.p rfl rfl (VP.fieldP rfl fa55_3) ?_
          refine VR.p rfl rfl (VP.loadP (i := 0) rfl rfl ld3 rfl) ?_
          refine VR.p rfl rfl (VP.arith rfl rfl rfl) ?_
          refine VR.p rfl rfl (VP.move rfl) ?_
          obtain ⟨c2, h15, hm⟩ := bnd hm
          refine VR.sc 5 31 (.bool c2) (fun K' J => ?_) ?_
          · have hm := h15
            rcases ite_or hm with ⟨h12, hm⟩ | ⟨h12, hm⟩
            · refine VR.pG rfl rfl rfl rfl h12 (VP.fieldP rfl fa55_3) ?_
              refine VR.pG rfl rfl rfl rfl h12 (VP.loadP (i := 0) rfl rfl ld3 rfl) ?_
              obtain ⟨r3, h13, hm⟩ := bnd hm
              refine VR.consG rfl rfl rfl rfl h12 (VO.callK 0 rfl fn120 rfl (taints_known_ok x.Effect r3 h13) fun _ _ h14 => ?_)
              obtain ⟨rfl, rfl⟩ := h14
              refine VR.pG rfl rfl rfl rfl h12 (VP.not rfl) ?_
              refine VR.p rfl rfl (VP.pickB true rfl h12 rfl) ?_
              exact J [_, _, _, _] _ rfl (congrArg VV.bool (Option.some.inj hm))
            · have h12 := bf h12
              refine VR.skipG rfl rfl rfl rfl h12 ?_
              refine VR.skipG rfl rfl rfl rfl h12 ?_
              refine VR.skipG rfl rfl rfl rfl h12 ?_
              refine VR.skipG rfl rfl rfl rfl h12 ?_
              refine VR.p rfl rfl (VP.pickB false rfl h12 rfl) ?_
              exact J [_, _, _, _] _ rfl (congrArg VV.bool (Option.some.inj hm))
          · refine VR.p rfl rfl (VP.assign rfl) ?_
            refine VR.nil ?_
            rcases ite_or hm with ⟨h16, hm⟩ | ⟨h16, hm⟩
            · refine VW.condT rfl h16 ?_
              refine VW.seq ?_
              refine VW.region ?_
              refine VR.p rfl rfl (VP.assign rfl) ?_
              refine VR.nil ?_
              obtain rfl := Option.some.inj hm
              have hm := Out.ret_on h2
              obtain rfl := Option.some.inj hm
              exact VW.ret ⟨.inl rfl, _, .cons (.tmp _ _ rfl) .nil, [], _, rfl, rfl, rfl⟩
            · have h16 := bf h16
              refine VW.condF rfl h16 ?_
              refine VW.seq ?_
              refine VW.region ?_
              refine VR.p rfl rfl (VP.fieldP rfl fa55_2) ?_
              refine VR.p rfl rfl (VP.loadP (i := 0) rfl rfl ld4 rfl) ?_
              refine VR.p rfl rfl (VP.move rfl) ?_
              refine VR.sc 4 39 (.bool (x.Any && (!(V.seq x.Val (⟨#[]⟩ : ByteArray))))) (fun K' J => ?_) ?_
              · rcases Bool.eq_false_or_eq_true x.Any with h17 | h17
                · refine VR.pG rfl rfl rfl rfl h17 (VP.fieldP rfl fa55_1) ?_
                  refine VR.pG rfl rfl rfl rfl h17 (VP.loadP (i := 0) rfl rfl ld9 rfl) ?_
                  refine VR.pG rfl rfl rfl rfl h17 (VP.strop rfl rfl rfl) ?_
                  refine VR.p rfl rfl (VP.pickB true rfl h17 rfl) ?_
                  exact J [_, _, _] _ rfl (andT h17)
                · refine VR.skipG rfl rfl rfl rfl h17 ?_
                  refine VR.skipG rfl rfl rfl rfl h17 ?_
                  refine VR.skipG rfl rfl rfl rfl h17 ?_
                  refine VR.p rfl rfl (VP.pickB false rfl h17 rfl) ?_
                  exact J [_, _, _] _ rfl (andF h17)
              · refine VR.p rfl rfl (VP.move rfl) ?_
                refine VR.sc 9 49 (.bool ((x.Any && (!(V.seq x.Val (⟨#[]⟩ : ByteArray)))) || ((!x.Any) && (V.seq x.Key (⟨#[]⟩ : ByteArray))))) (fun K' J => ?_) ?_
                · rcases Bool.eq_false_or_eq_true (x.Any && (!(V.seq x.Val (⟨#[]⟩ : ByteArray)))) with h18 | h18
                  · refine VR.skipG rfl rfl rfl rfl h18 ?_
                    refine VR.skipG rfl rfl rfl rfl h18 ?_
                    refine VR.skipG rfl rfl rfl rfl h18 ?_
                    refine VR.skipG rfl rfl rfl rfl h18 ?_
                    refine VR.skipU rfl rfl rfl rfl ?_
                    refine VR.skipU rfl rfl rfl rfl ?_
                    refine VR.skipU rfl rfl rfl rfl ?_
                    refine VR.skipG rfl rfl rfl rfl h18 ?_
                    refine VR.p rfl rfl (VP.pickB true rfl h18 rfl) ?_
                    exact J [_, _, _, _, _, _, _, _] _ rfl (orT h18)
                  · refine VR.pG rfl rfl rfl rfl h18 (VP.fieldP rfl fa55_2) ?_
                    refine VR.pG rfl rfl rfl rfl h18 (VP.loadP (i := 0) rfl rfl ld4 rfl) ?_
                    refine VR.pG rfl rfl rfl rfl h18 (VP.not rfl) ?_
                    refine VR.pG rfl rfl rfl rfl h18 (VP.move rfl) ?_
                    refine VR.sc 4 48 (.bool ((!x.Any) && (V.seq x.Key (⟨#[]⟩ : ByteArray)))) (fun K' J => ?_) ?_
                    · rcases Bool.eq_false_or_eq_true (!x.Any) with h19 | h19
                      · refine VR.pG rfl rfl rfl rfl h19 (VP.fieldP rfl fa55_0) ?_
                        refine VR.pG rfl rfl rfl rfl h19 (VP.loadP (i := 0) rfl rfl ld9 rfl) ?_
                        refine VR.pG rfl rfl rfl rfl h19 (VP.strop rfl rfl rfl) ?_
                        refine VR.pG rfl rfl rfl rfl h18 (VP.pickB true rfl h19 rfl) ?_
                        exact J [_, _, _] _ rfl (andT h19)
                      · refine VR.skipG rfl rfl rfl rfl h19 ?_
                        refine VR.skipG rfl rfl rfl rfl h19 ?_
                        refine VR.skipG rfl rfl rfl rfl h19 ?_
                        refine VR.pG rfl rfl rfl rfl h18 (VP.pickB false rfl h19 rfl) ?_
                        exact J [_, _, _] _ rfl (andF h19)
                    · refine VR.p rfl rfl (VP.pickB false rfl h18 rfl) ?_
                      exact J [_, _, _, _, _] _ rfl (orF h18)
                · refine VR.p rfl rfl (VP.assign rfl) ?_
                  refine VR.nil ?_
                  rcases ite_or hm with ⟨h20, hm⟩ | ⟨h20, hm⟩
                  · refine VW.condT rfl h20 ?_
                    refine VW.seq ?_
                    refine VW.region ?_
                    refine VR.p rfl rfl (VP.assign rfl) ?_
                    refine VR.nil ?_
                    obtain rfl := Option.some.inj hm
                    have hm := Out.ret_on h2
                    obtain rfl := Option.some.inj hm
                    exact VW.ret ⟨.inl rfl, _, .cons (.tmp _ _ rfl) .nil, [], _, rfl, rfl, rfl⟩
                  · have h20 := bf h20
                    refine VW.condF rfl h20 ?_
                    refine VW.skip ?_
                    refine VW.region ?_
                    refine VR.p rfl rfl (VP.arith rfl rfl rfl) ?_
                    refine VR.p rfl rfl (VP.move rfl) ?_
                    refine VR.nil ?_
                    exact ⟨(), (), hm, (Shift.pick [] rfl ⟨rfl, rfl, rfl, congrArg some (k_next h4 h3), trivial⟩)⟩
  · rintro j _ rfl
    have hm := Out.go_on h2
    refine VW.seq ?_
    refine VW.region ?_
    refine VR.p rfl rfl (VP.move rfl) ?_
    refine VR.p rfl rfl (VP.lenT T_api_Toleration.vv rfl Try.underlying30) ?_
    refine VR.p rfl rfl (VP.arith rfl rfl rfl) ?_
    refine VR.p rfl rfl (VP.assign rfl) ?_
    refine VR.nil ?_
    obtain rfl := Option.some.inj hm
    exact VW.ret ⟨.inl rfl, _, .cons (.tmp _ _ rfl) .nil, [], _, rfl, rfl, rfl⟩

/-! trireme/spec.RightPod -/
def spec_RightPod.l1 : List T_api_Term → Nat → Option (Out Bool Unit)
  | [], k => some (Out.go ())
  | x :: l, k =>
    (labels_RightTerm x).bind fun r =>
    if (!r) = true then
      some (Out.ret false)
    else
      spec_RightPod.l1 l (k + 1)
def spec_RightPod.l2 : List Int → Nat → Int → Option (Out Bool Unit)
  | [], k2, last2 => some (Out.go ())
  | x2 :: l2, k2, last2 =>
    if ((decide (x2 ≤ last2)) || (decide (x2 > (65535 : Int)))) = true then
      some (Out.ret false)
    else
      spec_RightPod.l2 l2 (k2 + 1) x2
def spec_RightPod.l3 : List (List T_api_Label) → Nat → Option (Out Bool Unit)
  | [], k3 => some (Out.go ())
  | x3 :: l3, k3 =>
    (labels_Right x3).bind fun r2 =>
    if (!r2) = true then
      some (Out.ret false)
    else
      spec_RightPod.l3 l3 (k3 + 1)
def spec_RightPod (p : T_api_Pod) : Option Bool :=
  (spec_RightPod.l1 p.Terms 0).bind fun o =>
  o.on fun j =>
  (spec_RightPod.l2 p.Ports 0 (0 : Int)).bind fun o2 =>
  o2.on fun j2 =>
  (spec_RightPod.l3 [p.Labels, p.Select, p.Apart, p.Spread] 0).bind fun o3 =>
  o3.on fun j3 =>
  (if (decide ((p.Spread.length : Int) > (0 : Int))) = true then
    some ((1 : Int), (100 : Int))
  else
    some ((0 : Int), (0 : Int))).bind fun j4 =>
  (lex_Word p.Name).bind fun r3 =>
  (if (!r3) = true then some true else (spec_maybe p.Owner).bind fun r4 =>
  some (!r4)).bind fun c =>
  if c = true then
    some false
  else
    (res_Right p.Need).bind fun r5 =>
    if ((!r5) || (p.Need.Pods != (1 : Int))) = true then
      some false
    else
      if ((decide ((p.Terms.length : Int) > (16 : Int))) || (decide ((p.Ports.length : Int) > (16 : Int)))) = true then
        some false
      else
        (if (p.Wide && ((p.Apart.length : Int) == (0 : Int))) = true then some true else (spec_between p.Skew j4.1 j4.2).bind fun r6 =>
        some (!r6)).bind fun c2 =>
        if c2 = true then
          some false
        else
          (taints_RightBears p.Bears).bind fun r7 =>
          (if r7 = true then (spec_between p.Rank (0 : Int) (1000 : Int)).bind fun r8 =>
          some r8 else some false).bind fun c3 =>
          some c3
theorem spec_RightPod_ok (p : T_api_Pod) (r : Bool) (hm : spec_RightPod p = some r) :
    VC Try.prog 70 [T_api_Pod.vv p] [] (fun zx zH => zx = .bool r ∧ zH = []) := by
  unfold spec_RightPod at hm
  refine VC.run (c := _) (rs := [.tmp 2]) Try.func70 rfl rfl rfl ?_
  refine VW.seq ?_
  refine VW.region ?_
  refine VR.cons rfl rfl (VO.box rfl rfl fun b => ?_)
  refine VR.p rfl rfl (VP.assign rfl) ?_
  refine VR.nil ?_
  refine VW.seq ?_
  refine VW.seq ?_
  refine VW.region ?_
  refine VR.p rfl rfl (VP.fieldP rfl fa33_4) ?_
  refine VR.p rfl rfl (VP.loadP (i := 0) rfl rfl ld29 rfl) ?_
  refine VR.p rfl rfl (VP.lenT T_api_Term.vv rfl Try.underlying29) ?_
  refine VR.p rfl rfl (VP.move rfl) ?_
  refine VR.nil ?_
  refine VW.lenL 13 rfl fun h4 => ?_
  have h4 := max_map h4
  obtain ⟨o, h2, h3⟩ := bnd hm
  refine VW.joinE (fun (q : Unit) => o = Out.go q) (fun (j : Unit) (gg : Unit) => [(1, .ptr b 0)]) (fun (j : Unit) (gg : Unit) => [.box b 33 (T_api_Pod.cells p)]) ?_ ?_
  · have hm := h2
    refine VW.block (VW.loop (p.Terms.length + 1) ?_)
    refine VL.eachS (l := p.Terms) (R := _) (fun zl zk (zs : Unit) => spec_RightPod.l1 zl zk) (fun (k : Nat) (zs : Unit) (zg : Unit) => [(1, .ptr b 0), (13, .list 74 (List.map T_api_Term.vv p.Terms)), (14, .int .i64 (p.Terms.length : Int)), (15, .int .i64 (k : Int))]) (fun (k : Nat) (zs : Unit) (zg : Unit) => [.box b 33 (T_api_Pod.cells p)]) () () (Shift.pick [0] rfl ⟨rfl, rfl, rfl, rfl, trivial⟩) h2 ?_ ?_
    · rintro k _ _ hk hm
      rw [spec_RightPod.l1] at hm
      refine VW.seq ?_
      refine VW.region ?_
      refine VR.p rfl rfl (VP.arith rfl rfl rfl) ?_
      refine VR.nil ?_
      refine VW.seq ?_
      refine VW.condF rfl (k_end hk) ?_
      refine VW.exit ?_
      exact ⟨(), (), (Option.some.inj hm).symm, (Shift.pick [0] rfl ⟨rfl, trivial⟩)⟩
    · rintro k x l _ _ h5 hm
      rw [spec_RightPod.l1] at hm
      refine VW.seq ?_
      refine VW.region ?_
      refine VR.p rfl rfl (VP.arith rfl rfl rfl) ?_
      refine VR.nil ?_
      refine VW.seq ?_
      refine VW.condT rfl (k_lt h5) ?_
      refine VW.skip ?_
      refine VW.seq ?_
      refine VW.block ?_
      refine VW.seq ?_
      refine VW.region ?_
      refine VR.p rfl rfl (VP.glK T_api_Term.vv rfl rfl el29 h5) ?_
      refine VR.p rfl rfl (VP.loadE rfl ld74 rfl) ?_
      refine VR.cons rfl rfl (VO.alloc z74 fun b2 => ?_)
      refine VR.cons rfl rfl (VO.storeP (i := 0) rfl rfl rfl ld74 rfl rfl rfl ?_)
      refine VR.nil ?_
      refine VW.seq ?_
      refine VW.region ?_
      refine VR.p rfl rfl (VP.loadP (i := 0) rfl rfl ld74 rfl) ?_
      obtain ⟨r, h7, hm⟩ := bnd hm
      refine VR.cons rfl rfl (VO.callK 0 rfl fn98 rfl (labels_RightTerm_ok x r h7) fun _ _ h9 => ?_)
      obtain ⟨rfl, rfl⟩ := h9
      refine VR.p rfl rfl (VP.not rfl) ?_
      refine VR.nil ?_
      rcases ite_or hm with ⟨h8, hm⟩ | ⟨h8, hm⟩
      · refine VW.condT rfl h8 ?_
        refine VW.seq ?_
        refine VW.region ?_
        refine VR.p rfl rfl (VP.assign rfl) ?_
        refine VR.nil ?_
        obtain rfl := Option.some.inj hm
        have hm := Out.ret_on h3
        obtain rfl := Option.some.inj hm
        exact VW.ret ⟨.inl rfl, _, .cons (.tmp _ _ rfl) .nil, [], _, rfl, rfl, rfl⟩
      · have h8 := bf h8
        refine VW.condF rfl h8 ?_
        refine VW.skip ?_
        refine VW.region ?_
        refine VR.p rfl rfl (VP.arith rfl rfl rfl) ?_
        refine VR.p rfl rfl (VP.move rfl) ?_
        refine VR.nil ?_
        exact ⟨(), (), hm, (Shift.pick [1] rfl ⟨rfl, rfl, rfl, congrArg some (k_next h5 h4), trivial⟩)⟩
  · rintro j _ rfl
    have hm := Out.go_on h3
    refine VW.seq ?_
    refine VW.region ?_
    refine VR.p rfl rfl (VP.assign rfl) ?_
    refine VR.nil ?_
    refine VW.seq ?_
    refine VW.seq ?_
    refine VW.region ?_
    refine VR.p rfl rfl (VP.fieldP rfl fa33_6) ?_
    refine VR.p rfl rfl (VP.loadP (i := 0) rfl rfl ld31 rfl) ?_
    refine VR.p rfl rfl (VP.lenT (VV.int .i64) rfl Try.underlying31) ?_
    refine VR.p rfl rfl (VP.move rfl) ?_
    refine VR.nil ?_
    refine VW.lenL 24 rfl fun h12 => ?_
    have h12 := max_map h12
    obtain ⟨o2, h10, h11⟩ := bnd hm
    refine VW.joinE (fun (q : Unit) => o2 = Out.go q) (fun (j2 : Unit) (gg : Unit) => [(1, .ptr b 0)]) (fun (j2 : Unit) (gg : Unit) => [.box b 33 (T_api_Pod.cells p)]) ?_ ?_
    · have hm := h10
      refine VW.block (VW.loop (p.Ports.length + 1) ?_)
      refine VL.eachS (l := p.Ports) (R := _) (fun zl zk (zs : Int) => spec_RightPod.l2 zl zk zs) (fun (k2 : Nat) (zs : Int) (zg : Unit) => [(1, .ptr b 0), (5, .int .i64 zs), (24, .list 3 (List.map (VV.int .i64) p.Ports)), (25, .int .i64 (p.Ports.length : Int)), (26, .int .i64 (k2 : Int))]) (fun (k2 : Nat) (zs : Int) (zg : Unit) => [.box b 33 (T_api_Pod.cells p)]) (0 : Int) () (Shift.pick [0] rfl ⟨rfl, rfl, rfl, rfl, rfl, trivial⟩) h10 ?_ ?_
      · rintro k2 last2 _ hk hm
        rw [spec_RightPod.l2] at hm
        refine VW.seq ?_
        refine VW.region ?_
        refine VR.p rfl rfl (VP.arith rfl rfl rfl) ?_
        refine VR.nil ?_
        refine VW.seq ?_
        refine VW.condF rfl (k_end hk) ?_
        refine VW.exit ?_
        exact ⟨(), (), (Option.some.inj hm).symm, (Shift.pick [0] rfl ⟨rfl, trivial⟩)⟩
      · rintro k2 x2 l2 last2 _ h13 hm
        rw [spec_RightPod.l2] at hm
        refine VW.seq ?_
        refine VW.region ?_
        refine VR.p rfl rfl (VP.arith rfl rfl rfl) ?_
        refine VR.nil ?_
        refine VW.seq ?_
        refine VW.condT rfl (k_lt h13) ?_
        refine VW.skip ?_
        refine VW.seq ?_
        refine VW.block ?_
        refine VW.seq ?_
        refine VW.region ?_
        refine VR.p rfl rfl (VP.glK (VV.int .i64) rfl rfl el31 h13) ?_
        refine VR.p rfl rfl (VP.loadE rfl ld3 rfl) ?_
        refine VR.p rfl rfl (VP.assign rfl) ?_
        refine VR.nil ?_
        refine VW.seq ?_
        refine VW.seq ?_
        refine VW.region ?_
        refine VR.p rfl rfl (VP.move rfl) ?_
        refine VR.p rfl rfl (VP.move rfl) ?_
        refine VR.p rfl rfl (VP.arith rfl rfl rfl) ?_
        refine VR.p rfl rfl (VP.move rfl) ?_
        refine VR.sc 3 36 (.bool ((decide (x2 ≤ last2)) || (decide (x2 > (65535 : Int))))) (fun K' J => ?_) ?_
        · rcases Bool.eq_false_or_eq_true (decide (x2 ≤ last2)) with h14 | h14
          · refine VR.skipG rfl rfl rfl rfl h14 ?_
            refine VR.skipG rfl rfl rfl rfl h14 ?_
            refine VR.p rfl rfl (VP.pickB true rfl h14 rfl) ?_
            exact J [_, _] _ rfl (orT h14)
          · refine VR.pG rfl rfl rfl rfl h14 (VP.move rfl) ?_
            refine VR.pG rfl rfl rfl rfl h14 (VP.arith rfl rfl rfl) ?_
            refine VR.p rfl rfl (VP.pickB false rfl h14 rfl) ?_
            exact J [_, _] _ rfl (orF h14)
        · refine VR.nil ?_
          rcases ite_or hm with ⟨h15, hm⟩ | ⟨h15, hm⟩
          · refine VW.condT rfl h15 ?_
            refine VW.seq ?_
            refine VW.region ?_
            refine VR.p rfl rfl (VP.assign rfl) ?_
            refine VR.nil ?_
            obtain rfl := Option.some.inj hm
            have hm := Out.ret_on h11
            obtain rfl := Option.some.inj hm
            exact VW.ret ⟨.inl rfl, _, .cons (.tmp _ _ rfl) .nil, [], _, rfl, rfl, rfl⟩
          · have h15 := bf h15
            refine VW.condF rfl h15 ?_
            refine VW.skip ?_
            refine VW.region ?_
            refine VR.p rfl rfl (VP.move rfl) ?_
            refine VR.p rfl rfl (VP.assign rfl) ?_
            refine VR.nil ?_
            refine VW.region ?_
            refine VR.p rfl rfl (VP.arith rfl rfl rfl) ?_
            refine VR.p rfl rfl (VP.move rfl) ?_
            refine VR.nil ?_
            exact ⟨x2, (), hm, (Shift.pick [0] rfl ⟨rfl, rfl, rfl, rfl, congrArg some (k_next h13 h12), trivial⟩)⟩
    · rintro j2 _ rfl
      have hm := Out.go_on h11
      refine VW.seq ?_
      refine VW.seq ?_
      refine VW.region ?_
      refine VR.p rfl rfl (VP.fieldP rfl fa33_2) ?_
      refine VR.p rfl rfl (VP.loadP (i := 0) rfl rfl ld24 rfl) ?_
      refine VR.p rfl rfl (VP.fieldP rfl fa33_3) ?_
      refine VR.p rfl rfl (VP.loadP (i := 0) rfl rfl ld24 rfl) ?_
      refine VR.p rfl rfl (VP.fieldP rfl fa33_7) ?_
      refine VR.p rfl rfl (VP.loadP (i := 0) rfl rfl ld24 rfl) ?_
      refine VR.p rfl rfl (VP.fieldP rfl fa33_9) ?_
      refine VR.p rfl rfl (VP.loadP (i := 0) rfl rfl ld24 rfl) ?_
      refine VR.cons rfl rfl (VO.buildSlice ap108 rfl rfl rfl rfl rfl fun b3 => ?_)
      refine VR.shift (Shift.freezeE 0 [(47, .list 24 (List.map (fun (q : List T_api_Label) => VV.list 79 (List.map T_api_Label.vv q)) [p.Labels, p.Select, p.Apart, p.Spread]))] rfl ⟨⟨_, rfl, .here _ rfl⟩, trivial⟩ (FzH.refl _)) ?_
      refine VR.p rfl rfl (VP.lenT (fun (q : List T_api_Label) => VV.list 79 (List.map T_api_Label.vv q)) rfl Try.underlying108) ?_
      refine VR.p rfl rfl (VP.move rfl) ?_
      refine VR.nil ?_
      refine VW.lenL 47 rfl fun h19 => ?_
      have h19 := max_map h19
      obtain ⟨o3, h17, h18⟩ := bnd hm
      refine VW.joinE (fun (q : Unit) => o3 = Out.go q) (fun (j3 : Unit) (gg : Unit) => [(1, .ptr b 0)]) (fun (j3 : Unit) (gg : Unit) => [.box b 33 (T_api_Pod.cells p)]) ?_ ?_
      · have hm := h17
        refine VW.block (VW.loop ([p.Labels, p.Select, p.Apart, p.Spread].length + 1) ?_)
        refine VL.eachS (l := [p.Labels, p.Select, p.Apart, p.Spread]) (R := _) (fun zl zk (zs : Unit) => spec_RightPod.l3 zl zk) (fun (k3 : Nat) (zs : Unit) (zg : Unit) => [(1, .ptr b 0), (47, .list 24 (List.map (fun (q : List T_api_Label) => VV.list 79 (List.map T_api_Label.vv q)) [p.Labels, p.Select, p.Apart, p.Spread])), (48, .int .i64 ([p.Labels, p.Select, p.Apart, p.Spread].length : Int)), (49, .int .i64 (k3 : Int))]) (fun (k3 : Nat) (zs : Unit) (zg : Unit) => [.box b 33 (T_api_Pod.cells p)]) () () (Shift.pick [0] rfl ⟨rfl, rfl, rfl, rfl, trivial⟩) h17 ?_ ?_
        · rintro k3 _ _ hk hm
          rw [spec_RightPod.l3] at hm
          refine VW.seq ?_
          refine VW.region ?_
          refine VR.p rfl rfl (VP.arith rfl rfl rfl) ?_
          refine VR.nil ?_
          refine VW.seq ?_
          refine VW.condF rfl (k_end hk) ?_
          refine VW.exit ?_
          exact ⟨(), (), (Option.some.inj hm).symm, (Shift.pick [0] rfl ⟨rfl, trivial⟩)⟩
        · rintro k3 x3 l3 _ _ h20 hm
          rw [spec_RightPod.l3] at hm
          refine VW.seq ?_
          refine VW.region ?_
          refine VR.p rfl rfl (VP.arith rfl rfl rfl) ?_
          refine VR.nil ?_
          refine VW.seq ?_
          refine VW.condT rfl (k_lt h20) ?_
          refine VW.skip ?_
          refine VW.seq ?_
          refine VW.block ?_
          refine VW.seq ?_
          refine VW.region ?_
          refine VR.p rfl rfl (VP.glK (fun (q : List T_api_Label) => VV.list 79 (List.map T_api_Label.vv q)) rfl rfl el108 h20) ?_
          refine VR.p rfl rfl (VP.loadE rfl ld24 rfl) ?_
          refine VR.p rfl rfl (VP.assign rfl) ?_
          refine VR.nil ?_
          refine VW.seq ?_
          refine VW.region ?_
          refine VR.p rfl rfl (VP.move rfl) ?_
          obtain ⟨r2, h21, hm⟩ := bnd hm
          refine VR.cons rfl rfl (VO.callK 0 rfl fn96 rfl (labels_Right_ok x3 r2 h21) fun _ _ h23 => ?_)
          obtain ⟨rfl, rfl⟩ := h23
          refine VR.p rfl rfl (VP.not rfl) ?_
          refine VR.nil ?_
          rcases ite_or hm with ⟨h22, hm⟩ | ⟨h22, hm⟩
          · refine VW.condT rfl h22 ?_
            refine VW.seq ?_
            refine VW.region ?_
            refine VR.p rfl rfl (VP.assign rfl) ?_
            refine VR.nil ?_
            obtain rfl := Option.some.inj hm
            have hm := Out.ret_on h18
            obtain rfl := Option.some.inj hm
            exact VW.ret ⟨.inl rfl, _, .cons (.tmp _ _ rfl) .nil, [], _, rfl, rfl, rfl⟩
          · have h22 := bf h22
            refine VW.condF rfl h22 ?_
            refine VW.skip ?_
            refine VW.region ?_
            refine VR.p rfl rfl (VP.arith rfl rfl rfl) ?_
            refine VR.p rfl rfl (VP.move rfl) ?_
            refine VR.nil ?_
            exact ⟨(), (), hm, (Shift.pick [0] rfl ⟨rfl, rfl, rfl, congrArg some (k_next h20 h19), trivial⟩)⟩
      · rintro j3 _ rfl
        have hm := Out.go_on h18
        refine VW.seq ?_
        refine VW.region ?_
        refine VR.p rfl rfl (VP.assign rfl) ?_
        refine VR.p rfl rfl (VP.assign rfl) ?_
        refine VR.nil ?_
        obtain ⟨o4, h24, h25⟩ := bnd hm
        refine VW.join (fun (q : Int × Int) => q = o4) (fun (j4 : Int × Int) (gg : Unit) => [(1, .ptr b 0), (10, .int .i64 j4.1), (11, .int .i64 j4.2)]) (fun (j4 : Int × Int) (gg : Unit) => [.box b 33 (T_api_Pod.cells p)]) ?_ ?_
        · have hm := h24
          refine VW.seq ?_
          refine VW.region ?_
          refine VR.p rfl rfl (VP.fieldP rfl fa33_9) ?_
          refine VR.p rfl rfl (VP.loadP (i := 0) rfl rfl ld24 rfl) ?_
          refine VR.p rfl rfl (VP.lenT T_api_Label.vv rfl Try.underlying24) ?_
          refine VR.p rfl rfl (VP.arith rfl rfl rfl) ?_
          refine VR.nil ?_
          rcases ite_or hm with ⟨h26, hm⟩ | ⟨h26, hm⟩
          · refine VW.condT rfl h26 ?_
            refine VW.region ?_
            refine VR.p rfl rfl (VP.assign rfl) ?_
            refine VR.p rfl rfl (VP.assign rfl) ?_
            refine VR.nil ?_
            exact ⟨((1 : Int), (100 : Int)), (), Option.some.inj hm, (Shift.pick [0] rfl ⟨rfl, rfl, rfl, trivial⟩)⟩
          · have h26 := bf h26
            refine VW.condF rfl h26 ?_
            refine VW.skip ?_
            exact ⟨((0 : Int), (0 : Int)), (), Option.some.inj hm, (Shift.pick [0] rfl ⟨rfl, rfl, rfl, trivial⟩)⟩
        · rintro j4 _ rfl
          have hm := h25
          refine VW.seq ?_
          refine VW.block ?_
          refine VW.seq ?_
          refine VW.region ?_
          refine VR.p rfl rfl (VP.fieldP rfl fa33_0) ?_
          refine VR.p rfl rfl (VP.loadP (i := 0) rfl rfl ld9 rfl) ?_
          obtain ⟨r3, h27, hm⟩ := bnd hm
          refine VR.cons rfl rfl (VO.callK 0 rfl fn99 rfl (lex_Word_ok p.Name r3 h27) fun _ _ h51 => ?_)
          obtain ⟨rfl, rfl⟩ := h51
          refine VR.p rfl rfl (VP.not rfl) ?_
          refine VR.p rfl rfl (VP.move rfl) ?_
          obtain ⟨c, h31, hm⟩ := bnd hm
          refine VR.sc 5 71 (.bool c) (fun K' J => ?_) ?_
          · have hm := h31
            rcases ite_or hm with ⟨h28, hm⟩ | ⟨h28, hm⟩
            · refine VR.skipG rfl rfl rfl rfl h28 ?_
              refine VR.skipG rfl rfl rfl rfl h28 ?_
              refine VR.skipG rfl rfl rfl rfl h28 ?_
              refine VR.skipG rfl rfl rfl rfl h28 ?_
              refine VR.p rfl rfl (VP.pickB true rfl h28 rfl) ?_
              exact J [_, _, _, _] _ rfl (congrArg VV.bool (Option.some.inj hm))
            · have h28 := bf h28
              refine VR.pG rfl rfl rfl rfl h28 (VP.fieldP rfl fa33_12) ?_
              refine VR.pG rfl rfl rfl rfl h28 (VP.loadP (i := 0) rfl rfl ld9 rfl) ?_
              obtain ⟨r4, h29, hm⟩ := bnd hm
              refine VR.consG rfl rfl rfl rfl h28 (VO.callK 0 rfl fn95 rfl (spec_maybe_ok p.Owner r4 h29) fun _ _ h30 => ?_)
              obtain ⟨rfl, rfl⟩ := h30
              refine VR.pG rfl rfl rfl rfl h28 (VP.not rfl) ?_
              refine VR.p rfl rfl (VP.pickB false rfl h28 rfl) ?_
              exact J [_, _, _, _] _ rfl (congrArg VV.bool (Option.some.inj hm))
          · refine VR.p rfl rfl (VP.assign rfl) ?_
            refine VR.nil ?_
            rcases ite_or hm with ⟨h32, hm⟩ | ⟨h32, hm⟩
            · refine VW.condT rfl h32 ?_
              refine VW.seq ?_
              refine VW.region ?_
              refine VR.p rfl rfl (VP.assign rfl) ?_
              refine VR.nil ?_
              obtain rfl := Option.some.inj hm
              exact VW.ret ⟨.inl rfl, _, .cons (.tmp _ _ rfl) .nil, [], _, rfl, rfl, rfl⟩
            · have h32 := bf h32
              refine VW.condF rfl h32 ?_
              refine VW.seq ?_
              refine VW.region ?_
              refine VR.p rfl rfl (VP.fieldP rfl fa33_1) ?_
              refine VR.p rfl rfl (VP.loadP (i := 0) rfl rfl ld23 rfl) ?_
              obtain ⟨r5, h33, hm⟩ := bnd hm
              refine VR.cons rfl rfl (VO.callK 0 rfl fn73 rfl (res_Right_ok p.Need r5 h33) fun _ _ h50 => ?_)
              obtain ⟨rfl, rfl⟩ := h50
              refine VR.p rfl rfl (VP.not rfl) ?_
              refine VR.p rfl rfl (VP.move rfl) ?_
              refine VR.sc 5 82 (.bool ((!r5) || (p.Need.Pods != (1 : Int)))) (fun K' J => ?_) ?_
              · rcases Bool.eq_false_or_eq_true (!r5) with h34 | h34
                · refine VR.skipG rfl rfl rfl rfl h34 ?_
                  refine VR.skipG rfl rfl rfl rfl h34 ?_
                  refine VR.skipG rfl rfl rfl rfl h34 ?_
                  refine VR.skipG rfl rfl rfl rfl h34 ?_
                  refine VR.p rfl rfl (VP.pickB true rfl h34 rfl) ?_
                  exact J [_, _, _, _] _ rfl (orT h34)
                · refine VR.pG rfl rfl rfl rfl h34 (VP.fieldP rfl fa33_1) ?_
                  refine VR.pG rfl rfl rfl rfl h34 (VP.fieldP rfl fa23_3) ?_
                  refine VR.pG rfl rfl rfl rfl h34 (VP.loadP (i := 0) rfl rfl ld3 rfl) ?_
                  refine VR.pG rfl rfl rfl rfl h34 (VP.arith rfl rfl rfl) ?_
                  refine VR.p rfl rfl (VP.pickB false rfl h34 rfl) ?_
                  exact J [_, _, _, _] _ rfl (orF h34)
              · refine VR.p rfl rfl (VP.assign rfl) ?_
                refine VR.nil ?_
                rcases ite_or hm with ⟨h35, hm⟩ | ⟨h35, hm⟩
                · refine VW.condT rfl h35 ?_
                  refine VW.seq ?_
                  refine VW.region ?_
                  refine VR.p rfl rfl (VP.assign rfl) ?_
                  refine VR.nil ?_
                  obtain rfl := Option.some.inj hm
                  exact VW.ret ⟨.inl rfl, _, .cons (.tmp _ _ rfl) .nil, [], _, rfl, rfl, rfl⟩
                · have h35 := bf h35
                  refine VW.condF rfl h35 ?_
                  refine VW.seq ?_
                  refine VW.region ?_
                  refine VR.p rfl rfl (VP.fieldP rfl fa33_4) ?_
                  refine VR.p rfl rfl (VP.loadP (i := 0) rfl rfl ld29 rfl) ?_
                  refine VR.p rfl rfl (VP.lenT T_api_Term.vv rfl Try.underlying29) ?_
                  refine VR.p rfl rfl (VP.arith rfl rfl rfl) ?_
                  refine VR.p rfl rfl (VP.move rfl) ?_
                  refine VR.sc 5 93 (.bool ((decide ((p.Terms.length : Int) > (16 : Int))) || (decide ((p.Ports.length : Int) > (16 : Int))))) (fun K' J => ?_) ?_
                  · rcases Bool.eq_false_or_eq_true (decide ((p.Terms.length : Int) > (16 : Int))) with h36 | h36
                    · refine VR.skipG rfl rfl rfl rfl h36 ?_
                      refine VR.skipG rfl rfl rfl rfl h36 ?_
                      refine VR.skipG rfl rfl rfl rfl h36 ?_
                      refine VR.skipG rfl rfl rfl rfl h36 ?_
                      refine VR.p rfl rfl (VP.pickB true rfl h36 rfl) ?_
                      exact J [_, _, _, _] _ rfl (orT h36)
                    · refine VR.pG rfl rfl rfl rfl h36 (VP.fieldP rfl fa33_6) ?_
                      refine VR.pG rfl rfl rfl rfl h36 (VP.loadP (i := 0) rfl rfl ld31 rfl) ?_
                      refine VR.pG rfl rfl rfl rfl h36 (VP.lenT (VV.int .i64) rfl Try.underlying31) ?_
                      refine VR.pG rfl rfl rfl rfl h36 (VP.arith rfl rfl rfl) ?_
                      refine VR.p rfl rfl (VP.pickB false rfl h36 rfl) ?_
                      exact J [_, _, _, _] _ rfl (orF h36)
                  · refine VR.p rfl rfl (VP.assign rfl) ?_
                    refine VR.nil ?_
                    rcases ite_or hm with ⟨h37, hm⟩ | ⟨h37, hm⟩
                    · refine VW.condT rfl h37 ?_
                      refine VW.seq ?_
                      refine VW.region ?_
                      refine VR.p rfl rfl (VP.assign rfl) ?_
                      refine VR.nil ?_
                      obtain rfl := Option.some.inj hm
                      exact VW.ret ⟨.inl rfl, _, .cons (.tmp _ _ rfl) .nil, [], _, rfl, rfl, rfl⟩
                    · have h37 := bf h37
                      refine VW.condF rfl h37 ?_
                      refine VW.seq ?_
                      refine VW.region ?_
                      refine VR.p rfl rfl (VP.fieldP rfl fa33_8) ?_
                      refine VR.p rfl rfl (VP.loadP (i := 0) rfl rfl ld4 rfl) ?_
                      refine VR.p rfl rfl (VP.move rfl) ?_
                      refine VR.sc 5 102 (.bool (p.Wide && ((p.Apart.length : Int) == (0 : Int)))) (fun K' J => ?_) ?_
                      · rcases Bool.eq_false_or_eq_true p.Wide with h38 | h38
                        · refine VR.pG rfl rfl rfl rfl h38 (VP.fieldP rfl fa33_7) ?_
                          refine VR.pG rfl rfl rfl rfl h38 (VP.loadP (i := 0) rfl rfl ld24 rfl) ?_
                          refine VR.pG rfl rfl rfl rfl h38 (VP.lenT T_api_Label.vv rfl Try.underlying24) ?_
                          refine VR.pG rfl rfl rfl rfl h38 (VP.arith rfl rfl rfl) ?_
                          refine VR.p rfl rfl (VP.pickB true rfl h38 rfl) ?_
                          exact J [_, _, _, _] _ rfl (andT h38)
                        · refine VR.skipG rfl rfl rfl rfl h38 ?_
                          refine VR.skipG rfl rfl rfl rfl h38 ?_
                          refine VR.skipG rfl rfl rfl rfl h38 ?_
                          refine VR.skipG rfl rfl rfl rfl h38 ?_
                          refine VR.p rfl rfl (VP.pickB false rfl h38 rfl) ?_
                          exact J [_, _, _, _] _ rfl (andF h38)
                      · refine VR.p rfl rfl (VP.move rfl) ?_
                        obtain ⟨c2, h42, hm⟩ := bnd hm
                        refine VR.sc 7 110 (.bool c2) (fun K' J => ?_) ?_
                        · have hm := h42
                          rcases ite_or hm with ⟨h39, hm⟩ | ⟨h39, hm⟩
                          · refine VR.skipG rfl rfl rfl rfl h39 ?_
                            refine VR.skipG rfl rfl rfl rfl h39 ?_
                            refine VR.skipG rfl rfl rfl rfl h39 ?_
                            refine VR.skipG rfl rfl rfl rfl h39 ?_
                            refine VR.skipG rfl rfl rfl rfl h39 ?_
                            refine VR.skipG rfl rfl rfl rfl h39 ?_
                            refine VR.p rfl rfl (VP.pickB true rfl h39 rfl) ?_
                            exact J [_, _, _, _, _, _] _ rfl (congrArg VV.bool (Option.some.inj hm))
                          · have h39 := bf h39
                            refine VR.pG rfl rfl rfl rfl h39 (VP.fieldP rfl fa33_10) ?_
                            refine VR.pG rfl rfl rfl rfl h39 (VP.loadP (i := 0) rfl rfl ld3 rfl) ?_
                            refine VR.pG rfl rfl rfl rfl h39 (VP.move rfl) ?_
                            refine VR.pG rfl rfl rfl rfl h39 (VP.move rfl) ?_
                            obtain ⟨r6, h40, hm⟩ := bnd hm
                            refine VR.consG rfl rfl rfl rfl h39 (VO.callK 0 rfl fn100 rfl (spec_between_ok p.Skew j4.1 j4.2 r6 h40) fun _ _ h41 => ?_)
                            obtain ⟨rfl, rfl⟩ := h41
                            refine VR.pG rfl rfl rfl rfl h39 (VP.not rfl) ?_
                            refine VR.p rfl rfl (VP.pickB false rfl h39 rfl) ?_
                            exact J [_, _, _, _, _, _] _ rfl (congrArg VV.bool (Option.some.inj hm))
                        · refine VR.p rfl rfl (VP.assign rfl) ?_
                          refine VR.nil ?_
                          rcases ite_or hm with ⟨h43, hm⟩ | ⟨h43, hm⟩
                          · refine VW.condT rfl h43 ?_
                            refine VW.seq ?_
                            refine VW.region ?_
                            refine VR.p rfl rfl (VP.assign rfl) ?_
                            refine VR.nil ?_
                            obtain rfl := Option.some.inj hm
                            exact VW.ret ⟨.inl rfl, _, .cons (.tmp _ _ rfl) .nil, [], _, rfl, rfl, rfl⟩
                          · have h43 := bf h43
                            refine VW.condF rfl h43 ?_
                            refine VW.skip ?_
                            refine VW.seq ?_
                            refine VW.region ?_
                            refine VR.p rfl rfl (VP.fieldP rfl fa33_5) ?_
                            refine VR.p rfl rfl (VP.loadP (i := 0) rfl rfl ld30 rfl) ?_
                            obtain ⟨r7, h44, hm⟩ := bnd hm
                            refine VR.cons rfl rfl (VO.callK 0 rfl fn101 rfl (taints_RightBears_ok p.Bears r7 h44) fun _ _ h49 => ?_)
                            obtain ⟨rfl, rfl⟩ := h49
                            refine VR.p rfl rfl (VP.move rfl) ?_
                            obtain ⟨c3, h48, hm⟩ := bnd hm
                            refine VR.sc 4 118 (.bool c3) (fun K' J => ?_) ?_
                            · have hm := h48
                              rcases ite_or hm with ⟨h45, hm⟩ | ⟨h45, hm⟩
                              · refine VR.pG rfl rfl rfl rfl h45 (VP.fieldP rfl fa33_11) ?_
                                refine VR.pG rfl rfl rfl rfl h45 (VP.loadP (i := 0) rfl rfl ld3 rfl) ?_
                                obtain ⟨r8, h46, hm⟩ := bnd hm
                                refine VR.consG rfl rfl rfl rfl h45 (VO.callK 0 rfl fn100 rfl (spec_between_ok p.Rank (0 : Int) (1000 : Int) r8 h46) fun _ _ h47 => ?_)
                                obtain ⟨rfl, rfl⟩ := h47
                                refine VR.p rfl rfl (VP.pickB true rfl h45 rfl) ?_
                                exact J [_, _, _] _ rfl (congrArg VV.bool (Option.some.inj hm))
                              · have h45 := bf h45
                                refine VR.skipG rfl rfl rfl rfl h45 ?_
                                refine VR.skipG rfl rfl rfl rfl h45 ?_
                                refine VR.skipG rfl rfl rfl rfl h45 ?_
                                refine VR.p rfl rfl (VP.pickB false rfl h45 rfl) ?_
                                exact J [_, _, _] _ rfl (congrArg VV.bool (Option.some.inj hm))
                            · refine VR.p rfl rfl (VP.assign rfl) ?_
                              refine VR.nil ?_
                              obtain rfl := Option.some.inj hm
                              exact VW.ret ⟨.inl rfl, _, .cons (.tmp _ _ rfl) .nil, [], _, rfl, rfl, rfl⟩

/-! trireme/yard.Check$3 -/
def yard_Check_3 (i : Int) (a : List T_api_Bound) : Option Bool :=
  (V.gl a i).bind fun x =>
  (spec_RightPod x.Pod).bind fun r =>
  some (!r)
theorem yard_Check_3_ok (i : Int) (a : List T_api_Bound) (b : Nat) (r : Bool) (hm : yard_Check_3 i a = some r) :
    VC Try.prog 69 [.int .i64 i, .ptr b 0] [.box b 28 [.list 49 (List.map T_api_Bound.vv a)]] (fun zx zH => zx = .bool r ∧ zH = [.box b 28 [.list 49 (List.map T_api_Bound.vv a)]]) := by
  unfold yard_Check_3 at hm
  refine VC.run (c := _) (rs := [.tmp 3]) Try.func69 rfl rfl rfl ?_
  refine VW.seq ?_
  refine VW.region ?_
  refine VR.p rfl rfl (VP.assign rfl) ?_
  refine VR.nil ?_
  refine VW.seq ?_
  refine VW.region ?_
  refine VR.p rfl rfl (VP.loadP (i := 0) rfl rfl ld28 rfl) ?_
  refine VR.p rfl rfl (VP.move rfl) ?_
  obtain ⟨x, h1, hm⟩ := bnd hm
  refine VR.p rfl rfl (VP.glE T_api_Bound.vv rfl rfl el28 h1) ?_
  refine VR.p rfl rfl (VP.fieldE rfl fa49_0) ?_
  refine VR.p rfl rfl (VP.loadE rfl ld33 rfl) ?_
  obtain ⟨r, h2, hm⟩ := bnd hm
  refine VR.cons rfl rfl (VO.callK 0 rfl fn70 rfl (spec_RightPod_ok x.Pod r h2) fun _ _ h3 => ?_)
  obtain ⟨rfl, rfl⟩ := h3
  refine VR.p rfl rfl (VP.not rfl) ?_
  refine VR.p rfl rfl (VP.assign rfl) ?_
  refine VR.nil ?_
  obtain rfl := Option.some.inj hm
  exact VW.ret ⟨.inl rfl, _, .cons (.tmp _ _ rfl) .nil, [0], _, rfl, rfl, rfl⟩

/-! trireme/yard.first -/
def yard_first_yard_Check_3.l1 (n : Int) (c : List T_api_Bound) : Nat → Int → Option (Out Int Unit)
  | 0, _ => none
  | n2 + 1, v2 =>
    if (decide (v2 < n)) = true then
      (yard_Check_3 v2 c).bind fun r =>
      if r = true then
        some (Out.ret v2)
      else
        yard_first_yard_Check_3.l1 n c n2 (IntKind.i64.wrap (v2 + (1 : Int)))
    else
      some (Out.go ())
def yard_first_yard_Check_3 (n : Int) (c : List T_api_Bound) : Option Int :=
  (yard_first_yard_Check_3.l1 n c FU (0 : Int)).bind fun o =>
  o.on fun j =>
  some (-1 : Int)
theorem yard_first_yard_Check_3_ok (n : Int) (c : List T_api_Bound) (b : Nat) (r : Int) (hm : yard_first_yard_Check_3 n c = some r) :
    VC Try.prog 66 [.int .i64 n, .clo (.func 69) [] [.ptr b 0]] [.box b 28 [.list 49 (List.map T_api_Bound.vv c)]] (fun zx zH => zx = .int .i64 r ∧ zH = [.box b 28 [.list 49 (List.map T_api_Bound.vv c)]]) := by
  unfold yard_first_yard_Check_3 at hm
  refine VC.run (c := _) (rs := [.tmp 4]) Try.func66 rfl rfl rfl ?_
  refine VW.seq ?_
  refine VW.region ?_
  refine VR.p rfl rfl (VP.assign rfl) ?_
  refine VR.nil ?_
  refine VW.seq ?_
  refine VW.seq ?_
  refine VW.region ?_
  refine VR.p rfl rfl (VP.move rfl) ?_
  refine VR.p rfl rfl (VP.move rfl) ?_
  refine VR.nil ?_
  obtain ⟨o, h1, h2⟩ := bnd hm
  refine VW.joinE (fun (q : Unit) => o = Out.go q) (fun (j : Unit) (gg : Unit) => []) (fun (j : Unit) (gg : Unit) => [.box b 28 [.list 49 (List.map T_api_Bound.vv c)]]) ?_ ?_
  · have hm := h1
    refine VW.block (VW.loop FU ?_)
    refine VL.fuelS (R := _) (fun zn (zs : Int) => yard_first_yard_Check_3.l1 n c zn zs) (fun (zs : Int) (zg : Unit) => [(1, .clo (.func 69) [] [.ptr b 0]), (6, .int .i64 n), (7, .int .i64 zs)]) (fun (zs : Int) (zg : Unit) => [.box b 28 [.list 49 (List.map T_api_Bound.vv c)]]) (0 : Int) () (fun zs => rfl) (Shift.pick [0] rfl ⟨rfl, rfl, rfl, trivial⟩) h1 ?_
    rintro n2 v2 _ hm
    rw [yard_first_yard_Check_3.l1] at hm
    refine VW.seq ?_
    refine VW.region ?_
    refine VR.p rfl rfl (VP.arith rfl rfl rfl) ?_
    refine VR.nil ?_
    refine VW.seq ?_
    rcases ite_or hm with ⟨h3, hm⟩ | ⟨h3, hm⟩
    · refine VW.condT rfl h3 ?_
      refine VW.skip ?_
      refine VW.seq ?_
      refine VW.block ?_
      refine VW.seq ?_
      refine VW.region ?_
      refine VR.p rfl rfl (VP.move rfl) ?_
      refine VR.p rfl rfl (VP.assign rfl) ?_
      refine VR.nil ?_
      refine VW.seq ?_
      refine VW.region ?_
      refine VR.p rfl rfl (VP.move rfl) ?_
      refine VR.p rfl rfl (VP.move rfl) ?_
      obtain ⟨r, h4, hm⟩ := bnd hm
      refine VR.cons rfl rfl (VO.callK 1 rfl fn69 rfl (yard_Check_3_ok v2 c b r h4) fun _ _ h6 => ?_)
      obtain ⟨rfl, rfl⟩ := h6
      refine VR.nil ?_
      rcases ite_or hm with ⟨h5, hm⟩ | ⟨h5, hm⟩
      · refine VW.condT rfl h5 ?_
        refine VW.seq ?_
        refine VW.region ?_
        refine VR.p rfl rfl (VP.move rfl) ?_
        refine VR.p rfl rfl (VP.assign rfl) ?_
        refine VR.nil ?_
        obtain rfl := Option.some.inj hm
        have hm := Out.ret_on h2
        obtain rfl := Option.some.inj hm
        exact VW.ret ⟨.inl rfl, _, .cons (.tmp _ _ rfl) .nil, [0], _, rfl, rfl, rfl⟩
      · have h5 := bf h5
        refine VW.condF rfl h5 ?_
        refine VW.skip ?_
        refine VW.region ?_
        refine VR.p rfl rfl (VP.arith rfl rfl rfl) ?_
        refine VR.p rfl rfl (VP.move rfl) ?_
        refine VR.nil ?_
        exact ⟨(IntKind.i64.wrap (v2 + (1 : Int))), (), hm, (Shift.pick [0] rfl ⟨rfl, rfl, rfl, trivial⟩)⟩
    · have h3 := bf h3
      refine VW.condF rfl h3 ?_
      refine VW.exit ?_
      exact ⟨(), (), (Option.some.inj hm).symm, (Shift.pick [0] rfl trivial)⟩
  · rintro j _ rfl
    have hm := Out.go_on h2
    refine VW.seq ?_
    refine VW.region ?_
    refine VR.p rfl rfl (VP.assign rfl) ?_
    refine VR.nil ?_
    obtain rfl := Option.some.inj hm
    exact VW.ret ⟨.inl rfl, _, .cons (.tmp _ _ rfl) .nil, [0], _, rfl, rfl, rfl⟩

/-! trireme/yard.Check$1 -/
def yard_Check_1_yard_Check_3 (n : Int) (c : List T_api_Bound) : Option Bool :=
  (yard_first_yard_Check_3 n c).bind fun r =>
  some (r != (-1 : Int))
theorem yard_Check_1_yard_Check_3_ok (n : Int) (c : List T_api_Bound) (b : Nat) (r : Bool) (hm : yard_Check_1_yard_Check_3 n c = some r) :
    VC Try.prog 65 [.int .i64 n, .clo (.func 69) [] [.ptr b 0]] [.box b 28 [.list 49 (List.map T_api_Bound.vv c)]] (fun zx zH => zx = .bool r ∧ zH = [.box b 28 [.list 49 (List.map T_api_Bound.vv c)]]) := by
  unfold yard_Check_1_yard_Check_3 at hm
  refine VC.run (c := _) (rs := [.tmp 4]) Try.func65 rfl rfl rfl ?_
  refine VW.seq ?_
  refine VW.region ?_
  refine VR.p rfl rfl (VP.assign rfl) ?_
  refine VR.nil ?_
  refine VW.seq ?_
  refine VW.region ?_
  refine VR.p rfl rfl (VP.move rfl) ?_
  refine VR.p rfl rfl (VP.move rfl) ?_
  obtain ⟨r, h1, hm⟩ := bnd hm
  refine VR.cons rfl rfl (VO.callK 1 rfl fn66 rfl (yard_first_yard_Check_3_ok n c b r h1) fun _ _ h2 => ?_)
  obtain ⟨rfl, rfl⟩ := h2
  refine VR.p rfl rfl (VP.arith rfl rfl rfl) ?_
  refine VR.p rfl rfl (VP.assign rfl) ?_
  refine VR.nil ?_
  obtain rfl := Option.some.inj hm
  exact VW.ret ⟨.inl rfl, _, .cons (.tmp _ _ rfl) .nil, [0], _, rfl, rfl, rfl⟩

/-! trireme/yard.Check$4 -/
def yard_Check_4 (i : Int) (a : List T_api_Bound) (a2 : List (ByteArray × Int)) : Option Bool :=
  (V.gl a i).bind fun x =>
  (if (!(V.seq x.On (⟨#[]⟩ : ByteArray))) = true then (V.gl a i).bind fun x2 =>
  some (((V.mg a2 x2.On).getD (0 : Int)) == (0 : Int)) else some false).bind fun c =>
  some c
theorem yard_Check_4_ok (i : Int) (a : List T_api_Bound) (a2 : List (ByteArray × Int)) (b : Nat) (b2 : Nat) (b3 : Nat) (r : Bool) (hm : yard_Check_4 i a a2 = some r) :
    VC Try.prog 71 [.int .i64 i, .ptr b 0, .ptr b2 0] [.box b 28 [.list 49 (List.map T_api_Bound.vv a)], .box b2 90 [.map b3], .map b3 (List.map (pf VV.str (VV.int .i64)) a2)] (fun zx zH => zx = .bool r ∧ zH = [.box b 28 [.list 49 (List.map T_api_Bound.vv a)], .box b2 90 [.map b3], .map b3 (List.map (pf VV.str (VV.int .i64)) a2)]) := by
  unfold yard_Check_4 at hm
  refine VC.run (c := _) (rs := [.tmp 4]) Try.func71 rfl rfl rfl ?_
  refine VW.seq ?_
  refine VW.region ?_
  refine VR.p rfl rfl (VP.assign rfl) ?_
  refine VR.nil ?_
  refine VW.seq ?_
  refine VW.drawK 0 mixed ?_
  refine VA.p 0 rfl rfl rfl (by kernel_rfl) (VP.loadP (i := 0) rfl rfl ld28 rfl) ?_
  refine VA.p 1 rfl rfl rfl (by kernel_rfl) (VP.move rfl) ?_
  obtain ⟨x, h1, hm⟩ := bnd hm
  refine VA.p 2 rfl rfl rfl (by kernel_rfl) (VP.glE T_api_Bound.vv rfl rfl el28 h1) ?_
  refine VA.p 3 rfl rfl rfl (by kernel_rfl) (VP.fieldE rfl fa49_1) ?_
  refine VA.p 4 rfl rfl rfl (by kernel_rfl) (VP.loadE rfl ld9 rfl) ?_
  refine VA.p 5 rfl rfl rfl (by kernel_rfl) (VP.strop rfl rfl rfl) ?_
  refine VA.p 6 rfl rfl rfl (by kernel_rfl) (VP.move rfl) ?_
  obtain ⟨c, h4, hm⟩ := bnd hm
  refine VA.sc [15, 14, 13, 12, 11, 10, 9, 8, 7, 6, 5, 4, 3, 2, 1, 0] 20 (.bool c) (fun K' J => ?_) ?_
  · have hm := h4
    rcases ite_or hm with ⟨h2, hm⟩ | ⟨h2, hm⟩
    · refine VA.pG 7 rfl rfl rfl rfl rfl h2 (by kernel_rfl) (VP.loadP (i := 1) rfl rfl ld90 rfl) ?_
      refine VA.pG 8 rfl rfl rfl rfl rfl h2 (by kernel_rfl) (VP.loadP (i := 0) rfl rfl ld28 rfl) ?_
      refine VA.pG 9 rfl rfl rfl rfl rfl h2 (by kernel_rfl) (VP.move rfl) ?_
      obtain ⟨x2, h3, hm⟩ := bnd hm
      refine VA.pG 10 rfl rfl rfl rfl rfl h2 (by kernel_rfl) (VP.glE T_api_Bound.vv rfl rfl el28 h3) ?_
      refine VA.pG 11 rfl rfl rfl rfl rfl h2 (by kernel_rfl) (VP.fieldE rfl fa49_1) ?_
      refine VA.pG 12 rfl rfl rfl rfl rfl h2 (by kernel_rfl) (VP.loadE rfl ld9 rfl) ?_
      refine VA.pG 13 rfl rfl rfl rfl rfl h2 (by kernel_rfl) (VP.lookup 2 (kf := VV.str) (vf := (VV.int .i64)) (l := a2) (k := x2.On) (z := (0 : Int)) false mk9 Try.underlying90 rfl rfl rfl zc3 rfl) ?_
      refine VA.pG 14 rfl rfl rfl rfl rfl h2 (by kernel_rfl) (VP.arith rfl rfl rfl) ?_
      refine VA.p 15 rfl rfl rfl (by kernel_rfl) (VP.pickB true rfl h2 rfl) ?_
      exact J [_, _, _, _, _, _, _, _] _ rfl (congrArg VV.bool (Option.some.inj hm))
    · have h2 := bf h2
      refine VA.skipG 7 rfl rfl rfl rfl rfl h2 (by kernel_rfl) ?_
      refine VA.skipG 8 rfl rfl rfl rfl rfl h2 (by kernel_rfl) ?_
      refine VA.skipG 9 rfl rfl rfl rfl rfl h2 (by kernel_rfl) ?_
      refine VA.skipG 10 rfl rfl rfl rfl rfl h2 (by kernel_rfl) ?_
      refine VA.skipG 11 rfl rfl rfl rfl rfl h2 (by kernel_rfl) ?_
      refine VA.skipG 12 rfl rfl rfl rfl rfl h2 (by kernel_rfl) ?_
      refine VA.skipG 13 rfl rfl rfl rfl rfl h2 (by kernel_rfl) ?_
      refine VA.skipG 14 rfl rfl rfl rfl rfl h2 (by kernel_rfl) ?_
      refine VA.p 15 rfl rfl rfl (by kernel_rfl) (VP.pickB false rfl h2 rfl) ?_
      exact J [_, _, _, _, _, _, _, _] _ rfl (congrArg VV.bool (Option.some.inj hm))
  · refine VA.p 16 rfl rfl rfl (by kernel_rfl) (VP.assign rfl) ?_
    refine VA.done (by kernel_rfl) ?_
    obtain rfl := Option.some.inj hm
    exact VW.ret ⟨.inl rfl, _, .cons (.tmp _ _ rfl) .nil, [0, 0, 0], _, rfl, rfl, rfl⟩

/-! trireme/yard.first -/
def yard_first_yard_Check_4.l1 (n : Int) (c : List T_api_Bound) (c2 : List (ByteArray × Int)) : Nat → Int → Option (Out Int Unit)
  | 0, _ => none
  | n2 + 1, v2 =>
    if (decide (v2 < n)) = true then
      (yard_Check_4 v2 c c2).bind fun r =>
      if r = true then
        some (Out.ret v2)
      else
        yard_first_yard_Check_4.l1 n c c2 n2 (IntKind.i64.wrap (v2 + (1 : Int)))
    else
      some (Out.go ())
def yard_first_yard_Check_4 (n : Int) (c : List T_api_Bound) (c2 : List (ByteArray × Int)) : Option Int :=
  (yard_first_yard_Check_4.l1 n c c2 FU (0 : Int)).bind fun o =>
  o.on fun j =>
  some (-1 : Int)
theorem yard_first_yard_Check_4_ok (n : Int) (c : List T_api_Bound) (c2 : List (ByteArray × Int)) (b : Nat) (b2 : Nat) (b3 : Nat) (r : Int) (hm : yard_first_yard_Check_4 n c c2 = some r) :
    VC Try.prog 66 [.int .i64 n, .clo (.func 71) [] [.ptr b 0, .ptr b2 0]] [.box b 28 [.list 49 (List.map T_api_Bound.vv c)], .box b2 90 [.map b3], .map b3 (List.map (pf VV.str (VV.int .i64)) c2)] (fun zx zH => zx = .int .i64 r ∧ zH = [.box b 28 [.list 49 (List.map T_api_Bound.vv c)], .box b2 90 [.map b3], .map b3 (List.map (pf VV.str (VV.int .i64)) c2)]) := by
  unfold yard_first_yard_Check_4 at hm
  refine VC.run (c := _) (rs := [.tmp 4]) Try.func66 rfl rfl rfl ?_
  refine VW.seq ?_
  refine VW.region ?_
  refine VR.p rfl rfl (VP.assign rfl) ?_
  refine VR.nil ?_
  refine VW.seq ?_
  refine VW.seq ?_
  refine VW.region ?_
  refine VR.p rfl rfl (VP.move rfl) ?_
  refine VR.p rfl rfl (VP.move rfl) ?_
  refine VR.nil ?_
  obtain ⟨o, h1, h2⟩ := bnd hm
  refine VW.joinE (fun (q : Unit) => o = Out.go q) (fun (j : Unit) (gg : Unit) => []) (fun (j : Unit) (gg : Unit) => [.box b 28 [.list 49 (List.map T_api_Bound.vv c)], .box b2 90 [.map b3], .map b3 (List.map (pf VV.str (VV.int .i64)) c2)]) ?_ ?_
  · have hm := h1
    refine VW.block (VW.loop FU ?_)
    refine VL.fuelS (R := _) (fun zn (zs : Int) => yard_first_yard_Check_4.l1 n c c2 zn zs) (fun (zs : Int) (zg : Unit) => [(1, .clo (.func 71) [] [.ptr b 0, .ptr b2 0]), (6, .int .i64 n), (7, .int .i64 zs)]) (fun (zs : Int) (zg : Unit) => [.box b 28 [.list 49 (List.map T_api_Bound.vv c)], .box b2 90 [.map b3], .map b3 (List.map (pf VV.str (VV.int .i64)) c2)]) (0 : Int) () (fun zs => rfl) (Shift.pick [0, 0, 0] rfl ⟨rfl, rfl, rfl, trivial⟩) h1 ?_
    rintro n2 v2 _ hm
    rw [yard_first_yard_Check_4.l1] at hm
    refine VW.seq ?_
    refine VW.region ?_
    refine VR.p rfl rfl (VP.arith rfl rfl rfl) ?_
    refine VR.nil ?_
    refine VW.seq ?_
    rcases ite_or hm with ⟨h3, hm⟩ | ⟨h3, hm⟩
    · refine VW.condT rfl h3 ?_
      refine VW.skip ?_
      refine VW.seq ?_
      refine VW.block ?_
      refine VW.seq ?_
      refine VW.region ?_
      refine VR.p rfl rfl (VP.move rfl) ?_
      refine VR.p rfl rfl (VP.assign rfl) ?_
      refine VR.nil ?_
      refine VW.seq ?_
      refine VW.region ?_
      refine VR.p rfl rfl (VP.move rfl) ?_
      refine VR.p rfl rfl (VP.move rfl) ?_
      obtain ⟨r, h4, hm⟩ := bnd hm
      refine VR.cons rfl rfl (VO.callK 3 rfl fn71 rfl (yard_Check_4_ok v2 c c2 b b2 b3 r h4) fun _ _ h6 => ?_)
      obtain ⟨rfl, rfl⟩ := h6
      refine VR.nil ?_
      rcases ite_or hm with ⟨h5, hm⟩ | ⟨h5, hm⟩
      · refine VW.condT rfl h5 ?_
        refine VW.seq ?_
        refine VW.region ?_
        refine VR.p rfl rfl (VP.move rfl) ?_
        refine VR.p rfl rfl (VP.assign rfl) ?_
        refine VR.nil ?_
        obtain rfl := Option.some.inj hm
        have hm := Out.ret_on h2
        obtain rfl := Option.some.inj hm
        exact VW.ret ⟨.inl rfl, _, .cons (.tmp _ _ rfl) .nil, [0, 0, 0], _, rfl, rfl, rfl⟩
      · have h5 := bf h5
        refine VW.condF rfl h5 ?_
        refine VW.skip ?_
        refine VW.region ?_
        refine VR.p rfl rfl (VP.arith rfl rfl rfl) ?_
        refine VR.p rfl rfl (VP.move rfl) ?_
        refine VR.nil ?_
        exact ⟨(IntKind.i64.wrap (v2 + (1 : Int))), (), hm, (Shift.pick [0, 0, 0] rfl ⟨rfl, rfl, rfl, trivial⟩)⟩
    · have h3 := bf h3
      refine VW.condF rfl h3 ?_
      refine VW.exit ?_
      exact ⟨(), (), (Option.some.inj hm).symm, (Shift.pick [0, 0, 0] rfl trivial)⟩
  · rintro j _ rfl
    have hm := Out.go_on h2
    refine VW.seq ?_
    refine VW.region ?_
    refine VR.p rfl rfl (VP.assign rfl) ?_
    refine VR.nil ?_
    obtain rfl := Option.some.inj hm
    exact VW.ret ⟨.inl rfl, _, .cons (.tmp _ _ rfl) .nil, [0, 0, 0], _, rfl, rfl, rfl⟩

/-! trireme/yard.Check$1 -/
def yard_Check_1_yard_Check_4 (n : Int) (c : List T_api_Bound) (c2 : List (ByteArray × Int)) : Option Bool :=
  (yard_first_yard_Check_4 n c c2).bind fun r =>
  some (r != (-1 : Int))
theorem yard_Check_1_yard_Check_4_ok (n : Int) (c : List T_api_Bound) (c2 : List (ByteArray × Int)) (b : Nat) (b2 : Nat) (b3 : Nat) (r : Bool) (hm : yard_Check_1_yard_Check_4 n c c2 = some r) :
    VC Try.prog 65 [.int .i64 n, .clo (.func 71) [] [.ptr b 0, .ptr b2 0]] [.box b 28 [.list 49 (List.map T_api_Bound.vv c)], .box b2 90 [.map b3], .map b3 (List.map (pf VV.str (VV.int .i64)) c2)] (fun zx zH => zx = .bool r ∧ zH = [.box b 28 [.list 49 (List.map T_api_Bound.vv c)], .box b2 90 [.map b3], .map b3 (List.map (pf VV.str (VV.int .i64)) c2)]) := by
  unfold yard_Check_1_yard_Check_4 at hm
  refine VC.run (c := _) (rs := [.tmp 4]) Try.func65 rfl rfl rfl ?_
  refine VW.seq ?_
  refine VW.region ?_
  refine VR.p rfl rfl (VP.assign rfl) ?_
  refine VR.nil ?_
  refine VW.seq ?_
  refine VW.region ?_
  refine VR.p rfl rfl (VP.move rfl) ?_
  refine VR.p rfl rfl (VP.move rfl) ?_
  obtain ⟨r, h1, hm⟩ := bnd hm
  refine VR.cons rfl rfl (VO.callK 3 rfl fn66 rfl (yard_first_yard_Check_4_ok n c c2 b b2 b3 r h1) fun _ _ h2 => ?_)
  obtain ⟨rfl, rfl⟩ := h2
  refine VR.p rfl rfl (VP.arith rfl rfl rfl) ?_
  refine VR.p rfl rfl (VP.assign rfl) ?_
  refine VR.nil ?_
  obtain rfl := Option.some.inj hm
  exact VW.ret ⟨.inl rfl, _, .cons (.tmp _ _ rfl) .nil, [0, 0, 0], _, rfl, rfl, rfl⟩

/-! trireme/yard.Check -/
def yard_Check.l1 : List T_api_Machine → Nat → (List (ByteArray × Int)) → Option (List (ByteArray × Int))
  | [], k, machines2 => some machines2
  | x :: l, k, machines2 =>
    yard_Check.l1 l (k + 1) (V.mp machines2 x.Name (IntKind.i64.wrap (((V.mg machines2 x.Name).getD (0 : Int)) + (1 : Int))))
def yard_Check.l2 : List T_api_Bound → Nat → (List (ByteArray × Int)) → Option (List (ByteArray × Int))
  | [], k2, pods2 => some pods2
  | x2 :: l2, k2, pods2 =>
    yard_Check.l2 l2 (k2 + 1) (V.mp pods2 x2.Pod.Name (IntKind.i64.wrap (((V.mg pods2 x2.Pod.Name).getD (0 : Int)) + (1 : Int))))
def yard_Check (ms : List T_api_Machine) (bs : List T_api_Bound) : Option Int :=
  if ((decide ((ms.length : Int) > (200 : Int))) || (decide ((bs.length : Int) > (400 : Int)))) = true then
    some (7 : Int)
  else
    (yard_Check_1_yard_Check_2 (ms.length : Int) ms).bind fun r =>
    if r = true then
      some (12 : Int)
    else
      (yard_Check_1_yard_Check_3 (bs.length : Int) bs).bind fun r2 =>
      if r2 = true then
        some (12 : Int)
      else
        (yard_Check.l1 ms 0 ([] : List (ByteArray × Int))).bind fun machines32 =>
        (yard_Check.l2 bs 0 ([] : List (ByteArray × Int))).bind fun pods32 =>
        if ((decide ((machines32.length : Int) < (ms.length : Int))) || (decide ((pods32.length : Int) < (bs.length : Int)))) = true then
          some (15 : Int)
        else
          (yard_Check_1_yard_Check_4 (bs.length : Int) bs machines32).bind fun r3 =>
          if r3 = true then
            some (16 : Int)
          else
            some (0 : Int)
theorem yard_Check_ok (ms : List T_api_Machine) (bs : List T_api_Bound) (r : Int) (hm : yard_Check ms bs = some r) :
    VC Try.prog 28 [.list 27 (List.map T_api_Machine.vv ms), .list 49 (List.map T_api_Bound.vv bs)] [] (fun zx zH => zx = .int .i64 r ∧ zH = []) := by
  unfold yard_Check at hm
  refine VC.run (c := _) (rs := [.tmp 4]) Try.func28 rfl rfl rfl ?_
  refine VW.seq ?_
  refine VW.region ?_
  refine VR.cons rfl rfl (VO.box rfl rfl fun b => ?_)
  refine VR.cons rfl rfl (VO.box rfl rfl fun b2 => ?_)
  refine VR.p rfl rfl (VP.assign rfl) ?_
  refine VR.nil ?_
  refine VW.seq ?_
  refine VW.region ?_
  refine VR.p rfl rfl (VP.assign rfl) ?_
  refine VR.nil ?_
  refine VW.seq ?_
  refine VW.block ?_
  refine VW.seq ?_
  refine VW.region ?_
  refine VR.p rfl rfl (VP.loadP (i := 1) rfl rfl ld37 rfl) ?_
  refine VR.p rfl rfl (VP.lenT T_api_Machine.vv rfl Try.underlying37) ?_
  refine VR.p rfl rfl (VP.arith rfl rfl rfl) ?_
  refine VR.p rfl rfl (VP.move rfl) ?_
  refine VR.sc 4 20 (.bool ((decide ((ms.length : Int) > (200 : Int))) || (decide ((bs.length : Int) > (400 : Int))))) (fun K' J => ?_) ?_
  · rcases Bool.eq_false_or_eq_true (decide ((ms.length : Int) > (200 : Int))) with h3 | h3
    · refine VR.skipG rfl rfl rfl rfl h3 ?_
      refine VR.skipG rfl rfl rfl rfl h3 ?_
      refine VR.skipG rfl rfl rfl rfl h3 ?_
      refine VR.p rfl rfl (VP.pickB true rfl h3 rfl) ?_
      exact J [_, _, _] _ rfl (orT h3)
    · refine VR.pG rfl rfl rfl rfl h3 (VP.loadP (i := 0) rfl rfl ld28 rfl) ?_
      refine VR.pG rfl rfl rfl rfl h3 (VP.lenT T_api_Bound.vv rfl Try.underlying28) ?_
      refine VR.pG rfl rfl rfl rfl h3 (VP.arith rfl rfl rfl) ?_
      refine VR.p rfl rfl (VP.pickB false rfl h3 rfl) ?_
      exact J [_, _, _] _ rfl (orF h3)
  · refine VR.p rfl rfl (VP.assign rfl) ?_
    refine VR.nil ?_
    rcases ite_or hm with ⟨h4, hm⟩ | ⟨h4, hm⟩
    · refine VW.condT rfl h4 ?_
      refine VW.seq ?_
      refine VW.region ?_
      refine VR.p rfl rfl (VP.assign rfl) ?_
      refine VR.nil ?_
      obtain rfl := Option.some.inj hm
      exact VW.ret ⟨.inl rfl, _, .cons (.tmp _ _ rfl) .nil, [], _, rfl, rfl, rfl⟩
    · have h4 := bf h4
      refine VW.condF rfl h4 ?_
      refine VW.seq ?_
      refine VW.region ?_
      refine VR.p rfl rfl (VP.move rfl) ?_
      refine VR.p rfl rfl (VP.loadP (i := 1) rfl rfl ld37 rfl) ?_
      refine VR.p rfl rfl (VP.lenT T_api_Machine.vv rfl Try.underlying37) ?_
      refine VR.p rfl rfl (VP.makeFunc rfl rfl) ?_
      obtain ⟨r, h5, hm⟩ := bnd hm
      refine VR.shift (Shift.mem [1, 0] rfl) ?_
      refine VR.cons rfl rfl (VO.callK 1 rfl fn65 rfl (yard_Check_1_yard_Check_2_ok (ms.length : Int) ms b r h5) fun _ _ h28 => ?_)
      obtain ⟨rfl, rfl⟩ := h28
      refine VR.p rfl rfl (VP.assign rfl) ?_
      refine VR.nil ?_
      rcases ite_or hm with ⟨h6, hm⟩ | ⟨h6, hm⟩
      · refine VW.condT rfl h6 ?_
        refine VW.seq ?_
        refine VW.region ?_
        refine VR.p rfl rfl (VP.assign rfl) ?_
        refine VR.nil ?_
        obtain rfl := Option.some.inj hm
        exact VW.ret ⟨.inl rfl, _, .cons (.tmp _ _ rfl) .nil, [], _, rfl, rfl, rfl⟩
      · have h6 := bf h6
        refine VW.condF rfl h6 ?_
        refine VW.seq ?_
        refine VW.region ?_
        refine VR.p rfl rfl (VP.move rfl) ?_
        refine VR.p rfl rfl (VP.loadP (i := 1) rfl rfl ld28 rfl) ?_
        refine VR.p rfl rfl (VP.lenT T_api_Bound.vv rfl Try.underlying28) ?_
        refine VR.p rfl rfl (VP.makeFunc rfl rfl) ?_
        obtain ⟨r2, h7, hm⟩ := bnd hm
        refine VR.shift (Shift.mem [1, 0] rfl) ?_
        refine VR.cons rfl rfl (VO.callK 1 rfl fn65 rfl (yard_Check_1_yard_Check_3_ok (bs.length : Int) bs b2 r2 h7) fun _ _ h27 => ?_)
        obtain ⟨rfl, rfl⟩ := h27
        refine VR.p rfl rfl (VP.assign rfl) ?_
        refine VR.nil ?_
        rcases ite_or hm with ⟨h8, hm⟩ | ⟨h8, hm⟩
        · refine VW.condT rfl h8 ?_
          refine VW.seq ?_
          refine VW.region ?_
          refine VR.p rfl rfl (VP.assign rfl) ?_
          refine VR.nil ?_
          obtain rfl := Option.some.inj hm
          exact VW.ret ⟨.inl rfl, _, .cons (.tmp _ _ rfl) .nil, [], _, rfl, rfl, rfl⟩
        · have h8 := bf h8
          refine VW.condF rfl h8 ?_
          refine VW.skip ?_
          refine VW.seq ?_
          refine VW.region ?_
          refine VR.cons rfl rfl (VO.makeMap fun b3 => ?_)
          refine VR.cons rfl rfl (VO.makeMap fun b4 => ?_)
          refine VR.cons rfl rfl (VO.alloc z90 fun b5 => ?_)
          refine VR.cons rfl rfl (VO.storeP (i := 0) rfl rfl rfl ld90 rfl rfl rfl ?_)
          refine VR.p rfl rfl (VP.assign rfl) ?_
          refine VR.nil ?_
          refine VW.seq ?_
          refine VW.seq ?_
          refine VW.region ?_
          refine VR.p rfl rfl (VP.loadP (i := 4) rfl rfl ld37 rfl) ?_
          refine VR.p rfl rfl (VP.lenT T_api_Machine.vv rfl Try.underlying37) ?_
          refine VR.p rfl rfl (VP.move rfl) ?_
          refine VR.nil ?_
          refine VW.lenL 35 rfl fun h14 => ?_
          have h14 := max_map h14
          obtain ⟨o, h12, h13⟩ := bnd hm
          refine VW.joinE (fun (q : (List (ByteArray × Int))) => q = o) (fun (machines32 : (List (ByteArray × Int))) (gg : Unit) => [(2, .ptr b 0), (3, .ptr b2 0), (5, .clo (.func 65) [] []), (6, .ptr b5 0), (7, .map b4)]) (fun (machines32 : (List (ByteArray × Int))) (gg : Unit) => [.box b5 90 [.map b3], .map b4 (List.map (pf VV.str (VV.int .i64)) ([] : List (ByteArray × Int))), .map b3 (List.map (pf VV.str (VV.int .i64)) machines32), .box b2 28 [.list 49 (List.map T_api_Bound.vv bs)], .box b 37 [.list 27 (List.map T_api_Machine.vv ms)]]) ?_ ?_
          · have hm := h12
            refine VW.block (VW.loop (ms.length + 1) ?_)
            refine VL.eachS (l := ms) (R := _) (fun zl zk (zs : List (ByteArray × Int)) => yard_Check.l1 zl zk zs) (fun (k : Nat) (zs : List (ByteArray × Int)) (zg : Unit) => [(2, .ptr b 0), (3, .ptr b2 0), (5, .clo (.func 65) [] []), (6, .ptr b5 0), (7, .map b4), (35, .list 27 (List.map T_api_Machine.vv ms)), (36, .int .i64 (ms.length : Int)), (37, .int .i64 (k : Int))]) (fun (k : Nat) (zs : List (ByteArray × Int)) (zg : Unit) => [.box b5 90 [.map b3], .map b4 (List.map (pf VV.str (VV.int .i64)) ([] : List (ByteArray × Int))), .map b3 (List.map (pf VV.str (VV.int .i64)) zs), .box b2 28 [.list 49 (List.map T_api_Bound.vv bs)], .box b 37 [.list 27 (List.map T_api_Machine.vv ms)]]) ([] : List (ByteArray × Int)) () (Shift.pick [0, 0, 0, 0, 0] rfl ⟨rfl, rfl, rfl, rfl, rfl, rfl, rfl, rfl, trivial⟩) h12 ?_ ?_
            · rintro k machines2 _ hk hm
              rw [yard_Check.l1] at hm
              refine VW.seq ?_
              refine VW.region ?_
              refine VR.p rfl rfl (VP.arith rfl rfl rfl) ?_
              refine VR.nil ?_
              refine VW.seq ?_
              refine VW.condF rfl (k_end hk) ?_
              refine VW.exit ?_
              exact ⟨machines2, (), Option.some.inj hm, (Shift.pick [0, 0, 0, 0, 0] rfl ⟨rfl, rfl, rfl, rfl, rfl, trivial⟩)⟩
            · rintro k x l machines2 _ h15 hm
              rw [yard_Check.l1] at hm
              refine VW.seq ?_
              refine VW.region ?_
              refine VR.p rfl rfl (VP.arith rfl rfl rfl) ?_
              refine VR.nil ?_
              refine VW.seq ?_
              refine VW.condT rfl (k_lt h15) ?_
              refine VW.skip ?_
              refine VW.seq ?_
              refine VW.block ?_
              refine VW.seq ?_
              refine VW.region ?_
              refine VR.p rfl rfl (VP.glK T_api_Machine.vv rfl rfl el37 h15) ?_
              refine VR.p rfl rfl (VP.loadE rfl ld27 rfl) ?_
              refine VR.cons rfl rfl (VO.alloc z27 fun b6 => ?_)
              refine VR.cons rfl rfl (VO.storeP (i := 0) rfl rfl rfl ld27 rfl rfl rfl ?_)
              refine VR.nil ?_
              refine VW.region ?_
              refine VR.p rfl rfl (VP.loadP (i := 1) rfl rfl ld90 rfl) ?_
              refine VR.p rfl rfl (VP.fieldP rfl fa27_0) ?_
              refine VR.p rfl rfl (VP.loadP (i := 0) rfl rfl ld9 rfl) ?_
              refine VR.p rfl rfl (VP.lookup 3 (kf := VV.str) (vf := (VV.int .i64)) (l := machines2) (k := x.Name) (z := (0 : Int)) false mk9 Try.underlying90 rfl rfl rfl zc3 rfl) ?_
              refine VR.p rfl rfl (VP.arith rfl rfl rfl) ?_
              refine VR.cons rfl rfl (VO.mapUpdate 3 (kf := VV.str) (vf := (VV.int .i64)) (l := machines2) (k := x.Name) (z := (IntKind.i64.wrap (((V.mg machines2 x.Name).getD (0 : Int)) + (1 : Int)))) mk9 Try.underlying90 rfl rfl rfl rfl ?_)
              refine VR.nil ?_
              refine VW.region ?_
              refine VR.p rfl rfl (VP.arith rfl rfl rfl) ?_
              refine VR.p rfl rfl (VP.move rfl) ?_
              refine VR.nil ?_
              exact ⟨(V.mp machines2 x.Name (IntKind.i64.wrap (((V.mg machines2 x.Name).getD (0 : Int)) + (1 : Int)))), (), hm, (Shift.pick [1, 1, 1, 1, 1] rfl ⟨rfl, rfl, rfl, rfl, rfl, rfl, rfl, congrArg some (k_next h15 h14), trivial⟩)⟩
          · rintro machines32 _ rfl
            have hm := h13
            refine VW.seq ?_
            refine VW.seq ?_
            refine VW.region ?_
            refine VR.p rfl rfl (VP.loadP (i := 3) rfl rfl ld28 rfl) ?_
            refine VR.p rfl rfl (VP.lenT T_api_Bound.vv rfl Try.underlying28) ?_
            refine VR.p rfl rfl (VP.move rfl) ?_
            refine VR.nil ?_
            refine VW.lenL 47 rfl fun h19 => ?_
            have h19 := max_map h19
            obtain ⟨o2, h17, h18⟩ := bnd hm
            refine VW.joinE (fun (q : (List (ByteArray × Int))) => q = o2) (fun (pods32 : (List (ByteArray × Int))) (gg : Unit) => [(2, .ptr b 0), (3, .ptr b2 0), (5, .clo (.func 65) [] []), (6, .ptr b5 0), (7, .map b4)]) (fun (pods32 : (List (ByteArray × Int))) (gg : Unit) => [.box b5 90 [.map b3], .map b4 (List.map (pf VV.str (VV.int .i64)) pods32), .map b3 (List.map (pf VV.str (VV.int .i64)) machines32), .box b2 28 [.list 49 (List.map T_api_Bound.vv bs)], .box b 37 [.list 27 (List.map T_api_Machine.vv ms)]]) ?_ ?_
            · have hm := h17
              refine VW.block (VW.loop (bs.length + 1) ?_)
              refine VL.eachS (l := bs) (R := _) (fun zl zk (zs : List (ByteArray × Int)) => yard_Check.l2 zl zk zs) (fun (k2 : Nat) (zs : List (ByteArray × Int)) (zg : Unit) => [(2, .ptr b 0), (3, .ptr b2 0), (5, .clo (.func 65) [] []), (6, .ptr b5 0), (7, .map b4), (47, .list 49 (List.map T_api_Bound.vv bs)), (48, .int .i64 (bs.length : Int)), (49, .int .i64 (k2 : Int))]) (fun (k2 : Nat) (zs : List (ByteArray × Int)) (zg : Unit) => [.box b5 90 [.map b3], .map b4 (List.map (pf VV.str (VV.int .i64)) zs), .map b3 (List.map (pf VV.str (VV.int .i64)) machines32), .box b2 28 [.list 49 (List.map T_api_Bound.vv bs)], .box b 37 [.list 27 (List.map T_api_Machine.vv ms)]]) ([] : List (ByteArray × Int)) () (Shift.pick [0, 0, 0, 0, 0] rfl ⟨rfl, rfl, rfl, rfl, rfl, rfl, rfl, rfl, trivial⟩) h17 ?_ ?_
              · rintro k2 pods2 _ hk hm
                rw [yard_Check.l2] at hm
                refine VW.seq ?_
                refine VW.region ?_
                refine VR.p rfl rfl (VP.arith rfl rfl rfl) ?_
                refine VR.nil ?_
                refine VW.seq ?_
                refine VW.condF rfl (k_end hk) ?_
                refine VW.exit ?_
                exact ⟨pods2, (), Option.some.inj hm, (Shift.pick [0, 0, 0, 0, 0] rfl ⟨rfl, rfl, rfl, rfl, rfl, trivial⟩)⟩
              · rintro k2 x2 l2 pods2 _ h20 hm
                rw [yard_Check.l2] at hm
                refine VW.seq ?_
                refine VW.region ?_
                refine VR.p rfl rfl (VP.arith rfl rfl rfl) ?_
                refine VR.nil ?_
                refine VW.seq ?_
                refine VW.condT rfl (k_lt h20) ?_
                refine VW.skip ?_
                refine VW.seq ?_
                refine VW.block ?_
                refine VW.seq ?_
                refine VW.region ?_
                refine VR.p rfl rfl (VP.glK T_api_Bound.vv rfl rfl el28 h20) ?_
                refine VR.p rfl rfl (VP.loadE rfl ld49 rfl) ?_
                refine VR.cons rfl rfl (VO.alloc z49 fun b7 => ?_)
                refine VR.cons rfl rfl (VO.storeP (i := 0) rfl rfl rfl ld49 rfl rfl rfl ?_)
                refine VR.nil ?_
                refine VW.region ?_
                refine VR.p rfl rfl (VP.move rfl) ?_
                refine VR.p rfl rfl (VP.fieldP rfl fa49_0) ?_
                refine VR.p rfl rfl (VP.fieldP rfl fa33_0) ?_
                refine VR.p rfl rfl (VP.loadP (i := 0) rfl rfl ld9 rfl) ?_
                refine VR.p rfl rfl (VP.lookup 2 (kf := VV.str) (vf := (VV.int .i64)) (l := pods2) (k := x2.Pod.Name) (z := (0 : Int)) false mk9 Try.underlying90 rfl rfl rfl zc3 rfl) ?_
                refine VR.p rfl rfl (VP.arith rfl rfl rfl) ?_
                refine VR.cons rfl rfl (VO.mapUpdate 2 (kf := VV.str) (vf := (VV.int .i64)) (l := pods2) (k := x2.Pod.Name) (z := (IntKind.i64.wrap (((V.mg pods2 x2.Pod.Name).getD (0 : Int)) + (1 : Int)))) mk9 Try.underlying90 rfl rfl rfl rfl ?_)
                refine VR.nil ?_
                refine VW.region ?_
                refine VR.p rfl rfl (VP.arith rfl rfl rfl) ?_
                refine VR.p rfl rfl (VP.move rfl) ?_
                refine VR.nil ?_
                exact ⟨(V.mp pods2 x2.Pod.Name (IntKind.i64.wrap (((V.mg pods2 x2.Pod.Name).getD (0 : Int)) + (1 : Int)))), (), hm, (Shift.pick [1, 1, 1, 1, 1] rfl ⟨rfl, rfl, rfl, rfl, rfl, rfl, rfl, congrArg some (k_next h20 h19), trivial⟩)⟩
            · rintro pods32 _ rfl
              have hm := h18
              refine VW.seq ?_
              refine VW.block ?_
              refine VW.seq ?_
              refine VW.region ?_
              refine VR.p rfl rfl (VP.loadP (i := 0) rfl rfl ld90 rfl) ?_
              refine VR.p rfl rfl (VP.lenM 2 (kf := VV.str) (vf := (VV.int .i64)) (l := machines32) rfl rfl Try.underlying90) ?_
              refine VR.p rfl rfl (VP.loadP (i := 4) rfl rfl ld37 rfl) ?_
              refine VR.p rfl rfl (VP.lenT T_api_Machine.vv rfl Try.underlying37) ?_
              refine VR.p rfl rfl (VP.arith rfl rfl rfl) ?_
              refine VR.p rfl rfl (VP.move rfl) ?_
              refine VR.sc 6 72 (.bool ((decide ((machines32.length : Int) < (ms.length : Int))) || (decide ((pods32.length : Int) < (bs.length : Int))))) (fun K' J => ?_) ?_
              · rcases Bool.eq_false_or_eq_true (decide ((machines32.length : Int) < (ms.length : Int))) with h22 | h22
                · refine VR.skipG rfl rfl rfl rfl h22 ?_
                  refine VR.skipG rfl rfl rfl rfl h22 ?_
                  refine VR.skipG rfl rfl rfl rfl h22 ?_
                  refine VR.skipG rfl rfl rfl rfl h22 ?_
                  refine VR.skipG rfl rfl rfl rfl h22 ?_
                  refine VR.p rfl rfl (VP.pickB true rfl h22 rfl) ?_
                  exact J [_, _, _, _, _] _ rfl (orT h22)
                · refine VR.pG rfl rfl rfl rfl h22 (VP.move rfl) ?_
                  refine VR.pG rfl rfl rfl rfl h22 (VP.lenM 1 (kf := VV.str) (vf := (VV.int .i64)) (l := pods32) rfl rfl Try.underlying90) ?_
                  refine VR.pG rfl rfl rfl rfl h22 (VP.loadP (i := 3) rfl rfl ld28 rfl) ?_
                  refine VR.pG rfl rfl rfl rfl h22 (VP.lenT T_api_Bound.vv rfl Try.underlying28) ?_
                  refine VR.pG rfl rfl rfl rfl h22 (VP.arith rfl rfl rfl) ?_
                  refine VR.p rfl rfl (VP.pickB false rfl h22 rfl) ?_
                  exact J [_, _, _, _, _] _ rfl (orF h22)
              · refine VR.p rfl rfl (VP.assign rfl) ?_
                refine VR.nil ?_
                rcases ite_or hm with ⟨h23, hm⟩ | ⟨h23, hm⟩
                · refine VW.condT rfl h23 ?_
                  refine VW.seq ?_
                  refine VW.region ?_
                  refine VR.p rfl rfl (VP.assign rfl) ?_
                  refine VR.nil ?_
                  obtain rfl := Option.some.inj hm
                  exact VW.ret ⟨.inl rfl, _, .cons (.tmp _ _ rfl) .nil, [], _, rfl, rfl, rfl⟩
                · have h23 := bf h23
                  refine VW.condF rfl h23 ?_
                  refine VW.seq ?_
                  refine VW.region ?_
                  refine VR.p rfl rfl (VP.move rfl) ?_
                  refine VR.p rfl rfl (VP.loadP (i := 3) rfl rfl ld28 rfl) ?_
                  refine VR.p rfl rfl (VP.lenT T_api_Bound.vv rfl Try.underlying28) ?_
                  refine VR.p rfl rfl (VP.makeFunc rfl rfl) ?_
                  obtain ⟨r3, h24, hm⟩ := bnd hm
                  refine VR.shift (Shift.mem [3, 0, 1, 0, 0] rfl) ?_
                  refine VR.cons rfl rfl (VO.callK 3 rfl fn65 rfl (yard_Check_1_yard_Check_4_ok (bs.length : Int) bs machines32 b2 b5 b3 r3 h24) fun _ _ h26 => ?_)
                  obtain ⟨rfl, rfl⟩ := h26
                  refine VR.p rfl rfl (VP.assign rfl) ?_
                  refine VR.nil ?_
                  rcases ite_or hm with ⟨h25, hm⟩ | ⟨h25, hm⟩
                  · refine VW.condT rfl h25 ?_
                    refine VW.seq ?_
                    refine VW.region ?_
                    refine VR.p rfl rfl (VP.assign rfl) ?_
                    refine VR.nil ?_
                    obtain rfl := Option.some.inj hm
                    exact VW.ret ⟨.inl rfl, _, .cons (.tmp _ _ rfl) .nil, [], _, rfl, rfl, rfl⟩
                  · have h25 := bf h25
                    refine VW.condF rfl h25 ?_
                    refine VW.skip ?_
                    refine VW.seq ?_
                    refine VW.region ?_
                    refine VR.p rfl rfl (VP.assign rfl) ?_
                    refine VR.nil ?_
                    obtain rfl := Option.some.inj hm
                    exact VW.ret ⟨.inl rfl, _, .cons (.tmp _ _ rfl) .nil, [], _, rfl, rfl, rfl⟩

/-! trireme/res.Least$1 -/
def res_Least_1 (x : Int) (y : Int) : Option Int :=
  some (min x y)
theorem res_Least_1_ok (x : Int) (y : Int) (r : Int) (hm : res_Least_1 x y = some r) :
    VC Try.prog 106 [.int .i64 x, .int .i64 y] [] (fun zx zH => zx = .int .i64 r ∧ zH = []) := by
  unfold res_Least_1 at hm
  refine VC.run (c := _) (rs := [.tmp 4]) Try.func106 rfl rfl rfl ?_
  refine VW.seq ?_
  refine VW.region ?_
  refine VR.p rfl rfl (VP.assign rfl) ?_
  refine VR.nil ?_
  refine VW.seq ?_
  refine VW.region ?_
  refine VR.p rfl rfl (VP.move rfl) ?_
  refine VR.p rfl rfl (VP.move rfl) ?_
  refine VR.p rfl rfl (VP.min2 rfl rfl) ?_
  refine VR.p rfl rfl (VP.assign rfl) ?_
  refine VR.nil ?_
  obtain rfl := Option.some.inj hm
  exact VW.ret ⟨.inl rfl, _, .cons (.tmp _ _ rfl) .nil, [], _, rfl, rfl, rfl⟩

/-! trireme/res.each -/
def res_each_res_Least_1.l1 (j : Arr5_Int × Arr5_Int) : Nat → Arr5_Int → Int → Option Arr5_Int
  | 0, _, _ => none
  | n + 1, l3, v2 =>
    if (decide (v2 < (5 : Int))) = true then
      (V.gl (Arr5_Int.l l3) v2).bind fun x =>
      (V.gl (Arr5_Int.l j.2) v2).bind fun x2 =>
      (res_Least_1 x x2).bind fun r19 =>
      (V.gl (Arr5_Int.l l3) v2).bind fun x3 =>
      (Arr5_Int.put l3 v2 r19).bind fun l6 =>
      res_each_res_Least_1.l1 j n l6 (IntKind.i64.wrap (v2 + (1 : Int)))
    else
      some l3
def res_each_res_Least_1 (a : T_api_Res) (b : T_api_Res) (wrong : Int) : Option (T_api_Res × Int) :=
  (res_Right a).bind fun r =>
  (if (!r) = true then some true else (res_Right b).bind fun r2 =>
  some (!r2)).bind fun c =>
  if c = true then
    some ((⟨(0 : Int), (0 : Int), (0 : Int), (0 : Int), (0 : Int)⟩ : T_api_Res), (1 : Int))
  else
    ((res_row a).bind fun r3 =>
    (res_row b).bind fun r4 =>
    some (r3, r4)).bind fun j =>
    (res_each_res_Least_1.l1 j FU j.1 (0 : Int)).bind fun l42 =>
    (res_back l42).bind fun r20 =>
    (res_Right r20).bind fun r21 =>
    if r21 = true then
      some (r20, (0 : Int))
    else
      some ((⟨(0 : Int), (0 : Int), (0 : Int), (0 : Int), (0 : Int)⟩ : T_api_Res), wrong)
theorem res_each_res_Least_1_ok (a : T_api_Res) (b : T_api_Res) (wrong : Int) (r : T_api_Res × Int) (hm : res_each_res_Least_1 a b wrong = some r) :
    VC Try.prog 103 [T_api_Res.vv a, T_api_Res.vv b, .clo (.func 106) [] [], .int .i64 wrong] [] (fun zx zH => zx = .tup [T_api_Res.vv r.1, .int .i64 r.2] ∧ zH = []) := by
  unfold res_each_res_Least_1 at hm
  refine VC.run (c := _) (rs := [.cell 8 23, .tmp 9]) Try.func103 rfl rfl rfl ?_
  refine VW.seq ?_
  refine VW.region ?_
  refine VR.cons rfl rfl (VO.box rfl rfl fun b2 => ?_)
  refine VR.cons rfl rfl (VO.box rfl rfl fun b3 => ?_)
  refine VR.cons rfl rfl (VO.alloc z23 fun b4 => ?_)
  refine VR.p rfl rfl (VP.assign rfl) ?_
  refine VR.nil ?_
  refine VW.seq ?_
  refine VW.seq ?_
  refine VW.region ?_
  refine VR.p rfl rfl (VP.loadP (i := 2) rfl rfl ld23 rfl) ?_
  obtain ⟨r, h4, hm⟩ := bnd hm
  refine VR.cons rfl rfl (VO.callK 0 rfl fn73 rfl (res_Right_ok a r h4) fun _ _ h79 => ?_)
  obtain ⟨rfl, rfl⟩ := h79
  refine VR.p rfl rfl (VP.not rfl) ?_
  refine VR.p rfl rfl (VP.move rfl) ?_
  obtain ⟨c, h8, hm⟩ := bnd hm
  refine VR.sc 4 21 (.bool c) (fun K' J => ?_) ?_
  · have hm := h8
    rcases ite_or hm with ⟨h5, hm⟩ | ⟨h5, hm⟩
    · refine VR.skipG rfl rfl rfl rfl h5 ?_
      refine VR.skipG rfl rfl rfl rfl h5 ?_
      refine VR.skipG rfl rfl rfl rfl h5 ?_
      refine VR.p rfl rfl (VP.pickB true rfl h5 rfl) ?_
      exact J [_, _, _] _ rfl (congrArg VV.bool (Option.some.inj hm))
    · have h5 := bf h5
      refine VR.pG rfl rfl rfl rfl h5 (VP.loadP (i := 1) rfl rfl ld23 rfl) ?_
      obtain ⟨r2, h6, hm⟩ := bnd hm
      refine VR.consG rfl rfl rfl rfl h5 (VO.callK 0 rfl fn73 rfl (res_Right_ok b r2 h6) fun _ _ h7 => ?_)
      obtain ⟨rfl, rfl⟩ := h7
      refine VR.pG rfl rfl rfl rfl h5 (VP.not rfl) ?_
      refine VR.p rfl rfl (VP.pickB false rfl h5 rfl) ?_
      exact J [_, _, _] _ rfl (congrArg VV.bool (Option.some.inj hm))
  · refine VR.nil ?_
    rcases ite_or hm with ⟨h9, hm⟩ | ⟨h9, hm⟩
    · refine VW.condT rfl h9 ?_
      refine VW.seq ?_
      refine VW.region ?_
      refine VR.p rfl rfl (VP.buildP pl23 rfl rfl) ?_
      refine VR.cons rfl rfl (VO.storeP (i := 0) rfl rfl rfl ld23 rfl rfl rfl ?_)
      refine VR.p rfl rfl (VP.assign rfl) ?_
      refine VR.nil ?_
      obtain rfl := Option.some.inj hm
      exact VW.ret ⟨.inl rfl, _, .cons (.cell _ _ _ _ 0 _ _ _ _ rfl rfl ld23 rfl) (.cons (.tmp _ _ rfl) .nil), [], _, rfl, rfl, rfl⟩
    · have h9 := bf h9
      refine VW.condF rfl h9 ?_
      refine VW.skip ?_
      obtain ⟨o, h12, h13⟩ := bnd hm
      refine VW.join (fun (q : Arr5_Int × Arr5_Int) => q = o) (fun (j : Arr5_Int × Arr5_Int) (gg : Nat × Nat) => [(2, .clo (.func 106) [] []), (3, .int .i64 wrong), (8, .ptr b4 0), (10, .ptr gg.1 0), (11, .ptr gg.2 0)]) (fun (j : Arr5_Int × Arr5_Int) (gg : Nat × Nat) => [.box gg.2 109 (Arr5_Int.cells j.2), .box gg.1 109 (Arr5_Int.cells j.1), .box b4 23 (T_api_Res.cells (⟨(0 : Int), (0 : Int), (0 : Int), (0 : Int), (0 : Int)⟩ : T_api_Res))]) ?_ ?_
      · have hm := h12
        refine VW.drawK 0 mixed ?_
        refine VA.p 0 rfl rfl rfl (by kernel_rfl) (VP.loadP (i := 2) rfl rfl ld23 rfl) ?_
        refine VA.p 2 rfl rfl rfl (by kernel_rfl) (VP.loadP (i := 1) rfl rfl ld23 rfl) ?_
        refine VA.all [1, 4, 5] (by kernel_rfl) ⟨?_, ?_, ?_, trivial⟩
        · obtain ⟨r3, h14, hm⟩ := bnd hm
          refine VB.o rfl rfl rfl (VO.callK 0 rfl fn102 rfl (res_row_ok a r3 h14) fun _ _ h35 => ?_)
          obtain ⟨rfl, rfl⟩ := h35
          refine VA.all [3, 4, 5] (by kernel_rfl) ⟨?_, ?_, ?_, trivial⟩
          · obtain ⟨r4, h15, hm⟩ := bnd hm
            refine VB.o rfl rfl rfl (VO.callK 0 rfl fn102 rfl (res_row_ok b r4 h15) fun _ _ h20 => ?_)
            obtain ⟨rfl, rfl⟩ := h20
            refine VA.all [4, 5] (by kernel_rfl) ⟨?_, ?_, trivial⟩
            · refine VB.o rfl rfl rfl (VO.alloc z109 fun b7 => ?_)
              refine VA.all [5] (by kernel_rfl) ⟨?_, trivial⟩
              refine VB.o rfl rfl rfl (VO.alloc z109 fun b8 => ?_)
              refine VA.all [6] (by kernel_rfl) ⟨?_, trivial⟩
              refine VB.o rfl rfl rfl (VO.storeP (i := 1) rfl rfl rfl ld109 rfl rfl rfl ?_)
              refine VA.all [7] (by kernel_rfl) ⟨?_, trivial⟩
              refine VB.o rfl rfl rfl (VO.storeP (i := 0) rfl rfl rfl ld109 rfl rfl rfl ?_)
              refine VA.done (by kernel_rfl) ?_
              exact ⟨(r3, r4), (b7, b8), Option.some.inj hm, (Shift.pick [0, 0, 0] rfl ⟨rfl, rfl, rfl, rfl, rfl, trivial⟩)⟩
            · refine VB.o rfl rfl rfl (VO.alloc z109 fun b9 => ?_)
              refine VA.all [4] (by kernel_rfl) ⟨?_, trivial⟩
              refine VB.o rfl rfl rfl (VO.alloc z109 fun b10 => ?_)
              refine VA.all [6] (by kernel_rfl) ⟨?_, trivial⟩
              refine VB.o rfl rfl rfl (VO.storeP (i := 0) rfl rfl rfl ld109 rfl rfl rfl ?_)
              refine VA.all [7] (by kernel_rfl) ⟨?_, trivial⟩
              refine VB.o rfl rfl rfl (VO.storeP (i := 1) rfl rfl rfl ld109 rfl rfl rfl ?_)
              refine VA.done (by kernel_rfl) ?_
              exact ⟨(r3, r4), (b10, b9), Option.some.inj hm, (Shift.pick [1, 0, 0] rfl ⟨rfl, rfl, rfl, rfl, rfl, trivial⟩)⟩
          · refine VB.o rfl rfl rfl (VO.alloc z109 fun b11 => ?_)
            refine VA.all [3, 5] (by kernel_rfl) ⟨?_, ?_, trivial⟩
            · obtain ⟨r5, h22, hm⟩ := bnd hm
              refine VB.o rfl rfl rfl (VO.callK 0 rfl fn102 rfl (res_row_ok b r5 h22) fun _ _ h24 => ?_)
              obtain ⟨rfl, rfl⟩ := h24
              refine VA.all [5] (by kernel_rfl) ⟨?_, trivial⟩
              refine VB.o rfl rfl rfl (VO.alloc z109 fun b12 => ?_)
              refine VA.all [6] (by kernel_rfl) ⟨?_, trivial⟩
              refine VB.o rfl rfl rfl (VO.storeP (i := 1) rfl rfl rfl ld109 rfl rfl rfl ?_)
              refine VA.all [7] (by kernel_rfl) ⟨?_, trivial⟩
              refine VB.o rfl rfl rfl (VO.storeP (i := 0) rfl rfl rfl ld109 rfl rfl rfl ?_)
              refine VA.done (by kernel_rfl) ?_
              exact ⟨(r3, r5), (b11, b12), Option.some.inj hm, (Shift.pick [0, 0, 0] rfl ⟨rfl, rfl, rfl, rfl, rfl, trivial⟩)⟩
            · refine VB.o rfl rfl rfl (VO.alloc z109 fun b13 => ?_)
              refine VA.all [3] (by kernel_rfl) ⟨?_, trivial⟩
              obtain ⟨r6, h26, hm⟩ := bnd hm
              refine VB.o rfl rfl rfl (VO.callK 0 rfl fn102 rfl (res_row_ok b r6 h26) fun _ _ h27 => ?_)
              obtain ⟨rfl, rfl⟩ := h27
              refine VA.all [6] (by kernel_rfl) ⟨?_, trivial⟩
              refine VB.o rfl rfl rfl (VO.storeP (i := 1) rfl rfl rfl ld109 rfl rfl rfl ?_)
              refine VA.all [7] (by kernel_rfl) ⟨?_, trivial⟩
              refine VB.o rfl rfl rfl (VO.storeP (i := 0) rfl rfl rfl ld109 rfl rfl rfl ?_)
              refine VA.done (by kernel_rfl) ?_
              exact ⟨(r3, r6), (b11, b13), Option.some.inj hm, (Shift.pick [0, 0, 0] rfl ⟨rfl, rfl, rfl, rfl, rfl, trivial⟩)⟩
          · refine VB.o rfl rfl rfl (VO.alloc z109 fun b14 => ?_)
            refine VA.all [3, 4] (by kernel_rfl) ⟨?_, ?_, trivial⟩
            · obtain ⟨r7, h29, hm⟩ := bnd hm
              refine VB.o rfl rfl rfl (VO.callK 0 rfl fn102 rfl (res_row_ok b r7 h29) fun _ _ h31 => ?_)
              obtain ⟨rfl, rfl⟩ := h31
              refine VA.all [4] (by kernel_rfl) ⟨?_, trivial⟩
              refine VB.o rfl rfl rfl (VO.alloc z109 fun b15 => ?_)
              refine VA.all [6] (by kernel_rfl) ⟨?_, trivial⟩
              refine VB.o rfl rfl rfl (VO.storeP (i := 0) rfl rfl rfl ld109 rfl rfl rfl ?_)
              refine VA.all [7] (by kernel_rfl) ⟨?_, trivial⟩
              refine VB.o rfl rfl rfl (VO.storeP (i := 1) rfl rfl rfl ld109 rfl rfl rfl ?_)
              refine VA.done (by kernel_rfl) ?_
              exact ⟨(r3, r7), (b15, b14), Option.some.inj hm, (Shift.pick [1, 0, 0] rfl ⟨rfl, rfl, rfl, rfl, rfl, trivial⟩)⟩
            · refine VB.o rfl rfl rfl (VO.alloc z109 fun b16 => ?_)
              refine VA.all [3] (by kernel_rfl) ⟨?_, trivial⟩
              obtain ⟨r8, h33, hm⟩ := bnd hm
              refine VB.o rfl rfl rfl (VO.callK 0 rfl fn102 rfl (res_row_ok b r8 h33) fun _ _ h34 => ?_)
              obtain ⟨rfl, rfl⟩ := h34
              refine VA.all [6] (by kernel_rfl) ⟨?_, trivial⟩
              refine VB.o rfl rfl rfl (VO.storeP (i := 0) rfl rfl rfl ld109 rfl rfl rfl ?_)
              refine VA.all [7] (by kernel_rfl) ⟨?_, trivial⟩
              refine VB.o rfl rfl rfl (VO.storeP (i := 1) rfl rfl rfl ld109 rfl rfl rfl ?_)
              refine VA.done (by kernel_rfl) ?_
              exact ⟨(r3, r8), (b16, b14), Option.some.inj hm, (Shift.pick [1, 0, 0] rfl ⟨rfl, rfl, rfl, rfl, rfl, trivial⟩)⟩
        · refine VB.o rfl rfl rfl (VO.alloc z109 fun b17 => ?_)
          refine VA.all [1, 5] (by kernel_rfl) ⟨?_, ?_, trivial⟩
          · obtain ⟨r9, h37, hm⟩ := bnd hm
            refine VB.o rfl rfl rfl (VO.callK 0 rfl fn102 rfl (res_row_ok a r9 h37) fun _ _ h44 => ?_)
            obtain ⟨rfl, rfl⟩ := h44
            refine VA.all [3, 5] (by kernel_rfl) ⟨?_, ?_, trivial⟩
            · obtain ⟨r10, h38, hm⟩ := bnd hm
              refine VB.o rfl rfl rfl (VO.callK 0 rfl fn102 rfl (res_row_ok b r10 h38) fun _ _ h40 => ?_)
              obtain ⟨rfl, rfl⟩ := h40
              refine VA.all [5] (by kernel_rfl) ⟨?_, trivial⟩
              refine VB.o rfl rfl rfl (VO.alloc z109 fun b18 => ?_)
              refine VA.all [6] (by kernel_rfl) ⟨?_, trivial⟩
              refine VB.o rfl rfl rfl (VO.storeP (i := 1) rfl rfl rfl ld109 rfl rfl rfl ?_)
              refine VA.all [7] (by kernel_rfl) ⟨?_, trivial⟩
              refine VB.o rfl rfl rfl (VO.storeP (i := 0) rfl rfl rfl ld109 rfl rfl rfl ?_)
              refine VA.done (by kernel_rfl) ?_
              exact ⟨(r9, r10), (b17, b18), Option.some.inj hm, (Shift.pick [0, 0, 0] rfl ⟨rfl, rfl, rfl, rfl, rfl, trivial⟩)⟩
            · refine VB.o rfl rfl rfl (VO.alloc z109 fun b19 => ?_)
              refine VA.all [3] (by kernel_rfl) ⟨?_, trivial⟩
              obtain ⟨r11, h42, hm⟩ := bnd hm
              refine VB.o rfl rfl rfl (VO.callK 0 rfl fn102 rfl (res_row_ok b r11 h42) fun _ _ h43 => ?_)
              obtain ⟨rfl, rfl⟩ := h43
              refine VA.all [6] (by kernel_rfl) ⟨?_, trivial⟩
              refine VB.o rfl rfl rfl (VO.storeP (i := 1) rfl rfl rfl ld109 rfl rfl rfl ?_)
              refine VA.all [7] (by kernel_rfl) ⟨?_, trivial⟩
              refine VB.o rfl rfl rfl (VO.storeP (i := 0) rfl rfl rfl ld109 rfl rfl rfl ?_)
              refine VA.done (by kernel_rfl) ?_
              exact ⟨(r9, r11), (b17, b19), Option.some.inj hm, (Shift.pick [0, 0, 0] rfl ⟨rfl, rfl, rfl, rfl, rfl, trivial⟩)⟩
          · refine VB.o rfl rfl rfl (VO.alloc z109 fun b20 => ?_)
            refine VA.all [1] (by kernel_rfl) ⟨?_, trivial⟩
            obtain ⟨r12, h46, hm⟩ := bnd hm
            refine VB.o rfl rfl rfl (VO.callK 0 rfl fn102 rfl (res_row_ok a r12 h46) fun _ _ h49 => ?_)
            obtain ⟨rfl, rfl⟩ := h49
            refine VA.all [3] (by kernel_rfl) ⟨?_, trivial⟩
            obtain ⟨r13, h47, hm⟩ := bnd hm
            refine VB.o rfl rfl rfl (VO.callK 0 rfl fn102 rfl (res_row_ok b r13 h47) fun _ _ h48 => ?_)
            obtain ⟨rfl, rfl⟩ := h48
            refine VA.all [6] (by kernel_rfl) ⟨?_, trivial⟩
            refine VB.o rfl rfl rfl (VO.storeP (i := 1) rfl rfl rfl ld109 rfl rfl rfl ?_)
            refine VA.all [7] (by kernel_rfl) ⟨?_, trivial⟩
            refine VB.o rfl rfl rfl (VO.storeP (i := 0) rfl rfl rfl ld109 rfl rfl rfl ?_)
            refine VA.done (by kernel_rfl) ?_
            exact ⟨(r12, r13), (b17, b20), Option.some.inj hm, (Shift.pick [0, 0, 0] rfl ⟨rfl, rfl, rfl, rfl, rfl, trivial⟩)⟩
        · refine VB.o rfl rfl rfl (VO.alloc z109 fun b21 => ?_)
          refine VA.all [1, 4] (by kernel_rfl) ⟨?_, ?_, trivial⟩
          · obtain ⟨r14, h51, hm⟩ := bnd hm
            refine VB.o rfl rfl rfl (VO.callK 0 rfl fn102 rfl (res_row_ok a r14 h51) fun _ _ h58 => ?_)
            obtain ⟨rfl, rfl⟩ := h58
            refine VA.all [3, 4] (by kernel_rfl) ⟨?_, ?_, trivial⟩
            · obtain ⟨r15, h52, hm⟩ := bnd hm
              refine VB.o rfl rfl rfl (VO.callK 0 rfl fn102 rfl (res_row_ok b r15 h52) fun _ _ h54 => ?_)
              obtain ⟨rfl, rfl⟩ := h54
              refine VA.all [4] (by kernel_rfl) ⟨?_, trivial⟩
              refine VB.o rfl rfl rfl (VO.alloc z109 fun b22 => ?_)
              refine VA.all [6] (by kernel_rfl) ⟨?_, trivial⟩
              refine VB.o rfl rfl rfl (VO.storeP (i := 0) rfl rfl rfl ld109 rfl rfl rfl ?_)
              refine VA.all [7] (by kernel_rfl) ⟨?_, trivial⟩
              refine VB.o rfl rfl rfl (VO.storeP (i := 1) rfl rfl rfl ld109 rfl rfl rfl ?_)
              refine VA.done (by kernel_rfl) ?_
              exact ⟨(r14, r15), (b22, b21), Option.some.inj hm, (Shift.pick [1, 0, 0] rfl ⟨rfl, rfl, rfl, rfl, rfl, trivial⟩)⟩
            · refine VB.o rfl rfl rfl (VO.alloc z109 fun b23 => ?_)
              refine VA.all [3] (by kernel_rfl) ⟨?_, trivial⟩
              obtain ⟨r16, h56, hm⟩ := bnd hm
              refine VB.o rfl rfl rfl (VO.callK 0 rfl fn102 rfl (res_row_ok b r16 h56) fun _ _ h57 => ?_)
              obtain ⟨rfl, rfl⟩ := h57
              refine VA.all [6] (by kernel_rfl) ⟨?_, trivial⟩
              refine VB.o rfl rfl rfl (VO.storeP (i := 0) rfl rfl rfl ld109 rfl rfl rfl ?_)
              refine VA.all [7] (by kernel_rfl) ⟨?_, trivial⟩
              refine VB.o rfl rfl rfl (VO.storeP (i := 1) rfl rfl rfl ld109 rfl rfl rfl ?_)
              refine VA.done (by kernel_rfl) ?_
              exact ⟨(r14, r16), (b23, b21), Option.some.inj hm, (Shift.pick [1, 0, 0] rfl ⟨rfl, rfl, rfl, rfl, rfl, trivial⟩)⟩
          · refine VB.o rfl rfl rfl (VO.alloc z109 fun b24 => ?_)
            refine VA.all [1] (by kernel_rfl) ⟨?_, trivial⟩
            obtain ⟨r17, h60, hm⟩ := bnd hm
            refine VB.o rfl rfl rfl (VO.callK 0 rfl fn102 rfl (res_row_ok a r17 h60) fun _ _ h63 => ?_)
            obtain ⟨rfl, rfl⟩ := h63
            refine VA.all [3] (by kernel_rfl) ⟨?_, trivial⟩
            obtain ⟨r18, h61, hm⟩ := bnd hm
            refine VB.o rfl rfl rfl (VO.callK 0 rfl fn102 rfl (res_row_ok b r18 h61) fun _ _ h62 => ?_)
            obtain ⟨rfl, rfl⟩ := h62
            refine VA.all [6] (by kernel_rfl) ⟨?_, trivial⟩
            refine VB.o rfl rfl rfl (VO.storeP (i := 0) rfl rfl rfl ld109 rfl rfl rfl ?_)
            refine VA.all [7] (by kernel_rfl) ⟨?_, trivial⟩
            refine VB.o rfl rfl rfl (VO.storeP (i := 1) rfl rfl rfl ld109 rfl rfl rfl ?_)
            refine VA.done (by kernel_rfl) ?_
            exact ⟨(r17, r18), (b24, b21), Option.some.inj hm, (Shift.pick [1, 0, 0] rfl ⟨rfl, rfl, rfl, rfl, rfl, trivial⟩)⟩
      · rintro j ⟨b5, b6⟩ rfl
        have hm := h13
        refine VW.seq ?_
        refine VW.seq ?_
        refine VW.region ?_
        refine VR.p rfl rfl (VP.move rfl) ?_
        refine VR.nil ?_
        obtain ⟨o2, h64, h65⟩ := bnd hm
        refine VW.joinE (fun (q : Arr5_Int) => q = o2) (fun (l42 : Arr5_Int) (gg : Unit) => [(3, .int .i64 wrong), (8, .ptr b4 0), (10, .ptr b5 0)]) (fun (l42 : Arr5_Int) (gg : Unit) => [.box b5 109 (Arr5_Int.cells l42), .box b4 23 (T_api_Res.cells (⟨(0 : Int), (0 : Int), (0 : Int), (0 : Int), (0 : Int)⟩ : T_api_Res))]) ?_ ?_
        · have hm := h64
          refine VW.block (VW.loop FU ?_)
          refine VL.fuelS (R := _) (fun zn (zs : Arr5_Int × Int) => res_each_res_Least_1.l1 j zn zs.1 zs.2) (fun (zs : Arr5_Int × Int) (zg : Unit) => [(2, .clo (.func 106) [] []), (3, .int .i64 wrong), (8, .ptr b4 0), (10, .ptr b5 0), (11, .ptr b6 0), (27, .int .i64 zs.2)]) (fun (zs : Arr5_Int × Int) (zg : Unit) => [.box b6 109 (Arr5_Int.cells j.2), .box b5 109 (Arr5_Int.cells zs.1), .box b4 23 (T_api_Res.cells (⟨(0 : Int), (0 : Int), (0 : Int), (0 : Int), (0 : Int)⟩ : T_api_Res))]) (j.1, (0 : Int)) () (fun zs => rfl) (Shift.pick [0, 0, 0] rfl ⟨rfl, rfl, rfl, rfl, rfl, rfl, trivial⟩) h64 ?_
          rintro n ⟨l3, v2⟩ _ hm
          rw [res_each_res_Least_1.l1] at hm
          refine VW.seq ?_
          refine VW.region ?_
          refine VR.p rfl rfl (VP.arith rfl rfl rfl) ?_
          refine VR.nil ?_
          refine VW.seq ?_
          rcases ite_or hm with ⟨h66, hm⟩ | ⟨h66, hm⟩
          · refine VW.condT rfl h66 ?_
            refine VW.skip ?_
            refine VW.seq ?_
            refine VW.block ?_
            refine VW.seq ?_
            refine VW.region ?_
            refine VR.p rfl rfl (VP.move rfl) ?_
            refine VR.p rfl rfl (VP.assign rfl) ?_
            refine VR.nil ?_
            refine VW.shift (Shift.mem [1, 0, 0] rfl) ?_
            refine VW.drawK 1 mixed ?_
            refine VA.p 0 rfl rfl rfl (by kernel_rfl) (VP.move rfl) ?_
            refine VA.p 1 rfl rfl rfl (by kernel_rfl) (VP.move rfl) ?_
            refine VA.p 2 rfl rfl rfl (by kernel_rfl) (VP.move rfl) ?_
            obtain ⟨x, h67, hm⟩ := bnd hm
            refine VA.p 3 rfl rfl rfl (by kernel_rfl) (VP.indexA rfl rfl ar109 (gl_pos2 h67).1 (gl_pos2 h67).2) ?_
            refine VA.p 5 rfl rfl rfl (by kernel_rfl) (VP.move rfl) ?_
            obtain ⟨x2, h68, hm⟩ := bnd hm
            refine VA.p 6 rfl rfl rfl (by kernel_rfl) (VP.indexA rfl rfl ar109 (gl_pos2 h68).1 (gl_pos2 h68).2) ?_
            refine VA.p 7 rfl rfl rfl (by kernel_rfl) (VP.loadA 0 (f := (VV.int .i64)) (l := Arr5_Int.l j.2) rfl rfl ld3 rfl h68) ?_
            refine VA.all [4] (by kernel_rfl) ⟨?_, trivial⟩
            refine VB.o rfl rfl rfl (VP.vo (VP.loadA 0 (f := (VV.int .i64)) (l := Arr5_Int.l l3) rfl rfl ld3 rfl h67) ?_)
            refine VA.all [8] (by kernel_rfl) ⟨?_, trivial⟩
            obtain ⟨r19, h69, hm⟩ := bnd hm
            refine VB.o rfl rfl rfl (VO.callK 0 rfl fn106 rfl (res_Least_1_ok x x2 r19 h69) fun _ _ h72 => ?_)
            obtain ⟨rfl, rfl⟩ := h72
            obtain ⟨x3, h70, hm⟩ := bnd hm
            refine VA.p 9 rfl rfl rfl (by kernel_rfl) (VP.indexA rfl rfl ar109 (gl_pos2 h70).1 (gl_pos2 h70).2) ?_
            refine VA.all [10] (by kernel_rfl) ⟨?_, trivial⟩
            obtain ⟨l6, h71, hm⟩ := bnd hm
            refine VB.o rfl rfl rfl (VO.storeA 0 (f := (VV.int .i64)) (l := Arr5_Int.l l3) rfl rfl rfl ld3 rfl rfl (Arr5_Int.put_some h71) ?_)
            refine VA.done (by kernel_rfl) ?_
            refine VW.region ?_
            refine VR.p rfl rfl (VP.arith rfl rfl rfl) ?_
            refine VR.p rfl rfl (VP.move rfl) ?_
            refine VR.nil ?_
            exact ⟨(l6, (IntKind.i64.wrap (v2 + (1 : Int)))), (), hm, (Shift.pick [1, 0, 0] rfl ⟨rfl, rfl, rfl, rfl, rfl, rfl, trivial⟩)⟩
          · have h66 := bf h66
            refine VW.condF rfl h66 ?_
            refine VW.exit ?_
            exact ⟨l3, (), Option.some.inj hm, (Shift.pick [1, 1] rfl ⟨rfl, rfl, rfl, trivial⟩)⟩
        · rintro l42 _ rfl
          have hm := h65
          refine VW.seq ?_
          refine VW.seq ?_
          refine VW.region ?_
          refine VR.p rfl rfl (VP.loadP (i := 0) rfl rfl ld109 rfl) ?_
          obtain ⟨r20, h73, hm⟩ := bnd hm
          refine VR.cons rfl rfl (VO.callK 0 rfl fn125 rfl (res_back_ok l42 r20 h73) fun _ _ h78 => ?_)
          obtain ⟨rfl, rfl⟩ := h78
          refine VR.cons rfl rfl (VO.alloc z23 fun b25 => ?_)
          refine VR.cons rfl rfl (VO.storeP (i := 0) rfl rfl rfl ld23 rfl rfl rfl ?_)
          refine VR.nil ?_
          refine VW.seq ?_
          refine VW.region ?_
          refine VR.p rfl rfl (VP.loadP (i := 0) rfl rfl ld23 rfl) ?_
          obtain ⟨r21, h75, hm⟩ := bnd hm
          refine VR.cons rfl rfl (VO.callK 0 rfl fn73 rfl (res_Right_ok r20 r21 h75) fun _ _ h77 => ?_)
          obtain ⟨rfl, rfl⟩ := h77
          refine VR.nil ?_
          rcases ite_or hm with ⟨h76, hm⟩ | ⟨h76, hm⟩
          · refine VW.condT rfl h76 ?_
            refine VW.seq ?_
            refine VW.region ?_
            refine VR.p rfl rfl (VP.loadP (i := 0) rfl rfl ld23 rfl) ?_
            refine VR.cons rfl rfl (VO.storeP (i := 2) rfl rfl rfl ld23 rfl rfl rfl ?_)
            refine VR.p rfl rfl (VP.assign rfl) ?_
            refine VR.nil ?_
            obtain rfl := Option.some.inj hm
            exact VW.ret ⟨.inl rfl, _, .cons (.cell _ _ _ _ 2 _ _ _ _ rfl rfl ld23 rfl) (.cons (.tmp _ _ rfl) .nil), [], _, rfl, rfl, rfl⟩
          · have h76 := bf h76
            refine VW.condF rfl h76 ?_
            refine VW.skip ?_
            refine VW.seq ?_
            refine VW.region ?_
            refine VR.p rfl rfl (VP.buildP pl23 rfl rfl) ?_
            refine VR.p rfl rfl (VP.move rfl) ?_
            refine VR.cons rfl rfl (VO.storeP (i := 2) rfl rfl rfl ld23 rfl rfl rfl ?_)
            refine VR.p rfl rfl (VP.assign rfl) ?_
            refine VR.nil ?_
            obtain rfl := Option.some.inj hm
            exact VW.ret ⟨.inl rfl, _, .cons (.cell _ _ _ _ 2 _ _ _ _ rfl rfl ld23 rfl) (.cons (.tmp _ _ rfl) .nil), [], _, rfl, rfl, rfl⟩

/-! trireme/res.Least -/
def res_Least (a : T_api_Res) (b : T_api_Res) : Option T_api_Res :=
  (res_each_res_Least_1 a b (10 : Int)).bind fun r =>
  some r.1
theorem res_Least_ok (a : T_api_Res) (b : T_api_Res) (r : T_api_Res) (hm : res_Least a b = some r) :
    VC Try.prog 76 [T_api_Res.vv a, T_api_Res.vv b] [] (fun zx zH => zx = T_api_Res.vv r ∧ zH = []) := by
  unfold res_Least at hm
  refine VC.run (c := _) (rs := [.cell 4 23]) Try.func76 rfl rfl rfl ?_
  refine VW.seq ?_
  refine VW.region ?_
  refine VR.cons rfl rfl (VO.box rfl rfl fun b2 => ?_)
  refine VR.cons rfl rfl (VO.box rfl rfl fun b3 => ?_)
  refine VR.cons rfl rfl (VO.alloc z23 fun b4 => ?_)
  refine VR.nil ?_
  refine VW.seq ?_
  refine VW.region ?_
  refine VR.p rfl rfl (VP.loadP (i := 2) rfl rfl ld23 rfl) ?_
  refine VR.p rfl rfl (VP.loadP (i := 1) rfl rfl ld23 rfl) ?_
  obtain ⟨r, h4, hm⟩ := bnd hm
  refine VR.cons rfl rfl (VO.callK 0 rfl fn103 rfl (res_each_res_Least_1_ok a b (10 : Int) r h4) fun _ _ h6 => ?_)
  obtain ⟨rfl, rfl⟩ := h6
  refine VR.p rfl rfl (VP.move rfl) ?_
  refine VR.p rfl rfl (VP.extract rfl rfl) ?_
  refine VR.p rfl rfl (VP.extract rfl rfl) ?_
  refine VR.cons rfl rfl (VO.alloc z23 fun b5 => ?_)
  refine VR.cons rfl rfl (VO.storeP (i := 0) rfl rfl rfl ld23 rfl rfl rfl ?_)
  refine VR.p rfl rfl (VP.assign rfl) ?_
  refine VR.nil ?_
  refine VW.seq ?_
  refine VW.region ?_
  refine VR.p rfl rfl (VP.loadP (i := 0) rfl rfl ld23 rfl) ?_
  refine VR.cons rfl rfl (VO.storeP (i := 1) rfl rfl rfl ld23 rfl rfl rfl ?_)
  refine VR.nil ?_
  obtain rfl := Option.some.inj hm
  exact VW.ret ⟨.inl rfl, _, .cons (.cell _ _ _ _ 1 _ _ _ _ rfl rfl ld23 rfl) .nil, [], _, rfl, rfl, rfl⟩

/-! trireme/res.Sub$1 -/
def res_Sub_1 (x : Int) (y : Int) : Option Int :=
  some (IntKind.i64.wrap (x - y))
theorem res_Sub_1_ok (x : Int) (y : Int) (r : Int) (hm : res_Sub_1 x y = some r) :
    VC Try.prog 105 [.int .i64 x, .int .i64 y] [] (fun zx zH => zx = .int .i64 r ∧ zH = []) := by
  unfold res_Sub_1 at hm
  refine VC.run (c := _) (rs := [.tmp 4]) Try.func105 rfl rfl rfl ?_
  refine VW.seq ?_
  refine VW.region ?_
  refine VR.p rfl rfl (VP.assign rfl) ?_
  refine VR.nil ?_
  refine VW.seq ?_
  refine VW.region ?_
  refine VR.p rfl rfl (VP.move rfl) ?_
  refine VR.p rfl rfl (VP.move rfl) ?_
  refine VR.p rfl rfl (VP.arith rfl rfl rfl) ?_
  refine VR.p rfl rfl (VP.assign rfl) ?_
  refine VR.nil ?_
  obtain rfl := Option.some.inj hm
  exact VW.ret ⟨.inl rfl, _, .cons (.tmp _ _ rfl) .nil, [], _, rfl, rfl, rfl⟩

/-! trireme/res.each -/
def res_each_res_Sub_1.l1 (j : Arr5_Int × Arr5_Int) : Nat → Arr5_Int → Int → Option Arr5_Int
  | 0, _, _ => none
  | n + 1, l3, v2 =>
    if (decide (v2 < (5 : Int))) = true then
      (V.gl (Arr5_Int.l l3) v2).bind fun x =>
      (V.gl (Arr5_Int.l j.2) v2).bind fun x2 =>
      (res_Sub_1 x x2).bind fun r19 =>
      (V.gl (Arr5_Int.l l3) v2).bind fun x3 =>
      (Arr5_Int.put l3 v2 r19).bind fun l6 =>
      res_each_res_Sub_1.l1 j n l6 (IntKind.i64.wrap (v2 + (1 : Int)))
    else
      some l3
def res_each_res_Sub_1 (a : T_api_Res) (b : T_api_Res) (wrong : Int) : Option (T_api_Res × Int) :=
  (res_Right a).bind fun r =>
  (if (!r) = true then some true else (res_Right b).bind fun r2 =>
  some (!r2)).bind fun c =>
  if c = true then
    some ((⟨(0 : Int), (0 : Int), (0 : Int), (0 : Int), (0 : Int)⟩ : T_api_Res), (1 : Int))
  else
    ((res_row a).bind fun r3 =>
    (res_row b).bind fun r4 =>
    some (r3, r4)).bind fun j =>
    (res_each_res_Sub_1.l1 j FU j.1 (0 : Int)).bind fun l42 =>
    (res_back l42).bind fun r20 =>
    (res_Right r20).bind fun r21 =>
    if r21 = true then
      some (r20, (0 : Int))
    else
      some ((⟨(0 : Int), (0 : Int), (0 : Int), (0 : Int), (0 : Int)⟩ : T_api_Res), wrong)
theorem res_each_res_Sub_1_ok (a : T_api_Res) (b : T_api_Res) (wrong : Int) (r : T_api_Res × Int) (hm : res_each_res_Sub_1 a b wrong = some r) :
    VC Try.prog 103 [T_api_Res.vv a, T_api_Res.vv b, .clo (.func 105) [] [], .int .i64 wrong] [] (fun zx zH => zx = .tup [T_api_Res.vv r.1, .int .i64 r.2] ∧ zH = []) := by
  unfold res_each_res_Sub_1 at hm
  refine VC.run (c := _) (rs := [.cell 8 23, .tmp 9]) Try.func103 rfl rfl rfl ?_
  refine VW.seq ?_
  refine VW.region ?_
  refine VR.cons rfl rfl (VO.box rfl rfl fun b2 => ?_)
  refine VR.cons rfl rfl (VO.box rfl rfl fun b3 => ?_)
  refine VR.cons rfl rfl (VO.alloc z23 fun b4 => ?_)
  refine VR.p rfl rfl (VP.assign rfl) ?_
  refine VR.nil ?_
  refine VW.seq ?_
  refine VW.seq ?_
  refine VW.region ?_
  refine VR.p rfl rfl (VP.loadP (i := 2) rfl rfl ld23 rfl) ?_
  obtain ⟨r, h4, hm⟩ := bnd hm
  refine VR.cons rfl rfl (VO.callK 0 rfl fn73 rfl (res_Right_ok a r h4) fun _ _ h79 => ?_)
  obtain ⟨rfl, rfl⟩ := h79
  refine VR.p rfl rfl (VP.not rfl) ?_
  refine VR.p rfl rfl (VP.move rfl) ?_
  obtain ⟨c, h8, hm⟩ := bnd hm
  refine VR.sc 4 21 (.bool c) (fun K' J => ?_) ?_
  · have hm := h8
    rcases ite_or hm with ⟨h5, hm⟩ | ⟨h5, hm⟩
    · refine VR.skipG rfl rfl rfl rfl h5 ?_
      refine VR.skipG rfl rfl rfl rfl h5 ?_
      refine VR.skipG rfl rfl rfl rfl h5 ?_
      refine VR.p rfl rfl (VP.pickB true rfl h5 rfl) ?_
      exact J [_, _, _] _ rfl (congrArg VV.bool (Option.some.inj hm))
    · have h5 := bf h5
      refine VR.pG rfl rfl rfl rfl h5 (VP.loadP (i := 1) rfl rfl ld23 rfl) ?_
      obtain ⟨r2, h6, hm⟩ := bnd hm
      refine VR.consG rfl rfl rfl rfl h5 (VO.callK 0 rfl fn73 rfl (res_Right_ok b r2 h6) fun _ _ h7 => ?_)
      obtain ⟨rfl, rfl⟩ := h7
      refine VR.pG rfl rfl rfl rfl h5 (VP.not rfl) ?_
      refine VR.p rfl rfl (VP.pickB false rfl h5 rfl) ?_
      exact J [_, _, _] _ rfl (congrArg VV.bool (Option.some.inj hm))
  · refine VR.nil ?_
    rcases ite_or hm with ⟨h9, hm⟩ | ⟨h9, hm⟩
    · refine VW.condT rfl h9 ?_
      refine VW.seq ?_
      refine VW.region ?_
      refine VR.p rfl rfl (VP.buildP pl23 rfl rfl) ?_
      refine VR.cons rfl rfl (VO.storeP (i := 0) rfl rfl rfl ld23 rfl rfl rfl ?_)
      refine VR.p rfl rfl (VP.assign rfl) ?_
      refine VR.nil ?_
      obtain rfl := Option.some.inj hm
      exact VW.ret ⟨.inl rfl, _, .cons (.cell _ _ _ _ 0 _ _ _ _ rfl rfl ld23 rfl) (.cons (.tmp _ _ rfl) .nil), [], _, rfl, rfl, rfl⟩
    · have h9 := bf h9
      refine VW.condF rfl h9 ?_
      refine VW.skip ?_
      obtain ⟨o, h12, h13⟩ := bnd hm
      refine VW.join (fun (q : Arr5_Int × Arr5_Int) => q = o) (fun (j : Arr5_Int × Arr5_Int) (gg : Nat × Nat) => [(2, .clo (.func 105) [] []), (3, .int .i64 wrong), (8, .ptr b4 0), (10, .ptr gg.1 0), (11, .ptr gg.2 0)]) (fun (j : Arr5_Int × Arr5_Int) (gg : Nat × Nat) => [.box gg.2 109 (Arr5_Int.cells j.2), .box gg.1 109 (Arr5_Int.cells j.1), .box b4 23 (T_api_Res.cells (⟨(0 : Int), (0 : Int), (0 : Int), (0 : Int), (0 : Int)⟩ : T_api_Res))]) ?_ ?_
      · have hm := h12
        refine VW.drawK 0 mixed ?_
        refine VA.p 0 rfl rfl rfl (by kernel_rfl) (VP.loadP (i := 2) rfl rfl ld23 rfl) ?_
        refine VA.p 2 rfl rfl rfl (by kernel_rfl) (VP.loadP (i := 1) rfl rfl ld23 rfl) ?_
        refine VA.all [1, 4, 5] (by kernel_rfl) ⟨?_, ?_, ?_, trivial⟩
        · obtain ⟨r3, h14, hm⟩ := bnd hm
          refine VB.o rfl rfl rfl (VO.callK 0 rfl fn102 rfl (res_row_ok a r3 h14) fun _ _ h35 => ?_)
          obtain ⟨rfl, rfl⟩ := h35
          refine VA.all [3, 4, 5] (by kernel_rfl) ⟨?_, ?_, ?_, trivial⟩
          · obtain ⟨r4, h15, hm⟩ := bnd hm
            refine VB.o rfl rfl rfl (VO.callK 0 rfl fn102 rfl (res_row_ok b r4 h15) fun _ _ h20 => ?_)
            obtain ⟨rfl, rfl⟩ := h20
            refine VA.all [4, 5] (by kernel_rfl) ⟨?_, ?_, trivial⟩
            · refine VB.o rfl rfl rfl (VO.alloc z109 fun b7 => ?_)
              refine VA.all [5] (by kernel_rfl) ⟨?_, trivial⟩
              refine VB.o rfl rfl rfl (VO.alloc z109 fun b8 => ?_)
              refine VA.all [6] (by kernel_rfl) ⟨?_, trivial⟩
              refine VB.o rfl rfl rfl (VO.storeP (i := 1) rfl rfl rfl ld109 rfl rfl rfl ?_)
              refine VA.all [7] (by kernel_rfl) ⟨?_, trivial⟩
              refine VB.o rfl rfl rfl (VO.storeP (i := 0) rfl rfl rfl ld109 rfl rfl rfl ?_)
              refine VA.done (by kernel_rfl) ?_
              exact ⟨(r3, r4), (b7, b8), Option.some.inj hm, (Shift.pick [0, 0, 0] rfl ⟨rfl, rfl, rfl, rfl, rfl, trivial⟩)⟩
            · refine VB.o rfl rfl rfl (VO.alloc z109 fun b9 => ?_)
              refine VA.all [4] (by kernel_rfl) ⟨?_, trivial⟩
              refine VB.o rfl rfl rfl (VO.alloc z109 fun b10 => ?_)
              refine VA.all [6] (by kernel_rfl) ⟨?_, trivial⟩
              refine VB.o rfl rfl rfl (VO.storeP (i := 0) rfl rfl rfl ld109 rfl rfl rfl ?_)
              refine VA.all [7] (by kernel_rfl) ⟨?_, trivial⟩
              refine VB.o rfl rfl rfl (VO.storeP (i := 1) rfl rfl rfl ld109 rfl rfl rfl ?_)
              refine VA.done (by kernel_rfl) ?_
              exact ⟨(r3, r4), (b10, b9), Option.some.inj hm, (Shift.pick [1, 0, 0] rfl ⟨rfl, rfl, rfl, rfl, rfl, trivial⟩)⟩
          · refine VB.o rfl rfl rfl (VO.alloc z109 fun b11 => ?_)
            refine VA.all [3, 5] (by kernel_rfl) ⟨?_, ?_, trivial⟩
            · obtain ⟨r5, h22, hm⟩ := bnd hm
              refine VB.o rfl rfl rfl (VO.callK 0 rfl fn102 rfl (res_row_ok b r5 h22) fun _ _ h24 => ?_)
              obtain ⟨rfl, rfl⟩ := h24
              refine VA.all [5] (by kernel_rfl) ⟨?_, trivial⟩
              refine VB.o rfl rfl rfl (VO.alloc z109 fun b12 => ?_)
              refine VA.all [6] (by kernel_rfl) ⟨?_, trivial⟩
              refine VB.o rfl rfl rfl (VO.storeP (i := 1) rfl rfl rfl ld109 rfl rfl rfl ?_)
              refine VA.all [7] (by kernel_rfl) ⟨?_, trivial⟩
              refine VB.o rfl rfl rfl (VO.storeP (i := 0) rfl rfl rfl ld109 rfl rfl rfl ?_)
              refine VA.done (by kernel_rfl) ?_
              exact ⟨(r3, r5), (b11, b12), Option.some.inj hm, (Shift.pick [0, 0, 0] rfl ⟨rfl, rfl, rfl, rfl, rfl, trivial⟩)⟩
            · refine VB.o rfl rfl rfl (VO.alloc z109 fun b13 => ?_)
              refine VA.all [3] (by kernel_rfl) ⟨?_, trivial⟩
              obtain ⟨r6, h26, hm⟩ := bnd hm
              refine VB.o rfl rfl rfl (VO.callK 0 rfl fn102 rfl (res_row_ok b r6 h26) fun _ _ h27 => ?_)
              obtain ⟨rfl, rfl⟩ := h27
              refine VA.all [6] (by kernel_rfl) ⟨?_, trivial⟩
              refine VB.o rfl rfl rfl (VO.storeP (i := 1) rfl rfl rfl ld109 rfl rfl rfl ?_)
              refine VA.all [7] (by kernel_rfl) ⟨?_, trivial⟩
              refine VB.o rfl rfl rfl (VO.storeP (i := 0) rfl rfl rfl ld109 rfl rfl rfl ?_)
              refine VA.done (by kernel_rfl) ?_
              exact ⟨(r3, r6), (b11, b13), Option.some.inj hm, (Shift.pick [0, 0, 0] rfl ⟨rfl, rfl, rfl, rfl, rfl, trivial⟩)⟩
          · refine VB.o rfl rfl rfl (VO.alloc z109 fun b14 => ?_)
            refine VA.all [3, 4] (by kernel_rfl) ⟨?_, ?_, trivial⟩
            · obtain ⟨r7, h29, hm⟩ := bnd hm
              refine VB.o rfl rfl rfl (VO.callK 0 rfl fn102 rfl (res_row_ok b r7 h29) fun _ _ h31 => ?_)
              obtain ⟨rfl, rfl⟩ := h31
              refine VA.all [4] (by kernel_rfl) ⟨?_, trivial⟩
              refine VB.o rfl rfl rfl (VO.alloc z109 fun b15 => ?_)
              refine VA.all [6] (by kernel_rfl) ⟨?_, trivial⟩
              refine VB.o rfl rfl rfl (VO.storeP (i := 0) rfl rfl rfl ld109 rfl rfl rfl ?_)
              refine VA.all [7] (by kernel_rfl) ⟨?_, trivial⟩
              refine VB.o rfl rfl rfl (VO.storeP (i := 1) rfl rfl rfl ld109 rfl rfl rfl ?_)
              refine VA.done (by kernel_rfl) ?_
              exact ⟨(r3, r7), (b15, b14), Option.some.inj hm, (Shift.pick [1, 0, 0] rfl ⟨rfl, rfl, rfl, rfl, rfl, trivial⟩)⟩
            · refine VB.o rfl rfl rfl (VO.alloc z109 fun b16 => ?_)
              refine VA.all [3] (by kernel_rfl) ⟨?_, trivial⟩
              obtain ⟨r8, h33, hm⟩ := bnd hm
              refine VB.o rfl rfl rfl (VO.callK 0 rfl fn102 rfl (res_row_ok b r8 h33) fun _ _ h34 => ?_)
              obtain ⟨rfl, rfl⟩ := h34
              refine VA.all [6] (by kernel_rfl) ⟨?_, trivial⟩
              refine VB.o rfl rfl rfl (VO.storeP (i := 0) rfl rfl rfl ld109 rfl rfl rfl ?_)
              refine VA.all [7] (by kernel_rfl) ⟨?_, trivial⟩
              refine VB.o rfl rfl rfl (VO.storeP (i := 1) rfl rfl rfl ld109 rfl rfl rfl ?_)
              refine VA.done (by kernel_rfl) ?_
              exact ⟨(r3, r8), (b16, b14), Option.some.inj hm, (Shift.pick [1, 0, 0] rfl ⟨rfl, rfl, rfl, rfl, rfl, trivial⟩)⟩
        · refine VB.o rfl rfl rfl (VO.alloc z109 fun b17 => ?_)
          refine VA.all [1, 5] (by kernel_rfl) ⟨?_, ?_, trivial⟩
          · obtain ⟨r9, h37, hm⟩ := bnd hm
            refine VB.o rfl rfl rfl (VO.callK 0 rfl fn102 rfl (res_row_ok a r9 h37) fun _ _ h44 => ?_)
            obtain ⟨rfl, rfl⟩ := h44
            refine VA.all [3, 5] (by kernel_rfl) ⟨?_, ?_, trivial⟩
            · obtain ⟨r10, h38, hm⟩ := bnd hm
              refine VB.o rfl rfl rfl (VO.callK 0 rfl fn102 rfl (res_row_ok b r10 h38) fun _ _ h40 => ?_)
              obtain ⟨rfl, rfl⟩ := h40
              refine VA.all [5] (by kernel_rfl) ⟨?_, trivial⟩
              refine VB.o rfl rfl rfl (VO.alloc z109 fun b18 => ?_)
              refine VA.all [6] (by kernel_rfl) ⟨?_, trivial⟩
              refine VB.o rfl rfl rfl (VO.storeP (i := 1) rfl rfl rfl ld109 rfl rfl rfl ?_)
              refine VA.all [7] (by kernel_rfl) ⟨?_, trivial⟩
              refine VB.o rfl rfl rfl (VO.storeP (i := 0) rfl rfl rfl ld109 rfl rfl rfl ?_)
              refine VA.done (by kernel_rfl) ?_
              exact ⟨(r9, r10), (b17, b18), Option.some.inj hm, (Shift.pick [0, 0, 0] rfl ⟨rfl, rfl, rfl, rfl, rfl, trivial⟩)⟩
            · refine VB.o rfl rfl rfl (VO.alloc z109 fun b19 => ?_)
              refine VA.all [3] (by kernel_rfl) ⟨?_, trivial⟩
              obtain ⟨r11, h42, hm⟩ := bnd hm
              refine VB.o rfl rfl rfl (VO.callK 0 rfl fn102 rfl (res_row_ok b r11 h42) fun _ _ h43 => ?_)
              obtain ⟨rfl, rfl⟩ := h43
              refine VA.all [6] (by kernel_rfl) ⟨?_, trivial⟩
              refine VB.o rfl rfl rfl (VO.storeP (i := 1) rfl rfl rfl ld109 rfl rfl rfl ?_)
              refine VA.all [7] (by kernel_rfl) ⟨?_, trivial⟩
              refine VB.o rfl rfl rfl (VO.storeP (i := 0) rfl rfl rfl ld109 rfl rfl rfl ?_)
              refine VA.done (by kernel_rfl) ?_
              exact ⟨(r9, r11), (b17, b19), Option.some.inj hm, (Shift.pick [0, 0, 0] rfl ⟨rfl, rfl, rfl, rfl, rfl, trivial⟩)⟩
          · refine VB.o rfl rfl rfl (VO.alloc z109 fun b20 => ?_)
            refine VA.all [1] (by kernel_rfl) ⟨?_, trivial⟩
            obtain ⟨r12, h46, hm⟩ := bnd hm
            refine VB.o rfl rfl rfl (VO.callK 0 rfl fn102 rfl (res_row_ok a r12 h46) fun _ _ h49 => ?_)
            obtain ⟨rfl, rfl⟩ := h49
            refine VA.all [3] (by kernel_rfl) ⟨?_, trivial⟩
            obtain ⟨r13, h47, hm⟩ := bnd hm
            refine VB.o rfl rfl rfl (VO.callK 0 rfl fn102 rfl (res_row_ok b r13 h47) fun _ _ h48 => ?_)
            obtain ⟨rfl, rfl⟩ := h48
            refine VA.all [6] (by kernel_rfl) ⟨?_, trivial⟩
            refine VB.o rfl rfl rfl (VO.storeP (i := 1) rfl rfl rfl ld109 rfl rfl rfl ?_)
            refine VA.all [7] (by kernel_rfl) ⟨?_, trivial⟩
            refine VB.o rfl rfl rfl (VO.storeP (i := 0) rfl rfl rfl ld109 rfl rfl rfl ?_)
            refine VA.done (by kernel_rfl) ?_
            exact ⟨(r12, r13), (b17, b20), Option.some.inj hm, (Shift.pick [0, 0, 0] rfl ⟨rfl, rfl, rfl, rfl, rfl, trivial⟩)⟩
        · refine VB.o rfl rfl rfl (VO.alloc z109 fun b21 => ?_)
          refine VA.all [1, 4] (by kernel_rfl) ⟨?_, ?_, trivial⟩
          · obtain ⟨r14, h51, hm⟩ := bnd hm
            refine VB.o rfl rfl rfl (VO.callK 0 rfl fn102 rfl (res_row_ok a r14 h51) fun _ _ h58 => ?_)
            obtain ⟨rfl, rfl⟩ := h58
            refine VA.all [3, 4] (by kernel_rfl) ⟨?_, ?_, trivial⟩
            · obtain ⟨r15, h52, hm⟩ := bnd hm
              refine VB.o rfl rfl rfl (VO.callK 0 rfl fn102 rfl (res_row_ok b r15 h52) fun _ _ h54 => ?_)
              obtain ⟨rfl, rfl⟩ := h54
              refine VA.all [4] (by kernel_rfl) ⟨?_, trivial⟩
              refine VB.o rfl rfl rfl (VO.alloc z109 fun b22 => ?_)
              refine VA.all [6] (by kernel_rfl) ⟨?_, trivial⟩
              refine VB.o rfl rfl rfl (VO.storeP (i := 0) rfl rfl rfl ld109 rfl rfl rfl ?_)
              refine VA.all [7] (by kernel_rfl) ⟨?_, trivial⟩
              refine VB.o rfl rfl rfl (VO.storeP (i := 1) rfl rfl rfl ld109 rfl rfl rfl ?_)
              refine VA.done (by kernel_rfl) ?_
              exact ⟨(r14, r15), (b22, b21), Option.some.inj hm, (Shift.pick [1, 0, 0] rfl ⟨rfl, rfl, rfl, rfl, rfl, trivial⟩)⟩
            · refine VB.o rfl rfl rfl (VO.alloc z109 fun b23 => ?_)
              refine VA.all [3] (by kernel_rfl) ⟨?_, trivial⟩
              obtain ⟨r16, h56, hm⟩ := bnd hm
              refine VB.o rfl rfl rfl (VO.callK 0 rfl fn102 rfl (res_row_ok b r16 h56) fun _ _ h57 => ?_)
              obtain ⟨rfl, rfl⟩ := h57
              refine VA.all [6] (by kernel_rfl) ⟨?_, trivial⟩
              refine VB.o rfl rfl rfl (VO.storeP (i := 0) rfl rfl rfl ld109 rfl rfl rfl ?_)
              refine VA.all [7] (by kernel_rfl) ⟨?_, trivial⟩
              refine VB.o rfl rfl rfl (VO.storeP (i := 1) rfl rfl rfl ld109 rfl rfl rfl ?_)
              refine VA.done (by kernel_rfl) ?_
              exact ⟨(r14, r16), (b23, b21), Option.some.inj hm, (Shift.pick [1, 0, 0] rfl ⟨rfl, rfl, rfl, rfl, rfl, trivial⟩)⟩
          · refine VB.o rfl rfl rfl (VO.alloc z109 fun b24 => ?_)
            refine VA.all [1] (by kernel_rfl) ⟨?_, trivial⟩
            obtain ⟨r17, h60, hm⟩ := bnd hm
            refine VB.o rfl rfl rfl (VO.callK 0 rfl fn102 rfl (res_row_ok a r17 h60) fun _ _ h63 => ?_)
            obtain ⟨rfl, rfl⟩ := h63
            refine VA.all [3] (by kernel_rfl) ⟨?_, trivial⟩
            obtain ⟨r18, h61, hm⟩ := bnd hm
            refine VB.o rfl rfl rfl (VO.callK 0 rfl fn102 rfl (res_row_ok b r18 h61) fun _ _ h62 => ?_)
            obtain ⟨rfl, rfl⟩ := h62
            refine VA.all [6] (by kernel_rfl) ⟨?_, trivial⟩
            refine VB.o rfl rfl rfl (VO.storeP (i := 0) rfl rfl rfl ld109 rfl rfl rfl ?_)
            refine VA.all [7] (by kernel_rfl) ⟨?_, trivial⟩
            refine VB.o rfl rfl rfl (VO.storeP (i := 1) rfl rfl rfl ld109 rfl rfl rfl ?_)
            refine VA.done (by kernel_rfl) ?_
            exact ⟨(r17, r18), (b24, b21), Option.some.inj hm, (Shift.pick [1, 0, 0] rfl ⟨rfl, rfl, rfl, rfl, rfl, trivial⟩)⟩
      · rintro j ⟨b5, b6⟩ rfl
        have hm := h13
        refine VW.seq ?_
        refine VW.seq ?_
        refine VW.region ?_
        refine VR.p rfl rfl (VP.move rfl) ?_
        refine VR.nil ?_
        obtain ⟨o2, h64, h65⟩ := bnd hm
        refine VW.joinE (fun (q : Arr5_Int) => q = o2) (fun (l42 : Arr5_Int) (gg : Unit) => [(3, .int .i64 wrong), (8, .ptr b4 0), (10, .ptr b5 0)]) (fun (l42 : Arr5_Int) (gg : Unit) => [.box b5 109 (Arr5_Int.cells l42), .box b4 23 (T_api_Res.cells (⟨(0 : Int), (0 : Int), (0 : Int), (0 : Int), (0 : Int)⟩ : T_api_Res))]) ?_ ?_
        · have hm := h64
          refine VW.block (VW.loop FU ?_)
          refine VL.fuelS (R := _) (fun zn (zs : Arr5_Int × Int) => res_each_res_Sub_1.l1 j zn zs.1 zs.2) (fun (zs : Arr5_Int × Int) (zg : Unit) => [(2, .clo (.func 105) [] []), (3, .int .i64 wrong), (8, .ptr b4 0), (10, .ptr b5 0), (11, .ptr b6 0), (27, .int .i64 zs.2)]) (fun (zs : Arr5_Int × Int) (zg : Unit) => [.box b6 109 (Arr5_Int.cells j.2), .box b5 109 (Arr5_Int.cells zs.1), .box b4 23 (T_api_Res.cells (⟨(0 : Int), (0 : Int), (0 : Int), (0 : Int), (0 : Int)⟩ : T_api_Res))]) (j.1, (0 : Int)) () (fun zs => rfl) (Shift.pick [0, 0, 0] rfl ⟨rfl, rfl, rfl, rfl, rfl, rfl, trivial⟩) h64 ?_
          rintro n ⟨l3, v2⟩ _ hm
          rw [res_each_res_Sub_1.l1] at hm
          refine VW.seq ?_
          refine VW.region ?_
          refine VR.p rfl rfl (VP.arith rfl rfl rfl) ?_
          refine VR.nil ?_
          refine VW.seq ?_
          rcases ite_or hm with ⟨h66, hm⟩ | ⟨h66, hm⟩
          · refine VW.condT rfl h66 ?_
            refine VW.skip ?_
            refine VW.seq ?_
            refine VW.block ?_
            refine VW.seq ?_
            refine VW.region ?_
            refine VR.p rfl rfl (VP.move rfl) ?_
            refine VR.p rfl rfl (VP.assign rfl) ?_
            refine VR.nil ?_
            refine VW.shift (Shift.mem [1, 0, 0] rfl) ?_
            refine VW.drawK 1 mixed ?_
            refine VA.p 0 rfl rfl rfl (by kernel_rfl) (VP.move rfl) ?_
            refine VA.p 1 rfl rfl rfl (by kernel_rfl) (VP.move rfl) ?_
            refine VA.p 2 rfl rfl rfl (by kernel_rfl) (VP.move rfl) ?_
            obtain ⟨x, h67, hm⟩ := bnd hm
            refine VA.p 3 rfl rfl rfl (by kernel_rfl) (VP.indexA rfl rfl ar109 (gl_pos2 h67).1 (gl_pos2 h67).2) ?_
            refine VA.p 5 rfl rfl rfl (by kernel_rfl) (VP.move rfl) ?_
            obtain ⟨x2, h68, hm⟩ := bnd hm
            refine VA.p 6 rfl rfl rfl (by kernel_rfl) (VP.indexA rfl rfl ar109 (gl_pos2 h68).1 (gl_pos2 h68).2) ?_
            refine VA.p 7 rfl rfl rfl (by kernel_rfl) (VP.loadA 0 (f := (VV.int .i64)) (l := Arr5_Int.l j.2) rfl rfl ld3 rfl h68) ?_
            refine VA.all [4] (by kernel_rfl) ⟨?_, trivial⟩
            refine VB.o rfl rfl rfl (VP.vo (VP.loadA 0 (f := (VV.int .i64)) (l := Arr5_Int.l l3) rfl rfl ld3 rfl h67) ?_)
            refine VA.all [8] (by kernel_rfl) ⟨?_, trivial⟩
            obtain ⟨r19, h69, hm⟩ := bnd hm
            refine VB.o rfl rfl rfl (VO.callK 0 rfl fn105 rfl (res_Sub_1_ok x x2 r19 h69) fun _ _ h72 => ?_)
            obtain ⟨rfl, rfl⟩ := h72
            obtain ⟨x3, h70, hm⟩ := bnd hm
            refine VA.p 9 rfl rfl rfl (by kernel_rfl) (VP.indexA rfl rfl ar109 (gl_pos2 h70).1 (gl_pos2 h70).2) ?_
            refine VA.all [10] (by kernel_rfl) ⟨?_, trivial⟩
            obtain ⟨l6, h71, hm⟩ := bnd hm
            refine VB.o rfl rfl rfl (VO.storeA 0 (f := (VV.int .i64)) (l := Arr5_Int.l l3) rfl rfl rfl ld3 rfl rfl (Arr5_Int.put_some h71) ?_)
            refine VA.done (by kernel_rfl) ?_
            refine VW.region ?_
            refine VR.p rfl rfl (VP.arith rfl rfl rfl) ?_
            refine VR.p rfl rfl (VP.move rfl) ?_
            refine VR.nil ?_
            exact ⟨(l6, (IntKind.i64.wrap (v2 + (1 : Int)))), (), hm, (Shift.pick [1, 0, 0] rfl ⟨rfl, rfl, rfl, rfl, rfl, rfl, trivial⟩)⟩
          · have h66 := bf h66
            refine VW.condF rfl h66 ?_
            refine VW.exit ?_
            exact ⟨l3, (), Option.some.inj hm, (Shift.pick [1, 1] rfl ⟨rfl, rfl, rfl, trivial⟩)⟩
        · rintro l42 _ rfl
          have hm := h65
          refine VW.seq ?_
          refine VW.seq ?_
          refine VW.region ?_
          refine VR.p rfl rfl (VP.loadP (i := 0) rfl rfl ld109 rfl) ?_
          obtain ⟨r20, h73, hm⟩ := bnd hm
          refine VR.cons rfl rfl (VO.callK 0 rfl fn125 rfl (res_back_ok l42 r20 h73) fun _ _ h78 => ?_)
          obtain ⟨rfl, rfl⟩ := h78
          refine VR.cons rfl rfl (VO.alloc z23 fun b25 => ?_)
          refine VR.cons rfl rfl (VO.storeP (i := 0) rfl rfl rfl ld23 rfl rfl rfl ?_)
          refine VR.nil ?_
          refine VW.seq ?_
          refine VW.region ?_
          refine VR.p rfl rfl (VP.loadP (i := 0) rfl rfl ld23 rfl) ?_
          obtain ⟨r21, h75, hm⟩ := bnd hm
          refine VR.cons rfl rfl (VO.callK 0 rfl fn73 rfl (res_Right_ok r20 r21 h75) fun _ _ h77 => ?_)
          obtain ⟨rfl, rfl⟩ := h77
          refine VR.nil ?_
          rcases ite_or hm with ⟨h76, hm⟩ | ⟨h76, hm⟩
          · refine VW.condT rfl h76 ?_
            refine VW.seq ?_
            refine VW.region ?_
            refine VR.p rfl rfl (VP.loadP (i := 0) rfl rfl ld23 rfl) ?_
            refine VR.cons rfl rfl (VO.storeP (i := 2) rfl rfl rfl ld23 rfl rfl rfl ?_)
            refine VR.p rfl rfl (VP.assign rfl) ?_
            refine VR.nil ?_
            obtain rfl := Option.some.inj hm
            exact VW.ret ⟨.inl rfl, _, .cons (.cell _ _ _ _ 2 _ _ _ _ rfl rfl ld23 rfl) (.cons (.tmp _ _ rfl) .nil), [], _, rfl, rfl, rfl⟩
          · have h76 := bf h76
            refine VW.condF rfl h76 ?_
            refine VW.skip ?_
            refine VW.seq ?_
            refine VW.region ?_
            refine VR.p rfl rfl (VP.buildP pl23 rfl rfl) ?_
            refine VR.p rfl rfl (VP.move rfl) ?_
            refine VR.cons rfl rfl (VO.storeP (i := 2) rfl rfl rfl ld23 rfl rfl rfl ?_)
            refine VR.p rfl rfl (VP.assign rfl) ?_
            refine VR.nil ?_
            obtain rfl := Option.some.inj hm
            exact VW.ret ⟨.inl rfl, _, .cons (.cell _ _ _ _ 2 _ _ _ _ rfl rfl ld23 rfl) (.cons (.tmp _ _ rfl) .nil), [], _, rfl, rfl, rfl⟩

/-! trireme/res.Sub -/
def res_Sub (a : T_api_Res) (b : T_api_Res) : Option (T_api_Res × Int) :=
  (res_each_res_Sub_1 a b (11 : Int)).bind fun r =>
  some (r.1, r.2)
theorem res_Sub_ok (a : T_api_Res) (b : T_api_Res) (r : T_api_Res × Int) (hm : res_Sub a b = some r) :
    VC Try.prog 75 [T_api_Res.vv a, T_api_Res.vv b] [] (fun zx zH => zx = .tup [T_api_Res.vv r.1, .int .i64 r.2] ∧ zH = []) := by
  unfold res_Sub at hm
  refine VC.run (c := _) (rs := [.cell 4 23, .tmp 5]) Try.func75 rfl rfl rfl ?_
  refine VW.seq ?_
  refine VW.region ?_
  refine VR.cons rfl rfl (VO.box rfl rfl fun b2 => ?_)
  refine VR.cons rfl rfl (VO.box rfl rfl fun b3 => ?_)
  refine VR.cons rfl rfl (VO.alloc z23 fun b4 => ?_)
  refine VR.p rfl rfl (VP.assign rfl) ?_
  refine VR.nil ?_
  refine VW.seq ?_
  refine VW.region ?_
  refine VR.p rfl rfl (VP.loadP (i := 2) rfl rfl ld23 rfl) ?_
  refine VR.p rfl rfl (VP.loadP (i := 1) rfl rfl ld23 rfl) ?_
  obtain ⟨r, h4, hm⟩ := bnd hm
  refine VR.cons rfl rfl (VO.callK 0 rfl fn103 rfl (res_each_res_Sub_1_ok a b (11 : Int) r h4) fun _ _ h5 => ?_)
  obtain ⟨rfl, rfl⟩ := h5
  refine VR.p rfl rfl (VP.extract rfl rfl) ?_
  refine VR.p rfl rfl (VP.extract rfl rfl) ?_
  refine VR.cons rfl rfl (VO.storeP (i := 0) rfl rfl rfl ld23 rfl rfl rfl ?_)
  refine VR.p rfl rfl (VP.assign rfl) ?_
  refine VR.nil ?_
  obtain rfl := Option.some.inj hm
  exact VW.ret ⟨.inl rfl, _, .cons (.cell _ _ _ _ 0 _ _ _ _ rfl rfl ld23 rfl) (.cons (.tmp _ _ rfl) .nil), [], _, rfl, rfl, rfl⟩

/-! trireme/yard.Left -/
def yard_Left (m : T_api_Machine) (bs : List T_api_Bound) : Option T_api_Res :=
  (yard_Used bs m.Name).bind fun r =>
  if (r.2 != (0 : Int)) = true then
    some (⟨(0 : Int), (0 : Int), (0 : Int), (0 : Int), (0 : Int)⟩ : T_api_Res)
  else
    (res_Least r.1 m.Has).bind fun r2 =>
    (res_Sub m.Has r2).bind fun r3 =>
    some r3.1
theorem yard_Left_ok (m : T_api_Machine) (bs : List T_api_Bound) (r : T_api_Res) (hm : yard_Left m bs = some r) :
    VC Try.prog 30 [T_api_Machine.vv m, .list 49 (List.map T_api_Bound.vv bs)] [] (fun zx zH => zx = T_api_Res.vv r ∧ zH = []) := by
  unfold yard_Left at hm
  refine VC.run (c := _) (rs := [.cell 4 23]) Try.func30 rfl rfl rfl ?_
  refine VW.seq ?_
  refine VW.region ?_
  refine VR.cons rfl rfl (VO.box rfl rfl fun b => ?_)
  refine VR.cons rfl rfl (VO.alloc z23 fun b2 => ?_)
  refine VR.nil ?_
  refine VW.seq ?_
  refine VW.region ?_
  refine VR.p rfl rfl (VP.move rfl) ?_
  refine VR.p rfl rfl (VP.fieldP rfl fa27_0) ?_
  refine VR.p rfl rfl (VP.loadP (i := 1) rfl rfl ld9 rfl) ?_
  obtain ⟨r, h3, hm⟩ := bnd hm
  refine VR.cons rfl rfl (VO.callK 0 rfl fn29 rfl (yard_Used_ok bs m.Name r h3) fun _ _ h19 => ?_)
  obtain ⟨rfl, rfl⟩ := h19
  refine VR.p rfl rfl (VP.move rfl) ?_
  refine VR.p rfl rfl (VP.extract rfl rfl) ?_
  refine VR.p rfl rfl (VP.extract rfl rfl) ?_
  refine VR.cons rfl rfl (VO.alloc z23 fun b3 => ?_)
  refine VR.cons rfl rfl (VO.storeP (i := 0) rfl rfl rfl ld23 rfl rfl rfl ?_)
  refine VR.p rfl rfl (VP.assign rfl) ?_
  refine VR.nil ?_
  refine VW.seq ?_
  refine VW.seq ?_
  refine VW.region ?_
  refine VR.p rfl rfl (VP.move rfl) ?_
  refine VR.p rfl rfl (VP.arith rfl rfl rfl) ?_
  refine VR.nil ?_
  rcases ite_or hm with ⟨h5, hm⟩ | ⟨h5, hm⟩
  · refine VW.condT rfl h5 ?_
    refine VW.seq ?_
    refine VW.region ?_
    refine VR.p rfl rfl (VP.buildP pl23 rfl rfl) ?_
    refine VR.cons rfl rfl (VO.storeP (i := 1) rfl rfl rfl ld23 rfl rfl rfl ?_)
    refine VR.nil ?_
    obtain rfl := Option.some.inj hm
    exact VW.ret ⟨.inl rfl, _, .cons (.cell _ _ _ _ 1 _ _ _ _ rfl rfl ld23 rfl) .nil, [], _, rfl, rfl, rfl⟩
  · have h5 := bf h5
    refine VW.condF rfl h5 ?_
    refine VW.skip ?_
    refine VW.seq ?_
    refine VW.drawK 0 mixed ?_
    refine VA.p 0 rfl rfl rfl (by kernel_rfl) (VP.fieldP rfl fa27_2) ?_
    refine VA.p 1 rfl rfl rfl (by kernel_rfl) (VP.loadP (i := 2) rfl rfl ld23 rfl) ?_
    refine VA.p 2 rfl rfl rfl (by kernel_rfl) (VP.loadP (i := 0) rfl rfl ld23 rfl) ?_
    refine VA.p 3 rfl rfl rfl (by kernel_rfl) (VP.fieldP rfl fa27_2) ?_
    refine VA.p 4 rfl rfl rfl (by kernel_rfl) (VP.loadP (i := 2) rfl rfl ld23 rfl) ?_
    refine VA.all [5, 10] (by kernel_rfl) ⟨?_, ?_, trivial⟩
    · obtain ⟨r2, h6, hm⟩ := bnd hm
      refine VB.o rfl rfl rfl (VO.callK 0 rfl fn76 rfl (res_Least_ok r.1 m.Has r2 h6) fun _ _ h13 => ?_)
      obtain ⟨rfl, rfl⟩ := h13
      refine VA.all [6, 10] (by kernel_rfl) ⟨?_, ?_, trivial⟩
      · obtain ⟨r3, h7, hm⟩ := bnd hm
        refine VB.o rfl rfl rfl (VO.callK 0 rfl fn75 rfl (res_Sub_ok m.Has r2 r3 h7) fun _ _ h9 => ?_)
        obtain ⟨rfl, rfl⟩ := h9
        refine VA.p 7 rfl rfl rfl (by kernel_rfl) (VP.move rfl) ?_
        refine VA.p 8 rfl rfl rfl (by kernel_rfl) (VP.extract rfl rfl) ?_
        refine VA.p 9 rfl rfl rfl (by kernel_rfl) (VP.extract rfl rfl) ?_
        refine VA.all [10] (by kernel_rfl) ⟨?_, trivial⟩
        refine VB.o rfl rfl rfl (VO.alloc z23 fun b4 => ?_)
        refine VA.all [11] (by kernel_rfl) ⟨?_, trivial⟩
        refine VB.o rfl rfl rfl (VO.storeP (i := 0) rfl rfl rfl ld23 rfl rfl rfl ?_)
        refine VA.p 12 rfl rfl rfl (by kernel_rfl) (VP.assign rfl) ?_
        refine VA.done (by kernel_rfl) ?_
        refine VW.seq ?_
        refine VW.region ?_
        refine VR.p rfl rfl (VP.loadP (i := 0) rfl rfl ld23 rfl) ?_
        refine VR.cons rfl rfl (VO.storeP (i := 2) rfl rfl rfl ld23 rfl rfl rfl ?_)
        refine VR.nil ?_
        obtain rfl := Option.some.inj hm
        exact VW.ret ⟨.inl rfl, _, .cons (.cell _ _ _ _ 2 _ _ _ _ rfl rfl ld23 rfl) .nil, [], _, rfl, rfl, rfl⟩
      · refine VB.o rfl rfl rfl (VO.alloc z23 fun b5 => ?_)
        refine VA.all [6] (by kernel_rfl) ⟨?_, trivial⟩
        obtain ⟨r4, h11, hm⟩ := bnd hm
        refine VB.o rfl rfl rfl (VO.callK 0 rfl fn75 rfl (res_Sub_ok m.Has r2 r4 h11) fun _ _ h12 => ?_)
        obtain ⟨rfl, rfl⟩ := h12
        refine VA.p 7 rfl rfl rfl (by kernel_rfl) (VP.move rfl) ?_
        refine VA.p 8 rfl rfl rfl (by kernel_rfl) (VP.extract rfl rfl) ?_
        refine VA.p 9 rfl rfl rfl (by kernel_rfl) (VP.extract rfl rfl) ?_
        refine VA.all [11] (by kernel_rfl) ⟨?_, trivial⟩
        refine VB.o rfl rfl rfl (VO.storeP (i := 0) rfl rfl rfl ld23 rfl rfl rfl ?_)
        refine VA.p 12 rfl rfl rfl (by kernel_rfl) (VP.assign rfl) ?_
        refine VA.done (by kernel_rfl) ?_
        refine VW.seq ?_
        refine VW.region ?_
        refine VR.p rfl rfl (VP.loadP (i := 0) rfl rfl ld23 rfl) ?_
        refine VR.cons rfl rfl (VO.storeP (i := 2) rfl rfl rfl ld23 rfl rfl rfl ?_)
        refine VR.nil ?_
        obtain rfl := Option.some.inj hm
        exact VW.ret ⟨.inl rfl, _, .cons (.cell _ _ _ _ 2 _ _ _ _ rfl rfl ld23 rfl) .nil, [], _, rfl, rfl, rfl⟩
    · refine VB.o rfl rfl rfl (VO.alloc z23 fun b6 => ?_)
      refine VA.all [5] (by kernel_rfl) ⟨?_, trivial⟩
      obtain ⟨r5, h15, hm⟩ := bnd hm
      refine VB.o rfl rfl rfl (VO.callK 0 rfl fn76 rfl (res_Least_ok r.1 m.Has r5 h15) fun _ _ h18 => ?_)
      obtain ⟨rfl, rfl⟩ := h18
      refine VA.all [6] (by kernel_rfl) ⟨?_, trivial⟩
      obtain ⟨r6, h16, hm⟩ := bnd hm
      refine VB.o rfl rfl rfl (VO.callK 0 rfl fn75 rfl (res_Sub_ok m.Has r5 r6 h16) fun _ _ h17 => ?_)
      obtain ⟨rfl, rfl⟩ := h17
      refine VA.p 7 rfl rfl rfl (by kernel_rfl) (VP.move rfl) ?_
      refine VA.p 8 rfl rfl rfl (by kernel_rfl) (VP.extract rfl rfl) ?_
      refine VA.p 9 rfl rfl rfl (by kernel_rfl) (VP.extract rfl rfl) ?_
      refine VA.all [11] (by kernel_rfl) ⟨?_, trivial⟩
      refine VB.o rfl rfl rfl (VO.storeP (i := 0) rfl rfl rfl ld23 rfl rfl rfl ?_)
      refine VA.p 12 rfl rfl rfl (by kernel_rfl) (VP.assign rfl) ?_
      refine VA.done (by kernel_rfl) ?_
      refine VW.seq ?_
      refine VW.region ?_
      refine VR.p rfl rfl (VP.loadP (i := 0) rfl rfl ld23 rfl) ?_
      refine VR.cons rfl rfl (VO.storeP (i := 2) rfl rfl rfl ld23 rfl rfl rfl ?_)
      refine VR.nil ?_
      obtain rfl := Option.some.inj hm
      exact VW.ret ⟨.inl rfl, _, .cons (.cell _ _ _ _ 2 _ _ _ _ rfl rfl ld23 rfl) .nil, [], _, rfl, rfl, rfl⟩

/-! trireme/yard.Find$1 -/
def yard_Find_1 (i : Int) (a : List T_api_Machine) (a2 : ByteArray) : Option Bool :=
  (V.gl a i).bind fun x =>
  some (V.seq x.Name a2)
theorem yard_Find_1_ok (i : Int) (a : List T_api_Machine) (a2 : ByteArray) (b : Nat) (b2 : Nat) (r : Bool) (hm : yard_Find_1 i a a2 = some r) :
    VC Try.prog 77 [.int .i64 i, .ptr b 0, .ptr b2 0] [.box b 37 [.list 27 (List.map T_api_Machine.vv a)], .box b2 9 [.str a2]] (fun zx zH => zx = .bool r ∧ zH = [.box b 37 [.list 27 (List.map T_api_Machine.vv a)], .box b2 9 [.str a2]]) := by
  unfold yard_Find_1 at hm
  refine VC.run (c := _) (rs := [.tmp 4]) Try.func77 rfl rfl rfl ?_
  refine VW.seq ?_
  refine VW.region ?_
  refine VR.p rfl rfl (VP.assign rfl) ?_
  refine VR.nil ?_
  refine VW.seq ?_
  refine VW.drawK 0 mixed ?_
  refine VA.p 0 rfl rfl rfl (by kernel_rfl) (VP.loadP (i := 0) rfl rfl ld37 rfl) ?_
  refine VA.p 1 rfl rfl rfl (by kernel_rfl) (VP.move rfl) ?_
  obtain ⟨x, h1, hm⟩ := bnd hm
  refine VA.p 2 rfl rfl rfl (by kernel_rfl) (VP.glE T_api_Machine.vv rfl rfl el37 h1) ?_
  refine VA.p 3 rfl rfl rfl (by kernel_rfl) (VP.fieldE rfl fa27_0) ?_
  refine VA.p 4 rfl rfl rfl (by kernel_rfl) (VP.loadE rfl ld9 rfl) ?_
  refine VA.p 5 rfl rfl rfl (by kernel_rfl) (VP.loadP (i := 1) rfl rfl ld9 rfl) ?_
  refine VA.p 6 rfl rfl rfl (by kernel_rfl) (VP.strop rfl rfl rfl) ?_
  refine VA.p 7 rfl rfl rfl (by kernel_rfl) (VP.assign rfl) ?_
  refine VA.done (by kernel_rfl) ?_
  obtain rfl := Option.some.inj hm
  exact VW.ret ⟨.inl rfl, _, .cons (.tmp _ _ rfl) .nil, [0, 0], _, rfl, rfl, rfl⟩

/-! trireme/yard.first -/
def yard_first_yard_Find_1.l1 (n : Int) (c : List T_api_Machine) (c2 : ByteArray) : Nat → Int → Option (Out Int Unit)
  | 0, _ => none
  | n2 + 1, v2 =>
    if (decide (v2 < n)) = true then
      (yard_Find_1 v2 c c2).bind fun r =>
      if r = true then
        some (Out.ret v2)
      else
        yard_first_yard_Find_1.l1 n c c2 n2 (IntKind.i64.wrap (v2 + (1 : Int)))
    else
      some (Out.go ())
def yard_first_yard_Find_1 (n : Int) (c : List T_api_Machine) (c2 : ByteArray) : Option Int :=
  (yard_first_yard_Find_1.l1 n c c2 FU (0 : Int)).bind fun o =>
  o.on fun j =>
  some (-1 : Int)
theorem yard_first_yard_Find_1_ok (n : Int) (c : List T_api_Machine) (c2 : ByteArray) (b : Nat) (b2 : Nat) (r : Int) (hm : yard_first_yard_Find_1 n c c2 = some r) :
    VC Try.prog 66 [.int .i64 n, .clo (.func 77) [] [.ptr b 0, .ptr b2 0]] [.box b 37 [.list 27 (List.map T_api_Machine.vv c)], .box b2 9 [.str c2]] (fun zx zH => zx = .int .i64 r ∧ zH = [.box b 37 [.list 27 (List.map T_api_Machine.vv c)], .box b2 9 [.str c2]]) := by
  unfold yard_first_yard_Find_1 at hm
  refine VC.run (c := _) (rs := [.tmp 4]) Try.func66 rfl rfl rfl ?_
  refine VW.seq ?_
  refine VW.region ?_
  refine VR.p rfl rfl (VP.assign rfl) ?_
  refine VR.nil ?_
  refine VW.seq ?_
  refine VW.seq ?_
  refine VW.region ?_
  refine VR.p rfl rfl (VP.move rfl) ?_
  refine VR.p rfl rfl (VP.move rfl) ?_
  refine VR.nil ?_
  obtain ⟨o, h1, h2⟩ := bnd hm
  refine VW.joinE (fun (q : Unit) => o = Out.go q) (fun (j : Unit) (gg : Unit) => []) (fun (j : Unit) (gg : Unit) => [.box b 37 [.list 27 (List.map T_api_Machine.vv c)], .box b2 9 [.str c2]]) ?_ ?_
  · have hm := h1
    refine VW.block (VW.loop FU ?_)
    refine VL.fuelS (R := _) (fun zn (zs : Int) => yard_first_yard_Find_1.l1 n c c2 zn zs) (fun (zs : Int) (zg : Unit) => [(1, .clo (.func 77) [] [.ptr b 0, .ptr b2 0]), (6, .int .i64 n), (7, .int .i64 zs)]) (fun (zs : Int) (zg : Unit) => [.box b 37 [.list 27 (List.map T_api_Machine.vv c)], .box b2 9 [.str c2]]) (0 : Int) () (fun zs => rfl) (Shift.pick [0, 0] rfl ⟨rfl, rfl, rfl, trivial⟩) h1 ?_
    rintro n2 v2 _ hm
    rw [yard_first_yard_Find_1.l1] at hm
    refine VW.seq ?_
    refine VW.region ?_
    refine VR.p rfl rfl (VP.arith rfl rfl rfl) ?_
    refine VR.nil ?_
    refine VW.seq ?_
    rcases ite_or hm with ⟨h3, hm⟩ | ⟨h3, hm⟩
    · refine VW.condT rfl h3 ?_
      refine VW.skip ?_
      refine VW.seq ?_
      refine VW.block ?_
      refine VW.seq ?_
      refine VW.region ?_
      refine VR.p rfl rfl (VP.move rfl) ?_
      refine VR.p rfl rfl (VP.assign rfl) ?_
      refine VR.nil ?_
      refine VW.seq ?_
      refine VW.region ?_
      refine VR.p rfl rfl (VP.move rfl) ?_
      refine VR.p rfl rfl (VP.move rfl) ?_
      obtain ⟨r, h4, hm⟩ := bnd hm
      refine VR.cons rfl rfl (VO.callK 2 rfl fn77 rfl (yard_Find_1_ok v2 c c2 b b2 r h4) fun _ _ h6 => ?_)
      obtain ⟨rfl, rfl⟩ := h6
      refine VR.nil ?_
      rcases ite_or hm with ⟨h5, hm⟩ | ⟨h5, hm⟩
      · refine VW.condT rfl h5 ?_
        refine VW.seq ?_
        refine VW.region ?_
        refine VR.p rfl rfl (VP.move rfl) ?_
        refine VR.p rfl rfl (VP.assign rfl) ?_
        refine VR.nil ?_
        obtain rfl := Option.some.inj hm
        have hm := Out.ret_on h2
        obtain rfl := Option.some.inj hm
        exact VW.ret ⟨.inl rfl, _, .cons (.tmp _ _ rfl) .nil, [0, 0], _, rfl, rfl, rfl⟩
      · have h5 := bf h5
        refine VW.condF rfl h5 ?_
        refine VW.skip ?_
        refine VW.region ?_
        refine VR.p rfl rfl (VP.arith rfl rfl rfl) ?_
        refine VR.p rfl rfl (VP.move rfl) ?_
        refine VR.nil ?_
        exact ⟨(IntKind.i64.wrap (v2 + (1 : Int))), (), hm, (Shift.pick [0, 0] rfl ⟨rfl, rfl, rfl, trivial⟩)⟩
    · have h3 := bf h3
      refine VW.condF rfl h3 ?_
      refine VW.exit ?_
      exact ⟨(), (), (Option.some.inj hm).symm, (Shift.pick [0, 0] rfl trivial)⟩
  · rintro j _ rfl
    have hm := Out.go_on h2
    refine VW.seq ?_
    refine VW.region ?_
    refine VR.p rfl rfl (VP.assign rfl) ?_
    refine VR.nil ?_
    obtain rfl := Option.some.inj hm
    exact VW.ret ⟨.inl rfl, _, .cons (.tmp _ _ rfl) .nil, [0, 0], _, rfl, rfl, rfl⟩

/-! trireme/yard.Find -/
def yard_Find (ms : List T_api_Machine) (name : ByteArray) : Option Int :=
  (yard_first_yard_Find_1 (ms.length : Int) ms name).bind fun r =>
  some r
theorem yard_Find_ok (ms : List T_api_Machine) (name : ByteArray) (r : Int) (hm : yard_Find ms name = some r) :
    VC Try.prog 33 [.list 27 (List.map T_api_Machine.vv ms), .str name] [] (fun zx zH => zx = .int .i64 r ∧ zH = []) := by
  unfold yard_Find at hm
  refine VC.run (c := _) (rs := [.tmp 4]) Try.func33 rfl rfl rfl ?_
  refine VW.seq ?_
  refine VW.region ?_
  refine VR.cons rfl rfl (VO.box rfl rfl fun b => ?_)
  refine VR.cons rfl rfl (VO.box rfl rfl fun b2 => ?_)
  refine VR.p rfl rfl (VP.assign rfl) ?_
  refine VR.nil ?_
  refine VW.seq ?_
  refine VW.region ?_
  refine VR.p rfl rfl (VP.loadP (i := 1) rfl rfl ld37 rfl) ?_
  refine VR.p rfl rfl (VP.lenT T_api_Machine.vv rfl Try.underlying37) ?_
  refine VR.p rfl rfl (VP.makeFunc rfl rfl) ?_
  obtain ⟨r, h3, hm⟩ := bnd hm
  refine VR.shift (Shift.mem [1, 0] rfl) ?_
  refine VR.cons rfl rfl (VO.callK 2 rfl fn66 rfl (yard_first_yard_Find_1_ok (ms.length : Int) ms name b b2 r h3) fun _ _ h4 => ?_)
  obtain ⟨rfl, rfl⟩ := h4
  refine VR.p rfl rfl (VP.assign rfl) ?_
  refine VR.nil ?_
  obtain rfl := Option.some.inj hm
  exact VW.ret ⟨.inl rfl, _, .cons (.tmp _ _ rfl) .nil, [], _, rfl, rfl, rfl⟩

/-! trireme/yard.Place$1 -/
def yard_Place_1 (i : Int) (a : List T_api_Bound) (a2 : ByteArray) : Option Bool :=
  (V.gl a i).bind fun x =>
  some (V.seq x.Pod.Name a2)
theorem yard_Place_1_ok (i : Int) (a : List T_api_Bound) (a2 : ByteArray) (b : Nat) (b2 : Nat) (r : Bool) (hm : yard_Place_1 i a a2 = some r) :
    VC Try.prog 94 [.int .i64 i, .ptr b 0, .ptr b2 0] [.box b 28 [.list 49 (List.map T_api_Bound.vv a)], .box b2 9 [.str a2]] (fun zx zH => zx = .bool r ∧ zH = [.box b 28 [.list 49 (List.map T_api_Bound.vv a)], .box b2 9 [.str a2]]) := by
  unfold yard_Place_1 at hm
  refine VC.run (c := _) (rs := [.tmp 4]) Try.func94 rfl rfl rfl ?_
  refine VW.seq ?_
  refine VW.region ?_
  refine VR.p rfl rfl (VP.assign rfl) ?_
  refine VR.nil ?_
  refine VW.seq ?_
  refine VW.drawK 0 mixed ?_
  refine VA.p 0 rfl rfl rfl (by kernel_rfl) (VP.loadP (i := 0) rfl rfl ld28 rfl) ?_
  refine VA.p 1 rfl rfl rfl (by kernel_rfl) (VP.move rfl) ?_
  obtain ⟨x, h1, hm⟩ := bnd hm
  refine VA.p 2 rfl rfl rfl (by kernel_rfl) (VP.glE T_api_Bound.vv rfl rfl el28 h1) ?_
  refine VA.p 3 rfl rfl rfl (by kernel_rfl) (VP.fieldE rfl fa49_0) ?_
  refine VA.p 4 rfl rfl rfl (by kernel_rfl) (VP.fieldE rfl fa33_0) ?_
  refine VA.p 5 rfl rfl rfl (by kernel_rfl) (VP.loadE rfl ld9 rfl) ?_
  refine VA.p 6 rfl rfl rfl (by kernel_rfl) (VP.loadP (i := 1) rfl rfl ld9 rfl) ?_
  refine VA.p 7 rfl rfl rfl (by kernel_rfl) (VP.strop rfl rfl rfl) ?_
  refine VA.p 8 rfl rfl rfl (by kernel_rfl) (VP.assign rfl) ?_
  refine VA.done (by kernel_rfl) ?_
  obtain rfl := Option.some.inj hm
  exact VW.ret ⟨.inl rfl, _, .cons (.tmp _ _ rfl) .nil, [0, 0], _, rfl, rfl, rfl⟩

/-! trireme/yard.first -/
def yard_first_yard_Place_1.l1 (n : Int) (c : List T_api_Bound) (c2 : ByteArray) : Nat → Int → Option (Out Int Unit)
  | 0, _ => none
  | n2 + 1, v2 =>
    if (decide (v2 < n)) = true then
      (yard_Place_1 v2 c c2).bind fun r =>
      if r = true then
        some (Out.ret v2)
      else
        yard_first_yard_Place_1.l1 n c c2 n2 (IntKind.i64.wrap (v2 + (1 : Int)))
    else
      some (Out.go ())
def yard_first_yard_Place_1 (n : Int) (c : List T_api_Bound) (c2 : ByteArray) : Option Int :=
  (yard_first_yard_Place_1.l1 n c c2 FU (0 : Int)).bind fun o =>
  o.on fun j =>
  some (-1 : Int)
theorem yard_first_yard_Place_1_ok (n : Int) (c : List T_api_Bound) (c2 : ByteArray) (b : Nat) (b2 : Nat) (r : Int) (hm : yard_first_yard_Place_1 n c c2 = some r) :
    VC Try.prog 66 [.int .i64 n, .clo (.func 94) [] [.ptr b 0, .ptr b2 0]] [.box b 28 [.list 49 (List.map T_api_Bound.vv c)], .box b2 9 [.str c2]] (fun zx zH => zx = .int .i64 r ∧ zH = [.box b 28 [.list 49 (List.map T_api_Bound.vv c)], .box b2 9 [.str c2]]) := by
  unfold yard_first_yard_Place_1 at hm
  refine VC.run (c := _) (rs := [.tmp 4]) Try.func66 rfl rfl rfl ?_
  refine VW.seq ?_
  refine VW.region ?_
  refine VR.p rfl rfl (VP.assign rfl) ?_
  refine VR.nil ?_
  refine VW.seq ?_
  refine VW.seq ?_
  refine VW.region ?_
  refine VR.p rfl rfl (VP.move rfl) ?_
  refine VR.p rfl rfl (VP.move rfl) ?_
  refine VR.nil ?_
  obtain ⟨o, h1, h2⟩ := bnd hm
  refine VW.joinE (fun (q : Unit) => o = Out.go q) (fun (j : Unit) (gg : Unit) => []) (fun (j : Unit) (gg : Unit) => [.box b 28 [.list 49 (List.map T_api_Bound.vv c)], .box b2 9 [.str c2]]) ?_ ?_
  · have hm := h1
    refine VW.block (VW.loop FU ?_)
    refine VL.fuelS (R := _) (fun zn (zs : Int) => yard_first_yard_Place_1.l1 n c c2 zn zs) (fun (zs : Int) (zg : Unit) => [(1, .clo (.func 94) [] [.ptr b 0, .ptr b2 0]), (6, .int .i64 n), (7, .int .i64 zs)]) (fun (zs : Int) (zg : Unit) => [.box b 28 [.list 49 (List.map T_api_Bound.vv c)], .box b2 9 [.str c2]]) (0 : Int) () (fun zs => rfl) (Shift.pick [0, 0] rfl ⟨rfl, rfl, rfl, trivial⟩) h1 ?_
    rintro n2 v2 _ hm
    rw [yard_first_yard_Place_1.l1] at hm
    refine VW.seq ?_
    refine VW.region ?_
    refine VR.p rfl rfl (VP.arith rfl rfl rfl) ?_
    refine VR.nil ?_
    refine VW.seq ?_
    rcases ite_or hm with ⟨h3, hm⟩ | ⟨h3, hm⟩
    · refine VW.condT rfl h3 ?_
      refine VW.skip ?_
      refine VW.seq ?_
      refine VW.block ?_
      refine VW.seq ?_
      refine VW.region ?_
      refine VR.p rfl rfl (VP.move rfl) ?_
      refine VR.p rfl rfl (VP.assign rfl) ?_
      refine VR.nil ?_
      refine VW.seq ?_
      refine VW.region ?_
      refine VR.p rfl rfl (VP.move rfl) ?_
      refine VR.p rfl rfl (VP.move rfl) ?_
      obtain ⟨r, h4, hm⟩ := bnd hm
      refine VR.cons rfl rfl (VO.callK 2 rfl fn94 rfl (yard_Place_1_ok v2 c c2 b b2 r h4) fun _ _ h6 => ?_)
      obtain ⟨rfl, rfl⟩ := h6
      refine VR.nil ?_
      rcases ite_or hm with ⟨h5, hm⟩ | ⟨h5, hm⟩
      · refine VW.condT rfl h5 ?_
        refine VW.seq ?_
        refine VW.region ?_
        refine VR.p rfl rfl (VP.move rfl) ?_
        refine VR.p rfl rfl (VP.assign rfl) ?_
        refine VR.nil ?_
        obtain rfl := Option.some.inj hm
        have hm := Out.ret_on h2
        obtain rfl := Option.some.inj hm
        exact VW.ret ⟨.inl rfl, _, .cons (.tmp _ _ rfl) .nil, [0, 0], _, rfl, rfl, rfl⟩
      · have h5 := bf h5
        refine VW.condF rfl h5 ?_
        refine VW.skip ?_
        refine VW.region ?_
        refine VR.p rfl rfl (VP.arith rfl rfl rfl) ?_
        refine VR.p rfl rfl (VP.move rfl) ?_
        refine VR.nil ?_
        exact ⟨(IntKind.i64.wrap (v2 + (1 : Int))), (), hm, (Shift.pick [0, 0] rfl ⟨rfl, rfl, rfl, trivial⟩)⟩
    · have h3 := bf h3
      refine VW.condF rfl h3 ?_
      refine VW.exit ?_
      exact ⟨(), (), (Option.some.inj hm).symm, (Shift.pick [0, 0] rfl trivial)⟩
  · rintro j _ rfl
    have hm := Out.go_on h2
    refine VW.seq ?_
    refine VW.region ?_
    refine VR.p rfl rfl (VP.assign rfl) ?_
    refine VR.nil ?_
    obtain rfl := Option.some.inj hm
    exact VW.ret ⟨.inl rfl, _, .cons (.tmp _ _ rfl) .nil, [0, 0], _, rfl, rfl, rfl⟩

/-! trireme/yard.Place -/
def yard_Place (bs : List T_api_Bound) (name : ByteArray) : Option Int :=
  (yard_first_yard_Place_1 (bs.length : Int) bs name).bind fun r =>
  some r
theorem yard_Place_ok (bs : List T_api_Bound) (name : ByteArray) (r : Int) (hm : yard_Place bs name = some r) :
    VC Try.prog 62 [.list 49 (List.map T_api_Bound.vv bs), .str name] [] (fun zx zH => zx = .int .i64 r ∧ zH = []) := by
  unfold yard_Place at hm
  refine VC.run (c := _) (rs := [.tmp 4]) Try.func62 rfl rfl rfl ?_
  refine VW.seq ?_
  refine VW.region ?_
  refine VR.cons rfl rfl (VO.box rfl rfl fun b => ?_)
  refine VR.cons rfl rfl (VO.box rfl rfl fun b2 => ?_)
  refine VR.p rfl rfl (VP.assign rfl) ?_
  refine VR.nil ?_
  refine VW.seq ?_
  refine VW.region ?_
  refine VR.p rfl rfl (VP.loadP (i := 1) rfl rfl ld28 rfl) ?_
  refine VR.p rfl rfl (VP.lenT T_api_Bound.vv rfl Try.underlying28) ?_
  refine VR.p rfl rfl (VP.makeFunc rfl rfl) ?_
  obtain ⟨r, h3, hm⟩ := bnd hm
  refine VR.shift (Shift.mem [1, 0] rfl) ?_
  refine VR.cons rfl rfl (VO.callK 2 rfl fn66 rfl (yard_first_yard_Place_1_ok (bs.length : Int) bs name b b2 r h3) fun _ _ h4 => ?_)
  obtain ⟨rfl, rfl⟩ := h4
  refine VR.p rfl rfl (VP.assign rfl) ?_
  refine VR.nil ?_
  obtain rfl := Option.some.inj hm
  exact VW.ret ⟨.inl rfl, _, .cons (.tmp _ _ rfl) .nil, [], _, rfl, rfl, rfl⟩

/-! trireme/labels.at -/
def labels_at.l1 (key : ByteArray) : List T_api_Label → Nat → Option (Out (Int × Bool) Unit)
  | [], k => some (Out.go ())
  | x :: l2, k =>
    if (!(V.slt x.Key key)) = true then
      some (Out.ret ((k : Int), (V.seq x.Key key)))
    else
      labels_at.l1 key l2 (k + 1)
def labels_at (l : List T_api_Label) (key : ByteArray) : Option (Int × Bool) :=
  (labels_at.l1 key l 0).bind fun o =>
  o.on fun j =>
  some ((l.length : Int), false)
theorem labels_at_ok (l : List T_api_Label) (key : ByteArray) (r : Int × Bool) (hm : labels_at l key = some r) :
    VC Try.prog 111 [.list 79 (List.map T_api_Label.vv l), .str key] [] (fun zx zH => zx = .tup [.int .i64 r.1, .bool r.2] ∧ zH = []) := by
  unfold labels_at at hm
  refine VC.run (c := _) (rs := [.tmp 4, .tmp 5]) Try.func111 rfl rfl rfl ?_
  refine VW.seq ?_
  refine VW.region ?_
  refine VR.p rfl rfl (VP.assign rfl) ?_
  refine VR.p rfl rfl (VP.assign rfl) ?_
  refine VR.nil ?_
  refine VW.seq ?_
  refine VW.seq ?_
  refine VW.region ?_
  refine VR.p rfl rfl (VP.move rfl) ?_
  refine VR.p rfl rfl (VP.lenT T_api_Label.vv rfl Try.underlying24) ?_
  refine VR.p rfl rfl (VP.move rfl) ?_
  refine VR.nil ?_
  refine VW.lenL 0 rfl fun h3 => ?_
  have h3 := max_map h3
  obtain ⟨o, h1, h2⟩ := bnd hm
  refine VW.joinE (fun (q : Unit) => o = Out.go q) (fun (j : Unit) (gg : Unit) => [(0, .list 79 (List.map T_api_Label.vv l))]) (fun (j : Unit) (gg : Unit) => []) ?_ ?_
  · have hm := h1
    refine VW.block (VW.loop (l.length + 1) ?_)
    refine VL.eachS (l := l) (R := _) (fun zl zk (zs : Unit) => labels_at.l1 key zl zk) (fun (k : Nat) (zs : Unit) (zg : Unit) => [(0, .list 79 (List.map T_api_Label.vv l)), (1, .str key), (8, .list 79 (List.map T_api_Label.vv l)), (9, .int .i64 (l.length : Int)), (10, .int .i64 (k : Int))]) (fun (k : Nat) (zs : Unit) (zg : Unit) => []) () () (Shift.pick [] rfl ⟨rfl, rfl, rfl, rfl, rfl, trivial⟩) h1 ?_ ?_
    · rintro k _ _ hk hm
      rw [labels_at.l1] at hm
      refine VW.seq ?_
      refine VW.region ?_
      refine VR.p rfl rfl (VP.arith rfl rfl rfl) ?_
      refine VR.nil ?_
      refine VW.seq ?_
      refine VW.condF rfl (k_end hk) ?_
      refine VW.exit ?_
      exact ⟨(), (), (Option.some.inj hm).symm, (Shift.pick [] rfl ⟨rfl, trivial⟩)⟩
    · rintro k x l2 _ _ h4 hm
      rw [labels_at.l1] at hm
      refine VW.seq ?_
      refine VW.region ?_
      refine VR.p rfl rfl (VP.arith rfl rfl rfl) ?_
      refine VR.nil ?_
      refine VW.seq ?_
      refine VW.condT rfl (k_lt h4) ?_
      refine VW.skip ?_
      refine VW.seq ?_
      refine VW.block ?_
      refine VW.seq ?_
      refine VW.region ?_
      refine VR.p rfl rfl (VP.move rfl) ?_
      refine VR.p rfl rfl (VP.glK T_api_Label.vv rfl rfl el24 h4) ?_
      refine VR.p rfl rfl (VP.loadE rfl ld79 rfl) ?_
      refine VR.cons rfl rfl (VO.alloc z79 fun b => ?_)
      refine VR.p rfl rfl (VP.assign rfl) ?_
      refine VR.cons rfl rfl (VO.storeP (i := 0) rfl rfl rfl ld79 rfl rfl rfl ?_)
      refine VR.nil ?_
      refine VW.seq ?_
      refine VW.region ?_
      refine VR.p rfl rfl (VP.fieldP rfl fa79_0) ?_
      refine VR.p rfl rfl (VP.loadP (i := 0) rfl rfl ld9 rfl) ?_
      refine VR.p rfl rfl (VP.move rfl) ?_
      refine VR.p rfl rfl (VP.strop rfl rfl rfl) ?_
      refine VR.nil ?_
      rcases ite_or hm with ⟨h6, hm⟩ | ⟨h6, hm⟩
      · refine VW.condT rfl h6 ?_
        refine VW.seq ?_
        refine VW.drawK 0 mixed ?_
        refine VA.p 0 rfl rfl rfl (by kernel_rfl) (VP.move rfl) ?_
        refine VA.p 1 rfl rfl rfl (by kernel_rfl) (VP.fieldP rfl fa79_0) ?_
        refine VA.p 2 rfl rfl rfl (by kernel_rfl) (VP.loadP (i := 0) rfl rfl ld9 rfl) ?_
        refine VA.p 3 rfl rfl rfl (by kernel_rfl) (VP.move rfl) ?_
        refine VA.p 4 rfl rfl rfl (by kernel_rfl) (VP.strop rfl rfl rfl) ?_
        refine VA.p 5 rfl rfl rfl (by kernel_rfl) (VP.assign rfl) ?_
        refine VA.p 6 rfl rfl rfl (by kernel_rfl) (VP.assign rfl) ?_
        refine VA.done (by kernel_rfl) ?_
        obtain rfl := Option.some.inj hm
        have hm := Out.ret_on h2
        obtain rfl := Option.some.inj hm
        exact VW.ret ⟨.inl rfl, _, .cons (.tmp _ _ rfl) (.cons (.tmp _ _ rfl) .nil), [], _, rfl, rfl, rfl⟩
      · have h6 := bf h6
        refine VW.condF rfl h6 ?_
        refine VW.skip ?_
        refine VW.region ?_
        refine VR.p rfl rfl (VP.arith rfl rfl rfl) ?_
        refine VR.p rfl rfl (VP.move rfl) ?_
        refine VR.nil ?_
        exact ⟨(), (), hm, (Shift.pick [] rfl ⟨rfl, rfl, rfl, rfl, congrArg some (k_next h4 h3), trivial⟩)⟩
  · rintro j _ rfl
    have hm := Out.go_on h2
    refine VW.seq ?_
    refine VW.region ?_
    refine VR.p rfl rfl (VP.move rfl) ?_
    refine VR.p rfl rfl (VP.lenT T_api_Label.vv rfl Try.underlying24) ?_
    refine VR.p rfl rfl (VP.assign rfl) ?_
    refine VR.p rfl rfl (VP.assign rfl) ?_
    refine VR.nil ?_
    obtain rfl := Option.some.inj hm
    exact VW.ret ⟨.inl rfl, _, .cons (.tmp _ _ rfl) (.cons (.tmp _ _ rfl) .nil), [], _, rfl, rfl, rfl⟩

/-! trireme/labels.Get -/
def labels_Get (l : List T_api_Label) (key : ByteArray) : Option (ByteArray × Bool) :=
  (labels_at l key).bind fun r =>
  if (!r.2) = true then
    some ((⟨#[]⟩ : ByteArray), false)
  else
    (V.gl l r.1).bind fun x =>
    some (x.Val, true)
theorem labels_Get_ok (l : List T_api_Label) (key : ByteArray) (r : ByteArray × Bool) (hm : labels_Get l key = some r) :
    VC Try.prog 91 [.list 79 (List.map T_api_Label.vv l), .str key] [] (fun zx zH => zx = .tup [.str r.1, .bool r.2] ∧ zH = []) := by
  unfold labels_Get at hm
  refine VC.run (c := _) (rs := [.tmp 4, .tmp 5]) Try.func91 rfl rfl rfl ?_
  refine VW.seq ?_
  refine VW.region ?_
  refine VR.p rfl rfl (VP.assign rfl) ?_
  refine VR.p rfl rfl (VP.assign rfl) ?_
  refine VR.nil ?_
  refine VW.seq ?_
  refine VW.region ?_
  refine VR.p rfl rfl (VP.move rfl) ?_
  refine VR.p rfl rfl (VP.move rfl) ?_
  obtain ⟨r, h1, hm⟩ := bnd hm
  refine VR.cons rfl rfl (VO.callK 0 rfl fn111 rfl (labels_at_ok l key r h1) fun _ _ h4 => ?_)
  obtain ⟨rfl, rfl⟩ := h4
  refine VR.p rfl rfl (VP.move rfl) ?_
  refine VR.p rfl rfl (VP.extract rfl rfl) ?_
  refine VR.p rfl rfl (VP.extract rfl rfl) ?_
  refine VR.p rfl rfl (VP.assign rfl) ?_
  refine VR.p rfl rfl (VP.assign rfl) ?_
  refine VR.nil ?_
  refine VW.seq ?_
  refine VW.seq ?_
  refine VW.region ?_
  refine VR.p rfl rfl (VP.move rfl) ?_
  refine VR.p rfl rfl (VP.not rfl) ?_
  refine VR.nil ?_
  rcases ite_or hm with ⟨h2, hm⟩ | ⟨h2, hm⟩
  · refine VW.condT rfl h2 ?_
    refine VW.seq ?_
    refine VW.region ?_
    refine VR.p rfl rfl (VP.assign rfl) ?_
    refine VR.p rfl rfl (VP.assign rfl) ?_
    refine VR.nil ?_
    obtain rfl := Option.some.inj hm
    exact VW.ret ⟨.inl rfl, _, .cons (.tmp _ _ rfl) (.cons (.tmp _ _ rfl) .nil), [], _, rfl, rfl, rfl⟩
  · have h2 := bf h2
    refine VW.condF rfl h2 ?_
    refine VW.skip ?_
    refine VW.seq ?_
    refine VW.region ?_
    refine VR.p rfl rfl (VP.move rfl) ?_
    refine VR.p rfl rfl (VP.move rfl) ?_
    obtain ⟨x, h3, hm⟩ := bnd hm
    refine VR.p rfl rfl (VP.glE T_api_Label.vv rfl rfl el24 h3) ?_
    refine VR.p rfl rfl (VP.fieldE rfl fa79_1) ?_
    refine VR.p rfl rfl (VP.loadE rfl ld9 rfl) ?_
    refine VR.p rfl rfl (VP.assign rfl) ?_
    refine VR.p rfl rfl (VP.assign rfl) ?_
    refine VR.nil ?_
    obtain rfl := Option.some.inj hm
    exact VW.ret ⟨.inl rfl, _, .cons (.tmp _ _ rfl) (.cons (.tmp _ _ rfl) .nil), [], _, rfl, rfl, rfl⟩

/-! trireme/yard.Zones -/
def yard_Zones.l1 : List T_api_Machine → Nat → (List (ByteArray × Int)) → (List ByteArray) → Option (List ByteArray)
  | [], k, had2, l2 => some l2
  | x :: l4, k, had2, l2 =>
    (labels_Get x.Labels (⟨#[122, 111, 110, 101]⟩ : ByteArray)).bind fun r =>
    if ((!r.2) || (!x.Ready)) = true then
      yard_Zones.l1 l4 (k + 1) had2 l2
    else
      if (((V.mg (V.mp had2 r.1 (IntKind.i64.wrap (((V.mg had2 r.1).getD (0 : Int)) + (1 : Int)))) r.1).getD (0 : Int)) == (1 : Int)) = true then
        (V.ap 16 l2 [r.1]).bind fun l5 =>
        yard_Zones.l1 l4 (k + 1) (V.mp had2 r.1 (IntKind.i64.wrap (((V.mg had2 r.1).getD (0 : Int)) + (1 : Int)))) l5
      else
        yard_Zones.l1 l4 (k + 1) (V.mp had2 r.1 (IntKind.i64.wrap (((V.mg had2 r.1).getD (0 : Int)) + (1 : Int)))) l2
def yard_Zones (ms : List T_api_Machine) : Option (List ByteArray) :=
  (yard_Zones.l1 ms 0 ([] : List (ByteArray × Int)) ([] : List ByteArray)).bind fun l32 =>
  some l32
theorem yard_Zones_ok (ms : List T_api_Machine) (r : List ByteArray) (hm : yard_Zones ms = some r) :
    VC Try.prog 64 [.list 27 (List.map T_api_Machine.vv ms)] [] (fun zx zH => ∃ (ob0 : Option Nat) (cap0 : Nat), zx = .sl ob0 (List.map VV.str r).length cap0 ∧ zH = [.row ob0 9 cap0 (List.map VV.str r)]) := by
  unfold yard_Zones at hm
  refine VC.run (c := _) (rs := [.tmp 2]) Try.func64 rfl rfl rfl ?_
  refine VW.seq ?_
  refine VW.region ?_
  refine VR.p rfl rfl (VP.assign rfl) ?_
  refine VR.nil ?_
  refine VW.seq ?_
  refine VW.region ?_
  refine VR.cons rfl rfl (VO.makeMap fun b => ?_)
  refine VR.p rfl rfl (VP.assign rfl) ?_
  refine VR.nil ?_
  refine VW.seq ?_
  refine VW.region ?_
  refine VR.p rfl rfl (VP.assign rfl) ?_
  refine VR.nil ?_
  refine VW.seq ?_
  refine VW.seq ?_
  refine VW.region ?_
  refine VR.p rfl rfl (VP.move rfl) ?_
  refine VR.p rfl rfl (VP.lenT T_api_Machine.vv rfl Try.underlying37) ?_
  refine VR.p rfl rfl (VP.move rfl) ?_
  refine VR.nil ?_
  refine VW.lenL 10 rfl fun h6 => ?_
  have h6 := max_map h6
  obtain ⟨o, h4, h5⟩ := bnd hm
  refine VW.joinE (fun (q : List ByteArray) => q = o) (fun (l32 : List ByteArray) (gg : Option Nat × Nat) => [(4, .sl gg.1 (List.map VV.str l32).length gg.2)]) (fun (l32 : List ByteArray) (gg : Option Nat × Nat) => [.row gg.1 9 gg.2 (List.map VV.str l32)]) ?_ ?_
  · have hm := h4
    refine VW.block (VW.loop (ms.length + 1) ?_)
    refine VL.eachS (l := ms) (R := _) (fun zl zk (zs : List (ByteArray × Int) × List ByteArray) => yard_Zones.l1 zl zk zs.1 zs.2) (fun (k : Nat) (zs : List (ByteArray × Int) × List ByteArray) (zg : Option Nat × Nat) => [(3, .map b), (4, .sl zg.1 (List.map VV.str zs.2).length zg.2), (10, .list 27 (List.map T_api_Machine.vv ms)), (11, .int .i64 (ms.length : Int)), (12, .int .i64 (k : Int))]) (fun (k : Nat) (zs : List (ByteArray × Int) × List ByteArray) (zg : Option Nat × Nat) => [.row zg.1 9 zg.2 (List.map VV.str zs.2), .map b (List.map (pf VV.str (VV.int .i64)) zs.1)]) (([] : List (ByteArray × Int)), ([] : List ByteArray)) (none, 0) (Shift.trans (Shift.nilRow 9) (Shift.pick [0, 0] rfl ⟨rfl, rfl, rfl, rfl, rfl, trivial⟩)) h4 ?_ ?_
    · rintro k ⟨had2, l2⟩ ⟨ob2, cap2⟩ hk hm
      rw [yard_Zones.l1] at hm
      refine VW.seq ?_
      refine VW.region ?_
      refine VR.p rfl rfl (VP.arith rfl rfl rfl) ?_
      refine VR.nil ?_
      refine VW.seq ?_
      refine VW.condF rfl (k_end hk) ?_
      refine VW.exit ?_
      exact ⟨l2, (ob2, cap2), Option.some.inj hm, (Shift.pick [0] rfl ⟨rfl, trivial⟩)⟩
    · rintro k x l4 ⟨had2, l2⟩ ⟨ob2, cap2⟩ h7 hm
      rw [yard_Zones.l1] at hm
      refine VW.seq ?_
      refine VW.region ?_
      refine VR.p rfl rfl (VP.arith rfl rfl rfl) ?_
      refine VR.nil ?_
      refine VW.seq ?_
      refine VW.condT rfl (k_lt h7) ?_
      refine VW.skip ?_
      refine VW.seq ?_
      refine VW.block ?_
      refine VW.seq ?_
      refine VW.region ?_
      refine VR.p rfl rfl (VP.glK T_api_Machine.vv rfl rfl el37 h7) ?_
      refine VR.p rfl rfl (VP.loadE rfl ld27 rfl) ?_
      refine VR.cons rfl rfl (VO.alloc z27 fun b2 => ?_)
      refine VR.cons rfl rfl (VO.storeP (i := 0) rfl rfl rfl ld27 rfl rfl rfl ?_)
      refine VR.nil ?_
      refine VW.seq ?_
      refine VW.region ?_
      refine VR.p rfl rfl (VP.fieldP rfl fa27_3) ?_
      refine VR.p rfl rfl (VP.loadP (i := 0) rfl rfl ld24 rfl) ?_
      obtain ⟨r, h9, hm⟩ := bnd hm
      refine VR.cons rfl rfl (VO.callK 0 rfl fn91 rfl (labels_Get_ok x.Labels (⟨#[122, 111, 110, 101]⟩ : ByteArray) r h9) fun _ _ h15 => ?_)
      obtain ⟨rfl, rfl⟩ := h15
      refine VR.p rfl rfl (VP.move rfl) ?_
      refine VR.p rfl rfl (VP.extract rfl rfl) ?_
      refine VR.p rfl rfl (VP.extract rfl rfl) ?_
      refine VR.p rfl rfl (VP.assign rfl) ?_
      refine VR.p rfl rfl (VP.assign rfl) ?_
      refine VR.nil ?_
      refine VW.seq ?_
      refine VW.seq ?_
      refine VW.region ?_
      refine VR.p rfl rfl (VP.move rfl) ?_
      refine VR.p rfl rfl (VP.not rfl) ?_
      refine VR.p rfl rfl (VP.move rfl) ?_
      refine VR.sc 4 28 (.bool ((!r.2) || (!x.Ready))) (fun K' J => ?_) ?_
      · rcases Bool.eq_false_or_eq_true (!r.2) with h10 | h10
        · refine VR.skipG rfl rfl rfl rfl h10 ?_
          refine VR.skipG rfl rfl rfl rfl h10 ?_
          refine VR.skipG rfl rfl rfl rfl h10 ?_
          refine VR.p rfl rfl (VP.pickB true rfl h10 rfl) ?_
          exact J [_, _, _] _ rfl (orT h10)
        · refine VR.pG rfl rfl rfl rfl h10 (VP.fieldP rfl fa27_5) ?_
          refine VR.pG rfl rfl rfl rfl h10 (VP.loadP (i := 0) rfl rfl ld4 rfl) ?_
          refine VR.pG rfl rfl rfl rfl h10 (VP.not rfl) ?_
          refine VR.p rfl rfl (VP.pickB false rfl h10 rfl) ?_
          exact J [_, _, _] _ rfl (orF h10)
      · refine VR.nil ?_
        rcases ite_or hm with ⟨h11, hm⟩ | ⟨h11, hm⟩
        · refine VW.condT rfl h11 ?_
          refine VW.exit ?_
          refine VW.region ?_
          refine VR.p rfl rfl (VP.arith rfl rfl rfl) ?_
          refine VR.p rfl rfl (VP.move rfl) ?_
          refine VR.nil ?_
          exact ⟨(had2, l2), (ob2, cap2), hm, (Shift.pick [1, 1] rfl ⟨rfl, rfl, rfl, rfl, congrArg some (k_next h7 h6), trivial⟩)⟩
        · have h11 := bf h11
          refine VW.condF rfl h11 ?_
          refine VW.skip ?_
          refine VW.seq ?_
          refine VW.region ?_
          refine VR.p rfl rfl (VP.move rfl) ?_
          refine VR.p rfl rfl (VP.move rfl) ?_
          refine VR.p rfl rfl (VP.lookup 2 (kf := VV.str) (vf := (VV.int .i64)) (l := had2) (k := r.1) (z := (0 : Int)) false mk9 Try.underlying90 rfl rfl rfl zc3 rfl) ?_
          refine VR.p rfl rfl (VP.arith rfl rfl rfl) ?_
          refine VR.cons rfl rfl (VO.mapUpdate 2 (kf := VV.str) (vf := (VV.int .i64)) (l := had2) (k := r.1) (z := (IntKind.i64.wrap (((V.mg had2 r.1).getD (0 : Int)) + (1 : Int)))) mk9 Try.underlying90 rfl rfl rfl rfl ?_)
          refine VR.nil ?_
          refine VW.seq ?_
          refine VW.region ?_
          refine VR.p rfl rfl (VP.move rfl) ?_
          refine VR.p rfl rfl (VP.move rfl) ?_
          refine VR.p rfl rfl (VP.lookup 2 (kf := VV.str) (vf := (VV.int .i64)) (l := (V.mp had2 r.1 (IntKind.i64.wrap (((V.mg had2 r.1).getD (0 : Int)) + (1 : Int))))) (k := r.1) (z := (0 : Int)) false mk9 Try.underlying90 rfl rfl rfl zc3 rfl) ?_
          refine VR.p rfl rfl (VP.arith rfl rfl rfl) ?_
          refine VR.nil ?_
          rcases ite_or hm with ⟨h12, hm⟩ | ⟨h12, hm⟩
          · refine VW.condT rfl h12 ?_
            refine VW.region ?_
            refine VR.p rfl rfl (VP.move rfl) ?_
            refine VR.p rfl rfl (VP.move rfl) ?_
            refine VR.cons rfl rfl (VO.buildSlice ap65 rfl rfl rfl rfl rfl fun b3 => ?_)
            obtain ⟨l5, h14, hm⟩ := bnd hm
            refine VR.cons rfl rfl (VO.apT 2 VV.str (l := l2) (l2 := [r.1]) ap65 rfl rfl (sT_row 0 VV.str el65 rfl rfl) h14 fun ob4 cap4 => ?_)
            refine VR.p rfl rfl (VP.assign rfl) ?_
            refine VR.nil ?_
            refine VW.region ?_
            refine VR.p rfl rfl (VP.arith rfl rfl rfl) ?_
            refine VR.p rfl rfl (VP.move rfl) ?_
            refine VR.nil ?_
            exact ⟨((V.mp had2 r.1 (IntKind.i64.wrap (((V.mg had2 r.1).getD (0 : Int)) + (1 : Int)))), l5), (ob4, cap4), hm, (Shift.pick [2, 2] rfl ⟨rfl, rfl, rfl, rfl, congrArg some (k_next h7 h6), trivial⟩)⟩
          · have h12 := bf h12
            refine VW.condF rfl h12 ?_
            refine VW.skip ?_
            refine VW.region ?_
            refine VR.p rfl rfl (VP.arith rfl rfl rfl) ?_
            refine VR.p rfl rfl (VP.move rfl) ?_
            refine VR.nil ?_
            exact ⟨((V.mp had2 r.1 (IntKind.i64.wrap (((V.mg had2 r.1).getD (0 : Int)) + (1 : Int)))), l2), (ob2, cap2), hm, (Shift.pick [1, 1] rfl ⟨rfl, rfl, rfl, rfl, congrArg some (k_next h7 h6), trivial⟩)⟩
  · rintro l32 ⟨ob3, cap3⟩ rfl
    have hm := h5
    refine VW.seq ?_
    refine VW.region ?_
    refine VR.p rfl rfl (VP.move rfl) ?_
    refine VR.p rfl rfl (VP.assign rfl) ?_
    refine VR.nil ?_
    obtain rfl := Option.some.inj hm
    exact VW.ret ⟨.inl rfl, _, .cons (.tmp _ _ rfl) .nil, [0], _, rfl, ob3, cap3, rfl, rfl⟩

/-! trireme/triremeref09.Texts -/
def ref09_Texts.l1 (a : List ByteArray) (b : List ByteArray) : Nat → Int → Option (Out Bool Unit)
  | 0, _ => none
  | n + 1, i2 =>
    if (decide (i2 < (a.length : Int))) = true then
      (V.gl a i2).bind fun x =>
      (V.gl b i2).bind fun x2 =>
      if (!(V.seq x x2)) = true then
        some (Out.ret false)
      else
        ref09_Texts.l1 a b n (IntKind.i64.wrap (i2 + (1 : Int)))
    else
      some (Out.go ())
def ref09_Texts (a : List ByteArray) (b : List ByteArray) : Option Bool :=
  if ((a.length : Int) != (b.length : Int)) = true then
    some false
  else
    (ref09_Texts.l1 a b FU (0 : Int)).bind fun o =>
    o.on fun j =>
    some true
theorem ref09_Texts_ok (a : List ByteArray) (b : List ByteArray) (r : Bool) (hm : ref09_Texts a b = some r) :
    VC Try.prog 63 [.list 9 (List.map VV.str a), .list 9 (List.map VV.str b)] [] (fun zx zH => zx = .bool r ∧ zH = []) := by
  unfold ref09_Texts at hm
  refine VC.run (c := _) (rs := [.tmp 4]) Try.func63 rfl rfl rfl ?_
  refine VW.seq ?_
  refine VW.region ?_
  refine VR.p rfl rfl (VP.assign rfl) ?_
  refine VR.nil ?_
  refine VW.seq ?_
  refine VW.seq ?_
  refine VW.region ?_
  refine VR.p rfl rfl (VP.move rfl) ?_
  refine VR.p rfl rfl (VP.lenT VV.str rfl Try.underlying65) ?_
  refine VR.p rfl rfl (VP.move rfl) ?_
  refine VR.p rfl rfl (VP.lenT VV.str rfl Try.underlying65) ?_
  refine VR.p rfl rfl (VP.arith rfl rfl rfl) ?_
  refine VR.nil ?_
  rcases ite_or hm with ⟨h1, hm⟩ | ⟨h1, hm⟩
  · refine VW.condT rfl h1 ?_
    refine VW.seq ?_
    refine VW.region ?_
    refine VR.p rfl rfl (VP.assign rfl) ?_
    refine VR.nil ?_
    obtain rfl := Option.some.inj hm
    exact VW.ret ⟨.inl rfl, _, .cons (.tmp _ _ rfl) .nil, [], _, rfl, rfl, rfl⟩
  · have h1 := bf h1
    refine VW.condF rfl h1 ?_
    refine VW.skip ?_
    refine VW.seq ?_
    refine VW.seq ?_
    refine VW.region ?_
    refine VR.p rfl rfl (VP.assign rfl) ?_
    refine VR.nil ?_
    obtain ⟨o, h2, h3⟩ := bnd hm
    refine VW.joinE (fun (q : Unit) => o = Out.go q) (fun (j : Unit) (gg : Unit) => []) (fun (j : Unit) (gg : Unit) => []) ?_ ?_
    · have hm := h2
      refine VW.block (VW.loop FU ?_)
      refine VL.fuelS (R := _) (fun zn (zs : Int) => ref09_Texts.l1 a b zn zs) (fun (zs : Int) (zg : Unit) => [(0, .list 9 (List.map VV.str a)), (1, .list 9 (List.map VV.str b)), (5, .int .i64 zs)]) (fun (zs : Int) (zg : Unit) => []) (0 : Int) () (fun zs => rfl) (Shift.pick [] rfl ⟨rfl, rfl, rfl, trivial⟩) h2 ?_
      rintro n i2 _ hm
      rw [ref09_Texts.l1] at hm
      refine VW.seq ?_
      refine VW.seq ?_
      refine VW.region ?_
      refine VR.p rfl rfl (VP.move rfl) ?_
      refine VR.p rfl rfl (VP.move rfl) ?_
      refine VR.p rfl rfl (VP.lenT VV.str rfl Try.underlying65) ?_
      refine VR.p rfl rfl (VP.arith rfl rfl rfl) ?_
      refine VR.nil ?_
      rcases ite_or hm with ⟨h4, hm⟩ | ⟨h4, hm⟩
      · refine VW.condT rfl h4 ?_
        refine VW.skip ?_
        refine VW.seq ?_
        refine VW.block ?_
        refine VW.seq ?_
        refine VW.drawK 0 mixed ?_
        refine VA.p 0 rfl rfl rfl (by kernel_rfl) (VP.move rfl) ?_
        refine VA.p 1 rfl rfl rfl (by kernel_rfl) (VP.move rfl) ?_
        obtain ⟨x, h5, hm⟩ := bnd hm
        refine VA.p 2 rfl rfl rfl (by kernel_rfl) (VP.glE VV.str rfl rfl el65 h5) ?_
        refine VA.p 3 rfl rfl rfl (by kernel_rfl) (VP.loadE rfl ld9 rfl) ?_
        refine VA.p 4 rfl rfl rfl (by kernel_rfl) (VP.move rfl) ?_
        refine VA.p 5 rfl rfl rfl (by kernel_rfl) (VP.move rfl) ?_
        obtain ⟨x2, h6, hm⟩ := bnd hm
        refine VA.p 6 rfl rfl rfl (by kernel_rfl) (VP.glE VV.str rfl rfl el65 h6) ?_
        refine VA.p 7 rfl rfl rfl (by kernel_rfl) (VP.loadE rfl ld9 rfl) ?_
        refine VA.p 8 rfl rfl rfl (by kernel_rfl) (VP.strop rfl rfl rfl) ?_
        refine VA.done (by kernel_rfl) ?_
        rcases ite_or hm with ⟨h7, hm⟩ | ⟨h7, hm⟩
        · refine VW.condT rfl h7 ?_
          refine VW.seq ?_
          refine VW.region ?_
          refine VR.p rfl rfl (VP.assign rfl) ?_
          refine VR.nil ?_
          obtain rfl := Option.some.inj hm
          have hm := Out.ret_on h3
          obtain rfl := Option.some.inj hm
          exact VW.ret ⟨.inl rfl, _, .cons (.tmp _ _ rfl) .nil, [], _, rfl, rfl, rfl⟩
        · have h7 := bf h7
          refine VW.condF rfl h7 ?_
          refine VW.skip ?_
          refine VW.region ?_
          refine VR.p rfl rfl (VP.move rfl) ?_
          refine VR.p rfl rfl (VP.arith rfl rfl rfl) ?_
          refine VR.p rfl rfl (VP.assign rfl) ?_
          refine VR.nil ?_
          exact ⟨(IntKind.i64.wrap (i2 + (1 : Int))), (), hm, (Shift.pick [] rfl ⟨rfl, rfl, rfl, trivial⟩)⟩
      · have h4 := bf h4
        refine VW.condF rfl h4 ?_
        refine VW.exit ?_
        exact ⟨(), (), (Option.some.inj hm).symm, (Shift.pick [] rfl trivial)⟩
    · rintro j _ rfl
      have hm := Out.go_on h3
      refine VW.seq ?_
      refine VW.region ?_
      refine VR.p rfl rfl (VP.assign rfl) ?_
      refine VR.nil ?_
      obtain rfl := Option.some.inj hm
      exact VW.ret ⟨.inl rfl, _, .cons (.tmp _ _ rfl) .nil, [], _, rfl, rfl, rfl⟩

/-! trireme/triremelaw09.known -/
def law09_known : Option Bool :=
  (yard_Used [(⟨(⟨(⟨#[112]⟩ : ByteArray), (⟨(300 : Int), (0 : Int), (0 : Int), (1 : Int), (0 : Int)⟩ : T_api_Res), ([] : List T_api_Label), ([] : List T_api_Label), ([] : List T_api_Term), ([] : List T_api_Toleration), ([] : List Int), ([] : List T_api_Label), false, ([] : List T_api_Label), (0 : Int), (0 : Int), (⟨#[]⟩ : ByteArray), false, false, false⟩ : T_api_Pod), (⟨#[109]⟩ : ByteArray)⟩ : T_api_Bound), (⟨(⟨(⟨#[113]⟩ : ByteArray), (⟨(0 : Int), (0 : Int), (0 : Int), (1 : Int), (0 : Int)⟩ : T_api_Res), ([] : List T_api_Label), ([] : List T_api_Label), ([] : List T_api_Term), ([] : List T_api_Toleration), ([] : List Int), ([] : List T_api_Label), false, ([] : List T_api_Label), (0 : Int), (0 : Int), (⟨#[]⟩ : ByteArray), false, false, false⟩ : T_api_Pod), (⟨#[]⟩ : ByteArray)⟩ : T_api_Bound)] (⟨#[109]⟩ : ByteArray)).bind fun r =>
  (yard_Check [(⟨(⟨#[109]⟩ : ByteArray), (⟨#[]⟩ : ByteArray), (⟨(1000 : Int), (0 : Int), (0 : Int), (3 : Int), (0 : Int)⟩ : T_api_Res), [(⟨(⟨#[122, 111, 110, 101]⟩ : ByteArray), (⟨#[97]⟩ : ByteArray)⟩ : T_api_Label)], ([] : List T_api_Taint), true⟩ : T_api_Machine), (⟨(⟨#[110]⟩ : ByteArray), (⟨#[]⟩ : ByteArray), (⟨(0 : Int), (0 : Int), (0 : Int), (0 : Int), (0 : Int)⟩ : T_api_Res), ([] : List T_api_Label), ([] : List T_api_Taint), false⟩ : T_api_Machine)] [(⟨(⟨(⟨#[112]⟩ : ByteArray), (⟨(300 : Int), (0 : Int), (0 : Int), (1 : Int), (0 : Int)⟩ : T_api_Res), ([] : List T_api_Label), ([] : List T_api_Label), ([] : List T_api_Term), ([] : List T_api_Toleration), ([] : List Int), ([] : List T_api_Label), false, ([] : List T_api_Label), (0 : Int), (0 : Int), (⟨#[]⟩ : ByteArray), false, false, false⟩ : T_api_Pod), (⟨#[109]⟩ : ByteArray)⟩ : T_api_Bound), (⟨(⟨(⟨#[113]⟩ : ByteArray), (⟨(0 : Int), (0 : Int), (0 : Int), (1 : Int), (0 : Int)⟩ : T_api_Res), ([] : List T_api_Label), ([] : List T_api_Label), ([] : List T_api_Term), ([] : List T_api_Toleration), ([] : List Int), ([] : List T_api_Label), false, ([] : List T_api_Label), (0 : Int), (0 : Int), (⟨#[]⟩ : ByteArray), false, false, false⟩ : T_api_Pod), (⟨#[]⟩ : ByteArray)⟩ : T_api_Bound)]).bind fun r2 =>
  (if (r2 == (0 : Int)) = true then (V.gl [(⟨(⟨#[109]⟩ : ByteArray), (⟨#[]⟩ : ByteArray), (⟨(1000 : Int), (0 : Int), (0 : Int), (3 : Int), (0 : Int)⟩ : T_api_Res), [(⟨(⟨#[122, 111, 110, 101]⟩ : ByteArray), (⟨#[97]⟩ : ByteArray)⟩ : T_api_Label)], ([] : List T_api_Taint), true⟩ : T_api_Machine), (⟨(⟨#[110]⟩ : ByteArray), (⟨#[]⟩ : ByteArray), (⟨(0 : Int), (0 : Int), (0 : Int), (0 : Int), (0 : Int)⟩ : T_api_Res), ([] : List T_api_Label), ([] : List T_api_Taint), false⟩ : T_api_Machine)] (0 : Int)).bind fun x =>
  (yard_Left x [(⟨(⟨(⟨#[112]⟩ : ByteArray), (⟨(300 : Int), (0 : Int), (0 : Int), (1 : Int), (0 : Int)⟩ : T_api_Res), ([] : List T_api_Label), ([] : List T_api_Label), ([] : List T_api_Term), ([] : List T_api_Toleration), ([] : List Int), ([] : List T_api_Label), false, ([] : List T_api_Label), (0 : Int), (0 : Int), (⟨#[]⟩ : ByteArray), false, false, false⟩ : T_api_Pod), (⟨#[109]⟩ : ByteArray)⟩ : T_api_Bound), (⟨(⟨(⟨#[113]⟩ : ByteArray), (⟨(0 : Int), (0 : Int), (0 : Int), (1 : Int), (0 : Int)⟩ : T_api_Res), ([] : List T_api_Label), ([] : List T_api_Label), ([] : List T_api_Term), ([] : List T_api_Toleration), ([] : List Int), ([] : List T_api_Label), false, ([] : List T_api_Label), (0 : Int), (0 : Int), (⟨#[]⟩ : ByteArray), false, false, false⟩ : T_api_Pod), (⟨#[]⟩ : ByteArray)⟩ : T_api_Bound)]).bind fun r3 =>
  some (((r3.Cpu == (700 : Int)) && ((r3.Mem == (0 : Int)) && ((r3.Disk == (0 : Int)) && ((r3.Pods == (2 : Int)) && ((r3.Dev == (0 : Int)) && true))))) == true) else some false).bind fun c =>
  (if ((c && (((r.1.Cpu == (300 : Int)) && ((r.1.Mem == (0 : Int)) && ((r.1.Disk == (0 : Int)) && ((r.1.Pods == (1 : Int)) && ((r.1.Dev == (0 : Int)) && true))))) == true)) && (r.2 == (0 : Int))) = true then (yard_Find [(⟨(⟨#[109]⟩ : ByteArray), (⟨#[]⟩ : ByteArray), (⟨(1000 : Int), (0 : Int), (0 : Int), (3 : Int), (0 : Int)⟩ : T_api_Res), [(⟨(⟨#[122, 111, 110, 101]⟩ : ByteArray), (⟨#[97]⟩ : ByteArray)⟩ : T_api_Label)], ([] : List T_api_Taint), true⟩ : T_api_Machine), (⟨(⟨#[110]⟩ : ByteArray), (⟨#[]⟩ : ByteArray), (⟨(0 : Int), (0 : Int), (0 : Int), (0 : Int), (0 : Int)⟩ : T_api_Res), ([] : List T_api_Label), ([] : List T_api_Taint), false⟩ : T_api_Machine)] (⟨#[110]⟩ : ByteArray)).bind fun r4 =>
  some (r4 == (1 : Int)) else some false).bind fun c2 =>
  (if c2 = true then (yard_Place [(⟨(⟨(⟨#[112]⟩ : ByteArray), (⟨(300 : Int), (0 : Int), (0 : Int), (1 : Int), (0 : Int)⟩ : T_api_Res), ([] : List T_api_Label), ([] : List T_api_Label), ([] : List T_api_Term), ([] : List T_api_Toleration), ([] : List Int), ([] : List T_api_Label), false, ([] : List T_api_Label), (0 : Int), (0 : Int), (⟨#[]⟩ : ByteArray), false, false, false⟩ : T_api_Pod), (⟨#[109]⟩ : ByteArray)⟩ : T_api_Bound), (⟨(⟨(⟨#[113]⟩ : ByteArray), (⟨(0 : Int), (0 : Int), (0 : Int), (1 : Int), (0 : Int)⟩ : T_api_Res), ([] : List T_api_Label), ([] : List T_api_Label), ([] : List T_api_Term), ([] : List T_api_Toleration), ([] : List Int), ([] : List T_api_Label), false, ([] : List T_api_Label), (0 : Int), (0 : Int), (⟨#[]⟩ : ByteArray), false, false, false⟩ : T_api_Pod), (⟨#[]⟩ : ByteArray)⟩ : T_api_Bound)] (⟨#[113]⟩ : ByteArray)).bind fun r5 =>
  some (r5 == (1 : Int)) else some false).bind fun c3 =>
  (if c3 = true then (yard_On [(⟨(⟨(⟨#[112]⟩ : ByteArray), (⟨(300 : Int), (0 : Int), (0 : Int), (1 : Int), (0 : Int)⟩ : T_api_Res), ([] : List T_api_Label), ([] : List T_api_Label), ([] : List T_api_Term), ([] : List T_api_Toleration), ([] : List Int), ([] : List T_api_Label), false, ([] : List T_api_Label), (0 : Int), (0 : Int), (⟨#[]⟩ : ByteArray), false, false, false⟩ : T_api_Pod), (⟨#[109]⟩ : ByteArray)⟩ : T_api_Bound), (⟨(⟨(⟨#[113]⟩ : ByteArray), (⟨(0 : Int), (0 : Int), (0 : Int), (1 : Int), (0 : Int)⟩ : T_api_Res), ([] : List T_api_Label), ([] : List T_api_Label), ([] : List T_api_Term), ([] : List T_api_Toleration), ([] : List Int), ([] : List T_api_Label), false, ([] : List T_api_Label), (0 : Int), (0 : Int), (⟨#[]⟩ : ByteArray), false, false, false⟩ : T_api_Pod), (⟨#[]⟩ : ByteArray)⟩ : T_api_Bound)] (⟨#[109]⟩ : ByteArray)).bind fun r6 =>
  some ((r6.length : Int) == (1 : Int)) else some false).bind fun c4 =>
  (if c4 = true then (yard_Zones [(⟨(⟨#[109]⟩ : ByteArray), (⟨#[]⟩ : ByteArray), (⟨(1000 : Int), (0 : Int), (0 : Int), (3 : Int), (0 : Int)⟩ : T_api_Res), [(⟨(⟨#[122, 111, 110, 101]⟩ : ByteArray), (⟨#[97]⟩ : ByteArray)⟩ : T_api_Label)], ([] : List T_api_Taint), true⟩ : T_api_Machine), (⟨(⟨#[110]⟩ : ByteArray), (⟨#[]⟩ : ByteArray), (⟨(0 : Int), (0 : Int), (0 : Int), (0 : Int), (0 : Int)⟩ : T_api_Res), ([] : List T_api_Label), ([] : List T_api_Taint), false⟩ : T_api_Machine)]).bind fun r7 =>
  (ref09_Texts r7 [(⟨#[97]⟩ : ByteArray)]).bind fun r8 =>
  some r8 else some false).bind fun c5 =>
  (if c5 = true then (V.sl [(⟨(⟨#[109]⟩ : ByteArray), (⟨#[]⟩ : ByteArray), (⟨(1000 : Int), (0 : Int), (0 : Int), (3 : Int), (0 : Int)⟩ : T_api_Res), [(⟨(⟨#[122, 111, 110, 101]⟩ : ByteArray), (⟨#[97]⟩ : ByteArray)⟩ : T_api_Label)], ([] : List T_api_Taint), true⟩ : T_api_Machine), (⟨(⟨#[110]⟩ : ByteArray), (⟨#[]⟩ : ByteArray), (⟨(0 : Int), (0 : Int), (0 : Int), (0 : Int), (0 : Int)⟩ : T_api_Res), ([] : List T_api_Label), ([] : List T_api_Taint), false⟩ : T_api_Machine)] (some (1 : Int)) none).bind fun v =>
  (yard_Check v [(⟨(⟨(⟨#[112]⟩ : ByteArray), (⟨(300 : Int), (0 : Int), (0 : Int), (1 : Int), (0 : Int)⟩ : T_api_Res), ([] : List T_api_Label), ([] : List T_api_Label), ([] : List T_api_Term), ([] : List T_api_Toleration), ([] : List Int), ([] : List T_api_Label), false, ([] : List T_api_Label), (0 : Int), (0 : Int), (⟨#[]⟩ : ByteArray), false, false, false⟩ : T_api_Pod), (⟨#[109]⟩ : ByteArray)⟩ : T_api_Bound), (⟨(⟨(⟨#[113]⟩ : ByteArray), (⟨(0 : Int), (0 : Int), (0 : Int), (1 : Int), (0 : Int)⟩ : T_api_Res), ([] : List T_api_Label), ([] : List T_api_Label), ([] : List T_api_Term), ([] : List T_api_Toleration), ([] : List Int), ([] : List T_api_Label), false, ([] : List T_api_Label), (0 : Int), (0 : Int), (⟨#[]⟩ : ByteArray), false, false, false⟩ : T_api_Pod), (⟨#[]⟩ : ByteArray)⟩ : T_api_Bound)]).bind fun r9 =>
  some (r9 == (16 : Int)) else some false).bind fun c6 =>
  some (if c6 = true then true else false)
theorem law09_known_ok (r : Bool) (hm : law09_known = some r) :
    VC Try.prog 27 [] [] (fun zx zH => zx = .bool r ∧ zH = []) := by
  unfold law09_known at hm
  refine VC.run (c := _) (rs := [.tmp 0]) Try.func27 rfl rfl rfl ?_
  refine VW.seq ?_
  refine VW.region ?_
  refine VR.p rfl rfl (VP.assign rfl) ?_
  refine VR.nil ?_
  refine VW.seq ?_
  refine VW.region ?_
  refine VR.p rfl rfl (VP.buildP pl23 rfl rfl) ?_
  refine VR.p rfl rfl (VP.buildP pl79 rfl rfl) ?_
  refine VR.cons rfl rfl (VO.buildSlice ap24 rfl rfl rfl rfl rfl fun b => ?_)
  refine VR.shift (Shift.freezeE 0 [(7, .list 79 (List.map T_api_Label.vv [(⟨(⟨#[122, 111, 110, 101]⟩ : ByteArray), (⟨#[97]⟩ : ByteArray)⟩ : T_api_Label)]))] rfl ⟨⟨_, rfl, .here _ rfl⟩, trivial⟩ (FzH.refl _)) ?_
  refine VR.p rfl rfl (VP.buildP pl27 rfl rfl) ?_
  refine VR.p rfl rfl (VP.buildP pl27 rfl rfl) ?_
  refine VR.shift (Shift.trans (Shift.nilRow 97) (Shift.trans (Shift.freezeE 0 [(8, T_api_Machine.vv (⟨(⟨#[109]⟩ : ByteArray), (⟨#[]⟩ : ByteArray), (⟨(1000 : Int), (0 : Int), (0 : Int), (3 : Int), (0 : Int)⟩ : T_api_Res), [(⟨(⟨#[122, 111, 110, 101]⟩ : ByteArray), (⟨#[97]⟩ : ByteArray)⟩ : T_api_Label)], ([] : List T_api_Taint), true⟩ : T_api_Machine))] rfl ⟨⟨_, rfl, .aggL ⟨.same _, .same _, .same _, .same _, .same _, .same _, .same _, .same _, .here _ rfl, .same _, trivial⟩⟩, trivial⟩ (FzH.refl _)) (Shift.trans (Shift.nilRow 79) (Shift.trans (Shift.freezeE 0 [(9, .agg [.str (⟨#[110]⟩ : ByteArray), .str (⟨#[]⟩ : ByteArray), .int .i64 (0 : Int), .int .i64 (0 : Int), .int .i64 (0 : Int), .int .i64 (0 : Int), .int .i64 (0 : Int), .list 79 (List.map T_api_Label.vv ([] : List T_api_Label)), .sl none 0 0, .bool false])] rfl ⟨⟨_, rfl, .aggL ⟨.same _, .same _, .same _, .same _, .same _, .same _, .same _, .here _ rfl, .same _, .same _, trivial⟩⟩, trivial⟩ (FzH.refl _)) (Shift.trans (Shift.nilRow 97) (Shift.freezeE 0 [(9, T_api_Machine.vv (⟨(⟨#[110]⟩ : ByteArray), (⟨#[]⟩ : ByteArray), (⟨(0 : Int), (0 : Int), (0 : Int), (0 : Int), (0 : Int)⟩ : T_api_Res), ([] : List T_api_Label), ([] : List T_api_Taint), false⟩ : T_api_Machine))] rfl ⟨⟨_, rfl, .aggL ⟨.same _, .same _, .same _, .same _, .same _, .same _, .same _, .same _, .here _ rfl, .same _, trivial⟩⟩, trivial⟩ (FzH.refl _))))))) ?_
  refine VR.cons rfl rfl (VO.buildSlice ap37 rfl rfl rfl rfl rfl fun b2 => ?_)
  refine VR.shift (Shift.freezeE 0 [(10, .list 27 (List.map T_api_Machine.vv [(⟨(⟨#[109]⟩ : ByteArray), (⟨#[]⟩ : ByteArray), (⟨(1000 : Int), (0 : Int), (0 : Int), (3 : Int), (0 : Int)⟩ : T_api_Res), [(⟨(⟨#[122, 111, 110, 101]⟩ : ByteArray), (⟨#[97]⟩ : ByteArray)⟩ : T_api_Label)], ([] : List T_api_Taint), true⟩ : T_api_Machine), (⟨(⟨#[110]⟩ : ByteArray), (⟨#[]⟩ : ByteArray), (⟨(0 : Int), (0 : Int), (0 : Int), (0 : Int), (0 : Int)⟩ : T_api_Res), ([] : List T_api_Label), ([] : List T_api_Taint), false⟩ : T_api_Machine)]))] rfl ⟨⟨_, rfl, .here _ rfl⟩, trivial⟩ (FzH.refl _)) ?_
  refine VR.p rfl rfl (VP.assign rfl) ?_
  refine VR.nil ?_
  refine VW.seq ?_
  refine VW.region ?_
  refine VR.p rfl rfl (VP.buildP pl23 rfl rfl) ?_
  refine VR.p rfl rfl (VP.buildP pl33 rfl rfl) ?_
  refine VR.p rfl rfl (VP.buildP pl49 rfl rfl) ?_
  refine VR.p rfl rfl (VP.buildP pl23 rfl rfl) ?_
  refine VR.p rfl rfl (VP.buildP pl33 rfl rfl) ?_
  refine VR.p rfl rfl (VP.buildP pl49 rfl rfl) ?_
  refine VR.shift (Shift.trans (Shift.nilRow 79) (Shift.trans (Shift.freezeE 0 [(13, .agg [.str (⟨#[112]⟩ : ByteArray), .int .i64 (300 : Int), .int .i64 (0 : Int), .int .i64 (0 : Int), .int .i64 (1 : Int), .int .i64 (0 : Int), .list 79 (List.map T_api_Label.vv ([] : List T_api_Label)), .list 79 (List.map T_api_Label.vv ([] : List T_api_Label)), .sl none 0 0, .sl none 0 0, .sl none 0 0, .list 79 (List.map T_api_Label.vv ([] : List T_api_Label)), .bool false, .list 79 (List.map T_api_Label.vv ([] : List T_api_Label)), .int .i64 (0 : Int), .int .i64 (0 : Int), .str (⟨#[]⟩ : ByteArray), .bool false, .bool false, .bool false, .str (⟨#[109]⟩ : ByteArray)])] rfl ⟨⟨_, rfl, .aggL ⟨.same _, .same _, .same _, .same _, .same _, .same _, .here _ rfl, .here _ rfl, .same _, .same _, .same _, .here _ rfl, .same _, .here _ rfl, .same _, .same _, .same _, .same _, .same _, .same _, .same _, trivial⟩⟩, trivial⟩ (FzH.refl _)) (Shift.trans (Shift.nilRow 74) (Shift.trans (Shift.freezeE 0 [(13, .agg [.str (⟨#[112]⟩ : ByteArray), .int .i64 (300 : Int), .int .i64 (0 : Int), .int .i64 (0 : Int), .int .i64 (1 : Int), .int .i64 (0 : Int), .list 79 (List.map T_api_Label.vv ([] : List T_api_Label)), .list 79 (List.map T_api_Label.vv ([] : List T_api_Label)), .list 74 (List.map T_api_Term.vv ([] : List T_api_Term)), .sl none 0 0, .sl none 0 0, .list 79 (List.map T_api_Label.vv ([] : List T_api_Label)), .bool false, .list 79 (List.map T_api_Label.vv ([] : List T_api_Label)), .int .i64 (0 : Int), .int .i64 (0 : Int), .str (⟨#[]⟩ : ByteArray), .bool false, .bool false, .bool false, .str (⟨#[109]⟩ : ByteArray)])] rfl ⟨⟨_, rfl, .aggL ⟨.same _, .same _, .same _, .same _, .same _, .same _, .same _, .same _, .here _ rfl, .same _, .same _, .same _, .same _, .same _, .same _, .same _, .same _, .same _, .same _, .same _, .same _, trivial⟩⟩, trivial⟩ (FzH.refl _)) (Shift.trans (Shift.nilRow 55) (Shift.trans (Shift.freezeE 0 [(13, .agg [.str (⟨#[112]⟩ : ByteArray), .int .i64 (300 : Int), .int .i64 (0 : Int), .int .i64 (0 : Int), .int .i64 (1 : Int), .int .i64 (0 : Int), .list 79 (List.map T_api_Label.vv ([] : List T_api_Label)), .list 79 (List.map T_api_Label.vv ([] : List T_api_Label)), .list 74 (List.map T_api_Term.vv ([] : List T_api_Term)), .list 55 (List.map T_api_Toleration.vv ([] : List T_api_Toleration)), .sl none 0 0, .list 79 (List.map T_api_Label.vv ([] : List T_api_Label)), .bool false, .list 79 (List.map T_api_Label.vv ([] : List T_api_Label)), .int .i64 (0 : Int), .int .i64 (0 : Int), .str (⟨#[]⟩ : ByteArray), .bool false, .bool false, .bool false, .str (⟨#[109]⟩ : ByteArray)])] rfl ⟨⟨_, rfl, .aggL ⟨.same _, .same _, .same _, .same _, .same _, .same _, .same _, .same _, .same _, .here _ rfl, .same _, .same _, .same _, .same _, .same _, .same _, .same _, .same _, .same _, .same _, .same _, trivial⟩⟩, trivial⟩ (FzH.refl _)) (Shift.trans (Shift.nilRow 3) (Shift.trans (Shift.freezeE 0 [(13, T_api_Bound.vv (⟨(⟨(⟨#[112]⟩ : ByteArray), (⟨(300 : Int), (0 : Int), (0 : Int), (1 : Int), (0 : Int)⟩ : T_api_Res), ([] : List T_api_Label), ([] : List T_api_Label), ([] : List T_api_Term), ([] : List T_api_Toleration), ([] : List Int), ([] : List T_api_Label), false, ([] : List T_api_Label), (0 : Int), (0 : Int), (⟨#[]⟩ : ByteArray), false, false, false⟩ : T_api_Pod), (⟨#[109]⟩ : ByteArray)⟩ : T_api_Bound))] rfl ⟨⟨_, rfl, .aggL ⟨.same _, .same _, .same _, .same _, .same _, .same _, .same _, .same _, .same _, .same _, .here _ rfl, .same _, .same _, .same _, .same _, .same _, .same _, .same _, .same _, .same _, .same _, trivial⟩⟩, trivial⟩ (FzH.refl _)) (Shift.trans (Shift.nilRow 79) (Shift.trans (Shift.freezeE 0 [(16, .agg [.str (⟨#[113]⟩ : ByteArray), .int .i64 (0 : Int), .int .i64 (0 : Int), .int .i64 (0 : Int), .int .i64 (1 : Int), .int .i64 (0 : Int), .list 79 (List.map T_api_Label.vv ([] : List T_api_Label)), .list 79 (List.map T_api_Label.vv ([] : List T_api_Label)), .sl none 0 0, .sl none 0 0, .sl none 0 0, .list 79 (List.map T_api_Label.vv ([] : List T_api_Label)), .bool false, .list 79 (List.map T_api_Label.vv ([] : List T_api_Label)), .int .i64 (0 : Int), .int .i64 (0 : Int), .str (⟨#[]⟩ : ByteArray), .bool false, .bool false, .bool false, .str (⟨#[]⟩ : ByteArray)])] rfl ⟨⟨_, rfl, .aggL ⟨.same _, .same _, .same _, .same _, .same _, .same _, .here _ rfl, .here _ rfl, .same _, .same _, .same _, .here _ rfl, .same _, .here _ rfl, .same _, .same _, .same _, .same _, .same _, .same _, .same _, trivial⟩⟩, trivial⟩ (FzH.refl _)) (Shift.trans (Shift.nilRow 74) (Shift.trans (Shift.freezeE 0 [(16, .agg [.str (⟨#[113]⟩ : ByteArray), .int .i64 (0 : Int), .int .i64 (0 : Int), .int .i64 (0 : Int), .int .i64 (1 : Int), .int .i64 (0 : Int), .list 79 (List.map T_api_Label.vv ([] : List T_api_Label)), .list 79 (List.map T_api_Label.vv ([] : List T_api_Label)), .list 74 (List.map T_api_Term.vv ([] : List T_api_Term)), .sl none 0 0, .sl none 0 0, .list 79 (List.map T_api_Label.vv ([] : List T_api_Label)), .bool false, .list 79 (List.map T_api_Label.vv ([] : List T_api_Label)), .int .i64 (0 : Int), .int .i64 (0 : Int), .str (⟨#[]⟩ : ByteArray), .bool false, .bool false, .bool false, .str (⟨#[]⟩ : ByteArray)])] rfl ⟨⟨_, rfl, .aggL ⟨.same _, .same _, .same _, .same _, .same _, .same _, .same _, .same _, .here _ rfl, .same _, .same _, .same _, .same _, .same _, .same _, .same _, .same _, .same _, .same _, .same _, .same _, trivial⟩⟩, trivial⟩ (FzH.refl _)) (Shift.trans (Shift.nilRow 55) (Shift.trans (Shift.freezeE 0 [(16, .agg [.str (⟨#[113]⟩ : ByteArray), .int .i64 (0 : Int), .int .i64 (0 : Int), .int .i64 (0 : Int), .int .i64 (1 : Int), .int .i64 (0 : Int), .list 79 (List.map T_api_Label.vv ([] : List T_api_Label)), .list 79 (List.map T_api_Label.vv ([] : List T_api_Label)), .list 74 (List.map T_api_Term.vv ([] : List T_api_Term)), .list 55 (List.map T_api_Toleration.vv ([] : List T_api_Toleration)), .sl none 0 0, .list 79 (List.map T_api_Label.vv ([] : List T_api_Label)), .bool false, .list 79 (List.map T_api_Label.vv ([] : List T_api_Label)), .int .i64 (0 : Int), .int .i64 (0 : Int), .str (⟨#[]⟩ : ByteArray), .bool false, .bool false, .bool false, .str (⟨#[]⟩ : ByteArray)])] rfl ⟨⟨_, rfl, .aggL ⟨.same _, .same _, .same _, .same _, .same _, .same _, .same _, .same _, .same _, .here _ rfl, .same _, .same _, .same _, .same _, .same _, .same _, .same _, .same _, .same _, .same _, .same _, trivial⟩⟩, trivial⟩ (FzH.refl _)) (Shift.trans (Shift.nilRow 3) (Shift.freezeE 0 [(16, T_api_Bound.vv (⟨(⟨(⟨#[113]⟩ : ByteArray), (⟨(0 : Int), (0 : Int), (0 : Int), (1 : Int), (0 : Int)⟩ : T_api_Res), ([] : List T_api_Label), ([] : List T_api_Label), ([] : List T_api_Term), ([] : List T_api_Toleration), ([] : List Int), ([] : List T_api_Label), false, ([] : List T_api_Label), (0 : Int), (0 : Int), (⟨#[]⟩ : ByteArray), false, false, false⟩ : T_api_Pod), (⟨#[]⟩ : ByteArray)⟩ : T_api_Bound))] rfl ⟨⟨_, rfl, .aggL ⟨.same _, .same _, .same _, .same _, .same _, .same _, .same _, .same _, .same _, .same _, .here _ rfl, .same _, .same _, .same _, .same _, .same _, .same _, .same _, .same _, .same _, .same _, trivial⟩⟩, trivial⟩ (FzH.refl _))))))))))))))))) ?_
  refine VR.cons rfl rfl (VO.buildSlice ap28 rfl rfl rfl rfl rfl fun b3 => ?_)
  refine VR.shift (Shift.freezeE 0 [(17, .list 49 (List.map T_api_Bound.vv [(⟨(⟨(⟨#[112]⟩ : ByteArray), (⟨(300 : Int), (0 : Int), (0 : Int), (1 : Int), (0 : Int)⟩ : T_api_Res), ([] : List T_api_Label), ([] : List T_api_Label), ([] : List T_api_Term), ([] : List T_api_Toleration), ([] : List Int), ([] : List T_api_Label), false, ([] : List T_api_Label), (0 : Int), (0 : Int), (⟨#[]⟩ : ByteArray), false, false, false⟩ : T_api_Pod), (⟨#[109]⟩ : ByteArray)⟩ : T_api_Bound), (⟨(⟨(⟨#[113]⟩ : ByteArray), (⟨(0 : Int), (0 : Int), (0 : Int), (1 : Int), (0 : Int)⟩ : T_api_Res), ([] : List T_api_Label), ([] : List T_api_Label), ([] : List T_api_Term), ([] : List T_api_Toleration), ([] : List Int), ([] : List T_api_Label), false, ([] : List T_api_Label), (0 : Int), (0 : Int), (⟨#[]⟩ : ByteArray), false, false, false⟩ : T_api_Pod), (⟨#[]⟩ : ByteArray)⟩ : T_api_Bound)]))] rfl ⟨⟨_, rfl, .here _ rfl⟩, trivial⟩ (FzH.refl _)) ?_
  refine VR.p rfl rfl (VP.assign rfl) ?_
  refine VR.nil ?_
  refine VW.seq ?_
  refine VW.region ?_
  refine VR.p rfl rfl (VP.move rfl) ?_
  obtain ⟨r, h4, hm⟩ := bnd hm
  refine VR.cons rfl rfl (VO.callK 0 rfl fn29 rfl (yard_Used_ok [(⟨(⟨(⟨#[112]⟩ : ByteArray), (⟨(300 : Int), (0 : Int), (0 : Int), (1 : Int), (0 : Int)⟩ : T_api_Res), ([] : List T_api_Label), ([] : List T_api_Label), ([] : List T_api_Term), ([] : List T_api_Toleration), ([] : List Int), ([] : List T_api_Label), false, ([] : List T_api_Label), (0 : Int), (0 : Int), (⟨#[]⟩ : ByteArray), false, false, false⟩ : T_api_Pod), (⟨#[109]⟩ : ByteArray)⟩ : T_api_Bound), (⟨(⟨(⟨#[113]⟩ : ByteArray), (⟨(0 : Int), (0 : Int), (0 : Int), (1 : Int), (0 : Int)⟩ : T_api_Res), ([] : List T_api_Label), ([] : List T_api_Label), ([] : List T_api_Term), ([] : List T_api_Toleration), ([] : List Int), ([] : List T_api_Label), false, ([] : List T_api_Label), (0 : Int), (0 : Int), (⟨#[]⟩ : ByteArray), false, false, false⟩ : T_api_Pod), (⟨#[]⟩ : ByteArray)⟩ : T_api_Bound)] (⟨#[109]⟩ : ByteArray) r h4) fun _ _ h41 => ?_)
  obtain ⟨rfl, rfl⟩ := h41
  refine VR.p rfl rfl (VP.move rfl) ?_
  refine VR.p rfl rfl (VP.extract rfl rfl) ?_
  refine VR.p rfl rfl (VP.extract rfl rfl) ?_
  refine VR.cons rfl rfl (VO.alloc z23 fun b4 => ?_)
  refine VR.cons rfl rfl (VO.storeP (i := 0) rfl rfl rfl ld23 rfl rfl rfl ?_)
  refine VR.p rfl rfl (VP.assign rfl) ?_
  refine VR.nil ?_
  refine VW.seq ?_
  refine VW.region ?_
  refine VR.p rfl rfl (VP.move rfl) ?_
  refine VR.p rfl rfl (VP.move rfl) ?_
  obtain ⟨r2, h6, hm⟩ := bnd hm
  refine VR.cons rfl rfl (VO.callK 0 rfl fn28 rfl (yard_Check_ok [(⟨(⟨#[109]⟩ : ByteArray), (⟨#[]⟩ : ByteArray), (⟨(1000 : Int), (0 : Int), (0 : Int), (3 : Int), (0 : Int)⟩ : T_api_Res), [(⟨(⟨#[122, 111, 110, 101]⟩ : ByteArray), (⟨#[97]⟩ : ByteArray)⟩ : T_api_Label)], ([] : List T_api_Taint), true⟩ : T_api_Machine), (⟨(⟨#[110]⟩ : ByteArray), (⟨#[]⟩ : ByteArray), (⟨(0 : Int), (0 : Int), (0 : Int), (0 : Int), (0 : Int)⟩ : T_api_Res), ([] : List T_api_Label), ([] : List T_api_Taint), false⟩ : T_api_Machine)] [(⟨(⟨(⟨#[112]⟩ : ByteArray), (⟨(300 : Int), (0 : Int), (0 : Int), (1 : Int), (0 : Int)⟩ : T_api_Res), ([] : List T_api_Label), ([] : List T_api_Label), ([] : List T_api_Term), ([] : List T_api_Toleration), ([] : List Int), ([] : List T_api_Label), false, ([] : List T_api_Label), (0 : Int), (0 : Int), (⟨#[]⟩ : ByteArray), false, false, false⟩ : T_api_Pod), (⟨#[109]⟩ : ByteArray)⟩ : T_api_Bound), (⟨(⟨(⟨#[113]⟩ : ByteArray), (⟨(0 : Int), (0 : Int), (0 : Int), (1 : Int), (0 : Int)⟩ : T_api_Res), ([] : List T_api_Label), ([] : List T_api_Label), ([] : List T_api_Term), ([] : List T_api_Toleration), ([] : List Int), ([] : List T_api_Label), false, ([] : List T_api_Label), (0 : Int), (0 : Int), (⟨#[]⟩ : ByteArray), false, false, false⟩ : T_api_Pod), (⟨#[]⟩ : ByteArray)⟩ : T_api_Bound)] r2 h6) fun _ _ h40 => ?_)
  obtain ⟨rfl, rfl⟩ := h40
  refine VR.p rfl rfl (VP.arith rfl rfl rfl) ?_
  refine VR.p rfl rfl (VP.move rfl) ?_
  obtain ⟨c, h11, hm⟩ := bnd hm
  refine VR.sc 8 35 (.bool c) (fun K' J => ?_) ?_
  · have hm := h11
    rcases ite_or hm with ⟨h7, hm⟩ | ⟨h7, hm⟩
    · refine VR.pG rfl rfl rfl rfl h7 (VP.move rfl) ?_
      obtain ⟨x, h8, hm⟩ := bnd hm
      refine VR.pG rfl rfl rfl rfl h7 (VP.glE T_api_Machine.vv rfl rfl el37 h8) ?_
      refine VR.pG rfl rfl rfl rfl h7 (VP.loadE rfl ld27 rfl) ?_
      refine VR.pG rfl rfl rfl rfl h7 (VP.move rfl) ?_
      obtain ⟨r3, h9, hm⟩ := bnd hm
      refine VR.consG rfl rfl rfl rfl h7 (VO.callK 0 rfl fn30 rfl (yard_Left_ok x [(⟨(⟨(⟨#[112]⟩ : ByteArray), (⟨(300 : Int), (0 : Int), (0 : Int), (1 : Int), (0 : Int)⟩ : T_api_Res), ([] : List T_api_Label), ([] : List T_api_Label), ([] : List T_api_Term), ([] : List T_api_Toleration), ([] : List Int), ([] : List T_api_Label), false, ([] : List T_api_Label), (0 : Int), (0 : Int), (⟨#[]⟩ : ByteArray), false, false, false⟩ : T_api_Pod), (⟨#[109]⟩ : ByteArray)⟩ : T_api_Bound), (⟨(⟨(⟨#[113]⟩ : ByteArray), (⟨(0 : Int), (0 : Int), (0 : Int), (1 : Int), (0 : Int)⟩ : T_api_Res), ([] : List T_api_Label), ([] : List T_api_Label), ([] : List T_api_Term), ([] : List T_api_Toleration), ([] : List Int), ([] : List T_api_Label), false, ([] : List T_api_Label), (0 : Int), (0 : Int), (⟨#[]⟩ : ByteArray), false, false, false⟩ : T_api_Pod), (⟨#[]⟩ : ByteArray)⟩ : T_api_Bound)] r3 h9) fun _ _ h10 => ?_)
      obtain ⟨rfl, rfl⟩ := h10
      refine VR.pG rfl rfl rfl rfl h7 (VP.buildP pl23 rfl rfl) ?_
      refine VR.pG rfl rfl rfl rfl h7 (VP.eqS shp23 eq23 rfl rfl rfl rfl) ?_
      refine VR.p rfl rfl (VP.pickB true rfl h7 rfl) ?_
      exact J [_, _, _, _, _, _, _] _ rfl (congrArg VV.bool (Option.some.inj hm))
    · have h7 := bf h7
      refine VR.skipG rfl rfl rfl rfl h7 ?_
      refine VR.skipG rfl rfl rfl rfl h7 ?_
      refine VR.skipG rfl rfl rfl rfl h7 ?_
      refine VR.skipG rfl rfl rfl rfl h7 ?_
      refine VR.skipG rfl rfl rfl rfl h7 ?_
      refine VR.skipG rfl rfl rfl rfl h7 ?_
      refine VR.skipG rfl rfl rfl rfl h7 ?_
      refine VR.p rfl rfl (VP.pickB false rfl h7 rfl) ?_
      exact J [_, _, _, _, _, _, _] _ rfl (congrArg VV.bool (Option.some.inj hm))
  · refine VR.p rfl rfl (VP.move rfl) ?_
    refine VR.sc 4 40 (.bool (c && (((r.1.Cpu == (300 : Int)) && ((r.1.Mem == (0 : Int)) && ((r.1.Disk == (0 : Int)) && ((r.1.Pods == (1 : Int)) && ((r.1.Dev == (0 : Int)) && true))))) == true))) (fun K' J => ?_) ?_
    · rcases Bool.eq_false_or_eq_true c with h12 | h12
      · refine VR.pG rfl rfl rfl rfl h12 (VP.loadP (i := 0) rfl rfl ld23 rfl) ?_
        refine VR.pG rfl rfl rfl rfl h12 (VP.buildP pl23 rfl rfl) ?_
        refine VR.pG rfl rfl rfl rfl h12 (VP.eqS shp23 eq23 rfl rfl rfl rfl) ?_
        refine VR.p rfl rfl (VP.pickB true rfl h12 rfl) ?_
        exact J [_, _, _] _ rfl (andT h12)
      · refine VR.skipG rfl rfl rfl rfl h12 ?_
        refine VR.skipG rfl rfl rfl rfl h12 ?_
        refine VR.skipG rfl rfl rfl rfl h12 ?_
        refine VR.p rfl rfl (VP.pickB false rfl h12 rfl) ?_
        exact J [_, _, _] _ rfl (andF h12)
    · refine VR.p rfl rfl (VP.move rfl) ?_
      refine VR.sc 3 44 (.bool ((c && (((r.1.Cpu == (300 : Int)) && ((r.1.Mem == (0 : Int)) && ((r.1.Disk == (0 : Int)) && ((r.1.Pods == (1 : Int)) && ((r.1.Dev == (0 : Int)) && true))))) == true)) && (r.2 == (0 : Int)))) (fun K' J => ?_) ?_
      · rcases Bool.eq_false_or_eq_true (c && (((r.1.Cpu == (300 : Int)) && ((r.1.Mem == (0 : Int)) && ((r.1.Disk == (0 : Int)) && ((r.1.Pods == (1 : Int)) && ((r.1.Dev == (0 : Int)) && true))))) == true)) with h13 | h13
        · refine VR.pG rfl rfl rfl rfl h13 (VP.move rfl) ?_
          refine VR.pG rfl rfl rfl rfl h13 (VP.arith rfl rfl rfl) ?_
          refine VR.p rfl rfl (VP.pickB true rfl h13 rfl) ?_
          exact J [_, _] _ rfl (andT h13)
        · refine VR.skipG rfl rfl rfl rfl h13 ?_
          refine VR.skipG rfl rfl rfl rfl h13 ?_
          refine VR.p rfl rfl (VP.pickB false rfl h13 rfl) ?_
          exact J [_, _] _ rfl (andF h13)
      · refine VR.p rfl rfl (VP.move rfl) ?_
        obtain ⟨c2, h17, hm⟩ := bnd hm
        refine VR.sc 4 49 (.bool c2) (fun K' J => ?_) ?_
        · have hm := h17
          rcases ite_or hm with ⟨h14, hm⟩ | ⟨h14, hm⟩
          · refine VR.pG rfl rfl rfl rfl h14 (VP.move rfl) ?_
            obtain ⟨r4, h15, hm⟩ := bnd hm
            refine VR.consG rfl rfl rfl rfl h14 (VO.callK 0 rfl fn33 rfl (yard_Find_ok [(⟨(⟨#[109]⟩ : ByteArray), (⟨#[]⟩ : ByteArray), (⟨(1000 : Int), (0 : Int), (0 : Int), (3 : Int), (0 : Int)⟩ : T_api_Res), [(⟨(⟨#[122, 111, 110, 101]⟩ : ByteArray), (⟨#[97]⟩ : ByteArray)⟩ : T_api_Label)], ([] : List T_api_Taint), true⟩ : T_api_Machine), (⟨(⟨#[110]⟩ : ByteArray), (⟨#[]⟩ : ByteArray), (⟨(0 : Int), (0 : Int), (0 : Int), (0 : Int), (0 : Int)⟩ : T_api_Res), ([] : List T_api_Label), ([] : List T_api_Taint), false⟩ : T_api_Machine)] (⟨#[110]⟩ : ByteArray) r4 h15) fun _ _ h16 => ?_)
            obtain ⟨rfl, rfl⟩ := h16
            refine VR.pG rfl rfl rfl rfl h14 (VP.arith rfl rfl rfl) ?_
            refine VR.p rfl rfl (VP.pickB true rfl h14 rfl) ?_
            exact J [_, _, _] _ rfl (congrArg VV.bool (Option.some.inj hm))
          · have h14 := bf h14
            refine VR.skipG rfl rfl rfl rfl h14 ?_
            refine VR.skipG rfl rfl rfl rfl h14 ?_
            refine VR.skipG rfl rfl rfl rfl h14 ?_
            refine VR.p rfl rfl (VP.pickB false rfl h14 rfl) ?_
            exact J [_, _, _] _ rfl (congrArg VV.bool (Option.some.inj hm))
        · refine VR.p rfl rfl (VP.move rfl) ?_
          obtain ⟨c3, h21, hm⟩ := bnd hm
          refine VR.sc 4 54 (.bool c3) (fun K' J => ?_) ?_
          · have hm := h21
            rcases ite_or hm with ⟨h18, hm⟩ | ⟨h18, hm⟩
            · refine VR.pG rfl rfl rfl rfl h18 (VP.move rfl) ?_
              obtain ⟨r5, h19, hm⟩ := bnd hm
              refine VR.consG rfl rfl rfl rfl h18 (VO.callK 0 rfl fn62 rfl (yard_Place_ok [(⟨(⟨(⟨#[112]⟩ : ByteArray), (⟨(300 : Int), (0 : Int), (0 : Int), (1 : Int), (0 : Int)⟩ : T_api_Res), ([] : List T_api_Label), ([] : List T_api_Label), ([] : List T_api_Term), ([] : List T_api_Toleration), ([] : List Int), ([] : List T_api_Label), false, ([] : List T_api_Label), (0 : Int), (0 : Int), (⟨#[]⟩ : ByteArray), false, false, false⟩ : T_api_Pod), (⟨#[109]⟩ : ByteArray)⟩ : T_api_Bound), (⟨(⟨(⟨#[113]⟩ : ByteArray), (⟨(0 : Int), (0 : Int), (0 : Int), (1 : Int), (0 : Int)⟩ : T_api_Res), ([] : List T_api_Label), ([] : List T_api_Label), ([] : List T_api_Term), ([] : List T_api_Toleration), ([] : List Int), ([] : List T_api_Label), false, ([] : List T_api_Label), (0 : Int), (0 : Int), (⟨#[]⟩ : ByteArray), false, false, false⟩ : T_api_Pod), (⟨#[]⟩ : ByteArray)⟩ : T_api_Bound)] (⟨#[113]⟩ : ByteArray) r5 h19) fun _ _ h20 => ?_)
              obtain ⟨rfl, rfl⟩ := h20
              refine VR.pG rfl rfl rfl rfl h18 (VP.arith rfl rfl rfl) ?_
              refine VR.p rfl rfl (VP.pickB true rfl h18 rfl) ?_
              exact J [_, _, _] _ rfl (congrArg VV.bool (Option.some.inj hm))
            · have h18 := bf h18
              refine VR.skipG rfl rfl rfl rfl h18 ?_
              refine VR.skipG rfl rfl rfl rfl h18 ?_
              refine VR.skipG rfl rfl rfl rfl h18 ?_
              refine VR.p rfl rfl (VP.pickB false rfl h18 rfl) ?_
              exact J [_, _, _] _ rfl (congrArg VV.bool (Option.some.inj hm))
          · refine VR.p rfl rfl (VP.move rfl) ?_
            obtain ⟨c4, h26, hm⟩ := bnd hm
            refine VR.sc 5 60 (.bool c4) (fun K' J => ?_) ?_
            · have hm := h26
              rcases ite_or hm with ⟨h22, hm⟩ | ⟨h22, hm⟩
              · refine VR.pG rfl rfl rfl rfl h22 (VP.move rfl) ?_
                obtain ⟨r6, h23, hm⟩ := bnd hm
                refine VR.consG rfl rfl rfl rfl h22 (VO.callK 0 rfl fn32 rfl (yard_On_ok [(⟨(⟨(⟨#[112]⟩ : ByteArray), (⟨(300 : Int), (0 : Int), (0 : Int), (1 : Int), (0 : Int)⟩ : T_api_Res), ([] : List T_api_Label), ([] : List T_api_Label), ([] : List T_api_Term), ([] : List T_api_Toleration), ([] : List Int), ([] : List T_api_Label), false, ([] : List T_api_Label), (0 : Int), (0 : Int), (⟨#[]⟩ : ByteArray), false, false, false⟩ : T_api_Pod), (⟨#[109]⟩ : ByteArray)⟩ : T_api_Bound), (⟨(⟨(⟨#[113]⟩ : ByteArray), (⟨(0 : Int), (0 : Int), (0 : Int), (1 : Int), (0 : Int)⟩ : T_api_Res), ([] : List T_api_Label), ([] : List T_api_Label), ([] : List T_api_Term), ([] : List T_api_Toleration), ([] : List Int), ([] : List T_api_Label), false, ([] : List T_api_Label), (0 : Int), (0 : Int), (⟨#[]⟩ : ByteArray), false, false, false⟩ : T_api_Pod), (⟨#[]⟩ : ByteArray)⟩ : T_api_Bound)] (⟨#[109]⟩ : ByteArray) r6 h23) fun _ _ h25 => ?_)
                obtain ⟨ob, cap, rfl, rfl⟩ := h25
                refine VR.shift (Shift.freezeE 0 [(57, .list 33 (List.map T_api_Pod.vv r6))] rfl ⟨⟨_, rfl, .here _ rfl⟩, trivial⟩ (FzH.refl _)) ?_
                refine VR.pG rfl rfl rfl rfl h22 (VP.lenT T_api_Pod.vv rfl Try.underlying59) ?_
                refine VR.pG rfl rfl rfl rfl h22 (VP.arith rfl rfl rfl) ?_
                refine VR.p rfl rfl (VP.pickB true rfl h22 rfl) ?_
                exact J [_, _, _, _, _] _ rfl (congrArg VV.bool (Option.some.inj hm))
              · have h22 := bf h22
                refine VR.skipG rfl rfl rfl rfl h22 ?_
                refine VR.skipG rfl rfl rfl rfl h22 ?_
                refine VR.skipG rfl rfl rfl rfl h22 ?_
                refine VR.skipG rfl rfl rfl rfl h22 ?_
                refine VR.p rfl rfl (VP.pickB false rfl h22 rfl) ?_
                exact J [_, _, _, _] _ rfl (congrArg VV.bool (Option.some.inj hm))
            · refine VR.p rfl rfl (VP.move rfl) ?_
              obtain ⟨c5, h34, hm⟩ := bnd hm
              refine VR.sc 5 66 (.bool c5) (fun K' J => ?_) ?_
              · have hm := h34
                rcases ite_or hm with ⟨h27, hm⟩ | ⟨h27, hm⟩
                · refine VR.pG rfl rfl rfl rfl h27 (VP.move rfl) ?_
                  obtain ⟨r7, h28, hm⟩ := bnd hm
                  refine VR.consG rfl rfl rfl rfl h27 (VO.callK 0 rfl fn64 rfl (yard_Zones_ok [(⟨(⟨#[109]⟩ : ByteArray), (⟨#[]⟩ : ByteArray), (⟨(1000 : Int), (0 : Int), (0 : Int), (3 : Int), (0 : Int)⟩ : T_api_Res), [(⟨(⟨#[122, 111, 110, 101]⟩ : ByteArray), (⟨#[97]⟩ : ByteArray)⟩ : T_api_Label)], ([] : List T_api_Taint), true⟩ : T_api_Machine), (⟨(⟨#[110]⟩ : ByteArray), (⟨#[]⟩ : ByteArray), (⟨(0 : Int), (0 : Int), (0 : Int), (0 : Int), (0 : Int)⟩ : T_api_Res), ([] : List T_api_Label), ([] : List T_api_Taint), false⟩ : T_api_Machine)] r7 h28) fun _ _ h33 => ?_)
                  obtain ⟨ob2, cap2, rfl, rfl⟩ := h33
                  refine VR.shift (Shift.freezeE 0 [(63, .list 9 (List.map VV.str r7))] rfl ⟨⟨_, rfl, .here _ rfl⟩, trivial⟩ (FzH.refl _)) ?_
                  refine VR.consG rfl rfl rfl rfl h27 (VO.buildSlice ap65 rfl rfl rfl rfl rfl fun b5 => ?_)
                  refine VR.shift (Shift.freezeE 0 [(64, .list 9 (List.map VV.str [(⟨#[97]⟩ : ByteArray)]))] rfl ⟨⟨_, rfl, .here _ rfl⟩, trivial⟩ (FzH.refl _)) ?_
                  obtain ⟨r8, h31, hm⟩ := bnd hm
                  refine VR.consG rfl rfl rfl rfl h27 (VO.callK 0 rfl fn63 rfl (ref09_Texts_ok r7 [(⟨#[97]⟩ : ByteArray)] r8 h31) fun _ _ h32 => ?_)
                  obtain ⟨rfl, rfl⟩ := h32
                  refine VR.p rfl rfl (VP.pickB true rfl h27 rfl) ?_
                  exact J [_, _, _, _, _, _] _ rfl (congrArg VV.bool (Option.some.inj hm))
                · have h27 := bf h27
                  refine VR.skipG rfl rfl rfl rfl h27 ?_
                  refine VR.skipG rfl rfl rfl rfl h27 ?_
                  refine VR.skipG rfl rfl rfl rfl h27 ?_
                  refine VR.skipG rfl rfl rfl rfl h27 ?_
                  refine VR.p rfl rfl (VP.pickB false rfl h27 rfl) ?_
                  exact J [_, _, _, _] _ rfl (congrArg VV.bool (Option.some.inj hm))
              · refine VR.p rfl rfl (VP.move rfl) ?_
                obtain ⟨c6, h39, hm⟩ := bnd hm
                refine VR.sc 6 73 (.bool c6) (fun K' J => ?_) ?_
                · have hm := h39
                  rcases ite_or hm with ⟨h35, hm⟩ | ⟨h35, hm⟩
                  · refine VR.pG rfl rfl rfl rfl h35 (VP.move rfl) ?_
                    obtain ⟨v, h36, hm⟩ := bnd hm
                    refine VR.pG rfl rfl rfl rfl h35 (VP.slT rfl rfl rfl el37 h36) ?_
                    refine VR.pG rfl rfl rfl rfl h35 (VP.move rfl) ?_
                    obtain ⟨r9, h37, hm⟩ := bnd hm
                    refine VR.consG rfl rfl rfl rfl h35 (VO.callK 0 rfl fn28 rfl (yard_Check_ok v [(⟨(⟨(⟨#[112]⟩ : ByteArray), (⟨(300 : Int), (0 : Int), (0 : Int), (1 : Int), (0 : Int)⟩ : T_api_Res), ([] : List T_api_Label), ([] : List T_api_Label), ([] : List T_api_Term), ([] : List T_api_Toleration), ([] : List Int), ([] : List T_api_Label), false, ([] : List T_api_Label), (0 : Int), (0 : Int), (⟨#[]⟩ : ByteArray), false, false, false⟩ : T_api_Pod), (⟨#[109]⟩ : ByteArray)⟩ : T_api_Bound), (⟨(⟨(⟨#[113]⟩ : ByteArray), (⟨(0 : Int), (0 : Int), (0 : Int), (1 : Int), (0 : Int)⟩ : T_api_Res), ([] : List T_api_Label), ([] : List T_api_Label), ([] : List T_api_Term), ([] : List T_api_Toleration), ([] : List Int), ([] : List T_api_Label), false, ([] : List T_api_Label), (0 : Int), (0 : Int), (⟨#[]⟩ : ByteArray), false, false, false⟩ : T_api_Pod), (⟨#[]⟩ : ByteArray)⟩ : T_api_Bound)] r9 h37) fun _ _ h38 => ?_)
                    obtain ⟨rfl, rfl⟩ := h38
                    refine VR.pG rfl rfl rfl rfl h35 (VP.arith rfl rfl rfl) ?_
                    refine VR.p rfl rfl (VP.pickB true rfl h35 rfl) ?_
                    exact J [_, _, _, _, _] _ rfl (congrArg VV.bool (Option.some.inj hm))
                  · have h35 := bf h35
                    refine VR.skipG rfl rfl rfl rfl h35 ?_
                    refine VR.skipG rfl rfl rfl rfl h35 ?_
                    refine VR.skipG rfl rfl rfl rfl h35 ?_
                    refine VR.skipG rfl rfl rfl rfl h35 ?_
                    refine VR.skipG rfl rfl rfl rfl h35 ?_
                    refine VR.p rfl rfl (VP.pickB false rfl h35 rfl) ?_
                    exact J [_, _, _, _, _] _ rfl (congrArg VV.bool (Option.some.inj hm))
                · refine VR.p rfl rfl (VP.move rfl) ?_
                  refine VR.p rfl rfl (VP.pickU VV.bool rfl rfl rfl) ?_
                  refine VR.p rfl rfl (VP.assign rfl) ?_
                  refine VR.nil ?_
                  obtain rfl := Option.some.inj hm
                  exact VW.ret ⟨.inl rfl, _, .cons (.tmp _ _ rfl) .nil, [], _, rfl, rfl, rfl⟩

/-! trireme/triremeref01.more -/
def ref01_more (s : ByteArray) (i : Int) : Option Bool :=
  (if (decide (i < (s.size : Int))) = true then (V.gi s i).bind fun v =>
  some (decide (v ≥ (128 : Int))) else some false).bind fun c =>
  (if c = true then (V.gi s i).bind fun v2 =>
  some (decide (v2 < (192 : Int))) else some false).bind fun c2 =>
  some c2
theorem ref01_more_ok (s : ByteArray) (i : Int) (r : Bool) (hm : ref01_more s i = some r) :
    VC Try.prog 108 [.str s, .int .i64 i] [] (fun zx zH => zx = .bool r ∧ zH = []) := by
  unfold ref01_more at hm
  refine VC.run (c := _) (rs := [.tmp 4]) Try.func108 rfl rfl rfl ?_
  refine VW.seq ?_
  refine VW.region ?_
  refine VR.p rfl rfl (VP.assign rfl) ?_
  refine VR.nil ?_
  refine VW.seq ?_
  refine VW.region ?_
  refine VR.p rfl rfl (VP.move rfl) ?_
  refine VR.p rfl rfl (VP.move rfl) ?_
  refine VR.p rfl rfl (VP.lenS rfl Try.underlying9) ?_
  refine VR.p rfl rfl (VP.arith rfl rfl rfl) ?_
  refine VR.p rfl rfl (VP.move rfl) ?_
  obtain ⟨c, h3, hm⟩ := bnd hm
  refine VR.sc 5 14 (.bool c) (fun K' J => ?_) ?_
  · have hm := h3
    rcases ite_or hm with ⟨h1, hm⟩ | ⟨h1, hm⟩
    · refine VR.pG rfl rfl rfl rfl h1 (VP.move rfl) ?_
      refine VR.pG rfl rfl rfl rfl h1 (VP.move rfl) ?_
      obtain ⟨v, h2, hm⟩ := bnd hm
      refine VR.pG rfl rfl rfl rfl h1 (VP.gi rfl rfl Try.underlying9 h2) ?_
      refine VR.pG rfl rfl rfl rfl h1 (VP.arith rfl rfl rfl) ?_
      refine VR.p rfl rfl (VP.pickB true rfl h1 rfl) ?_
      exact J [_, _, _, _] _ rfl (congrArg VV.bool (Option.some.inj hm))
    · have h1 := bf h1
      refine VR.skipG rfl rfl rfl rfl h1 ?_
      refine VR.skipG rfl rfl rfl rfl h1 ?_
      refine VR.skipG rfl rfl rfl rfl h1 ?_
      refine VR.skipG rfl rfl rfl rfl h1 ?_
      refine VR.p rfl rfl (VP.pickB false rfl h1 rfl) ?_
      exact J [_, _, _, _] _ rfl (congrArg VV.bool (Option.some.inj hm))
  · refine VR.p rfl rfl (VP.move rfl) ?_
    obtain ⟨c2, h6, hm⟩ := bnd hm
    refine VR.sc 5 20 (.bool c2) (fun K' J => ?_) ?_
    · have hm := h6
      rcases ite_or hm with ⟨h4, hm⟩ | ⟨h4, hm⟩
      · refine VR.pG rfl rfl rfl rfl h4 (VP.move rfl) ?_
        refine VR.pG rfl rfl rfl rfl h4 (VP.move rfl) ?_
        obtain ⟨v2, h5, hm⟩ := bnd hm
        refine VR.pG rfl rfl rfl rfl h4 (VP.gi rfl rfl Try.underlying9 h5) ?_
        refine VR.pG rfl rfl rfl rfl h4 (VP.arith rfl rfl rfl) ?_
        refine VR.p rfl rfl (VP.pickB true rfl h4 rfl) ?_
        exact J [_, _, _, _] _ rfl (congrArg VV.bool (Option.some.inj hm))
      · have h4 := bf h4
        refine VR.skipG rfl rfl rfl rfl h4 ?_
        refine VR.skipG rfl rfl rfl rfl h4 ?_
        refine VR.skipG rfl rfl rfl rfl h4 ?_
        refine VR.skipG rfl rfl rfl rfl h4 ?_
        refine VR.p rfl rfl (VP.pickB false rfl h4 rfl) ?_
        exact J [_, _, _, _] _ rfl (congrArg VV.bool (Option.some.inj hm))
    · refine VR.p rfl rfl (VP.assign rfl) ?_
      refine VR.nil ?_
      obtain rfl := Option.some.inj hm
      exact VW.ret ⟨.inl rfl, _, .cons (.tmp _ _ rfl) .nil, [], _, rfl, rfl, rfl⟩

end Go.Proofs.Ytcblmlkpcplkfaa.M

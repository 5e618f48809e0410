/-
  Printed by a program of this session out of the loaded functions: models and their proofs. Own text.
-/
import Derived.Test.YtbkdglcedgiogaaRCF2
namespace Go.Proofs.Ytbkdglcedgiogaa.M
open Go Go.Proofs Go.Proofs.Ytbkdglcedgiogaa.V
set_option linter.unusedVariables false
set_option maxRecDepth 20000
set_option maxHeartbeats 4000000
/-! trireme/sched.Best -/
def sched_Best.l1 (ms : List T_api_Machine) (bs : List T_api_Bound) (p : T_api_Pod) : List ByteArray → Nat → ByteArray → T_sched_score → Option ByteArray
 | [], k, best2, least2 => some best2
 | x :: l, k, best2, least2 =>
  ((yard_Find ms x).bind fun r2 =>
  (V.gl ms r2).bind fun x3 =>
  (sched_of x3 bs p).bind fun r3 =>
  some r3).bind fun x22 =>
  (if (V.seq best2 (⟨#[]⟩ : ByteArray)) = true then some true else (sched_score_less x22 least2).bind fun r7 =>
  some r7).bind fun c =>
  if c = true then
   sched_Best.l1 ms bs p l (k + 1) x x22
  else
   sched_Best.l1 ms bs p l (k + 1) best2 least2
def sched_Best (ms : List T_api_Machine) (bs : List T_api_Bound) (p : T_api_Pod) : Option ByteArray :=
 (fit_Where ms bs p).bind fun r =>
 (sched_Best.l1 ms bs p r 0 (⟨#[]⟩ : ByteArray) (⟨(0 : Int), (0 : Int)⟩ : T_sched_score)).bind fun best32 =>
 some best32
theorem sched_Best_ok (ms : List T_api_Machine) (bs : List T_api_Bound) (p : T_api_Pod) (r : ByteArray) (hm : sched_Best ms bs p = some r) :
  VC Try.prog 27 [.list 30 (List.map T_api_Machine.vv ms), .list 50 (List.map T_api_Bound.vv bs), T_api_Pod.vv p] [] (fun zx zH => zx = .str r ∧ zH = []) := by
 unfold sched_Best at hm
 refine VC.run (c := _) (rs := [.tmp 6]) Try.func27 R R R <| VW.seq <| VW.region ?_
 refine VR.cons R R (VO.box R R fun b => ?_)
 refine VR.p R R (VP.assign R) <| VR.nil <| VW.seq <| VW.region <| VR.p R R (VP.assign R) <| VR.nil <| VW.seq <| VW.region ?_
 refine VR.cons R R (VO.alloc z84 fun b2 => ?_)
 refine VR.nil <| VW.seq <| VW.seq <| VW.region <| VR.p R R (VP.move R) <| VR.p R R (VP.move R) <| VR.p R R (VP.loadP (i := 1) R R ld39 R) ?_
 obtain ⟨r, h3, hm⟩ := bnd hm
 refine VR.cons R R (VO.callK 0 R fn42 R (fit_Where_ok ms bs p r h3) fun _ _ h32 => ?_)
 obtain ⟨ob, cap, rfl, rfl⟩ := h32
 refine VR.shift (Shift.freezeE 0 [(15, .list 9 (List.map VV.str r))] R ⟨⟨_, R, .here _ R⟩, trivial⟩ (FzH.refl _)) <| VR.p R R (VP.lenT VV.str R Try.underlying66) <| VR.p R R (VP.move R) <| VR.nil <| VW.lenL 15 R fun h7 => ?_
 have h7 := max_map h7
 obtain ⟨o, h5, h6⟩ := bnd hm
 refine VW.joinE (fun (q : ByteArray) => q = o) (fun (best32 : ByteArray) (gg : Unit) => [(7, .str best32)]) (fun (best32 : ByteArray) (gg : Unit) => []) ?_ ?_
 ·have hm := h5
  refine VW.block (VW.loop (r.length + 1) ?_)
  refine VL.eachS (l := r) (R := _) (fun zl zk (zs : ByteArray × T_sched_score) => sched_Best.l1 ms bs p zl zk zs.1 zs.2) (fun (k : Nat) (zs : ByteArray × T_sched_score) (zg : Unit) => [(0, .list 30 (List.map T_api_Machine.vv ms)), (1, .list 50 (List.map T_api_Bound.vv bs)), (5, .ptr b 0), (7, .str zs.1), (8, .ptr b2 0), (15, .list 9 (List.map VV.str r)), (16, .int .i64 (r.length : Int)), (17, .int .i64 (k : Int))]) (fun (k : Nat) (zs : ByteArray × T_sched_score) (zg : Unit) => [.box b2 84 (T_sched_score.cells zs.2), .box b 39 (T_api_Pod.cells p)]) ((⟨#[]⟩ : ByteArray), (⟨(0 : Int), (0 : Int)⟩ : T_sched_score)) () (Shift.pick [0, 0] R ⟨R, R, R, R, R, R, R, R, trivial⟩) h5 ?_ ?_
  ·rintro k ⟨best2, least2⟩ _ hk hm
   rw [sched_Best.l1] at hm
   refine VW.seq <| VW.region <| VR.p R R (VP.arith R R R) <| VR.nil <| VW.seq <| VW.condF R (k_end hk) <| VW.exit ?_
   exact ⟨best2, (), Option.some.inj hm, (Shift.pick [] R ⟨R, trivial⟩)⟩
  ·rintro k x l ⟨best2, least2⟩ _ h8 hm
   rw [sched_Best.l1] at hm
   refine VW.seq <| VW.region <| VR.p R R (VP.arith R R R) <| VR.nil <| VW.seq <| VW.condT R (k_lt h8) <| VW.skip <| VW.seq <| VW.block <| VW.seq <| VW.region <| VR.p R R (VP.glK VV.str R R el66 h8) <| VR.p R R (VP.loadE R ld9 R) <| VR.p R R (VP.assign R) <| VR.nil ?_
   obtain ⟨o2, h10, h11⟩ := bnd hm
   refine VW.join (fun (q : T_sched_score) => q = o2) (fun (x22 : T_sched_score) (gg : Nat) => [(0, .list 30 (List.map T_api_Machine.vv ms)), (1, .list 50 (List.map T_api_Bound.vv bs)), (5, .ptr b 0), (7, .str best2), (8, .ptr b2 0), (10, .str x), (11, .ptr gg 0), (15, .list 9 (List.map VV.str r)), (16, .int .i64 (r.length : Int)), (17, .int .i64 (k : Int))]) (fun (x22 : T_sched_score) (gg : Nat) => [.box gg 84 (T_sched_score.cells x22), .box b2 84 (T_sched_score.cells least2), .box b 39 (T_api_Pod.cells p)]) ?_ ?_
   ·have hm := h10
    refine VW.drawK 0 mixed <| VA.p 0 R R R (by kernel_rfl) (VP.move R) <| VA.p 1 R R R (by kernel_rfl) (VP.move R) <| VA.p 2 R R R (by kernel_rfl) (VP.move R) <| VA.p 6 R R R (by kernel_rfl) (VP.move R) <| VA.p 7 R R R (by kernel_rfl) (VP.loadP (i := 1) R R ld39 R) ?_
    refine VA.all [3, 9] (by kernel_rfl) ⟨?_, ?_, trivial⟩
    ·obtain ⟨r2, h12, hm⟩ := bnd hm
     refine VB.o R R R (VO.callK 0 R fn44 R (yard_Find_ok ms x r2 h12) fun _ _ h20 => ?_)
     obtain ⟨rfl, rfl⟩ := h20
     obtain ⟨x3, h13, hm⟩ := bnd hm
     refine VA.p 4 R R R (by kernel_rfl) (VP.glE T_api_Machine.vv R R el22 h13) <| VA.p 5 R R R (by kernel_rfl) (VP.loadE R ld30 R) ?_
     refine VA.all [8, 9] (by kernel_rfl) ⟨?_, ?_, trivial⟩
     ·obtain ⟨r3, h14, hm⟩ := bnd hm
      refine VB.o R R R (VO.callK 0 R fn43 R (sched_of_ok x3 bs p r3 h14) fun _ _ h16 => ?_)
      obtain ⟨rfl, rfl⟩ := h16
      refine VA.all [9] (by kernel_rfl) ⟨?_, trivial⟩
      refine VB.o R R R (VO.alloc z84 fun b4 => ?_)
      refine VA.all [10] (by kernel_rfl) ⟨?_, trivial⟩
      refine VB.o R R R (VO.storeP (i := 0) R R R ld84 R R R ?_)
      refine VA.done (by kernel_rfl) ?_
      exact ⟨r3, b4, Option.some.inj hm, (Shift.pick [0, 0, 0] R ⟨R, R, R, R, R, R, R, R, R, R, trivial⟩)⟩
     ·refine VB.o R R R (VO.alloc z84 fun b5 => ?_)
      refine VA.all [8] (by kernel_rfl) ⟨?_, trivial⟩
      obtain ⟨r4, h18, hm⟩ := bnd hm
      refine VB.o R R R (VO.callK 0 R fn43 R (sched_of_ok x3 bs p r4 h18) fun _ _ h19 => ?_)
      obtain ⟨rfl, rfl⟩ := h19
      refine VA.all [10] (by kernel_rfl) ⟨?_, trivial⟩
      refine VB.o R R R (VO.storeP (i := 0) R R R ld84 R R R ?_)
      refine VA.done (by kernel_rfl) ?_
      exact ⟨r4, b5, Option.some.inj hm, (Shift.pick [0, 0, 0] R ⟨R, R, R, R, R, R, R, R, R, R, trivial⟩)⟩
    ·refine VB.o R R R (VO.alloc z84 fun b6 => ?_)
     refine VA.all [3] (by kernel_rfl) ⟨?_, trivial⟩
     obtain ⟨r5, h22, hm⟩ := bnd hm
     refine VB.o R R R (VO.callK 0 R fn44 R (yard_Find_ok ms x r5 h22) fun _ _ h26 => ?_)
     obtain ⟨rfl, rfl⟩ := h26
     obtain ⟨x4, h23, hm⟩ := bnd hm
     refine VA.p 4 R R R (by kernel_rfl) (VP.glE T_api_Machine.vv R R el22 h23) <| VA.p 5 R R R (by kernel_rfl) (VP.loadE R ld30 R) ?_
     refine VA.all [8] (by kernel_rfl) ⟨?_, trivial⟩
     obtain ⟨r6, h24, hm⟩ := bnd hm
     refine VB.o R R R (VO.callK 0 R fn43 R (sched_of_ok x4 bs p r6 h24) fun _ _ h25 => ?_)
     obtain ⟨rfl, rfl⟩ := h25
     refine VA.all [10] (by kernel_rfl) ⟨?_, trivial⟩
     refine VB.o R R R (VO.storeP (i := 0) R R R ld84 R R R ?_)
     refine VA.done (by kernel_rfl) ?_
     exact ⟨r6, b6, Option.some.inj hm, (Shift.pick [0, 0, 0] R ⟨R, R, R, R, R, R, R, R, R, R, trivial⟩)⟩
   ·rintro x22 b3 rfl
    have hm := h11
    refine VW.seq <| VW.region <| VR.p R R (VP.move R) <| VR.p R R (VP.strop R R R) <| VR.p R R (VP.move R) ?_
    obtain ⟨c, h30, hm⟩ := bnd hm
    refine VR.sc 4 36 (.bool c) (fun K' J => ?_) ?_
    ·have hm := h30
     rcases ite_or hm with ⟨h27, hm⟩ | ⟨h27, hm⟩
     ·refine VR.skipG R R R R h27 <| VR.skipG R R R R h27 <| VR.skipG R R R R h27 <| VR.p R R (VP.pickB true R h27 R) ?_
      exact J [_, _, _] _ R (congrArg VV.bool (Option.some.inj hm))
     ·have h27 := bf h27
      refine VR.pG R R R R h27 (VP.loadP (i := 0) R R ld84 R) <| VR.pG R R R R h27 (VP.loadP (i := 1) R R ld84 R) ?_
      obtain ⟨r7, h28, hm⟩ := bnd hm
      refine VR.consG R R R R h27 (VO.callK 0 R fn45 R (sched_score_less_ok x22 least2 r7 h28) fun _ _ h29 => ?_)
      obtain ⟨rfl, rfl⟩ := h29
      refine VR.p R R (VP.pickB false R h27 R) ?_
      exact J [_, _, _] _ R (congrArg VV.bool (Option.some.inj hm))
    ·refine VR.nil ?_
     rcases ite_or hm with ⟨h31, hm⟩ | ⟨h31, hm⟩
     ·refine VW.condT R h31 <| VW.shift (Shift.mem [1, 0, 0] R) <| VW.drawK 1 mixed <| VA.p 0 R R R (by kernel_rfl) (VP.move R) <| VA.p 1 R R R (by kernel_rfl) (VP.loadP (i := 0) R R ld84 R) <| VA.p 2 R R R (by kernel_rfl) (VP.assign R) ?_
      refine VA.all [3] (by kernel_rfl) ⟨?_, trivial⟩
      refine VB.o R R R (VO.storeP (i := 0) R R R ld84 R R R ?_)
      refine VA.done (by kernel_rfl) <| VW.region <| VR.p R R (VP.arith R R R) <| VR.p R R (VP.move R) <| VR.nil ?_
      exact ⟨(x, x22), (), hm, (Shift.pick [0, 1] R ⟨R, R, R, R, R, R, R, congrArg some (k_next h8 h7), trivial⟩)⟩
     ·have h31 := bf h31
      refine VW.condF R h31 <| VW.skip <| VW.region <| VR.p R R (VP.arith R R R) <| VR.p R R (VP.move R) <| VR.nil ?_
      exact ⟨(best2, least2), (), hm, (Shift.pick [1, 1] R ⟨R, R, R, R, R, R, R, congrArg some (k_next h8 h7), trivial⟩)⟩
 ·rintro best32 _ rfl
  have hm := h6
  refine VW.seq <| VW.region <| VR.p R R (VP.move R) <| VR.p R R (VP.assign R) <| VR.nil ?_
  obtain rfl := Option.some.inj hm
  exact VW.ret ⟨.inl R, _, .cons (.tmp _ _ R) .nil, [], _, R, R, R⟩

/-! trireme/sched.Step -/
def sched_Step.l1 (ms : List T_api_Machine) : List Int → Nat → (List T_api_Bound) → (List T_api_Move) → Option (List T_api_Bound × List T_api_Move)
 | [], k, out2, moves2 => some (out2, moves2)
 | x :: l2, k, out2, moves2 =>
  (V.gl out2 x).bind fun x2 =>
  (sched_Best ms out2 x2.Pod).bind fun r2 =>
  if (!(V.seq r2 (⟨#[]⟩ : ByteArray))) = true then
   (V.gl out2 x).bind fun x3 =>
   (V.ap 32 moves2 [(⟨x2.Pod.Name, r2⟩ : T_api_Move)]).bind fun moves4 =>
   sched_Step.l1 ms l2 (k + 1) (List.set out2 (x).toNat (⟨x3.Pod, r2⟩ : T_api_Bound)) moves4
  else
   sched_Step.l1 ms l2 (k + 1) out2 moves2
def sched_Step (ms : List T_api_Machine) (bs : List T_api_Bound) : Option (List T_api_Bound × List T_api_Move) :=
 (V.ap 288 ([] : List T_api_Bound) bs).bind fun l =>
 (sched_Order bs).bind fun r =>
 (sched_Step.l1 ms r 0 l ([] : List T_api_Move)).bind fun j =>
 some (j.1, j.2)
theorem sched_Step_ok (ms : List T_api_Machine) (bs : List T_api_Bound) (r : List T_api_Bound × List T_api_Move) (hm : sched_Step ms bs = some r) :
  VC Try.prog 10 [.list 30 (List.map T_api_Machine.vv ms), .list 50 (List.map T_api_Bound.vv bs)] [] (fun zx zH => ∃ (ob0 : Option Nat) (cap0 : Nat) (ob1 : Option Nat) (cap1 : Nat), zx = .tup [.sl ob0 (List.map T_api_Bound.vv r.1).length cap0, .sl ob1 (List.map T_api_Move.vv r.2).length cap1] ∧ zH = [.row ob0 50 cap0 (List.map T_api_Bound.vv r.1), .row ob1 53 cap1 (List.map T_api_Move.vv r.2)]) := by
 unfold sched_Step at hm
 refine VC.run (c := _) (rs := [.tmp 4, .tmp 5]) Try.func10 R R R <| VW.seq <| VW.region <| VR.p R R (VP.assign R) <| VR.p R R (VP.assign R) <| VR.nil <| VW.seq <| VW.region <| VR.p R R (VP.move R) <| VR.shift (Shift.nilRow 50) ?_
 obtain ⟨l, h2, hm⟩ := bnd hm
 refine VR.cons R R (VO.apT 0 T_api_Bound.vv (l := ([] : List T_api_Bound)) (l2 := bs) ap23 R R (sT_list T_api_Bound.vv el23 R R) h2 fun ob cap => ?_)
 refine VR.p R R (VP.assign R) <| VR.nil <| VW.seq <| VW.region <| VR.p R R (VP.assign R) <| VR.nil <| VW.seq <| VW.seq <| VW.region <| VR.p R R (VP.move R) ?_
 obtain ⟨r, h3, hm⟩ := bnd hm
 refine VR.cons R R (VO.callK 0 R fn11 R (sched_Order_ok bs r h3) fun _ _ h20 => ?_)
 obtain ⟨rfl, rfl⟩ := h20
 refine VR.p R R (VP.lenT (VV.int .i64) R Try.underlying37) <| VR.p R R (VP.move R) <| VR.nil <| VW.lenL 15 R fun h8 => ?_
 have h8 := max_map h8
 obtain ⟨o, h6, h7⟩ := bnd hm
 refine VW.joinE (fun (q : List T_api_Bound × List T_api_Move) => q = o) (fun (j : List T_api_Bound × List T_api_Move) (gg : Option Nat × Option Nat × Nat) => [(6, .sl gg.1 (List.map T_api_Bound.vv j.1).length cap), (7, .sl gg.2.1 (List.map T_api_Move.vv j.2).length gg.2.2)]) (fun (j : List T_api_Bound × List T_api_Move) (gg : Option Nat × Option Nat × Nat) => [.row gg.2.1 53 gg.2.2 (List.map T_api_Move.vv j.2), .row gg.1 50 cap (List.map T_api_Bound.vv j.1)]) ?_ ?_
 ·have hm := h6
  refine VW.block (VW.loop (r.length + 1) ?_)
  refine VL.eachS (l := r) (R := _) (fun zl zk (zs : List T_api_Bound × List T_api_Move) => sched_Step.l1 ms zl zk zs.1 zs.2) (fun (k : Nat) (zs : List T_api_Bound × List T_api_Move) (zg : Option Nat × Option Nat × Nat) => [(0, .list 30 (List.map T_api_Machine.vv ms)), (6, .sl zg.1 (List.map T_api_Bound.vv zs.1).length cap), (7, .sl zg.2.1 (List.map T_api_Move.vv zs.2).length zg.2.2), (15, .list 3 (List.map (VV.int .i64) r)), (16, .int .i64 (r.length : Int)), (17, .int .i64 (k : Int))]) (fun (k : Nat) (zs : List T_api_Bound × List T_api_Move) (zg : Option Nat × Option Nat × Nat) => [.row zg.2.1 53 zg.2.2 (List.map T_api_Move.vv zs.2), .row zg.1 50 cap (List.map T_api_Bound.vv zs.1)]) (l, ([] : List T_api_Move)) (ob, none, 0) (Shift.trans (Shift.nilRow 53) (Shift.pick [0, 0] R ⟨R, R, R, R, R, R, trivial⟩)) h6 ?_ ?_
  ·rintro k ⟨out2, moves2⟩ ⟨ob4, ob5, cap3⟩ hk hm
   rw [sched_Step.l1] at hm
   refine VW.seq <| VW.region <| VR.p R R (VP.arith R R R) <| VR.nil <| VW.seq <| VW.condF R (k_end hk) <| VW.exit ?_
   exact ⟨(out2, moves2), (ob4, ob5, cap3), Option.some.inj hm, (Shift.pick [0, 0] R ⟨R, R, trivial⟩)⟩
  ·rintro k x l2 ⟨out2, moves2⟩ ⟨ob4, ob5, cap3⟩ h9 hm
   rw [sched_Step.l1] at hm
   refine VW.seq <| VW.region <| VR.p R R (VP.arith R R R) <| VR.nil <| VW.seq <| VW.condT R (k_lt h9) <| VW.skip <| VW.seq <| VW.block <| VW.seq <| VW.region <| VR.p R R (VP.glK (VV.int .i64) R R el37 h9) <| VR.p R R (VP.loadE R ld3 R) <| VR.p R R (VP.assign R) <| VR.nil <| VW.seq <| VW.region <| VR.p R R (VP.move R) <| VR.p R R (VP.move R) ?_
   obtain ⟨x2, h10, hm⟩ := bnd hm
   refine VR.someRow 1 R (gl_pos T_api_Bound.vv h10) fun b h11 => ?_
   subst h11
   refine VR.p R R (VP.glR T_api_Bound.vv R R el23 h10) <| VR.p R R (VP.fieldR R fa50_0) <| VR.p R R (VP.loadR (i := 1) (y := T_api_Bound.vv x2) R R R (gl_map _ (gl_some h10).2) ld39 R) ?_
   refine VR.cons R R (VO.alloc z39 fun b2 => ?_)
   refine VR.cons R R (VO.storeP (i := 0) R R R ld39 R R R ?_)
   refine VR.nil <| VW.seq <| VW.region <| VR.p R R (VP.move R) <| VR.p R R (VP.move R) <| VR.p R R (VP.loadP (i := 0) R R ld39 R) ?_
   obtain ⟨r2, h13, hm⟩ := bnd hm
   refine VR.cons R R (VO.callL (Shift.freezeE 2 [(6, .list 50 (List.map T_api_Bound.vv out2)), (21, .list 50 (List.map T_api_Bound.vv out2)), (27, .list 50 (List.map T_api_Bound.vv out2))] R ⟨⟨_, R, .here _ R⟩, ⟨_, R, .here _ R⟩, ⟨_, R, .here _ R⟩, trivial⟩ (FzH.refl _)) [.same, .same, .same] R fn27 R (sched_Best_ok ms out2 x2.Pod r2 h13) fun _ _ h18 => ?_)
   obtain ⟨rfl, rfl⟩ := h18
   refine ⟨R, R, ?_⟩
   refine VR.p R R (VP.assign R) <| VR.nil <| VW.seq <| VW.region <| VR.p R R (VP.move R) <| VR.p R R (VP.strop R R R) <| VR.nil ?_
   rcases ite_or hm with ⟨h14, hm⟩ | ⟨h14, hm⟩
   ·refine VW.condT R h14 <| VW.seq <| VW.region <| VR.p R R (VP.move R) <| VR.p R R (VP.move R) <| VR.p R R (VP.move R) ?_
    obtain ⟨x3, h15, hm⟩ := bnd hm
    refine VR.p R R (VP.glR T_api_Bound.vv R R el23 h15) <| VR.p R R (VP.fieldR R fa50_1) ?_
    refine VR.cons R R (VO.storeRT 2 (f := T_api_Bound.vv) (l := out2) (q := x3) (q' := (⟨x3.Pod, r2⟩ : T_api_Bound)) R R R R h15 ld9 R R R R ⟨R, List.all_eq_true.1 R⟩ ?_)
    refine VR.shift (Shift.reSl 6 (List.map T_api_Bound.vv (List.set out2 (x).toNat (⟨x3.Pod, r2⟩ : T_api_Bound))).length R (len_set _ _ _ _)) <| VR.shift (Shift.reSl 21 (List.map T_api_Bound.vv (List.set out2 (x).toNat (⟨x3.Pod, r2⟩ : T_api_Bound))).length R (len_set _ _ _ _)) <| VR.shift (Shift.reSl 27 (List.map T_api_Bound.vv (List.set out2 (x).toNat (⟨x3.Pod, r2⟩ : T_api_Bound))).length R (len_set _ _ _ _)) <| VR.shift (Shift.reSl 32 (List.map T_api_Bound.vv (List.set out2 (x).toNat (⟨x3.Pod, r2⟩ : T_api_Bound))).length R (len_set _ _ _ _)) <| VR.nil <| VW.region <| VR.p R R (VP.move R) <| VR.p R R (VP.fieldP R fa39_0) <| VR.p R R (VP.loadP (i := 0) R R ld9 R) <| VR.p R R (VP.move R) <| VR.p R R (VP.buildP pl53 R R) ?_
    refine VR.cons R R (VO.buildSlice ap41 R R R R R fun b3 => ?_)
    obtain ⟨moves4, h17, hm⟩ := bnd hm
    refine VR.cons R R (VO.apT 2 T_api_Move.vv (l := moves2) (l2 := [(⟨x2.Pod.Name, r2⟩ : T_api_Move)]) ap41 R R (sT_row 0 T_api_Move.vv el41 R R) h17 fun ob8 cap5 => ?_)
    refine VR.p R R (VP.assign R) <| VR.nil <| VW.region <| VR.p R R (VP.arith R R R) <| VR.p R R (VP.move R) <| VR.nil ?_
    exact ⟨((List.set out2 (x).toNat (⟨x3.Pod, r2⟩ : T_api_Bound)), moves4), ((some b), ob8, cap5), hm, (Shift.pick [2, 2] R ⟨R, R, R, R, R, congrArg some (k_next h9 h8), trivial⟩)⟩
   ·have h14 := bf h14
    refine VW.condF R h14 <| VW.skip <| VW.region <| VR.p R R (VP.arith R R R) <| VR.p R R (VP.move R) <| VR.nil ?_
    exact ⟨(out2, moves2), ((some b), ob5, cap3), hm, (Shift.pick [1, 1] R ⟨R, R, R, R, R, congrArg some (k_next h9 h8), trivial⟩)⟩
 ·rintro j ⟨ob6, ob7, cap4⟩ rfl
  have hm := h7
  refine VW.seq <| VW.region <| VR.p R R (VP.move R) <| VR.p R R (VP.move R) <| VR.p R R (VP.assign R) <| VR.p R R (VP.assign R) <| VR.nil ?_
  obtain rfl := Option.some.inj hm
  exact VW.ret ⟨.inl R, _, .cons (.tmp _ _ R) (.cons (.tmp _ _ R) .nil), [1, 0], _, R, ob6, cap, ob7, cap4, R, R⟩

/-! trireme/triremeref02.Ints -/
def ref02_Ints.l1 (a : List Int) (b : List Int) : Nat → Int → Option (Out Bool Unit)
 | 0, _ => none
 | n + 1, i2 =>
  if (decide (i2 < (a.length : Int))) = true then
   (V.gl a i2).bind fun x =>
   (V.gl b i2).bind fun x2 =>
   if (x != x2) = true then
    some (Out.ret false)
   else
    ref02_Ints.l1 a b n (IntKind.i64.wrap (i2 + (1 : Int)))
  else
   some (Out.go ())
def ref02_Ints (a : List Int) (b : List Int) : Option Bool :=
 if ((a.length : Int) != (b.length : Int)) = true then
  some false
 else
  (ref02_Ints.l1 a b FU (0 : Int)).bind fun o =>
  o.on fun j =>
  some true
theorem ref02_Ints_ok (a : List Int) (b : List Int) (r : Bool) (hm : ref02_Ints a b = some r) :
  VC Try.prog 22 [.list 3 (List.map (VV.int .i64) a), .list 3 (List.map (VV.int .i64) b)] [] (fun zx zH => zx = .bool r ∧ zH = []) := by
 unfold ref02_Ints at hm
 refine VC.run (c := _) (rs := [.tmp 4]) Try.func22 R R R <| VW.seq <| VW.region <| VR.p R R (VP.assign R) <| VR.nil <| VW.seq <| VW.seq <| VW.region <| VR.p R R (VP.move R) <| VR.p R R (VP.lenT (VV.int .i64) R Try.underlying37) <| VR.p R R (VP.move R) <| VR.p R R (VP.lenT (VV.int .i64) R Try.underlying37) <| VR.p R R (VP.arith R R R) <| VR.nil ?_
 rcases ite_or hm with ⟨h1, hm⟩ | ⟨h1, hm⟩
 ·refine VW.condT R h1 <| VW.seq <| VW.region <| VR.p R R (VP.assign R) <| VR.nil ?_
  obtain rfl := Option.some.inj hm
  exact VW.ret ⟨.inl R, _, .cons (.tmp _ _ R) .nil, [], _, R, R, R⟩
 ·have h1 := bf h1
  refine VW.condF R h1 <| VW.skip <| VW.seq <| VW.seq <| VW.region <| VR.p R R (VP.assign R) <| VR.nil ?_
  obtain ⟨o, h2, h3⟩ := bnd hm
  refine VW.joinE (fun (q : Unit) => o = Out.go q) (fun (j : Unit) (gg : Unit) => []) (fun (j : Unit) (gg : Unit) => []) ?_ ?_
  ·have hm := h2
   refine VW.block (VW.loop FU ?_)
   refine VL.fuelS (R := _) (fun zn (zs : Int) => ref02_Ints.l1 a b zn zs) (fun (zs : Int) (zg : Unit) => [(0, .list 3 (List.map (VV.int .i64) a)), (1, .list 3 (List.map (VV.int .i64) b)), (5, .int .i64 zs)]) (fun (zs : Int) (zg : Unit) => []) (0 : Int) () (fun zs => R) (Shift.pick [] R ⟨R, R, R, trivial⟩) h2 ?_
   rintro n i2 _ hm
   rw [ref02_Ints.l1] at hm
   refine VW.seq <| VW.seq <| VW.region <| VR.p R R (VP.move R) <| VR.p R R (VP.move R) <| VR.p R R (VP.lenT (VV.int .i64) R Try.underlying37) <| VR.p R R (VP.arith R R R) <| VR.nil ?_
   rcases ite_or hm with ⟨h4, hm⟩ | ⟨h4, hm⟩
   ·refine VW.condT R h4 <| VW.skip <| VW.seq <| VW.block <| VW.seq <| VW.drawK 0 mixed <| VA.p 0 R R R (by kernel_rfl) (VP.move R) <| VA.p 1 R R R (by kernel_rfl) (VP.move R) ?_
    obtain ⟨x, h5, hm⟩ := bnd hm
    refine VA.p 2 R R R (by kernel_rfl) (VP.glE (VV.int .i64) R R el37 h5) <| VA.p 3 R R R (by kernel_rfl) (VP.loadE R ld3 R) <| VA.p 4 R R R (by kernel_rfl) (VP.move R) <| VA.p 5 R R R (by kernel_rfl) (VP.move R) ?_
    obtain ⟨x2, h6, hm⟩ := bnd hm
    refine VA.p 6 R R R (by kernel_rfl) (VP.glE (VV.int .i64) R R el37 h6) <| VA.p 7 R R R (by kernel_rfl) (VP.loadE R ld3 R) <| VA.p 8 R R R (by kernel_rfl) (VP.arith R R R) <| VA.done (by kernel_rfl) ?_
    rcases ite_or hm with ⟨h7, hm⟩ | ⟨h7, hm⟩
    ·refine VW.condT R h7 <| VW.seq <| VW.region <| VR.p R R (VP.assign R) <| VR.nil ?_
     obtain rfl := Option.some.inj hm
     have hm := Out.ret_on h3
     obtain rfl := Option.some.inj hm
     exact VW.ret ⟨.inl R, _, .cons (.tmp _ _ R) .nil, [], _, R, R, R⟩
    ·have h7 := bf h7
     refine VW.condF R h7 <| VW.skip <| VW.region <| VR.p R R (VP.move R) <| VR.p R R (VP.arith R R R) <| VR.p R R (VP.assign R) <| VR.nil ?_
     exact ⟨(IntKind.i64.wrap (i2 + (1 : Int))), (), hm, (Shift.pick [] R ⟨R, R, R, trivial⟩)⟩
   ·have h4 := bf h4
    refine VW.condF R h4 <| VW.exit ?_
    exact ⟨(), (), (Option.some.inj hm).symm, (Shift.pick [] R trivial)⟩
  ·rintro j _ rfl
   have hm := Out.go_on h3
   refine VW.seq <| VW.region <| VR.p R R (VP.assign R) <| VR.nil ?_
   obtain rfl := Option.some.inj hm
   exact VW.ret ⟨.inl R, _, .cons (.tmp _ _ R) .nil, [], _, R, R, R⟩

/-! trireme/triremeref14.Moves -/
def ref14_Moves.l1 (a : List T_api_Move) (b : List T_api_Move) : Nat → Int → Option (Out Bool Unit)
 | 0, _ => none
 | n + 1, i2 =>
  if (decide (i2 < (a.length : Int))) = true then
   (V.gl a i2).bind fun x =>
   (V.gl b i2).bind fun x2 =>
   if (!(((x.Pod == x2.Pod) && ((x.To == x2.To) && true)) == true)) = true then
    some (Out.ret false)
   else
    ref14_Moves.l1 a b n (IntKind.i64.wrap (i2 + (1 : Int)))
  else
   some (Out.go ())
def ref14_Moves (a : List T_api_Move) (b : List T_api_Move) : Option Bool :=
 if ((a.length : Int) != (b.length : Int)) = true then
  some false
 else
  (ref14_Moves.l1 a b FU (0 : Int)).bind fun o =>
  o.on fun j =>
  some true
theorem ref14_Moves_ok (a : List T_api_Move) (b : List T_api_Move) (r : Bool) (hm : ref14_Moves a b = some r) :
  VC Try.prog 21 [.list 53 (List.map T_api_Move.vv a), .list 53 (List.map T_api_Move.vv b)] [] (fun zx zH => zx = .bool r ∧ zH = []) := by
 unfold ref14_Moves at hm
 refine VC.run (c := _) (rs := [.tmp 4]) Try.func21 R R R <| VW.seq <| VW.region <| VR.p R R (VP.assign R) <| VR.nil <| VW.seq <| VW.seq <| VW.region <| VR.p R R (VP.move R) <| VR.p R R (VP.lenT T_api_Move.vv R Try.underlying41) <| VR.p R R (VP.move R) <| VR.p R R (VP.lenT T_api_Move.vv R Try.underlying41) <| VR.p R R (VP.arith R R R) <| VR.nil ?_
 rcases ite_or hm with ⟨h1, hm⟩ | ⟨h1, hm⟩
 ·refine VW.condT R h1 <| VW.seq <| VW.region <| VR.p R R (VP.assign R) <| VR.nil ?_
  obtain rfl := Option.some.inj hm
  exact VW.ret ⟨.inl R, _, .cons (.tmp _ _ R) .nil, [], _, R, R, R⟩
 ·have h1 := bf h1
  refine VW.condF R h1 <| VW.skip <| VW.seq <| VW.seq <| VW.region <| VR.p R R (VP.assign R) <| VR.nil ?_
  obtain ⟨o, h2, h3⟩ := bnd hm
  refine VW.joinE (fun (q : Unit) => o = Out.go q) (fun (j : Unit) (gg : Unit) => []) (fun (j : Unit) (gg : Unit) => []) ?_ ?_
  ·have hm := h2
   refine VW.block (VW.loop FU ?_)
   refine VL.fuelS (R := _) (fun zn (zs : Int) => ref14_Moves.l1 a b zn zs) (fun (zs : Int) (zg : Unit) => [(0, .list 53 (List.map T_api_Move.vv a)), (1, .list 53 (List.map T_api_Move.vv b)), (5, .int .i64 zs)]) (fun (zs : Int) (zg : Unit) => []) (0 : Int) () (fun zs => R) (Shift.pick [] R ⟨R, R, R, trivial⟩) h2 ?_
   rintro n i2 _ hm
   rw [ref14_Moves.l1] at hm
   refine VW.seq <| VW.seq <| VW.region <| VR.p R R (VP.move R) <| VR.p R R (VP.move R) <| VR.p R R (VP.lenT T_api_Move.vv R Try.underlying41) <| VR.p R R (VP.arith R R R) <| VR.nil ?_
   rcases ite_or hm with ⟨h4, hm⟩ | ⟨h4, hm⟩
   ·refine VW.condT R h4 <| VW.skip <| VW.seq <| VW.block <| VW.seq <| VW.drawK 0 mixed <| VA.p 0 R R R (by kernel_rfl) (VP.move R) <| VA.p 1 R R R (by kernel_rfl) (VP.move R) ?_
    obtain ⟨x, h5, hm⟩ := bnd hm
    refine VA.p 2 R R R (by kernel_rfl) (VP.glE T_api_Move.vv R R el41 h5) <| VA.p 3 R R R (by kernel_rfl) (VP.loadE R ld53 R) <| VA.p 4 R R R (by kernel_rfl) (VP.move R) <| VA.p 5 R R R (by kernel_rfl) (VP.move R) ?_
    obtain ⟨x2, h6, hm⟩ := bnd hm
    refine VA.p 6 R R R (by kernel_rfl) (VP.glE T_api_Move.vv R R el41 h6) <| VA.p 7 R R R (by kernel_rfl) (VP.loadE R ld53 R) <| VA.p 8 R R R (by kernel_rfl) (VP.eqS shp53 eq53 R R R R) <| VA.done (by kernel_rfl) ?_
    rcases ite_or hm with ⟨h7, hm⟩ | ⟨h7, hm⟩
    ·refine VW.condT R h7 <| VW.seq <| VW.region <| VR.p R R (VP.assign R) <| VR.nil ?_
     obtain rfl := Option.some.inj hm
     have hm := Out.ret_on h3
     obtain rfl := Option.some.inj hm
     exact VW.ret ⟨.inl R, _, .cons (.tmp _ _ R) .nil, [], _, R, R, R⟩
    ·have h7 := bf h7
     refine VW.condF R h7 <| VW.skip <| VW.region <| VR.p R R (VP.move R) <| VR.p R R (VP.arith R R R) <| VR.p R R (VP.assign R) <| VR.nil ?_
     exact ⟨(IntKind.i64.wrap (i2 + (1 : Int))), (), hm, (Shift.pick [] R ⟨R, R, R, trivial⟩)⟩
   ·have h4 := bf h4
    refine VW.condF R h4 <| VW.exit ?_
    exact ⟨(), (), (Option.some.inj hm).symm, (Shift.pick [] R trivial)⟩
  ·rintro j _ rfl
   have hm := Out.go_on h3
   refine VW.seq <| VW.region <| VR.p R R (VP.assign R) <| VR.nil ?_
   obtain rfl := Option.some.inj hm
   exact VW.ret ⟨.inl R, _, .cons (.tmp _ _ R) .nil, [], _, R, R, R⟩

/-! trireme/triremelaw14.known -/
def law14_known : Option Bool :=
 (sched_Step [(⟨(⟨#[109]⟩ : ByteArray), (⟨#[]⟩ : ByteArray), (⟨(1000 : Int), (0 : Int), (0 : Int), (9 : Int), (0 : Int)⟩ : T_api_Res), ([] : List T_api_Label), ([] : List T_api_Taint), true⟩ : T_api_Machine), (⟨(⟨#[110]⟩ : ByteArray), (⟨#[]⟩ : ByteArray), (⟨(1000 : Int), (0 : Int), (0 : Int), (9 : Int), (0 : Int)⟩ : T_api_Res), ([] : List T_api_Label), ([] : List T_api_Taint), true⟩ : T_api_Machine)] [(⟨(⟨(⟨#[112]⟩ : ByteArray), (⟨(600 : Int), (0 : Int), (0 : Int), (1 : Int), (0 : Int)⟩ : T_api_Res), ([] : List T_api_Label), ([] : List T_api_Label), ([] : List T_api_Term), ([] : List T_api_Toleration), ([] : List Int), ([] : List T_api_Label), false, ([] : List T_api_Label), (0 : Int), (0 : Int), (⟨#[]⟩ : ByteArray), false, false, false⟩ : T_api_Pod), (⟨#[]⟩ : ByteArray)⟩ : T_api_Bound), (⟨(⟨(⟨#[113]⟩ : ByteArray), (⟨(600 : Int), (0 : Int), (0 : Int), (1 : Int), (0 : Int)⟩ : T_api_Res), ([] : List T_api_Label), ([] : List T_api_Label), ([] : List T_api_Term), ([] : List T_api_Toleration), ([] : List Int), ([] : List T_api_Label), false, ([] : List T_api_Label), (0 : Int), (5 : Int), (⟨#[]⟩ : ByteArray), false, false, false⟩ : T_api_Pod), (⟨#[]⟩ : ByteArray)⟩ : T_api_Bound), (⟨(⟨(⟨#[114]⟩ : ByteArray), (⟨(600 : Int), (0 : Int), (0 : Int), (1 : Int), (0 : Int)⟩ : T_api_Res), ([] : List T_api_Label), ([] : List T_api_Label), ([] : List T_api_Term), ([] : List T_api_Toleration), ([] : List Int), ([] : List T_api_Label), false, ([] : List T_api_Label), (0 : Int), (0 : Int), (⟨#[]⟩ : ByteArray), false, false, false⟩ : T_api_Pod), (⟨#[]⟩ : ByteArray)⟩ : T_api_Bound)]).bind fun r =>
 (sched_Order [(⟨(⟨(⟨#[112]⟩ : ByteArray), (⟨(600 : Int), (0 : Int), (0 : Int), (1 : Int), (0 : Int)⟩ : T_api_Res), ([] : List T_api_Label), ([] : List T_api_Label), ([] : List T_api_Term), ([] : List T_api_Toleration), ([] : List Int), ([] : List T_api_Label), false, ([] : List T_api_Label), (0 : Int), (0 : Int), (⟨#[]⟩ : ByteArray), false, false, false⟩ : T_api_Pod), (⟨#[]⟩ : ByteArray)⟩ : T_api_Bound), (⟨(⟨(⟨#[113]⟩ : ByteArray), (⟨(600 : Int), (0 : Int), (0 : Int), (1 : Int), (0 : Int)⟩ : T_api_Res), ([] : List T_api_Label), ([] : List T_api_Label), ([] : List T_api_Term), ([] : List T_api_Toleration), ([] : List Int), ([] : List T_api_Label), false, ([] : List T_api_Label), (0 : Int), (5 : Int), (⟨#[]⟩ : ByteArray), false, false, false⟩ : T_api_Pod), (⟨#[]⟩ : ByteArray)⟩ : T_api_Bound), (⟨(⟨(⟨#[114]⟩ : ByteArray), (⟨(600 : Int), (0 : Int), (0 : Int), (1 : Int), (0 : Int)⟩ : T_api_Res), ([] : List T_api_Label), ([] : List T_api_Label), ([] : List T_api_Term), ([] : List T_api_Toleration), ([] : List Int), ([] : List T_api_Label), false, ([] : List T_api_Label), (0 : Int), (0 : Int), (⟨#[]⟩ : ByteArray), false, false, false⟩ : T_api_Pod), (⟨#[]⟩ : ByteArray)⟩ : T_api_Bound)]).bind fun r7 =>
 (ref02_Ints r7 [(1 : Int), (0 : Int), (2 : Int)]).bind fun r8 =>
 (if (r8 && ((r.1.length : Int) == (3 : Int))) = true then (V.gl r.1 (0 : Int)).bind fun x8 =>
 some (V.seq x8.On (⟨#[110]⟩ : ByteArray)) else some false).bind fun c8 =>
 (if c8 = true then (V.gl r.1 (1 : Int)).bind fun x9 =>
 some (V.seq x9.On (⟨#[109]⟩ : ByteArray)) else some false).bind fun c9 =>
 (if c9 = true then (V.gl r.1 (2 : Int)).bind fun x10 =>
 some (V.seq x10.On (⟨#[]⟩ : ByteArray)) else some false).bind fun c10 =>
 (if c10 = true then (ref14_Moves r.2 [(⟨(⟨#[113]⟩ : ByteArray), (⟨#[109]⟩ : ByteArray)⟩ : T_api_Move), (⟨(⟨#[112]⟩ : ByteArray), (⟨#[110]⟩ : ByteArray)⟩ : T_api_Move)]).bind fun r9 =>
 some r9 else some false).bind fun c11 =>
 (if c11 = true then (V.gl [(⟨(⟨(⟨#[112]⟩ : ByteArray), (⟨(600 : Int), (0 : Int), (0 : Int), (1 : Int), (0 : Int)⟩ : T_api_Res), ([] : List T_api_Label), ([] : List T_api_Label), ([] : List T_api_Term), ([] : List T_api_Toleration), ([] : List Int), ([] : List T_api_Label), false, ([] : List T_api_Label), (0 : Int), (0 : Int), (⟨#[]⟩ : ByteArray), false, false, false⟩ : T_api_Pod), (⟨#[]⟩ : ByteArray)⟩ : T_api_Bound), (⟨(⟨(⟨#[113]⟩ : ByteArray), (⟨(600 : Int), (0 : Int), (0 : Int), (1 : Int), (0 : Int)⟩ : T_api_Res), ([] : List T_api_Label), ([] : List T_api_Label), ([] : List T_api_Term), ([] : List T_api_Toleration), ([] : List Int), ([] : List T_api_Label), false, ([] : List T_api_Label), (0 : Int), (5 : Int), (⟨#[]⟩ : ByteArray), false, false, false⟩ : T_api_Pod), (⟨#[]⟩ : ByteArray)⟩ : T_api_Bound), (⟨(⟨(⟨#[114]⟩ : ByteArray), (⟨(600 : Int), (0 : Int), (0 : Int), (1 : Int), (0 : Int)⟩ : T_api_Res), ([] : List T_api_Label), ([] : List T_api_Label), ([] : List T_api_Term), ([] : List T_api_Toleration), ([] : List Int), ([] : List T_api_Label), false, ([] : List T_api_Label), (0 : Int), (0 : Int), (⟨#[]⟩ : ByteArray), false, false, false⟩ : T_api_Pod), (⟨#[]⟩ : ByteArray)⟩ : T_api_Bound)] (2 : Int)).bind fun x11 =>
 (sched_Best [(⟨(⟨#[109]⟩ : ByteArray), (⟨#[]⟩ : ByteArray), (⟨(1000 : Int), (0 : Int), (0 : Int), (9 : Int), (0 : Int)⟩ : T_api_Res), ([] : List T_api_Label), ([] : List T_api_Taint), true⟩ : T_api_Machine), (⟨(⟨#[110]⟩ : ByteArray), (⟨#[]⟩ : ByteArray), (⟨(1000 : Int), (0 : Int), (0 : Int), (9 : Int), (0 : Int)⟩ : T_api_Res), ([] : List T_api_Label), ([] : List T_api_Taint), true⟩ : T_api_Machine)] r.1 x11.Pod).bind fun r10 =>
 some (V.seq r10 (⟨#[]⟩ : ByteArray)) else some false).bind fun c12 =>
 (if c12 = true then (V.gl [(⟨(⟨(⟨#[112]⟩ : ByteArray), (⟨(600 : Int), (0 : Int), (0 : Int), (1 : Int), (0 : Int)⟩ : T_api_Res), ([] : List T_api_Label), ([] : List T_api_Label), ([] : List T_api_Term), ([] : List T_api_Toleration), ([] : List Int), ([] : List T_api_Label), false, ([] : List T_api_Label), (0 : Int), (0 : Int), (⟨#[]⟩ : ByteArray), false, false, false⟩ : T_api_Pod), (⟨#[]⟩ : ByteArray)⟩ : T_api_Bound), (⟨(⟨(⟨#[113]⟩ : ByteArray), (⟨(600 : Int), (0 : Int), (0 : Int), (1 : Int), (0 : Int)⟩ : T_api_Res), ([] : List T_api_Label), ([] : List T_api_Label), ([] : List T_api_Term), ([] : List T_api_Toleration), ([] : List Int), ([] : List T_api_Label), false, ([] : List T_api_Label), (0 : Int), (5 : Int), (⟨#[]⟩ : ByteArray), false, false, false⟩ : T_api_Pod), (⟨#[]⟩ : ByteArray)⟩ : T_api_Bound), (⟨(⟨(⟨#[114]⟩ : ByteArray), (⟨(600 : Int), (0 : Int), (0 : Int), (1 : Int), (0 : Int)⟩ : T_api_Res), ([] : List T_api_Label), ([] : List T_api_Label), ([] : List T_api_Term), ([] : List T_api_Toleration), ([] : List Int), ([] : List T_api_Label), false, ([] : List T_api_Label), (0 : Int), (0 : Int), (⟨#[]⟩ : ByteArray), false, false, false⟩ : T_api_Pod), (⟨#[]⟩ : ByteArray)⟩ : T_api_Bound)] (2 : Int)).bind fun x12 =>
 (sched_Best [(⟨(⟨#[109]⟩ : ByteArray), (⟨#[]⟩ : ByteArray), (⟨(1000 : Int), (0 : Int), (0 : Int), (9 : Int), (0 : Int)⟩ : T_api_Res), ([] : List T_api_Label), ([] : List T_api_Taint), true⟩ : T_api_Machine), (⟨(⟨#[110]⟩ : ByteArray), (⟨#[]⟩ : ByteArray), (⟨(1000 : Int), (0 : Int), (0 : Int), (9 : Int), (0 : Int)⟩ : T_api_Res), ([] : List T_api_Label), ([] : List T_api_Taint), true⟩ : T_api_Machine)] ([] : List T_api_Bound) x12.Pod).bind fun r11 =>
 some (V.seq r11 (⟨#[109]⟩ : ByteArray)) else some false).bind fun c13 =>
 some c13
theorem law14_known_ok (r : Bool) (hm : law14_known = some r) :
  VC Try.prog 9 [] [] (fun zx zH => zx = .bool r ∧ zH = []) := by
 unfold law14_known at hm
 refine VC.run (c := _) (rs := [.tmp 0]) Try.func9 R R R <| VW.seq <| VW.region <| VR.p R R (VP.assign R) <| VR.nil <| VW.seq <| VW.region <| VR.p R R (VP.buildP pl26 R R) <| VR.p R R (VP.buildP pl30 R R) <| VR.p R R (VP.buildP pl26 R R) <| VR.p R R (VP.buildP pl30 R R) <| VR.shift (Shift.trans (Shift.nilRow 92) (Shift.trans (Shift.freezeE 0 [(6, .agg [.str (⟨#[109]⟩ : ByteArray), .str (⟨#[]⟩ : ByteArray), .int .i64 (1000 : Int), .int .i64 (0 : Int), .int .i64 (0 : Int), .int .i64 (9 : Int), .int .i64 (0 : Int), .list 92 (List.map T_api_Label.vv ([] : List T_api_Label)), .sl none 0 0, .bool true])] R ⟨⟨_, R, .aggL ⟨.same _, .same _, .same _, .same _, .same _, .same _, .same _, .here _ R, .same _, .same _, trivial⟩⟩, trivial⟩ (FzH.refl _)) (Shift.trans (Shift.nilRow 96) (Shift.trans (Shift.freezeE 0 [(6, T_api_Machine.vv (⟨(⟨#[109]⟩ : ByteArray), (⟨#[]⟩ : ByteArray), (⟨(1000 : Int), (0 : Int), (0 : Int), (9 : Int), (0 : Int)⟩ : T_api_Res), ([] : List T_api_Label), ([] : List T_api_Taint), true⟩ : T_api_Machine))] R ⟨⟨_, R, .aggL ⟨.same _, .same _, .same _, .same _, .same _, .same _, .same _, .same _, .here _ R, .same _, trivial⟩⟩, trivial⟩ (FzH.refl _)) (Shift.trans (Shift.nilRow 92) (Shift.trans (Shift.freezeE 0 [(8, .agg [.str (⟨#[110]⟩ : ByteArray), .str (⟨#[]⟩ : ByteArray), .int .i64 (1000 : Int), .int .i64 (0 : Int), .int .i64 (0 : Int), .int .i64 (9 : Int), .int .i64 (0 : Int), .list 92 (List.map T_api_Label.vv ([] : List T_api_Label)), .sl none 0 0, .bool true])] R ⟨⟨_, R, .aggL ⟨.same _, .same _, .same _, .same _, .same _, .same _, .same _, .here _ R, .same _, .same _, trivial⟩⟩, trivial⟩ (FzH.refl _)) (Shift.trans (Shift.nilRow 96) (Shift.freezeE 0 [(8, T_api_Machine.vv (⟨(⟨#[110]⟩ : ByteArray), (⟨#[]⟩ : ByteArray), (⟨(1000 : Int), (0 : Int), (0 : Int), (9 : Int), (0 : Int)⟩ : T_api_Res), ([] : List T_api_Label), ([] : List T_api_Taint), true⟩ : T_api_Machine))] R ⟨⟨_, R, .aggL ⟨.same _, .same _, .same _, .same _, .same _, .same _, .same _, .same _, .here _ R, .same _, trivial⟩⟩, trivial⟩ (FzH.refl _))))))))) ?_
 refine VR.cons R R (VO.buildSlice ap22 R R R R R fun b => ?_)
 refine VR.shift (Shift.freezeE 0 [(9, .list 30 (List.map T_api_Machine.vv [(⟨(⟨#[109]⟩ : ByteArray), (⟨#[]⟩ : ByteArray), (⟨(1000 : Int), (0 : Int), (0 : Int), (9 : Int), (0 : Int)⟩ : T_api_Res), ([] : List T_api_Label), ([] : List T_api_Taint), true⟩ : T_api_Machine), (⟨(⟨#[110]⟩ : ByteArray), (⟨#[]⟩ : ByteArray), (⟨(1000 : Int), (0 : Int), (0 : Int), (9 : Int), (0 : Int)⟩ : T_api_Res), ([] : List T_api_Label), ([] : List T_api_Taint), true⟩ : T_api_Machine)]))] R ⟨⟨_, R, .here _ R⟩, trivial⟩ (FzH.refl _)) <| VR.p R R (VP.assign R) <| VR.nil <| VW.seq <| VW.region <| VR.p R R (VP.buildP pl26 R R) <| VR.p R R (VP.buildP pl39 R R) <| VR.p R R (VP.buildP pl50 R R) <| VR.p R R (VP.buildP pl26 R R) <| VR.p R R (VP.buildP pl39 R R) <| VR.p R R (VP.buildP pl50 R R) <| VR.p R R (VP.buildP pl26 R R) <| VR.p R R (VP.buildP pl39 R R) <| VR.p R R (VP.buildP pl50 R R) <| VR.shift (Shift.trans (Shift.nilRow 92) (Shift.trans (Shift.freezeE 0 [(12, .agg [.str (⟨#[112]⟩ : ByteArray), .int .i64 (600 : Int), .int .i64 (0 : Int), .int .i64 (0 : Int), .int .i64 (1 : Int), .int .i64 (0 : Int), .list 92 (List.map T_api_Label.vv ([] : List T_api_Label)), .list 92 (List.map T_api_Label.vv ([] : List T_api_Label)), .sl none 0 0, .sl none 0 0, .sl none 0 0, .list 92 (List.map T_api_Label.vv ([] : List T_api_Label)), .bool false, .list 92 (List.map T_api_Label.vv ([] : List T_api_Label)), .int .i64 (0 : Int), .int .i64 (0 : Int), .str (⟨#[]⟩ : ByteArray), .bool false, .bool false, .bool false, .str (⟨#[]⟩ : ByteArray)])] R ⟨⟨_, R, .aggL ⟨.same _, .same _, .same _, .same _, .same _, .same _, .here _ R, .here _ R, .same _, .same _, .same _, .here _ R, .same _, .here _ R, .same _, .same _, .same _, .same _, .same _, .same _, .same _, trivial⟩⟩, trivial⟩ (FzH.refl _)) (Shift.trans (Shift.nilRow 90) (Shift.trans (Shift.freezeE 0 [(12, .agg [.str (⟨#[112]⟩ : ByteArray), .int .i64 (600 : Int), .int .i64 (0 : Int), .int .i64 (0 : Int), .int .i64 (1 : Int), .int .i64 (0 : Int), .list 92 (List.map T_api_Label.vv ([] : List T_api_Label)), .list 92 (List.map T_api_Label.vv ([] : List T_api_Label)), .list 90 (List.map T_api_Term.vv ([] : List T_api_Term)), .sl none 0 0, .sl none 0 0, .list 92 (List.map T_api_Label.vv ([] : List T_api_Label)), .bool false, .list 92 (List.map T_api_Label.vv ([] : List T_api_Label)), .int .i64 (0 : Int), .int .i64 (0 : Int), .str (⟨#[]⟩ : ByteArray), .bool false, .bool false, .bool false, .str (⟨#[]⟩ : ByteArray)])] R ⟨⟨_, R, .aggL ⟨.same _, .same _, .same _, .same _, .same _, .same _, .same _, .same _, .here _ R, .same _, .same _, .same _, .same _, .same _, .same _, .same _, .same _, .same _, .same _, .same _, .same _, trivial⟩⟩, trivial⟩ (FzH.refl _)) (Shift.trans (Shift.nilRow 94) (Shift.trans (Shift.freezeE 0 [(12, .agg [.str (⟨#[112]⟩ : ByteArray), .int .i64 (600 : Int), .int .i64 (0 : Int), .int .i64 (0 : Int), .int .i64 (1 : Int), .int .i64 (0 : Int), .list 92 (List.map T_api_Label.vv ([] : List T_api_Label)), .list 92 (List.map T_api_Label.vv ([] : List T_api_Label)), .list 90 (List.map T_api_Term.vv ([] : List T_api_Term)), .list 94 (List.map T_api_Toleration.vv ([] : List T_api_Toleration)), .sl none 0 0, .list 92 (List.map T_api_Label.vv ([] : List T_api_Label)), .bool false, .list 92 (List.map T_api_Label.vv ([] : List T_api_Label)), .int .i64 (0 : Int), .int .i64 (0 : Int), .str (⟨#[]⟩ : ByteArray), .bool false, .bool false, .bool false, .str (⟨#[]⟩ : ByteArray)])] R ⟨⟨_, R, .aggL ⟨.same _, .same _, .same _, .same _, .same _, .same _, .same _, .same _, .same _, .here _ R, .same _, .same _, .same _, .same _, .same _, .same _, .same _, .same _, .same _, .same _, .same _, trivial⟩⟩, trivial⟩ (FzH.refl _)) (Shift.trans (Shift.nilRow 3) (Shift.trans (Shift.freezeE 0 [(12, T_api_Bound.vv (⟨(⟨(⟨#[112]⟩ : ByteArray), (⟨(600 : Int), (0 : Int), (0 : Int), (1 : Int), (0 : Int)⟩ : T_api_Res), ([] : List T_api_Label), ([] : List T_api_Label), ([] : List T_api_Term), ([] : List T_api_Toleration), ([] : List Int), ([] : List T_api_Label), false, ([] : List T_api_Label), (0 : Int), (0 : Int), (⟨#[]⟩ : ByteArray), false, false, false⟩ : T_api_Pod), (⟨#[]⟩ : ByteArray)⟩ : T_api_Bound))] R ⟨⟨_, R, .aggL ⟨.same _, .same _, .same _, .same _, .same _, .same _, .same _, .same _, .same _, .same _, .here _ R, .same _, .same _, .same _, .same _, .same _, .same _, .same _, .same _, .same _, .same _, trivial⟩⟩, trivial⟩ (FzH.refl _)) (Shift.trans (Shift.nilRow 92) (Shift.trans (Shift.freezeE 0 [(15, .agg [.str (⟨#[113]⟩ : ByteArray), .int .i64 (600 : Int), .int .i64 (0 : Int), .int .i64 (0 : Int), .int .i64 (1 : Int), .int .i64 (0 : Int), .list 92 (List.map T_api_Label.vv ([] : List T_api_Label)), .list 92 (List.map T_api_Label.vv ([] : List T_api_Label)), .sl none 0 0, .sl none 0 0, .sl none 0 0, .list 92 (List.map T_api_Label.vv ([] : List T_api_Label)), .bool false, .list 92 (List.map T_api_Label.vv ([] : List T_api_Label)), .int .i64 (0 : Int), .int .i64 (5 : Int), .str (⟨#[]⟩ : ByteArray), .bool false, .bool false, .bool false, .str (⟨#[]⟩ : ByteArray)])] R ⟨⟨_, R, .aggL ⟨.same _, .same _, .same _, .same _, .same _, .same _, .here _ R, .here _ R, .same _, .same _, .same _, .here _ R, .same _, .here _ R, .same _, .same _, .same _, .same _, .same _, .same _, .same _, trivial⟩⟩, trivial⟩ (FzH.refl _)) (Shift.trans (Shift.nilRow 90) (Shift.trans (Shift.freezeE 0 [(15, .agg [.str (⟨#[113]⟩ : ByteArray), .int .i64 (600 : Int), .int .i64 (0 : Int), .int .i64 (0 : Int), .int .i64 (1 : Int), .int .i64 (0 : Int), .list 92 (List.map T_api_Label.vv ([] : List T_api_Label)), .list 92 (List.map T_api_Label.vv ([] : List T_api_Label)), .list 90 (List.map T_api_Term.vv ([] : List T_api_Term)), .sl none 0 0, .sl none 0 0, .list 92 (List.map T_api_Label.vv ([] : List T_api_Label)), .bool false, .list 92 (List.map T_api_Label.vv ([] : List T_api_Label)), .int .i64 (0 : Int), .int .i64 (5 : Int), .str (⟨#[]⟩ : ByteArray), .bool false, .bool false, .bool false, .str (⟨#[]⟩ : ByteArray)])] R ⟨⟨_, R, .aggL ⟨.same _, .same _, .same _, .same _, .same _, .same _, .same _, .same _, .here _ R, .same _, .same _, .same _, .same _, .same _, .same _, .same _, .same _, .same _, .same _, .same _, .same _, trivial⟩⟩, trivial⟩ (FzH.refl _)) (Shift.trans (Shift.nilRow 94) (Shift.trans (Shift.freezeE 0 [(15, .agg [.str (⟨#[113]⟩ : ByteArray), .int .i64 (600 : Int), .int .i64 (0 : Int), .int .i64 (0 : Int), .int .i64 (1 : Int), .int .i64 (0 : Int), .list 92 (List.map T_api_Label.vv ([] : List T_api_Label)), .list 92 (List.map T_api_Label.vv ([] : List T_api_Label)), .list 90 (List.map T_api_Term.vv ([] : List T_api_Term)), .list 94 (List.map T_api_Toleration.vv ([] : List T_api_Toleration)), .sl none 0 0, .list 92 (List.map T_api_Label.vv ([] : List T_api_Label)), .bool false, .list 92 (List.map T_api_Label.vv ([] : List T_api_Label)), .int .i64 (0 : Int), .int .i64 (5 : Int), .str (⟨#[]⟩ : ByteArray), .bool false, .bool false, .bool false, .str (⟨#[]⟩ : ByteArray)])] R ⟨⟨_, R, .aggL ⟨.same _, .same _, .same _, .same _, .same _, .same _, .same _, .same _, .same _, .here _ R, .same _, .same _, .same _, .same _, .same _, .same _, .same _, .same _, .same _, .same _, .same _, trivial⟩⟩, trivial⟩ (FzH.refl _)) (Shift.trans (Shift.nilRow 3) (Shift.trans (Shift.freezeE 0 [(15, T_api_Bound.vv (⟨(⟨(⟨#[113]⟩ : ByteArray), (⟨(600 : Int), (0 : Int), (0 : Int), (1 : Int), (0 : Int)⟩ : T_api_Res), ([] : List T_api_Label), ([] : List T_api_Label), ([] : List T_api_Term), ([] : List T_api_Toleration), ([] : List Int), ([] : List T_api_Label), false, ([] : List T_api_Label), (0 : Int), (5 : Int), (⟨#[]⟩ : ByteArray), false, false, false⟩ : T_api_Pod), (⟨#[]⟩ : ByteArray)⟩ : T_api_Bound))] R ⟨⟨_, R, .aggL ⟨.same _, .same _, .same _, .same _, .same _, .same _, .same _, .same _, .same _, .same _, .here _ R, .same _, .same _, .same _, .same _, .same _, .same _, .same _, .same _, .same _, .same _, trivial⟩⟩, trivial⟩ (FzH.refl _)) (Shift.trans (Shift.nilRow 92) (Shift.trans (Shift.freezeE 0 [(18, .agg [.str (⟨#[114]⟩ : ByteArray), .int .i64 (600 : Int), .int .i64 (0 : Int), .int .i64 (0 : Int), .int .i64 (1 : Int), .int .i64 (0 : Int), .list 92 (List.map T_api_Label.vv ([] : List T_api_Label)), .list 92 (List.map T_api_Label.vv ([] : List T_api_Label)), .sl none 0 0, .sl none 0 0, .sl none 0 0, .list 92 (List.map T_api_Label.vv ([] : List T_api_Label)), .bool false, .list 92 (List.map T_api_Label.vv ([] : List T_api_Label)), .int .i64 (0 : Int), .int .i64 (0 : Int), .str (⟨#[]⟩ : ByteArray), .bool false, .bool false, .bool false, .str (⟨#[]⟩ : ByteArray)])] R ⟨⟨_, R, .aggL ⟨.same _, .same _, .same _, .same _, .same _, .same _, .here _ R, .here _ R, .same _, .same _, .same _, .here _ R, .same _, .here _ R, .same _, .same _, .same _, .same _, .same _, .same _, .same _, trivial⟩⟩, trivial⟩ (FzH.refl _)) (Shift.trans (Shift.nilRow 90) (Shift.trans (Shift.freezeE 0 [(18, .agg [.str (⟨#[114]⟩ : ByteArray), .int .i64 (600 : Int), .int .i64 (0 : Int), .int .i64 (0 : Int), .int .i64 (1 : Int), .int .i64 (0 : Int), .list 92 (List.map T_api_Label.vv ([] : List T_api_Label)), .list 92 (List.map T_api_Label.vv ([] : List T_api_Label)), .list 90 (List.map T_api_Term.vv ([] : List T_api_Term)), .sl none 0 0, .sl none 0 0, .list 92 (List.map T_api_Label.vv ([] : List T_api_Label)), .bool false, .list 92 (List.map T_api_Label.vv ([] : List T_api_Label)), .int .i64 (0 : Int), .int .i64 (0 : Int), .str (⟨#[]⟩ : ByteArray), .bool false, .bool false, .bool false, .str (⟨#[]⟩ : ByteArray)])] R ⟨⟨_, R, .aggL ⟨.same _, .same _, .same _, .same _, .same _, .same _, .same _, .same _, .here _ R, .same _, .same _, .same _, .same _, .same _, .same _, .same _, .same _, .same _, .same _, .same _, .same _, trivial⟩⟩, trivial⟩ (FzH.refl _)) (Shift.trans (Shift.nilRow 94) (Shift.trans (Shift.freezeE 0 [(18, .agg [.str (⟨#[114]⟩ : ByteArray), .int .i64 (600 : Int), .int .i64 (0 : Int), .int .i64 (0 : Int), .int .i64 (1 : Int), .int .i64 (0 : Int), .list 92 (List.map T_api_Label.vv ([] : List T_api_Label)), .list 92 (List.map T_api_Label.vv ([] : List T_api_Label)), .list 90 (List.map T_api_Term.vv ([] : List T_api_Term)), .list 94 (List.map T_api_Toleration.vv ([] : List T_api_Toleration)), .sl none 0 0, .list 92 (List.map T_api_Label.vv ([] : List T_api_Label)), .bool false, .list 92 (List.map T_api_Label.vv ([] : List T_api_Label)), .int .i64 (0 : Int), .int .i64 (0 : Int), .str (⟨#[]⟩ : ByteArray), .bool false, .bool false, .bool false, .str (⟨#[]⟩ : ByteArray)])] R ⟨⟨_, R, .aggL ⟨.same _, .same _, .same _, .same _, .same _, .same _, .same _, .same _, .same _, .here _ R, .same _, .same _, .same _, .same _, .same _, .same _, .same _, .same _, .same _, .same _, .same _, trivial⟩⟩, trivial⟩ (FzH.refl _)) (Shift.trans (Shift.nilRow 3) (Shift.freezeE 0 [(18, T_api_Bound.vv (⟨(⟨(⟨#[114]⟩ : ByteArray), (⟨(600 : Int), (0 : Int), (0 : Int), (1 : Int), (0 : Int)⟩ : T_api_Res), ([] : List T_api_Label), ([] : List T_api_Label), ([] : List T_api_Term), ([] : List T_api_Toleration), ([] : List Int), ([] : List T_api_Label), false, ([] : List T_api_Label), (0 : Int), (0 : Int), (⟨#[]⟩ : ByteArray), false, false, false⟩ : T_api_Pod), (⟨#[]⟩ : ByteArray)⟩ : T_api_Bound))] R ⟨⟨_, R, .aggL ⟨.same _, .same _, .same _, .same _, .same _, .same _, .same _, .same _, .same _, .same _, .here _ R, .same _, .same _, .same _, .same _, .same _, .same _, .same _, .same _, .same _, .same _, trivial⟩⟩, trivial⟩ (FzH.refl _))))))))))))))))))))))))) ?_
 refine VR.cons R R (VO.buildSlice ap23 R R R R R fun b2 => ?_)
 refine VR.shift (Shift.freezeE 0 [(19, .list 50 (List.map T_api_Bound.vv [(⟨(⟨(⟨#[112]⟩ : ByteArray), (⟨(600 : Int), (0 : Int), (0 : Int), (1 : Int), (0 : Int)⟩ : T_api_Res), ([] : List T_api_Label), ([] : List T_api_Label), ([] : List T_api_Term), ([] : List T_api_Toleration), ([] : List Int), ([] : List T_api_Label), false, ([] : List T_api_Label), (0 : Int), (0 : Int), (⟨#[]⟩ : ByteArray), false, false, false⟩ : T_api_Pod), (⟨#[]⟩ : ByteArray)⟩ : T_api_Bound), (⟨(⟨(⟨#[113]⟩ : ByteArray), (⟨(600 : Int), (0 : Int), (0 : Int), (1 : Int), (0 : Int)⟩ : T_api_Res), ([] : List T_api_Label), ([] : List T_api_Label), ([] : List T_api_Term), ([] : List T_api_Toleration), ([] : List Int), ([] : List T_api_Label), false, ([] : List T_api_Label), (0 : Int), (5 : Int), (⟨#[]⟩ : ByteArray), false, false, false⟩ : T_api_Pod), (⟨#[]⟩ : ByteArray)⟩ : T_api_Bound), (⟨(⟨(⟨#[114]⟩ : ByteArray), (⟨(600 : Int), (0 : Int), (0 : Int), (1 : Int), (0 : Int)⟩ : T_api_Res), ([] : List T_api_Label), ([] : List T_api_Label), ([] : List T_api_Term), ([] : List T_api_Toleration), ([] : List Int), ([] : List T_api_Label), false, ([] : List T_api_Label), (0 : Int), (0 : Int), (⟨#[]⟩ : ByteArray), false, false, false⟩ : T_api_Pod), (⟨#[]⟩ : ByteArray)⟩ : T_api_Bound)]))] R ⟨⟨_, R, .here _ R⟩, trivial⟩ (FzH.refl _)) <| VR.p R R (VP.assign R) <| VR.nil <| VW.seq <| VW.region <| VR.p R R (VP.move R) <| VR.p R R (VP.move R) ?_
 obtain ⟨r, h3, hm⟩ := bnd hm
 refine VR.cons R R (VO.callK 0 R fn10 R (sched_Step_ok [(⟨(⟨#[109]⟩ : ByteArray), (⟨#[]⟩ : ByteArray), (⟨(1000 : Int), (0 : Int), (0 : Int), (9 : Int), (0 : Int)⟩ : T_api_Res), ([] : List T_api_Label), ([] : List T_api_Taint), true⟩ : T_api_Machine), (⟨(⟨#[110]⟩ : ByteArray), (⟨#[]⟩ : ByteArray), (⟨(1000 : Int), (0 : Int), (0 : Int), (9 : Int), (0 : Int)⟩ : T_api_Res), ([] : List T_api_Label), ([] : List T_api_Taint), true⟩ : T_api_Machine)] [(⟨(⟨(⟨#[112]⟩ : ByteArray), (⟨(600 : Int), (0 : Int), (0 : Int), (1 : Int), (0 : Int)⟩ : T_api_Res), ([] : List T_api_Label), ([] : List T_api_Label), ([] : List T_api_Term), ([] : List T_api_Toleration), ([] : List Int), ([] : List T_api_Label), false, ([] : List T_api_Label), (0 : Int), (0 : Int), (⟨#[]⟩ : ByteArray), false, false, false⟩ : T_api_Pod), (⟨#[]⟩ : ByteArray)⟩ : T_api_Bound), (⟨(⟨(⟨#[113]⟩ : ByteArray), (⟨(600 : Int), (0 : Int), (0 : Int), (1 : Int), (0 : Int)⟩ : T_api_Res), ([] : List T_api_Label), ([] : List T_api_Label), ([] : List T_api_Term), ([] : List T_api_Toleration), ([] : List Int), ([] : List T_api_Label), false, ([] : List T_api_Label), (0 : Int), (5 : Int), (⟨#[]⟩ : ByteArray), false, false, false⟩ : T_api_Pod), (⟨#[]⟩ : ByteArray)⟩ : T_api_Bound), (⟨(⟨(⟨#[114]⟩ : ByteArray), (⟨(600 : Int), (0 : Int), (0 : Int), (1 : Int), (0 : Int)⟩ : T_api_Res), ([] : List T_api_Label), ([] : List T_api_Label), ([] : List T_api_Term), ([] : List T_api_Toleration), ([] : List Int), ([] : List T_api_Label), false, ([] : List T_api_Label), (0 : Int), (0 : Int), (⟨#[]⟩ : ByteArray), false, false, false⟩ : T_api_Pod), (⟨#[]⟩ : ByteArray)⟩ : T_api_Bound)] r h3) fun _ _ h77 => ?_)
 obtain ⟨ob, cap, ob2, cap2, rfl, rfl⟩ := h77
 refine VR.p R R (VP.move R) <| VR.p R R (VP.extract R R) <| VR.p R R (VP.extract R R) <| VR.p R R (VP.assign R) <| VR.p R R (VP.assign R) <| VR.nil <| VW.seq <| VW.shift (Shift.freezeE 1 [(25, .list 53 (List.map T_api_Move.vv r.2)), (4, .list 53 (List.map T_api_Move.vv r.2))] R ⟨⟨_, R, .here _ R⟩, ⟨_, R, .here _ R⟩, trivial⟩ (FzH.refl _)) <| VW.shift (Shift.freezeE 0 [(24, .list 50 (List.map T_api_Bound.vv r.1)), (3, .list 50 (List.map T_api_Bound.vv r.1))] R ⟨⟨_, R, .here _ R⟩, ⟨_, R, .here _ R⟩, trivial⟩ (FzH.refl _)) <| VW.region <| VR.p R R (VP.move R) ?_
 obtain ⟨r7, h47, hm⟩ := bnd hm
 refine VR.cons R R (VO.callK 0 R fn11 R (sched_Order_ok [(⟨(⟨(⟨#[112]⟩ : ByteArray), (⟨(600 : Int), (0 : Int), (0 : Int), (1 : Int), (0 : Int)⟩ : T_api_Res), ([] : List T_api_Label), ([] : List T_api_Label), ([] : List T_api_Term), ([] : List T_api_Toleration), ([] : List Int), ([] : List T_api_Label), false, ([] : List T_api_Label), (0 : Int), (0 : Int), (⟨#[]⟩ : ByteArray), false, false, false⟩ : T_api_Pod), (⟨#[]⟩ : ByteArray)⟩ : T_api_Bound), (⟨(⟨(⟨#[113]⟩ : ByteArray), (⟨(600 : Int), (0 : Int), (0 : Int), (1 : Int), (0 : Int)⟩ : T_api_Res), ([] : List T_api_Label), ([] : List T_api_Label), ([] : List T_api_Term), ([] : List T_api_Toleration), ([] : List Int), ([] : List T_api_Label), false, ([] : List T_api_Label), (0 : Int), (5 : Int), (⟨#[]⟩ : ByteArray), false, false, false⟩ : T_api_Pod), (⟨#[]⟩ : ByteArray)⟩ : T_api_Bound), (⟨(⟨(⟨#[114]⟩ : ByteArray), (⟨(600 : Int), (0 : Int), (0 : Int), (1 : Int), (0 : Int)⟩ : T_api_Res), ([] : List T_api_Label), ([] : List T_api_Label), ([] : List T_api_Term), ([] : List T_api_Toleration), ([] : List Int), ([] : List T_api_Label), false, ([] : List T_api_Label), (0 : Int), (0 : Int), (⟨#[]⟩ : ByteArray), false, false, false⟩ : T_api_Pod), (⟨#[]⟩ : ByteArray)⟩ : T_api_Bound)] r7 h47) fun _ _ h76 => ?_)
 obtain ⟨rfl, rfl⟩ := h76
 refine VR.cons R R (VO.buildSlice ap37 R R R R R fun b13 => ?_)
 refine VR.shift (Shift.freezeE 0 [(28, .list 3 (List.map (VV.int .i64) [(1 : Int), (0 : Int), (2 : Int)]))] R ⟨⟨_, R, .here _ R⟩, trivial⟩ (FzH.refl _)) ?_
 obtain ⟨r8, h49, hm⟩ := bnd hm
 refine VR.cons R R (VO.callK 0 R fn22 R (ref02_Ints_ok r7 [(1 : Int), (0 : Int), (2 : Int)] r8 h49) fun _ _ h75 => ?_)
 obtain ⟨rfl, rfl⟩ := h75
 refine VR.p R R (VP.move R) ?_
 refine VR.sc 4 34 (.bool (r8 && ((r.1.length : Int) == (3 : Int)))) (fun K' J => ?_) ?_
 ·rcases Bool.eq_false_or_eq_true r8 with h50 | h50
  ·refine VR.pG R R R R h50 (VP.move R) <| VR.pG R R R R h50 (VP.lenT T_api_Bound.vv R Try.underlying23) <| VR.pG R R R R h50 (VP.arith R R R) <| VR.p R R (VP.pickB true R h50 R) ?_
   exact J [_, _, _] _ R (andT h50)
  ·refine VR.skipG R R R R h50 <| VR.skipG R R R R h50 <| VR.skipG R R R R h50 <| VR.p R R (VP.pickB false R h50 R) ?_
   exact J [_, _, _] _ R (andF h50)
 ·refine VR.p R R (VP.move R) ?_
  obtain ⟨c8, h53, hm⟩ := bnd hm
  refine VR.sc 6 41 (.bool c8) (fun K' J => ?_) ?_
  ·have hm := h53
   rcases ite_or hm with ⟨h51, hm⟩ | ⟨h51, hm⟩
   ·refine VR.pG R R R R h51 (VP.move R) ?_
    obtain ⟨x8, h52, hm⟩ := bnd hm
    refine VR.pG R R R R h51 (VP.glE T_api_Bound.vv R R el23 h52) <| VR.pG R R R R h51 (VP.fieldE R fa50_1) <| VR.pG R R R R h51 (VP.loadE R ld9 R) <| VR.pG R R R R h51 (VP.strop R R R) <| VR.p R R (VP.pickB true R h51 R) ?_
    exact J [_, _, _, _, _] _ R (congrArg VV.bool (Option.some.inj hm))
   ·have h51 := bf h51
    refine VR.skipG R R R R h51 <| VR.skipG R R R R h51 <| VR.skipG R R R R h51 <| VR.skipG R R R R h51 <| VR.skipG R R R R h51 <| VR.p R R (VP.pickB false R h51 R) ?_
    exact J [_, _, _, _, _] _ R (congrArg VV.bool (Option.some.inj hm))
  ·refine VR.p R R (VP.move R) ?_
   obtain ⟨c9, h56, hm⟩ := bnd hm
   refine VR.sc 6 48 (.bool c9) (fun K' J => ?_) ?_
   ·have hm := h56
    rcases ite_or hm with ⟨h54, hm⟩ | ⟨h54, hm⟩
    ·refine VR.pG R R R R h54 (VP.move R) ?_
     obtain ⟨x9, h55, hm⟩ := bnd hm
     refine VR.pG R R R R h54 (VP.glE T_api_Bound.vv R R el23 h55) <| VR.pG R R R R h54 (VP.fieldE R fa50_1) <| VR.pG R R R R h54 (VP.loadE R ld9 R) <| VR.pG R R R R h54 (VP.strop R R R) <| VR.p R R (VP.pickB true R h54 R) ?_
     exact J [_, _, _, _, _] _ R (congrArg VV.bool (Option.some.inj hm))
    ·have h54 := bf h54
     refine VR.skipG R R R R h54 <| VR.skipG R R R R h54 <| VR.skipG R R R R h54 <| VR.skipG R R R R h54 <| VR.skipG R R R R h54 <| VR.p R R (VP.pickB false R h54 R) ?_
     exact J [_, _, _, _, _] _ R (congrArg VV.bool (Option.some.inj hm))
   ·refine VR.p R R (VP.move R) ?_
    obtain ⟨c10, h59, hm⟩ := bnd hm
    refine VR.sc 6 55 (.bool c10) (fun K' J => ?_) ?_
    ·have hm := h59
     rcases ite_or hm with ⟨h57, hm⟩ | ⟨h57, hm⟩
     ·refine VR.pG R R R R h57 (VP.move R) ?_
      obtain ⟨x10, h58, hm⟩ := bnd hm
      refine VR.pG R R R R h57 (VP.glE T_api_Bound.vv R R el23 h58) <| VR.pG R R R R h57 (VP.fieldE R fa50_1) <| VR.pG R R R R h57 (VP.loadE R ld9 R) <| VR.pG R R R R h57 (VP.strop R R R) <| VR.p R R (VP.pickB true R h57 R) ?_
      exact J [_, _, _, _, _] _ R (congrArg VV.bool (Option.some.inj hm))
     ·have h57 := bf h57
      refine VR.skipG R R R R h57 <| VR.skipG R R R R h57 <| VR.skipG R R R R h57 <| VR.skipG R R R R h57 <| VR.skipG R R R R h57 <| VR.p R R (VP.pickB false R h57 R) ?_
      exact J [_, _, _, _, _] _ R (congrArg VV.bool (Option.some.inj hm))
    ·refine VR.p R R (VP.move R) ?_
     obtain ⟨c11, h64, hm⟩ := bnd hm
     refine VR.sc 6 62 (.bool c11) (fun K' J => ?_) ?_
     ·have hm := h64
      rcases ite_or hm with ⟨h60, hm⟩ | ⟨h60, hm⟩
      ·refine VR.pG R R R R h60 (VP.move R) <| VR.pG R R R R h60 (VP.buildP pl53 R R) <| VR.pG R R R R h60 (VP.buildP pl53 R R) ?_
       refine VR.consG R R R R h60 (VO.buildSlice ap41 R R R R R fun b14 => ?_)
       refine VR.shift (Shift.freezeE 0 [(60, .list 53 (List.map T_api_Move.vv [(⟨(⟨#[113]⟩ : ByteArray), (⟨#[109]⟩ : ByteArray)⟩ : T_api_Move), (⟨(⟨#[112]⟩ : ByteArray), (⟨#[110]⟩ : ByteArray)⟩ : T_api_Move)]))] R ⟨⟨_, R, .here _ R⟩, trivial⟩ (FzH.refl _)) ?_
       obtain ⟨r9, h62, hm⟩ := bnd hm
       refine VR.consG R R R R h60 (VO.callK 0 R fn21 R (ref14_Moves_ok r.2 [(⟨(⟨#[113]⟩ : ByteArray), (⟨#[109]⟩ : ByteArray)⟩ : T_api_Move), (⟨(⟨#[112]⟩ : ByteArray), (⟨#[110]⟩ : ByteArray)⟩ : T_api_Move)] r9 h62) fun _ _ h63 => ?_)
       obtain ⟨rfl, rfl⟩ := h63
       refine VR.p R R (VP.pickB true R h60 R) ?_
       exact J [_, _, _, _, _, _] _ R (congrArg VV.bool (Option.some.inj hm))
      ·have h60 := bf h60
       refine VR.skipG R R R R h60 <| VR.skipG R R R R h60 <| VR.skipG R R R R h60 <| VR.skipG R R R R h60 <| VR.skipG R R R R h60 <| VR.p R R (VP.pickB false R h60 R) ?_
       exact J [_, _, _, _, _] _ R (congrArg VV.bool (Option.some.inj hm))
     ·refine VR.p R R (VP.move R) ?_
      obtain ⟨c12, h69, hm⟩ := bnd hm
      refine VR.sc 9 72 (.bool c12) (fun K' J => ?_) ?_
      ·have hm := h69
       rcases ite_or hm with ⟨h65, hm⟩ | ⟨h65, hm⟩
       ·refine VR.pG R R R R h65 (VP.move R) <| VR.pG R R R R h65 (VP.move R) <| VR.pG R R R R h65 (VP.move R) ?_
        obtain ⟨x11, h66, hm⟩ := bnd hm
        refine VR.pG R R R R h65 (VP.glE T_api_Bound.vv R R el23 h66) <| VR.pG R R R R h65 (VP.fieldE R fa50_0) <| VR.pG R R R R h65 (VP.loadE R ld39 R) ?_
        obtain ⟨r10, h67, hm⟩ := bnd hm
        refine VR.consG R R R R h65 (VO.callK 0 R fn27 R (sched_Best_ok [(⟨(⟨#[109]⟩ : ByteArray), (⟨#[]⟩ : ByteArray), (⟨(1000 : Int), (0 : Int), (0 : Int), (9 : Int), (0 : Int)⟩ : T_api_Res), ([] : List T_api_Label), ([] : List T_api_Taint), true⟩ : T_api_Machine), (⟨(⟨#[110]⟩ : ByteArray), (⟨#[]⟩ : ByteArray), (⟨(1000 : Int), (0 : Int), (0 : Int), (9 : Int), (0 : Int)⟩ : T_api_Res), ([] : List T_api_Label), ([] : List T_api_Taint), true⟩ : T_api_Machine)] r.1 x11.Pod r10 h67) fun _ _ h68 => ?_)
        obtain ⟨rfl, rfl⟩ := h68
        refine VR.pG R R R R h65 (VP.strop R R R) <| VR.p R R (VP.pickB true R h65 R) ?_
        exact J [_, _, _, _, _, _, _, _] _ R (congrArg VV.bool (Option.some.inj hm))
       ·have h65 := bf h65
        refine VR.skipG R R R R h65 <| VR.skipG R R R R h65 <| VR.skipG R R R R h65 <| VR.skipG R R R R h65 <| VR.skipG R R R R h65 <| VR.skipG R R R R h65 <| VR.skipG R R R R h65 <| VR.skipG R R R R h65 <| VR.p R R (VP.pickB false R h65 R) ?_
        exact J [_, _, _, _, _, _, _, _] _ R (congrArg VV.bool (Option.some.inj hm))
      ·refine VR.p R R (VP.move R) ?_
       obtain ⟨c13, h74, hm⟩ := bnd hm
       refine VR.sc 8 81 (.bool c13) (fun K' J => ?_) ?_
       ·have hm := h74
        rcases ite_or hm with ⟨h70, hm⟩ | ⟨h70, hm⟩
        ·refine VR.pG R R R R h70 (VP.move R) <| VR.pG R R R R h70 (VP.move R) ?_
         obtain ⟨x12, h71, hm⟩ := bnd hm
         refine VR.pG R R R R h70 (VP.glE T_api_Bound.vv R R el23 h71) <| VR.pG R R R R h70 (VP.fieldE R fa50_0) <| VR.pG R R R R h70 (VP.loadE R ld39 R) ?_
         obtain ⟨r11, h72, hm⟩ := bnd hm
         refine VR.consG R R R R h70 (VO.callN 0 [.same, .nil 50, .same] R fn27 R (sched_Best_ok [(⟨(⟨#[109]⟩ : ByteArray), (⟨#[]⟩ : ByteArray), (⟨(1000 : Int), (0 : Int), (0 : Int), (9 : Int), (0 : Int)⟩ : T_api_Res), ([] : List T_api_Label), ([] : List T_api_Taint), true⟩ : T_api_Machine), (⟨(⟨#[110]⟩ : ByteArray), (⟨#[]⟩ : ByteArray), (⟨(1000 : Int), (0 : Int), (0 : Int), (9 : Int), (0 : Int)⟩ : T_api_Res), ([] : List T_api_Label), ([] : List T_api_Taint), true⟩ : T_api_Machine)] ([] : List T_api_Bound) x12.Pod r11 h72) fun _ _ h73 => ?_)
         obtain ⟨rfl, rfl⟩ := h73
         refine VR.pG R R R R h70 (VP.strop R R R) <| VR.p R R (VP.pickB true R h70 R) ?_
         exact J [_, _, _, _, _, _, _] _ R (congrArg VV.bool (Option.some.inj hm))
        ·have h70 := bf h70
         refine VR.skipG R R R R h70 <| VR.skipG R R R R h70 <| VR.skipG R R R R h70 <| VR.skipG R R R R h70 <| VR.skipG R R R R h70 <| VR.skipG R R R R h70 <| VR.skipG R R R R h70 <| VR.p R R (VP.pickB false R h70 R) ?_
         exact J [_, _, _, _, _, _, _] _ R (congrArg VV.bool (Option.some.inj hm))
       ·refine VR.p R R (VP.assign R) <| VR.nil ?_
        obtain rfl := Option.some.inj hm
        exact VW.ret ⟨.inl R, _, .cons (.tmp _ _ R) .nil, [], _, R, R, R⟩

/-! trireme/triremeref09.On -/
def ref09_On.l1 (bs : List T_api_Bound) (name : ByteArray) : Nat → (List T_api_Pod) → Int → Option (List T_api_Pod)
 | 0, _, _ => none
 | n + 1, out2, i2 =>
  if (decide (i2 < (bs.length : Int))) = true then
   (V.gl bs i2).bind fun x =>
   if (V.seq x.On name) = true then
    (V.gl bs i2).bind fun x2 =>
    (V.ap 272 out2 [x2.Pod]).bind fun out4 =>
    ref09_On.l1 bs name n out4 (IntKind.i64.wrap (i2 + (1 : Int)))
   else
    ref09_On.l1 bs name n out2 (IntKind.i64.wrap (i2 + (1 : Int)))
  else
   some out2
def ref09_On (bs : List T_api_Bound) (name : ByteArray) : Option (List T_api_Pod) :=
 (ref09_On.l1 bs name FU ([] : List T_api_Pod) (0 : Int)).bind fun out32 =>
 some out32
theorem ref09_On_ok (bs : List T_api_Bound) (name : ByteArray) (r : List T_api_Pod) (hm : ref09_On bs name = some r) :
  VC Try.prog 14 [.list 50 (List.map T_api_Bound.vv bs), .str name] [] (fun zx zH => ∃ (ob0 : Option Nat) (cap0 : Nat), zx = .sl ob0 (List.map T_api_Pod.vv r).length cap0 ∧ zH = [.row ob0 39 cap0 (List.map T_api_Pod.vv r)]) := by
 unfold ref09_On at hm
 refine VC.run (c := _) (rs := [.tmp 4]) Try.func14 R R R <| VW.seq <| VW.region <| VR.p R R (VP.assign R) <| VR.nil <| VW.seq <| VW.region <| VR.p R R (VP.assign R) <| VR.nil <| VW.seq <| VW.seq <| VW.region <| VR.p R R (VP.assign R) <| VR.nil ?_
 obtain ⟨o, h3, h4⟩ := bnd hm
 refine VW.joinE (fun (q : List T_api_Pod) => q = o) (fun (out32 : List T_api_Pod) (gg : Option Nat × Nat) => [(5, .sl gg.1 (List.map T_api_Pod.vv out32).length gg.2)]) (fun (out32 : List T_api_Pod) (gg : Option Nat × Nat) => [.row gg.1 39 gg.2 (List.map T_api_Pod.vv out32)]) ?_ ?_
 ·have hm := h3
  refine VW.block (VW.loop FU ?_)
  refine VL.fuelS (R := _) (fun zn (zs : List T_api_Pod × Int) => ref09_On.l1 bs name zn zs.1 zs.2) (fun (zs : List T_api_Pod × Int) (zg : Option Nat × Nat) => [(0, .list 50 (List.map T_api_Bound.vv bs)), (1, .str name), (5, .sl zg.1 (List.map T_api_Pod.vv zs.1).length zg.2), (6, .int .i64 zs.2)]) (fun (zs : List T_api_Pod × Int) (zg : Option Nat × Nat) => [.row zg.1 39 zg.2 (List.map T_api_Pod.vv zs.1)]) (([] : List T_api_Pod), (0 : Int)) (none, 0) (fun zs => R) (Shift.trans (Shift.nilRow 39) (Shift.pick [0] R ⟨R, R, R, R, trivial⟩)) h3 ?_
  rintro n ⟨out2, i2⟩ ⟨ob2, cap2⟩ hm
  rw [ref09_On.l1] at hm
  refine VW.seq <| VW.seq <| VW.region <| VR.p R R (VP.move R) <| VR.p R R (VP.move R) <| VR.p R R (VP.lenT T_api_Bound.vv R Try.underlying23) <| VR.p R R (VP.arith R R R) <| VR.nil ?_
  rcases ite_or hm with ⟨h5, hm⟩ | ⟨h5, hm⟩
  ·refine VW.condT R h5 <| VW.skip <| VW.seq <| VW.block <| VW.seq <| VW.region <| VR.p R R (VP.move R) <| VR.p R R (VP.move R) ?_
   obtain ⟨x, h6, hm⟩ := bnd hm
   refine VR.p R R (VP.glE T_api_Bound.vv R R el23 h6) <| VR.p R R (VP.fieldE R fa50_1) <| VR.p R R (VP.loadE R ld9 R) <| VR.p R R (VP.move R) <| VR.p R R (VP.strop R R R) <| VR.nil ?_
   rcases ite_or hm with ⟨h7, hm⟩ | ⟨h7, hm⟩
   ·refine VW.condT R h7 <| VW.region <| VR.p R R (VP.move R) <| VR.p R R (VP.move R) <| VR.p R R (VP.move R) ?_
    obtain ⟨x2, h8, hm⟩ := bnd hm
    refine VR.p R R (VP.glE T_api_Bound.vv R R el23 h8) <| VR.p R R (VP.fieldE R fa50_0) <| VR.p R R (VP.loadE R ld39 R) ?_
    refine VR.cons R R (VO.buildSlice ap24 R R R R R fun b => ?_)
    obtain ⟨out4, h10, hm⟩ := bnd hm
    refine VR.cons R R (VO.apT 1 T_api_Pod.vv (l := out2) (l2 := [x2.Pod]) ap24 R R (sT_row 0 T_api_Pod.vv el24 R R) h10 fun ob4 cap4 => ?_)
    refine VR.p R R (VP.assign R) <| VR.nil <| VW.region <| VR.p R R (VP.move R) <| VR.p R R (VP.arith R R R) <| VR.p R R (VP.assign R) <| VR.nil ?_
    exact ⟨(out4, (IntKind.i64.wrap (i2 + (1 : Int)))), (ob4, cap4), hm, (Shift.pick [1] R ⟨R, R, R, R, trivial⟩)⟩
   ·have h7 := bf h7
    refine VW.condF R h7 <| VW.skip <| VW.region <| VR.p R R (VP.move R) <| VR.p R R (VP.arith R R R) <| VR.p R R (VP.assign R) <| VR.nil ?_
    exact ⟨(out2, (IntKind.i64.wrap (i2 + (1 : Int)))), (ob2, cap2), hm, (Shift.pick [0] R ⟨R, R, R, R, trivial⟩)⟩
  ·have h5 := bf h5
   refine VW.condF R h5 <| VW.exit ?_
   exact ⟨out2, (ob2, cap2), Option.some.inj hm, (Shift.pick [0] R ⟨R, trivial⟩)⟩
 ·rintro out32 ⟨ob3, cap3⟩ rfl
  have hm := h4
  refine VW.seq <| VW.region <| VR.p R R (VP.move R) <| VR.p R R (VP.assign R) <| VR.nil ?_
  obtain rfl := Option.some.inj hm
  exact VW.ret ⟨.inl R, _, .cons (.tmp _ _ R) .nil, [0], _, R, ob3, cap3, R, R⟩

/-! trireme/triremelaw14.SchedCount -/
def law14_SchedCount.l2 (r4 : List Int) (i2 : Int) : Nat → Int → Option (Out (Out Bool Unit) Unit)
 | 0, _ => none
 | n2 + 1, k2 =>
  if (decide (k2 < i2)) = true then
   (V.gl r4 k2).bind fun x9 =>
   (V.gl r4 i2).bind fun x10 =>
   if (x9 == x10) = true then
    some (Out.ret (Out.ret false))
   else
    law14_SchedCount.l2 r4 i2 n2 (IntKind.i64.wrap (k2 + (1 : Int)))
  else
   some (Out.go ())
def law14_SchedCount.l1 (bs : List T_api_Bound) (r4 : List Int) : Nat → Int → Option (Out Bool Unit)
 | 0, _ => none
 | n + 1, i2 =>
  if (decide (i2 < (r4.length : Int))) = true then
   (V.gl r4 i2).bind fun x =>
   (if (decide (x < (0 : Int))) = true then some true else (V.gl r4 i2).bind fun x2 =>
   some (decide (x2 ≥ (bs.length : Int)))).bind fun c =>
   (if c = true then some true else (V.gl r4 i2).bind fun x3 =>
   (V.gl bs x3).bind fun x4 =>
   some (!(V.seq x4.On (⟨#[]⟩ : ByteArray)))).bind fun c2 =>
   (if c2 = true then some true else (if (decide (i2 > (0 : Int))) = true then (V.gl r4 i2).bind fun x5 =>
   (V.gl bs x5).bind fun x6 =>
   (V.gl r4 (IntKind.i64.wrap (i2 - (1 : Int)))).bind fun x7 =>
   (V.gl bs x7).bind fun x8 =>
   some (decide (x6.Pod.Rank > x8.Pod.Rank)) else some false).bind fun c3 =>
   some c3).bind fun c4 =>
   if c4 = true then
    some (Out.ret false)
   else
    (law14_SchedCount.l2 r4 i2 FU (0 : Int)).bind fun o2 =>
    o2.on fun j2 =>
    law14_SchedCount.l1 bs r4 n (IntKind.i64.wrap (i2 + (1 : Int)))
  else
   some (Out.go ())
def law14_SchedCount.l3 (ms : List T_api_Machine) (bs : List T_api_Bound) (r3 : List T_api_Bound × List T_api_Move) : Nat → Int → Option (Out Bool Unit)
 | 0, _ => none
 | n3 + 1, i4 =>
  if (decide (i4 < (r3.2.length : Int))) = true then
   (V.gl r3.2 i4).bind fun x11 =>
   (ref09_Place bs x11.Pod).bind fun r5 =>
   (V.gl r3.2 i4).bind fun x12 =>
   (ref09_Find ms x12.To).bind fun r6 =>
   (if ((decide (r5 < (0 : Int))) || (decide (r6 < (0 : Int)))) = true then some true else (V.gl bs r5).bind fun x13 =>
   some (!(V.seq x13.On (⟨#[]⟩ : ByteArray)))).bind fun c5 =>
   (if c5 = true then some true else (V.gl ms r6).bind fun x14 =>
   some (!x14.Ready)).bind fun c6 =>
   if c6 = true then
    some (Out.ret false)
   else
    law14_SchedCount.l3 ms bs r3 n3 (IntKind.i64.wrap (i4 + (1 : Int)))
  else
   some (Out.go ())
def law14_SchedCount (ms : List T_api_Machine) (bs : List T_api_Bound) : Option Bool :=
 (law14_right ms bs).bind fun r =>
 if (!r) = true then
  (law14_known).bind fun r2 =>
  some r2
 else
  (sched_Step ms bs).bind fun r3 =>
  (sched_Order bs).bind fun r4 =>
  (law14_SchedCount.l1 bs r4 FU (0 : Int)).bind fun o =>
  o.on fun j =>
  (law14_SchedCount.l3 ms bs r3 FU (0 : Int)).bind fun o3 =>
  o3.on fun j3 =>
  (ref09_On bs (⟨#[]⟩ : ByteArray)).bind fun r7 =>
  (if (((r4.length : Int) == (r7.length : Int)) && (decide ((r3.2.length : Int) ≤ (r4.length : Int)))) = true then (law14_known).bind fun r8 =>
  some r8 else some false).bind fun c7 =>
  some c7
theorem law14_SchedCount_ok (ms : List T_api_Machine) (bs : List T_api_Bound) (r : Bool) (hm : law14_SchedCount ms bs = some r) :
  VC Try.prog 4 [.list 30 (List.map T_api_Machine.vv ms), .list 50 (List.map T_api_Bound.vv bs)] [] (fun zx zH => zx = .bool r ∧ zH = []) := by
 unfold law14_SchedCount at hm
 refine VC.run (c := _) (rs := [.tmp 4]) Try.func4 R R R <| VW.seq <| VW.region <| VR.p R R (VP.assign R) <| VR.nil <| VW.seq <| VW.seq <| VW.region <| VR.p R R (VP.move R) <| VR.p R R (VP.move R) ?_
 obtain ⟨r, h1, hm⟩ := bnd hm
 refine VR.cons R R (VO.callK 0 R fn8 R (law14_right_ok ms bs r h1) fun _ _ h63 => ?_)
 obtain ⟨rfl, rfl⟩ := h63
 refine VR.p R R (VP.not R) <| VR.nil ?_
 rcases ite_or hm with ⟨h2, hm⟩ | ⟨h2, hm⟩
 ·refine VW.condT R h2 <| VW.seq <| VW.region ?_
  obtain ⟨r2, h3, hm⟩ := bnd hm
  refine VR.cons R R (VO.callK 0 R fn9 R (law14_known_ok r2 h3) fun _ _ h4 => ?_)
  obtain ⟨rfl, rfl⟩ := h4
  refine VR.p R R (VP.assign R) <| VR.nil ?_
  obtain rfl := Option.some.inj hm
  exact VW.ret ⟨.inl R, _, .cons (.tmp _ _ R) .nil, [], _, R, R, R⟩
 ·have h2 := bf h2
  refine VW.condF R h2 <| VW.skip <| VW.seq <| VW.region <| VR.p R R (VP.move R) <| VR.p R R (VP.move R) ?_
  obtain ⟨r3, h5, hm⟩ := bnd hm
  refine VR.cons R R (VO.callK 0 R fn10 R (sched_Step_ok ms bs r3 h5) fun _ _ h62 => ?_)
  obtain ⟨ob, cap, ob2, cap2, rfl, rfl⟩ := h62
  refine VR.p R R (VP.move R) <| VR.p R R (VP.extract R R) <| VR.p R R (VP.extract R R) <| VR.p R R (VP.assign R) <| VR.p R R (VP.assign R) <| VR.nil <| VW.seq <| VW.region <| VR.p R R (VP.move R) ?_
  obtain ⟨r4, h8, hm⟩ := bnd hm
  refine VR.cons R R (VO.callK 0 R fn11 R (sched_Order_ok bs r4 h8) fun _ _ h61 => ?_)
  obtain ⟨rfl, rfl⟩ := h61
  refine VR.p R R (VP.assign R) <| VR.nil <| VW.seq <| VW.seq <| VW.region <| VR.p R R (VP.assign R) <| VR.nil ?_
  obtain ⟨o, h9, h10⟩ := bnd hm
  refine VW.joinE (fun (q : Unit) => o = Out.go q) (fun (j : Unit) (gg : Unit) => [(0, .list 30 (List.map T_api_Machine.vv ms)), (1, .list 50 (List.map T_api_Bound.vv bs)), (6, .sl ob2 (List.map T_api_Move.vv r3.2).length cap2), (7, .list 3 (List.map (VV.int .i64) r4))]) (fun (j : Unit) (gg : Unit) => [.row ob2 53 cap2 (List.map T_api_Move.vv r3.2)]) ?_ ?_
  ·have hm := h9
   refine VW.block (VW.loop FU ?_)
   refine VL.fuelS (R := _) (fun zn (zs : Int) => law14_SchedCount.l1 bs r4 zn zs) (fun (zs : Int) (zg : Unit) => [(0, .list 30 (List.map T_api_Machine.vv ms)), (1, .list 50 (List.map T_api_Bound.vv bs)), (6, .sl ob2 (List.map T_api_Move.vv r3.2).length cap2), (7, .list 3 (List.map (VV.int .i64) r4)), (8, .int .i64 zs)]) (fun (zs : Int) (zg : Unit) => [.row ob2 53 cap2 (List.map T_api_Move.vv r3.2)]) (0 : Int) () (fun zs => R) (Shift.pick [1] R ⟨R, R, R, R, R, trivial⟩) h9 ?_
   rintro n i2 _ hm
   rw [law14_SchedCount.l1] at hm
   refine VW.seq <| VW.seq <| VW.region <| VR.p R R (VP.move R) <| VR.p R R (VP.move R) <| VR.p R R (VP.lenT (VV.int .i64) R Try.underlying37) <| VR.p R R (VP.arith R R R) <| VR.nil ?_
   rcases ite_or hm with ⟨h11, hm⟩ | ⟨h11, hm⟩
   ·refine VW.condT R h11 <| VW.skip <| VW.seq <| VW.block <| VW.seq <| VW.seq <| VW.drawK 0 mixed <| VA.p 0 R R R (by kernel_rfl) (VP.move R) <| VA.p 1 R R R (by kernel_rfl) (VP.move R) ?_
    obtain ⟨x, h12, hm⟩ := bnd hm
    refine VA.p 2 R R R (by kernel_rfl) (VP.glE (VV.int .i64) R R el37 h12) <| VA.p 3 R R R (by kernel_rfl) (VP.loadE R ld3 R) <| VA.p 4 R R R (by kernel_rfl) (VP.arith R R R) <| VA.p 5 R R R (by kernel_rfl) (VP.move R) ?_
    obtain ⟨c, h15, hm⟩ := bnd hm
    refine VA.sc [13, 12, 11, 10, 9, 8, 7, 6, 5, 4, 3, 2, 1, 0] 45 (.bool c) (fun K' J => ?_) ?_
    ·have hm := h15
     rcases ite_or hm with ⟨h13, hm⟩ | ⟨h13, hm⟩
     ·refine VA.skipG 6 R R R R R h13 (by kernel_rfl) <| VA.skipG 7 R R R R R h13 (by kernel_rfl) <| VA.skipG 8 R R R R R h13 (by kernel_rfl) <| VA.skipG 9 R R R R R h13 (by kernel_rfl) <| VA.skipG 10 R R R R R h13 (by kernel_rfl) <| VA.skipG 11 R R R R R h13 (by kernel_rfl) <| VA.skipG 12 R R R R R h13 (by kernel_rfl) <| VA.p 13 R R R (by kernel_rfl) (VP.pickB true R h13 R) ?_
      exact J [_, _, _, _, _, _, _] _ R (congrArg VV.bool (Option.some.inj hm))
     ·have h13 := bf h13
      refine VA.pG 6 R R R R R h13 (by kernel_rfl) (VP.move R) <| VA.pG 7 R R R R R h13 (by kernel_rfl) (VP.move R) ?_
      obtain ⟨x2, h14, hm⟩ := bnd hm
      refine VA.pG 8 R R R R R h13 (by kernel_rfl) (VP.glE (VV.int .i64) R R el37 h14) <| VA.pG 9 R R R R R h13 (by kernel_rfl) (VP.loadE R ld3 R) <| VA.pG 10 R R R R R h13 (by kernel_rfl) (VP.move R) <| VA.pG 11 R R R R R h13 (by kernel_rfl) (VP.lenT T_api_Bound.vv R Try.underlying23) <| VA.pG 12 R R R R R h13 (by kernel_rfl) (VP.arith R R R) <| VA.p 13 R R R (by kernel_rfl) (VP.pickB false R h13 R) ?_
      exact J [_, _, _, _, _, _, _] _ R (congrArg VV.bool (Option.some.inj hm))
    ·refine VA.p 14 R R R (by kernel_rfl) (VP.move R) ?_
     obtain ⟨c2, h19, hm⟩ := bnd hm
     refine VA.sc [24, 23, 22, 21, 20, 19, 18, 17, 16, 15, 14, 13, 12, 11, 10, 9, 8, 7, 6, 5, 4, 3, 2, 1, 0] 56 (.bool c2) (fun K' J => ?_) ?_
     ·have hm := h19
      rcases ite_or hm with ⟨h16, hm⟩ | ⟨h16, hm⟩
      ·refine VA.skipG 15 R R R R R h16 (by kernel_rfl) <| VA.skipG 16 R R R R R h16 (by kernel_rfl) <| VA.skipG 17 R R R R R h16 (by kernel_rfl) <| VA.skipG 18 R R R R R h16 (by kernel_rfl) <| VA.skipG 19 R R R R R h16 (by kernel_rfl) <| VA.skipG 20 R R R R R h16 (by kernel_rfl) <| VA.skipG 21 R R R R R h16 (by kernel_rfl) <| VA.skipG 22 R R R R R h16 (by kernel_rfl) <| VA.skipG 23 R R R R R h16 (by kernel_rfl) <| VA.p 24 R R R (by kernel_rfl) (VP.pickB true R h16 R) ?_
       exact J [_, _, _, _, _, _, _, _, _] _ R (congrArg VV.bool (Option.some.inj hm))
      ·have h16 := bf h16
       refine VA.pG 15 R R R R R h16 (by kernel_rfl) (VP.move R) <| VA.pG 16 R R R R R h16 (by kernel_rfl) (VP.move R) <| VA.pG 17 R R R R R h16 (by kernel_rfl) (VP.move R) ?_
       obtain ⟨x3, h17, hm⟩ := bnd hm
       refine VA.pG 18 R R R R R h16 (by kernel_rfl) (VP.glE (VV.int .i64) R R el37 h17) <| VA.pG 19 R R R R R h16 (by kernel_rfl) (VP.loadE R ld3 R) ?_
       obtain ⟨x4, h18, hm⟩ := bnd hm
       refine VA.pG 20 R R R R R h16 (by kernel_rfl) (VP.glE T_api_Bound.vv R R el23 h18) <| VA.pG 21 R R R R R h16 (by kernel_rfl) (VP.fieldE R fa50_1) <| VA.pG 22 R R R R R h16 (by kernel_rfl) (VP.loadE R ld9 R) <| VA.pG 23 R R R R R h16 (by kernel_rfl) (VP.strop R R R) <| VA.p 24 R R R (by kernel_rfl) (VP.pickB false R h16 R) ?_
       exact J [_, _, _, _, _, _, _, _, _] _ R (congrArg VV.bool (Option.some.inj hm))
     ·refine VA.p 25 R R R (by kernel_rfl) (VP.move R) ?_
      obtain ⟨c4, h27, hm⟩ := bnd hm
      refine VA.sc [50, 49, 48, 47, 46, 45, 44, 43, 42, 41, 40, 39, 38, 37, 36, 35, 34, 33, 32, 31, 30, 29, 28, 27, 26, 25, 24, 23, 22, 21, 20, 19, 18, 17, 16, 15, 14, 13, 12, 11, 10, 9, 8, 7, 6, 5, 4, 3, 2, 1, 0] 82 (.bool c4) (fun K' J => ?_) ?_
      ·have hm := h27
       rcases ite_or hm with ⟨h20, hm⟩ | ⟨h20, hm⟩
       ·refine VA.skipG 26 R R R R R h20 (by kernel_rfl) <| VA.skipG 27 R R R R R h20 (by kernel_rfl) <| VA.skipG 28 R R R R R h20 (by kernel_rfl) <| VA.skipU 29 R R R R R (by kernel_rfl) <| VA.skipU 30 R R R R R (by kernel_rfl) <| VA.skipU 31 R R R R R (by kernel_rfl) <| VA.skipU 32 R R R R R (by kernel_rfl) <| VA.skipU 33 R R R R R (by kernel_rfl) <| VA.skipU 34 R R R R R (by kernel_rfl) <| VA.skipU 35 R R R R R (by kernel_rfl) <| VA.skipU 36 R R R R R (by kernel_rfl) <| VA.skipU 37 R R R R R (by kernel_rfl) <| VA.skipU 38 R R R R R (by kernel_rfl) <| VA.skipU 39 R R R R R (by kernel_rfl) <| VA.skipU 40 R R R R R (by kernel_rfl) <| VA.skipU 41 R R R R R (by kernel_rfl) <| VA.skipU 42 R R R R R (by kernel_rfl) <| VA.skipU 43 R R R R R (by kernel_rfl) <| VA.skipU 44 R R R R R (by kernel_rfl) <| VA.skipU 45 R R R R R (by kernel_rfl) <| VA.skipU 46 R R R R R (by kernel_rfl) <| VA.skipU 47 R R R R R (by kernel_rfl) <| VA.skipU 48 R R R R R (by kernel_rfl) <| VA.skipG 49 R R R R R h20 (by kernel_rfl) <| VA.p 50 R R R (by kernel_rfl) (VP.pickB true R h20 R) ?_
        exact J [_, _, _, _, _, _, _, _, _, _, _, _, _, _, _, _, _, _, _, _, _, _, _, _] _ R (congrArg VV.bool (Option.some.inj hm))
       ·have h20 := bf h20
        refine VA.pG 26 R R R R R h20 (by kernel_rfl) (VP.move R) <| VA.pG 27 R R R R R h20 (by kernel_rfl) (VP.arith R R R) <| VA.pG 28 R R R R R h20 (by kernel_rfl) (VP.move R) ?_
        obtain ⟨c3, h26, hm⟩ := bnd hm
        refine VA.sc [49, 48, 47, 46, 45, 44, 43, 42, 41, 40, 39, 38, 37, 36, 35, 34, 33, 32, 31, 30, 29, 28, 27, 26, 25, 24, 23, 22, 21, 20, 19, 18, 17, 16, 15, 14, 13, 12, 11, 10, 9, 8, 7, 6, 5, 4, 3, 2, 1, 0] 81 (.bool c3) (fun K' J => ?_) ?_
        ·have hm := h26
         rcases ite_or hm with ⟨h21, hm⟩ | ⟨h21, hm⟩
         ·refine VA.pG 29 R R R R R h21 (by kernel_rfl) (VP.move R) <| VA.pG 30 R R R R R h21 (by kernel_rfl) (VP.move R) <| VA.pG 31 R R R R R h21 (by kernel_rfl) (VP.move R) ?_
          obtain ⟨x5, h22, hm⟩ := bnd hm
          refine VA.pG 32 R R R R R h21 (by kernel_rfl) (VP.glE (VV.int .i64) R R el37 h22) <| VA.pG 33 R R R R R h21 (by kernel_rfl) (VP.loadE R ld3 R) ?_
          obtain ⟨x6, h23, hm⟩ := bnd hm
          refine VA.pG 34 R R R R R h21 (by kernel_rfl) (VP.glE T_api_Bound.vv R R el23 h23) <| VA.pG 35 R R R R R h21 (by kernel_rfl) (VP.fieldE R fa50_0) <| VA.pG 36 R R R R R h21 (by kernel_rfl) (VP.fieldE R fa39_11) <| VA.pG 37 R R R R R h21 (by kernel_rfl) (VP.loadE R ld3 R) <| VA.pG 38 R R R R R h21 (by kernel_rfl) (VP.move R) <| VA.pG 39 R R R R R h21 (by kernel_rfl) (VP.move R) <| VA.pG 40 R R R R R h21 (by kernel_rfl) (VP.move R) <| VA.pG 41 R R R R R h21 (by kernel_rfl) (VP.arith R R R) ?_
          obtain ⟨x7, h24, hm⟩ := bnd hm
          refine VA.pG 42 R R R R R h21 (by kernel_rfl) (VP.glE (VV.int .i64) R R el37 h24) <| VA.pG 43 R R R R R h21 (by kernel_rfl) (VP.loadE R ld3 R) ?_
          obtain ⟨x8, h25, hm⟩ := bnd hm
          refine VA.pG 44 R R R R R h21 (by kernel_rfl) (VP.glE T_api_Bound.vv R R el23 h25) <| VA.pG 45 R R R R R h21 (by kernel_rfl) (VP.fieldE R fa50_0) <| VA.pG 46 R R R R R h21 (by kernel_rfl) (VP.fieldE R fa39_11) <| VA.pG 47 R R R R R h21 (by kernel_rfl) (VP.loadE R ld3 R) <| VA.pG 48 R R R R R h21 (by kernel_rfl) (VP.arith R R R) <| VA.pG 49 R R R R R h20 (by kernel_rfl) (VP.pickB true R h21 R) ?_
          exact J [_, _, _, _, _, _, _, _, _, _, _, _, _, _, _, _, _, _, _, _] _ R (congrArg VV.bool (Option.some.inj hm))
         ·have h21 := bf h21
          refine VA.skipG 29 R R R R R h21 (by kernel_rfl) <| VA.skipG 30 R R R R R h21 (by kernel_rfl) <| VA.skipG 31 R R R R R h21 (by kernel_rfl) <| VA.skipG 32 R R R R R h21 (by kernel_rfl) <| VA.skipG 33 R R R R R h21 (by kernel_rfl) <| VA.skipG 34 R R R R R h21 (by kernel_rfl) <| VA.skipG 35 R R R R R h21 (by kernel_rfl) <| VA.skipG 36 R R R R R h21 (by kernel_rfl) <| VA.skipG 37 R R R R R h21 (by kernel_rfl) <| VA.skipG 38 R R R R R h21 (by kernel_rfl) <| VA.skipG 39 R R R R R h21 (by kernel_rfl) <| VA.skipG 40 R R R R R h21 (by kernel_rfl) <| VA.skipG 41 R R R R R h21 (by kernel_rfl) <| VA.skipG 42 R R R R R h21 (by kernel_rfl) <| VA.skipG 43 R R R R R h21 (by kernel_rfl) <| VA.skipG 44 R R R R R h21 (by kernel_rfl) <| VA.skipG 45 R R R R R h21 (by kernel_rfl) <| VA.skipG 46 R R R R R h21 (by kernel_rfl) <| VA.skipG 47 R R R R R h21 (by kernel_rfl) <| VA.skipG 48 R R R R R h21 (by kernel_rfl) <| VA.pG 49 R R R R R h20 (by kernel_rfl) (VP.pickB false R h21 R) ?_
          exact J [_, _, _, _, _, _, _, _, _, _, _, _, _, _, _, _, _, _, _, _] _ R (congrArg VV.bool (Option.some.inj hm))
        ·refine VA.p 50 R R R (by kernel_rfl) (VP.pickB false R h20 R) ?_
         exact J [_, _, _, _] _ R (congrArg VV.bool (Option.some.inj hm))
      ·refine VA.done (by kernel_rfl) ?_
       rcases ite_or hm with ⟨h28, hm⟩ | ⟨h28, hm⟩
       ·refine VW.condT R h28 <| VW.seq <| VW.region <| VR.p R R (VP.assign R) <| VR.nil ?_
        obtain rfl := Option.some.inj hm
        have hm := Out.ret_on h10
        obtain rfl := Option.some.inj hm
        exact VW.ret ⟨.inl R, _, .cons (.tmp _ _ R) .nil, [], _, R, R, R⟩
       ·have h28 := bf h28
        refine VW.condF R h28 <| VW.skip <| VW.seq <| VW.region <| VR.p R R (VP.assign R) <| VR.nil ?_
        obtain ⟨o2, h29, h30⟩ := bnd hm
        refine VW.joinE (fun (q : Unit) => o2 = Out.go q) (fun (j2 : Unit) (gg : Unit) => [(0, .list 30 (List.map T_api_Machine.vv ms)), (1, .list 50 (List.map T_api_Bound.vv bs)), (6, .sl ob2 (List.map T_api_Move.vv r3.2).length cap2), (7, .list 3 (List.map (VV.int .i64) r4)), (8, .int .i64 i2)]) (fun (j2 : Unit) (gg : Unit) => [.row ob2 53 cap2 (List.map T_api_Move.vv r3.2)]) ?_ ?_
        ·have hm := h29
         refine VW.block (VW.loop FU ?_)
         refine VL.fuelS (R := _) (fun zn (zs : Int) => law14_SchedCount.l2 r4 i2 zn zs) (fun (zs : Int) (zg : Unit) => [(0, .list 30 (List.map T_api_Machine.vv ms)), (1, .list 50 (List.map T_api_Bound.vv bs)), (6, .sl ob2 (List.map T_api_Move.vv r3.2).length cap2), (7, .list 3 (List.map (VV.int .i64) r4)), (8, .int .i64 i2), (9, .int .i64 zs)]) (fun (zs : Int) (zg : Unit) => [.row ob2 53 cap2 (List.map T_api_Move.vv r3.2)]) (0 : Int) () (fun zs => R) (Shift.pick [0] R ⟨R, R, R, R, R, R, trivial⟩) h29 ?_
         rintro n2 k2 _ hm
         rw [law14_SchedCount.l2] at hm
         refine VW.seq <| VW.seq <| VW.region <| VR.p R R (VP.move R) <| VR.p R R (VP.move R) <| VR.p R R (VP.arith R R R) <| VR.nil ?_
         rcases ite_or hm with ⟨h31, hm⟩ | ⟨h31, hm⟩
         ·refine VW.condT R h31 <| VW.skip <| VW.seq <| VW.block <| VW.seq <| VW.drawK 0 mixed <| VA.p 0 R R R (by kernel_rfl) (VP.move R) <| VA.p 1 R R R (by kernel_rfl) (VP.move R) ?_
          obtain ⟨x9, h32, hm⟩ := bnd hm
          refine VA.p 2 R R R (by kernel_rfl) (VP.glE (VV.int .i64) R R el37 h32) <| VA.p 3 R R R (by kernel_rfl) (VP.loadE R ld3 R) <| VA.p 4 R R R (by kernel_rfl) (VP.move R) <| VA.p 5 R R R (by kernel_rfl) (VP.move R) ?_
          obtain ⟨x10, h33, hm⟩ := bnd hm
          refine VA.p 6 R R R (by kernel_rfl) (VP.glE (VV.int .i64) R R el37 h33) <| VA.p 7 R R R (by kernel_rfl) (VP.loadE R ld3 R) <| VA.p 8 R R R (by kernel_rfl) (VP.arith R R R) <| VA.done (by kernel_rfl) ?_
          rcases ite_or hm with ⟨h34, hm⟩ | ⟨h34, hm⟩
          ·refine VW.condT R h34 <| VW.seq <| VW.region <| VR.p R R (VP.assign R) <| VR.nil ?_
           obtain rfl := Option.some.inj hm
           have hm := Out.ret_on h30
           obtain rfl := Option.some.inj hm
           have hm := Out.ret_on h10
           obtain rfl := Option.some.inj hm
           exact VW.ret ⟨.inl R, _, .cons (.tmp _ _ R) .nil, [], _, R, R, R⟩
          ·have h34 := bf h34
           refine VW.condF R h34 <| VW.skip <| VW.region <| VR.p R R (VP.move R) <| VR.p R R (VP.arith R R R) <| VR.p R R (VP.assign R) <| VR.nil ?_
           exact ⟨(IntKind.i64.wrap (k2 + (1 : Int))), (), hm, (Shift.pick [0] R ⟨R, R, R, R, R, R, trivial⟩)⟩
         ·have h31 := bf h31
          refine VW.condF R h31 <| VW.exit ?_
          exact ⟨(), (), (Option.some.inj hm).symm, (Shift.pick [0] R ⟨R, R, R, R, R, trivial⟩)⟩
        ·rintro j2 _ rfl
         have hm := Out.go_on h30
         refine VW.region <| VR.p R R (VP.move R) <| VR.p R R (VP.arith R R R) <| VR.p R R (VP.assign R) <| VR.nil ?_
         exact ⟨(IntKind.i64.wrap (i2 + (1 : Int))), (), hm, (Shift.pick [0] R ⟨R, R, R, R, R, trivial⟩)⟩
   ·have h11 := bf h11
    refine VW.condF R h11 <| VW.exit ?_
    exact ⟨(), (), (Option.some.inj hm).symm, (Shift.pick [0] R ⟨R, R, R, R, trivial⟩)⟩
  ·rintro j _ rfl
   have hm := Out.go_on h10
   refine VW.seq <| VW.seq <| VW.region <| VR.p R R (VP.assign R) <| VR.nil ?_
   obtain ⟨o3, h35, h36⟩ := bnd hm
   refine VW.joinE (fun (q : Unit) => o3 = Out.go q) (fun (j3 : Unit) (gg : Option Nat) => [(1, .list 50 (List.map T_api_Bound.vv bs)), (6, .sl gg (List.map T_api_Move.vv r3.2).length cap2), (7, .list 3 (List.map (VV.int .i64) r4))]) (fun (j3 : Unit) (gg : Option Nat) => [.row gg 53 cap2 (List.map T_api_Move.vv r3.2)]) ?_ ?_
   ·have hm := h35
    refine VW.block (VW.loop FU ?_)
    refine VL.fuelS (R := _) (fun zn (zs : Int) => law14_SchedCount.l3 ms bs r3 zn zs) (fun (zs : Int) (zg : Option Nat) => [(0, .list 30 (List.map T_api_Machine.vv ms)), (1, .list 50 (List.map T_api_Bound.vv bs)), (6, .sl zg (List.map T_api_Move.vv r3.2).length cap2), (7, .list 3 (List.map (VV.int .i64) r4)), (10, .int .i64 zs)]) (fun (zs : Int) (zg : Option Nat) => [.row zg 53 cap2 (List.map T_api_Move.vv r3.2)]) (0 : Int) ob2 (fun zs => R) (Shift.pick [0] R ⟨R, R, R, R, R, trivial⟩) h35 ?_
    rintro n3 i4 ob4 hm
    rw [law14_SchedCount.l3] at hm
    refine VW.seq <| VW.seq <| VW.region <| VR.p R R (VP.move R) <| VR.p R R (VP.move R) <| VR.p R R (VP.lenRT T_api_Move.vv R Try.underlying41) <| VR.p R R (VP.arith R R R) <| VR.nil ?_
    rcases ite_or hm with ⟨h37, hm⟩ | ⟨h37, hm⟩
    ·refine VW.condT R h37 <| VW.skip <| VW.seq <| VW.block <| VW.seq <| VW.region <| VR.p R R (VP.move R) <| VR.p R R (VP.move R) <| VR.p R R (VP.move R) ?_
     obtain ⟨x11, h38, hm⟩ := bnd hm
     refine VR.someRow 0 R (gl_pos T_api_Move.vv h38) fun b h39 => ?_
     subst h39
     refine VR.p R R (VP.glR T_api_Move.vv R R el41 h38) <| VR.p R R (VP.fieldR R fa53_0) <| VR.p R R (VP.loadR (i := 0) (y := T_api_Move.vv x11) R R R (gl_map _ (gl_some h38).2) ld9 R) ?_
     obtain ⟨r5, h40, hm⟩ := bnd hm
     refine VR.cons R R (VO.callK 0 R fn12 R (ref09_Place_ok bs x11.Pod r5 h40) fun _ _ h52 => ?_)
     obtain ⟨rfl, rfl⟩ := h52
     refine VR.p R R (VP.assign R) <| VR.nil <| VW.seq <| VW.region <| VR.p R R (VP.move R) <| VR.p R R (VP.move R) <| VR.p R R (VP.move R) ?_
     obtain ⟨x12, h41, hm⟩ := bnd hm
     refine VR.p R R (VP.glR T_api_Move.vv R R el41 h41) <| VR.p R R (VP.fieldR R fa53_1) <| VR.p R R (VP.loadR (i := 0) (y := T_api_Move.vv x12) R R R (gl_map _ (gl_some h41).2) ld9 R) ?_
     obtain ⟨r6, h42, hm⟩ := bnd hm
     refine VR.cons R R (VO.callK 0 R fn13 R (ref09_Find_ok ms x12.To r6 h42) fun _ _ h51 => ?_)
     obtain ⟨rfl, rfl⟩ := h51
     refine VR.p R R (VP.assign R) <| VR.nil <| VW.seq <| VW.region <| VR.p R R (VP.move R) <| VR.p R R (VP.arith R R R) <| VR.p R R (VP.move R) ?_
     refine VR.sc 3 122 (.bool ((decide (r5 < (0 : Int))) || (decide (r6 < (0 : Int))))) (fun K' J => ?_) ?_
     ·rcases Bool.eq_false_or_eq_true (decide (r5 < (0 : Int))) with h43 | h43
      ·refine VR.skipG R R R R h43 <| VR.skipG R R R R h43 <| VR.p R R (VP.pickB true R h43 R) ?_
       exact J [_, _] _ R (orT h43)
      ·refine VR.pG R R R R h43 (VP.move R) <| VR.pG R R R R h43 (VP.arith R R R) <| VR.p R R (VP.pickB false R h43 R) ?_
       exact J [_, _] _ R (orF h43)
     ·refine VR.p R R (VP.move R) ?_
      obtain ⟨c5, h46, hm⟩ := bnd hm
      refine VR.sc 7 130 (.bool c5) (fun K' J => ?_) ?_
      ·have hm := h46
       rcases ite_or hm with ⟨h44, hm⟩ | ⟨h44, hm⟩
       ·refine VR.skipG R R R R h44 <| VR.skipG R R R R h44 <| VR.skipG R R R R h44 <| VR.skipG R R R R h44 <| VR.skipG R R R R h44 <| VR.skipG R R R R h44 <| VR.p R R (VP.pickB true R h44 R) ?_
        exact J [_, _, _, _, _, _] _ R (congrArg VV.bool (Option.some.inj hm))
       ·have h44 := bf h44
        refine VR.pG R R R R h44 (VP.move R) <| VR.pG R R R R h44 (VP.move R) ?_
        obtain ⟨x13, h45, hm⟩ := bnd hm
        refine VR.pG R R R R h44 (VP.glE T_api_Bound.vv R R el23 h45) <| VR.pG R R R R h44 (VP.fieldE R fa50_1) <| VR.pG R R R R h44 (VP.loadE R ld9 R) <| VR.pG R R R R h44 (VP.strop R R R) <| VR.p R R (VP.pickB false R h44 R) ?_
        exact J [_, _, _, _, _, _] _ R (congrArg VV.bool (Option.some.inj hm))
      ·refine VR.p R R (VP.move R) ?_
       obtain ⟨c6, h49, hm⟩ := bnd hm
       refine VR.sc 7 138 (.bool c6) (fun K' J => ?_) ?_
       ·have hm := h49
        rcases ite_or hm with ⟨h47, hm⟩ | ⟨h47, hm⟩
        ·refine VR.skipG R R R R h47 <| VR.skipG R R R R h47 <| VR.skipG R R R R h47 <| VR.skipG R R R R h47 <| VR.skipG R R R R h47 <| VR.skipG R R R R h47 <| VR.p R R (VP.pickB true R h47 R) ?_
         exact J [_, _, _, _, _, _] _ R (congrArg VV.bool (Option.some.inj hm))
        ·have h47 := bf h47
         refine VR.pG R R R R h47 (VP.move R) <| VR.pG R R R R h47 (VP.move R) ?_
         obtain ⟨x14, h48, hm⟩ := bnd hm
         refine VR.pG R R R R h47 (VP.glE T_api_Machine.vv R R el22 h48) <| VR.pG R R R R h47 (VP.fieldE R fa30_5) <| VR.pG R R R R h47 (VP.loadE R ld4 R) <| VR.pG R R R R h47 (VP.not R) <| VR.p R R (VP.pickB false R h47 R) ?_
         exact J [_, _, _, _, _, _] _ R (congrArg VV.bool (Option.some.inj hm))
       ·refine VR.nil ?_
        rcases ite_or hm with ⟨h50, hm⟩ | ⟨h50, hm⟩
        ·refine VW.condT R h50 <| VW.seq <| VW.region <| VR.p R R (VP.assign R) <| VR.nil ?_
         obtain rfl := Option.some.inj hm
         have hm := Out.ret_on h36
         obtain rfl := Option.some.inj hm
         exact VW.ret ⟨.inl R, _, .cons (.tmp _ _ R) .nil, [], _, R, R, R⟩
        ·have h50 := bf h50
         refine VW.condF R h50 <| VW.skip <| VW.region <| VR.p R R (VP.move R) <| VR.p R R (VP.arith R R R) <| VR.p R R (VP.assign R) <| VR.nil ?_
         exact ⟨(IntKind.i64.wrap (i4 + (1 : Int))), (some b), hm, (Shift.pick [0] R ⟨R, R, R, R, R, trivial⟩)⟩
    ·have h37 := bf h37
     refine VW.condF R h37 <| VW.exit ?_
     exact ⟨(), ob4, (Option.some.inj hm).symm, (Shift.pick [0] R ⟨R, R, R, trivial⟩)⟩
   ·rintro j3 ob5 rfl
    have hm := Out.go_on h36
    refine VW.seq <| VW.region <| VR.p R R (VP.move R) <| VR.p R R (VP.lenT (VV.int .i64) R Try.underlying37) <| VR.p R R (VP.move R) ?_
    obtain ⟨r7, h53, hm⟩ := bnd hm
    refine VR.cons R R (VO.callK 0 R fn14 R (ref09_On_ok bs (⟨#[]⟩ : ByteArray) r7 h53) fun _ _ h60 => ?_)
    obtain ⟨ob6, cap3, rfl, rfl⟩ := h60
    refine VR.shift (Shift.freezeE 0 [(142, .list 39 (List.map T_api_Pod.vv r7))] R ⟨⟨_, R, .here _ R⟩, trivial⟩ (FzH.refl _)) <| VR.p R R (VP.lenT T_api_Pod.vv R Try.underlying24) <| VR.p R R (VP.arith R R R) <| VR.p R R (VP.move R) ?_
    refine VR.sc 6 151 (.bool (((r4.length : Int) == (r7.length : Int)) && (decide ((r3.2.length : Int) ≤ (r4.length : Int))))) (fun K' J => ?_) ?_
    ·rcases Bool.eq_false_or_eq_true ((r4.length : Int) == (r7.length : Int)) with h55 | h55
     ·refine VR.pG R R R R h55 (VP.move R) <| VR.pG R R R R h55 (VP.lenRT T_api_Move.vv R Try.underlying41) <| VR.pG R R R R h55 (VP.move R) <| VR.pG R R R R h55 (VP.lenT (VV.int .i64) R Try.underlying37) <| VR.pG R R R R h55 (VP.arith R R R) <| VR.p R R (VP.pickB true R h55 R) ?_
      exact J [_, _, _, _, _] _ R (andT h55)
     ·refine VR.skipG R R R R h55 <| VR.skipG R R R R h55 <| VR.skipG R R R R h55 <| VR.skipG R R R R h55 <| VR.skipG R R R R h55 <| VR.p R R (VP.pickB false R h55 R) ?_
      exact J [_, _, _, _, _] _ R (andF h55)
    ·refine VR.p R R (VP.move R) ?_
     obtain ⟨c7, h59, hm⟩ := bnd hm
     refine VR.sc 2 154 (.bool c7) (fun K' J => ?_) ?_
     ·have hm := h59
      rcases ite_or hm with ⟨h56, hm⟩ | ⟨h56, hm⟩
      ·obtain ⟨r8, h57, hm⟩ := bnd hm
       refine VR.consG R R R R h56 (VO.callK 0 R fn9 R (law14_known_ok r8 h57) fun _ _ h58 => ?_)
       obtain ⟨rfl, rfl⟩ := h58
       refine VR.p R R (VP.pickB true R h56 R) ?_
       exact J [_] _ R (congrArg VV.bool (Option.some.inj hm))
      ·have h56 := bf h56
       refine VR.skipG R R R R h56 <| VR.p R R (VP.pickB false R h56 R) ?_
       exact J [_] _ R (congrArg VV.bool (Option.some.inj hm))
     ·refine VR.p R R (VP.assign R) <| VR.nil ?_
      obtain rfl := Option.some.inj hm
      exact VW.ret ⟨.inl R, _, .cons (.tmp _ _ R) .nil, [], _, R, R, R⟩

end Go.Proofs.Ytbkdglcedgiogaa.M

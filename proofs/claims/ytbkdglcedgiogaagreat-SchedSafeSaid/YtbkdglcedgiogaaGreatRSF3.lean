/-
  Printed by a program of this session out of the loaded functions: models and their proofs. Own text.
-/
import Derived.Test.YtbkdglcedgiogaaGreatRSF2
namespace Go.Proofs.YtbkdglcedgiogaaGreat.M
open Go Go.Proofs Go.Proofs.YtbkdglcedgiogaaGreat.V
set_option linter.unusedVariables false
set_option maxRecDepth 20000
set_option maxHeartbeats 4000000
/-! trireme/sched.Best -/
def sched_Best.l1 (ms : List T_api_Machine) (bs : List T_api_Bound) (p : T_api_Pod) : List ByteArray → Nat → ByteArray → T_sched_score → Option ByteArray
 | [], k, best2, least2 => some best2
 | x :: l, k, best2, least2 =>
  ((yard_Find ms x).bind fun r2 =>
  (V.gl ms r2).bind fun x3 =>
  (sched_of x3 bs p).bind fun r3 =>
  some r3).bind fun x22 =>
  (if (V.seq best2 (⟨#[]⟩ : ByteArray)) = true then some true else (sched_score_less x22 least2).bind fun r7 =>
  some r7).bind fun c =>
  if c = true then
   sched_Best.l1 ms bs p l (k + 1) x x22
  else
   sched_Best.l1 ms bs p l (k + 1) best2 least2
def sched_Best (ms : List T_api_Machine) (bs : List T_api_Bound) (p : T_api_Pod) : Option ByteArray :=
 (fit_Where ms bs p).bind fun r =>
 (sched_Best.l1 ms bs p r 0 (⟨#[]⟩ : ByteArray) (⟨(0 : Int), (0 : Int)⟩ : T_sched_score)).bind fun best32 =>
 some best32
theorem sched_Best_ok (ms : List T_api_Machine) (bs : List T_api_Bound) (p : T_api_Pod) (r : ByteArray) (hm : sched_Best ms bs p = some r) :
  VC Tryz.prog 33 [.list 30 (List.map T_api_Machine.vv ms), .list 50 (List.map T_api_Bound.vv bs), T_api_Pod.vv p] [] (fun zx zH => zx = .str r ∧ zH = []) := by
 unfold sched_Best at hm
 refine VC.run (c := _) (rs := [.tmp 6]) Tryz.func33 R R R <| VW.seq <| VW.region ?_
 refine VR.cons R R (VO.box R R fun b => ?_)
 refine VR.p R R (VP.assign R) <| VR.nil <| VW.seq <| VW.region <| VR.p R R (VP.assign R) <| VR.nil <| VW.seq <| VW.region ?_
 refine VR.cons R R (VO.alloc z108 fun b2 => ?_)
 refine VR.nil <| VW.seq <| VW.seq <| VW.region <| VR.p R R (VP.move R) <| VR.p R R (VP.move R) <| VR.p R R (VP.loadP (i := 1) R R ld48 R) ?_
 obtain ⟨r, h3, hm⟩ := bnd hm
 refine VR.cons R R (VO.callK 0 R fn76 R (fit_Where_ok ms bs p r h3) fun _ _ h32 => ?_)
 obtain ⟨ob, cap, rfl, rfl⟩ := h32
 refine VR.shift (Shift.freezeE 0 [(15, .list 9 (List.map VV.str r))] R ⟨⟨_, R, .here _ R⟩, trivial⟩ (FzH.refl _)) <| VR.p R R (VP.lenT VV.str R Tryz.underlying51) <| VR.p R R (VP.move R) <| VR.nil <| VW.lenL 15 R fun h7 => ?_
 have h7 := max_map h7
 obtain ⟨o, h5, h6⟩ := bnd hm
 refine VW.joinE (fun (q : ByteArray) => q = o) (fun (best32 : ByteArray) (gg : Unit) => [(7, .str best32)]) (fun (best32 : ByteArray) (gg : Unit) => []) ?_ ?_
 ·have hm := h5
  refine VW.block (VW.loop (r.length + 1) ?_)
  refine VL.eachS (l := r) (R := _) (fun zl zk (zs : ByteArray × T_sched_score) => sched_Best.l1 ms bs p zl zk zs.1 zs.2) (fun (k : Nat) (zs : ByteArray × T_sched_score) (zg : Unit) => [(0, .list 30 (List.map T_api_Machine.vv ms)), (1, .list 50 (List.map T_api_Bound.vv bs)), (5, .ptr b 0), (7, .str zs.1), (8, .ptr b2 0), (15, .list 9 (List.map VV.str r)), (16, .int .i64 (r.length : Int)), (17, .int .i64 (k : Int))]) (fun (k : Nat) (zs : ByteArray × T_sched_score) (zg : Unit) => [.box b2 108 (T_sched_score.cells zs.2), .box b 48 (T_api_Pod.cells p)]) ((⟨#[]⟩ : ByteArray), (⟨(0 : Int), (0 : Int)⟩ : T_sched_score)) () (Shift.pick [0, 0] R ⟨R, R, R, R, R, R, R, R, trivial⟩) h5 ?_ ?_
  ·rintro k ⟨best2, least2⟩ _ hk hm
   rw [sched_Best.l1] at hm
   refine VW.seq <| VW.region <| VR.p R R (VP.arith R R R) <| VR.nil <| VW.seq <| VW.condF R (k_end hk) <| VW.exit ?_
   exact ⟨best2, (), Option.some.inj hm, (Shift.pick [] R ⟨R, trivial⟩)⟩
  ·rintro k x l ⟨best2, least2⟩ _ h8 hm
   rw [sched_Best.l1] at hm
   refine VW.seq <| VW.region <| VR.p R R (VP.arith R R R) <| VR.nil <| VW.seq <| VW.condT R (k_lt h8) <| VW.skip <| VW.seq <| VW.block <| VW.seq <| VW.region <| VR.p R R (VP.glK VV.str R R el51 h8) <| VR.p R R (VP.loadE R ld9 R) <| VR.p R R (VP.assign R) <| VR.nil ?_
   obtain ⟨o2, h10, h11⟩ := bnd hm
   refine VW.join (fun (q : T_sched_score) => q = o2) (fun (x22 : T_sched_score) (gg : Nat) => [(0, .list 30 (List.map T_api_Machine.vv ms)), (1, .list 50 (List.map T_api_Bound.vv bs)), (5, .ptr b 0), (7, .str best2), (8, .ptr b2 0), (10, .str x), (11, .ptr gg 0), (15, .list 9 (List.map VV.str r)), (16, .int .i64 (r.length : Int)), (17, .int .i64 (k : Int))]) (fun (x22 : T_sched_score) (gg : Nat) => [.box gg 108 (T_sched_score.cells x22), .box b2 108 (T_sched_score.cells least2), .box b 48 (T_api_Pod.cells p)]) ?_ ?_
   ·have hm := h10
    refine VW.drawK 0 mixed <| VA.p 0 R R R (by kernel_rfl) (VP.move R) <| VA.p 1 R R R (by kernel_rfl) (VP.move R) <| VA.p 2 R R R (by kernel_rfl) (VP.move R) <| VA.p 6 R R R (by kernel_rfl) (VP.move R) <| VA.p 7 R R R (by kernel_rfl) (VP.loadP (i := 1) R R ld48 R) ?_
    refine VA.all [3, 9] (by kernel_rfl) ⟨?_, ?_, trivial⟩
    ·obtain ⟨r2, h12, hm⟩ := bnd hm
     refine VB.o R R R (VO.callK 0 R fn78 R (yard_Find_ok ms x r2 h12) fun _ _ h20 => ?_)
     obtain ⟨rfl, rfl⟩ := h20
     obtain ⟨x3, h13, hm⟩ := bnd hm
     refine VA.p 4 R R R (by kernel_rfl) (VP.glE T_api_Machine.vv R R el22 h13) <| VA.p 5 R R R (by kernel_rfl) (VP.loadE R ld30 R) ?_
     refine VA.all [8, 9] (by kernel_rfl) ⟨?_, ?_, trivial⟩
     ·obtain ⟨r3, h14, hm⟩ := bnd hm
      refine VB.o R R R (VO.callK 0 R fn77 R (sched_of_ok x3 bs p r3 h14) fun _ _ h16 => ?_)
      obtain ⟨rfl, rfl⟩ := h16
      refine VA.all [9] (by kernel_rfl) ⟨?_, trivial⟩
      refine VB.o R R R (VO.alloc z108 fun b4 => ?_)
      refine VA.all [10] (by kernel_rfl) ⟨?_, trivial⟩
      refine VB.o R R R (VO.storeP (i := 0) R R R ld108 R R R ?_)
      refine VA.done (by kernel_rfl) ?_
      exact ⟨r3, b4, Option.some.inj hm, (Shift.pick [0, 0, 0] R ⟨R, R, R, R, R, R, R, R, R, R, trivial⟩)⟩
     ·refine VB.o R R R (VO.alloc z108 fun b5 => ?_)
      refine VA.all [8] (by kernel_rfl) ⟨?_, trivial⟩
      obtain ⟨r4, h18, hm⟩ := bnd hm
      refine VB.o R R R (VO.callK 0 R fn77 R (sched_of_ok x3 bs p r4 h18) fun _ _ h19 => ?_)
      obtain ⟨rfl, rfl⟩ := h19
      refine VA.all [10] (by kernel_rfl) ⟨?_, trivial⟩
      refine VB.o R R R (VO.storeP (i := 0) R R R ld108 R R R ?_)
      refine VA.done (by kernel_rfl) ?_
      exact ⟨r4, b5, Option.some.inj hm, (Shift.pick [0, 0, 0] R ⟨R, R, R, R, R, R, R, R, R, R, trivial⟩)⟩
    ·refine VB.o R R R (VO.alloc z108 fun b6 => ?_)
     refine VA.all [3] (by kernel_rfl) ⟨?_, trivial⟩
     obtain ⟨r5, h22, hm⟩ := bnd hm
     refine VB.o R R R (VO.callK 0 R fn78 R (yard_Find_ok ms x r5 h22) fun _ _ h26 => ?_)
     obtain ⟨rfl, rfl⟩ := h26
     obtain ⟨x4, h23, hm⟩ := bnd hm
     refine VA.p 4 R R R (by kernel_rfl) (VP.glE T_api_Machine.vv R R el22 h23) <| VA.p 5 R R R (by kernel_rfl) (VP.loadE R ld30 R) ?_
     refine VA.all [8] (by kernel_rfl) ⟨?_, trivial⟩
     obtain ⟨r6, h24, hm⟩ := bnd hm
     refine VB.o R R R (VO.callK 0 R fn77 R (sched_of_ok x4 bs p r6 h24) fun _ _ h25 => ?_)
     obtain ⟨rfl, rfl⟩ := h25
     refine VA.all [10] (by kernel_rfl) ⟨?_, trivial⟩
     refine VB.o R R R (VO.storeP (i := 0) R R R ld108 R R R ?_)
     refine VA.done (by kernel_rfl) ?_
     exact ⟨r6, b6, Option.some.inj hm, (Shift.pick [0, 0, 0] R ⟨R, R, R, R, R, R, R, R, R, R, trivial⟩)⟩
   ·rintro x22 b3 rfl
    have hm := h11
    refine VW.seq <| VW.region <| VR.p R R (VP.move R) <| VR.p R R (VP.strop R R R) <| VR.p R R (VP.move R) ?_
    obtain ⟨c, h30, hm⟩ := bnd hm
    refine VR.sc 4 36 (.bool c) (fun K' J => ?_) ?_
    ·have hm := h30
     rcases ite_or hm with ⟨h27, hm⟩ | ⟨h27, hm⟩
     ·refine VR.skipG R R R R h27 <| VR.skipG R R R R h27 <| VR.skipG R R R R h27 <| VR.p R R (VP.pickB true R h27 R) ?_
      exact J [_, _, _] _ R (congrArg VV.bool (Option.some.inj hm))
     ·have h27 := bf h27
      refine VR.pG R R R R h27 (VP.loadP (i := 0) R R ld108 R) <| VR.pG R R R R h27 (VP.loadP (i := 1) R R ld108 R) ?_
      obtain ⟨r7, h28, hm⟩ := bnd hm
      refine VR.consG R R R R h27 (VO.callK 0 R fn79 R (sched_score_less_ok x22 least2 r7 h28) fun _ _ h29 => ?_)
      obtain ⟨rfl, rfl⟩ := h29
      refine VR.p R R (VP.pickB false R h27 R) ?_
      exact J [_, _, _] _ R (congrArg VV.bool (Option.some.inj hm))
    ·refine VR.nil ?_
     rcases ite_or hm with ⟨h31, hm⟩ | ⟨h31, hm⟩
     ·refine VW.condT R h31 <| VW.shift (Shift.mem [1, 0, 0] R) <| VW.drawK 1 mixed <| VA.p 0 R R R (by kernel_rfl) (VP.move R) <| VA.p 1 R R R (by kernel_rfl) (VP.loadP (i := 0) R R ld108 R) <| VA.p 2 R R R (by kernel_rfl) (VP.assign R) ?_
      refine VA.all [3] (by kernel_rfl) ⟨?_, trivial⟩
      refine VB.o R R R (VO.storeP (i := 0) R R R ld108 R R R ?_)
      refine VA.done (by kernel_rfl) <| VW.region <| VR.p R R (VP.arith R R R) <| VR.p R R (VP.move R) <| VR.nil ?_
      exact ⟨(x, x22), (), hm, (Shift.pick [0, 1] R ⟨R, R, R, R, R, R, R, congrArg some (k_next h8 h7), trivial⟩)⟩
     ·have h31 := bf h31
      refine VW.condF R h31 <| VW.skip <| VW.region <| VR.p R R (VP.arith R R R) <| VR.p R R (VP.move R) <| VR.nil ?_
      exact ⟨(best2, least2), (), hm, (Shift.pick [1, 1] R ⟨R, R, R, R, R, R, R, congrArg some (k_next h8 h7), trivial⟩)⟩
 ·rintro best32 _ rfl
  have hm := h6
  refine VW.seq <| VW.region <| VR.p R R (VP.move R) <| VR.p R R (VP.assign R) <| VR.nil ?_
  obtain rfl := Option.some.inj hm
  exact VW.ret ⟨.inl R, _, .cons (.tmp _ _ R) .nil, [], _, R, R, R⟩

/-! trireme/sched.Step -/
def sched_Step.l1 (ms : List T_api_Machine) : List Int → Nat → (List T_api_Bound) → (List T_api_Move) → Option (List T_api_Bound × List T_api_Move)
 | [], k, out2, moves2 => some (out2, moves2)
 | x :: l2, k, out2, moves2 =>
  (V.gl out2 x).bind fun x2 =>
  (sched_Best ms out2 x2.Pod).bind fun r2 =>
  if (!(V.seq r2 (⟨#[]⟩ : ByteArray))) = true then
   (V.gl out2 x).bind fun x3 =>
   (V.ap 32 moves2 [(⟨x2.Pod.Name, r2⟩ : T_api_Move)]).bind fun moves4 =>
   sched_Step.l1 ms l2 (k + 1) (List.set out2 (x).toNat (⟨x3.Pod, r2⟩ : T_api_Bound)) moves4
  else
   sched_Step.l1 ms l2 (k + 1) out2 moves2
def sched_Step (ms : List T_api_Machine) (bs : List T_api_Bound) : Option (List T_api_Bound × List T_api_Move) :=
 (V.ap 288 ([] : List T_api_Bound) bs).bind fun l =>
 (sched_Order bs).bind fun r =>
 (sched_Step.l1 ms r 0 l ([] : List T_api_Move)).bind fun j =>
 some (j.1, j.2)
theorem sched_Step_ok (ms : List T_api_Machine) (bs : List T_api_Bound) (r : List T_api_Bound × List T_api_Move) (hm : sched_Step ms bs = some r) :
  VC Tryz.prog 26 [.list 30 (List.map T_api_Machine.vv ms), .list 50 (List.map T_api_Bound.vv bs)] [] (fun zx zH => ∃ (ob0 : Option Nat) (cap0 : Nat) (ob1 : Option Nat) (cap1 : Nat), zx = .tup [.sl ob0 (List.map T_api_Bound.vv r.1).length cap0, .sl ob1 (List.map T_api_Move.vv r.2).length cap1] ∧ zH = [.row ob0 50 cap0 (List.map T_api_Bound.vv r.1), .row ob1 53 cap1 (List.map T_api_Move.vv r.2)]) := by
 unfold sched_Step at hm
 refine VC.run (c := _) (rs := [.tmp 4, .tmp 5]) Tryz.func26 R R R <| VW.seq <| VW.region <| VR.p R R (VP.assign R) <| VR.p R R (VP.assign R) <| VR.nil <| VW.seq <| VW.region <| VR.p R R (VP.move R) <| VR.shift (Shift.nilRow 50) ?_
 obtain ⟨l, h2, hm⟩ := bnd hm
 refine VR.cons R R (VO.apT 0 T_api_Bound.vv (l := ([] : List T_api_Bound)) (l2 := bs) ap23 R R (sT_list T_api_Bound.vv el23 R R) h2 fun ob cap => ?_)
 refine VR.p R R (VP.assign R) <| VR.nil <| VW.seq <| VW.region <| VR.p R R (VP.assign R) <| VR.nil <| VW.seq <| VW.seq <| VW.region <| VR.p R R (VP.move R) ?_
 obtain ⟨r, h3, hm⟩ := bnd hm
 refine VR.cons R R (VO.callK 0 R fn28 R (sched_Order_ok bs r h3) fun _ _ h20 => ?_)
 obtain ⟨rfl, rfl⟩ := h20
 refine VR.p R R (VP.lenT (VV.int .i64) R Tryz.underlying41) <| VR.p R R (VP.move R) <| VR.nil <| VW.lenL 15 R fun h8 => ?_
 have h8 := max_map h8
 obtain ⟨o, h6, h7⟩ := bnd hm
 refine VW.joinE (fun (q : List T_api_Bound × List T_api_Move) => q = o) (fun (j : List T_api_Bound × List T_api_Move) (gg : Option Nat × Option Nat × Nat) => [(6, .sl gg.1 (List.map T_api_Bound.vv j.1).length cap), (7, .sl gg.2.1 (List.map T_api_Move.vv j.2).length gg.2.2)]) (fun (j : List T_api_Bound × List T_api_Move) (gg : Option Nat × Option Nat × Nat) => [.row gg.2.1 53 gg.2.2 (List.map T_api_Move.vv j.2), .row gg.1 50 cap (List.map T_api_Bound.vv j.1)]) ?_ ?_
 ·have hm := h6
  refine VW.block (VW.loop (r.length + 1) ?_)
  refine VL.eachS (l := r) (R := _) (fun zl zk (zs : List T_api_Bound × List T_api_Move) => sched_Step.l1 ms zl zk zs.1 zs.2) (fun (k : Nat) (zs : List T_api_Bound × List T_api_Move) (zg : Option Nat × Option Nat × Nat) => [(0, .list 30 (List.map T_api_Machine.vv ms)), (6, .sl zg.1 (List.map T_api_Bound.vv zs.1).length cap), (7, .sl zg.2.1 (List.map T_api_Move.vv zs.2).length zg.2.2), (15, .list 3 (List.map (VV.int .i64) r)), (16, .int .i64 (r.length : Int)), (17, .int .i64 (k : Int))]) (fun (k : Nat) (zs : List T_api_Bound × List T_api_Move) (zg : Option Nat × Option Nat × Nat) => [.row zg.2.1 53 zg.2.2 (List.map T_api_Move.vv zs.2), .row zg.1 50 cap (List.map T_api_Bound.vv zs.1)]) (l, ([] : List T_api_Move)) (ob, none, 0) (Shift.trans (Shift.nilRow 53) (Shift.pick [0, 0] R ⟨R, R, R, R, R, R, trivial⟩)) h6 ?_ ?_
  ·rintro k ⟨out2, moves2⟩ ⟨ob4, ob5, cap3⟩ hk hm
   rw [sched_Step.l1] at hm
   refine VW.seq <| VW.region <| VR.p R R (VP.arith R R R) <| VR.nil <| VW.seq <| VW.condF R (k_end hk) <| VW.exit ?_
   exact ⟨(out2, moves2), (ob4, ob5, cap3), Option.some.inj hm, (Shift.pick [0, 0] R ⟨R, R, trivial⟩)⟩
  ·rintro k x l2 ⟨out2, moves2⟩ ⟨ob4, ob5, cap3⟩ h9 hm
   rw [sched_Step.l1] at hm
   refine VW.seq <| VW.region <| VR.p R R (VP.arith R R R) <| VR.nil <| VW.seq <| VW.condT R (k_lt h9) <| VW.skip <| VW.seq <| VW.block <| VW.seq <| VW.region <| VR.p R R (VP.glK (VV.int .i64) R R el41 h9) <| VR.p R R (VP.loadE R ld3 R) <| VR.p R R (VP.assign R) <| VR.nil <| VW.seq <| VW.region <| VR.p R R (VP.move R) <| VR.p R R (VP.move R) ?_
   obtain ⟨x2, h10, hm⟩ := bnd hm
   refine VR.someRow 1 R (gl_pos T_api_Bound.vv h10) fun b h11 => ?_
   subst h11
   refine VR.p R R (VP.glR T_api_Bound.vv R R el23 h10) <| VR.p R R (VP.fieldR R fa50_0) <| VR.p R R (VP.loadR (i := 1) (y := T_api_Bound.vv x2) R R R (gl_map _ (gl_some h10).2) ld48 R) ?_
   refine VR.cons R R (VO.alloc z48 fun b2 => ?_)
   refine VR.cons R R (VO.storeP (i := 0) R R R ld48 R R R ?_)
   refine VR.nil <| VW.seq <| VW.region <| VR.p R R (VP.move R) <| VR.p R R (VP.move R) <| VR.p R R (VP.loadP (i := 0) R R ld48 R) ?_
   obtain ⟨r2, h13, hm⟩ := bnd hm
   refine VR.cons R R (VO.callL (Shift.freezeE 2 [(6, .list 50 (List.map T_api_Bound.vv out2)), (21, .list 50 (List.map T_api_Bound.vv out2)), (27, .list 50 (List.map T_api_Bound.vv out2))] R ⟨⟨_, R, .here _ R⟩, ⟨_, R, .here _ R⟩, ⟨_, R, .here _ R⟩, trivial⟩ (FzH.refl _)) [.same, .same, .same] R fn33 R (sched_Best_ok ms out2 x2.Pod r2 h13) fun _ _ h18 => ?_)
   obtain ⟨rfl, rfl⟩ := h18
   refine ⟨R, R, ?_⟩
   refine VR.p R R (VP.assign R) <| VR.nil <| VW.seq <| VW.region <| VR.p R R (VP.move R) <| VR.p R R (VP.strop R R R) <| VR.nil ?_
   rcases ite_or hm with ⟨h14, hm⟩ | ⟨h14, hm⟩
   ·refine VW.condT R h14 <| VW.seq <| VW.region <| VR.p R R (VP.move R) <| VR.p R R (VP.move R) <| VR.p R R (VP.move R) ?_
    obtain ⟨x3, h15, hm⟩ := bnd hm
    refine VR.p R R (VP.glR T_api_Bound.vv R R el23 h15) <| VR.p R R (VP.fieldR R fa50_1) ?_
    refine VR.cons R R (VO.storeRT 2 (f := T_api_Bound.vv) (l := out2) (q := x3) (q' := (⟨x3.Pod, r2⟩ : T_api_Bound)) R R R R h15 ld9 R R R R ⟨R, List.all_eq_true.1 R⟩ ?_)
    refine VR.shift (Shift.reSl 6 (List.map T_api_Bound.vv (List.set out2 (x).toNat (⟨x3.Pod, r2⟩ : T_api_Bound))).length R (len_set _ _ _ _)) <| VR.shift (Shift.reSl 21 (List.map T_api_Bound.vv (List.set out2 (x).toNat (⟨x3.Pod, r2⟩ : T_api_Bound))).length R (len_set _ _ _ _)) <| VR.shift (Shift.reSl 27 (List.map T_api_Bound.vv (List.set out2 (x).toNat (⟨x3.Pod, r2⟩ : T_api_Bound))).length R (len_set _ _ _ _)) <| VR.shift (Shift.reSl 32 (List.map T_api_Bound.vv (List.set out2 (x).toNat (⟨x3.Pod, r2⟩ : T_api_Bound))).length R (len_set _ _ _ _)) <| VR.nil <| VW.region <| VR.p R R (VP.move R) <| VR.p R R (VP.fieldP R fa48_0) <| VR.p R R (VP.loadP (i := 0) R R ld9 R) <| VR.p R R (VP.move R) <| VR.p R R (VP.buildP pl53 R R) ?_
    refine VR.cons R R (VO.buildSlice ap35 R R R R R fun b3 => ?_)
    obtain ⟨moves4, h17, hm⟩ := bnd hm
    refine VR.cons R R (VO.apT 2 T_api_Move.vv (l := moves2) (l2 := [(⟨x2.Pod.Name, r2⟩ : T_api_Move)]) ap35 R R (sT_row 0 T_api_Move.vv el35 R R) h17 fun ob8 cap5 => ?_)
    refine VR.p R R (VP.assign R) <| VR.nil <| VW.region <| VR.p R R (VP.arith R R R) <| VR.p R R (VP.move R) <| VR.nil ?_
    exact ⟨((List.set out2 (x).toNat (⟨x3.Pod, r2⟩ : T_api_Bound)), moves4), ((some b), ob8, cap5), hm, (Shift.pick [2, 2] R ⟨R, R, R, R, R, congrArg some (k_next h9 h8), trivial⟩)⟩
   ·have h14 := bf h14
    refine VW.condF R h14 <| VW.skip <| VW.region <| VR.p R R (VP.arith R R R) <| VR.p R R (VP.move R) <| VR.nil ?_
    exact ⟨(out2, moves2), ((some b), ob5, cap3), hm, (Shift.pick [1, 1] R ⟨R, R, R, R, R, congrArg some (k_next h9 h8), trivial⟩)⟩
 ·rintro j ⟨ob6, ob7, cap4⟩ rfl
  have hm := h7
  refine VW.seq <| VW.region <| VR.p R R (VP.move R) <| VR.p R R (VP.move R) <| VR.p R R (VP.assign R) <| VR.p R R (VP.assign R) <| VR.nil ?_
  obtain rfl := Option.some.inj hm
  exact VW.ret ⟨.inl R, _, .cons (.tmp _ _ R) (.cons (.tmp _ _ R) .nil), [1, 0], _, R, ob6, cap, ob7, cap4, R, R⟩

/-! trireme/triremeref02.Ints -/
def ref02_Ints.l1 (a : List Int) (b : List Int) : Nat → Int → Option (Out Bool Unit)
 | 0, _ => none
 | n + 1, i2 =>
  if (decide (i2 < (a.length : Int))) = true then
   (V.gl a i2).bind fun x =>
   (V.gl b i2).bind fun x2 =>
   if (x != x2) = true then
    some (Out.ret false)
   else
    ref02_Ints.l1 a b n (IntKind.i64.wrap (i2 + (1 : Int)))
  else
   some (Out.go ())
def ref02_Ints (a : List Int) (b : List Int) : Option Bool :=
 if ((a.length : Int) != (b.length : Int)) = true then
  some false
 else
  (ref02_Ints.l1 a b FU (0 : Int)).bind fun o =>
  o.on fun j =>
  some true
theorem ref02_Ints_ok (a : List Int) (b : List Int) (r : Bool) (hm : ref02_Ints a b = some r) :
  VC Tryz.prog 17 [.list 3 (List.map (VV.int .i64) a), .list 3 (List.map (VV.int .i64) b)] [] (fun zx zH => zx = .bool r ∧ zH = []) := by
 unfold ref02_Ints at hm
 refine VC.run (c := _) (rs := [.tmp 4]) Tryz.func17 R R R <| VW.seq <| VW.region <| VR.p R R (VP.assign R) <| VR.nil <| VW.seq <| VW.seq <| VW.region <| VR.p R R (VP.move R) <| VR.p R R (VP.lenT (VV.int .i64) R Tryz.underlying41) <| VR.p R R (VP.move R) <| VR.p R R (VP.lenT (VV.int .i64) R Tryz.underlying41) <| VR.p R R (VP.arith R R R) <| VR.nil ?_
 rcases ite_or hm with ⟨h1, hm⟩ | ⟨h1, hm⟩
 ·refine VW.condT R h1 <| VW.seq <| VW.region <| VR.p R R (VP.assign R) <| VR.nil ?_
  obtain rfl := Option.some.inj hm
  exact VW.ret ⟨.inl R, _, .cons (.tmp _ _ R) .nil, [], _, R, R, R⟩
 ·have h1 := bf h1
  refine VW.condF R h1 <| VW.skip <| VW.seq <| VW.seq <| VW.region <| VR.p R R (VP.assign R) <| VR.nil ?_
  obtain ⟨o, h2, h3⟩ := bnd hm
  refine VW.joinE (fun (q : Unit) => o = Out.go q) (fun (j : Unit) (gg : Unit) => []) (fun (j : Unit) (gg : Unit) => []) ?_ ?_
  ·have hm := h2
   refine VW.block (VW.loop FU ?_)
   refine VL.fuelS (R := _) (fun zn (zs : Int) => ref02_Ints.l1 a b zn zs) (fun (zs : Int) (zg : Unit) => [(0, .list 3 (List.map (VV.int .i64) a)), (1, .list 3 (List.map (VV.int .i64) b)), (5, .int .i64 zs)]) (fun (zs : Int) (zg : Unit) => []) (0 : Int) () (fun zs => R) (Shift.pick [] R ⟨R, R, R, trivial⟩) h2 ?_
   rintro n i2 _ hm
   rw [ref02_Ints.l1] at hm
   refine VW.seq <| VW.seq <| VW.region <| VR.p R R (VP.move R) <| VR.p R R (VP.move R) <| VR.p R R (VP.lenT (VV.int .i64) R Tryz.underlying41) <| VR.p R R (VP.arith R R R) <| VR.nil ?_
   rcases ite_or hm with ⟨h4, hm⟩ | ⟨h4, hm⟩
   ·refine VW.condT R h4 <| VW.skip <| VW.seq <| VW.block <| VW.seq <| VW.drawK 0 mixed <| VA.p 0 R R R (by kernel_rfl) (VP.move R) <| VA.p 1 R R R (by kernel_rfl) (VP.move R) ?_
    obtain ⟨x, h5, hm⟩ := bnd hm
    refine VA.p 2 R R R (by kernel_rfl) (VP.glE (VV.int .i64) R R el41 h5) <| VA.p 3 R R R (by kernel_rfl) (VP.loadE R ld3 R) <| VA.p 4 R R R (by kernel_rfl) (VP.move R) <| VA.p 5 R R R (by kernel_rfl) (VP.move R) ?_
    obtain ⟨x2, h6, hm⟩ := bnd hm
    refine VA.p 6 R R R (by kernel_rfl) (VP.glE (VV.int .i64) R R el41 h6) <| VA.p 7 R R R (by kernel_rfl) (VP.loadE R ld3 R) <| VA.p 8 R R R (by kernel_rfl) (VP.arith R R R) <| VA.done (by kernel_rfl) ?_
    rcases ite_or hm with ⟨h7, hm⟩ | ⟨h7, hm⟩
    ·refine VW.condT R h7 <| VW.seq <| VW.region <| VR.p R R (VP.assign R) <| VR.nil ?_
     obtain rfl := Option.some.inj hm
     have hm := Out.ret_on h3
     obtain rfl := Option.some.inj hm
     exact VW.ret ⟨.inl R, _, .cons (.tmp _ _ R) .nil, [], _, R, R, R⟩
    ·have h7 := bf h7
     refine VW.condF R h7 <| VW.skip <| VW.region <| VR.p R R (VP.move R) <| VR.p R R (VP.arith R R R) <| VR.p R R (VP.assign R) <| VR.nil ?_
     exact ⟨(IntKind.i64.wrap (i2 + (1 : Int))), (), hm, (Shift.pick [] R ⟨R, R, R, trivial⟩)⟩
   ·have h4 := bf h4
    refine VW.condF R h4 <| VW.exit ?_
    exact ⟨(), (), (Option.some.inj hm).symm, (Shift.pick [] R trivial)⟩
  ·rintro j _ rfl
   have hm := Out.go_on h3
   refine VW.seq <| VW.region <| VR.p R R (VP.assign R) <| VR.nil ?_
   obtain rfl := Option.some.inj hm
   exact VW.ret ⟨.inl R, _, .cons (.tmp _ _ R) .nil, [], _, R, R, R⟩

/-! trireme/triremeref14.Moves -/
def ref14_Moves.l1 (a : List T_api_Move) (b : List T_api_Move) : Nat → Int → Option (Out Bool Unit)
 | 0, _ => none
 | n + 1, i2 =>
  if (decide (i2 < (a.length : Int))) = true then
   (V.gl a i2).bind fun x =>
   (V.gl b i2).bind fun x2 =>
   if (!(((x.Pod == x2.Pod) && ((x.To == x2.To) && true)) == true)) = true then
    some (Out.ret false)
   else
    ref14_Moves.l1 a b n (IntKind.i64.wrap (i2 + (1 : Int)))
  else
   some (Out.go ())
def ref14_Moves (a : List T_api_Move) (b : List T_api_Move) : Option Bool :=
 if ((a.length : Int) != (b.length : Int)) = true then
  some false
 else
  (ref14_Moves.l1 a b FU (0 : Int)).bind fun o =>
  o.on fun j =>
  some true
theorem ref14_Moves_ok (a : List T_api_Move) (b : List T_api_Move) (r : Bool) (hm : ref14_Moves a b = some r) :
  VC Tryz.prog 16 [.list 53 (List.map T_api_Move.vv a), .list 53 (List.map T_api_Move.vv b)] [] (fun zx zH => zx = .bool r ∧ zH = []) := by
 unfold ref14_Moves at hm
 refine VC.run (c := _) (rs := [.tmp 4]) Tryz.func16 R R R <| VW.seq <| VW.region <| VR.p R R (VP.assign R) <| VR.nil <| VW.seq <| VW.seq <| VW.region <| VR.p R R (VP.move R) <| VR.p R R (VP.lenT T_api_Move.vv R Tryz.underlying35) <| VR.p R R (VP.move R) <| VR.p R R (VP.lenT T_api_Move.vv R Tryz.underlying35) <| VR.p R R (VP.arith R R R) <| VR.nil ?_
 rcases ite_or hm with ⟨h1, hm⟩ | ⟨h1, hm⟩
 ·refine VW.condT R h1 <| VW.seq <| VW.region <| VR.p R R (VP.assign R) <| VR.nil ?_
  obtain rfl := Option.some.inj hm
  exact VW.ret ⟨.inl R, _, .cons (.tmp _ _ R) .nil, [], _, R, R, R⟩
 ·have h1 := bf h1
  refine VW.condF R h1 <| VW.skip <| VW.seq <| VW.seq <| VW.region <| VR.p R R (VP.assign R) <| VR.nil ?_
  obtain ⟨o, h2, h3⟩ := bnd hm
  refine VW.joinE (fun (q : Unit) => o = Out.go q) (fun (j : Unit) (gg : Unit) => []) (fun (j : Unit) (gg : Unit) => []) ?_ ?_
  ·have hm := h2
   refine VW.block (VW.loop FU ?_)
   refine VL.fuelS (R := _) (fun zn (zs : Int) => ref14_Moves.l1 a b zn zs) (fun (zs : Int) (zg : Unit) => [(0, .list 53 (List.map T_api_Move.vv a)), (1, .list 53 (List.map T_api_Move.vv b)), (5, .int .i64 zs)]) (fun (zs : Int) (zg : Unit) => []) (0 : Int) () (fun zs => R) (Shift.pick [] R ⟨R, R, R, trivial⟩) h2 ?_
   rintro n i2 _ hm
   rw [ref14_Moves.l1] at hm
   refine VW.seq <| VW.seq <| VW.region <| VR.p R R (VP.move R) <| VR.p R R (VP.move R) <| VR.p R R (VP.lenT T_api_Move.vv R Tryz.underlying35) <| VR.p R R (VP.arith R R R) <| VR.nil ?_
   rcases ite_or hm with ⟨h4, hm⟩ | ⟨h4, hm⟩
   ·refine VW.condT R h4 <| VW.skip <| VW.seq <| VW.block <| VW.seq <| VW.drawK 0 mixed <| VA.p 0 R R R (by kernel_rfl) (VP.move R) <| VA.p 1 R R R (by kernel_rfl) (VP.move R) ?_
    obtain ⟨x, h5, hm⟩ := bnd hm
    refine VA.p 2 R R R (by kernel_rfl) (VP.glE T_api_Move.vv R R el35 h5) <| VA.p 3 R R R (by kernel_rfl) (VP.loadE R ld53 R) <| VA.p 4 R R R (by kernel_rfl) (VP.move R) <| VA.p 5 R R R (by kernel_rfl) (VP.move R) ?_
    obtain ⟨x2, h6, hm⟩ := bnd hm
    refine VA.p 6 R R R (by kernel_rfl) (VP.glE T_api_Move.vv R R el35 h6) <| VA.p 7 R R R (by kernel_rfl) (VP.loadE R ld53 R) <| VA.p 8 R R R (by kernel_rfl) (VP.eqS shp53 eq53 R R R R) <| VA.done (by kernel_rfl) ?_
    rcases ite_or hm with ⟨h7, hm⟩ | ⟨h7, hm⟩
    ·refine VW.condT R h7 <| VW.seq <| VW.region <| VR.p R R (VP.assign R) <| VR.nil ?_
     obtain rfl := Option.some.inj hm
     have hm := Out.ret_on h3
     obtain rfl := Option.some.inj hm
     exact VW.ret ⟨.inl R, _, .cons (.tmp _ _ R) .nil, [], _, R, R, R⟩
    ·have h7 := bf h7
     refine VW.condF R h7 <| VW.skip <| VW.region <| VR.p R R (VP.move R) <| VR.p R R (VP.arith R R R) <| VR.p R R (VP.assign R) <| VR.nil ?_
     exact ⟨(IntKind.i64.wrap (i2 + (1 : Int))), (), hm, (Shift.pick [] R ⟨R, R, R, trivial⟩)⟩
   ·have h4 := bf h4
    refine VW.condF R h4 <| VW.exit ?_
    exact ⟨(), (), (Option.some.inj hm).symm, (Shift.pick [] R trivial)⟩
  ·rintro j _ rfl
   have hm := Out.go_on h3
   refine VW.seq <| VW.region <| VR.p R R (VP.assign R) <| VR.nil ?_
   obtain rfl := Option.some.inj hm
   exact VW.ret ⟨.inl R, _, .cons (.tmp _ _ R) .nil, [], _, R, R, R⟩

/-! trireme/triremelaw14.known -/
def law14_known : Option Bool :=
 (sched_Step [(⟨(⟨#[109]⟩ : ByteArray), (⟨#[]⟩ : ByteArray), (⟨(1000 : Int), (0 : Int), (0 : Int), (9 : Int), (0 : Int)⟩ : T_api_Res), ([] : List T_api_Label), ([] : List T_api_Taint), true⟩ : T_api_Machine), (⟨(⟨#[110]⟩ : ByteArray), (⟨#[]⟩ : ByteArray), (⟨(1000 : Int), (0 : Int), (0 : Int), (9 : Int), (0 : Int)⟩ : T_api_Res), ([] : List T_api_Label), ([] : List T_api_Taint), true⟩ : T_api_Machine)] [(⟨(⟨(⟨#[112]⟩ : ByteArray), (⟨(600 : Int), (0 : Int), (0 : Int), (1 : Int), (0 : Int)⟩ : T_api_Res), ([] : List T_api_Label), ([] : List T_api_Label), ([] : List T_api_Term), ([] : List T_api_Toleration), ([] : List Int), ([] : List T_api_Label), false, ([] : List T_api_Label), (0 : Int), (0 : Int), (⟨#[]⟩ : ByteArray), false, false, false⟩ : T_api_Pod), (⟨#[]⟩ : ByteArray)⟩ : T_api_Bound), (⟨(⟨(⟨#[113]⟩ : ByteArray), (⟨(600 : Int), (0 : Int), (0 : Int), (1 : Int), (0 : Int)⟩ : T_api_Res), ([] : List T_api_Label), ([] : List T_api_Label), ([] : List T_api_Term), ([] : List T_api_Toleration), ([] : List Int), ([] : List T_api_Label), false, ([] : List T_api_Label), (0 : Int), (5 : Int), (⟨#[]⟩ : ByteArray), false, false, false⟩ : T_api_Pod), (⟨#[]⟩ : ByteArray)⟩ : T_api_Bound), (⟨(⟨(⟨#[114]⟩ : ByteArray), (⟨(600 : Int), (0 : Int), (0 : Int), (1 : Int), (0 : Int)⟩ : T_api_Res), ([] : List T_api_Label), ([] : List T_api_Label), ([] : List T_api_Term), ([] : List T_api_Toleration), ([] : List Int), ([] : List T_api_Label), false, ([] : List T_api_Label), (0 : Int), (0 : Int), (⟨#[]⟩ : ByteArray), false, false, false⟩ : T_api_Pod), (⟨#[]⟩ : ByteArray)⟩ : T_api_Bound)]).bind fun r =>
 (sched_Order [(⟨(⟨(⟨#[112]⟩ : ByteArray), (⟨(600 : Int), (0 : Int), (0 : Int), (1 : Int), (0 : Int)⟩ : T_api_Res), ([] : List T_api_Label), ([] : List T_api_Label), ([] : List T_api_Term), ([] : List T_api_Toleration), ([] : List Int), ([] : List T_api_Label), false, ([] : List T_api_Label), (0 : Int), (0 : Int), (⟨#[]⟩ : ByteArray), false, false, false⟩ : T_api_Pod), (⟨#[]⟩ : ByteArray)⟩ : T_api_Bound), (⟨(⟨(⟨#[113]⟩ : ByteArray), (⟨(600 : Int), (0 : Int), (0 : Int), (1 : Int), (0 : Int)⟩ : T_api_Res), ([] : List T_api_Label), ([] : List T_api_Label), ([] : List T_api_Term), ([] : List T_api_Toleration), ([] : List Int), ([] : List T_api_Label), false, ([] : List T_api_Label), (0 : Int), (5 : Int), (⟨#[]⟩ : ByteArray), false, false, false⟩ : T_api_Pod), (⟨#[]⟩ : ByteArray)⟩ : T_api_Bound), (⟨(⟨(⟨#[114]⟩ : ByteArray), (⟨(600 : Int), (0 : Int), (0 : Int), (1 : Int), (0 : Int)⟩ : T_api_Res), ([] : List T_api_Label), ([] : List T_api_Label), ([] : List T_api_Term), ([] : List T_api_Toleration), ([] : List Int), ([] : List T_api_Label), false, ([] : List T_api_Label), (0 : Int), (0 : Int), (⟨#[]⟩ : ByteArray), false, false, false⟩ : T_api_Pod), (⟨#[]⟩ : ByteArray)⟩ : T_api_Bound)]).bind fun r7 =>
 (ref02_Ints r7 [(1 : Int), (0 : Int), (2 : Int)]).bind fun r8 =>
 (if (r8 && ((r.1.length : Int) == (3 : Int))) = true then (V.gl r.1 (0 : Int)).bind fun x8 =>
 some (V.seq x8.On (⟨#[110]⟩ : ByteArray)) else some false).bind fun c8 =>
 (if c8 = true then (V.gl r.1 (1 : Int)).bind fun x9 =>
 some (V.seq x9.On (⟨#[109]⟩ : ByteArray)) else some false).bind fun c9 =>
 (if c9 = true then (V.gl r.1 (2 : Int)).bind fun x10 =>
 some (V.seq x10.On (⟨#[]⟩ : ByteArray)) else some false).bind fun c10 =>
 (if c10 = true then (ref14_Moves r.2 [(⟨(⟨#[113]⟩ : ByteArray), (⟨#[109]⟩ : ByteArray)⟩ : T_api_Move), (⟨(⟨#[112]⟩ : ByteArray), (⟨#[110]⟩ : ByteArray)⟩ : T_api_Move)]).bind fun r9 =>
 some r9 else some false).bind fun c11 =>
 (if c11 = true then (V.gl [(⟨(⟨(⟨#[112]⟩ : ByteArray), (⟨(600 : Int), (0 : Int), (0 : Int), (1 : Int), (0 : Int)⟩ : T_api_Res), ([] : List T_api_Label), ([] : List T_api_Label), ([] : List T_api_Term), ([] : List T_api_Toleration), ([] : List Int), ([] : List T_api_Label), false, ([] : List T_api_Label), (0 : Int), (0 : Int), (⟨#[]⟩ : ByteArray), false, false, false⟩ : T_api_Pod), (⟨#[]⟩ : ByteArray)⟩ : T_api_Bound), (⟨(⟨(⟨#[113]⟩ : ByteArray), (⟨(600 : Int), (0 : Int), (0 : Int), (1 : Int), (0 : Int)⟩ : T_api_Res), ([] : List T_api_Label), ([] : List T_api_Label), ([] : List T_api_Term), ([] : List T_api_Toleration), ([] : List Int), ([] : List T_api_Label), false, ([] : List T_api_Label), (0 : Int), (5 : Int), (⟨#[]⟩ : ByteArray), false, false, false⟩ : T_api_Pod), (⟨#[]⟩ : ByteArray)⟩ : T_api_Bound), (⟨(⟨(⟨#[114]⟩ : ByteArray), (⟨(600 : Int), (0 : Int), (0 : Int), (1 : Int), (0 : Int)⟩ : T_api_Res), ([] : List T_api_Label), ([] : List T_api_Label), ([] : List T_api_Term), ([] : List T_api_Toleration), ([] : List Int), ([] : List T_api_Label), false, ([] : List T_api_Label), (0 : Int), (0 : Int), (⟨#[]⟩ : ByteArray), false, false, false⟩ : T_api_Pod), (⟨#[]⟩ : ByteArray)⟩ : T_api_Bound)] (2 : Int)).bind fun x11 =>
 (sched_Best [(⟨(⟨#[109]⟩ : ByteArray), (⟨#[]⟩ : ByteArray), (⟨(1000 : Int), (0 : Int), (0 : Int), (9 : Int), (0 : Int)⟩ : T_api_Res), ([] : List T_api_Label), ([] : List T_api_Taint), true⟩ : T_api_Machine), (⟨(⟨#[110]⟩ : ByteArray), (⟨#[]⟩ : ByteArray), (⟨(1000 : Int), (0 : Int), (0 : Int), (9 : Int), (0 : Int)⟩ : T_api_Res), ([] : List T_api_Label), ([] : List T_api_Taint), true⟩ : T_api_Machine)] r.1 x11.Pod).bind fun r10 =>
 some (V.seq r10 (⟨#[]⟩ : ByteArray)) else some false).bind fun c12 =>
 (if c12 = true then (V.gl [(⟨(⟨(⟨#[112]⟩ : ByteArray), (⟨(600 : Int), (0 : Int), (0 : Int), (1 : Int), (0 : Int)⟩ : T_api_Res), ([] : List T_api_Label), ([] : List T_api_Label), ([] : List T_api_Term), ([] : List T_api_Toleration), ([] : List Int), ([] : List T_api_Label), false, ([] : List T_api_Label), (0 : Int), (0 : Int), (⟨#[]⟩ : ByteArray), false, false, false⟩ : T_api_Pod), (⟨#[]⟩ : ByteArray)⟩ : T_api_Bound), (⟨(⟨(⟨#[113]⟩ : ByteArray), (⟨(600 : Int), (0 : Int), (0 : Int), (1 : Int), (0 : Int)⟩ : T_api_Res), ([] : List T_api_Label), ([] : List T_api_Label), ([] : List T_api_Term), ([] : List T_api_Toleration), ([] : List Int), ([] : List T_api_Label), false, ([] : List T_api_Label), (0 : Int), (5 : Int), (⟨#[]⟩ : ByteArray), false, false, false⟩ : T_api_Pod), (⟨#[]⟩ : ByteArray)⟩ : T_api_Bound), (⟨(⟨(⟨#[114]⟩ : ByteArray), (⟨(600 : Int), (0 : Int), (0 : Int), (1 : Int), (0 : Int)⟩ : T_api_Res), ([] : List T_api_Label), ([] : List T_api_Label), ([] : List T_api_Term), ([] : List T_api_Toleration), ([] : List Int), ([] : List T_api_Label), false, ([] : List T_api_Label), (0 : Int), (0 : Int), (⟨#[]⟩ : ByteArray), false, false, false⟩ : T_api_Pod), (⟨#[]⟩ : ByteArray)⟩ : T_api_Bound)] (2 : Int)).bind fun x12 =>
 (sched_Best [(⟨(⟨#[109]⟩ : ByteArray), (⟨#[]⟩ : ByteArray), (⟨(1000 : Int), (0 : Int), (0 : Int), (9 : Int), (0 : Int)⟩ : T_api_Res), ([] : List T_api_Label), ([] : List T_api_Taint), true⟩ : T_api_Machine), (⟨(⟨#[110]⟩ : ByteArray), (⟨#[]⟩ : ByteArray), (⟨(1000 : Int), (0 : Int), (0 : Int), (9 : Int), (0 : Int)⟩ : T_api_Res), ([] : List T_api_Label), ([] : List T_api_Taint), true⟩ : T_api_Machine)] ([] : List T_api_Bound) x12.Pod).bind fun r11 =>
 some (V.seq r11 (⟨#[109]⟩ : ByteArray)) else some false).bind fun c13 =>
 some c13
theorem law14_known_ok (r : Bool) (hm : law14_known = some r) :
  VC Tryz.prog 25 [] [] (fun zx zH => zx = .bool r ∧ zH = []) := by
 unfold law14_known at hm
 refine VC.run (c := _) (rs := [.tmp 0]) Tryz.func25 R R R <| VW.seq <| VW.region <| VR.p R R (VP.assign R) <| VR.nil <| VW.seq <| VW.region <| VR.p R R (VP.buildP pl26 R R) <| VR.p R R (VP.buildP pl30 R R) <| VR.p R R (VP.buildP pl26 R R) <| VR.p R R (VP.buildP pl30 R R) <| VR.shift (Shift.trans (Shift.nilRow 124) (Shift.trans (Shift.freezeE 0 [(6, .agg [.str (⟨#[109]⟩ : ByteArray), .str (⟨#[]⟩ : ByteArray), .int .i64 (1000 : Int), .int .i64 (0 : Int), .int .i64 (0 : Int), .int .i64 (9 : Int), .int .i64 (0 : Int), .list 124 (List.map T_api_Label.vv ([] : List T_api_Label)), .sl none 0 0, .bool true])] R ⟨⟨_, R, .aggL ⟨.same _, .same _, .same _, .same _, .same _, .same _, .same _, .here _ R, .same _, .same _, trivial⟩⟩, trivial⟩ (FzH.refl _)) (Shift.trans (Shift.nilRow 126) (Shift.trans (Shift.freezeE 0 [(6, T_api_Machine.vv (⟨(⟨#[109]⟩ : ByteArray), (⟨#[]⟩ : ByteArray), (⟨(1000 : Int), (0 : Int), (0 : Int), (9 : Int), (0 : Int)⟩ : T_api_Res), ([] : List T_api_Label), ([] : List T_api_Taint), true⟩ : T_api_Machine))] R ⟨⟨_, R, .aggL ⟨.same _, .same _, .same _, .same _, .same _, .same _, .same _, .same _, .here _ R, .same _, trivial⟩⟩, trivial⟩ (FzH.refl _)) (Shift.trans (Shift.nilRow 124) (Shift.trans (Shift.freezeE 0 [(8, .agg [.str (⟨#[110]⟩ : ByteArray), .str (⟨#[]⟩ : ByteArray), .int .i64 (1000 : Int), .int .i64 (0 : Int), .int .i64 (0 : Int), .int .i64 (9 : Int), .int .i64 (0 : Int), .list 124 (List.map T_api_Label.vv ([] : List T_api_Label)), .sl none 0 0, .bool true])] R ⟨⟨_, R, .aggL ⟨.same _, .same _, .same _, .same _, .same _, .same _, .same _, .here _ R, .same _, .same _, trivial⟩⟩, trivial⟩ (FzH.refl _)) (Shift.trans (Shift.nilRow 126) (Shift.freezeE 0 [(8, T_api_Machine.vv (⟨(⟨#[110]⟩ : ByteArray), (⟨#[]⟩ : ByteArray), (⟨(1000 : Int), (0 : Int), (0 : Int), (9 : Int), (0 : Int)⟩ : T_api_Res), ([] : List T_api_Label), ([] : List T_api_Taint), true⟩ : T_api_Machine))] R ⟨⟨_, R, .aggL ⟨.same _, .same _, .same _, .same _, .same _, .same _, .same _, .same _, .here _ R, .same _, trivial⟩⟩, trivial⟩ (FzH.refl _))))))))) ?_
 refine VR.cons R R (VO.buildSlice ap22 R R R R R fun b => ?_)
 refine VR.shift (Shift.freezeE 0 [(9, .list 30 (List.map T_api_Machine.vv [(⟨(⟨#[109]⟩ : ByteArray), (⟨#[]⟩ : ByteArray), (⟨(1000 : Int), (0 : Int), (0 : Int), (9 : Int), (0 : Int)⟩ : T_api_Res), ([] : List T_api_Label), ([] : List T_api_Taint), true⟩ : T_api_Machine), (⟨(⟨#[110]⟩ : ByteArray), (⟨#[]⟩ : ByteArray), (⟨(1000 : Int), (0 : Int), (0 : Int), (9 : Int), (0 : Int)⟩ : T_api_Res), ([] : List T_api_Label), ([] : List T_api_Taint), true⟩ : T_api_Machine)]))] R ⟨⟨_, R, .here _ R⟩, trivial⟩ (FzH.refl _)) <| VR.p R R (VP.assign R) <| VR.nil <| VW.seq <| VW.region <| VR.p R R (VP.buildP pl26 R R) <| VR.p R R (VP.buildP pl48 R R) <| VR.p R R (VP.buildP pl50 R R) <| VR.p R R (VP.buildP pl26 R R) <| VR.p R R (VP.buildP pl48 R R) <| VR.p R R (VP.buildP pl50 R R) <| VR.p R R (VP.buildP pl26 R R) <| VR.p R R (VP.buildP pl48 R R) <| VR.p R R (VP.buildP pl50 R R) <| VR.shift (Shift.trans (Shift.nilRow 124) (Shift.trans (Shift.freezeE 0 [(12, .agg [.str (⟨#[112]⟩ : ByteArray), .int .i64 (600 : Int), .int .i64 (0 : Int), .int .i64 (0 : Int), .int .i64 (1 : Int), .int .i64 (0 : Int), .list 124 (List.map T_api_Label.vv ([] : List T_api_Label)), .list 124 (List.map T_api_Label.vv ([] : List T_api_Label)), .sl none 0 0, .sl none 0 0, .sl none 0 0, .list 124 (List.map T_api_Label.vv ([] : List T_api_Label)), .bool false, .list 124 (List.map T_api_Label.vv ([] : List T_api_Label)), .int .i64 (0 : Int), .int .i64 (0 : Int), .str (⟨#[]⟩ : ByteArray), .bool false, .bool false, .bool false, .str (⟨#[]⟩ : ByteArray)])] R ⟨⟨_, R, .aggL ⟨.same _, .same _, .same _, .same _, .same _, .same _, .here _ R, .here _ R, .same _, .same _, .same _, .here _ R, .same _, .here _ R, .same _, .same _, .same _, .same _, .same _, .same _, .same _, trivial⟩⟩, trivial⟩ (FzH.refl _)) (Shift.trans (Shift.nilRow 103) (Shift.trans (Shift.freezeE 0 [(12, .agg [.str (⟨#[112]⟩ : ByteArray), .int .i64 (600 : Int), .int .i64 (0 : Int), .int .i64 (0 : Int), .int .i64 (1 : Int), .int .i64 (0 : Int), .list 124 (List.map T_api_Label.vv ([] : List T_api_Label)), .list 124 (List.map T_api_Label.vv ([] : List T_api_Label)), .list 103 (List.map T_api_Term.vv ([] : List T_api_Term)), .sl none 0 0, .sl none 0 0, .list 124 (List.map T_api_Label.vv ([] : List T_api_Label)), .bool false, .list 124 (List.map T_api_Label.vv ([] : List T_api_Label)), .int .i64 (0 : Int), .int .i64 (0 : Int), .str (⟨#[]⟩ : ByteArray), .bool false, .bool false, .bool false, .str (⟨#[]⟩ : ByteArray)])] R ⟨⟨_, R, .aggL ⟨.same _, .same _, .same _, .same _, .same _, .same _, .same _, .same _, .here _ R, .same _, .same _, .same _, .same _, .same _, .same _, .same _, .same _, .same _, .same _, .same _, .same _, trivial⟩⟩, trivial⟩ (FzH.refl _)) (Shift.trans (Shift.nilRow 128) (Shift.trans (Shift.freezeE 0 [(12, .agg [.str (⟨#[112]⟩ : ByteArray), .int .i64 (600 : Int), .int .i64 (0 : Int), .int .i64 (0 : Int), .int .i64 (1 : Int), .int .i64 (0 : Int), .list 124 (List.map T_api_Label.vv ([] : List T_api_Label)), .list 124 (List.map T_api_Label.vv ([] : List T_api_Label)), .list 103 (List.map T_api_Term.vv ([] : List T_api_Term)), .list 128 (List.map T_api_Toleration.vv ([] : List T_api_Toleration)), .sl none 0 0, .list 124 (List.map T_api_Label.vv ([] : List T_api_Label)), .bool false, .list 124 (List.map T_api_Label.vv ([] : List T_api_Label)), .int .i64 (0 : Int), .int .i64 (0 : Int), .str (⟨#[]⟩ : ByteArray), .bool false, .bool false, .bool false, .str (⟨#[]⟩ : ByteArray)])] R ⟨⟨_, R, .aggL ⟨.same _, .same _, .same _, .same _, .same _, .same _, .same _, .same _, .same _, .here _ R, .same _, .same _, .same _, .same _, .same _, .same _, .same _, .same _, .same _, .same _, .same _, trivial⟩⟩, trivial⟩ (FzH.refl _)) (Shift.trans (Shift.nilRow 3) (Shift.trans (Shift.freezeE 0 [(12, T_api_Bound.vv (⟨(⟨(⟨#[112]⟩ : ByteArray), (⟨(600 : Int), (0 : Int), (0 : Int), (1 : Int), (0 : Int)⟩ : T_api_Res), ([] : List T_api_Label), ([] : List T_api_Label), ([] : List T_api_Term), ([] : List T_api_Toleration), ([] : List Int), ([] : List T_api_Label), false, ([] : List T_api_Label), (0 : Int), (0 : Int), (⟨#[]⟩ : ByteArray), false, false, false⟩ : T_api_Pod), (⟨#[]⟩ : ByteArray)⟩ : T_api_Bound))] R ⟨⟨_, R, .aggL ⟨.same _, .same _, .same _, .same _, .same _, .same _, .same _, .same _, .same _, .same _, .here _ R, .same _, .same _, .same _, .same _, .same _, .same _, .same _, .same _, .same _, .same _, trivial⟩⟩, trivial⟩ (FzH.refl _)) (Shift.trans (Shift.nilRow 124) (Shift.trans (Shift.freezeE 0 [(15, .agg [.str (⟨#[113]⟩ : ByteArray), .int .i64 (600 : Int), .int .i64 (0 : Int), .int .i64 (0 : Int), .int .i64 (1 : Int), .int .i64 (0 : Int), .list 124 (List.map T_api_Label.vv ([] : List T_api_Label)), .list 124 (List.map T_api_Label.vv ([] : List T_api_Label)), .sl none 0 0, .sl none 0 0, .sl none 0 0, .list 124 (List.map T_api_Label.vv ([] : List T_api_Label)), .bool false, .list 124 (List.map T_api_Label.vv ([] : List T_api_Label)), .int .i64 (0 : Int), .int .i64 (5 : Int), .str (⟨#[]⟩ : ByteArray), .bool false, .bool false, .bool false, .str (⟨#[]⟩ : ByteArray)])] R ⟨⟨_, R, .aggL ⟨.same _, .same _, .same _, .same _, .same _, .same _, .here _ R, .here _ R, .same _, .same _, .same _, .here _ R, .same _, .here _ R, .same _, .same _, .same _, .same _, .same _, .same _, .same _, trivial⟩⟩, trivial⟩ (FzH.refl _)) (Shift.trans (Shift.nilRow 103) (Shift.trans (Shift.freezeE 0 [(15, .agg [.str (⟨#[113]⟩ : ByteArray), .int .i64 (600 : Int), .int .i64 (0 : Int), .int .i64 (0 : Int), .int .i64 (1 : Int), .int .i64 (0 : Int), .list 124 (List.map T_api_Label.vv ([] : List T_api_Label)), .list 124 (List.map T_api_Label.vv ([] : List T_api_Label)), .list 103 (List.map T_api_Term.vv ([] : List T_api_Term)), .sl none 0 0, .sl none 0 0, .list 124 (List.map T_api_Label.vv ([] : List T_api_Label)), .bool false, .list 124 (List.map T_api_Label.vv ([] : List T_api_Label)), .int .i64 (0 : Int), .int .i64 (5 : Int), .str (⟨#[]⟩ : ByteArray), .bool false, .bool false, .bool false, .str (⟨#[]⟩ : ByteArray)])] R ⟨⟨_, R, .aggL ⟨.same _, .same _, .same _, .same _, .same _, .same _, .same _, .same _, .here _ R, .same _, .same _, .same _, .same _, .same _, .same _, .same _, .same _, .same _, .same _, .same _, .same _, trivial⟩⟩, trivial⟩ (FzH.refl _)) (Shift.trans (Shift.nilRow 128) (Shift.trans (Shift.freezeE 0 [(15, .agg [.str (⟨#[113]⟩ : ByteArray), .int .i64 (600 : Int), .int .i64 (0 : Int), .int .i64 (0 : Int), .int .i64 (1 : Int), .int .i64 (0 : Int), .list 124 (List.map T_api_Label.vv ([] : List T_api_Label)), .list 124 (List.map T_api_Label.vv ([] : List T_api_Label)), .list 103 (List.map T_api_Term.vv ([] : List T_api_Term)), .list 128 (List.map T_api_Toleration.vv ([] : List T_api_Toleration)), .sl none 0 0, .list 124 (List.map T_api_Label.vv ([] : List T_api_Label)), .bool false, .list 124 (List.map T_api_Label.vv ([] : List T_api_Label)), .int .i64 (0 : Int), .int .i64 (5 : Int), .str (⟨#[]⟩ : ByteArray), .bool false, .bool false, .bool false, .str (⟨#[]⟩ : ByteArray)])] R ⟨⟨_, R, .aggL ⟨.same _, .same _, .same _, .same _, .same _, .same _, .same _, .same _, .same _, .here _ R, .same _, .same _, .same _, .same _, .same _, .same _, .same _, .same _, .same _, .same _, .same _, trivial⟩⟩, trivial⟩ (FzH.refl _)) (Shift.trans (Shift.nilRow 3) (Shift.trans (Shift.freezeE 0 [(15, T_api_Bound.vv (⟨(⟨(⟨#[113]⟩ : ByteArray), (⟨(600 : Int), (0 : Int), (0 : Int), (1 : Int), (0 : Int)⟩ : T_api_Res), ([] : List T_api_Label), ([] : List T_api_Label), ([] : List T_api_Term), ([] : List T_api_Toleration), ([] : List Int), ([] : List T_api_Label), false, ([] : List T_api_Label), (0 : Int), (5 : Int), (⟨#[]⟩ : ByteArray), false, false, false⟩ : T_api_Pod), (⟨#[]⟩ : ByteArray)⟩ : T_api_Bound))] R ⟨⟨_, R, .aggL ⟨.same _, .same _, .same _, .same _, .same _, .same _, .same _, .same _, .same _, .same _, .here _ R, .same _, .same _, .same _, .same _, .same _, .same _, .same _, .same _, .same _, .same _, trivial⟩⟩, trivial⟩ (FzH.refl _)) (Shift.trans (Shift.nilRow 124) (Shift.trans (Shift.freezeE 0 [(18, .agg [.str (⟨#[114]⟩ : ByteArray), .int .i64 (600 : Int), .int .i64 (0 : Int), .int .i64 (0 : Int), .int .i64 (1 : Int), .int .i64 (0 : Int), .list 124 (List.map T_api_Label.vv ([] : List T_api_Label)), .list 124 (List.map T_api_Label.vv ([] : List T_api_Label)), .sl none 0 0, .sl none 0 0, .sl none 0 0, .list 124 (List.map T_api_Label.vv ([] : List T_api_Label)), .bool false, .list 124 (List.map T_api_Label.vv ([] : List T_api_Label)), .int .i64 (0 : Int), .int .i64 (0 : Int), .str (⟨#[]⟩ : ByteArray), .bool false, .bool false, .bool false, .str (⟨#[]⟩ : ByteArray)])] R ⟨⟨_, R, .aggL ⟨.same _, .same _, .same _, .same _, .same _, .same _, .here _ R, .here _ R, .same _, .same _, .same _, .here _ R, .same _, .here _ R, .same _, .same _, .same _, .same _, .same _, .same _, .same _, trivial⟩⟩, trivial⟩ (FzH.refl _)) (Shift.trans (Shift.nilRow 103) (Shift.trans (Shift.freezeE 0 [(18, .agg [.str (⟨#[114]⟩ : ByteArray), .int .i64 (600 : Int), .int .i64 (0 : Int), .int .i64 (0 : Int), .int .i64 (1 : Int), .int .i64 (0 : Int), .list 124 (List.map T_api_Label.vv ([] : List T_api_Label)), .list 124 (List.map T_api_Label.vv ([] : List T_api_Label)), .list 103 (List.map T_api_Term.vv ([] : List T_api_Term)), .sl none 0 0, .sl none 0 0, .list 124 (List.map T_api_Label.vv ([] : List T_api_Label)), .bool false, .list 124 (List.map T_api_Label.vv ([] : List T_api_Label)), .int .i64 (0 : Int), .int .i64 (0 : Int), .str (⟨#[]⟩ : ByteArray), .bool false, .bool false, .bool false, .str (⟨#[]⟩ : ByteArray)])] R ⟨⟨_, R, .aggL ⟨.same _, .same _, .same _, .same _, .same _, .same _, .same _, .same _, .here _ R, .same _, .same _, .same _, .same _, .same _, .same _, .same _, .same _, .same _, .same _, .same _, .same _, trivial⟩⟩, trivial⟩ (FzH.refl _)) (Shift.trans (Shift.nilRow 128) (Shift.trans (Shift.freezeE 0 [(18, .agg [.str (⟨#[114]⟩ : ByteArray), .int .i64 (600 : Int), .int .i64 (0 : Int), .int .i64 (0 : Int), .int .i64 (1 : Int), .int .i64 (0 : Int), .list 124 (List.map T_api_Label.vv ([] : List T_api_Label)), .list 124 (List.map T_api_Label.vv ([] : List T_api_Label)), .list 103 (List.map T_api_Term.vv ([] : List T_api_Term)), .list 128 (List.map T_api_Toleration.vv ([] : List T_api_Toleration)), .sl none 0 0, .list 124 (List.map T_api_Label.vv ([] : List T_api_Label)), .bool false, .list 124 (List.map T_api_Label.vv ([] : List T_api_Label)), .int .i64 (0 : Int), .int .i64 (0 : Int), .str (⟨#[]⟩ : ByteArray), .bool false, .bool false, .bool false, .str (⟨#[]⟩ : ByteArray)])] R ⟨⟨_, R, .aggL ⟨.same _, .same _, .same _, .same _, .same _, .same _, .same _, .same _, .same _, .here _ R, .same _, .same _, .same _, .same _, .same _, .same _, .same _, .same _, .same _, .same _, .same _, trivial⟩⟩, trivial⟩ (FzH.refl _)) (Shift.trans (Shift.nilRow 3) (Shift.freezeE 0 [(18, T_api_Bound.vv (⟨(⟨(⟨#[114]⟩ : ByteArray), (⟨(600 : Int), (0 : Int), (0 : Int), (1 : Int), (0 : Int)⟩ : T_api_Res), ([] : List T_api_Label), ([] : List T_api_Label), ([] : List T_api_Term), ([] : List T_api_Toleration), ([] : List Int), ([] : List T_api_Label), false, ([] : List T_api_Label), (0 : Int), (0 : Int), (⟨#[]⟩ : ByteArray), false, false, false⟩ : T_api_Pod), (⟨#[]⟩ : ByteArray)⟩ : T_api_Bound))] R ⟨⟨_, R, .aggL ⟨.same _, .same _, .same _, .same _, .same _, .same _, .same _, .same _, .same _, .same _, .here _ R, .same _, .same _, .same _, .same _, .same _, .same _, .same _, .same _, .same _, .same _, trivial⟩⟩, trivial⟩ (FzH.refl _))))))))))))))))))))))))) ?_
 refine VR.cons R R (VO.buildSlice ap23 R R R R R fun b2 => ?_)
 refine VR.shift (Shift.freezeE 0 [(19, .list 50 (List.map T_api_Bound.vv [(⟨(⟨(⟨#[112]⟩ : ByteArray), (⟨(600 : Int), (0 : Int), (0 : Int), (1 : Int), (0 : Int)⟩ : T_api_Res), ([] : List T_api_Label), ([] : List T_api_Label), ([] : List T_api_Term), ([] : List T_api_Toleration), ([] : List Int), ([] : List T_api_Label), false, ([] : List T_api_Label), (0 : Int), (0 : Int), (⟨#[]⟩ : ByteArray), false, false, false⟩ : T_api_Pod), (⟨#[]⟩ : ByteArray)⟩ : T_api_Bound), (⟨(⟨(⟨#[113]⟩ : ByteArray), (⟨(600 : Int), (0 : Int), (0 : Int), (1 : Int), (0 : Int)⟩ : T_api_Res), ([] : List T_api_Label), ([] : List T_api_Label), ([] : List T_api_Term), ([] : List T_api_Toleration), ([] : List Int), ([] : List T_api_Label), false, ([] : List T_api_Label), (0 : Int), (5 : Int), (⟨#[]⟩ : ByteArray), false, false, false⟩ : T_api_Pod), (⟨#[]⟩ : ByteArray)⟩ : T_api_Bound), (⟨(⟨(⟨#[114]⟩ : ByteArray), (⟨(600 : Int), (0 : Int), (0 : Int), (1 : Int), (0 : Int)⟩ : T_api_Res), ([] : List T_api_Label), ([] : List T_api_Label), ([] : List T_api_Term), ([] : List T_api_Toleration), ([] : List Int), ([] : List T_api_Label), false, ([] : List T_api_Label), (0 : Int), (0 : Int), (⟨#[]⟩ : ByteArray), false, false, false⟩ : T_api_Pod), (⟨#[]⟩ : ByteArray)⟩ : T_api_Bound)]))] R ⟨⟨_, R, .here _ R⟩, trivial⟩ (FzH.refl _)) <| VR.p R R (VP.assign R) <| VR.nil <| VW.seq <| VW.region <| VR.p R R (VP.move R) <| VR.p R R (VP.move R) ?_
 obtain ⟨r, h3, hm⟩ := bnd hm
 refine VR.cons R R (VO.callK 0 R fn26 R (sched_Step_ok [(⟨(⟨#[109]⟩ : ByteArray), (⟨#[]⟩ : ByteArray), (⟨(1000 : Int), (0 : Int), (0 : Int), (9 : Int), (0 : Int)⟩ : T_api_Res), ([] : List T_api_Label), ([] : List T_api_Taint), true⟩ : T_api_Machine), (⟨(⟨#[110]⟩ : ByteArray), (⟨#[]⟩ : ByteArray), (⟨(1000 : Int), (0 : Int), (0 : Int), (9 : Int), (0 : Int)⟩ : T_api_Res), ([] : List T_api_Label), ([] : List T_api_Taint), true⟩ : T_api_Machine)] [(⟨(⟨(⟨#[112]⟩ : ByteArray), (⟨(600 : Int), (0 : Int), (0 : Int), (1 : Int), (0 : Int)⟩ : T_api_Res), ([] : List T_api_Label), ([] : List T_api_Label), ([] : List T_api_Term), ([] : List T_api_Toleration), ([] : List Int), ([] : List T_api_Label), false, ([] : List T_api_Label), (0 : Int), (0 : Int), (⟨#[]⟩ : ByteArray), false, false, false⟩ : T_api_Pod), (⟨#[]⟩ : ByteArray)⟩ : T_api_Bound), (⟨(⟨(⟨#[113]⟩ : ByteArray), (⟨(600 : Int), (0 : Int), (0 : Int), (1 : Int), (0 : Int)⟩ : T_api_Res), ([] : List T_api_Label), ([] : List T_api_Label), ([] : List T_api_Term), ([] : List T_api_Toleration), ([] : List Int), ([] : List T_api_Label), false, ([] : List T_api_Label), (0 : Int), (5 : Int), (⟨#[]⟩ : ByteArray), false, false, false⟩ : T_api_Pod), (⟨#[]⟩ : ByteArray)⟩ : T_api_Bound), (⟨(⟨(⟨#[114]⟩ : ByteArray), (⟨(600 : Int), (0 : Int), (0 : Int), (1 : Int), (0 : Int)⟩ : T_api_Res), ([] : List T_api_Label), ([] : List T_api_Label), ([] : List T_api_Term), ([] : List T_api_Toleration), ([] : List Int), ([] : List T_api_Label), false, ([] : List T_api_Label), (0 : Int), (0 : Int), (⟨#[]⟩ : ByteArray), false, false, false⟩ : T_api_Pod), (⟨#[]⟩ : ByteArray)⟩ : T_api_Bound)] r h3) fun _ _ h77 => ?_)
 obtain ⟨ob, cap, ob2, cap2, rfl, rfl⟩ := h77
 refine VR.p R R (VP.move R) <| VR.p R R (VP.extract R R) <| VR.p R R (VP.extract R R) <| VR.p R R (VP.assign R) <| VR.p R R (VP.assign R) <| VR.nil <| VW.seq <| VW.shift (Shift.freezeE 1 [(25, .list 53 (List.map T_api_Move.vv r.2)), (4, .list 53 (List.map T_api_Move.vv r.2))] R ⟨⟨_, R, .here _ R⟩, ⟨_, R, .here _ R⟩, trivial⟩ (FzH.refl _)) <| VW.shift (Shift.freezeE 0 [(24, .list 50 (List.map T_api_Bound.vv r.1)), (3, .list 50 (List.map T_api_Bound.vv r.1))] R ⟨⟨_, R, .here _ R⟩, ⟨_, R, .here _ R⟩, trivial⟩ (FzH.refl _)) <| VW.region <| VR.p R R (VP.move R) ?_
 obtain ⟨r7, h47, hm⟩ := bnd hm
 refine VR.cons R R (VO.callK 0 R fn28 R (sched_Order_ok [(⟨(⟨(⟨#[112]⟩ : ByteArray), (⟨(600 : Int), (0 : Int), (0 : Int), (1 : Int), (0 : Int)⟩ : T_api_Res), ([] : List T_api_Label), ([] : List T_api_Label), ([] : List T_api_Term), ([] : List T_api_Toleration), ([] : List Int), ([] : List T_api_Label), false, ([] : List T_api_Label), (0 : Int), (0 : Int), (⟨#[]⟩ : ByteArray), false, false, false⟩ : T_api_Pod), (⟨#[]⟩ : ByteArray)⟩ : T_api_Bound), (⟨(⟨(⟨#[113]⟩ : ByteArray), (⟨(600 : Int), (0 : Int), (0 : Int), (1 : Int), (0 : Int)⟩ : T_api_Res), ([] : List T_api_Label), ([] : List T_api_Label), ([] : List T_api_Term), ([] : List T_api_Toleration), ([] : List Int), ([] : List T_api_Label), false, ([] : List T_api_Label), (0 : Int), (5 : Int), (⟨#[]⟩ : ByteArray), false, false, false⟩ : T_api_Pod), (⟨#[]⟩ : ByteArray)⟩ : T_api_Bound), (⟨(⟨(⟨#[114]⟩ : ByteArray), (⟨(600 : Int), (0 : Int), (0 : Int), (1 : Int), (0 : Int)⟩ : T_api_Res), ([] : List T_api_Label), ([] : List T_api_Label), ([] : List T_api_Term), ([] : List T_api_Toleration), ([] : List Int), ([] : List T_api_Label), false, ([] : List T_api_Label), (0 : Int), (0 : Int), (⟨#[]⟩ : ByteArray), false, false, false⟩ : T_api_Pod), (⟨#[]⟩ : ByteArray)⟩ : T_api_Bound)] r7 h47) fun _ _ h76 => ?_)
 obtain ⟨rfl, rfl⟩ := h76
 refine VR.cons R R (VO.buildSlice ap41 R R R R R fun b13 => ?_)
 refine VR.shift (Shift.freezeE 0 [(28, .list 3 (List.map (VV.int .i64) [(1 : Int), (0 : Int), (2 : Int)]))] R ⟨⟨_, R, .here _ R⟩, trivial⟩ (FzH.refl _)) ?_
 obtain ⟨r8, h49, hm⟩ := bnd hm
 refine VR.cons R R (VO.callK 0 R fn17 R (ref02_Ints_ok r7 [(1 : Int), (0 : Int), (2 : Int)] r8 h49) fun _ _ h75 => ?_)
 obtain ⟨rfl, rfl⟩ := h75
 refine VR.p R R (VP.move R) ?_
 refine VR.sc 4 34 (.bool (r8 && ((r.1.length : Int) == (3 : Int)))) (fun K' J => ?_) ?_
 ·rcases Bool.eq_false_or_eq_true r8 with h50 | h50
  ·refine VR.pG R R R R h50 (VP.move R) <| VR.pG R R R R h50 (VP.lenT T_api_Bound.vv R Tryz.underlying23) <| VR.pG R R R R h50 (VP.arith R R R) <| VR.p R R (VP.pickB true R h50 R) ?_
   exact J [_, _, _] _ R (andT h50)
  ·refine VR.skipG R R R R h50 <| VR.skipG R R R R h50 <| VR.skipG R R R R h50 <| VR.p R R (VP.pickB false R h50 R) ?_
   exact J [_, _, _] _ R (andF h50)
 ·refine VR.p R R (VP.move R) ?_
  obtain ⟨c8, h53, hm⟩ := bnd hm
  refine VR.sc 6 41 (.bool c8) (fun K' J => ?_) ?_
  ·have hm := h53
   rcases ite_or hm with ⟨h51, hm⟩ | ⟨h51, hm⟩
   ·refine VR.pG R R R R h51 (VP.move R) ?_
    obtain ⟨x8, h52, hm⟩ := bnd hm
    refine VR.pG R R R R h51 (VP.glE T_api_Bound.vv R R el23 h52) <| VR.pG R R R R h51 (VP.fieldE R fa50_1) <| VR.pG R R R R h51 (VP.loadE R ld9 R) <| VR.pG R R R R h51 (VP.strop R R R) <| VR.p R R (VP.pickB true R h51 R) ?_
    exact J [_, _, _, _, _] _ R (congrArg VV.bool (Option.some.inj hm))
   ·have h51 := bf h51
    refine VR.skipG R R R R h51 <| VR.skipG R R R R h51 <| VR.skipG R R R R h51 <| VR.skipG R R R R h51 <| VR.skipG R R R R h51 <| VR.p R R (VP.pickB false R h51 R) ?_
    exact J [_, _, _, _, _] _ R (congrArg VV.bool (Option.some.inj hm))
  ·refine VR.p R R (VP.move R) ?_
   obtain ⟨c9, h56, hm⟩ := bnd hm
   refine VR.sc 6 48 (.bool c9) (fun K' J => ?_) ?_
   ·have hm := h56
    rcases ite_or hm with ⟨h54, hm⟩ | ⟨h54, hm⟩
    ·refine VR.pG R R R R h54 (VP.move R) ?_
     obtain ⟨x9, h55, hm⟩ := bnd hm
     refine VR.pG R R R R h54 (VP.glE T_api_Bound.vv R R el23 h55) <| VR.pG R R R R h54 (VP.fieldE R fa50_1) <| VR.pG R R R R h54 (VP.loadE R ld9 R) <| VR.pG R R R R h54 (VP.strop R R R) <| VR.p R R (VP.pickB true R h54 R) ?_
     exact J [_, _, _, _, _] _ R (congrArg VV.bool (Option.some.inj hm))
    ·have h54 := bf h54
     refine VR.skipG R R R R h54 <| VR.skipG R R R R h54 <| VR.skipG R R R R h54 <| VR.skipG R R R R h54 <| VR.skipG R R R R h54 <| VR.p R R (VP.pickB false R h54 R) ?_
     exact J [_, _, _, _, _] _ R (congrArg VV.bool (Option.some.inj hm))
   ·refine VR.p R R (VP.move R) ?_
    obtain ⟨c10, h59, hm⟩ := bnd hm
    refine VR.sc 6 55 (.bool c10) (fun K' J => ?_) ?_
    ·have hm := h59
     rcases ite_or hm with ⟨h57, hm⟩ | ⟨h57, hm⟩
     ·refine VR.pG R R R R h57 (VP.move R) ?_
      obtain ⟨x10, h58, hm⟩ := bnd hm
      refine VR.pG R R R R h57 (VP.glE T_api_Bound.vv R R el23 h58) <| VR.pG R R R R h57 (VP.fieldE R fa50_1) <| VR.pG R R R R h57 (VP.loadE R ld9 R) <| VR.pG R R R R h57 (VP.strop R R R) <| VR.p R R (VP.pickB true R h57 R) ?_
      exact J [_, _, _, _, _] _ R (congrArg VV.bool (Option.some.inj hm))
     ·have h57 := bf h57
      refine VR.skipG R R R R h57 <| VR.skipG R R R R h57 <| VR.skipG R R R R h57 <| VR.skipG R R R R h57 <| VR.skipG R R R R h57 <| VR.p R R (VP.pickB false R h57 R) ?_
      exact J [_, _, _, _, _] _ R (congrArg VV.bool (Option.some.inj hm))
    ·refine VR.p R R (VP.move R) ?_
     obtain ⟨c11, h64, hm⟩ := bnd hm
     refine VR.sc 6 62 (.bool c11) (fun K' J => ?_) ?_
     ·have hm := h64
      rcases ite_or hm with ⟨h60, hm⟩ | ⟨h60, hm⟩
      ·refine VR.pG R R R R h60 (VP.move R) <| VR.pG R R R R h60 (VP.buildP pl53 R R) <| VR.pG R R R R h60 (VP.buildP pl53 R R) ?_
       refine VR.consG R R R R h60 (VO.buildSlice ap35 R R R R R fun b14 => ?_)
       refine VR.shift (Shift.freezeE 0 [(60, .list 53 (List.map T_api_Move.vv [(⟨(⟨#[113]⟩ : ByteArray), (⟨#[109]⟩ : ByteArray)⟩ : T_api_Move), (⟨(⟨#[112]⟩ : ByteArray), (⟨#[110]⟩ : ByteArray)⟩ : T_api_Move)]))] R ⟨⟨_, R, .here _ R⟩, trivial⟩ (FzH.refl _)) ?_
       obtain ⟨r9, h62, hm⟩ := bnd hm
       refine VR.consG R R R R h60 (VO.callK 0 R fn16 R (ref14_Moves_ok r.2 [(⟨(⟨#[113]⟩ : ByteArray), (⟨#[109]⟩ : ByteArray)⟩ : T_api_Move), (⟨(⟨#[112]⟩ : ByteArray), (⟨#[110]⟩ : ByteArray)⟩ : T_api_Move)] r9 h62) fun _ _ h63 => ?_)
       obtain ⟨rfl, rfl⟩ := h63
       refine VR.p R R (VP.pickB true R h60 R) ?_
       exact J [_, _, _, _, _, _] _ R (congrArg VV.bool (Option.some.inj hm))
      ·have h60 := bf h60
       refine VR.skipG R R R R h60 <| VR.skipG R R R R h60 <| VR.skipG R R R R h60 <| VR.skipG R R R R h60 <| VR.skipG R R R R h60 <| VR.p R R (VP.pickB false R h60 R) ?_
       exact J [_, _, _, _, _] _ R (congrArg VV.bool (Option.some.inj hm))
     ·refine VR.p R R (VP.move R) ?_
      obtain ⟨c12, h69, hm⟩ := bnd hm
      refine VR.sc 9 72 (.bool c12) (fun K' J => ?_) ?_
      ·have hm := h69
       rcases ite_or hm with ⟨h65, hm⟩ | ⟨h65, hm⟩
       ·refine VR.pG R R R R h65 (VP.move R) <| VR.pG R R R R h65 (VP.move R) <| VR.pG R R R R h65 (VP.move R) ?_
        obtain ⟨x11, h66, hm⟩ := bnd hm
        refine VR.pG R R R R h65 (VP.glE T_api_Bound.vv R R el23 h66) <| VR.pG R R R R h65 (VP.fieldE R fa50_0) <| VR.pG R R R R h65 (VP.loadE R ld48 R) ?_
        obtain ⟨r10, h67, hm⟩ := bnd hm
        refine VR.consG R R R R h65 (VO.callK 0 R fn33 R (sched_Best_ok [(⟨(⟨#[109]⟩ : ByteArray), (⟨#[]⟩ : ByteArray), (⟨(1000 : Int), (0 : Int), (0 : Int), (9 : Int), (0 : Int)⟩ : T_api_Res), ([] : List T_api_Label), ([] : List T_api_Taint), true⟩ : T_api_Machine), (⟨(⟨#[110]⟩ : ByteArray), (⟨#[]⟩ : ByteArray), (⟨(1000 : Int), (0 : Int), (0 : Int), (9 : Int), (0 : Int)⟩ : T_api_Res), ([] : List T_api_Label), ([] : List T_api_Taint), true⟩ : T_api_Machine)] r.1 x11.Pod r10 h67) fun _ _ h68 => ?_)
        obtain ⟨rfl, rfl⟩ := h68
        refine VR.pG R R R R h65 (VP.strop R R R) <| VR.p R R (VP.pickB true R h65 R) ?_
        exact J [_, _, _, _, _, _, _, _] _ R (congrArg VV.bool (Option.some.inj hm))
       ·have h65 := bf h65
        refine VR.skipG R R R R h65 <| VR.skipG R R R R h65 <| VR.skipG R R R R h65 <| VR.skipG R R R R h65 <| VR.skipG R R R R h65 <| VR.skipG R R R R h65 <| VR.skipG R R R R h65 <| VR.skipG R R R R h65 <| VR.p R R (VP.pickB false R h65 R) ?_
        exact J [_, _, _, _, _, _, _, _] _ R (congrArg VV.bool (Option.some.inj hm))
      ·refine VR.p R R (VP.move R) ?_
       obtain ⟨c13, h74, hm⟩ := bnd hm
       refine VR.sc 8 81 (.bool c13) (fun K' J => ?_) ?_
       ·have hm := h74
        rcases ite_or hm with ⟨h70, hm⟩ | ⟨h70, hm⟩
        ·refine VR.pG R R R R h70 (VP.move R) <| VR.pG R R R R h70 (VP.move R) ?_
         obtain ⟨x12, h71, hm⟩ := bnd hm
         refine VR.pG R R R R h70 (VP.glE T_api_Bound.vv R R el23 h71) <| VR.pG R R R R h70 (VP.fieldE R fa50_0) <| VR.pG R R R R h70 (VP.loadE R ld48 R) ?_
         obtain ⟨r11, h72, hm⟩ := bnd hm
         refine VR.consG R R R R h70 (VO.callN 0 [.same, .nil 50, .same] R fn33 R (sched_Best_ok [(⟨(⟨#[109]⟩ : ByteArray), (⟨#[]⟩ : ByteArray), (⟨(1000 : Int), (0 : Int), (0 : Int), (9 : Int), (0 : Int)⟩ : T_api_Res), ([] : List T_api_Label), ([] : List T_api_Taint), true⟩ : T_api_Machine), (⟨(⟨#[110]⟩ : ByteArray), (⟨#[]⟩ : ByteArray), (⟨(1000 : Int), (0 : Int), (0 : Int), (9 : Int), (0 : Int)⟩ : T_api_Res), ([] : List T_api_Label), ([] : List T_api_Taint), true⟩ : T_api_Machine)] ([] : List T_api_Bound) x12.Pod r11 h72) fun _ _ h73 => ?_)
         obtain ⟨rfl, rfl⟩ := h73
         refine VR.pG R R R R h70 (VP.strop R R R) <| VR.p R R (VP.pickB true R h70 R) ?_
         exact J [_, _, _, _, _, _, _] _ R (congrArg VV.bool (Option.some.inj hm))
        ·have h70 := bf h70
         refine VR.skipG R R R R h70 <| VR.skipG R R R R h70 <| VR.skipG R R R R h70 <| VR.skipG R R R R h70 <| VR.skipG R R R R h70 <| VR.skipG R R R R h70 <| VR.skipG R R R R h70 <| VR.p R R (VP.pickB false R h70 R) ?_
         exact J [_, _, _, _, _, _, _] _ R (congrArg VV.bool (Option.some.inj hm))
       ·refine VR.p R R (VP.assign R) <| VR.nil ?_
        obtain rfl := Option.some.inj hm
        exact VW.ret ⟨.inl R, _, .cons (.tmp _ _ R) .nil, [], _, R, R, R⟩

/-! trireme/triremeref05.Get -/
def ref05_Get.l1 (l : List T_api_Label) (key : ByteArray) : Nat → Int → Option (Out (ByteArray × Bool) Unit)
 | 0, _ => none
 | n + 1, i2 =>
  if (decide (i2 < (l.length : Int))) = true then
   (V.gl l i2).bind fun x =>
   if (V.seq x.Key key) = true then
    (V.gl l i2).bind fun x2 =>
    some (Out.ret (x2.Val, true))
   else
    ref05_Get.l1 l key n (IntKind.i64.wrap (i2 + (1 : Int)))
  else
   some (Out.go ())
def ref05_Get (l : List T_api_Label) (key : ByteArray) : Option (ByteArray × Bool) :=
 (ref05_Get.l1 l key FU (0 : Int)).bind fun o =>
 o.on fun j =>
 some ((⟨#[]⟩ : ByteArray), false)
theorem ref05_Get_ok (l : List T_api_Label) (key : ByteArray) (r : ByteArray × Bool) (hm : ref05_Get l key = some r) :
  VC Tryz.prog 163 [.list 124 (List.map T_api_Label.vv l), .str key] [] (fun zx zH => zx = .tup [.str r.1, .bool r.2] ∧ zH = []) := by
 unfold ref05_Get at hm
 refine VC.run (c := _) (rs := [.tmp 4, .tmp 5]) Tryz.func163 R R R <| VW.seq <| VW.region <| VR.p R R (VP.assign R) <| VR.p R R (VP.assign R) <| VR.nil <| VW.seq <| VW.seq <| VW.region <| VR.p R R (VP.assign R) <| VR.nil ?_
 obtain ⟨o, h1, h2⟩ := bnd hm
 refine VW.joinE (fun (q : Unit) => o = Out.go q) (fun (j : Unit) (gg : Unit) => []) (fun (j : Unit) (gg : Unit) => []) ?_ ?_
 ·have hm := h1
  refine VW.block (VW.loop FU ?_)
  refine VL.fuelS (R := _) (fun zn (zs : Int) => ref05_Get.l1 l key zn zs) (fun (zs : Int) (zg : Unit) => [(0, .list 124 (List.map T_api_Label.vv l)), (1, .str key), (6, .int .i64 zs)]) (fun (zs : Int) (zg : Unit) => []) (0 : Int) () (fun zs => R) (Shift.pick [] R ⟨R, R, R, trivial⟩) h1 ?_
  rintro n i2 _ hm
  rw [ref05_Get.l1] at hm
  refine VW.seq <| VW.seq <| VW.region <| VR.p R R (VP.move R) <| VR.p R R (VP.move R) <| VR.p R R (VP.lenT T_api_Label.vv R Tryz.underlying27) <| VR.p R R (VP.arith R R R) <| VR.nil ?_
  rcases ite_or hm with ⟨h3, hm⟩ | ⟨h3, hm⟩
  ·refine VW.condT R h3 <| VW.skip <| VW.seq <| VW.block <| VW.seq <| VW.region <| VR.p R R (VP.move R) <| VR.p R R (VP.move R) ?_
   obtain ⟨x, h4, hm⟩ := bnd hm
   refine VR.p R R (VP.glE T_api_Label.vv R R el27 h4) <| VR.p R R (VP.fieldE R fa124_0) <| VR.p R R (VP.loadE R ld9 R) <| VR.p R R (VP.move R) <| VR.p R R (VP.strop R R R) <| VR.nil ?_
   rcases ite_or hm with ⟨h5, hm⟩ | ⟨h5, hm⟩
   ·refine VW.condT R h5 <| VW.seq <| VW.region <| VR.p R R (VP.move R) <| VR.p R R (VP.move R) ?_
    obtain ⟨x2, h6, hm⟩ := bnd hm
    refine VR.p R R (VP.glE T_api_Label.vv R R el27 h6) <| VR.p R R (VP.fieldE R fa124_1) <| VR.p R R (VP.loadE R ld9 R) <| VR.p R R (VP.assign R) <| VR.p R R (VP.assign R) <| VR.nil ?_
    obtain rfl := Option.some.inj hm
    have hm := Out.ret_on h2
    obtain rfl := Option.some.inj hm
    exact VW.ret ⟨.inl R, _, .cons (.tmp _ _ R) (.cons (.tmp _ _ R) .nil), [], _, R, R, R⟩
   ·have h5 := bf h5
    refine VW.condF R h5 <| VW.skip <| VW.region <| VR.p R R (VP.move R) <| VR.p R R (VP.arith R R R) <| VR.p R R (VP.assign R) <| VR.nil ?_
    exact ⟨(IntKind.i64.wrap (i2 + (1 : Int))), (), hm, (Shift.pick [] R ⟨R, R, R, trivial⟩)⟩
  ·have h3 := bf h3
   refine VW.condF R h3 <| VW.exit ?_
   exact ⟨(), (), (Option.some.inj hm).symm, (Shift.pick [] R trivial)⟩
 ·rintro j _ rfl
  have hm := Out.go_on h2
  refine VW.seq <| VW.region <| VR.p R R (VP.assign R) <| VR.p R R (VP.assign R) <| VR.nil ?_
  obtain rfl := Option.some.inj hm
  exact VW.ret ⟨.inl R, _, .cons (.tmp _ _ R) (.cons (.tmp _ _ R) .nil), [], _, R, R, R⟩

/-! trireme/triremeref05.Has -/
def ref05_Has.l1 (l : List T_api_Label) (some_ : List T_api_Label) : Nat → Int → Option (Out Bool Unit)
 | 0, _ => none
 | n + 1, i2 =>
  if (decide (i2 < (some_.length : Int))) = true then
   (V.gl some_ i2).bind fun x =>
   (ref05_Get l x.Key).bind fun r =>
   (if (!r.2) = true then some true else (V.gl some_ i2).bind fun x2 =>
   some (!(V.seq r.1 x2.Val))).bind fun c =>
   if c = true then
    some (Out.ret false)
   else
    ref05_Has.l1 l some_ n (IntKind.i64.wrap (i2 + (1 : Int)))
  else
   some (Out.go ())
def ref05_Has (l : List T_api_Label) (some_ : List T_api_Label) : Option Bool :=
 (ref05_Has.l1 l some_ FU (0 : Int)).bind fun o =>
 o.on fun j =>
 some true
theorem ref05_Has_ok (l : List T_api_Label) (some_ : List T_api_Label) (r : Bool) (hm : ref05_Has l some_ = some r) :
  VC Tryz.prog 143 [.list 124 (List.map T_api_Label.vv l), .list 124 (List.map T_api_Label.vv some_)] [] (fun zx zH => zx = .bool r ∧ zH = []) := by
 unfold ref05_Has at hm
 refine VC.run (c := _) (rs := [.tmp 4]) Tryz.func143 R R R <| VW.seq <| VW.region <| VR.p R R (VP.assign R) <| VR.nil <| VW.seq <| VW.seq <| VW.region <| VR.p R R (VP.assign R) <| VR.nil ?_
 obtain ⟨o, h1, h2⟩ := bnd hm
 refine VW.joinE (fun (q : Unit) => o = Out.go q) (fun (j : Unit) (gg : Unit) => []) (fun (j : Unit) (gg : Unit) => []) ?_ ?_
 ·have hm := h1
  refine VW.block (VW.loop FU ?_)
  refine VL.fuelS (R := _) (fun zn (zs : Int) => ref05_Has.l1 l some_ zn zs) (fun (zs : Int) (zg : Unit) => [(0, .list 124 (List.map T_api_Label.vv l)), (1, .list 124 (List.map T_api_Label.vv some_)), (5, .int .i64 zs)]) (fun (zs : Int) (zg : Unit) => []) (0 : Int) () (fun zs => R) (Shift.pick [] R ⟨R, R, R, trivial⟩) h1 ?_
  rintro n i2 _ hm
  rw [ref05_Has.l1] at hm
  refine VW.seq <| VW.seq <| VW.region <| VR.p R R (VP.move R) <| VR.p R R (VP.move R) <| VR.p R R (VP.lenT T_api_Label.vv R Tryz.underlying27) <| VR.p R R (VP.arith R R R) <| VR.nil ?_
  rcases ite_or hm with ⟨h3, hm⟩ | ⟨h3, hm⟩
  ·refine VW.condT R h3 <| VW.skip <| VW.seq <| VW.block <| VW.seq <| VW.region <| VR.p R R (VP.move R) <| VR.p R R (VP.move R) <| VR.p R R (VP.move R) ?_
   obtain ⟨x, h4, hm⟩ := bnd hm
   refine VR.p R R (VP.glE T_api_Label.vv R R el27 h4) <| VR.p R R (VP.fieldE R fa124_0) <| VR.p R R (VP.loadE R ld9 R) ?_
   obtain ⟨r, h5, hm⟩ := bnd hm
   refine VR.cons R R (VO.callK 0 R fn163 R (ref05_Get_ok l x.Key r h5) fun _ _ h10 => ?_)
   obtain ⟨rfl, rfl⟩ := h10
   refine VR.p R R (VP.move R) <| VR.p R R (VP.extract R R) <| VR.p R R (VP.extract R R) <| VR.p R R (VP.assign R) <| VR.p R R (VP.assign R) <| VR.nil <| VW.seq <| VW.region <| VR.p R R (VP.move R) <| VR.p R R (VP.not R) <| VR.p R R (VP.move R) ?_
   obtain ⟨c, h8, hm⟩ := bnd hm
   refine VR.sc 8 34 (.bool c) (fun K' J => ?_) ?_
   ·have hm := h8
    rcases ite_or hm with ⟨h6, hm⟩ | ⟨h6, hm⟩
    ·refine VR.skipG R R R R h6 <| VR.skipG R R R R h6 <| VR.skipG R R R R h6 <| VR.skipG R R R R h6 <| VR.skipG R R R R h6 <| VR.skipG R R R R h6 <| VR.skipG R R R R h6 <| VR.p R R (VP.pickB true R h6 R) ?_
     exact J [_, _, _, _, _, _, _] _ R (congrArg VV.bool (Option.some.inj hm))
    ·have h6 := bf h6
     refine VR.pG R R R R h6 (VP.move R) <| VR.pG R R R R h6 (VP.move R) <| VR.pG R R R R h6 (VP.move R) ?_
     obtain ⟨x2, h7, hm⟩ := bnd hm
     refine VR.pG R R R R h6 (VP.glE T_api_Label.vv R R el27 h7) <| VR.pG R R R R h6 (VP.fieldE R fa124_1) <| VR.pG R R R R h6 (VP.loadE R ld9 R) <| VR.pG R R R R h6 (VP.strop R R R) <| VR.p R R (VP.pickB false R h6 R) ?_
     exact J [_, _, _, _, _, _, _] _ R (congrArg VV.bool (Option.some.inj hm))
   ·refine VR.nil ?_
    rcases ite_or hm with ⟨h9, hm⟩ | ⟨h9, hm⟩
    ·refine VW.condT R h9 <| VW.seq <| VW.region <| VR.p R R (VP.assign R) <| VR.nil ?_
     obtain rfl := Option.some.inj hm
     have hm := Out.ret_on h2
     obtain rfl := Option.some.inj hm
     exact VW.ret ⟨.inl R, _, .cons (.tmp _ _ R) .nil, [], _, R, R, R⟩
    ·have h9 := bf h9
     refine VW.condF R h9 <| VW.skip <| VW.region <| VR.p R R (VP.move R) <| VR.p R R (VP.arith R R R) <| VR.p R R (VP.assign R) <| VR.nil ?_
     exact ⟨(IntKind.i64.wrap (i2 + (1 : Int))), (), hm, (Shift.pick [] R ⟨R, R, R, trivial⟩)⟩
  ·have h3 := bf h3
   refine VW.condF R h3 <| VW.exit ?_
   exact ⟨(), (), (Option.some.inj hm).symm, (Shift.pick [] R trivial)⟩
 ·rintro j _ rfl
  have hm := Out.go_on h2
  refine VW.seq <| VW.region <| VR.p R R (VP.assign R) <| VR.nil ?_
  obtain rfl := Option.some.inj hm
  exact VW.ret ⟨.inl R, _, .cons (.tmp _ _ R) .nil, [], _, R, R, R⟩

/-! trireme/triremeref05.Meets -/
def ref05_Meets.l1 (t : T_api_Term) (r : ByteArray × Bool) : Nat → Bool → Int → Option Bool
 | 0, _, _ => none
 | n + 1, in_2, i2 =>
  if (decide (i2 < (t.Vals.length : Int))) = true then
   (if in_2 = true then some true else (if r.2 = true then (V.gl t.Vals i2).bind fun x =>
   some (V.seq x r.1) else some false).bind fun c =>
   some c).bind fun c2 =>
   ref05_Meets.l1 t r n c2 (IntKind.i64.wrap (i2 + (1 : Int)))
  else
   some in_2
def ref05_Meets (l : List T_api_Label) (t : T_api_Term) : Option Bool :=
 (ref05_Get l t.Key).bind fun r =>
 (ref05_Meets.l1 t r FU false (0 : Int)).bind fun in_32 =>
 if (t.Op == (1 : Int)) = true then
  some in_32
 else
  if (t.Op == (2 : Int)) = true then
   some (!in_32)
  else
   if (t.Op == (3 : Int)) = true then
    some r.2
   else
    if (t.Op == (4 : Int)) = true then
     some (!r.2)
    else
     (ref03_Number r.1).bind fun r2 =>
     (V.gl t.Vals (0 : Int)).bind fun x2 =>
     (ref03_Number x2).bind fun r3 =>
     if ((!r.2) || (r2.2 != (0 : Int))) = true then
      some false
     else
      if (t.Op == (5 : Int)) = true then
       some (decide (r2.1 > r3.1))
      else
       some (decide (r2.1 < r3.1))
theorem ref05_Meets_ok (l : List T_api_Label) (t : T_api_Term) (r : Bool) (hm : ref05_Meets l t = some r) :
  VC Tryz.prog 164 [.list 124 (List.map T_api_Label.vv l), T_api_Term.vv t] [] (fun zx zH => zx = .bool r ∧ zH = []) := by
 unfold ref05_Meets at hm
 refine VC.run (c := _) (rs := [.tmp 4]) Tryz.func164 R R R <| VW.seq <| VW.region ?_
 refine VR.cons R R (VO.box R R fun b => ?_)
 refine VR.p R R (VP.assign R) <| VR.nil <| VW.seq <| VW.region <| VR.p R R (VP.move R) <| VR.p R R (VP.fieldP R fa103_0) <| VR.p R R (VP.loadP (i := 0) R R ld9 R) ?_
 obtain ⟨r, h2, hm⟩ := bnd hm
 refine VR.cons R R (VO.callK 0 R fn163 R (ref05_Get_ok l t.Key r h2) fun _ _ h23 => ?_)
 obtain ⟨rfl, rfl⟩ := h23
 refine VR.p R R (VP.move R) <| VR.p R R (VP.extract R R) <| VR.p R R (VP.extract R R) <| VR.p R R (VP.assign R) <| VR.p R R (VP.assign R) <| VR.nil <| VW.seq <| VW.region <| VR.p R R (VP.assign R) <| VR.nil <| VW.seq <| VW.seq <| VW.region <| VR.p R R (VP.assign R) <| VR.nil ?_
 obtain ⟨o, h3, h4⟩ := bnd hm
 refine VW.joinE (fun (q : Bool) => q = o) (fun (in_32 : Bool) (gg : Unit) => [(3, .ptr b 0), (5, .str r.1), (6, .bool r.2), (7, .bool in_32)]) (fun (in_32 : Bool) (gg : Unit) => [.box b 103 (T_api_Term.cells t)]) ?_ ?_
 ·have hm := h3
  refine VW.block (VW.loop FU ?_)
  refine VL.fuelS (R := _) (fun zn (zs : Bool × Int) => ref05_Meets.l1 t r zn zs.1 zs.2) (fun (zs : Bool × Int) (zg : Unit) => [(3, .ptr b 0), (5, .str r.1), (6, .bool r.2), (7, .bool zs.1), (8, .int .i64 zs.2)]) (fun (zs : Bool × Int) (zg : Unit) => [.box b 103 (T_api_Term.cells t)]) (false, (0 : Int)) () (fun zs => R) (Shift.pick [0] R ⟨R, R, R, R, R, trivial⟩) h3 ?_
  rintro n ⟨in_2, i2⟩ _ hm
  rw [ref05_Meets.l1] at hm
  refine VW.seq <| VW.seq <| VW.region <| VR.p R R (VP.move R) <| VR.p R R (VP.fieldP R fa103_2) <| VR.p R R (VP.loadP (i := 0) R R ld51 R) <| VR.p R R (VP.lenT VV.str R Tryz.underlying51) <| VR.p R R (VP.arith R R R) <| VR.nil ?_
  rcases ite_or hm with ⟨h5, hm⟩ | ⟨h5, hm⟩
  ·refine VW.condT R h5 <| VW.skip <| VW.seq <| VW.block <| VW.region <| VR.p R R (VP.move R) <| VR.p R R (VP.move R) ?_
   obtain ⟨c2, h10, hm⟩ := bnd hm
   refine VR.sc 11 39 (.bool c2) (fun K' J => ?_) ?_
   ·have hm := h10
    rcases ite_or hm with ⟨h6, hm⟩ | ⟨h6, hm⟩
    ·refine VR.skipG R R R R h6 <| VR.skipG R R R R h6 <| VR.skipU R R R R <| VR.skipU R R R R <| VR.skipU R R R R <| VR.skipU R R R R <| VR.skipU R R R R <| VR.skipU R R R R <| VR.skipU R R R R <| VR.skipG R R R R h6 <| VR.p R R (VP.pickB true R h6 R) ?_
     exact J [_, _, _, _, _, _, _, _, _, _] _ R (congrArg VV.bool (Option.some.inj hm))
    ·have h6 := bf h6
     refine VR.pG R R R R h6 (VP.move R) <| VR.pG R R R R h6 (VP.move R) ?_
     obtain ⟨c, h9, hm⟩ := bnd hm
     refine VR.sc 8 38 (.bool c) (fun K' J => ?_) ?_
     ·have hm := h9
      rcases ite_or hm with ⟨h7, hm⟩ | ⟨h7, hm⟩
      ·refine VR.pG R R R R h7 (VP.fieldP R fa103_2) <| VR.pG R R R R h7 (VP.loadP (i := 0) R R ld51 R) <| VR.pG R R R R h7 (VP.move R) ?_
       obtain ⟨x, h8, hm⟩ := bnd hm
       refine VR.pG R R R R h7 (VP.glE VV.str R R el51 h8) <| VR.pG R R R R h7 (VP.loadE R ld9 R) <| VR.pG R R R R h7 (VP.move R) <| VR.pG R R R R h7 (VP.strop R R R) <| VR.pG R R R R h6 (VP.pickB true R h7 R) ?_
       exact J [_, _, _, _, _, _, _] _ R (congrArg VV.bool (Option.some.inj hm))
      ·have h7 := bf h7
       refine VR.skipG R R R R h7 <| VR.skipG R R R R h7 <| VR.skipG R R R R h7 <| VR.skipG R R R R h7 <| VR.skipG R R R R h7 <| VR.skipG R R R R h7 <| VR.skipG R R R R h7 <| VR.pG R R R R h6 (VP.pickB false R h7 R) ?_
       exact J [_, _, _, _, _, _, _] _ R (congrArg VV.bool (Option.some.inj hm))
     ·refine VR.p R R (VP.pickB false R h6 R) ?_
      exact J [_, _, _] _ R (congrArg VV.bool (Option.some.inj hm))
   ·refine VR.p R R (VP.assign R) <| VR.nil <| VW.region <| VR.p R R (VP.move R) <| VR.p R R (VP.arith R R R) <| VR.p R R (VP.assign R) <| VR.nil ?_
    exact ⟨(c2, (IntKind.i64.wrap (i2 + (1 : Int)))), (), hm, (Shift.pick [0] R ⟨R, R, R, R, R, trivial⟩)⟩
  ·have h5 := bf h5
   refine VW.condF R h5 <| VW.exit ?_
   exact ⟨in_2, (), Option.some.inj hm, (Shift.pick [0] R ⟨R, R, R, R, trivial⟩)⟩
 ·rintro in_32 _ rfl
  have hm := h4
  refine VW.seq <| VW.seq <| VW.region <| VR.p R R (VP.fieldP R fa103_1) <| VR.p R R (VP.loadP (i := 0) R R ld3 R) <| VR.nil <| VW.block <| VW.seq <| VW.region <| VR.p R R (VP.arith R R R) <| VR.p R R (VP.assign R) <| VR.nil ?_
  rcases ite_or hm with ⟨h11, hm⟩ | ⟨h11, hm⟩
  ·refine VW.condT R h11 <| VW.seq <| VW.region <| VR.p R R (VP.move R) <| VR.p R R (VP.assign R) <| VR.nil ?_
   obtain rfl := Option.some.inj hm
   exact VW.ret ⟨.inl R, _, .cons (.tmp _ _ R) .nil, [], _, R, R, R⟩
  ·have h11 := bf h11
   refine VW.condF R h11 <| VW.seq <| VW.region <| VR.p R R (VP.arith R R R) <| VR.p R R (VP.assign R) <| VR.nil ?_
   rcases ite_or hm with ⟨h12, hm⟩ | ⟨h12, hm⟩
   ·refine VW.condT R h12 <| VW.seq <| VW.region <| VR.p R R (VP.move R) <| VR.p R R (VP.not R) <| VR.p R R (VP.assign R) <| VR.nil ?_
    obtain rfl := Option.some.inj hm
    exact VW.ret ⟨.inl R, _, .cons (.tmp _ _ R) .nil, [], _, R, R, R⟩
   ·have h12 := bf h12
    refine VW.condF R h12 <| VW.seq <| VW.region <| VR.p R R (VP.arith R R R) <| VR.p R R (VP.assign R) <| VR.nil ?_
    rcases ite_or hm with ⟨h13, hm⟩ | ⟨h13, hm⟩
    ·refine VW.condT R h13 <| VW.seq <| VW.region <| VR.p R R (VP.move R) <| VR.p R R (VP.assign R) <| VR.nil ?_
     obtain rfl := Option.some.inj hm
     exact VW.ret ⟨.inl R, _, .cons (.tmp _ _ R) .nil, [], _, R, R, R⟩
    ·have h13 := bf h13
     refine VW.condF R h13 <| VW.seq <| VW.region <| VR.p R R (VP.arith R R R) <| VR.p R R (VP.assign R) <| VR.nil ?_
     rcases ite_or hm with ⟨h14, hm⟩ | ⟨h14, hm⟩
     ·refine VW.condT R h14 <| VW.seq <| VW.region <| VR.p R R (VP.move R) <| VR.p R R (VP.not R) <| VR.p R R (VP.assign R) <| VR.nil ?_
      obtain rfl := Option.some.inj hm
      exact VW.ret ⟨.inl R, _, .cons (.tmp _ _ R) .nil, [], _, R, R, R⟩
     ·have h14 := bf h14
      refine VW.condF R h14 <| VW.skip <| VW.seq <| VW.region <| VR.p R R (VP.move R) ?_
      obtain ⟨r2, h15, hm⟩ := bnd hm
      refine VR.cons R R (VO.callK 0 R fn104 R (ref03_Number_ok r.1 r2 h15) fun _ _ h22 => ?_)
      obtain ⟨rfl, rfl⟩ := h22
      refine VR.p R R (VP.move R) <| VR.p R R (VP.extract R R) <| VR.p R R (VP.extract R R) <| VR.p R R (VP.assign R) <| VR.p R R (VP.assign R) <| VR.nil <| VW.seq <| VW.region <| VR.p R R (VP.fieldP R fa103_2) <| VR.p R R (VP.loadP (i := 0) R R ld51 R) ?_
      obtain ⟨x2, h16, hm⟩ := bnd hm
      refine VR.p R R (VP.glE VV.str R R el51 h16) <| VR.p R R (VP.loadE R ld9 R) ?_
      obtain ⟨r3, h17, hm⟩ := bnd hm
      refine VR.cons R R (VO.callK 0 R fn104 R (ref03_Number_ok x2 r3 h17) fun _ _ h21 => ?_)
      obtain ⟨rfl, rfl⟩ := h21
      refine VR.p R R (VP.move R) <| VR.p R R (VP.extract R R) <| VR.p R R (VP.extract R R) <| VR.p R R (VP.assign R) <| VR.p R R (VP.assign R) <| VR.nil <| VW.seq <| VW.seq <| VW.region <| VR.p R R (VP.move R) <| VR.p R R (VP.not R) <| VR.p R R (VP.move R) ?_
      refine VR.sc 3 74 (.bool ((!r.2) || (r2.2 != (0 : Int)))) (fun K' J => ?_) ?_
      ·rcases Bool.eq_false_or_eq_true (!r.2) with h18 | h18
       ·refine VR.skipG R R R R h18 <| VR.skipG R R R R h18 <| VR.p R R (VP.pickB true R h18 R) ?_
        exact J [_, _] _ R (orT h18)
       ·refine VR.pG R R R R h18 (VP.move R) <| VR.pG R R R R h18 (VP.arith R R R) <| VR.p R R (VP.pickB false R h18 R) ?_
        exact J [_, _] _ R (orF h18)
      ·refine VR.nil ?_
       rcases ite_or hm with ⟨h19, hm⟩ | ⟨h19, hm⟩
       ·refine VW.condT R h19 <| VW.seq <| VW.region <| VR.p R R (VP.assign R) <| VR.nil ?_
        obtain rfl := Option.some.inj hm
        exact VW.ret ⟨.inl R, _, .cons (.tmp _ _ R) .nil, [], _, R, R, R⟩
       ·have h19 := bf h19
        refine VW.condF R h19 <| VW.skip <| VW.seq <| VW.seq <| VW.region <| VR.p R R (VP.fieldP R fa103_1) <| VR.p R R (VP.loadP (i := 0) R R ld3 R) <| VR.p R R (VP.arith R R R) <| VR.nil ?_
        rcases ite_or hm with ⟨h20, hm⟩ | ⟨h20, hm⟩
        ·refine VW.condT R h20 <| VW.seq <| VW.region <| VR.p R R (VP.move R) <| VR.p R R (VP.move R) <| VR.p R R (VP.arith R R R) <| VR.p R R (VP.assign R) <| VR.nil ?_
         obtain rfl := Option.some.inj hm
         exact VW.ret ⟨.inl R, _, .cons (.tmp _ _ R) .nil, [], _, R, R, R⟩
        ·have h20 := bf h20
         refine VW.condF R h20 <| VW.skip <| VW.seq <| VW.region <| VR.p R R (VP.move R) <| VR.p R R (VP.move R) <| VR.p R R (VP.arith R R R) <| VR.p R R (VP.assign R) <| VR.nil ?_
         obtain rfl := Option.some.inj hm
         exact VW.ret ⟨.inl R, _, .cons (.tmp _ _ R) .nil, [], _, R, R, R⟩

/-! trireme/triremeref05.All -/
def ref05_All.l1 (l : List T_api_Label) (terms : List T_api_Term) : Nat → Int → Option (Out Bool Unit)
 | 0, _ => none
 | n + 1, i2 =>
  if (decide (i2 < (terms.length : Int))) = true then
   (V.gl terms i2).bind fun x =>
   (ref05_Meets l x).bind fun r =>
   if (!r) = true then
    some (Out.ret false)
   else
    ref05_All.l1 l terms n (IntKind.i64.wrap (i2 + (1 : Int)))
  else
   some (Out.go ())
def ref05_All (l : List T_api_Label) (terms : List T_api_Term) : Option Bool :=
 (ref05_All.l1 l terms FU (0 : Int)).bind fun o =>
 o.on fun j =>
 some true
theorem ref05_All_ok (l : List T_api_Label) (terms : List T_api_Term) (r : Bool) (hm : ref05_All l terms = some r) :
  VC Tryz.prog 144 [.list 124 (List.map T_api_Label.vv l), .list 103 (List.map T_api_Term.vv terms)] [] (fun zx zH => zx = .bool r ∧ zH = []) := by
 unfold ref05_All at hm
 refine VC.run (c := _) (rs := [.tmp 4]) Tryz.func144 R R R <| VW.seq <| VW.region <| VR.p R R (VP.assign R) <| VR.nil <| VW.seq <| VW.seq <| VW.region <| VR.p R R (VP.assign R) <| VR.nil ?_
 obtain ⟨o, h1, h2⟩ := bnd hm
 refine VW.joinE (fun (q : Unit) => o = Out.go q) (fun (j : Unit) (gg : Unit) => []) (fun (j : Unit) (gg : Unit) => []) ?_ ?_
 ·have hm := h1
  refine VW.block (VW.loop FU ?_)
  refine VL.fuelS (R := _) (fun zn (zs : Int) => ref05_All.l1 l terms zn zs) (fun (zs : Int) (zg : Unit) => [(0, .list 124 (List.map T_api_Label.vv l)), (1, .list 103 (List.map T_api_Term.vv terms)), (5, .int .i64 zs)]) (fun (zs : Int) (zg : Unit) => []) (0 : Int) () (fun zs => R) (Shift.pick [] R ⟨R, R, R, trivial⟩) h1 ?_
  rintro n i2 _ hm
  rw [ref05_All.l1] at hm
  refine VW.seq <| VW.seq <| VW.region <| VR.p R R (VP.move R) <| VR.p R R (VP.move R) <| VR.p R R (VP.lenT T_api_Term.vv R Tryz.underlying45) <| VR.p R R (VP.arith R R R) <| VR.nil ?_
  rcases ite_or hm with ⟨h3, hm⟩ | ⟨h3, hm⟩
  ·refine VW.condT R h3 <| VW.skip <| VW.seq <| VW.block <| VW.seq <| VW.region <| VR.p R R (VP.move R) <| VR.p R R (VP.move R) <| VR.p R R (VP.move R) ?_
   obtain ⟨x, h4, hm⟩ := bnd hm
   refine VR.p R R (VP.glE T_api_Term.vv R R el45 h4) <| VR.p R R (VP.loadE R ld103 R) ?_
   obtain ⟨r, h5, hm⟩ := bnd hm
   refine VR.cons R R (VO.callK 0 R fn164 R (ref05_Meets_ok l x r h5) fun _ _ h7 => ?_)
   obtain ⟨rfl, rfl⟩ := h7
   refine VR.p R R (VP.not R) <| VR.nil ?_
   rcases ite_or hm with ⟨h6, hm⟩ | ⟨h6, hm⟩
   ·refine VW.condT R h6 <| VW.seq <| VW.region <| VR.p R R (VP.assign R) <| VR.nil ?_
    obtain rfl := Option.some.inj hm
    have hm := Out.ret_on h2
    obtain rfl := Option.some.inj hm
    exact VW.ret ⟨.inl R, _, .cons (.tmp _ _ R) .nil, [], _, R, R, R⟩
   ·have h6 := bf h6
    refine VW.condF R h6 <| VW.skip <| VW.region <| VR.p R R (VP.move R) <| VR.p R R (VP.arith R R R) <| VR.p R R (VP.assign R) <| VR.nil ?_
    exact ⟨(IntKind.i64.wrap (i2 + (1 : Int))), (), hm, (Shift.pick [] R ⟨R, R, R, trivial⟩)⟩
  ·have h3 := bf h3
   refine VW.condF R h3 <| VW.exit ?_
   exact ⟨(), (), (Option.some.inj hm).symm, (Shift.pick [] R trivial)⟩
 ·rintro j _ rfl
  have hm := Out.go_on h2
  refine VW.seq <| VW.region <| VR.p R R (VP.assign R) <| VR.nil ?_
  obtain rfl := Option.some.inj hm
  exact VW.ret ⟨.inl R, _, .cons (.tmp _ _ R) .nil, [], _, R, R, R⟩

/-! trireme/triremeref06.Bears -/
def ref06_Bears (t : T_api_Toleration) (x : T_api_Taint) : Option Bool :=
 some ((((t.Effect == (0 : Int)) || (t.Effect == x.Effect)) && ((V.seq t.Key (⟨#[]⟩ : ByteArray)) || (V.seq t.Key x.Key))) && (t.Any || (V.seq t.Val x.Val)))
theorem ref06_Bears_ok (t : T_api_Toleration) (x : T_api_Taint) (r : Bool) (hm : ref06_Bears t x = some r) :
  VC Tryz.prog 184 [T_api_Toleration.vv t, T_api_Taint.vv x] [] (fun zx zH => zx = .bool r ∧ zH = []) := by
 unfold ref06_Bears at hm
 refine VC.run (c := _) (rs := [.tmp 4]) Tryz.func184 R R R <| VW.seq <| VW.region ?_
 refine VR.cons R R (VO.box R R fun b => ?_)
 refine VR.cons R R (VO.box R R fun b2 => ?_)
 refine VR.p R R (VP.assign R) <| VR.nil <| VW.seq <| VW.region <| VR.p R R (VP.fieldP R fa128_3) <| VR.p R R (VP.loadP (i := 1) R R ld3 R) <| VR.p R R (VP.arith R R R) <| VR.p R R (VP.move R) ?_
 refine VR.sc 6 14 (.bool ((t.Effect == (0 : Int)) || (t.Effect == x.Effect))) (fun K' J => ?_) ?_
 ·rcases Bool.eq_false_or_eq_true (t.Effect == (0 : Int)) with h3 | h3
  ·refine VR.skipG R R R R h3 <| VR.skipG R R R R h3 <| VR.skipG R R R R h3 <| VR.skipG R R R R h3 <| VR.skipG R R R R h3 <| VR.p R R (VP.pickB true R h3 R) ?_
   exact J [_, _, _, _, _] _ R (orT h3)
  ·refine VR.pG R R R R h3 (VP.fieldP R fa128_3) <| VR.pG R R R R h3 (VP.loadP (i := 1) R R ld3 R) <| VR.pG R R R R h3 (VP.fieldP R fa126_2) <| VR.pG R R R R h3 (VP.loadP (i := 0) R R ld3 R) <| VR.pG R R R R h3 (VP.arith R R R) <| VR.p R R (VP.pickB false R h3 R) ?_
   exact J [_, _, _, _, _] _ R (orF h3)
 ·refine VR.p R R (VP.move R) ?_
  refine VR.sc 11 26 (.bool (((t.Effect == (0 : Int)) || (t.Effect == x.Effect)) && ((V.seq t.Key (⟨#[]⟩ : ByteArray)) || (V.seq t.Key x.Key)))) (fun K' J => ?_) ?_
  ·rcases Bool.eq_false_or_eq_true ((t.Effect == (0 : Int)) || (t.Effect == x.Effect)) with h4 | h4
   ·refine VR.pG R R R R h4 (VP.fieldP R fa128_0) <| VR.pG R R R R h4 (VP.loadP (i := 1) R R ld9 R) <| VR.pG R R R R h4 (VP.strop R R R) <| VR.pG R R R R h4 (VP.move R) ?_
    refine VR.sc 6 25 (.bool ((V.seq t.Key (⟨#[]⟩ : ByteArray)) || (V.seq t.Key x.Key))) (fun K' J => ?_) ?_
    ·rcases Bool.eq_false_or_eq_true (V.seq t.Key (⟨#[]⟩ : ByteArray)) with h5 | h5
     ·refine VR.skipG R R R R h5 <| VR.skipG R R R R h5 <| VR.skipG R R R R h5 <| VR.skipG R R R R h5 <| VR.skipG R R R R h5 <| VR.pG R R R R h4 (VP.pickB true R h5 R) ?_
      exact J [_, _, _, _, _] _ R (orT h5)
     ·refine VR.pG R R R R h5 (VP.fieldP R fa128_0) <| VR.pG R R R R h5 (VP.loadP (i := 1) R R ld9 R) <| VR.pG R R R R h5 (VP.fieldP R fa126_0) <| VR.pG R R R R h5 (VP.loadP (i := 0) R R ld9 R) <| VR.pG R R R R h5 (VP.strop R R R) <| VR.pG R R R R h4 (VP.pickB false R h5 R) ?_
      exact J [_, _, _, _, _] _ R (orF h5)
    ·refine VR.p R R (VP.pickB true R h4 R) ?_
     exact J [_, _, _, _, _] _ R (andT h4)
   ·refine VR.skipG R R R R h4 <| VR.skipG R R R R h4 <| VR.skipG R R R R h4 <| VR.skipG R R R R h4 <| VR.skipU R R R R <| VR.skipU R R R R <| VR.skipU R R R R <| VR.skipU R R R R <| VR.skipU R R R R <| VR.skipG R R R R h4 <| VR.p R R (VP.pickB false R h4 R) ?_
    exact J [_, _, _, _, _, _, _, _, _, _] _ R (andF h4)
  ·refine VR.p R R (VP.move R) ?_
   refine VR.sc 10 37 (.bool ((((t.Effect == (0 : Int)) || (t.Effect == x.Effect)) && ((V.seq t.Key (⟨#[]⟩ : ByteArray)) || (V.seq t.Key x.Key))) && (t.Any || (V.seq t.Val x.Val)))) (fun K' J => ?_) ?_
   ·rcases Bool.eq_false_or_eq_true (((t.Effect == (0 : Int)) || (t.Effect == x.Effect)) && ((V.seq t.Key (⟨#[]⟩ : ByteArray)) || (V.seq t.Key x.Key))) with h6 | h6
    ·refine VR.pG R R R R h6 (VP.fieldP R fa128_2) <| VR.pG R R R R h6 (VP.loadP (i := 1) R R ld4 R) <| VR.pG R R R R h6 (VP.move R) ?_
     refine VR.sc 6 36 (.bool (t.Any || (V.seq t.Val x.Val))) (fun K' J => ?_) ?_
     ·rcases Bool.eq_false_or_eq_true t.Any with h7 | h7
      ·refine VR.skipG R R R R h7 <| VR.skipG R R R R h7 <| VR.skipG R R R R h7 <| VR.skipG R R R R h7 <| VR.skipG R R R R h7 <| VR.pG R R R R h6 (VP.pickB true R h7 R) ?_
       exact J [_, _, _, _, _] _ R (orT h7)
      ·refine VR.pG R R R R h7 (VP.fieldP R fa128_1) <| VR.pG R R R R h7 (VP.loadP (i := 1) R R ld9 R) <| VR.pG R R R R h7 (VP.fieldP R fa126_1) <| VR.pG R R R R h7 (VP.loadP (i := 0) R R ld9 R) <| VR.pG R R R R h7 (VP.strop R R R) <| VR.pG R R R R h6 (VP.pickB false R h7 R) ?_
       exact J [_, _, _, _, _] _ R (orF h7)
     ·refine VR.p R R (VP.pickB true R h6 R) ?_
      exact J [_, _, _, _] _ R (andT h6)
    ·refine VR.skipG R R R R h6 <| VR.skipG R R R R h6 <| VR.skipG R R R R h6 <| VR.skipU R R R R <| VR.skipU R R R R <| VR.skipU R R R R <| VR.skipU R R R R <| VR.skipU R R R R <| VR.skipG R R R R h6 <| VR.p R R (VP.pickB false R h6 R) ?_
     exact J [_, _, _, _, _, _, _, _, _] _ R (andF h6)
   ·refine VR.p R R (VP.assign R) <| VR.nil ?_
    obtain rfl := Option.some.inj hm
    exact VW.ret ⟨.inl R, _, .cons (.tmp _ _ R) .nil, [], _, R, R, R⟩

/-! trireme/triremeref06.Unborne -/
def ref06_Unborne.l2 (l : List T_api_Toleration) (taints : List T_api_Taint) (i2 : Int) : Nat → Bool → Int → Option Bool
 | 0, _, _ => none
 | n2 + 1, borne2, k2 =>
  if (decide (k2 < (l.length : Int))) = true then
   (if borne2 = true then some true else (V.gl l k2).bind fun x2 =>
   (V.gl taints i2).bind fun x3 =>
   (ref06_Bears x2 x3).bind fun r =>
   some r).bind fun c2 =>
   ref06_Unborne.l2 l taints i2 n2 c2 (IntKind.i64.wrap (k2 + (1 : Int)))
  else
   some borne2
def ref06_Unborne.l1 (l : List T_api_Toleration) (taints : List T_api_Taint) (effect : Int) : Nat → (List T_api_Taint) → Int → Option (List T_api_Taint)
 | 0, _, _ => none
 | n + 1, out2, i2 =>
  if (decide (i2 < (taints.length : Int))) = true then
   (if (effect != (0 : Int)) = true then (V.gl taints i2).bind fun x =>
   some (x.Effect != effect) else some false).bind fun c =>
   (ref06_Unborne.l2 l taints i2 FU c (0 : Int)).bind fun borne32 =>
   if (!borne32) = true then
    (V.gl taints i2).bind fun x4 =>
    (V.ap 40 out2 [x4]).bind fun out4 =>
    ref06_Unborne.l1 l taints effect n out4 (IntKind.i64.wrap (i2 + (1 : Int)))
   else
    ref06_Unborne.l1 l taints effect n out2 (IntKind.i64.wrap (i2 + (1 : Int)))
  else
   some out2
def ref06_Unborne (l : List T_api_Toleration) (taints : List T_api_Taint) (effect : Int) : Option (List T_api_Taint) :=
 (ref06_Unborne.l1 l taints effect FU ([] : List T_api_Taint) (0 : Int)).bind fun out32 =>
 some out32
theorem ref06_Unborne_ok (l : List T_api_Toleration) (taints : List T_api_Taint) (effect : Int) (r : List T_api_Taint) (hm : ref06_Unborne l taints effect = some r) :
  VC Tryz.prog 165 [.list 128 (List.map T_api_Toleration.vv l), .list 126 (List.map T_api_Taint.vv taints), .int .i64 effect] [] (fun zx zH => ∃ (ob0 : Option Nat) (cap0 : Nat), zx = .sl ob0 (List.map T_api_Taint.vv r).length cap0 ∧ zH = [.row ob0 126 cap0 (List.map T_api_Taint.vv r)]) := by
 unfold ref06_Unborne at hm
 refine VC.run (c := _) (rs := [.tmp 6]) Tryz.func165 R R R <| VW.seq <| VW.region <| VR.p R R (VP.assign R) <| VR.nil <| VW.seq <| VW.region <| VR.p R R (VP.assign R) <| VR.nil <| VW.seq <| VW.seq <| VW.region <| VR.p R R (VP.assign R) <| VR.nil ?_
 obtain ⟨o, h3, h4⟩ := bnd hm
 refine VW.joinE (fun (q : List T_api_Taint) => q = o) (fun (out32 : List T_api_Taint) (gg : Option Nat × Nat) => [(7, .sl gg.1 (List.map T_api_Taint.vv out32).length gg.2)]) (fun (out32 : List T_api_Taint) (gg : Option Nat × Nat) => [.row gg.1 126 gg.2 (List.map T_api_Taint.vv out32)]) ?_ ?_
 ·have hm := h3
  refine VW.block (VW.loop FU ?_)
  refine VL.fuelS (R := _) (fun zn (zs : List T_api_Taint × Int) => ref06_Unborne.l1 l taints effect zn zs.1 zs.2) (fun (zs : List T_api_Taint × Int) (zg : Option Nat × Nat) => [(0, .list 128 (List.map T_api_Toleration.vv l)), (1, .list 126 (List.map T_api_Taint.vv taints)), (2, .int .i64 effect), (7, .sl zg.1 (List.map T_api_Taint.vv zs.1).length zg.2), (8, .int .i64 zs.2)]) (fun (zs : List T_api_Taint × Int) (zg : Option Nat × Nat) => [.row zg.1 126 zg.2 (List.map T_api_Taint.vv zs.1)]) (([] : List T_api_Taint), (0 : Int)) (none, 0) (fun zs => R) (Shift.trans (Shift.nilRow 126) (Shift.pick [0] R ⟨R, R, R, R, R, trivial⟩)) h3 ?_
  rintro n ⟨out2, i2⟩ ⟨ob2, cap2⟩ hm
  rw [ref06_Unborne.l1] at hm
  refine VW.seq <| VW.seq <| VW.region <| VR.p R R (VP.move R) <| VR.p R R (VP.move R) <| VR.p R R (VP.lenT T_api_Taint.vv R Tryz.underlying28) <| VR.p R R (VP.arith R R R) <| VR.nil ?_
  rcases ite_or hm with ⟨h5, hm⟩ | ⟨h5, hm⟩
  ·refine VW.condT R h5 <| VW.skip <| VW.seq <| VW.block <| VW.seq <| VW.region <| VR.p R R (VP.move R) <| VR.p R R (VP.arith R R R) <| VR.p R R (VP.move R) ?_
   obtain ⟨c, h8, hm⟩ := bnd hm
   refine VR.sc 8 27 (.bool c) (fun K' J => ?_) ?_
   ·have hm := h8
    rcases ite_or hm with ⟨h6, hm⟩ | ⟨h6, hm⟩
    ·refine VR.pG R R R R h6 (VP.move R) <| VR.pG R R R R h6 (VP.move R) ?_
     obtain ⟨x, h7, hm⟩ := bnd hm
     refine VR.pG R R R R h6 (VP.glE T_api_Taint.vv R R el28 h7) <| VR.pG R R R R h6 (VP.fieldE R fa126_2) <| VR.pG R R R R h6 (VP.loadE R ld3 R) <| VR.pG R R R R h6 (VP.move R) <| VR.pG R R R R h6 (VP.arith R R R) <| VR.p R R (VP.pickB true R h6 R) ?_
     exact J [_, _, _, _, _, _, _] _ R (congrArg VV.bool (Option.some.inj hm))
    ·have h6 := bf h6
     refine VR.skipG R R R R h6 <| VR.skipG R R R R h6 <| VR.skipG R R R R h6 <| VR.skipG R R R R h6 <| VR.skipG R R R R h6 <| VR.skipG R R R R h6 <| VR.skipG R R R R h6 <| VR.p R R (VP.pickB false R h6 R) ?_
     exact J [_, _, _, _, _, _, _] _ R (congrArg VV.bool (Option.some.inj hm))
   ·refine VR.p R R (VP.assign R) <| VR.nil <| VW.seq <| VW.seq <| VW.region <| VR.p R R (VP.assign R) <| VR.nil ?_
    obtain ⟨o2, h9, h10⟩ := bnd hm
    refine VW.joinE (fun (q : Bool) => q = o2) (fun (borne32 : Bool) (gg : Unit) => [(0, .list 128 (List.map T_api_Toleration.vv l)), (1, .list 126 (List.map T_api_Taint.vv taints)), (2, .int .i64 effect), (7, .sl ob2 (List.map T_api_Taint.vv out2).length cap2), (8, .int .i64 i2), (9, .bool borne32)]) (fun (borne32 : Bool) (gg : Unit) => [.row ob2 126 cap2 (List.map T_api_Taint.vv out2)]) ?_ ?_
    ·have hm := h9
     refine VW.block (VW.loop FU ?_)
     refine VL.fuelS (R := _) (fun zn (zs : Bool × Int) => ref06_Unborne.l2 l taints i2 zn zs.1 zs.2) (fun (zs : Bool × Int) (zg : Unit) => [(0, .list 128 (List.map T_api_Toleration.vv l)), (1, .list 126 (List.map T_api_Taint.vv taints)), (2, .int .i64 effect), (7, .sl ob2 (List.map T_api_Taint.vv out2).length cap2), (8, .int .i64 i2), (9, .bool zs.1), (10, .int .i64 zs.2)]) (fun (zs : Bool × Int) (zg : Unit) => [.row ob2 126 cap2 (List.map T_api_Taint.vv out2)]) (c, (0 : Int)) () (fun zs => R) (Shift.pick [0] R ⟨R, R, R, R, R, R, R, trivial⟩) h9 ?_
     rintro n2 ⟨borne2, k2⟩ _ hm
     rw [ref06_Unborne.l2] at hm
     refine VW.seq <| VW.seq <| VW.region <| VR.p R R (VP.move R) <| VR.p R R (VP.move R) <| VR.p R R (VP.lenT T_api_Toleration.vv R Tryz.underlying46) <| VR.p R R (VP.arith R R R) <| VR.nil ?_
     rcases ite_or hm with ⟨h11, hm⟩ | ⟨h11, hm⟩
     ·refine VW.condT R h11 <| VW.skip <| VW.seq <| VW.block <| VW.drawK 0 mixed <| VA.p 0 R R R (by kernel_rfl) (VP.move R) <| VA.p 1 R R R (by kernel_rfl) (VP.move R) ?_
      obtain ⟨c2, h17, hm⟩ := bnd hm
      refine VA.sc [11, 10, 9, 8, 7, 6, 5, 4, 3, 2, 1, 0] 45 (.bool c2) (fun K' J => ?_) ?_
      ·have hm := h17
       rcases ite_or hm with ⟨h12, hm⟩ | ⟨h12, hm⟩
       ·refine VA.skipG 2 R R R R R h12 (by kernel_rfl) <| VA.skipG 3 R R R R R h12 (by kernel_rfl) <| VA.skipG 4 R R R R R h12 (by kernel_rfl) <| VA.skipG 5 R R R R R h12 (by kernel_rfl) <| VA.skipG 6 R R R R R h12 (by kernel_rfl) <| VA.skipG 7 R R R R R h12 (by kernel_rfl) <| VA.skipG 8 R R R R R h12 (by kernel_rfl) <| VA.skipG 9 R R R R R h12 (by kernel_rfl) <| VA.skipG 10 R R R R R h12 (by kernel_rfl) <| VA.p 11 R R R (by kernel_rfl) (VP.pickB true R h12 R) ?_
        exact J [_, _, _, _, _, _, _, _, _] _ R (congrArg VV.bool (Option.some.inj hm))
       ·have h12 := bf h12
        refine VA.pG 2 R R R R R h12 (by kernel_rfl) (VP.move R) <| VA.pG 3 R R R R R h12 (by kernel_rfl) (VP.move R) ?_
        obtain ⟨x2, h13, hm⟩ := bnd hm
        refine VA.pG 4 R R R R R h12 (by kernel_rfl) (VP.glE T_api_Toleration.vv R R el46 h13) <| VA.pG 5 R R R R R h12 (by kernel_rfl) (VP.loadE R ld128 R) <| VA.pG 6 R R R R R h12 (by kernel_rfl) (VP.move R) <| VA.pG 7 R R R R R h12 (by kernel_rfl) (VP.move R) ?_
        obtain ⟨x3, h14, hm⟩ := bnd hm
        refine VA.pG 8 R R R R R h12 (by kernel_rfl) (VP.glE T_api_Taint.vv R R el28 h14) <| VA.pG 9 R R R R R h12 (by kernel_rfl) (VP.loadE R ld126 R) ?_
        refine VA.all [10] (by kernel_rfl) ⟨?_, trivial⟩
        obtain ⟨r, h15, hm⟩ := bnd hm
        refine VB.oG R R R R R h12 (VO.callK 0 R fn184 R (ref06_Bears_ok x2 x3 r h15) fun _ _ h16 => ?_)
        obtain ⟨rfl, rfl⟩ := h16
        refine VA.p 11 R R R (by kernel_rfl) (VP.pickB false R h12 R) ?_
        exact J [_, _, _, _, _, _, _, _, _] _ R (congrArg VV.bool (Option.some.inj hm))
      ·refine VA.p 12 R R R (by kernel_rfl) (VP.assign R) <| VA.done (by kernel_rfl) <| VW.region <| VR.p R R (VP.move R) <| VR.p R R (VP.arith R R R) <| VR.p R R (VP.assign R) <| VR.nil ?_
       exact ⟨(c2, (IntKind.i64.wrap (k2 + (1 : Int)))), (), hm, (Shift.pick [0] R ⟨R, R, R, R, R, R, R, trivial⟩)⟩
     ·have h11 := bf h11
      refine VW.condF R h11 <| VW.exit ?_
      exact ⟨borne2, (), Option.some.inj hm, (Shift.pick [0] R ⟨R, R, R, R, R, R, trivial⟩)⟩
    ·rintro borne32 _ rfl
     have hm := h10
     refine VW.seq <| VW.region <| VR.p R R (VP.move R) <| VR.p R R (VP.not R) <| VR.nil ?_
     rcases ite_or hm with ⟨h18, hm⟩ | ⟨h18, hm⟩
     ·refine VW.condT R h18 <| VW.region <| VR.p R R (VP.move R) <| VR.p R R (VP.move R) <| VR.p R R (VP.move R) ?_
      obtain ⟨x4, h19, hm⟩ := bnd hm
      refine VR.p R R (VP.glE T_api_Taint.vv R R el28 h19) <| VR.p R R (VP.loadE R ld126 R) ?_
      refine VR.cons R R (VO.buildSlice ap28 R R R R R fun b => ?_)
      obtain ⟨out4, h21, hm⟩ := bnd hm
      refine VR.cons R R (VO.apT 1 T_api_Taint.vv (l := out2) (l2 := [x4]) ap28 R R (sT_row 0 T_api_Taint.vv el28 R R) h21 fun ob4 cap4 => ?_)
      refine VR.p R R (VP.assign R) <| VR.nil <| VW.region <| VR.p R R (VP.move R) <| VR.p R R (VP.arith R R R) <| VR.p R R (VP.assign R) <| VR.nil ?_
      exact ⟨(out4, (IntKind.i64.wrap (i2 + (1 : Int)))), (ob4, cap4), hm, (Shift.pick [1] R ⟨R, R, R, R, R, trivial⟩)⟩
     ·have h18 := bf h18
      refine VW.condF R h18 <| VW.skip <| VW.region <| VR.p R R (VP.move R) <| VR.p R R (VP.arith R R R) <| VR.p R R (VP.assign R) <| VR.nil ?_
      exact ⟨(out2, (IntKind.i64.wrap (i2 + (1 : Int)))), (ob2, cap2), hm, (Shift.pick [0] R ⟨R, R, R, R, R, trivial⟩)⟩
  ·have h5 := bf h5
   refine VW.condF R h5 <| VW.exit ?_
   exact ⟨out2, (ob2, cap2), Option.some.inj hm, (Shift.pick [0] R ⟨R, trivial⟩)⟩
 ·rintro out32 ⟨ob3, cap3⟩ rfl
  have hm := h4
  refine VW.seq <| VW.region <| VR.p R R (VP.move R) <| VR.p R R (VP.assign R) <| VR.nil ?_
  obtain rfl := Option.some.inj hm
  exact VW.ret ⟨.inl R, _, .cons (.tmp _ _ R) .nil, [0], _, R, ob3, cap3, R, R⟩

/-! trireme/triremeref06.hard -/
def ref06_hard (n : Int) : Option Bool :=
 some ((n == (1 : Int)) || (n == (3 : Int)))
theorem ref06_hard_ok (n : Int) (r : Bool) (hm : ref06_hard n = some r) :
  VC Tryz.prog 166 [.int .i64 n] [] (fun zx zH => zx = .bool r ∧ zH = []) := by
 unfold ref06_hard at hm
 refine VC.run (c := _) (rs := [.tmp 2]) Tryz.func166 R R R <| VW.seq <| VW.region <| VR.p R R (VP.assign R) <| VR.nil <| VW.seq <| VW.region <| VR.p R R (VP.move R) <| VR.p R R (VP.arith R R R) <| VR.p R R (VP.move R) ?_
 refine VR.sc 3 8 (.bool ((n == (1 : Int)) || (n == (3 : Int)))) (fun K' J => ?_) ?_
 ·rcases Bool.eq_false_or_eq_true (n == (1 : Int)) with h1 | h1
  ·refine VR.skipG R R R R h1 <| VR.skipG R R R R h1 <| VR.p R R (VP.pickB true R h1 R) ?_
   exact J [_, _] _ R (orT h1)
  ·refine VR.pG R R R R h1 (VP.move R) <| VR.pG R R R R h1 (VP.arith R R R) <| VR.p R R (VP.pickB false R h1 R) ?_
   exact J [_, _] _ R (orF h1)
 ·refine VR.p R R (VP.assign R) <| VR.nil ?_
  obtain rfl := Option.some.inj hm
  exact VW.ret ⟨.inl R, _, .cons (.tmp _ _ R) .nil, [], _, R, R, R⟩

/-! trireme/triremeref06.Allows -/
def ref06_Allows.l1 (r : List T_api_Taint) : Nat → Int → Option (Out Bool Unit)
 | 0, _ => none
 | n + 1, i2 =>
  if (decide (i2 < (r.length : Int))) = true then
   (V.gl r i2).bind fun x =>
   (ref06_hard x.Effect).bind fun r2 =>
   if r2 = true then
    some (Out.ret false)
   else
    ref06_Allows.l1 r n (IntKind.i64.wrap (i2 + (1 : Int)))
  else
   some (Out.go ())
def ref06_Allows (l : List T_api_Toleration) (taints : List T_api_Taint) : Option Bool :=
 (ref06_Unborne l taints (0 : Int)).bind fun r =>
 (ref06_Allows.l1 r FU (0 : Int)).bind fun o =>
 o.on fun j =>
 some true
theorem ref06_Allows_ok (l : List T_api_Toleration) (taints : List T_api_Taint) (r : Bool) (hm : ref06_Allows l taints = some r) :
  VC Tryz.prog 145 [.list 128 (List.map T_api_Toleration.vv l), .list 126 (List.map T_api_Taint.vv taints)] [] (fun zx zH => zx = .bool r ∧ zH = []) := by
 unfold ref06_Allows at hm
 refine VC.run (c := _) (rs := [.tmp 4]) Tryz.func145 R R R <| VW.seq <| VW.region <| VR.p R R (VP.assign R) <| VR.nil <| VW.seq <| VW.region <| VR.p R R (VP.move R) <| VR.p R R (VP.move R) ?_
 obtain ⟨r, h1, hm⟩ := bnd hm
 refine VR.cons R R (VO.callK 0 R fn165 R (ref06_Unborne_ok l taints (0 : Int) r h1) fun _ _ h10 => ?_)
 obtain ⟨ob, cap, rfl, rfl⟩ := h10
 refine VR.shift (Shift.freezeE 0 [(9, .list 126 (List.map T_api_Taint.vv r))] R ⟨⟨_, R, .here _ R⟩, trivial⟩ (FzH.refl _)) <| VR.p R R (VP.assign R) <| VR.nil <| VW.seq <| VW.seq <| VW.region <| VR.p R R (VP.assign R) <| VR.nil ?_
 obtain ⟨o, h3, h4⟩ := bnd hm
 refine VW.joinE (fun (q : Unit) => o = Out.go q) (fun (j : Unit) (gg : Unit) => []) (fun (j : Unit) (gg : Unit) => []) ?_ ?_
 ·have hm := h3
  refine VW.block (VW.loop FU ?_)
  refine VL.fuelS (R := _) (fun zn (zs : Int) => ref06_Allows.l1 r zn zs) (fun (zs : Int) (zg : Unit) => [(5, .list 126 (List.map T_api_Taint.vv r)), (6, .int .i64 zs)]) (fun (zs : Int) (zg : Unit) => []) (0 : Int) () (fun zs => R) (Shift.pick [] R ⟨R, R, trivial⟩) h3 ?_
  rintro n i2 _ hm
  rw [ref06_Allows.l1] at hm
  refine VW.seq <| VW.seq <| VW.region <| VR.p R R (VP.move R) <| VR.p R R (VP.move R) <| VR.p R R (VP.lenT T_api_Taint.vv R Tryz.underlying28) <| VR.p R R (VP.arith R R R) <| VR.nil ?_
  rcases ite_or hm with ⟨h5, hm⟩ | ⟨h5, hm⟩
  ·refine VW.condT R h5 <| VW.skip <| VW.seq <| VW.block <| VW.seq <| VW.region <| VR.p R R (VP.move R) <| VR.p R R (VP.move R) ?_
   obtain ⟨x, h6, hm⟩ := bnd hm
   refine VR.p R R (VP.glE T_api_Taint.vv R R el28 h6) <| VR.p R R (VP.fieldE R fa126_2) <| VR.p R R (VP.loadE R ld3 R) ?_
   obtain ⟨r2, h7, hm⟩ := bnd hm
   refine VR.cons R R (VO.callK 0 R fn166 R (ref06_hard_ok x.Effect r2 h7) fun _ _ h9 => ?_)
   obtain ⟨rfl, rfl⟩ := h9
   refine VR.nil ?_
   rcases ite_or hm with ⟨h8, hm⟩ | ⟨h8, hm⟩
   ·refine VW.condT R h8 <| VW.seq <| VW.region <| VR.p R R (VP.assign R) <| VR.nil ?_
    obtain rfl := Option.some.inj hm
    have hm := Out.ret_on h4
    obtain rfl := Option.some.inj hm
    exact VW.ret ⟨.inl R, _, .cons (.tmp _ _ R) .nil, [], _, R, R, R⟩
   ·have h8 := bf h8
    refine VW.condF R h8 <| VW.skip <| VW.region <| VR.p R R (VP.move R) <| VR.p R R (VP.arith R R R) <| VR.p R R (VP.assign R) <| VR.nil ?_
    exact ⟨(IntKind.i64.wrap (i2 + (1 : Int))), (), hm, (Shift.pick [] R ⟨R, R, trivial⟩)⟩
  ·have h5 := bf h5
   refine VW.condF R h5 <| VW.exit ?_
   exact ⟨(), (), (Option.some.inj hm).symm, (Shift.pick [] R trivial)⟩
 ·rintro j _ rfl
  have hm := Out.go_on h4
  refine VW.seq <| VW.region <| VR.p R R (VP.assign R) <| VR.nil ?_
  obtain rfl := Option.some.inj hm
  exact VW.ret ⟨.inl R, _, .cons (.tmp _ _ R) .nil, [], _, R, R, R⟩

/-! trireme/triremeref10.Place -/
def ref10_Place (m : T_api_Machine) (p : T_api_Pod) : Option Int :=
 if (!m.Ready) = true then
  some (1 : Int)
 else
  (ref05_Has m.Labels p.Select).bind fun r =>
  if (!r) = true then
   some (4 : Int)
  else
   (ref05_All m.Labels p.Terms).bind fun r2 =>
   if (!r2) = true then
    some (5 : Int)
   else
    (ref06_Allows p.Bears m.Taints).bind fun r3 =>
    if (!r3) = true then
     some (6 : Int)
    else
     some (0 : Int)
theorem ref10_Place_ok (m : T_api_Machine) (p : T_api_Pod) (r : Int) (hm : ref10_Place m p = some r) :
  VC Tryz.prog 115 [T_api_Machine.vv m, T_api_Pod.vv p] [] (fun zx zH => zx = .int .i64 r ∧ zH = []) := by
 unfold ref10_Place at hm
 refine VC.run (c := _) (rs := [.tmp 4]) Tryz.func115 R R R <| VW.seq <| VW.region ?_
 refine VR.cons R R (VO.box R R fun b => ?_)
 refine VR.cons R R (VO.box R R fun b2 => ?_)
 refine VR.p R R (VP.assign R) <| VR.nil <| VW.seq <| VW.seq <| VW.region <| VR.p R R (VP.fieldP R fa30_5) <| VR.p R R (VP.loadP (i := 1) R R ld4 R) <| VR.p R R (VP.not R) <| VR.nil ?_
 rcases ite_or hm with ⟨h3, hm⟩ | ⟨h3, hm⟩
 ·refine VW.condT R h3 <| VW.seq <| VW.region <| VR.p R R (VP.assign R) <| VR.nil ?_
  obtain rfl := Option.some.inj hm
  exact VW.ret ⟨.inl R, _, .cons (.tmp _ _ R) .nil, [], _, R, R, R⟩
 ·have h3 := bf h3
  refine VW.condF R h3 <| VW.skip <| VW.seq <| VW.seq <| VW.region <| VR.p R R (VP.fieldP R fa30_3) <| VR.p R R (VP.loadP (i := 1) R R ld27 R) <| VR.p R R (VP.fieldP R fa48_3) <| VR.p R R (VP.loadP (i := 0) R R ld27 R) ?_
  obtain ⟨r, h4, hm⟩ := bnd hm
  refine VR.cons R R (VO.callK 0 R fn143 R (ref05_Has_ok m.Labels p.Select r h4) fun _ _ h12 => ?_)
  obtain ⟨rfl, rfl⟩ := h12
  refine VR.p R R (VP.not R) <| VR.nil ?_
  rcases ite_or hm with ⟨h5, hm⟩ | ⟨h5, hm⟩
  ·refine VW.condT R h5 <| VW.seq <| VW.region <| VR.p R R (VP.assign R) <| VR.nil ?_
   obtain rfl := Option.some.inj hm
   exact VW.ret ⟨.inl R, _, .cons (.tmp _ _ R) .nil, [], _, R, R, R⟩
  ·have h5 := bf h5
   refine VW.condF R h5 <| VW.skip <| VW.seq <| VW.seq <| VW.region <| VR.p R R (VP.fieldP R fa30_3) <| VR.p R R (VP.loadP (i := 1) R R ld27 R) <| VR.p R R (VP.fieldP R fa48_4) <| VR.p R R (VP.loadP (i := 0) R R ld45 R) ?_
   obtain ⟨r2, h6, hm⟩ := bnd hm
   refine VR.cons R R (VO.callK 0 R fn144 R (ref05_All_ok m.Labels p.Terms r2 h6) fun _ _ h11 => ?_)
   obtain ⟨rfl, rfl⟩ := h11
   refine VR.p R R (VP.not R) <| VR.nil ?_
   rcases ite_or hm with ⟨h7, hm⟩ | ⟨h7, hm⟩
   ·refine VW.condT R h7 <| VW.seq <| VW.region <| VR.p R R (VP.assign R) <| VR.nil ?_
    obtain rfl := Option.some.inj hm
    exact VW.ret ⟨.inl R, _, .cons (.tmp _ _ R) .nil, [], _, R, R, R⟩
   ·have h7 := bf h7
    refine VW.condF R h7 <| VW.skip <| VW.seq <| VW.seq <| VW.region <| VR.p R R (VP.fieldP R fa48_5) <| VR.p R R (VP.loadP (i := 0) R R ld46 R) <| VR.p R R (VP.fieldP R fa30_4) <| VR.p R R (VP.loadP (i := 1) R R ld28 R) ?_
    obtain ⟨r3, h8, hm⟩ := bnd hm
    refine VR.cons R R (VO.callK 0 R fn145 R (ref06_Allows_ok p.Bears m.Taints r3 h8) fun _ _ h10 => ?_)
    obtain ⟨rfl, rfl⟩ := h10
    refine VR.p R R (VP.not R) <| VR.nil ?_
    rcases ite_or hm with ⟨h9, hm⟩ | ⟨h9, hm⟩
    ·refine VW.condT R h9 <| VW.seq <| VW.region <| VR.p R R (VP.assign R) <| VR.nil ?_
     obtain rfl := Option.some.inj hm
     exact VW.ret ⟨.inl R, _, .cons (.tmp _ _ R) .nil, [], _, R, R, R⟩
    ·have h9 := bf h9
     refine VW.condF R h9 <| VW.skip <| VW.seq <| VW.region <| VR.p R R (VP.assign R) <| VR.nil ?_
     obtain rfl := Option.some.inj hm
     exact VW.ret ⟨.inl R, _, .cons (.tmp _ _ R) .nil, [], _, R, R, R⟩

/-! trireme/triremeref10.Others -/
def ref10_Others.l1 (bs : List T_api_Bound) (name : ByteArray) : Nat → (List T_api_Bound) → Int → Option (List T_api_Bound)
 | 0, _, _ => none
 | n + 1, out2, i2 =>
  if (decide (i2 < (bs.length : Int))) = true then
   (V.gl bs i2).bind fun x =>
   if (!(V.seq x.Pod.Name name)) = true then
    (V.gl bs i2).bind fun x2 =>
    (V.ap 288 out2 [x2]).bind fun out4 =>
    ref10_Others.l1 bs name n out4 (IntKind.i64.wrap (i2 + (1 : Int)))
   else
    ref10_Others.l1 bs name n out2 (IntKind.i64.wrap (i2 + (1 : Int)))
  else
   some out2
def ref10_Others (bs : List T_api_Bound) (name : ByteArray) : Option (List T_api_Bound) :=
 (ref10_Others.l1 bs name FU ([] : List T_api_Bound) (0 : Int)).bind fun out32 =>
 some out32
theorem ref10_Others_ok (bs : List T_api_Bound) (name : ByteArray) (r : List T_api_Bound) (hm : ref10_Others bs name = some r) :
  VC Tryz.prog 62 [.list 50 (List.map T_api_Bound.vv bs), .str name] [] (fun zx zH => ∃ (ob0 : Option Nat) (cap0 : Nat), zx = .sl ob0 (List.map T_api_Bound.vv r).length cap0 ∧ zH = [.row ob0 50 cap0 (List.map T_api_Bound.vv r)]) := by
 unfold ref10_Others at hm
 refine VC.run (c := _) (rs := [.tmp 4]) Tryz.func62 R R R <| VW.seq <| VW.region <| VR.p R R (VP.assign R) <| VR.nil <| VW.seq <| VW.region <| VR.p R R (VP.assign R) <| VR.nil <| VW.seq <| VW.seq <| VW.region <| VR.p R R (VP.assign R) <| VR.nil ?_
 obtain ⟨o, h3, h4⟩ := bnd hm
 refine VW.joinE (fun (q : List T_api_Bound) => q = o) (fun (out32 : List T_api_Bound) (gg : Option Nat × Nat) => [(5, .sl gg.1 (List.map T_api_Bound.vv out32).length gg.2)]) (fun (out32 : List T_api_Bound) (gg : Option Nat × Nat) => [.row gg.1 50 gg.2 (List.map T_api_Bound.vv out32)]) ?_ ?_
 ·have hm := h3
  refine VW.block (VW.loop FU ?_)
  refine VL.fuelS (R := _) (fun zn (zs : List T_api_Bound × Int) => ref10_Others.l1 bs name zn zs.1 zs.2) (fun (zs : List T_api_Bound × Int) (zg : Option Nat × Nat) => [(0, .list 50 (List.map T_api_Bound.vv bs)), (1, .str name), (5, .sl zg.1 (List.map T_api_Bound.vv zs.1).length zg.2), (6, .int .i64 zs.2)]) (fun (zs : List T_api_Bound × Int) (zg : Option Nat × Nat) => [.row zg.1 50 zg.2 (List.map T_api_Bound.vv zs.1)]) (([] : List T_api_Bound), (0 : Int)) (none, 0) (fun zs => R) (Shift.trans (Shift.nilRow 50) (Shift.pick [0] R ⟨R, R, R, R, trivial⟩)) h3 ?_
  rintro n ⟨out2, i2⟩ ⟨ob2, cap2⟩ hm
  rw [ref10_Others.l1] at hm
  refine VW.seq <| VW.seq <| VW.region <| VR.p R R (VP.move R) <| VR.p R R (VP.move R) <| VR.p R R (VP.lenT T_api_Bound.vv R Tryz.underlying23) <| VR.p R R (VP.arith R R R) <| VR.nil ?_
  rcases ite_or hm with ⟨h5, hm⟩ | ⟨h5, hm⟩
  ·refine VW.condT R h5 <| VW.skip <| VW.seq <| VW.block <| VW.seq <| VW.region <| VR.p R R (VP.move R) <| VR.p R R (VP.move R) ?_
   obtain ⟨x, h6, hm⟩ := bnd hm
   refine VR.p R R (VP.glE T_api_Bound.vv R R el23 h6) <| VR.p R R (VP.fieldE R fa50_0) <| VR.p R R (VP.fieldE R fa48_0) <| VR.p R R (VP.loadE R ld9 R) <| VR.p R R (VP.move R) <| VR.p R R (VP.strop R R R) <| VR.nil ?_
   rcases ite_or hm with ⟨h7, hm⟩ | ⟨h7, hm⟩
   ·refine VW.condT R h7 <| VW.region <| VR.p R R (VP.move R) <| VR.p R R (VP.move R) <| VR.p R R (VP.move R) ?_
    obtain ⟨x2, h8, hm⟩ := bnd hm
    refine VR.p R R (VP.glE T_api_Bound.vv R R el23 h8) <| VR.p R R (VP.loadE R ld50 R) ?_
    refine VR.cons R R (VO.buildSlice ap23 R R R R R fun b => ?_)
    obtain ⟨out4, h10, hm⟩ := bnd hm
    refine VR.cons R R (VO.apT 1 T_api_Bound.vv (l := out2) (l2 := [x2]) ap23 R R (sT_row 0 T_api_Bound.vv el23 R R) h10 fun ob4 cap4 => ?_)
    refine VR.p R R (VP.assign R) <| VR.nil <| VW.region <| VR.p R R (VP.move R) <| VR.p R R (VP.arith R R R) <| VR.p R R (VP.assign R) <| VR.nil ?_
    exact ⟨(out4, (IntKind.i64.wrap (i2 + (1 : Int)))), (ob4, cap4), hm, (Shift.pick [1] R ⟨R, R, R, R, trivial⟩)⟩
   ·have h7 := bf h7
    refine VW.condF R h7 <| VW.skip <| VW.region <| VR.p R R (VP.move R) <| VR.p R R (VP.arith R R R) <| VR.p R R (VP.assign R) <| VR.nil ?_
    exact ⟨(out2, (IntKind.i64.wrap (i2 + (1 : Int)))), (ob2, cap2), hm, (Shift.pick [0] R ⟨R, R, R, R, trivial⟩)⟩
  ·have h5 := bf h5
   refine VW.condF R h5 <| VW.exit ?_
   exact ⟨out2, (ob2, cap2), Option.some.inj hm, (Shift.pick [0] R ⟨R, trivial⟩)⟩
 ·rintro out32 ⟨ob3, cap3⟩ rfl
  have hm := h4
  refine VW.seq <| VW.region <| VR.p R R (VP.move R) <| VR.p R R (VP.assign R) <| VR.nil ?_
  obtain rfl := Option.some.inj hm
  exact VW.ret ⟨.inl R, _, .cons (.tmp _ _ R) .nil, [0], _, R, ob3, cap3, R, R⟩

/-! trireme/triremeref09.On -/
def ref09_On.l1 (bs : List T_api_Bound) (name : ByteArray) : Nat → (List T_api_Pod) → Int → Option (List T_api_Pod)
 | 0, _, _ => none
 | n + 1, out2, i2 =>
  if (decide (i2 < (bs.length : Int))) = true then
   (V.gl bs i2).bind fun x =>
   if (V.seq x.On name) = true then
    (V.gl bs i2).bind fun x2 =>
    (V.ap 272 out2 [x2.Pod]).bind fun out4 =>
    ref09_On.l1 bs name n out4 (IntKind.i64.wrap (i2 + (1 : Int)))
   else
    ref09_On.l1 bs name n out2 (IntKind.i64.wrap (i2 + (1 : Int)))
  else
   some out2
def ref09_On (bs : List T_api_Bound) (name : ByteArray) : Option (List T_api_Pod) :=
 (ref09_On.l1 bs name FU ([] : List T_api_Pod) (0 : Int)).bind fun out32 =>
 some out32
theorem ref09_On_ok (bs : List T_api_Bound) (name : ByteArray) (r : List T_api_Pod) (hm : ref09_On bs name = some r) :
  VC Tryz.prog 148 [.list 50 (List.map T_api_Bound.vv bs), .str name] [] (fun zx zH => ∃ (ob0 : Option Nat) (cap0 : Nat), zx = .sl ob0 (List.map T_api_Pod.vv r).length cap0 ∧ zH = [.row ob0 48 cap0 (List.map T_api_Pod.vv r)]) := by
 unfold ref09_On at hm
 refine VC.run (c := _) (rs := [.tmp 4]) Tryz.func148 R R R <| VW.seq <| VW.region <| VR.p R R (VP.assign R) <| VR.nil <| VW.seq <| VW.region <| VR.p R R (VP.assign R) <| VR.nil <| VW.seq <| VW.seq <| VW.region <| VR.p R R (VP.assign R) <| VR.nil ?_
 obtain ⟨o, h3, h4⟩ := bnd hm
 refine VW.joinE (fun (q : List T_api_Pod) => q = o) (fun (out32 : List T_api_Pod) (gg : Option Nat × Nat) => [(5, .sl gg.1 (List.map T_api_Pod.vv out32).length gg.2)]) (fun (out32 : List T_api_Pod) (gg : Option Nat × Nat) => [.row gg.1 48 gg.2 (List.map T_api_Pod.vv out32)]) ?_ ?_
 ·have hm := h3
  refine VW.block (VW.loop FU ?_)
  refine VL.fuelS (R := _) (fun zn (zs : List T_api_Pod × Int) => ref09_On.l1 bs name zn zs.1 zs.2) (fun (zs : List T_api_Pod × Int) (zg : Option Nat × Nat) => [(0, .list 50 (List.map T_api_Bound.vv bs)), (1, .str name), (5, .sl zg.1 (List.map T_api_Pod.vv zs.1).length zg.2), (6, .int .i64 zs.2)]) (fun (zs : List T_api_Pod × Int) (zg : Option Nat × Nat) => [.row zg.1 48 zg.2 (List.map T_api_Pod.vv zs.1)]) (([] : List T_api_Pod), (0 : Int)) (none, 0) (fun zs => R) (Shift.trans (Shift.nilRow 48) (Shift.pick [0] R ⟨R, R, R, R, trivial⟩)) h3 ?_
  rintro n ⟨out2, i2⟩ ⟨ob2, cap2⟩ hm
  rw [ref09_On.l1] at hm
  refine VW.seq <| VW.seq <| VW.region <| VR.p R R (VP.move R) <| VR.p R R (VP.move R) <| VR.p R R (VP.lenT T_api_Bound.vv R Tryz.underlying23) <| VR.p R R (VP.arith R R R) <| VR.nil ?_
  rcases ite_or hm with ⟨h5, hm⟩ | ⟨h5, hm⟩
  ·refine VW.condT R h5 <| VW.skip <| VW.seq <| VW.block <| VW.seq <| VW.region <| VR.p R R (VP.move R) <| VR.p R R (VP.move R) ?_
   obtain ⟨x, h6, hm⟩ := bnd hm
   refine VR.p R R (VP.glE T_api_Bound.vv R R el23 h6) <| VR.p R R (VP.fieldE R fa50_1) <| VR.p R R (VP.loadE R ld9 R) <| VR.p R R (VP.move R) <| VR.p R R (VP.strop R R R) <| VR.nil ?_
   rcases ite_or hm with ⟨h7, hm⟩ | ⟨h7, hm⟩
   ·refine VW.condT R h7 <| VW.region <| VR.p R R (VP.move R) <| VR.p R R (VP.move R) <| VR.p R R (VP.move R) ?_
    obtain ⟨x2, h8, hm⟩ := bnd hm
    refine VR.p R R (VP.glE T_api_Bound.vv R R el23 h8) <| VR.p R R (VP.fieldE R fa50_0) <| VR.p R R (VP.loadE R ld48 R) ?_
    refine VR.cons R R (VO.buildSlice ap24 R R R R R fun b => ?_)
    obtain ⟨out4, h10, hm⟩ := bnd hm
    refine VR.cons R R (VO.apT 1 T_api_Pod.vv (l := out2) (l2 := [x2.Pod]) ap24 R R (sT_row 0 T_api_Pod.vv el24 R R) h10 fun ob4 cap4 => ?_)
    refine VR.p R R (VP.assign R) <| VR.nil <| VW.region <| VR.p R R (VP.move R) <| VR.p R R (VP.arith R R R) <| VR.p R R (VP.assign R) <| VR.nil ?_
    exact ⟨(out4, (IntKind.i64.wrap (i2 + (1 : Int)))), (ob4, cap4), hm, (Shift.pick [1] R ⟨R, R, R, R, trivial⟩)⟩
   ·have h7 := bf h7
    refine VW.condF R h7 <| VW.skip <| VW.region <| VR.p R R (VP.move R) <| VR.p R R (VP.arith R R R) <| VR.p R R (VP.assign R) <| VR.nil ?_
    exact ⟨(out2, (IntKind.i64.wrap (i2 + (1 : Int)))), (ob2, cap2), hm, (Shift.pick [0] R ⟨R, R, R, R, trivial⟩)⟩
  ·have h5 := bf h5
   refine VW.condF R h5 <| VW.exit ?_
   exact ⟨out2, (ob2, cap2), Option.some.inj hm, (Shift.pick [0] R ⟨R, trivial⟩)⟩
 ·rintro out32 ⟨ob3, cap3⟩ rfl
  have hm := h4
  refine VW.seq <| VW.region <| VR.p R R (VP.move R) <| VR.p R R (VP.assign R) <| VR.nil ?_
  obtain rfl := Option.some.inj hm
  exact VW.ret ⟨.inl R, _, .cons (.tmp _ _ R) .nil, [0], _, R, ob3, cap3, R, R⟩

/-! trireme/triremeref04.Add -/
def ref04_Add (a : T_api_Res) (b : T_api_Res) : Option (T_api_Res × Int) :=
 (ref04_Right a).bind fun r =>
 (if (!r) = true then some true else (ref04_Right b).bind fun r2 =>
 some (!r2)).bind fun c =>
 if c = true then
  some ((⟨(0 : Int), (0 : Int), (0 : Int), (0 : Int), (0 : Int)⟩ : T_api_Res), (1 : Int))
 else
  (ref04_Right (⟨(IntKind.i64.wrap (a.Cpu + b.Cpu)), (IntKind.i64.wrap (a.Mem + b.Mem)), (IntKind.i64.wrap (a.Disk + b.Disk)), (IntKind.i64.wrap (a.Pods + b.Pods)), (IntKind.i64.wrap (a.Dev + b.Dev))⟩ : T_api_Res)).bind fun r3 =>
  if (!r3) = true then
   some ((⟨(0 : Int), (0 : Int), (0 : Int), (0 : Int), (0 : Int)⟩ : T_api_Res), (10 : Int))
  else
   some ((⟨(IntKind.i64.wrap (a.Cpu + b.Cpu)), (IntKind.i64.wrap (a.Mem + b.Mem)), (IntKind.i64.wrap (a.Disk + b.Disk)), (IntKind.i64.wrap (a.Pods + b.Pods)), (IntKind.i64.wrap (a.Dev + b.Dev))⟩ : T_api_Res), (0 : Int))
theorem ref04_Add_ok (a : T_api_Res) (b : T_api_Res) (r : T_api_Res × Int) (hm : ref04_Add a b = some r) :
  VC Tryz.prog 153 [T_api_Res.vv a, T_api_Res.vv b] [] (fun zx zH => zx = .tup [T_api_Res.vv r.1, .int .i64 r.2] ∧ zH = []) := by
 unfold ref04_Add at hm
 refine VC.run (c := _) (rs := [.cell 4 26, .tmp 5]) Tryz.func153 R R R <| VW.seq <| VW.region ?_
 refine VR.cons R R (VO.box R R fun b2 => ?_)
 refine VR.cons R R (VO.box R R fun b3 => ?_)
 refine VR.cons R R (VO.alloc z26 fun b4 => ?_)
 refine VR.p R R (VP.assign R) <| VR.nil <| VW.seq <| VW.seq <| VW.region <| VR.p R R (VP.loadP (i := 2) R R ld26 R) ?_
 obtain ⟨r, h4, hm⟩ := bnd hm
 refine VR.cons R R (VO.callK 0 R fn70 R (ref04_Right_ok a r h4) fun _ _ h14 => ?_)
 obtain ⟨rfl, rfl⟩ := h14
 refine VR.p R R (VP.not R) <| VR.p R R (VP.move R) ?_
 obtain ⟨c, h8, hm⟩ := bnd hm
 refine VR.sc 4 14 (.bool c) (fun K' J => ?_) ?_
 ·have hm := h8
  rcases ite_or hm with ⟨h5, hm⟩ | ⟨h5, hm⟩
  ·refine VR.skipG R R R R h5 <| VR.skipG R R R R h5 <| VR.skipG R R R R h5 <| VR.p R R (VP.pickB true R h5 R) ?_
   exact J [_, _, _] _ R (congrArg VV.bool (Option.some.inj hm))
  ·have h5 := bf h5
   refine VR.pG R R R R h5 (VP.loadP (i := 1) R R ld26 R) ?_
   obtain ⟨r2, h6, hm⟩ := bnd hm
   refine VR.consG R R R R h5 (VO.callK 0 R fn70 R (ref04_Right_ok b r2 h6) fun _ _ h7 => ?_)
   obtain ⟨rfl, rfl⟩ := h7
   refine VR.pG R R R R h5 (VP.not R) <| VR.p R R (VP.pickB false R h5 R) ?_
   exact J [_, _, _] _ R (congrArg VV.bool (Option.some.inj hm))
 ·refine VR.nil ?_
  rcases ite_or hm with ⟨h9, hm⟩ | ⟨h9, hm⟩
  ·refine VW.condT R h9 <| VW.seq <| VW.region <| VR.p R R (VP.buildP pl26 R R) ?_
   refine VR.cons R R (VO.storeP (i := 0) R R R ld26 R R R ?_)
   refine VR.p R R (VP.assign R) <| VR.nil ?_
   obtain rfl := Option.some.inj hm
   exact VW.ret ⟨.inl R, _, .cons (.cell _ _ _ _ 0 _ _ _ _ R R ld26 R) (.cons (.tmp _ _ R) .nil), [], _, R, R, R⟩
  ·have h9 := bf h9
   refine VW.condF R h9 <| VW.skip <| VW.seq <| VW.region <| VR.p R R (VP.fieldP R fa26_0) <| VR.p R R (VP.loadP (i := 2) R R ld3 R) <| VR.p R R (VP.fieldP R fa26_0) <| VR.p R R (VP.loadP (i := 1) R R ld3 R) <| VR.p R R (VP.arith R R R) <| VR.p R R (VP.fieldP R fa26_1) <| VR.p R R (VP.loadP (i := 2) R R ld3 R) <| VR.p R R (VP.fieldP R fa26_1) <| VR.p R R (VP.loadP (i := 1) R R ld3 R) <| VR.p R R (VP.arith R R R) <| VR.p R R (VP.fieldP R fa26_2) <| VR.p R R (VP.loadP (i := 2) R R ld3 R) <| VR.p R R (VP.fieldP R fa26_2) <| VR.p R R (VP.loadP (i := 1) R R ld3 R) <| VR.p R R (VP.arith R R R) <| VR.p R R (VP.fieldP R fa26_3) <| VR.p R R (VP.loadP (i := 2) R R ld3 R) <| VR.p R R (VP.fieldP R fa26_3) <| VR.p R R (VP.loadP (i := 1) R R ld3 R) <| VR.p R R (VP.arith R R R) <| VR.p R R (VP.fieldP R fa26_4) <| VR.p R R (VP.loadP (i := 2) R R ld3 R) <| VR.p R R (VP.fieldP R fa26_4) <| VR.p R R (VP.loadP (i := 1) R R ld3 R) <| VR.p R R (VP.arith R R R) <| VR.p R R (VP.buildP pl26 R R) ?_
   refine VR.cons R R (VO.alloc z26 fun b5 => ?_)
   refine VR.cons R R (VO.storeP (i := 0) R R R ld26 R R R ?_)
   refine VR.nil <| VW.seq <| VW.seq <| VW.region <| VR.p R R (VP.loadP (i := 0) R R ld26 R) ?_
   obtain ⟨r3, h11, hm⟩ := bnd hm
   refine VR.cons R R (VO.callK 0 R fn70 R (ref04_Right_ok (⟨(IntKind.i64.wrap (a.Cpu + b.Cpu)), (IntKind.i64.wrap (a.Mem + b.Mem)), (IntKind.i64.wrap (a.Disk + b.Disk)), (IntKind.i64.wrap (a.Pods + b.Pods)), (IntKind.i64.wrap (a.Dev + b.Dev))⟩ : T_api_Res) r3 h11) fun _ _ h13 => ?_)
   obtain ⟨rfl, rfl⟩ := h13
   refine VR.p R R (VP.not R) <| VR.nil ?_
   rcases ite_or hm with ⟨h12, hm⟩ | ⟨h12, hm⟩
   ·refine VW.condT R h12 <| VW.seq <| VW.region <| VR.p R R (VP.buildP pl26 R R) ?_
    refine VR.cons R R (VO.storeP (i := 1) R R R ld26 R R R ?_)
    refine VR.p R R (VP.assign R) <| VR.nil ?_
    obtain rfl := Option.some.inj hm
    exact VW.ret ⟨.inl R, _, .cons (.cell _ _ _ _ 1 _ _ _ _ R R ld26 R) (.cons (.tmp _ _ R) .nil), [], _, R, R, R⟩
   ·have h12 := bf h12
    refine VW.condF R h12 <| VW.skip <| VW.seq <| VW.region <| VR.p R R (VP.loadP (i := 0) R R ld26 R) ?_
    refine VR.cons R R (VO.storeP (i := 1) R R R ld26 R R R ?_)
    refine VR.p R R (VP.assign R) <| VR.nil ?_
    obtain rfl := Option.some.inj hm
    exact VW.ret ⟨.inl R, _, .cons (.cell _ _ _ _ 1 _ _ _ _ R R ld26 R) (.cons (.tmp _ _ R) .nil), [], _, R, R, R⟩

/-! trireme/triremeref09.Used -/
def ref09_Used.l1 (r : List T_api_Pod) : Nat → Int → Option (Out (T_api_Res × Int) Unit)
 | 0, _ => none
 | n + 1, i2 =>
  if (decide (i2 < (r.length : Int))) = true then
   (V.gl r i2).bind fun x =>
   (ref04_Right x.Need).bind fun r2 =>
   if (!r2) = true then
    some (Out.ret ((⟨(0 : Int), (0 : Int), (0 : Int), (0 : Int), (0 : Int)⟩ : T_api_Res), (12 : Int)))
   else
    ref09_Used.l1 r n (IntKind.i64.wrap (i2 + (1 : Int)))
  else
   some (Out.go ())
def ref09_Used.l2 (r : List T_api_Pod) : Nat → T_api_Res → Int → Option (Out (T_api_Res × Int) T_api_Res)
 | 0, _, _ => none
 | n2 + 1, sum2, i4 =>
  if (decide (i4 < (r.length : Int))) = true then
   (V.gl r i4).bind fun x2 =>
   (ref04_Add sum2 x2.Need).bind fun r3 =>
   if (r3.2 != (0 : Int)) = true then
    some (Out.ret ((⟨(0 : Int), (0 : Int), (0 : Int), (0 : Int), (0 : Int)⟩ : T_api_Res), r3.2))
   else
    ref09_Used.l2 r n2 r3.1 (IntKind.i64.wrap (i4 + (1 : Int)))
  else
   some (Out.go sum2)
def ref09_Used (bs : List T_api_Bound) (name : ByteArray) : Option (T_api_Res × Int) :=
 (ref09_On bs name).bind fun r =>
 (ref09_Used.l1 r FU (0 : Int)).bind fun o =>
 o.on fun j =>
 (ref09_Used.l2 r FU (⟨(0 : Int), (0 : Int), (0 : Int), (0 : Int), (0 : Int)⟩ : T_api_Res) (0 : Int)).bind fun o2 =>
 o2.on fun sum32 =>
 some (sum32, (0 : Int))
theorem ref09_Used_ok (bs : List T_api_Bound) (name : ByteArray) (r : T_api_Res × Int) (hm : ref09_Used bs name = some r) :
  VC Tryz.prog 120 [.list 50 (List.map T_api_Bound.vv bs), .str name] [] (fun zx zH => zx = .tup [T_api_Res.vv r.1, .int .i64 r.2] ∧ zH = []) := by
 unfold ref09_Used at hm
 refine VC.run (c := _) (rs := [.cell 4 26, .tmp 5]) Tryz.func120 R R R <| VW.seq <| VW.region ?_
 refine VR.cons R R (VO.alloc z26 fun b => ?_)
 refine VR.p R R (VP.assign R) <| VR.nil <| VW.seq <| VW.region <| VR.p R R (VP.move R) <| VR.p R R (VP.move R) ?_
 obtain ⟨r, h2, hm⟩ := bnd hm
 refine VR.cons R R (VO.callK 0 R fn148 R (ref09_On_ok bs name r h2) fun _ _ h24 => ?_)
 obtain ⟨ob, cap, rfl, rfl⟩ := h24
 refine VR.shift (Shift.freezeE 0 [(14, .list 48 (List.map T_api_Pod.vv r))] R ⟨⟨_, R, .here _ R⟩, trivial⟩ (FzH.refl _)) <| VR.p R R (VP.assign R) <| VR.nil <| VW.seq <| VW.seq <| VW.region <| VR.p R R (VP.assign R) <| VR.nil ?_
 obtain ⟨o, h4, h5⟩ := bnd hm
 refine VW.joinE (fun (q : Unit) => o = Out.go q) (fun (j : Unit) (gg : Unit) => [(4, .ptr b 0), (6, .list 48 (List.map T_api_Pod.vv r))]) (fun (j : Unit) (gg : Unit) => [.box b 26 (T_api_Res.cells (⟨(0 : Int), (0 : Int), (0 : Int), (0 : Int), (0 : Int)⟩ : T_api_Res))]) ?_ ?_
 ·have hm := h4
  refine VW.block (VW.loop FU ?_)
  refine VL.fuelS (R := _) (fun zn (zs : Int) => ref09_Used.l1 r zn zs) (fun (zs : Int) (zg : Unit) => [(4, .ptr b 0), (6, .list 48 (List.map T_api_Pod.vv r)), (7, .int .i64 zs)]) (fun (zs : Int) (zg : Unit) => [.box b 26 (T_api_Res.cells (⟨(0 : Int), (0 : Int), (0 : Int), (0 : Int), (0 : Int)⟩ : T_api_Res))]) (0 : Int) () (fun zs => R) (Shift.pick [0] R ⟨R, R, R, trivial⟩) h4 ?_
  rintro n i2 _ hm
  rw [ref09_Used.l1] at hm
  refine VW.seq <| VW.seq <| VW.region <| VR.p R R (VP.move R) <| VR.p R R (VP.move R) <| VR.p R R (VP.lenT T_api_Pod.vv R Tryz.underlying24) <| VR.p R R (VP.arith R R R) <| VR.nil ?_
  rcases ite_or hm with ⟨h6, hm⟩ | ⟨h6, hm⟩
  ·refine VW.condT R h6 <| VW.skip <| VW.seq <| VW.block <| VW.seq <| VW.region <| VR.p R R (VP.move R) <| VR.p R R (VP.move R) ?_
   obtain ⟨x, h7, hm⟩ := bnd hm
   refine VR.p R R (VP.glE T_api_Pod.vv R R el24 h7) <| VR.p R R (VP.fieldE R fa48_1) <| VR.p R R (VP.loadE R ld26 R) ?_
   obtain ⟨r2, h8, hm⟩ := bnd hm
   refine VR.cons R R (VO.callK 0 R fn70 R (ref04_Right_ok x.Need r2 h8) fun _ _ h10 => ?_)
   obtain ⟨rfl, rfl⟩ := h10
   refine VR.p R R (VP.not R) <| VR.nil ?_
   rcases ite_or hm with ⟨h9, hm⟩ | ⟨h9, hm⟩
   ·refine VW.condT R h9 <| VW.seq <| VW.region <| VR.p R R (VP.buildP pl26 R R) ?_
    refine VR.cons R R (VO.storeP (i := 0) R R R ld26 R R R ?_)
    refine VR.p R R (VP.assign R) <| VR.nil ?_
    obtain rfl := Option.some.inj hm
    have hm := Out.ret_on h5
    obtain rfl := Option.some.inj hm
    exact VW.ret ⟨.inl R, _, .cons (.cell _ _ _ _ 0 _ _ _ _ R R ld26 R) (.cons (.tmp _ _ R) .nil), [], _, R, R, R⟩
   ·have h9 := bf h9
    refine VW.condF R h9 <| VW.skip <| VW.region <| VR.p R R (VP.move R) <| VR.p R R (VP.arith R R R) <| VR.p R R (VP.assign R) <| VR.nil ?_
    exact ⟨(IntKind.i64.wrap (i2 + (1 : Int))), (), hm, (Shift.pick [0] R ⟨R, R, R, trivial⟩)⟩
  ·have h6 := bf h6
   refine VW.condF R h6 <| VW.exit ?_
   exact ⟨(), (), (Option.some.inj hm).symm, (Shift.pick [0] R ⟨R, R, trivial⟩)⟩
 ·rintro j _ rfl
  have hm := Out.go_on h5
  refine VW.seq <| VW.region <| VR.p R R (VP.buildP pl26 R R) ?_
  refine VR.cons R R (VO.alloc z26 fun b2 => ?_)
  refine VR.cons R R (VO.storeP (i := 0) R R R ld26 R R R ?_)
  refine VR.nil <| VW.seq <| VW.seq <| VW.region <| VR.p R R (VP.assign R) <| VR.nil ?_
  obtain ⟨o2, h12, h13⟩ := bnd hm
  refine VW.joinE (fun (q : T_api_Res) => o2 = Out.go q) (fun (sum32 : T_api_Res) (gg : Unit) => [(4, .ptr b 0), (8, .ptr b2 0)]) (fun (sum32 : T_api_Res) (gg : Unit) => [.box b2 26 (T_api_Res.cells sum32), .box b 26 (T_api_Res.cells (⟨(0 : Int), (0 : Int), (0 : Int), (0 : Int), (0 : Int)⟩ : T_api_Res))]) ?_ ?_
  ·have hm := h12
   refine VW.block (VW.loop FU ?_)
   refine VL.fuelS (R := _) (fun zn (zs : T_api_Res × Int) => ref09_Used.l2 r zn zs.1 zs.2) (fun (zs : T_api_Res × Int) (zg : Unit) => [(4, .ptr b 0), (6, .list 48 (List.map T_api_Pod.vv r)), (8, .ptr b2 0), (9, .int .i64 zs.2)]) (fun (zs : T_api_Res × Int) (zg : Unit) => [.box b2 26 (T_api_Res.cells zs.1), .box b 26 (T_api_Res.cells (⟨(0 : Int), (0 : Int), (0 : Int), (0 : Int), (0 : Int)⟩ : T_api_Res))]) ((⟨(0 : Int), (0 : Int), (0 : Int), (0 : Int), (0 : Int)⟩ : T_api_Res), (0 : Int)) () (fun zs => R) (Shift.pick [0, 0] R ⟨R, R, R, R, trivial⟩) h12 ?_
   rintro n2 ⟨sum2, i4⟩ _ hm
   rw [ref09_Used.l2] at hm
   refine VW.seq <| VW.seq <| VW.region <| VR.p R R (VP.move R) <| VR.p R R (VP.move R) <| VR.p R R (VP.lenT T_api_Pod.vv R Tryz.underlying24) <| VR.p R R (VP.arith R R R) <| VR.nil ?_
   rcases ite_or hm with ⟨h14, hm⟩ | ⟨h14, hm⟩
   ·refine VW.condT R h14 <| VW.skip <| VW.seq <| VW.block <| VW.seq <| VW.drawK 0 mixed <| VA.p 0 R R R (by kernel_rfl) (VP.loadP (i := 0) R R ld26 R) <| VA.p 1 R R R (by kernel_rfl) (VP.move R) <| VA.p 2 R R R (by kernel_rfl) (VP.move R) ?_
    obtain ⟨x2, h15, hm⟩ := bnd hm
    refine VA.p 3 R R R (by kernel_rfl) (VP.glE T_api_Pod.vv R R el24 h15) <| VA.p 4 R R R (by kernel_rfl) (VP.fieldE R fa48_1) <| VA.p 5 R R R (by kernel_rfl) (VP.loadE R ld26 R) ?_
    refine VA.all [6, 10] (by kernel_rfl) ⟨?_, ?_, trivial⟩
    ·obtain ⟨r3, h16, hm⟩ := bnd hm
     refine VB.o R R R (VO.callK 0 R fn153 R (ref04_Add_ok sum2 x2.Need r3 h16) fun _ _ h19 => ?_)
     obtain ⟨rfl, rfl⟩ := h19
     refine VA.p 7 R R R (by kernel_rfl) (VP.move R) <| VA.p 8 R R R (by kernel_rfl) (VP.extract R R) <| VA.p 9 R R R (by kernel_rfl) (VP.extract R R) ?_
     refine VA.all [10] (by kernel_rfl) ⟨?_, trivial⟩
     refine VB.o R R R (VO.alloc z26 fun b3 => ?_)
     refine VA.all [11] (by kernel_rfl) ⟨?_, trivial⟩
     refine VB.o R R R (VO.storeP (i := 0) R R R ld26 R R R ?_)
     refine VA.p 12 R R R (by kernel_rfl) (VP.assign R) <| VA.done (by kernel_rfl) <| VW.seq <| VW.seq <| VW.region <| VR.p R R (VP.move R) <| VR.p R R (VP.arith R R R) <| VR.nil ?_
     rcases ite_or hm with ⟨h18, hm⟩ | ⟨h18, hm⟩
     ·refine VW.condT R h18 <| VW.seq <| VW.region <| VR.p R R (VP.buildP pl26 R R) <| VR.p R R (VP.move R) ?_
      refine VR.cons R R (VO.storeP (i := 2) R R R ld26 R R R ?_)
      refine VR.p R R (VP.assign R) <| VR.nil ?_
      obtain rfl := Option.some.inj hm
      have hm := Out.ret_on h13
      obtain rfl := Option.some.inj hm
      exact VW.ret ⟨.inl R, _, .cons (.cell _ _ _ _ 2 _ _ _ _ R R ld26 R) (.cons (.tmp _ _ R) .nil), [], _, R, R, R⟩
     ·have h18 := bf h18
      refine VW.condF R h18 <| VW.skip <| VW.region <| VR.p R R (VP.loadP (i := 0) R R ld26 R) ?_
      refine VR.cons R R (VO.storeP (i := 1) R R R ld26 R R R ?_)
      refine VR.nil <| VW.region <| VR.p R R (VP.move R) <| VR.p R R (VP.arith R R R) <| VR.p R R (VP.assign R) <| VR.nil ?_
      exact ⟨(r3.1, (IntKind.i64.wrap (i4 + (1 : Int)))), (), hm, (Shift.pick [1, 1] R ⟨R, R, R, R, trivial⟩)⟩
    ·refine VB.o R R R (VO.alloc z26 fun b4 => ?_)
     refine VA.all [6] (by kernel_rfl) ⟨?_, trivial⟩
     obtain ⟨r4, h21, hm⟩ := bnd hm
     refine VB.o R R R (VO.callK 0 R fn153 R (ref04_Add_ok sum2 x2.Need r4 h21) fun _ _ h23 => ?_)
     obtain ⟨rfl, rfl⟩ := h23
     refine VA.p 7 R R R (by kernel_rfl) (VP.move R) <| VA.p 8 R R R (by kernel_rfl) (VP.extract R R) <| VA.p 9 R R R (by kernel_rfl) (VP.extract R R) ?_
     refine VA.all [11] (by kernel_rfl) ⟨?_, trivial⟩
     refine VB.o R R R (VO.storeP (i := 0) R R R ld26 R R R ?_)
     refine VA.p 12 R R R (by kernel_rfl) (VP.assign R) <| VA.done (by kernel_rfl) <| VW.seq <| VW.seq <| VW.region <| VR.p R R (VP.move R) <| VR.p R R (VP.arith R R R) <| VR.nil ?_
     rcases ite_or hm with ⟨h22, hm⟩ | ⟨h22, hm⟩
     ·refine VW.condT R h22 <| VW.seq <| VW.region <| VR.p R R (VP.buildP pl26 R R) <| VR.p R R (VP.move R) ?_
      refine VR.cons R R (VO.storeP (i := 2) R R R ld26 R R R ?_)
      refine VR.p R R (VP.assign R) <| VR.nil ?_
      obtain rfl := Option.some.inj hm
      have hm := Out.ret_on h13
      obtain rfl := Option.some.inj hm
      exact VW.ret ⟨.inl R, _, .cons (.cell _ _ _ _ 2 _ _ _ _ R R ld26 R) (.cons (.tmp _ _ R) .nil), [], _, R, R, R⟩
     ·have h22 := bf h22
      refine VW.condF R h22 <| VW.skip <| VW.region <| VR.p R R (VP.loadP (i := 0) R R ld26 R) ?_
      refine VR.cons R R (VO.storeP (i := 1) R R R ld26 R R R ?_)
      refine VR.nil <| VW.region <| VR.p R R (VP.move R) <| VR.p R R (VP.arith R R R) <| VR.p R R (VP.assign R) <| VR.nil ?_
      exact ⟨(r4.1, (IntKind.i64.wrap (i4 + (1 : Int)))), (), hm, (Shift.pick [1, 1] R ⟨R, R, R, R, trivial⟩)⟩
   ·have h14 := bf h14
    refine VW.condF R h14 <| VW.exit ?_
    exact ⟨sum2, (), (Option.some.inj hm).symm, (Shift.pick [0, 0] R ⟨R, R, trivial⟩)⟩
  ·rintro sum32 _ rfl
   have hm := Out.go_on h13
   refine VW.seq <| VW.region <| VR.p R R (VP.loadP (i := 0) R R ld26 R) ?_
   refine VR.cons R R (VO.storeP (i := 1) R R R ld26 R R R ?_)
   refine VR.p R R (VP.assign R) <| VR.nil ?_
   obtain rfl := Option.some.inj hm
   exact VW.ret ⟨.inl R, _, .cons (.cell _ _ _ _ 1 _ _ _ _ R R ld26 R) (.cons (.tmp _ _ R) .nil), [], _, R, R, R⟩

/-! trireme/triremeref09.Left -/
def ref09_Left (m : T_api_Machine) (bs : List T_api_Bound) : Option T_api_Res :=
 (ref09_Used bs m.Name).bind fun r =>
 (if (r.2 != (0 : Int)) = true then some true else (ref04_Right m.Has).bind fun r2 =>
 some (!r2)).bind fun c =>
 if c = true then
  some (⟨(0 : Int), (0 : Int), (0 : Int), (0 : Int), (0 : Int)⟩ : T_api_Res)
 else
  some (⟨(max (0 : Int) (IntKind.i64.wrap (m.Has.Cpu - r.1.Cpu))), (max (0 : Int) (IntKind.i64.wrap (m.Has.Mem - r.1.Mem))), (max (0 : Int) (IntKind.i64.wrap (m.Has.Disk - r.1.Disk))), (max (0 : Int) (IntKind.i64.wrap (m.Has.Pods - r.1.Pods))), (max (0 : Int) (IntKind.i64.wrap (m.Has.Dev - r.1.Dev)))⟩ : T_api_Res)
theorem ref09_Left_ok (m : T_api_Machine) (bs : List T_api_Bound) (r : T_api_Res) (hm : ref09_Left m bs = some r) :
  VC Tryz.prog 147 [T_api_Machine.vv m, .list 50 (List.map T_api_Bound.vv bs)] [] (fun zx zH => zx = T_api_Res.vv r ∧ zH = []) := by
 unfold ref09_Left at hm
 refine VC.run (c := _) (rs := [.cell 4 26]) Tryz.func147 R R R <| VW.seq <| VW.region ?_
 refine VR.cons R R (VO.box R R fun b => ?_)
 refine VR.cons R R (VO.alloc z26 fun b2 => ?_)
 refine VR.nil <| VW.seq <| VW.region <| VR.p R R (VP.move R) <| VR.p R R (VP.fieldP R fa30_0) <| VR.p R R (VP.loadP (i := 1) R R ld9 R) ?_
 obtain ⟨r, h3, hm⟩ := bnd hm
 refine VR.cons R R (VO.callK 0 R fn120 R (ref09_Used_ok bs m.Name r h3) fun _ _ h11 => ?_)
 obtain ⟨rfl, rfl⟩ := h11
 refine VR.p R R (VP.move R) <| VR.p R R (VP.extract R R) <| VR.p R R (VP.extract R R) ?_
 refine VR.cons R R (VO.alloc z26 fun b3 => ?_)
 refine VR.cons R R (VO.storeP (i := 0) R R R ld26 R R R ?_)
 refine VR.p R R (VP.assign R) <| VR.nil <| VW.seq <| VW.seq <| VW.region <| VR.p R R (VP.move R) <| VR.p R R (VP.arith R R R) <| VR.p R R (VP.move R) ?_
 obtain ⟨c, h8, hm⟩ := bnd hm
 refine VR.sc 5 22 (.bool c) (fun K' J => ?_) ?_
 ·have hm := h8
  rcases ite_or hm with ⟨h5, hm⟩ | ⟨h5, hm⟩
  ·refine VR.skipG R R R R h5 <| VR.skipG R R R R h5 <| VR.skipG R R R R h5 <| VR.skipG R R R R h5 <| VR.p R R (VP.pickB true R h5 R) ?_
   exact J [_, _, _, _] _ R (congrArg VV.bool (Option.some.inj hm))
  ·have h5 := bf h5
   refine VR.pG R R R R h5 (VP.fieldP R fa30_2) <| VR.pG R R R R h5 (VP.loadP (i := 2) R R ld26 R) ?_
   obtain ⟨r2, h6, hm⟩ := bnd hm
   refine VR.consG R R R R h5 (VO.callK 0 R fn70 R (ref04_Right_ok m.Has r2 h6) fun _ _ h7 => ?_)
   obtain ⟨rfl, rfl⟩ := h7
   refine VR.pG R R R R h5 (VP.not R) <| VR.p R R (VP.pickB false R h5 R) ?_
   exact J [_, _, _, _] _ R (congrArg VV.bool (Option.some.inj hm))
 ·refine VR.nil ?_
  rcases ite_or hm with ⟨h9, hm⟩ | ⟨h9, hm⟩
  ·refine VW.condT R h9 <| VW.seq <| VW.region <| VR.p R R (VP.buildP pl26 R R) ?_
   refine VR.cons R R (VO.storeP (i := 1) R R R ld26 R R R ?_)
   refine VR.nil ?_
   obtain rfl := Option.some.inj hm
   exact VW.ret ⟨.inl R, _, .cons (.cell _ _ _ _ 1 _ _ _ _ R R ld26 R) .nil, [], _, R, R, R⟩
  ·have h9 := bf h9
   refine VW.condF R h9 <| VW.skip <| VW.seq <| VW.region <| VR.p R R (VP.fieldP R fa30_2) <| VR.p R R (VP.loadP (i := 2) R R ld26 R) ?_
   refine VR.cons R R (VO.alloc z26 fun b4 => ?_)
   refine VR.cons R R (VO.storeP (i := 0) R R R ld26 R R R ?_)
   refine VR.nil <| VW.seq <| VW.region <| VR.p R R (VP.fieldP R fa26_0) <| VR.p R R (VP.loadP (i := 0) R R ld3 R) <| VR.p R R (VP.fieldP R fa26_0) <| VR.p R R (VP.loadP (i := 1) R R ld3 R) <| VR.p R R (VP.arith R R R) <| VR.p R R (VP.max2 R R) <| VR.p R R (VP.fieldP R fa26_1) <| VR.p R R (VP.loadP (i := 0) R R ld3 R) <| VR.p R R (VP.fieldP R fa26_1) <| VR.p R R (VP.loadP (i := 1) R R ld3 R) <| VR.p R R (VP.arith R R R) <| VR.p R R (VP.max2 R R) <| VR.p R R (VP.fieldP R fa26_2) <| VR.p R R (VP.loadP (i := 0) R R ld3 R) <| VR.p R R (VP.fieldP R fa26_2) <| VR.p R R (VP.loadP (i := 1) R R ld3 R) <| VR.p R R (VP.arith R R R) <| VR.p R R (VP.max2 R R) <| VR.p R R (VP.fieldP R fa26_3) <| VR.p R R (VP.loadP (i := 0) R R ld3 R) <| VR.p R R (VP.fieldP R fa26_3) <| VR.p R R (VP.loadP (i := 1) R R ld3 R) <| VR.p R R (VP.arith R R R) <| VR.p R R (VP.max2 R R) <| VR.p R R (VP.fieldP R fa26_4) <| VR.p R R (VP.loadP (i := 0) R R ld3 R) <| VR.p R R (VP.fieldP R fa26_4) <| VR.p R R (VP.loadP (i := 1) R R ld3 R) <| VR.p R R (VP.arith R R R) <| VR.p R R (VP.max2 R R) <| VR.p R R (VP.buildP pl26 R R) ?_
   refine VR.cons R R (VO.storeP (i := 2) R R R ld26 R R R ?_)
   refine VR.nil ?_
   obtain rfl := Option.some.inj hm
   exact VW.ret ⟨.inl R, _, .cons (.cell _ _ _ _ 2 _ _ _ _ R R ld26 R) .nil, [], _, R, R, R⟩

/-! trireme/triremeref04.Fits -/
def ref04_Fits (a : T_api_Res) (b : T_api_Res) : Option Bool :=
 (ref04_Right a).bind fun r =>
 (if r = true then (ref04_Right b).bind fun r2 =>
 some r2 else some false).bind fun c =>
 some (((((c && (decide (a.Cpu ≤ b.Cpu))) && (decide (a.Mem ≤ b.Mem))) && (decide (a.Disk ≤ b.Disk))) && (decide (a.Pods ≤ b.Pods))) && (decide (a.Dev ≤ b.Dev)))
theorem ref04_Fits_ok (a : T_api_Res) (b : T_api_Res) (r : Bool) (hm : ref04_Fits a b = some r) :
  VC Tryz.prog 146 [T_api_Res.vv a, T_api_Res.vv b] [] (fun zx zH => zx = .bool r ∧ zH = []) := by
 unfold ref04_Fits at hm
 refine VC.run (c := _) (rs := [.tmp 4]) Tryz.func146 R R R <| VW.seq <| VW.region ?_
 refine VR.cons R R (VO.box R R fun b2 => ?_)
 refine VR.cons R R (VO.box R R fun b3 => ?_)
 refine VR.p R R (VP.assign R) <| VR.nil <| VW.seq <| VW.region <| VR.p R R (VP.loadP (i := 1) R R ld26 R) ?_
 obtain ⟨r, h3, hm⟩ := bnd hm
 refine VR.cons R R (VO.callK 0 R fn70 R (ref04_Right_ok a r h3) fun _ _ h13 => ?_)
 obtain ⟨rfl, rfl⟩ := h13
 refine VR.p R R (VP.move R) ?_
 obtain ⟨c, h7, hm⟩ := bnd hm
 refine VR.sc 3 10 (.bool c) (fun K' J => ?_) ?_
 ·have hm := h7
  rcases ite_or hm with ⟨h4, hm⟩ | ⟨h4, hm⟩
  ·refine VR.pG R R R R h4 (VP.loadP (i := 0) R R ld26 R) ?_
   obtain ⟨r2, h5, hm⟩ := bnd hm
   refine VR.consG R R R R h4 (VO.callK 0 R fn70 R (ref04_Right_ok b r2 h5) fun _ _ h6 => ?_)
   obtain ⟨rfl, rfl⟩ := h6
   refine VR.p R R (VP.pickB true R h4 R) ?_
   exact J [_, _] _ R (congrArg VV.bool (Option.some.inj hm))
  ·have h4 := bf h4
   refine VR.skipG R R R R h4 <| VR.skipG R R R R h4 <| VR.p R R (VP.pickB false R h4 R) ?_
   exact J [_, _] _ R (congrArg VV.bool (Option.some.inj hm))
 ·refine VR.p R R (VP.move R) ?_
  refine VR.sc 6 17 (.bool (c && (decide (a.Cpu ≤ b.Cpu)))) (fun K' J => ?_) ?_
  ·rcases Bool.eq_false_or_eq_true c with h8 | h8
   ·refine VR.pG R R R R h8 (VP.fieldP R fa26_0) <| VR.pG R R R R h8 (VP.loadP (i := 1) R R ld3 R) <| VR.pG R R R R h8 (VP.fieldP R fa26_0) <| VR.pG R R R R h8 (VP.loadP (i := 0) R R ld3 R) <| VR.pG R R R R h8 (VP.arith R R R) <| VR.p R R (VP.pickB true R h8 R) ?_
    exact J [_, _, _, _, _] _ R (andT h8)
   ·refine VR.skipG R R R R h8 <| VR.skipG R R R R h8 <| VR.skipG R R R R h8 <| VR.skipG R R R R h8 <| VR.skipG R R R R h8 <| VR.p R R (VP.pickB false R h8 R) ?_
    exact J [_, _, _, _, _] _ R (andF h8)
  ·refine VR.p R R (VP.move R) ?_
   refine VR.sc 6 24 (.bool ((c && (decide (a.Cpu ≤ b.Cpu))) && (decide (a.Mem ≤ b.Mem)))) (fun K' J => ?_) ?_
   ·rcases Bool.eq_false_or_eq_true (c && (decide (a.Cpu ≤ b.Cpu))) with h9 | h9
    ·refine VR.pG R R R R h9 (VP.fieldP R fa26_1) <| VR.pG R R R R h9 (VP.loadP (i := 1) R R ld3 R) <| VR.pG R R R R h9 (VP.fieldP R fa26_1) <| VR.pG R R R R h9 (VP.loadP (i := 0) R R ld3 R) <| VR.pG R R R R h9 (VP.arith R R R) <| VR.p R R (VP.pickB true R h9 R) ?_
     exact J [_, _, _, _, _] _ R (andT h9)
    ·refine VR.skipG R R R R h9 <| VR.skipG R R R R h9 <| VR.skipG R R R R h9 <| VR.skipG R R R R h9 <| VR.skipG R R R R h9 <| VR.p R R (VP.pickB false R h9 R) ?_
     exact J [_, _, _, _, _] _ R (andF h9)
   ·refine VR.p R R (VP.move R) ?_
    refine VR.sc 6 31 (.bool (((c && (decide (a.Cpu ≤ b.Cpu))) && (decide (a.Mem ≤ b.Mem))) && (decide (a.Disk ≤ b.Disk)))) (fun K' J => ?_) ?_
    ·rcases Bool.eq_false_or_eq_true ((c && (decide (a.Cpu ≤ b.Cpu))) && (decide (a.Mem ≤ b.Mem))) with h10 | h10
     ·refine VR.pG R R R R h10 (VP.fieldP R fa26_2) <| VR.pG R R R R h10 (VP.loadP (i := 1) R R ld3 R) <| VR.pG R R R R h10 (VP.fieldP R fa26_2) <| VR.pG R R R R h10 (VP.loadP (i := 0) R R ld3 R) <| VR.pG R R R R h10 (VP.arith R R R) <| VR.p R R (VP.pickB true R h10 R) ?_
      exact J [_, _, _, _, _] _ R (andT h10)
     ·refine VR.skipG R R R R h10 <| VR.skipG R R R R h10 <| VR.skipG R R R R h10 <| VR.skipG R R R R h10 <| VR.skipG R R R R h10 <| VR.p R R (VP.pickB false R h10 R) ?_
      exact J [_, _, _, _, _] _ R (andF h10)
    ·refine VR.p R R (VP.move R) ?_
     refine VR.sc 6 38 (.bool ((((c && (decide (a.Cpu ≤ b.Cpu))) && (decide (a.Mem ≤ b.Mem))) && (decide (a.Disk ≤ b.Disk))) && (decide (a.Pods ≤ b.Pods)))) (fun K' J => ?_) ?_
     ·rcases Bool.eq_false_or_eq_true (((c && (decide (a.Cpu ≤ b.Cpu))) && (decide (a.Mem ≤ b.Mem))) && (decide (a.Disk ≤ b.Disk))) with h11 | h11
      ·refine VR.pG R R R R h11 (VP.fieldP R fa26_3) <| VR.pG R R R R h11 (VP.loadP (i := 1) R R ld3 R) <| VR.pG R R R R h11 (VP.fieldP R fa26_3) <| VR.pG R R R R h11 (VP.loadP (i := 0) R R ld3 R) <| VR.pG R R R R h11 (VP.arith R R R) <| VR.p R R (VP.pickB true R h11 R) ?_
       exact J [_, _, _, _, _] _ R (andT h11)
      ·refine VR.skipG R R R R h11 <| VR.skipG R R R R h11 <| VR.skipG R R R R h11 <| VR.skipG R R R R h11 <| VR.skipG R R R R h11 <| VR.p R R (VP.pickB false R h11 R) ?_
       exact J [_, _, _, _, _] _ R (andF h11)
     ·refine VR.p R R (VP.move R) ?_
      refine VR.sc 6 45 (.bool (((((c && (decide (a.Cpu ≤ b.Cpu))) && (decide (a.Mem ≤ b.Mem))) && (decide (a.Disk ≤ b.Disk))) && (decide (a.Pods ≤ b.Pods))) && (decide (a.Dev ≤ b.Dev)))) (fun K' J => ?_) ?_
      ·rcases Bool.eq_false_or_eq_true ((((c && (decide (a.Cpu ≤ b.Cpu))) && (decide (a.Mem ≤ b.Mem))) && (decide (a.Disk ≤ b.Disk))) && (decide (a.Pods ≤ b.Pods))) with h12 | h12
       ·refine VR.pG R R R R h12 (VP.fieldP R fa26_4) <| VR.pG R R R R h12 (VP.loadP (i := 1) R R ld3 R) <| VR.pG R R R R h12 (VP.fieldP R fa26_4) <| VR.pG R R R R h12 (VP.loadP (i := 0) R R ld3 R) <| VR.pG R R R R h12 (VP.arith R R R) <| VR.p R R (VP.pickB true R h12 R) ?_
        exact J [_, _, _, _, _] _ R (andT h12)
       ·refine VR.skipG R R R R h12 <| VR.skipG R R R R h12 <| VR.skipG R R R R h12 <| VR.skipG R R R R h12 <| VR.skipG R R R R h12 <| VR.p R R (VP.pickB false R h12 R) ?_
        exact J [_, _, _, _, _] _ R (andF h12)
      ·refine VR.p R R (VP.assign R) <| VR.nil ?_
       obtain rfl := Option.some.inj hm
       exact VW.ret ⟨.inl R, _, .cons (.tmp _ _ R) .nil, [], _, R, R, R⟩

/-! trireme/triremeref10.Room -/
def ref10_Room.l3 (p : T_api_Pod) (r4 : List T_api_Pod) (i2 : Int) (k2 : Int) : Nat → Int → Option (Out (Out (Out Int Unit) Unit) Unit)
 | 0, _ => none
 | n3 + 1, j4 =>
  if (decide (j4 < (p.Ports.length : Int))) = true then
   (V.gl r4 i2).bind fun x2 =>
   (V.gl x2.Ports k2).bind fun x3 =>
   (V.gl p.Ports j4).bind fun x4 =>
   if (x3 == x4) = true then
    some (Out.ret (Out.ret (Out.ret (3 : Int))))
   else
    ref10_Room.l3 p r4 i2 k2 n3 (IntKind.i64.wrap (j4 + (1 : Int)))
  else
   some (Out.go ())
def ref10_Room.l2 (p : T_api_Pod) (r4 : List T_api_Pod) (i2 : Int) : Nat → Int → Option (Out (Out Int Unit) Unit)
 | 0, _ => none
 | n2 + 1, k2 =>
  (V.gl r4 i2).bind fun x =>
  if (decide (k2 < (x.Ports.length : Int))) = true then
   (ref10_Room.l3 p r4 i2 k2 FU (0 : Int)).bind fun o3 =>
   o3.on fun j5 =>
   ref10_Room.l2 p r4 i2 n2 (IntKind.i64.wrap (k2 + (1 : Int)))
  else
   some (Out.go ())
def ref10_Room.l1 (p : T_api_Pod) (r4 : List T_api_Pod) : Nat → Int → Option (Out Int Unit)
 | 0, _ => none
 | n + 1, i2 =>
  if (decide (i2 < (r4.length : Int))) = true then
   (ref10_Room.l2 p r4 i2 FU (0 : Int)).bind fun o2 =>
   o2.on fun j2 =>
   ref10_Room.l1 p r4 n (IntKind.i64.wrap (i2 + (1 : Int)))
  else
   some (Out.go ())
def ref10_Room (m : T_api_Machine) (bs : List T_api_Bound) (p : T_api_Pod) : Option Int :=
 (ref10_Others bs p.Name).bind fun r =>
 (ref09_Left m r).bind fun r2 =>
 (ref04_Fits p.Need r2).bind fun r3 =>
 if (!r3) = true then
  some (2 : Int)
 else
  (ref09_On r m.Name).bind fun r4 =>
  (ref10_Room.l1 p r4 FU (0 : Int)).bind fun o =>
  o.on fun j =>
  some (0 : Int)
theorem ref10_Room_ok (m : T_api_Machine) (bs : List T_api_Bound) (p : T_api_Pod) (r : Int) (hm : ref10_Room m bs p = some r) :
  VC Tryz.prog 116 [T_api_Machine.vv m, .list 50 (List.map T_api_Bound.vv bs), T_api_Pod.vv p] [] (fun zx zH => zx = .int .i64 r ∧ zH = []) := by
 unfold ref10_Room at hm
 refine VC.run (c := _) (rs := [.tmp 6]) Tryz.func116 R R R <| VW.seq <| VW.region ?_
 refine VR.cons R R (VO.box R R fun b => ?_)
 refine VR.cons R R (VO.box R R fun b2 => ?_)
 refine VR.p R R (VP.assign R) <| VR.nil <| VW.seq <| VW.region <| VR.p R R (VP.move R) <| VR.p R R (VP.fieldP R fa48_0) <| VR.p R R (VP.loadP (i := 0) R R ld9 R) ?_
 obtain ⟨r, h3, hm⟩ := bnd hm
 refine VR.cons R R (VO.callK 0 R fn62 R (ref10_Others_ok bs p.Name r h3) fun _ _ h27 => ?_)
 obtain ⟨ob, cap, rfl, rfl⟩ := h27
 refine VR.shift (Shift.freezeE 0 [(15, .list 50 (List.map T_api_Bound.vv r))] R ⟨⟨_, R, .here _ R⟩, trivial⟩ (FzH.refl _)) <| VR.p R R (VP.assign R) <| VR.nil <| VW.seq <| VW.seq <| VW.drawK 0 mixed <| VA.p 0 R R R (by kernel_rfl) (VP.fieldP R fa48_1) <| VA.p 1 R R R (by kernel_rfl) (VP.loadP (i := 0) R R ld26 R) <| VA.p 2 R R R (by kernel_rfl) (VP.loadP (i := 1) R R ld30 R) <| VA.p 3 R R R (by kernel_rfl) (VP.move R) ?_
 refine VA.all [4] (by kernel_rfl) ⟨?_, trivial⟩
 obtain ⟨r2, h5, hm⟩ := bnd hm
 refine VB.o R R R (VO.callK 0 R fn147 R (ref09_Left_ok m r r2 h5) fun _ _ h26 => ?_)
 obtain ⟨rfl, rfl⟩ := h26
 refine VA.all [5] (by kernel_rfl) ⟨?_, trivial⟩
 obtain ⟨r3, h6, hm⟩ := bnd hm
 refine VB.o R R R (VO.callK 0 R fn146 R (ref04_Fits_ok p.Need r2 r3 h6) fun _ _ h25 => ?_)
 obtain ⟨rfl, rfl⟩ := h25
 refine VA.p 6 R R R (by kernel_rfl) (VP.not R) <| VA.done (by kernel_rfl) ?_
 rcases ite_or hm with ⟨h7, hm⟩ | ⟨h7, hm⟩
 ·refine VW.condT R h7 <| VW.seq <| VW.region <| VR.p R R (VP.assign R) <| VR.nil ?_
  obtain rfl := Option.some.inj hm
  exact VW.ret ⟨.inl R, _, .cons (.tmp _ _ R) .nil, [], _, R, R, R⟩
 ·have h7 := bf h7
  refine VW.condF R h7 <| VW.skip <| VW.seq <| VW.region <| VR.p R R (VP.move R) <| VR.p R R (VP.fieldP R fa30_0) <| VR.p R R (VP.loadP (i := 1) R R ld9 R) ?_
  obtain ⟨r4, h8, hm⟩ := bnd hm
  refine VR.cons R R (VO.callK 0 R fn148 R (ref09_On_ok r m.Name r4 h8) fun _ _ h24 => ?_)
  obtain ⟨ob2, cap2, rfl, rfl⟩ := h24
  refine VR.shift (Shift.freezeE 0 [(26, .list 48 (List.map T_api_Pod.vv r4))] R ⟨⟨_, R, .here _ R⟩, trivial⟩ (FzH.refl _)) <| VR.p R R (VP.assign R) <| VR.nil <| VW.seq <| VW.seq <| VW.region <| VR.p R R (VP.assign R) <| VR.nil ?_
  obtain ⟨o, h10, h11⟩ := bnd hm
  refine VW.joinE (fun (q : Unit) => o = Out.go q) (fun (j : Unit) (gg : Unit) => []) (fun (j : Unit) (gg : Unit) => []) ?_ ?_
  ·have hm := h10
   refine VW.block (VW.loop FU ?_)
   refine VL.fuelS (R := _) (fun zn (zs : Int) => ref10_Room.l1 p r4 zn zs) (fun (zs : Int) (zg : Unit) => [(5, .ptr b2 0), (8, .list 48 (List.map T_api_Pod.vv r4)), (9, .int .i64 zs)]) (fun (zs : Int) (zg : Unit) => [.box b2 48 (T_api_Pod.cells p)]) (0 : Int) () (fun zs => R) (Shift.pick [0] R ⟨R, R, R, trivial⟩) h10 ?_
   rintro n i2 _ hm
   rw [ref10_Room.l1] at hm
   refine VW.seq <| VW.seq <| VW.region <| VR.p R R (VP.move R) <| VR.p R R (VP.move R) <| VR.p R R (VP.lenT T_api_Pod.vv R Tryz.underlying24) <| VR.p R R (VP.arith R R R) <| VR.nil ?_
   rcases ite_or hm with ⟨h12, hm⟩ | ⟨h12, hm⟩
   ·refine VW.condT R h12 <| VW.skip <| VW.seq <| VW.block <| VW.seq <| VW.region <| VR.p R R (VP.assign R) <| VR.nil ?_
    obtain ⟨o2, h13, h14⟩ := bnd hm
    refine VW.joinE (fun (q : Unit) => o2 = Out.go q) (fun (j2 : Unit) (gg : Unit) => [(5, .ptr b2 0), (8, .list 48 (List.map T_api_Pod.vv r4)), (9, .int .i64 i2)]) (fun (j2 : Unit) (gg : Unit) => [.box b2 48 (T_api_Pod.cells p)]) ?_ ?_
    ·have hm := h13
     refine VW.block (VW.loop FU ?_)
     refine VL.fuelS (R := _) (fun zn (zs : Int) => ref10_Room.l2 p r4 i2 zn zs) (fun (zs : Int) (zg : Unit) => [(5, .ptr b2 0), (8, .list 48 (List.map T_api_Pod.vv r4)), (9, .int .i64 i2), (10, .int .i64 zs)]) (fun (zs : Int) (zg : Unit) => [.box b2 48 (T_api_Pod.cells p)]) (0 : Int) () (fun zs => R) (Shift.pick [0] R ⟨R, R, R, R, trivial⟩) h13 ?_
     rintro n2 k2 _ hm
     rw [ref10_Room.l2] at hm
     refine VW.seq <| VW.seq <| VW.region <| VR.p R R (VP.move R) <| VR.p R R (VP.move R) <| VR.p R R (VP.move R) ?_
     obtain ⟨x, h15, hm⟩ := bnd hm
     refine VR.p R R (VP.glE T_api_Pod.vv R R el24 h15) <| VR.p R R (VP.fieldE R fa48_6) <| VR.p R R (VP.loadE R ld41 R) <| VR.p R R (VP.lenT (VV.int .i64) R Tryz.underlying41) <| VR.p R R (VP.arith R R R) <| VR.nil ?_
     rcases ite_or hm with ⟨h16, hm⟩ | ⟨h16, hm⟩
     ·refine VW.condT R h16 <| VW.skip <| VW.seq <| VW.block <| VW.seq <| VW.region <| VR.p R R (VP.assign R) <| VR.nil ?_
      obtain ⟨o3, h17, h18⟩ := bnd hm
      refine VW.joinE (fun (q : Unit) => o3 = Out.go q) (fun (j5 : Unit) (gg : Unit) => [(5, .ptr b2 0), (8, .list 48 (List.map T_api_Pod.vv r4)), (9, .int .i64 i2), (10, .int .i64 k2)]) (fun (j5 : Unit) (gg : Unit) => [.box b2 48 (T_api_Pod.cells p)]) ?_ ?_
      ·have hm := h17
       refine VW.block (VW.loop FU ?_)
       refine VL.fuelS (R := _) (fun zn (zs : Int) => ref10_Room.l3 p r4 i2 k2 zn zs) (fun (zs : Int) (zg : Unit) => [(5, .ptr b2 0), (8, .list 48 (List.map T_api_Pod.vv r4)), (9, .int .i64 i2), (10, .int .i64 k2), (11, .int .i64 zs)]) (fun (zs : Int) (zg : Unit) => [.box b2 48 (T_api_Pod.cells p)]) (0 : Int) () (fun zs => R) (Shift.pick [0] R ⟨R, R, R, R, R, trivial⟩) h17 ?_
       rintro n3 j4 _ hm
       rw [ref10_Room.l3] at hm
       refine VW.seq <| VW.seq <| VW.region <| VR.p R R (VP.move R) <| VR.p R R (VP.fieldP R fa48_6) <| VR.p R R (VP.loadP (i := 0) R R ld41 R) <| VR.p R R (VP.lenT (VV.int .i64) R Tryz.underlying41) <| VR.p R R (VP.arith R R R) <| VR.nil ?_
       rcases ite_or hm with ⟨h19, hm⟩ | ⟨h19, hm⟩
       ·refine VW.condT R h19 <| VW.skip <| VW.seq <| VW.block <| VW.seq <| VW.drawK 0 mixed <| VA.p 0 R R R (by kernel_rfl) (VP.move R) <| VA.p 1 R R R (by kernel_rfl) (VP.move R) ?_
        obtain ⟨x2, h20, hm⟩ := bnd hm
        refine VA.p 2 R R R (by kernel_rfl) (VP.glE T_api_Pod.vv R R el24 h20) <| VA.p 3 R R R (by kernel_rfl) (VP.fieldE R fa48_6) <| VA.p 4 R R R (by kernel_rfl) (VP.loadE R ld41 R) <| VA.p 5 R R R (by kernel_rfl) (VP.move R) ?_
        obtain ⟨x3, h21, hm⟩ := bnd hm
        refine VA.p 6 R R R (by kernel_rfl) (VP.glE (VV.int .i64) R R el41 h21) <| VA.p 7 R R R (by kernel_rfl) (VP.loadE R ld3 R) <| VA.p 8 R R R (by kernel_rfl) (VP.fieldP R fa48_6) <| VA.p 9 R R R (by kernel_rfl) (VP.loadP (i := 0) R R ld41 R) <| VA.p 10 R R R (by kernel_rfl) (VP.move R) ?_
        obtain ⟨x4, h22, hm⟩ := bnd hm
        refine VA.p 11 R R R (by kernel_rfl) (VP.glE (VV.int .i64) R R el41 h22) <| VA.p 12 R R R (by kernel_rfl) (VP.loadE R ld3 R) <| VA.p 13 R R R (by kernel_rfl) (VP.arith R R R) <| VA.done (by kernel_rfl) ?_
        rcases ite_or hm with ⟨h23, hm⟩ | ⟨h23, hm⟩
        ·refine VW.condT R h23 <| VW.seq <| VW.region <| VR.p R R (VP.assign R) <| VR.nil ?_
         obtain rfl := Option.some.inj hm
         have hm := Out.ret_on h18
         obtain rfl := Option.some.inj hm
         have hm := Out.ret_on h14
         obtain rfl := Option.some.inj hm
         have hm := Out.ret_on h11
         obtain rfl := Option.some.inj hm
         exact VW.ret ⟨.inl R, _, .cons (.tmp _ _ R) .nil, [], _, R, R, R⟩
        ·have h23 := bf h23
         refine VW.condF R h23 <| VW.skip <| VW.region <| VR.p R R (VP.move R) <| VR.p R R (VP.arith R R R) <| VR.p R R (VP.assign R) <| VR.nil ?_
         exact ⟨(IntKind.i64.wrap (j4 + (1 : Int))), (), hm, (Shift.pick [0] R ⟨R, R, R, R, R, trivial⟩)⟩
       ·have h19 := bf h19
        refine VW.condF R h19 <| VW.exit ?_
        exact ⟨(), (), (Option.some.inj hm).symm, (Shift.pick [0] R ⟨R, R, R, R, trivial⟩)⟩
      ·rintro j5 _ rfl
       have hm := Out.go_on h18
       refine VW.region <| VR.p R R (VP.move R) <| VR.p R R (VP.arith R R R) <| VR.p R R (VP.assign R) <| VR.nil ?_
       exact ⟨(IntKind.i64.wrap (k2 + (1 : Int))), (), hm, (Shift.pick [0] R ⟨R, R, R, R, trivial⟩)⟩
     ·have h16 := bf h16
      refine VW.condF R h16 <| VW.exit ?_
      exact ⟨(), (), (Option.some.inj hm).symm, (Shift.pick [0] R ⟨R, R, R, trivial⟩)⟩
    ·rintro j2 _ rfl
     have hm := Out.go_on h14
     refine VW.region <| VR.p R R (VP.move R) <| VR.p R R (VP.arith R R R) <| VR.p R R (VP.assign R) <| VR.nil ?_
     exact ⟨(IntKind.i64.wrap (i2 + (1 : Int))), (), hm, (Shift.pick [0] R ⟨R, R, R, trivial⟩)⟩
   ·have h12 := bf h12
    refine VW.condF R h12 <| VW.exit ?_
    exact ⟨(), (), (Option.some.inj hm).symm, (Shift.pick [] R trivial)⟩
  ·rintro j _ rfl
   have hm := Out.go_on h11
   refine VW.seq <| VW.region <| VR.p R R (VP.assign R) <| VR.nil ?_
   obtain rfl := Option.some.inj hm
   exact VW.ret ⟨.inl R, _, .cons (.tmp _ _ R) .nil, [], _, R, R, R⟩

/-! trireme/triremeref10.Suits -/
def ref10_Suits (m : T_api_Machine) (bs : List T_api_Bound) (p : T_api_Pod) : Option Int :=
 (ref10_Place m p).bind fun r =>
 if (r != (0 : Int)) = true then
  some r
 else
  (ref10_Room m bs p).bind fun r2 =>
  some r2
theorem ref10_Suits_ok (m : T_api_Machine) (bs : List T_api_Bound) (p : T_api_Pod) (r : Int) (hm : ref10_Suits m bs p = some r) :
  VC Tryz.prog 81 [T_api_Machine.vv m, .list 50 (List.map T_api_Bound.vv bs), T_api_Pod.vv p] [] (fun zx zH => zx = .int .i64 r ∧ zH = []) := by
 unfold ref10_Suits at hm
 refine VC.run (c := _) (rs := [.tmp 6]) Tryz.func81 R R R <| VW.seq <| VW.region ?_
 refine VR.cons R R (VO.box R R fun b => ?_)
 refine VR.cons R R (VO.box R R fun b2 => ?_)
 refine VR.p R R (VP.assign R) <| VR.nil <| VW.seq <| VW.region <| VR.p R R (VP.loadP (i := 1) R R ld30 R) <| VR.p R R (VP.loadP (i := 0) R R ld48 R) ?_
 obtain ⟨r, h3, hm⟩ := bnd hm
 refine VR.cons R R (VO.callK 0 R fn115 R (ref10_Place_ok m p r h3) fun _ _ h7 => ?_)
 obtain ⟨rfl, rfl⟩ := h7
 refine VR.p R R (VP.assign R) <| VR.nil <| VW.seq <| VW.seq <| VW.region <| VR.p R R (VP.move R) <| VR.p R R (VP.arith R R R) <| VR.nil ?_
 rcases ite_or hm with ⟨h4, hm⟩ | ⟨h4, hm⟩
 ·refine VW.condT R h4 <| VW.seq <| VW.region <| VR.p R R (VP.move R) <| VR.p R R (VP.assign R) <| VR.nil ?_
  obtain rfl := Option.some.inj hm
  exact VW.ret ⟨.inl R, _, .cons (.tmp _ _ R) .nil, [], _, R, R, R⟩
 ·have h4 := bf h4
  refine VW.condF R h4 <| VW.skip <| VW.seq <| VW.region <| VR.p R R (VP.loadP (i := 1) R R ld30 R) <| VR.p R R (VP.move R) <| VR.p R R (VP.loadP (i := 0) R R ld48 R) ?_
  obtain ⟨r2, h5, hm⟩ := bnd hm
  refine VR.cons R R (VO.callK 0 R fn116 R (ref10_Room_ok m bs p r2 h5) fun _ _ h6 => ?_)
  obtain ⟨rfl, rfl⟩ := h6
  refine VR.p R R (VP.assign R) <| VR.nil ?_
  obtain rfl := Option.some.inj hm
  exact VW.ret ⟨.inl R, _, .cons (.tmp _ _ R) .nil, [], _, R, R, R⟩

/-! trireme/triremeref11.zone -/
def ref11_zone (ms : List T_api_Machine) (name : ByteArray) : Option (ByteArray × Bool) :=
 (ref09_Find ms name).bind fun r =>
 if (decide (r < (0 : Int))) = true then
  some ((⟨#[]⟩ : ByteArray), false)
 else
  (V.gl ms r).bind fun x =>
  (ref05_Get x.Labels (⟨#[122, 111, 110, 101]⟩ : ByteArray)).bind fun r2 =>
  some (r2.1, r2.2)
theorem ref11_zone_ok (ms : List T_api_Machine) (name : ByteArray) (r : ByteArray × Bool) (hm : ref11_zone ms name = some r) :
  VC Tryz.prog 150 [.list 30 (List.map T_api_Machine.vv ms), .str name] [] (fun zx zH => zx = .tup [.str r.1, .bool r.2] ∧ zH = []) := by
 unfold ref11_zone at hm
 refine VC.run (c := _) (rs := [.tmp 4, .tmp 5]) Tryz.func150 R R R <| VW.seq <| VW.region <| VR.p R R (VP.assign R) <| VR.p R R (VP.assign R) <| VR.nil <| VW.seq <| VW.region <| VR.p R R (VP.move R) <| VR.p R R (VP.move R) ?_
 obtain ⟨r, h1, hm⟩ := bnd hm
 refine VR.cons R R (VO.callK 0 R fn80 R (ref09_Find_ok ms name r h1) fun _ _ h6 => ?_)
 obtain ⟨rfl, rfl⟩ := h6
 refine VR.p R R (VP.assign R) <| VR.nil <| VW.seq <| VW.seq <| VW.region <| VR.p R R (VP.move R) <| VR.p R R (VP.arith R R R) <| VR.nil ?_
 rcases ite_or hm with ⟨h2, hm⟩ | ⟨h2, hm⟩
 ·refine VW.condT R h2 <| VW.seq <| VW.region <| VR.p R R (VP.assign R) <| VR.p R R (VP.assign R) <| VR.nil ?_
  obtain rfl := Option.some.inj hm
  exact VW.ret ⟨.inl R, _, .cons (.tmp _ _ R) (.cons (.tmp _ _ R) .nil), [], _, R, R, R⟩
 ·have h2 := bf h2
  refine VW.condF R h2 <| VW.skip <| VW.seq <| VW.region <| VR.p R R (VP.move R) <| VR.p R R (VP.move R) ?_
  obtain ⟨x, h3, hm⟩ := bnd hm
  refine VR.p R R (VP.glE T_api_Machine.vv R R el22 h3) <| VR.p R R (VP.fieldE R fa30_3) <| VR.p R R (VP.loadE R ld27 R) ?_
  obtain ⟨r2, h4, hm⟩ := bnd hm
  refine VR.cons R R (VO.callK 0 R fn163 R (ref05_Get_ok x.Labels (⟨#[122, 111, 110, 101]⟩ : ByteArray) r2 h4) fun _ _ h5 => ?_)
  obtain ⟨rfl, rfl⟩ := h5
  refine VR.p R R (VP.extract R R) <| VR.p R R (VP.extract R R) <| VR.p R R (VP.assign R) <| VR.p R R (VP.assign R) <| VR.nil ?_
  obtain rfl := Option.some.inj hm
  exact VW.ret ⟨.inl R, _, .cons (.tmp _ _ R) (.cons (.tmp _ _ R) .nil), [], _, R, R, R⟩

/-! trireme/triremeref11.together -/
def ref11_together (ms : List T_api_Machine) (a : ByteArray) (b : ByteArray) (wide : Bool) : Option Bool :=
 if (V.seq a b) = true then
  some true
 else
  (ref11_zone ms a).bind fun r =>
  (ref11_zone ms b).bind fun r2 =>
  some (((wide && r.2) && r2.2) && (V.seq r.1 r2.1))
theorem ref11_together_ok (ms : List T_api_Machine) (a : ByteArray) (b : ByteArray) (wide : Bool) (r : Bool) (hm : ref11_together ms a b wide = some r) :
  VC Tryz.prog 149 [.list 30 (List.map T_api_Machine.vv ms), .str a, .str b, .bool wide] [] (fun zx zH => zx = .bool r ∧ zH = []) := by
 unfold ref11_together at hm
 refine VC.run (c := _) (rs := [.tmp 8]) Tryz.func149 R R R <| VW.seq <| VW.region <| VR.p R R (VP.assign R) <| VR.nil <| VW.seq <| VW.seq <| VW.region <| VR.p R R (VP.move R) <| VR.p R R (VP.move R) <| VR.p R R (VP.strop R R R) <| VR.nil ?_
 rcases ite_or hm with ⟨h1, hm⟩ | ⟨h1, hm⟩
 ·refine VW.condT R h1 <| VW.seq <| VW.region <| VR.p R R (VP.assign R) <| VR.nil ?_
  obtain rfl := Option.some.inj hm
  exact VW.ret ⟨.inl R, _, .cons (.tmp _ _ R) .nil, [], _, R, R, R⟩
 ·have h1 := bf h1
  refine VW.condF R h1 <| VW.skip <| VW.seq <| VW.region <| VR.p R R (VP.move R) <| VR.p R R (VP.move R) ?_
  obtain ⟨r, h2, hm⟩ := bnd hm
  refine VR.cons R R (VO.callK 0 R fn150 R (ref11_zone_ok ms a r h2) fun _ _ h8 => ?_)
  obtain ⟨rfl, rfl⟩ := h8
  refine VR.p R R (VP.move R) <| VR.p R R (VP.extract R R) <| VR.p R R (VP.extract R R) <| VR.p R R (VP.assign R) <| VR.p R R (VP.assign R) <| VR.nil <| VW.seq <| VW.region <| VR.p R R (VP.move R) <| VR.p R R (VP.move R) ?_
  obtain ⟨r2, h3, hm⟩ := bnd hm
  refine VR.cons R R (VO.callK 0 R fn150 R (ref11_zone_ok ms b r2 h3) fun _ _ h7 => ?_)
  obtain ⟨rfl, rfl⟩ := h7
  refine VR.p R R (VP.move R) <| VR.p R R (VP.extract R R) <| VR.p R R (VP.extract R R) <| VR.p R R (VP.assign R) <| VR.p R R (VP.assign R) <| VR.nil <| VW.seq <| VW.region <| VR.p R R (VP.move R) <| VR.p R R (VP.move R) ?_
  refine VR.sc 2 31 (.bool (wide && r.2)) (fun K' J => ?_) ?_
  ·rcases Bool.eq_false_or_eq_true wide with h4 | h4
   ·refine VR.pG R R R R h4 (VP.move R) <| VR.p R R (VP.pickB true R h4 R) ?_
    exact J [_] _ R (andT h4)
   ·refine VR.skipG R R R R h4 <| VR.p R R (VP.pickB false R h4 R) ?_
    exact J [_] _ R (andF h4)
  ·refine VR.p R R (VP.move R) ?_
   refine VR.sc 2 34 (.bool ((wide && r.2) && r2.2)) (fun K' J => ?_) ?_
   ·rcases Bool.eq_false_or_eq_true (wide && r.2) with h5 | h5
    ·refine VR.pG R R R R h5 (VP.move R) <| VR.p R R (VP.pickB true R h5 R) ?_
     exact J [_] _ R (andT h5)
    ·refine VR.skipG R R R R h5 <| VR.p R R (VP.pickB false R h5 R) ?_
     exact J [_] _ R (andF h5)
   ·refine VR.p R R (VP.move R) ?_
    refine VR.sc 4 39 (.bool (((wide && r.2) && r2.2) && (V.seq r.1 r2.1))) (fun K' J => ?_) ?_
    ·rcases Bool.eq_false_or_eq_true ((wide && r.2) && r2.2) with h6 | h6
     ·refine VR.pG R R R R h6 (VP.move R) <| VR.pG R R R R h6 (VP.move R) <| VR.pG R R R R h6 (VP.strop R R R) <| VR.p R R (VP.pickB true R h6 R) ?_
      exact J [_, _, _] _ R (andT h6)
     ·refine VR.skipG R R R R h6 <| VR.skipG R R R R h6 <| VR.skipG R R R R h6 <| VR.p R R (VP.pickB false R h6 R) ?_
      exact J [_, _, _] _ R (andF h6)
    ·refine VR.p R R (VP.assign R) <| VR.nil ?_
     obtain rfl := Option.some.inj hm
     exact VW.ret ⟨.inl R, _, .cons (.tmp _ _ R) .nil, [], _, R, R, R⟩

end Go.Proofs.YtbkdglcedgiogaaGreat.M

/-
  Printed by a program of this session out of the loaded functions: models and their proofs. Own text.
-/
import Derived.Test.YtbkdglcedgiogaaRCF1
namespace Go.Proofs.Ytbkdglcedgiogaa.M
open Go Go.Proofs Go.Proofs.Ytbkdglcedgiogaa.V
set_option linter.unusedVariables false
set_option maxRecDepth 20000
set_option maxHeartbeats 4000000
/-! trireme/res.each -/
def res_each_res_Add_1.l1 (j : Arr5_Int × Arr5_Int) : Nat → Arr5_Int → Int → Option Arr5_Int
 | 0, _, _ => none
 | n + 1, l3, v2 =>
  if (decide (v2 < (5 : Int))) = true then
   (V.gl (Arr5_Int.l l3) v2).bind fun x =>
   (V.gl (Arr5_Int.l j.2) v2).bind fun x2 =>
   (res_Add_1 x x2).bind fun r19 =>
   (V.gl (Arr5_Int.l l3) v2).bind fun x3 =>
   (Arr5_Int.put l3 v2 r19).bind fun l6 =>
   res_each_res_Add_1.l1 j n l6 (IntKind.i64.wrap (v2 + (1 : Int)))
  else
   some l3
def res_each_res_Add_1 (a : T_api_Res) (b : T_api_Res) (wrong : Int) : Option (T_api_Res × Int) :=
 (res_Right a).bind fun r =>
 (if (!r) = true then some true else (res_Right b).bind fun r2 =>
 some (!r2)).bind fun c =>
 if c = true then
  some ((⟨(0 : Int), (0 : Int), (0 : Int), (0 : Int), (0 : Int)⟩ : T_api_Res), (1 : Int))
 else
  ((res_row a).bind fun r3 =>
  (res_row b).bind fun r4 =>
  some (r3, r4)).bind fun j =>
  (res_each_res_Add_1.l1 j FU j.1 (0 : Int)).bind fun l42 =>
  (res_back l42).bind fun r20 =>
  (res_Right r20).bind fun r21 =>
  if r21 = true then
   some (r20, (0 : Int))
  else
   some ((⟨(0 : Int), (0 : Int), (0 : Int), (0 : Int), (0 : Int)⟩ : T_api_Res), wrong)
theorem res_each_res_Add_1_ok (a : T_api_Res) (b : T_api_Res) (wrong : Int) (r : T_api_Res × Int) (hm : res_each_res_Add_1 a b wrong = some r) :
  VC Try.prog 82 [T_api_Res.vv a, T_api_Res.vv b, .clo (.func 83) [] [], .int .i64 wrong] [] (fun zx zH => zx = .tup [T_api_Res.vv r.1, .int .i64 r.2] ∧ zH = []) := by
 unfold res_each_res_Add_1 at hm
 refine VC.run (c := _) (rs := [.cell 8 26, .tmp 9]) Try.func82 R R R <| VW.seq <| VW.region ?_
 refine VR.cons R R (VO.box R R fun b2 => ?_)
 refine VR.cons R R (VO.box R R fun b3 => ?_)
 refine VR.cons R R (VO.alloc z26 fun b4 => ?_)
 refine VR.p R R (VP.assign R) <| VR.nil <| VW.seq <| VW.seq <| VW.region <| VR.p R R (VP.loadP (i := 2) R R ld26 R) ?_
 obtain ⟨r, h4, hm⟩ := bnd hm
 refine VR.cons R R (VO.callK 0 R fn56 R (res_Right_ok a r h4) fun _ _ h79 => ?_)
 obtain ⟨rfl, rfl⟩ := h79
 refine VR.p R R (VP.not R) <| VR.p R R (VP.move R) ?_
 obtain ⟨c, h8, hm⟩ := bnd hm
 refine VR.sc 4 21 (.bool c) (fun K' J => ?_) ?_
 ·have hm := h8
  rcases ite_or hm with ⟨h5, hm⟩ | ⟨h5, hm⟩
  ·refine VR.skipG R R R R h5 <| VR.skipG R R R R h5 <| VR.skipG R R R R h5 <| VR.p R R (VP.pickB true R h5 R) ?_
   exact J [_, _, _] _ R (congrArg VV.bool (Option.some.inj hm))
  ·have h5 := bf h5
   refine VR.pG R R R R h5 (VP.loadP (i := 1) R R ld26 R) ?_
   obtain ⟨r2, h6, hm⟩ := bnd hm
   refine VR.consG R R R R h5 (VO.callK 0 R fn56 R (res_Right_ok b r2 h6) fun _ _ h7 => ?_)
   obtain ⟨rfl, rfl⟩ := h7
   refine VR.pG R R R R h5 (VP.not R) <| VR.p R R (VP.pickB false R h5 R) ?_
   exact J [_, _, _] _ R (congrArg VV.bool (Option.some.inj hm))
 ·refine VR.nil ?_
  rcases ite_or hm with ⟨h9, hm⟩ | ⟨h9, hm⟩
  ·refine VW.condT R h9 <| VW.seq <| VW.region <| VR.p R R (VP.buildP pl26 R R) ?_
   refine VR.cons R R (VO.storeP (i := 0) R R R ld26 R R R ?_)
   refine VR.p R R (VP.assign R) <| VR.nil ?_
   obtain rfl := Option.some.inj hm
   exact VW.ret ⟨.inl R, _, .cons (.cell _ _ _ _ 0 _ _ _ _ R R ld26 R) (.cons (.tmp _ _ R) .nil), [], _, R, R, R⟩
  ·have h9 := bf h9
   refine VW.condF R h9 <| VW.skip ?_
   obtain ⟨o, h12, h13⟩ := bnd hm
   refine VW.join (fun (q : Arr5_Int × Arr5_Int) => q = o) (fun (j : Arr5_Int × Arr5_Int) (gg : Nat × Nat) => [(2, .clo (.func 83) [] []), (3, .int .i64 wrong), (8, .ptr b4 0), (10, .ptr gg.1 0), (11, .ptr gg.2 0)]) (fun (j : Arr5_Int × Arr5_Int) (gg : Nat × Nat) => [.box gg.2 115 (Arr5_Int.cells j.2), .box gg.1 115 (Arr5_Int.cells j.1), .box b4 26 (T_api_Res.cells (⟨(0 : Int), (0 : Int), (0 : Int), (0 : Int), (0 : Int)⟩ : T_api_Res))]) ?_ ?_
   ·have hm := h12
    refine VW.drawK 0 mixed <| VA.p 0 R R R (by kernel_rfl) (VP.loadP (i := 2) R R ld26 R) <| VA.p 2 R R R (by kernel_rfl) (VP.loadP (i := 1) R R ld26 R) ?_
    refine VA.all [1, 4, 5] (by kernel_rfl) ⟨?_, ?_, ?_, trivial⟩
    ·obtain ⟨r3, h14, hm⟩ := bnd hm
     refine VB.o R R R (VO.callK 0 R fn68 R (res_row_ok a r3 h14) fun _ _ h35 => ?_)
     obtain ⟨rfl, rfl⟩ := h35
     refine VA.all [3, 4, 5] (by kernel_rfl) ⟨?_, ?_, ?_, trivial⟩
     ·obtain ⟨r4, h15, hm⟩ := bnd hm
      refine VB.o R R R (VO.callK 0 R fn68 R (res_row_ok b r4 h15) fun _ _ h20 => ?_)
      obtain ⟨rfl, rfl⟩ := h20
      refine VA.all [4, 5] (by kernel_rfl) ⟨?_, ?_, trivial⟩
      ·refine VB.o R R R (VO.alloc z115 fun b7 => ?_)
       refine VA.all [5] (by kernel_rfl) ⟨?_, trivial⟩
       refine VB.o R R R (VO.alloc z115 fun b8 => ?_)
       refine VA.all [6] (by kernel_rfl) ⟨?_, trivial⟩
       refine VB.o R R R (VO.storeP (i := 1) R R R ld115 R R R ?_)
       refine VA.all [7] (by kernel_rfl) ⟨?_, trivial⟩
       refine VB.o R R R (VO.storeP (i := 0) R R R ld115 R R R ?_)
       refine VA.done (by kernel_rfl) ?_
       exact ⟨(r3, r4), (b7, b8), Option.some.inj hm, (Shift.pick [0, 0, 0] R ⟨R, R, R, R, R, trivial⟩)⟩
      ·refine VB.o R R R (VO.alloc z115 fun b9 => ?_)
       refine VA.all [4] (by kernel_rfl) ⟨?_, trivial⟩
       refine VB.o R R R (VO.alloc z115 fun b10 => ?_)
       refine VA.all [6] (by kernel_rfl) ⟨?_, trivial⟩
       refine VB.o R R R (VO.storeP (i := 0) R R R ld115 R R R ?_)
       refine VA.all [7] (by kernel_rfl) ⟨?_, trivial⟩
       refine VB.o R R R (VO.storeP (i := 1) R R R ld115 R R R ?_)
       refine VA.done (by kernel_rfl) ?_
       exact ⟨(r3, r4), (b10, b9), Option.some.inj hm, (Shift.pick [1, 0, 0] R ⟨R, R, R, R, R, trivial⟩)⟩
     ·refine VB.o R R R (VO.alloc z115 fun b11 => ?_)
      refine VA.all [3, 5] (by kernel_rfl) ⟨?_, ?_, trivial⟩
      ·obtain ⟨r5, h22, hm⟩ := bnd hm
       refine VB.o R R R (VO.callK 0 R fn68 R (res_row_ok b r5 h22) fun _ _ h24 => ?_)
       obtain ⟨rfl, rfl⟩ := h24
       refine VA.all [5] (by kernel_rfl) ⟨?_, trivial⟩
       refine VB.o R R R (VO.alloc z115 fun b12 => ?_)
       refine VA.all [6] (by kernel_rfl) ⟨?_, trivial⟩
       refine VB.o R R R (VO.storeP (i := 1) R R R ld115 R R R ?_)
       refine VA.all [7] (by kernel_rfl) ⟨?_, trivial⟩
       refine VB.o R R R (VO.storeP (i := 0) R R R ld115 R R R ?_)
       refine VA.done (by kernel_rfl) ?_
       exact ⟨(r3, r5), (b11, b12), Option.some.inj hm, (Shift.pick [0, 0, 0] R ⟨R, R, R, R, R, trivial⟩)⟩
      ·refine VB.o R R R (VO.alloc z115 fun b13 => ?_)
       refine VA.all [3] (by kernel_rfl) ⟨?_, trivial⟩
       obtain ⟨r6, h26, hm⟩ := bnd hm
       refine VB.o R R R (VO.callK 0 R fn68 R (res_row_ok b r6 h26) fun _ _ h27 => ?_)
       obtain ⟨rfl, rfl⟩ := h27
       refine VA.all [6] (by kernel_rfl) ⟨?_, trivial⟩
       refine VB.o R R R (VO.storeP (i := 1) R R R ld115 R R R ?_)
       refine VA.all [7] (by kernel_rfl) ⟨?_, trivial⟩
       refine VB.o R R R (VO.storeP (i := 0) R R R ld115 R R R ?_)
       refine VA.done (by kernel_rfl) ?_
       exact ⟨(r3, r6), (b11, b13), Option.some.inj hm, (Shift.pick [0, 0, 0] R ⟨R, R, R, R, R, trivial⟩)⟩
     ·refine VB.o R R R (VO.alloc z115 fun b14 => ?_)
      refine VA.all [3, 4] (by kernel_rfl) ⟨?_, ?_, trivial⟩
      ·obtain ⟨r7, h29, hm⟩ := bnd hm
       refine VB.o R R R (VO.callK 0 R fn68 R (res_row_ok b r7 h29) fun _ _ h31 => ?_)
       obtain ⟨rfl, rfl⟩ := h31
       refine VA.all [4] (by kernel_rfl) ⟨?_, trivial⟩
       refine VB.o R R R (VO.alloc z115 fun b15 => ?_)
       refine VA.all [6] (by kernel_rfl) ⟨?_, trivial⟩
       refine VB.o R R R (VO.storeP (i := 0) R R R ld115 R R R ?_)
       refine VA.all [7] (by kernel_rfl) ⟨?_, trivial⟩
       refine VB.o R R R (VO.storeP (i := 1) R R R ld115 R R R ?_)
       refine VA.done (by kernel_rfl) ?_
       exact ⟨(r3, r7), (b15, b14), Option.some.inj hm, (Shift.pick [1, 0, 0] R ⟨R, R, R, R, R, trivial⟩)⟩
      ·refine VB.o R R R (VO.alloc z115 fun b16 => ?_)
       refine VA.all [3] (by kernel_rfl) ⟨?_, trivial⟩
       obtain ⟨r8, h33, hm⟩ := bnd hm
       refine VB.o R R R (VO.callK 0 R fn68 R (res_row_ok b r8 h33) fun _ _ h34 => ?_)
       obtain ⟨rfl, rfl⟩ := h34
       refine VA.all [6] (by kernel_rfl) ⟨?_, trivial⟩
       refine VB.o R R R (VO.storeP (i := 0) R R R ld115 R R R ?_)
       refine VA.all [7] (by kernel_rfl) ⟨?_, trivial⟩
       refine VB.o R R R (VO.storeP (i := 1) R R R ld115 R R R ?_)
       refine VA.done (by kernel_rfl) ?_
       exact ⟨(r3, r8), (b16, b14), Option.some.inj hm, (Shift.pick [1, 0, 0] R ⟨R, R, R, R, R, trivial⟩)⟩
    ·refine VB.o R R R (VO.alloc z115 fun b17 => ?_)
     refine VA.all [1, 5] (by kernel_rfl) ⟨?_, ?_, trivial⟩
     ·obtain ⟨r9, h37, hm⟩ := bnd hm
      refine VB.o R R R (VO.callK 0 R fn68 R (res_row_ok a r9 h37) fun _ _ h44 => ?_)
      obtain ⟨rfl, rfl⟩ := h44
      refine VA.all [3, 5] (by kernel_rfl) ⟨?_, ?_, trivial⟩
      ·obtain ⟨r10, h38, hm⟩ := bnd hm
       refine VB.o R R R (VO.callK 0 R fn68 R (res_row_ok b r10 h38) fun _ _ h40 => ?_)
       obtain ⟨rfl, rfl⟩ := h40
       refine VA.all [5] (by kernel_rfl) ⟨?_, trivial⟩
       refine VB.o R R R (VO.alloc z115 fun b18 => ?_)
       refine VA.all [6] (by kernel_rfl) ⟨?_, trivial⟩
       refine VB.o R R R (VO.storeP (i := 1) R R R ld115 R R R ?_)
       refine VA.all [7] (by kernel_rfl) ⟨?_, trivial⟩
       refine VB.o R R R (VO.storeP (i := 0) R R R ld115 R R R ?_)
       refine VA.done (by kernel_rfl) ?_
       exact ⟨(r9, r10), (b17, b18), Option.some.inj hm, (Shift.pick [0, 0, 0] R ⟨R, R, R, R, R, trivial⟩)⟩
      ·refine VB.o R R R (VO.alloc z115 fun b19 => ?_)
       refine VA.all [3] (by kernel_rfl) ⟨?_, trivial⟩
       obtain ⟨r11, h42, hm⟩ := bnd hm
       refine VB.o R R R (VO.callK 0 R fn68 R (res_row_ok b r11 h42) fun _ _ h43 => ?_)
       obtain ⟨rfl, rfl⟩ := h43
       refine VA.all [6] (by kernel_rfl) ⟨?_, trivial⟩
       refine VB.o R R R (VO.storeP (i := 1) R R R ld115 R R R ?_)
       refine VA.all [7] (by kernel_rfl) ⟨?_, trivial⟩
       refine VB.o R R R (VO.storeP (i := 0) R R R ld115 R R R ?_)
       refine VA.done (by kernel_rfl) ?_
       exact ⟨(r9, r11), (b17, b19), Option.some.inj hm, (Shift.pick [0, 0, 0] R ⟨R, R, R, R, R, trivial⟩)⟩
     ·refine VB.o R R R (VO.alloc z115 fun b20 => ?_)
      refine VA.all [1] (by kernel_rfl) ⟨?_, trivial⟩
      obtain ⟨r12, h46, hm⟩ := bnd hm
      refine VB.o R R R (VO.callK 0 R fn68 R (res_row_ok a r12 h46) fun _ _ h49 => ?_)
      obtain ⟨rfl, rfl⟩ := h49
      refine VA.all [3] (by kernel_rfl) ⟨?_, trivial⟩
      obtain ⟨r13, h47, hm⟩ := bnd hm
      refine VB.o R R R (VO.callK 0 R fn68 R (res_row_ok b r13 h47) fun _ _ h48 => ?_)
      obtain ⟨rfl, rfl⟩ := h48
      refine VA.all [6] (by kernel_rfl) ⟨?_, trivial⟩
      refine VB.o R R R (VO.storeP (i := 1) R R R ld115 R R R ?_)
      refine VA.all [7] (by kernel_rfl) ⟨?_, trivial⟩
      refine VB.o R R R (VO.storeP (i := 0) R R R ld115 R R R ?_)
      refine VA.done (by kernel_rfl) ?_
      exact ⟨(r12, r13), (b17, b20), Option.some.inj hm, (Shift.pick [0, 0, 0] R ⟨R, R, R, R, R, trivial⟩)⟩
    ·refine VB.o R R R (VO.alloc z115 fun b21 => ?_)
     refine VA.all [1, 4] (by kernel_rfl) ⟨?_, ?_, trivial⟩
     ·obtain ⟨r14, h51, hm⟩ := bnd hm
      refine VB.o R R R (VO.callK 0 R fn68 R (res_row_ok a r14 h51) fun _ _ h58 => ?_)
      obtain ⟨rfl, rfl⟩ := h58
      refine VA.all [3, 4] (by kernel_rfl) ⟨?_, ?_, trivial⟩
      ·obtain ⟨r15, h52, hm⟩ := bnd hm
       refine VB.o R R R (VO.callK 0 R fn68 R (res_row_ok b r15 h52) fun _ _ h54 => ?_)
       obtain ⟨rfl, rfl⟩ := h54
       refine VA.all [4] (by kernel_rfl) ⟨?_, trivial⟩
       refine VB.o R R R (VO.alloc z115 fun b22 => ?_)
       refine VA.all [6] (by kernel_rfl) ⟨?_, trivial⟩
       refine VB.o R R R (VO.storeP (i := 0) R R R ld115 R R R ?_)
       refine VA.all [7] (by kernel_rfl) ⟨?_, trivial⟩
       refine VB.o R R R (VO.storeP (i := 1) R R R ld115 R R R ?_)
       refine VA.done (by kernel_rfl) ?_
       exact ⟨(r14, r15), (b22, b21), Option.some.inj hm, (Shift.pick [1, 0, 0] R ⟨R, R, R, R, R, trivial⟩)⟩
      ·refine VB.o R R R (VO.alloc z115 fun b23 => ?_)
       refine VA.all [3] (by kernel_rfl) ⟨?_, trivial⟩
       obtain ⟨r16, h56, hm⟩ := bnd hm
       refine VB.o R R R (VO.callK 0 R fn68 R (res_row_ok b r16 h56) fun _ _ h57 => ?_)
       obtain ⟨rfl, rfl⟩ := h57
       refine VA.all [6] (by kernel_rfl) ⟨?_, trivial⟩
       refine VB.o R R R (VO.storeP (i := 0) R R R ld115 R R R ?_)
       refine VA.all [7] (by kernel_rfl) ⟨?_, trivial⟩
       refine VB.o R R R (VO.storeP (i := 1) R R R ld115 R R R ?_)
       refine VA.done (by kernel_rfl) ?_
       exact ⟨(r14, r16), (b23, b21), Option.some.inj hm, (Shift.pick [1, 0, 0] R ⟨R, R, R, R, R, trivial⟩)⟩
     ·refine VB.o R R R (VO.alloc z115 fun b24 => ?_)
      refine VA.all [1] (by kernel_rfl) ⟨?_, trivial⟩
      obtain ⟨r17, h60, hm⟩ := bnd hm
      refine VB.o R R R (VO.callK 0 R fn68 R (res_row_ok a r17 h60) fun _ _ h63 => ?_)
      obtain ⟨rfl, rfl⟩ := h63
      refine VA.all [3] (by kernel_rfl) ⟨?_, trivial⟩
      obtain ⟨r18, h61, hm⟩ := bnd hm
      refine VB.o R R R (VO.callK 0 R fn68 R (res_row_ok b r18 h61) fun _ _ h62 => ?_)
      obtain ⟨rfl, rfl⟩ := h62
      refine VA.all [6] (by kernel_rfl) ⟨?_, trivial⟩
      refine VB.o R R R (VO.storeP (i := 0) R R R ld115 R R R ?_)
      refine VA.all [7] (by kernel_rfl) ⟨?_, trivial⟩
      refine VB.o R R R (VO.storeP (i := 1) R R R ld115 R R R ?_)
      refine VA.done (by kernel_rfl) ?_
      exact ⟨(r17, r18), (b24, b21), Option.some.inj hm, (Shift.pick [1, 0, 0] R ⟨R, R, R, R, R, trivial⟩)⟩
   ·rintro j ⟨b5, b6⟩ rfl
    have hm := h13
    refine VW.seq <| VW.seq <| VW.region <| VR.p R R (VP.move R) <| VR.nil ?_
    obtain ⟨o2, h64, h65⟩ := bnd hm
    refine VW.joinE (fun (q : Arr5_Int) => q = o2) (fun (l42 : Arr5_Int) (gg : Unit) => [(3, .int .i64 wrong), (8, .ptr b4 0), (10, .ptr b5 0)]) (fun (l42 : Arr5_Int) (gg : Unit) => [.box b5 115 (Arr5_Int.cells l42), .box b4 26 (T_api_Res.cells (⟨(0 : Int), (0 : Int), (0 : Int), (0 : Int), (0 : Int)⟩ : T_api_Res))]) ?_ ?_
    ·have hm := h64
     refine VW.block (VW.loop FU ?_)
     refine VL.fuelS (R := _) (fun zn (zs : Arr5_Int × Int) => res_each_res_Add_1.l1 j zn zs.1 zs.2) (fun (zs : Arr5_Int × Int) (zg : Unit) => [(2, .clo (.func 83) [] []), (3, .int .i64 wrong), (8, .ptr b4 0), (10, .ptr b5 0), (11, .ptr b6 0), (27, .int .i64 zs.2)]) (fun (zs : Arr5_Int × Int) (zg : Unit) => [.box b6 115 (Arr5_Int.cells j.2), .box b5 115 (Arr5_Int.cells zs.1), .box b4 26 (T_api_Res.cells (⟨(0 : Int), (0 : Int), (0 : Int), (0 : Int), (0 : Int)⟩ : T_api_Res))]) (j.1, (0 : Int)) () (fun zs => R) (Shift.pick [0, 0, 0] R ⟨R, R, R, R, R, R, trivial⟩) h64 ?_
     rintro n ⟨l3, v2⟩ _ hm
     rw [res_each_res_Add_1.l1] at hm
     refine VW.seq <| VW.region <| VR.p R R (VP.arith R R R) <| VR.nil <| VW.seq ?_
     rcases ite_or hm with ⟨h66, hm⟩ | ⟨h66, hm⟩
     ·refine VW.condT R h66 <| VW.skip <| VW.seq <| VW.block <| VW.seq <| VW.region <| VR.p R R (VP.move R) <| VR.p R R (VP.assign R) <| VR.nil <| VW.shift (Shift.mem [1, 0, 0] R) <| VW.drawK 1 mixed <| VA.p 0 R R R (by kernel_rfl) (VP.move R) <| VA.p 1 R R R (by kernel_rfl) (VP.move R) <| VA.p 2 R R R (by kernel_rfl) (VP.move R) ?_
      obtain ⟨x, h67, hm⟩ := bnd hm
      refine VA.p 3 R R R (by kernel_rfl) (VP.indexA R R ar115 (gl_pos2 h67).1 (gl_pos2 h67).2) <| VA.p 5 R R R (by kernel_rfl) (VP.move R) ?_
      obtain ⟨x2, h68, hm⟩ := bnd hm
      refine VA.p 6 R R R (by kernel_rfl) (VP.indexA R R ar115 (gl_pos2 h68).1 (gl_pos2 h68).2) <| VA.p 7 R R R (by kernel_rfl) (VP.loadA 0 (f := (VV.int .i64)) (l := Arr5_Int.l j.2) R R ld3 R h68) ?_
      refine VA.all [4] (by kernel_rfl) ⟨?_, trivial⟩
      refine VB.o R R R (VP.vo (VP.loadA 0 (f := (VV.int .i64)) (l := Arr5_Int.l l3) R R ld3 R h67) ?_)
      refine VA.all [8] (by kernel_rfl) ⟨?_, trivial⟩
      obtain ⟨r19, h69, hm⟩ := bnd hm
      refine VB.o R R R (VO.callK 0 R fn83 R (res_Add_1_ok x x2 r19 h69) fun _ _ h72 => ?_)
      obtain ⟨rfl, rfl⟩ := h72
      obtain ⟨x3, h70, hm⟩ := bnd hm
      refine VA.p 9 R R R (by kernel_rfl) (VP.indexA R R ar115 (gl_pos2 h70).1 (gl_pos2 h70).2) ?_
      refine VA.all [10] (by kernel_rfl) ⟨?_, trivial⟩
      obtain ⟨l6, h71, hm⟩ := bnd hm
      refine VB.o R R R (VO.storeA 0 (f := (VV.int .i64)) (l := Arr5_Int.l l3) R R R ld3 R R (Arr5_Int.put_some h71) ?_)
      refine VA.done (by kernel_rfl) <| VW.region <| VR.p R R (VP.arith R R R) <| VR.p R R (VP.move R) <| VR.nil ?_
      exact ⟨(l6, (IntKind.i64.wrap (v2 + (1 : Int)))), (), hm, (Shift.pick [1, 0, 0] R ⟨R, R, R, R, R, R, trivial⟩)⟩
     ·have h66 := bf h66
      refine VW.condF R h66 <| VW.exit ?_
      exact ⟨l3, (), Option.some.inj hm, (Shift.pick [1, 1] R ⟨R, R, R, trivial⟩)⟩
    ·rintro l42 _ rfl
     have hm := h65
     refine VW.seq <| VW.seq <| VW.region <| VR.p R R (VP.loadP (i := 0) R R ld115 R) ?_
     obtain ⟨r20, h73, hm⟩ := bnd hm
     refine VR.cons R R (VO.callK 0 R fn96 R (res_back_ok l42 r20 h73) fun _ _ h78 => ?_)
     obtain ⟨rfl, rfl⟩ := h78
     refine VR.cons R R (VO.alloc z26 fun b25 => ?_)
     refine VR.cons R R (VO.storeP (i := 0) R R R ld26 R R R ?_)
     refine VR.nil <| VW.seq <| VW.region <| VR.p R R (VP.loadP (i := 0) R R ld26 R) ?_
     obtain ⟨r21, h75, hm⟩ := bnd hm
     refine VR.cons R R (VO.callK 0 R fn56 R (res_Right_ok r20 r21 h75) fun _ _ h77 => ?_)
     obtain ⟨rfl, rfl⟩ := h77
     refine VR.nil ?_
     rcases ite_or hm with ⟨h76, hm⟩ | ⟨h76, hm⟩
     ·refine VW.condT R h76 <| VW.seq <| VW.region <| VR.p R R (VP.loadP (i := 0) R R ld26 R) ?_
      refine VR.cons R R (VO.storeP (i := 2) R R R ld26 R R R ?_)
      refine VR.p R R (VP.assign R) <| VR.nil ?_
      obtain rfl := Option.some.inj hm
      exact VW.ret ⟨.inl R, _, .cons (.cell _ _ _ _ 2 _ _ _ _ R R ld26 R) (.cons (.tmp _ _ R) .nil), [], _, R, R, R⟩
     ·have h76 := bf h76
      refine VW.condF R h76 <| VW.skip <| VW.seq <| VW.region <| VR.p R R (VP.buildP pl26 R R) <| VR.p R R (VP.move R) ?_
      refine VR.cons R R (VO.storeP (i := 2) R R R ld26 R R R ?_)
      refine VR.p R R (VP.assign R) <| VR.nil ?_
      obtain rfl := Option.some.inj hm
      exact VW.ret ⟨.inl R, _, .cons (.cell _ _ _ _ 2 _ _ _ _ R R ld26 R) (.cons (.tmp _ _ R) .nil), [], _, R, R, R⟩

/-! trireme/res.Add -/
def res_Add (a : T_api_Res) (b : T_api_Res) : Option (T_api_Res × Int) :=
 (res_each_res_Add_1 a b (10 : Int)).bind fun r =>
 some (r.1, r.2)
theorem res_Add_ok (a : T_api_Res) (b : T_api_Res) (r : T_api_Res × Int) (hm : res_Add a b = some r) :
  VC Try.prog 73 [T_api_Res.vv a, T_api_Res.vv b] [] (fun zx zH => zx = .tup [T_api_Res.vv r.1, .int .i64 r.2] ∧ zH = []) := by
 unfold res_Add at hm
 refine VC.run (c := _) (rs := [.cell 4 26, .tmp 5]) Try.func73 R R R <| VW.seq <| VW.region ?_
 refine VR.cons R R (VO.box R R fun b2 => ?_)
 refine VR.cons R R (VO.box R R fun b3 => ?_)
 refine VR.cons R R (VO.alloc z26 fun b4 => ?_)
 refine VR.p R R (VP.assign R) <| VR.nil <| VW.seq <| VW.region <| VR.p R R (VP.loadP (i := 2) R R ld26 R) <| VR.p R R (VP.loadP (i := 1) R R ld26 R) ?_
 obtain ⟨r, h4, hm⟩ := bnd hm
 refine VR.cons R R (VO.callK 0 R fn82 R (res_each_res_Add_1_ok a b (10 : Int) r h4) fun _ _ h5 => ?_)
 obtain ⟨rfl, rfl⟩ := h5
 refine VR.p R R (VP.extract R R) <| VR.p R R (VP.extract R R) ?_
 refine VR.cons R R (VO.storeP (i := 0) R R R ld26 R R R ?_)
 refine VR.p R R (VP.assign R) <| VR.nil ?_
 obtain rfl := Option.some.inj hm
 exact VW.ret ⟨.inl R, _, .cons (.cell _ _ _ _ 0 _ _ _ _ R R ld26 R) (.cons (.tmp _ _ R) .nil), [], _, R, R, R⟩

/-! trireme/yard.Used -/
def yard_Used.l1 : List T_api_Pod → Nat → T_api_Res → Option (Out (T_api_Res × Int) T_api_Res)
 | [], k, sum2 => some (Out.go sum2)
 | x :: l, k, sum2 =>
  (res_Add sum2 x.Need).bind fun r3 =>
  if (r3.2 != (0 : Int)) = true then
   some (Out.ret ((⟨(0 : Int), (0 : Int), (0 : Int), (0 : Int), (0 : Int)⟩ : T_api_Res), r3.2))
  else
   yard_Used.l1 l (k + 1) r3.1
def yard_Used (bs : List T_api_Bound) (name : ByteArray) : Option (T_api_Res × Int) :=
 (yard_On bs name).bind fun r =>
 (yard_first_yard_Used_1 (r.length : Int) r).bind fun r2 =>
 if (r2 != (-1 : Int)) = true then
  some ((⟨(0 : Int), (0 : Int), (0 : Int), (0 : Int), (0 : Int)⟩ : T_api_Res), (12 : Int))
 else
  (yard_Used.l1 r 0 (⟨(0 : Int), (0 : Int), (0 : Int), (0 : Int), (0 : Int)⟩ : T_api_Res)).bind fun o =>
  o.on fun sum32 =>
  some (sum32, (0 : Int))
theorem yard_Used_ok (bs : List T_api_Bound) (name : ByteArray) (r : T_api_Res × Int) (hm : yard_Used bs name = some r) :
  VC Try.prog 61 [.list 50 (List.map T_api_Bound.vv bs), .str name] [] (fun zx zH => zx = .tup [T_api_Res.vv r.1, .int .i64 r.2] ∧ zH = []) := by
 unfold yard_Used at hm
 refine VC.run (c := _) (rs := [.cell 4 26, .tmp 5]) Try.func61 R R R <| VW.seq <| VW.region ?_
 refine VR.cons R R (VO.alloc z26 fun b => ?_)
 refine VR.p R R (VP.assign R) <| VR.nil <| VW.seq <| VW.region <| VR.p R R (VP.move R) <| VR.p R R (VP.move R) ?_
 obtain ⟨r, h2, hm⟩ := bnd hm
 refine VR.cons R R (VO.callK 0 R fn71 R (yard_On_ok bs name r h2) fun _ _ h18 => ?_)
 obtain ⟨ob, cap, rfl, rfl⟩ := h18
 refine VR.shift (Shift.freezeE 0 [(14, .list 39 (List.map T_api_Pod.vv r))] R ⟨⟨_, R, .here _ R⟩, trivial⟩ (FzH.refl _)) ?_
 refine VR.cons R R (VO.alloc z24 fun b2 => ?_)
 refine VR.cons R R (VO.storeP (i := 0) R R R ld24 R R R ?_)
 refine VR.nil <| VW.seq <| VW.seq <| VW.region <| VR.p R R (VP.loadP (i := 0) R R ld24 R) <| VR.p R R (VP.lenT T_api_Pod.vv R Try.underlying24) <| VR.p R R (VP.makeFunc R R) ?_
 obtain ⟨r2, h5, hm⟩ := bnd hm
 refine VR.cons R R (VO.callK 1 R fn63 R (yard_first_yard_Used_1_ok (r.length : Int) r b2 r2 h5) fun _ _ h17 => ?_)
 obtain ⟨rfl, rfl⟩ := h17
 refine VR.p R R (VP.arith R R R) <| VR.nil ?_
 rcases ite_or hm with ⟨h6, hm⟩ | ⟨h6, hm⟩
 ·refine VW.condT R h6 <| VW.seq <| VW.region <| VR.p R R (VP.buildP pl26 R R) ?_
  refine VR.cons R R (VO.storeP (i := 1) R R R ld26 R R R ?_)
  refine VR.p R R (VP.assign R) <| VR.nil ?_
  obtain rfl := Option.some.inj hm
  exact VW.ret ⟨.inl R, _, .cons (.cell _ _ _ _ 1 _ _ _ _ R R ld26 R) (.cons (.tmp _ _ R) .nil), [], _, R, R, R⟩
 ·have h6 := bf h6
  refine VW.condF R h6 <| VW.skip <| VW.seq <| VW.region <| VR.p R R (VP.buildP pl26 R R) ?_
  refine VR.cons R R (VO.alloc z26 fun b3 => ?_)
  refine VR.cons R R (VO.storeP (i := 0) R R R ld26 R R R ?_)
  refine VR.nil <| VW.seq <| VW.seq <| VW.region <| VR.p R R (VP.loadP (i := 1) R R ld24 R) <| VR.p R R (VP.lenT T_api_Pod.vv R Try.underlying24) <| VR.p R R (VP.move R) <| VR.nil <| VW.lenL 22 R fun h10 => ?_
  have h10 := max_map h10
  obtain ⟨o, h8, h9⟩ := bnd hm
  refine VW.joinE (fun (q : T_api_Res) => o = Out.go q) (fun (sum32 : T_api_Res) (gg : Unit) => [(4, .ptr b 0), (7, .ptr b3 0)]) (fun (sum32 : T_api_Res) (gg : Unit) => [.box b3 26 (T_api_Res.cells sum32), .box b 26 (T_api_Res.cells (⟨(0 : Int), (0 : Int), (0 : Int), (0 : Int), (0 : Int)⟩ : T_api_Res))]) ?_ ?_
  ·have hm := h8
   refine VW.block (VW.loop (r.length + 1) ?_)
   refine VL.eachS (l := r) (R := _) (fun zl zk (zs : T_api_Res) => yard_Used.l1 zl zk zs) (fun (k : Nat) (zs : T_api_Res) (zg : Unit) => [(4, .ptr b 0), (7, .ptr b3 0), (22, .list 39 (List.map T_api_Pod.vv r)), (23, .int .i64 (r.length : Int)), (24, .int .i64 (k : Int))]) (fun (k : Nat) (zs : T_api_Res) (zg : Unit) => [.box b3 26 (T_api_Res.cells zs), .box b 26 (T_api_Res.cells (⟨(0 : Int), (0 : Int), (0 : Int), (0 : Int), (0 : Int)⟩ : T_api_Res))]) (⟨(0 : Int), (0 : Int), (0 : Int), (0 : Int), (0 : Int)⟩ : T_api_Res) () (Shift.pick [0, 1] R ⟨R, R, R, R, R, trivial⟩) h8 ?_ ?_
   ·rintro k sum2 _ hk hm
    rw [yard_Used.l1] at hm
    refine VW.seq <| VW.region <| VR.p R R (VP.arith R R R) <| VR.nil <| VW.seq <| VW.condF R (k_end hk) <| VW.exit ?_
    exact ⟨sum2, (), (Option.some.inj hm).symm, (Shift.pick [0, 0] R ⟨R, R, trivial⟩)⟩
   ·rintro k x l sum2 _ h11 hm
    rw [yard_Used.l1] at hm
    refine VW.seq <| VW.region <| VR.p R R (VP.arith R R R) <| VR.nil <| VW.seq <| VW.condT R (k_lt h11) <| VW.skip <| VW.seq <| VW.block <| VW.seq <| VW.region <| VR.p R R (VP.glK T_api_Pod.vv R R el24 h11) <| VR.p R R (VP.loadE R ld39 R) ?_
    refine VR.cons R R (VO.alloc z39 fun b4 => ?_)
    refine VR.cons R R (VO.storeP (i := 0) R R R ld39 R R R ?_)
    refine VR.nil <| VW.seq <| VW.region <| VR.p R R (VP.loadP (i := 1) R R ld26 R) <| VR.p R R (VP.fieldP R fa39_1) <| VR.p R R (VP.loadP (i := 0) R R ld26 R) ?_
    obtain ⟨r3, h13, hm⟩ := bnd hm
    refine VR.cons R R (VO.callK 0 R fn73 R (res_Add_ok sum2 x.Need r3 h13) fun _ _ h16 => ?_)
    obtain ⟨rfl, rfl⟩ := h16
    refine VR.p R R (VP.move R) <| VR.p R R (VP.extract R R) <| VR.p R R (VP.extract R R) ?_
    refine VR.cons R R (VO.alloc z26 fun b5 => ?_)
    refine VR.cons R R (VO.storeP (i := 0) R R R ld26 R R R ?_)
    refine VR.p R R (VP.assign R) <| VR.nil <| VW.seq <| VW.seq <| VW.region <| VR.p R R (VP.move R) <| VR.p R R (VP.arith R R R) <| VR.nil ?_
    rcases ite_or hm with ⟨h15, hm⟩ | ⟨h15, hm⟩
    ·refine VW.condT R h15 <| VW.seq <| VW.region <| VR.p R R (VP.buildP pl26 R R) <| VR.p R R (VP.move R) ?_
     refine VR.cons R R (VO.storeP (i := 3) R R R ld26 R R R ?_)
     refine VR.p R R (VP.assign R) <| VR.nil ?_
     obtain rfl := Option.some.inj hm
     have hm := Out.ret_on h9
     obtain rfl := Option.some.inj hm
     exact VW.ret ⟨.inl R, _, .cons (.cell _ _ _ _ 3 _ _ _ _ R R ld26 R) (.cons (.tmp _ _ R) .nil), [], _, R, R, R⟩
    ·have h15 := bf h15
     refine VW.condF R h15 <| VW.skip <| VW.region <| VR.p R R (VP.loadP (i := 0) R R ld26 R) ?_
     refine VR.cons R R (VO.storeP (i := 2) R R R ld26 R R R ?_)
     refine VR.nil <| VW.region <| VR.p R R (VP.arith R R R) <| VR.p R R (VP.move R) <| VR.nil ?_
     exact ⟨r3.1, (), hm, (Shift.pick [2, 2] R ⟨R, R, R, R, congrArg some (k_next h11 h10), trivial⟩)⟩
  ·rintro sum32 _ rfl
   have hm := Out.go_on h9
   refine VW.seq <| VW.region <| VR.p R R (VP.loadP (i := 0) R R ld26 R) ?_
   refine VR.cons R R (VO.storeP (i := 1) R R R ld26 R R R ?_)
   refine VR.p R R (VP.assign R) <| VR.nil ?_
   obtain rfl := Option.some.inj hm
   exact VW.ret ⟨.inl R, _, .cons (.cell _ _ _ _ 1 _ _ _ _ R R ld26 R) (.cons (.tmp _ _ R) .nil), [], _, R, R, R⟩

/-! trireme/res.Least$1 -/
def res_Least_1 (x : Int) (y : Int) : Option Int :=
 some (min x y)
theorem res_Least_1_ok (x : Int) (y : Int) (r : Int) (hm : res_Least_1 x y = some r) :
  VC Try.prog 113 [.int .i64 x, .int .i64 y] [] (fun zx zH => zx = .int .i64 r ∧ zH = []) := by
 unfold res_Least_1 at hm
 refine VC.run (c := _) (rs := [.tmp 4]) Try.func113 R R R <| VW.seq <| VW.region <| VR.p R R (VP.assign R) <| VR.nil <| VW.seq <| VW.region <| VR.p R R (VP.move R) <| VR.p R R (VP.move R) <| VR.p R R (VP.min2 R R) <| VR.p R R (VP.assign R) <| VR.nil ?_
 obtain rfl := Option.some.inj hm
 exact VW.ret ⟨.inl R, _, .cons (.tmp _ _ R) .nil, [], _, R, R, R⟩

/-! trireme/res.each -/
def res_each_res_Least_1.l1 (j : Arr5_Int × Arr5_Int) : Nat → Arr5_Int → Int → Option Arr5_Int
 | 0, _, _ => none
 | n + 1, l3, v2 =>
  if (decide (v2 < (5 : Int))) = true then
   (V.gl (Arr5_Int.l l3) v2).bind fun x =>
   (V.gl (Arr5_Int.l j.2) v2).bind fun x2 =>
   (res_Least_1 x x2).bind fun r19 =>
   (V.gl (Arr5_Int.l l3) v2).bind fun x3 =>
   (Arr5_Int.put l3 v2 r19).bind fun l6 =>
   res_each_res_Least_1.l1 j n l6 (IntKind.i64.wrap (v2 + (1 : Int)))
  else
   some l3
def res_each_res_Least_1 (a : T_api_Res) (b : T_api_Res) (wrong : Int) : Option (T_api_Res × Int) :=
 (res_Right a).bind fun r =>
 (if (!r) = true then some true else (res_Right b).bind fun r2 =>
 some (!r2)).bind fun c =>
 if c = true then
  some ((⟨(0 : Int), (0 : Int), (0 : Int), (0 : Int), (0 : Int)⟩ : T_api_Res), (1 : Int))
 else
  ((res_row a).bind fun r3 =>
  (res_row b).bind fun r4 =>
  some (r3, r4)).bind fun j =>
  (res_each_res_Least_1.l1 j FU j.1 (0 : Int)).bind fun l42 =>
  (res_back l42).bind fun r20 =>
  (res_Right r20).bind fun r21 =>
  if r21 = true then
   some (r20, (0 : Int))
  else
   some ((⟨(0 : Int), (0 : Int), (0 : Int), (0 : Int), (0 : Int)⟩ : T_api_Res), wrong)
theorem res_each_res_Least_1_ok (a : T_api_Res) (b : T_api_Res) (wrong : Int) (r : T_api_Res × Int) (hm : res_each_res_Least_1 a b wrong = some r) :
  VC Try.prog 82 [T_api_Res.vv a, T_api_Res.vv b, .clo (.func 113) [] [], .int .i64 wrong] [] (fun zx zH => zx = .tup [T_api_Res.vv r.1, .int .i64 r.2] ∧ zH = []) := by
 unfold res_each_res_Least_1 at hm
 refine VC.run (c := _) (rs := [.cell 8 26, .tmp 9]) Try.func82 R R R <| VW.seq <| VW.region ?_
 refine VR.cons R R (VO.box R R fun b2 => ?_)
 refine VR.cons R R (VO.box R R fun b3 => ?_)
 refine VR.cons R R (VO.alloc z26 fun b4 => ?_)
 refine VR.p R R (VP.assign R) <| VR.nil <| VW.seq <| VW.seq <| VW.region <| VR.p R R (VP.loadP (i := 2) R R ld26 R) ?_
 obtain ⟨r, h4, hm⟩ := bnd hm
 refine VR.cons R R (VO.callK 0 R fn56 R (res_Right_ok a r h4) fun _ _ h79 => ?_)
 obtain ⟨rfl, rfl⟩ := h79
 refine VR.p R R (VP.not R) <| VR.p R R (VP.move R) ?_
 obtain ⟨c, h8, hm⟩ := bnd hm
 refine VR.sc 4 21 (.bool c) (fun K' J => ?_) ?_
 ·have hm := h8
  rcases ite_or hm with ⟨h5, hm⟩ | ⟨h5, hm⟩
  ·refine VR.skipG R R R R h5 <| VR.skipG R R R R h5 <| VR.skipG R R R R h5 <| VR.p R R (VP.pickB true R h5 R) ?_
   exact J [_, _, _] _ R (congrArg VV.bool (Option.some.inj hm))
  ·have h5 := bf h5
   refine VR.pG R R R R h5 (VP.loadP (i := 1) R R ld26 R) ?_
   obtain ⟨r2, h6, hm⟩ := bnd hm
   refine VR.consG R R R R h5 (VO.callK 0 R fn56 R (res_Right_ok b r2 h6) fun _ _ h7 => ?_)
   obtain ⟨rfl, rfl⟩ := h7
   refine VR.pG R R R R h5 (VP.not R) <| VR.p R R (VP.pickB false R h5 R) ?_
   exact J [_, _, _] _ R (congrArg VV.bool (Option.some.inj hm))
 ·refine VR.nil ?_
  rcases ite_or hm with ⟨h9, hm⟩ | ⟨h9, hm⟩
  ·refine VW.condT R h9 <| VW.seq <| VW.region <| VR.p R R (VP.buildP pl26 R R) ?_
   refine VR.cons R R (VO.storeP (i := 0) R R R ld26 R R R ?_)
   refine VR.p R R (VP.assign R) <| VR.nil ?_
   obtain rfl := Option.some.inj hm
   exact VW.ret ⟨.inl R, _, .cons (.cell _ _ _ _ 0 _ _ _ _ R R ld26 R) (.cons (.tmp _ _ R) .nil), [], _, R, R, R⟩
  ·have h9 := bf h9
   refine VW.condF R h9 <| VW.skip ?_
   obtain ⟨o, h12, h13⟩ := bnd hm
   refine VW.join (fun (q : Arr5_Int × Arr5_Int) => q = o) (fun (j : Arr5_Int × Arr5_Int) (gg : Nat × Nat) => [(2, .clo (.func 113) [] []), (3, .int .i64 wrong), (8, .ptr b4 0), (10, .ptr gg.1 0), (11, .ptr gg.2 0)]) (fun (j : Arr5_Int × Arr5_Int) (gg : Nat × Nat) => [.box gg.2 115 (Arr5_Int.cells j.2), .box gg.1 115 (Arr5_Int.cells j.1), .box b4 26 (T_api_Res.cells (⟨(0 : Int), (0 : Int), (0 : Int), (0 : Int), (0 : Int)⟩ : T_api_Res))]) ?_ ?_
   ·have hm := h12
    refine VW.drawK 0 mixed <| VA.p 0 R R R (by kernel_rfl) (VP.loadP (i := 2) R R ld26 R) <| VA.p 2 R R R (by kernel_rfl) (VP.loadP (i := 1) R R ld26 R) ?_
    refine VA.all [1, 4, 5] (by kernel_rfl) ⟨?_, ?_, ?_, trivial⟩
    ·obtain ⟨r3, h14, hm⟩ := bnd hm
     refine VB.o R R R (VO.callK 0 R fn68 R (res_row_ok a r3 h14) fun _ _ h35 => ?_)
     obtain ⟨rfl, rfl⟩ := h35
     refine VA.all [3, 4, 5] (by kernel_rfl) ⟨?_, ?_, ?_, trivial⟩
     ·obtain ⟨r4, h15, hm⟩ := bnd hm
      refine VB.o R R R (VO.callK 0 R fn68 R (res_row_ok b r4 h15) fun _ _ h20 => ?_)
      obtain ⟨rfl, rfl⟩ := h20
      refine VA.all [4, 5] (by kernel_rfl) ⟨?_, ?_, trivial⟩
      ·refine VB.o R R R (VO.alloc z115 fun b7 => ?_)
       refine VA.all [5] (by kernel_rfl) ⟨?_, trivial⟩
       refine VB.o R R R (VO.alloc z115 fun b8 => ?_)
       refine VA.all [6] (by kernel_rfl) ⟨?_, trivial⟩
       refine VB.o R R R (VO.storeP (i := 1) R R R ld115 R R R ?_)
       refine VA.all [7] (by kernel_rfl) ⟨?_, trivial⟩
       refine VB.o R R R (VO.storeP (i := 0) R R R ld115 R R R ?_)
       refine VA.done (by kernel_rfl) ?_
       exact ⟨(r3, r4), (b7, b8), Option.some.inj hm, (Shift.pick [0, 0, 0] R ⟨R, R, R, R, R, trivial⟩)⟩
      ·refine VB.o R R R (VO.alloc z115 fun b9 => ?_)
       refine VA.all [4] (by kernel_rfl) ⟨?_, trivial⟩
       refine VB.o R R R (VO.alloc z115 fun b10 => ?_)
       refine VA.all [6] (by kernel_rfl) ⟨?_, trivial⟩
       refine VB.o R R R (VO.storeP (i := 0) R R R ld115 R R R ?_)
       refine VA.all [7] (by kernel_rfl) ⟨?_, trivial⟩
       refine VB.o R R R (VO.storeP (i := 1) R R R ld115 R R R ?_)
       refine VA.done (by kernel_rfl) ?_
       exact ⟨(r3, r4), (b10, b9), Option.some.inj hm, (Shift.pick [1, 0, 0] R ⟨R, R, R, R, R, trivial⟩)⟩
     ·refine VB.o R R R (VO.alloc z115 fun b11 => ?_)
      refine VA.all [3, 5] (by kernel_rfl) ⟨?_, ?_, trivial⟩
      ·obtain ⟨r5, h22, hm⟩ := bnd hm
       refine VB.o R R R (VO.callK 0 R fn68 R (res_row_ok b r5 h22) fun _ _ h24 => ?_)
       obtain ⟨rfl, rfl⟩ := h24
       refine VA.all [5] (by kernel_rfl) ⟨?_, trivial⟩
       refine VB.o R R R (VO.alloc z115 fun b12 => ?_)
       refine VA.all [6] (by kernel_rfl) ⟨?_, trivial⟩
       refine VB.o R R R (VO.storeP (i := 1) R R R ld115 R R R ?_)
       refine VA.all [7] (by kernel_rfl) ⟨?_, trivial⟩
       refine VB.o R R R (VO.storeP (i := 0) R R R ld115 R R R ?_)
       refine VA.done (by kernel_rfl) ?_
       exact ⟨(r3, r5), (b11, b12), Option.some.inj hm, (Shift.pick [0, 0, 0] R ⟨R, R, R, R, R, trivial⟩)⟩
      ·refine VB.o R R R (VO.alloc z115 fun b13 => ?_)
       refine VA.all [3] (by kernel_rfl) ⟨?_, trivial⟩
       obtain ⟨r6, h26, hm⟩ := bnd hm
       refine VB.o R R R (VO.callK 0 R fn68 R (res_row_ok b r6 h26) fun _ _ h27 => ?_)
       obtain ⟨rfl, rfl⟩ := h27
       refine VA.all [6] (by kernel_rfl) ⟨?_, trivial⟩
       refine VB.o R R R (VO.storeP (i := 1) R R R ld115 R R R ?_)
       refine VA.all [7] (by kernel_rfl) ⟨?_, trivial⟩
       refine VB.o R R R (VO.storeP (i := 0) R R R ld115 R R R ?_)
       refine VA.done (by kernel_rfl) ?_
       exact ⟨(r3, r6), (b11, b13), Option.some.inj hm, (Shift.pick [0, 0, 0] R ⟨R, R, R, R, R, trivial⟩)⟩
     ·refine VB.o R R R (VO.alloc z115 fun b14 => ?_)
      refine VA.all [3, 4] (by kernel_rfl) ⟨?_, ?_, trivial⟩
      ·obtain ⟨r7, h29, hm⟩ := bnd hm
       refine VB.o R R R (VO.callK 0 R fn68 R (res_row_ok b r7 h29) fun _ _ h31 => ?_)
       obtain ⟨rfl, rfl⟩ := h31
       refine VA.all [4] (by kernel_rfl) ⟨?_, trivial⟩
       refine VB.o R R R (VO.alloc z115 fun b15 => ?_)
       refine VA.all [6] (by kernel_rfl) ⟨?_, trivial⟩
       refine VB.o R R R (VO.storeP (i := 0) R R R ld115 R R R ?_)
       refine VA.all [7] (by kernel_rfl) ⟨?_, trivial⟩
       refine VB.o R R R (VO.storeP (i := 1) R R R ld115 R R R ?_)
       refine VA.done (by kernel_rfl) ?_
       exact ⟨(r3, r7), (b15, b14), Option.some.inj hm, (Shift.pick [1, 0, 0] R ⟨R, R, R, R, R, trivial⟩)⟩
      ·refine VB.o R R R (VO.alloc z115 fun b16 => ?_)
       refine VA.all [3] (by kernel_rfl) ⟨?_, trivial⟩
       obtain ⟨r8, h33, hm⟩ := bnd hm
       refine VB.o R R R (VO.callK 0 R fn68 R (res_row_ok b r8 h33) fun _ _ h34 => ?_)
       obtain ⟨rfl, rfl⟩ := h34
       refine VA.all [6] (by kernel_rfl) ⟨?_, trivial⟩
       refine VB.o R R R (VO.storeP (i := 0) R R R ld115 R R R ?_)
       refine VA.all [7] (by kernel_rfl) ⟨?_, trivial⟩
       refine VB.o R R R (VO.storeP (i := 1) R R R ld115 R R R ?_)
       refine VA.done (by kernel_rfl) ?_
       exact ⟨(r3, r8), (b16, b14), Option.some.inj hm, (Shift.pick [1, 0, 0] R ⟨R, R, R, R, R, trivial⟩)⟩
    ·refine VB.o R R R (VO.alloc z115 fun b17 => ?_)
     refine VA.all [1, 5] (by kernel_rfl) ⟨?_, ?_, trivial⟩
     ·obtain ⟨r9, h37, hm⟩ := bnd hm
      refine VB.o R R R (VO.callK 0 R fn68 R (res_row_ok a r9 h37) fun _ _ h44 => ?_)
      obtain ⟨rfl, rfl⟩ := h44
      refine VA.all [3, 5] (by kernel_rfl) ⟨?_, ?_, trivial⟩
      ·obtain ⟨r10, h38, hm⟩ := bnd hm
       refine VB.o R R R (VO.callK 0 R fn68 R (res_row_ok b r10 h38) fun _ _ h40 => ?_)
       obtain ⟨rfl, rfl⟩ := h40
       refine VA.all [5] (by kernel_rfl) ⟨?_, trivial⟩
       refine VB.o R R R (VO.alloc z115 fun b18 => ?_)
       refine VA.all [6] (by kernel_rfl) ⟨?_, trivial⟩
       refine VB.o R R R (VO.storeP (i := 1) R R R ld115 R R R ?_)
       refine VA.all [7] (by kernel_rfl) ⟨?_, trivial⟩
       refine VB.o R R R (VO.storeP (i := 0) R R R ld115 R R R ?_)
       refine VA.done (by kernel_rfl) ?_
       exact ⟨(r9, r10), (b17, b18), Option.some.inj hm, (Shift.pick [0, 0, 0] R ⟨R, R, R, R, R, trivial⟩)⟩
      ·refine VB.o R R R (VO.alloc z115 fun b19 => ?_)
       refine VA.all [3] (by kernel_rfl) ⟨?_, trivial⟩
       obtain ⟨r11, h42, hm⟩ := bnd hm
       refine VB.o R R R (VO.callK 0 R fn68 R (res_row_ok b r11 h42) fun _ _ h43 => ?_)
       obtain ⟨rfl, rfl⟩ := h43
       refine VA.all [6] (by kernel_rfl) ⟨?_, trivial⟩
       refine VB.o R R R (VO.storeP (i := 1) R R R ld115 R R R ?_)
       refine VA.all [7] (by kernel_rfl) ⟨?_, trivial⟩
       refine VB.o R R R (VO.storeP (i := 0) R R R ld115 R R R ?_)
       refine VA.done (by kernel_rfl) ?_
       exact ⟨(r9, r11), (b17, b19), Option.some.inj hm, (Shift.pick [0, 0, 0] R ⟨R, R, R, R, R, trivial⟩)⟩
     ·refine VB.o R R R (VO.alloc z115 fun b20 => ?_)
      refine VA.all [1] (by kernel_rfl) ⟨?_, trivial⟩
      obtain ⟨r12, h46, hm⟩ := bnd hm
      refine VB.o R R R (VO.callK 0 R fn68 R (res_row_ok a r12 h46) fun _ _ h49 => ?_)
      obtain ⟨rfl, rfl⟩ := h49
      refine VA.all [3] (by kernel_rfl) ⟨?_, trivial⟩
      obtain ⟨r13, h47, hm⟩ := bnd hm
      refine VB.o R R R (VO.callK 0 R fn68 R (res_row_ok b r13 h47) fun _ _ h48 => ?_)
      obtain ⟨rfl, rfl⟩ := h48
      refine VA.all [6] (by kernel_rfl) ⟨?_, trivial⟩
      refine VB.o R R R (VO.storeP (i := 1) R R R ld115 R R R ?_)
      refine VA.all [7] (by kernel_rfl) ⟨?_, trivial⟩
      refine VB.o R R R (VO.storeP (i := 0) R R R ld115 R R R ?_)
      refine VA.done (by kernel_rfl) ?_
      exact ⟨(r12, r13), (b17, b20), Option.some.inj hm, (Shift.pick [0, 0, 0] R ⟨R, R, R, R, R, trivial⟩)⟩
    ·refine VB.o R R R (VO.alloc z115 fun b21 => ?_)
     refine VA.all [1, 4] (by kernel_rfl) ⟨?_, ?_, trivial⟩
     ·obtain ⟨r14, h51, hm⟩ := bnd hm
      refine VB.o R R R (VO.callK 0 R fn68 R (res_row_ok a r14 h51) fun _ _ h58 => ?_)
      obtain ⟨rfl, rfl⟩ := h58
      refine VA.all [3, 4] (by kernel_rfl) ⟨?_, ?_, trivial⟩
      ·obtain ⟨r15, h52, hm⟩ := bnd hm
       refine VB.o R R R (VO.callK 0 R fn68 R (res_row_ok b r15 h52) fun _ _ h54 => ?_)
       obtain ⟨rfl, rfl⟩ := h54
       refine VA.all [4] (by kernel_rfl) ⟨?_, trivial⟩
       refine VB.o R R R (VO.alloc z115 fun b22 => ?_)
       refine VA.all [6] (by kernel_rfl) ⟨?_, trivial⟩
       refine VB.o R R R (VO.storeP (i := 0) R R R ld115 R R R ?_)
       refine VA.all [7] (by kernel_rfl) ⟨?_, trivial⟩
       refine VB.o R R R (VO.storeP (i := 1) R R R ld115 R R R ?_)
       refine VA.done (by kernel_rfl) ?_
       exact ⟨(r14, r15), (b22, b21), Option.some.inj hm, (Shift.pick [1, 0, 0] R ⟨R, R, R, R, R, trivial⟩)⟩
      ·refine VB.o R R R (VO.alloc z115 fun b23 => ?_)
       refine VA.all [3] (by kernel_rfl) ⟨?_, trivial⟩
       obtain ⟨r16, h56, hm⟩ := bnd hm
       refine VB.o R R R (VO.callK 0 R fn68 R (res_row_ok b r16 h56) fun _ _ h57 => ?_)
       obtain ⟨rfl, rfl⟩ := h57
       refine VA.all [6] (by kernel_rfl) ⟨?_, trivial⟩
       refine VB.o R R R (VO.storeP (i := 0) R R R ld115 R R R ?_)
       refine VA.all [7] (by kernel_rfl) ⟨?_, trivial⟩
       refine VB.o R R R (VO.storeP (i := 1) R R R ld115 R R R ?_)
       refine VA.done (by kernel_rfl) ?_
       exact ⟨(r14, r16), (b23, b21), Option.some.inj hm, (Shift.pick [1, 0, 0] R ⟨R, R, R, R, R, trivial⟩)⟩
     ·refine VB.o R R R (VO.alloc z115 fun b24 => ?_)
      refine VA.all [1] (by kernel_rfl) ⟨?_, trivial⟩
      obtain ⟨r17, h60, hm⟩ := bnd hm
      refine VB.o R R R (VO.callK 0 R fn68 R (res_row_ok a r17 h60) fun _ _ h63 => ?_)
      obtain ⟨rfl, rfl⟩ := h63
      refine VA.all [3] (by kernel_rfl) ⟨?_, trivial⟩
      obtain ⟨r18, h61, hm⟩ := bnd hm
      refine VB.o R R R (VO.callK 0 R fn68 R (res_row_ok b r18 h61) fun _ _ h62 => ?_)
      obtain ⟨rfl, rfl⟩ := h62
      refine VA.all [6] (by kernel_rfl) ⟨?_, trivial⟩
      refine VB.o R R R (VO.storeP (i := 0) R R R ld115 R R R ?_)
      refine VA.all [7] (by kernel_rfl) ⟨?_, trivial⟩
      refine VB.o R R R (VO.storeP (i := 1) R R R ld115 R R R ?_)
      refine VA.done (by kernel_rfl) ?_
      exact ⟨(r17, r18), (b24, b21), Option.some.inj hm, (Shift.pick [1, 0, 0] R ⟨R, R, R, R, R, trivial⟩)⟩
   ·rintro j ⟨b5, b6⟩ rfl
    have hm := h13
    refine VW.seq <| VW.seq <| VW.region <| VR.p R R (VP.move R) <| VR.nil ?_
    obtain ⟨o2, h64, h65⟩ := bnd hm
    refine VW.joinE (fun (q : Arr5_Int) => q = o2) (fun (l42 : Arr5_Int) (gg : Unit) => [(3, .int .i64 wrong), (8, .ptr b4 0), (10, .ptr b5 0)]) (fun (l42 : Arr5_Int) (gg : Unit) => [.box b5 115 (Arr5_Int.cells l42), .box b4 26 (T_api_Res.cells (⟨(0 : Int), (0 : Int), (0 : Int), (0 : Int), (0 : Int)⟩ : T_api_Res))]) ?_ ?_
    ·have hm := h64
     refine VW.block (VW.loop FU ?_)
     refine VL.fuelS (R := _) (fun zn (zs : Arr5_Int × Int) => res_each_res_Least_1.l1 j zn zs.1 zs.2) (fun (zs : Arr5_Int × Int) (zg : Unit) => [(2, .clo (.func 113) [] []), (3, .int .i64 wrong), (8, .ptr b4 0), (10, .ptr b5 0), (11, .ptr b6 0), (27, .int .i64 zs.2)]) (fun (zs : Arr5_Int × Int) (zg : Unit) => [.box b6 115 (Arr5_Int.cells j.2), .box b5 115 (Arr5_Int.cells zs.1), .box b4 26 (T_api_Res.cells (⟨(0 : Int), (0 : Int), (0 : Int), (0 : Int), (0 : Int)⟩ : T_api_Res))]) (j.1, (0 : Int)) () (fun zs => R) (Shift.pick [0, 0, 0] R ⟨R, R, R, R, R, R, trivial⟩) h64 ?_
     rintro n ⟨l3, v2⟩ _ hm
     rw [res_each_res_Least_1.l1] at hm
     refine VW.seq <| VW.region <| VR.p R R (VP.arith R R R) <| VR.nil <| VW.seq ?_
     rcases ite_or hm with ⟨h66, hm⟩ | ⟨h66, hm⟩
     ·refine VW.condT R h66 <| VW.skip <| VW.seq <| VW.block <| VW.seq <| VW.region <| VR.p R R (VP.move R) <| VR.p R R (VP.assign R) <| VR.nil <| VW.shift (Shift.mem [1, 0, 0] R) <| VW.drawK 1 mixed <| VA.p 0 R R R (by kernel_rfl) (VP.move R) <| VA.p 1 R R R (by kernel_rfl) (VP.move R) <| VA.p 2 R R R (by kernel_rfl) (VP.move R) ?_
      obtain ⟨x, h67, hm⟩ := bnd hm
      refine VA.p 3 R R R (by kernel_rfl) (VP.indexA R R ar115 (gl_pos2 h67).1 (gl_pos2 h67).2) <| VA.p 5 R R R (by kernel_rfl) (VP.move R) ?_
      obtain ⟨x2, h68, hm⟩ := bnd hm
      refine VA.p 6 R R R (by kernel_rfl) (VP.indexA R R ar115 (gl_pos2 h68).1 (gl_pos2 h68).2) <| VA.p 7 R R R (by kernel_rfl) (VP.loadA 0 (f := (VV.int .i64)) (l := Arr5_Int.l j.2) R R ld3 R h68) ?_
      refine VA.all [4] (by kernel_rfl) ⟨?_, trivial⟩
      refine VB.o R R R (VP.vo (VP.loadA 0 (f := (VV.int .i64)) (l := Arr5_Int.l l3) R R ld3 R h67) ?_)
      refine VA.all [8] (by kernel_rfl) ⟨?_, trivial⟩
      obtain ⟨r19, h69, hm⟩ := bnd hm
      refine VB.o R R R (VO.callK 0 R fn113 R (res_Least_1_ok x x2 r19 h69) fun _ _ h72 => ?_)
      obtain ⟨rfl, rfl⟩ := h72
      obtain ⟨x3, h70, hm⟩ := bnd hm
      refine VA.p 9 R R R (by kernel_rfl) (VP.indexA R R ar115 (gl_pos2 h70).1 (gl_pos2 h70).2) ?_
      refine VA.all [10] (by kernel_rfl) ⟨?_, trivial⟩
      obtain ⟨l6, h71, hm⟩ := bnd hm
      refine VB.o R R R (VO.storeA 0 (f := (VV.int .i64)) (l := Arr5_Int.l l3) R R R ld3 R R (Arr5_Int.put_some h71) ?_)
      refine VA.done (by kernel_rfl) <| VW.region <| VR.p R R (VP.arith R R R) <| VR.p R R (VP.move R) <| VR.nil ?_
      exact ⟨(l6, (IntKind.i64.wrap (v2 + (1 : Int)))), (), hm, (Shift.pick [1, 0, 0] R ⟨R, R, R, R, R, R, trivial⟩)⟩
     ·have h66 := bf h66
      refine VW.condF R h66 <| VW.exit ?_
      exact ⟨l3, (), Option.some.inj hm, (Shift.pick [1, 1] R ⟨R, R, R, trivial⟩)⟩
    ·rintro l42 _ rfl
     have hm := h65
     refine VW.seq <| VW.seq <| VW.region <| VR.p R R (VP.loadP (i := 0) R R ld115 R) ?_
     obtain ⟨r20, h73, hm⟩ := bnd hm
     refine VR.cons R R (VO.callK 0 R fn96 R (res_back_ok l42 r20 h73) fun _ _ h78 => ?_)
     obtain ⟨rfl, rfl⟩ := h78
     refine VR.cons R R (VO.alloc z26 fun b25 => ?_)
     refine VR.cons R R (VO.storeP (i := 0) R R R ld26 R R R ?_)
     refine VR.nil <| VW.seq <| VW.region <| VR.p R R (VP.loadP (i := 0) R R ld26 R) ?_
     obtain ⟨r21, h75, hm⟩ := bnd hm
     refine VR.cons R R (VO.callK 0 R fn56 R (res_Right_ok r20 r21 h75) fun _ _ h77 => ?_)
     obtain ⟨rfl, rfl⟩ := h77
     refine VR.nil ?_
     rcases ite_or hm with ⟨h76, hm⟩ | ⟨h76, hm⟩
     ·refine VW.condT R h76 <| VW.seq <| VW.region <| VR.p R R (VP.loadP (i := 0) R R ld26 R) ?_
      refine VR.cons R R (VO.storeP (i := 2) R R R ld26 R R R ?_)
      refine VR.p R R (VP.assign R) <| VR.nil ?_
      obtain rfl := Option.some.inj hm
      exact VW.ret ⟨.inl R, _, .cons (.cell _ _ _ _ 2 _ _ _ _ R R ld26 R) (.cons (.tmp _ _ R) .nil), [], _, R, R, R⟩
     ·have h76 := bf h76
      refine VW.condF R h76 <| VW.skip <| VW.seq <| VW.region <| VR.p R R (VP.buildP pl26 R R) <| VR.p R R (VP.move R) ?_
      refine VR.cons R R (VO.storeP (i := 2) R R R ld26 R R R ?_)
      refine VR.p R R (VP.assign R) <| VR.nil ?_
      obtain rfl := Option.some.inj hm
      exact VW.ret ⟨.inl R, _, .cons (.cell _ _ _ _ 2 _ _ _ _ R R ld26 R) (.cons (.tmp _ _ R) .nil), [], _, R, R, R⟩

/-! trireme/res.Least -/
def res_Least (a : T_api_Res) (b : T_api_Res) : Option T_api_Res :=
 (res_each_res_Least_1 a b (10 : Int)).bind fun r =>
 some r.1
theorem res_Least_ok (a : T_api_Res) (b : T_api_Res) (r : T_api_Res) (hm : res_Least a b = some r) :
  VC Try.prog 104 [T_api_Res.vv a, T_api_Res.vv b] [] (fun zx zH => zx = T_api_Res.vv r ∧ zH = []) := by
 unfold res_Least at hm
 refine VC.run (c := _) (rs := [.cell 4 26]) Try.func104 R R R <| VW.seq <| VW.region ?_
 refine VR.cons R R (VO.box R R fun b2 => ?_)
 refine VR.cons R R (VO.box R R fun b3 => ?_)
 refine VR.cons R R (VO.alloc z26 fun b4 => ?_)
 refine VR.nil <| VW.seq <| VW.region <| VR.p R R (VP.loadP (i := 2) R R ld26 R) <| VR.p R R (VP.loadP (i := 1) R R ld26 R) ?_
 obtain ⟨r, h4, hm⟩ := bnd hm
 refine VR.cons R R (VO.callK 0 R fn82 R (res_each_res_Least_1_ok a b (10 : Int) r h4) fun _ _ h6 => ?_)
 obtain ⟨rfl, rfl⟩ := h6
 refine VR.p R R (VP.move R) <| VR.p R R (VP.extract R R) <| VR.p R R (VP.extract R R) ?_
 refine VR.cons R R (VO.alloc z26 fun b5 => ?_)
 refine VR.cons R R (VO.storeP (i := 0) R R R ld26 R R R ?_)
 refine VR.p R R (VP.assign R) <| VR.nil <| VW.seq <| VW.region <| VR.p R R (VP.loadP (i := 0) R R ld26 R) ?_
 refine VR.cons R R (VO.storeP (i := 1) R R R ld26 R R R ?_)
 refine VR.nil ?_
 obtain rfl := Option.some.inj hm
 exact VW.ret ⟨.inl R, _, .cons (.cell _ _ _ _ 1 _ _ _ _ R R ld26 R) .nil, [], _, R, R, R⟩

/-! trireme/res.Sub$1 -/
def res_Sub_1 (x : Int) (y : Int) : Option Int :=
 some (IntKind.i64.wrap (x - y))
theorem res_Sub_1_ok (x : Int) (y : Int) (r : Int) (hm : res_Sub_1 x y = some r) :
  VC Try.prog 112 [.int .i64 x, .int .i64 y] [] (fun zx zH => zx = .int .i64 r ∧ zH = []) := by
 unfold res_Sub_1 at hm
 refine VC.run (c := _) (rs := [.tmp 4]) Try.func112 R R R <| VW.seq <| VW.region <| VR.p R R (VP.assign R) <| VR.nil <| VW.seq <| VW.region <| VR.p R R (VP.move R) <| VR.p R R (VP.move R) <| VR.p R R (VP.arith R R R) <| VR.p R R (VP.assign R) <| VR.nil ?_
 obtain rfl := Option.some.inj hm
 exact VW.ret ⟨.inl R, _, .cons (.tmp _ _ R) .nil, [], _, R, R, R⟩

/-! trireme/res.each -/
def res_each_res_Sub_1.l1 (j : Arr5_Int × Arr5_Int) : Nat → Arr5_Int → Int → Option Arr5_Int
 | 0, _, _ => none
 | n + 1, l3, v2 =>
  if (decide (v2 < (5 : Int))) = true then
   (V.gl (Arr5_Int.l l3) v2).bind fun x =>
   (V.gl (Arr5_Int.l j.2) v2).bind fun x2 =>
   (res_Sub_1 x x2).bind fun r19 =>
   (V.gl (Arr5_Int.l l3) v2).bind fun x3 =>
   (Arr5_Int.put l3 v2 r19).bind fun l6 =>
   res_each_res_Sub_1.l1 j n l6 (IntKind.i64.wrap (v2 + (1 : Int)))
  else
   some l3
def res_each_res_Sub_1 (a : T_api_Res) (b : T_api_Res) (wrong : Int) : Option (T_api_Res × Int) :=
 (res_Right a).bind fun r =>
 (if (!r) = true then some true else (res_Right b).bind fun r2 =>
 some (!r2)).bind fun c =>
 if c = true then
  some ((⟨(0 : Int), (0 : Int), (0 : Int), (0 : Int), (0 : Int)⟩ : T_api_Res), (1 : Int))
 else
  ((res_row a).bind fun r3 =>
  (res_row b).bind fun r4 =>
  some (r3, r4)).bind fun j =>
  (res_each_res_Sub_1.l1 j FU j.1 (0 : Int)).bind fun l42 =>
  (res_back l42).bind fun r20 =>
  (res_Right r20).bind fun r21 =>
  if r21 = true then
   some (r20, (0 : Int))
  else
   some ((⟨(0 : Int), (0 : Int), (0 : Int), (0 : Int), (0 : Int)⟩ : T_api_Res), wrong)
theorem res_each_res_Sub_1_ok (a : T_api_Res) (b : T_api_Res) (wrong : Int) (r : T_api_Res × Int) (hm : res_each_res_Sub_1 a b wrong = some r) :
  VC Try.prog 82 [T_api_Res.vv a, T_api_Res.vv b, .clo (.func 112) [] [], .int .i64 wrong] [] (fun zx zH => zx = .tup [T_api_Res.vv r.1, .int .i64 r.2] ∧ zH = []) := by
 unfold res_each_res_Sub_1 at hm
 refine VC.run (c := _) (rs := [.cell 8 26, .tmp 9]) Try.func82 R R R <| VW.seq <| VW.region ?_
 refine VR.cons R R (VO.box R R fun b2 => ?_)
 refine VR.cons R R (VO.box R R fun b3 => ?_)
 refine VR.cons R R (VO.alloc z26 fun b4 => ?_)
 refine VR.p R R (VP.assign R) <| VR.nil <| VW.seq <| VW.seq <| VW.region <| VR.p R R (VP.loadP (i := 2) R R ld26 R) ?_
 obtain ⟨r, h4, hm⟩ := bnd hm
 refine VR.cons R R (VO.callK 0 R fn56 R (res_Right_ok a r h4) fun _ _ h79 => ?_)
 obtain ⟨rfl, rfl⟩ := h79
 refine VR.p R R (VP.not R) <| VR.p R R (VP.move R) ?_
 obtain ⟨c, h8, hm⟩ := bnd hm
 refine VR.sc 4 21 (.bool c) (fun K' J => ?_) ?_
 ·have hm := h8
  rcases ite_or hm with ⟨h5, hm⟩ | ⟨h5, hm⟩
  ·refine VR.skipG R R R R h5 <| VR.skipG R R R R h5 <| VR.skipG R R R R h5 <| VR.p R R (VP.pickB true R h5 R) ?_
   exact J [_, _, _] _ R (congrArg VV.bool (Option.some.inj hm))
  ·have h5 := bf h5
   refine VR.pG R R R R h5 (VP.loadP (i := 1) R R ld26 R) ?_
   obtain ⟨r2, h6, hm⟩ := bnd hm
   refine VR.consG R R R R h5 (VO.callK 0 R fn56 R (res_Right_ok b r2 h6) fun _ _ h7 => ?_)
   obtain ⟨rfl, rfl⟩ := h7
   refine VR.pG R R R R h5 (VP.not R) <| VR.p R R (VP.pickB false R h5 R) ?_
   exact J [_, _, _] _ R (congrArg VV.bool (Option.some.inj hm))
 ·refine VR.nil ?_
  rcases ite_or hm with ⟨h9, hm⟩ | ⟨h9, hm⟩
  ·refine VW.condT R h9 <| VW.seq <| VW.region <| VR.p R R (VP.buildP pl26 R R) ?_
   refine VR.cons R R (VO.storeP (i := 0) R R R ld26 R R R ?_)
   refine VR.p R R (VP.assign R) <| VR.nil ?_
   obtain rfl := Option.some.inj hm
   exact VW.ret ⟨.inl R, _, .cons (.cell _ _ _ _ 0 _ _ _ _ R R ld26 R) (.cons (.tmp _ _ R) .nil), [], _, R, R, R⟩
  ·have h9 := bf h9
   refine VW.condF R h9 <| VW.skip ?_
   obtain ⟨o, h12, h13⟩ := bnd hm
   refine VW.join (fun (q : Arr5_Int × Arr5_Int) => q = o) (fun (j : Arr5_Int × Arr5_Int) (gg : Nat × Nat) => [(2, .clo (.func 112) [] []), (3, .int .i64 wrong), (8, .ptr b4 0), (10, .ptr gg.1 0), (11, .ptr gg.2 0)]) (fun (j : Arr5_Int × Arr5_Int) (gg : Nat × Nat) => [.box gg.2 115 (Arr5_Int.cells j.2), .box gg.1 115 (Arr5_Int.cells j.1), .box b4 26 (T_api_Res.cells (⟨(0 : Int), (0 : Int), (0 : Int), (0 : Int), (0 : Int)⟩ : T_api_Res))]) ?_ ?_
   ·have hm := h12
    refine VW.drawK 0 mixed <| VA.p 0 R R R (by kernel_rfl) (VP.loadP (i := 2) R R ld26 R) <| VA.p 2 R R R (by kernel_rfl) (VP.loadP (i := 1) R R ld26 R) ?_
    refine VA.all [1, 4, 5] (by kernel_rfl) ⟨?_, ?_, ?_, trivial⟩
    ·obtain ⟨r3, h14, hm⟩ := bnd hm
     refine VB.o R R R (VO.callK 0 R fn68 R (res_row_ok a r3 h14) fun _ _ h35 => ?_)
     obtain ⟨rfl, rfl⟩ := h35
     refine VA.all [3, 4, 5] (by kernel_rfl) ⟨?_, ?_, ?_, trivial⟩
     ·obtain ⟨r4, h15, hm⟩ := bnd hm
      refine VB.o R R R (VO.callK 0 R fn68 R (res_row_ok b r4 h15) fun _ _ h20 => ?_)
      obtain ⟨rfl, rfl⟩ := h20
      refine VA.all [4, 5] (by kernel_rfl) ⟨?_, ?_, trivial⟩
      ·refine VB.o R R R (VO.alloc z115 fun b7 => ?_)
       refine VA.all [5] (by kernel_rfl) ⟨?_, trivial⟩
       refine VB.o R R R (VO.alloc z115 fun b8 => ?_)
       refine VA.all [6] (by kernel_rfl) ⟨?_, trivial⟩
       refine VB.o R R R (VO.storeP (i := 1) R R R ld115 R R R ?_)
       refine VA.all [7] (by kernel_rfl) ⟨?_, trivial⟩
       refine VB.o R R R (VO.storeP (i := 0) R R R ld115 R R R ?_)
       refine VA.done (by kernel_rfl) ?_
       exact ⟨(r3, r4), (b7, b8), Option.some.inj hm, (Shift.pick [0, 0, 0] R ⟨R, R, R, R, R, trivial⟩)⟩
      ·refine VB.o R R R (VO.alloc z115 fun b9 => ?_)
       refine VA.all [4] (by kernel_rfl) ⟨?_, trivial⟩
       refine VB.o R R R (VO.alloc z115 fun b10 => ?_)
       refine VA.all [6] (by kernel_rfl) ⟨?_, trivial⟩
       refine VB.o R R R (VO.storeP (i := 0) R R R ld115 R R R ?_)
       refine VA.all [7] (by kernel_rfl) ⟨?_, trivial⟩
       refine VB.o R R R (VO.storeP (i := 1) R R R ld115 R R R ?_)
       refine VA.done (by kernel_rfl) ?_
       exact ⟨(r3, r4), (b10, b9), Option.some.inj hm, (Shift.pick [1, 0, 0] R ⟨R, R, R, R, R, trivial⟩)⟩
     ·refine VB.o R R R (VO.alloc z115 fun b11 => ?_)
      refine VA.all [3, 5] (by kernel_rfl) ⟨?_, ?_, trivial⟩
      ·obtain ⟨r5, h22, hm⟩ := bnd hm
       refine VB.o R R R (VO.callK 0 R fn68 R (res_row_ok b r5 h22) fun _ _ h24 => ?_)
       obtain ⟨rfl, rfl⟩ := h24
       refine VA.all [5] (by kernel_rfl) ⟨?_, trivial⟩
       refine VB.o R R R (VO.alloc z115 fun b12 => ?_)
       refine VA.all [6] (by kernel_rfl) ⟨?_, trivial⟩
       refine VB.o R R R (VO.storeP (i := 1) R R R ld115 R R R ?_)
       refine VA.all [7] (by kernel_rfl) ⟨?_, trivial⟩
       refine VB.o R R R (VO.storeP (i := 0) R R R ld115 R R R ?_)
       refine VA.done (by kernel_rfl) ?_
       exact ⟨(r3, r5), (b11, b12), Option.some.inj hm, (Shift.pick [0, 0, 0] R ⟨R, R, R, R, R, trivial⟩)⟩
      ·refine VB.o R R R (VO.alloc z115 fun b13 => ?_)
       refine VA.all [3] (by kernel_rfl) ⟨?_, trivial⟩
       obtain ⟨r6, h26, hm⟩ := bnd hm
       refine VB.o R R R (VO.callK 0 R fn68 R (res_row_ok b r6 h26) fun _ _ h27 => ?_)
       obtain ⟨rfl, rfl⟩ := h27
       refine VA.all [6] (by kernel_rfl) ⟨?_, trivial⟩
       refine VB.o R R R (VO.storeP (i := 1) R R R ld115 R R R ?_)
       refine VA.all [7] (by kernel_rfl) ⟨?_, trivial⟩
       refine VB.o R R R (VO.storeP (i := 0) R R R ld115 R R R ?_)
       refine VA.done (by kernel_rfl) ?_
       exact ⟨(r3, r6), (b11, b13), Option.some.inj hm, (Shift.pick [0, 0, 0] R ⟨R, R, R, R, R, trivial⟩)⟩
     ·refine VB.o R R R (VO.alloc z115 fun b14 => ?_)
      refine VA.all [3, 4] (by kernel_rfl) ⟨?_, ?_, trivial⟩
      ·obtain ⟨r7, h29, hm⟩ := bnd hm
       refine VB.o R R R (VO.callK 0 R fn68 R (res_row_ok b r7 h29) fun _ _ h31 => ?_)
       obtain ⟨rfl, rfl⟩ := h31
       refine VA.all [4] (by kernel_rfl) ⟨?_, trivial⟩
       refine VB.o R R R (VO.alloc z115 fun b15 => ?_)
       refine VA.all [6] (by kernel_rfl) ⟨?_, trivial⟩
       refine VB.o R R R (VO.storeP (i := 0) R R R ld115 R R R ?_)
       refine VA.all [7] (by kernel_rfl) ⟨?_, trivial⟩
       refine VB.o R R R (VO.storeP (i := 1) R R R ld115 R R R ?_)
       refine VA.done (by kernel_rfl) ?_
       exact ⟨(r3, r7), (b15, b14), Option.some.inj hm, (Shift.pick [1, 0, 0] R ⟨R, R, R, R, R, trivial⟩)⟩
      ·refine VB.o R R R (VO.alloc z115 fun b16 => ?_)
       refine VA.all [3] (by kernel_rfl) ⟨?_, trivial⟩
       obtain ⟨r8, h33, hm⟩ := bnd hm
       refine VB.o R R R (VO.callK 0 R fn68 R (res_row_ok b r8 h33) fun _ _ h34 => ?_)
       obtain ⟨rfl, rfl⟩ := h34
       refine VA.all [6] (by kernel_rfl) ⟨?_, trivial⟩
       refine VB.o R R R (VO.storeP (i := 0) R R R ld115 R R R ?_)
       refine VA.all [7] (by kernel_rfl) ⟨?_, trivial⟩
       refine VB.o R R R (VO.storeP (i := 1) R R R ld115 R R R ?_)
       refine VA.done (by kernel_rfl) ?_
       exact ⟨(r3, r8), (b16, b14), Option.some.inj hm, (Shift.pick [1, 0, 0] R ⟨R, R, R, R, R, trivial⟩)⟩
    ·refine VB.o R R R (VO.alloc z115 fun b17 => ?_)
     refine VA.all [1, 5] (by kernel_rfl) ⟨?_, ?_, trivial⟩
     ·obtain ⟨r9, h37, hm⟩ := bnd hm
      refine VB.o R R R (VO.callK 0 R fn68 R (res_row_ok a r9 h37) fun _ _ h44 => ?_)
      obtain ⟨rfl, rfl⟩ := h44
      refine VA.all [3, 5] (by kernel_rfl) ⟨?_, ?_, trivial⟩
      ·obtain ⟨r10, h38, hm⟩ := bnd hm
       refine VB.o R R R (VO.callK 0 R fn68 R (res_row_ok b r10 h38) fun _ _ h40 => ?_)
       obtain ⟨rfl, rfl⟩ := h40
       refine VA.all [5] (by kernel_rfl) ⟨?_, trivial⟩
       refine VB.o R R R (VO.alloc z115 fun b18 => ?_)
       refine VA.all [6] (by kernel_rfl) ⟨?_, trivial⟩
       refine VB.o R R R (VO.storeP (i := 1) R R R ld115 R R R ?_)
       refine VA.all [7] (by kernel_rfl) ⟨?_, trivial⟩
       refine VB.o R R R (VO.storeP (i := 0) R R R ld115 R R R ?_)
       refine VA.done (by kernel_rfl) ?_
       exact ⟨(r9, r10), (b17, b18), Option.some.inj hm, (Shift.pick [0, 0, 0] R ⟨R, R, R, R, R, trivial⟩)⟩
      ·refine VB.o R R R (VO.alloc z115 fun b19 => ?_)
       refine VA.all [3] (by kernel_rfl) ⟨?_, trivial⟩
       obtain ⟨r11, h42, hm⟩ := bnd hm
       refine VB.o R R R (VO.callK 0 R fn68 R (res_row_ok b r11 h42) fun _ _ h43 => ?_)
       obtain ⟨rfl, rfl⟩ := h43
       refine VA.all [6] (by kernel_rfl) ⟨?_, trivial⟩
       refine VB.o R R R (VO.storeP (i := 1) R R R ld115 R R R ?_)
       refine VA.all [7] (by kernel_rfl) ⟨?_, trivial⟩
       refine VB.o R R R (VO.storeP (i := 0) R R R ld115 R R R ?_)
       refine VA.done (by kernel_rfl) ?_
       exact ⟨(r9, r11), (b17, b19), Option.some.inj hm, (Shift.pick [0, 0, 0] R ⟨R, R, R, R, R, trivial⟩)⟩
     ·refine VB.o R R R (VO.alloc z115 fun b20 => ?_)
      refine VA.all [1] (by kernel_rfl) ⟨?_, trivial⟩
      obtain ⟨r12, h46, hm⟩ := bnd hm
      refine VB.o R R R (VO.callK 0 R fn68 R (res_row_ok a r12 h46) fun _ _ h49 => ?_)
      obtain ⟨rfl, rfl⟩ := h49
      refine VA.all [3] (by kernel_rfl) ⟨?_, trivial⟩
      obtain ⟨r13, h47, hm⟩ := bnd hm
      refine VB.o R R R (VO.callK 0 R fn68 R (res_row_ok b r13 h47) fun _ _ h48 => ?_)
      obtain ⟨rfl, rfl⟩ := h48
      refine VA.all [6] (by kernel_rfl) ⟨?_, trivial⟩
      refine VB.o R R R (VO.storeP (i := 1) R R R ld115 R R R ?_)
      refine VA.all [7] (by kernel_rfl) ⟨?_, trivial⟩
      refine VB.o R R R (VO.storeP (i := 0) R R R ld115 R R R ?_)
      refine VA.done (by kernel_rfl) ?_
      exact ⟨(r12, r13), (b17, b20), Option.some.inj hm, (Shift.pick [0, 0, 0] R ⟨R, R, R, R, R, trivial⟩)⟩
    ·refine VB.o R R R (VO.alloc z115 fun b21 => ?_)
     refine VA.all [1, 4] (by kernel_rfl) ⟨?_, ?_, trivial⟩
     ·obtain ⟨r14, h51, hm⟩ := bnd hm
      refine VB.o R R R (VO.callK 0 R fn68 R (res_row_ok a r14 h51) fun _ _ h58 => ?_)
      obtain ⟨rfl, rfl⟩ := h58
      refine VA.all [3, 4] (by kernel_rfl) ⟨?_, ?_, trivial⟩
      ·obtain ⟨r15, h52, hm⟩ := bnd hm
       refine VB.o R R R (VO.callK 0 R fn68 R (res_row_ok b r15 h52) fun _ _ h54 => ?_)
       obtain ⟨rfl, rfl⟩ := h54
       refine VA.all [4] (by kernel_rfl) ⟨?_, trivial⟩
       refine VB.o R R R (VO.alloc z115 fun b22 => ?_)
       refine VA.all [6] (by kernel_rfl) ⟨?_, trivial⟩
       refine VB.o R R R (VO.storeP (i := 0) R R R ld115 R R R ?_)
       refine VA.all [7] (by kernel_rfl) ⟨?_, trivial⟩
       refine VB.o R R R (VO.storeP (i := 1) R R R ld115 R R R ?_)
       refine VA.done (by kernel_rfl) ?_
       exact ⟨(r14, r15), (b22, b21), Option.some.inj hm, (Shift.pick [1, 0, 0] R ⟨R, R, R, R, R, trivial⟩)⟩
      ·refine VB.o R R R (VO.alloc z115 fun b23 => ?_)
       refine VA.all [3] (by kernel_rfl) ⟨?_, trivial⟩
       obtain ⟨r16, h56, hm⟩ := bnd hm
       refine VB.o R R R (VO.callK 0 R fn68 R (res_row_ok b r16 h56) fun _ _ h57 => ?_)
       obtain ⟨rfl, rfl⟩ := h57
       refine VA.all [6] (by kernel_rfl) ⟨?_, trivial⟩
       refine VB.o R R R (VO.storeP (i := 0) R R R ld115 R R R ?_)
       refine VA.all [7] (by kernel_rfl) ⟨?_, trivial⟩
       refine VB.o R R R (VO.storeP (i := 1) R R R ld115 R R R ?_)
       refine VA.done (by kernel_rfl) ?_
       exact ⟨(r14, r16), (b23, b21), Option.some.inj hm, (Shift.pick [1, 0, 0] R ⟨R, R, R, R, R, trivial⟩)⟩
     ·refine VB.o R R R (VO.alloc z115 fun b24 => ?_)
      refine VA.all [1] (by kernel_rfl) ⟨?_, trivial⟩
      obtain ⟨r17, h60, hm⟩ := bnd hm
      refine VB.o R R R (VO.callK 0 R fn68 R (res_row_ok a r17 h60) fun _ _ h63 => ?_)
      obtain ⟨rfl, rfl⟩ := h63
      refine VA.all [3] (by kernel_rfl) ⟨?_, trivial⟩
      obtain ⟨r18, h61, hm⟩ := bnd hm
      refine VB.o R R R (VO.callK 0 R fn68 R (res_row_ok b r18 h61) fun _ _ h62 => ?_)
      obtain ⟨rfl, rfl⟩ := h62
      refine VA.all [6] (by kernel_rfl) ⟨?_, trivial⟩
      refine VB.o R R R (VO.storeP (i := 0) R R R ld115 R R R ?_)
      refine VA.all [7] (by kernel_rfl) ⟨?_, trivial⟩
      refine VB.o R R R (VO.storeP (i := 1) R R R ld115 R R R ?_)
      refine VA.done (by kernel_rfl) ?_
      exact ⟨(r17, r18), (b24, b21), Option.some.inj hm, (Shift.pick [1, 0, 0] R ⟨R, R, R, R, R, trivial⟩)⟩
   ·rintro j ⟨b5, b6⟩ rfl
    have hm := h13
    refine VW.seq <| VW.seq <| VW.region <| VR.p R R (VP.move R) <| VR.nil ?_
    obtain ⟨o2, h64, h65⟩ := bnd hm
    refine VW.joinE (fun (q : Arr5_Int) => q = o2) (fun (l42 : Arr5_Int) (gg : Unit) => [(3, .int .i64 wrong), (8, .ptr b4 0), (10, .ptr b5 0)]) (fun (l42 : Arr5_Int) (gg : Unit) => [.box b5 115 (Arr5_Int.cells l42), .box b4 26 (T_api_Res.cells (⟨(0 : Int), (0 : Int), (0 : Int), (0 : Int), (0 : Int)⟩ : T_api_Res))]) ?_ ?_
    ·have hm := h64
     refine VW.block (VW.loop FU ?_)
     refine VL.fuelS (R := _) (fun zn (zs : Arr5_Int × Int) => res_each_res_Sub_1.l1 j zn zs.1 zs.2) (fun (zs : Arr5_Int × Int) (zg : Unit) => [(2, .clo (.func 112) [] []), (3, .int .i64 wrong), (8, .ptr b4 0), (10, .ptr b5 0), (11, .ptr b6 0), (27, .int .i64 zs.2)]) (fun (zs : Arr5_Int × Int) (zg : Unit) => [.box b6 115 (Arr5_Int.cells j.2), .box b5 115 (Arr5_Int.cells zs.1), .box b4 26 (T_api_Res.cells (⟨(0 : Int), (0 : Int), (0 : Int), (0 : Int), (0 : Int)⟩ : T_api_Res))]) (j.1, (0 : Int)) () (fun zs => R) (Shift.pick [0, 0, 0] R ⟨R, R, R, R, R, R, trivial⟩) h64 ?_
     rintro n ⟨l3, v2⟩ _ hm
     rw [res_each_res_Sub_1.l1] at hm
     refine VW.seq <| VW.region <| VR.p R R (VP.arith R R R) <| VR.nil <| VW.seq ?_
     rcases ite_or hm with ⟨h66, hm⟩ | ⟨h66, hm⟩
     ·refine VW.condT R h66 <| VW.skip <| VW.seq <| VW.block <| VW.seq <| VW.region <| VR.p R R (VP.move R) <| VR.p R R (VP.assign R) <| VR.nil <| VW.shift (Shift.mem [1, 0, 0] R) <| VW.drawK 1 mixed <| VA.p 0 R R R (by kernel_rfl) (VP.move R) <| VA.p 1 R R R (by kernel_rfl) (VP.move R) <| VA.p 2 R R R (by kernel_rfl) (VP.move R) ?_
      obtain ⟨x, h67, hm⟩ := bnd hm
      refine VA.p 3 R R R (by kernel_rfl) (VP.indexA R R ar115 (gl_pos2 h67).1 (gl_pos2 h67).2) <| VA.p 5 R R R (by kernel_rfl) (VP.move R) ?_
      obtain ⟨x2, h68, hm⟩ := bnd hm
      refine VA.p 6 R R R (by kernel_rfl) (VP.indexA R R ar115 (gl_pos2 h68).1 (gl_pos2 h68).2) <| VA.p 7 R R R (by kernel_rfl) (VP.loadA 0 (f := (VV.int .i64)) (l := Arr5_Int.l j.2) R R ld3 R h68) ?_
      refine VA.all [4] (by kernel_rfl) ⟨?_, trivial⟩
      refine VB.o R R R (VP.vo (VP.loadA 0 (f := (VV.int .i64)) (l := Arr5_Int.l l3) R R ld3 R h67) ?_)
      refine VA.all [8] (by kernel_rfl) ⟨?_, trivial⟩
      obtain ⟨r19, h69, hm⟩ := bnd hm
      refine VB.o R R R (VO.callK 0 R fn112 R (res_Sub_1_ok x x2 r19 h69) fun _ _ h72 => ?_)
      obtain ⟨rfl, rfl⟩ := h72
      obtain ⟨x3, h70, hm⟩ := bnd hm
      refine VA.p 9 R R R (by kernel_rfl) (VP.indexA R R ar115 (gl_pos2 h70).1 (gl_pos2 h70).2) ?_
      refine VA.all [10] (by kernel_rfl) ⟨?_, trivial⟩
      obtain ⟨l6, h71, hm⟩ := bnd hm
      refine VB.o R R R (VO.storeA 0 (f := (VV.int .i64)) (l := Arr5_Int.l l3) R R R ld3 R R (Arr5_Int.put_some h71) ?_)
      refine VA.done (by kernel_rfl) <| VW.region <| VR.p R R (VP.arith R R R) <| VR.p R R (VP.move R) <| VR.nil ?_
      exact ⟨(l6, (IntKind.i64.wrap (v2 + (1 : Int)))), (), hm, (Shift.pick [1, 0, 0] R ⟨R, R, R, R, R, R, trivial⟩)⟩
     ·have h66 := bf h66
      refine VW.condF R h66 <| VW.exit ?_
      exact ⟨l3, (), Option.some.inj hm, (Shift.pick [1, 1] R ⟨R, R, R, trivial⟩)⟩
    ·rintro l42 _ rfl
     have hm := h65
     refine VW.seq <| VW.seq <| VW.region <| VR.p R R (VP.loadP (i := 0) R R ld115 R) ?_
     obtain ⟨r20, h73, hm⟩ := bnd hm
     refine VR.cons R R (VO.callK 0 R fn96 R (res_back_ok l42 r20 h73) fun _ _ h78 => ?_)
     obtain ⟨rfl, rfl⟩ := h78
     refine VR.cons R R (VO.alloc z26 fun b25 => ?_)
     refine VR.cons R R (VO.storeP (i := 0) R R R ld26 R R R ?_)
     refine VR.nil <| VW.seq <| VW.region <| VR.p R R (VP.loadP (i := 0) R R ld26 R) ?_
     obtain ⟨r21, h75, hm⟩ := bnd hm
     refine VR.cons R R (VO.callK 0 R fn56 R (res_Right_ok r20 r21 h75) fun _ _ h77 => ?_)
     obtain ⟨rfl, rfl⟩ := h77
     refine VR.nil ?_
     rcases ite_or hm with ⟨h76, hm⟩ | ⟨h76, hm⟩
     ·refine VW.condT R h76 <| VW.seq <| VW.region <| VR.p R R (VP.loadP (i := 0) R R ld26 R) ?_
      refine VR.cons R R (VO.storeP (i := 2) R R R ld26 R R R ?_)
      refine VR.p R R (VP.assign R) <| VR.nil ?_
      obtain rfl := Option.some.inj hm
      exact VW.ret ⟨.inl R, _, .cons (.cell _ _ _ _ 2 _ _ _ _ R R ld26 R) (.cons (.tmp _ _ R) .nil), [], _, R, R, R⟩
     ·have h76 := bf h76
      refine VW.condF R h76 <| VW.skip <| VW.seq <| VW.region <| VR.p R R (VP.buildP pl26 R R) <| VR.p R R (VP.move R) ?_
      refine VR.cons R R (VO.storeP (i := 2) R R R ld26 R R R ?_)
      refine VR.p R R (VP.assign R) <| VR.nil ?_
      obtain rfl := Option.some.inj hm
      exact VW.ret ⟨.inl R, _, .cons (.cell _ _ _ _ 2 _ _ _ _ R R ld26 R) (.cons (.tmp _ _ R) .nil), [], _, R, R, R⟩

/-! trireme/res.Sub -/
def res_Sub (a : T_api_Res) (b : T_api_Res) : Option (T_api_Res × Int) :=
 (res_each_res_Sub_1 a b (11 : Int)).bind fun r =>
 some (r.1, r.2)
theorem res_Sub_ok (a : T_api_Res) (b : T_api_Res) (r : T_api_Res × Int) (hm : res_Sub a b = some r) :
  VC Try.prog 103 [T_api_Res.vv a, T_api_Res.vv b] [] (fun zx zH => zx = .tup [T_api_Res.vv r.1, .int .i64 r.2] ∧ zH = []) := by
 unfold res_Sub at hm
 refine VC.run (c := _) (rs := [.cell 4 26, .tmp 5]) Try.func103 R R R <| VW.seq <| VW.region ?_
 refine VR.cons R R (VO.box R R fun b2 => ?_)
 refine VR.cons R R (VO.box R R fun b3 => ?_)
 refine VR.cons R R (VO.alloc z26 fun b4 => ?_)
 refine VR.p R R (VP.assign R) <| VR.nil <| VW.seq <| VW.region <| VR.p R R (VP.loadP (i := 2) R R ld26 R) <| VR.p R R (VP.loadP (i := 1) R R ld26 R) ?_
 obtain ⟨r, h4, hm⟩ := bnd hm
 refine VR.cons R R (VO.callK 0 R fn82 R (res_each_res_Sub_1_ok a b (11 : Int) r h4) fun _ _ h5 => ?_)
 obtain ⟨rfl, rfl⟩ := h5
 refine VR.p R R (VP.extract R R) <| VR.p R R (VP.extract R R) ?_
 refine VR.cons R R (VO.storeP (i := 0) R R R ld26 R R R ?_)
 refine VR.p R R (VP.assign R) <| VR.nil ?_
 obtain rfl := Option.some.inj hm
 exact VW.ret ⟨.inl R, _, .cons (.cell _ _ _ _ 0 _ _ _ _ R R ld26 R) (.cons (.tmp _ _ R) .nil), [], _, R, R, R⟩

/-! trireme/yard.Left -/
def yard_Left (m : T_api_Machine) (bs : List T_api_Bound) : Option T_api_Res :=
 (yard_Used bs m.Name).bind fun r =>
 if (r.2 != (0 : Int)) = true then
  some (⟨(0 : Int), (0 : Int), (0 : Int), (0 : Int), (0 : Int)⟩ : T_api_Res)
 else
  (res_Least r.1 m.Has).bind fun r2 =>
  (res_Sub m.Has r2).bind fun r3 =>
  some r3.1
theorem yard_Left_ok (m : T_api_Machine) (bs : List T_api_Bound) (r : T_api_Res) (hm : yard_Left m bs = some r) :
  VC Try.prog 91 [T_api_Machine.vv m, .list 50 (List.map T_api_Bound.vv bs)] [] (fun zx zH => zx = T_api_Res.vv r ∧ zH = []) := by
 unfold yard_Left at hm
 refine VC.run (c := _) (rs := [.cell 4 26]) Try.func91 R R R <| VW.seq <| VW.region ?_
 refine VR.cons R R (VO.box R R fun b => ?_)
 refine VR.cons R R (VO.alloc z26 fun b2 => ?_)
 refine VR.nil <| VW.seq <| VW.region <| VR.p R R (VP.move R) <| VR.p R R (VP.fieldP R fa30_0) <| VR.p R R (VP.loadP (i := 1) R R ld9 R) ?_
 obtain ⟨r, h3, hm⟩ := bnd hm
 refine VR.cons R R (VO.callK 0 R fn61 R (yard_Used_ok bs m.Name r h3) fun _ _ h19 => ?_)
 obtain ⟨rfl, rfl⟩ := h19
 refine VR.p R R (VP.move R) <| VR.p R R (VP.extract R R) <| VR.p R R (VP.extract R R) ?_
 refine VR.cons R R (VO.alloc z26 fun b3 => ?_)
 refine VR.cons R R (VO.storeP (i := 0) R R R ld26 R R R ?_)
 refine VR.p R R (VP.assign R) <| VR.nil <| VW.seq <| VW.seq <| VW.region <| VR.p R R (VP.move R) <| VR.p R R (VP.arith R R R) <| VR.nil ?_
 rcases ite_or hm with ⟨h5, hm⟩ | ⟨h5, hm⟩
 ·refine VW.condT R h5 <| VW.seq <| VW.region <| VR.p R R (VP.buildP pl26 R R) ?_
  refine VR.cons R R (VO.storeP (i := 1) R R R ld26 R R R ?_)
  refine VR.nil ?_
  obtain rfl := Option.some.inj hm
  exact VW.ret ⟨.inl R, _, .cons (.cell _ _ _ _ 1 _ _ _ _ R R ld26 R) .nil, [], _, R, R, R⟩
 ·have h5 := bf h5
  refine VW.condF R h5 <| VW.skip <| VW.seq <| VW.drawK 0 mixed <| VA.p 0 R R R (by kernel_rfl) (VP.fieldP R fa30_2) <| VA.p 1 R R R (by kernel_rfl) (VP.loadP (i := 2) R R ld26 R) <| VA.p 2 R R R (by kernel_rfl) (VP.loadP (i := 0) R R ld26 R) <| VA.p 3 R R R (by kernel_rfl) (VP.fieldP R fa30_2) <| VA.p 4 R R R (by kernel_rfl) (VP.loadP (i := 2) R R ld26 R) ?_
  refine VA.all [5, 10] (by kernel_rfl) ⟨?_, ?_, trivial⟩
  ·obtain ⟨r2, h6, hm⟩ := bnd hm
   refine VB.o R R R (VO.callK 0 R fn104 R (res_Least_ok r.1 m.Has r2 h6) fun _ _ h13 => ?_)
   obtain ⟨rfl, rfl⟩ := h13
   refine VA.all [6, 10] (by kernel_rfl) ⟨?_, ?_, trivial⟩
   ·obtain ⟨r3, h7, hm⟩ := bnd hm
    refine VB.o R R R (VO.callK 0 R fn103 R (res_Sub_ok m.Has r2 r3 h7) fun _ _ h9 => ?_)
    obtain ⟨rfl, rfl⟩ := h9
    refine VA.p 7 R R R (by kernel_rfl) (VP.move R) <| VA.p 8 R R R (by kernel_rfl) (VP.extract R R) <| VA.p 9 R R R (by kernel_rfl) (VP.extract R R) ?_
    refine VA.all [10] (by kernel_rfl) ⟨?_, trivial⟩
    refine VB.o R R R (VO.alloc z26 fun b4 => ?_)
    refine VA.all [11] (by kernel_rfl) ⟨?_, trivial⟩
    refine VB.o R R R (VO.storeP (i := 0) R R R ld26 R R R ?_)
    refine VA.p 12 R R R (by kernel_rfl) (VP.assign R) <| VA.done (by kernel_rfl) <| VW.seq <| VW.region <| VR.p R R (VP.loadP (i := 0) R R ld26 R) ?_
    refine VR.cons R R (VO.storeP (i := 2) R R R ld26 R R R ?_)
    refine VR.nil ?_
    obtain rfl := Option.some.inj hm
    exact VW.ret ⟨.inl R, _, .cons (.cell _ _ _ _ 2 _ _ _ _ R R ld26 R) .nil, [], _, R, R, R⟩
   ·refine VB.o R R R (VO.alloc z26 fun b5 => ?_)
    refine VA.all [6] (by kernel_rfl) ⟨?_, trivial⟩
    obtain ⟨r4, h11, hm⟩ := bnd hm
    refine VB.o R R R (VO.callK 0 R fn103 R (res_Sub_ok m.Has r2 r4 h11) fun _ _ h12 => ?_)
    obtain ⟨rfl, rfl⟩ := h12
    refine VA.p 7 R R R (by kernel_rfl) (VP.move R) <| VA.p 8 R R R (by kernel_rfl) (VP.extract R R) <| VA.p 9 R R R (by kernel_rfl) (VP.extract R R) ?_
    refine VA.all [11] (by kernel_rfl) ⟨?_, trivial⟩
    refine VB.o R R R (VO.storeP (i := 0) R R R ld26 R R R ?_)
    refine VA.p 12 R R R (by kernel_rfl) (VP.assign R) <| VA.done (by kernel_rfl) <| VW.seq <| VW.region <| VR.p R R (VP.loadP (i := 0) R R ld26 R) ?_
    refine VR.cons R R (VO.storeP (i := 2) R R R ld26 R R R ?_)
    refine VR.nil ?_
    obtain rfl := Option.some.inj hm
    exact VW.ret ⟨.inl R, _, .cons (.cell _ _ _ _ 2 _ _ _ _ R R ld26 R) .nil, [], _, R, R, R⟩
  ·refine VB.o R R R (VO.alloc z26 fun b6 => ?_)
   refine VA.all [5] (by kernel_rfl) ⟨?_, trivial⟩
   obtain ⟨r5, h15, hm⟩ := bnd hm
   refine VB.o R R R (VO.callK 0 R fn104 R (res_Least_ok r.1 m.Has r5 h15) fun _ _ h18 => ?_)
   obtain ⟨rfl, rfl⟩ := h18
   refine VA.all [6] (by kernel_rfl) ⟨?_, trivial⟩
   obtain ⟨r6, h16, hm⟩ := bnd hm
   refine VB.o R R R (VO.callK 0 R fn103 R (res_Sub_ok m.Has r5 r6 h16) fun _ _ h17 => ?_)
   obtain ⟨rfl, rfl⟩ := h17
   refine VA.p 7 R R R (by kernel_rfl) (VP.move R) <| VA.p 8 R R R (by kernel_rfl) (VP.extract R R) <| VA.p 9 R R R (by kernel_rfl) (VP.extract R R) ?_
   refine VA.all [11] (by kernel_rfl) ⟨?_, trivial⟩
   refine VB.o R R R (VO.storeP (i := 0) R R R ld26 R R R ?_)
   refine VA.p 12 R R R (by kernel_rfl) (VP.assign R) <| VA.done (by kernel_rfl) <| VW.seq <| VW.region <| VR.p R R (VP.loadP (i := 0) R R ld26 R) ?_
   refine VR.cons R R (VO.storeP (i := 2) R R R ld26 R R R ?_)
   refine VR.nil ?_
   obtain rfl := Option.some.inj hm
   exact VW.ret ⟨.inl R, _, .cons (.cell _ _ _ _ 2 _ _ _ _ R R ld26 R) .nil, [], _, R, R, R⟩

/-! trireme/res.Fits -/
def res_Fits (a : T_api_Res) (b : T_api_Res) : Option Bool :=
 (res_Sub b a).bind fun r =>
 some (r.2 == (0 : Int))
theorem res_Fits_ok (a : T_api_Res) (b : T_api_Res) (r : Bool) (hm : res_Fits a b = some r) :
  VC Try.prog 90 [T_api_Res.vv a, T_api_Res.vv b] [] (fun zx zH => zx = .bool r ∧ zH = []) := by
 unfold res_Fits at hm
 refine VC.run (c := _) (rs := [.tmp 4]) Try.func90 R R R <| VW.seq <| VW.region ?_
 refine VR.cons R R (VO.box R R fun b2 => ?_)
 refine VR.cons R R (VO.box R R fun b3 => ?_)
 refine VR.p R R (VP.assign R) <| VR.nil <| VW.seq <| VW.region <| VR.p R R (VP.loadP (i := 0) R R ld26 R) <| VR.p R R (VP.loadP (i := 1) R R ld26 R) ?_
 obtain ⟨r, h3, hm⟩ := bnd hm
 refine VR.cons R R (VO.callK 0 R fn103 R (res_Sub_ok b a r h3) fun _ _ h5 => ?_)
 obtain ⟨rfl, rfl⟩ := h5
 refine VR.p R R (VP.move R) <| VR.p R R (VP.extract R R) <| VR.p R R (VP.extract R R) ?_
 refine VR.cons R R (VO.alloc z26 fun b4 => ?_)
 refine VR.cons R R (VO.storeP (i := 0) R R R ld26 R R R ?_)
 refine VR.p R R (VP.assign R) <| VR.nil <| VW.seq <| VW.region <| VR.p R R (VP.move R) <| VR.p R R (VP.arith R R R) <| VR.p R R (VP.assign R) <| VR.nil ?_
 obtain rfl := Option.some.inj hm
 exact VW.ret ⟨.inl R, _, .cons (.tmp _ _ R) .nil, [], _, R, R, R⟩

/-! trireme/suit.common -/
def suit_common.l1 : Nat → (List Int) → (List Int) → Option (Out Bool Unit)
 | 0, _, _ => none
 | n + 1, a3, b3 =>
  if ((decide ((a3.length : Int) > (0 : Int))) && (decide ((b3.length : Int) > (0 : Int)))) = true then
   (V.gl a3 (0 : Int)).bind fun x =>
   (V.gl b3 (0 : Int)).bind fun x2 =>
   if (x == x2) = true then
    some (Out.ret true)
   else
    (V.gl a3 (0 : Int)).bind fun x3 =>
    (V.gl b3 (0 : Int)).bind fun x4 =>
    if (decide (x3 < x4)) = true then
     (V.sl a3 (some (1 : Int)) none).bind fun v =>
     suit_common.l1 n v b3
    else
     (V.sl b3 (some (1 : Int)) none).bind fun v2 =>
     suit_common.l1 n a3 v2
  else
   some (Out.go ())
def suit_common (a : List Int) (b : List Int) : Option Bool :=
 (suit_common.l1 FU a b).bind fun o =>
 o.on fun j =>
 some false
theorem suit_common_ok (a : List Int) (b : List Int) (r : Bool) (hm : suit_common a b = some r) :
  VC Try.prog 92 [.list 3 (List.map (VV.int .i64) a), .list 3 (List.map (VV.int .i64) b)] [] (fun zx zH => zx = .bool r ∧ zH = []) := by
 unfold suit_common at hm
 refine VC.run (c := _) (rs := [.tmp 4]) Try.func92 R R R <| VW.seq <| VW.region <| VR.p R R (VP.assign R) <| VR.nil ?_
 obtain ⟨o, h1, h2⟩ := bnd hm
 refine VW.join (fun (q : Unit) => o = Out.go q) (fun (j : Unit) (gg : Unit) => []) (fun (j : Unit) (gg : Unit) => []) ?_ ?_
 ·have hm := h1
  refine VW.block (VW.loop FU ?_)
  refine VL.fuelS (R := _) (fun zn (zs : List Int × List Int) => suit_common.l1 zn zs.1 zs.2) (fun (zs : List Int × List Int) (zg : Unit) => [(0, .list 3 (List.map (VV.int .i64) zs.1)), (1, .list 3 (List.map (VV.int .i64) zs.2))]) (fun (zs : List Int × List Int) (zg : Unit) => []) (a, b) () (fun zs => R) (Shift.pick [] R ⟨R, R, trivial⟩) h1 ?_
  rintro n ⟨a3, b3⟩ _ hm
  rw [suit_common.l1] at hm
  refine VW.seq <| VW.seq <| VW.region <| VR.p R R (VP.move R) <| VR.p R R (VP.lenT (VV.int .i64) R Try.underlying37) <| VR.p R R (VP.arith R R R) <| VR.p R R (VP.move R) ?_
  refine VR.sc 4 12 (.bool ((decide ((a3.length : Int) > (0 : Int))) && (decide ((b3.length : Int) > (0 : Int))))) (fun K' J => ?_) ?_
  ·rcases Bool.eq_false_or_eq_true (decide ((a3.length : Int) > (0 : Int))) with h3 | h3
   ·refine VR.pG R R R R h3 (VP.move R) <| VR.pG R R R R h3 (VP.lenT (VV.int .i64) R Try.underlying37) <| VR.pG R R R R h3 (VP.arith R R R) <| VR.p R R (VP.pickB true R h3 R) ?_
    exact J [_, _, _] _ R (andT h3)
   ·refine VR.skipG R R R R h3 <| VR.skipG R R R R h3 <| VR.skipG R R R R h3 <| VR.p R R (VP.pickB false R h3 R) ?_
    exact J [_, _, _] _ R (andF h3)
  ·refine VR.nil ?_
   rcases ite_or hm with ⟨h4, hm⟩ | ⟨h4, hm⟩
   ·refine VW.condT R h4 <| VW.skip <| VW.block <| VW.block <| VW.seq <| VW.drawK 0 mixed <| VA.p 0 R R R (by kernel_rfl) (VP.move R) ?_
    obtain ⟨x, h5, hm⟩ := bnd hm
    refine VA.p 1 R R R (by kernel_rfl) (VP.glE (VV.int .i64) R R el37 h5) <| VA.p 2 R R R (by kernel_rfl) (VP.loadE R ld3 R) <| VA.p 3 R R R (by kernel_rfl) (VP.move R) ?_
    obtain ⟨x2, h6, hm⟩ := bnd hm
    refine VA.p 4 R R R (by kernel_rfl) (VP.glE (VV.int .i64) R R el37 h6) <| VA.p 5 R R R (by kernel_rfl) (VP.loadE R ld3 R) <| VA.p 6 R R R (by kernel_rfl) (VP.arith R R R) <| VA.p 7 R R R (by kernel_rfl) (VP.assign R) <| VA.done (by kernel_rfl) ?_
    rcases ite_or hm with ⟨h7, hm⟩ | ⟨h7, hm⟩
    ·refine VW.condT R h7 <| VW.seq <| VW.region <| VR.p R R (VP.assign R) <| VR.nil ?_
     obtain rfl := Option.some.inj hm
     have hm := Out.ret_on h2
     obtain rfl := Option.some.inj hm
     exact VW.ret ⟨.inl R, _, .cons (.tmp _ _ R) .nil, [], _, R, R, R⟩
    ·have h7 := bf h7
     refine VW.condF R h7 <| VW.seq <| VW.drawK 0 mixed <| VA.p 0 R R R (by kernel_rfl) (VP.move R) ?_
     obtain ⟨x3, h8, hm⟩ := bnd hm
     refine VA.p 1 R R R (by kernel_rfl) (VP.glE (VV.int .i64) R R el37 h8) <| VA.p 2 R R R (by kernel_rfl) (VP.loadE R ld3 R) <| VA.p 3 R R R (by kernel_rfl) (VP.move R) ?_
     obtain ⟨x4, h9, hm⟩ := bnd hm
     refine VA.p 4 R R R (by kernel_rfl) (VP.glE (VV.int .i64) R R el37 h9) <| VA.p 5 R R R (by kernel_rfl) (VP.loadE R ld3 R) <| VA.p 6 R R R (by kernel_rfl) (VP.arith R R R) <| VA.p 7 R R R (by kernel_rfl) (VP.assign R) <| VA.done (by kernel_rfl) ?_
     rcases ite_or hm with ⟨h10, hm⟩ | ⟨h10, hm⟩
     ·refine VW.condT R h10 <| VW.region <| VR.p R R (VP.move R) ?_
      obtain ⟨v, h11, hm⟩ := bnd hm
      refine VR.p R R (VP.slT R R R el37 h11) <| VR.p R R (VP.assign R) <| VR.nil ?_
      exact ⟨(v, b3), (), hm, (Shift.pick [] R ⟨R, R, trivial⟩)⟩
     ·have h10 := bf h10
      refine VW.condF R h10 <| VW.region <| VR.p R R (VP.move R) ?_
      obtain ⟨v2, h12, hm⟩ := bnd hm
      refine VR.p R R (VP.slT R R R el37 h12) <| VR.p R R (VP.assign R) <| VR.nil ?_
      exact ⟨(a3, v2), (), hm, (Shift.pick [] R ⟨R, R, trivial⟩)⟩
   ·have h4 := bf h4
    refine VW.condF R h4 <| VW.exit ?_
    exact ⟨(), (), (Option.some.inj hm).symm, (Shift.pick [] R trivial)⟩
 ·rintro j _ rfl
  have hm := Out.go_on h2
  refine VW.seq <| VW.region <| VR.p R R (VP.assign R) <| VR.nil ?_
  obtain rfl := Option.some.inj hm
  exact VW.ret ⟨.inl R, _, .cons (.tmp _ _ R) .nil, [], _, R, R, R⟩

/-! trireme/suit.Room -/
def suit_Room.l1 (p : T_api_Pod) : List T_api_Pod → Nat → Option (Out Int Unit)
 | [], k => some (Out.go ())
 | x :: l, k =>
  (suit_common p.Ports x.Ports).bind fun r5 =>
  if r5 = true then
   some (Out.ret (3 : Int))
  else
   suit_Room.l1 p l (k + 1)
def suit_Room (m : T_api_Machine) (bs : List T_api_Bound) (p : T_api_Pod) : Option Int :=
 (suit_others bs p.Name).bind fun r =>
 (yard_Left m r).bind fun r2 =>
 (res_Fits p.Need r2).bind fun r3 =>
 if (!r3) = true then
  some (2 : Int)
 else
  (yard_On r m.Name).bind fun r4 =>
  (suit_Room.l1 p r4 0).bind fun o =>
  o.on fun j =>
  some (0 : Int)
theorem suit_Room_ok (m : T_api_Machine) (bs : List T_api_Bound) (p : T_api_Pod) (r : Int) (hm : suit_Room m bs p = some r) :
  VC Try.prog 79 [T_api_Machine.vv m, .list 50 (List.map T_api_Bound.vv bs), T_api_Pod.vv p] [] (fun zx zH => zx = .int .i64 r ∧ zH = []) := by
 unfold suit_Room at hm
 refine VC.run (c := _) (rs := [.tmp 6]) Try.func79 R R R <| VW.seq <| VW.region ?_
 refine VR.cons R R (VO.box R R fun b => ?_)
 refine VR.cons R R (VO.box R R fun b2 => ?_)
 refine VR.p R R (VP.assign R) <| VR.nil <| VW.seq <| VW.region <| VR.p R R (VP.move R) <| VR.p R R (VP.fieldP R fa39_0) <| VR.p R R (VP.loadP (i := 0) R R ld9 R) ?_
 obtain ⟨r, h3, hm⟩ := bnd hm
 refine VR.cons R R (VO.callK 0 R fn89 R (suit_others_ok bs p.Name r h3) fun _ _ h21 => ?_)
 obtain ⟨ob, cap, rfl, rfl⟩ := h21
 refine VR.shift (Shift.freezeE 0 [(13, .list 50 (List.map T_api_Bound.vv r))] R ⟨⟨_, R, .here _ R⟩, trivial⟩ (FzH.refl _)) <| VR.p R R (VP.assign R) <| VR.nil <| VW.seq <| VW.seq <| VW.drawK 0 mixed <| VA.p 0 R R R (by kernel_rfl) (VP.fieldP R fa39_1) <| VA.p 1 R R R (by kernel_rfl) (VP.loadP (i := 0) R R ld26 R) <| VA.p 2 R R R (by kernel_rfl) (VP.loadP (i := 1) R R ld30 R) <| VA.p 3 R R R (by kernel_rfl) (VP.move R) ?_
 refine VA.all [4] (by kernel_rfl) ⟨?_, trivial⟩
 obtain ⟨r2, h5, hm⟩ := bnd hm
 refine VB.o R R R (VO.callK 0 R fn91 R (yard_Left_ok m r r2 h5) fun _ _ h20 => ?_)
 obtain ⟨rfl, rfl⟩ := h20
 refine VA.all [5] (by kernel_rfl) ⟨?_, trivial⟩
 obtain ⟨r3, h6, hm⟩ := bnd hm
 refine VB.o R R R (VO.callK 0 R fn90 R (res_Fits_ok p.Need r2 r3 h6) fun _ _ h19 => ?_)
 obtain ⟨rfl, rfl⟩ := h19
 refine VA.p 6 R R R (by kernel_rfl) (VP.not R) <| VA.done (by kernel_rfl) ?_
 rcases ite_or hm with ⟨h7, hm⟩ | ⟨h7, hm⟩
 ·refine VW.condT R h7 <| VW.seq <| VW.region <| VR.p R R (VP.assign R) <| VR.nil ?_
  obtain rfl := Option.some.inj hm
  exact VW.ret ⟨.inl R, _, .cons (.tmp _ _ R) .nil, [], _, R, R, R⟩
 ·have h7 := bf h7
  refine VW.condF R h7 <| VW.skip <| VW.seq <| VW.seq <| VW.region <| VR.p R R (VP.move R) <| VR.p R R (VP.fieldP R fa30_0) <| VR.p R R (VP.loadP (i := 1) R R ld9 R) ?_
  obtain ⟨r4, h8, hm⟩ := bnd hm
  refine VR.cons R R (VO.callK 0 R fn71 R (yard_On_ok r m.Name r4 h8) fun _ _ h18 => ?_)
  obtain ⟨ob2, cap2, rfl, rfl⟩ := h18
  refine VR.shift (Shift.freezeE 0 [(24, .list 39 (List.map T_api_Pod.vv r4))] R ⟨⟨_, R, .here _ R⟩, trivial⟩ (FzH.refl _)) <| VR.p R R (VP.lenT T_api_Pod.vv R Try.underlying24) <| VR.p R R (VP.move R) <| VR.nil <| VW.lenL 24 R fun h12 => ?_
  have h12 := max_map h12
  obtain ⟨o, h10, h11⟩ := bnd hm
  refine VW.joinE (fun (q : Unit) => o = Out.go q) (fun (j : Unit) (gg : Unit) => []) (fun (j : Unit) (gg : Unit) => []) ?_ ?_
  ·have hm := h10
   refine VW.block (VW.loop (r4.length + 1) ?_)
   refine VL.eachS (l := r4) (R := _) (fun zl zk (zs : Unit) => suit_Room.l1 p zl zk) (fun (k : Nat) (zs : Unit) (zg : Unit) => [(5, .ptr b2 0), (24, .list 39 (List.map T_api_Pod.vv r4)), (25, .int .i64 (r4.length : Int)), (26, .int .i64 (k : Int))]) (fun (k : Nat) (zs : Unit) (zg : Unit) => [.box b2 39 (T_api_Pod.cells p)]) () () (Shift.pick [0] R ⟨R, R, R, R, trivial⟩) h10 ?_ ?_
   ·rintro k _ _ hk hm
    rw [suit_Room.l1] at hm
    refine VW.seq <| VW.region <| VR.p R R (VP.arith R R R) <| VR.nil <| VW.seq <| VW.condF R (k_end hk) <| VW.exit ?_
    exact ⟨(), (), (Option.some.inj hm).symm, (Shift.pick [] R trivial)⟩
   ·rintro k x l _ _ h13 hm
    rw [suit_Room.l1] at hm
    refine VW.seq <| VW.region <| VR.p R R (VP.arith R R R) <| VR.nil <| VW.seq <| VW.condT R (k_lt h13) <| VW.skip <| VW.seq <| VW.block <| VW.seq <| VW.region <| VR.p R R (VP.glK T_api_Pod.vv R R el24 h13) <| VR.p R R (VP.loadE R ld39 R) ?_
    refine VR.cons R R (VO.alloc z39 fun b3 => ?_)
    refine VR.cons R R (VO.storeP (i := 0) R R R ld39 R R R ?_)
    refine VR.nil <| VW.seq <| VW.region <| VR.p R R (VP.fieldP R fa39_6) <| VR.p R R (VP.loadP (i := 1) R R ld37 R) <| VR.p R R (VP.fieldP R fa39_6) <| VR.p R R (VP.loadP (i := 0) R R ld37 R) ?_
    obtain ⟨r5, h15, hm⟩ := bnd hm
    refine VR.cons R R (VO.callK 0 R fn92 R (suit_common_ok p.Ports x.Ports r5 h15) fun _ _ h17 => ?_)
    obtain ⟨rfl, rfl⟩ := h17
    refine VR.nil ?_
    rcases ite_or hm with ⟨h16, hm⟩ | ⟨h16, hm⟩
    ·refine VW.condT R h16 <| VW.seq <| VW.region <| VR.p R R (VP.assign R) <| VR.nil ?_
     obtain rfl := Option.some.inj hm
     have hm := Out.ret_on h11
     obtain rfl := Option.some.inj hm
     exact VW.ret ⟨.inl R, _, .cons (.tmp _ _ R) .nil, [], _, R, R, R⟩
    ·have h16 := bf h16
     refine VW.condF R h16 <| VW.skip <| VW.region <| VR.p R R (VP.arith R R R) <| VR.p R R (VP.move R) <| VR.nil ?_
     exact ⟨(), (), hm, (Shift.pick [1] R ⟨R, R, R, congrArg some (k_next h13 h12), trivial⟩)⟩
  ·rintro j _ rfl
   have hm := Out.go_on h11
   refine VW.seq <| VW.region <| VR.p R R (VP.assign R) <| VR.nil ?_
   obtain rfl := Option.some.inj hm
   exact VW.ret ⟨.inl R, _, .cons (.tmp _ _ R) .nil, [], _, R, R, R⟩

/-! trireme/suit.Suits -/
def suit_Suits (m : T_api_Machine) (bs : List T_api_Bound) (p : T_api_Pod) : Option Int :=
 (suit_Place m p).bind fun r =>
 if (r == (1 : Int)) = true then
  some r
 else
  if (r == (4 : Int)) = true then
   some r
  else
   if (r == (5 : Int)) = true then
    some r
   else
    if (r == (6 : Int)) = true then
     some r
    else
     (suit_Room m bs p).bind fun r2 =>
     some r2
theorem suit_Suits_ok (m : T_api_Machine) (bs : List T_api_Bound) (p : T_api_Pod) (r : Int) (hm : suit_Suits m bs p = some r) :
  VC Try.prog 69 [T_api_Machine.vv m, .list 50 (List.map T_api_Bound.vv bs), T_api_Pod.vv p] [] (fun zx zH => zx = .int .i64 r ∧ zH = []) := by
 unfold suit_Suits at hm
 refine VC.run (c := _) (rs := [.tmp 6]) Try.func69 R R R <| VW.seq <| VW.region ?_
 refine VR.cons R R (VO.box R R fun b => ?_)
 refine VR.cons R R (VO.box R R fun b2 => ?_)
 refine VR.p R R (VP.assign R) <| VR.nil <| VW.seq <| VW.region <| VR.p R R (VP.loadP (i := 1) R R ld30 R) <| VR.p R R (VP.loadP (i := 0) R R ld39 R) ?_
 obtain ⟨r, h3, hm⟩ := bnd hm
 refine VR.cons R R (VO.callK 0 R fn78 R (suit_Place_ok m p r h3) fun _ _ h10 => ?_)
 obtain ⟨rfl, rfl⟩ := h10
 refine VR.p R R (VP.assign R) <| VR.nil <| VW.seq <| VW.seq <| VW.region <| VR.p R R (VP.move R) <| VR.nil <| VW.block <| VW.seq <| VW.block <| VW.block <| VW.block <| VW.seq <| VW.seq <| VW.seq <| VW.region <| VR.p R R (VP.arith R R R) <| VR.p R R (VP.assign R) <| VR.nil ?_
 rcases ite_or hm with ⟨h4, hm⟩ | ⟨h4, hm⟩
 ·refine VW.condT R h4 <| VW.exit <| VW.seq <| VW.seq <| VW.region <| VR.p R R (VP.move R) <| VR.p R R (VP.assign R) <| VR.nil ?_
  obtain rfl := Option.some.inj hm
  exact VW.ret ⟨.inl R, _, .cons (.tmp _ _ R) .nil, [], _, R, R, R⟩
 ·have h4 := bf h4
  refine VW.condF R h4 <| VW.skip <| VW.seq <| VW.seq <| VW.region <| VR.p R R (VP.arith R R R) <| VR.p R R (VP.assign R) <| VR.nil ?_
  rcases ite_or hm with ⟨h5, hm⟩ | ⟨h5, hm⟩
  ·refine VW.condT R h5 <| VW.exit <| VW.seq <| VW.seq <| VW.region <| VR.p R R (VP.move R) <| VR.p R R (VP.assign R) <| VR.nil ?_
   obtain rfl := Option.some.inj hm
   exact VW.ret ⟨.inl R, _, .cons (.tmp _ _ R) .nil, [], _, R, R, R⟩
  ·have h5 := bf h5
   refine VW.condF R h5 <| VW.skip <| VW.seq <| VW.seq <| VW.region <| VR.p R R (VP.arith R R R) <| VR.p R R (VP.assign R) <| VR.nil ?_
   rcases ite_or hm with ⟨h6, hm⟩ | ⟨h6, hm⟩
   ·refine VW.condT R h6 <| VW.skip <| VW.condT R h6 <| VW.exit <| VW.seq <| VW.seq <| VW.region <| VR.p R R (VP.move R) <| VR.p R R (VP.assign R) <| VR.nil ?_
    obtain rfl := Option.some.inj hm
    exact VW.ret ⟨.inl R, _, .cons (.tmp _ _ R) .nil, [], _, R, R, R⟩
   ·have h6 := bf h6
    refine VW.condF R h6 <| VW.region <| VR.p R R (VP.arith R R R) <| VR.p R R (VP.assign R) <| VR.nil ?_
    rcases ite_or hm with ⟨h7, hm⟩ | ⟨h7, hm⟩
    ·refine VW.condT R h7 <| VW.exit <| VW.seq <| VW.seq <| VW.region <| VR.p R R (VP.move R) <| VR.p R R (VP.assign R) <| VR.nil ?_
     obtain rfl := Option.some.inj hm
     exact VW.ret ⟨.inl R, _, .cons (.tmp _ _ R) .nil, [], _, R, R, R⟩
    ·have h7 := bf h7
     refine VW.condF R h7 <| VW.skip <| VW.exit <| VW.seq <| VW.region <| VR.p R R (VP.loadP (i := 1) R R ld30 R) <| VR.p R R (VP.move R) <| VR.p R R (VP.loadP (i := 0) R R ld39 R) ?_
     obtain ⟨r2, h8, hm⟩ := bnd hm
     refine VR.cons R R (VO.callK 0 R fn79 R (suit_Room_ok m bs p r2 h8) fun _ _ h9 => ?_)
     obtain ⟨rfl, rfl⟩ := h9
     refine VR.p R R (VP.assign R) <| VR.nil ?_
     obtain rfl := Option.some.inj hm
     exact VW.ret ⟨.inl R, _, .cons (.tmp _ _ R) .nil, [], _, R, R, R⟩

/-! trireme/yard.Find$1 -/
def yard_Find_1 (i : Int) (a : List T_api_Machine) (a2 : ByteArray) : Option Bool :=
 (V.gl a i).bind fun x =>
 some (V.seq x.Name a2)
theorem yard_Find_1_ok (i : Int) (a : List T_api_Machine) (a2 : ByteArray) (b : Nat) (b2 : Nat) (r : Bool) (hm : yard_Find_1 i a a2 = some r) :
  VC Try.prog 64 [.int .i64 i, .ptr b 0, .ptr b2 0] [.box b 22 [.list 30 (List.map T_api_Machine.vv a)], .box b2 9 [.str a2]] (fun zx zH => zx = .bool r ∧ zH = [.box b 22 [.list 30 (List.map T_api_Machine.vv a)], .box b2 9 [.str a2]]) := by
 unfold yard_Find_1 at hm
 refine VC.run (c := _) (rs := [.tmp 4]) Try.func64 R R R <| VW.seq <| VW.region <| VR.p R R (VP.assign R) <| VR.nil <| VW.seq <| VW.drawK 0 mixed <| VA.p 0 R R R (by kernel_rfl) (VP.loadP (i := 0) R R ld22 R) <| VA.p 1 R R R (by kernel_rfl) (VP.move R) ?_
 obtain ⟨x, h1, hm⟩ := bnd hm
 refine VA.p 2 R R R (by kernel_rfl) (VP.glE T_api_Machine.vv R R el22 h1) <| VA.p 3 R R R (by kernel_rfl) (VP.fieldE R fa30_0) <| VA.p 4 R R R (by kernel_rfl) (VP.loadE R ld9 R) <| VA.p 5 R R R (by kernel_rfl) (VP.loadP (i := 1) R R ld9 R) <| VA.p 6 R R R (by kernel_rfl) (VP.strop R R R) <| VA.p 7 R R R (by kernel_rfl) (VP.assign R) <| VA.done (by kernel_rfl) ?_
 obtain rfl := Option.some.inj hm
 exact VW.ret ⟨.inl R, _, .cons (.tmp _ _ R) .nil, [0, 0], _, R, R, R⟩

/-! trireme/yard.first -/
def yard_first_yard_Find_1.l1 (n : Int) (c : List T_api_Machine) (c2 : ByteArray) : Nat → Int → Option (Out Int Unit)
 | 0, _ => none
 | n2 + 1, v2 =>
  if (decide (v2 < n)) = true then
   (yard_Find_1 v2 c c2).bind fun r =>
   if r = true then
    some (Out.ret v2)
   else
    yard_first_yard_Find_1.l1 n c c2 n2 (IntKind.i64.wrap (v2 + (1 : Int)))
  else
   some (Out.go ())
def yard_first_yard_Find_1 (n : Int) (c : List T_api_Machine) (c2 : ByteArray) : Option Int :=
 (yard_first_yard_Find_1.l1 n c c2 FU (0 : Int)).bind fun o =>
 o.on fun j =>
 some (-1 : Int)
theorem yard_first_yard_Find_1_ok (n : Int) (c : List T_api_Machine) (c2 : ByteArray) (b : Nat) (b2 : Nat) (r : Int) (hm : yard_first_yard_Find_1 n c c2 = some r) :
  VC Try.prog 63 [.int .i64 n, .clo (.func 64) [] [.ptr b 0, .ptr b2 0]] [.box b 22 [.list 30 (List.map T_api_Machine.vv c)], .box b2 9 [.str c2]] (fun zx zH => zx = .int .i64 r ∧ zH = [.box b 22 [.list 30 (List.map T_api_Machine.vv c)], .box b2 9 [.str c2]]) := by
 unfold yard_first_yard_Find_1 at hm
 refine VC.run (c := _) (rs := [.tmp 4]) Try.func63 R R R <| VW.seq <| VW.region <| VR.p R R (VP.assign R) <| VR.nil <| VW.seq <| VW.seq <| VW.region <| VR.p R R (VP.move R) <| VR.p R R (VP.move R) <| VR.nil ?_
 obtain ⟨o, h1, h2⟩ := bnd hm
 refine VW.joinE (fun (q : Unit) => o = Out.go q) (fun (j : Unit) (gg : Unit) => []) (fun (j : Unit) (gg : Unit) => [.box b 22 [.list 30 (List.map T_api_Machine.vv c)], .box b2 9 [.str c2]]) ?_ ?_
 ·have hm := h1
  refine VW.block (VW.loop FU ?_)
  refine VL.fuelS (R := _) (fun zn (zs : Int) => yard_first_yard_Find_1.l1 n c c2 zn zs) (fun (zs : Int) (zg : Unit) => [(1, .clo (.func 64) [] [.ptr b 0, .ptr b2 0]), (6, .int .i64 n), (7, .int .i64 zs)]) (fun (zs : Int) (zg : Unit) => [.box b 22 [.list 30 (List.map T_api_Machine.vv c)], .box b2 9 [.str c2]]) (0 : Int) () (fun zs => R) (Shift.pick [0, 0] R ⟨R, R, R, trivial⟩) h1 ?_
  rintro n2 v2 _ hm
  rw [yard_first_yard_Find_1.l1] at hm
  refine VW.seq <| VW.region <| VR.p R R (VP.arith R R R) <| VR.nil <| VW.seq ?_
  rcases ite_or hm with ⟨h3, hm⟩ | ⟨h3, hm⟩
  ·refine VW.condT R h3 <| VW.skip <| VW.seq <| VW.block <| VW.seq <| VW.region <| VR.p R R (VP.move R) <| VR.p R R (VP.assign R) <| VR.nil <| VW.seq <| VW.region <| VR.p R R (VP.move R) <| VR.p R R (VP.move R) ?_
   obtain ⟨r, h4, hm⟩ := bnd hm
   refine VR.cons R R (VO.callK 2 R fn64 R (yard_Find_1_ok v2 c c2 b b2 r h4) fun _ _ h6 => ?_)
   obtain ⟨rfl, rfl⟩ := h6
   refine VR.nil ?_
   rcases ite_or hm with ⟨h5, hm⟩ | ⟨h5, hm⟩
   ·refine VW.condT R h5 <| VW.seq <| VW.region <| VR.p R R (VP.move R) <| VR.p R R (VP.assign R) <| VR.nil ?_
    obtain rfl := Option.some.inj hm
    have hm := Out.ret_on h2
    obtain rfl := Option.some.inj hm
    exact VW.ret ⟨.inl R, _, .cons (.tmp _ _ R) .nil, [0, 0], _, R, R, R⟩
   ·have h5 := bf h5
    refine VW.condF R h5 <| VW.skip <| VW.region <| VR.p R R (VP.arith R R R) <| VR.p R R (VP.move R) <| VR.nil ?_
    exact ⟨(IntKind.i64.wrap (v2 + (1 : Int))), (), hm, (Shift.pick [0, 0] R ⟨R, R, R, trivial⟩)⟩
  ·have h3 := bf h3
   refine VW.condF R h3 <| VW.exit ?_
   exact ⟨(), (), (Option.some.inj hm).symm, (Shift.pick [0, 0] R trivial)⟩
 ·rintro j _ rfl
  have hm := Out.go_on h2
  refine VW.seq <| VW.region <| VR.p R R (VP.assign R) <| VR.nil ?_
  obtain rfl := Option.some.inj hm
  exact VW.ret ⟨.inl R, _, .cons (.tmp _ _ R) .nil, [0, 0], _, R, R, R⟩

/-! trireme/yard.Find -/
def yard_Find (ms : List T_api_Machine) (name : ByteArray) : Option Int :=
 (yard_first_yard_Find_1 (ms.length : Int) ms name).bind fun r =>
 some r
theorem yard_Find_ok (ms : List T_api_Machine) (name : ByteArray) (r : Int) (hm : yard_Find ms name = some r) :
  VC Try.prog 44 [.list 30 (List.map T_api_Machine.vv ms), .str name] [] (fun zx zH => zx = .int .i64 r ∧ zH = []) := by
 unfold yard_Find at hm
 refine VC.run (c := _) (rs := [.tmp 4]) Try.func44 R R R <| VW.seq <| VW.region ?_
 refine VR.cons R R (VO.box R R fun b => ?_)
 refine VR.cons R R (VO.box R R fun b2 => ?_)
 refine VR.p R R (VP.assign R) <| VR.nil <| VW.seq <| VW.region <| VR.p R R (VP.loadP (i := 1) R R ld22 R) <| VR.p R R (VP.lenT T_api_Machine.vv R Try.underlying22) <| VR.p R R (VP.makeFunc R R) ?_
 obtain ⟨r, h3, hm⟩ := bnd hm
 refine VR.shift (Shift.mem [1, 0] R) ?_
 refine VR.cons R R (VO.callK 2 R fn63 R (yard_first_yard_Find_1_ok (ms.length : Int) ms name b b2 r h3) fun _ _ h4 => ?_)
 obtain ⟨rfl, rfl⟩ := h4
 refine VR.p R R (VP.assign R) <| VR.nil ?_
 obtain rfl := Option.some.inj hm
 exact VW.ret ⟨.inl R, _, .cons (.tmp _ _ R) .nil, [], _, R, R, R⟩

/-! trireme/apart.zones -/
def apart_zones.l1 : List T_api_Machine → Nat → (List (ByteArray × ByteArray)) → Option (List (ByteArray × ByteArray))
 | [], k, out2 => some out2
 | x :: l, k, out2 =>
  (labels_Get x.Labels (⟨#[122, 111, 110, 101]⟩ : ByteArray)).bind fun r =>
  if r.2 = true then
   apart_zones.l1 l (k + 1) (V.mp out2 x.Name r.1)
  else
   apart_zones.l1 l (k + 1) out2
def apart_zones (ms : List T_api_Machine) : Option (List (ByteArray × ByteArray)) :=
 (apart_zones.l1 ms 0 ([] : List (ByteArray × ByteArray))).bind fun out32 =>
 some out32
theorem apart_zones_ok (ms : List T_api_Machine) (r : (List (ByteArray × ByteArray))) (hm : apart_zones ms = some r) :
  VC Try.prog 93 [.list 30 (List.map T_api_Machine.vv ms)] [] (fun zx zH => ∃ (b_0 : Nat), zx = .map b_0 ∧ zH = [.map b_0 (List.map (pf VV.str VV.str) r)]) := by
 unfold apart_zones at hm
 refine VC.run (c := _) (rs := [.tmp 2]) Try.func93 R R R <| VW.seq <| VW.region <| VR.p R R (VP.assign R) <| VR.nil <| VW.seq <| VW.region ?_
 refine VR.cons R R (VO.makeMap fun b => ?_)
 refine VR.p R R (VP.assign R) <| VR.nil <| VW.seq <| VW.seq <| VW.region <| VR.p R R (VP.move R) <| VR.p R R (VP.lenT T_api_Machine.vv R Try.underlying22) <| VR.p R R (VP.move R) <| VR.nil <| VW.lenL 9 R fun h4 => ?_
 have h4 := max_map h4
 obtain ⟨o, h2, h3⟩ := bnd hm
 refine VW.joinE (fun (q : (List (ByteArray × ByteArray))) => q = o) (fun (out32 : (List (ByteArray × ByteArray))) (gg : Unit) => [(3, .map b)]) (fun (out32 : (List (ByteArray × ByteArray))) (gg : Unit) => [.map b (List.map (pf VV.str VV.str) out32)]) ?_ ?_
 ·have hm := h2
  refine VW.block (VW.loop (ms.length + 1) ?_)
  refine VL.eachS (l := ms) (R := _) (fun zl zk (zs : List (ByteArray × ByteArray)) => apart_zones.l1 zl zk zs) (fun (k : Nat) (zs : List (ByteArray × ByteArray)) (zg : Unit) => [(3, .map b), (9, .list 30 (List.map T_api_Machine.vv ms)), (10, .int .i64 (ms.length : Int)), (11, .int .i64 (k : Int))]) (fun (k : Nat) (zs : List (ByteArray × ByteArray)) (zg : Unit) => [.map b (List.map (pf VV.str VV.str) zs)]) ([] : List (ByteArray × ByteArray)) () (Shift.pick [0] R ⟨R, R, R, R, trivial⟩) h2 ?_ ?_
  ·rintro k out2 _ hk hm
   rw [apart_zones.l1] at hm
   refine VW.seq <| VW.region <| VR.p R R (VP.arith R R R) <| VR.nil <| VW.seq <| VW.condF R (k_end hk) <| VW.exit ?_
   exact ⟨out2, (), Option.some.inj hm, (Shift.pick [0] R ⟨R, trivial⟩)⟩
  ·rintro k x l out2 _ h5 hm
   rw [apart_zones.l1] at hm
   refine VW.seq <| VW.region <| VR.p R R (VP.arith R R R) <| VR.nil <| VW.seq <| VW.condT R (k_lt h5) <| VW.skip <| VW.seq <| VW.block <| VW.seq <| VW.region <| VR.p R R (VP.glK T_api_Machine.vv R R el22 h5) <| VR.p R R (VP.loadE R ld30 R) ?_
   refine VR.cons R R (VO.alloc z30 fun b2 => ?_)
   refine VR.cons R R (VO.storeP (i := 0) R R R ld30 R R R ?_)
   refine VR.nil <| VW.seq <| VW.region <| VR.p R R (VP.fieldP R fa30_3) <| VR.p R R (VP.loadP (i := 0) R R ld27 R) ?_
   obtain ⟨r, h7, hm⟩ := bnd hm
   refine VR.cons R R (VO.callK 0 R fn101 R (labels_Get_ok x.Labels (⟨#[122, 111, 110, 101]⟩ : ByteArray) r h7) fun _ _ h9 => ?_)
   obtain ⟨rfl, rfl⟩ := h9
   refine VR.p R R (VP.move R) <| VR.p R R (VP.extract R R) <| VR.p R R (VP.extract R R) <| VR.p R R (VP.assign R) <| VR.p R R (VP.assign R) <| VR.nil <| VW.seq <| VW.region <| VR.p R R (VP.move R) <| VR.nil ?_
   rcases ite_or hm with ⟨h8, hm⟩ | ⟨h8, hm⟩
   ·refine VW.condT R h8 <| VW.region <| VR.p R R (VP.move R) <| VR.p R R (VP.fieldP R fa30_0) <| VR.p R R (VP.loadP (i := 0) R R ld9 R) <| VR.p R R (VP.move R) ?_
    refine VR.cons R R (VO.mapUpdate 1 (kf := VV.str) (vf := VV.str) (l := out2) (k := x.Name) (z := r.1) mk9 Try.underlying131 R R R R ?_)
    refine VR.nil <| VW.region <| VR.p R R (VP.arith R R R) <| VR.p R R (VP.move R) <| VR.nil ?_
    exact ⟨(V.mp out2 x.Name r.1), (), hm, (Shift.pick [1] R ⟨R, R, R, congrArg some (k_next h5 h4), trivial⟩)⟩
   ·have h8 := bf h8
    refine VW.condF R h8 <| VW.skip <| VW.region <| VR.p R R (VP.arith R R R) <| VR.p R R (VP.move R) <| VR.nil ?_
    exact ⟨out2, (), hm, (Shift.pick [1] R ⟨R, R, R, congrArg some (k_next h5 h4), trivial⟩)⟩
 ·rintro out32 _ rfl
  have hm := h3
  refine VW.seq <| VW.region <| VR.p R R (VP.move R) <| VR.p R R (VP.assign R) <| VR.nil ?_
  obtain rfl := Option.some.inj hm
  exact VW.ret ⟨.inl R, _, .cons (.tmp _ _ R) .nil, [0], _, R, b, R, R⟩

/-! (trireme/apart.place).one -/
def apart_place_one (x : T_apart_place) (a : ByteArray) (b2 : ByteArray) (wide : Bool) : Option Bool :=
 if ((V.seq a b2) || (!wide)) = true then
  some (V.seq a b2)
 else
  some ((((V.mg x.zones a).isSome) && ((V.mg x.zones b2).isSome)) && (V.seq ((V.mg x.zones a).getD (⟨#[]⟩ : ByteArray)) ((V.mg x.zones b2).getD (⟨#[]⟩ : ByteArray))))
theorem apart_place_one_ok (x : T_apart_place) (a : ByteArray) (b2 : ByteArray) (wide : Bool) (b : Nat) (r : Bool) (hm : apart_place_one x a b2 wide = some r) :
  VC Try.prog 105 [.agg [.map b], .str a, .str b2, .bool wide] [.map b (List.map (pf VV.str VV.str) x.zones)] (fun zx zH => zx = .bool r ∧ zH = [.map b (List.map (pf VV.str VV.str) x.zones)]) := by
 unfold apart_place_one at hm
 refine VC.run (c := _) (rs := [.tmp 8]) Try.func105 R R R <| VW.seq <| VW.region ?_
 refine VR.cons R R (VO.box R R fun b3 => ?_)
 refine VR.p R R (VP.assign R) <| VR.nil <| VW.seq <| VW.seq <| VW.region <| VR.p R R (VP.move R) <| VR.p R R (VP.move R) <| VR.p R R (VP.strop R R R) <| VR.p R R (VP.move R) ?_
 refine VR.sc 3 19 (.bool ((V.seq a b2) || (!wide))) (fun K' J => ?_) ?_
 ·rcases Bool.eq_false_or_eq_true (V.seq a b2) with h2 | h2
  ·refine VR.skipG R R R R h2 <| VR.skipG R R R R h2 <| VR.p R R (VP.pickB true R h2 R) ?_
   exact J [_, _] _ R (orT h2)
  ·refine VR.pG R R R R h2 (VP.move R) <| VR.pG R R R R h2 (VP.not R) <| VR.p R R (VP.pickB false R h2 R) ?_
   exact J [_, _] _ R (orF h2)
 ·refine VR.nil ?_
  rcases ite_or hm with ⟨h3, hm⟩ | ⟨h3, hm⟩
  ·refine VW.condT R h3 <| VW.seq <| VW.region <| VR.p R R (VP.move R) <| VR.p R R (VP.move R) <| VR.p R R (VP.strop R R R) <| VR.p R R (VP.assign R) <| VR.nil ?_
   obtain rfl := Option.some.inj hm
   exact VW.ret ⟨.inl R, _, .cons (.tmp _ _ R) .nil, [1], _, R, R, R⟩
  ·have h3 := bf h3
   refine VW.condF R h3 <| VW.skip <| VW.seq <| VW.region <| VR.p R R (VP.fieldP R fa134_0) <| VR.p R R (VP.loadP (i := 0) R R ld131 R) <| VR.p R R (VP.move R) <| VR.p R R (VP.lookup 1 (kf := VV.str) (vf := VV.str) (l := x.zones) (k := a) (z := (⟨#[]⟩ : ByteArray)) true mk9 Try.underlying131 R R R zc9 R) <| VR.p R R (VP.move R) <| VR.p R R (VP.extract R R) <| VR.p R R (VP.extract R R) <| VR.p R R (VP.assign R) <| VR.p R R (VP.assign R) <| VR.nil <| VW.seq <| VW.region <| VR.p R R (VP.fieldP R fa134_0) <| VR.p R R (VP.loadP (i := 0) R R ld131 R) <| VR.p R R (VP.move R) <| VR.p R R (VP.lookup 1 (kf := VV.str) (vf := VV.str) (l := x.zones) (k := b2) (z := (⟨#[]⟩ : ByteArray)) true mk9 Try.underlying131 R R R zc9 R) <| VR.p R R (VP.move R) <| VR.p R R (VP.extract R R) <| VR.p R R (VP.extract R R) <| VR.p R R (VP.assign R) <| VR.p R R (VP.assign R) <| VR.nil <| VW.seq <| VW.region <| VR.p R R (VP.move R) <| VR.p R R (VP.move R) ?_
   refine VR.sc 2 40 (.bool (((V.mg x.zones a).isSome) && ((V.mg x.zones b2).isSome))) (fun K' J => ?_) ?_
   ·rcases Bool.eq_false_or_eq_true ((V.mg x.zones a).isSome) with h4 | h4
    ·refine VR.pG R R R R h4 (VP.move R) <| VR.p R R (VP.pickB true R h4 R) ?_
     exact J [_] _ R (andT h4)
    ·refine VR.skipG R R R R h4 <| VR.p R R (VP.pickB false R h4 R) ?_
     exact J [_] _ R (andF h4)
   ·refine VR.p R R (VP.move R) ?_
    refine VR.sc 4 45 (.bool ((((V.mg x.zones a).isSome) && ((V.mg x.zones b2).isSome)) && (V.seq ((V.mg x.zones a).getD (⟨#[]⟩ : ByteArray)) ((V.mg x.zones b2).getD (⟨#[]⟩ : ByteArray))))) (fun K' J => ?_) ?_
    ·rcases Bool.eq_false_or_eq_true (((V.mg x.zones a).isSome) && ((V.mg x.zones b2).isSome)) with h5 | h5
     ·refine VR.pG R R R R h5 (VP.move R) <| VR.pG R R R R h5 (VP.move R) <| VR.pG R R R R h5 (VP.strop R R R) <| VR.p R R (VP.pickB true R h5 R) ?_
      exact J [_, _, _] _ R (andT h5)
     ·refine VR.skipG R R R R h5 <| VR.skipG R R R R h5 <| VR.skipG R R R R h5 <| VR.p R R (VP.pickB false R h5 R) ?_
      exact J [_, _, _] _ R (andF h5)
    ·refine VR.p R R (VP.assign R) <| VR.nil ?_
     obtain rfl := Option.some.inj hm
     exact VW.ret ⟨.inl R, _, .cons (.tmp _ _ R) .nil, [1], _, R, R, R⟩

/-! (trireme/apart.place).bars -/
def apart_place_bars (x : T_apart_place) (p : T_api_Pod) (q_ : T_api_Pod) (a : ByteArray) (b2 : ByteArray) : Option Bool :=
 (if (decide ((p.Apart.length : Int) > (0 : Int))) = true then (labels_Has q_.Labels p.Apart).bind fun r =>
 some r else some false).bind fun c =>
 (if c = true then (apart_place_one x a b2 p.Wide).bind fun r2 =>
 some r2 else some false).bind fun c2 =>
 some c2
theorem apart_place_bars_ok (x : T_apart_place) (p : T_api_Pod) (q_ : T_api_Pod) (a : ByteArray) (b2 : ByteArray) (b : Nat) (r : Bool) (hm : apart_place_bars x p q_ a b2 = some r) :
  VC Try.prog 94 [.agg [.map b], T_api_Pod.vv p, T_api_Pod.vv q_, .str a, .str b2] [.map b (List.map (pf VV.str VV.str) x.zones)] (fun zx zH => zx = .bool r ∧ zH = [.map b (List.map (pf VV.str VV.str) x.zones)]) := by
 unfold apart_place_bars at hm
 refine VC.run (c := _) (rs := [.tmp 10]) Try.func94 R R R <| VW.seq <| VW.region ?_
 refine VR.cons R R (VO.box R R fun b3 => ?_)
 refine VR.cons R R (VO.box R R fun b4 => ?_)
 refine VR.cons R R (VO.box R R fun b5 => ?_)
 refine VR.p R R (VP.assign R) <| VR.nil <| VW.seq <| VW.region <| VR.p R R (VP.fieldP R fa39_7) <| VR.p R R (VP.loadP (i := 1) R R ld27 R) <| VR.p R R (VP.lenT T_api_Label.vv R Try.underlying27) <| VR.p R R (VP.arith R R R) <| VR.p R R (VP.move R) ?_
 obtain ⟨c, h7, hm⟩ := bnd hm
 refine VR.sc 6 21 (.bool c) (fun K' J => ?_) ?_
 ·have hm := h7
  rcases ite_or hm with ⟨h4, hm⟩ | ⟨h4, hm⟩
  ·refine VR.pG R R R R h4 (VP.fieldP R fa39_2) <| VR.pG R R R R h4 (VP.loadP (i := 0) R R ld27 R) <| VR.pG R R R R h4 (VP.fieldP R fa39_7) <| VR.pG R R R R h4 (VP.loadP (i := 1) R R ld27 R) ?_
   obtain ⟨r, h5, hm⟩ := bnd hm
   refine VR.consG R R R R h4 (VO.callK 0 R fn86 R (labels_Has_ok q_.Labels p.Apart r h5) fun _ _ h6 => ?_)
   obtain ⟨rfl, rfl⟩ := h6
   refine VR.p R R (VP.pickB true R h4 R) ?_
   exact J [_, _, _, _, _] _ R (congrArg VV.bool (Option.some.inj hm))
  ·have h4 := bf h4
   refine VR.skipG R R R R h4 <| VR.skipG R R R R h4 <| VR.skipG R R R R h4 <| VR.skipG R R R R h4 <| VR.skipG R R R R h4 <| VR.p R R (VP.pickB false R h4 R) ?_
   exact J [_, _, _, _, _] _ R (congrArg VV.bool (Option.some.inj hm))
 ·refine VR.p R R (VP.move R) ?_
  obtain ⟨c2, h11, hm⟩ := bnd hm
  refine VR.sc 7 29 (.bool c2) (fun K' J => ?_) ?_
  ·have hm := h11
   rcases ite_or hm with ⟨h8, hm⟩ | ⟨h8, hm⟩
   ·refine VR.pG R R R R h8 (VP.loadP (i := 2) R R ld134 R) <| VR.pG R R R R h8 (VP.move R) <| VR.pG R R R R h8 (VP.move R) <| VR.pG R R R R h8 (VP.fieldP R fa39_8) <| VR.pG R R R R h8 (VP.loadP (i := 1) R R ld4 R) ?_
    obtain ⟨r2, h9, hm⟩ := bnd hm
    refine VR.shift (Shift.mem [3, 0, 0, 0] R) ?_
    refine VR.consG R R R R h8 (VO.callK 1 R fn105 R (apart_place_one_ok x a b2 p.Wide b r2 h9) fun _ _ h10 => ?_)
    obtain ⟨rfl, rfl⟩ := h10
    refine VR.p R R (VP.pickB true R h8 R) <| VR.shift (Shift.mem [1, 1, 1, 0] R) ?_
    exact J [_, _, _, _, _, _] _ R (congrArg VV.bool (Option.some.inj hm))
   ·have h8 := bf h8
    refine VR.skipG R R R R h8 <| VR.skipG R R R R h8 <| VR.skipG R R R R h8 <| VR.skipG R R R R h8 <| VR.skipG R R R R h8 <| VR.skipG R R R R h8 <| VR.p R R (VP.pickB false R h8 R) ?_
    exact J [_, _, _, _, _, _] _ R (congrArg VV.bool (Option.some.inj hm))
  ·refine VR.p R R (VP.assign R) <| VR.nil ?_
   obtain rfl := Option.some.inj hm
   exact VW.ret ⟨.inl R, _, .cons (.tmp _ _ R) .nil, [3], _, R, R, R⟩

/-! trireme/apart.Near -/
def apart_Near.l1 (p : T_api_Pod) (on_ : ByteArray) (r2 : (List (ByteArray × ByteArray))) : List T_api_Bound → Nat → Option (Out Bool Unit)
 | [], k => some (Out.go ())
 | x :: l, k =>
  if ((V.seq x.On (⟨#[]⟩ : ByteArray)) || (V.seq x.Pod.Name p.Name)) = true then
   apart_Near.l1 p on_ r2 l (k + 1)
  else
   (apart_place_bars (⟨r2⟩ : T_apart_place) p x.Pod on_ x.On).bind fun r3 =>
   (if r3 = true then some true else (apart_place_bars (⟨r2⟩ : T_apart_place) x.Pod p x.On on_).bind fun r4 =>
   some r4).bind fun c =>
   if c = true then
    some (Out.ret true)
   else
    apart_Near.l1 p on_ r2 l (k + 1)
def apart_Near (ms : List T_api_Machine) (bs : List T_api_Bound) (p : T_api_Pod) (on_ : ByteArray) : Option Bool :=
 (yard_Find ms on_).bind fun r =>
 if (decide (r < (0 : Int))) = true then
  some false
 else
  (apart_zones ms).bind fun r2 =>
  (apart_Near.l1 p on_ r2 bs 0).bind fun o =>
  o.on fun j =>
  some false
theorem apart_Near_ok (ms : List T_api_Machine) (bs : List T_api_Bound) (p : T_api_Pod) (on_ : ByteArray) (r : Bool) (hm : apart_Near ms bs p on_ = some r) :
  VC Try.prog 80 [.list 30 (List.map T_api_Machine.vv ms), .list 50 (List.map T_api_Bound.vv bs), T_api_Pod.vv p, .str on_] [] (fun zx zH => zx = .bool r ∧ zH = []) := by
 unfold apart_Near at hm
 refine VC.run (c := _) (rs := [.tmp 8]) Try.func80 R R R <| VW.seq <| VW.region ?_
 refine VR.cons R R (VO.box R R fun b => ?_)
 refine VR.p R R (VP.assign R) <| VR.nil <| VW.seq <| VW.seq <| VW.region <| VR.p R R (VP.move R) <| VR.p R R (VP.move R) ?_
 obtain ⟨r, h2, hm⟩ := bnd hm
 refine VR.cons R R (VO.callK 0 R fn44 R (yard_Find_ok ms on_ r h2) fun _ _ h22 => ?_)
 obtain ⟨rfl, rfl⟩ := h22
 refine VR.p R R (VP.arith R R R) <| VR.nil ?_
 rcases ite_or hm with ⟨h3, hm⟩ | ⟨h3, hm⟩
 ·refine VW.condT R h3 <| VW.seq <| VW.region <| VR.p R R (VP.assign R) <| VR.nil ?_
  obtain rfl := Option.some.inj hm
  exact VW.ret ⟨.inl R, _, .cons (.tmp _ _ R) .nil, [], _, R, R, R⟩
 ·have h3 := bf h3
  refine VW.condF R h3 <| VW.skip <| VW.seq <| VW.region <| VR.p R R (VP.move R) ?_
  obtain ⟨r2, h4, hm⟩ := bnd hm
  refine VR.cons R R (VO.callK 0 R fn93 R (apart_zones_ok ms r2 h4) fun _ _ h21 => ?_)
  obtain ⟨b2, rfl, rfl⟩ := h21
  refine VR.p R R (VP.buildP pl134 R R) ?_
  refine VR.cons R R (VO.alloc z134 fun b3 => ?_)
  refine VR.cons R R (VO.storeP (i := 0) R R R ld134 R R R ?_)
  refine VR.nil <| VW.seq <| VW.seq <| VW.region <| VR.p R R (VP.move R) <| VR.p R R (VP.lenT T_api_Bound.vv R Try.underlying23) <| VR.p R R (VP.move R) <| VR.nil <| VW.lenL 19 R fun h9 => ?_
  have h9 := max_map h9
  obtain ⟨o, h7, h8⟩ := bnd hm
  refine VW.joinE (fun (q : Unit) => o = Out.go q) (fun (j : Unit) (gg : Unit) => []) (fun (j : Unit) (gg : Unit) => []) ?_ ?_
  ·have hm := h7
   refine VW.block (VW.loop (bs.length + 1) ?_)
   refine VL.eachS (l := bs) (R := _) (fun zl zk (zs : Unit) => apart_Near.l1 p on_ r2 zl zk) (fun (k : Nat) (zs : Unit) (zg : Unit) => [(3, .str on_), (6, .ptr b 0), (9, .ptr b3 0), (19, .list 50 (List.map T_api_Bound.vv bs)), (20, .int .i64 (bs.length : Int)), (21, .int .i64 (k : Int))]) (fun (k : Nat) (zs : Unit) (zg : Unit) => [.box b3 134 [.map b2], .map b2 (List.map (pf VV.str VV.str) ((⟨r2⟩ : T_apart_place).zones)), .box b 39 (T_api_Pod.cells p)]) () () (Shift.pick [0, 0, 0] R ⟨R, R, R, R, R, R, trivial⟩) h7 ?_ ?_
   ·rintro k _ _ hk hm
    rw [apart_Near.l1] at hm
    refine VW.seq <| VW.region <| VR.p R R (VP.arith R R R) <| VR.nil <| VW.seq <| VW.condF R (k_end hk) <| VW.exit ?_
    exact ⟨(), (), (Option.some.inj hm).symm, (Shift.pick [] R trivial)⟩
   ·rintro k x l _ _ h10 hm
    rw [apart_Near.l1] at hm
    refine VW.seq <| VW.region <| VR.p R R (VP.arith R R R) <| VR.nil <| VW.seq <| VW.condT R (k_lt h10) <| VW.skip <| VW.seq <| VW.block <| VW.seq <| VW.region <| VR.p R R (VP.glK T_api_Bound.vv R R el23 h10) <| VR.p R R (VP.loadE R ld50 R) ?_
    refine VR.cons R R (VO.alloc z50 fun b4 => ?_)
    refine VR.cons R R (VO.storeP (i := 0) R R R ld50 R R R ?_)
    refine VR.nil <| VW.seq <| VW.seq <| VW.region <| VR.p R R (VP.fieldP R fa50_1) <| VR.p R R (VP.loadP (i := 0) R R ld9 R) <| VR.p R R (VP.strop R R R) <| VR.p R R (VP.move R) ?_
    refine VR.sc 7 35 (.bool ((V.seq x.On (⟨#[]⟩ : ByteArray)) || (V.seq x.Pod.Name p.Name))) (fun K' J => ?_) ?_
    ·rcases Bool.eq_false_or_eq_true (V.seq x.On (⟨#[]⟩ : ByteArray)) with h12 | h12
     ·refine VR.skipG R R R R h12 <| VR.skipG R R R R h12 <| VR.skipG R R R R h12 <| VR.skipG R R R R h12 <| VR.skipG R R R R h12 <| VR.skipG R R R R h12 <| VR.p R R (VP.pickB true R h12 R) ?_
      exact J [_, _, _, _, _, _] _ R (orT h12)
     ·refine VR.pG R R R R h12 (VP.fieldP R fa50_0) <| VR.pG R R R R h12 (VP.fieldP R fa39_0) <| VR.pG R R R R h12 (VP.loadP (i := 0) R R ld9 R) <| VR.pG R R R R h12 (VP.fieldP R fa39_0) <| VR.pG R R R R h12 (VP.loadP (i := 3) R R ld9 R) <| VR.pG R R R R h12 (VP.strop R R R) <| VR.p R R (VP.pickB false R h12 R) ?_
      exact J [_, _, _, _, _, _] _ R (orF h12)
    ·refine VR.nil ?_
     rcases ite_or hm with ⟨h13, hm⟩ | ⟨h13, hm⟩
     ·refine VW.condT R h13 <| VW.exit <| VW.region <| VR.p R R (VP.arith R R R) <| VR.p R R (VP.move R) <| VR.nil ?_
      exact ⟨(), (), hm, (Shift.pick [1, 1, 1] R ⟨R, R, R, R, R, congrArg some (k_next h10 h9), trivial⟩)⟩
     ·have h13 := bf h13
      refine VW.condF R h13 <| VW.skip <| VW.seq <| VW.region <| VR.p R R (VP.loadP (i := 1) R R ld134 R) <| VR.p R R (VP.loadP (i := 3) R R ld39 R) <| VR.p R R (VP.fieldP R fa50_0) <| VR.p R R (VP.loadP (i := 0) R R ld39 R) <| VR.p R R (VP.move R) <| VR.p R R (VP.fieldP R fa50_1) <| VR.p R R (VP.loadP (i := 0) R R ld9 R) ?_
      obtain ⟨r3, h14, hm⟩ := bnd hm
      refine VR.shift (Shift.mem [2, 0, 0, 0] R) ?_
      refine VR.cons R R (VO.callK 1 R fn94 R (apart_place_bars_ok (⟨r2⟩ : T_apart_place) p x.Pod on_ x.On b2 r3 h14) fun _ _ h20 => ?_)
      obtain ⟨rfl, rfl⟩ := h20
      refine VR.p R R (VP.move R) ?_
      obtain ⟨c, h18, hm⟩ := bnd hm
      refine VR.sc 9 53 (.bool c) (fun K' J => ?_) ?_
      ·have hm := h18
       rcases ite_or hm with ⟨h15, hm⟩ | ⟨h15, hm⟩
       ·refine VR.skipG R R R R h15 <| VR.skipG R R R R h15 <| VR.skipG R R R R h15 <| VR.skipG R R R R h15 <| VR.skipG R R R R h15 <| VR.skipG R R R R h15 <| VR.skipG R R R R h15 <| VR.skipG R R R R h15 <| VR.p R R (VP.pickB true R h15 R) ?_
        exact J [_, _, _, _, _, _, _, _] _ R (congrArg VV.bool (Option.some.inj hm))
       ·have h15 := bf h15
        refine VR.pG R R R R h15 (VP.loadP (i := 2) R R ld134 R) <| VR.pG R R R R h15 (VP.fieldP R fa50_0) <| VR.pG R R R R h15 (VP.loadP (i := 1) R R ld39 R) <| VR.pG R R R R h15 (VP.loadP (i := 3) R R ld39 R) <| VR.pG R R R R h15 (VP.fieldP R fa50_1) <| VR.pG R R R R h15 (VP.loadP (i := 1) R R ld9 R) <| VR.pG R R R R h15 (VP.move R) ?_
        obtain ⟨r4, h16, hm⟩ := bnd hm
        refine VR.consG R R R R h15 (VO.callK 1 R fn94 R (apart_place_bars_ok (⟨r2⟩ : T_apart_place) x.Pod p x.On on_ b2 r4 h16) fun _ _ h17 => ?_)
        obtain ⟨rfl, rfl⟩ := h17
        refine VR.p R R (VP.pickB false R h15 R) ?_
        exact J [_, _, _, _, _, _, _, _] _ R (congrArg VV.bool (Option.some.inj hm))
      ·refine VR.nil ?_
       rcases ite_or hm with ⟨h19, hm⟩ | ⟨h19, hm⟩
       ·refine VW.condT R h19 <| VW.seq <| VW.region <| VR.p R R (VP.assign R) <| VR.nil ?_
        obtain rfl := Option.some.inj hm
        have hm := Out.ret_on h8
        obtain rfl := Option.some.inj hm
        exact VW.ret ⟨.inl R, _, .cons (.tmp _ _ R) .nil, [], _, R, R, R⟩
       ·have h19 := bf h19
        refine VW.condF R h19 <| VW.skip <| VW.region <| VR.p R R (VP.arith R R R) <| VR.p R R (VP.move R) <| VR.nil ?_
        exact ⟨(), (), hm, (Shift.pick [2, 0, 1] R ⟨R, R, R, R, R, congrArg some (k_next h10 h9), trivial⟩)⟩
  ·rintro j _ rfl
   have hm := Out.go_on h8
   refine VW.seq <| VW.region <| VR.p R R (VP.assign R) <| VR.nil ?_
   obtain rfl := Option.some.inj hm
   exact VW.ret ⟨.inl R, _, .cons (.tmp _ _ R) .nil, [], _, R, R, R⟩

/-! trireme/apart.tally -/
def apart_tally.l1 (p : T_api_Pod) (r : (List (ByteArray × ByteArray))) : List T_api_Bound → Nat → (List (ByteArray × Int)) → Option (List (ByteArray × Int))
 | [], k, n2 => some n2
 | x :: l, k, n2 =>
  (if ((((V.mg r x.On).isSome) && (!(V.seq x.On (⟨#[]⟩ : ByteArray)))) && (!(V.seq x.Pod.Name p.Name))) = true then (labels_Has x.Pod.Labels p.Spread).bind fun r2 =>
  some r2 else some false).bind fun c =>
  if c = true then
   apart_tally.l1 p r l (k + 1) (V.mp n2 ((V.mg r x.On).getD (⟨#[]⟩ : ByteArray)) (IntKind.i64.wrap (((V.mg n2 ((V.mg r x.On).getD (⟨#[]⟩ : ByteArray))).getD (0 : Int)) + (1 : Int))))
  else
   apart_tally.l1 p r l (k + 1) n2
def apart_tally (ms : List T_api_Machine) (bs : List T_api_Bound) (p : T_api_Pod) : Option (List (ByteArray × Int)) :=
 (apart_zones ms).bind fun r =>
 (apart_tally.l1 p r bs 0 ([] : List (ByteArray × Int))).bind fun n32 =>
 some n32
theorem apart_tally_ok (ms : List T_api_Machine) (bs : List T_api_Bound) (p : T_api_Pod) (r : (List (ByteArray × Int))) (hm : apart_tally ms bs p = some r) :
  VC Try.prog 106 [.list 30 (List.map T_api_Machine.vv ms), .list 50 (List.map T_api_Bound.vv bs), T_api_Pod.vv p] [] (fun zx zH => ∃ (b_0 : Nat), zx = .map b_0 ∧ zH = [.map b_0 (List.map (pf VV.str (VV.int .i64)) r)]) := by
 unfold apart_tally at hm
 refine VC.run (c := _) (rs := [.tmp 6]) Try.func106 R R R <| VW.seq <| VW.region ?_
 refine VR.cons R R (VO.box R R fun b => ?_)
 refine VR.p R R (VP.assign R) <| VR.nil <| VW.seq <| VW.region <| VR.p R R (VP.move R) ?_
 obtain ⟨r, h2, hm⟩ := bnd hm
 refine VR.cons R R (VO.callK 0 R fn93 R (apart_zones_ok ms r h2) fun _ _ h17 => ?_)
 obtain ⟨b2, rfl, rfl⟩ := h17
 refine VR.p R R (VP.assign R) <| VR.nil <| VW.seq <| VW.region ?_
 refine VR.cons R R (VO.makeMap fun b3 => ?_)
 refine VR.p R R (VP.assign R) <| VR.nil <| VW.seq <| VW.seq <| VW.region <| VR.p R R (VP.move R) <| VR.p R R (VP.lenT T_api_Bound.vv R Try.underlying23) <| VR.p R R (VP.move R) <| VR.nil <| VW.lenL 16 R fun h7 => ?_
 have h7 := max_map h7
 obtain ⟨o, h5, h6⟩ := bnd hm
 refine VW.joinE (fun (q : (List (ByteArray × Int))) => q = o) (fun (n32 : (List (ByteArray × Int))) (gg : Unit) => [(8, .map b3)]) (fun (n32 : (List (ByteArray × Int))) (gg : Unit) => [.map b3 (List.map (pf VV.str (VV.int .i64)) n32)]) ?_ ?_
 ·have hm := h5
  refine VW.block (VW.loop (bs.length + 1) ?_)
  refine VL.eachS (l := bs) (R := _) (fun zl zk (zs : List (ByteArray × Int)) => apart_tally.l1 p r zl zk zs) (fun (k : Nat) (zs : List (ByteArray × Int)) (zg : Unit) => [(5, .ptr b 0), (7, .map b2), (8, .map b3), (16, .list 50 (List.map T_api_Bound.vv bs)), (17, .int .i64 (bs.length : Int)), (18, .int .i64 (k : Int))]) (fun (k : Nat) (zs : List (ByteArray × Int)) (zg : Unit) => [.map b3 (List.map (pf VV.str (VV.int .i64)) zs), .map b2 (List.map (pf VV.str VV.str) r), .box b 39 (T_api_Pod.cells p)]) ([] : List (ByteArray × Int)) () (Shift.pick [0, 0, 0] R ⟨R, R, R, R, R, R, trivial⟩) h5 ?_ ?_
  ·rintro k n2 _ hk hm
   rw [apart_tally.l1] at hm
   refine VW.seq <| VW.region <| VR.p R R (VP.arith R R R) <| VR.nil <| VW.seq <| VW.condF R (k_end hk) <| VW.exit ?_
   exact ⟨n2, (), Option.some.inj hm, (Shift.pick [0] R ⟨R, trivial⟩)⟩
  ·rintro k x l n2 _ h8 hm
   rw [apart_tally.l1] at hm
   refine VW.seq <| VW.region <| VR.p R R (VP.arith R R R) <| VR.nil <| VW.seq <| VW.condT R (k_lt h8) <| VW.skip <| VW.seq <| VW.block <| VW.seq <| VW.region <| VR.p R R (VP.glK T_api_Bound.vv R R el23 h8) <| VR.p R R (VP.loadE R ld50 R) ?_
   refine VR.cons R R (VO.alloc z50 fun b4 => ?_)
   refine VR.cons R R (VO.storeP (i := 0) R R R ld50 R R R ?_)
   refine VR.nil <| VW.seq <| VW.region <| VR.p R R (VP.move R) <| VR.p R R (VP.fieldP R fa50_1) <| VR.p R R (VP.loadP (i := 0) R R ld9 R) <| VR.p R R (VP.lookup 2 (kf := VV.str) (vf := VV.str) (l := r) (k := x.On) (z := (⟨#[]⟩ : ByteArray)) true mk9 Try.underlying131 R R R zc9 R) <| VR.p R R (VP.move R) <| VR.p R R (VP.extract R R) <| VR.p R R (VP.extract R R) <| VR.p R R (VP.assign R) <| VR.p R R (VP.assign R) <| VR.nil <| VW.seq <| VW.region <| VR.p R R (VP.move R) <| VR.p R R (VP.move R) ?_
   refine VR.sc 4 34 (.bool (((V.mg r x.On).isSome) && (!(V.seq x.On (⟨#[]⟩ : ByteArray))))) (fun K' J => ?_) ?_
   ·rcases Bool.eq_false_or_eq_true ((V.mg r x.On).isSome) with h10 | h10
    ·refine VR.pG R R R R h10 (VP.fieldP R fa50_1) <| VR.pG R R R R h10 (VP.loadP (i := 0) R R ld9 R) <| VR.pG R R R R h10 (VP.strop R R R) <| VR.p R R (VP.pickB true R h10 R) ?_
     exact J [_, _, _] _ R (andT h10)
    ·refine VR.skipG R R R R h10 <| VR.skipG R R R R h10 <| VR.skipG R R R R h10 <| VR.p R R (VP.pickB false R h10 R) ?_
     exact J [_, _, _] _ R (andF h10)
   ·refine VR.p R R (VP.move R) ?_
    refine VR.sc 7 42 (.bool ((((V.mg r x.On).isSome) && (!(V.seq x.On (⟨#[]⟩ : ByteArray)))) && (!(V.seq x.Pod.Name p.Name)))) (fun K' J => ?_) ?_
    ·rcases Bool.eq_false_or_eq_true (((V.mg r x.On).isSome) && (!(V.seq x.On (⟨#[]⟩ : ByteArray)))) with h11 | h11
     ·refine VR.pG R R R R h11 (VP.fieldP R fa50_0) <| VR.pG R R R R h11 (VP.fieldP R fa39_0) <| VR.pG R R R R h11 (VP.loadP (i := 0) R R ld9 R) <| VR.pG R R R R h11 (VP.fieldP R fa39_0) <| VR.pG R R R R h11 (VP.loadP (i := 3) R R ld9 R) <| VR.pG R R R R h11 (VP.strop R R R) <| VR.p R R (VP.pickB true R h11 R) ?_
      exact J [_, _, _, _, _, _] _ R (andT h11)
     ·refine VR.skipG R R R R h11 <| VR.skipG R R R R h11 <| VR.skipG R R R R h11 <| VR.skipG R R R R h11 <| VR.skipG R R R R h11 <| VR.skipG R R R R h11 <| VR.p R R (VP.pickB false R h11 R) ?_
      exact J [_, _, _, _, _, _] _ R (andF h11)
    ·refine VR.p R R (VP.move R) ?_
     obtain ⟨c, h15, hm⟩ := bnd hm
     refine VR.sc 7 50 (.bool c) (fun K' J => ?_) ?_
     ·have hm := h15
      rcases ite_or hm with ⟨h12, hm⟩ | ⟨h12, hm⟩
      ·refine VR.pG R R R R h12 (VP.fieldP R fa50_0) <| VR.pG R R R R h12 (VP.fieldP R fa39_2) <| VR.pG R R R R h12 (VP.loadP (i := 0) R R ld27 R) <| VR.pG R R R R h12 (VP.fieldP R fa39_9) <| VR.pG R R R R h12 (VP.loadP (i := 3) R R ld27 R) ?_
       obtain ⟨r2, h13, hm⟩ := bnd hm
       refine VR.consG R R R R h12 (VO.callK 0 R fn86 R (labels_Has_ok x.Pod.Labels p.Spread r2 h13) fun _ _ h14 => ?_)
       obtain ⟨rfl, rfl⟩ := h14
       refine VR.p R R (VP.pickB true R h12 R) ?_
       exact J [_, _, _, _, _, _] _ R (congrArg VV.bool (Option.some.inj hm))
      ·have h12 := bf h12
       refine VR.skipG R R R R h12 <| VR.skipG R R R R h12 <| VR.skipG R R R R h12 <| VR.skipG R R R R h12 <| VR.skipG R R R R h12 <| VR.skipG R R R R h12 <| VR.p R R (VP.pickB false R h12 R) ?_
       exact J [_, _, _, _, _, _] _ R (congrArg VV.bool (Option.some.inj hm))
     ·refine VR.nil ?_
      rcases ite_or hm with ⟨h16, hm⟩ | ⟨h16, hm⟩
      ·refine VW.condT R h16 <| VW.region <| VR.p R R (VP.move R) <| VR.p R R (VP.move R) <| VR.p R R (VP.lookup 1 (kf := VV.str) (vf := (VV.int .i64)) (l := n2) (k := ((V.mg r x.On).getD (⟨#[]⟩ : ByteArray))) (z := (0 : Int)) false mk9 Try.underlying148 R R R zc3 R) <| VR.p R R (VP.arith R R R) ?_
       refine VR.cons R R (VO.mapUpdate 1 (kf := VV.str) (vf := (VV.int .i64)) (l := n2) (k := ((V.mg r x.On).getD (⟨#[]⟩ : ByteArray))) (z := (IntKind.i64.wrap (((V.mg n2 ((V.mg r x.On).getD (⟨#[]⟩ : ByteArray))).getD (0 : Int)) + (1 : Int)))) mk9 Try.underlying148 R R R R ?_)
       refine VR.nil <| VW.region <| VR.p R R (VP.arith R R R) <| VR.p R R (VP.move R) <| VR.nil ?_
       exact ⟨(V.mp n2 ((V.mg r x.On).getD (⟨#[]⟩ : ByteArray)) (IntKind.i64.wrap (((V.mg n2 ((V.mg r x.On).getD (⟨#[]⟩ : ByteArray))).getD (0 : Int)) + (1 : Int)))), (), hm, (Shift.pick [1, 1, 1] R ⟨R, R, R, R, R, congrArg some (k_next h8 h7), trivial⟩)⟩
      ·have h16 := bf h16
       refine VW.condF R h16 <| VW.skip <| VW.region <| VR.p R R (VP.arith R R R) <| VR.p R R (VP.move R) <| VR.nil ?_
       exact ⟨n2, (), hm, (Shift.pick [1, 1, 1] R ⟨R, R, R, R, R, congrArg some (k_next h8 h7), trivial⟩)⟩
 ·rintro n32 _ rfl
  have hm := h6
  refine VW.seq <| VW.region <| VR.p R R (VP.move R) <| VR.p R R (VP.assign R) <| VR.nil ?_
  obtain rfl := Option.some.inj hm
  exact VW.ret ⟨.inl R, _, .cons (.tmp _ _ R) .nil, [0], _, R, b3, R, R⟩

/-! trireme/yard.Zones -/
def yard_Zones.l1 : List T_api_Machine → Nat → (List (ByteArray × Int)) → (List ByteArray) → Option (List ByteArray)
 | [], k, had2, l2 => some l2
 | x :: l4, k, had2, l2 =>
  (labels_Get x.Labels (⟨#[122, 111, 110, 101]⟩ : ByteArray)).bind fun r =>
  if ((!r.2) || (!x.Ready)) = true then
   yard_Zones.l1 l4 (k + 1) had2 l2
  else
   if (((V.mg (V.mp had2 r.1 (IntKind.i64.wrap (((V.mg had2 r.1).getD (0 : Int)) + (1 : Int)))) r.1).getD (0 : Int)) == (1 : Int)) = true then
    (V.ap 16 l2 [r.1]).bind fun l5 =>
    yard_Zones.l1 l4 (k + 1) (V.mp had2 r.1 (IntKind.i64.wrap (((V.mg had2 r.1).getD (0 : Int)) + (1 : Int)))) l5
   else
    yard_Zones.l1 l4 (k + 1) (V.mp had2 r.1 (IntKind.i64.wrap (((V.mg had2 r.1).getD (0 : Int)) + (1 : Int)))) l2
def yard_Zones (ms : List T_api_Machine) : Option (List ByteArray) :=
 (yard_Zones.l1 ms 0 ([] : List (ByteArray × Int)) ([] : List ByteArray)).bind fun l32 =>
 some l32
theorem yard_Zones_ok (ms : List T_api_Machine) (r : List ByteArray) (hm : yard_Zones ms = some r) :
  VC Try.prog 107 [.list 30 (List.map T_api_Machine.vv ms)] [] (fun zx zH => ∃ (ob0 : Option Nat) (cap0 : Nat), zx = .sl ob0 (List.map VV.str r).length cap0 ∧ zH = [.row ob0 9 cap0 (List.map VV.str r)]) := by
 unfold yard_Zones at hm
 refine VC.run (c := _) (rs := [.tmp 2]) Try.func107 R R R <| VW.seq <| VW.region <| VR.p R R (VP.assign R) <| VR.nil <| VW.seq <| VW.region ?_
 refine VR.cons R R (VO.makeMap fun b => ?_)
 refine VR.p R R (VP.assign R) <| VR.nil <| VW.seq <| VW.region <| VR.p R R (VP.assign R) <| VR.nil <| VW.seq <| VW.seq <| VW.region <| VR.p R R (VP.move R) <| VR.p R R (VP.lenT T_api_Machine.vv R Try.underlying22) <| VR.p R R (VP.move R) <| VR.nil <| VW.lenL 10 R fun h6 => ?_
 have h6 := max_map h6
 obtain ⟨o, h4, h5⟩ := bnd hm
 refine VW.joinE (fun (q : List ByteArray) => q = o) (fun (l32 : List ByteArray) (gg : Option Nat × Nat) => [(4, .sl gg.1 (List.map VV.str l32).length gg.2)]) (fun (l32 : List ByteArray) (gg : Option Nat × Nat) => [.row gg.1 9 gg.2 (List.map VV.str l32)]) ?_ ?_
 ·have hm := h4
  refine VW.block (VW.loop (ms.length + 1) ?_)
  refine VL.eachS (l := ms) (R := _) (fun zl zk (zs : List (ByteArray × Int) × List ByteArray) => yard_Zones.l1 zl zk zs.1 zs.2) (fun (k : Nat) (zs : List (ByteArray × Int) × List ByteArray) (zg : Option Nat × Nat) => [(3, .map b), (4, .sl zg.1 (List.map VV.str zs.2).length zg.2), (10, .list 30 (List.map T_api_Machine.vv ms)), (11, .int .i64 (ms.length : Int)), (12, .int .i64 (k : Int))]) (fun (k : Nat) (zs : List (ByteArray × Int) × List ByteArray) (zg : Option Nat × Nat) => [.row zg.1 9 zg.2 (List.map VV.str zs.2), .map b (List.map (pf VV.str (VV.int .i64)) zs.1)]) (([] : List (ByteArray × Int)), ([] : List ByteArray)) (none, 0) (Shift.trans (Shift.nilRow 9) (Shift.pick [0, 0] R ⟨R, R, R, R, R, trivial⟩)) h4 ?_ ?_
  ·rintro k ⟨had2, l2⟩ ⟨ob2, cap2⟩ hk hm
   rw [yard_Zones.l1] at hm
   refine VW.seq <| VW.region <| VR.p R R (VP.arith R R R) <| VR.nil <| VW.seq <| VW.condF R (k_end hk) <| VW.exit ?_
   exact ⟨l2, (ob2, cap2), Option.some.inj hm, (Shift.pick [0] R ⟨R, trivial⟩)⟩
  ·rintro k x l4 ⟨had2, l2⟩ ⟨ob2, cap2⟩ h7 hm
   rw [yard_Zones.l1] at hm
   refine VW.seq <| VW.region <| VR.p R R (VP.arith R R R) <| VR.nil <| VW.seq <| VW.condT R (k_lt h7) <| VW.skip <| VW.seq <| VW.block <| VW.seq <| VW.region <| VR.p R R (VP.glK T_api_Machine.vv R R el22 h7) <| VR.p R R (VP.loadE R ld30 R) ?_
   refine VR.cons R R (VO.alloc z30 fun b2 => ?_)
   refine VR.cons R R (VO.storeP (i := 0) R R R ld30 R R R ?_)
   refine VR.nil <| VW.seq <| VW.region <| VR.p R R (VP.fieldP R fa30_3) <| VR.p R R (VP.loadP (i := 0) R R ld27 R) ?_
   obtain ⟨r, h9, hm⟩ := bnd hm
   refine VR.cons R R (VO.callK 0 R fn101 R (labels_Get_ok x.Labels (⟨#[122, 111, 110, 101]⟩ : ByteArray) r h9) fun _ _ h15 => ?_)
   obtain ⟨rfl, rfl⟩ := h15
   refine VR.p R R (VP.move R) <| VR.p R R (VP.extract R R) <| VR.p R R (VP.extract R R) <| VR.p R R (VP.assign R) <| VR.p R R (VP.assign R) <| VR.nil <| VW.seq <| VW.seq <| VW.region <| VR.p R R (VP.move R) <| VR.p R R (VP.not R) <| VR.p R R (VP.move R) ?_
   refine VR.sc 4 28 (.bool ((!r.2) || (!x.Ready))) (fun K' J => ?_) ?_
   ·rcases Bool.eq_false_or_eq_true (!r.2) with h10 | h10
    ·refine VR.skipG R R R R h10 <| VR.skipG R R R R h10 <| VR.skipG R R R R h10 <| VR.p R R (VP.pickB true R h10 R) ?_
     exact J [_, _, _] _ R (orT h10)
    ·refine VR.pG R R R R h10 (VP.fieldP R fa30_5) <| VR.pG R R R R h10 (VP.loadP (i := 0) R R ld4 R) <| VR.pG R R R R h10 (VP.not R) <| VR.p R R (VP.pickB false R h10 R) ?_
     exact J [_, _, _] _ R (orF h10)
   ·refine VR.nil ?_
    rcases ite_or hm with ⟨h11, hm⟩ | ⟨h11, hm⟩
    ·refine VW.condT R h11 <| VW.exit <| VW.region <| VR.p R R (VP.arith R R R) <| VR.p R R (VP.move R) <| VR.nil ?_
     exact ⟨(had2, l2), (ob2, cap2), hm, (Shift.pick [1, 1] R ⟨R, R, R, R, congrArg some (k_next h7 h6), trivial⟩)⟩
    ·have h11 := bf h11
     refine VW.condF R h11 <| VW.skip <| VW.seq <| VW.region <| VR.p R R (VP.move R) <| VR.p R R (VP.move R) <| VR.p R R (VP.lookup 2 (kf := VV.str) (vf := (VV.int .i64)) (l := had2) (k := r.1) (z := (0 : Int)) false mk9 Try.underlying148 R R R zc3 R) <| VR.p R R (VP.arith R R R) ?_
     refine VR.cons R R (VO.mapUpdate 2 (kf := VV.str) (vf := (VV.int .i64)) (l := had2) (k := r.1) (z := (IntKind.i64.wrap (((V.mg had2 r.1).getD (0 : Int)) + (1 : Int)))) mk9 Try.underlying148 R R R R ?_)
     refine VR.nil <| VW.seq <| VW.region <| VR.p R R (VP.move R) <| VR.p R R (VP.move R) <| VR.p R R (VP.lookup 2 (kf := VV.str) (vf := (VV.int .i64)) (l := (V.mp had2 r.1 (IntKind.i64.wrap (((V.mg had2 r.1).getD (0 : Int)) + (1 : Int))))) (k := r.1) (z := (0 : Int)) false mk9 Try.underlying148 R R R zc3 R) <| VR.p R R (VP.arith R R R) <| VR.nil ?_
     rcases ite_or hm with ⟨h12, hm⟩ | ⟨h12, hm⟩
     ·refine VW.condT R h12 <| VW.region <| VR.p R R (VP.move R) <| VR.p R R (VP.move R) ?_
      refine VR.cons R R (VO.buildSlice ap66 R R R R R fun b3 => ?_)
      obtain ⟨l5, h14, hm⟩ := bnd hm
      refine VR.cons R R (VO.apT 2 VV.str (l := l2) (l2 := [r.1]) ap66 R R (sT_row 0 VV.str el66 R R) h14 fun ob4 cap4 => ?_)
      refine VR.p R R (VP.assign R) <| VR.nil <| VW.region <| VR.p R R (VP.arith R R R) <| VR.p R R (VP.move R) <| VR.nil ?_
      exact ⟨((V.mp had2 r.1 (IntKind.i64.wrap (((V.mg had2 r.1).getD (0 : Int)) + (1 : Int)))), l5), (ob4, cap4), hm, (Shift.pick [2, 2] R ⟨R, R, R, R, congrArg some (k_next h7 h6), trivial⟩)⟩
     ·have h12 := bf h12
      refine VW.condF R h12 <| VW.skip <| VW.region <| VR.p R R (VP.arith R R R) <| VR.p R R (VP.move R) <| VR.nil ?_
      exact ⟨((V.mp had2 r.1 (IntKind.i64.wrap (((V.mg had2 r.1).getD (0 : Int)) + (1 : Int)))), l2), (ob2, cap2), hm, (Shift.pick [1, 1] R ⟨R, R, R, R, congrArg some (k_next h7 h6), trivial⟩)⟩
 ·rintro l32 ⟨ob3, cap3⟩ rfl
  have hm := h5
  refine VW.seq <| VW.region <| VR.p R R (VP.move R) <| VR.p R R (VP.assign R) <| VR.nil ?_
  obtain rfl := Option.some.inj hm
  exact VW.ret ⟨.inl R, _, .cons (.tmp _ _ R) .nil, [0], _, R, ob3, cap3, R, R⟩

/-! trireme/apart.Counts -/
def apart_Counts.l1 (r : (List (ByteArray × Int))) : List ByteArray → Nat → (List Int) → Option (List Int)
 | [], k, out2 => some out2
 | x :: l, k, out2 =>
  (V.ap 8 out2 [((V.mg r x).getD (0 : Int))]).bind fun out4 =>
  apart_Counts.l1 r l (k + 1) out4
def apart_Counts (ms : List T_api_Machine) (bs : List T_api_Bound) (p : T_api_Pod) : Option (List ByteArray × List Int) :=
 (apart_tally ms bs p).bind fun r =>
 (yard_Zones ms).bind fun r2 =>
 (apart_Counts.l1 r r2 0 ([] : List Int)).bind fun out32 =>
 some (r2, out32)
theorem apart_Counts_ok (ms : List T_api_Machine) (bs : List T_api_Bound) (p : T_api_Pod) (r : List ByteArray × List Int) (hm : apart_Counts ms bs p = some r) :
  VC Try.prog 95 [.list 30 (List.map T_api_Machine.vv ms), .list 50 (List.map T_api_Bound.vv bs), T_api_Pod.vv p] [] (fun zx zH => ∃ (ob1 : Option Nat) (cap1 : Nat), zx = .tup [.list 9 (List.map VV.str r.1), .sl ob1 (List.map (VV.int .i64) r.2).length cap1] ∧ zH = [.row ob1 3 cap1 (List.map (VV.int .i64) r.2)]) := by
 unfold apart_Counts at hm
 refine VC.run (c := _) (rs := [.tmp 6, .tmp 7]) Try.func95 R R R <| VW.seq <| VW.region ?_
 refine VR.cons R R (VO.box R R fun b => ?_)
 refine VR.p R R (VP.assign R) <| VR.p R R (VP.assign R) <| VR.nil <| VW.seq <| VW.region <| VR.p R R (VP.move R) <| VR.p R R (VP.move R) <| VR.p R R (VP.loadP (i := 0) R R ld39 R) ?_
 obtain ⟨r, h2, hm⟩ := bnd hm
 refine VR.cons R R (VO.callK 0 R fn106 R (apart_tally_ok ms bs p r h2) fun _ _ h16 => ?_)
 obtain ⟨b2, rfl, rfl⟩ := h16
 refine VR.p R R (VP.assign R) <| VR.nil <| VW.seq <| VW.region <| VR.p R R (VP.move R) ?_
 obtain ⟨r2, h4, hm⟩ := bnd hm
 refine VR.cons R R (VO.callK 0 R fn107 R (yard_Zones_ok ms r2 h4) fun _ _ h15 => ?_)
 obtain ⟨ob, cap, rfl, rfl⟩ := h15
 refine VR.shift (Shift.freezeE 0 [(18, .list 9 (List.map VV.str r2))] R ⟨⟨_, R, .here _ R⟩, trivial⟩ (FzH.refl _)) <| VR.p R R (VP.assign R) <| VR.nil <| VW.seq <| VW.region <| VR.p R R (VP.assign R) <| VR.nil <| VW.seq <| VW.seq <| VW.region <| VR.p R R (VP.move R) <| VR.p R R (VP.lenT VV.str R Try.underlying66) <| VR.p R R (VP.move R) <| VR.nil <| VW.lenL 9 R fun h10 => ?_
 have h10 := max_map h10
 obtain ⟨o, h8, h9⟩ := bnd hm
 refine VW.joinE (fun (q : List Int) => q = o) (fun (out32 : List Int) (gg : Option Nat × Nat) => [(9, .list 9 (List.map VV.str r2)), (10, .sl gg.1 (List.map (VV.int .i64) out32).length gg.2)]) (fun (out32 : List Int) (gg : Option Nat × Nat) => [.row gg.1 3 gg.2 (List.map (VV.int .i64) out32)]) ?_ ?_
 ·have hm := h8
  refine VW.block (VW.loop (r2.length + 1) ?_)
  refine VL.eachS (l := r2) (R := _) (fun zl zk (zs : List Int) => apart_Counts.l1 r zl zk zs) (fun (k : Nat) (zs : List Int) (zg : Option Nat × Nat) => [(8, .map b2), (9, .list 9 (List.map VV.str r2)), (10, .sl zg.1 (List.map (VV.int .i64) zs).length zg.2), (19, .list 9 (List.map VV.str r2)), (20, .int .i64 (r2.length : Int)), (21, .int .i64 (k : Int))]) (fun (k : Nat) (zs : List Int) (zg : Option Nat × Nat) => [.row zg.1 3 zg.2 (List.map (VV.int .i64) zs), .map b2 (List.map (pf VV.str (VV.int .i64)) r)]) ([] : List Int) (none, 0) (Shift.trans (Shift.nilRow 3) (Shift.pick [0, 0] R ⟨R, R, R, R, R, R, trivial⟩)) h8 ?_ ?_
  ·rintro k out2 ⟨ob3, cap3⟩ hk hm
   rw [apart_Counts.l1] at hm
   refine VW.seq <| VW.region <| VR.p R R (VP.arith R R R) <| VR.nil <| VW.seq <| VW.condF R (k_end hk) <| VW.exit ?_
   exact ⟨out2, (ob3, cap3), Option.some.inj hm, (Shift.pick [0] R ⟨R, R, trivial⟩)⟩
  ·rintro k x l out2 ⟨ob3, cap3⟩ h11 hm
   rw [apart_Counts.l1] at hm
   refine VW.seq <| VW.region <| VR.p R R (VP.arith R R R) <| VR.nil <| VW.seq <| VW.condT R (k_lt h11) <| VW.skip <| VW.seq <| VW.block <| VW.seq <| VW.region <| VR.p R R (VP.glK VV.str R R el66 h11) <| VR.p R R (VP.loadE R ld9 R) <| VR.p R R (VP.assign R) <| VR.nil <| VW.region <| VR.p R R (VP.move R) <| VR.p R R (VP.move R) <| VR.p R R (VP.move R) <| VR.p R R (VP.lookup 1 (kf := VV.str) (vf := (VV.int .i64)) (l := r) (k := x) (z := (0 : Int)) false mk9 Try.underlying148 R R R zc3 R) ?_
   refine VR.cons R R (VO.buildSlice ap37 R R R R R fun b3 => ?_)
   obtain ⟨out4, h13, hm⟩ := bnd hm
   refine VR.cons R R (VO.apT 1 (VV.int .i64) (l := out2) (l2 := [((V.mg r x).getD (0 : Int))]) ap37 R R (sT_row 0 (VV.int .i64) el37 R R) h13 fun ob5 cap5 => ?_)
   refine VR.p R R (VP.assign R) <| VR.nil <| VW.region <| VR.p R R (VP.arith R R R) <| VR.p R R (VP.move R) <| VR.nil ?_
   exact ⟨out4, (ob5, cap5), hm, (Shift.pick [1, 1] R ⟨R, R, R, R, R, congrArg some (k_next h11 h10), trivial⟩)⟩
 ·rintro out32 ⟨ob4, cap4⟩ rfl
  have hm := h9
  refine VW.seq <| VW.region <| VR.p R R (VP.move R) <| VR.p R R (VP.move R) <| VR.p R R (VP.assign R) <| VR.p R R (VP.assign R) <| VR.nil ?_
  obtain rfl := Option.some.inj hm
  exact VW.ret ⟨.inl R, _, .cons (.tmp _ _ R) (.cons (.tmp _ _ R) .nil), [0], _, R, ob4, cap4, R, R⟩

/-! trireme/apart.Many -/
def apart_Many.l1 (on_ : ByteArray) (r2 : (List (ByteArray × ByteArray))) (r3 : List ByteArray × List Int) : List ByteArray → Nat → Bool → Int → Int → Option (Bool × Int × Int)
 | [], k, met2, mine2, least2 => some (met2, mine2, least2)
 | x :: l, k, met2, mine2, least2 =>
  (V.gl r3.2 (k : Int)).bind fun x2 =>
  if (((V.mg r2 on_).isSome) && (V.seq x ((V.mg r2 on_).getD (⟨#[]⟩ : ByteArray)))) = true then
   (V.gl r3.2 (k : Int)).bind fun x3 =>
   apart_Many.l1 on_ r2 r3 l (k + 1) true x3 (min least2 x2)
  else
   apart_Many.l1 on_ r2 r3 l (k + 1) met2 mine2 (min least2 x2)
def apart_Many (ms : List T_api_Machine) (bs : List T_api_Bound) (p : T_api_Pod) (on_ : ByteArray) : Option Bool :=
 (if ((p.Spread.length : Int) == (0 : Int)) = true then some true else (yard_Find ms on_).bind fun r =>
 some (decide (r < (0 : Int)))).bind fun c =>
 if c = true then
  some false
 else
  (apart_zones ms).bind fun r2 =>
  (apart_Counts ms bs p).bind fun r3 =>
  (apart_Many.l1 on_ r2 r3 r3.1 0 false (0 : Int) (401 : Int)).bind fun j =>
  (labels_Has p.Labels p.Spread).bind fun r4 =>
  if r4 = true then
   some ((!j.1) || (decide ((IntKind.i64.wrap (j.2.1 + (1 : Int))) > (IntKind.i64.wrap (j.2.2 + p.Skew)))))
  else
   some ((!j.1) || (decide (j.2.1 > (IntKind.i64.wrap (j.2.2 + p.Skew)))))
theorem apart_Many_ok (ms : List T_api_Machine) (bs : List T_api_Bound) (p : T_api_Pod) (on_ : ByteArray) (r : Bool) (hm : apart_Many ms bs p on_ = some r) :
  VC Try.prog 81 [.list 30 (List.map T_api_Machine.vv ms), .list 50 (List.map T_api_Bound.vv bs), T_api_Pod.vv p, .str on_] [] (fun zx zH => zx = .bool r ∧ zH = []) := by
 unfold apart_Many at hm
 refine VC.run (c := _) (rs := [.tmp 8]) Try.func81 R R R <| VW.seq <| VW.region ?_
 refine VR.cons R R (VO.box R R fun b => ?_)
 refine VR.p R R (VP.assign R) <| VR.nil <| VW.seq <| VW.seq <| VW.region <| VR.p R R (VP.fieldP R fa39_9) <| VR.p R R (VP.loadP (i := 0) R R ld27 R) <| VR.p R R (VP.lenT T_api_Label.vv R Try.underlying27) <| VR.p R R (VP.arith R R R) <| VR.p R R (VP.move R) ?_
 obtain ⟨c, h5, hm⟩ := bnd hm
 refine VR.sc 5 27 (.bool c) (fun K' J => ?_) ?_
 ·have hm := h5
  rcases ite_or hm with ⟨h2, hm⟩ | ⟨h2, hm⟩
  ·refine VR.skipG R R R R h2 <| VR.skipG R R R R h2 <| VR.skipG R R R R h2 <| VR.skipG R R R R h2 <| VR.p R R (VP.pickB true R h2 R) ?_
   exact J [_, _, _, _] _ R (congrArg VV.bool (Option.some.inj hm))
  ·have h2 := bf h2
   refine VR.pG R R R R h2 (VP.move R) <| VR.pG R R R R h2 (VP.move R) ?_
   obtain ⟨r, h3, hm⟩ := bnd hm
   refine VR.consG R R R R h2 (VO.callK 0 R fn44 R (yard_Find_ok ms on_ r h3) fun _ _ h4 => ?_)
   obtain ⟨rfl, rfl⟩ := h4
   refine VR.pG R R R R h2 (VP.arith R R R) <| VR.p R R (VP.pickB false R h2 R) ?_
   exact J [_, _, _, _] _ R (congrArg VV.bool (Option.some.inj hm))
 ·refine VR.nil ?_
  rcases ite_or hm with ⟨h6, hm⟩ | ⟨h6, hm⟩
  ·refine VW.condT R h6 <| VW.seq <| VW.region <| VR.p R R (VP.assign R) <| VR.nil ?_
   obtain rfl := Option.some.inj hm
   exact VW.ret ⟨.inl R, _, .cons (.tmp _ _ R) .nil, [], _, R, R, R⟩
  ·have h6 := bf h6
   refine VW.condF R h6 <| VW.skip <| VW.seq <| VW.region <| VR.p R R (VP.move R) ?_
   obtain ⟨r2, h7, hm⟩ := bnd hm
   refine VR.cons R R (VO.callK 0 R fn93 R (apart_zones_ok ms r2 h7) fun _ _ h26 => ?_)
   obtain ⟨b2, rfl, rfl⟩ := h26
   refine VR.p R R (VP.move R) <| VR.p R R (VP.lookup 0 (kf := VV.str) (vf := VV.str) (l := r2) (k := on_) (z := (⟨#[]⟩ : ByteArray)) true mk9 Try.underlying131 R R R zc9 R) <| VR.p R R (VP.move R) <| VR.p R R (VP.extract R R) <| VR.p R R (VP.extract R R) <| VR.p R R (VP.assign R) <| VR.p R R (VP.assign R) <| VR.nil <| VW.seq <| VW.region <| VR.p R R (VP.move R) <| VR.p R R (VP.move R) <| VR.p R R (VP.loadP (i := 1) R R ld39 R) ?_
   obtain ⟨r3, h9, hm⟩ := bnd hm
   refine VR.cons R R (VO.callK 0 R fn95 R (apart_Counts_ok ms bs p r3 h9) fun _ _ h25 => ?_)
   obtain ⟨ob, cap, rfl, rfl⟩ := h25
   refine VR.p R R (VP.move R) <| VR.p R R (VP.extract R R) <| VR.p R R (VP.extract R R) <| VR.p R R (VP.assign R) <| VR.p R R (VP.assign R) <| VR.nil <| VW.seq <| VW.region <| VR.p R R (VP.assign R) <| VR.nil <| VW.seq <| VW.region <| VR.p R R (VP.assign R) <| VR.p R R (VP.assign R) <| VR.nil <| VW.seq <| VW.seq <| VW.region <| VR.p R R (VP.move R) <| VR.p R R (VP.lenT VV.str R Try.underlying66) <| VR.p R R (VP.move R) <| VR.nil <| VW.lenL 42 R fun h13 => ?_
   have h13 := max_map h13
   obtain ⟨o, h11, h12⟩ := bnd hm
   refine VW.joinE (fun (q : Bool × Int × Int) => q = o) (fun (j : Bool × Int × Int) (gg : Unit) => [(6, .ptr b 0), (13, .bool j.1), (14, .int .i64 j.2.1), (15, .int .i64 j.2.2)]) (fun (j : Bool × Int × Int) (gg : Unit) => [.box b 39 (T_api_Pod.cells p)]) ?_ ?_
   ·have hm := h11
    refine VW.block (VW.loop (r3.1.length + 1) ?_)
    refine VL.eachS (l := r3.1) (R := _) (fun zl zk (zs : Bool × Int × Int) => apart_Many.l1 on_ r2 r3 zl zk zs.1 zs.2.1 zs.2.2) (fun (k : Nat) (zs : Bool × Int × Int) (zg : Option Nat) => [(6, .ptr b 0), (9, .str ((V.mg r2 on_).getD (⟨#[]⟩ : ByteArray))), (10, .bool ((V.mg r2 on_).isSome)), (12, .sl zg (List.map (VV.int .i64) r3.2).length cap), (13, .bool zs.1), (14, .int .i64 zs.2.1), (15, .int .i64 zs.2.2), (42, .list 9 (List.map VV.str r3.1)), (43, .int .i64 (r3.1.length : Int)), (44, .int .i64 (k : Int))]) (fun (k : Nat) (zs : Bool × Int × Int) (zg : Option Nat) => [.row zg 3 cap (List.map (VV.int .i64) r3.2), .box b 39 (T_api_Pod.cells p)]) (false, (0 : Int), (401 : Int)) ob (Shift.pick [0, 1] R ⟨R, R, R, R, R, R, R, R, R, R, trivial⟩) h11 ?_ ?_
    ·rintro k ⟨met2, mine2, least2⟩ ob3 hk hm
     rw [apart_Many.l1] at hm
     refine VW.seq <| VW.region <| VR.p R R (VP.arith R R R) <| VR.nil <| VW.seq <| VW.condF R (k_end hk) <| VW.exit ?_
     exact ⟨(met2, mine2, least2), (), Option.some.inj hm, (Shift.pick [1] R ⟨R, R, R, R, trivial⟩)⟩
    ·rintro k x l ⟨met2, mine2, least2⟩ ob3 h14 hm
     rw [apart_Many.l1] at hm
     refine VW.seq <| VW.region <| VR.p R R (VP.arith R R R) <| VR.nil <| VW.seq <| VW.condT R (k_lt h14) <| VW.skip <| VW.seq <| VW.block <| VW.seq <| VW.region <| VR.p R R (VP.move R) <| VR.p R R (VP.glK VV.str R R el66 h14) <| VR.p R R (VP.loadE R ld9 R) <| VR.p R R (VP.assign R) <| VR.p R R (VP.assign R) <| VR.nil <| VW.seq <| VW.region <| VR.p R R (VP.move R) <| VR.p R R (VP.move R) <| VR.p R R (VP.move R) ?_
     obtain ⟨x2, h15, hm⟩ := bnd hm
     refine VR.someRow 0 R (gl_pos (VV.int .i64) h15) fun b3 h16 => ?_
     subst h16
     refine VR.p R R (VP.glR (VV.int .i64) R R el37 h15) <| VR.p R R (VP.loadR (i := 0) (y := (VV.int .i64) x2) R R R (gl_map _ (gl_some h15).2) ld3 R) <| VR.p R R (VP.min2 R R) <| VR.p R R (VP.assign R) <| VR.nil <| VW.seq <| VW.region <| VR.p R R (VP.move R) <| VR.p R R (VP.move R) ?_
     refine VR.sc 4 60 (.bool (((V.mg r2 on_).isSome) && (V.seq x ((V.mg r2 on_).getD (⟨#[]⟩ : ByteArray))))) (fun K' J => ?_) ?_
     ·rcases Bool.eq_false_or_eq_true ((V.mg r2 on_).isSome) with h17 | h17
      ·refine VR.pG R R R R h17 (VP.move R) <| VR.pG R R R R h17 (VP.move R) <| VR.pG R R R R h17 (VP.strop R R R) <| VR.p R R (VP.pickB true R h17 R) ?_
       exact J [_, _, _] _ R (andT h17)
      ·refine VR.skipG R R R R h17 <| VR.skipG R R R R h17 <| VR.skipG R R R R h17 <| VR.p R R (VP.pickB false R h17 R) ?_
       exact J [_, _, _] _ R (andF h17)
     ·refine VR.nil ?_
      rcases ite_or hm with ⟨h18, hm⟩ | ⟨h18, hm⟩
      ·refine VW.condT R h18 <| VW.drawK 0 mixed <| VA.p 0 R R R (by kernel_rfl) (VP.move R) <| VA.p 1 R R R (by kernel_rfl) (VP.move R) ?_
       obtain ⟨x3, h19, hm⟩ := bnd hm
       refine VA.p 2 R R R (by kernel_rfl) (VP.glR (VV.int .i64) R R el37 h19) <| VA.p 3 R R R (by kernel_rfl) (VP.loadR (i := 0) (y := (VV.int .i64) x3) R R R (gl_map _ (gl_some h19).2) ld3 R) <| VA.p 4 R R R (by kernel_rfl) (VP.assign R) <| VA.p 5 R R R (by kernel_rfl) (VP.assign R) <| VA.done (by kernel_rfl) <| VW.region <| VR.p R R (VP.arith R R R) <| VR.p R R (VP.move R) <| VR.nil ?_
       exact ⟨(true, x3, (min least2 x2)), (some b3), hm, (Shift.pick [0, 0] R ⟨R, R, R, R, R, R, R, R, R, congrArg some (k_next h14 h13), trivial⟩)⟩
      ·have h18 := bf h18
       refine VW.condF R h18 <| VW.skip <| VW.region <| VR.p R R (VP.arith R R R) <| VR.p R R (VP.move R) <| VR.nil ?_
       exact ⟨(met2, mine2, (min least2 x2)), (some b3), hm, (Shift.pick [0, 0] R ⟨R, R, R, R, R, R, R, R, R, congrArg some (k_next h14 h13), trivial⟩)⟩
   ·rintro j _ rfl
    have hm := h12
    refine VW.seq <| VW.seq <| VW.region <| VR.p R R (VP.fieldP R fa39_2) <| VR.p R R (VP.loadP (i := 0) R R ld27 R) <| VR.p R R (VP.fieldP R fa39_9) <| VR.p R R (VP.loadP (i := 0) R R ld27 R) ?_
    obtain ⟨r4, h20, hm⟩ := bnd hm
    refine VR.cons R R (VO.callK 0 R fn86 R (labels_Has_ok p.Labels p.Spread r4 h20) fun _ _ h24 => ?_)
    obtain ⟨rfl, rfl⟩ := h24
    refine VR.nil ?_
    rcases ite_or hm with ⟨h21, hm⟩ | ⟨h21, hm⟩
    ·refine VW.condT R h21 <| VW.region <| VR.p R R (VP.move R) <| VR.p R R (VP.arith R R R) <| VR.p R R (VP.assign R) <| VR.nil <| VW.seq <| VW.region <| VR.p R R (VP.move R) <| VR.p R R (VP.not R) <| VR.p R R (VP.move R) ?_
     refine VR.sc 7 82 (.bool ((!j.1) || (decide ((IntKind.i64.wrap (j.2.1 + (1 : Int))) > (IntKind.i64.wrap (j.2.2 + p.Skew)))))) (fun K' J => ?_) ?_
     ·rcases Bool.eq_false_or_eq_true (!j.1) with h22 | h22
      ·refine VR.skipG R R R R h22 <| VR.skipG R R R R h22 <| VR.skipG R R R R h22 <| VR.skipG R R R R h22 <| VR.skipG R R R R h22 <| VR.skipG R R R R h22 <| VR.p R R (VP.pickB true R h22 R) ?_
       exact J [_, _, _, _, _, _] _ R (orT h22)
      ·refine VR.pG R R R R h22 (VP.move R) <| VR.pG R R R R h22 (VP.move R) <| VR.pG R R R R h22 (VP.fieldP R fa39_10) <| VR.pG R R R R h22 (VP.loadP (i := 0) R R ld3 R) <| VR.pG R R R R h22 (VP.arith R R R) <| VR.pG R R R R h22 (VP.arith R R R) <| VR.p R R (VP.pickB false R h22 R) ?_
       exact J [_, _, _, _, _, _] _ R (orF h22)
     ·refine VR.p R R (VP.assign R) <| VR.nil ?_
      obtain rfl := Option.some.inj hm
      exact VW.ret ⟨.inl R, _, .cons (.tmp _ _ R) .nil, [], _, R, R, R⟩
    ·have h21 := bf h21
     refine VW.condF R h21 <| VW.skip <| VW.seq <| VW.region <| VR.p R R (VP.move R) <| VR.p R R (VP.not R) <| VR.p R R (VP.move R) ?_
     refine VR.sc 7 82 (.bool ((!j.1) || (decide (j.2.1 > (IntKind.i64.wrap (j.2.2 + p.Skew)))))) (fun K' J => ?_) ?_
     ·rcases Bool.eq_false_or_eq_true (!j.1) with h23 | h23
      ·refine VR.skipG R R R R h23 <| VR.skipG R R R R h23 <| VR.skipG R R R R h23 <| VR.skipG R R R R h23 <| VR.skipG R R R R h23 <| VR.skipG R R R R h23 <| VR.p R R (VP.pickB true R h23 R) ?_
       exact J [_, _, _, _, _, _] _ R (orT h23)
      ·refine VR.pG R R R R h23 (VP.move R) <| VR.pG R R R R h23 (VP.move R) <| VR.pG R R R R h23 (VP.fieldP R fa39_10) <| VR.pG R R R R h23 (VP.loadP (i := 0) R R ld3 R) <| VR.pG R R R R h23 (VP.arith R R R) <| VR.pG R R R R h23 (VP.arith R R R) <| VR.p R R (VP.pickB false R h23 R) ?_
       exact J [_, _, _, _, _, _] _ R (orF h23)
     ·refine VR.p R R (VP.assign R) <| VR.nil ?_
      obtain rfl := Option.some.inj hm
      exact VW.ret ⟨.inl R, _, .cons (.tmp _ _ R) .nil, [], _, R, R, R⟩

/-! trireme/apart.Why -/
def apart_Why (ms : List T_api_Machine) (bs : List T_api_Bound) (p : T_api_Pod) (on_ : ByteArray) : Option Int :=
 (apart_Near ms bs p on_).bind fun r =>
 if r = true then
  some (7 : Int)
 else
  (apart_Many ms bs p on_).bind fun r2 =>
  if r2 = true then
   some (8 : Int)
  else
   some (0 : Int)
theorem apart_Why_ok (ms : List T_api_Machine) (bs : List T_api_Bound) (p : T_api_Pod) (on_ : ByteArray) (r : Int) (hm : apart_Why ms bs p on_ = some r) :
  VC Try.prog 70 [.list 30 (List.map T_api_Machine.vv ms), .list 50 (List.map T_api_Bound.vv bs), T_api_Pod.vv p, .str on_] [] (fun zx zH => zx = .int .i64 r ∧ zH = []) := by
 unfold apart_Why at hm
 refine VC.run (c := _) (rs := [.tmp 8]) Try.func70 R R R <| VW.seq <| VW.region ?_
 refine VR.cons R R (VO.box R R fun b => ?_)
 refine VR.p R R (VP.assign R) <| VR.nil <| VW.seq <| VW.block <| VW.seq <| VW.region <| VR.p R R (VP.move R) <| VR.p R R (VP.move R) <| VR.p R R (VP.loadP (i := 0) R R ld39 R) <| VR.p R R (VP.move R) ?_
 obtain ⟨r, h2, hm⟩ := bnd hm
 refine VR.cons R R (VO.callK 0 R fn80 R (apart_Near_ok ms bs p on_ r h2) fun _ _ h7 => ?_)
 obtain ⟨rfl, rfl⟩ := h7
 refine VR.p R R (VP.assign R) <| VR.nil ?_
 rcases ite_or hm with ⟨h3, hm⟩ | ⟨h3, hm⟩
 ·refine VW.condT R h3 <| VW.seq <| VW.region <| VR.p R R (VP.assign R) <| VR.nil ?_
  obtain rfl := Option.some.inj hm
  exact VW.ret ⟨.inl R, _, .cons (.tmp _ _ R) .nil, [], _, R, R, R⟩
 ·have h3 := bf h3
  refine VW.condF R h3 <| VW.seq <| VW.region <| VR.p R R (VP.move R) <| VR.p R R (VP.move R) <| VR.p R R (VP.loadP (i := 0) R R ld39 R) <| VR.p R R (VP.move R) ?_
  obtain ⟨r2, h4, hm⟩ := bnd hm
  refine VR.cons R R (VO.callK 0 R fn81 R (apart_Many_ok ms bs p on_ r2 h4) fun _ _ h6 => ?_)
  obtain ⟨rfl, rfl⟩ := h6
  refine VR.p R R (VP.assign R) <| VR.nil ?_
  rcases ite_or hm with ⟨h5, hm⟩ | ⟨h5, hm⟩
  ·refine VW.condT R h5 <| VW.seq <| VW.region <| VR.p R R (VP.assign R) <| VR.nil ?_
   obtain rfl := Option.some.inj hm
   exact VW.ret ⟨.inl R, _, .cons (.tmp _ _ R) .nil, [], _, R, R, R⟩
  ·have h5 := bf h5
   refine VW.condF R h5 <| VW.skip <| VW.seq <| VW.region <| VR.p R R (VP.assign R) <| VR.nil ?_
   obtain rfl := Option.some.inj hm
   exact VW.ret ⟨.inl R, _, .cons (.tmp _ _ R) .nil, [], _, R, R, R⟩

/-! (trireme/fit.asker).why -/
def fit_asker_why (a : T_fit_asker) (m : T_api_Machine) : Option Int :=
 (suit_Suits m a.bs a.p).bind fun r =>
 if (r != (0 : Int)) = true then
  some r
 else
  (apart_Why a.ms a.bs a.p m.Name).bind fun r2 =>
  some r2
theorem fit_asker_why_ok (a : T_fit_asker) (m : T_api_Machine) (r : Int) (hm : fit_asker_why a m = some r) :
  VC Try.prog 58 [T_fit_asker.vv a, T_api_Machine.vv m] [] (fun zx zH => zx = .int .i64 r ∧ zH = []) := by
 unfold fit_asker_why at hm
 refine VC.run (c := _) (rs := [.tmp 4]) Try.func58 R R R <| VW.seq <| VW.region ?_
 refine VR.cons R R (VO.box R R fun b => ?_)
 refine VR.cons R R (VO.box R R fun b2 => ?_)
 refine VR.p R R (VP.assign R) <| VR.nil <| VW.seq <| VW.seq <| VW.region <| VR.p R R (VP.loadP (i := 0) R R ld30 R) <| VR.p R R (VP.fieldP R fa103_1) <| VR.p R R (VP.loadP (i := 1) R R ld23 R) <| VR.p R R (VP.fieldP R fa103_2) <| VR.p R R (VP.loadP (i := 1) R R ld39 R) ?_
 obtain ⟨r, h3, hm⟩ := bnd hm
 refine VR.cons R R (VO.callK 0 R fn69 R (suit_Suits_ok m a.bs a.p r h3) fun _ _ h7 => ?_)
 obtain ⟨rfl, rfl⟩ := h7
 refine VR.p R R (VP.assign R) <| VR.nil <| VW.seq <| VW.region <| VR.p R R (VP.move R) <| VR.p R R (VP.arith R R R) <| VR.nil ?_
 rcases ite_or hm with ⟨h4, hm⟩ | ⟨h4, hm⟩
 ·refine VW.condT R h4 <| VW.seq <| VW.region <| VR.p R R (VP.move R) <| VR.p R R (VP.assign R) <| VR.nil ?_
  obtain rfl := Option.some.inj hm
  exact VW.ret ⟨.inl R, _, .cons (.tmp _ _ R) .nil, [], _, R, R, R⟩
 ·have h4 := bf h4
  refine VW.condF R h4 <| VW.skip <| VW.seq <| VW.region <| VR.p R R (VP.fieldP R fa103_0) <| VR.p R R (VP.loadP (i := 1) R R ld22 R) <| VR.p R R (VP.fieldP R fa103_1) <| VR.p R R (VP.loadP (i := 1) R R ld23 R) <| VR.p R R (VP.fieldP R fa103_2) <| VR.p R R (VP.loadP (i := 1) R R ld39 R) <| VR.p R R (VP.fieldP R fa30_0) <| VR.p R R (VP.loadP (i := 0) R R ld9 R) ?_
  obtain ⟨r2, h5, hm⟩ := bnd hm
  refine VR.cons R R (VO.callK 0 R fn70 R (apart_Why_ok a.ms a.bs a.p m.Name r2 h5) fun _ _ h6 => ?_)
  obtain ⟨rfl, rfl⟩ := h6
  refine VR.p R R (VP.assign R) <| VR.nil ?_
  obtain rfl := Option.some.inj hm
  exact VW.ret ⟨.inl R, _, .cons (.tmp _ _ R) .nil, [], _, R, R, R⟩

/-! trireme/fit.Where$1 -/
def fit_Where_1 (name : ByteArray) (why : Int) (a : List ByteArray) : Option (List ByteArray) :=
 if (why == (0 : Int)) = true then
  (V.ap 16 a [name]).bind fun l =>
  some l
 else
  some a
theorem fit_Where_1_ok (name : ByteArray) (why : Int) (a : List ByteArray) (b : Nat) (ob : Option Nat) (cap : Nat) (r : List ByteArray) (hm : fit_Where_1 name why a = some r) :
  VC Try.prog 60 [.str name, .int .i64 why, .ptr b 0] [.box b 66 [.sl ob (List.map VV.str a).length cap], .row ob 9 cap (List.map VV.str a)] (fun zx zH => ∃ (ob0_0 : Option Nat) (cap0_0 : Nat), zx = .tup [] ∧ zH = [.box b 66 [.sl ob0_0 (List.map VV.str r).length cap0_0], .row ob0_0 9 cap0_0 (List.map VV.str r)]) := by
 unfold fit_Where_1 at hm
 refine VC.run (c := _) (rs := []) Try.func60 R R R <| VW.seq <| VW.region <| VR.p R R (VP.move R) <| VR.p R R (VP.arith R R R) <| VR.nil ?_
 rcases ite_or hm with ⟨h1, hm⟩ | ⟨h1, hm⟩
 ·refine VW.condT R h1 <| VW.region <| VR.p R R (VP.loadP (i := 0) R R ld66 R) <| VR.p R R (VP.move R) ?_
  refine VR.cons R R (VO.buildSlice ap66 R R R R R fun b2 => ?_)
  obtain ⟨l, h3, hm⟩ := bnd hm
  refine VR.cons R R (VO.apT 2 VV.str (l := a) (l2 := [name]) ap66 R R (sT_row 0 VV.str el66 R R) h3 fun ob2 cap2 => ?_)
  refine VR.cons R R (VO.storeP (i := 1) R R R ld66 R R R ?_)
  refine VR.nil ?_
  obtain rfl := Option.some.inj hm
  exact ⟨.inr R, _, .nil, [1, 1], _, R, ob2, cap2, R, R⟩
 ·have h1 := bf h1
  refine VW.condF R h1 <| VW.skip ?_
  obtain rfl := Option.some.inj hm
  exact ⟨.inr R, _, .nil, [0, 0], _, R, ob, cap, R, R⟩

/-! trireme/fit.each -/
def fit_each_fit_asker_why_fit_Where_1.l1 (c : T_fit_asker) : List T_api_Machine → Nat → (List ByteArray) → Option (List ByteArray)
 | [], k, l2 => some l2
 | x :: l4, k, l2 =>
  (fit_asker_why c x).bind fun r =>
  (fit_Where_1 x.Name r l2).bind fun r2 =>
  fit_each_fit_asker_why_fit_Where_1.l1 c l4 (k + 1) r2
def fit_each_fit_asker_why_fit_Where_1 (ms : List T_api_Machine) (c : T_fit_asker) (c2 : List ByteArray) : Option (List ByteArray) :=
 (fit_each_fit_asker_why_fit_Where_1.l1 c ms 0 c2).bind fun l32 =>
 some l32
theorem fit_each_fit_asker_why_fit_Where_1_ok (ms : List T_api_Machine) (c : T_fit_asker) (c2 : List ByteArray) (b : Nat) (ob : Option Nat) (cap : Nat) (r : List ByteArray) (hm : fit_each_fit_asker_why_fit_Where_1 ms c c2 = some r) :
  VC Try.prog 59 [.list 30 (List.map T_api_Machine.vv ms), .clo (.func 58) [T_fit_asker.vv c] [], .clo (.func 60) [] [.ptr b 0]] [.box b 66 [.sl ob (List.map VV.str c2).length cap], .row ob 9 cap (List.map VV.str c2)] (fun zx zH => ∃ (ob0_0 : Option Nat) (cap0_0 : Nat), zx = .tup [] ∧ zH = [.box b 66 [.sl ob0_0 (List.map VV.str r).length cap0_0], .row ob0_0 9 cap0_0 (List.map VV.str r)]) := by
 unfold fit_each_fit_asker_why_fit_Where_1 at hm
 refine VC.run (c := _) (rs := []) Try.func59 R R R <| VW.seq <| VW.region <| VR.p R R (VP.move R) <| VR.p R R (VP.lenT T_api_Machine.vv R Try.underlying22) <| VR.p R R (VP.move R) <| VR.nil <| VW.lenL 8 R fun h3 => ?_
 have h3 := max_map h3
 obtain ⟨o, h1, h2⟩ := bnd hm
 refine VW.joinE (fun (q : List ByteArray) => q = o) (fun (l32 : List ByteArray) (gg : Option Nat × Nat) => []) (fun (l32 : List ByteArray) (gg : Option Nat × Nat) => [.box b 66 [.sl gg.1 (List.map VV.str l32).length gg.2], .row gg.1 9 gg.2 (List.map VV.str l32)]) ?_ ?_
 ·have hm := h1
  refine VW.block (VW.loop (ms.length + 1) ?_)
  refine VL.eachS (l := ms) (R := _) (fun zl zk (zs : List ByteArray) => fit_each_fit_asker_why_fit_Where_1.l1 c zl zk zs) (fun (k : Nat) (zs : List ByteArray) (zg : Option Nat × Nat) => [(1, .clo (.func 58) [T_fit_asker.vv c] []), (2, .clo (.func 60) [] [.ptr b 0]), (8, .list 30 (List.map T_api_Machine.vv ms)), (9, .int .i64 (ms.length : Int)), (10, .int .i64 (k : Int))]) (fun (k : Nat) (zs : List ByteArray) (zg : Option Nat × Nat) => [.box b 66 [.sl zg.1 (List.map VV.str zs).length zg.2], .row zg.1 9 zg.2 (List.map VV.str zs)]) c2 (ob, cap) (Shift.pick [0, 0] R ⟨R, R, R, R, R, trivial⟩) h1 ?_ ?_
  ·rintro k l2 ⟨ob3, cap3⟩ hk hm
   rw [fit_each_fit_asker_why_fit_Where_1.l1] at hm
   refine VW.seq <| VW.region <| VR.p R R (VP.arith R R R) <| VR.nil <| VW.seq <| VW.condF R (k_end hk) <| VW.exit ?_
   exact ⟨l2, (ob3, cap3), Option.some.inj hm, (Shift.pick [0, 0] R trivial)⟩
  ·rintro k x l4 l2 ⟨ob3, cap3⟩ h4 hm
   rw [fit_each_fit_asker_why_fit_Where_1.l1] at hm
   refine VW.seq <| VW.region <| VR.p R R (VP.arith R R R) <| VR.nil <| VW.seq <| VW.condT R (k_lt h4) <| VW.skip <| VW.seq <| VW.block <| VW.seq <| VW.region <| VR.p R R (VP.glK T_api_Machine.vv R R el22 h4) <| VR.p R R (VP.loadE R ld30 R) ?_
   refine VR.cons R R (VO.alloc z30 fun b2 => ?_)
   refine VR.cons R R (VO.storeP (i := 0) R R R ld30 R R R ?_)
   refine VR.nil <| VW.shift (Shift.mem [1, 1, 0] R) <| VW.drawK 2 mixed <| VA.p 0 R R R (by kernel_rfl) (VP.move R) <| VA.p 1 R R R (by kernel_rfl) (VP.fieldP R fa30_0) <| VA.p 2 R R R (by kernel_rfl) (VP.loadP (i := 0) R R ld9 R) <| VA.p 3 R R R (by kernel_rfl) (VP.move R) <| VA.p 4 R R R (by kernel_rfl) (VP.loadP (i := 0) R R ld30 R) ?_
   refine VA.all [5] (by kernel_rfl) ⟨?_, trivial⟩
   obtain ⟨r, h6, hm⟩ := bnd hm
   refine VB.o R R R (VO.callK 0 R fn58 R (fit_asker_why_ok c x r h6) fun _ _ h9 => ?_)
   obtain ⟨rfl, rfl⟩ := h9
   refine VA.all [6] (by kernel_rfl) ⟨?_, trivial⟩
   obtain ⟨r2, h7, hm⟩ := bnd hm
   refine VB.o R R R (VO.callK 2 R fn60 R (fit_Where_1_ok x.Name r l2 b ob3 cap3 r2 h7) fun _ _ h8 => ?_)
   obtain ⟨ob5, cap5, rfl, rfl⟩ := h8
   refine VA.done (by kernel_rfl) <| VW.region <| VR.p R R (VP.arith R R R) <| VR.p R R (VP.move R) <| VR.nil ?_
   exact ⟨r2, (ob5, cap5), hm, (Shift.pick [0, 0] R ⟨R, R, R, R, congrArg some (k_next h4 h3), trivial⟩)⟩
 ·rintro l32 ⟨ob4, cap4⟩ rfl
  have hm := h2
  obtain rfl := Option.some.inj hm
  exact ⟨.inr R, _, .nil, [0, 0], _, R, ob4, cap4, R, R⟩

/-! trireme/fit.Where -/
def fit_Where (ms : List T_api_Machine) (bs : List T_api_Bound) (p : T_api_Pod) : Option (List ByteArray) :=
 (fit_each_fit_asker_why_fit_Where_1 ms (⟨ms, bs, p⟩ : T_fit_asker) ([] : List ByteArray)).bind fun r =>
 some r
theorem fit_Where_ok (ms : List T_api_Machine) (bs : List T_api_Bound) (p : T_api_Pod) (r : List ByteArray) (hm : fit_Where ms bs p = some r) :
  VC Try.prog 42 [.list 30 (List.map T_api_Machine.vv ms), .list 50 (List.map T_api_Bound.vv bs), T_api_Pod.vv p] [] (fun zx zH => ∃ (ob0 : Option Nat) (cap0 : Nat), zx = .sl ob0 (List.map VV.str r).length cap0 ∧ zH = [.row ob0 9 cap0 (List.map VV.str r)]) := by
 unfold fit_Where at hm
 refine VC.run (c := _) (rs := [.tmp 6]) Try.func42 R R R <| VW.seq <| VW.region ?_
 refine VR.cons R R (VO.box R R fun b => ?_)
 refine VR.p R R (VP.assign R) <| VR.nil <| VW.seq <| VW.region ?_
 refine VR.cons R R (VO.alloc z66 fun b2 => ?_)
 refine VR.nil <| VW.seq <| VW.region <| VR.p R R (VP.move R) <| VR.p R R (VP.move R) <| VR.p R R (VP.move R) <| VR.p R R (VP.loadP (i := 1) R R ld39 R) <| VR.p R R (VP.buildP pl103 R R) <| VR.p R R (VP.makeFunc R R) <| VR.p R R (VP.makeFunc R R) <| VR.shift (Shift.nilRow 9) ?_
 obtain ⟨r, h4, hm⟩ := bnd hm
 refine VR.shift (Shift.mem [1, 0, 0] R) ?_
 refine VR.cons R R (VO.callK 2 R fn59 R (fit_each_fit_asker_why_fit_Where_1_ok ms (⟨ms, bs, p⟩ : T_fit_asker) ([] : List ByteArray) b2 none 0 r h4) fun _ _ h5 => ?_)
 obtain ⟨ob, cap, rfl, rfl⟩ := h5
 refine VR.nil <| VW.seq <| VW.region <| VR.p R R (VP.loadP (i := 0) R R ld66 R) <| VR.p R R (VP.assign R) <| VR.nil ?_
 obtain rfl := Option.some.inj hm
 exact VW.ret ⟨.inl R, _, .cons (.tmp _ _ R) .nil, [1], _, R, ob, cap, R, R⟩

/-! trireme/taints.Prefers -/
def taints_Prefers (l : List T_api_Toleration) (taints : List T_api_Taint) : Option Int :=
 (taints_Unborne l taints (2 : Int)).bind fun r =>
 some (r.length : Int)
theorem taints_Prefers_ok (l : List T_api_Toleration) (taints : List T_api_Taint) (r : Int) (hm : taints_Prefers l taints = some r) :
  VC Try.prog 74 [.list 94 (List.map T_api_Toleration.vv l), .list 96 (List.map T_api_Taint.vv taints)] [] (fun zx zH => zx = .int .i64 r ∧ zH = []) := by
 unfold taints_Prefers at hm
 refine VC.run (c := _) (rs := [.tmp 4]) Try.func74 R R R <| VW.seq <| VW.region <| VR.p R R (VP.assign R) <| VR.nil <| VW.seq <| VW.region <| VR.p R R (VP.move R) <| VR.p R R (VP.move R) ?_
 obtain ⟨r, h1, hm⟩ := bnd hm
 refine VR.cons R R (VO.callK 0 R fn84 R (taints_Unborne_ok l taints (2 : Int) r h1) fun _ _ h2 => ?_)
 obtain ⟨rfl, rfl⟩ := h2
 refine VR.p R R (VP.lenT T_api_Taint.vv R Try.underlying28) <| VR.p R R (VP.assign R) <| VR.nil ?_
 obtain rfl := Option.some.inj hm
 exact VW.ret ⟨.inl R, _, .cons (.tmp _ _ R) .nil, [], _, R, R, R⟩

/-! trireme/suit.Prefers -/
def suit_Prefers (m : T_api_Machine) (p : T_api_Pod) : Option Int :=
 (taints_Prefers p.Bears m.Taints).bind fun r =>
 some r
theorem suit_Prefers_ok (m : T_api_Machine) (p : T_api_Pod) (r : Int) (hm : suit_Prefers m p = some r) :
  VC Try.prog 62 [T_api_Machine.vv m, T_api_Pod.vv p] [] (fun zx zH => zx = .int .i64 r ∧ zH = []) := by
 unfold suit_Prefers at hm
 refine VC.run (c := _) (rs := [.tmp 4]) Try.func62 R R R <| VW.seq <| VW.region ?_
 refine VR.cons R R (VO.box R R fun b => ?_)
 refine VR.cons R R (VO.box R R fun b2 => ?_)
 refine VR.p R R (VP.assign R) <| VR.nil <| VW.seq <| VW.region <| VR.p R R (VP.fieldP R fa39_5) <| VR.p R R (VP.loadP (i := 0) R R ld36 R) <| VR.p R R (VP.fieldP R fa30_4) <| VR.p R R (VP.loadP (i := 1) R R ld28 R) ?_
 obtain ⟨r, h3, hm⟩ := bnd hm
 refine VR.cons R R (VO.callK 0 R fn74 R (taints_Prefers_ok p.Bears m.Taints r h3) fun _ _ h4 => ?_)
 obtain ⟨rfl, rfl⟩ := h4
 refine VR.p R R (VP.assign R) <| VR.nil ?_
 obtain rfl := Option.some.inj hm
 exact VW.ret ⟨.inl R, _, .cons (.tmp _ _ R) .nil, [], _, R, R, R⟩

/-! trireme/res.part -/
def res_part (a : Int) (b : Int) : Option Int :=
 if (decide (b > (0 : Int))) = true then
  (V.quo (IntKind.i64.wrap ((1000 : Int) * a)) b).bind fun v =>
  some (min (IntKind.i64.wrap v) (1000000 : Int))
 else
  if (decide (a > (0 : Int))) = true then
   some (1000000 : Int)
  else
   some (0 : Int)
theorem res_part_ok (a : Int) (b : Int) (r : Int) (hm : res_part a b = some r) :
  VC Try.prog 57 [.int .i64 a, .int .i64 b] [] (fun zx zH => zx = .int .i64 r ∧ zH = []) := by
 unfold res_part at hm
 refine VC.run (c := _) (rs := [.tmp 4]) Try.func57 R R R <| VW.seq <| VW.region <| VR.p R R (VP.assign R) <| VR.nil <| VW.seq <| VW.block <| VW.seq <| VW.region <| VR.p R R (VP.move R) <| VR.p R R (VP.arith R R R) <| VR.p R R (VP.assign R) <| VR.nil ?_
 rcases ite_or hm with ⟨h1, hm⟩ | ⟨h1, hm⟩
 ·refine VW.condT R h1 <| VW.seq <| VW.region <| VR.p R R (VP.move R) <| VR.p R R (VP.arith R R R) <| VR.p R R (VP.move R) ?_
  obtain ⟨v, h2, hm⟩ := bnd hm
  refine VR.p R R (VP.quoT R R h2) <| VR.p R R (VP.min2 R R) <| VR.p R R (VP.assign R) <| VR.nil ?_
  obtain rfl := Option.some.inj hm
  exact VW.ret ⟨.inl R, _, .cons (.tmp _ _ R) .nil, [], _, R, R, R⟩
 ·have h1 := bf h1
  refine VW.condF R h1 <| VW.seq <| VW.region <| VR.p R R (VP.move R) <| VR.p R R (VP.arith R R R) <| VR.p R R (VP.assign R) <| VR.nil ?_
  rcases ite_or hm with ⟨h3, hm⟩ | ⟨h3, hm⟩
  ·refine VW.condT R h3 <| VW.seq <| VW.region <| VR.p R R (VP.assign R) <| VR.nil ?_
   obtain rfl := Option.some.inj hm
   exact VW.ret ⟨.inl R, _, .cons (.tmp _ _ R) .nil, [], _, R, R, R⟩
  ·have h3 := bf h3
   refine VW.condF R h3 <| VW.skip <| VW.seq <| VW.region <| VR.p R R (VP.assign R) <| VR.nil ?_
   obtain rfl := Option.some.inj hm
   exact VW.ret ⟨.inl R, _, .cons (.tmp _ _ R) .nil, [], _, R, R, R⟩

/-! trireme/res.Share -/
def res_Share (a : T_api_Res) (b : T_api_Res) : Option Int :=
 (res_Right a).bind fun r =>
 (if (!r) = true then some true else (res_Right b).bind fun r2 =>
 some (!r2)).bind fun c =>
 if c = true then
  some (0 : Int)
 else
  (res_part a.Cpu b.Cpu).bind fun r3 =>
  (res_part a.Mem b.Mem).bind fun r4 =>
  some (max r3 r4)
theorem res_Share_ok (a : T_api_Res) (b : T_api_Res) (r : Int) (hm : res_Share a b = some r) :
  VC Try.prog 39 [T_api_Res.vv a, T_api_Res.vv b] [] (fun zx zH => zx = .int .i64 r ∧ zH = []) := by
 unfold res_Share at hm
 refine VC.run (c := _) (rs := [.tmp 4]) Try.func39 R R R <| VW.seq <| VW.region ?_
 refine VR.cons R R (VO.box R R fun b2 => ?_)
 refine VR.cons R R (VO.box R R fun b3 => ?_)
 refine VR.p R R (VP.assign R) <| VR.nil <| VW.seq <| VW.seq <| VW.region <| VR.p R R (VP.loadP (i := 1) R R ld26 R) ?_
 obtain ⟨r, h3, hm⟩ := bnd hm
 refine VR.cons R R (VO.callK 0 R fn56 R (res_Right_ok a r h3) fun _ _ h13 => ?_)
 obtain ⟨rfl, rfl⟩ := h13
 refine VR.p R R (VP.not R) <| VR.p R R (VP.move R) ?_
 obtain ⟨c, h7, hm⟩ := bnd hm
 refine VR.sc 4 12 (.bool c) (fun K' J => ?_) ?_
 ·have hm := h7
  rcases ite_or hm with ⟨h4, hm⟩ | ⟨h4, hm⟩
  ·refine VR.skipG R R R R h4 <| VR.skipG R R R R h4 <| VR.skipG R R R R h4 <| VR.p R R (VP.pickB true R h4 R) ?_
   exact J [_, _, _] _ R (congrArg VV.bool (Option.some.inj hm))
  ·have h4 := bf h4
   refine VR.pG R R R R h4 (VP.loadP (i := 0) R R ld26 R) ?_
   obtain ⟨r2, h5, hm⟩ := bnd hm
   refine VR.consG R R R R h4 (VO.callK 0 R fn56 R (res_Right_ok b r2 h5) fun _ _ h6 => ?_)
   obtain ⟨rfl, rfl⟩ := h6
   refine VR.pG R R R R h4 (VP.not R) <| VR.p R R (VP.pickB false R h4 R) ?_
   exact J [_, _, _] _ R (congrArg VV.bool (Option.some.inj hm))
 ·refine VR.nil ?_
  rcases ite_or hm with ⟨h8, hm⟩ | ⟨h8, hm⟩
  ·refine VW.condT R h8 <| VW.seq <| VW.region <| VR.p R R (VP.assign R) <| VR.nil ?_
   obtain rfl := Option.some.inj hm
   exact VW.ret ⟨.inl R, _, .cons (.tmp _ _ R) .nil, [], _, R, R, R⟩
  ·have h8 := bf h8
   refine VW.condF R h8 <| VW.skip <| VW.seq <| VW.drawK 0 mixed <| VA.p 0 R R R (by kernel_rfl) (VP.fieldP R fa26_0) <| VA.p 1 R R R (by kernel_rfl) (VP.loadP (i := 1) R R ld3 R) <| VA.p 2 R R R (by kernel_rfl) (VP.fieldP R fa26_0) <| VA.p 3 R R R (by kernel_rfl) (VP.loadP (i := 0) R R ld3 R) <| VA.p 5 R R R (by kernel_rfl) (VP.fieldP R fa26_1) <| VA.p 6 R R R (by kernel_rfl) (VP.loadP (i := 1) R R ld3 R) <| VA.p 7 R R R (by kernel_rfl) (VP.fieldP R fa26_1) <| VA.p 8 R R R (by kernel_rfl) (VP.loadP (i := 0) R R ld3 R) ?_
   refine VA.all [4] (by kernel_rfl) ⟨?_, trivial⟩
   obtain ⟨r3, h9, hm⟩ := bnd hm
   refine VB.o R R R (VO.callK 0 R fn57 R (res_part_ok a.Cpu b.Cpu r3 h9) fun _ _ h12 => ?_)
   obtain ⟨rfl, rfl⟩ := h12
   refine VA.all [9] (by kernel_rfl) ⟨?_, trivial⟩
   obtain ⟨r4, h10, hm⟩ := bnd hm
   refine VB.o R R R (VO.callK 0 R fn57 R (res_part_ok a.Mem b.Mem r4 h10) fun _ _ h11 => ?_)
   obtain ⟨rfl, rfl⟩ := h11
   refine VA.p 10 R R R (by kernel_rfl) (VP.max2 R R) <| VA.p 11 R R R (by kernel_rfl) (VP.assign R) <| VA.done (by kernel_rfl) ?_
   obtain rfl := Option.some.inj hm
   exact VW.ret ⟨.inl R, _, .cons (.tmp _ _ R) .nil, [], _, R, R, R⟩

/-! trireme/sched.of -/
def sched_of.l1 (p : T_api_Pod) : List T_api_Bound → Nat → (List T_api_Bound) → Option (List T_api_Bound)
 | [], k, others2 => some others2
 | x :: l, k, others2 =>
  if (!(V.seq x.Pod.Name p.Name)) = true then
   (V.ap 288 others2 [x]).bind fun others4 =>
   sched_of.l1 p l (k + 1) others4
  else
   sched_of.l1 p l (k + 1) others2
def sched_of (m : T_api_Machine) (bs : List T_api_Bound) (p : T_api_Pod) : Option T_sched_score :=
 (sched_of.l1 p bs 0 ([] : List T_api_Bound)).bind fun others32 =>
 (yard_Used others32 m.Name).bind fun r =>
 (suit_Prefers m p).bind fun r2 =>
 (res_Share r.1 m.Has).bind fun r3 =>
 some (⟨r2, r3⟩ : T_sched_score)
theorem sched_of_ok (m : T_api_Machine) (bs : List T_api_Bound) (p : T_api_Pod) (r : T_sched_score) (hm : sched_of m bs p = some r) :
  VC Try.prog 43 [T_api_Machine.vv m, .list 50 (List.map T_api_Bound.vv bs), T_api_Pod.vv p] [] (fun zx zH => zx = T_sched_score.vv r ∧ zH = []) := by
 unfold sched_of at hm
 refine VC.run (c := _) (rs := [.cell 6 84]) Try.func43 R R R <| VW.seq <| VW.region ?_
 refine VR.cons R R (VO.box R R fun b => ?_)
 refine VR.cons R R (VO.box R R fun b2 => ?_)
 refine VR.cons R R (VO.alloc z84 fun b3 => ?_)
 refine VR.nil <| VW.seq <| VW.region <| VR.p R R (VP.assign R) <| VR.nil <| VW.seq <| VW.seq <| VW.region <| VR.p R R (VP.move R) <| VR.p R R (VP.lenT T_api_Bound.vv R Try.underlying23) <| VR.p R R (VP.move R) <| VR.nil <| VW.lenL 12 R fun h8 => ?_
 have h8 := max_map h8
 obtain ⟨o, h6, h7⟩ := bnd hm
 refine VW.joinE (fun (q : List T_api_Bound) => q = o) (fun (others32 : List T_api_Bound) (gg : Option Nat × Nat) => [(3, .ptr b 0), (5, .ptr b2 0), (6, .ptr b3 0), (7, .sl gg.1 (List.map T_api_Bound.vv others32).length gg.2)]) (fun (others32 : List T_api_Bound) (gg : Option Nat × Nat) => [.row gg.1 50 gg.2 (List.map T_api_Bound.vv others32), .box b3 84 (T_sched_score.cells (⟨(0 : Int), (0 : Int)⟩ : T_sched_score)), .box b2 39 (T_api_Pod.cells p), .box b 30 (T_api_Machine.cells m)]) ?_ ?_
 ·have hm := h6
  refine VW.block (VW.loop (bs.length + 1) ?_)
  refine VL.eachS (l := bs) (R := _) (fun zl zk (zs : List T_api_Bound) => sched_of.l1 p zl zk zs) (fun (k : Nat) (zs : List T_api_Bound) (zg : Option Nat × Nat) => [(3, .ptr b 0), (5, .ptr b2 0), (6, .ptr b3 0), (7, .sl zg.1 (List.map T_api_Bound.vv zs).length zg.2), (12, .list 50 (List.map T_api_Bound.vv bs)), (13, .int .i64 (bs.length : Int)), (14, .int .i64 (k : Int))]) (fun (k : Nat) (zs : List T_api_Bound) (zg : Option Nat × Nat) => [.row zg.1 50 zg.2 (List.map T_api_Bound.vv zs), .box b3 84 (T_sched_score.cells (⟨(0 : Int), (0 : Int)⟩ : T_sched_score)), .box b2 39 (T_api_Pod.cells p), .box b 30 (T_api_Machine.cells m)]) ([] : List T_api_Bound) (none, 0) (Shift.trans (Shift.nilRow 50) (Shift.pick [0, 0, 0, 0] R ⟨R, R, R, R, R, R, R, trivial⟩)) h6 ?_ ?_
  ·rintro k others2 ⟨ob2, cap2⟩ hk hm
   rw [sched_of.l1] at hm
   refine VW.seq <| VW.region <| VR.p R R (VP.arith R R R) <| VR.nil <| VW.seq <| VW.condF R (k_end hk) <| VW.exit ?_
   exact ⟨others2, (ob2, cap2), Option.some.inj hm, (Shift.pick [0, 0, 0, 0] R ⟨R, R, R, R, trivial⟩)⟩
  ·rintro k x l others2 ⟨ob2, cap2⟩ h9 hm
   rw [sched_of.l1] at hm
   refine VW.seq <| VW.region <| VR.p R R (VP.arith R R R) <| VR.nil <| VW.seq <| VW.condT R (k_lt h9) <| VW.skip <| VW.seq <| VW.block <| VW.seq <| VW.region <| VR.p R R (VP.glK T_api_Bound.vv R R el23 h9) <| VR.p R R (VP.loadE R ld50 R) ?_
   refine VR.cons R R (VO.alloc z50 fun b4 => ?_)
   refine VR.cons R R (VO.storeP (i := 0) R R R ld50 R R R ?_)
   refine VR.nil <| VW.seq <| VW.region <| VR.p R R (VP.fieldP R fa50_0) <| VR.p R R (VP.fieldP R fa39_0) <| VR.p R R (VP.loadP (i := 0) R R ld9 R) <| VR.p R R (VP.fieldP R fa39_0) <| VR.p R R (VP.loadP (i := 3) R R ld9 R) <| VR.p R R (VP.strop R R R) <| VR.nil ?_
   rcases ite_or hm with ⟨h11, hm⟩ | ⟨h11, hm⟩
   ·refine VW.condT R h11 <| VW.region <| VR.p R R (VP.move R) <| VR.p R R (VP.loadP (i := 0) R R ld50 R) ?_
    refine VR.cons R R (VO.buildSlice ap23 R R R R R fun b5 => ?_)
    obtain ⟨others4, h13, hm⟩ := bnd hm
    refine VR.cons R R (VO.apT 2 T_api_Bound.vv (l := others2) (l2 := [x]) ap23 R R (sT_row 0 T_api_Bound.vv el23 R R) h13 fun ob4 cap4 => ?_)
    refine VR.p R R (VP.assign R) <| VR.nil <| VW.region <| VR.p R R (VP.arith R R R) <| VR.p R R (VP.move R) <| VR.nil ?_
    exact ⟨others4, (ob4, cap4), hm, (Shift.pick [2, 2, 2, 2] R ⟨R, R, R, R, R, R, congrArg some (k_next h9 h8), trivial⟩)⟩
   ·have h11 := bf h11
    refine VW.condF R h11 <| VW.skip <| VW.region <| VR.p R R (VP.arith R R R) <| VR.p R R (VP.move R) <| VR.nil ?_
    exact ⟨others2, (ob2, cap2), hm, (Shift.pick [1, 1, 1, 1] R ⟨R, R, R, R, R, R, congrArg some (k_next h9 h8), trivial⟩)⟩
 ·rintro others32 ⟨ob3, cap3⟩ rfl
  have hm := h7
  refine VW.seq <| VW.region <| VR.p R R (VP.move R) <| VR.p R R (VP.fieldP R fa30_0) <| VR.p R R (VP.loadP (i := 3) R R ld9 R) ?_
  obtain ⟨r, h15, hm⟩ := bnd hm
  refine VR.cons R R (VO.callL (Shift.freezeE 0 [(7, .list 50 (List.map T_api_Bound.vv others32)), (30, .list 50 (List.map T_api_Bound.vv others32))] R ⟨⟨_, R, .here _ R⟩, ⟨_, R, .here _ R⟩, trivial⟩ (FzH.refl _)) [.same, .same] R fn61 R (yard_Used_ok others32 m.Name r h15) fun _ _ h21 => ?_)
  obtain ⟨rfl, rfl⟩ := h21
  refine ⟨R, R, ?_⟩
  refine VR.p R R (VP.move R) <| VR.p R R (VP.extract R R) <| VR.p R R (VP.extract R R) ?_
  refine VR.cons R R (VO.alloc z26 fun b6 => ?_)
  refine VR.cons R R (VO.storeP (i := 0) R R R ld26 R R R ?_)
  refine VR.p R R (VP.assign R) <| VR.nil <| VW.seq <| VW.shift (Shift.mem [2, 0, 0, 0, 0] R) <| VW.drawK 1 mixed <| VA.p 0 R R R (by kernel_rfl) (VP.loadP (i := 3) R R ld30 R) <| VA.p 1 R R R (by kernel_rfl) (VP.loadP (i := 2) R R ld39 R) <| VA.p 3 R R R (by kernel_rfl) (VP.loadP (i := 0) R R ld26 R) <| VA.p 4 R R R (by kernel_rfl) (VP.fieldP R fa30_2) <| VA.p 5 R R R (by kernel_rfl) (VP.loadP (i := 3) R R ld26 R) ?_
  refine VA.all [2] (by kernel_rfl) ⟨?_, trivial⟩
  obtain ⟨r2, h17, hm⟩ := bnd hm
  refine VB.o R R R (VO.callK 0 R fn62 R (suit_Prefers_ok m p r2 h17) fun _ _ h20 => ?_)
  obtain ⟨rfl, rfl⟩ := h20
  refine VA.all [6] (by kernel_rfl) ⟨?_, trivial⟩
  obtain ⟨r3, h18, hm⟩ := bnd hm
  refine VB.o R R R (VO.callK 0 R fn39 R (res_Share_ok r.1 m.Has r3 h18) fun _ _ h19 => ?_)
  obtain ⟨rfl, rfl⟩ := h19
  refine VA.p 7 R R R (by kernel_rfl) (VP.buildP pl84 R R) ?_
  refine VA.all [8] (by kernel_rfl) ⟨?_, trivial⟩
  refine VB.o R R R (VO.storeP (i := 0) R R R ld84 R R R ?_)
  refine VA.done (by kernel_rfl) ?_
  obtain rfl := Option.some.inj hm
  exact VW.ret ⟨.inl R, _, .cons (.cell _ _ _ _ 0 _ _ _ _ R R ld84 R) .nil, [], _, R, R, R⟩

/-! (trireme/sched.score).less -/
def sched_score_less (a : T_sched_score) (b : T_sched_score) : Option Bool :=
 if (a.prefers != b.prefers) = true then
  some (decide (a.prefers < b.prefers))
 else
  some (decide (a.share < b.share))
theorem sched_score_less_ok (a : T_sched_score) (b : T_sched_score) (r : Bool) (hm : sched_score_less a b = some r) :
  VC Try.prog 45 [T_sched_score.vv a, T_sched_score.vv b] [] (fun zx zH => zx = .bool r ∧ zH = []) := by
 unfold sched_score_less at hm
 refine VC.run (c := _) (rs := [.tmp 4]) Try.func45 R R R <| VW.seq <| VW.region ?_
 refine VR.cons R R (VO.box R R fun b2 => ?_)
 refine VR.cons R R (VO.box R R fun b3 => ?_)
 refine VR.p R R (VP.assign R) <| VR.nil <| VW.seq <| VW.seq <| VW.region <| VR.p R R (VP.fieldP R fa84_0) <| VR.p R R (VP.loadP (i := 1) R R ld3 R) <| VR.p R R (VP.fieldP R fa84_0) <| VR.p R R (VP.loadP (i := 0) R R ld3 R) <| VR.p R R (VP.arith R R R) <| VR.nil ?_
 rcases ite_or hm with ⟨h3, hm⟩ | ⟨h3, hm⟩
 ·refine VW.condT R h3 <| VW.seq <| VW.region <| VR.p R R (VP.fieldP R fa84_0) <| VR.p R R (VP.loadP (i := 1) R R ld3 R) <| VR.p R R (VP.fieldP R fa84_0) <| VR.p R R (VP.loadP (i := 0) R R ld3 R) <| VR.p R R (VP.arith R R R) <| VR.p R R (VP.assign R) <| VR.nil ?_
  obtain rfl := Option.some.inj hm
  exact VW.ret ⟨.inl R, _, .cons (.tmp _ _ R) .nil, [], _, R, R, R⟩
 ·have h3 := bf h3
  refine VW.condF R h3 <| VW.skip <| VW.seq <| VW.region <| VR.p R R (VP.fieldP R fa84_1) <| VR.p R R (VP.loadP (i := 1) R R ld3 R) <| VR.p R R (VP.fieldP R fa84_1) <| VR.p R R (VP.loadP (i := 0) R R ld3 R) <| VR.p R R (VP.arith R R R) <| VR.p R R (VP.assign R) <| VR.nil ?_
  obtain rfl := Option.some.inj hm
  exact VW.ret ⟨.inl R, _, .cons (.tmp _ _ R) .nil, [], _, R, R, R⟩

end Go.Proofs.Ytbkdglcedgiogaa.M

/-
  Printed by a program of this session out of the loaded functions: models and their proofs. Own text.
-/
import Derived.Test.YtkondhigbbgidaaGreatDDF2
namespace Go.Proofs.YtkondhigbbgidaaGreat.M
open Go Go.Proofs Go.Proofs.YtkondhigbbgidaaGreat.V
open Go.IntKind (i64)
set_option linter.unusedVariables false
set_option linter.unusedSimpArgs false
set_option maxRecDepth 20000
set_option maxHeartbeats 40000000
/-! trireme/spec.common$2 -/
def spec_common_2 (x : List I_any20) (x2 : T_api_Machine) : Option T_api_Machine :=
 (V.gl x (0 : Int)).bind fun x3 =>
 (V.gl x (1 : Int)).bind fun x4 =>
 (V.gl x (2 : Int)).bind fun x5 =>
 (spec_word x3).bind fun r =>
 (spec_word x4).bind fun r2 =>
 (spec_num x5).bind fun r3 =>
 (V.ap 40 x2.Taints [(⟨r, r2, r3⟩ : T_api_Taint)]).bind fun l =>
 some (⟨x2.Name, x2.Group, x2.Has, x2.Labels, l, x2.Ready⟩ : T_api_Machine)
theorem K0 (x : List I_any20) (x2 : T_api_Machine) (b : Nat) (b2 : Nat) (ob : Option Nat) (cap : Nat) (ob2 : Option Nat) (cap2 : Nat) : ∀ r : T_api_Machine, spec_common_2 x x2 = some r → VC Tryz.prog 140 [L20 x, .ptr b 0] [.box b 114 [.ptr b2 0], .box b2 41 [.str x2.Name, .str x2.Group, Iw x2.Has.Cpu, Iw x2.Has.Mem, Iw x2.Has.Disk, Iw x2.Has.Pods, Iw x2.Has.Dev, Z141 ob x2.Labels cap, Z143 ob2 x2.Taints cap2, .bool x2.Ready], Q141 ob cap x2.Labels, Q143 ob2 cap2 x2.Taints] fun zx zH => ∃ (ob1_7 : Option Nat) (cap1_7 : Nat) (ob1_8 : Option Nat) (cap1_8 : Nat), zx = .tup [] ∧ zH = [.box b 114 [.ptr b2 0], .box b2 41 [.str r.Name, .str r.Group, Iw r.Has.Cpu, Iw r.Has.Mem, Iw r.Has.Disk, Iw r.Has.Pods, Iw r.Has.Dev, Z141 ob1_7 r.Labels cap1_7, Z143 ob1_8 r.Taints cap1_8, .bool r.Ready], Q141 ob1_7 cap1_7 r.Labels, Q143 ob1_8 cap1_8 r.Taints] := by
 refine Cg [] Tryz.func140 R R R fun r hm=>?_
 unfold spec_common_2 at hm
 refine Bi (Bf [1,3,0,2] R)<|A4 2 mixed<|An tbk [0,1,2,3,5] [0,0] (by kernel_rfl) R R R<|Bd hm fun x3 h1 hm=>Aq 6 R R R (by kernel_rfl) (A2 I_any20.vv R R el81 h1)<|An tbk [7,9] [] (by kernel_rfl) R R R<|Bd hm fun x4 h2 hm=>Aq 10 R R R (by kernel_rfl) (A2 I_any20.vv R R el81 h2)<|An tbk [11,13] [] (by kernel_rfl) R R R<|Bd hm fun x5 h3 hm=>Aq 14 R R R (by kernel_rfl) (A2 I_any20.vv R R el81 h3)<|Aq 15 R R R (by kernel_rfl) (Bl R ld20 R)<|?_
 refine B6 [4,8] (by kernel_rfl) ⟨?_,?_,trivial⟩
 ·refine Au R R R<|B7 (Bp (i:=0) R R ld39 R)<|Al 8 (by kernel_rfl)<|Bd hm fun r h4 hm=>Au R R R<|Aw 0 R fn131 R (K157 x3 r h4) fun _ _ h11=> ?_
  obtain ⟨rfl,rfl⟩:=h11
  refine Al 12 (by kernel_rfl)<|Bd hm fun r2 h5 hm=>Au R R R<|Aw 0 R fn131 R (K157 x4 r2 h5) fun _ _ h10=> ?_
  obtain ⟨rfl,rfl⟩:=h10
  refine Al 16 (by kernel_rfl)<|Bd hm fun r3 h6 hm=>Au R R R<|Aw 0 R fn90 R (K154 x5 r3 h6) fun _ _ h9=> ?_
  obtain ⟨rfl,rfl⟩:=h9
  refine Aq 17 R R R (by kernel_rfl) (A7 pl143 R R)<|Al 18 (by kernel_rfl)<|Au R R R<|Ax ap39 R R R R R fun b3=>Al 19 (by kernel_rfl)<|Bd hm fun l h8 hm=>Au R R R<|Bu 2 T_api_Taint.vv (l:=x2.Taints) (l2:=[(⟨r,r2,r3⟩ : T_api_Taint)]) ap39 R R (sT_row 0 T_api_Taint.vv el39 R R) h8 fun ob3 cap3=>An tbk [20,21] [] (by kernel_rfl) R R R<|Al 22 (by kernel_rfl)<|Au R R R<|Ao (i:=1) R R R ld39 R R R<|Ay (by kernel_rfl)<|?_
  obtain rfl:=Option.some.inj hm
  exact ⟨.inr R,_,.nil,[3,1,4,2],_,R,ob,cap,ob3,cap3,R,R⟩
 ·refine Bd hm fun r4 h12 hm=>Au R R R<|Aw 0 R fn131 R (K157 x3 r4 h12) fun _ _ h31=> ?_
  obtain ⟨rfl,rfl⟩:=h31
  refine B6 [4,12] (by kernel_rfl) ⟨?_,?_,trivial⟩
  ·refine Au R R R<|B7 (Bp (i:=0) R R ld39 R)<|Al 12 (by kernel_rfl)<|Bd hm fun r5 h13 hm=>Au R R R<|Aw 0 R fn131 R (K157 x4 r5 h13) fun _ _ h18=> ?_
   obtain ⟨rfl,rfl⟩:=h18
   refine Al 16 (by kernel_rfl)<|Bd hm fun r6 h14 hm=>Au R R R<|Aw 0 R fn90 R (K154 x5 r6 h14) fun _ _ h17=> ?_
   obtain ⟨rfl,rfl⟩:=h17
   refine Aq 17 R R R (by kernel_rfl) (A7 pl143 R R)<|Al 18 (by kernel_rfl)<|Au R R R<|Ax ap39 R R R R R fun b4=>Al 19 (by kernel_rfl)<|Bd hm fun l2 h16 hm=>Au R R R<|Bu 2 T_api_Taint.vv (l:=x2.Taints) (l2:=[(⟨r4,r5,r6⟩ : T_api_Taint)]) ap39 R R (sT_row 0 T_api_Taint.vv el39 R R) h16 fun ob4 cap4=>An tbk [20,21] [] (by kernel_rfl) R R R<|Al 22 (by kernel_rfl)<|Au R R R<|Ao (i:=1) R R R ld39 R R R<|Ay (by kernel_rfl)<|?_
   obtain rfl:=Option.some.inj hm
   exact ⟨.inr R,_,.nil,[3,1,4,2],_,R,ob,cap,ob4,cap4,R,R⟩
  ·refine Bd hm fun r7 h19 hm=>Au R R R<|Aw 0 R fn131 R (K157 x4 r7 h19) fun _ _ h30=> ?_
   obtain ⟨rfl,rfl⟩:=h30
   refine B6 [4,16] (by kernel_rfl) ⟨?_,?_,trivial⟩
   ·refine Au R R R<|B7 (Bp (i:=0) R R ld39 R)<|Al 16 (by kernel_rfl)<|Bd hm fun r8 h20 hm=>Au R R R<|Aw 0 R fn90 R (K154 x5 r8 h20) fun _ _ h23=> ?_
    obtain ⟨rfl,rfl⟩:=h23
    refine Aq 17 R R R (by kernel_rfl) (A7 pl143 R R)<|Al 18 (by kernel_rfl)<|Au R R R<|Ax ap39 R R R R R fun b5=>Al 19 (by kernel_rfl)<|Bd hm fun l3 h22 hm=>Au R R R<|Bu 2 T_api_Taint.vv (l:=x2.Taints) (l2:=[(⟨r4,r7,r8⟩ : T_api_Taint)]) ap39 R R (sT_row 0 T_api_Taint.vv el39 R R) h22 fun ob5 cap5=>An tbk [20,21] [] (by kernel_rfl) R R R<|Al 22 (by kernel_rfl)<|Au R R R<|Ao (i:=1) R R R ld39 R R R<|Ay (by kernel_rfl)<|?_
    obtain rfl:=Option.some.inj hm
    exact ⟨.inr R,_,.nil,[3,1,4,2],_,R,ob,cap,ob5,cap5,R,R⟩
   ·refine Bd hm fun r9 h24 hm=>Au R R R<|Aw 0 R fn90 R (K154 x5 r9 h24) fun _ _ h29=> ?_
    obtain ⟨rfl,rfl⟩:=h29
    refine Aq 17 R R R (by kernel_rfl) (A7 pl143 R R)<|?_
    refine B6 [4,18] (by kernel_rfl) ⟨?_,?_,trivial⟩
    ·refine Au R R R<|B7 (Bp (i:=0) R R ld39 R)<|Al 18 (by kernel_rfl)<|Au R R R<|Ax ap39 R R R R R fun b6=>Al 19 (by kernel_rfl)<|Bd hm fun l4 h26 hm=>Au R R R<|Bu 2 T_api_Taint.vv (l:=x2.Taints) (l2:=[(⟨r4,r7,r9⟩ : T_api_Taint)]) ap39 R R (sT_row 0 T_api_Taint.vv el39 R R) h26 fun ob6 cap6=>An tbk [20,21] [] (by kernel_rfl) R R R<|Al 22 (by kernel_rfl)<|Au R R R<|Ao (i:=1) R R R ld39 R R R<|Ay (by kernel_rfl)<|?_
     obtain rfl:=Option.some.inj hm
     exact ⟨.inr R,_,.nil,[3,1,4,2],_,R,ob,cap,ob6,cap6,R,R⟩
    ·refine Au R R R<|Ax ap39 R R R R R fun b7=>Al 4 (by kernel_rfl)<|Au R R R<|B7 (Bp (i:=1) R R ld39 R)<|Al 19 (by kernel_rfl)<|Bd hm fun l5 h28 hm=>Au R R R<|Bu 2 T_api_Taint.vv (l:=x2.Taints) (l2:=[(⟨r4,r7,r9⟩ : T_api_Taint)]) ap39 R R (sT_row 0 T_api_Taint.vv el39 R R) h28 fun ob7 cap7=>An tbk [20,21] [] (by kernel_rfl) R R R<|Al 22 (by kernel_rfl)<|Au R R R<|Ao (i:=1) R R R ld39 R R R<|Ay (by kernel_rfl)<|?_
     obtain rfl:=Option.some.inj hm
     exact ⟨.inr R,_,.nil,[3,1,4,2],_,R,ob,cap,ob7,cap7,R,R⟩

/-! (*trireme/spec.reader).field -/
def spec_reader_field_x.l1 (r : ByteArray × List Int) : Nat → ByteArray → Option ByteArray
 | 0, _ => none
 | n + 1, says4 =>
  if (decide ((says4.size : Int) < (r.2.length : Int))) = true then
   (V.cat says4 (⟨#[43]⟩ : ByteArray)).bind fun v3 =>
   spec_reader_field_x.l1 r n v3
  else
   some says4
def spec_reader_field_x.l2 (r_ : T_spec_reader) (x : T_api_Machine) (r : ByteArray × List Int) (says2 : ByteArray) : List Int → Nat → (List I_any20) → Option (Out (T_spec_reader × T_api_Machine) (List I_any20))
 | [], k, x9 => some (Out.go x9)
 | x11 :: l2, k, x9 =>
  (V.gl ((⟨r_.l, (), (V.mp r_.had r.1 (i64.wrap (((V.mg r_.had r.1).getD 0) + 1))), r_.e, r_.at_⟩ : T_spec_reader).l) x11).bind fun x12 =>
  (V.gi says2 (k : Int)).bind fun v4 =>
  (spec_value x12 v4).bind fun r4 =>
  if (r4.2 != 0) = true then
   (V.gl ((⟨r_.l, (), (V.mp r_.had r.1 (i64.wrap (((V.mg r_.had r.1).getD 0) + 1))), r_.e, r_.at_⟩ : T_spec_reader).l) x11).bind fun x13 =>
   (spec_reader_fail_x (⟨r_.l, (), (V.mp r_.had r.1 (i64.wrap (((V.mg r_.had r.1).getD 0) + 1))), r_.e, r_.at_⟩ : T_spec_reader) x r4.2 x13.At).bind fun r5 =>
   some (Out.ret (r5, x))
  else
   (V.ap 16 x9 [r4.1]).bind fun x14 =>
   spec_reader_field_x.l2 r_ x r says2 l2 (k + 1) x14
def spec_reader_field_x (r_ : T_spec_reader) (x : T_api_Machine) (i : Int) : Option (T_spec_reader × T_api_Machine) :=
 (V.gl r_.l i).bind fun x2 =>
 (spec_reader_head_x r_ x i).bind fun r =>
 ((if (V.seq (⟨#[103, 114, 111, 117, 112]⟩ : ByteArray) r.1) = true then (V.gl r_.l i).bind fun x3 =>
 some ((V.seq (⟨#[119]⟩ : ByteArray) (⟨#[]⟩ : ByteArray)) == (x3.Kind == 3)) else some false).bind fun c =>
 if c = true then
  some ((⟨#[103, 114, 111, 117, 112]⟩ : ByteArray), (⟨#[119]⟩ : ByteArray), 1)
 else
  some ((⟨#[]⟩ : ByteArray), (⟨#[]⟩ : ByteArray), 0)).bind fun j =>
 ((if (V.seq (⟨#[114, 101, 97, 100, 121]⟩ : ByteArray) r.1) = true then (V.gl r_.l i).bind fun x4 =>
 some ((V.seq (⟨#[]⟩ : ByteArray) (⟨#[]⟩ : ByteArray)) == (x4.Kind == 3)) else some false).bind fun c2 =>
 if c2 = true then
  some ((⟨#[114, 101, 97, 100, 121]⟩ : ByteArray), (⟨#[]⟩ : ByteArray), 2)
 else
  some (j.1, j.2.1, j.2.2)).bind fun j2 =>
 ((if (V.seq (⟨#[104, 97, 115]⟩ : ByteArray) r.1) = true then (V.gl r_.l i).bind fun x5 =>
 some ((V.seq (⟨#[109, 112, 112, 110, 110]⟩ : ByteArray) (⟨#[]⟩ : ByteArray)) == (x5.Kind == 3)) else some false).bind fun c3 =>
 if c3 = true then
  some ((⟨#[104, 97, 115]⟩ : ByteArray), (⟨#[109, 112, 112, 110, 110]⟩ : ByteArray), 3)
 else
  some (j2.1, j2.2.1, j2.2.2)).bind fun j3 =>
 ((if (V.seq (⟨#[108, 97, 98, 101, 108]⟩ : ByteArray) r.1) = true then (V.gl r_.l i).bind fun x6 =>
 some ((V.seq (⟨#[119, 97]⟩ : ByteArray) (⟨#[]⟩ : ByteArray)) == (x6.Kind == 3)) else some false).bind fun c4 =>
 if c4 = true then
  some ((⟨#[108, 97, 98, 101, 108]⟩ : ByteArray), (⟨#[119, 97]⟩ : ByteArray), true, 4)
 else
  some (j3.1, j3.2.1, false, j3.2.2)).bind fun j4 =>
 ((if (V.seq (⟨#[116, 97, 105, 110, 116]⟩ : ByteArray) r.1) = true then (V.gl r_.l i).bind fun x7 =>
 some ((V.seq (⟨#[119, 97, 101]⟩ : ByteArray) (⟨#[]⟩ : ByteArray)) == (x7.Kind == 3)) else some false).bind fun c5 =>
 if c5 = true then
  some ((⟨#[116, 97, 105, 110, 116]⟩ : ByteArray), (⟨#[119, 97, 101]⟩ : ByteArray), true, 5)
 else
  some (j4.1, j4.2.1, j4.2.2.1, j4.2.2.2)).bind fun j5 =>
 if ((V.seq j5.1 (⟨#[]⟩ : ByteArray)) || ((decide (((V.mg (V.mp r_.had r.1 (i64.wrap (((V.mg r_.had r.1).getD 0) + 1))) r.1).getD 0) > 1)) && (!j5.2.2.1))) = true then
  (spec_reader_fail_x (⟨r_.l, (), (V.mp r_.had r.1 (i64.wrap (((V.mg r_.had r.1).getD 0) + 1))), r_.e, r_.at_⟩ : T_spec_reader) x 13 x2.At).bind fun r2 =>
  some (r2, x)
 else
  ((if (decide ((j5.2.1.size : Int) > 0)) = true then (V.gi j5.2.1 (i64.wrap ((j5.2.1.size : Int) - 1))).bind fun v =>
  some (v == 43) else some false).bind fun c6 =>
  if c6 = true then
   (V.ss j5.2.1 none (some (i64.wrap ((j5.2.1.size : Int) - 1)))).bind fun v2 =>
   (spec_reader_field_x.l1 r FU v2).bind fun says52 =>
   some says52
  else
   some j5.2.1).bind fun says2 =>
  if ((r.2.length : Int) != (says2.size : Int)) = true then
   (spec_reader_fail_x (⟨r_.l, (), (V.mp r_.had r.1 (i64.wrap (((V.mg r_.had r.1).getD 0) + 1))), r_.e, r_.at_⟩ : T_spec_reader) x 12 x2.At).bind fun r3 =>
   some (r3, x)
  else
   (spec_reader_field_x.l2 r_ x r says2 r.2 0 ([] : List I_any20)).bind fun o8 =>
   o8.on fun x102 =>
   if j5.2.2.2 = 1 then
    (spec_text_1_x x102 x).bind fun r6 =>
    some ((⟨r_.l, (), (V.mp r_.had r.1 (i64.wrap (((V.mg r_.had r.1).getD 0) + 1))), r_.e, r_.at_⟩ : T_spec_reader), r6)
   else
   if j5.2.2.2 = 2 then
    (spec_flag_1_x_x_x_x x102 x).bind fun r7 =>
    some ((⟨r_.l, (), (V.mp r_.had r.1 (i64.wrap (((V.mg r_.had r.1).getD 0) + 1))), r_.e, r_.at_⟩ : T_spec_reader), r7)
   else
   if j5.2.2.2 = 3 then
    (spec_common_1 x102 x).bind fun r8 =>
    some ((⟨r_.l, (), (V.mp r_.had r.1 (i64.wrap (((V.mg r_.had r.1).getD 0) + 1))), r_.e, r_.at_⟩ : T_spec_reader), r8)
   else
   if j5.2.2.2 = 4 then
    (spec_pair_1_x_x_x_x x102 x).bind fun r9 =>
    some ((⟨r_.l, (), (V.mp r_.had r.1 (i64.wrap (((V.mg r_.had r.1).getD 0) + 1))), r_.e, r_.at_⟩ : T_spec_reader), r9)
   else
   if j5.2.2.2 = 5 then
    (spec_common_2 x102 x).bind fun r10 =>
    some ((⟨r_.l, (), (V.mp r_.had r.1 (i64.wrap (((V.mg r_.had r.1).getD 0) + 1))), r_.e, r_.at_⟩ : T_spec_reader), r10)
   else
    none
theorem K1 (r_ : T_spec_reader) (x : T_api_Machine) (i : Int) (b : Nat) (b2 : Nat) (b3 : Nat) (cap : Nat) (b4 : Nat) (b5 : Nat) (ob : Option Nat) (cap2 : Nat) (ob2 : Option Nat) (cap3 : Nat) (b6 : Nat) (b7 : Nat) (b8 : Nat) : ∀ r : T_spec_reader × T_api_Machine, spec_reader_field_x r_ x i = some r → VC Tryz.prog 126 [.ptr b 0, Iw i] [.box b 165 [L100 r_.l, .sl (some b3) 5 cap, .map b2, Iw r_.e, Iw r_.at_], .map b2 (List.map (pf VV.str (VV.int .i64)) r_.had), .row (some b3) 110 cap (KR3 b4 b6 b7 b8), .box b4 108 [.ptr b5 1], .box b5 41 [.str x.Name, .str x.Group, Iw x.Has.Cpu, Iw x.Has.Mem, Iw x.Has.Disk, Iw x.Has.Pods, Iw x.Has.Dev, Z141 ob x.Labels cap2, Z143 ob2 x.Taints cap3, .bool x.Ready], Q141 ob cap2 x.Labels, Q143 ob2 cap3 x.Taints, .box b6 112 [.ptr b5 9], .box b7 114 [.ptr b5 0], .box b8 169 [.ptr b5 7]] fun zx zH => ∃ (b0_2 : Nat) (ob3_7 : Option Nat) (cap3_7 : Nat) (ob3_8 : Option Nat) (cap3_8 : Nat), zx = .tup [] ∧ zH = [.box b 165 [L100 r.1.l, .sl (some b3) 5 cap, .map b0_2, Iw r.1.e, Iw r.1.at_], .map b0_2 (List.map (pf VV.str (VV.int .i64)) r.1.had), .row (some b3) 110 cap (KR3 b4 b6 b7 b8), .box b4 108 [.ptr b5 1], .box b5 41 [.str r.2.Name, .str r.2.Group, Iw r.2.Has.Cpu, Iw r.2.Has.Mem, Iw r.2.Has.Disk, Iw r.2.Has.Pods, Iw r.2.Has.Dev, Z141 ob3_7 r.2.Labels cap3_7, Z143 ob3_8 r.2.Taints cap3_8, .bool r.2.Ready], Q141 ob3_7 cap3_7 r.2.Labels, Q143 ob3_8 cap3_8 r.2.Taints, .box b6 112 [.ptr b5 9], .box b7 114 [.ptr b5 0], .box b8 169 [.ptr b5 7]] := by
 refine Cg [] Tryz.func126 R R R fun r hm=>?_
 unfold spec_reader_field_x at hm
 refine Ah<|Ab tbk [0] 5 R R<|Bd hm fun x2 h1 hm=>Aa R R (A2 T_api_Node.vv R R el36 h1)<|Ab tbk [] 3 R R<|Ac<|Ah<|Ab tbk [] 2 R R<|Ad R R<|A0 hm 10 R fn163 R (K178 _ _ _ _ _ _ _ _ _ _ _ _ _ _ _ _) fun r hm=>Ab tbk [] 5 R R<|Ac<|Ah<|Ad R R<|Bg z110 fun b9=>Ac<|Ae<|Ah<|Ab tbk [1] 4 R R<|Aa R R (VP.lenR R Tryz.underlying96)<|Aa R R (Ak R)<|Ac<|A1<|VW.loop 6<|C4<|Af tbk [] R R<|Ae<|Br R (by decide)<|Ai<|Cj hm (fun _ (_:Unit)=>[(0,.ptr b 0),(1,Iw i),(4,Iw x2.At),(5,.str r.1),(6,L3 r.2),(7,.ptr b9 0),(34,.sl (some b3) 5 cap),(35,Iw (5 : Int)),(36,Iw (0 : Int))]) (fun j (_:Unit)=>[.box b9 110 [.str j.1,.str j.2.1,.bool false,AL4 j.2.2 b4 b6 b7 b8],.box b 165 [L100 r_.l,.sl (some b3) 5 cap,.map b2,Iw r_.e,Iw r_.at_],.map b2 (List.map (pf VV.str (VV.int .i64)) r_.had),.row (some b3) 110 cap (KR3 b4 b6 b7 b8),.box b4 108 [.ptr b5 1],.box b5 41 [.str x.Name,.str x.Group,Iw x.Has.Cpu,Iw x.Has.Mem,Iw x.Has.Disk,Iw x.Has.Pods,Iw x.Has.Dev,Z141 ob x.Labels cap2,Z143 ob2 x.Taints cap3,.bool x.Ready],Q141 ob cap2 x.Labels,Q143 ob2 cap3 x.Taints,.box b6 112 [.ptr b5 9],.box b7 114 [.ptr b5 0],.box b8 169 [.ptr b5 7]]) (fun o hm=>A1<|Ah<|Aa R R (Cn R R el96 (by decide) (by decide))<|Aa R R (Cc (i:=3) R R R R ld110 R)<|Ad R R<|Bg z110 fun b10=>Ad R R<|Ao (i:=0) R R R ld110 R R R<|Ac<|Ae<|A4 0 mixed<|An tbk [0,1,2,3,4] [0] (by kernel_rfl) R R R<|Cq hm [18,17,16,15,14,13,12,11,10,9,8,7,6,5,4,3,2,1,0] 58 44 R (fun _ K' h7 J hm=>An tbk [5,6,7,8,9,10,11,12] [0,2] (by kernel_rfl) R R R<|Bd hm fun x3 h8 hm=>Bw 13 R R R R R R (by kernel_rfl) (A2 T_api_Node.vv R R el36 h8)<|An tbk [14,15,16] [] (by kernel_rfl) R R R<|Bw 17 R R R R R R (by kernel_rfl) (Cl B1 R R R)<|Aq 18 R R R (by kernel_rfl) (Bh true R R R)<|J 13 R R (Bj hm)) (fun _ K' h7 J hm=>An tbk [5,6,7,8,9,10,11,12,13,14,15,16,17,18] [] (by kernel_rfl) R R R<|J 13 R R (Bj hm)) fun c hm=>Ay (by kernel_rfl)<|Am hm R (fun h10 hm=>Be<|Ab tbk [0] 1 R R<|Ad R R<|Ao (i:=1) R R R ld110 R R R<|Ac<|As () hm (Ag [1,2,3,4,5,6,7,8,9,10,11] (by kernel_rfl) (by kernel_rfl))) fun h10 hm=>Ai<|As () hm (Ag [1,2,3,4,5,6,7,8,9,10,11] (by kernel_rfl) (by kernel_rfl))) fun j _ hm=>Bb tbk [] R R<|C4<|Af tbk [] R R<|Ae<|Br R (by decide)<|Ai<|Cj hm (fun _ (_:Unit)=>[(0,.ptr b 0),(1,Iw i),(4,Iw x2.At),(5,.str r.1),(6,L3 r.2),(7,.ptr b9 0),(34,.sl (some b3) 5 cap),(35,Iw (5 : Int)),(36,Iw (1 : Int))]) (fun j2 (_:Unit)=>[.box b9 110 [.str j2.1,.str j2.2.1,.bool false,AL4 j2.2.2 b4 b6 b7 b8],.box b 165 [L100 r_.l,.sl (some b3) 5 cap,.map b2,Iw r_.e,Iw r_.at_],.map b2 (List.map (pf VV.str (VV.int .i64)) r_.had),.row (some b3) 110 cap (KR3 b4 b6 b7 b8),.box b4 108 [.ptr b5 1],.box b5 41 [.str x.Name,.str x.Group,Iw x.Has.Cpu,Iw x.Has.Mem,Iw x.Has.Disk,Iw x.Has.Pods,Iw x.Has.Dev,Z141 ob x.Labels cap2,Z143 ob2 x.Taints cap3,.bool x.Ready],Q141 ob cap2 x.Labels,Q143 ob2 cap3 x.Taints,.box b6 112 [.ptr b5 9],.box b7 114 [.ptr b5 0],.box b8 169 [.ptr b5 7]]) (fun o2 hm=>A1<|Ah<|Aa R R (Cn R R el96 (by decide) (by decide))<|Aa R R (Cc (i:=3) R R R R ld110 R)<|Ad R R<|Bg z110 fun b11=>Ad R R<|Ao (i:=0) R R R ld110 R R R<|Ac<|Ae<|A4 0 mixed<|An tbk [0,1,2,3,4] [0] (by kernel_rfl) R R R<|Cq hm [18,17,16,15,14,13,12,11,10,9,8,7,6,5,4,3,2,1,0] 58 44 R (fun _ K' h14 J hm=>An tbk [5,6,7,8,9,10,11,12] [0,2] (by kernel_rfl) R R R<|Bd hm fun x4 h15 hm=>Bw 13 R R R R R R (by kernel_rfl) (A2 T_api_Node.vv R R el36 h15)<|An tbk [14,15,16] [] (by kernel_rfl) R R R<|Bw 17 R R R R R R (by kernel_rfl) (Cl B1 R R R)<|Aq 18 R R R (by kernel_rfl) (Bh true R R R)<|J 13 R R (Bj hm)) (fun _ K' h14 J hm=>An tbk [5,6,7,8,9,10,11,12,13,14,15,16,17,18] [] (by kernel_rfl) R R R<|J 13 R R (Bj hm)) fun c2 hm=>Ay (by kernel_rfl)<|Am hm R (fun h17 hm=>Be<|Ab tbk [0] 1 R R<|Ad R R<|Ao (i:=1) R R R ld110 R R R<|Ac<|As () hm (Ag [1,2,3,4,5,6,7,8,9,10,11] (by kernel_rfl) (by kernel_rfl))) fun h17 hm=>Ai<|As () hm (Ag [1,2,3,4,5,6,7,8,9,10,11] (by kernel_rfl) (by kernel_rfl))) fun j2 _ hm=>Bb tbk [] R R<|?_
 refine C4<|Af tbk [] R R<|Ae<|Br R (by decide)<|Ai<|Cj hm (fun _ (_:Unit)=>[(0,.ptr b 0),(1,Iw i),(4,Iw x2.At),(5,.str r.1),(6,L3 r.2),(7,.ptr b9 0),(34,.sl (some b3) 5 cap),(35,Iw (5 : Int)),(36,Iw (2 : Int))]) (fun j3 (_:Unit)=>[.box b9 110 [.str j3.1,.str j3.2.1,.bool false,AL4 j3.2.2 b4 b6 b7 b8],.box b 165 [L100 r_.l,.sl (some b3) 5 cap,.map b2,Iw r_.e,Iw r_.at_],.map b2 (List.map (pf VV.str (VV.int .i64)) r_.had),.row (some b3) 110 cap (KR3 b4 b6 b7 b8),.box b4 108 [.ptr b5 1],.box b5 41 [.str x.Name,.str x.Group,Iw x.Has.Cpu,Iw x.Has.Mem,Iw x.Has.Disk,Iw x.Has.Pods,Iw x.Has.Dev,Z141 ob x.Labels cap2,Z143 ob2 x.Taints cap3,.bool x.Ready],Q141 ob cap2 x.Labels,Q143 ob2 cap3 x.Taints,.box b6 112 [.ptr b5 9],.box b7 114 [.ptr b5 0],.box b8 169 [.ptr b5 7]]) (fun o3 hm=>A1<|Ah<|Aa R R (Cn R R el96 (by decide) (by decide))<|Aa R R (Cc (i:=3) R R R R ld110 R)<|Ad R R<|Bg z110 fun b12=>Ad R R<|Ao (i:=0) R R R ld110 R R R<|Ac<|Ae<|A4 0 mixed<|An tbk [0,1,2,3,4] [0] (by kernel_rfl) R R R<|Cq hm [18,17,16,15,14,13,12,11,10,9,8,7,6,5,4,3,2,1,0] 58 44 R (fun _ K' h21 J hm=>An tbk [5,6,7,8,9,10,11,12] [0,2] (by kernel_rfl) R R R<|Bd hm fun x5 h22 hm=>Bw 13 R R R R R R (by kernel_rfl) (A2 T_api_Node.vv R R el36 h22)<|An tbk [14,15,16] [] (by kernel_rfl) R R R<|Bw 17 R R R R R R (by kernel_rfl) (Cl B1 R R R)<|Aq 18 R R R (by kernel_rfl) (Bh true R R R)<|J 13 R R (Bj hm)) (fun _ K' h21 J hm=>An tbk [5,6,7,8,9,10,11,12,13,14,15,16,17,18] [] (by kernel_rfl) R R R<|J 13 R R (Bj hm)) fun c3 hm=>Ay (by kernel_rfl)<|Am hm R (fun h24 hm=>Be<|Ab tbk [0] 1 R R<|Ad R R<|Ao (i:=1) R R R ld110 R R R<|Ac<|As () hm (Ag [1,2,3,4,5,6,7,8,9,10,11] (by kernel_rfl) (by kernel_rfl))) fun h24 hm=>Ai<|As () hm (Ag [1,2,3,4,5,6,7,8,9,10,11] (by kernel_rfl) (by kernel_rfl))) fun j3 _ hm=>Bb tbk [] R R<|C4<|Af tbk [] R R<|Ae<|Br R (by decide)<|Ai<|Cj hm (fun _ (_:Unit)=>[(0,.ptr b 0),(1,Iw i),(4,Iw x2.At),(5,.str r.1),(6,L3 r.2),(7,.ptr b9 0),(34,.sl (some b3) 5 cap),(35,Iw (5 : Int)),(36,Iw (3 : Int))]) (fun j4 (_:Unit)=>[.box b9 110 [.str j4.1,.str j4.2.1,.bool j4.2.2.1,AL4 j4.2.2.2 b4 b6 b7 b8],.box b 165 [L100 r_.l,.sl (some b3) 5 cap,.map b2,Iw r_.e,Iw r_.at_],.map b2 (List.map (pf VV.str (VV.int .i64)) r_.had),.row (some b3) 110 cap (KR3 b4 b6 b7 b8),.box b4 108 [.ptr b5 1],.box b5 41 [.str x.Name,.str x.Group,Iw x.Has.Cpu,Iw x.Has.Mem,Iw x.Has.Disk,Iw x.Has.Pods,Iw x.Has.Dev,Z141 ob x.Labels cap2,Z143 ob2 x.Taints cap3,.bool x.Ready],Q141 ob cap2 x.Labels,Q143 ob2 cap3 x.Taints,.box b6 112 [.ptr b5 9],.box b7 114 [.ptr b5 0],.box b8 169 [.ptr b5 7]]) (fun o4 hm=>A1<|Ah<|Aa R R (Cn R R el96 (by decide) (by decide))<|Aa R R (Cc (i:=3) R R R R ld110 R)<|Ad R R<|Bg z110 fun b13=>Ad R R<|Ao (i:=0) R R R ld110 R R R<|Ac<|Ae<|A4 0 mixed<|An tbk [0,1,2,3,4] [0] (by kernel_rfl) R R R<|Cq hm [18,17,16,15,14,13,12,11,10,9,8,7,6,5,4,3,2,1,0] 58 44 R (fun _ K' h28 J hm=>An tbk [5,6,7,8,9,10,11,12] [0,2] (by kernel_rfl) R R R<|Bd hm fun x6 h29 hm=>Bw 13 R R R R R R (by kernel_rfl) (A2 T_api_Node.vv R R el36 h29)<|An tbk [14,15,16] [] (by kernel_rfl) R R R<|Bw 17 R R R R R R (by kernel_rfl) (Cl B1 R R R)<|Aq 18 R R R (by kernel_rfl) (Bh true R R R)<|J 13 R R (Bj hm)) (fun _ K' h28 J hm=>An tbk [5,6,7,8,9,10,11,12,13,14,15,16,17,18] [] (by kernel_rfl) R R R<|J 13 R R (Bj hm)) fun c4 hm=>Ay (by kernel_rfl)<|Am hm R (fun h31 hm=>Be<|Ab tbk [0] 1 R R<|Ad R R<|Ao (i:=1) R R R ld110 R R R<|Ac<|As () hm (Ag [1,2,3,4,5,6,7,8,9,10,11] (by kernel_rfl) (by kernel_rfl))) fun h31 hm=>Ai<|As () hm (Ag [1,2,3,4,5,6,7,8,9,10,11] (by kernel_rfl) (by kernel_rfl))) fun j4 _ hm=>Bb tbk [] R R<|?_
 refine C4<|Af tbk [] R R<|Ae<|Br R (by decide)<|Ai<|Cj hm (fun _ (_:Unit)=>[(0,.ptr b 0),(1,Iw i),(4,Iw x2.At),(5,.str r.1),(6,L3 r.2),(7,.ptr b9 0),(34,.sl (some b3) 5 cap),(35,Iw (5 : Int)),(36,Iw (4 : Int))]) (fun j5 (_:Unit)=>[.box b9 110 [.str j5.1,.str j5.2.1,.bool j5.2.2.1,AL4 j5.2.2.2 b4 b6 b7 b8],.box b 165 [L100 r_.l,.sl (some b3) 5 cap,.map b2,Iw r_.e,Iw r_.at_],.map b2 (List.map (pf VV.str (VV.int .i64)) r_.had),.row (some b3) 110 cap (KR3 b4 b6 b7 b8),.box b4 108 [.ptr b5 1],.box b5 41 [.str x.Name,.str x.Group,Iw x.Has.Cpu,Iw x.Has.Mem,Iw x.Has.Disk,Iw x.Has.Pods,Iw x.Has.Dev,Z141 ob x.Labels cap2,Z143 ob2 x.Taints cap3,.bool x.Ready],Q141 ob cap2 x.Labels,Q143 ob2 cap3 x.Taints,.box b6 112 [.ptr b5 9],.box b7 114 [.ptr b5 0],.box b8 169 [.ptr b5 7]]) (fun o5 hm=>A1<|Ah<|Aa R R (Cn R R el96 (by decide) (by decide))<|Aa R R (Cc (i:=3) R R R R ld110 R)<|Ad R R<|Bg z110 fun b14=>Ad R R<|Ao (i:=0) R R R ld110 R R R<|Ac<|Ae<|A4 0 mixed<|An tbk [0,1,2,3,4] [0] (by kernel_rfl) R R R<|Cq hm [18,17,16,15,14,13,12,11,10,9,8,7,6,5,4,3,2,1,0] 58 44 R (fun _ K' h35 J hm=>An tbk [5,6,7,8,9,10,11,12] [0,2] (by kernel_rfl) R R R<|Bd hm fun x7 h36 hm=>Bw 13 R R R R R R (by kernel_rfl) (A2 T_api_Node.vv R R el36 h36)<|An tbk [14,15,16] [] (by kernel_rfl) R R R<|Bw 17 R R R R R R (by kernel_rfl) (Cl B1 R R R)<|Aq 18 R R R (by kernel_rfl) (Bh true R R R)<|J 13 R R (Bj hm)) (fun _ K' h35 J hm=>An tbk [5,6,7,8,9,10,11,12,13,14,15,16,17,18] [] (by kernel_rfl) R R R<|J 13 R R (Bj hm)) fun c5 hm=>Ay (by kernel_rfl)<|Am hm R (fun h38 hm=>Be<|Ab tbk [0] 1 R R<|Ad R R<|Ao (i:=1) R R R ld110 R R R<|Ac<|As () hm (Ag [1,2,3,4,5,6,7,8,9,10,11] (by kernel_rfl) (by kernel_rfl))) fun h38 hm=>Ai<|As () hm (Ag [1,2,3,4,5,6,7,8,9,10,11] (by kernel_rfl) (by kernel_rfl))) fun j5 _ hm=>Bb tbk [] R R<|C4<|Af tbk [] R R<|Ae<|Cb R (by decide)<|Ba<|Ae<|Ah<|Ab tbk [1] 5 R R<|Aa R R (Da 2 (kf:=VV.str) (vf:=(VV.int .i64)) (l:=r_.had) (k:=r.1) (z:=(0 : Int)) false mk9 B8 R R R zc3 R)<|Aa R R (Bc R R R)<|Ad R R<|Di 2 (kf:=VV.str) (vf:=(VV.int .i64)) (l:=r_.had) (k:=r.1) (z:=(IntKind.i64.wrap (((V.mg r_.had r.1).getD (0 : Int)) + (1 : Int)))) mk9 B8 R R R R<|Ac<|Ah<|Ab tbk [0] 4 R R<|C0 13 84 71 R (fun K' J=>Ab tbk [] 13 R R<|J 12 R R R) (fun h39 K' J=>Ab tbk [1] 5 R R<|Bo R R R R R (Da 2 (kf:=VV.str) (vf:=(VV.int .i64)) (l:=(V.mp r_.had r.1 (IntKind.i64.wrap (((V.mg r_.had r.1).getD (0 : Int)) + (1 : Int))))) (k:=r.1) (z:=(0 : Int)) false mk9 B8 R R R zc3 R)<|Ab tbk [] 2 R R<|Ce tbk [0] 4 83 79 R R R R R<|Aa R R (Bh false R R R)<|J 9 R R R)<|Ac<|?_
 refine Am hm R (fun h41 hm=>?_) fun h41 hm=> ?_
 ·refine Ah<|Ab tbk [] 2 R R<|A3 (Bf [1,2,3,4,5,6,7,8,9,10,0] R)<|Ad R R<|Du hm 10 R fn164 R (K179 _ _ _ _ _ _ _ _ _ _ _ _ _ _ _ _ _) fun r2 b15 hm=>Ac<|?_
  obtain rfl:=Option.some.inj hm
  exact Ch ⟨.inl R,_,.nil,[0,1,2,3,4,5,6,7,8,9],_,R,b15,ob,cap2,ob2,cap3,R,R⟩
 refine Ai<|Af tbk [0] R R<|Cj hm (fun says2 (_:Unit)=>[(0,.ptr b 0),(4,Iw x2.At),(6,L3 r.2),(7,.ptr b9 0),(10,.str says2)]) (fun _ (_:Unit)=>[.box b9 110 [.str j5.1,.str j5.2.1,.bool j5.2.2.1,AL4 j5.2.2.2 b4 b6 b7 b8],.box b 165 [L100 ((⟨r_.l,(),(V.mp r_.had r.1 (IntKind.i64.wrap (((V.mg r_.had r.1).getD (0 : Int)) + (1 : Int)))),r_.e,r_.at_⟩ : T_spec_reader).l),.sl (some b3) 5 cap,.map b2,Iw ((⟨r_.l,(),(V.mp r_.had r.1 (IntKind.i64.wrap (((V.mg r_.had r.1).getD (0 : Int)) + (1 : Int)))),r_.e,r_.at_⟩ : T_spec_reader).e),Iw ((⟨r_.l,(),(V.mp r_.had r.1 (IntKind.i64.wrap (((V.mg r_.had r.1).getD (0 : Int)) + (1 : Int)))),r_.e,r_.at_⟩ : T_spec_reader).at_)],.map b2 (List.map (pf VV.str (VV.int .i64)) ((⟨r_.l,(),(V.mp r_.had r.1 (IntKind.i64.wrap (((V.mg r_.had r.1).getD (0 : Int)) + (1 : Int)))),r_.e,r_.at_⟩ : T_spec_reader).had)),.row (some b3) 110 cap (KR3 b4 b6 b7 b8),.box b4 108 [.ptr b5 1],.box b5 41 [.str x.Name,.str x.Group,Iw x.Has.Cpu,Iw x.Has.Mem,Iw x.Has.Disk,Iw x.Has.Pods,Iw x.Has.Dev,Z141 ob x.Labels cap2,Z143 ob2 x.Taints cap3,.bool x.Ready],Q141 ob cap2 x.Labels,Q143 ob2 cap3 x.Taints,.box b6 112 [.ptr b5 9],.box b7 114 [.ptr b5 0],.box b8 169 [.ptr b5 7]]) (fun o6 hm=>?_) fun says2 _ hm=> ?_
 ·refine Ah<|Aa R R (Ak R)<|Aa R R (Ca R Av)<|Aa R R (Aj R)<|Ac<|Ah<|Ab tbk [] 3 R R<|Bt hm 6 100 94 R (fun _ K' h45 J hm=>Ab tbk [] 3 R R<|Bd hm fun v h46 hm=>Bo R R R R R (Cr R R Av h46)<|Ab tbk [] 2 R R<|J 5 R R (Bj hm)) (fun _ K' h45 J hm=>Ab tbk [] 6 R R<|J 5 R R (Bj hm)) fun c6 hm=>Ac<|Am hm R (fun h48 hm=>?_) fun h48 hm=> ?_
  ·refine Ah<|Ab tbk [] 3 R R<|Bd hm fun v2 h49 hm=>Aa R R (C8 R R R Av h49)<|Aa R R (Aj R)<|Ac<|Cp hm (fun says52 (_:Unit)=>[(0,.ptr b 0),(4,Iw x2.At),(6,L3 r.2),(7,.ptr b9 0),(10,.str says52)]) (fun _ (_:Unit)=>[.box b9 110 [.str j5.1,.str j5.2.1,.bool j5.2.2.1,AL4 j5.2.2.2 b4 b6 b7 b8],.box b 165 [L100 ((⟨r_.l,(),(V.mp r_.had r.1 (IntKind.i64.wrap (((V.mg r_.had r.1).getD (0 : Int)) + (1 : Int)))),r_.e,r_.at_⟩ : T_spec_reader).l),.sl (some b3) 5 cap,.map b2,Iw ((⟨r_.l,(),(V.mp r_.had r.1 (IntKind.i64.wrap (((V.mg r_.had r.1).getD (0 : Int)) + (1 : Int)))),r_.e,r_.at_⟩ : T_spec_reader).e),Iw ((⟨r_.l,(),(V.mp r_.had r.1 (IntKind.i64.wrap (((V.mg r_.had r.1).getD (0 : Int)) + (1 : Int)))),r_.e,r_.at_⟩ : T_spec_reader).at_)],.map b2 (List.map (pf VV.str (VV.int .i64)) ((⟨r_.l,(),(V.mp r_.had r.1 (IntKind.i64.wrap (((V.mg r_.had r.1).getD (0 : Int)) + (1 : Int)))),r_.e,r_.at_⟩ : T_spec_reader).had)),.row (some b3) 110 cap (KR3 b4 b6 b7 b8),.box b4 108 [.ptr b5 1],.box b5 41 [.str x.Name,.str x.Group,Iw x.Has.Cpu,Iw x.Has.Mem,Iw x.Has.Disk,Iw x.Has.Pods,Iw x.Has.Dev,Z141 ob x.Labels cap2,Z143 ob2 x.Taints cap3,.bool x.Ready],Q141 ob cap2 x.Labels,Q143 ob2 cap3 x.Taints,.box b6 112 [.ptr b5 9],.box b7 114 [.ptr b5 0],.box b8 169 [.ptr b5 7]]) (fun o7 hm=>?_) fun says52 _ hm=> ?_
   ·refine B3 (fun zn (zs:ByteArray)=>spec_reader_field_x.l1 r zn zs) (fun zs (_:Unit)=>[(0,.ptr b 0),(4,Iw x2.At),(6,L3 r.2),(7,.ptr b9 0),(10,.str zs)]) (fun _ (_:Unit)=>[.box b9 110 [.str j5.1,.str j5.2.1,.bool j5.2.2.1,AL4 j5.2.2.2 b4 b6 b7 b8],.box b 165 [L100 ((⟨r_.l,(),(V.mp r_.had r.1 (IntKind.i64.wrap (((V.mg r_.had r.1).getD (0 : Int)) + (1 : Int)))),r_.e,r_.at_⟩ : T_spec_reader).l),.sl (some b3) 5 cap,.map b2,Iw ((⟨r_.l,(),(V.mp r_.had r.1 (IntKind.i64.wrap (((V.mg r_.had r.1).getD (0 : Int)) + (1 : Int)))),r_.e,r_.at_⟩ : T_spec_reader).e),Iw ((⟨r_.l,(),(V.mp r_.had r.1 (IntKind.i64.wrap (((V.mg r_.had r.1).getD (0 : Int)) + (1 : Int)))),r_.e,r_.at_⟩ : T_spec_reader).at_)],.map b2 (List.map (pf VV.str (VV.int .i64)) ((⟨r_.l,(),(V.mp r_.had r.1 (IntKind.i64.wrap (((V.mg r_.had r.1).getD (0 : Int)) + (1 : Int)))),r_.e,r_.at_⟩ : T_spec_reader).had)),.row (some b3) 110 cap (KR3 b4 b6 b7 b8),.box b4 108 [.ptr b5 1],.box b5 41 [.str x.Name,.str x.Group,Iw x.Has.Cpu,Iw x.Has.Mem,Iw x.Has.Disk,Iw x.Has.Pods,Iw x.Has.Dev,Z141 ob x.Labels cap2,Z143 ob2 x.Taints cap3,.bool x.Ready],Q141 ob cap2 x.Labels,Q143 ob2 cap3 x.Taints,.box b6 112 [.ptr b5 9],.box b7 114 [.ptr b5 0],.box b8 169 [.ptr b5 7]]) v2 () (fun _=>R) hm (Ag [0,1,2,3,4,5,6,7,8,9,10] (by kernel_rfl) (by kernel_rfl)) fun n says4 _ hm=> ?_
    rw [spec_reader_field_x.l1] at hm
    exact Ae<|Ah<|Aa R R (Ak R)<|Aa R R (Ca R Av)<|Aa R R (Ak R)<|Aa R R (A5 (VV.int .i64) R Bn)<|Aa R R (Bc R R R)<|Ac<|Am hm R (fun h52 hm=>Ai<|A1<|Be<|Aa R R (Ak R)<|Bd hm fun v3 h53 hm=>Aa R R (A8 R R h53)<|Aa R R (Aj R)<|Ac<|Ap v3 () hm (Ag [0,1,2,3,4,5,6,7,8,9,10] (by kernel_rfl) (by kernel_rfl))) fun h52 hm=>Ba<|As () hm (Ag [0,1,2,3,4,5,6,7,8,9,10] (by kernel_rfl) (by kernel_rfl))
   exact As () hm (Ag [0,1,2,3,4,5,6,7,8,9,10] (by kernel_rfl) (by kernel_rfl))
  exact Ai<|As () hm (Ag [0,1,2,3,4,5,6,7,8,9,10] (by kernel_rfl) (by kernel_rfl))
 refine Ae<|Ah<|Aa R R (Ak R)<|Aa R R (A5 (VV.int .i64) R Bn)<|Aa R R (Ak R)<|Aa R R (Ca R Av)<|Aa R R (Bc R R R)<|Ac<|Am hm R (fun h54 hm=>?_) fun h54 hm=> ?_
 ·refine Ah<|Ab tbk [] 2 R R<|A3 (Bf [1,2,3,4,5,6,7,8,9,10,0] R)<|Ad R R<|Du hm 10 R fn164 R (K179 _ _ _ _ _ _ _ _ _ _ _ _ _ _ _ _ _) fun r3 b16 hm=>Ac<|?_
  obtain rfl:=Option.some.inj hm
  exact Ch ⟨.inl R,_,.nil,[0,1,2,3,4,5,6,7,8,9],_,R,b16,ob,cap2,ob2,cap3,R,R⟩
 refine Ai<|Af tbk [] R R<|Ae<|Ah<|Aa R R (Ak R)<|Aa R R (A5 (VV.int .i64) R Bn)<|Aa R R (Ak R)<|Ac<|Ck 120 R fun h60=>B2 hm (fun x102 (gg:Option Nat × Nat)=>[(7,.ptr b9 0),(12,Z20 gg.1 x102 gg.2)]) (fun x102 (gg:Option Nat × Nat)=>[Q20 gg.1 gg.2 x102,.box b9 110 [.str j5.1,.str j5.2.1,.bool j5.2.2.1,AL4 j5.2.2.2 b4 b6 b7 b8],.box b 165 [L100 ((⟨r_.l,(),(V.mp r_.had r.1 (IntKind.i64.wrap (((V.mg r_.had r.1).getD (0 : Int)) + (1 : Int)))),r_.e,r_.at_⟩ : T_spec_reader).l),.sl (some b3) 5 cap,.map b2,Iw ((⟨r_.l,(),(V.mp r_.had r.1 (IntKind.i64.wrap (((V.mg r_.had r.1).getD (0 : Int)) + (1 : Int)))),r_.e,r_.at_⟩ : T_spec_reader).e),Iw ((⟨r_.l,(),(V.mp r_.had r.1 (IntKind.i64.wrap (((V.mg r_.had r.1).getD (0 : Int)) + (1 : Int)))),r_.e,r_.at_⟩ : T_spec_reader).at_)],.map b2 (List.map (pf VV.str (VV.int .i64)) ((⟨r_.l,(),(V.mp r_.had r.1 (IntKind.i64.wrap (((V.mg r_.had r.1).getD (0 : Int)) + (1 : Int)))),r_.e,r_.at_⟩ : T_spec_reader).had)),.row (some b3) 110 cap (KR3 b4 b6 b7 b8),.box b4 108 [.ptr b5 1],.box b5 41 [.str x.Name,.str x.Group,Iw x.Has.Cpu,Iw x.Has.Mem,Iw x.Has.Disk,Iw x.Has.Pods,Iw x.Has.Dev,Z141 ob x.Labels cap2,Z143 ob2 x.Taints cap3,.bool x.Ready],Q141 ob cap2 x.Labels,Q143 ob2 cap3 x.Taints,.box b6 112 [.ptr b5 9],.box b7 114 [.ptr b5 0],.box b8 169 [.ptr b5 7]]) (fun o8 hm h59=>?_) fun x102=>Pq fun ob5 cap6 hm=> ?_
 ·refine Cz (r.2) (fun zl zk (zs:List I_any20)=>spec_reader_field_x.l2 r_ x r says2 zl zk zs) (fun k zs (zg:Option Nat × Nat)=>[(0,.ptr b 0),(7,.ptr b9 0),(10,.str says2),(12,Z20 zg.1 zs zg.2),(120,L3 r.2),(121,Iw (r.2.length : Int)),(122,Iw (k : Int))]) (fun _ zs (zg:Option Nat × Nat)=>[Q20 zg.1 zg.2 zs,.box b9 110 [.str j5.1,.str j5.2.1,.bool j5.2.2.1,AL4 j5.2.2.2 b4 b6 b7 b8],.box b 165 [L100 ((⟨r_.l,(),(V.mp r_.had r.1 (IntKind.i64.wrap (((V.mg r_.had r.1).getD (0 : Int)) + (1 : Int)))),r_.e,r_.at_⟩ : T_spec_reader).l),.sl (some b3) 5 cap,.map b2,Iw ((⟨r_.l,(),(V.mp r_.had r.1 (IntKind.i64.wrap (((V.mg r_.had r.1).getD (0 : Int)) + (1 : Int)))),r_.e,r_.at_⟩ : T_spec_reader).e),Iw ((⟨r_.l,(),(V.mp r_.had r.1 (IntKind.i64.wrap (((V.mg r_.had r.1).getD (0 : Int)) + (1 : Int)))),r_.e,r_.at_⟩ : T_spec_reader).at_)],.map b2 (List.map (pf VV.str (VV.int .i64)) ((⟨r_.l,(),(V.mp r_.had r.1 (IntKind.i64.wrap (((V.mg r_.had r.1).getD (0 : Int)) + (1 : Int)))),r_.e,r_.at_⟩ : T_spec_reader).had)),.row (some b3) 110 cap (KR3 b4 b6 b7 b8),.box b4 108 [.ptr b5 1],.box b5 41 [.str x.Name,.str x.Group,Iw x.Has.Cpu,Iw x.Has.Mem,Iw x.Has.Disk,Iw x.Has.Pods,Iw x.Has.Dev,Z141 ob x.Labels cap2,Z143 ob2 x.Taints cap3,.bool x.Ready],Q141 ob cap2 x.Labels,Q143 ob2 cap3 x.Taints,.box b6 112 [.ptr b5 9],.box b7 114 [.ptr b5 0],.box b8 169 [.ptr b5 7]]) ([] : List I_any20) (none,0) hm (Bk (A9 20) (Ag [0,1,2,3,4,5,6,7,8,9,10,11] (by kernel_rfl) (by kernel_rfl))) (fun k x9=>Pq fun ob4 cap5 hk hm=>?_) fun k x11 l2 x9=>Pq fun ob4 cap5 h61 hm=> ?_
  ·rw [spec_reader_field_x.l2] at hm
   exact Af tbk [] R R<|Ae<|Cb R (k_end hk)<|Ba<|Ar (ob4,cap5) hm (Ag [0,1,2,3,4,5,6,7,8,9,10,11] (by kernel_rfl) (by kernel_rfl))
  rw [spec_reader_field_x.l2] at hm
  refine Af tbk [] R R<|Ae<|Br R (k_lt h61)<|Ai<|Ae<|A1<|Ah<|Aa R R (Ak R)<|Aa R R (Ct (VV.int .i64) R R el27 h61)<|Ab tbk [] 3 R R<|Ac<|Ae<|A4 0 mixed<|An tbk [0,1,2,3,4] [2] (by kernel_rfl) R R R<|Bd hm fun x12 h62 hm=>Aq 5 R R R (by kernel_rfl) (A2 T_api_Node.vv R R el36 h62)<|An tbk [6,7,8] [] (by kernel_rfl) R R R<|Bd hm fun v4 h63 hm=>Aq 9 R R R (by kernel_rfl) (Cr R R Av h63)<|Al 10 (by kernel_rfl)<|Bd hm fun r4 h64 hm=>Au R R R<|Aw 0 R fn165 R (K153 x12 v4 r4 h64) fun _ _ h70=> ?_
  obtain ⟨rfl,rfl⟩:=h70
  refine An tbk [11,12,13,14,15] [] (by kernel_rfl) R R R<|Ay (by kernel_rfl)<|Ae<|Af tbk [] R R<|Am hm R (fun h65 hm=>?_) fun h65 hm=> ?_
  ·refine Ah<|Ab tbk [2] 7 R R<|Bd hm fun x13 h66 hm=>Aa R R (A2 T_api_Node.vv R R el36 h66)<|Ab tbk [] 2 R R<|A3 (Bf [2,3,4,5,6,7,8,9,10,11,0,1] R)<|Ad R R<|Du hm 10 R fn164 R (K179 _ _ _ _ _ _ _ _ _ _ _ _ _ _ _ _ _) fun r5 b17 hm=>Ac<|have hm:=Lr hm h59; ?_
   obtain rfl:=Option.some.inj hm
   exact Ch ⟨.inl R,_,.nil,[0,1,2,3,4,5,6,7,8,9],_,R,b17,ob,cap2,ob2,cap3,R,R⟩
  exact Ai<|Be<|Ab tbk [] 2 R R<|Ad R R<|Ax ap81 R R R R R fun b18=>Bd hm fun x14 h69 hm=>Ad R R<|Bu 1 I_any20.vv (l:=x9) (l2:=[r4.1]) ap81 R R (sT_row 0 I_any20.vv el81 R R) h69 fun ob6 cap7=>Aa R R (Aj R)<|Ac<|Bb tbk [] R R<|Ap x14 (ob6,cap7) hm (Bv [1,2,3,4,5,6,7,8,9,10,11,12] (by kernel_rfl) ⟨R,R,R,R,R,R,congrArg some (k_next h61 h60),trivial⟩)
 refine Be<|Ab tbk [1] 3 R R<|?_
 rcases V.it_or hm with ⟨h72,hm⟩ | ⟨_,hm⟩
 ·refine A3 (Cv 160 (.clo (.func 137) [] [.ptr b4 0]) R (congrArg (fun zk => V.alt zk [.nilfn,.clo (.func 137) [] [.ptr b4 0],.clo (.func 138) [] [.ptr b6 0],.clo (.func 139) [] [.ptr b7 0],.clo (.func 166) [] [.ptr b8 0],.clo (.func 140) [] [.ptr b7 0]]) h72))<|A3 (Az 0 [(12,L20 x102),(161,L20 x102)] R ⟨⟨_,R,.here _ R⟩,⟨_,R,.here _ R⟩,trivial⟩ (FzH.refl _))<|Bd hm fun r6 h73 hm=>A3 (Bf [4,5,6,7,0,1,2,3,8,9,10] R)<|Ad R R<|Aw 4 R fn137 R (K180 x102 x b4 b5 ob cap2 ob2 cap3 r6 h73) fun _ _ h74=> ?_
  obtain ⟨ob7,cap8,ob8,cap9,rfl,rfl⟩:=h74
  refine Ac<|?_
  obtain rfl:=Option.some.inj hm
  exact ⟨.inr R,_,.nil,[5,6,7,0,1,2,3,8,9,10],_,R,b2,ob7,cap8,ob8,cap9,R,R⟩
 ·rcases V.it_or hm with ⟨h75,hm⟩ | ⟨_,hm⟩
  ·refine A3 (Cv 160 (.clo (.func 138) [] [.ptr b6 0]) R (congrArg (fun zk => V.alt zk [.nilfn,.clo (.func 137) [] [.ptr b4 0],.clo (.func 138) [] [.ptr b6 0],.clo (.func 139) [] [.ptr b7 0],.clo (.func 166) [] [.ptr b8 0],.clo (.func 140) [] [.ptr b7 0]]) h75))<|A3 (Az 0 [(12,L20 x102),(161,L20 x102)] R ⟨⟨_,R,.here _ R⟩,⟨_,R,.here _ R⟩,trivial⟩ (FzH.refl _))<|Bd hm fun r7 h76 hm=>A3 (Bf [8,5,6,7,0,1,2,3,4,9,10] R)<|Ad R R<|Aw 4 R fn138 R (K181 x102 x b6 b5 ob cap2 ob2 cap3 r7 h76) fun _ _ h77=> ?_
   obtain ⟨ob9,cap10,ob10,cap11,rfl,rfl⟩:=h77
   refine Ac<|?_
   obtain rfl:=Option.some.inj hm
   exact ⟨.inr R,_,.nil,[5,6,7,8,1,2,3,0,9,10],_,R,b2,ob9,cap10,ob10,cap11,R,R⟩
  ·rcases V.it_or hm with ⟨h78,hm⟩ | ⟨_,hm⟩
   ·refine A3 (Cv 160 (.clo (.func 139) [] [.ptr b7 0]) R (congrArg (fun zk => V.alt zk [.nilfn,.clo (.func 137) [] [.ptr b4 0],.clo (.func 138) [] [.ptr b6 0],.clo (.func 139) [] [.ptr b7 0],.clo (.func 166) [] [.ptr b8 0],.clo (.func 140) [] [.ptr b7 0]]) h78))<|A3 (Az 0 [(12,L20 x102),(161,L20 x102)] R ⟨⟨_,R,.here _ R⟩,⟨_,R,.here _ R⟩,trivial⟩ (FzH.refl _))<|Bd hm fun r8 h79 hm=>A3 (Bf [9,5,6,7,0,1,2,3,4,8,10] R)<|Ad R R<|Aw 4 R fn139 R (K182 x102 x b7 b5 ob cap2 ob2 cap3 r8 h79) fun _ _ h80=> ?_
    obtain ⟨ob11,cap12,ob12,cap13,rfl,rfl⟩:=h80
    refine Ac<|?_
    obtain rfl:=Option.some.inj hm
    exact ⟨.inr R,_,.nil,[5,6,7,8,1,2,3,9,0,10],_,R,b2,ob11,cap12,ob12,cap13,R,R⟩
   ·rcases V.it_or hm with ⟨h81,hm⟩ | ⟨_,hm⟩
    ·refine A3 (Cv 160 (.clo (.func 166) [] [.ptr b8 0]) R (congrArg (fun zk => V.alt zk [.nilfn,.clo (.func 137) [] [.ptr b4 0],.clo (.func 138) [] [.ptr b6 0],.clo (.func 139) [] [.ptr b7 0],.clo (.func 166) [] [.ptr b8 0],.clo (.func 140) [] [.ptr b7 0]]) h81))<|A3 (Az 0 [(12,L20 x102),(161,L20 x102)] R ⟨⟨_,R,.here _ R⟩,⟨_,R,.here _ R⟩,trivial⟩ (FzH.refl _))<|Bd hm fun r9 h82 hm=>A3 (Bf [10,5,6,7,0,1,2,3,4,8,9] R)<|Ad R R<|Aw 4 R fn166 R (K183 x102 x b8 b5 ob cap2 ob2 cap3 r9 h82) fun _ _ h83=> ?_
     obtain ⟨ob13,cap14,ob14,cap15,rfl,rfl⟩:=h83
     refine Ac<|?_
     obtain rfl:=Option.some.inj hm
     exact ⟨.inr R,_,.nil,[5,6,7,8,1,2,3,9,10,0],_,R,b2,ob13,cap14,ob14,cap15,R,R⟩
    ·rcases V.it_or hm with ⟨h84,hm⟩ | ⟨_,hm⟩
     ·refine A3 (Cv 160 (.clo (.func 140) [] [.ptr b7 0]) R (congrArg (fun zk => V.alt zk [.nilfn,.clo (.func 137) [] [.ptr b4 0],.clo (.func 138) [] [.ptr b6 0],.clo (.func 139) [] [.ptr b7 0],.clo (.func 166) [] [.ptr b8 0],.clo (.func 140) [] [.ptr b7 0]]) h84))<|A3 (Az 0 [(12,L20 x102),(161,L20 x102)] R ⟨⟨_,R,.here _ R⟩,⟨_,R,.here _ R⟩,trivial⟩ (FzH.refl _))<|Bd hm fun r10 h85 hm=>A3 (Bf [9,5,6,7,0,1,2,3,4,8,10] R)<|Ad R R<|Aw 4 R fn140 R (K0 x102 x b7 b5 ob cap2 ob2 cap3 r10 h85) fun _ _ h86=> ?_
      obtain ⟨ob15,cap16,ob16,cap17,rfl,rfl⟩:=h86
      refine Ac<|?_
      obtain rfl:=Option.some.inj hm
      exact ⟨.inr R,_,.nil,[5,6,7,8,1,2,3,9,0,10],_,R,b2,ob15,cap16,ob16,cap17,R,R⟩
     ·exact absurd hm nofun

/-! trireme/spec.form -/
def spec_form_x.l1 : List Int → Nat → T_spec_reader → T_api_Machine → Option (Out (ByteArray × Int × Int × T_api_Machine) T_api_Machine)
 | [], k, r5, r6 => some (Out.go r6)
 | x10 :: l2, k, r5, r6 =>
  (spec_reader_field_x r5 r6 x10).bind fun r7 =>
  if (r7.1.e != 0) = true then
   some (Out.ret ((⟨#[]⟩ : ByteArray), r7.1.e, r7.1.at_, r7.2))
  else
   spec_form_x.l1 l2 (k + 1) r7.1 r7.2
def spec_form_x (l : List T_api_Node) (i : Int) (kind : ByteArray) (empty : Bool) (x : T_api_Machine) : Option (ByteArray × Int × Int × T_api_Machine) :=
 (tree_End l i).bind fun r =>
 if (decide (r < 0)) = true then
  some ((⟨#[]⟩ : ByteArray), 12, 0, x)
 else
  (tree_Kids l i).bind fun r2 =>
  (V.gl l i).bind fun x2 =>
  if ((x2.Kind != 5) || (decide ((r2.length : Int) < 2))) = true then
   (V.gl l i).bind fun x3 =>
   some ((⟨#[]⟩ : ByteArray), 12, x3.At, x)
  else
   ((V.gl r2 (0 : Int)).bind fun x4 =>
   (V.gl l x4).bind fun x5 =>
   (V.gl r2 (1 : Int)).bind fun x6 =>
   (V.gl l x6).bind fun x7 =>
   some (x5, x7)).bind fun j =>
   if (((j.1.Kind != 3) || (!(V.seq j.1.Text kind))) || (!((j.2.Kind == 3) || ((empty && (j.2.Kind == 4)) && (V.seq j.2.Text (⟨#[]⟩ : ByteArray)))))) = true then
    (V.gl l i).bind fun x8 =>
    some ((⟨#[]⟩ : ByteArray), 12, x8.At, x)
   else
    (V.sl r2 (some 2) none).bind fun v =>
    (spec_form_x.l1 v 0 (⟨l, (), ([] : List (ByteArray × Int)), 0, 0⟩ : T_spec_reader) x).bind fun o2 =>
    o2.on fun x92 =>
    some (j.2.Text, 0, 0, x92)
theorem K2 (l : List T_api_Node) (i : Int) (kind : ByteArray) (empty : Bool) (x : T_api_Machine) (b : Nat) (cap : Nat) (b2 : Nat) (b3 : Nat) (ob : Option Nat) (cap2 : Nat) (ob2 : Option Nat) (cap3 : Nat) (b4 : Nat) (b5 : Nat) (b6 : Nat) : ∀ r : ByteArray × Int × Int × T_api_Machine, spec_form_x l i kind empty x = some r → VC Tryz.prog 76 [L100 l, Iw i, .str kind, .bool empty, .sl (some b) 5 cap] [.row (some b) 110 cap (KR3 b2 b4 b5 b6), .box b2 108 [.ptr b3 1], .box b3 41 [.str x.Name, .str x.Group, Iw x.Has.Cpu, Iw x.Has.Mem, Iw x.Has.Disk, Iw x.Has.Pods, Iw x.Has.Dev, Z141 ob x.Labels cap2, Z143 ob2 x.Taints cap3, .bool x.Ready], Q141 ob cap2 x.Labels, Q143 ob2 cap3 x.Taints, .box b4 112 [.ptr b3 9], .box b5 114 [.ptr b3 0], .box b6 169 [.ptr b3 7]] fun zx zH => ∃ (ob2_7 : Option Nat) (cap2_7 : Nat) (ob2_8 : Option Nat) (cap2_8 : Nat), zx = .tup [.str r.1, Iw r.2.1, Iw r.2.2.1] ∧ zH = [.row (some b) 110 cap (KR3 b2 b4 b5 b6), .box b2 108 [.ptr b3 1], .box b3 41 [.str r.2.2.2.Name, .str r.2.2.2.Group, Iw r.2.2.2.Has.Cpu, Iw r.2.2.2.Has.Mem, Iw r.2.2.2.Has.Disk, Iw r.2.2.2.Has.Pods, Iw r.2.2.2.Has.Dev, Z141 ob2_7 r.2.2.2.Labels cap2_7, Z143 ob2_8 r.2.2.2.Taints cap2_8, .bool r.2.2.2.Ready], Q141 ob2_7 cap2_7 r.2.2.2.Labels, Q143 ob2_8 cap2_8 r.2.2.2.Taints, .box b4 112 [.ptr b3 9], .box b5 114 [.ptr b3 0], .box b6 169 [.ptr b3 7]] := by
 refine Cg [.tmp 10,.tmp 11,.tmp 12] Tryz.func76 R R R fun r hm=>?_
 unfold spec_form_x at hm
 refine Af tbk [] R R<|Ae<|Ah<|Ab tbk [] 2 R R<|Ad R R<|A0 hm 0 R fn124 R (K125 _ _) fun r hm=>Aa R R (Bc R R R)<|Ac<|Am hm R (fun h2 hm=>?_) fun h2 hm=> ?_
 ·refine Af tbk [] R R<|?_
  obtain rfl:=Option.some.inj hm
  exact Ch ⟨.inl R,_,.cons (.tmp _ _ R) (.cons (.tmp _ _ R) (.cons (.tmp _ _ R) .nil)),[0,1,2,3,4,5,6,7],_,R,ob,cap2,ob2,cap3,R,R⟩
 refine Ai<|Ah<|Ab tbk [] 2 R R<|Ad R R<|A0 hm 0 R fn125 R (K130 _ _) fun r2 hm=>Aa R R (Aj R)<|Ac<|Ae<|Ah<|Ab tbk [] 2 R R<|Bd hm fun x2 h4 hm=>Aa R R (A2 T_api_Node.vv R R el36 h4)<|Ab tbk [] 4 R R<|C0 4 37 33 R (fun K' J=>Ab tbk [] 4 R R<|J 3 R R R) (fun h5 K' J=>Bo R R R R R (Ak R)<|Bo R R R R R (A5 (VV.int .i64) R Bn)<|Ab tbk [] 2 R R<|J 3 R R R)<|Ac<|Am hm R (fun h6 hm=>?_) fun h6 hm=> ?_
 ·refine Ae<|A4 0 mixed<|An tbk [0,1] [] (by kernel_rfl) R R R<|Bd hm fun x3 h7 hm=>Aq 2 R R R (by kernel_rfl) (A2 T_api_Node.vv R R el36 h7)<|An tbk [3,4,5,6,7] [] (by kernel_rfl) R R R<|Ay (by kernel_rfl)<|?_
  obtain rfl:=Option.some.inj hm
  exact Ch ⟨.inl R,_,.cons (.tmp _ _ R) (.cons (.tmp _ _ R) (.cons (.tmp _ _ R) .nil)),[0,1,2,3,4,5,6,7],_,R,ob,cap2,ob2,cap3,R,R⟩
 refine Ai<|Cj hm (fun _ (gg:Nat × Nat)=>[(0,L100 l),(1,Iw i),(2,.str kind),(3,.bool empty),(4,.sl (some b) 5 cap),(13,L3 r2),(14,.ptr gg.1 0),(15,.ptr gg.2 0)]) (fun j (gg:Nat × Nat)=>[X100 gg.2 j.2,X100 gg.1 j.1,.row (some b) 110 cap (KR3 b2 b4 b5 b6),.box b2 108 [.ptr b3 1],.box b3 41 [.str x.Name,.str x.Group,Iw x.Has.Cpu,Iw x.Has.Mem,Iw x.Has.Disk,Iw x.Has.Pods,Iw x.Has.Dev,Z141 ob x.Labels cap2,Z143 ob2 x.Taints cap3,.bool x.Ready],Q141 ob cap2 x.Labels,Q143 ob2 cap3 x.Taints,.box b4 112 [.ptr b3 9],.box b5 114 [.ptr b3 0],.box b6 169 [.ptr b3 7]]) (fun o hm=>?_) fun j=>Pq fun b7 b8 hm=> ?_
 ·refine A4 0 mixed<|An tbk [0,1] [] (by kernel_rfl) R R R<|Bd hm fun x4 h12 hm=>Aq 2 R R R (by kernel_rfl) (A2 (VV.int .i64) R R el27 h12)<|Aq 3 R R R (by kernel_rfl) (Bl R ld3 R)<|Bd hm fun x5 h13 hm=>Aq 4 R R R (by kernel_rfl) (A2 T_api_Node.vv R R el36 h13)<|An tbk [5,6,7] [] (by kernel_rfl) R R R<|Bd hm fun x6 h14 hm=>Aq 8 R R R (by kernel_rfl) (A2 (VV.int .i64) R R el27 h14)<|Aq 9 R R R (by kernel_rfl) (Bl R ld3 R)<|Bd hm fun x7 h15 hm=>Aq 10 R R R (by kernel_rfl) (A2 T_api_Node.vv R R el36 h15)<|Aq 11 R R R (by kernel_rfl) (Bl R ld100 R)<|?_
  refine B6 [12,13] (by kernel_rfl) ⟨?_,?_,trivial⟩
  ·exact Au R R R<|Bg z100 fun b9=>Al 13 (by kernel_rfl)<|Au R R R<|Bg z100 fun b10=>Al 14 (by kernel_rfl)<|Au R R R<|Ao (i:=1) R R R ld100 R R R<|Al 15 (by kernel_rfl)<|Au R R R<|Ao (i:=0) R R R ld100 R R R<|Ay (by kernel_rfl)<|As (b9,b10) hm (Ag [0,1,2,3,4,5,6,7,8,9] (by kernel_rfl) (by kernel_rfl))
  ·exact Au R R R<|Bg z100 fun b11=>Al 12 (by kernel_rfl)<|Au R R R<|Bg z100 fun b12=>Al 14 (by kernel_rfl)<|Au R R R<|Ao (i:=0) R R R ld100 R R R<|Al 15 (by kernel_rfl)<|Au R R R<|Ao (i:=1) R R R ld100 R R R<|Ay (by kernel_rfl)<|As (b12,b11) hm (Ag [1,0,2,3,4,5,6,7,8,9] (by kernel_rfl) (by kernel_rfl))
 refine Ah<|Ab tbk [0] 4 R R<|C0 12 70 58 R (fun K' J=>Ab tbk [] 12 R R<|J 11 R R R) (fun h20 K' J=>Ab tbk [] 2 R R<|Ce tbk [0] 4 64 60 R R R R R<|Bo R R R R R (Ak R)<|Ce tbk [0] 4 69 65 R R R R R<|Aa R R (Bh false R R R)<|J 5 R R R)<|Aa R R (Aj R)<|Ac<|Ae<|Ah<|Ab tbk [1] 4 R R<|Cy tbk [1] 5 79 74 R R R R R<|Aa R R (Ak R)<|Cy tbk [] 3 83 80 R R R R R<|Ac<|Am hm R (fun h25 hm=>?_) fun h25 hm=> ?_
 ·refine Ae<|A4 0 mixed<|An tbk [0,1] [] (by kernel_rfl) R R R<|Bd hm fun x8 h26 hm=>Aq 2 R R R (by kernel_rfl) (A2 T_api_Node.vv R R el36 h26)<|An tbk [3,4,5,6,7] [] (by kernel_rfl) R R R<|Ay (by kernel_rfl)<|?_
  obtain rfl:=Option.some.inj hm
  exact Ch ⟨.inl R,_,.cons (.tmp _ _ R) (.cons (.tmp _ _ R) (.cons (.tmp _ _ R) .nil)),[2,3,4,5,6,7,8,9],_,R,ob,cap2,ob2,cap3,R,R⟩
 refine Ai<|Ah<|Ab tbk [] 2 R R<|Ad R R<|Dq fun b13=>Aa R R (A7 pl165 R R)<|Ad R R<|Cd R R fun b14=>Aa R R (Aj R)<|Ac<|Ae<|Ah<|Aa R R (Ak R)<|Bd hm fun v h29 hm=>Aa R R (Dv R R R el27 h29)<|Aa R R (A5 (VV.int .i64) R Bn)<|Aa R R (Ak R)<|Ac<|Ck 95 R fun h32=>B2 hm (fun _ (gg:Option Nat × Nat × Option Nat × Nat)=>[(15,.ptr b8 0)]) (fun x92 (gg:Option Nat × Nat × Option Nat × Nat)=>[X100 b8 j.2,.row (some b) 110 cap (KR3 b2 b4 b5 b6),.box b2 108 [.ptr b3 1],.box b3 41 [.str x92.Name,.str x92.Group,Iw x92.Has.Cpu,Iw x92.Has.Mem,Iw x92.Has.Disk,Iw x92.Has.Pods,Iw x92.Has.Dev,Z141 gg.1 x92.Labels gg.2.1,Z143 gg.2.2.1 x92.Taints gg.2.2.2,.bool x92.Ready],Q141 gg.1 gg.2.1 x92.Labels,Q143 gg.2.2.1 gg.2.2.2 x92.Taints,.box b4 112 [.ptr b3 9],.box b5 114 [.ptr b3 0],.box b6 169 [.ptr b3 7]]) (fun o2 hm h31=>?_) fun x92=>Pq fun ob7=>Pq fun cap8=>Pq fun ob8 cap9 hm=> ?_
 ·refine Cz (v) (fun zl zk (zs:T_spec_reader × T_api_Machine)=>spec_form_x.l1 zl zk zs.1 zs.2) (fun k _ (_:Option Nat × Nat × Option Nat × Nat × Nat)=>[(15,.ptr b8 0),(17,.ptr b14 0),(95,L3 v),(96,Iw (v.length : Int)),(97,Iw (k : Int))]) (fun _ zs (zg:Option Nat × Nat × Option Nat × Nat × Nat)=>[.box b14 165 [L100 zs.1.l,.sl (some b) 5 cap,.map zg.2.2.2.2,Iw zs.1.e,Iw zs.1.at_],.map zg.2.2.2.2 (List.map (pf VV.str (VV.int .i64)) zs.1.had),X100 b8 j.2,.row (some b) 110 cap (KR3 b2 b4 b5 b6),.box b2 108 [.ptr b3 1],.box b3 41 [.str zs.2.Name,.str zs.2.Group,Iw zs.2.Has.Cpu,Iw zs.2.Has.Mem,Iw zs.2.Has.Disk,Iw zs.2.Has.Pods,Iw zs.2.Has.Dev,Z141 zg.1 zs.2.Labels zg.2.1,Z143 zg.2.2.1 zs.2.Taints zg.2.2.2.1,.bool zs.2.Ready],Q141 zg.1 zg.2.1 zs.2.Labels,Q143 zg.2.2.1 zg.2.2.2.1 zs.2.Taints,.box b4 112 [.ptr b3 9],.box b5 114 [.ptr b3 0],.box b6 169 [.ptr b3 7]]) ((⟨l,(),([] : List (ByteArray × Int)),(0 : Int),(0 : Int)⟩ : T_spec_reader),x) (ob,cap2,ob2,cap3,b13) hm (Ag [0,1,2,4,5,6,7,8,9,10,11] (by kernel_rfl) (by kernel_rfl)) (fun k=>Pq fun r5 r6=>Pq fun ob5=>Pq fun cap6=>Pq fun ob6=>Pq fun cap7 b16 hk hm=>?_) fun k x10 l2=>Pq fun r5 r6=>Pq fun ob5=>Pq fun cap6=>Pq fun ob6=>Pq fun cap7 b16 h33 hm=> ?_
  ·rw [spec_form_x.l1] at hm
   exact Af tbk [] R R<|Ae<|Cb R (k_end hk)<|Ba<|Ar (ob5,cap6,ob6,cap7) hm (Ag [2,3,4,5,6,7,8,9,10] (by kernel_rfl) (by kernel_rfl))
  rw [spec_form_x.l1] at hm
  refine Af tbk [] R R<|Ae<|Br R (k_lt h33)<|Ai<|Ae<|A1<|Ah<|Aa R R (Ct (VV.int .i64) R R el27 h33)<|Ab tbk [] 2 R R<|Ac<|Ah<|Ab tbk [] 2 R R<|Bd hm fun r7 h34 hm=>A3 (Bf [0,1,3,4,5,6,7,8,9,10,2] R)<|Ad R R<|Aw 10 R fn126 R (K1 r5 r6 x10 b14 b16 b cap b2 b3 ob5 cap6 ob6 cap7 b4 b5 b6 r7 h34) fun _ _ h36=> ?_
  obtain ⟨b17,ob9,cap10,ob10,cap11,rfl,rfl⟩:=h36
  refine Ac<|Af tbk [0] R R<|Am hm R (fun h35 hm=>?_) fun h35 hm=> ?_
  ·refine Ae<|A4 0 mixed<|An tbk [0,1,2,3,4,5,6,7,8,9,10] [0,0] (by kernel_rfl) R R R<|Ay (by kernel_rfl)<|have hm:=Lr hm h31; ?_
   obtain rfl:=Option.some.inj hm
   exact Ch ⟨.inl R,_,.cons (.tmp _ _ R) (.cons (.tmp _ _ R) (.cons (.tmp _ _ R) .nil)),[2,3,4,5,6,7,8,9],_,R,ob9,cap10,ob10,cap11,R,R⟩
  exact Ai<|Bb tbk [] R R<|Ap (r7.1,r7.2) (ob9,cap10,ob10,cap11,b17) hm (Bv [0,1,10,2,3,4,5,6,7,8,9] (by kernel_rfl) ⟨R,R,R,R,congrArg some (k_next h33 h32),trivial⟩)
 refine Af tbk [0] R R<|?_
 obtain rfl:=Option.some.inj hm
 exact Ch ⟨.inl R,_,.cons (.tmp _ _ R) (.cons (.tmp _ _ R) (.cons (.tmp _ _ R) .nil)),[1,2,3,4,5,6,7,8],_,R,ob7,cap8,ob8,cap9,R,R⟩

/-! trireme/spec.Machine -/
def spec_Machine (l : List T_api_Node) (i : Int) : Option (T_api_Machine × Int × Int) :=
 (spec_text).bind fun r =>
 (spec_flag).bind fun r2 =>
 (spec_common).bind fun r3 =>
 (spec_form_x l i (⟨#[109, 97, 99, 104, 105, 110, 101]⟩ : ByteArray) true (⟨(⟨#[]⟩ : ByteArray), (⟨#[]⟩ : ByteArray), (⟨0, 0, 0, 0, 0⟩ : T_api_Res), ([] : List T_api_Label), ([] : List T_api_Taint), false⟩ : T_api_Machine)).bind fun r4 =>
 if (r4.2.1 != 0) = true then
  some ((⟨(⟨#[]⟩ : ByteArray), (⟨#[]⟩ : ByteArray), (⟨0, 0, 0, 0, 0⟩ : T_api_Res), ([] : List T_api_Label), ([] : List T_api_Taint), false⟩ : T_api_Machine), r4.2.1, r4.2.2.1)
 else
  (spec_RightMachine (⟨r4.1, r4.2.2.2.Group, r4.2.2.2.Has, r4.2.2.2.Labels, r4.2.2.2.Taints, r4.2.2.2.Ready⟩ : T_api_Machine)).bind fun r5 =>
  if (!r5) = true then
   (V.gl l i).bind fun x =>
   some ((⟨(⟨#[]⟩ : ByteArray), (⟨#[]⟩ : ByteArray), (⟨0, 0, 0, 0, 0⟩ : T_api_Res), ([] : List T_api_Label), ([] : List T_api_Taint), false⟩ : T_api_Machine), 12, x.At)
  else
   some ((⟨r4.1, r4.2.2.2.Group, r4.2.2.2.Has, r4.2.2.2.Labels, r4.2.2.2.Taints, r4.2.2.2.Ready⟩ : T_api_Machine), 0, 0)
theorem K3 (l : List T_api_Node) (i : Int) : VS Tryz.prog 23 (spec_Machine l i) [L100 l, Iw i] [] (fun r=>.tup [T_api_Machine.vv r.1, Iw r.2.1, Iw r.2.2]) N0 := by
 refine A6 [.cell 4 41,.tmp 5,.tmp 6] Tryz.func23 R R R fun r hm=>?_
 unfold spec_Machine at hm
 refine Ah<|Ad R R<|Bg z41 fun b=>Ab tbk [] 2 R R<|Ac<|Ah<|Ad R R<|Bg z41 fun b2=>Ac<|Ah<|Aa R R (Cx R fa41_1)<|Bd hm fun r h3 hm=>Ad R R<|Aw 0 R fn84 R (K134 b2 1 r h3) fun _ _ h22=> ?_
 obtain ⟨b3,rfl,rfl⟩:=h22
 refine Aa R R (A7 pl110 R R)<|Aa R R (Cx R fa41_5)<|Bd hm fun r2 h5 hm=>Ad R R<|Aw 0 R fn85 R (K135 b2 9 r2 h5) fun _ _ h21=> ?_
 obtain ⟨b4,rfl,rfl⟩:=h21
 refine Aa R R (A7 pl110 R R)<|Ad R R<|Ax ap96 R R R R R fun b5=>Aa R R (Aj R)<|Ac<|Ah<|Ab tbk [] 3 R R<|Bd hm fun r3 h8 hm=>Ad R R<|Aw 0 R fn86 R (K177 b2 0 r3 h8) fun _ _ h20=> ?_
 obtain ⟨b6,b7,b8,rfl,rfl⟩:=h20
 refine Ad R R<|VO.appK 3 0 ap96 R R R R R R R fun b9 cap=>A3 (Bk (A9 141) (A9 143))<|Bd hm fun r4 h14 hm=>A3 (Bf [5,7,8,1,0,6,3,4,2,9] R)<|Ad R R<|Aw 8 R fn76 R (K2 l i (⟨#[109,97,99,104,105,110,101]⟩ : ByteArray) true (⟨(⟨#[]⟩ : ByteArray),(⟨#[]⟩ : ByteArray),(⟨(0 : Int),(0 : Int),(0 : Int),(0 : Int),(0 : Int)⟩ : T_api_Res),([] : List T_api_Label),([] : List T_api_Taint),false⟩ : T_api_Machine) b9 cap b3 b2 none 0 none 0 b4 b7 b8 r4 h14) fun _ _ h19=> ?_
 obtain ⟨ob,cap2,ob2,cap3,rfl,rfl⟩:=h19
 refine Ab tbk [] 7 R R<|Ac<|Ae<|Af tbk [] R R<|Am hm R (fun h15 hm=>?_) fun h15 hm=> ?_
 ·exact Ah<|Aa R R (A7 pl41 R R)<|Ab tbk [] 2 R R<|Ad R R<|Ao (i:=9) R R R ld41 R R R<|Ab tbk [] 2 R R<|Ac<|Bi (A9 141)<|Bi (Az (H':=[.row (some b9) 110 cap (KR3 b3 b4 b7 b8),.box b3 108 [.ptr b2 1],.box b2 41 [.str r4.2.2.2.Name,.str r4.2.2.2.Group,Iw r4.2.2.2.Has.Cpu,Iw r4.2.2.2.Has.Mem,Iw r4.2.2.2.Has.Disk,Iw r4.2.2.2.Has.Pods,Iw r4.2.2.2.Has.Dev,Z141 ob r4.2.2.2.Labels cap2,Z143 ob2 r4.2.2.2.Taints cap3,.bool r4.2.2.2.Ready],Q141 ob cap2 r4.2.2.2.Labels,Q143 ob2 cap3 r4.2.2.2.Taints,.box b4 112 [.ptr b2 9],.box b7 114 [.ptr b2 0],.box b8 169 [.ptr b2 7],.row (some b6) 110 3 (KR2 b7 b8),.box b 41 [.str (⟨#[]⟩ : ByteArray),.str (⟨#[]⟩ : ByteArray),Iw (0 : Int),Iw (0 : Int),Iw (0 : Int),Iw (0 : Int),Iw (0 : Int),L141 ([] : List T_api_Label),.sl none 0 0,.bool false]]) 0 [] R trivial ⟨.same _,.same _,.same _,.same _,.same _,.same _,.same _,.same _,.same _,.box _ _ _ _ ⟨.same _,.same _,.same _,.same _,.same _,.same _,.same _,.here _ R,.same _,.same _,trivial⟩,trivial⟩)<|Bi (A9 143)<|Bi (Az (H':=[.row (some b9) 110 cap (KR3 b3 b4 b7 b8),.box b3 108 [.ptr b2 1],.box b2 41 [.str r4.2.2.2.Name,.str r4.2.2.2.Group,Iw r4.2.2.2.Has.Cpu,Iw r4.2.2.2.Has.Mem,Iw r4.2.2.2.Has.Disk,Iw r4.2.2.2.Has.Pods,Iw r4.2.2.2.Has.Dev,Z141 ob r4.2.2.2.Labels cap2,Z143 ob2 r4.2.2.2.Taints cap3,.bool r4.2.2.2.Ready],Q141 ob cap2 r4.2.2.2.Labels,Q143 ob2 cap3 r4.2.2.2.Taints,.box b4 112 [.ptr b2 9],.box b7 114 [.ptr b2 0],.box b8 169 [.ptr b2 7],.row (some b6) 110 3 (KR2 b7 b8),X41 b (⟨(⟨#[]⟩ : ByteArray),(⟨#[]⟩ : ByteArray),(⟨(0 : Int),(0 : Int),(0 : Int),(0 : Int),(0 : Int)⟩ : T_api_Res),([] : List T_api_Label),([] : List T_api_Taint),false⟩ : T_api_Machine)]) 0 [] R trivial ⟨.same _,.same _,.same _,.same _,.same _,.same _,.same _,.same _,.same _,.box _ _ _ _ ⟨.same _,.same _,.same _,.same _,.same _,.same _,.same _,.same _,.here _ R,.same _,trivial⟩,trivial⟩)<|Rt0 hm R [] (.cons (.cell _ _ _ _ 9 _ _ _ _ R R ld41 R) (.cons (.tmp _ _ R) (.cons (.tmp _ _ R) .nil))) R R
 refine Ai<|Ae<|Ah<|Ab tbk [] 2 R R<|Ad R R<|Ao (i:=2) R R R ld9 R R R<|Ac<|Ah<|Ab tbk [2] 1 R R<|A3 (Bk (Az (H':=[.row (some b9) 110 cap (KR3 b3 b4 b7 b8),.box b3 108 [.ptr b2 1],.box b2 41 [.str r4.1,.str r4.2.2.2.Group,Iw r4.2.2.2.Has.Cpu,Iw r4.2.2.2.Has.Mem,Iw r4.2.2.2.Has.Disk,Iw r4.2.2.2.Has.Pods,Iw r4.2.2.2.Has.Dev,L141 r4.2.2.2.Labels,Z143 ob2 r4.2.2.2.Taints cap3,.bool r4.2.2.2.Ready],Q143 ob2 cap3 r4.2.2.2.Taints,.box b4 112 [.ptr b2 9],.box b7 114 [.ptr b2 0],.box b8 169 [.ptr b2 7],.row (some b6) 110 3 (KR2 b7 b8),.box b 41 [.str (⟨#[]⟩ : ByteArray),.str (⟨#[]⟩ : ByteArray),Iw (0 : Int),Iw (0 : Int),Iw (0 : Int),Iw (0 : Int),Iw (0 : Int),.sl none 0 0,.sl none 0 0,.bool false]]) 3 [(36,.agg [.str r4.1,.str r4.2.2.2.Group,Iw r4.2.2.2.Has.Cpu,Iw r4.2.2.2.Has.Mem,Iw r4.2.2.2.Has.Disk,Iw r4.2.2.2.Has.Pods,Iw r4.2.2.2.Has.Dev,L141 r4.2.2.2.Labels,Z143 ob2 r4.2.2.2.Taints cap3,.bool r4.2.2.2.Ready])] R ⟨⟨_,R,.aggL ⟨.same _,.same _,.same _,.same _,.same _,.same _,.same _,.here _ R,.same _,.same _,trivial⟩⟩,trivial⟩ ⟨.same _,.same _,.box _ _ _ _ ⟨.same _,.same _,.same _,.same _,.same _,.same _,.same _,.here _ R,.same _,.same _,trivial⟩,.same _,.same _,.same _,.same _,.same _,.same _,trivial⟩) (Az (H':=[.row (some b9) 110 cap (KR3 b3 b4 b7 b8),.box b3 108 [.ptr b2 1],X41 b2 (⟨r4.1,r4.2.2.2.Group,r4.2.2.2.Has,r4.2.2.2.Labels,r4.2.2.2.Taints,r4.2.2.2.Ready⟩ : T_api_Machine),.box b4 112 [.ptr b2 9],.box b7 114 [.ptr b2 0],.box b8 169 [.ptr b2 7],.row (some b6) 110 3 (KR2 b7 b8),.box b 41 [.str (⟨#[]⟩ : ByteArray),.str (⟨#[]⟩ : ByteArray),Iw (0 : Int),Iw (0 : Int),Iw (0 : Int),Iw (0 : Int),Iw (0 : Int),.sl none 0 0,.sl none 0 0,.bool false]]) 3 [(36,T_api_Machine.vv (⟨r4.1,r4.2.2.2.Group,r4.2.2.2.Has,r4.2.2.2.Labels,r4.2.2.2.Taints,r4.2.2.2.Ready⟩ : T_api_Machine))] R ⟨⟨_,R,.aggL ⟨.same _,.same _,.same _,.same _,.same _,.same _,.same _,.same _,.here _ R,.same _,trivial⟩⟩,trivial⟩ ⟨.same _,.same _,.box _ _ _ _ ⟨.same _,.same _,.same _,.same _,.same _,.same _,.same _,.same _,.here _ R,.same _,trivial⟩,.same _,.same _,.same _,.same _,.same _,trivial⟩))<|Ad R R<|A0 hm 0 R fn20 R (K79 _) fun r5 hm=>Aa R R (C1 R)<|Ac<|Am hm R (fun h17 hm=>?_) fun h17 hm=> ?_
 ·exact Ae<|Bi (Bf [7,0,1,2,3,4,5,6] R)<|A4 1 mixed<|Aq 0 R R R (by kernel_rfl) (A7 pl41 R R)<|An tbk [1,2] [] (by kernel_rfl) R R R<|Bd hm fun x h18 hm=>Aq 3 R R R (by kernel_rfl) (A2 T_api_Node.vv R R el36 h18)<|An tbk [4,5] [] (by kernel_rfl) R R R<|Al 6 (by kernel_rfl)<|Au R R R<|Ao (i:=0) R R R ld41 R R R<|An tbk [7,8] [] (by kernel_rfl) R R R<|Ay (by kernel_rfl)<|Bi (A9 141)<|Bi (Az (H':=[.box b 41 [.str (⟨#[]⟩ : ByteArray),.str (⟨#[]⟩ : ByteArray),Iw (0 : Int),Iw (0 : Int),Iw (0 : Int),Iw (0 : Int),Iw (0 : Int),L141 ([] : List T_api_Label),.sl none 0 0,.bool false],.row (some b9) 110 cap (KR3 b3 b4 b7 b8),.box b3 108 [.ptr b2 1],X41 b2 (⟨r4.1,r4.2.2.2.Group,r4.2.2.2.Has,r4.2.2.2.Labels,r4.2.2.2.Taints,r4.2.2.2.Ready⟩ : T_api_Machine),.box b4 112 [.ptr b2 9],.box b7 114 [.ptr b2 0],.box b8 169 [.ptr b2 7],.row (some b6) 110 3 (KR2 b7 b8)]) 0 [] R trivial ⟨.box _ _ _ _ ⟨.same _,.same _,.same _,.same _,.same _,.same _,.same _,.here _ R,.same _,.same _,trivial⟩,.same _,.same _,.same _,.same _,.same _,.same _,.same _,trivial⟩)<|Bi (A9 143)<|Bi (Az (H':=[X41 b (⟨(⟨#[]⟩ : ByteArray),(⟨#[]⟩ : ByteArray),(⟨(0 : Int),(0 : Int),(0 : Int),(0 : Int),(0 : Int)⟩ : T_api_Res),([] : List T_api_Label),([] : List T_api_Taint),false⟩ : T_api_Machine),.row (some b9) 110 cap (KR3 b3 b4 b7 b8),.box b3 108 [.ptr b2 1],X41 b2 (⟨r4.1,r4.2.2.2.Group,r4.2.2.2.Has,r4.2.2.2.Labels,r4.2.2.2.Taints,r4.2.2.2.Ready⟩ : T_api_Machine),.box b4 112 [.ptr b2 9],.box b7 114 [.ptr b2 0],.box b8 169 [.ptr b2 7],.row (some b6) 110 3 (KR2 b7 b8)]) 0 [] R trivial ⟨.box _ _ _ _ ⟨.same _,.same _,.same _,.same _,.same _,.same _,.same _,.same _,.here _ R,.same _,trivial⟩,.same _,.same _,.same _,.same _,.same _,.same _,.same _,trivial⟩)<|Rt0 hm R [] (.cons (.cell _ _ _ _ 0 _ _ _ _ R R ld41 R) (.cons (.tmp _ _ R) (.cons (.tmp _ _ R) .nil))) R R
 exact Ai<|Ah<|Ab tbk [2] 1 R R<|Ad R R<|Ao (i:=7) R R R ld41 R R R<|Ab tbk [] 2 R R<|Ac<|Rt0 hm R [] (.cons (.cell _ _ _ _ 7 _ _ _ _ R R ld41 R) (.cons (.tmp _ _ R) (.cons (.tmp _ _ R) .nil))) R R

/-! (*trireme/dump.reader).one -/
def dump_reader_one (r_ : T_dump_reader) (i : Int) : Option (Int × Int × T_dump_reader) :=
 (dump_reader_first r_ i).bind fun r =>
 if (V.seq r.1 (⟨#[111, 110]⟩ : ByteArray)) = true then
  (V.gl r_.l i).bind fun x =>
  (dump_reader_pod r_ x.At r.2).bind fun r2 =>
  some (r2.1, r2.2.1, r2.2.2)
 else
  if ((!(V.seq r.1 (⟨#[109, 97, 99, 104, 105, 110, 101]⟩ : ByteArray))) || (decide ((r_.bs.length : Int) > 0))) = true then
   (V.gl r_.l i).bind fun x2 =>
   some (12, x2.At, r_)
  else
   (spec_Machine r_.l i).bind fun r3 =>
   if (r3.2.1 == 0) = true then
    (V.ap 128 r_.ms [r3.1]).bind fun l =>
    some (r3.2.1, r3.2.2, (⟨r_.l, l, r_.bs⟩ : T_dump_reader))
   else
    some (r3.2.1, r3.2.2, r_)
theorem K4 (r_ : T_dump_reader) (i : Int) (b : Nat) (ob : Option Nat) (cap : Nat) (ob2 : Option Nat) (cap2 : Nat) (ob3 : Option Nat) (cap3 : Nat) : ∀ r : Int × Int × T_dump_reader, dump_reader_one r_ i = some r → VC Tryz.prog 97 [.ptr b 0, Iw i] [.box b 132 [Z100 ob r_.l cap, Z41 ob2 r_.ms cap2, Z121 ob3 r_.bs cap3], Q100 ob cap r_.l, Q41 ob2 cap2 r_.ms, Q121 ob3 cap3 r_.bs] fun zx zH => ∃ (ob0_0 : Option Nat) (cap0_0 : Nat) (ob0_1 : Option Nat) (cap0_1 : Nat) (ob0_2 : Option Nat) (cap0_2 : Nat), zx = .tup [Iw r.1, Iw r.2.1] ∧ zH = [.box b 132 [Z100 ob0_0 r.2.2.l cap0_0, Z41 ob0_1 r.2.2.ms cap0_1, Z121 ob0_2 r.2.2.bs cap0_2], Q100 ob0_0 cap0_0 r.2.2.l, Q41 ob0_1 cap0_1 r.2.2.ms, Q121 ob0_2 cap0_2 r.2.2.bs] := by
 refine Cg [.tmp 4,.tmp 5] Tryz.func97 R R R fun r hm=>?_
 unfold dump_reader_one at hm
 refine Af tbk [] R R<|Ah<|Ab tbk [] 2 R R<|Ad R R<|A0 hm 4 R fn149 R (K131 _ _ _ _ _ _ _ _ _) fun r hm=>Ab tbk [] 5 R R<|Ac<|Ae<|A1<|Af tbk [] R R<|Am hm R (fun h2 hm=>?_) fun h2 hm=> ?_
 ·refine Ah<|Ab tbk [0] 6 R R<|Bd hm fun x h3 hm=>Dr 1 R (gl_pos T_api_Node.vv h3) fun b2 h4=> ?_
  subst h4
  refine Aa R R (Dc T_api_Node.vv R R el36 h3)<|Aa R R (Dg R fa100_3)<|Aa R R (Cc (i:=1) (y:=T_api_Node.vv x) R R R (gl_map _ (gl_some h3).2) ld3 R)<|Aa R R (Ak R)<|Bd hm fun r2 h5 hm=>Ad R R<|Aw 4 R fn150 R (K176 r_ x.At r.2 b (some b2) cap ob2 cap2 ob3 cap3 r2 h5) fun _ _ h6=> ?_
  obtain ⟨ob4,cap4,ob5,cap5,ob6,cap6,rfl,rfl⟩:=h6
  refine Ab tbk [] 4 R R<|Ac<|?_
  obtain rfl:=Option.some.inj hm
  exact Ch ⟨.inl R,_,.cons (.tmp _ _ R) (.cons (.tmp _ _ R) .nil),[0,1,2,3],_,R,ob4,cap4,ob5,cap5,ob6,cap6,R,R⟩
 refine Ah<|Ab tbk [] 3 R R<|C0 7 43 36 R (fun K' J=>Ab tbk [] 7 R R<|J 6 R R R) (fun h7 K' J=>Ab tbk [0] 4 R R<|Bo R R R R R (C3 T_api_Bound.vv R Bz)<|Ab tbk [] 2 R R<|J 6 R R R)<|Aa R R (Aj R)<|Ac<|Am hm R (fun h8 hm=>?_) fun h8 hm=> ?_
 ·refine Ae<|A4 0 mixed<|An tbk [0,1,2,3,4] [0] (by kernel_rfl) R R R<|Bd hm fun x2 h9 hm=>Ds 1 R (gl_pos T_api_Node.vv h9) fun b3 h10=> ?_
  subst h10
  refine Aq 5 R R R (by kernel_rfl) (Dc T_api_Node.vv R R el36 h9)<|Aq 6 R R R (by kernel_rfl) (Dg R fa100_3)<|Aq 7 R R R (by kernel_rfl) (Cc (i:=1) (y:=T_api_Node.vv x2) R R R (gl_map _ (gl_some h9).2) ld3 R)<|An tbk [8,9] [] (by kernel_rfl) R R R<|Ay (by kernel_rfl)<|?_
  obtain rfl:=Option.some.inj hm
  exact Ch ⟨.inl R,_,.cons (.tmp _ _ R) (.cons (.tmp _ _ R) .nil),[0,1,2,3],_,R,(some b3),cap,ob2,cap2,ob3,cap3,R,R⟩
 refine Ai<|Ah<|Ab tbk [0] 5 R R<|Bd hm fun r3 h11 hm=>Ad R R<|Dh [100] (LS.freezeE [100] (H':=[.box b 132 [L100 r_.l,Z41 ob2 r_.ms cap2,Z121 ob3 r_.bs cap3],Q41 ob2 cap2 r_.ms,Q121 ob3 cap3 r_.bs]) 1 [(56,L100 r_.l)] R R ⟨⟨_,R,.here _ R⟩,trivial⟩ (by exact ⟨.box _ _ _ _ ⟨.here _ R,.same _,.same _,trivial⟩,.same _,.same _,trivial⟩)) [.same,.same] R fn23 R (K3 r_.l i r3 h11) fun _ _ h18=> ?_
 obtain ⟨rfl,rfl⟩:=h18
 refine ⟨by simp [noT,noTs,T_api_Machine.cells,T_api_Machine.vv,T_api_Res.cells,T_api_Res.vv,noTs_map no141_100,noTs_map no143_100],by simp [noH],?_⟩
 refine Ab tbk [] 4 R R<|Ad R R<|Bg z41 fun b4=>Ad R R<|Ao (i:=0) R R R ld41 R R R<|Ab tbk [] 2 R R<|Ac<|Ae<|Af tbk [] R R<|Am hm R (fun h13 hm=>?_) fun h13 hm=> ?_
 ·refine Bi (Bf [1,3,0,2,4] R)<|A4 2 mixed<|An tbk [0,1,2,3,5] [0] (by kernel_rfl) R R R<|?_
  refine B6 [4,6] (by kernel_rfl) ⟨?_,?_,trivial⟩
  ·refine Au R R R<|B7 (Bp (i:=0) R R ld54 R)<|Al 6 (by kernel_rfl)<|Au R R R<|Ax ap54 R R R R R fun b5=>Al 7 (by kernel_rfl)<|Bd hm fun l h15 hm=>Au R R R<|Bu 2 T_api_Machine.vv (l:=r_.ms) (l2:=[r3.1]) ap54 R R (sT_row 0 T_api_Machine.vv el54 R R) h15 fun ob7 cap7=>An tbk [8,9] [] (by kernel_rfl) R R R<|Al 10 (by kernel_rfl)<|Au R R R<|Ao (i:=1) R R R ld54 R R R<|Ay (by kernel_rfl)<|Af tbk [] R R<|?_
   obtain rfl:=Option.some.inj hm
   exact Ch ⟨.inl R,_,.cons (.tmp _ _ R) (.cons (.tmp _ _ R) .nil),[1,4,2,5],_,R,ob,cap,ob7,cap7,ob3,cap3,R,R⟩
  ·refine Au R R R<|Ax ap54 R R R R R fun b6=>Al 4 (by kernel_rfl)<|Au R R R<|B7 (Bp (i:=1) R R ld54 R)<|Al 7 (by kernel_rfl)<|Bd hm fun l2 h17 hm=>Au R R R<|Bu 2 T_api_Machine.vv (l:=r_.ms) (l2:=[r3.1]) ap54 R R (sT_row 0 T_api_Machine.vv el54 R R) h17 fun ob8 cap8=>An tbk [8,9] [] (by kernel_rfl) R R R<|Al 10 (by kernel_rfl)<|Au R R R<|Ao (i:=1) R R R ld54 R R R<|Ay (by kernel_rfl)<|Af tbk [] R R<|?_
   obtain rfl:=Option.some.inj hm
   exact Ch ⟨.inl R,_,.cons (.tmp _ _ R) (.cons (.tmp _ _ R) .nil),[1,4,2,5],_,R,ob,cap,ob8,cap8,ob3,cap3,R,R⟩
 refine Ai<|Af tbk [] R R<|?_
 obtain rfl:=Option.some.inj hm
 exact Ch ⟨.inl R,_,.cons (.tmp _ _ R) (.cons (.tmp _ _ R) .nil),[1,2,3,4],_,R,ob,cap,ob2,cap2,ob3,cap3,R,R⟩

/-! trireme/dump.Parse -/
def dump_Parse.l1 : List Int → Nat → T_dump_reader → Option (Out (List T_api_Machine × List T_api_Bound × Int × Int) T_dump_reader)
 | [], k, r4 => some (Out.go r4)
 | x :: l, k, r4 =>
  (dump_reader_one r4 x).bind fun r6 =>
  if (r6.1 != 0) = true then
   some (Out.ret (([] : List T_api_Machine), ([] : List T_api_Bound), r6.1, r6.2.1))
  else
   dump_Parse.l1 l (k + 1) r6.2.2
def dump_Parse (s : ByteArray) : Option (List T_api_Machine × List T_api_Bound × Int × Int) :=
 (tree_Parse s).bind fun r =>
 if (r.2.1 != 0) = true then
  some (([] : List T_api_Machine), ([] : List T_api_Bound), r.2.1, r.2.2)
 else
  (tree_Tops r.1).bind fun r2 =>
  (dump_Parse.l1 r2 0 (⟨r.1, ([] : List T_api_Machine), ([] : List T_api_Bound)⟩ : T_dump_reader)).bind fun o =>
  o.on fun r52 =>
  (yard_Check r52.ms r52.bs).bind fun r7 =>
  if (r7 != 0) = true then
   some (([] : List T_api_Machine), ([] : List T_api_Bound), r7, 0)
  else
   some (r52.ms, r52.bs, 0, 0)
theorem K5 (s : ByteArray) : ∀ r : List T_api_Machine × List T_api_Bound × Int × Int, dump_Parse s = some r → VC Tryz.prog 36 [.str s] [] fun zx zH => ∃ (ob0 : Option Nat) (cap0 : Nat) (ob1 : Option Nat) (cap1 : Nat), zx = .tup [Z41 ob0 r.1 cap0, Z121 ob1 r.2.1 cap1, Iw r.2.2.1, Iw r.2.2.2] ∧ zH = [Q41 ob0 cap0 r.1, Q121 ob1 cap1 r.2.1] := by
 refine Cg [.tmp 2,.tmp 3,.tmp 4,.tmp 5] Tryz.func36 R R R fun r hm=>?_
 unfold dump_Parse at hm
 refine Af tbk [] R R<|Ah<|Aa R R (Ak R)<|Ad R R<|Dd hm 0 R fn95 R (K124 _) fun r ob cap hm=>Ab tbk [] 7 R R<|Ac<|Ae<|Af tbk [] R R<|Am hm R (fun h3 hm=>?_) fun h3 hm=> ?_
 ·refine Af tbk [] R R<|?_
  obtain rfl:=Option.some.inj hm
  exact Bi (A9 41)<|Bi (A9 121)<|Ch ⟨.inl R,_,.cons (.tmp _ _ R) (.cons (.tmp _ _ R) (.cons (.tmp _ _ R) (.cons (.tmp _ _ R) .nil))),[1,0],_,R,none,0,none,0,R,R⟩
 refine Ai<|Ah<|Aa R R (Ak R)<|Aa R R (A7 pl132 R R)<|Ad R R<|Cd R R fun b=>Aa R R (Aj R)<|Ac<|Ae<|Ah<|Aa R R (Ak R)<|Bd hm fun r2 h7 hm=>Ad R R<|Dh [100] (LS.freezeE [100] (H':=[.box b 132 [L100 r.1,.sl none 0 0,.sl none 0 0]]) 1 [(18,L100 r.1),(6,L100 r.1),(25,L100 r.1),(26,.agg [L100 r.1,.sl none 0 0,.sl none 0 0]),(28,L100 r.1)] R R (by exact ⟨⟨_,R,.here _ R⟩,⟨_,R,.here _ R⟩,⟨_,R,.here _ R⟩,⟨_,R,.aggL ⟨.here _ R,.same _,.same _,trivial⟩⟩,⟨_,R,.here _ R⟩,trivial⟩) (by exact ⟨.box _ _ _ _ ⟨.here _ R,.same _,.same _,trivial⟩,trivial⟩)) [.same] R fn96 R (K129 r.1 r2 h7) fun _ _ h33=> ?_
 obtain ⟨rfl,rfl⟩:=h33
 refine ⟨by simp [noT,noTs,noTs_map no3_100],by simp [noH],?_⟩
 refine Aa R R (A5 (VV.int .i64) R Bn)<|Aa R R (Ak R)<|Ac<|Ck 29 R fun h14=>B2 hm (fun _ (gg:Option Nat × Nat × Option Nat × Nat × Option Nat × Nat)=>[(9,.ptr b 0)]) (fun r52 (gg:Option Nat × Nat × Option Nat × Nat × Option Nat × Nat)=>[Q41 gg.2.2.1 gg.2.2.2.1 r52.ms,Q121 gg.2.2.2.2.1 gg.2.2.2.2.2 r52.bs,.box b 132 [Z100 gg.1 r52.l gg.2.1,Z41 gg.2.2.1 r52.ms gg.2.2.2.1,Z121 gg.2.2.2.2.1 r52.bs gg.2.2.2.2.2],Q100 gg.1 gg.2.1 r52.l]) (fun o hm h13=>?_) fun r52=>Pq fun ob8=>Pq fun cap8=>Pq fun ob9=>Pq fun cap9=>Pq fun ob10 cap10 hm=> ?_
 ·refine Cz (r2) (fun zl zk (zs:T_dump_reader)=>dump_Parse.l1 zl zk zs) (fun k _ (_:Option Nat × Nat × Option Nat × Nat × Option Nat × Nat)=>[(9,.ptr b 0),(29,L3 r2),(30,Iw (r2.length : Int)),(31,Iw (k : Int))]) (fun _ zs (zg:Option Nat × Nat × Option Nat × Nat × Option Nat × Nat)=>[Q41 zg.2.2.1 zg.2.2.2.1 zs.ms,Q121 zg.2.2.2.2.1 zg.2.2.2.2.2 zs.bs,.box b 132 [Z100 zg.1 zs.l zg.2.1,Z41 zg.2.2.1 zs.ms zg.2.2.2.1,Z121 zg.2.2.2.2.1 zs.bs zg.2.2.2.2.2],Q100 zg.1 zg.2.1 zs.l]) _ (ob,cap,none,0,none,0) hm (Bk (A9 41) (Bk (A9 121) (Ag [1,0,2,3] R R))) (fun k r4=>Pq fun ob5=>Pq fun cap5=>Pq fun ob6=>Pq fun cap6=>Pq fun ob7 cap7 hk hm=>?_) fun k x l r4=>Pq fun ob5=>Pq fun cap5=>Pq fun ob6=>Pq fun cap6=>Pq fun ob7 cap7 h15 hm=> ?_
  ·rw [dump_Parse.l1] at hm
   exact Af tbk [] R R<|Ae<|Cb R (k_end hk)<|Ba<|Ar (ob5,cap5,ob6,cap6,ob7,cap7) hm (Ag [0,1,2,3] R R)
  rw [dump_Parse.l1] at hm
  refine Af tbk [] R R<|Ae<|Br R (k_lt h15)<|Ai<|Ae<|A1<|Ah<|Aa R R (Ct (VV.int .i64) R R el27 h15)<|Ab tbk [] 2 R R<|Ac<|Ah<|Ab tbk [] 2 R R<|Bd hm fun r6 h16 hm=>A3 (Bf [2,3,0,1] R)<|Ad R R<|Aw 4 R fn97 R (K4 r4 x b ob5 cap5 ob6 cap6 ob7 cap7 r6 h16) fun _ _ h20=> ?_
  obtain ⟨ob11,cap11,ob12,cap12,ob13,cap13,rfl,rfl⟩:=h20
  refine Ab tbk [] 5 R R<|Ac<|Af tbk [] R R<|Am hm R (fun h17 hm=>?_) fun h17 hm=> ?_
  ·refine Af tbk [] R R<|have hm:=Lr hm h13; ?_
   obtain rfl:=Option.some.inj hm
   exact Bi (A9 41)<|Bi (A9 121)<|Ch ⟨.inl R,_,.cons (.tmp _ _ R) (.cons (.tmp _ _ R) (.cons (.tmp _ _ R) (.cons (.tmp _ _ R) .nil))),[1,0],_,R,none,0,none,0,R,R⟩
  exact Ai<|Bb tbk [] R R<|Ap _ (ob11,cap11,ob12,cap12,ob13,cap13) hm (Bv [2,3,0,1] R ⟨R,R,R,congrArg some (k_next h15 h14),trivial⟩)
 refine Ae<|Ae<|A4 3 mixed<|An tbk [0,1,2,4,5,6] [] (by kernel_rfl) R R R<|?_
 refine B6 [3,7] (by kernel_rfl) ⟨?_,?_,trivial⟩
 ·refine Au R R R<|B7 (Bp (i:=2) R R ld54 R)<|Al 7 (by kernel_rfl)<|Au R R R<|B7 (Bp (i:=2) R R ld55 R)<|Al 8 (by kernel_rfl)<|Bd hm fun r7 h23 hm=>Au R R R<|Dh [41,121] (LS.trans (LS.freezeE [41,121] (H':=[Q121 ob10 cap10 r52.bs,.box b 132 [Z100 ob8 r52.l cap8,L41 r52.ms,Z121 ob10 r52.bs cap10]]) 0 [(49,L41 r52.ms)] R R ⟨⟨_,R,.here _ R⟩,trivial⟩ (by exact ⟨.same _,.box _ _ _ _ ⟨.same _,.here _ R,.same _,trivial⟩,trivial⟩)) (LS.freezeE [41,121] (H':=[.box b 132 [Z100 ob8 r52.l cap8,L41 r52.ms,L121 r52.bs]]) 0 [(53,L121 r52.bs)] R R ⟨⟨_,R,.here _ R⟩,trivial⟩ (by exact ⟨.box _ _ _ _ ⟨.same _,.same _,.here _ R,trivial⟩,trivial⟩))) [.same,.same] R fn92 R (K97 r52.ms r52.bs r7 h23) fun _ _ h27=> ?_
  obtain ⟨rfl,rfl⟩:=h27
  refine ⟨by simp [noT,noTs],by simp [noH],?_⟩
  refine Aq 9 R R R (by kernel_rfl) (Aj R)<|Ay (by kernel_rfl)<|Af tbk [] R R<|Am hm R (fun h24 hm=>?_) fun h24 hm=> ?_
  ·refine Af tbk [] R R<|?_
   obtain rfl:=Option.some.inj hm
   exact Bi (A9 41)<|Bi (A9 121)<|Ch ⟨.inl R,_,.cons (.tmp _ _ R) (.cons (.tmp _ _ R) (.cons (.tmp _ _ R) (.cons (.tmp _ _ R) .nil))),[1,0],_,R,none,0,none,0,R,R⟩
  refine Ai<|Ae<|A4 0 mixed<|An tbk [0,1,2,3,4,5,6,7,8,9,10,11] [2,2] (by kernel_rfl) R R R<|Ay (by kernel_rfl)<|?_
  obtain rfl:=Option.some.inj hm
  exact Ch ⟨.inl R,_,.cons (.tmp _ _ R) (.cons (.tmp _ _ R) (.cons (.tmp _ _ R) (.cons (.tmp _ _ R) .nil))),[0,1],_,R,ob9,cap9,ob10,cap10,R,R⟩
 ·refine Au R R R<|B7 (Bp (i:=2) R R ld55 R)<|Al 3 (by kernel_rfl)<|Au R R R<|B7 (Bp (i:=2) R R ld54 R)<|Al 8 (by kernel_rfl)<|Bd hm fun r8 h28 hm=>Au R R R<|Dh [41,121] (LS.trans (LS.freezeE [41,121] (H':=[Q121 ob10 cap10 r52.bs,.box b 132 [Z100 ob8 r52.l cap8,L41 r52.ms,Z121 ob10 r52.bs cap10]]) 0 [(49,L41 r52.ms)] R R ⟨⟨_,R,.here _ R⟩,trivial⟩ (by exact ⟨.same _,.box _ _ _ _ ⟨.same _,.here _ R,.same _,trivial⟩,trivial⟩)) (LS.freezeE [41,121] (H':=[.box b 132 [Z100 ob8 r52.l cap8,L41 r52.ms,L121 r52.bs]]) 0 [(53,L121 r52.bs)] R R ⟨⟨_,R,.here _ R⟩,trivial⟩ (by exact ⟨.box _ _ _ _ ⟨.same _,.same _,.here _ R,trivial⟩,trivial⟩))) [.same,.same] R fn92 R (K97 r52.ms r52.bs r8 h28) fun _ _ h32=> ?_
  obtain ⟨rfl,rfl⟩:=h32
  refine ⟨by simp [noT,noTs],by simp [noH],?_⟩
  refine Aq 9 R R R (by kernel_rfl) (Aj R)<|Ay (by kernel_rfl)<|Af tbk [] R R<|Am hm R (fun h29 hm=>?_) fun h29 hm=> ?_
  ·refine Af tbk [] R R<|?_
   obtain rfl:=Option.some.inj hm
   exact Bi (A9 41)<|Bi (A9 121)<|Ch ⟨.inl R,_,.cons (.tmp _ _ R) (.cons (.tmp _ _ R) (.cons (.tmp _ _ R) (.cons (.tmp _ _ R) .nil))),[1,0],_,R,none,0,none,0,R,R⟩
  refine Ai<|Ae<|A4 0 mixed<|An tbk [0,1,2,3,4,5,6,7,8,9,10,11] [2,2] (by kernel_rfl) R R R<|Ay (by kernel_rfl)<|?_
  obtain rfl:=Option.some.inj hm
  exact Ch ⟨.inl R,_,.cons (.tmp _ _ R) (.cons (.tmp _ _ R) (.cons (.tmp _ _ R) (.cons (.tmp _ _ R) .nil))),[0,1],_,R,ob9,cap9,ob10,cap10,R,R⟩

/-! trireme/triremeref05.Same -/
def ref05_Same.l1 (a : List T_api_Label) (b : List T_api_Label) : Nat → Int → Option (Out Bool Unit)
 | 0, _ => none
 | n + 1, i2 =>
  if (decide (i2 < (a.length : Int))) = true then
   (V.gl a i2).bind fun x =>
   (V.gl b i2).bind fun x2 =>
   if (!(((x.Key == x2.Key) && ((x.Val == x2.Val) && true)) == true)) = true then
    some (Out.ret false)
   else
    ref05_Same.l1 a b n (i64.wrap (i2 + 1))
  else
   some (Out.go ())
def ref05_Same (a : List T_api_Label) (b : List T_api_Label) : Option Bool :=
 if ((a.length : Int) != (b.length : Int)) = true then
  some false
 else
  (ref05_Same.l1 a b FU (0 : Int)).bind fun o =>
  o.on fun j =>
  some true
theorem K6 (a : List T_api_Label) (b : List T_api_Label) : VS Tryz.prog 87 (ref05_Same a b) [L141 a, L141 b] [] .bool N0 := by
 refine A6 [.tmp 4] Tryz.func87 R R R fun r hm=>?_
 unfold ref05_Same at hm
 refine Af tbk [] R R<|Ae<|Ah<|Aa R R (Ak R)<|Aa R R (A5 T_api_Label.vv R B4)<|Aa R R (Ak R)<|Aa R R (A5 T_api_Label.vv R B4)<|Aa R R (Bc R R R)<|Ac<|Am hm R (fun h1 hm=>Af tbk [] R R<|Rt1 hm R [] R R R) fun h1 hm=>Ai<|Ae<|Af tbk [] R R<|B2 hm (fun _ (_:Unit)=>[]) (fun _ (_:Unit)=>[]) (fun o hm h3=>?_) fun j _ hm=> ?_
 ·refine B3 (fun zn (zs:Int)=>ref05_Same.l1 a b zn zs) (fun zs (_:Unit)=>[(0,L141 a),(1,L141 b),(5,Iw zs)]) (fun _ (_:Unit)=>[]) _ () (fun _=>R) hm (Ag [] R R) fun n i2 _ hm=> ?_
  rw [ref05_Same.l1] at hm
  exact Ae<|Ah<|Ab tbk [] 2 R R<|Aa R R (A5 T_api_Label.vv R B4)<|Aa R R (Bc R R R)<|Ac<|Am hm R (fun h4 hm=>Ai<|Ae<|A1<|Ae<|A4 0 mixed<|An tbk [0,1] [] (by kernel_rfl) R R R<|Bd hm fun x h5 hm=>Aq 2 R R R (by kernel_rfl) (A2 T_api_Label.vv R R el24 h5)<|An tbk [3,4,5] [] (by kernel_rfl) R R R<|Bd hm fun x2 h6 hm=>Aq 6 R R R (by kernel_rfl) (A2 T_api_Label.vv R R el24 h6)<|Aq 7 R R R (by kernel_rfl) (Bl R ld141 R)<|Aq 8 R R R (by kernel_rfl) (D4 shp141 eq141 R R R R)<|Ay (by kernel_rfl)<|Am hm R (fun h7 hm=>Af tbk [] R R<|have hm:=Lr hm h3;Rt1 hm R [] R R R) fun h7 hm=>Ai<|Bb tbk [] R R<|Ap _ () hm (Ag [] R R)) fun h4 hm=>Ba<|Ar () hm (Ag [] R R)
 exact Af tbk [] R R<|Rt1 hm R [] R R R

/-! trireme/triremeref06.Same -/
def ref06_Same.l1 (a : List T_api_Taint) (b : List T_api_Taint) : Nat → Int → Option (Out Bool Unit)
 | 0, _ => none
 | n + 1, i2 =>
  if (decide (i2 < (a.length : Int))) = true then
   (V.gl a i2).bind fun x =>
   (V.gl b i2).bind fun x2 =>
   if (!(((x.Key == x2.Key) && ((x.Val == x2.Val) && ((x.Effect == x2.Effect) && true))) == true)) = true then
    some (Out.ret false)
   else
    ref06_Same.l1 a b n (i64.wrap (i2 + 1))
  else
   some (Out.go ())
def ref06_Same (a : List T_api_Taint) (b : List T_api_Taint) : Option Bool :=
 if ((a.length : Int) != (b.length : Int)) = true then
  some false
 else
  (ref06_Same.l1 a b FU (0 : Int)).bind fun o =>
  o.on fun j =>
  some true
theorem K7 (a : List T_api_Taint) (b : List T_api_Taint) : VS Tryz.prog 88 (ref06_Same a b) [L143 a, L143 b] [] .bool N0 := by
 refine A6 [.tmp 4] Tryz.func88 R R R fun r hm=>?_
 unfold ref06_Same at hm
 refine Af tbk [] R R<|Ae<|Ah<|Aa R R (Ak R)<|Aa R R (A5 T_api_Taint.vv R Co)<|Aa R R (Ak R)<|Aa R R (A5 T_api_Taint.vv R Co)<|Aa R R (Bc R R R)<|Ac<|Am hm R (fun h1 hm=>Af tbk [] R R<|Rt1 hm R [] R R R) fun h1 hm=>Ai<|Ae<|Af tbk [] R R<|B2 hm (fun _ (_:Unit)=>[]) (fun _ (_:Unit)=>[]) (fun o hm h3=>?_) fun j _ hm=> ?_
 ·refine B3 (fun zn (zs:Int)=>ref06_Same.l1 a b zn zs) (fun zs (_:Unit)=>[(0,L143 a),(1,L143 b),(5,Iw zs)]) (fun _ (_:Unit)=>[]) _ () (fun _=>R) hm (Ag [] R R) fun n i2 _ hm=> ?_
  rw [ref06_Same.l1] at hm
  exact Ae<|Ah<|Ab tbk [] 2 R R<|Aa R R (A5 T_api_Taint.vv R Co)<|Aa R R (Bc R R R)<|Ac<|Am hm R (fun h4 hm=>Ai<|Ae<|A1<|Ae<|A4 0 mixed<|An tbk [0,1] [] (by kernel_rfl) R R R<|Bd hm fun x h5 hm=>Aq 2 R R R (by kernel_rfl) (A2 T_api_Taint.vv R R el39 h5)<|An tbk [3,4,5] [] (by kernel_rfl) R R R<|Bd hm fun x2 h6 hm=>Aq 6 R R R (by kernel_rfl) (A2 T_api_Taint.vv R R el39 h6)<|Aq 7 R R R (by kernel_rfl) (Bl R ld143 R)<|Aq 8 R R R (by kernel_rfl) (D4 shp143 eq143 R R R R)<|Ay (by kernel_rfl)<|Am hm R (fun h7 hm=>Af tbk [] R R<|have hm:=Lr hm h3;Rt1 hm R [] R R R) fun h7 hm=>Ai<|Bb tbk [] R R<|Ap _ () hm (Ag [] R R)) fun h4 hm=>Ba<|Ar () hm (Ag [] R R)
 exact Af tbk [] R R<|Rt1 hm R [] R R R

/-! trireme/triremeref07.SameMachine -/
def ref07_SameMachine (a : T_api_Machine) (b : T_api_Machine) : Option Bool :=
 (if ((((V.seq a.Name b.Name) && (V.seq a.Group b.Group)) && (((a.Has.Cpu == b.Has.Cpu) && ((a.Has.Mem == b.Has.Mem) && ((a.Has.Disk == b.Has.Disk) && ((a.Has.Pods == b.Has.Pods) && ((a.Has.Dev == b.Has.Dev) && true))))) == true)) && (a.Ready == b.Ready)) = true then (ref05_Same a.Labels b.Labels).bind fun r =>
 some r else some false).bind fun c =>
 (if c = true then (ref06_Same a.Taints b.Taints).bind fun r2 =>
 some r2 else some false).bind fun c2 =>
 some c2
theorem K8 (a : T_api_Machine) (b : T_api_Machine) : VS Tryz.prog 24 (ref07_SameMachine a b) [T_api_Machine.vv a, T_api_Machine.vv b] [] .bool N0 := by
 refine A6 [.tmp 4] Tryz.func24 R R R fun r hm=>?_
 unfold ref07_SameMachine at hm
 exact Ah<|Ad R R<|Cd R R fun b2=>Ad R R<|Cd R R fun b3=>Aa R R (Aj R)<|Ac<|Ah<|Ab tbk [1,0] 6 R R<|Ce tbk [1,0] 6 16 10 R R R R R<|Aa R R (Ak R)<|Df 6 23 17 R (fun h4 K' J=>Ab tbk [1,0] 4 R R<|Bo R R R R R (D4 shp23 eq23 R R R R)<|Aa R R (Bh true R R R)<|J 5 R R R) (fun K' J=>Ab tbk [] 6 R R<|J 5 R R R)<|Aa R R (Ak R)<|Df 6 30 24 R (fun h5 K' J=>Ab tbk [1,0] 4 R R<|Bo R R R R R (Cl B1 R R R)<|Aa R R (Bh true R R R)<|J 5 R R R) (fun K' J=>Ab tbk [] 6 R R<|J 5 R R R)<|Aa R R (Ak R)<|Bt hm 6 37 31 R (fun _ K' h6 J hm=>Ab tbk [1,0] 4 R R<|Bm R R R R R<|A0 hm 0 R fn87 R (K6 _ _) fun r hm=>Aa R R (Bh true R R R)<|J 5 R R (Bj hm)) (fun _ K' h6 J hm=>Ab tbk [] 6 R R<|J 5 R R (Bj hm)) fun c hm=>Aa R R (Ak R)<|Bt hm 6 44 38 R (fun _ K' h9 J hm=>Ab tbk [1,0] 4 R R<|Bm R R R R R<|A0 hm 0 R fn88 R (K7 _ _) fun r2 hm=>Aa R R (Bh true R R R)<|J 5 R R (Bj hm)) (fun _ K' h9 J hm=>Ab tbk [] 6 R R<|J 5 R R (Bj hm)) fun c2 hm=>Aa R R (Aj R)<|Ac<|Rt1 hm R [] R R R

/-! trireme/triremeref01.Digits -/
def ref01_Digits : Nat → Int → Option ByteArray
 | 0, _ => none
 | nn + 1, n =>
  if (decide (n < 10)) = true then
   some (strOfNums [(IntKind.u8.wrap (i64.wrap (48 + n)))])
  else
   (V.quo n (10 : Int)).bind fun v =>
   (V.rem n (10 : Int)).bind fun v2 =>
   ((ref01_Digits nn) (i64.wrap v)).bind fun r =>
   (V.cat r (strOfNums [(IntKind.u8.wrap (i64.wrap (48 + v2)))])).bind fun v3 =>
   some v3
theorem K9 (nn : Nat) : ∀ (n : Int), VS Tryz.prog 69 (ref01_Digits nn n) [Iw n] [] .str N0 := by
 induction nn with
 | zero => intro n; exact VS.none (by rw [ref01_Digits])
 | succ nn ih =>
  intro n
  refine A6 [.tmp 2] Tryz.func69 R R R fun r hm=>?_
  rw [ref01_Digits] at hm
  refine Af tbk [] R R<|Ae<|Af tbk [] R R<|Am hm R (fun h1 hm=>Ah<|Ab tbk [] 2 R R<|Aa R R (Cf Bx Bq R)<|Ad R R<|Ax ap160 R R R R R fun b=>A3 (Az 0 [(8,L5 [(IntKind.u8.wrap (IntKind.i64.wrap ((48 : Int) + n)))])] R ⟨⟨_,R,.here _ R⟩,trivial⟩ (FzH.refl _))<|Aa R R (Dw (l:=[(IntKind.u8.wrap (IntKind.i64.wrap ((48 : Int) + n)))]) el160 Bq Av R)<|Aa R R (Aj R)<|Ac<|Rt1 hm R [] R R R) fun h1 hm=>Ai<|Ae<|A4 0 mixed<|Aq 0 R R R (by kernel_rfl) (Ak R)<|Bd hm fun v h3 hm=>Aq 1 R R R (by kernel_rfl) (C5 R R h3)<|Aq 3 R R R (by kernel_rfl) (Ak R)<|Bd hm fun v2 h4 hm=>Aq 4 R R R (by kernel_rfl) (C9 R R h4)<|Aq 5 R R R (by kernel_rfl) (Bc R R R)<|Aq 6 R R R (by kernel_rfl) (Cf Bx Bq R)<|?_
  refine B6 [2,7] (by kernel_rfl) ⟨?_,?_,trivial⟩
  ·refine Bd hm fun r h5 hm=>Au R R R<|Aw 0 R fn69 R (ih (IntKind.i64.wrap v) r h5) fun _ _ h8=> ?_
   obtain ⟨rfl,rfl⟩:=h8
   exact Al 7 (by kernel_rfl)<|Au R R R<|Ax ap160 R R R R R fun b2=>Dm (Az 0 [(17,L5 [(IntKind.u8.wrap (IntKind.i64.wrap ((48 : Int) + v2)))])] R ⟨⟨_,R,.here _ R⟩,trivial⟩ (FzH.refl _))<|Aq 8 R R R (by kernel_rfl) (Dw (l:=[(IntKind.u8.wrap (IntKind.i64.wrap ((48 : Int) + v2)))]) el160 Bq Av R)<|Bd hm fun v3 h7 hm=>Aq 9 R R R (by kernel_rfl) (A8 R R h7)<|Aq 10 R R R (by kernel_rfl) (Aj R)<|Ay (by kernel_rfl)<|Rt1 hm R [] R R R
  ·refine Au R R R<|Ax ap160 R R R R R fun b3=>Dm (Az 0 [(17,L5 [(IntKind.u8.wrap (IntKind.i64.wrap ((48 : Int) + v2)))])] R ⟨⟨_,R,.here _ R⟩,trivial⟩ (FzH.refl _))<|Aq 8 R R R (by kernel_rfl) (Dw (l:=[(IntKind.u8.wrap (IntKind.i64.wrap ((48 : Int) + v2)))]) el160 Bq Av R)<|Al 2 (by kernel_rfl)<|Bd hm fun r2 h10 hm=>Au R R R<|Aw 0 R fn69 R (ih (IntKind.i64.wrap v) r2 h10) fun _ _ h12=> ?_
   obtain ⟨rfl,rfl⟩:=h12
   exact Bd hm fun v4 h11 hm=>Aq 9 R R R (by kernel_rfl) (A8 R R h11)<|Aq 10 R R R (by kernel_rfl) (Aj R)<|Ay (by kernel_rfl)<|Rt1 hm R [] R R R

/-! trireme/triremeref03.ShowMilli -/
def ref03_ShowMilli (n : Int) : Option ByteArray :=
 if ((decide (n < 0)) || (decide (n > 1125899906842624))) = true then
  some (⟨#[]⟩ : ByteArray)
 else
  (V.rem n (1000 : Int)).bind fun v =>
  if (v == 0) = true then
   (V.quo n (1000 : Int)).bind fun v2 =>
   (ref01_Digits FU (i64.wrap v2)).bind fun r =>
   some r
  else
   (ref01_Digits FU n).bind fun r2 =>
   (V.cat r2 (⟨#[109]⟩ : ByteArray)).bind fun v3 =>
   some v3
theorem K10 (n : Int) : VS Tryz.prog 67 (ref03_ShowMilli n) [Iw n] [] .str N0 := by
 refine A6 [.tmp 2] Tryz.func67 R R R fun r hm=>?_
 unfold ref03_ShowMilli at hm
 exact Af tbk [] R R<|Ae<|Ah<|Ab tbk [] 3 R R<|Cy tbk [] 3 8 5 R R R R R<|Ac<|Am hm R (fun h2 hm=>Af tbk [] R R<|Rt1 hm R [] R R R) fun h2 hm=>Ai<|Ae<|Ah<|Aa R R (Ak R)<|Bd hm fun v h3 hm=>Aa R R (C9 R R h3)<|Aa R R (Bc R R R)<|Ac<|Am hm R (fun h4 hm=>Ah<|Aa R R (Ak R)<|Bd hm fun v2 h5 hm=>Aa R R (C5 R R h5)<|Ad R R<|A0 hm 0 R fn69 R (K9 FU _) fun r hm=>Aa R R (Aj R)<|Ac<|Rt1 hm R [] R R R) fun h4 hm=>Ai<|Ah<|Aa R R (Ak R)<|Ad R R<|A0 hm 0 R fn69 R (K9 FU _) fun r2 hm=>Bd hm fun v3 h8 hm=>Aa R R (A8 R R h8)<|Aa R R (Aj R)<|Ac<|Rt1 hm R [] R R R

/-! trireme/triremeref03.Show -/
def ref03_Show.l1 (n : Int) : Nat → Int → Option (Out ByteArray Unit)
 | 0, _ => none
 | n2 + 1, i2 =>
  if (decide (i2 < 4)) = true then
   (V.shl .i64 1 (IntKind.u64.wrap (i64.wrap (40 - (i64.wrap (10 * i2)))))).bind fun v =>
   (if (decide (n > 0)) = true then (V.rem n v).bind fun v2 =>
   some (v2 == 0) else some false).bind fun c =>
   if c = true then
    (V.quo n v).bind fun v3 =>
    (V.gl [(⟨#[84, 105]⟩ : ByteArray), (⟨#[71, 105]⟩ : ByteArray), (⟨#[77, 105]⟩ : ByteArray), (⟨#[75, 105]⟩ : ByteArray)] i2).bind fun x =>
    (ref01_Digits FU (i64.wrap v3)).bind fun r =>
    (V.cat r x).bind fun v4 =>
    some (Out.ret v4)
   else
    ref03_Show.l1 n n2 (i64.wrap (i2 + 1))
  else
   some (Out.go ())
def ref03_Show (n : Int) : Option ByteArray :=
 if ((decide (n < 0)) || (decide (n > 1125899906842624))) = true then
  some (⟨#[]⟩ : ByteArray)
 else
  (ref03_Show.l1 n FU (0 : Int)).bind fun o =>
  o.on fun j =>
  (ref01_Digits FU n).bind fun r2 =>
  some r2
theorem K11 (n : Int) : VS Tryz.prog 68 (ref03_Show n) [Iw n] [] .str N0 := by
 refine A6 [.tmp 2] Tryz.func68 R R R fun r hm=>?_
 unfold ref03_Show at hm
 refine Af tbk [] R R<|Ae<|Ah<|Ab tbk [] 3 R R<|Cy tbk [] 3 11 8 R R R R R<|Ac<|Am hm R (fun h2 hm=>Af tbk [] R R<|Rt1 hm R [] R R R) fun h2 hm=>Ai<|Ah<|Ad R R<|Ax ap65 R R R R R fun b=>A3 (Az 0 [(12,L9 [(⟨#[84,105]⟩ : ByteArray),(⟨#[71,105]⟩ : ByteArray),(⟨#[77,105]⟩ : ByteArray),(⟨#[75,105]⟩ : ByteArray)])] R ⟨⟨_,R,.here _ R⟩,trivial⟩ (FzH.refl _))<|Aa R R (Aj R)<|Ac<|Ae<|Af tbk [] R R<|B2 hm (fun _ (_:Unit)=>[(0,Iw n)]) (fun _ (_:Unit)=>[]) (fun o hm h5=>?_) fun j _ hm=> ?_
 ·refine B3 (fun zn (zs:Int)=>ref03_Show.l1 n zn zs) (fun zs (_:Unit)=>[(0,Iw n),(3,L9 [(⟨#[84,105]⟩ : ByteArray),(⟨#[71,105]⟩ : ByteArray),(⟨#[77,105]⟩ : ByteArray),(⟨#[75,105]⟩ : ByteArray)]),(4,Iw zs)]) (fun _ (_:Unit)=>[]) _ () (fun _=>R) hm (Ag [] R R) fun n2 i2 _ hm=> ?_
  rw [ref03_Show.l1] at hm
  refine Ae<|Af tbk [] R R<|Am hm R (fun h6 hm=>?_) fun h6 hm=> ?_
  ·refine Ai<|Ae<|A1<|Ah<|Ab tbk [] 3 R R<|Aa R R (Cf Bx Dx R)<|Bd hm fun v h7 hm=>Aa R R (VP.shlT R R h7)<|Aa R R (Aj R)<|Ac<|Ah<|Ab tbk [] 3 R R<|Bt hm 5 29 24 R (fun _ K' h8 J hm=>Ab tbk [] 2 R R<|Bd hm fun v2 h9 hm=>Bo R R R R R (C9 R R h9)<|Ab tbk [] 2 R R<|J 4 R R (Bj hm)) (fun _ K' h8 J hm=>Ab tbk [] 5 R R<|J 4 R R (Bj hm)) fun c hm=>Ac<|Am hm R (fun h11 hm=>?_) fun h11 hm=> ?_
   ·refine Ae<|A4 0 mixed<|An tbk [0,1] [] (by kernel_rfl) R R R<|Bd hm fun v3 h12 hm=>Aq 2 R R R (by kernel_rfl) (C5 R R h12)<|An tbk [4,5] [] (by kernel_rfl) R R R<|Bd hm fun x h13 hm=>Aq 6 R R R (by kernel_rfl) (A2 VV.str R R el65 h13)<|Aq 7 R R R (by kernel_rfl) (Bl R ld9 R)<|Al 3 (by kernel_rfl)<|Bd hm fun r h14 hm=>Au R R R<|Aw 0 R fn69 R (K9 FU (IntKind.i64.wrap v3) r h14) fun _ _ h16=> ?_
    obtain ⟨rfl,rfl⟩:=h16
    exact Bd hm fun v4 h15 hm=>Aq 8 R R R (by kernel_rfl) (A8 R R h15)<|Aq 9 R R R (by kernel_rfl) (Aj R)<|Ay (by kernel_rfl)<|have hm:=Lr hm h5;Rt1 hm R [] R R R
   exact Ai<|Bb tbk [] R R<|Ap _ () hm (Ag [] R R)
  exact Ba<|Ar () hm (Ag [] R R)
 exact Ah<|Aa R R (Ak R)<|Ad R R<|A0 hm 0 R fn69 R (K9 FU _) fun r2 hm=>Aa R R (Aj R)<|Ac<|Rt1 hm R [] R R R

/-! trireme/triremeref07.atom -/
def ref07_atom (s : ByteArray) : Option ByteArray :=
 if (V.seq s (⟨#[]⟩ : ByteArray)) = true then
  some (⟨#[34, 34]⟩ : ByteArray)
 else
  some s
theorem K12 (s : ByteArray) : VS Tryz.prog 72 (ref07_atom s) [.str s] [] .str N0 := by
 refine A6 [.tmp 2] Tryz.func72 R R R fun r hm=>?_
 unfold ref07_atom at hm
 exact Af tbk [] R R<|Ae<|Af tbk [] R R<|Am hm R (fun h1 hm=>Af tbk [] R R<|Rt1 hm R [] R R R) fun h1 hm=>Ai<|Af tbk [] R R<|Rt1 hm R [] R R R

/-! trireme/triremeref07.pairs -/
def ref07_pairs.l1 (name : ByteArray) (l : List T_api_Label) : Nat → ByteArray → Int → Option ByteArray
 | 0, _, _ => none
 | n + 1, s2, i2 =>
  if (decide (i2 < (l.length : Int))) = true then
   (V.cat s2 (⟨#[32, 40]⟩ : ByteArray)).bind fun v =>
   (V.cat v name).bind fun v2 =>
   (V.cat v2 (⟨#[32]⟩ : ByteArray)).bind fun v3 =>
   (V.gl l i2).bind fun x =>
   (V.cat v3 x.Key).bind fun v4 =>
   (V.cat v4 (⟨#[32]⟩ : ByteArray)).bind fun v5 =>
   (V.gl l i2).bind fun x2 =>
   (ref07_atom x2.Val).bind fun r =>
   (V.cat v5 r).bind fun v6 =>
   (V.cat v6 (⟨#[41]⟩ : ByteArray)).bind fun v7 =>
   ref07_pairs.l1 name l n v7 (i64.wrap (i2 + 1))
  else
   some s2
def ref07_pairs (name : ByteArray) (l : List T_api_Label) : Option ByteArray :=
 (ref07_pairs.l1 name l FU (⟨#[]⟩ : ByteArray) (0 : Int)).bind fun s32 =>
 some s32
theorem K13 (name : ByteArray) (l : List T_api_Label) : VS Tryz.prog 70 (ref07_pairs name l) [.str name, L141 l] [] .str N0 := by
 refine A6 [.tmp 4] Tryz.func70 R R R fun r hm=>?_
 unfold ref07_pairs at hm
 refine Af tbk [] R R<|Af tbk [] R R<|Ae<|Af tbk [] R R<|Cp hm (fun s32 (_:Unit)=>[(5,.str s32)]) (fun _ (_:Unit)=>[]) (fun o hm=>?_) fun s32 _ hm=> ?_
 ·refine B3 (fun zn (zs:ByteArray × Int)=>ref07_pairs.l1 name l zn zs.1 zs.2) (fun zs (_:Unit)=>[(0,.str name),(1,L141 l),(5,.str zs.1),(6,Iw zs.2)]) (fun _ (_:Unit)=>[]) ((⟨#[]⟩ : ByteArray),(0 : Int)) () (fun _=>R) hm (Ag [] R R) fun n=>Pq fun s2 i2 _ hm=> ?_
  rw [ref07_pairs.l1] at hm
  refine Ae<|Ah<|Ab tbk [] 2 R R<|Aa R R (A5 T_api_Label.vv R B4)<|Aa R R (Bc R R R)<|Ac<|Am hm R (fun h3 hm=>?_) fun h3 hm=> ?_
  ·refine Ai<|Ae<|A1<|A4 0 mixed<|Aq 0 R R R (by kernel_rfl) (Ak R)<|Bd hm fun v h4 hm=>Aq 1 R R R (by kernel_rfl) (A8 R R h4)<|Aq 2 R R R (by kernel_rfl) (Ak R)<|Bd hm fun v2 h5 hm=>Aq 3 R R R (by kernel_rfl) (A8 R R h5)<|Bd hm fun v3 h6 hm=>Aq 4 R R R (by kernel_rfl) (A8 R R h6)<|An tbk [5,6] [] (by kernel_rfl) R R R<|Bd hm fun x h7 hm=>Aq 7 R R R (by kernel_rfl) (A2 T_api_Label.vv R R el24 h7)<|An tbk [8,9] [] (by kernel_rfl) R R R<|Bd hm fun v4 h8 hm=>Aq 10 R R R (by kernel_rfl) (A8 R R h8)<|Bd hm fun v5 h9 hm=>Aq 11 R R R (by kernel_rfl) (A8 R R h9)<|An tbk [12,13] [] (by kernel_rfl) R R R<|Bd hm fun x2 h10 hm=>Aq 14 R R R (by kernel_rfl) (A2 T_api_Label.vv R R el24 h10)<|An tbk [15,16] [] (by kernel_rfl) R R R<|Al 17 (by kernel_rfl)<|Bd hm fun r h11 hm=>Au R R R<|Aw 0 R fn72 R (K12 x2.Val r h11) fun _ _ h14=> ?_
   obtain ⟨rfl,rfl⟩:=h14
   exact Bd hm fun v6 h12 hm=>Aq 18 R R R (by kernel_rfl) (A8 R R h12)<|Bd hm fun v7 h13 hm=>Aq 19 R R R (by kernel_rfl) (A8 R R h13)<|Aq 20 R R R (by kernel_rfl) (Aj R)<|Ay (by kernel_rfl)<|Bb tbk [] R R<|Ap (v7,(IntKind.i64.wrap (i2 + (1 : Int)))) () hm (Ag [] R R)
  exact Ba<|As () hm (Ag [] R R)
 exact Af tbk [] R R<|Rt1 hm R [] R R R

/-! trireme/triremeref07.ops -/
def ref07_ops : Option (List ByteArray) :=
 some [(⟨#[]⟩ : ByteArray), (⟨#[105, 110]⟩ : ByteArray), (⟨#[110, 111, 116, 105, 110]⟩ : ByteArray), (⟨#[101, 120, 105, 115, 116, 115]⟩ : ByteArray), (⟨#[109, 105, 115, 115, 105, 110, 103]⟩ : ByteArray), (⟨#[97, 98, 111, 118, 101]⟩ : ByteArray), (⟨#[98, 101, 108, 111, 119]⟩ : ByteArray)]
theorem K14 : VS Tryz.prog 71 (ref07_ops) [] [] (fun r=>L9 r) N0 := by
 refine A6 [.tmp 0] Tryz.func71 R R R fun r hm=>?_
 unfold ref07_ops at hm
 exact Af tbk [] R R<|Ah<|Ad R R<|Ax ap65 R R R R R fun b=>A3 (Az 0 [(1,L9 [(⟨#[]⟩ : ByteArray),(⟨#[105,110]⟩ : ByteArray),(⟨#[110,111,116,105,110]⟩ : ByteArray),(⟨#[101,120,105,115,116,115]⟩ : ByteArray),(⟨#[109,105,115,115,105,110,103]⟩ : ByteArray),(⟨#[97,98,111,118,101]⟩ : ByteArray),(⟨#[98,101,108,111,119]⟩ : ByteArray)])] R ⟨⟨_,R,.here _ R⟩,trivial⟩ (FzH.refl _))<|Aa R R (Aj R)<|Ac<|Rt1 hm R [] R R R

/-! trireme/triremeref07.effects -/
def ref07_effects : Option (List ByteArray) :=
 some [(⟨#[97, 110, 121]⟩ : ByteArray), (⟨#[110, 111]⟩ : ByteArray), (⟨#[112, 114, 101, 102, 101, 114]⟩ : ByteArray), (⟨#[111, 117, 116]⟩ : ByteArray)]
theorem K15 : VS Tryz.prog 73 (ref07_effects) [] [] (fun r=>L9 r) N0 := by
 refine A6 [.tmp 0] Tryz.func73 R R R fun r hm=>?_
 unfold ref07_effects at hm
 exact Af tbk [] R R<|Ah<|Ad R R<|Ax ap65 R R R R R fun b=>A3 (Az 0 [(1,L9 [(⟨#[97,110,121]⟩ : ByteArray),(⟨#[110,111]⟩ : ByteArray),(⟨#[112,114,101,102,101,114]⟩ : ByteArray),(⟨#[111,117,116]⟩ : ByteArray)])] R ⟨⟨_,R,.here _ R⟩,trivial⟩ (FzH.refl _))<|Aa R R (Aj R)<|Ac<|Rt1 hm R [] R R R

/-! trireme/triremeref07.number -/
def ref07_number (name : ByteArray) (n : Int) : Option ByteArray :=
 if (n == 0) = true then
  some (⟨#[]⟩ : ByteArray)
 else
  (V.cat (⟨#[32, 40]⟩ : ByteArray) name).bind fun v =>
  (V.cat v (⟨#[32]⟩ : ByteArray)).bind fun v2 =>
  (ref01_Digits FU n).bind fun r =>
  (V.cat v2 r).bind fun v3 =>
  (V.cat v3 (⟨#[41]⟩ : ByteArray)).bind fun v4 =>
  some v4
theorem K16 (name : ByteArray) (n : Int) : VS Tryz.prog 74 (ref07_number name n) [.str name, Iw n] [] .str N0 := by
 refine A6 [.tmp 4] Tryz.func74 R R R fun r hm=>?_
 unfold ref07_number at hm
 exact Af tbk [] R R<|Ae<|Af tbk [] R R<|Am hm R (fun h1 hm=>Af tbk [] R R<|Rt1 hm R [] R R R) fun h1 hm=>Ai<|Ah<|Aa R R (Ak R)<|Bd hm fun v h2 hm=>Aa R R (A8 R R h2)<|Bd hm fun v2 h3 hm=>Aa R R (A8 R R h3)<|Aa R R (Ak R)<|Ad R R<|A0 hm 0 R fn69 R (K9 FU _) fun r hm=>Bd hm fun v3 h5 hm=>Aa R R (A8 R R h5)<|Bd hm fun v4 h6 hm=>Aa R R (A8 R R h6)<|Aa R R (Aj R)<|Ac<|Rt1 hm R [] R R R

/-! trireme/triremeref07.flag -/
def ref07_flag (name : ByteArray) (is : Bool) : Option ByteArray :=
 if is = true then
  (V.cat (⟨#[32]⟩ : ByteArray) name).bind fun v =>
  some v
 else
  some (⟨#[]⟩ : ByteArray)
theorem K17 (name : ByteArray) (is : Bool) : VS Tryz.prog 75 (ref07_flag name is) [.str name, .bool is] [] .str N0 := by
 refine A6 [.tmp 4] Tryz.func75 R R R fun r hm=>?_
 unfold ref07_flag at hm
 exact Af tbk [] R R<|Ae<|Af tbk [] R R<|Am hm R (fun h1 hm=>Ah<|Aa R R (Ak R)<|Bd hm fun v h2 hm=>Aa R R (A8 R R h2)<|Aa R R (Aj R)<|Ac<|Rt1 hm R [] R R R) fun h1 hm=>Ai<|Af tbk [] R R<|Rt1 hm R [] R R R

/-! trireme/triremeref07.ShowPod -/
def ref07_ShowPod.l2 (x : T_api_Term) : Nat → ByteArray → Int → Option ByteArray
 | 0, _, _ => none
 | n2 + 1, s5, k2 =>
  if (decide (k2 < (x.Vals.length : Int))) = true then
   (V.cat s5 (⟨#[32]⟩ : ByteArray)).bind fun v18 =>
   (V.gl x.Vals k2).bind fun x3 =>
   (ref07_atom x3).bind fun r10 =>
   (V.cat v18 r10).bind fun v19 =>
   ref07_ShowPod.l2 x n2 v19 (i64.wrap (k2 + 1))
  else
   some s5
def ref07_ShowPod.l1 (p : T_api_Pod) : Nat → ByteArray → Int → Option ByteArray
 | 0, _, _ => none
 | n + 1, s2, i2 =>
  if (decide (i2 < (p.Terms.length : Int))) = true then
   (V.gl p.Terms i2).bind fun x =>
   (V.cat s2 (⟨#[32, 40, 116, 101, 114, 109, 32]⟩ : ByteArray)).bind fun v14 =>
   (V.cat v14 x.Key).bind fun v15 =>
   (V.cat v15 (⟨#[32]⟩ : ByteArray)).bind fun v16 =>
   (ref07_ops).bind fun r9 =>
   (V.gl r9 x.Op).bind fun x2 =>
   (V.cat v16 x2).bind fun v17 =>
   (ref07_ShowPod.l2 x FU v17 (0 : Int)).bind fun s62 =>
   (V.cat s62 (⟨#[41]⟩ : ByteArray)).bind fun v20 =>
   ref07_ShowPod.l1 p n v20 (i64.wrap (i2 + 1))
  else
   some s2
def ref07_ShowPod.l3 (p : T_api_Pod) : Nat → ByteArray → Int → Option ByteArray
 | 0, _, _ => none
 | n3 + 1, s8, i4 =>
  if (decide (i4 < (p.Bears.length : Int))) = true then
   (V.gl p.Bears i4).bind fun x4 =>
   if x4.Any = true then
    (V.cat s8 (⟨#[32, 40, 98, 101, 97, 114, 97, 110, 121, 32]⟩ : ByteArray)).bind fun v21 =>
    (ref07_atom x4.Key).bind fun r11 =>
    (V.cat v21 r11).bind fun v22 =>
    (V.cat v22 (⟨#[32]⟩ : ByteArray)).bind fun v23 =>
    (ref07_effects).bind fun r12 =>
    (V.gl r12 x4.Effect).bind fun x5 =>
    (V.cat v23 x5).bind fun v24 =>
    (V.cat v24 (⟨#[41]⟩ : ByteArray)).bind fun v25 =>
    ref07_ShowPod.l3 p n3 v25 (i64.wrap (i4 + 1))
   else
    (V.cat s8 (⟨#[32, 40, 98, 101, 97, 114, 32]⟩ : ByteArray)).bind fun v26 =>
    (ref07_atom x4.Key).bind fun r13 =>
    (V.cat v26 r13).bind fun v27 =>
    (V.cat v27 (⟨#[32]⟩ : ByteArray)).bind fun v28 =>
    (ref07_atom x4.Val).bind fun r14 =>
    (V.cat v28 r14).bind fun v29 =>
    (V.cat v29 (⟨#[32]⟩ : ByteArray)).bind fun v30 =>
    (ref07_effects).bind fun r15 =>
    (V.gl r15 x4.Effect).bind fun x6 =>
    (V.cat v30 x6).bind fun v31 =>
    (V.cat v31 (⟨#[41]⟩ : ByteArray)).bind fun v32 =>
    ref07_ShowPod.l3 p n3 v32 (i64.wrap (i4 + 1))
  else
   some s8
def ref07_ShowPod.l4 (p : T_api_Pod) : Nat → ByteArray → Int → Option ByteArray
 | 0, _, _ => none
 | n4 + 1, s11, i6 =>
  if (decide (i6 < (p.Ports.length : Int))) = true then
   (V.gl p.Ports i6).bind fun x7 =>
   (ref07_number (⟨#[112, 111, 114, 116]⟩ : ByteArray) x7).bind fun r16 =>
   (V.cat s11 r16).bind fun v33 =>
   ref07_ShowPod.l4 p n4 v33 (i64.wrap (i6 + 1))
  else
   some s11
def ref07_ShowPod (p : T_api_Pod) : Option ByteArray :=
 (ref07_RightPod p).bind fun r =>
 if (!r) = true then
  some (⟨#[]⟩ : ByteArray)
 else
  (V.cat (⟨#[40, 112, 111, 100, 32]⟩ : ByteArray) p.Name).bind fun v =>
  (V.cat v (⟨#[32, 40, 110, 101, 101, 100, 32]⟩ : ByteArray)).bind fun v2 =>
  (ref03_ShowMilli p.Need.Cpu).bind fun r2 =>
  (V.cat v2 r2).bind fun v3 =>
  (V.cat v3 (⟨#[32]⟩ : ByteArray)).bind fun v4 =>
  (ref03_Show p.Need.Mem).bind fun r3 =>
  (V.cat v4 r3).bind fun v5 =>
  (V.cat v5 (⟨#[32]⟩ : ByteArray)).bind fun v6 =>
  (ref03_Show p.Need.Disk).bind fun r4 =>
  (V.cat v6 r4).bind fun v7 =>
  (V.cat v7 (⟨#[32]⟩ : ByteArray)).bind fun v8 =>
  (ref01_Digits FU p.Need.Dev).bind fun r5 =>
  (V.cat v8 r5).bind fun v9 =>
  (V.cat v9 (⟨#[41]⟩ : ByteArray)).bind fun v10 =>
  (ref07_pairs (⟨#[108, 97, 98, 101, 108]⟩ : ByteArray) p.Labels).bind fun r6 =>
  (V.cat v10 r6).bind fun v11 =>
  (ref07_pairs (⟨#[115, 101, 108, 101, 99, 116]⟩ : ByteArray) p.Select).bind fun r7 =>
  (V.cat v11 r7).bind fun v12 =>
  (ref07_pairs (⟨#[97, 112, 97, 114, 116]⟩ : ByteArray) p.Apart).bind fun r8 =>
  (V.cat v12 r8).bind fun v13 =>
  (ref07_ShowPod.l1 p FU v13 (0 : Int)).bind fun s32 =>
  (ref07_ShowPod.l3 p FU s32 (0 : Int)).bind fun s92 =>
  (ref07_ShowPod.l4 p FU s92 (0 : Int)).bind fun s122 =>
  (ref07_number (⟨#[115, 112, 114, 101, 97, 100]⟩ : ByteArray) p.Skew).bind fun r17 =>
  (V.cat s122 r17).bind fun v34 =>
  (ref07_pairs (⟨#[111, 118, 101, 114]⟩ : ByteArray) p.Spread).bind fun r18 =>
  (V.cat v34 r18).bind fun v35 =>
  (ref07_number (⟨#[114, 97, 110, 107]⟩ : ByteArray) p.Rank).bind fun r19 =>
  (V.cat v35 r19).bind fun v36 =>
  if (!(V.seq p.Owner (⟨#[]⟩ : ByteArray))) = true then
   (V.cat v36 (⟨#[32, 40, 111, 119, 110, 101, 114, 32]⟩ : ByteArray)).bind fun v37 =>
   (V.cat v37 p.Owner).bind fun v38 =>
   (V.cat v38 (⟨#[41]⟩ : ByteArray)).bind fun v39 =>
   (ref07_flag (⟨#[119, 105, 100, 101]⟩ : ByteArray) p.Wide).bind fun r20 =>
   (V.cat v39 r20).bind fun v40 =>
   (ref07_flag (⟨#[100, 97, 101, 109, 111, 110]⟩ : ByteArray) p.Daemon).bind fun r21 =>
   (V.cat v40 r21).bind fun v41 =>
   (ref07_flag (⟨#[112, 105, 110, 110, 101, 100]⟩ : ByteArray) p.Pinned).bind fun r22 =>
   (V.cat v41 r22).bind fun v42 =>
   (ref07_flag (⟨#[108, 111, 99, 97, 108]⟩ : ByteArray) p.Local).bind fun r23 =>
   (V.cat v42 r23).bind fun v43 =>
   (V.cat v43 (⟨#[41]⟩ : ByteArray)).bind fun v44 =>
   some v44
  else
   (ref07_flag (⟨#[119, 105, 100, 101]⟩ : ByteArray) p.Wide).bind fun r24 =>
   (V.cat v36 r24).bind fun v45 =>
   (ref07_flag (⟨#[100, 97, 101, 109, 111, 110]⟩ : ByteArray) p.Daemon).bind fun r25 =>
   (V.cat v45 r25).bind fun v46 =>
   (ref07_flag (⟨#[112, 105, 110, 110, 101, 100]⟩ : ByteArray) p.Pinned).bind fun r26 =>
   (V.cat v46 r26).bind fun v47 =>
   (ref07_flag (⟨#[108, 111, 99, 97, 108]⟩ : ByteArray) p.Local).bind fun r27 =>
   (V.cat v47 r27).bind fun v48 =>
   (V.cat v48 (⟨#[41]⟩ : ByteArray)).bind fun v49 =>
   some v49
theorem K18 (p : T_api_Pod) : VS Tryz.prog 14 (ref07_ShowPod p) [T_api_Pod.vv p] [] .str N0 := by
 refine A6 [.tmp 2] Tryz.func14 R R R fun r hm=>?_
 unfold ref07_ShowPod at hm
 refine Ah<|Ad R R<|Cd R R fun b=>Aa R R (Aj R)<|Ac<|Ae<|Ah<|Ab tbk [0] 1 R R<|Ad R R<|A0 hm 0 R fn13 R (K61 _) fun r hm=>Aa R R (C1 R)<|Ac<|Am hm R (fun h3 hm=>Af tbk [] R R<|Rt1 hm R [] R R R) fun h3 hm=>Ai<|Ae<|A4 0 mixed<|An tbk [0,1] [0] (by kernel_rfl) R R R<|Bd hm fun v h4 hm=>Aq 2 R R R (by kernel_rfl) (A8 R R h4)<|Bd hm fun v2 h5 hm=>Aq 3 R R R (by kernel_rfl) (A8 R R h5)<|An tbk [4,5,6,10,11,12,16,17,18,22,23,24] [0,0,0,0] (by kernel_rfl) R R R<|Al 7 (by kernel_rfl)<|Bd hm fun r2 h6 hm=>Au R R R<|Aw 0 R fn67 R (K10 p.Need.Cpu r2 h6) fun _ _ h125=> ?_
 obtain ⟨rfl,rfl⟩:=h125
 refine Bd hm fun v3 h7 hm=>Aq 8 R R R (by kernel_rfl) (A8 R R h7)<|Bd hm fun v4 h8 hm=>Aq 9 R R R (by kernel_rfl) (A8 R R h8)<|Al 13 (by kernel_rfl)<|Bd hm fun r3 h9 hm=>Au R R R<|Aw 0 R fn68 R (K11 p.Need.Mem r3 h9) fun _ _ h124=> ?_
 obtain ⟨rfl,rfl⟩:=h124
 refine Bd hm fun v5 h10 hm=>Aq 14 R R R (by kernel_rfl) (A8 R R h10)<|Bd hm fun v6 h11 hm=>Aq 15 R R R (by kernel_rfl) (A8 R R h11)<|Al 19 (by kernel_rfl)<|Bd hm fun r4 h12 hm=>Au R R R<|Aw 0 R fn68 R (K11 p.Need.Disk r4 h12) fun _ _ h123=> ?_
 obtain ⟨rfl,rfl⟩:=h123
 refine Bd hm fun v7 h13 hm=>Aq 20 R R R (by kernel_rfl) (A8 R R h13)<|Bd hm fun v8 h14 hm=>Aq 21 R R R (by kernel_rfl) (A8 R R h14)<|Al 25 (by kernel_rfl)<|Bd hm fun r5 h15 hm=>Au R R R<|Aw 0 R fn69 R (K9 FU p.Need.Dev r5 h15) fun _ _ h122=> ?_
 obtain ⟨rfl,rfl⟩:=h122
 refine Bd hm fun v9 h16 hm=>Aq 26 R R R (by kernel_rfl) (A8 R R h16)<|Bd hm fun v10 h17 hm=>Aq 27 R R R (by kernel_rfl) (A8 R R h17)<|Aq 28 R R R (by kernel_rfl) (Aj R)<|Ay (by kernel_rfl)<|Ae<|A4 0 mixed<|An tbk [0,1,2,5,6,9,10] [0,0,0] (by kernel_rfl) R R R<|Al 3 (by kernel_rfl)<|Bd hm fun r6 h18 hm=>Au R R R<|Aw 0 R fn70 R (K13 (⟨#[108,97,98,101,108]⟩ : ByteArray) p.Labels r6 h18) fun _ _ h121=> ?_
 obtain ⟨rfl,rfl⟩:=h121
 refine Bd hm fun v11 h19 hm=>Aq 4 R R R (by kernel_rfl) (A8 R R h19)<|Al 7 (by kernel_rfl)<|Bd hm fun r7 h20 hm=>Au R R R<|Aw 0 R fn70 R (K13 (⟨#[115,101,108,101,99,116]⟩ : ByteArray) p.Select r7 h20) fun _ _ h120=> ?_
 obtain ⟨rfl,rfl⟩:=h120
 refine Bd hm fun v12 h21 hm=>Aq 8 R R R (by kernel_rfl) (A8 R R h21)<|Al 11 (by kernel_rfl)<|Bd hm fun r8 h22 hm=>Au R R R<|Aw 0 R fn70 R (K13 (⟨#[97,112,97,114,116]⟩ : ByteArray) p.Apart r8 h22) fun _ _ h119=> ?_
 obtain ⟨rfl,rfl⟩:=h119
 refine Bd hm fun v13 h23 hm=>Aq 12 R R R (by kernel_rfl) (A8 R R h23)<|Aq 13 R R R (by kernel_rfl) (Aj R)<|Ay (by kernel_rfl)<|Ae<|Af tbk [] R R<|Cp hm (fun s32 (_:Unit)=>[(1,.ptr b 0),(3,.str s32)]) (fun _ (_:Unit)=>[X29 b p]) (fun o hm=>?_) fun s32 _ hm=> ?_
 ·refine B3 (fun zn (zs:ByteArray × Int)=>ref07_ShowPod.l1 p zn zs.1 zs.2) (fun zs (_:Unit)=>[(1,.ptr b 0),(3,.str zs.1),(4,Iw zs.2)]) (fun _ (_:Unit)=>[X29 b p]) (v13,(0 : Int)) () (fun _=>R) hm (Ag [0] R R) fun n=>Pq fun s2 i2 _ hm=> ?_
  rw [ref07_ShowPod.l1] at hm
  refine Ae<|Ah<|Ab tbk [0] 3 R R<|Aa R R (A5 T_api_Term.vv R Cu)<|Aa R R (Bc R R R)<|Ac<|Am hm R (fun h26 hm=>?_) fun h26 hm=> ?_
  ·refine Ai<|Ae<|A1<|Ah<|Ab tbk [0] 3 R R<|Bd hm fun x h27 hm=>Aa R R (A2 T_api_Term.vv R R el25 h27)<|Aa R R (Bl R ld73 R)<|Ad R R<|Bg z73 fun b2=>Ad R R<|Ao (i:=0) R R R ld73 R R R<|Ac<|Ae<|A4 0 mixed<|Aq 0 R R R (by kernel_rfl) (Ak R)<|Bd hm fun v14 h29 hm=>Aq 1 R R R (by kernel_rfl) (A8 R R h29)<|An tbk [2,3] [0] (by kernel_rfl) R R R<|Bd hm fun v15 h30 hm=>Aq 4 R R R (by kernel_rfl) (A8 R R h30)<|Bd hm fun v16 h31 hm=>Aq 5 R R R (by kernel_rfl) (A8 R R h31)<|An tbk [7,8] [0] (by kernel_rfl) R R R<|Al 6 (by kernel_rfl)<|Bd hm fun r9 h32 hm=>Au R R R<|Aw 0 R fn71 R (K14 r9 h32) fun _ _ h43=> ?_
   obtain ⟨rfl,rfl⟩:=h43
   refine Bd hm fun x2 h33 hm=>Aq 9 R R R (by kernel_rfl) (A2 VV.str R R el65 h33)<|Aq 10 R R R (by kernel_rfl) (Bl R ld9 R)<|Bd hm fun v17 h34 hm=>Aq 11 R R R (by kernel_rfl) (A8 R R h34)<|Aq 12 R R R (by kernel_rfl) (Aj R)<|Ay (by kernel_rfl)<|Ae<|Af tbk [] R R<|Cp hm (fun s62 (_:Unit)=>[(1,.ptr b 0),(3,.str s62),(4,Iw i2)]) (fun _ (_:Unit)=>[X29 b p]) (fun o2 hm=>?_) fun s62 _ hm=> ?_
   ·refine B3 (fun zn (zs:ByteArray × Int)=>ref07_ShowPod.l2 x zn zs.1 zs.2) (fun zs (_:Unit)=>[(1,.ptr b 0),(3,.str zs.1),(4,Iw i2),(5,.ptr b2 0),(6,Iw zs.2)]) (fun _ (_:Unit)=>[X73 b2 x,X29 b p]) (v17,(0 : Int)) () (fun _=>R) hm (Ag [0,1] R R) fun n2=>Pq fun s5 k2 _ hm=> ?_
    rw [ref07_ShowPod.l2] at hm
    exact Ae<|Ah<|Ab tbk [0] 3 R R<|Aa R R (A5 VV.str R B0)<|Aa R R (Bc R R R)<|Ac<|Am hm R (fun h37 hm=>Ai<|Ae<|A1<|Be<|Aa R R (Ak R)<|Bd hm fun v18 h38 hm=>Aa R R (A8 R R h38)<|Ab tbk [0] 3 R R<|Bd hm fun x3 h39 hm=>Aa R R (A2 VV.str R R el65 h39)<|Aa R R (Bl R ld9 R)<|Ad R R<|A0 hm 0 R fn72 R (K12 _) fun r10 hm=>Bd hm fun v19 h41 hm=>Aa R R (A8 R R h41)<|Aa R R (Aj R)<|Ac<|Bb tbk [] R R<|Ap (v19,(IntKind.i64.wrap (k2 + (1 : Int)))) () hm (Ag [0,1] R R)) fun h37 hm=>Ba<|As () hm (Ag [1] R R)
   exact Be<|Aa R R (Ak R)<|Bd hm fun v20 h42 hm=>Aa R R (A8 R R h42)<|Aa R R (Aj R)<|Ac<|Bb tbk [] R R<|Ap (v20,(IntKind.i64.wrap (i2 + (1 : Int)))) () hm (Ag [0] R R)
  exact Ba<|As () hm (Ag [0] R R)
 refine Ae<|Af tbk [] R R<|Cp hm (fun s92 (_:Unit)=>[(1,.ptr b 0),(3,.str s92)]) (fun _ (_:Unit)=>[X29 b p]) (fun o3 hm=>?_) fun s92 _ hm=> ?_
 ·refine B3 (fun zn (zs:ByteArray × Int)=>ref07_ShowPod.l3 p zn zs.1 zs.2) (fun zs (_:Unit)=>[(1,.ptr b 0),(3,.str zs.1),(7,Iw zs.2)]) (fun _ (_:Unit)=>[X29 b p]) (s32,(0 : Int)) () (fun _=>R) hm (Ag [0] R R) fun n3=>Pq fun s8 i4 _ hm=> ?_
  rw [ref07_ShowPod.l3] at hm
  refine Ae<|Ah<|Ab tbk [0] 3 R R<|Aa R R (A5 T_api_Toleration.vv R C2)<|Aa R R (Bc R R R)<|Ac<|Am hm R (fun h46 hm=>?_) fun h46 hm=> ?_
  ·refine Ai<|Ae<|A1<|Ah<|Ab tbk [0] 3 R R<|Bd hm fun x4 h47 hm=>Aa R R (A2 T_api_Toleration.vv R R el26 h47)<|Aa R R (Bl R ld83 R)<|Ad R R<|Bg z83 fun b3=>Ad R R<|Ao (i:=0) R R R ld83 R R R<|Ac<|Af tbk [0] R R<|Am hm R (fun h49 hm=>?_) fun h49 hm=> ?_
   ·refine A4 0 mixed<|Aq 0 R R R (by kernel_rfl) (Ak R)<|Bd hm fun v21 h50 hm=>Aq 1 R R R (by kernel_rfl) (A8 R R h50)<|An tbk [2,3,8,9] [0,0] (by kernel_rfl) R R R<|Al 4 (by kernel_rfl)<|Bd hm fun r11 h51 hm=>Au R R R<|Aw 0 R fn72 R (K12 x4.Key r11 h51) fun _ _ h59=> ?_
    obtain ⟨rfl,rfl⟩:=h59
    refine Bd hm fun v22 h52 hm=>Aq 5 R R R (by kernel_rfl) (A8 R R h52)<|Bd hm fun v23 h53 hm=>Aq 6 R R R (by kernel_rfl) (A8 R R h53)<|Al 7 (by kernel_rfl)<|Bd hm fun r12 h54 hm=>Au R R R<|Aw 0 R fn73 R (K15 r12 h54) fun _ _ h58=> ?_
    obtain ⟨rfl,rfl⟩:=h58
    exact Bd hm fun x5 h55 hm=>Aq 10 R R R (by kernel_rfl) (A2 VV.str R R el65 h55)<|Aq 11 R R R (by kernel_rfl) (Bl R ld9 R)<|Bd hm fun v24 h56 hm=>Aq 12 R R R (by kernel_rfl) (A8 R R h56)<|Bd hm fun v25 h57 hm=>Aq 13 R R R (by kernel_rfl) (A8 R R h57)<|Aq 14 R R R (by kernel_rfl) (Aj R)<|Ay (by kernel_rfl)<|Bb tbk [] R R<|Ap (v25,(IntKind.i64.wrap (i4 + (1 : Int)))) () hm (Ag [1] R R)
   refine A4 0 mixed<|Aq 0 R R R (by kernel_rfl) (Ak R)<|Bd hm fun v26 h60 hm=>Aq 1 R R R (by kernel_rfl) (A8 R R h60)<|An tbk [2,3,7,8,13,14] [0,0,0] (by kernel_rfl) R R R<|Al 4 (by kernel_rfl)<|Bd hm fun r13 h61 hm=>Au R R R<|Aw 0 R fn72 R (K12 x4.Key r13 h61) fun _ _ h73=> ?_
   obtain ⟨rfl,rfl⟩:=h73
   refine Bd hm fun v27 h62 hm=>Aq 5 R R R (by kernel_rfl) (A8 R R h62)<|Bd hm fun v28 h63 hm=>Aq 6 R R R (by kernel_rfl) (A8 R R h63)<|Al 9 (by kernel_rfl)<|Bd hm fun r14 h64 hm=>Au R R R<|Aw 0 R fn72 R (K12 x4.Val r14 h64) fun _ _ h72=> ?_
   obtain ⟨rfl,rfl⟩:=h72
   refine Bd hm fun v29 h65 hm=>Aq 10 R R R (by kernel_rfl) (A8 R R h65)<|Bd hm fun v30 h66 hm=>Aq 11 R R R (by kernel_rfl) (A8 R R h66)<|Al 12 (by kernel_rfl)<|Bd hm fun r15 h67 hm=>Au R R R<|Aw 0 R fn73 R (K15 r15 h67) fun _ _ h71=> ?_
   obtain ⟨rfl,rfl⟩:=h71
   exact Bd hm fun x6 h68 hm=>Aq 15 R R R (by kernel_rfl) (A2 VV.str R R el65 h68)<|Aq 16 R R R (by kernel_rfl) (Bl R ld9 R)<|Bd hm fun v31 h69 hm=>Aq 17 R R R (by kernel_rfl) (A8 R R h69)<|Bd hm fun v32 h70 hm=>Aq 18 R R R (by kernel_rfl) (A8 R R h70)<|Aq 19 R R R (by kernel_rfl) (Aj R)<|Ay (by kernel_rfl)<|Bb tbk [] R R<|Ap (v32,(IntKind.i64.wrap (i4 + (1 : Int)))) () hm (Ag [1] R R)
  exact Ba<|As () hm (Ag [0] R R)
 refine Ae<|Af tbk [] R R<|Cp hm (fun s122 (_:Unit)=>[(1,.ptr b 0),(3,.str s122)]) (fun _ (_:Unit)=>[X29 b p]) (fun o4 hm=>?_) fun s122 _ hm=> ?_
 ·refine B3 (fun zn (zs:ByteArray × Int)=>ref07_ShowPod.l4 p zn zs.1 zs.2) (fun zs (_:Unit)=>[(1,.ptr b 0),(3,.str zs.1),(9,Iw zs.2)]) (fun _ (_:Unit)=>[X29 b p]) (s92,(0 : Int)) () (fun _=>R) hm (Ag [0] R R) fun n4=>Pq fun s11 i6 _ hm=> ?_
  rw [ref07_ShowPod.l4] at hm
  exact Ae<|Ah<|Ab tbk [0] 3 R R<|Aa R R (A5 (VV.int .i64) R Bn)<|Aa R R (Bc R R R)<|Ac<|Am hm R (fun h76 hm=>Ai<|Ae<|A1<|Be<|Ab tbk [0] 4 R R<|Bd hm fun x7 h77 hm=>Aa R R (A2 (VV.int .i64) R R el27 h77)<|Aa R R (Bl R ld3 R)<|Ad R R<|A0 hm 0 R fn74 R (K16 _ _) fun r16 hm=>Bd hm fun v33 h79 hm=>Aa R R (A8 R R h79)<|Aa R R (Aj R)<|Ac<|Bb tbk [] R R<|Ap (v33,(IntKind.i64.wrap (i6 + (1 : Int)))) () hm (Ag [0] R R)) fun h76 hm=>Ba<|As () hm (Ag [0] R R)
 refine Ae<|A4 0 mixed<|An tbk [0,1,2,5,6,9,10] [0,0,0] (by kernel_rfl) R R R<|Al 3 (by kernel_rfl)<|Bd hm fun r17 h80 hm=>Au R R R<|Aw 0 R fn74 R (K16 (⟨#[115,112,114,101,97,100]⟩ : ByteArray) p.Skew r17 h80) fun _ _ h118=> ?_
 obtain ⟨rfl,rfl⟩:=h118
 refine Bd hm fun v34 h81 hm=>Aq 4 R R R (by kernel_rfl) (A8 R R h81)<|Al 7 (by kernel_rfl)<|Bd hm fun r18 h82 hm=>Au R R R<|Aw 0 R fn70 R (K13 (⟨#[111,118,101,114]⟩ : ByteArray) p.Spread r18 h82) fun _ _ h117=> ?_
 obtain ⟨rfl,rfl⟩:=h117
 refine Bd hm fun v35 h83 hm=>Aq 8 R R R (by kernel_rfl) (A8 R R h83)<|Al 11 (by kernel_rfl)<|Bd hm fun r19 h84 hm=>Au R R R<|Aw 0 R fn74 R (K16 (⟨#[114,97,110,107]⟩ : ByteArray) p.Rank r19 h84) fun _ _ h116=> ?_
 obtain ⟨rfl,rfl⟩:=h116
 refine Bd hm fun v36 h85 hm=>Aq 12 R R R (by kernel_rfl) (A8 R R h85)<|Aq 13 R R R (by kernel_rfl) (Aj R)<|Ay (by kernel_rfl)<|Ae<|Af tbk [0] R R<|Am hm R (fun h86 hm=>?_) fun h86 hm=> ?_
 ·refine Be<|Aa R R (Ak R)<|Bd hm fun v37 h87 hm=>Aa R R (A8 R R h87)<|Ab tbk [0] 2 R R<|Bd hm fun v38 h88 hm=>Aa R R (A8 R R h88)<|Bd hm fun v39 h89 hm=>Aa R R (A8 R R h89)<|Aa R R (Aj R)<|Ac<|Ae<|A4 0 mixed<|An tbk [0,1,2,5,6,9,10,13,14] [0,0,0,0] (by kernel_rfl) R R R<|Al 3 (by kernel_rfl)<|Bd hm fun r20 h90 hm=>Au R R R<|Aw 0 R fn75 R (K17 (⟨#[119,105,100,101]⟩ : ByteArray) p.Wide r20 h90) fun _ _ h102=> ?_
  obtain ⟨rfl,rfl⟩:=h102
  refine Bd hm fun v40 h91 hm=>Aq 4 R R R (by kernel_rfl) (A8 R R h91)<|Al 7 (by kernel_rfl)<|Bd hm fun r21 h92 hm=>Au R R R<|Aw 0 R fn75 R (K17 (⟨#[100,97,101,109,111,110]⟩ : ByteArray) p.Daemon r21 h92) fun _ _ h101=> ?_
  obtain ⟨rfl,rfl⟩:=h101
  refine Bd hm fun v41 h93 hm=>Aq 8 R R R (by kernel_rfl) (A8 R R h93)<|Al 11 (by kernel_rfl)<|Bd hm fun r22 h94 hm=>Au R R R<|Aw 0 R fn75 R (K17 (⟨#[112,105,110,110,101,100]⟩ : ByteArray) p.Pinned r22 h94) fun _ _ h100=> ?_
  obtain ⟨rfl,rfl⟩:=h100
  refine Bd hm fun v42 h95 hm=>Aq 12 R R R (by kernel_rfl) (A8 R R h95)<|Al 15 (by kernel_rfl)<|Bd hm fun r23 h96 hm=>Au R R R<|Aw 0 R fn75 R (K17 (⟨#[108,111,99,97,108]⟩ : ByteArray) p.Local r23 h96) fun _ _ h99=> ?_
  obtain ⟨rfl,rfl⟩:=h99
  exact Bd hm fun v43 h97 hm=>Aq 16 R R R (by kernel_rfl) (A8 R R h97)<|Bd hm fun v44 h98 hm=>Aq 17 R R R (by kernel_rfl) (A8 R R h98)<|Aq 18 R R R (by kernel_rfl) (Aj R)<|Ay (by kernel_rfl)<|Rt1 hm R [] R R R
 refine Ai<|Ae<|A4 0 mixed<|An tbk [0,1,2,5,6,9,10,13,14] [0,0,0,0] (by kernel_rfl) R R R<|Al 3 (by kernel_rfl)<|Bd hm fun r24 h103 hm=>Au R R R<|Aw 0 R fn75 R (K17 (⟨#[119,105,100,101]⟩ : ByteArray) p.Wide r24 h103) fun _ _ h115=> ?_
 obtain ⟨rfl,rfl⟩:=h115
 refine Bd hm fun v45 h104 hm=>Aq 4 R R R (by kernel_rfl) (A8 R R h104)<|Al 7 (by kernel_rfl)<|Bd hm fun r25 h105 hm=>Au R R R<|Aw 0 R fn75 R (K17 (⟨#[100,97,101,109,111,110]⟩ : ByteArray) p.Daemon r25 h105) fun _ _ h114=> ?_
 obtain ⟨rfl,rfl⟩:=h114
 refine Bd hm fun v46 h106 hm=>Aq 8 R R R (by kernel_rfl) (A8 R R h106)<|Al 11 (by kernel_rfl)<|Bd hm fun r26 h107 hm=>Au R R R<|Aw 0 R fn75 R (K17 (⟨#[112,105,110,110,101,100]⟩ : ByteArray) p.Pinned r26 h107) fun _ _ h113=> ?_
 obtain ⟨rfl,rfl⟩:=h113
 refine Bd hm fun v47 h108 hm=>Aq 12 R R R (by kernel_rfl) (A8 R R h108)<|Al 15 (by kernel_rfl)<|Bd hm fun r27 h109 hm=>Au R R R<|Aw 0 R fn75 R (K17 (⟨#[108,111,99,97,108]⟩ : ByteArray) p.Local r27 h109) fun _ _ h112=> ?_
 obtain ⟨rfl,rfl⟩:=h112
 exact Bd hm fun v48 h110 hm=>Aq 16 R R R (by kernel_rfl) (A8 R R h110)<|Bd hm fun v49 h111 hm=>Aq 17 R R R (by kernel_rfl) (A8 R R h111)<|Aq 18 R R R (by kernel_rfl) (Aj R)<|Ay (by kernel_rfl)<|Rt1 hm R [] R R R

/-! trireme/triremeref07.SamePod -/
def ref07_SamePod (a : T_api_Pod) (b : T_api_Pod) : Option Bool :=
 (if (((((V.seq a.Name b.Name) && (((a.Need.Cpu == b.Need.Cpu) && ((a.Need.Mem == b.Need.Mem) && ((a.Need.Disk == b.Need.Disk) && ((a.Need.Pods == b.Need.Pods) && ((a.Need.Dev == b.Need.Dev) && true))))) == true)) && (a.Skew == b.Skew)) && (a.Rank == b.Rank)) && (V.seq a.Owner b.Owner)) = true then (ref07_ShowPod a).bind fun r =>
 (ref07_ShowPod b).bind fun r2 =>
 some (V.seq r r2) else some false).bind fun c =>
 some (((c && ((a.Labels.length : Int) == (b.Labels.length : Int))) && ((a.Terms.length : Int) == (b.Terms.length : Int))) && ((a.Ports.length : Int) == (b.Ports.length : Int)))
theorem K19 (a : T_api_Pod) (b : T_api_Pod) : VS Tryz.prog 17 (ref07_SamePod a b) [T_api_Pod.vv a, T_api_Pod.vv b] [] .bool N0 := by
 refine A6 [.tmp 4] Tryz.func17 R R R fun r hm=>?_
 unfold ref07_SamePod at hm
 refine Ah<|Ad R R<|Cd R R fun b2=>Ad R R<|Cd R R fun b3=>Aa R R (Aj R)<|Ac<|Ae<|A4 0 mixed<|An tbk [0,1,2,3,4,5] [1,0] (by kernel_rfl) R R R<|Dz [11,10,9,8,7,6,5,4,3,2,1,0] 16 10 R (fun h3 K' J=>An tbk [6,7,8,9] [1,0] (by kernel_rfl) R R R<|Bw 10 R R R R R R (by kernel_rfl) (D4 shp23 eq23 R R R R)<|Aq 11 R R R (by kernel_rfl) (Bh true R R R)<|J 5 R R R) (fun K' J=>An tbk [6,7,8,9,10,11] [] (by kernel_rfl) R R R<|J 5 R R R)<|Aq 12 R R R (by kernel_rfl) (Ak R)<|Dz [18,17,16,15,14,13,12,11,10,9,8,7,6,5,4,3,2,1,0] 23 17 R (fun h4 K' J=>An tbk [13,14,15,16,17,18] [1,0] (by kernel_rfl) R R R<|J 5 R R R) (fun K' J=>An tbk [13,14,15,16,17,18] [] (by kernel_rfl) R R R<|J 5 R R R)<|Aq 19 R R R (by kernel_rfl) (Ak R)<|Dz [25,24,23,22,21,20,19,18,17,16,15,14,13,12,11,10,9,8,7,6,5,4,3,2,1,0] 30 24 R (fun h5 K' J=>An tbk [20,21,22,23,24,25] [1,0] (by kernel_rfl) R R R<|J 5 R R R) (fun K' J=>An tbk [20,21,22,23,24,25] [] (by kernel_rfl) R R R<|J 5 R R R)<|Aq 26 R R R (by kernel_rfl) (Ak R)<|Dz [32,31,30,29,28,27,26,25,24,23,22,21,20,19,18,17,16,15,14,13,12,11,10,9,8,7,6,5,4,3,2,1,0] 37 31 R (fun h6 K' J=>An tbk [27,28,29,30,31,32] [1,0] (by kernel_rfl) R R R<|J 5 R R R) (fun K' J=>An tbk [27,28,29,30,31,32] [] (by kernel_rfl) R R R<|J 5 R R R)<|Aq 33 R R R (by kernel_rfl) (Ak R)<|Cq hm [39,38,37,36,35,34,33,32,31,30,29,28,27,26,25,24,23,22,21,20,19,18,17,16,15,14,13,12,11,10,9,8,7,6,5,4,3,2,1,0] 44 38 R (fun _ K' h7 J hm=>An tbk [34,36] [1,0] (by kernel_rfl) R R R<|Al 35 (by kernel_rfl)<|D0 R R R R R R<|A0 hm 0 R fn14 R (K18 _) fun r hm=>Al 37 (by kernel_rfl)<|D0 R R R R R R<|A0 hm 0 R fn14 R (K18 _) fun r2 hm=>An tbk [38,39] [] (by kernel_rfl) R R R<|VA.reord [39,38,37,36,35,34,33,32,31,30,29,28,27,26,25,24,23,22,21,20,19,18,17,16,15,14,13,12,11,10,9,8,7,6,5,4,3,2,1,0] (by kernel_rfl) R<|J 5 R R (Bj hm)) (fun _ K' h7 J hm=>An tbk [34,35,36,37,38,39] [] (by kernel_rfl) R R R<|J 5 R R (Bj hm)) fun c hm=>Aq 40 R R R (by kernel_rfl) (Ak R)<|Dz [48,47,46,45,44,43,42,41,40,39,38,37,36,35,34,33,32,31,30,29,28,27,26,25,24,23,22,21,20,19,18,17,16,15,14,13,12,11,10,9,8,7,6,5,4,3,2,1,0] 53 45 R (fun h11 K' J=>An tbk [41,42] [1] (by kernel_rfl) R R R<|Bw 43 R R R R R R (by kernel_rfl) (A5 T_api_Label.vv R B4)<|An tbk [44,45] [0] (by kernel_rfl) R R R<|Bw 46 R R R R R R (by kernel_rfl) (A5 T_api_Label.vv R B4)<|An tbk [47,48] [] (by kernel_rfl) R R R<|J 7 R R R) (fun K' J=>An tbk [41,42,43,44,45,46,47,48] [] (by kernel_rfl) R R R<|J 7 R R R)<|Aq 49 R R R (by kernel_rfl) (Ak R)<|?_
 exact Dz [57,56,55,54,53,52,51,50,49,48,47,46,45,44,43,42,41,40,39,38,37,36,35,34,33,32,31,30,29,28,27,26,25,24,23,22,21,20,19,18,17,16,15,14,13,12,11,10,9,8,7,6,5,4,3,2,1,0] 62 54 R (fun h12 K' J=>An tbk [50,51] [1] (by kernel_rfl) R R R<|Bw 52 R R R R R R (by kernel_rfl) (A5 T_api_Term.vv R Cu)<|An tbk [53,54] [0] (by kernel_rfl) R R R<|Bw 55 R R R R R R (by kernel_rfl) (A5 T_api_Term.vv R Cu)<|An tbk [56,57] [] (by kernel_rfl) R R R<|J 7 R R R) (fun K' J=>An tbk [50,51,52,53,54,55,56,57] [] (by kernel_rfl) R R R<|J 7 R R R)<|Aq 58 R R R (by kernel_rfl) (Ak R)<|Dz [66,65,64,63,62,61,60,59,58,57,56,55,54,53,52,51,50,49,48,47,46,45,44,43,42,41,40,39,38,37,36,35,34,33,32,31,30,29,28,27,26,25,24,23,22,21,20,19,18,17,16,15,14,13,12,11,10,9,8,7,6,5,4,3,2,1,0] 71 63 R (fun h13 K' J=>An tbk [59,60] [1] (by kernel_rfl) R R R<|Bw 61 R R R R R R (by kernel_rfl) (A5 (VV.int .i64) R Bn)<|An tbk [62,63] [0] (by kernel_rfl) R R R<|Bw 64 R R R R R R (by kernel_rfl) (A5 (VV.int .i64) R Bn)<|An tbk [65,66] [] (by kernel_rfl) R R R<|J 7 R R R) (fun K' J=>An tbk [59,60,61,62,63,64,65,66] [] (by kernel_rfl) R R R<|J 7 R R R)<|Aq 67 R R R (by kernel_rfl) (Aj R)<|Ay (by kernel_rfl)<|Rt1 hm R [] R R R

/-! trireme/triremeref09.Same -/
def ref09_Same.l1 (ms : List T_api_Machine) (ns : List T_api_Machine) : Nat → Int → Option (Out Bool Unit)
 | 0, _ => none
 | n + 1, i2 =>
  if (decide (i2 < (ms.length : Int))) = true then
   (V.gl ms i2).bind fun x =>
   (V.gl ns i2).bind fun x2 =>
   (ref07_SameMachine x x2).bind fun r =>
   if (!r) = true then
    some (Out.ret false)
   else
    ref09_Same.l1 ms ns n (i64.wrap (i2 + 1))
  else
   some (Out.go ())
def ref09_Same.l2 (bs : List T_api_Bound) (cs : List T_api_Bound) : Nat → Int → Option (Out Bool Unit)
 | 0, _ => none
 | n2 + 1, i4 =>
  if (decide (i4 < (bs.length : Int))) = true then
   (V.gl bs i4).bind fun x3 =>
   (V.gl cs i4).bind fun x4 =>
   (if (!(V.seq x3.On x4.On)) = true then some true else (V.gl bs i4).bind fun x5 =>
   (V.gl cs i4).bind fun x6 =>
   (ref07_SamePod x5.Pod x6.Pod).bind fun r2 =>
   some (!r2)).bind fun c =>
   if c = true then
    some (Out.ret false)
   else
    ref09_Same.l2 bs cs n2 (i64.wrap (i4 + 1))
  else
   some (Out.go ())
def ref09_Same (ms : List T_api_Machine) (bs : List T_api_Bound) (ns : List T_api_Machine) (cs : List T_api_Bound) : Option Bool :=
 if (((ms.length : Int) != (ns.length : Int)) || ((bs.length : Int) != (cs.length : Int))) = true then
  some false
 else
  (ref09_Same.l1 ms ns FU (0 : Int)).bind fun o =>
  o.on fun j =>
  (ref09_Same.l2 bs cs FU (0 : Int)).bind fun o2 =>
  o2.on fun j2 =>
  some true
theorem K20 (ms : List T_api_Machine) (bs : List T_api_Bound) (ns : List T_api_Machine) (cs : List T_api_Bound) : VS Tryz.prog 37 (ref09_Same ms bs ns cs) [L41 ms, L121 bs, L41 ns, L121 cs] [] .bool N0 := by
 refine A6 [.tmp 8] Tryz.func37 R R R fun r hm=>?_
 unfold ref09_Same at hm
 refine Af tbk [] R R<|Ae<|Ah<|Aa R R (Ak R)<|Aa R R (A5 T_api_Machine.vv R B5)<|Aa R R (Ak R)<|Aa R R (A5 T_api_Machine.vv R B5)<|Ab tbk [] 2 R R<|C0 6 22 16 R (fun K' J=>Ab tbk [] 6 R R<|J 5 R R R) (fun h1 K' J=>Bo R R R R R (Ak R)<|Bo R R R R R (A5 T_api_Bound.vv R Bz)<|Bo R R R R R (Ak R)<|Bo R R R R R (A5 T_api_Bound.vv R Bz)<|Ab tbk [] 2 R R<|J 5 R R R)<|Ac<|Am hm R (fun h2 hm=>Af tbk [] R R<|Rt1 hm R [] R R R) fun h2 hm=>Ai<|Ae<|Af tbk [] R R<|B2 hm (fun _ (_:Unit)=>[(1,L121 bs),(3,L121 cs)]) (fun _ (_:Unit)=>[]) (fun o hm h4=>?_) fun j _ hm=> ?_
 ·refine B3 (fun zn (zs:Int)=>ref09_Same.l1 ms ns zn zs) (fun zs (_:Unit)=>[(0,L41 ms),(1,L121 bs),(2,L41 ns),(3,L121 cs),(9,Iw zs)]) (fun _ (_:Unit)=>[]) _ () (fun _=>R) hm (Ag [] R R) fun n i2 _ hm=> ?_
  rw [ref09_Same.l1] at hm
  refine Ae<|Ah<|Ab tbk [] 2 R R<|Aa R R (A5 T_api_Machine.vv R B5)<|Aa R R (Bc R R R)<|Ac<|Am hm R (fun h5 hm=>?_) fun h5 hm=> ?_
  ·refine Ai<|Ae<|A1<|Ae<|A4 0 mixed<|An tbk [0,1] [] (by kernel_rfl) R R R<|Bd hm fun x h6 hm=>Aq 2 R R R (by kernel_rfl) (A2 T_api_Machine.vv R R el54 h6)<|An tbk [3,4,5] [] (by kernel_rfl) R R R<|Bd hm fun x2 h7 hm=>Aq 6 R R R (by kernel_rfl) (A2 T_api_Machine.vv R R el54 h7)<|Aq 7 R R R (by kernel_rfl) (Bl R ld41 R)<|Al 8 (by kernel_rfl)<|Bd hm fun r h8 hm=>Au R R R<|Aw 0 R fn24 R (K8 x x2 r h8) fun _ _ h10=> ?_
   obtain ⟨rfl,rfl⟩:=h10
   exact Aq 9 R R R (by kernel_rfl) (C1 R)<|Ay (by kernel_rfl)<|Am hm R (fun h9 hm=>Af tbk [] R R<|have hm:=Lr hm h4;Rt1 hm R [] R R R) fun h9 hm=>Ai<|Bb tbk [] R R<|Ap _ () hm (Ag [] R R)
  exact Ba<|Ar () hm (Ag [] R R)
 refine Ae<|Af tbk [] R R<|B2 hm (fun _ (_:Unit)=>[]) (fun _ (_:Unit)=>[]) (fun o2 hm h12=>?_) fun j2 _ hm=> ?_
 ·refine B3 (fun zn (zs:Int)=>ref09_Same.l2 bs cs zn zs) (fun zs (_:Unit)=>[(1,L121 bs),(3,L121 cs),(10,Iw zs)]) (fun _ (_:Unit)=>[]) _ () (fun _=>R) hm (Ag [] R R) fun n2 i4 _ hm=> ?_
  rw [ref09_Same.l2] at hm
  exact Ae<|Ah<|Ab tbk [] 2 R R<|Aa R R (A5 T_api_Bound.vv R Bz)<|Aa R R (Bc R R R)<|Ac<|Am hm R (fun h13 hm=>Ai<|Ae<|A1<|Ae<|A4 0 mixed<|An tbk [0,1] [] (by kernel_rfl) R R R<|Bd hm fun x3 h14 hm=>Aq 2 R R R (by kernel_rfl) (A2 T_api_Bound.vv R R el55 h14)<|An tbk [3,4,5,6] [] (by kernel_rfl) R R R<|Bd hm fun x4 h15 hm=>Aq 7 R R R (by kernel_rfl) (A2 T_api_Bound.vv R R el55 h15)<|An tbk [8,9,10,11] [] (by kernel_rfl) R R R<|Cq hm [24,23,22,21,20,19,18,17,16,15,14,13,12,11,10,9,8,7,6,5,4,3,2,1,0] 69 56 R (fun _ K' h16 J hm=>An tbk [12,13,14,15,16,17,18,19,20,21,22,23,24] [] (by kernel_rfl) R R R<|J 12 R R (Bj hm)) (fun _ K' h16 J hm=>An tbk [12,13] [] (by kernel_rfl) R R R<|Bd hm fun x5 h17 hm=>Bw 14 R R R R R R (by kernel_rfl) (A2 T_api_Bound.vv R R el55 h17)<|An tbk [15,16,17,18] [] (by kernel_rfl) R R R<|Bd hm fun x6 h18 hm=>Bw 19 R R R R R R (by kernel_rfl) (A2 T_api_Bound.vv R R el55 h18)<|An tbk [20,21] [] (by kernel_rfl) R R R<|Al 22 (by kernel_rfl)<|D0 R R R R R R<|A0 hm 0 R fn17 R (K19 _ _) fun r2 hm=>An tbk [23,24] [] (by kernel_rfl) R R R<|J 12 R R (Bj hm)) fun c hm=>Ay (by kernel_rfl)<|Am hm R (fun h21 hm=>Af tbk [] R R<|have hm:=Lr hm h12;Rt1 hm R [] R R R) fun h21 hm=>Ai<|Bb tbk [] R R<|Ap _ () hm (Ag [] R R)) fun h13 hm=>Ba<|Ar () hm (Ag [] R R)
 exact Af tbk [] R R<|Rt1 hm R [] R R R

/-! trireme/yard.Find$1 -/
def yard_Find_1 (i : Int) (a : List T_api_Machine) (a2 : ByteArray) : Option Bool :=
 (V.gl a i).bind fun x =>
 some (V.seq x.Name a2)
theorem K21 (i : Int) (a : List T_api_Machine) (a2 : ByteArray) (b : Nat) (b2 : Nat) : VS Tryz.prog 156 (yard_Find_1 i a a2) [Iw i, .ptr b 0, .ptr b2 0] [.box b 54 [L41 a], .box b2 9 [.str a2]] .bool (fun r=>[.box b 54 [L41 a], .box b2 9 [.str a2]]) := by
 refine A6 [.tmp 4] Tryz.func156 R R R fun r hm=>?_
 unfold yard_Find_1 at hm
 exact Af tbk [] R R<|Ae<|A4 0 mixed<|An tbk [0,1] [0] (by kernel_rfl) R R R<|Bd hm fun x h1 hm=>Aq 2 R R R (by kernel_rfl) (A2 T_api_Machine.vv R R el54 h1)<|An tbk [3,4,5,6,7] [1] (by kernel_rfl) R R R<|Ay (by kernel_rfl)<|Rt1 hm R [0,1] R R R

/-! trireme/yard.first -/
def yard_first_yard_Find_1.l1 (n : Int) (c : List T_api_Machine) (c2 : ByteArray) : Nat → Int → Option (Out Int Unit)
 | 0, _ => none
 | n2 + 1, v2 =>
  if (decide (v2 < n)) = true then
   (yard_Find_1 v2 c c2).bind fun r =>
   if r = true then
    some (Out.ret v2)
   else
    yard_first_yard_Find_1.l1 n c c2 n2 (i64.wrap (v2 + 1))
  else
   some (Out.go ())
def yard_first_yard_Find_1 (n : Int) (c : List T_api_Machine) (c2 : ByteArray) : Option Int :=
 (yard_first_yard_Find_1.l1 n c c2 FU (0 : Int)).bind fun o =>
 o.on fun j =>
 some (-1)
theorem K22 (n : Int) (c : List T_api_Machine) (c2 : ByteArray) (b : Nat) (b2 : Nat) : VS Tryz.prog 143 (yard_first_yard_Find_1 n c c2) [Iw n, .clo (.func 156) [] [.ptr b 0, .ptr b2 0]] [.box b 54 [L41 c], .box b2 9 [.str c2]] Iw (fun r=>[.box b 54 [L41 c], .box b2 9 [.str c2]]) := by
 refine A6 [.tmp 4] Dj R R R fun r hm=>?_
 unfold yard_first_yard_Find_1 at hm
 refine Af tbk [] R R<|Ae<|Af tbk [] R R<|B2 hm (fun _ (_:Unit)=>[]) (fun _ (_:Unit)=>[.box b 54 [L41 c],.box b2 9 [.str c2]]) (fun o hm h2=>?_) fun j _ hm=> ?_
 ·refine B3 (fun zn (zs:Int)=>yard_first_yard_Find_1.l1 n c c2 zn zs) (fun zs (_:Unit)=>[(1,.clo (.func 156) [] [.ptr b 0,.ptr b2 0]),(6,Iw n),(7,Iw zs)]) (fun _ (_:Unit)=>[.box b 54 [L41 c],.box b2 9 [.str c2]]) _ () (fun _=>R) hm (Ag [0,1] R R) fun n2 v2 _ hm=> ?_
  rw [yard_first_yard_Find_1.l1] at hm
  exact Af tbk [] R R<|Ae<|Am hm R (fun h3 hm=>Ai<|Ae<|A1<|Af tbk [] R R<|Ah<|Ab tbk [] 2 R R<|Ad R R<|A0 hm 2 R fn156 R (K21 _ _ _ _ _) fun r hm=>Ac<|Am hm R (fun h5 hm=>Af tbk [] R R<|have hm:=Lr hm h2;Rt1 hm R [0,1] R R R) fun h5 hm=>Ai<|Bb tbk [] R R<|Ap _ () hm (Ag [0,1] R R)) fun h3 hm=>Ba<|Ar () hm (Ag [0,1] R R)
 exact Af tbk [] R R<|Rt1 hm R [0,1] R R R

/-! trireme/yard.Find -/
def yard_Find (ms : List T_api_Machine) (name : ByteArray) : Option Int :=
 (yard_first_yard_Find_1 (ms.length : Int) ms name).bind fun r =>
 some r
theorem K23 (ms : List T_api_Machine) (name : ByteArray) : VS Tryz.prog 103 (yard_Find ms name) [L41 ms, .str name] [] Iw N0 := by
 refine A6 [.tmp 4] Tryz.func103 R R R fun r hm=>?_
 unfold yard_Find at hm
 exact Ah<|Ad R R<|Cd R R fun b=>Ad R R<|Cd R R fun b2=>Aa R R (Aj R)<|Ac<|Ah<|Ab tbk [1] 1 R R<|Aa R R (A5 T_api_Machine.vv R B5)<|Aa R R (Cm R R)<|A3 (Bf [1,0] R)<|Ad R R<|A0 hm 2 R fn143 R (K22 _ _ _ _ _) fun r hm=>Aa R R (Aj R)<|Ac<|Rt1 hm R [] R R R

/-! trireme/dump.Diff$1 -/
def dump_Diff_1.l1 (b : List T_api_Machine) (sign : ByteArray) : List T_api_Machine → Nat → (List ByteArray) → Option (List ByteArray)
 | [], k, l2 => some l2
 | x :: l4, k, l2 =>
  (yard_Find b x.Name).bind fun r =>
  if (decide (r < 0)) = true then
   (V.cat sign x.Name).bind fun v =>
   (V.ap 16 l2 [v]).bind fun l5 =>
   dump_Diff_1.l1 b sign l4 (k + 1) l5
  else
   dump_Diff_1.l1 b sign l4 (k + 1) l2
def dump_Diff_1 (a : List T_api_Machine) (b : List T_api_Machine) (sign : ByteArray) (a2 : List ByteArray) : Option (List ByteArray) :=
 (dump_Diff_1.l1 b sign a 0 a2).bind fun l32 =>
 some l32
theorem K24 (a : List T_api_Machine) (b : List T_api_Machine) (sign : ByteArray) (a2 : List ByteArray) (b2 : Nat) (ob : Option Nat) (cap : Nat) : VS2 Tryz.prog 102 (dump_Diff_1 a b sign a2) [L41 a, L41 b, .str sign, .ptr b2 0] [.box b2 65 [Z9 ob a2 cap], Q9 ob cap a2] (fun r ob0_0 cap0_0=>.tup []) (fun r ob0_0 cap0_0=>[.box b2 65 [Z9 ob0_0 r cap0_0], Q9 ob0_0 cap0_0 r]) := by
 refine Dn [] Tryz.func102 R R R fun r hm=>?_
 unfold dump_Diff_1 at hm
 refine Ah<|Aa R R (Ak R)<|Aa R R (A5 T_api_Machine.vv R B5)<|Aa R R (Ak R)<|Ac<|Ck 9 R fun h3=>Cp hm (fun _ (gg:Option Nat × Nat)=>[]) (fun l32 (gg:Option Nat × Nat)=>[.box b2 65 [Z9 gg.1 l32 gg.2],Q9 gg.1 gg.2 l32]) (fun o hm=>?_) fun l32=>Pq fun ob4 cap4 hm=> ?_
 ·refine Cz (a) (fun zl zk (zs:List ByteArray)=>dump_Diff_1.l1 b sign zl zk zs) (fun k _ (_:Option Nat × Nat)=>[(1,L41 b),(2,.str sign),(3,.ptr b2 0),(9,L41 a),(10,Iw (a.length : Int)),(11,Iw (k : Int))]) (fun _ zs (zg:Option Nat × Nat)=>[.box b2 65 [Z9 zg.1 zs zg.2],Q9 zg.1 zg.2 zs]) _ (ob,cap) hm (Ag [0,1] R R) (fun k l2=>Pq fun ob3 cap3 hk hm=>?_) fun k x l4 l2=>Pq fun ob3 cap3 h4 hm=> ?_
  ·rw [dump_Diff_1.l1] at hm
   exact Af tbk [] R R<|Ae<|Cb R (k_end hk)<|Ba<|As (ob3,cap3) hm (Ag [0,1] R R)
  rw [dump_Diff_1.l1] at hm
  exact Af tbk [] R R<|Ae<|Br R (k_lt h4)<|Ai<|Ae<|A1<|Ah<|Aa R R (Ct T_api_Machine.vv R R el54 h4)<|Aa R R (Bl R ld41 R)<|Ad R R<|Bg z41 fun b3=>Ad R R<|Ao (i:=0) R R R ld41 R R R<|Ac<|Ah<|Ab tbk [0] 3 R R<|Ad R R<|A0 hm 0 R fn103 R (K23 _ _) fun r hm=>Aa R R (Bc R R R)<|Ac<|Am hm R (fun h7 hm=>Be<|Ab tbk [1,0] 4 R R<|Bd hm fun v h8 hm=>Aa R R (A8 R R h8)<|Ad R R<|Ax ap65 R R R R R fun b4=>Bd hm fun l5 h10 hm=>Ad R R<|Bu 3 VV.str (l:=l2) (l2:=[v]) ap65 R R (sT_row 0 VV.str el65 R R) h10 fun ob5 cap5=>Ad R R<|Ao (i:=2) R R R ld65 R R R<|Ac<|Bb tbk [] R R<|Ap _ (ob5,cap5) hm (Bv [2,3] R ⟨R,R,R,R,R,congrArg some (k_next h4 h3),trivial⟩)) fun h7 hm=>Ai<|Bb tbk [] R R<|Ap _ (ob3,cap3) hm (Bv [1,2] R ⟨R,R,R,R,R,congrArg some (k_next h4 h3),trivial⟩)
 obtain rfl:=Option.some.inj hm
 exact ⟨.inr R,_,.nil,[0,1],_,R,ob4,cap4,R,R⟩

/-! trireme/yard.Place$1 -/
def yard_Place_1 (i : Int) (a : List T_api_Bound) (a2 : ByteArray) : Option Bool :=
 (V.gl a i).bind fun x =>
 some (V.seq x.Pod.Name a2)
theorem K25 (i : Int) (a : List T_api_Bound) (a2 : ByteArray) (b : Nat) (b2 : Nat) : VS Tryz.prog 157 (yard_Place_1 i a a2) [Iw i, .ptr b 0, .ptr b2 0] [.box b 55 [L121 a], .box b2 9 [.str a2]] .bool (fun r=>[.box b 55 [L121 a], .box b2 9 [.str a2]]) := by
 refine A6 [.tmp 4] Tryz.func157 R R R fun r hm=>?_
 unfold yard_Place_1 at hm
 exact Af tbk [] R R<|Ae<|A4 0 mixed<|An tbk [0,1] [0] (by kernel_rfl) R R R<|Bd hm fun x h1 hm=>Aq 2 R R R (by kernel_rfl) (A2 T_api_Bound.vv R R el55 h1)<|An tbk [3,4,5,6,7,8] [1] (by kernel_rfl) R R R<|Ay (by kernel_rfl)<|Rt1 hm R [0,1] R R R

/-! trireme/yard.first -/
def yard_first_yard_Place_1.l1 (n : Int) (c : List T_api_Bound) (c2 : ByteArray) : Nat → Int → Option (Out Int Unit)
 | 0, _ => none
 | n2 + 1, v2 =>
  if (decide (v2 < n)) = true then
   (yard_Place_1 v2 c c2).bind fun r =>
   if r = true then
    some (Out.ret v2)
   else
    yard_first_yard_Place_1.l1 n c c2 n2 (i64.wrap (v2 + 1))
  else
   some (Out.go ())
def yard_first_yard_Place_1 (n : Int) (c : List T_api_Bound) (c2 : ByteArray) : Option Int :=
 (yard_first_yard_Place_1.l1 n c c2 FU (0 : Int)).bind fun o =>
 o.on fun j =>
 some (-1)
theorem K26 (n : Int) (c : List T_api_Bound) (c2 : ByteArray) (b : Nat) (b2 : Nat) : VS Tryz.prog 143 (yard_first_yard_Place_1 n c c2) [Iw n, .clo (.func 157) [] [.ptr b 0, .ptr b2 0]] [.box b 55 [L121 c], .box b2 9 [.str c2]] Iw (fun r=>[.box b 55 [L121 c], .box b2 9 [.str c2]]) := by
 refine A6 [.tmp 4] Dj R R R fun r hm=>?_
 unfold yard_first_yard_Place_1 at hm
 refine Af tbk [] R R<|Ae<|Af tbk [] R R<|B2 hm (fun _ (_:Unit)=>[]) (fun _ (_:Unit)=>[.box b 55 [L121 c],.box b2 9 [.str c2]]) (fun o hm h2=>?_) fun j _ hm=> ?_
 ·refine B3 (fun zn (zs:Int)=>yard_first_yard_Place_1.l1 n c c2 zn zs) (fun zs (_:Unit)=>[(1,.clo (.func 157) [] [.ptr b 0,.ptr b2 0]),(6,Iw n),(7,Iw zs)]) (fun _ (_:Unit)=>[.box b 55 [L121 c],.box b2 9 [.str c2]]) _ () (fun _=>R) hm (Ag [0,1] R R) fun n2 v2 _ hm=> ?_
  rw [yard_first_yard_Place_1.l1] at hm
  exact Af tbk [] R R<|Ae<|Am hm R (fun h3 hm=>Ai<|Ae<|A1<|Af tbk [] R R<|Ah<|Ab tbk [] 2 R R<|Ad R R<|A0 hm 2 R fn157 R (K25 _ _ _ _ _) fun r hm=>Ac<|Am hm R (fun h5 hm=>Af tbk [] R R<|have hm:=Lr hm h2;Rt1 hm R [0,1] R R R) fun h5 hm=>Ai<|Bb tbk [] R R<|Ap _ () hm (Ag [0,1] R R)) fun h3 hm=>Ba<|Ar () hm (Ag [0,1] R R)
 exact Af tbk [] R R<|Rt1 hm R [0,1] R R R

/-! trireme/yard.Place -/
def yard_Place (bs : List T_api_Bound) (name : ByteArray) : Option Int :=
 (yard_first_yard_Place_1 (bs.length : Int) bs name).bind fun r =>
 some r
theorem K27 (bs : List T_api_Bound) (name : ByteArray) : VS Tryz.prog 104 (yard_Place bs name) [L121 bs, .str name] [] Iw N0 := by
 refine A6 [.tmp 4] Tryz.func104 R R R fun r hm=>?_
 unfold yard_Place at hm
 exact Ah<|Ad R R<|Cd R R fun b=>Ad R R<|Cd R R fun b2=>Aa R R (Aj R)<|Ac<|Ah<|Ab tbk [1] 1 R R<|Aa R R (A5 T_api_Bound.vv R Bz)<|Aa R R (Cm R R)<|A3 (Bf [1,0] R)<|Ad R R<|A0 hm 2 R fn143 R (K26 _ _ _ _ _) fun r hm=>Aa R R (Aj R)<|Ac<|Rt1 hm R [] R R R

/-! trireme/dump.dash -/
def dump_dash (s : ByteArray) : Option ByteArray :=
 if (V.seq s (⟨#[]⟩ : ByteArray)) = true then
  some (⟨#[45]⟩ : ByteArray)
 else
  some s
theorem K28 (s : ByteArray) : VS Tryz.prog 105 (dump_dash s) [.str s] [] .str N0 := by
 refine A6 [.tmp 2] Tryz.func105 R R R fun r hm=>?_
 unfold dump_dash at hm
 exact Af tbk [] R R<|Ae<|Af tbk [] R R<|Am hm R (fun h1 hm=>Af tbk [] R R<|Rt1 hm R [] R R R) fun h1 hm=>Ai<|Af tbk [] R R<|Rt1 hm R [] R R R

/-! trireme/dump.Diff -/
def dump_Diff.l1 (cs : List T_api_Bound) : List T_api_Bound → Nat → (List ByteArray) → Option (List ByteArray)
 | [], k, l2 => some l2
 | x :: l4, k, l2 =>
  (yard_Place cs x.Pod.Name).bind fun r3 =>
  if (decide (r3 < 0)) = true then
   (V.cat (⟨#[45, 32]⟩ : ByteArray) x.Pod.Name).bind fun v =>
   (V.ap 16 l2 [v]).bind fun l5 =>
   dump_Diff.l1 cs l4 (k + 1) l5
  else
   (V.gl cs r3).bind fun x2 =>
   if (!(V.seq x2.On x.On)) = true then
    (V.cat x.Pod.Name (⟨#[32]⟩ : ByteArray)).bind fun v2 =>
    (V.gl cs r3).bind fun x3 =>
    (dump_dash x.On).bind fun r4 =>
    (V.cat v2 r4).bind fun v3 =>
    (V.cat v3 (⟨#[32]⟩ : ByteArray)).bind fun v4 =>
    (dump_dash x3.On).bind fun r5 =>
    (V.cat v4 r5).bind fun v5 =>
    (V.ap 16 l2 [v5]).bind fun l6 =>
    dump_Diff.l1 cs l4 (k + 1) l6
   else
    dump_Diff.l1 cs l4 (k + 1) l2
def dump_Diff.l2 (bs : List T_api_Bound) : List T_api_Bound → Nat → (List ByteArray) → Option (List ByteArray)
 | [], k2, l11 => some l11
 | x4 :: l13, k2, l11 =>
  (yard_Place bs x4.Pod.Name).bind fun r9 =>
  if (decide (r9 < 0)) = true then
   (V.cat (⟨#[43, 32]⟩ : ByteArray) x4.Pod.Name).bind fun v10 =>
   (V.ap 16 l11 [v10]).bind fun l14 =>
   dump_Diff.l2 bs l13 (k2 + 1) l14
  else
   dump_Diff.l2 bs l13 (k2 + 1) l11
def dump_Diff (ms : List T_api_Machine) (bs : List T_api_Bound) (ns : List T_api_Machine) (cs : List T_api_Bound) : Option (List ByteArray) :=
 (dump_Diff_1 ms ns (⟨#[45, 32]⟩ : ByteArray) ([] : List ByteArray)).bind fun r =>
 (dump_Diff_1 ns ms (⟨#[43, 32]⟩ : ByteArray) r).bind fun r2 =>
 (dump_Diff.l1 cs bs 0 r2).bind fun l32 =>
 (dump_Diff.l2 bs cs 0 l32).bind fun l122 =>
 some l122
theorem K29 (ms : List T_api_Machine) (bs : List T_api_Bound) (ns : List T_api_Machine) (cs : List T_api_Bound) : VS2 Tryz.prog 39 (dump_Diff ms bs ns cs) [L41 ms, L121 bs, L41 ns, L121 cs] [] (fun r ob0 cap0=>Z9 ob0 r cap0) (fun r ob0 cap0=>[Q9 ob0 cap0 r]) := by
 refine Dn [.tmp 8] Tryz.func39 R R R fun r hm=>?_
 unfold dump_Diff at hm
 refine Af tbk [] R R<|Ah<|Ad R R<|Bg z65 fun b=>Ac<|Ah<|Aa R R (Cm R R)<|Aa R R (Aj R)<|Ac<|Ah<|Ab tbk [] 3 R R<|A3 (A9 9)<|A3 (Bf [1,0] R)<|Ad R R<|Dd hm 2 R fn102 R (K24 _ _ _ _ _ _ _) fun r ob cap hm=>Ac<|Ah<|Ab tbk [] 3 R R<|Ad R R<|Dd hm 2 R fn102 R (K24 _ _ _ _ _ _ _) fun r2 ob2 cap2 hm=>Ac<|Ae<|Ah<|Aa R R (Ak R)<|Aa R R (A5 T_api_Bound.vv R Bz)<|Aa R R (Ak R)<|Ac<|Ck 1 R fun h7=>Cp hm (fun _ (gg:Option Nat × Nat)=>[(1,L121 bs),(3,L121 cs),(9,.ptr b 0)]) (fun l32 (gg:Option Nat × Nat)=>[.box b 65 [Z9 gg.1 l32 gg.2],Q9 gg.1 gg.2 l32]) (fun o hm=>?_) fun l32=>Pq fun ob5 cap5 hm=> ?_
 ·refine Cz (bs) (fun zl zk (zs:List ByteArray)=>dump_Diff.l1 cs zl zk zs) (fun k _ (_:Option Nat × Nat)=>[(1,L121 bs),(3,L121 cs),(9,.ptr b 0),(25,L121 bs),(26,Iw (bs.length : Int)),(27,Iw (k : Int))]) (fun _ zs (zg:Option Nat × Nat)=>[.box b 65 [Z9 zg.1 zs zg.2],Q9 zg.1 zg.2 zs]) _ (ob2,cap2) hm (Ag [0,1] R R) (fun k l2=>Pq fun ob4 cap4 hk hm=>?_) fun k x l4 l2=>Pq fun ob4 cap4 h8 hm=> ?_
  ·rw [dump_Diff.l1] at hm
   exact Af tbk [] R R<|Ae<|Cb R (k_end hk)<|Ba<|As (ob4,cap4) hm (Ag [0,1] R R)
  rw [dump_Diff.l1] at hm
  refine Af tbk [] R R<|Ae<|Br R (k_lt h8)<|Ai<|Ae<|A1<|Ah<|Aa R R (Ct T_api_Bound.vv R R el55 h8)<|Aa R R (Bl R ld121 R)<|Ad R R<|Bg z121 fun b2=>Ad R R<|Ao (i:=0) R R R ld121 R R R<|Ac<|Ah<|Ab tbk [0] 4 R R<|Ad R R<|A0 hm 0 R fn104 R (K27 _ _) fun r3 hm=>Aa R R (Aj R)<|Ac<|A1<|Af tbk [] R R<|Am hm R (fun h11 hm=>Be<|Ab tbk [1,0] 4 R R<|Bd hm fun v h12 hm=>Aa R R (A8 R R h12)<|Ad R R<|Ax ap65 R R R R R fun b3=>Bd hm fun l5 h14 hm=>Ad R R<|Bu 3 VV.str (l:=l2) (l2:=[v]) ap65 R R (sT_row 0 VV.str el65 R R) h14 fun ob6 cap6=>Ad R R<|Ao (i:=2) R R R ld65 R R R<|Ac<|Bb tbk [] R R<|Ap _ (ob6,cap6) hm (Bv [2,3] R ⟨R,R,R,R,R,congrArg some (k_next h8 h7),trivial⟩)) fun h11 hm=>Ae<|A4 0 mixed<|An tbk [0,1] [] (by kernel_rfl) R R R<|Bd hm fun x2 h15 hm=>Aq 2 R R R (by kernel_rfl) (A2 T_api_Bound.vv R R el55 h15)<|An tbk [3,4,5,6,7,8] [0] (by kernel_rfl) R R R<|Ay (by kernel_rfl)<|Am hm R (fun h16 hm=>?_) fun h16 hm=> ?_
  ·refine Bi (Bf [1,2,0] R)<|A4 2 mixed<|An tbk [1,2,3] [0] (by kernel_rfl) R R R<|Bd hm fun v2 h17 hm=>Aq 4 R R R (by kernel_rfl) (A8 R R h17)<|An tbk [5,6,10,11] [0] (by kernel_rfl) R R R<|Bd hm fun x3 h18 hm=>Aq 12 R R R (by kernel_rfl) (A2 T_api_Bound.vv R R el55 h18)<|An tbk [13,14] [] (by kernel_rfl) R R R<|?_
   refine B6 [0,7] (by kernel_rfl) ⟨?_,?_,trivial⟩
   ·refine Au R R R<|B7 (Bp (i:=0) R R ld65 R)<|Al 7 (by kernel_rfl)<|Bd hm fun r4 h19 hm=>Au R R R<|Aw 0 R fn105 R (K28 x.On r4 h19) fun _ _ h27=> ?_
    obtain ⟨rfl,rfl⟩:=h27
    refine Bd hm fun v3 h20 hm=>Aq 8 R R R (by kernel_rfl) (A8 R R h20)<|Bd hm fun v4 h21 hm=>Aq 9 R R R (by kernel_rfl) (A8 R R h21)<|Al 15 (by kernel_rfl)<|Bd hm fun r5 h22 hm=>Au R R R<|Aw 0 R fn105 R (K28 x3.On r5 h22) fun _ _ h26=> ?_
    obtain ⟨rfl,rfl⟩:=h26
    exact Bd hm fun v5 h23 hm=>Aq 16 R R R (by kernel_rfl) (A8 R R h23)<|Al 17 (by kernel_rfl)<|Au R R R<|Ax ap65 R R R R R fun b4=>Al 18 (by kernel_rfl)<|Bd hm fun l6 h25 hm=>Au R R R<|Bu 2 VV.str (l:=l2) (l2:=[v5]) ap65 R R (sT_row 0 VV.str el65 R R) h25 fun ob7 cap7=>Al 19 (by kernel_rfl)<|Au R R R<|Ao (i:=1) R R R ld65 R R R<|Ay (by kernel_rfl)<|Bb tbk [] R R<|Ap _ (ob7,cap7) hm (Bv [1,2] R ⟨R,R,R,R,R,congrArg some (k_next h8 h7),trivial⟩)
   ·refine Bd hm fun r6 h28 hm=>Au R R R<|Aw 0 R fn105 R (K28 x.On r6 h28) fun _ _ h43=> ?_
    obtain ⟨rfl,rfl⟩:=h43
    refine Bd hm fun v6 h29 hm=>Aq 8 R R R (by kernel_rfl) (A8 R R h29)<|Bd hm fun v7 h30 hm=>Aq 9 R R R (by kernel_rfl) (A8 R R h30)<|?_
    refine B6 [0,15] (by kernel_rfl) ⟨?_,?_,trivial⟩
    ·refine Au R R R<|B7 (Bp (i:=0) R R ld65 R)<|Al 15 (by kernel_rfl)<|Bd hm fun r7 h31 hm=>Au R R R<|Aw 0 R fn105 R (K28 x3.On r7 h31) fun _ _ h35=> ?_
     obtain ⟨rfl,rfl⟩:=h35
     exact Bd hm fun v8 h32 hm=>Aq 16 R R R (by kernel_rfl) (A8 R R h32)<|Al 17 (by kernel_rfl)<|Au R R R<|Ax ap65 R R R R R fun b5=>Al 18 (by kernel_rfl)<|Bd hm fun l7 h34 hm=>Au R R R<|Bu 2 VV.str (l:=l2) (l2:=[v8]) ap65 R R (sT_row 0 VV.str el65 R R) h34 fun ob8 cap8=>Al 19 (by kernel_rfl)<|Au R R R<|Ao (i:=1) R R R ld65 R R R<|Ay (by kernel_rfl)<|Bb tbk [] R R<|Ap _ (ob8,cap8) hm (Bv [1,2] R ⟨R,R,R,R,R,congrArg some (k_next h8 h7),trivial⟩)
    ·refine Bd hm fun r8 h36 hm=>Au R R R<|Aw 0 R fn105 R (K28 x3.On r8 h36) fun _ _ h42=> ?_
     obtain ⟨rfl,rfl⟩:=h42
     refine Bd hm fun v9 h37 hm=>Aq 16 R R R (by kernel_rfl) (A8 R R h37)<|?_
     refine B6 [0,17] (by kernel_rfl) ⟨?_,?_,trivial⟩
     ·exact Au R R R<|B7 (Bp (i:=0) R R ld65 R)<|Al 17 (by kernel_rfl)<|Au R R R<|Ax ap65 R R R R R fun b6=>Al 18 (by kernel_rfl)<|Bd hm fun l8 h39 hm=>Au R R R<|Bu 2 VV.str (l:=l2) (l2:=[v9]) ap65 R R (sT_row 0 VV.str el65 R R) h39 fun ob9 cap9=>Al 19 (by kernel_rfl)<|Au R R R<|Ao (i:=1) R R R ld65 R R R<|Ay (by kernel_rfl)<|Bb tbk [] R R<|Ap _ (ob9,cap9) hm (Bv [1,2] R ⟨R,R,R,R,R,congrArg some (k_next h8 h7),trivial⟩)
     ·exact Au R R R<|Ax ap65 R R R R R fun b7=>Al 0 (by kernel_rfl)<|Au R R R<|B7 (Bp (i:=1) R R ld65 R)<|Al 18 (by kernel_rfl)<|Bd hm fun l9 h41 hm=>Au R R R<|Bu 2 VV.str (l:=l2) (l2:=[v9]) ap65 R R (sT_row 0 VV.str el65 R R) h41 fun ob10 cap10=>Al 19 (by kernel_rfl)<|Au R R R<|Ao (i:=1) R R R ld65 R R R<|Ay (by kernel_rfl)<|Bb tbk [] R R<|Ap _ (ob10,cap10) hm (Bv [1,2] R ⟨R,R,R,R,R,congrArg some (k_next h8 h7),trivial⟩)
  exact Ai<|Bb tbk [] R R<|Ap _ (ob4,cap4) hm (Bv [1,2] R ⟨R,R,R,R,R,congrArg some (k_next h8 h7),trivial⟩)
 refine Ae<|Ah<|Aa R R (Ak R)<|Aa R R (A5 T_api_Bound.vv R Bz)<|Aa R R (Ak R)<|Ac<|Ck 75 R fun h46=>Cp hm (fun _ (gg:Option Nat × Nat)=>[(9,.ptr b 0)]) (fun l122 (gg:Option Nat × Nat)=>[.box b 65 [Z9 gg.1 l122 gg.2],Q9 gg.1 gg.2 l122]) (fun o2 hm=>?_) fun l122=>Pq fun ob13 cap13 hm=> ?_
 ·refine Cz (cs) (fun zl zk (zs:List ByteArray)=>dump_Diff.l2 bs zl zk zs) (fun k2 _ (_:Option Nat × Nat)=>[(1,L121 bs),(9,.ptr b 0),(75,L121 cs),(76,Iw (cs.length : Int)),(77,Iw (k2 : Int))]) (fun _ zs (zg:Option Nat × Nat)=>[.box b 65 [Z9 zg.1 zs zg.2],Q9 zg.1 zg.2 zs]) _ (ob5,cap5) hm (Ag [0,1] R R) (fun k2 l11=>Pq fun ob12 cap12 hk hm=>?_) fun k2 x4 l13 l11=>Pq fun ob12 cap12 h47 hm=> ?_
  ·rw [dump_Diff.l2] at hm
   exact Af tbk [] R R<|Ae<|Cb R (k_end hk)<|Ba<|As (ob12,cap12) hm (Ag [0,1] R R)
  rw [dump_Diff.l2] at hm
  exact Af tbk [] R R<|Ae<|Br R (k_lt h47)<|Ai<|Ae<|A1<|Ah<|Aa R R (Ct T_api_Bound.vv R R el55 h47)<|Aa R R (Bl R ld121 R)<|Ad R R<|Bg z121 fun b8=>Ad R R<|Ao (i:=0) R R R ld121 R R R<|Ac<|Ah<|Ab tbk [0] 4 R R<|Ad R R<|A0 hm 0 R fn104 R (K27 _ _) fun r9 hm=>Aa R R (Bc R R R)<|Ac<|Am hm R (fun h50 hm=>Be<|Ab tbk [1,0] 4 R R<|Bd hm fun v10 h51 hm=>Aa R R (A8 R R h51)<|Ad R R<|Ax ap65 R R R R R fun b9=>Bd hm fun l14 h53 hm=>Ad R R<|Bu 3 VV.str (l:=l11) (l2:=[v10]) ap65 R R (sT_row 0 VV.str el65 R R) h53 fun ob14 cap14=>Ad R R<|Ao (i:=2) R R R ld65 R R R<|Ac<|Bb tbk [] R R<|Ap _ (ob14,cap14) hm (Bv [2,3] R ⟨R,R,R,R,congrArg some (k_next h47 h46),trivial⟩)) fun h50 hm=>Ai<|Bb tbk [] R R<|Ap _ (ob12,cap12) hm (Bv [1,2] R ⟨R,R,R,R,congrArg some (k_next h47 h46),trivial⟩)
 exact Af tbk [0] R R<|Rg2 hm R [1] ob13 cap13 (.cons (.tmp _ _ R) .nil) R R

/-! trireme/triremeref09.Texts -/
def ref09_Texts.l1 (a : List ByteArray) (b : List ByteArray) : Nat → Int → Option (Out Bool Unit)
 | 0, _ => none
 | n + 1, i2 =>
  if (decide (i2 < (a.length : Int))) = true then
   (V.gl a i2).bind fun x =>
   (V.gl b i2).bind fun x2 =>
   if (!(V.seq x x2)) = true then
    some (Out.ret false)
   else
    ref09_Texts.l1 a b n (i64.wrap (i2 + 1))
  else
   some (Out.go ())
def ref09_Texts (a : List ByteArray) (b : List ByteArray) : Option Bool :=
 if ((a.length : Int) != (b.length : Int)) = true then
  some false
 else
  (ref09_Texts.l1 a b FU (0 : Int)).bind fun o =>
  o.on fun j =>
  some true
theorem K30 (a : List ByteArray) (b : List ByteArray) : VS Tryz.prog 40 (ref09_Texts a b) [L9 a, L9 b] [] .bool N0 := by
 refine A6 [.tmp 4] Tryz.func40 R R R fun r hm=>?_
 unfold ref09_Texts at hm
 refine Af tbk [] R R<|Ae<|Ah<|Aa R R (Ak R)<|Aa R R (A5 VV.str R B0)<|Aa R R (Ak R)<|Aa R R (A5 VV.str R B0)<|Aa R R (Bc R R R)<|Ac<|Am hm R (fun h1 hm=>Af tbk [] R R<|Rt1 hm R [] R R R) fun h1 hm=>Ai<|Ae<|Af tbk [] R R<|B2 hm (fun _ (_:Unit)=>[]) (fun _ (_:Unit)=>[]) (fun o hm h3=>?_) fun j _ hm=> ?_
 ·refine B3 (fun zn (zs:Int)=>ref09_Texts.l1 a b zn zs) (fun zs (_:Unit)=>[(0,L9 a),(1,L9 b),(5,Iw zs)]) (fun _ (_:Unit)=>[]) _ () (fun _=>R) hm (Ag [] R R) fun n i2 _ hm=> ?_
  rw [ref09_Texts.l1] at hm
  exact Ae<|Ah<|Ab tbk [] 2 R R<|Aa R R (A5 VV.str R B0)<|Aa R R (Bc R R R)<|Ac<|Am hm R (fun h4 hm=>Ai<|Ae<|A1<|Ae<|A4 0 mixed<|An tbk [0,1] [] (by kernel_rfl) R R R<|Bd hm fun x h5 hm=>Aq 2 R R R (by kernel_rfl) (A2 VV.str R R el65 h5)<|An tbk [3,4,5] [] (by kernel_rfl) R R R<|Bd hm fun x2 h6 hm=>Aq 6 R R R (by kernel_rfl) (A2 VV.str R R el65 h6)<|An tbk [7,8] [] (by kernel_rfl) R R R<|Ay (by kernel_rfl)<|Am hm R (fun h7 hm=>Af tbk [] R R<|have hm:=Lr hm h3;Rt1 hm R [] R R R) fun h7 hm=>Ai<|Bb tbk [] R R<|Ap _ () hm (Ag [] R R)) fun h4 hm=>Ba<|Ar () hm (Ag [] R R)
 exact Af tbk [] R R<|Rt1 hm R [] R R R

/-! trireme/triremelaw34.known -/
def law34_known : Option Bool :=
 (dump_Show [(⟨(⟨#[109]⟩ : ByteArray), (⟨#[103]⟩ : ByteArray), (⟨0, 0, 0, 0, 0⟩ : T_api_Res), ([] : List T_api_Label), ([] : List T_api_Taint), true⟩ : T_api_Machine), (⟨(⟨#[110]⟩ : ByteArray), (⟨#[]⟩ : ByteArray), (⟨0, 0, 0, 0, 0⟩ : T_api_Res), ([] : List T_api_Label), ([] : List T_api_Taint), false⟩ : T_api_Machine)] [(⟨(⟨(⟨#[112]⟩ : ByteArray), (⟨0, 0, 0, 1, 0⟩ : T_api_Res), ([] : List T_api_Label), ([] : List T_api_Label), ([] : List T_api_Term), ([] : List T_api_Toleration), ([] : List Int), ([] : List T_api_Label), false, ([] : List T_api_Label), 0, 0, (⟨#[]⟩ : ByteArray), false, false, false⟩ : T_api_Pod), (⟨#[109]⟩ : ByteArray)⟩ : T_api_Bound)]).bind fun r =>
 (dump_Parse r).bind fun r2 =>
 (dump_Parse (⟨#[40, 111, 110, 32, 120, 41]⟩ : ByteArray)).bind fun r3 =>
 (if ((V.seq r (⟨#[40, 109, 97, 99, 104, 105, 110, 101, 32, 109, 32, 40, 103, 114, 111, 117, 112, 32, 103, 41, 32, 40, 104, 97, 115, 32, 48, 32, 48, 32, 48, 32, 48, 32, 48, 41, 32, 114, 101, 97, 100, 121, 41, 10, 40, 109, 97, 99, 104, 105, 110, 101, 32, 110, 32, 40, 104, 97, 115, 32, 48, 32, 48, 32, 48, 32, 48, 32, 48, 41, 41, 10, 40, 111, 110, 32, 109, 32, 40, 112, 111, 100, 32, 112, 32, 40, 110, 101, 101, 100, 32, 48, 32, 48, 32, 48, 32, 48, 41, 41, 41, 10]⟩ : ByteArray)) && (r2.2.2.1 == 0)) = true then (ref09_Same r2.1 r2.2.1 [(⟨(⟨#[109]⟩ : ByteArray), (⟨#[103]⟩ : ByteArray), (⟨0, 0, 0, 0, 0⟩ : T_api_Res), ([] : List T_api_Label), ([] : List T_api_Taint), true⟩ : T_api_Machine), (⟨(⟨#[110]⟩ : ByteArray), (⟨#[]⟩ : ByteArray), (⟨0, 0, 0, 0, 0⟩ : T_api_Res), ([] : List T_api_Label), ([] : List T_api_Taint), false⟩ : T_api_Machine)] [(⟨(⟨(⟨#[112]⟩ : ByteArray), (⟨0, 0, 0, 1, 0⟩ : T_api_Res), ([] : List T_api_Label), ([] : List T_api_Label), ([] : List T_api_Term), ([] : List T_api_Toleration), ([] : List Int), ([] : List T_api_Label), false, ([] : List T_api_Label), 0, 0, (⟨#[]⟩ : ByteArray), false, false, false⟩ : T_api_Pod), (⟨#[109]⟩ : ByteArray)⟩ : T_api_Bound)]).bind fun r10 =>
 some r10 else some false).bind fun c5 =>
 (if ((c5 && (r3.2.2.1 == 12)) && (r3.2.2.2 == 0)) = true then (dump_Diff [(⟨(⟨#[109]⟩ : ByteArray), (⟨#[103]⟩ : ByteArray), (⟨0, 0, 0, 0, 0⟩ : T_api_Res), ([] : List T_api_Label), ([] : List T_api_Taint), true⟩ : T_api_Machine), (⟨(⟨#[110]⟩ : ByteArray), (⟨#[]⟩ : ByteArray), (⟨0, 0, 0, 0, 0⟩ : T_api_Res), ([] : List T_api_Label), ([] : List T_api_Taint), false⟩ : T_api_Machine)] [(⟨(⟨(⟨#[112]⟩ : ByteArray), (⟨0, 0, 0, 1, 0⟩ : T_api_Res), ([] : List T_api_Label), ([] : List T_api_Label), ([] : List T_api_Term), ([] : List T_api_Toleration), ([] : List Int), ([] : List T_api_Label), false, ([] : List T_api_Label), 0, 0, (⟨#[]⟩ : ByteArray), false, false, false⟩ : T_api_Pod), (⟨#[109]⟩ : ByteArray)⟩ : T_api_Bound)] [(⟨(⟨#[109]⟩ : ByteArray), (⟨#[103]⟩ : ByteArray), (⟨0, 0, 0, 0, 0⟩ : T_api_Res), ([] : List T_api_Label), ([] : List T_api_Taint), true⟩ : T_api_Machine), (⟨(⟨#[110]⟩ : ByteArray), (⟨#[]⟩ : ByteArray), (⟨0, 0, 0, 0, 0⟩ : T_api_Res), ([] : List T_api_Label), ([] : List T_api_Taint), false⟩ : T_api_Machine)] [(⟨(⟨(⟨#[112]⟩ : ByteArray), (⟨0, 0, 0, 1, 0⟩ : T_api_Res), ([] : List T_api_Label), ([] : List T_api_Label), ([] : List T_api_Term), ([] : List T_api_Toleration), ([] : List Int), ([] : List T_api_Label), false, ([] : List T_api_Label), 0, 0, (⟨#[]⟩ : ByteArray), false, false, false⟩ : T_api_Pod), (⟨#[110]⟩ : ByteArray)⟩ : T_api_Bound)]).bind fun r11 =>
 (ref09_Texts r11 [(⟨#[112, 32, 109, 32, 110]⟩ : ByteArray)]).bind fun r12 =>
 some r12 else some false).bind fun c6 =>
 (if c6 = true then (dump_Show [(⟨(⟨#[109]⟩ : ByteArray), (⟨#[103]⟩ : ByteArray), (⟨0, 0, 0, 0, 0⟩ : T_api_Res), ([] : List T_api_Label), ([] : List T_api_Taint), true⟩ : T_api_Machine), (⟨(⟨#[110]⟩ : ByteArray), (⟨#[]⟩ : ByteArray), (⟨0, 0, 0, 0, 0⟩ : T_api_Res), ([] : List T_api_Label), ([] : List T_api_Taint), false⟩ : T_api_Machine)] [(⟨(⟨(⟨#[]⟩ : ByteArray), (⟨0, 0, 0, 0, 0⟩ : T_api_Res), ([] : List T_api_Label), ([] : List T_api_Label), ([] : List T_api_Term), ([] : List T_api_Toleration), ([] : List Int), ([] : List T_api_Label), false, ([] : List T_api_Label), 0, 0, (⟨#[]⟩ : ByteArray), false, false, false⟩ : T_api_Pod), (⟨#[]⟩ : ByteArray)⟩ : T_api_Bound)]).bind fun r13 =>
 some (V.seq r13 (⟨#[]⟩ : ByteArray)) else some false).bind fun c7 =>
 some c7
theorem K31 : VS Tryz.prog 32 (law34_known) [] [] .bool N0 := by
 refine A6 [.tmp 0] Tryz.func32 R R R fun r hm=>?_
 unfold law34_known at hm
 refine Af tbk [] R R<|Ah<|Aa R R (A7 pl41 R R)<|Aa R R (A7 pl41 R R)<|A3 (Bk (A9 141) (Bk (Az 0 [(14,.agg [.str (⟨#[109]⟩ : ByteArray),.str (⟨#[103]⟩ : ByteArray),Iw (0 : Int),Iw (0 : Int),Iw (0 : Int),Iw (0 : Int),Iw (0 : Int),L141 ([] : List T_api_Label),.sl none 0 0,.bool true])] R ⟨⟨_,R,.aggL ⟨.same _,.same _,.same _,.same _,.same _,.same _,.same _,.here _ R,.same _,.same _,trivial⟩⟩,trivial⟩ (FzH.refl _)) (Bk (A9 143) (Bk (Az 0 [(14,T_api_Machine.vv (⟨(⟨#[109]⟩ : ByteArray),(⟨#[103]⟩ : ByteArray),(⟨(0 : Int),(0 : Int),(0 : Int),(0 : Int),(0 : Int)⟩ : T_api_Res),([] : List T_api_Label),([] : List T_api_Taint),true⟩ : T_api_Machine))] R ⟨⟨_,R,.aggL ⟨.same _,.same _,.same _,.same _,.same _,.same _,.same _,.same _,.here _ R,.same _,trivial⟩⟩,trivial⟩ (FzH.refl _)) (Bk (A9 141) (Bk (Az 0 [(15,.agg [.str (⟨#[110]⟩ : ByteArray),.str (⟨#[]⟩ : ByteArray),Iw (0 : Int),Iw (0 : Int),Iw (0 : Int),Iw (0 : Int),Iw (0 : Int),L141 ([] : List T_api_Label),.sl none 0 0,.bool false])] R ⟨⟨_,R,.aggL ⟨.same _,.same _,.same _,.same _,.same _,.same _,.same _,.here _ R,.same _,.same _,trivial⟩⟩,trivial⟩ (FzH.refl _)) (Bk (A9 143) (Az 0 [(15,T_api_Machine.vv (⟨(⟨#[110]⟩ : ByteArray),(⟨#[]⟩ : ByteArray),(⟨(0 : Int),(0 : Int),(0 : Int),(0 : Int),(0 : Int)⟩ : T_api_Res),([] : List T_api_Label),([] : List T_api_Taint),false⟩ : T_api_Machine))] R ⟨⟨_,R,.aggL ⟨.same _,.same _,.same _,.same _,.same _,.same _,.same _,.same _,.here _ R,.same _,trivial⟩⟩,trivial⟩ (FzH.refl _)))))))))<|Ad R R<|Ax ap54 R R R R R fun b=>A3 (Az 0 [(16,L41 [(⟨(⟨#[109]⟩ : ByteArray),(⟨#[103]⟩ : ByteArray),(⟨(0 : Int),(0 : Int),(0 : Int),(0 : Int),(0 : Int)⟩ : T_api_Res),([] : List T_api_Label),([] : List T_api_Taint),true⟩ : T_api_Machine),(⟨(⟨#[110]⟩ : ByteArray),(⟨#[]⟩ : ByteArray),(⟨(0 : Int),(0 : Int),(0 : Int),(0 : Int),(0 : Int)⟩ : T_api_Res),([] : List T_api_Label),([] : List T_api_Taint),false⟩ : T_api_Machine)])] R ⟨⟨_,R,.here _ R⟩,trivial⟩ (FzH.refl _))<|Aa R R (Aj R)<|Ac<|Ah<|Aa R R (A7 pl23 R R)<|Aa R R (A7 pl29 R R)<|Ad R R<|Bg z29 fun b2=>Ad R R<|Ao (i:=0) R R R ld29 R R R<|Ac<|Ah<|Ab tbk [0] 1 R R<|Aa R R (A7 pl121 R R)<|A3 (Bk (A9 141) (Bk (Az 0 [(20,.agg [.str (⟨#[112]⟩ : ByteArray),Iw (0 : Int),Iw (0 : Int),Iw (0 : Int),Iw (1 : Int),Iw (0 : Int),L141 ([] : List T_api_Label),L141 ([] : List T_api_Label),.sl none 0 0,.sl none 0 0,.sl none 0 0,L141 ([] : List T_api_Label),.bool false,L141 ([] : List T_api_Label),Iw (0 : Int),Iw (0 : Int),.str (⟨#[]⟩ : ByteArray),.bool false,.bool false,.bool false,.str (⟨#[109]⟩ : ByteArray)])] R ⟨⟨_,R,.aggL ⟨.same _,.same _,.same _,.same _,.same _,.same _,.here _ R,.here _ R,.same _,.same _,.same _,.here _ R,.same _,.here _ R,.same _,.same _,.same _,.same _,.same _,.same _,.same _,trivial⟩⟩,trivial⟩ (FzH.refl _)) (Bk (A9 73) (Bk (Az 0 [(20,.agg [.str (⟨#[112]⟩ : ByteArray),Iw (0 : Int),Iw (0 : Int),Iw (0 : Int),Iw (1 : Int),Iw (0 : Int),L141 ([] : List T_api_Label),L141 ([] : List T_api_Label),L73 ([] : List T_api_Term),.sl none 0 0,.sl none 0 0,L141 ([] : List T_api_Label),.bool false,L141 ([] : List T_api_Label),Iw (0 : Int),Iw (0 : Int),.str (⟨#[]⟩ : ByteArray),.bool false,.bool false,.bool false,.str (⟨#[109]⟩ : ByteArray)])] R ⟨⟨_,R,.aggL ⟨.same _,.same _,.same _,.same _,.same _,.same _,.same _,.same _,.here _ R,.same _,.same _,.same _,.same _,.same _,.same _,.same _,.same _,.same _,.same _,.same _,.same _,trivial⟩⟩,trivial⟩ (FzH.refl _)) (Bk (A9 83) (Bk (Az 0 [(20,.agg [.str (⟨#[112]⟩ : ByteArray),Iw (0 : Int),Iw (0 : Int),Iw (0 : Int),Iw (1 : Int),Iw (0 : Int),L141 ([] : List T_api_Label),L141 ([] : List T_api_Label),L73 ([] : List T_api_Term),L83 ([] : List T_api_Toleration),.sl none 0 0,L141 ([] : List T_api_Label),.bool false,L141 ([] : List T_api_Label),Iw (0 : Int),Iw (0 : Int),.str (⟨#[]⟩ : ByteArray),.bool false,.bool false,.bool false,.str (⟨#[109]⟩ : ByteArray)])] R ⟨⟨_,R,.aggL ⟨.same _,.same _,.same _,.same _,.same _,.same _,.same _,.same _,.same _,.here _ R,.same _,.same _,.same _,.same _,.same _,.same _,.same _,.same _,.same _,.same _,.same _,trivial⟩⟩,trivial⟩ (FzH.refl _)) (Bk (A9 3) (Az 0 [(20,T_api_Bound.vv (⟨(⟨(⟨#[112]⟩ : ByteArray),(⟨(0 : Int),(0 : Int),(0 : Int),(1 : Int),(0 : Int)⟩ : T_api_Res),([] : List T_api_Label),([] : List T_api_Label),([] : List T_api_Term),([] : List T_api_Toleration),([] : List Int),([] : List T_api_Label),false,([] : List T_api_Label),(0 : Int),(0 : Int),(⟨#[]⟩ : ByteArray),false,false,false⟩ : T_api_Pod),(⟨#[109]⟩ : ByteArray)⟩ : T_api_Bound))] R ⟨⟨_,R,.aggL ⟨.same _,.same _,.same _,.same _,.same _,.same _,.same _,.same _,.same _,.same _,.here _ R,.same _,.same _,.same _,.same _,.same _,.same _,.same _,.same _,.same _,.same _,trivial⟩⟩,trivial⟩ (FzH.refl _)))))))))<|?_
 refine Ad R R<|Ax ap55 R R R R R fun b3=>A3 (Az 0 [(21,L121 [(⟨(⟨(⟨#[112]⟩ : ByteArray),(⟨(0 : Int),(0 : Int),(0 : Int),(1 : Int),(0 : Int)⟩ : T_api_Res),([] : List T_api_Label),([] : List T_api_Label),([] : List T_api_Term),([] : List T_api_Toleration),([] : List Int),([] : List T_api_Label),false,([] : List T_api_Label),(0 : Int),(0 : Int),(⟨#[]⟩ : ByteArray),false,false,false⟩ : T_api_Pod),(⟨#[109]⟩ : ByteArray)⟩ : T_api_Bound)])] R ⟨⟨_,R,.here _ R⟩,trivial⟩ (FzH.refl _))<|Aa R R (Aj R)<|Ac<|Ah<|Ab tbk [0] 1 R R<|Aa R R (A7 pl121 R R)<|A3 (Bk (A9 141) (Bk (Az 0 [(23,.agg [.str (⟨#[112]⟩ : ByteArray),Iw (0 : Int),Iw (0 : Int),Iw (0 : Int),Iw (1 : Int),Iw (0 : Int),L141 ([] : List T_api_Label),L141 ([] : List T_api_Label),.sl none 0 0,.sl none 0 0,.sl none 0 0,L141 ([] : List T_api_Label),.bool false,L141 ([] : List T_api_Label),Iw (0 : Int),Iw (0 : Int),.str (⟨#[]⟩ : ByteArray),.bool false,.bool false,.bool false,.str (⟨#[110]⟩ : ByteArray)])] R ⟨⟨_,R,.aggL ⟨.same _,.same _,.same _,.same _,.same _,.same _,.here _ R,.here _ R,.same _,.same _,.same _,.here _ R,.same _,.here _ R,.same _,.same _,.same _,.same _,.same _,.same _,.same _,trivial⟩⟩,trivial⟩ (FzH.refl _)) (Bk (A9 73) (Bk (Az 0 [(23,.agg [.str (⟨#[112]⟩ : ByteArray),Iw (0 : Int),Iw (0 : Int),Iw (0 : Int),Iw (1 : Int),Iw (0 : Int),L141 ([] : List T_api_Label),L141 ([] : List T_api_Label),L73 ([] : List T_api_Term),.sl none 0 0,.sl none 0 0,L141 ([] : List T_api_Label),.bool false,L141 ([] : List T_api_Label),Iw (0 : Int),Iw (0 : Int),.str (⟨#[]⟩ : ByteArray),.bool false,.bool false,.bool false,.str (⟨#[110]⟩ : ByteArray)])] R ⟨⟨_,R,.aggL ⟨.same _,.same _,.same _,.same _,.same _,.same _,.same _,.same _,.here _ R,.same _,.same _,.same _,.same _,.same _,.same _,.same _,.same _,.same _,.same _,.same _,.same _,trivial⟩⟩,trivial⟩ (FzH.refl _)) (Bk (A9 83) (Bk (Az 0 [(23,.agg [.str (⟨#[112]⟩ : ByteArray),Iw (0 : Int),Iw (0 : Int),Iw (0 : Int),Iw (1 : Int),Iw (0 : Int),L141 ([] : List T_api_Label),L141 ([] : List T_api_Label),L73 ([] : List T_api_Term),L83 ([] : List T_api_Toleration),.sl none 0 0,L141 ([] : List T_api_Label),.bool false,L141 ([] : List T_api_Label),Iw (0 : Int),Iw (0 : Int),.str (⟨#[]⟩ : ByteArray),.bool false,.bool false,.bool false,.str (⟨#[110]⟩ : ByteArray)])] R ⟨⟨_,R,.aggL ⟨.same _,.same _,.same _,.same _,.same _,.same _,.same _,.same _,.same _,.here _ R,.same _,.same _,.same _,.same _,.same _,.same _,.same _,.same _,.same _,.same _,.same _,trivial⟩⟩,trivial⟩ (FzH.refl _)) (Bk (A9 3) (Az 0 [(23,T_api_Bound.vv (⟨(⟨(⟨#[112]⟩ : ByteArray),(⟨(0 : Int),(0 : Int),(0 : Int),(1 : Int),(0 : Int)⟩ : T_api_Res),([] : List T_api_Label),([] : List T_api_Label),([] : List T_api_Term),([] : List T_api_Toleration),([] : List Int),([] : List T_api_Label),false,([] : List T_api_Label),(0 : Int),(0 : Int),(⟨#[]⟩ : ByteArray),false,false,false⟩ : T_api_Pod),(⟨#[110]⟩ : ByteArray)⟩ : T_api_Bound))] R ⟨⟨_,R,.aggL ⟨.same _,.same _,.same _,.same _,.same _,.same _,.same _,.same _,.same _,.same _,.here _ R,.same _,.same _,.same _,.same _,.same _,.same _,.same _,.same _,.same _,.same _,trivial⟩⟩,trivial⟩ (FzH.refl _)))))))))<|?_
 refine Ad R R<|Ax ap55 R R R R R fun b4=>A3 (Az 0 [(24,L121 [(⟨(⟨(⟨#[112]⟩ : ByteArray),(⟨(0 : Int),(0 : Int),(0 : Int),(1 : Int),(0 : Int)⟩ : T_api_Res),([] : List T_api_Label),([] : List T_api_Label),([] : List T_api_Term),([] : List T_api_Toleration),([] : List Int),([] : List T_api_Label),false,([] : List T_api_Label),(0 : Int),(0 : Int),(⟨#[]⟩ : ByteArray),false,false,false⟩ : T_api_Pod),(⟨#[110]⟩ : ByteArray)⟩ : T_api_Bound)])] R ⟨⟨_,R,.here _ R⟩,trivial⟩ (FzH.refl _))<|Aa R R (Aj R)<|Ac<|Ah<|Ab tbk [] 2 R R<|Ad R R<|A0 hm 0 R fn33 R (K113 _ _) fun r hm=>Aa R R (Aj R)<|Ac<|Ah<|Aa R R (Ak R)<|Bd hm fun r2 h6 hm=>Ad R R<|Aw 0 R fn36 R (K5 r r2 h6) fun _ _ h57=> ?_
 obtain ⟨ob,cap,ob2,cap2,rfl,rfl⟩:=h57
 refine Ab tbk [] 9 R R<|Ac<|Ah<|Bd hm fun r3 h9 hm=>Ad R R<|Aw 0 R fn36 R (K5 (⟨#[40,111,110,32,120,41]⟩ : ByteArray) r3 h9) fun _ _ h56=> ?_
 obtain ⟨ob3,cap3,ob4,cap4,rfl,rfl⟩:=h56
 refine Ab tbk [] 9 R R<|Ac<|Ae<|Bi (Bk (Az 2 [(31,L41 r2.1),(6,L41 r2.1)] R ⟨⟨_,R,.here _ R⟩,⟨_,R,.here _ R⟩,trivial⟩ (FzH.refl _)) (Az 2 [(32,L121 r2.2.1),(7,L121 r2.2.1)] R ⟨⟨_,R,.here _ R⟩,⟨_,R,.here _ R⟩,trivial⟩ (FzH.refl _)))<|Bi (Bk (A9 141) (Bk (Az (H':=[Q41 ob3 cap3 r3.1,Q121 ob4 cap4 r3.2.1,.box b2 29 [.str (⟨#[112]⟩ : ByteArray),Iw (0 : Int),Iw (0 : Int),Iw (0 : Int),Iw (1 : Int),Iw (0 : Int),L141 ([] : List T_api_Label),L141 ([] : List T_api_Label),.sl none 0 0,.sl none 0 0,.sl none 0 0,L141 ([] : List T_api_Label),.bool false,L141 ([] : List T_api_Label),Iw (0 : Int),Iw (0 : Int),.str (⟨#[]⟩ : ByteArray),.bool false,.bool false,.bool false]]) 0 [] R trivial ⟨.same _,.same _,.box _ _ _ _ ⟨.same _,.same _,.same _,.same _,.same _,.same _,.here _ R,.here _ R,.same _,.same _,.same _,.here _ R,.same _,.here _ R,.same _,.same _,.same _,.same _,.same _,.same _,trivial⟩,trivial⟩) (Bk (A9 73) (Bk (Az (H':=[Q41 ob3 cap3 r3.1,Q121 ob4 cap4 r3.2.1,.box b2 29 [.str (⟨#[112]⟩ : ByteArray),Iw (0 : Int),Iw (0 : Int),Iw (0 : Int),Iw (1 : Int),Iw (0 : Int),L141 ([] : List T_api_Label),L141 ([] : List T_api_Label),L73 ([] : List T_api_Term),.sl none 0 0,.sl none 0 0,L141 ([] : List T_api_Label),.bool false,L141 ([] : List T_api_Label),Iw (0 : Int),Iw (0 : Int),.str (⟨#[]⟩ : ByteArray),.bool false,.bool false,.bool false]]) 0 [] R trivial ⟨.same _,.same _,.box _ _ _ _ ⟨.same _,.same _,.same _,.same _,.same _,.same _,.same _,.same _,.here _ R,.same _,.same _,.same _,.same _,.same _,.same _,.same _,.same _,.same _,.same _,.same _,trivial⟩,trivial⟩) (Bk (A9 83) (Bk (Az (H':=[Q41 ob3 cap3 r3.1,Q121 ob4 cap4 r3.2.1,.box b2 29 [.str (⟨#[112]⟩ : ByteArray),Iw (0 : Int),Iw (0 : Int),Iw (0 : Int),Iw (1 : Int),Iw (0 : Int),L141 ([] : List T_api_Label),L141 ([] : List T_api_Label),L73 ([] : List T_api_Term),L83 ([] : List T_api_Toleration),.sl none 0 0,L141 ([] : List T_api_Label),.bool false,L141 ([] : List T_api_Label),Iw (0 : Int),Iw (0 : Int),.str (⟨#[]⟩ : ByteArray),.bool false,.bool false,.bool false]]) 0 [] R trivial ⟨.same _,.same _,.box _ _ _ _ ⟨.same _,.same _,.same _,.same _,.same _,.same _,.same _,.same _,.same _,.here _ R,.same _,.same _,.same _,.same _,.same _,.same _,.same _,.same _,.same _,.same _,trivial⟩,trivial⟩) (Bk (A9 3) (Az (H':=[Q41 ob3 cap3 r3.1,Q121 ob4 cap4 r3.2.1,X29 b2 (⟨(⟨#[112]⟩ : ByteArray),(⟨(0 : Int),(0 : Int),(0 : Int),(1 : Int),(0 : Int)⟩ : T_api_Res),([] : List T_api_Label),([] : List T_api_Label),([] : List T_api_Term),([] : List T_api_Toleration),([] : List Int),([] : List T_api_Label),false,([] : List T_api_Label),(0 : Int),(0 : Int),(⟨#[]⟩ : ByteArray),false,false,false⟩ : T_api_Pod)]) 0 [] R trivial ⟨.same _,.same _,.box _ _ _ _ ⟨.same _,.same _,.same _,.same _,.same _,.same _,.same _,.same _,.same _,.same _,.here _ R,.same _,.same _,.same _,.same _,.same _,.same _,.same _,.same _,.same _,trivial⟩,trivial⟩))))))))<|?_
 exact Be<|Ab tbk [] 3 R R<|Ce tbk [] 3 46 43 R R R R R<|Aa R R (Ak R)<|Bt hm 6 53 47 R (fun _ K' h41 J hm=>Ab tbk [] 4 R R<|Bm R R R R R<|A0 hm 0 R fn37 R (K20 _ _ _ _) fun r10 hm=>Aa R R (Bh true R R R)<|J 5 R R (Bj hm)) (fun _ K' h41 J hm=>Ab tbk [] 6 R R<|J 5 R R (Bj hm)) fun c5 hm=>Aa R R (Ak R)<|Ce tbk [] 3 57 54 R R R R R<|Aa R R (Ak R)<|Ce tbk [] 3 61 58 R R R R R<|Aa R R (Ak R)<|Bt hm 8 70 62 R (fun _ K' h46 J hm=>Ab tbk [] 4 R R<|Bm R R R R R<|Dd hm 0 R fn39 R (K29 _ _ _ _) fun r11 ob7 cap7 hm=>A3 (Az 0 [(67,L9 r11)] R ⟨⟨_,R,.here _ R⟩,trivial⟩ (FzH.refl _))<|Bm R R R R R<|Ax ap65 R R R R R fun b7=>A3 (Az 0 [(68,L9 [(⟨#[112,32,109,32,110]⟩ : ByteArray)])] R ⟨⟨_,R,.here _ R⟩,trivial⟩ (FzH.refl _))<|Bm R R R R R<|A0 hm 0 R fn40 R (K30 _ _) fun r12 hm=>Aa R R (Bh true R R R)<|J 9 R R (Bj hm)) (fun _ K' h46 J hm=>Ab tbk [] 8 R R<|J 7 R R (Bj hm)) fun c6 hm=>Aa R R (Ak R)<|Bt hm 6 77 71 R (fun _ K' h52 J hm=>Bo R R R R R (Ak R)<|Bo R R R R R (VP.nl (.agg [none,none,none,none,none,none,some 141,some 141,some 73,some 83,some 3,some 141,none,some 141]) (A7 pl121 R R) R)<|Bm R R R R R<|Ax ap55 R R R R R fun b8=>A3 (Az 0 [(74,L121 [(⟨(⟨(⟨#[]⟩ : ByteArray),(⟨(0 : Int),(0 : Int),(0 : Int),(0 : Int),(0 : Int)⟩ : T_api_Res),([] : List T_api_Label),([] : List T_api_Label),([] : List T_api_Term),([] : List T_api_Toleration),([] : List Int),([] : List T_api_Label),false,([] : List T_api_Label),(0 : Int),(0 : Int),(⟨#[]⟩ : ByteArray),false,false,false⟩ : T_api_Pod),(⟨#[]⟩ : ByteArray)⟩ : T_api_Bound)])] R ⟨⟨_,R,.here _ R⟩,trivial⟩ (FzH.refl _))<|Bm R R R R R<|A0 hm 0 R fn33 R (K113 _ _) fun r13 hm=>Ab tbk [] 2 R R<|J 6 R R (Bj hm)) (fun _ K' h52 J hm=>Ab tbk [] 6 R R<|J 5 R R (Bj hm)) fun c7 hm=>Aa R R (Aj R)<|Ac<|Rt1 hm R [] R R R

/-! trireme/triremeref34.dash -/
def ref34_dash (s : ByteArray) : Option ByteArray :=
 if (V.seq s (⟨#[]⟩ : ByteArray)) = true then
  some (⟨#[45]⟩ : ByteArray)
 else
  some s
theorem K32 (s : ByteArray) : VS Tryz.prog 106 (ref34_dash s) [.str s] [] .str N0 := by
 refine A6 [.tmp 2] Tryz.func106 R R R fun r hm=>?_
 unfold ref34_dash at hm
 exact Af tbk [] R R<|Ae<|Af tbk [] R R<|Am hm R (fun h1 hm=>Af tbk [] R R<|Rt1 hm R [] R R R) fun h1 hm=>Ai<|Af tbk [] R R<|Rt1 hm R [] R R R

/-! trireme/triremeref34.Diff -/
def ref34_Diff.l1 (ms : List T_api_Machine) (ns : List T_api_Machine) : Nat → (List ByteArray) → Int → Option (List ByteArray)
 | 0, _, _ => none
 | n + 1, out2, i2 =>
  if (decide (i2 < (ms.length : Int))) = true then
   (V.gl ms i2).bind fun x =>
   (ref09_Find ns x.Name).bind fun r =>
   if (decide (r < 0)) = true then
    (V.gl ms i2).bind fun x2 =>
    (V.cat (⟨#[45, 32]⟩ : ByteArray) x2.Name).bind fun v =>
    (V.ap 16 out2 [v]).bind fun out4 =>
    ref34_Diff.l1 ms ns n out4 (i64.wrap (i2 + 1))
   else
    ref34_Diff.l1 ms ns n out2 (i64.wrap (i2 + 1))
  else
   some out2
def ref34_Diff.l2 (ms : List T_api_Machine) (ns : List T_api_Machine) : Nat → (List ByteArray) → Int → Option (List ByteArray)
 | 0, _, _ => none
 | n2 + 1, out6, i4 =>
  if (decide (i4 < (ns.length : Int))) = true then
   (V.gl ns i4).bind fun x3 =>
   (ref09_Find ms x3.Name).bind fun r2 =>
   if (decide (r2 < 0)) = true then
    (V.gl ns i4).bind fun x4 =>
    (V.cat (⟨#[43, 32]⟩ : ByteArray) x4.Name).bind fun v2 =>
    (V.ap 16 out6 [v2]).bind fun out8 =>
    ref34_Diff.l2 ms ns n2 out8 (i64.wrap (i4 + 1))
   else
    ref34_Diff.l2 ms ns n2 out6 (i64.wrap (i4 + 1))
  else
   some out6
def ref34_Diff.l3 (bs : List T_api_Bound) (cs : List T_api_Bound) : Nat → (List ByteArray) → Int → Option (List ByteArray)
 | 0, _, _ => none
 | n3 + 1, out10, i6 =>
  if (decide (i6 < (bs.length : Int))) = true then
   (V.gl bs i6).bind fun x5 =>
   (ref09_Place cs x5.Pod.Name).bind fun r3 =>
   if (decide (r3 < 0)) = true then
    (V.gl bs i6).bind fun x6 =>
    (V.cat (⟨#[45, 32]⟩ : ByteArray) x6.Pod.Name).bind fun v3 =>
    (V.ap 16 out10 [v3]).bind fun out12 =>
    ref34_Diff.l3 bs cs n3 out12 (i64.wrap (i6 + 1))
   else
    (V.gl cs r3).bind fun x7 =>
    (V.gl bs i6).bind fun x8 =>
    if (!(V.seq x7.On x8.On)) = true then
     (V.gl bs i6).bind fun x9 =>
     (V.cat x9.Pod.Name (⟨#[32]⟩ : ByteArray)).bind fun v4 =>
     (V.gl bs i6).bind fun x10 =>
     (V.gl cs r3).bind fun x11 =>
     (ref34_dash x10.On).bind fun r4 =>
     (V.cat v4 r4).bind fun v5 =>
     (V.cat v5 (⟨#[32]⟩ : ByteArray)).bind fun v6 =>
     (ref34_dash x11.On).bind fun r5 =>
     (V.cat v6 r5).bind fun v7 =>
     (V.ap 16 out10 [v7]).bind fun out13 =>
     ref34_Diff.l3 bs cs n3 out13 (i64.wrap (i6 + 1))
    else
     ref34_Diff.l3 bs cs n3 out10 (i64.wrap (i6 + 1))
  else
   some out10
def ref34_Diff.l4 (bs : List T_api_Bound) (cs : List T_api_Bound) : Nat → (List ByteArray) → Int → Option (List ByteArray)
 | 0, _, _ => none
 | n4 + 1, out15, i8 =>
  if (decide (i8 < (cs.length : Int))) = true then
   (V.gl cs i8).bind fun x12 =>
   (ref09_Place bs x12.Pod.Name).bind fun r6 =>
   if (decide (r6 < 0)) = true then
    (V.gl cs i8).bind fun x13 =>
    (V.cat (⟨#[43, 32]⟩ : ByteArray) x13.Pod.Name).bind fun v8 =>
    (V.ap 16 out15 [v8]).bind fun out17 =>
    ref34_Diff.l4 bs cs n4 out17 (i64.wrap (i8 + 1))
   else
    ref34_Diff.l4 bs cs n4 out15 (i64.wrap (i8 + 1))
  else
   some out15
def ref34_Diff (ms : List T_api_Machine) (bs : List T_api_Bound) (ns : List T_api_Machine) (cs : List T_api_Bound) : Option (List ByteArray) :=
 (ref34_Diff.l1 ms ns FU ([] : List ByteArray) (0 : Int)).bind fun out32 =>
 (ref34_Diff.l2 ms ns FU out32 (0 : Int)).bind fun out72 =>
 (ref34_Diff.l3 bs cs FU out72 (0 : Int)).bind fun out112 =>
 (ref34_Diff.l4 bs cs FU out112 (0 : Int)).bind fun out162 =>
 some out162
theorem K33 (ms : List T_api_Machine) (bs : List T_api_Bound) (ns : List T_api_Machine) (cs : List T_api_Bound) : VS2 Tryz.prog 41 (ref34_Diff ms bs ns cs) [L41 ms, L121 bs, L41 ns, L121 cs] [] (fun r ob0 cap0=>Z9 ob0 r cap0) (fun r ob0 cap0=>[Q9 ob0 cap0 r]) := by
 refine Dn [.tmp 8] Tryz.func41 R R R fun r hm=>?_
 unfold ref34_Diff at hm
 refine Af tbk [] R R<|Af tbk [] R R<|Ae<|Af tbk [] R R<|Cp hm (fun out32 (gg:Option Nat × Nat)=>[(0,L41 ms),(1,L121 bs),(2,L41 ns),(3,L121 cs),(9,Z9 gg.1 out32 gg.2)]) (fun out32 (gg:Option Nat × Nat)=>[Q9 gg.1 gg.2 out32]) (fun o hm=>?_) fun out32=>Pq fun ob3 cap3 hm=> ?_
 ·refine B3 (fun zn (zs:List ByteArray × Int)=>ref34_Diff.l1 ms ns zn zs.1 zs.2) (fun zs (zg:Option Nat × Nat)=>[(0,L41 ms),(1,L121 bs),(2,L41 ns),(3,L121 cs),(9,Z9 zg.1 zs.1 zg.2),(10,Iw zs.2)]) (fun zs (zg:Option Nat × Nat)=>[Q9 zg.1 zg.2 zs.1]) (([] : List ByteArray),(0 : Int)) (none,0) (fun _=>R) hm (Bk (A9 9) (Ag [0] R R)) fun n=>Pq fun out2 i2=>Pq fun ob2 cap2 hm=> ?_
  rw [ref34_Diff.l1] at hm
  exact Ae<|Ah<|Ab tbk [] 2 R R<|Aa R R (A5 T_api_Machine.vv R B5)<|Aa R R (Bc R R R)<|Ac<|Am hm R (fun h5 hm=>Ai<|Ae<|A1<|Ah<|Ab tbk [] 3 R R<|Bd hm fun x h6 hm=>Aa R R (A2 T_api_Machine.vv R R el54 h6)<|Ab tbk [] 2 R R<|Ad R R<|A0 hm 0 R fn93 R (K62 _ _) fun r hm=>Aa R R (Bc R R R)<|Ac<|Am hm R (fun h8 hm=>Be<|Ab tbk [] 3 R R<|Bd hm fun x2 h9 hm=>Aa R R (A2 T_api_Machine.vv R R el54 h9)<|Ab tbk [] 2 R R<|Bd hm fun v h10 hm=>Aa R R (A8 R R h10)<|Ad R R<|Ax ap65 R R R R R fun b=>Bd hm fun out4 h12 hm=>Ad R R<|Bu 1 VV.str (l:=out2) (l2:=[v]) ap65 R R (sT_row 0 VV.str el65 R R) h12 fun ob4 cap4=>Aa R R (Aj R)<|Ac<|Bb tbk [] R R<|Ap (out4,(IntKind.i64.wrap (i2 + (1 : Int)))) (ob4,cap4) hm (Ag [1] R R)) fun h8 hm=>Ai<|Bb tbk [] R R<|Ap (out2,(IntKind.i64.wrap (i2 + (1 : Int)))) (ob2,cap2) hm (Ag [0] R R)) fun h5 hm=>Ba<|As (ob2,cap2) hm (Ag [0] R R)
 refine Ae<|Af tbk [] R R<|Cp hm (fun out72 (gg:Option Nat × Nat)=>[(1,L121 bs),(3,L121 cs),(9,Z9 gg.1 out72 gg.2)]) (fun out72 (gg:Option Nat × Nat)=>[Q9 gg.1 gg.2 out72]) (fun o2 hm=>?_) fun out72=>Pq fun ob7 cap7 hm=> ?_
 ·refine B3 (fun zn (zs:List ByteArray × Int)=>ref34_Diff.l2 ms ns zn zs.1 zs.2) (fun zs (zg:Option Nat × Nat)=>[(0,L41 ms),(1,L121 bs),(2,L41 ns),(3,L121 cs),(9,Z9 zg.1 zs.1 zg.2),(11,Iw zs.2)]) (fun zs (zg:Option Nat × Nat)=>[Q9 zg.1 zg.2 zs.1]) (out32,(0 : Int)) (ob3,cap3) (fun _=>R) hm (Ag [0] R R) fun n2=>Pq fun out6 i4=>Pq fun ob6 cap6 hm=> ?_
  rw [ref34_Diff.l2] at hm
  exact Ae<|Ah<|Ab tbk [] 2 R R<|Aa R R (A5 T_api_Machine.vv R B5)<|Aa R R (Bc R R R)<|Ac<|Am hm R (fun h16 hm=>Ai<|Ae<|A1<|Ah<|Ab tbk [] 3 R R<|Bd hm fun x3 h17 hm=>Aa R R (A2 T_api_Machine.vv R R el54 h17)<|Ab tbk [] 2 R R<|Ad R R<|A0 hm 0 R fn93 R (K62 _ _) fun r2 hm=>Aa R R (Bc R R R)<|Ac<|Am hm R (fun h19 hm=>Be<|Ab tbk [] 3 R R<|Bd hm fun x4 h20 hm=>Aa R R (A2 T_api_Machine.vv R R el54 h20)<|Ab tbk [] 2 R R<|Bd hm fun v2 h21 hm=>Aa R R (A8 R R h21)<|Ad R R<|Ax ap65 R R R R R fun b2=>Bd hm fun out8 h23 hm=>Ad R R<|Bu 1 VV.str (l:=out6) (l2:=[v2]) ap65 R R (sT_row 0 VV.str el65 R R) h23 fun ob8 cap8=>Aa R R (Aj R)<|Ac<|Bb tbk [] R R<|Ap (out8,(IntKind.i64.wrap (i4 + (1 : Int)))) (ob8,cap8) hm (Ag [1] R R)) fun h19 hm=>Ai<|Bb tbk [] R R<|Ap (out6,(IntKind.i64.wrap (i4 + (1 : Int)))) (ob6,cap6) hm (Ag [0] R R)) fun h16 hm=>Ba<|As (ob6,cap6) hm (Ag [0] R R)
 refine Ae<|Af tbk [] R R<|Cp hm (fun out112 (gg:Option Nat × Nat)=>[(1,L121 bs),(3,L121 cs),(9,Z9 gg.1 out112 gg.2)]) (fun out112 (gg:Option Nat × Nat)=>[Q9 gg.1 gg.2 out112]) (fun o3 hm=>?_) fun out112=>Pq fun ob11 cap11 hm=> ?_
 ·refine B3 (fun zn (zs:List ByteArray × Int)=>ref34_Diff.l3 bs cs zn zs.1 zs.2) (fun zs (zg:Option Nat × Nat)=>[(1,L121 bs),(3,L121 cs),(9,Z9 zg.1 zs.1 zg.2),(12,Iw zs.2)]) (fun zs (zg:Option Nat × Nat)=>[Q9 zg.1 zg.2 zs.1]) (out72,(0 : Int)) (ob7,cap7) (fun _=>R) hm (Ag [0] R R) fun n3=>Pq fun out10 i6=>Pq fun ob10 cap10 hm=> ?_
  rw [ref34_Diff.l3] at hm
  refine Ae<|Ah<|Ab tbk [] 2 R R<|Aa R R (A5 T_api_Bound.vv R Bz)<|Aa R R (Bc R R R)<|Ac<|Am hm R (fun h26 hm=>?_) fun h26 hm=> ?_
  ·refine Ai<|Ae<|A1<|Ah<|Ab tbk [] 3 R R<|Bd hm fun x5 h27 hm=>Aa R R (A2 T_api_Bound.vv R R el55 h27)<|Ab tbk [] 3 R R<|Ad R R<|A0 hm 0 R fn94 R (K63 _ _) fun r3 hm=>Aa R R (Aj R)<|Ac<|Af tbk [] R R<|Am hm R (fun h29 hm=>Be<|Ab tbk [] 3 R R<|Bd hm fun x6 h30 hm=>Aa R R (A2 T_api_Bound.vv R R el55 h30)<|Ab tbk [] 3 R R<|Bd hm fun v3 h31 hm=>Aa R R (A8 R R h31)<|Ad R R<|Ax ap65 R R R R R fun b3=>Bd hm fun out12 h33 hm=>Ad R R<|Bu 1 VV.str (l:=out10) (l2:=[v3]) ap65 R R (sT_row 0 VV.str el65 R R) h33 fun ob12 cap12=>Aa R R (Aj R)<|Ac<|Bb tbk [] R R<|Ap (out12,(IntKind.i64.wrap (i6 + (1 : Int)))) (ob12,cap12) hm (Ag [1] R R)) fun h29 hm=>Ae<|A4 0 mixed<|An tbk [0,1] [] (by kernel_rfl) R R R<|Bd hm fun x7 h34 hm=>Aq 2 R R R (by kernel_rfl) (A2 T_api_Bound.vv R R el55 h34)<|An tbk [3,4,5,6] [] (by kernel_rfl) R R R<|Bd hm fun x8 h35 hm=>Aq 7 R R R (by kernel_rfl) (A2 T_api_Bound.vv R R el55 h35)<|An tbk [8,9,10] [] (by kernel_rfl) R R R<|Ay (by kernel_rfl)<|Am hm R (fun h36 hm=>?_) fun h36 hm=> ?_
   ·refine A4 1 mixed<|An tbk [0,1,2] [] (by kernel_rfl) R R R<|Bd hm fun x9 h37 hm=>Aq 3 R R R (by kernel_rfl) (A2 T_api_Bound.vv R R el55 h37)<|An tbk [4,5,6] [] (by kernel_rfl) R R R<|Bd hm fun v4 h38 hm=>Aq 7 R R R (by kernel_rfl) (A8 R R h38)<|An tbk [8,9] [] (by kernel_rfl) R R R<|Bd hm fun x10 h39 hm=>Aq 10 R R R (by kernel_rfl) (A2 T_api_Bound.vv R R el55 h39)<|An tbk [11,12,16,17] [] (by kernel_rfl) R R R<|Bd hm fun x11 h40 hm=>Aq 18 R R R (by kernel_rfl) (A2 T_api_Bound.vv R R el55 h40)<|An tbk [19,20] [] (by kernel_rfl) R R R<|Al 13 (by kernel_rfl)<|Bd hm fun r4 h41 hm=>Au R R R<|Aw 0 R fn106 R (K32 x10.On r4 h41) fun _ _ h49=> ?_
    obtain ⟨rfl,rfl⟩:=h49
    refine Bd hm fun v5 h42 hm=>Aq 14 R R R (by kernel_rfl) (A8 R R h42)<|Bd hm fun v6 h43 hm=>Aq 15 R R R (by kernel_rfl) (A8 R R h43)<|Al 21 (by kernel_rfl)<|Bd hm fun r5 h44 hm=>Au R R R<|Aw 0 R fn106 R (K32 x11.On r5 h44) fun _ _ h48=> ?_
    obtain ⟨rfl,rfl⟩:=h48
    exact Bd hm fun v7 h45 hm=>Aq 22 R R R (by kernel_rfl) (A8 R R h45)<|Al 23 (by kernel_rfl)<|Au R R R<|Ax ap65 R R R R R fun b4=>Al 24 (by kernel_rfl)<|Bd hm fun out13 h47 hm=>Au R R R<|Bu 1 VV.str (l:=out10) (l2:=[v7]) ap65 R R (sT_row 0 VV.str el65 R R) h47 fun ob13 cap13=>Aq 25 R R R (by kernel_rfl) (Aj R)<|Ay (by kernel_rfl)<|Bb tbk [] R R<|Ap (out13,(IntKind.i64.wrap (i6 + (1 : Int)))) (ob13,cap13) hm (Ag [1] R R)
   exact Ai<|Bb tbk [] R R<|Ap (out10,(IntKind.i64.wrap (i6 + (1 : Int)))) (ob10,cap10) hm (Ag [0] R R)
  exact Ba<|As (ob10,cap10) hm (Ag [0] R R)
 refine Ae<|Af tbk [] R R<|Cp hm (fun out162 (gg:Option Nat × Nat)=>[(9,Z9 gg.1 out162 gg.2)]) (fun out162 (gg:Option Nat × Nat)=>[Q9 gg.1 gg.2 out162]) (fun o4 hm=>?_) fun out162=>Pq fun ob16 cap16 hm=> ?_
 ·refine B3 (fun zn (zs:List ByteArray × Int)=>ref34_Diff.l4 bs cs zn zs.1 zs.2) (fun zs (zg:Option Nat × Nat)=>[(1,L121 bs),(3,L121 cs),(9,Z9 zg.1 zs.1 zg.2),(14,Iw zs.2)]) (fun zs (zg:Option Nat × Nat)=>[Q9 zg.1 zg.2 zs.1]) (out112,(0 : Int)) (ob11,cap11) (fun _=>R) hm (Ag [0] R R) fun n4=>Pq fun out15 i8=>Pq fun ob15 cap15 hm=> ?_
  rw [ref34_Diff.l4] at hm
  exact Ae<|Ah<|Ab tbk [] 2 R R<|Aa R R (A5 T_api_Bound.vv R Bz)<|Aa R R (Bc R R R)<|Ac<|Am hm R (fun h52 hm=>Ai<|Ae<|A1<|Ah<|Ab tbk [] 3 R R<|Bd hm fun x12 h53 hm=>Aa R R (A2 T_api_Bound.vv R R el55 h53)<|Ab tbk [] 3 R R<|Ad R R<|A0 hm 0 R fn94 R (K63 _ _) fun r6 hm=>Aa R R (Bc R R R)<|Ac<|Am hm R (fun h55 hm=>Be<|Ab tbk [] 3 R R<|Bd hm fun x13 h56 hm=>Aa R R (A2 T_api_Bound.vv R R el55 h56)<|Ab tbk [] 3 R R<|Bd hm fun v8 h57 hm=>Aa R R (A8 R R h57)<|Ad R R<|Ax ap65 R R R R R fun b5=>Bd hm fun out17 h59 hm=>Ad R R<|Bu 1 VV.str (l:=out15) (l2:=[v8]) ap65 R R (sT_row 0 VV.str el65 R R) h59 fun ob17 cap17=>Aa R R (Aj R)<|Ac<|Bb tbk [] R R<|Ap (out17,(IntKind.i64.wrap (i8 + (1 : Int)))) (ob17,cap17) hm (Ag [1] R R)) fun h55 hm=>Ai<|Bb tbk [] R R<|Ap (out15,(IntKind.i64.wrap (i8 + (1 : Int)))) (ob15,cap15) hm (Ag [0] R R)) fun h52 hm=>Ba<|As (ob15,cap15) hm (Ag [0] R R)
 exact Af tbk [] R R<|Rg2 hm R [0] ob16 cap16 (.cons (.tmp _ _ R) .nil) R R

/-! trireme/triremelaw34.DumpDiffers -/
def law34_DumpDiffers (c : T_law34_Two) : Option Bool :=
 (ref09_Light c.Ms c.Bs).bind fun r =>
 (if (!r) = true then some true else (ref09_Light c.Ns c.Cs).bind fun r2 =>
 some (!r2)).bind fun c2 =>
 (if c2 = true then some true else (ref09_Check c.Ms c.Bs).bind fun r3 =>
 some (r3 != 0)).bind fun c3 =>
 (if c3 = true then some true else (ref09_Check c.Ns c.Cs).bind fun r4 =>
 some (r4 != 0)).bind fun c4 =>
 if c4 = true then
  (law34_known).bind fun r5 =>
  some r5
 else
  (dump_Diff c.Ms c.Bs c.Ns c.Cs).bind fun r6 =>
  (dump_Diff c.Ns c.Cs c.Ms c.Bs).bind fun r7 =>
  (ref34_Diff c.Ms c.Bs c.Ns c.Cs).bind fun r8 =>
  (ref09_Texts r6 r8).bind fun r9 =>
  (if (r9 && ((r6.length : Int) == (r7.length : Int))) = true then (dump_Diff c.Ms c.Bs c.Ms c.Bs).bind fun r10 =>
  some ((r10.length : Int) == 0) else some false).bind fun c5 =>
  (if c5 = true then (law34_known).bind fun r11 =>
  some r11 else some false).bind fun c6 =>
  some c6
theorem law34_DumpDiffers_ok (c : T_law34_Two) : VS Tryz.prog 8 (law34_DumpDiffers c) [T_law34_Two.vv c] [] .bool N0 := by
 refine A6 [.tmp 2] Tryz.func8 R R R fun r hm=>?_
 unfold law34_DumpDiffers at hm
 refine Ah<|Ad R R<|Cd R R fun b=>Aa R R (Aj R)<|Ac<|Ae<|Ah<|Ab tbk [0,0] 4 R R<|Ad R R<|A0 hm 0 R fn31 R (K39 _ _) fun r hm=>Ab tbk [] 2 R R<|Bt hm 7 18 11 R (fun _ K' h3 J hm=>Ab tbk [] 7 R R<|J 6 R R (Bj hm)) (fun _ K' h3 J hm=>Ab tbk [0,0] 4 R R<|Bm R R R R R<|A0 hm 0 R fn31 R (K39 _ _) fun r2 hm=>Ab tbk [] 2 R R<|J 6 R R (Bj hm)) fun c2 hm=>Aa R R (Ak R)<|Bt hm 7 26 19 R (fun _ K' h6 J hm=>Ab tbk [] 7 R R<|J 6 R R (Bj hm)) (fun _ K' h6 J hm=>Ab tbk [0,0] 4 R R<|Bm R R R R R<|A0 hm 0 R fn35 R (K64 _ _) fun r3 hm=>Ab tbk [] 2 R R<|J 6 R R (Bj hm)) fun c3 hm=>Aa R R (Ak R)<|Bt hm 7 34 27 R (fun _ K' h9 J hm=>Ab tbk [] 7 R R<|J 6 R R (Bj hm)) (fun _ K' h9 J hm=>Ab tbk [0,0] 4 R R<|Bm R R R R R<|A0 hm 0 R fn35 R (K64 _ _) fun r4 hm=>Ab tbk [] 2 R R<|J 6 R R (Bj hm)) fun c4 hm=>Ac<|Am hm R (fun h12 hm=>Ah<|Ad R R<|A0 hm 0 R fn32 R (K31) fun r5 hm=>Aa R R (Aj R)<|Ac<|Rt1 hm R [] R R R) fun h12 hm=>Ai<|Ah<|Ab tbk [0,0,0,0] 8 R R<|Ad R R<|Dd hm 0 R fn39 R (K29 _ _ _ _) fun r6 ob cap hm=>A3 (Az 0 [(44,L9 r6)] R ⟨⟨_,R,.here _ R⟩,trivial⟩ (FzH.refl _))<|Aa R R (Aj R)<|Ac<|Ah<|Ab tbk [0,0,0,0] 8 R R<|Ad R R<|Dd hm 0 R fn39 R (K29 _ _ _ _) fun r7 ob2 cap2 hm=>A3 (Az 0 [(53,L9 r7)] R ⟨⟨_,R,.here _ R⟩,trivial⟩ (FzH.refl _))<|Aa R R (Aj R)<|Ac<|Ah<|Ab tbk [0,0,0,0] 9 R R<|Ad R R<|Dd hm 0 R fn41 R (K33 _ _ _ _) fun r8 ob3 cap3 hm=>A3 (Az 0 [(63,L9 r8)] R ⟨⟨_,R,.here _ R⟩,trivial⟩ (FzH.refl _))<|Ad R R<|A0 hm 0 R fn40 R (K30 _ _) fun r9 hm=>Aa R R (Ak R)<|Df 6 71 65 R (fun h21 K' J=>Bo R R R R R (Ak R)<|Bo R R R R R (A5 VV.str R B0)<|Bo R R R R R (Ak R)<|Bo R R R R R (A5 VV.str R B0)<|Ab tbk [] 2 R R<|J 5 R R R) (fun K' J=>Ab tbk [] 6 R R<|J 5 R R R)<|Aa R R (Ak R)<|Bt hm 12 84 72 R (fun _ K' h22 J hm=>Ab tbk [0,0,0,0] 8 R R<|Bm R R R R R<|Dd hm 0 R fn39 R (K29 _ _ _ _) fun r10 ob4 cap4 hm=>A3 (Az 0 [(81,L9 r10)] R ⟨⟨_,R,.here _ R⟩,trivial⟩ (FzH.refl _))<|Bo R R R R R (A5 VV.str R B0)<|Ab tbk [] 2 R R<|J 12 R R (Bj hm)) (fun _ K' h22 J hm=>Ab tbk [] 12 R R<|J 11 R R (Bj hm)) fun c5 hm=>Aa R R (Ak R)<|Bt hm 2 87 85 R (fun _ K' h26 J hm=>Bm R R R R R<|A0 hm 0 R fn32 R (K31) fun r11 hm=>Aa R R (Bh true R R R)<|J 1 R R (Bj hm)) (fun _ K' h26 J hm=>Ab tbk [] 2 R R<|J 1 R R (Bj hm)) fun c6 hm=>Aa R R (Aj R)<|?_
 exact Ac<|Rt1 hm R [] R R R

end Go.Proofs.YtkondhigbbgidaaGreat.M

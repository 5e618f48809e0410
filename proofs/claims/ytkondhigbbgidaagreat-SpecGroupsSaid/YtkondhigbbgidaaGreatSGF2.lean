/-
  Printed by a program of this session out of the loaded functions: models and their proofs. Own text.
-/
import Derived.Test.YtkondhigbbgidaaGreatSGF1
namespace Go.Proofs.YtkondhigbbgidaaGreat.M
open Go Go.Proofs Go.Proofs.YtkondhigbbgidaaGreat.V
open Go.IntKind (i64)
set_option linter.unusedVariables false
set_option linter.unusedSimpArgs false
set_option maxRecDepth 20000
set_option maxHeartbeats 40000000
/-! (*trireme/spec.reader).head -/
def spec_reader_head_x (r_ : T_spec_reader) (x : T_api_Machine) (i : Int) : Option (ByteArray × List Int) :=
 (V.gl r_.l i).bind fun x2 =>
 if (x2.Kind == 3) = true then
  (V.gl r_.l i).bind fun x3 =>
  some (x3.Text, ([] : List Int))
 else
  (tree_Kids r_.l i).bind fun r =>
  (V.gl r_.l i).bind fun x4 =>
  (if ((x4.Kind != 5) || ((r.length : Int) == 0)) = true then some true else (V.gl r (0 : Int)).bind fun x5 =>
  (V.gl r_.l x5).bind fun x6 =>
  some (x6.Kind != 3)).bind fun c =>
  if c = true then
   some ((⟨#[]⟩ : ByteArray), ([] : List Int))
  else
   (V.gl r (0 : Int)).bind fun x7 =>
   (V.gl r_.l x7).bind fun x8 =>
   (V.sl r (some 1) none).bind fun v =>
   some (x8.Text, v)
theorem K118 (r_ : T_spec_reader) (x : T_api_Machine) (i : Int) (b : Nat) (b2 : Nat) (b3 : Nat) (cap : Nat) (b4 : Nat) (b5 : Nat) (ob : Option Nat) (cap2 : Nat) (ob2 : Option Nat) (cap3 : Nat) (b6 : Nat) (b7 : Nat) (b8 : Nat) : VS Tryz.prog 163 (spec_reader_head_x r_ x i) [.ptr b 0, Iw i] [.box b 165 [L100 r_.l, .sl (some b3) 5 cap, .map b2, Iw r_.e, Iw r_.at_], .map b2 (List.map (pf VV.str (VV.int .i64)) r_.had), .row (some b3) 110 cap (KR3 b4 b6 b7 b8), .box b4 108 [.ptr b5 1], .box b5 41 [.str x.Name, .str x.Group, Iw x.Has.Cpu, Iw x.Has.Mem, Iw x.Has.Disk, Iw x.Has.Pods, Iw x.Has.Dev, Z141 ob x.Labels cap2, Z143 ob2 x.Taints cap3, .bool x.Ready], Q141 ob cap2 x.Labels, Q143 ob2 cap3 x.Taints, .box b6 112 [.ptr b5 9], .box b7 114 [.ptr b5 0], .box b8 169 [.ptr b5 7]] (fun r=>.tup [.str r.1, L3 r.2]) (fun r=>[.box b 165 [L100 r_.l, .sl (some b3) 5 cap, .map b2, Iw r_.e, Iw r_.at_], .map b2 (List.map (pf VV.str (VV.int .i64)) r_.had), .row (some b3) 110 cap (KR3 b4 b6 b7 b8), .box b4 108 [.ptr b5 1], .box b5 41 [.str x.Name, .str x.Group, Iw x.Has.Cpu, Iw x.Has.Mem, Iw x.Has.Disk, Iw x.Has.Pods, Iw x.Has.Dev, Z141 ob x.Labels cap2, Z143 ob2 x.Taints cap3, .bool x.Ready], Q141 ob cap2 x.Labels, Q143 ob2 cap3 x.Taints, .box b6 112 [.ptr b5 9], .box b7 114 [.ptr b5 0], .box b8 169 [.ptr b5 7]]) := by
 refine A8 [.tmp 4,.tmp 5] Ds R R R fun r hm=>?_
 unfold spec_reader_head_x at hm
 exact Ag tbk [] R R<|Af<|Ae<|Ab tbk [0] 5 R R<|Bd hm fun x2 h1 hm=>Aa R R (A2 T_api_Node.vv R R el36 h1)<|Ab tbk [] 3 R R<|Ac<|Av hm R (fun h2 hm=>Ae<|Ab tbk [0] 5 R R<|Bd hm fun x3 h3 hm=>Aa R R (A2 T_api_Node.vv R R el36 h3)<|Ab tbk [] 4 R R<|Ac<|Ba (Cz 5 3 R)<|Rt2 hm R [0,1,2,3,4,5,6,7,8,9] R R R R) fun h2 hm=>Aj<|Ae<|Ab tbk [0] 5 R R<|Ad R R<|A1 hm 0 R fn125 R (K55 _ _) fun r hm=>Aa R R (Am R)<|Ac<|Af<|Af<|A3 0 mixed<|An tbk [0,1,2,3,4] [0] (by kernel_rfl) R R R<|Bd hm fun x4 h5 hm=>Au 5 R R R (by kernel_rfl) (A2 T_api_Node.vv R R el36 h5)<|An tbk [6,7,8,9] [] (by kernel_rfl) R R R<|VA.so [13,12,11,10,9,8,7,6,5,4,3,2,1,0] 43 39 R (fun K' J=>An tbk [10,11,12,13] [] (by kernel_rfl) R R R<|J 3 R R R) (fun h6 K' J=>Bv 10 R R R R R R (by kernel_rfl) (Ak R)<|Bv 11 R R R R R R (by kernel_rfl) (Bg (VV.int .i64) R Bi)<|An tbk [12,13] [] (by kernel_rfl) R R R<|J 3 R R R)<|Au 14 R R R (by kernel_rfl) (Ak R)<|Cj hm [26,25,24,23,22,21,20,19,18,17,16,15,14,13,12,11,10,9,8,7,6,5,4,3,2,1,0] 56 44 R (fun _ K' h7 J hm=>An tbk [15,16,17,18,19,20,21,22,23,24,25,26] [] (by kernel_rfl) R R R<|J 11 R R (Bj hm)) (fun _ K' h7 J hm=>An tbk [15,16,17,18,19] [0] (by kernel_rfl) R R R<|Bd hm fun x5 h8 hm=>Bv 20 R R R R R R (by kernel_rfl) (A2 (VV.int .i64) R R el27 h8)<|Bv 21 R R R R R R (by kernel_rfl) (Bn R ld3 R)<|Bd hm fun x6 h9 hm=>Bv 22 R R R R R R (by kernel_rfl) (A2 T_api_Node.vv R R el36 h9)<|An tbk [23,24,25,26] [] (by kernel_rfl) R R R<|J 11 R R (Bj hm)) fun c hm=>Ay (by kernel_rfl)<|Av hm R (fun h11 hm=>Ag tbk [] R R<|Ba (Cz 5 3 R)<|Rt2 hm R [0,1,2,3,4,5,6,7,8,9] R R R R) fun h11 hm=>Aj<|Af<|A3 0 mixed<|An tbk [0,1,2,3,4] [0] (by kernel_rfl) R R R<|Bd hm fun x7 h12 hm=>Au 5 R R R (by kernel_rfl) (A2 (VV.int .i64) R R el27 h12)<|Au 6 R R R (by kernel_rfl) (Bn R ld3 R)<|Bd hm fun x8 h13 hm=>Au 7 R R R (by kernel_rfl) (A2 T_api_Node.vv R R el36 h13)<|An tbk [8,9,10] [] (by kernel_rfl) R R R<|Bd hm fun v h14 hm=>Au 11 R R R (by kernel_rfl) (Dj R R R el27 h14)<|An tbk [12,13] [] (by kernel_rfl) R R R<|Ay (by kernel_rfl)<|Rt2 hm R [0,1,2,3,4,5,6,7,8,9] R R R R

/-! (*trireme/spec.reader).fail -/
def spec_reader_fail_x (r_ : T_spec_reader) (x : T_api_Machine) (e : Int) (at_ : Int) : Option T_spec_reader :=
 some (⟨r_.l, (), r_.had, e, at_⟩ : T_spec_reader)
theorem K119 (r_ : T_spec_reader) (x : T_api_Machine) (e : Int) (at_ : Int) (b : Nat) (b2 : Nat) (b3 : Nat) (cap : Nat) (b4 : Nat) (b5 : Nat) (ob : Option Nat) (cap2 : Nat) (ob2 : Option Nat) (cap3 : Nat) (b6 : Nat) (b7 : Nat) (b8 : Nat) : VS1 Tryz.prog 164 (spec_reader_fail_x r_ x e at_) [.ptr b 0, Iw e, Iw at_] [.box b 165 [L100 r_.l, .sl (some b3) 5 cap, .map b2, Iw r_.e, Iw r_.at_], .map b2 (List.map (pf VV.str (VV.int .i64)) r_.had), .row (some b3) 110 cap (KR3 b4 b6 b7 b8), .box b4 108 [.ptr b5 1], .box b5 41 [.str x.Name, .str x.Group, Iw x.Has.Cpu, Iw x.Has.Mem, Iw x.Has.Disk, Iw x.Has.Pods, Iw x.Has.Dev, Z141 ob x.Labels cap2, Z143 ob2 x.Taints cap3, .bool x.Ready], Q141 ob cap2 x.Labels, Q143 ob2 cap3 x.Taints, .box b6 112 [.ptr b5 9], .box b7 114 [.ptr b5 0], .box b8 169 [.ptr b5 7]] (fun r b0_2=>.tup []) (fun r b0_2=>[.box b 165 [L100 r.l, .sl (some b3) 5 cap, .map b0_2, Iw r.e, Iw r.at_], .map b0_2 (List.map (pf VV.str (VV.int .i64)) r.had), .row (some b3) 110 cap (KR3 b4 b6 b7 b8), .box b4 108 [.ptr b5 1], .box b5 41 [.str x.Name, .str x.Group, Iw x.Has.Cpu, Iw x.Has.Mem, Iw x.Has.Disk, Iw x.Has.Pods, Iw x.Has.Dev, Z141 ob x.Labels cap2, Z143 ob2 x.Taints cap3, .bool x.Ready], Q141 ob cap2 x.Labels, Q143 ob2 cap3 x.Taints, .box b6 112 [.ptr b5 9], .box b7 114 [.ptr b5 0], .box b8 169 [.ptr b5 7]]) := by
 refine VS1.run [] Dt R R R fun r hm=>?_
 unfold spec_reader_fail_x at hm
 refine Bb<|Ab tbk [] 6 R R<|Ad R R<|Al (i:=0) R R R ld33 R R R<|Ab tbk [] 2 R R<|Ad R R<|Al (i:=0) R R R ld3 R R R<|Ac<|?_
 obtain rfl:=Option.some.inj hm
 exact ⟨.inr R,_,.nil,[0,1,2,3,4,5,6,7,8,9],_,R,b2,R,R⟩

/-! trireme/spec.text$1 -/
def spec_text_1_x (x : List I_any20) (x2 : T_api_Machine) : Option T_api_Machine :=
 (V.gl x (0 : Int)).bind fun x3 =>
 (spec_word x3).bind fun r =>
 some (⟨x2.Name, r, x2.Has, x2.Labels, x2.Taints, x2.Ready⟩ : T_api_Machine)
theorem K120 (x : List I_any20) (x2 : T_api_Machine) (b : Nat) (b2 : Nat) (ob : Option Nat) (cap : Nat) (ob2 : Option Nat) (cap2 : Nat) : ∀ r : T_api_Machine, spec_text_1_x x x2 = some r → VC Tryz.prog 137 [L20 x, .ptr b 0] [.box b 108 [.ptr b2 1], .box b2 41 [.str x2.Name, .str x2.Group, Iw x2.Has.Cpu, Iw x2.Has.Mem, Iw x2.Has.Disk, Iw x2.Has.Pods, Iw x2.Has.Dev, Z141 ob x2.Labels cap, Z143 ob2 x2.Taints cap2, .bool x2.Ready], Q141 ob cap x2.Labels, Q143 ob2 cap2 x2.Taints] fun zx zH => ∃ (ob1_7 : Option Nat) (cap1_7 : Nat) (ob1_8 : Option Nat) (cap1_8 : Nat), zx = .tup [] ∧ zH = [.box b 108 [.ptr b2 1], .box b2 41 [.str r.Name, .str r.Group, Iw r.Has.Cpu, Iw r.Has.Mem, Iw r.Has.Disk, Iw r.Has.Pods, Iw r.Has.Dev, Z141 ob1_7 r.Labels cap1_7, Z143 ob1_8 r.Taints cap1_8, .bool r.Ready], Q141 ob1_7 cap1_7 r.Labels, Q143 ob1_8 cap1_8 r.Taints] := by
 refine B2 [] Tryz.func137 R R R fun r hm=>?_
 unfold spec_text_1_x at hm
 refine Ba (A7 [1,0,2,3] R)<|A3 1 mixed<|An tbk [0,1] [0] (by kernel_rfl) R R R<|Bd hm fun x3 h1 hm=>Au 2 R R R (by kernel_rfl) (A2 I_any20.vv R R el81 h1)<|Au 3 R R R (by kernel_rfl) (Bn R ld20 R)<|Ai 4 (by kernel_rfl)<|Bd hm fun r h2 hm=>Ao R R R<|Aw 0 R fn131 R (K81 x3 r h2) fun _ _ h3=> ?_
 obtain ⟨rfl,rfl⟩:=h3
 refine Au 5 R R R (by kernel_rfl) (Bw R)<|Ai 6 (by kernel_rfl)<|Ao R R R<|Al (i:=0) R R R ld9 R R R<|Ay (by kernel_rfl)<|?_
 obtain rfl:=Option.some.inj hm
 exact ⟨.inr R,_,.nil,[1,0,2,3],_,R,ob,cap,ob2,cap2,R,R⟩

/-! trireme/spec.flag$1 -/
def spec_flag_1_x_x_x_x (a : List I_any20) (x : T_api_Machine) : Option T_api_Machine :=
 some (⟨x.Name, x.Group, x.Has, x.Labels, x.Taints, true⟩ : T_api_Machine)
theorem K121 (a : List I_any20) (x : T_api_Machine) (b : Nat) (b2 : Nat) (ob : Option Nat) (cap : Nat) (ob2 : Option Nat) (cap2 : Nat) : ∀ r : T_api_Machine, spec_flag_1_x_x_x_x a x = some r → VC Tryz.prog 138 [L20 a, .ptr b 0] [.box b 112 [.ptr b2 9], .box b2 41 [.str x.Name, .str x.Group, Iw x.Has.Cpu, Iw x.Has.Mem, Iw x.Has.Disk, Iw x.Has.Pods, Iw x.Has.Dev, Z141 ob x.Labels cap, Z143 ob2 x.Taints cap2, .bool x.Ready], Q141 ob cap x.Labels, Q143 ob2 cap2 x.Taints] fun zx zH => ∃ (ob1_7 : Option Nat) (cap1_7 : Nat) (ob1_8 : Option Nat) (cap1_8 : Nat), zx = .tup [] ∧ zH = [.box b 112 [.ptr b2 9], .box b2 41 [.str r.Name, .str r.Group, Iw r.Has.Cpu, Iw r.Has.Mem, Iw r.Has.Disk, Iw r.Has.Pods, Iw r.Has.Dev, Z141 ob1_7 r.Labels cap1_7, Z143 ob1_8 r.Taints cap1_8, .bool r.Ready], Q141 ob1_7 cap1_7 r.Labels, Q143 ob1_8 cap1_8 r.Taints] := by
 refine B2 [] Dc R R R fun r hm=>?_
 unfold spec_flag_1_x_x_x_x at hm
 refine Bb<|Ab tbk [0] 2 R R<|Ad R R<|Al (i:=1) R R R ld4 R R R<|Ac<|?_
 obtain rfl:=Option.some.inj hm
 exact ⟨.inr R,_,.nil,[0,1,2,3],_,R,ob,cap,ob2,cap2,R,R⟩

/-! trireme/spec.common$1 -/
def spec_common_1 (x : List I_any20) (x2 : T_api_Machine) : Option T_api_Machine :=
 (spec_amounts x).bind fun r =>
 some (⟨x2.Name, x2.Group, r, x2.Labels, x2.Taints, x2.Ready⟩ : T_api_Machine)
theorem K122 (x : List I_any20) (x2 : T_api_Machine) (b : Nat) (b2 : Nat) (ob : Option Nat) (cap : Nat) (ob2 : Option Nat) (cap2 : Nat) : ∀ r : T_api_Machine, spec_common_1 x x2 = some r → VC Tryz.prog 139 [L20 x, .ptr b 0] [.box b 114 [.ptr b2 0], .box b2 41 [.str x2.Name, .str x2.Group, Iw x2.Has.Cpu, Iw x2.Has.Mem, Iw x2.Has.Disk, Iw x2.Has.Pods, Iw x2.Has.Dev, Z141 ob x2.Labels cap, Z143 ob2 x2.Taints cap2, .bool x2.Ready], Q141 ob cap x2.Labels, Q143 ob2 cap2 x2.Taints] fun zx zH => ∃ (ob1_7 : Option Nat) (cap1_7 : Nat) (ob1_8 : Option Nat) (cap1_8 : Nat), zx = .tup [] ∧ zH = [.box b 114 [.ptr b2 0], .box b2 41 [.str r.Name, .str r.Group, Iw r.Has.Cpu, Iw r.Has.Mem, Iw r.Has.Disk, Iw r.Has.Pods, Iw r.Has.Dev, Z141 ob1_7 r.Labels cap1_7, Z143 ob1_8 r.Taints cap1_8, .bool r.Ready], Q141 ob1_7 cap1_7 r.Labels, Q143 ob1_8 cap1_8 r.Taints] := by
 refine B2 [] Tryz.func139 R R R fun r hm=>?_
 unfold spec_common_1 at hm
 refine Ba (A7 [1,0,2,3] R)<|A3 1 mixed<|An tbk [0,1] [0] (by kernel_rfl) R R R<|Ai 2 (by kernel_rfl)<|Ao R R R<|A1 hm 0 R fn128 R (K79 _) fun r hm=>An tbk [3,4] [] (by kernel_rfl) R R R<|Ai 5 (by kernel_rfl)<|Ao R R R<|Al (i:=0) R R R ld23 R R R<|Ay (by kernel_rfl)<|?_
 obtain rfl:=Option.some.inj hm
 exact ⟨.inr R,_,.nil,[1,0,2,3],_,R,ob,cap,ob2,cap2,R,R⟩

/-! trireme/spec.pair$1 -/
def spec_pair_1_x_x_x_x (x : List I_any20) (x2 : T_api_Machine) : Option T_api_Machine :=
 (V.gl x (0 : Int)).bind fun x3 =>
 (V.gl x (1 : Int)).bind fun x4 =>
 (spec_word x3).bind fun r =>
 (spec_word x4).bind fun r2 =>
 (V.ap 32 x2.Labels [(⟨r, r2⟩ : T_api_Label)]).bind fun l =>
 some (⟨x2.Name, x2.Group, x2.Has, l, x2.Taints, x2.Ready⟩ : T_api_Machine)
theorem K123 (x : List I_any20) (x2 : T_api_Machine) (b : Nat) (b2 : Nat) (ob : Option Nat) (cap : Nat) (ob2 : Option Nat) (cap2 : Nat) : ∀ r : T_api_Machine, spec_pair_1_x_x_x_x x x2 = some r → VC Tryz.prog 166 [L20 x, .ptr b 0] [.box b 169 [.ptr b2 7], .box b2 41 [.str x2.Name, .str x2.Group, Iw x2.Has.Cpu, Iw x2.Has.Mem, Iw x2.Has.Disk, Iw x2.Has.Pods, Iw x2.Has.Dev, Z141 ob x2.Labels cap, Z143 ob2 x2.Taints cap2, .bool x2.Ready], Q141 ob cap x2.Labels, Q143 ob2 cap2 x2.Taints] fun zx zH => ∃ (ob1_7 : Option Nat) (cap1_7 : Nat) (ob1_8 : Option Nat) (cap1_8 : Nat), zx = .tup [] ∧ zH = [.box b 169 [.ptr b2 7], .box b2 41 [.str r.Name, .str r.Group, Iw r.Has.Cpu, Iw r.Has.Mem, Iw r.Has.Disk, Iw r.Has.Pods, Iw r.Has.Dev, Z141 ob1_7 r.Labels cap1_7, Z143 ob1_8 r.Taints cap1_8, .bool r.Ready], Q141 ob1_7 cap1_7 r.Labels, Q143 ob1_8 cap1_8 r.Taints] := by
 refine B2 [] C7 R R R fun r hm=>?_
 unfold spec_pair_1_x_x_x_x at hm
 refine Ba (A7 [1,2,0,3] R)<|A3 2 mixed<|An tbk [0,1,2,4] [0,0] (by kernel_rfl) R R R<|Bd hm fun x3 h1 hm=>Au 5 R R R (by kernel_rfl) (A2 I_any20.vv R R el81 h1)<|An tbk [6,8] [] (by kernel_rfl) R R R<|Bd hm fun x4 h2 hm=>Au 9 R R R (by kernel_rfl) (A2 I_any20.vv R R el81 h2)<|Au 10 R R R (by kernel_rfl) (Bn R ld20 R)<|?_
 refine B0 [3,7] (by kernel_rfl) ⟨?_,?_,trivial⟩
 ·refine Ao R R R<|B4 (Bq (i:=0) R R ld24 R)<|Ai 7 (by kernel_rfl)<|Bd hm fun r h3 hm=>Ao R R R<|Aw 0 R fn131 R (K81 x3 r h3) fun _ _ h8=> ?_
  obtain ⟨rfl,rfl⟩:=h8
  refine Ai 11 (by kernel_rfl)<|Bd hm fun r2 h4 hm=>Ao R R R<|Aw 0 R fn131 R (K81 x4 r2 h4) fun _ _ h7=> ?_
  obtain ⟨rfl,rfl⟩:=h7
  refine Au 12 R R R (by kernel_rfl) (A5 pl141 R R)<|Ai 13 (by kernel_rfl)<|Ao R R R<|Ax ap24 R R R R R fun b3=>Ai 14 (by kernel_rfl)<|Bd hm fun l h6 hm=>Ao R R R<|Bs 2 T_api_Label.vv (l:=x2.Labels) (l2:=[(⟨r,r2⟩ : T_api_Label)]) ap24 R R (sT_row 0 T_api_Label.vv el24 R R) h6 fun ob3 cap3=>Au 15 R R R (by kernel_rfl) (Bw R)<|Ai 16 (by kernel_rfl)<|Ao R R R<|Al (i:=1) R R R ld24 R R R<|Ay (by kernel_rfl)<|?_
  obtain rfl:=Option.some.inj hm
  exact ⟨.inr R,_,.nil,[3,1,2,4],_,R,ob3,cap3,ob2,cap2,R,R⟩
 ·refine Bd hm fun r3 h9 hm=>Ao R R R<|Aw 0 R fn131 R (K81 x3 r3 h9) fun _ _ h20=> ?_
  obtain ⟨rfl,rfl⟩:=h20
  refine B0 [3,11] (by kernel_rfl) ⟨?_,?_,trivial⟩
  ·refine Ao R R R<|B4 (Bq (i:=0) R R ld24 R)<|Ai 11 (by kernel_rfl)<|Bd hm fun r4 h10 hm=>Ao R R R<|Aw 0 R fn131 R (K81 x4 r4 h10) fun _ _ h13=> ?_
   obtain ⟨rfl,rfl⟩:=h13
   refine Au 12 R R R (by kernel_rfl) (A5 pl141 R R)<|Ai 13 (by kernel_rfl)<|Ao R R R<|Ax ap24 R R R R R fun b4=>Ai 14 (by kernel_rfl)<|Bd hm fun l2 h12 hm=>Ao R R R<|Bs 2 T_api_Label.vv (l:=x2.Labels) (l2:=[(⟨r3,r4⟩ : T_api_Label)]) ap24 R R (sT_row 0 T_api_Label.vv el24 R R) h12 fun ob4 cap4=>Au 15 R R R (by kernel_rfl) (Bw R)<|Ai 16 (by kernel_rfl)<|Ao R R R<|Al (i:=1) R R R ld24 R R R<|Ay (by kernel_rfl)<|?_
   obtain rfl:=Option.some.inj hm
   exact ⟨.inr R,_,.nil,[3,1,2,4],_,R,ob4,cap4,ob2,cap2,R,R⟩
  ·refine Bd hm fun r5 h14 hm=>Ao R R R<|Aw 0 R fn131 R (K81 x4 r5 h14) fun _ _ h19=> ?_
   obtain ⟨rfl,rfl⟩:=h19
   refine Au 12 R R R (by kernel_rfl) (A5 pl141 R R)<|?_
   refine B0 [3,13] (by kernel_rfl) ⟨?_,?_,trivial⟩
   ·refine Ao R R R<|B4 (Bq (i:=0) R R ld24 R)<|Ai 13 (by kernel_rfl)<|Ao R R R<|Ax ap24 R R R R R fun b5=>Ai 14 (by kernel_rfl)<|Bd hm fun l3 h16 hm=>Ao R R R<|Bs 2 T_api_Label.vv (l:=x2.Labels) (l2:=[(⟨r3,r5⟩ : T_api_Label)]) ap24 R R (sT_row 0 T_api_Label.vv el24 R R) h16 fun ob5 cap5=>Au 15 R R R (by kernel_rfl) (Bw R)<|Ai 16 (by kernel_rfl)<|Ao R R R<|Al (i:=1) R R R ld24 R R R<|Ay (by kernel_rfl)<|?_
    obtain rfl:=Option.some.inj hm
    exact ⟨.inr R,_,.nil,[3,1,2,4],_,R,ob5,cap5,ob2,cap2,R,R⟩
   ·refine Ao R R R<|Ax ap24 R R R R R fun b6=>Ai 3 (by kernel_rfl)<|Ao R R R<|B4 (Bq (i:=1) R R ld24 R)<|Ai 14 (by kernel_rfl)<|Bd hm fun l4 h18 hm=>Ao R R R<|Bs 2 T_api_Label.vv (l:=x2.Labels) (l2:=[(⟨r3,r5⟩ : T_api_Label)]) ap24 R R (sT_row 0 T_api_Label.vv el24 R R) h18 fun ob6 cap6=>Au 15 R R R (by kernel_rfl) (Bw R)<|Ai 16 (by kernel_rfl)<|Ao R R R<|Al (i:=1) R R R ld24 R R R<|Ay (by kernel_rfl)<|?_
    obtain rfl:=Option.some.inj hm
    exact ⟨.inr R,_,.nil,[3,1,2,4],_,R,ob6,cap6,ob2,cap2,R,R⟩

/-! trireme/spec.common$2 -/
def spec_common_2 (x : List I_any20) (x2 : T_api_Machine) : Option T_api_Machine :=
 (V.gl x (0 : Int)).bind fun x3 =>
 (V.gl x (1 : Int)).bind fun x4 =>
 (V.gl x (2 : Int)).bind fun x5 =>
 (spec_word x3).bind fun r =>
 (spec_word x4).bind fun r2 =>
 (spec_num x5).bind fun r3 =>
 (V.ap 40 x2.Taints [(⟨r, r2, r3⟩ : T_api_Taint)]).bind fun l =>
 some (⟨x2.Name, x2.Group, x2.Has, x2.Labels, l, x2.Ready⟩ : T_api_Machine)
theorem K124 (x : List I_any20) (x2 : T_api_Machine) (b : Nat) (b2 : Nat) (ob : Option Nat) (cap : Nat) (ob2 : Option Nat) (cap2 : Nat) : ∀ r : T_api_Machine, spec_common_2 x x2 = some r → VC Tryz.prog 140 [L20 x, .ptr b 0] [.box b 114 [.ptr b2 0], .box b2 41 [.str x2.Name, .str x2.Group, Iw x2.Has.Cpu, Iw x2.Has.Mem, Iw x2.Has.Disk, Iw x2.Has.Pods, Iw x2.Has.Dev, Z141 ob x2.Labels cap, Z143 ob2 x2.Taints cap2, .bool x2.Ready], Q141 ob cap x2.Labels, Q143 ob2 cap2 x2.Taints] fun zx zH => ∃ (ob1_7 : Option Nat) (cap1_7 : Nat) (ob1_8 : Option Nat) (cap1_8 : Nat), zx = .tup [] ∧ zH = [.box b 114 [.ptr b2 0], .box b2 41 [.str r.Name, .str r.Group, Iw r.Has.Cpu, Iw r.Has.Mem, Iw r.Has.Disk, Iw r.Has.Pods, Iw r.Has.Dev, Z141 ob1_7 r.Labels cap1_7, Z143 ob1_8 r.Taints cap1_8, .bool r.Ready], Q141 ob1_7 cap1_7 r.Labels, Q143 ob1_8 cap1_8 r.Taints] := by
 refine B2 [] Tryz.func140 R R R fun r hm=>?_
 unfold spec_common_2 at hm
 refine Ba (A7 [1,3,0,2] R)<|A3 2 mixed<|An tbk [0,1,2,3,5] [0,0] (by kernel_rfl) R R R<|Bd hm fun x3 h1 hm=>Au 6 R R R (by kernel_rfl) (A2 I_any20.vv R R el81 h1)<|An tbk [7,9] [] (by kernel_rfl) R R R<|Bd hm fun x4 h2 hm=>Au 10 R R R (by kernel_rfl) (A2 I_any20.vv R R el81 h2)<|An tbk [11,13] [] (by kernel_rfl) R R R<|Bd hm fun x5 h3 hm=>Au 14 R R R (by kernel_rfl) (A2 I_any20.vv R R el81 h3)<|Au 15 R R R (by kernel_rfl) (Bn R ld20 R)<|?_
 refine B0 [4,8] (by kernel_rfl) ⟨?_,?_,trivial⟩
 ·refine Ao R R R<|B4 (Bq (i:=0) R R ld39 R)<|Ai 8 (by kernel_rfl)<|Bd hm fun r h4 hm=>Ao R R R<|Aw 0 R fn131 R (K81 x3 r h4) fun _ _ h11=> ?_
  obtain ⟨rfl,rfl⟩:=h11
  refine Ai 12 (by kernel_rfl)<|Bd hm fun r2 h5 hm=>Ao R R R<|Aw 0 R fn131 R (K81 x4 r2 h5) fun _ _ h10=> ?_
  obtain ⟨rfl,rfl⟩:=h10
  refine Ai 16 (by kernel_rfl)<|Bd hm fun r3 h6 hm=>Ao R R R<|Aw 0 R fn90 R (K78 x5 r3 h6) fun _ _ h9=> ?_
  obtain ⟨rfl,rfl⟩:=h9
  refine Au 17 R R R (by kernel_rfl) (A5 pl143 R R)<|Ai 18 (by kernel_rfl)<|Ao R R R<|Ax ap39 R R R R R fun b3=>Ai 19 (by kernel_rfl)<|Bd hm fun l h8 hm=>Ao R R R<|Bs 2 T_api_Taint.vv (l:=x2.Taints) (l2:=[(⟨r,r2,r3⟩ : T_api_Taint)]) ap39 R R (sT_row 0 T_api_Taint.vv el39 R R) h8 fun ob3 cap3=>An tbk [20,21] [] (by kernel_rfl) R R R<|Ai 22 (by kernel_rfl)<|Ao R R R<|Al (i:=1) R R R ld39 R R R<|Ay (by kernel_rfl)<|?_
  obtain rfl:=Option.some.inj hm
  exact ⟨.inr R,_,.nil,[3,1,4,2],_,R,ob,cap,ob3,cap3,R,R⟩
 ·refine Bd hm fun r4 h12 hm=>Ao R R R<|Aw 0 R fn131 R (K81 x3 r4 h12) fun _ _ h31=> ?_
  obtain ⟨rfl,rfl⟩:=h31
  refine B0 [4,12] (by kernel_rfl) ⟨?_,?_,trivial⟩
  ·refine Ao R R R<|B4 (Bq (i:=0) R R ld39 R)<|Ai 12 (by kernel_rfl)<|Bd hm fun r5 h13 hm=>Ao R R R<|Aw 0 R fn131 R (K81 x4 r5 h13) fun _ _ h18=> ?_
   obtain ⟨rfl,rfl⟩:=h18
   refine Ai 16 (by kernel_rfl)<|Bd hm fun r6 h14 hm=>Ao R R R<|Aw 0 R fn90 R (K78 x5 r6 h14) fun _ _ h17=> ?_
   obtain ⟨rfl,rfl⟩:=h17
   refine Au 17 R R R (by kernel_rfl) (A5 pl143 R R)<|Ai 18 (by kernel_rfl)<|Ao R R R<|Ax ap39 R R R R R fun b4=>Ai 19 (by kernel_rfl)<|Bd hm fun l2 h16 hm=>Ao R R R<|Bs 2 T_api_Taint.vv (l:=x2.Taints) (l2:=[(⟨r4,r5,r6⟩ : T_api_Taint)]) ap39 R R (sT_row 0 T_api_Taint.vv el39 R R) h16 fun ob4 cap4=>An tbk [20,21] [] (by kernel_rfl) R R R<|Ai 22 (by kernel_rfl)<|Ao R R R<|Al (i:=1) R R R ld39 R R R<|Ay (by kernel_rfl)<|?_
   obtain rfl:=Option.some.inj hm
   exact ⟨.inr R,_,.nil,[3,1,4,2],_,R,ob,cap,ob4,cap4,R,R⟩
  ·refine Bd hm fun r7 h19 hm=>Ao R R R<|Aw 0 R fn131 R (K81 x4 r7 h19) fun _ _ h30=> ?_
   obtain ⟨rfl,rfl⟩:=h30
   refine B0 [4,16] (by kernel_rfl) ⟨?_,?_,trivial⟩
   ·refine Ao R R R<|B4 (Bq (i:=0) R R ld39 R)<|Ai 16 (by kernel_rfl)<|Bd hm fun r8 h20 hm=>Ao R R R<|Aw 0 R fn90 R (K78 x5 r8 h20) fun _ _ h23=> ?_
    obtain ⟨rfl,rfl⟩:=h23
    refine Au 17 R R R (by kernel_rfl) (A5 pl143 R R)<|Ai 18 (by kernel_rfl)<|Ao R R R<|Ax ap39 R R R R R fun b5=>Ai 19 (by kernel_rfl)<|Bd hm fun l3 h22 hm=>Ao R R R<|Bs 2 T_api_Taint.vv (l:=x2.Taints) (l2:=[(⟨r4,r7,r8⟩ : T_api_Taint)]) ap39 R R (sT_row 0 T_api_Taint.vv el39 R R) h22 fun ob5 cap5=>An tbk [20,21] [] (by kernel_rfl) R R R<|Ai 22 (by kernel_rfl)<|Ao R R R<|Al (i:=1) R R R ld39 R R R<|Ay (by kernel_rfl)<|?_
    obtain rfl:=Option.some.inj hm
    exact ⟨.inr R,_,.nil,[3,1,4,2],_,R,ob,cap,ob5,cap5,R,R⟩
   ·refine Bd hm fun r9 h24 hm=>Ao R R R<|Aw 0 R fn90 R (K78 x5 r9 h24) fun _ _ h29=> ?_
    obtain ⟨rfl,rfl⟩:=h29
    refine Au 17 R R R (by kernel_rfl) (A5 pl143 R R)<|?_
    refine B0 [4,18] (by kernel_rfl) ⟨?_,?_,trivial⟩
    ·refine Ao R R R<|B4 (Bq (i:=0) R R ld39 R)<|Ai 18 (by kernel_rfl)<|Ao R R R<|Ax ap39 R R R R R fun b6=>Ai 19 (by kernel_rfl)<|Bd hm fun l4 h26 hm=>Ao R R R<|Bs 2 T_api_Taint.vv (l:=x2.Taints) (l2:=[(⟨r4,r7,r9⟩ : T_api_Taint)]) ap39 R R (sT_row 0 T_api_Taint.vv el39 R R) h26 fun ob6 cap6=>An tbk [20,21] [] (by kernel_rfl) R R R<|Ai 22 (by kernel_rfl)<|Ao R R R<|Al (i:=1) R R R ld39 R R R<|Ay (by kernel_rfl)<|?_
     obtain rfl:=Option.some.inj hm
     exact ⟨.inr R,_,.nil,[3,1,4,2],_,R,ob,cap,ob6,cap6,R,R⟩
    ·refine Ao R R R<|Ax ap39 R R R R R fun b7=>Ai 4 (by kernel_rfl)<|Ao R R R<|B4 (Bq (i:=1) R R ld39 R)<|Ai 19 (by kernel_rfl)<|Bd hm fun l5 h28 hm=>Ao R R R<|Bs 2 T_api_Taint.vv (l:=x2.Taints) (l2:=[(⟨r4,r7,r9⟩ : T_api_Taint)]) ap39 R R (sT_row 0 T_api_Taint.vv el39 R R) h28 fun ob7 cap7=>An tbk [20,21] [] (by kernel_rfl) R R R<|Ai 22 (by kernel_rfl)<|Ao R R R<|Al (i:=1) R R R ld39 R R R<|Ay (by kernel_rfl)<|?_
     obtain rfl:=Option.some.inj hm
     exact ⟨.inr R,_,.nil,[3,1,4,2],_,R,ob,cap,ob7,cap7,R,R⟩

/-! (*trireme/spec.reader).field -/
def spec_reader_field_x.l1 (r : ByteArray × List Int) : Nat → ByteArray → Option ByteArray
 | 0, _ => none
 | n + 1, says4 =>
  if (decide ((says4.size : Int) < (r.2.length : Int))) = true then
   (V.cat says4 (⟨#[43]⟩ : ByteArray)).bind fun v3 =>
   spec_reader_field_x.l1 r n v3
  else
   some says4
def spec_reader_field_x.l2 (r_ : T_spec_reader) (x : T_api_Machine) (r : ByteArray × List Int) (says2 : ByteArray) : List Int → Nat → (List I_any20) → Option (Out (T_spec_reader × T_api_Machine) (List I_any20))
 | [], k, x9 => some (Out.go x9)
 | x11 :: l2, k, x9 =>
  (V.gl ((⟨r_.l, (), (V.mp r_.had r.1 (i64.wrap (((V.mg r_.had r.1).getD 0) + 1))), r_.e, r_.at_⟩ : T_spec_reader).l) x11).bind fun x12 =>
  (V.gi says2 (k : Int)).bind fun v4 =>
  (spec_value x12 v4).bind fun r4 =>
  if (r4.2 != 0) = true then
   (V.gl ((⟨r_.l, (), (V.mp r_.had r.1 (i64.wrap (((V.mg r_.had r.1).getD 0) + 1))), r_.e, r_.at_⟩ : T_spec_reader).l) x11).bind fun x13 =>
   (spec_reader_fail_x (⟨r_.l, (), (V.mp r_.had r.1 (i64.wrap (((V.mg r_.had r.1).getD 0) + 1))), r_.e, r_.at_⟩ : T_spec_reader) x r4.2 x13.At).bind fun r5 =>
   some (Out.ret (r5, x))
  else
   (V.ap 16 x9 [r4.1]).bind fun x14 =>
   spec_reader_field_x.l2 r_ x r says2 l2 (k + 1) x14
def spec_reader_field_x (r_ : T_spec_reader) (x : T_api_Machine) (i : Int) : Option (T_spec_reader × T_api_Machine) :=
 (V.gl r_.l i).bind fun x2 =>
 (spec_reader_head_x r_ x i).bind fun r =>
 ((if (V.seq (⟨#[103, 114, 111, 117, 112]⟩ : ByteArray) r.1) = true then (V.gl r_.l i).bind fun x3 =>
 some ((V.seq (⟨#[119]⟩ : ByteArray) (⟨#[]⟩ : ByteArray)) == (x3.Kind == 3)) else some false).bind fun c =>
 if c = true then
  some ((⟨#[103, 114, 111, 117, 112]⟩ : ByteArray), (⟨#[119]⟩ : ByteArray), 1)
 else
  some ((⟨#[]⟩ : ByteArray), (⟨#[]⟩ : ByteArray), 0)).bind fun j =>
 ((if (V.seq (⟨#[114, 101, 97, 100, 121]⟩ : ByteArray) r.1) = true then (V.gl r_.l i).bind fun x4 =>
 some ((V.seq (⟨#[]⟩ : ByteArray) (⟨#[]⟩ : ByteArray)) == (x4.Kind == 3)) else some false).bind fun c2 =>
 if c2 = true then
  some ((⟨#[114, 101, 97, 100, 121]⟩ : ByteArray), (⟨#[]⟩ : ByteArray), 2)
 else
  some (j.1, j.2.1, j.2.2)).bind fun j2 =>
 ((if (V.seq (⟨#[104, 97, 115]⟩ : ByteArray) r.1) = true then (V.gl r_.l i).bind fun x5 =>
 some ((V.seq (⟨#[109, 112, 112, 110, 110]⟩ : ByteArray) (⟨#[]⟩ : ByteArray)) == (x5.Kind == 3)) else some false).bind fun c3 =>
 if c3 = true then
  some ((⟨#[104, 97, 115]⟩ : ByteArray), (⟨#[109, 112, 112, 110, 110]⟩ : ByteArray), 3)
 else
  some (j2.1, j2.2.1, j2.2.2)).bind fun j3 =>
 ((if (V.seq (⟨#[108, 97, 98, 101, 108]⟩ : ByteArray) r.1) = true then (V.gl r_.l i).bind fun x6 =>
 some ((V.seq (⟨#[119, 97]⟩ : ByteArray) (⟨#[]⟩ : ByteArray)) == (x6.Kind == 3)) else some false).bind fun c4 =>
 if c4 = true then
  some ((⟨#[108, 97, 98, 101, 108]⟩ : ByteArray), (⟨#[119, 97]⟩ : ByteArray), true, 4)
 else
  some (j3.1, j3.2.1, false, j3.2.2)).bind fun j4 =>
 ((if (V.seq (⟨#[116, 97, 105, 110, 116]⟩ : ByteArray) r.1) = true then (V.gl r_.l i).bind fun x7 =>
 some ((V.seq (⟨#[119, 97, 101]⟩ : ByteArray) (⟨#[]⟩ : ByteArray)) == (x7.Kind == 3)) else some false).bind fun c5 =>
 if c5 = true then
  some ((⟨#[116, 97, 105, 110, 116]⟩ : ByteArray), (⟨#[119, 97, 101]⟩ : ByteArray), true, 5)
 else
  some (j4.1, j4.2.1, j4.2.2.1, j4.2.2.2)).bind fun j5 =>
 if ((V.seq j5.1 (⟨#[]⟩ : ByteArray)) || ((decide (((V.mg (V.mp r_.had r.1 (i64.wrap (((V.mg r_.had r.1).getD 0) + 1))) r.1).getD 0) > 1)) && (!j5.2.2.1))) = true then
  (spec_reader_fail_x (⟨r_.l, (), (V.mp r_.had r.1 (i64.wrap (((V.mg r_.had r.1).getD 0) + 1))), r_.e, r_.at_⟩ : T_spec_reader) x 13 x2.At).bind fun r2 =>
  some (r2, x)
 else
  ((if (decide ((j5.2.1.size : Int) > 0)) = true then (V.gi j5.2.1 (i64.wrap ((j5.2.1.size : Int) - 1))).bind fun v =>
  some (v == 43) else some false).bind fun c6 =>
  if c6 = true then
   (V.ss j5.2.1 none (some (i64.wrap ((j5.2.1.size : Int) - 1)))).bind fun v2 =>
   (spec_reader_field_x.l1 r FU v2).bind fun says52 =>
   some says52
  else
   some j5.2.1).bind fun says2 =>
  if ((r.2.length : Int) != (says2.size : Int)) = true then
   (spec_reader_fail_x (⟨r_.l, (), (V.mp r_.had r.1 (i64.wrap (((V.mg r_.had r.1).getD 0) + 1))), r_.e, r_.at_⟩ : T_spec_reader) x 12 x2.At).bind fun r3 =>
   some (r3, x)
  else
   (spec_reader_field_x.l2 r_ x r says2 r.2 0 ([] : List I_any20)).bind fun o8 =>
   o8.on fun x102 =>
   if j5.2.2.2 = 1 then
    (spec_text_1_x x102 x).bind fun r6 =>
    some ((⟨r_.l, (), (V.mp r_.had r.1 (i64.wrap (((V.mg r_.had r.1).getD 0) + 1))), r_.e, r_.at_⟩ : T_spec_reader), r6)
   else
   if j5.2.2.2 = 2 then
    (spec_flag_1_x_x_x_x x102 x).bind fun r7 =>
    some ((⟨r_.l, (), (V.mp r_.had r.1 (i64.wrap (((V.mg r_.had r.1).getD 0) + 1))), r_.e, r_.at_⟩ : T_spec_reader), r7)
   else
   if j5.2.2.2 = 3 then
    (spec_common_1 x102 x).bind fun r8 =>
    some ((⟨r_.l, (), (V.mp r_.had r.1 (i64.wrap (((V.mg r_.had r.1).getD 0) + 1))), r_.e, r_.at_⟩ : T_spec_reader), r8)
   else
   if j5.2.2.2 = 4 then
    (spec_pair_1_x_x_x_x x102 x).bind fun r9 =>
    some ((⟨r_.l, (), (V.mp r_.had r.1 (i64.wrap (((V.mg r_.had r.1).getD 0) + 1))), r_.e, r_.at_⟩ : T_spec_reader), r9)
   else
   if j5.2.2.2 = 5 then
    (spec_common_2 x102 x).bind fun r10 =>
    some ((⟨r_.l, (), (V.mp r_.had r.1 (i64.wrap (((V.mg r_.had r.1).getD 0) + 1))), r_.e, r_.at_⟩ : T_spec_reader), r10)
   else
    none
theorem K125 (r_ : T_spec_reader) (x : T_api_Machine) (i : Int) (b : Nat) (b2 : Nat) (b3 : Nat) (cap : Nat) (b4 : Nat) (b5 : Nat) (ob : Option Nat) (cap2 : Nat) (ob2 : Option Nat) (cap3 : Nat) (b6 : Nat) (b7 : Nat) (b8 : Nat) : ∀ r : T_spec_reader × T_api_Machine, spec_reader_field_x r_ x i = some r → VC Tryz.prog 126 [.ptr b 0, Iw i] [.box b 165 [L100 r_.l, .sl (some b3) 5 cap, .map b2, Iw r_.e, Iw r_.at_], .map b2 (List.map (pf VV.str (VV.int .i64)) r_.had), .row (some b3) 110 cap (KR3 b4 b6 b7 b8), .box b4 108 [.ptr b5 1], .box b5 41 [.str x.Name, .str x.Group, Iw x.Has.Cpu, Iw x.Has.Mem, Iw x.Has.Disk, Iw x.Has.Pods, Iw x.Has.Dev, Z141 ob x.Labels cap2, Z143 ob2 x.Taints cap3, .bool x.Ready], Q141 ob cap2 x.Labels, Q143 ob2 cap3 x.Taints, .box b6 112 [.ptr b5 9], .box b7 114 [.ptr b5 0], .box b8 169 [.ptr b5 7]] fun zx zH => ∃ (b0_2 : Nat) (ob3_7 : Option Nat) (cap3_7 : Nat) (ob3_8 : Option Nat) (cap3_8 : Nat), zx = .tup [] ∧ zH = [.box b 165 [L100 r.1.l, .sl (some b3) 5 cap, .map b0_2, Iw r.1.e, Iw r.1.at_], .map b0_2 (List.map (pf VV.str (VV.int .i64)) r.1.had), .row (some b3) 110 cap (KR3 b4 b6 b7 b8), .box b4 108 [.ptr b5 1], .box b5 41 [.str r.2.Name, .str r.2.Group, Iw r.2.Has.Cpu, Iw r.2.Has.Mem, Iw r.2.Has.Disk, Iw r.2.Has.Pods, Iw r.2.Has.Dev, Z141 ob3_7 r.2.Labels cap3_7, Z143 ob3_8 r.2.Taints cap3_8, .bool r.2.Ready], Q141 ob3_7 cap3_7 r.2.Labels, Q143 ob3_8 cap3_8 r.2.Taints, .box b6 112 [.ptr b5 9], .box b7 114 [.ptr b5 0], .box b8 169 [.ptr b5 7]] := by
 refine B2 [] Du R R R fun r hm=>?_
 unfold spec_reader_field_x at hm
 refine Ae<|Ab tbk [0] 5 R R<|Bd hm fun x2 h1 hm=>Aa R R (A2 T_api_Node.vv R R el36 h1)<|Ab tbk [] 3 R R<|Ac<|Ae<|Ab tbk [] 2 R R<|Ad R R<|A1 hm 10 R fn163 R (K118 _ _ _ _ _ _ _ _ _ _ _ _ _ _ _ _) fun r hm=>Ab tbk [] 5 R R<|Ac<|Ae<|Ad R R<|A9 z110 fun b9=>Ac<|Af<|Ae<|Ab tbk [1] 4 R R<|Aa R R (VP.lenR R Dh)<|Aa R R (Ak R)<|Ac<|A4<|VW.loop 6<|Ct<|Ag tbk [] R R<|Af<|Bp R (by decide)<|Aj<|Ca hm (fun _ (_:Unit)=>[(0,.ptr b 0),(1,Iw i),(4,Iw x2.At),(5,.str r.1),(6,L3 r.2),(7,.ptr b9 0),(34,.sl (some b3) 5 cap),(35,Iw (5 : Int)),(36,Iw (0 : Int))]) (fun j (_:Unit)=>[.box b9 110 [.str j.1,.str j.2.1,.bool false,AL4 j.2.2 b4 b6 b7 b8],.box b 165 [L100 r_.l,.sl (some b3) 5 cap,.map b2,Iw r_.e,Iw r_.at_],.map b2 (List.map (pf VV.str (VV.int .i64)) r_.had),.row (some b3) 110 cap (KR3 b4 b6 b7 b8),.box b4 108 [.ptr b5 1],.box b5 41 [.str x.Name,.str x.Group,Iw x.Has.Cpu,Iw x.Has.Mem,Iw x.Has.Disk,Iw x.Has.Pods,Iw x.Has.Dev,Z141 ob x.Labels cap2,Z143 ob2 x.Taints cap3,.bool x.Ready],Q141 ob cap2 x.Labels,Q143 ob2 cap3 x.Taints,.box b6 112 [.ptr b5 9],.box b7 114 [.ptr b5 0],.box b8 169 [.ptr b5 7]]) (fun o hm=>A4<|Ae<|Aa R R (B7 R R el96 (by decide) (by decide))<|Aa R R (Bz (i:=3) R R R R ld110 R)<|Ad R R<|A9 z110 fun b10=>Ad R R<|Al (i:=0) R R R ld110 R R R<|Ac<|Af<|A3 0 mixed<|An tbk [0,1,2,3,4] [0] (by kernel_rfl) R R R<|Cj hm [18,17,16,15,14,13,12,11,10,9,8,7,6,5,4,3,2,1,0] 58 44 R (fun _ K' h7 J hm=>An tbk [5,6,7,8,9,10,11,12] [0,2] (by kernel_rfl) R R R<|Bd hm fun x3 h8 hm=>Bv 13 R R R R R R (by kernel_rfl) (A2 T_api_Node.vv R R el36 h8)<|An tbk [14,15,16] [] (by kernel_rfl) R R R<|Bv 17 R R R R R R (by kernel_rfl) (B6 Bm R R R)<|Au 18 R R R (by kernel_rfl) (A6 true R R R)<|J 13 R R (Bj hm)) (fun _ K' h7 J hm=>An tbk [5,6,7,8,9,10,11,12,13,14,15,16,17,18] [] (by kernel_rfl) R R R<|J 13 R R (Bj hm)) fun c hm=>Ay (by kernel_rfl)<|Av hm R (fun h10 hm=>Bb<|Ab tbk [0] 1 R R<|Ad R R<|Al (i:=1) R R R ld110 R R R<|Ac<|As () hm (Ah [1,2,3,4,5,6,7,8,9,10,11] (by kernel_rfl) (by kernel_rfl))) fun h10 hm=>Aj<|As () hm (Ah [1,2,3,4,5,6,7,8,9,10,11] (by kernel_rfl) (by kernel_rfl))) fun j _ hm=>Bf tbk [] R R<|Ct<|Ag tbk [] R R<|Af<|Bp R (by decide)<|Aj<|Ca hm (fun _ (_:Unit)=>[(0,.ptr b 0),(1,Iw i),(4,Iw x2.At),(5,.str r.1),(6,L3 r.2),(7,.ptr b9 0),(34,.sl (some b3) 5 cap),(35,Iw (5 : Int)),(36,Iw (1 : Int))]) (fun j2 (_:Unit)=>[.box b9 110 [.str j2.1,.str j2.2.1,.bool false,AL4 j2.2.2 b4 b6 b7 b8],.box b 165 [L100 r_.l,.sl (some b3) 5 cap,.map b2,Iw r_.e,Iw r_.at_],.map b2 (List.map (pf VV.str (VV.int .i64)) r_.had),.row (some b3) 110 cap (KR3 b4 b6 b7 b8),.box b4 108 [.ptr b5 1],.box b5 41 [.str x.Name,.str x.Group,Iw x.Has.Cpu,Iw x.Has.Mem,Iw x.Has.Disk,Iw x.Has.Pods,Iw x.Has.Dev,Z141 ob x.Labels cap2,Z143 ob2 x.Taints cap3,.bool x.Ready],Q141 ob cap2 x.Labels,Q143 ob2 cap3 x.Taints,.box b6 112 [.ptr b5 9],.box b7 114 [.ptr b5 0],.box b8 169 [.ptr b5 7]]) (fun o2 hm=>A4<|Ae<|Aa R R (B7 R R el96 (by decide) (by decide))<|Aa R R (Bz (i:=3) R R R R ld110 R)<|Ad R R<|A9 z110 fun b11=>Ad R R<|Al (i:=0) R R R ld110 R R R<|Ac<|Af<|A3 0 mixed<|An tbk [0,1,2,3,4] [0] (by kernel_rfl) R R R<|Cj hm [18,17,16,15,14,13,12,11,10,9,8,7,6,5,4,3,2,1,0] 58 44 R (fun _ K' h14 J hm=>An tbk [5,6,7,8,9,10,11,12] [0,2] (by kernel_rfl) R R R<|Bd hm fun x4 h15 hm=>Bv 13 R R R R R R (by kernel_rfl) (A2 T_api_Node.vv R R el36 h15)<|An tbk [14,15,16] [] (by kernel_rfl) R R R<|Bv 17 R R R R R R (by kernel_rfl) (B6 Bm R R R)<|Au 18 R R R (by kernel_rfl) (A6 true R R R)<|J 13 R R (Bj hm)) (fun _ K' h14 J hm=>An tbk [5,6,7,8,9,10,11,12,13,14,15,16,17,18] [] (by kernel_rfl) R R R<|J 13 R R (Bj hm)) fun c2 hm=>Ay (by kernel_rfl)<|Av hm R (fun h17 hm=>Bb<|Ab tbk [0] 1 R R<|Ad R R<|Al (i:=1) R R R ld110 R R R<|Ac<|As () hm (Ah [1,2,3,4,5,6,7,8,9,10,11] (by kernel_rfl) (by kernel_rfl))) fun h17 hm=>Aj<|As () hm (Ah [1,2,3,4,5,6,7,8,9,10,11] (by kernel_rfl) (by kernel_rfl))) fun j2 _ hm=>Bf tbk [] R R<|?_
 refine Ct<|Ag tbk [] R R<|Af<|Bp R (by decide)<|Aj<|Ca hm (fun _ (_:Unit)=>[(0,.ptr b 0),(1,Iw i),(4,Iw x2.At),(5,.str r.1),(6,L3 r.2),(7,.ptr b9 0),(34,.sl (some b3) 5 cap),(35,Iw (5 : Int)),(36,Iw (2 : Int))]) (fun j3 (_:Unit)=>[.box b9 110 [.str j3.1,.str j3.2.1,.bool false,AL4 j3.2.2 b4 b6 b7 b8],.box b 165 [L100 r_.l,.sl (some b3) 5 cap,.map b2,Iw r_.e,Iw r_.at_],.map b2 (List.map (pf VV.str (VV.int .i64)) r_.had),.row (some b3) 110 cap (KR3 b4 b6 b7 b8),.box b4 108 [.ptr b5 1],.box b5 41 [.str x.Name,.str x.Group,Iw x.Has.Cpu,Iw x.Has.Mem,Iw x.Has.Disk,Iw x.Has.Pods,Iw x.Has.Dev,Z141 ob x.Labels cap2,Z143 ob2 x.Taints cap3,.bool x.Ready],Q141 ob cap2 x.Labels,Q143 ob2 cap3 x.Taints,.box b6 112 [.ptr b5 9],.box b7 114 [.ptr b5 0],.box b8 169 [.ptr b5 7]]) (fun o3 hm=>A4<|Ae<|Aa R R (B7 R R el96 (by decide) (by decide))<|Aa R R (Bz (i:=3) R R R R ld110 R)<|Ad R R<|A9 z110 fun b12=>Ad R R<|Al (i:=0) R R R ld110 R R R<|Ac<|Af<|A3 0 mixed<|An tbk [0,1,2,3,4] [0] (by kernel_rfl) R R R<|Cj hm [18,17,16,15,14,13,12,11,10,9,8,7,6,5,4,3,2,1,0] 58 44 R (fun _ K' h21 J hm=>An tbk [5,6,7,8,9,10,11,12] [0,2] (by kernel_rfl) R R R<|Bd hm fun x5 h22 hm=>Bv 13 R R R R R R (by kernel_rfl) (A2 T_api_Node.vv R R el36 h22)<|An tbk [14,15,16] [] (by kernel_rfl) R R R<|Bv 17 R R R R R R (by kernel_rfl) (B6 Bm R R R)<|Au 18 R R R (by kernel_rfl) (A6 true R R R)<|J 13 R R (Bj hm)) (fun _ K' h21 J hm=>An tbk [5,6,7,8,9,10,11,12,13,14,15,16,17,18] [] (by kernel_rfl) R R R<|J 13 R R (Bj hm)) fun c3 hm=>Ay (by kernel_rfl)<|Av hm R (fun h24 hm=>Bb<|Ab tbk [0] 1 R R<|Ad R R<|Al (i:=1) R R R ld110 R R R<|Ac<|As () hm (Ah [1,2,3,4,5,6,7,8,9,10,11] (by kernel_rfl) (by kernel_rfl))) fun h24 hm=>Aj<|As () hm (Ah [1,2,3,4,5,6,7,8,9,10,11] (by kernel_rfl) (by kernel_rfl))) fun j3 _ hm=>Bf tbk [] R R<|Ct<|Ag tbk [] R R<|Af<|Bp R (by decide)<|Aj<|Ca hm (fun _ (_:Unit)=>[(0,.ptr b 0),(1,Iw i),(4,Iw x2.At),(5,.str r.1),(6,L3 r.2),(7,.ptr b9 0),(34,.sl (some b3) 5 cap),(35,Iw (5 : Int)),(36,Iw (3 : Int))]) (fun j4 (_:Unit)=>[.box b9 110 [.str j4.1,.str j4.2.1,.bool j4.2.2.1,AL4 j4.2.2.2 b4 b6 b7 b8],.box b 165 [L100 r_.l,.sl (some b3) 5 cap,.map b2,Iw r_.e,Iw r_.at_],.map b2 (List.map (pf VV.str (VV.int .i64)) r_.had),.row (some b3) 110 cap (KR3 b4 b6 b7 b8),.box b4 108 [.ptr b5 1],.box b5 41 [.str x.Name,.str x.Group,Iw x.Has.Cpu,Iw x.Has.Mem,Iw x.Has.Disk,Iw x.Has.Pods,Iw x.Has.Dev,Z141 ob x.Labels cap2,Z143 ob2 x.Taints cap3,.bool x.Ready],Q141 ob cap2 x.Labels,Q143 ob2 cap3 x.Taints,.box b6 112 [.ptr b5 9],.box b7 114 [.ptr b5 0],.box b8 169 [.ptr b5 7]]) (fun o4 hm=>A4<|Ae<|Aa R R (B7 R R el96 (by decide) (by decide))<|Aa R R (Bz (i:=3) R R R R ld110 R)<|Ad R R<|A9 z110 fun b13=>Ad R R<|Al (i:=0) R R R ld110 R R R<|Ac<|Af<|A3 0 mixed<|An tbk [0,1,2,3,4] [0] (by kernel_rfl) R R R<|Cj hm [18,17,16,15,14,13,12,11,10,9,8,7,6,5,4,3,2,1,0] 58 44 R (fun _ K' h28 J hm=>An tbk [5,6,7,8,9,10,11,12] [0,2] (by kernel_rfl) R R R<|Bd hm fun x6 h29 hm=>Bv 13 R R R R R R (by kernel_rfl) (A2 T_api_Node.vv R R el36 h29)<|An tbk [14,15,16] [] (by kernel_rfl) R R R<|Bv 17 R R R R R R (by kernel_rfl) (B6 Bm R R R)<|Au 18 R R R (by kernel_rfl) (A6 true R R R)<|J 13 R R (Bj hm)) (fun _ K' h28 J hm=>An tbk [5,6,7,8,9,10,11,12,13,14,15,16,17,18] [] (by kernel_rfl) R R R<|J 13 R R (Bj hm)) fun c4 hm=>Ay (by kernel_rfl)<|Av hm R (fun h31 hm=>Bb<|Ab tbk [0] 1 R R<|Ad R R<|Al (i:=1) R R R ld110 R R R<|Ac<|As () hm (Ah [1,2,3,4,5,6,7,8,9,10,11] (by kernel_rfl) (by kernel_rfl))) fun h31 hm=>Aj<|As () hm (Ah [1,2,3,4,5,6,7,8,9,10,11] (by kernel_rfl) (by kernel_rfl))) fun j4 _ hm=>Bf tbk [] R R<|?_
 refine Ct<|Ag tbk [] R R<|Af<|Bp R (by decide)<|Aj<|Ca hm (fun _ (_:Unit)=>[(0,.ptr b 0),(1,Iw i),(4,Iw x2.At),(5,.str r.1),(6,L3 r.2),(7,.ptr b9 0),(34,.sl (some b3) 5 cap),(35,Iw (5 : Int)),(36,Iw (4 : Int))]) (fun j5 (_:Unit)=>[.box b9 110 [.str j5.1,.str j5.2.1,.bool j5.2.2.1,AL4 j5.2.2.2 b4 b6 b7 b8],.box b 165 [L100 r_.l,.sl (some b3) 5 cap,.map b2,Iw r_.e,Iw r_.at_],.map b2 (List.map (pf VV.str (VV.int .i64)) r_.had),.row (some b3) 110 cap (KR3 b4 b6 b7 b8),.box b4 108 [.ptr b5 1],.box b5 41 [.str x.Name,.str x.Group,Iw x.Has.Cpu,Iw x.Has.Mem,Iw x.Has.Disk,Iw x.Has.Pods,Iw x.Has.Dev,Z141 ob x.Labels cap2,Z143 ob2 x.Taints cap3,.bool x.Ready],Q141 ob cap2 x.Labels,Q143 ob2 cap3 x.Taints,.box b6 112 [.ptr b5 9],.box b7 114 [.ptr b5 0],.box b8 169 [.ptr b5 7]]) (fun o5 hm=>A4<|Ae<|Aa R R (B7 R R el96 (by decide) (by decide))<|Aa R R (Bz (i:=3) R R R R ld110 R)<|Ad R R<|A9 z110 fun b14=>Ad R R<|Al (i:=0) R R R ld110 R R R<|Ac<|Af<|A3 0 mixed<|An tbk [0,1,2,3,4] [0] (by kernel_rfl) R R R<|Cj hm [18,17,16,15,14,13,12,11,10,9,8,7,6,5,4,3,2,1,0] 58 44 R (fun _ K' h35 J hm=>An tbk [5,6,7,8,9,10,11,12] [0,2] (by kernel_rfl) R R R<|Bd hm fun x7 h36 hm=>Bv 13 R R R R R R (by kernel_rfl) (A2 T_api_Node.vv R R el36 h36)<|An tbk [14,15,16] [] (by kernel_rfl) R R R<|Bv 17 R R R R R R (by kernel_rfl) (B6 Bm R R R)<|Au 18 R R R (by kernel_rfl) (A6 true R R R)<|J 13 R R (Bj hm)) (fun _ K' h35 J hm=>An tbk [5,6,7,8,9,10,11,12,13,14,15,16,17,18] [] (by kernel_rfl) R R R<|J 13 R R (Bj hm)) fun c5 hm=>Ay (by kernel_rfl)<|Av hm R (fun h38 hm=>Bb<|Ab tbk [0] 1 R R<|Ad R R<|Al (i:=1) R R R ld110 R R R<|Ac<|As () hm (Ah [1,2,3,4,5,6,7,8,9,10,11] (by kernel_rfl) (by kernel_rfl))) fun h38 hm=>Aj<|As () hm (Ah [1,2,3,4,5,6,7,8,9,10,11] (by kernel_rfl) (by kernel_rfl))) fun j5 _ hm=>Bf tbk [] R R<|Ct<|Ag tbk [] R R<|Af<|Cc R (by decide)<|Be<|Af<|Ae<|Ab tbk [1] 5 R R<|Aa R R (C8 2 (kf:=VV.str) (vf:=(VV.int .i64)) (l:=r_.had) (k:=r.1) (z:=(0 : Int)) false mk9 Cf R R R zc3 R)<|Aa R R (Bh R R R)<|Ad R R<|Dl 2 (kf:=VV.str) (vf:=(VV.int .i64)) (l:=r_.had) (k:=r.1) (z:=(IntKind.i64.wrap (((V.mg r_.had r.1).getD (0 : Int)) + (1 : Int)))) mk9 Cf R R R R<|Ac<|Ae<|Ab tbk [0] 4 R R<|C5 13 84 71 R (fun K' J=>Ab tbk [] 13 R R<|J 12 R R R) (fun h39 K' J=>Ab tbk [1] 5 R R<|Bt R R R R R (C8 2 (kf:=VV.str) (vf:=(VV.int .i64)) (l:=(V.mp r_.had r.1 (IntKind.i64.wrap (((V.mg r_.had r.1).getD (0 : Int)) + (1 : Int))))) (k:=r.1) (z:=(0 : Int)) false mk9 Cf R R R zc3 R)<|Ab tbk [] 2 R R<|Bx tbk [0] 4 83 79 R R R R R<|Aa R R (A6 false R R R)<|J 9 R R R)<|Ac<|?_
 refine Av hm R (fun h41 hm=>?_) fun h41 hm=> ?_
 ·refine Ae<|Ab tbk [] 2 R R<|A0 (A7 [1,2,3,4,5,6,7,8,9,10,0] R)<|Ad R R<|De hm 10 R fn164 R (K119 _ _ _ _ _ _ _ _ _ _ _ _ _ _ _ _ _) fun r2 b15 hm=>Ac<|?_
  obtain rfl:=Option.some.inj hm
  exact Cm ⟨.inl R,_,.nil,[0,1,2,3,4,5,6,7,8,9],_,R,b15,ob,cap2,ob2,cap3,R,R⟩
 refine Aj<|Ag tbk [0] R R<|Ca hm (fun says2 (_:Unit)=>[(0,.ptr b 0),(4,Iw x2.At),(6,L3 r.2),(7,.ptr b9 0),(10,.str says2)]) (fun _ (_:Unit)=>[.box b9 110 [.str j5.1,.str j5.2.1,.bool j5.2.2.1,AL4 j5.2.2.2 b4 b6 b7 b8],.box b 165 [L100 ((⟨r_.l,(),(V.mp r_.had r.1 (IntKind.i64.wrap (((V.mg r_.had r.1).getD (0 : Int)) + (1 : Int)))),r_.e,r_.at_⟩ : T_spec_reader).l),.sl (some b3) 5 cap,.map b2,Iw ((⟨r_.l,(),(V.mp r_.had r.1 (IntKind.i64.wrap (((V.mg r_.had r.1).getD (0 : Int)) + (1 : Int)))),r_.e,r_.at_⟩ : T_spec_reader).e),Iw ((⟨r_.l,(),(V.mp r_.had r.1 (IntKind.i64.wrap (((V.mg r_.had r.1).getD (0 : Int)) + (1 : Int)))),r_.e,r_.at_⟩ : T_spec_reader).at_)],.map b2 (List.map (pf VV.str (VV.int .i64)) ((⟨r_.l,(),(V.mp r_.had r.1 (IntKind.i64.wrap (((V.mg r_.had r.1).getD (0 : Int)) + (1 : Int)))),r_.e,r_.at_⟩ : T_spec_reader).had)),.row (some b3) 110 cap (KR3 b4 b6 b7 b8),.box b4 108 [.ptr b5 1],.box b5 41 [.str x.Name,.str x.Group,Iw x.Has.Cpu,Iw x.Has.Mem,Iw x.Has.Disk,Iw x.Has.Pods,Iw x.Has.Dev,Z141 ob x.Labels cap2,Z143 ob2 x.Taints cap3,.bool x.Ready],Q141 ob cap2 x.Labels,Q143 ob2 cap3 x.Taints,.box b6 112 [.ptr b5 9],.box b7 114 [.ptr b5 0],.box b8 169 [.ptr b5 7]]) (fun o6 hm=>?_) fun says2 _ hm=> ?_
 ·refine Ae<|Aa R R (Ak R)<|Aa R R (B1 R Aq)<|Aa R R (Am R)<|Ac<|Ae<|Ab tbk [] 3 R R<|Br hm 6 100 94 R (fun _ K' h45 J hm=>Ab tbk [] 3 R R<|Bd hm fun v h46 hm=>Bt R R R R R (Ci R R Aq h46)<|Ab tbk [] 2 R R<|J 5 R R (Bj hm)) (fun _ K' h45 J hm=>Ab tbk [] 6 R R<|J 5 R R (Bj hm)) fun c6 hm=>Ac<|Av hm R (fun h48 hm=>?_) fun h48 hm=> ?_
  ·refine Ae<|Ab tbk [] 3 R R<|Bd hm fun v2 h49 hm=>Aa R R (C1 R R R Aq h49)<|Aa R R (Am R)<|Ac<|Cx hm (fun says52 (_:Unit)=>[(0,.ptr b 0),(4,Iw x2.At),(6,L3 r.2),(7,.ptr b9 0),(10,.str says52)]) (fun _ (_:Unit)=>[.box b9 110 [.str j5.1,.str j5.2.1,.bool j5.2.2.1,AL4 j5.2.2.2 b4 b6 b7 b8],.box b 165 [L100 ((⟨r_.l,(),(V.mp r_.had r.1 (IntKind.i64.wrap (((V.mg r_.had r.1).getD (0 : Int)) + (1 : Int)))),r_.e,r_.at_⟩ : T_spec_reader).l),.sl (some b3) 5 cap,.map b2,Iw ((⟨r_.l,(),(V.mp r_.had r.1 (IntKind.i64.wrap (((V.mg r_.had r.1).getD (0 : Int)) + (1 : Int)))),r_.e,r_.at_⟩ : T_spec_reader).e),Iw ((⟨r_.l,(),(V.mp r_.had r.1 (IntKind.i64.wrap (((V.mg r_.had r.1).getD (0 : Int)) + (1 : Int)))),r_.e,r_.at_⟩ : T_spec_reader).at_)],.map b2 (List.map (pf VV.str (VV.int .i64)) ((⟨r_.l,(),(V.mp r_.had r.1 (IntKind.i64.wrap (((V.mg r_.had r.1).getD (0 : Int)) + (1 : Int)))),r_.e,r_.at_⟩ : T_spec_reader).had)),.row (some b3) 110 cap (KR3 b4 b6 b7 b8),.box b4 108 [.ptr b5 1],.box b5 41 [.str x.Name,.str x.Group,Iw x.Has.Cpu,Iw x.Has.Mem,Iw x.Has.Disk,Iw x.Has.Pods,Iw x.Has.Dev,Z141 ob x.Labels cap2,Z143 ob2 x.Taints cap3,.bool x.Ready],Q141 ob cap2 x.Labels,Q143 ob2 cap3 x.Taints,.box b6 112 [.ptr b5 9],.box b7 114 [.ptr b5 0],.box b8 169 [.ptr b5 7]]) (fun o7 hm=>?_) fun says52 _ hm=> ?_
   ·refine Ck (fun zn (zs:ByteArray)=>spec_reader_field_x.l1 r zn zs) (fun zs (_:Unit)=>[(0,.ptr b 0),(4,Iw x2.At),(6,L3 r.2),(7,.ptr b9 0),(10,.str zs)]) (fun _ (_:Unit)=>[.box b9 110 [.str j5.1,.str j5.2.1,.bool j5.2.2.1,AL4 j5.2.2.2 b4 b6 b7 b8],.box b 165 [L100 ((⟨r_.l,(),(V.mp r_.had r.1 (IntKind.i64.wrap (((V.mg r_.had r.1).getD (0 : Int)) + (1 : Int)))),r_.e,r_.at_⟩ : T_spec_reader).l),.sl (some b3) 5 cap,.map b2,Iw ((⟨r_.l,(),(V.mp r_.had r.1 (IntKind.i64.wrap (((V.mg r_.had r.1).getD (0 : Int)) + (1 : Int)))),r_.e,r_.at_⟩ : T_spec_reader).e),Iw ((⟨r_.l,(),(V.mp r_.had r.1 (IntKind.i64.wrap (((V.mg r_.had r.1).getD (0 : Int)) + (1 : Int)))),r_.e,r_.at_⟩ : T_spec_reader).at_)],.map b2 (List.map (pf VV.str (VV.int .i64)) ((⟨r_.l,(),(V.mp r_.had r.1 (IntKind.i64.wrap (((V.mg r_.had r.1).getD (0 : Int)) + (1 : Int)))),r_.e,r_.at_⟩ : T_spec_reader).had)),.row (some b3) 110 cap (KR3 b4 b6 b7 b8),.box b4 108 [.ptr b5 1],.box b5 41 [.str x.Name,.str x.Group,Iw x.Has.Cpu,Iw x.Has.Mem,Iw x.Has.Disk,Iw x.Has.Pods,Iw x.Has.Dev,Z141 ob x.Labels cap2,Z143 ob2 x.Taints cap3,.bool x.Ready],Q141 ob cap2 x.Labels,Q143 ob2 cap3 x.Taints,.box b6 112 [.ptr b5 9],.box b7 114 [.ptr b5 0],.box b8 169 [.ptr b5 7]]) v2 () (fun _=>R) hm (Ah [0,1,2,3,4,5,6,7,8,9,10] (by kernel_rfl) (by kernel_rfl)) fun n says4 _ hm=> ?_
    rw [spec_reader_field_x.l1] at hm
    exact Af<|Ae<|Aa R R (Ak R)<|Aa R R (B1 R Aq)<|Aa R R (Ak R)<|Aa R R (Bg (VV.int .i64) R Bi)<|Aa R R (Bh R R R)<|Ac<|Av hm R (fun h52 hm=>Aj<|A4<|Bb<|Aa R R (Ak R)<|Bd hm fun v3 h53 hm=>Aa R R (Bl R R h53)<|Aa R R (Am R)<|Ac<|Ap v3 () hm (Ah [0,1,2,3,4,5,6,7,8,9,10] (by kernel_rfl) (by kernel_rfl))) fun h52 hm=>Be<|As () hm (Ah [0,1,2,3,4,5,6,7,8,9,10] (by kernel_rfl) (by kernel_rfl))
   exact As () hm (Ah [0,1,2,3,4,5,6,7,8,9,10] (by kernel_rfl) (by kernel_rfl))
  exact Aj<|As () hm (Ah [0,1,2,3,4,5,6,7,8,9,10] (by kernel_rfl) (by kernel_rfl))
 refine Af<|Ae<|Aa R R (Ak R)<|Aa R R (Bg (VV.int .i64) R Bi)<|Aa R R (Ak R)<|Aa R R (B1 R Aq)<|Aa R R (Bh R R R)<|Ac<|Av hm R (fun h54 hm=>?_) fun h54 hm=> ?_
 ·refine Ae<|Ab tbk [] 2 R R<|A0 (A7 [1,2,3,4,5,6,7,8,9,10,0] R)<|Ad R R<|De hm 10 R fn164 R (K119 _ _ _ _ _ _ _ _ _ _ _ _ _ _ _ _ _) fun r3 b16 hm=>Ac<|?_
  obtain rfl:=Option.some.inj hm
  exact Cm ⟨.inl R,_,.nil,[0,1,2,3,4,5,6,7,8,9],_,R,b16,ob,cap2,ob2,cap3,R,R⟩
 refine Aj<|Ag tbk [] R R<|Af<|Ae<|Aa R R (Ak R)<|Aa R R (Bg (VV.int .i64) R Bi)<|Aa R R (Ak R)<|Ac<|Cp 120 R fun h60=>Ce hm (fun x102 (gg:Option Nat × Nat)=>[(7,.ptr b9 0),(12,Z20 gg.1 x102 gg.2)]) (fun x102 (gg:Option Nat × Nat)=>[Q20 gg.1 gg.2 x102,.box b9 110 [.str j5.1,.str j5.2.1,.bool j5.2.2.1,AL4 j5.2.2.2 b4 b6 b7 b8],.box b 165 [L100 ((⟨r_.l,(),(V.mp r_.had r.1 (IntKind.i64.wrap (((V.mg r_.had r.1).getD (0 : Int)) + (1 : Int)))),r_.e,r_.at_⟩ : T_spec_reader).l),.sl (some b3) 5 cap,.map b2,Iw ((⟨r_.l,(),(V.mp r_.had r.1 (IntKind.i64.wrap (((V.mg r_.had r.1).getD (0 : Int)) + (1 : Int)))),r_.e,r_.at_⟩ : T_spec_reader).e),Iw ((⟨r_.l,(),(V.mp r_.had r.1 (IntKind.i64.wrap (((V.mg r_.had r.1).getD (0 : Int)) + (1 : Int)))),r_.e,r_.at_⟩ : T_spec_reader).at_)],.map b2 (List.map (pf VV.str (VV.int .i64)) ((⟨r_.l,(),(V.mp r_.had r.1 (IntKind.i64.wrap (((V.mg r_.had r.1).getD (0 : Int)) + (1 : Int)))),r_.e,r_.at_⟩ : T_spec_reader).had)),.row (some b3) 110 cap (KR3 b4 b6 b7 b8),.box b4 108 [.ptr b5 1],.box b5 41 [.str x.Name,.str x.Group,Iw x.Has.Cpu,Iw x.Has.Mem,Iw x.Has.Disk,Iw x.Has.Pods,Iw x.Has.Dev,Z141 ob x.Labels cap2,Z143 ob2 x.Taints cap3,.bool x.Ready],Q141 ob cap2 x.Labels,Q143 ob2 cap3 x.Taints,.box b6 112 [.ptr b5 9],.box b7 114 [.ptr b5 0],.box b8 169 [.ptr b5 7]]) (fun o8 hm h59=>?_) fun x102=>Pq fun ob5 cap6 hm=> ?_
 ·refine Cu (r.2) (fun zl zk (zs:List I_any20)=>spec_reader_field_x.l2 r_ x r says2 zl zk zs) (fun k zs (zg:Option Nat × Nat)=>[(0,.ptr b 0),(7,.ptr b9 0),(10,.str says2),(12,Z20 zg.1 zs zg.2),(120,L3 r.2),(121,Iw (r.2.length : Int)),(122,Iw (k : Int))]) (fun _ zs (zg:Option Nat × Nat)=>[Q20 zg.1 zg.2 zs,.box b9 110 [.str j5.1,.str j5.2.1,.bool j5.2.2.1,AL4 j5.2.2.2 b4 b6 b7 b8],.box b 165 [L100 ((⟨r_.l,(),(V.mp r_.had r.1 (IntKind.i64.wrap (((V.mg r_.had r.1).getD (0 : Int)) + (1 : Int)))),r_.e,r_.at_⟩ : T_spec_reader).l),.sl (some b3) 5 cap,.map b2,Iw ((⟨r_.l,(),(V.mp r_.had r.1 (IntKind.i64.wrap (((V.mg r_.had r.1).getD (0 : Int)) + (1 : Int)))),r_.e,r_.at_⟩ : T_spec_reader).e),Iw ((⟨r_.l,(),(V.mp r_.had r.1 (IntKind.i64.wrap (((V.mg r_.had r.1).getD (0 : Int)) + (1 : Int)))),r_.e,r_.at_⟩ : T_spec_reader).at_)],.map b2 (List.map (pf VV.str (VV.int .i64)) ((⟨r_.l,(),(V.mp r_.had r.1 (IntKind.i64.wrap (((V.mg r_.had r.1).getD (0 : Int)) + (1 : Int)))),r_.e,r_.at_⟩ : T_spec_reader).had)),.row (some b3) 110 cap (KR3 b4 b6 b7 b8),.box b4 108 [.ptr b5 1],.box b5 41 [.str x.Name,.str x.Group,Iw x.Has.Cpu,Iw x.Has.Mem,Iw x.Has.Disk,Iw x.Has.Pods,Iw x.Has.Dev,Z141 ob x.Labels cap2,Z143 ob2 x.Taints cap3,.bool x.Ready],Q141 ob cap2 x.Labels,Q143 ob2 cap3 x.Taints,.box b6 112 [.ptr b5 9],.box b7 114 [.ptr b5 0],.box b8 169 [.ptr b5 7]]) ([] : List I_any20) (none,0) hm (B5 (Bc 20) (Ah [0,1,2,3,4,5,6,7,8,9,10,11] (by kernel_rfl) (by kernel_rfl))) (fun k x9=>Pq fun ob4 cap5 hk hm=>?_) fun k x11 l2 x9=>Pq fun ob4 cap5 h61 hm=> ?_
  ·rw [spec_reader_field_x.l2] at hm
   exact Ag tbk [] R R<|Af<|Cc R (k_end hk)<|Be<|Ar (ob4,cap5) hm (Ah [0,1,2,3,4,5,6,7,8,9,10,11] (by kernel_rfl) (by kernel_rfl))
  rw [spec_reader_field_x.l2] at hm
  refine Ag tbk [] R R<|Af<|Bp R (k_lt h61)<|Aj<|Af<|A4<|Ae<|Aa R R (Ak R)<|Aa R R (Cr (VV.int .i64) R R el27 h61)<|Ab tbk [] 3 R R<|Ac<|Af<|A3 0 mixed<|An tbk [0,1,2,3,4] [2] (by kernel_rfl) R R R<|Bd hm fun x12 h62 hm=>Au 5 R R R (by kernel_rfl) (A2 T_api_Node.vv R R el36 h62)<|An tbk [6,7,8] [] (by kernel_rfl) R R R<|Bd hm fun v4 h63 hm=>Au 9 R R R (by kernel_rfl) (Ci R R Aq h63)<|Ai 10 (by kernel_rfl)<|Bd hm fun r4 h64 hm=>Ao R R R<|Aw 0 R fn165 R (K77 x12 v4 r4 h64) fun _ _ h70=> ?_
  obtain ⟨rfl,rfl⟩:=h70
  refine An tbk [11,12,13,14,15] [] (by kernel_rfl) R R R<|Ay (by kernel_rfl)<|Af<|Ag tbk [] R R<|Av hm R (fun h65 hm=>?_) fun h65 hm=> ?_
  ·refine Ae<|Ab tbk [2] 7 R R<|Bd hm fun x13 h66 hm=>Aa R R (A2 T_api_Node.vv R R el36 h66)<|Ab tbk [] 2 R R<|A0 (A7 [2,3,4,5,6,7,8,9,10,11,0,1] R)<|Ad R R<|De hm 10 R fn164 R (K119 _ _ _ _ _ _ _ _ _ _ _ _ _ _ _ _ _) fun r5 b17 hm=>Ac<|have hm:=Lr hm h59; ?_
   obtain rfl:=Option.some.inj hm
   exact Cm ⟨.inl R,_,.nil,[0,1,2,3,4,5,6,7,8,9],_,R,b17,ob,cap2,ob2,cap3,R,R⟩
  exact Aj<|Bb<|Ab tbk [] 2 R R<|Ad R R<|Ax ap81 R R R R R fun b18=>Bd hm fun x14 h69 hm=>Ad R R<|Bs 1 I_any20.vv (l:=x9) (l2:=[r4.1]) ap81 R R (sT_row 0 I_any20.vv el81 R R) h69 fun ob6 cap7=>Aa R R (Am R)<|Ac<|Bf tbk [] R R<|Ap x14 (ob6,cap7) hm (B3 [1,2,3,4,5,6,7,8,9,10,11,12] (by kernel_rfl) ⟨R,R,R,R,R,R,congrArg some (k_next h61 h60),trivial⟩)
 refine Bb<|Ab tbk [1] 3 R R<|?_
 rcases V.it_or hm with ⟨h72,hm⟩ | ⟨_,hm⟩
 ·refine A0 (Cg 160 (.clo (.func 137) [] [.ptr b4 0]) R (congrArg (fun zk => V.alt zk [.nilfn,.clo (.func 137) [] [.ptr b4 0],.clo (.func 138) [] [.ptr b6 0],.clo (.func 139) [] [.ptr b7 0],.clo (.func 166) [] [.ptr b8 0],.clo (.func 140) [] [.ptr b7 0]]) h72))<|A0 (Az 0 [(12,L20 x102),(161,L20 x102)] R ⟨⟨_,R,.here _ R⟩,⟨_,R,.here _ R⟩,trivial⟩ (FzH.refl _))<|Bd hm fun r6 h73 hm=>A0 (A7 [4,5,6,7,0,1,2,3,8,9,10] R)<|Ad R R<|Aw 4 R fn137 R (K120 x102 x b4 b5 ob cap2 ob2 cap3 r6 h73) fun _ _ h74=> ?_
  obtain ⟨ob7,cap8,ob8,cap9,rfl,rfl⟩:=h74
  refine Ac<|?_
  obtain rfl:=Option.some.inj hm
  exact ⟨.inr R,_,.nil,[5,6,7,0,1,2,3,8,9,10],_,R,b2,ob7,cap8,ob8,cap9,R,R⟩
 ·rcases V.it_or hm with ⟨h75,hm⟩ | ⟨_,hm⟩
  ·refine A0 (Cg 160 (.clo (.func 138) [] [.ptr b6 0]) R (congrArg (fun zk => V.alt zk [.nilfn,.clo (.func 137) [] [.ptr b4 0],.clo (.func 138) [] [.ptr b6 0],.clo (.func 139) [] [.ptr b7 0],.clo (.func 166) [] [.ptr b8 0],.clo (.func 140) [] [.ptr b7 0]]) h75))<|A0 (Az 0 [(12,L20 x102),(161,L20 x102)] R ⟨⟨_,R,.here _ R⟩,⟨_,R,.here _ R⟩,trivial⟩ (FzH.refl _))<|Bd hm fun r7 h76 hm=>A0 (A7 [8,5,6,7,0,1,2,3,4,9,10] R)<|Ad R R<|Aw 4 R fn138 R (K121 x102 x b6 b5 ob cap2 ob2 cap3 r7 h76) fun _ _ h77=> ?_
   obtain ⟨ob9,cap10,ob10,cap11,rfl,rfl⟩:=h77
   refine Ac<|?_
   obtain rfl:=Option.some.inj hm
   exact ⟨.inr R,_,.nil,[5,6,7,8,1,2,3,0,9,10],_,R,b2,ob9,cap10,ob10,cap11,R,R⟩
  ·rcases V.it_or hm with ⟨h78,hm⟩ | ⟨_,hm⟩
   ·refine A0 (Cg 160 (.clo (.func 139) [] [.ptr b7 0]) R (congrArg (fun zk => V.alt zk [.nilfn,.clo (.func 137) [] [.ptr b4 0],.clo (.func 138) [] [.ptr b6 0],.clo (.func 139) [] [.ptr b7 0],.clo (.func 166) [] [.ptr b8 0],.clo (.func 140) [] [.ptr b7 0]]) h78))<|A0 (Az 0 [(12,L20 x102),(161,L20 x102)] R ⟨⟨_,R,.here _ R⟩,⟨_,R,.here _ R⟩,trivial⟩ (FzH.refl _))<|Bd hm fun r8 h79 hm=>A0 (A7 [9,5,6,7,0,1,2,3,4,8,10] R)<|Ad R R<|Aw 4 R fn139 R (K122 x102 x b7 b5 ob cap2 ob2 cap3 r8 h79) fun _ _ h80=> ?_
    obtain ⟨ob11,cap12,ob12,cap13,rfl,rfl⟩:=h80
    refine Ac<|?_
    obtain rfl:=Option.some.inj hm
    exact ⟨.inr R,_,.nil,[5,6,7,8,1,2,3,9,0,10],_,R,b2,ob11,cap12,ob12,cap13,R,R⟩
   ·rcases V.it_or hm with ⟨h81,hm⟩ | ⟨_,hm⟩
    ·refine A0 (Cg 160 (.clo (.func 166) [] [.ptr b8 0]) R (congrArg (fun zk => V.alt zk [.nilfn,.clo (.func 137) [] [.ptr b4 0],.clo (.func 138) [] [.ptr b6 0],.clo (.func 139) [] [.ptr b7 0],.clo (.func 166) [] [.ptr b8 0],.clo (.func 140) [] [.ptr b7 0]]) h81))<|A0 (Az 0 [(12,L20 x102),(161,L20 x102)] R ⟨⟨_,R,.here _ R⟩,⟨_,R,.here _ R⟩,trivial⟩ (FzH.refl _))<|Bd hm fun r9 h82 hm=>A0 (A7 [10,5,6,7,0,1,2,3,4,8,9] R)<|Ad R R<|Aw 4 R fn166 R (K123 x102 x b8 b5 ob cap2 ob2 cap3 r9 h82) fun _ _ h83=> ?_
     obtain ⟨ob13,cap14,ob14,cap15,rfl,rfl⟩:=h83
     refine Ac<|?_
     obtain rfl:=Option.some.inj hm
     exact ⟨.inr R,_,.nil,[5,6,7,8,1,2,3,9,10,0],_,R,b2,ob13,cap14,ob14,cap15,R,R⟩
    ·rcases V.it_or hm with ⟨h84,hm⟩ | ⟨_,hm⟩
     ·refine A0 (Cg 160 (.clo (.func 140) [] [.ptr b7 0]) R (congrArg (fun zk => V.alt zk [.nilfn,.clo (.func 137) [] [.ptr b4 0],.clo (.func 138) [] [.ptr b6 0],.clo (.func 139) [] [.ptr b7 0],.clo (.func 166) [] [.ptr b8 0],.clo (.func 140) [] [.ptr b7 0]]) h84))<|A0 (Az 0 [(12,L20 x102),(161,L20 x102)] R ⟨⟨_,R,.here _ R⟩,⟨_,R,.here _ R⟩,trivial⟩ (FzH.refl _))<|Bd hm fun r10 h85 hm=>A0 (A7 [9,5,6,7,0,1,2,3,4,8,10] R)<|Ad R R<|Aw 4 R fn140 R (K124 x102 x b7 b5 ob cap2 ob2 cap3 r10 h85) fun _ _ h86=> ?_
      obtain ⟨ob15,cap16,ob16,cap17,rfl,rfl⟩:=h86
      refine Ac<|?_
      obtain rfl:=Option.some.inj hm
      exact ⟨.inr R,_,.nil,[5,6,7,8,1,2,3,9,0,10],_,R,b2,ob15,cap16,ob16,cap17,R,R⟩
     ·exact absurd hm nofun

/-! trireme/spec.form -/
def spec_form_x.l1 : List Int → Nat → T_spec_reader → T_api_Machine → Option (Out (ByteArray × Int × Int × T_api_Machine) T_api_Machine)
 | [], k, r5, r6 => some (Out.go r6)
 | x10 :: l2, k, r5, r6 =>
  (spec_reader_field_x r5 r6 x10).bind fun r7 =>
  if (r7.1.e != 0) = true then
   some (Out.ret ((⟨#[]⟩ : ByteArray), r7.1.e, r7.1.at_, r7.2))
  else
   spec_form_x.l1 l2 (k + 1) r7.1 r7.2
def spec_form_x (l : List T_api_Node) (i : Int) (kind : ByteArray) (empty : Bool) (x : T_api_Machine) : Option (ByteArray × Int × Int × T_api_Machine) :=
 (tree_End l i).bind fun r =>
 if (decide (r < 0)) = true then
  some ((⟨#[]⟩ : ByteArray), 12, 0, x)
 else
  (tree_Kids l i).bind fun r2 =>
  (V.gl l i).bind fun x2 =>
  if ((x2.Kind != 5) || (decide ((r2.length : Int) < 2))) = true then
   (V.gl l i).bind fun x3 =>
   some ((⟨#[]⟩ : ByteArray), 12, x3.At, x)
  else
   ((V.gl r2 (0 : Int)).bind fun x4 =>
   (V.gl l x4).bind fun x5 =>
   (V.gl r2 (1 : Int)).bind fun x6 =>
   (V.gl l x6).bind fun x7 =>
   some (x5, x7)).bind fun j =>
   if (((j.1.Kind != 3) || (!(V.seq j.1.Text kind))) || (!((j.2.Kind == 3) || ((empty && (j.2.Kind == 4)) && (V.seq j.2.Text (⟨#[]⟩ : ByteArray)))))) = true then
    (V.gl l i).bind fun x8 =>
    some ((⟨#[]⟩ : ByteArray), 12, x8.At, x)
   else
    (V.sl r2 (some 2) none).bind fun v =>
    (spec_form_x.l1 v 0 (⟨l, (), ([] : List (ByteArray × Int)), 0, 0⟩ : T_spec_reader) x).bind fun o2 =>
    o2.on fun x92 =>
    some (j.2.Text, 0, 0, x92)
theorem K126 (l : List T_api_Node) (i : Int) (kind : ByteArray) (empty : Bool) (x : T_api_Machine) (b : Nat) (cap : Nat) (b2 : Nat) (b3 : Nat) (ob : Option Nat) (cap2 : Nat) (ob2 : Option Nat) (cap3 : Nat) (b4 : Nat) (b5 : Nat) (b6 : Nat) : ∀ r : ByteArray × Int × Int × T_api_Machine, spec_form_x l i kind empty x = some r → VC Tryz.prog 76 [L100 l, Iw i, .str kind, .bool empty, .sl (some b) 5 cap] [.row (some b) 110 cap (KR3 b2 b4 b5 b6), .box b2 108 [.ptr b3 1], .box b3 41 [.str x.Name, .str x.Group, Iw x.Has.Cpu, Iw x.Has.Mem, Iw x.Has.Disk, Iw x.Has.Pods, Iw x.Has.Dev, Z141 ob x.Labels cap2, Z143 ob2 x.Taints cap3, .bool x.Ready], Q141 ob cap2 x.Labels, Q143 ob2 cap3 x.Taints, .box b4 112 [.ptr b3 9], .box b5 114 [.ptr b3 0], .box b6 169 [.ptr b3 7]] fun zx zH => ∃ (ob2_7 : Option Nat) (cap2_7 : Nat) (ob2_8 : Option Nat) (cap2_8 : Nat), zx = .tup [.str r.1, Iw r.2.1, Iw r.2.2.1] ∧ zH = [.row (some b) 110 cap (KR3 b2 b4 b5 b6), .box b2 108 [.ptr b3 1], .box b3 41 [.str r.2.2.2.Name, .str r.2.2.2.Group, Iw r.2.2.2.Has.Cpu, Iw r.2.2.2.Has.Mem, Iw r.2.2.2.Has.Disk, Iw r.2.2.2.Has.Pods, Iw r.2.2.2.Has.Dev, Z141 ob2_7 r.2.2.2.Labels cap2_7, Z143 ob2_8 r.2.2.2.Taints cap2_8, .bool r.2.2.2.Ready], Q141 ob2_7 cap2_7 r.2.2.2.Labels, Q143 ob2_8 cap2_8 r.2.2.2.Taints, .box b4 112 [.ptr b3 9], .box b5 114 [.ptr b3 0], .box b6 169 [.ptr b3 7]] := by
 refine B2 [.tmp 10,.tmp 11,.tmp 12] Dx R R R fun r hm=>?_
 unfold spec_form_x at hm
 refine Ag tbk [] R R<|Af<|Ae<|Ab tbk [] 2 R R<|Ad R R<|A1 hm 0 R fn124 R (K51 _ _) fun r hm=>Aa R R (Bh R R R)<|Ac<|Av hm R (fun h2 hm=>?_) fun h2 hm=> ?_
 ·refine Ag tbk [] R R<|?_
  obtain rfl:=Option.some.inj hm
  exact Cm ⟨.inl R,_,.cons (.tmp _ _ R) (.cons (.tmp _ _ R) (.cons (.tmp _ _ R) .nil)),[0,1,2,3,4,5,6,7],_,R,ob,cap2,ob2,cap3,R,R⟩
 refine Aj<|Ae<|Ab tbk [] 2 R R<|Ad R R<|A1 hm 0 R fn125 R (K55 _ _) fun r2 hm=>Aa R R (Am R)<|Ac<|Af<|Ae<|Ab tbk [] 2 R R<|Bd hm fun x2 h4 hm=>Aa R R (A2 T_api_Node.vv R R el36 h4)<|Ab tbk [] 4 R R<|C5 4 37 33 R (fun K' J=>Ab tbk [] 4 R R<|J 3 R R R) (fun h5 K' J=>Bt R R R R R (Ak R)<|Bt R R R R R (Bg (VV.int .i64) R Bi)<|Ab tbk [] 2 R R<|J 3 R R R)<|Ac<|Av hm R (fun h6 hm=>?_) fun h6 hm=> ?_
 ·refine Af<|A3 0 mixed<|An tbk [0,1] [] (by kernel_rfl) R R R<|Bd hm fun x3 h7 hm=>Au 2 R R R (by kernel_rfl) (A2 T_api_Node.vv R R el36 h7)<|An tbk [3,4,5,6,7] [] (by kernel_rfl) R R R<|Ay (by kernel_rfl)<|?_
  obtain rfl:=Option.some.inj hm
  exact Cm ⟨.inl R,_,.cons (.tmp _ _ R) (.cons (.tmp _ _ R) (.cons (.tmp _ _ R) .nil)),[0,1,2,3,4,5,6,7],_,R,ob,cap2,ob2,cap3,R,R⟩
 refine Aj<|Ca hm (fun _ (gg:Nat × Nat)=>[(0,L100 l),(1,Iw i),(2,.str kind),(3,.bool empty),(4,.sl (some b) 5 cap),(13,L3 r2),(14,.ptr gg.1 0),(15,.ptr gg.2 0)]) (fun j (gg:Nat × Nat)=>[X100 gg.2 j.2,X100 gg.1 j.1,.row (some b) 110 cap (KR3 b2 b4 b5 b6),.box b2 108 [.ptr b3 1],.box b3 41 [.str x.Name,.str x.Group,Iw x.Has.Cpu,Iw x.Has.Mem,Iw x.Has.Disk,Iw x.Has.Pods,Iw x.Has.Dev,Z141 ob x.Labels cap2,Z143 ob2 x.Taints cap3,.bool x.Ready],Q141 ob cap2 x.Labels,Q143 ob2 cap3 x.Taints,.box b4 112 [.ptr b3 9],.box b5 114 [.ptr b3 0],.box b6 169 [.ptr b3 7]]) (fun o hm=>?_) fun j=>Pq fun b7 b8 hm=> ?_
 ·refine A3 0 mixed<|An tbk [0,1] [] (by kernel_rfl) R R R<|Bd hm fun x4 h12 hm=>Au 2 R R R (by kernel_rfl) (A2 (VV.int .i64) R R el27 h12)<|Au 3 R R R (by kernel_rfl) (Bn R ld3 R)<|Bd hm fun x5 h13 hm=>Au 4 R R R (by kernel_rfl) (A2 T_api_Node.vv R R el36 h13)<|An tbk [5,6,7] [] (by kernel_rfl) R R R<|Bd hm fun x6 h14 hm=>Au 8 R R R (by kernel_rfl) (A2 (VV.int .i64) R R el27 h14)<|Au 9 R R R (by kernel_rfl) (Bn R ld3 R)<|Bd hm fun x7 h15 hm=>Au 10 R R R (by kernel_rfl) (A2 T_api_Node.vv R R el36 h15)<|Au 11 R R R (by kernel_rfl) (Bn R ld100 R)<|?_
  refine B0 [12,13] (by kernel_rfl) ⟨?_,?_,trivial⟩
  ·exact Ao R R R<|A9 z100 fun b9=>Ai 13 (by kernel_rfl)<|Ao R R R<|A9 z100 fun b10=>Ai 14 (by kernel_rfl)<|Ao R R R<|Al (i:=1) R R R ld100 R R R<|Ai 15 (by kernel_rfl)<|Ao R R R<|Al (i:=0) R R R ld100 R R R<|Ay (by kernel_rfl)<|As (b9,b10) hm (Ah [0,1,2,3,4,5,6,7,8,9] (by kernel_rfl) (by kernel_rfl))
  ·exact Ao R R R<|A9 z100 fun b11=>Ai 12 (by kernel_rfl)<|Ao R R R<|A9 z100 fun b12=>Ai 14 (by kernel_rfl)<|Ao R R R<|Al (i:=0) R R R ld100 R R R<|Ai 15 (by kernel_rfl)<|Ao R R R<|Al (i:=1) R R R ld100 R R R<|Ay (by kernel_rfl)<|As (b12,b11) hm (Ah [1,0,2,3,4,5,6,7,8,9] (by kernel_rfl) (by kernel_rfl))
 refine Ae<|Ab tbk [0] 4 R R<|C5 12 70 58 R (fun K' J=>Ab tbk [] 12 R R<|J 11 R R R) (fun h20 K' J=>Ab tbk [] 2 R R<|Bx tbk [0] 4 64 60 R R R R R<|Bt R R R R R (Ak R)<|Bx tbk [0] 4 69 65 R R R R R<|Aa R R (A6 false R R R)<|J 5 R R R)<|Aa R R (Am R)<|Ac<|Af<|Ae<|Ab tbk [1] 4 R R<|Cn tbk [1] 5 79 74 R R R R R<|Aa R R (Ak R)<|Cn tbk [] 3 83 80 R R R R R<|Ac<|Av hm R (fun h25 hm=>?_) fun h25 hm=> ?_
 ·refine Af<|A3 0 mixed<|An tbk [0,1] [] (by kernel_rfl) R R R<|Bd hm fun x8 h26 hm=>Au 2 R R R (by kernel_rfl) (A2 T_api_Node.vv R R el36 h26)<|An tbk [3,4,5,6,7] [] (by kernel_rfl) R R R<|Ay (by kernel_rfl)<|?_
  obtain rfl:=Option.some.inj hm
  exact Cm ⟨.inl R,_,.cons (.tmp _ _ R) (.cons (.tmp _ _ R) (.cons (.tmp _ _ R) .nil)),[2,3,4,5,6,7,8,9],_,R,ob,cap2,ob2,cap3,R,R⟩
 refine Aj<|Ae<|Ab tbk [] 2 R R<|Ad R R<|Dn fun b13=>Aa R R (A5 pl165 R R)<|Ad R R<|Ch R R fun b14=>Aa R R (Am R)<|Ac<|Af<|Ae<|Aa R R (Ak R)<|Bd hm fun v h29 hm=>Aa R R (Dj R R R el27 h29)<|Aa R R (Bg (VV.int .i64) R Bi)<|Aa R R (Ak R)<|Ac<|Cp 95 R fun h32=>Ce hm (fun _ (gg:Option Nat × Nat × Option Nat × Nat)=>[(15,.ptr b8 0)]) (fun x92 (gg:Option Nat × Nat × Option Nat × Nat)=>[X100 b8 j.2,.row (some b) 110 cap (KR3 b2 b4 b5 b6),.box b2 108 [.ptr b3 1],.box b3 41 [.str x92.Name,.str x92.Group,Iw x92.Has.Cpu,Iw x92.Has.Mem,Iw x92.Has.Disk,Iw x92.Has.Pods,Iw x92.Has.Dev,Z141 gg.1 x92.Labels gg.2.1,Z143 gg.2.2.1 x92.Taints gg.2.2.2,.bool x92.Ready],Q141 gg.1 gg.2.1 x92.Labels,Q143 gg.2.2.1 gg.2.2.2 x92.Taints,.box b4 112 [.ptr b3 9],.box b5 114 [.ptr b3 0],.box b6 169 [.ptr b3 7]]) (fun o2 hm h31=>?_) fun x92=>Pq fun ob7=>Pq fun cap8=>Pq fun ob8 cap9 hm=> ?_
 ·refine Cu (v) (fun zl zk (zs:T_spec_reader × T_api_Machine)=>spec_form_x.l1 zl zk zs.1 zs.2) (fun k _ (_:Option Nat × Nat × Option Nat × Nat × Nat)=>[(15,.ptr b8 0),(17,.ptr b14 0),(95,L3 v),(96,Iw (v.length : Int)),(97,Iw (k : Int))]) (fun _ zs (zg:Option Nat × Nat × Option Nat × Nat × Nat)=>[.box b14 165 [L100 zs.1.l,.sl (some b) 5 cap,.map zg.2.2.2.2,Iw zs.1.e,Iw zs.1.at_],.map zg.2.2.2.2 (List.map (pf VV.str (VV.int .i64)) zs.1.had),X100 b8 j.2,.row (some b) 110 cap (KR3 b2 b4 b5 b6),.box b2 108 [.ptr b3 1],.box b3 41 [.str zs.2.Name,.str zs.2.Group,Iw zs.2.Has.Cpu,Iw zs.2.Has.Mem,Iw zs.2.Has.Disk,Iw zs.2.Has.Pods,Iw zs.2.Has.Dev,Z141 zg.1 zs.2.Labels zg.2.1,Z143 zg.2.2.1 zs.2.Taints zg.2.2.2.1,.bool zs.2.Ready],Q141 zg.1 zg.2.1 zs.2.Labels,Q143 zg.2.2.1 zg.2.2.2.1 zs.2.Taints,.box b4 112 [.ptr b3 9],.box b5 114 [.ptr b3 0],.box b6 169 [.ptr b3 7]]) ((⟨l,(),([] : List (ByteArray × Int)),(0 : Int),(0 : Int)⟩ : T_spec_reader),x) (ob,cap2,ob2,cap3,b13) hm (Ah [0,1,2,4,5,6,7,8,9,10,11] (by kernel_rfl) (by kernel_rfl)) (fun k=>Pq fun r5 r6=>Pq fun ob5=>Pq fun cap6=>Pq fun ob6=>Pq fun cap7 b16 hk hm=>?_) fun k x10 l2=>Pq fun r5 r6=>Pq fun ob5=>Pq fun cap6=>Pq fun ob6=>Pq fun cap7 b16 h33 hm=> ?_
  ·rw [spec_form_x.l1] at hm
   exact Ag tbk [] R R<|Af<|Cc R (k_end hk)<|Be<|Ar (ob5,cap6,ob6,cap7) hm (Ah [2,3,4,5,6,7,8,9,10] (by kernel_rfl) (by kernel_rfl))
  rw [spec_form_x.l1] at hm
  refine Ag tbk [] R R<|Af<|Bp R (k_lt h33)<|Aj<|Af<|A4<|Ae<|Aa R R (Cr (VV.int .i64) R R el27 h33)<|Ab tbk [] 2 R R<|Ac<|Ae<|Ab tbk [] 2 R R<|Bd hm fun r7 h34 hm=>A0 (A7 [0,1,3,4,5,6,7,8,9,10,2] R)<|Ad R R<|Aw 10 R fn126 R (K125 r5 r6 x10 b14 b16 b cap b2 b3 ob5 cap6 ob6 cap7 b4 b5 b6 r7 h34) fun _ _ h36=> ?_
  obtain ⟨b17,ob9,cap10,ob10,cap11,rfl,rfl⟩:=h36
  refine Ac<|Ag tbk [0] R R<|Av hm R (fun h35 hm=>?_) fun h35 hm=> ?_
  ·refine Af<|A3 0 mixed<|An tbk [0,1,2,3,4,5,6,7,8,9,10] [0,0] (by kernel_rfl) R R R<|Ay (by kernel_rfl)<|have hm:=Lr hm h31; ?_
   obtain rfl:=Option.some.inj hm
   exact Cm ⟨.inl R,_,.cons (.tmp _ _ R) (.cons (.tmp _ _ R) (.cons (.tmp _ _ R) .nil)),[2,3,4,5,6,7,8,9],_,R,ob9,cap10,ob10,cap11,R,R⟩
  exact Aj<|Bf tbk [] R R<|Ap (r7.1,r7.2) (ob9,cap10,ob10,cap11,b17) hm (B3 [0,1,10,2,3,4,5,6,7,8,9] (by kernel_rfl) ⟨R,R,R,R,congrArg some (k_next h33 h32),trivial⟩)
 refine Ag tbk [0] R R<|?_
 obtain rfl:=Option.some.inj hm
 exact Cm ⟨.inl R,_,.cons (.tmp _ _ R) (.cons (.tmp _ _ R) (.cons (.tmp _ _ R) .nil)),[1,2,3,4,5,6,7,8],_,R,ob7,cap8,ob8,cap9,R,R⟩

/-! trireme/taints.like -/
def taints_like (x : T_api_Taint) : Option T_api_Taint :=
 some (⟨x.Key, (⟨#[]⟩ : ByteArray), x.Effect⟩ : T_api_Taint)
theorem K127 (x : T_api_Taint) : VS Tryz.prog 136 (taints_like x) [T_api_Taint.vv x] [] (fun r=>T_api_Taint.vv r) N0 := by
 refine A8 [.cell 2 143] Tryz.func136 R R R fun r hm=>?_
 unfold taints_like at hm
 exact Ae<|Ad R R<|Ch R R fun b=>Ad R R<|A9 z143 fun b2=>Ac<|Ae<|Aa R R (Cl R fa143_1)<|Ad R R<|Al (i:=1) R R R ld9 R R R<|Ac<|Ae<|Ab tbk [1] 1 R R<|Ad R R<|Al (i:=0) R R R ld143 R R R<|Ac<|Rt0 hm R [] (.cons (.cell _ _ _ _ 0 _ _ _ _ R R ld143 R) .nil) R R

/-! trireme/taints.Right -/
def taints_Right.l2 (x : T_api_Taint) : List T_api_Taint → Nat → Option (Out (Out Bool Unit) Unit)
 | [], k2 => some (Out.go ())
 | x2 :: l3, k2 =>
  (taints_like x).bind fun r4 =>
  (taints_like x2).bind fun r5 =>
  if (((r4.Key == r5.Key) && ((r4.Val == r5.Val) && ((r4.Effect == r5.Effect) && true))) == true) = true then
   some (Out.ret (Out.ret false))
  else
   taints_Right.l2 x l3 (k2 + 1)
def taints_Right.l1 (l : List T_api_Taint) : List T_api_Taint → Nat → Option (Out Bool Unit)
 | [], k => some (Out.go ())
 | x :: l2, k =>
  (lex_Word x.Key).bind fun r =>
  (if (!r) = true then some true else (taints_maybe x.Val).bind fun r2 =>
  some (!r2)).bind fun c =>
  (if c = true then some true else (taints_known x.Effect).bind fun r3 =>
  some (!r3)).bind fun c2 =>
  if c2 = true then
   some (Out.ret false)
  else
   (V.sl l none (some (k : Int))).bind fun v =>
   (taints_Right.l2 x v 0).bind fun o2 =>
   o2.on fun j2 =>
   taints_Right.l1 l l2 (k + 1)
def taints_Right (l : List T_api_Taint) : Option Bool :=
 (taints_Right.l1 l l 0).bind fun o =>
 o.on fun j =>
 some (decide ((l.length : Int) ≤ 16))
theorem K128 (l : List T_api_Taint) : VS Tryz.prog 81 (taints_Right l) [L143 l] [] .bool N0 := by
 refine A8 [.tmp 2] Tryz.func81 R R R fun r hm=>?_
 unfold taints_Right at hm
 refine Ag tbk [] R R<|Af<|Ae<|Aa R R (Ak R)<|Aa R R (Bg T_api_Taint.vv R Cd)<|Aa R R (Ak R)<|Ac<|Cp 0 R fun h3=>Ce hm (fun _ (_:Unit)=>[(0,L143 l)]) (fun _ (_:Unit)=>[]) (fun o hm h2=>?_) fun j _ hm=> ?_
 ·refine Cu (l) (fun zl zk (zs:Unit)=>taints_Right.l1 l zl zk) (fun k _ (_:Unit)=>[(0,L143 l),(7,L143 l),(8,Iw (l.length : Int)),(9,Iw (k : Int))]) (fun _ _ (_:Unit)=>[]) () () hm (Ah [] R R) (fun k _ _ hk hm=>?_) fun k x l2 _ _ h4 hm=> ?_
  ·rw [taints_Right.l1] at hm
   exact Ag tbk [] R R<|Af<|Cc R (k_end hk)<|Be<|Ar () hm (Ah [] R R)
  rw [taints_Right.l1] at hm
  refine Ag tbk [] R R<|Af<|Bp R (k_lt h4)<|Aj<|Af<|A4<|Ae<|Aa R R (Ak R)<|Aa R R (Cr T_api_Taint.vv R R el39 h4)<|Aa R R (Bn R ld143 R)<|Ad R R<|A9 z143 fun b=>Aa R R (Am R)<|Ad R R<|Al (i:=0) R R R ld143 R R R<|Ac<|Af<|Ae<|Ab tbk [0] 2 R R<|Ad R R<|A1 hm 0 R fn55 R (K103 _) fun r hm=>Ab tbk [] 2 R R<|Br hm 5 23 18 R (fun _ K' h7 J hm=>Ab tbk [] 5 R R<|J 4 R R (Bj hm)) (fun _ K' h7 J hm=>Ab tbk [0] 2 R R<|Bk R R R R R<|A1 hm 0 R fn114 R (K112 _) fun r2 hm=>Ab tbk [] 2 R R<|J 4 R R (Bj hm)) fun c hm=>Aa R R (Ak R)<|Br hm 5 29 24 R (fun _ K' h10 J hm=>Ab tbk [] 5 R R<|J 4 R R (Bj hm)) (fun _ K' h10 J hm=>Ab tbk [0] 2 R R<|Bk R R R R R<|A1 hm 0 R fn115 R (K113 _) fun r3 hm=>Ab tbk [] 2 R R<|J 4 R R (Bj hm)) fun c2 hm=>Ac<|Av hm R (fun h13 hm=>Ag tbk [] R R<|have hm:=Lr hm h2;Rt1 hm R [] R R R) fun h13 hm=>Aj<|Ae<|Ab tbk [] 2 R R<|Bd hm fun v h14 hm=>Aa R R (Dj R R R el39 h14)<|Aa R R (Bg T_api_Taint.vv R Cd)<|Aa R R (Ak R)<|Ac<|Cp 32 R fun h17=>Ce hm (fun _ (_:Unit)=>[(0,L143 l),(7,L143 l),(8,Iw (l.length : Int)),(9,Iw (k : Int))]) (fun _ (_:Unit)=>[]) (fun o2 hm h16=>?_) fun j2 _ hm=> ?_
  ·refine Cu (v) (fun zl zk (zs:Unit)=>taints_Right.l2 x zl zk) (fun k2 _ (_:Unit)=>[(0,L143 l),(4,.ptr b 0),(7,L143 l),(8,Iw (l.length : Int)),(9,Iw (k : Int)),(32,L143 v),(33,Iw (v.length : Int)),(34,Iw (k2 : Int))]) (fun _ _ (_:Unit)=>[X143 b x]) () () hm (Ah [0] R R) (fun k2 _ _ hk hm=>?_) fun k2 x2 l3 _ _ h18 hm=> ?_
   ·rw [taints_Right.l2] at hm
    exact Ag tbk [] R R<|Af<|Cc R (k_end hk)<|Be<|Ar () hm (Ah [] R R)
   rw [taints_Right.l2] at hm
   refine Ag tbk [] R R<|Af<|Bp R (k_lt h18)<|Aj<|Af<|A4<|Ae<|Aa R R (Cr T_api_Taint.vv R R el39 h18)<|Aa R R (Bn R ld143 R)<|Ad R R<|A9 z143 fun b2=>Ad R R<|Al (i:=0) R R R ld143 R R R<|Ac<|Af<|A3 0 mixed<|An tbk [0,2] [1,0] (by kernel_rfl) R R R<|Ai 1 (by kernel_rfl)<|Bd hm fun r4 h20 hm=>Ao R R R<|Aw 0 R fn136 R (K127 x r4 h20) fun _ _ h24=> ?_
   obtain ⟨rfl,rfl⟩:=h24
   refine Ai 3 (by kernel_rfl)<|Bd hm fun r5 h21 hm=>Ao R R R<|Aw 0 R fn136 R (K127 x2 r5 h21) fun _ _ h23=> ?_
   obtain ⟨rfl,rfl⟩:=h23
   exact Au 4 R R R (by kernel_rfl) (Dy shp143 eq143 R R R R)<|Ay (by kernel_rfl)<|Av hm R (fun h22 hm=>Ag tbk [] R R<|have hm:=Lr hm h16;have hm:=Lr hm h2;Rt1 hm R [] R R R) fun h22 hm=>Aj<|Bf tbk [] R R<|Ap () () hm (B3 [1] R ⟨R,R,R,R,R,R,R,congrArg some (k_next h18 h17),trivial⟩)
  exact Bf tbk [] R R<|Ap () () hm (B3 [] R ⟨R,R,R,congrArg some (k_next h4 h3),trivial⟩)
 exact Ae<|Aa R R (Ak R)<|Aa R R (Bg T_api_Taint.vv R Cd)<|Ab tbk [] 2 R R<|Ac<|Rt1 hm R [] R R R

/-! trireme/spec.RightMachine -/
def spec_RightMachine (m : T_api_Machine) : Option Bool :=
 (spec_maybe m.Name).bind fun r =>
 (if r = true then (spec_maybe m.Group).bind fun r2 =>
 some r2 else some false).bind fun c =>
 (if c = true then (res_Right m.Has).bind fun r3 =>
 some r3 else some false).bind fun c2 =>
 (if c2 = true then (labels_Right m.Labels).bind fun r4 =>
 some r4 else some false).bind fun c3 =>
 (if c3 = true then (taints_Right m.Taints).bind fun r5 =>
 some r5 else some false).bind fun c4 =>
 some c4
theorem K129 (m : T_api_Machine) : VS Tryz.prog 20 (spec_RightMachine m) [T_api_Machine.vv m] [] .bool N0 := by
 refine A8 [.tmp 2] Tryz.func20 R R R fun r hm=>?_
 unfold spec_RightMachine at hm
 exact Ae<|Ad R R<|Ch R R fun b=>Aa R R (Am R)<|Ac<|Ae<|Ab tbk [0] 2 R R<|Ad R R<|A1 hm 0 R fn56 R (K108 _) fun r hm=>Aa R R (Ak R)<|Br hm 4 10 6 R (fun _ K' h3 J hm=>Ab tbk [0] 2 R R<|Bk R R R R R<|A1 hm 0 R fn56 R (K108 _) fun r2 hm=>Aa R R (A6 true R R R)<|J 3 R R (Bj hm)) (fun _ K' h3 J hm=>Ab tbk [] 4 R R<|J 3 R R (Bj hm)) fun c hm=>Aa R R (Ak R)<|Br hm 4 15 11 R (fun _ K' h6 J hm=>Ab tbk [0] 2 R R<|Bk R R R R R<|A1 hm 0 R fn57 R (K110 _) fun r3 hm=>Aa R R (A6 true R R R)<|J 3 R R (Bj hm)) (fun _ K' h6 J hm=>Ab tbk [] 4 R R<|J 3 R R (Bj hm)) fun c2 hm=>Aa R R (Ak R)<|Br hm 4 20 16 R (fun _ K' h9 J hm=>Ab tbk [0] 2 R R<|Bk R R R R R<|A1 hm 0 R fn54 R (K107 _) fun r4 hm=>Aa R R (A6 true R R R)<|J 3 R R (Bj hm)) (fun _ K' h9 J hm=>Ab tbk [] 4 R R<|J 3 R R (Bj hm)) fun c3 hm=>Aa R R (Ak R)<|Br hm 4 25 21 R (fun _ K' h12 J hm=>Ab tbk [0] 2 R R<|Bk R R R R R<|A1 hm 0 R fn81 R (K128 _) fun r5 hm=>Aa R R (A6 true R R R)<|J 3 R R (Bj hm)) (fun _ K' h12 J hm=>Ab tbk [] 4 R R<|J 3 R R (Bj hm)) fun c4 hm=>Aa R R (Am R)<|Ac<|Rt1 hm R [] R R R

/-! trireme/spec.Machine -/
def spec_Machine (l : List T_api_Node) (i : Int) : Option (T_api_Machine × Int × Int) :=
 (spec_text).bind fun r =>
 (spec_flag).bind fun r2 =>
 (spec_common).bind fun r3 =>
 (spec_form_x l i (⟨#[109, 97, 99, 104, 105, 110, 101]⟩ : ByteArray) true (⟨(⟨#[]⟩ : ByteArray), (⟨#[]⟩ : ByteArray), (⟨0, 0, 0, 0, 0⟩ : T_api_Res), ([] : List T_api_Label), ([] : List T_api_Taint), false⟩ : T_api_Machine)).bind fun r4 =>
 if (r4.2.1 != 0) = true then
  some ((⟨(⟨#[]⟩ : ByteArray), (⟨#[]⟩ : ByteArray), (⟨0, 0, 0, 0, 0⟩ : T_api_Res), ([] : List T_api_Label), ([] : List T_api_Taint), false⟩ : T_api_Machine), r4.2.1, r4.2.2.1)
 else
  (spec_RightMachine (⟨r4.1, r4.2.2.2.Group, r4.2.2.2.Has, r4.2.2.2.Labels, r4.2.2.2.Taints, r4.2.2.2.Ready⟩ : T_api_Machine)).bind fun r5 =>
  if (!r5) = true then
   (V.gl l i).bind fun x =>
   some ((⟨(⟨#[]⟩ : ByteArray), (⟨#[]⟩ : ByteArray), (⟨0, 0, 0, 0, 0⟩ : T_api_Res), ([] : List T_api_Label), ([] : List T_api_Taint), false⟩ : T_api_Machine), 12, x.At)
  else
   some ((⟨r4.1, r4.2.2.2.Group, r4.2.2.2.Has, r4.2.2.2.Labels, r4.2.2.2.Taints, r4.2.2.2.Ready⟩ : T_api_Machine), 0, 0)
theorem K130 (l : List T_api_Node) (i : Int) : VS Tryz.prog 23 (spec_Machine l i) [L100 l, Iw i] [] (fun r=>.tup [T_api_Machine.vv r.1, Iw r.2.1, Iw r.2.2]) N0 := by
 refine A8 [.cell 4 41,.tmp 5,.tmp 6] Tryz.func23 R R R fun r hm=>?_
 unfold spec_Machine at hm
 refine Ae<|Ad R R<|A9 z41 fun b=>Ab tbk [] 2 R R<|Ac<|Ae<|Ad R R<|A9 z41 fun b2=>Ac<|Ae<|Aa R R (Cl R fa41_1)<|Bd hm fun r h3 hm=>Ad R R<|Aw 0 R fn84 R (K48 b2 1 r h3) fun _ _ h22=> ?_
 obtain ⟨b3,rfl,rfl⟩:=h22
 refine Aa R R (A5 pl110 R R)<|Aa R R (Cl R fa41_5)<|Bd hm fun r2 h5 hm=>Ad R R<|Aw 0 R fn85 R (K49 b2 9 r2 h5) fun _ _ h21=> ?_
 obtain ⟨b4,rfl,rfl⟩:=h21
 refine Aa R R (A5 pl110 R R)<|Ad R R<|Ax ap96 R R R R R fun b5=>Aa R R (Am R)<|Ac<|Ae<|Ab tbk [] 3 R R<|Bd hm fun r3 h8 hm=>Ad R R<|Aw 0 R fn86 R (K117 b2 0 r3 h8) fun _ _ h20=> ?_
 obtain ⟨b6,b7,b8,rfl,rfl⟩:=h20
 refine Ad R R<|VO.appK 3 0 ap96 R R R R R R R fun b9 cap=>A0 (B5 (Bc 141) (Bc 143))<|Bd hm fun r4 h14 hm=>A0 (A7 [5,7,8,1,0,6,3,4,2,9] R)<|Ad R R<|Aw 8 R fn76 R (K126 l i (⟨#[109,97,99,104,105,110,101]⟩ : ByteArray) true (⟨(⟨#[]⟩ : ByteArray),(⟨#[]⟩ : ByteArray),(⟨(0 : Int),(0 : Int),(0 : Int),(0 : Int),(0 : Int)⟩ : T_api_Res),([] : List T_api_Label),([] : List T_api_Taint),false⟩ : T_api_Machine) b9 cap b3 b2 none 0 none 0 b4 b7 b8 r4 h14) fun _ _ h19=> ?_
 obtain ⟨ob,cap2,ob2,cap3,rfl,rfl⟩:=h19
 refine Ab tbk [] 7 R R<|Ac<|Af<|Ag tbk [] R R<|Av hm R (fun h15 hm=>?_) fun h15 hm=> ?_
 ·exact Ae<|Aa R R (A5 pl41 R R)<|Ab tbk [] 2 R R<|Ad R R<|Al (i:=9) R R R ld41 R R R<|Ab tbk [] 2 R R<|Ac<|Ba (Bc 141)<|Ba (Az (H':=[.row (some b9) 110 cap (KR3 b3 b4 b7 b8),.box b3 108 [.ptr b2 1],.box b2 41 [.str r4.2.2.2.Name,.str r4.2.2.2.Group,Iw r4.2.2.2.Has.Cpu,Iw r4.2.2.2.Has.Mem,Iw r4.2.2.2.Has.Disk,Iw r4.2.2.2.Has.Pods,Iw r4.2.2.2.Has.Dev,Z141 ob r4.2.2.2.Labels cap2,Z143 ob2 r4.2.2.2.Taints cap3,.bool r4.2.2.2.Ready],Q141 ob cap2 r4.2.2.2.Labels,Q143 ob2 cap3 r4.2.2.2.Taints,.box b4 112 [.ptr b2 9],.box b7 114 [.ptr b2 0],.box b8 169 [.ptr b2 7],.row (some b6) 110 3 (KR2 b7 b8),.box b 41 [.str (⟨#[]⟩ : ByteArray),.str (⟨#[]⟩ : ByteArray),Iw (0 : Int),Iw (0 : Int),Iw (0 : Int),Iw (0 : Int),Iw (0 : Int),L141 ([] : List T_api_Label),.sl none 0 0,.bool false]]) 0 [] R trivial ⟨.same _,.same _,.same _,.same _,.same _,.same _,.same _,.same _,.same _,.box _ _ _ _ ⟨.same _,.same _,.same _,.same _,.same _,.same _,.same _,.here _ R,.same _,.same _,trivial⟩,trivial⟩)<|Ba (Bc 143)<|Ba (Az (H':=[.row (some b9) 110 cap (KR3 b3 b4 b7 b8),.box b3 108 [.ptr b2 1],.box b2 41 [.str r4.2.2.2.Name,.str r4.2.2.2.Group,Iw r4.2.2.2.Has.Cpu,Iw r4.2.2.2.Has.Mem,Iw r4.2.2.2.Has.Disk,Iw r4.2.2.2.Has.Pods,Iw r4.2.2.2.Has.Dev,Z141 ob r4.2.2.2.Labels cap2,Z143 ob2 r4.2.2.2.Taints cap3,.bool r4.2.2.2.Ready],Q141 ob cap2 r4.2.2.2.Labels,Q143 ob2 cap3 r4.2.2.2.Taints,.box b4 112 [.ptr b2 9],.box b7 114 [.ptr b2 0],.box b8 169 [.ptr b2 7],.row (some b6) 110 3 (KR2 b7 b8),X41 b (⟨(⟨#[]⟩ : ByteArray),(⟨#[]⟩ : ByteArray),(⟨(0 : Int),(0 : Int),(0 : Int),(0 : Int),(0 : Int)⟩ : T_api_Res),([] : List T_api_Label),([] : List T_api_Taint),false⟩ : T_api_Machine)]) 0 [] R trivial ⟨.same _,.same _,.same _,.same _,.same _,.same _,.same _,.same _,.same _,.box _ _ _ _ ⟨.same _,.same _,.same _,.same _,.same _,.same _,.same _,.same _,.here _ R,.same _,trivial⟩,trivial⟩)<|Rt0 hm R [] (.cons (.cell _ _ _ _ 9 _ _ _ _ R R ld41 R) (.cons (.tmp _ _ R) (.cons (.tmp _ _ R) .nil))) R R
 refine Aj<|Af<|Ae<|Ab tbk [] 2 R R<|Ad R R<|Al (i:=2) R R R ld9 R R R<|Ac<|Ae<|Ab tbk [2] 1 R R<|A0 (B5 (Az (H':=[.row (some b9) 110 cap (KR3 b3 b4 b7 b8),.box b3 108 [.ptr b2 1],.box b2 41 [.str r4.1,.str r4.2.2.2.Group,Iw r4.2.2.2.Has.Cpu,Iw r4.2.2.2.Has.Mem,Iw r4.2.2.2.Has.Disk,Iw r4.2.2.2.Has.Pods,Iw r4.2.2.2.Has.Dev,L141 r4.2.2.2.Labels,Z143 ob2 r4.2.2.2.Taints cap3,.bool r4.2.2.2.Ready],Q143 ob2 cap3 r4.2.2.2.Taints,.box b4 112 [.ptr b2 9],.box b7 114 [.ptr b2 0],.box b8 169 [.ptr b2 7],.row (some b6) 110 3 (KR2 b7 b8),.box b 41 [.str (⟨#[]⟩ : ByteArray),.str (⟨#[]⟩ : ByteArray),Iw (0 : Int),Iw (0 : Int),Iw (0 : Int),Iw (0 : Int),Iw (0 : Int),.sl none 0 0,.sl none 0 0,.bool false]]) 3 [(36,.agg [.str r4.1,.str r4.2.2.2.Group,Iw r4.2.2.2.Has.Cpu,Iw r4.2.2.2.Has.Mem,Iw r4.2.2.2.Has.Disk,Iw r4.2.2.2.Has.Pods,Iw r4.2.2.2.Has.Dev,L141 r4.2.2.2.Labels,Z143 ob2 r4.2.2.2.Taints cap3,.bool r4.2.2.2.Ready])] R ⟨⟨_,R,.aggL ⟨.same _,.same _,.same _,.same _,.same _,.same _,.same _,.here _ R,.same _,.same _,trivial⟩⟩,trivial⟩ ⟨.same _,.same _,.box _ _ _ _ ⟨.same _,.same _,.same _,.same _,.same _,.same _,.same _,.here _ R,.same _,.same _,trivial⟩,.same _,.same _,.same _,.same _,.same _,.same _,trivial⟩) (Az (H':=[.row (some b9) 110 cap (KR3 b3 b4 b7 b8),.box b3 108 [.ptr b2 1],X41 b2 (⟨r4.1,r4.2.2.2.Group,r4.2.2.2.Has,r4.2.2.2.Labels,r4.2.2.2.Taints,r4.2.2.2.Ready⟩ : T_api_Machine),.box b4 112 [.ptr b2 9],.box b7 114 [.ptr b2 0],.box b8 169 [.ptr b2 7],.row (some b6) 110 3 (KR2 b7 b8),.box b 41 [.str (⟨#[]⟩ : ByteArray),.str (⟨#[]⟩ : ByteArray),Iw (0 : Int),Iw (0 : Int),Iw (0 : Int),Iw (0 : Int),Iw (0 : Int),.sl none 0 0,.sl none 0 0,.bool false]]) 3 [(36,T_api_Machine.vv (⟨r4.1,r4.2.2.2.Group,r4.2.2.2.Has,r4.2.2.2.Labels,r4.2.2.2.Taints,r4.2.2.2.Ready⟩ : T_api_Machine))] R ⟨⟨_,R,.aggL ⟨.same _,.same _,.same _,.same _,.same _,.same _,.same _,.same _,.here _ R,.same _,trivial⟩⟩,trivial⟩ ⟨.same _,.same _,.box _ _ _ _ ⟨.same _,.same _,.same _,.same _,.same _,.same _,.same _,.same _,.here _ R,.same _,trivial⟩,.same _,.same _,.same _,.same _,.same _,trivial⟩))<|Ad R R<|A1 hm 0 R fn20 R (K129 _) fun r5 hm=>Aa R R (Cw R)<|Ac<|Av hm R (fun h17 hm=>?_) fun h17 hm=> ?_
 ·exact Af<|Ba (A7 [7,0,1,2,3,4,5,6] R)<|A3 1 mixed<|Au 0 R R R (by kernel_rfl) (A5 pl41 R R)<|An tbk [1,2] [] (by kernel_rfl) R R R<|Bd hm fun x h18 hm=>Au 3 R R R (by kernel_rfl) (A2 T_api_Node.vv R R el36 h18)<|An tbk [4,5] [] (by kernel_rfl) R R R<|Ai 6 (by kernel_rfl)<|Ao R R R<|Al (i:=0) R R R ld41 R R R<|An tbk [7,8] [] (by kernel_rfl) R R R<|Ay (by kernel_rfl)<|Ba (Bc 141)<|Ba (Az (H':=[.box b 41 [.str (⟨#[]⟩ : ByteArray),.str (⟨#[]⟩ : ByteArray),Iw (0 : Int),Iw (0 : Int),Iw (0 : Int),Iw (0 : Int),Iw (0 : Int),L141 ([] : List T_api_Label),.sl none 0 0,.bool false],.row (some b9) 110 cap (KR3 b3 b4 b7 b8),.box b3 108 [.ptr b2 1],X41 b2 (⟨r4.1,r4.2.2.2.Group,r4.2.2.2.Has,r4.2.2.2.Labels,r4.2.2.2.Taints,r4.2.2.2.Ready⟩ : T_api_Machine),.box b4 112 [.ptr b2 9],.box b7 114 [.ptr b2 0],.box b8 169 [.ptr b2 7],.row (some b6) 110 3 (KR2 b7 b8)]) 0 [] R trivial ⟨.box _ _ _ _ ⟨.same _,.same _,.same _,.same _,.same _,.same _,.same _,.here _ R,.same _,.same _,trivial⟩,.same _,.same _,.same _,.same _,.same _,.same _,.same _,trivial⟩)<|Ba (Bc 143)<|Ba (Az (H':=[X41 b (⟨(⟨#[]⟩ : ByteArray),(⟨#[]⟩ : ByteArray),(⟨(0 : Int),(0 : Int),(0 : Int),(0 : Int),(0 : Int)⟩ : T_api_Res),([] : List T_api_Label),([] : List T_api_Taint),false⟩ : T_api_Machine),.row (some b9) 110 cap (KR3 b3 b4 b7 b8),.box b3 108 [.ptr b2 1],X41 b2 (⟨r4.1,r4.2.2.2.Group,r4.2.2.2.Has,r4.2.2.2.Labels,r4.2.2.2.Taints,r4.2.2.2.Ready⟩ : T_api_Machine),.box b4 112 [.ptr b2 9],.box b7 114 [.ptr b2 0],.box b8 169 [.ptr b2 7],.row (some b6) 110 3 (KR2 b7 b8)]) 0 [] R trivial ⟨.box _ _ _ _ ⟨.same _,.same _,.same _,.same _,.same _,.same _,.same _,.same _,.here _ R,.same _,trivial⟩,.same _,.same _,.same _,.same _,.same _,.same _,.same _,trivial⟩)<|Rt0 hm R [] (.cons (.cell _ _ _ _ 0 _ _ _ _ R R ld41 R) (.cons (.tmp _ _ R) (.cons (.tmp _ _ R) .nil))) R R
 exact Aj<|Ae<|Ab tbk [2] 1 R R<|Ad R R<|Al (i:=7) R R R ld41 R R R<|Ab tbk [] 2 R R<|Ac<|Rt0 hm R [] (.cons (.cell _ _ _ _ 7 _ _ _ _ R R ld41 R) (.cons (.tmp _ _ R) (.cons (.tmp _ _ R) .nil))) R R

/-! (*trireme/spec.reader).head -/
def spec_reader_head_x_x (r_ : T_spec_reader) (c : T_api_Group) (i : Int) : Option (ByteArray × List Int) :=
 (V.gl r_.l i).bind fun x =>
 if (x.Kind == 3) = true then
  (V.gl r_.l i).bind fun x2 =>
  some (x2.Text, ([] : List Int))
 else
  (tree_Kids r_.l i).bind fun r =>
  (V.gl r_.l i).bind fun x3 =>
  (if ((x3.Kind != 5) || ((r.length : Int) == 0)) = true then some true else (V.gl r (0 : Int)).bind fun x4 =>
  (V.gl r_.l x4).bind fun x5 =>
  some (x5.Kind != 3)).bind fun c2 =>
  if c2 = true then
   some ((⟨#[]⟩ : ByteArray), ([] : List Int))
  else
   (V.gl r (0 : Int)).bind fun x6 =>
   (V.gl r_.l x6).bind fun x7 =>
   (V.sl r (some 1) none).bind fun v =>
   some (x7.Text, v)
theorem K131 (r_ : T_spec_reader) (c : T_api_Group) (i : Int) (b : Nat) (b2 : Nat) (b3 : Nat) (cap : Nat) (b4 : Nat) (ob : Option Nat) (cap2 : Nat) (ob2 : Option Nat) (cap3 : Nat) (b5 : Nat) (b6 : Nat) (b7 : Nat) (b8 : Nat) : VS Tryz.prog 163 (spec_reader_head_x_x r_ c i) [.ptr b 0, Iw i] [.box b 165 [L100 r_.l, .sl (some b3) 6 cap, .map b2, Iw r_.e, Iw r_.at_], .map b2 (List.map (pf VV.str (VV.int .i64)) r_.had), .row (some b3) 110 cap (KR5 b4 b5 b6 b7 b8), .box b4 48 [.str c.Name, Iw c.Min, Iw c.Max, .str c.Like.Name, .str c.Like.Group, Iw c.Like.Has.Cpu, Iw c.Like.Has.Mem, Iw c.Like.Has.Disk, Iw c.Like.Has.Pods, Iw c.Like.Has.Dev, Z141 ob c.Like.Labels cap2, Z143 ob2 c.Like.Taints cap3, .bool c.Like.Ready, Iw c.Price, Iw c.Rank], Q141 ob cap2 c.Like.Labels, Q143 ob2 cap3 c.Like.Taints, .box b5 119 [.ptr b4 13], .box b6 119 [.ptr b4 14], .box b7 114 [.ptr b4 3], .box b8 169 [.ptr b4 10]] (fun r=>.tup [.str r.1, L3 r.2]) (fun r=>[.box b 165 [L100 r_.l, .sl (some b3) 6 cap, .map b2, Iw r_.e, Iw r_.at_], .map b2 (List.map (pf VV.str (VV.int .i64)) r_.had), .row (some b3) 110 cap (KR5 b4 b5 b6 b7 b8), .box b4 48 [.str c.Name, Iw c.Min, Iw c.Max, .str c.Like.Name, .str c.Like.Group, Iw c.Like.Has.Cpu, Iw c.Like.Has.Mem, Iw c.Like.Has.Disk, Iw c.Like.Has.Pods, Iw c.Like.Has.Dev, Z141 ob c.Like.Labels cap2, Z143 ob2 c.Like.Taints cap3, .bool c.Like.Ready, Iw c.Price, Iw c.Rank], Q141 ob cap2 c.Like.Labels, Q143 ob2 cap3 c.Like.Taints, .box b5 119 [.ptr b4 13], .box b6 119 [.ptr b4 14], .box b7 114 [.ptr b4 3], .box b8 169 [.ptr b4 10]]) := by
 refine A8 [.tmp 4,.tmp 5] Ds R R R fun r hm=>?_
 unfold spec_reader_head_x_x at hm
 exact Ag tbk [] R R<|Af<|Ae<|Ab tbk [0] 5 R R<|Bd hm fun x h1 hm=>Aa R R (A2 T_api_Node.vv R R el36 h1)<|Ab tbk [] 3 R R<|Ac<|Av hm R (fun h2 hm=>Ae<|Ab tbk [0] 5 R R<|Bd hm fun x2 h3 hm=>Aa R R (A2 T_api_Node.vv R R el36 h3)<|Ab tbk [] 4 R R<|Ac<|Ba (Cz 5 3 R)<|Rt2 hm R [0,1,2,3,4,5,6,7,8,9] R R R R) fun h2 hm=>Aj<|Ae<|Ab tbk [0] 5 R R<|Ad R R<|A1 hm 0 R fn125 R (K55 _ _) fun r hm=>Aa R R (Am R)<|Ac<|Af<|Af<|A3 0 mixed<|An tbk [0,1,2,3,4] [0] (by kernel_rfl) R R R<|Bd hm fun x3 h5 hm=>Au 5 R R R (by kernel_rfl) (A2 T_api_Node.vv R R el36 h5)<|An tbk [6,7,8,9] [] (by kernel_rfl) R R R<|VA.so [13,12,11,10,9,8,7,6,5,4,3,2,1,0] 43 39 R (fun K' J=>An tbk [10,11,12,13] [] (by kernel_rfl) R R R<|J 3 R R R) (fun h6 K' J=>Bv 10 R R R R R R (by kernel_rfl) (Ak R)<|Bv 11 R R R R R R (by kernel_rfl) (Bg (VV.int .i64) R Bi)<|An tbk [12,13] [] (by kernel_rfl) R R R<|J 3 R R R)<|Au 14 R R R (by kernel_rfl) (Ak R)<|Cj hm [26,25,24,23,22,21,20,19,18,17,16,15,14,13,12,11,10,9,8,7,6,5,4,3,2,1,0] 56 44 R (fun _ K' h7 J hm=>An tbk [15,16,17,18,19,20,21,22,23,24,25,26] [] (by kernel_rfl) R R R<|J 11 R R (Bj hm)) (fun _ K' h7 J hm=>An tbk [15,16,17,18,19] [0] (by kernel_rfl) R R R<|Bd hm fun x4 h8 hm=>Bv 20 R R R R R R (by kernel_rfl) (A2 (VV.int .i64) R R el27 h8)<|Bv 21 R R R R R R (by kernel_rfl) (Bn R ld3 R)<|Bd hm fun x5 h9 hm=>Bv 22 R R R R R R (by kernel_rfl) (A2 T_api_Node.vv R R el36 h9)<|An tbk [23,24,25,26] [] (by kernel_rfl) R R R<|J 11 R R (Bj hm)) fun c2 hm=>Ay (by kernel_rfl)<|Av hm R (fun h11 hm=>Ag tbk [] R R<|Ba (Cz 5 3 R)<|Rt2 hm R [0,1,2,3,4,5,6,7,8,9] R R R R) fun h11 hm=>Aj<|Af<|A3 0 mixed<|An tbk [0,1,2,3,4] [0] (by kernel_rfl) R R R<|Bd hm fun x6 h12 hm=>Au 5 R R R (by kernel_rfl) (A2 (VV.int .i64) R R el27 h12)<|Au 6 R R R (by kernel_rfl) (Bn R ld3 R)<|Bd hm fun x7 h13 hm=>Au 7 R R R (by kernel_rfl) (A2 T_api_Node.vv R R el36 h13)<|An tbk [8,9,10] [] (by kernel_rfl) R R R<|Bd hm fun v h14 hm=>Au 11 R R R (by kernel_rfl) (Dj R R R el27 h14)<|An tbk [12,13] [] (by kernel_rfl) R R R<|Ay (by kernel_rfl)<|Rt2 hm R [0,1,2,3,4,5,6,7,8,9] R R R R

/-! (*trireme/spec.reader).fail -/
def spec_reader_fail_x_x (r_ : T_spec_reader) (c : T_api_Group) (e : Int) (at_ : Int) : Option T_spec_reader :=
 some (⟨r_.l, (), r_.had, e, at_⟩ : T_spec_reader)
theorem K132 (r_ : T_spec_reader) (c : T_api_Group) (e : Int) (at_ : Int) (b : Nat) (b2 : Nat) (b3 : Nat) (cap : Nat) (b4 : Nat) (ob : Option Nat) (cap2 : Nat) (ob2 : Option Nat) (cap3 : Nat) (b5 : Nat) (b6 : Nat) (b7 : Nat) (b8 : Nat) : VS1 Tryz.prog 164 (spec_reader_fail_x_x r_ c e at_) [.ptr b 0, Iw e, Iw at_] [.box b 165 [L100 r_.l, .sl (some b3) 6 cap, .map b2, Iw r_.e, Iw r_.at_], .map b2 (List.map (pf VV.str (VV.int .i64)) r_.had), .row (some b3) 110 cap (KR5 b4 b5 b6 b7 b8), .box b4 48 [.str c.Name, Iw c.Min, Iw c.Max, .str c.Like.Name, .str c.Like.Group, Iw c.Like.Has.Cpu, Iw c.Like.Has.Mem, Iw c.Like.Has.Disk, Iw c.Like.Has.Pods, Iw c.Like.Has.Dev, Z141 ob c.Like.Labels cap2, Z143 ob2 c.Like.Taints cap3, .bool c.Like.Ready, Iw c.Price, Iw c.Rank], Q141 ob cap2 c.Like.Labels, Q143 ob2 cap3 c.Like.Taints, .box b5 119 [.ptr b4 13], .box b6 119 [.ptr b4 14], .box b7 114 [.ptr b4 3], .box b8 169 [.ptr b4 10]] (fun r b0_2=>.tup []) (fun r b0_2=>[.box b 165 [L100 r.l, .sl (some b3) 6 cap, .map b0_2, Iw r.e, Iw r.at_], .map b0_2 (List.map (pf VV.str (VV.int .i64)) r.had), .row (some b3) 110 cap (KR5 b4 b5 b6 b7 b8), .box b4 48 [.str c.Name, Iw c.Min, Iw c.Max, .str c.Like.Name, .str c.Like.Group, Iw c.Like.Has.Cpu, Iw c.Like.Has.Mem, Iw c.Like.Has.Disk, Iw c.Like.Has.Pods, Iw c.Like.Has.Dev, Z141 ob c.Like.Labels cap2, Z143 ob2 c.Like.Taints cap3, .bool c.Like.Ready, Iw c.Price, Iw c.Rank], Q141 ob cap2 c.Like.Labels, Q143 ob2 cap3 c.Like.Taints, .box b5 119 [.ptr b4 13], .box b6 119 [.ptr b4 14], .box b7 114 [.ptr b4 3], .box b8 169 [.ptr b4 10]]) := by
 refine VS1.run [] Dt R R R fun r hm=>?_
 unfold spec_reader_fail_x_x at hm
 refine Bb<|Ab tbk [] 6 R R<|Ad R R<|Al (i:=0) R R R ld33 R R R<|Ab tbk [] 2 R R<|Ad R R<|Al (i:=0) R R R ld3 R R R<|Ac<|?_
 obtain rfl:=Option.some.inj hm
 exact ⟨.inr R,_,.nil,[0,1,2,3,4,5,6,7,8,9],_,R,b2,R,R⟩

/-! trireme/spec.Group$1 -/
def spec_Group_1 (x : List I_any20) (a : T_api_Group) : Option T_api_Group :=
 (V.gl x (0 : Int)).bind fun x2 =>
 (V.gl x (1 : Int)).bind fun x3 =>
 (spec_num x2).bind fun r =>
 (spec_num x3).bind fun r2 =>
 some (⟨a.Name, r, r2, a.Like, a.Price, a.Rank⟩ : T_api_Group)
theorem K133 (x : List I_any20) (a : T_api_Group) (b : Nat) (ob : Option Nat) (cap : Nat) (ob2 : Option Nat) (cap2 : Nat) : ∀ r : T_api_Group, spec_Group_1 x a = some r → VC Tryz.prog 89 [L20 x, .ptr b 0] [.box b 48 [.str a.Name, Iw a.Min, Iw a.Max, .str a.Like.Name, .str a.Like.Group, Iw a.Like.Has.Cpu, Iw a.Like.Has.Mem, Iw a.Like.Has.Disk, Iw a.Like.Has.Pods, Iw a.Like.Has.Dev, Z141 ob a.Like.Labels cap, Z143 ob2 a.Like.Taints cap2, .bool a.Like.Ready, Iw a.Price, Iw a.Rank], Q141 ob cap a.Like.Labels, Q143 ob2 cap2 a.Like.Taints] fun zx zH => ∃ (ob0_10 : Option Nat) (cap0_10 : Nat) (ob0_11 : Option Nat) (cap0_11 : Nat), zx = .tup [] ∧ zH = [.box b 48 [.str r.Name, Iw r.Min, Iw r.Max, .str r.Like.Name, .str r.Like.Group, Iw r.Like.Has.Cpu, Iw r.Like.Has.Mem, Iw r.Like.Has.Disk, Iw r.Like.Has.Pods, Iw r.Like.Has.Dev, Z141 ob0_10 r.Like.Labels cap0_10, Z143 ob0_11 r.Like.Taints cap0_11, .bool r.Like.Ready, Iw r.Price, Iw r.Rank], Q141 ob0_10 cap0_10 r.Like.Labels, Q143 ob0_11 cap0_11 r.Like.Taints] := by
 refine B2 [] Tryz.func89 R R R fun r hm=>?_
 unfold spec_Group_1 at hm
 refine A3 1 mixed<|Au 0 R R R (by kernel_rfl) (Ak R)<|Bd hm fun x2 h1 hm=>Au 1 R R R (by kernel_rfl) (A2 I_any20.vv R R el81 h1)<|An tbk [2,4] [] (by kernel_rfl) R R R<|Bd hm fun x3 h2 hm=>Au 5 R R R (by kernel_rfl) (A2 I_any20.vv R R el81 h2)<|Au 6 R R R (by kernel_rfl) (Bn R ld20 R)<|Ai 3 (by kernel_rfl)<|Bd hm fun r h3 hm=>Ao R R R<|Aw 0 R fn90 R (K78 x2 r h3) fun _ _ h6=> ?_
 obtain ⟨rfl,rfl⟩:=h6
 refine Ai 7 (by kernel_rfl)<|Bd hm fun r2 h4 hm=>Ao R R R<|Aw 0 R fn90 R (K78 x3 r2 h4) fun _ _ h5=> ?_
 obtain ⟨rfl,rfl⟩:=h5
 refine Au 8 R R R (by kernel_rfl) (Cl R fa48_1)<|Ai 9 (by kernel_rfl)<|Ao R R R<|Al (i:=0) R R R ld3 R R R<|Au 10 R R R (by kernel_rfl) (Cl R fa48_2)<|Ai 11 (by kernel_rfl)<|Ao R R R<|Al (i:=0) R R R ld3 R R R<|Ay (by kernel_rfl)<|?_
 obtain rfl:=Option.some.inj hm
 exact ⟨.inr R,_,.nil,[0,1,2],_,R,ob,cap,ob2,cap2,R,R⟩

/-! trireme/spec.number$1 -/
def spec_number_1_x_x (x : List I_any20) (x2 : T_api_Group) : Option T_api_Group :=
 (V.gl x (0 : Int)).bind fun x3 =>
 (spec_num x3).bind fun r =>
 some (⟨x2.Name, x2.Min, x2.Max, x2.Like, r, x2.Rank⟩ : T_api_Group)
theorem K134 (x : List I_any20) (x2 : T_api_Group) (b : Nat) (b2 : Nat) (ob : Option Nat) (cap : Nat) (ob2 : Option Nat) (cap2 : Nat) : ∀ r : T_api_Group, spec_number_1_x_x x x2 = some r → VC Tryz.prog 141 [L20 x, .ptr b 0] [.box b 119 [.ptr b2 13], .box b2 48 [.str x2.Name, Iw x2.Min, Iw x2.Max, .str x2.Like.Name, .str x2.Like.Group, Iw x2.Like.Has.Cpu, Iw x2.Like.Has.Mem, Iw x2.Like.Has.Disk, Iw x2.Like.Has.Pods, Iw x2.Like.Has.Dev, Z141 ob x2.Like.Labels cap, Z143 ob2 x2.Like.Taints cap2, .bool x2.Like.Ready, Iw x2.Price, Iw x2.Rank], Q141 ob cap x2.Like.Labels, Q143 ob2 cap2 x2.Like.Taints] fun zx zH => ∃ (ob1_10 : Option Nat) (cap1_10 : Nat) (ob1_11 : Option Nat) (cap1_11 : Nat), zx = .tup [] ∧ zH = [.box b 119 [.ptr b2 13], .box b2 48 [.str r.Name, Iw r.Min, Iw r.Max, .str r.Like.Name, .str r.Like.Group, Iw r.Like.Has.Cpu, Iw r.Like.Has.Mem, Iw r.Like.Has.Disk, Iw r.Like.Has.Pods, Iw r.Like.Has.Dev, Z141 ob1_10 r.Like.Labels cap1_10, Z143 ob1_11 r.Like.Taints cap1_11, .bool r.Like.Ready, Iw r.Price, Iw r.Rank], Q141 ob1_10 cap1_10 r.Like.Labels, Q143 ob1_11 cap1_11 r.Like.Taints] := by
 refine B2 [] Dk R R R fun r hm=>?_
 unfold spec_number_1_x_x at hm
 refine Ba (A7 [1,0,2,3] R)<|A3 1 mixed<|An tbk [0,1] [0] (by kernel_rfl) R R R<|Bd hm fun x3 h1 hm=>Au 2 R R R (by kernel_rfl) (A2 I_any20.vv R R el81 h1)<|Au 3 R R R (by kernel_rfl) (Bn R ld20 R)<|Ai 4 (by kernel_rfl)<|Bd hm fun r h2 hm=>Ao R R R<|Aw 0 R fn90 R (K78 x3 r h2) fun _ _ h3=> ?_
 obtain ⟨rfl,rfl⟩:=h3
 refine Au 5 R R R (by kernel_rfl) (Bw R)<|Ai 6 (by kernel_rfl)<|Ao R R R<|Al (i:=0) R R R ld3 R R R<|Ay (by kernel_rfl)<|?_
 obtain rfl:=Option.some.inj hm
 exact ⟨.inr R,_,.nil,[1,0,2,3],_,R,ob,cap,ob2,cap2,R,R⟩

/-! trireme/spec.number$1 -/
def spec_number_1_x_x_x (x : List I_any20) (x2 : T_api_Group) : Option T_api_Group :=
 (V.gl x (0 : Int)).bind fun x3 =>
 (spec_num x3).bind fun r =>
 some (⟨x2.Name, x2.Min, x2.Max, x2.Like, x2.Price, r⟩ : T_api_Group)
theorem K135 (x : List I_any20) (x2 : T_api_Group) (b : Nat) (b2 : Nat) (ob : Option Nat) (cap : Nat) (ob2 : Option Nat) (cap2 : Nat) : ∀ r : T_api_Group, spec_number_1_x_x_x x x2 = some r → VC Tryz.prog 141 [L20 x, .ptr b 0] [.box b 119 [.ptr b2 14], .box b2 48 [.str x2.Name, Iw x2.Min, Iw x2.Max, .str x2.Like.Name, .str x2.Like.Group, Iw x2.Like.Has.Cpu, Iw x2.Like.Has.Mem, Iw x2.Like.Has.Disk, Iw x2.Like.Has.Pods, Iw x2.Like.Has.Dev, Z141 ob x2.Like.Labels cap, Z143 ob2 x2.Like.Taints cap2, .bool x2.Like.Ready, Iw x2.Price, Iw x2.Rank], Q141 ob cap x2.Like.Labels, Q143 ob2 cap2 x2.Like.Taints] fun zx zH => ∃ (ob1_10 : Option Nat) (cap1_10 : Nat) (ob1_11 : Option Nat) (cap1_11 : Nat), zx = .tup [] ∧ zH = [.box b 119 [.ptr b2 14], .box b2 48 [.str r.Name, Iw r.Min, Iw r.Max, .str r.Like.Name, .str r.Like.Group, Iw r.Like.Has.Cpu, Iw r.Like.Has.Mem, Iw r.Like.Has.Disk, Iw r.Like.Has.Pods, Iw r.Like.Has.Dev, Z141 ob1_10 r.Like.Labels cap1_10, Z143 ob1_11 r.Like.Taints cap1_11, .bool r.Like.Ready, Iw r.Price, Iw r.Rank], Q141 ob1_10 cap1_10 r.Like.Labels, Q143 ob1_11 cap1_11 r.Like.Taints] := by
 refine B2 [] Dk R R R fun r hm=>?_
 unfold spec_number_1_x_x_x at hm
 refine Ba (A7 [1,0,2,3] R)<|A3 1 mixed<|An tbk [0,1] [0] (by kernel_rfl) R R R<|Bd hm fun x3 h1 hm=>Au 2 R R R (by kernel_rfl) (A2 I_any20.vv R R el81 h1)<|Au 3 R R R (by kernel_rfl) (Bn R ld20 R)<|Ai 4 (by kernel_rfl)<|Bd hm fun r h2 hm=>Ao R R R<|Aw 0 R fn90 R (K78 x3 r h2) fun _ _ h3=> ?_
 obtain ⟨rfl,rfl⟩:=h3
 refine Au 5 R R R (by kernel_rfl) (Bw R)<|Ai 6 (by kernel_rfl)<|Ao R R R<|Al (i:=0) R R R ld3 R R R<|Ay (by kernel_rfl)<|?_
 obtain rfl:=Option.some.inj hm
 exact ⟨.inr R,_,.nil,[1,0,2,3],_,R,ob,cap,ob2,cap2,R,R⟩

/-! trireme/spec.common$1 -/
def spec_common_1_x (x : List I_any20) (x2 : T_api_Group) : Option T_api_Group :=
 (spec_amounts x).bind fun r =>
 some (⟨x2.Name, x2.Min, x2.Max, (⟨x2.Like.Name, x2.Like.Group, r, x2.Like.Labels, x2.Like.Taints, x2.Like.Ready⟩ : T_api_Machine), x2.Price, x2.Rank⟩ : T_api_Group)
theorem K136 (x : List I_any20) (x2 : T_api_Group) (b : Nat) (b2 : Nat) (ob : Option Nat) (cap : Nat) (ob2 : Option Nat) (cap2 : Nat) : ∀ r : T_api_Group, spec_common_1_x x x2 = some r → VC Tryz.prog 139 [L20 x, .ptr b 0] [.box b 114 [.ptr b2 3], .box b2 48 [.str x2.Name, Iw x2.Min, Iw x2.Max, .str x2.Like.Name, .str x2.Like.Group, Iw x2.Like.Has.Cpu, Iw x2.Like.Has.Mem, Iw x2.Like.Has.Disk, Iw x2.Like.Has.Pods, Iw x2.Like.Has.Dev, Z141 ob x2.Like.Labels cap, Z143 ob2 x2.Like.Taints cap2, .bool x2.Like.Ready, Iw x2.Price, Iw x2.Rank], Q141 ob cap x2.Like.Labels, Q143 ob2 cap2 x2.Like.Taints] fun zx zH => ∃ (ob1_10 : Option Nat) (cap1_10 : Nat) (ob1_11 : Option Nat) (cap1_11 : Nat), zx = .tup [] ∧ zH = [.box b 114 [.ptr b2 3], .box b2 48 [.str r.Name, Iw r.Min, Iw r.Max, .str r.Like.Name, .str r.Like.Group, Iw r.Like.Has.Cpu, Iw r.Like.Has.Mem, Iw r.Like.Has.Disk, Iw r.Like.Has.Pods, Iw r.Like.Has.Dev, Z141 ob1_10 r.Like.Labels cap1_10, Z143 ob1_11 r.Like.Taints cap1_11, .bool r.Like.Ready, Iw r.Price, Iw r.Rank], Q141 ob1_10 cap1_10 r.Like.Labels, Q143 ob1_11 cap1_11 r.Like.Taints] := by
 refine B2 [] Tryz.func139 R R R fun r hm=>?_
 unfold spec_common_1_x at hm
 refine Ba (A7 [1,0,2,3] R)<|A3 1 mixed<|An tbk [0,1] [0] (by kernel_rfl) R R R<|Ai 2 (by kernel_rfl)<|Ao R R R<|A1 hm 0 R fn128 R (K79 _) fun r hm=>An tbk [3,4] [] (by kernel_rfl) R R R<|Ai 5 (by kernel_rfl)<|Ao R R R<|Al (i:=0) R R R ld23 R R R<|Ay (by kernel_rfl)<|?_
 obtain rfl:=Option.some.inj hm
 exact ⟨.inr R,_,.nil,[1,0,2,3],_,R,ob,cap,ob2,cap2,R,R⟩

/-! trireme/spec.pair$1 -/
def spec_pair_1_x_x_x_x_x (x : List I_any20) (x2 : T_api_Group) : Option T_api_Group :=
 (V.gl x (0 : Int)).bind fun x3 =>
 (V.gl x (1 : Int)).bind fun x4 =>
 (spec_word x3).bind fun r =>
 (spec_word x4).bind fun r2 =>
 (V.ap 32 x2.Like.Labels [(⟨r, r2⟩ : T_api_Label)]).bind fun l =>
 some (⟨x2.Name, x2.Min, x2.Max, (⟨x2.Like.Name, x2.Like.Group, x2.Like.Has, l, x2.Like.Taints, x2.Like.Ready⟩ : T_api_Machine), x2.Price, x2.Rank⟩ : T_api_Group)
theorem K137 (x : List I_any20) (x2 : T_api_Group) (b : Nat) (b2 : Nat) (ob : Option Nat) (cap : Nat) (ob2 : Option Nat) (cap2 : Nat) : ∀ r : T_api_Group, spec_pair_1_x_x_x_x_x x x2 = some r → VC Tryz.prog 166 [L20 x, .ptr b 0] [.box b 169 [.ptr b2 10], .box b2 48 [.str x2.Name, Iw x2.Min, Iw x2.Max, .str x2.Like.Name, .str x2.Like.Group, Iw x2.Like.Has.Cpu, Iw x2.Like.Has.Mem, Iw x2.Like.Has.Disk, Iw x2.Like.Has.Pods, Iw x2.Like.Has.Dev, Z141 ob x2.Like.Labels cap, Z143 ob2 x2.Like.Taints cap2, .bool x2.Like.Ready, Iw x2.Price, Iw x2.Rank], Q141 ob cap x2.Like.Labels, Q143 ob2 cap2 x2.Like.Taints] fun zx zH => ∃ (ob1_10 : Option Nat) (cap1_10 : Nat) (ob1_11 : Option Nat) (cap1_11 : Nat), zx = .tup [] ∧ zH = [.box b 169 [.ptr b2 10], .box b2 48 [.str r.Name, Iw r.Min, Iw r.Max, .str r.Like.Name, .str r.Like.Group, Iw r.Like.Has.Cpu, Iw r.Like.Has.Mem, Iw r.Like.Has.Disk, Iw r.Like.Has.Pods, Iw r.Like.Has.Dev, Z141 ob1_10 r.Like.Labels cap1_10, Z143 ob1_11 r.Like.Taints cap1_11, .bool r.Like.Ready, Iw r.Price, Iw r.Rank], Q141 ob1_10 cap1_10 r.Like.Labels, Q143 ob1_11 cap1_11 r.Like.Taints] := by
 refine B2 [] C7 R R R fun r hm=>?_
 unfold spec_pair_1_x_x_x_x_x at hm
 refine Ba (A7 [1,2,0,3] R)<|A3 2 mixed<|An tbk [0,1,2,4] [0,0] (by kernel_rfl) R R R<|Bd hm fun x3 h1 hm=>Au 5 R R R (by kernel_rfl) (A2 I_any20.vv R R el81 h1)<|An tbk [6,8] [] (by kernel_rfl) R R R<|Bd hm fun x4 h2 hm=>Au 9 R R R (by kernel_rfl) (A2 I_any20.vv R R el81 h2)<|Au 10 R R R (by kernel_rfl) (Bn R ld20 R)<|?_
 refine B0 [3,7] (by kernel_rfl) ⟨?_,?_,trivial⟩
 ·refine Ao R R R<|B4 (Bq (i:=0) R R ld24 R)<|Ai 7 (by kernel_rfl)<|Bd hm fun r h3 hm=>Ao R R R<|Aw 0 R fn131 R (K81 x3 r h3) fun _ _ h8=> ?_
  obtain ⟨rfl,rfl⟩:=h8
  refine Ai 11 (by kernel_rfl)<|Bd hm fun r2 h4 hm=>Ao R R R<|Aw 0 R fn131 R (K81 x4 r2 h4) fun _ _ h7=> ?_
  obtain ⟨rfl,rfl⟩:=h7
  refine Au 12 R R R (by kernel_rfl) (A5 pl141 R R)<|Ai 13 (by kernel_rfl)<|Ao R R R<|Ax ap24 R R R R R fun b3=>Ai 14 (by kernel_rfl)<|Bd hm fun l h6 hm=>Ao R R R<|Bs 2 T_api_Label.vv (l:=x2.Like.Labels) (l2:=[(⟨r,r2⟩ : T_api_Label)]) ap24 R R (sT_row 0 T_api_Label.vv el24 R R) h6 fun ob3 cap3=>Au 15 R R R (by kernel_rfl) (Bw R)<|Ai 16 (by kernel_rfl)<|Ao R R R<|Al (i:=1) R R R ld24 R R R<|Ay (by kernel_rfl)<|?_
  obtain rfl:=Option.some.inj hm
  exact ⟨.inr R,_,.nil,[3,1,2,4],_,R,ob3,cap3,ob2,cap2,R,R⟩
 ·refine Bd hm fun r3 h9 hm=>Ao R R R<|Aw 0 R fn131 R (K81 x3 r3 h9) fun _ _ h20=> ?_
  obtain ⟨rfl,rfl⟩:=h20
  refine B0 [3,11] (by kernel_rfl) ⟨?_,?_,trivial⟩
  ·refine Ao R R R<|B4 (Bq (i:=0) R R ld24 R)<|Ai 11 (by kernel_rfl)<|Bd hm fun r4 h10 hm=>Ao R R R<|Aw 0 R fn131 R (K81 x4 r4 h10) fun _ _ h13=> ?_
   obtain ⟨rfl,rfl⟩:=h13
   refine Au 12 R R R (by kernel_rfl) (A5 pl141 R R)<|Ai 13 (by kernel_rfl)<|Ao R R R<|Ax ap24 R R R R R fun b4=>Ai 14 (by kernel_rfl)<|Bd hm fun l2 h12 hm=>Ao R R R<|Bs 2 T_api_Label.vv (l:=x2.Like.Labels) (l2:=[(⟨r3,r4⟩ : T_api_Label)]) ap24 R R (sT_row 0 T_api_Label.vv el24 R R) h12 fun ob4 cap4=>Au 15 R R R (by kernel_rfl) (Bw R)<|Ai 16 (by kernel_rfl)<|Ao R R R<|Al (i:=1) R R R ld24 R R R<|Ay (by kernel_rfl)<|?_
   obtain rfl:=Option.some.inj hm
   exact ⟨.inr R,_,.nil,[3,1,2,4],_,R,ob4,cap4,ob2,cap2,R,R⟩
  ·refine Bd hm fun r5 h14 hm=>Ao R R R<|Aw 0 R fn131 R (K81 x4 r5 h14) fun _ _ h19=> ?_
   obtain ⟨rfl,rfl⟩:=h19
   refine Au 12 R R R (by kernel_rfl) (A5 pl141 R R)<|?_
   refine B0 [3,13] (by kernel_rfl) ⟨?_,?_,trivial⟩
   ·refine Ao R R R<|B4 (Bq (i:=0) R R ld24 R)<|Ai 13 (by kernel_rfl)<|Ao R R R<|Ax ap24 R R R R R fun b5=>Ai 14 (by kernel_rfl)<|Bd hm fun l3 h16 hm=>Ao R R R<|Bs 2 T_api_Label.vv (l:=x2.Like.Labels) (l2:=[(⟨r3,r5⟩ : T_api_Label)]) ap24 R R (sT_row 0 T_api_Label.vv el24 R R) h16 fun ob5 cap5=>Au 15 R R R (by kernel_rfl) (Bw R)<|Ai 16 (by kernel_rfl)<|Ao R R R<|Al (i:=1) R R R ld24 R R R<|Ay (by kernel_rfl)<|?_
    obtain rfl:=Option.some.inj hm
    exact ⟨.inr R,_,.nil,[3,1,2,4],_,R,ob5,cap5,ob2,cap2,R,R⟩
   ·refine Ao R R R<|Ax ap24 R R R R R fun b6=>Ai 3 (by kernel_rfl)<|Ao R R R<|B4 (Bq (i:=1) R R ld24 R)<|Ai 14 (by kernel_rfl)<|Bd hm fun l4 h18 hm=>Ao R R R<|Bs 2 T_api_Label.vv (l:=x2.Like.Labels) (l2:=[(⟨r3,r5⟩ : T_api_Label)]) ap24 R R (sT_row 0 T_api_Label.vv el24 R R) h18 fun ob6 cap6=>Au 15 R R R (by kernel_rfl) (Bw R)<|Ai 16 (by kernel_rfl)<|Ao R R R<|Al (i:=1) R R R ld24 R R R<|Ay (by kernel_rfl)<|?_
    obtain rfl:=Option.some.inj hm
    exact ⟨.inr R,_,.nil,[3,1,2,4],_,R,ob6,cap6,ob2,cap2,R,R⟩

/-! trireme/spec.common$2 -/
def spec_common_2_x (x : List I_any20) (x2 : T_api_Group) : Option T_api_Group :=
 (V.gl x (0 : Int)).bind fun x3 =>
 (V.gl x (1 : Int)).bind fun x4 =>
 (V.gl x (2 : Int)).bind fun x5 =>
 (spec_word x3).bind fun r =>
 (spec_word x4).bind fun r2 =>
 (spec_num x5).bind fun r3 =>
 (V.ap 40 x2.Like.Taints [(⟨r, r2, r3⟩ : T_api_Taint)]).bind fun l =>
 some (⟨x2.Name, x2.Min, x2.Max, (⟨x2.Like.Name, x2.Like.Group, x2.Like.Has, x2.Like.Labels, l, x2.Like.Ready⟩ : T_api_Machine), x2.Price, x2.Rank⟩ : T_api_Group)
theorem K138 (x : List I_any20) (x2 : T_api_Group) (b : Nat) (b2 : Nat) (ob : Option Nat) (cap : Nat) (ob2 : Option Nat) (cap2 : Nat) : ∀ r : T_api_Group, spec_common_2_x x x2 = some r → VC Tryz.prog 140 [L20 x, .ptr b 0] [.box b 114 [.ptr b2 3], .box b2 48 [.str x2.Name, Iw x2.Min, Iw x2.Max, .str x2.Like.Name, .str x2.Like.Group, Iw x2.Like.Has.Cpu, Iw x2.Like.Has.Mem, Iw x2.Like.Has.Disk, Iw x2.Like.Has.Pods, Iw x2.Like.Has.Dev, Z141 ob x2.Like.Labels cap, Z143 ob2 x2.Like.Taints cap2, .bool x2.Like.Ready, Iw x2.Price, Iw x2.Rank], Q141 ob cap x2.Like.Labels, Q143 ob2 cap2 x2.Like.Taints] fun zx zH => ∃ (ob1_10 : Option Nat) (cap1_10 : Nat) (ob1_11 : Option Nat) (cap1_11 : Nat), zx = .tup [] ∧ zH = [.box b 114 [.ptr b2 3], .box b2 48 [.str r.Name, Iw r.Min, Iw r.Max, .str r.Like.Name, .str r.Like.Group, Iw r.Like.Has.Cpu, Iw r.Like.Has.Mem, Iw r.Like.Has.Disk, Iw r.Like.Has.Pods, Iw r.Like.Has.Dev, Z141 ob1_10 r.Like.Labels cap1_10, Z143 ob1_11 r.Like.Taints cap1_11, .bool r.Like.Ready, Iw r.Price, Iw r.Rank], Q141 ob1_10 cap1_10 r.Like.Labels, Q143 ob1_11 cap1_11 r.Like.Taints] := by
 refine B2 [] Tryz.func140 R R R fun r hm=>?_
 unfold spec_common_2_x at hm
 refine Ba (A7 [1,3,0,2] R)<|A3 2 mixed<|An tbk [0,1,2,3,5] [0,0] (by kernel_rfl) R R R<|Bd hm fun x3 h1 hm=>Au 6 R R R (by kernel_rfl) (A2 I_any20.vv R R el81 h1)<|An tbk [7,9] [] (by kernel_rfl) R R R<|Bd hm fun x4 h2 hm=>Au 10 R R R (by kernel_rfl) (A2 I_any20.vv R R el81 h2)<|An tbk [11,13] [] (by kernel_rfl) R R R<|Bd hm fun x5 h3 hm=>Au 14 R R R (by kernel_rfl) (A2 I_any20.vv R R el81 h3)<|Au 15 R R R (by kernel_rfl) (Bn R ld20 R)<|?_
 refine B0 [4,8] (by kernel_rfl) ⟨?_,?_,trivial⟩
 ·refine Ao R R R<|B4 (Bq (i:=0) R R ld39 R)<|Ai 8 (by kernel_rfl)<|Bd hm fun r h4 hm=>Ao R R R<|Aw 0 R fn131 R (K81 x3 r h4) fun _ _ h11=> ?_
  obtain ⟨rfl,rfl⟩:=h11
  refine Ai 12 (by kernel_rfl)<|Bd hm fun r2 h5 hm=>Ao R R R<|Aw 0 R fn131 R (K81 x4 r2 h5) fun _ _ h10=> ?_
  obtain ⟨rfl,rfl⟩:=h10
  refine Ai 16 (by kernel_rfl)<|Bd hm fun r3 h6 hm=>Ao R R R<|Aw 0 R fn90 R (K78 x5 r3 h6) fun _ _ h9=> ?_
  obtain ⟨rfl,rfl⟩:=h9
  refine Au 17 R R R (by kernel_rfl) (A5 pl143 R R)<|Ai 18 (by kernel_rfl)<|Ao R R R<|Ax ap39 R R R R R fun b3=>Ai 19 (by kernel_rfl)<|Bd hm fun l h8 hm=>Ao R R R<|Bs 2 T_api_Taint.vv (l:=x2.Like.Taints) (l2:=[(⟨r,r2,r3⟩ : T_api_Taint)]) ap39 R R (sT_row 0 T_api_Taint.vv el39 R R) h8 fun ob3 cap3=>An tbk [20,21] [] (by kernel_rfl) R R R<|Ai 22 (by kernel_rfl)<|Ao R R R<|Al (i:=1) R R R ld39 R R R<|Ay (by kernel_rfl)<|?_
  obtain rfl:=Option.some.inj hm
  exact ⟨.inr R,_,.nil,[3,1,4,2],_,R,ob,cap,ob3,cap3,R,R⟩
 ·refine Bd hm fun r4 h12 hm=>Ao R R R<|Aw 0 R fn131 R (K81 x3 r4 h12) fun _ _ h31=> ?_
  obtain ⟨rfl,rfl⟩:=h31
  refine B0 [4,12] (by kernel_rfl) ⟨?_,?_,trivial⟩
  ·refine Ao R R R<|B4 (Bq (i:=0) R R ld39 R)<|Ai 12 (by kernel_rfl)<|Bd hm fun r5 h13 hm=>Ao R R R<|Aw 0 R fn131 R (K81 x4 r5 h13) fun _ _ h18=> ?_
   obtain ⟨rfl,rfl⟩:=h18
   refine Ai 16 (by kernel_rfl)<|Bd hm fun r6 h14 hm=>Ao R R R<|Aw 0 R fn90 R (K78 x5 r6 h14) fun _ _ h17=> ?_
   obtain ⟨rfl,rfl⟩:=h17
   refine Au 17 R R R (by kernel_rfl) (A5 pl143 R R)<|Ai 18 (by kernel_rfl)<|Ao R R R<|Ax ap39 R R R R R fun b4=>Ai 19 (by kernel_rfl)<|Bd hm fun l2 h16 hm=>Ao R R R<|Bs 2 T_api_Taint.vv (l:=x2.Like.Taints) (l2:=[(⟨r4,r5,r6⟩ : T_api_Taint)]) ap39 R R (sT_row 0 T_api_Taint.vv el39 R R) h16 fun ob4 cap4=>An tbk [20,21] [] (by kernel_rfl) R R R<|Ai 22 (by kernel_rfl)<|Ao R R R<|Al (i:=1) R R R ld39 R R R<|Ay (by kernel_rfl)<|?_
   obtain rfl:=Option.some.inj hm
   exact ⟨.inr R,_,.nil,[3,1,4,2],_,R,ob,cap,ob4,cap4,R,R⟩
  ·refine Bd hm fun r7 h19 hm=>Ao R R R<|Aw 0 R fn131 R (K81 x4 r7 h19) fun _ _ h30=> ?_
   obtain ⟨rfl,rfl⟩:=h30
   refine B0 [4,16] (by kernel_rfl) ⟨?_,?_,trivial⟩
   ·refine Ao R R R<|B4 (Bq (i:=0) R R ld39 R)<|Ai 16 (by kernel_rfl)<|Bd hm fun r8 h20 hm=>Ao R R R<|Aw 0 R fn90 R (K78 x5 r8 h20) fun _ _ h23=> ?_
    obtain ⟨rfl,rfl⟩:=h23
    refine Au 17 R R R (by kernel_rfl) (A5 pl143 R R)<|Ai 18 (by kernel_rfl)<|Ao R R R<|Ax ap39 R R R R R fun b5=>Ai 19 (by kernel_rfl)<|Bd hm fun l3 h22 hm=>Ao R R R<|Bs 2 T_api_Taint.vv (l:=x2.Like.Taints) (l2:=[(⟨r4,r7,r8⟩ : T_api_Taint)]) ap39 R R (sT_row 0 T_api_Taint.vv el39 R R) h22 fun ob5 cap5=>An tbk [20,21] [] (by kernel_rfl) R R R<|Ai 22 (by kernel_rfl)<|Ao R R R<|Al (i:=1) R R R ld39 R R R<|Ay (by kernel_rfl)<|?_
    obtain rfl:=Option.some.inj hm
    exact ⟨.inr R,_,.nil,[3,1,4,2],_,R,ob,cap,ob5,cap5,R,R⟩
   ·refine Bd hm fun r9 h24 hm=>Ao R R R<|Aw 0 R fn90 R (K78 x5 r9 h24) fun _ _ h29=> ?_
    obtain ⟨rfl,rfl⟩:=h29
    refine Au 17 R R R (by kernel_rfl) (A5 pl143 R R)<|?_
    refine B0 [4,18] (by kernel_rfl) ⟨?_,?_,trivial⟩
    ·refine Ao R R R<|B4 (Bq (i:=0) R R ld39 R)<|Ai 18 (by kernel_rfl)<|Ao R R R<|Ax ap39 R R R R R fun b6=>Ai 19 (by kernel_rfl)<|Bd hm fun l4 h26 hm=>Ao R R R<|Bs 2 T_api_Taint.vv (l:=x2.Like.Taints) (l2:=[(⟨r4,r7,r9⟩ : T_api_Taint)]) ap39 R R (sT_row 0 T_api_Taint.vv el39 R R) h26 fun ob6 cap6=>An tbk [20,21] [] (by kernel_rfl) R R R<|Ai 22 (by kernel_rfl)<|Ao R R R<|Al (i:=1) R R R ld39 R R R<|Ay (by kernel_rfl)<|?_
     obtain rfl:=Option.some.inj hm
     exact ⟨.inr R,_,.nil,[3,1,4,2],_,R,ob,cap,ob6,cap6,R,R⟩
    ·refine Ao R R R<|Ax ap39 R R R R R fun b7=>Ai 4 (by kernel_rfl)<|Ao R R R<|B4 (Bq (i:=1) R R ld39 R)<|Ai 19 (by kernel_rfl)<|Bd hm fun l5 h28 hm=>Ao R R R<|Bs 2 T_api_Taint.vv (l:=x2.Like.Taints) (l2:=[(⟨r4,r7,r9⟩ : T_api_Taint)]) ap39 R R (sT_row 0 T_api_Taint.vv el39 R R) h28 fun ob7 cap7=>An tbk [20,21] [] (by kernel_rfl) R R R<|Ai 22 (by kernel_rfl)<|Ao R R R<|Al (i:=1) R R R ld39 R R R<|Ay (by kernel_rfl)<|?_
     obtain rfl:=Option.some.inj hm
     exact ⟨.inr R,_,.nil,[3,1,4,2],_,R,ob,cap,ob7,cap7,R,R⟩

/-! (*trireme/spec.reader).field -/
def spec_reader_field_x_x.l1 (r : ByteArray × List Int) : Nat → ByteArray → Option ByteArray
 | 0, _ => none
 | n + 1, says4 =>
  if (decide ((says4.size : Int) < (r.2.length : Int))) = true then
   (V.cat says4 (⟨#[43]⟩ : ByteArray)).bind fun v3 =>
   spec_reader_field_x_x.l1 r n v3
  else
   some says4
def spec_reader_field_x_x.l2 (r_ : T_spec_reader) (c : T_api_Group) (r : ByteArray × List Int) (says2 : ByteArray) : List Int → Nat → (List I_any20) → Option (Out (T_spec_reader × T_api_Group) (List I_any20))
 | [], k, x9 => some (Out.go x9)
 | x11 :: l2, k, x9 =>
  (V.gl ((⟨r_.l, (), (V.mp r_.had r.1 (i64.wrap (((V.mg r_.had r.1).getD 0) + 1))), r_.e, r_.at_⟩ : T_spec_reader).l) x11).bind fun x12 =>
  (V.gi says2 (k : Int)).bind fun v4 =>
  (spec_value x12 v4).bind fun r4 =>
  if (r4.2 != 0) = true then
   (V.gl ((⟨r_.l, (), (V.mp r_.had r.1 (i64.wrap (((V.mg r_.had r.1).getD 0) + 1))), r_.e, r_.at_⟩ : T_spec_reader).l) x11).bind fun x13 =>
   (spec_reader_fail_x_x (⟨r_.l, (), (V.mp r_.had r.1 (i64.wrap (((V.mg r_.had r.1).getD 0) + 1))), r_.e, r_.at_⟩ : T_spec_reader) c r4.2 x13.At).bind fun r5 =>
   some (Out.ret (r5, c))
  else
   (V.ap 16 x9 [r4.1]).bind fun x14 =>
   spec_reader_field_x_x.l2 r_ c r says2 l2 (k + 1) x14
def spec_reader_field_x_x (r_ : T_spec_reader) (c : T_api_Group) (i : Int) : Option (T_spec_reader × T_api_Group) :=
 (V.gl r_.l i).bind fun x =>
 (spec_reader_head_x_x r_ c i).bind fun r =>
 ((if (V.seq (⟨#[115, 105, 122, 101]⟩ : ByteArray) r.1) = true then (V.gl r_.l i).bind fun x2 =>
 some ((V.seq (⟨#[110, 110]⟩ : ByteArray) (⟨#[]⟩ : ByteArray)) == (x2.Kind == 3)) else some false).bind fun c2 =>
 if c2 = true then
  some ((⟨#[115, 105, 122, 101]⟩ : ByteArray), (⟨#[110, 110]⟩ : ByteArray), 1)
 else
  some ((⟨#[]⟩ : ByteArray), (⟨#[]⟩ : ByteArray), 0)).bind fun j =>
 ((if (V.seq (⟨#[112, 114, 105, 99, 101]⟩ : ByteArray) r.1) = true then (V.gl r_.l i).bind fun x3 =>
 some ((V.seq (⟨#[110]⟩ : ByteArray) (⟨#[]⟩ : ByteArray)) == (x3.Kind == 3)) else some false).bind fun c3 =>
 if c3 = true then
  some ((⟨#[112, 114, 105, 99, 101]⟩ : ByteArray), (⟨#[110]⟩ : ByteArray), 2)
 else
  some (j.1, j.2.1, j.2.2)).bind fun j2 =>
 ((if (V.seq (⟨#[114, 97, 110, 107]⟩ : ByteArray) r.1) = true then (V.gl r_.l i).bind fun x4 =>
 some ((V.seq (⟨#[110]⟩ : ByteArray) (⟨#[]⟩ : ByteArray)) == (x4.Kind == 3)) else some false).bind fun c4 =>
 if c4 = true then
  some ((⟨#[114, 97, 110, 107]⟩ : ByteArray), (⟨#[110]⟩ : ByteArray), 3)
 else
  some (j2.1, j2.2.1, j2.2.2)).bind fun j3 =>
 ((if (V.seq (⟨#[104, 97, 115]⟩ : ByteArray) r.1) = true then (V.gl r_.l i).bind fun x5 =>
 some ((V.seq (⟨#[109, 112, 112, 110, 110]⟩ : ByteArray) (⟨#[]⟩ : ByteArray)) == (x5.Kind == 3)) else some false).bind fun c5 =>
 if c5 = true then
  some ((⟨#[104, 97, 115]⟩ : ByteArray), (⟨#[109, 112, 112, 110, 110]⟩ : ByteArray), 4)
 else
  some (j3.1, j3.2.1, j3.2.2)).bind fun j4 =>
 ((if (V.seq (⟨#[108, 97, 98, 101, 108]⟩ : ByteArray) r.1) = true then (V.gl r_.l i).bind fun x6 =>
 some ((V.seq (⟨#[119, 97]⟩ : ByteArray) (⟨#[]⟩ : ByteArray)) == (x6.Kind == 3)) else some false).bind fun c6 =>
 if c6 = true then
  some ((⟨#[108, 97, 98, 101, 108]⟩ : ByteArray), (⟨#[119, 97]⟩ : ByteArray), true, 5)
 else
  some (j4.1, j4.2.1, false, j4.2.2)).bind fun j5 =>
 ((if (V.seq (⟨#[116, 97, 105, 110, 116]⟩ : ByteArray) r.1) = true then (V.gl r_.l i).bind fun x7 =>
 some ((V.seq (⟨#[119, 97, 101]⟩ : ByteArray) (⟨#[]⟩ : ByteArray)) == (x7.Kind == 3)) else some false).bind fun c7 =>
 if c7 = true then
  some ((⟨#[116, 97, 105, 110, 116]⟩ : ByteArray), (⟨#[119, 97, 101]⟩ : ByteArray), true, 6)
 else
  some (j5.1, j5.2.1, j5.2.2.1, j5.2.2.2)).bind fun j6 =>
 if ((V.seq j6.1 (⟨#[]⟩ : ByteArray)) || ((decide (((V.mg (V.mp r_.had r.1 (i64.wrap (((V.mg r_.had r.1).getD 0) + 1))) r.1).getD 0) > 1)) && (!j6.2.2.1))) = true then
  (spec_reader_fail_x_x (⟨r_.l, (), (V.mp r_.had r.1 (i64.wrap (((V.mg r_.had r.1).getD 0) + 1))), r_.e, r_.at_⟩ : T_spec_reader) c 13 x.At).bind fun r2 =>
  some (r2, c)
 else
  ((if (decide ((j6.2.1.size : Int) > 0)) = true then (V.gi j6.2.1 (i64.wrap ((j6.2.1.size : Int) - 1))).bind fun v =>
  some (v == 43) else some false).bind fun c8 =>
  if c8 = true then
   (V.ss j6.2.1 none (some (i64.wrap ((j6.2.1.size : Int) - 1)))).bind fun v2 =>
   (spec_reader_field_x_x.l1 r FU v2).bind fun says52 =>
   some says52
  else
   some j6.2.1).bind fun says2 =>
  if ((r.2.length : Int) != (says2.size : Int)) = true then
   (spec_reader_fail_x_x (⟨r_.l, (), (V.mp r_.had r.1 (i64.wrap (((V.mg r_.had r.1).getD 0) + 1))), r_.e, r_.at_⟩ : T_spec_reader) c 12 x.At).bind fun r3 =>
   some (r3, c)
  else
   (spec_reader_field_x_x.l2 r_ c r says2 r.2 0 ([] : List I_any20)).bind fun o9 =>
   o9.on fun x102 =>
   if j6.2.2.2 = 1 then
    (spec_Group_1 x102 c).bind fun r6 =>
    some ((⟨r_.l, (), (V.mp r_.had r.1 (i64.wrap (((V.mg r_.had r.1).getD 0) + 1))), r_.e, r_.at_⟩ : T_spec_reader), r6)
   else
   if j6.2.2.2 = 2 then
    (spec_number_1_x_x x102 c).bind fun r7 =>
    some ((⟨r_.l, (), (V.mp r_.had r.1 (i64.wrap (((V.mg r_.had r.1).getD 0) + 1))), r_.e, r_.at_⟩ : T_spec_reader), r7)
   else
   if j6.2.2.2 = 3 then
    (spec_number_1_x_x_x x102 c).bind fun r8 =>
    some ((⟨r_.l, (), (V.mp r_.had r.1 (i64.wrap (((V.mg r_.had r.1).getD 0) + 1))), r_.e, r_.at_⟩ : T_spec_reader), r8)
   else
   if j6.2.2.2 = 4 then
    (spec_common_1_x x102 c).bind fun r9 =>
    some ((⟨r_.l, (), (V.mp r_.had r.1 (i64.wrap (((V.mg r_.had r.1).getD 0) + 1))), r_.e, r_.at_⟩ : T_spec_reader), r9)
   else
   if j6.2.2.2 = 5 then
    (spec_pair_1_x_x_x_x_x x102 c).bind fun r10 =>
    some ((⟨r_.l, (), (V.mp r_.had r.1 (i64.wrap (((V.mg r_.had r.1).getD 0) + 1))), r_.e, r_.at_⟩ : T_spec_reader), r10)
   else
   if j6.2.2.2 = 6 then
    (spec_common_2_x x102 c).bind fun r11 =>
    some ((⟨r_.l, (), (V.mp r_.had r.1 (i64.wrap (((V.mg r_.had r.1).getD 0) + 1))), r_.e, r_.at_⟩ : T_spec_reader), r11)
   else
    none
theorem K139 (r_ : T_spec_reader) (c : T_api_Group) (i : Int) (b : Nat) (b2 : Nat) (b3 : Nat) (cap : Nat) (b4 : Nat) (ob : Option Nat) (cap2 : Nat) (ob2 : Option Nat) (cap3 : Nat) (b5 : Nat) (b6 : Nat) (b7 : Nat) (b8 : Nat) : ∀ r : T_spec_reader × T_api_Group, spec_reader_field_x_x r_ c i = some r → VC Tryz.prog 126 [.ptr b 0, Iw i] [.box b 165 [L100 r_.l, .sl (some b3) 6 cap, .map b2, Iw r_.e, Iw r_.at_], .map b2 (List.map (pf VV.str (VV.int .i64)) r_.had), .row (some b3) 110 cap (KR5 b4 b5 b6 b7 b8), .box b4 48 [.str c.Name, Iw c.Min, Iw c.Max, .str c.Like.Name, .str c.Like.Group, Iw c.Like.Has.Cpu, Iw c.Like.Has.Mem, Iw c.Like.Has.Disk, Iw c.Like.Has.Pods, Iw c.Like.Has.Dev, Z141 ob c.Like.Labels cap2, Z143 ob2 c.Like.Taints cap3, .bool c.Like.Ready, Iw c.Price, Iw c.Rank], Q141 ob cap2 c.Like.Labels, Q143 ob2 cap3 c.Like.Taints, .box b5 119 [.ptr b4 13], .box b6 119 [.ptr b4 14], .box b7 114 [.ptr b4 3], .box b8 169 [.ptr b4 10]] fun zx zH => ∃ (b0_2 : Nat) (ob2_10 : Option Nat) (cap2_10 : Nat) (ob2_11 : Option Nat) (cap2_11 : Nat), zx = .tup [] ∧ zH = [.box b 165 [L100 r.1.l, .sl (some b3) 6 cap, .map b0_2, Iw r.1.e, Iw r.1.at_], .map b0_2 (List.map (pf VV.str (VV.int .i64)) r.1.had), .row (some b3) 110 cap (KR5 b4 b5 b6 b7 b8), .box b4 48 [.str r.2.Name, Iw r.2.Min, Iw r.2.Max, .str r.2.Like.Name, .str r.2.Like.Group, Iw r.2.Like.Has.Cpu, Iw r.2.Like.Has.Mem, Iw r.2.Like.Has.Disk, Iw r.2.Like.Has.Pods, Iw r.2.Like.Has.Dev, Z141 ob2_10 r.2.Like.Labels cap2_10, Z143 ob2_11 r.2.Like.Taints cap2_11, .bool r.2.Like.Ready, Iw r.2.Price, Iw r.2.Rank], Q141 ob2_10 cap2_10 r.2.Like.Labels, Q143 ob2_11 cap2_11 r.2.Like.Taints, .box b5 119 [.ptr b4 13], .box b6 119 [.ptr b4 14], .box b7 114 [.ptr b4 3], .box b8 169 [.ptr b4 10]] := by
 refine B2 [] Du R R R fun r hm=>?_
 unfold spec_reader_field_x_x at hm
 refine Ae<|Ab tbk [0] 5 R R<|Bd hm fun x h1 hm=>Aa R R (A2 T_api_Node.vv R R el36 h1)<|Ab tbk [] 3 R R<|Ac<|Ae<|Ab tbk [] 2 R R<|Ad R R<|A1 hm 10 R fn163 R (K131 _ _ _ _ _ _ _ _ _ _ _ _ _ _ _ _) fun r hm=>Ab tbk [] 5 R R<|Ac<|Ae<|Ad R R<|A9 z110 fun b9=>Ac<|Af<|Ae<|Ab tbk [1] 4 R R<|Aa R R (VP.lenR R Dh)<|Aa R R (Ak R)<|Ac<|A4<|VW.loop 7<|Ct<|Ag tbk [] R R<|Af<|Bp R (by decide)<|Aj<|Ca hm (fun _ (_:Unit)=>[(0,.ptr b 0),(1,Iw i),(4,Iw x.At),(5,.str r.1),(6,L3 r.2),(7,.ptr b9 0),(34,.sl (some b3) 6 cap),(35,Iw (6 : Int)),(36,Iw (0 : Int))]) (fun j (_:Unit)=>[.box b9 110 [.str j.1,.str j.2.1,.bool false,AL6 j.2.2 b4 b5 b6 b7 b8],.box b 165 [L100 r_.l,.sl (some b3) 6 cap,.map b2,Iw r_.e,Iw r_.at_],.map b2 (List.map (pf VV.str (VV.int .i64)) r_.had),.row (some b3) 110 cap (KR5 b4 b5 b6 b7 b8),.box b4 48 [.str c.Name,Iw c.Min,Iw c.Max,.str c.Like.Name,.str c.Like.Group,Iw c.Like.Has.Cpu,Iw c.Like.Has.Mem,Iw c.Like.Has.Disk,Iw c.Like.Has.Pods,Iw c.Like.Has.Dev,Z141 ob c.Like.Labels cap2,Z143 ob2 c.Like.Taints cap3,.bool c.Like.Ready,Iw c.Price,Iw c.Rank],Q141 ob cap2 c.Like.Labels,Q143 ob2 cap3 c.Like.Taints,.box b5 119 [.ptr b4 13],.box b6 119 [.ptr b4 14],.box b7 114 [.ptr b4 3],.box b8 169 [.ptr b4 10]]) (fun o hm=>A4<|Ae<|Aa R R (B7 R R el96 (by decide) (by decide))<|Aa R R (Bz (i:=3) R R R R ld110 R)<|Ad R R<|A9 z110 fun b10=>Ad R R<|Al (i:=0) R R R ld110 R R R<|Ac<|Af<|A3 0 mixed<|An tbk [0,1,2,3,4] [0] (by kernel_rfl) R R R<|Cj hm [18,17,16,15,14,13,12,11,10,9,8,7,6,5,4,3,2,1,0] 58 44 R (fun _ K' h7 J hm=>An tbk [5,6,7,8,9,10,11,12] [0,2] (by kernel_rfl) R R R<|Bd hm fun x2 h8 hm=>Bv 13 R R R R R R (by kernel_rfl) (A2 T_api_Node.vv R R el36 h8)<|An tbk [14,15,16] [] (by kernel_rfl) R R R<|Bv 17 R R R R R R (by kernel_rfl) (B6 Bm R R R)<|Au 18 R R R (by kernel_rfl) (A6 true R R R)<|J 13 R R (Bj hm)) (fun _ K' h7 J hm=>An tbk [5,6,7,8,9,10,11,12,13,14,15,16,17,18] [] (by kernel_rfl) R R R<|J 13 R R (Bj hm)) fun c2 hm=>Ay (by kernel_rfl)<|Av hm R (fun h10 hm=>Bb<|Ab tbk [0] 1 R R<|Ad R R<|Al (i:=1) R R R ld110 R R R<|Ac<|As () hm (Ah [1,2,3,4,5,6,7,8,9,10,11] (by kernel_rfl) (by kernel_rfl))) fun h10 hm=>Aj<|As () hm (Ah [1,2,3,4,5,6,7,8,9,10,11] (by kernel_rfl) (by kernel_rfl))) fun j _ hm=>Bf tbk [] R R<|Ct<|Ag tbk [] R R<|Af<|Bp R (by decide)<|Aj<|Ca hm (fun _ (_:Unit)=>[(0,.ptr b 0),(1,Iw i),(4,Iw x.At),(5,.str r.1),(6,L3 r.2),(7,.ptr b9 0),(34,.sl (some b3) 6 cap),(35,Iw (6 : Int)),(36,Iw (1 : Int))]) (fun j2 (_:Unit)=>[.box b9 110 [.str j2.1,.str j2.2.1,.bool false,AL6 j2.2.2 b4 b5 b6 b7 b8],.box b 165 [L100 r_.l,.sl (some b3) 6 cap,.map b2,Iw r_.e,Iw r_.at_],.map b2 (List.map (pf VV.str (VV.int .i64)) r_.had),.row (some b3) 110 cap (KR5 b4 b5 b6 b7 b8),.box b4 48 [.str c.Name,Iw c.Min,Iw c.Max,.str c.Like.Name,.str c.Like.Group,Iw c.Like.Has.Cpu,Iw c.Like.Has.Mem,Iw c.Like.Has.Disk,Iw c.Like.Has.Pods,Iw c.Like.Has.Dev,Z141 ob c.Like.Labels cap2,Z143 ob2 c.Like.Taints cap3,.bool c.Like.Ready,Iw c.Price,Iw c.Rank],Q141 ob cap2 c.Like.Labels,Q143 ob2 cap3 c.Like.Taints,.box b5 119 [.ptr b4 13],.box b6 119 [.ptr b4 14],.box b7 114 [.ptr b4 3],.box b8 169 [.ptr b4 10]]) (fun o2 hm=>A4<|Ae<|Aa R R (B7 R R el96 (by decide) (by decide))<|Aa R R (Bz (i:=3) R R R R ld110 R)<|Ad R R<|A9 z110 fun b11=>Ad R R<|Al (i:=0) R R R ld110 R R R<|Ac<|Af<|A3 0 mixed<|An tbk [0,1,2,3,4] [0] (by kernel_rfl) R R R<|Cj hm [18,17,16,15,14,13,12,11,10,9,8,7,6,5,4,3,2,1,0] 58 44 R (fun _ K' h14 J hm=>An tbk [5,6,7,8,9,10,11,12] [0,2] (by kernel_rfl) R R R<|Bd hm fun x3 h15 hm=>Bv 13 R R R R R R (by kernel_rfl) (A2 T_api_Node.vv R R el36 h15)<|An tbk [14,15,16] [] (by kernel_rfl) R R R<|Bv 17 R R R R R R (by kernel_rfl) (B6 Bm R R R)<|Au 18 R R R (by kernel_rfl) (A6 true R R R)<|J 13 R R (Bj hm)) (fun _ K' h14 J hm=>An tbk [5,6,7,8,9,10,11,12,13,14,15,16,17,18] [] (by kernel_rfl) R R R<|J 13 R R (Bj hm)) fun c3 hm=>Ay (by kernel_rfl)<|Av hm R (fun h17 hm=>Bb<|Ab tbk [0] 1 R R<|Ad R R<|Al (i:=1) R R R ld110 R R R<|Ac<|As () hm (Ah [1,2,3,4,5,6,7,8,9,10,11] (by kernel_rfl) (by kernel_rfl))) fun h17 hm=>Aj<|As () hm (Ah [1,2,3,4,5,6,7,8,9,10,11] (by kernel_rfl) (by kernel_rfl))) fun j2 _ hm=>Bf tbk [] R R<|?_
 refine Ct<|Ag tbk [] R R<|Af<|Bp R (by decide)<|Aj<|Ca hm (fun _ (_:Unit)=>[(0,.ptr b 0),(1,Iw i),(4,Iw x.At),(5,.str r.1),(6,L3 r.2),(7,.ptr b9 0),(34,.sl (some b3) 6 cap),(35,Iw (6 : Int)),(36,Iw (2 : Int))]) (fun j3 (_:Unit)=>[.box b9 110 [.str j3.1,.str j3.2.1,.bool false,AL6 j3.2.2 b4 b5 b6 b7 b8],.box b 165 [L100 r_.l,.sl (some b3) 6 cap,.map b2,Iw r_.e,Iw r_.at_],.map b2 (List.map (pf VV.str (VV.int .i64)) r_.had),.row (some b3) 110 cap (KR5 b4 b5 b6 b7 b8),.box b4 48 [.str c.Name,Iw c.Min,Iw c.Max,.str c.Like.Name,.str c.Like.Group,Iw c.Like.Has.Cpu,Iw c.Like.Has.Mem,Iw c.Like.Has.Disk,Iw c.Like.Has.Pods,Iw c.Like.Has.Dev,Z141 ob c.Like.Labels cap2,Z143 ob2 c.Like.Taints cap3,.bool c.Like.Ready,Iw c.Price,Iw c.Rank],Q141 ob cap2 c.Like.Labels,Q143 ob2 cap3 c.Like.Taints,.box b5 119 [.ptr b4 13],.box b6 119 [.ptr b4 14],.box b7 114 [.ptr b4 3],.box b8 169 [.ptr b4 10]]) (fun o3 hm=>A4<|Ae<|Aa R R (B7 R R el96 (by decide) (by decide))<|Aa R R (Bz (i:=3) R R R R ld110 R)<|Ad R R<|A9 z110 fun b12=>Ad R R<|Al (i:=0) R R R ld110 R R R<|Ac<|Af<|A3 0 mixed<|An tbk [0,1,2,3,4] [0] (by kernel_rfl) R R R<|Cj hm [18,17,16,15,14,13,12,11,10,9,8,7,6,5,4,3,2,1,0] 58 44 R (fun _ K' h21 J hm=>An tbk [5,6,7,8,9,10,11,12] [0,2] (by kernel_rfl) R R R<|Bd hm fun x4 h22 hm=>Bv 13 R R R R R R (by kernel_rfl) (A2 T_api_Node.vv R R el36 h22)<|An tbk [14,15,16] [] (by kernel_rfl) R R R<|Bv 17 R R R R R R (by kernel_rfl) (B6 Bm R R R)<|Au 18 R R R (by kernel_rfl) (A6 true R R R)<|J 13 R R (Bj hm)) (fun _ K' h21 J hm=>An tbk [5,6,7,8,9,10,11,12,13,14,15,16,17,18] [] (by kernel_rfl) R R R<|J 13 R R (Bj hm)) fun c4 hm=>Ay (by kernel_rfl)<|Av hm R (fun h24 hm=>Bb<|Ab tbk [0] 1 R R<|Ad R R<|Al (i:=1) R R R ld110 R R R<|Ac<|As () hm (Ah [1,2,3,4,5,6,7,8,9,10,11] (by kernel_rfl) (by kernel_rfl))) fun h24 hm=>Aj<|As () hm (Ah [1,2,3,4,5,6,7,8,9,10,11] (by kernel_rfl) (by kernel_rfl))) fun j3 _ hm=>Bf tbk [] R R<|Ct<|Ag tbk [] R R<|Af<|Bp R (by decide)<|Aj<|Ca hm (fun _ (_:Unit)=>[(0,.ptr b 0),(1,Iw i),(4,Iw x.At),(5,.str r.1),(6,L3 r.2),(7,.ptr b9 0),(34,.sl (some b3) 6 cap),(35,Iw (6 : Int)),(36,Iw (3 : Int))]) (fun j4 (_:Unit)=>[.box b9 110 [.str j4.1,.str j4.2.1,.bool false,AL6 j4.2.2 b4 b5 b6 b7 b8],.box b 165 [L100 r_.l,.sl (some b3) 6 cap,.map b2,Iw r_.e,Iw r_.at_],.map b2 (List.map (pf VV.str (VV.int .i64)) r_.had),.row (some b3) 110 cap (KR5 b4 b5 b6 b7 b8),.box b4 48 [.str c.Name,Iw c.Min,Iw c.Max,.str c.Like.Name,.str c.Like.Group,Iw c.Like.Has.Cpu,Iw c.Like.Has.Mem,Iw c.Like.Has.Disk,Iw c.Like.Has.Pods,Iw c.Like.Has.Dev,Z141 ob c.Like.Labels cap2,Z143 ob2 c.Like.Taints cap3,.bool c.Like.Ready,Iw c.Price,Iw c.Rank],Q141 ob cap2 c.Like.Labels,Q143 ob2 cap3 c.Like.Taints,.box b5 119 [.ptr b4 13],.box b6 119 [.ptr b4 14],.box b7 114 [.ptr b4 3],.box b8 169 [.ptr b4 10]]) (fun o4 hm=>A4<|Ae<|Aa R R (B7 R R el96 (by decide) (by decide))<|Aa R R (Bz (i:=3) R R R R ld110 R)<|Ad R R<|A9 z110 fun b13=>Ad R R<|Al (i:=0) R R R ld110 R R R<|Ac<|Af<|A3 0 mixed<|An tbk [0,1,2,3,4] [0] (by kernel_rfl) R R R<|Cj hm [18,17,16,15,14,13,12,11,10,9,8,7,6,5,4,3,2,1,0] 58 44 R (fun _ K' h28 J hm=>An tbk [5,6,7,8,9,10,11,12] [0,2] (by kernel_rfl) R R R<|Bd hm fun x5 h29 hm=>Bv 13 R R R R R R (by kernel_rfl) (A2 T_api_Node.vv R R el36 h29)<|An tbk [14,15,16] [] (by kernel_rfl) R R R<|Bv 17 R R R R R R (by kernel_rfl) (B6 Bm R R R)<|Au 18 R R R (by kernel_rfl) (A6 true R R R)<|J 13 R R (Bj hm)) (fun _ K' h28 J hm=>An tbk [5,6,7,8,9,10,11,12,13,14,15,16,17,18] [] (by kernel_rfl) R R R<|J 13 R R (Bj hm)) fun c5 hm=>Ay (by kernel_rfl)<|Av hm R (fun h31 hm=>Bb<|Ab tbk [0] 1 R R<|Ad R R<|Al (i:=1) R R R ld110 R R R<|Ac<|As () hm (Ah [1,2,3,4,5,6,7,8,9,10,11] (by kernel_rfl) (by kernel_rfl))) fun h31 hm=>Aj<|As () hm (Ah [1,2,3,4,5,6,7,8,9,10,11] (by kernel_rfl) (by kernel_rfl))) fun j4 _ hm=>Bf tbk [] R R<|?_
 refine Ct<|Ag tbk [] R R<|Af<|Bp R (by decide)<|Aj<|Ca hm (fun _ (_:Unit)=>[(0,.ptr b 0),(1,Iw i),(4,Iw x.At),(5,.str r.1),(6,L3 r.2),(7,.ptr b9 0),(34,.sl (some b3) 6 cap),(35,Iw (6 : Int)),(36,Iw (4 : Int))]) (fun j5 (_:Unit)=>[.box b9 110 [.str j5.1,.str j5.2.1,.bool j5.2.2.1,AL6 j5.2.2.2 b4 b5 b6 b7 b8],.box b 165 [L100 r_.l,.sl (some b3) 6 cap,.map b2,Iw r_.e,Iw r_.at_],.map b2 (List.map (pf VV.str (VV.int .i64)) r_.had),.row (some b3) 110 cap (KR5 b4 b5 b6 b7 b8),.box b4 48 [.str c.Name,Iw c.Min,Iw c.Max,.str c.Like.Name,.str c.Like.Group,Iw c.Like.Has.Cpu,Iw c.Like.Has.Mem,Iw c.Like.Has.Disk,Iw c.Like.Has.Pods,Iw c.Like.Has.Dev,Z141 ob c.Like.Labels cap2,Z143 ob2 c.Like.Taints cap3,.bool c.Like.Ready,Iw c.Price,Iw c.Rank],Q141 ob cap2 c.Like.Labels,Q143 ob2 cap3 c.Like.Taints,.box b5 119 [.ptr b4 13],.box b6 119 [.ptr b4 14],.box b7 114 [.ptr b4 3],.box b8 169 [.ptr b4 10]]) (fun o5 hm=>A4<|Ae<|Aa R R (B7 R R el96 (by decide) (by decide))<|Aa R R (Bz (i:=3) R R R R ld110 R)<|Ad R R<|A9 z110 fun b14=>Ad R R<|Al (i:=0) R R R ld110 R R R<|Ac<|Af<|A3 0 mixed<|An tbk [0,1,2,3,4] [0] (by kernel_rfl) R R R<|Cj hm [18,17,16,15,14,13,12,11,10,9,8,7,6,5,4,3,2,1,0] 58 44 R (fun _ K' h35 J hm=>An tbk [5,6,7,8,9,10,11,12] [0,2] (by kernel_rfl) R R R<|Bd hm fun x6 h36 hm=>Bv 13 R R R R R R (by kernel_rfl) (A2 T_api_Node.vv R R el36 h36)<|An tbk [14,15,16] [] (by kernel_rfl) R R R<|Bv 17 R R R R R R (by kernel_rfl) (B6 Bm R R R)<|Au 18 R R R (by kernel_rfl) (A6 true R R R)<|J 13 R R (Bj hm)) (fun _ K' h35 J hm=>An tbk [5,6,7,8,9,10,11,12,13,14,15,16,17,18] [] (by kernel_rfl) R R R<|J 13 R R (Bj hm)) fun c6 hm=>Ay (by kernel_rfl)<|Av hm R (fun h38 hm=>Bb<|Ab tbk [0] 1 R R<|Ad R R<|Al (i:=1) R R R ld110 R R R<|Ac<|As () hm (Ah [1,2,3,4,5,6,7,8,9,10,11] (by kernel_rfl) (by kernel_rfl))) fun h38 hm=>Aj<|As () hm (Ah [1,2,3,4,5,6,7,8,9,10,11] (by kernel_rfl) (by kernel_rfl))) fun j5 _ hm=>Bf tbk [] R R<|Ct<|Ag tbk [] R R<|Af<|Bp R (by decide)<|Aj<|Ca hm (fun _ (_:Unit)=>[(0,.ptr b 0),(1,Iw i),(4,Iw x.At),(5,.str r.1),(6,L3 r.2),(7,.ptr b9 0),(34,.sl (some b3) 6 cap),(35,Iw (6 : Int)),(36,Iw (5 : Int))]) (fun j6 (_:Unit)=>[.box b9 110 [.str j6.1,.str j6.2.1,.bool j6.2.2.1,AL6 j6.2.2.2 b4 b5 b6 b7 b8],.box b 165 [L100 r_.l,.sl (some b3) 6 cap,.map b2,Iw r_.e,Iw r_.at_],.map b2 (List.map (pf VV.str (VV.int .i64)) r_.had),.row (some b3) 110 cap (KR5 b4 b5 b6 b7 b8),.box b4 48 [.str c.Name,Iw c.Min,Iw c.Max,.str c.Like.Name,.str c.Like.Group,Iw c.Like.Has.Cpu,Iw c.Like.Has.Mem,Iw c.Like.Has.Disk,Iw c.Like.Has.Pods,Iw c.Like.Has.Dev,Z141 ob c.Like.Labels cap2,Z143 ob2 c.Like.Taints cap3,.bool c.Like.Ready,Iw c.Price,Iw c.Rank],Q141 ob cap2 c.Like.Labels,Q143 ob2 cap3 c.Like.Taints,.box b5 119 [.ptr b4 13],.box b6 119 [.ptr b4 14],.box b7 114 [.ptr b4 3],.box b8 169 [.ptr b4 10]]) (fun o6 hm=>A4<|Ae<|Aa R R (B7 R R el96 (by decide) (by decide))<|Aa R R (Bz (i:=3) R R R R ld110 R)<|Ad R R<|A9 z110 fun b15=>Ad R R<|Al (i:=0) R R R ld110 R R R<|Ac<|Af<|A3 0 mixed<|An tbk [0,1,2,3,4] [0] (by kernel_rfl) R R R<|Cj hm [18,17,16,15,14,13,12,11,10,9,8,7,6,5,4,3,2,1,0] 58 44 R (fun _ K' h42 J hm=>An tbk [5,6,7,8,9,10,11,12] [0,2] (by kernel_rfl) R R R<|Bd hm fun x7 h43 hm=>Bv 13 R R R R R R (by kernel_rfl) (A2 T_api_Node.vv R R el36 h43)<|An tbk [14,15,16] [] (by kernel_rfl) R R R<|Bv 17 R R R R R R (by kernel_rfl) (B6 Bm R R R)<|Au 18 R R R (by kernel_rfl) (A6 true R R R)<|J 13 R R (Bj hm)) (fun _ K' h42 J hm=>An tbk [5,6,7,8,9,10,11,12,13,14,15,16,17,18] [] (by kernel_rfl) R R R<|J 13 R R (Bj hm)) fun c7 hm=>Ay (by kernel_rfl)<|Av hm R (fun h45 hm=>Bb<|Ab tbk [0] 1 R R<|Ad R R<|Al (i:=1) R R R ld110 R R R<|Ac<|As () hm (Ah [1,2,3,4,5,6,7,8,9,10,11] (by kernel_rfl) (by kernel_rfl))) fun h45 hm=>Aj<|As () hm (Ah [1,2,3,4,5,6,7,8,9,10,11] (by kernel_rfl) (by kernel_rfl))) fun j6 _ hm=>Bf tbk [] R R<|?_
 refine Ct<|Ag tbk [] R R<|Af<|Cc R (by decide)<|Be<|Af<|Ae<|Ab tbk [1] 5 R R<|Aa R R (C8 2 (kf:=VV.str) (vf:=(VV.int .i64)) (l:=r_.had) (k:=r.1) (z:=(0 : Int)) false mk9 Cf R R R zc3 R)<|Aa R R (Bh R R R)<|Ad R R<|Dl 2 (kf:=VV.str) (vf:=(VV.int .i64)) (l:=r_.had) (k:=r.1) (z:=(IntKind.i64.wrap (((V.mg r_.had r.1).getD (0 : Int)) + (1 : Int)))) mk9 Cf R R R R<|Ac<|Ae<|Ab tbk [0] 4 R R<|C5 13 84 71 R (fun K' J=>Ab tbk [] 13 R R<|J 12 R R R) (fun h46 K' J=>Ab tbk [1] 5 R R<|Bt R R R R R (C8 2 (kf:=VV.str) (vf:=(VV.int .i64)) (l:=(V.mp r_.had r.1 (IntKind.i64.wrap (((V.mg r_.had r.1).getD (0 : Int)) + (1 : Int))))) (k:=r.1) (z:=(0 : Int)) false mk9 Cf R R R zc3 R)<|Ab tbk [] 2 R R<|Bx tbk [0] 4 83 79 R R R R R<|Aa R R (A6 false R R R)<|J 9 R R R)<|Ac<|Av hm R (fun h48 hm=>?_) fun h48 hm=> ?_
 ·refine Ae<|Ab tbk [] 2 R R<|A0 (A7 [1,2,3,4,5,6,7,8,9,10,0] R)<|Ad R R<|De hm 10 R fn164 R (K132 _ _ _ _ _ _ _ _ _ _ _ _ _ _ _ _ _) fun r2 b16 hm=>Ac<|?_
  obtain rfl:=Option.some.inj hm
  exact Cm ⟨.inl R,_,.nil,[0,1,2,3,4,5,6,7,8,9],_,R,b16,ob,cap2,ob2,cap3,R,R⟩
 refine Aj<|Ag tbk [0] R R<|Ca hm (fun says2 (_:Unit)=>[(0,.ptr b 0),(4,Iw x.At),(6,L3 r.2),(7,.ptr b9 0),(10,.str says2)]) (fun _ (_:Unit)=>[.box b9 110 [.str j6.1,.str j6.2.1,.bool j6.2.2.1,AL6 j6.2.2.2 b4 b5 b6 b7 b8],.box b 165 [L100 ((⟨r_.l,(),(V.mp r_.had r.1 (IntKind.i64.wrap (((V.mg r_.had r.1).getD (0 : Int)) + (1 : Int)))),r_.e,r_.at_⟩ : T_spec_reader).l),.sl (some b3) 6 cap,.map b2,Iw ((⟨r_.l,(),(V.mp r_.had r.1 (IntKind.i64.wrap (((V.mg r_.had r.1).getD (0 : Int)) + (1 : Int)))),r_.e,r_.at_⟩ : T_spec_reader).e),Iw ((⟨r_.l,(),(V.mp r_.had r.1 (IntKind.i64.wrap (((V.mg r_.had r.1).getD (0 : Int)) + (1 : Int)))),r_.e,r_.at_⟩ : T_spec_reader).at_)],.map b2 (List.map (pf VV.str (VV.int .i64)) ((⟨r_.l,(),(V.mp r_.had r.1 (IntKind.i64.wrap (((V.mg r_.had r.1).getD (0 : Int)) + (1 : Int)))),r_.e,r_.at_⟩ : T_spec_reader).had)),.row (some b3) 110 cap (KR5 b4 b5 b6 b7 b8),.box b4 48 [.str c.Name,Iw c.Min,Iw c.Max,.str c.Like.Name,.str c.Like.Group,Iw c.Like.Has.Cpu,Iw c.Like.Has.Mem,Iw c.Like.Has.Disk,Iw c.Like.Has.Pods,Iw c.Like.Has.Dev,Z141 ob c.Like.Labels cap2,Z143 ob2 c.Like.Taints cap3,.bool c.Like.Ready,Iw c.Price,Iw c.Rank],Q141 ob cap2 c.Like.Labels,Q143 ob2 cap3 c.Like.Taints,.box b5 119 [.ptr b4 13],.box b6 119 [.ptr b4 14],.box b7 114 [.ptr b4 3],.box b8 169 [.ptr b4 10]]) (fun o7 hm=>?_) fun says2 _ hm=> ?_
 ·refine Ae<|Aa R R (Ak R)<|Aa R R (B1 R Aq)<|Aa R R (Am R)<|Ac<|Ae<|Ab tbk [] 3 R R<|Br hm 6 100 94 R (fun _ K' h52 J hm=>Ab tbk [] 3 R R<|Bd hm fun v h53 hm=>Bt R R R R R (Ci R R Aq h53)<|Ab tbk [] 2 R R<|J 5 R R (Bj hm)) (fun _ K' h52 J hm=>Ab tbk [] 6 R R<|J 5 R R (Bj hm)) fun c8 hm=>Ac<|Av hm R (fun h55 hm=>?_) fun h55 hm=> ?_
  ·refine Ae<|Ab tbk [] 3 R R<|Bd hm fun v2 h56 hm=>Aa R R (C1 R R R Aq h56)<|Aa R R (Am R)<|Ac<|Cx hm (fun says52 (_:Unit)=>[(0,.ptr b 0),(4,Iw x.At),(6,L3 r.2),(7,.ptr b9 0),(10,.str says52)]) (fun _ (_:Unit)=>[.box b9 110 [.str j6.1,.str j6.2.1,.bool j6.2.2.1,AL6 j6.2.2.2 b4 b5 b6 b7 b8],.box b 165 [L100 ((⟨r_.l,(),(V.mp r_.had r.1 (IntKind.i64.wrap (((V.mg r_.had r.1).getD (0 : Int)) + (1 : Int)))),r_.e,r_.at_⟩ : T_spec_reader).l),.sl (some b3) 6 cap,.map b2,Iw ((⟨r_.l,(),(V.mp r_.had r.1 (IntKind.i64.wrap (((V.mg r_.had r.1).getD (0 : Int)) + (1 : Int)))),r_.e,r_.at_⟩ : T_spec_reader).e),Iw ((⟨r_.l,(),(V.mp r_.had r.1 (IntKind.i64.wrap (((V.mg r_.had r.1).getD (0 : Int)) + (1 : Int)))),r_.e,r_.at_⟩ : T_spec_reader).at_)],.map b2 (List.map (pf VV.str (VV.int .i64)) ((⟨r_.l,(),(V.mp r_.had r.1 (IntKind.i64.wrap (((V.mg r_.had r.1).getD (0 : Int)) + (1 : Int)))),r_.e,r_.at_⟩ : T_spec_reader).had)),.row (some b3) 110 cap (KR5 b4 b5 b6 b7 b8),.box b4 48 [.str c.Name,Iw c.Min,Iw c.Max,.str c.Like.Name,.str c.Like.Group,Iw c.Like.Has.Cpu,Iw c.Like.Has.Mem,Iw c.Like.Has.Disk,Iw c.Like.Has.Pods,Iw c.Like.Has.Dev,Z141 ob c.Like.Labels cap2,Z143 ob2 c.Like.Taints cap3,.bool c.Like.Ready,Iw c.Price,Iw c.Rank],Q141 ob cap2 c.Like.Labels,Q143 ob2 cap3 c.Like.Taints,.box b5 119 [.ptr b4 13],.box b6 119 [.ptr b4 14],.box b7 114 [.ptr b4 3],.box b8 169 [.ptr b4 10]]) (fun o8 hm=>?_) fun says52 _ hm=> ?_
   ·refine Ck (fun zn (zs:ByteArray)=>spec_reader_field_x_x.l1 r zn zs) (fun zs (_:Unit)=>[(0,.ptr b 0),(4,Iw x.At),(6,L3 r.2),(7,.ptr b9 0),(10,.str zs)]) (fun _ (_:Unit)=>[.box b9 110 [.str j6.1,.str j6.2.1,.bool j6.2.2.1,AL6 j6.2.2.2 b4 b5 b6 b7 b8],.box b 165 [L100 ((⟨r_.l,(),(V.mp r_.had r.1 (IntKind.i64.wrap (((V.mg r_.had r.1).getD (0 : Int)) + (1 : Int)))),r_.e,r_.at_⟩ : T_spec_reader).l),.sl (some b3) 6 cap,.map b2,Iw ((⟨r_.l,(),(V.mp r_.had r.1 (IntKind.i64.wrap (((V.mg r_.had r.1).getD (0 : Int)) + (1 : Int)))),r_.e,r_.at_⟩ : T_spec_reader).e),Iw ((⟨r_.l,(),(V.mp r_.had r.1 (IntKind.i64.wrap (((V.mg r_.had r.1).getD (0 : Int)) + (1 : Int)))),r_.e,r_.at_⟩ : T_spec_reader).at_)],.map b2 (List.map (pf VV.str (VV.int .i64)) ((⟨r_.l,(),(V.mp r_.had r.1 (IntKind.i64.wrap (((V.mg r_.had r.1).getD (0 : Int)) + (1 : Int)))),r_.e,r_.at_⟩ : T_spec_reader).had)),.row (some b3) 110 cap (KR5 b4 b5 b6 b7 b8),.box b4 48 [.str c.Name,Iw c.Min,Iw c.Max,.str c.Like.Name,.str c.Like.Group,Iw c.Like.Has.Cpu,Iw c.Like.Has.Mem,Iw c.Like.Has.Disk,Iw c.Like.Has.Pods,Iw c.Like.Has.Dev,Z141 ob c.Like.Labels cap2,Z143 ob2 c.Like.Taints cap3,.bool c.Like.Ready,Iw c.Price,Iw c.Rank],Q141 ob cap2 c.Like.Labels,Q143 ob2 cap3 c.Like.Taints,.box b5 119 [.ptr b4 13],.box b6 119 [.ptr b4 14],.box b7 114 [.ptr b4 3],.box b8 169 [.ptr b4 10]]) v2 () (fun _=>R) hm (Ah [0,1,2,3,4,5,6,7,8,9,10] (by kernel_rfl) (by kernel_rfl)) fun n says4 _ hm=> ?_
    rw [spec_reader_field_x_x.l1] at hm
    exact Af<|Ae<|Aa R R (Ak R)<|Aa R R (B1 R Aq)<|Aa R R (Ak R)<|Aa R R (Bg (VV.int .i64) R Bi)<|Aa R R (Bh R R R)<|Ac<|Av hm R (fun h59 hm=>Aj<|A4<|Bb<|Aa R R (Ak R)<|Bd hm fun v3 h60 hm=>Aa R R (Bl R R h60)<|Aa R R (Am R)<|Ac<|Ap v3 () hm (Ah [0,1,2,3,4,5,6,7,8,9,10] (by kernel_rfl) (by kernel_rfl))) fun h59 hm=>Be<|As () hm (Ah [0,1,2,3,4,5,6,7,8,9,10] (by kernel_rfl) (by kernel_rfl))
   exact As () hm (Ah [0,1,2,3,4,5,6,7,8,9,10] (by kernel_rfl) (by kernel_rfl))
  exact Aj<|As () hm (Ah [0,1,2,3,4,5,6,7,8,9,10] (by kernel_rfl) (by kernel_rfl))
 refine Af<|Ae<|Aa R R (Ak R)<|Aa R R (Bg (VV.int .i64) R Bi)<|Aa R R (Ak R)<|Aa R R (B1 R Aq)<|Aa R R (Bh R R R)<|Ac<|Av hm R (fun h61 hm=>?_) fun h61 hm=> ?_
 ·refine Ae<|Ab tbk [] 2 R R<|A0 (A7 [1,2,3,4,5,6,7,8,9,10,0] R)<|Ad R R<|De hm 10 R fn164 R (K132 _ _ _ _ _ _ _ _ _ _ _ _ _ _ _ _ _) fun r3 b17 hm=>Ac<|?_
  obtain rfl:=Option.some.inj hm
  exact Cm ⟨.inl R,_,.nil,[0,1,2,3,4,5,6,7,8,9],_,R,b17,ob,cap2,ob2,cap3,R,R⟩
 refine Aj<|Ag tbk [] R R<|Af<|Ae<|Aa R R (Ak R)<|Aa R R (Bg (VV.int .i64) R Bi)<|Aa R R (Ak R)<|Ac<|Cp 120 R fun h67=>Ce hm (fun x102 (gg:Option Nat × Nat)=>[(7,.ptr b9 0),(12,Z20 gg.1 x102 gg.2)]) (fun x102 (gg:Option Nat × Nat)=>[Q20 gg.1 gg.2 x102,.box b9 110 [.str j6.1,.str j6.2.1,.bool j6.2.2.1,AL6 j6.2.2.2 b4 b5 b6 b7 b8],.box b 165 [L100 ((⟨r_.l,(),(V.mp r_.had r.1 (IntKind.i64.wrap (((V.mg r_.had r.1).getD (0 : Int)) + (1 : Int)))),r_.e,r_.at_⟩ : T_spec_reader).l),.sl (some b3) 6 cap,.map b2,Iw ((⟨r_.l,(),(V.mp r_.had r.1 (IntKind.i64.wrap (((V.mg r_.had r.1).getD (0 : Int)) + (1 : Int)))),r_.e,r_.at_⟩ : T_spec_reader).e),Iw ((⟨r_.l,(),(V.mp r_.had r.1 (IntKind.i64.wrap (((V.mg r_.had r.1).getD (0 : Int)) + (1 : Int)))),r_.e,r_.at_⟩ : T_spec_reader).at_)],.map b2 (List.map (pf VV.str (VV.int .i64)) ((⟨r_.l,(),(V.mp r_.had r.1 (IntKind.i64.wrap (((V.mg r_.had r.1).getD (0 : Int)) + (1 : Int)))),r_.e,r_.at_⟩ : T_spec_reader).had)),.row (some b3) 110 cap (KR5 b4 b5 b6 b7 b8),.box b4 48 [.str c.Name,Iw c.Min,Iw c.Max,.str c.Like.Name,.str c.Like.Group,Iw c.Like.Has.Cpu,Iw c.Like.Has.Mem,Iw c.Like.Has.Disk,Iw c.Like.Has.Pods,Iw c.Like.Has.Dev,Z141 ob c.Like.Labels cap2,Z143 ob2 c.Like.Taints cap3,.bool c.Like.Ready,Iw c.Price,Iw c.Rank],Q141 ob cap2 c.Like.Labels,Q143 ob2 cap3 c.Like.Taints,.box b5 119 [.ptr b4 13],.box b6 119 [.ptr b4 14],.box b7 114 [.ptr b4 3],.box b8 169 [.ptr b4 10]]) (fun o9 hm h66=>?_) fun x102=>Pq fun ob5 cap6 hm=> ?_
 ·refine Cu (r.2) (fun zl zk (zs:List I_any20)=>spec_reader_field_x_x.l2 r_ c r says2 zl zk zs) (fun k zs (zg:Option Nat × Nat)=>[(0,.ptr b 0),(7,.ptr b9 0),(10,.str says2),(12,Z20 zg.1 zs zg.2),(120,L3 r.2),(121,Iw (r.2.length : Int)),(122,Iw (k : Int))]) (fun _ zs (zg:Option Nat × Nat)=>[Q20 zg.1 zg.2 zs,.box b9 110 [.str j6.1,.str j6.2.1,.bool j6.2.2.1,AL6 j6.2.2.2 b4 b5 b6 b7 b8],.box b 165 [L100 ((⟨r_.l,(),(V.mp r_.had r.1 (IntKind.i64.wrap (((V.mg r_.had r.1).getD (0 : Int)) + (1 : Int)))),r_.e,r_.at_⟩ : T_spec_reader).l),.sl (some b3) 6 cap,.map b2,Iw ((⟨r_.l,(),(V.mp r_.had r.1 (IntKind.i64.wrap (((V.mg r_.had r.1).getD (0 : Int)) + (1 : Int)))),r_.e,r_.at_⟩ : T_spec_reader).e),Iw ((⟨r_.l,(),(V.mp r_.had r.1 (IntKind.i64.wrap (((V.mg r_.had r.1).getD (0 : Int)) + (1 : Int)))),r_.e,r_.at_⟩ : T_spec_reader).at_)],.map b2 (List.map (pf VV.str (VV.int .i64)) ((⟨r_.l,(),(V.mp r_.had r.1 (IntKind.i64.wrap (((V.mg r_.had r.1).getD (0 : Int)) + (1 : Int)))),r_.e,r_.at_⟩ : T_spec_reader).had)),.row (some b3) 110 cap (KR5 b4 b5 b6 b7 b8),.box b4 48 [.str c.Name,Iw c.Min,Iw c.Max,.str c.Like.Name,.str c.Like.Group,Iw c.Like.Has.Cpu,Iw c.Like.Has.Mem,Iw c.Like.Has.Disk,Iw c.Like.Has.Pods,Iw c.Like.Has.Dev,Z141 ob c.Like.Labels cap2,Z143 ob2 c.Like.Taints cap3,.bool c.Like.Ready,Iw c.Price,Iw c.Rank],Q141 ob cap2 c.Like.Labels,Q143 ob2 cap3 c.Like.Taints,.box b5 119 [.ptr b4 13],.box b6 119 [.ptr b4 14],.box b7 114 [.ptr b4 3],.box b8 169 [.ptr b4 10]]) ([] : List I_any20) (none,0) hm (B5 (Bc 20) (Ah [0,1,2,3,4,5,6,7,8,9,10,11] (by kernel_rfl) (by kernel_rfl))) (fun k x9=>Pq fun ob4 cap5 hk hm=>?_) fun k x11 l2 x9=>Pq fun ob4 cap5 h68 hm=> ?_
  ·rw [spec_reader_field_x_x.l2] at hm
   exact Ag tbk [] R R<|Af<|Cc R (k_end hk)<|Be<|Ar (ob4,cap5) hm (Ah [0,1,2,3,4,5,6,7,8,9,10,11] (by kernel_rfl) (by kernel_rfl))
  rw [spec_reader_field_x_x.l2] at hm
  refine Ag tbk [] R R<|Af<|Bp R (k_lt h68)<|Aj<|Af<|A4<|Ae<|Aa R R (Ak R)<|Aa R R (Cr (VV.int .i64) R R el27 h68)<|Ab tbk [] 3 R R<|Ac<|Af<|A3 0 mixed<|An tbk [0,1,2,3,4] [2] (by kernel_rfl) R R R<|Bd hm fun x12 h69 hm=>Au 5 R R R (by kernel_rfl) (A2 T_api_Node.vv R R el36 h69)<|An tbk [6,7,8] [] (by kernel_rfl) R R R<|Bd hm fun v4 h70 hm=>Au 9 R R R (by kernel_rfl) (Ci R R Aq h70)<|Ai 10 (by kernel_rfl)<|Bd hm fun r4 h71 hm=>Ao R R R<|Aw 0 R fn165 R (K77 x12 v4 r4 h71) fun _ _ h77=> ?_
  obtain ⟨rfl,rfl⟩:=h77
  refine An tbk [11,12,13,14,15] [] (by kernel_rfl) R R R<|Ay (by kernel_rfl)<|Af<|Ag tbk [] R R<|Av hm R (fun h72 hm=>?_) fun h72 hm=> ?_
  ·refine Ae<|Ab tbk [2] 7 R R<|Bd hm fun x13 h73 hm=>Aa R R (A2 T_api_Node.vv R R el36 h73)<|Ab tbk [] 2 R R<|A0 (A7 [2,3,4,5,6,7,8,9,10,11,0,1] R)<|Ad R R<|De hm 10 R fn164 R (K132 _ _ _ _ _ _ _ _ _ _ _ _ _ _ _ _ _) fun r5 b18 hm=>Ac<|have hm:=Lr hm h66; ?_
   obtain rfl:=Option.some.inj hm
   exact Cm ⟨.inl R,_,.nil,[0,1,2,3,4,5,6,7,8,9],_,R,b18,ob,cap2,ob2,cap3,R,R⟩
  exact Aj<|Bb<|Ab tbk [] 2 R R<|Ad R R<|Ax ap81 R R R R R fun b19=>Bd hm fun x14 h76 hm=>Ad R R<|Bs 1 I_any20.vv (l:=x9) (l2:=[r4.1]) ap81 R R (sT_row 0 I_any20.vv el81 R R) h76 fun ob6 cap7=>Aa R R (Am R)<|Ac<|Bf tbk [] R R<|Ap x14 (ob6,cap7) hm (B3 [1,2,3,4,5,6,7,8,9,10,11,12] (by kernel_rfl) ⟨R,R,R,R,R,R,congrArg some (k_next h68 h67),trivial⟩)
 refine Bb<|Ab tbk [1] 3 R R<|?_
 rcases V.it_or hm with ⟨h79,hm⟩ | ⟨_,hm⟩
 ·refine A0 (Cg 160 (.clo (.func 89) [] [.ptr b4 0]) R (congrArg (fun zk => V.alt zk [.nilfn,.clo (.func 89) [] [.ptr b4 0],.clo (.func 141) [] [.ptr b5 0],.clo (.func 141) [] [.ptr b6 0],.clo (.func 139) [] [.ptr b7 0],.clo (.func 166) [] [.ptr b8 0],.clo (.func 140) [] [.ptr b7 0]]) h79))<|A0 (Az 0 [(12,L20 x102),(161,L20 x102)] R ⟨⟨_,R,.here _ R⟩,⟨_,R,.here _ R⟩,trivial⟩ (FzH.refl _))<|Bd hm fun r6 h80 hm=>A0 (A7 [4,5,6,0,1,2,3,7,8,9,10] R)<|Ad R R<|Aw 3 R fn89 R (K133 x102 c b4 ob cap2 ob2 cap3 r6 h80) fun _ _ h81=> ?_
  obtain ⟨ob7,cap8,ob8,cap9,rfl,rfl⟩:=h81
  refine Ac<|?_
  obtain rfl:=Option.some.inj hm
  exact ⟨.inr R,_,.nil,[4,5,6,0,1,2,7,8,9,10],_,R,b2,ob7,cap8,ob8,cap9,R,R⟩
 ·rcases V.it_or hm with ⟨h82,hm⟩ | ⟨_,hm⟩
  ·refine A0 (Cg 160 (.clo (.func 141) [] [.ptr b5 0]) R (congrArg (fun zk => V.alt zk [.nilfn,.clo (.func 89) [] [.ptr b4 0],.clo (.func 141) [] [.ptr b5 0],.clo (.func 141) [] [.ptr b6 0],.clo (.func 139) [] [.ptr b7 0],.clo (.func 166) [] [.ptr b8 0],.clo (.func 140) [] [.ptr b7 0]]) h82))<|A0 (Az 0 [(12,L20 x102),(161,L20 x102)] R ⟨⟨_,R,.here _ R⟩,⟨_,R,.here _ R⟩,trivial⟩ (FzH.refl _))<|Bd hm fun r7 h83 hm=>A0 (A7 [7,4,5,6,0,1,2,3,8,9,10] R)<|Ad R R<|Aw 4 R fn141 R (K134 x102 c b5 b4 ob cap2 ob2 cap3 r7 h83) fun _ _ h84=> ?_
   obtain ⟨ob9,cap10,ob10,cap11,rfl,rfl⟩:=h84
   refine Ac<|?_
   obtain rfl:=Option.some.inj hm
   exact ⟨.inr R,_,.nil,[5,6,7,1,2,3,0,8,9,10],_,R,b2,ob9,cap10,ob10,cap11,R,R⟩
  ·rcases V.it_or hm with ⟨h85,hm⟩ | ⟨_,hm⟩
   ·refine A0 (Cg 160 (.clo (.func 141) [] [.ptr b6 0]) R (congrArg (fun zk => V.alt zk [.nilfn,.clo (.func 89) [] [.ptr b4 0],.clo (.func 141) [] [.ptr b5 0],.clo (.func 141) [] [.ptr b6 0],.clo (.func 139) [] [.ptr b7 0],.clo (.func 166) [] [.ptr b8 0],.clo (.func 140) [] [.ptr b7 0]]) h85))<|A0 (Az 0 [(12,L20 x102),(161,L20 x102)] R ⟨⟨_,R,.here _ R⟩,⟨_,R,.here _ R⟩,trivial⟩ (FzH.refl _))<|Bd hm fun r8 h86 hm=>A0 (A7 [8,4,5,6,0,1,2,3,7,9,10] R)<|Ad R R<|Aw 4 R fn141 R (K135 x102 c b6 b4 ob cap2 ob2 cap3 r8 h86) fun _ _ h87=> ?_
    obtain ⟨ob11,cap12,ob12,cap13,rfl,rfl⟩:=h87
    refine Ac<|?_
    obtain rfl:=Option.some.inj hm
    exact ⟨.inr R,_,.nil,[5,6,7,1,2,3,8,0,9,10],_,R,b2,ob11,cap12,ob12,cap13,R,R⟩
   ·rcases V.it_or hm with ⟨h88,hm⟩ | ⟨_,hm⟩
    ·refine A0 (Cg 160 (.clo (.func 139) [] [.ptr b7 0]) R (congrArg (fun zk => V.alt zk [.nilfn,.clo (.func 89) [] [.ptr b4 0],.clo (.func 141) [] [.ptr b5 0],.clo (.func 141) [] [.ptr b6 0],.clo (.func 139) [] [.ptr b7 0],.clo (.func 166) [] [.ptr b8 0],.clo (.func 140) [] [.ptr b7 0]]) h88))<|A0 (Az 0 [(12,L20 x102),(161,L20 x102)] R ⟨⟨_,R,.here _ R⟩,⟨_,R,.here _ R⟩,trivial⟩ (FzH.refl _))<|Bd hm fun r9 h89 hm=>A0 (A7 [9,4,5,6,0,1,2,3,7,8,10] R)<|Ad R R<|Aw 4 R fn139 R (K136 x102 c b7 b4 ob cap2 ob2 cap3 r9 h89) fun _ _ h90=> ?_
     obtain ⟨ob13,cap14,ob14,cap15,rfl,rfl⟩:=h90
     refine Ac<|?_
     obtain rfl:=Option.some.inj hm
     exact ⟨.inr R,_,.nil,[5,6,7,1,2,3,8,9,0,10],_,R,b2,ob13,cap14,ob14,cap15,R,R⟩
    ·rcases V.it_or hm with ⟨h91,hm⟩ | ⟨_,hm⟩
     ·refine A0 (Cg 160 (.clo (.func 166) [] [.ptr b8 0]) R (congrArg (fun zk => V.alt zk [.nilfn,.clo (.func 89) [] [.ptr b4 0],.clo (.func 141) [] [.ptr b5 0],.clo (.func 141) [] [.ptr b6 0],.clo (.func 139) [] [.ptr b7 0],.clo (.func 166) [] [.ptr b8 0],.clo (.func 140) [] [.ptr b7 0]]) h91))<|A0 (Az 0 [(12,L20 x102),(161,L20 x102)] R ⟨⟨_,R,.here _ R⟩,⟨_,R,.here _ R⟩,trivial⟩ (FzH.refl _))<|Bd hm fun r10 h92 hm=>A0 (A7 [10,4,5,6,0,1,2,3,7,8,9] R)<|Ad R R<|Aw 4 R fn166 R (K137 x102 c b8 b4 ob cap2 ob2 cap3 r10 h92) fun _ _ h93=> ?_
      obtain ⟨ob15,cap16,ob16,cap17,rfl,rfl⟩:=h93
      refine Ac<|?_
      obtain rfl:=Option.some.inj hm
      exact ⟨.inr R,_,.nil,[5,6,7,1,2,3,8,9,10,0],_,R,b2,ob15,cap16,ob16,cap17,R,R⟩
     ·rcases V.it_or hm with ⟨h94,hm⟩ | ⟨_,hm⟩
      ·refine A0 (Cg 160 (.clo (.func 140) [] [.ptr b7 0]) R (congrArg (fun zk => V.alt zk [.nilfn,.clo (.func 89) [] [.ptr b4 0],.clo (.func 141) [] [.ptr b5 0],.clo (.func 141) [] [.ptr b6 0],.clo (.func 139) [] [.ptr b7 0],.clo (.func 166) [] [.ptr b8 0],.clo (.func 140) [] [.ptr b7 0]]) h94))<|A0 (Az 0 [(12,L20 x102),(161,L20 x102)] R ⟨⟨_,R,.here _ R⟩,⟨_,R,.here _ R⟩,trivial⟩ (FzH.refl _))<|Bd hm fun r11 h95 hm=>A0 (A7 [9,4,5,6,0,1,2,3,7,8,10] R)<|Ad R R<|Aw 4 R fn140 R (K138 x102 c b7 b4 ob cap2 ob2 cap3 r11 h95) fun _ _ h96=> ?_
       obtain ⟨ob17,cap18,ob18,cap19,rfl,rfl⟩:=h96
       refine Ac<|?_
       obtain rfl:=Option.some.inj hm
       exact ⟨.inr R,_,.nil,[5,6,7,1,2,3,8,9,0,10],_,R,b2,ob17,cap18,ob18,cap19,R,R⟩
      ·exact absurd hm nofun

/-! trireme/spec.form -/
def spec_form_x_x.l1 : List Int → Nat → T_spec_reader → T_api_Group → Option (Out (ByteArray × Int × Int × T_api_Group) T_api_Group)
 | [], k, r5, r6 => some (Out.go r6)
 | x9 :: l2, k, r5, r6 =>
  (spec_reader_field_x_x r5 r6 x9).bind fun r7 =>
  if (r7.1.e != 0) = true then
   some (Out.ret ((⟨#[]⟩ : ByteArray), r7.1.e, r7.1.at_, r7.2))
  else
   spec_form_x_x.l1 l2 (k + 1) r7.1 r7.2
def spec_form_x_x (l : List T_api_Node) (i : Int) (kind : ByteArray) (empty : Bool) (c : T_api_Group) : Option (ByteArray × Int × Int × T_api_Group) :=
 (tree_End l i).bind fun r =>
 if (decide (r < 0)) = true then
  some ((⟨#[]⟩ : ByteArray), 12, 0, c)
 else
  (tree_Kids l i).bind fun r2 =>
  (V.gl l i).bind fun x =>
  if ((x.Kind != 5) || (decide ((r2.length : Int) < 2))) = true then
   (V.gl l i).bind fun x2 =>
   some ((⟨#[]⟩ : ByteArray), 12, x2.At, c)
  else
   ((V.gl r2 (0 : Int)).bind fun x3 =>
   (V.gl l x3).bind fun x4 =>
   (V.gl r2 (1 : Int)).bind fun x5 =>
   (V.gl l x5).bind fun x6 =>
   some (x4, x6)).bind fun j =>
   if (((j.1.Kind != 3) || (!(V.seq j.1.Text kind))) || (!((j.2.Kind == 3) || ((empty && (j.2.Kind == 4)) && (V.seq j.2.Text (⟨#[]⟩ : ByteArray)))))) = true then
    (V.gl l i).bind fun x7 =>
    some ((⟨#[]⟩ : ByteArray), 12, x7.At, c)
   else
    (V.sl r2 (some 2) none).bind fun v =>
    (spec_form_x_x.l1 v 0 (⟨l, (), ([] : List (ByteArray × Int)), 0, 0⟩ : T_spec_reader) c).bind fun o2 =>
    o2.on fun x82 =>
    some (j.2.Text, 0, 0, x82)
theorem K140 (l : List T_api_Node) (i : Int) (kind : ByteArray) (empty : Bool) (c : T_api_Group) (b : Nat) (cap : Nat) (b2 : Nat) (ob : Option Nat) (cap2 : Nat) (ob2 : Option Nat) (cap3 : Nat) (b3 : Nat) (b4 : Nat) (b5 : Nat) (b6 : Nat) : ∀ r : ByteArray × Int × Int × T_api_Group, spec_form_x_x l i kind empty c = some r → VC Tryz.prog 76 [L100 l, Iw i, .str kind, .bool empty, .sl (some b) 6 cap] [.row (some b) 110 cap (KR5 b2 b3 b4 b5 b6), .box b2 48 [.str c.Name, Iw c.Min, Iw c.Max, .str c.Like.Name, .str c.Like.Group, Iw c.Like.Has.Cpu, Iw c.Like.Has.Mem, Iw c.Like.Has.Disk, Iw c.Like.Has.Pods, Iw c.Like.Has.Dev, Z141 ob c.Like.Labels cap2, Z143 ob2 c.Like.Taints cap3, .bool c.Like.Ready, Iw c.Price, Iw c.Rank], Q141 ob cap2 c.Like.Labels, Q143 ob2 cap3 c.Like.Taints, .box b3 119 [.ptr b2 13], .box b4 119 [.ptr b2 14], .box b5 114 [.ptr b2 3], .box b6 169 [.ptr b2 10]] fun zx zH => ∃ (ob1_10 : Option Nat) (cap1_10 : Nat) (ob1_11 : Option Nat) (cap1_11 : Nat), zx = .tup [.str r.1, Iw r.2.1, Iw r.2.2.1] ∧ zH = [.row (some b) 110 cap (KR5 b2 b3 b4 b5 b6), .box b2 48 [.str r.2.2.2.Name, Iw r.2.2.2.Min, Iw r.2.2.2.Max, .str r.2.2.2.Like.Name, .str r.2.2.2.Like.Group, Iw r.2.2.2.Like.Has.Cpu, Iw r.2.2.2.Like.Has.Mem, Iw r.2.2.2.Like.Has.Disk, Iw r.2.2.2.Like.Has.Pods, Iw r.2.2.2.Like.Has.Dev, Z141 ob1_10 r.2.2.2.Like.Labels cap1_10, Z143 ob1_11 r.2.2.2.Like.Taints cap1_11, .bool r.2.2.2.Like.Ready, Iw r.2.2.2.Price, Iw r.2.2.2.Rank], Q141 ob1_10 cap1_10 r.2.2.2.Like.Labels, Q143 ob1_11 cap1_11 r.2.2.2.Like.Taints, .box b3 119 [.ptr b2 13], .box b4 119 [.ptr b2 14], .box b5 114 [.ptr b2 3], .box b6 169 [.ptr b2 10]] := by
 refine B2 [.tmp 10,.tmp 11,.tmp 12] Dx R R R fun r hm=>?_
 unfold spec_form_x_x at hm
 refine Ag tbk [] R R<|Af<|Ae<|Ab tbk [] 2 R R<|Ad R R<|A1 hm 0 R fn124 R (K51 _ _) fun r hm=>Aa R R (Bh R R R)<|Ac<|Av hm R (fun h2 hm=>?_) fun h2 hm=> ?_
 ·refine Ag tbk [] R R<|?_
  obtain rfl:=Option.some.inj hm
  exact Cm ⟨.inl R,_,.cons (.tmp _ _ R) (.cons (.tmp _ _ R) (.cons (.tmp _ _ R) .nil)),[0,1,2,3,4,5,6,7],_,R,ob,cap2,ob2,cap3,R,R⟩
 refine Aj<|Ae<|Ab tbk [] 2 R R<|Ad R R<|A1 hm 0 R fn125 R (K55 _ _) fun r2 hm=>Aa R R (Am R)<|Ac<|Af<|Ae<|Ab tbk [] 2 R R<|Bd hm fun x h4 hm=>Aa R R (A2 T_api_Node.vv R R el36 h4)<|Ab tbk [] 4 R R<|C5 4 37 33 R (fun K' J=>Ab tbk [] 4 R R<|J 3 R R R) (fun h5 K' J=>Bt R R R R R (Ak R)<|Bt R R R R R (Bg (VV.int .i64) R Bi)<|Ab tbk [] 2 R R<|J 3 R R R)<|Ac<|Av hm R (fun h6 hm=>?_) fun h6 hm=> ?_
 ·refine Af<|A3 0 mixed<|An tbk [0,1] [] (by kernel_rfl) R R R<|Bd hm fun x2 h7 hm=>Au 2 R R R (by kernel_rfl) (A2 T_api_Node.vv R R el36 h7)<|An tbk [3,4,5,6,7] [] (by kernel_rfl) R R R<|Ay (by kernel_rfl)<|?_
  obtain rfl:=Option.some.inj hm
  exact Cm ⟨.inl R,_,.cons (.tmp _ _ R) (.cons (.tmp _ _ R) (.cons (.tmp _ _ R) .nil)),[0,1,2,3,4,5,6,7],_,R,ob,cap2,ob2,cap3,R,R⟩
 refine Aj<|Ca hm (fun _ (gg:Nat × Nat)=>[(0,L100 l),(1,Iw i),(2,.str kind),(3,.bool empty),(4,.sl (some b) 6 cap),(13,L3 r2),(14,.ptr gg.1 0),(15,.ptr gg.2 0)]) (fun j (gg:Nat × Nat)=>[X100 gg.2 j.2,X100 gg.1 j.1,.row (some b) 110 cap (KR5 b2 b3 b4 b5 b6),.box b2 48 [.str c.Name,Iw c.Min,Iw c.Max,.str c.Like.Name,.str c.Like.Group,Iw c.Like.Has.Cpu,Iw c.Like.Has.Mem,Iw c.Like.Has.Disk,Iw c.Like.Has.Pods,Iw c.Like.Has.Dev,Z141 ob c.Like.Labels cap2,Z143 ob2 c.Like.Taints cap3,.bool c.Like.Ready,Iw c.Price,Iw c.Rank],Q141 ob cap2 c.Like.Labels,Q143 ob2 cap3 c.Like.Taints,.box b3 119 [.ptr b2 13],.box b4 119 [.ptr b2 14],.box b5 114 [.ptr b2 3],.box b6 169 [.ptr b2 10]]) (fun o hm=>?_) fun j=>Pq fun b7 b8 hm=> ?_
 ·refine A3 0 mixed<|An tbk [0,1] [] (by kernel_rfl) R R R<|Bd hm fun x3 h12 hm=>Au 2 R R R (by kernel_rfl) (A2 (VV.int .i64) R R el27 h12)<|Au 3 R R R (by kernel_rfl) (Bn R ld3 R)<|Bd hm fun x4 h13 hm=>Au 4 R R R (by kernel_rfl) (A2 T_api_Node.vv R R el36 h13)<|An tbk [5,6,7] [] (by kernel_rfl) R R R<|Bd hm fun x5 h14 hm=>Au 8 R R R (by kernel_rfl) (A2 (VV.int .i64) R R el27 h14)<|Au 9 R R R (by kernel_rfl) (Bn R ld3 R)<|Bd hm fun x6 h15 hm=>Au 10 R R R (by kernel_rfl) (A2 T_api_Node.vv R R el36 h15)<|Au 11 R R R (by kernel_rfl) (Bn R ld100 R)<|?_
  refine B0 [12,13] (by kernel_rfl) ⟨?_,?_,trivial⟩
  ·exact Ao R R R<|A9 z100 fun b9=>Ai 13 (by kernel_rfl)<|Ao R R R<|A9 z100 fun b10=>Ai 14 (by kernel_rfl)<|Ao R R R<|Al (i:=1) R R R ld100 R R R<|Ai 15 (by kernel_rfl)<|Ao R R R<|Al (i:=0) R R R ld100 R R R<|Ay (by kernel_rfl)<|As (b9,b10) hm (Ah [0,1,2,3,4,5,6,7,8,9] (by kernel_rfl) (by kernel_rfl))
  ·exact Ao R R R<|A9 z100 fun b11=>Ai 12 (by kernel_rfl)<|Ao R R R<|A9 z100 fun b12=>Ai 14 (by kernel_rfl)<|Ao R R R<|Al (i:=0) R R R ld100 R R R<|Ai 15 (by kernel_rfl)<|Ao R R R<|Al (i:=1) R R R ld100 R R R<|Ay (by kernel_rfl)<|As (b12,b11) hm (Ah [1,0,2,3,4,5,6,7,8,9] (by kernel_rfl) (by kernel_rfl))
 refine Ae<|Ab tbk [0] 4 R R<|C5 12 70 58 R (fun K' J=>Ab tbk [] 12 R R<|J 11 R R R) (fun h20 K' J=>Ab tbk [] 2 R R<|Bx tbk [0] 4 64 60 R R R R R<|Bt R R R R R (Ak R)<|Bx tbk [0] 4 69 65 R R R R R<|Aa R R (A6 false R R R)<|J 5 R R R)<|Aa R R (Am R)<|Ac<|Af<|Ae<|Ab tbk [1] 4 R R<|Cn tbk [1] 5 79 74 R R R R R<|Aa R R (Ak R)<|Cn tbk [] 3 83 80 R R R R R<|Ac<|Av hm R (fun h25 hm=>?_) fun h25 hm=> ?_
 ·refine Af<|A3 0 mixed<|An tbk [0,1] [] (by kernel_rfl) R R R<|Bd hm fun x7 h26 hm=>Au 2 R R R (by kernel_rfl) (A2 T_api_Node.vv R R el36 h26)<|An tbk [3,4,5,6,7] [] (by kernel_rfl) R R R<|Ay (by kernel_rfl)<|?_
  obtain rfl:=Option.some.inj hm
  exact Cm ⟨.inl R,_,.cons (.tmp _ _ R) (.cons (.tmp _ _ R) (.cons (.tmp _ _ R) .nil)),[2,3,4,5,6,7,8,9],_,R,ob,cap2,ob2,cap3,R,R⟩
 refine Aj<|Ae<|Ab tbk [] 2 R R<|Ad R R<|Dn fun b13=>Aa R R (A5 pl165 R R)<|Ad R R<|Ch R R fun b14=>Aa R R (Am R)<|Ac<|Af<|Ae<|Aa R R (Ak R)<|Bd hm fun v h29 hm=>Aa R R (Dj R R R el27 h29)<|Aa R R (Bg (VV.int .i64) R Bi)<|Aa R R (Ak R)<|Ac<|Cp 95 R fun h32=>Ce hm (fun _ (gg:Option Nat × Nat × Option Nat × Nat)=>[(15,.ptr b8 0)]) (fun x82 (gg:Option Nat × Nat × Option Nat × Nat)=>[X100 b8 j.2,.row (some b) 110 cap (KR5 b2 b3 b4 b5 b6),.box b2 48 [.str x82.Name,Iw x82.Min,Iw x82.Max,.str x82.Like.Name,.str x82.Like.Group,Iw x82.Like.Has.Cpu,Iw x82.Like.Has.Mem,Iw x82.Like.Has.Disk,Iw x82.Like.Has.Pods,Iw x82.Like.Has.Dev,Z141 gg.1 x82.Like.Labels gg.2.1,Z143 gg.2.2.1 x82.Like.Taints gg.2.2.2,.bool x82.Like.Ready,Iw x82.Price,Iw x82.Rank],Q141 gg.1 gg.2.1 x82.Like.Labels,Q143 gg.2.2.1 gg.2.2.2 x82.Like.Taints,.box b3 119 [.ptr b2 13],.box b4 119 [.ptr b2 14],.box b5 114 [.ptr b2 3],.box b6 169 [.ptr b2 10]]) (fun o2 hm h31=>?_) fun x82=>Pq fun ob7=>Pq fun cap8=>Pq fun ob8 cap9 hm=> ?_
 ·refine Cu (v) (fun zl zk (zs:T_spec_reader × T_api_Group)=>spec_form_x_x.l1 zl zk zs.1 zs.2) (fun k _ (_:Option Nat × Nat × Option Nat × Nat × Nat)=>[(15,.ptr b8 0),(17,.ptr b14 0),(95,L3 v),(96,Iw (v.length : Int)),(97,Iw (k : Int))]) (fun _ zs (zg:Option Nat × Nat × Option Nat × Nat × Nat)=>[.box b14 165 [L100 zs.1.l,.sl (some b) 6 cap,.map zg.2.2.2.2,Iw zs.1.e,Iw zs.1.at_],.map zg.2.2.2.2 (List.map (pf VV.str (VV.int .i64)) zs.1.had),X100 b8 j.2,.row (some b) 110 cap (KR5 b2 b3 b4 b5 b6),.box b2 48 [.str zs.2.Name,Iw zs.2.Min,Iw zs.2.Max,.str zs.2.Like.Name,.str zs.2.Like.Group,Iw zs.2.Like.Has.Cpu,Iw zs.2.Like.Has.Mem,Iw zs.2.Like.Has.Disk,Iw zs.2.Like.Has.Pods,Iw zs.2.Like.Has.Dev,Z141 zg.1 zs.2.Like.Labels zg.2.1,Z143 zg.2.2.1 zs.2.Like.Taints zg.2.2.2.1,.bool zs.2.Like.Ready,Iw zs.2.Price,Iw zs.2.Rank],Q141 zg.1 zg.2.1 zs.2.Like.Labels,Q143 zg.2.2.1 zg.2.2.2.1 zs.2.Like.Taints,.box b3 119 [.ptr b2 13],.box b4 119 [.ptr b2 14],.box b5 114 [.ptr b2 3],.box b6 169 [.ptr b2 10]]) ((⟨l,(),([] : List (ByteArray × Int)),(0 : Int),(0 : Int)⟩ : T_spec_reader),c) (ob,cap2,ob2,cap3,b13) hm (Ah [0,1,2,4,5,6,7,8,9,10,11] (by kernel_rfl) (by kernel_rfl)) (fun k=>Pq fun r5 r6=>Pq fun ob5=>Pq fun cap6=>Pq fun ob6=>Pq fun cap7 b16 hk hm=>?_) fun k x9 l2=>Pq fun r5 r6=>Pq fun ob5=>Pq fun cap6=>Pq fun ob6=>Pq fun cap7 b16 h33 hm=> ?_
  ·rw [spec_form_x_x.l1] at hm
   exact Ag tbk [] R R<|Af<|Cc R (k_end hk)<|Be<|Ar (ob5,cap6,ob6,cap7) hm (Ah [2,3,4,5,6,7,8,9,10] (by kernel_rfl) (by kernel_rfl))
  rw [spec_form_x_x.l1] at hm
  refine Ag tbk [] R R<|Af<|Bp R (k_lt h33)<|Aj<|Af<|A4<|Ae<|Aa R R (Cr (VV.int .i64) R R el27 h33)<|Ab tbk [] 2 R R<|Ac<|Ae<|Ab tbk [] 2 R R<|Bd hm fun r7 h34 hm=>A0 (A7 [0,1,3,4,5,6,7,8,9,10,2] R)<|Ad R R<|Aw 10 R fn126 R (K139 r5 r6 x9 b14 b16 b cap b2 ob5 cap6 ob6 cap7 b3 b4 b5 b6 r7 h34) fun _ _ h36=> ?_
  obtain ⟨b17,ob9,cap10,ob10,cap11,rfl,rfl⟩:=h36
  refine Ac<|Ag tbk [0] R R<|Av hm R (fun h35 hm=>?_) fun h35 hm=> ?_
  ·refine Af<|A3 0 mixed<|An tbk [0,1,2,3,4,5,6,7,8,9,10] [0,0] (by kernel_rfl) R R R<|Ay (by kernel_rfl)<|have hm:=Lr hm h31; ?_
   obtain rfl:=Option.some.inj hm
   exact Cm ⟨.inl R,_,.cons (.tmp _ _ R) (.cons (.tmp _ _ R) (.cons (.tmp _ _ R) .nil)),[2,3,4,5,6,7,8,9],_,R,ob9,cap10,ob10,cap11,R,R⟩
  exact Aj<|Bf tbk [] R R<|Ap (r7.1,r7.2) (ob9,cap10,ob10,cap11,b17) hm (B3 [0,1,10,2,3,4,5,6,7,8,9] (by kernel_rfl) ⟨R,R,R,R,congrArg some (k_next h33 h32),trivial⟩)
 refine Ag tbk [0] R R<|?_
 obtain rfl:=Option.some.inj hm
 exact Cm ⟨.inl R,_,.cons (.tmp _ _ R) (.cons (.tmp _ _ R) (.cons (.tmp _ _ R) .nil)),[1,2,3,4,5,6,7,8],_,R,ob7,cap8,ob8,cap9,R,R⟩

/-! trireme/spec.RightGroup -/
def spec_RightGroup (g : T_api_Group) : Option Bool :=
 (lex_Word g.Name).bind fun r =>
 if ((((!r) || (!(V.seq g.Like.Name (⟨#[]⟩ : ByteArray)))) || (!(V.seq g.Like.Group g.Name))) || (!g.Like.Ready)) = true then
  some false
 else
  (spec_between g.Max 1 (200 : Int)).bind fun r2 =>
  (if (!r2) = true then some true else (spec_between g.Min 0 g.Max).bind fun r3 =>
  some (!r3)).bind fun c =>
  if c = true then
   some false
  else
   (spec_between g.Price 0 (1125899906842624 : Int)).bind fun r4 =>
   (if r4 = true then (spec_between g.Rank 0 (1000 : Int)).bind fun r5 =>
   some r5 else some false).bind fun c2 =>
   (if c2 = true then (spec_RightMachine g.Like).bind fun r6 =>
   some r6 else some false).bind fun c3 =>
   some c3
theorem K141 (g : T_api_Group) : VS Tryz.prog 26 (spec_RightGroup g) [T_api_Group.vv g] [] .bool N0 := by
 refine A8 [.tmp 2] Tryz.func26 R R R fun r hm=>?_
 unfold spec_RightGroup at hm
 exact Ae<|Ad R R<|Ch R R fun b=>Aa R R (Am R)<|Ac<|Ae<|Ab tbk [0] 2 R R<|Ad R R<|A9 z41 fun b2=>Ad R R<|Al (i:=0) R R R ld41 R R R<|Ac<|Af<|A4<|Ae<|Ab tbk [1] 2 R R<|Ad R R<|A1 hm 0 R fn55 R (K103 _) fun r hm=>Ab tbk [] 2 R R<|Cn tbk [0] 4 15 11 R R R R R<|Aa R R (Ak R)<|Cn tbk [0,1] 6 22 16 R R R R R<|Aa R R (Ak R)<|Cn tbk [0] 4 27 23 R R R R R<|Aa R R (Am R)<|Ac<|Av hm R (fun h7 hm=>Ag tbk [] R R<|Rt1 hm R [] R R R) fun h7 hm=>Ae<|Ab tbk [1] 2 R R<|Ad R R<|A1 hm 0 R fn58 R (K111 _ _ _) fun r2 hm=>Ab tbk [] 2 R R<|Br hm 7 40 33 R (fun _ K' h9 J hm=>Ab tbk [] 7 R R<|J 6 R R (Bj hm)) (fun _ K' h9 J hm=>Ab tbk [1,1] 4 R R<|Bk R R R R R<|A1 hm 0 R fn58 R (K111 _ _ _) fun r3 hm=>Ab tbk [] 2 R R<|J 6 R R (Bj hm)) fun c hm=>Aa R R (Am R)<|Ac<|Av hm R (fun h12 hm=>Ag tbk [] R R<|Rt1 hm R [] R R R) fun h12 hm=>Aj<|Ae<|Ab tbk [1] 2 R R<|Ad R R<|A1 hm 0 R fn58 R (K111 _ _ _) fun r4 hm=>Aa R R (Ak R)<|Br hm 4 48 44 R (fun _ K' h14 J hm=>Ab tbk [1] 2 R R<|Bk R R R R R<|A1 hm 0 R fn58 R (K111 _ _ _) fun r5 hm=>Aa R R (A6 true R R R)<|J 3 R R (Bj hm)) (fun _ K' h14 J hm=>Ab tbk [] 4 R R<|J 3 R R (Bj hm)) fun c2 hm=>Aa R R (Ak R)<|Br hm 3 52 49 R (fun _ K' h17 J hm=>Ab tbk [0] 1 R R<|Bk R R R R R<|A1 hm 0 R fn20 R (K129 _) fun r6 hm=>Aa R R (A6 true R R R)<|J 2 R R (Bj hm)) (fun _ K' h17 J hm=>Ab tbk [] 3 R R<|J 2 R R (Bj hm)) fun c3 hm=>Aa R R (Am R)<|Ac<|Rt1 hm R [] R R R

/-! trireme/spec.Group -/
def spec_Group (l : List T_api_Node) (i : Int) : Option (T_api_Group × Int × Int) :=
 (spec_number).bind fun r =>
 (spec_number).bind fun r2 =>
 (spec_common).bind fun r3 =>
 (spec_form_x_x l i (⟨#[103, 114, 111, 117, 112]⟩ : ByteArray) false (⟨(⟨#[]⟩ : ByteArray), 0, 0, (⟨(⟨#[]⟩ : ByteArray), (⟨#[]⟩ : ByteArray), (⟨0, 0, 0, 0, 0⟩ : T_api_Res), ([] : List T_api_Label), ([] : List T_api_Taint), false⟩ : T_api_Machine), 0, 0⟩ : T_api_Group)).bind fun r4 =>
 if (r4.2.1 != 0) = true then
  some ((⟨(⟨#[]⟩ : ByteArray), 0, 0, (⟨(⟨#[]⟩ : ByteArray), (⟨#[]⟩ : ByteArray), (⟨0, 0, 0, 0, 0⟩ : T_api_Res), ([] : List T_api_Label), ([] : List T_api_Taint), false⟩ : T_api_Machine), 0, 0⟩ : T_api_Group), r4.2.1, r4.2.2.1)
 else
  (spec_RightGroup (⟨r4.1, r4.2.2.2.Min, r4.2.2.2.Max, (⟨r4.2.2.2.Like.Name, r4.1, r4.2.2.2.Like.Has, r4.2.2.2.Like.Labels, r4.2.2.2.Like.Taints, true⟩ : T_api_Machine), r4.2.2.2.Price, r4.2.2.2.Rank⟩ : T_api_Group)).bind fun r5 =>
  if (!r5) = true then
   (V.gl l i).bind fun x =>
   some ((⟨(⟨#[]⟩ : ByteArray), 0, 0, (⟨(⟨#[]⟩ : ByteArray), (⟨#[]⟩ : ByteArray), (⟨0, 0, 0, 0, 0⟩ : T_api_Res), ([] : List T_api_Label), ([] : List T_api_Taint), false⟩ : T_api_Machine), 0, 0⟩ : T_api_Group), 12, x.At)
  else
   some ((⟨r4.1, r4.2.2.2.Min, r4.2.2.2.Max, (⟨r4.2.2.2.Like.Name, r4.1, r4.2.2.2.Like.Has, r4.2.2.2.Like.Labels, r4.2.2.2.Like.Taints, true⟩ : T_api_Machine), r4.2.2.2.Price, r4.2.2.2.Rank⟩ : T_api_Group), 0, 0)
theorem K142 (l : List T_api_Node) (i : Int) : VS Tryz.prog 29 (spec_Group l i) [L100 l, Iw i] [] (fun r=>.tup [T_api_Group.vv r.1, Iw r.2.1, Iw r.2.2]) N0 := by
 refine A8 [.cell 4 48,.tmp 5,.tmp 6] Tryz.func29 R R R fun r hm=>?_
 unfold spec_Group at hm
 refine Ae<|Ad R R<|A9 z48 fun b=>Ab tbk [] 2 R R<|Ac<|Ae<|Ad R R<|A9 z48 fun b2=>Ac<|Ae<|Aa R R (Cq R R)<|Aa R R (A5 pl110 R R)<|Aa R R (Cl R fa48_4)<|Bd hm fun r h3 hm=>Ad R R<|Aw 0 R fn91 R (K47 b2 13 r h3) fun _ _ h22=> ?_
 obtain ⟨b3,rfl,rfl⟩:=h22
 refine Aa R R (A5 pl110 R R)<|Aa R R (Cl R fa48_5)<|Bd hm fun r2 h5 hm=>Ad R R<|Aw 0 R fn91 R (K47 b2 14 r2 h5) fun _ _ h21=> ?_
 obtain ⟨b4,rfl,rfl⟩:=h21
 refine Aa R R (A5 pl110 R R)<|Ad R R<|Ax ap96 R R R R R fun b5=>Aa R R (Am R)<|Ac<|Ae<|Ab tbk [] 4 R R<|Bd hm fun r3 h8 hm=>Ad R R<|Aw 0 R fn86 R (K117 b2 3 r3 h8) fun _ _ h20=> ?_
 obtain ⟨b6,b7,b8,rfl,rfl⟩:=h20
 refine Ad R R<|VO.appK 3 0 ap96 R R R R R R R fun b9 cap=>A0 (B5 (Bc 141) (Bc 143))<|Bd hm fun r4 h14 hm=>A0 (A7 [5,8,1,0,7,6,3,4,2,9] R)<|Ad R R<|Aw 8 R fn76 R (K140 l i (⟨#[103,114,111,117,112]⟩ : ByteArray) false (⟨(⟨#[]⟩ : ByteArray),(0 : Int),(0 : Int),(⟨(⟨#[]⟩ : ByteArray),(⟨#[]⟩ : ByteArray),(⟨(0 : Int),(0 : Int),(0 : Int),(0 : Int),(0 : Int)⟩ : T_api_Res),([] : List T_api_Label),([] : List T_api_Taint),false⟩ : T_api_Machine),(0 : Int),(0 : Int)⟩ : T_api_Group) b9 cap b2 none 0 none 0 b3 b4 b7 b8 r4 h14) fun _ _ h19=> ?_
 obtain ⟨ob,cap2,ob2,cap3,rfl,rfl⟩:=h19
 refine Ab tbk [] 7 R R<|Ac<|Af<|Ag tbk [] R R<|Av hm R (fun h15 hm=>?_) fun h15 hm=> ?_
 ·exact Ae<|Aa R R (A5 pl48 R R)<|Ab tbk [] 2 R R<|Ad R R<|Al (i:=9) R R R ld48 R R R<|Ab tbk [] 2 R R<|Ac<|Ba (Bc 141)<|Ba (Az (H':=[.row (some b9) 110 cap (KR5 b2 b3 b4 b7 b8),.box b2 48 [.str r4.2.2.2.Name,Iw r4.2.2.2.Min,Iw r4.2.2.2.Max,.str r4.2.2.2.Like.Name,.str r4.2.2.2.Like.Group,Iw r4.2.2.2.Like.Has.Cpu,Iw r4.2.2.2.Like.Has.Mem,Iw r4.2.2.2.Like.Has.Disk,Iw r4.2.2.2.Like.Has.Pods,Iw r4.2.2.2.Like.Has.Dev,Z141 ob r4.2.2.2.Like.Labels cap2,Z143 ob2 r4.2.2.2.Like.Taints cap3,.bool r4.2.2.2.Like.Ready,Iw r4.2.2.2.Price,Iw r4.2.2.2.Rank],Q141 ob cap2 r4.2.2.2.Like.Labels,Q143 ob2 cap3 r4.2.2.2.Like.Taints,.box b3 119 [.ptr b2 13],.box b4 119 [.ptr b2 14],.box b7 114 [.ptr b2 3],.box b8 169 [.ptr b2 10],.row (some b6) 110 3 (KR2 b7 b8),.box b 48 [.str (⟨#[]⟩ : ByteArray),Iw (0 : Int),Iw (0 : Int),.str (⟨#[]⟩ : ByteArray),.str (⟨#[]⟩ : ByteArray),Iw (0 : Int),Iw (0 : Int),Iw (0 : Int),Iw (0 : Int),Iw (0 : Int),L141 ([] : List T_api_Label),.sl none 0 0,.bool false,Iw (0 : Int),Iw (0 : Int)]]) 0 [] R trivial ⟨.same _,.same _,.same _,.same _,.same _,.same _,.same _,.same _,.same _,.box _ _ _ _ ⟨.same _,.same _,.same _,.same _,.same _,.same _,.same _,.same _,.same _,.same _,.here _ R,.same _,.same _,.same _,.same _,trivial⟩,trivial⟩)<|Ba (Bc 143)<|Ba (Az (H':=[.row (some b9) 110 cap (KR5 b2 b3 b4 b7 b8),.box b2 48 [.str r4.2.2.2.Name,Iw r4.2.2.2.Min,Iw r4.2.2.2.Max,.str r4.2.2.2.Like.Name,.str r4.2.2.2.Like.Group,Iw r4.2.2.2.Like.Has.Cpu,Iw r4.2.2.2.Like.Has.Mem,Iw r4.2.2.2.Like.Has.Disk,Iw r4.2.2.2.Like.Has.Pods,Iw r4.2.2.2.Like.Has.Dev,Z141 ob r4.2.2.2.Like.Labels cap2,Z143 ob2 r4.2.2.2.Like.Taints cap3,.bool r4.2.2.2.Like.Ready,Iw r4.2.2.2.Price,Iw r4.2.2.2.Rank],Q141 ob cap2 r4.2.2.2.Like.Labels,Q143 ob2 cap3 r4.2.2.2.Like.Taints,.box b3 119 [.ptr b2 13],.box b4 119 [.ptr b2 14],.box b7 114 [.ptr b2 3],.box b8 169 [.ptr b2 10],.row (some b6) 110 3 (KR2 b7 b8),X48 b (⟨(⟨#[]⟩ : ByteArray),(0 : Int),(0 : Int),(⟨(⟨#[]⟩ : ByteArray),(⟨#[]⟩ : ByteArray),(⟨(0 : Int),(0 : Int),(0 : Int),(0 : Int),(0 : Int)⟩ : T_api_Res),([] : List T_api_Label),([] : List T_api_Taint),false⟩ : T_api_Machine),(0 : Int),(0 : Int)⟩ : T_api_Group)]) 0 [] R trivial ⟨.same _,.same _,.same _,.same _,.same _,.same _,.same _,.same _,.same _,.box _ _ _ _ ⟨.same _,.same _,.same _,.same _,.same _,.same _,.same _,.same _,.same _,.same _,.same _,.here _ R,.same _,.same _,.same _,trivial⟩,trivial⟩)<|Rt0 hm R [] (.cons (.cell _ _ _ _ 9 _ _ _ _ R R ld48 R) (.cons (.tmp _ _ R) (.cons (.tmp _ _ R) .nil))) R R
 refine Aj<|Ae<|Ab tbk [] 3 R R<|Ad R R<|Al (i:=1) R R R ld9 R R R<|Ab tbk [] 2 R R<|Ad R R<|Al (i:=1) R R R ld9 R R R<|Ab tbk [] 2 R R<|Ad R R<|Al (i:=1) R R R ld4 R R R<|Ac<|Af<|Ae<|Ab tbk [1] 1 R R<|A0 (B5 (Az (H':=[.row (some b9) 110 cap (KR5 b2 b3 b4 b7 b8),.box b2 48 [.str r4.1,Iw r4.2.2.2.Min,Iw r4.2.2.2.Max,.str r4.2.2.2.Like.Name,.str r4.1,Iw r4.2.2.2.Like.Has.Cpu,Iw r4.2.2.2.Like.Has.Mem,Iw r4.2.2.2.Like.Has.Disk,Iw r4.2.2.2.Like.Has.Pods,Iw r4.2.2.2.Like.Has.Dev,L141 r4.2.2.2.Like.Labels,Z143 ob2 r4.2.2.2.Like.Taints cap3,.bool true,Iw r4.2.2.2.Price,Iw r4.2.2.2.Rank],Q143 ob2 cap3 r4.2.2.2.Like.Taints,.box b3 119 [.ptr b2 13],.box b4 119 [.ptr b2 14],.box b7 114 [.ptr b2 3],.box b8 169 [.ptr b2 10],.row (some b6) 110 3 (KR2 b7 b8),.box b 48 [.str (⟨#[]⟩ : ByteArray),Iw (0 : Int),Iw (0 : Int),.str (⟨#[]⟩ : ByteArray),.str (⟨#[]⟩ : ByteArray),Iw (0 : Int),Iw (0 : Int),Iw (0 : Int),Iw (0 : Int),Iw (0 : Int),.sl none 0 0,.sl none 0 0,.bool false,Iw (0 : Int),Iw (0 : Int)]]) 2 [(44,.agg [.str r4.1,Iw r4.2.2.2.Min,Iw r4.2.2.2.Max,.str r4.2.2.2.Like.Name,.str r4.1,Iw r4.2.2.2.Like.Has.Cpu,Iw r4.2.2.2.Like.Has.Mem,Iw r4.2.2.2.Like.Has.Disk,Iw r4.2.2.2.Like.Has.Pods,Iw r4.2.2.2.Like.Has.Dev,L141 r4.2.2.2.Like.Labels,Z143 ob2 r4.2.2.2.Like.Taints cap3,.bool true,Iw r4.2.2.2.Price,Iw r4.2.2.2.Rank])] R ⟨⟨_,R,.aggL ⟨.same _,.same _,.same _,.same _,.same _,.same _,.same _,.same _,.same _,.same _,.here _ R,.same _,.same _,.same _,.same _,trivial⟩⟩,trivial⟩ ⟨.same _,.box _ _ _ _ ⟨.same _,.same _,.same _,.same _,.same _,.same _,.same _,.same _,.same _,.same _,.here _ R,.same _,.same _,.same _,.same _,trivial⟩,.same _,.same _,.same _,.same _,.same _,.same _,.same _,trivial⟩) (Az (H':=[.row (some b9) 110 cap (KR5 b2 b3 b4 b7 b8),X48 b2 (⟨r4.1,r4.2.2.2.Min,r4.2.2.2.Max,(⟨r4.2.2.2.Like.Name,r4.1,r4.2.2.2.Like.Has,r4.2.2.2.Like.Labels,r4.2.2.2.Like.Taints,true⟩ : T_api_Machine),r4.2.2.2.Price,r4.2.2.2.Rank⟩ : T_api_Group),.box b3 119 [.ptr b2 13],.box b4 119 [.ptr b2 14],.box b7 114 [.ptr b2 3],.box b8 169 [.ptr b2 10],.row (some b6) 110 3 (KR2 b7 b8),.box b 48 [.str (⟨#[]⟩ : ByteArray),Iw (0 : Int),Iw (0 : Int),.str (⟨#[]⟩ : ByteArray),.str (⟨#[]⟩ : ByteArray),Iw (0 : Int),Iw (0 : Int),Iw (0 : Int),Iw (0 : Int),Iw (0 : Int),.sl none 0 0,.sl none 0 0,.bool false,Iw (0 : Int),Iw (0 : Int)]]) 2 [(44,T_api_Group.vv (⟨r4.1,r4.2.2.2.Min,r4.2.2.2.Max,(⟨r4.2.2.2.Like.Name,r4.1,r4.2.2.2.Like.Has,r4.2.2.2.Like.Labels,r4.2.2.2.Like.Taints,true⟩ : T_api_Machine),r4.2.2.2.Price,r4.2.2.2.Rank⟩ : T_api_Group))] R ⟨⟨_,R,.aggL ⟨.same _,.same _,.same _,.same _,.same _,.same _,.same _,.same _,.same _,.same _,.same _,.here _ R,.same _,.same _,.same _,trivial⟩⟩,trivial⟩ ⟨.same _,.box _ _ _ _ ⟨.same _,.same _,.same _,.same _,.same _,.same _,.same _,.same _,.same _,.same _,.same _,.here _ R,.same _,.same _,.same _,trivial⟩,.same _,.same _,.same _,.same _,.same _,.same _,trivial⟩))<|?_
 refine Ad R R<|A1 hm 0 R fn26 R (K141 _) fun r5 hm=>Aa R R (Cw R)<|Ac<|Av hm R (fun h17 hm=>?_) fun h17 hm=> ?_
 ·exact Af<|Ba (A7 [7,0,1,2,3,4,5,6] R)<|A3 1 mixed<|Au 0 R R R (by kernel_rfl) (A5 pl48 R R)<|An tbk [1,2] [] (by kernel_rfl) R R R<|Bd hm fun x h18 hm=>Au 3 R R R (by kernel_rfl) (A2 T_api_Node.vv R R el36 h18)<|An tbk [4,5] [] (by kernel_rfl) R R R<|Ai 6 (by kernel_rfl)<|Ao R R R<|Al (i:=0) R R R ld48 R R R<|An tbk [7,8] [] (by kernel_rfl) R R R<|Ay (by kernel_rfl)<|Ba (Bc 141)<|Ba (Az (H':=[.box b 48 [.str (⟨#[]⟩ : ByteArray),Iw (0 : Int),Iw (0 : Int),.str (⟨#[]⟩ : ByteArray),.str (⟨#[]⟩ : ByteArray),Iw (0 : Int),Iw (0 : Int),Iw (0 : Int),Iw (0 : Int),Iw (0 : Int),L141 ([] : List T_api_Label),.sl none 0 0,.bool false,Iw (0 : Int),Iw (0 : Int)],.row (some b9) 110 cap (KR5 b2 b3 b4 b7 b8),X48 b2 (⟨r4.1,r4.2.2.2.Min,r4.2.2.2.Max,(⟨r4.2.2.2.Like.Name,r4.1,r4.2.2.2.Like.Has,r4.2.2.2.Like.Labels,r4.2.2.2.Like.Taints,true⟩ : T_api_Machine),r4.2.2.2.Price,r4.2.2.2.Rank⟩ : T_api_Group),.box b3 119 [.ptr b2 13],.box b4 119 [.ptr b2 14],.box b7 114 [.ptr b2 3],.box b8 169 [.ptr b2 10],.row (some b6) 110 3 (KR2 b7 b8)]) 0 [] R trivial ⟨.box _ _ _ _ ⟨.same _,.same _,.same _,.same _,.same _,.same _,.same _,.same _,.same _,.same _,.here _ R,.same _,.same _,.same _,.same _,trivial⟩,.same _,.same _,.same _,.same _,.same _,.same _,.same _,trivial⟩)<|Ba (Bc 143)<|Ba (Az (H':=[X48 b (⟨(⟨#[]⟩ : ByteArray),(0 : Int),(0 : Int),(⟨(⟨#[]⟩ : ByteArray),(⟨#[]⟩ : ByteArray),(⟨(0 : Int),(0 : Int),(0 : Int),(0 : Int),(0 : Int)⟩ : T_api_Res),([] : List T_api_Label),([] : List T_api_Taint),false⟩ : T_api_Machine),(0 : Int),(0 : Int)⟩ : T_api_Group),.row (some b9) 110 cap (KR5 b2 b3 b4 b7 b8),X48 b2 (⟨r4.1,r4.2.2.2.Min,r4.2.2.2.Max,(⟨r4.2.2.2.Like.Name,r4.1,r4.2.2.2.Like.Has,r4.2.2.2.Like.Labels,r4.2.2.2.Like.Taints,true⟩ : T_api_Machine),r4.2.2.2.Price,r4.2.2.2.Rank⟩ : T_api_Group),.box b3 119 [.ptr b2 13],.box b4 119 [.ptr b2 14],.box b7 114 [.ptr b2 3],.box b8 169 [.ptr b2 10],.row (some b6) 110 3 (KR2 b7 b8)]) 0 [] R trivial ⟨.box _ _ _ _ ⟨.same _,.same _,.same _,.same _,.same _,.same _,.same _,.same _,.same _,.same _,.same _,.here _ R,.same _,.same _,.same _,trivial⟩,.same _,.same _,.same _,.same _,.same _,.same _,.same _,trivial⟩)<|Rt0 hm R [] (.cons (.cell _ _ _ _ 0 _ _ _ _ R R ld48 R) (.cons (.tmp _ _ R) (.cons (.tmp _ _ R) .nil))) R R
 exact Aj<|Ae<|Ab tbk [1] 1 R R<|Ad R R<|Al (i:=7) R R R ld48 R R R<|Ab tbk [] 2 R R<|Ac<|Rt0 hm R [] (.cons (.cell _ _ _ _ 7 _ _ _ _ R R ld48 R) (.cons (.tmp _ _ R) (.cons (.tmp _ _ R) .nil))) R R

/-! trireme/quant.digits -/
def quant_digits.l1 : Nat → Int → Arr20_Int → Int → Option ByteArray
 | 0, _, _, _ => none
 | n4 + 1, n3, b3, at_2 =>
  (V.rem n3 (10 : Int)).bind fun v =>
  (V.gl (Arr20_Int.l b3) (i64.wrap (at_2 - 1))).bind fun x =>
  (Arr20_Int.put b3 (i64.wrap (at_2 - 1)) (IntKind.u8.wrap (i64.wrap (48 + v)))).bind fun b4 =>
  (V.quo n3 (10 : Int)).bind fun v2 =>
  if ((i64.wrap v2) == 0) = true then
   (V.rng 20 (some (i64.wrap (at_2 - 1))) none).bind fun r =>
   (V.grd (decide (r.1 < r.2))).bind fun u =>
   some (strOfNums ((List.drop r.1 (Arr20_Int.l b4)).take (r.2 - r.1)))
  else
   quant_digits.l1 n4 (i64.wrap v2) b4 (i64.wrap (at_2 - 1))
def quant_digits (n : Int) : Option ByteArray :=
 quant_digits.l1 FU n (⟨0, 0, 0, 0, 0, 0, 0, 0, 0, 0, 0, 0, 0, 0, 0, 0, 0, 0, 0, 0⟩ : Arr20_Int) 20
theorem K143 (n : Int) : VS Tryz.prog 107 (quant_digits n) [Iw n] [] .str N0 := by
 refine A8 [.tmp 2] Tryz.func107 R R R fun r hm=>?_
 unfold quant_digits at hm
 refine Ag tbk [] R R<|Ae<|Ad R R<|A9 z189 fun b=>Ac<|Ag tbk [] R R<|Ck (fun zn (zs:Int × Arr20_Int × Int)=>quant_digits.l1 zn zs.1 zs.2.1 zs.2.2) (fun zs (_:Unit)=>[(0,Iw zs.1),(3,.ptr b 0),(4,Iw zs.2.2)]) (fun zs (_:Unit)=>[X189 b zs.2.1]) (n,(⟨(0 : Int),(0 : Int),(0 : Int),(0 : Int),(0 : Int),(0 : Int),(0 : Int),(0 : Int),(0 : Int),(0 : Int),(0 : Int),(0 : Int),(0 : Int),(0 : Int),(0 : Int),(0 : Int),(0 : Int),(0 : Int),(0 : Int),(0 : Int)⟩ : Arr20_Int),(20 : Int)) () (fun _=>R) hm (Ah [0] R R) fun n4=>Pq fun n3=>Pq fun b3 at_2 _ hm=> ?_
 rw [quant_digits.l1] at hm
 exact A4<|Ag tbk [] R R<|Ae<|Ab tbk [] 2 R R<|Bd hm fun v h2 hm=>Aa R R (C3 R R h2)<|Aa R R (Bh R R R)<|Aa R R (B9 Bu Bo R)<|Bd hm fun x h3 hm=>Aa R R (VP.indexA R R ar189 (gl_pos2 h3).1 (gl_pos2 h3).2)<|Bd hm fun b4 h4 hm=>Ad R R<|VO.storeA 0 (f:=(VV.int .u8)) (l:=Arr20_Int.l b3) R R R ld5 R R (Arr20_Int.put_some h4)<|Ac<|Ae<|Aa R R (Ak R)<|Bd hm fun v2 h5 hm=>Aa R R (Cy R R h5)<|Aa R R (Am R)<|Ac<|Ag tbk [] R R<|Av hm R (fun h6 hm=>Ae<|Aa R R (Ak R)<|Bd hm fun r h7 hm=>Aa R R (VP.subA R ar189 R R h7)<|Bd hm fun u h8 hm=>Aa R R (VP.convSub (l:=(Arr20_Int.l b4)) 0 el160 Bo Aq R R (V.sub_len (V.grd_t h8)).1 (V.sub_len2 (V.grd_t h8) h7) R)<|Aa R R (Am R)<|Ac<|Rt1 hm R [] R R R) fun h6 hm=>Aj<|Ap ((IntKind.i64.wrap v2),b4,(IntKind.i64.wrap (at_2 - (1 : Int)))) () hm (Ah [0] R R)

/-! trireme/quant.ShowMilli -/
def quant_ShowMilli (n : Int) : Option ByteArray :=
 if ((decide (n < 0)) || (decide (n > 1125899906842624))) = true then
  some (⟨#[]⟩ : ByteArray)
 else
  (V.rem n (1000 : Int)).bind fun v =>
  if (v == 0) = true then
   (V.quo n (1000 : Int)).bind fun v2 =>
   (quant_digits (i64.wrap v2)).bind fun r =>
   some r
  else
   (quant_digits n).bind fun r2 =>
   (V.cat r2 (⟨#[109]⟩ : ByteArray)).bind fun v3 =>
   some v3
theorem K144 (n : Int) : VS Tryz.prog 46 (quant_ShowMilli n) [Iw n] [] .str N0 := by
 refine A8 [.tmp 2] Tryz.func46 R R R fun r hm=>?_
 unfold quant_ShowMilli at hm
 exact Ag tbk [] R R<|Af<|A4<|Ae<|Ab tbk [] 3 R R<|Cn tbk [] 3 9 6 R R R R R<|Aa R R (Am R)<|Ac<|Av hm R (fun h2 hm=>Ag tbk [] R R<|Rt1 hm R [] R R R) fun h2 hm=>Ae<|Aa R R (Ak R)<|Bd hm fun v h3 hm=>Aa R R (C3 R R h3)<|Ab tbk [] 2 R R<|Ac<|Av hm R (fun h4 hm=>Ae<|Aa R R (Ak R)<|Bd hm fun v2 h5 hm=>Aa R R (Cy R R h5)<|Ad R R<|A1 hm 0 R fn107 R (K143 _) fun r hm=>Aa R R (Am R)<|Ac<|Rt1 hm R [] R R R) fun h4 hm=>Aj<|Ae<|Aa R R (Ak R)<|Ad R R<|A1 hm 0 R fn107 R (K143 _) fun r2 hm=>Bd hm fun v3 h8 hm=>Aa R R (Bl R R h8)<|Aa R R (Am R)<|Ac<|Rt1 hm R [] R R R

/-! trireme/quant.Show -/
def quant_Show.l1 : Nat → Int → Int → Option (Int × Int)
 | 0, _, _ => none
 | n5 + 1, n3, k2 =>
  (if (decide (n3 > 0)) = true then (V.rem n3 (1024 : Int)).bind fun v =>
  some (v == 0) else some false).bind fun c =>
  if (c && (decide (k2 < 4))) = true then
   (V.quo n3 (1024 : Int)).bind fun v2 =>
   quant_Show.l1 n5 (i64.wrap v2) (i64.wrap (k2 + 1))
  else
   some (n3, k2)
def quant_Show (n : Int) : Option ByteArray :=
 if ((decide (n < 0)) || (decide (n > 1125899906842624))) = true then
  some (⟨#[]⟩ : ByteArray)
 else
  (quant_Show.l1 FU n (0 : Int)).bind fun j =>
  (V.gl (Arr5_ByteArray.l (⟨(⟨#[]⟩ : ByteArray), (⟨#[75, 105]⟩ : ByteArray), (⟨#[77, 105]⟩ : ByteArray), (⟨#[71, 105]⟩ : ByteArray), (⟨#[84, 105]⟩ : ByteArray)⟩ : Arr5_ByteArray)) j.2).bind fun x =>
  (quant_digits j.1).bind fun r =>
  (V.cat r x).bind fun v3 =>
  some v3
theorem K145 (n : Int) : VS Tryz.prog 47 (quant_Show n) [Iw n] [] .str N0 := by
 refine A8 [.tmp 2] Tryz.func47 R R R fun r hm=>?_
 unfold quant_Show at hm
 refine Ag tbk [] R R<|Af<|Ae<|Ab tbk [] 3 R R<|Cn tbk [] 3 10 7 R R R R R<|Ac<|Av hm R (fun h2 hm=>Ag tbk [] R R<|Rt1 hm R [] R R R) fun h2 hm=>Aj<|Ae<|Aa R R (A5 pl144 R R)<|Ad R R<|A9 z144 fun b=>Ad R R<|Al (i:=0) R R R ld144 R R R<|Ac<|Ag tbk [] R R<|Ca hm (fun j (_:Unit)=>[(0,Iw j.1),(3,.ptr b 0),(4,Iw j.2)]) (fun _ (_:Unit)=>[X144 b (⟨(⟨#[]⟩ : ByteArray),(⟨#[75,105]⟩ : ByteArray),(⟨#[77,105]⟩ : ByteArray),(⟨#[71,105]⟩ : ByteArray),(⟨#[84,105]⟩ : ByteArray)⟩ : Arr5_ByteArray)]) (fun o hm=>?_) fun j _ hm=> ?_
 ·refine Ck (fun zn (zs:Int × Int)=>quant_Show.l1 zn zs.1 zs.2) (fun zs (_:Unit)=>[(0,Iw zs.1),(3,.ptr b 0),(4,Iw zs.2)]) (fun _ (_:Unit)=>[X144 b (⟨(⟨#[]⟩ : ByteArray),(⟨#[75,105]⟩ : ByteArray),(⟨#[77,105]⟩ : ByteArray),(⟨#[71,105]⟩ : ByteArray),(⟨#[84,105]⟩ : ByteArray)⟩ : Arr5_ByteArray)]) (n,(0 : Int)) () (fun _=>R) hm (Ah [0] R R) fun n5=>Pq fun n3 k2 _ hm=> ?_
  rw [quant_Show.l1] at hm
  exact Af<|Ae<|Ab tbk [] 3 R R<|Br hm 4 18 14 R (fun _ K' h6 J hm=>Bt R R R R R (Ak R)<|Bd hm fun v h7 hm=>Bt R R R R R (C3 R R h7)<|Ab tbk [] 2 R R<|J 3 R R (Bj hm)) (fun _ K' h6 J hm=>Ab tbk [] 4 R R<|J 3 R R (Bj hm)) fun c hm=>Aa R R (Ak R)<|Bx tbk [] 3 22 19 R R R R R<|Ac<|Av hm R (fun h10 hm=>Aj<|A4<|Ae<|Aa R R (Ak R)<|Bd hm fun v2 h11 hm=>Aa R R (Cy R R h11)<|Aa R R (Am R)<|Ac<|Bf tbk [] R R<|Ap ((IntKind.i64.wrap v2),(IntKind.i64.wrap (k2 + (1 : Int)))) () hm (Ah [0] R R)) fun h10 hm=>Be<|As () hm (Ah [0] R R)
 refine Af<|A3 0 mixed<|An tbk [0,2] [] (by kernel_rfl) R R R<|Bd hm fun x h12 hm=>Au 3 R R R (by kernel_rfl) (VP.indexA R R ar144 (gl_pos2 h12).1 (gl_pos2 h12).2)<|Au 4 R R R (by kernel_rfl) (VP.loadA 0 (f:=VV.str) (l:=Arr5_ByteArray.l (⟨(⟨#[]⟩ : ByteArray),(⟨#[75,105]⟩ : ByteArray),(⟨#[77,105]⟩ : ByteArray),(⟨#[71,105]⟩ : ByteArray),(⟨#[84,105]⟩ : ByteArray)⟩ : Arr5_ByteArray)) R R ld9 R h12)<|Ai 1 (by kernel_rfl)<|Bd hm fun r h13 hm=>Ao R R R<|Aw 0 R fn107 R (K143 j.1 r h13) fun _ _ h15=> ?_
 obtain ⟨rfl,rfl⟩:=h15
 exact Bd hm fun v3 h14 hm=>Au 5 R R R (by kernel_rfl) (Bl R R h14)<|Au 6 R R R (by kernel_rfl) (Am R)<|Ay (by kernel_rfl)<|Rt1 hm R [] R R R

/-! trireme/spec.shown -/
def spec_shown : Nat → I_any20 → Option ByteArray
 | 0, _ => none
 | nn + 1, x =>
  if (!(I_any20.is9 x)) = true then
   (V.grd (I_any20.is3 x)).bind fun u =>
   if (decide ((I_any20.as3 x) < 10)) = true then
    some (strOfNums [(IntKind.u8.wrap (i64.wrap (48 + (I_any20.as3 x))))])
   else
    (V.quo (I_any20.as3 x) (10 : Int)).bind fun v =>
    ((spec_shown nn) (I_any20.c3 (i64.wrap v))).bind fun r =>
    (V.rem (I_any20.as3 x) (10 : Int)).bind fun v2 =>
    ((spec_shown nn) (I_any20.c3 v2)).bind fun r2 =>
    (V.cat r r2).bind fun v3 =>
    some v3
  else
   if (V.seq (I_any20.as9 x) (⟨#[]⟩ : ByteArray)) = true then
    some (⟨#[34, 34]⟩ : ByteArray)
   else
    some (I_any20.as9 x)
theorem K146 (nn : Nat) : ∀ (x : I_any20), VS Tryz.prog 79 (spec_shown nn x) [I_any20.vv x] [] .str N0 := by
 induction nn with
 | zero => intro x; exact VS.none (by rw [spec_shown])
 | succ nn ih =>
  intro x
  refine A8 [.tmp 2] Tryz.func79 R R R fun r hm=>?_
  rw [spec_shown] at hm
  exact Ag tbk [] R R<|Ae<|Aa R R (Ak R)<|Aa R R (VP.as (VP.tassert nif9 zg9 R) (I_any20_ta9 x))<|Ab tbk [] 5 R R<|Ac<|Af<|Ag tbk [] R R<|Av hm R (fun h1 hm=>Ae<|Aa R R (Ak R)<|Bd hm fun u h2 hm=>Aa R R (VP.as (Dw nif3 R (I_any20_tp3 (V.grd_t h2)).1) (I_any20_tp3 (V.grd_t h2)).2)<|Aa R R (Am R)<|Ac<|Af<|Ag tbk [] R R<|Av hm R (fun h3 hm=>Ae<|Ab tbk [] 2 R R<|Aa R R (B9 Bu Bo R)<|Ad R R<|Ax ap160 R R R R R fun b=>A0 (Az 0 [(20,L5 [(IntKind.u8.wrap (IntKind.i64.wrap ((48 : Int) + (I_any20.as3 x))))])] R ⟨⟨_,R,.here _ R⟩,trivial⟩ (FzH.refl _))<|Aa R R (Dq (l:=[(IntKind.u8.wrap (IntKind.i64.wrap ((48 : Int) + (I_any20.as3 x))))]) el160 Bo Aq R)<|Aa R R (Am R)<|Ac<|Rt1 hm R [] R R R) fun h3 hm=>Aj<|Ae<|Aa R R (Ak R)<|Bd hm fun v h5 hm=>Aa R R (Cy R R h5)<|Aa R R (Cb nif3 R)<|Ad R R<|A1 hm 0 R fn79 R (ih _) fun r hm=>Aa R R (Ak R)<|Bd hm fun v2 h7 hm=>Aa R R (C3 R R h7)<|Aa R R (Cb nif3 R)<|Ad R R<|A1 hm 0 R fn79 R (ih _) fun r2 hm=>Bd hm fun v3 h9 hm=>Aa R R (Bl R R h9)<|Aa R R (Am R)<|Ac<|Rt1 hm R [] R R R) fun h1 hm=>Aj<|Af<|Ag tbk [] R R<|Av hm R (fun h10 hm=>Ag tbk [] R R<|Rt1 hm R [] R R R) fun h10 hm=>Aj<|Ag tbk [] R R<|Rt1 hm R [] R R R

/-! (*trireme/spec.writer).list -/
def spec_writer_list.l1 : List I_any20 → Nat → T_spec_writer → Option T_spec_writer
 | [], k, w3 => some w3
 | x2 :: l, k, w3 =>
  (spec_shown FU x2).bind fun r =>
  (V.cat (⟨#[32]⟩ : ByteArray) r).bind fun v3 =>
  (V.cat w3.s v3).bind fun v4 =>
  spec_writer_list.l1 l (k + 1) (⟨v4⟩ : T_spec_writer)
def spec_writer_list (w : T_spec_writer) (name : ByteArray) (x : List I_any20) : Option T_spec_writer :=
 (V.cat (⟨#[32, 40]⟩ : ByteArray) name).bind fun v =>
 (V.cat w.s v).bind fun v2 =>
 (spec_writer_list.l1 x 0 (⟨v2⟩ : T_spec_writer)).bind fun w42 =>
 (V.cat w42.s (⟨#[41]⟩ : ByteArray)).bind fun v7 =>
 some (⟨v7⟩ : T_spec_writer)
theorem K147 (w : T_spec_writer) (name : ByteArray) (x : List I_any20) (b : Nat) : VS Tryz.prog 45 (spec_writer_list w name x) [.ptr b 0, .str name, L20 x] [X76 b w] (fun r=>.tup []) (fun r=>[X76 b r]) := by
 refine A8 [] Tryz.func45 R R R fun r hm=>?_
 unfold spec_writer_list at hm
 refine Ae<|Ab tbk [0] 5 R R<|Bd hm fun v h1 hm=>Aa R R (Bl R R h1)<|Bd hm fun v2 h2 hm=>Aa R R (Bl R R h2)<|Ab tbk [] 2 R R<|Ad R R<|Al (i:=0) R R R ld9 R R R<|Ac<|Af<|Ae<|Aa R R (Ak R)<|Aa R R (Bg I_any20.vv R Dg)<|Aa R R (Ak R)<|Ac<|Cp 17 R fun h5=>Cx hm (fun _ (_:Unit)=>[(0,.ptr b 0)]) (fun w42 (_:Unit)=>[X76 b w42]) (fun o hm=>?_) fun w42 _ hm=> ?_
 ·refine Cu (x) (fun zl zk (zs:T_spec_writer)=>spec_writer_list.l1 zl zk zs) (fun k _ (_:Unit)=>[(0,.ptr b 0),(17,L20 x),(18,Iw (x.length : Int)),(19,Iw (k : Int))]) (fun _ zs (_:Unit)=>[X76 b zs]) _ () hm (Ah [0] R R) (fun k w3 _ hk hm=>?_) fun k x2 l w3 _ h6 hm=> ?_
  ·rw [spec_writer_list.l1] at hm
   exact Ag tbk [] R R<|Af<|Cc R (k_end hk)<|Be<|As () hm (Ah [0] R R)
  rw [spec_writer_list.l1] at hm
  refine Ag tbk [] R R<|Af<|Bp R (k_lt h6)<|Aj<|Af<|A4<|Ae<|Aa R R (Cr I_any20.vv R R el81 h6)<|Ab tbk [] 2 R R<|Ac<|A3 1 mixed<|An tbk [0,1,2,4] [] (by kernel_rfl) R R R<|?_
  refine B0 [3,5] (by kernel_rfl) ⟨?_,?_,trivial⟩
  ·refine Ao R R R<|B4 (Bq (i:=0) R R ld9 R)<|Ai 5 (by kernel_rfl)<|Bd hm fun r h7 hm=>Ao R R R<|Aw 0 R fn79 R (K146 FU x2 r h7) fun _ _ h10=> ?_
   obtain ⟨rfl,rfl⟩:=h10
   exact Bd hm fun v3 h8 hm=>Au 6 R R R (by kernel_rfl) (Bl R R h8)<|Bd hm fun v4 h9 hm=>Au 7 R R R (by kernel_rfl) (Bl R R h9)<|An tbk [8,9] [] (by kernel_rfl) R R R<|Ai 10 (by kernel_rfl)<|Ao R R R<|Al (i:=0) R R R ld9 R R R<|Ay (by kernel_rfl)<|Bf tbk [] R R<|Ap _ () hm (B3 [0] R ⟨R,R,R,congrArg some (k_next h6 h5),trivial⟩)
  ·refine Bd hm fun r2 h11 hm=>Ao R R R<|Aw 0 R fn79 R (K146 FU x2 r2 h11) fun _ _ h14=> ?_
   obtain ⟨rfl,rfl⟩:=h14
   exact Bd hm fun v5 h12 hm=>Au 6 R R R (by kernel_rfl) (Bl R R h12)<|Ai 3 (by kernel_rfl)<|Ao R R R<|B4 (Bq (i:=0) R R ld9 R)<|Bd hm fun v6 h13 hm=>Au 7 R R R (by kernel_rfl) (Bl R R h13)<|An tbk [8,9] [] (by kernel_rfl) R R R<|Ai 10 (by kernel_rfl)<|Ao R R R<|Al (i:=0) R R R ld9 R R R<|Ay (by kernel_rfl)<|Bf tbk [] R R<|Ap _ () hm (B3 [0] R ⟨R,R,R,congrArg some (k_next h6 h5),trivial⟩)
 exact Bb<|Ab tbk [0] 4 R R<|Bd hm fun v7 h15 hm=>Aa R R (Bl R R h15)<|Ab tbk [] 2 R R<|Ad R R<|Al (i:=0) R R R ld9 R R R<|Ac<|Rn0 hm R [0] (.nil) R R

/-! (*trireme/spec.writer).pairs -/
def spec_writer_pairs.l1 (name : ByteArray) : List T_api_Label → Nat → T_spec_writer → Option T_spec_writer
 | [], k, w3 => some w3
 | x3 :: l2, k, w3 =>
  (spec_writer_list w3 name [(I_any20.c9 x3.Key), (I_any20.c9 x3.Val)]).bind fun r =>
  spec_writer_pairs.l1 name l2 (k + 1) r
def spec_writer_pairs (w : T_spec_writer) (name : ByteArray) (l : List T_api_Label) : Option T_spec_writer :=
 (spec_writer_pairs.l1 name l 0 w).bind fun x2 =>
 some x2
theorem K148 (w : T_spec_writer) (name : ByteArray) (l : List T_api_Label) (b : Nat) : VS Tryz.prog 48 (spec_writer_pairs w name l) [.ptr b 0, .str name, L141 l] [X76 b w] (fun r=>.tup []) (fun r=>[X76 b r]) := by
 refine A8 [] Tryz.func48 R R R fun r hm=>?_
 unfold spec_writer_pairs at hm
 refine Ae<|Aa R R (Ak R)<|Aa R R (Bg T_api_Label.vv R B8)<|Aa R R (Ak R)<|Ac<|Cp 8 R fun h3=>Cx hm (fun _ (_:Unit)=>[]) (fun x2 (_:Unit)=>[X76 b x2]) (fun o hm=>?_) fun x2 _ hm=> ?_
 ·refine Cu (l) (fun zl zk (zs:T_spec_writer)=>spec_writer_pairs.l1 name zl zk zs) (fun k _ (_:Unit)=>[(0,.ptr b 0),(1,.str name),(8,L141 l),(9,Iw (l.length : Int)),(10,Iw (k : Int))]) (fun _ zs (_:Unit)=>[X76 b zs]) _ () hm (Ah [0] R R) (fun k w3 _ hk hm=>?_) fun k x3 l2 w3 _ h4 hm=> ?_
  ·rw [spec_writer_pairs.l1] at hm
   exact Ag tbk [] R R<|Af<|Cc R (k_end hk)<|Be<|As () hm (Ah [0] R R)
  rw [spec_writer_pairs.l1] at hm
  exact Ag tbk [] R R<|Af<|Bp R (k_lt h4)<|Aj<|Af<|A4<|Ae<|Aa R R (Cr T_api_Label.vv R R el24 h4)<|Aa R R (Bn R ld141 R)<|Ad R R<|A9 z141 fun b2=>Ad R R<|Al (i:=0) R R R ld141 R R R<|Ac<|Bb<|Ab tbk [0] 4 R R<|Aa R R (Cb nif9 R)<|Ab tbk [0] 2 R R<|Aa R R (Cb nif9 R)<|Ad R R<|Ax ap81 R R R R R fun b3=>A0 (Az 0 [(22,L20 [(I_any20.c9 x3.Key),(I_any20.c9 x3.Val)])] R ⟨⟨_,R,.here _ R⟩,trivial⟩ (FzH.refl _))<|A0 (A7 [1,0] R)<|Ad R R<|A1 hm 1 R fn45 R (K147 _ _ _ _) fun r hm=>Ac<|Bf tbk [] R R<|Ap _ () hm (B3 [0] R ⟨R,R,R,R,congrArg some (k_next h4 h3),trivial⟩)
 exact Rn0 hm R [0] (.nil) R R

/-! (*trireme/spec.writer).some -/
def spec_writer_some (w : T_spec_writer) (name : ByteArray) (n : Int) : Option T_spec_writer :=
 if (n != 0) = true then
  (spec_writer_list w name [(I_any20.c3 n)]).bind fun r =>
  some r
 else
  some w
theorem K149 (w : T_spec_writer) (name : ByteArray) (n : Int) (b : Nat) : VS Tryz.prog 51 (spec_writer_some w name n) [.ptr b 0, .str name, Iw n] [X76 b w] (fun r=>.tup []) (fun r=>[X76 b r]) := by
 refine A8 [] Tryz.func51 R R R fun r hm=>?_
 unfold spec_writer_some at hm
 exact Ag tbk [] R R<|Av hm R (fun h1 hm=>Bb<|Ab tbk [] 3 R R<|Aa R R (Cb nif3 R)<|Ad R R<|Ax ap81 R R R R R fun b2=>A0 (Az 0 [(12,L20 [(I_any20.c3 n)])] R ⟨⟨_,R,.here _ R⟩,trivial⟩ (FzH.refl _))<|Ad R R<|A1 hm 1 R fn45 R (K147 _ _ _ _) fun r hm=>Ac<|Rn0 hm R [0] (.nil) R R) fun h1 hm=>Aj<|Rn0 hm R [0] (.nil) R R

/-! (*trireme/spec.writer).flag -/
def spec_writer_flag (w : T_spec_writer) (name : ByteArray) (is : Bool) : Option T_spec_writer :=
 if is = true then
  (V.cat (⟨#[32]⟩ : ByteArray) name).bind fun v =>
  (V.cat w.s v).bind fun v2 =>
  some (⟨v2⟩ : T_spec_writer)
 else
  some w
theorem K150 (w : T_spec_writer) (name : ByteArray) (is : Bool) (b : Nat) : VS Tryz.prog 52 (spec_writer_flag w name is) [.ptr b 0, .str name, .bool is] [X76 b w] (fun r=>.tup []) (fun r=>[X76 b r]) := by
 refine A8 [] Tryz.func52 R R R fun r hm=>?_
 unfold spec_writer_flag at hm
 exact Ag tbk [] R R<|Av hm R (fun h1 hm=>Bb<|Ab tbk [0] 5 R R<|Bd hm fun v h2 hm=>Aa R R (Bl R R h2)<|Bd hm fun v2 h3 hm=>Aa R R (Bl R R h3)<|Ab tbk [] 2 R R<|Ad R R<|Al (i:=0) R R R ld9 R R R<|Ac<|Rn0 hm R [0] (.nil) R R) fun h1 hm=>Aj<|Rn0 hm R [0] (.nil) R R

end Go.Proofs.YtkondhigbbgidaaGreat.M

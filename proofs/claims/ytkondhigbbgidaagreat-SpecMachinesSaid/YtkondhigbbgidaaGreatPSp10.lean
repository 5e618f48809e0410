/-
  Printed by a program of this session out of the loaded functions: models and their proofs. Own text.
-/
import Derived.Test.YtkondhigbbgidaaGreatPSp7
/-
  Plain laws of a machine's form: its fields, one by one, and the whole. Own text; the look-up, the rest and their lemmas printed by formgen.py.
-/
namespace Go.Proofs.YtkondhigbbgidaaGreat.M
open Go Go.Proofs Go.Proofs.YtkondhigbbgidaaGreat.V
open Go.IntKind (i64)
set_option linter.unusedVariables false
set_option linter.unusedSimpArgs false
set_option maxRecDepth 20000
def bump (r : T_spec_reader) (n : ByteArray) : T_spec_reader:=⟨r.l,(),V.mp r.had n (i64.wrap (((V.mg r.had n).getD 0) + 1)),r.e,r.at_⟩
def mlook (alone : Bool) (r : ByteArray × List Int) : Option (ByteArray × ByteArray × Bool × Nat) :=
 ((if (V.seq (⟨#[103,114,111,117,112]⟩ : ByteArray) r.1) = true then some ((V.seq (⟨#[119]⟩ : ByteArray) (⟨#[]⟩ : ByteArray)) == alone) else some false).bind fun c =>
 if c = true then
  some ((⟨#[103,114,111,117,112]⟩ : ByteArray),(⟨#[119]⟩ : ByteArray),1)
 else
  some ((⟨#[]⟩ : ByteArray),(⟨#[]⟩ : ByteArray),0)).bind fun j =>
 ((if (V.seq (⟨#[114,101,97,100,121]⟩ : ByteArray) r.1) = true then some ((V.seq (⟨#[]⟩ : ByteArray) (⟨#[]⟩ : ByteArray)) == alone) else some false).bind fun c2 =>
 if c2 = true then
  some ((⟨#[114,101,97,100,121]⟩ : ByteArray),(⟨#[]⟩ : ByteArray),2)
 else
  some (j.1,j.2.1,j.2.2)).bind fun j2 =>
 ((if (V.seq (⟨#[104,97,115]⟩ : ByteArray) r.1) = true then some ((V.seq (⟨#[109,112,112,110,110]⟩ : ByteArray) (⟨#[]⟩ : ByteArray)) == alone) else some false).bind fun c3 =>
 if c3 = true then
  some ((⟨#[104,97,115]⟩ : ByteArray),(⟨#[109,112,112,110,110]⟩ : ByteArray),3)
 else
  some (j2.1,j2.2.1,j2.2.2)).bind fun j3 =>
 ((if (V.seq (⟨#[108,97,98,101,108]⟩ : ByteArray) r.1) = true then some ((V.seq (⟨#[119,97]⟩ : ByteArray) (⟨#[]⟩ : ByteArray)) == alone) else some false).bind fun c4 =>
 if c4 = true then
  some ((⟨#[108,97,98,101,108]⟩ : ByteArray),(⟨#[119,97]⟩ : ByteArray),true,4)
 else
  some (j3.1,j3.2.1,false,j3.2.2)).bind fun j4 =>
 ((if (V.seq (⟨#[116,97,105,110,116]⟩ : ByteArray) r.1) = true then some ((V.seq (⟨#[119,97,101]⟩ : ByteArray) (⟨#[]⟩ : ByteArray)) == alone) else some false).bind fun c5 =>
 if c5 = true then
  some ((⟨#[116,97,105,110,116]⟩ : ByteArray),(⟨#[119,97,101]⟩ : ByteArray),true,5)
 else
  some (j4.1,j4.2.1,j4.2.2.1,j4.2.2.2)).bind fun j5 =>
 some j5
def mrest (r_ : T_spec_reader) (x : T_api_Machine) (x2 : T_api_Node) (r : ByteArray × List Int) (j5 : ByteArray × ByteArray × Bool × Nat) : Option (T_spec_reader × T_api_Machine) :=
 if ((V.seq j5.1 (⟨#[]⟩ : ByteArray)) || ((decide (((V.mg (V.mp r_.had r.1 (i64.wrap (((V.mg r_.had r.1).getD 0) + 1))) r.1).getD 0) > 1)) && (!j5.2.2.1))) = true then
  (spec_reader_fail_x (⟨r_.l,(),(V.mp r_.had r.1 (i64.wrap (((V.mg r_.had r.1).getD 0) + 1))),r_.e,r_.at_⟩ : T_spec_reader) x 13 x2.At).bind fun r2 =>
  some (r2,x)
 else
  ((if (decide ((j5.2.1.size : Int) > 0)) = true then (V.gi j5.2.1 (i64.wrap ((j5.2.1.size : Int) - 1))).bind fun v =>
  some (v == 43) else some false).bind fun c6 =>
  if c6 = true then
   (V.ss j5.2.1 none (some (i64.wrap ((j5.2.1.size : Int) - 1)))).bind fun v2 =>
   (spec_reader_field_x.l1 r FU v2).bind fun says52 =>
   some says52
  else
   some j5.2.1).bind fun says2 =>
  if ((r.2.length : Int) != (says2.size : Int)) = true then
   (spec_reader_fail_x (⟨r_.l,(),(V.mp r_.had r.1 (i64.wrap (((V.mg r_.had r.1).getD 0) + 1))),r_.e,r_.at_⟩ : T_spec_reader) x 12 x2.At).bind fun r3 =>
   some (r3,x)
  else
   (spec_reader_field_x.l2 r_ x r says2 r.2 0 ([] : List I_any20)).bind fun o8 =>
   o8.on fun x102 =>
   if j5.2.2.2 = 1 then
    (spec_text_1_x x102 x).bind fun r6 =>
    some ((⟨r_.l,(),(V.mp r_.had r.1 (i64.wrap (((V.mg r_.had r.1).getD 0) + 1))),r_.e,r_.at_⟩ : T_spec_reader),r6)
   else
   if j5.2.2.2 = 2 then
    (spec_flag_1_x_x_x_x x102 x).bind fun r7 =>
    some ((⟨r_.l,(),(V.mp r_.had r.1 (i64.wrap (((V.mg r_.had r.1).getD 0) + 1))),r_.e,r_.at_⟩ : T_spec_reader),r7)
   else
   if j5.2.2.2 = 3 then
    (spec_common_1 x102 x).bind fun r8 =>
    some ((⟨r_.l,(),(V.mp r_.had r.1 (i64.wrap (((V.mg r_.had r.1).getD 0) + 1))),r_.e,r_.at_⟩ : T_spec_reader),r8)
   else
   if j5.2.2.2 = 4 then
    (spec_pair_1_x_x_x_x x102 x).bind fun r9 =>
    some ((⟨r_.l,(),(V.mp r_.had r.1 (i64.wrap (((V.mg r_.had r.1).getD 0) + 1))),r_.e,r_.at_⟩ : T_spec_reader),r9)
   else
   if j5.2.2.2 = 5 then
    (spec_common_2 x102 x).bind fun r10 =>
    some ((⟨r_.l,(),(V.mp r_.had r.1 (i64.wrap (((V.mg r_.had r.1).getD 0) + 1))),r_.e,r_.at_⟩ : T_spec_reader),r10)
   else
    none
theorem mfield {r : T_spec_reader} {x : T_api_Machine} {i : Int} {y : T_api_Node} {q : ByteArray × List Int} {alone : Bool} (hg : V.gl r.l i = some y) (hk : (y.Kind == 3) = alone) (hh : spec_reader_head_x r x i = some q) : spec_reader_field_x r x i = (mlook alone q).bind fun j =>mrest r x y q j:=by
  unfold spec_reader_field_x mlook mrest
  rw [hg,hh]
  simp only [Option.bind_some,hg,hk,Option.bind_assoc]
def mput (k : Nat) (v : List I_any20) (x : T_api_Machine) : Option T_api_Machine :=
 if k = 1 then spec_text_1_x v x else
 if k = 2 then spec_flag_1_x_x_x_x v x else
 if k = 3 then spec_common_1 v x else
 if k = 4 then spec_pair_1_x_x_x_x v x else
 if k = 5 then spec_common_2 v x else
 none
theorem ml2 {r : T_spec_reader} {x : T_api_Machine} {q : ByteArray × List Int} {says : ByteArray} : ∀ {k : Nat} {ps : List Int} {vs : List I_any20} (acc : List I_any20),Vk r.l says k ps vs→acc.length + vs.length≤1000000→spec_reader_field_x.l2 r x q says ps k acc = some (Out.go (acc++vs)):=by
  intro k ps vs acc h
  induction h generalizing acc with
  | nil =>intro _; rw [spec_reader_field_x.l2]; simp
  | @cons k p c ps v vs y h hc hv hr ih =>
    intro hl
    simp only [List.length_cons] at hl
    rw [spec_reader_field_x.l2]
    simp only [h,Option.bind_some,hc,hv]
    rw [if_neg (by decide),ap16 (by omega)]
    simp only [Option.bind_some]
    rw [ih _ (by simp; omega)]
    simp
theorem mrest_ok {r : T_spec_reader} {x : T_api_Machine} {y : T_api_Node} {n nm says : ByteArray} {many : Bool} {k : Nat} {ks : List Int} {vs : List I_any20} (h1 : V.seq nm (⟨#[]⟩ : ByteArray) = false) (h2 : many = true∨V.mg r.had n = none)
    (h3 : says.size = 0∨0 < says.size∧∃ c,V.gi says (i64.wrap ((says.size : Int) - 1)) = some c∧c≠43) (hv : Vk r.l says 0 ks vs) (h4 : vs.length = says.size) (hl : vs.length≤1000000) : mrest r x y (n,ks) (nm,says,many,k) = (mput k vs x).bind fun z =>some (bump r n,z):=by
  have hk:=hv.len
  unfold mrest mput bump
  rw [if_neg (by
    rw [h1]
    rcases h2 with rfl | h2
    · simp
    · rw [mg_mp,if_pos rfl,h2]; simp [show i64.wrap 1 = 1 from rfl])]
  dsimp only
  have hs : (if (decide ((says.size : Int) > 0)) = true then (V.gi says (i64.wrap ((says.size : Int) - 1))).bind fun v =>some (v == 43) else some false) = some false:=by
    rcases h3 with h3 | ⟨h3,c,h5,h6⟩
    · rw [if_neg (by simp only [decide_eq_true_eq]; omega)]
    · rw [if_pos (by simp only [decide_eq_true_eq]; omega),h5]; simp [h6]
  rw [hs]
  simp only [Option.bind_some]
  rw [if_neg (by simp)]
  simp only [Option.bind_some]
  rw [if_neg (by simp; omega),ml2 [] hv (by simpa using hl)]
  simp only [Option.bind_some,Out.on,List.nil_append]
  repeat' (first | rfl | split)
theorem had_bump {r : T_spec_reader} {n k : ByteArray} (h : k≠n) : V.mg (bump r n).had k = V.mg r.had k:=by
  unfold bump
  simp only
  rw [mg_mp,if_neg h]
theorem seqf {a : ByteArray} (h : a≠⟨#[]⟩) : V.seq a (⟨#[]⟩ : ByteArray) = false:=by
  rw [← Bool.not_eq_true,seq_nil]; exact h
def nGroup : ByteArray:=⟨#[103,114,111,117,112]⟩
def nReady : ByteArray:=⟨#[114,101,97,100,121]⟩
def nHas : ByteArray:=⟨#[104,97,115]⟩
def nLabel : ByteArray:=⟨#[108,97,98,101,108]⟩
def nTaint : ByteArray:=⟨#[116,97,105,110,116]⟩
theorem ml_group (ks : List Int) : mlook false (nGroup,ks) = some (nGroup,⟨#[119]⟩,false,1):=by kernel_rfl
theorem ml_ready (ks : List Int) : mlook true (nReady,ks) = some (nReady,⟨#[]⟩,false,2):=by kernel_rfl
theorem ml_has (ks : List Int) : mlook false (nHas,ks) = some (nHas,⟨#[109,112,112,110,110]⟩,false,3):=by kernel_rfl
theorem ml_label (ks : List Int) : mlook false (nLabel,ks) = some (nLabel,⟨#[119,97]⟩,true,4):=by kernel_rfl
theorem ml_taint (ks : List Int) : mlook false (nTaint,ks) = some (nTaint,⟨#[119,97,101]⟩,true,5):=by kernel_rfl
theorem Vn.one {l : List T_api_Node} {ks : List Int} {v : ByteArray} {vs : List ByteArray} (h : Vn l ks (v :: vs)) : ∃ p ps y,ks = p :: ps∧V.gl l p = some y∧y.Kind = kA v∧y.Text = v∧Vn l ps vs:=by
  cases h with
  | cons h1 h2 h3 h4 =>exact ⟨_,_,_,rfl,h1,h2,h3,h4⟩
theorem Vn.non {l : List T_api_Node} {ks : List Int} (h : Vn l ks []) : ks = []:=by cases h; rfl
theorem mf_group {l : List T_api_Node} {r : T_spec_reader} {x : T_api_Machine} {p : Int} {ks : List Int} {g : ByteArray} (h : FA l p nGroup false ks [g]) (hr : r.l = l) (hg : g≠⟨#[]⟩) (hh : V.mg r.had nGroup = none) :
    spec_reader_field_x r x p = some (bump r nGroup,⟨x.Name,g,x.Has,x.Labels,x.Taints,x.Ready⟩):=by
  obtain ⟨y,h1,h2⟩:=h.node
  subst hr
  obtain ⟨p1,ps,z,rfl,e1,e2,e3,e4⟩:=h.vals.one
  obtain rfl:=e4.non
  rw [mfield h1 h2 (h.head r x rfl),ml_group]
  simp only [Option.bind_some]
  rw [mrest_ok (vs:=[.c9 g]) (seqf (by decide)) (.inr hh) (.inr ⟨by decide,119,rfl,by decide⟩) (.cons (c:=119) e1 rfl (by rw [value_w (by rw [e2,kA3 hg]) (.inl rfl),e3]) .nil) rfl (by simp)]
  rfl
theorem mf_ready {l : List T_api_Node} {r : T_spec_reader} {x : T_api_Machine} {p : Int} (h : FA l p nReady true [] []) (hr : r.l = l) (hh : V.mg r.had nReady = none) :
    spec_reader_field_x r x p = some (bump r nReady,⟨x.Name,x.Group,x.Has,x.Labels,x.Taints,true⟩):=by
  obtain ⟨y,h1,h2⟩:=h.node
  subst hr
  rw [mfield h1 h2 (h.head r x rfl),ml_ready]
  simp only [Option.bind_some]
  rw [mrest_ok (vs:=[]) (seqf (by decide)) (.inr hh) (.inl rfl) .nil rfl (by simp)]
  rfl
theorem mf_has {l : List T_api_Node} {r : T_spec_reader} {x : T_api_Machine} {p : Int} {ks : List Int} {a b c d e : Nat} (h : FA l p nHas false ks [milliB a,memB b,memB c,numB d,numB e]) (hr : r.l = l) (hh : V.mg r.had nHas = none)
    (ha : a≤1125899906842624) (hb : b≤1125899906842624) (hc : c≤1125899906842624) (hd : d≤1125899906842624) (he : e≤1125899906842624) :
    spec_reader_field_x r x p = some (bump r nHas,⟨x.Name,x.Group,⟨a,b,c,d,e⟩,x.Labels,x.Taints,x.Ready⟩):=by
  obtain ⟨y,h1,h2⟩:=h.node
  subst hr
  obtain ⟨p1,q1,z1,rfl,e1,k1,t1,w1⟩:=h.vals.one
  obtain ⟨p2,q2,z2,rfl,e2,k2,t2,w2⟩:=w1.one
  obtain ⟨p3,q3,z3,rfl,e3,k3,t3,w3⟩:=w2.one
  obtain ⟨p4,q4,z4,rfl,e4,k4,t4,w4⟩:=w3.one
  obtain ⟨p5,q5,z5,rfl,e5,k5,t5,w5⟩:=w4.one
  obtain rfl:=w5.non
  rw [mfield h1 h2 (h.head r x rfl),ml_has]
  simp only [Option.bind_some]
  rw [mrest_ok (vs:=[.c3 a,.c3 b,.c3 c,.c3 d,.c3 e]) (seqf (by decide)) (.inr hh) (.inr ⟨by decide,110,rfl,by decide⟩)
    (.cons (c:=109) e1 rfl (value_m (by rw [k1,kA3 (milli_ne _)]) t1 ha) (.cons (c:=112) e2 rfl (value_p (by rw [k2,kA3 (mem_ne _)]) t2 hb) (.cons (c:=112) e3 rfl (value_p (by rw [k3,kA3 (mem_ne _)]) t3 hc) (.cons (c:=110) e4 rfl (value_n' (by rw [k4,kA3 (num_ne _)]) t4 hd) (.cons (c:=110) e5 rfl (value_n' (by rw [k5,kA3 (num_ne _)]) t5 he) .nil))))) rfl (by simp)]
  rfl
theorem mf_label {l : List T_api_Node} {r : T_spec_reader} {x : T_api_Machine} {p : Int} {ks : List Int} {a b : ByteArray} (h : FA l p nLabel false ks [a,b]) (hr : r.l = l) (ha : a≠⟨#[]⟩) (hx : x.Labels.length≤1000) :
    spec_reader_field_x r x p = some (bump r nLabel,⟨x.Name,x.Group,x.Has,x.Labels++[⟨a,b⟩],x.Taints,x.Ready⟩):=by
  obtain ⟨y,h1,h2⟩:=h.node
  subst hr
  obtain ⟨p1,q1,z1,rfl,e1,k1,t1,w1⟩:=h.vals.one
  obtain ⟨p2,q2,z2,rfl,e2,k2,t2,w2⟩:=w1.one
  obtain rfl:=w2.non
  rw [mfield h1 h2 (h.head r x rfl),ml_label]
  simp only [Option.bind_some]
  rw [mrest_ok (vs:=[.c9 a,.c9 b]) (seqf (by decide)) (.inl rfl) (.inr ⟨by decide,97,rfl,by decide⟩)
    (.cons (c:=119) e1 rfl (by rw [value_w (by rw [k1,kA3 ha]) (.inl rfl),t1]) (.cons (c:=97) e2 rfl (value_a k2 t2 (.inl rfl)) .nil)) rfl (by simp)]
  have hap : V.ap 32 x.Labels [(⟨a,b⟩ : T_api_Label)] = some (x.Labels++[⟨a,b⟩]):=by
    unfold V.ap
    rw [if_pos ⟨by simp only [List.length_cons,List.length_nil]; unfold maxLen; omega,by simp only [List.length_cons,List.length_nil]; omega⟩]
  show (spec_pair_1_x_x_x_x [.c9 a,.c9 b] x).bind _ = _
  have : spec_pair_1_x_x_x_x [.c9 a,.c9 b] x = (V.ap 32 x.Labels [(⟨a,b⟩ : T_api_Label)]).bind fun l =>some (⟨x.Name,x.Group,x.Has,l,x.Taints,x.Ready⟩ : T_api_Machine):=rfl
  rw [this,hap]
  rfl
theorem mf_taint {l : List T_api_Node} {r : T_spec_reader} {x : T_api_Machine} {p : Int} {ks : List Int} {a b : ByteArray} {k : Nat} (h : FA l p nTaint false ks [a,b,effT k]) (hr : r.l = l) (ha : a≠⟨#[]⟩) (hk : k≤3) (hx : x.Taints.length≤1000) :
    spec_reader_field_x r x p = some (bump r nTaint,⟨x.Name,x.Group,x.Has,x.Labels,x.Taints++[⟨a,b,k⟩],x.Ready⟩):=by
  obtain ⟨y,h1,h2⟩:=h.node
  subst hr
  obtain ⟨p1,q1,z1,rfl,e1,k1,t1,w1⟩:=h.vals.one
  obtain ⟨p2,q2,z2,rfl,e2,k2,t2,w2⟩:=w1.one
  obtain ⟨p3,q3,z3,rfl,e3,k3,t3,w3⟩:=w2.one
  obtain rfl:=w3.non
  rw [mfield h1 h2 (h.head r x rfl),ml_taint]
  simp only [Option.bind_some]
  rw [mrest_ok (vs:=[.c9 a,.c9 b,.c3 k]) (seqf (by decide)) (.inl rfl) (.inr ⟨by decide,101,rfl,by decide⟩)
    (.cons (c:=119) e1 rfl (by rw [value_w (by rw [k1,kA3 ha]) (.inl rfl),t1]) (.cons (c:=97) e2 rfl (value_a k2 t2 (.inl rfl)) (.cons (c:=101) e3 rfl (value_e hk (by rw [k3,kA3 (eff_ne _)]) t3) .nil))) rfl (by simp)]
  have hap : V.ap 40 x.Taints [(⟨a,b,(k : Int)⟩ : T_api_Taint)] = some (x.Taints++[⟨a,b,k⟩]):=by
    unfold V.ap
    rw [if_pos ⟨by simp only [List.length_cons,List.length_nil]; unfold maxLen; omega,by simp only [List.length_cons,List.length_nil]; omega⟩]
  show (spec_common_2 [.c9 a,.c9 b,.c3 k] x).bind _ = _
  have : spec_common_2 [.c9 a,.c9 b,.c3 (k : Int)] x = (V.ap 40 x.Taints [(⟨a,b,(k : Int)⟩ : T_api_Taint)]).bind fun l =>some (⟨x.Name,x.Group,x.Has,x.Labels,l,x.Ready⟩ : T_api_Machine):=rfl
  rw [this,hap]
  rfl
end Go.Proofs.YtkondhigbbgidaaGreat.M
/-
  Plain laws of a machine's form: what is read of it. Own text.
-/
namespace Go.Proofs.YtkondhigbbgidaaGreat.M
open Go Go.Proofs Go.Proofs.YtkondhigbbgidaaGreat.V
open Go.IntKind (i64)
set_option linter.unusedVariables false
set_option linter.unusedSimpArgs false
set_option maxRecDepth 20000
def atIt (l : List T_api_Node) (p : Int) : It→Prop
 | .flag n =>FA l p n true [] []
 | .li n vs =>∃ ks,FA l p n false ks vs
theorem it_at (it : It) {φ r : Fo} (h : φ.strip = itF it r) {pre post l : List T_api_Node} (hl : l = pre++(φ.flat++post)) (hll : l.length≤1000000) : ∃ (r' : Fo) (pre' : List T_api_Node),r'.strip = r∧φ.cnt = r'.cnt + 1∧posF pre.length φ = (pre.length : Int) :: posF pre'.length r'∧l = pre'++(r'.flat++post)∧atIt l pre.length it:=by
 cases it with
 | flag n =>
  obtain ⟨r',h1,h2,h3,⟨pre',h4,h5⟩,h6⟩:=flag_at h hl
  exact ⟨r',pre',h1,h2,by rw [h4]; exact h3,h5,h6⟩
 | li n vs =>
  obtain ⟨r',ks,h1,h2,h3,⟨pre',h4,h5⟩,h6⟩:=li_at h hl hll
  exact ⟨r',pre',h1,h2,by rw [h4]; exact h3,h5,ks,h6⟩
inductive Steps : List It→T_spec_reader→T_api_Machine→T_spec_reader→T_api_Machine→Prop
 | nil (r : T_spec_reader) (x : T_api_Machine) : Steps [] r x r x
 | cons {it : It} {its : List It} {r r1 r2 : T_spec_reader} {x x1 x2 : T_api_Machine} (h : ∀ p,atIt r.l p it→spec_reader_field_x r x p = some (r1,x1)) (hl : r1.l = r.l) (he : r1.e = 0) (t : Steps its r1 x1 r2 x2) : Steps (it :: its) r x r2 x2
theorem Steps.append {a b : List It} {r r1 r2 : T_spec_reader} {x x1 x2 : T_api_Machine} (h : Steps a r x r1 x1) (k : Steps b r1 x1 r2 x2) : Steps (a++b) r x r2 x2:=by
 induction h with
 | nil =>exact k
 | cons h hl he _ ih =>exact .cons h hl he (ih k)
theorem Steps.one {it : It} {r r1 : T_spec_reader} {x x1 : T_api_Machine} (h : ∀ p,atIt r.l p it→spec_reader_field_x r x p = some (r1,x1)) (hl : r1.l = r.l) (he : r1.e = 0) : Steps [it] r x r1 x1:=.cons h hl he (.nil _ _)
theorem steps_l1 {its : List It} {r r2 : T_spec_reader} {x x2 : T_api_Machine} (h : Steps its r x r2 x2) : ∀ (φ : Fo) (pre post : List T_api_Node) (k : Nat),φ.strip = itsF its→r.l = pre++(φ.flat++post)→r.l.length≤1000000 →
  spec_form_x.l1 (posF pre.length φ) k r x = some (Out.go x2):=by
 induction h with
 | nil r x =>
  intro φ pre post k hs _ _
  rw [strip_nil hs]
  rfl
 | @cons it its r r1 r2 x x1 x2 h hl he t ih =>
  intro φ pre post k hs hr hll
  obtain ⟨r',pre',h1,h2,h3,h4,h5⟩:=it_at it hs hr hll
  rw [h3,spec_form_x.l1,h _ h5]
  simp only [Option.bind_some]
  rw [he,if_neg (by decide)]
  exact ih r' pre' post (k + 1) h1 (by rw [hl]; exact h4) (by rw [hl]; exact hll)
theorem mform {kind name : ByteArray} {its : List It} {φ : Fo} (hs : φ.strip = formF kind name its) (hl : φ.flat.length≤1000000) (hk : kind≠⟨#[]⟩) {r2 : T_spec_reader} {x x2 : T_api_Machine} (h : Steps its ⟨φ.flat,(),[],0,0⟩ x r2 x2) :
  spec_form_x φ.flat 0 kind true x = some (name,0,0,x2):=by
 obtain ⟨a,c,e,rfl,h1,h2⟩:=strip_nd hs
 obtain rfl:=strip_nil h2
 obtain ⟨a1,c1,e1,rfl,h3,h4⟩:=strip_nd h1
 obtain rfl:=strip_nil h3
 obtain ⟨a2,c2,e2,rfl,h5,h6⟩:=strip_nd h4
 obtain rfl:=strip_nil h5
 obtain ⟨l,hL⟩ : ∃ l,l = (Fo.nd 5 ⟨#[]⟩ a (Fo.nd 3 kind a1 .nil (Fo.nd (kA name) name a2 .nil e2)) .nil).flat:=⟨_,rfl⟩
 have el : l = (⟨5,⟨#[]⟩,(((Fo.nd 3 kind a1 .nil (Fo.nd (kA name) name a2 .nil e2)).cnt : Nat) : Int),a⟩ : T_api_Node) :: ((⟨3,kind,((Fo.nil.cnt : Nat) : Int),a1⟩ : T_api_Node) :: ((⟨kA name,name,((Fo.nil.cnt : Nat) : Int),a2⟩ : T_api_Node) :: e2.flat)):=by rw [hL]; simp [Fo.flat]
 rw [← hL] at hl h ⊢
 have g0 : V.gl l (0 : Int) = some ⟨5,⟨#[]⟩,(((Fo.nd 3 kind a1 .nil (Fo.nd (kA name) name a2 .nil e2)).cnt : Nat) : Int),a⟩:=by rw [el]; rfl
 have g1 : V.gl l ((1 : Nat) : Int) = some ⟨3,kind,((Fo.nil.cnt : Nat) : Int),a1⟩:=by rw [el]; rfl
 have g2 : V.gl l ((2 : Nat) : Int) = some ⟨kA name,name,((Fo.nil.cnt : Nat) : Int),a2⟩:=by rw [el]; rfl
 have hE:=End_tree (k:=5) (s:=⟨#[]⟩) (a:=a) (c:=Fo.nd 3 kind a1 .nil (Fo.nd (kA name) name a2 .nil e2)) (pre:=[]) (post:=[]) (l:=l) (by rw [hL]; simp) hl
 have hK:=Kids_flat (k:=5) (s:=⟨#[]⟩) (a:=a) (c:=Fo.nd 3 kind a1 .nil (Fo.nd (kA name) name a2 .nil e2)) (pre:=[]) (post:=[]) (l:=l) (by rw [hL]; simp) hl
 have hpos : posF ([] : List T_api_Node).length.succ (Fo.nd 3 kind a1 .nil (Fo.nd (kA name) name a2 .nil e2)) = ((1 : Nat) : Int) :: ((2 : Nat) : Int) :: posF 3 e2:=by simp [posF,Fo.flat]
 have hloop:=steps_l1 h e2 [(⟨5,⟨#[]⟩,(((Fo.nd 3 kind a1 .nil (Fo.nd (kA name) name a2 .nil e2)).cnt : Nat) : Int),a⟩ : T_api_Node),(⟨3,kind,((Fo.nil.cnt : Nat) : Int),a1⟩ : T_api_Node),(⟨kA name,name,((Fo.nil.cnt : Nat) : Int),a2⟩ : T_api_Node)] [] 0 h6 (by rw [el]; simp) hl
 unfold spec_form_x
 rw [show ((([] : List T_api_Node).length : Nat) : Int) = (0 : Int) from rfl] at hE hK
 rw [hE]
 simp only [Option.bind_some]
 rw [if_neg (by simp; omega),hK,hpos]
 simp only [Option.bind_some]
 rw [g0]
 simp only [Option.bind_some]
 have hpl:=posF_len e2 3
 rw [if_neg (by simp only [List.length_cons,bne_self_eq_false,Bool.false_or,decide_eq_true_eq]; omega)]
 rw [show V.gl (((1 : Nat) : Int) :: ((2 : Nat) : Int) :: posF 3 e2) (0 : Int) = some ((1 : Nat) : Int) from rfl]
 simp only [Option.bind_some]
 rw [g1]
 simp only [Option.bind_some]
 rw [show V.gl (((1 : Nat) : Int) :: ((2 : Nat) : Int) :: posF 3 e2) (1 : Int) = some ((2 : Nat) : Int) from rfl]
 simp only [Option.bind_some]
 rw [g2]
 simp only [Option.bind_some]
 have hseq : V.seq kind kind = true:=by rw [seq_iff]; simp
 rw [if_neg]
 ·have hsl : V.sl (((1 : Nat) : Int) :: ((2 : Nat) : Int) :: posF 3 e2) (some 2) none = some (posF 3 e2):=by
   unfold V.sl
   rw [if_pos ⟨⟨by simp,by simp⟩,by simp [lowN,highN],by simp [highN]⟩]
   simp [lowN,highN]
  rw [hsl]
  simp only [Option.bind_some]
  simp only [List.length_cons,List.length_nil] at hloop
  rw [hloop]
  rfl
 ·rw [hseq]
  unfold kA
  split
  ·rename_i en; subst en; rw [(seq_nil _).2 rfl]; decide
  ·simp
def labI (x : T_api_Label) : It:=.li nLabel [x.Key,x.Val]
def taiI (x : T_api_Taint) : It:=.li nTaint [x.Key,x.Val,effT x.Effect.toNat]
theorem labs_steps : ∀ (L : List T_api_Label) (r : T_spec_reader) (x : T_api_Machine),(∀ a,a ∈ L→a.Key≠⟨#[]⟩)→r.e = 0→x.Labels.length + L.length≤1000 →
  ∃ r',Steps (L.map labI) r x r' ⟨x.Name,x.Group,x.Has,x.Labels++L,x.Taints,x.Ready⟩∧r'.l = r.l∧r'.e = 0∧∀ n,n≠nLabel→V.mg r'.had n = V.mg r.had n
 | [],r,x,_,he,_ =>⟨r,by rw [List.append_nil]; exact .nil _ _,rfl,he,fun _ _ =>rfl⟩
 | a :: L,r,x,ha,he,hl =>by
  simp only [List.length_cons] at hl
  obtain ⟨r',h1,h2,h3,h4⟩:=labs_steps L (bump r nLabel) ⟨x.Name,x.Group,x.Has,x.Labels++[a],x.Taints,x.Ready⟩ (fun b hb =>ha b (List.mem_cons_of_mem _ hb)) he (by simp; omega)
  refine ⟨r',.cons (r1:=bump r nLabel) (fun p ⟨ks,hp⟩ =>mf_label hp rfl (ha a (List.mem_cons_self ..)) (by omega)) rfl he ?_,h2,h3,fun n hn =>by rw [h4 n hn,had_bump hn]⟩
  simpa using h1
theorem tais_steps : ∀ (L : List T_api_Taint) (r : T_spec_reader) (x : T_api_Machine),(∀ a,a ∈ L→a.Key≠⟨#[]⟩∧0≤a.Effect∧a.Effect≤3)→r.e = 0→x.Taints.length + L.length≤1000 →
  ∃ r',Steps (L.map taiI) r x r' ⟨x.Name,x.Group,x.Has,x.Labels,x.Taints++L,x.Ready⟩∧r'.l = r.l∧r'.e = 0∧∀ n,n≠nTaint→V.mg r'.had n = V.mg r.had n
 | [],r,x,_,he,_ =>⟨r,by rw [List.append_nil]; exact .nil _ _,rfl,he,fun _ _ =>rfl⟩
 | a :: L,r,x,ha,he,hl =>by
  simp only [List.length_cons] at hl
  obtain ⟨a1,a2,a3⟩:=ha a (List.mem_cons_self ..)
  have ea : (⟨a.Key,a.Val,(a.Effect.toNat : Int)⟩ : T_api_Taint) = a:=by
   have : (a.Effect.toNat : Int) = a.Effect:=by omega
   rw [this]
  obtain ⟨r',h1,h2,h3,h4⟩:=tais_steps L (bump r nTaint) ⟨x.Name,x.Group,x.Has,x.Labels,x.Taints++[a],x.Ready⟩ (fun b hb =>ha b (List.mem_cons_of_mem _ hb)) he (by simp; omega)
  refine ⟨r',.cons (r1:=bump r nTaint) (fun p ⟨ks,hp⟩ =>by have:=mf_taint (r:=r) (x:=x) hp rfl a1 (by omega) (by omega); rw [ea] at this; exact this) rfl he ?_,h2,h3,fun n hn =>by rw [h4 n hn,had_bump hn]⟩
  simpa using h1
structure RR (x : T_api_Res) : Prop where
 cpu : 0≤x.Cpu∧x.Cpu≤1125899906842624
 mem : 0≤x.Mem∧x.Mem≤1125899906842624
 disk : 0≤x.Disk∧x.Disk≤1125899906842624
 pods : 0≤x.Pods∧x.Pods≤1125899906842624
 dev : 0≤x.Dev∧x.Dev≤1125899906842624
def hasI (x : T_api_Res) : It:=.li nHas [milliB x.Cpu.toNat,memB x.Mem.toNat,memB x.Disk.toNat,numB x.Pods.toNat,numB x.Dev.toNat]
def restI (m : T_api_Machine) : List It:=[hasI m.Has]++(m.Labels.map labI++m.Taints.map taiI)
theorem rest_steps {m : T_api_Machine} (hr : RR m.Has) (hla : ∀ a,a ∈ m.Labels→a.Key≠⟨#[]⟩) (hta : ∀ a,a ∈ m.Taints→a.Key≠⟨#[]⟩∧0≤a.Effect∧a.Effect≤3) (hl : m.Labels.length≤900) (ht : m.Taints.length≤900)
  {r : T_spec_reader} {x : T_api_Machine} (he : r.e = 0) (hx : x.Labels = []) (hx' : x.Taints = []) (hh : V.mg r.had nHas = none) :
  ∃ r',Steps (restI m) r x r' ⟨x.Name,x.Group,m.Has,m.Labels,m.Taints,x.Ready⟩∧r'.l = r.l∧r'.e = 0∧V.mg r'.had nReady = V.mg r.had nReady:=by
 have eh : (⟨(m.Has.Cpu.toNat : Int),(m.Has.Mem.toNat : Int),(m.Has.Disk.toNat : Int),(m.Has.Pods.toNat : Int),(m.Has.Dev.toNat : Int)⟩ : T_api_Res) = m.Has:=by
  have h1:=hr.cpu; have h2:=hr.mem; have h3:=hr.disk; have h4:=hr.pods; have h5:=hr.dev
  rw [show (m.Has.Cpu.toNat : Int) = m.Has.Cpu by omega,show (m.Has.Mem.toNat : Int) = m.Has.Mem by omega,show (m.Has.Disk.toNat : Int) = m.Has.Disk by omega,show (m.Has.Pods.toNat : Int) = m.Has.Pods by omega,show (m.Has.Dev.toNat : Int) = m.Has.Dev by omega]
 have s1 : Steps [hasI m.Has] r x (bump r nHas) ⟨x.Name,x.Group,m.Has,x.Labels,x.Taints,x.Ready⟩:=.one (fun p ⟨ks,hp⟩ =>by
  have h1:=hr.cpu; have h2:=hr.mem; have h3:=hr.disk; have h4:=hr.pods; have h5:=hr.dev
  have:=mf_has (r:=r) (x:=x) hp rfl hh (by omega) (by omega) (by omega) (by omega) (by omega)
  rw [eh] at this; exact this) rfl he
 obtain ⟨r1,a1,a2,a3,a4⟩:=labs_steps m.Labels (bump r nHas) ⟨x.Name,x.Group,m.Has,x.Labels,x.Taints,x.Ready⟩ hla he (by rw [hx]; simp; omega)
 obtain ⟨r2,b1,b2,b3,b4⟩:=tais_steps m.Taints r1 ⟨x.Name,x.Group,m.Has,x.Labels++m.Labels,x.Taints,x.Ready⟩ hta a3 (by rw [hx']; simp; omega)
 rw [hx,List.nil_append] at a1
 rw [hx,List.nil_append,hx',List.nil_append] at b1
 rw [hx,hx'] at s1
 rw [hx'] at a1
 exact ⟨r2,s1.append (a1.append b1),by rw [b2,a2]; rfl,b3,by rw [b4 _ (by decide),a4 _ (by decide),had_bump (by decide)]⟩
end Go.Proofs.YtkondhigbbgidaaGreat.M
/-
  Plain laws of forms: how the program and the document write them. Own text.
-/
namespace Go.Proofs.YtkondhigbbgidaaGreat.M
open Go Go.Proofs Go.Proofs.YtkondhigbbgidaaGreat.V
open Go.IntKind (i64)
set_option linter.unusedVariables false
set_option linter.unusedSimpArgs false
set_option maxRecDepth 20000
def atB (v : ByteArray) : ByteArray:=if v = ⟨#[]⟩ then ⟨#[34,34]⟩ else v
theorem atB_l (v : ByteArray) : bytesL (atB v) = atL v:=by unfold atB atL; split<;>rfl
theorem atB_size (v : ByteArray) : (atB v).size≤v.size + 2:=by
 unfold atB; split
 ·exact Nat.le_add_left 2 _
 ·omega
theorem atL_len (v : ByteArray) : (atL v).length = (atB v).size:=by rw [← atB_l,bytesS]
theorem atB_num (n : Nat) : atB (numB n) = numB n:=by unfold atB; rw [if_neg (num_ne n)]
inductive Sh : I_any20→ByteArray→Prop
 | s (v : ByteArray) : Sh (.c9 v) v
 | n {k : Nat} (h : k≤1125899906842624) : Sh (.c3 (k : Int)) (numB k)
theorem shown_ok {x : I_any20} {v : ByteArray} (h : Sh x v) : spec_shown FU x = some (atB v):=by
 cases h with
 | s v =>
  obtain ⟨f,hf⟩ : ∃ f,FU = f + 1:=⟨FU - 1,by unfold FU; omega⟩
  rw [hf,spec_shown,if_neg (show ¬ (!(I_any20.c9 v).is9) = true by simp [I_any20.is9]),show (I_any20.c9 v).as9 = v from rfl]
  unfold atB
  by_cases e : v = ⟨#[]⟩
  ·rw [if_pos ((seq_nil _).2 e),if_pos e]
  ·rw [if_neg (mt (seq_nil _).1 e),if_neg e]
 | n h =>rw [shown_n h,atB_num]
inductive Shs : List I_any20→List ByteArray→Prop
 | nil : Shs [] []
 | cons {x : I_any20} {v : ByteArray} {xs : List I_any20} {vs : List ByteArray} (h : Sh x v) (t : Shs xs vs) : Shs (x :: xs) (v :: vs)
theorem wlist_l1 {xs : List I_any20} {vs : List ByteArray} (h : Shs xs vs) : ∀ (k : Nat) (w : T_spec_writer),w.s.size + (valsL vs).length≤900000→∃ t,spec_writer_list.l1 xs k w = some ⟨t⟩∧bytesL t = bytesL w.s++valsL vs:=by
 induction h with
 | nil =>intro k w _; exact ⟨w.s,rfl,by simp [valsL]⟩
 | @cons x v xs vs h t ih =>
  intro k w hl
  have hv : valsL (v :: vs) = (32 :: atL v)++valsL vs:=by simp [valsL]
  rw [hv,List.length_append,List.length_cons,atL_len] at hl
  rw [spec_writer_list.l1,shown_ok h]
  simp only [Option.bind_some]
  have s1 : (⟨#[32]⟩ : ByteArray).size = 1:=rfl
  rw [catB (by omega)]
  simp only [Option.bind_some]
  rw [catB (by rw [ByteArray.size_append]; omega)]
  simp only [Option.bind_some]
  obtain ⟨t,t1,t2⟩:=ih (k + 1) ⟨w.s++((⟨#[32]⟩ : ByteArray)++atB v)⟩ (by simp only [ByteArray.size_append]; omega)
  refine ⟨t,t1,?_⟩
  rw [t2,hv]
  simp only [b_cat,atB_l,List.append_assoc]
  rfl
theorem wlist {xs : List I_any20} {vs : List ByteArray} (h : Shs xs vs) (w : T_spec_writer) (n : ByteArray) (hl : w.s.size + (itL (.li n vs)).length≤900000) : ∃ t,spec_writer_list w n xs = some ⟨t⟩∧bytesL t = bytesL w.s++itL (.li n vs):=by
 simp only [itL,List.length_cons,List.length_append,bytesS,List.length_nil] at hl
 unfold spec_writer_list
 have s1 : (⟨#[32,40]⟩ : ByteArray).size = 2:=rfl
 have s2 : (⟨#[41]⟩ : ByteArray).size = 1:=rfl
 rw [catB (by omega)]
 simp only [Option.bind_some]
 rw [catB (by rw [ByteArray.size_append]; omega)]
 simp only [Option.bind_some]
 obtain ⟨t,t1,t2⟩:=wlist_l1 h 0 ⟨w.s++((⟨#[32,40]⟩ : ByteArray)++n)⟩ (by simp only [ByteArray.size_append]; omega)
 rw [t1]
 simp only [Option.bind_some]
 have hsz : t.size = w.s.size + (2 + n.size) + (valsL vs).length:=by rw [← bytesS,t2,List.length_append,bytesS]; simp only [ByteArray.size_append]; omega
 rw [catB (by omega)]
 simp only [Option.bind_some]
 refine ⟨_,rfl,?_⟩
 simp only [b_cat,t2,itL,List.append_assoc]
 rfl
theorem wpairs_l1 (n : ByteArray) : ∀ (L : List T_api_Label) (k : Nat) (w : T_spec_writer),w.s.size + (itsL (L.map fun x =>.li n [x.Key,x.Val])).length≤900000→∃ t,spec_writer_pairs.l1 n L k w = some ⟨t⟩∧bytesL t = bytesL w.s++itsL (L.map fun x =>.li n [x.Key,x.Val])
 | [],k,w,_ =>⟨w.s,rfl,by simp [itsL]⟩
 | x :: L,k,w,hl =>by
  have e : itsL ((x :: L).map fun x =>It.li n [x.Key,x.Val]) = itL (.li n [x.Key,x.Val])++itsL (L.map fun x =>.li n [x.Key,x.Val]):=by simp [itsL]
  rw [e,List.length_append] at hl
  rw [spec_writer_pairs.l1]
  obtain ⟨t,t1,t2⟩:=wlist (.cons (.s x.Key) (.cons (.s x.Val) .nil)) w n (by omega)
  rw [t1]
  simp only [Option.bind_some]
  have hsz : t.size = w.s.size + (itL (.li n [x.Key,x.Val])).length:=by rw [← bytesS,t2,List.length_append,bytesS]
  obtain ⟨u,u1,u2⟩:=wpairs_l1 n L (k + 1) ⟨t⟩ (by show t.size + _≤_; omega)
  exact ⟨u,u1,by rw [u2,e]; simp [t2]⟩
theorem wpairs (n : ByteArray) (L : List T_api_Label) (w : T_spec_writer) (hl : w.s.size + (itsL (L.map fun x =>.li n [x.Key,x.Val])).length≤900000) : ∃ t,spec_writer_pairs w n L = some ⟨t⟩∧bytesL t = bytesL w.s++itsL (L.map fun x =>.li n [x.Key,x.Val]):=by
 obtain ⟨t,t1,t2⟩:=wpairs_l1 n L 0 w hl
 exact ⟨t,by unfold spec_writer_pairs; rw [t1]; rfl,t2⟩
theorem eff_gl {k : Int} (h : 0≤k∧k≤3) : V.gl [(⟨#[97,110,121]⟩ : ByteArray),(⟨#[110,111]⟩ : ByteArray),(⟨#[112,114,101,102,101,114]⟩ : ByteArray),(⟨#[111,117,116]⟩ : ByteArray)] k = some (effT k.toNat):=by
 rcases (by omega : k = 0∨k = 1∨k = 2∨k = 3) with rfl | rfl | rfl | rfl<;>rfl
theorem eff_size (k : Nat) : (effT k).size≤6:=by unfold effT; split<;>decide
theorem wtaints : ∀ (L : List T_api_Taint) (k : Nat) (w : T_spec_writer),(∀ a,a ∈ L→0≤a.Effect∧a.Effect≤3)→w.s.size + (itsL (L.map taiI)).length≤900000→∃ t,spec_writer_rest.l1 L k w = some ⟨t⟩∧bytesL t = bytesL w.s++itsL (L.map taiI)
 | [],k,w,_,_ =>⟨w.s,rfl,by simp [itsL]⟩
 | x :: L,k,w,ha,hl =>by
  have e : itsL ((x :: L).map taiI) = itL (taiI x)++itsL (L.map taiI):=by simp [itsL]
  rw [e,List.length_append] at hl
  rw [spec_writer_rest.l1]
  unfold spec_effects
  simp only [Option.bind_some]
  rw [eff_gl (ha x (List.mem_cons_self ..))]
  simp only [Option.bind_some]
  obtain ⟨t,t1,t2⟩:=wlist (.cons (.s x.Key) (.cons (.s x.Val) (.cons (.s (effT x.Effect.toNat)) .nil))) w nTaint (by unfold taiI at hl; omega)
  rw [show (⟨#[116,97,105,110,116]⟩ : ByteArray) = nTaint from rfl,t1]
  simp only [Option.bind_some]
  have hsz : t.size = w.s.size + (itL (taiI x)).length:=by rw [← bytesS,t2,List.length_append,bytesS]; rfl
  obtain ⟨u,u1,u2⟩:=wtaints L (k + 1) ⟨t⟩ (fun b hb =>ha b (List.mem_cons_of_mem _ hb)) (by show t.size + _≤_; omega)
  exact ⟨u,u1,by rw [u2,e]; simp [t2,taiI]⟩
theorem milli_size {n : Nat} (h : n≤1125899906842624) : (milliB n).size≤17:=by
 unfold milliB; split
 ·have:=numB_size (n:=n / 1000) (by omega); omega
 ·rw [ByteArray.size_append]; have:=numB_size h; have : (ByteArray.mk #[109]).size = 1:=rfl; omega
theorem mem_size {n : Nat} (h : n≤1125899906842624) : (memB n).size≤18:=by
 unfold memB
 have hle : n / kp (kk n)≤n:=Nat.div_le_self ..
 have hus : (unitB (kk n)).size≤2:=by rcases kk_cases n with ⟨e,_⟩ | ⟨e,_⟩ | ⟨e,_⟩ | ⟨e,_⟩ | ⟨e,_⟩<;>rw [e]<;>decide
 rw [ByteArray.size_append]; have:=numB_size (n:=n / kp (kk n)) (by omega); omega
theorem wrest {m : T_api_Machine} (hr : RR m.Has) (hta : ∀ a,a ∈ m.Taints→0≤a.Effect∧a.Effect≤3) (w : T_spec_writer) (hl : w.s.size + (itsL (restI m)).length≤900000) : ∃ t,spec_writer_rest w m = some ⟨t⟩∧bytesL t = bytesL w.s++itsL (restI m):=by
 have e : itsL (restI m) = itL (hasI m.Has)++(itsL (m.Labels.map labI)++itsL (m.Taints.map taiI)):=by simp [itsL,restI]
 rw [e,List.length_append,List.length_append] at hl
 have h1:=hr.cpu; have h2:=hr.mem; have h3:=hr.disk; have h4:=hr.pods; have h5:=hr.dev
 unfold spec_writer_rest
 rw [show m.Has.Cpu = (m.Has.Cpu.toNat : Int) by omega,milli_p (by omega)]
 simp only [Option.bind_some]
 rw [show m.Has.Mem = (m.Has.Mem.toNat : Int) by omega,mem_p (by omega)]
 simp only [Option.bind_some]
 rw [show m.Has.Disk = (m.Has.Disk.toNat : Int) by omega,mem_p (by omega)]
 simp only [Option.bind_some]
 rw [show m.Has.Pods = (m.Has.Pods.toNat : Int) by omega,show m.Has.Dev = (m.Has.Dev.toNat : Int) by omega]
 obtain ⟨t,t1,t2⟩:=wlist (xs:=[.c9 (milliB m.Has.Cpu.toNat),.c9 (memB m.Has.Mem.toNat),.c9 (memB m.Has.Disk.toNat),.c3 (m.Has.Pods.toNat : Int),.c3 (m.Has.Dev.toNat : Int)]) (.cons (.s _) (.cons (.s _) (.cons (.s _) (.cons (.n (by omega)) (.cons (.n (by omega)) .nil))))) w nHas (by unfold hasI at hl; omega)
 rw [show (⟨#[104,97,115]⟩ : ByteArray) = nHas from rfl,t1]
 simp only [Option.bind_some]
 have hsz : t.size = w.s.size + (itL (hasI m.Has)).length:=by rw [← bytesS,t2,List.length_append,bytesS]; rfl
 obtain ⟨u,u1,u2⟩:=wpairs nLabel m.Labels ⟨t⟩ (by show t.size + _≤_; have : itsL (m.Labels.map fun x =>.li nLabel [x.Key,x.Val]) = itsL (m.Labels.map labI):=rfl; rw [this]; omega)
 have u2 : bytesL u = bytesL t++itsL (m.Labels.map labI):=u2
 rw [show (⟨#[108,97,98,101,108]⟩ : ByteArray) = nLabel from rfl,u1]
 simp only [Option.bind_some]
 have husz : u.size = t.size + (itsL (m.Labels.map labI)).length:=by rw [← bytesS,u2,List.length_append,bytesS]
 obtain ⟨z,z1,z2⟩:=wtaints m.Taints 0 ⟨u⟩ hta (by show u.size + _≤_; omega)
 rw [z1]
 refine ⟨z,rfl,?_⟩
 rw [z2,e]
 simp [u2,t2,hasI]
theorem wflag (w : T_spec_writer) (n : ByteArray) (is : Bool) (hl : w.s.size + n.size≤900000) : ∃ t,spec_writer_flag w n is = some ⟨t⟩∧bytesL t = bytesL w.s++itsL (if is = true then [It.flag n] else []):=by
 unfold spec_writer_flag
 have s1 : (⟨#[32]⟩ : ByteArray).size = 1:=rfl
 by_cases h : is = true
 ·rw [if_pos h,if_pos h,catB (by omega)]
  simp only [Option.bind_some]
  rw [catB (by rw [ByteArray.size_append]; omega)]
  refine ⟨_,rfl,?_⟩
  simp only [b_cat,itsL,itL,List.flatMap_cons,List.flatMap_nil,List.append_nil]
  rfl
 ·rw [if_neg h,if_neg h]
  exact ⟨w.s,rfl,by simp [itsL]⟩
def kMachine : ByteArray:=⟨#[109,97,99,104,105,110,101]⟩
def machI (m : T_api_Machine) : List It:=(if m.Group = ⟨#[]⟩ then [] else [It.li nGroup [m.Group]])++(restI m++(if m.Ready = true then [It.flag nReady] else []))
theorem itsL_app (a b : List It) : itsL (a++b) = itsL a++itsL b:=by simp [itsL]
theorem showM_p {m : T_api_Machine} (hR : spec_RightMachine m = some true) (hr : RR m.Has) (hta : ∀ a,a ∈ m.Taints→0≤a.Effect∧a.Effect≤3) (hn : m.Name.size≤300) (hg : m.Group.size≤300) (hl : (itsL (machI m)).length≤800000) :
  ∃ t,spec_ShowMachine m = some t∧bytesL t = formL kMachine m.Name (machI m):=by
 unfold spec_ShowMachine
 rw [hR]
 simp only [Option.bind_some]
 rw [if_neg (by decide),shown_ok (.s m.Name)]
 simp only [Option.bind_some]
 have s1 : (⟨#[40,109,97,99,104,105,110,101,32]⟩ : ByteArray).size = 9:=rfl
 have s2 : (⟨#[41]⟩ : ByteArray).size = 1:=rfl
 have hat:=atB_size m.Name
 rw [catB (by omega)]
 simp only [Option.bind_some]
 obtain ⟨v,hv⟩ : ∃ v,v = (⟨#[40,109,97,99,104,105,110,101,32]⟩ : ByteArray)++atB m.Name:=⟨_,rfl⟩
 have hvs : v.size≤311:=by rw [hv,ByteArray.size_append]; omega
 have hvl : bytesL v = 40 :: (bytesL kMachine++(32 :: atL m.Name)):=by rw [hv,b_cat,atB_l]; rfl
 rw [← hv]
 unfold machI at hl ⊢
 rw [itsL_app,itsL_app,List.length_append,List.length_append] at hl
 have fin : ∀ (w : T_spec_writer),w.s.size + (itsL (restI m)).length≤890000→bytesL w.s = bytesL v++itsL (if m.Group = ⟨#[]⟩ then [] else [It.li nGroup [m.Group]]) →
   ∃ t,((spec_writer_rest w m).bind fun r6 =>(spec_writer_flag r6 (⟨#[114,101,97,100,121]⟩ : ByteArray) m.Ready).bind fun r7 =>(V.cat r7.s (⟨#[41]⟩ : ByteArray)).bind fun v3 =>some v3) = some t∧bytesL t = formL kMachine m.Name ((if m.Group = ⟨#[]⟩ then [] else [It.li nGroup [m.Group]])++(restI m++(if m.Ready = true then [It.flag nReady] else []))):=by
  intro w hw hb
  obtain ⟨t,t1,t2⟩:=wrest hr hta w (by omega)
  rw [t1]
  simp only [Option.bind_some]
  have hts : t.size = w.s.size + (itsL (restI m)).length:=by rw [← bytesS,t2,List.length_append,bytesS]
  obtain ⟨u,u1,u2⟩:=wflag ⟨t⟩ nReady m.Ready (by show t.size + 5≤_; omega)
  rw [show (⟨#[114,101,97,100,121]⟩ : ByteArray) = nReady from rfl,u1]
  simp only [Option.bind_some]
  have hus : u.size≤t.size + 6:=by
   rw [← bytesS,u2,List.length_append,bytesS]
   split
   ·simp [itsL,itL,bytesS]; decide
   ·simp [itsL]
  rw [catB (by omega)]
  refine ⟨_,rfl,?_⟩
  rw [b_cat,u2]
  simp only [t2,hb,hvl,formL,itsL_app]
  simp
  rfl
 by_cases e : m.Group = ⟨#[]⟩
 ·rw [if_neg (by rw [(seq_nil _).2 e]; decide)]
  exact fin ⟨v⟩ (by show v.size + _≤_; omega) (by rw [if_pos e]; simp [itsL])
 ·rw [if_pos (by rw [seqf e]; decide)]
  rw [if_neg e] at hl
  have e1 : itsL [It.li nGroup [m.Group]] = itL (It.li nGroup [m.Group]):=by simp [itsL]
  rw [e1] at hl
  obtain ⟨t,t1,t2⟩:=wlist (.cons (.s m.Group) .nil) ⟨v⟩ nGroup (by show v.size + _≤_; omega)
  rw [show (⟨#[103,114,111,117,112]⟩ : ByteArray) = nGroup from rfl,t1]
  simp only [Option.bind_some]
  have hts : t.size = v.size + (itL (It.li nGroup [m.Group])).length:=by rw [← bytesS,t2,List.length_append,bytesS]
  exact fin ⟨t⟩ (by show t.size + _≤_; omega) (by rw [if_neg e,e1]; exact t2)
end Go.Proofs.YtkondhigbbgidaaGreat.M

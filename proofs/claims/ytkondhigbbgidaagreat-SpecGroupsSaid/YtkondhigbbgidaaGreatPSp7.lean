/-
  Printed by a program of this session out of the loaded functions: models and their proofs. Own text.
-/
import Derived.Test.YtkondhigbbgidaaGreatPSp5
/-
  Plain laws of forms: a form as a forest, and as text. Own text.
-/
namespace Go.Proofs.YtkondhigbbgidaaGreat.M
open Go Go.Proofs Go.Proofs.YtkondhigbbgidaaGreat.V
open Go.IntKind (i64)
set_option linter.unusedVariables false
set_option linter.unusedSimpArgs false
set_option maxRecDepth 20000
inductive It where
 | flag (n : ByteArray)
 | li (n : ByteArray) (vs : List ByteArray)
def kA (v : ByteArray) : Int:=if v = ⟨#[]⟩ then 4 else 3
def valsF : List ByteArray→Fo
 | [] =>.nil
 | v :: vs =>.nd (kA v) v 0 .nil (valsF vs)
def itF : It→Fo→Fo
 | .flag n,r =>.nd 3 n 0 .nil r
 | .li n vs,r =>.nd 5 ⟨#[]⟩ 0 (.nd 3 n 0 .nil (valsF vs)) r
def itsF : List It→Fo
 | [] =>.nil
 | i :: l =>itF i (itsF l)
def formF (kind name : ByteArray) (l : List It) : Fo:=.nd 5 ⟨#[]⟩ 0 (.nd 3 kind 0 .nil (.nd (kA name) name 0 .nil (itsF l))) .nil
def atL (v : ByteArray) : List Int:=if v = ⟨#[]⟩ then [34,34] else bytesL v
def valsL (vs : List ByteArray) : List Int:=vs.flatMap fun v =>32 :: atL v
def itL : It→List Int
 | .flag n =>32 :: bytesL n
 | .li n vs =>32 :: 40 :: (bytesL n++(valsL vs++[41]))
def itsL (l : List It) : List Int:=l.flatMap itL
def formL (kind name : ByteArray) (l : List It) : List Int:=40 :: (bytesL kind++(32 :: (atL name++(itsL l++[41]))))
def spT (f : Fo) : List Int:=if f.cnt = 0 then [] else 32 :: f.kidsT
theorem kidsT_nd (k : Int) (s : ByteArray) (a : Int) (c r : Fo) : (Fo.nd k s a c r).kidsT = (if k = 5 then 40 :: (c.kidsT++[41]) else body (k,bytesL s))++spT r:=rfl
theorem spT_nd (k : Int) (s : ByteArray) (a : Int) (c r : Fo) : spT (Fo.nd k s a c r) = 32 :: ((if k = 5 then 40 :: (c.kidsT++[41]) else body (k,bytesL s))++spT r):=by
 unfold spT
 rw [if_neg (by simp [Fo.cnt]),kidsT_nd]
 rfl
theorem kA_ne5 (v : ByteArray) : kA v≠5:=by unfold kA; split<;>decide
theorem body_A (v : ByteArray) : body (kA v,bytesL v) = atL v:=by
 unfold kA atL
 split
 ·rename_i h; subst h; rfl
 ·rfl
theorem sp_vals : ∀ vs : List ByteArray,spT (valsF vs) = valsL vs
 | [] =>rfl
 | v :: vs =>by rw [valsF,spT_nd,if_neg (kA_ne5 v),body_A,sp_vals vs]; simp [valsL]
theorem sp_its : ∀ l : List It,spT (itsF l) = itsL l
 | [] =>rfl
 | .flag n :: l =>by rw [itsF,itF,spT_nd,if_neg (by decide),sp_its l]; simp [itsL,itL,body]
 | .li n vs :: l =>by rw [itsF,itF,spT_nd,if_pos rfl,sp_its l,kidsT_nd,if_neg (by decide),sp_vals]; simp [itsL,itL,body]
theorem form_text (kind name : ByteArray) (l : List It) : (formF kind name l).kidsT = formL kind name l:=by
 unfold formF formL
 rw [kidsT_nd,if_pos rfl,kidsT_nd,if_neg (by decide),spT_nd,if_neg (kA_ne5 name),body_A,sp_its]
 simp [spT,Fo.cnt,body]
def wv (v : ByteArray) : Prop:=v = ⟨#[]⟩∨wordL (bytesL v) = true
def It.ok : It→Prop
 | .flag n =>wordL (bytesL n) = true
 | .li n vs =>wordL (bytesL n) = true∧∀ v,v ∈ vs→wv v
theorem wGT {x : List Int} (h : wordL x = true) : GT (3,x):=by
 unfold wordL at h
 simp only [Bool.and_eq_true,beq_iff_eq,decide_eq_true_eq,Bool.not_eq_true'] at h
 obtain ⟨⟨⟨h1,h2⟩,h3⟩,h4⟩:=h
 refine .word x ?_ (fun e =>by subst e; simp [headL_nil] at h3) h4
 rw [← h1,← h2]
theorem GT_A {v : ByteArray} (h : wv v) : GT (kA v,bytesL v):=by
 unfold kA
 split
 ·rename_i e; subst e; exact .text _ good_nil
 ·rename_i e
  rcases h with h | h
  ·exact absurd h e
  ·exact wGT h
theorem vals_wf : ∀ vs : List ByteArray,(valsF vs).wf
 | [] =>trivial
 | v :: vs =>by
  rw [valsF,Fo.wf]
  refine ⟨.inr ⟨?_,rfl⟩,trivial,vals_wf vs⟩
  unfold kA; split
  ·exact .inr rfl
  ·exact .inl rfl
theorem its_wf : ∀ l : List It,(itsF l).wf
 | [] =>trivial
 | .flag n :: l =>⟨.inr ⟨.inl rfl,rfl⟩,trivial,its_wf l⟩
 | .li n vs :: l =>⟨.inl ⟨rfl,rfl⟩,⟨.inr ⟨.inl rfl,rfl⟩,trivial,vals_wf vs⟩,its_wf l⟩
theorem form_wf (kind name : ByteArray) (l : List It) : (formF kind name l).wf :=
 ⟨.inl ⟨rfl,rfl⟩,⟨.inr ⟨.inl rfl,rfl⟩,trivial,.inr ⟨by unfold kA; split; exact .inr rfl; exact .inl rfl,rfl⟩,trivial,its_wf l⟩,trivial⟩
theorem vals_toks : ∀ vs : List ByteArray,(∀ v,v ∈ vs→wv v)→∀ t,t ∈ (valsF vs).toks→GT t
 | [],_,t,h =>by cases h
 | v :: vs,hw,t,h =>by
  rw [valsF,Fo.toks,if_neg (kA_ne5 v)] at h
  rcases List.mem_cons.1 h with rfl | h
  ·exact GT_A (hw v (List.mem_cons_self ..))
  ·exact vals_toks vs (fun x hx =>hw x (List.mem_cons_of_mem _ hx)) t h
theorem its_toks : ∀ l : List It,(∀ i,i ∈ l→i.ok)→∀ t,t ∈ (itsF l).toks→GT t
 | [],_,t,h =>by cases h
 | .flag n :: l,hw,t,h =>by
  rw [itsF,itF,Fo.toks,if_neg (by decide)] at h
  rcases List.mem_cons.1 h with rfl | h
  ·exact wGT (hw _ (List.mem_cons_self ..))
  ·exact its_toks l (fun x hx =>hw x (List.mem_cons_of_mem _ hx)) t h
 | .li n vs :: l,hw,t,h =>by
  have h0 : n = n∧_:=⟨rfl,hw (.li n vs) (List.mem_cons_self ..)⟩
  rw [itsF,itF,Fo.toks,if_pos rfl,Fo.toks,if_neg (by decide)] at h
  rcases List.mem_cons.1 h with rfl | h
  ·exact .opn
  ·rcases List.mem_append.1 h with h | h
   ·rcases List.mem_cons.1 h with rfl | h
    ·exact wGT h0.2.1
    ·exact vals_toks vs h0.2.2 t h
   ·rcases List.mem_cons.1 h with rfl | h
    ·exact .cls
    ·exact its_toks l (fun x hx =>hw x (List.mem_cons_of_mem _ hx)) t h
theorem form_toks {kind name : ByteArray} {l : List It} (hk : wordL (bytesL kind) = true) (hn : wv name) (hl : ∀ i,i ∈ l→i.ok) : ∀ t,t ∈ (formF kind name l).toks→GT t:=by
 intro t h
 have e3 : ((3 : Int) = 5) = False:=by simp
 simp only [formF,Fo.toks,if_true,e3,if_false,if_neg (kA_ne5 name),List.mem_cons,List.mem_append,List.not_mem_nil,or_false] at h
 rcases h with rfl | (rfl | rfl | h) | rfl
 ·exact .opn
 ·exact wGT hk
 ·exact GT_A hn
 ·exact its_toks l hl t h
 ·exact .cls
def It.n : It→Nat
 | .flag _ =>1
 | .li _ vs =>vs.length + 2
def itsN (l : List It) : Nat:=(l.map It.n).sum
theorem vals_flat : ∀ vs : List ByteArray,(valsF vs).flat.length = vs.length
 | [] =>rfl
 | v :: vs =>by rw [valsF,Fo.flat]; simp [Fo.flat,vals_flat vs]
theorem its_flat : ∀ l : List It,(itsF l).flat.length = itsN l
 | [] =>rfl
 | .flag n :: l =>by rw [itsF,itF,Fo.flat]; simp [Fo.flat,its_flat l,itsN,It.n]; omega
 | .li n vs :: l =>by rw [itsF,itF,Fo.flat,Fo.flat]; simp [Fo.flat,its_flat l,itsN,It.n,vals_flat]; omega
theorem vals_dep : ∀ vs : List ByteArray,(valsF vs).dep = 0
 | [] =>rfl
 | v :: vs =>by rw [valsF,Fo.dep,if_neg (kA_ne5 v),vals_dep vs]; rfl
theorem its_dep : ∀ l : List It,(itsF l).dep≤1
 | [] =>Nat.zero_le 1
 | .flag n :: l =>by rw [itsF,itF,Fo.dep,if_neg (by decide)]; have:=its_dep l; simp [Fo.dep]; exact this
 | .li n vs :: l =>by rw [itsF,itF,Fo.dep,if_pos rfl,Fo.dep,if_neg (by decide),vals_dep]; have:=its_dep l; simp [Fo.dep]; omega
theorem form_dep (kind name : ByteArray) (l : List It) : (formF kind name l).dep≤2:=by
 have e3 : ((3 : Int) = 5) = False:=by simp
 have:=its_dep l
 simp only [formF,Fo.dep,if_true,e3,if_false,if_neg (kA_ne5 name)]
 omega
theorem form_parse {s : ByteArray} (hs : s.size≤65536) {kind name : ByteArray} {l : List It} (hb : bytesL s = formL kind name l) (hk : wordL (bytesL kind) = true) (hn : wv name) (hl : ∀ i,i ∈ l→i.ok) (hN : itsN l≤3990) :
  ∃ φ : Fo,φ.strip = (formF kind name l).strip∧ref02_Parse s = some (φ.flat,0,0):=by
 have hsc : scanL (bytesL s) = .ok (formF kind name l).toks:=by
  have:=scan_kids (formF kind name l) (form_wf kind name l) (form_toks hk hn hl) [] (.inl rfl)
  rw [List.append_nil,form_text,scanL_nil] at this
  rw [hb,this]
  simp [Res.map]
 refine rParse_of hs hsc (form_wf kind name l) (by have:=form_dep kind name l; omega) ?_
 have : (formF kind name l).flat.length = itsN l + 3:=by unfold formF; simp [Fo.flat,its_flat]
 omega
end Go.Proofs.YtkondhigbbgidaaGreat.M
/-
  Plain laws: texts by their order; maps. Own text.
-/
namespace Go.Proofs.YtkondhigbbgidaaGreat.M
open Go Go.Proofs Go.Proofs.YtkondhigbbgidaaGreat.V
set_option linter.unusedVariables false
set_option linter.unusedSimpArgs false
theorem bl_irr : ∀ a : List UInt8,Op.bytesLess a a = false
 | [] =>rfl
 | a :: x =>by rw [Op.bytesLess,bl_irr x]; simp
theorem bl_trans : ∀ {a b c : List UInt8},Op.bytesLess a b = true→Op.bytesLess b c = true→Op.bytesLess a c = true
 | _,[],_,h,_ =>by simp [Op.bytesLess] at h
 | _,_ :: _,[],_,h =>by simp [Op.bytesLess] at h
 | [],_ :: _,_ :: _,_,_ =>rfl
 | a :: x,b :: y,c :: z,h,k =>by
  rw [Op.bytesLess] at h k ⊢
  simp only [Bool.or_eq_true,Bool.and_eq_true,decide_eq_true_eq,beq_iff_eq] at h k ⊢
  rcases h with h | ⟨rfl,h⟩
  ·rcases k with k | ⟨rfl,k⟩
   ·exact .inl (UInt8.lt_trans h k)
   ·exact .inl h
  ·rcases k with k | ⟨rfl,k⟩
   ·exact .inl k
   ·exact .inr ⟨rfl,bl_trans h k⟩
theorem slt_irr (a : ByteArray) : V.slt a a = false:=bl_irr _
theorem slt_trans {a b c : ByteArray} (h : V.slt a b = true) (k : V.slt b c = true) : V.slt a c = true:=bl_trans h k
theorem toList_data (a : ByteArray) : a.toList = a.data.toList:=by simp [ByteArray.toList_eq]
theorem Less_eq {a b : ByteArray} (ha : a.size≤300) (hb : b.size≤300) : ref05_Less a b = some (V.slt a b):=by
 have key : ∀ (m k f : Nat),min a.size b.size - k≤m→m < f→k≤min a.size b.size→(ref05_Less.l1 a b f (k : Int)).bind (fun o =>o.on fun _ =>some (decide ((a.size : Int) < (b.size : Int)))) = some (Op.bytesLess (a.data.toList.drop k) (b.data.toList.drop k)):=by
  have hla : a.data.toList.length = a.size:=by simp
  have hlb : b.data.toList.length = b.size:=by simp
  have hend : ∀ k f,k = min a.size b.size→(ref05_Less.l1 a b (f + 1) (k : Int)).bind (fun o =>o.on fun _ =>some (decide ((a.size : Int) < (b.size : Int)))) = some (Op.bytesLess (a.data.toList.drop k) (b.data.toList.drop k)):=by
   intro k f hk
   rw [ref05_Less.l1,if_neg (by simp; omega)]
   simp only [Option.bind_some,Out.on,Option.some.injEq]
   by_cases h : a.size < b.size
   ·rw [List.drop_eq_nil_of_le (show a.data.toList.length≤k by omega)]
    have : (b.data.toList.drop k)≠[]:=by
     intro e
     have:=congrArg List.length e
     rw [List.length_drop] at this
     simp at this
     omega
    obtain ⟨y,ys,hy⟩:=List.exists_cons_of_ne_nil this
    rw [hy]
    simp [Op.bytesLess,h]
   ·rw [List.drop_eq_nil_of_le (show b.data.toList.length≤k by omega)]
    simp [Op.bytesLess,h]
  intro m
  induction m with
  | zero =>
   intro k f h1 h2 h3
   obtain ⟨f,rfl⟩ : ∃ q,f = q + 1:=⟨f - 1,by omega⟩
   exact hend k f (by omega)
  | succ m ih =>
   intro k f h1 h2 h3
   obtain ⟨f,rfl⟩ : ∃ q,f = q + 1:=⟨f - 1,by omega⟩
   by_cases hk : k < min a.size b.size
   ·have hka : k < a.data.toList.length:=by omega
    have hkb : k < b.data.toList.length:=by omega
    have ea : bt a k = ((a.data.toList[k]).toNat : Int):=by
     unfold bt; rw [List.getD_eq_getElem?_getD,List.getElem?_eq_getElem hka]; rfl
    have eb : bt b k = ((b.data.toList[k]).toNat : Int):=by
     unfold bt; rw [List.getD_eq_getElem?_getD,List.getElem?_eq_getElem hkb]; rfl
    rw [ref05_Less.l1,if_pos (by simp; omega),gi_nat (by omega),gi_nat (by omega),wk1 (by omega),List.drop_eq_getElem_cons hka,List.drop_eq_getElem_cons hkb,Op.bytesLess]
    simp only [Option.bind_some]
    by_cases h : bt a k = bt b k
    ·rw [if_neg (by simpa using h),ih (k + 1) f (by omega) (by omega) (by omega)]
     have e : a.data.toList[k] = b.data.toList[k]:=by
      rw [ea,eb] at h
      exact UInt8.toNat_inj.1 (by omega)
     rw [e]
     simp
    ·rw [if_pos (by simpa using h)]
     have e : ¬ a.data.toList[k] = b.data.toList[k]:=fun q =>h (by rw [ea,eb,q])
     simp only [Option.bind_some,Out.on,Option.some.injEq]
     have e2 : (a.data.toList[k] == b.data.toList[k]) = false:=by simpa using e
     rw [e2,Bool.false_and,Bool.or_false,ea,eb]
     rw [decide_eq_decide,UInt8.lt_iff_toNat_lt]
     omega
   ·exact hend k f (by omega)
 have:=key (min a.size b.size) 0 FU (by omega) (by unfold FU; omega) (by omega)
 unfold ref05_Less V.slt
 rw [toList_data,toList_data]
 exact this
theorem mg_mp {κ υ : Type} [DecidableEq κ] : ∀ (l : List (κ × υ)) (k k' : κ) (v : υ),V.mg (V.mp l k v) k' = if k' = k then some v else V.mg l k'
 | [],k,k',v =>by
  rw [V.mp,V.mg]
  by_cases h : k' = k<;>simp [V.mg,h]
 | (a,b) :: r,k,k',v =>by
  rw [V.mp]
  by_cases h : k = a
  ·subst h
   rw [if_pos rfl,V.mg,V.mg]
   by_cases h2 : k' = k<;>simp [h2]
  ·rw [if_neg h,V.mg,V.mg,mg_mp r k k' v]
   by_cases h2 : k' = a
   ·subst h2
    have h3 : ¬ k' = k:=fun e =>h e.symm
    rw [if_pos rfl,if_pos rfl,if_neg h3]
   ·rw [if_neg h2,if_neg h2]
end Go.Proofs.YtkondhigbbgidaaGreat.M
/-
  Plain laws of forms: fields of a form that was read, their values. Own text.
-/
namespace Go.Proofs.YtkondhigbbgidaaGreat.M
open Go Go.Proofs Go.Proofs.YtkondhigbbgidaaGreat.V
open Go.IntKind (i64)
set_option linter.unusedVariables false
set_option linter.unusedSimpArgs false
set_option maxRecDepth 20000
theorem strip_nd {φ : Fo} {k : Int} {s : ByteArray} {c r : Fo} (h : φ.strip = .nd k s 0 c r) : ∃ a c' r',φ = .nd k s a c' r'∧c'.strip = c∧r'.strip = r:=by
 cases φ with
 | nil =>cases h
 | nd k' s' a' c' r' =>
  simp only [Fo.strip,Fo.nd.injEq] at h
  obtain ⟨rfl,rfl,_,h1,h2⟩:=h
  exact ⟨a',c',r',rfl,h1,h2⟩
theorem strip_nil {φ : Fo} (h : φ.strip = .nil) : φ = .nil:=by
 cases φ with
 | nil =>rfl
 | nd k s a c r =>simp [Fo.strip] at h
theorem vals_strip : ∀ vs : List ByteArray,(valsF vs).strip = valsF vs
 | [] =>rfl
 | v :: vs =>by rw [valsF,Fo.strip,vals_strip vs]; rfl
theorem its_strip : ∀ l : List It,(itsF l).strip = itsF l
 | [] =>rfl
 | .flag n :: l =>by rw [itsF,itF,Fo.strip,its_strip l]; rfl
 | .li n vs :: l =>by rw [itsF,itF,Fo.strip,Fo.strip,its_strip l,vals_strip]; rfl
theorem form_strip (kind name : ByteArray) (l : List It) : (formF kind name l).strip = formF kind name l:=by
 simp [formF,Fo.strip,its_strip]
theorem gl_mid {α : Type} (pre : List α) (x : α) (post : List α) : V.gl (pre++x :: post) (pre.length : Int) = some x:=by
 rw [glk (by simp)]; simp
inductive Vn (l : List T_api_Node) : List Int→List ByteArray→Prop
 | nil : Vn l [] []
 | cons {p : Int} {ps : List Int} {v : ByteArray} {vs : List ByteArray} {y : T_api_Node} (h : V.gl l p = some y) (hk : y.Kind = kA v) (ht : y.Text = v) (r : Vn l ps vs) : Vn l (p :: ps) (v :: vs)
theorem Vn.len {l : List T_api_Node} {ps : List Int} {vs : List ByteArray} (h : Vn l ps vs) : ps.length = vs.length:=by
 induction h with
 | nil =>rfl
 | cons _ _ _ _ ih =>simp [ih]
theorem vals_at : ∀ (vs : List ByteArray) (W : Fo) (pre post l : List T_api_Node),W.strip = valsF vs→l = pre++(W.flat++post)→Vn l (posF pre.length W) vs∧W.cnt = vs.length
 | [],W,pre,post,l,h,hl =>by
  have:=strip_nil h
  subst this
  exact ⟨.nil,rfl⟩
 | v :: vs,W,pre,post,l,h,hl =>by
  obtain ⟨a,c,r,rfl,h1,h2⟩:=strip_nd h
  have:=strip_nil h1
  subst this
  have e : l = pre++((⟨kA v,v,((Fo.nil.cnt : Nat) : Int),a⟩ : T_api_Node) :: (r.flat++post)):=by rw [hl,Fo.flat]; simp [Fo.flat]
  have e2 : l = (pre++[(⟨kA v,v,((Fo.nil.cnt : Nat) : Int),a⟩ : T_api_Node)])++(r.flat++post):=by rw [e]; simp
  obtain ⟨k1,k2⟩:=vals_at vs r _ post l h2 e2
  rw [List.length_append] at k1
  refine ⟨?_,by rw [Fo.cnt,k2]; rfl⟩
  rw [posF]
  exact .cons (by rw [e]; exact gl_mid _ _ _) rfl rfl (by simpa [Fo.flat] using k1)
structure FA (l : List T_api_Node) (p : Int) (n : ByteArray) (alone : Bool) (ks : List Int) (vs : List ByteArray) : Prop where
 node : ∃ x,V.gl l p = some x∧(x.Kind == 3) = alone
 head : ∀ (r : T_spec_reader) (x : T_api_Machine),r.l = l→spec_reader_head_x r x p = some (n,ks)
 vals : Vn l ks vs
theorem flag_at {n : ByteArray} {φ r : Fo} (h : φ.strip = itF (.flag n) r) {pre post l : List T_api_Node} (hl : l = pre++(φ.flat++post)) : ∃ r',r'.strip = r∧φ.cnt = r'.cnt + 1∧posF pre.length φ = (pre.length : Int) :: posF (pre.length + 1) r'∧(∃ pre',pre'.length = pre.length + 1∧l = pre'++(r'.flat++post))∧FA l pre.length n true [] []:=by
 obtain ⟨a,c,r',rfl,h1,h2⟩:=strip_nd h
 have:=strip_nil h1
 subst this
 have e : l = pre++((⟨3,n,((Fo.nil.cnt : Nat) : Int),a⟩ : T_api_Node) :: (r'.flat++post)):=by rw [hl,Fo.flat]; simp [Fo.flat]
 have g : V.gl l (pre.length : Int) = some ⟨3,n,((Fo.nil.cnt : Nat) : Int),a⟩:=by rw [e]; exact gl_mid _ _ _
 refine ⟨r',h2,rfl,rfl,⟨pre++[(⟨3,n,((Fo.nil.cnt : Nat) : Int),a⟩ : T_api_Node)],by simp,by rw [e]; simp⟩,⟨_,g,rfl⟩,fun q x hq =>?_,.nil⟩
 unfold spec_reader_head_x
 rw [hq,g]
 rfl
theorem li_at {n : ByteArray} {vs : List ByteArray} {φ r : Fo} (h : φ.strip = itF (.li n vs) r) {pre post l : List T_api_Node} (hl : l = pre++(φ.flat++post)) (hll : l.length≤1000000) : ∃ r' ks,r'.strip = r∧φ.cnt = r'.cnt + 1∧posF pre.length φ = (pre.length : Int) :: posF (pre.length + (vs.length + 2)) r'∧(∃ pre',pre'.length = pre.length + (vs.length + 2)∧l = pre'++(r'.flat++post))∧FA l pre.length n false ks vs:=by
 obtain ⟨a,c,r',rfl,h1,h2⟩:=strip_nd h
 obtain ⟨b,d,W,rfl,h3,h4⟩:=strip_nd h1
 have:=strip_nil h3
 subst this
 have e : l = pre++((⟨5,⟨#[]⟩,(((Fo.nd 3 n b .nil W).cnt : Nat) : Int),a⟩ : T_api_Node) :: ((⟨3,n,((Fo.nil.cnt : Nat) : Int),b⟩ : T_api_Node) :: (W.flat++(r'.flat++post)))):=by rw [hl,Fo.flat,Fo.flat]; simp [Fo.flat]
 have g : V.gl l (pre.length : Int) = some ⟨5,⟨#[]⟩,(((Fo.nd 3 n b .nil W).cnt : Nat) : Int),a⟩:=by rw [e]; exact gl_mid _ _ _
 have e1 : l = (pre++[(⟨5,⟨#[]⟩,(((Fo.nd 3 n b .nil W).cnt : Nat) : Int),a⟩ : T_api_Node)])++((⟨3,n,((Fo.nil.cnt : Nat) : Int),b⟩ : T_api_Node) :: (W.flat++(r'.flat++post))):=by rw [e]; simp
 have g1 : V.gl l ((pre.length + 1 : Nat) : Int) = some ⟨3,n,((Fo.nil.cnt : Nat) : Int),b⟩:=by
  have:=gl_mid (pre++[(⟨5,⟨#[]⟩,(((Fo.nd 3 n b .nil W).cnt : Nat) : Int),a⟩ : T_api_Node)]) (⟨3,n,((Fo.nil.cnt : Nat) : Int),b⟩ : T_api_Node) (W.flat++(r'.flat++post))
  rw [← e1] at this
  simpa using this
 have e2 : l = (pre++[(⟨5,⟨#[]⟩,(((Fo.nd 3 n b .nil W).cnt : Nat) : Int),a⟩ : T_api_Node),(⟨3,n,((Fo.nil.cnt : Nat) : Int),b⟩ : T_api_Node)])++(W.flat++(r'.flat++post)):=by rw [e]; simp
 obtain ⟨hv,hc⟩:=vals_at vs W _ _ l h4 e2
 have hW : W.flat.length = vs.length:=by
  have : ∀ (us : List ByteArray) (U : Fo),U.strip = valsF us→U.flat.length = us.length:=by
   intro us
   induction us with
   | nil =>intro U hU; rw [strip_nil hU]; rfl
   | cons u us ih =>
    intro U hU
    obtain ⟨a',c',r'',rfl,q1,q2⟩:=strip_nd hU
    rw [strip_nil q1,Fo.flat]
    simp [Fo.flat,ih r'' q2]
  exact this vs W h4
 have hk : tree_Kids l (pre.length : Int) = some (((pre.length + 1 : Nat) : Int) :: posF (pre.length + 2) W):=by
  have:=Kids_flat (k:=5) (s:=⟨#[]⟩) (a:=a) (c:=Fo.nd 3 n b .nil W) (pre:=pre) (post:=r'.flat++post) (l:=l) (by rw [e]; simp [Fo.flat]) hll
  rw [this,posF]; simp [Fo.flat]
 refine ⟨r',posF (pre.length + 2) W,h2,rfl,?_,⟨pre++((⟨5,⟨#[]⟩,(((Fo.nd 3 n b .nil W).cnt : Nat) : Int),a⟩ : T_api_Node) :: (⟨3,n,((Fo.nil.cnt : Nat) : Int),b⟩ : T_api_Node) :: W.flat),by simp [hW],by rw [e]; simp⟩,⟨_,g,rfl⟩,fun q x hq =>?_,by simpa using hv⟩
 ·rw [posF]
  congr 2
  simp [Fo.flat,hW]; omega
 ·unfold spec_reader_head_x
  rw [hq,g]
  simp only [Option.bind_some]
  rw [if_neg (by decide),hk]
  simp only [Option.bind_some]
  have hpl:=posF_len W (pre.length + 2)
  have hlen : l.length = pre.length + (W.flat.length + 2) + (r'.flat.length + post.length):=by rw [e]; simp; omega
  rw [if_neg (by simp; omega),show V.gl (((pre.length + 1 : Nat) : Int) :: posF (pre.length + 2) W) (0 : Int) = some ((pre.length + 1 : Nat) : Int) from rfl]
  simp only [Option.bind_some]
  rw [g1]
  simp only [Option.bind_some]
  rw [if_neg (by decide)]
  have hsl : V.sl (((pre.length + 1 : Nat) : Int) :: posF (pre.length + 2) W) (some 1) none = some (posF (pre.length + 2) W):=by
   unfold V.sl
   rw [if_pos ⟨⟨by simp,by simp⟩,by simp [lowN,highN],by simp [highN]⟩]
   simp [lowN,highN]
  rw [hsl]
  rfl
theorem value_w {y : T_api_Node} {kind : Int} (h : y.Kind = 3) (hk : kind = 119∨kind = 97∨kind = 43) : spec_value y kind = some (I_any20.c9 y.Text,0):=by
 unfold spec_value
 rw [h]
 rcases hk with rfl | rfl | rfl<;>rfl
theorem value_a {y : T_api_Node} {kind : Int} {v : ByteArray} (h : y.Kind = kA v) (ht : y.Text = v) (hk : kind = 97∨kind = 43) : spec_value y kind = some (I_any20.c9 v,0):=by
 by_cases e : v = ⟨#[]⟩
 ·subst e
  have h4 : y.Kind = 4:=h
  unfold spec_value
  rw [h4,ht,if_pos (by rw [(seq_nil _).2 rfl]; rcases hk with rfl | rfl<;>rfl)]
 ·have h3 : y.Kind = 3:=by rw [h]; unfold kA; rw [if_neg e]
  rw [value_w h3 (by omega),ht]
theorem kA3 {v : ByteArray} (h : v≠⟨#[]⟩) : kA v = 3:=by unfold kA; rw [if_neg h]
theorem value_m {y : T_api_Node} {n : Nat} (h : y.Kind = 3) (ht : y.Text = milliB n) (hn : n≤1125899906842624) : spec_value y 109 = some (I_any20.c3 (n : Int),0):=by
 unfold spec_value
 rw [h,ht,if_neg (by simp),if_neg (by decide),if_pos (by decide),Milli_n hn]
 rfl
theorem value_p {y : T_api_Node} {n : Nat} (h : y.Kind = 3) (ht : y.Text = memB n) (hn : n≤1125899906842624) : spec_value y 112 = some (I_any20.c3 (n : Int),0):=by
 unfold spec_value
 rw [h,ht,if_neg (by simp),if_neg (by decide),if_neg (by decide),if_pos (by decide),Parse_n hn]
 rfl
theorem value_n' {y : T_api_Node} {n : Nat} (h : y.Kind = 3) (ht : y.Text = numB n) (hn : n≤1125899906842624) : spec_value y 110 = some (I_any20.c3 (n : Int),0):=by
 unfold spec_value
 rw [h,ht,if_neg (by simp),if_neg (by decide),if_neg (by decide),if_neg (by decide),if_pos (by decide),Number_n hn]
 rfl
def effT (k : Nat) : ByteArray:=match k with | 0 =>⟨#[97,110,121]⟩ | 1 =>⟨#[110,111]⟩ | 2 =>⟨#[112,114,101,102,101,114]⟩ | _ =>⟨#[111,117,116]⟩
theorem place_e0 : spec_place [(⟨#[97,110,121]⟩ : ByteArray),(⟨#[110,111]⟩ : ByteArray),(⟨#[112,114,101,102,101,114]⟩ : ByteArray),(⟨#[111,117,116]⟩ : ByteArray)] (⟨#[97,110,121]⟩ : ByteArray) = some (0,true):=by kernel_rfl
theorem place_e1 : spec_place [(⟨#[97,110,121]⟩ : ByteArray),(⟨#[110,111]⟩ : ByteArray),(⟨#[112,114,101,102,101,114]⟩ : ByteArray),(⟨#[111,117,116]⟩ : ByteArray)] (⟨#[110,111]⟩ : ByteArray) = some (1,true):=by kernel_rfl
theorem place_e2 : spec_place [(⟨#[97,110,121]⟩ : ByteArray),(⟨#[110,111]⟩ : ByteArray),(⟨#[112,114,101,102,101,114]⟩ : ByteArray),(⟨#[111,117,116]⟩ : ByteArray)] (⟨#[112,114,101,102,101,114]⟩ : ByteArray) = some (2,true):=by kernel_rfl
theorem place_e3 : spec_place [(⟨#[97,110,121]⟩ : ByteArray),(⟨#[110,111]⟩ : ByteArray),(⟨#[112,114,101,102,101,114]⟩ : ByteArray),(⟨#[111,117,116]⟩ : ByteArray)] (⟨#[111,117,116]⟩ : ByteArray) = some (3,true):=by kernel_rfl
theorem value_e {y : T_api_Node} {k : Nat} (hk : k≤3) (h : y.Kind = 3) (ht : y.Text = effT k) : spec_value y 101 = some (I_any20.c3 (k : Int),0):=by
 unfold spec_value
 rw [h,ht,if_neg (by simp),if_neg (by decide),if_neg (by decide),if_neg (by decide),if_neg (by decide),if_neg (by decide),if_pos (by decide)]
 unfold spec_effects
 simp only [Option.bind_some]
 rcases (by omega : k = 0∨k = 1∨k = 2∨k = 3) with rfl | rfl | rfl | rfl<;>simp only [effT]
 ·rw [place_e0]; rfl
 ·rw [place_e1]; rfl
 ·rw [place_e2]; rfl
 ·rw [place_e3]; rfl
theorem num_ne (n : Nat) : numB n≠⟨#[]⟩:=fun e =>by have:=dg_pos n; rw [← numB_l,e] at this; exact absurd this (by decide)
theorem app_ne {a b : ByteArray} (h : a≠⟨#[]⟩) : a++b≠⟨#[]⟩:=fun e =>h (by
 have:=congrArg bytesL e
 rw [b_cat] at this
 exact bytesL_inj (by rw [(List.append_eq_nil_iff.1 this).1]; rfl))
theorem milli_ne (n : Nat) : milliB n≠⟨#[]⟩:=by
 unfold milliB; split
 ·exact num_ne _
 ·exact app_ne (num_ne _)
theorem mem_ne (n : Nat) : memB n≠⟨#[]⟩:=app_ne (num_ne _)
theorem eff_ne (k : Nat) : effT k≠⟨#[]⟩:=by unfold effT; split<;>decide
inductive Vk (l : List T_api_Node) (says : ByteArray) : Nat→List Int→List I_any20→Prop
 | nil {k : Nat} : Vk l says k [] []
 | cons {k : Nat} {p c : Int} {ps : List Int} {v : I_any20} {vs : List I_any20} {y : T_api_Node} (h : V.gl l p = some y) (hc : V.gi says (k : Int) = some c) (hv : spec_value y c = some (v,0)) (r : Vk l says (k + 1) ps vs) : Vk l says k (p :: ps) (v :: vs)
theorem Vk.len {l : List T_api_Node} {says : ByteArray} {k : Nat} {ps : List Int} {vs : List I_any20} (h : Vk l says k ps vs) : ps.length = vs.length:=by
 induction h with
 | nil =>rfl
 | cons _ _ _ _ ih =>simp [ih]
theorem ap16 {l : List I_any20} {x : I_any20} (h : l.length≤1000000) : V.ap 16 l [x] = some (l++[x]):=by
 unfold V.ap
 rw [if_pos ⟨by simp only [List.length_cons,List.length_nil]; unfold maxLen; omega,by simp only [List.length_cons,List.length_nil]; omega⟩]
end Go.Proofs.YtkondhigbbgidaaGreat.M

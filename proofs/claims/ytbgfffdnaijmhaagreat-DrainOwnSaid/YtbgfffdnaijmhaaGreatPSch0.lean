/-
  Printed by a program of this session out of the loaded functions: models and their proofs. Own text.
-/
import Derived.Test.YtbgfffdnaijmhaaGreatPRk
import Derived.Test.YtbgfffdnaijmhaaGreatPBor
import Derived.Test.YtbgfffdnaijmhaaGreatPChk
/-
  Plain laws: the order in which pods are bound. Own text.
-/
namespace Go.Proofs.YtbgfffdnaijmhaaGreat.M
open Go Go.Proofs Go.Proofs.YtbgfffdnaijmhaaGreat.V
set_option linter.unusedVariables false
def mrg (rk : Int→Int) : List Int→List Int→List Int
 | [],b =>b
 | x :: a,[] =>x :: a
 | x :: a,y :: b =>if rk y > rk x then y :: mrg rk (x :: a) b else x :: mrg rk a (y :: b)
termination_by a b =>a.length + b.length
theorem mrg_perm (rk : Int→Int) : ∀ (a b : List Int),(mrg rk a b).Perm (a++b):=by
 intro a b
 induction a,b using mrg.induct rk with
 | case1 b =>rw [mrg]; exact .refl _
 | case2 x a =>rw [mrg,List.append_nil]
 | case3 x a y b h ih =>
  rw [mrg,if_pos h]
  exact (List.Perm.cons y ih).trans (List.perm_middle (l₁:=x :: a)).symm
 | case4 x a y b h ih =>
  rw [mrg,if_neg h]
  exact List.Perm.cons x ih
theorem mrg_sorted (rk : Int→Int) : ∀ (a b : List Int),a.Pairwise (Rk rk)→b.Pairwise (Rk rk)→(∀ x,x ∈ a→∀ y,y ∈ b→x < y)→(mrg rk a b).Pairwise (Rk rk):=by
 intro a b
 induction a,b using mrg.induct rk with
 | case1 b =>intro _ hb _; rw [mrg]; exact hb
 | case2 x a =>intro ha _ _; rw [mrg]; exact ha
 | case3 x a y b h ih =>
  intro ha hb hab
  rw [mrg,if_pos h,List.pairwise_cons]
  refine ⟨fun z hz =>?_,ih ha (List.pairwise_cons.1 hb).2 fun u hu v hv =>hab u hu v (List.mem_cons_of_mem _ hv)⟩
  rcases List.mem_append.1 ((mrg_perm rk (x :: a) b).mem_iff.1 hz) with hz | hz
  ·left
   rcases List.mem_cons.1 hz with rfl | hz
   ·exact h
   ·rcases (List.pairwise_cons.1 ha).1 z hz with q | ⟨q,_⟩<;>omega
  ·exact (List.pairwise_cons.1 hb).1 z hz
 | case4 x a y b h ih =>
  intro ha hb hab
  rw [mrg,if_neg h,List.pairwise_cons]
  refine ⟨fun z hz =>?_,ih (List.pairwise_cons.1 ha).2 hb fun u hu v hv =>hab u (List.mem_cons_of_mem _ hu) v hv⟩
  rcases List.mem_append.1 ((mrg_perm rk a (y :: b)).mem_iff.1 hz) with hz | hz
  ·exact (List.pairwise_cons.1 ha).1 z hz
  ·have hlt:=hab x (List.mem_cons_self ..) z hz
   unfold Rk
   rcases List.mem_cons.1 hz with rfl | hz
   ·omega
   ·rcases (List.pairwise_cons.1 hb).1 z hz with q | ⟨q,_⟩<;>omega
def rkB (bs : List T_api_Bound) (x : Int) : Int:=((bs[x.toNat]?).map (·.Pod.Rank)).getD 0
theorem ord1_eq {bs : List T_api_Bound} {a b : Int} (ha : 0≤a∧a < (bs.length : Int)) (hb : 0≤b∧b < (bs.length : Int)) : sched_Order_1 a b bs = some (decide (rkB bs a > rkB bs b)):=by
 obtain ⟨i,rfl⟩ : ∃ i : Nat,a = (i : Int):=⟨a.toNat,by omega⟩
 obtain ⟨j,rfl⟩ : ∃ j : Nat,b = (j : Int):=⟨b.toNat,by omega⟩
 unfold sched_Order_1 rkB
 rw [glk (by omega),glk (by omega)]
 simp [show i < bs.length by omega,show j < bs.length by omega]
theorem gl0 {α : Type} (x : α) (l : List α) : V.gl (x :: l) 0 = some x:=rfl
theorem sl1 {α : Type} (a : α) (l : List α) (hl : l.length < 1000000) : V.sl (a :: l) (some 1) none = some l:=sl_tail a l hl
theorem merge_l1 {bs : List T_api_Bound} : ∀ (n : Nat) (a b out : List Int) (f : Nat),a.length + b.length≤n→n < f→out.length + a.length + b.length≤1000→(∀ x,x ∈ a→0≤x∧x < (bs.length : Int))→(∀ x,x ∈ b→0≤x∧x < (bs.length : Int)) →
  ∃ a' b' o,sched_sorted_sched_Order_1.l1 bs f a b out = some (a',b',o)∧o++a'++b' = out++mrg (rkB bs) a b∧(a' = []∨b' = [])∧o.length + a'.length + b'.length = out.length + a.length + b.length:=by
 intro n
 induction n with
 | zero =>
  intro a b out f h1 h2 h3 ha hb
  obtain ⟨f,rfl⟩ : ∃ q,f = q + 1:=⟨f - 1,by omega⟩
  obtain rfl : a = []:=List.eq_nil_of_length_eq_zero (by omega)
  exact ⟨[],b,out,by rw [sched_sorted_sched_Order_1.l1]; rfl,by rw [mrg]; simp,.inl rfl,rfl⟩
 | succ n ih =>
  intro a b out f h1 h2 h3 ha hb
  obtain ⟨f,rfl⟩ : ∃ q,f = q + 1:=⟨f - 1,by omega⟩
  cases a with
  | nil =>exact ⟨[],b,out,by rw [sched_sorted_sched_Order_1.l1]; rfl,by rw [mrg]; simp,.inl rfl,rfl⟩
  | cons x a =>
   cases b with
   | nil =>exact ⟨x :: a,[],out,by rw [sched_sorted_sched_Order_1.l1,if_neg (by simp)],by rw [mrg]; simp,.inr rfl,rfl⟩
   | cons y b =>
    simp only [List.length_cons] at h1 h3
    rw [sched_sorted_sched_Order_1.l1,if_pos (by simp),gl0,gl0]
    simp only [Option.bind_some]
    rw [ord1_eq (hb y (List.mem_cons_self ..)) (ha x (List.mem_cons_self ..)),mrg]
    simp only [Option.bind_some]
    by_cases h : rkB bs y > rkB bs x
    ·rw [if_pos (by simpa using h),if_pos h,ap_ok (by omega) (by simp; omega),sl1 y b (by omega)]
     simp only [Option.bind_some]
     obtain ⟨a',b',o,e1,e2,e3,e4⟩:=ih (x :: a) b (out++[y]) f (by simp only [List.length_cons]; omega) (by omega) (by simp only [List.length_append,List.length_cons,List.length_nil]; omega) ha (fun z hz =>hb z (List.mem_cons_of_mem _ hz))
     exact ⟨a',b',o,e1,by rw [e2]; simp,e3,by rw [e4]; simp only [List.length_append,List.length_cons,List.length_nil]; omega⟩
    ·rw [if_neg (by simpa using h),if_neg h,ap_ok (by omega) (by simp; omega),sl1 x a (by omega)]
     simp only [Option.bind_some]
     obtain ⟨a',b',o,e1,e2,e3,e4⟩:=ih a (y :: b) (out++[x]) f (by simp only [List.length_cons]; omega) (by omega) (by simp only [List.length_append,List.length_cons,List.length_nil]; omega) (fun z hz =>ha z (List.mem_cons_of_mem _ hz)) hb
     exact ⟨a',b',o,e1,by rw [e2]; simp,e3,by rw [e4]; simp only [List.length_append,List.length_cons,List.length_nil]; omega⟩
theorem sorted_ok {bs : List T_api_Bound} : ∀ (n : Nat) (l : List Int) (f : Nat),l.length≤n→n < f→l.length≤400→(∀ x,x ∈ l→0≤x∧x < (bs.length : Int))→l.Pairwise (· < ·)→∃ r,sched_sorted_sched_Order_1 f l bs = some r∧r.Perm l∧r.Pairwise (Rk (rkB bs)):=by
 intro n
 induction n with
 | zero =>
  intro l f h1 h2 h3 hl hs
  obtain ⟨f,rfl⟩ : ∃ q,f = q + 1:=⟨f - 1,by omega⟩
  obtain rfl : l = []:=List.eq_nil_of_length_eq_zero (by omega)
  exact ⟨[],rfl,.refl _,List.Pairwise.nil⟩
 | succ n ih =>
  intro l f h1 h2 h3 hl hs
  obtain ⟨f,rfl⟩ : ∃ q,f = q + 1:=⟨f - 1,by omega⟩
  rw [sched_sorted_sched_Order_1]
  by_cases h : l.length < 2
  ·rw [if_pos (by rw [decide_eq_true_eq]; omega)]
   refine ⟨l,rfl,.refl _,?_⟩
   match l,h with
   | [],_ =>exact List.Pairwise.nil
   | [x],_ =>exact List.pairwise_singleton _ _
  ·rw [if_neg (by rw [decide_eq_true_eq]; omega)]
   have hq : V.quo (l.length : Int) 2 = some ((l.length / 2 : Nat) : Int):=by
    unfold V.quo
    rw [if_neg (by decide)]
    congr 1
   rw [hq]
   simp only [Option.bind_some]
   rw [w_eq (x:=((l.length / 2 : Nat) : Int)) (by omega) (by omega)]
   have e1 : V.sl l none (some ((l.length / 2 : Nat) : Int)) = some (l.take (l.length / 2)):=sl_pre (by omega)
   have e2 : V.sl l (some ((l.length / 2 : Nat) : Int)) none = some (l.drop (l.length / 2)):=sl_suf (by omega)
   rw [e1,e2]
   simp only [Option.bind_some]
   obtain ⟨a,a1,a2,a3⟩:=ih (l.take (l.length / 2)) f (by rw [List.length_take]; omega) (by omega) (by rw [List.length_take]; omega) (fun x hx =>hl x (List.mem_of_mem_take hx)) (hs.sublist (List.take_sublist _ _))
   obtain ⟨b,b1,b2,b3⟩:=ih (l.drop (l.length / 2)) f (by rw [List.length_drop]; omega) (by omega) (by rw [List.length_drop]; omega) (fun x hx =>hl x (List.mem_of_mem_drop hx)) (hs.sublist (List.drop_sublist _ _))
   rw [a1,b1]
   simp only [Option.bind_some]
   have hal:=a2.length_eq
   have hbl:=b2.length_eq
   rw [List.length_take] at hal
   rw [List.length_drop] at hbl
   obtain ⟨a',b',o,m1,m2,m3,m4⟩:=merge_l1 (bs:=bs) (a.length + b.length) a b [] FU (Nat.le_refl _) (by unfold FU; omega) (by simp only [List.length_nil]; omega) (fun x hx =>hl x (List.mem_of_mem_take (a2.mem_iff.1 hx))) (fun x hx =>hl x (List.mem_of_mem_drop (b2.mem_iff.1 hx)))
   rw [m1]
   simp only [Option.bind_some,List.length_nil] at m4 ⊢
   rw [ap_ok (by omega) (by omega)]
   simp only [Option.bind_some]
   rw [ap_ok (by omega) (by rw [List.length_append]; omega)]
   refine ⟨o++a'++b',rfl,?_,?_⟩
   ·rw [m2,List.nil_append]
    have:=(mrg_perm (rkB bs) a b).trans (a2.append b2)
    rwa [List.take_append_drop] at this
   ·rw [m2,List.nil_append]
    refine mrg_sorted _ _ _ a3 b3 fun x hx y hy =>?_
    have hx':=a2.mem_iff.1 hx
    have hy':=b2.mem_iff.1 hy
    have:=hs
    rw [← List.take_append_drop (l.length / 2) l,List.pairwise_append] at this
    exact this.2.2 x hx' y hy'
def pendL : List T_api_Bound→Nat→List Int
 | [],_ =>[]
 | x :: l,k =>if x.On = ⟨#[]⟩ then (k : Int) :: pendL l (k + 1) else pendL l (k + 1)
theorem pendL_ge : ∀ (l : List T_api_Bound) (k : Nat) (x : Int),x ∈ pendL l k→(k : Int)≤x∧x < (k : Int) + (l.length : Int)
 | [],k,x,h =>by cases h
 | y :: l,k,x,h =>by
  rw [pendL] at h
  rw [List.length_cons]
  by_cases e : y.On = ⟨#[]⟩
  ·rw [if_pos e] at h
   rcases List.mem_cons.1 h with rfl | h
   ·omega
   ·have:=pendL_ge l (k + 1) x h; omega
  ·rw [if_neg e] at h
   have:=pendL_ge l (k + 1) x h; omega
theorem pendL_inc : ∀ (l : List T_api_Bound) (k : Nat),(pendL l k).Pairwise (· < ·)
 | [],_ =>List.Pairwise.nil
 | y :: l,k =>by
  rw [pendL]
  by_cases e : y.On = ⟨#[]⟩
  ·rw [if_pos e,List.pairwise_cons]
   exact ⟨fun x hx =>by have:=pendL_ge l (k + 1) x hx; omega,pendL_inc l (k + 1)⟩
  ·rw [if_neg e]; exact pendL_inc l (k + 1)
theorem pendL_len : ∀ (l : List T_api_Bound) (k : Nat),(pendL l k).length≤l.length
 | [],_ =>Nat.le_refl _
 | y :: l,k =>by
  have:=pendL_len l (k + 1)
  rw [pendL,List.length_cons]
  split
  ·rw [List.length_cons]; omega
  ·omega
theorem pendL_mem : ∀ (l : List T_api_Bound) (k : Nat) (i : Nat),(((k + i : Nat) : Int) ∈ pendL l k↔∃ h : i < l.length,l[i].On = ⟨#[]⟩)
 | [],k,i =>by simp [pendL]
 | y :: l,k,i =>by
  rw [pendL]
  cases i with
  | zero =>
   by_cases e : y.On = ⟨#[]⟩
   ·rw [if_pos e]; simp [e]
   ·rw [if_neg e]
    constructor
    ·intro h
     have:=pendL_ge l (k + 1) _ h
     omega
    ·rintro ⟨_,h⟩
     exact absurd h e
  | succ i =>
   have ih:=pendL_mem l (k + 1) i
   have e1 : ((k + 1 + i : Nat) : Int) = ((k + (i + 1) : Nat) : Int):=by omega
   rw [e1] at ih
   by_cases e : y.On = ⟨#[]⟩
   ·rw [if_pos e,List.mem_cons,ih]
    constructor
    ·rintro (h | ⟨h1,h2⟩)
     ·omega
     ·exact ⟨by simp; omega,by simpa using h2⟩
    ·rintro ⟨h1,h2⟩
     exact .inr ⟨by simpa using h1,by simpa using h2⟩
   ·rw [if_neg e,ih]
    constructor
    ·rintro ⟨h1,h2⟩
     exact ⟨by simp; omega,by simpa using h2⟩
    ·rintro ⟨h1,h2⟩
     exact ⟨by simpa using h1,by simpa using h2⟩
theorem Order_ok {bs : List T_api_Bound} (hl : bs.length≤400) : ∃ r,sched_Order bs = some r∧r.Perm (pendL bs 0)∧r.Pairwise (Rk (rkB bs)):=by
 unfold sched_Order
 have key : ∀ (l : List T_api_Bound) (k : Nat) (acc : List Int),l.length + acc.length≤1000→sched_Order.l1 l k acc = some (acc++pendL l k):=by
  intro l
  induction l with
  | nil =>intro k acc _; simp [sched_Order.l1,pendL]
  | cons x l ih =>
   intro k acc h
   rw [List.length_cons] at h
   rw [sched_Order.l1,pendL,seq_eq]
   by_cases e : x.On = ⟨#[]⟩
   ·rw [if_pos (by simpa using e),if_pos e,ap_ok (by omega) (by simp; omega)]
    simp only [Option.bind_some]
    rw [ih (k + 1) _ (by simp; omega)]
    simp
   ·rw [if_neg (by simpa using e),if_neg e,ih (k + 1) acc (by omega)]
 rw [key bs 0 [] (by simp; omega),List.nil_append]
 simp only [Option.bind_some]
 have hpl:=pendL_len bs 0
 obtain ⟨r,h1,h2,h3⟩:=sorted_ok (bs:=bs) (pendL bs 0).length (pendL bs 0) FU (Nat.le_refl _) (by unfold FU; omega) (by omega) (fun x hx =>by have:=pendL_ge bs 0 x hx; omega) (pendL_inc bs 0)
 rw [h1]
 exact ⟨r,rfl,h2,h3⟩
end Go.Proofs.YtbgfffdnaijmhaaGreat.M
/-
  Plain laws: what fewer pods leave possible, and what a pod that is put where it can be leaves possible. Own text.
-/
namespace Go.Proofs.YtbgfffdnaijmhaaGreat.M
open Go Go.Proofs Go.Proofs.YtbgfffdnaijmhaaGreat.V
set_option linter.unusedVariables false
end Go.Proofs.YtbgfffdnaijmhaaGreat.M
/-
  Plain laws of the scheduler: what its guards give. Own text.
-/
namespace Go.Proofs.YtbgfffdnaijmhaaGreat.M
open Go Go.Proofs Go.Proofs.YtbgfffdnaijmhaaGreat.V
set_option linter.unusedVariables false
end Go.Proofs.YtbgfffdnaijmhaaGreat.M

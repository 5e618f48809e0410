/-
  Printed by a program of this session out of the loaded functions: models and their proofs. Own text.
-/
import Derived.Test.YtbgfffdnaijmhaaGreatPFit0
import Derived.Test.YtbgfffdnaijmhaaGreatPBor
import Derived.Test.YtbgfffdnaijmhaaGreatPLess
import Derived.Test.YtbgfffdnaijmhaaGreatPYard
/-
  Plain laws: what the document says is on a machine. Own text.
-/
namespace Go.Proofs.YtbgfffdnaijmhaaGreat.M
open Go Go.Proofs Go.Proofs.YtbgfffdnaijmhaaGreat.V
set_option linter.unusedVariables false
end Go.Proofs.YtbgfffdnaijmhaaGreat.M
/-
  Plain laws: what the document says is on a machine, used there, and left. Own text.
-/
namespace Go.Proofs.YtbgfffdnaijmhaaGreat.M
open Go Go.Proofs Go.Proofs.YtbgfffdnaijmhaaGreat.V
set_option linter.unusedVariables false
end Go.Proofs.YtbgfffdnaijmhaaGreat.M
/-
  Plain laws: labels, terms, taints, and whether a pod suits a machine, told alike by the program and the document. Own text.
-/
namespace Go.Proofs.YtbgfffdnaijmhaaGreat.M
open Go Go.Proofs Go.Proofs.YtbgfffdnaijmhaaGreat.V
set_option linter.unusedVariables false
theorem idxFindL {α ρ : Type} {F : Nat→Int→Option (Out ρ Unit)} {l : List α} (q : α→Bool) (v : α→ρ) (hl : l.length < 1000000000000)
    (hs : ∀ n (k : Nat) (hk : k < l.length),F (n + 1) (k : Int) = if q l[k] = true then some (Out.ret (v l[k])) else F n ((k + 1 : Nat) : Int)) (he : ∀ n,F (n + 1) (l.length : Int) = some (Out.go ())) :
    F FU 0 = some (match l.find? q with | some x =>Out.ret (v x) | none =>Out.go ()):=by
  have key : ∀ (m k n : Nat),l.length - k≤m→m < n→k≤l.length→F n (k : Int) = some (match (l.drop k).find? q with | some x =>Out.ret (v x) | none =>Out.go ()):=by
    intro m
    induction m with
    | zero =>
      intro k n h1 h2 h3
      obtain ⟨n,rfl⟩ : ∃ q,n = q + 1:=⟨n - 1,by omega⟩
      obtain rfl : k = l.length:=by omega
      rw [he,List.drop_eq_nil_of_le (Nat.le_refl _)]; rfl
    | succ m ih =>
      intro k n h1 h2 h3
      obtain ⟨n,rfl⟩ : ∃ q,n = q + 1:=⟨n - 1,by omega⟩
      by_cases hk : k < l.length
      · rw [hs n k hk,List.drop_eq_getElem_cons hk,List.find?_cons]
        cases hq : q l[k] with
        | true =>rfl
        | false =>rw [if_neg (by simp),ih (k + 1) n (by omega) (by omega) (by omega)]
      · obtain rfl : k = l.length:=by omega
        rw [he,List.drop_eq_nil_of_le (Nat.le_refl _)]; rfl
  have:=key l.length 0 FU (by omega) (by unfold FU; omega) (Nat.zero_le _)
  rw [List.drop_zero] at this
  exact this
def sortedL (l : List T_api_Label) : Prop:=l.Pairwise fun a b =>V.slt a.Key b.Key = true
theorem sorted_of {l : List T_api_Label} (h : LL l) (hr : ref05_Right l = some true) : sortedL l:=by
  obtain ⟨hl,hs⟩:=h
  unfold ref05_Right at hr
  split at hr
  · cases hr
  have hstep : ∀ k (hk : k < l.length),0 < k→V.slt (l[k - 1]'(by omega)).Key l[k].Key = true:=by
    rcases loopI (F:=fun n i =>ref05_Right.l1 l n i) (Q:=fun r =>r = false) (S:=fun k =>∀ hk : k < l.length,0 < k→V.slt (l[k - 1]'(by omega)).Key l[k].Key = true) (len:=l.length) (by omega) (fun n k hk =>by
        have hsk:=hs k hk
        rw [ref05_Right.l1,if_pos (dlt hk),glk hk,wk1 (by omega)]
        simp only [Option.bind_some]
        obtain ⟨w,hw⟩:=Word_tot (s:=l[k].Key) (by omega)
        obtain ⟨mb,hmb⟩:=maybe5_tot hsk.2
        rw [hw]
        simp only [Option.bind_some,hmb]
        by_cases h0 : 0 < k
        · have h0' : (decide ((k : Int) > 0)) = true:=by simp; omega
          simp only [h0',if_true,glp hk h0 (by omega),Option.bind_some]
          rw [Less_eq (hs (k - 1) (by omega)).1 hsk.1]
          cases hlt : V.slt (l[k - 1]'(by omega)).Key l[k].Key with
          | false =>left; cases w<;>cases mb<;>exact ⟨false,rfl,rfl⟩
          | true =>
            cases w
            · exact .inl ⟨false,rfl,rfl⟩
            · cases mb
              · exact .inl ⟨false,rfl,rfl⟩
              · exact .inr ⟨rfl,fun _ _ =>hlt⟩
        · have h0' : (decide ((k : Int) > 0)) = false:=by simp; omega
          simp only [h0',Bool.false_eq_true,if_false,Option.bind_some]
          cases w
          · exact .inl ⟨false,rfl,rfl⟩
          · cases mb
            · exact .inl ⟨false,rfl,rfl⟩
            · exact .inr ⟨rfl,fun _ q =>absurd q h0⟩) (fun n =>by rw [ref05_Right.l1,if_neg dnl]) with ⟨r,h1,rfl⟩ | ⟨h1,h2⟩
    · rw [h1] at hr; cases hr
    · exact fun k hk h0 =>h2 k hk hk h0
  unfold sortedL
  rw [List.pairwise_iff_getElem]
  have key : ∀ (d i j : Nat) (hi : i < l.length) (hj : j < l.length),j = i + d + 1→V.slt l[i].Key l[j].Key = true:=by
    intro d
    induction d with
    | zero =>
      intro i j hi hj e
      subst e
      have:=hstep (i + 1) hj (by omega)
      exact this
    | succ d ih =>
      intro i j hi hj e
      have h1:=ih i (j - 1) hi (by omega) (by omega)
      have h2:=hstep j hj (by omega)
      exact slt_trans h1 h2
  intro i j hi hj hij
  exact key (j - i - 1) i j hi hj (by omega)
def getS (l : List T_api_Label) (key : ByteArray) : ByteArray × Bool:=match l.find? (fun x =>decide (x.Key = key)) with | some x =>(x.Val,true) | none =>(⟨#[]⟩,false)
theorem Get5_eq {l : List T_api_Label} (hl : l.length≤1000) (key : ByteArray) : ref05_Get l key = some (getS l key):=by
  unfold ref05_Get getS
  have:=idxFindL (F:=fun n i =>ref05_Get.l1 l key n i) (l:=l) (fun x =>decide (x.Key = key)) (fun x =>(x.Val,true)) (by omega) (fun n k hk =>by
    rw [ref05_Get.l1,if_pos (dlt hk),glk hk,wk1 (by omega)]
    simp only [Option.bind_some,seq_eq]) (fun n =>by rw [ref05_Get.l1,if_neg dnl])
  rw [show ref05_Get.l1 l key FU 0 = _ from this]
  cases l.find? (fun x =>decide (x.Key = key))<;>rfl
theorem labels_Get_eq {l : List T_api_Label} (hs : sortedL l) (key : ByteArray) : labels_Get l key = some (getS l key):=by
  unfold labels_Get labels_at
  have hat : ∀ (l2 : List T_api_Label) (k : Nat),l.drop k = l2→sortedL l2→((labels_at.l1 key l2 k).bind fun o =>o.on fun j =>some ((l.length : Int),false)).bind (fun r =>if (!r.2) = true then some ((⟨#[]⟩ : ByteArray),false) else (V.gl l r.1).bind fun x =>some (x.Val,true)) = some (getS l2 key):=by
    intro l2
    induction l2 with
    | nil =>intro k _ _; rfl
    | cons x l2 ih =>
      intro k hd hs
      have hk : k < l.length:=by
        have:=congrArg List.length hd
        rw [List.length_drop,List.length_cons] at this
        omega
      have hx : l[k] = x:=by
        rw [List.drop_eq_getElem_cons hk] at hd
        exact (List.cons.inj hd).1
      have hd2 : l.drop (k + 1) = l2:=by
        rw [List.drop_eq_getElem_cons hk] at hd
        exact (List.cons.inj hd).2
      rw [labels_at.l1]
      unfold sortedL at hs
      rw [List.pairwise_cons] at hs
      cases h : V.slt x.Key key with
      | true =>
        rw [if_neg (by simp),ih (k + 1) hd2 hs.2]
        unfold getS
        have : ¬ x.Key = key:=fun e =>by rw [e,slt_irr] at h; cases h
        rw [List.find?_cons,show decide (x.Key = key) = false by simpa using this]
      | false =>
        rw [if_pos (by simp)]
        simp only [Option.bind_some,Out.on,seq_eq]
        unfold getS
        rw [List.find?_cons]
        by_cases e : x.Key = key
        · rw [show decide (x.Key = key) = true by simpa using e]
          simp only [Bool.not_true,Bool.false_eq_true,if_false,glk hk,Option.bind_some,hx]
        · rw [show decide (x.Key = key) = false by simpa using e]
          have : l2.find? (fun x =>decide (x.Key = key)) = none:=List.find?_eq_none.2 fun y hy =>by
            have h1:=hs.1 y hy
            have : ¬ y.Key = key:=fun e2 =>by
              rw [e2] at h1
              rw [h1] at h; cases h
            simpa using this
          rw [this]
          rfl
  exact hat l 0 rfl hs
theorem Has5_l1 {l s : List T_api_Label} (hl : l.length≤1000) (hs : s.length≤1000) : ref05_Has l s = some (s.all fun x =>(getS l x.Key).2 && decide ((getS l x.Key).1 = x.Val)):=by
  unfold ref05_Has
  have:=idxAll (F:=fun n i =>ref05_Has.l1 l s n i) (len:=s.length) (r0:=false) (fun k =>if hk : k < s.length then (getS l s[k].Key).2 && decide ((getS l s[k].Key).1 = s[k].Val) else true) (by omega) (fun n k hk =>by
    rw [ref05_Has.l1,if_pos (dlt hk),glk hk,wk1 (by omega),dif_pos hk]
    simp only [Option.bind_some,Get5_eq hl,seq_eq]
    cases (getS l s[k].Key).2<;>cases decide ((getS l s[k].Key).1 = s[k].Val)<;>rfl) (fun n =>by rw [ref05_Has.l1,if_neg dnl])
  rw [show ref05_Has.l1 l s FU 0 = _ from this]
  have e : allN s.length (fun k =>if hk : k < s.length then (getS l s[k].Key).2 && decide ((getS l s[k].Key).1 = s[k].Val) else true) = s.all fun x =>(getS l x.Key).2 && decide ((getS l x.Key).1 = x.Val):=by
    rw [Bool.eq_iff_iff,allN_iff,List.all_eq_true]
    constructor
    · intro h x hx
      obtain ⟨i,hi,rfl⟩:=List.getElem_of_mem hx
      have:=h i hi
      rw [dif_pos hi] at this
      exact this
    · intro h k hk
      rw [dif_pos hk]
      exact h _ (List.getElem_mem hk)
  rw [e]
  cases s.all fun x =>(getS l x.Key).2 && decide ((getS l x.Key).1 = x.Val)<;>rfl
theorem labels_Has_eq {l : List T_api_Label} (hs : sortedL l) (s : List T_api_Label) : labels_Has l s = some (s.all fun x =>(getS l x.Key).2 && decide ((getS l x.Key).1 = x.Val)):=by
  unfold labels_Has
  have key : ∀ (s : List T_api_Label) (k : Nat),labels_Has.l1 l s k = some (if (s.all fun x =>(getS l x.Key).2 && decide ((getS l x.Key).1 = x.Val)) = true then Out.go () else Out.ret false):=by
    intro s
    induction s with
    | nil =>intro k; rfl
    | cons x s ih =>
      intro k
      rw [labels_Has.l1,labels_Get_eq hs,ih,List.all_cons]
      simp only [Option.bind_some,seq_eq]
      cases (getS l x.Key).2<;>cases decide ((getS l x.Key).1 = x.Val)<;>rfl
  rw [key]
  cases s.all fun x =>(getS l x.Key).2 && decide ((getS l x.Key).1 = x.Val)<;>rfl
theorem Has_same {l s : List T_api_Label} (hl : l.length≤1000) (hn : s.length≤1000) (hs : sortedL l) : ref05_Has l s = labels_Has l s:=by rw [Has5_l1 hl hn,labels_Has_eq hs]
theorem Has5_B {l s : List T_api_Label} (hl : l.length≤1000) (hn : s.length≤1000) (hs : sortedL l) : ref05_Has l s = some (hasB l s):=by rw [Has_same hl hn hs,has_B]
end Go.Proofs.YtbgfffdnaijmhaaGreat.M

/-
  Printed by a program of this session out of the loaded functions: models and their proofs. Own text.
-/
import Derived.Test.YtbgfffdnaijmhaaGreatPLess
import Derived.Test.YtbgfffdnaijmhaaGreatPRes
import Derived.Test.YtbgfffdnaijmhaaGreatPChk
/-
  Plain laws: whether labels and terms can be is told alike by the program and the document. Own text.
-/
namespace Go.Proofs.YtbgfffdnaijmhaaGreat.M
open Go Go.Proofs Go.Proofs.YtbgfffdnaijmhaaGreat.V
set_option linter.unusedVariables false
theorem loopL {α ρ : Type} {F : Nat→Int→Option (Out ρ Unit)} {l : List α} {r0 : ρ} (q : α→Bool) (hl : l.length < 1000000000000) (hs : ∀ n (k : Nat) (hk : k < l.length),F (n + 1) (k : Int) = if q l[k] = true then F n ((k + 1 : Nat) : Int) else some (Out.ret r0))
    (he : ∀ n,F (n + 1) (l.length : Int) = some (Out.go ())) : F FU 0 = some (if l.all q = true then Out.go () else Out.ret r0):=by
  rcases loopI (Q:=fun r =>r = r0∧l.all q = false) (S:=fun k =>∀ hk : k < l.length,q l[k] = true) hl (fun n k hk =>by
      rw [hs n k hk]
      cases h : q l[k] with
      | true =>exact .inr ⟨rfl,fun _ =>h⟩
      | false =>exact .inl ⟨_,rfl,rfl,List.all_eq_false.2 ⟨l[k],List.getElem_mem _,by simp [h]⟩⟩) he with ⟨r,h1,rfl,h3⟩ | ⟨h1,h2⟩
  · rw [h1,if_neg (by rw [h3]; simp)]
  · rw [h1,if_pos]
    rw [List.all_eq_true]
    intro x hx
    obtain ⟨i,hi,rfl⟩:=List.getElem_of_mem hx
    exact h2 i hi hi
theorem Term_same {t : T_api_Term} (h : LT t) : labels_RightTerm t = ref05_RightTerm t:=by
  obtain ⟨h1,h2,h3⟩:=h
  unfold labels_RightTerm ref05_RightTerm
  rw [Word_same (by omega)]
  obtain ⟨w,hw⟩:=Word_tot (s:=t.Key) (by omega)
  rw [hw]
  simp only [Option.bind_some]
  cases w with
  | false =>rfl
  | true =>
    simp only [Bool.not_true,Bool.false_eq_true,if_false]
    -- the loop over values
    obtain ⟨mb,hmb⟩ : ∃ mb : ByteArray→Bool,∀ s : ByteArray,s.size≤300→ref05_maybe s = some (mb s):=⟨fun s =>(ref05_maybe s).getD false,fun s hs =>by
      obtain ⟨b,hb⟩:=maybe5_tot hs
      simp [hb]⟩
    have hP : labels_RightTerm.l1 t.Vals 0 = some (if t.Vals.all mb = true then Out.go () else Out.ret (Out.ret false)):=by
      have key : ∀ (l : List ByteArray) (k : Nat),(∀ s,s ∈ l→s.size≤300)→labels_RightTerm.l1 l k = some (if l.all mb = true then Out.go () else Out.ret (Out.ret false)):=by
        intro l
        induction l with
        | nil =>intro k _; rfl
        | cons x l ih =>
          intro k hx
          rw [labels_RightTerm.l1,lmaybe_same (hx x (by simp)),hmb x (hx x (by simp)),ih (k + 1) (fun s hs =>hx s (by simp [hs]))]
          simp only [Option.bind_some,List.all_cons]
          by_cases hb : mb x = true<;>simp [hb]
      exact key t.Vals 0 (fun s hs =>by
        obtain ⟨i,hi,rfl⟩:=List.getElem_of_mem hs
        exact h3 i hi)
    have hR : ref05_RightTerm.l1 t FU 0 = some (if t.Vals.all mb = true then Out.go () else Out.ret false):=by
      refine loopL (F:=fun n i =>ref05_RightTerm.l1 t n i) mb (by omega) (fun n k hk =>?_) (fun n =>by rw [ref05_RightTerm.l1,if_neg dnl])
      rw [ref05_RightTerm.l1,if_pos (dlt hk),glk hk,wk1 (by omega)]
      simp only [Option.bind_some]
      rw [hmb _ (h3 k hk)]
      cases mb t.Vals[k]<;>rfl
    have hnum : t.Vals.length = 1→∃ x,V.gl t.Vals 0 = some x∧x.size≤300:=fun e =>⟨t.Vals[0]'(by omega),by
      rw [show (0 : Int) = ((0 : Nat) : Int) from rfl,glk (by omega)],h3 0 (by omega)⟩
    have hN : (if ((t.Vals.length : Int) == (1 : Int)) = true then (V.gl t.Vals (0 : Int)).bind fun x =>(labels_number x).bind fun r2 =>some r2.2 else some false) =
        (if ((t.Vals.length : Int) != (1 : Int)) = true then some false else (V.gl t.Vals (0 : Int)).bind fun x2 =>(ref03_Number x2).bind fun r3 =>some (r3.2 == (0 : Int))):=by
      by_cases e : t.Vals.length = 1
      · obtain ⟨x,g1,g2⟩:=hnum e
        rw [if_pos (by simp [e]),if_neg (by simp [e]),g1]
        simp only [Option.bind_some]
        unfold labels_number
        rw [Number_same g2]
        cases ref03_Number x<;>rfl
      · have e' : ¬ (t.Vals.length : Int) = 1:=by omega
        rw [if_neg (by simpa using e'),if_pos (by simpa using e')]
    by_cases o1 : t.Op = 1
    · rw [o1,hP,hR]
      cases t.Vals.all mb<;>rfl
    by_cases o2 : t.Op = 2
    · rw [o2,hP,hR]
      cases t.Vals.all mb<;>rfl
    by_cases o3 : t.Op = 3
    · rw [o3]; rfl
    by_cases o4 : t.Op = 4
    · rw [o4]; rfl
    by_cases o5 : t.Op = 5
    · rw [o5,hN]
      simp only [show ((5 : Int) == 1) = false from rfl,show ((5 : Int) == 2) = false from rfl,show ((5 : Int) == 3) = false from rfl,show ((5 : Int) == 4) = false from rfl,show ((5 : Int) == 5) = true from rfl,Bool.false_eq_true,if_false,if_true,Option.bind_some]
      cases (if ((t.Vals.length : Int) != (1 : Int)) = true then some false else (V.gl t.Vals (0 : Int)).bind fun x2 =>(ref03_Number x2).bind fun r3 =>some (r3.2 == (0 : Int)))<;>rfl
    by_cases o6 : t.Op = 6
    · rw [o6,hN]
      simp only [show ((6 : Int) == 1) = false from rfl,show ((6 : Int) == 2) = false from rfl,show ((6 : Int) == 3) = false from rfl,show ((6 : Int) == 4) = false from rfl,show ((6 : Int) == 5) = false from rfl,show ((6 : Int) == 6) = true from rfl,Bool.false_eq_true,if_false,if_true,Option.bind_some]
      cases (if ((t.Vals.length : Int) != (1 : Int)) = true then some false else (V.gl t.Vals (0 : Int)).bind fun x2 =>(ref03_Number x2).bind fun r3 =>some (r3.2 == (0 : Int)))<;>rfl
    have e1 : (t.Op == 1) = false:=by simpa using o1
    have e2 : (t.Op == 2) = false:=by simpa using o2
    have e3 : (t.Op == 3) = false:=by simpa using o3
    have e4 : (t.Op == 4) = false:=by simpa using o4
    have e5 : (t.Op == 5) = false:=by simpa using o5
    have e6 : (t.Op == 6) = false:=by simpa using o6
    simp only [e1,e2,e3,e4,e5,e6,Bool.false_eq_true,if_false,Option.bind_some]
    rfl
theorem LabelsRight_same {l : List T_api_Label} (h : LL l) : labels_Right l = ref05_Right l:=by
  obtain ⟨hl,hs⟩:=h
  -- the rounds are alike
  have key : ∀ (l2 : List T_api_Label) (k : Nat) (had : List (ByteArray × Int)) (f : Nat),l.drop k = l2→l2.length < f→(∀ key,V.mg had key = if (∃ j,∃ hj : j < l.length,j < k∧l[j].Key = key) then some 1 else none) →
      (∀ j (hj : j < l.length) (hk : 0 < k) (hkl : k - 1 < l.length),j < k→l[j].Key = l[k - 1].Key∨V.slt l[j].Key l[k - 1].Key = true) →
      labels_Right.l1 l l2 k had = ref05_Right.l1 l f (k : Int):=by
    intro l2
    induction l2 with
    | nil =>
      intro k had f hd hf hm ho
      obtain ⟨f,rfl⟩ : ∃ q,f = q + 1:=⟨f - 1,by simp at hf; omega⟩
      have : l.length≤k:=List.drop_eq_nil_iff.1 hd
      rw [labels_Right.l1,ref05_Right.l1,if_neg (by simp; omega)]
    | cons x l2 ih =>
      intro k had f hd hf hm ho
      obtain ⟨f,rfl⟩ : ∃ q,f = q + 1:=⟨f - 1,by simp at hf; omega⟩
      have hk : k < l.length:=by
        have:=congrArg List.length hd
        rw [List.length_drop,List.length_cons] at this
        omega
      have hx : l[k] = x:=by
        rw [List.drop_eq_getElem_cons hk] at hd
        exact (List.cons.inj hd).1
      have hd2 : l.drop (k + 1) = l2:=by
        rw [List.drop_eq_getElem_cons hk] at hd
        exact (List.cons.inj hd).2
      have hsx:=hs k hk
      rw [hx] at hsx
      obtain ⟨w,hw⟩:=Word_tot (s:=x.Key) (by omega)
      obtain ⟨mb,hmb⟩:=maybe5_tot hsx.2
      rw [labels_Right.l1,ref05_Right.l1,if_pos (dlt hk),glk hk,wk1 (by omega),hx,Word_same hsx.1,lmaybe_same hsx.2,hw,hmb]
      simp only [Option.bind_some,mg_mp,if_true,Option.getD_some]
      -- what stands ahead
      by_cases hdup : ∃ j,∃ hj : j < l.length,j < k∧l[j].Key = x.Key
      · -- twice
        have hm1 : V.mg had x.Key = some 1:=by rw [hm,if_pos hdup]
        rw [hm1]
        simp only [Option.getD_some]
        obtain ⟨j,hj,hjk,hje⟩:=hdup
        have hk0 : 0 < k:=by omega
        rw [if_pos (show (decide (IntKind.i64.wrap ((1 : Int) + 1) > 1)) = true by decide)]
        simp only [Option.bind_some,if_true]
        -- the document: not less
        have hnl : V.slt l[k - 1].Key x.Key = false:=by
          rcases ho j hj hk0 (by omega) hjk with e | e
          · rw [← e,hje]; exact slt_irr _
          · cases hc : V.slt l[k - 1].Key x.Key with
            | false =>rfl
            | true =>
              rw [hje] at e
              have:=slt_trans e hc
              rw [slt_irr] at this; cases this
        rw [if_pos (show (decide ((k : Int) > 0)) = true by simp; omega),glp hk hk0 (by omega)]
        simp only [Option.bind_some]
        rw [Less_eq (hs (k - 1) (by omega)).1 hsx.1,hnl,hw]
        simp only [Option.bind_some,hmb]
        cases w<;>cases mb<;>rfl
      · have hm1 : V.mg had x.Key = none:=by rw [hm,if_neg hdup]
        rw [hm1]
        simp only [Option.getD_none]
        rw [if_neg (show ¬ (decide (IntKind.i64.wrap ((0 : Int) + 1) > 1)) = true by decide)]
        have hnext : ∀ (hlt : k = 0∨∃ h0 : 0 < k,V.slt (l[k - 1]'(by omega)).Key x.Key = true),labels_Right.l1 l l2 (k + 1) (V.mp had x.Key (IntKind.i64.wrap ((0 : Int) + 1))) = ref05_Right.l1 l f ((k + 1 : Nat) : Int):=by
          intro hlt
          refine ih (k + 1) _ f hd2 (by simp only [List.length_cons] at hf; omega) (fun key =>?_) (fun j hj h0 hkl hjk =>?_)
          · rw [mg_mp]
            by_cases hkey : key = x.Key
            · subst hkey
              rw [if_pos rfl,if_pos ⟨k,hk,by omega,by rw [hx]⟩]
              rfl
            · rw [if_neg hkey,hm]
              have : (∃ j,∃ hj : j < l.length,j < k + 1∧l[j].Key = key)↔(∃ j,∃ hj : j < l.length,j < k∧l[j].Key = key):=by
                constructor
                · rintro ⟨j,hj,hjk,e⟩
                  by_cases ejk : j = k
                  · subst ejk; rw [hx] at e; exact absurd e.symm hkey
                  · exact ⟨j,hj,by omega,e⟩
                · rintro ⟨j,hj,hjk,e⟩; exact ⟨j,hj,by omega,e⟩
              by_cases hc : ∃ j,∃ hj : j < l.length,j < k∧l[j].Key = key
              · rw [if_pos hc,if_pos (this.2 hc)]
              · rw [if_neg hc,if_neg (fun q =>hc (this.1 q))]
          · simp only [Nat.add_sub_cancel,hx]
            by_cases ejk : j = k
            · subst ejk; rw [hx]; exact .inl rfl
            · right
              rcases hlt with h | ⟨h0,h⟩
              · omega
              · rcases ho j hj h0 (by omega) (by omega) with e | e
                · rw [e]; exact h
                · exact slt_trans e h
        rw [hw]
        simp only [Option.bind_some,hmb]
        by_cases hk0 : 0 < k
        · simp only [show (decide ((k : Int) > 0)) = true by simp; omega,if_true,glp hk hk0 (by omega),Option.bind_some]
          rw [Less_eq (hs (k - 1) (by omega)).1 hsx.1,seq_eq]
          have hne : ¬ l[k - 1].Key = x.Key:=fun e =>hdup ⟨k - 1,by omega,by omega,e⟩
          have hdec : decide (l[k - 1].Key = x.Key) = false:=by simpa using hne
          rw [hdec,Bool.or_false]
          cases hlt : V.slt l[k - 1].Key x.Key with
          | false =>cases w<;>cases mb<;>rfl
          | true =>
            have hn:=hnext (.inr ⟨hk0,hlt⟩)
            cases w with
            | false =>rfl
            | true =>
              cases mb with
              | false =>rfl
              | true =>exact hn
        · simp only [show (decide ((k : Int) > 0)) = false by simp; omega,Bool.false_eq_true,if_false,Option.bind_some]
          have hn:=hnext (.inl (by omega))
          cases w with
          | false =>rfl
          | true =>
            cases mb with
            | false =>rfl
            | true =>exact hn
  have hk:=key l 0 [] FU rfl (by unfold FU; omega) (fun key =>by
    rw [if_neg]
    · rfl
    · rintro ⟨j,_,hj,_⟩; omega) (fun j hj h0 =>by omega)
  have hk' : labels_Right.l1 l l 0 [] = ref05_Right.l1 l FU 0:=hk
  unfold labels_Right ref05_Right
  rw [hk']
  by_cases h16 : (l.length : Int) > 16
  · rw [if_pos (by simpa using h16)]
    obtain ⟨o,ho⟩ : isS (ref05_Right.l1 l FU 0):=by
      refine T.loop (F:=fun n i =>ref05_Right.l1 l n i) (len:=l.length) (by omega) (fun n k hk ih =>?_) (fun n =>?_)
      · have hsk:=hs k hk
        rw [ref05_Right.l1,if_pos (dlt hk),glk hk,wk1 (by omega)]
        simp only [Option.bind_some]
        refine T.bind (Word_tot (by omega)) fun r _ =>T.bind (T.ite (fun _ =>T.pure _) fun _ =>T.bind (maybe5_tot hsk.2) fun _ _ =>T.pure _) fun c _ =>?_
        refine T.bind (T.ite (fun _ =>T.pure _) fun _ =>T.bind (T.ite (fun h0 =>?_) fun _ =>T.pure _) fun _ _ =>T.pure _) fun _ _ =>T.ite (fun _ =>T.pure _) fun _ =>ih
        have h0' : 0 < k:=by simpa using h0
        rw [glp hk h0' (by omega)]
        simp only [Option.bind_some]
        exact T.bind (Less_tot (hs (k - 1) (by omega)).1 hsk.1) fun _ _ =>T.pure _
      · rw [ref05_Right.l1,if_neg dnl]; exact T.pure _
    rw [ho]
    have hret : ∀ r,ref05_Right.l1 l FU 0 = some (Out.ret r)→r = false:=by
      intro r hr
      have key2 : ∀ (m k f : Nat),l.length - k≤m→m < f→∀ r,ref05_Right.l1 l f (k : Int) = some (Out.ret r)→r = false:=by
        intro m
        induction m with
        | zero =>
          intro k f h1 h2 r hr
          obtain ⟨f,rfl⟩ : ∃ q,f = q + 1:=⟨f - 1,by omega⟩
          rw [ref05_Right.l1,if_neg (by simp; omega)] at hr
          cases hr
        | succ m ih =>
          intro k f h1 h2 r hr
          obtain ⟨f,rfl⟩ : ∃ q,f = q + 1:=⟨f - 1,by omega⟩
          by_cases hk : k < l.length
          · rw [ref05_Right.l1,if_pos (dlt hk),wk1 (by omega)] at hr
            obtain ⟨_,_,hr⟩:=Option.bind_eq_some_iff.1 hr
            obtain ⟨_,_,hr⟩:=Option.bind_eq_some_iff.1 hr
            obtain ⟨_,_,hr⟩:=Option.bind_eq_some_iff.1 hr
            obtain ⟨_,_,hr⟩:=Option.bind_eq_some_iff.1 hr
            split at hr
            · cases hr; rfl
            · exact ih (k + 1) f (by omega) (by omega) r hr
          · rw [ref05_Right.l1,if_neg (by simp; omega)] at hr
            cases hr
      exact key2 l.length 0 FU (by omega) (by unfold FU; omega) r hr
    cases o with
    | ret r =>
      rw [hret r ho]; rfl
    | go j =>
      show some (decide ((l.length : Int)≤16)) = some false
      congr 1
      simp; omega
  · rw [if_neg (by simpa using h16)]
    cases ref05_Right.l1 l FU 0 with
    | none =>rfl
    | some o =>
      cases o with
      | ret r =>rfl
      | go j =>
        show some (decide ((l.length : Int)≤16)) = some true
        congr 1
        simp; omega
end Go.Proofs.YtbgfffdnaijmhaaGreat.M
/-
  Plain Lean: loops that go on while something is so. Own text.
-/
namespace Go.Proofs.YtbgfffdnaijmhaaGreat.M
open Go Go.Proofs Go.Proofs.YtbgfffdnaijmhaaGreat.V
set_option linter.unusedVariables false
def allN (n : Nat) (q : Nat→Bool) : Bool:=(List.range n).all q
theorem allN_iff {n : Nat} {q : Nat→Bool} : allN n q = true↔∀ k,k < n→q k = true:=by simp [allN]
theorem allN_not {n : Nat} {q : Nat→Bool} : allN n q = false↔∃ k,k < n∧q k = false:=by simp [allN]
theorem idxAll {ρ : Type} {F : Nat→Int→Option (Out ρ Unit)} {len : Nat} {r0 : ρ} (q : Nat→Bool) (hl : len < 1000000000000)
  (hs : ∀ n (k : Nat),k < len→F (n + 1) (k : Int) = if q k = true then F n ((k + 1 : Nat) : Int) else some (Out.ret r0))
  (he : ∀ n,F (n + 1) (len : Int) = some (Out.go ())) : F FU 0 = some (if allN len q = true then Out.go () else Out.ret r0):=by
 rcases loopI (Q:=fun r =>r = r0∧allN len q = false) (S:=fun k =>k < len→q k = true) hl (fun n k hk =>by
   rw [hs n k hk]
   cases h : q k with
   | true =>exact .inr ⟨rfl,fun _ =>rfl⟩
   | false =>exact .inl ⟨_,rfl,rfl,allN_not.2 ⟨k,hk,h⟩⟩) he with ⟨r,h1,rfl,h3⟩ | ⟨h1,h2⟩
 ·rw [h1,if_neg (by rw [h3]; simp)]
 ·rw [h1,if_pos (allN_iff.2 fun k hk =>h2 k hk hk)]
theorem rowAll {α ρ : Type} {G : List α→Nat→Option (Out ρ Unit)} {l : List α} {r0 : ρ} (q : Nat→Bool)
  (hs : ∀ (k : Nat) (hk : k < l.length),G (l[k] :: l.drop (k + 1)) k = if q k = true then G (l.drop (k + 1)) (k + 1) else some (Out.ret r0))
  (he : ∀ k,G [] k = some (Out.go ())) : G l 0 = some (if allN l.length q = true then Out.go () else Out.ret r0):=by
 have key : ∀ (m k : Nat),l.length - k = m→((∀ j,k≤j→j < l.length→q j = true)→G (l.drop k) k = some (Out.go ()))∧((∃ j,k≤j∧j < l.length∧q j = false)→G (l.drop k) k = some (Out.ret r0)):=by
  intro m
  induction m with
  | zero =>
   intro k hk
   refine ⟨fun _ =>?_,fun ⟨j,h1,h2,_⟩ =>by omega⟩
   rw [List.drop_eq_nil_of_le (by omega)]; exact he k
  | succ m ih =>
   intro k hk
   have hkl : k < l.length:=by omega
   obtain ⟨i1,i2⟩:=ih (k + 1) (by omega)
   rw [List.drop_eq_getElem_cons hkl,hs k hkl]
   refine ⟨fun h =>?_,fun ⟨j,h1,h2,h3⟩ =>?_⟩
   ·rw [if_pos (h k (Nat.le_refl _) hkl)]
    exact i1 fun j a b =>h j (by omega) b
   ·by_cases hq : q k = true
    ·rw [if_pos hq]
     refine i2 ⟨j,?_,h2,h3⟩
     by_cases e : j = k
     ·subst e; rw [hq] at h3; cases h3
     ·omega
    ·rw [if_neg hq]
 obtain ⟨h1,h2⟩:=key l.length 0 rfl
 rw [List.drop_zero] at h1 h2
 cases h : allN l.length q with
 | true =>rw [if_pos rfl]; exact h1 fun j _ hj =>allN_iff.1 h j hj
 | false =>obtain ⟨k,a,b⟩:=allN_not.1 h; rw [if_neg (by simp)]; exact h2 ⟨k,Nat.zero_le _,a,b⟩
end Go.Proofs.YtbgfffdnaijmhaaGreat.M
/-
  Plain laws: whether machines, pods and yards are right is told alike by the program and the document. Own text.
-/
namespace Go.Proofs.YtbgfffdnaijmhaaGreat.M
open Go Go.Proofs Go.Proofs.YtbgfffdnaijmhaaGreat.V
set_option linter.unusedVariables false
def wordB (s : ByteArray) : Bool:=(ref01_Word s).getD false
def mayB (s : ByteArray) : Bool:=decide (s = ⟨#[]⟩) || wordB s
def labB (l : List T_api_Label) : Bool:=(ref05_Right l).getD false
def termB (t : T_api_Term) : Bool:=(ref05_RightTerm t).getD false
theorem is_getD {o : Option Bool} (h : isS o) : o = some (o.getD false):=by obtain ⟨r,rfl⟩:=h; rfl
theorem word_B {s : ByteArray} (h : s.size≤300) : ref01_Word s = some (wordB s):=is_getD (Word_tot (by omega))
theorem lword_B {s : ByteArray} (h : s.size≤300) : lex_Word s = some (wordB s):=by rw [Word_same h,word_B h]
theorem may6_B {s : ByteArray} (h : s.size≤300) : ref06_maybe s = some (mayB s):=by
 unfold ref06_maybe mayB
 rw [word_B h,seq_eq]
 by_cases e : s = ⟨#[]⟩<;>simp [e]
theorem may7_B {s : ByteArray} (h : s.size≤300) : ref07_maybe s = some (mayB s):=by
 unfold ref07_maybe mayB
 rw [word_B h,seq_eq]
 by_cases e : s = ⟨#[]⟩<;>simp [e]
theorem tmay_B {s : ByteArray} (h : s.size≤300) : taints_maybe s = some (mayB s):=by rw [tmaybe_same h,may6_B h]
theorem smay_B {s : ByteArray} (h : s.size≤300) : spec_maybe s = some (mayB s):=by rw [smaybe_same h,may7_B h]
theorem lab_B {l : List T_api_Label} (h : LL l) : ref05_Right l = some (labB l):=is_getD (Right5_tot h)
theorem llab_B {l : List T_api_Label} (h : LL l) : labels_Right l = some (labB l):=by rw [LabelsRight_same h,lab_B h]
theorem term_B {t : T_api_Term} (h : LT t) : ref05_RightTerm t = some (termB t):=is_getD (Term5_tot h)
theorem lterm_B {t : T_api_Term} (h : LT t) : labels_RightTerm t = some (termB t):=by rw [Term_same h,term_B h]
def d0 : T_api_Taint:=⟨⟨#[]⟩,⟨#[]⟩,0⟩
theorem getD_d {α : Type} {l : List α} {k : Nat} {d : α} (h : k < l.length) : l.getD k d = l[k]:=by simp [h]
def effB (n : Int) : Bool:=decide (n≥1) && decide (n≤3)
def tSame (a b : T_api_Taint) : Bool:=decide (a.Key = b.Key) && decide (a.Effect = b.Effect)
def tQ (l : List T_api_Taint) (k : Nat) : Bool:=wordB (l.getD k d0).Key && (mayB (l.getD k d0).Val && (effB (l.getD k d0).Effect && allN k fun j =>!tSame (l.getD j d0) (l.getD k d0)))
def taintsB (l : List T_api_Taint) : Bool:=allN l.length (tQ l) && decide (l.length≤16)
theorem known_eq (n : Int) : taints_known n = some (effB n):=by
 unfold taints_known effB
 by_cases h1 : n = 1
 ·subst h1; rfl
 by_cases h2 : n = 2
 ·subst h2; rfl
 by_cases h3 : n = 3
 ·subst h3; rfl
 have : ¬ (1≤n∧n≤3):=by omega
 have e : (decide (n≥1) && decide (n≤3)) = false:=by
  cases h : (decide (n≥1) && decide (n≤3)) with
  | false =>rfl
  | true =>simp at h; omega
 rw [e]
 simp [h1,h2,h3]
theorem take_drop {α : Type} {l : List α} {k j : Nat} (h : k≤l.length) (hj : j < k) : (l.take k)[j]'(by simp; omega) = l[j]:=by simp
theorem taints_Right_eq {l : List T_api_Taint} (h : LX l) : taints_Right l = some (taintsB l):=by
 obtain ⟨hl,hs⟩:=h
 unfold taints_Right taintsB
 have:=rowAll (G:=fun x k =>taints_Right.l1 l x k) (l:=l) (r0:=false) (tQ l) (fun k hk =>by
   have hsk:=hs k hk
   show taints_Right.l1 l (l[k] :: l.drop (k + 1)) k = _
   rw [taints_Right.l1,lword_B hsk.1,known_eq]
   simp only [Option.bind_some]
   rw [tmay_B hsk.2]
   have hv : V.sl l none (some (k : Int)) = some (l.take k):=by
    unfold V.sl
    rw [if_pos]
    ·simp [V.lowN,V.highN]
    ·simp [V.lowN,V.highN]; omega
   have hin : taints_Right.l2 l[k] (l.take k) 0 = some (if allN k (fun j =>!tSame (l.getD j d0) (l.getD k d0)) = true then Out.go () else Out.ret (Out.ret false)):=by
    have:=rowAll (G:=fun x j =>taints_Right.l2 l[k] x j) (l:=l.take k) (r0:=Out.ret false) (fun j =>!tSame (l.getD j d0) (l.getD k d0)) (fun j hj =>by
     have hjk : j < k:=by simp at hj; omega
     show taints_Right.l2 l[k] ((l.take k)[j] :: (l.take k).drop (j + 1)) j = _
     rw [taints_Right.l2,take_drop (by omega) hjk,getD_d (show j < l.length by omega),getD_d hk]
     simp only [taints_like,Option.bind_some]
     have hk1 : (l[k].Key == l[j].Key) = decide (l[j].Key = l[k].Key):=by rw [V.bytes_beq,decide_eq_decide]; exact eq_comm
     have hk2 : (l[k].Effect == l[j].Effect) = decide (l[j].Effect = l[k].Effect):=by
      by_cases e : l[j].Effect = l[k].Effect
      ·simp [e]
      ·have e' : ¬ l[k].Effect = l[j].Effect:=fun q =>e q.symm
       simp [e,e']
     rw [hk1,hk2]
     unfold tSame
     cases decide (l[j].Key = l[k].Key)<;>cases decide (l[j].Effect = l[k].Effect)<;>rfl) (fun j =>rfl)
    rw [show (l.take k).length = k by simp; omega] at this
    exact this
   rw [hv]
   simp only [Option.bind_some,hin]
   unfold tQ
   rw [getD_d hk]
   simp only [getD_d hk] at hin ⊢
   cases wordB l[k].Key<;>cases mayB l[k].Val<;>cases effB l[k].Effect<;>cases allN k (fun j =>!tSame (l.getD j d0) l[k])<;>rfl) (fun k =>rfl)
 rw [show taints_Right.l1 l l 0 = _ from this]
 cases allN l.length (tQ l) with
 | false =>rfl
 | true =>
  show some (decide ((l.length : Int)≤16)) = some (decide (l.length≤16))
  congr 1
  rw [decide_eq_decide]; omega
def e0 : T_api_Toleration:=⟨⟨#[]⟩,⟨#[]⟩,false,0⟩
def bOne (x : T_api_Toleration) : Bool:=mayB x.Key && (mayB x.Val && ((decide (x.Effect = 0) || effB x.Effect) && (!(x.Any && !decide (x.Val = ⟨#[]⟩)) && !(!x.Any && decide (x.Key = ⟨#[]⟩)))))
def bearsB (l : List T_api_Toleration) : Bool:=allN l.length (fun k =>bOne (l.getD k e0)) && decide (l.length≤16)
theorem bears_Right_eq {l : List T_api_Toleration} (h : LB l) : taints_RightBears l = some (bearsB l):=by
 obtain ⟨hl,hs⟩:=h
 unfold taints_RightBears bearsB
 have:=rowAll (G:=fun x k =>taints_RightBears.l1 x k) (l:=l) (r0:=false) (fun k =>bOne (l.getD k e0)) (fun k hk =>by
   have hsk:=hs k hk
   show taints_RightBears.l1 (l[k] :: l.drop (k + 1)) k = _
   rw [taints_RightBears.l1,tmay_B hsk.1,tmay_B hsk.2,known_eq,getD_d hk]
   simp only [Option.bind_some,seq_eq]
   unfold bOne
   by_cases e1 : l[k].Effect = 0<;>cases mayB l[k].Key<;>cases mayB l[k].Val<;>cases effB l[k].Effect<;>cases l[k].Any<;>by_cases e2 : l[k].Val = ⟨#[]⟩<;>by_cases e3 : l[k].Key = ⟨#[]⟩<;>simp [e1,e2,e3]) (fun k =>rfl)
 rw [show taints_RightBears.l1 l 0 = _ from this]
 cases allN l.length (fun k =>bOne (l.getD k e0)) with
 | false =>rfl
 | true =>
  show some (decide ((l.length : Int)≤16)) = some (decide (l.length≤16))
  congr 1
  rw [decide_eq_decide]; omega
def machB (m : T_api_Machine) : Bool:=mayB m.Name && (mayB m.Group && (resOK m.Has && (labB m.Labels && taintsB m.Taints)))
theorem spec_Mach_eq {m : T_api_Machine} (h : LM m) : spec_RightMachine m = some (machB m):=by
 unfold spec_RightMachine machB
 rw [smay_B h.name,smay_B h.group,res_Right_eq,llab_B h.labels,taints_Right_eq h.taints]
 cases mayB m.Name<;>cases mayB m.Group<;>cases resOK m.Has<;>cases labB m.Labels<;>cases taintsB m.Taints<;>rfl
def t0 : T_api_Term:=⟨⟨#[]⟩,0,[]⟩
def portQ (l : List Int) (k : Nat) : Bool:=(decide (l.getD k 0≥1) && decide (l.getD k 0≤65535)) && !(decide (0 < k) && decide (l.getD k 0≤l.getD (k - 1) 0))
def skewB (p : T_api_Pod) : Bool:=if p.Spread.length = 0 then decide (p.Skew = 0) else decide (p.Skew≥1) && decide (p.Skew≤100)
def podB (p : T_api_Pod) : Bool :=
 wordB p.Name && (resOK p.Need && (decide (p.Need.Pods = 1) && (mayB p.Owner && ((decide (p.Rank≥0) && decide (p.Rank≤1000)) && (decide (p.Terms.length≤16) && (decide (p.Ports.length≤16) &&
 (allN p.Terms.length (fun k =>termB (p.Terms.getD k t0)) && (allN p.Ports.length (portQ p.Ports) && (!(p.Wide && decide (p.Apart.length = 0)) && (skewB p && (labB p.Labels && (labB p.Select && (labB p.Apart && (labB p.Spread && bearsB p.Bears))))))))))))))
theorem ports_up {l : List Int} {k : Nat} (hk : k < l.length) (h : ∀ j,j < k→portQ l j = true) : 0 < (if k = 0 then (1 : Int) else l.getD (k - 1) 0):=by
 by_cases e : k = 0
 ·rw [if_pos e]; decide
 ·rw [if_neg e]
  have:=h (k - 1) (by omega)
  unfold portQ at this
  simp only [Bool.and_eq_true,decide_eq_true_eq] at this
  omega
theorem spec_ports {l : List Int} : spec_RightPod.l2 l 0 0 = some (if allN l.length (portQ l) = true then Out.go () else Out.ret false):=by
 -- what stood last is 0,or greater
 have key : ∀ (m k : Nat),l.length - k = m→(∀ j,j < k→portQ l j = true)→((∀ j,k≤j→j < l.length→portQ l j = true)→spec_RightPod.l2 (l.drop k) k (if k = 0 then 0 else l.getD (k - 1) 0) = some (Out.go ()))∧((∃ j,k≤j∧j < l.length∧portQ l j = false)→spec_RightPod.l2 (l.drop k) k (if k = 0 then 0 else l.getD (k - 1) 0) = some (Out.ret false)):=by
  intro m
  induction m with
  | zero =>
   intro k hk _
   refine ⟨fun _ =>?_,fun ⟨j,h1,h2,_⟩ =>by omega⟩
   rw [List.drop_eq_nil_of_le (by omega)]; rfl
  | succ m ih =>
   intro k hk hup
   have hkl : k < l.length:=by omega
   have hstep : spec_RightPod.l2 (l.drop k) k (if k = 0 then 0 else l.getD (k - 1) 0) = if portQ l k = true then spec_RightPod.l2 (l.drop (k + 1)) (k + 1) (if k + 1 = 0 then 0 else l.getD (k + 1 - 1) 0) else some (Out.ret false):=by
    rw [List.drop_eq_getElem_cons hkl,spec_RightPod.l2,if_neg (Nat.succ_ne_zero k),Nat.add_sub_cancel]
    have hpos:=ports_up hkl hup
    have hg : l[k] = l.getD k 0:=(getD_d hkl).symm
    have hq : ((decide (l[k]≤if k = 0 then 0 else l.getD (k - 1) 0)) || (decide (l[k] > (65535 : Int)))) = !portQ l k:=by
     unfold portQ
     rw [hg]
     by_cases e : k = 0
     ·subst e
      rw [if_pos rfl]
      generalize l.getD 0 0 = x
      by_cases a : x≥1<;>by_cases b : x≤65535<;>simp [a,b]<;>omega
     ·rw [if_neg e] at hpos ⊢
      have e' : decide (0 < k) = true:=by simp; omega
      rw [e',Bool.true_and]
      generalize l.getD (k - 1) 0 = y at *
      generalize l.getD k 0 = x at *
      by_cases a : x≥1<;>by_cases b : x≤65535<;>by_cases c : x≤y<;>simp [a,b,c]<;>omega
    rw [hq,hg]
    cases portQ l k<;>rfl
   rw [hstep]
   refine ⟨fun h =>?_,fun ⟨j,h1,h2,h3⟩ =>?_⟩
   ·have hqk:=h k (Nat.le_refl _) hkl
    rw [if_pos hqk]
    refine (ih (k + 1) (by omega) fun j hj =>?_).1 fun j a b =>h j (by omega) b
    by_cases e : j = k
    ·subst e; exact hqk
    ·exact hup j (by omega)
   ·by_cases hq : portQ l k = true
    ·rw [if_pos hq]
     refine (ih (k + 1) (by omega) fun j hj =>?_).2 ⟨j,?_,h2,h3⟩
     ·by_cases e : j = k
      ·subst e; exact hq
      ·exact hup j (by omega)
     ·by_cases e : j = k
      ·subst e; rw [hq] at h3; cases h3
      ·omega
    ·rw [if_neg hq]
 obtain ⟨h1,h2⟩:=key l.length 0 rfl (fun j hj =>by omega)
 rw [List.drop_zero,if_pos rfl] at h1 h2
 cases h : allN l.length (portQ l) with
 | true =>rw [if_pos rfl]; exact h1 fun j _ hj =>allN_iff.1 h j hj
 | false =>obtain ⟨k,a,b⟩:=allN_not.1 h; rw [if_neg (by simp)]; exact h2 ⟨k,Nat.zero_le _,a,b⟩
theorem dle {n m : Nat} : (decide ((n : Int) > (m : Int))) = !decide (n≤m):=by
 by_cases h : n≤m<;>simp [h]<;>omega
theorem dz {n : Nat} : ((n : Int) == (0 : Int)) = decide (n = 0):=by
 by_cases h : n = 0
 ·subst h; rfl
 ·have : ¬ (n : Int) = 0:=by omega
  simp [h]
theorem spec_terms {p : T_api_Pod} (h : LP p) : spec_RightPod.l1 p.Terms 0 = some (if allN p.Terms.length (fun k =>termB (p.Terms.getD k t0)) = true then Out.go () else Out.ret false):=by
 refine rowAll (G:=fun x k =>spec_RightPod.l1 x k) (l:=p.Terms) (fun k =>termB (p.Terms.getD k t0)) (fun k hk =>?_) (fun k =>rfl)
 show spec_RightPod.l1 (p.Terms[k] :: p.Terms.drop (k + 1)) k = _
 rw [spec_RightPod.l1,lterm_B (h.terms k hk),getD_d hk]
 cases termB p.Terms[k]<;>rfl
theorem spec_Pod_eq {p : T_api_Pod} (h : LP p) : spec_RightPod p = some (podB p):=by
 unfold spec_RightPod podB
 have e16 : (decide ((p.Terms.length : Int) > (16 : Int))) = !decide (p.Terms.length≤16):=dle (m:=16)
 have f16 : (decide ((p.Ports.length : Int) > (16 : Int))) = !decide (p.Ports.length≤16):=dle (m:=16)
 have hl3 : spec_RightPod.l3 [p.Labels,p.Select,p.Apart,p.Spread] 0 = some (if (labB p.Labels && (labB p.Select && (labB p.Apart && labB p.Spread))) = true then Out.go () else Out.ret false):=by
  simp only [spec_RightPod.l3,llab_B h.labels,llab_B h.select,llab_B h.apart,llab_B h.spread,Option.bind_some]
  cases labB p.Labels<;>cases labB p.Select<;>cases labB p.Apart<;>cases labB p.Spread<;>rfl
 have hsk : ∀ (k : Int × Int→Option Bool),((if (decide ((p.Spread.length : Int) > (0 : Int))) = true then some ((1 : Int),(100 : Int)) else some ((0 : Int),(0 : Int))).bind k) = k (if p.Spread.length = 0 then (0,0) else (1,100)):=by
  intro k
  by_cases q : p.Spread.length = 0
  ·rw [if_neg (by rw [q]; decide),if_pos q]; rfl
  ·rw [if_pos (by rw [decide_eq_true_eq]; omega),if_neg q]; rfl
 have hsb : spec_between p.Skew (if p.Spread.length = 0 then ((0 : Int),(0 : Int)) else (1,100)).1 (if p.Spread.length = 0 then ((0 : Int),(0 : Int)) else (1,100)).2 = some (skewB p):=by
  unfold spec_between skewB
  by_cases q : p.Spread.length = 0
  ·simp only [if_pos q]
   congr 1
   by_cases z : p.Skew = 0
   ·simp [z]
   ·have : decide (p.Skew = 0) = false:=by simpa using z
    rw [this]
    cases hh : (decide (p.Skew≥0) && decide (p.Skew≤0)) with
    | false =>rfl
    | true =>simp at hh; omega
  ·simp only [if_neg q]
 have hp : (p.Need.Pods != 1) = !decide (p.Need.Pods = 1):=by by_cases q : p.Need.Pods = 1<;>simp [q]
 have hr : spec_between p.Rank 0 1000 = some (decide (p.Rank≥0) && decide (p.Rank≤1000)):=rfl
 rw [spec_terms h,spec_ports,hl3]
 simp only [hsk,hsb,lword_B h.name,res_Right_eq,smay_B h.owner,bears_Right_eq h.bears,e16,f16,dz,hp,hr,Option.bind_some]
 generalize wordB p.Name = b1
 generalize resOK p.Need = b2
 generalize decide (p.Need.Pods = 1) = b3
 generalize mayB p.Owner = b4
 generalize (decide (p.Rank≥0) && decide (p.Rank≤1000)) = b5
 generalize decide (p.Terms.length≤16) = b6
 generalize decide (p.Ports.length≤16) = b7
 generalize allN p.Terms.length (fun k =>termB (p.Terms.getD k t0)) = b8
 generalize allN p.Ports.length (portQ p.Ports) = b9
 generalize labB p.Labels = c1
 generalize labB p.Select = c2
 generalize labB p.Apart = c3
 generalize labB p.Spread = c4
 generalize bearsB p.Bears = c5
 generalize (p.Wide && decide (p.Apart.length = 0)) = wd at *
 generalize skewB p = sk at *
 cases b8; · simp [Out.on]
 cases b9; · simp [Out.on]
 cases c1; · simp [Out.on]
 cases c2; · simp [Out.on]
 cases c3; · simp [Out.on]
 cases c4; · simp [Out.on]
 cases b1; · simp [Out.on]
 cases b4; · simp [Out.on]
 cases b2; · simp [Out.on]
 cases b3; · simp [Out.on]
 cases b6; · simp [Out.on]
 cases b7; · simp [Out.on]
 cases wd<;>cases sk<;>cases c5<;>cases b5<;>rfl
end Go.Proofs.YtbgfffdnaijmhaaGreat.M

/-
  Printed by a program of this session out of the loaded functions: models and their proofs. Own text.
-/
import Derived.Test.YtbgfffdnaijmhaaGreatPChk
import Derived.Test.YtbgfffdnaijmhaaGreatPRes
/-
  Plain laws of numbers: the program's and the document's are alike. Own text.
-/
namespace Go.Proofs.YtbgfffdnaijmhaaGreat.M
open Go Go.Proofs Go.Proofs.YtbgfffdnaijmhaaGreat.V
set_option linter.unusedVariables false
def digB (c : Int) : Bool:=decide (c≥48) && decide (c≤57)
theorem digits_same {s : ByteArray} (h : s.size≤300) : ∃ n : Nat,quant_head s = some (n : Int)∧ref03_digits s = some (n : Int)∧n≤s.size∧(n = s.size→∀ i,i < s.size→digB (bt s i) = true):=by
 have key : ∀ (m k f1 f2 : Nat),s.size - k≤m→m < f1→m < f2→k≤s.size→∃ n : Nat,quant_head.l1 s f1 (k : Int) = some (n : Int)∧ref03_digits.l1 s f2 (k : Int) = some (n : Int)∧k≤n∧n≤s.size∧∀ i,k≤i→i < n→digB (bt s i) = true:=by
  intro m
  induction m with
  | zero =>
   intro k f1 f2 h1 h2 h3 h4
   obtain ⟨f1,rfl⟩ : ∃ q,f1 = q + 1:=⟨f1 - 1,by omega⟩
   obtain ⟨f2,rfl⟩ : ∃ q,f2 = q + 1:=⟨f2 - 1,by omega⟩
   have hk : ¬ (decide ((k : Int) < (s.size : Int))) = true:=by simp; omega
   refine ⟨k,?_,?_,Nat.le_refl _,h4,fun i a b =>by omega⟩
   ·rw [quant_head.l1,if_neg hk]; rfl
   ·rw [ref03_digits.l1,if_neg hk]; rfl
  | succ m ih =>
   intro k f1 f2 h1 h2 h3 h4
   obtain ⟨f1,rfl⟩ : ∃ q,f1 = q + 1:=⟨f1 - 1,by omega⟩
   obtain ⟨f2,rfl⟩ : ∃ q,f2 = q + 1:=⟨f2 - 1,by omega⟩
   by_cases hk : k < s.size
   ·have hk' : (decide ((k : Int) < (s.size : Int))) = true:=by simp; omega
    rw [quant_head.l1,ref03_digits.l1,if_pos hk',if_pos hk',gi_nat hk,wk1 (by omega)]
    simp only [Option.bind_some,ref03_digit]
    by_cases hd : digB (bt s k) = true
    ·have hd2 : bt s k≥48∧bt s k≤57:=by unfold digB at hd; simpa using hd
     obtain ⟨n,g1,g2,g3,g4,g5⟩:=ih (k + 1) f1 f2 (by omega) (by omega) (by omega) (by omega)
     refine ⟨n,?_,?_,by omega,g4,fun i a b =>?_⟩
     ·simp only [hd2.1,hd2.2,decide_true,if_true,Option.bind_some]; exact g1
     ·simp only [hd2.1,hd2.2,decide_true,if_true,Bool.and_self]; exact g2
     ·by_cases e : i = k
      ·subst e; exact hd
      ·exact g5 i (by omega) b
    ·refine ⟨k,?_,?_,Nat.le_refl _,h4,fun i a b =>by omega⟩
     ·have : ¬ (bt s k≥48∧bt s k≤57):=by unfold digB at hd; simpa using hd
      by_cases h5 : bt s k≥48
      ·have h6 : ¬ bt s k≤57:=fun q =>this ⟨h5,q⟩
       simp only [h5,h6,decide_true,decide_false,if_true,Option.bind_some,Bool.false_eq_true,if_false]
      ·simp only [h5,decide_false,Bool.false_eq_true,if_false,Option.bind_some]
     ·unfold digB at hd
      rw [if_neg hd]
   ·have hk' : ¬ (decide ((k : Int) < (s.size : Int))) = true:=by simp; omega
    refine ⟨k,?_,?_,Nat.le_refl _,h4,fun i a b =>by omega⟩
    ·rw [quant_head.l1,if_neg hk']; rfl
    ·rw [ref03_digits.l1,if_neg hk']; rfl
 obtain ⟨n,g1,g2,g3,g4,g5⟩:=key s.size 0 FU FU (by omega) (by unfold FU; omega) (by unfold FU; omega) (by omega)
 have g1' : quant_head.l1 s FU 0 = some (n : Int):=g1
 have g2' : ref03_digits.l1 s FU 0 = some (n : Int):=g2
 refine ⟨n,?_,?_,g4,fun e i hi =>g5 i (Nat.zero_le _) (by omega)⟩
 ·unfold quant_head; rw [g1']; rfl
 ·unfold ref03_digits; rw [g2']; rfl
theorem u8_dig {c : Int} (h : digB c = true) : IntKind.i64.wrap (IntKind.u8.wrap (c - 48)) = c - 48∧0≤c - 48∧c - 48≤9:=by
 unfold digB at h
 simp only [Bool.and_eq_true,decide_eq_true_eq,ge_iff_le] at h
 have e : (c - 48) % 256 = c - 48:=by omega
 have : IntKind.u8.wrap (c - 48) = c - 48:=by
  simp [IntKind.wrap,IntKind.bits,IntKind.signed,e]
 rw [this,w_eq (by omega) (by omega)]
 omega
theorem value_same {s : ByteArray} (h : s.size≤300) (hd : ∀ i,i < s.size→digB (bt s i) = true) : ∃ v : Int,0≤v∧ref03_value s = some v∧quant_value s 1125899906842624 = some (if v≤1125899906842624 then (v,true) else (0,false)):=by
 have cap : ∀ (m k f : Nat),s.size - k≤m→m < f→k≤s.size→ref03_value.l1 s f 1125899906842625 (k : Int) = some 1125899906842625:=by
  intro m
  induction m with
  | zero =>
   intro k f h1 h2 h3
   obtain ⟨f,rfl⟩ : ∃ q,f = q + 1:=⟨f - 1,by omega⟩
   rw [ref03_value.l1,if_neg (by simp; omega)]
  | succ m ih =>
   intro k f h1 h2 h3
   obtain ⟨f,rfl⟩ : ∃ q,f = q + 1:=⟨f - 1,by omega⟩
   by_cases hk : k < s.size
   ·rw [ref03_value.l1,if_pos (by simp; omega),gi_nat hk,wk1 (by omega)]
    simp only [Option.bind_some]
    obtain ⟨e1,e2,e3⟩:=u8_dig (hd k hk)
    rw [e1,w_eq (show -9223372036854775808≤(10 : Int) * 1125899906842625 by decide) (by decide),w_eq (by omega) (by omega),Int.min_eq_right (by omega)]
    exact ih (k + 1) f (by omega) (by omega) (by omega)
   ·rw [ref03_value.l1,if_neg (by simp; omega)]
 have key : ∀ (m k f1 f2 : Nat) (n : Int),s.size - k≤m→m < f1→m < f2→k≤s.size→0≤n→n≤1125899906842624→∃ v : Int,0≤v∧ref03_value.l1 s f1 n (k : Int) = some v ∧
   quant_value.l1 s 1125899906842624 f2 n (k : Int) = some (if v≤1125899906842624 then Out.go v else Out.ret (0,false)):=by
  intro m
  induction m with
  | zero =>
   intro k f1 f2 n h1 h2 h3 h4 h5 h6
   obtain ⟨f1,rfl⟩ : ∃ q,f1 = q + 1:=⟨f1 - 1,by omega⟩
   obtain ⟨f2,rfl⟩ : ∃ q,f2 = q + 1:=⟨f2 - 1,by omega⟩
   refine ⟨n,h5,?_,?_⟩
   ·rw [ref03_value.l1,if_neg (by simp; omega)]
   ·rw [quant_value.l1,if_neg (by simp; omega),if_pos h6]
  | succ m ih =>
   intro k f1 f2 n h1 h2 h3 h4 h5 h6
   obtain ⟨f1,rfl⟩ : ∃ q,f1 = q + 1:=⟨f1 - 1,by omega⟩
   obtain ⟨f2,rfl⟩ : ∃ q,f2 = q + 1:=⟨f2 - 1,by omega⟩
   by_cases hk : k < s.size
   ·obtain ⟨e1,e2,e3⟩:=u8_dig (hd k hk)
    have hq : V.quo (IntKind.i64.wrap ((1125899906842624 : Int) - (bt s k - 48))) 10 = some ((1125899906842624 - (bt s k - 48)) / 10):=by
     unfold V.quo
     rw [if_neg (by decide),w_eq (by omega) (by omega),Int.tdiv_eq_ediv_of_nonneg (by omega)]
    rw [ref03_value.l1,quant_value.l1,if_pos (by simp; omega),if_pos (by simp; omega),gi_nat hk,wk1 (by omega)]
    simp only [Option.bind_some]
    rw [e1,hq]
    simp only [Option.bind_some]
    rw [w_eq (show -9223372036854775808≤(10 : Int) * n by omega) (by omega),w_eq (by omega) (by omega),w_eq (by omega) (by omega)]
    by_cases hb : n > (1125899906842624 - (bt s k - 48)) / 10
    ·rw [if_pos (by simpa using hb),Int.min_eq_right (by omega),cap m (k + 1) f1 (by omega) (by omega) (by omega)]
     exact ⟨1125899906842625,by decide,rfl,rfl⟩
    ·rw [if_neg (by simpa using hb),Int.min_eq_left (by omega)]
     exact ih (k + 1) f1 f2 _ (by omega) (by omega) (by omega) (by omega) (by omega) (by omega)
   ·refine ⟨n,h5,?_,?_⟩
    ·rw [ref03_value.l1,if_neg (by simp; omega)]
    ·rw [quant_value.l1,if_neg (by simp; omega),if_pos h6]
 obtain ⟨v,h0,h1,h2⟩:=key s.size 0 FU FU 0 (by omega) (by unfold FU; omega) (by unfold FU; omega) (by omega) (by omega) (by omega)
 have h1' : ref03_value.l1 s FU 0 0 = some v:=h1
 have h2' : quant_value.l1 s 1125899906842624 FU 0 0 = _:=h2
 refine ⟨v,h0,?_,?_⟩
 ·unfold ref03_value; rw [h1']; rfl
 ·unfold quant_value
  rw [h2']
  by_cases hv : v≤1125899906842624
  ·rw [if_pos hv,if_pos hv]; rfl
  ·rw [if_neg hv,if_neg hv]; rfl
theorem Number_same {s : ByteArray} (h : s.size≤300) : quant_Number s = ref03_Number s:=by
 unfold quant_Number ref03_Number
 rw [seq_eq]
 by_cases h0 : s = ⟨#[]⟩
 ·subst h0; rfl
 ·have hz : ¬ ((s.size : Int) == 0) = true:=by
   simp only [beq_iff_eq]
   intro e
   apply h0
   have : s.size = 0:=by omega
   exact ByteArray.size_eq_zero_iff.1 this
  obtain ⟨n,g1,g2,g3,g4⟩:=digits_same h
  rw [if_neg (by simpa using h0),if_neg hz,g1,g2]
  simp only [Option.bind_some]
  by_cases hn : n = s.size
  ·have hn1 : ¬ ((n : Int) != (s.size : Int)) = true:=by simp [hn]
   have hn2 : ¬ (decide ((n : Int) < (s.size : Int))) = true:=by simp [hn]
   rw [if_neg hn1,if_neg hn2]
   obtain ⟨v,q1,q2,q3⟩:=value_same h (g4 hn)
   rw [q2,q3]
   simp only [Option.bind_some]
   by_cases hv : v≤1125899906842624
   ·rw [if_pos hv,if_neg (show ¬ (decide (v > 1125899906842624)) = true by simp; omega)]; rfl
   ·rw [if_neg hv,if_pos (show (decide (v > 1125899906842624)) = true by simp; omega)]; rfl
  ·rw [if_pos (show ((n : Int) != (s.size : Int)) = true by simp; omega),if_pos (show (decide ((n : Int) < (s.size : Int))) = true by simp; omega)]
end Go.Proofs.YtbgfffdnaijmhaaGreat.M
/-
  Plain laws: words, told alike; with what stands in PNumE. Own text.
-/
namespace Go.Proofs.YtbgfffdnaijmhaaGreat.M
open Go Go.Proofs Go.Proofs.YtbgfffdnaijmhaaGreat.V
set_option linter.unusedVariables false
theorem Word_same {s : ByteArray} (h : s.size≤300) : lex_Word s = ref01_Word s:=by
 obtain ⟨b,h1,h2⟩:=Word_eq (s:=s) (by omega)
 rw [h1,h2]
theorem lmaybe_same {s : ByteArray} (h : s.size≤300) : labels_maybe s = ref05_maybe s:=by
 unfold labels_maybe ref05_maybe; rw [Word_same h]
theorem tmaybe_same {s : ByteArray} (h : s.size≤300) : taints_maybe s = ref06_maybe s:=by
 unfold taints_maybe ref06_maybe; rw [Word_same h]
theorem smaybe_same {s : ByteArray} (h : s.size≤300) : spec_maybe s = ref07_maybe s:=by
 unfold spec_maybe ref07_maybe; rw [Word_same h]
end Go.Proofs.YtbgfffdnaijmhaaGreat.M
/-
  Plain laws: texts by their order; maps. Own text.
-/
namespace Go.Proofs.YtbgfffdnaijmhaaGreat.M
open Go Go.Proofs Go.Proofs.YtbgfffdnaijmhaaGreat.V
set_option linter.unusedVariables false
theorem bl_irr : ∀ a : List UInt8,Op.bytesLess a a = false
 | [] =>rfl
 | a :: x =>by rw [Op.bytesLess,bl_irr x]; simp
theorem bl_trans : ∀ {a b c : List UInt8},Op.bytesLess a b = true→Op.bytesLess b c = true→Op.bytesLess a c = true
 | _,[],_,h,_ =>by simp [Op.bytesLess] at h
 | _,_ :: _,[],_,h =>by simp [Op.bytesLess] at h
 | [],_ :: _,_ :: _,_,_ =>rfl
 | a :: x,b :: y,c :: z,h,k =>by
  rw [Op.bytesLess] at h k ⊢
  simp only [Bool.or_eq_true,Bool.and_eq_true,decide_eq_true_eq,beq_iff_eq] at h k ⊢
  rcases h with h | ⟨rfl,h⟩
  ·rcases k with k | ⟨rfl,k⟩
   ·exact .inl (UInt8.lt_trans h k)
   ·exact .inl h
  ·rcases k with k | ⟨rfl,k⟩
   ·exact .inl k
   ·exact .inr ⟨rfl,bl_trans h k⟩
theorem slt_irr (a : ByteArray) : V.slt a a = false:=bl_irr _
theorem slt_trans {a b c : ByteArray} (h : V.slt a b = true) (k : V.slt b c = true) : V.slt a c = true:=bl_trans h k
theorem toList_data (a : ByteArray) : a.toList = a.data.toList:=by simp [ByteArray.toList_eq]
theorem Less_eq {a b : ByteArray} (ha : a.size≤300) (hb : b.size≤300) : ref05_Less a b = some (V.slt a b):=by
 have key : ∀ (m k f : Nat),min a.size b.size - k≤m→m < f→k≤min a.size b.size→(ref05_Less.l1 a b f (k : Int)).bind (fun o =>o.on fun _ =>some (decide ((a.size : Int) < (b.size : Int)))) = some (Op.bytesLess (a.data.toList.drop k) (b.data.toList.drop k)):=by
  have hla : a.data.toList.length = a.size:=by simp
  have hlb : b.data.toList.length = b.size:=by simp
  have hend : ∀ k f,k = min a.size b.size→(ref05_Less.l1 a b (f + 1) (k : Int)).bind (fun o =>o.on fun _ =>some (decide ((a.size : Int) < (b.size : Int)))) = some (Op.bytesLess (a.data.toList.drop k) (b.data.toList.drop k)):=by
   intro k f hk
   rw [ref05_Less.l1,if_neg (by simp; omega)]
   simp only [Option.bind_some,Out.on,Option.some.injEq]
   by_cases h : a.size < b.size
   ·rw [List.drop_eq_nil_of_le (show a.data.toList.length≤k by omega)]
    have : (b.data.toList.drop k)≠[]:=by
     intro e
     have:=congrArg List.length e
     rw [List.length_drop] at this
     simp at this
     omega
    obtain ⟨y,ys,hy⟩:=List.exists_cons_of_ne_nil this
    rw [hy]
    simp [Op.bytesLess,h]
   ·rw [List.drop_eq_nil_of_le (show b.data.toList.length≤k by omega)]
    simp [Op.bytesLess,h]
  intro m
  induction m with
  | zero =>
   intro k f h1 h2 h3
   obtain ⟨f,rfl⟩ : ∃ q,f = q + 1:=⟨f - 1,by omega⟩
   exact hend k f (by omega)
  | succ m ih =>
   intro k f h1 h2 h3
   obtain ⟨f,rfl⟩ : ∃ q,f = q + 1:=⟨f - 1,by omega⟩
   by_cases hk : k < min a.size b.size
   ·have hka : k < a.data.toList.length:=by omega
    have hkb : k < b.data.toList.length:=by omega
    have ea : bt a k = ((a.data.toList[k]).toNat : Int):=by
     unfold bt; rw [List.getD_eq_getElem?_getD,List.getElem?_eq_getElem hka]; rfl
    have eb : bt b k = ((b.data.toList[k]).toNat : Int):=by
     unfold bt; rw [List.getD_eq_getElem?_getD,List.getElem?_eq_getElem hkb]; rfl
    rw [ref05_Less.l1,if_pos (by simp; omega),gi_nat (by omega),gi_nat (by omega),wk1 (by omega),List.drop_eq_getElem_cons hka,List.drop_eq_getElem_cons hkb,Op.bytesLess]
    simp only [Option.bind_some]
    by_cases h : bt a k = bt b k
    ·rw [if_neg (by simpa using h),ih (k + 1) f (by omega) (by omega) (by omega)]
     have e : a.data.toList[k] = b.data.toList[k]:=by
      rw [ea,eb] at h
      exact UInt8.toNat_inj.1 (by omega)
     rw [e]
     simp
    ·rw [if_pos (by simpa using h)]
     have e : ¬ a.data.toList[k] = b.data.toList[k]:=fun q =>h (by rw [ea,eb,q])
     simp only [Option.bind_some,Out.on,Option.some.injEq]
     have e2 : (a.data.toList[k] == b.data.toList[k]) = false:=by simpa using e
     rw [e2,Bool.false_and,Bool.or_false,ea,eb]
     rw [decide_eq_decide,UInt8.lt_iff_toNat_lt]
     omega
   ·exact hend k f (by omega)
 have:=key (min a.size b.size) 0 FU (by omega) (by unfold FU; omega) (by omega)
 unfold ref05_Less V.slt
 rw [toList_data,toList_data]
 exact this
theorem mg_mp {κ υ : Type} [DecidableEq κ] : ∀ (l : List (κ × υ)) (k k' : κ) (v : υ),V.mg (V.mp l k v) k' = if k' = k then some v else V.mg l k'
 | [],k,k',v =>by
  rw [V.mp,V.mg]
  by_cases h : k' = k<;>simp [V.mg,h]
 | (a,b) :: r,k,k',v =>by
  rw [V.mp]
  by_cases h : k = a
  ·subst h
   rw [if_pos rfl,V.mg,V.mg]
   by_cases h2 : k' = k<;>simp [h2]
  ·rw [if_neg h,V.mg,V.mg,mg_mp r k k' v]
   by_cases h2 : k' = a
   ·subst h2
    have h3 : ¬ k' = k:=fun e =>h e.symm
    rw [if_pos rfl,if_pos rfl,if_neg h3]
   ·rw [if_neg h2,if_neg h2]
end Go.Proofs.YtbgfffdnaijmhaaGreat.M

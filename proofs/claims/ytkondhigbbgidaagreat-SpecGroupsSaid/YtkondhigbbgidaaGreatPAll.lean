/-
  Printed by a program of this session out of the loaded functions: models and their proofs. Own text.
-/
import Derived.Test.YtkondhigbbgidaaGreatPL11
/-
  Plain laws of lex: LexBack. Own text.
-/
namespace Go.Proofs.YtkondhigbbgidaaGreat.M
open Go Go.Proofs Go.Proofs.YtkondhigbbgidaaGreat.V
set_option linter.unusedVariables false
set_option linter.unusedSimpArgs false
inductive GT : Int × List Int→Prop
 | opn : GT (1,[40])
 | cls : GT (2,[41])
 | word (x : List Int) (h : headL plainB x = (x.length,true)) (hx : x≠[]) (hl : longB (cnt x) = false) : GT (3,x)
 | text (x : List Int) (h : good x) : GT (4,x)
def body (t : Int × List Int) : List Int:=if t.1 = 1 then [40] else if t.1 = 2 then [41] else if t.1 = 4 then 34 :: (quoteL t.2++[34]) else t.2
end Go.Proofs.YtkondhigbbgidaaGreat.M
/-
  Plain Lean: loops by an index, rows. Own text.
-/
namespace Go.Proofs.YtkondhigbbgidaaGreat.M
open Go Go.Proofs Go.Proofs.YtkondhigbbgidaaGreat.V
set_option linter.unusedVariables false
set_option linter.unusedSimpArgs false
theorem loopI {ρ : Type} {F : Nat→Int→Option (Out ρ Unit)} {len : Nat} {Q : ρ→Prop} {S : Nat→Prop} (hl : len < 1000000000000)
  (hs : ∀ n (k : Nat),k < len→(∃ r,F (n + 1) (k : Int) = some (Out.ret r)∧Q r)∨(F (n + 1) (k : Int) = F n ((k + 1 : Nat) : Int)∧S k))
  (he : ∀ n,F (n + 1) (len : Int) = some (Out.go ())) : (∃ r,F FU 0 = some (Out.ret r)∧Q r)∨(F FU 0 = some (Out.go ())∧∀ k,k < len→S k):=by
 have key : ∀ (m k f : Nat),len - k≤m→m < f→k≤len→(∃ r,F f (k : Int) = some (Out.ret r)∧Q r)∨(F f (k : Int) = some (Out.go ())∧∀ j,k≤j→j < len→S j):=by
  intro m
  induction m with
  | zero =>
   intro k f h1 h2 h3
   obtain ⟨f,rfl⟩ : ∃ q,f = q + 1:=⟨f - 1,by omega⟩
   obtain rfl : k = len:=by omega
   exact .inr ⟨he f,fun j h4 h5 =>by omega⟩
  | succ m ih =>
   intro k f h1 h2 h3
   obtain ⟨f,rfl⟩ : ∃ q,f = q + 1:=⟨f - 1,by omega⟩
   by_cases hk : k < len
   ·rcases hs f k hk with h | ⟨h4,h5⟩
    ·exact .inl h
    ·rw [h4]
     rcases ih (k + 1) f (by omega) (by omega) (by omega) with h | ⟨h6,h7⟩
     ·exact .inl h
     ·refine .inr ⟨h6,fun j h8 h9 =>?_⟩
      by_cases e : j = k
      ·subst e; exact h5
      ·exact h7 j (by omega) h9
   ·obtain rfl : k = len:=by omega
    exact .inr ⟨he f,fun j h4 h5 =>by omega⟩
 have:=key len 0 FU (by omega) (by unfold FU; omega) (Nat.zero_le _)
 rcases this with h | ⟨h1,h2⟩
 ·exact .inl h
 ·exact .inr ⟨h1,fun k hk =>h2 k (Nat.zero_le _) hk⟩
theorem dlt {α : Type} {l : List α} {k : Nat} (h : k < l.length) : (decide ((k : Int) < (l.length : Int))) = true:=by simp; omega
theorem dnl {α : Type} {l : List α} : ¬ (decide ((l.length : Int) < (l.length : Int))) = true:=by simp
theorem wk1 {k : Nat} (h : k < 1000000000000) : IntKind.i64.wrap ((k : Int) + 1) = ((k + 1 : Nat) : Int):=by rw [w_eq (by omega) (by omega)]; omega
theorem glk {α : Type} {l : List α} {k : Nat} (h : k < l.length) : V.gl l (k : Int) = some l[k]:=by
 unfold V.gl
 rw [if_pos (by omega)]
 simp [List.getElem?_eq_getElem h]
theorem toList_inj {a b : ByteArray} (h : a.toList = b.toList) : a = b:=by
 have h1 : a.data.toList = b.data.toList:=by simpa [ByteArray.toList_eq] using h
 cases a; cases b
 congr 1
 exact Array.toList_inj.1 h1
theorem seq_eq (a b : ByteArray) : V.seq a b = decide (a = b):=by
 by_cases h : a = b
 ·subst h; simp [V.seq]
 ·have : ¬ a.toList = b.toList:=fun e =>h (toList_inj e)
  simp [V.seq,h,this]
end Go.Proofs.YtkondhigbbgidaaGreat.M
/-
  Plain Lean: loops that go on while something is so. Own text.
-/
namespace Go.Proofs.YtkondhigbbgidaaGreat.M
open Go Go.Proofs Go.Proofs.YtkondhigbbgidaaGreat.V
set_option linter.unusedVariables false
set_option linter.unusedSimpArgs false
def allN (n : Nat) (q : Nat→Bool) : Bool:=(List.range n).all q
theorem allN_iff {n : Nat} {q : Nat→Bool} : allN n q = true↔∀ k,k < n→q k = true:=by simp [allN]
theorem allN_not {n : Nat} {q : Nat→Bool} : allN n q = false↔∃ k,k < n∧q k = false:=by simp [allN]
theorem idxAll {ρ : Type} {F : Nat→Int→Option (Out ρ Unit)} {len : Nat} {r0 : ρ} (q : Nat→Bool) (hl : len < 1000000000000)
  (hs : ∀ n (k : Nat),k < len→F (n + 1) (k : Int) = if q k = true then F n ((k + 1 : Nat) : Int) else some (Out.ret r0))
  (he : ∀ n,F (n + 1) (len : Int) = some (Out.go ())) : F FU 0 = some (if allN len q = true then Out.go () else Out.ret r0):=by
 rcases loopI (Q:=fun r =>r = r0∧allN len q = false) (S:=fun k =>k < len→q k = true) hl (fun n k hk =>by
   rw [hs n k hk]
   cases h : q k with
   | true =>exact .inr ⟨rfl,fun _ =>rfl⟩
   | false =>exact .inl ⟨_,rfl,rfl,allN_not.2 ⟨k,hk,h⟩⟩) he with ⟨r,h1,rfl,h3⟩ | ⟨h1,h2⟩
 ·rw [h1,if_neg (by rw [h3]; simp)]
 ·rw [h1,if_pos (allN_iff.2 fun k hk =>h2 k hk hk)]
theorem rowAll {α ρ : Type} {G : List α→Nat→Option (Out ρ Unit)} {l : List α} {r0 : ρ} (q : Nat→Bool)
  (hs : ∀ (k : Nat) (hk : k < l.length),G (l[k] :: l.drop (k + 1)) k = if q k = true then G (l.drop (k + 1)) (k + 1) else some (Out.ret r0))
  (he : ∀ k,G [] k = some (Out.go ())) : G l 0 = some (if allN l.length q = true then Out.go () else Out.ret r0):=by
 have key : ∀ (m k : Nat),l.length - k = m→((∀ j,k≤j→j < l.length→q j = true)→G (l.drop k) k = some (Out.go ()))∧((∃ j,k≤j∧j < l.length∧q j = false)→G (l.drop k) k = some (Out.ret r0)):=by
  intro m
  induction m with
  | zero =>
   intro k hk
   refine ⟨fun _ =>?_,fun ⟨j,h1,h2,_⟩ =>by omega⟩
   rw [List.drop_eq_nil_of_le (by omega)]; exact he k
  | succ m ih =>
   intro k hk
   have hkl : k < l.length:=by omega
   obtain ⟨i1,i2⟩:=ih (k + 1) (by omega)
   rw [List.drop_eq_getElem_cons hkl,hs k hkl]
   refine ⟨fun h =>?_,fun ⟨j,h1,h2,h3⟩ =>?_⟩
   ·rw [if_pos (h k (Nat.le_refl _) hkl)]
    exact i1 fun j a b =>h j (by omega) b
   ·by_cases hq : q k = true
    ·rw [if_pos hq]
     refine i2 ⟨j,?_,h2,h3⟩
     by_cases e : j = k
     ·subst e; rw [hq] at h3; cases h3
     ·omega
    ·rw [if_neg hq]
 obtain ⟨h1,h2⟩:=key l.length 0 rfl
 rw [List.drop_zero] at h1 h2
 cases h : allN l.length q with
 | true =>rw [if_pos rfl]; exact h1 fun j _ hj =>allN_iff.1 h j hj
 | false =>obtain ⟨k,a,b⟩:=allN_not.1 h; rw [if_neg (by simp)]; exact h2 ⟨k,Nat.zero_le _,a,b⟩
end Go.Proofs.YtkondhigbbgidaaGreat.M

/-
  Printed by a program of this session out of the loaded functions: models and their proofs. Own text.
-/
import Derived.Test.YtkondhigbbgidaaGreatVEq
import Derived.Test.YtkondhigbbgidaaGreatDDF
/-
  Plain facts on numbers and texts, for the plain laws. Own text.
-/
namespace Go.Proofs.YtkondhigbbgidaaGreat.V
open Go
set_option linter.unusedVariables false
theorem w_eq {x : Int} (h1 : -9223372036854775808≤x) (h2 : x < 9223372036854775808) : IntKind.i64.wrap x = x:=by
 by_cases h : 0≤x
 ·have e : x % 18446744073709551616 = x:=by omega
  have e2 : decide (x≥9223372036854775808) = false:=by simp; omega
  simp [IntKind.wrap,IntKind.bits,IntKind.signed,e,e2]
 ·have e : x % 18446744073709551616 = x + 18446744073709551616:=by omega
  have e2 : decide (x + 18446744073709551616≥9223372036854775808) = true:=by simp; omega
  simp [IntKind.wrap,IntKind.bits,IntKind.signed,e]
  omega
theorem bt_range (s : ByteArray) (i : Nat) : 0≤bt s i∧bt s i < 256:=by
 unfold bt
 have:=(s.data.toList.getD i 0).toNat_lt
 omega
theorem gi_nat {s : ByteArray} {i : Nat} (h : i < s.size) : gi s (i : Int) = some (bt s i):=by
 unfold gi
 rw [if_pos ⟨Int.natCast_nonneg _,by omega⟩]
 simp
def runeN (b0 b1 b2 b3 : Int) (p1 p2 p3 : Bool) : Option (Int × Nat) :=
 if b0 < 128 then some (b0,1)
 else if 192≤b0∧b0 < 224∧p1 = true then
  if 128≤(b0 - 192) * 64 + b1 - 128 then some ((b0 - 192) * 64 + b1 - 128,2) else none
 else if 224≤b0∧b0 < 240∧p1 = true∧p2 = true then
  if 2048≤(b0 - 224) * 4096 + (b1 - 128) * 64 + b2 - 128∧((b0 - 224) * 4096 + (b1 - 128) * 64 + b2 - 128 < 55296∨57343 < (b0 - 224) * 4096 + (b1 - 128) * 64 + b2 - 128) then some ((b0 - 224) * 4096 + (b1 - 128) * 64 + b2 - 128,3) else none
 else if 240≤b0∧b0 < 248∧p1 = true∧p2 = true∧p3 = true then
  if 65536≤(b0 - 240) * 262144 + (b1 - 128) * 4096 + (b2 - 128) * 64 + b3 - 128∧(b0 - 240) * 262144 + (b1 - 128) * 4096 + (b2 - 128) * 64 + b3 - 128≤1114111 then some ((b0 - 240) * 262144 + (b1 - 128) * 4096 + (b2 - 128) * 64 + b3 - 128,4) else none
 else none
def goes (s : ByteArray) (i : Nat) : Bool:=decide (i < s.size) && (decide (128≤bt s i) && decide (bt s i < 192))
def rune (s : ByteArray) (i : Nat) : Option (Int × Nat):=runeN (bt s i) (bt s (i + 1)) (bt s (i + 2)) (bt s (i + 3)) (goes s (i + 1)) (goes s (i + 2)) (goes s (i + 3))
theorem goes_spec {s : ByteArray} {i : Nat} (h : goes s i = true) : i < s.size∧128≤bt s i∧bt s i < 192:=by
 simpa [goes] using h
theorem rune_some {s : ByteArray} {i : Nat} {c : Int} {w : Nat} (hi : i < s.size) (h : rune s i = some (c,w)) : 0≤c∧c≤1114111∧1≤w∧w≤4∧i + w≤s.size:=by
 have r0:=bt_range s i
 have g1 : goes s (i + 1) = true→_:=goes_spec
 have g2 : goes s (i + 2) = true→_:=goes_spec
 have g3 : goes s (i + 3) = true→_:=goes_spec
 unfold rune runeN at h
 split at h
 ·simp only [Option.some.injEq,Prod.mk.injEq] at h; omega
 split at h
 ·rename_i q
  have:=g1 q.2.2
  split at h
  ·simp only [Option.some.injEq,Prod.mk.injEq] at h; omega
  ·cases h
 split at h
 ·rename_i q
  have:=g1 q.2.2.1
  have:=g2 q.2.2.2
  split at h
  ·simp only [Option.some.injEq,Prod.mk.injEq] at h; omega
  ·cases h
 split at h
 ·rename_i q
  have:=g1 q.2.2.1
  have:=g2 q.2.2.2.1
  have:=g3 q.2.2.2.2
  split at h
  ·simp only [Option.some.injEq,Prod.mk.injEq] at h; omega
  ·cases h
 ·cases h
end Go.Proofs.YtkondhigbbgidaaGreat.V
/-
  Plain laws of words: the document's runes and words. Own text.
-/
namespace Go.Proofs.YtkondhigbbgidaaGreat.M
open Go Go.Proofs Go.Proofs.YtkondhigbbgidaaGreat.V
set_option linter.unusedVariables false
def rv : Option (Int × Nat)→Int × Int
  | some (c,w) =>(c,(w : Int))
  | none =>(0,0)
theorem more_eq {s : ByteArray} (j : Nat) : ref01_more s (j : Int) = some (goes s j):=by
  unfold ref01_more goes
  by_cases h : j < s.size
  · have h' : (j : Int) < (s.size : Int):=by omega
    simp only [h',decide_true,if_true,gi_nat h,Option.bind_some,h,Bool.true_and]
    by_cases h2 : 128≤bt s j
    · simp [h2]
    · simp [h2]
  · have h' : ¬ (j : Int) < (s.size : Int):=by omega
    simp [h',h]
theorem Rune_eq {s : ByteArray} {i : Nat} (h : i < s.size) (hs : s.size < 281474976710656) : ref01_Rune s (i : Int) = some (rv (rune s i)):=by
  have b0:=bt_range s i
  have b1:=bt_range s (i + 1)
  have b2:=bt_range s (i + 2)
  have b3:=bt_range s (i + 3)
  have e1 : IntKind.i64.wrap ((i : Int) + 1) = ((i + 1 : Nat) : Int):=by rw [w_eq (by omega) (by omega)]; omega
  have e2 : IntKind.i64.wrap ((i : Int) + 2) = ((i + 2 : Nat) : Int):=by rw [w_eq (by omega) (by omega)]; omega
  have e3 : IntKind.i64.wrap ((i : Int) + 3) = ((i + 3 : Nat) : Int):=by rw [w_eq (by omega) (by omega)]; omega
  unfold ref01_Rune rune runeN
  simp only [gi_nat h,Option.bind_some,e1,e2,e3,more_eq]
  have w0 : IntKind.i64.wrap (bt s i) = bt s i:=w_eq (by omega) (by omega)
  have w1 : IntKind.i64.wrap (bt s (i + 1)) = bt s (i + 1):=w_eq (by omega) (by omega)
  have w2 : IntKind.i64.wrap (bt s (i + 2)) = bt s (i + 2):=w_eq (by omega) (by omega)
  have w3 : IntKind.i64.wrap (bt s (i + 3)) = bt s (i + 3):=w_eq (by omega) (by omega)
  simp only [w0]
  have g1 : goes s (i + 1) = true→_:=goes_spec
  have g2 : goes s (i + 2) = true→_:=goes_spec
  have g3 : goes s (i + 3) = true→_:=goes_spec
  by_cases q0 : bt s i < 128
  · simp [q0,rv]
  simp only [q0,decide_false,Bool.false_eq_true,if_false]
  cases c1 : goes s (i + 1) with
  | false =>
    simp only [Option.bind_some,ite_self,Bool.false_eq_true,if_false,and_false,false_and,rv]
  | true =>
    have k1:=g1 c1
    simp only [Option.bind_some,gi_nat k1.1,w1]
    by_cases q1 : 192≤bt s i∧bt s i < 224
    · have d1 : (decide (bt s i≥192) && decide (bt s i < 224)) = true:=by simpa using q1
      simp only [d1,if_true,Option.bind_some,q1,and_self,and_true]
      simp (disch:=omega) only [w_eq]
      by_cases z : 128≤(bt s i - 192) * 64 + bt s (i + 1) - 128
      · simp [z,rv]
      · simp [z,rv]
    have d1 : (decide (bt s i≥192) && decide (bt s i < 224)) = false:=by
      rw [Bool.eq_false_iff]; intro k; exact q1 (by simpa using k)
    have n1 : ∀ p : Prop,¬ (192≤bt s i∧bt s i < 224∧p):=fun p k =>q1 ⟨k.1,k.2.1⟩
    simp only [d1,Bool.false_eq_true,if_false,Option.bind_some,if_neg (n1 _)]
    by_cases q2 : 224≤bt s i∧bt s i < 240
    · have d2 : (decide (bt s i≥224) && decide (bt s i < 240)) = true:=by simpa using q2
      simp only [d2,if_true,Option.bind_some]
      cases c2 : goes s (i + 2) with
      | false =>
        have n4 : ¬ (240≤bt s i∧bt s i < 248):=by omega
        have d4 : (decide (bt s i≥240) && decide (bt s i < 248)) = false:=by
          rw [Bool.eq_false_iff]; intro k; exact n4 (by simpa using k)
        have n5 : ∀ p : Prop,¬ (240≤bt s i∧bt s i < 248∧p):=fun p k =>n4 ⟨k.1,k.2.1⟩
        simp [d4,if_neg (n5 _),rv]
      | true =>
        have k2:=g2 c2
        simp only [if_true,Option.bind_some,gi_nat k2.1,q2,and_self,w2]
        simp (disch:=omega) only [w_eq]
        by_cases z : 2048≤(bt s i - 224) * 4096 + (bt s (i + 1) - 128) * 64 + bt s (i + 2) - 128∧((bt s i - 224) * 4096 + (bt s (i + 1) - 128) * 64 + bt s (i + 2) - 128 < 55296∨57343 < (bt s i - 224) * 4096 + (bt s (i + 1) - 128) * 64 + bt s (i + 2) - 128)
        · rw [if_pos (by simpa using z),if_pos z]; rfl
        · have n4 : ¬ (240≤bt s i):=by omega
          rw [if_neg (by simpa using z),if_neg z]; rfl
    have d2 : (decide (bt s i≥224) && decide (bt s i < 240)) = false:=by
      rw [Bool.eq_false_iff]; intro k; exact q2 (by simpa using k)
    have n2 : ∀ p q : Prop,¬ (224≤bt s i∧bt s i < 240∧p∧q):=fun p q k =>q2 ⟨k.1,k.2.1⟩
    simp only [d2,Bool.false_eq_true,if_false,Option.bind_some,if_neg (n2 _ _)]
    by_cases q3 : 240≤bt s i∧bt s i < 248
    · have d3 : (decide (bt s i≥240) && decide (bt s i < 248)) = true:=by simpa using q3
      simp only [d3,if_true,Option.bind_some]
      cases c2 : goes s (i + 2) with
      | false =>simp [rv]
      | true =>
        have k2:=g2 c2
        cases c3 : goes s (i + 3) with
        | false =>simp [rv]
        | true =>
          have k3:=g3 c3
          simp only [if_true,Option.bind_some,gi_nat k2.1,gi_nat k3.1,q3,and_self,w2,w3]
          simp (disch:=omega) only [w_eq]
          by_cases z : 65536≤(bt s i - 240) * 262144 + (bt s (i + 1) - 128) * 4096 + (bt s (i + 2) - 128) * 64 + bt s (i + 3) - 128∧(bt s i - 240) * 262144 + (bt s (i + 1) - 128) * 4096 + (bt s (i + 2) - 128) * 64 + bt s (i + 3) - 128≤1114111
          · rw [if_pos (by simpa using z),if_pos z]; rfl
          · rw [if_neg (by simpa using z),if_neg z]; rfl
    have d3 : (decide (bt s i≥240) && decide (bt s i < 248)) = false:=by
      rw [Bool.eq_false_iff]; intro k; exact q3 (by simpa using k)
    have n3 : ∀ p q r : Prop,¬ (240≤bt s i∧bt s i < 248∧p∧q∧r):=fun p q r k =>q3 ⟨k.1,k.2.1⟩
    simp only [d3,Bool.false_eq_true,if_false,Option.bind_some,if_neg (n3 _ _ _),rv]
theorem rv2 {s : ByteArray} {i w : Nat} {c : Int} (hi : i < s.size) (h : rune s i = some (c,w)) : ((w : Int) == 0) = false:=by
  have:=rune_some hi h
  simp; omega
theorem Word_tot {s : ByteArray} (hs : s.size < 281474976710656) : ∃ b,ref01_Word s = some b:=by
  have key : ∀ (k pos : Nat) (n : Int) (f : Nat),s.size - pos≤k→k < f→pos≤s.size→∃ o,ref01_Word.l1 s f n (pos : Int) = some o:=by
    intro k
    induction k with
    | zero =>
      intro pos n f h1 h2 h3
      obtain ⟨f,rfl⟩ : ∃ q,f = q + 1:=⟨f - 1,by omega⟩
      exact ⟨_,by rw [ref01_Word.l1,if_neg (by simp; omega)]⟩
    | succ k ih =>
      intro pos n f h1 h2 h3
      obtain ⟨f,rfl⟩ : ∃ q,f = q + 1:=⟨f - 1,by omega⟩
      by_cases hp : pos < s.size
      · rw [ref01_Word.l1,if_pos (show (decide ((pos : Int) < (s.size : Int))) = true by simp; omega),Rune_eq hp hs]
        cases hr : rune s pos with
        | none =>exact ⟨_,rfl⟩
        | some p =>
          obtain ⟨c,w⟩:=p
          have hw:=rune_some hp hr
          have e : IntKind.i64.wrap ((pos : Int) + (w : Int)) = ((pos + w : Nat) : Int):=by rw [w_eq (by omega) (by omega)]; omega
          simp only [rv,Option.bind_some,rv2 hp hr,Bool.false_eq_true,if_false,e]
          obtain ⟨b,hb⟩ : ∃ b,ref01_plain c = some b:=⟨_,rfl⟩
          simp only [hb,Option.bind_some]
          cases b with
          | false =>exact ⟨_,rfl⟩
          | true =>
            simp only [Bool.not_true,Bool.false_eq_true,if_false]
            exact ih (pos + w) _ f (by omega) (by omega) (by omega)
      · exact ⟨_,by rw [ref01_Word.l1,if_neg (by simp; omega)]⟩
  obtain ⟨o,ho⟩:=key s.size 0 0 FU (by omega) (by unfold FU; omega) (by omega)
  have ho' : ref01_Word.l1 s FU 0 0 = some o:=ho
  unfold ref01_Word
  rw [ho']
  cases o with
  | ret r =>exact ⟨_,rfl⟩
  | go j =>exact ⟨_,rfl⟩
end Go.Proofs.YtkondhigbbgidaaGreat.M
/-
  Plain Lean: loops by an index, rows. Own text.
-/
namespace Go.Proofs.YtkondhigbbgidaaGreat.M
open Go Go.Proofs Go.Proofs.YtkondhigbbgidaaGreat.V
set_option linter.unusedVariables false
theorem loopI {ρ : Type} {F : Nat→Int→Option (Out ρ Unit)} {len : Nat} {Q : ρ→Prop} {S : Nat→Prop} (hl : len < 1000000000000)
  (hs : ∀ n (k : Nat),k < len→(∃ r,F (n + 1) (k : Int) = some (Out.ret r)∧Q r)∨(F (n + 1) (k : Int) = F n ((k + 1 : Nat) : Int)∧S k))
  (he : ∀ n,F (n + 1) (len : Int) = some (Out.go ())) : (∃ r,F FU 0 = some (Out.ret r)∧Q r)∨(F FU 0 = some (Out.go ())∧∀ k,k < len→S k):=by
 have key : ∀ (m k f : Nat),len - k≤m→m < f→k≤len→(∃ r,F f (k : Int) = some (Out.ret r)∧Q r)∨(F f (k : Int) = some (Out.go ())∧∀ j,k≤j→j < len→S j):=by
  intro m
  induction m with
  | zero =>
   intro k f h1 h2 h3
   obtain ⟨f,rfl⟩ : ∃ q,f = q + 1:=⟨f - 1,by omega⟩
   obtain rfl : k = len:=by omega
   exact .inr ⟨he f,fun j h4 h5 =>by omega⟩
  | succ m ih =>
   intro k f h1 h2 h3
   obtain ⟨f,rfl⟩ : ∃ q,f = q + 1:=⟨f - 1,by omega⟩
   by_cases hk : k < len
   ·rcases hs f k hk with h | ⟨h4,h5⟩
    ·exact .inl h
    ·rw [h4]
     rcases ih (k + 1) f (by omega) (by omega) (by omega) with h | ⟨h6,h7⟩
     ·exact .inl h
     ·refine .inr ⟨h6,fun j h8 h9 =>?_⟩
      by_cases e : j = k
      ·subst e; exact h5
      ·exact h7 j (by omega) h9
   ·obtain rfl : k = len:=by omega
    exact .inr ⟨he f,fun j h4 h5 =>by omega⟩
 have:=key len 0 FU (by omega) (by unfold FU; omega) (Nat.zero_le _)
 rcases this with h | ⟨h1,h2⟩
 ·exact .inl h
 ·exact .inr ⟨h1,fun k hk =>h2 k (Nat.zero_le _) hk⟩
theorem dlt {α : Type} {l : List α} {k : Nat} (h : k < l.length) : (decide ((k : Int) < (l.length : Int))) = true:=by simp; omega
theorem dnl {α : Type} {l : List α} : ¬ (decide ((l.length : Int) < (l.length : Int))) = true:=by simp
theorem wk1 {k : Nat} (h : k < 1000000000000) : IntKind.i64.wrap ((k : Int) + 1) = ((k + 1 : Nat) : Int):=by rw [w_eq (by omega) (by omega)]; omega
theorem glk {α : Type} {l : List α} {k : Nat} (h : k < l.length) : V.gl l (k : Int) = some l[k]:=by
 unfold V.gl
 rw [if_pos (by omega)]
 simp [List.getElem?_eq_getElem h]
theorem toList_inj {a b : ByteArray} (h : a.toList = b.toList) : a = b:=by
 have h1 : a.data.toList = b.data.toList:=by simpa [ByteArray.toList_eq] using h
 cases a; cases b
 congr 1
 exact Array.toList_inj.1 h1
theorem seq_eq (a b : ByteArray) : V.seq a b = decide (a = b):=by
 by_cases h : a = b
 ·subst h; simp [V.seq]
 ·have : ¬ a.toList = b.toList:=fun e =>h (toList_inj e)
  simp [V.seq,h,this]
end Go.Proofs.YtkondhigbbgidaaGreat.M

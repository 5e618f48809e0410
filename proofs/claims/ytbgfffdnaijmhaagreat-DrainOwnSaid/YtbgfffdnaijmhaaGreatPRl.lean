/-
  Printed by a program of this session out of the loaded functions: models and their proofs. Own text.
-/
import Derived.Test.YtbgfffdnaijmhaaGreatVEq
import Derived.Test.YtbgfffdnaijmhaaGreatDWF
/-
  Plain facts on numbers and texts, for the plain laws. Own text.
-/
namespace Go.Proofs.YtbgfffdnaijmhaaGreat.V
open Go
set_option linter.unusedVariables false
theorem w_eq {x : Int} (h1 : -9223372036854775808≤x) (h2 : x < 9223372036854775808) : IntKind.i64.wrap x = x:=by
 by_cases h : 0≤x
 ·have e : x % 18446744073709551616 = x:=by omega
  have e2 : decide (x≥9223372036854775808) = false:=by simp; omega
  simp [IntKind.wrap,IntKind.bits,IntKind.signed,e,e2]
 ·have e : x % 18446744073709551616 = x + 18446744073709551616:=by omega
  have e2 : decide (x + 18446744073709551616≥9223372036854775808) = true:=by simp; omega
  simp [IntKind.wrap,IntKind.bits,IntKind.signed,e]
  omega
theorem bt_range (s : ByteArray) (i : Nat) : 0≤bt s i∧bt s i < 256:=by
 unfold bt
 have:=(s.data.toList.getD i 0).toNat_lt
 omega
theorem bt_get (s : ByteArray) (i : Nat) (h : i < s.size) : ((s.get! i).toNat : Int) = bt s i:=by
 unfold bt ByteArray.get!
 have h' : i < s.data.size:=h
 have h2 : i < s.data.toList.length:=by simpa using h'
 rw [List.getD_eq_getElem?_getD,List.getElem?_eq_getElem h2]
 simp [getElem!_pos s.data i h']
theorem gi_nat {s : ByteArray} {i : Nat} (h : i < s.size) : gi s (i : Int) = some (bt s i):=by
 unfold gi
 rw [if_pos ⟨Int.natCast_nonneg _,by omega⟩]
 simp
def runeN (b0 b1 b2 b3 : Int) (p1 p2 p3 : Bool) : Option (Int × Nat) :=
 if b0 < 128 then some (b0,1)
 else if 192≤b0∧b0 < 224∧p1 = true then
  if 128≤(b0 - 192) * 64 + b1 - 128 then some ((b0 - 192) * 64 + b1 - 128,2) else none
 else if 224≤b0∧b0 < 240∧p1 = true∧p2 = true then
  if 2048≤(b0 - 224) * 4096 + (b1 - 128) * 64 + b2 - 128∧((b0 - 224) * 4096 + (b1 - 128) * 64 + b2 - 128 < 55296∨57343 < (b0 - 224) * 4096 + (b1 - 128) * 64 + b2 - 128) then some ((b0 - 224) * 4096 + (b1 - 128) * 64 + b2 - 128,3) else none
 else if 240≤b0∧b0 < 248∧p1 = true∧p2 = true∧p3 = true then
  if 65536≤(b0 - 240) * 262144 + (b1 - 128) * 4096 + (b2 - 128) * 64 + b3 - 128∧(b0 - 240) * 262144 + (b1 - 128) * 4096 + (b2 - 128) * 64 + b3 - 128≤1114111 then some ((b0 - 240) * 262144 + (b1 - 128) * 4096 + (b2 - 128) * 64 + b3 - 128,4) else none
 else none
def goes (s : ByteArray) (i : Nat) : Bool:=decide (i < s.size) && (decide (128≤bt s i) && decide (bt s i < 192))
def rune (s : ByteArray) (i : Nat) : Option (Int × Nat):=runeN (bt s i) (bt s (i + 1)) (bt s (i + 2)) (bt s (i + 3)) (goes s (i + 1)) (goes s (i + 2)) (goes s (i + 3))
theorem bt_get' (s : ByteArray) (i : Nat) : bt s i = ((s.get! i).toNat : Int):=by
 by_cases h : i < s.size
 ·exact (bt_get s i h).symm
 ·have h' : ¬ i < s.data.size:=h
  unfold bt ByteArray.get!
  have h2 : ¬ i < s.data.toList.length:=by simpa using h'
  rw [List.getD_eq_getElem?_getD,List.getElem?_eq_none (by omega)]
  simp [getElem!_neg s.data i h']
  rfl
theorem cont_iff (p : Prop) [Decidable p] (a : Nat) (ha : a < 256) : (decide p && a / 64 == 2) = (decide p && (decide ((128 : Int)≤a) && decide ((a : Int) < 192))):=by
 congr 1
 rw [Bool.eq_iff_iff]
 simp
 omega
def rdv : Option (Int × Nat)→Nat × Nat
 | some (c,w) =>(c.toNat,w)
 | none =>(65533,1)
def decN (a0 a1 a2 a3 : Nat) (p1 p2 p3 : Bool) : Nat × Nat :=
 if a0 < 128 then (a0,1)
 else if (a0 / 32 == 6 && p1) = true then (if a0 % 32 * 64 + a1 % 64≥128 then (a0 % 32 * 64 + a1 % 64,2) else (65533,1))
 else if (a0 / 16 == 14 && p1 && p2) = true then
  (if (decide (a0 % 16 * 4096 + a1 % 64 * 64 + a2 % 64≥2048) && Utf8.valid ((a0 % 16 * 4096 + a1 % 64 * 64 + a2 % 64 : Nat) : Int)) = true then (a0 % 16 * 4096 + a1 % 64 * 64 + a2 % 64,3) else (65533,1))
 else if (a0 / 8 == 30 && p1 && p2 && p3) = true then
  (if (decide (a0 % 8 * 262144 + a1 % 64 * 4096 + a2 % 64 * 64 + a3 % 64≥65536) && Utf8.valid ((a0 % 8 * 262144 + a1 % 64 * 4096 + a2 % 64 * 64 + a3 % 64 : Nat) : Int)) = true then (a0 % 8 * 262144 + a1 % 64 * 4096 + a2 % 64 * 64 + a3 % 64,4) else (65533,1))
 else (65533,1)
theorem decode_N (s : ByteArray) (i : Nat) : Utf8.decode s i = decN (s.get! i).toNat (s.get! (i + 1)).toNat (s.get! (i + 2)).toNat (s.get! (i + 3)).toNat
  (decide (i + 1 < s.size) && (s.get! (i + 1)).toNat / 64 == 2) (decide (i + 2 < s.size) && (s.get! (i + 2)).toNat / 64 == 2) (decide (i + 3 < s.size) && (s.get! (i + 3)).toNat / 64 == 2):=by
 unfold Utf8.decode decN
 rfl
theorem goes_N (s : ByteArray) (i : Nat) : (decide (i < s.size) && (s.get! i).toNat / 64 == 2) = goes s i:=by
 have h:=(s.get! i).toNat_lt
 unfold goes
 rw [bt_get',cont_iff _ _ h]
theorem goes_spec {s : ByteArray} {i : Nat} (h : goes s i = true) : i < s.size∧128≤bt s i∧bt s i < 192:=by
 simpa [goes] using h
theorem valid_iff (n : Nat) : Utf8.valid (n : Int) = true↔(n < 55296∨(57344≤n∧n≤1114111)):=by
 unfold Utf8.valid
 simp only [Bool.or_eq_true,Bool.and_eq_true,decide_eq_true_eq]
 omega
theorem rune_decN {a0 a1 a2 a3 : Nat} {p1 p2 p3 : Bool} (l0 : a0 < 256) (h1 : p1 = true→128≤a1∧a1 < 192) (h2 : p2 = true→128≤a2∧a2 < 192) (h3 : p3 = true→128≤a3∧a3 < 192) :
  decN a0 a1 a2 a3 p1 p2 p3 = rdv (runeN a0 a1 a2 a3 p1 p2 p3):=by
 unfold decN runeN
 by_cases q0 : a0 < 128
 ·rw [if_pos q0,if_pos (show (a0 : Int) < 128 by omega)]
  simp [rdv]
 rw [if_neg q0,if_neg (show ¬ (a0 : Int) < 128 by omega)]
 by_cases q1 : a0 / 32 = 6∧p1 = true
 ·have:=h1 q1.2
  rw [if_pos (show (a0 / 32 == 6 && p1) = true by simp [q1.1,q1.2]),if_pos (show 192≤(a0 : Int)∧(a0 : Int) < 224∧p1 = true from ⟨by omega,by omega,q1.2⟩)]
  have e : ((a0 : Int) - 192) * 64 + (a1 : Int) - 128 = ((a0 % 32 * 64 + a1 % 64 : Nat) : Int):=by omega
  rw [e]
  generalize a0 % 32 * 64 + a1 % 64 = m
  by_cases z : m≥128
  ·rw [if_pos z,if_pos (show 128≤(m : Int) by omega)]; simp [rdv]
  ·rw [if_neg z,if_neg (show ¬ 128≤(m : Int) by omega)]; rfl
 rw [if_neg (show ¬ (a0 / 32 == 6 && p1) = true by simpa using q1),if_neg (show ¬ (192≤(a0 : Int)∧(a0 : Int) < 224∧p1 = true) from fun k =>q1 ⟨by omega,k.2.2⟩)]
 by_cases q2 : a0 / 16 = 14∧p1 = true∧p2 = true
 ·have:=h1 q2.2.1
  have:=h2 q2.2.2
  rw [if_pos (show (a0 / 16 == 14 && p1 && p2) = true by simp [q2.1,q2.2.1,q2.2.2]),if_pos (show 224≤(a0 : Int)∧(a0 : Int) < 240∧p1 = true∧p2 = true from ⟨by omega,by omega,q2.2⟩)]
  have e : ((a0 : Int) - 224) * 4096 + ((a1 : Int) - 128) * 64 + (a2 : Int) - 128 = ((a0 % 16 * 4096 + a1 % 64 * 64 + a2 % 64 : Nat) : Int):=by omega
  have hm : a0 % 16 * 4096 + a1 % 64 * 64 + a2 % 64 < 65536:=by omega
  rw [e]
  generalize a0 % 16 * 4096 + a1 % 64 * 64 + a2 % 64 = m at *
  have vv:=valid_iff m
  by_cases z : m≥2048∧Utf8.valid (m : Int) = true
  ·have:=vv.1 z.2
   rw [if_pos (show (decide (m≥2048) && Utf8.valid (m : Int)) = true by simp [z.1,z.2]),if_pos (show 2048≤(m : Int)∧((m : Int) < 55296∨57343 < (m : Int)) by omega)]; simp [rdv]
  ·rw [if_neg (show ¬ (decide (m≥2048) && Utf8.valid (m : Int)) = true by simpa using z),if_neg (show ¬ (2048≤(m : Int)∧((m : Int) < 55296∨57343 < (m : Int))) from fun k =>z ⟨by omega,vv.2 (by omega)⟩)]; rfl
 rw [if_neg (show ¬ (a0 / 16 == 14 && p1 && p2) = true by simpa [and_assoc] using q2),if_neg (show ¬ (224≤(a0 : Int)∧(a0 : Int) < 240∧p1 = true∧p2 = true) from fun k =>q2 ⟨by omega,k.2.2⟩)]
 by_cases q3 : a0 / 8 = 30∧p1 = true∧p2 = true∧p3 = true
 ·have:=h1 q3.2.1
  have:=h2 q3.2.2.1
  have:=h3 q3.2.2.2
  rw [if_pos (show (a0 / 8 == 30 && p1 && p2 && p3) = true by simp [q3.1,q3.2.1,q3.2.2.1,q3.2.2.2]),if_pos (show 240≤(a0 : Int)∧(a0 : Int) < 248∧p1 = true∧p2 = true∧p3 = true from ⟨by omega,by omega,q3.2⟩)]
  have e : ((a0 : Int) - 240) * 262144 + ((a1 : Int) - 128) * 4096 + ((a2 : Int) - 128) * 64 + (a3 : Int) - 128 = ((a0 % 8 * 262144 + a1 % 64 * 4096 + a2 % 64 * 64 + a3 % 64 : Nat) : Int):=by omega
  rw [e]
  generalize a0 % 8 * 262144 + a1 % 64 * 4096 + a2 % 64 * 64 + a3 % 64 = m at *
  have vv:=valid_iff m
  by_cases z : m≥65536∧Utf8.valid (m : Int) = true
  ·have:=vv.1 z.2
   rw [if_pos (show (decide (m≥65536) && Utf8.valid (m : Int)) = true by simp [z.1,z.2]),if_pos (show 65536≤(m : Int)∧(m : Int)≤1114111 by omega)]; simp [rdv]
  ·rw [if_neg (show ¬ (decide (m≥65536) && Utf8.valid (m : Int)) = true by simpa using z),if_neg (show ¬ (65536≤(m : Int)∧(m : Int)≤1114111) from fun k =>z ⟨by omega,vv.2 (by omega)⟩)]; rfl
 rw [if_neg (show ¬ (a0 / 8 == 30 && p1 && p2 && p3) = true by simpa [and_assoc] using q3),if_neg (show ¬ (240≤(a0 : Int)∧(a0 : Int) < 248∧p1 = true∧p2 = true∧p3 = true) from fun k =>q3 ⟨by omega,k.2.2⟩)]; rfl
theorem decode_rune (s : ByteArray) (i : Nat) : Utf8.decode s i = rdv (rune s i):=by
 have e : rune s i = runeN (s.get! i).toNat (s.get! (i + 1)).toNat (s.get! (i + 2)).toNat (s.get! (i + 3)).toNat (goes s (i + 1)) (goes s (i + 2)) (goes s (i + 3)):=by
  unfold rune
  rw [bt_get' s i,bt_get' s (i + 1),bt_get' s (i + 2),bt_get' s (i + 3)]
 have l0 : (s.get! i).toNat < 256:=(s.get! i).toNat_lt
 rw [decode_N,goes_N,goes_N,goes_N,e]
 have k : ∀ j,goes s j = true→128≤(s.get! j).toNat∧(s.get! j).toNat < 192:=fun j h =>by
  have:=goes_spec h
  rw [bt_get'] at this
  omega
 generalize (s.get! i).toNat = a0 at *
 exact rune_decN (by omega) (k _) (k _) (k _)
theorem rune_some {s : ByteArray} {i : Nat} {c : Int} {w : Nat} (hi : i < s.size) (h : rune s i = some (c,w)) : 0≤c∧c≤1114111∧1≤w∧w≤4∧i + w≤s.size:=by
 have r0:=bt_range s i
 have g1 : goes s (i + 1) = true→_:=goes_spec
 have g2 : goes s (i + 2) = true→_:=goes_spec
 have g3 : goes s (i + 3) = true→_:=goes_spec
 unfold rune runeN at h
 split at h
 ·simp only [Option.some.injEq,Prod.mk.injEq] at h; omega
 split at h
 ·rename_i q
  have:=g1 q.2.2
  split at h
  ·simp only [Option.some.injEq,Prod.mk.injEq] at h; omega
  ·cases h
 split at h
 ·rename_i q
  have:=g1 q.2.2.1
  have:=g2 q.2.2.2
  split at h
  ·simp only [Option.some.injEq,Prod.mk.injEq] at h; omega
  ·cases h
 split at h
 ·rename_i q
  have:=g1 q.2.2.1
  have:=g2 q.2.2.2.1
  have:=g3 q.2.2.2.2
  split at h
  ·simp only [Option.some.injEq,Prod.mk.injEq] at h; omega
  ·cases h
 ·cases h
end Go.Proofs.YtbgfffdnaijmhaaGreat.V
/-
  Plain laws of words: the document's runes and words. Own text.
-/
namespace Go.Proofs.YtbgfffdnaijmhaaGreat.M
open Go Go.Proofs Go.Proofs.YtbgfffdnaijmhaaGreat.V
set_option linter.unusedVariables false
def rv : Option (Int × Nat)→Int × Int
  | some (c,w) =>(c,(w : Int))
  | none =>(0,0)
theorem more_eq {s : ByteArray} (j : Nat) : ref01_more s (j : Int) = some (goes s j):=by
  unfold ref01_more goes
  by_cases h : j < s.size
  · have h' : (j : Int) < (s.size : Int):=by omega
    simp only [h',decide_true,if_true,gi_nat h,Option.bind_some,h,Bool.true_and]
    by_cases h2 : 128≤bt s j
    · simp [h2]
    · simp [h2]
  · have h' : ¬ (j : Int) < (s.size : Int):=by omega
    simp [h',h]
theorem Rune_eq {s : ByteArray} {i : Nat} (h : i < s.size) (hs : s.size < 281474976710656) : ref01_Rune s (i : Int) = some (rv (rune s i)):=by
  have b0:=bt_range s i
  have b1:=bt_range s (i + 1)
  have b2:=bt_range s (i + 2)
  have b3:=bt_range s (i + 3)
  have e1 : IntKind.i64.wrap ((i : Int) + 1) = ((i + 1 : Nat) : Int):=by rw [w_eq (by omega) (by omega)]; omega
  have e2 : IntKind.i64.wrap ((i : Int) + 2) = ((i + 2 : Nat) : Int):=by rw [w_eq (by omega) (by omega)]; omega
  have e3 : IntKind.i64.wrap ((i : Int) + 3) = ((i + 3 : Nat) : Int):=by rw [w_eq (by omega) (by omega)]; omega
  unfold ref01_Rune rune runeN
  simp only [gi_nat h,Option.bind_some,e1,e2,e3,more_eq]
  have w0 : IntKind.i64.wrap (bt s i) = bt s i:=w_eq (by omega) (by omega)
  have w1 : IntKind.i64.wrap (bt s (i + 1)) = bt s (i + 1):=w_eq (by omega) (by omega)
  have w2 : IntKind.i64.wrap (bt s (i + 2)) = bt s (i + 2):=w_eq (by omega) (by omega)
  have w3 : IntKind.i64.wrap (bt s (i + 3)) = bt s (i + 3):=w_eq (by omega) (by omega)
  simp only [w0]
  have g1 : goes s (i + 1) = true→_:=goes_spec
  have g2 : goes s (i + 2) = true→_:=goes_spec
  have g3 : goes s (i + 3) = true→_:=goes_spec
  by_cases q0 : bt s i < 128
  · simp [q0,rv]
  simp only [q0,decide_false,Bool.false_eq_true,if_false]
  cases c1 : goes s (i + 1) with
  | false =>
    simp only [Option.bind_some,ite_self,Bool.false_eq_true,if_false,and_false,false_and,rv]
  | true =>
    have k1:=g1 c1
    simp only [Option.bind_some,gi_nat k1.1,w1]
    by_cases q1 : 192≤bt s i∧bt s i < 224
    · have d1 : (decide (bt s i≥192) && decide (bt s i < 224)) = true:=by simpa using q1
      simp only [d1,if_true,Option.bind_some,q1,and_self,and_true]
      simp (disch:=omega) only [w_eq]
      by_cases z : 128≤(bt s i - 192) * 64 + bt s (i + 1) - 128
      · simp [z,rv]
      · simp [z,rv]
    have d1 : (decide (bt s i≥192) && decide (bt s i < 224)) = false:=by
      rw [Bool.eq_false_iff]; intro k; exact q1 (by simpa using k)
    have n1 : ∀ p : Prop,¬ (192≤bt s i∧bt s i < 224∧p):=fun p k =>q1 ⟨k.1,k.2.1⟩
    simp only [d1,Bool.false_eq_true,if_false,Option.bind_some,if_neg (n1 _)]
    by_cases q2 : 224≤bt s i∧bt s i < 240
    · have d2 : (decide (bt s i≥224) && decide (bt s i < 240)) = true:=by simpa using q2
      simp only [d2,if_true,Option.bind_some]
      cases c2 : goes s (i + 2) with
      | false =>
        have n4 : ¬ (240≤bt s i∧bt s i < 248):=by omega
        have d4 : (decide (bt s i≥240) && decide (bt s i < 248)) = false:=by
          rw [Bool.eq_false_iff]; intro k; exact n4 (by simpa using k)
        have n5 : ∀ p : Prop,¬ (240≤bt s i∧bt s i < 248∧p):=fun p k =>n4 ⟨k.1,k.2.1⟩
        simp [d4,if_neg (n5 _),rv]
      | true =>
        have k2:=g2 c2
        simp only [if_true,Option.bind_some,gi_nat k2.1,q2,and_self,w2]
        simp (disch:=omega) only [w_eq]
        by_cases z : 2048≤(bt s i - 224) * 4096 + (bt s (i + 1) - 128) * 64 + bt s (i + 2) - 128∧((bt s i - 224) * 4096 + (bt s (i + 1) - 128) * 64 + bt s (i + 2) - 128 < 55296∨57343 < (bt s i - 224) * 4096 + (bt s (i + 1) - 128) * 64 + bt s (i + 2) - 128)
        · rw [if_pos (by simpa using z),if_pos z]; rfl
        · have n4 : ¬ (240≤bt s i):=by omega
          rw [if_neg (by simpa using z),if_neg z]; rfl
    have d2 : (decide (bt s i≥224) && decide (bt s i < 240)) = false:=by
      rw [Bool.eq_false_iff]; intro k; exact q2 (by simpa using k)
    have n2 : ∀ p q : Prop,¬ (224≤bt s i∧bt s i < 240∧p∧q):=fun p q k =>q2 ⟨k.1,k.2.1⟩
    simp only [d2,Bool.false_eq_true,if_false,Option.bind_some,if_neg (n2 _ _)]
    by_cases q3 : 240≤bt s i∧bt s i < 248
    · have d3 : (decide (bt s i≥240) && decide (bt s i < 248)) = true:=by simpa using q3
      simp only [d3,if_true,Option.bind_some]
      cases c2 : goes s (i + 2) with
      | false =>simp [rv]
      | true =>
        have k2:=g2 c2
        cases c3 : goes s (i + 3) with
        | false =>simp [rv]
        | true =>
          have k3:=g3 c3
          simp only [if_true,Option.bind_some,gi_nat k2.1,gi_nat k3.1,q3,and_self,w2,w3]
          simp (disch:=omega) only [w_eq]
          by_cases z : 65536≤(bt s i - 240) * 262144 + (bt s (i + 1) - 128) * 4096 + (bt s (i + 2) - 128) * 64 + bt s (i + 3) - 128∧(bt s i - 240) * 262144 + (bt s (i + 1) - 128) * 4096 + (bt s (i + 2) - 128) * 64 + bt s (i + 3) - 128≤1114111
          · rw [if_pos (by simpa using z),if_pos z]; rfl
          · rw [if_neg (by simpa using z),if_neg z]; rfl
    have d3 : (decide (bt s i≥240) && decide (bt s i < 248)) = false:=by
      rw [Bool.eq_false_iff]; intro k; exact q3 (by simpa using k)
    have n3 : ∀ p q r : Prop,¬ (240≤bt s i∧bt s i < 248∧p∧q∧r):=fun p q r k =>q3 ⟨k.1,k.2.1⟩
    simp only [d3,Bool.false_eq_true,if_false,Option.bind_some,if_neg (n3 _ _ _),rv]
theorem rv2 {s : ByteArray} {i w : Nat} {c : Int} (hi : i < s.size) (h : rune s i = some (c,w)) : ((w : Int) == 0) = false:=by
  have:=rune_some hi h
  simp; omega
theorem Word_tot {s : ByteArray} (hs : s.size < 281474976710656) : ∃ b,ref01_Word s = some b:=by
  have key : ∀ (k pos : Nat) (n : Int) (f : Nat),s.size - pos≤k→k < f→pos≤s.size→∃ o,ref01_Word.l1 s f n (pos : Int) = some o:=by
    intro k
    induction k with
    | zero =>
      intro pos n f h1 h2 h3
      obtain ⟨f,rfl⟩ : ∃ q,f = q + 1:=⟨f - 1,by omega⟩
      exact ⟨_,by rw [ref01_Word.l1,if_neg (by simp; omega)]⟩
    | succ k ih =>
      intro pos n f h1 h2 h3
      obtain ⟨f,rfl⟩ : ∃ q,f = q + 1:=⟨f - 1,by omega⟩
      by_cases hp : pos < s.size
      · rw [ref01_Word.l1,if_pos (show (decide ((pos : Int) < (s.size : Int))) = true by simp; omega),Rune_eq hp hs]
        cases hr : rune s pos with
        | none =>exact ⟨_,rfl⟩
        | some p =>
          obtain ⟨c,w⟩:=p
          have hw:=rune_some hp hr
          have e : IntKind.i64.wrap ((pos : Int) + (w : Int)) = ((pos + w : Nat) : Int):=by rw [w_eq (by omega) (by omega)]; omega
          simp only [rv,Option.bind_some,rv2 hp hr,Bool.false_eq_true,if_false,e]
          obtain ⟨b,hb⟩ : ∃ b,ref01_plain c = some b:=⟨_,rfl⟩
          simp only [hb,Option.bind_some]
          cases b with
          | false =>exact ⟨_,rfl⟩
          | true =>
            simp only [Bool.not_true,Bool.false_eq_true,if_false]
            exact ih (pos + w) _ f (by omega) (by omega) (by omega)
      · exact ⟨_,by rw [ref01_Word.l1,if_neg (by simp; omega)]⟩
  obtain ⟨o,ho⟩:=key s.size 0 0 FU (by omega) (by unfold FU; omega) (by omega)
  have ho' : ref01_Word.l1 s FU 0 0 = some o:=ho
  unfold ref01_Word
  rw [ho']
  cases o with
  | ret r =>exact ⟨_,rfl⟩
  | go j =>exact ⟨_,rfl⟩
end Go.Proofs.YtbgfffdnaijmhaaGreat.M
/-
  Plain facts: the right rune ahead of a list of bytes. Own text.
-/
namespace Go.Proofs.YtbgfffdnaijmhaaGreat.M
open Go Go.Proofs Go.Proofs.YtbgfffdnaijmhaaGreat.V
set_option linter.unusedVariables false
def cont (b : Int) : Bool:=decide (128≤b) && decide (b < 192)
def gol (t : List Int) (i : Nat) : Bool:=match t[i]? with | some b =>cont b | none =>false
def rl : List Int→Option (Int × Nat)
 | [] =>none
 | b0 :: t =>runeN b0 (t.getD 0 0) (t.getD 1 0) (t.getD 2 0) (gol t 0) (gol t 1) (gol t 2)
theorem rl_cons (b0 : Int) (t : List Int) : rl (b0 :: t) = runeN b0 (t.getD 0 0) (t.getD 1 0) (t.getD 2 0) (gol t 0) (gol t 1) (gol t 2):=rfl
def By (l : List Int) : Prop:=∀ b,b ∈ l→0≤b∧b < 256
theorem bytesL_length (s : ByteArray) : (bytesL s).length = s.size:=by unfold bytesL; rw [List.length_map,Array.length_toList]; rfl
theorem bytesL_get {s : ByteArray} {i : Nat} (h : i < s.size) : (bytesL s)[i]? = some (bt s i):=by
 have h' : i < s.data.toList.length:=by simpa using h
 unfold bytesL bt
 rw [List.getElem?_map,List.getElem?_eq_getElem h',List.getD_eq_getElem?_getD,List.getElem?_eq_getElem h']
 rfl
theorem bytesL_none {s : ByteArray} {i : Nat} (h : ¬ i < s.size) : (bytesL s)[i]? = none:=List.getElem?_eq_none (by rw [bytesL_length]; omega)
theorem bt_out {s : ByteArray} {i : Nat} (h : ¬ i < s.size) : bt s i = 0:=by
 have h' : ¬ i < s.data.toList.length:=by simpa using h
 unfold bt
 rw [List.getD_eq_getElem?_getD,List.getElem?_eq_none (by omega)]
 rfl
theorem bytesL_getD (s : ByteArray) (i : Nat) : (bytesL s).getD i 0 = bt s i:=by
 rw [List.getD_eq_getElem?_getD]
 by_cases h : i < s.size
 ·rw [bytesL_get h]; rfl
 ·rw [bytesL_none h,bt_out h]; rfl
theorem By.drop {l : List Int} (h : By l) (n : Nat) : By (l.drop n):=fun b hb =>h b (List.mem_of_mem_drop hb)
theorem By.take {l : List Int} (h : By l) (n : Nat) : By (l.take n):=fun b hb =>h b (List.mem_of_mem_take hb)
theorem By.tail {b : Int} {l : List Int} (h : By (b :: l)) : By l:=fun x hx =>h x (List.mem_cons_of_mem _ hx)
theorem By.append {l m : List Int} (h : By l) (h' : By m) : By (l++m):=fun b hb =>by
 rcases List.mem_append.1 hb with q | q
 ·exact h b q
 ·exact h' b q
theorem drop_cons_bt {s : ByteArray} {i : Nat} (h : i < s.size) : (bytesL s).drop i = bt s i :: (bytesL s).drop (i + 1):=by
 have hl : i < (bytesL s).length:=by rw [bytesL_length]; exact h
 rw [List.drop_eq_getElem_cons hl]
 congr 1
 have:=bytesL_get h
 rw [List.getElem?_eq_getElem hl,Option.some.injEq] at this
 exact this
theorem rune_rl {s : ByteArray} {i : Nat} (h : i < s.size) : rune s i = rl ((bytesL s).drop i):=by
 have hg : ∀ j,gol ((bytesL s).drop (i + 1)) j = goes s (i + 1 + j):=by
  intro j
  unfold gol goes cont
  rw [List.getElem?_drop]
  by_cases h' : i + 1 + j < s.size
  ·rw [bytesL_get h']; simp [h']
  ·rw [bytesL_none h']; simp [h']
 have hd : ∀ j,((bytesL s).drop (i + 1)).getD j 0 = bt s (i + 1 + j):=by
  intro j
  rw [List.getD_eq_getElem?_getD,List.getElem?_drop,← List.getD_eq_getElem?_getD,bytesL_getD]
 rw [drop_cons_bt h,rl_cons,hg,hg,hg,hd,hd,hd]
 rfl
theorem runeN_some {b0 b1 b2 b3 c : Int} {p1 p2 p3 : Bool} {w : Nat} (h : runeN b0 b1 b2 b3 p1 p2 p3 = some (c,w)) :
  (b0 < 128∧c = b0∧w = 1)∨(192≤b0∧128≤c∧w = 2∧p1 = true∧∀ b2' b3' p2' p3',runeN b0 b1 b2' b3' p1 p2' p3' = some (c,2)) ∨
  (192≤b0∧128≤c∧w = 3∧p1 = true∧p2 = true∧∀ b3' p3',runeN b0 b1 b2 b3' p1 p2 p3' = some (c,3))∨(192≤b0∧128≤c∧w = 4∧p1 = true∧p2 = true∧p3 = true):=by
 unfold runeN at h ⊢
 split at h
 ·simp only [Option.some.injEq,Prod.mk.injEq] at h; exact .inl ⟨by assumption,h.1.symm,h.2.symm⟩
 rename_i q0
 split at h
 ·rename_i q
  split at h
  ·rename_i q'
   simp only [Option.some.injEq,Prod.mk.injEq] at h
   refine .inr (.inl ⟨by omega,by omega,h.2.symm,q.2.2,fun _ _ _ _ =>?_⟩)
   rw [if_neg q0,if_pos q,if_pos q',h.1]
  ·cases h
 rename_i q1
 split at h
 ·rename_i q
  split at h
  ·rename_i q'
   simp only [Option.some.injEq,Prod.mk.injEq] at h
   refine .inr (.inr (.inl ⟨by omega,by omega,h.2.symm,q.2.2.1,q.2.2.2,fun _ _ =>?_⟩))
   rw [if_neg q0,if_neg q1,if_pos q,if_pos q',h.1]
  ·cases h
 rename_i q2
 split at h
 ·rename_i q
  split at h
  ·rename_i q'
   simp only [Option.some.injEq,Prod.mk.injEq] at h
   exact .inr (.inr (.inr ⟨by omega,by omega,h.2.symm,q.2.2.1,q.2.2.2.1,q.2.2.2.2⟩))
  ·cases h
 ·cases h
theorem gol_lt {t : List Int} {i : Nat} (h : gol t i = true) : ∃ b,t[i]? = some b∧128≤b∧b < 192:=by
 unfold gol at h
 split at h
 ·rename_i b hb
  unfold cont at h
  simp at h
  exact ⟨b,hb,h⟩
 ·cases h
theorem rl_some {l : List Int} {c : Int} {w : Nat} (h : rl l = some (c,w)) : 1≤w∧w≤l.length ∧
  ((∃ t,l = c :: t∧c < 128∧w = 1)∨(128≤c∧2≤w∧(∃ b0 t,l = b0 :: t∧192≤b0)∧∀ j b,j < w→l[j]? = some b→128≤b)):=by
 cases l with
 | nil =>cases h
 | cons b0 t =>
  have key : ∀ n,(∀ j,j < n→gol t j = true)→n≤t.length∧∀ j b,j < n→t[j]? = some b→128≤b:=by
   intro n hn
   refine ⟨?_,fun j b hj hb =>?_⟩
   ·cases n with
    | zero =>exact Nat.zero_le _
    | succ n =>
     obtain ⟨b,hb,_⟩:=gol_lt (hn n (Nat.lt_succ_self _))
     have:=(List.getElem?_eq_some_iff.1 hb).1
     omega
   ·obtain ⟨b',hb',h1,h2⟩:=gol_lt (hn j hj)
    rw [hb] at hb'
    cases hb'
    exact h1
  have fin : ∀ n,192≤b0→(∀ j,j < n→gol t j = true)→n + 1≤(b0 :: t).length∧∀ j b,j < n + 1→(b0 :: t)[j]? = some b→128≤b:=by
   intro n h0 hn
   obtain ⟨k1,k2⟩:=key n hn
   refine ⟨by simp only [List.length_cons]; omega,fun j b hj hb =>?_⟩
   cases j with
   | zero =>simp at hb; omega
   | succ j =>exact k2 j b (by omega) (by simpa using hb)
  rw [rl_cons] at h
  rcases runeN_some h with ⟨h1,rfl,rfl⟩ | ⟨h1,h2,rfl,g1,_⟩ | ⟨h1,h2,rfl,g1,g2,_⟩ | ⟨h1,h2,rfl,g1,g2,g3⟩
  ·exact ⟨Nat.le_refl _,by simp,.inl ⟨t,rfl,h1,rfl⟩⟩
  ·obtain ⟨k1,k2⟩:=fin 1 h1 (fun j hj =>by
    obtain rfl : j = 0:=by omega
    exact g1)
   exact ⟨by omega,k1,.inr ⟨h2,by omega,⟨b0,t,rfl,h1⟩,k2⟩⟩
  ·obtain ⟨k1,k2⟩:=fin 2 h1 (fun j hj =>by
    rcases (show j = 0∨j = 1 by omega) with rfl | rfl
    ·exact g1
    ·exact g2)
   exact ⟨by omega,k1,.inr ⟨h2,by omega,⟨b0,t,rfl,h1⟩,k2⟩⟩
  ·obtain ⟨k1,k2⟩:=fin 3 h1 (fun j hj =>by
    rcases (show j = 0∨j = 1∨j = 2 by omega) with rfl | rfl | rfl
    ·exact g1
    ·exact g2
    ·exact g3)
   exact ⟨by omega,k1,.inr ⟨h2,by omega,⟨b0,t,rfl,h1⟩,k2⟩⟩
theorem rl_take {l m : List Int} {c : Int} {w : Nat} (h : rl l = some (c,w)) : rl (l.take w++m) = some (c,w):=by
 have hw:=rl_some h
 cases l with
 | nil =>cases h
 | cons b0 t =>
  rw [rl_cons] at h
  rcases runeN_some h with ⟨h1,rfl,rfl⟩ | ⟨h1,h2,rfl,g1,k⟩ | ⟨h1,h2,rfl,g1,g2,k⟩ | ⟨h1,h2,rfl,g1,g2,g3⟩
  ·simp only [List.take_succ_cons,List.take_zero,List.cons_append,List.nil_append]
   rw [rl_cons,runeN,if_pos h1]
  ·obtain ⟨b1,hb,_⟩:=gol_lt g1
   obtain ⟨b1',t,rfl⟩ : ∃ b t',t = b :: t':=by cases t with | nil =>simp at hb | cons b t' =>exact ⟨b,t',rfl⟩
   simp only [List.take_succ_cons,List.take_zero,List.cons_append,List.nil_append]
   rw [rl_cons]
   simpa [gol] using k _ _ _ _
  ·obtain ⟨b2,hb,_⟩:=gol_lt g2
   obtain ⟨b1',b2',t,rfl⟩ : ∃ b b' t',t = b :: b' :: t':=by
    match t,hb with
    | b :: b' :: t',_ =>exact ⟨b,b',t',rfl⟩
   simp only [List.take_succ_cons,List.take_zero,List.cons_append,List.nil_append]
   rw [rl_cons]
   simpa [gol] using k _ _
  ·obtain ⟨b3,hb,_⟩:=gol_lt g3
   obtain ⟨b1',b2',b3',t,rfl⟩ : ∃ b b' b'' t',t = b :: b' :: b'' :: t':=by
    match t,hb with
    | b :: b' :: b'' :: t',_ =>exact ⟨b,b',b'',t',rfl⟩
   simp only [List.take_succ_cons,List.take_zero,List.cons_append,List.nil_append]
   rw [rl_cons]
   simpa [gol] using h
theorem rl_append {l m : List Int} {c : Int} {w : Nat} (h : rl l = some (c,w)) : rl (l++m) = some (c,w):=by
 have:=rl_take (m:=l.drop w++m) h
 rwa [← List.append_assoc,List.take_append_drop] at this
theorem rl_ascii {b : Int} {t : List Int} (h : b < 128) : rl (b :: t) = some (b,1):=by
 rw [rl_cons,runeN,if_pos h]
end Go.Proofs.YtbgfffdnaijmhaaGreat.M

/-
  Printed by a program of this session out of the loaded functions: models and their proofs. Own text.
-/
import Derived.Test.YtkondhigbbgidaaGreatVEq
import Derived.Test.YtkondhigbbgidaaGreatSGF
/-
  Plain facts on numbers and texts, for the plain laws. Own text.
-/
namespace Go.Proofs.YtkondhigbbgidaaGreat.V
open Go
set_option linter.unusedVariables false
set_option linter.unusedSimpArgs false
theorem w_eq {x : Int} (h1 : -9223372036854775808≤x) (h2 : x < 9223372036854775808) : IntKind.i64.wrap x = x:=by
 by_cases h : 0≤x
 ·have e : x % 18446744073709551616 = x:=by omega
  have e2 : decide (x≥9223372036854775808) = false:=by simp; omega
  simp [IntKind.wrap,IntKind.bits,IntKind.signed,e,e2]
 ·have e : x % 18446744073709551616 = x + 18446744073709551616:=by omega
  have e2 : decide (x + 18446744073709551616≥9223372036854775808) = true:=by simp; omega
  simp [IntKind.wrap,IntKind.bits,IntKind.signed,e]
  omega
theorem bt_range (s : ByteArray) (i : Nat) : 0≤bt s i∧bt s i < 256:=by
 unfold bt
 have:=(s.data.toList.getD i 0).toNat_lt
 omega
theorem bt_get (s : ByteArray) (i : Nat) (h : i < s.size) : ((s.get! i).toNat : Int) = bt s i:=by
 unfold bt ByteArray.get!
 have h' : i < s.data.size:=h
 have h2 : i < s.data.toList.length:=by simpa using h'
 rw [List.getD_eq_getElem?_getD,List.getElem?_eq_getElem h2]
 simp [getElem!_pos s.data i h']
theorem gi_nat {s : ByteArray} {i : Nat} (h : i < s.size) : gi s (i : Int) = some (bt s i):=by
 unfold gi
 rw [if_pos ⟨Int.natCast_nonneg _,by omega⟩]
 simp
def runeN (b0 b1 b2 b3 : Int) (p1 p2 p3 : Bool) : Option (Int × Nat) :=
 if b0 < 128 then some (b0,1)
 else if 192≤b0∧b0 < 224∧p1 = true then
  if 128≤(b0 - 192) * 64 + b1 - 128 then some ((b0 - 192) * 64 + b1 - 128,2) else none
 else if 224≤b0∧b0 < 240∧p1 = true∧p2 = true then
  if 2048≤(b0 - 224) * 4096 + (b1 - 128) * 64 + b2 - 128∧((b0 - 224) * 4096 + (b1 - 128) * 64 + b2 - 128 < 55296∨57343 < (b0 - 224) * 4096 + (b1 - 128) * 64 + b2 - 128) then some ((b0 - 224) * 4096 + (b1 - 128) * 64 + b2 - 128,3) else none
 else if 240≤b0∧b0 < 248∧p1 = true∧p2 = true∧p3 = true then
  if 65536≤(b0 - 240) * 262144 + (b1 - 128) * 4096 + (b2 - 128) * 64 + b3 - 128∧(b0 - 240) * 262144 + (b1 - 128) * 4096 + (b2 - 128) * 64 + b3 - 128≤1114111 then some ((b0 - 240) * 262144 + (b1 - 128) * 4096 + (b2 - 128) * 64 + b3 - 128,4) else none
 else none
def goes (s : ByteArray) (i : Nat) : Bool:=decide (i < s.size) && (decide (128≤bt s i) && decide (bt s i < 192))
def rune (s : ByteArray) (i : Nat) : Option (Int × Nat):=runeN (bt s i) (bt s (i + 1)) (bt s (i + 2)) (bt s (i + 3)) (goes s (i + 1)) (goes s (i + 2)) (goes s (i + 3))
theorem bt_get' (s : ByteArray) (i : Nat) : bt s i = ((s.get! i).toNat : Int):=by
 by_cases h : i < s.size
 ·exact (bt_get s i h).symm
 ·have h' : ¬ i < s.data.size:=h
  unfold bt ByteArray.get!
  have h2 : ¬ i < s.data.toList.length:=by simpa using h'
  rw [List.getD_eq_getElem?_getD,List.getElem?_eq_none (by omega)]
  simp [getElem!_neg s.data i h']
  rfl
theorem cont_iff (p : Prop) [Decidable p] (a : Nat) (ha : a < 256) : (decide p && a / 64 == 2) = (decide p && (decide ((128 : Int)≤a) && decide ((a : Int) < 192))):=by
 congr 1
 rw [Bool.eq_iff_iff]
 simp
 omega
def rdv : Option (Int × Nat)→Nat × Nat
 | some (c,w) =>(c.toNat,w)
 | none =>(65533,1)
def decN (a0 a1 a2 a3 : Nat) (p1 p2 p3 : Bool) : Nat × Nat :=
 if a0 < 128 then (a0,1)
 else if (a0 / 32 == 6 && p1) = true then (if a0 % 32 * 64 + a1 % 64≥128 then (a0 % 32 * 64 + a1 % 64,2) else (65533,1))
 else if (a0 / 16 == 14 && p1 && p2) = true then
  (if (decide (a0 % 16 * 4096 + a1 % 64 * 64 + a2 % 64≥2048) && Utf8.valid ((a0 % 16 * 4096 + a1 % 64 * 64 + a2 % 64 : Nat) : Int)) = true then (a0 % 16 * 4096 + a1 % 64 * 64 + a2 % 64,3) else (65533,1))
 else if (a0 / 8 == 30 && p1 && p2 && p3) = true then
  (if (decide (a0 % 8 * 262144 + a1 % 64 * 4096 + a2 % 64 * 64 + a3 % 64≥65536) && Utf8.valid ((a0 % 8 * 262144 + a1 % 64 * 4096 + a2 % 64 * 64 + a3 % 64 : Nat) : Int)) = true then (a0 % 8 * 262144 + a1 % 64 * 4096 + a2 % 64 * 64 + a3 % 64,4) else (65533,1))
 else (65533,1)
theorem decode_N (s : ByteArray) (i : Nat) : Utf8.decode s i = decN (s.get! i).toNat (s.get! (i + 1)).toNat (s.get! (i + 2)).toNat (s.get! (i + 3)).toNat
  (decide (i + 1 < s.size) && (s.get! (i + 1)).toNat / 64 == 2) (decide (i + 2 < s.size) && (s.get! (i + 2)).toNat / 64 == 2) (decide (i + 3 < s.size) && (s.get! (i + 3)).toNat / 64 == 2):=by
 unfold Utf8.decode decN
 rfl
theorem goes_N (s : ByteArray) (i : Nat) : (decide (i < s.size) && (s.get! i).toNat / 64 == 2) = goes s i:=by
 have h:=(s.get! i).toNat_lt
 unfold goes
 rw [bt_get',cont_iff _ _ h]
theorem goes_spec {s : ByteArray} {i : Nat} (h : goes s i = true) : i < s.size∧128≤bt s i∧bt s i < 192:=by
 simpa [goes] using h
theorem valid_iff (n : Nat) : Utf8.valid (n : Int) = true↔(n < 55296∨(57344≤n∧n≤1114111)):=by
 unfold Utf8.valid
 simp only [Bool.or_eq_true,Bool.and_eq_true,decide_eq_true_eq]
 omega
theorem rune_decN {a0 a1 a2 a3 : Nat} {p1 p2 p3 : Bool} (l0 : a0 < 256) (h1 : p1 = true→128≤a1∧a1 < 192) (h2 : p2 = true→128≤a2∧a2 < 192) (h3 : p3 = true→128≤a3∧a3 < 192) :
  decN a0 a1 a2 a3 p1 p2 p3 = rdv (runeN a0 a1 a2 a3 p1 p2 p3):=by
 unfold decN runeN
 by_cases q0 : a0 < 128
 ·rw [if_pos q0,if_pos (show (a0 : Int) < 128 by omega)]
  simp [rdv]
 rw [if_neg q0,if_neg (show ¬ (a0 : Int) < 128 by omega)]
 by_cases q1 : a0 / 32 = 6∧p1 = true
 ·have:=h1 q1.2
  rw [if_pos (show (a0 / 32 == 6 && p1) = true by simp [q1.1,q1.2]),if_pos (show 192≤(a0 : Int)∧(a0 : Int) < 224∧p1 = true from ⟨by omega,by omega,q1.2⟩)]
  have e : ((a0 : Int) - 192) * 64 + (a1 : Int) - 128 = ((a0 % 32 * 64 + a1 % 64 : Nat) : Int):=by omega
  rw [e]
  generalize a0 % 32 * 64 + a1 % 64 = m
  by_cases z : m≥128
  ·rw [if_pos z,if_pos (show 128≤(m : Int) by omega)]; simp [rdv]
  ·rw [if_neg z,if_neg (show ¬ 128≤(m : Int) by omega)]; rfl
 rw [if_neg (show ¬ (a0 / 32 == 6 && p1) = true by simpa using q1),if_neg (show ¬ (192≤(a0 : Int)∧(a0 : Int) < 224∧p1 = true) from fun k =>q1 ⟨by omega,k.2.2⟩)]
 by_cases q2 : a0 / 16 = 14∧p1 = true∧p2 = true
 ·have:=h1 q2.2.1
  have:=h2 q2.2.2
  rw [if_pos (show (a0 / 16 == 14 && p1 && p2) = true by simp [q2.1,q2.2.1,q2.2.2]),if_pos (show 224≤(a0 : Int)∧(a0 : Int) < 240∧p1 = true∧p2 = true from ⟨by omega,by omega,q2.2⟩)]
  have e : ((a0 : Int) - 224) * 4096 + ((a1 : Int) - 128) * 64 + (a2 : Int) - 128 = ((a0 % 16 * 4096 + a1 % 64 * 64 + a2 % 64 : Nat) : Int):=by omega
  have hm : a0 % 16 * 4096 + a1 % 64 * 64 + a2 % 64 < 65536:=by omega
  rw [e]
  generalize a0 % 16 * 4096 + a1 % 64 * 64 + a2 % 64 = m at *
  have vv:=valid_iff m
  by_cases z : m≥2048∧Utf8.valid (m : Int) = true
  ·have:=vv.1 z.2
   rw [if_pos (show (decide (m≥2048) && Utf8.valid (m : Int)) = true by simp [z.1,z.2]),if_pos (show 2048≤(m : Int)∧((m : Int) < 55296∨57343 < (m : Int)) by omega)]; simp [rdv]
  ·rw [if_neg (show ¬ (decide (m≥2048) && Utf8.valid (m : Int)) = true by simpa using z),if_neg (show ¬ (2048≤(m : Int)∧((m : Int) < 55296∨57343 < (m : Int))) from fun k =>z ⟨by omega,vv.2 (by omega)⟩)]; rfl
 rw [if_neg (show ¬ (a0 / 16 == 14 && p1 && p2) = true by simpa [and_assoc] using q2),if_neg (show ¬ (224≤(a0 : Int)∧(a0 : Int) < 240∧p1 = true∧p2 = true) from fun k =>q2 ⟨by omega,k.2.2⟩)]
 by_cases q3 : a0 / 8 = 30∧p1 = true∧p2 = true∧p3 = true
 ·have:=h1 q3.2.1
  have:=h2 q3.2.2.1
  have:=h3 q3.2.2.2
  rw [if_pos (show (a0 / 8 == 30 && p1 && p2 && p3) = true by simp [q3.1,q3.2.1,q3.2.2.1,q3.2.2.2]),if_pos (show 240≤(a0 : Int)∧(a0 : Int) < 248∧p1 = true∧p2 = true∧p3 = true from ⟨by omega,by omega,q3.2⟩)]
  have e : ((a0 : Int) - 240) * 262144 + ((a1 : Int) - 128) * 4096 + ((a2 : Int) - 128) * 64 + (a3 : Int) - 128 = ((a0 % 8 * 262144 + a1 % 64 * 4096 + a2 % 64 * 64 + a3 % 64 : Nat) : Int):=by omega
  rw [e]
  generalize a0 % 8 * 262144 + a1 % 64 * 4096 + a2 % 64 * 64 + a3 % 64 = m at *
  have vv:=valid_iff m
  by_cases z : m≥65536∧Utf8.valid (m : Int) = true
  ·have:=vv.1 z.2
   rw [if_pos (show (decide (m≥65536) && Utf8.valid (m : Int)) = true by simp [z.1,z.2]),if_pos (show 65536≤(m : Int)∧(m : Int)≤1114111 by omega)]; simp [rdv]
  ·rw [if_neg (show ¬ (decide (m≥65536) && Utf8.valid (m : Int)) = true by simpa using z),if_neg (show ¬ (65536≤(m : Int)∧(m : Int)≤1114111) from fun k =>z ⟨by omega,vv.2 (by omega)⟩)]; rfl
 rw [if_neg (show ¬ (a0 / 8 == 30 && p1 && p2 && p3) = true by simpa [and_assoc] using q3),if_neg (show ¬ (240≤(a0 : Int)∧(a0 : Int) < 248∧p1 = true∧p2 = true∧p3 = true) from fun k =>q3 ⟨by omega,k.2.2⟩)]; rfl
theorem decode_rune (s : ByteArray) (i : Nat) : Utf8.decode s i = rdv (rune s i):=by
 have e : rune s i = runeN (s.get! i).toNat (s.get! (i + 1)).toNat (s.get! (i + 2)).toNat (s.get! (i + 3)).toNat (goes s (i + 1)) (goes s (i + 2)) (goes s (i + 3)):=by
  unfold rune
  rw [bt_get' s i,bt_get' s (i + 1),bt_get' s (i + 2),bt_get' s (i + 3)]
 have l0 : (s.get! i).toNat < 256:=(s.get! i).toNat_lt
 rw [decode_N,goes_N,goes_N,goes_N,e]
 have k : ∀ j,goes s j = true→128≤(s.get! j).toNat∧(s.get! j).toNat < 192:=fun j h =>by
  have:=goes_spec h
  rw [bt_get'] at this
  omega
 generalize (s.get! i).toNat = a0 at *
 exact rune_decN (by omega) (k _) (k _) (k _)
theorem rune_some {s : ByteArray} {i : Nat} {c : Int} {w : Nat} (hi : i < s.size) (h : rune s i = some (c,w)) : 0≤c∧c≤1114111∧1≤w∧w≤4∧i + w≤s.size:=by
 have r0:=bt_range s i
 have g1 : goes s (i + 1) = true→_:=goes_spec
 have g2 : goes s (i + 2) = true→_:=goes_spec
 have g3 : goes s (i + 3) = true→_:=goes_spec
 unfold rune runeN at h
 split at h
 ·simp only [Option.some.injEq,Prod.mk.injEq] at h; omega
 split at h
 ·rename_i q
  have:=g1 q.2.2
  split at h
  ·simp only [Option.some.injEq,Prod.mk.injEq] at h; omega
  ·cases h
 split at h
 ·rename_i q
  have:=g1 q.2.2.1
  have:=g2 q.2.2.2
  split at h
  ·simp only [Option.some.injEq,Prod.mk.injEq] at h; omega
  ·cases h
 split at h
 ·rename_i q
  have:=g1 q.2.2.1
  have:=g2 q.2.2.2.1
  have:=g3 q.2.2.2.2
  split at h
  ·simp only [Option.some.injEq,Prod.mk.injEq] at h; omega
  ·cases h
 ·cases h
end Go.Proofs.YtkondhigbbgidaaGreat.V
/-
  Plain laws of lex: runes. Own text.
-/
namespace Go.Proofs.YtkondhigbbgidaaGreat.M
open Go Go.Proofs Go.Proofs.YtkondhigbbgidaaGreat.V
set_option linter.unusedVariables false
set_option linter.unusedSimpArgs false
def rv : Option (Int × Nat)→Int × Int
 | some (c,w) =>(c,(w : Int))
 | none =>(0,0)
theorem more_eq {s : ByteArray} (j : Nat) : ref01_more s (j : Int) = some (goes s j):=by
 unfold ref01_more goes
 by_cases h : j < s.size
 ·have h' : (j : Int) < (s.size : Int):=by omega
  simp only [h',decide_true,if_true,gi_nat h,Option.bind_some,h,Bool.true_and]
  by_cases h2 : 128≤bt s j
  ·simp [h2]
  ·simp [h2]
 ·have h' : ¬ (j : Int) < (s.size : Int):=by omega
  simp [h',h]
theorem Rune_eq {s : ByteArray} {i : Nat} (h : i < s.size) (hs : s.size < 281474976710656) : ref01_Rune s (i : Int) = some (rv (rune s i)):=by
 have b0:=bt_range s i
 have b1:=bt_range s (i + 1)
 have b2:=bt_range s (i + 2)
 have b3:=bt_range s (i + 3)
 have e1 : IntKind.i64.wrap ((i : Int) + 1) = ((i + 1 : Nat) : Int):=by rw [w_eq (by omega) (by omega)]; omega
 have e2 : IntKind.i64.wrap ((i : Int) + 2) = ((i + 2 : Nat) : Int):=by rw [w_eq (by omega) (by omega)]; omega
 have e3 : IntKind.i64.wrap ((i : Int) + 3) = ((i + 3 : Nat) : Int):=by rw [w_eq (by omega) (by omega)]; omega
 unfold ref01_Rune rune runeN
 simp only [gi_nat h,Option.bind_some,e1,e2,e3,more_eq]
 have w0 : IntKind.i64.wrap (bt s i) = bt s i:=w_eq (by omega) (by omega)
 have w1 : IntKind.i64.wrap (bt s (i + 1)) = bt s (i + 1):=w_eq (by omega) (by omega)
 have w2 : IntKind.i64.wrap (bt s (i + 2)) = bt s (i + 2):=w_eq (by omega) (by omega)
 have w3 : IntKind.i64.wrap (bt s (i + 3)) = bt s (i + 3):=w_eq (by omega) (by omega)
 simp only [w0]
 have g1 : goes s (i + 1) = true→_:=goes_spec
 have g2 : goes s (i + 2) = true→_:=goes_spec
 have g3 : goes s (i + 3) = true→_:=goes_spec
 by_cases q0 : bt s i < 128
 ·simp [q0,rv]
 simp only [q0,decide_false,Bool.false_eq_true,if_false]
 cases c1 : goes s (i + 1) with
 | false =>
  simp only [Option.bind_some,ite_self,Bool.false_eq_true,if_false,and_false,false_and,rv]
 | true =>
  have k1:=g1 c1
  simp only [Option.bind_some,gi_nat k1.1,w1]
  by_cases q1 : 192≤bt s i∧bt s i < 224
  ·have d1 : (decide (bt s i≥192) && decide (bt s i < 224)) = true:=by simpa using q1
   simp only [d1,if_true,Option.bind_some,q1,and_self,and_true]
   simp (disch:=omega) only [w_eq]
   by_cases z : 128≤(bt s i - 192) * 64 + bt s (i + 1) - 128
   ·simp [z,rv]
   ·simp [z,rv]
  have d1 : (decide (bt s i≥192) && decide (bt s i < 224)) = false:=by
   rw [Bool.eq_false_iff]; intro k; exact q1 (by simpa using k)
  have n1 : ∀ p : Prop,¬ (192≤bt s i∧bt s i < 224∧p):=fun p k =>q1 ⟨k.1,k.2.1⟩
  simp only [d1,Bool.false_eq_true,if_false,Option.bind_some,if_neg (n1 _)]
  by_cases q2 : 224≤bt s i∧bt s i < 240
  ·have d2 : (decide (bt s i≥224) && decide (bt s i < 240)) = true:=by simpa using q2
   simp only [d2,if_true,Option.bind_some]
   cases c2 : goes s (i + 2) with
   | false =>
    have n4 : ¬ (240≤bt s i∧bt s i < 248):=by omega
    have d4 : (decide (bt s i≥240) && decide (bt s i < 248)) = false:=by
     rw [Bool.eq_false_iff]; intro k; exact n4 (by simpa using k)
    have n5 : ∀ p : Prop,¬ (240≤bt s i∧bt s i < 248∧p):=fun p k =>n4 ⟨k.1,k.2.1⟩
    simp [d4,if_neg (n5 _),rv]
   | true =>
    have k2:=g2 c2
    simp only [if_true,Option.bind_some,gi_nat k2.1,q2,and_self,w2]
    simp (disch:=omega) only [w_eq]
    by_cases z : 2048≤(bt s i - 224) * 4096 + (bt s (i + 1) - 128) * 64 + bt s (i + 2) - 128∧((bt s i - 224) * 4096 + (bt s (i + 1) - 128) * 64 + bt s (i + 2) - 128 < 55296∨57343 < (bt s i - 224) * 4096 + (bt s (i + 1) - 128) * 64 + bt s (i + 2) - 128)
    ·rw [if_pos (by simpa using z),if_pos z]; rfl
    ·have n4 : ¬ (240≤bt s i):=by omega
     rw [if_neg (by simpa using z),if_neg z]; rfl
  have d2 : (decide (bt s i≥224) && decide (bt s i < 240)) = false:=by
   rw [Bool.eq_false_iff]; intro k; exact q2 (by simpa using k)
  have n2 : ∀ p q : Prop,¬ (224≤bt s i∧bt s i < 240∧p∧q):=fun p q k =>q2 ⟨k.1,k.2.1⟩
  simp only [d2,Bool.false_eq_true,if_false,Option.bind_some,if_neg (n2 _ _)]
  by_cases q3 : 240≤bt s i∧bt s i < 248
  ·have d3 : (decide (bt s i≥240) && decide (bt s i < 248)) = true:=by simpa using q3
   simp only [d3,if_true,Option.bind_some]
   cases c2 : goes s (i + 2) with
   | false =>simp [rv]
   | true =>
    have k2:=g2 c2
    cases c3 : goes s (i + 3) with
    | false =>simp [rv]
    | true =>
     have k3:=g3 c3
     simp only [if_true,Option.bind_some,gi_nat k2.1,gi_nat k3.1,q3,and_self,w2,w3]
     simp (disch:=omega) only [w_eq]
     by_cases z : 65536≤(bt s i - 240) * 262144 + (bt s (i + 1) - 128) * 4096 + (bt s (i + 2) - 128) * 64 + bt s (i + 3) - 128∧(bt s i - 240) * 262144 + (bt s (i + 1) - 128) * 4096 + (bt s (i + 2) - 128) * 64 + bt s (i + 3) - 128≤1114111
     ·rw [if_pos (by simpa using z),if_pos z]; rfl
     ·rw [if_neg (by simpa using z),if_neg z]; rfl
  have d3 : (decide (bt s i≥240) && decide (bt s i < 248)) = false:=by
   rw [Bool.eq_false_iff]; intro k; exact q3 (by simpa using k)
  have n3 : ∀ p q r : Prop,¬ (240≤bt s i∧bt s i < 248∧p∧q∧r):=fun p q r k =>q3 ⟨k.1,k.2.1⟩
  simp only [d3,Bool.false_eq_true,if_false,Option.bind_some,if_neg (n3 _ _ _),rv]
theorem right_eq {s : ByteArray} {i : Nat} (h : i < s.size) (hs : s.size < 281474976710656) : lex_right s (i : Int) ((Utf8.decode s i).1 : Int) = some (rune s i).isSome:=by
 have b0:=bt_range s i
 have b1:=bt_range s (i + 1)
 have b2:=bt_range s (i + 2)
 have b3:=bt_range s (i + 3)
 have e1 : IntKind.i64.wrap ((i : Int) + 1) = ((i + 1 : Nat) : Int):=by rw [w_eq (by omega) (by omega)]; omega
 have e2 : IntKind.i64.wrap ((i : Int) + 2) = ((i + 2 : Nat) : Int):=by rw [w_eq (by omega) (by omega)]; omega
 have g1 : goes s (i + 1) = true→_:=goes_spec
 have g2 : goes s (i + 2) = true→_:=goes_spec
 have g3 : goes s (i + 3) = true→_:=goes_spec
 -- the three bytes of the rune that a decoder tells for what is wrong
 have key : lex_right s (i : Int) 65533 = some (decide (i + 2 < s.size∧bt s i = 239∧bt s (i + 1) = 191∧bt s (i + 2) = 189)):=by
  unfold lex_right
  simp only [e1,e2,bne_self_eq_false,Bool.false_eq_true,if_false]
  by_cases q : i + 2 < s.size
  ·have q1 : i + 1 < s.size:=by omega
   simp only [show (((i + 2 : Nat) : Int) < (s.size : Int)) by omega,decide_true,if_true,gi_nat h,gi_nat q,gi_nat q1,Option.bind_some,q,true_and]
   by_cases z0 : bt s i = 239<;>by_cases z1 : bt s (i + 1) = 191<;>by_cases z2 : bt s (i + 2) = 189<;>simp [z0,z1,z2]
  ·simp only [show ¬ (((i + 2 : Nat) : Int) < (s.size : Int)) by omega,decide_false,Bool.false_eq_true,if_false,Option.bind_some,q,false_and]
 cases hr : rune s i with
 | none =>
  rw [decode_rune,hr]
  show lex_right s (i : Int) 65533 = _
  rw [key]
  simp only [Option.isSome_none,Option.some.injEq,decide_eq_false_iff_not]
  rintro ⟨q,z0,z1,z2⟩
  have c1 : goes s (i + 1) = true:=by unfold goes; simp; omega
  have c2 : goes s (i + 2) = true:=by unfold goes; simp; omega
  unfold rune runeN at hr
  simp [z0,z1,z2,c1,c2] at hr
 | some p =>
  obtain ⟨c,w⟩:=p
  have hc:=rune_some h hr
  rw [decode_rune,hr]
  show lex_right s (i : Int) ((c.toNat : Nat) : Int) = _
  rw [Int.toNat_of_nonneg hc.1]
  by_cases z : c = 65533
  ·subst z
   rw [key]
   simp only [Option.isSome_some,Option.some.injEq,decide_eq_true_eq]
   unfold rune runeN at hr
   split at hr
   ·simp only [Option.some.injEq,Prod.mk.injEq] at hr; omega
   split at hr
   ·rename_i q
    have:=g1 q.2.2
    split at hr
    ·simp only [Option.some.injEq,Prod.mk.injEq] at hr; omega
    ·cases hr
   split at hr
   ·rename_i q
    have:=g1 q.2.2.1
    have:=g2 q.2.2.2
    split at hr
    ·simp only [Option.some.injEq,Prod.mk.injEq] at hr; omega
    ·cases hr
   split at hr
   ·rename_i q
    have:=g1 q.2.2.1
    have:=g2 q.2.2.2.1
    have:=g3 q.2.2.2.2
    split at hr
    ·simp only [Option.some.injEq,Prod.mk.injEq] at hr; omega
    ·cases hr
   ·cases hr
  ·unfold lex_right
   simp [z]
end Go.Proofs.YtkondhigbbgidaaGreat.M
/-
  Plain laws of lex: runes counted, words, quotes; the law LexTexts. Own text.
-/
namespace Go.Proofs.YtkondhigbbgidaaGreat.M
open Go Go.Proofs Go.Proofs.YtkondhigbbgidaaGreat.V
set_option linter.unusedVariables false
set_option linter.unusedSimpArgs false
theorem plain_eq (c : Int) : lex_plain c = ref01_plain c:=by
  unfold lex_plain ref01_plain
  by_cases h1 : c = 40
  · subst h1; rfl
  by_cases h2 : c = 41
  · subst h2; rfl
  by_cases h3 : c = 34
  · subst h3; rfl
  by_cases h4 : c = 59
  · subst h4; rfl
  by_cases h5 : c = 127
  · subst h5; rfl
  have e1 : (c != 40) = true:=by simpa using h1
  have e2 : (c != 41) = true:=by simpa using h2
  have e3 : (c != 34) = true:=by simpa using h3
  have e4 : (c != 59) = true:=by simpa using h4
  have e5 : (c != 127) = true:=by simpa using h5
  simp only [e1,e2,e3,e4,e5,Bool.and_true]
  simp [h1,h2,h3,h4,h5]
theorem rv2 {s : ByteArray} {i w : Nat} {c : Int} (hi : i < s.size) (h : rune s i = some (c,w)) : ((w : Int) == 0) = false:=by
  have:=rune_some hi h
  simp; omega
theorem Runes_loop {s : ByteArray} (hs : s.size < 281474976710656) : ∀ (k pos : Nat) (n : Int) (f1 f2 : Nat),s.size - pos≤k→k < f1→k < f2→pos≤s.size →
    ∃ o,lex_Runes.l1 s f1 n pos = some o∧ref01_Runes.l1 s f2 n (pos : Int) = some o:=by
  intro k
  induction k with
  | zero =>
    intro pos n f1 f2 h1 h2 h3 h4
    obtain ⟨f1,rfl⟩ : ∃ q,f1 = q + 1:=⟨f1 - 1,by omega⟩
    obtain ⟨f2,rfl⟩ : ∃ q,f2 = q + 1:=⟨f2 - 1,by omega⟩
    refine ⟨Out.go n,?_,?_⟩
    · rw [lex_Runes.l1,if_neg (by omega)]
    · rw [ref01_Runes.l1,if_neg (by simp; omega)]
  | succ k ih =>
    intro pos n f1 f2 h1 h2 h3 h4
    obtain ⟨f1,rfl⟩ : ∃ q,f1 = q + 1:=⟨f1 - 1,by omega⟩
    obtain ⟨f2,rfl⟩ : ∃ q,f2 = q + 1:=⟨f2 - 1,by omega⟩
    by_cases hp : pos < s.size
    · rw [lex_Runes.l1,ref01_Runes.l1,if_pos hp,if_pos (by simp; omega),right_eq hp hs,Rune_eq hp hs,decode_rune]
      cases hr : rune s pos with
      | none =>exact ⟨_,rfl,rfl⟩
      | some p =>
        obtain ⟨c,w⟩:=p
        have hw:=rune_some hp hr
        have e : IntKind.i64.wrap ((pos : Int) + (w : Int)) = ((pos + w : Nat) : Int):=by rw [w_eq (by omega) (by omega)]; omega
        obtain ⟨o,g1,g2⟩:=ih (pos + w) (IntKind.i64.wrap (n + 1)) f1 f2 (by omega) (by omega) (by omega) (by omega)
        refine ⟨o,?_,?_⟩
        · simpa [rdv] using g1
        · simp only [rv,Option.bind_some,rv2 hp hr,Bool.false_eq_true,if_false,e]; exact g2
    · refine ⟨Out.go n,?_,?_⟩
      · rw [lex_Runes.l1,if_neg hp]
      · rw [ref01_Runes.l1,if_neg (by simp; omega)]
theorem Runes_eq {s : ByteArray} (hs : s.size < 281474976710656) : ∃ n,lex_Runes s = some n∧ref01_Runes s = some n:=by
  obtain ⟨o,h1,h2⟩:=Runes_loop hs s.size 0 0 FU FU (by omega) (by unfold FU; omega) (by unfold FU; omega) (by omega)
  unfold lex_Runes ref01_Runes
  rw [h1]
  have h2' : ref01_Runes.l1 s FU 0 0 = some o:=h2
  rw [h2']
  cases o with
  | ret r =>exact ⟨r,rfl,rfl⟩
  | go r =>exact ⟨r,rfl,rfl⟩
theorem Word_loop {s : ByteArray} (hs : s.size < 281474976710656) : ∀ (k pos : Nat) (n : Int) (f1 f2 f3 : Nat),s.size - pos≤k→k < f1→k < f2→k < f3→pos≤s.size→0≤n→n + k < 4611686018427387904 →
    (∃ m : Nat,lex_head_lex_plain.l1 s f1 pos = some (Out.go ())∧ref01_Word.l1 s f2 n (pos : Int) = some (Out.go (n + m))∧lex_Runes.l1 s f3 n pos = some (Out.go (n + m))∧(pos < s.size→1≤m)∧(pos = s.size→m = 0)) ∨
    (∃ p b,lex_head_lex_plain.l1 s f1 pos = some (Out.ret (p,b))∧(b = false∨p < s.size)∧ref01_Word.l1 s f2 n (pos : Int) = some (Out.ret false)):=by
  intro k
  induction k with
  | zero =>
    intro pos n f1 f2 f3 h1 h2 h3 h4 h5 h6 h7
    obtain ⟨f1,rfl⟩ : ∃ q,f1 = q + 1:=⟨f1 - 1,by omega⟩
    obtain ⟨f2,rfl⟩ : ∃ q,f2 = q + 1:=⟨f2 - 1,by omega⟩
    obtain ⟨f3,rfl⟩ : ∃ q,f3 = q + 1:=⟨f3 - 1,by omega⟩
    refine .inl ⟨0,?_,?_,?_,by omega,by omega⟩
    · rw [lex_head_lex_plain.l1,if_neg (by omega)]
    · rw [ref01_Word.l1,if_neg (by simp; omega)]; simp
    · rw [lex_Runes.l1,if_neg (by omega)]; simp
  | succ k ih =>
    intro pos n f1 f2 f3 h1 h2 h3 h4 h5 h6 h7
    obtain ⟨f1,rfl⟩ : ∃ q,f1 = q + 1:=⟨f1 - 1,by omega⟩
    obtain ⟨f2,rfl⟩ : ∃ q,f2 = q + 1:=⟨f2 - 1,by omega⟩
    obtain ⟨f3,rfl⟩ : ∃ q,f3 = q + 1:=⟨f3 - 1,by omega⟩
    by_cases hp : pos < s.size
    · rw [lex_head_lex_plain.l1,ref01_Word.l1,lex_Runes.l1,if_pos hp,if_pos (show (decide ((pos : Int) < (s.size : Int))) = true by simp; omega),if_pos hp,right_eq hp hs,Rune_eq hp hs,decode_rune]
      cases hr : rune s pos with
      | none =>exact .inr ⟨_,_,rfl,.inl rfl,rfl⟩
      | some p =>
        obtain ⟨c,w⟩:=p
        have hw:=rune_some hp hr
        have e : IntKind.i64.wrap ((pos : Int) + (w : Int)) = ((pos + w : Nat) : Int):=by rw [w_eq (by omega) (by omega)]; omega
        have en : IntKind.i64.wrap (n + 1) = n + 1:=w_eq (by omega) (by omega)
        have ec : ((c.toNat : Nat) : Int) = c:=Int.toNat_of_nonneg hw.1
        simp only [rdv,rv,Option.isSome_some,Option.bind_some,Bool.not_true,Bool.false_eq_true,if_false,ec,rv2 hp hr,plain_eq,e,en]
        obtain ⟨b,hb⟩ : ∃ b,ref01_plain c = some b:=⟨_,rfl⟩
        simp only [hb,Option.bind_some]
        cases b with
        | false =>exact .inr ⟨_,_,rfl,.inr (by simpa using hp),rfl⟩
        | true =>
          simp only [Bool.not_true,Bool.false_eq_true,if_false]
          rcases ih (pos + w) (n + 1) f1 f2 f3 (by omega) (by omega) (by omega) (by omega) (by omega) (by omega) (by omega) with ⟨m,g1,g2,g3,g4,g5⟩ | ⟨p,b,g1,g2,g3⟩
          · refine .inl ⟨m + 1,g1,?_,?_,by omega,by omega⟩
            · rw [g2,show n + 1 + (m : Int) = n + ((m + 1 : Nat) : Int) by omega]
            · rw [g3,show n + 1 + (m : Int) = n + ((m + 1 : Nat) : Int) by omega]
          · exact .inr ⟨p,b,g1,g2,g3⟩
    · refine .inl ⟨0,?_,?_,?_,by omega,by omega⟩
      · rw [lex_head_lex_plain.l1,if_neg hp]
      · rw [ref01_Word.l1,if_neg (by simp; omega)]; simp
      · rw [lex_Runes.l1,if_neg hp]; simp
theorem Word_eq {s : ByteArray} (hs : s.size < 281474976710656) : ∃ b,lex_Word s = some b∧ref01_Word s = some b:=by
  have hz : (0 : Int) = ((0 : Nat) : Int):=rfl
  unfold lex_Word ref01_Word lex_head_lex_plain lex_Runes
  rcases Word_loop hs s.size 0 0 FU FU FU (by omega) (by unfold FU; omega) (by unfold FU; omega) (by unfold FU; omega) (by omega) (by omega) (by omega) with ⟨m,g1,g2,g3,g4,g5⟩ | ⟨p,b,g1,g2,g3⟩
  · have g2' : ref01_Word.l1 s FU 0 0 = some (Out.go (0 + (m : Int))):=g2
    rw [g1,g2',g3]
    simp only [Option.bind_some,Out.on,beq_self_eq_true,Bool.and_true,Bool.true_and]
    by_cases hp : 0 < s.size
    · have:=g4 hp
      refine ⟨decide ((m : Int)≤64),?_,?_⟩
      · simp [hp]
      · simp; omega
    · have:=g5 (by omega)
      refine ⟨false,?_,?_⟩
      · simp [hp]
      · simp [this]
  · have g3' : ref01_Word.l1 s FU 0 0 = some (Out.ret false):=g3
    rw [g1,g3']
    simp only [Option.bind_some,Out.on]
    refine ⟨false,?_,rfl⟩
    rcases g2 with rfl | g2
    · simp
    · simp [show ¬ p = (s.size : Int) by omega]
end Go.Proofs.YtkondhigbbgidaaGreat.M

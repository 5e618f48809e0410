/-
  Printed by a program of this session out of the loaded functions: models and their proofs. Own text.
-/
import Derived.Test.YtkondhigbbgidaaGreatPBits2
/-
  Plain laws of numbers as digits: how the program and the document show them. Own text.
-/
namespace Go.Proofs.YtkondhigbbgidaaGreat.M
open Go Go.Proofs Go.Proofs.YtkondhigbbgidaaGreat.V
open Go.IntKind (i64)
set_option linter.unusedVariables false
set_option linter.unusedSimpArgs false
set_option maxRecDepth 20000
theorem catB {a b : ByteArray} (h : a.size + b.size≤1000000) : V.cat a b = some (a++b):=by
 unfold V.cat
 rw [if_pos (by unfold maxLen; omega)]
theorem bytesS (s : ByteArray) : (bytesL s).length = s.size:=bytesL_length s
theorem rem_nat {a b : Nat} (hb : 0 < b) : V.rem (a : Int) (b : Int) = some ((a % b : Nat) : Int):=by
 unfold V.rem
 rw [if_neg (by omega)]
 congr 1
theorem wn {n : Nat} (h : n < 9000000000000000000) : IntKind.i64.wrap (n : Int) = (n : Int):=w_eq (by omega) (by omega)
theorem dig8 {k : Nat} (h : k < 10) : IntKind.u8.wrap (i64.wrap (48 + (k : Int))) = ((48 + k : Nat) : Int):=by
 rw [w_eq (by omega) (by omega)]
 have : k = 0∨k = 1∨k = 2∨k = 3∨k = 4∨k = 5∨k = 6∨k = 7∨k = 8∨k = 9:=by omega
 rcases this with rfl | rfl | rfl | rfl | rfl | rfl | rfl | rfl | rfl | rfl<;>decide
def dg (n : Nat) : List Int:=if h : n < 10 then [((48 + n : Nat) : Int)] else dg (n / 10)++[((48 + n % 10 : Nat) : Int)]
termination_by n
decreasing_by omega
theorem dg_lt {n : Nat} (h : n < 10) : dg n = [((48 + n : Nat) : Int)]:=by rw [dg,dif_pos h]
theorem dg_ge {n : Nat} (h : ¬ n < 10) : dg n = dg (n / 10)++[((48 + n % 10 : Nat) : Int)]:=by rw [dg,dif_neg h]
theorem dg_mem : ∀ (n : Nat),∀ b,b ∈ dg n→48≤b∧b≤57:=by
 intro n
 induction n using Nat.strongRecOn with
 | _ n ih =>
  intro b hb
  by_cases h : n < 10
  ·rw [dg_lt h] at hb
   simp at hb; omega
  ·rw [dg_ge h] at hb
   rcases List.mem_append.1 hb with hb | hb
   ·exact ih (n / 10) (by omega) b hb
   ·simp at hb; omega
theorem dg_by (n : Nat) : By (dg n):=fun b hb =>by have:=dg_mem n b hb; omega
theorem dg_pos (n : Nat) : 1≤(dg n).length:=by
 by_cases h : n < 10
 ·rw [dg_lt h]; simp
 ·rw [dg_ge h]; simp
theorem dg_len : ∀ (k n : Nat),n < 10 ^ (k + 1)→(dg n).length≤k + 1:=by
 intro k
 induction k with
 | zero =>intro n h; rw [dg_lt (by simpa using h)]; simp
 | succ k ih =>
  intro n h
  by_cases h1 : n < 10
  ·rw [dg_lt h1]; simp
  ·rw [dg_ge h1,List.length_append]
   have:=ih (n / 10) (by rw [Nat.pow_succ] at h; omega)
   simp; omega
theorem dg16 {n : Nat} (h : n≤1125899906842624) : (dg n).length≤16:=dg_len 15 n (by omega)
def numB (n : Nat) : ByteArray:=strOfNums (dg n)
theorem numB_l (n : Nat) : bytesL (numB n) = dg n:=strOfNums_bytes (dg_by n)
theorem numB_size {n : Nat} (h : n≤1125899906842624) : (numB n).size≤16:=by rw [← bytesS,numB_l]; exact dg16 h
theorem numB_ge {n : Nat} (h : ¬ n < 10) : numB n = numB (n / 10)++numB (n % 10):=bytesL_inj (by rw [b_cat,numB_l,numB_l,numB_l,dg_ge h,dg_lt (by omega : n % 10 < 10)])
theorem numB_lt {n : Nat} (h : n < 10) : strOfNums [IntKind.u8.wrap (i64.wrap (48 + (n : Int)))] = numB n:=by rw [dig8 h]; unfold numB; rw [dg_lt h]
theorem quo10 (n : Nat) : V.quo (n : Int) (10 : Int) = some ((n / 10 : Nat) : Int):=quo_nat (b:=10) (by omega)
theorem rem10 (n : Nat) : V.rem (n : Int) (10 : Int) = some ((n % 10 : Nat) : Int):=rem_nat (b:=10) (by omega)
theorem Digits_r : ∀ (k n f : Nat),n < 10 ^ (k + 1)→n≤1125899906842624→k < f→ref01_Digits f (n : Int) = some (numB n):=by
 intro k
 induction k with
 | zero =>
  intro n f h hm hf
  obtain ⟨f,rfl⟩ : ∃ q,f = q + 1:=⟨f - 1,by omega⟩
  have h : n < 10:=by simpa using h
  rw [ref01_Digits,if_pos (by simp; omega),numB_lt h]
 | succ k ih =>
  intro n f h hm hf
  obtain ⟨f,rfl⟩ : ∃ q,f = q + 1:=⟨f - 1,by omega⟩
  by_cases h1 : n < 10
  ·rw [ref01_Digits,if_pos (by simp; omega),numB_lt h1]
  ·rw [ref01_Digits,if_neg (by simp; omega),quo10]
   simp only [Option.bind_some]
   rw [rem10]
   simp only [Option.bind_some]
   rw [wn (by omega),ih (n / 10) f (by rw [Nat.pow_succ] at h; omega) (by omega) (by omega)]
   simp only [Option.bind_some]
   rw [numB_lt (by omega : n % 10 < 10),catB (by have:=numB_size (n:=n / 10) (by omega); have:=numB_size (n:=n % 10) (by omega); omega)]
   simp only [Option.bind_some]
   rw [numB_ge h1]
theorem Digits_n {n : Nat} (hm : n≤1125899906842624) : ref01_Digits FU (n : Int) = some (numB n):=Digits_r 15 n FU (by omega) hm (by unfold FU; omega)
theorem shown_r : ∀ (k n f : Nat),n < 10 ^ (k + 1)→n≤1125899906842624→k + 1 < f→spec_shown f (I_any20.c3 (n : Int)) = some (numB n):=by
 intro k
 induction k with
 | zero =>
  intro n f h hm hf
  obtain ⟨f,rfl⟩ : ∃ q,f = q + 1:=⟨f - 1,by omega⟩
  have h : n < 10:=by simpa using h
  rw [spec_shown,if_pos (show (!(I_any20.c3 (n : Int)).is9) = true from rfl)]
  show (some ()).bind _ = _
  simp only [Option.bind_some]
  rw [show (I_any20.c3 (n : Int)).as3 = (n : Int) from rfl]
  rw [if_pos (show decide ((n : Int) < 10) = true by simp; omega)]
  rw [numB_lt h]
 | succ k ih =>
  intro n f h hm hf
  obtain ⟨f,rfl⟩ : ∃ q,f = q + 1:=⟨f - 1,by omega⟩
  rw [spec_shown,if_pos (show (!(I_any20.c3 (n : Int)).is9) = true from rfl)]
  show (some ()).bind _ = _
  simp only [Option.bind_some]
  rw [show (I_any20.c3 (n : Int)).as3 = (n : Int) from rfl]
  by_cases h1 : n < 10
  ·rw [if_pos (show decide ((n : Int) < 10) = true by simp; omega)]
   rw [numB_lt h1]
  ·rw [if_neg (show ¬ decide ((n : Int) < 10) = true by simp; omega)]
   rw [quo10]
   simp only [Option.bind_some]
   rw [wn (by omega),ih (n / 10) f (by rw [Nat.pow_succ] at h; omega) (by omega) (by omega)]
   simp only [Option.bind_some]
   rw [rem10]
   simp only [Option.bind_some]
   rw [ih (n % 10) f (by have : 10 ^ (k + 1) = 10 ^ k * 10:=Nat.pow_succ ..; have : 0 < 10 ^ k:=Nat.pos_of_ne_zero (by simp); omega) (by omega) (by omega)]
   simp only [Option.bind_some]
   rw [catB (by have:=numB_size (n:=n / 10) (by omega); have:=numB_size (n:=n % 10) (by omega); omega)]
   simp only [Option.bind_some]
   rw [numB_ge h1]
theorem shown_n {n : Nat} (hm : n≤1125899906842624) : spec_shown FU (I_any20.c3 (n : Int)) = some (numB n):=shown_r 15 n FU (by omega) hm (by unfold FU; omega)
theorem put_ok (x : Arr20_Int) {k : Nat} (hk : k < 20) (v : Int) : ∃ y,Arr20_Int.put x (k : Int) v = some y∧Arr20_Int.l y = (Arr20_Int.l x).set k v:=by
 unfold Arr20_Int.put
 rw [if_pos (by omega)]
 refine ⟨_,rfl,?_⟩
 have hc : k = 0∨k = 1∨k = 2∨k = 3∨k = 4∨k = 5∨k = 6∨k = 7∨k = 8∨k = 9∨k = 10∨k = 11∨k = 12∨k = 13∨k = 14∨k = 15∨k = 16∨k = 17∨k = 18∨k = 19:=by omega
 rcases hc with rfl | rfl | rfl | rfl | rfl | rfl | rfl | rfl | rfl | rfl | rfl | rfl | rfl | rfl | rfl | rfl | rfl | rfl | rfl | rfl<;>rfl
theorem arr_len (x : Arr20_Int) : (Arr20_Int.l x).length = 20:=rfl
theorem set_drop {l : List Int} {k : Nat} (h : k < l.length) (v : Int) : (l.set k v).drop k = v :: l.drop (k + 1):=by
 rw [List.drop_eq_getElem_cons (by simpa using h)]
 congr 1
 ·simp
 ·rw [List.drop_set_of_lt (by omega)]
theorem digits_p : ∀ (m n at_ f : Nat) (b : Arr20_Int),n < 10 ^ (m + 1)→n≤9000000000000000000→m < f→m + 1≤at_→at_≤20→(dg n).length≤at_ →
  ∃ r,quant_digits.l1 f (n : Int) b (at_ : Int) = some r∧r = strOfNums (dg n++(Arr20_Int.l b).drop at_):=by
 intro m
 have base : ∀ (n at_ f : Nat) (b : Arr20_Int),n < 10→1≤at_→at_≤20→∃ r,quant_digits.l1 (f + 1) (n : Int) b (at_ : Int) = some r∧r = strOfNums (dg n++(Arr20_Int.l b).drop at_):=by
  intro n at_ f b hn h1 h2
  obtain ⟨y,p1,p2⟩:=put_ok b (k:=at_ - 1) (by omega) (IntKind.u8.wrap (i64.wrap (48 + ((n % 10 : Nat) : Int))))
  rw [quant_digits.l1,rem10]
  simp only [Option.bind_some]
  rw [show i64.wrap ((at_ : Int) - 1) = ((at_ - 1 : Nat) : Int) by rw [w_eq (by omega) (by omega)]; omega,glk (by rw [arr_len]; omega)]
  simp only [Option.bind_some]
  rw [p1]
  simp only [Option.bind_some]
  rw [quo10]
  simp only [Option.bind_some]
  rw [wn (by omega),if_pos (by simp; omega)]
  have hr : V.rng 20 (some ((at_ - 1 : Nat) : Int)) none = some (at_ - 1,20):=by
   unfold V.rng
   rw [if_pos ⟨⟨by simp,by simp⟩,by simp [lowN,highN]; omega,by simp [highN]⟩]
   simp [lowN,highN]
  rw [hr]
  simp only [Option.bind_some]
  rw [show V.grd (decide (at_ - 1 < 20)) = some () by rw [decide_eq_true (by omega)]; rfl]
  simp only [Option.bind_some]
  refine ⟨_,rfl,?_⟩
  rw [p2,set_drop (by rw [arr_len]; omega),show at_ - 1 + 1 = at_ by omega,Nat.mod_eq_of_lt hn,dig8 hn,dg_lt hn,List.take_of_length_le (by simp [arr_len]; omega)]
  rfl
 induction m with
 | zero =>
  intro n at_ f b h hm hf h1 h2 h3
  obtain ⟨f,rfl⟩ : ∃ q,f = q + 1:=⟨f - 1,by omega⟩
  exact base n at_ f b (by simpa using h) (by omega) h2
 | succ m ih =>
  intro n at_ f b h hm hf h1 h2 h3
  obtain ⟨f,rfl⟩ : ∃ q,f = q + 1:=⟨f - 1,by omega⟩
  by_cases hn : n < 10
  ·exact base n at_ f b hn (by omega) h2
  ·obtain ⟨y,p1,p2⟩:=put_ok b (k:=at_ - 1) (by omega) (IntKind.u8.wrap (i64.wrap (48 + ((n % 10 : Nat) : Int))))
   rw [dg_ge hn] at h3 ⊢
   rw [List.length_append] at h3
   simp only [List.length_cons,List.length_nil] at h3
   rw [quant_digits.l1,rem10]
   simp only [Option.bind_some]
   rw [show i64.wrap ((at_ : Int) - 1) = ((at_ - 1 : Nat) : Int) by rw [w_eq (by omega) (by omega)]; omega,glk (by rw [arr_len]; omega)]
   simp only [Option.bind_some]
   rw [p1]
   simp only [Option.bind_some]
   rw [quo10]
   simp only [Option.bind_some]
   rw [wn (by omega),if_neg (by simp; omega)]
   obtain ⟨r,r1,r2⟩:=ih (n / 10) (at_ - 1) f y (by rw [Nat.pow_succ] at h; omega) (by omega) (by omega) (by omega) (by omega) (by omega)
   refine ⟨r,r1,?_⟩
   rw [r2,p2,set_drop (by rw [arr_len]; omega),show at_ - 1 + 1 = at_ by omega,dig8 (by omega : n % 10 < 10),List.append_assoc]
   rfl
theorem digits_n {n : Nat} (hm : n≤1125899906842624) : quant_digits (n : Int) = some (numB n):=by
 unfold quant_digits
 obtain ⟨r,r1,r2⟩:=digits_p 15 n 20 FU ⟨0,0,0,0,0,0,0,0,0,0,0,0,0,0,0,0,0,0,0,0⟩ (by omega) (by omega) (by unfold FU; omega) (by omega) (by omega) (by have:=dg16 hm; omega)
 rw [show ((20 : Nat) : Int) = (20 : Int) from rfl] at r1
 rw [r1,r2]
 unfold numB
 congr 2
 rw [List.drop_eq_nil_of_le (by rw [arr_len]; omega),List.append_nil]
end Go.Proofs.YtkondhigbbgidaaGreat.M
/-
  Plain laws of amounts: products and quotients of 128 bits; what is shown of an amount. Own text.
-/
namespace Go.Proofs.YtkondhigbbgidaaGreat.M
open Go Go.Proofs Go.Proofs.YtkondhigbbgidaaGreat.V
open Go.IntKind (i64)
set_option linter.unusedVariables false
set_option linter.unusedSimpArgs false
set_option maxRecDepth 20000
theorem MulG {x y : Nat} (hx : x < 9223372036854775808) (hy : y < 9223372036854775808) : math_bits_Mul64 (x : Int) (y : Int) = some (((x * y / 18446744073709551616 : Nat) : Int),((x * y % 18446744073709551616 : Nat) : Int)):=by
 unfold math_bits_Mul64
 obtain ⟨x1,hx1⟩ : ∃ x1,x1 = x / 4294967296:=⟨_,rfl⟩
 obtain ⟨x0,hx0⟩ : ∃ x0,x0 = x % 4294967296:=⟨_,rfl⟩
 obtain ⟨y1,hy1⟩ : ∃ y1,y1 = y / 4294967296:=⟨_,rfl⟩
 obtain ⟨y0,hy0⟩ : ∃ y0,y0 = y % 4294967296:=⟨_,rfl⟩
 have e1 : V.shr .u64 (x : Int) 32 = some (x1 : Int):=by rw [hx1]; exact shr_eq x 32 (by omega)
 have e2 : V.shr .u64 (y : Int) 32 = some (y1 : Int):=by rw [hy1]; exact shr_eq y 32 (by omega)
 have a1 : V.bAnd .u64 (x : Int) 4294967295 = (x0 : Int):=by rw [hx0]; exact and32 (by omega)
 have a2 : V.bAnd .u64 (y : Int) 4294967295 = (y0 : Int):=by rw [hy0]; exact and32 (by omega)
 have ex : x = x1 * 4294967296 + x0:=by omega
 have ey : y = y1 * 4294967296 + y0:=by omega
 obtain ⟨A,hA⟩ : ∃ A,A = x1 * y1:=⟨_,rfl⟩
 obtain ⟨B,hB⟩ : ∃ B,B = x1 * y0:=⟨_,rfl⟩
 obtain ⟨C,hC⟩ : ∃ C,C = x0 * y1:=⟨_,rfl⟩
 obtain ⟨D,hD⟩ : ∃ D,D = x0 * y0:=⟨_,rfl⟩
 have bA : A≤2147483647 * 2147483647:=by rw [hA]; exact Nat.mul_le_mul (by omega) (by omega)
 have bB : B≤2147483647 * 4294967295:=by rw [hB]; exact Nat.mul_le_mul (by omega) (by omega)
 have bC : C≤4294967295 * 2147483647:=by rw [hC]; exact Nat.mul_le_mul (by omega) (by omega)
 have bD : D≤4294967295 * 4294967295:=by rw [hD]; exact Nat.mul_le_mul (by omega) (by omega)
 have hxy : x * y = A * 18446744073709551616 + (B + C) * 4294967296 + D:=by
  rw [hA,hB,hC,hD,ex,ey]
  rw [Nat.add_mul,Nat.mul_add,Nat.mul_add,Nat.mul_mul_mul_comm x1 4294967296 y1 4294967296,Nat.mul_right_comm x1 4294967296 y0,← Nat.mul_assoc x0 y1 4294967296]
  omega
 rw [e1,e2,a1,a2]
 simp only [Option.bind_some]
 have cD : ((x0 : Int) * (y0 : Int)) = (D : Int):=by rw [hD]; simp
 have cB : ((x1 : Int) * (y0 : Int)) = (B : Int):=by rw [hB]; simp
 have cC : ((x0 : Int) * (y1 : Int)) = (C : Int):=by rw [hC]; simp
 have cA : ((x1 : Int) * (y1 : Int)) = (A : Int):=by rw [hA]; simp
 rw [cD,cB,cC,cA,u_eq (x:=(D : Int)) (by omega) (by omega)]
 have e3 : V.shr .u64 (D : Int) 32 = some ((D / 4294967296 : Nat) : Int):=shr_eq D 32 (by omega)
 rw [e3]
 simp only [Option.bind_some]
 rw [u_eq (x:=(B : Int)) (by omega) (by omega),u_eq (x:=(B : Int) + _) (by omega) (by omega)]
 have e4 : V.shr .u64 ((B : Int) + ((D / 4294967296 : Nat) : Int)) 32 = some (((B + D / 4294967296) / 4294967296 : Nat) : Int):=shr_eq (B + D / 4294967296) 32 (by omega)
 have a3 : V.bAnd .u64 ((B : Int) + ((D / 4294967296 : Nat) : Int)) 4294967295 = (((B + D / 4294967296) % 4294967296 : Nat) : Int):=and32 (x:=B + D / 4294967296) (by omega)
 rw [e4,a3]
 simp only [Option.bind_some]
 rw [u_eq (x:=(C : Int)) (by omega) (by omega),u_eq (x:=(((B + D / 4294967296) % 4294967296 : Nat) : Int) + (C : Int)) (by omega) (by omega)]
 have e5 : V.shr .u64 ((((B + D / 4294967296) % 4294967296 : Nat) : Int) + (C : Int)) 32 = some ((((B + D / 4294967296) % 4294967296 + C) / 4294967296 : Nat) : Int):=shr_eq ((B + D / 4294967296) % 4294967296 + C) 32 (by omega)
 rw [e5]
 simp only [Option.bind_some,Option.some.injEq,Prod.mk.injEq]
 rw [hxy]
 constructor
 ·rw [u_eq (x:=(A : Int)) (by omega) (by omega),u_eq (x:=(A : Int) + _) (by omega) (by omega),u_eq (by omega) (by omega)]
  omega
 ·have : ((x : Int) * (y : Int)) = ((x * y : Nat) : Int):=by simp
  rw [this,hxy,IntKind.wrap_u64]; omega
theorem div_gen {hi lo y s p pp : Nat} (hp : p = 2 ^ s) (hpp : pp = 2 ^ (64 - s)) (hs : s≤63) (hppv : 0 < pp) (hprod : p * pp = 18446744073709551616) (hyp : 9223372036854775808≤y * p) (hyp2 : y * p < 18446744073709551616) (hlo : lo < 18446744073709551616) (hh0 : 0 < hi) (hhy : hi < y) (hL : math_bits_LeadingZeros64 (y : Int) = some (s : Int)) :
  ∃ z,math_bits_Div64 (hi : Int) (lo : Int) (y : Int) = some ((((hi * 18446744073709551616 + lo) / y : Nat) : Int),z):=by
 unfold math_bits_Div64
 rw [if_neg (by simp only [beq_iff_eq]; omega),if_neg (by simp only [decide_eq_true_eq]; omega),if_neg (by simp only [beq_iff_eq]; omega),hL,Option.bind_some]
 have w1 : IntKind.u64.wrap (s : Int) = (s : Int):=u_eq (by omega) (by omega)
 have w2 : IntKind.u64.wrap (64 - IntKind.u64.wrap (s : Int)) = ((64 - s : Nat) : Int):=by rw [w1,u_eq (by omega) (by omega)]; omega
 have hhp : hi * p + p≤y * p:=by have:=Nat.mul_le_mul_right p (show hi + 1≤y by omega); rw [Nat.add_mul,Nat.one_mul] at this; exact this
 have s1 : V.shl .u64 (y : Int) (IntKind.u64.wrap (s : Int)) = some ((y * p : Nat) : Int):=by rw [w1,shl_eq y s (by omega),← hp,Nat.mod_eq_of_lt hyp2]
 have s2 : V.shl .u64 (hi : Int) (IntKind.u64.wrap (s : Int)) = some ((hi * p : Nat) : Int):=by rw [w1,shl_eq hi s (by omega),← hp,Nat.mod_eq_of_lt (by omega)]
 have s3 : V.shr .u64 (lo : Int) (IntKind.u64.wrap (64 - IntKind.u64.wrap (s : Int))) = some ((lo / pp : Nat) : Int):=by rw [w2,shr_eq lo (64 - s) (by omega),← hpp]
 have s4 : V.shl .u64 (lo : Int) (IntKind.u64.wrap (s : Int)) = some ((lo * p % 18446744073709551616 : Nat) : Int):=by rw [w1,shl_eq lo s (by omega),← hp]
 have hlp : lo / pp < p:=by rw [Nat.div_lt_iff_lt_mul hppv,hprod]; exact hlo
 have hp0 : 0 < p:=by rw [hp]; exact Nat.two_pow_pos s
 have hu : hi * p + lo / pp < y * p:=by omega
 have so : V.bOr .u64 ((hi * p : Nat) : Int) ((lo / pp : Nat) : Int) = ((hi * p + lo / pp : Nat) : Int):=by
  rw [hp]
  exact or_add (by rw [← hp]; omega) (by rw [← hp]; exact hlp) (by omega)
 rw [s1,s2,s3,s4]
 simp only [Option.bind_some]
 rw [so]
 have hc:=div_core (u:=hi * p + lo / pp) (Y:=y * p) (L:=lo * p % 18446744073709551616) (r:=s) hyp hyp2 hu (Nat.mod_lt _ (by decide)) (by clear so s1 s2 s3 s4; omega) (k:=fun q132 q032 =>(V.shr .u64 (IntKind.u64.wrap ((IntKind.u64.wrap ((IntKind.u64.wrap ((IntKind.u64.wrap ((IntKind.u64.wrap ((IntKind.u64.wrap (((hi * p + lo / pp : Nat) : Int) * 4294967296)) + ((lo * p % 18446744073709551616 / 4294967296 : Nat) : Int))) - (IntKind.u64.wrap (q132 * ((y * p : Nat) : Int))))) * 4294967296)) + (V.bAnd .u64 ((lo * p % 18446744073709551616 : Nat) : Int) 4294967295))) - (IntKind.u64.wrap (q032 * ((y * p : Nat) : Int))))) (IntKind.u64.wrap (s : Int))).bind fun v11 =>some ((IntKind.u64.wrap ((IntKind.u64.wrap (q132 * 4294967296)) + q032)),v11))
 have e8 : V.shr .u64 ((lo * p % 18446744073709551616 : Nat) : Int) 32 = some ((lo * p % 18446744073709551616 / 4294967296 : Nat) : Int):=shr_eq _ 32 (by decide)
 rw [e8] at hc ⊢
 simp only [Option.bind_some] at hc ⊢
 obtain ⟨h1,h2,h3,h4⟩:=hc
 rw [h1]
 have hfin : ((hi * p + lo / pp) * 18446744073709551616 + lo * p % 18446744073709551616) / (y * p) = (hi * 18446744073709551616 + lo) / y:=by
  have q1 : lo * p / 18446744073709551616 = lo / pp:=by
   rw [← hprod,Nat.mul_comm lo p,Nat.mul_div_mul_left _ _ hp0]
  have q2:=Nat.div_add_mod (lo * p) 18446744073709551616
  rw [q1] at q2
  have q3 : (hi * p + lo / pp) * 18446744073709551616 + lo * p % 18446744073709551616 = (hi * 18446744073709551616 + lo) * p:=by
   rw [Nat.add_mul (hi * p) (lo / pp),Nat.add_mul (hi * 18446744073709551616) lo p,Nat.add_assoc,Nat.mul_comm (lo / pp),q2,Nat.mul_right_comm]
  rw [q3,Nat.mul_div_mul_right _ _ hp0]
 rw [hfin] at h4
 rw [h4]
 obtain ⟨q,hq⟩ : ∃ q,((hi * p + lo / pp) * 4294967296 + lo * p % 18446744073709551616 / 4294967296) / (y * p) = q:=⟨_,rfl⟩
 obtain ⟨w,hw⟩ : ∃ w,(((hi * p + lo / pp) * 4294967296 + lo * p % 18446744073709551616 / 4294967296) % (y * p) * 4294967296 + lo * p % 18446744073709551616 % 4294967296) / (y * p) = w:=⟨_,rfl⟩
 rw [hq] at h2
 rw [hw] at h3
 rw [hq,hw,w1]
 obtain ⟨z,hz⟩:=shr_some (IntKind.u64.wrap ((IntKind.u64.wrap ((IntKind.u64.wrap ((IntKind.u64.wrap ((IntKind.u64.wrap ((IntKind.u64.wrap (((hi * p + lo / pp : Nat) : Int) * 4294967296)) + ((lo * p % 18446744073709551616 / 4294967296 : Nat) : Int))) - (IntKind.u64.wrap ((q : Int) * ((y * p : Nat) : Int))))) * 4294967296)) + (V.bAnd .u64 ((lo * p % 18446744073709551616 : Nat) : Int) 4294967295))) - (IntKind.u64.wrap ((w : Int) * ((y * p : Nat) : Int))))) s
 rw [hz,u_eq (x:=(q : Int) * 4294967296) (by omega) (by omega),u_eq (by omega) (by omega)]
 exact ⟨z,by rw [Option.bind_some]; congr 2⟩
theorem DivM {hi lo : Nat} (hlo : lo < 18446744073709551616) (hhi : hi < 1000000) : ∃ z,math_bits_Div64 (hi : Int) (lo : Int) 1000000 = some ((((hi * 18446744073709551616 + lo) / 1000000 : Nat) : Int),z):=by
 by_cases h0 : hi = 0
 ·subst h0
  unfold math_bits_Div64
  rw [if_neg (by decide),if_neg (by decide),if_pos (show (((0 : Nat) : Int) == 0) = true from rfl),show (1000000 : Int) = ((1000000 : Nat) : Int) from rfl,quo_nat (by omega)]
  rw [rem_nat (by omega)]
  simp only [Option.bind_some]
  rw [show 0 * 18446744073709551616 + lo = lo by omega,u_eq (by omega) (by omega)]
  exact ⟨_,rfl⟩
 ·exact div_gen (s:=44) (p:=17592186044416) (pp:=1048576) (y:=1000000) rfl rfl (by omega) (by omega) rfl (by omega) (by omega) hlo (by omega) hhi (by kernel_rfl)
def milliB (n : Nat) : ByteArray:=if n % 1000 = 0 then numB (n / 1000) else numB n++⟨#[109]⟩
theorem milli_p {n : Nat} (h : n≤1125899906842624) : quant_ShowMilli (n : Int) = some (milliB n):=by
 unfold quant_ShowMilli milliB
 rw [if_neg (by simp; omega),show V.rem (n : Int) (1000 : Int) = some ((n % 1000 : Nat) : Int) from rem_nat (b:=1000) (by omega)]
 simp only [Option.bind_some]
 by_cases h0 : n % 1000 = 0
 ·rw [if_pos (by simp; omega),if_pos h0,show V.quo (n : Int) (1000 : Int) = some ((n / 1000 : Nat) : Int) from quo_nat (b:=1000) (by omega)]
  simp only [Option.bind_some]
  rw [wn (by omega),digits_n (by omega)]
  rfl
 ·rw [if_neg (by simp; omega),if_neg h0,digits_n h]
  simp only [Option.bind_some]
  rw [catB (by have:=numB_size h; have : (ByteArray.mk #[109]).size = 1:=rfl; omega)]
  rfl
theorem milli_r {n : Nat} (h : n≤1125899906842624) : ref03_ShowMilli (n : Int) = some (milliB n):=by
 unfold ref03_ShowMilli milliB
 rw [if_neg (by simp; omega),show V.rem (n : Int) (1000 : Int) = some ((n % 1000 : Nat) : Int) from rem_nat (b:=1000) (by omega)]
 simp only [Option.bind_some]
 by_cases h0 : n % 1000 = 0
 ·rw [if_pos (by simp; omega),if_pos h0,show V.quo (n : Int) (1000 : Int) = some ((n / 1000 : Nat) : Int) from quo_nat (b:=1000) (by omega)]
  simp only [Option.bind_some]
  rw [wn (by omega),Digits_n (by omega)]
  rfl
 ·rw [if_neg (by simp; omega),if_neg h0,Digits_n h]
  simp only [Option.bind_some]
  rw [catB (by have:=numB_size h; have : (ByteArray.mk #[109]).size = 1:=rfl; omega)]
  rfl
def kk (n : Nat) : Nat:=if n = 0 then 0 else if n % 1099511627776 = 0 then 4 else if n % 1073741824 = 0 then 3 else if n % 1048576 = 0 then 2 else if n % 1024 = 0 then 1 else 0
def kp (k : Nat) : Nat:=match k with | 0 =>1 | 1 =>1024 | 2 =>1048576 | 3 =>1073741824 | _ =>1099511627776
def unitB (k : Nat) : ByteArray:=match k with | 0 =>⟨#[]⟩ | 1 =>⟨#[75,105]⟩ | 2 =>⟨#[77,105]⟩ | 3 =>⟨#[71,105]⟩ | _ =>⟨#[84,105]⟩
def memB (n : Nat) : ByteArray:=numB (n / kp (kk n))++unitB (kk n)
theorem kk_cases (n : Nat) : (kk n = 0∧(n = 0∨n % 1024≠0))∨(kk n = 1∧0 < n∧n % 1024 = 0∧n % 1048576≠0)∨(kk n = 2∧0 < n∧n % 1048576 = 0∧n % 1073741824≠0)∨(kk n = 3∧0 < n∧n % 1073741824 = 0∧n % 1099511627776≠0)∨(kk n = 4∧0 < n∧n % 1099511627776 = 0):=by
 unfold kk
 split
 ·simp; omega
 ·split
  ·simp; omega
  ·split
   ·simp; omega
   ·split
    ·simp; omega
    ·split<;>simp<;>omega
theorem rem1024 (n : Nat) : V.rem (n : Int) (1024 : Int) = some ((n % 1024 : Nat) : Int):=rem_nat (b:=1024) (by omega)
theorem show_go {f n k : Nat} (h1 : 0 < n) (h2 : n % 1024 = 0) (h3 : k < 4) (hn : n≤1125899906842624) : quant_Show.l1 (f + 1) (n : Int) (k : Int) = quant_Show.l1 f ((n / 1024 : Nat) : Int) ((k + 1 : Nat) : Int):=by
 rw [quant_Show.l1,if_pos (by simp; omega),rem1024]
 simp only [Option.bind_some]
 rw [if_pos (by simp; omega),show V.quo (n : Int) (1024 : Int) = some ((n / 1024 : Nat) : Int) from quo_nat (b:=1024) (by omega)]
 simp only [Option.bind_some]
 rw [wn (by omega),w_eq (by omega) (by omega)]
 rfl
theorem show_end {f n k : Nat} (h : n = 0∨n % 1024≠0∨¬ k < 4) (hn : n≤1125899906842624) (hk : k≤4) : quant_Show.l1 (f + 1) (n : Int) (k : Int) = some ((n : Int),(k : Int)):=by
 rw [quant_Show.l1,rem1024]
 by_cases h0 : 0 < n
 ·rw [if_pos (by simp; omega)]
  simp only [Option.bind_some]
  rw [if_neg (by simp; omega)]
 ·rw [if_neg (by simp; omega)]
  simp only [Option.bind_some]
  rw [if_neg (by simp)]
theorem mem_p {n : Nat} (h : n≤1125899906842624) : quant_Show (n : Int) = some (memB n):=by
 have hl : quant_Show.l1 FU (n : Int) (0 : Int) = some (((n / kp (kk n) : Nat) : Int),((kk n : Nat) : Int)):=by
  obtain ⟨f,hf⟩ : ∃ f,FU = f + 5:=⟨FU - 5,by unfold FU; omega⟩
  rw [hf,show (0 : Int) = ((0 : Nat) : Int) from rfl]
  rcases kk_cases n with ⟨e,h1⟩ | ⟨e,h0,h1,h2⟩ | ⟨e,h0,h1,h2⟩ | ⟨e,h0,h1,h2⟩ | ⟨e,h0,h1⟩
  ·rw [e,show_end (by omega) h (by omega)]; simp [kp]
  ·rw [e,show_go h0 (by omega) (by omega) h,show_end (by omega) (by omega) (by omega)]; simp [kp]
  ·rw [e,show_go h0 (by omega) (by omega) h,show_go (by omega) (by omega) (by omega) (by omega),show_end (by omega) (by omega) (by omega),Nat.div_div_eq_div_mul]; simp [kp]
  ·rw [e,show_go h0 (by omega) (by omega) h,show_go (by omega) (by omega) (by omega) (by omega),show_go (by omega) (by omega) (by omega) (by omega),show_end (by omega) (by omega) (by omega),Nat.div_div_eq_div_mul,Nat.div_div_eq_div_mul]; simp [kp]
  ·rw [e,show_go h0 (by omega) (by omega) h,show_go (by omega) (by omega) (by omega) (by omega),show_go (by omega) (by omega) (by omega) (by omega),show_go (by omega) (by omega) (by omega) (by omega),show_end (by omega) (by omega) (by omega),Nat.div_div_eq_div_mul,Nat.div_div_eq_div_mul,Nat.div_div_eq_div_mul]; simp [kp]
 unfold quant_Show
 rw [if_neg (by simp; omega),hl]
 simp only [Option.bind_some]
 have hx : V.gl (Arr5_ByteArray.l (⟨(⟨#[]⟩ : ByteArray),(⟨#[75,105]⟩ : ByteArray),(⟨#[77,105]⟩ : ByteArray),(⟨#[71,105]⟩ : ByteArray),(⟨#[84,105]⟩ : ByteArray)⟩ : Arr5_ByteArray)) ((kk n : Nat) : Int) = some (unitB (kk n)):=by
  rcases kk_cases n with ⟨e,_⟩ | ⟨e,_⟩ | ⟨e,_⟩ | ⟨e,_⟩ | ⟨e,_⟩<;>rw [e]<;>rfl
 rw [hx]
 simp only [Option.bind_some]
 have hle : n / kp (kk n)≤n:=Nat.div_le_self ..
 have hus : (unitB (kk n)).size≤2:=by rcases kk_cases n with ⟨e,_⟩ | ⟨e,_⟩ | ⟨e,_⟩ | ⟨e,_⟩ | ⟨e,_⟩<;>rw [e]<;>decide
 rw [digits_n (by omega)]
 simp only [Option.bind_some]
 rw [catB (by have:=numB_size (n:=n / kp (kk n)) (by omega); omega)]
 rfl
theorem mem_r {n : Nat} (h : n≤1125899906842624) : ref03_Show (n : Int) = some (memB n):=by
 unfold ref03_Show
 rw [if_neg (by simp; omega)]
 obtain ⟨f,hf⟩ : ∃ f,FU = f + 5:=⟨FU - 5,by unfold FU; omega⟩
 have step : ∀ (f i d : Nat) (u : ByteArray),i < 4→0 < d→V.shl .i64 1 (IntKind.u64.wrap (i64.wrap (40 - (i64.wrap (10 * (i : Int)))))) = some (d : Int)→V.gl [(⟨#[84,105]⟩ : ByteArray),(⟨#[71,105]⟩ : ByteArray),(⟨#[77,105]⟩ : ByteArray),(⟨#[75,105]⟩ : ByteArray)] (i : Int) = some u→u.size≤2 →
   ref03_Show.l1 (n : Int) (f + 1) (i : Int) = if 0 < n∧n % d = 0 then some (Out.ret (numB (n / d)++u)) else ref03_Show.l1 (n : Int) f ((i + 1 : Nat) : Int):=by
  intro f i d u hi hd h1 h2 h3
  have hle : n / d≤n:=Nat.div_le_self ..
  rw [ref03_Show.l1,if_pos (by simp; omega),h1]
  simp only [Option.bind_some]
  rw [rem_nat hd]
  by_cases h0 : 0 < n
  ·rw [if_pos (by simp; omega)]
   simp only [Option.bind_some]
   by_cases hz : n % d = 0
   ·rw [if_pos (by simp; omega),if_pos ⟨h0,hz⟩,quo_nat hd]
    simp only [Option.bind_some]
    rw [h2]
    simp only [Option.bind_some]
    rw [wn (by omega),Digits_n (by omega)]
    simp only [Option.bind_some]
    rw [catB (by have:=numB_size (n:=n / d) (by omega); omega)]
    rfl
   ·rw [if_neg (by simp; omega),if_neg (by omega),w_eq (by omega) (by omega)]
    rfl
  ·rw [if_neg (by simp; omega)]
   simp only [Option.bind_some]
   rw [if_neg (by simp),if_neg (by omega),w_eq (by omega) (by omega)]
   rfl
 have e0:=step (f + 4) 0 1099511627776 ⟨#[84,105]⟩ (by omega) (by omega) (by kernel_rfl) rfl (by decide)
 have e1:=step (f + 3) 1 1073741824 ⟨#[71,105]⟩ (by omega) (by omega) (by kernel_rfl) rfl (by decide)
 have e2:=step (f + 2) 2 1048576 ⟨#[77,105]⟩ (by omega) (by omega) (by kernel_rfl) rfl (by decide)
 have e3:=step (f + 1) 3 1024 ⟨#[75,105]⟩ (by omega) (by omega) (by kernel_rfl) rfl (by decide)
 have e4 : ref03_Show.l1 (n : Int) (f + 1) ((4 : Nat) : Int) = some (Out.go ()):=by rw [ref03_Show.l1,if_neg (by decide)]
 rw [hf,show (0 : Int) = ((0 : Nat) : Int) from rfl,e0]
 unfold memB
 rcases kk_cases n with ⟨e,h1⟩ | ⟨e,h0,h1,h2⟩ | ⟨e,h0,h1,h2⟩ | ⟨e,h0,h1,h2⟩ | ⟨e,h0,h1⟩
 ·rw [if_neg (by omega),e1,if_neg (by omega),e2,if_neg (by omega),e3,if_neg (by omega),e4]
  simp only [Option.bind_some,Out.on]
  rw [← hf,Digits_n h,e]
  simp [kp,unitB]
  exact bytesL_inj (by rw [b_cat]; simp; rfl)
 ·rw [if_neg (by omega),e1,if_neg (by omega),e2,if_neg (by omega),e3,if_pos (by omega),e]; rfl
 ·rw [if_neg (by omega),e1,if_neg (by omega),e2,if_pos (by omega),e]; rfl
 ·rw [if_neg (by omega),e1,if_pos (by omega),e]; rfl
 ·rw [if_pos (by omega),e]; rfl
end Go.Proofs.YtkondhigbbgidaaGreat.M
/-
  Plain laws of amounts: what is shown is read as it was. Own text.
-/
namespace Go.Proofs.YtkondhigbbgidaaGreat.M
open Go Go.Proofs Go.Proofs.YtkondhigbbgidaaGreat.V
open Go.IntKind (i64)
set_option linter.unusedVariables false
set_option linter.unusedSimpArgs false
set_option maxRecDepth 20000
def notD (t : List Int) : Prop:=t = []∨∃ c t',t = c :: t'∧(c < 48∨57 < c)
theorem bt_of {s : ByteArray} {l : List Int} (h : bytesL s = l) {i : Nat} (hi : i < l.length) : bt s i = l[i]:=by
 have:=bytesL_get (s:=s) (i:=i) (by rw [← bytesS,h]; exact hi)
 rw [h,List.getElem?_eq_getElem hi] at this
 exact (Option.some.inj this).symm
theorem head_l1 {s : ByteArray} {d t : List Int} (hb : bytesL s = d++t) (hd : ∀ b,b ∈ d→48≤b∧b≤57) (ht : notD t) (hs : s.size≤1000000) : ∀ (m i f : Nat),i + m = d.length→m < f→quant_head.l1 s f (i : Int) = some (d.length : Int):=by
 have hsz : s.size = d.length + t.length:=by rw [← bytesS,hb,List.length_append]
 intro m
 induction m with
 | zero =>
  intro i f h1 h2
  obtain ⟨f,rfl⟩ : ∃ q,f = q + 1:=⟨f - 1,by omega⟩
  have : i = d.length:=by omega
  subst this
  rw [quant_head.l1]
  rcases ht with rfl | ⟨c,t',rfl,hc⟩
  ·rw [if_neg (by simp at hsz; simp; omega)]
   simp only [Option.bind_some]
   rw [if_neg (by simp)]
   simp only [Option.bind_some]
   rw [if_neg (by simp)]
  ·simp only [List.length_cons] at hsz
   have hbt : bt s d.length = c:=by rw [bt_of hb (by simp)]; simp
   rw [if_pos (by simp; omega),gi_nat (by omega),hbt]
   simp only [Option.bind_some]
   by_cases h48 : c≥48
   ·rw [if_pos (by simpa using h48)]
    simp only [Option.bind_some]
    rw [if_neg (by simp; omega)]
   ·rw [if_neg (by simpa using h48)]
    simp only [Option.bind_some]
    rw [if_neg (by simp)]
 | succ m ih =>
  intro i f h1 h2
  obtain ⟨f,rfl⟩ : ∃ q,f = q + 1:=⟨f - 1,by omega⟩
  have hi : i < d.length:=by omega
  have hbt : bt s i = d[i]:=by rw [bt_of hb (by simp; omega),List.getElem_append_left hi]
  have hdi:=hd d[i] (List.getElem_mem hi)
  rw [quant_head.l1,if_pos (by simp; omega),gi_nat (by omega),hbt]
  simp only [Option.bind_some]
  rw [if_pos (by simp; omega)]
  simp only [Option.bind_some]
  rw [if_pos (by simp; omega),wk1 (by omega)]
  exact ih (i + 1) f (by omega) (by omega)
theorem head_n {s : ByteArray} {d t : List Int} (hb : bytesL s = d++t) (hd : ∀ b,b ∈ d→48≤b∧b≤57) (ht : notD t) (hs : s.size≤1000000) : quant_head s = some (d.length : Int):=by
 unfold quant_head
 have hsz : s.size = d.length + t.length:=by rw [← bytesS,hb,List.length_append]
 rw [show (0 : Int) = ((0 : Nat) : Int) from rfl,head_l1 hb hd ht hs d.length 0 FU (by omega) (by unfold FU; omega)]
 rfl
def vl (a : Nat) : List Int→Nat
 | [] =>a
 | b :: l =>vl (10 * a + (b - 48).toNat) l
theorem vl_le : ∀ (l : List Int) (a : Nat),a≤vl a l
 | [],a =>Nat.le_refl a
 | b :: l,a =>by rw [vl]; have:=vl_le l (10 * a + (b - 48).toNat); omega
theorem vl_app : ∀ (l m : List Int) (a : Nat),vl a (l++m) = vl (vl a l) m
 | [],m,a =>rfl
 | b :: l,m,a =>by rw [List.cons_append,vl,vl,vl_app l m]
theorem vl_dg : ∀ (n : Nat),vl 0 (dg n) = n:=by
 intro n
 induction n using Nat.strongRecOn with
 | _ n ih =>
  by_cases h : n < 10
  ·rw [dg_lt h]; simp [vl]; omega
  ·rw [dg_ge h,vl_app,ih (n / 10) (by omega)]; simp [vl]; omega
theorem dig_u8 {b : Int} (h : 48≤b∧b≤57) : i64.wrap (IntKind.u8.wrap (b - 48)) = ((b - 48).toNat : Int):=by
 rw [u8_eq (by omega) (by omega),w_eq (by omega) (by omega)]; omega
theorem value_l1 {s : ByteArray} {l : List Int} (hb : bytesL s = l) (hd : ∀ b,b ∈ l→48≤b∧b≤57) (hs : s.size≤1000000) {most : Nat} (hm : most≤2000000000000000000) (hm9 : 9≤most) : ∀ (m i f a : Nat),i + m = l.length→m < f→vl a (l.drop i)≤most →
  quant_value.l1 s (most : Int) f (a : Int) (i : Int) = some (Out.go ((vl a (l.drop i) : Nat) : Int)):=by
 have hsz : s.size = l.length:=by rw [← bytesS,hb]
 intro m
 induction m with
 | zero =>
  intro i f a h1 h2 h3
  obtain ⟨f,rfl⟩ : ∃ q,f = q + 1:=⟨f - 1,by omega⟩
  rw [quant_value.l1,if_neg (by simp; omega),List.drop_eq_nil_of_le (by omega)]
  rfl
 | succ m ih =>
  intro i f a h1 h2 h3
  obtain ⟨f,rfl⟩ : ∃ q,f = q + 1:=⟨f - 1,by omega⟩
  have hi : i < l.length:=by omega
  have hdi:=hd l[i] (List.getElem_mem hi)
  rw [List.drop_eq_getElem_cons hi,vl] at h3 ⊢
  have hle:=vl_le (l.drop (i + 1)) (10 * a + (l[i] - 48).toNat)
  rw [quant_value.l1,if_pos (by simp; omega),gi_nat (by omega),bt_of hb hi]
  simp only [Option.bind_some]
  rw [dig_u8 hdi,show i64.wrap ((most : Int) - ((l[i] - 48).toNat : Int)) = ((most - (l[i] - 48).toNat : Nat) : Int) by rw [w_eq (by omega) (by omega)]; omega,quo10]
  simp only [Option.bind_some]
  rw [wn (by omega),if_neg (by simp; omega),wk1 (by omega),show i64.wrap (i64.wrap (10 * (a : Int)) + ((l[i] - 48).toNat : Int)) = ((10 * a + (l[i] - 48).toNat : Nat) : Int) by rw [w_eq (x:=10 * (a : Int)) (by omega) (by omega),w_eq (by omega) (by omega)]; omega]
  exact ih (i + 1) f _ (by omega) (by omega) h3
theorem value_n {n most : Nat} (h : n≤most) (hm : most≤2000000000000000000) (hm9 : 9≤most) (hn : n≤1125899906842624) : quant_value (numB n) (most : Int) = some ((n : Int),true):=by
 unfold quant_value
 have hsz:=numB_size hn
 have:=value_l1 (numB_l n) (dg_mem n) (by omega) hm hm9 (dg n).length 0 FU 0 (by omega) (by have:=dg16 hn; unfold FU; omega) (by rw [List.drop_zero,vl_dg]; exact h)
 rw [List.drop_zero,vl_dg] at this
 rw [show (0 : Int) = ((0 : Nat) : Int) from rfl,this]
 rfl
theorem mod_step (a d e : Nat) : (10 * (a % e) + d) % e = (10 * a + d) % e:=by
 rw [Nat.add_mod,Nat.mul_mod,Nat.mod_mod,← Nat.mul_mod,← Nat.add_mod]
theorem exact_l1 {s : ByteArray} {l : List Int} (hb : bytesL s = l) (hd : ∀ b,b ∈ l→48≤b∧b≤57) (hs : s.size≤1000000) {e : Nat} (he : 0 < e) (he2 : e≤1000000) : ∀ (m i f a : Nat),i + m = l.length→m < f →
  quant_exact.l1 s (e : Int) f ((a % e : Nat) : Int) (i : Int) = some ((vl a (l.drop i) % e : Nat) : Int):=by
 have hsz : s.size = l.length:=by rw [← bytesS,hb]
 intro m
 induction m with
 | zero =>
  intro i f a h1 h2
  obtain ⟨f,rfl⟩ : ∃ q,f = q + 1:=⟨f - 1,by omega⟩
  rw [quant_exact.l1,if_neg (by simp; omega),List.drop_eq_nil_of_le (by omega)]
  rfl
 | succ m ih =>
  intro i f a h1 h2
  obtain ⟨f,rfl⟩ : ∃ q,f = q + 1:=⟨f - 1,by omega⟩
  have hi : i < l.length:=by omega
  have hdi:=hd l[i] (List.getElem_mem hi)
  have hlt:=Nat.mod_lt a he
  rw [List.drop_eq_getElem_cons hi,vl]
  rw [quant_exact.l1,if_pos (by simp; omega),gi_nat (by omega),bt_of hb hi]
  simp only [Option.bind_some]
  rw [dig_u8 hdi,show i64.wrap (i64.wrap (10 * ((a % e : Nat) : Int)) + ((l[i] - 48).toNat : Int)) = ((10 * (a % e) + (l[i] - 48).toNat : Nat) : Int) by rw [w_eq (x:=10 * ((a % e : Nat) : Int)) (by omega) (by omega),w_eq (by omega) (by omega)]; omega,rem_nat he]
  simp only [Option.bind_some]
  rw [mod_step,wk1 (by omega)]
  exact ih (i + 1) f _ (by omega) (by omega)
theorem exact_n {q u e : Nat} (hq : q≤1125899906842624) (he : 1000≤e) (he2 : e≤1000000) (h : (q % e * 1000 % e) * (u % e) % e = 0) : quant_exact (numB q) 0 (u : Int) (e : Int) = some true:=by
 unfold quant_exact
 have hsz:=numB_size hq
 have:=exact_l1 (numB_l q) (dg_mem q) (by omega) (e:=e) (by omega) he2 (dg q).length 0 FU 0 (by omega) (by have:=dg16 hq; unfold FU; omega)
 rw [List.drop_zero,vl_dg,Nat.zero_mod] at this
 rw [show (0 : Int) = ((0 : Nat) : Int) from rfl,this]
 simp only [Option.bind_some]
 have hlt:=Nat.mod_lt q (show 0 < e by omega)
 have h1:=Nat.mod_lt (q % e * 1000) (show 0 < e by omega)
 have h2:=Nat.mod_lt u (show 0 < e by omega)
 rw [show i64.wrap (i64.wrap (((q % e : Nat) : Int) * 1000) + ((0 : Nat) : Int)) = ((q % e * 1000 : Nat) : Int) by rw [w_eq (x:=((q % e : Nat) : Int) * 1000) (by omega) (by omega),w_eq (by omega) (by omega)]; omega,rem_nat (by omega)]
 simp only [Option.bind_some]
 rw [rem_nat (by omega)]
 simp only [Option.bind_some]
 have hmul : (q % e * 1000 % e) * (u % e)≤1000000 * 1000000:=Nat.mul_le_mul (by omega) (by omega)
 rw [show ((q % e * 1000 % e : Nat) : Int) * ((u % e : Nat) : Int) = (((q % e * 1000 % e) * (u % e) : Nat) : Int) by simp,wn (by omega),rem_nat (by omega)]
 simp only [Option.bind_some]
 rw [h]
 rfl
theorem ss_lo {a b : ByteArray} (h : (a++b).size≤1000000) : V.ss (a++b) none (some (a.size : Int)) = some a:=by
 have hs : (a++b).size = a.size + b.size:=ByteArray.size_append
 unfold V.ss
 have e1 : lowN none = 0:=rfl
 have e2 : highN (a++b).size (some (a.size : Int)) = a.size:=by simp [highN]
 rw [e1,e2,if_pos ⟨⟨by simp,by simp⟩,by omega,by omega⟩]
 congr 1
 apply ByteArray.ext
 simp
theorem ss_hi {a b : ByteArray} (h : (a++b).size≤1000000) : V.ss (a++b) (some (a.size : Int)) none = some b:=by
 have hs : (a++b).size = a.size + b.size:=ByteArray.size_append
 unfold V.ss
 have e1 : lowN (some (a.size : Int)) = a.size:=by simp [lowN]
 have e2 : highN (a++b).size none = (a++b).size:=rfl
 rw [e1,e2,if_pos ⟨⟨by simp,by simp⟩,by omega,by omega⟩]
 congr 1
 refine bytesL_inj ?_
 rw [extract_bytes,b_cat,List.take_of_length_le (by rw [List.length_append,bytesS,bytesS]; omega),← bytesS a,List.drop_left]
theorem cut_n {q : Nat} (hq : q≤1125899906842624) {u : ByteArray} (hs : u.size≤10) (hu : u = ⟨#[]⟩∨∃ c t,bytesL u = c :: t∧57 < c) : quant_cut (numB q++u) = some (numB q,0,u,0):=by
 have hsz:=numB_size hq
 have hss : (numB q++u).size≤1000000:=by rw [ByteArray.size_append]; omega
 have hne : (dg q).length≠0:=by have:=dg_pos q; omega
 have hlen : ((dg q).length : Int) = ((numB q).size : Int):=by rw [← bytesS,numB_l]
 unfold quant_cut
 have hnd : notD (bytesL u):=by
  rcases hu with rfl | ⟨c,t,e,hc⟩
  ·exact .inl rfl
  ·exact .inr ⟨c,t,e,.inr hc⟩
 rw [head_n (d:=dg q) (t:=bytesL u) (by rw [b_cat,numB_l]) (dg_mem q) hnd hss]
 simp only [Option.bind_some]
 rw [if_neg (by simp only [beq_iff_eq]; omega),hlen,ss_lo hss]
 simp only [Option.bind_some]
 rw [ss_hi hss]
 simp only [Option.bind_some]
 by_cases he : u = ⟨#[]⟩
 ·rw [if_pos (by rw [seq_nil]; exact he)]
  rfl
 ·rw [if_neg (by rw [seq_nil]; exact he)]
  rcases hu with h | ⟨c,t,e,hc⟩
  ·exact absurd h he
  ·have h0 : 0 < u.size:=by rw [← bytesS,e]; simp
   have hb : bt u 0 = c:=by rw [bt_of e (by simp)]; rfl
   rw [show V.gi u (0 : Int) = some c by have:=gi_nat h0; rw [hb] at this; exact this]
   simp only [Option.bind_some]
   rw [if_pos (by simp; omega)]
theorem Div0 {lo y : Nat} (hlo : lo < 18446744073709551616) (hy : 0 < y) (hy2 : y < 1000000000) : ∃ z,math_bits_Div64 0 (lo : Int) (y : Int) = some (((lo / y : Nat) : Int),z):=by
 unfold math_bits_Div64
 have hd:=Nat.div_le_self lo y
 rw [if_neg (by simp; omega),if_neg (by simp; omega),if_pos (show ((0 : Int) == 0) = true from rfl),quo_nat hy]
 simp only [Option.bind_some]
 rw [rem_nat hy]
 simp only [Option.bind_some]
 obtain ⟨q,hq⟩ : ∃ q,lo / y = q:=⟨_,rfl⟩
 rw [hq] at hd ⊢
 rw [u_eq (by omega) (by omega)]
 exact ⟨_,rfl⟩
theorem whole_1 {n : Nat} (hn : n≤1125899906842624) : quant_whole (numB n) 0 1 1000 = some ((n : Int),true):=by
 unfold quant_whole
 rw [if_pos (show ((1 : Int) == 1) = true from rfl),show (1125899906842624000 : Int) = ((1125899906842624000 : Nat) : Int) from rfl,value_n (by omega) (by omega) (by omega) hn]
 simp only [Option.bind_some]
 rw [show V.quo 1000 1000 = some 1 from rfl]
 simp only [Option.bind_some]
 rw [show i64.wrap 1 = ((1 : Nat) : Int) from rfl,quo_nat (by omega),Nat.div_one]
 simp only [Option.bind_some]
 rw [wn (by omega)]
theorem whole_2 {q u e n : Nat} (hq : q≤1125899906842624) (hu : u≤2000000000000000000) (hu1 : u≠1) (he : e = 1000∧q * 1000 * u < 18446744073709551616∨e = 1000000∧q * 1000 * u < 18446744073709551616000000) (hn : q * 1000 * u / e = n) (hm : n≤1125899906842624) : quant_whole (numB q) 0 (u : Int) (e : Int) = some ((n : Int),true):=by
 unfold quant_whole
 rw [if_neg (by simp; omega),show (1125899906842624 : Int) = ((1125899906842624 : Nat) : Int) from rfl,value_n hq (by omega) (by omega) hq]
 simp only [Option.bind_some]
 rw [show i64.wrap (i64.wrap ((q : Int) * 1000) + 0) = ((q * 1000 : Nat) : Int) by rw [w_eq (x:=(q : Int) * 1000) (by omega) (by omega),w_eq (by omega) (by omega)]; omega,u_eq (by omega) (by omega),u_eq (x:=(u : Int)) (by omega) (by omega),MulG (by omega) (by omega)]
 simp only [Option.bind_some]
 have hdm:=Nat.div_add_mod (q * 1000 * u) 18446744073709551616
 have hlt:=Nat.mod_lt (q * 1000 * u) (show 0 < 18446744073709551616 by omega)
 obtain ⟨h,hh⟩ : ∃ h,q * 1000 * u / 18446744073709551616 = h:=⟨_,rfl⟩
 obtain ⟨o,ho⟩ : ∃ o,q * 1000 * u % 18446744073709551616 = o:=⟨_,rfl⟩
 rw [hh,ho] at hdm ⊢
 rw [ho] at hlt
 rcases he with ⟨rfl,hb⟩ | ⟨rfl,hb⟩
 ·have h0 : h = 0:=by omega
  subst h0
  rw [if_neg (by simp only [Bool.not_true,Bool.false_or,decide_eq_true_eq]; rw [show IntKind.u64.wrap ((1000 : Nat) : Int) = (1000 : Int) from rfl]; omega)]
  obtain ⟨z,hz⟩:=Div0 (lo:=o) (y:=1000) hlt (by omega) (by omega)
  rw [show IntKind.u64.wrap ((1000 : Nat) : Int) = ((1000 : Nat) : Int) from rfl,show ((0 : Nat) : Int) = (0 : Int) from rfl,hz]
  simp only [Option.bind_some]
  have : o / 1000 = n:=by rw [← hn,← hdm]; congr 1; omega
  rw [this,show min (n : Int) 1125899906842625 = (n : Int) by omega,wn (by omega)]
 ·have h6 : h < 1000000:=by omega
  rw [if_neg (by simp only [Bool.not_true,Bool.false_or,decide_eq_true_eq]; rw [show IntKind.u64.wrap ((1000000 : Nat) : Int) = (1000000 : Int) from rfl]; omega)]
  obtain ⟨z,hz⟩:=DivM (lo:=o) (hi:=h) hlt h6
  rw [show IntKind.u64.wrap ((1000000 : Nat) : Int) = (1000000 : Int) from rfl,hz]
  simp only [Option.bind_some]
  have : (h * 18446744073709551616 + o) / 1000000 = n:=by rw [← hn,← hdm]; congr 1; omega
  rw [this,show min (n : Int) 1125899906842625 = (n : Int) by omega,wn (by omega)]
theorem amount_n {q u e n : Nat} (hq : q≤1125899906842624) {t : ByteArray} (hs : t.size≤10) (ht : t = ⟨#[]⟩∨∃ c l,bytesL t = c :: l∧57 < c) (hu : quant_unit t = some (I_any20.c228 (u : Int))) (hx : quant_exact (numB q) 0 (u : Int) (e : Int) = some true)
  (hw : quant_whole (numB q) 0 (u : Int) (e : Int) = some ((n : Int),true)) (hn : n≤1125899906842624) : quant_amount (numB q++t) (e : Int) = some ((n : Int),0):=by
 unfold quant_amount
 rw [cut_n hq hs ht]
 simp only [Option.bind_some]
 rw [if_neg (by simp),hu]
 simp only [Option.bind_some]
 rw [if_pos (show (I_any20.c228 (u : Int)).is228 = true from rfl),show (I_any20.c228 (u : Int)).as228 = (u : Int) from rfl,hx]
 simp only [Option.bind_some]
 rw [if_neg (by simp),hw]
 simp only [Option.bind_some]
 rw [if_neg (by simp; omega)]
theorem app_nilB (a : ByteArray) : a++(⟨#[]⟩ : ByteArray) = a:=bytesL_inj (by rw [b_cat]; exact List.append_nil _)
theorem ex0 (q u : Nat) : (q % 1000 * 1000 % 1000) * (u % 1000) % 1000 = 0:=by rw [Nat.mul_mod_left,Nat.zero_mul,Nat.zero_mod]
theorem Milli_n {n : Nat} (h : n≤1125899906842624) : quant_Milli (milliB n) = some ((n : Int),0):=by
 have hle : n / 1000≤n:=Nat.div_le_self ..
 unfold quant_Milli milliB
 by_cases h0 : n % 1000 = 0
 ·rw [if_pos h0,← app_nilB (numB (n / 1000)),show (1000 : Int) = ((1000 : Nat) : Int) from rfl,amount_n (u:=1000) (n:=n) (by omega) (by decide) (.inl rfl) (by kernel_rfl) (exact_n (by omega) (by omega) (by omega) (ex0 _ _)) (whole_2 (by omega) (by omega) (by omega) (.inl ⟨rfl,by omega⟩) (by omega) h) h]
  rfl
 ·rw [if_neg h0,show (1000 : Int) = ((1000 : Nat) : Int) from rfl,amount_n (u:=1) (n:=n) h (by decide) (.inr ⟨109,[],rfl,by omega⟩) (by kernel_rfl) (exact_n (by omega) (by omega) (by omega) (ex0 _ _)) (whole_1 h) h]
  rfl
theorem Parse_n {n : Nat} (h : n≤1125899906842624) : quant_Parse (memB n) = some ((n : Int),0):=by
 unfold quant_Parse memB
 rw [show (1000000 : Int) = ((1000000 : Nat) : Int) from rfl]
 rcases kk_cases n with ⟨e,h1⟩ | ⟨e,h0,h1,h2⟩ | ⟨e,h0,h1,h2⟩ | ⟨e,h0,h1,h2⟩ | ⟨e,h0,h1⟩<;>rw [e]<;>simp only [kp,unitB]
 ·rw [amount_n (u:=1000) (n:=n) (by omega) (by decide) (.inl rfl) (by kernel_rfl) (exact_n (by omega) (by omega) (by omega) (by omega)) (whole_2 (by omega) (by omega) (by omega) (.inr ⟨rfl,by omega⟩) (by omega) h) h]; rfl
 ·rw [amount_n (u:=1024000) (n:=n) (by omega) (by decide) (.inr ⟨75,[105],rfl,by omega⟩) (by kernel_rfl) (exact_n (by omega) (by omega) (by omega) (by omega)) (whole_2 (by omega) (by omega) (by omega) (.inr ⟨rfl,by omega⟩) (by omega) h) h]; rfl
 ·rw [amount_n (u:=1048576000) (n:=n) (by omega) (by decide) (.inr ⟨77,[105],rfl,by omega⟩) (by kernel_rfl) (exact_n (by omega) (by omega) (by omega) (by omega)) (whole_2 (by omega) (by omega) (by omega) (.inr ⟨rfl,by omega⟩) (by omega) h) h]; rfl
 ·rw [amount_n (u:=1073741824000) (n:=n) (by omega) (by decide) (.inr ⟨71,[105],rfl,by omega⟩) (by kernel_rfl) (exact_n (by omega) (by omega) (by omega) (by omega)) (whole_2 (by omega) (by omega) (by omega) (.inr ⟨rfl,by omega⟩) (by omega) h) h]; rfl
 ·rw [amount_n (u:=1099511627776000) (n:=n) (by omega) (by decide) (.inr ⟨84,[105],rfl,by omega⟩) (by kernel_rfl) (exact_n (by omega) (by omega) (by omega) (by omega)) (whole_2 (by omega) (by omega) (by omega) (.inr ⟨rfl,by omega⟩) (by omega) h) h]; rfl
theorem Number_n {n : Nat} (h : n≤1125899906842624) : quant_Number (numB n) = some ((n : Int),0):=by
 have hne : numB n≠⟨#[]⟩:=fun e =>by have:=dg_pos n; rw [← numB_l,e] at this; exact absurd this (by decide)
 have hsz:=numB_size h
 unfold quant_Number
 rw [if_neg (by rw [seq_nil]; exact hne),head_n (d:=dg n) (t:=[]) (by rw [numB_l,List.append_nil]) (dg_mem n) (.inl rfl) (by omega),show (1125899906842624 : Int) = ((1125899906842624 : Nat) : Int) from rfl]
 simp only [Option.bind_some]
 rw [if_neg (by rw [← bytesS,numB_l]; simp),value_n h (by omega) (by omega) h]
 rfl
end Go.Proofs.YtkondhigbbgidaaGreat.M

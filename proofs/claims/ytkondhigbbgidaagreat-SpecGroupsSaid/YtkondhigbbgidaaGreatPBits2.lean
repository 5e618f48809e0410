/-
  Printed by a program of this session out of the loaded functions: models and their proofs. Own text.
-/
import Derived.Test.YtkondhigbbgidaaGreatPTot2
/-
  Plain laws: what the document's check of a yard says of it. Own text.
-/
namespace Go.Proofs.YtkondhigbbgidaaGreat.M
open Go Go.Proofs Go.Proofs.YtkondhigbbgidaaGreat.V
set_option linter.unusedVariables false
set_option linter.unusedSimpArgs false
end Go.Proofs.YtkondhigbbgidaaGreat.M
/- Plain law: the library's product and quotient of 128 bits, and how many thousandths are not needed. Own work. -/
namespace Go.Proofs.YtkondhigbbgidaaGreat.M
open Go Go.Proofs Go.Proofs.YtkondhigbbgidaaGreat.V
open Go.IntKind (i64)
set_option linter.unusedVariables false
set_option linter.unusedSimpArgs false
set_option maxRecDepth 20000
set_option maxHeartbeats 4000000
theorem u_eq {x : Int} (h1 : 0≤x) (h2 : x < 18446744073709551616) : IntKind.u64.wrap x = x:=by rw [IntKind.wrap_u64]; omega
theorem u8_eq {x : Int} (h1 : 0≤x) (h2 : x < 256) : IntKind.u8.wrap x = x:=by rw [show IntKind.u8.wrap x = x % 256 from rfl]; omega
theorem and32 {x : Nat} (h : x < 18446744073709551616) : V.bAnd .u64 (x : Int) 4294967295 = ((x % 4294967296 : Nat) : Int):=by
  unfold V.bAnd
  have e1 : BitVec.ofInt IntKind.u64.bits (x : Int) = BitVec.ofNat 64 x:=by
    show BitVec.ofInt 64 (x : Int) = _
    exact BitVec.ofInt_natCast 64 x
  have e2 : BitVec.ofInt IntKind.u64.bits (4294967295 : Int) = BitVec.ofNat 64 4294967295:=rfl
  rw [e1,e2]
  have e3 : (BitVec.ofNat 64 x &&& BitVec.ofNat 64 4294967295).toNat = x % 4294967296:=by
    rw [BitVec.toNat_and,BitVec.toNat_ofNat,BitVec.toNat_ofNat,Nat.mod_eq_of_lt (by omega : x < 2 ^ 64)]
    exact Nat.and_two_pow_sub_one_eq_mod x 32
  show IntKind.u64.wrap ((BitVec.ofNat 64 x &&& BitVec.ofNat 64 4294967295).toNat : Int) = _
  rw [e3,u_eq (by omega) (by omega)]
theorem or_add {a b s : Nat} (h1 : a * 2 ^ s < 18446744073709551616) (h2 : b < 2 ^ s) (hs : s < 64) : V.bOr .u64 ((a * 2 ^ s : Nat) : Int) (b : Int) = ((a * 2 ^ s + b : Nat) : Int):=by
  unfold V.bOr
  have hb : b < 18446744073709551616:=Nat.lt_trans h2 (Nat.lt_of_lt_of_le (Nat.pow_lt_pow_right (by omega) hs) (by decide))
  have e1 : BitVec.ofInt IntKind.u64.bits ((a * 2 ^ s : Nat) : Int) = BitVec.ofNat 64 (a * 2 ^ s):=BitVec.ofInt_natCast 64 _
  have e2 : BitVec.ofInt IntKind.u64.bits (b : Int) = BitVec.ofNat 64 b:=BitVec.ofInt_natCast 64 _
  rw [e1,e2]
  have e3 : (BitVec.ofNat 64 (a * 2 ^ s) ||| BitVec.ofNat 64 b).toNat = a * 2 ^ s + b:=by
    rw [BitVec.toNat_or,BitVec.toNat_ofNat,BitVec.toNat_ofNat,Nat.mod_eq_of_lt (by omega : a * 2 ^ s < 2 ^ 64),Nat.mod_eq_of_lt (by omega : b < 2 ^ 64)]
    have:=Nat.shiftLeft_add_eq_or_of_lt h2 a
    rw [Nat.shiftLeft_eq] at this
    exact this.symm
  show IntKind.u64.wrap ((BitVec.ofNat 64 (a * 2 ^ s) ||| BitVec.ofNat 64 b).toNat : Int) = _
  rw [e3]
  have hlt : a * 2 ^ s + b < 18446744073709551616:=by
    rw [← e3]; exact (BitVec.ofNat 64 (a * 2 ^ s) ||| BitVec.ofNat 64 b).isLt
  rw [u_eq (by omega) (by omega)]
theorem shr_eq (x : Nat) (s : Nat) (hs : s≤64) : V.shr .u64 (x : Int) (s : Int) = some ((x / 2 ^ s : Nat) : Int):=by
  unfold V.shr
  rw [if_neg (by omega),Int.toNat_natCast,show min s IntKind.u64.bits = s by show min s 64 = s; omega]
  congr 1
  rw [Int.fdiv_eq_ediv_of_nonneg _ (by exact Int.le_of_lt (Int.pow_pos (by omega)))]
  push_cast
  rfl
theorem shl_eq (x : Nat) (s : Nat) (hs : s≤64) : V.shl .u64 (x : Int) (s : Int) = some (((x * 2 ^ s) % 18446744073709551616 : Nat) : Int):=by
  unfold V.shl
  rw [if_neg (by omega),Int.toNat_natCast,show min s IntKind.u64.bits = s by show min s 64 = s; omega]
  congr 1
theorem knuth {F : Nat→Int→Int→Option Int} {y1 y0 u u1 : Nat} (h1 : 2147483648≤y1) (h1' : y1 < 4294967296) (h0 : y0 < 4294967296) (hu1 : u1 < 4294967296) (hu : u < y1 * 4294967296 + y0)
    (hs : ∀ (n q r : Nat),q≤4294967297→r < 4294967296→0 < q→F (n + 1) (q : Int) (r : Int) = if q≥4294967296∨q * y0 > 4294967296 * r + u1 then (if r + y1≥4294967296 then some ((q - 1 : Nat) : Int) else F n ((q - 1 : Nat) : Int) ((r + y1 : Nat) : Int)) else some (q : Int))
    (hz : ∀ (n r : Nat),F (n + 1) 0 (r : Int) = some 0) :
    F FU ((u / y1 : Nat) : Int) ((u % y1 : Nat) : Int) = some (((u * 4294967296 + u1) / (y1 * 4294967296 + y0) : Nat) : Int):=by
  obtain ⟨Y,hY⟩ : ∃ Y,y1 * 4294967296 + y0 = Y:=⟨_,rfl⟩
  obtain ⟨N,hN⟩ : ∃ N,u * 4294967296 + u1 = N:=⟨_,rfl⟩
  rw [hY] at hu ⊢
  rw [hN]
  have hYp : 0 < Y:=by omega
  obtain ⟨Q,hQ⟩ : ∃ Q,N / Y = Q:=⟨_,rfl⟩
  rw [hQ]
  have hQB : Q < 4294967296:=by
    rw [← hQ,Nat.div_lt_iff_lt_mul hYp]
    omega
  have key : ∀ (d q r n : Nat),q - Q≤d→d < n→u = q * y1 + r→Q≤q→q≤4294967297→r < 4294967296→F n (q : Int) (r : Int) = some (Q : Int):=by
    intro d
    induction d with
    | zero =>
      intro q r n a1 a2 a3 a4 a5 a6
      obtain ⟨n,rfl⟩ : ∃ n',n = n' + 1:=⟨n - 1,by omega⟩
      have e : q = Q:=by omega
      subst e
      by_cases q0 : q = 0
      · rw [q0]; exact hz n r
      · have hle : q * Y≤N:=by rw [← Nat.le_div_iff_mul_le hYp,hQ]; exact Nat.le_refl _
        have hm : q * Y = q * y1 * 4294967296 + q * y0:=by rw [← hY,Nat.mul_add,Nat.mul_assoc]
        rw [hs n q r a5 a6 (by omega),if_neg (by omega)]
    | succ d ih =>
      intro q r n a1 a2 a3 a4 a5 a6
      obtain ⟨n,rfl⟩ : ∃ n',n = n' + 1:=⟨n - 1,by omega⟩
      by_cases q0 : q = 0
      · have : Q = 0:=by omega
        rw [q0,this]; exact hz n r
      · have hm : q * Y = q * y1 * 4294967296 + q * y0:=by rw [← hY,Nat.mul_add,Nat.mul_assoc]
        rw [hs n q r a5 a6 (by omega)]
        by_cases hc : q≥4294967296∨q * y0 > 4294967296 * r + u1
        · rw [if_pos hc]
          have hlt : Q < q:=by
            rcases Nat.lt_or_ge Q q with z | z
            · exact z
            · exfalso
              have hle : q * Y≤N:=by rw [← Nat.le_div_iff_mul_le hYp,hQ]; exact z
              rcases hc with hc | hc<;>omega
          obtain ⟨p,rfl⟩ : ∃ p,q = p + 1:=⟨q - 1,by omega⟩
          rw [show p + 1 - 1 = p by omega]
          have hp1 : (p + 1) * y1 = p * y1 + y1:=by rw [Nat.add_mul]; omega
          by_cases hb : r + y1≥4294967296
          · rw [if_pos hb]
            have hp0 : p * y0≤4294967296 * 4294967295:=Nat.mul_le_mul (by omega) (by omega)
            have hmp : p * Y = p * y1 * 4294967296 + p * y0:=by rw [← hY,Nat.mul_add,Nat.mul_assoc]
            have hle : p * Y≤N:=by omega
            have : p≤Q:=by rw [← hQ,Nat.le_div_iff_mul_le hYp]; exact hle
            rw [show p = Q by omega]
          · rw [if_neg hb]
            exact ih p (r + y1) n (by omega) (by omega) (by omega) (by omega) (by omega) (by omega)
        · rw [if_neg hc]
          have hle : q * Y≤N:=by omega
          have : q≤Q:=by rw [← hQ,Nat.le_div_iff_mul_le hYp]; exact hle
          rw [show q = Q by omega]
  have hdm:=Nat.div_add_mod u y1
  have hml:=Nat.mod_lt u (show 0 < y1 by omega)
  have hq1 : u / y1 < 4294967298:=by
    rw [Nat.div_lt_iff_lt_mul (by omega)]
    omega
  have hle : Q * Y≤N:=by rw [← Nat.le_div_iff_mul_le hYp,hQ]; exact Nat.le_refl _
  have hm : Q * Y = Q * y1 * 4294967296 + Q * y0:=by rw [← hY,Nat.mul_add,Nat.mul_assoc]
  have hqq : Q≤u / y1:=by
    rw [Nat.le_div_iff_mul_le (by omega)]
    omega
  generalize u / y1 = q at *
  generalize u % y1 = r at *
  exact key q q r FU (Nat.sub_le _ _) (by unfold FU; omega) (by rw [Nat.mul_comm] at hdm; omega) hqq (by omega) (by omega)
end Go.Proofs.YtkondhigbbgidaaGreat.M
/- Plain law: the library's quotient of 128 bits. Own work. -/
namespace Go.Proofs.YtkondhigbbgidaaGreat.M
open Go Go.Proofs Go.Proofs.YtkondhigbbgidaaGreat.V
open Go.IntKind (i64)
set_option linter.unusedVariables false
set_option linter.unusedSimpArgs false
set_option maxRecDepth 20000
set_option maxHeartbeats 4000000
theorem quo_nat {a b : Nat} (hb : 0 < b) : V.quo (a : Int) (b : Int) = some ((a / b : Nat) : Int):=by
 unfold V.quo
 rw [if_neg (by omega)]
 congr 1
theorem wrap_left {a b c r : Int} (hr : a + b - c = r) (h0 : 0≤r) (h1 : r < 18446744073709551616) : IntKind.u64.wrap (IntKind.u64.wrap (IntKind.u64.wrap a + b) - IntKind.u64.wrap c) = r:=by
 rw [IntKind.wrap_u64,IntKind.wrap_u64,IntKind.wrap_u64,IntKind.wrap_u64]
 omega
theorem l1_eq {Y y1 y0 u u1 : Nat} (hY : Y < 18446744073709551616) (hy1 : y1 = Y / 4294967296) (hy0 : y0 = Y % 4294967296) (h1 : 2147483648≤y1) (hu1 : u1 < 4294967296) (hu : u < Y) :
  math_bits_Div64.l1 (Y : Int) (y1 : Int) (u1 : Int) FU ((u / y1 : Nat) : Int) ((u % y1 : Nat) : Int) = some (((u * 4294967296 + u1) / Y : Nat) : Int):=by
 have hYe : y1 * 4294967296 + y0 = Y:=by omega
 have ha : V.bAnd .u64 (Y : Int) 4294967295 = (y0 : Int):=by rw [hy0]; exact and32 hY
 rw [← hYe] at hu
 have:=knuth (F:=fun n q r =>math_bits_Div64.l1 (Y : Int) (y1 : Int) (u1 : Int) n q r) h1 (by omega) (by omega : y0 < 4294967296) hu1 hu (fun n q r b1 b2 b3 =>by
   have hq : q * y0≤4294967297 * 4294967295:=Nat.mul_le_mul b1 (by omega)
   rw [math_bits_Div64.l1,ha]
   rw [show (q : Int) * (y0 : Int) = ((q * y0 : Nat) : Int) by push_cast; rfl]
   generalize q * y0 = z at *
   rw [u_eq (x:=((z : Nat) : Int)) (by omega) (by omega),u_eq (x:=4294967296 * (r : Int)) (by omega) (by omega),u_eq (x:=4294967296 * (r : Int) + (u1 : Int)) (by omega) (by omega),u_eq (x:=(r : Int) + (y1 : Int)) (by omega) (by omega),u_eq (x:=(q : Int) - 1) (by omega) (by omega)]
   have e1 : ((decide ((q : Int)≥4294967296)) || (decide ((z : Int) > 4294967296 * (r : Int) + (u1 : Int)))) = decide (q≥4294967296∨z > 4294967296 * r + u1):=by
    rw [Bool.eq_iff_iff]; simp only [Bool.or_eq_true,decide_eq_true_eq]; omega
   rw [e1,show (q : Int) - 1 = ((q - 1 : Nat) : Int) by omega,show (r : Int) + (y1 : Int) = ((r + y1 : Nat) : Int) by omega]
   by_cases hc : q≥4294967296∨z > 4294967296 * r + u1
   ·rw [if_pos (by simpa using hc),if_pos hc]
    by_cases hd : r + y1≥4294967296
    ·rw [if_pos (by simp only [decide_eq_true_eq]; omega),if_pos hd]
    ·rw [if_neg (by simp only [decide_eq_true_eq]; omega),if_neg hd]
   ·rw [if_neg (by simpa using hc),if_neg hc]) (fun n r =>by
   rw [math_bits_Div64.l1,ha,Int.zero_mul,show IntKind.u64.wrap 0 = 0 from rfl,if_neg]
   have:=(show 0≤IntKind.u64.wrap (IntKind.u64.wrap (4294967296 * (r : Int)) + (u1 : Int)) by rw [IntKind.wrap_u64]; omega)
   simp only [Bool.or_eq_true,decide_eq_true_eq]
   omega)
 rw [hYe] at this
 exact this
theorem l2_eq {Y y1 y0 u L u1 : Nat} (hY : Y < 18446744073709551616) (hy1 : y1 = Y / 4294967296) (hy0 : y0 = Y % 4294967296) (h1 : 2147483648≤y1) (hL : L < 18446744073709551616) (hu1 : u1 = L % 4294967296) (hu : u < Y) :
  math_bits_Div64.l2 (Y : Int) (y1 : Int) (L : Int) FU ((u % y1 : Nat) : Int) ((u / y1 : Nat) : Int) = some (((u * 4294967296 + u1) / Y : Nat) : Int):=by
 have hYe : y1 * 4294967296 + y0 = Y:=by omega
 have ha : V.bAnd .u64 (Y : Int) 4294967295 = (y0 : Int):=by rw [hy0]; exact and32 hY
 have hb : V.bAnd .u64 (L : Int) 4294967295 = (u1 : Int):=by rw [hu1]; exact and32 hL
 rw [← hYe] at hu
 have:=knuth (F:=fun n q r =>math_bits_Div64.l2 (Y : Int) (y1 : Int) (L : Int) n r q) h1 (by omega) (by omega : y0 < 4294967296) (by omega : u1 < 4294967296) hu (fun n q r b1 b2 b3 =>by
   have hq : q * y0≤4294967297 * 4294967295:=Nat.mul_le_mul b1 (by omega)
   rw [math_bits_Div64.l2,ha,hb]
   rw [show (q : Int) * (y0 : Int) = ((q * y0 : Nat) : Int) by push_cast; rfl]
   generalize q * y0 = z at *
   rw [u_eq (x:=((z : Nat) : Int)) (by omega) (by omega),u_eq (x:=4294967296 * (r : Int)) (by omega) (by omega),u_eq (x:=4294967296 * (r : Int) + (u1 : Int)) (by omega) (by omega),u_eq (x:=(r : Int) + (y1 : Int)) (by omega) (by omega),u_eq (x:=(q : Int) - 1) (by omega) (by omega)]
   have e1 : ((decide ((q : Int)≥4294967296)) || (decide ((z : Int) > 4294967296 * (r : Int) + (u1 : Int)))) = decide (q≥4294967296∨z > 4294967296 * r + u1):=by
    rw [Bool.eq_iff_iff]; simp only [Bool.or_eq_true,decide_eq_true_eq]; omega
   rw [e1,show (q : Int) - 1 = ((q - 1 : Nat) : Int) by omega,show (r : Int) + (y1 : Int) = ((r + y1 : Nat) : Int) by omega]
   by_cases hc : q≥4294967296∨z > 4294967296 * r + u1
   ·rw [if_pos (by simpa using hc),if_pos hc]
    by_cases hd : r + y1≥4294967296
    ·rw [if_pos (by simp only [decide_eq_true_eq]; omega),if_pos hd]
    ·rw [if_neg (by simp only [decide_eq_true_eq]; omega),if_neg hd]
   ·rw [if_neg (by simpa using hc),if_neg hc]) (fun n r =>by
   rw [math_bits_Div64.l2,ha,hb,Int.zero_mul,show IntKind.u64.wrap 0 = 0 from rfl,if_neg]
   have:=(show 0≤IntKind.u64.wrap (IntKind.u64.wrap (4294967296 * (r : Int)) + (u1 : Int)) by rw [IntKind.wrap_u64]; omega)
   simp only [Bool.or_eq_true,decide_eq_true_eq]
   omega)
 rw [hYe] at this
 exact this
theorem two_sum {U u un1 un0 z r : Nat} (hU : U = u * 18446744073709551616 + un1 * 4294967296 + un0) (h : z + r = u * 4294967296 + un1) : U = r * 4294967296 + un0 + z * 4294967296:=by
 have e1 : U = (u * 4294967296 + un1) * 4294967296 + un0:=by
  rw [hU,Nat.add_mul,Nat.mul_assoc]
 rw [e1,← h,Nat.add_mul,Nat.add_assoc,Nat.add_comm]
theorem two_digits {U Y u un1 un0 : Nat} (hU : U = u * 18446744073709551616 + un1 * 4294967296 + un0) (hY : 0 < Y) : U / Y = (u * 4294967296 + un1) / Y * 4294967296 + ((u * 4294967296 + un1) % Y * 4294967296 + un0) / Y:=by
 have e:=two_sum hU (Nat.div_add_mod (u * 4294967296 + un1) Y)
 rw [Nat.mul_assoc] at e
 rw [e,Nat.add_mul_div_left _ _ hY,Nat.add_comm]
theorem div_core {u Y L r : Nat} (hY : 9223372036854775808≤Y) (hY2 : Y < 18446744073709551616) (hu : u < Y) (hL : L < 18446744073709551616) (hr : r≤64) {k : Int→Int→Option (Int × Int)} :
  ((V.shr .u64 (Y : Int) (32 : Int)).bind fun v4 =>(V.shr .u64 (L : Int) (32 : Int)).bind fun v8 =>(V.quo (u : Int) v4).bind fun v9 =>
  (math_bits_Div64.l1 (Y : Int) v4 v8 FU (IntKind.u64.wrap v9) (IntKind.u64.wrap ((u : Int) - (IntKind.u64.wrap ((IntKind.u64.wrap v9) * v4))))).bind fun q132 =>
  (V.quo (IntKind.u64.wrap ((IntKind.u64.wrap ((IntKind.u64.wrap ((u : Int) * 4294967296)) + v8)) - (IntKind.u64.wrap (q132 * (Y : Int))))) v4).bind fun v10 =>
  (math_bits_Div64.l2 (Y : Int) v4 (L : Int) FU (IntKind.u64.wrap ((IntKind.u64.wrap ((IntKind.u64.wrap ((IntKind.u64.wrap ((u : Int) * 4294967296)) + v8)) - (IntKind.u64.wrap (q132 * (Y : Int))))) - (IntKind.u64.wrap ((IntKind.u64.wrap v10) * v4)))) (IntKind.u64.wrap v10)).bind fun q032 =>
  k q132 q032) = k (((u * 4294967296 + L / 4294967296) / Y : Nat) : Int) (((u * 4294967296 + L / 4294967296) % Y * 4294967296 + L % 4294967296) / Y : Nat)∧(u * 4294967296 + L / 4294967296) / Y < 4294967296∧((u * 4294967296 + L / 4294967296) % Y * 4294967296 + L % 4294967296) / Y < 4294967296 ∧
   (u * 18446744073709551616 + L) / Y = (u * 4294967296 + L / 4294967296) / Y * 4294967296 + ((u * 4294967296 + L / 4294967296) % Y * 4294967296 + L % 4294967296) / Y:=by
 obtain ⟨y1,hy1⟩ : ∃ y1,y1 = Y / 4294967296:=⟨_,rfl⟩
 obtain ⟨un1,hun1⟩ : ∃ un1,un1 = L / 4294967296:=⟨_,rfl⟩
 obtain ⟨un0,hun0⟩ : ∃ un0,un0 = L % 4294967296:=⟨_,rfl⟩
 have e4 : V.shr .u64 (Y : Int) 32 = some (y1 : Int):=by rw [hy1]; exact shr_eq Y 32 (by omega)
 have e8 : V.shr .u64 (L : Int) 32 = some (un1 : Int):=by rw [hun1]; exact shr_eq L 32 (by omega)
 have hy1g : 2147483648≤y1:=by omega
 have hy1l : y1 < 4294967296:=by omega
 have left : ∀ a : Nat,a < 18446744073709551616→IntKind.u64.wrap ((a / y1 : Nat) : Int) = ((a / y1 : Nat) : Int)∧IntKind.u64.wrap ((a : Int) - IntKind.u64.wrap (((a / y1 : Nat) : Int) * (y1 : Int))) = ((a % y1 : Nat) : Int):=fun a ha =>by
  have h1:=Nat.div_add_mod a y1
  have h2:=Nat.div_le_self a y1
  rw [Nat.mul_comm] at h1
  rw [show ((a / y1 : Nat) : Int) * (y1 : Int) = ((a / y1 * y1 : Nat) : Int) by push_cast; rfl]
  generalize a / y1 * y1 = z at *
  generalize a / y1 = w at *
  generalize a % y1 = x at *
  refine ⟨u_eq (by omega) (by omega),?_⟩
  rw [u_eq (x:=(z : Int)) (by omega) (by omega),u_eq (by omega) (by omega)]
  omega
 rw [e4,e8]
 simp only [Option.bind_some]
 rw [quo_nat (by omega)]
 simp only [Option.bind_some]
 rw [(left u (by omega)).1,(left u (by omega)).2,l1_eq hY2 hy1 rfl hy1g (by omega) hu]
 simp only [Option.bind_some]
 have hd:=Nat.div_add_mod (u * 4294967296 + un1) Y
 have hm:=Nat.mod_lt (u * 4294967296 + un1) (show 0 < Y by omega)
 have hq1 : (u * 4294967296 + un1) / Y < 4294967296:=by
  rw [Nat.div_lt_iff_lt_mul (by omega)]
  omega
 have htd:=two_digits (U:=u * 18446744073709551616 + L) (Y:=Y) (u:=u) (un1:=un1) (un0:=un0) (by omega) (by omega)
 rw [← hun1,← hun0]
 refine ⟨?_,hq1,by rw [Nat.div_lt_iff_lt_mul (by omega)]; omega,htd⟩
 obtain ⟨q,hq⟩ : ∃ q,(u * 4294967296 + un1) / Y = q:=⟨_,rfl⟩
 obtain ⟨x,hx⟩ : ∃ x,(u * 4294967296 + un1) % Y = x:=⟨_,rfl⟩
 obtain ⟨z,hz⟩ : ∃ z,q * Y = z:=⟨_,rfl⟩
 have hzc : (q : Int) * (Y : Int) = (z : Int):=by rw [← hz,Int.natCast_mul]
 rw [Nat.mul_comm] at hd
 rw [hq,hx,hz] at hd
 rw [hq] at hq1
 rw [hx] at hm
 rw [hq,hx,hzc]
 rw [wrap_left (r:=(x : Int)) (by omega) (by omega) (by omega),quo_nat (by omega)]
 simp only [Option.bind_some]
 rw [(left x (by omega)).1,(left x (by omega)).2,l2_eq hY2 hy1 rfl hy1g hL hun0 hm]
 simp only [Option.bind_some]
theorem shr_some (x : Int) (s : Nat) : ∃ z,V.shr .u64 x (s : Int) = some z:=by
 unfold V.shr
 rw [if_neg (by omega)]
 exact ⟨_,rfl⟩
end Go.Proofs.YtkondhigbbgidaaGreat.M

/- Plain law: the library's product and quotient of 128 bits, and how many thousandths are not needed. Own work. -/
import Derived.Test.YtbkdglcedgiogaaGreatPChk
namespace Go.Proofs.YtbkdglcedgiogaaGreat.M
open Go Go.Proofs Go.Proofs.YtbkdglcedgiogaaGreat.V
open Go.IntKind (i64)
set_option linter.unusedVariables false
set_option maxRecDepth 20000
set_option maxHeartbeats 4000000

theorem u_eq {x : Int} (h1 : 0 ≤ x) (h2 : x < 18446744073709551616) : IntKind.u64.wrap x = x := by rw [IntKind.wrap_u64]; omega
theorem u8_eq {x : Int} (h1 : 0 ≤ x) (h2 : x < 256) : IntKind.u8.wrap x = x := by rw [show IntKind.u8.wrap x = x % 256 from rfl]; omega
theorem and32 {x : Nat} (h : x < 18446744073709551616) : V.bAnd .u64 (x : Int) 4294967295 = ((x % 4294967296 : Nat) : Int) := by
  unfold V.bAnd
  have e1 : BitVec.ofInt IntKind.u64.bits (x : Int) = BitVec.ofNat 64 x := by
    show BitVec.ofInt 64 (x : Int) = _
    exact BitVec.ofInt_natCast 64 x
  have e2 : BitVec.ofInt IntKind.u64.bits (4294967295 : Int) = BitVec.ofNat 64 4294967295 := rfl
  rw [e1, e2]
  have e3 : (BitVec.ofNat 64 x &&& BitVec.ofNat 64 4294967295).toNat = x % 4294967296 := by
    rw [BitVec.toNat_and, BitVec.toNat_ofNat, BitVec.toNat_ofNat, Nat.mod_eq_of_lt (by omega : x < 2 ^ 64)]
    exact Nat.and_two_pow_sub_one_eq_mod x 32
  show IntKind.u64.wrap ((BitVec.ofNat 64 x &&& BitVec.ofNat 64 4294967295).toNat : Int) = _
  rw [e3, u_eq (by omega) (by omega)]
theorem or_add {a b s : Nat} (h1 : a * 2 ^ s < 18446744073709551616) (h2 : b < 2 ^ s) (hs : s < 64) : V.bOr .u64 ((a * 2 ^ s : Nat) : Int) (b : Int) = ((a * 2 ^ s + b : Nat) : Int) := by
  unfold V.bOr
  have hb : b < 18446744073709551616 := Nat.lt_trans h2 (Nat.lt_of_lt_of_le (Nat.pow_lt_pow_right (by omega) hs) (by decide))
  have e1 : BitVec.ofInt IntKind.u64.bits ((a * 2 ^ s : Nat) : Int) = BitVec.ofNat 64 (a * 2 ^ s) := BitVec.ofInt_natCast 64 _
  have e2 : BitVec.ofInt IntKind.u64.bits (b : Int) = BitVec.ofNat 64 b := BitVec.ofInt_natCast 64 _
  rw [e1, e2]
  have e3 : (BitVec.ofNat 64 (a * 2 ^ s) ||| BitVec.ofNat 64 b).toNat = a * 2 ^ s + b := by
    rw [BitVec.toNat_or, BitVec.toNat_ofNat, BitVec.toNat_ofNat, Nat.mod_eq_of_lt (by omega : a * 2 ^ s < 2 ^ 64), Nat.mod_eq_of_lt (by omega : b < 2 ^ 64)]
    have := Nat.shiftLeft_add_eq_or_of_lt h2 a
    rw [Nat.shiftLeft_eq] at this
    exact this.symm
  show IntKind.u64.wrap ((BitVec.ofNat 64 (a * 2 ^ s) ||| BitVec.ofNat 64 b).toNat : Int) = _
  rw [e3]
  have hlt : a * 2 ^ s + b < 18446744073709551616 := by
    rw [← e3]; exact (BitVec.ofNat 64 (a * 2 ^ s) ||| BitVec.ofNat 64 b).isLt
  rw [u_eq (by omega) (by omega)]
theorem shr_eq (x : Nat) (s : Nat) (hs : s ≤ 64) : V.shr .u64 (x : Int) (s : Int) = some ((x / 2 ^ s : Nat) : Int) := by
  unfold V.shr
  rw [if_neg (by omega), Int.toNat_natCast, show min s IntKind.u64.bits = s by show min s 64 = s; omega]
  congr 1
  rw [Int.fdiv_eq_ediv_of_nonneg _ (by exact Int.le_of_lt (Int.pow_pos (by omega)))]
  push_cast
  rfl
theorem shl_eq (x : Nat) (s : Nat) (hs : s ≤ 64) : V.shl .u64 (x : Int) (s : Int) = some (((x * 2 ^ s) % 18446744073709551616 : Nat) : Int) := by
  unfold V.shl
  rw [if_neg (by omega), Int.toNat_natCast, show min s IntKind.u64.bits = s by show min s 64 = s; omega]
  congr 1

theorem Mul1000 {x : Nat} (h : x < 9223372036854775808) : math_bits_Mul64 (x : Int) 1000 = some (((x * 1000 / 18446744073709551616 : Nat) : Int), ((x * 1000 % 18446744073709551616 : Nat) : Int)) := by
  unfold math_bits_Mul64
  obtain ⟨x1, hx1⟩ : ∃ x1, x1 = x / 4294967296 := ⟨_, rfl⟩
  obtain ⟨x0, hx0⟩ : ∃ x0, x0 = x % 4294967296 := ⟨_, rfl⟩
  have e1 : V.shr .u64 (x : Int) 32 = some (x1 : Int) := by rw [hx1]; exact shr_eq x 32 (by omega)
  have e2 : V.shr .u64 1000 32 = some 0 := rfl
  have a1 : V.bAnd .u64 (x : Int) 4294967295 = (x0 : Int) := by rw [hx0]; exact and32 (by omega)
  have a2 : V.bAnd .u64 1000 4294967295 = 1000 := rfl
  rw [e1, e2, a1, a2]
  simp only [Option.bind_some, Int.mul_zero]
  rw [show IntKind.u64.wrap 0 = 0 from rfl, u_eq (x := (x0 : Int) * 1000) (by omega) (by omega)]
  have e3 : V.shr .u64 ((x0 : Int) * 1000) 32 = some ((x0 * 1000 / 4294967296 : Nat) : Int) := shr_eq (x0 * 1000) 32 (by omega)
  rw [e3]
  simp only [Option.bind_some]
  rw [u_eq (x := (x1 : Int) * 1000) (by omega) (by omega), u_eq (x := (x1 : Int) * 1000 + _) (by omega) (by omega)]
  have e4 : V.shr .u64 ((x1 : Int) * 1000 + ((x0 * 1000 / 4294967296 : Nat) : Int)) 32 = some (((x1 * 1000 + x0 * 1000 / 4294967296) / 4294967296 : Nat) : Int) := shr_eq (x1 * 1000 + x0 * 1000 / 4294967296) 32 (by omega)
  have a3 : V.bAnd .u64 ((x1 : Int) * 1000 + ((x0 * 1000 / 4294967296 : Nat) : Int)) 4294967295 = (((x1 * 1000 + x0 * 1000 / 4294967296) % 4294967296 : Nat) : Int) := and32 (x := x1 * 1000 + x0 * 1000 / 4294967296) (by omega)
  rw [e4, a3]
  simp only [Option.bind_some, Int.add_zero]
  rw [u_eq (x := (((x1 * 1000 + x0 * 1000 / 4294967296) % 4294967296 : Nat) : Int)) (by omega) (by omega)]
  have e5 : V.shr .u64 (((x1 * 1000 + x0 * 1000 / 4294967296) % 4294967296 : Nat) : Int) 32 = some (((x1 * 1000 + x0 * 1000 / 4294967296) % 4294967296 / 4294967296 : Nat) : Int) := shr_eq _ 32 (by omega)
  rw [e5]
  simp only [Option.bind_some, Option.some.injEq, Prod.mk.injEq]
  constructor
  · rw [u_eq (x := 0 + (((x1 * 1000 + x0 * 1000 / 4294967296) / 4294967296 : Nat) : Int)) (by omega) (by omega), u_eq (by omega) (by omega)]
    omega
  · rw [IntKind.wrap_u64]; omega

/-- A digit of a quotient, sought from above. -/
theorem knuth {F : Nat → Int → Int → Option Int} {y1 y0 u u1 : Nat} (h1 : 2147483648 ≤ y1) (h1' : y1 < 4294967296) (h0 : y0 < 4294967296) (hu1 : u1 < 4294967296) (hu : u < y1 * 4294967296 + y0)
    (hs : ∀ (n q r : Nat), q ≤ 4294967297 → r < 4294967296 → 0 < q → F (n + 1) (q : Int) (r : Int) = if q ≥ 4294967296 ∨ q * y0 > 4294967296 * r + u1 then (if r + y1 ≥ 4294967296 then some ((q - 1 : Nat) : Int) else F n ((q - 1 : Nat) : Int) ((r + y1 : Nat) : Int)) else some (q : Int))
    (hz : ∀ (n r : Nat), F (n + 1) 0 (r : Int) = some 0) :
    F FU ((u / y1 : Nat) : Int) ((u % y1 : Nat) : Int) = some (((u * 4294967296 + u1) / (y1 * 4294967296 + y0) : Nat) : Int) := by
  obtain ⟨Y, hY⟩ : ∃ Y, y1 * 4294967296 + y0 = Y := ⟨_, rfl⟩
  obtain ⟨N, hN⟩ : ∃ N, u * 4294967296 + u1 = N := ⟨_, rfl⟩
  rw [hY] at hu ⊢
  rw [hN]
  have hYp : 0 < Y := by omega
  obtain ⟨Q, hQ⟩ : ∃ Q, N / Y = Q := ⟨_, rfl⟩
  rw [hQ]
  have hQB : Q < 4294967296 := by
    rw [← hQ, Nat.div_lt_iff_lt_mul hYp]
    omega
  have key : ∀ (d q r n : Nat), q - Q ≤ d → d < n → u = q * y1 + r → Q ≤ q → q ≤ 4294967297 → r < 4294967296 → F n (q : Int) (r : Int) = some (Q : Int) := by
    intro d
    induction d with
    | zero =>
      intro q r n a1 a2 a3 a4 a5 a6
      obtain ⟨n, rfl⟩ : ∃ n', n = n' + 1 := ⟨n - 1, by omega⟩
      have e : q = Q := by omega
      subst e
      by_cases q0 : q = 0
      · rw [q0]; exact hz n r
      · have hle : q * Y ≤ N := by rw [← Nat.le_div_iff_mul_le hYp, hQ]; exact Nat.le_refl _
        have hm : q * Y = q * y1 * 4294967296 + q * y0 := by rw [← hY, Nat.mul_add, Nat.mul_assoc]
        rw [hs n q r a5 a6 (by omega), if_neg (by omega)]
    | succ d ih =>
      intro q r n a1 a2 a3 a4 a5 a6
      obtain ⟨n, rfl⟩ : ∃ n', n = n' + 1 := ⟨n - 1, by omega⟩
      by_cases q0 : q = 0
      · have : Q = 0 := by omega
        rw [q0, this]; exact hz n r
      · have hm : q * Y = q * y1 * 4294967296 + q * y0 := by rw [← hY, Nat.mul_add, Nat.mul_assoc]
        rw [hs n q r a5 a6 (by omega)]
        by_cases hc : q ≥ 4294967296 ∨ q * y0 > 4294967296 * r + u1
        · rw [if_pos hc]
          have hlt : Q < q := by
            rcases Nat.lt_or_ge Q q with z | z
            · exact z
            · exfalso
              have hle : q * Y ≤ N := by rw [← Nat.le_div_iff_mul_le hYp, hQ]; exact z
              rcases hc with hc | hc <;> omega
          obtain ⟨p, rfl⟩ : ∃ p, q = p + 1 := ⟨q - 1, by omega⟩
          rw [show p + 1 - 1 = p by omega]
          have hp1 : (p + 1) * y1 = p * y1 + y1 := by rw [Nat.add_mul]; omega
          by_cases hb : r + y1 ≥ 4294967296
          · rw [if_pos hb]
            have hp0 : p * y0 ≤ 4294967296 * 4294967295 := Nat.mul_le_mul (by omega) (by omega)
            have hmp : p * Y = p * y1 * 4294967296 + p * y0 := by rw [← hY, Nat.mul_add, Nat.mul_assoc]
            have hle : p * Y ≤ N := by omega
            have : p ≤ Q := by rw [← hQ, Nat.le_div_iff_mul_le hYp]; exact hle
            rw [show p = Q by omega]
          · rw [if_neg hb]
            exact ih p (r + y1) n (by omega) (by omega) (by omega) (by omega) (by omega) (by omega)
        · rw [if_neg hc]
          have hle : q * Y ≤ N := by omega
          have : q ≤ Q := by rw [← hQ, Nat.le_div_iff_mul_le hYp]; exact hle
          rw [show q = Q by omega]
  have hdm := Nat.div_add_mod u y1
  have hml := Nat.mod_lt u (show 0 < y1 by omega)
  have hq1 : u / y1 < 4294967298 := by
    rw [Nat.div_lt_iff_lt_mul (by omega)]
    omega
  have hle : Q * Y ≤ N := by rw [← Nat.le_div_iff_mul_le hYp, hQ]; exact Nat.le_refl _
  have hm : Q * Y = Q * y1 * 4294967296 + Q * y0 := by rw [← hY, Nat.mul_add, Nat.mul_assoc]
  have hqq : Q ≤ u / y1 := by
    rw [Nat.le_div_iff_mul_le (by omega)]
    omega
  generalize u / y1 = q at *
  generalize u % y1 = r at *
  exact key q q r FU (Nat.sub_le _ _) (by unfold FU; omega) (by rw [Nat.mul_comm] at hdm; omega) hqq (by omega) (by omega)

theorem len8_all : ((List.range 256).all fun k => match V.gi (⟨#[0, 1, 2, 2, 3, 3, 3, 3, 4, 4, 4, 4, 4, 4, 4, 4, 5, 5, 5, 5, 5, 5, 5, 5, 5, 5, 5, 5, 5, 5, 5, 5, 6, 6, 6, 6, 6, 6, 6, 6, 6, 6, 6, 6, 6, 6, 6, 6, 6, 6, 6, 6, 6, 6, 6, 6, 6, 6, 6, 6, 6, 6, 6, 6, 7, 7, 7, 7, 7, 7, 7, 7, 7, 7, 7, 7, 7, 7, 7, 7, 7, 7, 7, 7, 7, 7, 7, 7, 7, 7, 7, 7, 7, 7, 7, 7, 7, 7, 7, 7, 7, 7, 7, 7, 7, 7, 7, 7, 7, 7, 7, 7, 7, 7, 7, 7, 7, 7, 7, 7, 7, 7, 7, 7, 7, 7, 7, 7, 8, 8, 8, 8, 8, 8, 8, 8, 8, 8, 8, 8, 8, 8, 8, 8, 8, 8, 8, 8, 8, 8, 8, 8, 8, 8, 8, 8, 8, 8, 8, 8, 8, 8, 8, 8, 8, 8, 8, 8, 8, 8, 8, 8, 8, 8, 8, 8, 8, 8, 8, 8, 8, 8, 8, 8, 8, 8, 8, 8, 8, 8, 8, 8, 8, 8, 8, 8, 8, 8, 8, 8, 8, 8, 8, 8, 8, 8, 8, 8, 8, 8, 8, 8, 8, 8, 8, 8, 8, 8, 8, 8, 8, 8, 8, 8, 8, 8, 8, 8, 8, 8, 8, 8, 8, 8, 8, 8, 8, 8, 8, 8, 8, 8, 8, 8, 8, 8, 8, 8, 8, 8, 8, 8, 8, 8, 8, 8]⟩ : ByteArray) (k : Int) with | some t => decide (k = 0) || (decide (1 ≤ t) && decide (t ≤ 8) && decide (2 ^ (t.toNat - 1) ≤ k) && decide (k < 2 ^ t.toNat)) | none => false) = true := by kernel_rfl
theorem len8 {k : Nat} (h1 : 1 ≤ k) (h2 : k < 256) : ∃ t : Nat, V.gi (⟨#[0, 1, 2, 2, 3, 3, 3, 3, 4, 4, 4, 4, 4, 4, 4, 4, 5, 5, 5, 5, 5, 5, 5, 5, 5, 5, 5, 5, 5, 5, 5, 5, 6, 6, 6, 6, 6, 6, 6, 6, 6, 6, 6, 6, 6, 6, 6, 6, 6, 6, 6, 6, 6, 6, 6, 6, 6, 6, 6, 6, 6, 6, 6, 6, 7, 7, 7, 7, 7, 7, 7, 7, 7, 7, 7, 7, 7, 7, 7, 7, 7, 7, 7, 7, 7, 7, 7, 7, 7, 7, 7, 7, 7, 7, 7, 7, 7, 7, 7, 7, 7, 7, 7, 7, 7, 7, 7, 7, 7, 7, 7, 7, 7, 7, 7, 7, 7, 7, 7, 7, 7, 7, 7, 7, 7, 7, 7, 7, 8, 8, 8, 8, 8, 8, 8, 8, 8, 8, 8, 8, 8, 8, 8, 8, 8, 8, 8, 8, 8, 8, 8, 8, 8, 8, 8, 8, 8, 8, 8, 8, 8, 8, 8, 8, 8, 8, 8, 8, 8, 8, 8, 8, 8, 8, 8, 8, 8, 8, 8, 8, 8, 8, 8, 8, 8, 8, 8, 8, 8, 8, 8, 8, 8, 8, 8, 8, 8, 8, 8, 8, 8, 8, 8, 8, 8, 8, 8, 8, 8, 8, 8, 8, 8, 8, 8, 8, 8, 8, 8, 8, 8, 8, 8, 8, 8, 8, 8, 8, 8, 8, 8, 8, 8, 8, 8, 8, 8, 8, 8, 8, 8, 8, 8, 8, 8, 8, 8, 8, 8, 8, 8, 8, 8, 8, 8, 8]⟩ : ByteArray) (k : Int) = some (t : Int) ∧ 1 ≤ t ∧ t ≤ 8 ∧ 2 ^ (t - 1) ≤ k ∧ k < 2 ^ t := by
  have := (List.all_eq_true.1 len8_all) k (List.mem_range.2 h2)
  cases hg : V.gi (⟨#[0, 1, 2, 2, 3, 3, 3, 3, 4, 4, 4, 4, 4, 4, 4, 4, 5, 5, 5, 5, 5, 5, 5, 5, 5, 5, 5, 5, 5, 5, 5, 5, 6, 6, 6, 6, 6, 6, 6, 6, 6, 6, 6, 6, 6, 6, 6, 6, 6, 6, 6, 6, 6, 6, 6, 6, 6, 6, 6, 6, 6, 6, 6, 6, 7, 7, 7, 7, 7, 7, 7, 7, 7, 7, 7, 7, 7, 7, 7, 7, 7, 7, 7, 7, 7, 7, 7, 7, 7, 7, 7, 7, 7, 7, 7, 7, 7, 7, 7, 7, 7, 7, 7, 7, 7, 7, 7, 7, 7, 7, 7, 7, 7, 7, 7, 7, 7, 7, 7, 7, 7, 7, 7, 7, 7, 7, 7, 7, 8, 8, 8, 8, 8, 8, 8, 8, 8, 8, 8, 8, 8, 8, 8, 8, 8, 8, 8, 8, 8, 8, 8, 8, 8, 8, 8, 8, 8, 8, 8, 8, 8, 8, 8, 8, 8, 8, 8, 8, 8, 8, 8, 8, 8, 8, 8, 8, 8, 8, 8, 8, 8, 8, 8, 8, 8, 8, 8, 8, 8, 8, 8, 8, 8, 8, 8, 8, 8, 8, 8, 8, 8, 8, 8, 8, 8, 8, 8, 8, 8, 8, 8, 8, 8, 8, 8, 8, 8, 8, 8, 8, 8, 8, 8, 8, 8, 8, 8, 8, 8, 8, 8, 8, 8, 8, 8, 8, 8, 8, 8, 8, 8, 8, 8, 8, 8, 8, 8, 8, 8, 8, 8, 8, 8, 8, 8, 8]⟩ : ByteArray) (k : Int) with
  | none => rw [hg] at this; cases this
  | some t =>
    rw [hg] at this
    simp only [Bool.or_eq_true, Bool.and_eq_true, decide_eq_true_eq] at this
    rcases this with h | ⟨⟨⟨a, b⟩, c⟩, d⟩
    · omega
    · obtain ⟨n, rfl⟩ : ∃ n : Nat, t = (n : Int) := ⟨t.toNat, by omega⟩
      rw [Int.toNat_natCast] at c d
      exact ⟨n, rfl, by omega, by omega, c, d⟩
theorem Len_eq {y : Nat} (h1 : 18014398509481984 ≤ y) (h2 : y < 288230376151711744) : ∃ L : Nat, math_bits_Len64 (y : Int) = some (L : Int) ∧ (L = 55 ∧ y < 36028797018963968 ∨ L = 56 ∧ 36028797018963968 ≤ y ∧ y < 72057594037927936 ∨ L = 57 ∧ 72057594037927936 ≤ y ∧ y < 144115188075855872 ∨ L = 58 ∧ 144115188075855872 ≤ y) := by
  unfold math_bits_Len64
  have e1 : V.shr .u64 (y : Int) 32 = some ((y / 4294967296 : Nat) : Int) := shr_eq y 32 (by omega)
  have e2 : V.shr .u64 ((y / 4294967296 : Nat) : Int) 16 = some ((y / 4294967296 / 65536 : Nat) : Int) := shr_eq _ 16 (by omega)
  rw [if_pos (by simp only [decide_eq_true_eq]; omega), e1]
  simp only [Option.bind_some]
  rw [if_pos (by simp only [decide_eq_true_eq]; omega), e2]
  simp only [Option.bind_some]
  by_cases hc : y / 4294967296 / 65536 ≥ 256
  · rw [if_pos (by simp only [decide_eq_true_eq]; omega)]
    have e3 : V.shr .u64 ((y / 4294967296 / 65536 : Nat) : Int) 8 = some ((y / 4294967296 / 65536 / 256 : Nat) : Int) := shr_eq _ 8 (by omega)
    obtain ⟨t, g1, g2, g3, g4, g5⟩ := len8 (k := y / 4294967296 / 65536 / 256) (by omega) (by omega)
    rw [e3]
    simp only [Option.bind_some]
    rw [u8_eq (by omega) (by omega), g1]
    simp only [Option.bind_some]
    refine ⟨56 + t, ?_, ?_⟩
    · rw [w_eq (x := (t : Int)) (by omega) (by omega), show i64.wrap (32 + 16) = 48 from rfl, show i64.wrap (48 + 8) = 56 from rfl, w_eq (by omega) (by omega)]
      congr 1
    · rcases (by omega : t = 1 ∨ t = 2 ∨ t = 3 ∨ t = 4 ∨ t = 5 ∨ t = 6 ∨ t = 7 ∨ t = 8) with rfl | rfl | rfl | rfl | rfl | rfl | rfl | rfl <;> simp only [Nat.reducePow, Nat.reduceSub] at g4 g5 <;> omega
  · rw [if_neg (by simp only [decide_eq_true_eq]; omega)]
    obtain ⟨t, g1, g2, g3, g4, g5⟩ := len8 (k := y / 4294967296 / 65536) (by omega) (by omega)
    rw [u8_eq (by omega) (by omega), g1]
    simp only [Option.bind_some]
    refine ⟨48 + t, ?_, ?_⟩
    · rw [w_eq (x := (t : Int)) (by omega) (by omega), show i64.wrap (32 + 16) = 48 from rfl, w_eq (by omega) (by omega)]
      congr 1
    · rcases (by omega : t = 1 ∨ t = 2 ∨ t = 3 ∨ t = 4 ∨ t = 5 ∨ t = 6 ∨ t = 7 ∨ t = 8) with rfl | rfl | rfl | rfl | rfl | rfl | rfl | rfl <;> simp only [Nat.reducePow, Nat.reduceSub] at g4 g5 <;> omega

end Go.Proofs.YtbkdglcedgiogaaGreat.M

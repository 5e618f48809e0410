/- Plain law: the library's quotient of 128 bits. Own work. -/
import Derived.Test.YtbkdglcedgiogaaGreatPBits
namespace Go.Proofs.YtbkdglcedgiogaaGreat.M
open Go Go.Proofs Go.Proofs.YtbkdglcedgiogaaGreat.V
open Go.IntKind (i64)
set_option linter.unusedVariables false
set_option maxRecDepth 20000
set_option maxHeartbeats 4000000


theorem quo_nat {a b : Nat} (hb : 0 < b) : V.quo (a : Int) (b : Int) = some ((a / b : Nat) : Int) := by
  unfold V.quo
  rw [if_neg (by omega)]
  congr 1
/-- So much is left. -/
theorem wrap_left {a b c r : Int} (hr : a + b - c = r) (h0 : 0 ≤ r) (h1 : r < 18446744073709551616) : IntKind.u64.wrap (IntKind.u64.wrap (IntKind.u64.wrap a + b) - IntKind.u64.wrap c) = r := by
  rw [IntKind.wrap_u64, IntKind.wrap_u64, IntKind.wrap_u64, IntKind.wrap_u64]
  omega
theorem l1_eq {Y y1 y0 u u1 : Nat} (hY : Y < 18446744073709551616) (hy1 : y1 = Y / 4294967296) (hy0 : y0 = Y % 4294967296) (h1 : 2147483648 ≤ y1) (hu1 : u1 < 4294967296) (hu : u < Y) :
    math_bits_Div64.l1 (Y : Int) (y1 : Int) (u1 : Int) FU ((u / y1 : Nat) : Int) ((u % y1 : Nat) : Int) = some (((u * 4294967296 + u1) / Y : Nat) : Int) := by
  have hYe : y1 * 4294967296 + y0 = Y := by omega
  have ha : V.bAnd .u64 (Y : Int) 4294967295 = (y0 : Int) := by rw [hy0]; exact and32 hY
  rw [← hYe] at hu
  have := knuth (F := fun n q r => math_bits_Div64.l1 (Y : Int) (y1 : Int) (u1 : Int) n q r) h1 (by omega) (by omega : y0 < 4294967296) hu1 hu (fun n q r b1 b2 b3 => by
      have hq : q * y0 ≤ 4294967297 * 4294967295 := Nat.mul_le_mul b1 (by omega)
      rw [math_bits_Div64.l1, ha]
      rw [show (q : Int) * (y0 : Int) = ((q * y0 : Nat) : Int) by push_cast; rfl]
      generalize q * y0 = z at *
      rw [u_eq (x := ((z : Nat) : Int)) (by omega) (by omega), u_eq (x := 4294967296 * (r : Int)) (by omega) (by omega), u_eq (x := 4294967296 * (r : Int) + (u1 : Int)) (by omega) (by omega), u_eq (x := (r : Int) + (y1 : Int)) (by omega) (by omega), u_eq (x := (q : Int) - 1) (by omega) (by omega)]
      have e1 : ((decide ((q : Int) ≥ 4294967296)) || (decide ((z : Int) > 4294967296 * (r : Int) + (u1 : Int)))) = decide (q ≥ 4294967296 ∨ z > 4294967296 * r + u1) := by
        rw [Bool.eq_iff_iff]; simp only [Bool.or_eq_true, decide_eq_true_eq]; omega
      rw [e1, show (q : Int) - 1 = ((q - 1 : Nat) : Int) by omega, show (r : Int) + (y1 : Int) = ((r + y1 : Nat) : Int) by omega]
      by_cases hc : q ≥ 4294967296 ∨ z > 4294967296 * r + u1
      · rw [if_pos (by simpa using hc), if_pos hc]
        by_cases hd : r + y1 ≥ 4294967296
        · rw [if_pos (by simp only [decide_eq_true_eq]; omega), if_pos hd]
        · rw [if_neg (by simp only [decide_eq_true_eq]; omega), if_neg hd]
      · rw [if_neg (by simpa using hc), if_neg hc]) (fun n r => by
      rw [math_bits_Div64.l1, ha, Int.zero_mul, show IntKind.u64.wrap 0 = 0 from rfl, if_neg]
      have := (show 0 ≤ IntKind.u64.wrap (IntKind.u64.wrap (4294967296 * (r : Int)) + (u1 : Int)) by rw [IntKind.wrap_u64]; omega)
      simp only [Bool.or_eq_true, decide_eq_true_eq]
      omega)
  rw [hYe] at this
  exact this
theorem l2_eq {Y y1 y0 u L u1 : Nat} (hY : Y < 18446744073709551616) (hy1 : y1 = Y / 4294967296) (hy0 : y0 = Y % 4294967296) (h1 : 2147483648 ≤ y1) (hL : L < 18446744073709551616) (hu1 : u1 = L % 4294967296) (hu : u < Y) :
    math_bits_Div64.l2 (Y : Int) (y1 : Int) (L : Int) FU ((u % y1 : Nat) : Int) ((u / y1 : Nat) : Int) = some (((u * 4294967296 + u1) / Y : Nat) : Int) := by
  have hYe : y1 * 4294967296 + y0 = Y := by omega
  have ha : V.bAnd .u64 (Y : Int) 4294967295 = (y0 : Int) := by rw [hy0]; exact and32 hY
  have hb : V.bAnd .u64 (L : Int) 4294967295 = (u1 : Int) := by rw [hu1]; exact and32 hL
  rw [← hYe] at hu
  have := knuth (F := fun n q r => math_bits_Div64.l2 (Y : Int) (y1 : Int) (L : Int) n r q) h1 (by omega) (by omega : y0 < 4294967296) (by omega : u1 < 4294967296) hu (fun n q r b1 b2 b3 => by
      have hq : q * y0 ≤ 4294967297 * 4294967295 := Nat.mul_le_mul b1 (by omega)
      rw [math_bits_Div64.l2, ha, hb]
      rw [show (q : Int) * (y0 : Int) = ((q * y0 : Nat) : Int) by push_cast; rfl]
      generalize q * y0 = z at *
      rw [u_eq (x := ((z : Nat) : Int)) (by omega) (by omega), u_eq (x := 4294967296 * (r : Int)) (by omega) (by omega), u_eq (x := 4294967296 * (r : Int) + (u1 : Int)) (by omega) (by omega), u_eq (x := (r : Int) + (y1 : Int)) (by omega) (by omega), u_eq (x := (q : Int) - 1) (by omega) (by omega)]
      have e1 : ((decide ((q : Int) ≥ 4294967296)) || (decide ((z : Int) > 4294967296 * (r : Int) + (u1 : Int)))) = decide (q ≥ 4294967296 ∨ z > 4294967296 * r + u1) := by
        rw [Bool.eq_iff_iff]; simp only [Bool.or_eq_true, decide_eq_true_eq]; omega
      rw [e1, show (q : Int) - 1 = ((q - 1 : Nat) : Int) by omega, show (r : Int) + (y1 : Int) = ((r + y1 : Nat) : Int) by omega]
      by_cases hc : q ≥ 4294967296 ∨ z > 4294967296 * r + u1
      · rw [if_pos (by simpa using hc), if_pos hc]
        by_cases hd : r + y1 ≥ 4294967296
        · rw [if_pos (by simp only [decide_eq_true_eq]; omega), if_pos hd]
        · rw [if_neg (by simp only [decide_eq_true_eq]; omega), if_neg hd]
      · rw [if_neg (by simpa using hc), if_neg hc]) (fun n r => by
      rw [math_bits_Div64.l2, ha, hb, Int.zero_mul, show IntKind.u64.wrap 0 = 0 from rfl, if_neg]
      have := (show 0 ≤ IntKind.u64.wrap (IntKind.u64.wrap (4294967296 * (r : Int)) + (u1 : Int)) by rw [IntKind.wrap_u64]; omega)
      simp only [Bool.or_eq_true, decide_eq_true_eq]
      omega)
  rw [hYe] at this
  exact this

theorem two_sum {U u un1 un0 z r : Nat} (hU : U = u * 18446744073709551616 + un1 * 4294967296 + un0) (h : z + r = u * 4294967296 + un1) : U = r * 4294967296 + un0 + z * 4294967296 := by
  have e1 : U = (u * 4294967296 + un1) * 4294967296 + un0 := by
    rw [hU, Nat.add_mul, Nat.mul_assoc]
  rw [e1, ← h, Nat.add_mul, Nat.add_assoc, Nat.add_comm]
/-- Two digits of a quotient. -/
theorem two_digits {U Y u un1 un0 : Nat} (hU : U = u * 18446744073709551616 + un1 * 4294967296 + un0) (hY : 0 < Y) : U / Y = (u * 4294967296 + un1) / Y * 4294967296 + ((u * 4294967296 + un1) % Y * 4294967296 + un0) / Y := by
  have e := two_sum hU (Nat.div_add_mod (u * 4294967296 + un1) Y)
  rw [Nat.mul_assoc] at e
  rw [e, Nat.add_mul_div_left _ _ hY, Nat.add_comm]

/-- The quotient, behind the shift. -/
theorem div_core {u Y L r : Nat} (hY : 9223372036854775808 ≤ Y) (hY2 : Y < 18446744073709551616) (hu : u < Y) (hL : L < 18446744073709551616) (hr : r ≤ 64) {k : Int → Int → Option (Int × Int)} :
    ((V.shr .u64 (Y : Int) (32 : Int)).bind fun v4 => (V.shr .u64 (L : Int) (32 : Int)).bind fun v8 => (V.quo (u : Int) v4).bind fun v9 =>
    (math_bits_Div64.l1 (Y : Int) v4 v8 FU (IntKind.u64.wrap v9) (IntKind.u64.wrap ((u : Int) - (IntKind.u64.wrap ((IntKind.u64.wrap v9) * v4))))).bind fun q132 =>
    (V.quo (IntKind.u64.wrap ((IntKind.u64.wrap ((IntKind.u64.wrap ((u : Int) * 4294967296)) + v8)) - (IntKind.u64.wrap (q132 * (Y : Int))))) v4).bind fun v10 =>
    (math_bits_Div64.l2 (Y : Int) v4 (L : Int) FU (IntKind.u64.wrap ((IntKind.u64.wrap ((IntKind.u64.wrap ((IntKind.u64.wrap ((u : Int) * 4294967296)) + v8)) - (IntKind.u64.wrap (q132 * (Y : Int))))) - (IntKind.u64.wrap ((IntKind.u64.wrap v10) * v4)))) (IntKind.u64.wrap v10)).bind fun q032 =>
    k q132 q032) = k (((u * 4294967296 + L / 4294967296) / Y : Nat) : Int) (((u * 4294967296 + L / 4294967296) % Y * 4294967296 + L % 4294967296) / Y : Nat) ∧ (u * 4294967296 + L / 4294967296) / Y < 4294967296 ∧ ((u * 4294967296 + L / 4294967296) % Y * 4294967296 + L % 4294967296) / Y < 4294967296 ∧
      (u * 18446744073709551616 + L) / Y = (u * 4294967296 + L / 4294967296) / Y * 4294967296 + ((u * 4294967296 + L / 4294967296) % Y * 4294967296 + L % 4294967296) / Y := by
  obtain ⟨y1, hy1⟩ : ∃ y1, y1 = Y / 4294967296 := ⟨_, rfl⟩
  obtain ⟨un1, hun1⟩ : ∃ un1, un1 = L / 4294967296 := ⟨_, rfl⟩
  obtain ⟨un0, hun0⟩ : ∃ un0, un0 = L % 4294967296 := ⟨_, rfl⟩
  have e4 : V.shr .u64 (Y : Int) 32 = some (y1 : Int) := by rw [hy1]; exact shr_eq Y 32 (by omega)
  have e8 : V.shr .u64 (L : Int) 32 = some (un1 : Int) := by rw [hun1]; exact shr_eq L 32 (by omega)
  have hy1g : 2147483648 ≤ y1 := by omega
  have hy1l : y1 < 4294967296 := by omega
  have left : ∀ a : Nat, a < 18446744073709551616 → IntKind.u64.wrap ((a / y1 : Nat) : Int) = ((a / y1 : Nat) : Int) ∧ IntKind.u64.wrap ((a : Int) - IntKind.u64.wrap (((a / y1 : Nat) : Int) * (y1 : Int))) = ((a % y1 : Nat) : Int) := fun a ha => by
    have h1 := Nat.div_add_mod a y1
    have h2 := Nat.div_le_self a y1
    rw [Nat.mul_comm] at h1
    rw [show ((a / y1 : Nat) : Int) * (y1 : Int) = ((a / y1 * y1 : Nat) : Int) by push_cast; rfl]
    generalize a / y1 * y1 = z at *
    generalize a / y1 = w at *
    generalize a % y1 = x at *
    refine ⟨u_eq (by omega) (by omega), ?_⟩
    rw [u_eq (x := (z : Int)) (by omega) (by omega), u_eq (by omega) (by omega)]
    omega
  rw [e4, e8]
  simp only [Option.bind_some]
  rw [quo_nat (by omega)]
  simp only [Option.bind_some]
  rw [(left u (by omega)).1, (left u (by omega)).2, l1_eq hY2 hy1 rfl hy1g (by omega) hu]
  simp only [Option.bind_some]
  have hd := Nat.div_add_mod (u * 4294967296 + un1) Y
  have hm := Nat.mod_lt (u * 4294967296 + un1) (show 0 < Y by omega)
  have hq1 : (u * 4294967296 + un1) / Y < 4294967296 := by
    rw [Nat.div_lt_iff_lt_mul (by omega)]
    omega
  have htd := two_digits (U := u * 18446744073709551616 + L) (Y := Y) (u := u) (un1 := un1) (un0 := un0) (by omega) (by omega)
  rw [← hun1, ← hun0]
  refine ⟨?_, hq1, by rw [Nat.div_lt_iff_lt_mul (by omega)]; omega, htd⟩
  obtain ⟨q, hq⟩ : ∃ q, (u * 4294967296 + un1) / Y = q := ⟨_, rfl⟩
  obtain ⟨x, hx⟩ : ∃ x, (u * 4294967296 + un1) % Y = x := ⟨_, rfl⟩
  obtain ⟨z, hz⟩ : ∃ z, q * Y = z := ⟨_, rfl⟩
  have hzc : (q : Int) * (Y : Int) = (z : Int) := by rw [← hz, Int.natCast_mul]
  rw [Nat.mul_comm] at hd
  rw [hq, hx, hz] at hd
  rw [hq] at hq1
  rw [hx] at hm
  rw [hq, hx, hzc]
  rw [wrap_left (r := (x : Int)) (by omega) (by omega) (by omega), quo_nat (by omega)]
  simp only [Option.bind_some]
  rw [(left x (by omega)).1, (left x (by omega)).2, l2_eq hY2 hy1 rfl hy1g hL hun0 hm]
  simp only [Option.bind_some]
theorem shr_some (x : Int) (s : Nat) : ∃ z, V.shr .u64 x (s : Int) = some z := by
  unfold V.shr
  rw [if_neg (by omega)]
  exact ⟨_, rfl⟩
theorem div_main {hi lo y s p pp : Nat} (hp : p = 2 ^ s) (hpp : pp = 2 ^ (64 - s)) (hs : s ≤ 9) (hs6 : 6 ≤ s) (hpv : p ≤ 512) (hppv : 0 < pp) (hprod : p * pp = 18446744073709551616) (hyp : 9223372036854775808 ≤ y * p) (hyp2 : y * p < 18446744073709551616) (hlo : lo < 18446744073709551616) (hhi : hi < 1024) (hh0 : 0 < hi) (hy : 18014398509481984 ≤ y) (hL : math_bits_LeadingZeros64 (y : Int) = some (s : Int)) :
    ∃ z, math_bits_Div64 (hi : Int) (lo : Int) (y : Int) = some ((((hi * 18446744073709551616 + lo) / y : Nat) : Int), z) := by
  unfold math_bits_Div64
  rw [if_neg (by simp only [beq_iff_eq]; omega), if_neg (by simp only [decide_eq_true_eq]; omega), if_neg (by simp only [beq_iff_eq]; omega), hL, Option.bind_some]
  have w1 : IntKind.u64.wrap (s : Int) = (s : Int) := u_eq (by omega) (by omega)
  have w2 : IntKind.u64.wrap (64 - IntKind.u64.wrap (s : Int)) = ((64 - s : Nat) : Int) := by rw [w1, u_eq (by omega) (by omega)]; omega
  have hhp : hi * p ≤ 1023 * 512 := Nat.mul_le_mul (by omega) hpv
  have s1 : V.shl .u64 (y : Int) (IntKind.u64.wrap (s : Int)) = some ((y * p : Nat) : Int) := by rw [w1, shl_eq y s (by omega), ← hp, Nat.mod_eq_of_lt hyp2]
  have s2 : V.shl .u64 (hi : Int) (IntKind.u64.wrap (s : Int)) = some ((hi * p : Nat) : Int) := by rw [w1, shl_eq hi s (by omega), ← hp, Nat.mod_eq_of_lt (by omega)]
  have s3 : V.shr .u64 (lo : Int) (IntKind.u64.wrap (64 - IntKind.u64.wrap (s : Int))) = some ((lo / pp : Nat) : Int) := by rw [w2, shr_eq lo (64 - s) (by omega), ← hpp]
  have s4 : V.shl .u64 (lo : Int) (IntKind.u64.wrap (s : Int)) = some ((lo * p % 18446744073709551616 : Nat) : Int) := by rw [w1, shl_eq lo s (by omega), ← hp]
  have hlp : lo / pp < p := by rw [Nat.div_lt_iff_lt_mul hppv, hprod]; exact hlo
  have hp0 : 0 < p := by rw [hp]; exact Nat.two_pow_pos s
  have hu : hi * p + lo / pp < y * p := by omega
  have so : V.bOr .u64 ((hi * p : Nat) : Int) ((lo / pp : Nat) : Int) = ((hi * p + lo / pp : Nat) : Int) := by
    rw [hp]
    exact or_add (by rw [← hp]; omega) (by rw [← hp]; exact hlp) (by omega)
  rw [s1, s2, s3, s4]
  simp only [Option.bind_some]
  rw [so]
  have hc := div_core (u := hi * p + lo / pp) (Y := y * p) (L := lo * p % 18446744073709551616) (r := s) hyp hyp2 hu (Nat.mod_lt _ (by decide)) (by clear so s1 s2 s3 s4; omega) (k := fun q132 q032 => (V.shr .u64 (IntKind.u64.wrap ((IntKind.u64.wrap ((IntKind.u64.wrap ((IntKind.u64.wrap ((IntKind.u64.wrap ((IntKind.u64.wrap (((hi * p + lo / pp : Nat) : Int) * 4294967296)) + ((lo * p % 18446744073709551616 / 4294967296 : Nat) : Int))) - (IntKind.u64.wrap (q132 * ((y * p : Nat) : Int))))) * 4294967296)) + (V.bAnd .u64 ((lo * p % 18446744073709551616 : Nat) : Int) 4294967295))) - (IntKind.u64.wrap (q032 * ((y * p : Nat) : Int))))) (IntKind.u64.wrap (s : Int))).bind fun v11 => some ((IntKind.u64.wrap ((IntKind.u64.wrap (q132 * 4294967296)) + q032)), v11))
  have e8 : V.shr .u64 ((lo * p % 18446744073709551616 : Nat) : Int) 32 = some ((lo * p % 18446744073709551616 / 4294967296 : Nat) : Int) := shr_eq _ 32 (by decide)
  rw [e8] at hc ⊢
  simp only [Option.bind_some] at hc ⊢
  obtain ⟨h1, h2, h3, h4⟩ := hc
  rw [h1]
  have hfin : ((hi * p + lo / pp) * 18446744073709551616 + lo * p % 18446744073709551616) / (y * p) = (hi * 18446744073709551616 + lo) / y := by
    have q1 : lo * p / 18446744073709551616 = lo / pp := by
      rw [← hprod, Nat.mul_comm lo p, Nat.mul_div_mul_left _ _ hp0]
    have q2 := Nat.div_add_mod (lo * p) 18446744073709551616
    rw [q1] at q2
    have q3 : (hi * p + lo / pp) * 18446744073709551616 + lo * p % 18446744073709551616 = (hi * 18446744073709551616 + lo) * p := by
      rw [Nat.add_mul (hi * p) (lo / pp), Nat.add_mul (hi * 18446744073709551616) lo p, Nat.add_assoc, Nat.mul_comm (lo / pp), q2, Nat.mul_right_comm]
    rw [q3, Nat.mul_div_mul_right _ _ hp0]
  rw [hfin] at h4
  rw [h4]
  obtain ⟨q, hq⟩ : ∃ q, ((hi * p + lo / pp) * 4294967296 + lo * p % 18446744073709551616 / 4294967296) / (y * p) = q := ⟨_, rfl⟩
  obtain ⟨w, hw⟩ : ∃ w, (((hi * p + lo / pp) * 4294967296 + lo * p % 18446744073709551616 / 4294967296) % (y * p) * 4294967296 + lo * p % 18446744073709551616 % 4294967296) / (y * p) = w := ⟨_, rfl⟩
  rw [hq] at h2
  rw [hw] at h3
  rw [hq, hw, w1]
  obtain ⟨z, hz⟩ := shr_some (IntKind.u64.wrap ((IntKind.u64.wrap ((IntKind.u64.wrap ((IntKind.u64.wrap ((IntKind.u64.wrap ((IntKind.u64.wrap (((hi * p + lo / pp : Nat) : Int) * 4294967296)) + ((lo * p % 18446744073709551616 / 4294967296 : Nat) : Int))) - (IntKind.u64.wrap ((q : Int) * ((y * p : Nat) : Int))))) * 4294967296)) + (V.bAnd .u64 ((lo * p % 18446744073709551616 : Nat) : Int) 4294967295))) - (IntKind.u64.wrap ((w : Int) * ((y * p : Nat) : Int))))) s
  rw [hz, u_eq (x := (q : Int) * 4294967296) (by omega) (by omega), u_eq (by omega) (by omega)]
  exact ⟨z, by rw [Option.bind_some]; congr 2⟩

/-- A quotient of 128 bits: where the upper half is small. -/
theorem Div_eq {hi lo y : Nat} (hlo : lo < 18446744073709551616) (hhi : hi < 1024) (hy : 0 < hi → 18014398509481984 ≤ y) (hy1 : 1024 ≤ y ∨ hi = 0 ∧ 0 < y) (hy2 : y < 288230376151711744) : ∃ z, math_bits_Div64 (hi : Int) (lo : Int) (y : Int) = some ((((hi * 18446744073709551616 + lo) / y : Nat) : Int), z) := by
  by_cases h0 : hi = 0
  · subst h0
    unfold math_bits_Div64
    rw [if_neg (by simp only [beq_iff_eq]; omega), if_neg (by simp only [decide_eq_true_eq]; omega), if_pos (show (((0 : Nat) : Int) == 0) = true from rfl), quo_nat (by omega)]
    have hd := Nat.div_le_self lo y
    obtain ⟨z, hz⟩ : ∃ z, V.rem (lo : Int) (y : Int) = some z := by unfold V.rem; rw [if_neg (by omega)]; exact ⟨_, rfl⟩
    rw [hz]
    simp only [Option.bind_some]
    rw [show 0 * 18446744073709551616 + lo = lo by omega]
    obtain ⟨q, hq⟩ : ∃ q, lo / y = q := ⟨_, rfl⟩
    rw [hq] at hd ⊢
    rw [u_eq (by omega) (by omega)]
    exact ⟨z, rfl⟩
  · have hy := hy (by omega)
    obtain ⟨L, hL, hc⟩ := Len_eq hy hy2
    have hlz : ∀ s : Nat, L + s = 64 → math_bits_LeadingZeros64 (y : Int) = some (s : Int) := fun s hs => by
      unfold math_bits_LeadingZeros64
      rw [hL, Option.bind_some, w_eq (by omega) (by omega)]
      congr 1; omega
    rcases hc with ⟨e, c⟩ | ⟨e, c, d⟩ | ⟨e, c, d⟩ | ⟨e, c⟩
    · exact div_main (s := 9) (p := 512) (pp := 36028797018963968) rfl rfl (by omega) (by omega) (by omega) (by omega) rfl (by omega) (by omega) hlo hhi (by omega) hy (hlz 9 (by omega))
    · exact div_main (s := 8) (p := 256) (pp := 72057594037927936) rfl rfl (by omega) (by omega) (by omega) (by omega) rfl (by omega) (by omega) hlo hhi (by omega) hy (hlz 8 (by omega))
    · exact div_main (s := 7) (p := 128) (pp := 144115188075855872) rfl rfl (by omega) (by omega) (by omega) (by omega) rfl (by omega) (by omega) hlo hhi (by omega) hy (hlz 7 (by omega))
    · exact div_main (s := 6) (p := 64) (pp := 288230376151711744) rfl rfl (by omega) (by omega) (by omega) (by omega) rfl (by omega) (by omega) hlo hhi (by omega) hy (hlz 6 (by omega))

/-! thousandths -/
def partN (has needs : Nat) : Nat := if has = 0 ∨ needs ≥ has then 0 else (has - needs) * 1000 / has
theorem partN_le (has needs : Nat) : partN has needs ≤ 1000 := by
  unfold partN
  split
  · omega
  · rename_i h
    have : (has - needs) * 1000 / has < 1001 := by
      rw [Nat.div_lt_iff_lt_mul (by omega)]
      omega
    omega
theorem part_P {has needs : Nat} (h1 : has < 288230376151711744) (h2 : needs < 288230376151711744) : option_part (has : Int) (needs : Int) = some ((partN has needs : Nat) : Int) := by
  have hle := partN_le has needs
  unfold option_part
  by_cases h : has = 0 ∨ needs ≥ has
  · rw [if_pos (by simp only [Bool.or_eq_true, decide_eq_true_eq]; omega)]
    unfold partN; rw [if_pos h]; rfl
  · rw [if_neg (by simp only [Bool.or_eq_true, decide_eq_true_eq]; omega)]
    obtain ⟨r, hr⟩ : ∃ r, r = has - needs := ⟨_, rfl⟩
    rw [show (has : Int) - (needs : Int) = (r : Int) by omega, w_eq (by omega) (by omega), u_eq (by omega) (by omega), Mul1000 (by omega), Option.bind_some, u_eq (by omega) (by omega)]
    obtain ⟨z, hz⟩ := Div_eq (hi := r * 1000 / 18446744073709551616) (lo := r * 1000 % 18446744073709551616) (y := has) (by omega) (by omega) (by omega) (by omega) h1
    simp only
    rw [hz, Option.bind_some]
    unfold partN at hle ⊢
    rw [if_neg h, ← hr] at hle ⊢
    rw [show r * 1000 / 18446744073709551616 * 18446744073709551616 + r * 1000 % 18446744073709551616 = r * 1000 by omega]
    obtain ⟨q, hq⟩ : ∃ q, r * 1000 / has = q := ⟨_, rfl⟩
    rw [hq] at hle ⊢
    simp only
    rw [w_eq (by omega) (by omega)]
end Go.Proofs.YtbkdglcedgiogaaGreat.M

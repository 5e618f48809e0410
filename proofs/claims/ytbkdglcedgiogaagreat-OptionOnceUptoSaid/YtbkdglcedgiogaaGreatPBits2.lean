/-
  Printed by a program of this session out of the loaded functions: models and their proofs. Own text.
-/
import Derived.Test.YtbkdglcedgiogaaGreatPTot2
/-
  Plain laws: what the document's check of a yard says of it. Own text.
-/
namespace Go.Proofs.YtbkdglcedgiogaaGreat.M
open Go Go.Proofs Go.Proofs.YtbkdglcedgiogaaGreat.V
set_option linter.unusedVariables false

/-- The first place of something, or -1. -/
def firstAt (len : Nat) (p : Nat → Prop) (r : Int) : Prop := (∃ k : Nat, r = (k : Int) ∧ k < len ∧ p k ∧ ∀ j, j < k → ¬ p j) ∨ (r = -1 ∧ ∀ j, j < len → ¬ p j)

theorem loopF {F : Nat → Int → Option (Out Int Unit)} {len : Nat} {p : Nat → Prop} (hl : len < 1000000000000)
    (hs : ∀ n (k : Nat), k < len → (F (n + 1) (k : Int) = some (Out.ret (k : Int)) ∧ p k) ∨ (F (n + 1) (k : Int) = F n ((k + 1 : Nat) : Int) ∧ ¬ p k))
    (he : ∀ n, F (n + 1) (len : Int) = some (Out.go ())) : ∃ r, ((F FU 0).bind fun o => o.on fun _ => some (-1 : Int)) = some r ∧ firstAt len p r := by
  have key : ∀ (m k f : Nat), len - k ≤ m → m < f → k ≤ len → (∃ q : Nat, F f (k : Int) = some (Out.ret (q : Int)) ∧ k ≤ q ∧ q < len ∧ p q ∧ ∀ j, k ≤ j → j < q → ¬ p j) ∨ (F f (k : Int) = some (Out.go ()) ∧ ∀ j, k ≤ j → j < len → ¬ p j) := by
    intro m
    induction m with
    | zero =>
      intro k f h1 h2 h3
      obtain ⟨f, rfl⟩ : ∃ q, f = q + 1 := ⟨f - 1, by omega⟩
      obtain rfl : k = len := by omega
      exact .inr ⟨he f, fun j h4 h5 => by omega⟩
    | succ m ih =>
      intro k f h1 h2 h3
      obtain ⟨f, rfl⟩ : ∃ q, f = q + 1 := ⟨f - 1, by omega⟩
      by_cases hk : k < len
      · rcases hs f k hk with ⟨h4, h5⟩ | ⟨h4, h5⟩
        · exact .inl ⟨k, h4, Nat.le_refl _, hk, h5, fun j a b => by omega⟩
        · rw [h4]
          rcases ih (k + 1) f (by omega) (by omega) (by omega) with ⟨q, a, b, c, d, e⟩ | ⟨h6, h7⟩
          · exact .inl ⟨q, a, by omega, c, d, fun j x y => by
              by_cases ee : j = k
              · subst ee; exact h5
              · exact e j (by omega) y⟩
          · exact .inr ⟨h6, fun j x y => by
              by_cases ee : j = k
              · subst ee; exact h5
              · exact h7 j (by omega) y⟩
      · obtain rfl : k = len := by omega
        exact .inr ⟨he f, fun j h4 h5 => by omega⟩
  rcases key len 0 FU (by omega) (by unfold FU; omega) (Nat.zero_le _) with ⟨q, a, b, c, d, e⟩ | ⟨h1, h2⟩
  · have a' : F FU 0 = some (Out.ret (q : Int)) := a
    exact ⟨(q : Int), by rw [a']; rfl, .inl ⟨q, rfl, c, d, fun j hj => e j (Nat.zero_le _) hj⟩⟩
  · have a' : F FU 0 = some (Out.go ()) := h1
    exact ⟨-1, by rw [a']; rfl, .inr ⟨rfl, fun j hj => h2 j (Nat.zero_le _) hj⟩⟩

theorem Find9_eq (ms : List T_api_Machine) (name : ByteArray) (hl : ms.length < 1000000000000) : ∃ r, ref09_Find ms name = some r ∧ firstAt ms.length (fun k => ∃ h : k < ms.length, ms[k].Name = name) r := by
  unfold ref09_Find
  refine loopF (F := fun n i => ref09_Find.l1 ms name n i) hl (fun n k hk => ?_) (fun n => by rw [ref09_Find.l1, if_neg dnl])
  rw [ref09_Find.l1, if_pos (dlt hk), glk hk, wk1 (by omega)]
  simp only [Option.bind_some, seq_eq]
  by_cases h : ms[k].Name = name
  · rw [if_pos (by simpa using h)]; exact .inl ⟨rfl, hk, h⟩
  · rw [if_neg (by simpa using h)]; exact .inr ⟨rfl, fun ⟨_, h'⟩ => h h'⟩
theorem Place9_eq (bs : List T_api_Bound) (name : ByteArray) (hl : bs.length < 1000000000000) : ∃ r, ref09_Place bs name = some r ∧ firstAt bs.length (fun k => ∃ h : k < bs.length, bs[k].Pod.Name = name) r := by
  unfold ref09_Place
  refine loopF (F := fun n i => ref09_Place.l1 bs name n i) hl (fun n k hk => ?_) (fun n => by rw [ref09_Place.l1, if_neg dnl])
  rw [ref09_Place.l1, if_pos (dlt hk), glk hk, wk1 (by omega)]
  simp only [Option.bind_some, seq_eq]
  by_cases h : bs[k].Pod.Name = name
  · rw [if_pos (by simpa using h)]; exact .inl ⟨rfl, hk, h⟩
  · rw [if_neg (by simpa using h)]; exact .inr ⟨rfl, fun ⟨_, h'⟩ => h h'⟩

/-- A right yard. -/
structure RY (ms : List T_api_Machine) (bs : List T_api_Bound) : Prop where
  rm : ∀ k (h : k < ms.length), ms[k].Name ≠ ⟨#[]⟩ ∧ ref07_RightMachine ms[k] = some true
  rb : ∀ k (h : k < bs.length), ref07_RightPod bs[k].Pod = some true
  mu : ∀ j k (h : j < ms.length) (h' : k < ms.length), ms[j].Name = ms[k].Name → j = k
  bu : ∀ j k (h : j < bs.length) (h' : k < bs.length), bs[j].Pod.Name = bs[k].Pod.Name → j = k
  on : ∀ k (h : k < bs.length), bs[k].On ≠ ⟨#[]⟩ → ∃ j, ∃ h' : j < ms.length, ms[j].Name = bs[k].On

theorem first_self {len : Nat} {p : Nat → Nat → Prop} {k : Nat} {r : Int} (hk : k < len) (hp : p k k) (h : firstAt len (fun j => p j k) r) : (r = (k : Int) ∧ ∀ j, j < k → ¬ p j k) ∨ (r ≠ (k : Int)) := by
  rcases h with ⟨q, rfl, h1, h2, h3⟩ | ⟨rfl, h1⟩
  · by_cases e : q = k
    · subst e; exact .inl ⟨rfl, h3⟩
    · exact .inr (by omega)
  · exact absurd hp (h1 k hk)

theorem Check9_eq {ms : List T_api_Machine} {bs : List T_api_Bound} (hy : LY ms bs) : ∃ r, ref09_Check ms bs = some r ∧ (r = 0 → RY ms bs) := by
  have hnm := hy.nm
  have hnb := hy.nb
  unfold ref09_Check
  rw [if_neg (by simp; omega)]
  rcases loopI (F := fun n i => ref09_Check.l1 ms n i) (Q := fun r => r = 12) (S := fun k => ∀ h : k < ms.length, ms[k].Name ≠ ⟨#[]⟩ ∧ ref07_RightMachine ms[k] = some true) (len := ms.length) (by omega) (fun n k hk => by
      rw [ref09_Check.l1, if_pos (dlt hk), glk hk, wk1 (by omega)]
      simp only [Option.bind_some, seq_eq]
      obtain ⟨b, hb⟩ := RMach_tot (hy.ms k hk)
      by_cases h : ms[k].Name = ⟨#[]⟩
      · rw [if_pos (by simpa using h)]; exact .inl ⟨12, rfl, rfl⟩
      · rw [if_neg (by simpa using h), hb]
        cases b with
        | false => exact .inl ⟨12, rfl, rfl⟩
        | true => exact .inr ⟨rfl, fun _ => ⟨h, hb⟩⟩) (fun n => by rw [ref09_Check.l1, if_neg dnl]) with ⟨r, h1, rfl⟩ | ⟨h1, g1⟩
  · rw [h1]; exact ⟨12, rfl, fun h => absurd h (by decide)⟩
  rw [h1]
  simp only [Option.bind_some, Out.on]
  rcases loopI (F := fun n i => ref09_Check.l2 bs n i) (Q := fun r => r = 12) (S := fun k => ∀ h : k < bs.length, ref07_RightPod bs[k].Pod = some true) (len := bs.length) (by omega) (fun n k hk => by
      rw [ref09_Check.l2, if_pos (dlt hk), glk hk, wk1 (by omega)]
      simp only [Option.bind_some]
      obtain ⟨b, hb⟩ := RPod_tot (hy.bs k hk).1
      rw [hb]
      cases b with
      | false => exact .inl ⟨12, rfl, rfl⟩
      | true => exact .inr ⟨rfl, fun _ => hb⟩) (fun n => by rw [ref09_Check.l2, if_neg dnl]) with ⟨r, h2, rfl⟩ | ⟨h2, g2⟩
  · rw [h2]; exact ⟨12, rfl, fun h => absurd h (by decide)⟩
  rw [h2]
  simp only [Option.bind_some]
  rcases loopI (F := fun n i => ref09_Check.l3 ms n i) (Q := fun r => r = 15) (S := fun k => ∀ h : k < ms.length, ∀ j (h' : j < ms.length), j < k → ms[j].Name ≠ ms[k].Name) (len := ms.length) (by omega) (fun n k hk => by
      rw [ref09_Check.l3, if_pos (dlt hk), glk hk, wk1 (by omega)]
      simp only [Option.bind_some]
      obtain ⟨r, hr, hf⟩ := Find9_eq ms ms[k].Name (by omega)
      rw [hr]
      simp only [Option.bind_some]
      rcases first_self (p := fun j k => ∃ (h : j < ms.length) (h' : k < ms.length), ms[j].Name = ms[k].Name) hk ⟨hk, hk, rfl⟩ (by
        refine (show firstAt ms.length _ r → firstAt ms.length _ r from fun h => ?_) hf
        rcases h with ⟨q, a, b, ⟨c, d⟩, e⟩ | ⟨a, b⟩
        · exact .inl ⟨q, a, b, ⟨c, hk, d⟩, fun j hj ⟨x, _, y⟩ => e j hj ⟨x, y⟩⟩
        · exact .inr ⟨a, fun j hj ⟨x, _, y⟩ => b j hj ⟨x, y⟩⟩) with ⟨rfl, h⟩ | h
      · rw [if_neg (by simp)]; exact .inr ⟨rfl, fun _ j hj hjk e => h j hjk ⟨hj, hk, e⟩⟩
      · rw [if_pos (by simpa using h)]; exact .inl ⟨15, rfl, rfl⟩) (fun n => by rw [ref09_Check.l3, if_neg dnl]) with ⟨r, h3, rfl⟩ | ⟨h3, g3⟩
  · rw [h3]; exact ⟨15, rfl, fun h => absurd h (by decide)⟩
  rw [h3]
  simp only [Option.bind_some]
  rcases loopI (F := fun n i => ref09_Check.l4 bs n i) (Q := fun r => r = 15) (S := fun k => ∀ h : k < bs.length, ∀ j (h' : j < bs.length), j < k → bs[j].Pod.Name ≠ bs[k].Pod.Name) (len := bs.length) (by omega) (fun n k hk => by
      rw [ref09_Check.l4, if_pos (dlt hk), glk hk, wk1 (by omega)]
      simp only [Option.bind_some]
      obtain ⟨r, hr, hf⟩ := Place9_eq bs bs[k].Pod.Name (by omega)
      rw [hr]
      simp only [Option.bind_some]
      rcases first_self (p := fun j k => ∃ (h : j < bs.length) (h' : k < bs.length), bs[j].Pod.Name = bs[k].Pod.Name) hk ⟨hk, hk, rfl⟩ (by
        refine (show firstAt bs.length _ r → firstAt bs.length _ r from fun h => ?_) hf
        rcases h with ⟨q, a, b, ⟨c, d⟩, e⟩ | ⟨a, b⟩
        · exact .inl ⟨q, a, b, ⟨c, hk, d⟩, fun j hj ⟨x, _, y⟩ => e j hj ⟨x, y⟩⟩
        · exact .inr ⟨a, fun j hj ⟨x, _, y⟩ => b j hj ⟨x, y⟩⟩) with ⟨rfl, h⟩ | h
      · rw [if_neg (by simp)]; exact .inr ⟨rfl, fun _ j hj hjk e => h j hjk ⟨hj, hk, e⟩⟩
      · rw [if_pos (by simpa using h)]; exact .inl ⟨15, rfl, rfl⟩) (fun n => by rw [ref09_Check.l4, if_neg dnl]) with ⟨r, h4, rfl⟩ | ⟨h4, g4⟩
  · rw [h4]; exact ⟨15, rfl, fun h => absurd h (by decide)⟩
  rw [h4]
  simp only [Option.bind_some]
  rcases loopI (F := fun n i => ref09_Check.l5 ms bs n i) (Q := fun r => r = 16) (S := fun k => ∀ h : k < bs.length, bs[k].On ≠ ⟨#[]⟩ → ∃ j, ∃ h' : j < ms.length, ms[j].Name = bs[k].On) (len := bs.length) (by omega) (fun n k hk => by
      rw [ref09_Check.l5, if_pos (dlt hk), glk hk, wk1 (by omega)]
      simp only [Option.bind_some, seq_eq]
      obtain ⟨r, hr, hf⟩ := Find9_eq ms bs[k].On (by omega)
      by_cases h : bs[k].On = ⟨#[]⟩
      · rw [if_neg (by simpa using h)]; exact .inr ⟨rfl, fun _ h' => absurd h h'⟩
      · rw [if_pos (by simpa using h), hr]
        simp only [Option.bind_some]
        rcases hf with ⟨q, rfl, b, ⟨c, d⟩, e⟩ | ⟨rfl, b⟩
        · rw [if_neg (by simp)]; exact .inr ⟨rfl, fun _ _ => ⟨q, c, d⟩⟩
        · exact .inl ⟨16, rfl, rfl⟩) (fun n => by rw [ref09_Check.l5, if_neg dnl]) with ⟨r, h5, rfl⟩ | ⟨h5, g5⟩
  · rw [h5]; exact ⟨16, rfl, fun h => absurd h (by decide)⟩
  rw [h5]
  refine ⟨0, rfl, fun _ => ⟨fun k hk => g1 k hk hk, fun k hk => g2 k hk hk, fun j k hj hk e => ?_, fun j k hj hk e => ?_, fun k hk => g5 k hk hk⟩⟩
  · by_cases h1 : j < k
    · exact absurd e (g3 k hk hk j hj h1)
    · by_cases h2 : k < j
      · exact absurd e.symm (g3 j hj hj k hk h2)
      · omega
  · by_cases h1 : j < k
    · exact absurd e (g4 k hk hk j hj h1)
    · by_cases h2 : k < j
      · exact absurd e.symm (g4 j hj hj k hk h2)
      · omega
end Go.Proofs.YtbkdglcedgiogaaGreat.M
/- Plain law: the library's product and quotient of 128 bits, and how many thousandths are not needed. Own work. -/
namespace Go.Proofs.YtbkdglcedgiogaaGreat.M
open Go Go.Proofs Go.Proofs.YtbkdglcedgiogaaGreat.V
open Go.IntKind (i64)
set_option linter.unusedVariables false
set_option maxRecDepth 20000
set_option maxHeartbeats 4000000

theorem u_eq {x : Int} (h1 : 0 ≤ x) (h2 : x < 18446744073709551616) : IntKind.u64.wrap x = x := by rw [IntKind.wrap_u64]; omega
theorem u8_eq {x : Int} (h1 : 0 ≤ x) (h2 : x < 256) : IntKind.u8.wrap x = x := by rw [show IntKind.u8.wrap x = x % 256 from rfl]; omega
theorem and32 {x : Nat} (h : x < 18446744073709551616) : V.bAnd .u64 (x : Int) 4294967295 = ((x % 4294967296 : Nat) : Int) := by
  unfold V.bAnd
  have e1 : BitVec.ofInt IntKind.u64.bits (x : Int) = BitVec.ofNat 64 x := by
    show BitVec.ofInt 64 (x : Int) = _
    exact BitVec.ofInt_natCast 64 x
  have e2 : BitVec.ofInt IntKind.u64.bits (4294967295 : Int) = BitVec.ofNat 64 4294967295 := rfl
  rw [e1, e2]
  have e3 : (BitVec.ofNat 64 x &&& BitVec.ofNat 64 4294967295).toNat = x % 4294967296 := by
    rw [BitVec.toNat_and, BitVec.toNat_ofNat, BitVec.toNat_ofNat, Nat.mod_eq_of_lt (by omega : x < 2 ^ 64)]
    exact Nat.and_two_pow_sub_one_eq_mod x 32
  show IntKind.u64.wrap ((BitVec.ofNat 64 x &&& BitVec.ofNat 64 4294967295).toNat : Int) = _
  rw [e3, u_eq (by omega) (by omega)]
theorem or_add {a b s : Nat} (h1 : a * 2 ^ s < 18446744073709551616) (h2 : b < 2 ^ s) (hs : s < 64) : V.bOr .u64 ((a * 2 ^ s : Nat) : Int) (b : Int) = ((a * 2 ^ s + b : Nat) : Int) := by
  unfold V.bOr
  have hb : b < 18446744073709551616 := Nat.lt_trans h2 (Nat.lt_of_lt_of_le (Nat.pow_lt_pow_right (by omega) hs) (by decide))
  have e1 : BitVec.ofInt IntKind.u64.bits ((a * 2 ^ s : Nat) : Int) = BitVec.ofNat 64 (a * 2 ^ s) := BitVec.ofInt_natCast 64 _
  have e2 : BitVec.ofInt IntKind.u64.bits (b : Int) = BitVec.ofNat 64 b := BitVec.ofInt_natCast 64 _
  rw [e1, e2]
  have e3 : (BitVec.ofNat 64 (a * 2 ^ s) ||| BitVec.ofNat 64 b).toNat = a * 2 ^ s + b := by
    rw [BitVec.toNat_or, BitVec.toNat_ofNat, BitVec.toNat_ofNat, Nat.mod_eq_of_lt (by omega : a * 2 ^ s < 2 ^ 64), Nat.mod_eq_of_lt (by omega : b < 2 ^ 64)]
    have := Nat.shiftLeft_add_eq_or_of_lt h2 a
    rw [Nat.shiftLeft_eq] at this
    exact this.symm
  show IntKind.u64.wrap ((BitVec.ofNat 64 (a * 2 ^ s) ||| BitVec.ofNat 64 b).toNat : Int) = _
  rw [e3]
  have hlt : a * 2 ^ s + b < 18446744073709551616 := by
    rw [← e3]; exact (BitVec.ofNat 64 (a * 2 ^ s) ||| BitVec.ofNat 64 b).isLt
  rw [u_eq (by omega) (by omega)]
theorem shr_eq (x : Nat) (s : Nat) (hs : s ≤ 64) : V.shr .u64 (x : Int) (s : Int) = some ((x / 2 ^ s : Nat) : Int) := by
  unfold V.shr
  rw [if_neg (by omega), Int.toNat_natCast, show min s IntKind.u64.bits = s by show min s 64 = s; omega]
  congr 1
  rw [Int.fdiv_eq_ediv_of_nonneg _ (by exact Int.le_of_lt (Int.pow_pos (by omega)))]
  push_cast
  rfl
theorem shl_eq (x : Nat) (s : Nat) (hs : s ≤ 64) : V.shl .u64 (x : Int) (s : Int) = some (((x * 2 ^ s) % 18446744073709551616 : Nat) : Int) := by
  unfold V.shl
  rw [if_neg (by omega), Int.toNat_natCast, show min s IntKind.u64.bits = s by show min s 64 = s; omega]
  congr 1

theorem Mul1000 {x : Nat} (h : x < 9223372036854775808) : math_bits_Mul64 (x : Int) 1000 = some (((x * 1000 / 18446744073709551616 : Nat) : Int), ((x * 1000 % 18446744073709551616 : Nat) : Int)) := by
  unfold math_bits_Mul64
  obtain ⟨x1, hx1⟩ : ∃ x1, x1 = x / 4294967296 := ⟨_, rfl⟩
  obtain ⟨x0, hx0⟩ : ∃ x0, x0 = x % 4294967296 := ⟨_, rfl⟩
  have e1 : V.shr .u64 (x : Int) 32 = some (x1 : Int) := by rw [hx1]; exact shr_eq x 32 (by omega)
  have e2 : V.shr .u64 1000 32 = some 0 := rfl
  have a1 : V.bAnd .u64 (x : Int) 4294967295 = (x0 : Int) := by rw [hx0]; exact and32 (by omega)
  have a2 : V.bAnd .u64 1000 4294967295 = 1000 := rfl
  rw [e1, e2, a1, a2]
  simp only [Option.bind_some, Int.mul_zero]
  rw [show IntKind.u64.wrap 0 = 0 from rfl, u_eq (x := (x0 : Int) * 1000) (by omega) (by omega)]
  have e3 : V.shr .u64 ((x0 : Int) * 1000) 32 = some ((x0 * 1000 / 4294967296 : Nat) : Int) := shr_eq (x0 * 1000) 32 (by omega)
  rw [e3]
  simp only [Option.bind_some]
  rw [u_eq (x := (x1 : Int) * 1000) (by omega) (by omega), u_eq (x := (x1 : Int) * 1000 + _) (by omega) (by omega)]
  have e4 : V.shr .u64 ((x1 : Int) * 1000 + ((x0 * 1000 / 4294967296 : Nat) : Int)) 32 = some (((x1 * 1000 + x0 * 1000 / 4294967296) / 4294967296 : Nat) : Int) := shr_eq (x1 * 1000 + x0 * 1000 / 4294967296) 32 (by omega)
  have a3 : V.bAnd .u64 ((x1 : Int) * 1000 + ((x0 * 1000 / 4294967296 : Nat) : Int)) 4294967295 = (((x1 * 1000 + x0 * 1000 / 4294967296) % 4294967296 : Nat) : Int) := and32 (x := x1 * 1000 + x0 * 1000 / 4294967296) (by omega)
  rw [e4, a3]
  simp only [Option.bind_some, Int.add_zero]
  rw [u_eq (x := (((x1 * 1000 + x0 * 1000 / 4294967296) % 4294967296 : Nat) : Int)) (by omega) (by omega)]
  have e5 : V.shr .u64 (((x1 * 1000 + x0 * 1000 / 4294967296) % 4294967296 : Nat) : Int) 32 = some (((x1 * 1000 + x0 * 1000 / 4294967296) % 4294967296 / 4294967296 : Nat) : Int) := shr_eq _ 32 (by omega)
  rw [e5]
  simp only [Option.bind_some, Option.some.injEq, Prod.mk.injEq]
  constructor
  · rw [u_eq (x := 0 + (((x1 * 1000 + x0 * 1000 / 4294967296) / 4294967296 : Nat) : Int)) (by omega) (by omega), u_eq (by omega) (by omega)]
    omega
  · rw [IntKind.wrap_u64]; omega

/-- A digit of a quotient, sought from above. -/
theorem knuth {F : Nat → Int → Int → Option Int} {y1 y0 u u1 : Nat} (h1 : 2147483648 ≤ y1) (h1' : y1 < 4294967296) (h0 : y0 < 4294967296) (hu1 : u1 < 4294967296) (hu : u < y1 * 4294967296 + y0)
    (hs : ∀ (n q r : Nat), q ≤ 4294967297 → r < 4294967296 → 0 < q → F (n + 1) (q : Int) (r : Int) = if q ≥ 4294967296 ∨ q * y0 > 4294967296 * r + u1 then (if r + y1 ≥ 4294967296 then some ((q - 1 : Nat) : Int) else F n ((q - 1 : Nat) : Int) ((r + y1 : Nat) : Int)) else some (q : Int))
    (hz : ∀ (n r : Nat), F (n + 1) 0 (r : Int) = some 0) :
    F FU ((u / y1 : Nat) : Int) ((u % y1 : Nat) : Int) = some (((u * 4294967296 + u1) / (y1 * 4294967296 + y0) : Nat) : Int) := by
  obtain ⟨Y, hY⟩ : ∃ Y, y1 * 4294967296 + y0 = Y := ⟨_, rfl⟩
  obtain ⟨N, hN⟩ : ∃ N, u * 4294967296 + u1 = N := ⟨_, rfl⟩
  rw [hY] at hu ⊢
  rw [hN]
  have hYp : 0 < Y := by omega
  obtain ⟨Q, hQ⟩ : ∃ Q, N / Y = Q := ⟨_, rfl⟩
  rw [hQ]
  have hQB : Q < 4294967296 := by
    rw [← hQ, Nat.div_lt_iff_lt_mul hYp]
    omega
  have key : ∀ (d q r n : Nat), q - Q ≤ d → d < n → u = q * y1 + r → Q ≤ q → q ≤ 4294967297 → r < 4294967296 → F n (q : Int) (r : Int) = some (Q : Int) := by
    intro d
    induction d with
    | zero =>
      intro q r n a1 a2 a3 a4 a5 a6
      obtain ⟨n, rfl⟩ : ∃ n', n = n' + 1 := ⟨n - 1, by omega⟩
      have e : q = Q := by omega
      subst e
      by_cases q0 : q = 0
      · rw [q0]; exact hz n r
      · have hle : q * Y ≤ N := by rw [← Nat.le_div_iff_mul_le hYp, hQ]; exact Nat.le_refl _
        have hm : q * Y = q * y1 * 4294967296 + q * y0 := by rw [← hY, Nat.mul_add, Nat.mul_assoc]
        rw [hs n q r a5 a6 (by omega), if_neg (by omega)]
    | succ d ih =>
      intro q r n a1 a2 a3 a4 a5 a6
      obtain ⟨n, rfl⟩ : ∃ n', n = n' + 1 := ⟨n - 1, by omega⟩
      by_cases q0 : q = 0
      · have : Q = 0 := by omega
        rw [q0, this]; exact hz n r
      · have hm : q * Y = q * y1 * 4294967296 + q * y0 := by rw [← hY, Nat.mul_add, Nat.mul_assoc]
        rw [hs n q r a5 a6 (by omega)]
        by_cases hc : q ≥ 4294967296 ∨ q * y0 > 4294967296 * r + u1
        · rw [if_pos hc]
          have hlt : Q < q := by
            rcases Nat.lt_or_ge Q q with z | z
            · exact z
            · exfalso
              have hle : q * Y ≤ N := by rw [← Nat.le_div_iff_mul_le hYp, hQ]; exact z
              rcases hc with hc | hc <;> omega
          obtain ⟨p, rfl⟩ : ∃ p, q = p + 1 := ⟨q - 1, by omega⟩
          rw [show p + 1 - 1 = p by omega]
          have hp1 : (p + 1) * y1 = p * y1 + y1 := by rw [Nat.add_mul]; omega
          by_cases hb : r + y1 ≥ 4294967296
          · rw [if_pos hb]
            have hp0 : p * y0 ≤ 4294967296 * 4294967295 := Nat.mul_le_mul (by omega) (by omega)
            have hmp : p * Y = p * y1 * 4294967296 + p * y0 := by rw [← hY, Nat.mul_add, Nat.mul_assoc]
            have hle : p * Y ≤ N := by omega
            have : p ≤ Q := by rw [← hQ, Nat.le_div_iff_mul_le hYp]; exact hle
            rw [show p = Q by omega]
          · rw [if_neg hb]
            exact ih p (r + y1) n (by omega) (by omega) (by omega) (by omega) (by omega) (by omega)
        · rw [if_neg hc]
          have hle : q * Y ≤ N := by omega
          have : q ≤ Q := by rw [← hQ, Nat.le_div_iff_mul_le hYp]; exact hle
          rw [show q = Q by omega]
  have hdm := Nat.div_add_mod u y1
  have hml := Nat.mod_lt u (show 0 < y1 by omega)
  have hq1 : u / y1 < 4294967298 := by
    rw [Nat.div_lt_iff_lt_mul (by omega)]
    omega
  have hle : Q * Y ≤ N := by rw [← Nat.le_div_iff_mul_le hYp, hQ]; exact Nat.le_refl _
  have hm : Q * Y = Q * y1 * 4294967296 + Q * y0 := by rw [← hY, Nat.mul_add, Nat.mul_assoc]
  have hqq : Q ≤ u / y1 := by
    rw [Nat.le_div_iff_mul_le (by omega)]
    omega
  generalize u / y1 = q at *
  generalize u % y1 = r at *
  exact key q q r FU (Nat.sub_le _ _) (by unfold FU; omega) (by rw [Nat.mul_comm] at hdm; omega) hqq (by omega) (by omega)

theorem len8_all : ((List.range 256).all fun k => match V.gi (⟨#[0, 1, 2, 2, 3, 3, 3, 3, 4, 4, 4, 4, 4, 4, 4, 4, 5, 5, 5, 5, 5, 5, 5, 5, 5, 5, 5, 5, 5, 5, 5, 5, 6, 6, 6, 6, 6, 6, 6, 6, 6, 6, 6, 6, 6, 6, 6, 6, 6, 6, 6, 6, 6, 6, 6, 6, 6, 6, 6, 6, 6, 6, 6, 6, 7, 7, 7, 7, 7, 7, 7, 7, 7, 7, 7, 7, 7, 7, 7, 7, 7, 7, 7, 7, 7, 7, 7, 7, 7, 7, 7, 7, 7, 7, 7, 7, 7, 7, 7, 7, 7, 7, 7, 7, 7, 7, 7, 7, 7, 7, 7, 7, 7, 7, 7, 7, 7, 7, 7, 7, 7, 7, 7, 7, 7, 7, 7, 7, 8, 8, 8, 8, 8, 8, 8, 8, 8, 8, 8, 8, 8, 8, 8, 8, 8, 8, 8, 8, 8, 8, 8, 8, 8, 8, 8, 8, 8, 8, 8, 8, 8, 8, 8, 8, 8, 8, 8, 8, 8, 8, 8, 8, 8, 8, 8, 8, 8, 8, 8, 8, 8, 8, 8, 8, 8, 8, 8, 8, 8, 8, 8, 8, 8, 8, 8, 8, 8, 8, 8, 8, 8, 8, 8, 8, 8, 8, 8, 8, 8, 8, 8, 8, 8, 8, 8, 8, 8, 8, 8, 8, 8, 8, 8, 8, 8, 8, 8, 8, 8, 8, 8, 8, 8, 8, 8, 8, 8, 8, 8, 8, 8, 8, 8, 8, 8, 8, 8, 8, 8, 8, 8, 8, 8, 8, 8, 8]⟩ : ByteArray) (k : Int) with | some t => decide (k = 0) || (decide (1 ≤ t) && decide (t ≤ 8) && decide (2 ^ (t.toNat - 1) ≤ k) && decide (k < 2 ^ t.toNat)) | none => false) = true := by kernel_rfl
theorem len8 {k : Nat} (h1 : 1 ≤ k) (h2 : k < 256) : ∃ t : Nat, V.gi (⟨#[0, 1, 2, 2, 3, 3, 3, 3, 4, 4, 4, 4, 4, 4, 4, 4, 5, 5, 5, 5, 5, 5, 5, 5, 5, 5, 5, 5, 5, 5, 5, 5, 6, 6, 6, 6, 6, 6, 6, 6, 6, 6, 6, 6, 6, 6, 6, 6, 6, 6, 6, 6, 6, 6, 6, 6, 6, 6, 6, 6, 6, 6, 6, 6, 7, 7, 7, 7, 7, 7, 7, 7, 7, 7, 7, 7, 7, 7, 7, 7, 7, 7, 7, 7, 7, 7, 7, 7, 7, 7, 7, 7, 7, 7, 7, 7, 7, 7, 7, 7, 7, 7, 7, 7, 7, 7, 7, 7, 7, 7, 7, 7, 7, 7, 7, 7, 7, 7, 7, 7, 7, 7, 7, 7, 7, 7, 7, 7, 8, 8, 8, 8, 8, 8, 8, 8, 8, 8, 8, 8, 8, 8, 8, 8, 8, 8, 8, 8, 8, 8, 8, 8, 8, 8, 8, 8, 8, 8, 8, 8, 8, 8, 8, 8, 8, 8, 8, 8, 8, 8, 8, 8, 8, 8, 8, 8, 8, 8, 8, 8, 8, 8, 8, 8, 8, 8, 8, 8, 8, 8, 8, 8, 8, 8, 8, 8, 8, 8, 8, 8, 8, 8, 8, 8, 8, 8, 8, 8, 8, 8, 8, 8, 8, 8, 8, 8, 8, 8, 8, 8, 8, 8, 8, 8, 8, 8, 8, 8, 8, 8, 8, 8, 8, 8, 8, 8, 8, 8, 8, 8, 8, 8, 8, 8, 8, 8, 8, 8, 8, 8, 8, 8, 8, 8, 8, 8]⟩ : ByteArray) (k : Int) = some (t : Int) ∧ 1 ≤ t ∧ t ≤ 8 ∧ 2 ^ (t - 1) ≤ k ∧ k < 2 ^ t := by
  have := (List.all_eq_true.1 len8_all) k (List.mem_range.2 h2)
  cases hg : V.gi (⟨#[0, 1, 2, 2, 3, 3, 3, 3, 4, 4, 4, 4, 4, 4, 4, 4, 5, 5, 5, 5, 5, 5, 5, 5, 5, 5, 5, 5, 5, 5, 5, 5, 6, 6, 6, 6, 6, 6, 6, 6, 6, 6, 6, 6, 6, 6, 6, 6, 6, 6, 6, 6, 6, 6, 6, 6, 6, 6, 6, 6, 6, 6, 6, 6, 7, 7, 7, 7, 7, 7, 7, 7, 7, 7, 7, 7, 7, 7, 7, 7, 7, 7, 7, 7, 7, 7, 7, 7, 7, 7, 7, 7, 7, 7, 7, 7, 7, 7, 7, 7, 7, 7, 7, 7, 7, 7, 7, 7, 7, 7, 7, 7, 7, 7, 7, 7, 7, 7, 7, 7, 7, 7, 7, 7, 7, 7, 7, 7, 8, 8, 8, 8, 8, 8, 8, 8, 8, 8, 8, 8, 8, 8, 8, 8, 8, 8, 8, 8, 8, 8, 8, 8, 8, 8, 8, 8, 8, 8, 8, 8, 8, 8, 8, 8, 8, 8, 8, 8, 8, 8, 8, 8, 8, 8, 8, 8, 8, 8, 8, 8, 8, 8, 8, 8, 8, 8, 8, 8, 8, 8, 8, 8, 8, 8, 8, 8, 8, 8, 8, 8, 8, 8, 8, 8, 8, 8, 8, 8, 8, 8, 8, 8, 8, 8, 8, 8, 8, 8, 8, 8, 8, 8, 8, 8, 8, 8, 8, 8, 8, 8, 8, 8, 8, 8, 8, 8, 8, 8, 8, 8, 8, 8, 8, 8, 8, 8, 8, 8, 8, 8, 8, 8, 8, 8, 8, 8]⟩ : ByteArray) (k : Int) with
  | none => rw [hg] at this; cases this
  | some t =>
    rw [hg] at this
    simp only [Bool.or_eq_true, Bool.and_eq_true, decide_eq_true_eq] at this
    rcases this with h | ⟨⟨⟨a, b⟩, c⟩, d⟩
    · omega
    · obtain ⟨n, rfl⟩ : ∃ n : Nat, t = (n : Int) := ⟨t.toNat, by omega⟩
      rw [Int.toNat_natCast] at c d
      exact ⟨n, rfl, by omega, by omega, c, d⟩
theorem Len_eq {y : Nat} (h1 : 18014398509481984 ≤ y) (h2 : y < 288230376151711744) : ∃ L : Nat, math_bits_Len64 (y : Int) = some (L : Int) ∧ (L = 55 ∧ y < 36028797018963968 ∨ L = 56 ∧ 36028797018963968 ≤ y ∧ y < 72057594037927936 ∨ L = 57 ∧ 72057594037927936 ≤ y ∧ y < 144115188075855872 ∨ L = 58 ∧ 144115188075855872 ≤ y) := by
  unfold math_bits_Len64
  have e1 : V.shr .u64 (y : Int) 32 = some ((y / 4294967296 : Nat) : Int) := shr_eq y 32 (by omega)
  have e2 : V.shr .u64 ((y / 4294967296 : Nat) : Int) 16 = some ((y / 4294967296 / 65536 : Nat) : Int) := shr_eq _ 16 (by omega)
  rw [if_pos (by simp only [decide_eq_true_eq]; omega), e1]
  simp only [Option.bind_some]
  rw [if_pos (by simp only [decide_eq_true_eq]; omega), e2]
  simp only [Option.bind_some]
  by_cases hc : y / 4294967296 / 65536 ≥ 256
  · rw [if_pos (by simp only [decide_eq_true_eq]; omega)]
    have e3 : V.shr .u64 ((y / 4294967296 / 65536 : Nat) : Int) 8 = some ((y / 4294967296 / 65536 / 256 : Nat) : Int) := shr_eq _ 8 (by omega)
    obtain ⟨t, g1, g2, g3, g4, g5⟩ := len8 (k := y / 4294967296 / 65536 / 256) (by omega) (by omega)
    rw [e3]
    simp only [Option.bind_some]
    rw [u8_eq (by omega) (by omega), g1]
    simp only [Option.bind_some]
    refine ⟨56 + t, ?_, ?_⟩
    · rw [w_eq (x := (t : Int)) (by omega) (by omega), show i64.wrap (32 + 16) = 48 from rfl, show i64.wrap (48 + 8) = 56 from rfl, w_eq (by omega) (by omega)]
      congr 1
    · rcases (by omega : t = 1 ∨ t = 2 ∨ t = 3 ∨ t = 4 ∨ t = 5 ∨ t = 6 ∨ t = 7 ∨ t = 8) with rfl | rfl | rfl | rfl | rfl | rfl | rfl | rfl <;> simp only [Nat.reducePow, Nat.reduceSub] at g4 g5 <;> omega
  · rw [if_neg (by simp only [decide_eq_true_eq]; omega)]
    obtain ⟨t, g1, g2, g3, g4, g5⟩ := len8 (k := y / 4294967296 / 65536) (by omega) (by omega)
    rw [u8_eq (by omega) (by omega), g1]
    simp only [Option.bind_some]
    refine ⟨48 + t, ?_, ?_⟩
    · rw [w_eq (x := (t : Int)) (by omega) (by omega), show i64.wrap (32 + 16) = 48 from rfl, w_eq (by omega) (by omega)]
      congr 1
    · rcases (by omega : t = 1 ∨ t = 2 ∨ t = 3 ∨ t = 4 ∨ t = 5 ∨ t = 6 ∨ t = 7 ∨ t = 8) with rfl | rfl | rfl | rfl | rfl | rfl | rfl | rfl <;> simp only [Nat.reducePow, Nat.reduceSub] at g4 g5 <;> omega

end Go.Proofs.YtbkdglcedgiogaaGreat.M
/- Plain law: the library's quotient of 128 bits. Own work. -/
namespace Go.Proofs.YtbkdglcedgiogaaGreat.M
open Go Go.Proofs Go.Proofs.YtbkdglcedgiogaaGreat.V
open Go.IntKind (i64)
set_option linter.unusedVariables false
set_option maxRecDepth 20000
set_option maxHeartbeats 4000000


theorem quo_nat {a b : Nat} (hb : 0 < b) : V.quo (a : Int) (b : Int) = some ((a / b : Nat) : Int) := by
  unfold V.quo
  rw [if_neg (by omega)]
  congr 1
/-- So much is left. -/
theorem wrap_left {a b c r : Int} (hr : a + b - c = r) (h0 : 0 ≤ r) (h1 : r < 18446744073709551616) : IntKind.u64.wrap (IntKind.u64.wrap (IntKind.u64.wrap a + b) - IntKind.u64.wrap c) = r := by
  rw [IntKind.wrap_u64, IntKind.wrap_u64, IntKind.wrap_u64, IntKind.wrap_u64]
  omega
theorem l1_eq {Y y1 y0 u u1 : Nat} (hY : Y < 18446744073709551616) (hy1 : y1 = Y / 4294967296) (hy0 : y0 = Y % 4294967296) (h1 : 2147483648 ≤ y1) (hu1 : u1 < 4294967296) (hu : u < Y) :
    math_bits_Div64.l1 (Y : Int) (y1 : Int) (u1 : Int) FU ((u / y1 : Nat) : Int) ((u % y1 : Nat) : Int) = some (((u * 4294967296 + u1) / Y : Nat) : Int) := by
  have hYe : y1 * 4294967296 + y0 = Y := by omega
  have ha : V.bAnd .u64 (Y : Int) 4294967295 = (y0 : Int) := by rw [hy0]; exact and32 hY
  rw [← hYe] at hu
  have := knuth (F := fun n q r => math_bits_Div64.l1 (Y : Int) (y1 : Int) (u1 : Int) n q r) h1 (by omega) (by omega : y0 < 4294967296) hu1 hu (fun n q r b1 b2 b3 => by
      have hq : q * y0 ≤ 4294967297 * 4294967295 := Nat.mul_le_mul b1 (by omega)
      rw [math_bits_Div64.l1, ha]
      rw [show (q : Int) * (y0 : Int) = ((q * y0 : Nat) : Int) by push_cast; rfl]
      generalize q * y0 = z at *
      rw [u_eq (x := ((z : Nat) : Int)) (by omega) (by omega), u_eq (x := 4294967296 * (r : Int)) (by omega) (by omega), u_eq (x := 4294967296 * (r : Int) + (u1 : Int)) (by omega) (by omega), u_eq (x := (r : Int) + (y1 : Int)) (by omega) (by omega), u_eq (x := (q : Int) - 1) (by omega) (by omega)]
      have e1 : ((decide ((q : Int) ≥ 4294967296)) || (decide ((z : Int) > 4294967296 * (r : Int) + (u1 : Int)))) = decide (q ≥ 4294967296 ∨ z > 4294967296 * r + u1) := by
        rw [Bool.eq_iff_iff]; simp only [Bool.or_eq_true, decide_eq_true_eq]; omega
      rw [e1, show (q : Int) - 1 = ((q - 1 : Nat) : Int) by omega, show (r : Int) + (y1 : Int) = ((r + y1 : Nat) : Int) by omega]
      by_cases hc : q ≥ 4294967296 ∨ z > 4294967296 * r + u1
      · rw [if_pos (by simpa using hc), if_pos hc]
        by_cases hd : r + y1 ≥ 4294967296
        · rw [if_pos (by simp only [decide_eq_true_eq]; omega), if_pos hd]
        · rw [if_neg (by simp only [decide_eq_true_eq]; omega), if_neg hd]
      · rw [if_neg (by simpa using hc), if_neg hc]) (fun n r => by
      rw [math_bits_Div64.l1, ha, Int.zero_mul, show IntKind.u64.wrap 0 = 0 from rfl, if_neg]
      have := (show 0 ≤ IntKind.u64.wrap (IntKind.u64.wrap (4294967296 * (r : Int)) + (u1 : Int)) by rw [IntKind.wrap_u64]; omega)
      simp only [Bool.or_eq_true, decide_eq_true_eq]
      omega)
  rw [hYe] at this
  exact this
theorem l2_eq {Y y1 y0 u L u1 : Nat} (hY : Y < 18446744073709551616) (hy1 : y1 = Y / 4294967296) (hy0 : y0 = Y % 4294967296) (h1 : 2147483648 ≤ y1) (hL : L < 18446744073709551616) (hu1 : u1 = L % 4294967296) (hu : u < Y) :
    math_bits_Div64.l2 (Y : Int) (y1 : Int) (L : Int) FU ((u % y1 : Nat) : Int) ((u / y1 : Nat) : Int) = some (((u * 4294967296 + u1) / Y : Nat) : Int) := by
  have hYe : y1 * 4294967296 + y0 = Y := by omega
  have ha : V.bAnd .u64 (Y : Int) 4294967295 = (y0 : Int) := by rw [hy0]; exact and32 hY
  have hb : V.bAnd .u64 (L : Int) 4294967295 = (u1 : Int) := by rw [hu1]; exact and32 hL
  rw [← hYe] at hu
  have := knuth (F := fun n q r => math_bits_Div64.l2 (Y : Int) (y1 : Int) (L : Int) n r q) h1 (by omega) (by omega : y0 < 4294967296) (by omega : u1 < 4294967296) hu (fun n q r b1 b2 b3 => by
      have hq : q * y0 ≤ 4294967297 * 4294967295 := Nat.mul_le_mul b1 (by omega)
      rw [math_bits_Div64.l2, ha, hb]
      rw [show (q : Int) * (y0 : Int) = ((q * y0 : Nat) : Int) by push_cast; rfl]
      generalize q * y0 = z at *
      rw [u_eq (x := ((z : Nat) : Int)) (by omega) (by omega), u_eq (x := 4294967296 * (r : Int)) (by omega) (by omega), u_eq (x := 4294967296 * (r : Int) + (u1 : Int)) (by omega) (by omega), u_eq (x := (r : Int) + (y1 : Int)) (by omega) (by omega), u_eq (x := (q : Int) - 1) (by omega) (by omega)]
      have e1 : ((decide ((q : Int) ≥ 4294967296)) || (decide ((z : Int) > 4294967296 * (r : Int) + (u1 : Int)))) = decide (q ≥ 4294967296 ∨ z > 4294967296 * r + u1) := by
        rw [Bool.eq_iff_iff]; simp only [Bool.or_eq_true, decide_eq_true_eq]; omega
      rw [e1, show (q : Int) - 1 = ((q - 1 : Nat) : Int) by omega, show (r : Int) + (y1 : Int) = ((r + y1 : Nat) : Int) by omega]
      by_cases hc : q ≥ 4294967296 ∨ z > 4294967296 * r + u1
      · rw [if_pos (by simpa using hc), if_pos hc]
        by_cases hd : r + y1 ≥ 4294967296
        · rw [if_pos (by simp only [decide_eq_true_eq]; omega), if_pos hd]
        · rw [if_neg (by simp only [decide_eq_true_eq]; omega), if_neg hd]
      · rw [if_neg (by simpa using hc), if_neg hc]) (fun n r => by
      rw [math_bits_Div64.l2, ha, hb, Int.zero_mul, show IntKind.u64.wrap 0 = 0 from rfl, if_neg]
      have := (show 0 ≤ IntKind.u64.wrap (IntKind.u64.wrap (4294967296 * (r : Int)) + (u1 : Int)) by rw [IntKind.wrap_u64]; omega)
      simp only [Bool.or_eq_true, decide_eq_true_eq]
      omega)
  rw [hYe] at this
  exact this

theorem two_sum {U u un1 un0 z r : Nat} (hU : U = u * 18446744073709551616 + un1 * 4294967296 + un0) (h : z + r = u * 4294967296 + un1) : U = r * 4294967296 + un0 + z * 4294967296 := by
  have e1 : U = (u * 4294967296 + un1) * 4294967296 + un0 := by
    rw [hU, Nat.add_mul, Nat.mul_assoc]
  rw [e1, ← h, Nat.add_mul, Nat.add_assoc, Nat.add_comm]
/-- Two digits of a quotient. -/
theorem two_digits {U Y u un1 un0 : Nat} (hU : U = u * 18446744073709551616 + un1 * 4294967296 + un0) (hY : 0 < Y) : U / Y = (u * 4294967296 + un1) / Y * 4294967296 + ((u * 4294967296 + un1) % Y * 4294967296 + un0) / Y := by
  have e := two_sum hU (Nat.div_add_mod (u * 4294967296 + un1) Y)
  rw [Nat.mul_assoc] at e
  rw [e, Nat.add_mul_div_left _ _ hY, Nat.add_comm]

/-- The quotient, behind the shift. -/
theorem div_core {u Y L r : Nat} (hY : 9223372036854775808 ≤ Y) (hY2 : Y < 18446744073709551616) (hu : u < Y) (hL : L < 18446744073709551616) (hr : r ≤ 64) {k : Int → Int → Option (Int × Int)} :
    ((V.shr .u64 (Y : Int) (32 : Int)).bind fun v4 => (V.shr .u64 (L : Int) (32 : Int)).bind fun v8 => (V.quo (u : Int) v4).bind fun v9 =>
    (math_bits_Div64.l1 (Y : Int) v4 v8 FU (IntKind.u64.wrap v9) (IntKind.u64.wrap ((u : Int) - (IntKind.u64.wrap ((IntKind.u64.wrap v9) * v4))))).bind fun q132 =>
    (V.quo (IntKind.u64.wrap ((IntKind.u64.wrap ((IntKind.u64.wrap ((u : Int) * 4294967296)) + v8)) - (IntKind.u64.wrap (q132 * (Y : Int))))) v4).bind fun v10 =>
    (math_bits_Div64.l2 (Y : Int) v4 (L : Int) FU (IntKind.u64.wrap ((IntKind.u64.wrap ((IntKind.u64.wrap ((IntKind.u64.wrap ((u : Int) * 4294967296)) + v8)) - (IntKind.u64.wrap (q132 * (Y : Int))))) - (IntKind.u64.wrap ((IntKind.u64.wrap v10) * v4)))) (IntKind.u64.wrap v10)).bind fun q032 =>
    k q132 q032) = k (((u * 4294967296 + L / 4294967296) / Y : Nat) : Int) (((u * 4294967296 + L / 4294967296) % Y * 4294967296 + L % 4294967296) / Y : Nat) ∧ (u * 4294967296 + L / 4294967296) / Y < 4294967296 ∧ ((u * 4294967296 + L / 4294967296) % Y * 4294967296 + L % 4294967296) / Y < 4294967296 ∧
      (u * 18446744073709551616 + L) / Y = (u * 4294967296 + L / 4294967296) / Y * 4294967296 + ((u * 4294967296 + L / 4294967296) % Y * 4294967296 + L % 4294967296) / Y := by
  obtain ⟨y1, hy1⟩ : ∃ y1, y1 = Y / 4294967296 := ⟨_, rfl⟩
  obtain ⟨un1, hun1⟩ : ∃ un1, un1 = L / 4294967296 := ⟨_, rfl⟩
  obtain ⟨un0, hun0⟩ : ∃ un0, un0 = L % 4294967296 := ⟨_, rfl⟩
  have e4 : V.shr .u64 (Y : Int) 32 = some (y1 : Int) := by rw [hy1]; exact shr_eq Y 32 (by omega)
  have e8 : V.shr .u64 (L : Int) 32 = some (un1 : Int) := by rw [hun1]; exact shr_eq L 32 (by omega)
  have hy1g : 2147483648 ≤ y1 := by omega
  have hy1l : y1 < 4294967296 := by omega
  have left : ∀ a : Nat, a < 18446744073709551616 → IntKind.u64.wrap ((a / y1 : Nat) : Int) = ((a / y1 : Nat) : Int) ∧ IntKind.u64.wrap ((a : Int) - IntKind.u64.wrap (((a / y1 : Nat) : Int) * (y1 : Int))) = ((a % y1 : Nat) : Int) := fun a ha => by
    have h1 := Nat.div_add_mod a y1
    have h2 := Nat.div_le_self a y1
    rw [Nat.mul_comm] at h1
    rw [show ((a / y1 : Nat) : Int) * (y1 : Int) = ((a / y1 * y1 : Nat) : Int) by push_cast; rfl]
    generalize a / y1 * y1 = z at *
    generalize a / y1 = w at *
    generalize a % y1 = x at *
    refine ⟨u_eq (by omega) (by omega), ?_⟩
    rw [u_eq (x := (z : Int)) (by omega) (by omega), u_eq (by omega) (by omega)]
    omega
  rw [e4, e8]
  simp only [Option.bind_some]
  rw [quo_nat (by omega)]
  simp only [Option.bind_some]
  rw [(left u (by omega)).1, (left u (by omega)).2, l1_eq hY2 hy1 rfl hy1g (by omega) hu]
  simp only [Option.bind_some]
  have hd := Nat.div_add_mod (u * 4294967296 + un1) Y
  have hm := Nat.mod_lt (u * 4294967296 + un1) (show 0 < Y by omega)
  have hq1 : (u * 4294967296 + un1) / Y < 4294967296 := by
    rw [Nat.div_lt_iff_lt_mul (by omega)]
    omega
  have htd := two_digits (U := u * 18446744073709551616 + L) (Y := Y) (u := u) (un1 := un1) (un0 := un0) (by omega) (by omega)
  rw [← hun1, ← hun0]
  refine ⟨?_, hq1, by rw [Nat.div_lt_iff_lt_mul (by omega)]; omega, htd⟩
  obtain ⟨q, hq⟩ : ∃ q, (u * 4294967296 + un1) / Y = q := ⟨_, rfl⟩
  obtain ⟨x, hx⟩ : ∃ x, (u * 4294967296 + un1) % Y = x := ⟨_, rfl⟩
  obtain ⟨z, hz⟩ : ∃ z, q * Y = z := ⟨_, rfl⟩
  have hzc : (q : Int) * (Y : Int) = (z : Int) := by rw [← hz, Int.natCast_mul]
  rw [Nat.mul_comm] at hd
  rw [hq, hx, hz] at hd
  rw [hq] at hq1
  rw [hx] at hm
  rw [hq, hx, hzc]
  rw [wrap_left (r := (x : Int)) (by omega) (by omega) (by omega), quo_nat (by omega)]
  simp only [Option.bind_some]
  rw [(left x (by omega)).1, (left x (by omega)).2, l2_eq hY2 hy1 rfl hy1g hL hun0 hm]
  simp only [Option.bind_some]
theorem shr_some (x : Int) (s : Nat) : ∃ z, V.shr .u64 x (s : Int) = some z := by
  unfold V.shr
  rw [if_neg (by omega)]
  exact ⟨_, rfl⟩
theorem div_main {hi lo y s p pp : Nat} (hp : p = 2 ^ s) (hpp : pp = 2 ^ (64 - s)) (hs : s ≤ 9) (hs6 : 6 ≤ s) (hpv : p ≤ 512) (hppv : 0 < pp) (hprod : p * pp = 18446744073709551616) (hyp : 9223372036854775808 ≤ y * p) (hyp2 : y * p < 18446744073709551616) (hlo : lo < 18446744073709551616) (hhi : hi < 1024) (hh0 : 0 < hi) (hy : 18014398509481984 ≤ y) (hL : math_bits_LeadingZeros64 (y : Int) = some (s : Int)) :
    ∃ z, math_bits_Div64 (hi : Int) (lo : Int) (y : Int) = some ((((hi * 18446744073709551616 + lo) / y : Nat) : Int), z) := by
  unfold math_bits_Div64
  rw [if_neg (by simp only [beq_iff_eq]; omega), if_neg (by simp only [decide_eq_true_eq]; omega), if_neg (by simp only [beq_iff_eq]; omega), hL, Option.bind_some]
  have w1 : IntKind.u64.wrap (s : Int) = (s : Int) := u_eq (by omega) (by omega)
  have w2 : IntKind.u64.wrap (64 - IntKind.u64.wrap (s : Int)) = ((64 - s : Nat) : Int) := by rw [w1, u_eq (by omega) (by omega)]; omega
  have hhp : hi * p ≤ 1023 * 512 := Nat.mul_le_mul (by omega) hpv
  have s1 : V.shl .u64 (y : Int) (IntKind.u64.wrap (s : Int)) = some ((y * p : Nat) : Int) := by rw [w1, shl_eq y s (by omega), ← hp, Nat.mod_eq_of_lt hyp2]
  have s2 : V.shl .u64 (hi : Int) (IntKind.u64.wrap (s : Int)) = some ((hi * p : Nat) : Int) := by rw [w1, shl_eq hi s (by omega), ← hp, Nat.mod_eq_of_lt (by omega)]
  have s3 : V.shr .u64 (lo : Int) (IntKind.u64.wrap (64 - IntKind.u64.wrap (s : Int))) = some ((lo / pp : Nat) : Int) := by rw [w2, shr_eq lo (64 - s) (by omega), ← hpp]
  have s4 : V.shl .u64 (lo : Int) (IntKind.u64.wrap (s : Int)) = some ((lo * p % 18446744073709551616 : Nat) : Int) := by rw [w1, shl_eq lo s (by omega), ← hp]
  have hlp : lo / pp < p := by rw [Nat.div_lt_iff_lt_mul hppv, hprod]; exact hlo
  have hp0 : 0 < p := by rw [hp]; exact Nat.two_pow_pos s
  have hu : hi * p + lo / pp < y * p := by omega
  have so : V.bOr .u64 ((hi * p : Nat) : Int) ((lo / pp : Nat) : Int) = ((hi * p + lo / pp : Nat) : Int) := by
    rw [hp]
    exact or_add (by rw [← hp]; omega) (by rw [← hp]; exact hlp) (by omega)
  rw [s1, s2, s3, s4]
  simp only [Option.bind_some]
  rw [so]
  have hc := div_core (u := hi * p + lo / pp) (Y := y * p) (L := lo * p % 18446744073709551616) (r := s) hyp hyp2 hu (Nat.mod_lt _ (by decide)) (by clear so s1 s2 s3 s4; omega) (k := fun q132 q032 => (V.shr .u64 (IntKind.u64.wrap ((IntKind.u64.wrap ((IntKind.u64.wrap ((IntKind.u64.wrap ((IntKind.u64.wrap ((IntKind.u64.wrap (((hi * p + lo / pp : Nat) : Int) * 4294967296)) + ((lo * p % 18446744073709551616 / 4294967296 : Nat) : Int))) - (IntKind.u64.wrap (q132 * ((y * p : Nat) : Int))))) * 4294967296)) + (V.bAnd .u64 ((lo * p % 18446744073709551616 : Nat) : Int) 4294967295))) - (IntKind.u64.wrap (q032 * ((y * p : Nat) : Int))))) (IntKind.u64.wrap (s : Int))).bind fun v11 => some ((IntKind.u64.wrap ((IntKind.u64.wrap (q132 * 4294967296)) + q032)), v11))
  have e8 : V.shr .u64 ((lo * p % 18446744073709551616 : Nat) : Int) 32 = some ((lo * p % 18446744073709551616 / 4294967296 : Nat) : Int) := shr_eq _ 32 (by decide)
  rw [e8] at hc ⊢
  simp only [Option.bind_some] at hc ⊢
  obtain ⟨h1, h2, h3, h4⟩ := hc
  rw [h1]
  have hfin : ((hi * p + lo / pp) * 18446744073709551616 + lo * p % 18446744073709551616) / (y * p) = (hi * 18446744073709551616 + lo) / y := by
    have q1 : lo * p / 18446744073709551616 = lo / pp := by
      rw [← hprod, Nat.mul_comm lo p, Nat.mul_div_mul_left _ _ hp0]
    have q2 := Nat.div_add_mod (lo * p) 18446744073709551616
    rw [q1] at q2
    have q3 : (hi * p + lo / pp) * 18446744073709551616 + lo * p % 18446744073709551616 = (hi * 18446744073709551616 + lo) * p := by
      rw [Nat.add_mul (hi * p) (lo / pp), Nat.add_mul (hi * 18446744073709551616) lo p, Nat.add_assoc, Nat.mul_comm (lo / pp), q2, Nat.mul_right_comm]
    rw [q3, Nat.mul_div_mul_right _ _ hp0]
  rw [hfin] at h4
  rw [h4]
  obtain ⟨q, hq⟩ : ∃ q, ((hi * p + lo / pp) * 4294967296 + lo * p % 18446744073709551616 / 4294967296) / (y * p) = q := ⟨_, rfl⟩
  obtain ⟨w, hw⟩ : ∃ w, (((hi * p + lo / pp) * 4294967296 + lo * p % 18446744073709551616 / 4294967296) % (y * p) * 4294967296 + lo * p % 18446744073709551616 % 4294967296) / (y * p) = w := ⟨_, rfl⟩
  rw [hq] at h2
  rw [hw] at h3
  rw [hq, hw, w1]
  obtain ⟨z, hz⟩ := shr_some (IntKind.u64.wrap ((IntKind.u64.wrap ((IntKind.u64.wrap ((IntKind.u64.wrap ((IntKind.u64.wrap ((IntKind.u64.wrap (((hi * p + lo / pp : Nat) : Int) * 4294967296)) + ((lo * p % 18446744073709551616 / 4294967296 : Nat) : Int))) - (IntKind.u64.wrap ((q : Int) * ((y * p : Nat) : Int))))) * 4294967296)) + (V.bAnd .u64 ((lo * p % 18446744073709551616 : Nat) : Int) 4294967295))) - (IntKind.u64.wrap ((w : Int) * ((y * p : Nat) : Int))))) s
  rw [hz, u_eq (x := (q : Int) * 4294967296) (by omega) (by omega), u_eq (by omega) (by omega)]
  exact ⟨z, by rw [Option.bind_some]; congr 2⟩

/-- A quotient of 128 bits: where the upper half is small. -/
theorem Div_eq {hi lo y : Nat} (hlo : lo < 18446744073709551616) (hhi : hi < 1024) (hy : 0 < hi → 18014398509481984 ≤ y) (hy1 : 1024 ≤ y ∨ hi = 0 ∧ 0 < y) (hy2 : y < 288230376151711744) : ∃ z, math_bits_Div64 (hi : Int) (lo : Int) (y : Int) = some ((((hi * 18446744073709551616 + lo) / y : Nat) : Int), z) := by
  by_cases h0 : hi = 0
  · subst h0
    unfold math_bits_Div64
    rw [if_neg (by simp only [beq_iff_eq]; omega), if_neg (by simp only [decide_eq_true_eq]; omega), if_pos (show (((0 : Nat) : Int) == 0) = true from rfl), quo_nat (by omega)]
    have hd := Nat.div_le_self lo y
    obtain ⟨z, hz⟩ : ∃ z, V.rem (lo : Int) (y : Int) = some z := by unfold V.rem; rw [if_neg (by omega)]; exact ⟨_, rfl⟩
    rw [hz]
    simp only [Option.bind_some]
    rw [show 0 * 18446744073709551616 + lo = lo by omega]
    obtain ⟨q, hq⟩ : ∃ q, lo / y = q := ⟨_, rfl⟩
    rw [hq] at hd ⊢
    rw [u_eq (by omega) (by omega)]
    exact ⟨z, rfl⟩
  · have hy := hy (by omega)
    obtain ⟨L, hL, hc⟩ := Len_eq hy hy2
    have hlz : ∀ s : Nat, L + s = 64 → math_bits_LeadingZeros64 (y : Int) = some (s : Int) := fun s hs => by
      unfold math_bits_LeadingZeros64
      rw [hL, Option.bind_some, w_eq (by omega) (by omega)]
      congr 1; omega
    rcases hc with ⟨e, c⟩ | ⟨e, c, d⟩ | ⟨e, c, d⟩ | ⟨e, c⟩
    · exact div_main (s := 9) (p := 512) (pp := 36028797018963968) rfl rfl (by omega) (by omega) (by omega) (by omega) rfl (by omega) (by omega) hlo hhi (by omega) hy (hlz 9 (by omega))
    · exact div_main (s := 8) (p := 256) (pp := 72057594037927936) rfl rfl (by omega) (by omega) (by omega) (by omega) rfl (by omega) (by omega) hlo hhi (by omega) hy (hlz 8 (by omega))
    · exact div_main (s := 7) (p := 128) (pp := 144115188075855872) rfl rfl (by omega) (by omega) (by omega) (by omega) rfl (by omega) (by omega) hlo hhi (by omega) hy (hlz 7 (by omega))
    · exact div_main (s := 6) (p := 64) (pp := 288230376151711744) rfl rfl (by omega) (by omega) (by omega) (by omega) rfl (by omega) (by omega) hlo hhi (by omega) hy (hlz 6 (by omega))

/-! thousandths -/
def partN (has needs : Nat) : Nat := if has = 0 ∨ needs ≥ has then 0 else (has - needs) * 1000 / has
theorem partN_le (has needs : Nat) : partN has needs ≤ 1000 := by
  unfold partN
  split
  · omega
  · rename_i h
    have : (has - needs) * 1000 / has < 1001 := by
      rw [Nat.div_lt_iff_lt_mul (by omega)]
      omega
    omega
theorem part_P {has needs : Nat} (h1 : has < 288230376151711744) (h2 : needs < 288230376151711744) : option_part (has : Int) (needs : Int) = some ((partN has needs : Nat) : Int) := by
  have hle := partN_le has needs
  unfold option_part
  by_cases h : has = 0 ∨ needs ≥ has
  · rw [if_pos (by simp only [Bool.or_eq_true, decide_eq_true_eq]; omega)]
    unfold partN; rw [if_pos h]; rfl
  · rw [if_neg (by simp only [Bool.or_eq_true, decide_eq_true_eq]; omega)]
    obtain ⟨r, hr⟩ : ∃ r, r = has - needs := ⟨_, rfl⟩
    rw [show (has : Int) - (needs : Int) = (r : Int) by omega, w_eq (by omega) (by omega), u_eq (by omega) (by omega), Mul1000 (by omega), Option.bind_some, u_eq (by omega) (by omega)]
    obtain ⟨z, hz⟩ := Div_eq (hi := r * 1000 / 18446744073709551616) (lo := r * 1000 % 18446744073709551616) (y := has) (by omega) (by omega) (by omega) (by omega) h1
    simp only
    rw [hz, Option.bind_some]
    unfold partN at hle ⊢
    rw [if_neg h, ← hr] at hle ⊢
    rw [show r * 1000 / 18446744073709551616 * 18446744073709551616 + r * 1000 % 18446744073709551616 = r * 1000 by omega]
    obtain ⟨q, hq⟩ : ∃ q, r * 1000 / has = q := ⟨_, rfl⟩
    rw [hq] at hle ⊢
    simp only
    rw [w_eq (by omega) (by omega)]
end Go.Proofs.YtbkdglcedgiogaaGreat.M

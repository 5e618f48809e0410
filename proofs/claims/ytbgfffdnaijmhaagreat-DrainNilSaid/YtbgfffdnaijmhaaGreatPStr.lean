/-
  Plain facts on numbers and texts, for the plain laws. Own text.
-/
import Derived.Test.YtbgfffdnaijmhaaGreatVEq
namespace Go.Proofs.YtbgfffdnaijmhaaGreat.V
open Go
set_option linter.unusedVariables false

theorem w_eq {x : Int} (h1 : -9223372036854775808 ≤ x) (h2 : x < 9223372036854775808) : IntKind.i64.wrap x = x := by
  by_cases h : 0 ≤ x
  · have e : x % 18446744073709551616 = x := by omega
    have e2 : decide (x ≥ 9223372036854775808) = false := by simp; omega
    simp [IntKind.wrap, IntKind.bits, IntKind.signed, e, e2]
  · have e : x % 18446744073709551616 = x + 18446744073709551616 := by omega
    have e2 : decide (x + 18446744073709551616 ≥ 9223372036854775808) = true := by simp; omega
    simp [IntKind.wrap, IntKind.bits, IntKind.signed, e]
    omega
theorem w32_eq {x : Int} (h1 : -2147483648 ≤ x) (h2 : x < 2147483648) : IntKind.i32.wrap x = x := by
  by_cases h : 0 ≤ x
  · have e : x % 4294967296 = x := by omega
    have e2 : decide (x ≥ 2147483648) = false := by simp; omega
    simp [IntKind.wrap, IntKind.bits, IntKind.signed, e, e2]
  · have e : x % 4294967296 = x + 4294967296 := by omega
    simp [IntKind.wrap, IntKind.bits, IntKind.signed, e]
    omega

theorem bt_range (s : ByteArray) (i : Nat) : 0 ≤ bt s i ∧ bt s i < 256 := by
  unfold bt
  have := (s.data.toList.getD i 0).toNat_lt
  omega
theorem bt_get (s : ByteArray) (i : Nat) (h : i < s.size) : ((s.get! i).toNat : Int) = bt s i := by
  unfold bt ByteArray.get!
  have h' : i < s.data.size := h
  have h2 : i < s.data.toList.length := by simpa using h'
  rw [List.getD_eq_getElem?_getD, List.getElem?_eq_getElem h2]
  simp [getElem!_pos s.data i h']
theorem gi_nat {s : ByteArray} {i : Nat} (h : i < s.size) : gi s (i : Int) = some (bt s i) := by
  unfold gi
  rw [if_pos ⟨Int.natCast_nonneg _, by omega⟩]
  simp
theorem gi_eq {s : ByteArray} {i : Int} {n : Nat} (he : i = n) (h : n < s.size) : gi s i = some (bt s n) := by subst he; exact gi_nat h

/-- The rune that begins with these bytes, and how many bytes it has; the truths tell whether the bytes go on with a rune. -/
def runeN (b0 b1 b2 b3 : Int) (p1 p2 p3 : Bool) : Option (Int × Nat) :=
  if b0 < 128 then some (b0, 1)
  else if 192 ≤ b0 ∧ b0 < 224 ∧ p1 = true then
    if 128 ≤ (b0 - 192) * 64 + b1 - 128 then some ((b0 - 192) * 64 + b1 - 128, 2) else none
  else if 224 ≤ b0 ∧ b0 < 240 ∧ p1 = true ∧ p2 = true then
    if 2048 ≤ (b0 - 224) * 4096 + (b1 - 128) * 64 + b2 - 128 ∧ ((b0 - 224) * 4096 + (b1 - 128) * 64 + b2 - 128 < 55296 ∨ 57343 < (b0 - 224) * 4096 + (b1 - 128) * 64 + b2 - 128) then some ((b0 - 224) * 4096 + (b1 - 128) * 64 + b2 - 128, 3) else none
  else if 240 ≤ b0 ∧ b0 < 248 ∧ p1 = true ∧ p2 = true ∧ p3 = true then
    if 65536 ≤ (b0 - 240) * 262144 + (b1 - 128) * 4096 + (b2 - 128) * 64 + b3 - 128 ∧ (b0 - 240) * 262144 + (b1 - 128) * 4096 + (b2 - 128) * 64 + b3 - 128 ≤ 1114111 then some ((b0 - 240) * 262144 + (b1 - 128) * 4096 + (b2 - 128) * 64 + b3 - 128, 4) else none
  else none

/-- Does the byte there go on with a rune? -/
def goes (s : ByteArray) (i : Nat) : Bool := decide (i < s.size) && (decide (128 ≤ bt s i) && decide (bt s i < 192))

/-- The rune at a place of a text, and how many bytes it has, if a right one begins there. -/
def rune (s : ByteArray) (i : Nat) : Option (Int × Nat) := runeN (bt s i) (bt s (i + 1)) (bt s (i + 2)) (bt s (i + 3)) (goes s (i + 1)) (goes s (i + 2)) (goes s (i + 3))

theorem bt_get' (s : ByteArray) (i : Nat) : bt s i = ((s.get! i).toNat : Int) := by
  by_cases h : i < s.size
  · exact (bt_get s i h).symm
  · have h' : ¬ i < s.data.size := h
    unfold bt ByteArray.get!
    have h2 : ¬ i < s.data.toList.length := by simpa using h'
    rw [List.getD_eq_getElem?_getD, List.getElem?_eq_none (by omega)]
    simp [getElem!_neg s.data i h']
    rfl

/-- Is it a byte that goes on with a rune? -/
theorem cont_iff (p : Prop) [Decidable p] (a : Nat) (ha : a < 256) : (decide p && a / 64 == 2) = (decide p && (decide ((128 : Int) ≤ a) && decide ((a : Int) < 192))) := by
  congr 1
  rw [Bool.eq_iff_iff]
  simp
  omega

/-- What a decoder tells of it. -/
def rdv : Option (Int × Nat) → Nat × Nat
  | some (c, w) => (c.toNat, w)
  | none => (65533, 1)

/-- What a decoder does, on numbers: the byte, the three behind it, and whether these go on with a rune. -/
def decN (a0 a1 a2 a3 : Nat) (p1 p2 p3 : Bool) : Nat × Nat :=
  if a0 < 128 then (a0, 1)
  else if (a0 / 32 == 6 && p1) = true then (if a0 % 32 * 64 + a1 % 64 ≥ 128 then (a0 % 32 * 64 + a1 % 64, 2) else (65533, 1))
  else if (a0 / 16 == 14 && p1 && p2) = true then
    (if (decide (a0 % 16 * 4096 + a1 % 64 * 64 + a2 % 64 ≥ 2048) && Utf8.valid ((a0 % 16 * 4096 + a1 % 64 * 64 + a2 % 64 : Nat) : Int)) = true then (a0 % 16 * 4096 + a1 % 64 * 64 + a2 % 64, 3) else (65533, 1))
  else if (a0 / 8 == 30 && p1 && p2 && p3) = true then
    (if (decide (a0 % 8 * 262144 + a1 % 64 * 4096 + a2 % 64 * 64 + a3 % 64 ≥ 65536) && Utf8.valid ((a0 % 8 * 262144 + a1 % 64 * 4096 + a2 % 64 * 64 + a3 % 64 : Nat) : Int)) = true then (a0 % 8 * 262144 + a1 % 64 * 4096 + a2 % 64 * 64 + a3 % 64, 4) else (65533, 1))
  else (65533, 1)

theorem decode_N (s : ByteArray) (i : Nat) : Utf8.decode s i = decN (s.get! i).toNat (s.get! (i + 1)).toNat (s.get! (i + 2)).toNat (s.get! (i + 3)).toNat
    (decide (i + 1 < s.size) && (s.get! (i + 1)).toNat / 64 == 2) (decide (i + 2 < s.size) && (s.get! (i + 2)).toNat / 64 == 2) (decide (i + 3 < s.size) && (s.get! (i + 3)).toNat / 64 == 2) := by
  unfold Utf8.decode decN
  rfl

theorem goes_N (s : ByteArray) (i : Nat) : (decide (i < s.size) && (s.get! i).toNat / 64 == 2) = goes s i := by
  have h := (s.get! i).toNat_lt
  unfold goes
  rw [bt_get', cont_iff _ _ h]

theorem goes_spec {s : ByteArray} {i : Nat} (h : goes s i = true) : i < s.size ∧ 128 ≤ bt s i ∧ bt s i < 192 := by
  simpa [goes] using h

theorem valid_iff (n : Nat) : Utf8.valid (n : Int) = true ↔ (n < 55296 ∨ (57344 ≤ n ∧ n ≤ 1114111)) := by
  unfold Utf8.valid
  simp only [Bool.or_eq_true, Bool.and_eq_true, decide_eq_true_eq]
  omega

theorem rune_decN {a0 a1 a2 a3 : Nat} {p1 p2 p3 : Bool} (l0 : a0 < 256) (h1 : p1 = true → 128 ≤ a1 ∧ a1 < 192) (h2 : p2 = true → 128 ≤ a2 ∧ a2 < 192) (h3 : p3 = true → 128 ≤ a3 ∧ a3 < 192) :
    decN a0 a1 a2 a3 p1 p2 p3 = rdv (runeN a0 a1 a2 a3 p1 p2 p3) := by
  unfold decN runeN
  by_cases q0 : a0 < 128
  · rw [if_pos q0, if_pos (show (a0 : Int) < 128 by omega)]
    simp [rdv]
  rw [if_neg q0, if_neg (show ¬ (a0 : Int) < 128 by omega)]
  by_cases q1 : a0 / 32 = 6 ∧ p1 = true
  · have := h1 q1.2
    rw [if_pos (show (a0 / 32 == 6 && p1) = true by simp [q1.1, q1.2]), if_pos (show 192 ≤ (a0 : Int) ∧ (a0 : Int) < 224 ∧ p1 = true from ⟨by omega, by omega, q1.2⟩)]
    have e : ((a0 : Int) - 192) * 64 + (a1 : Int) - 128 = ((a0 % 32 * 64 + a1 % 64 : Nat) : Int) := by omega
    rw [e]
    generalize a0 % 32 * 64 + a1 % 64 = m
    by_cases z : m ≥ 128
    · rw [if_pos z, if_pos (show 128 ≤ (m : Int) by omega)]; simp [rdv]
    · rw [if_neg z, if_neg (show ¬ 128 ≤ (m : Int) by omega)]; rfl
  rw [if_neg (show ¬ (a0 / 32 == 6 && p1) = true by simpa using q1), if_neg (show ¬ (192 ≤ (a0 : Int) ∧ (a0 : Int) < 224 ∧ p1 = true) from fun k => q1 ⟨by omega, k.2.2⟩)]
  by_cases q2 : a0 / 16 = 14 ∧ p1 = true ∧ p2 = true
  · have := h1 q2.2.1
    have := h2 q2.2.2
    rw [if_pos (show (a0 / 16 == 14 && p1 && p2) = true by simp [q2.1, q2.2.1, q2.2.2]), if_pos (show 224 ≤ (a0 : Int) ∧ (a0 : Int) < 240 ∧ p1 = true ∧ p2 = true from ⟨by omega, by omega, q2.2⟩)]
    have e : ((a0 : Int) - 224) * 4096 + ((a1 : Int) - 128) * 64 + (a2 : Int) - 128 = ((a0 % 16 * 4096 + a1 % 64 * 64 + a2 % 64 : Nat) : Int) := by omega
    have hm : a0 % 16 * 4096 + a1 % 64 * 64 + a2 % 64 < 65536 := by omega
    rw [e]
    generalize a0 % 16 * 4096 + a1 % 64 * 64 + a2 % 64 = m at *
    have vv := valid_iff m
    by_cases z : m ≥ 2048 ∧ Utf8.valid (m : Int) = true
    · have := vv.1 z.2
      rw [if_pos (show (decide (m ≥ 2048) && Utf8.valid (m : Int)) = true by simp [z.1, z.2]), if_pos (show 2048 ≤ (m : Int) ∧ ((m : Int) < 55296 ∨ 57343 < (m : Int)) by omega)]; simp [rdv]
    · rw [if_neg (show ¬ (decide (m ≥ 2048) && Utf8.valid (m : Int)) = true by simpa using z), if_neg (show ¬ (2048 ≤ (m : Int) ∧ ((m : Int) < 55296 ∨ 57343 < (m : Int))) from fun k => z ⟨by omega, vv.2 (by omega)⟩)]; rfl
  rw [if_neg (show ¬ (a0 / 16 == 14 && p1 && p2) = true by simpa [and_assoc] using q2), if_neg (show ¬ (224 ≤ (a0 : Int) ∧ (a0 : Int) < 240 ∧ p1 = true ∧ p2 = true) from fun k => q2 ⟨by omega, k.2.2⟩)]
  by_cases q3 : a0 / 8 = 30 ∧ p1 = true ∧ p2 = true ∧ p3 = true
  · have := h1 q3.2.1
    have := h2 q3.2.2.1
    have := h3 q3.2.2.2
    rw [if_pos (show (a0 / 8 == 30 && p1 && p2 && p3) = true by simp [q3.1, q3.2.1, q3.2.2.1, q3.2.2.2]), if_pos (show 240 ≤ (a0 : Int) ∧ (a0 : Int) < 248 ∧ p1 = true ∧ p2 = true ∧ p3 = true from ⟨by omega, by omega, q3.2⟩)]
    have e : ((a0 : Int) - 240) * 262144 + ((a1 : Int) - 128) * 4096 + ((a2 : Int) - 128) * 64 + (a3 : Int) - 128 = ((a0 % 8 * 262144 + a1 % 64 * 4096 + a2 % 64 * 64 + a3 % 64 : Nat) : Int) := by omega
    rw [e]
    generalize a0 % 8 * 262144 + a1 % 64 * 4096 + a2 % 64 * 64 + a3 % 64 = m at *
    have vv := valid_iff m
    by_cases z : m ≥ 65536 ∧ Utf8.valid (m : Int) = true
    · have := vv.1 z.2
      rw [if_pos (show (decide (m ≥ 65536) && Utf8.valid (m : Int)) = true by simp [z.1, z.2]), if_pos (show 65536 ≤ (m : Int) ∧ (m : Int) ≤ 1114111 by omega)]; simp [rdv]
    · rw [if_neg (show ¬ (decide (m ≥ 65536) && Utf8.valid (m : Int)) = true by simpa using z), if_neg (show ¬ (65536 ≤ (m : Int) ∧ (m : Int) ≤ 1114111) from fun k => z ⟨by omega, vv.2 (by omega)⟩)]; rfl
  rw [if_neg (show ¬ (a0 / 8 == 30 && p1 && p2 && p3) = true by simpa [and_assoc] using q3), if_neg (show ¬ (240 ≤ (a0 : Int) ∧ (a0 : Int) < 248 ∧ p1 = true ∧ p2 = true ∧ p3 = true) from fun k => q3 ⟨by omega, k.2.2⟩)]; rfl

theorem decode_rune (s : ByteArray) (i : Nat) : Utf8.decode s i = rdv (rune s i) := by
  have e : rune s i = runeN (s.get! i).toNat (s.get! (i + 1)).toNat (s.get! (i + 2)).toNat (s.get! (i + 3)).toNat (goes s (i + 1)) (goes s (i + 2)) (goes s (i + 3)) := by
    unfold rune
    rw [bt_get' s i, bt_get' s (i + 1), bt_get' s (i + 2), bt_get' s (i + 3)]
  have l0 : (s.get! i).toNat < 256 := (s.get! i).toNat_lt
  rw [decode_N, goes_N, goes_N, goes_N, e]
  have k : ∀ j, goes s j = true → 128 ≤ (s.get! j).toNat ∧ (s.get! j).toNat < 192 := fun j h => by
    have := goes_spec h
    rw [bt_get'] at this
    omega
  generalize (s.get! i).toNat = a0 at *
  exact rune_decN (by omega) (k _) (k _) (k _)

/-- What a right rune is like. -/
theorem rune_some {s : ByteArray} {i : Nat} {c : Int} {w : Nat} (hi : i < s.size) (h : rune s i = some (c, w)) : 0 ≤ c ∧ c ≤ 1114111 ∧ 1 ≤ w ∧ w ≤ 4 ∧ i + w ≤ s.size := by
  have r0 := bt_range s i
  have g1 : goes s (i + 1) = true → _ := goes_spec
  have g2 : goes s (i + 2) = true → _ := goes_spec
  have g3 : goes s (i + 3) = true → _ := goes_spec
  unfold rune runeN at h
  split at h
  · simp only [Option.some.injEq, Prod.mk.injEq] at h; omega
  split at h
  · rename_i q
    have := g1 q.2.2
    split at h
    · simp only [Option.some.injEq, Prod.mk.injEq] at h; omega
    · cases h
  split at h
  · rename_i q
    have := g1 q.2.2.1
    have := g2 q.2.2.2
    split at h
    · simp only [Option.some.injEq, Prod.mk.injEq] at h; omega
    · cases h
  split at h
  · rename_i q
    have := g1 q.2.2.1
    have := g2 q.2.2.2.1
    have := g3 q.2.2.2.2
    split at h
    · simp only [Option.some.injEq, Prod.mk.injEq] at h; omega
    · cases h
  · cases h

end Go.Proofs.YtbgfffdnaijmhaaGreat.V

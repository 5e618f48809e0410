/-
  Plain laws of lex: runes. Own text.
-/
import Derived.Test.YtbnohlgchjcjhaaRTF
import Derived.Test.YtbnohlgchjcjhaaPStr
namespace Go.Proofs.Ytbnohlgchjcjhaa.M
open Go Go.Proofs Go.Proofs.Ytbnohlgchjcjhaa.V
set_option linter.unusedVariables false

def rv : Option (Int × Nat) → Int × Int
  | some (c, w) => (c, (w : Int))
  | none => (0, 0)

theorem more_eq {s : ByteArray} (j : Nat) : ref01_more s (j : Int) = some (goes s j) := by
  unfold ref01_more goes
  by_cases h : j < s.size
  · have h' : (j : Int) < (s.size : Int) := by omega
    simp only [h', decide_true, if_true, gi_nat h, Option.bind_some, h, Bool.true_and]
    by_cases h2 : 128 ≤ bt s j
    · simp [h2]
    · simp [h2]
  · have h' : ¬ (j : Int) < (s.size : Int) := by omega
    simp [h', h]

theorem Rune_eq {s : ByteArray} {i : Nat} (h : i < s.size) (hs : s.size < 281474976710656) : ref01_Rune s (i : Int) = some (rv (rune s i)) := by
  have b0 := bt_range s i
  have b1 := bt_range s (i + 1)
  have b2 := bt_range s (i + 2)
  have b3 := bt_range s (i + 3)
  have e1 : IntKind.i64.wrap ((i : Int) + 1) = ((i + 1 : Nat) : Int) := by rw [w_eq (by omega) (by omega)]; omega
  have e2 : IntKind.i64.wrap ((i : Int) + 2) = ((i + 2 : Nat) : Int) := by rw [w_eq (by omega) (by omega)]; omega
  have e3 : IntKind.i64.wrap ((i : Int) + 3) = ((i + 3 : Nat) : Int) := by rw [w_eq (by omega) (by omega)]; omega
  unfold ref01_Rune rune runeN
  simp only [gi_nat h, Option.bind_some, e1, e2, e3, more_eq]
  have w0 : IntKind.i64.wrap (bt s i) = bt s i := w_eq (by omega) (by omega)
  have w1 : IntKind.i64.wrap (bt s (i + 1)) = bt s (i + 1) := w_eq (by omega) (by omega)
  have w2 : IntKind.i64.wrap (bt s (i + 2)) = bt s (i + 2) := w_eq (by omega) (by omega)
  have w3 : IntKind.i64.wrap (bt s (i + 3)) = bt s (i + 3) := w_eq (by omega) (by omega)
  simp only [w0]
  have g1 : goes s (i + 1) = true → _ := goes_spec
  have g2 : goes s (i + 2) = true → _ := goes_spec
  have g3 : goes s (i + 3) = true → _ := goes_spec
  by_cases q0 : bt s i < 128
  · simp [q0, rv]
  simp only [q0, decide_false, Bool.false_eq_true, if_false]
  cases c1 : goes s (i + 1) with
  | false =>
    simp only [Option.bind_some, ite_self, Bool.false_eq_true, if_false, and_false, false_and, rv]
  | true =>
    have k1 := g1 c1
    simp only [Option.bind_some, gi_nat k1.1, w1]
    by_cases q1 : 192 ≤ bt s i ∧ bt s i < 224
    · have d1 : (decide (bt s i ≥ 192) && decide (bt s i < 224)) = true := by simpa using q1
      simp only [d1, if_true, Option.bind_some, q1, and_self, and_true]
      simp (disch := omega) only [w_eq]
      by_cases z : 128 ≤ (bt s i - 192) * 64 + bt s (i + 1) - 128
      · simp [z, rv]
      · simp [z, rv]
    have d1 : (decide (bt s i ≥ 192) && decide (bt s i < 224)) = false := by
      rw [Bool.eq_false_iff]; intro k; exact q1 (by simpa using k)
    have n1 : ∀ p : Prop, ¬ (192 ≤ bt s i ∧ bt s i < 224 ∧ p) := fun p k => q1 ⟨k.1, k.2.1⟩
    simp only [d1, Bool.false_eq_true, if_false, Option.bind_some, if_neg (n1 _)]
    by_cases q2 : 224 ≤ bt s i ∧ bt s i < 240
    · have d2 : (decide (bt s i ≥ 224) && decide (bt s i < 240)) = true := by simpa using q2
      simp only [d2, if_true, Option.bind_some]
      cases c2 : goes s (i + 2) with
      | false =>
        have n4 : ¬ (240 ≤ bt s i ∧ bt s i < 248) := by omega
        have d4 : (decide (bt s i ≥ 240) && decide (bt s i < 248)) = false := by
          rw [Bool.eq_false_iff]; intro k; exact n4 (by simpa using k)
        have n5 : ∀ p : Prop, ¬ (240 ≤ bt s i ∧ bt s i < 248 ∧ p) := fun p k => n4 ⟨k.1, k.2.1⟩
        simp [d4, if_neg (n5 _), rv]
      | true =>
        have k2 := g2 c2
        simp only [if_true, Option.bind_some, gi_nat k2.1, q2, and_self, w2]
        simp (disch := omega) only [w_eq]
        by_cases z : 2048 ≤ (bt s i - 224) * 4096 + (bt s (i + 1) - 128) * 64 + bt s (i + 2) - 128 ∧ ((bt s i - 224) * 4096 + (bt s (i + 1) - 128) * 64 + bt s (i + 2) - 128 < 55296 ∨ 57343 < (bt s i - 224) * 4096 + (bt s (i + 1) - 128) * 64 + bt s (i + 2) - 128)
        · rw [if_pos (by simpa using z), if_pos z]; rfl
        · have n4 : ¬ (240 ≤ bt s i) := by omega
          rw [if_neg (by simpa using z), if_neg z]; rfl
    have d2 : (decide (bt s i ≥ 224) && decide (bt s i < 240)) = false := by
      rw [Bool.eq_false_iff]; intro k; exact q2 (by simpa using k)
    have n2 : ∀ p q : Prop, ¬ (224 ≤ bt s i ∧ bt s i < 240 ∧ p ∧ q) := fun p q k => q2 ⟨k.1, k.2.1⟩
    simp only [d2, Bool.false_eq_true, if_false, Option.bind_some, if_neg (n2 _ _)]
    by_cases q3 : 240 ≤ bt s i ∧ bt s i < 248
    · have d3 : (decide (bt s i ≥ 240) && decide (bt s i < 248)) = true := by simpa using q3
      simp only [d3, if_true, Option.bind_some]
      cases c2 : goes s (i + 2) with
      | false => simp [rv]
      | true =>
        have k2 := g2 c2
        cases c3 : goes s (i + 3) with
        | false => simp [rv]
        | true =>
          have k3 := g3 c3
          simp only [if_true, Option.bind_some, gi_nat k2.1, gi_nat k3.1, q3, and_self, w2, w3]
          simp (disch := omega) only [w_eq]
          by_cases z : 65536 ≤ (bt s i - 240) * 262144 + (bt s (i + 1) - 128) * 4096 + (bt s (i + 2) - 128) * 64 + bt s (i + 3) - 128 ∧ (bt s i - 240) * 262144 + (bt s (i + 1) - 128) * 4096 + (bt s (i + 2) - 128) * 64 + bt s (i + 3) - 128 ≤ 1114111
          · rw [if_pos (by simpa using z), if_pos z]; rfl
          · rw [if_neg (by simpa using z), if_neg z]; rfl
    have d3 : (decide (bt s i ≥ 240) && decide (bt s i < 248)) = false := by
      rw [Bool.eq_false_iff]; intro k; exact q3 (by simpa using k)
    have n3 : ∀ p q r : Prop, ¬ (240 ≤ bt s i ∧ bt s i < 248 ∧ p ∧ q ∧ r) := fun p q r k => q3 ⟨k.1, k.2.1⟩
    simp only [d3, Bool.false_eq_true, if_false, Option.bind_some, if_neg (n3 _ _ _), rv]

/-- What a range tells of a place, and whether a right rune stands there. -/
theorem right_eq {s : ByteArray} {i : Nat} (h : i < s.size) (hs : s.size < 281474976710656) : lex_right s (i : Int) ((Utf8.decode s i).1 : Int) = some (rune s i).isSome := by
  have b0 := bt_range s i
  have b1 := bt_range s (i + 1)
  have b2 := bt_range s (i + 2)
  have b3 := bt_range s (i + 3)
  have e1 : IntKind.i64.wrap ((i : Int) + 1) = ((i + 1 : Nat) : Int) := by rw [w_eq (by omega) (by omega)]; omega
  have e2 : IntKind.i64.wrap ((i : Int) + 2) = ((i + 2 : Nat) : Int) := by rw [w_eq (by omega) (by omega)]; omega
  have g1 : goes s (i + 1) = true → _ := goes_spec
  have g2 : goes s (i + 2) = true → _ := goes_spec
  have g3 : goes s (i + 3) = true → _ := goes_spec
  -- the three bytes of the rune that a decoder tells for what is wrong
  have key : lex_right s (i : Int) 65533 = some (decide (i + 2 < s.size ∧ bt s i = 239 ∧ bt s (i + 1) = 191 ∧ bt s (i + 2) = 189)) := by
    unfold lex_right
    simp only [e1, e2, bne_self_eq_false, Bool.false_eq_true, if_false]
    by_cases q : i + 2 < s.size
    · have q1 : i + 1 < s.size := by omega
      simp only [show (((i + 2 : Nat) : Int) < (s.size : Int)) by omega, decide_true, if_true, gi_nat h, gi_nat q, gi_nat q1, Option.bind_some, q, true_and]
      by_cases z0 : bt s i = 239 <;> by_cases z1 : bt s (i + 1) = 191 <;> by_cases z2 : bt s (i + 2) = 189 <;> simp [z0, z1, z2]
    · simp only [show ¬ (((i + 2 : Nat) : Int) < (s.size : Int)) by omega, decide_false, Bool.false_eq_true, if_false, Option.bind_some, q, false_and]
  cases hr : rune s i with
  | none =>
    rw [decode_rune, hr]
    show lex_right s (i : Int) 65533 = _
    rw [key]
    simp only [Option.isSome_none, Option.some.injEq, decide_eq_false_iff_not]
    rintro ⟨q, z0, z1, z2⟩
    have c1 : goes s (i + 1) = true := by unfold goes; simp; omega
    have c2 : goes s (i + 2) = true := by unfold goes; simp; omega
    unfold rune runeN at hr
    simp [z0, z1, z2, c1, c2] at hr
  | some p =>
    obtain ⟨c, w⟩ := p
    have hc := rune_some h hr
    rw [decode_rune, hr]
    show lex_right s (i : Int) ((c.toNat : Nat) : Int) = _
    rw [Int.toNat_of_nonneg hc.1]
    by_cases z : c = 65533
    · subst z
      rw [key]
      simp only [Option.isSome_some, Option.some.injEq, decide_eq_true_eq]
      unfold rune runeN at hr
      split at hr
      · simp only [Option.some.injEq, Prod.mk.injEq] at hr; omega
      split at hr
      · rename_i q
        have := g1 q.2.2
        split at hr
        · simp only [Option.some.injEq, Prod.mk.injEq] at hr; omega
        · cases hr
      split at hr
      · rename_i q
        have := g1 q.2.2.1
        have := g2 q.2.2.2
        split at hr
        · simp only [Option.some.injEq, Prod.mk.injEq] at hr; omega
        · cases hr
      split at hr
      · rename_i q
        have := g1 q.2.2.1
        have := g2 q.2.2.2.1
        have := g3 q.2.2.2.2
        split at hr
        · simp only [Option.some.injEq, Prod.mk.injEq] at hr; omega
        · cases hr
      · cases hr
    · unfold lex_right
      simp [z]
end Go.Proofs.Ytbnohlgchjcjhaa.M

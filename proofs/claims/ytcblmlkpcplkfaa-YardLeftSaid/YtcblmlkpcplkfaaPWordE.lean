/-
  Plain laws of words: the program's and the document's are alike. Own text.
-/
import Derived.Test.YtcblmlkpcplkfaaPWord
namespace Go.Proofs.Ytcblmlkpcplkfaa.M
open Go Go.Proofs Go.Proofs.Ytcblmlkpcplkfaa.V
set_option linter.unusedVariables false

/-- What a range tells of a place, and whether a right rune stands there. -/
theorem right_eq {s : ByteArray} {i : Nat} (h : i < s.size) (hs : s.size < 281474976710656) : lex_right s (i : Int) ((Utf8.decode s i).1 : Int) = some (rune s i).isSome := by
  have b0 := bt_range s i
  have b1 := bt_range s (i + 1)
  have b2 := bt_range s (i + 2)
  have b3 := bt_range s (i + 3)
  have e1 : IntKind.i64.wrap ((i : Int) + 1) = ((i + 1 : Nat) : Int) := by rw [w_eq (by omega) (by omega)]; omega
  have e2 : IntKind.i64.wrap ((i : Int) + 2) = ((i + 2 : Nat) : Int) := by rw [w_eq (by omega) (by omega)]; omega
  have g1 : goes s (i + 1) = true → _ := goes_spec
  have g2 : goes s (i + 2) = true → _ := goes_spec
  have g3 : goes s (i + 3) = true → _ := goes_spec
  -- the three bytes of the rune that a decoder tells for what is wrong
  have key : lex_right s (i : Int) 65533 = some (decide (i + 2 < s.size ∧ bt s i = 239 ∧ bt s (i + 1) = 191 ∧ bt s (i + 2) = 189)) := by
    unfold lex_right
    simp only [e1, e2, bne_self_eq_false, Bool.false_eq_true, if_false]
    by_cases q : i + 2 < s.size
    · have q1 : i + 1 < s.size := by omega
      simp only [show (((i + 2 : Nat) : Int) < (s.size : Int)) by omega, decide_true, if_true, gi_nat h, gi_nat q, gi_nat q1, Option.bind_some, q, true_and]
      by_cases z0 : bt s i = 239 <;> by_cases z1 : bt s (i + 1) = 191 <;> by_cases z2 : bt s (i + 2) = 189 <;> simp [z0, z1, z2]
    · simp only [show ¬ (((i + 2 : Nat) : Int) < (s.size : Int)) by omega, decide_false, Bool.false_eq_true, if_false, Option.bind_some, q, false_and]
  cases hr : rune s i with
  | none =>
    rw [decode_rune, hr]
    show lex_right s (i : Int) 65533 = _
    rw [key]
    simp only [Option.isSome_none, Option.some.injEq, decide_eq_false_iff_not]
    rintro ⟨q, z0, z1, z2⟩
    have c1 : goes s (i + 1) = true := by unfold goes; simp; omega
    have c2 : goes s (i + 2) = true := by unfold goes; simp; omega
    unfold rune runeN at hr
    simp [z0, z1, z2, c1, c2] at hr
  | some p =>
    obtain ⟨c, w⟩ := p
    have hc := rune_some h hr
    rw [decode_rune, hr]
    show lex_right s (i : Int) ((c.toNat : Nat) : Int) = _
    rw [Int.toNat_of_nonneg hc.1]
    by_cases z : c = 65533
    · subst z
      rw [key]
      simp only [Option.isSome_some, Option.some.injEq, decide_eq_true_eq]
      unfold rune runeN at hr
      split at hr
      · simp only [Option.some.injEq, Prod.mk.injEq] at hr; omega
      split at hr
      · rename_i q
        have := g1 q.2.2
        split at hr
        · simp only [Option.some.injEq, Prod.mk.injEq] at hr; omega
        · cases hr
      split at hr
      · rename_i q
        have := g1 q.2.2.1
        have := g2 q.2.2.2
        split at hr
        · simp only [Option.some.injEq, Prod.mk.injEq] at hr; omega
        · cases hr
      split at hr
      · rename_i q
        have := g1 q.2.2.1
        have := g2 q.2.2.2.1
        have := g3 q.2.2.2.2
        split at hr
        · simp only [Option.some.injEq, Prod.mk.injEq] at hr; omega
        · cases hr
      · cases hr
    · unfold lex_right
      simp [z]

theorem plain_eq (c : Int) : lex_plain c = ref01_plain c := by
  unfold lex_plain ref01_plain
  by_cases h1 : c = 40
  · subst h1; rfl
  by_cases h2 : c = 41
  · subst h2; rfl
  by_cases h3 : c = 34
  · subst h3; rfl
  by_cases h4 : c = 59
  · subst h4; rfl
  by_cases h5 : c = 127
  · subst h5; rfl
  have e1 : (c != 40) = true := by simpa using h1
  have e2 : (c != 41) = true := by simpa using h2
  have e3 : (c != 34) = true := by simpa using h3
  have e4 : (c != 59) = true := by simpa using h4
  have e5 : (c != 127) = true := by simpa using h5
  simp only [e1, e2, e3, e4, e5, Bool.and_true]
  simp [h1, h2, h3, h4, h5]

/-- The head of a text, its word, its runes: one walk. -/
theorem Word_loop {s : ByteArray} (hs : s.size < 281474976710656) : ∀ (k pos : Nat) (n : Int) (f1 f2 f3 : Nat), s.size - pos ≤ k → k < f1 → k < f2 → k < f3 → pos ≤ s.size → 0 ≤ n → n + k < 4611686018427387904 →
    (∃ m : Nat, lex_head_lex_plain.l1 s f1 pos = some (Out.go ()) ∧ ref01_Word.l1 s f2 n (pos : Int) = some (Out.go (n + m)) ∧ lex_Runes.l1 s f3 n pos = some (Out.go (n + m)) ∧ (pos < s.size → 1 ≤ m) ∧ (pos = s.size → m = 0)) ∨
    (∃ p b, lex_head_lex_plain.l1 s f1 pos = some (Out.ret (p, b)) ∧ (b = false ∨ p < s.size) ∧ ref01_Word.l1 s f2 n (pos : Int) = some (Out.ret false)) := by
  intro k
  induction k with
  | zero =>
    intro pos n f1 f2 f3 h1 h2 h3 h4 h5 h6 h7
    obtain ⟨f1, rfl⟩ : ∃ q, f1 = q + 1 := ⟨f1 - 1, by omega⟩
    obtain ⟨f2, rfl⟩ : ∃ q, f2 = q + 1 := ⟨f2 - 1, by omega⟩
    obtain ⟨f3, rfl⟩ : ∃ q, f3 = q + 1 := ⟨f3 - 1, by omega⟩
    refine .inl ⟨0, ?_, ?_, ?_, by omega, by omega⟩
    · rw [lex_head_lex_plain.l1, if_neg (by omega)]
    · rw [ref01_Word.l1, if_neg (by simp; omega)]; simp
    · rw [lex_Runes.l1, if_neg (by omega)]; simp
  | succ k ih =>
    intro pos n f1 f2 f3 h1 h2 h3 h4 h5 h6 h7
    obtain ⟨f1, rfl⟩ : ∃ q, f1 = q + 1 := ⟨f1 - 1, by omega⟩
    obtain ⟨f2, rfl⟩ : ∃ q, f2 = q + 1 := ⟨f2 - 1, by omega⟩
    obtain ⟨f3, rfl⟩ : ∃ q, f3 = q + 1 := ⟨f3 - 1, by omega⟩
    by_cases hp : pos < s.size
    · rw [lex_head_lex_plain.l1, ref01_Word.l1, lex_Runes.l1, if_pos hp, if_pos (show (decide ((pos : Int) < (s.size : Int))) = true by simp; omega), if_pos hp, right_eq hp hs, Rune_eq hp hs, decode_rune]
      cases hr : rune s pos with
      | none => exact .inr ⟨_, _, rfl, .inl rfl, rfl⟩
      | some p =>
        obtain ⟨c, w⟩ := p
        have hw := rune_some hp hr
        have e : IntKind.i64.wrap ((pos : Int) + (w : Int)) = ((pos + w : Nat) : Int) := by rw [w_eq (by omega) (by omega)]; omega
        have en : IntKind.i64.wrap (n + 1) = n + 1 := w_eq (by omega) (by omega)
        have ec : ((c.toNat : Nat) : Int) = c := Int.toNat_of_nonneg hw.1
        simp only [rdv, rv, Option.isSome_some, Option.bind_some, Bool.not_true, Bool.false_eq_true, if_false, ec, rv2 hp hr, plain_eq, e, en]
        obtain ⟨b, hb⟩ : ∃ b, ref01_plain c = some b := ⟨_, rfl⟩
        simp only [hb, Option.bind_some]
        cases b with
        | false => exact .inr ⟨_, _, rfl, .inr (by simpa using hp), rfl⟩
        | true =>
          simp only [Bool.not_true, Bool.false_eq_true, if_false]
          rcases ih (pos + w) (n + 1) f1 f2 f3 (by omega) (by omega) (by omega) (by omega) (by omega) (by omega) (by omega) with ⟨m, g1, g2, g3, g4, g5⟩ | ⟨p, b, g1, g2, g3⟩
          · refine .inl ⟨m + 1, g1, ?_, ?_, by omega, by omega⟩
            · rw [g2, show n + 1 + (m : Int) = n + ((m + 1 : Nat) : Int) by omega]
            · rw [g3, show n + 1 + (m : Int) = n + ((m + 1 : Nat) : Int) by omega]
          · exact .inr ⟨p, b, g1, g2, g3⟩
    · refine .inl ⟨0, ?_, ?_, ?_, by omega, by omega⟩
      · rw [lex_head_lex_plain.l1, if_neg hp]
      · rw [ref01_Word.l1, if_neg (by simp; omega)]; simp
      · rw [lex_Runes.l1, if_neg hp]; simp

theorem Word_eq {s : ByteArray} (hs : s.size < 281474976710656) : ∃ b, lex_Word s = some b ∧ ref01_Word s = some b := by
  have hz : (0 : Int) = ((0 : Nat) : Int) := rfl
  unfold lex_Word ref01_Word lex_head_lex_plain lex_Runes
  rcases Word_loop hs s.size 0 0 FU FU FU (by omega) (by unfold FU; omega) (by unfold FU; omega) (by unfold FU; omega) (by omega) (by omega) (by omega) with ⟨m, g1, g2, g3, g4, g5⟩ | ⟨p, b, g1, g2, g3⟩
  · have g2' : ref01_Word.l1 s FU 0 0 = some (Out.go (0 + (m : Int))) := g2
    rw [g1, g2', g3]
    simp only [Option.bind_some, Out.on, beq_self_eq_true, Bool.and_true, Bool.true_and]
    by_cases hp : 0 < s.size
    · have := g4 hp
      refine ⟨decide ((m : Int) ≤ 64), ?_, ?_⟩
      · simp [hp]
      · simp; omega
    · have := g5 (by omega)
      refine ⟨false, ?_, ?_⟩
      · simp [hp]
      · simp [this]
  · have g3' : ref01_Word.l1 s FU 0 0 = some (Out.ret false) := g3
    rw [g1, g3']
    simp only [Option.bind_some, Out.on]
    refine ⟨false, ?_, rfl⟩
    rcases g2 with rfl | g2
    · simp
    · simp [show ¬ p = (s.size : Int) by omega]

end Go.Proofs.Ytcblmlkpcplkfaa.M

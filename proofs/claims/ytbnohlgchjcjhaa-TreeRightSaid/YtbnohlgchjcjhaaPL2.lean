/-
  Plain laws of lex: runes counted, words, quotes; the law LexTexts. Own text.
-/
import Derived.Test.YtbnohlgchjcjhaaPL1
namespace Go.Proofs.Ytbnohlgchjcjhaa.M
open Go Go.Proofs Go.Proofs.Ytbnohlgchjcjhaa.V
set_option linter.unusedVariables false

theorem plain_eq (c : Int) : lex_plain c = ref01_plain c := by
  unfold lex_plain ref01_plain
  by_cases h1 : c = 40
  · subst h1; rfl
  by_cases h2 : c = 41
  · subst h2; rfl
  by_cases h3 : c = 34
  · subst h3; rfl
  by_cases h4 : c = 59
  · subst h4; rfl
  by_cases h5 : c = 127
  · subst h5; rfl
  have e1 : (c != 40) = true := by simpa using h1
  have e2 : (c != 41) = true := by simpa using h2
  have e3 : (c != 34) = true := by simpa using h3
  have e4 : (c != 59) = true := by simpa using h4
  have e5 : (c != 127) = true := by simpa using h5
  simp only [e1, e2, e3, e4, e5, Bool.and_true]
  simp [h1, h2, h3, h4, h5]

theorem rv2 {s : ByteArray} {i w : Nat} {c : Int} (hi : i < s.size) (h : rune s i = some (c, w)) : ((w : Int) == 0) = false := by
  have := rune_some hi h
  simp; omega

/-- Runes are counted alike. -/
theorem Runes_loop {s : ByteArray} (hs : s.size < 281474976710656) : ∀ (k pos : Nat) (n : Int) (f1 f2 : Nat), s.size - pos ≤ k → k < f1 → k < f2 → pos ≤ s.size →
    ∃ o, lex_Runes.l1 s f1 n pos = some o ∧ ref01_Runes.l1 s f2 n (pos : Int) = some o := by
  intro k
  induction k with
  | zero =>
    intro pos n f1 f2 h1 h2 h3 h4
    obtain ⟨f1, rfl⟩ : ∃ q, f1 = q + 1 := ⟨f1 - 1, by omega⟩
    obtain ⟨f2, rfl⟩ : ∃ q, f2 = q + 1 := ⟨f2 - 1, by omega⟩
    refine ⟨Out.go n, ?_, ?_⟩
    · rw [lex_Runes.l1, if_neg (by omega)]
    · rw [ref01_Runes.l1, if_neg (by simp; omega)]
  | succ k ih =>
    intro pos n f1 f2 h1 h2 h3 h4
    obtain ⟨f1, rfl⟩ : ∃ q, f1 = q + 1 := ⟨f1 - 1, by omega⟩
    obtain ⟨f2, rfl⟩ : ∃ q, f2 = q + 1 := ⟨f2 - 1, by omega⟩
    by_cases hp : pos < s.size
    · rw [lex_Runes.l1, ref01_Runes.l1, if_pos hp, if_pos (by simp; omega), right_eq hp hs, Rune_eq hp hs, decode_rune]
      cases hr : rune s pos with
      | none => exact ⟨_, rfl, rfl⟩
      | some p =>
        obtain ⟨c, w⟩ := p
        have hw := rune_some hp hr
        have e : IntKind.i64.wrap ((pos : Int) + (w : Int)) = ((pos + w : Nat) : Int) := by rw [w_eq (by omega) (by omega)]; omega
        obtain ⟨o, g1, g2⟩ := ih (pos + w) (IntKind.i64.wrap (n + 1)) f1 f2 (by omega) (by omega) (by omega) (by omega)
        refine ⟨o, ?_, ?_⟩
        · simpa [rdv] using g1
        · simp only [rv, Option.bind_some, rv2 hp hr, Bool.false_eq_true, if_false, e]; exact g2
    · refine ⟨Out.go n, ?_, ?_⟩
      · rw [lex_Runes.l1, if_neg hp]
      · rw [ref01_Runes.l1, if_neg (by simp; omega)]

theorem Runes_eq {s : ByteArray} (hs : s.size < 281474976710656) : ∃ n, lex_Runes s = some n ∧ ref01_Runes s = some n := by
  obtain ⟨o, h1, h2⟩ := Runes_loop hs s.size 0 0 FU FU (by omega) (by unfold FU; omega) (by unfold FU; omega) (by omega)
  unfold lex_Runes ref01_Runes
  rw [h1]
  have h2' : ref01_Runes.l1 s FU 0 0 = some o := h2
  rw [h2']
  cases o with
  | ret r => exact ⟨r, rfl, rfl⟩
  | go r => exact ⟨r, rfl, rfl⟩

/-- The head of a text, its word, its runes: one walk. -/
theorem Word_loop {s : ByteArray} (hs : s.size < 281474976710656) : ∀ (k pos : Nat) (n : Int) (f1 f2 f3 : Nat), s.size - pos ≤ k → k < f1 → k < f2 → k < f3 → pos ≤ s.size → 0 ≤ n → n + k < 4611686018427387904 →
    (∃ m : Nat, lex_head_lex_plain.l1 s f1 pos = some (Out.go ()) ∧ ref01_Word.l1 s f2 n (pos : Int) = some (Out.go (n + m)) ∧ lex_Runes.l1 s f3 n pos = some (Out.go (n + m)) ∧ (pos < s.size → 1 ≤ m) ∧ (pos = s.size → m = 0)) ∨
    (∃ p b, lex_head_lex_plain.l1 s f1 pos = some (Out.ret (p, b)) ∧ (b = false ∨ p < s.size) ∧ ref01_Word.l1 s f2 n (pos : Int) = some (Out.ret false)) := by
  intro k
  induction k with
  | zero =>
    intro pos n f1 f2 f3 h1 h2 h3 h4 h5 h6 h7
    obtain ⟨f1, rfl⟩ : ∃ q, f1 = q + 1 := ⟨f1 - 1, by omega⟩
    obtain ⟨f2, rfl⟩ : ∃ q, f2 = q + 1 := ⟨f2 - 1, by omega⟩
    obtain ⟨f3, rfl⟩ : ∃ q, f3 = q + 1 := ⟨f3 - 1, by omega⟩
    refine .inl ⟨0, ?_, ?_, ?_, by omega, by omega⟩
    · rw [lex_head_lex_plain.l1, if_neg (by omega)]
    · rw [ref01_Word.l1, if_neg (by simp; omega)]; simp
    · rw [lex_Runes.l1, if_neg (by omega)]; simp
  | succ k ih =>
    intro pos n f1 f2 f3 h1 h2 h3 h4 h5 h6 h7
    obtain ⟨f1, rfl⟩ : ∃ q, f1 = q + 1 := ⟨f1 - 1, by omega⟩
    obtain ⟨f2, rfl⟩ : ∃ q, f2 = q + 1 := ⟨f2 - 1, by omega⟩
    obtain ⟨f3, rfl⟩ : ∃ q, f3 = q + 1 := ⟨f3 - 1, by omega⟩
    by_cases hp : pos < s.size
    · rw [lex_head_lex_plain.l1, ref01_Word.l1, lex_Runes.l1, if_pos hp, if_pos (show (decide ((pos : Int) < (s.size : Int))) = true by simp; omega), if_pos hp, right_eq hp hs, Rune_eq hp hs, decode_rune]
      cases hr : rune s pos with
      | none => exact .inr ⟨_, _, rfl, .inl rfl, rfl⟩
      | some p =>
        obtain ⟨c, w⟩ := p
        have hw := rune_some hp hr
        have e : IntKind.i64.wrap ((pos : Int) + (w : Int)) = ((pos + w : Nat) : Int) := by rw [w_eq (by omega) (by omega)]; omega
        have en : IntKind.i64.wrap (n + 1) = n + 1 := w_eq (by omega) (by omega)
        have ec : ((c.toNat : Nat) : Int) = c := Int.toNat_of_nonneg hw.1
        simp only [rdv, rv, Option.isSome_some, Option.bind_some, Bool.not_true, Bool.false_eq_true, if_false, ec, rv2 hp hr, plain_eq, e, en]
        obtain ⟨b, hb⟩ : ∃ b, ref01_plain c = some b := ⟨_, rfl⟩
        simp only [hb, Option.bind_some]
        cases b with
        | false => exact .inr ⟨_, _, rfl, .inr (by simpa using hp), rfl⟩
        | true =>
          simp only [Bool.not_true, Bool.false_eq_true, if_false]
          rcases ih (pos + w) (n + 1) f1 f2 f3 (by omega) (by omega) (by omega) (by omega) (by omega) (by omega) (by omega) with ⟨m, g1, g2, g3, g4, g5⟩ | ⟨p, b, g1, g2, g3⟩
          · refine .inl ⟨m + 1, g1, ?_, ?_, by omega, by omega⟩
            · rw [g2, show n + 1 + (m : Int) = n + ((m + 1 : Nat) : Int) by omega]
            · rw [g3, show n + 1 + (m : Int) = n + ((m + 1 : Nat) : Int) by omega]
          · exact .inr ⟨p, b, g1, g2, g3⟩
    · refine .inl ⟨0, ?_, ?_, ?_, by omega, by omega⟩
      · rw [lex_head_lex_plain.l1, if_neg hp]
      · rw [ref01_Word.l1, if_neg (by simp; omega)]; simp
      · rw [lex_Runes.l1, if_neg hp]; simp

theorem Word_eq {s : ByteArray} (hs : s.size < 281474976710656) : ∃ b, lex_Word s = some b ∧ ref01_Word s = some b := by
  have hz : (0 : Int) = ((0 : Nat) : Int) := rfl
  unfold lex_Word ref01_Word lex_head_lex_plain lex_Runes
  rcases Word_loop hs s.size 0 0 FU FU FU (by omega) (by unfold FU; omega) (by unfold FU; omega) (by unfold FU; omega) (by omega) (by omega) (by omega) with ⟨m, g1, g2, g3, g4, g5⟩ | ⟨p, b, g1, g2, g3⟩
  · have g2' : ref01_Word.l1 s FU 0 0 = some (Out.go (0 + (m : Int))) := g2
    rw [g1, g2', g3]
    simp only [Option.bind_some, Out.on, beq_self_eq_true, Bool.and_true, Bool.true_and]
    by_cases hp : 0 < s.size
    · have := g4 hp
      refine ⟨decide ((m : Int) ≤ 64), ?_, ?_⟩
      · simp [hp]
      · simp; omega
    · have := g5 (by omega)
      refine ⟨false, ?_, ?_⟩
      · simp [hp]
      · simp [this]
  · have g3' : ref01_Word.l1 s FU 0 0 = some (Out.ret false) := g3
    rw [g1, g3']
    simp only [Option.bind_some, Out.on]
    refine ⟨false, ?_, rfl⟩
    rcases g2 with rfl | g2
    · simp
    · simp [show ¬ p = (s.size : Int) by omega]

/-- A text is put in quotes alike. -/
theorem Quote_loop {s : ByteArray} (hs : s.size < 281474976710656) : ∀ (k i : Nat) (b : List Int) (f1 f2 : Nat), s.size - i ≤ k → k < f1 → k < f2 → i ≤ s.size → b.length + 2 * k ≤ 70368744177664 →
    ∃ r, lex_Quote.l1 s f1 b (i : Int) = some r ∧ ref01_Quote.l1 s f2 b (i : Int) = some r ∧ r.length ≤ b.length + 2 * k := by
  intro k
  induction k with
  | zero =>
    intro i b f1 f2 h1 h2 h3 h4 h5
    obtain ⟨f1, rfl⟩ : ∃ q, f1 = q + 1 := ⟨f1 - 1, by omega⟩
    obtain ⟨f2, rfl⟩ : ∃ q, f2 = q + 1 := ⟨f2 - 1, by omega⟩
    refine ⟨b, ?_, ?_, by omega⟩
    · rw [lex_Quote.l1, if_neg (by simp; omega)]
    · rw [ref01_Quote.l1, if_neg (by simp; omega)]
  | succ k ih =>
    intro i b f1 f2 h1 h2 h3 h4 h5
    obtain ⟨f1, rfl⟩ : ∃ q, f1 = q + 1 := ⟨f1 - 1, by omega⟩
    obtain ⟨f2, rfl⟩ : ∃ q, f2 = q + 1 := ⟨f2 - 1, by omega⟩
    by_cases hp : i < s.size
    · have e : IntKind.i64.wrap ((i : Int) + 1) = ((i + 1 : Nat) : Int) := by rw [w_eq (by omega) (by omega)]; omega
      have hd : (decide ((i : Int) < (s.size : Int))) = true := by simp; omega
      have hap : ∀ m : List Int, m.length ≤ 2 → V.ap 1 b m = some (b ++ m) := fun m hm => by
        unfold V.ap
        rw [if_pos]
        unfold maxLen
        omega
      have go : ∀ m : List Int, m.length ≤ 2 → ∃ r, (V.ap 1 b m).bind (fun b6 => lex_Quote.l1 s f1 b6 ((i + 1 : Nat) : Int)) = some r ∧ (V.ap 1 b m).bind (fun b6 => ref01_Quote.l1 s f2 b6 ((i + 1 : Nat) : Int)) = some r ∧ r.length ≤ b.length + 2 * (k + 1) := fun m hm => by
        obtain ⟨r, g1, g2, g3⟩ := ih (i + 1) (b ++ m) f1 f2 (by omega) (by omega) (by omega) (by omega) (by simp; omega)
        refine ⟨r, by rw [hap m hm]; exact g1, by rw [hap m hm]; exact g2, ?_⟩
        simp at g3; omega
      rw [lex_Quote.l1, ref01_Quote.l1, if_pos hd, if_pos hd]
      simp only [gi_nat hp, Option.bind_some, e]
      by_cases c1 : (bt s i == 10) = true
      · simp only [c1, if_true]; exact go _ (by simp)
      · simp only [c1, if_false]
        by_cases c2 : (bt s i == 34) = true
        · simp only [c2, if_true]; exact go _ (by simp)
        · simp only [c2, if_false]
          by_cases c3 : (bt s i == 92) = true
          · simp only [c3, if_true]; exact go _ (by simp)
          · simp only [c3, if_false]; exact go _ (by simp)
    · refine ⟨b, ?_, ?_, by omega⟩
      · rw [lex_Quote.l1, if_neg (by simp; omega)]
      · rw [ref01_Quote.l1, if_neg (by simp; omega)]

theorem Quote_eq {s : ByteArray} (hs : s.size < 17592186044416) : ∃ r, lex_Quote s = some r ∧ ref01_Quote s = some r := by
  obtain ⟨r, g1, g2, g3⟩ := Quote_loop (s := s) (by omega) s.size 0 [34] FU FU (by omega) (by unfold FU; omega) (by unfold FU; omega) (by omega) (by simp; omega)
  have g1' : lex_Quote.l1 s FU [34] 0 = some r := g1
  have g2' : ref01_Quote.l1 s FU [34] 0 = some r := g2
  have ha : V.ap 1 r [(34 : Int)] = some (r ++ [34]) := by
    unfold V.ap
    rw [if_pos]
    unfold maxLen
    simp at g3 ⊢
    omega
  unfold lex_Quote ref01_Quote
  rw [g1', g2']
  simp only [Option.bind_some, ha]
  exact ⟨_, rfl, rfl⟩
end Go.Proofs.Ytbnohlgchjcjhaa.M

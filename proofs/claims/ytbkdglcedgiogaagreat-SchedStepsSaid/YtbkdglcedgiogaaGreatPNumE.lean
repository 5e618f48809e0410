/-
  Plain laws of numbers: the program's and the document's are alike. Own text.
-/
import Derived.Test.YtbkdglcedgiogaaGreatPChk
namespace Go.Proofs.YtbkdglcedgiogaaGreat.M
open Go Go.Proofs Go.Proofs.YtbkdglcedgiogaaGreat.V
set_option linter.unusedVariables false

def digB (c : Int) : Bool := decide (c ≥ 48) && decide (c ≤ 57)

/-- Digits are counted alike; and where all are digits. -/
theorem digits_same {s : ByteArray} (h : s.size ≤ 300) : ∃ n : Nat, quant_head s = some (n : Int) ∧ ref03_digits s = some (n : Int) ∧ n ≤ s.size ∧ (n = s.size → ∀ i, i < s.size → digB (bt s i) = true) := by
  have key : ∀ (m k f1 f2 : Nat), s.size - k ≤ m → m < f1 → m < f2 → k ≤ s.size → ∃ n : Nat, quant_head.l1 s f1 (k : Int) = some (n : Int) ∧ ref03_digits.l1 s f2 (k : Int) = some (n : Int) ∧ k ≤ n ∧ n ≤ s.size ∧ ∀ i, k ≤ i → i < n → digB (bt s i) = true := by
    intro m
    induction m with
    | zero =>
      intro k f1 f2 h1 h2 h3 h4
      obtain ⟨f1, rfl⟩ : ∃ q, f1 = q + 1 := ⟨f1 - 1, by omega⟩
      obtain ⟨f2, rfl⟩ : ∃ q, f2 = q + 1 := ⟨f2 - 1, by omega⟩
      have hk : ¬ (decide ((k : Int) < (s.size : Int))) = true := by simp; omega
      refine ⟨k, ?_, ?_, Nat.le_refl _, h4, fun i a b => by omega⟩
      · rw [quant_head.l1, if_neg hk]; rfl
      · rw [ref03_digits.l1, if_neg hk]; rfl
    | succ m ih =>
      intro k f1 f2 h1 h2 h3 h4
      obtain ⟨f1, rfl⟩ : ∃ q, f1 = q + 1 := ⟨f1 - 1, by omega⟩
      obtain ⟨f2, rfl⟩ : ∃ q, f2 = q + 1 := ⟨f2 - 1, by omega⟩
      by_cases hk : k < s.size
      · have hk' : (decide ((k : Int) < (s.size : Int))) = true := by simp; omega
        rw [quant_head.l1, ref03_digits.l1, if_pos hk', if_pos hk', gi_nat hk, wk1 (by omega)]
        simp only [Option.bind_some, ref03_digit]
        by_cases hd : digB (bt s k) = true
        · have hd2 : bt s k ≥ 48 ∧ bt s k ≤ 57 := by unfold digB at hd; simpa using hd
          obtain ⟨n, g1, g2, g3, g4, g5⟩ := ih (k + 1) f1 f2 (by omega) (by omega) (by omega) (by omega)
          refine ⟨n, ?_, ?_, by omega, g4, fun i a b => ?_⟩
          · simp only [hd2.1, hd2.2, decide_true, if_true, Option.bind_some]; exact g1
          · simp only [hd2.1, hd2.2, decide_true, if_true, Bool.and_self]; exact g2
          · by_cases e : i = k
            · subst e; exact hd
            · exact g5 i (by omega) b
        · refine ⟨k, ?_, ?_, Nat.le_refl _, h4, fun i a b => by omega⟩
          · have : ¬ (bt s k ≥ 48 ∧ bt s k ≤ 57) := by unfold digB at hd; simpa using hd
            by_cases h5 : bt s k ≥ 48
            · have h6 : ¬ bt s k ≤ 57 := fun q => this ⟨h5, q⟩
              simp only [h5, h6, decide_true, decide_false, if_true, Option.bind_some, Bool.false_eq_true, if_false]
            · simp only [h5, decide_false, Bool.false_eq_true, if_false, Option.bind_some]
          · unfold digB at hd
            rw [if_neg hd]
      · have hk' : ¬ (decide ((k : Int) < (s.size : Int))) = true := by simp; omega
        refine ⟨k, ?_, ?_, Nat.le_refl _, h4, fun i a b => by omega⟩
        · rw [quant_head.l1, if_neg hk']; rfl
        · rw [ref03_digits.l1, if_neg hk']; rfl
  obtain ⟨n, g1, g2, g3, g4, g5⟩ := key s.size 0 FU FU (by omega) (by unfold FU; omega) (by unfold FU; omega) (by omega)
  have g1' : quant_head.l1 s FU 0 = some (n : Int) := g1
  have g2' : ref03_digits.l1 s FU 0 = some (n : Int) := g2
  refine ⟨n, ?_, ?_, g4, fun e i hi => g5 i (Nat.zero_le _) (by omega)⟩
  · unfold quant_head; rw [g1']; rfl
  · unfold ref03_digits; rw [g2']; rfl

theorem u8_dig {c : Int} (h : digB c = true) : IntKind.i64.wrap (IntKind.u8.wrap (c - 48)) = c - 48 ∧ 0 ≤ c - 48 ∧ c - 48 ≤ 9 := by
  unfold digB at h
  simp only [Bool.and_eq_true, decide_eq_true_eq, ge_iff_le] at h
  have e : (c - 48) % 256 = c - 48 := by omega
  have : IntKind.u8.wrap (c - 48) = c - 48 := by
    simp [IntKind.wrap, IntKind.bits, IntKind.signed, e]
  rw [this, w_eq (by omega) (by omega)]
  omega

/-- A number of digits is told alike: itself, or that it is too great. -/
theorem value_same {s : ByteArray} (h : s.size ≤ 300) (hd : ∀ i, i < s.size → digB (bt s i) = true) : ∃ v : Int, 0 ≤ v ∧ ref03_value s = some v ∧ quant_value s 1125899906842624 = some (if v ≤ 1125899906842624 then (v, true) else (0, false)) := by
  have cap : ∀ (m k f : Nat), s.size - k ≤ m → m < f → k ≤ s.size → ref03_value.l1 s f 1125899906842625 (k : Int) = some 1125899906842625 := by
    intro m
    induction m with
    | zero =>
      intro k f h1 h2 h3
      obtain ⟨f, rfl⟩ : ∃ q, f = q + 1 := ⟨f - 1, by omega⟩
      rw [ref03_value.l1, if_neg (by simp; omega)]
    | succ m ih =>
      intro k f h1 h2 h3
      obtain ⟨f, rfl⟩ : ∃ q, f = q + 1 := ⟨f - 1, by omega⟩
      by_cases hk : k < s.size
      · rw [ref03_value.l1, if_pos (by simp; omega), gi_nat hk, wk1 (by omega)]
        simp only [Option.bind_some]
        obtain ⟨e1, e2, e3⟩ := u8_dig (hd k hk)
        rw [e1, w_eq (show -9223372036854775808 ≤ (10 : Int) * 1125899906842625 by decide) (by decide), w_eq (by omega) (by omega), Int.min_eq_right (by omega)]
        exact ih (k + 1) f (by omega) (by omega) (by omega)
      · rw [ref03_value.l1, if_neg (by simp; omega)]
  have key : ∀ (m k f1 f2 : Nat) (n : Int), s.size - k ≤ m → m < f1 → m < f2 → k ≤ s.size → 0 ≤ n → n ≤ 1125899906842624 → ∃ v : Int, 0 ≤ v ∧ ref03_value.l1 s f1 n (k : Int) = some v ∧
      quant_value.l1 s 1125899906842624 f2 n (k : Int) = some (if v ≤ 1125899906842624 then Out.go v else Out.ret (0, false)) := by
    intro m
    induction m with
    | zero =>
      intro k f1 f2 n h1 h2 h3 h4 h5 h6
      obtain ⟨f1, rfl⟩ : ∃ q, f1 = q + 1 := ⟨f1 - 1, by omega⟩
      obtain ⟨f2, rfl⟩ : ∃ q, f2 = q + 1 := ⟨f2 - 1, by omega⟩
      refine ⟨n, h5, ?_, ?_⟩
      · rw [ref03_value.l1, if_neg (by simp; omega)]
      · rw [quant_value.l1, if_neg (by simp; omega), if_pos h6]
    | succ m ih =>
      intro k f1 f2 n h1 h2 h3 h4 h5 h6
      obtain ⟨f1, rfl⟩ : ∃ q, f1 = q + 1 := ⟨f1 - 1, by omega⟩
      obtain ⟨f2, rfl⟩ : ∃ q, f2 = q + 1 := ⟨f2 - 1, by omega⟩
      by_cases hk : k < s.size
      · obtain ⟨e1, e2, e3⟩ := u8_dig (hd k hk)
        have hq : V.quo (IntKind.i64.wrap ((1125899906842624 : Int) - (bt s k - 48))) 10 = some ((1125899906842624 - (bt s k - 48)) / 10) := by
          unfold V.quo
          rw [if_neg (by decide), w_eq (by omega) (by omega), Int.tdiv_eq_ediv_of_nonneg (by omega)]
        rw [ref03_value.l1, quant_value.l1, if_pos (by simp; omega), if_pos (by simp; omega), gi_nat hk, wk1 (by omega)]
        simp only [Option.bind_some]
        rw [e1, hq]
        simp only [Option.bind_some]
        rw [w_eq (show -9223372036854775808 ≤ (10 : Int) * n by omega) (by omega), w_eq (by omega) (by omega), w_eq (by omega) (by omega)]
        by_cases hb : n > (1125899906842624 - (bt s k - 48)) / 10
        · rw [if_pos (by simpa using hb), Int.min_eq_right (by omega), cap m (k + 1) f1 (by omega) (by omega) (by omega)]
          exact ⟨1125899906842625, by decide, rfl, rfl⟩
        · rw [if_neg (by simpa using hb), Int.min_eq_left (by omega)]
          exact ih (k + 1) f1 f2 _ (by omega) (by omega) (by omega) (by omega) (by omega) (by omega)
      · refine ⟨n, h5, ?_, ?_⟩
        · rw [ref03_value.l1, if_neg (by simp; omega)]
        · rw [quant_value.l1, if_neg (by simp; omega), if_pos h6]
  obtain ⟨v, h0, h1, h2⟩ := key s.size 0 FU FU 0 (by omega) (by unfold FU; omega) (by unfold FU; omega) (by omega) (by omega) (by omega)
  have h1' : ref03_value.l1 s FU 0 0 = some v := h1
  have h2' : quant_value.l1 s 1125899906842624 FU 0 0 = _ := h2
  refine ⟨v, h0, ?_, ?_⟩
  · unfold ref03_value; rw [h1']; rfl
  · unfold quant_value
    rw [h2']
    by_cases hv : v ≤ 1125899906842624
    · rw [if_pos hv, if_pos hv]; rfl
    · rw [if_neg hv, if_neg hv]; rfl

theorem Number_same {s : ByteArray} (h : s.size ≤ 300) : quant_Number s = ref03_Number s := by
  unfold quant_Number ref03_Number
  rw [seq_eq]
  by_cases h0 : s = ⟨#[]⟩
  · subst h0; rfl
  · have hz : ¬ ((s.size : Int) == 0) = true := by
      simp only [beq_iff_eq]
      intro e
      apply h0
      have : s.size = 0 := by omega
      exact ByteArray.size_eq_zero_iff.1 this
    obtain ⟨n, g1, g2, g3, g4⟩ := digits_same h
    rw [if_neg (by simpa using h0), if_neg hz, g1, g2]
    simp only [Option.bind_some]
    by_cases hn : n = s.size
    · have hn1 : ¬ ((n : Int) != (s.size : Int)) = true := by simp [hn]
      have hn2 : ¬ (decide ((n : Int) < (s.size : Int))) = true := by simp [hn]
      rw [if_neg hn1, if_neg hn2]
      obtain ⟨v, q1, q2, q3⟩ := value_same h (g4 hn)
      rw [q2, q3]
      simp only [Option.bind_some]
      by_cases hv : v ≤ 1125899906842624
      · rw [if_pos hv, if_neg (show ¬ (decide (v > 1125899906842624)) = true by simp; omega)]; rfl
      · rw [if_neg hv, if_pos (show (decide (v > 1125899906842624)) = true by simp; omega)]; rfl
    · rw [if_pos (show ((n : Int) != (s.size : Int)) = true by simp; omega), if_pos (show (decide ((n : Int) < (s.size : Int))) = true by simp; omega)]
end Go.Proofs.YtbkdglcedgiogaaGreat.M

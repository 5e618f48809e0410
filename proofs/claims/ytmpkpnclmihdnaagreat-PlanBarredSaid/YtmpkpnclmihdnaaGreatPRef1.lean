/-
  Printed by a program of this session out of the loaded functions: models and their proofs. Own text.
-/
import Derived.Test.YtmpkpnclmihdnaaGreatPFit0
import Derived.Test.YtmpkpnclmihdnaaGreatPTot2
import Derived.Test.YtmpkpnclmihdnaaGreatPRef9
import Derived.Test.YtmpkpnclmihdnaaGreatPPut
import Derived.Test.YtmpkpnclmihdnaaGreatPBor
/-
  Plain laws of numbers: the program's and the document's are alike. Own text.
-/
namespace Go.Proofs.YtmpkpnclmihdnaaGreat.M
open Go Go.Proofs Go.Proofs.YtmpkpnclmihdnaaGreat.V
set_option linter.unusedVariables false

def digB (c : Int) : Bool := decide (c ≥ 48) && decide (c ≤ 57)

/-- Digits are counted alike; and where all are digits. -/
theorem digits_same {s : ByteArray} (h : s.size ≤ 300) : ∃ n : Nat, quant_head s = some (n : Int) ∧ ref03_digits s = some (n : Int) ∧ n ≤ s.size ∧ (n = s.size → ∀ i, i < s.size → digB (bt s i) = true) := by
  have key : ∀ (m k f1 f2 : Nat), s.size - k ≤ m → m < f1 → m < f2 → k ≤ s.size → ∃ n : Nat, quant_head.l1 s f1 (k : Int) = some (n : Int) ∧ ref03_digits.l1 s f2 (k : Int) = some (n : Int) ∧ k ≤ n ∧ n ≤ s.size ∧ ∀ i, k ≤ i → i < n → digB (bt s i) = true := by
    intro m
    induction m with
    | zero =>
      intro k f1 f2 h1 h2 h3 h4
      obtain ⟨f1, rfl⟩ : ∃ q, f1 = q + 1 := ⟨f1 - 1, by omega⟩
      obtain ⟨f2, rfl⟩ : ∃ q, f2 = q + 1 := ⟨f2 - 1, by omega⟩
      have hk : ¬ (decide ((k : Int) < (s.size : Int))) = true := by simp; omega
      refine ⟨k, ?_, ?_, Nat.le_refl _, h4, fun i a b => by omega⟩
      · rw [quant_head.l1, if_neg hk]; rfl
      · rw [ref03_digits.l1, if_neg hk]; rfl
    | succ m ih =>
      intro k f1 f2 h1 h2 h3 h4
      obtain ⟨f1, rfl⟩ : ∃ q, f1 = q + 1 := ⟨f1 - 1, by omega⟩
      obtain ⟨f2, rfl⟩ : ∃ q, f2 = q + 1 := ⟨f2 - 1, by omega⟩
      by_cases hk : k < s.size
      · have hk' : (decide ((k : Int) < (s.size : Int))) = true := by simp; omega
        rw [quant_head.l1, ref03_digits.l1, if_pos hk', if_pos hk', gi_nat hk, wk1 (by omega)]
        simp only [Option.bind_some, ref03_digit]
        by_cases hd : digB (bt s k) = true
        · have hd2 : bt s k ≥ 48 ∧ bt s k ≤ 57 := by unfold digB at hd; simpa using hd
          obtain ⟨n, g1, g2, g3, g4, g5⟩ := ih (k + 1) f1 f2 (by omega) (by omega) (by omega) (by omega)
          refine ⟨n, ?_, ?_, by omega, g4, fun i a b => ?_⟩
          · simp only [hd2.1, hd2.2, decide_true, if_true, Option.bind_some]; exact g1
          · simp only [hd2.1, hd2.2, decide_true, if_true, Bool.and_self]; exact g2
          · by_cases e : i = k
            · subst e; exact hd
            · exact g5 i (by omega) b
        · refine ⟨k, ?_, ?_, Nat.le_refl _, h4, fun i a b => by omega⟩
          · have : ¬ (bt s k ≥ 48 ∧ bt s k ≤ 57) := by unfold digB at hd; simpa using hd
            by_cases h5 : bt s k ≥ 48
            · have h6 : ¬ bt s k ≤ 57 := fun q => this ⟨h5, q⟩
              simp only [h5, h6, decide_true, decide_false, if_true, Option.bind_some, Bool.false_eq_true, if_false]
            · simp only [h5, decide_false, Bool.false_eq_true, if_false, Option.bind_some]
          · unfold digB at hd
            rw [if_neg hd]
      · have hk' : ¬ (decide ((k : Int) < (s.size : Int))) = true := by simp; omega
        refine ⟨k, ?_, ?_, Nat.le_refl _, h4, fun i a b => by omega⟩
        · rw [quant_head.l1, if_neg hk']; rfl
        · rw [ref03_digits.l1, if_neg hk']; rfl
  obtain ⟨n, g1, g2, g3, g4, g5⟩ := key s.size 0 FU FU (by omega) (by unfold FU; omega) (by unfold FU; omega) (by omega)
  have g1' : quant_head.l1 s FU 0 = some (n : Int) := g1
  have g2' : ref03_digits.l1 s FU 0 = some (n : Int) := g2
  refine ⟨n, ?_, ?_, g4, fun e i hi => g5 i (Nat.zero_le _) (by omega)⟩
  · unfold quant_head; rw [g1']; rfl
  · unfold ref03_digits; rw [g2']; rfl

theorem u8_dig {c : Int} (h : digB c = true) : IntKind.i64.wrap (IntKind.u8.wrap (c - 48)) = c - 48 ∧ 0 ≤ c - 48 ∧ c - 48 ≤ 9 := by
  unfold digB at h
  simp only [Bool.and_eq_true, decide_eq_true_eq, ge_iff_le] at h
  have e : (c - 48) % 256 = c - 48 := by omega
  have : IntKind.u8.wrap (c - 48) = c - 48 := by
    simp [IntKind.wrap, IntKind.bits, IntKind.signed, e]
  rw [this, w_eq (by omega) (by omega)]
  omega

/-- A number of digits is told alike: itself, or that it is too great. -/
theorem value_same {s : ByteArray} (h : s.size ≤ 300) (hd : ∀ i, i < s.size → digB (bt s i) = true) : ∃ v : Int, 0 ≤ v ∧ ref03_value s = some v ∧ quant_value s 1125899906842624 = some (if v ≤ 1125899906842624 then (v, true) else (0, false)) := by
  have cap : ∀ (m k f : Nat), s.size - k ≤ m → m < f → k ≤ s.size → ref03_value.l1 s f 1125899906842625 (k : Int) = some 1125899906842625 := by
    intro m
    induction m with
    | zero =>
      intro k f h1 h2 h3
      obtain ⟨f, rfl⟩ : ∃ q, f = q + 1 := ⟨f - 1, by omega⟩
      rw [ref03_value.l1, if_neg (by simp; omega)]
    | succ m ih =>
      intro k f h1 h2 h3
      obtain ⟨f, rfl⟩ : ∃ q, f = q + 1 := ⟨f - 1, by omega⟩
      by_cases hk : k < s.size
      · rw [ref03_value.l1, if_pos (by simp; omega), gi_nat hk, wk1 (by omega)]
        simp only [Option.bind_some]
        obtain ⟨e1, e2, e3⟩ := u8_dig (hd k hk)
        rw [e1, w_eq (show -9223372036854775808 ≤ (10 : Int) * 1125899906842625 by decide) (by decide), w_eq (by omega) (by omega), Int.min_eq_right (by omega)]
        exact ih (k + 1) f (by omega) (by omega) (by omega)
      · rw [ref03_value.l1, if_neg (by simp; omega)]
  have key : ∀ (m k f1 f2 : Nat) (n : Int), s.size - k ≤ m → m < f1 → m < f2 → k ≤ s.size → 0 ≤ n → n ≤ 1125899906842624 → ∃ v : Int, 0 ≤ v ∧ ref03_value.l1 s f1 n (k : Int) = some v ∧
      quant_value.l1 s 1125899906842624 f2 n (k : Int) = some (if v ≤ 1125899906842624 then Out.go v else Out.ret (0, false)) := by
    intro m
    induction m with
    | zero =>
      intro k f1 f2 n h1 h2 h3 h4 h5 h6
      obtain ⟨f1, rfl⟩ : ∃ q, f1 = q + 1 := ⟨f1 - 1, by omega⟩
      obtain ⟨f2, rfl⟩ : ∃ q, f2 = q + 1 := ⟨f2 - 1, by omega⟩
      refine ⟨n, h5, ?_, ?_⟩
      · rw [ref03_value.l1, if_neg (by simp; omega)]
      · rw [quant_value.l1, if_neg (by simp; omega), if_pos h6]
    | succ m ih =>
      intro k f1 f2 n h1 h2 h3 h4 h5 h6
      obtain ⟨f1, rfl⟩ : ∃ q, f1 = q + 1 := ⟨f1 - 1, by omega⟩
      obtain ⟨f2, rfl⟩ : ∃ q, f2 = q + 1 := ⟨f2 - 1, by omega⟩
      by_cases hk : k < s.size
      · obtain ⟨e1, e2, e3⟩ := u8_dig (hd k hk)
        have hq : V.quo (IntKind.i64.wrap ((1125899906842624 : Int) - (bt s k - 48))) 10 = some ((1125899906842624 - (bt s k - 48)) / 10) := by
          unfold V.quo
          rw [if_neg (by decide), w_eq (by omega) (by omega), Int.tdiv_eq_ediv_of_nonneg (by omega)]
        rw [ref03_value.l1, quant_value.l1, if_pos (by simp; omega), if_pos (by simp; omega), gi_nat hk, wk1 (by omega)]
        simp only [Option.bind_some]
        rw [e1, hq]
        simp only [Option.bind_some]
        rw [w_eq (show -9223372036854775808 ≤ (10 : Int) * n by omega) (by omega), w_eq (by omega) (by omega), w_eq (by omega) (by omega)]
        by_cases hb : n > (1125899906842624 - (bt s k - 48)) / 10
        · rw [if_pos (by simpa using hb), Int.min_eq_right (by omega), cap m (k + 1) f1 (by omega) (by omega) (by omega)]
          exact ⟨1125899906842625, by decide, rfl, rfl⟩
        · rw [if_neg (by simpa using hb), Int.min_eq_left (by omega)]
          exact ih (k + 1) f1 f2 _ (by omega) (by omega) (by omega) (by omega) (by omega) (by omega)
      · refine ⟨n, h5, ?_, ?_⟩
        · rw [ref03_value.l1, if_neg (by simp; omega)]
        · rw [quant_value.l1, if_neg (by simp; omega), if_pos h6]
  obtain ⟨v, h0, h1, h2⟩ := key s.size 0 FU FU 0 (by omega) (by unfold FU; omega) (by unfold FU; omega) (by omega) (by omega) (by omega)
  have h1' : ref03_value.l1 s FU 0 0 = some v := h1
  have h2' : quant_value.l1 s 1125899906842624 FU 0 0 = _ := h2
  refine ⟨v, h0, ?_, ?_⟩
  · unfold ref03_value; rw [h1']; rfl
  · unfold quant_value
    rw [h2']
    by_cases hv : v ≤ 1125899906842624
    · rw [if_pos hv, if_pos hv]; rfl
    · rw [if_neg hv, if_neg hv]; rfl

theorem Number_same {s : ByteArray} (h : s.size ≤ 300) : quant_Number s = ref03_Number s := by
  unfold quant_Number ref03_Number
  rw [seq_eq]
  by_cases h0 : s = ⟨#[]⟩
  · subst h0; rfl
  · have hz : ¬ ((s.size : Int) == 0) = true := by
      simp only [beq_iff_eq]
      intro e
      apply h0
      have : s.size = 0 := by omega
      exact ByteArray.size_eq_zero_iff.1 this
    obtain ⟨n, g1, g2, g3, g4⟩ := digits_same h
    rw [if_neg (by simpa using h0), if_neg hz, g1, g2]
    simp only [Option.bind_some]
    by_cases hn : n = s.size
    · have hn1 : ¬ ((n : Int) != (s.size : Int)) = true := by simp [hn]
      have hn2 : ¬ (decide ((n : Int) < (s.size : Int))) = true := by simp [hn]
      rw [if_neg hn1, if_neg hn2]
      obtain ⟨v, q1, q2, q3⟩ := value_same h (g4 hn)
      rw [q2, q3]
      simp only [Option.bind_some]
      by_cases hv : v ≤ 1125899906842624
      · rw [if_pos hv, if_neg (show ¬ (decide (v > 1125899906842624)) = true by simp; omega)]; rfl
      · rw [if_neg hv, if_pos (show (decide (v > 1125899906842624)) = true by simp; omega)]; rfl
    · rw [if_pos (show ((n : Int) != (s.size : Int)) = true by simp; omega), if_pos (show (decide ((n : Int) < (s.size : Int))) = true by simp; omega)]
end Go.Proofs.YtmpkpnclmihdnaaGreat.M
/-
  Plain laws: texts by their order; maps. Own text.
-/
namespace Go.Proofs.YtmpkpnclmihdnaaGreat.M
open Go Go.Proofs Go.Proofs.YtmpkpnclmihdnaaGreat.V
set_option linter.unusedVariables false

/-! texts, by their order -/
theorem bl_irr : ∀ a : List UInt8, Op.bytesLess a a = false
  | [] => rfl
  | a :: x => by rw [Op.bytesLess, bl_irr x]; simp
theorem bl_trans : ∀ {a b c : List UInt8}, Op.bytesLess a b = true → Op.bytesLess b c = true → Op.bytesLess a c = true
  | _, [], _, h, _ => by simp [Op.bytesLess] at h
  | _, _ :: _, [], _, h => by simp [Op.bytesLess] at h
  | [], _ :: _, _ :: _, _, _ => rfl
  | a :: x, b :: y, c :: z, h, k => by
    rw [Op.bytesLess] at h k ⊢
    simp only [Bool.or_eq_true, Bool.and_eq_true, decide_eq_true_eq, beq_iff_eq] at h k ⊢
    rcases h with h | ⟨rfl, h⟩
    · rcases k with k | ⟨rfl, k⟩
      · exact .inl (UInt8.lt_trans h k)
      · exact .inl h
    · rcases k with k | ⟨rfl, k⟩
      · exact .inl k
      · exact .inr ⟨rfl, bl_trans h k⟩
theorem bl_tri : ∀ {a b : List UInt8}, Op.bytesLess a b = false → Op.bytesLess b a = false → a = b
  | [], [], _, _ => rfl
  | [], _ :: _, h, _ => by simp [Op.bytesLess] at h
  | _ :: _, [], _, h => by simp [Op.bytesLess] at h
  | a :: x, b :: y, h, k => by
    rw [Op.bytesLess] at h k
    simp only [Bool.or_eq_false_iff, Bool.and_eq_false_iff, decide_eq_false_iff_not, beq_eq_false_iff_ne, ne_eq] at h k
    have hab : a = b := by
      have h1 := h.1
      have h2 := k.1
      rw [UInt8.not_lt] at h1 h2
      exact UInt8.le_antisymm h2 h1
    subst hab
    have h1 : Op.bytesLess x y = false := by rcases h.2 with h | h; exact absurd rfl h; exact h
    have h2 : Op.bytesLess y x = false := by rcases k.2 with h | h; exact absurd rfl h; exact h
    rw [bl_tri h1 h2]

theorem slt_irr (a : ByteArray) : V.slt a a = false := bl_irr _
theorem slt_trans {a b c : ByteArray} (h : V.slt a b = true) (k : V.slt b c = true) : V.slt a c = true := bl_trans h k
theorem slt_tri {a b : ByteArray} (h : V.slt a b = false) (k : V.slt b a = false) : a = b := toList_inj (bl_tri h k)

theorem toList_data (a : ByteArray) : a.toList = a.data.toList := by simp [ByteArray.toList_eq]

theorem Less_eq {a b : ByteArray} (ha : a.size ≤ 300) (hb : b.size ≤ 300) : ref05_Less a b = some (V.slt a b) := by
  have key : ∀ (m k f : Nat), min a.size b.size - k ≤ m → m < f → k ≤ min a.size b.size → (ref05_Less.l1 a b f (k : Int)).bind (fun o => o.on fun _ => some (decide ((a.size : Int) < (b.size : Int)))) = some (Op.bytesLess (a.data.toList.drop k) (b.data.toList.drop k)) := by
    have hla : a.data.toList.length = a.size := by simp
    have hlb : b.data.toList.length = b.size := by simp
    have hend : ∀ k f, k = min a.size b.size → (ref05_Less.l1 a b (f + 1) (k : Int)).bind (fun o => o.on fun _ => some (decide ((a.size : Int) < (b.size : Int)))) = some (Op.bytesLess (a.data.toList.drop k) (b.data.toList.drop k)) := by
      intro k f hk
      rw [ref05_Less.l1, if_neg (by simp; omega)]
      simp only [Option.bind_some, Out.on, Option.some.injEq]
      by_cases h : a.size < b.size
      · rw [List.drop_eq_nil_of_le (show a.data.toList.length ≤ k by omega)]
        have : (b.data.toList.drop k) ≠ [] := by
          intro e
          have := congrArg List.length e
          rw [List.length_drop] at this
          simp at this
          omega
        obtain ⟨y, ys, hy⟩ := List.exists_cons_of_ne_nil this
        rw [hy]
        simp [Op.bytesLess, h]
      · rw [List.drop_eq_nil_of_le (show b.data.toList.length ≤ k by omega)]
        simp [Op.bytesLess, h]
    intro m
    induction m with
    | zero =>
      intro k f h1 h2 h3
      obtain ⟨f, rfl⟩ : ∃ q, f = q + 1 := ⟨f - 1, by omega⟩
      exact hend k f (by omega)
    | succ m ih =>
      intro k f h1 h2 h3
      obtain ⟨f, rfl⟩ : ∃ q, f = q + 1 := ⟨f - 1, by omega⟩
      by_cases hk : k < min a.size b.size
      · have hka : k < a.data.toList.length := by omega
        have hkb : k < b.data.toList.length := by omega
        have ea : bt a k = ((a.data.toList[k]).toNat : Int) := by
          unfold bt; rw [List.getD_eq_getElem?_getD, List.getElem?_eq_getElem hka]; rfl
        have eb : bt b k = ((b.data.toList[k]).toNat : Int) := by
          unfold bt; rw [List.getD_eq_getElem?_getD, List.getElem?_eq_getElem hkb]; rfl
        rw [ref05_Less.l1, if_pos (by simp; omega), gi_nat (by omega), gi_nat (by omega), wk1 (by omega), List.drop_eq_getElem_cons hka, List.drop_eq_getElem_cons hkb, Op.bytesLess]
        simp only [Option.bind_some]
        by_cases h : bt a k = bt b k
        · rw [if_neg (by simpa using h), ih (k + 1) f (by omega) (by omega) (by omega)]
          have e : a.data.toList[k] = b.data.toList[k] := by
            rw [ea, eb] at h
            exact UInt8.toNat_inj.1 (by omega)
          rw [e]
          simp
        · rw [if_pos (by simpa using h)]
          have e : ¬ a.data.toList[k] = b.data.toList[k] := fun q => h (by rw [ea, eb, q])
          simp only [Option.bind_some, Out.on, Option.some.injEq]
          have e2 : (a.data.toList[k] == b.data.toList[k]) = false := by simpa using e
          rw [e2, Bool.false_and, Bool.or_false, ea, eb]
          rw [decide_eq_decide, UInt8.lt_iff_toNat_lt]
          omega
      · exact hend k f (by omega)
  have := key (min a.size b.size) 0 FU (by omega) (by unfold FU; omega) (by omega)
  unfold ref05_Less V.slt
  rw [toList_data, toList_data]
  exact this

/-! maps -/
theorem mg_mp {κ υ : Type} [DecidableEq κ] : ∀ (l : List (κ × υ)) (k k' : κ) (v : υ), V.mg (V.mp l k v) k' = if k' = k then some v else V.mg l k'
  | [], k, k', v => by
    rw [V.mp, V.mg]
    by_cases h : k' = k <;> simp [V.mg, h]
  | (a, b) :: r, k, k', v => by
    rw [V.mp]
    by_cases h : k = a
    · subst h
      rw [if_pos rfl, V.mg, V.mg]
      by_cases h2 : k' = k <;> simp [h2]
    · rw [if_neg h, V.mg, V.mg, mg_mp r k k' v]
      by_cases h2 : k' = a
      · subst h2
        have h3 : ¬ k' = k := fun e => h e.symm
        rw [if_pos rfl, if_pos rfl, if_neg h3]
      · rw [if_neg h2, if_neg h2]

end Go.Proofs.YtmpkpnclmihdnaaGreat.M
/-
  Plain laws: labels, terms, taints, and whether a pod suits a machine, told alike by the program and the document. Own text.
-/
namespace Go.Proofs.YtmpkpnclmihdnaaGreat.M
open Go Go.Proofs Go.Proofs.YtmpkpnclmihdnaaGreat.V
set_option linter.unusedVariables false

/-! loops that gather -/
theorem idxFoldL {α σ τ : Type} {F : Nat → σ → Int → Option τ} {l : List α} (f : σ → α → σ) (h : σ → τ) (I : Nat → σ → Prop) (hl : l.length < 1000000000000)
    (hs : ∀ n s (k : Nat) (hk : k < l.length), I k s → F (n + 1) s (k : Int) = F n (f s l[k]) ((k + 1 : Nat) : Int) ∧ I (k + 1) (f s l[k])) (he : ∀ n s, F (n + 1) s (l.length : Int) = some (h s)) (s0 : σ) (h0 : I 0 s0) :
    F FU s0 0 = some (h (l.foldl f s0)) := by
  have key : ∀ (m k n : Nat) (s : σ), l.length - k ≤ m → m < n → k ≤ l.length → I k s → F n s (k : Int) = some (h ((l.drop k).foldl f s)) := by
    intro m
    induction m with
    | zero =>
      intro k n s h1 h2 h3 h4
      obtain ⟨n, rfl⟩ : ∃ q, n = q + 1 := ⟨n - 1, by omega⟩
      obtain rfl : k = l.length := by omega
      rw [he, List.drop_eq_nil_of_le (Nat.le_refl _)]; rfl
    | succ m ih =>
      intro k n s h1 h2 h3 h4
      obtain ⟨n, rfl⟩ : ∃ q, n = q + 1 := ⟨n - 1, by omega⟩
      by_cases hk : k < l.length
      · obtain ⟨a, b⟩ := hs n s k hk h4
        rw [a, ih (k + 1) n _ (by omega) (by omega) (by omega) b, List.drop_eq_getElem_cons hk]; rfl
      · obtain rfl : k = l.length := by omega
        rw [he, List.drop_eq_nil_of_le (Nat.le_refl _)]; rfl
  have := key l.length 0 FU s0 (by omega) (by unfold FU; omega) (Nat.zero_le _) h0
  rw [List.drop_zero] at this
  exact this

theorem idxFindL {α ρ : Type} {F : Nat → Int → Option (Out ρ Unit)} {l : List α} (q : α → Bool) (v : α → ρ) (hl : l.length < 1000000000000)
    (hs : ∀ n (k : Nat) (hk : k < l.length), F (n + 1) (k : Int) = if q l[k] = true then some (Out.ret (v l[k])) else F n ((k + 1 : Nat) : Int)) (he : ∀ n, F (n + 1) (l.length : Int) = some (Out.go ())) :
    F FU 0 = some (match l.find? q with | some x => Out.ret (v x) | none => Out.go ()) := by
  have key : ∀ (m k n : Nat), l.length - k ≤ m → m < n → k ≤ l.length → F n (k : Int) = some (match (l.drop k).find? q with | some x => Out.ret (v x) | none => Out.go ()) := by
    intro m
    induction m with
    | zero =>
      intro k n h1 h2 h3
      obtain ⟨n, rfl⟩ : ∃ q, n = q + 1 := ⟨n - 1, by omega⟩
      obtain rfl : k = l.length := by omega
      rw [he, List.drop_eq_nil_of_le (Nat.le_refl _)]; rfl
    | succ m ih =>
      intro k n h1 h2 h3
      obtain ⟨n, rfl⟩ : ∃ q, n = q + 1 := ⟨n - 1, by omega⟩
      by_cases hk : k < l.length
      · rw [hs n k hk, List.drop_eq_getElem_cons hk, List.find?_cons]
        cases hq : q l[k] with
        | true => rfl
        | false => rw [if_neg (by simp), ih (k + 1) n (by omega) (by omega) (by omega)]
      · obtain rfl : k = l.length := by omega
        rw [he, List.drop_eq_nil_of_le (Nat.le_refl _)]; rfl
  have := key l.length 0 FU (by omega) (by unfold FU; omega) (Nat.zero_le _)
  rw [List.drop_zero] at this
  exact this

/-- Labels in order. -/
def sortedL (l : List T_api_Label) : Prop := l.Pairwise fun a b => V.slt a.Key b.Key = true

theorem sorted_of {l : List T_api_Label} (h : LL l) (hr : ref05_Right l = some true) : sortedL l := by
  obtain ⟨hl, hs⟩ := h
  unfold ref05_Right at hr
  split at hr
  · cases hr
  have hstep : ∀ k (hk : k < l.length), 0 < k → V.slt (l[k - 1]'(by omega)).Key l[k].Key = true := by
    rcases loopI (F := fun n i => ref05_Right.l1 l n i) (Q := fun r => r = false) (S := fun k => ∀ hk : k < l.length, 0 < k → V.slt (l[k - 1]'(by omega)).Key l[k].Key = true) (len := l.length) (by omega) (fun n k hk => by
        have hsk := hs k hk
        rw [ref05_Right.l1, if_pos (dlt hk), glk hk, wk1 (by omega)]
        simp only [Option.bind_some]
        obtain ⟨w, hw⟩ := Word_tot (s := l[k].Key) (by omega)
        obtain ⟨mb, hmb⟩ := maybe5_tot hsk.2
        rw [hw]
        simp only [Option.bind_some, hmb]
        by_cases h0 : 0 < k
        · have h0' : (decide ((k : Int) > 0)) = true := by simp; omega
          simp only [h0', if_true, glp hk h0 (by omega), Option.bind_some]
          rw [Less_eq (hs (k - 1) (by omega)).1 hsk.1]
          cases hlt : V.slt (l[k - 1]'(by omega)).Key l[k].Key with
          | false => left; cases w <;> cases mb <;> exact ⟨false, rfl, rfl⟩
          | true =>
            cases w
            · exact .inl ⟨false, rfl, rfl⟩
            · cases mb
              · exact .inl ⟨false, rfl, rfl⟩
              · exact .inr ⟨rfl, fun _ _ => hlt⟩
        · have h0' : (decide ((k : Int) > 0)) = false := by simp; omega
          simp only [h0', Bool.false_eq_true, if_false, Option.bind_some]
          cases w
          · exact .inl ⟨false, rfl, rfl⟩
          · cases mb
            · exact .inl ⟨false, rfl, rfl⟩
            · exact .inr ⟨rfl, fun _ q => absurd q h0⟩) (fun n => by rw [ref05_Right.l1, if_neg dnl]) with ⟨r, h1, rfl⟩ | ⟨h1, h2⟩
    · rw [h1] at hr; cases hr
    · exact fun k hk h0 => h2 k hk hk h0
  unfold sortedL
  rw [List.pairwise_iff_getElem]
  have key : ∀ (d i j : Nat) (hi : i < l.length) (hj : j < l.length), j = i + d + 1 → V.slt l[i].Key l[j].Key = true := by
    intro d
    induction d with
    | zero =>
      intro i j hi hj e
      subst e
      have := hstep (i + 1) hj (by omega)
      exact this
    | succ d ih =>
      intro i j hi hj e
      have h1 := ih i (j - 1) hi (by omega) (by omega)
      have h2 := hstep j hj (by omega)
      exact slt_trans h1 h2
  intro i j hi hj hij
  exact key (j - i - 1) i j hi hj (by omega)

def getS (l : List T_api_Label) (key : ByteArray) : ByteArray × Bool := match l.find? (fun x => decide (x.Key = key)) with | some x => (x.Val, true) | none => (⟨#[]⟩, false)
theorem Get5_eq {l : List T_api_Label} (hl : l.length ≤ 1000) (key : ByteArray) : ref05_Get l key = some (getS l key) := by
  unfold ref05_Get getS
  have := idxFindL (F := fun n i => ref05_Get.l1 l key n i) (l := l) (fun x => decide (x.Key = key)) (fun x => (x.Val, true)) (by omega) (fun n k hk => by
    rw [ref05_Get.l1, if_pos (dlt hk), glk hk, wk1 (by omega)]
    simp only [Option.bind_some, seq_eq]) (fun n => by rw [ref05_Get.l1, if_neg dnl])
  rw [show ref05_Get.l1 l key FU 0 = _ from this]
  cases l.find? (fun x => decide (x.Key = key)) <;> rfl
theorem labels_Get_eq {l : List T_api_Label} (hs : sortedL l) (key : ByteArray) : labels_Get l key = some (getS l key) := by
  unfold labels_Get labels_at
  have hat : ∀ (l2 : List T_api_Label) (k : Nat), l.drop k = l2 → sortedL l2 → ((labels_at.l1 key l2 k).bind fun o => o.on fun j => some ((l.length : Int), false)).bind (fun r => if (!r.2) = true then some ((⟨#[]⟩ : ByteArray), false) else (V.gl l r.1).bind fun x => some (x.Val, true)) = some (getS l2 key) := by
    intro l2
    induction l2 with
    | nil => intro k _ _; rfl
    | cons x l2 ih =>
      intro k hd hs
      have hk : k < l.length := by
        have := congrArg List.length hd
        rw [List.length_drop, List.length_cons] at this
        omega
      have hx : l[k] = x := by
        rw [List.drop_eq_getElem_cons hk] at hd
        exact (List.cons.inj hd).1
      have hd2 : l.drop (k + 1) = l2 := by
        rw [List.drop_eq_getElem_cons hk] at hd
        exact (List.cons.inj hd).2
      rw [labels_at.l1]
      unfold sortedL at hs
      rw [List.pairwise_cons] at hs
      cases h : V.slt x.Key key with
      | true =>
        rw [if_neg (by simp), ih (k + 1) hd2 hs.2]
        unfold getS
        have : ¬ x.Key = key := fun e => by rw [e, slt_irr] at h; cases h
        rw [List.find?_cons, show decide (x.Key = key) = false by simpa using this]
      | false =>
        rw [if_pos (by simp)]
        simp only [Option.bind_some, Out.on, seq_eq]
        unfold getS
        rw [List.find?_cons]
        by_cases e : x.Key = key
        · rw [show decide (x.Key = key) = true by simpa using e]
          simp only [Bool.not_true, Bool.false_eq_true, if_false, glk hk, Option.bind_some, hx]
        · rw [show decide (x.Key = key) = false by simpa using e]
          have : l2.find? (fun x => decide (x.Key = key)) = none := List.find?_eq_none.2 fun y hy => by
            have h1 := hs.1 y hy
            have : ¬ y.Key = key := fun e2 => by
              rw [e2] at h1
              rw [h1] at h; cases h
            simpa using this
          rw [this]
          rfl
  exact hat l 0 rfl hs

theorem Has5_l1 {l s : List T_api_Label} (hl : l.length ≤ 1000) (hs : s.length ≤ 1000) : ref05_Has l s = some (s.all fun x => (getS l x.Key).2 && decide ((getS l x.Key).1 = x.Val)) := by
  unfold ref05_Has
  have := idxAll (F := fun n i => ref05_Has.l1 l s n i) (len := s.length) (r0 := false) (fun k => if hk : k < s.length then (getS l s[k].Key).2 && decide ((getS l s[k].Key).1 = s[k].Val) else true) (by omega) (fun n k hk => by
    rw [ref05_Has.l1, if_pos (dlt hk), glk hk, wk1 (by omega), dif_pos hk]
    simp only [Option.bind_some, Get5_eq hl, seq_eq]
    cases (getS l s[k].Key).2 <;> cases decide ((getS l s[k].Key).1 = s[k].Val) <;> rfl) (fun n => by rw [ref05_Has.l1, if_neg dnl])
  rw [show ref05_Has.l1 l s FU 0 = _ from this]
  have e : allN s.length (fun k => if hk : k < s.length then (getS l s[k].Key).2 && decide ((getS l s[k].Key).1 = s[k].Val) else true) = s.all fun x => (getS l x.Key).2 && decide ((getS l x.Key).1 = x.Val) := by
    rw [Bool.eq_iff_iff, allN_iff, List.all_eq_true]
    constructor
    · intro h x hx
      obtain ⟨i, hi, rfl⟩ := List.getElem_of_mem hx
      have := h i hi
      rw [dif_pos hi] at this
      exact this
    · intro h k hk
      rw [dif_pos hk]
      exact h _ (List.getElem_mem hk)
  rw [e]
  cases s.all fun x => (getS l x.Key).2 && decide ((getS l x.Key).1 = x.Val) <;> rfl
theorem labels_Has_eq {l : List T_api_Label} (hs : sortedL l) (s : List T_api_Label) : labels_Has l s = some (s.all fun x => (getS l x.Key).2 && decide ((getS l x.Key).1 = x.Val)) := by
  unfold labels_Has
  have key : ∀ (s : List T_api_Label) (k : Nat), labels_Has.l1 l s k = some (if (s.all fun x => (getS l x.Key).2 && decide ((getS l x.Key).1 = x.Val)) = true then Out.go () else Out.ret false) := by
    intro s
    induction s with
    | nil => intro k; rfl
    | cons x s ih =>
      intro k
      rw [labels_Has.l1, labels_Get_eq hs, ih, List.all_cons]
      simp only [Option.bind_some, seq_eq]
      cases (getS l x.Key).2 <;> cases decide ((getS l x.Key).1 = x.Val) <;> rfl
  rw [key]
  cases s.all fun x => (getS l x.Key).2 && decide ((getS l x.Key).1 = x.Val) <;> rfl
/-- Whether all of some are among labels, told alike. -/
theorem Has_same {l s : List T_api_Label} (hl : l.length ≤ 1000) (hn : s.length ≤ 1000) (hs : sortedL l) : ref05_Has l s = labels_Has l s := by rw [Has5_l1 hl hn, labels_Has_eq hs]
theorem Has5_B {l s : List T_api_Label} (hl : l.length ≤ 1000) (hn : s.length ≤ 1000) (hs : sortedL l) : ref05_Has l s = some (hasB l s) := by rw [Has_same hl hn hs, has_B]

/-! terms -/
def amongS (l : List ByteArray) (s : ByteArray) : Bool := l.any fun x => decide (x = s)
theorem among_eq (l : List ByteArray) (s : ByteArray) : labels_among l s = some (amongS l s) := by
  unfold labels_among amongS
  have key : ∀ (l : List ByteArray) (k : Nat), labels_among.l1 s l k = some (if (l.any fun x => decide (x = s)) = true then Out.ret true else Out.go ()) := by
    intro l
    induction l with
    | nil => intro k; rfl
    | cons x l ih =>
      intro k
      rw [labels_among.l1, ih, List.any_cons, seq_eq]
      cases decide (x = s) <;> rfl
  rw [key]
  cases l.any fun x => decide (x = s) <;> rfl
theorem in5_eq {t : T_api_Term} (r : ByteArray × Bool) (hl : t.Vals.length ≤ 1000) : ref05_Meets.l1 t r FU false 0 = some (r.2 && amongS t.Vals r.1) := by
  have := idxFoldL (F := fun n s i => ref05_Meets.l1 t r n s i) (l := t.Vals) (fun b x => b || (r.2 && decide (x = r.1))) id (fun _ _ => True) (by omega) (fun n s k hk _ => by
    refine ⟨?_, trivial⟩
    rw [ref05_Meets.l1, if_pos (dlt hk), glk hk, wk1 (by omega)]
    simp only [Option.bind_some, seq_eq]
    cases s <;> cases r.2 <;> cases decide (t.Vals[k] = r.1) <;> rfl) (fun n s => by rw [ref05_Meets.l1, if_neg dnl]; rfl) false trivial
  rw [show ref05_Meets.l1 t r FU false 0 = _ from this]
  congr 1
  show t.Vals.foldl (fun b x => b || (r.2 && decide (x = r.1))) false = _
  have key : ∀ (l : List ByteArray) (b : Bool), l.foldl (fun b x => b || (r.2 && decide (x = r.1))) b = (b || (r.2 && amongS l r.1)) := by
    intro l
    induction l with
    | nil => intro b; unfold amongS; simp
    | cons x l ih =>
      intro b
      rw [List.foldl_cons, ih]
      unfold amongS
      rw [List.any_cons]
      cases b <;> cases r.2 <;> cases decide (x = r.1) <;> rfl
  rw [key]
  rfl

/-- What a right term has. -/
theorem term_right {t : T_api_Term} (ht : LT t) (hr : ref05_RightTerm t = some true) : (t.Op = 1 ∨ t.Op = 2 ∨ t.Op = 3 ∨ t.Op = 4 ∨ t.Op = 5 ∨ t.Op = 6) ∧ ((t.Op = 5 ∨ t.Op = 6) → t.Vals.length = 1) := by
  unfold ref05_RightTerm at hr
  obtain ⟨w, _, hr⟩ := Option.bind_eq_some_iff.1 hr
  split at hr
  · cases hr
  by_cases o1 : t.Op = 1
  · rw [o1]; omega
  by_cases o2 : t.Op = 2
  · rw [o2]; omega
  by_cases o3 : t.Op = 3
  · rw [o3]; omega
  by_cases o4 : t.Op = 4
  · rw [o4]; omega
  have e1 : (t.Op == 1) = false := by simpa using o1
  have e2 : (t.Op == 2) = false := by simpa using o2
  have e3 : (t.Op == 3) = false := by simpa using o3
  have e4 : (t.Op == 4) = false := by simpa using o4
  simp only [e1, e2, e3, e4, Bool.false_eq_true, if_false, Option.bind_some] at hr
  by_cases hv : t.Vals.length = 1
  · by_cases o5 : t.Op = 5
    · rw [o5]; omega
    by_cases o6 : t.Op = 6
    · rw [o6]; omega
    have e5 : (t.Op == 5) = false := by simpa using o5
    have e6 : (t.Op == 6) = false := by simpa using o6
    simp only [e5, e6, Bool.false_eq_true, if_false, Option.bind_some] at hr
    cases hr
  · have ev : ((t.Vals.length : Int) != 1) = true := by
      have : ¬ (t.Vals.length : Int) = 1 := by omega
      simpa using this
    rw [ev] at hr
    by_cases o5 : t.Op = 5
    · rw [o5] at hr; simp at hr
    by_cases o6 : t.Op = 6
    · rw [o6] at hr; simp at hr
    have e5 : (t.Op == 5) = false := by simpa using o5
    have e6 : (t.Op == 6) = false := by simpa using o6
    simp only [e5, e6, Bool.false_eq_true, if_false, Option.bind_some] at hr
    cases hr

theorem getS_size {l : List T_api_Label} (h : LL l) (key : ByteArray) : (getS l key).1.size ≤ 300 := by
  unfold getS
  cases e : l.find? (fun x => decide (x.Key = key)) with
  | none => exact Nat.zero_le _
  | some x =>
    have := List.mem_of_find?_eq_some e
    obtain ⟨i, hi, rfl⟩ := List.getElem_of_mem this
    exact (h.2 i hi).2

theorem Meets_same {l : List T_api_Label} (h : LL l) (hs : sortedL l) {t : T_api_Term} (ht : LT t) (hr : ref05_RightTerm t = some true) : ref05_Meets l t = labels_Meets l t := by
  obtain ⟨hop, hv⟩ := term_right ht hr
  have hl := h.1
  have hvl := ht.1
  unfold ref05_Meets labels_Meets
  rw [Get5_eq (by omega), labels_Get_eq hs]
  simp only [Option.bind_some, in5_eq (t := t) (getS l t.Key) (show t.Vals.length ≤ 1000 by omega), among_eq]
  have hsz := getS_size h t.Key
  rcases hop with o | o | o | o | o | o
  · rw [o]; cases (getS l t.Key).2 <;> cases amongS t.Vals (getS l t.Key).1 <;> rfl
  · rw [o]; cases (getS l t.Key).2 <;> cases amongS t.Vals (getS l t.Key).1 <;> rfl
  · rw [o]; rfl
  · rw [o]; rfl
  · have hv1 := hv (.inl o)
    have hg : V.gl t.Vals 0 = some (t.Vals[0]'(by omega)) := by rw [show (0 : Int) = ((0 : Nat) : Int) from rfl, glk (by omega)]
    have hz : (t.Vals[0]'(by omega)).size ≤ 300 := ht.2.2 0 (by omega)
    unfold labels_number
    rw [o, hg, Number_same hsz]
    simp only [Option.bind_some]
    rw [Number_same hz]
    obtain ⟨a, ha⟩ := Number3_tot hsz
    obtain ⟨b, hb⟩ := Number3_tot hz
    rw [ha, hb]
    have e1 : ((t.Vals.length : Int) != 1) = false := by rw [hv1]; rfl
    rw [e1]
    simp only [Option.bind_some]
    have e2 : (a.2 != 0) = !(a.2 == 0) := rfl
    rw [e2]
    cases (getS l t.Key).2 <;> cases (a.2 == 0) <;> simp
  · have hv1 := hv (.inr o)
    have hg : V.gl t.Vals 0 = some (t.Vals[0]'(by omega)) := by rw [show (0 : Int) = ((0 : Nat) : Int) from rfl, glk (by omega)]
    have hz : (t.Vals[0]'(by omega)).size ≤ 300 := ht.2.2 0 (by omega)
    unfold labels_number
    rw [o, hg, Number_same hsz]
    simp only [Option.bind_some]
    rw [Number_same hz]
    obtain ⟨a, ha⟩ := Number3_tot hsz
    obtain ⟨b, hb⟩ := Number3_tot hz
    rw [ha, hb]
    have e1 : ((t.Vals.length : Int) != 1) = false := by rw [hv1]; rfl
    rw [e1]
    simp only [Option.bind_some]
    have e2 : (a.2 != 0) = !(a.2 == 0) := rfl
    rw [e2]
    cases (getS l t.Key).2 <;> cases (a.2 == 0) <;> simp

theorem All_same {l : List T_api_Label} (h : LL l) (hs : sortedL l) {ts : List T_api_Term} (hn : ts.length ≤ 1000) (ht : ∀ k (hk : k < ts.length), LT ts[k] ∧ ref05_RightTerm ts[k] = some true) : ref05_All l ts = labels_All l ts := by
  have hme : ∀ t, t ∈ ts → ref05_Meets l t = labels_Meets l t := fun t hm => by
    obtain ⟨i, hi, rfl⟩ := List.getElem_of_mem hm
    exact Meets_same h hs (ht i hi).1 (ht i hi).2
  have htot : ∀ t, t ∈ ts → labels_Meets l t = some ((labels_Meets l t).getD false) := fun t hm => by
    obtain ⟨i, hi, rfl⟩ := List.getElem_of_mem hm
    exact isD (Meets_tot h (ht i hi).1) false
  unfold ref05_All labels_All
  have hP : labels_All.l1 l ts 0 = some (if allN ts.length (fun k => (labels_Meets l (ts.getD k ⟨⟨#[]⟩, 0, []⟩)).getD false) = true then Out.go () else Out.ret false) :=
    rowAll (G := fun x k => labels_All.l1 l x k) (l := ts) (r0 := false) (fun k => (labels_Meets l (ts.getD k ⟨⟨#[]⟩, 0, []⟩)).getD false) (fun k hk => by
      show labels_All.l1 l (ts[k] :: ts.drop (k + 1)) k = _
      have e : ts.getD k ⟨⟨#[]⟩, 0, []⟩ = ts[k] := by simp [hk]
      rw [labels_All.l1, htot ts[k] (List.getElem_mem _), e]
      simp only [Option.bind_some, Option.getD_some]
      cases (labels_Meets l ts[k]).getD false <;> rfl) (fun k => rfl)
  have hR : ref05_All.l1 l ts FU 0 = some (if allN ts.length (fun k => (labels_Meets l (ts.getD k ⟨⟨#[]⟩, 0, []⟩)).getD false) = true then Out.go () else Out.ret false) :=
    idxAll (F := fun n i => ref05_All.l1 l ts n i) (len := ts.length) (r0 := false) (fun k => (labels_Meets l (ts.getD k ⟨⟨#[]⟩, 0, []⟩)).getD false) (by omega) (fun n k hk => by
      have e : ts.getD k ⟨⟨#[]⟩, 0, []⟩ = ts[k] := by simp [hk]
      rw [ref05_All.l1, if_pos (dlt hk), glk hk, wk1 (by omega), e]
      simp only [Option.bind_some]
      rw [hme ts[k] (List.getElem_mem _), htot ts[k] (List.getElem_mem _)]
      simp only [Option.bind_some, Option.getD_some]
      cases (labels_Meets l ts[k]).getD false <;> rfl) (fun n => by rw [ref05_All.l1, if_neg dnl])
  rw [hP, hR]

/-! taints -/
theorem bear6_eq (t : T_api_Toleration) (x : T_api_Taint) : ref06_Bears t x = some (bearB t x) := by
  unfold ref06_Bears bearB
  simp only [seq_eq]
  rfl
theorem Unborne6_eq (l : List T_api_Toleration) (ts : List T_api_Taint) (h : ts.length ≤ 1000) (hl : l.length ≤ 1000) : ref06_Unborne l ts 0 = some (ts.filter fun x => !borneB l x) := by
  unfold ref06_Unborne
  have := idxFoldL (F := fun n s i => ref06_Unborne.l1 l ts 0 n s i) (l := ts) (fun acc x => if borneB l x = true then acc else acc ++ [x]) id (fun k s => s.length ≤ k) (by omega) (fun n s k hk hI => by
    rw [ref06_Unborne.l1, if_pos (dlt hk), glk hk, wk1 (by omega)]
    have hin : ref06_Unborne.l2 l ts (k : Int) FU false 0 = some (borneB l ts[k]) := by
      have := idxFoldL (F := fun n s i => ref06_Unborne.l2 l ts (k : Int) n s i) (l := l) (fun b t => b || bearB t ts[k]) id (fun _ _ => True) (by omega) (fun n s j hj _ => by
        refine ⟨?_, trivial⟩
        rw [ref06_Unborne.l2, if_pos (dlt hj), glk hj, glk hk, wk1 (by omega)]
        simp only [Option.bind_some, bear6_eq]
        cases s <;> rfl) (fun n s => by rw [ref06_Unborne.l2, if_neg dnl]; rfl) false trivial
      rw [show ref06_Unborne.l2 l ts (k : Int) FU false 0 = _ from this]
      congr 1
      have key : ∀ (l : List T_api_Toleration) (b : Bool), l.foldl (fun b t => b || bearB t ts[k]) b = (b || borneB l ts[k]) := by
        intro l
        induction l with
        | nil => intro b; unfold borneB; simp
        | cons t l ih => intro b; rw [List.foldl_cons, ih]; unfold borneB; rw [List.any_cons, Bool.or_assoc]
      show l.foldl (fun b t => b || bearB t ts[k]) false = _
      rw [key, Bool.false_or]
    rw [if_neg (show ¬ (((0 : Int) != (0 : Int)) = true) by decide)]
    simp only [Option.bind_some, hin]
    cases hb : borneB l ts[k] with
    | true => rw [if_neg (by simp), if_pos rfl]; exact ⟨rfl, by omega⟩
    | false =>
      rw [if_pos (by simp), if_neg (by simp), ap_ok (by omega) (by simp; omega)]
      exact ⟨rfl, by simp; omega⟩) (fun n s => by rw [ref06_Unborne.l1, if_neg dnl]; rfl) [] (by simp)
  rw [show ref06_Unborne.l1 l ts 0 FU [] 0 = _ from this]
  simp only [Option.bind_some, id]
  congr 1
  have key : ∀ (ts acc : List T_api_Taint), ts.foldl (fun acc x => if borneB l x = true then acc else acc ++ [x]) acc = acc ++ ts.filter fun x => !borneB l x := by
    intro ts
    induction ts with
    | nil => intro acc; simp
    | cons x ts ih =>
      intro acc
      rw [List.foldl_cons, ih]
      cases hb : borneB l x with
      | true => rw [if_pos rfl, List.filter_cons_of_neg (by simp [hb])]
      | false => rw [if_neg (by simp), List.filter_cons_of_pos (by simp [hb])]; simp
  rw [key, List.nil_append]

theorem Allows_same (l : List T_api_Toleration) (ts : List T_api_Taint) (h : ts.length ≤ 1000) (hl : l.length ≤ 1000) : ref06_Allows l ts = taints_Allows l ts := by
  have hP : taints_Allows l ts = some (!(ts.any fun x => !borneB l x && (decide (x.Effect = 1) || decide (x.Effect = 3)))) := by
    unfold taints_Allows
    rw [Unborne_eq l ts 1 h, Unborne_eq l ts 3 h]
    simp only [Option.bind_some]
    congr 1
    have l1 := List.length_filter_le (fun x => (decide ((1 : Int) = 0) || decide (x.Effect = 1)) && !borneB l x) ts
    have l2 := List.length_filter_le (fun x => (decide ((3 : Int) = 0) || decide (x.Effect = 3)) && !borneB l x) ts
    rw [w_eq (by omega) (by omega)]
    cases ha : ts.any fun x => !borneB l x && (decide (x.Effect = 1) || decide (x.Effect = 3)) with
    | true =>
      obtain ⟨x, hx, hq⟩ := List.any_eq_true.1 ha
      simp only [Bool.and_eq_true, Bool.or_eq_true, decide_eq_true_eq, Bool.not_eq_true'] at hq
      rcases hq.2 with e | e
      · have : x ∈ ts.filter fun x => (decide ((1 : Int) = 0) || decide (x.Effect = 1)) && !borneB l x := List.mem_filter.2 ⟨hx, by simp [e, hq.1]⟩
        have := List.length_pos_of_mem this
        have hne : ¬ (((ts.filter fun x => (decide ((1 : Int) = 0) || decide (x.Effect = 1)) && !borneB l x).length : Int) + ((ts.filter fun x => (decide ((3 : Int) = 0) || decide (x.Effect = 3)) && !borneB l x).length : Int)) = 0 := by omega
        simpa using hne
      · have : x ∈ ts.filter fun x => (decide ((3 : Int) = 0) || decide (x.Effect = 3)) && !borneB l x := List.mem_filter.2 ⟨hx, by simp [e, hq.1]⟩
        have := List.length_pos_of_mem this
        have hne : ¬ (((ts.filter fun x => (decide ((1 : Int) = 0) || decide (x.Effect = 1)) && !borneB l x).length : Int) + ((ts.filter fun x => (decide ((3 : Int) = 0) || decide (x.Effect = 3)) && !borneB l x).length : Int)) = 0 := by omega
        simpa using hne
    | false =>
      have e1 : (ts.filter fun x => (decide ((1 : Int) = 0) || decide (x.Effect = 1)) && !borneB l x) = [] := List.filter_eq_nil_iff.2 fun x hx => by
        have := List.any_eq_false.1 ha x hx
        intro q
        simp only [Bool.and_eq_true, Bool.or_eq_true, decide_eq_true_eq, Bool.not_eq_true'] at q
        apply this
        rcases q.1 with z | z
        · omega
        · simp [q.2, z]
      have e2 : (ts.filter fun x => (decide ((3 : Int) = 0) || decide (x.Effect = 3)) && !borneB l x) = [] := List.filter_eq_nil_iff.2 fun x hx => by
        have := List.any_eq_false.1 ha x hx
        intro q
        simp only [Bool.and_eq_true, Bool.or_eq_true, decide_eq_true_eq, Bool.not_eq_true'] at q
        apply this
        rcases q.1 with z | z
        · omega
        · simp [q.2, z]
      rw [e1, e2]
      rfl
  rw [hP]
  unfold ref06_Allows
  rw [Unborne6_eq l ts h hl]
  simp only [Option.bind_some]
  have hlen : (ts.filter fun x => !borneB l x).length ≤ 1000 := by
    have := List.length_filter_le (fun x => !borneB l x) ts
    omega
  have := idxFindL (F := fun n i => ref06_Allows.l1 (ts.filter fun x => !borneB l x) n i) (l := ts.filter fun x => !borneB l x) (fun x => (x.Effect == 1) || (x.Effect == 3)) (fun _ => false) (by omega) (fun n k hk => by
    rw [ref06_Allows.l1, if_pos (dlt hk), glk hk, wk1 (by omega)]
    rfl) (fun n => by rw [ref06_Allows.l1, if_neg dnl])
  rw [show ref06_Allows.l1 (ts.filter fun x => !borneB l x) FU 0 = _ from this, List.find?_filter]
  have e : ts.any (fun x => !borneB l x && (decide (x.Effect = 1) || decide (x.Effect = 3))) = (ts.find? fun a => decide ((!borneB l a) = true ∧ ((a.Effect == 1) || (a.Effect == 3)) = true)).isSome := by
    rw [Bool.eq_iff_iff, List.any_eq_true, List.find?_isSome]
    simp
  rw [e]
  cases ts.find? fun a => decide ((!borneB l a) = true ∧ ((a.Effect == 1) || (a.Effect == 3)) = true) <;> rfl
end Go.Proofs.YtmpkpnclmihdnaaGreat.M

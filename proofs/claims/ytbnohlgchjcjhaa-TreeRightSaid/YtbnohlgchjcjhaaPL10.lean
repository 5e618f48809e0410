/-
  Plain laws of lex: LexQuotes, LexJoins. Own text.
-/
import Derived.Test.YtbnohlgchjcjhaaPL9
namespace Go.Proofs.Ytbnohlgchjcjhaa.M
open Go Go.Proofs Go.Proofs.Ytbnohlgchjcjhaa.V
set_option linter.unusedVariables false

/-- A text's bytes, as they stand in quotes. -/
def quoteL : List Int → List Int
  | [] => []
  | b :: t => if b = 10 then 92 :: 110 :: quoteL t else if b = 34 ∨ b = 92 then 92 :: b :: quoteL t else b :: quoteL t

theorem quoteL_append (u v : List Int) : quoteL (u ++ v) = quoteL u ++ quoteL v := by
  induction u with
  | nil => rfl
  | cons b t ih =>
    simp only [List.cons_append, quoteL, ih]
    split
    · rfl
    · split <;> rfl
theorem quoteL_high {u : List Int} (h : ∀ b, b ∈ u → 128 ≤ b) : quoteL u = u := by
  induction u with
  | nil => rfl
  | cons b t ih =>
    have hb := h b (by simp)
    rw [quoteL, if_neg (by omega), if_neg (by omega), ih (fun b hb => h b (by simp [hb]))]
theorem quoteL_len (u : List Int) : (quoteL u).length ≤ 2 * u.length := by
  induction u with
  | nil => simp [quoteL]
  | cons b t ih =>
    rw [quoteL]
    split
    · simp only [List.length_cons]; omega
    · split
      · simp only [List.length_cons]; omega
      · simp only [List.length_cons]; omega
theorem quoteL_by {u : List Int} (h : By u) : By (quoteL u) := by
  induction u with
  | nil => exact h
  | cons b t ih =>
    have h1 := ih h.tail
    have hb := h b (by simp)
    rw [quoteL]
    intro x hx
    split at hx
    · simp only [List.mem_cons] at hx
      rcases hx with rfl | rfl | hx
      · omega
      · omega
      · exact h1 x hx
    · split at hx
      · simp only [List.mem_cons] at hx
        rcases hx with rfl | rfl | hx
        · omega
        · exact hb
        · exact h1 x hx
      · simp only [List.mem_cons] at hx
        rcases hx with rfl | hx
        · exact hb
        · exact h1 x hx
theorem quoteL_cont (t m : List Int) : (quoteL t ++ 34 :: m).takeWhile cont = t.takeWhile cont := by
  induction t with
  | nil => rfl
  | cons b t ih =>
    rw [quoteL]
    split
    · rename_i h; subst h; rfl
    · split
      · rename_i h
        have : cont b = false := by unfold cont; rcases h with rfl | rfl <;> rfl
        rw [List.takeWhile_cons_of_neg (by simp [this])]
        rfl
      · rw [List.cons_append, List.takeWhile_cons, List.takeWhile_cons, ih]

/-- A text of right runes that may stand there. -/
def good (l : List Int) : Prop := cnt l ≠ none ∧ ∀ b, b ∈ l → ctl b = false

theorem ctl_high {b : Int} (h : 128 ≤ b) : ctl b = false := by
  unfold ctl
  simp only [Bool.or_eq_false_iff, Bool.and_eq_false_iff, decide_eq_false_iff_not, beq_eq_false_iff_ne, bne_eq_false_iff_eq]
  omega

theorem take_high {l : List Int} {c : Int} {w : Nat} (h : rl l = some (c, w)) (hc : ¬ c < 128) : ∀ b, b ∈ l.take w → 128 ≤ b := by
  intro b hb
  obtain ⟨j, hj⟩ := List.getElem?_of_mem hb
  rw [List.getElem?_take] at hj
  split at hj
  · rcases (rl_some h).2.2 with ⟨t, _, h1, _⟩ | ⟨_, _, _, h2⟩
    · omega
    · exact h2 j b (by assumption) hj
  · cases hj

theorem good_nil : good [] := ⟨by rw [cnt_nil]; simp, by simp⟩
theorem good_low {c : Int} {t : List Int} (hc : c < 128) : good (c :: t) ↔ ctl c = false ∧ good t := by
  unfold good
  rw [cnt_go (rl_ascii hc)]
  simp only [List.drop_succ_cons, List.drop_zero, List.mem_cons, ne_eq, Option.map_eq_none_iff]
  constructor
  · rintro ⟨h1, h2⟩; exact ⟨h2 c (.inl rfl), h1, fun b hb => h2 b (.inr hb)⟩
  · rintro ⟨h1, h2, h3⟩; exact ⟨h2, fun b hb => by rcases hb with rfl | hb; exact h1; exact h3 b hb⟩
theorem good_high {l : List Int} {c : Int} {w : Nat} (h : rl l = some (c, w)) (hc : ¬ c < 128) : good l ↔ good (l.drop w) := by
  unfold good
  rw [cnt_go h]
  simp only [ne_eq, Option.map_eq_none_iff]
  constructor
  · rintro ⟨h1, h2⟩; exact ⟨h1, fun b hb => h2 b (List.mem_of_mem_drop hb)⟩
  · rintro ⟨h1, h2⟩
    refine ⟨h1, fun b hb => ?_⟩
    rw [← List.take_append_drop w l] at hb
    rcases List.mem_append.1 hb with hb | hb
    · exact ctl_high (take_high h hc b hb)
    · exact h2 b hb

theorem low_cons {l : List Int} {c : Int} {w : Nat} (h : rl l = some (c, w)) (hc : c < 128) : ∃ t, l = c :: t ∧ w = 1 := by
  rcases (rl_some h).2.2 with ⟨t, h0, h1, h2⟩ | ⟨h1, _⟩
  · exact ⟨t, h0, h2⟩
  · omega

theorem quote_high {l m : List Int} {c : Int} {w : Nat} (h : rl l = some (c, w)) (hc : ¬ c < 128) : rl (quoteL l ++ m) = some (c, w) ∧ (quoteL l ++ m).take w = l.take w ∧ (quoteL l ++ m).drop w = quoteL (l.drop w) ++ m ∧ (quoteL l).length = w + (quoteL (l.drop w)).length := by
  have hw := (rl_some h).2.1
  have e : quoteL l = l.take w ++ quoteL (l.drop w) := by
    rw [← quoteL_high (take_high h hc), ← quoteL_append, List.take_append_drop]
  have hl : (l.take w).length = w := by rw [List.length_take]; omega
  rw [e, List.append_assoc]
  refine ⟨rl_take h, ?_, ?_, by rw [List.length_append, hl]⟩
  · rw [List.take_append_of_le_length (by omega), List.take_of_length_le (by omega)]
  · rw [List.drop_append_of_le_length (by omega), List.drop_eq_nil_of_le (by omega), List.nil_append]

theorem text_quote : ∀ (k : Nat) (l m : List Int), l.length ≤ k → good l → textL (quoteL l ++ 34 :: m) = .ok (l, (quoteL l).length + 1) := by
  intro k
  induction k with
  | zero =>
    intro l m h _
    obtain rfl := List.eq_nil_of_length_eq_zero (Nat.le_zero.1 h)
    exact textL_end m
  | succ k ih =>
    intro l m h hg
    by_cases hl : l = []
    · subst hl; exact textL_end m
    cases hr : rl l with
    | none => exact absurd (cnt_none hl hr) hg.1
    | some q =>
      obtain ⟨c, w⟩ := q
      have hw := rl_some hr
      by_cases hc : c < 128
      · obtain ⟨t, rfl, rfl⟩ := low_cons hr hc
        obtain ⟨h1, h2⟩ := (good_low hc).1 hg
        simp only [List.length_cons] at h
        have := ih t m (by omega) h2
        by_cases q1 : c = 10
        · subst q1
          rw [quoteL, if_pos rfl]
          simp only [List.cons_append]
          rw [textL_esc, show mask 110 = some 10 from rfl]
          simp only [this, Res.map, List.length_cons]
        · by_cases q2 : c = 34 ∨ c = 92
          · rw [quoteL, if_neg q1, if_pos q2]
            simp only [List.cons_append]
            rw [textL_esc, show mask c = some c by unfold mask; rw [if_neg (by omega), if_pos q2]]
            simp only [this, Res.map, List.length_cons]
          · rw [quoteL, if_neg q1, if_neg q2]
            simp only [List.cons_append]
            rw [textL_go (rl_ascii hc) h1 (by omega) (by omega)]
            simp only [List.drop_succ_cons, List.drop_zero, this, Res.map, List.take_succ_cons, List.take_zero, List.length_cons, List.cons_append, List.nil_append]
      · obtain ⟨e1, e2, e3, e4⟩ := quote_high (m := 34 :: m) hr hc
        rw [textL_go e1 (ctl_high (by omega)) (by omega) (by omega), e2, e3, ih (l.drop w) m (by rw [List.length_drop]; omega) ((good_high hr hc).1 hg)]
        simp only [Res.map, List.take_append_drop, e4]
        congr 2
        omega

theorem text_quote_bad : ∀ (k : Nat) (l m : List Int), l.length ≤ k → ¬ good l → textL (quoteL l ++ 34 :: m) = .err 2 := by
  intro k
  induction k with
  | zero =>
    intro l m h hg
    obtain rfl := List.eq_nil_of_length_eq_zero (Nat.le_zero.1 h)
    exact absurd good_nil hg
  | succ k ih =>
    intro l m h hg
    by_cases hl : l = []
    · subst hl; exact absurd good_nil hg
    cases hr : rl l with
    | none =>
      obtain ⟨b, t, rfl⟩ : ∃ b t, l = b :: t := by cases l with | nil => exact absurd rfl hl | cons b t => exact ⟨b, t, rfl⟩
      have hb := rl_none hr
      rw [quoteL, if_neg (by omega), if_neg (by omega), List.cons_append]
      refine textL_none (by simp) ?_
      rw [rl_cont (quoteL_cont t m), hr]
    | some q =>
      obtain ⟨c, w⟩ := q
      have hw := rl_some hr
      by_cases hc : c < 128
      · obtain ⟨t, rfl, rfl⟩ := low_cons hr hc
        simp only [List.length_cons] at h
        by_cases h1 : ctl c = true
        · have q1 : c ≠ 10 := by rintro rfl; exact absurd h1 (by decide)
          have q2 : ¬ (c = 34 ∨ c = 92) := by rintro (rfl | rfl) <;> exact absurd h1 (by decide)
          rw [quoteL, if_neg q1, if_neg q2, List.cons_append]
          exact textL_ctl (rl_ascii hc) h1
        · have h1' : ctl c = false := by simpa using h1
          have hg' : ¬ good t := fun hq => hg ((good_low hc).2 ⟨h1', hq⟩)
          have := ih t m (by omega) hg'
          by_cases q1 : c = 10
          · subst q1
            rw [quoteL, if_pos rfl]
            simp only [List.cons_append]
            rw [textL_esc, show mask 110 = some 10 from rfl]
            simp only [this, Res.map]
          · by_cases q2 : c = 34 ∨ c = 92
            · rw [quoteL, if_neg q1, if_pos q2]
              simp only [List.cons_append]
              rw [textL_esc, show mask c = some c by unfold mask; rw [if_neg (by omega), if_pos q2]]
              simp only [this, Res.map]
            · rw [quoteL, if_neg q1, if_neg q2]
              simp only [List.cons_append]
              rw [textL_go (rl_ascii hc) h1' (by omega) (by omega)]
              simp only [List.drop_succ_cons, List.drop_zero, this, Res.map]
      · obtain ⟨e1, e2, e3, e4⟩ := quote_high (m := 34 :: m) hr hc
        rw [textL_go e1 (ctl_high (by omega)) (by omega) (by omega), e3, ih (l.drop w) m (by rw [List.length_drop]; omega) (fun hq => hg ((good_high hr hc).2 hq))]
        rfl

/-! the model of Quote -/
theorem Quote_loopL {s : ByteArray} (hs : s.size < 17592186044416) : ∀ (k i f : Nat) (b : List Int), s.size - i ≤ k → k < f → i ≤ s.size → b.length + 2 * k ≤ 70368744177664 →
    lex_Quote.l1 s f b (i : Int) = some (b ++ quoteL ((bytesL s).drop i)) := by
  intro k
  induction k with
  | zero =>
    intro i f b h1 h2 h3 h5
    obtain ⟨f, rfl⟩ : ∃ q, f = q + 1 := ⟨f - 1, by omega⟩
    rw [lex_Quote.l1, if_neg (by simp; omega), List.drop_eq_nil_of_le (by rw [bytesL_length]; omega)]
    simp [quoteL]
  | succ k ih =>
    intro i f b h1 h2 h3 h5
    obtain ⟨f, rfl⟩ : ∃ q, f = q + 1 := ⟨f - 1, by omega⟩
    by_cases hp : i < s.size
    · have e : IntKind.i64.wrap ((i : Int) + 1) = ((i + 1 : Nat) : Int) := by rw [w_eq (by omega) (by omega)]; omega
      have go : ∀ m : List Int, m.length ≤ 2 → (V.ap 1 b m).bind (fun b6 => lex_Quote.l1 s f b6 ((i + 1 : Nat) : Int)) = some (b ++ (m ++ quoteL ((bytesL s).drop (i + 1)))) := fun m hm => by
        have hap : V.ap 1 b m = some (b ++ m) := by
          unfold V.ap
          rw [if_pos]
          unfold maxLen
          omega
        rw [hap, ← List.append_assoc]
        exact ih (i + 1) f (b ++ m) (by omega) (by omega) (by omega) (by simp; omega)
      rw [lex_Quote.l1, if_pos (by simp; omega), drop_cons_bt hp, quoteL]
      simp only [gi_nat hp, Option.bind_some, e]
      by_cases c1 : bt s i = 10
      · rw [if_pos (by simpa using c1), if_pos c1]; exact go [92, 110] (by simp)
      · rw [if_neg (by simpa using c1), if_neg c1]
        by_cases c2 : bt s i = 34
        · rw [if_pos (by simpa using c2), if_pos (.inl c2)]; exact go [92, bt s i] (by simp)
        · rw [if_neg (by simpa using c2)]
          by_cases c3 : bt s i = 92
          · rw [if_pos (by simpa using c3), if_pos (.inr c3)]; exact go [92, bt s i] (by simp)
          · rw [if_neg (by simpa using c3), if_neg (by omega)]; exact go [bt s i] (by simp)
    · rw [lex_Quote.l1, if_neg (by simp; omega), List.drop_eq_nil_of_le (by rw [bytesL_length]; omega)]
      simp [quoteL]

theorem Quote_list {s : ByteArray} (hs : s.size < 17592186044416) : ∃ q, lex_Quote s = some q ∧ bytesL q = 34 :: (quoteL (bytesL s) ++ [34]) ∧ q.size ≤ 2 * s.size + 2 := by
  have h : lex_Quote.l1 s FU [34] 0 = some ([34] ++ quoteL (bytesL s)) := by
    have := Quote_loopL hs s.size 0 FU [34] (by omega) (by unfold FU; omega) (by omega) (by simp; omega)
    rwa [List.drop_zero] at this
  have hl := quoteL_len (bytesL s)
  rw [bytesL_length] at hl
  have hap : V.ap 1 ([34] ++ quoteL (bytesL s)) [(34 : Int)] = some ([34] ++ quoteL (bytesL s) ++ [34]) := by
    unfold V.ap
    rw [if_pos]
    unfold maxLen
    simp only [List.length_append, List.length_cons, List.length_nil]
    omega
  refine ⟨strOfNums ([34] ++ quoteL (bytesL s) ++ [34]), ?_, ?_, ?_⟩
  · unfold lex_Quote
    rw [h]
    simp only [Option.bind_some, hap]
  · rw [strOfNums_bytes]
    · rfl
    · have hq := quoteL_by (bytesL_by s)
      refine By.append (By.append ?_ hq) ?_ <;> (intro b hb; simp at hb; omega)
  · rw [strOfNums_size]
    simp only [List.length_append, List.length_cons, List.length_nil]
    omega
end Go.Proofs.Ytbnohlgchjcjhaa.M

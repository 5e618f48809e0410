/-
  Plain laws of lex: LexWords, LexQuotes, LexJoins. Own text.
-/
import Derived.Test.YtbnohlgchjcjhaaPL8
namespace Go.Proofs.Ytbnohlgchjcjhaa.M
open Go Go.Proofs Go.Proofs.Ytbnohlgchjcjhaa.V
set_option linter.unusedVariables false

/-- Through a scan, step by step. -/
theorem scanL_ind {motive : List Int → Res (List (Int × List Int)) → Prop}
    (nil : motive [] (.ok []))
    (blank : ∀ b t, blankB b = true → motive t (scanL t) → motive (b :: t) (scanL t))
    (rem : ∀ t n, headL nlB (59 :: t) = (n, true) → 1 ≤ n → motive ((59 :: t).drop n) (scanL ((59 :: t).drop n)) → motive (59 :: t) (scanL ((59 :: t).drop n)))
    (remE : ∀ t n, headL nlB (59 :: t) = (n, false) → motive (59 :: t) (.err 2))
    (opn : ∀ t, motive t (scanL t) → motive (40 :: t) ((scanL t).map ((1, [40]) :: ·)))
    (cls : ∀ t, motive t (scanL t) → motive (41 :: t) ((scanL t).map ((2, [41]) :: ·)))
    (text : ∀ t x n, textL t = .ok (x, n) → motive (t.drop n) (scanL (t.drop n)) → motive (34 :: t) ((scanL (t.drop n)).map ((4, x) :: ·)))
    (textE : ∀ t e, textL t = .err e → motive (34 :: t) (.err e))
    (word : ∀ b t n f, wordB b = true → headL plainB (b :: t) = (n, f) → n ≠ 0 → longB (cnt ((b :: t).take n)) = false → motive ((b :: t).drop n) (scanL ((b :: t).drop n)) → motive (b :: t) ((scanL ((b :: t).drop n)).map ((3, (b :: t).take n) :: ·)))
    (wordE : ∀ b t e, wordB b = true → (e = 2 ∨ e = 4) → motive (b :: t) (.err e)) : ∀ (k : Nat) (l : List Int), l.length ≤ k → motive l (scanL l) := by
  intro k
  induction k with
  | zero =>
    intro l h
    obtain rfl := List.eq_nil_of_length_eq_zero (Nat.le_zero.1 h)
    rw [scanL_nil]; exact nil
  | succ k ih =>
    intro l h
    cases l with
    | nil => rw [scanL_nil]; exact nil
    | cons b t =>
      simp only [List.length_cons] at h
      by_cases q0 : blankB b = true
      · rw [scanL_blank q0]; exact blank b t q0 (ih t (by omega))
      by_cases q1 : b = 59
      · subst q1
        rw [scanL_rem]
        cases hh : headL nlB (59 :: t) with
        | mk n f =>
          cases f with
          | false => simp only [Bool.false_eq_true, if_false]; exact remE t n hh
          | true =>
            simp only [if_true]
            have hn : 1 ≤ n := by
              rw [headL_go (rl_ascii (by decide)) (by rfl)] at hh
              have := congrArg Prod.fst hh
              simp only at this
              omega
            rw [drop_tail (b := 59) hn]
            exact rem t n hh hn (ih _ (by rw [List.length_drop, List.length_cons]; omega))
      by_cases q2 : b = 40
      · subst q2; rw [scanL_open]; exact opn t (ih t (by omega))
      by_cases q3 : b = 41
      · subst q3; rw [scanL_close]; exact cls t (ih t (by omega))
      by_cases q4 : b = 34
      · subst q4
        rw [scanL_text]
        cases ht : textL t with
        | err e => exact textE t e ht
        | ok q =>
          obtain ⟨x, n⟩ := q
          exact text t x n ht (ih _ (by rw [List.length_drop]; omega))
      have hwb : wordB b = true := by
        unfold wordB
        simp [q0, q1, q2, q3, q4]
      rw [scanL_word hwb]
      cases hh : headL plainB (b :: t) with
      | mk n f =>
        simp only
        by_cases h0 : n = 0
        · rw [if_pos h0]; exact wordE b t 2 hwb (.inl rfl)
        · rw [if_neg h0]
          cases hl : longB (cnt ((b :: t).take n)) with
          | true => simp only [if_true]; exact wordE b t 4 hwb (.inr rfl)
          | false =>
            simp only [Bool.false_eq_true, if_false]
            exact word b t n f hwb hh h0 hl (ih _ (by rw [List.length_drop, List.length_cons]; omega))

theorem map_ok {α β : Type} {f : α → β} {r : Res α} {y : β} (h : r.map f = .ok y) : ∃ x, r = .ok x ∧ y = f x := by
  cases r with
  | ok a => simp only [Res.map, Res.ok.injEq] at h; exact ⟨a, rfl, h.symm⟩
  | err e => simp [Res.map] at h

/-! words -/
def wordL (l : List Int) : Bool := ((headL plainB l).2 && (headL plainB l).1 == l.length && decide (0 < (headL plainB l).1)) && !longB (cnt l)

theorem headL_full (p : Int → Bool) : ∀ (k : Nat) (l : List Int), l.length ≤ k → (headL p l).1 = l.length → (headL p l).2 = true := by
  intro k
  induction k with
  | zero =>
    intro l h _
    obtain rfl := List.eq_nil_of_length_eq_zero (Nat.le_zero.1 h)
    rw [headL_nil]
  | succ k ih =>
    intro l h he
    by_cases hl : l = []
    · subst hl; rw [headL_nil]
    cases hr : rl l with
    | none =>
      rw [headL_none hl hr] at he
      exact absurd (List.eq_nil_of_length_eq_zero he.symm) hl
    | some q =>
      obtain ⟨c, w⟩ := q
      have hw := rl_some hr
      cases hp : p c with
      | false => rw [headL_stop hr hp]
      | true =>
        rw [headL_go hr hp] at he ⊢
        simp only at he ⊢
        exact ih _ (by rw [List.length_drop]; omega) (by rw [List.length_drop]; omega)

/-- A word's text is no longer than what it stands in. -/
theorem scan_short {l : List Int} : ∀ ts, scanL l = .ok ts → ∀ x, (3, x) ∈ ts → x.length ≤ l.length := by
  refine scanL_ind (motive := fun l r => ∀ ts, r = .ok ts → ∀ x, (3, x) ∈ ts → x.length ≤ l.length) ?_ ?_ ?_ ?_ ?_ ?_ ?_ ?_ ?_ ?_ l.length l (Nat.le_refl _)
  · intro ts h x hx; cases h; cases hx
  · intro b t _ ih ts h x hx
    have := ih ts h x hx
    simp only [List.length_cons]; omega
  · intro t n _ _ ih ts h x hx
    have := ih ts h x hx
    rw [List.length_drop] at this; omega
  · intro t n _ ts h; cases h
  · intro t ih ts h x hx
    obtain ⟨us, h1, rfl⟩ := map_ok h
    rcases List.mem_cons.1 hx with e | hx
    · cases e
    · have := ih us h1 x hx
      simp only [List.length_cons]; omega
  · intro t ih ts h x hx
    obtain ⟨us, h1, rfl⟩ := map_ok h
    rcases List.mem_cons.1 hx with e | hx
    · cases e
    · have := ih us h1 x hx
      simp only [List.length_cons]; omega
  · intro t y n _ ih ts h x hx
    obtain ⟨us, h1, rfl⟩ := map_ok h
    rcases List.mem_cons.1 hx with e | hx
    · cases e
    · have := ih us h1 x hx
      rw [List.length_drop] at this
      simp only [List.length_cons]; omega
  · intro t e _ ts h; cases h
  · intro b t n f _ _ _ _ ih ts h x hx
    obtain ⟨us, h1, rfl⟩ := map_ok h
    rcases List.mem_cons.1 hx with e | hx
    · cases e
      rw [List.length_take]; omega
    · have := ih us h1 x hx
      rw [List.length_drop] at this; omega
  · intro b t e _ _ ts h; cases h

theorem plain_first {l : List Int} {c : Int} {w : Nat} (h : rl l = some (c, w)) (hp : plainB c = true) : ∃ b t, l = b :: t ∧ wordB b = true := by
  rcases (rl_some h).2.2 with ⟨t, rfl, _, _⟩ | ⟨_, _, ⟨b, t, rfl, hb⟩, _⟩
  · refine ⟨c, t, rfl, ?_⟩
    unfold plainB at hp
    unfold wordB blankB
    simp only [Bool.and_eq_true, decide_eq_true_eq, bne_iff_ne, ne_eq, Bool.not_eq_true', Bool.or_eq_false_iff, beq_eq_false_iff_ne] at hp ⊢
    omega
  · refine ⟨b, t, rfl, ?_⟩
    unfold wordB blankB
    simp only [Bool.and_eq_true, bne_iff_ne, ne_eq, Bool.not_eq_true', Bool.or_eq_false_iff, beq_eq_false_iff_ne]
    omega

theorem word_scan {l : List Int} : wordL l = true → scanL l = .ok [(3, l)] := by
  intro h
  unfold wordL at h
  simp only [Bool.and_eq_true, beq_iff_eq, decide_eq_true_eq, Bool.not_eq_true'] at h
  obtain ⟨⟨⟨h1, h2⟩, h3⟩, h4⟩ := h
  have hl : l ≠ [] := by intro e; subst e; rw [headL_nil] at h3; omega
  cases hr : rl l with
  | none => rw [headL_none hl hr] at h3; omega
  | some q =>
    obtain ⟨c, w⟩ := q
    have hp : plainB c = true := by
      cases hp : plainB c with
      | true => rfl
      | false => rw [headL_stop hr hp] at h3; omega
    obtain ⟨b, t, rfl, hb⟩ := plain_first hr hp
    have et : (b :: t).take (headL plainB (b :: t)).1 = b :: t := by rw [h2, List.take_length]
    have ed : (b :: t).drop (headL plainB (b :: t)).1 = [] := by rw [h2, List.drop_length]
    rw [scanL_word hb, if_neg (by omega), et, ed, h4, scanL_nil]
    rfl

theorem scan_word {l : List Int} (h : scanL l = .ok [(3, l)]) : wordL l = true := by
  cases l with
  | nil => rw [scanL_nil] at h; cases h
  | cons b t =>
    by_cases q0 : blankB b = true
    · rw [scanL_blank q0] at h
      have := scan_short _ h (b :: t) (by simp)
      simp at this
      omega
    by_cases q1 : b = 59
    · subst q1
      rw [scanL_rem] at h
      split at h
      · have := scan_short _ h (59 :: t) (by simp)
        rw [List.length_drop, List.length_cons] at this
        omega
      · cases h
    by_cases q2 : b = 40
    · subst q2; rw [scanL_open] at h; obtain ⟨us, _, h2⟩ := map_ok h; cases h2
    by_cases q3 : b = 41
    · subst q3; rw [scanL_close] at h; obtain ⟨us, _, h2⟩ := map_ok h; cases h2
    by_cases q4 : b = 34
    · subst q4
      rw [scanL_text] at h
      cases ht : textL t with
      | err e => rw [ht] at h; cases h
      | ok q =>
        rw [ht] at h
        obtain ⟨us, _, h2⟩ := map_ok h; cases h2
    have hwb : wordB b = true := by
      unfold wordB
      simp [q0, q1, q2, q3, q4]
    rw [scanL_word hwb] at h
    split at h
    · cases h
    · rename_i h0
      split at h
      · cases h
      · rename_i h1
        obtain ⟨us, h2, h3⟩ := map_ok h
        have e : (b :: t).take (headL plainB (b :: t)).1 = b :: t := by
          have := (List.cons.inj h3).1
          exact (Prod.mk.inj this).2.symm
        have hle := headL_le plainB _ (b :: t) (Nat.le_refl _)
        have hn : (headL plainB (b :: t)).1 = (b :: t).length := by
          have := congrArg List.length e
          rw [List.length_take] at this
          omega
        rw [e] at h1
        unfold wordL
        rw [headL_full plainB _ _ (Nat.le_refl _) hn, hn]
        simp
        simpa using h1

theorem bytesL_inj {a b : ByteArray} (h : bytesL a = bytesL b) : a = b := by
  unfold bytesL at h
  have h2 : a.data.toList = b.data.toList := by
    refine (List.map_inj_right (f := fun (b : UInt8) => (b.toNat : Int)) ?_).1 h
    intro x y hxy
    have : x.toNat = y.toNat := Int.ofNat_inj.1 hxy
    exact UInt8.toNat_inj.1 this
  cases a; cases b
  congr 1
  exact Array.toList_inj.1 h2

theorem seq_iff (a b : ByteArray) : V.seq a b = decide (bytesL a = bytesL b) := by
  by_cases h : bytesL a = bytesL b
  · have := bytesL_inj h
    subst this
    simp [V.seq]
  · have : ¬ a.toList = b.toList := fun e => h (by
      have : a = b := by
        have h1 : a.data.toList = b.data.toList := by simpa [ByteArray.toList_eq] using e
        cases a; cases b
        congr 1
        exact Array.toList_inj.1 h1
      rw [this])
    simp [V.seq, h, this]

theorem Word_list {s : ByteArray} (hs : s.size < 70368744177664) : lex_Word s = some (wordL (bytesL s)) := by
  unfold lex_Word wordL
  rw [headP_eq (by omega)]
  simp only [Option.bind_some, bytesL_length]
  have hle := headL_le plainB _ (bytesL s) (Nat.le_refl _)
  have hc := cnt_headL plainB _ (bytesL s) (Nat.le_refl _)
  generalize headL plainB (bytesL s) = q at *
  obtain ⟨n, b⟩ := q
  simp only at *
  cases b with
  | false => simp
  | true =>
    by_cases h1 : n = s.size
    · subst h1
      by_cases h2 : 0 < s.size
      · have hc : cnt (bytesL s) ≠ none := by rwa [← bytesL_length, List.take_length] at hc
        rw [if_pos (by simp; omega), Runes_cnt (by omega)]
        cases hq : cnt (bytesL s) with
        | none => exact absurd hq hc
        | some m =>
          by_cases h6 : 64 < m
          · simp [longB, runesI, h2, h6]; omega
          · simp [longB, runesI, h2, h6]; omega
      · rw [if_neg (by simpa using h2)]
        simp [h2]
    · have : ¬ (n : Int) = (s.size : Int) := by omega
      simp [h1, this]
end Go.Proofs.Ytbnohlgchjcjhaa.M

/-
  Plain laws of lex: LexJoins. Own text.
-/
import Derived.Test.YtbnohlgchjcjhaaPL10
namespace Go.Proofs.Ytbnohlgchjcjhaa.M
open Go Go.Proofs Go.Proofs.Ytbnohlgchjcjhaa.V
set_option linter.unusedVariables false

/-- What stops a head, behind it. -/
def stops (p : Int → Bool) (r : List Int) : Prop := r = [] ∨ ∃ d r', r = d :: r' ∧ d < 128 ∧ p d = false

theorem headL_stops {p : Int → Bool} {r : List Int} (h : stops p r) : headL p r = (0, true) := by
  rcases h with rfl | ⟨d, r', rfl, h1, h2⟩
  · exact headL_nil p
  · exact headL_stop (rl_ascii h1) h2

/-- What comes behind a stop makes no difference. -/
theorem headL_app {p : Int → Bool} {r : List Int} (hs : stops p r) : ∀ (k : Nat) (l : List Int) (n : Nat), l.length ≤ k → headL p l = (n, true) → headL p (l ++ r) = (n, true) := by
  intro k
  induction k with
  | zero =>
    intro l n h hh
    obtain rfl := List.eq_nil_of_length_eq_zero (Nat.le_zero.1 h)
    rw [headL_nil] at hh; cases hh
    exact headL_stops hs
  | succ k ih =>
    intro l n h hh
    by_cases hl : l = []
    · subst hl
      rw [headL_nil] at hh; cases hh
      exact headL_stops hs
    cases hr : rl l with
    | none => rw [headL_none hl hr] at hh; cases hh
    | some q =>
      obtain ⟨c, w⟩ := q
      have hw := rl_some hr
      cases hp : p c with
      | false => rw [headL_stop hr hp] at hh; cases hh; exact headL_stop (rl_append hr) hp
      | true =>
        rw [headL_go hr hp] at hh
        rw [headL_go (rl_append hr) hp, List.drop_append_of_le_length hw.2.1]
        simp only [Prod.mk.injEq] at hh
        rw [ih (l.drop w) (headL p (l.drop w)).1 (by rw [List.length_drop]; omega) (Prod.ext rfl hh.2), ← hh.1]

theorem headL_bad {p : Int → Bool} : ∀ (k : Nat) (l : List Int) (n : Nat), l.length ≤ k → headL p l = (n, false) → l.drop n ≠ [] ∧ rl (l.drop n) = none := by
  intro k
  induction k with
  | zero =>
    intro l n h hh
    obtain rfl := List.eq_nil_of_length_eq_zero (Nat.le_zero.1 h)
    rw [headL_nil] at hh; cases hh
  | succ k ih =>
    intro l n h hh
    by_cases hl : l = []
    · subst hl; rw [headL_nil] at hh; cases hh
    cases hr : rl l with
    | none => rw [headL_none hl hr] at hh; cases hh; exact ⟨hl, hr⟩
    | some q =>
      obtain ⟨c, w⟩ := q
      have hw := rl_some hr
      cases hp : p c with
      | false => rw [headL_stop hr hp] at hh; cases hh
      | true =>
        rw [headL_go hr hp] at hh
        simp only [Prod.mk.injEq] at hh
        have := ih (l.drop w) (headL p (l.drop w)).1 (by rw [List.length_drop]; omega) (Prod.ext rfl hh.2)
        rw [List.drop_drop, show w + (headL p (l.drop w)).1 = n by omega] at this
        exact this

theorem headL_cut {p : Int → Bool} : ∀ (k : Nat) (l : List Int), l.length ≤ k → headL p (l.take (headL p l).1) = ((headL p l).1, true) := by
  intro k
  induction k with
  | zero =>
    intro l h
    obtain rfl := List.eq_nil_of_length_eq_zero (Nat.le_zero.1 h)
    rw [headL_nil, List.take_nil, headL_nil]
  | succ k ih =>
    intro l h
    by_cases hl : l = []
    · subst hl; rw [headL_nil, List.take_nil, headL_nil]
    cases hr : rl l with
    | none => rw [headL_none hl hr, List.take_zero, headL_nil]
    | some q =>
      obtain ⟨c, w⟩ := q
      have hw := rl_some hr
      cases hp : p c with
      | false => rw [headL_stop hr hp, List.take_zero, headL_nil]
      | true =>
        rw [headL_go hr hp]
        simp only
        have hl' : (l.take w).length = w := by rw [List.length_take]; clear hw; have := (rl_some hr).2.1; omega
        rw [Nat.add_comm, List.take_add, headL_go (rl_take hr) hp, List.drop_append_of_le_length (by omega), List.drop_eq_nil_of_le (by omega), List.nil_append, ih (l.drop w) (by rw [List.length_drop]; omega), Nat.add_comm]

theorem textL_app : ∀ (k : Nat) (t m x : List Int) (n : Nat), t.length ≤ k → textL t = .ok (x, n) → textL (t ++ m) = .ok (x, n) := by
  intro k
  induction k with
  | zero =>
    intro t m x n h hu
    obtain rfl := List.eq_nil_of_length_eq_zero (Nat.le_zero.1 h)
    rw [textL_nil] at hu; cases hu
  | succ k ih =>
    intro t m x n h hu
    by_cases hl : t = []
    · subst hl; rw [textL_nil] at hu; cases hu
    cases hr : rl t with
    | none => rw [textL_none hl hr] at hu; cases hu
    | some q =>
      obtain ⟨c, w⟩ := q
      have hw := rl_some hr
      cases hc : ctl c with
      | true => rw [textL_ctl hr hc] at hu; cases hu
      | false =>
        by_cases h1 : c = 34
        · subst h1
          obtain ⟨t', rfl, rfl⟩ := low_cons hr (by decide)
          rw [textL_end] at hu
          cases hu
          exact textL_end _
        · by_cases h2 : c = 92
          · subst h2
            obtain ⟨t', rfl, rfl⟩ := low_cons hr (by decide)
            cases t' with
            | nil => rw [textL_esc0] at hu; cases hu
            | cons d t' =>
              rw [textL_esc] at hu
              simp only [List.cons_append]
              rw [textL_esc]
              cases hm : mask d with
              | none => rw [hm] at hu; cases hu
              | some e =>
                rw [hm] at hu
                simp only at hu ⊢
                obtain ⟨q, q1, q2⟩ := map_ok hu
                simp only [List.length_cons] at h
                rw [ih t' m q.1 q.2 (by omega) q1]
                rw [q2]; rfl
          · rw [textL_go hr hc h1 h2] at hu
            obtain ⟨q, q1, q2⟩ := map_ok hu
            rw [textL_go (rl_append hr) hc h1 h2, List.drop_append_of_le_length hw.2.1, ih (t.drop w) m q.1 q.2 (by rw [List.length_drop]; omega) q1, List.take_append_of_le_length hw.2.1, q2]
            rfl

theorem scanL_none {l : List Int} (hl : l ≠ []) (h : rl l = none) : scanL l = .err 2 := by
  cases l with
  | nil => exact absurd rfl hl
  | cons b t =>
    have hb := rl_none h
    have hwb : wordB b = true := by
      unfold wordB blankB
      simp only [Bool.and_eq_true, bne_iff_ne, ne_eq, Bool.not_eq_true', Bool.or_eq_false_iff, beq_eq_false_iff_ne]
      omega
    rw [scanL_word hwb, headL_none hl h]
    rfl

theorem scan_join {l : List Int} (m : List Int) : ∀ ts, scanL l = .ok ts → scanL (l ++ 10 :: m) = (scanL m).map (ts ++ ·) := by
  refine scanL_ind (motive := fun l r => ∀ ts, r = .ok ts → scanL (l ++ 10 :: m) = (scanL m).map (ts ++ ·)) ?_ ?_ ?_ ?_ ?_ ?_ ?_ ?_ ?_ ?_ l.length l (Nat.le_refl _)
  · intro ts h; cases h
    rw [List.nil_append, scanL_blank (by rfl)]
    cases scanL m <;> simp [Res.map]
  · intro b t hb ih ts h
    rw [List.cons_append, scanL_blank hb]; exact ih ts h
  · intro t n hh hn ih ts h
    have hst : stops nlB (10 :: m) := .inr ⟨10, m, rfl, by decide, rfl⟩
    have e := headL_app hst _ _ n (Nat.le_refl _) hh
    have hle := headL_le nlB _ (59 :: t) (Nat.le_refl _)
    rw [hh] at hle
    rw [List.cons_append] at e
    rw [List.cons_append, scanL_rem, e]
    simp only [if_true]
    rw [drop_tail (b := 59) hn, ← List.cons_append, List.drop_append_of_le_length hle]
    exact ih ts h
  · intro t n _ ts h; cases h
  · intro t ih ts h
    obtain ⟨us, h1, rfl⟩ := map_ok h
    rw [List.cons_append, scanL_open, ih us h1]
    cases scanL m <;> simp [Res.map]
  · intro t ih ts h
    obtain ⟨us, h1, rfl⟩ := map_ok h
    rw [List.cons_append, scanL_close, ih us h1]
    cases scanL m <;> simp [Res.map]
  · intro t x n ht ih ts h
    obtain ⟨us, h1, rfl⟩ := map_ok h
    have hn : n ≤ t.length := by
      have : ∀ (k : Nat) (t x : List Int) (n : Nat), t.length ≤ k → textL t = .ok (x, n) → n ≤ t.length := by
        intro k
        induction k with
        | zero =>
          intro t x n h hu
          obtain rfl := List.eq_nil_of_length_eq_zero (Nat.le_zero.1 h)
          rw [textL_nil] at hu; cases hu
        | succ k ih =>
          intro t x n h hu
          by_cases hl : t = []
          · subst hl; rw [textL_nil] at hu; cases hu
          cases hr : rl t with
          | none => rw [textL_none hl hr] at hu; cases hu
          | some q =>
            obtain ⟨c, w⟩ := q
            have hw := rl_some hr
            cases hc : ctl c with
            | true => rw [textL_ctl hr hc] at hu; cases hu
            | false =>
              by_cases h1 : c = 34
              · subst h1
                obtain ⟨t', rfl, rfl⟩ := low_cons hr (by decide)
                rw [textL_end] at hu; cases hu; simp
              · by_cases h2 : c = 92
                · subst h2
                  obtain ⟨t', rfl, rfl⟩ := low_cons hr (by decide)
                  cases t' with
                  | nil => rw [textL_esc0] at hu; cases hu
                  | cons d t' =>
                    rw [textL_esc] at hu
                    cases hm : mask d with
                    | none => rw [hm] at hu; cases hu
                    | some e =>
                      rw [hm] at hu
                      simp only at hu
                      obtain ⟨q, q1, q2⟩ := map_ok hu
                      simp only [List.length_cons] at h ⊢
                      have := ih t' q.1 q.2 (by omega) q1
                      have e := congrArg Prod.snd q2
                      simp only at e
                      omega
                · rw [textL_go hr hc h1 h2] at hu
                  obtain ⟨q, q1, q2⟩ := map_ok hu
                  have := ih (t.drop w) q.1 q.2 (by rw [List.length_drop]; omega) q1
                  rw [List.length_drop] at this
                  have e := congrArg Prod.snd q2
                  simp only at e
                  omega
      exact this _ t x n (Nat.le_refl _) ht
    rw [List.cons_append, scanL_text, textL_app _ t _ x n (Nat.le_refl _) ht]
    simp only
    rw [List.drop_append_of_le_length hn, ih us h1]
    cases scanL m <;> simp [Res.map]
  · intro t e _ ts h; cases h
  · intro b t n f hwb hh h0 hl ih ts h
    obtain ⟨us, h1, rfl⟩ := map_ok h
    have hle := headL_le plainB _ (b :: t) (Nat.le_refl _)
    rw [hh] at hle
    cases f with
    | false =>
      obtain ⟨k1, k2⟩ := headL_bad _ _ n (Nat.le_refl _) hh
      rw [scanL_none k1 k2] at h1; cases h1
    | true =>
      have hst : stops plainB (10 :: m) := .inr ⟨10, m, rfl, by decide, rfl⟩
      have e := headL_app hst _ _ n (Nat.le_refl _) hh
      rw [List.cons_append] at e
      have e1 : (b :: (t ++ 10 :: m)).take n = (b :: t).take n := by rw [← List.cons_append, List.take_append_of_le_length hle]
      have e2 : (b :: (t ++ 10 :: m)).drop n = (b :: t).drop n ++ 10 :: m := by rw [← List.cons_append, List.drop_append_of_le_length hle]
      rw [List.cons_append, scanL_word hwb, e]
      simp only
      rw [if_neg h0, e1, hl, e2, ih us h1]
      simp only [Bool.false_eq_true, if_false]
      cases scanL m <;> simp [Res.map]
  · intro b t e _ _ ts h; cases h

theorem Ch_len {s : ByteArray} {x : T_lex_scanner} {i : Nat} {ts : List T_api_Token} (h : Ch s x i ts) (hi : i ≤ s.size) : ts.length ≤ s.size - i := by
  induction h with
  | nil x i => simp
  | cons x x0 x' i i0 i' t ts h0 h1 s0 n0 s1 n1 ha hl hc h ih =>
    have := ih s1.le
    have := s1.le
    simp only [List.length_cons]
    omega

theorem bytesL_append (a b : ByteArray) : bytesL (a ++ b) = bytesL a ++ bytesL b := by
  unfold bytesL
  rw [ByteArray.data_append, Array.toList_append, List.map_append]
end Go.Proofs.Ytbnohlgchjcjhaa.M

/-
  Plain laws of lex: what the scanner's models do, told by lists. Own text.
-/
import Derived.Test.YtbnohlgchjcjhaaPL4
namespace Go.Proofs.Ytbnohlgchjcjhaa.M
open Go Go.Proofs Go.Proofs.Ytbnohlgchjcjhaa.V
set_option linter.unusedVariables false

theorem drop_tail {b : Int} {t : List Int} {w : Nat} (h : 1 ≤ w) : t.drop (w - 1) = (b :: t).drop w := by
  obtain ⟨w, rfl⟩ : ∃ q, w = q + 1 := ⟨w - 1, by omega⟩
  simp

theorem sub_w {a b w : Nat} (h : w ≤ a - b) : a - (b + w) + w = a - b := by omega
theorem headL_nil (p : Int → Bool) : headL p [] = (0, true) := by rw [headL]
theorem headL_none {p : Int → Bool} {l : List Int} (hl : l ≠ []) (h : rl l = none) : headL p l = (0, false) := by
  cases l with
  | nil => exact absurd rfl hl
  | cons b t => rw [headL, h]
theorem headL_stop {p : Int → Bool} {l : List Int} {c : Int} {w : Nat} (h : rl l = some (c, w)) (hp : p c = false) : headL p l = (0, true) := by
  cases l with
  | nil => cases h
  | cons b t => rw [headL, h]; simp [hp]
theorem headL_go {p : Int → Bool} {l : List Int} {c : Int} {w : Nat} (h : rl l = some (c, w)) (hp : p c = true) : headL p l = ((headL p (l.drop w)).1 + w, (headL p (l.drop w)).2) := by
  have hw := (rl_some h).1
  cases l with
  | nil => cases h
  | cons b t => rw [headL, h]; simp only [hp, if_true]; rw [drop_tail (b := b) hw]
theorem cnt_nil : cnt [] = some 0 := by rw [cnt]
theorem cnt_none {l : List Int} (hl : l ≠ []) (h : rl l = none) : cnt l = none := by
  cases l with
  | nil => exact absurd rfl hl
  | cons b t => rw [cnt, h]
theorem cnt_go {l : List Int} {c : Int} {w : Nat} (h : rl l = some (c, w)) : cnt l = (cnt (l.drop w)).map (· + 1) := by
  have hw := (rl_some h).1
  cases l with
  | nil => cases h
  | cons b t => rw [cnt, h]; simp only; rw [drop_tail (b := b) hw]
theorem textL_nil : textL [] = .err 3 := by rw [textL]
theorem textL_none {l : List Int} (hl : l ≠ []) (h : rl l = none) : textL l = .err 2 := by
  cases l with
  | nil => exact absurd rfl hl
  | cons b t => rw [textL.eq_def]; simp only [h]
theorem textL_ctl {l : List Int} {c : Int} {w : Nat} (h : rl l = some (c, w)) (hc : ctl c = true) : textL l = .err 2 := by
  cases l with
  | nil => cases h
  | cons b t => rw [textL.eq_def]; simp only [h, hc, if_true]
theorem textL_end (t : List Int) : textL (34 :: t) = .ok ([], 1) := by
  rw [textL.eq_def]; simp [rl_ascii (show (34 : Int) < 128 by decide), show ctl 34 = false from rfl]
theorem textL_esc0 : textL [92] = .err 2 := by
  rw [textL.eq_def]; simp [rl_ascii (show (92 : Int) < 128 by decide), show ctl 92 = false from rfl]
theorem textL_esc (d : Int) (t : List Int) : textL (92 :: d :: t) = match mask d with | none => .err 2 | some e => (textL t).map fun q => (e :: q.1, q.2 + 2) := by
  rw [textL.eq_def]; simp only [rl_ascii (show (92 : Int) < 128 by decide), show ctl 92 = false from rfl]; rfl
theorem textL_go {l : List Int} {c : Int} {w : Nat} (h : rl l = some (c, w)) (hc : ctl c = false) (h1 : c ≠ 34) (h2 : c ≠ 92) : textL l = (textL (l.drop w)).map fun q => (l.take w ++ q.1, q.2 + w) := by
  have hw := (rl_some h).1
  cases l with
  | nil => cases h
  | cons b t => rw [textL.eq_def]; simp only [h, hc, h1, h2, if_false, Bool.false_eq_true]; rw [drop_tail (b := b) hw]

theorem headL_le (p : Int → Bool) : ∀ (k : Nat) (l : List Int), l.length ≤ k → (headL p l).1 ≤ l.length := by
  intro k
  induction k with
  | zero => intro l h; obtain rfl := List.eq_nil_of_length_eq_zero (Nat.le_zero.1 h); rw [headL_nil]; simp
  | succ k ih =>
    intro l h
    by_cases hl : l = []
    · subst hl; rw [headL_nil]; simp
    cases hr : rl l with
    | none => rw [headL_none hl hr]; simp
    | some q =>
      obtain ⟨c, w⟩ := q
      have hw := rl_some hr
      cases hp : p c with
      | false => rw [headL_stop hr hp]; simp
      | true =>
        rw [headL_go hr hp]
        have := ih (l.drop w) (by rw [List.length_drop]; omega)
        rw [List.length_drop] at this
        simp only; omega

/-! the models -/
theorem Runes_M {s : ByteArray} (hs : s.size < 281474976710656) : ∀ (k pos : Nat) (n : Int) (f : Nat), s.size - pos ≤ k → k < f → pos ≤ s.size → 0 ≤ n → n + k < 4611686018427387904 →
    lex_Runes.l1 s f n pos = some (match cnt ((bytesL s).drop pos) with | none => Out.ret (-1) | some m => Out.go (n + (m : Int))) := by
  intro k
  induction k with
  | zero =>
    intro pos n f h1 h2 h3 h4 h5
    obtain ⟨f, rfl⟩ : ∃ q, f = q + 1 := ⟨f - 1, by omega⟩
    rw [lex_Runes.l1, if_neg (by omega), List.drop_eq_nil_of_le (by rw [bytesL_length]; omega), cnt_nil]
    simp
  | succ k ih =>
    intro pos n f h1 h2 h3 h4 h5
    obtain ⟨f, rfl⟩ : ∃ q, f = q + 1 := ⟨f - 1, by omega⟩
    by_cases hp : pos < s.size
    · rw [lex_Runes.l1, if_pos hp, right_eq hp hs, decode_rune, rune_rl hp]
      have hne : (bytesL s).drop pos ≠ [] := by rw [drop_cons_bt hp]; simp
      cases hr : rl ((bytesL s).drop pos) with
      | none => rw [cnt_none hne hr]; rfl
      | some q =>
        obtain ⟨c, w⟩ := q
        have hw := rl_some hr
        have hwl := hw.2.1
        rw [List.length_drop, bytesL_length] at hwl
        simp only [rdv, Option.isSome_some, Option.bind_some, Bool.not_true, Bool.false_eq_true, if_false]
        rw [ih (pos + w) _ f (by omega) (by omega) (by omega) (by rw [w_eq (by omega) (by omega)]; omega) (by rw [w_eq (by omega) (by omega)]; omega), cnt_go hr, List.drop_drop, w_eq (by omega) (by omega)]
        cases cnt (List.drop (pos + w) (bytesL s)) with
        | none => rfl
        | some m =>
          simp only [Option.map_some]
          rw [show n + 1 + (m : Int) = n + ((m + 1 : Nat) : Int) by omega]
    · rw [lex_Runes.l1, if_neg hp, List.drop_eq_nil_of_le (by rw [bytesL_length]; omega), cnt_nil]
      simp

/-- How many runes, as the program tells it. -/
def runesI (o : Option Nat) : Int := match o with | none => -1 | some m => (m : Int)
theorem Runes_cnt {s : ByteArray} (hs : s.size < 281474976710656) : lex_Runes s = some (runesI (cnt (bytesL s))) := by
  have h := Runes_M hs s.size 0 0 FU (by omega) (by unfold FU; omega) (by omega) (by omega) (by omega)
  unfold lex_Runes
  rw [h, List.drop_zero]
  cases cnt (bytesL s) with
  | none => rfl
  | some m => simp [Out.on, runesI]

theorem plainM (c : Int) : lex_plain c = some (plainB c) := by rw [plain_eq]; rfl
theorem remarkM (c : Int) : lex_scanner_remark_1 c = some (nlB c) := rfl
theorem headP_M {s : ByteArray} (hs : s.size < 281474976710656) : ∀ (k pos : Nat) (f : Nat), s.size - pos ≤ k → k < f → pos ≤ s.size →
    (lex_head_lex_plain.l1 s f pos = some (Out.go ()) ∧ headL plainB ((bytesL s).drop pos) = (s.size - pos, true)) ∨
    (∃ n b, lex_head_lex_plain.l1 s f pos = some (Out.ret (((pos + n : Nat) : Int), b)) ∧ headL plainB ((bytesL s).drop pos) = (n, b) ∧ pos + n < s.size) := by
  intro k
  induction k with
  | zero =>
    intro pos f h1 h2 h3
    obtain ⟨f, rfl⟩ : ∃ q, f = q + 1 := ⟨f - 1, by omega⟩
    refine .inl ⟨by rw [lex_head_lex_plain.l1, if_neg (by omega)], ?_⟩
    rw [List.drop_eq_nil_of_le (by rw [bytesL_length]; omega), headL_nil, show s.size - pos = 0 by omega]
  | succ k ih =>
    intro pos f h1 h2 h3
    obtain ⟨f, rfl⟩ : ∃ q, f = q + 1 := ⟨f - 1, by omega⟩
    by_cases hp : pos < s.size
    · rw [lex_head_lex_plain.l1, if_pos hp, right_eq hp hs, decode_rune, rune_rl hp]
      have hne : (bytesL s).drop pos ≠ [] := by rw [drop_cons_bt hp]; simp
      cases hr : rl ((bytesL s).drop pos) with
      | none => exact .inr ⟨0, false, rfl, headL_none hne hr, by omega⟩
      | some q =>
        obtain ⟨c, w⟩ := q
        have hw := rl_some hr
        have hwl := hw.2.1
        rw [List.length_drop, bytesL_length] at hwl
        have hc : 0 ≤ c := by
          have := rune_some hp (show rune s pos = some (c, w) by rw [rune_rl hp, hr])
          exact this.1
        have ec : ((c.toNat : Nat) : Int) = c := Int.toNat_of_nonneg hc
        simp only [rdv, Option.isSome_some, Option.bind_some, Bool.not_true, Bool.false_eq_true, if_false, ec, plainM]
        cases hb : plainB c with
        | false => exact .inr ⟨0, true, by simp, headL_stop hr hb, by omega⟩
        | true =>
          simp only [Bool.not_true, Bool.false_eq_true, if_false]
          rw [headL_go hr hb, List.drop_drop]
          rcases ih (pos + w) f (by omega) (by omega) (by omega) with ⟨g1, g2⟩ | ⟨n, b, g1, g2, g3⟩
          · refine .inl ⟨g1, ?_⟩
            rw [g2]
            exact Prod.ext (sub_w hwl) rfl
          · refine .inr ⟨n + w, b, ?_, by rw [g2], by omega⟩
            rw [g1, show pos + w + n = pos + (n + w) by omega]
    · refine .inl ⟨by rw [lex_head_lex_plain.l1, if_neg (by omega)], ?_⟩
      rw [List.drop_eq_nil_of_le (by rw [bytesL_length]; omega), headL_nil, show s.size - pos = 0 by omega]

theorem headP_eq {s : ByteArray} (hs : s.size < 281474976710656) : lex_head_lex_plain s = some (((headL plainB (bytesL s)).1 : Int), (headL plainB (bytesL s)).2) := by
  have h := headP_M hs s.size 0 FU (by omega) (by unfold FU; omega) (by omega)
  rw [List.drop_zero] at h
  unfold lex_head_lex_plain
  rcases h with ⟨g1, g2⟩ | ⟨n, b, g1, g2, g3⟩
  · rw [g1, g2]; rfl
  · rw [g1, g2]; simp [Out.on]

theorem headR_M {s : ByteArray} (hs : s.size < 281474976710656) : ∀ (k pos : Nat) (f : Nat), s.size - pos ≤ k → k < f → pos ≤ s.size →
    (lex_head_lex_scanner_remark_1.l1 s f pos = some (Out.go ()) ∧ headL nlB ((bytesL s).drop pos) = (s.size - pos, true)) ∨
    (∃ n b, lex_head_lex_scanner_remark_1.l1 s f pos = some (Out.ret (((pos + n : Nat) : Int), b)) ∧ headL nlB ((bytesL s).drop pos) = (n, b) ∧ pos + n < s.size) := by
  intro k
  induction k with
  | zero =>
    intro pos f h1 h2 h3
    obtain ⟨f, rfl⟩ : ∃ q, f = q + 1 := ⟨f - 1, by omega⟩
    refine .inl ⟨by rw [lex_head_lex_scanner_remark_1.l1, if_neg (by omega)], ?_⟩
    rw [List.drop_eq_nil_of_le (by rw [bytesL_length]; omega), headL_nil, show s.size - pos = 0 by omega]
  | succ k ih =>
    intro pos f h1 h2 h3
    obtain ⟨f, rfl⟩ : ∃ q, f = q + 1 := ⟨f - 1, by omega⟩
    by_cases hp : pos < s.size
    · rw [lex_head_lex_scanner_remark_1.l1, if_pos hp, right_eq hp hs, decode_rune, rune_rl hp]
      have hne : (bytesL s).drop pos ≠ [] := by rw [drop_cons_bt hp]; simp
      cases hr : rl ((bytesL s).drop pos) with
      | none => exact .inr ⟨0, false, rfl, headL_none hne hr, by omega⟩
      | some q =>
        obtain ⟨c, w⟩ := q
        have hw := rl_some hr
        have hwl := hw.2.1
        rw [List.length_drop, bytesL_length] at hwl
        have hc : 0 ≤ c := by
          have := rune_some hp (show rune s pos = some (c, w) by rw [rune_rl hp, hr])
          exact this.1
        have ec : ((c.toNat : Nat) : Int) = c := Int.toNat_of_nonneg hc
        simp only [rdv, Option.isSome_some, Option.bind_some, Bool.not_true, Bool.false_eq_true, if_false, ec, remarkM]
        cases hb : nlB c with
        | false => exact .inr ⟨0, true, by simp, headL_stop hr hb, by omega⟩
        | true =>
          simp only [Bool.not_true, Bool.false_eq_true, if_false]
          rw [headL_go hr hb, List.drop_drop]
          rcases ih (pos + w) f (by omega) (by omega) (by omega) with ⟨g1, g2⟩ | ⟨n, b, g1, g2, g3⟩
          · refine .inl ⟨g1, ?_⟩
            rw [g2]
            exact Prod.ext (sub_w hwl) rfl
          · refine .inr ⟨n + w, b, ?_, by rw [g2], by omega⟩
            rw [g1, show pos + w + n = pos + (n + w) by omega]
    · refine .inl ⟨by rw [lex_head_lex_scanner_remark_1.l1, if_neg (by omega)], ?_⟩
      rw [List.drop_eq_nil_of_le (by rw [bytesL_length]; omega), headL_nil, show s.size - pos = 0 by omega]

theorem headR_eq {s : ByteArray} (hs : s.size < 281474976710656) : lex_head_lex_scanner_remark_1 s = some (((headL nlB (bytesL s)).1 : Int), (headL nlB (bytesL s)).2) := by
  have h := headR_M hs s.size 0 FU (by omega) (by unfold FU; omega) (by omega)
  rw [List.drop_zero] at h
  unfold lex_head_lex_scanner_remark_1
  rcases h with ⟨g1, g2⟩ | ⟨n, b, g1, g2, g3⟩
  · rw [g1, g2]; rfl
  · rw [g1, g2]; simp [Out.on]

theorem extract_bytes (s : ByteArray) (a b : Nat) : bytesL (s.extract a b) = ((bytesL s).take b).drop a := by
  unfold bytesL
  rw [ByteArray.data_extract, Array.toList_extract, ← List.map_take, ← List.map_drop]
  congr 1
  rw [List.extract_eq_take_drop, List.drop_take]

theorem strOfNums_bytes {l : List Int} (h : By l) : bytesL (strOfNums l) = l := by
  unfold bytesL
  rw [strOfNums_data, List.map_map]
  conv => rhs; rw [← List.map_id l]
  apply List.map_congr_left
  intro b hb
  have := h b hb
  simp only [Function.comp, id]
  rw [UInt8.toNat_ofNat']
  omega
end Go.Proofs.Ytbnohlgchjcjhaa.M

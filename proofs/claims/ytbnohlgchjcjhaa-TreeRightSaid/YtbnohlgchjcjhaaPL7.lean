/-
  Plain laws of lex: what the scanner does. Own text.
-/
import Derived.Test.YtbnohlgchjcjhaaPL6
namespace Go.Proofs.Ytbnohlgchjcjhaa.M
open Go Go.Proofs Go.Proofs.Ytbnohlgchjcjhaa.V
set_option linter.unusedVariables false

theorem scanL_nil : scanL [] = .ok [] := by rw [scanL]
theorem scanL_blank {b : Int} {t : List Int} (h : blankB b = true) : scanL (b :: t) = scanL t := by rw [scanL.eq_def]; simp only [h, if_true]
theorem scanL_rem (t : List Int) : scanL (59 :: t) = if (headL nlB (59 :: t)).2 = true then scanL (t.drop ((headL nlB (59 :: t)).1 - 1)) else .err 2 := by
  rw [scanL.eq_def]; simp only [show blankB 59 = false from rfl, Bool.false_eq_true, if_false, if_true]
theorem scanL_open (t : List Int) : scanL (40 :: t) = (scanL t).map ((1, [40]) :: ·) := by
  rw [scanL.eq_def]; simp only [show blankB 40 = false from rfl, Bool.false_eq_true, if_false, if_true, show ¬ (40 : Int) = 59 by decide]
theorem scanL_close (t : List Int) : scanL (41 :: t) = (scanL t).map ((2, [41]) :: ·) := by
  rw [scanL.eq_def]; simp only [show blankB 41 = false from rfl, Bool.false_eq_true, if_false, if_true, show ¬ (41 : Int) = 59 by decide, show ¬ (41 : Int) = 40 by decide]
theorem scanL_text (t : List Int) : scanL (34 :: t) = match textL t with | .err e => .err e | .ok (x, n) => (scanL (t.drop n)).map ((4, x) :: ·) := by
  rw [scanL.eq_def]; simp only [show blankB 34 = false from rfl, Bool.false_eq_true, if_false, if_true, show ¬ (34 : Int) = 59 by decide, show ¬ (34 : Int) = 40 by decide, show ¬ (34 : Int) = 41 by decide]
  cases textL t <;> rfl
/-- Does a word, or nothing that may stand, begin with this byte? -/
def wordB (b : Int) : Bool := !blankB b && b != 59 && b != 40 && b != 41 && b != 34
theorem scanL_word {b : Int} {t : List Int} (h : wordB b = true) : scanL (b :: t) = if (headL plainB (b :: t)).1 = 0 then .err 2
    else if longB (cnt ((b :: t).take (headL plainB (b :: t)).1)) = true then .err 4
    else (scanL ((b :: t).drop (headL plainB (b :: t)).1)).map ((3, (b :: t).take (headL plainB (b :: t)).1) :: ·) := by
  unfold wordB at h
  simp only [Bool.and_eq_true, bne_iff_ne, ne_eq, Bool.not_eq_true'] at h
  obtain ⟨⟨⟨⟨h1, h2⟩, h3⟩, h4⟩, h5⟩ := h
  rw [scanL.eq_def]
  simp only [h1, h2, h3, h4, h5, Bool.false_eq_true, if_false]
  by_cases h0 : (headL plainB (b :: t)).1 = 0
  · simp only [h0, if_true]
  · simp only [h0, if_false]
    rw [drop_tail (b := b) (by omega)]

/-- The scanner at a place: behind it all is right. -/
structure SI (s : ByteArray) (x : T_lex_scanner) (i : Nat) : Prop where
  s_ : x.s = s
  at_ : x.at_ = (i : Int)
  le : i ≤ s.size
  line0 : 0 ≤ x.line
  line1 : x.line ≤ i + 1
  from_ : ∃ j : Nat, x.from_ = j ∧ j ≤ i ∧ (j = 0 ∨ (1 ≤ j ∧ bt s (j - 1) = 10))
  ok : cnt ((bytesL s).take i) ≠ none
/-- A line on, or on the same line. -/
def nx (x y : T_lex_scanner) : Prop := x.line < y.line ∨ (y.line = x.line ∧ y.from_ = x.from_)
theorem nx_refl (x : T_lex_scanner) : nx x x := .inr ⟨rfl, rfl⟩
theorem nx_trans {x y z : T_lex_scanner} (h : nx x y) (k : nx y z) : nx x z := by
  rcases h with h | ⟨h1, h2⟩ <;> rcases k with k | ⟨k1, k2⟩
  · exact .inl (by omega)
  · exact .inl (by omega)
  · exact .inl (by omega)
  · exact .inr ⟨by omega, by rw [k2, h2]⟩

theorem pass_loop {s : ByteArray} {a n : Nat} (hs : s.size < 70368744177664) (h : a + n ≤ s.size) : ∀ (k i f : Nat) (L F : Int), a + n - i ≤ k → k < f → i ≤ a + n → 0 ≤ L → L + k < 2305843009213693952 →
    ∃ L' F', lex_scanner_pass.l1 (n : Int) f ⟨s, (a : Int), L, F⟩ (i : Int) = some ⟨s, (a : Int), L', F'⟩ ∧
      ((L' = L ∧ F' = F) ∨ (L < L' ∧ L' ≤ L + k ∧ ∃ j : Nat, F' = j ∧ i < j ∧ j ≤ a + n ∧ bt s (j - 1) = 10)) := by
  intro k
  induction k with
  | zero =>
    intro i f L F h1 h2 h3 h4 h5
    obtain ⟨f, rfl⟩ : ∃ q, f = q + 1 := ⟨f - 1, by omega⟩
    refine ⟨L, F, ?_, .inl ⟨rfl, rfl⟩⟩
    rw [lex_scanner_pass.l1]
    dsimp only
    rw [if_neg]
    rw [w_eq (by omega) (by omega)]; simp; omega
  | succ k ih =>
    intro i f L F h1 h2 h3 h4 h5
    obtain ⟨f, rfl⟩ : ∃ q, f = q + 1 := ⟨f - 1, by omega⟩
    have hw : IntKind.i64.wrap ((a : Int) + (n : Int)) = (a : Int) + n := w_eq (by omega) (by omega)
    by_cases hi : i < a + n
    · have hwi : IntKind.i64.wrap ((i : Int) + 1) = ((i + 1 : Nat) : Int) := by rw [w_eq (by omega) (by omega)]; omega
      rw [lex_scanner_pass.l1]
      dsimp only
      rw [if_pos (by rw [hw]; simp; omega)]
      simp only [gi_nat (show i < s.size by omega), Option.bind_some, hwi]
      by_cases hc : (bt s i == 10) = true
      · rw [if_pos hc, show IntKind.i64.wrap (L + 1) = L + 1 from w_eq (by omega) (by omega)]
        obtain ⟨L', F', g1, g2⟩ := ih (i + 1) f (L + 1) ((i + 1 : Nat) : Int) (by omega) (by omega) (by omega) (by omega) (by omega)
        refine ⟨L', F', g1, .inr ?_⟩
        rcases g2 with ⟨rfl, rfl⟩ | ⟨q1, q2, j, q3, q4, q5, q6⟩
        · exact ⟨by omega, by omega, i + 1, rfl, by omega, by omega, by simpa using hc⟩
        · exact ⟨by omega, by omega, j, q3, by omega, q5, q6⟩
      · rw [if_neg hc]
        obtain ⟨L', F', g1, g2⟩ := ih (i + 1) f L F (by omega) (by omega) (by omega) (by omega) (by omega)
        refine ⟨L', F', g1, ?_⟩
        rcases g2 with g2 | ⟨q1, q2, j, q3, q4, q5, q6⟩
        · exact .inl g2
        · exact .inr ⟨by omega, by omega, j, q3, by omega, q5, q6⟩
    · refine ⟨L, F, ?_, .inl ⟨rfl, rfl⟩⟩
      rw [lex_scanner_pass.l1]
      dsimp only
      rw [if_neg]
      rw [hw]; simp; omega

theorem pass_ok {s : ByteArray} {x : T_lex_scanner} {i n : Nat} (hs : s.size < 70368744177664) (hx : SI s x i) (h : i + n ≤ s.size) (hc : cnt (((bytesL s).drop i).take n) ≠ none) :
    ∃ x', lex_scanner_pass x (n : Int) = some x' ∧ SI s x' (i + n) ∧ nx x x' := by
  obtain ⟨xs, xa, L, F⟩ := x
  obtain ⟨h1, h2, h3, h4, h5, ⟨j0, h6, h7, h8⟩, h9⟩ := hx
  simp only at h1 h2 h4 h5 h6
  subst h1; subst h2; subst h6
  obtain ⟨L', F', g1, g2⟩ := pass_loop hs h n i FU L (j0 : Int) (by omega) (by unfold FU; omega) (by omega) h4 (by omega)
  refine ⟨⟨xs, ((i + n : Nat) : Int), L', F'⟩, ?_, ⟨rfl, rfl, h, ?_, ?_, ?_, ?_⟩, ?_⟩
  · unfold lex_scanner_pass
    rw [g1]
    simp only [Option.bind_some]
    rw [w_eq (by omega) (by omega)]
    simp
  · show 0 ≤ L'
    rcases g2 with ⟨rfl, rfl⟩ | ⟨q1, q2, j, q3, q4, q5, q6⟩ <;> omega
  · show L' ≤ _
    rcases g2 with ⟨rfl, rfl⟩ | ⟨q1, q2, j, q3, q4, q5, q6⟩ <;> omega
  · rcases g2 with ⟨rfl, rfl⟩ | ⟨q1, q2, j, q3, q4, q5, q6⟩
    · exact ⟨j0, rfl, by omega, h8⟩
    · exact ⟨j, q3, q5, .inr ⟨by omega, q6⟩⟩
  · cases hu : cnt ((bytesL xs).take i) with
    | none => exact absurd hu h9
    | some m =>
      rw [List.take_add, cnt_append _ _ _ m (Nat.le_refl _) hu]
      simpa using hc
  · rcases g2 with ⟨rfl, rfl⟩ | ⟨q1, q2, j, q3, q4, q5, q6⟩
    · exact .inr ⟨rfl, rfl⟩
    · exact .inl q1

theorem cnt_one {l : List Int} {b : Int} {t : List Int} (h : l = b :: t) (hb : b < 128) : cnt (l.take 1) ≠ none := by
  subst h
  rw [List.take_succ_cons, List.take_zero, cnt_go (rl_ascii hb)]
  simp [cnt_nil]

/-- A remark. -/
theorem remark_ok {s : ByteArray} {x : T_lex_scanner} {i : Nat} (hs : s.size < 70368744177664) (hx : SI s x i) :
    ((headL nlB ((bytesL s).drop i)).2 = false ∧ ∃ a : Nat, lex_scanner_remark x = some (⟨2, (a : Int)⟩, x) ∧ a ≤ s.size) ∨
    ((headL nlB ((bytesL s).drop i)).2 = true ∧ ∃ x', lex_scanner_remark x = some (⟨0, 0⟩, x') ∧ SI s x' (i + (headL nlB ((bytesL s).drop i)).1) ∧ nx x x') := by
  have hle := headL_le nlB _ ((bytesL s).drop i) (Nat.le_refl _)
  rw [List.length_drop, bytesL_length] at hle
  have hi := hx.le
  unfold lex_scanner_remark
  rw [hx.s_, hx.at_, ss_from hx.le]
  simp only [Option.bind_some]
  rw [headR_eq (by rw [size_from]; omega), bytes_from]
  simp only [Option.bind_some]
  cases hb : (headL nlB ((bytesL s).drop i)).2 with
  | false =>
    refine .inl ⟨rfl, i + (headL nlB ((bytesL s).drop i)).1, ?_, by omega⟩
    simp only [Bool.not_false, if_true]
    rw [w_eq (by omega) (by omega)]
    simp
  | true =>
    obtain ⟨x', g1, g2, g3⟩ := pass_ok (n := (headL nlB ((bytesL s).drop i)).1) hs hx (by omega) (cnt_headL nlB _ _ (Nat.le_refl _))
    refine .inr ⟨rfl, x', ?_, g2, g3⟩
    simp only [Bool.not_true, Bool.false_eq_true, if_false, g1, Option.bind_some]

/-- A word. -/
theorem word_ok {s : ByteArray} {x : T_lex_scanner} {i : Nat} (hs : s.size < 70368744177664) (hx : SI s x i) :
    ((headL plainB ((bytesL s).drop i)).1 = 0 ∧ lex_scanner_word x = some (⟨#[]⟩, ⟨2, (i : Int)⟩, x)) ∨
    ((headL plainB ((bytesL s).drop i)).1 ≠ 0 ∧ longB (cnt (((bytesL s).drop i).take (headL plainB ((bytesL s).drop i)).1)) = true ∧ lex_scanner_word x = some (⟨#[]⟩, ⟨4, (i : Int)⟩, x)) ∨
    ((headL plainB ((bytesL s).drop i)).1 ≠ 0 ∧ longB (cnt (((bytesL s).drop i).take (headL plainB ((bytesL s).drop i)).1)) = false ∧
      ∃ v x', bytesL v = ((bytesL s).drop i).take (headL plainB ((bytesL s).drop i)).1 ∧ lex_scanner_word x = some (v, ⟨0, 0⟩, x') ∧ SI s x' (i + (headL plainB ((bytesL s).drop i)).1) ∧ nx x x') := by
  have hle := headL_le plainB _ ((bytesL s).drop i) (Nat.le_refl _)
  rw [List.length_drop, bytesL_length] at hle
  have hi := hx.le
  unfold lex_scanner_word
  rw [hx.s_, hx.at_, ss_from hx.le]
  simp only [Option.bind_some]
  rw [headP_eq (by rw [size_from]; omega), bytes_from]
  simp only [Option.bind_some]
  have hcn := cnt_headL plainB _ ((bytesL s).drop i) (Nat.le_refl _)
  generalize hn : (headL plainB ((bytesL s).drop i)).1 = n at *
  by_cases h0 : n = 0
  · subst h0; exact .inl ⟨rfl, rfl⟩
  · right
    have e0 : ((n : Int) == 0) = false := by simp; omega
    simp only [e0, Bool.false_eq_true, if_false]
    rw [ss_to (by rw [size_from]; omega)]
    simp only [Option.bind_some]
    rw [Runes_cnt (by rw [ByteArray.size_extract]; omega), bytes_to, bytes_from]
    simp only [Option.bind_some]
    cases hc : cnt (((bytesL s).drop i).take n) with
    | none => exact absurd hc hcn
    | some m =>
      by_cases hm : 64 < m
      · refine .inl ⟨h0, by simpa [longB] using hm, ?_⟩
        rw [if_pos (by show decide ((m : Int) > 64) = true; simp; omega)]
      · refine .inr ⟨h0, by simpa [longB] using hm, ?_⟩
        rw [if_neg (by show ¬ decide ((m : Int) > 64) = true; simp; omega)]
        obtain ⟨x', g1, g2, g3⟩ := pass_ok (n := n) hs hx (by omega) (by rw [hc]; simp)
        rw [g1]
        simp only [Option.bind_some]
        exact ⟨_, x', by rw [bytes_to, bytes_from], rfl, g2, g3⟩

/-- A text in quotes, from behind its first quote on. -/
theorem text_loop {s v : ByteArray} {x : T_lex_scanner} {i : Nat} (hs : s.size < 70368744177664) (hx : SI s x i) (hv : v = s.extract i s.size) : ∀ (k pos f : Nat) (b : List Int), v.size - pos ≤ k → k < f → 1 ≤ pos → pos ≤ v.size → b.length ≤ pos → By b →
    (textL ((bytesL v).drop pos) = .err 3 ∧ lex_scanner_text.l1 x v f b 0 pos = some (Out.go ())) ∨
    (textL ((bytesL v).drop pos) = .err 2 ∧ ∃ a : Nat, a ≤ s.size ∧ lex_scanner_text.l1 x v f b 0 pos = some (Out.ret (⟨#[]⟩, ⟨2, (a : Int)⟩, x))) ∨
    (∃ y n, textL ((bytesL v).drop pos) = .ok (y, n) ∧ lex_scanner_text.l1 x v f b 0 pos = (lex_scanner_pass x ((pos + n : Nat) : Int)).bind fun r2 => some (Out.ret (strOfNums (b ++ y), ⟨0, 0⟩, r2))) := by
  have hvs : v.size = s.size - i := by rw [hv, size_from]
  have hi := hx.le
  intro k
  induction k using Nat.strongRecOn with
  | _ k ih =>
    intro pos f b h1 h2 h3 h4 h5 h6
    obtain ⟨f, rfl⟩ : ∃ q, f = q + 1 := ⟨f - 1, by omega⟩
    by_cases hp : pos < v.size
    · have hvs' : v.size < 70368744177664 := by omega
      have hat : ∀ a : Nat, a ≤ v.size → IntKind.i64.wrap (x.at_ + (a : Int)) = ((i + a : Nat) : Int) := fun a ha => by rw [hx.at_, w_eq (by omega) (by omega)]; omega
      rw [lex_scanner_text.l1, if_pos hp, if_neg (by simp; omega), if_neg (by simp), right_eq hp (by omega), decode_rune, rune_rl hp]
      have hne : (bytesL v).drop pos ≠ [] := by rw [drop_cons_bt hp]; simp
      cases hr : rl ((bytesL v).drop pos) with
      | none =>
        refine .inr (.inl ⟨textL_none hne hr, i + pos, by omega, ?_⟩)
        simp [rdv, hat pos (by omega)]
      | some q =>
        obtain ⟨c, w⟩ := q
        have hw := rl_some hr
        have hwl := hw.2.1
        rw [List.length_drop, bytesL_length] at hwl
        have hc0 : 0 ≤ c := (rune_some hp (show rune v pos = some (c, w) by rw [rune_rl hp, hr])).1
        have ec : ((c.toNat : Nat) : Int) = c := Int.toNat_of_nonneg hc0
        simp only [rdv, Option.isSome_some, Option.bind_some, Bool.not_true, Bool.false_or, ec]
        have hctl : (((decide (c < 32)) && (c != 9)) && (c != 10) || (c == 127)) = ctl c := rfl
        rw [hctl]
        cases hct : ctl c with
        | true =>
          refine .inr (.inl ⟨textL_ctl hr hct, i + pos, by omega, ?_⟩)
          simp [hat pos (by omega)]
        | false =>
          simp only [Bool.false_eq_true, if_false]
          by_cases q1 : c = 34
          · subst q1
            rcases hw.2.2 with ⟨t, ht, _, rfl⟩ | ⟨h, _⟩
            · refine .inr (.inr ⟨[], 1, by rw [ht, textL_end], ?_⟩)
              rw [if_pos (by rfl), List.append_nil, w_eq (by omega) (by omega)]
              rfl
            · omega
          · have e1 : (c == 34) = false := by simpa using q1
            simp only [e1, Bool.false_eq_true, if_false]
            by_cases q2 : c = 92
            · subst q2
              rcases hw.2.2 with ⟨t, ht, _, rfl⟩ | ⟨h, _⟩
              · simp only [beq_self_eq_true, if_true]
                have hw1 : IntKind.i64.wrap ((pos : Int) + 1) = ((pos + 1 : Nat) : Int) := by rw [w_eq (by omega) (by omega)]; omega
                rw [hw1]
                by_cases hend : pos + 1 = v.size
                · have ht0 : t = [] := by
                    have := congrArg List.length ht
                    rw [List.length_drop, bytesL_length, List.length_cons] at this
                    exact List.eq_nil_of_length_eq_zero (by omega)
                  subst ht0
                  refine .inr (.inl ⟨by rw [ht, textL_esc0], i + pos, by omega, ?_⟩)
                  rw [if_pos (by simp; omega), hat pos (by omega)]
                · rw [if_neg (by simp; omega)]
                  have hp1 : pos + 1 < v.size := by omega
                  have ht1 : t = bt v (pos + 1) :: (bytesL v).drop (pos + 2) := by
                    have e := drop_cons_bt hp
                    rw [ht, drop_cons_bt hp1] at e
                    simpa using (List.cons.inj e).2
                  rw [gi_nat hp1, ht, ht1, textL_esc]
                  simp only [Option.bind_some]
                  generalize hd : bt v (pos + 1) = d at *
                  have hmk : lex_masked d = some (match mask d with | none => (0, false) | some e => (e, true)) := by
                    unfold lex_masked mask
                    by_cases m1 : d = 110
                    · subst m1; rfl
                    by_cases m2 : d = 34
                    · subst m2; rfl
                    by_cases m3 : d = 92
                    · subst m3; rfl
                    simp [m1, m2, m3]
                  rw [hmk]
                  cases hm : mask d with
                  | none =>
                    refine .inr (.inl ⟨rfl, i + pos, by omega, ?_⟩)
                    simp [hat pos (by omega)]
                  | some e =>
                    have hde : d < 128 ∧ 0 ≤ e ∧ e < 256 := by
                      unfold mask at hm
                      split at hm
                      · cases hm; omega
                      · split at hm
                        · cases hm; omega
                        · cases hm
                    have hap : V.ap 1 b [e] = some (b ++ [e]) := by
                      unfold V.ap
                      rw [if_pos]
                      unfold maxLen
                      simp only [List.length_cons, List.length_nil]
                      omega
                    simp only [Option.bind_some, Bool.not_true, Bool.false_eq_true, if_false, hap]
                    obtain ⟨f, rfl⟩ : ∃ q, f = q + 1 := ⟨f - 1, by omega⟩
                    have hr1 : rl ((bytesL v).drop (pos + 1)) = some (d, 1) := by rw [drop_cons_bt hp1, hd, rl_ascii hde.1]
                    rw [lex_scanner_text.l1, if_pos hp1, if_neg (by simp; omega), if_pos (by simp), decode_rune, rune_rl hp1, hr1]
                    simp only [rdv]
                    have hz : IntKind.i64.wrap ((1 : Int) - 1) = 0 := by decide
                    rw [hz]
                    have := ih (k - 2) (by omega) (pos + 1 + 1) f (b ++ [e]) (by omega) (by omega) (by omega) (by omega) (by simp; omega) (h6.append (fun z hz => by simp at hz; omega))
                    rcases this with ⟨g1, g2⟩ | ⟨g1, a, g2, g3⟩ | ⟨y, n, g1, g2⟩
                    · exact .inl ⟨by rw [g1]; rfl, g2⟩
                    · exact .inr (.inl ⟨by rw [g1]; rfl, a, g2, g3⟩)
                    · refine .inr (.inr ⟨e :: y, n + 2, by rw [g1]; rfl, ?_⟩)
                      rw [g2, show pos + 1 + 1 + n = pos + (n + 2) by omega, List.append_assoc]
                      rfl
              · omega
            · have e2 : (c == 92) = false := by simpa using q2
              simp only [e2, Bool.false_eq_true, if_false]
              have hby : By ((bytesL v).drop pos) := (bytesL_by v).drop pos
              rw [encode_rl hby hr]
              have hap : V.ap 1 b (((bytesL v).drop pos).take w) = some (b ++ ((bytesL v).drop pos).take w) := by
                unfold V.ap
                rw [if_pos]
                unfold maxLen
                have hl : (((bytesL v).drop pos).take w).length ≤ w := List.length_take_le _ _
                clear hw
                omega
              rw [hap]
              simp only [Option.bind_some]
              rw [textL_go hr hct q1 q2, List.drop_drop]
              have := ih (k - 1) (by omega) (pos + w) f (b ++ ((bytesL v).drop pos).take w) (by omega) (by omega) (by omega) (by omega) (by have hl : (((bytesL v).drop pos).take w).length ≤ w := List.length_take_le _ _; rw [List.length_append]; omega) (h6.append (hby.take w))
              rcases this with ⟨g1, g2⟩ | ⟨g1, a, g2, g3⟩ | ⟨y, n, g1, g2⟩
              · exact .inl ⟨by rw [g1]; rfl, g2⟩
              · exact .inr (.inl ⟨by rw [g1]; rfl, a, g2, g3⟩)
              · refine .inr (.inr ⟨((bytesL v).drop pos).take w ++ y, n + w, by rw [g1]; rfl, ?_⟩)
                rw [g2, show pos + w + n = pos + (n + w) by omega, List.append_assoc]
    · refine .inl ⟨?_, by rw [lex_scanner_text.l1, if_neg hp]⟩
      rw [List.drop_eq_nil_of_le (by rw [bytesL_length]; omega), textL_nil]

theorem text_ok {s : ByteArray} {x : T_lex_scanner} {i : Nat} {t : List Int} (hs : s.size < 70368744177664) (hx : SI s x i) (ht : (bytesL s).drop i = 34 :: t) :
    (∃ e, e ≠ 0 ∧ textL t = .err e ∧ ∃ a : Nat, a ≤ s.size ∧ lex_scanner_text x = some (⟨#[]⟩, ⟨e, (a : Int)⟩, x)) ∨
    (∃ y n, textL t = .ok (y, n) ∧ ∃ v x', bytesL v = y ∧ lex_scanner_text x = some (v, ⟨0, 0⟩, x') ∧ SI s x' (i + (1 + n)) ∧ nx x x') := by
  have hi := hx.le
  have hlen : s.size - i = t.length + 1 := by
    have := congrArg List.length ht
    rwa [List.length_drop, bytesL_length, List.length_cons] at this
  unfold lex_scanner_text
  rw [hx.s_, hx.at_, ss_from hx.le]
  simp only [Option.bind_some]
  generalize hv : s.extract i s.size = v
  have hvs : v.size = s.size - i := by rw [← hv, size_from]
  have hbv : bytesL v = 34 :: t := by rw [← hv, bytes_from, ht]
  obtain ⟨f, hf⟩ : ∃ q, FU = q + 1 := ⟨FU - 1, by unfold FU; omega⟩
  have hfl : 70368744177665 ≤ f := by unfold FU at hf; omega
  have h0 : lex_scanner_text.l1 x v FU [] 0 0 = lex_scanner_text.l1 x v f [] 0 1 := by
    have hr : rl ((bytesL v).drop 0) = some (34, 1) := by rw [List.drop_zero, hbv]; exact rl_ascii (by decide)
    rw [hf, lex_scanner_text.l1, if_pos (by omega), if_pos (by rfl), decode_rune, rune_rl (show 0 < v.size by omega), hr]
    rfl
  rw [h0]
  have hd : (bytesL v).drop 1 = t := by rw [hbv]; rfl
  rcases text_loop hs hx hv.symm v.size 1 f [] (by omega) (by omega) (by omega) (by omega) (by simp) (fun b hb => by simp at hb) with ⟨g1, g2⟩ | ⟨g1, a, g2, g3⟩ | ⟨y, n, g1, g2⟩
  · rw [hd] at g1
    refine .inl ⟨3, by decide, g1, i, by omega, ?_⟩
    rw [g2]; rfl
  · rw [hd] at g1
    refine .inl ⟨2, by decide, g1, a, g2, ?_⟩
    rw [g3]; rfl
  · rw [hd] at g1
    obtain ⟨k1, k2, k3, k4, k5⟩ := textL_ok _ t y n (Nat.le_refl _) (by
      have := (bytesL_by s).drop i
      rw [ht] at this
      exact this.tail) g1
    obtain ⟨x', p1, p2, p3⟩ := pass_ok (n := 1 + n) hs hx (by omega) (by
      rw [ht, Nat.add_comm, List.take_succ_cons, cnt_go (rl_ascii (by decide))]
      simpa using k3)
    refine .inr ⟨y, n, g1, strOfNums y, x', strOfNums_bytes k4, ?_, p2, p3⟩
    rw [g2, p1]
    rfl
end Go.Proofs.Ytbnohlgchjcjhaa.M

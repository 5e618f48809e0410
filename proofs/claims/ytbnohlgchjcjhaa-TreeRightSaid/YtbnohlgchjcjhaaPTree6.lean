/-
  Plain laws of trees: what the document's lexer makes of a text in quotes; a node has what its kind asks. Own text.
-/
import Derived.Test.YtbnohlgchjcjhaaPTree5
namespace Go.Proofs.Ytbnohlgchjcjhaa.M
open Go Go.Proofs Go.Proofs.Ytbnohlgchjcjhaa.V
set_option linter.unusedVariables false

/-- Where a text in quotes is wrong. -/
def textE : List Int → Nat
  | [] => 0
  | b :: t => match rl (b :: t) with
    | none => 0
    | some (c, w) =>
      if ctl c = true then 0 else if c = 34 then 0
      else if c = 92 then (match t with
        | [] => 0
        | d :: t' => match mask d with | none => 0 | some e => textE t' + 2)
      else textE (t.drop (w - 1)) + w
termination_by l => l.length
decreasing_by all_goals (simp only [List.length_drop, List.length_cons]; omega)
theorem textE_none {l : List Int} (hl : l ≠ []) (h : rl l = none) : textE l = 0 := by
  cases l with
  | nil => exact absurd rfl hl
  | cons b t => rw [textE.eq_def]; simp only [h]
theorem textE_ctl {l : List Int} {c : Int} {w : Nat} (h : rl l = some (c, w)) (hc : ctl c = true) : textE l = 0 := by
  cases l with
  | nil => cases h
  | cons b t => rw [textE.eq_def]; simp only [h, hc, if_true]
theorem textE_esc0 : textE [92] = 0 := by
  rw [textE.eq_def]; simp only [rl_ascii (show (92 : Int) < 128 by decide)]; rfl
theorem textE_esc (d : Int) (t : List Int) : textE (92 :: d :: t) = match mask d with | none => 0 | some e => textE t + 2 := by
  rw [textE.eq_def]; simp only [rl_ascii (show (92 : Int) < 128 by decide)]; rfl
theorem textE_go {l : List Int} {c : Int} {w : Nat} (h : rl l = some (c, w)) (hc : ctl c = false) (h1 : c ≠ 34) (h2 : c ≠ 92) : textE l = textE (l.drop w) + w := by
  cases l with
  | nil => cases h
  | cons b t =>
    have hw := (rl_some h).1
    rw [textE.eq_def]; simp only [h, hc, Bool.false_eq_true, if_false, h1, h2]
    rw [drop_tail (b := b) hw]

theorem rquoted_l1 {s : ByteArray} (hs : s.size < 1000000000) : ∀ (k i f : Nat) (b : List Int), s.size - i ≤ k → k < f → i ≤ s.size → b.length ≤ i →
    (textL ((bytesL s).drop i) = .err 3 ∧ ref01_quoted.l1 s f b (i : Int) = some (Out.go ())) ∨
    (textL ((bytesL s).drop i) = .err 2 ∧ i + textE ((bytesL s).drop i) ≤ s.size ∧ ref01_quoted.l1 s f b (i : Int) = some (Out.ret (⟨#[]⟩, 0, 2, ((i + textE ((bytesL s).drop i) : Nat) : Int)))) ∨
    (∃ y n, textL ((bytesL s).drop i) = .ok (y, n) ∧ i + n ≤ s.size ∧ ref01_quoted.l1 s f b (i : Int) = some (Out.ret (strOfNums (b ++ y), ((i + n : Nat) : Int), 0, 0))) := by
  intro k
  induction k using Nat.strongRecOn with
  | _ k ih =>
    intro i f b h1 h2 h3 h4
    obtain ⟨f, rfl⟩ : ∃ q, f = q + 1 := ⟨f - 1, by omega⟩
    by_cases hp : i < s.size
    · have hne : (bytesL s).drop i ≠ [] := by rw [drop_cons_bt hp]; simp
      rw [ref01_quoted.l1, if_pos (by simp; omega), Rune_eq hp (by omega), rune_rl hp]
      simp only [Option.bind_some]
      cases hr : rl ((bytesL s).drop i) with
      | none =>
        refine .inr (.inl ⟨textL_none hne hr, by rw [textE_none hne hr]; omega, ?_⟩)
        rw [textE_none hne hr]
        simp [rv]
      | some q =>
        obtain ⟨c, w⟩ := q
        have hw := rl_some hr
        have hw1 := hw.1
        have hwl := hw.2.1
        rw [List.length_drop, bytesL_length] at hwl
        rw [show rv (some (c, w)) = (c, (w : Int)) from rfl]
        dsimp only
        have ew : ((w : Int) == 0) = false := by simp; omega
        rw [ew, Bool.false_or]
        have hctl : (((decide (c < 32)) && (c != 9)) && (c != 10) || (c == 127)) = ctl c := rfl
        rw [hctl]
        cases hct : ctl c with
        | true =>
          refine .inr (.inl ⟨textL_ctl hr hct, by rw [textE_ctl hr hct]; omega, ?_⟩)
          rw [textE_ctl hr hct, if_pos rfl]; rfl
        | false =>
          rw [if_neg (by simp)]
          by_cases q1 : c = 34
          · subst q1
            rcases hw.2.2 with ⟨t, ht, _, rfl⟩ | ⟨h, _⟩
            · refine .inr (.inr ⟨[], 1, by rw [ht, textL_end], by omega, ?_⟩)
              rw [if_pos (by rfl), List.append_nil, wk1 (by omega)]
            · omega
          · have e1 : (c == 34) = false := by simpa using q1
            rw [e1, if_neg (by simp)]
            by_cases q2 : c = 92
            · subst q2
              rcases hw.2.2 with ⟨t, ht, _, rfl⟩ | ⟨h, _⟩
              · rw [if_pos (by rfl), wk1 (by omega)]
                by_cases hend : i + 1 = s.size
                · have ht0 : t = [] := by
                    have := congrArg List.length ht
                    rw [List.length_drop, bytesL_length, List.length_cons] at this
                    exact List.eq_nil_of_length_eq_zero (by omega)
                  subst ht0
                  refine .inr (.inl ⟨by rw [ht, textL_esc0], by rw [ht, textE_esc0]; omega, ?_⟩)
                  rw [if_pos (show ((((i + 1 : Nat) : Int) == (s.size : Int)) = true) by simp; omega), ht, textE_esc0]
                  rfl
                · have hp1 : i + 1 < s.size := by omega
                  rw [if_neg (show ¬ ((((i + 1 : Nat) : Int) == (s.size : Int)) = true) by simp; omega)]
                  have ht1 : t = bt s (i + 1) :: (bytesL s).drop (i + 2) := by
                    have e := drop_cons_bt hp
                    rw [ht, drop_cons_bt hp1] at e
                    simpa using (List.cons.inj e).2
                  rw [gi_nat hp1, ht, ht1, textL_esc, textE_esc]
                  simp only [Option.bind_some]
                  generalize hd : bt s (i + 1) = d at *
                  have hi2 : IntKind.i64.wrap ((i : Int) + 2) = ((i + 2 : Nat) : Int) := by rw [w_eq (by omega) (by omega)]; omega
                  have ap1 : ∀ e : Int, V.ap 1 b [e] = some (b ++ [e]) := fun e => by
                    unfold V.ap
                    rw [if_pos]
                    unfold maxLen
                    simp only [List.length_cons, List.length_nil]
                    omega
                  have go : ∀ e : Int,
                      (((textL ((bytesL s).drop (i + 2))).map fun q : List Int × Nat => (e :: q.1, q.2 + 2)) = Res.err 3 ∧ ref01_quoted.l1 s f (b ++ [e]) ((i + 2 : Nat) : Int) = some (Out.go ())) ∨
                      (((textL ((bytesL s).drop (i + 2))).map fun q : List Int × Nat => (e :: q.1, q.2 + 2)) = Res.err 2 ∧ i + (textE ((bytesL s).drop (i + 2)) + 2) ≤ s.size ∧ ref01_quoted.l1 s f (b ++ [e]) ((i + 2 : Nat) : Int) = some (Out.ret (⟨#[]⟩, 0, 2, ((i + (textE ((bytesL s).drop (i + 2)) + 2) : Nat) : Int)))) ∨
                      (∃ y n, ((textL ((bytesL s).drop (i + 2))).map fun q : List Int × Nat => (e :: q.1, q.2 + 2)) = Res.ok (y, n) ∧ i + n ≤ s.size ∧ ref01_quoted.l1 s f (b ++ [e]) ((i + 2 : Nat) : Int) = some (Out.ret (strOfNums (b ++ y), ((i + n : Nat) : Int), 0, 0))) := fun e => by
                    rcases ih (k - 2) (by omega) (i + 2) f (b ++ [e]) (by omega) (by omega) (by omega) (by simp; omega) with ⟨g1, g2⟩ | ⟨g1, g2, g3⟩ | ⟨y, n, g1, g2, g3⟩
                    · exact .inl ⟨by rw [g1]; rfl, g2⟩
                    · refine .inr (.inl ⟨by rw [g1]; rfl, by omega, ?_⟩)
                      rw [g3, show i + 2 + textE ((bytesL s).drop (i + 2)) = i + (textE ((bytesL s).drop (i + 2)) + 2) by omega]
                    · refine .inr (.inr ⟨e :: y, n + 2, by rw [g1]; rfl, by omega, ?_⟩)
                      rw [g3, show i + 2 + n = i + (n + 2) by omega, List.append_assoc]; rfl
                  have hC : ((if (d != 110) = true then some (d != 34) else some false).bind fun c => (if c = true then some (d != 92) else some false).bind fun c2 => some c2) = some (d != 110 && d != 34 && d != 92) := by
                    cases (d != 110) <;> cases (d != 34) <;> cases (d != 92) <;> rfl
                  rw [hC]
                  simp only [Option.bind_some]
                  by_cases m1 : d = 110
                  · subst m1
                    rw [show mask 110 = some 10 by rfl, if_neg (by simp), if_pos (by rfl), ap1, hi2]
                    exact go 10
                  · have n1' : (d == 110) = false := by simpa using m1
                    by_cases m2 : d = 34 ∨ d = 92
                    · have hm : mask d = some d := by unfold mask; rw [if_neg m1, if_pos m2]
                      rw [hm, if_neg (by rcases m2 with rfl | rfl <;> simp), n1', if_neg (by simp), ap1, hi2]
                      exact go d
                    · have hm : mask d = none := by unfold mask; rw [if_neg m1, if_neg m2]
                      rw [hm]
                      refine .inr (.inl ⟨rfl, by simp only; omega, ?_⟩)
                      rw [if_pos]
                      · rfl
                      · have a1 : ¬ d = 34 := fun h => m2 (.inl h)
                        have a2 : ¬ d = 92 := fun h => m2 (.inr h)
                        simp [m1, a1, a2]
              · omega
            · have e2 : (c == 92) = false := by simpa using q2
              rw [e2, if_neg (by simp), w_eq (x := (i : Int) + (w : Int)) (by omega) (by omega), show (i : Int) + (w : Int) = ((i + w : Nat) : Int) by omega, ss_mid (by omega) (by omega)]
              simp only [Option.bind_some]
              have hv : V.bytesL (s.extract i (i + w)) = ((bytesL s).drop i).take w := by
                rw [show V.bytesL (s.extract i (i + w)) = bytesL (s.extract i (i + w)) from rfl, extract_bytes, List.drop_take, show i + w - i = w by omega]
              rw [hv]
              have hl : (((bytesL s).drop i).take w).length ≤ w := List.length_take_le _ _
              have hap : V.ap 1 b (((bytesL s).drop i).take w) = some (b ++ ((bytesL s).drop i).take w) := by
                unfold V.ap
                rw [if_pos]
                unfold maxLen
                clear hw
                omega
              rw [hap]
              simp only [Option.bind_some]
              rw [textL_go hr hct q1 q2, textE_go hr hct q1 q2, List.drop_drop]
              rcases ih (k - 1) (by omega) (i + w) f (b ++ ((bytesL s).drop i).take w) (by omega) (by omega) (by omega) (by rw [List.length_append]; omega) with ⟨g1, g2⟩ | ⟨g1, g2, g3⟩ | ⟨y, n, g1, g2, g3⟩
              · exact .inl ⟨by rw [g1]; rfl, g2⟩
              · refine .inr (.inl ⟨by rw [g1]; rfl, by omega, ?_⟩)
                rw [g3, show i + w + textE ((bytesL s).drop (i + w)) = i + (textE ((bytesL s).drop (i + w)) + w) by omega]
              · refine .inr (.inr ⟨((bytesL s).drop i).take w ++ y, n + w, by rw [g1]; rfl, by omega, ?_⟩)
                rw [g3, show i + w + n = i + (n + w) by omega, List.append_assoc]
    · refine .inl ⟨?_, by rw [ref01_quoted.l1, if_neg (by simp; omega)]⟩
      rw [List.drop_eq_nil_of_le (by rw [bytesL_length]; omega), textL_nil]

/-- The scan of a text in quotes by the document. -/
theorem rscan_quote {q : ByteArray} {x : List Int} (hq : q.size ≤ 65536) (hb : bytesL q = 34 :: (quoteL x ++ [34])) :
    (good x ∧ ∃ t, ref01_Scan q = some ([t], 0, 0)) ∨ (¬ good x ∧ ∃ a, ref01_Scan q = some ([], 2, a)) := by
  have hlen : q.size = (quoteL x).length + 2 := by rw [← bytesL_length, hb]; simp
  have hlt : 0 < q.size := by omega
  have hb0 : bt q 0 = 34 := by
    have := bytesL_get hlt
    rw [hb] at this
    simpa using this.symm
  have hd : (bytesL q).drop 1 = quoteL x ++ 34 :: [] := by rw [hb]; rfl
  unfold ref01_Scan
  rw [if_neg (by simp; omega)]
  obtain ⟨f, hf⟩ : ∃ f, FU = f + 2 := ⟨FU - 2, by unfold FU; omega⟩
  have hgi : V.gi q 0 = some (34 : Int) := by
    have := gi_nat hlt
    rw [hb0] at this
    exact this
  have hwhere : ∃ p, ref01_where q 0 = some p := by
    unfold ref01_where
    have : ref01_where.l1 q 0 FU 1 0 0 = some (1, 0) := by
      rw [hf, ref01_where.l1, if_neg (by decide)]
    rw [this]
    simp only [Option.bind_some]
    have := ss_mid (s := q) (i := 0) (n := 0) (Nat.le_refl _) (Nat.zero_le _)
    rw [show V.ss q (some 0) (some 0) = some (q.extract 0 0) from this]
    simp only [Option.bind_some]
    obtain ⟨n, _, hn⟩ := Runes_eq (s := q.extract 0 0) (by rw [ByteArray.size_extract]; omega)
    rw [hn]
    exact ⟨_, rfl⟩
  obtain ⟨p, hp⟩ := hwhere
  have hquoted : good x → ref01_quoted q 0 = some (strOfNums x, (q.size : Int), 0, 0) := by
    intro hg
    · unfold ref01_quoted
      have ht := text_quote _ x [] (Nat.le_refl _) hg
      rcases rquoted_l1 (s := q) (by omega) q.size 1 FU [] (by omega) (by unfold FU; omega) (by omega) (by simp) with ⟨g1, g2⟩ | ⟨g1, g2, g3⟩ | ⟨y, n, g1, g2, g3⟩
      · rw [hd, ht] at g1; cases g1
      · rw [hd, ht] at g1; cases g1
      · rw [hd, ht] at g1
        injection g1 with g1
        injection g1 with g1 g4
        subst g1; subst g4
        rw [show IntKind.i64.wrap ((0 : Int) + 1) = ((1 : Nat) : Int) by decide, g3]
        simp only [Option.bind_some, Out.on, List.nil_append]
        congr 3
        omega
  rw [hf, ref01_Scan.l1, if_pos (by simp; omega), hgi]
  simp only [Option.bind_some]
  rw [hp]
  simp only [Option.bind_some]
  rw [show IntKind.i64.wrap 34 = 34 by decide, show ref01_blank 34 = some false by rfl]
  simp only [Option.bind_some, Bool.false_eq_true, if_false]
  rw [if_neg (by decide), if_neg (by decide), if_pos (by decide)]
  by_cases hg : good x
  · left
    refine ⟨hg, ?_⟩
    rw [hquoted hg]
    simp only [Option.bind_some]
    rw [if_neg (by simp)]
    have hap : V.ap 48 ([] : List T_api_Token) [(⟨(4 : Int), strOfNums x, (0 : Int), p.1, p.2⟩ : T_api_Token)] = some [(⟨(4 : Int), strOfNums x, (0 : Int), p.1, p.2⟩ : T_api_Token)] := by
      unfold V.ap
      rw [if_pos (by unfold maxLen; simp)]
      rfl
    rw [hap]
    simp only [Option.bind_some]
    rw [ref01_Scan.l1, if_neg (by simp)]
    exact ⟨_, rfl⟩
  · right
    refine ⟨hg, ?_⟩
    have ht := text_quote_bad _ x [] (Nat.le_refl _) hg
    have hqd : ∃ a, ref01_quoted q 0 = some (⟨#[]⟩, 0, 2, a) := by
      unfold ref01_quoted
      rw [show IntKind.i64.wrap ((0 : Int) + 1) = ((1 : Nat) : Int) by decide]
      rcases rquoted_l1 (s := q) (by omega) q.size 1 FU [] (by omega) (by unfold FU; omega) (by omega) (by simp) with ⟨g1, g2⟩ | ⟨g1, g2, g3⟩ | ⟨y, n, g1, g2, g3⟩
      · rw [hd, ht] at g1; cases g1
      · rw [g3]; exact ⟨_, rfl⟩
      · rw [hd, ht] at g1; cases g1
    obtain ⟨a, ha⟩ := hqd
    rw [ha]
    exact ⟨a, rfl⟩

/-- What the program's scan makes of a text in quotes. -/
theorem scan_quote {q : ByteArray} {x : List Int} (hq : q.size ≤ 65536) (hb : bytesL q = 34 :: (quoteL x ++ [34])) :
    ∃ r, lex_Scan q = some r ∧ (r.2.1 = 0 ↔ good x) := by
  have hs : (good x ∧ scanL (bytesL q) = .ok [(4, x)]) ∨ (¬ good x ∧ scanL (bytesL q) = .err 2) := by
    rw [hb, scanL_text]
    by_cases hg : good x
    · refine .inl ⟨hg, ?_⟩
      rw [show quoteL x ++ [34] = quoteL x ++ 34 :: [] from rfl, text_quote _ x [] (Nat.le_refl _) hg]
      simp only
      rw [List.drop_eq_nil_of_le (by simp), scanL_nil]; rfl
    · refine .inr ⟨hg, ?_⟩
      rw [show quoteL x ++ [34] = quoteL x ++ 34 :: [] from rfl, text_quote_bad _ x [] (Nat.le_refl _) hg]
  rcases Scan_ok hq with ⟨ts, h1, h2, h3⟩ | ⟨e, he, a, ha, h1, h2⟩
  · refine ⟨_, h1, ?_⟩
    rcases hs with ⟨hg, hs⟩ | ⟨hg, hs⟩ <;> rw [hs] at h2
    · exact ⟨fun _ => hg, fun _ => rfl⟩
    · cases h2
  · refine ⟨_, h1, ?_⟩
    rcases hs with ⟨hg, hs⟩ | ⟨hg, hs⟩ <;> rw [hs] at h2
    · cases h2
    · exact ⟨fun h => absurd h he, fun h => absurd h hg⟩

/-- A node has what its kind asks. -/
def fitP (x : T_api_Node) : Prop := 0 ≤ x.At ∧ ((x.Kind = 5 ∧ x.Text = ⟨#[]⟩) ∨ (x.Kind = 3 ∧ x.Kids = 0 ∧ wordL (bytesL x.Text) = true) ∨ (x.Kind = 4 ∧ x.Kids = 0 ∧ good (bytesL x.Text)))
theorem seq_nil (a : ByteArray) : V.seq a ⟨#[]⟩ = true ↔ a = ⟨#[]⟩ := by
  rw [seq_iff, decide_eq_true_eq]
  exact ⟨bytesL_inj, fun h => by rw [h]⟩
theorem fits_ok (x : T_api_Node) (h : x.Text.size ≤ 30000) : ∃ b, tree_fits x = some b ∧ ref02_right x = some b ∧ (b = true ↔ fitP x) := by
  have hW := Word_list (s := x.Text) (by omega)
  obtain ⟨w, hw1, hw2⟩ := Word_eq (s := x.Text) (by omega)
  rw [hW] at hw1
  obtain rfl := Option.some.inj hw1
  obtain ⟨q, hq1, hq2, hq3⟩ := Quote_list (s := x.Text) (by omega)
  obtain ⟨q', hq4, hq5⟩ := Quote_eq (s := x.Text) (by omega)
  rw [hq1] at hq4
  obtain rfl := Option.some.inj hq4
  obtain ⟨r, hr1, hr2⟩ := scan_quote (by omega) hq2
  have hr3 := rscan_quote (by omega) hq2
  unfold tree_fits ref02_right fitP
  by_cases hA : x.At < 0
  · rw [if_pos (by simpa using hA)]
    have hA' : decide (x.At ≥ 0) = false := by simp; omega
    refine ⟨false, rfl, ?_, by simp; omega⟩
    by_cases h5 : x.Kind = 5
    · rw [if_pos (by simpa using h5), hA', Bool.and_false]
    rw [if_neg (by simpa using h5)]
    by_cases h3 : x.Kind = 3
    · rw [if_pos (by simpa using h3), hw2]
      by_cases hk : x.Kids = 0
      · rw [if_pos (by simpa using hk)]; simp [hA']
      · rw [if_neg (by simpa using hk)]; simp
    rw [if_neg (by simpa using h3)]
    by_cases h4 : x.Kind = 4
    · rw [if_pos (by simpa using h4), hq5]
      simp only [Option.bind_some]
      rcases hr3 with ⟨_, t, ht⟩ | ⟨_, a, ht⟩ <;> rw [ht] <;> simp [hA']
    rw [if_neg (by simpa using h4)]
  · rw [if_neg (by simpa using hA)]
    have hA' : decide (x.At ≥ 0) = true := by simp; omega
    have hA2 : 0 ≤ x.At := by omega
    by_cases h5 : x.Kind = 5
    · have b5 : (x.Kind == 5) = true := by simpa using h5
      simp only [b5, if_true]
      refine ⟨_, rfl, by rw [hA', Bool.and_true], ?_⟩
      rw [seq_nil]
      constructor
      · intro q; exact ⟨hA2, .inl ⟨h5, q⟩⟩
      · rintro ⟨_, ⟨_, q⟩ | ⟨q, _⟩ | ⟨q, _⟩⟩
        · exact q
        · omega
        · omega
    have b5 : (x.Kind == 5) = false := by simpa using h5
    simp only [b5, Bool.false_eq_true, if_false]
    by_cases h3 : x.Kind = 3
    · have b3 : (x.Kind == 3) = true := by simpa using h3
      simp only [b3, if_true]
      rw [hW, hw2]
      by_cases hk : x.Kids = 0
      · rw [if_pos (by simpa using hk)]
        refine ⟨wordL (bytesL x.Text), rfl, by simp [hA'], ?_⟩
        constructor
        · intro q; exact ⟨hA2, .inr (.inl ⟨h3, hk, q⟩)⟩
        · rintro ⟨_, ⟨q, _⟩ | ⟨_, _, q⟩ | ⟨q, _⟩⟩
          · omega
          · exact q
          · omega
      · rw [if_neg (by simpa using hk)]
        refine ⟨false, rfl, rfl, ?_⟩
        constructor
        · intro q; cases q
        · rintro ⟨_, ⟨q, _⟩ | ⟨_, q, _⟩ | ⟨q, _⟩⟩
          · omega
          · exact absurd q hk
          · omega
    have b3 : (x.Kind == 3) = false := by simpa using h3
    simp only [b3, Bool.false_eq_true, if_false]
    by_cases h4 : x.Kind = 4
    · have b4 : (x.Kind == 4) = true := by simpa using h4
      simp only [b4, if_true]
      rw [hq1, hq5]
      simp only [Option.bind_some]
      rw [hr1]
      simp only [Option.bind_some]
      rcases hr3 with ⟨hg, t, ht⟩ | ⟨hg, a, ht⟩
      · rw [ht]
        have e0 : r.2.1 = 0 := hr2.2 hg
        refine ⟨(x.Kids == 0), by simp [e0], by simp [hA'], ?_⟩
        constructor
        · intro q; exact ⟨hA2, .inr (.inr ⟨h4, by simpa using q, hg⟩)⟩
        · rintro ⟨_, ⟨q, _⟩ | ⟨q, _⟩ | ⟨_, q, _⟩⟩
          · omega
          · omega
          · simpa using q
      · rw [ht]
        have e0 : ¬ r.2.1 = 0 := fun q => hg (hr2.1 q)
        refine ⟨false, by simp [e0], by simp, ?_⟩
        constructor
        · intro q; cases q
        · rintro ⟨_, ⟨q, _⟩ | ⟨q, _⟩ | ⟨_, _, q⟩⟩
          · omega
          · omega
          · exact absurd q hg
    · have b4 : (x.Kind == 4) = false := by simpa using h4
      simp only [b4, Bool.false_eq_true, if_false]
      refine ⟨false, rfl, rfl, ?_⟩
      constructor
      · intro q; cases q
      · rintro ⟨_, ⟨q, _⟩ | ⟨q, _⟩ | ⟨q, _⟩⟩ <;> omega
end Go.Proofs.Ytbnohlgchjcjhaa.M

/-
  Plain laws of lex: tokens, and a text's scan, told by lists. Own text.
-/
import Derived.Test.YtbnohlgchjcjhaaPL7
namespace Go.Proofs.Ytbnohlgchjcjhaa.M
open Go Go.Proofs Go.Proofs.Ytbnohlgchjcjhaa.V
set_option linter.unusedVariables false

/-- A token's column, where the scanner stands. -/
def colAt (s : ByteArray) (x : T_lex_scanner) (i : Nat) (col : Int) : Prop := ∃ m : Nat, cnt (((bytesL s).take i).drop x.from_.toNat) = some m ∧ col = 1 + (m : Int)

/-- What comes of one token. -/
inductive TokR (s : ByteArray) (x : T_lex_scanner) (i : Nat) : Out (T_api_Token × Bool × T_lex_fault × T_lex_scanner) T_lex_scanner → Prop
  | none (x' : T_lex_scanner) (h : scanL ((bytesL s).drop i) = .ok []) : TokR s x i (.go x')
  | bad (t : T_api_Token) (b : Bool) (e : Int) (a : Nat) (x' : T_lex_scanner) (he : e ≠ 0) (h : scanL ((bytesL s).drop i) = .err e) (ha : a ≤ s.size) : TokR s x i (.ret (t, b, ⟨e, (a : Int)⟩, x'))
  | tok (t : T_api_Token) (x' x0 : T_lex_scanner) (i0 i' : Nat) (h0 : i ≤ i0) (h1 : i0 < i') (s0 : SI s x0 i0) (n0 : nx x x0) (s1 : SI s x' i') (n1 : nx x0 x') (ha : t.At = (i0 : Int)) (hl : t.Line = x0.line) (hc : colAt s x0 i0 t.Col)
      (h : scanL ((bytesL s).drop i) = (scanL ((bytesL s).drop i')).map ((t.Kind, bytesL t.Text) :: ·)) : TokR s x i (.ret (t, true, ⟨0, 0⟩, x'))

theorem TokR.later {s : ByteArray} {x x1 : T_lex_scanner} {i i1 : Nat} {o : Out (T_api_Token × Bool × T_lex_fault × T_lex_scanner) T_lex_scanner} (h : TokR s x1 i1 o) (hi : i ≤ i1) (hn : nx x x1) (he : scanL ((bytesL s).drop i) = scanL ((bytesL s).drop i1)) : TokR s x i o := by
  cases h with
  | none x' h => exact .none x' (he.trans h)
  | bad t b e a x' h0 h ha => exact .bad t b e a x' h0 (he.trans h) ha
  | tok t x' x0 i0 i' h0 h1 s0 n0 s1 n1 ha hl hc h => exact .tok t x' x0 i0 i' (by omega) h1 s0 (nx_trans hn n0) s1 n1 ha hl hc (he.trans h)

theorem col_ok {s : ByteArray} {x : T_lex_scanner} {i : Nat} (hs : s.size < 70368744177664) (hx : SI s x i) :
    ∃ m : Nat, cnt (((bytesL s).take i).drop x.from_.toNat) = some m ∧ m ≤ s.size ∧ ((V.ss x.s (some x.from_) (some x.at_)).bind fun v2 => (lex_Runes v2).bind fun r =>
      some (⟨(0 : Int), (⟨#[]⟩ : ByteArray), x.at_, x.line, (IntKind.i64.wrap ((1 : Int) + r))⟩ : T_api_Token)) = some ⟨0, ⟨#[]⟩, (i : Int), x.line, 1 + (m : Int)⟩ := by
  obtain ⟨j, hj, hji, hj2⟩ := hx.from_
  have hi := hx.le
  have hm : ∃ m, cnt (((bytesL s).take i).drop j) = some m := by
    cases hu : cnt ((bytesL s).take i) with
    | none => exact absurd hu hx.ok
    | some a =>
      rcases hj2 with rfl | ⟨h1, h2⟩
      · exact ⟨a, by simpa using hu⟩
      · have e : (bytesL s).take i = (bytesL s).take (j - 1) ++ 10 :: ((bytesL s).take i).drop j := by
          have e1 : (bytesL s).take i = ((bytesL s).take i).take (j - 1) ++ ((bytesL s).take i).drop (j - 1) := (List.take_append_drop _ _).symm
          have hl : j - 1 < ((bytesL s).take i).length := by
            rw [List.length_take, bytesL_length]; omega
          rw [List.drop_eq_getElem_cons hl] at e1
          have e2 : ((bytesL s).take i)[j - 1] = 10 := by
            have h3 : ((bytesL s).take i)[j - 1]? = some 10 := by
              rw [List.getElem?_take, if_pos (by omega), bytesL_get (by omega), h2]
            rw [List.getElem?_eq_getElem hl] at h3
            exact Option.some.inj h3
          rw [e2, List.take_take, show min (j - 1) i = j - 1 by omega, show j - 1 + 1 = j by omega] at e1
          exact e1
        rw [e] at hu
        exact cnt_split _ _ _ a (Nat.le_refl _) hu
  obtain ⟨m, hm⟩ := hm
  have hmle := (cnt_le _ _ m (Nat.le_refl _) hm).1
  have hml : m ≤ s.size := by
    have : (((bytesL s).take i).drop j).length ≤ (bytesL s).length := by rw [List.length_drop, List.length_take]; omega
    rw [bytesL_length] at this
    omega
  refine ⟨m, by rw [hj]; exact hm, hml, ?_⟩
  rw [hx.s_, hx.at_, hj, ss_mid hji hi]
  simp only [Option.bind_some]
  rw [Runes_cnt (by rw [ByteArray.size_extract]; omega), extract_bytes, hm]
  simp only [Option.bind_some, runesI]
  rw [w_eq (by omega) (by omega)]

theorem blankM (c : Int) : lex_blank c = some (blankB c) := rfl

theorem scanL_at {s : ByteArray} {i : Nat} (h : i < s.size) : (bytesL s).drop i = bt s i :: (bytesL s).drop (i + 1) := drop_cons_bt h

theorem token_ok {s : ByteArray} (hs : s.size < 70368744177664) : ∀ (k i f : Nat) (x : T_lex_scanner), s.size - i ≤ k → k < f → SI s x i → ∃ o, lex_scanner_token.l1 f x = some o ∧ TokR s x i o := by
  intro k
  induction k with
  | zero =>
    intro i f x h1 h2 hx
    obtain ⟨f, rfl⟩ : ∃ q, f = q + 1 := ⟨f - 1, by omega⟩
    have hi := hx.le
    refine ⟨.go x, ?_, .none x ?_⟩
    · rw [lex_scanner_token.l1, if_neg]
      rw [hx.s_, hx.at_]; simp; omega
    · rw [List.drop_eq_nil_of_le (by rw [bytesL_length]; omega), scanL_nil]
  | succ k ih =>
    intro i f x h1 h2 hx
    obtain ⟨f, rfl⟩ : ∃ q, f = q + 1 := ⟨f - 1, by omega⟩
    have hi := hx.le
    by_cases hp : i < s.size
    · obtain ⟨m, hm, hml, hcol⟩ := col_ok hs hx
      have hd := drop_cons_bt hp
      have hbr := bt_range s i
      rw [lex_scanner_token.l1, if_pos (by rw [hx.s_, hx.at_]; simp; omega)]
      rw [hcol]
      rw [show V.gi x.s x.at_ = some (bt s i) by rw [hx.s_, hx.at_]; exact gi_nat hp]
      simp only [Option.bind_some]
      rw [w32_eq (by omega) (by omega), blankM]
      simp only [Option.bind_some]
      generalize hb : bt s i = b at *
      have hc1 : b < 128 → cnt (((bytesL s).drop i).take 1) ≠ none := fun h => cnt_one hd h
      by_cases q0 : blankB b = true
      · have hb128 : b < 128 := by unfold blankB at q0; simp at q0; omega
        obtain ⟨x1, g1, g2, g3⟩ := pass_ok (n := 1) hs hx (by omega) (hc1 hb128)
        have g1' : lex_scanner_pass x 1 = some x1 := g1
        simp only [q0, if_true, g1', Option.bind_some]
        obtain ⟨o, p1, p2⟩ := ih (i + 1) f x1 (by omega) (by omega) g2
        rw [p1]
        refine ⟨o, rfl, p2.later (by omega) g3 ?_⟩
        rw [hd, scanL_blank q0]
      · simp only [q0, Bool.false_eq_true, if_false]
        by_cases q1 : b = 59
        · subst q1
          simp only [beq_self_eq_true, if_true]
          have hs59 : scanL ((bytesL s).drop i) = if (headL nlB ((bytesL s).drop i)).2 = true then scanL ((bytesL s).drop (i + (headL nlB ((bytesL s).drop i)).1)) else .err 2 := by
            have h0 : 1 ≤ (headL nlB ((bytesL s).drop i)).1 := by
              rw [hd, headL_go (rl_ascii (by decide)) (by rfl)]; simp
            rw [← List.drop_drop]
            rw [hd] at h0 ⊢
            rw [scanL_rem, drop_tail (b := 59) h0]
          rcases remark_ok hs hx with ⟨r1, a, r2, r3⟩ | ⟨r1, x1, r2, r3, r4⟩
          · rw [r1] at hs59
            rw [r2]
            exact ⟨_, rfl, .bad _ _ 2 a _ (by decide) (by simpa using hs59) r3⟩
          · rw [r1] at hs59
            rw [r2]
            simp only [if_true] at hs59
            have h0 : 1 ≤ (headL nlB ((bytesL s).drop i)).1 := by
              rw [hd, headL_go (rl_ascii (by decide)) (by rfl)]; simp
            obtain ⟨o, p1, p2⟩ := ih (i + (headL nlB ((bytesL s).drop i)).1) f x1 (by omega) (by omega) r3
            simp only [Option.bind_some, bne_self_eq_false, Bool.false_eq_true, if_false]
            rw [p1]
            exact ⟨o, rfl, p2.later (by omega) r4 hs59⟩
        · have e1 : (b == 59) = false := by simpa using q1
          simp only [e1, Bool.false_eq_true, if_false]
          by_cases q2 : b = 40
          · subst q2
            obtain ⟨x1, g1, g2, g3⟩ := pass_ok (n := 1) hs hx (by omega) (hc1 (by omega))
            have g1' : lex_scanner_pass x 1 = some x1 := g1
            simp only [beq_self_eq_true, if_true, g1', Option.bind_some, Out.on]
            refine ⟨_, rfl, .tok _ x1 x i (i + 1) (by omega) (by omega) hx (nx_refl x) g2 g3 rfl rfl ⟨m, hm, rfl⟩ ?_⟩
            rw [hd, scanL_open]; rfl
          · have e2 : (b == 40) = false := by simpa using q2
            simp only [e2, Bool.false_eq_true, if_false]
            by_cases q3 : b = 41
            · subst q3
              obtain ⟨x1, g1, g2, g3⟩ := pass_ok (n := 1) hs hx (by omega) (hc1 (by omega))
              have g1' : lex_scanner_pass x 1 = some x1 := g1
              simp only [beq_self_eq_true, if_true, g1', Option.bind_some, Out.on]
              refine ⟨_, rfl, .tok _ x1 x i (i + 1) (by omega) (by omega) hx (nx_refl x) g2 g3 rfl rfl ⟨m, hm, rfl⟩ ?_⟩
              rw [hd, scanL_close]; rfl
            · have e3 : (b == 41) = false := by simpa using q3
              simp only [e3, Bool.false_eq_true, if_false]
              by_cases q4 : b = 34
              · subst q4
                simp only [beq_self_eq_true, if_true]
                rcases text_ok hs hx hd with ⟨e, t1, t2, a, t3, t4⟩ | ⟨y, n, t1, v, x1, t2, t3, t4, t5⟩
                · rw [t4]
                  refine ⟨_, rfl, .bad _ _ e a _ t1 ?_ t3⟩
                  rw [hd, scanL_text, t2]
                · rw [t3]
                  simp only [Option.bind_some, Out.on]
                  have hn := textL_ok _ _ _ _ (Nat.le_refl _) ((bytesL_by s).drop (i + 1)) t1
                  have hn1 := hn.1
                  refine ⟨_, rfl, .tok _ x1 x i (i + (1 + n)) (by omega) (by clear hn; omega) hx (nx_refl x) t4 t5 rfl rfl ⟨m, hm, rfl⟩ ?_⟩
                  rw [hd, scanL_text, t1, t2]
                  simp only [List.drop_drop]
                  rw [show i + 1 + n = i + (1 + n) by omega]
              · have e4 : (b == 34) = false := by simpa using q4
                simp only [e4, Bool.false_eq_true, if_false]
                have hwb : wordB b = true := by
                  unfold wordB
                  simp [q0, q1, q2, q3, q4]
                have hsw : scanL ((bytesL s).drop i) = if (headL plainB ((bytesL s).drop i)).1 = 0 then .err 2
                    else if longB (cnt (((bytesL s).drop i).take (headL plainB ((bytesL s).drop i)).1)) = true then .err 4
                    else (scanL (((bytesL s).drop i).drop (headL plainB ((bytesL s).drop i)).1)).map ((3, ((bytesL s).drop i).take (headL plainB ((bytesL s).drop i)).1) :: ·) := by
                  rw [hd]; exact scanL_word hwb
                rcases word_ok hs hx with ⟨w1, w2⟩ | ⟨w1, w2, w3⟩ | ⟨w1, w2, v, x1, w3, w4, w5, w6⟩
                · rw [w2]
                  rw [if_pos w1] at hsw
                  exact ⟨_, rfl, .bad _ _ 2 i _ (by decide) hsw (by omega)⟩
                · rw [w3]
                  rw [if_neg w1, if_pos w2] at hsw
                  exact ⟨_, rfl, .bad _ _ 4 i _ (by decide) hsw (by omega)⟩
                · rw [w4]
                  rw [if_neg w1, if_neg (by rw [w2]; simp), ← w3, List.drop_drop] at hsw
                  simp only [Option.bind_some, Out.on]
                  exact ⟨_, rfl, .tok _ x1 x i _ (by omega) (by omega) hx (nx_refl x) w5 w6 rfl rfl ⟨m, hm, rfl⟩ hsw⟩
    · refine ⟨.go x, ?_, .none x ?_⟩
      · rw [lex_scanner_token.l1, if_neg]
        rw [hx.s_, hx.at_]; simp; omega
      · rw [List.drop_eq_nil_of_le (by rw [bytesL_length]; omega), scanL_nil]

/-- Tokens, one behind the other, with their places. -/
inductive Ch (s : ByteArray) : T_lex_scanner → Nat → List T_api_Token → Prop
  | nil (x : T_lex_scanner) (i : Nat) : Ch s x i []
  | cons (x x0 x' : T_lex_scanner) (i i0 i' : Nat) (t : T_api_Token) (ts : List T_api_Token) (h0 : i ≤ i0) (h1 : i0 < i') (s0 : SI s x0 i0) (n0 : nx x x0) (s1 : SI s x' i') (n1 : nx x0 x') (ha : t.At = (i0 : Int)) (hl : t.Line = x0.line) (hc : colAt s x0 i0 t.Col) (h : Ch s x' i' ts) : Ch s x i (t :: ts)

def tk (t : T_api_Token) : Int × List Int := (t.Kind, bytesL t.Text)

theorem scan_loop {s : ByteArray} (hs : s.size < 1000000000) : ∀ (k i f : Nat) (x : T_lex_scanner) (l : List T_api_Token), s.size - i ≤ k → k < f → SI s x i → l.length ≤ i →
    (∃ ts, lex_Scan.l1 f x l = some (l ++ ts, 0, 0) ∧ scanL ((bytesL s).drop i) = .ok (ts.map tk) ∧ Ch s x i ts) ∨
    (∃ e, e ≠ 0 ∧ ∃ a : Nat, a ≤ s.size ∧ lex_Scan.l1 f x l = some ([], e, (a : Int)) ∧ scanL ((bytesL s).drop i) = .err e) := by
  intro k
  induction k with
  | zero =>
    intro i f x l h1 h2 hx hl
    obtain ⟨f, rfl⟩ : ∃ q, f = q + 1 := ⟨f - 1, by omega⟩
    obtain ⟨o, g1, g2⟩ := token_ok (s := s) (by omega) (s.size - i) i FU x (by omega) (by unfold FU; omega) hx
    have hi := hx.le
    rw [lex_Scan.l1]
    unfold lex_scanner_token
    rw [g1]
    cases g2 with
    | none x' h =>
      refine .inl ⟨[], ?_, h, .nil _ _⟩
      simp [Out.on]
    | bad t b e a x' he h ha =>
      refine .inr ⟨e, he, a, ha, ?_, h⟩
      simp [Out.on, he]
    | tok t x' x0 i0 i' h0 h1 s0 n0 s1 n1 ha hl hc h =>
      have := s1.le
      omega
  | succ k ih =>
    intro i f x l h1 h2 hx hl
    obtain ⟨f, rfl⟩ : ∃ q, f = q + 1 := ⟨f - 1, by omega⟩
    obtain ⟨o, g1, g2⟩ := token_ok (s := s) (by omega) (s.size - i) i FU x (by omega) (by unfold FU; omega) hx
    have hi := hx.le
    rw [lex_Scan.l1]
    unfold lex_scanner_token
    rw [g1]
    cases g2 with
    | none x' h =>
      refine .inl ⟨[], ?_, h, .nil _ _⟩
      simp [Out.on]
    | bad t b e a x' he h ha =>
      refine .inr ⟨e, he, a, ha, ?_, h⟩
      simp [Out.on, he]
    | tok t x' x0 i0 i' h0 h1 s0 n0 s1 n1 ha hl' hc h =>
      have hi' := s1.le
      have hap : V.ap 48 l [t] = some (l ++ [t]) := by
        unfold V.ap
        rw [if_pos]
        unfold maxLen
        simp only [List.length_cons, List.length_nil]
        omega
      simp only [Option.bind_some, Out.on, bne_self_eq_false, Bool.false_eq_true, if_false, Bool.not_true, hap]
      rcases ih i' f x' (l ++ [t]) (by omega) (by omega) s1 (by simp; omega) with ⟨ts, p1, p2, p3⟩ | ⟨e, he, a, ha', p1, p2⟩
      · refine .inl ⟨t :: ts, ?_, ?_, .cons x x0 x' i i0 i' t ts h0 (by omega) s0 n0 s1 n1 ha hl' hc p3⟩
        · rw [p1]; simp
        · rw [h, p2]; rfl
      · refine .inr ⟨e, he, a, ha', p1, ?_⟩
        rw [h, p2]; rfl

theorem SI_start (s : ByteArray) : SI s ⟨s, 0, 1, 0⟩ 0 := ⟨rfl, rfl, Nat.zero_le _, by show (0 : Int) ≤ 1; decide, by show (1 : Int) ≤ ((0 : Nat) : Int) + 1; omega, ⟨0, rfl, Nat.le_refl _, .inl rfl⟩, by rw [List.take_zero, cnt_nil]; simp⟩

/-- A text's scan. -/
theorem Scan_ok {s : ByteArray} (hs : s.size ≤ 65536) :
    (∃ ts, lex_Scan s = some (ts, 0, 0) ∧ scanL (bytesL s) = .ok (ts.map tk) ∧ Ch s ⟨s, 0, 1, 0⟩ 0 ts) ∨
    (∃ e, e ≠ 0 ∧ ∃ a : Nat, a ≤ s.size ∧ lex_Scan s = some ([], e, (a : Int)) ∧ scanL (bytesL s) = .err e) := by
  unfold lex_Scan
  rw [if_neg (by simp; omega)]
  have := scan_loop (s := s) (by omega) s.size 0 FU ⟨s, 0, 1, 0⟩ [] (by omega) (by unfold FU; omega) (SI_start s) (by simp)
  simpa using this
end Go.Proofs.Ytbnohlgchjcjhaa.M

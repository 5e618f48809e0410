/-
  Plain laws of lex: LexBack. Own text.
-/
import Derived.Test.YtbnohlgchjcjhaaPL11
namespace Go.Proofs.Ytbnohlgchjcjhaa.M
open Go Go.Proofs Go.Proofs.Ytbnohlgchjcjhaa.V
set_option linter.unusedVariables false

/-- A token that a scan tells of. -/
inductive GT : Int × List Int → Prop
  | opn : GT (1, [40])
  | cls : GT (2, [41])
  | word (x : List Int) (h : headL plainB x = (x.length, true)) (hx : x ≠ []) (hl : longB (cnt x) = false) : GT (3, x)
  | text (x : List Int) (h : good x) : GT (4, x)

theorem good_append {u v : List Int} (hu : good u) (hv : good v) : good (u ++ v) := by
  obtain ⟨h1, h2⟩ := hu
  obtain ⟨h3, h4⟩ := hv
  refine ⟨?_, fun b hb => ?_⟩
  · cases hc : cnt u with
    | none => exact absurd hc h1
    | some a =>
      rw [cnt_append _ u v a (Nat.le_refl _) hc]
      simpa using h3
  · rcases List.mem_append.1 hb with q | q
    · exact h2 b q
    · exact h4 b q

theorem text_good : ∀ (k : Nat) (t x : List Int) (n : Nat), t.length ≤ k → textL t = .ok (x, n) → good x ∧ n ≤ t.length ∧ x.length + 1 ≤ n := by
  intro k
  induction k with
  | zero =>
    intro t x n h hu
    obtain rfl := List.eq_nil_of_length_eq_zero (Nat.le_zero.1 h)
    rw [textL_nil] at hu; cases hu
  | succ k ih =>
    intro t x n h hu
    by_cases hl : t = []
    · subst hl; rw [textL_nil] at hu; cases hu
    cases hr : rl t with
    | none => rw [textL_none hl hr] at hu; cases hu
    | some q =>
      obtain ⟨c, w⟩ := q
      have hw1 := (rl_some hr).1
      have hw2 := (rl_some hr).2.1
      cases hc : ctl c with
      | true => rw [textL_ctl hr hc] at hu; cases hu
      | false =>
        by_cases h1 : c = 34
        · subst h1
          obtain ⟨t', rfl, rfl⟩ := low_cons hr (by decide)
          rw [textL_end] at hu; cases hu
          exact ⟨good_nil, by simp, by simp⟩
        · by_cases h2 : c = 92
          · subst h2
            obtain ⟨t', rfl, rfl⟩ := low_cons hr (by decide)
            cases t' with
            | nil => rw [textL_esc0] at hu; cases hu
            | cons d t' =>
              rw [textL_esc] at hu
              cases hm : mask d with
              | none => rw [hm] at hu; cases hu
              | some e =>
                rw [hm] at hu
                simp only at hu
                obtain ⟨q, q1, q2⟩ := map_ok hu
                simp only [List.length_cons] at h ⊢
                simp only [Prod.mk.injEq] at q2
                obtain ⟨rfl, rfl⟩ := q2
                obtain ⟨k1, k2, k3⟩ := ih t' q.1 q.2 (by omega) q1
                have he : e < 128 ∧ ctl e = false := by
                  unfold mask at hm
                  split at hm
                  · cases hm; decide
                  · split at hm
                    · rename_i h3; cases hm; rcases h3 with rfl | rfl <;> decide
                    · cases hm
                exact ⟨(good_low he.1).2 ⟨he.2, k1⟩, by omega, by simp only [List.length_cons]; omega⟩
          · rw [textL_go hr hc h1 h2] at hu
            obtain ⟨q, q1, q2⟩ := map_ok hu
            simp only [Prod.mk.injEq] at q2
            obtain ⟨rfl, rfl⟩ := q2
            obtain ⟨k1, k2, k3⟩ := ih (t.drop w) q.1 q.2 (by rw [List.length_drop]; omega) q1
            rw [List.length_drop] at k2
            have hlt : (t.take w).length = w := by rw [List.length_take]; omega
            refine ⟨good_append ⟨?_, ?_⟩ k1, by omega, by rw [List.length_append]; omega⟩
            · have := rl_take (m := []) hr
              rw [List.append_nil] at this
              rw [cnt_go this, List.drop_eq_nil_of_le (by omega), cnt_nil]; simp
            · intro b hb
              by_cases hc' : c < 128
              · obtain ⟨t', rfl, rfl⟩ := low_cons hr hc'
                simp at hb
                subst hb; exact hc
              · exact ctl_high (take_high hr hc' b hb)

/-- How much room shown tokens take at most. -/
def room : List (Int × List Int) → Nat
  | [] => 0
  | t :: ts => t.2.length + 1 + room ts

theorem scan_good {l : List Int} : ∀ ts, scanL l = .ok ts → (∀ t, t ∈ ts → GT t) ∧ room ts ≤ 2 * l.length := by
  refine scanL_ind (motive := fun l r => ∀ ts, r = .ok ts → (∀ t, t ∈ ts → GT t) ∧ room ts ≤ 2 * l.length) ?_ ?_ ?_ ?_ ?_ ?_ ?_ ?_ ?_ ?_ l.length l (Nat.le_refl _)
  · intro ts h; cases h; exact ⟨by simp, Nat.zero_le _⟩
  · intro b t _ ih ts h
    obtain ⟨h1, h2⟩ := ih ts h
    exact ⟨h1, by simp only [List.length_cons]; omega⟩
  · intro t n _ _ ih ts h
    obtain ⟨h1, h2⟩ := ih ts h
    rw [List.length_drop] at h2
    exact ⟨h1, by omega⟩
  · intro t n _ ts h; cases h
  · intro t ih ts h
    obtain ⟨us, h1, rfl⟩ := map_ok h
    obtain ⟨h2, h3⟩ := ih us h1
    refine ⟨fun t ht => ?_, by simp only [room, List.length_cons, List.length_nil]; omega⟩
    rcases List.mem_cons.1 ht with rfl | ht
    · exact .opn
    · exact h2 t ht
  · intro t ih ts h
    obtain ⟨us, h1, rfl⟩ := map_ok h
    obtain ⟨h2, h3⟩ := ih us h1
    refine ⟨fun t ht => ?_, by simp only [room, List.length_cons, List.length_nil]; omega⟩
    rcases List.mem_cons.1 ht with rfl | ht
    · exact .cls
    · exact h2 t ht
  · intro t x n hx ih ts h
    obtain ⟨us, h1, rfl⟩ := map_ok h
    obtain ⟨h2, h3⟩ := ih us h1
    obtain ⟨k1, k2, k3⟩ := text_good _ t x n (Nat.le_refl _) hx
    rw [List.length_drop] at h3
    refine ⟨fun t ht => ?_, by simp only [room, List.length_cons]; omega⟩
    rcases List.mem_cons.1 ht with rfl | ht
    · exact .text x k1
    · exact h2 t ht
  · intro t e _ ts h; cases h
  · intro b t n f hwb hh h0 hl ih ts h
    obtain ⟨us, h1, rfl⟩ := map_ok h
    obtain ⟨h2, h3⟩ := ih us h1
    have hle := headL_le plainB _ (b :: t) (Nat.le_refl _)
    have hcut := headL_cut (p := plainB) _ (b :: t) (Nat.le_refl _)
    rw [hh] at hle hcut
    simp only at hle hcut
    have hlt : ((b :: t).take n).length = n := by rw [List.length_take]; omega
    rw [List.length_drop] at h3
    refine ⟨fun t' ht => ?_, by simp only [room]; omega⟩
    rcases List.mem_cons.1 ht with rfl | ht
    · exact .word _ (by rw [hcut, hlt]) (by intro e; rw [e] at hlt; simp at hlt; omega) hl
    · exact h2 t' ht
  · intro b t e _ _ ts h; cases h

/-- Tokens as text, behind a token of a kind. -/
def body (t : Int × List Int) : List Int := if t.1 = 1 then [40] else if t.1 = 2 then [41] else if t.1 = 4 then 34 :: (quoteL t.2 ++ [34]) else t.2
def showL : Int → List (Int × List Int) → List Int
  | _, [] => []
  | p, t :: ts => (if p ≠ 1 ∧ t.1 ≠ 2 then [32] else []) ++ (body t ++ showL t.1 ts)

theorem show_stops (p : Int) (hp : p = 3) (ts : List (Int × List Int)) : stops plainB (showL p ts) := by
  subst hp
  cases ts with
  | nil => exact .inl rfl
  | cons t ts =>
    rw [showL]
    by_cases h : t.1 = 2
    · rw [if_neg (by simp [h])]
      refine .inr ⟨41, showL t.1 ts, ?_, by decide, rfl⟩
      unfold body
      rw [if_neg (by omega), if_pos h]; rfl
    · rw [if_pos ⟨by decide, h⟩]
      exact .inr ⟨32, _, rfl, by decide, rfl⟩

theorem show_scan : ∀ (ts : List (Int × List Int)) (p : Int), (∀ t, t ∈ ts → GT t) → scanL (showL p ts) = .ok ts := by
  intro ts
  induction ts with
  | nil => intro p _; exact scanL_nil
  | cons t ts ih =>
    intro p hg
    have ht := hg t (by simp)
    have hts := fun q => ih q (fun u hu => hg u (by simp [hu]))
    rw [showL]
    have key : scanL (body t ++ showL t.1 ts) = .ok (t :: ts) := by
      cases ht with
      | opn => show scanL (40 :: showL 1 ts) = _; rw [scanL_open, hts 1]; rfl
      | cls => show scanL (41 :: showL 2 ts) = _; rw [scanL_close, hts 2]; rfl
      | word x h hx hl =>
        show scanL (x ++ showL 3 ts) = _
        have e := headL_app (show_stops 3 rfl ts) _ x x.length (Nat.le_refl _) h
        cases hr : rl x with
        | none => rw [headL_none hx hr] at h; exact absurd (congrArg Prod.snd h) (by simp)
        | some q =>
          obtain ⟨c, w⟩ := q
          have hp : plainB c = true := by
            cases hp : plainB c with
            | true => rfl
            | false =>
              rw [headL_stop hr hp] at h
              have := congrArg Prod.fst h
              simp only at this
              exact absurd (List.eq_nil_of_length_eq_zero this.symm) hx
          obtain ⟨b, t, rfl, hb⟩ := plain_first hr hp
          have e1 : (b :: (t ++ showL 3 ts)).take (b :: t).length = b :: t := by rw [← List.cons_append, List.take_left']; rfl
          have e2 : (b :: (t ++ showL 3 ts)).drop (b :: t).length = showL 3 ts := by rw [← List.cons_append, List.drop_left']; rfl
          rw [List.cons_append] at e
          rw [List.cons_append, scanL_word hb, e]
          simp only
          rw [if_neg (by simp), e1, e2, hl, hts 3]
          rfl
      | text x h =>
        show scanL (34 :: (quoteL x ++ [34]) ++ showL 4 ts) = _
        rw [List.cons_append, List.append_assoc, scanL_text]
        have := text_quote _ x (showL 4 ts) (Nat.le_refl _) h
        rw [show [34] ++ showL 4 ts = 34 :: showL 4 ts from rfl, this]
        simp only
        rw [show quoteL x ++ 34 :: showL 4 ts = (quoteL x ++ [34]) ++ showL 4 ts by simp, List.drop_left' (by simp), hts 4]
        rfl
    split
    · show scanL (32 :: (body t ++ showL t.1 ts)) = _
      rw [scanL_blank (by rfl)]; exact key
    · exact key

theorem show_room : ∀ (ts : List (Int × List Int)) (p : Int), (showL p ts).length ≤ 4 * room ts := by
  intro ts
  induction ts with
  | nil => intro p; simp [showL]
  | cons t ts ih =>
    intro p
    have := ih t.1
    have hq := quoteL_len t.2
    have hb : (body t).length ≤ 2 * t.2.length + 2 := by
      unfold body
      split
      · simp
      · split
        · simp
        · split
          · simp only [List.length_cons, List.length_append, List.length_nil]; omega
          · omega
    rw [showL, List.length_append, List.length_append]
    simp only [room]
    have h1 : (if p ≠ 1 ∧ t.1 ≠ 2 then [(32 : Int)] else []).length ≤ 1 := by split <;> simp
    omega

theorem room_drop {ts : List (Int × List Int)} (t : Int × List Int) : room (t :: ts) = t.2.length + 1 + room ts := rfl

/-- Places rise. -/
def adj (a b : T_api_Token) : Prop := a.At < b.At ∧ a.Line ≤ b.Line ∧ (a.Line = b.Line → a.Col < b.Col)

theorem col_lt {s : ByteArray} {x y : T_lex_scanner} {i j : Nat} {a b : Int} (hx : SI s x i) (hy : SI s y j) (hij : i < j) (hf : y.from_ = x.from_) (ha : colAt s x i a) (hb : colAt s y j b) : a < b := by
  obtain ⟨m, hm, rfl⟩ := ha
  obtain ⟨n, hn, rfl⟩ := hb
  rw [hf] at hn
  obtain ⟨p, hp, hpi, _⟩ := hx.from_
  rw [hp] at hm hn
  simp only [Int.toNat_natCast] at hm hn
  have hj := hy.le
  have e : ((bytesL s).take j).drop p = ((bytesL s).take i).drop p ++ ((bytesL s).take j).drop i := by
    have e1 : (bytesL s).take i = ((bytesL s).take j).take i := by rw [List.take_take, Nat.min_eq_left (by omega)]
    rw [e1]
    generalize (bytesL s).take j = q
    have e2 : q = q.take i ++ q.drop i := (List.take_append_drop i q).symm
    by_cases hq : i ≤ q.length
    · conv => lhs; rw [e2]
      rw [List.drop_append_of_le_length (by rw [List.length_take]; omega)]
    · rw [List.take_of_length_le (by omega), List.drop_eq_nil_of_le (show q.length ≤ i by omega), List.append_nil]
  rw [e, cnt_append _ _ _ m (Nat.le_refl _) hm, Option.map_eq_some_iff] at hn
  obtain ⟨d, hd, rfl⟩ := hn
  have := (cnt_le _ _ d (Nat.le_refl _) hd).2 (by
    intro h0
    have := congrArg List.length h0
    rw [List.length_drop, List.length_take, bytesL_length] at this
    simp at this
    omega)
  omega

theorem Ch_adj {s : ByteArray} {x : T_lex_scanner} {i : Nat} {ts : List T_api_Token} (h : Ch s x i ts) : ∀ (k : Nat) (a b : T_api_Token), ts[k]? = some a → ts[k + 1]? = some b → adj a b := by
  induction h with
  | nil x i => intro k a b ha; simp at ha
  | cons x x0 x' i i0 i' t ts h0 h1 s0 n0 s1 n1 ha hl hc h ih =>
    intro k a b hka hkb
    cases k with
    | succ k => exact ih k a b (by simpa using hka) (by simpa using hkb)
    | zero =>
      simp only [List.getElem?_cons_zero, Option.some.injEq] at hka
      subst hka
      cases h with
      | nil => simp at hkb
      | cons _ y0 _ _ j0 _ u us g0 g1 t0 m0 t1 m1 hb kl kc _ =>
        simp at hkb
        subst hkb
        have hn := nx_trans n1 m0
        refine ⟨by rw [ha, hb]; omega, ?_, ?_⟩
        · rw [hl, kl]
          rcases hn with hn | ⟨hn, _⟩ <;> omega
        · rw [hl, kl]
          intro e
          rcases hn with hn | ⟨hn, hf⟩
          · omega
          · exact col_lt s0 t0 (by omega) hf hc kc
end Go.Proofs.Ytbnohlgchjcjhaa.M

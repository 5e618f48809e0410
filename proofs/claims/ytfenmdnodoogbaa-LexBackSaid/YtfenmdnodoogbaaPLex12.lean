/-
  Plain laws of lex: LexBack. Own text.
-/
import Derived.Test.YtfenmdnodoogbaaPLex11
namespace Go.Proofs.Ytfenmdnodoogbaa.M
open Go Go.Proofs Go.Proofs.Ytfenmdnodoogbaa.V
set_option linter.unusedVariables false

/-- A token that a scan tells of. -/
inductive GT : Int × List Int → Prop
  | opn : GT (1, [40])
  | cls : GT (2, [41])
  | word (x : List Int) (h : headL plainB x = (x.length, true)) (hx : x ≠ []) (hl : longB (cnt x) = false) : GT (3, x)
  | text (x : List Int) (h : good x) : GT (4, x)

theorem good_append {u v : List Int} (hu : good u) (hv : good v) : good (u ++ v) := by
  obtain ⟨h1, h2⟩ := hu
  obtain ⟨h3, h4⟩ := hv
  refine ⟨?_, fun b hb => ?_⟩
  · cases hc : cnt u with
    | none => exact absurd hc h1
    | some a =>
      rw [cnt_append _ u v a (Nat.le_refl _) hc]
      simpa using h3
  · rcases List.mem_append.1 hb with q | q
    · exact h2 b q
    · exact h4 b q

theorem text_good : ∀ (k : Nat) (t x : List Int) (n : Nat), t.length ≤ k → textL t = .ok (x, n) → good x ∧ n ≤ t.length ∧ x.length + 1 ≤ n := by
  intro k
  induction k with
  | zero =>
    intro t x n h hu
    obtain rfl := List.eq_nil_of_length_eq_zero (Nat.le_zero.1 h)
    rw [textL_nil] at hu; cases hu
  | succ k ih =>
    intro t x n h hu
    by_cases hl : t = []
    · subst hl; rw [textL_nil] at hu; cases hu
    cases hr : rl t with
    | none => rw [textL_none hl hr] at hu; cases hu
    | some q =>
      obtain ⟨c, w⟩ := q
      have hw1 := (rl_some hr).1
      have hw2 := (rl_some hr).2.1
      cases hc : ctl c with
      | true => rw [textL_ctl hr hc] at hu; cases hu
      | false =>
        by_cases h1 : c = 34
        · subst h1
          obtain ⟨t', rfl, rfl⟩ := low_cons hr (by decide)
          rw [textL_end] at hu; cases hu
          exact ⟨good_nil, by simp, by simp⟩
        · by_cases h2 : c = 92
          · subst h2
            obtain ⟨t', rfl, rfl⟩ := low_cons hr (by decide)
            cases t' with
            | nil => rw [textL_esc0] at hu; cases hu
            | cons d t' =>
              rw [textL_esc] at hu
              cases hm : mask d with
              | none => rw [hm] at hu; cases hu
              | some e =>
                rw [hm] at hu
                simp only at hu
                obtain ⟨q, q1, q2⟩ := map_ok hu
                simp only [List.length_cons] at h ⊢
                simp only [Prod.mk.injEq] at q2
                obtain ⟨rfl, rfl⟩ := q2
                obtain ⟨k1, k2, k3⟩ := ih t' q.1 q.2 (by omega) q1
                have he : e < 128 ∧ ctl e = false := by
                  unfold mask at hm
                  split at hm
                  · cases hm; decide
                  · split at hm
                    · rename_i h3; cases hm; rcases h3 with rfl | rfl <;> decide
                    · cases hm
                exact ⟨(good_low he.1).2 ⟨he.2, k1⟩, by omega, by simp only [List.length_cons]; omega⟩
          · rw [textL_go hr hc h1 h2] at hu
            obtain ⟨q, q1, q2⟩ := map_ok hu
            simp only [Prod.mk.injEq] at q2
            obtain ⟨rfl, rfl⟩ := q2
            obtain ⟨k1, k2, k3⟩ := ih (t.drop w) q.1 q.2 (by rw [List.length_drop]; omega) q1
            rw [List.length_drop] at k2
            have hlt : (t.take w).length = w := by rw [List.length_take]; omega
            refine ⟨good_append ⟨?_, ?_⟩ k1, by omega, by rw [List.length_append]; omega⟩
            · have := rl_take (m := []) hr
              rw [List.append_nil] at this
              rw [cnt_go this, List.drop_eq_nil_of_le (by omega), cnt_nil]; simp
            · intro b hb
              by_cases hc' : c < 128
              · obtain ⟨t', rfl, rfl⟩ := low_cons hr hc'
                simp at hb
                subst hb; exact hc
              · exact ctl_high (take_high hr hc' b hb)

/-- How much room shown tokens take at most. -/
def room : List (Int × List Int) → Nat
  | [] => 0
  | t :: ts => t.2.length + 1 + room ts

theorem scan_good {l : List Int} : ∀ ts, scanL l = .ok ts → (∀ t, t ∈ ts → GT t) ∧ room ts ≤ 2 * l.length := by
  refine scanL_ind (motive := fun l r => ∀ ts, r = .ok ts → (∀ t, t ∈ ts → GT t) ∧ room ts ≤ 2 * l.length) ?_ ?_ ?_ ?_ ?_ ?_ ?_ ?_ ?_ ?_ l.length l (Nat.le_refl _)
  · intro ts h; cases h; exact ⟨by simp, Nat.zero_le _⟩
  · intro b t _ ih ts h
    obtain ⟨h1, h2⟩ := ih ts h
    exact ⟨h1, by simp only [List.length_cons]; omega⟩
  · intro t n _ _ ih ts h
    obtain ⟨h1, h2⟩ := ih ts h
    rw [List.length_drop] at h2
    exact ⟨h1, by omega⟩
  · intro t n _ ts h; cases h
  · intro t ih ts h
    obtain ⟨us, h1, rfl⟩ := map_ok h
    obtain ⟨h2, h3⟩ := ih us h1
    refine ⟨fun t ht => ?_, by simp only [room, List.length_cons, List.length_nil]; omega⟩
    rcases List.mem_cons.1 ht with rfl | ht
    · exact .opn
    · exact h2 t ht
  · intro t ih ts h
    obtain ⟨us, h1, rfl⟩ := map_ok h
    obtain ⟨h2, h3⟩ := ih us h1
    refine ⟨fun t ht => ?_, by simp only [room, List.length_cons, List.length_nil]; omega⟩
    rcases List.mem_cons.1 ht with rfl | ht
    · exact .cls
    · exact h2 t ht
  · intro t x n hx ih ts h
    obtain ⟨us, h1, rfl⟩ := map_ok h
    obtain ⟨h2, h3⟩ := ih us h1
    obtain ⟨k1, k2, k3⟩ := text_good _ t x n (Nat.le_refl _) hx
    rw [List.length_drop] at h3
    refine ⟨fun t ht => ?_, by simp only [room, List.length_cons]; omega⟩
    rcases List.mem_cons.1 ht with rfl | ht
    · exact .text x k1
    · exact h2 t ht
  · intro t e _ ts h; cases h
  · intro b t n f hwb hh h0 hl ih ts h
    obtain ⟨us, h1, rfl⟩ := map_ok h
    obtain ⟨h2, h3⟩ := ih us h1
    have hle := headL_le plainB _ (b :: t) (Nat.le_refl _)
    have hcut := headL_cut (p := plainB) _ (b :: t) (Nat.le_refl _)
    rw [hh] at hle hcut
    simp only at hle hcut
    have hlt : ((b :: t).take n).length = n := by rw [List.length_take]; omega
    rw [List.length_drop] at h3
    refine ⟨fun t' ht => ?_, by simp only [room]; omega⟩
    rcases List.mem_cons.1 ht with rfl | ht
    · exact .word _ (by rw [hcut, hlt]) (by intro e; rw [e] at hlt; simp at hlt; omega) hl
    · exact h2 t' ht
  · intro b t e _ _ ts h; cases h

/-- Tokens as text, behind a token of a kind. -/
def body (t : Int × List Int) : List Int := if t.1 = 1 then [40] else if t.1 = 2 then [41] else if t.1 = 4 then 34 :: (quoteL t.2 ++ [34]) else t.2
def showL : Int → List (Int × List Int) → List Int
  | _, [] => []
  | p, t :: ts => (if p ≠ 1 ∧ t.1 ≠ 2 then [32] else []) ++ (body t ++ showL t.1 ts)

theorem show_stops (p : Int) (hp : p = 3) (ts : List (Int × List Int)) : stops plainB (showL p ts) := by
  subst hp
  cases ts with
  | nil => exact .inl rfl
  | cons t ts =>
    rw [showL]
    by_cases h : t.1 = 2
    · rw [if_neg (by simp [h])]
      refine .inr ⟨41, showL t.1 ts, ?_, by decide, rfl⟩
      unfold body
      rw [if_neg (by omega), if_pos h]; rfl
    · rw [if_pos ⟨by decide, h⟩]
      exact .inr ⟨32, _, rfl, by decide, rfl⟩

theorem show_scan : ∀ (ts : List (Int × List Int)) (p : Int), (∀ t, t ∈ ts → GT t) → scanL (showL p ts) = .ok ts := by
  intro ts
  induction ts with
  | nil => intro p _; exact scanL_nil
  | cons t ts ih =>
    intro p hg
    have ht := hg t (by simp)
    have hts := fun q => ih q (fun u hu => hg u (by simp [hu]))
    rw [showL]
    have key : scanL (body t ++ showL t.1 ts) = .ok (t :: ts) := by
      cases ht with
      | opn => show scanL (40 :: showL 1 ts) = _; rw [scanL_open, hts 1]; rfl
      | cls => show scanL (41 :: showL 2 ts) = _; rw [scanL_close, hts 2]; rfl
      | word x h hx hl =>
        show scanL (x ++ showL 3 ts) = _
        have e := headL_app (show_stops 3 rfl ts) _ x x.length (Nat.le_refl _) h
        cases hr : rl x with
        | none => rw [headL_none hx hr] at h; exact absurd (congrArg Prod.snd h) (by simp)
        | some q =>
          obtain ⟨c, w⟩ := q
          have hp : plainB c = true := by
            cases hp : plainB c with
            | true => rfl
            | false =>
              rw [headL_stop hr hp] at h
              have := congrArg Prod.fst h
              simp only at this
              exact absurd (List.eq_nil_of_length_eq_zero this.symm) hx
          obtain ⟨b, t, rfl, hb⟩ := plain_first hr hp
          have e1 : (b :: (t ++ showL 3 ts)).take (b :: t).length = b :: t := by rw [← List.cons_append, List.take_left']; rfl
          have e2 : (b :: (t ++ showL 3 ts)).drop (b :: t).length = showL 3 ts := by rw [← List.cons_append, List.drop_left']; rfl
          rw [List.cons_append] at e
          rw [List.cons_append, scanL_word hb, e]
          simp only
          rw [if_neg (by simp), e1, e2, hl, hts 3]
          rfl
      | text x h =>
        show scanL (34 :: (quoteL x ++ [34]) ++ showL 4 ts) = _
        rw [List.cons_append, List.append_assoc, scanL_text]
        have := text_quote _ x (showL 4 ts) (Nat.le_refl _) h
        rw [show [34] ++ showL 4 ts = 34 :: showL 4 ts from rfl, this]
        simp only
        rw [show quoteL x ++ 34 :: showL 4 ts = (quoteL x ++ [34]) ++ showL 4 ts by simp, List.drop_left' (by simp), hts 4]
        rfl
    split
    · show scanL (32 :: (body t ++ showL t.1 ts)) = _
      rw [scanL_blank (by rfl)]; exact key
    · exact key

theorem show_room : ∀ (ts : List (Int × List Int)) (p : Int), (showL p ts).length ≤ 4 * room ts := by
  intro ts
  induction ts with
  | nil => intro p; simp [showL]
  | cons t ts ih =>
    intro p
    have := ih t.1
    have hq := quoteL_len t.2
    have hb : (body t).length ≤ 2 * t.2.length + 2 := by
      unfold body
      split
      · simp
      · split
        · simp
        · split
          · simp only [List.length_cons, List.length_append, List.length_nil]; omega
          · omega
    rw [showL, List.length_append, List.length_append]
    simp only [room]
    have h1 : (if p ≠ 1 ∧ t.1 ≠ 2 then [(32 : Int)] else []).length ≤ 1 := by split <;> simp
    omega

theorem room_drop {ts : List (Int × List Int)} (t : Int × List Int) : room (t :: ts) = t.2.length + 1 + room ts := rfl

/-- The model of Show. -/
theorem Show_list (l : List T_api_Token) (hr : room (l.map tk) ≤ 1000000) : ∀ (l2 : List T_api_Token) (k : Nat) (s : ByteArray) (p : Int), l.drop k = l2 → (k = 0 → p = 1) → (∀ y, 0 < k → l[k - 1]? = some y → p = y.Kind) → l.length ≤ 1000000 → s.size + 4 * room (l2.map tk) ≤ 4000000 →
    ∃ r, lex_Show.l1 l l2 k s = some r ∧ bytesL r = bytesL s ++ showL p (l2.map tk) := by
  intro l2
  induction l2 with
  | nil =>
    intro k s p hk hp0 hp1 hl hs
    exact ⟨s, rfl, by simp [showL]⟩
  | cons x l2 ih =>
    intro k s p hk hp0 hp1 hl hs
    have hkx : l[k]? = some x := by
      have := congrArg (fun q => q[0]?) hk
      simpa [List.getElem?_drop] using this
    have hkl : k < l.length := (List.getElem?_eq_some_iff.1 hkx).1
    have hd : l.drop (k + 1) = l2 := by rw [← List.drop_drop, hk]; rfl
    rw [List.map_cons, room_drop] at hs
    have hxs : (tk x).2.length = x.Text.size := by simp [tk, bytesL_length]
    have go : ∀ t u : ByteArray, bytesL t = bytesL s ++ (if p ≠ 1 ∧ (tk x).1 ≠ 2 then [32] else []) → bytesL u = body (tk x) → u.size ≤ 2 * x.Text.size + 2 → ∃ r, ((V.cat t u).bind fun v2 => lex_Show.l1 l l2 (k + 1) v2) = some r ∧ bytesL r = bytesL s ++ showL p ((x :: l2).map tk) := by
      intro t u h1 h2 h3
      have ht : t.size ≤ s.size + 1 := by
        have := congrArg List.length h1
        rw [bytesL_length, List.length_append, bytesL_length] at this
        have h4 : (if p ≠ 1 ∧ (tk x).1 ≠ 2 then [(32 : Int)] else []).length ≤ 1 := by split <;> simp
        omega
      rw [cat_ok (by omega)]
      obtain ⟨r, g1, g2⟩ := ih (k + 1) (t ++ u) x.Kind hd (by omega) (fun y _ hy => by
        rw [Nat.add_sub_cancel, hkx] at hy; cases hy; rfl) hl (by rw [ByteArray.size_append]; omega)
      refine ⟨r, g1, ?_⟩
      rw [g2, bytesL_append, h1, h2, List.map_cons, showL]
      simp only [List.append_assoc]
      rfl
    rw [lex_Show.l1]
    have pre : ∃ t : ByteArray, bytesL t = bytesL s ++ (if p ≠ 1 ∧ (tk x).1 ≠ 2 then [32] else []) ∧ (((if (decide ((k : Int) > (0 : Int))) = true then (V.gl l (IntKind.i64.wrap ((k : Int) - (1 : Int)))).bind fun x2 =>
        some (x2.Kind != (1 : Int)) else some false).bind fun c =>
        if (c && (x.Kind != (2 : Int))) = true then
          (V.cat s (⟨#[32]⟩ : ByteArray)).bind fun v => some v
        else some s) = some t) := by
      have hb : (if (decide ((k : Int) > (0 : Int))) = true then (V.gl l (IntKind.i64.wrap ((k : Int) - (1 : Int)))).bind fun x2 => some (x2.Kind != (1 : Int)) else some false) = some (p != 1) := by
        by_cases h0 : k = 0
        · have hp := hp0 h0
          subst h0; subst hp; rfl
        · have hp : l[k - 1]? = some (l[k - 1]'(by omega)) := List.getElem?_eq_getElem _
          rw [if_pos (by simp; omega), gl_nat (n := k - 1) (by rw [w_eq (by omega) (by omega)]; omega), hp, hp1 _ (by omega) hp]
          rfl
      rw [hb]
      simp only [Option.bind_some]
      rw [cat_ok (show s.size + ByteArray.size ⟨#[32]⟩ < _ by have : ByteArray.size ⟨#[32]⟩ = 1 := rfl; omega)]
      by_cases h1 : p = 1
      · exact ⟨s, by simp [h1], by simp [h1]⟩
      · by_cases h2 : x.Kind = 2
        · exact ⟨s, by simp [h1, h2, tk], by simp [h2]⟩
        · refine ⟨s ++ ⟨#[32]⟩, ?_, by simp [h1, h2]⟩
          rw [bytesL_append, if_pos ⟨h1, h2⟩]; rfl
    obtain ⟨t, ht1, ht2⟩ := pre
    rw [ht2]
    simp only [Option.bind_some]
    by_cases c1 : x.Kind = 1
    · rw [if_pos (by simpa using c1)]
      exact go t _ ht1 (by unfold body; rw [if_pos (show (tk x).1 = 1 from c1)]; rfl) (by show 1 ≤ _; omega)
    · rw [if_neg (by simpa using c1)]
      by_cases c2 : x.Kind = 2
      · rw [if_pos (by simpa using c2)]
        exact go t _ ht1 (by unfold body; rw [if_neg (show ¬ (tk x).1 = 1 from c1), if_pos (show (tk x).1 = 2 from c2)]; rfl) (by show 1 ≤ _; omega)
      · rw [if_neg (by simpa using c2)]
        by_cases c3 : x.Kind = 4
        · rw [if_pos (by simpa using c3)]
          obtain ⟨q, q1, q2, q3⟩ := Quote_list (s := x.Text) (by omega)
          rw [q1]
          exact go t q ht1 (by unfold body; rw [if_neg (show ¬ (tk x).1 = 1 from c1), if_neg (show ¬ (tk x).1 = 2 from c2), if_pos (show (tk x).1 = 4 from c3)]; exact q2) q3
        · rw [if_neg (by simpa using c3)]
          exact go t x.Text ht1 (by unfold body; rw [if_neg (show ¬ (tk x).1 = 1 from c1), if_neg (show ¬ (tk x).1 = 2 from c2), if_neg (show ¬ (tk x).1 = 4 from c3)]; rfl) (by omega)

/-- Places rise. -/
def adj (a b : T_api_Token) : Prop := a.At < b.At ∧ a.Line ≤ b.Line ∧ (a.Line = b.Line → a.Col < b.Col)

theorem col_lt {s : ByteArray} {x y : T_lex_scanner} {i j : Nat} {a b : Int} (hx : SI s x i) (hy : SI s y j) (hij : i < j) (hf : y.from_ = x.from_) (ha : colAt s x i a) (hb : colAt s y j b) : a < b := by
  obtain ⟨m, hm, rfl⟩ := ha
  obtain ⟨n, hn, rfl⟩ := hb
  rw [hf] at hn
  obtain ⟨p, hp, hpi, _⟩ := hx.from_
  rw [hp] at hm hn
  simp only [Int.toNat_natCast] at hm hn
  have hj := hy.le
  have e : ((bytesL s).take j).drop p = ((bytesL s).take i).drop p ++ ((bytesL s).take j).drop i := by
    have e1 : (bytesL s).take i = ((bytesL s).take j).take i := by rw [List.take_take, Nat.min_eq_left (by omega)]
    rw [e1]
    generalize (bytesL s).take j = q
    have e2 : q = q.take i ++ q.drop i := (List.take_append_drop i q).symm
    by_cases hq : i ≤ q.length
    · conv => lhs; rw [e2]
      rw [List.drop_append_of_le_length (by rw [List.length_take]; omega)]
    · rw [List.take_of_length_le (by omega), List.drop_eq_nil_of_le (show q.length ≤ i by omega), List.append_nil]
  rw [e, cnt_append _ _ _ m (Nat.le_refl _) hm, Option.map_eq_some_iff] at hn
  obtain ⟨d, hd, rfl⟩ := hn
  have := (cnt_le _ _ d (Nat.le_refl _) hd).2 (by
    intro h0
    have := congrArg List.length h0
    rw [List.length_drop, List.length_take, bytesL_length] at this
    simp at this
    omega)
  omega

theorem Ch_adj {s : ByteArray} {x : T_lex_scanner} {i : Nat} {ts : List T_api_Token} (h : Ch s x i ts) : ∀ (k : Nat) (a b : T_api_Token), ts[k]? = some a → ts[k + 1]? = some b → adj a b := by
  induction h with
  | nil x i => intro k a b ha; simp at ha
  | cons x x0 x' i i0 i' t ts h0 h1 s0 n0 s1 n1 ha hl hc h ih =>
    intro k a b hka hkb
    cases k with
    | succ k => exact ih k a b (by simpa using hka) (by simpa using hkb)
    | zero =>
      simp only [List.getElem?_cons_zero, Option.some.injEq] at hka
      subst hka
      cases h with
      | nil => simp at hkb
      | cons _ y0 _ _ j0 _ u us g0 g1 t0 m0 t1 m1 hb kl kc _ =>
        simp at hkb
        subst hkb
        have hn := nx_trans n1 m0
        refine ⟨by rw [ha, hb]; omega, ?_, ?_⟩
        · rw [hl, kl]
          rcases hn with hn | ⟨hn, _⟩ <;> omega
        · rw [hl, kl]
          intro e
          rcases hn with hn | ⟨hn, hf⟩
          · omega
          · exact col_lt s0 t0 (by omega) hf hc kc

theorem Back_loop {l : List T_api_Token} {r : List T_api_Token × Int × Int} (hr : r.1 = l) (hl : l.length < 1000000000) (ha : ∀ (k : Nat) (a b : T_api_Token), l[k]? = some a → l[k + 1]? = some b → adj a b) : ∀ (k i f : Nat), l.length - i ≤ k → k < f → 1 ≤ i → law01_LexBack.l1 r f (i : Int) = some (Out.go ()) := by
  subst hr
  intro k
  induction k with
  | zero =>
    intro i f h1 h2 h3
    obtain ⟨f, rfl⟩ : ∃ q, f = q + 1 := ⟨f - 1, by omega⟩
    rw [law01_LexBack.l1, if_neg (by simp; omega)]
  | succ k ih =>
    intro i f h1 h2 h3
    obtain ⟨f, rfl⟩ : ∃ q, f = q + 1 := ⟨f - 1, by omega⟩
    by_cases hp : i < r.1.length
    · have hb : r.1[i]? = some r.1[i] := List.getElem?_eq_getElem hp
      have hc : r.1[i - 1]? = some (r.1[i - 1]'(by omega)) := List.getElem?_eq_getElem _
      have had := ha (i - 1) _ _ hc (by rw [show i - 1 + 1 = i by omega]; exact hb)
      have e : IntKind.i64.wrap ((i : Int) + 1) = ((i + 1 : Nat) : Int) := by rw [w_eq (by omega) (by omega)]; omega
      have e2 : V.gl r.1 (IntKind.i64.wrap ((i : Int) - 1)) = some (r.1[i - 1]'(by omega)) := by rw [gl_nat (n := i - 1) (by rw [w_eq (by omega) (by omega)]; omega), hc]
      rw [law01_LexBack.l1, if_pos (by simp; omega), gl_nat rfl, hb]
      simp only [Option.bind_some, e2, e]
      generalize r.1[i - 1]'(by omega) = a at had
      generalize r.1[i] = b at had
      obtain ⟨q1, q2, q3⟩ := had
      rw [if_neg (show ¬ decide (b.At ≤ a.At) = true by simp; omega)]
      simp only [Option.bind_some]
      rw [if_neg (show ¬ decide (b.Line < a.Line) = true by simp; omega)]
      by_cases q4 : b.Line = a.Line
      · rw [if_pos (show (b.Line == a.Line) = true by simpa using q4)]
        simp only [Option.bind_some]
        rw [if_neg (show ¬ decide (b.Col ≤ a.Col) = true by have := q3 q4.symm; simp; omega)]
        exact ih (i + 1) f (by omega) (by omega) (by omega)
      · rw [if_neg (show ¬ (b.Line == a.Line) = true by simpa using q4)]
        simp only [Option.bind_some, Bool.false_eq_true, if_false]
        exact ih (i + 1) f (by omega) (by omega) (by omega)
    · rw [law01_LexBack.l1, if_neg (by simp; omega)]

theorem LexBack_true (s : ByteArray) : law01_LexBack s = some true := by
  unfold law01_LexBack
  rw [known_true]
  by_cases h : (s.size : Int) > 3000
  · simp [h]
  · rw [if_neg (by simpa using h)]
    rcases Scan_ok (s := s) (by omega) with ⟨ts, g1, g2, g3⟩ | ⟨e, he, a, ha, g1, g2⟩
    · rw [g1]
      simp only [Option.bind_some, bne_self_eq_false, Bool.false_eq_true, if_false]
      obtain ⟨k1, k2⟩ := scan_good _ g2
      rw [bytesL_length] at k2
      have hlen := Ch_len g3 (Nat.zero_le _)
      obtain ⟨r, p1, p2⟩ := Show_list ts (by omega) ts 0 ⟨#[]⟩ 1 rfl (fun _ => rfl) (fun y h0 => absurd h0 (by omega)) (by omega) (by have : ByteArray.size ⟨#[]⟩ = 0 := rfl; omega)
      have p1' : lex_Show ts = some r := by unfold lex_Show; rw [p1]; rfl
      have p2' : bytesL r = showL 1 (ts.map tk) := by rw [p2]; rfl
      have hrs : r.size ≤ 65536 := by
        have := show_room (ts.map tk) 1
        rw [← p2', bytesL_length] at this
        omega
      have hsc : scanL (bytesL r) = .ok (ts.map tk) := by rw [p2']; exact show_scan _ 1 k1
      rw [p1']
      simp only [Option.bind_some]
      rcases Scan_ok hrs with ⟨us, q1, q2, q3⟩ | ⟨e, he, a, ha, q1, q2⟩
      · rw [hsc] at q2
        simp only [Res.ok.injEq] at q2
        rw [q1]
        simp only [Option.bind_some, bne_self_eq_false, Bool.false_eq_true, if_false]
        rw [Same_ok q2 (by omega)]
        simp only [Option.bind_some, Bool.not_true, Bool.false_eq_true, if_false]
        have hb : law01_LexBack.l1 (ts, 0, 0) FU 1 = some (Out.go ()) := Back_loop (l := ts) (r := (ts, 0, 0)) rfl (by clear hsc; omega) (Ch_adj g3) ts.length 1 FU (by omega) (by unfold FU; omega) (Nat.le_refl _)
        rw [hb]
        rfl
      · rw [hsc] at q2; cases q2
    · rw [g1]
      simp only [Option.bind_some]
      rw [if_pos (by simpa using he), if_pos (by simp; omega)]
      rfl
end Go.Proofs.Ytfenmdnodoogbaa.M

/-
  Plain laws of lex: tokens as text; the law LexShows. Own text.
-/
import Derived.Test.YtfenmdnodoogbaaPLex2
import Derived.Test.YtfenmdnodoogbaaR1O
namespace Go.Proofs.Ytfenmdnodoogbaa.M
open Go Go.Proofs Go.Proofs.Ytfenmdnodoogbaa.V
set_option linter.unusedVariables false

theorem strOfNums_size (l : List Int) : (strOfNums l).size = l.length := by
  simp [strOfNums, ByteArray.size]

/-- A text is put in quotes alike; and how long it is then. -/
theorem Quote_eq2 {s : ByteArray} (hs : s.size < 17592186044416) : ∃ r, lex_Quote s = some r ∧ ref01_Quote s = some r ∧ r.size ≤ 2 * s.size + 2 := by
  obtain ⟨r, g1, g2, g3⟩ := Quote_loop (s := s) (by omega) s.size 0 [34] FU FU (by omega) (by unfold FU; omega) (by unfold FU; omega) (by omega) (by simp; omega)
  have g1' : lex_Quote.l1 s FU [34] 0 = some r := g1
  have g2' : ref01_Quote.l1 s FU [34] 0 = some r := g2
  have g3' : r.length ≤ 1 + 2 * s.size := by simpa using g3
  have ha : V.ap 1 r [(34 : Int)] = some (r ++ [34]) := by
    unfold V.ap
    rw [if_pos]
    unfold maxLen
    simp
    omega
  unfold lex_Quote ref01_Quote
  rw [g1', g2']
  simp only [Option.bind_some, ha]
  refine ⟨_, rfl, rfl, ?_⟩
  rw [strOfNums_size]; simp; omega

theorem gl_nat {α : Type} {l : List α} {i : Int} {n : Nat} (h : i = (n : Int)) : gl l i = l[n]? := by
  subst h; unfold gl; rw [if_pos (by omega)]; simp

theorem cat_ok {s t : ByteArray} (h : s.size + t.size < 9000000000000000000) : V.cat s t = some (s ++ t) := by
  unfold V.cat; rw [if_pos]; unfold maxLen; omega

/-- Tokens are shown alike. -/
theorem Show_loop (l : List T_api_Token) (hl : l.length ≤ 200) (ht : ∀ x, x ∈ l → x.Text.size ≤ 200) : ∀ (l2 : List T_api_Token) (k : Nat) (s : ByteArray) (f : Nat), l.drop k = l2 → l2.length < f → s.size + 403 * l2.length ≤ 100000 →
    ∃ r, lex_Show.l1 l l2 k s = some r ∧ ref01_Show.l1 l f s (k : Int) = some r := by
  intro l2
  induction l2 with
  | nil =>
    intro k s f hk hf hs
    obtain ⟨f, rfl⟩ : ∃ q, f = q + 1 := ⟨f - 1, by simp at hf; omega⟩
    have : l.length ≤ k := List.drop_eq_nil_iff.1 hk
    exact ⟨s, rfl, by rw [ref01_Show.l1, if_neg (by simp; omega)]⟩
  | cons x l2 ih =>
    intro k s f hk hf hs
    obtain ⟨f, rfl⟩ : ∃ q, f = q + 1 := ⟨f - 1, by simp at hf; omega⟩
    have hkx : l[k]? = some x := by
      have := congrArg (fun q => q[0]?) hk
      simpa [List.getElem?_drop] using this
    have hkl : k < l.length := (List.getElem?_eq_some_iff.1 hkx).1
    have hd : l.drop (k + 1) = l2 := by rw [← List.drop_drop, hk]; rfl
    have hx := ht x (List.mem_of_getElem? hkx)
    have hw : IntKind.i64.wrap ((k : Int) + 1) = ((k + 1 : Nat) : Int) := by rw [w_eq (by omega) (by omega)]; omega
    have hg : gl l (k : Int) = some x := by rw [gl_nat rfl, hkx]
    have hdl : (decide ((k : Int) < (l.length : Int))) = true := by simp; omega
    simp only [List.length_cons] at hf hs
    have go : ∀ t u : ByteArray, t.size ≤ s.size + 1 → u.size ≤ 402 → ∃ r, ((V.cat t u).bind fun v2 => lex_Show.l1 l l2 (k + 1) v2) = some r ∧ ((V.cat t u).bind fun v2 => ref01_Show.l1 l f v2 ((k + 1 : Nat) : Int)) = some r := by
      intro t u h1 h2
      rw [cat_ok (by omega)]
      exact ih (k + 1) (t ++ u) f hd (by omega) (by rw [ByteArray.size_append]; omega)
    rw [lex_Show.l1, ref01_Show.l1, if_pos hdl]
    -- the blank ahead
    have pre : ∃ t : ByteArray, t.size ≤ s.size + 1 ∧ (((if (decide ((k : Int) > (0 : Int))) = true then (V.gl l (IntKind.i64.wrap ((k : Int) - (1 : Int)))).bind fun x2 =>
        some (x2.Kind != (1 : Int)) else some false).bind fun c =>
        if (c && (x.Kind != (2 : Int))) = true then
          (V.cat s (⟨#[32]⟩ : ByteArray)).bind fun v => some v
        else some s) = some t) ∧ (((if (decide ((k : Int) > (0 : Int))) = true then (V.gl l (IntKind.i64.wrap ((k : Int) - (1 : Int)))).bind fun x =>
        some (x.Kind != (1 : Int)) else some false).bind fun c =>
        (if c = true then (V.gl l (k : Int)).bind fun x2 => some (x2.Kind != (2 : Int)) else some false).bind fun c2 =>
        if c2 = true then
          (V.cat s (⟨#[32]⟩ : ByteArray)).bind fun v => some v
        else some s) = some t) := by
      have hb : ∃ c, (if (decide ((k : Int) > (0 : Int))) = true then (V.gl l (IntKind.i64.wrap ((k : Int) - (1 : Int)))).bind fun x2 => some (x2.Kind != (1 : Int)) else some false) = some c := by
        by_cases h0 : k = 0
        · subst h0; exact ⟨false, rfl⟩
        · have hp : l[k - 1]? = some (l[k - 1]'(by omega)) := List.getElem?_eq_getElem _
          rw [if_pos (by simp; omega), gl_nat (n := k - 1) (by rw [w_eq (by omega) (by omega)]; omega), hp]
          exact ⟨_, rfl⟩
      obtain ⟨c, hc⟩ := hb
      rw [hc]
      simp only [Option.bind_some, hg]
      rw [cat_ok (show s.size + ByteArray.size ⟨#[32]⟩ < _ by have : ByteArray.size ⟨#[32]⟩ = 1 := rfl; omega)]
      cases c with
      | false => exact ⟨s, by omega, by simp, by simp⟩
      | true =>
        by_cases h2 : (x.Kind != 2) = true
        · refine ⟨s ++ ⟨#[32]⟩, ?_, by simp [h2], by simp [h2]⟩
          rw [ByteArray.size_append]; exact Nat.le_refl _
        · refine ⟨s, by omega, by simp [h2], by simp [h2]⟩
    obtain ⟨t, ht1, ht2, ht3⟩ := pre
    rw [ht2, ht3]
    simp only [Option.bind_some, hg, hw]
    by_cases c1 : (x.Kind == 1) = true
    · simp only [c1, if_true]; exact go _ _ ht1 (by show 1 ≤ 402; omega)
    · simp only [c1]
      by_cases c2 : (x.Kind == 2) = true
      · simp only [c2, if_true]; exact go _ _ ht1 (by show 1 ≤ 402; omega)
      · simp only [c2]
        by_cases c3 : (x.Kind == 4) = true
        · obtain ⟨q, q1, q2, q3⟩ := Quote_eq2 (s := x.Text) (by omega)
          simp only [c3, if_true, q1, q2, Option.bind_some]
          exact go _ _ ht1 (by omega)
        · simp only [c3]
          exact go _ _ ht1 (by omega)

theorem LexShows_loop (l : List T_api_Token) (hl : l.length ≤ 200) : ∀ (m k f : Nat), l.length - k ≤ m → m < f → (∃ r, law01_LexShows.l1 l f (k : Int) = some (Out.ret r) ∧ law01_known = some r) ∨
    (law01_LexShows.l1 l f (k : Int) = some (Out.go ()) ∧ ∀ j x, k ≤ j → l[j]? = some x → x.Text.size ≤ 200) := by
  intro m
  induction m with
  | zero =>
    intro k f h1 h2
    obtain ⟨f, rfl⟩ : ∃ q, f = q + 1 := ⟨f - 1, by omega⟩
    refine .inr ⟨by rw [law01_LexShows.l1, if_neg (by simp; omega)], fun j x hj hx => ?_⟩
    have := (List.getElem?_eq_some_iff.1 hx).1; omega
  | succ m ih =>
    intro k f h1 h2
    obtain ⟨f, rfl⟩ : ∃ q, f = q + 1 := ⟨f - 1, by omega⟩
    by_cases hk : k < l.length
    · have hx : l[k]? = some l[k] := List.getElem?_eq_getElem hk
      have hw : IntKind.i64.wrap ((k : Int) + 1) = ((k + 1 : Nat) : Int) := by rw [w_eq (by omega) (by omega)]; omega
      rw [law01_LexShows.l1, if_pos (by simp; omega), gl_nat rfl, hx]
      simp only [Option.bind_some, hw]
      by_cases hs : (l[k].Text.size : Int) > 200
      · rw [if_pos (by simpa using hs)]
        exact .inl ⟨true, by rw [known_true]; rfl, known_true⟩
      · rw [if_neg (by simpa using hs)]
        rcases ih (k + 1) f (by omega) (by omega) with h | ⟨g1, g2⟩
        · exact .inl h
        · refine .inr ⟨g1, fun j x hj hx' => ?_⟩
          by_cases e : j = k
          · subst e; rw [hx] at hx'; cases hx'; omega
          · exact g2 j x (by omega) hx'
    · refine .inr ⟨by rw [law01_LexShows.l1, if_neg (by simp; omega)], fun j x hj hx => ?_⟩
      have := (List.getElem?_eq_some_iff.1 hx).1; omega

theorem LexShows_true (l : List T_api_Token) (_ : l.length ≤ maxLen ∧ ∀ a, a ∈ l → T_api_Token.ok a) : law01_LexShows l = some true := by
  unfold law01_LexShows
  by_cases h : (l.length : Int) > 200
  · rw [if_pos (by simpa using h), known_true]; rfl
  · rw [if_neg (by simpa using h)]
    rcases LexShows_loop l (by omega) l.length 0 FU (by omega) (by unfold FU; omega) with ⟨r, g1, g2⟩ | ⟨g1, g2⟩
    · have g1' : law01_LexShows.l1 l FU 0 = some (Out.ret r) := g1
      rw [known_true] at g2
      cases g2
      rw [g1']; rfl
    · have g1' : law01_LexShows.l1 l FU 0 = some (Out.go ()) := g1
      rw [g1']
      obtain ⟨r, r1, r2⟩ := Show_loop l (by omega) (fun x hx => by obtain ⟨j, hj⟩ := List.getElem?_of_mem hx; exact g2 j x (Nat.zero_le _) hj) l 0 ⟨#[]⟩ FU rfl (by unfold FU; omega) (by have : ByteArray.size ⟨#[]⟩ = 0 := rfl; omega)
      have r2' : ref01_Show.l1 l FU ⟨#[]⟩ 0 = some r := r2
      unfold lex_Show ref01_Show
      rw [r1, r2', known_true]
      simp [Out.on]
end Go.Proofs.Ytfenmdnodoogbaa.M

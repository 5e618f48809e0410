/-
  Plain laws of lex: a text's bytes as a list, runes there, and what a scan is, place-free. Own text.
-/
import Derived.Test.YtbnohlgchjcjhaaPL3
namespace Go.Proofs.Ytbnohlgchjcjhaa.M
open Go Go.Proofs Go.Proofs.Ytbnohlgchjcjhaa.V
set_option linter.unusedVariables false

def cont (b : Int) : Bool := decide (128 ≤ b) && decide (b < 192)
def gol (t : List Int) (i : Nat) : Bool := match t[i]? with | some b => cont b | none => false
def rl : List Int → Option (Int × Nat)
  | [] => none
  | b0 :: t => runeN b0 (t.getD 0 0) (t.getD 1 0) (t.getD 2 0) (gol t 0) (gol t 1) (gol t 2)

theorem rl_cons (b0 : Int) (t : List Int) : rl (b0 :: t) = runeN b0 (t.getD 0 0) (t.getD 1 0) (t.getD 2 0) (gol t 0) (gol t 1) (gol t 2) := rfl

/-- Bytes. -/
def By (l : List Int) : Prop := ∀ b, b ∈ l → 0 ≤ b ∧ b < 256

theorem bytesL_length (s : ByteArray) : (bytesL s).length = s.size := by unfold bytesL; rw [List.length_map, Array.length_toList]; rfl
theorem bytesL_get {s : ByteArray} {i : Nat} (h : i < s.size) : (bytesL s)[i]? = some (bt s i) := by
  have h' : i < s.data.toList.length := by simpa using h
  unfold bytesL bt
  rw [List.getElem?_map, List.getElem?_eq_getElem h', List.getD_eq_getElem?_getD, List.getElem?_eq_getElem h']
  rfl
theorem bytesL_none {s : ByteArray} {i : Nat} (h : ¬ i < s.size) : (bytesL s)[i]? = none := List.getElem?_eq_none (by rw [bytesL_length]; omega)
theorem bt_out {s : ByteArray} {i : Nat} (h : ¬ i < s.size) : bt s i = 0 := by
  have h' : ¬ i < s.data.toList.length := by simpa using h
  unfold bt
  rw [List.getD_eq_getElem?_getD, List.getElem?_eq_none (by omega)]
  rfl
theorem bytesL_getD (s : ByteArray) (i : Nat) : (bytesL s).getD i 0 = bt s i := by
  rw [List.getD_eq_getElem?_getD]
  by_cases h : i < s.size
  · rw [bytesL_get h]; rfl
  · rw [bytesL_none h, bt_out h]; rfl
theorem bytesL_by (s : ByteArray) : By (bytesL s) := by
  intro b hb
  obtain ⟨i, hi⟩ := List.getElem?_of_mem hb
  have hl : i < s.size := by
    have := (List.getElem?_eq_some_iff.1 hi).1
    rwa [bytesL_length] at this
  rw [bytesL_get hl] at hi
  cases hi
  exact bt_range s i
theorem By.drop {l : List Int} (h : By l) (n : Nat) : By (l.drop n) := fun b hb => h b (List.mem_of_mem_drop hb)
theorem By.take {l : List Int} (h : By l) (n : Nat) : By (l.take n) := fun b hb => h b (List.mem_of_mem_take hb)
theorem By.tail {b : Int} {l : List Int} (h : By (b :: l)) : By l := fun x hx => h x (List.mem_cons_of_mem _ hx)
theorem By.append {l m : List Int} (h : By l) (h' : By m) : By (l ++ m) := fun b hb => by
  rcases List.mem_append.1 hb with q | q
  · exact h b q
  · exact h' b q

theorem drop_cons_bt {s : ByteArray} {i : Nat} (h : i < s.size) : (bytesL s).drop i = bt s i :: (bytesL s).drop (i + 1) := by
  have hl : i < (bytesL s).length := by rw [bytesL_length]; exact h
  rw [List.drop_eq_getElem_cons hl]
  congr 1
  have := bytesL_get h
  rw [List.getElem?_eq_getElem hl, Option.some.injEq] at this
  exact this

theorem rune_rl {s : ByteArray} {i : Nat} (h : i < s.size) : rune s i = rl ((bytesL s).drop i) := by
  have hg : ∀ j, gol ((bytesL s).drop (i + 1)) j = goes s (i + 1 + j) := by
    intro j
    unfold gol goes cont
    rw [List.getElem?_drop]
    by_cases h' : i + 1 + j < s.size
    · rw [bytesL_get h']; simp [h']
    · rw [bytesL_none h']; simp [h']
  have hd : ∀ j, ((bytesL s).drop (i + 1)).getD j 0 = bt s (i + 1 + j) := by
    intro j
    rw [List.getD_eq_getElem?_getD, List.getElem?_drop, ← List.getD_eq_getElem?_getD, bytesL_getD]
  rw [drop_cons_bt h, rl_cons, hg, hg, hg, hd, hd, hd]
  rfl

/-- What a rune hangs on. -/
theorem runeN_some {b0 b1 b2 b3 c : Int} {p1 p2 p3 : Bool} {w : Nat} (h : runeN b0 b1 b2 b3 p1 p2 p3 = some (c, w)) :
    (b0 < 128 ∧ c = b0 ∧ w = 1) ∨ (192 ≤ b0 ∧ 128 ≤ c ∧ w = 2 ∧ p1 = true ∧ ∀ b2' b3' p2' p3', runeN b0 b1 b2' b3' p1 p2' p3' = some (c, 2)) ∨
    (192 ≤ b0 ∧ 128 ≤ c ∧ w = 3 ∧ p1 = true ∧ p2 = true ∧ ∀ b3' p3', runeN b0 b1 b2 b3' p1 p2 p3' = some (c, 3)) ∨ (192 ≤ b0 ∧ 128 ≤ c ∧ w = 4 ∧ p1 = true ∧ p2 = true ∧ p3 = true) := by
  unfold runeN at h ⊢
  split at h
  · simp only [Option.some.injEq, Prod.mk.injEq] at h; exact .inl ⟨by assumption, h.1.symm, h.2.symm⟩
  rename_i q0
  split at h
  · rename_i q
    split at h
    · rename_i q'
      simp only [Option.some.injEq, Prod.mk.injEq] at h
      refine .inr (.inl ⟨by omega, by omega, h.2.symm, q.2.2, fun _ _ _ _ => ?_⟩)
      rw [if_neg q0, if_pos q, if_pos q', h.1]
    · cases h
  rename_i q1
  split at h
  · rename_i q
    split at h
    · rename_i q'
      simp only [Option.some.injEq, Prod.mk.injEq] at h
      refine .inr (.inr (.inl ⟨by omega, by omega, h.2.symm, q.2.2.1, q.2.2.2, fun _ _ => ?_⟩))
      rw [if_neg q0, if_neg q1, if_pos q, if_pos q', h.1]
    · cases h
  rename_i q2
  split at h
  · rename_i q
    split at h
    · rename_i q'
      simp only [Option.some.injEq, Prod.mk.injEq] at h
      exact .inr (.inr (.inr ⟨by omega, by omega, h.2.symm, q.2.2.1, q.2.2.2.1, q.2.2.2.2⟩))
    · cases h
  · cases h

theorem runeN_two {b0 b1 b2 b3 b2' b3' c : Int} {p1 p2 p3 p2' p3' : Bool} (h : runeN b0 b1 b2 b3 p1 p2 p3 = some (c, 2)) : runeN b0 b1 b2' b3' p1 p2' p3' = some (c, 2) := by
  rcases runeN_some h with h | h | h | h
  · omega
  · exact h.2.2.2.2 _ _ _ _
  · omega
  · omega

theorem gol_lt {t : List Int} {i : Nat} (h : gol t i = true) : ∃ b, t[i]? = some b ∧ 128 ≤ b ∧ b < 192 := by
  unfold gol at h
  split at h
  · rename_i b hb
    unfold cont at h
    simp at h
    exact ⟨b, hb, h⟩
  · cases h

/-- A rune's bytes: itself, where it is one byte; else none below 128. -/
theorem rl_some {l : List Int} {c : Int} {w : Nat} (h : rl l = some (c, w)) : 1 ≤ w ∧ w ≤ l.length ∧
    ((∃ t, l = c :: t ∧ c < 128 ∧ w = 1) ∨ (128 ≤ c ∧ 2 ≤ w ∧ (∃ b0 t, l = b0 :: t ∧ 192 ≤ b0) ∧ ∀ j b, j < w → l[j]? = some b → 128 ≤ b)) := by
  cases l with
  | nil => cases h
  | cons b0 t =>
    have key : ∀ n, (∀ j, j < n → gol t j = true) → n ≤ t.length ∧ ∀ j b, j < n → t[j]? = some b → 128 ≤ b := by
      intro n hn
      refine ⟨?_, fun j b hj hb => ?_⟩
      · cases n with
        | zero => exact Nat.zero_le _
        | succ n =>
          obtain ⟨b, hb, _⟩ := gol_lt (hn n (Nat.lt_succ_self _))
          have := (List.getElem?_eq_some_iff.1 hb).1
          omega
      · obtain ⟨b', hb', h1, h2⟩ := gol_lt (hn j hj)
        rw [hb] at hb'
        cases hb'
        exact h1
    have fin : ∀ n, 192 ≤ b0 → (∀ j, j < n → gol t j = true) → n + 1 ≤ (b0 :: t).length ∧ ∀ j b, j < n + 1 → (b0 :: t)[j]? = some b → 128 ≤ b := by
      intro n h0 hn
      obtain ⟨k1, k2⟩ := key n hn
      refine ⟨by simp only [List.length_cons]; omega, fun j b hj hb => ?_⟩
      cases j with
      | zero => simp at hb; omega
      | succ j => exact k2 j b (by omega) (by simpa using hb)
    rw [rl_cons] at h
    rcases runeN_some h with ⟨h1, rfl, rfl⟩ | ⟨h1, h2, rfl, g1, _⟩ | ⟨h1, h2, rfl, g1, g2, _⟩ | ⟨h1, h2, rfl, g1, g2, g3⟩
    · exact ⟨Nat.le_refl _, by simp, .inl ⟨t, rfl, h1, rfl⟩⟩
    · obtain ⟨k1, k2⟩ := fin 1 h1 (fun j hj => by obtain rfl : j = 0 := by omega
                                                  exact g1)
      exact ⟨by omega, k1, .inr ⟨h2, by omega, ⟨b0, t, rfl, h1⟩, k2⟩⟩
    · obtain ⟨k1, k2⟩ := fin 2 h1 (fun j hj => by rcases (show j = 0 ∨ j = 1 by omega) with rfl | rfl
                                                  · exact g1
                                                  · exact g2)
      exact ⟨by omega, k1, .inr ⟨h2, by omega, ⟨b0, t, rfl, h1⟩, k2⟩⟩
    · obtain ⟨k1, k2⟩ := fin 3 h1 (fun j hj => by rcases (show j = 0 ∨ j = 1 ∨ j = 2 by omega) with rfl | rfl | rfl
                                                  · exact g1
                                                  · exact g2
                                                  · exact g3)
      exact ⟨by omega, k1, .inr ⟨h2, by omega, ⟨b0, t, rfl, h1⟩, k2⟩⟩

/-- A rune stands, whatever comes behind it. -/
theorem rl_take {l m : List Int} {c : Int} {w : Nat} (h : rl l = some (c, w)) : rl (l.take w ++ m) = some (c, w) := by
  have hw := rl_some h
  cases l with
  | nil => cases h
  | cons b0 t =>
    rw [rl_cons] at h
    rcases runeN_some h with ⟨h1, rfl, rfl⟩ | ⟨h1, h2, rfl, g1, k⟩ | ⟨h1, h2, rfl, g1, g2, k⟩ | ⟨h1, h2, rfl, g1, g2, g3⟩
    · simp only [List.take_succ_cons, List.take_zero, List.cons_append, List.nil_append]
      rw [rl_cons, runeN, if_pos h1]
    · obtain ⟨b1, hb, _⟩ := gol_lt g1
      obtain ⟨b1', t, rfl⟩ : ∃ b t', t = b :: t' := by cases t with | nil => simp at hb | cons b t' => exact ⟨b, t', rfl⟩
      simp only [List.take_succ_cons, List.take_zero, List.cons_append, List.nil_append]
      rw [rl_cons]
      simpa [gol] using k _ _ _ _
    · obtain ⟨b2, hb, _⟩ := gol_lt g2
      obtain ⟨b1', b2', t, rfl⟩ : ∃ b b' t', t = b :: b' :: t' := by
        match t, hb with
        | b :: b' :: t', _ => exact ⟨b, b', t', rfl⟩
      simp only [List.take_succ_cons, List.take_zero, List.cons_append, List.nil_append]
      rw [rl_cons]
      simpa [gol] using k _ _
    · obtain ⟨b3, hb, _⟩ := gol_lt g3
      obtain ⟨b1', b2', b3', t, rfl⟩ : ∃ b b' b'' t', t = b :: b' :: b'' :: t' := by
        match t, hb with
        | b :: b' :: b'' :: t', _ => exact ⟨b, b', b'', t', rfl⟩
      simp only [List.take_succ_cons, List.take_zero, List.cons_append, List.nil_append]
      rw [rl_cons]
      simpa [gol] using h

theorem rl_append {l m : List Int} {c : Int} {w : Nat} (h : rl l = some (c, w)) : rl (l ++ m) = some (c, w) := by
  have := rl_take (m := l.drop w ++ m) h
  rwa [← List.append_assoc, List.take_append_drop] at this

theorem rl_ascii {b : Int} {t : List Int} (h : b < 128) : rl (b :: t) = some (b, 1) := by
  rw [rl_cons, runeN, if_pos h]

theorem rl_none {b : Int} {t : List Int} (h : rl (b :: t) = none) : 128 ≤ b := by
  by_cases hb : b < 128
  · rw [rl_ascii hb] at h; cases h
  · omega

/-- A rune hangs on its first byte, and on those that go on with it. -/
theorem rl_cont {b : Int} {t t' : List Int} (h : t.takeWhile cont = t'.takeWhile cont) : rl (b :: t) = rl (b :: t') := by
  have key : ∀ (u : List Int), (gol u 0 = gol (u.takeWhile cont) 0) ∧ (gol u 0 = true → gol u 1 = gol (u.takeWhile cont) 1) ∧ (gol u 0 = true → gol u 1 = true → gol u 2 = gol (u.takeWhile cont) 2) ∧
      (gol u 0 = true → u.getD 0 0 = (u.takeWhile cont).getD 0 0) ∧ (gol u 0 = true → gol u 1 = true → u.getD 1 0 = (u.takeWhile cont).getD 1 0) ∧ (gol u 0 = true → gol u 1 = true → gol u 2 = true → u.getD 2 0 = (u.takeWhile cont).getD 2 0) := by
    intro u
    match u with
    | [] => simp [gol]
    | [a] => by_cases ha : cont a = true <;> simp [gol, ha]
    | [a, b] => by_cases ha : cont a = true <;> by_cases hb : cont b = true <;> simp [gol, ha, hb]
    | a :: b :: c :: u => by_cases ha : cont a = true <;> by_cases hb : cont b = true <;> by_cases hc : cont c = true <;> simp [gol, ha, hb, hc]
  obtain ⟨a1, a2, a3, a4, a5, a6⟩ := key t
  obtain ⟨b1, b2, b3, b4, b5, b6⟩ := key t'
  rw [← h] at b1 b2 b3 b4 b5 b6
  have e0 : gol t 0 = gol t' 0 := a1.trans b1.symm
  rw [rl_cons, rl_cons]
  unfold runeN
  by_cases h0 : gol t 0 = true
  · have h0' : gol t' 0 = true := e0 ▸ h0
    have e1 : gol t 1 = gol t' 1 := (a2 h0).trans (b2 h0').symm
    have f0 : t.getD 0 0 = t'.getD 0 0 := (a4 h0).trans (b4 h0').symm
    rw [f0]
    by_cases h1 : gol t 1 = true
    · have h1' : gol t' 1 = true := e1 ▸ h1
      have e2 : gol t 2 = gol t' 2 := (a3 h0 h1).trans (b3 h0' h1').symm
      have f1 : t.getD 1 0 = t'.getD 1 0 := (a5 h0 h1).trans (b5 h0' h1').symm
      rw [f1]
      by_cases h2 : gol t 2 = true
      · have h2' : gol t' 2 = true := e2 ▸ h2
        have f2 : t.getD 2 0 = t'.getD 2 0 := (a6 h0 h1 h2).trans (b6 h0' h1' h2').symm
        rw [f2, h0, h0', h1, h1', h2, h2']
      · have h2f : gol t 2 = false := by simpa using h2
        have h2f' : gol t' 2 = false := by rw [← e2]; exact h2f
        rw [h0, h0', h1, h1', h2f, h2f']
        simp
    · have h1f : gol t 1 = false := by simpa using h1
      have h1f' : gol t' 1 = false := by rw [← e1]; exact h1f
      rw [h0, h0', h1f, h1f']
      simp
  · have h0f : gol t 0 = false := by simpa using h0
    have h0f' : gol t' 0 = false := by rw [← e0]; exact h0f
    rw [h0f, h0f']
    simp

/-! what a scan is -/
/-- How many bytes of a kind a text begins with; false: no right rune stands behind them. -/
def headL (p : Int → Bool) : List Int → Nat × Bool
  | [] => (0, true)
  | b :: t => match rl (b :: t) with
    | none => (0, false)
    | some (c, w) => if p c = true then ((headL p (t.drop (w - 1))).1 + w, (headL p (t.drop (w - 1))).2) else (0, true)
termination_by l => l.length
decreasing_by all_goals (simp only [List.length_drop, List.length_cons]; omega)

/-- How many runes; none: one is not right. -/
def cnt : List Int → Option Nat
  | [] => some 0
  | b :: t => match rl (b :: t) with
    | none => none
    | some (_, w) => (cnt (t.drop (w - 1))).map (· + 1)
termination_by l => l.length
decreasing_by all_goals (simp only [List.length_drop, List.length_cons]; omega)

def ctl (c : Int) : Bool := (decide (c < 32) && c != 9 && c != 10) || c == 127
def plainB (c : Int) : Bool := decide (c > 32) && c != 127 && c != 40 && c != 41 && c != 34 && c != 59
def blankB (c : Int) : Bool := c == 32 || c == 9 || c == 10 || c == 13
/-- Too long for a word. -/
def longB (o : Option Nat) : Bool := match o with | some k => decide (64 < k) | none => false
def nlB (c : Int) : Bool := c != 10
def mask (c : Int) : Option Int := if c = 110 then some 10 else if c = 34 ∨ c = 92 then some c else none

inductive Res (α : Type) where
  | ok (a : α)
  | err (e : Int)
def Res.map {α β : Type} (f : α → β) : Res α → Res β | .ok a => .ok (f a) | .err e => .err e

/-- A text in quotes, behind the first one: what it is, and how many bytes it takes. -/
def textL : List Int → Res (List Int × Nat)
  | [] => .err 3
  | b :: t => match rl (b :: t) with
    | none => .err 2
    | some (c, w) =>
      if ctl c = true then .err 2 else if c = 34 then .ok ([], 1)
      else if c = 92 then (match t with
        | [] => .err 2
        | d :: t' => match mask d with | none => .err 2 | some e => (textL t').map fun q => (e :: q.1, q.2 + 2))
      else (textL (t.drop (w - 1))).map fun q => ((b :: t).take w ++ q.1, q.2 + w)
termination_by l => l.length
decreasing_by all_goals (simp only [List.length_drop, List.length_cons]; omega)

/-- A text's tokens, as kinds and texts; or what is wrong. -/
def scanL : List Int → Res (List (Int × List Int))
  | [] => .ok []
  | b :: t =>
    if blankB b = true then scanL t
    else if b = 59 then (if (headL nlB (b :: t)).2 = true then scanL (t.drop ((headL nlB (b :: t)).1 - 1)) else .err 2)
    else if b = 40 then (scanL t).map ((1, [40]) :: ·)
    else if b = 41 then (scanL t).map ((2, [41]) :: ·)
    else if b = 34 then (match textL t with | .err e => .err e | .ok (x, n) => (scanL (t.drop n)).map ((4, x) :: ·))
    else if (headL plainB (b :: t)).1 = 0 then .err 2
    else if longB (cnt ((b :: t).take (headL plainB (b :: t)).1)) = true then .err 4
    else (scanL (t.drop ((headL plainB (b :: t)).1 - 1))).map ((3, (b :: t).take (headL plainB (b :: t)).1) :: ·)
termination_by l => l.length
decreasing_by all_goals (simp only [List.length_drop, List.length_cons]; omega)
end Go.Proofs.Ytbnohlgchjcjhaa.M

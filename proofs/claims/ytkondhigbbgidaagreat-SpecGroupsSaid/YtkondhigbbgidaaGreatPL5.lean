/-
  Printed by a program of this session out of the loaded functions: models and their proofs. Own text.
-/
import Derived.Test.YtkondhigbbgidaaGreatPL2
/-
  Plain laws of lex: tokens as text; the law LexShows. Own text.
-/
namespace Go.Proofs.YtkondhigbbgidaaGreat.M
open Go Go.Proofs Go.Proofs.YtkondhigbbgidaaGreat.V
set_option linter.unusedVariables false
set_option linter.unusedSimpArgs false
theorem strOfNums_size (l : List Int) : (strOfNums l).size = l.length:=by
 simp [strOfNums,ByteArray.size]
end Go.Proofs.YtkondhigbbgidaaGreat.M
/-
  Plain laws of lex: a text's bytes as a list, runes there, and what a scan is, place-free. Own text.
-/
namespace Go.Proofs.YtkondhigbbgidaaGreat.M
open Go Go.Proofs Go.Proofs.YtkondhigbbgidaaGreat.V
set_option linter.unusedVariables false
set_option linter.unusedSimpArgs false
def cont (b : Int) : Bool := decide (128 ≤ b) && decide (b < 192)
def gol (t : List Int) (i : Nat) : Bool := match t[i]? with | some b => cont b | none => false
def rl : List Int → Option (Int × Nat)
  | [] => none
  | b0 :: t => runeN b0 (t.getD 0 0) (t.getD 1 0) (t.getD 2 0) (gol t 0) (gol t 1) (gol t 2)
theorem rl_cons (b0 : Int) (t : List Int) : rl (b0 :: t) = runeN b0 (t.getD 0 0) (t.getD 1 0) (t.getD 2 0) (gol t 0) (gol t 1) (gol t 2) := rfl
def By (l : List Int) : Prop := ∀ b, b ∈ l → 0 ≤ b ∧ b < 256
theorem bytesL_length (s : ByteArray) : (bytesL s).length = s.size := by unfold bytesL; rw [List.length_map, Array.length_toList]; rfl
theorem bytesL_get {s : ByteArray} {i : Nat} (h : i < s.size) : (bytesL s)[i]? = some (bt s i) := by
  have h' : i < s.data.toList.length := by simpa using h
  unfold bytesL bt
  rw [List.getElem?_map, List.getElem?_eq_getElem h', List.getD_eq_getElem?_getD, List.getElem?_eq_getElem h']
  rfl
theorem bytesL_none {s : ByteArray} {i : Nat} (h : ¬ i < s.size) : (bytesL s)[i]? = none := List.getElem?_eq_none (by rw [bytesL_length]; omega)
theorem bt_out {s : ByteArray} {i : Nat} (h : ¬ i < s.size) : bt s i = 0 := by
  have h' : ¬ i < s.data.toList.length := by simpa using h
  unfold bt
  rw [List.getD_eq_getElem?_getD, List.getElem?_eq_none (by omega)]
  rfl
theorem bytesL_getD (s : ByteArray) (i : Nat) : (bytesL s).getD i 0 = bt s i := by
  rw [List.getD_eq_getElem?_getD]
  by_cases h : i < s.size
  · rw [bytesL_get h]; rfl
  · rw [bytesL_none h, bt_out h]; rfl
theorem bytesL_by (s : ByteArray) : By (bytesL s) := by
  intro b hb
  obtain ⟨i, hi⟩ := List.getElem?_of_mem hb
  have hl : i < s.size := by
    have := (List.getElem?_eq_some_iff.1 hi).1
    rwa [bytesL_length] at this
  rw [bytesL_get hl] at hi
  cases hi
  exact bt_range s i
theorem By.drop {l : List Int} (h : By l) (n : Nat) : By (l.drop n) := fun b hb => h b (List.mem_of_mem_drop hb)
theorem By.take {l : List Int} (h : By l) (n : Nat) : By (l.take n) := fun b hb => h b (List.mem_of_mem_take hb)
theorem By.tail {b : Int} {l : List Int} (h : By (b :: l)) : By l := fun x hx => h x (List.mem_cons_of_mem _ hx)
theorem By.append {l m : List Int} (h : By l) (h' : By m) : By (l ++ m) := fun b hb => by
  rcases List.mem_append.1 hb with q | q
  · exact h b q
  · exact h' b q
theorem drop_cons_bt {s : ByteArray} {i : Nat} (h : i < s.size) : (bytesL s).drop i = bt s i :: (bytesL s).drop (i + 1) := by
  have hl : i < (bytesL s).length := by rw [bytesL_length]; exact h
  rw [List.drop_eq_getElem_cons hl]
  congr 1
  have := bytesL_get h
  rw [List.getElem?_eq_getElem hl, Option.some.injEq] at this
  exact this
theorem rune_rl {s : ByteArray} {i : Nat} (h : i < s.size) : rune s i = rl ((bytesL s).drop i) := by
  have hg : ∀ j, gol ((bytesL s).drop (i + 1)) j = goes s (i + 1 + j) := by
    intro j
    unfold gol goes cont
    rw [List.getElem?_drop]
    by_cases h' : i + 1 + j < s.size
    · rw [bytesL_get h']; simp [h']
    · rw [bytesL_none h']; simp [h']
  have hd : ∀ j, ((bytesL s).drop (i + 1)).getD j 0 = bt s (i + 1 + j) := by
    intro j
    rw [List.getD_eq_getElem?_getD, List.getElem?_drop, ← List.getD_eq_getElem?_getD, bytesL_getD]
  rw [drop_cons_bt h, rl_cons, hg, hg, hg, hd, hd, hd]
  rfl
theorem runeN_some {b0 b1 b2 b3 c : Int} {p1 p2 p3 : Bool} {w : Nat} (h : runeN b0 b1 b2 b3 p1 p2 p3 = some (c, w)) :
    (b0 < 128 ∧ c = b0 ∧ w = 1) ∨ (192 ≤ b0 ∧ 128 ≤ c ∧ w = 2 ∧ p1 = true ∧ ∀ b2' b3' p2' p3', runeN b0 b1 b2' b3' p1 p2' p3' = some (c, 2)) ∨
    (192 ≤ b0 ∧ 128 ≤ c ∧ w = 3 ∧ p1 = true ∧ p2 = true ∧ ∀ b3' p3', runeN b0 b1 b2 b3' p1 p2 p3' = some (c, 3)) ∨ (192 ≤ b0 ∧ 128 ≤ c ∧ w = 4 ∧ p1 = true ∧ p2 = true ∧ p3 = true) := by
  unfold runeN at h ⊢
  split at h
  · simp only [Option.some.injEq, Prod.mk.injEq] at h; exact .inl ⟨by assumption, h.1.symm, h.2.symm⟩
  rename_i q0
  split at h
  · rename_i q
    split at h
    · rename_i q'
      simp only [Option.some.injEq, Prod.mk.injEq] at h
      refine .inr (.inl ⟨by omega, by omega, h.2.symm, q.2.2, fun _ _ _ _ => ?_⟩)
      rw [if_neg q0, if_pos q, if_pos q', h.1]
    · cases h
  rename_i q1
  split at h
  · rename_i q
    split at h
    · rename_i q'
      simp only [Option.some.injEq, Prod.mk.injEq] at h
      refine .inr (.inr (.inl ⟨by omega, by omega, h.2.symm, q.2.2.1, q.2.2.2, fun _ _ => ?_⟩))
      rw [if_neg q0, if_neg q1, if_pos q, if_pos q', h.1]
    · cases h
  rename_i q2
  split at h
  · rename_i q
    split at h
    · rename_i q'
      simp only [Option.some.injEq, Prod.mk.injEq] at h
      exact .inr (.inr (.inr ⟨by omega, by omega, h.2.symm, q.2.2.1, q.2.2.2.1, q.2.2.2.2⟩))
    · cases h
  · cases h
theorem gol_lt {t : List Int} {i : Nat} (h : gol t i = true) : ∃ b, t[i]? = some b ∧ 128 ≤ b ∧ b < 192 := by
  unfold gol at h
  split at h
  · rename_i b hb
    unfold cont at h
    simp at h
    exact ⟨b, hb, h⟩
  · cases h
theorem rl_some {l : List Int} {c : Int} {w : Nat} (h : rl l = some (c, w)) : 1 ≤ w ∧ w ≤ l.length ∧
    ((∃ t, l = c :: t ∧ c < 128 ∧ w = 1) ∨ (128 ≤ c ∧ 2 ≤ w ∧ (∃ b0 t, l = b0 :: t ∧ 192 ≤ b0) ∧ ∀ j b, j < w → l[j]? = some b → 128 ≤ b)) := by
  cases l with
  | nil => cases h
  | cons b0 t =>
    have key : ∀ n, (∀ j, j < n → gol t j = true) → n ≤ t.length ∧ ∀ j b, j < n → t[j]? = some b → 128 ≤ b := by
      intro n hn
      refine ⟨?_, fun j b hj hb => ?_⟩
      · cases n with
        | zero => exact Nat.zero_le _
        | succ n =>
          obtain ⟨b, hb, _⟩ := gol_lt (hn n (Nat.lt_succ_self _))
          have := (List.getElem?_eq_some_iff.1 hb).1
          omega
      · obtain ⟨b', hb', h1, h2⟩ := gol_lt (hn j hj)
        rw [hb] at hb'
        cases hb'
        exact h1
    have fin : ∀ n, 192 ≤ b0 → (∀ j, j < n → gol t j = true) → n + 1 ≤ (b0 :: t).length ∧ ∀ j b, j < n + 1 → (b0 :: t)[j]? = some b → 128 ≤ b := by
      intro n h0 hn
      obtain ⟨k1, k2⟩ := key n hn
      refine ⟨by simp only [List.length_cons]; omega, fun j b hj hb => ?_⟩
      cases j with
      | zero => simp at hb; omega
      | succ j => exact k2 j b (by omega) (by simpa using hb)
    rw [rl_cons] at h
    rcases runeN_some h with ⟨h1, rfl, rfl⟩ | ⟨h1, h2, rfl, g1, _⟩ | ⟨h1, h2, rfl, g1, g2, _⟩ | ⟨h1, h2, rfl, g1, g2, g3⟩
    · exact ⟨Nat.le_refl _, by simp, .inl ⟨t, rfl, h1, rfl⟩⟩
    · obtain ⟨k1, k2⟩ := fin 1 h1 (fun j hj => by obtain rfl : j = 0 := by omega
                                                  exact g1)
      exact ⟨by omega, k1, .inr ⟨h2, by omega, ⟨b0, t, rfl, h1⟩, k2⟩⟩
    · obtain ⟨k1, k2⟩ := fin 2 h1 (fun j hj => by rcases (show j = 0 ∨ j = 1 by omega) with rfl | rfl
                                                  · exact g1
                                                  · exact g2)
      exact ⟨by omega, k1, .inr ⟨h2, by omega, ⟨b0, t, rfl, h1⟩, k2⟩⟩
    · obtain ⟨k1, k2⟩ := fin 3 h1 (fun j hj => by rcases (show j = 0 ∨ j = 1 ∨ j = 2 by omega) with rfl | rfl | rfl
                                                  · exact g1
                                                  · exact g2
                                                  · exact g3)
      exact ⟨by omega, k1, .inr ⟨h2, by omega, ⟨b0, t, rfl, h1⟩, k2⟩⟩
theorem rl_take {l m : List Int} {c : Int} {w : Nat} (h : rl l = some (c, w)) : rl (l.take w ++ m) = some (c, w) := by
  have hw := rl_some h
  cases l with
  | nil => cases h
  | cons b0 t =>
    rw [rl_cons] at h
    rcases runeN_some h with ⟨h1, rfl, rfl⟩ | ⟨h1, h2, rfl, g1, k⟩ | ⟨h1, h2, rfl, g1, g2, k⟩ | ⟨h1, h2, rfl, g1, g2, g3⟩
    · simp only [List.take_succ_cons, List.take_zero, List.cons_append, List.nil_append]
      rw [rl_cons, runeN, if_pos h1]
    · obtain ⟨b1, hb, _⟩ := gol_lt g1
      obtain ⟨b1', t, rfl⟩ : ∃ b t', t = b :: t' := by cases t with | nil => simp at hb | cons b t' => exact ⟨b, t', rfl⟩
      simp only [List.take_succ_cons, List.take_zero, List.cons_append, List.nil_append]
      rw [rl_cons]
      simpa [gol] using k _ _ _ _
    · obtain ⟨b2, hb, _⟩ := gol_lt g2
      obtain ⟨b1', b2', t, rfl⟩ : ∃ b b' t', t = b :: b' :: t' := by
        match t, hb with
        | b :: b' :: t', _ => exact ⟨b, b', t', rfl⟩
      simp only [List.take_succ_cons, List.take_zero, List.cons_append, List.nil_append]
      rw [rl_cons]
      simpa [gol] using k _ _
    · obtain ⟨b3, hb, _⟩ := gol_lt g3
      obtain ⟨b1', b2', b3', t, rfl⟩ : ∃ b b' b'' t', t = b :: b' :: b'' :: t' := by
        match t, hb with
        | b :: b' :: b'' :: t', _ => exact ⟨b, b', b'', t', rfl⟩
      simp only [List.take_succ_cons, List.take_zero, List.cons_append, List.nil_append]
      rw [rl_cons]
      simpa [gol] using h
theorem rl_append {l m : List Int} {c : Int} {w : Nat} (h : rl l = some (c, w)) : rl (l ++ m) = some (c, w) := by
  have := rl_take (m := l.drop w ++ m) h
  rwa [← List.append_assoc, List.take_append_drop] at this
theorem rl_ascii {b : Int} {t : List Int} (h : b < 128) : rl (b :: t) = some (b, 1) := by
  rw [rl_cons, runeN, if_pos h]
def headL (p : Int → Bool) : List Int → Nat × Bool
  | [] => (0, true)
  | b :: t => match rl (b :: t) with
    | none => (0, false)
    | some (c, w) => if p c = true then ((headL p (t.drop (w - 1))).1 + w, (headL p (t.drop (w - 1))).2) else (0, true)
termination_by l => l.length
decreasing_by all_goals (simp only [List.length_drop, List.length_cons]; omega)
def cnt : List Int → Option Nat
  | [] => some 0
  | b :: t => match rl (b :: t) with
    | none => none
    | some (_, w) => (cnt (t.drop (w - 1))).map (· + 1)
termination_by l => l.length
decreasing_by all_goals (simp only [List.length_drop, List.length_cons]; omega)
def ctl (c : Int) : Bool := (decide (c < 32) && c != 9 && c != 10) || c == 127
def plainB (c : Int) : Bool := decide (c > 32) && c != 127 && c != 40 && c != 41 && c != 34 && c != 59
def blankB (c : Int) : Bool := c == 32 || c == 9 || c == 10 || c == 13
def longB (o : Option Nat) : Bool := match o with | some k => decide (64 < k) | none => false
def nlB (c : Int) : Bool := c != 10
def mask (c : Int) : Option Int := if c = 110 then some 10 else if c = 34 ∨ c = 92 then some c else none
inductive Res (α : Type) where
  | ok (a : α)
  | err (e : Int)
def Res.map {α β : Type} (f : α → β) : Res α → Res β | .ok a => .ok (f a) | .err e => .err e
def textL : List Int → Res (List Int × Nat)
  | [] => .err 3
  | b :: t => match rl (b :: t) with
    | none => .err 2
    | some (c, w) =>
      if ctl c = true then .err 2 else if c = 34 then .ok ([], 1)
      else if c = 92 then (match t with
        | [] => .err 2
        | d :: t' => match mask d with | none => .err 2 | some e => (textL t').map fun q => (e :: q.1, q.2 + 2))
      else (textL (t.drop (w - 1))).map fun q => ((b :: t).take w ++ q.1, q.2 + w)
termination_by l => l.length
decreasing_by all_goals (simp only [List.length_drop, List.length_cons]; omega)
def scanL : List Int → Res (List (Int × List Int))
  | [] => .ok []
  | b :: t =>
    if blankB b = true then scanL t
    else if b = 59 then (if (headL nlB (b :: t)).2 = true then scanL (t.drop ((headL nlB (b :: t)).1 - 1)) else .err 2)
    else if b = 40 then (scanL t).map ((1, [40]) :: ·)
    else if b = 41 then (scanL t).map ((2, [41]) :: ·)
    else if b = 34 then (match textL t with | .err e => .err e | .ok (x, n) => (scanL (t.drop n)).map ((4, x) :: ·))
    else if (headL plainB (b :: t)).1 = 0 then .err 2
    else if longB (cnt ((b :: t).take (headL plainB (b :: t)).1)) = true then .err 4
    else (scanL (t.drop ((headL plainB (b :: t)).1 - 1))).map ((3, (b :: t).take (headL plainB (b :: t)).1) :: ·)
termination_by l => l.length
decreasing_by all_goals (simp only [List.length_drop, List.length_cons]; omega)
end Go.Proofs.YtkondhigbbgidaaGreat.M
/-
  Plain laws of lex: what the scanner's models do, told by lists. Own text.
-/
namespace Go.Proofs.YtkondhigbbgidaaGreat.M
open Go Go.Proofs Go.Proofs.YtkondhigbbgidaaGreat.V
set_option linter.unusedVariables false
set_option linter.unusedSimpArgs false
theorem drop_tail {b : Int} {t : List Int} {w : Nat} (h : 1≤w) : t.drop (w - 1) = (b :: t).drop w:=by
  obtain ⟨w,rfl⟩ : ∃ q,w = q + 1:=⟨w - 1,by omega⟩
  simp
theorem sub_w {a b w : Nat} (h : w≤a - b) : a - (b + w) + w = a - b:=by omega
theorem headL_nil (p : Int→Bool) : headL p [] = (0,true):=by rw [headL]
theorem headL_none {p : Int→Bool} {l : List Int} (hl : l≠[]) (h : rl l = none) : headL p l = (0,false):=by
  cases l with
  | nil =>exact absurd rfl hl
  | cons b t =>rw [headL,h]
theorem headL_stop {p : Int→Bool} {l : List Int} {c : Int} {w : Nat} (h : rl l = some (c,w)) (hp : p c = false) : headL p l = (0,true):=by
  cases l with
  | nil =>cases h
  | cons b t =>rw [headL,h]; simp [hp]
theorem headL_go {p : Int→Bool} {l : List Int} {c : Int} {w : Nat} (h : rl l = some (c,w)) (hp : p c = true) : headL p l = ((headL p (l.drop w)).1 + w,(headL p (l.drop w)).2):=by
  have hw:=(rl_some h).1
  cases l with
  | nil =>cases h
  | cons b t =>rw [headL,h]; simp only [hp,if_true]; rw [drop_tail (b:=b) hw]
theorem cnt_nil : cnt [] = some 0:=by rw [cnt]
theorem cnt_none {l : List Int} (hl : l≠[]) (h : rl l = none) : cnt l = none:=by
  cases l with
  | nil =>exact absurd rfl hl
  | cons b t =>rw [cnt,h]
theorem cnt_go {l : List Int} {c : Int} {w : Nat} (h : rl l = some (c,w)) : cnt l = (cnt (l.drop w)).map (· + 1):=by
  have hw:=(rl_some h).1
  cases l with
  | nil =>cases h
  | cons b t =>rw [cnt,h]; simp only; rw [drop_tail (b:=b) hw]
theorem textL_nil : textL [] = .err 3:=by rw [textL]
theorem textL_none {l : List Int} (hl : l≠[]) (h : rl l = none) : textL l = .err 2:=by
  cases l with
  | nil =>exact absurd rfl hl
  | cons b t =>rw [textL.eq_def]; simp only [h]
theorem textL_ctl {l : List Int} {c : Int} {w : Nat} (h : rl l = some (c,w)) (hc : ctl c = true) : textL l = .err 2:=by
  cases l with
  | nil =>cases h
  | cons b t =>rw [textL.eq_def]; simp only [h,hc,if_true]
theorem textL_end (t : List Int) : textL (34 :: t) = .ok ([],1):=by
  rw [textL.eq_def]; simp [rl_ascii (show (34 : Int) < 128 by decide),show ctl 34 = false from rfl]
theorem textL_esc0 : textL [92] = .err 2:=by
  rw [textL.eq_def]; simp [rl_ascii (show (92 : Int) < 128 by decide),show ctl 92 = false from rfl]
theorem textL_esc (d : Int) (t : List Int) : textL (92 :: d :: t) = match mask d with | none =>.err 2 | some e =>(textL t).map fun q =>(e :: q.1,q.2 + 2):=by
  rw [textL.eq_def]; simp only [rl_ascii (show (92 : Int) < 128 by decide),show ctl 92 = false from rfl]; rfl
theorem textL_go {l : List Int} {c : Int} {w : Nat} (h : rl l = some (c,w)) (hc : ctl c = false) (h1 : c≠34) (h2 : c≠92) : textL l = (textL (l.drop w)).map fun q =>(l.take w++q.1,q.2 + w):=by
  have hw:=(rl_some h).1
  cases l with
  | nil =>cases h
  | cons b t =>rw [textL.eq_def]; simp only [h,hc,h1,h2,if_false,Bool.false_eq_true]; rw [drop_tail (b:=b) hw]
theorem headL_le (p : Int→Bool) : ∀ (k : Nat) (l : List Int),l.length≤k→(headL p l).1≤l.length:=by
  intro k
  induction k with
  | zero =>intro l h; obtain rfl:=List.eq_nil_of_length_eq_zero (Nat.le_zero.1 h); rw [headL_nil]; simp
  | succ k ih =>
    intro l h
    by_cases hl : l = []
    · subst hl; rw [headL_nil]; simp
    cases hr : rl l with
    | none =>rw [headL_none hl hr]; simp
    | some q =>
      obtain ⟨c,w⟩:=q
      have hw:=rl_some hr
      cases hp : p c with
      | false =>rw [headL_stop hr hp]; simp
      | true =>
        rw [headL_go hr hp]
        have:=ih (l.drop w) (by rw [List.length_drop]; omega)
        rw [List.length_drop] at this
        simp only; omega
theorem Runes_M {s : ByteArray} (hs : s.size < 281474976710656) : ∀ (k pos : Nat) (n : Int) (f : Nat),s.size - pos≤k→k < f→pos≤s.size→0≤n→n + k < 4611686018427387904 →
    lex_Runes.l1 s f n pos = some (match cnt ((bytesL s).drop pos) with | none =>Out.ret (-1) | some m =>Out.go (n + (m : Int))):=by
  intro k
  induction k with
  | zero =>
    intro pos n f h1 h2 h3 h4 h5
    obtain ⟨f,rfl⟩ : ∃ q,f = q + 1:=⟨f - 1,by omega⟩
    rw [lex_Runes.l1,if_neg (by omega),List.drop_eq_nil_of_le (by rw [bytesL_length]; omega),cnt_nil]
    simp
  | succ k ih =>
    intro pos n f h1 h2 h3 h4 h5
    obtain ⟨f,rfl⟩ : ∃ q,f = q + 1:=⟨f - 1,by omega⟩
    by_cases hp : pos < s.size
    · rw [lex_Runes.l1,if_pos hp,right_eq hp hs,decode_rune,rune_rl hp]
      have hne : (bytesL s).drop pos≠[]:=by rw [drop_cons_bt hp]; simp
      cases hr : rl ((bytesL s).drop pos) with
      | none =>rw [cnt_none hne hr]; rfl
      | some q =>
        obtain ⟨c,w⟩:=q
        have hw:=rl_some hr
        have hwl:=hw.2.1
        rw [List.length_drop,bytesL_length] at hwl
        simp only [rdv,Option.isSome_some,Option.bind_some,Bool.not_true,Bool.false_eq_true,if_false]
        rw [ih (pos + w) _ f (by omega) (by omega) (by omega) (by rw [w_eq (by omega) (by omega)]; omega) (by rw [w_eq (by omega) (by omega)]; omega),cnt_go hr,List.drop_drop,w_eq (by omega) (by omega)]
        cases cnt (List.drop (pos + w) (bytesL s)) with
        | none =>rfl
        | some m =>
          simp only [Option.map_some]
          rw [show n + 1 + (m : Int) = n + ((m + 1 : Nat) : Int) by omega]
    · rw [lex_Runes.l1,if_neg hp,List.drop_eq_nil_of_le (by rw [bytesL_length]; omega),cnt_nil]
      simp
def runesI (o : Option Nat) : Int:=match o with | none =>-1 | some m =>(m : Int)
theorem Runes_cnt {s : ByteArray} (hs : s.size < 281474976710656) : lex_Runes s = some (runesI (cnt (bytesL s))):=by
  have h:=Runes_M hs s.size 0 0 FU (by omega) (by unfold FU; omega) (by omega) (by omega) (by omega)
  unfold lex_Runes
  rw [h,List.drop_zero]
  cases cnt (bytesL s) with
  | none =>rfl
  | some m =>simp [Out.on,runesI]
theorem plainM (c : Int) : lex_plain c = some (plainB c):=by rw [plain_eq]; rfl
theorem headP_M {s : ByteArray} (hs : s.size < 281474976710656) : ∀ (k pos : Nat) (f : Nat),s.size - pos≤k→k < f→pos≤s.size →
    (lex_head_lex_plain.l1 s f pos = some (Out.go ())∧headL plainB ((bytesL s).drop pos) = (s.size - pos,true)) ∨
    (∃ n b,lex_head_lex_plain.l1 s f pos = some (Out.ret (((pos + n : Nat) : Int),b))∧headL plainB ((bytesL s).drop pos) = (n,b)∧pos + n < s.size):=by
  intro k
  induction k with
  | zero =>
    intro pos f h1 h2 h3
    obtain ⟨f,rfl⟩ : ∃ q,f = q + 1:=⟨f - 1,by omega⟩
    refine .inl ⟨by rw [lex_head_lex_plain.l1,if_neg (by omega)],?_⟩
    rw [List.drop_eq_nil_of_le (by rw [bytesL_length]; omega),headL_nil,show s.size - pos = 0 by omega]
  | succ k ih =>
    intro pos f h1 h2 h3
    obtain ⟨f,rfl⟩ : ∃ q,f = q + 1:=⟨f - 1,by omega⟩
    by_cases hp : pos < s.size
    · rw [lex_head_lex_plain.l1,if_pos hp,right_eq hp hs,decode_rune,rune_rl hp]
      have hne : (bytesL s).drop pos≠[]:=by rw [drop_cons_bt hp]; simp
      cases hr : rl ((bytesL s).drop pos) with
      | none =>exact .inr ⟨0,false,rfl,headL_none hne hr,by omega⟩
      | some q =>
        obtain ⟨c,w⟩:=q
        have hw:=rl_some hr
        have hwl:=hw.2.1
        rw [List.length_drop,bytesL_length] at hwl
        have hc : 0≤c:=by
          have:=rune_some hp (show rune s pos = some (c,w) by rw [rune_rl hp,hr])
          exact this.1
        have ec : ((c.toNat : Nat) : Int) = c:=Int.toNat_of_nonneg hc
        simp only [rdv,Option.isSome_some,Option.bind_some,Bool.not_true,Bool.false_eq_true,if_false,ec,plainM]
        cases hb : plainB c with
        | false =>exact .inr ⟨0,true,by simp,headL_stop hr hb,by omega⟩
        | true =>
          simp only [Bool.not_true,Bool.false_eq_true,if_false]
          rw [headL_go hr hb,List.drop_drop]
          rcases ih (pos + w) f (by omega) (by omega) (by omega) with ⟨g1,g2⟩ | ⟨n,b,g1,g2,g3⟩
          · refine .inl ⟨g1,?_⟩
            rw [g2]
            exact Prod.ext (sub_w hwl) rfl
          · refine .inr ⟨n + w,b,?_,by rw [g2],by omega⟩
            rw [g1,show pos + w + n = pos + (n + w) by omega]
    · refine .inl ⟨by rw [lex_head_lex_plain.l1,if_neg (by omega)],?_⟩
      rw [List.drop_eq_nil_of_le (by rw [bytesL_length]; omega),headL_nil,show s.size - pos = 0 by omega]
theorem headP_eq {s : ByteArray} (hs : s.size < 281474976710656) : lex_head_lex_plain s = some (((headL plainB (bytesL s)).1 : Int),(headL plainB (bytesL s)).2):=by
  have h:=headP_M hs s.size 0 FU (by omega) (by unfold FU; omega) (by omega)
  rw [List.drop_zero] at h
  unfold lex_head_lex_plain
  rcases h with ⟨g1,g2⟩ | ⟨n,b,g1,g2,g3⟩
  · rw [g1,g2]; rfl
  · rw [g1,g2]; simp [Out.on]
theorem extract_bytes (s : ByteArray) (a b : Nat) : bytesL (s.extract a b) = ((bytesL s).take b).drop a:=by
  unfold bytesL
  rw [ByteArray.data_extract,Array.toList_extract,← List.map_take,← List.map_drop]
  congr 1
  rw [List.extract_eq_take_drop,List.drop_take]
theorem strOfNums_bytes {l : List Int} (h : By l) : bytesL (strOfNums l) = l:=by
  unfold bytesL
  rw [strOfNums_data,List.map_map]
  conv =>rhs; rw [← List.map_id l]
  apply List.map_congr_left
  intro b hb
  have:=h b hb
  simp only [Function.comp,id]
  rw [UInt8.toNat_ofNat']
  omega
end Go.Proofs.YtkondhigbbgidaaGreat.M

/- Plain law: a row into which one is put where it belongs. Own work. -/
import Derived.Test.YtbkdglcedgiogaaPRk
namespace Go.Proofs.Ytbkdglcedgiogaa.M
open Go Go.Proofs Go.Proofs.Ytbkdglcedgiogaa.V
open Go.IntKind (i64)
set_option linter.unusedVariables false

def insQ (rk : Int → Int) (i : Int) (x : Int) : Bool := decide (rk x ≥ rk i)
def insL (rk : Int → Int) (l : List Int) (i : Int) : List Int := l.takeWhile (insQ rk i) ++ i :: l.dropWhile (insQ rk i)
theorem insL_perm (rk : Int → Int) (l : List Int) (i : Int) : (insL rk l i).Perm (l ++ [i]) := by
  unfold insL
  have h : (l.takeWhile (insQ rk i) ++ i :: l.dropWhile (insQ rk i)).Perm (i :: (l.takeWhile (insQ rk i) ++ l.dropWhile (insQ rk i))) := List.perm_middle
  rw [List.takeWhile_append_dropWhile] at h
  exact h.trans (List.perm_append_singleton i l).symm
theorem insL_len (rk : Int → Int) (l : List Int) (i : Int) : (insL rk l i).length = l.length + 1 := by rw [(insL_perm rk l i).length_eq]; simp
theorem drop_low {rk : Int → Int} {i : Int} : ∀ {l : List Int}, l.Pairwise (Rk rk) → ∀ x, x ∈ l.dropWhile (insQ rk i) → rk x < rk i := by
  intro l
  induction l with
  | nil => intro _ x hx; cases hx
  | cons a l ih =>
    intro h x hx
    rw [List.pairwise_cons] at h
    rw [List.dropWhile_cons] at hx
    split at hx
    · exact ih h.2 x hx
    · rename_i q
      have q : rk a < rk i := by unfold insQ at q; simpa using q
      rcases List.mem_cons.1 hx with rfl | hx
      · exact q
      · rcases h.1 x hx with e | ⟨e, _⟩ <;> omega
theorem take_high {rk : Int → Int} {i : Int} : ∀ {l : List Int}, ∀ x, x ∈ l.takeWhile (insQ rk i) → rk x ≥ rk i := by
  intro l
  induction l with
  | nil => intro x hx; cases hx
  | cons a l ih =>
    intro x hx
    rw [List.takeWhile_cons] at hx
    split at hx
    · rename_i q
      rcases List.mem_cons.1 hx with rfl | hx
      · unfold insQ at q; simpa using q
      · exact ih x hx
    · cases hx
theorem insL_sorted {rk : Int → Int} {l : List Int} {i : Int} (h : l.Pairwise (Rk rk)) (hi : ∀ x, x ∈ l → x < i) : (insL rk l i).Pairwise (Rk rk) := by
  unfold insL
  have hd : (l.takeWhile (insQ rk i) ++ l.dropWhile (insQ rk i)).Pairwise (Rk rk) := by rw [List.takeWhile_append_dropWhile]; exact h
  rw [List.pairwise_append] at hd ⊢
  obtain ⟨h1, h2, h3⟩ := hd
  refine ⟨h1, List.pairwise_cons.2 ⟨fun y hy => .inl (drop_low h y hy), h2⟩, fun a ha b hb => ?_⟩
  rcases List.mem_cons.1 hb with rfl | hb
  · have e := take_high a ha
    have e2 := hi a ((List.takeWhile_subset _) ha)
    unfold Rk; omega
  · exact h3 a ha b hb

/-- The loop that looks for the place. -/
theorem ins_loop {F : Nat → Int → List Int → Option (Int × List Int)} {l : List Int} {rk : Int → Int} {i : Int} (hl : l.length ≤ 900)
    (hs : ∀ n (k : Nat) (hk : k < l.length) (next : List Int), next.length ≤ 900 → F (n + 1) (k : Int) next = if rk l[k] ≥ rk i then F n ((k + 1 : Nat) : Int) (next ++ [l[k]]) else some ((k : Int), next))
    (he : ∀ n next, F (n + 1) (l.length : Int) next = some ((l.length : Int), next)) : F FU 0 [] = some (((l.takeWhile (insQ rk i)).length : Int), l.takeWhile (insQ rk i)) := by
  have key : ∀ (m : List Int) (k n : Nat) (next : List Int), l.drop k = m → k ≤ l.length → m.length < n → next.length = k → F n (k : Int) next = some (((k + (m.takeWhile (insQ rk i)).length : Nat) : Int), next ++ m.takeWhile (insQ rk i)) := by
    intro m
    induction m with
    | nil =>
      intro k n next h1 h0 h2 h3
      obtain ⟨n, rfl⟩ : ∃ n', n = n' + 1 := ⟨n - 1, by omega⟩
      have hk : l.length ≤ k := by simpa using h1
      have e : k = l.length := by omega
      subst e; rw [he]; simp
    | cons x m ih =>
      intro k n next h1 h0 h2 h3
      obtain ⟨n, rfl⟩ : ∃ n', n = n' + 1 := ⟨n - 1, by omega⟩
      have hk : k < l.length := by
        have := congrArg List.length h1; rw [List.length_drop, List.length_cons] at this; omega
      have hx : l[k] = x := by
        have := List.drop_eq_getElem_cons hk; rw [h1] at this; injection this with a b; exact a.symm
      have hd : l.drop (k + 1) = m := by
        have := List.drop_eq_getElem_cons hk; rw [h1] at this; injection this with a b; exact b.symm
      rw [hs n k hk next (by omega), hx, List.takeWhile_cons]
      by_cases hq : rk x ≥ rk i
      · rw [if_pos hq, if_pos (by unfold insQ; simpa using hq), ih (k + 1) n _ hd (by omega) (by rw [List.length_cons] at h2; omega) (by simp; omega)]
        simp; omega
      · rw [if_neg hq, if_neg (by unfold insQ; simpa using hq)]
        simp
  have := key l 0 FU [] rfl (by omega) (by unfold FU; omega) rfl
  simpa using this
theorem take_len_drop (p : Int → Bool) : ∀ l : List Int, l.drop (l.takeWhile p).length = l.dropWhile p
  | [] => rfl
  | a :: l => by
    rw [List.takeWhile_cons, List.dropWhile_cons]
    split
    · exact take_len_drop p l
    · rfl
theorem ins_put {rk : Int → Int} {l : List Int} {i : Int} : l.takeWhile (insQ rk i) ++ [i] ++ l.drop (l.takeWhile (insQ rk i)).length = insL rk l i := by
  rw [take_len_drop]; unfold insL; simp
end Go.Proofs.Ytbkdglcedgiogaa.M

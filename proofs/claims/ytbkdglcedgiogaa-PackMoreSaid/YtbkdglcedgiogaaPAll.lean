/-
  Plain Lean: loops that go on while something is so. Own text.
-/
import Derived.Test.YtbkdglcedgiogaaPLoop
namespace Go.Proofs.Ytbkdglcedgiogaa.M
open Go Go.Proofs Go.Proofs.Ytbkdglcedgiogaa.V
set_option linter.unusedVariables false

def allN (n : Nat) (q : Nat → Bool) : Bool := (List.range n).all q
theorem allN_iff {n : Nat} {q : Nat → Bool} : allN n q = true ↔ ∀ k, k < n → q k = true := by simp [allN]
theorem allN_not {n : Nat} {q : Nat → Bool} : allN n q = false ↔ ∃ k, k < n ∧ q k = false := by simp [allN]

/-- A loop by an index, that goes on while something is so. -/
theorem idxAll {ρ : Type} {F : Nat → Int → Option (Out ρ Unit)} {len : Nat} {r0 : ρ} (q : Nat → Bool) (hl : len < 1000000000000)
    (hs : ∀ n (k : Nat), k < len → F (n + 1) (k : Int) = if q k = true then F n ((k + 1 : Nat) : Int) else some (Out.ret r0))
    (he : ∀ n, F (n + 1) (len : Int) = some (Out.go ())) : F FU 0 = some (if allN len q = true then Out.go () else Out.ret r0) := by
  rcases loopI (Q := fun r => r = r0 ∧ allN len q = false) (S := fun k => k < len → q k = true) hl (fun n k hk => by
      rw [hs n k hk]
      cases h : q k with
      | true => exact .inr ⟨rfl, fun _ => rfl⟩
      | false => exact .inl ⟨_, rfl, rfl, allN_not.2 ⟨k, hk, h⟩⟩) he with ⟨r, h1, rfl, h3⟩ | ⟨h1, h2⟩
  · rw [h1, if_neg (by rw [h3]; simp)]
  · rw [h1, if_pos (allN_iff.2 fun k hk => h2 k hk hk)]

/-- A loop over a row. -/
theorem rowAll {α ρ : Type} {G : List α → Nat → Option (Out ρ Unit)} {l : List α} {r0 : ρ} (q : Nat → Bool)
    (hs : ∀ (k : Nat) (hk : k < l.length), G (l[k] :: l.drop (k + 1)) k = if q k = true then G (l.drop (k + 1)) (k + 1) else some (Out.ret r0))
    (he : ∀ k, G [] k = some (Out.go ())) : G l 0 = some (if allN l.length q = true then Out.go () else Out.ret r0) := by
  have key : ∀ (m k : Nat), l.length - k = m → ((∀ j, k ≤ j → j < l.length → q j = true) → G (l.drop k) k = some (Out.go ())) ∧ ((∃ j, k ≤ j ∧ j < l.length ∧ q j = false) → G (l.drop k) k = some (Out.ret r0)) := by
    intro m
    induction m with
    | zero =>
      intro k hk
      refine ⟨fun _ => ?_, fun ⟨j, h1, h2, _⟩ => by omega⟩
      rw [List.drop_eq_nil_of_le (by omega)]; exact he k
    | succ m ih =>
      intro k hk
      have hkl : k < l.length := by omega
      obtain ⟨i1, i2⟩ := ih (k + 1) (by omega)
      rw [List.drop_eq_getElem_cons hkl, hs k hkl]
      refine ⟨fun h => ?_, fun ⟨j, h1, h2, h3⟩ => ?_⟩
      · rw [if_pos (h k (Nat.le_refl _) hkl)]
        exact i1 fun j a b => h j (by omega) b
      · by_cases hq : q k = true
        · rw [if_pos hq]
          refine i2 ⟨j, ?_, h2, h3⟩
          by_cases e : j = k
          · subst e; rw [hq] at h3; cases h3
          · omega
        · rw [if_neg hq]
  obtain ⟨h1, h2⟩ := key l.length 0 rfl
  rw [List.drop_zero] at h1 h2
  cases h : allN l.length q with
  | true => rw [if_pos rfl]; exact h1 fun j _ hj => allN_iff.1 h j hj
  | false => obtain ⟨k, a, b⟩ := allN_not.1 h; rw [if_neg (by simp)]; exact h2 ⟨k, Nat.zero_le _, a, b⟩

end Go.Proofs.Ytbkdglcedgiogaa.M

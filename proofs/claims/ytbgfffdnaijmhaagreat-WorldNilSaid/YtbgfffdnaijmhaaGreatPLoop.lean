/-
  Plain Lean: loops by an index, rows. Own text.
-/
import Derived.Test.YtbgfffdnaijmhaaGreatPStr
namespace Go.Proofs.YtbgfffdnaijmhaaGreat.M
open Go Go.Proofs Go.Proofs.YtbgfffdnaijmhaaGreat.V
set_option linter.unusedVariables false

/-! loops by an index -/
theorem loopI {ρ : Type} {F : Nat → Int → Option (Out ρ Unit)} {len : Nat} {Q : ρ → Prop} {S : Nat → Prop} (hl : len < 1000000000000)
    (hs : ∀ n (k : Nat), k < len → (∃ r, F (n + 1) (k : Int) = some (Out.ret r) ∧ Q r) ∨ (F (n + 1) (k : Int) = F n ((k + 1 : Nat) : Int) ∧ S k))
    (he : ∀ n, F (n + 1) (len : Int) = some (Out.go ())) : (∃ r, F FU 0 = some (Out.ret r) ∧ Q r) ∨ (F FU 0 = some (Out.go ()) ∧ ∀ k, k < len → S k) := by
  have key : ∀ (m k f : Nat), len - k ≤ m → m < f → k ≤ len → (∃ r, F f (k : Int) = some (Out.ret r) ∧ Q r) ∨ (F f (k : Int) = some (Out.go ()) ∧ ∀ j, k ≤ j → j < len → S j) := by
    intro m
    induction m with
    | zero =>
      intro k f h1 h2 h3
      obtain ⟨f, rfl⟩ : ∃ q, f = q + 1 := ⟨f - 1, by omega⟩
      obtain rfl : k = len := by omega
      exact .inr ⟨he f, fun j h4 h5 => by omega⟩
    | succ m ih =>
      intro k f h1 h2 h3
      obtain ⟨f, rfl⟩ : ∃ q, f = q + 1 := ⟨f - 1, by omega⟩
      by_cases hk : k < len
      · rcases hs f k hk with h | ⟨h4, h5⟩
        · exact .inl h
        · rw [h4]
          rcases ih (k + 1) f (by omega) (by omega) (by omega) with h | ⟨h6, h7⟩
          · exact .inl h
          · refine .inr ⟨h6, fun j h8 h9 => ?_⟩
            by_cases e : j = k
            · subst e; exact h5
            · exact h7 j (by omega) h9
      · obtain rfl : k = len := by omega
        exact .inr ⟨he f, fun j h4 h5 => by omega⟩
  have := key len 0 FU (by omega) (by unfold FU; omega) (Nat.zero_le _)
  rcases this with h | ⟨h1, h2⟩
  · exact .inl h
  · exact .inr ⟨h1, fun k hk => h2 k (Nat.zero_le _) hk⟩

theorem dlt {α : Type} {l : List α} {k : Nat} (h : k < l.length) : (decide ((k : Int) < (l.length : Int))) = true := by simp; omega
theorem dnl {α : Type} {l : List α} : ¬ (decide ((l.length : Int) < (l.length : Int))) = true := by simp
theorem wk1 {k : Nat} (h : k < 1000000000000) : IntKind.i64.wrap ((k : Int) + 1) = ((k + 1 : Nat) : Int) := by rw [w_eq (by omega) (by omega)]; omega
theorem glk {α : Type} {l : List α} {k : Nat} (h : k < l.length) : V.gl l (k : Int) = some l[k] := by
  unfold V.gl
  rw [if_pos (by omega)]
  simp [List.getElem?_eq_getElem h]

theorem toList_inj {a b : ByteArray} (h : a.toList = b.toList) : a = b := by
  have h1 : a.data.toList = b.data.toList := by simpa [ByteArray.toList_eq] using h
  cases a; cases b
  congr 1
  exact Array.toList_inj.1 h1
theorem seq_eq (a b : ByteArray) : V.seq a b = decide (a = b) := by
  by_cases h : a = b
  · subst h; simp [V.seq]
  · have : ¬ a.toList = b.toList := fun e => h (toList_inj e)
    simp [V.seq, h, this]
end Go.Proofs.YtbgfffdnaijmhaaGreat.M

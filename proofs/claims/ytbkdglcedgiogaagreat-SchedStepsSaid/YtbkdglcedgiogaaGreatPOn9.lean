/-
  Plain laws: what the document says is on a machine. Own text.
-/
import Derived.Test.YtbkdglcedgiogaaGreatPSuit
namespace Go.Proofs.YtbkdglcedgiogaaGreat.M
open Go Go.Proofs Go.Proofs.YtbkdglcedgiogaaGreat.V
set_option linter.unusedVariables false

theorem onS_cons (x : T_api_Bound) (l : List T_api_Bound) (n : ByteArray) : onS (x :: l) n = if x.On = n then x.Pod :: onS l n else onS l n := by
  unfold onS
  by_cases h : x.On = n <;> simp [h]

theorem On9_eq (bs : List T_api_Bound) (name : ByteArray) (hl : bs.length ≤ 1000) : ref09_On bs name = some (onS bs name) := by
  have key : ∀ (m k f : Nat) (acc : List T_api_Pod), bs.length - k ≤ m → m < f → k ≤ bs.length → acc.length ≤ k → ref09_On.l1 bs name f acc (k : Int) = some (acc ++ onS (bs.drop k) name) := by
    intro m
    induction m with
    | zero =>
      intro k f acc h1 h2 h3 h4
      obtain ⟨f, rfl⟩ : ∃ q, f = q + 1 := ⟨f - 1, by omega⟩
      rw [ref09_On.l1, if_neg (by simp; omega), List.drop_eq_nil_of_le (by omega)]
      simp [onS]
    | succ m ih =>
      intro k f acc h1 h2 h3 h4
      obtain ⟨f, rfl⟩ : ∃ q, f = q + 1 := ⟨f - 1, by omega⟩
      by_cases hk : k < bs.length
      · rw [ref09_On.l1, if_pos (dlt hk), glk hk, wk1 (by omega), List.drop_eq_getElem_cons hk, onS_cons]
        simp only [Option.bind_some, seq_eq]
        by_cases h : bs[k].On = name
        · rw [if_pos (by simpa using h), if_pos h, ap_ok (by omega) (by simp; omega)]
          simp only [Option.bind_some]
          rw [ih (k + 1) f _ (by omega) (by omega) (by omega) (by simp; omega)]
          simp
        · rw [if_neg (by simpa using h), if_neg h]
          exact ih (k + 1) f _ (by omega) (by omega) (by omega) (by omega)
      · rw [ref09_On.l1, if_neg (by simp; omega), List.drop_eq_nil_of_le (by omega)]
        simp [onS]
  have := key bs.length 0 FU [] (by omega) (by unfold FU; omega) (by omega) (by simp)
  have this' : ref09_On.l1 bs name FU [] 0 = some ([] ++ onS (bs.drop 0) name) := this
  unfold ref09_On
  rw [this']
  simp
end Go.Proofs.YtbkdglcedgiogaaGreat.M

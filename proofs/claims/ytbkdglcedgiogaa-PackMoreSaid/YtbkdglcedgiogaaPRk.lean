/-
  Plain laws: rows in order. Own text.
-/
import Derived.Test.YtbkdglcedgiogaaPAll
namespace Go.Proofs.Ytbkdglcedgiogaa.M
open Go Go.Proofs Go.Proofs.Ytbkdglcedgiogaa.V
set_option linter.unusedVariables false

def Rk (rk : Int → Int) (a b : Int) : Prop := rk a > rk b ∨ (rk a = rk b ∧ a < b)
/-- Two rows in order, with the same in them, are the same. -/
theorem sorted_unique {α : Type} {R : α → α → Prop} (hirr : ∀ a, ¬ R a a) (htr : ∀ a b, R a b → ¬ R b a) : ∀ {l m : List α}, l.Pairwise R → m.Pairwise R → l.Perm m → l = m
  | [], m, _, _, hp => (List.nil_perm.1 hp).symm
  | x :: l, [], _, _, hp => absurd hp.length_eq (by simp)
  | x :: l, y :: m, hl, hm, hp => by
    have hxy : x = y := by
      have h1 : x ∈ y :: m := hp.mem_iff.1 (List.mem_cons_self ..)
      have h2 : y ∈ x :: l := hp.mem_iff.2 (List.mem_cons_self ..)
      rcases List.mem_cons.1 h1 with h1 | h1
      · exact h1
      · rcases List.mem_cons.1 h2 with h2 | h2
        · exact h2.symm
        · exact absurd ((List.pairwise_cons.1 hm).1 x h1) (htr _ _ ((List.pairwise_cons.1 hl).1 y h2))
    subst hxy
    rw [sorted_unique hirr htr (List.pairwise_cons.1 hl).2 (List.pairwise_cons.1 hm).2 (List.Perm.cons_inv hp)]

end Go.Proofs.Ytbkdglcedgiogaa.M

/-
  Plain laws of lex: tokens as text; the law LexShows. Own text.
-/
import Derived.Test.YtbnohlgchjcjhaaPL2
namespace Go.Proofs.Ytbnohlgchjcjhaa.M
open Go Go.Proofs Go.Proofs.Ytbnohlgchjcjhaa.V
set_option linter.unusedVariables false

theorem strOfNums_size (l : List Int) : (strOfNums l).size = l.length := by
  simp [strOfNums, ByteArray.size]

/-- A text is put in quotes alike; and how long it is then. -/
theorem Quote_eq2 {s : ByteArray} (hs : s.size < 17592186044416) : ∃ r, lex_Quote s = some r ∧ ref01_Quote s = some r ∧ r.size ≤ 2 * s.size + 2 := by
  obtain ⟨r, g1, g2, g3⟩ := Quote_loop (s := s) (by omega) s.size 0 [34] FU FU (by omega) (by unfold FU; omega) (by unfold FU; omega) (by omega) (by simp; omega)
  have g1' : lex_Quote.l1 s FU [34] 0 = some r := g1
  have g2' : ref01_Quote.l1 s FU [34] 0 = some r := g2
  have g3' : r.length ≤ 1 + 2 * s.size := by simpa using g3
  have ha : V.ap 1 r [(34 : Int)] = some (r ++ [34]) := by
    unfold V.ap
    rw [if_pos]
    unfold maxLen
    simp
    omega
  unfold lex_Quote ref01_Quote
  rw [g1', g2']
  simp only [Option.bind_some, ha]
  refine ⟨_, rfl, rfl, ?_⟩
  rw [strOfNums_size]; simp; omega

theorem gl_nat {α : Type} {l : List α} {i : Int} {n : Nat} (h : i = (n : Int)) : gl l i = l[n]? := by
  subst h; unfold gl; rw [if_pos (by omega)]; simp

theorem cat_ok {s t : ByteArray} (h : s.size + t.size < 9000000000000000000) : V.cat s t = some (s ++ t) := by
  unfold V.cat; rw [if_pos]; unfold maxLen; omega
end Go.Proofs.Ytbnohlgchjcjhaa.M

/-
  Plain laws of the scheduler: what its guards give. Own text.
-/
import Derived.Test.YtbkdglcedgiogaaGreatPSchP
import Derived.Test.YtbkdglcedgiogaaGreatPChk
namespace Go.Proofs.YtbkdglcedgiogaaGreat.M
open Go Go.Proofs Go.Proofs.YtbkdglcedgiogaaGreat.V
set_option linter.unusedVariables false

theorem known14_true : law14_known = some true := by kernel_rfl

theorem right14 (ms : List T_api_Machine) (bs : List T_api_Bound) : ∃ b, law14_right ms bs = some b ∧ (b = true → LY ms bs ∧ RY ms bs) := by
  unfold law14_right
  obtain ⟨b, e, f⟩ := ref09_Light_eq ms bs
  rw [e]
  cases b with
  | false => exact ⟨false, rfl, fun h => by cases h⟩
  | true =>
    have hy := f rfl
    simp only [Option.bind_some, if_true]
    obtain ⟨r, e, f⟩ := Check9_eq hy
    rw [e]
    refine ⟨r == 0, rfl, fun h => ⟨hy, f (by simpa using h)⟩⟩

theorem names_nodup {ms : List T_api_Machine} {bs : List T_api_Bound} (hr : RY ms bs) : (ms.map (·.Name)).Nodup := by
  rw [show (ms.map (·.Name)).Nodup ↔ _ from List.pairwise_iff_getElem]
  intro i j hi hj hij e
  rw [List.length_map] at hi hj
  have := hr.mu i j hi hj (by simpa using e)
  omega
theorem names_ne {ms : List T_api_Machine} {bs : List T_api_Bound} (hr : RY ms bs) : ∀ m, m ∈ ms → m.Name ≠ ⟨#[]⟩ := fun m h => by
  obtain ⟨i, hi, rfl⟩ := List.getElem_of_mem h
  exact (hr.rm i hi).1
end Go.Proofs.YtbkdglcedgiogaaGreat.M

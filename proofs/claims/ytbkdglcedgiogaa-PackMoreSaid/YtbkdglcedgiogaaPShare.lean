/-
  Plain laws: shares. Own text.
-/
import Derived.Test.YtbkdglcedgiogaaPFit1
namespace Go.Proofs.Ytbkdglcedgiogaa.M
open Go Go.Proofs Go.Proofs.Ytbkdglcedgiogaa.V
set_option linter.unusedVariables false

theorem part_tot (a b : Int) : isS (res_part a b) := by
  unfold res_part
  by_cases h : b > 0
  · rw [if_pos (by simpa using h)]
    unfold V.quo
    rw [if_neg (by omega)]
    exact ⟨_, rfl⟩
  · rw [if_neg (by simpa using h)]
    exact T.ite (fun _ => T.pure _) fun _ => T.pure _
theorem Share_tot (a b : T_api_Res) : isS (res_Share a b) := by
  unfold res_Share
  simp only [res_Right_eq, Option.bind_some]
  exact T.bind (T.ite (fun _ => T.pure _) fun _ => T.pure _) fun _ _ => T.ite (fun _ => T.pure _) fun _ => T.bind (part_tot _ _) fun _ _ => T.bind (part_tot _ _) fun _ _ => T.pure _
def shareV (a b : T_api_Res) : Int := (res_Share a b).getD 0
theorem share_V (a b : T_api_Res) : res_Share a b = some (shareV a b) := isD (Share_tot a b) 0
end Go.Proofs.Ytbkdglcedgiogaa.M

/-
  Plain laws of fit: why a pod cannot run on a machine of that name. Own text.
-/
import Derived.Test.YtbkdglcedgiogaaPFit1
namespace Go.Proofs.Ytbkdglcedgiogaa.M
open Go Go.Proofs Go.Proofs.Ytbkdglcedgiogaa.V
set_option linter.unusedVariables false

theorem why_at {ms : List T_api_Machine} {bs : List T_api_Bound} {p : T_api_Pod} {m : T_api_Machine} (hl : ms.length ≤ 1000) (hn : bs.length ≤ 1000) (hms : ∀ m, m ∈ ms → LM m) (hb : ∀ b, b ∈ bs → LP b.Pod) (hp : LP p) (hu : ∀ j k (h : j < ms.length) (h' : k < ms.length), ms[j].Name = ms[k].Name → j = k) (hm : m ∈ ms) :
    fit_Why ms bs p m.Name = some (whyV ms bs p m) := by
  unfold fit_Why
  obtain ⟨k, h1, h2, h3⟩ := Find_in hl hm
  obtain ⟨i, hi, rfl⟩ := List.getElem_of_mem hm
  have := hu k i h2 hi h3
  subst this
  rw [h1]
  simp only [Option.bind_some]
  rw [if_neg (by simp), glk h2]
  simp only [Option.bind_some]
  rw [asker_V hl hn (List.getElem_mem _) (hms _ (List.getElem_mem _)) hp hb]
  rfl
end Go.Proofs.Ytbkdglcedgiogaa.M

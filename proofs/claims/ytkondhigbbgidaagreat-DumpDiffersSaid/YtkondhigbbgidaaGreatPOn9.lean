/-
  Printed by a program of this session out of the loaded functions: models and their proofs. Own text.
-/
import Derived.Test.YtkondhigbbgidaaGreatPFit0
import Derived.Test.YtkondhigbbgidaaGreatPYard
/-
  Plain laws of fit: why a pod cannot run on a machine, told out of its parts. Own text.
-/
namespace Go.Proofs.YtkondhigbbgidaaGreat.M
open Go Go.Proofs Go.Proofs.YtkondhigbbgidaaGreat.V
set_option linter.unusedVariables false
theorem Find_first (ms : List T_api_Machine) (name : ByteArray) (hl : ms.length≤1000) : ∃ r,yard_Find ms name = some r∧firstAt ms.length (fun k =>∃ h : k < ms.length,ms[k].Name = name) r:=by
 unfold yard_Find yard_first_yard_Find_1
 obtain ⟨r,h1,h2⟩:=loopF (F:=fun n i =>yard_first_yard_Find_1.l1 (ms.length : Int) ms name n i) (len:=ms.length) (p:=fun j =>∃ h : j < ms.length,ms[j].Name = name) (by omega) (fun n j hj =>by
  rw [yard_first_yard_Find_1.l1,if_pos (by simp; omega),wk1 (by omega)]
  unfold yard_Find_1
  rw [glk hj]
  simp only [Option.bind_some,seq_eq]
  by_cases h : ms[j].Name = name
  ·rw [if_pos (by simpa using h)]; exact .inl ⟨rfl,hj,h⟩
  ·rw [if_neg (by simpa using h)]; exact .inr ⟨rfl,fun ⟨_,h'⟩ =>h h'⟩) (fun n =>by rw [yard_first_yard_Find_1.l1,if_neg (by simp)])
 exact ⟨r,by rw [h1]; rfl,h2⟩
end Go.Proofs.YtkondhigbbgidaaGreat.M
/-
  Plain laws of fit: why a pod cannot run on a machine of that name. Own text.
-/
namespace Go.Proofs.YtkondhigbbgidaaGreat.M
open Go Go.Proofs Go.Proofs.YtkondhigbbgidaaGreat.V
set_option linter.unusedVariables false
end Go.Proofs.YtkondhigbbgidaaGreat.M
/-
  Plain laws: what the document says is on a machine. Own text.
-/
namespace Go.Proofs.YtkondhigbbgidaaGreat.M
open Go Go.Proofs Go.Proofs.YtkondhigbbgidaaGreat.V
set_option linter.unusedVariables false
end Go.Proofs.YtkondhigbbgidaaGreat.M

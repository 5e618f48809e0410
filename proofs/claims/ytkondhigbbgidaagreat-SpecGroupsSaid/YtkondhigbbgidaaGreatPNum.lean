/-
  Printed by a program of this session out of the loaded functions: models and their proofs. Own text.
-/
import Derived.Test.YtkondhigbbgidaaGreatPSp10
/-
  Plain laws of words: the program's and the document's are alike. Own text.
-/
namespace Go.Proofs.YtkondhigbbgidaaGreat.M
open Go Go.Proofs Go.Proofs.YtkondhigbbgidaaGreat.V
set_option linter.unusedVariables false
set_option linter.unusedSimpArgs false
end Go.Proofs.YtkondhigbbgidaaGreat.M
/-
  Plain laws of numbers: the program's and the document's are alike. Own text.
-/
namespace Go.Proofs.YtkondhigbbgidaaGreat.M
open Go Go.Proofs Go.Proofs.YtkondhigbbgidaaGreat.V
set_option linter.unusedVariables false
set_option linter.unusedSimpArgs false
end Go.Proofs.YtkondhigbbgidaaGreat.M
/-
  Plain laws: words, told alike; with what stands in PNumE. Own text.
-/
namespace Go.Proofs.YtkondhigbbgidaaGreat.M
open Go Go.Proofs Go.Proofs.YtkondhigbbgidaaGreat.V
set_option linter.unusedVariables false
set_option linter.unusedSimpArgs false
theorem Word_same {s : ByteArray} (h : s.size≤300) : lex_Word s = ref01_Word s:=by
 obtain ⟨b,h1,h2⟩:=Word_eq (s:=s) (by omega)
 rw [h1,h2]
theorem lmaybe_same {s : ByteArray} (h : s.size≤300) : labels_maybe s = ref05_maybe s:=by
 unfold labels_maybe ref05_maybe; rw [Word_same h]
theorem tmaybe_same {s : ByteArray} (h : s.size≤300) : taints_maybe s = ref06_maybe s:=by
 unfold taints_maybe ref06_maybe; rw [Word_same h]
theorem smaybe_same {s : ByteArray} (h : s.size≤300) : spec_maybe s = ref07_maybe s:=by
 unfold spec_maybe ref07_maybe; rw [Word_same h]
end Go.Proofs.YtkondhigbbgidaaGreat.M

/-
  Printed by a program of this session out of the loaded functions: models and their proofs. Own text.
-/
import Derived.Test.YtkondhigbbgidaaGreatPSn2
import Derived.Test.YtkondhigbbgidaaGreatPOn9
import Derived.Test.YtkondhigbbgidaaGreatDDF
/-
  Plain laws: where a pod can be. Own text.
-/
namespace Go.Proofs.YtkondhigbbgidaaGreat.M
open Go Go.Proofs Go.Proofs.YtkondhigbbgidaaGreat.V
set_option linter.unusedVariables false
set_option maxRecDepth 20000
set_option maxHeartbeats 4000000
end Go.Proofs.YtkondhigbbgidaaGreat.M
/-
  Plain laws: where a pod can be. Own text.
-/
namespace Go.Proofs.YtkondhigbbgidaaGreat.M
open Go Go.Proofs Go.Proofs.YtkondhigbbgidaaGreat.V
set_option linter.unusedVariables false
set_option maxRecDepth 20000
set_option maxHeartbeats 4000000
end Go.Proofs.YtkondhigbbgidaaGreat.M
/-
  Plain law: FitTells answers true. Own text.
-/
namespace Go.Proofs.YtkondhigbbgidaaGreat.M
open Go Go.Proofs Go.Proofs.YtkondhigbbgidaaGreat.V
set_option linter.unusedVariables false
theorem Texts_self {l : List ByteArray} (hl : l.length≤1000) : ref09_Texts l l = some true:=by
 unfold ref09_Texts
 rw [if_neg (by simp)]
 have:=idxAll (F:=fun n i =>ref09_Texts.l1 l l n i) (len:=l.length) (r0:=false) (fun _ =>true) (by omega) (fun n k hk =>by
  rw [ref09_Texts.l1,if_pos (dlt hk),glk hk,wk1 (by omega)]
  simp only [Option.bind_some,seq_eq]
  rw [if_neg (by simp)]; rfl) (fun n =>by rw [ref09_Texts.l1,if_neg dnl])
 rw [show ref09_Texts.l1 l l FU 0 = _ from this,if_pos (allN_iff.2 fun _ _ =>rfl)]
 rfl
end Go.Proofs.YtkondhigbbgidaaGreat.M

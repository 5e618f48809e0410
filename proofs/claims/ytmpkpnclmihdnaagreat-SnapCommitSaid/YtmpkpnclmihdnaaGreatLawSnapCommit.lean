/-
  The law SnapCommit holds of every input: its row, out of the model's plain law. No condition.
-/
import Derived.Test.YtmpkpnclmihdnaaGreatRNO
import Derived.Test.YtmpkpnclmihdnaaGreatPSn5
import Derived.Test.YtmpkpnclmihdnaaGreatRows
import Derived.WalkKit
import Derived.ProofKit
import Derived.OpenShut
import Derived.ShutString
import Derived.ChangeOld
import Derived.Below
import Derived.SizedLaws
import Derived.Carry
namespace Go.Proofs.YtmpkpnclmihdnaaGreat.snapCommit
open Go.ChangeShapes Go.WideShapes Go.ChangeAt Go.RowKit
open Go.ChangeMaps (open_string shut_string)
open Go.Proofs.YtmpkpnclmihdnaaGreat.V Go.Proofs.YtmpkpnclmihdnaaGreat.M
set_option linter.unusedVariables false
theorem own : ownKnob Tryz.prog.godebug = none := by kernel_rfl
theorem laidOut : laidOutB Tryz.prog = true := by kernel_rfl
set_option maxRecDepth 100000 in
theorem lifted (os : Os) (started : os.Started) (H : Type) (enc : TypeId × Value → H) :
    ReturnsInHanded {} Tryz.checked os 10 .any (Rows.snapCommitSpec.pre6 enc Tryz.prog Tryz.f10 Rows.snapCommitRow.domain false) (Rows.snapCommitSpec.post enc Tryz.prog Tryz.f10 false true false false) := by
  refine returnsInHanded_of_change_sized (C := Tryz.checked) own started (by kernel_rfl) Tryz.func10
    (ChangeSpec.witness6 (enc := enc) (C := Tryz.checked) false ⟨#[], #[.slice none 0 0, .slice none 0 0, .slice none 0 0], []⟩ 8 (by kernel_rfl) (by kernel_rfl) (by kernel_rfl) (by kernel_rfl)) ?_
  intro W base args ds gs before hval0 hW hcnd hsz0 _
  have hval : ∀ (j : Nat) t v, Tryz.f10.params[j]? = some t → args[j]? = some v → Value.okWide Tryz.prog W .any base t v := hval0
  have hW' := hW
  obtain ⟨p, q, hA0, hV, rfl, hfz, hnd⟩ := hW
  have hA : DataW.TrodAll enc Tryz.prog W 0 (fun _ => true) true Tryz.f10.params.toList args.toList ds p := hA0
  rw [Tryz.params10] at hA hval
  obtain ⟨v0, vs0, d0, ds0, p0, q0, hargs, rfl, rfl, h0, r0⟩ := trodAll_cons hA
  obtain ⟨v1, vs1, d1, ds1, p1, q1, rfl, rfl, rfl, h1, r1⟩ := trodAll_cons r0
  obtain ⟨v2, vs2, d2, ds2, p2, q2, rfl, rfl, rfl, h2, r2⟩ := trodAll_cons r1
  obtain ⟨rfl, rfl, rfl⟩ := trodAll_nil r2
  obtain rfl : args = #[v0, v1, v2] := by cases args; simp_all
  obtain ⟨rfl, rfl⟩ := trodVars_none hV
  obtain ⟨a0, k0, y0⟩ := (op22 W).arg (okWide_slice_cells Tryz.underlying22 (hval 0 22 v0 rfl rfl)) h0
  obtain ⟨a1, k1, y1⟩ := (op23 W).arg (okWide_slice_cells Tryz.underlying23 (hval 1 23 v1 rfl rfl)) h1
  obtain ⟨a2, k2, y2⟩ := (op66 W).arg (okWide_slice_cells Tryz.underlying66 (hval 2 66 v2 rfl rfl)) h2
  clear hA0 hval0 hsz0
  refine (VC.law (law13_SnapCommit_ok a0 a1 a2 true (SnapCommit_true a0 a1 a2 k0 k1 k2)) rfl (argsA (argsL y0 (argsL y1 (argsL y2 argsN))))).mono fun e W' ⟨he, bel⟩ => ?_
  subst he
  exact ⟨_, rfl, _, _, _, [], _, [], hW', trodAll_mk1 (shut_bool Tryz.underlying4 _), (trodAll_cons_mk (Below.trod laidOut (by kernel_rfl) (of_decide_eq_true (by kernel_rfl)) h0 bel (trod_blk h0)) (trodAll_cons_mk (Below.trod laidOut (by kernel_rfl) (of_decide_eq_true (by kernel_rfl)) h1 bel (trod_blk h1)) (trodAll_cons_mk (Below.trod laidOut (by kernel_rfl) (of_decide_eq_true (by kernel_rfl)) h2 bel (trod_blk h2)) trodAll_mk0))), rfl, bel.frame _, fun h => by cases h⟩
theorem over : Rows.snapCommitRow.holds Tryz.pinned (OpenSpec.ofChange Rows.snapCommitSpec) :=
  OpenClaim.holds_of_wide 10 Tryz.f10 rfl rfl rfl rfl rfl rfl rfl ⟨rfl, rfl, rfl, rfl, rfl⟩ rfl rfl rfl rfl rfl (by kernel_rfl) Tryz.func10 (by kernel_rfl)
    (of_decide_eq_true (by kernel_rfl)) (by unfold Func.isWrapper; first | (rw [if_pos (by decide +kernel)]; kernel_rfl) | (rw [if_neg (by decide +kernel)]; exact ⟨rfl, rfl⟩))
    (fun os started H enc _ => lifted os started H enc)
end Go.Proofs.YtmpkpnclmihdnaaGreat.snapCommit
namespace Go.Proofs.YtmpkpnclmihdnaaGreat
/-- The row, under a short name, for the claim. -/
theorem snapCommit_holds : Rows.SnapCommitSaid := snapCommit.over
end Go.Proofs.YtmpkpnclmihdnaaGreat

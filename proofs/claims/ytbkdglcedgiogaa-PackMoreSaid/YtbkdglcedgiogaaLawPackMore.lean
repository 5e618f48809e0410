/-
  The law PackMore holds of every input: its row, out of the model's plain law. No condition.
-/
import Derived.Test.YtbkdglcedgiogaaRMO
import Derived.Test.YtbkdglcedgiogaaPPk3
import Derived.Test.YtbkdglcedgiogaaVWt
import Derived.Test.YtbkdglcedgiogaaRows
import Derived.WalkKit
import Derived.ProofKit
import Derived.OpenShut
import Derived.ShutString
import Derived.ChangeOld
import Derived.Below
import Derived.SizedLaws
import Derived.Carry
namespace Go.Proofs.Ytbkdglcedgiogaa.packMore
open Go.ChangeShapes Go.WideShapes Go.ChangeAt Go.RowKit
open Go.ChangeMaps (open_string shut_string)
open Go.Proofs.Ytbkdglcedgiogaa.V Go.Proofs.Ytbkdglcedgiogaa.M
set_option linter.unusedVariables false
theorem own : ownKnob Try.prog.godebug = none := by kernel_rfl
theorem laidOut : laidOutB Try.prog = true := by kernel_rfl
set_option maxRecDepth 100000 in
theorem lifted (os : Os) (started : os.Started) (H : Type) (enc : TypeId × Value → H) :
    ReturnsInHanded {} Try.checked os 3 .any (Rows.packMoreSpec.pre6 enc Try.prog Try.f3 Rows.packMoreRow.domain false) (Rows.packMoreSpec.post enc Try.prog Try.f3 false true false false) := by
  refine returnsInHanded_of_change_sized (C := Try.checked) own started (by kernel_rfl) Try.func3
    (ChangeSpec.witness6 (enc := enc) (C := Try.checked) false ⟨#[], #[.agg #[.slice none 0 0, .slice none 0 0, .slice none 0 0, .string ByteArray.empty, .string ByteArray.empty, .int .i64 0, .int .i64 0, .int .i64 0, .int .i64 0, .int .i64 0, .slice none 0 0, .slice none 0 0, .bool false, .int .i64 0], .int .u8 0], []⟩ 8 (by kernel_rfl) (by kernel_rfl) (by kernel_rfl) (by kernel_rfl)) ?_
  intro W base args ds gs before hval0 hW hcnd hsz0 _
  have hval : ∀ (j : Nat) t v, Try.f3.params[j]? = some t → args[j]? = some v → Value.okWide Try.prog W .any base t v := hval0
  have hW' := hW
  obtain ⟨p, q, hA0, hV, rfl, hfz, hnd⟩ := hW
  have hA : DataW.TrodAll enc Try.prog W 0 (fun _ => true) true Try.f3.params.toList args.toList ds p := hA0
  rw [Try.params3] at hA hval
  obtain ⟨v0, vs0, d0, ds0, p0, q0, hargs, rfl, rfl, h0, r0⟩ := trodAll_cons hA
  obtain ⟨v1, vs1, d1, ds1, p1, q1, rfl, rfl, rfl, h1, r1⟩ := trodAll_cons r0
  obtain ⟨rfl, rfl, rfl⟩ := trodAll_nil r1
  obtain rfl : args = #[v0, v1] := by cases args; simp_all
  obtain ⟨rfl, rfl⟩ := trodVars_none hV
  obtain ⟨a0, k0, y0⟩ := (op32 W).argS (sz := 14) (by kernel_rfl) (hval 0 32 v0 rfl rfl) h0
  obtain ⟨a1, k1, y1⟩ := (op5 W).arg (okWide_int_cells Try.underlying5 (hval 1 5 v1 rfl rfl)) h1
  have z0 : (d0.weights Try.prog 32).all (· ≤ reachBytes) = true := List.all_eq_true.2 fun z hz => List.all_eq_true.1 hsz0 z (weights_in _ _ _ 0 32 d0 (by rw [Try.params3]; rfl) rfl z hz)
  have w0_0 : a0.Ms.length * 128 ≤ 140737488351232 := by
    have q := wt_field (n := 128) 0 0 22 (by kernel_rfl) Try.underlying22 (hval 0 32 v0 rfl rfl) h0 y0 rfl z0 (by kernel_rfl)
    rwa [List.length_map] at q
  have w0_1 : a0.Bs.length * 288 ≤ 140737488351232 := by
    have q := wt_field (n := 288) 1 1 23 (by kernel_rfl) Try.underlying23 (hval 0 32 v0 rfl rfl) h0 y0 rfl z0 (by kernel_rfl)
    rwa [List.length_map] at q
  have w0_2 : a0.L.length * 272 ≤ 140737488351232 := by
    have q := wt_field (n := 272) 2 2 24 (by kernel_rfl) Try.underlying24 (hval 0 32 v0 rfl rfl) h0 y0 rfl z0 (by kernel_rfl)
    rwa [List.length_map] at q
  have z1 : (d1.weights Try.prog 5).all (· ≤ reachBytes) = true := List.all_eq_true.2 fun z hz => List.all_eq_true.1 hsz0 z (weights_in _ _ _ 1 5 d1 (by rw [Try.params3]; rfl) rfl z hz)
  clear hA0 hval0 hsz0
  refine (VC.law (law19_PackMore_ok a0 a1 true (PackMore_true a0 a1 k0 k1 w0_0 w0_1 w0_2)) rfl (argsA (argsL y0 (argsL y1 argsN)))).mono fun e W' ⟨he, bel⟩ => ?_
  subst he
  exact ⟨_, rfl, _, _, _, [], _, [], hW', trodAll_mk1 (shut_bool Try.underlying4 _), (trodAll_cons_mk (Below.trod laidOut (by kernel_rfl) (of_decide_eq_true (by kernel_rfl)) h0 bel (trod_blk h0)) (trodAll_cons_mk (Below.trod laidOut (by kernel_rfl) (of_decide_eq_true (by kernel_rfl)) h1 bel (trod_blk h1)) trodAll_mk0)), rfl, bel.frame _, fun h => by cases h⟩
theorem over : Rows.packMoreRow.holds Try.pinned (OpenSpec.ofChange Rows.packMoreSpec) :=
  OpenClaim.holds_of_wide 3 Try.f3 rfl rfl rfl rfl rfl rfl rfl ⟨rfl, rfl, rfl, rfl, rfl⟩ rfl rfl rfl rfl rfl (by kernel_rfl) Try.func3 (by kernel_rfl)
    (of_decide_eq_true (by kernel_rfl)) (by unfold Func.isWrapper; first | (rw [if_pos (by decide +kernel)]; kernel_rfl) | (rw [if_neg (by decide +kernel)]; exact ⟨rfl, rfl⟩))
    (fun os started H enc _ => lifted os started H enc)
end Go.Proofs.Ytbkdglcedgiogaa.packMore
namespace Go.Proofs.Ytbkdglcedgiogaa
/-- The row, under a short name, for the claim. -/
theorem packMore_holds : Rows.PackMoreSaid := packMore.over
end Go.Proofs.Ytbkdglcedgiogaa

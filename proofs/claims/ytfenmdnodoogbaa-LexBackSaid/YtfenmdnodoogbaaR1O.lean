/-
  Printed by a program of this session out of the loaded functions: models and their proofs. Own text.
-/
import Derived.Test.YtfenmdnodoogbaaVOpen
import Derived.Test.YtfenmdnodoogbaaR1T
namespace Go.Proofs.Ytfenmdnodoogbaa.M
open Go Go.Proofs Go.Proofs.Ytfenmdnodoogbaa.V
set_option linter.unusedVariables false
set_option maxRecDepth 20000
set_option maxHeartbeats 4000000
theorem op9 (W : World) : Opens Try.prog W 9 (fun b : ByteArray => [VV.str b]) (fun b => b.size ≤ maxLen) := .str Try.underlying9
theorem op3 (W : World) : Opens Try.prog W 3 (fun n : Int => [VV.int .i64 n]) (fun n => IntKind.i64.min ≤ n ∧ n ≤ IntKind.i64.max) := .int Try.underlying3
def T_api_Token.ok (x : T_api_Token) : Prop := (IntKind.i64.min ≤ x.Kind ∧ x.Kind ≤ IntKind.i64.max) ∧ x.Text.size ≤ maxLen ∧ (IntKind.i64.min ≤ x.At ∧ x.At ≤ IntKind.i64.max) ∧ (IntKind.i64.min ≤ x.Line ∧ x.Line ≤ IntKind.i64.max) ∧ (IntKind.i64.min ≤ x.Col ∧ x.Col ≤ IntKind.i64.max) ∧ True
theorem op28 (W : World) : Opens Try.prog W 28 T_api_Token.cells T_api_Token.ok := fun H enc fuel cs x h => by
  obtain ⟨hl, m, hf⟩ := trod_flds (sz := 5) (by kernel_rfl) h
  obtain ⟨x0, h0⟩ := hf 0 0 1 3 (by kernel_rfl)
  obtain ⟨a0, k0, c0⟩ := op3 W H enc _ _ _ h0
  obtain ⟨x1, h1⟩ := hf 1 1 1 9 (by kernel_rfl)
  obtain ⟨a1, k1, c1⟩ := op9 W H enc _ _ _ h1
  obtain ⟨x2, h2⟩ := hf 2 2 1 3 (by kernel_rfl)
  obtain ⟨a2, k2, c2⟩ := op3 W H enc _ _ _ h2
  obtain ⟨x3, h3⟩ := hf 3 3 1 3 (by kernel_rfl)
  obtain ⟨a3, k3, c3⟩ := op3 W H enc _ _ _ h3
  obtain ⟨x4, h4⟩ := hf 4 4 1 3 (by kernel_rfl)
  obtain ⟨a4, k4, c4⟩ := op3 W H enc _ _ _ h4
  have c : OC Try.prog W cs _ := OC.all (.fld c0 (.fld c1 (.fld c2 (.fld c3 (.fld c4 (.fin hl))))))
  exact ⟨⟨a0, a1, a2, a3, a4⟩, ⟨k0, k1, k2, k3, k4, trivial⟩, c⟩
theorem op26 (W : World) : Opens Try.prog W 26 (fun l : List T_api_Token => [VV.list 28 (l.map T_api_Token.vv)]) (fun l => l.length ≤ maxLen ∧ ∀ a, a ∈ l → T_api_Token.ok a) := .list T_api_Token.vv (fun _ => rfl) (by decide) el26 (fun a => ⟨rfl, List.all_eq_true.1 rfl⟩) (op28 W)
end Go.Proofs.Ytfenmdnodoogbaa.M

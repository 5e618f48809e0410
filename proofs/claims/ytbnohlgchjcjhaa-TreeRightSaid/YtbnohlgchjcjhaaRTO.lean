/-
  Printed by a program of this session out of the loaded functions: models and their proofs. Own text.
-/
import Derived.Test.YtbnohlgchjcjhaaVOpen
import Derived.Test.YtbnohlgchjcjhaaRTT
namespace Go.Proofs.Ytbnohlgchjcjhaa.M
open Go Go.Proofs Go.Proofs.Ytbnohlgchjcjhaa.V
set_option linter.unusedVariables false
set_option maxRecDepth 20000
set_option maxHeartbeats 4000000
theorem op3 (W : World) : Opens Try.prog W 3 (fun n : Int => [VV.int .i64 n]) (fun n => IntKind.i64.min ≤ n ∧ n ≤ IntKind.i64.max) := .int Try.underlying3
theorem op9 (W : World) : Opens Try.prog W 9 (fun b : ByteArray => [VV.str b]) (fun b => b.size ≤ maxLen) := .str Try.underlying9
def T_api_Node.ok (x : T_api_Node) : Prop := (IntKind.i64.min ≤ x.Kind ∧ x.Kind ≤ IntKind.i64.max) ∧ x.Text.size ≤ maxLen ∧ (IntKind.i64.min ≤ x.Kids ∧ x.Kids ≤ IntKind.i64.max) ∧ (IntKind.i64.min ≤ x.At ∧ x.At ≤ IntKind.i64.max) ∧ True
theorem op40 (W : World) : Opens Try.prog W 40 T_api_Node.cells T_api_Node.ok := fun H enc fuel cs x h => by
  obtain ⟨hl, m, hf⟩ := trod_flds (sz := 4) (by kernel_rfl) h
  obtain ⟨x0, h0⟩ := hf 0 0 1 3 (by kernel_rfl)
  obtain ⟨a0, k0, c0⟩ := op3 W H enc _ _ _ h0
  obtain ⟨x1, h1⟩ := hf 1 1 1 9 (by kernel_rfl)
  obtain ⟨a1, k1, c1⟩ := op9 W H enc _ _ _ h1
  obtain ⟨x2, h2⟩ := hf 2 2 1 3 (by kernel_rfl)
  obtain ⟨a2, k2, c2⟩ := op3 W H enc _ _ _ h2
  obtain ⟨x3, h3⟩ := hf 3 3 1 3 (by kernel_rfl)
  obtain ⟨a3, k3, c3⟩ := op3 W H enc _ _ _ h3
  have c : OC Try.prog W cs _ := OC.all (.fld c0 (.fld c1 (.fld c2 (.fld c3 (.fin hl)))))
  exact ⟨⟨a0, a1, a2, a3⟩, ⟨k0, k1, k2, k3, trivial⟩, c⟩
theorem op22 (W : World) : Opens Try.prog W 22 (fun l : List T_api_Node => [VV.list 40 (l.map T_api_Node.vv)]) (fun l => l.length ≤ maxLen ∧ ∀ a, a ∈ l → T_api_Node.ok a) := .list T_api_Node.vv (fun _ => rfl) (by decide) el22 (fun a => ⟨rfl, List.all_eq_true.1 rfl⟩) (op40 W)
end Go.Proofs.Ytbnohlgchjcjhaa.M

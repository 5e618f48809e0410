/-
  Printed by a program of this session out of the loaded functions: models and their proofs. Own text.
-/
import Derived.Test.YtkondhigbbgidaaGreatVOpen
import Derived.Test.YtkondhigbbgidaaGreatSGT
namespace Go.Proofs.YtkondhigbbgidaaGreat.M
open Go Go.Proofs Go.Proofs.YtkondhigbbgidaaGreat.V
open Go.IntKind (i64)
set_option linter.unusedVariables false
set_option linter.unusedSimpArgs false
set_option maxRecDepth 20000
set_option maxHeartbeats 40000000
theorem op9 (W : World) : Opens Tryz.prog W 9 (fun b : ByteArray => [VV.str b]) (fun b => b.size ≤ maxLen) := .str Tryz.underlying9
theorem op3 (W : World) : Opens Tryz.prog W 3 (fun n : Int => [VV.int .i64 n]) (fun n => IntKind.i64.min ≤ n ∧ n ≤ IntKind.i64.max) := .int Tryz.underlying3
def T_api_Res.ok (x : T_api_Res) : Prop := (IntKind.i64.min ≤ x.Cpu ∧ x.Cpu ≤ IntKind.i64.max) ∧ (IntKind.i64.min ≤ x.Mem ∧ x.Mem ≤ IntKind.i64.max) ∧ (IntKind.i64.min ≤ x.Disk ∧ x.Disk ≤ IntKind.i64.max) ∧ (IntKind.i64.min ≤ x.Pods ∧ x.Pods ≤ IntKind.i64.max) ∧ (IntKind.i64.min ≤ x.Dev ∧ x.Dev ≤ IntKind.i64.max) ∧ True
theorem op23 (W : World) : Opens Tryz.prog W 23 T_api_Res.cells T_api_Res.ok := fun H enc fuel cs x h => by
  obtain ⟨hl, m, hf⟩ := trod_flds (sz := 5) (by kernel_rfl) h
  obtain ⟨x0, h0⟩ := hf 0 0 1 3 (by kernel_rfl)
  obtain ⟨a0, k0, c0⟩ := op3 W H enc _ _ _ h0
  obtain ⟨x1, h1⟩ := hf 1 1 1 3 (by kernel_rfl)
  obtain ⟨a1, k1, c1⟩ := op3 W H enc _ _ _ h1
  obtain ⟨x2, h2⟩ := hf 2 2 1 3 (by kernel_rfl)
  obtain ⟨a2, k2, c2⟩ := op3 W H enc _ _ _ h2
  obtain ⟨x3, h3⟩ := hf 3 3 1 3 (by kernel_rfl)
  obtain ⟨a3, k3, c3⟩ := op3 W H enc _ _ _ h3
  obtain ⟨x4, h4⟩ := hf 4 4 1 3 (by kernel_rfl)
  obtain ⟨a4, k4, c4⟩ := op3 W H enc _ _ _ h4
  have c : OC Tryz.prog W cs _ := OC.all (.fld c0 (.fld c1 (.fld c2 (.fld c3 (.fld c4 (.fin hl))))))
  exact ⟨⟨a0, a1, a2, a3, a4⟩, ⟨k0, k1, k2, k3, k4, trivial⟩, c⟩
def T_api_Label.ok (x : T_api_Label) : Prop := x.Key.size ≤ maxLen ∧ x.Val.size ≤ maxLen ∧ True
theorem op141 (W : World) : Opens Tryz.prog W 141 T_api_Label.cells T_api_Label.ok := fun H enc fuel cs x h => by
  obtain ⟨hl, m, hf⟩ := trod_flds (sz := 2) (by kernel_rfl) h
  obtain ⟨x0, h0⟩ := hf 0 0 1 9 (by kernel_rfl)
  obtain ⟨a0, k0, c0⟩ := op9 W H enc _ _ _ h0
  obtain ⟨x1, h1⟩ := hf 1 1 1 9 (by kernel_rfl)
  obtain ⟨a1, k1, c1⟩ := op9 W H enc _ _ _ h1
  have c : OC Tryz.prog W cs _ := OC.all (.fld c0 (.fld c1 (.fin hl)))
  exact ⟨⟨a0, a1⟩, ⟨k0, k1, trivial⟩, c⟩
theorem op24 (W : World) : Opens Tryz.prog W 24 (fun l : List T_api_Label => [VV.list 141 (l.map T_api_Label.vv)]) (fun l => l.length ≤ maxLen ∧ ∀ a, a ∈ l → T_api_Label.ok a) := .list T_api_Label.vv (fun _ => rfl) (by decide) el24 (fun a => ⟨rfl, List.all_eq_true.1 rfl⟩) (op141 W)
def T_api_Taint.ok (x : T_api_Taint) : Prop := x.Key.size ≤ maxLen ∧ x.Val.size ≤ maxLen ∧ (IntKind.i64.min ≤ x.Effect ∧ x.Effect ≤ IntKind.i64.max) ∧ True
theorem op143 (W : World) : Opens Tryz.prog W 143 T_api_Taint.cells T_api_Taint.ok := fun H enc fuel cs x h => by
  obtain ⟨hl, m, hf⟩ := trod_flds (sz := 3) (by kernel_rfl) h
  obtain ⟨x0, h0⟩ := hf 0 0 1 9 (by kernel_rfl)
  obtain ⟨a0, k0, c0⟩ := op9 W H enc _ _ _ h0
  obtain ⟨x1, h1⟩ := hf 1 1 1 9 (by kernel_rfl)
  obtain ⟨a1, k1, c1⟩ := op9 W H enc _ _ _ h1
  obtain ⟨x2, h2⟩ := hf 2 2 1 3 (by kernel_rfl)
  obtain ⟨a2, k2, c2⟩ := op3 W H enc _ _ _ h2
  have c : OC Tryz.prog W cs _ := OC.all (.fld c0 (.fld c1 (.fld c2 (.fin hl))))
  exact ⟨⟨a0, a1, a2⟩, ⟨k0, k1, k2, trivial⟩, c⟩
theorem op39 (W : World) : Opens Tryz.prog W 39 (fun l : List T_api_Taint => [VV.list 143 (l.map T_api_Taint.vv)]) (fun l => l.length ≤ maxLen ∧ ∀ a, a ∈ l → T_api_Taint.ok a) := .list T_api_Taint.vv (fun _ => rfl) (by decide) el39 (fun a => ⟨rfl, List.all_eq_true.1 rfl⟩) (op143 W)
theorem op4 (W : World) : Opens Tryz.prog W 4 (fun b : Bool => [VV.bool b]) (fun _ => True) := .bool Tryz.underlying4
def T_api_Machine.ok (x : T_api_Machine) : Prop := x.Name.size ≤ maxLen ∧ x.Group.size ≤ maxLen ∧ T_api_Res.ok x.Has ∧ (x.Labels.length ≤ maxLen ∧ ∀ a, a ∈ x.Labels → T_api_Label.ok a) ∧ (x.Taints.length ≤ maxLen ∧ ∀ a, a ∈ x.Taints → T_api_Taint.ok a) ∧ True ∧ True
theorem op41 (W : World) : Opens Tryz.prog W 41 T_api_Machine.cells T_api_Machine.ok := fun H enc fuel cs x h => by
  obtain ⟨hl, m, hf⟩ := trod_flds (sz := 10) (by kernel_rfl) h
  obtain ⟨x0, h0⟩ := hf 0 0 1 9 (by kernel_rfl)
  obtain ⟨a0, k0, c0⟩ := op9 W H enc _ _ _ h0
  obtain ⟨x1, h1⟩ := hf 1 1 1 9 (by kernel_rfl)
  obtain ⟨a1, k1, c1⟩ := op9 W H enc _ _ _ h1
  obtain ⟨x2, h2⟩ := hf 2 2 5 23 (by kernel_rfl)
  obtain ⟨a2, k2, c2⟩ := op23 W H enc _ _ _ h2
  obtain ⟨x3, h3⟩ := hf 3 7 1 24 (by kernel_rfl)
  obtain ⟨a3, k3, c3⟩ := op24 W H enc _ _ _ h3
  obtain ⟨x4, h4⟩ := hf 4 8 1 39 (by kernel_rfl)
  obtain ⟨a4, k4, c4⟩ := op39 W H enc _ _ _ h4
  obtain ⟨x5, h5⟩ := hf 5 9 1 4 (by kernel_rfl)
  obtain ⟨a5, k5, c5⟩ := op4 W H enc _ _ _ h5
  have c : OC Tryz.prog W cs _ := OC.all (.fld c0 (.fld c1 (.fld c2 (.fld c3 (.fld c4 (.fld c5 (.fin hl)))))))
  exact ⟨⟨a0, a1, a2, a3, a4, a5⟩, ⟨k0, k1, k2, k3, k4, k5, trivial⟩, c⟩
def T_api_Group.ok (x : T_api_Group) : Prop := x.Name.size ≤ maxLen ∧ (IntKind.i64.min ≤ x.Min ∧ x.Min ≤ IntKind.i64.max) ∧ (IntKind.i64.min ≤ x.Max ∧ x.Max ≤ IntKind.i64.max) ∧ T_api_Machine.ok x.Like ∧ (IntKind.i64.min ≤ x.Price ∧ x.Price ≤ IntKind.i64.max) ∧ (IntKind.i64.min ≤ x.Rank ∧ x.Rank ≤ IntKind.i64.max) ∧ True
theorem op48 (W : World) : Opens Tryz.prog W 48 T_api_Group.cells T_api_Group.ok := fun H enc fuel cs x h => by
  obtain ⟨hl, m, hf⟩ := trod_flds (sz := 15) (by kernel_rfl) h
  obtain ⟨x0, h0⟩ := hf 0 0 1 9 (by kernel_rfl)
  obtain ⟨a0, k0, c0⟩ := op9 W H enc _ _ _ h0
  obtain ⟨x1, h1⟩ := hf 1 1 1 3 (by kernel_rfl)
  obtain ⟨a1, k1, c1⟩ := op3 W H enc _ _ _ h1
  obtain ⟨x2, h2⟩ := hf 2 2 1 3 (by kernel_rfl)
  obtain ⟨a2, k2, c2⟩ := op3 W H enc _ _ _ h2
  obtain ⟨x3, h3⟩ := hf 3 3 10 41 (by kernel_rfl)
  obtain ⟨a3, k3, c3⟩ := op41 W H enc _ _ _ h3
  obtain ⟨x4, h4⟩ := hf 4 13 1 3 (by kernel_rfl)
  obtain ⟨a4, k4, c4⟩ := op3 W H enc _ _ _ h4
  obtain ⟨x5, h5⟩ := hf 5 14 1 3 (by kernel_rfl)
  obtain ⟨a5, k5, c5⟩ := op3 W H enc _ _ _ h5
  have c : OC Tryz.prog W cs _ := OC.all (.fld c0 (.fld c1 (.fld c2 (.fld c3 (.fld c4 (.fld c5 (.fin hl)))))))
  exact ⟨⟨a0, a1, a2, a3, a4, a5⟩, ⟨k0, k1, k2, k3, k4, k5, trivial⟩, c⟩
end Go.Proofs.YtkondhigbbgidaaGreat.M

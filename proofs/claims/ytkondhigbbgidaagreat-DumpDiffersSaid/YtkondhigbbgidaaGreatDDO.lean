/-
  Printed by a program of this session out of the loaded functions: models and their proofs. Own text.
-/
import Derived.Test.YtkondhigbbgidaaGreatVOpen
import Derived.Test.YtkondhigbbgidaaGreatDDT
namespace Go.Proofs.YtkondhigbbgidaaGreat.M
open Go Go.Proofs Go.Proofs.YtkondhigbbgidaaGreat.V
open Go.IntKind (i64)
set_option linter.unusedVariables false
set_option linter.unusedSimpArgs false
set_option maxRecDepth 20000
set_option maxHeartbeats 40000000
theorem op9 (W : World) : Opens Tryz.prog W 9 (fun b : ByteArray => [VV.str b]) (fun b => b.size ≤ maxLen) := .str Tryz.underlying9
theorem op3 (W : World) : Opens Tryz.prog W 3 (fun n : Int => [VV.int .i64 n]) (fun n => IntKind.i64.min ≤ n ∧ n ≤ IntKind.i64.max) := .int Tryz.underlying3
def T_api_Res.ok (x : T_api_Res) : Prop := (IntKind.i64.min ≤ x.Cpu ∧ x.Cpu ≤ IntKind.i64.max) ∧ (IntKind.i64.min ≤ x.Mem ∧ x.Mem ≤ IntKind.i64.max) ∧ (IntKind.i64.min ≤ x.Disk ∧ x.Disk ≤ IntKind.i64.max) ∧ (IntKind.i64.min ≤ x.Pods ∧ x.Pods ≤ IntKind.i64.max) ∧ (IntKind.i64.min ≤ x.Dev ∧ x.Dev ≤ IntKind.i64.max) ∧ True
theorem op23 (W : World) : Opens Tryz.prog W 23 T_api_Res.cells T_api_Res.ok := fun H enc fuel cs x h => by
  obtain ⟨hl, m, hf⟩ := trod_flds (sz := 5) (by kernel_rfl) h
  obtain ⟨x0, h0⟩ := hf 0 0 1 3 (by kernel_rfl)
  obtain ⟨a0, k0, c0⟩ := op3 W H enc _ _ _ h0
  obtain ⟨x1, h1⟩ := hf 1 1 1 3 (by kernel_rfl)
  obtain ⟨a1, k1, c1⟩ := op3 W H enc _ _ _ h1
  obtain ⟨x2, h2⟩ := hf 2 2 1 3 (by kernel_rfl)
  obtain ⟨a2, k2, c2⟩ := op3 W H enc _ _ _ h2
  obtain ⟨x3, h3⟩ := hf 3 3 1 3 (by kernel_rfl)
  obtain ⟨a3, k3, c3⟩ := op3 W H enc _ _ _ h3
  obtain ⟨x4, h4⟩ := hf 4 4 1 3 (by kernel_rfl)
  obtain ⟨a4, k4, c4⟩ := op3 W H enc _ _ _ h4
  have c : OC Tryz.prog W cs _ := OC.all (.fld c0 (.fld c1 (.fld c2 (.fld c3 (.fld c4 (.fin hl))))))
  exact ⟨⟨a0, a1, a2, a3, a4⟩, ⟨k0, k1, k2, k3, k4, trivial⟩, c⟩
def T_api_Label.ok (x : T_api_Label) : Prop := x.Key.size ≤ maxLen ∧ x.Val.size ≤ maxLen ∧ True
theorem op141 (W : World) : Opens Tryz.prog W 141 T_api_Label.cells T_api_Label.ok := fun H enc fuel cs x h => by
  obtain ⟨hl, m, hf⟩ := trod_flds (sz := 2) (by kernel_rfl) h
  obtain ⟨x0, h0⟩ := hf 0 0 1 9 (by kernel_rfl)
  obtain ⟨a0, k0, c0⟩ := op9 W H enc _ _ _ h0
  obtain ⟨x1, h1⟩ := hf 1 1 1 9 (by kernel_rfl)
  obtain ⟨a1, k1, c1⟩ := op9 W H enc _ _ _ h1
  have c : OC Tryz.prog W cs _ := OC.all (.fld c0 (.fld c1 (.fin hl)))
  exact ⟨⟨a0, a1⟩, ⟨k0, k1, trivial⟩, c⟩
theorem op24 (W : World) : Opens Tryz.prog W 24 (fun l : List T_api_Label => [VV.list 141 (l.map T_api_Label.vv)]) (fun l => l.length ≤ maxLen ∧ ∀ a, a ∈ l → T_api_Label.ok a) := .list T_api_Label.vv (fun _ => rfl) (by decide) el24 (fun a => ⟨rfl, List.all_eq_true.1 rfl⟩) (op141 W)
def T_api_Taint.ok (x : T_api_Taint) : Prop := x.Key.size ≤ maxLen ∧ x.Val.size ≤ maxLen ∧ (IntKind.i64.min ≤ x.Effect ∧ x.Effect ≤ IntKind.i64.max) ∧ True
theorem op143 (W : World) : Opens Tryz.prog W 143 T_api_Taint.cells T_api_Taint.ok := fun H enc fuel cs x h => by
  obtain ⟨hl, m, hf⟩ := trod_flds (sz := 3) (by kernel_rfl) h
  obtain ⟨x0, h0⟩ := hf 0 0 1 9 (by kernel_rfl)
  obtain ⟨a0, k0, c0⟩ := op9 W H enc _ _ _ h0
  obtain ⟨x1, h1⟩ := hf 1 1 1 9 (by kernel_rfl)
  obtain ⟨a1, k1, c1⟩ := op9 W H enc _ _ _ h1
  obtain ⟨x2, h2⟩ := hf 2 2 1 3 (by kernel_rfl)
  obtain ⟨a2, k2, c2⟩ := op3 W H enc _ _ _ h2
  have c : OC Tryz.prog W cs _ := OC.all (.fld c0 (.fld c1 (.fld c2 (.fin hl))))
  exact ⟨⟨a0, a1, a2⟩, ⟨k0, k1, k2, trivial⟩, c⟩
theorem op39 (W : World) : Opens Tryz.prog W 39 (fun l : List T_api_Taint => [VV.list 143 (l.map T_api_Taint.vv)]) (fun l => l.length ≤ maxLen ∧ ∀ a, a ∈ l → T_api_Taint.ok a) := .list T_api_Taint.vv (fun _ => rfl) (by decide) el39 (fun a => ⟨rfl, List.all_eq_true.1 rfl⟩) (op143 W)
theorem op4 (W : World) : Opens Tryz.prog W 4 (fun b : Bool => [VV.bool b]) (fun _ => True) := .bool Tryz.underlying4
def T_api_Machine.ok (x : T_api_Machine) : Prop := x.Name.size ≤ maxLen ∧ x.Group.size ≤ maxLen ∧ T_api_Res.ok x.Has ∧ (x.Labels.length ≤ maxLen ∧ ∀ a, a ∈ x.Labels → T_api_Label.ok a) ∧ (x.Taints.length ≤ maxLen ∧ ∀ a, a ∈ x.Taints → T_api_Taint.ok a) ∧ True ∧ True
theorem op41 (W : World) : Opens Tryz.prog W 41 T_api_Machine.cells T_api_Machine.ok := fun H enc fuel cs x h => by
  obtain ⟨hl, m, hf⟩ := trod_flds (sz := 10) (by kernel_rfl) h
  obtain ⟨x0, h0⟩ := hf 0 0 1 9 (by kernel_rfl)
  obtain ⟨a0, k0, c0⟩ := op9 W H enc _ _ _ h0
  obtain ⟨x1, h1⟩ := hf 1 1 1 9 (by kernel_rfl)
  obtain ⟨a1, k1, c1⟩ := op9 W H enc _ _ _ h1
  obtain ⟨x2, h2⟩ := hf 2 2 5 23 (by kernel_rfl)
  obtain ⟨a2, k2, c2⟩ := op23 W H enc _ _ _ h2
  obtain ⟨x3, h3⟩ := hf 3 7 1 24 (by kernel_rfl)
  obtain ⟨a3, k3, c3⟩ := op24 W H enc _ _ _ h3
  obtain ⟨x4, h4⟩ := hf 4 8 1 39 (by kernel_rfl)
  obtain ⟨a4, k4, c4⟩ := op39 W H enc _ _ _ h4
  obtain ⟨x5, h5⟩ := hf 5 9 1 4 (by kernel_rfl)
  obtain ⟨a5, k5, c5⟩ := op4 W H enc _ _ _ h5
  have c : OC Tryz.prog W cs _ := OC.all (.fld c0 (.fld c1 (.fld c2 (.fld c3 (.fld c4 (.fld c5 (.fin hl)))))))
  exact ⟨⟨a0, a1, a2, a3, a4, a5⟩, ⟨k0, k1, k2, k3, k4, k5, trivial⟩, c⟩
theorem op54 (W : World) : Opens Tryz.prog W 54 (fun l : List T_api_Machine => [VV.list 41 (l.map T_api_Machine.vv)]) (fun l => l.length ≤ maxLen ∧ ∀ a, a ∈ l → T_api_Machine.ok a) := .list T_api_Machine.vv (fun _ => rfl) (by decide) el54 (fun a => ⟨rfl, List.all_eq_true.1 rfl⟩) (op41 W)
theorem op65 (W : World) : Opens Tryz.prog W 65 (fun l : List ByteArray => [VV.list 9 (l.map VV.str)]) (fun l => l.length ≤ maxLen ∧ ∀ a, a ∈ l → a.size ≤ maxLen) := .list VV.str (fun _ => rfl) (by decide) el65 (fun a => ⟨rfl, List.all_eq_true.1 rfl⟩) (op9 W)
def T_api_Term.ok (x : T_api_Term) : Prop := x.Key.size ≤ maxLen ∧ (IntKind.i64.min ≤ x.Op ∧ x.Op ≤ IntKind.i64.max) ∧ (x.Vals.length ≤ maxLen ∧ ∀ a, a ∈ x.Vals → a.size ≤ maxLen) ∧ True
theorem op73 (W : World) : Opens Tryz.prog W 73 T_api_Term.cells T_api_Term.ok := fun H enc fuel cs x h => by
  obtain ⟨hl, m, hf⟩ := trod_flds (sz := 3) (by kernel_rfl) h
  obtain ⟨x0, h0⟩ := hf 0 0 1 9 (by kernel_rfl)
  obtain ⟨a0, k0, c0⟩ := op9 W H enc _ _ _ h0
  obtain ⟨x1, h1⟩ := hf 1 1 1 3 (by kernel_rfl)
  obtain ⟨a1, k1, c1⟩ := op3 W H enc _ _ _ h1
  obtain ⟨x2, h2⟩ := hf 2 2 1 65 (by kernel_rfl)
  obtain ⟨a2, k2, c2⟩ := op65 W H enc _ _ _ h2
  have c : OC Tryz.prog W cs _ := OC.all (.fld c0 (.fld c1 (.fld c2 (.fin hl))))
  exact ⟨⟨a0, a1, a2⟩, ⟨k0, k1, k2, trivial⟩, c⟩
theorem op25 (W : World) : Opens Tryz.prog W 25 (fun l : List T_api_Term => [VV.list 73 (l.map T_api_Term.vv)]) (fun l => l.length ≤ maxLen ∧ ∀ a, a ∈ l → T_api_Term.ok a) := .list T_api_Term.vv (fun _ => rfl) (by decide) el25 (fun a => ⟨rfl, List.all_eq_true.1 rfl⟩) (op73 W)
def T_api_Toleration.ok (x : T_api_Toleration) : Prop := x.Key.size ≤ maxLen ∧ x.Val.size ≤ maxLen ∧ True ∧ (IntKind.i64.min ≤ x.Effect ∧ x.Effect ≤ IntKind.i64.max) ∧ True
theorem op83 (W : World) : Opens Tryz.prog W 83 T_api_Toleration.cells T_api_Toleration.ok := fun H enc fuel cs x h => by
  obtain ⟨hl, m, hf⟩ := trod_flds (sz := 4) (by kernel_rfl) h
  obtain ⟨x0, h0⟩ := hf 0 0 1 9 (by kernel_rfl)
  obtain ⟨a0, k0, c0⟩ := op9 W H enc _ _ _ h0
  obtain ⟨x1, h1⟩ := hf 1 1 1 9 (by kernel_rfl)
  obtain ⟨a1, k1, c1⟩ := op9 W H enc _ _ _ h1
  obtain ⟨x2, h2⟩ := hf 2 2 1 4 (by kernel_rfl)
  obtain ⟨a2, k2, c2⟩ := op4 W H enc _ _ _ h2
  obtain ⟨x3, h3⟩ := hf 3 3 1 3 (by kernel_rfl)
  obtain ⟨a3, k3, c3⟩ := op3 W H enc _ _ _ h3
  have c : OC Tryz.prog W cs _ := OC.all (.fld c0 (.fld c1 (.fld c2 (.fld c3 (.fin hl)))))
  exact ⟨⟨a0, a1, a2, a3⟩, ⟨k0, k1, k2, k3, trivial⟩, c⟩
theorem op26 (W : World) : Opens Tryz.prog W 26 (fun l : List T_api_Toleration => [VV.list 83 (l.map T_api_Toleration.vv)]) (fun l => l.length ≤ maxLen ∧ ∀ a, a ∈ l → T_api_Toleration.ok a) := .list T_api_Toleration.vv (fun _ => rfl) (by decide) el26 (fun a => ⟨rfl, List.all_eq_true.1 rfl⟩) (op83 W)
theorem op27 (W : World) : Opens Tryz.prog W 27 (fun l : List Int => [VV.list 3 (l.map (VV.int .i64))]) (fun l => l.length ≤ maxLen ∧ ∀ a, a ∈ l → (IntKind.i64.min ≤ a ∧ a ≤ IntKind.i64.max)) := .list (VV.int .i64) (fun _ => rfl) (by decide) el27 (fun a => ⟨rfl, List.all_eq_true.1 rfl⟩) (op3 W)
def T_api_Pod.ok (x : T_api_Pod) : Prop := x.Name.size ≤ maxLen ∧ T_api_Res.ok x.Need ∧ (x.Labels.length ≤ maxLen ∧ ∀ a, a ∈ x.Labels → T_api_Label.ok a) ∧ (x.Select.length ≤ maxLen ∧ ∀ a, a ∈ x.Select → T_api_Label.ok a) ∧ (x.Terms.length ≤ maxLen ∧ ∀ a, a ∈ x.Terms → T_api_Term.ok a) ∧ (x.Bears.length ≤ maxLen ∧ ∀ a, a ∈ x.Bears → T_api_Toleration.ok a) ∧ (x.Ports.length ≤ maxLen ∧ ∀ a, a ∈ x.Ports → (IntKind.i64.min ≤ a ∧ a ≤ IntKind.i64.max)) ∧ (x.Apart.length ≤ maxLen ∧ ∀ a, a ∈ x.Apart → T_api_Label.ok a) ∧ True ∧ (x.Spread.length ≤ maxLen ∧ ∀ a, a ∈ x.Spread → T_api_Label.ok a) ∧ (IntKind.i64.min ≤ x.Skew ∧ x.Skew ≤ IntKind.i64.max) ∧ (IntKind.i64.min ≤ x.Rank ∧ x.Rank ≤ IntKind.i64.max) ∧ x.Owner.size ≤ maxLen ∧ True ∧ True ∧ True ∧ True
theorem op29 (W : World) : Opens Tryz.prog W 29 T_api_Pod.cells T_api_Pod.ok := fun H enc fuel cs x h => by
  obtain ⟨hl, m, hf⟩ := trod_flds (sz := 20) (by kernel_rfl) h
  obtain ⟨x0, h0⟩ := hf 0 0 1 9 (by kernel_rfl)
  obtain ⟨a0, k0, c0⟩ := op9 W H enc _ _ _ h0
  obtain ⟨x1, h1⟩ := hf 1 1 5 23 (by kernel_rfl)
  obtain ⟨a1, k1, c1⟩ := op23 W H enc _ _ _ h1
  obtain ⟨x2, h2⟩ := hf 2 6 1 24 (by kernel_rfl)
  obtain ⟨a2, k2, c2⟩ := op24 W H enc _ _ _ h2
  obtain ⟨x3, h3⟩ := hf 3 7 1 24 (by kernel_rfl)
  obtain ⟨a3, k3, c3⟩ := op24 W H enc _ _ _ h3
  obtain ⟨x4, h4⟩ := hf 4 8 1 25 (by kernel_rfl)
  obtain ⟨a4, k4, c4⟩ := op25 W H enc _ _ _ h4
  obtain ⟨x5, h5⟩ := hf 5 9 1 26 (by kernel_rfl)
  obtain ⟨a5, k5, c5⟩ := op26 W H enc _ _ _ h5
  obtain ⟨x6, h6⟩ := hf 6 10 1 27 (by kernel_rfl)
  obtain ⟨a6, k6, c6⟩ := op27 W H enc _ _ _ h6
  obtain ⟨x7, h7⟩ := hf 7 11 1 24 (by kernel_rfl)
  obtain ⟨a7, k7, c7⟩ := op24 W H enc _ _ _ h7
  obtain ⟨x8, h8⟩ := hf 8 12 1 4 (by kernel_rfl)
  obtain ⟨a8, k8, c8⟩ := op4 W H enc _ _ _ h8
  obtain ⟨x9, h9⟩ := hf 9 13 1 24 (by kernel_rfl)
  obtain ⟨a9, k9, c9⟩ := op24 W H enc _ _ _ h9
  obtain ⟨x10, h10⟩ := hf 10 14 1 3 (by kernel_rfl)
  obtain ⟨a10, k10, c10⟩ := op3 W H enc _ _ _ h10
  obtain ⟨x11, h11⟩ := hf 11 15 1 3 (by kernel_rfl)
  obtain ⟨a11, k11, c11⟩ := op3 W H enc _ _ _ h11
  obtain ⟨x12, h12⟩ := hf 12 16 1 9 (by kernel_rfl)
  obtain ⟨a12, k12, c12⟩ := op9 W H enc _ _ _ h12
  obtain ⟨x13, h13⟩ := hf 13 17 1 4 (by kernel_rfl)
  obtain ⟨a13, k13, c13⟩ := op4 W H enc _ _ _ h13
  obtain ⟨x14, h14⟩ := hf 14 18 1 4 (by kernel_rfl)
  obtain ⟨a14, k14, c14⟩ := op4 W H enc _ _ _ h14
  obtain ⟨x15, h15⟩ := hf 15 19 1 4 (by kernel_rfl)
  obtain ⟨a15, k15, c15⟩ := op4 W H enc _ _ _ h15
  have c : OC Tryz.prog W cs _ := OC.all (.fld c0 (.fld c1 (.fld c2 (.fld c3 (.fld c4 (.fld c5 (.fld c6 (.fld c7 (.fld c8 (.fld c9 (.fld c10 (.fld c11 (.fld c12 (.fld c13 (.fld c14 (.fld c15 (.fin hl)))))))))))))))))
  exact ⟨⟨a0, a1, a2, a3, a4, a5, a6, a7, a8, a9, a10, a11, a12, a13, a14, a15⟩, ⟨k0, k1, k2, k3, k4, k5, k6, k7, k8, k9, k10, k11, k12, k13, k14, k15, trivial⟩, c⟩
def T_api_Bound.ok (x : T_api_Bound) : Prop := T_api_Pod.ok x.Pod ∧ x.On.size ≤ maxLen ∧ True
theorem op121 (W : World) : Opens Tryz.prog W 121 T_api_Bound.cells T_api_Bound.ok := fun H enc fuel cs x h => by
  obtain ⟨hl, m, hf⟩ := trod_flds (sz := 21) (by kernel_rfl) h
  obtain ⟨x0, h0⟩ := hf 0 0 20 29 (by kernel_rfl)
  obtain ⟨a0, k0, c0⟩ := op29 W H enc _ _ _ h0
  obtain ⟨x1, h1⟩ := hf 1 20 1 9 (by kernel_rfl)
  obtain ⟨a1, k1, c1⟩ := op9 W H enc _ _ _ h1
  have c : OC Tryz.prog W cs _ := OC.all (.fld c0 (.fld c1 (.fin hl)))
  exact ⟨⟨a0, a1⟩, ⟨k0, k1, trivial⟩, c⟩
theorem op55 (W : World) : Opens Tryz.prog W 55 (fun l : List T_api_Bound => [VV.list 121 (l.map T_api_Bound.vv)]) (fun l => l.length ≤ maxLen ∧ ∀ a, a ∈ l → T_api_Bound.ok a) := .list T_api_Bound.vv (fun _ => rfl) (by decide) el55 (fun a => ⟨rfl, List.all_eq_true.1 rfl⟩) (op121 W)
def T_law34_Two.ok (x : T_law34_Two) : Prop := (x.Ms.length ≤ maxLen ∧ ∀ a, a ∈ x.Ms → T_api_Machine.ok a) ∧ (x.Bs.length ≤ maxLen ∧ ∀ a, a ∈ x.Bs → T_api_Bound.ok a) ∧ (x.Ns.length ≤ maxLen ∧ ∀ a, a ∈ x.Ns → T_api_Machine.ok a) ∧ (x.Cs.length ≤ maxLen ∧ ∀ a, a ∈ x.Cs → T_api_Bound.ok a) ∧ True
theorem op64 (W : World) : Opens Tryz.prog W 64 T_law34_Two.cells T_law34_Two.ok := fun H enc fuel cs x h => by
  obtain ⟨hl, m, hf⟩ := trod_flds (sz := 4) (by kernel_rfl) h
  obtain ⟨x0, h0⟩ := hf 0 0 1 54 (by kernel_rfl)
  obtain ⟨a0, k0, c0⟩ := op54 W H enc _ _ _ h0
  obtain ⟨x1, h1⟩ := hf 1 1 1 55 (by kernel_rfl)
  obtain ⟨a1, k1, c1⟩ := op55 W H enc _ _ _ h1
  obtain ⟨x2, h2⟩ := hf 2 2 1 54 (by kernel_rfl)
  obtain ⟨a2, k2, c2⟩ := op54 W H enc _ _ _ h2
  obtain ⟨x3, h3⟩ := hf 3 3 1 55 (by kernel_rfl)
  obtain ⟨a3, k3, c3⟩ := op55 W H enc _ _ _ h3
  have c : OC Tryz.prog W cs _ := OC.all (.fld c0 (.fld c1 (.fld c2 (.fld c3 (.fin hl)))))
  exact ⟨⟨a0, a1, a2, a3⟩, ⟨k0, k1, k2, k3, trivial⟩, c⟩
end Go.Proofs.YtkondhigbbgidaaGreat.M

/-
  Plain laws of the snapshot: what is light; SnapNil. Own text.
-/
import Derived.Test.YtmpkpnclmihdnaaGreatPChk
namespace Go.Proofs.YtmpkpnclmihdnaaGreat.M
open Go Go.Proofs Go.Proofs.YtmpkpnclmihdnaaGreat.V
open Go.IntKind (i64)
set_option linter.unusedVariables false
set_option maxRecDepth 20000

theorem known13_true : law13_known = some true := by kernel_rfl

theorem light13 (o : T_law13_Op) : ∃ b, law13_light o = some b ∧ (b = true → LM o.M ∧ LP o.P_ ∧ o.Name.size ≤ 300) := by
  unfold law13_light
  obtain ⟨b1, e1, f1⟩ := ref07_LightMachine_eq o.M
  obtain ⟨b2, e2, f2⟩ := ref07_LightPod_eq o.P_
  rw [e1, e2]
  cases b1 with
  | false => exact ⟨false, rfl, fun h => by cases h⟩
  | true =>
    cases b2 with
    | false => exact ⟨false, rfl, fun h => by cases h⟩
    | true => exact ⟨_, rfl, fun h => ⟨f1 rfl, f2 rfl, by
        have : decide ((o.Name.size : Int) ≤ 300) = true := by simpa using h
        have := of_decide_eq_true this
        omega⟩⟩

theorem nil_l1 (z : T_snap_Snap) : law13_SnapNil.l1 23 (23, z) 23 23 (23, z) 23 23 (23, z) 23 (23, z) 23 FU 0 = some (Out.go ()) := by
  have key : ∀ (m k f : Nat), 11 - k ≤ m → m < f → k ≤ 11 → law13_SnapNil.l1 23 (23, z) 23 23 (23, z) 23 23 (23, z) 23 (23, z) 23 f (k : Int) = some (Out.go ()) := by
    intro m
    induction m with
    | zero =>
      intro k f h1 h2 h3
      obtain ⟨f, rfl⟩ : ∃ q, f = q + 1 := ⟨f - 1, by omega⟩
      obtain rfl : k = 11 := by omega
      rw [law13_SnapNil.l1]; rfl
    | succ m ih =>
      intro k f h1 h2 h3
      obtain ⟨f, rfl⟩ : ∃ q, f = q + 1 := ⟨f - 1, by omega⟩
      by_cases hk : k < 11
      · rw [law13_SnapNil.l1, if_pos (by simp; omega)]
        have hg : V.gl ([23, 23, 23, 23, 23, 23, 23, 23, 23, 23, 23] : List Int) (k : Int) = some 23 := by
          rw [glk (by simpa using hk)]
          have hall : ∀ x, x ∈ ([23, 23, 23, 23, 23, 23, 23, 23, 23, 23, 23] : List Int) → x = 23 := by decide
          exact congrArg some (hall _ (List.getElem_mem _))
        rw [hg]
        simp only [Option.bind_some]
        rw [if_neg (by decide), wk1 (by omega)]
        exact ih (k + 1) f (by omega) (by omega) (by omega)
      · obtain rfl : k = 11 := by omega
        rw [law13_SnapNil.l1]; rfl
  exact key 11 0 FU (by omega) (by unfold FU; omega) (by omega)
def zs0 : T_snap_Snap := ⟨none, [], 0⟩
theorem n1 (m : T_api_Machine) : snap_Snap_Add m = some 23 := by unfold snap_Snap_Add snap_Snap_change_snap_Snap_Add_1 snap_Snap_there; simp
theorem n2 (m : T_api_Machine) : snap_Snap_Add_x zs0 m = some (23, zs0) := by unfold snap_Snap_Add_x snap_Snap_change_snap_Snap_Add_1_x snap_Snap_there_x zs0; simp
theorem n3 (n : ByteArray) : snap_Snap_Drop n = some 23 := by unfold snap_Snap_Drop snap_Snap_change_snap_Snap_Drop_1 snap_Snap_there; simp
theorem n4 (p : T_api_Pod) (n : ByteArray) : snap_Snap_Put p n = some 23 := by unfold snap_Snap_Put snap_Snap_change_snap_Snap_Put_1 snap_Snap_there; simp
theorem n5 (p : T_api_Pod) (n : ByteArray) : snap_Snap_Put_x zs0 p n = some (23, zs0) := by unfold snap_Snap_Put_x snap_Snap_change_snap_Snap_Put_1_x snap_Snap_there_x zs0; simp
theorem n6 (n : ByteArray) : snap_Snap_Take n = some 23 := by unfold snap_Snap_Take snap_Snap_change_snap_Snap_Take_1 snap_Snap_there; simp
theorem n7 : snap_Snap_Fork = some 23 := by unfold snap_Snap_Fork snap_Snap_there; simp
theorem n8 : snap_Snap_Fork_x zs0 = some (23, zs0) := by unfold snap_Snap_Fork_x snap_Snap_there_x zs0; simp
theorem n9 : snap_Snap_Commit = some 23 := by unfold snap_Snap_Commit snap_Snap_pop_snap_Snap_forget snap_Snap_there; simp
theorem n10 : snap_Snap_Commit_x zs0 = some (23, zs0) := by unfold snap_Snap_Commit_x snap_Snap_pop_snap_Snap_forget_x snap_Snap_there_x zs0; simp
theorem n11 : snap_Snap_Revert = some 23 := by unfold snap_Snap_Revert snap_Snap_pop_snap_Snap_restore snap_Snap_there; simp
theorem n12 : snap_Snap_Machines = some [] := by unfold snap_Snap_Machines snap_Snap_there; simp
theorem n13 : snap_Snap_Bounds_x zs0 = some [] := by unfold snap_Snap_Bounds_x snap_Snap_there_x zs0; simp
theorem n14 : snap_Snap_Depth = some 0 := by unfold snap_Snap_Depth snap_Snap_there; simp
theorem n15 (p : T_api_Pod) (n : ByteArray) : snap_Snap_Why p n = some 1 := by unfold snap_Snap_Why snap_Snap_there; simp
theorem n16 (p : T_api_Pod) (n : ByteArray) : snap_Snap_Why_x zs0 p n = some 1 := by unfold snap_Snap_Why_x snap_Snap_there_x zs0; simp
theorem SnapNil_true {a b : Prop} (m : T_api_Machine) (p : T_api_Pod) (name : ByteArray) (_ : a) (_ : b) : law13_SnapNil m p name = some true := by
  unfold law13_SnapNil
  obtain ⟨b, e, _⟩ := light13 ⟨0, m, p, name⟩
  rw [e, known13_true]
  cases b with
  | false => rfl
  | true =>
    rw [show (⟨none, [], 0⟩ : T_snap_Snap) = zs0 from rfl]
    simp only [Option.bind_some, Bool.not_true, Bool.false_eq_true, if_false, n1, n2, n3, n4, n5, n6, n7, n8, n9, n10, n11, nil_l1, Out.on, n12, n13, n14, n15, n16, List.length_nil]
    rfl
end Go.Proofs.YtmpkpnclmihdnaaGreat.M

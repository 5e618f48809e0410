/-
  The plain law of WorldNil: worlds that are not there answer that they are not. No program in sight.
-/
import Derived.Test.YtbgfffdnaijmhaaGreatWNF
import Derived.Test.YtbgfffdnaijmhaaGreatPLightW
namespace Go.Proofs.YtbgfffdnaijmhaaGreat.M
open Go Go.Proofs Go.Proofs.YtbgfffdnaijmhaaGreat.V
set_option linter.unusedVariables false
set_option maxRecDepth 100000

theorem known18 : (law18_known ([] : List T_cloud_pool) ([] : List T_cloud_inst)).bind (fun r => some r.1) = some true := by kernel_rfl

theorem nilKeep : law18_WorldNil.l1 23 23 23 23 23 23 23 23 FU (0 : Int) = some (.go ()) := by kernel_rfl

theorem bsm {α β : Type} {o : Option α} {f : α → Option β} {x : α} {b : Option β} (h : o = some x) (k : f x = b) : o.bind f = b := by rw [h]; exact k
theorem itT {α : Type} {c : Bool} {a b r : α} (h : c = true) (k : a = r) : (if c = true then a else b) = r := by rw [if_pos h]; exact k
theorem itF {α : Type} {c : Bool} {a b r : α} (h : c = false) (k : b = r) : (if c = true then a else b) = r := by rw [if_neg (by rw [h]; decide)]; exact k

theorem WorldNil_true (o : T_law18_Op) {p : Prop} (_ : p) : law18_WorldNil o = some true := by
  have hk := known18
  have hn := nilKeep
  have hL : ∃ b, law18_Op_Light o = some b := by
    unfold law18_Op_Light
    obtain ⟨b1, e1, _⟩ := ref07_LightPod_eq o.P_
    obtain ⟨b2, e2, _⟩ := ref06_Light_eq [] [o.X]
    rw [e1, e2]
    by_cases h : (b1 && decide ((o.Name.size : Int) ≤ 300)) = true
    · exact ⟨b2, by simp only [Option.bind_some]; rw [if_pos h]; rfl⟩
    · exact ⟨false, by simp only [Option.bind_some]; rw [if_neg h]; rfl⟩
  obtain ⟨b, hb⟩ := hL
  unfold law18_WorldNil
  generalize law18_known ([] : List T_cloud_pool) ([] : List T_cloud_inst) = K at hk ⊢
  generalize law18_WorldNil.l1 = F at hn ⊢
  refine bsm hb ?_
  cases b with
  | false => exact itT rfl hk
  | true =>
    refine itF rfl (bsm (x := ()) rfl (bsm (x := ()) rfl (bsm (x := 23) rfl (bsm (x := 23) rfl (bsm (x := 23) rfl (bsm (x := 23) rfl (bsm (x := 23) rfl (bsm (x := 23) rfl (bsm (x := 23) rfl (bsm (x := 23) rfl (bsm hn ?_)))))))))))
    rw [Out.on]
    refine bsm (x := []) rfl (bsm (x := true) (itT rfl (bsm (x := []) rfl rfl)) (bsm (x := true) (itT rfl (bsm (x := []) rfl rfl)) (bsm (x := true) (itT rfl (bsm (x := []) rfl rfl)) (bsm (x := true) (itT rfl (bsm (x := []) rfl rfl)) (itT rfl hk)))))

end Go.Proofs.YtbgfffdnaijmhaaGreat.M

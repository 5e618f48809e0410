/-
  Plain law: SchedBest answers true. Own text.
-/
import Derived.Test.YtbkdglcedgiogaaGreatPSch1
import Derived.Test.YtbkdglcedgiogaaGreatRSO
namespace Go.Proofs.YtbkdglcedgiogaaGreat.M
open Go Go.Proofs Go.Proofs.YtbkdglcedgiogaaGreat.V
set_option linter.unusedVariables false

theorem known14_true : law14_known = some true := by kernel_rfl

theorem right14 (ms : List T_api_Machine) (bs : List T_api_Bound) : ∃ b, law14_right ms bs = some b ∧ (b = true → LY ms bs ∧ RY ms bs) := by
  unfold law14_right
  obtain ⟨b, e, f⟩ := ref09_Light_eq ms bs
  rw [e]
  cases b with
  | false => exact ⟨false, rfl, fun h => by cases h⟩
  | true =>
    have hy := f rfl
    simp only [Option.bind_some, if_true]
    obtain ⟨r, e, f⟩ := Check9_eq hy
    rw [e]
    refine ⟨r == 0, rfl, fun h => ⟨hy, f (by simpa using h)⟩⟩

theorem names_nodup {ms : List T_api_Machine} {bs : List T_api_Bound} (hr : RY ms bs) : (ms.map (·.Name)).Nodup := by
  rw [show (ms.map (·.Name)).Nodup ↔ _ from List.pairwise_iff_getElem]
  intro i j hi hj hij e
  rw [List.length_map] at hi hj
  have := hr.mu i j hi hj (by simpa using e)
  omega
theorem names_ne {ms : List T_api_Machine} {bs : List T_api_Bound} (hr : RY ms bs) : ∀ m, m ∈ ms → m.Name ≠ ⟨#[]⟩ := fun m h => by
  obtain ⟨i, hi, rfl⟩ := List.getElem_of_mem h
  exact (hr.rm i hi).1

theorem SchedBest_true (ms : List T_api_Machine) (bs : List T_api_Bound) (p : T_api_Pod) (_ : ms.length ≤ maxLen ∧ ∀ a ∈ ms, T_api_Machine.ok a) (_ : bs.length ≤ maxLen ∧ ∀ a ∈ bs, T_api_Bound.ok a) (_ : T_api_Pod.ok p) : law14_SchedBest ms bs p = some true := by
  unfold law14_SchedBest
  obtain ⟨b, hb, hr⟩ := right14 ms bs
  rw [hb, known14_true]
  cases b with
  | false => rfl
  | true =>
    obtain ⟨hy, hr⟩ := hr rfl
    simp only [Option.bind_some, Bool.not_true, Bool.false_eq_true, if_false]
    obtain ⟨b, e, f⟩ := ref07_LightPod_eq p
    rw [e]
    cases b with
    | false => rfl
    | true =>
      have hp := f rfl
      obtain ⟨b, hrp⟩ := RPod_tot hp
      simp only [Option.bind_some, Bool.not_true, Bool.false_eq_true, if_false]
      rw [hrp]
      cases b with
      | false => rfl
      | true =>
        have hnm := hy.nm
        have hnb := hy.nb
        have hgm := gms hy hr
        have hgb := gbs hy hr
        have hgp := gp_of hp hrp
        have hnd := names_nodup hr
        have hne := names_ne hr
        simp only [Option.bind_some, Bool.not_true, Bool.false_eq_true, if_false]
        rw [best_P (by omega) (by omega) (fun m h => (hgm m h).lm) hnd (fun b h => (hgb b h).lp) hp, best_R (by omega) (by omega) hgm hnd hgb hgp, Where12_eq (by omega) (by omega) hgm hnd hgb hgp]
        simp only [Option.bind_some, seq_eq]
        show ((if (!decide (bestV ms bs p = ⟨#[]⟩)) = true then _ else some false).bind fun c3 => _) = _
        rcases bestL_mem (scoreV bs p) (okM ms bs p) (fun m h => hne m (List.mem_filter.1 h).1) with ⟨h1, h2⟩ | ⟨m, h1, h2, h3⟩
        · have hbe : bestV ms bs p = ⟨#[]⟩ := h2
          have hf : (ms.filter fun m => decide (whyV ms bs p m = 0)) = [] := h1
          rw [hbe, hf]
          simp
        · have hbe : ¬ bestV ms bs p = ⟨#[]⟩ := h3
          have hm := List.mem_filter.1 h1
          have hbn : bestV ms bs p = m.Name := h2.symm
          have hw : whyV ms bs p m = 0 := by simpa using hm.2
          rw [show decide (bestV ms bs p = ⟨#[]⟩) = false by simpa using hbe, hbn, Why12_eq (by omega) (by omega) hgm hnd hgb hgp hm.1, hw]
          simp
end Go.Proofs.YtbkdglcedgiogaaGreat.M

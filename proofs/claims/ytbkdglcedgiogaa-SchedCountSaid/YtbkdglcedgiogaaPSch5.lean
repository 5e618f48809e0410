/-
  Plain law: SchedCount answers true. Own text.
-/
import Derived.Test.YtbkdglcedgiogaaPSch3
import Derived.Test.YtbkdglcedgiogaaPOn9
import Derived.Test.YtbkdglcedgiogaaPAll
import Derived.Test.YtbkdglcedgiogaaRCO
namespace Go.Proofs.Ytbkdglcedgiogaa.M
open Go Go.Proofs Go.Proofs.Ytbkdglcedgiogaa.V
set_option linter.unusedVariables false

theorem pend_len : ∀ (l : List T_api_Bound) (k : Nat), (pendL l k).length = (onS l ⟨#[]⟩).length
  | [], _ => rfl
  | x :: l, k => by
    have ih := pend_len l (k + 1)
    unfold onS at ih ⊢
    rw [pendL]
    by_cases e : x.On = ⟨#[]⟩
    · rw [if_pos e, List.filter_cons_of_pos (by simpa using e), List.length_cons, ih]; simp
    · rw [if_neg e, List.filter_cons_of_neg (by simpa using e), ih]

theorem ready_of {ms : List T_api_Machine} {bs : List T_api_Bound} {p : T_api_Pod} {m : T_api_Machine} (h : whyV ms bs p m = 0) : m.Ready = true := by
  rw [whyV_zero] at h
  cases hr : m.Ready with
  | true => rfl
  | false =>
    have : placeV m p = 1 := by unfold placeV suit_Place; rw [hr]; rfl
    omega

theorem SchedCount_true (ms : List T_api_Machine) (bs : List T_api_Bound) (_ : ms.length ≤ maxLen ∧ ∀ a ∈ ms, T_api_Machine.ok a) (_ : bs.length ≤ maxLen ∧ ∀ a ∈ bs, T_api_Bound.ok a) : law14_SchedCount ms bs = some true := by
  unfold law14_SchedCount
  obtain ⟨b, hb, hr⟩ := right14 ms bs
  rw [hb, known14_true]
  cases b with
  | false => rfl
  | true =>
    obtain ⟨hy, hr⟩ := hr rfl
    have hnm := hy.nm
    have hnb := hy.nb
    have hnd := names_nodup hr
    have hne := names_ne hr
    have hon : ∀ k (h : k < bs.length), bs[k].On ≠ ⟨#[]⟩ → ∃ m, m ∈ ms ∧ m.Name = bs[k].On := fun k h e => by
      obtain ⟨j, hj, q⟩ := hr.on k h e
      exact ⟨ms[j], List.getElem_mem _, q⟩
    simp only [Option.bind_some, Bool.not_true, Bool.false_eq_true, if_false]
    obtain ⟨r, o1, o2, o3⟩ := Order_ok (bs := bs) (by omega)
    obtain ⟨out, mv, s1, s2, s3⟩ := Step_ok (ms := ms) (bs := bs) (by omega) (by omega) (ms_mem hy) hnd hne (bs_mem hy) hon
      (fun out mv l => mv.length + l.length ≤ r.length ∧ ∀ v, v ∈ mv → (∃ k, ∃ h : k < bs.length, bs[k].Pod.Name = v.Pod ∧ bs[k].On = ⟨#[]⟩) ∧ ∃ m, m ∈ ms ∧ m.Name = v.To ∧ m.Ready = true)
      (fun x l out mv hx si ho hxl hj => by
        obtain ⟨j1, j2⟩ := hj
        rw [List.length_cons] at j1
        refine ⟨fun _ => ⟨by omega, j2⟩, fun m0 hm0 hw hbn => ⟨by rw [List.length_append]; simp only [List.length_cons, List.length_nil]; omega, fun v hv => ?_⟩⟩
        rcases List.mem_append.1 hv with hv | hv
        · exact j2 v hv
        · have hve : v = ⟨out[x].Pod.Name, m0.Name⟩ := by simpa using hv
          have hxb : x < bs.length := by rw [← si.len]; exact hx
          subst hve
          refine ⟨⟨x, hxb, by rw [si.pod x hx hxb], ?_⟩, m0, hm0, rfl, ready_of hw⟩
          by_cases e : bs[x].On = ⟨#[]⟩
          · exact e
          · have := si.old x hx hxb e
            rw [ho] at this
            exact this.symm)
      (fun r' h1 h2 => by
        rw [o1] at h1
        injection h1 with h1
        subst h1
        exact ⟨by simp, fun v hv => by cases hv⟩)
    rw [s1, o1]
    simp only [Option.bind_some]
    have hrl : r.length = (pendL bs 0).length := o2.length_eq
    have hpl := pendL_len bs 0
    have hrnd : r.Nodup := o2.nodup_iff.2 ((pendL_inc bs 0).imp (fun h e => by omega))
    have hmem : ∀ k (h : k < r.length), ∃ i : Nat, r[k] = (i : Int) ∧ ∃ h : i < bs.length, bs[i].On = ⟨#[]⟩ := fun k hk => by
      have hx' := o2.mem_iff.1 (List.getElem_mem hk)
      have hge := pendL_ge bs 0 _ hx'
      obtain ⟨i, hi⟩ : ∃ i : Nat, r[k] = (i : Int) := ⟨r[k].toNat, by omega⟩
      have := (pendL_mem bs 0 i).1 (by rw [Nat.zero_add, ← hi]; exact hx')
      exact ⟨i, hi, this⟩
    have hl1 := idxAll (F := fun n i => law14_SchedCount.l1 bs r n i) (len := r.length) (r0 := false) (fun _ => true) (by omega) (fun n k hk => by
      obtain ⟨i, hi, hib, hio⟩ := hmem k hk
      rw [law14_SchedCount.l1, if_pos (dlt hk), wk1 (by omega)]
      simp only [glk hk, hi, glk hib, Option.bind_some, seq_eq]
      have e1 : decide ((i : Int) < 0) = false := by simp
      have e2 : decide ((i : Int) ≥ (bs.length : Int)) = false := by simp; omega
      simp only [e1, e2, hio, decide_true, Bool.not_true, Bool.false_eq_true, if_false, Option.bind_some]
      have h3 : ((if (decide ((k : Int) > (0 : Int))) = true then (V.gl r (IntKind.i64.wrap ((k : Int) - (1 : Int)))).bind fun x7 => (V.gl bs x7).bind fun x8 => some (decide (bs[i].Pod.Rank > x8.Pod.Rank)) else some false) : Option Bool) = some false := by
        by_cases h0 : 0 < k
        · obtain ⟨j, hj, hjb, _⟩ := hmem (k - 1) (by omega)
          rw [if_pos (by rw [decide_eq_true_eq]; omega), glp hk h0 (by omega), hj]
          simp only [Option.bind_some, glk hjb]
          have hp := (List.pairwise_iff_getElem.1 o3) (k - 1) k (by omega) hk (by omega)
          rw [hi, hj] at hp
          have ri : rkB bs (i : Int) = bs[i].Pod.Rank := by unfold rkB; simp [hib]
          have rj : rkB bs (j : Int) = bs[j].Pod.Rank := by unfold rkB; simp [hjb]
          unfold Rk at hp
          rw [ri, rj] at hp
          congr 1
          rw [decide_eq_false_iff_not]
          omega
        · rw [if_neg (by rw [decide_eq_true_eq]; omega)]
      rw [h3]
      simp only [Option.bind_some, Bool.false_eq_true, if_false]
      have hl2 := idxAll (F := fun n j => law14_SchedCount.l2 r (k : Int) n j) (len := k) (r0 := Out.ret false) (fun _ => true) (by omega) (fun n j hj => by
        rw [law14_SchedCount.l2, if_pos (by rw [decide_eq_true_eq]; omega), wk1 (by omega)]
        simp only [glk (show j < r.length by omega), glk hk, Option.bind_some]
        have hne' : r[j] ≠ r[k] := (List.pairwise_iff_getElem.1 hrnd) j k (by omega) hk hj
        rw [if_neg (by simpa using hne')]; rfl) (fun n => by rw [law14_SchedCount.l2, if_neg (by simp)])
      rw [show law14_SchedCount.l2 r (k : Int) FU 0 = _ from hl2, if_pos (allN_iff.2 fun _ _ => rfl)]
      rfl) (fun n => by rw [law14_SchedCount.l1, if_neg dnl])
    rw [show law14_SchedCount.l1 bs r FU 0 = _ from hl1, if_pos (allN_iff.2 fun _ _ => rfl)]
    simp only [Option.bind_some, Out.on]
    have hmvl : mv.length ≤ r.length := by have := s3.1; simpa using this
    have hl3 := idxAll (F := fun n i => law14_SchedCount.l3 ms bs (out, mv) n i) (len := mv.length) (r0 := false) (fun _ => true) (by omega) (fun n k hk => by
      obtain ⟨⟨i, hi, h1, h2⟩, m, h3, h4, h5⟩ := s3.2 mv[k] (List.getElem_mem hk)
      rw [law14_SchedCount.l3, if_pos (dlt hk), wk1 (by omega)]
      obtain ⟨a, ha, hfa⟩ := Place9_eq bs mv[k].Pod (by omega)
      obtain ⟨c, hc, hfc⟩ := Find9_eq ms mv[k].To (by omega)
      simp only [glk hk, Option.bind_some, ha, hc]
      have ea : a = (i : Int) := by
        rcases hfa with ⟨q, rfl, b, ⟨c, d⟩, e⟩ | ⟨rfl, b⟩
        · rw [hr.bu q i c hi (by rw [d, h1])]
        · exact absurd ⟨hi, h1⟩ (b i hi)
      have ec : V.gl ms c = some m ∧ ¬ c < 0 := by
        rw [← h4] at hfc
        refine ⟨find_mem (by omega) hnd h3 hfc, ?_⟩
        rcases hfc with ⟨q, rfl, _⟩ | ⟨rfl, b⟩
        · omega
        · obtain ⟨j, hj, rfl⟩ := List.getElem_of_mem h3
          exact absurd ⟨hj, rfl⟩ (b j hj)
      have e1 : (decide (a < (0 : Int)) || decide (c < (0 : Int))) = false := by
        rw [ea, decide_eq_false ec.2]; simp
      rw [e1, ec.1, ea, glk hi]
      simp only [Option.bind_some, seq_eq, h2, h5, decide_true, Bool.not_true, Bool.false_eq_true, if_false, if_true]) (fun n => by rw [law14_SchedCount.l3, if_neg dnl])
    rw [show law14_SchedCount.l3 ms bs (out, mv) FU 0 = _ from hl3, if_pos (allN_iff.2 fun _ _ => rfl)]
    simp only [Option.bind_some]
    rw [On9_eq bs _ (by omega)]
    simp only [Option.bind_some]
    rw [if_pos (by rw [hrl, pend_len]; simp; rw [← pend_len bs 0, ← hrl]; exact hmvl)]
    rfl
end Go.Proofs.Ytbkdglcedgiogaa.M

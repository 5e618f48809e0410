/-
  Printed by a program of this session out of the loaded functions: models and their proofs. Own text.
-/
import Derived.Test.YtmpkpnclmihdnaaGreatPPl7
/-
  Plain laws of the plan: PlanMost, PlanBarred. Own text.
-/
namespace Go.Proofs.YtmpkpnclmihdnaaGreat.M
open Go Go.Proofs Go.Proofs.YtmpkpnclmihdnaaGreat.V
open Go.IntKind (i64)
set_option linter.unusedVariables false
set_option maxRecDepth 20000

theorem manyL_ext {ms : List T_api_Machine} {L : List T_api_Budget} {most : Int} : ∀ (names : List ByteArray) now plans barred goals, ∃ t, (manyL ms L most names now plans barred goals).1 = plans ++ t ∧ ((t = [] ∨ (plans.length : Int) + (t.length : Int) ≤ most))
  | [], now, plans, barred, goals => ⟨[], by simp [manyL], .inl rfl⟩
  | x :: l, now, plans, barred, goals => by
    have ih := fun now plans barred goals => manyL_ext (ms := ms) (L := L) (most := most) l now plans barred goals
    rw [manyL]
    split
    · exact ⟨[], by simp, .inl rfl⟩
    · rename_i hm
      split
      · exact ih now plans barred goals
      · split
        · exact ih now plans barred goals
        · split
          · exact ih now plans barred goals
          · rename_i r _
            obtain ⟨t, h1, h2⟩ := ih (putAll now r.1) (plans ++ [⟨x, r.1⟩]) (barred ++ [x]) (goals ++ r.1.map (·.To))
            refine ⟨⟨x, r.1⟩ :: t, by rw [h1]; simp, .inr ?_⟩
            simp only [List.length_append, List.length_cons, List.length_nil] at h2 ⊢
            rcases h2 with rfl | h2
            · simp only [List.length_nil]; omega
            · omega
theorem manyL_more {ms : List T_api_Machine} {L : List T_api_Budget} {n : Int} : ∀ (names : List ByteArray) now plans barred goals, (plans.length : Int) ≤ n → ∃ t, (manyL ms L (n + 1) names now plans barred goals).1 = (manyL ms L n names now plans barred goals).1 ++ t ∧ t.length ≤ 1
  | [], now, plans, barred, goals, _ => ⟨[], by simp [manyL], by simp⟩
  | x :: l, now, plans, barred, goals, h => by
    have ih := fun now plans barred goals => manyL_more (ms := ms) (L := L) (n := n) l now plans barred goals
    by_cases e : (plans.length : Int) ≥ n
    · obtain ⟨t, h1, h2⟩ := manyL_ext (ms := ms) (L := L) (most := n + 1) (x :: l) now plans barred goals
      refine ⟨t, ?_, ?_⟩
      · rw [h1, manyL, if_pos e]
      · rcases h2 with rfl | h2
        · simp
        · omega
    · rw [manyL, manyL, if_neg (by omega), if_neg e]
      split
      · exact ih now plans barred goals h
      · split
        · exact ih now plans barred goals h
        · split
          · exact ih now plans barred goals h
          · exact ih _ _ _ _ (by simp only [List.length_append, List.length_cons, List.length_nil]; omega)

theorem PlanMost_true {p : Prop} (c : T_law26_Case) (_ : p) : law26_PlanMost c = some true := by
  unfold law26_PlanMost
  obtain ⟨b, hb, hr⟩ := right26 c
  rw [hb, known26_true]
  cases b with
  | false => rfl
  | true =>
    have h := hr rfl
    have hpc := h.pc
    have hnn := h.nn
    simp only [Option.bind_some, Bool.not_true, Bool.false_or]
    by_cases e : c.Most > 30
    · rw [if_pos (by simpa using e)]
    · rw [if_neg (by simpa using e)]
      obtain ⟨n, hn⟩ : ∃ n : Int, max c.Most 0 = n := ⟨_, rfl⟩
      rw [hn]
      have hn0 : 0 ≤ n := by omega
      rw [w_eq (by omega) (by omega), Many_P hpc hnn, Many_P hpc hnn, Many_P hpc hnn]
      simp only [Option.bind_some]
      obtain ⟨t, h1, h2⟩ := manyL_more (ms := c.Ms) (L := c.L) (n := n) c.Names c.Bs [] [] [] (by simpa using hn0)
      obtain ⟨i1, i2, i3⟩ := many_inv h n
      have hz : manyL c.Ms c.L 0 c.Names c.Bs [] [] [] = ([], c.Bs) := by
        cases c.Names with
        | nil => rfl
        | cons x l => rw [manyL, if_pos (by simp)]
      rw [h1, hz]
      obtain ⟨A, hA⟩ : ∃ A, (manyL c.Ms c.L n c.Names c.Bs [] [] []).1 = A := ⟨_, rfl⟩
      rw [hA] at i2 i3 ⊢
      rw [w_eq (by omega) (by omega)]
      have c1 : (decide (((A ++ t).length : Int) ≥ (A.length : Int)) && decide (((A ++ t).length : Int) ≤ (A.length : Int) + 1)) = true := by
        rw [Bool.and_eq_true]; simp only [List.length_append, decide_eq_true_eq]; omega
      rw [if_pos c1]
      have hsl : V.sl (A ++ t) none (some (A.length : Int)) = some A := by
        rw [sl_pre (by simp), List.take_left]
      rw [hsl]
      simp only [Option.bind_some]
      have := hpc.nb
      rw [Same26_self (by omega) i2]
      simp only [Option.bind_some, Bool.true_and]
      rw [if_pos (by simp), Same9_self (by omega) fun b hb => (hpc.gb b hb).lp]
      rfl

theorem ready_of {ms : List T_api_Machine} {bs : List T_api_Bound} {p : T_api_Pod} {m : T_api_Machine} (h : whyV ms bs p m = 0) : m.Ready = true := by
  rw [whyV_zero] at h
  cases hr : m.Ready with
  | true => rfl
  | false =>
    have : placeV m p = 1 := by unfold placeV suit_Place; rw [hr]; rfl
    omega
/-- Where a move goes to. -/
def goesTo (ms : List T_api_Machine) (barred : List ByteArray) (v : T_api_Move) : Prop := ∃ m, m ∈ ms ∧ m.Name = v.To ∧ v.To ∉ barred ∧ m.Ready = true
theorem bestO_mem {ms : List T_api_Machine} {bs : List T_api_Bound} {barred : List ByteArray} {p : T_api_Pod} (hne : ∀ m, m ∈ ms → m.Name ≠ ⟨#[]⟩) (h : bestO ms bs barred p ≠ ⟨#[]⟩) : ∃ m, m ∈ ms ∧ m.Name = bestO ms bs barred p ∧ m.Name ∉ barred ∧ whyV ms bs p m = 0 := by
  unfold bestO at h ⊢
  have hm : ∀ m, m ∈ openM ms bs barred p → m ∈ ms ∧ m.Name ∉ barred ∧ whyV ms bs p m = 0 := fun m h => by
    unfold openM okM at h
    rw [List.mem_filter, List.mem_filter] at h
    exact ⟨h.1.1, mB_not.1 (by simpa using h.2), by simpa using h.1.2⟩
  rcases bestL_mem (scO bs p) (openM ms bs barred p) fun m hmm => hne m (hm m hmm).1 with ⟨_, h2⟩ | ⟨m, h1, h2, _⟩
  · exact absurd h2 h
  · exact ⟨m, (hm m h1).1, h2, (hm m h1).2.1, (hm m h1).2.2⟩
theorem oneL_to {ms : List T_api_Machine} {barred : List ByteArray} (hne : ∀ m, m ∈ ms → m.Name ≠ ⟨#[]⟩) : ∀ (l : List T_api_Pod) (now : List T_api_Bound) (mv : List T_api_Move) (r : List T_api_Move × List T_api_Bound), oneL ms barred l now mv = some r → (∀ v, v ∈ mv → goesTo ms barred v) → ∀ v, v ∈ r.1 → goesTo ms barred v
  | [], now, mv, r, h, hm => by
    simp only [oneL, Option.some.injEq] at h; subst h; exact hm
  | p :: l, now, mv, r, h, hm => by
    rw [oneL] at h
    split at h
    · cases h
    · rename_i e
      refine oneL_to hne l _ _ r h fun v hv => ?_
      rcases List.mem_append.1 hv with hv | hv
      · exact hm v hv
      · rw [List.mem_singleton] at hv
        subst hv
        obtain ⟨m, h1, h2, h3, h4⟩ := bestO_mem hne e
        exact ⟨m, h1, h2, h2 ▸ h3, ready_of h4⟩
theorem oneS_to {ms : List T_api_Machine} {bs : List T_api_Bound} {name : ByteArray} {barred : List ByteArray} {r : List T_api_Move × List T_api_Bound} (hne : ∀ m, m ∈ ms → m.Name ≠ ⟨#[]⟩) (h : oneS ms bs name barred = some r) : ∀ v, v ∈ r.1 → goesTo ms barred v ∧ v.To ≠ name := by
  unfold oneS at h
  split at h
  · intro v hv
    obtain ⟨m, h1, h2, h3, h4⟩ := oneL_to (fun m hm => hne m (wo_mem.1 hm).1) _ _ _ _ h (fun v hv => by cases hv) v hv
    obtain ⟨h5, h6⟩ := wo_mem.1 h1
    exact ⟨⟨m, h5, h2, h3, h4⟩, fun e => h6 (by rw [h2, e]; exact List.mem_singleton.2 rfl)⟩
  · cases h

theorem PlanBarred_true {p : Prop} (c : T_law26_Case) (_ : p) : law26_PlanBarred c = some true := by
  unfold law26_PlanBarred
  obtain ⟨b, hb, hr⟩ := right26 c
  rw [hb, known26_true]
  cases b with
  | false => rfl
  | true =>
    have h := hr rfl
    have hpc := h.pc
    have hm := hpc.nm
    have hn := hpc.nb
    have hnn := h.nn
    have hnb := h.nb
    simp only [Option.bind_some, Bool.not_true, Bool.false_eq_true, if_false]
    rcases loopI (F := fun n i => law26_PlanBarred.l1 c n i) (Q := fun r => False) (S := fun k => True) (len := c.Ms.length) (by omega) (fun n k hk => by
      rw [law26_PlanBarred.l1, if_pos (dlt hk), glk hk, wk1 (by omega)]
      simp only [Option.bind_some]
      rw [One_P _ _ (by omega) (by omega) (fun m hm => (hpc.gm m hm).lm) hpc.mu (fun b hb => (hpc.gb b hb).lp) hpc.bu, Movable_R _ _ (by omega)]
      simp only [Option.bind_some]
      right
      cases e : oneS c.Ms c.Bs c.Ms[k].Name c.Barred with
      | none =>
        have hml : (movS c.Bs c.Ms[k].Name).length ≠ 0 := by
          intro h0
          have h1 : movS c.Bs c.Ms[k].Name = [] := List.eq_nil_of_length_eq_zero h0
          unfold oneS at e
          rw [if_pos (mB_iff.2 (List.mem_map.2 ⟨_, List.getElem_mem hk, rfl⟩)), h1] at e
          cases e
        simp [ansO, hml]
      | some r =>
        have hp := oneS_pods e
        have hl := congrArg List.length hp
        simp only [List.length_map] at hl
        have hto := oneS_to (names_ne h.ry) e
        have hrl := oneS_len e
        rw [if_neg (show ¬ (!(ansO (some r)).2) = true by simp [ansO]), if_neg (show ¬ (((ansO (some r)).1.length : Int) != ((movS c.Bs c.Ms[k].Name).length : Int)) = true by simp [ansO, hl])]
        simp only [ansO]
        rcases loopI (F := fun n i => law26_PlanBarred.l2 c (k : Int) (r.1, true) n i) (Q := fun r => False) (S := fun k => True) (len := r.1.length) (by omega) (fun n j hj => by
          obtain ⟨⟨m, _, _, t1, _⟩, t2⟩ := hto _ (List.getElem_mem hj)
          rw [law26_PlanBarred.l2, if_pos (dlt hj), glk hk, wk1 (by omega)]
          simp only
          rcases loopI (F := fun n i => law26_PlanBarred.l3 c (r.1, true) (j : Int) n i) (Q := fun r => False) (S := fun k => True) (len := c.Barred.length) (by omega) (fun n i hi => by
            rw [law26_PlanBarred.l3, if_pos (dlt hi), glk hi, wk1 (by omega)]
            simp only
            rw [glk hj]
            simp only [Option.bind_some, seq_eq]
            right
            rw [if_neg (by simp only [decide_eq_true_eq]; intro q; exact t1 (q ▸ List.getElem_mem hi))]
            exact ⟨rfl, trivial⟩) (fun n => by rw [law26_PlanBarred.l3, if_neg dnl]) with ⟨r, _, h2⟩ | ⟨h1, _⟩
          · exact h2.elim
          · rw [h1, glk hj]
            simp only [Option.bind_some, Out.on, seq_eq]
            right
            rw [if_neg (by simpa using t2)]
            exact ⟨rfl, trivial⟩) (fun n => by rw [law26_PlanBarred.l2, if_neg dnl]) with ⟨r, _, h2⟩ | ⟨h1, _⟩
        · exact h2.elim
        · rw [h1]
          exact ⟨rfl, trivial⟩) (fun n => by rw [law26_PlanBarred.l1, if_neg dnl]) with ⟨r, _, h2⟩ | ⟨h1, _⟩
    · exact h2.elim
    · rw [h1]; rfl
end Go.Proofs.YtmpkpnclmihdnaaGreat.M

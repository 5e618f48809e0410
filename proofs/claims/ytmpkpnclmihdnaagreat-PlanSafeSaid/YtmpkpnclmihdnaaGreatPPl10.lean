/-
  Printed by a program of this session out of the loaded functions: models and their proofs. Own text.
-/
import Derived.Test.YtmpkpnclmihdnaaGreatPPl7
/-
  Plain laws of the plan: PlanMost, PlanBarred. Own text.
-/
namespace Go.Proofs.YtmpkpnclmihdnaaGreat.M
open Go Go.Proofs Go.Proofs.YtmpkpnclmihdnaaGreat.V
open Go.IntKind (i64)
set_option linter.unusedVariables false
set_option maxRecDepth 20000

theorem manyL_ext {ms : List T_api_Machine} {L : List T_api_Budget} {most : Int} : ∀ (names : List ByteArray) now plans barred goals, ∃ t, (manyL ms L most names now plans barred goals).1 = plans ++ t ∧ ((t = [] ∨ (plans.length : Int) + (t.length : Int) ≤ most))
  | [], now, plans, barred, goals => ⟨[], by simp [manyL], .inl rfl⟩
  | x :: l, now, plans, barred, goals => by
    have ih := fun now plans barred goals => manyL_ext (ms := ms) (L := L) (most := most) l now plans barred goals
    rw [manyL]
    split
    · exact ⟨[], by simp, .inl rfl⟩
    · rename_i hm
      split
      · exact ih now plans barred goals
      · split
        · exact ih now plans barred goals
        · split
          · exact ih now plans barred goals
          · rename_i r _
            obtain ⟨t, h1, h2⟩ := ih (putAll now r.1) (plans ++ [⟨x, r.1⟩]) (barred ++ [x]) (goals ++ r.1.map (·.To))
            refine ⟨⟨x, r.1⟩ :: t, by rw [h1]; simp, .inr ?_⟩
            simp only [List.length_append, List.length_cons, List.length_nil] at h2 ⊢
            rcases h2 with rfl | h2
            · simp only [List.length_nil]; omega
            · omega
theorem manyL_more {ms : List T_api_Machine} {L : List T_api_Budget} {n : Int} : ∀ (names : List ByteArray) now plans barred goals, (plans.length : Int) ≤ n → ∃ t, (manyL ms L (n + 1) names now plans barred goals).1 = (manyL ms L n names now plans barred goals).1 ++ t ∧ t.length ≤ 1
  | [], now, plans, barred, goals, _ => ⟨[], by simp [manyL], by simp⟩
  | x :: l, now, plans, barred, goals, h => by
    have ih := fun now plans barred goals => manyL_more (ms := ms) (L := L) (n := n) l now plans barred goals
    by_cases e : (plans.length : Int) ≥ n
    · obtain ⟨t, h1, h2⟩ := manyL_ext (ms := ms) (L := L) (most := n + 1) (x :: l) now plans barred goals
      refine ⟨t, ?_, ?_⟩
      · rw [h1, manyL, if_pos e]
      · rcases h2 with rfl | h2
        · simp
        · omega
    · rw [manyL, manyL, if_neg (by omega), if_neg e]
      split
      · exact ih now plans barred goals h
      · split
        · exact ih now plans barred goals h
        · split
          · exact ih now plans barred goals h
          · exact ih _ _ _ _ (by simp only [List.length_append, List.length_cons, List.length_nil]; omega)

theorem PlanMost_true {p : Prop} (c : T_law26_Case) (_ : p) : law26_PlanMost c = some true := by
  unfold law26_PlanMost
  obtain ⟨b, hb, hr⟩ := right26 c
  rw [hb, known26_true]
  cases b with
  | false => rfl
  | true =>
    have h := hr rfl
    have hpc := h.pc
    have hnn := h.nn
    simp only [Option.bind_some, Bool.not_true, Bool.false_or]
    by_cases e : c.Most > 30
    · rw [if_pos (by simpa using e)]
    · rw [if_neg (by simpa using e)]
      obtain ⟨n, hn⟩ : ∃ n : Int, max c.Most 0 = n := ⟨_, rfl⟩
      rw [hn]
      have hn0 : 0 ≤ n := by omega
      rw [w_eq (by omega) (by omega), Many_P hpc hnn, Many_P hpc hnn, Many_P hpc hnn]
      simp only [Option.bind_some]
      obtain ⟨t, h1, h2⟩ := manyL_more (ms := c.Ms) (L := c.L) (n := n) c.Names c.Bs [] [] [] (by simpa using hn0)
      obtain ⟨i1, i2, i3⟩ := many_inv h n
      have hz : manyL c.Ms c.L 0 c.Names c.Bs [] [] [] = ([], c.Bs) := by
        cases c.Names with
        | nil => rfl
        | cons x l => rw [manyL, if_pos (by simp)]
      rw [h1, hz]
      obtain ⟨A, hA⟩ : ∃ A, (manyL c.Ms c.L n c.Names c.Bs [] [] []).1 = A := ⟨_, rfl⟩
      rw [hA] at i2 i3 ⊢
      rw [w_eq (by omega) (by omega)]
      have c1 : (decide (((A ++ t).length : Int) ≥ (A.length : Int)) && decide (((A ++ t).length : Int) ≤ (A.length : Int) + 1)) = true := by
        rw [Bool.and_eq_true]; simp only [List.length_append, decide_eq_true_eq]; omega
      rw [if_pos c1]
      have hsl : V.sl (A ++ t) none (some (A.length : Int)) = some A := by
        rw [sl_pre (by simp), List.take_left]
      rw [hsl]
      simp only [Option.bind_some]
      have := hpc.nb
      rw [Same26_self (by omega) i2]
      simp only [Option.bind_some, Bool.true_and]
      rw [if_pos (by simp), Same9_self (by omega) fun b hb => (hpc.gb b hb).lp]
      rfl

theorem ready_of {ms : List T_api_Machine} {bs : List T_api_Bound} {p : T_api_Pod} {m : T_api_Machine} (h : whyV ms bs p m = 0) : m.Ready = true := by
  rw [whyV_zero] at h
  cases hr : m.Ready with
  | true => rfl
  | false =>
    have : placeV m p = 1 := by unfold placeV suit_Place; rw [hr]; rfl
    omega
/-- Where a move goes to. -/
def goesTo (ms : List T_api_Machine) (barred : List ByteArray) (v : T_api_Move) : Prop := ∃ m, m ∈ ms ∧ m.Name = v.To ∧ v.To ∉ barred ∧ m.Ready = true
theorem bestO_mem {ms : List T_api_Machine} {bs : List T_api_Bound} {barred : List ByteArray} {p : T_api_Pod} (hne : ∀ m, m ∈ ms → m.Name ≠ ⟨#[]⟩) (h : bestO ms bs barred p ≠ ⟨#[]⟩) : ∃ m, m ∈ ms ∧ m.Name = bestO ms bs barred p ∧ m.Name ∉ barred ∧ whyV ms bs p m = 0 := by
  unfold bestO at h ⊢
  have hm : ∀ m, m ∈ openM ms bs barred p → m ∈ ms ∧ m.Name ∉ barred ∧ whyV ms bs p m = 0 := fun m h => by
    unfold openM okM at h
    rw [List.mem_filter, List.mem_filter] at h
    exact ⟨h.1.1, mB_not.1 (by simpa using h.2), by simpa using h.1.2⟩
  rcases bestL_mem (scO bs p) (openM ms bs barred p) fun m hmm => hne m (hm m hmm).1 with ⟨_, h2⟩ | ⟨m, h1, h2, _⟩
  · exact absurd h2 h
  · exact ⟨m, (hm m h1).1, h2, (hm m h1).2.1, (hm m h1).2.2⟩
theorem oneL_to {ms : List T_api_Machine} {barred : List ByteArray} (hne : ∀ m, m ∈ ms → m.Name ≠ ⟨#[]⟩) : ∀ (l : List T_api_Pod) (now : List T_api_Bound) (mv : List T_api_Move) (r : List T_api_Move × List T_api_Bound), oneL ms barred l now mv = some r → (∀ v, v ∈ mv → goesTo ms barred v) → ∀ v, v ∈ r.1 → goesTo ms barred v
  | [], now, mv, r, h, hm => by
    simp only [oneL, Option.some.injEq] at h; subst h; exact hm
  | p :: l, now, mv, r, h, hm => by
    rw [oneL] at h
    split at h
    · cases h
    · rename_i e
      refine oneL_to hne l _ _ r h fun v hv => ?_
      rcases List.mem_append.1 hv with hv | hv
      · exact hm v hv
      · rw [List.mem_singleton] at hv
        subst hv
        obtain ⟨m, h1, h2, h3, h4⟩ := bestO_mem hne e
        exact ⟨m, h1, h2, h2 ▸ h3, ready_of h4⟩
theorem oneS_to {ms : List T_api_Machine} {bs : List T_api_Bound} {name : ByteArray} {barred : List ByteArray} {r : List T_api_Move × List T_api_Bound} (hne : ∀ m, m ∈ ms → m.Name ≠ ⟨#[]⟩) (h : oneS ms bs name barred = some r) : ∀ v, v ∈ r.1 → goesTo ms barred v ∧ v.To ≠ name := by
  unfold oneS at h
  split at h
  · intro v hv
    obtain ⟨m, h1, h2, h3, h4⟩ := oneL_to (fun m hm => hne m (wo_mem.1 hm).1) _ _ _ _ h (fun v hv => by cases hv) v hv
    obtain ⟨h5, h6⟩ := wo_mem.1 h1
    exact ⟨⟨m, h5, h2, h3, h4⟩, fun e => h6 (by rw [h2, e]; exact List.mem_singleton.2 rfl)⟩
  · cases h

theorem PlanBarred_true {p : Prop} (c : T_law26_Case) (_ : p) : law26_PlanBarred c = some true := by
  unfold law26_PlanBarred
  obtain ⟨b, hb, hr⟩ := right26 c
  rw [hb, known26_true]
  cases b with
  | false => rfl
  | true =>
    have h := hr rfl
    have hpc := h.pc
    have hm := hpc.nm
    have hn := hpc.nb
    have hnn := h.nn
    have hnb := h.nb
    simp only [Option.bind_some, Bool.not_true, Bool.false_eq_true, if_false]
    rcases loopI (F := fun n i => law26_PlanBarred.l1 c n i) (Q := fun r => False) (S := fun k => True) (len := c.Ms.length) (by omega) (fun n k hk => by
      rw [law26_PlanBarred.l1, if_pos (dlt hk), glk hk, wk1 (by omega)]
      simp only [Option.bind_some]
      rw [One_P _ _ (by omega) (by omega) (fun m hm => (hpc.gm m hm).lm) hpc.mu (fun b hb => (hpc.gb b hb).lp) hpc.bu, Movable_R _ _ (by omega)]
      simp only [Option.bind_some]
      right
      cases e : oneS c.Ms c.Bs c.Ms[k].Name c.Barred with
      | none =>
        have hml : (movS c.Bs c.Ms[k].Name).length ≠ 0 := by
          intro h0
          have h1 : movS c.Bs c.Ms[k].Name = [] := List.eq_nil_of_length_eq_zero h0
          unfold oneS at e
          rw [if_pos (mB_iff.2 (List.mem_map.2 ⟨_, List.getElem_mem hk, rfl⟩)), h1] at e
          cases e
        simp [ansO, hml]
      | some r =>
        have hp := oneS_pods e
        have hl := congrArg List.length hp
        simp only [List.length_map] at hl
        have hto := oneS_to (names_ne h.ry) e
        have hrl := oneS_len e
        rw [if_neg (show ¬ (!(ansO (some r)).2) = true by simp [ansO]), if_neg (show ¬ (((ansO (some r)).1.length : Int) != ((movS c.Bs c.Ms[k].Name).length : Int)) = true by simp [ansO, hl])]
        simp only [ansO]
        rcases loopI (F := fun n i => law26_PlanBarred.l2 c (k : Int) (r.1, true) n i) (Q := fun r => False) (S := fun k => True) (len := r.1.length) (by omega) (fun n j hj => by
          obtain ⟨⟨m, _, _, t1, _⟩, t2⟩ := hto _ (List.getElem_mem hj)
          rw [law26_PlanBarred.l2, if_pos (dlt hj), glk hk, wk1 (by omega)]
          simp only
          rcases loopI (F := fun n i => law26_PlanBarred.l3 c (r.1, true) (j : Int) n i) (Q := fun r => False) (S := fun k => True) (len := c.Barred.length) (by omega) (fun n i hi => by
            rw [law26_PlanBarred.l3, if_pos (dlt hi), glk hi, wk1 (by omega)]
            simp only
            rw [glk hj]
            simp only [Option.bind_some, seq_eq]
            right
            rw [if_neg (by simp only [decide_eq_true_eq]; intro q; exact t1 (q ▸ List.getElem_mem hi))]
            exact ⟨rfl, trivial⟩) (fun n => by rw [law26_PlanBarred.l3, if_neg dnl]) with ⟨r, _, h2⟩ | ⟨h1, _⟩
          · exact h2.elim
          · rw [h1, glk hj]
            simp only [Option.bind_some, Out.on, seq_eq]
            right
            rw [if_neg (by simpa using t2)]
            exact ⟨rfl, trivial⟩) (fun n => by rw [law26_PlanBarred.l2, if_neg dnl]) with ⟨r, _, h2⟩ | ⟨h1, _⟩
        · exact h2.elim
        · rw [h1]
          exact ⟨rfl, trivial⟩) (fun n => by rw [law26_PlanBarred.l1, if_neg dnl]) with ⟨r, _, h2⟩ | ⟨h1, _⟩
    · exact h2.elim
    · rw [h1]; rfl
end Go.Proofs.YtmpkpnclmihdnaaGreat.M
/-
  Plain laws of the plan: what was feasible stays feasible when a machine's pods go where they could go. Own text.
-/
namespace Go.Proofs.YtmpkpnclmihdnaaGreat.M
open Go Go.Proofs Go.Proofs.YtmpkpnclmihdnaaGreat.V
open Go.IntKind (i64)
set_option linter.unusedVariables false
set_option maxRecDepth 20000

theorem feas_more {ms : List T_api_Machine} {bs : List T_api_Bound} {p : T_api_Pod} {m0 : T_api_Machine} (hn : (ms.map (·.Name)).Nodup) (hne : ∀ m, m ∈ ms → m.Name ≠ ⟨#[]⟩) (hnd : (bs.map (·.Pod.Name)).Nodup) (hr : podsRight bs) (hp : p.Need.Pods = 1) (hq : ∀ b, b ∈ bs → b.Pod.Spread.length = 0) (hpos : ∀ x, x ∈ bs → x.Pod.Name ≠ p.Name)
    (hm0 : m0 ∈ ms) (h0 : whyV ms bs p m0 = 0) (h : feasP ms bs) : feasP ms (bs ++ [⟨p, m0.Name⟩]) := fun b hb m hm e => by
  have hu : m.Name = m0.Name → m = m0 := fun e => map_inj hn hm hm0 e
  rcases List.mem_append.1 hb with hb | hb
  · exact why_put_other hnd (fun n k => needs_of hr n k) (by omega) hb (by have := (hr b hb).2; omega) (hq b hb) hpos e (hne m hm) hu h0 (h b hb m hm e)
  · rw [List.mem_singleton.1 hb] at e ⊢
    have := hu e
    subst this
    exact why_put_self h0
theorem feas_perm {ms : List T_api_Machine} {bs cs : List T_api_Bound} (hp : bs.Perm cs) (hq : ∀ b, b ∈ bs → b.Pod.Spread.length = 0) (h : feasP ms bs) : feasP ms cs := fun b hb m hm e =>
  why_perm hp (hq b (hp.mem_iff.2 hb)) (h b (hp.mem_iff.2 hb) m hm e)
theorem feas_sub {ms : List T_api_Machine} {bs cs : List T_api_Bound} (hs : cs.Sublist bs) (hr : podsRight bs) (hq : ∀ b, b ∈ bs → b.Pod.Spread.length = 0) (h : feasP ms bs) : feasP ms cs := fun b hb m hm e =>
  why_fewer hs (fun n k => needs_of hr n k) (by have := (hr b (hs.subset hb)).2; omega) (hq b (hs.subset hb)) (h b (hs.subset hb) m hm e)

theorem zoneS_wo (x : ByteArray) : ∀ (ms : List T_api_Machine) (name : ByteArray), name ≠ x → zoneS (wo ms [x]) name = zoneS ms name
  | [], _, _ => rfl
  | m :: ms, name, h => by
    have ih := zoneS_wo x ms name h
    unfold wo at ih ⊢
    rw [List.filter_cons]
    by_cases e : m.Name = x
    · rw [if_neg (by rw [mB_iff.2 (List.mem_singleton.2 e)]; decide), ih, zoneS_cons, if_neg (by rw [e]; exact Ne.symm h)]
    · rw [if_pos (by rw [mB_not.2 (fun q => e (List.mem_singleton.1 q))]; rfl), zoneS_cons, zoneS_cons, ih]

/-- Whether one pod must not be beside another. -/
def prB (p q : T_api_Pod) : Bool := decide ((p.Apart.length : Int) > (0 : Int)) && hasB q.Labels p.Apart
theorem bars_prB (zs : List (ByteArray × ByteArray)) (p q : T_api_Pod) (a b : ByteArray) : barsB zs p q a b = (prB p q && oneB zs a b p.Wide) := rfl
theorem one_self (zs : List (ByteArray × ByteArray)) (a : ByteArray) (w : Bool) : oneB zs a a w = true := by
  unfold oneB
  simp [seq_eq]
theorem pair_same {ms : List T_api_Machine} {bs : List T_api_Bound} {p : T_api_Pod} {m : T_api_Machine} {d : T_api_Bound} (hd : d ∈ bs) (hon : d.On = m.Name) (hne : m.Name ≠ ⟨#[]⟩) (hn : d.Pod.Name ≠ p.Name) (h : whyV ms bs p m = 0) : prB p d.Pod = false ∧ prB d.Pod p = false := by
  have h3 := (whyV_zero.1 h).2.2.1
  unfold nearB at h3
  rw [List.any_eq_false] at h3
  have h4 := h3 d hd
  unfold nearQ at h4
  rw [bars_prB, bars_prB, hon, one_self, one_self, seq_eq, seq_eq] at h4
  simp only [Bool.and_true, hne, hn, decide_false, Bool.or_false, Bool.not_false, Bool.true_and] at h4
  cases h5 : prB p d.Pod <;> cases h6 : prB d.Pod p <;> simp_all

theorem why_rest {ms : List T_api_Machine} {x : ByteArray} {N D : List T_api_Bound} {p : T_api_Pod} {m0 : T_api_Machine} (hg : ∀ m, m ∈ ms → GM m) (hn : (ms.map (·.Name)).Nodup) (hN : ∀ b, b ∈ N → b.On ≠ x) (hD : ∀ b, b ∈ D → b.On = x) (hpr : ∀ b, b ∈ D → prB p b.Pod = false ∧ prB b.Pod p = false) (hsp : p.Spread.length = 0)
    (hm : m0 ∈ wo ms [x]) (h : whyV (wo ms [x]) N p m0 = 0) : whyV ms (N ++ D) p m0 = 0 := by
  have hmx : m0.Name ≠ x := fun e => (wo_mem.1 hm).2 (List.mem_singleton.2 e)
  have hg' : ∀ m, m ∈ wo ms [x] → GM m := fun m hm => hg m (wo_mem.1 hm).1
  rw [whyV_zero] at h ⊢
  obtain ⟨h1, h2, h3, h4⟩ := h
  refine ⟨h1, ?_, ?_, many_none _ _ _ _ hsp⟩
  · rw [roomS_zero] at h2 ⊢
    have : onS (othersS (N ++ D) p.Name) m0.Name = onS (othersS N p.Name) m0.Name := by
      unfold onS othersS
      have key : ∀ f : T_api_Bound → Bool, (D.filter f).filter (fun b => decide (b.On = m0.Name)) = [] := fun f => by
        rw [List.filter_eq_nil_iff]
        intro b hb
        simp only [decide_eq_true_eq]
        rw [hD b (List.mem_filter.1 hb).1]
        exact fun e => hmx e.symm
      rw [List.filter_append, List.filter_append, key, List.append_nil]
    rw [this]; exact h2
  · unfold nearB at h3 ⊢
    rw [List.any_append, Bool.or_eq_false_iff]
    constructor
    · rw [List.any_eq_false] at h3 ⊢
      intro b hb
      have := h3 b hb
      unfold nearQ barsB oneB at this ⊢
      by_cases e : b.On = ⟨#[]⟩
      · rw [e]; simp [seq_eq]
      · rw [zones_mg hg hn, zones_mg hg hn]
        rw [zones_mg hg' (names_wo hn _), zones_mg hg' (names_wo hn _), zoneS_wo x ms _ hmx, zoneS_wo x ms _ (hN b hb)] at this
        exact this
    · rw [List.any_eq_false]
      intro b hb
      obtain ⟨q1, q2⟩ := hpr b hb
      unfold nearQ
      rw [bars_prB, bars_prB, q1, q2]
      simp

/-- What stays on a machine. -/
def dmS (bs : List T_api_Bound) (x : ByteArray) : List T_api_Bound := bs.filter fun b => decide (b.On = x) && b.Pod.Daemon
theorem dmS_mem {bs : List T_api_Bound} {x : ByteArray} {b : T_api_Bound} : b ∈ dmS bs x ↔ b ∈ bs ∧ b.On = x ∧ b.Pod.Daemon = true := by
  unfold dmS; rw [List.mem_filter]; simp

theorem oneL_feas {ms : List T_api_Machine} {x : ByteArray} {barred : List ByteArray} {D : List T_api_Bound} (hg : ∀ m, m ∈ ms → GM m) (hn : (ms.map (·.Name)).Nodup) (hne : ∀ m, m ∈ ms → m.Name ≠ ⟨#[]⟩) (hD : ∀ b, b ∈ D → b.On = x) (Q : T_api_Pod → Prop) (hQ : ∀ p, Q p → resOK p.Need = true ∧ p.Need.Pods = 1 ∧ p.Spread.length = 0) (hDQ : ∀ b, b ∈ D → Q b.Pod) :
    ∀ (l : List T_api_Pod) (N : List T_api_Bound) (mv : List T_api_Move) (r : List T_api_Move × List T_api_Bound), oneL (wo ms [x]) barred l N mv = some r → ((N ++ D).map (·.Pod.Name) ++ l.map (·.Name)).Nodup → (∀ b, b ∈ N → b.On ≠ x ∧ Q b.Pod) → (∀ p, p ∈ l → Q p ∧ ∀ b, b ∈ D → prB p b.Pod = false ∧ prB b.Pod p = false) → feasP ms (N ++ D) → feasP ms (r.2 ++ D)
  | [], N, mv, r, h, _, _, _, hf => by
    simp only [oneL, Option.some.injEq] at h; subst h; exact hf
  | p :: l, N, mv, r, h, hnd, hN, hl, hf => by
    rw [oneL] at h
    split at h
    · cases h
    · rename_i e
      obtain ⟨m0, h1, h2, h3, h4⟩ := bestO_mem (fun m hm => hne m (wo_mem.1 hm).1) e
      have hpl := hl p (List.mem_cons_self ..)
      obtain ⟨n1, n2, n3⟩ := hQ p hpl.1
      have h5 := why_rest hg hn (fun b hb => (hN b hb).1) hD hpl.2 n3 h1 h4
      have hall : ∀ b, b ∈ N ++ D → Q b.Pod := fun b hb => by
        rcases List.mem_append.1 hb with hb | hb
        · exact (hN b hb).2
        · exact hDQ b hb
      have hnd' := hnd
      rw [List.nodup_append] at hnd'
      have h6 := feas_more hn hne hnd'.1 (show podsRight (N ++ D) from fun b hb => ⟨(hQ _ (hall b hb)).1, (hQ _ (hall b hb)).2.1⟩) n2 (fun b hb => (hQ _ (hall b hb)).2.2) (fun y hy q => hnd'.2.2 y.Pod.Name (List.mem_map.2 ⟨y, hy, rfl⟩) p.Name (by simp) q) (wo_mem.1 h1).1 h5 hf
      have hperm : ((N ++ D) ++ ([⟨p, m0.Name⟩] : List T_api_Bound)).Perm ((N ++ [⟨p, m0.Name⟩]) ++ D) := by
        rw [List.append_assoc, List.append_assoc]
        exact List.Perm.append_left N List.perm_append_comm
      have h7 := feas_perm hperm (fun b hb => by
        rcases List.mem_append.1 hb with hb | hb
        · exact (hQ _ (hall b hb)).2.2
        · rw [List.mem_singleton.1 hb]; exact n3) h6
      rw [← h2] at h
      refine oneL_feas hg hn hne hD Q hQ hDQ l _ _ r h ?_ ?_ (fun q hq => hl q (List.mem_cons_of_mem _ hq)) h7
      · have hp2 := (hperm.map (·.Pod.Name)).append_right (l.map (·.Name))
        refine hp2.nodup_iff.1 ?_
        simpa using hnd
      · intro b hb
        rcases List.mem_append.1 hb with hb | hb
        · exact hN b hb
        · rw [List.mem_singleton.1 hb]
          exact ⟨fun q => (wo_mem.1 h1).2 (List.mem_singleton.2 q), hpl.1⟩

/-- The moves, and the bounds that come of them. -/
def mvOf (b : T_api_Bound) : T_api_Move := ⟨b.Pod.Name, b.On⟩
theorem oneL_shape {ms : List T_api_Machine} {barred : List ByteArray} : ∀ (l : List T_api_Pod) (now : List T_api_Bound) (mv : List T_api_Move) (r : List T_api_Move × List T_api_Bound), oneL ms barred l now mv = some r → ∃ l2, r.2 = now ++ l2 ∧ r.1 = mv ++ l2.map mvOf ∧ l2.map (·.Pod) = l
  | [], now, mv, r, h => by
    simp only [oneL, Option.some.injEq] at h; subst h; exact ⟨[], by simp, by simp, rfl⟩
  | p :: l, now, mv, r, h => by
    rw [oneL] at h
    split at h
    · cases h
    · obtain ⟨l2, h1, h2, h3⟩ := oneL_shape l _ _ r h
      exact ⟨⟨p, bestO ms now barred p⟩ :: l2, by rw [h1]; simp, by rw [h2]; simp [mvOf], by simp [h3]⟩
end Go.Proofs.YtmpkpnclmihdnaaGreat.M
/-
  Plain laws of the plan: what is so all along, while machines are planned. Own text.
-/
namespace Go.Proofs.YtmpkpnclmihdnaaGreat.M
open Go Go.Proofs Go.Proofs.YtmpkpnclmihdnaaGreat.V
open Go.IntKind (i64)
set_option linter.unusedVariables false
set_option maxRecDepth 20000

theorem put_map {now : List T_api_Bound} (hn : (now.map (·.Pod.Name)).Nodup) (v : T_api_Move) : putM now v = now.map fun b => if b.Pod.Name = v.Pod then ⟨b.Pod, v.To⟩ else b := by
  unfold putM
  split
  · rename_i h
    have hq : now[plcN now v.Pod].Pod.Name = v.Pod := by
      have := List.findIdx_getElem (p := fun b : T_api_Bound => decide (b.Pod.Name = v.Pod)) (xs := now) (w := h)
      exact of_decide_eq_true this
    apply List.ext_getElem (by simp)
    intro i h1 h2
    rw [List.getElem_set, List.getElem_map]
    by_cases e : plcN now v.Pod = i
    · subst e; rw [if_pos rfl, if_pos hq]
    · rw [if_neg e, if_neg]
      intro q
      rw [List.length_set] at h1
      have hp := (show (now.map (·.Pod.Name)).Nodup ↔ _ from List.pairwise_iff_getElem).1 hn
      rcases Nat.lt_or_gt_of_ne e with hlt | hlt
      · exact hp _ i (by simpa using h) (by simpa using h1) hlt (by simp [hq, q])
      · exact hp i _ (by simpa using h1) (by simpa using h) hlt (by simp [hq, q])
  · rename_i h
    have : ∀ b, b ∈ now → (if b.Pod.Name = v.Pod then (⟨b.Pod, v.To⟩ : T_api_Bound) else b) = b := fun b hb => by
      rw [if_neg fun e => h (plc_found (List.mem_map.2 ⟨b, hb, e⟩))]
    exact ((List.map_congr_left this).trans (List.map_id' now)).symm
def gM : List T_api_Move → T_api_Bound → T_api_Bound
  | [], b => b
  | v :: l, b => gM l (if b.Pod.Name = v.Pod then ⟨b.Pod, v.To⟩ else b)
theorem gM_pod : ∀ (l : List T_api_Move) (b : T_api_Bound), (gM l b).Pod = b.Pod
  | [], b => rfl
  | v :: l, b => by rw [gM, gM_pod l]; split <;> rfl
theorem gM_on : ∀ (l : List T_api_Move) (b : T_api_Bound), ((gM l b).On = b.On ∧ ∀ v, v ∈ l → v.Pod ≠ b.Pod.Name) ∨ ∃ v, v ∈ l ∧ v.Pod = b.Pod.Name ∧ (gM l b).On = v.To
  | [], b => .inl ⟨rfl, fun v hv => by cases hv⟩
  | v :: l, b => by
    rw [gM]
    by_cases e : b.Pod.Name = v.Pod
    · rw [if_pos e]
      rcases gM_on l ⟨b.Pod, v.To⟩ with ⟨h1, _⟩ | ⟨u, h1, h2, h3⟩
      · exact .inr ⟨v, List.mem_cons_self .., e.symm, h1⟩
      · exact .inr ⟨u, List.mem_cons_of_mem _ h1, h2, h3⟩
    · rw [if_neg e]
      rcases gM_on l b with ⟨h1, h2⟩ | ⟨u, h1, h2, h3⟩
      · refine .inl ⟨h1, fun u hu => ?_⟩
        rcases List.mem_cons.1 hu with rfl | hu
        · exact Ne.symm e
        · exact h2 u hu
      · exact .inr ⟨u, List.mem_cons_of_mem _ h1, h2, h3⟩
theorem putAll_map : ∀ (l : List T_api_Move) {now : List T_api_Bound}, (now.map (·.Pod.Name)).Nodup → putAll now l = now.map (gM l)
  | [], now, _ => by simp [putAll, gM]
  | v :: l, now, hn => by
    have hp := put_pods now v
    have := putAll_map l (now := putM now v) (by rw [names_of hp]; exact hn)
    rw [show putAll now (v :: l) = putAll (putM now v) l from rfl, this, put_map hn, List.map_map]
    rfl
theorem on_same {F : T_api_Bound → T_api_Bound} {x : ByteArray} : ∀ {bs : List T_api_Bound}, (∀ b, b ∈ bs → (F b).Pod = b.Pod ∧ ((F b).On = x ↔ b.On = x)) → onS (bs.map F) x = onS bs x
  | [], _ => rfl
  | b :: bs, h => by
    have hb := h b (List.mem_cons_self ..)
    rw [List.map_cons, onS_cons, onS_cons, on_same fun c hc => h c (List.mem_cons_of_mem _ hc)]
    by_cases e : b.On = x
    · rw [if_pos e, if_pos (hb.2.2 e), hb.1]
    · rw [if_neg e, if_neg fun q => e (hb.2.1 q)]

structure PI (c : T_law26_Case) (most : Int) (now : List T_api_Bound) (plans : List T_api_Plan) (barred goals : List ByteArray) : Prop where
  ex : ∃ F : T_api_Bound → T_api_Bound, now = c.Bs.map F ∧ ∀ b, b ∈ c.Bs → (F b).Pod = b.Pod ∧ ((F b).On = b.On ∨ ((F b).On ∈ goals ∧ b.On ∈ barred))
  gl : ∀ g, g ∈ goals → (∃ m, m ∈ c.Ms ∧ m.Name = g ∧ m.Ready = true) ∧ g ∉ barred
  br : ∀ n, n ∈ barred → n ∈ c.Ms.map (·.Name) ∧ ∀ b, b ∈ now → b.On = n → b.Pod.Daemon = true
  pn : plans.map (·.Name) = barred
  pl : ∀ p, p ∈ plans → (∀ v, v ∈ p.Moves → v.To ∈ goals) ∧ p.Moves.map (·.Pod) = (movS c.Bs p.Name).map (·.Name) ∧ (movS c.Bs p.Name).any blkB = false
  fe : (∀ b, b ∈ c.Bs → b.Pod.Spread.length = 0) → feasP c.Ms c.Bs → feasP c.Ms now
  ln : (plans.length : Int) ≤ max most 0

theorem keep_perm (now : List T_api_Bound) (x : ByteArray) : (notS now x ++ dmS now x).Perm (now.filter fun b => !decide (b.On = x) || b.Pod.Daemon) := by
  have := List.filter_append_perm (fun b : T_api_Bound => !decide (b.On = x)) (now.filter fun b => !decide (b.On = x) || b.Pod.Daemon)
  rw [List.filter_filter, List.filter_filter] at this
  have e1 : (now.filter fun b => !decide (b.On = x) && (!decide (b.On = x) || b.Pod.Daemon)) = notS now x := List.filter_congr fun b _ => by cases decide (b.On = x) <;> simp
  have e2 : (now.filter fun b => !(!decide (b.On = x)) && (!decide (b.On = x) || b.Pod.Daemon)) = dmS now x := List.filter_congr fun b _ => by cases decide (b.On = x) <;> simp
  rw [e1, e2] at this
  exact this

theorem PI.step {c : T_law26_Case} (h : GC c) {most : Int} {x : ByteArray} {now : List T_api_Bound} {plans : List T_api_Plan} {barred goals : List ByteArray} {r : List T_api_Move × List T_api_Bound} (hi : PI c most now plans barred goals) (hlt : (plans.length : Int) < most) (hxb : x ∉ barred) (hxg : x ∉ goals) (hw : whyE c.L now x = 0) (ho : oneS c.Ms now x barred = some r) :
    PI c most (putAll now r.1) (plans ++ [⟨x, r.1⟩]) (barred ++ [x]) (goals ++ r.1.map (·.To)) := by
  obtain ⟨F, hF1, hF2⟩ := hi.ex
  have hpc := h.pc
  have hne := names_ne h.ry
  have hpods : now.map (·.Pod) = c.Bs.map (·.Pod) := by
    rw [hF1, List.map_map]
    exact List.map_congr_left fun b hb => (hF2 b hb).1
  have hnd : (now.map (·.Pod.Name)).Nodup := by rw [names_of hpods]; exact hpc.bu
  have hS : onS now x = onS c.Bs x := by
    rw [hF1]
    refine on_same fun b hb => ⟨(hF2 b hb).1, ?_⟩
    rcases (hF2 b hb).2 with e | ⟨e1, e2⟩
    · rw [e]
    · exact ⟨fun q => absurd (q ▸ e1) hxg, fun q => absurd (q ▸ e2) hxb⟩
  have hM : movS now x = movS c.Bs x := by unfold movS; rw [hS]
  have hto := oneS_to hne ho
  have hpd := oneS_pods ho
  have hxn : x ∈ c.Ms.map (·.Name) := by
    unfold oneS at ho
    split at ho
    · rename_i q; exact mB_iff.1 q
    · cases ho
  have hmoved : ∀ b, b ∈ now → ∀ v, v ∈ r.1 → v.Pod = b.Pod.Name → b.On = x ∧ b.Pod.Daemon = false := fun b hb v hv e => by
    have : v.Pod ∈ r.1.map (·.Pod) := List.mem_map.2 ⟨v, hv, rfl⟩
    rw [hpd] at this
    obtain ⟨p, hp, hpe⟩ := List.mem_map.1 this
    obtain ⟨hpd, b2, hb2, ho2, rfl⟩ := movS_mem.1 hp
    have := map_inj hnd hb2 hb (hpe.trans e)
    subst this
    exact ⟨ho2, hpd⟩
  have hput := putAll_map r.1 hnd
  refine ⟨⟨gM r.1 ∘ F, ?_, fun b hb => ?_⟩, fun g hg => ?_, fun n hn => ?_, ?_, fun p hp => ?_, fun hsp hf => ?_, ?_⟩
  · rw [hput, hF1, List.map_map]
  · have hbn : F b ∈ now := hF1 ▸ List.mem_map.2 ⟨b, hb, rfl⟩
    refine ⟨(gM_pod _ _).trans (hF2 b hb).1, ?_⟩
    show (gM r.1 (F b)).On = _ ∨ (gM r.1 (F b)).On ∈ _ ∧ _
    rcases gM_on r.1 (F b) with ⟨h1, _⟩ | ⟨v, h1, h2, h3⟩
    · rw [h1]
      rcases (hF2 b hb).2 with e | ⟨e1, e2⟩
      · exact .inl e
      · exact .inr ⟨List.mem_append.2 (.inl e1), List.mem_append.2 (.inl e2)⟩
    · right
      refine ⟨List.mem_append.2 (.inr (h3 ▸ List.mem_map.2 ⟨v, h1, rfl⟩)), ?_⟩
      obtain ⟨q, _⟩ := hmoved _ hbn v h1 h2
      rcases (hF2 b hb).2 with e | ⟨e1, e2⟩
      · rw [← e, q]; exact List.mem_append.2 (.inr (List.mem_singleton.2 rfl))
      · exact absurd (q ▸ e1) hxg
  · rcases List.mem_append.1 hg with hg | hg
    · obtain ⟨h1, h2⟩ := hi.gl g hg
      refine ⟨h1, fun q => ?_⟩
      rcases List.mem_append.1 q with q | q
      · exact h2 q
      · exact hxg (List.mem_singleton.1 q ▸ hg)
    · obtain ⟨v, hv, rfl⟩ := List.mem_map.1 hg
      obtain ⟨⟨m, h1, h2, h3, h4⟩, h5⟩ := hto v hv
      refine ⟨⟨m, h1, h2, h4⟩, fun q => ?_⟩
      rcases List.mem_append.1 q with q | q
      · exact h3 q
      · exact h5 (List.mem_singleton.1 q)
  · have hall : ∀ b', b' ∈ putAll now r.1 → b'.On = n → b'.Pod.Daemon = true := fun b' hb' e => by
      rw [hput] at hb'
      obtain ⟨b, hb, rfl⟩ := List.mem_map.1 hb'
      rw [gM_pod]
      rcases gM_on r.1 b with ⟨h1, h2⟩ | ⟨v, h1, h2, h3⟩
      · rw [h1] at e
        rcases List.mem_append.1 hn with hn | hn
        · exact (hi.br n hn).2 b hb e
        · rw [List.mem_singleton.1 hn] at e
          cases hd : b.Pod.Daemon with
          | true => rfl
          | false =>
            have : b.Pod ∈ movS now x := movS_mem.2 ⟨hd, b, hb, e, rfl⟩
            have : b.Pod.Name ∈ r.1.map (·.Pod) := by rw [hpd]; exact List.mem_map.2 ⟨_, this, rfl⟩
            obtain ⟨v, hv, hve⟩ := List.mem_map.1 this
            exact absurd hve (h2 v hv)
      · rw [h3] at e
        obtain ⟨⟨m, _, _, t3, _⟩, t5⟩ := hto v h1
        rcases List.mem_append.1 hn with hn | hn
        · exact absurd (e ▸ hn) t3
        · exact absurd (e.trans (List.mem_singleton.1 hn)) t5
    refine ⟨?_, hall⟩
    rcases List.mem_append.1 hn with hn | hn
    · exact (hi.br n hn).1
    · rw [List.mem_singleton.1 hn]; exact hxn
  · rw [List.map_append, hi.pn]; rfl
  · rcases List.mem_append.1 hp with hp | hp
    · obtain ⟨h1, h2, h3⟩ := hi.pl p hp
      exact ⟨fun v hv => List.mem_append.2 (.inl (h1 v hv)), h2, h3⟩
    · rw [List.mem_singleton.1 hp]
      refine ⟨fun v hv => List.mem_append.2 (.inr (List.mem_map.2 ⟨v, hv, rfl⟩)), hpd.trans (by rw [hM]), ?_⟩
      unfold whyE at hw
      rw [hM] at hw
      show (movS c.Bs x).any blkB = false
      cases q : (movS c.Bs x).any blkB with
      | false => rfl
      | true => rw [if_pos q] at hw; exact absurd hw (by decide)
  · have hfn := hi.fe hsp hf
    have hQall : ∀ b, b ∈ now → resOK b.Pod.Need = true ∧ b.Pod.Need.Pods = 1 ∧ b.Pod.Spread.length = 0 := pods_of hpods (Q := fun p => resOK p.Need = true ∧ p.Need.Pods = 1 ∧ p.Spread.length = 0) fun b hb => by
      obtain ⟨i, hi, rfl⟩ := List.getElem_of_mem hb
      obtain ⟨n1, n2⟩ := RPod_need (h.ly.bs i hi).1 (h.ry.rb i hi)
      exact ⟨n1, n2, hsp _ hb⟩
    have hprn : podsRight now := fun b hb => ⟨(hQall b hb).1, (hQall b hb).2.1⟩
    obtain ⟨mx, hmx, hmxn⟩ := List.mem_map.1 hxn
    have hxne : x ≠ ⟨#[]⟩ := hmxn ▸ hne mx hmx
    unfold oneS at ho
    rw [if_pos (mB_iff.2 hxn)] at ho
    obtain ⟨l2, s1, s2, s3⟩ := oneL_shape _ _ _ _ ho
    rw [List.nil_append] at s2
    have hkp := keep_perm now x
    have hks : (now.filter fun b => !decide (b.On = x) || b.Pod.Daemon).Sublist now := List.filter_sublist
    have hf0 : feasP c.Ms (notS now x ++ dmS now x) := feas_perm hkp.symm (fun b hb => (hQall b (hks.subset hb)).2.2) (feas_sub hks hprn (fun b hb => (hQall b hb).2.2) hfn)
    -- the names
    let mB' : List T_api_Bound := now.filter fun b => decide (b.On = x) && !b.Pod.Daemon
    have hmB : mB'.map (·.Pod) = movS now x := by
      show (now.filter fun b => decide (b.On = x) && !b.Pod.Daemon).map (·.Pod) = _
      unfold movS onS
      rw [List.filter_map, List.filter_filter]
      congr 1
      exact List.filter_congr fun b _ => by simp [Bool.and_comm]
    have hall : ((notS now x ++ dmS now x) ++ mB').Perm now := by
      have h1 := List.filter_append_perm (fun b : T_api_Bound => !decide (b.On = x) || b.Pod.Daemon) now
      have e2 : (now.filter fun b => !(!decide (b.On = x) || b.Pod.Daemon)) = mB' := List.filter_congr fun b _ => by cases decide (b.On = x) <;> simp
      rw [e2] at h1
      exact (hkp.append_right mB').trans h1
    have hnd3 : ((notS now x ++ dmS now x).map (·.Pod.Name) ++ (movS now x).map (·.Name)).Nodup := by
      have := (hall.map (·.Pod.Name)).nodup_iff.2 hnd
      rw [List.map_append] at this
      rwa [← hmB, List.map_map]
    have hfr := oneL_feas hpc.gm hpc.mu hne (D := dmS now x) (x := x) (fun b hb => (dmS_mem.1 hb).2.1) (fun p => resOK p.Need = true ∧ p.Need.Pods = 1 ∧ p.Spread.length = 0) (fun p hp => hp) (fun b hb => hQall b (dmS_mem.1 hb).1) _ _ _ _ ho hnd3 (fun b hb => ⟨(notS_mem.1 hb).2, hQall b (notS_mem.1 hb).1⟩) (fun p hp => by
      obtain ⟨p1, b, hb, hbo, rfl⟩ := movS_mem.1 hp
      refine ⟨hQall b hb, fun d hd => ?_⟩
      obtain ⟨d1, d2, d3⟩ := dmS_mem.1 hd
      refine pair_same d1 (d2.trans hmxn.symm) (hne mx hmx) (fun e => ?_) (hfn b hb mx hmx (hmxn.trans hbo.symm))
      have := map_inj hnd d1 hb e
      subst this
      rw [d3] at p1; cases p1) hf0
    -- the same bounds
    have g0 : ∀ b, (∀ v, v ∈ r.1 → v.Pod ≠ b.Pod.Name) → gM r.1 b = b := fun b hb => by
      have h1 := gM_pod r.1 b
      rcases gM_on r.1 b with ⟨h2, _⟩ | ⟨v, h2, h3, _⟩
      · cases hgb : gM r.1 b with
        | mk P O => rw [hgb] at h1 h2; cases b; simp only at h1 h2; rw [h1, h2]
      · exact absurd h3 (hb v h2)
    have hl2n : (l2.map (·.Pod.Name)).Nodup := by
      have : l2.map (·.Pod.Name) = (movS now x).map (·.Name) := by rw [← s3, List.map_map]; rfl
      rw [this]; rw [List.nodup_append] at hnd3; exact hnd3.2.1
    have hm2 : mB'.map (gM r.1) = l2 := by
      have hpp : mB'.map (·.Pod) = l2.map (·.Pod) := hmB.trans s3.symm
      have hll : mB'.length = l2.length := by simpa using congrArg List.length hpp
      apply List.ext_getElem (by simpa using hll)
      intro i h1 h2
      rw [List.length_map] at h1
      rw [List.getElem_map]
      have hpe : mB'[i].Pod = l2[i].Pod := by
        have := List.getElem_of_eq hpp (i := i) (by simpa using h1)
        simpa using this
      have q1 := gM_pod r.1 mB'[i]
      rcases gM_on r.1 mB'[i] with ⟨_, q3⟩ | ⟨v, q2, q3, q4⟩
      · exact absurd (show (mvOf l2[i]).Pod = mB'[i].Pod.Name by unfold mvOf; rw [hpe]) (q3 _ (s2 ▸ List.mem_map.2 ⟨_, List.getElem_mem h2, rfl⟩))
      · rw [s2] at q2
        obtain ⟨c2, hc2, rfl⟩ := List.mem_map.1 q2
        have : c2 = l2[i] := map_inj hl2n hc2 (List.getElem_mem h2) (by
          show c2.Pod.Name = _
          rw [← hpe]; exact q3)
        subst this
        cases hgb : gM r.1 mB'[i] with
        | mk P O =>
          rw [hgb] at q1 q4
          simp only at q1 q4
          rw [q1, q4, hpe]
          rfl
    have hfin : ((notS now x ++ l2) ++ dmS now x).Perm (putAll now r.1) := by
      rw [hput]
      have h1 := hall.map (gM r.1)
      rw [List.map_append, List.map_append, hm2] at h1
      have e1 : (notS now x).map (gM r.1) = notS now x := (List.map_congr_left fun b hb => by
        obtain ⟨hb1, hb2⟩ := notS_mem.1 hb
        exact g0 b fun v hv e => hb2 (hmoved b hb1 v hv e).1).trans (List.map_id' _)
      have e2 : (dmS now x).map (gM r.1) = dmS now x := (List.map_congr_left fun b hb => by
        obtain ⟨hb1, hb2, hb3⟩ := dmS_mem.1 hb
        exact g0 b fun v hv e => by have := (hmoved b hb1 v hv e).2; rw [hb3] at this; cases this).trans (List.map_id' _)
      rw [e1, e2] at h1
      refine List.Perm.trans ?_ h1
      rw [List.append_assoc, List.append_assoc]
      exact List.Perm.append_left _ List.perm_append_comm
    rw [s1] at hfr
    refine feas_perm hfin (fun b hb => ?_) hfr
    have hb' := hfin.mem_iff.1 hb
    rw [hput] at hb'
    obtain ⟨b0, hb0, rfl⟩ := List.mem_map.1 hb'
    rw [gM_pod]
    exact (hQall b0 hb0).2.2
  · simp only [List.length_append, List.length_cons, List.length_nil]
    omega
end Go.Proofs.YtmpkpnclmihdnaaGreat.M

/-
  Printed by a program of this session out of the loaded functions: models and their proofs. Own text.
-/
import Derived.Test.YtmpkpnclmihdnaaGreatPPl10
/-
  Plain laws of the plan: PlanSafe. Own text.
-/
namespace Go.Proofs.YtmpkpnclmihdnaaGreat.M
open Go Go.Proofs Go.Proofs.YtmpkpnclmihdnaaGreat.V
open Go.IntKind (i64)
set_option linter.unusedVariables false
set_option maxRecDepth 20000

theorem Check9_zero {ms : List T_api_Machine} {bs : List T_api_Bound} (hy : LY ms bs) (hr : RY ms bs) : ref09_Check ms bs = some 0 := by
  have hnm := hy.nm
  have hnb := hy.nb
  unfold ref09_Check
  rw [if_neg (by simp; omega)]
  have l1 := idxAll (F := fun n i => ref09_Check.l1 ms n i) (len := ms.length) (r0 := 0) (fun _ => true) (by omega) (fun n k hk => by
    rw [ref09_Check.l1, if_pos (dlt hk), glk hk, wk1 (by omega)]
    obtain ⟨h1, h2⟩ := hr.rm k hk
    simp only [Option.bind_some, seq_eq, h2, h1, decide_false, Bool.false_eq_true, if_false, if_true, Bool.not_true]) (fun n => by rw [ref09_Check.l1, if_neg dnl])
  have l2 := idxAll (F := fun n i => ref09_Check.l2 bs n i) (len := bs.length) (r0 := 0) (fun _ => true) (by omega) (fun n k hk => by
    rw [ref09_Check.l2, if_pos (dlt hk), glk hk, wk1 (by omega)]
    simp only [Option.bind_some, hr.rb k hk, Bool.not_true, Bool.false_eq_true, if_false, if_true]) (fun n => by rw [ref09_Check.l2, if_neg dnl])
  have l3 := idxAll (F := fun n i => ref09_Check.l3 ms n i) (len := ms.length) (r0 := 0) (fun _ => true) (by omega) (fun n k hk => by
    obtain ⟨r, h1, h2⟩ := Find9_eq ms ms[k].Name (by omega)
    rw [ref09_Check.l3, if_pos (dlt hk), glk hk, wk1 (by omega)]
    have : r = (k : Int) := by
      rcases h2 with ⟨q, rfl, b, ⟨c, d⟩, e⟩ | ⟨rfl, b⟩
      · rw [hr.mu q k c hk d]
      · exact absurd ⟨hk, rfl⟩ (b k hk)
    simp only [Option.bind_some, h1, this]
    rw [if_neg (by simp)]; rfl) (fun n => by rw [ref09_Check.l3, if_neg dnl])
  have l4 := idxAll (F := fun n i => ref09_Check.l4 bs n i) (len := bs.length) (r0 := 0) (fun _ => true) (by omega) (fun n k hk => by
    obtain ⟨r, h1, h2⟩ := Place9_eq bs bs[k].Pod.Name (by omega)
    rw [ref09_Check.l4, if_pos (dlt hk), glk hk, wk1 (by omega)]
    have : r = (k : Int) := by
      rcases h2 with ⟨q, rfl, b, ⟨c, d⟩, e⟩ | ⟨rfl, b⟩
      · rw [hr.bu q k c hk d]
      · exact absurd ⟨hk, rfl⟩ (b k hk)
    simp only [Option.bind_some, h1, this]
    rw [if_neg (by simp)]; rfl) (fun n => by rw [ref09_Check.l4, if_neg dnl])
  have l5 := idxAll (F := fun n i => ref09_Check.l5 ms bs n i) (len := bs.length) (r0 := 0) (fun _ => true) (by omega) (fun n k hk => by
    rw [ref09_Check.l5, if_pos (dlt hk), glk hk, wk1 (by omega)]
    simp only [Option.bind_some, seq_eq]
    by_cases e : bs[k].On = ⟨#[]⟩
    · rw [if_neg (by simp [e])]; rfl
    · rw [if_pos (by simpa using e)]
      obtain ⟨r, h1, h2⟩ := Find9_eq ms bs[k].On (by omega)
      obtain ⟨j, hj, hje⟩ := hr.on k hk e
      have : ¬ r < 0 := by
        rcases h2 with ⟨q, rfl, b, ⟨c, d⟩, e⟩ | ⟨rfl, b⟩
        · omega
        · exact absurd ⟨hj, hje⟩ (b j hj)
      simp only [h1, Option.bind_some]
      rw [if_neg (by simpa using this)]; rfl) (fun n => by rw [ref09_Check.l5, if_neg dnl])
  have all : ∀ n, allN n (fun _ => true) = true := fun n => allN_iff.2 fun _ _ => rfl
  rw [show ref09_Check.l1 ms FU 0 = _ from l1, show ref09_Check.l2 bs FU 0 = _ from l2, show ref09_Check.l3 ms FU 0 = _ from l3, show ref09_Check.l4 bs FU 0 = _ from l4, show ref09_Check.l5 ms bs FU 0 = _ from l5]
  simp only [all, if_true, Option.bind_some, Out.on]

theorem feas12 {ms : List T_api_Machine} {bs : List T_api_Bound} (hl : ms.length ≤ 400) (hbl : bs.length ≤ 400) (hms : ∀ m, m ∈ ms → GM m) (hn : (ms.map (·.Name)).Nodup) (hb : ∀ b, b ∈ bs → GP b.Pod) (hne : ∀ m, m ∈ ms → m.Name ≠ ⟨#[]⟩)
    (hu : ∀ m m', m ∈ ms → m' ∈ ms → m.Name = m'.Name → m = m') (hon : ∀ k (h : k < bs.length), bs[k].On ≠ ⟨#[]⟩ → ∃ m, m ∈ ms ∧ m.Name = bs[k].On) : ∃ r, ref12_Feasible ms bs = some r ∧ (r = true ↔ feasP ms bs) := by
  unfold ref12_Feasible
  rcases loopI (F := fun n i => ref12_Feasible.l1 ms bs n i) (Q := fun r => r = false ∧ ¬ feasP ms bs) (S := fun k => ∀ h : k < bs.length, ∀ m, m ∈ ms → m.Name = bs[k].On → whyV ms bs bs[k].Pod m = 0) (len := bs.length) (by omega) (fun n k hk => by
      rw [ref12_Feasible.l1, if_pos (dlt hk), glk hk, wk1 (by omega)]
      simp only [Option.bind_some, seq_eq]
      by_cases e : bs[k].On = ⟨#[]⟩
      · rw [if_neg (by simp [e])]
        exact .inr ⟨rfl, fun _ m hm q => absurd (q.trans e) (hne m hm)⟩
      · rw [if_pos (by simpa using e)]
        obtain ⟨m, hm, hme⟩ := hon k hk e
        rw [← hme, Why12_eq hl hbl hms hn hb (hb _ (List.getElem_mem hk)) hm]
        simp only [Option.bind_some]
        by_cases z : whyV ms bs bs[k].Pod m = 0
        · rw [if_neg (by simp [z])]
          refine .inr ⟨rfl, fun _ m' hm' q => ?_⟩
          have := hu m' m hm' hm (q.trans hme.symm)
          subst this
          exact z
        · rw [if_pos (by simpa using z)]
          exact .inl ⟨false, rfl, rfl, fun h => z (h _ (List.getElem_mem hk) m hm hme)⟩) (fun n => by rw [ref12_Feasible.l1, if_neg dnl]) with ⟨r, h1, rfl, h2⟩ | ⟨h1, h2⟩
  · rw [h1]; exact ⟨false, rfl, fun h => (by cases h), fun h => absurd h h2⟩
  · rw [h1]
    refine ⟨true, rfl, fun _ b hb m hm e => ?_, fun _ => rfl⟩
    obtain ⟨i, hi, rfl⟩ := List.getElem_of_mem hb
    exact h2 i hi hi m hm e
theorem free_l1 {c : T_law26_Case} (hn : c.Bs.length ≤ 1000) : law26_PlanSafe.l1 c FU true 0 = some (c.Bs.all fun b => b.Pod.Spread.length == 0) := by
  have := idxFoldL (F := fun n s i => law26_PlanSafe.l1 c n s i) (l := c.Bs) (fun s b => s && (b.Pod.Spread.length == 0)) id (fun _ _ => True) (by omega) (fun n s k hk _ => by
    refine ⟨?_, trivial⟩
    rw [law26_PlanSafe.l1, if_pos (dlt hk), glk hk, wk1 (by omega)]
    cases s with
    | false => rfl
    | true =>
      simp only [if_true, Option.bind_some, Bool.true_and]
      rw [show (((c.Bs[k].Pod.Spread.length : Nat) : Int) == 0) = (c.Bs[k].Pod.Spread.length == 0) by
        rw [Bool.eq_iff_iff]; simp]) (fun n s => by rw [law26_PlanSafe.l1, if_neg dnl]; rfl) true trivial
  rw [show law26_PlanSafe.l1 c FU true 0 = _ from this]
  simp only [id]
  congr 1
  have key : ∀ (l : List T_api_Bound) (b : Bool), l.foldl (fun s b => s && (b.Pod.Spread.length == 0)) b = (b && l.all fun b => b.Pod.Spread.length == 0) := by
    intro l
    induction l with
    | nil => intro b; simp
    | cons x l ih => intro b; rw [List.foldl_cons, ih, List.all_cons, Bool.and_assoc]
  rw [key, Bool.true_and]

/-- How often a pod is met. -/
def metN (l : List ByteArray) (n : ByteArray) : Nat := (l.filter fun x => decide (x = n)).length
theorem metN_one : ∀ {l : List ByteArray} {n : ByteArray}, l.Nodup → n ∈ l → metN l n = 1
  | [], _, _, h => by cases h
  | x :: l, n, hnd, h => by
    rw [List.nodup_cons] at hnd
    unfold metN
    rw [List.filter_cons]
    by_cases e : x = n
    · subst e
      rw [if_pos (by simp)]
      have : l.filter (fun y => decide (y = x)) = [] := List.filter_eq_nil_iff.2 fun y hy => by simp only [decide_eq_true_eq]; exact fun q => hnd.1 (q ▸ hy)
      rw [this]; rfl
    · rw [if_neg (by simpa using e)]
      rcases List.mem_cons.1 h with q | q
      · exact absurd q.symm e
      · exact metN_one hnd.2 q
theorem met_l4 {plans : List T_api_Plan} {now : List T_api_Bound} {r7 : List T_api_Pod} {i k : Nat} (hi : i < plans.length) (hk : k < r7.length) (hm : plans[i].Moves.length ≤ 1000) :
    law26_PlanSafe.l4 (plans, now) (i : Int) r7 (k : Int) FU 0 0 = some ((metN (plans[i].Moves.map (·.Pod)) r7[k].Name : Nat) : Int) := by
  have key : ∀ (m j f : Nat) (n : Nat), plans[i].Moves.length - j ≤ m → m < f → j ≤ plans[i].Moves.length → n ≤ j → law26_PlanSafe.l4 (plans, now) (i : Int) r7 (k : Int) f (n : Int) (j : Int) = some ((n + metN ((plans[i].Moves.drop j).map (·.Pod)) r7[k].Name : Nat) : Int) := by
    intro m
    induction m with
    | zero =>
      intro j f n h1 h2 h3 h4
      obtain ⟨f, rfl⟩ : ∃ q, f = q + 1 := ⟨f - 1, by omega⟩
      rw [law26_PlanSafe.l4, glk hi]
      simp only [Option.bind_some]
      rw [if_neg (by simp; omega), List.drop_eq_nil_of_le (by omega)]; rfl
    | succ m ih =>
      intro j f n h1 h2 h3 h4
      obtain ⟨f, rfl⟩ : ∃ q, f = q + 1 := ⟨f - 1, by omega⟩
      rw [law26_PlanSafe.l4, glk hi]
      simp only [Option.bind_some]
      by_cases hj : j < plans[i].Moves.length
      · rw [if_pos (dlt hj), glk hj, glk hk, wk1 (k := j) (by omega), List.drop_eq_getElem_cons hj, List.map_cons]
        simp only [Option.bind_some, seq_eq]
        unfold metN at ih ⊢
        rw [List.filter_cons]
        by_cases e : plans[i].Moves[j].Pod = r7[k].Name
        · rw [if_pos (by simpa using e), if_pos (by simpa using e), wk1 (k := n) (by omega), ih (j + 1) f (n + 1) (by omega) (by omega) (by omega) (by omega), List.length_cons]
          congr 2; omega
        · rw [if_neg (by simpa using e), if_neg (by simpa using e), ih (j + 1) f n (by omega) (by omega) (by omega) (by omega)]
      · rw [if_neg (by simp; omega), List.drop_eq_nil_of_le (by omega)]; rfl
  have := key plans[i].Moves.length 0 FU 0 (by omega) (by unfold FU; omega) (Nat.zero_le _) (Nat.le_refl _)
  rw [List.drop_zero, Nat.zero_add] at this
  exact this

theorem PlanSafe_true {p : Prop} (c : T_law26_Case) (_ : p) : law26_PlanSafe c = some true := by
  unfold law26_PlanSafe
  obtain ⟨b, hb, hr⟩ := right26 c
  rw [hb, known26_true]
  cases b with
  | false => rfl
  | true =>
    have h := hr rfl
    have hpc := h.pc
    have hm := hpc.nm
    have hn := hpc.nb
    have hL := hpc.nl
    have hnn := h.nn
    have hne := names_ne h.ry
    simp only [Option.bind_some, Bool.not_true, Bool.false_eq_true, if_false]
    rw [Many_P hpc hnn]
    simp only [Option.bind_some]
    obtain ⟨i1, i2, i3⟩ := many_inv h c.Most
    obtain ⟨barred, goals, hI⟩ := manyL_ind (ms := c.Ms) (L := c.L) (most := c.Most) (PI c c.Most) (fun x now plans barred goals r hi h1 h2 h3 h4 h5 => hi.step h h1 h2 h3 h4 h5) c.Names c.Bs [] [] []
      ⟨⟨id, by simp, fun b _ => ⟨rfl, .inl rfl⟩⟩, fun g hg => (by cases hg), fun n hn => (by cases hn), rfl, fun p hp => (by cases hp), fun _ h => h, (by simp only [List.length_nil]; omega)⟩
    generalize manyL c.Ms c.L c.Most c.Names c.Bs [] [] [] = res at *
    obtain ⟨plans, now⟩ := res
    simp only at i1 i2 i3 hI
    have hlen := len_of i1
    have hnow : (now.map (·.Pod.Name)).Nodup := by rw [names_of i1]; exact hpc.bu
    obtain ⟨F, hF1, hF2⟩ := hI.ex
    -- the yard is right
    have hon : ∀ b, b ∈ now → b.On ≠ ⟨#[]⟩ → ∃ m, m ∈ c.Ms ∧ m.Name = b.On := fun b hb e => by
      rw [hF1] at hb
      obtain ⟨b0, hb0, rfl⟩ := List.mem_map.1 hb
      rcases (hF2 b0 hb0).2 with q | ⟨q, _⟩
      · rw [q] at e ⊢
        obtain ⟨i, hi, rfl⟩ := List.getElem_of_mem hb0
        obtain ⟨j, hj, e2⟩ := h.ry.on i hi e
        exact ⟨c.Ms[j], List.getElem_mem hj, e2⟩
      · obtain ⟨⟨m, h1, h2, _⟩, _⟩ := hI.gl _ q
        exact ⟨m, h1, h2⟩
    have hlp : ∀ b, b ∈ now → LP b.Pod := pods_of i1 fun b hb => (hpc.gb b hb).lp
    have hrp : ∀ b, b ∈ now → ref07_RightPod b.Pod = some true := pods_of i1 (Q := fun p => ref07_RightPod p = some true) fun b hb => by
      obtain ⟨i, hi, rfl⟩ := List.getElem_of_mem hb
      exact h.ry.rb i hi
    have hly : LY c.Ms now := ⟨hm, by omega, h.ly.ms, fun k hk => ⟨hlp _ (List.getElem_mem hk), by
      by_cases e : now[k].On = ⟨#[]⟩
      · rw [e]; exact Nat.zero_le _
      · obtain ⟨m, h1, h2⟩ := hon _ (List.getElem_mem hk) e
        rw [← h2]; exact (hpc.gm m h1).lm.name⟩⟩
    have hry : RY c.Ms now := ⟨h.ry.rm, fun k hk => hrp _ (List.getElem_mem hk), h.ry.mu, fun j k hj hk e => by
      have hp := (show (now.map (·.Pod.Name)).Nodup ↔ _ from List.pairwise_iff_getElem).1 hnow
      by_cases q : j = k
      · exact q
      · exfalso
        rcases Nat.lt_or_gt_of_ne q with hlt | hlt
        · exact hp j k (by simpa using hj) (by simpa using hk) hlt (by simpa using e)
        · exact hp k j (by simpa using hk) (by simpa using hj) hlt (by simpa using e.symm), fun k hk e => by
      obtain ⟨m, h1, h2⟩ := hon _ (List.getElem_mem hk) e
      obtain ⟨j, hj, rfl⟩ := List.getElem_of_mem h1
      exact ⟨j, hj, h2⟩⟩
    have hln := hI.ln
    have hc2 : (((now.length : Int) != (c.Bs.length : Int)) || (decide ((plans.length : Int) > (max c.Most 0)))) = false := by
      rw [Bool.or_eq_false_iff]
      exact ⟨by simp [hlen], by simpa using hln⟩
    rw [hc2, Check9_zero hly hry]
    simp only [Bool.false_eq_true, if_false, Option.bind_some]
    rw [if_neg (by simp), free_l1 (by omega)]
    simp only [Option.bind_some]
    -- the plans
    have hmov0 : ∀ p, p ∈ plans → (movS now p.Name) = [] := fun p hp => by
      have hpb : p.Name ∈ barred := hI.pn ▸ List.mem_map.2 ⟨p, hp, rfl⟩
      rw [List.eq_nil_iff_forall_not_mem]
      intro q hq
      obtain ⟨q1, b, q2, q3, rfl⟩ := movS_mem.1 hq
      have := (hI.br _ hpb).2 b q2 q3
      rw [q1] at this; cases this
    have hmn : ∀ n, ((movS c.Bs n).map (·.Name)).Nodup := fun n => by
      have := names_app (n := n) hpc.bu
      rw [List.nodup_append] at this
      exact this.2.1
    have hl2 : law26_PlanSafe.l2 c (plans, now) FU 0 = some (Out.go ()) := by
      rcases loopI (F := fun n i => law26_PlanSafe.l2 c (plans, now) n i) (Q := fun r => False) (S := fun k => True) (len := plans.length) (by omega) (fun n i hi => by
        have hpm := List.getElem_mem hi
        obtain ⟨p1, p2, p3⟩ := hI.pl _ hpm
        have hmlen := i2 _ hpm
        have hpb : plans[i].Name ∈ barred := hI.pn ▸ List.mem_map.2 ⟨_, hpm, rfl⟩
        obtain ⟨r5, _, f1, f2⟩ := find_c (ms := c.Ms) plans[i].Name (by omega)
        have hr5 : ¬ r5 < 0 := fun q => f2.1 q (hI.br _ hpb).1
        have hml := movS_len c.Bs plans[i].Name
        have hol := onS_len c.Bs plans[i].Name
        rw [law26_PlanSafe.l2, if_pos (dlt hi), wk1 (by omega)]
        simp only
        rw [glk hi]
        simp only [Option.bind_some, f1, Movable_R now _ (show now.length ≤ 1000 by omega), Movable_R c.Bs _ (show c.Bs.length ≤ 1000 by omega), hmov0 _ hpm]
        rw [if_neg (show ¬ decide (r5 < 0) = true by simpa using hr5)]
        simp only [Option.bind_some]
        rw [if_neg (by simp)]
        have hl3 : law26_PlanSafe.l3 (plans, now) (i : Int) (movS c.Bs plans[i].Name) FU 0 = some (Out.go ()) := by
          rcases loopI (F := fun n k => law26_PlanSafe.l3 (plans, now) (i : Int) (movS c.Bs plans[i].Name) n k) (Q := fun r => False) (S := fun k => True) (len := (movS c.Bs plans[i].Name).length) (by omega) (fun n k hk => by
            have hpk := List.getElem_mem hk
            have hbl : blkB (movS c.Bs plans[i].Name)[k] = false := by
              rw [List.any_eq_false] at p3
              simpa using p3 _ hpk
            unfold blkB at hbl
            rw [Bool.or_eq_false_iff, Bool.or_eq_false_iff] at hbl
            rw [law26_PlanSafe.l3, if_pos (dlt hk), wk1 (by omega), met_l4 hi hk (by omega), p2, metN_one (hmn _) (List.mem_map.2 ⟨_, hpk, rfl⟩), glk hk]
            simp only [Option.bind_some, seq_eq, hbl.1, hbl.2.1, hbl.2.2]
            right
            exact ⟨rfl, trivial⟩) (fun n => by rw [law26_PlanSafe.l3, if_neg dnl]) with ⟨r, _, h2⟩ | ⟨h1, _⟩
          · exact h2.elim
          · exact h1
        have hl5 : law26_PlanSafe.l5 c (plans, now) (i : Int) FU 0 = some (Out.go ()) := by
          rcases loopI (F := fun n k => law26_PlanSafe.l5 c (plans, now) (i : Int) n k) (Q := fun r => False) (S := fun k => True) (len := plans[i].Moves.length) (by omega) (fun n k hk => by
            obtain ⟨⟨m, g1, g2, g3⟩, g4⟩ := hI.gl _ (p1 _ (List.getElem_mem hk))
            have hl6 : law26_PlanSafe.l6 (plans, now) (i : Int) (k : Int) FU 0 = some (Out.go ()) := by
              rcases loopI (F := fun n j => law26_PlanSafe.l6 (plans, now) (i : Int) (k : Int) n j) (Q := fun r => False) (S := fun k => True) (len := plans.length) (by omega) (fun n j hj => by
                rw [law26_PlanSafe.l6, if_pos (dlt hj), wk1 (by omega)]
                simp only
                rw [glk hi, glk hj]
                simp only [Option.bind_some]
                rw [glk hk]
                simp only [Option.bind_some, seq_eq]
                right
                rw [if_neg]
                · exact ⟨rfl, trivial⟩
                · simp only [decide_eq_true_eq]
                  intro q
                  exact g4 (q ▸ hI.pn ▸ List.mem_map.2 ⟨_, List.getElem_mem hj, rfl⟩)) (fun n => by rw [law26_PlanSafe.l6, if_neg dnl]) with ⟨r, _, h2⟩ | ⟨h1, _⟩
              · exact h2.elim
              · exact h1
            obtain ⟨r8, e1, e2⟩ := Find_first c.Ms plans[i].Moves[k].To (by omega)
            obtain ⟨r8', _, e3, e4⟩ := find_c (ms := c.Ms) plans[i].Moves[k].To (by omega)
            obtain ⟨r9, e5, e6⟩ := Find9_eq c.Ms plans[i].Moves[k].To (by omega)
            rw [e3, Option.some.injEq] at e5
            subst e5
            have hr8 : ¬ r8' < 0 := fun q => e4.1 q (List.mem_map.2 ⟨m, g1, g2⟩)
            have hgl := find_mem (by omega) hpc.mu g1 (r := r8') (by rw [g2]; exact e6)
            rw [law26_PlanSafe.l5, wk1 (by omega)]
            simp only
            rw [glk hi]
            simp only [Option.bind_some]
            rw [if_pos (dlt hk), hl6, glk hk]
            simp only [Option.bind_some, Out.on, e3]
            rw [if_neg (show ¬ decide (r8' < 0) = true by simpa using hr8), hgl]
            simp only [Option.bind_some, g3]
            right
            exact ⟨rfl, trivial⟩) (fun n => by
              rw [law26_PlanSafe.l5]
              simp only
              rw [glk hi]
              simp only [Option.bind_some]
              rw [if_neg dnl]) with ⟨r, _, h2⟩ | ⟨h1, _⟩
          · exact h2.elim
          · exact h1
        rw [hl3, hl5]
        right
        exact ⟨rfl, trivial⟩) (fun n => by rw [law26_PlanSafe.l2, if_neg dnl]) with ⟨r, _, h2⟩ | ⟨h1, _⟩
      · exact h2.elim
      · exact h1
    rw [hl2]
    simp only [Option.bind_some, Out.on]
    -- the budgets
    have hl7 : law26_PlanSafe.l7 c (plans, now) FU 0 = some (Out.go ()) := by
      rcases loopI (F := fun n i => law26_PlanSafe.l7 c (plans, now) n i) (Q := fun r => False) (S := fun k => True) (len := c.L.length) (by omega) (fun n i hi => by
        have hg := hpc.gl _ (List.getElem_mem hi)
        have hsame : spareV c.L[i] now = spareV c.L[i] c.Bs := by
          unfold spareV cntV
          rw [hF1, List.filter_map, List.length_map]
          congr 3
          refine List.filter_congr fun b hb => ?_
          simp only [Function.comp]
          rw [(hF2 b hb).1]
          congr 2
          rcases (hF2 b hb).2 with q | ⟨q1, q2⟩
          · rw [q]
          · obtain ⟨⟨m, g1, g2, _⟩, _⟩ := hI.gl _ q1
            obtain ⟨g3, _⟩ := hI.br _ q2
            obtain ⟨m', g4, g5⟩ := List.mem_map.1 g3
            have z1 : (F b).On ≠ ⟨#[]⟩ := g2 ▸ hne m g1
            have z2 : b.On ≠ ⟨#[]⟩ := g5 ▸ hne m' g4
            simp [z1, z2]
        rw [law26_PlanSafe.l7, if_pos (dlt hi), glk hi, wk1 (by omega)]
        simp only [Option.bind_some]
        rw [Spare_R hg (by omega) (pods_of i1 hpc.gb), Spare_R hg (by omega) hpc.gb, hsame]
        right
        simp) (fun n => by rw [law26_PlanSafe.l7, if_neg dnl]) with ⟨r, _, h2⟩ | ⟨h1, _⟩
      · exact h2.elim
      · exact h1
    rw [hl7]
    simp only [Option.bind_some]
    have uniq : ∀ m m', m ∈ c.Ms → m' ∈ c.Ms → m.Name = m'.Name → m = m' := fun m m' h1 h2 e => map_inj hpc.mu h1 h2 e
    obtain ⟨f1, f2, f3⟩ := feas12 (show c.Ms.length ≤ 400 by omega) (show c.Bs.length ≤ 400 by omega) hpc.gm hpc.mu hpc.gb hne uniq (fun k hk e => by
      obtain ⟨j, hj, e2⟩ := h.ry.on k hk e
      exact ⟨c.Ms[j], List.getElem_mem hj, e2⟩)
    obtain ⟨g1, g2, g3⟩ := feas12 (show c.Ms.length ≤ 400 by omega) (show now.length ≤ 400 by omega) hpc.gm hpc.mu (pods_of i1 hpc.gb) hne uniq (fun k hk e => hon _ (List.getElem_mem hk) e)
    rw [f2, g2]
    cases hfree : c.Bs.all (fun b => b.Pod.Spread.length == 0) with
    | false => rfl
    | true =>
      have hsp : ∀ b, b ∈ c.Bs → b.Pod.Spread.length = 0 := fun b h => by simpa using List.all_eq_true.1 hfree b h
      cases hf : f1 with
      | false => rfl
      | true => rw [g3.2 (hI.fe hsp (f3.1 hf))]; rfl
end Go.Proofs.YtmpkpnclmihdnaaGreat.M

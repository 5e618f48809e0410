/-
  Plain law: SchedSafe answers true. Own text.
-/
import Derived.Test.YtbkdglcedgiogaaGreatPSch3
import Derived.Test.YtbkdglcedgiogaaGreatRSO
namespace Go.Proofs.YtbkdglcedgiogaaGreat.M
open Go Go.Proofs Go.Proofs.YtbkdglcedgiogaaGreat.V
set_option linter.unusedVariables false

theorem Check9_zero {ms : List T_api_Machine} {bs : List T_api_Bound} (hy : LY ms bs) (hr : RY ms bs) : ref09_Check ms bs = some 0 := by
  have hnm := hy.nm
  have hnb := hy.nb
  unfold ref09_Check
  rw [if_neg (by simp; omega)]
  have l1 := idxAll (F := fun n i => ref09_Check.l1 ms n i) (len := ms.length) (r0 := 0) (fun _ => true) (by omega) (fun n k hk => by
    rw [ref09_Check.l1, if_pos (dlt hk), glk hk, wk1 (by omega)]
    obtain ⟨h1, h2⟩ := hr.rm k hk
    simp only [Option.bind_some, seq_eq, h2, h1, decide_false, Bool.false_eq_true, if_false, if_true, Bool.not_true]) (fun n => by rw [ref09_Check.l1, if_neg dnl])
  have l2 := idxAll (F := fun n i => ref09_Check.l2 bs n i) (len := bs.length) (r0 := 0) (fun _ => true) (by omega) (fun n k hk => by
    rw [ref09_Check.l2, if_pos (dlt hk), glk hk, wk1 (by omega)]
    simp only [Option.bind_some, hr.rb k hk, Bool.not_true, Bool.false_eq_true, if_false, if_true]) (fun n => by rw [ref09_Check.l2, if_neg dnl])
  have l3 := idxAll (F := fun n i => ref09_Check.l3 ms n i) (len := ms.length) (r0 := 0) (fun _ => true) (by omega) (fun n k hk => by
    obtain ⟨r, h1, h2⟩ := Find9_eq ms ms[k].Name (by omega)
    rw [ref09_Check.l3, if_pos (dlt hk), glk hk, wk1 (by omega)]
    have : r = (k : Int) := by
      rcases h2 with ⟨q, rfl, b, ⟨c, d⟩, e⟩ | ⟨rfl, b⟩
      · rw [hr.mu q k c hk d]
      · exact absurd ⟨hk, rfl⟩ (b k hk)
    simp only [Option.bind_some, h1, this]
    rw [if_neg (by simp)]; rfl) (fun n => by rw [ref09_Check.l3, if_neg dnl])
  have l4 := idxAll (F := fun n i => ref09_Check.l4 bs n i) (len := bs.length) (r0 := 0) (fun _ => true) (by omega) (fun n k hk => by
    obtain ⟨r, h1, h2⟩ := Place9_eq bs bs[k].Pod.Name (by omega)
    rw [ref09_Check.l4, if_pos (dlt hk), glk hk, wk1 (by omega)]
    have : r = (k : Int) := by
      rcases h2 with ⟨q, rfl, b, ⟨c, d⟩, e⟩ | ⟨rfl, b⟩
      · rw [hr.bu q k c hk d]
      · exact absurd ⟨hk, rfl⟩ (b k hk)
    simp only [Option.bind_some, h1, this]
    rw [if_neg (by simp)]; rfl) (fun n => by rw [ref09_Check.l4, if_neg dnl])
  have l5 := idxAll (F := fun n i => ref09_Check.l5 ms bs n i) (len := bs.length) (r0 := 0) (fun _ => true) (by omega) (fun n k hk => by
    rw [ref09_Check.l5, if_pos (dlt hk), glk hk, wk1 (by omega)]
    simp only [Option.bind_some, seq_eq]
    by_cases e : bs[k].On = ⟨#[]⟩
    · rw [if_neg (by simp [e])]; rfl
    · rw [if_pos (by simpa using e)]
      obtain ⟨r, h1, h2⟩ := Find9_eq ms bs[k].On (by omega)
      obtain ⟨j, hj, hje⟩ := hr.on k hk e
      have : ¬ r < 0 := by
        rcases h2 with ⟨q, rfl, b, ⟨c, d⟩, e⟩ | ⟨rfl, b⟩
        · omega
        · exact absurd ⟨hj, hje⟩ (b j hj)
      simp only [h1, Option.bind_some]
      rw [if_neg (by simpa using this)]; rfl) (fun n => by rw [ref09_Check.l5, if_neg dnl])
  have all : ∀ n, allN n (fun _ => true) = true := fun n => allN_iff.2 fun _ _ => rfl
  rw [show ref09_Check.l1 ms FU 0 = _ from l1, show ref09_Check.l2 bs FU 0 = _ from l2, show ref09_Check.l3 ms FU 0 = _ from l3, show ref09_Check.l4 bs FU 0 = _ from l4, show ref09_Check.l5 ms bs FU 0 = _ from l5]
  simp only [all, if_true, Option.bind_some, Out.on]

theorem feas12 {ms : List T_api_Machine} {bs : List T_api_Bound} (hl : ms.length ≤ 400) (hbl : bs.length ≤ 400) (hms : ∀ m, m ∈ ms → GM m) (hn : (ms.map (·.Name)).Nodup) (hb : ∀ b, b ∈ bs → GP b.Pod) (hne : ∀ m, m ∈ ms → m.Name ≠ ⟨#[]⟩)
    (hu : ∀ m m', m ∈ ms → m' ∈ ms → m.Name = m'.Name → m = m') (hon : ∀ k (h : k < bs.length), bs[k].On ≠ ⟨#[]⟩ → ∃ m, m ∈ ms ∧ m.Name = bs[k].On) : ∃ r, ref12_Feasible ms bs = some r ∧ (r = true ↔ feasP ms bs) := by
  unfold ref12_Feasible
  rcases loopI (F := fun n i => ref12_Feasible.l1 ms bs n i) (Q := fun r => r = false ∧ ¬ feasP ms bs) (S := fun k => ∀ h : k < bs.length, ∀ m, m ∈ ms → m.Name = bs[k].On → whyV ms bs bs[k].Pod m = 0) (len := bs.length) (by omega) (fun n k hk => by
      rw [ref12_Feasible.l1, if_pos (dlt hk), glk hk, wk1 (by omega)]
      simp only [Option.bind_some, seq_eq]
      by_cases e : bs[k].On = ⟨#[]⟩
      · rw [if_neg (by simp [e])]
        exact .inr ⟨rfl, fun _ m hm q => absurd (q.trans e) (hne m hm)⟩
      · rw [if_pos (by simpa using e)]
        obtain ⟨m, hm, hme⟩ := hon k hk e
        rw [← hme, Why12_eq hl hbl hms hn hb (hb _ (List.getElem_mem hk)) hm]
        simp only [Option.bind_some]
        by_cases z : whyV ms bs bs[k].Pod m = 0
        · rw [if_neg (by simp [z])]
          refine .inr ⟨rfl, fun _ m' hm' q => ?_⟩
          have := hu m' m hm' hm (q.trans hme.symm)
          subst this
          exact z
        · rw [if_pos (by simpa using z)]
          exact .inl ⟨false, rfl, rfl, fun h => z (h _ (List.getElem_mem hk) m hm hme)⟩) (fun n => by rw [ref12_Feasible.l1, if_neg dnl]) with ⟨r, h1, rfl, h2⟩ | ⟨h1, h2⟩
  · rw [h1]; exact ⟨false, rfl, fun h => (by cases h), fun h => absurd h h2⟩
  · rw [h1]
    refine ⟨true, rfl, fun _ b hb m hm e => ?_, fun _ => rfl⟩
    obtain ⟨i, hi, rfl⟩ := List.getElem_of_mem hb
    exact h2 i hi hi m hm e

theorem safe_l1 {bs out : List T_api_Bound} {mv : List T_api_Move} {ms : List T_api_Machine} (hs : SI ms bs out mv) (hbl : bs.length ≤ 400) : ∀ (m k f : Nat) (fr : Bool) (c : Nat), bs.length - k ≤ m → m < f → k ≤ bs.length → c + m ≤ 1000 →
    law14_SchedSafe.l1 bs (out, mv) f fr (c : Int) (k : Int) = some (Out.go (fr && (bs.drop k).all (fun b => b.Pod.Spread.length == 0), ((c + cntD (out.drop k) (bs.drop k) : Nat) : Int))) := by
  intro m
  induction m with
  | zero =>
    intro k f fr c h1 h2 h3 h4
    obtain ⟨f, rfl⟩ : ∃ q, f = q + 1 := ⟨f - 1, by omega⟩
    have hol := hs.len
    rw [law14_SchedSafe.l1, if_neg (by simp; omega), List.drop_eq_nil_of_le (show bs.length ≤ k by omega), List.drop_eq_nil_of_le (by omega)]
    simp [cntD]
  | succ m ih =>
    intro k f fr c h1 h2 h3 h4
    obtain ⟨f, rfl⟩ : ∃ q, f = q + 1 := ⟨f - 1, by omega⟩
    have hol := hs.len
    by_cases hk : k < bs.length
    · have hko : k < out.length := by omega
      rw [law14_SchedSafe.l1, if_pos (dlt hk), glk hk]
      simp only [glk hko, Option.bind_some, seq_eq, hs.pod k hko hk]
      rw [wk1 (k := c) (by omega), wk1 (k := k) (by omega)]
      have hfr : ((if fr = true then some ((bs[k].Pod.Spread.length : Int) == 0) else some false) : Option Bool) = some (fr && (bs[k].Pod.Spread.length == 0)) := by
        have : ((bs[k].Pod.Spread.length : Int) == 0) = (bs[k].Pod.Spread.length == 0) := by
          rw [Bool.eq_iff_iff, beq_iff_eq, beq_iff_eq]; omega
        rw [this]
        cases fr <;> rfl
      rw [hfr]
      simp only [Option.bind_some, decide_true, Bool.not_true, Bool.false_eq_true, if_false]
      rw [List.drop_eq_getElem_cons hk, List.drop_eq_getElem_cons hko, List.all_cons, cntD]
      have hold : (if (!decide (bs[k].On = ⟨#[]⟩)) = true then some (!decide (out[k].On = bs[k].On)) else some false) = some false := by
        by_cases q : bs[k].On = ⟨#[]⟩
        · rw [if_neg (by simp [q])]
        · rw [if_pos (by simpa using q), hs.old k hko hk q]; simp
      rw [hold]
      simp only [Option.bind_some, Bool.false_eq_true, if_false]
      by_cases q : out[k].On = bs[k].On
      · rw [if_neg (by simp [q]), if_pos q, ih (k + 1) f _ c (by omega) (by omega) (by omega) (by omega), Bool.and_assoc, Nat.zero_add]
      · rw [if_pos (by simpa using q), if_neg q, ih (k + 1) f _ (c + 1) (by omega) (by omega) (by omega) (by omega), Bool.and_assoc]
        congr 4
        omega
    · rw [law14_SchedSafe.l1, if_neg (by simp; omega), List.drop_eq_nil_of_le (show bs.length ≤ k by omega), List.drop_eq_nil_of_le (by omega)]
      simp [cntD]

theorem SchedSafe_true (ms : List T_api_Machine) (bs : List T_api_Bound) (_ : ms.length ≤ maxLen ∧ ∀ a ∈ ms, T_api_Machine.ok a) (_ : bs.length ≤ maxLen ∧ ∀ a ∈ bs, T_api_Bound.ok a) : law14_SchedSafe ms bs = some true := by
  unfold law14_SchedSafe
  obtain ⟨b, hb, hr⟩ := right14 ms bs
  rw [hb, known14_true]
  cases b with
  | false => rfl
  | true =>
    obtain ⟨hy, hr⟩ := hr rfl
    have hnm := hy.nm
    have hnb := hy.nb
    have hgm := gms hy hr
    have hgb := gbs hy hr
    have hnd := names_nodup hr
    have hne := names_ne hr
    have hmsL : ∀ m, m ∈ ms → LM m := fun m h => (hgm m h).lm
    have hbL : ∀ b, b ∈ bs → LP b.Pod := fun b h => (hgb b h).lp
    have hon : ∀ k (h : k < bs.length), bs[k].On ≠ ⟨#[]⟩ → ∃ m, m ∈ ms ∧ m.Name = bs[k].On := fun k h e => by
      obtain ⟨j, hj, q⟩ := hr.on k h e
      exact ⟨ms[j], List.getElem_mem _, q⟩
    have uniq : ∀ m m', m ∈ ms → m' ∈ ms → m.Name = m'.Name → m = m' := fun m m' h h' e => by
      obtain ⟨i, hi, rfl⟩ := List.getElem_of_mem h
      obtain ⟨j, hj, rfl⟩ := List.getElem_of_mem h'
      have := hr.mu i j hi hj e
      subst this
      rfl
    have hpr : podsRight bs := fun b h => by
      obtain ⟨i, hi, rfl⟩ := List.getElem_of_mem h
      exact RPod_need (hy.bs i hi).1 (hr.rb i hi)
    simp only [Option.bind_some, Bool.not_true, Bool.false_eq_true, if_false]
    -- the step, and what holds behind it
    obtain ⟨out, mv, s1, s2, s3⟩ := Step_ok (ms := ms) (bs := bs) (by omega) (by omega) hmsL hnd hne hbL hon
      (fun out mv l => (∀ b, b ∈ bs → b.Pod.Spread.length = 0) → (feasP ms bs → feasP ms out) ∧ ∀ k (h : k < out.length), out[k].On = ⟨#[]⟩ → (k : Int) ∉ l → ∀ m, m ∈ ms → whyV ms out out[k].Pod m ≠ 0)
      (fun x l out mv hx si ho hxl hj => by
        have hprO : podsRight out := si_mem si (P := fun p => resOK p.Need = true ∧ p.Need.Pods = 1) hpr
        refine ⟨fun hok hsp => ?_, fun m0 hm0 hw hbn hsp => ?_⟩
        · obtain ⟨j1, j2⟩ := hj hsp
          refine ⟨j1, fun k hk hko hkl m hm hw => ?_⟩
          by_cases e : k = x
          · subst e
            have : m ∈ okM ms out out[k].Pod := List.mem_filter.2 ⟨hm, by simpa using hw⟩
            rw [hok] at this
            cases this
          · exact j2 k hk hko (fun q => by
              rcases List.mem_cons.1 q with q | q
              · exact e (by omega)
              · exact hkl q) m hm hw
        · obtain ⟨j1, j2⟩ := hj hsp
          have hspO : ∀ b, b ∈ out → b.Pod.Spread.length = 0 := si_mem si (P := fun p => p.Spread.length = 0) hsp
          refine ⟨fun hf => ?_, fun k hk hko hkl m hm hw => ?_⟩
          · have hndO : (out.map (·.Pod.Name)).Nodup := by
              have e : out.map (·.Pod.Name) = bs.map (·.Pod.Name) := List.ext_getElem (by simp [si.len]) (fun i h1 h2 => by
                rw [List.length_map] at h1 h2
                simp [si.pod i h1 h2])
              rw [e, show (bs.map (·.Pod.Name)).Nodup ↔ _ from List.pairwise_iff_getElem]
              intro i j hi hj hij e
              rw [List.length_map] at hi hj
              have := hr.bu i j hi hj (by simpa using e)
              omega
            exact feas_put hx ho hprO hspO hndO hne uniq hm0 hw (j1 hf)
          · have hk' : k < out.length := by simpa using hk
            have hne0 : m0.Name ≠ ⟨#[]⟩ := hne m0 hm0
            by_cases e : k = x
            · subst e
              rw [List.getElem_set_self] at hko
              exact hne0 hko
            · rw [List.getElem_set_ne (fun q => e q.symm)] at hko hw
              exact j2 k hk' hko (fun q => by
                rcases List.mem_cons.1 q with q | q
                · exact e (by omega)
                · exact hkl q) m hm (why_before hx ho hprO (hspO _ (List.getElem_mem hk')) (hprO _ (List.getElem_mem hk')).2 (hne m hm) hw))
      (fun r h1 h2 hsp => ⟨fun h => h, fun k hk hko hkl => absurd (h2.mem_iff.2 (by
        have := (pendL_mem bs 0 k).2 ⟨hk, hko⟩
        rwa [Nat.zero_add] at this)) hkl⟩)
    rw [s1]
    simp only [Option.bind_some]
    rw [if_neg (by simp [s2.len])]
    have hl1 := safe_l1 s2 (by omega) bs.length 0 FU true 0 (by omega) (by unfold FU; omega) (Nat.zero_le _) (by omega)
    rw [List.drop_zero, List.drop_zero, Nat.zero_add, Bool.true_and] at hl1
    rw [show law14_SchedSafe.l1 bs (out, mv) FU true 0 0 = _ from hl1]
    simp only [Option.bind_some, Out.on]
    -- a right yard
    have hnbo : out.length ≤ 40 := by rw [s2.len]; exact hnb
    have hyo : LY ms out := ⟨hnm, hnbo, hy.ms, fun k hk => ⟨(si_mem s2 (P := LP) hbL) _ (List.getElem_mem hk), by
      by_cases e : out[k].On = ⟨#[]⟩
      · rw [e]; exact Nat.zero_le _
      · obtain ⟨m, hm, q⟩ := s2.onm k hk e
        rw [← q]; exact (hmsL m hm).name⟩⟩
    have hro : RY ms out := ⟨hr.rm, fun k hk => by
      have hk' : k < bs.length := by rw [← s2.len]; exact hk
      rw [s2.pod k hk hk']; exact hr.rb k hk', hr.mu, fun j k hj hk e => by
      have hj' : j < bs.length := by rw [← s2.len]; exact hj
      have hk' : k < bs.length := by rw [← s2.len]; exact hk
      rw [s2.pod j hj hj', s2.pod k hk hk'] at e
      exact hr.bu j k hj' hk' e, fun k hk e => by
      obtain ⟨m, hm, q⟩ := s2.onm k hk e
      obtain ⟨j, hj, rfl⟩ := List.getElem_of_mem hm
      exact ⟨j, hj, q⟩⟩
    rw [show ((cntD out bs : Nat) : Int) = (mv.length : Int) by rw [s2.cnt], Check9_zero hyo hro]
    simp only [bne_self_eq_false, Bool.false_eq_true, if_false, Option.bind_some]
    by_cases hfree : bs.all (fun b => b.Pod.Spread.length == 0) = true
    · rw [hfree]
      simp only [Bool.not_true, Bool.false_eq_true, if_false]
      have hsp : ∀ b, b ∈ bs → b.Pod.Spread.length = 0 := fun b h => by simpa using List.all_eq_true.1 hfree b h
      obtain ⟨j1, j2⟩ := s3 hsp
      have hgbo := gbs hyo hro
      obtain ⟨f1, f2, f3⟩ := feas12 (show ms.length ≤ 400 by omega) (show bs.length ≤ 400 by omega) hgm hnd hgb hne uniq hon
      obtain ⟨g1, g2, g3⟩ := feas12 (show ms.length ≤ 400 by omega) (show out.length ≤ 400 by omega) hgm hnd hgbo hne uniq s2.onm
      rw [f2, g2]
      have hc5 : ((if f1 = true then some (!g1) else some false) : Option Bool) = some false := by
        cases hf : f1 with
        | false => rfl
        | true => rw [g3.2 (j1 (f3.1 hf))]; rfl
      simp only [Option.bind_some]
      rw [hc5]
      simp only [Option.bind_some, Bool.false_eq_true, if_false]
      have hnil : ∀ k (h : k < out.length), out[k].On = ⟨#[]⟩ → okM ms out out[k].Pod = [] := fun k hk hko => List.filter_eq_nil_iff.2 fun m hm => by
        have := j2 k hk hko (by simp) m hm
        simpa using this
      have hl2 := idxAll (F := fun n i => law14_SchedSafe.l2 ms (out, mv) n i) (len := out.length) (r0 := false) (fun _ => true) (by omega) (fun n k hk => by
        rw [law14_SchedSafe.l2, if_pos (dlt hk), wk1 (by omega)]
        simp only [glk hk, Option.bind_some, seq_eq]
        by_cases e : out[k].On = ⟨#[]⟩
        · rw [if_pos (by simpa using e), Where12_eq (by omega) (by omega) hgm hnd hgbo (hgbo _ (List.getElem_mem hk))]
          have := hnil k hk e
          unfold okM at this
          rw [this]
          rfl
        · rw [if_neg (by simpa using e)]; rfl) (fun n => by rw [law14_SchedSafe.l2, if_neg dnl])
      rw [show law14_SchedSafe.l2 ms (out, mv) FU 0 = _ from hl2, if_pos (allN_iff.2 fun _ _ => rfl)]
      simp only [Option.bind_some]
      -- a second step moves nothing
      obtain ⟨out2, mv2, t1, t2, t3⟩ := Step_ok (ms := ms) (bs := out) (by omega) (by omega) hmsL hnd hne (fun b h => (hgbo b h).lp) s2.onm
        (fun o mv l => o = out ∧ mv = [])
        (fun x l o mv hx si ho hxl hj => ⟨fun _ => hj, fun m0 hm0 hw hbn => by
          obtain ⟨rfl, rfl⟩ := hj
          have := hnil x hx ho
          have hm : m0 ∈ okM ms o o[x].Pod := List.mem_filter.2 ⟨hm0, by simpa using hw⟩
          rw [this] at hm
          cases hm⟩)
        (fun r _ _ => ⟨rfl, rfl⟩)
      rw [t1, t3.2]
      rfl
    · rw [show bs.all (fun b => b.Pod.Spread.length == 0) = false by simpa using hfree]
      rfl
end Go.Proofs.YtbkdglcedgiogaaGreat.M

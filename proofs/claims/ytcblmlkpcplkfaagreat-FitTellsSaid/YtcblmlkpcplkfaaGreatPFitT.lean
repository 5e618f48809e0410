/-
  Plain law: FitTells answers true. Own text.
-/
import Derived.Test.YtcblmlkpcplkfaaGreatPRef5
import Derived.Test.YtcblmlkpcplkfaaGreatRZO
namespace Go.Proofs.YtcblmlkpcplkfaaGreat.M
open Go Go.Proofs Go.Proofs.YtcblmlkpcplkfaaGreat.V
set_option linter.unusedVariables false

theorem known12_true : law12_known = some true := by kernel_rfl

theorem right12 (ms : List T_api_Machine) (bs : List T_api_Bound) (p : T_api_Pod) : ∃ b, law12_right ms bs p = some b ∧ (b = true → LY ms bs ∧ LP p ∧ RY ms bs ∧ ref07_RightPod p = some true) := by
  unfold law12_right
  obtain ⟨b, e, f⟩ := ref09_Light_eq ms bs
  rw [e]
  cases b with
  | false => exact ⟨false, rfl, fun h => by cases h⟩
  | true =>
    have hy := f rfl
    simp only [Option.bind_some, if_true]
    obtain ⟨b, e, f⟩ := ref07_LightPod_eq p
    rw [e]
    cases b with
    | false => exact ⟨false, rfl, fun h => by cases h⟩
    | true =>
      have hp := f rfl
      simp only [Option.bind_some, if_true]
      obtain ⟨r, e, f⟩ := Check9_eq hy
      rw [e]
      simp only [Option.bind_some]
      by_cases h : r = 0
      · have hr := f h
        obtain ⟨b, e⟩ := RPod_tot hp
        rw [if_pos (by simp [h]), e]
        exact ⟨b, by cases b <;> rfl, fun hb => ⟨hy, hp, hr, by rw [hb]⟩⟩
      · rw [if_neg (by simpa using h)]; exact ⟨false, rfl, fun h => by cases h⟩

theorem names_nodup {ms : List T_api_Machine} {bs : List T_api_Bound} (hr : RY ms bs) : (ms.map (·.Name)).Nodup := by
  rw [show (ms.map (·.Name)).Nodup ↔ _ from List.pairwise_iff_getElem]
  intro i j hi hj hij e
  rw [List.length_map] at hi hj
  have := hr.mu i j hi hj (by simpa using e)
  omega

theorem Texts_self {l : List ByteArray} (hl : l.length ≤ 1000) : ref09_Texts l l = some true := by
  unfold ref09_Texts
  rw [if_neg (by simp)]
  have := idxAll (F := fun n i => ref09_Texts.l1 l l n i) (len := l.length) (r0 := false) (fun _ => true) (by omega) (fun n k hk => by
    rw [ref09_Texts.l1, if_pos (dlt hk), glk hk, wk1 (by omega)]
    simp only [Option.bind_some, seq_eq]
    rw [if_neg (by simp)]; rfl) (fun n => by rw [ref09_Texts.l1, if_neg dnl])
  rw [show ref09_Texts.l1 l l FU 0 = _ from this, if_pos (allN_iff.2 fun _ _ => rfl)]
  rfl

theorem Tally_same {ms : List T_api_Machine} {bs : List T_api_Bound} {p : T_api_Pod} (hl : ms.length ≤ 400) (hbl : bs.length ≤ 400) (hms : ∀ m, m ∈ ms → GM m) (hn : (ms.map (·.Name)).Nodup) (hb : ∀ b, b ∈ bs → GP b.Pod) (hp : GP p) : ref12_Tally ms bs p = fit_Tally ms bs p := by
  unfold ref12_Tally fit_Tally fit_each_fit_asker_why_fit_Tally_1
  have key : ∀ (m k f : Nat) (a : Arr9_Int), ms.length - k ≤ m → m < f → k ≤ ms.length → ref12_Tally.l1 ms bs p f a (k : Int) = fit_each_fit_asker_why_fit_Tally_1.l1 ⟨ms, bs, p⟩ (ms.drop k) k a := by
    intro m
    induction m with
    | zero =>
      intro k f a h1 h2 h3
      obtain ⟨f, rfl⟩ : ∃ q, f = q + 1 := ⟨f - 1, by omega⟩
      rw [ref12_Tally.l1, if_neg (by simp; omega), List.drop_eq_nil_of_le (by omega)]; rfl
    | succ m ih =>
      intro k f a h1 h2 h3
      obtain ⟨f, rfl⟩ : ∃ q, f = q + 1 := ⟨f - 1, by omega⟩
      by_cases hk : k < ms.length
      · rw [ref12_Tally.l1, if_pos (dlt hk), glk hk, wk1 (by omega), List.drop_eq_getElem_cons hk, fit_each_fit_asker_why_fit_Tally_1.l1]
        simp only [Option.bind_some]
        rw [Why12_eq hl hbl hms hn hb hp (List.getElem_mem hk), asker_V (by omega) (by omega) (List.getElem_mem hk) (hms _ (List.getElem_mem hk)).lm hp.lp (fun b h => (hb b h).lp)]
        simp only [Option.bind_some]
        unfold fit_Tally_1
        cases V.gl (Arr9_Int.l a) (whyV ms bs p ms[k]) with
        | none => rfl
        | some x =>
          simp only [Option.bind_some]
          cases Arr9_Int.put a (whyV ms bs p ms[k]) (IntKind.i64.wrap (x + 1)) with
          | none => rfl
          | some a' => exact ih (k + 1) f a' (by omega) (by omega) (by omega)
      · rw [ref12_Tally.l1, if_neg (by simp; omega), List.drop_eq_nil_of_le (by omega)]; rfl
  have := key ms.length 0 FU ⟨0, 0, 0, 0, 0, 0, 0, 0, 0⟩ (by omega) (by unfold FU; omega) (Nat.zero_le _)
  rw [List.drop_zero] at this
  rw [show ref12_Tally.l1 ms bs p FU ⟨0, 0, 0, 0, 0, 0, 0, 0, 0⟩ 0 = _ from this]
  cases fit_each_fit_asker_why_fit_Tally_1.l1 ⟨ms, bs, p⟩ ms 0 ⟨0, 0, 0, 0, 0, 0, 0, 0, 0⟩ <;> rfl

theorem tally_is {ms : List T_api_Machine} {bs : List T_api_Bound} {p : T_api_Pod} (hl : ms.length ≤ 400) (hn : bs.length ≤ 400) (hms : ∀ m, m ∈ ms → LM m) (hb : ∀ b, b ∈ bs → LP b.Pod) (hp : LP p) : isS (fit_Tally ms bs p) := by
  unfold fit_Tally fit_each_fit_asker_why_fit_Tally_1
  have key : ∀ (l : List T_api_Machine) (k : Nat) (a : Arr9_Int), (∀ m, m ∈ l → m ∈ ms) → isS (fit_each_fit_asker_why_fit_Tally_1.l1 ⟨ms, bs, p⟩ l k a) := by
    intro l
    induction l with
    | nil => intro k a _; exact T.pure _
    | cons x l ih =>
      intro k a hx
      have hxm := hx x (List.mem_cons_self ..)
      rw [fit_each_fit_asker_why_fit_Tally_1.l1, asker_V (by omega) (by omega) hxm (hms x hxm) hp hb]
      simp only [Option.bind_some]
      obtain ⟨r1, r2⟩ := whyV_range (ms := ms) (bs := bs) (hms x hxm) hp
      have ht : isS (fit_Tally_1 x.Name (whyV ms bs p x) a) := by
        have hw : whyV ms bs p x = 0 ∨ whyV ms bs p x = 1 ∨ whyV ms bs p x = 2 ∨ whyV ms bs p x = 3 ∨ whyV ms bs p x = 4 ∨ whyV ms bs p x = 5 ∨ whyV ms bs p x = 6 ∨ whyV ms bs p x = 7 ∨ whyV ms bs p x = 8 := by omega
        rcases hw with h | h | h | h | h | h | h | h | h <;> rw [h] <;> exact ⟨_, rfl⟩
      exact T.bind ht fun _ _ => ih _ _ fun m hm => hx m (List.mem_cons_of_mem _ hm)
  exact T.bind (T.bind (key ms 0 _ fun _ h => h) fun _ _ => T.pure _) fun _ _ => T.pure _

theorem Feasible_same {ms : List T_api_Machine} {bs : List T_api_Bound} (hl : ms.length ≤ 400) (hbl : bs.length ≤ 400) (hms : ∀ m, m ∈ ms → GM m) (hn : (ms.map (·.Name)).Nodup) (hb : ∀ b, b ∈ bs → GP b.Pod) (hu : ∀ j k (h : j < ms.length) (h' : k < ms.length), ms[j].Name = ms[k].Name → j = k)
    (hon : ∀ b, b ∈ bs → b.On ≠ ⟨#[]⟩ → ∃ m, m ∈ ms ∧ m.Name = b.On) : ref12_Feasible ms bs = fit_Feasible ms bs := by
  unfold ref12_Feasible fit_Feasible
  have key : ∀ (m k f : Nat), bs.length - k ≤ m → m < f → k ≤ bs.length → ref12_Feasible.l1 ms bs f (k : Int) = fit_Feasible.l1 ms bs (bs.drop k) k := by
    intro m
    induction m with
    | zero =>
      intro k f h1 h2 h3
      obtain ⟨f, rfl⟩ : ∃ q, f = q + 1 := ⟨f - 1, by omega⟩
      rw [ref12_Feasible.l1, if_neg (by simp; omega), List.drop_eq_nil_of_le (by omega)]; rfl
    | succ m ih =>
      intro k f h1 h2 h3
      obtain ⟨f, rfl⟩ : ∃ q, f = q + 1 := ⟨f - 1, by omega⟩
      by_cases hk : k < bs.length
      · have hbk : bs[k] ∈ bs := List.getElem_mem hk
        rw [ref12_Feasible.l1, if_pos (dlt hk), glk hk, wk1 (by omega), List.drop_eq_getElem_cons hk, fit_Feasible.l1]
        simp only [Option.bind_some, seq_eq]
        rw [ih (k + 1) f (by omega) (by omega) (by omega)]
        by_cases e : bs[k].On = ⟨#[]⟩
        · simp [e]
        · obtain ⟨mm, hm, hme⟩ := hon bs[k] hbk e
          rw [← hme, Why12_eq hl hbl hms hn hb (hb _ hbk) hm, why_at (by omega) (by omega) (fun m h => (hms m h).lm) (fun b h => (hb b h).lp) (hb _ hbk).lp hu hm]
      · rw [ref12_Feasible.l1, if_neg (by simp; omega), List.drop_eq_nil_of_le (by omega)]; rfl
  have := key bs.length 0 FU (by omega) (by unfold FU; omega) (Nat.zero_le _)
  rw [List.drop_zero] at this
  rw [show ref12_Feasible.l1 ms bs FU 0 = _ from this]

theorem feas_is {ms : List T_api_Machine} {bs : List T_api_Bound} (hl : ms.length ≤ 400) (hbl : bs.length ≤ 400) (hms : ∀ m, m ∈ ms → LM m) (hb : ∀ b, b ∈ bs → LP b.Pod) (hu : ∀ j k (h : j < ms.length) (h' : k < ms.length), ms[j].Name = ms[k].Name → j = k)
    (hon : ∀ b, b ∈ bs → b.On ≠ ⟨#[]⟩ → ∃ m, m ∈ ms ∧ m.Name = b.On) : isS (fit_Feasible ms bs) := by
  unfold fit_Feasible
  have key : ∀ (l : List T_api_Bound) (k : Nat), (∀ b, b ∈ l → b ∈ bs) → isS (fit_Feasible.l1 ms bs l k) := by
    intro l
    induction l with
    | nil => intro k _; exact T.pure _
    | cons x l ih =>
      intro k hx
      have hxb := hx x (List.mem_cons_self ..)
      rw [fit_Feasible.l1, seq_eq]
      refine T.bind (T.ite (fun h => ?_) fun _ => T.pure _) fun _ _ => T.ite (fun _ => T.pure _) fun _ => ih _ fun b h => hx b (List.mem_cons_of_mem _ h)
      obtain ⟨mm, hm, hme⟩ := hon x hxb (by simpa using h)
      rw [← hme, why_at (by omega) (by omega) hms hb (hb x hxb) hu hm]
      exact T.bind (T.pure _) fun _ _ => T.pure _
  exact T.bind (key bs 0 fun _ h => h) fun o _ => T.on o fun _ => T.pure _

theorem FitTells_true (ms : List T_api_Machine) (bs : List T_api_Bound) (p : T_api_Pod) (_ : ms.length ≤ maxLen ∧ ∀ a ∈ ms, T_api_Machine.ok a) (_ : bs.length ≤ maxLen ∧ ∀ a ∈ bs, T_api_Bound.ok a) (_ : T_api_Pod.ok p) : law12_FitTells ms bs p = some true := by
  unfold law12_FitTells
  obtain ⟨b, hb, hr⟩ := right12 ms bs p
  rw [hb, known12_true]
  cases b with
  | false => rfl
  | true =>
    obtain ⟨hy, hp, hr, hrp⟩ := hr rfl
    have hnm := hy.nm
    have hnb := hy.nb
    have hgm := gms hy hr
    have hgb := gbs hy hr
    have hgp := gp_of hp hrp
    have hnd := names_nodup hr
    have hon : ∀ b, b ∈ bs → b.On ≠ ⟨#[]⟩ → ∃ m, m ∈ ms ∧ m.Name = b.On := fun b h e => by
      obtain ⟨i, hi, rfl⟩ := List.getElem_of_mem h
      obtain ⟨j, hj, q⟩ := hr.on i hi e
      exact ⟨ms[j], List.getElem_mem _, q⟩
    simp only [Option.bind_some, Bool.not_true, Bool.false_eq_true, if_false]
    have hloop := idxAll (F := fun n i => law12_FitTells.l1 ms bs p n i) (len := ms.length) (r0 := false) (fun _ => true) (by omega) (fun n k hk => by
      rw [law12_FitTells.l1, if_pos (dlt hk), glk hk, wk1 (by omega)]
      simp only [Option.bind_some]
      rw [why_at (by omega) (by omega) (ms_mem hy) (bs_mem hy) hp hr.mu (List.getElem_mem hk), Why12_eq (by omega) (by omega) hgm hnd hgb hgp (List.getElem_mem hk)]
      simp) (fun n => by rw [law12_FitTells.l1, if_neg dnl])
    rw [show law12_FitTells.l1 ms bs p FU 0 = _ from hloop, if_pos (allN_iff.2 fun _ _ => rfl)]
    simp only [Option.bind_some, Out.on]
    rw [where_V (show ms.length ≤ 1000 by omega) (show bs.length ≤ 1000 by omega) (ms_mem hy) (bs_mem hy) hp, Where12_eq (show ms.length ≤ 400 by omega) (show bs.length ≤ 400 by omega) hgm hnd hgb hgp]
    simp only [Option.bind_some]
    have hlen : ((ms.filter fun m => decide (whyV ms bs p m = 0)).map (·.Name)).length ≤ ms.length := by
      rw [List.length_map]; exact List.length_filter_le _ _
    rw [Texts_self (by omega), Tally_same (show ms.length ≤ 400 by omega) (show bs.length ≤ 400 by omega) hgm hnd hgb hgp, Feasible_same (show ms.length ≤ 400 by omega) (show bs.length ≤ 400 by omega) hgm hnd hgb hr.mu hon]
    obtain ⟨t, ht⟩ := tally_is (p := p) (show ms.length ≤ 400 by omega) (show bs.length ≤ 400 by omega) (ms_mem hy) (bs_mem hy) hp
    obtain ⟨f, hf⟩ := feas_is (show ms.length ≤ 400 by omega) (show bs.length ≤ 400 by omega) (ms_mem hy) (bs_mem hy) hr.mu hon
    rw [ht, hf]
    simp
end Go.Proofs.YtcblmlkpcplkfaaGreat.M

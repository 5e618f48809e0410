/- Plain law: SchedSteps. Own work. -/
import Derived.Test.YtbkdglcedgiogaaGreatPIns
import Derived.Test.YtbkdglcedgiogaaGreatPSch3
import Derived.Test.YtbkdglcedgiogaaGreatPSch1
import Derived.Test.YtbkdglcedgiogaaGreatPShow7
import Derived.Test.YtbkdglcedgiogaaGreatRSO
namespace Go.Proofs.YtbkdglcedgiogaaGreat.M
open Go Go.Proofs Go.Proofs.YtbkdglcedgiogaaGreat.V
open Go.IntKind (i64)
set_option linter.unusedVariables false
set_option maxRecDepth 20000
set_option maxHeartbeats 4000000

theorem Ints_self {l : List Int} (hl : l.length ≤ 1000) : ref02_Ints l l = some true := by
  unfold ref02_Ints
  rw [if_neg (by simp)]
  rcases loopI (F := fun n i => ref02_Ints.l1 l l n i) (Q := fun r => False) (S := fun k => True) (len := l.length) (by omega) (fun n k hk => by
      rw [ref02_Ints.l1, if_pos (dlt hk), glk hk, wk1 (by omega)]
      right; simp) (fun n => by rw [ref02_Ints.l1, if_neg dnl]) with ⟨r, _, h2⟩ | ⟨h1, _⟩
  · exact h2.elim
  · rw [h1]; rfl
theorem ba_beq (a : ByteArray) : (a == a) = true := by
  obtain ⟨a⟩ := a
  show (a == a) = true
  simp
theorem Moves_self {l : List T_api_Move} (hl : l.length ≤ 1000) : ref14_Moves l l = some true := by
  unfold ref14_Moves
  rw [if_neg (by simp)]
  rcases loopI (F := fun n i => ref14_Moves.l1 l l n i) (Q := fun r => False) (S := fun k => True) (len := l.length) (by omega) (fun n k hk => by
      rw [ref14_Moves.l1, if_pos (dlt hk), glk hk, wk1 (by omega)]
      right; simp [ba_beq]) (fun n => by rw [ref14_Moves.l1, if_neg dnl]) with ⟨r, _, h2⟩ | ⟨h1, _⟩
  · exact h2.elim
  · rw [h1]; rfl
theorem pendL_append : ∀ (a b : List T_api_Bound) (k : Nat), pendL (a ++ b) k = pendL a k ++ pendL b (k + a.length)
  | [], b, k => by simp [pendL]
  | x :: a, b, k => by
    rw [List.cons_append, pendL, pendL, pendL_append a b (k + 1), List.length_cons, show k + 1 + a.length = k + (a.length + 1) by omega]
    split <;> simp
theorem take_add_one {α : Type} {l : List α} {k : Nat} (h : k < l.length) : l.take (k + 1) = l.take k ++ [l[k]] := by
  rw [List.take_add_one, List.getElem?_eq_getElem h]; rfl
theorem rkB_at {bs : List T_api_Bound} {k : Nat} (h : k < bs.length) : rkB bs (k : Int) = bs[k].Pod.Rank := by
  unfold rkB; rw [Int.toNat_natCast, List.getElem?_eq_getElem h]; rfl
theorem Order14 {bs : List T_api_Bound} (hl : bs.length ≤ 400) : ∃ r, ref14_Order bs = some r ∧ r.Perm (pendL bs 0) ∧ r.Pairwise (Rk (rkB bs)) := by
  unfold ref14_Order
  have key : ∀ (m k n : Nat) (out : List Int), bs.length - k ≤ m → m < n → k ≤ bs.length → out.Perm (pendL (bs.take k) 0) → out.Pairwise (Rk (rkB bs)) → ∃ r, ref14_Order.l1 bs n out (k : Int) = some r ∧ r.Perm (pendL bs 0) ∧ r.Pairwise (Rk (rkB bs)) := by
    intro m
    induction m with
    | zero =>
      intro k n out h1 h2 h3 h4 h5
      obtain ⟨n, rfl⟩ : ∃ n', n = n' + 1 := ⟨n - 1, by omega⟩
      have : k = bs.length := by omega
      subst this
      rw [ref14_Order.l1, if_neg dnl]
      rw [List.take_length] at h4
      exact ⟨out, rfl, h4, h5⟩
    | succ m ih =>
      intro k n out h1 h2 h3 h4 h5
      obtain ⟨n, rfl⟩ : ∃ n', n = n' + 1 := ⟨n - 1, by omega⟩
      by_cases hk : k < bs.length
      · rw [ref14_Order.l1, if_pos (dlt hk), glk hk, wk1 (by omega)]
        simp only [Option.bind_some, seq_eq]
        have htk : (bs.take k).length = k := by rw [List.length_take]; omega
        have hpl := pendL_len (bs.take k) 0
        have hol : out.length ≤ 400 := by rw [h4.length_eq]; omega
        by_cases e : bs[k].On = ⟨#[]⟩
        · rw [if_neg (by simp [e])]
          have hin : ∀ x, x ∈ out → 0 ≤ x ∧ x < (k : Int) := fun x hx => by
            have := pendL_ge (bs.take k) 0 x (h4.mem_iff.1 hx); rw [htk] at this; omega
          rw [ins_loop (F := fun f j next => ref14_Order.l2 bs out (k : Int) f j next) (l := out) (rk := rkB bs) (i := (k : Int)) (by omega) (fun n j hj next hn => by
              have hjx := hin _ (List.getElem_mem hj)
              obtain ⟨q, hq⟩ : ∃ q : Nat, out[j] = (q : Int) := ⟨out[j].toNat, by omega⟩
              have hq' : q < bs.length := by omega
              rw [ref14_Order.l2, if_pos (dlt hj), glk hj, Option.bind_some, hq, glk hq', Option.bind_some, glk hk, Option.bind_some, Option.bind_some, wk1 (by omega), rkB_at hq', rkB_at hk]
              by_cases hd : bs[q].Pod.Rank ≥ bs[k].Pod.Rank
              · rw [decide_eq_true hd, if_pos rfl, if_pos hd, Option.bind_some, ap_ok (by omega) (by simp; omega), Option.bind_some]
              · rw [decide_eq_false hd, if_neg (by decide), if_neg hd]) (fun n next => by rw [ref14_Order.l2, if_neg dnl]; rfl)]
          simp only [Option.bind_some]
          have htw : (out.takeWhile (insQ (rkB bs) (k : Int))).length ≤ out.length := (List.takeWhile_sublist _).length_le
          rw [ap_ok (by omega) (by simp; omega)]
          simp only [Option.bind_some]
          rw [sl_suf htw]
          simp only [Option.bind_some]
          rw [ap_ok (by omega) (by simp; omega)]
          simp only [Option.bind_some]
          rw [ins_put]
          refine ih (k + 1) n _ (by omega) (by omega) (by omega) ?_ (insL_sorted h5 fun x hx => (hin x hx).2)
          refine (insL_perm _ _ _).trans ?_
          rw [take_add_one hk, pendL_append, htk]
          simp only [pendL, e, if_true, Nat.zero_add]
          exact List.Perm.append_right _ h4
        · rw [if_pos (by simp [e])]
          refine ih (k + 1) n out (by omega) (by omega) (by omega) ?_ h5
          rw [take_add_one hk, pendL_append]
          simp only [pendL, if_neg e, List.append_nil]
          exact h4
      · have : k = bs.length := by omega
        subst this
        rw [ref14_Order.l1, if_neg dnl]
        rw [List.take_length] at h4
        exact ⟨out, rfl, h4, h5⟩
  obtain ⟨r, h1, h2, h3⟩ := key bs.length 0 FU [] (by omega) (by unfold FU; omega) (by omega) (by simp [pendL]) .nil
  rw [show ((0 : Nat) : Int) = 0 from rfl] at h1
  rw [h1]
  exact ⟨r, rfl, h2, h3⟩

theorem Order_same {bs : List T_api_Bound} (hl : bs.length ≤ 400) : ∃ r, sched_Order bs = some r ∧ ref14_Order bs = some r ∧ r.Perm (pendL bs 0) := by
  obtain ⟨r, h1, h2, h3⟩ := Order_ok hl
  obtain ⟨s, g1, g2, g3⟩ := Order14 hl
  have : r = s := sorted_unique (R := Rk (rkB bs)) (fun a h => by unfold Rk at h; omega) (fun a b h k => by unfold Rk at h k; omega) h3 g3 (h2.trans g2.symm)
  exact ⟨r, h1, by rw [g1, this], h2⟩

theorem step_same {ms : List T_api_Machine} {bs : List T_api_Bound} (hl : ms.length ≤ 400) (hbl : bs.length ≤ 400) (hms : ∀ m, m ∈ ms → GM m) (hn : (ms.map (·.Name)).Nodup) (hne : ∀ m, m ∈ ms → m.Name ≠ ⟨#[]⟩) (hb : ∀ b, b ∈ bs → GP b.Pod) (r : List Int) (hr : r.length ≤ 400) :
    ∀ (l : List Int) (k k' : Nat) (f : Nat) (out : List T_api_Bound) (mv : List T_api_Move), r.drop k = l → k ≤ r.length → l.length < f → l.Nodup → (∀ x, x ∈ l → ∃ i : Nat, x = (i : Int) ∧ ∃ h : i < out.length, out[i].On = ⟨#[]⟩) → SI ms bs out mv →
      ref14_Step.l1 ms bs r f out mv (k : Int) = sched_Step.l1 ms l k' out mv := by
  intro l
  induction l with
  | nil =>
    intro k k' f out mv h1 h0 h2 _ _ _
    obtain ⟨f, rfl⟩ : ∃ n', f = n' + 1 := ⟨f - 1, by omega⟩
    have hk : r.length ≤ k := by simpa using h1
    have e : k = r.length := by omega
    subst e
    rw [ref14_Step.l1, if_neg dnl, sched_Step.l1]
  | cons x l ih =>
    intro k k' f out mv h1 h0 h2 hnd hx hs
    obtain ⟨f, rfl⟩ : ∃ n', f = n' + 1 := ⟨f - 1, by omega⟩
    rw [List.nodup_cons] at hnd
    have hk : k < r.length := by
      have := congrArg List.length h1; rw [List.length_drop, List.length_cons] at this; omega
    have hd := List.drop_eq_getElem_cons hk
    rw [h1] at hd
    injection hd with hx1 hd
    obtain ⟨i, rfl, hi, ho⟩ := hx x (List.mem_cons_self ..)
    have hol : out.length ≤ 400 := by rw [hs.len]; exact hbl
    have hib : i < bs.length := by rw [← hs.len]; exact hi
    have hgp := si_mem hs (P := GP) hb
    have hlp := si_mem hs (P := LP) fun b h => (hb b h).lp
    have hcl := cntD_le out bs
    rw [ref14_Step.l1, if_pos (dlt hk), glk hk, ← hx1, wk1 (by omega)]
    simp only [Option.bind_some]
    rw [glk hib]
    simp only [Option.bind_some]
    rw [← hs.pod i hi hib, best_R hl hol hms hn hgp (hgp _ (List.getElem_mem hi)), sched_Step.l1, glk hi]
    simp only [Option.bind_some]
    rw [best_P hl hol (fun m h => (hms m h).lm) hn hlp (hlp _ (List.getElem_mem hi))]
    simp only [Option.bind_some, seq_eq]
    rcases bestL_mem (scoreV out out[i].Pod) (okM ms out out[i].Pod) (fun m h => hne m (List.mem_filter.1 h).1) with ⟨e1, e2⟩ | ⟨m, e1, e2, e3⟩
    · have hbe : bestV ms out out[i].Pod = ⟨#[]⟩ := e2
      rw [if_neg (by simp [hbe]), if_neg (by simp [hbe])]
      exact ih (k + 1) (k' + 1) f out mv hd.symm (by omega) (by rw [List.length_cons] at h2; omega) hnd.2 (fun y hy => hx y (List.mem_cons_of_mem _ hy)) hs
    · have hbe : ¬ bestV ms out out[i].Pod = ⟨#[]⟩ := e3
      have hbn : m.Name = bestV ms out out[i].Pod := e2
      have hm := List.mem_filter.1 e1
      have hmv : mv.length ≤ 400 := by rw [hs.cnt]; omega
      rw [if_pos (by simpa using hbe), if_pos (by simpa using hbe)]
      rw [ap_ok (by omega) (by simp; omega)]
      simp only [Option.bind_some]
      rw [← hbn, show ((i : Int)).toNat = i by omega]
      refine ih (k + 1) (k' + 1) f _ _ hd.symm (by omega) (by rw [List.length_cons] at h2; omega) hnd.2 (fun y hy => ?_) (si_set hs hi ho hm.1 (hne m hm.1) _)
      obtain ⟨i', rfl, hi', ho'⟩ := hx y (List.mem_cons_of_mem _ hy)
      refine ⟨i', rfl, by simpa using hi', ?_⟩
      rw [List.getElem_set]
      split
      · rename_i e; subst e; exact absurd hy hnd.1
      · exact ho'

theorem Step_same {ms : List T_api_Machine} {bs : List T_api_Bound} (hl : ms.length ≤ 400) (hbl : bs.length ≤ 400) (hms : ∀ m, m ∈ ms → GM m) (hn : (ms.map (·.Name)).Nodup) (hne : ∀ m, m ∈ ms → m.Name ≠ ⟨#[]⟩) (hb : ∀ b, b ∈ bs → GP b.Pod) (hon : ∀ k (h : k < bs.length), bs[k].On ≠ ⟨#[]⟩ → ∃ m, m ∈ ms ∧ m.Name = bs[k].On) : ref14_Step ms bs = sched_Step ms bs := by
  obtain ⟨r, h1, h2, h3⟩ := Order_same (bs := bs) hbl
  unfold ref14_Step sched_Step
  rw [ap_ok (by omega) (by simp; omega), h1, h2]
  simp only [Option.bind_some, List.nil_append]
  have hmem : ∀ x, x ∈ r → ∃ i : Nat, x = (i : Int) ∧ ∃ h : i < bs.length, bs[i].On = ⟨#[]⟩ := fun x hx => by
    have hx' := h3.mem_iff.1 hx
    have hge := pendL_ge bs 0 x hx'
    obtain ⟨i, rfl⟩ : ∃ i : Nat, x = (i : Int) := ⟨x.toNat, by omega⟩
    have := (pendL_mem bs 0 i).1 (by rw [Nat.zero_add]; exact hx')
    exact ⟨i, rfl, this⟩
  have hnd : r.Nodup := h3.nodup_iff.2 ((pendL_inc bs 0).imp (fun h e => by omega))
  have hrl : r.length ≤ 400 := by rw [h3.length_eq]; have := pendL_len bs 0; omega
  rw [show (0 : Int) = ((0 : Nat) : Int) from rfl, step_same hl hbl hms hn hne hb r hrl r 0 0 FU bs [] rfl (by omega) (by unfold FU; omega) hnd hmem ⟨rfl, fun _ _ _ => rfl, fun _ _ _ _ => rfl, hon, by rw [cntD_self]; rfl⟩]

theorem spoil : ∀ (m n k : Nat) (a : List T_api_Bound), a.length - k ≤ m → m < n → k ≤ a.length → a.length ≤ 1000 → law14_SchedSteps.l1 n a (k : Int) = some () := by
  intro m
  induction m with
  | zero =>
    intro n k a h1 h2 h3 _
    obtain ⟨n, rfl⟩ : ∃ n', n = n' + 1 := ⟨n - 1, by omega⟩
    have : k = a.length := by omega
    subst this
    rw [law14_SchedSteps.l1, if_neg dnl]
  | succ m ih =>
    intro n k a h1 h2 h3 h4
    obtain ⟨n, rfl⟩ : ∃ n', n = n' + 1 := ⟨n - 1, by omega⟩
    by_cases hk : k < a.length
    · rw [law14_SchedSteps.l1, if_pos (dlt hk), glk hk, wk1 (by omega)]
      simp only [Option.bind_some]
      exact ih n (k + 1) _ (by rw [List.length_set]; omega) (by omega) (by rw [List.length_set]; omega) (by rw [List.length_set]; omega)
    · have : k = a.length := by omega
      subst this
      rw [law14_SchedSteps.l1, if_neg dnl]

theorem SchedSteps_true {p q : Prop} (ms : List T_api_Machine) (bs : List T_api_Bound) (_ : p) (_ : q) : law14_SchedSteps ms bs = some true := by
  unfold law14_SchedSteps
  obtain ⟨b, hb, hr⟩ := right14 ms bs
  rw [hb, known14_true]
  cases b with
  | false => rfl
  | true =>
    obtain ⟨hy, hr⟩ := hr rfl
    have hnm := hy.nm
    have hnb := hy.nb
    have hgm := gms hy hr
    have hgb := gbs hy hr
    have hnd := names_nodup hr
    have hne := names_ne hr
    have hon : ∀ k (h : k < bs.length), bs[k].On ≠ ⟨#[]⟩ → ∃ m, m ∈ ms ∧ m.Name = bs[k].On := fun k h e => by
      obtain ⟨j, hj, e2⟩ := hr.on k h e
      exact ⟨ms[j], List.getElem_mem hj, e2⟩
    simp only [Option.bind_some, Bool.not_true, Bool.false_eq_true, if_false]
    rw [ap_ok (by omega) (by simp; omega)]
    simp only [Option.bind_some, List.nil_append]
    rw [Step_same (by omega) (by omega) hgm hnd hne hgb hon]
    obtain ⟨out, mv, h1, h2, _⟩ := Step_ok (ms := ms) (bs := bs) (by omega) (by omega) (fun m h => (hgm m h).lm) hnd hne (fun b h => (hgb b h).lp) hon (fun _ _ _ => True) (fun _ _ _ _ _ _ _ _ _ => ⟨fun _ => trivial, fun _ _ _ _ => trivial⟩) (fun _ _ _ => trivial)
    obtain ⟨r, o1, o2, o3⟩ := Order_same (bs := bs) (by omega)
    have hrl : r.length ≤ 400 := by rw [o3.length_eq]; have := pendL_len bs 0; omega
    have hol : out.length ≤ 400 := by rw [h2.len]; omega
    have hcl := cntD_le out bs
    have hmv : mv.length ≤ 400 := by rw [h2.cnt]; omega
    rw [h1, o1, o2]
    simp only [Option.bind_some]
    rw [Ints_self (by omega)]
    simp only [Option.bind_some, if_true]
    rw [Same9_self (by omega) (si_mem h2 (P := LP) fun b h => (hgb b h).lp)]
    simp only [Option.bind_some, if_true]
    rw [Moves_self (by omega)]
    simp only [Option.bind_some, if_true]
    rw [show (0 : Int) = ((0 : Nat) : Int) from rfl, spoil out.length FU 0 out (by omega) (by unfold FU; omega) (by omega) (by omega), Same9_self (by omega) fun b h => (hgb b h).lp]
    rfl
end Go.Proofs.YtbkdglcedgiogaaGreat.M

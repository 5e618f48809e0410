/-
  Printed by a program of this session out of the loaded functions: models and their proofs. Own text.
-/
import Derived.Test.YtbkdglcedgiogaaGreatPSch0
import Derived.Test.YtbkdglcedgiogaaGreatPPk2
import Derived.Test.YtbkdglcedgiogaaGreatPRef3
import Derived.Test.YtbkdglcedgiogaaGreatPWord
import Derived.Test.YtbkdglcedgiogaaGreatRKO
/-
  Plain laws: the steps of the scheduler. Own text.
-/
namespace Go.Proofs.YtbkdglcedgiogaaGreat.M
open Go Go.Proofs Go.Proofs.YtbkdglcedgiogaaGreat.V
set_option linter.unusedVariables false

/-! the same pods, in another order -/
theorem total_perm {l m : List T_api_Pod} (h : l.Perm m) : total l = total m := by
  induction h with
  | nil => rfl
  | cons x _ ih => rw [total, total, ih]
  | swap x y l =>
    rw [total, total, total, total, ← radd_assoc, ← radd_assoc]
    congr 1
    unfold radd
    congr 1 <;> omega
  | trans _ _ ih1 ih2 => rw [ih1, ih2]
theorem needs_perm {l m : List T_api_Pod} (h : l.Perm m) : needsOK l = needsOK m := by
  unfold needsOK
  rw [Bool.eq_iff_iff, List.all_eq_true, List.all_eq_true]
  exact ⟨fun a x hx => a x (h.mem_iff.2 hx), fun a x hx => a x (h.mem_iff.1 hx)⟩
theorem used_perm {l m : List T_api_Pod} (h : l.Perm m) : usedS l = usedS m := by
  unfold usedS; rw [needs_perm h, total_perm h]
theorem on_perm {bs cs : List T_api_Bound} (h : bs.Perm cs) (n k : ByteArray) : (onS (othersS bs n) k).Perm (onS (othersS cs n) k) := by
  unfold onS othersS
  exact ((h.filter _).filter _).map _
theorem why_perm {ms : List T_api_Machine} {bs cs : List T_api_Bound} (h : bs.Perm cs) {q : T_api_Pod} (hq : q.Spread.length = 0) {m : T_api_Machine} (hw : whyV ms bs q m = 0) : whyV ms cs q m = 0 := by
  rw [whyV_zero] at hw ⊢
  obtain ⟨h1, h2, h3, h4⟩ := hw
  refine ⟨h1, ?_, ?_, many_none _ _ _ _ hq⟩
  · rw [roomS_zero] at h2 ⊢
    have hp := on_perm h q.Name m.Name
    rw [← used_perm hp]
    exact ⟨h2.1, h2.2.1, h2.2.2.1, fun x hx => h2.2.2.2 x (hp.mem_iff.2 hx)⟩
  · unfold nearB at h3 ⊢
    rw [List.any_eq_false] at h3 ⊢
    exact fun x hx => h3 x (h.mem_iff.2 hx)
/-- A pod that pends is not seen. -/
theorem on_pend {bs : List T_api_Bound} {p : T_api_Pod} {n k : ByteArray} (hk : k ≠ ⟨#[]⟩) : onS (othersS (bs ++ [⟨p, ⟨#[]⟩⟩]) n) k = onS (othersS bs n) k := by
  unfold onS othersS
  rw [List.filter_append, List.filter_append, List.map_append]
  have : (List.filter (fun b : T_api_Bound => decide (b.On = k)) (List.filter (fun b : T_api_Bound => decide (b.Pod.Name ≠ n)) [⟨p, ⟨#[]⟩⟩])) = [] := by
    rw [List.filter_eq_nil_iff]
    intro b hb
    have hb' : b = ⟨p, ⟨#[]⟩⟩ := by simpa using (List.mem_filter.1 hb).1
    rw [hb']
    simpa using fun e => hk e.symm
  rw [this]
  simp
theorem near_pend {zs : List (ByteArray × ByteArray)} {bs : List T_api_Bound} {p q : T_api_Pod} {k : ByteArray} : nearB zs (bs ++ [⟨p, ⟨#[]⟩⟩]) q k = nearB zs bs q k := by
  unfold nearB
  rw [List.any_append]
  simp [nearQ, seq_eq]
theorem why_pend {ms : List T_api_Machine} {bs : List T_api_Bound} {p q : T_api_Pod} (hq : q.Spread.length = 0) {m : T_api_Machine} (hm : m.Name ≠ ⟨#[]⟩) : whyV ms (bs ++ [⟨p, ⟨#[]⟩⟩]) q m = 0 ↔ whyV ms bs q m = 0 := by
  rw [whyV_zero, whyV_zero, roomS_zero, roomS_zero, on_pend hm, near_pend, many_none _ _ _ _ hq, many_none _ _ _ _ hq]

/-! a pod, put where it pended -/
def restL (l : List T_api_Bound) (x : Nat) : List T_api_Bound := l.take x ++ l.drop (x + 1)
theorem rest_perm {l : List T_api_Bound} {x : Nat} (h : x < l.length) : l.Perm (restL l x ++ [l[x]]) := by
  unfold restL
  have e : l = l.take x ++ l[x] :: l.drop (x + 1) := by rw [← List.drop_eq_getElem_cons h, List.take_append_drop]
  have h1 : (l.take x ++ l[x] :: l.drop (x + 1)).Perm (l[x] :: (l.take x ++ l.drop (x + 1))) := List.perm_middle
  have h2 : (l[x] :: (l.take x ++ l.drop (x + 1))).Perm ((l.take x ++ l.drop (x + 1)) ++ [l[x]]) := (List.perm_append_comm (l₁ := [l[x]]))
  have h3 := h1.trans h2
  rw [← e] at h3
  exact h3
theorem set_perm {l : List T_api_Bound} {x : Nat} (h : x < l.length) (v : T_api_Bound) : (l.set x v).Perm (restL l x ++ [v]) := by
  unfold restL
  rw [List.set_eq_take_append_cons_drop, if_pos h]
  exact List.perm_middle.trans (List.perm_append_comm (l₁ := [v]))
theorem rest_sub {l : List T_api_Bound} {x : Nat} : (restL l x).Sublist l := fewer_sub l x

def podsRight (l : List T_api_Bound) : Prop := ∀ b, b ∈ l → resOK b.Pod.Need = true ∧ b.Pod.Need.Pods = 1
theorem needs_of {l : List T_api_Bound} (h : podsRight l) (n k : ByteArray) : needsOK (onS (othersS l n) k) = true := by
  unfold needsOK
  rw [List.all_eq_true]
  intro q hq
  unfold onS othersS at hq
  obtain ⟨b, h1, rfl⟩ := List.mem_map.1 hq
  exact (h b (List.mem_filter.1 (List.mem_filter.1 h1).1).1).1

/-- More that is bound leaves no more possible. -/
theorem why_before {ms : List T_api_Machine} {l : List T_api_Bound} {x : Nat} (h : x < l.length) (hx : l[x].On = ⟨#[]⟩) (hr : podsRight l) {n : ByteArray} {q : T_api_Pod} (hq : q.Spread.length = 0) (hqn : q.Need.Pods = 1) {m : T_api_Machine} (hm : m.Name ≠ ⟨#[]⟩) (hw : whyV ms (l.set x ⟨l[x].Pod, n⟩) q m = 0) : whyV ms l q m = 0 := by
  have h1 := why_perm (set_perm h ⟨l[x].Pod, n⟩) hq hw
  have hr' : podsRight (restL l x ++ [⟨l[x].Pod, n⟩]) := fun b hb => by
    rcases List.mem_append.1 hb with hb | hb
    · exact hr b (rest_sub.subset hb)
    · have : b = ⟨l[x].Pod, n⟩ := by simpa using hb
      rw [this]
      show resOK l[x].Pod.Need = true ∧ l[x].Pod.Need.Pods = 1
      exact hr _ (List.getElem_mem h)
  have h2 := why_fewer (List.sublist_append_left (restL l x) [⟨l[x].Pod, n⟩]) (needs_of hr') (by omega) hq h1
  have h3 := (why_pend (p := l[x].Pod) hq hm).2 h2
  have hp := (rest_perm h).symm
  have e : l[x] = (⟨l[x].Pod, ⟨#[]⟩⟩ : T_api_Bound) := by rw [← hx]
  have hp' : (restL l x ++ [(⟨l[x].Pod, ⟨#[]⟩⟩ : T_api_Bound)]).Perm l := by rwa [e] at hp
  exact why_perm hp' hq h3

def feasP (ms : List T_api_Machine) (l : List T_api_Bound) : Prop := ∀ b, b ∈ l → ∀ m, m ∈ ms → m.Name = b.On → whyV ms l b.Pod m = 0
theorem feas_put {ms : List T_api_Machine} {l : List T_api_Bound} {x : Nat} (h : x < l.length) (hx : l[x].On = ⟨#[]⟩) (hr : podsRight l) (hsp : ∀ b, b ∈ l → b.Pod.Spread.length = 0) (hnd : (l.map (·.Pod.Name)).Nodup) (hne : ∀ m, m ∈ ms → m.Name ≠ ⟨#[]⟩)
    (hu : ∀ m m', m ∈ ms → m' ∈ ms → m.Name = m'.Name → m = m') {m0 : T_api_Machine} (hm0 : m0 ∈ ms) (h0 : whyV ms l l[x].Pod m0 = 0) (hf : feasP ms l) : feasP ms (l.set x ⟨l[x].Pod, m0.Name⟩) := by
  have hxm := List.getElem_mem h
  have e : l[x] = ⟨l[x].Pod, ⟨#[]⟩⟩ := by rw [← hx]
  have hp : l.Perm (restL l x ++ [⟨l[x].Pod, ⟨#[]⟩⟩]) := by
    have := rest_perm h
    rwa [e] at this
  have hs := set_perm h ⟨l[x].Pod, m0.Name⟩
  have toE : ∀ {q m}, q.Spread.length = 0 → m ∈ ms → whyV ms l q m = 0 → whyV ms (restL l x) q m = 0 := fun {q m} hq hm hw => (why_pend (p := l[x].Pod) hq (hne m hm)).1 (why_perm hp hq hw)
  have hndE : ((restL l x).map (·.Pod.Name)).Nodup ∧ ∀ b, b ∈ restL l x → b.Pod.Name ≠ l[x].Pod.Name := by
    have := (hp.map (·.Pod.Name)).nodup_iff.1 hnd
    rw [List.map_append, List.nodup_append] at this
    refine ⟨this.1, fun b hb q => ?_⟩
    exact this.2.2 b.Pod.Name (List.mem_map.2 ⟨b, hb, rfl⟩) l[x].Pod.Name (by simp) q
  have hrE : podsRight (restL l x) := fun b hb => hr b (rest_sub.subset hb)
  intro b hb m hm hme
  refine why_perm hs.symm ?_ ?_
  · rcases List.mem_append.1 (hs.mem_iff.1 hb) with hb | hb
    · exact hsp b (rest_sub.subset hb)
    · have : b = ⟨l[x].Pod, m0.Name⟩ := by simpa using hb
      rw [this]
      show l[x].Pod.Spread.length = 0
      exact hsp _ hxm
  · rcases List.mem_append.1 (hs.mem_iff.1 hb) with hb | hb
    · have hbl := rest_sub.subset hb
      have h1 := toE (hsp b hbl) hm (hf b hbl m hm hme)
      have h2 := toE (hsp _ hxm) hm0 h0
      exact why_put_other hndE.1 (needs_of hrE) (by have := (hr _ hxm).2; omega) hb (by have := (hr b hbl).2; omega) (hsp b hbl) hndE.2 hme (hne m hm) (fun q => hu m m0 hm hm0 q) h2 h1
    · have hbe : b = ⟨l[x].Pod, m0.Name⟩ := by simpa using hb
      rw [hbe] at hme ⊢
      have := hu m m0 hm hm0 hme
      subst this
      exact why_put_self (toE (hsp _ hxm) hm0 h0)

/-! what has changed -/
def cntD : List T_api_Bound → List T_api_Bound → Nat
  | a :: l, b :: m => (if a.On = b.On then 0 else 1) + cntD l m
  | _, _ => 0
theorem cntD_self : ∀ l : List T_api_Bound, cntD l l = 0
  | [] => rfl
  | a :: l => by rw [cntD, if_pos rfl, cntD_self l]
theorem cntD_set (l : List T_api_Bound) : ∀ (m : List T_api_Bound) (x : Nat) (v : T_api_Bound) (h : x < l.length) (h' : x < m.length), l[x].On = m[x].On → v.On ≠ m[x].On → cntD (l.set x v) m = cntD l m + 1 := by
  induction l with
  | nil => intro m x v h; simp at h
  | cons a l ih =>
    intro m x v h h' h1 h2
    cases m with
    | nil => simp at h'
    | cons b m =>
      cases x with
      | zero =>
        simp only [List.getElem_cons_zero] at h1 h2
        rw [List.set_cons_zero, cntD, cntD, if_neg h2, if_pos h1]; omega
      | succ x =>
        simp only [List.getElem_cons_succ] at h1 h2
        rw [List.set_cons_succ, cntD, cntD, ih m x v (by simpa using h) (by simpa using h') h1 h2]; omega
theorem cntD_le : ∀ l m : List T_api_Bound, cntD l m ≤ l.length
  | [], _ => by simp [cntD]
  | a :: l, [] => by simp [cntD]
  | a :: l, b :: m => by
    have := cntD_le l m
    rw [cntD, List.length_cons]
    split <;> omega

/-- What holds at each step. -/
structure SI (ms : List T_api_Machine) (bs out : List T_api_Bound) (mv : List T_api_Move) : Prop where
  len : out.length = bs.length
  pod : ∀ k (h : k < out.length) (h' : k < bs.length), out[k].Pod = bs[k].Pod
  old : ∀ k (h : k < out.length) (h' : k < bs.length), bs[k].On ≠ ⟨#[]⟩ → out[k].On = bs[k].On
  onm : ∀ k (h : k < out.length), out[k].On ≠ ⟨#[]⟩ → ∃ m, m ∈ ms ∧ m.Name = out[k].On
  cnt : mv.length = cntD out bs

theorem si_mem {ms : List T_api_Machine} {bs out : List T_api_Bound} {mv : List T_api_Move} (h : SI ms bs out mv) {P : T_api_Pod → Prop} (hb : ∀ b, b ∈ bs → P b.Pod) : ∀ b, b ∈ out → P b.Pod := fun b hbo => by
  obtain ⟨i, hi, rfl⟩ := List.getElem_of_mem hbo
  have hi' : i < bs.length := by rw [← h.len]; exact hi
  rw [h.pod i hi hi']
  exact hb _ (List.getElem_mem hi')

theorem si_set {ms : List T_api_Machine} {bs out : List T_api_Bound} {mv : List T_api_Move} (h : SI ms bs out mv) {x : Nat} (hx : x < out.length) (ho : out[x].On = ⟨#[]⟩) {m : T_api_Machine} (hm : m ∈ ms) (hne : m.Name ≠ ⟨#[]⟩) (v : T_api_Move) : SI ms bs (out.set x ⟨out[x].Pod, m.Name⟩) (mv ++ [v]) := by
  have hxb : x < bs.length := by rw [← h.len]; exact hx
  have hbx : bs[x].On = ⟨#[]⟩ := by
    by_cases e : bs[x].On = ⟨#[]⟩
    · exact e
    · have := h.old x hx hxb e
      rw [ho] at this
      exact this.symm
  refine ⟨by rw [List.length_set]; exact h.len, fun k hk hk' => ?_, fun k hk hk' hne' => ?_, fun k hk hne' => ?_, ?_⟩
  · rw [List.getElem_set]
    split
    · rename_i e; subst e; exact h.pod x hx hxb
    · exact h.pod k (by simpa using hk) hk'
  · rw [List.getElem_set]
    split
    · rename_i e; subst e; exact absurd hbx hne'
    · exact h.old k (by simpa using hk) hk' hne'
  · rw [List.getElem_set] at hne' ⊢
    split
    · exact ⟨m, hm, rfl⟩
    · rename_i e
      rw [if_neg e] at hne'
      exact h.onm k (by simpa using hk) hne'
  · rw [cntD_set out bs x _ hx hxb (by rw [ho, hbx]) (by rw [hbx]; exact hne), List.length_append, h.cnt]; rfl

/-- The loop of a step. -/
theorem step_loop {ms : List T_api_Machine} {bs : List T_api_Bound} (hl : ms.length ≤ 400) (hbl : bs.length ≤ 400) (hms : ∀ m, m ∈ ms → LM m) (hn : (ms.map (·.Name)).Nodup) (hne : ∀ m, m ∈ ms → m.Name ≠ ⟨#[]⟩) (hb : ∀ b, b ∈ bs → LP b.Pod) (J : List T_api_Bound → List T_api_Move → List Int → Prop)
    (hJ : ∀ (x : Nat) (l : List Int) (out : List T_api_Bound) (mv : List T_api_Move) (hx : x < out.length), SI ms bs out mv → out[x].On = ⟨#[]⟩ → (x : Int) ∉ l → J out mv ((x : Int) :: l) → (okM ms out out[x].Pod = [] → J out mv l) ∧ (∀ m0, m0 ∈ ms → whyV ms out out[x].Pod m0 = 0 → m0.Name = bestV ms out out[x].Pod → J (out.set x ⟨out[x].Pod, m0.Name⟩) (mv ++ [⟨out[x].Pod.Name, m0.Name⟩]) l)) :
    ∀ (l : List Int) (k : Nat) (out : List T_api_Bound) (mv : List T_api_Move), l.Nodup → (∀ x, x ∈ l → ∃ i : Nat, x = (i : Int) ∧ ∃ h : i < out.length, out[i].On = ⟨#[]⟩) → SI ms bs out mv → J out mv l →
      ∃ out' mv', sched_Step.l1 ms l k out mv = some (out', mv') ∧ SI ms bs out' mv' ∧ J out' mv' [] := by
  intro l
  induction l with
  | nil => intro k out mv _ _ hs hj; exact ⟨out, mv, rfl, hs, hj⟩
  | cons x l ih =>
    intro k out mv hnd hx hs hj
    rw [List.nodup_cons] at hnd
    obtain ⟨i, rfl, hi, ho⟩ := hx x (List.mem_cons_self ..)
    have hol : out.length ≤ 400 := by rw [hs.len]; exact hbl
    have hlp := si_mem hs (P := LP) hb
    have hcl := cntD_le out bs
    rw [sched_Step.l1, glk hi]
    simp only [Option.bind_some]
    rw [best_P hl hol hms hn hlp (hlp _ (List.getElem_mem hi))]
    simp only [Option.bind_some, seq_eq]
    obtain ⟨j1, j2⟩ := hJ i l out mv hi hs ho hnd.1 hj
    rcases bestL_mem (scoreV out out[i].Pod) (okM ms out out[i].Pod) (fun m h => hne m (List.mem_filter.1 h).1) with ⟨e1, e2⟩ | ⟨m, e1, e2, e3⟩
    · have hbe : bestV ms out out[i].Pod = ⟨#[]⟩ := e2
      rw [if_neg (by simp [hbe])]
      exact ih (k + 1) out mv hnd.2 (fun y hy => hx y (List.mem_cons_of_mem _ hy)) hs (j1 e1)
    · have hbe : ¬ bestV ms out out[i].Pod = ⟨#[]⟩ := e3
      have hbn : m.Name = bestV ms out out[i].Pod := e2
      have hm := List.mem_filter.1 e1
      have hw : whyV ms out out[i].Pod m = 0 := by simpa using hm.2
      have hmv : mv.length ≤ 400 := by rw [hs.cnt]; omega
      rw [if_pos (by simpa using hbe), ap_ok (by omega) (by simp; omega)]
      simp only [Option.bind_some]
      rw [← hbn, show ((i : Int)).toNat = i by omega]
      refine ih (k + 1) _ _ hnd.2 (fun y hy => ?_) (si_set hs hi ho hm.1 (hne m hm.1) _) (j2 m hm.1 hw hbn)
      obtain ⟨i', rfl, hi', ho'⟩ := hx y (List.mem_cons_of_mem _ hy)
      refine ⟨i', rfl, by simpa using hi', ?_⟩
      rw [List.getElem_set]
      split
      · rename_i e; subst e; exact absurd hy hnd.1
      · exact ho'

theorem Step_ok {ms : List T_api_Machine} {bs : List T_api_Bound} (hl : ms.length ≤ 400) (hbl : bs.length ≤ 400) (hms : ∀ m, m ∈ ms → LM m) (hn : (ms.map (·.Name)).Nodup) (hne : ∀ m, m ∈ ms → m.Name ≠ ⟨#[]⟩) (hb : ∀ b, b ∈ bs → LP b.Pod) (hon : ∀ k (h : k < bs.length), bs[k].On ≠ ⟨#[]⟩ → ∃ m, m ∈ ms ∧ m.Name = bs[k].On) (J : List T_api_Bound → List T_api_Move → List Int → Prop)
    (hJ : ∀ (x : Nat) (l : List Int) (out : List T_api_Bound) (mv : List T_api_Move) (hx : x < out.length), SI ms bs out mv → out[x].On = ⟨#[]⟩ → (x : Int) ∉ l → J out mv ((x : Int) :: l) → (okM ms out out[x].Pod = [] → J out mv l) ∧ (∀ m0, m0 ∈ ms → whyV ms out out[x].Pod m0 = 0 → m0.Name = bestV ms out out[x].Pod → J (out.set x ⟨out[x].Pod, m0.Name⟩) (mv ++ [⟨out[x].Pod.Name, m0.Name⟩]) l))
    (h0 : ∀ r : List Int, sched_Order bs = some r → r.Perm (pendL bs 0) → J bs [] r) : ∃ out mv, sched_Step ms bs = some (out, mv) ∧ SI ms bs out mv ∧ J out mv [] := by
  unfold sched_Step
  obtain ⟨r, h1, h2, h3⟩ := Order_ok (bs := bs) hbl
  rw [ap_ok (by omega) (by simp; omega), h1]
  simp only [Option.bind_some, List.nil_append]
  have hmem : ∀ x, x ∈ r → ∃ i : Nat, x = (i : Int) ∧ ∃ h : i < bs.length, bs[i].On = ⟨#[]⟩ := fun x hx => by
    have hx' := h2.mem_iff.1 hx
    have hge := pendL_ge bs 0 x hx'
    obtain ⟨i, rfl⟩ : ∃ i : Nat, x = (i : Int) := ⟨x.toNat, by omega⟩
    have := (pendL_mem bs 0 i).1 (by rw [Nat.zero_add]; exact hx')
    exact ⟨i, rfl, this⟩
  have hnd : r.Nodup := h2.nodup_iff.2 ((pendL_inc bs 0).imp (fun h e => by omega))
  obtain ⟨out, mv, s1, s2, s3⟩ := step_loop hl hbl hms hn hne hb J hJ r 0 bs [] hnd hmem ⟨rfl, fun _ _ _ => rfl, fun _ _ _ _ => rfl, hon, by rw [cntD_self]; rfl⟩ (h0 r h1 h2)
  rw [s1]
  exact ⟨out, mv, rfl, s2, s3⟩
end Go.Proofs.YtbkdglcedgiogaaGreat.M
/- Plain law: what is shown of a pod ends, whatever it is; a pod, a machine, and a yard are the same as themselves. Own work. -/
namespace Go.Proofs.YtbkdglcedgiogaaGreat.M
open Go Go.Proofs Go.Proofs.YtbkdglcedgiogaaGreat.V
open Go.IntKind (i64)
set_option linter.unusedVariables false
set_option maxRecDepth 20000
set_option maxHeartbeats 4000000

def isB (o : Option ByteArray) (n : Nat) : Prop := ∃ r, o = some r ∧ r.size ≤ n
theorem isB.s {o : Option ByteArray} {n : Nat} (h : isB o n) : isS o := by obtain ⟨r, h, _⟩ := h; exact ⟨r, h⟩
theorem isB.mono {o : Option ByteArray} {n m : Nat} (h : isB o n) (k : n ≤ m) : isB o m := by obtain ⟨r, h, j⟩ := h; exact ⟨r, h, by omega⟩
theorem isB.bind {α : Type} {o : Option α} {f : α → Option ByteArray} {n : Nat} (h : isS o) (k : ∀ x, o = some x → isB (f x) n) : isB (o.bind f) n := by obtain ⟨x, rfl⟩ := h; exact k x rfl
theorem isB.bindB {o : Option ByteArray} {f : ByteArray → Option ByteArray} {n m : Nat} (h : isB o m) (k : ∀ x : ByteArray, x.size ≤ m → isB (f x) n) : isB (o.bind f) n := by obtain ⟨x, rfl, e⟩ := h; exact k x e
theorem isB.ite {c : Prop} [Decidable c] {a b : Option ByteArray} {n : Nat} (h : c → isB a n) (k : ¬c → isB b n) : isB (if c then a else b) n := by
  split
  · exact h ‹_›
  · exact k ‹_›
theorem isB.pure {x : ByteArray} {n : Nat} (h : x.size ≤ n) : isB (some x) n := ⟨x, rfl, h⟩
theorem isB.cat {s t : ByteArray} {f : ByteArray → Option ByteArray} {n i j : Nat} (hs : s.size ≤ i) (ht : t.size ≤ j) (hb : i + j ≤ 1000000000) (k : ∀ r : ByteArray, r.size ≤ i + j → isB (f r) n) : isB ((V.cat s t).bind f) n := by
  unfold V.cat; rw [if_pos (by unfold maxLen; omega)]
  exact k _ (by rw [ByteArray.size_append]; omega)
theorem isB.on {o : Option (Out ByteArray Unit)} {f : Unit → Option ByteArray} {n : Nat} (h : ∃ x, o = Option.some x ∧ ∀ r, x = Out.ret r → r.size ≤ n) (k : isB (f ()) n) : isB (o.bind fun x => x.on f) n := by
  obtain ⟨x, rfl, h⟩ := h
  cases x with
  | ret r => exact ⟨r, rfl, h r rfl⟩
  | go u => exact k

/-- A loop that lengthens a text. -/
theorem isB.loop {α : Type} {F : Nat → ByteArray → Int → Option ByteArray} {l : List α} (c : Nat) (hl : l.length ≤ 1000)
    (hs : ∀ n (k : Nat) (hk : k < l.length) (s : ByteArray) (b : Nat), s.size ≤ b → b + c ≤ 100000000 → (∀ r : ByteArray, r.size ≤ b + c → isB (F n r (((k : Nat) : Int) + 1)) (b + c + (l.length - (k + 1)) * c)) → isB (F (n + 1) s (k : Int)) (b + c + (l.length - (k + 1)) * c))
    (he : ∀ n s, F (n + 1) s (l.length : Int) = some s) : ∀ {s : ByteArray} {b : Nat}, s.size ≤ b → b + l.length * c ≤ 100000000 → isB (F FU s 0) (b + l.length * c) := by
  have key : ∀ (m k n : Nat) (s : ByteArray) (b : Nat), l.length - k ≤ m → m < n → k ≤ l.length → s.size ≤ b → b + (l.length - k) * c ≤ 100000000 → isB (F n s (k : Int)) (b + (l.length - k) * c) := by
    intro m
    induction m with
    | zero =>
      intro k n s b h1 h2 h3 h4 _
      obtain ⟨n, rfl⟩ : ∃ n', n = n' + 1 := ⟨n - 1, by omega⟩
      have : k = l.length := by omega
      subst this
      rw [he]; exact ⟨s, rfl, by omega⟩
    | succ m ih =>
      intro k n s b h1 h2 h3 h4 h5
      obtain ⟨n, rfl⟩ : ∃ n', n = n' + 1 := ⟨n - 1, by omega⟩
      by_cases hk : k < l.length
      · have e : l.length - k = (l.length - (k + 1)) + 1 := by omega
        have e2 : (l.length - k) * c = c + (l.length - (k + 1)) * c := by rw [e, Nat.add_mul]; omega
        rw [e2, ← Nat.add_assoc]
        refine hs n k hk s b h4 (by have : 0 ≤ (l.length - (k + 1)) * c := Nat.zero_le _; omega) fun r hr => ?_
        have := ih (k + 1) n r (b + c) (by omega) (by omega) (by omega) hr (by omega)
        exact this
      · have : k = l.length := by omega
        subst this
        rw [he]; exact ⟨s, rfl, by omega⟩
  intro s b h1 h2
  have := key l.length 0 FU s b (by omega) (by unfold FU; omega) (by omega) h1 (by omega)
  simpa using this

theorem numsz (x : Int) : (strOfNums [x]).size = 1 := rfl
theorem digits_B : ∀ (d f : Nat) (n : Int), n < (10 : Int) ^ (d + 1) → n < 9223372036854775808 → d < f → d < 1000 → isB (ref01_Digits f n) (d + 1) := by
  intro d
  induction d with
  | zero =>
    intro f n h1 _ h2 _
    obtain ⟨f, rfl⟩ : ∃ n', f = n' + 1 := ⟨f - 1, by omega⟩
    rw [ref01_Digits, if_pos (by simp only [decide_eq_true_eq]; omega)]
    exact ⟨_, rfl, by rw [numsz]; omega⟩
  | succ d ih =>
    intro f n h1 h3 h2 h4
    obtain ⟨f, rfl⟩ : ∃ n', f = n' + 1 := ⟨f - 1, by omega⟩
    rw [ref01_Digits]
    refine isB.ite (fun _ => ⟨_, rfl, by rw [numsz]; omega⟩) fun hn => ?_
    have hn : 10 ≤ n := by simpa using hn
    have hq : V.quo n 10 = some (n / 10) := by unfold V.quo; rw [if_neg (by omega), Int.tdiv_eq_ediv_of_nonneg (by omega)]
    have hr : V.rem n 10 = some (n % 10) := by unfold V.rem; rw [if_neg (by omega), Int.tmod_eq_emod_of_nonneg (by omega)]
    rw [hq, hr]
    simp only [Option.bind_some]
    have e : (10 : Int) ^ (d + 1 + 1) = 10 * (10 : Int) ^ (d + 1) := by rw [Int.pow_succ]; omega
    rw [w_eq (by omega) (by omega)]
    refine isB.bindB (ih f _ (by omega) (by omega) (by omega) (by omega)) fun r hr => ?_
    exact isB.cat (j := 1) hr (by rw [numsz]; omega) (by omega) fun r hr => ⟨r, rfl, by omega⟩
theorem wlt (n : Int) : i64.wrap n < 9223372036854775808 := by rw [IntKind.wrap_i64]; omega
theorem Digits_B (n : Int) : isB (ref01_Digits FU n) 21 := by
  obtain ⟨f, hf⟩ : ∃ f, FU = f + 30 := ⟨1152921504606846946, rfl⟩
  rw [hf]
  by_cases hn : n < 10
  · exact (digits_B 0 (f + 30) n (by omega) (by omega) (by omega) (by omega)).mono (by omega)
  · rw [ref01_Digits, if_neg (by simpa using hn)]
    have hq : V.quo n 10 = some (n / 10) := by unfold V.quo; rw [if_neg (by omega), Int.tdiv_eq_ediv_of_nonneg (by omega)]
    have hr : V.rem n 10 = some (n % 10) := by unfold V.rem; rw [if_neg (by omega), Int.tmod_eq_emod_of_nonneg (by omega)]
    rw [hq, hr]
    simp only [Option.bind_some]
    refine isB.bindB (digits_B 19 (f + 29) _ (by have := wlt (n / 10); omega) (wlt _) (by omega) (by omega)) fun r hr => ?_
    exact isB.cat (j := 1) hr (by rw [numsz]; omega) (by omega) fun r hr => ⟨r, rfl, by omega⟩
theorem lit1 {k : Nat} {a : Array UInt8} (k0 : (a.size).ble k = true) : (ByteArray.mk a).size ≤ k := Nat.le_of_ble_eq_true k0
theorem Milli_B (n : Int) : isB (ref03_ShowMilli n) 30 := by
  unfold ref03_ShowMilli
  refine isB.ite (fun _ => ⟨_, rfl, lit1 rfl⟩) fun hn => ?_
  refine isB.bind ⟨_, rfl⟩ fun v _ => isB.ite (fun _ => ?_) fun _ => ?_
  · exact isB.bind ⟨_, rfl⟩ fun v _ => isB.bindB (Digits_B _) fun r hr => ⟨r, rfl, by omega⟩
  · exact isB.bindB (Digits_B _) fun r hr => isB.cat hr (lit1 (k := 1) rfl) (by omega) fun r hr => ⟨r, rfl, by omega⟩
theorem show3_step (n v : Int) (hv : v ≠ 0) (x : ByteArray) (hx : x.size ≤ 2) (rest : Option (Out ByteArray Unit)) :
    (∃ r, ((if decide (n > 0) = true then (V.rem n v).bind fun v2 => some (v2 == 0) else some false).bind fun c => if c = true then (V.quo n v).bind fun v3 => (some x : Option ByteArray).bind fun x => (ref01_Digits FU (i64.wrap v3)).bind fun r => (V.cat r x).bind fun v4 => some (Out.ret v4) else rest) = some (Out.ret r) ∧ r.size ≤ 30) ∨
    (((if decide (n > 0) = true then (V.rem n v).bind fun v2 => some (v2 == 0) else some false).bind fun c => if c = true then (V.quo n v).bind fun v3 => (some x : Option ByteArray).bind fun x => (ref01_Digits FU (i64.wrap v3)).bind fun r => (V.cat r x).bind fun v4 => some (Out.ret v4) else rest) = rest ∧ True) := by
  obtain ⟨c, hc⟩ : isS (if decide (n > 0) = true then (V.rem n v).bind fun v2 => some (v2 == 0) else some false) := T.ite (fun _ => T.bind ⟨_, by unfold V.rem; rw [if_neg hv]⟩ fun _ _ => ⟨_, rfl⟩) fun _ => ⟨_, rfl⟩
  rw [hc]
  simp only [Option.bind_some]
  cases c with
  | false => exact .inr ⟨rfl, trivial⟩
  | true =>
    left
    obtain ⟨r, h1, h2⟩ := Digits_B (i64.wrap (n.tdiv v))
    refine ⟨r ++ x, ?_, by rw [ByteArray.size_append]; omega⟩
    rw [if_pos rfl, show V.quo n v = some (n.tdiv v) by unfold V.quo; rw [if_neg hv]]
    simp only [Option.bind_some]
    rw [h1]
    simp only [Option.bind_some]
    unfold V.cat
    rw [if_pos (by unfold maxLen; omega)]
    rfl
theorem Show3_B (n : Int) : isB (ref03_Show n) 30 := by
  unfold ref03_Show
  refine isB.ite (fun _ => ⟨_, rfl, lit1 rfl⟩) fun hn => isB.on ?_ (isB.bindB (Digits_B _) fun r hr => ⟨r, rfl, by omega⟩)
  rcases loopI (F := fun f i => ref03_Show.l1 n f i) (Q := fun r => r.size ≤ 30) (S := fun k => True) (len := 4) (by omega) (fun f k hk => by
      rw [ref03_Show.l1, if_pos (by simp; omega), wk1 (by omega)]
      rcases (by omega : k = 0 ∨ k = 1 ∨ k = 2 ∨ k = 3) with rfl | rfl | rfl | rfl
      · exact show3_step n 1099511627776 (by omega) _ (lit1 rfl) _
      · exact show3_step n 1073741824 (by omega) _ (lit1 rfl) _
      · exact show3_step n 1048576 (by omega) _ (lit1 rfl) _
      · exact show3_step n 1024 (by omega) _ (lit1 rfl) _) (fun f => by rw [ref03_Show.l1, if_neg (by simp)]) with ⟨r, h1, h2⟩ | ⟨h1, _⟩
  · exact ⟨_, h1, fun r' e => by injection e with e; rw [← e]; exact h2⟩
  · exact ⟨_, h1, fun r' e => by cases e⟩

theorem atom_B {s : ByteArray} {n : Nat} (h : s.size ≤ n) (h2 : 2 ≤ n) : isB (ref07_atom s) n := by
  unfold ref07_atom
  exact isB.ite (fun _ => ⟨_, rfl, Nat.le_trans (lit1 (k := 2) rfl) h2⟩) fun _ => ⟨_, rfl, h⟩
theorem number_B (name : ByteArray) (h : name.size ≤ 20) (n : Int) : isB (ref07_number name n) 100 := by
  unfold ref07_number
  refine isB.ite (fun _ => ⟨_, rfl, lit1 rfl⟩) fun _ => ?_
  exact isB.cat (lit1 (k := 2) rfl) h (by omega) fun r hr => isB.cat hr (lit1 (k := 1) rfl) (by omega) fun r hr => isB.bindB (Digits_B n) fun d hd => isB.cat hr hd (by omega) fun r hr => isB.cat hr (lit1 (k := 1) rfl) (by omega) fun r hr => ⟨r, rfl, by omega⟩
theorem flag_B (name : ByteArray) (h : name.size ≤ 20) (b : Bool) : isB (ref07_flag name b) 100 := by
  unfold ref07_flag
  refine isB.ite (fun _ => ?_) fun _ => ⟨_, rfl, lit1 rfl⟩
  exact isB.cat (lit1 (k := 1) rfl) h (by omega) fun r hr => ⟨r, rfl, by omega⟩
theorem pairs_B (name : ByteArray) (h : name.size ≤ 20) {l : List T_api_Label} (hl : LL l) : isB (ref07_pairs name l) 40000 := by
  unfold ref07_pairs
  have hn := hl.1
  have := isB.loop (F := fun f s i => ref07_pairs.l1 name l f s i) (l := l) 700 (by omega) (fun n k hk s b hs hb c => by
      rw [ref07_pairs.l1, if_pos (dlt hk)]
      obtain ⟨h1, h2⟩ := hl.2 k hk
      refine isB.cat hs (lit1 (k := 2) rfl) (by omega) fun r hr => isB.cat hr h (by omega) fun r hr => isB.cat hr (lit1 (k := 1) rfl) (by omega) fun r hr => ?_
      rw [glk hk]
      simp only [Option.bind_some]
      refine isB.cat hr h1 (by omega) fun r hr => isB.cat hr (lit1 (k := 1) rfl) (by omega) fun r hr => isB.bindB (atom_B h2 (by omega)) fun a ha => isB.cat hr ha (by omega) fun r hr => isB.cat hr (lit1 (k := 1) rfl) (by omega) fun r hr => ?_
      rw [w_eq (by omega) (by omega)]
      exact c r (by omega)) (fun n s => by rw [ref07_pairs.l1, if_neg dnl]) (s := ⟨#[]⟩) (b := 0) (lit1 rfl) (by omega)
  exact isB.bindB (this.mono (by omega)) fun r hr => ⟨r, rfl, hr⟩

/-- A right pod's tolerations have known effects. -/
theorem bears_of {l : List T_api_Toleration} (hl : LB l) (h : ref06_RightBears l = some true) : ∀ k (hk : k < l.length), 0 ≤ l[k].Effect ∧ l[k].Effect ≤ 3 := by
  have hn := hl.1
  unfold ref06_RightBears at h
  split at h
  · cases h
  rcases loopI (F := fun n i => ref06_RightBears.l1 l n i) (Q := fun r => r = false) (S := fun k => ∀ hk : k < l.length, 0 ≤ l[k].Effect ∧ l[k].Effect ≤ 3) (len := l.length) (by omega) (fun n k hk => by
      rw [ref06_RightBears.l1, if_pos (dlt hk), glk hk, wk1 (by omega)]
      simp only [Option.bind_some]
      obtain ⟨c, hc⟩ : isS (if (!true) = true then some true else some false) := ⟨_, rfl⟩
      obtain ⟨a, ha⟩ := maybe6_tot (hl.2 k hk).1
      obtain ⟨b, hb⟩ := maybe6_tot (hl.2 k hk).2
      rw [ha, hb]
      simp only [Option.bind_some]
      cases a with
      | false => exact .inl ⟨false, rfl, rfl⟩
      | true =>
        cases b with
        | false => exact .inl ⟨false, rfl, rfl⟩
        | true =>
          simp only [Bool.not_true, Bool.false_eq_true, if_false, Option.bind_some]
          unfold ref06_effect
          by_cases he : l[k].Effect = 0
          · rw [show (l[k].Effect != 0) = false by simp [he]]
            simp only [Bool.false_eq_true, if_false, Option.bind_some, Bool.false_or]
            cases ((l[k].Any && !V.seq l[k].Val ⟨#[]⟩) || (V.seq l[k].Key ⟨#[]⟩ && !l[k].Any))
            · exact .inr ⟨rfl, fun _ => by omega⟩
            · exact .inl ⟨false, rfl, rfl⟩
          · rw [show (l[k].Effect != 0) = true by simp [he]]
            simp only [if_true, Option.bind_some]
            by_cases h1 : l[k].Effect ≥ 1 ∧ l[k].Effect ≤ 3
            · rw [decide_eq_true h1.1, decide_eq_true h1.2]
              simp only [Bool.and_self, Bool.not_true, Bool.false_or]
              cases ((l[k].Any && !V.seq l[k].Val ⟨#[]⟩) || (V.seq l[k].Key ⟨#[]⟩ && !l[k].Any))
              · exact .inr ⟨rfl, fun _ => by omega⟩
              · exact .inl ⟨false, rfl, rfl⟩
            · rw [show (decide (l[k].Effect ≥ 1) && decide (l[k].Effect ≤ 3)) = false by rw [← Bool.decide_and]; exact decide_eq_false h1]
              exact .inl ⟨false, rfl, rfl⟩) (fun n => by rw [ref06_RightBears.l1, if_neg dnl]) with ⟨r, h1, h2⟩ | ⟨h1, h2⟩
  · rw [h1, h2] at h; cases h
  · exact fun k hk => h2 k hk hk

theorem bears7 {p : T_api_Pod} (hp : LP p) (h : ref07_RightPod p = some true) : ref06_RightBears p.Bears = some true := by
  unfold ref07_RightPod at h
  obtain ⟨_, _, h⟩ := Option.bind_eq_some_iff.1 h
  obtain ⟨_, _, h⟩ := Option.bind_eq_some_iff.1 h
  obtain ⟨_, _, h⟩ := Option.bind_eq_some_iff.1 h
  obtain ⟨_, _, h⟩ := Option.bind_eq_some_iff.1 h
  split at h
  · cases h
  obtain ⟨o, ho, h⟩ := Option.bind_eq_some_iff.1 h
  cases o with
  | ret r =>
    exfalso
    have hn := hp.nterms
    simp only [Out.on, Option.some.injEq] at h
    rcases loopI (F := fun n i => ref07_RightPod.l1 p n i) (Q := fun r => r = false) (S := fun k => True) (len := p.Terms.length) (by omega) (fun n k hk => by
        rw [ref07_RightPod.l1, if_pos (dlt hk), glk hk, wk1 (by omega)]
        simp only [Option.bind_some]
        obtain ⟨b, hb⟩ := Term5_tot (hp.terms k hk)
        rw [hb]
        cases b with
        | false => exact .inl ⟨false, rfl, rfl⟩
        | true => exact .inr ⟨rfl, trivial⟩) (fun n => by rw [ref07_RightPod.l1, if_neg dnl]) with ⟨r', h1, h2⟩ | ⟨h1, _⟩
    · rw [h1] at ho
      injection ho with ho
      injection ho with ho
      rw [← ho, h2] at h
      cases h
    · rw [h1] at ho; cases ho
  | go u =>
    simp only [Out.on] at h
    obtain ⟨o, ho, h⟩ := Option.bind_eq_some_iff.1 h
    cases o with
    | ret r =>
      exfalso
      have hn := hp.nports
      simp only [Option.some.injEq] at h
      rcases loopI (F := fun n i => ref07_RightPod.l2 p n i) (Q := fun r => r = false) (S := fun k => True) (len := p.Ports.length) (by omega) (fun n k hk => by
          rw [ref07_RightPod.l2, if_pos (dlt hk), glk hk, wk1 (by omega)]
          simp only [Option.bind_some, ref07_in]
          by_cases h0 : 0 < k
          · have h0' : (decide ((k : Int) > 0)) = true := by simp; omega
            simp only [h0', if_true, glp hk h0 (by omega), Option.bind_some]
            cases (decide (p.Ports[k] ≥ (1 : Int)) && decide (p.Ports[k] ≤ (65535 : Int)))
            · exact .inl ⟨false, rfl, rfl⟩
            · by_cases hle : p.Ports[k] ≤ p.Ports[k - 1]
              · rw [decide_eq_true hle]; exact .inl ⟨false, rfl, rfl⟩
              · rw [decide_eq_false hle]; exact .inr ⟨rfl, trivial⟩
          · have h0' : (decide ((k : Int) > 0)) = false := by simp; omega
            simp only [h0', Bool.false_eq_true, if_false, Option.bind_some]
            cases (decide (p.Ports[k] ≥ (1 : Int)) && decide (p.Ports[k] ≤ (65535 : Int)))
            · exact .inl ⟨false, rfl, rfl⟩
            · exact .inr ⟨rfl, trivial⟩) (fun n => by rw [ref07_RightPod.l2, if_neg dnl]) with ⟨r', h1, h2⟩ | ⟨h1, _⟩
      · rw [h1] at ho
        injection ho with ho
        injection ho with ho
        rw [← ho, h2] at h
        cases h
      · rw [h1] at ho; cases ho
    | go u =>
      simp only at h
      obtain ⟨_, _, h⟩ := Option.bind_eq_some_iff.1 h
      split at h
      · cases h
      obtain ⟨_, _, h⟩ := Option.bind_eq_some_iff.1 h
      obtain ⟨_, _, h⟩ := Option.bind_eq_some_iff.1 h
      obtain ⟨_, _, h⟩ := Option.bind_eq_some_iff.1 h
      obtain ⟨_, _, h⟩ := Option.bind_eq_some_iff.1 h
      obtain ⟨c, hc, h⟩ := Option.bind_eq_some_iff.1 h
      simp only [Option.some.injEq] at h
      subst h
      split at hc
      · obtain ⟨d, hd, hc⟩ := Option.bind_eq_some_iff.1 hc
        simp only [Option.some.injEq] at hc
        rw [hd, hc]
      · cases hc

theorem ShowPod_B {p : T_api_Pod} (h : LP p) : isB (ref07_ShowPod p) 10000000 := by
  have hnt := h.nterms
  have hnp := h.nports
  have hnb := h.bears.1
  obtain ⟨b, hb⟩ := RPod_tot h
  unfold ref07_ShowPod
  rw [hb]
  cases b with
  | false => exact ⟨_, rfl, lit1 rfl⟩
  | true =>
    have hg := gp_of h hb
    have hbe := bears_of h.bears (bears7 h hb)
    rw [Option.bind_some, if_neg (by decide)]
    refine isB.cat (lit1 (k := 100) rfl) h.name (by omega) fun r hr => isB.cat hr (lit1 (k := 100) rfl) (by omega) fun r hr => ?_
    refine isB.bindB (Milli_B _) fun d hd => isB.cat hr hd (by omega) fun r hr => isB.cat hr (lit1 (k := 100) rfl) (by omega) fun r hr => ?_
    refine isB.bindB (Show3_B _) fun d hd => isB.cat hr hd (by omega) fun r hr => isB.cat hr (lit1 (k := 100) rfl) (by omega) fun r hr => ?_
    refine isB.bindB (Show3_B _) fun d hd => isB.cat hr hd (by omega) fun r hr => isB.cat hr (lit1 (k := 100) rfl) (by omega) fun r hr => ?_
    refine isB.bindB (Digits_B _) fun d hd => isB.cat hr hd (by omega) fun r hr => isB.cat hr (lit1 (k := 100) rfl) (by omega) fun r hr => ?_
    refine isB.bindB (pairs_B _ (lit1 rfl) h.labels) fun d hd => isB.cat hr hd (by omega) fun r hr => ?_
    refine isB.bindB (pairs_B _ (lit1 rfl) h.select) fun d hd => isB.cat hr hd (by omega) fun r hr => ?_
    refine isB.bindB (pairs_B _ (lit1 rfl) h.apart) fun d hd => isB.cat hr hd (by omega) fun r hr => ?_
    have hr1 : r.size ≤ 200000 := by omega
    refine isB.bindB (m := 1000000) ?_ fun r hr => ?_
    · refine (isB.loop (F := fun f s i => ref07_ShowPod.l1 p f s i) (l := p.Terms) 20000 (by omega) (fun n k hk s b hs hb c => ?_) (fun n s => by rw [ref07_ShowPod.l1, if_neg dnl]) hr1 (by omega)).mono (by omega)
      obtain ⟨hv, hk1, hk2⟩ := h.terms k hk
      obtain ⟨ho, _⟩ := term_right (h.terms k hk) (hg.terms k hk)
      rw [ref07_ShowPod.l1, if_pos (dlt hk), glk hk, Option.bind_some]
      refine isB.cat hs (lit1 (k := 100) rfl) (by omega) fun r hr => isB.cat hr hk1 (by omega) fun r hr => isB.cat hr (lit1 (k := 100) rfl) (by omega) fun r hr => ?_
      rw [show ref07_ops = some _ from rfl, Option.bind_some]
      refine isB.bindB (m := 100) (by rcases ho with e | e | e | e | e | e <;> rw [e] <;> exact ⟨_, rfl, lit1 rfl⟩) fun d hd => isB.cat hr hd (by omega) fun r hr => ?_
      refine isB.bindB (m := b + 19000) ?_ fun r hr => isB.cat hr (lit1 (k := 100) rfl) (by omega) fun r hr => by rw [w_eq (by omega) (by omega)]; exact c r (by omega)
      refine ((isB.loop (F := fun f s i => ref07_ShowPod.l2 p.Terms[k] f s i) (l := p.Terms[k].Vals) 400 (by omega) (fun n j hj s b hs hb c => ?_) (fun n s => by rw [ref07_ShowPod.l2, if_neg dnl]) hr (by omega)).mono (by omega))
      rw [ref07_ShowPod.l2, if_pos (dlt hj)]
      refine isB.cat hs (lit1 (k := 10) rfl) (by omega) fun r hr => ?_
      rw [glk hj, Option.bind_some]
      refine isB.bindB (atom_B (hk2 j hj) (by omega)) fun d hd => isB.cat hr hd (by omega) fun r hr => by rw [w_eq (by omega) (by omega)]; exact c r (by omega)
    refine isB.bindB (m := 1200000) ?_ fun r hr => ?_
    · refine (isB.loop (F := fun f s i => ref07_ShowPod.l3 p f s i) (l := p.Bears) 2000 (by omega) (fun n k hk s b hs hb c => ?_) (fun n s => by rw [ref07_ShowPod.l3, if_neg dnl]) hr (by omega)).mono (by omega)
      obtain ⟨hk1, hk2⟩ := h.bears.2 k hk
      obtain ⟨e0, e3⟩ := hbe k hk
      rw [ref07_ShowPod.l3, if_pos (dlt hk), glk hk, Option.bind_some]
      have he : ∀ r : ByteArray, isB (V.gl ([(⟨#[97, 110, 121]⟩ : ByteArray), (⟨#[110, 111]⟩ : ByteArray), (⟨#[112, 114, 101, 102, 101, 114]⟩ : ByteArray), (⟨#[111, 117, 116]⟩ : ByteArray)]) p.Bears[k].Effect) 100 := fun _ => by
        rcases (by omega : p.Bears[k].Effect = 0 ∨ p.Bears[k].Effect = 1 ∨ p.Bears[k].Effect = 2 ∨ p.Bears[k].Effect = 3) with e | e | e | e <;> rw [e] <;> exact ⟨_, rfl, lit1 rfl⟩
      refine isB.ite (fun _ => ?_) fun _ => ?_
      · refine isB.cat hs (lit1 (k := 100) rfl) (by omega) fun r hr => isB.bindB (atom_B hk1 (by omega)) fun d hd => isB.cat hr hd (by omega) fun r hr => isB.cat hr (lit1 (k := 100) rfl) (by omega) fun r hr => ?_
        rw [show ref07_effects = some _ from rfl, Option.bind_some]
        refine isB.bindB (he r) fun d hd => isB.cat hr hd (by omega) fun r hr => isB.cat hr (lit1 (k := 100) rfl) (by omega) fun r hr => by rw [w_eq (by omega) (by omega)]; exact c r (by omega)
      · refine isB.cat hs (lit1 (k := 100) rfl) (by omega) fun r hr => isB.bindB (atom_B hk1 (by omega)) fun d hd => isB.cat hr hd (by omega) fun r hr => isB.cat hr (lit1 (k := 100) rfl) (by omega) fun r hr => isB.bindB (atom_B hk2 (by omega)) fun d hd => isB.cat hr hd (by omega) fun r hr => isB.cat hr (lit1 (k := 100) rfl) (by omega) fun r hr => ?_
        rw [show ref07_effects = some _ from rfl, Option.bind_some]
        refine isB.bindB (he r) fun d hd => isB.cat hr hd (by omega) fun r hr => isB.cat hr (lit1 (k := 100) rfl) (by omega) fun r hr => by rw [w_eq (by omega) (by omega)]; exact c r (by omega)
    refine isB.bindB (m := 1300000) ?_ fun r hr => ?_
    · refine (isB.loop (F := fun f s i => ref07_ShowPod.l4 p f s i) (l := p.Ports) 200 (by omega) (fun n k hk s b hs hb c => ?_) (fun n s => by rw [ref07_ShowPod.l4, if_neg dnl]) hr (by omega)).mono (by omega)
      rw [ref07_ShowPod.l4, if_pos (dlt hk), glk hk, Option.bind_some]
      refine isB.bindB (number_B _ (lit1 rfl) _) fun d hd => isB.cat hs hd (by omega) fun r hr => by rw [w_eq (by omega) (by omega)]; exact c r (by omega)
    refine isB.bindB (number_B _ (lit1 rfl) _) fun d hd => isB.cat hr hd (by omega) fun r hr => ?_
    refine isB.bindB (pairs_B _ (lit1 rfl) h.spread) fun d hd => isB.cat hr hd (by omega) fun r hr => ?_
    refine isB.bindB (number_B _ (lit1 rfl) _) fun d hd => isB.cat hr hd (by omega) fun r hr => ?_
    have tail : ∀ (r : ByteArray), r.size ≤ 2000000 → isB ((ref07_flag (⟨#[119, 105, 100, 101]⟩ : ByteArray) p.Wide).bind fun r20 => (V.cat r r20).bind fun v40 => (ref07_flag (⟨#[100, 97, 101, 109, 111, 110]⟩ : ByteArray) p.Daemon).bind fun r21 => (V.cat v40 r21).bind fun v41 => (ref07_flag (⟨#[112, 105, 110, 110, 101, 100]⟩ : ByteArray) p.Pinned).bind fun r22 => (V.cat v41 r22).bind fun v42 => (ref07_flag (⟨#[108, 111, 99, 97, 108]⟩ : ByteArray) p.Local).bind fun r23 => (V.cat v42 r23).bind fun v43 => (V.cat v43 (⟨#[41]⟩ : ByteArray)).bind fun v44 => some v44) 10000000 := fun r hr =>
      isB.bindB (flag_B _ (lit1 rfl) _) fun d hd => isB.cat hr hd (by omega) fun r hr => isB.bindB (flag_B _ (lit1 rfl) _) fun d hd => isB.cat hr hd (by omega) fun r hr => isB.bindB (flag_B _ (lit1 rfl) _) fun d hd => isB.cat hr hd (by omega) fun r hr => isB.bindB (flag_B _ (lit1 rfl) _) fun d hd => isB.cat hr hd (by omega) fun r hr => isB.cat hr (lit1 (k := 100) rfl) (by omega) fun r hr => ⟨r, rfl, by omega⟩
    refine isB.ite (fun _ => ?_) fun _ => tail r (by omega)
    exact isB.cat hr (lit1 (k := 100) rfl) (by omega) fun r hr => isB.cat hr h.owner (by omega) fun r hr => isB.cat hr (lit1 (k := 100) rfl) (by omega) fun r hr => tail r (by omega)

theorem SamePod_self {p : T_api_Pod} (h : LP p) : ref07_SamePod p p = some true := by
  unfold ref07_SamePod
  obtain ⟨r, hr, _⟩ := ShowPod_B h
  rw [hr]
  simp [seq_eq]
theorem Same9_self {bs : List T_api_Bound} (hn : bs.length ≤ 1000) (h : ∀ b, b ∈ bs → LP b.Pod) : ref09_Same [] bs [] bs = some true := by
  unfold ref09_Same
  rw [if_neg (by simp)]
  rw [show ref09_Same.l1 [] [] FU 0 = some (Out.go ()) from rfl]
  simp only [Option.bind_some, Out.on]
  rcases loopI (F := fun n i => ref09_Same.l2 bs bs n i) (Q := fun r => False) (S := fun k => True) (len := bs.length) (by omega) (fun n k hk => by
      rw [ref09_Same.l2, if_pos (dlt hk), glk hk, wk1 (by omega)]
      simp only [Option.bind_some, seq_eq]
      rw [SamePod_self (h _ (List.getElem_mem hk))]
      right
      simp) (fun n => by rw [ref09_Same.l2, if_neg dnl]) with ⟨r, _, h2⟩ | ⟨h1, _⟩
  · exact h2.elim
  · rw [h1]; rfl
end Go.Proofs.YtbkdglcedgiogaaGreat.M
/- Plain law: SchedSteps. Own work. -/
namespace Go.Proofs.YtbkdglcedgiogaaGreat.M
open Go Go.Proofs Go.Proofs.YtbkdglcedgiogaaGreat.V
open Go.IntKind (i64)
set_option linter.unusedVariables false
set_option maxRecDepth 20000
set_option maxHeartbeats 4000000

theorem Ints_self {l : List Int} (hl : l.length ≤ 1000) : ref02_Ints l l = some true := by
  unfold ref02_Ints
  rw [if_neg (by simp)]
  rcases loopI (F := fun n i => ref02_Ints.l1 l l n i) (Q := fun r => False) (S := fun k => True) (len := l.length) (by omega) (fun n k hk => by
      rw [ref02_Ints.l1, if_pos (dlt hk), glk hk, wk1 (by omega)]
      right; simp) (fun n => by rw [ref02_Ints.l1, if_neg dnl]) with ⟨r, _, h2⟩ | ⟨h1, _⟩
  · exact h2.elim
  · rw [h1]; rfl
theorem ba_beq (a : ByteArray) : (a == a) = true := by
  obtain ⟨a⟩ := a
  show (a == a) = true
  simp
theorem Moves_self {l : List T_api_Move} (hl : l.length ≤ 1000) : ref14_Moves l l = some true := by
  unfold ref14_Moves
  rw [if_neg (by simp)]
  rcases loopI (F := fun n i => ref14_Moves.l1 l l n i) (Q := fun r => False) (S := fun k => True) (len := l.length) (by omega) (fun n k hk => by
      rw [ref14_Moves.l1, if_pos (dlt hk), glk hk, wk1 (by omega)]
      right; simp [ba_beq]) (fun n => by rw [ref14_Moves.l1, if_neg dnl]) with ⟨r, _, h2⟩ | ⟨h1, _⟩
  · exact h2.elim
  · rw [h1]; rfl
theorem pendL_append : ∀ (a b : List T_api_Bound) (k : Nat), pendL (a ++ b) k = pendL a k ++ pendL b (k + a.length)
  | [], b, k => by simp [pendL]
  | x :: a, b, k => by
    rw [List.cons_append, pendL, pendL, pendL_append a b (k + 1), List.length_cons, show k + 1 + a.length = k + (a.length + 1) by omega]
    split <;> simp
theorem take_add_one {α : Type} {l : List α} {k : Nat} (h : k < l.length) : l.take (k + 1) = l.take k ++ [l[k]] := by
  rw [List.take_add_one, List.getElem?_eq_getElem h]; rfl
theorem rkB_at {bs : List T_api_Bound} {k : Nat} (h : k < bs.length) : rkB bs (k : Int) = bs[k].Pod.Rank := by
  unfold rkB; rw [Int.toNat_natCast, List.getElem?_eq_getElem h]; rfl
theorem Order14 {bs : List T_api_Bound} (hl : bs.length ≤ 400) : ∃ r, ref14_Order bs = some r ∧ r.Perm (pendL bs 0) ∧ r.Pairwise (Rk (rkB bs)) := by
  unfold ref14_Order
  have key : ∀ (m k n : Nat) (out : List Int), bs.length - k ≤ m → m < n → k ≤ bs.length → out.Perm (pendL (bs.take k) 0) → out.Pairwise (Rk (rkB bs)) → ∃ r, ref14_Order.l1 bs n out (k : Int) = some r ∧ r.Perm (pendL bs 0) ∧ r.Pairwise (Rk (rkB bs)) := by
    intro m
    induction m with
    | zero =>
      intro k n out h1 h2 h3 h4 h5
      obtain ⟨n, rfl⟩ : ∃ n', n = n' + 1 := ⟨n - 1, by omega⟩
      have : k = bs.length := by omega
      subst this
      rw [ref14_Order.l1, if_neg dnl]
      rw [List.take_length] at h4
      exact ⟨out, rfl, h4, h5⟩
    | succ m ih =>
      intro k n out h1 h2 h3 h4 h5
      obtain ⟨n, rfl⟩ : ∃ n', n = n' + 1 := ⟨n - 1, by omega⟩
      by_cases hk : k < bs.length
      · rw [ref14_Order.l1, if_pos (dlt hk), glk hk, wk1 (by omega)]
        simp only [Option.bind_some, seq_eq]
        have htk : (bs.take k).length = k := by rw [List.length_take]; omega
        have hpl := pendL_len (bs.take k) 0
        have hol : out.length ≤ 400 := by rw [h4.length_eq]; omega
        by_cases e : bs[k].On = ⟨#[]⟩
        · rw [if_neg (by simp [e])]
          have hin : ∀ x, x ∈ out → 0 ≤ x ∧ x < (k : Int) := fun x hx => by
            have := pendL_ge (bs.take k) 0 x (h4.mem_iff.1 hx); rw [htk] at this; omega
          rw [ins_loop (F := fun f j next => ref14_Order.l2 bs out (k : Int) f j next) (l := out) (rk := rkB bs) (i := (k : Int)) (by omega) (fun n j hj next hn => by
              have hjx := hin _ (List.getElem_mem hj)
              obtain ⟨q, hq⟩ : ∃ q : Nat, out[j] = (q : Int) := ⟨out[j].toNat, by omega⟩
              have hq' : q < bs.length := by omega
              rw [ref14_Order.l2, if_pos (dlt hj), glk hj, Option.bind_some, hq, glk hq', Option.bind_some, glk hk, Option.bind_some, Option.bind_some, wk1 (by omega), rkB_at hq', rkB_at hk]
              by_cases hd : bs[q].Pod.Rank ≥ bs[k].Pod.Rank
              · rw [decide_eq_true hd, if_pos rfl, if_pos hd, Option.bind_some, ap_ok (by omega) (by simp; omega), Option.bind_some]
              · rw [decide_eq_false hd, if_neg (by decide), if_neg hd]) (fun n next => by rw [ref14_Order.l2, if_neg dnl]; rfl)]
          simp only [Option.bind_some]
          have htw : (out.takeWhile (insQ (rkB bs) (k : Int))).length ≤ out.length := (List.takeWhile_sublist _).length_le
          rw [ap_ok (by omega) (by simp; omega)]
          simp only [Option.bind_some]
          rw [sl_suf htw]
          simp only [Option.bind_some]
          rw [ap_ok (by omega) (by simp; omega)]
          simp only [Option.bind_some]
          rw [ins_put]
          refine ih (k + 1) n _ (by omega) (by omega) (by omega) ?_ (insL_sorted h5 fun x hx => (hin x hx).2)
          refine (insL_perm _ _ _).trans ?_
          rw [take_add_one hk, pendL_append, htk]
          simp only [pendL, e, if_true, Nat.zero_add]
          exact List.Perm.append_right _ h4
        · rw [if_pos (by simp [e])]
          refine ih (k + 1) n out (by omega) (by omega) (by omega) ?_ h5
          rw [take_add_one hk, pendL_append]
          simp only [pendL, if_neg e, List.append_nil]
          exact h4
      · have : k = bs.length := by omega
        subst this
        rw [ref14_Order.l1, if_neg dnl]
        rw [List.take_length] at h4
        exact ⟨out, rfl, h4, h5⟩
  obtain ⟨r, h1, h2, h3⟩ := key bs.length 0 FU [] (by omega) (by unfold FU; omega) (by omega) (by simp [pendL]) .nil
  rw [show ((0 : Nat) : Int) = 0 from rfl] at h1
  rw [h1]
  exact ⟨r, rfl, h2, h3⟩

theorem Order_same {bs : List T_api_Bound} (hl : bs.length ≤ 400) : ∃ r, sched_Order bs = some r ∧ ref14_Order bs = some r ∧ r.Perm (pendL bs 0) := by
  obtain ⟨r, h1, h2, h3⟩ := Order_ok hl
  obtain ⟨s, g1, g2, g3⟩ := Order14 hl
  have : r = s := sorted_unique (R := Rk (rkB bs)) (fun a h => by unfold Rk at h; omega) (fun a b h k => by unfold Rk at h k; omega) h3 g3 (h2.trans g2.symm)
  exact ⟨r, h1, by rw [g1, this], h2⟩

theorem step_same {ms : List T_api_Machine} {bs : List T_api_Bound} (hl : ms.length ≤ 400) (hbl : bs.length ≤ 400) (hms : ∀ m, m ∈ ms → GM m) (hn : (ms.map (·.Name)).Nodup) (hne : ∀ m, m ∈ ms → m.Name ≠ ⟨#[]⟩) (hb : ∀ b, b ∈ bs → GP b.Pod) (r : List Int) (hr : r.length ≤ 400) :
    ∀ (l : List Int) (k k' : Nat) (f : Nat) (out : List T_api_Bound) (mv : List T_api_Move), r.drop k = l → k ≤ r.length → l.length < f → l.Nodup → (∀ x, x ∈ l → ∃ i : Nat, x = (i : Int) ∧ ∃ h : i < out.length, out[i].On = ⟨#[]⟩) → SI ms bs out mv →
      ref14_Step.l1 ms bs r f out mv (k : Int) = sched_Step.l1 ms l k' out mv := by
  intro l
  induction l with
  | nil =>
    intro k k' f out mv h1 h0 h2 _ _ _
    obtain ⟨f, rfl⟩ : ∃ n', f = n' + 1 := ⟨f - 1, by omega⟩
    have hk : r.length ≤ k := by simpa using h1
    have e : k = r.length := by omega
    subst e
    rw [ref14_Step.l1, if_neg dnl, sched_Step.l1]
  | cons x l ih =>
    intro k k' f out mv h1 h0 h2 hnd hx hs
    obtain ⟨f, rfl⟩ : ∃ n', f = n' + 1 := ⟨f - 1, by omega⟩
    rw [List.nodup_cons] at hnd
    have hk : k < r.length := by
      have := congrArg List.length h1; rw [List.length_drop, List.length_cons] at this; omega
    have hd := List.drop_eq_getElem_cons hk
    rw [h1] at hd
    injection hd with hx1 hd
    obtain ⟨i, rfl, hi, ho⟩ := hx x (List.mem_cons_self ..)
    have hol : out.length ≤ 400 := by rw [hs.len]; exact hbl
    have hib : i < bs.length := by rw [← hs.len]; exact hi
    have hgp := si_mem hs (P := GP) hb
    have hlp := si_mem hs (P := LP) fun b h => (hb b h).lp
    have hcl := cntD_le out bs
    rw [ref14_Step.l1, if_pos (dlt hk), glk hk, ← hx1, wk1 (by omega)]
    simp only [Option.bind_some]
    rw [glk hib]
    simp only [Option.bind_some]
    rw [← hs.pod i hi hib, best_R hl hol hms hn hgp (hgp _ (List.getElem_mem hi)), sched_Step.l1, glk hi]
    simp only [Option.bind_some]
    rw [best_P hl hol (fun m h => (hms m h).lm) hn hlp (hlp _ (List.getElem_mem hi))]
    simp only [Option.bind_some, seq_eq]
    rcases bestL_mem (scoreV out out[i].Pod) (okM ms out out[i].Pod) (fun m h => hne m (List.mem_filter.1 h).1) with ⟨e1, e2⟩ | ⟨m, e1, e2, e3⟩
    · have hbe : bestV ms out out[i].Pod = ⟨#[]⟩ := e2
      rw [if_neg (by simp [hbe]), if_neg (by simp [hbe])]
      exact ih (k + 1) (k' + 1) f out mv hd.symm (by omega) (by rw [List.length_cons] at h2; omega) hnd.2 (fun y hy => hx y (List.mem_cons_of_mem _ hy)) hs
    · have hbe : ¬ bestV ms out out[i].Pod = ⟨#[]⟩ := e3
      have hbn : m.Name = bestV ms out out[i].Pod := e2
      have hm := List.mem_filter.1 e1
      have hmv : mv.length ≤ 400 := by rw [hs.cnt]; omega
      rw [if_pos (by simpa using hbe), if_pos (by simpa using hbe)]
      rw [ap_ok (by omega) (by simp; omega)]
      simp only [Option.bind_some]
      rw [← hbn, show ((i : Int)).toNat = i by omega]
      refine ih (k + 1) (k' + 1) f _ _ hd.symm (by omega) (by rw [List.length_cons] at h2; omega) hnd.2 (fun y hy => ?_) (si_set hs hi ho hm.1 (hne m hm.1) _)
      obtain ⟨i', rfl, hi', ho'⟩ := hx y (List.mem_cons_of_mem _ hy)
      refine ⟨i', rfl, by simpa using hi', ?_⟩
      rw [List.getElem_set]
      split
      · rename_i e; subst e; exact absurd hy hnd.1
      · exact ho'

theorem Step_same {ms : List T_api_Machine} {bs : List T_api_Bound} (hl : ms.length ≤ 400) (hbl : bs.length ≤ 400) (hms : ∀ m, m ∈ ms → GM m) (hn : (ms.map (·.Name)).Nodup) (hne : ∀ m, m ∈ ms → m.Name ≠ ⟨#[]⟩) (hb : ∀ b, b ∈ bs → GP b.Pod) (hon : ∀ k (h : k < bs.length), bs[k].On ≠ ⟨#[]⟩ → ∃ m, m ∈ ms ∧ m.Name = bs[k].On) : ref14_Step ms bs = sched_Step ms bs := by
  obtain ⟨r, h1, h2, h3⟩ := Order_same (bs := bs) hbl
  unfold ref14_Step sched_Step
  rw [ap_ok (by omega) (by simp; omega), h1, h2]
  simp only [Option.bind_some, List.nil_append]
  have hmem : ∀ x, x ∈ r → ∃ i : Nat, x = (i : Int) ∧ ∃ h : i < bs.length, bs[i].On = ⟨#[]⟩ := fun x hx => by
    have hx' := h3.mem_iff.1 hx
    have hge := pendL_ge bs 0 x hx'
    obtain ⟨i, rfl⟩ : ∃ i : Nat, x = (i : Int) := ⟨x.toNat, by omega⟩
    have := (pendL_mem bs 0 i).1 (by rw [Nat.zero_add]; exact hx')
    exact ⟨i, rfl, this⟩
  have hnd : r.Nodup := h3.nodup_iff.2 ((pendL_inc bs 0).imp (fun h e => by omega))
  have hrl : r.length ≤ 400 := by rw [h3.length_eq]; have := pendL_len bs 0; omega
  rw [show (0 : Int) = ((0 : Nat) : Int) from rfl, step_same hl hbl hms hn hne hb r hrl r 0 0 FU bs [] rfl (by omega) (by unfold FU; omega) hnd hmem ⟨rfl, fun _ _ _ => rfl, fun _ _ _ _ => rfl, hon, by rw [cntD_self]; rfl⟩]

theorem spoil : ∀ (m n k : Nat) (a : List T_api_Bound), a.length - k ≤ m → m < n → k ≤ a.length → a.length ≤ 1000 → law14_SchedSteps.l1 n a (k : Int) = some () := by
  intro m
  induction m with
  | zero =>
    intro n k a h1 h2 h3 _
    obtain ⟨n, rfl⟩ : ∃ n', n = n' + 1 := ⟨n - 1, by omega⟩
    have : k = a.length := by omega
    subst this
    rw [law14_SchedSteps.l1, if_neg dnl]
  | succ m ih =>
    intro n k a h1 h2 h3 h4
    obtain ⟨n, rfl⟩ : ∃ n', n = n' + 1 := ⟨n - 1, by omega⟩
    by_cases hk : k < a.length
    · rw [law14_SchedSteps.l1, if_pos (dlt hk), glk hk, wk1 (by omega)]
      simp only [Option.bind_some]
      exact ih n (k + 1) _ (by rw [List.length_set]; omega) (by omega) (by rw [List.length_set]; omega) (by rw [List.length_set]; omega)
    · have : k = a.length := by omega
      subst this
      rw [law14_SchedSteps.l1, if_neg dnl]

theorem SchedSteps_true {p q : Prop} (ms : List T_api_Machine) (bs : List T_api_Bound) (_ : p) (_ : q) : law14_SchedSteps ms bs = some true := by
  unfold law14_SchedSteps
  obtain ⟨b, hb, hr⟩ := right14 ms bs
  rw [hb, known14_true]
  cases b with
  | false => rfl
  | true =>
    obtain ⟨hy, hr⟩ := hr rfl
    have hnm := hy.nm
    have hnb := hy.nb
    have hgm := gms hy hr
    have hgb := gbs hy hr
    have hnd := names_nodup hr
    have hne := names_ne hr
    have hon : ∀ k (h : k < bs.length), bs[k].On ≠ ⟨#[]⟩ → ∃ m, m ∈ ms ∧ m.Name = bs[k].On := fun k h e => by
      obtain ⟨j, hj, e2⟩ := hr.on k h e
      exact ⟨ms[j], List.getElem_mem hj, e2⟩
    simp only [Option.bind_some, Bool.not_true, Bool.false_eq_true, if_false]
    rw [ap_ok (by omega) (by simp; omega)]
    simp only [Option.bind_some, List.nil_append]
    rw [Step_same (by omega) (by omega) hgm hnd hne hgb hon]
    obtain ⟨out, mv, h1, h2, _⟩ := Step_ok (ms := ms) (bs := bs) (by omega) (by omega) (fun m h => (hgm m h).lm) hnd hne (fun b h => (hgb b h).lp) hon (fun _ _ _ => True) (fun _ _ _ _ _ _ _ _ _ => ⟨fun _ => trivial, fun _ _ _ _ => trivial⟩) (fun _ _ _ => trivial)
    obtain ⟨r, o1, o2, o3⟩ := Order_same (bs := bs) (by omega)
    have hrl : r.length ≤ 400 := by rw [o3.length_eq]; have := pendL_len bs 0; omega
    have hol : out.length ≤ 400 := by rw [h2.len]; omega
    have hcl := cntD_le out bs
    have hmv : mv.length ≤ 400 := by rw [h2.cnt]; omega
    rw [h1, o1, o2]
    simp only [Option.bind_some]
    rw [Ints_self (by omega)]
    simp only [Option.bind_some, if_true]
    rw [Same9_self (by omega) (si_mem h2 (P := LP) fun b h => (hgb b h).lp)]
    simp only [Option.bind_some, if_true]
    rw [Moves_self (by omega)]
    simp only [Option.bind_some, if_true]
    rw [show (0 : Int) = ((0 : Nat) : Int) from rfl, spoil out.length FU 0 out (by omega) (by unfold FU; omega) (by omega) (by omega), Same9_self (by omega) fun b h => (hgb b h).lp]
    rfl
end Go.Proofs.YtbkdglcedgiogaaGreat.M

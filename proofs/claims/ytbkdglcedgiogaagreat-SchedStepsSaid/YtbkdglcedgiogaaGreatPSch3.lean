/-
  Plain laws: the steps of the scheduler. Own text.
-/
import Derived.Test.YtbkdglcedgiogaaGreatPSort
import Derived.Test.YtbkdglcedgiogaaGreatPPut
import Derived.Test.YtbkdglcedgiogaaGreatPSch0
namespace Go.Proofs.YtbkdglcedgiogaaGreat.M
open Go Go.Proofs Go.Proofs.YtbkdglcedgiogaaGreat.V
set_option linter.unusedVariables false

/-! the same pods, in another order -/
theorem total_perm {l m : List T_api_Pod} (h : l.Perm m) : total l = total m := by
  induction h with
  | nil => rfl
  | cons x _ ih => rw [total, total, ih]
  | swap x y l =>
    rw [total, total, total, total, ← radd_assoc, ← radd_assoc]
    congr 1
    unfold radd
    congr 1 <;> omega
  | trans _ _ ih1 ih2 => rw [ih1, ih2]
theorem needs_perm {l m : List T_api_Pod} (h : l.Perm m) : needsOK l = needsOK m := by
  unfold needsOK
  rw [Bool.eq_iff_iff, List.all_eq_true, List.all_eq_true]
  exact ⟨fun a x hx => a x (h.mem_iff.2 hx), fun a x hx => a x (h.mem_iff.1 hx)⟩
theorem used_perm {l m : List T_api_Pod} (h : l.Perm m) : usedS l = usedS m := by
  unfold usedS; rw [needs_perm h, total_perm h]
theorem on_perm {bs cs : List T_api_Bound} (h : bs.Perm cs) (n k : ByteArray) : (onS (othersS bs n) k).Perm (onS (othersS cs n) k) := by
  unfold onS othersS
  exact ((h.filter _).filter _).map _
theorem why_perm {ms : List T_api_Machine} {bs cs : List T_api_Bound} (h : bs.Perm cs) {q : T_api_Pod} (hq : q.Spread.length = 0) {m : T_api_Machine} (hw : whyV ms bs q m = 0) : whyV ms cs q m = 0 := by
  rw [whyV_zero] at hw ⊢
  obtain ⟨h1, h2, h3, h4⟩ := hw
  refine ⟨h1, ?_, ?_, many_none _ _ _ _ hq⟩
  · rw [roomS_zero] at h2 ⊢
    have hp := on_perm h q.Name m.Name
    rw [← used_perm hp]
    exact ⟨h2.1, h2.2.1, h2.2.2.1, fun x hx => h2.2.2.2 x (hp.mem_iff.2 hx)⟩
  · unfold nearB at h3 ⊢
    rw [List.any_eq_false] at h3 ⊢
    exact fun x hx => h3 x (h.mem_iff.2 hx)
/-- A pod that pends is not seen. -/
theorem on_pend {bs : List T_api_Bound} {p : T_api_Pod} {n k : ByteArray} (hk : k ≠ ⟨#[]⟩) : onS (othersS (bs ++ [⟨p, ⟨#[]⟩⟩]) n) k = onS (othersS bs n) k := by
  unfold onS othersS
  rw [List.filter_append, List.filter_append, List.map_append]
  have : (List.filter (fun b : T_api_Bound => decide (b.On = k)) (List.filter (fun b : T_api_Bound => decide (b.Pod.Name ≠ n)) [⟨p, ⟨#[]⟩⟩])) = [] := by
    rw [List.filter_eq_nil_iff]
    intro b hb
    have hb' : b = ⟨p, ⟨#[]⟩⟩ := by simpa using (List.mem_filter.1 hb).1
    rw [hb']
    simpa using fun e => hk e.symm
  rw [this]
  simp
theorem near_pend {zs : List (ByteArray × ByteArray)} {bs : List T_api_Bound} {p q : T_api_Pod} {k : ByteArray} : nearB zs (bs ++ [⟨p, ⟨#[]⟩⟩]) q k = nearB zs bs q k := by
  unfold nearB
  rw [List.any_append]
  simp [nearQ, seq_eq]
theorem why_pend {ms : List T_api_Machine} {bs : List T_api_Bound} {p q : T_api_Pod} (hq : q.Spread.length = 0) {m : T_api_Machine} (hm : m.Name ≠ ⟨#[]⟩) : whyV ms (bs ++ [⟨p, ⟨#[]⟩⟩]) q m = 0 ↔ whyV ms bs q m = 0 := by
  rw [whyV_zero, whyV_zero, roomS_zero, roomS_zero, on_pend hm, near_pend, many_none _ _ _ _ hq, many_none _ _ _ _ hq]

/-! a pod, put where it pended -/
def restL (l : List T_api_Bound) (x : Nat) : List T_api_Bound := l.take x ++ l.drop (x + 1)
theorem rest_perm {l : List T_api_Bound} {x : Nat} (h : x < l.length) : l.Perm (restL l x ++ [l[x]]) := by
  unfold restL
  have e : l = l.take x ++ l[x] :: l.drop (x + 1) := by rw [← List.drop_eq_getElem_cons h, List.take_append_drop]
  have h1 : (l.take x ++ l[x] :: l.drop (x + 1)).Perm (l[x] :: (l.take x ++ l.drop (x + 1))) := List.perm_middle
  have h2 : (l[x] :: (l.take x ++ l.drop (x + 1))).Perm ((l.take x ++ l.drop (x + 1)) ++ [l[x]]) := (List.perm_append_comm (l₁ := [l[x]]))
  have h3 := h1.trans h2
  rw [← e] at h3
  exact h3
theorem set_perm {l : List T_api_Bound} {x : Nat} (h : x < l.length) (v : T_api_Bound) : (l.set x v).Perm (restL l x ++ [v]) := by
  unfold restL
  rw [List.set_eq_take_append_cons_drop, if_pos h]
  exact List.perm_middle.trans (List.perm_append_comm (l₁ := [v]))
theorem rest_sub {l : List T_api_Bound} {x : Nat} : (restL l x).Sublist l := fewer_sub l x

def podsRight (l : List T_api_Bound) : Prop := ∀ b, b ∈ l → resOK b.Pod.Need = true ∧ b.Pod.Need.Pods = 1
theorem needs_of {l : List T_api_Bound} (h : podsRight l) (n k : ByteArray) : needsOK (onS (othersS l n) k) = true := by
  unfold needsOK
  rw [List.all_eq_true]
  intro q hq
  unfold onS othersS at hq
  obtain ⟨b, h1, rfl⟩ := List.mem_map.1 hq
  exact (h b (List.mem_filter.1 (List.mem_filter.1 h1).1).1).1

/-- More that is bound leaves no more possible. -/
theorem why_before {ms : List T_api_Machine} {l : List T_api_Bound} {x : Nat} (h : x < l.length) (hx : l[x].On = ⟨#[]⟩) (hr : podsRight l) {n : ByteArray} {q : T_api_Pod} (hq : q.Spread.length = 0) (hqn : q.Need.Pods = 1) {m : T_api_Machine} (hm : m.Name ≠ ⟨#[]⟩) (hw : whyV ms (l.set x ⟨l[x].Pod, n⟩) q m = 0) : whyV ms l q m = 0 := by
  have h1 := why_perm (set_perm h ⟨l[x].Pod, n⟩) hq hw
  have hr' : podsRight (restL l x ++ [⟨l[x].Pod, n⟩]) := fun b hb => by
    rcases List.mem_append.1 hb with hb | hb
    · exact hr b (rest_sub.subset hb)
    · have : b = ⟨l[x].Pod, n⟩ := by simpa using hb
      rw [this]
      show resOK l[x].Pod.Need = true ∧ l[x].Pod.Need.Pods = 1
      exact hr _ (List.getElem_mem h)
  have h2 := why_fewer (List.sublist_append_left (restL l x) [⟨l[x].Pod, n⟩]) (needs_of hr') (by omega) hq h1
  have h3 := (why_pend (p := l[x].Pod) hq hm).2 h2
  have hp := (rest_perm h).symm
  have e : l[x] = (⟨l[x].Pod, ⟨#[]⟩⟩ : T_api_Bound) := by rw [← hx]
  have hp' : (restL l x ++ [(⟨l[x].Pod, ⟨#[]⟩⟩ : T_api_Bound)]).Perm l := by rwa [e] at hp
  exact why_perm hp' hq h3

def feasP (ms : List T_api_Machine) (l : List T_api_Bound) : Prop := ∀ b, b ∈ l → ∀ m, m ∈ ms → m.Name = b.On → whyV ms l b.Pod m = 0
theorem feas_put {ms : List T_api_Machine} {l : List T_api_Bound} {x : Nat} (h : x < l.length) (hx : l[x].On = ⟨#[]⟩) (hr : podsRight l) (hsp : ∀ b, b ∈ l → b.Pod.Spread.length = 0) (hnd : (l.map (·.Pod.Name)).Nodup) (hne : ∀ m, m ∈ ms → m.Name ≠ ⟨#[]⟩)
    (hu : ∀ m m', m ∈ ms → m' ∈ ms → m.Name = m'.Name → m = m') {m0 : T_api_Machine} (hm0 : m0 ∈ ms) (h0 : whyV ms l l[x].Pod m0 = 0) (hf : feasP ms l) : feasP ms (l.set x ⟨l[x].Pod, m0.Name⟩) := by
  have hxm := List.getElem_mem h
  have e : l[x] = ⟨l[x].Pod, ⟨#[]⟩⟩ := by rw [← hx]
  have hp : l.Perm (restL l x ++ [⟨l[x].Pod, ⟨#[]⟩⟩]) := by
    have := rest_perm h
    rwa [e] at this
  have hs := set_perm h ⟨l[x].Pod, m0.Name⟩
  have toE : ∀ {q m}, q.Spread.length = 0 → m ∈ ms → whyV ms l q m = 0 → whyV ms (restL l x) q m = 0 := fun {q m} hq hm hw => (why_pend (p := l[x].Pod) hq (hne m hm)).1 (why_perm hp hq hw)
  have hndE : ((restL l x).map (·.Pod.Name)).Nodup ∧ ∀ b, b ∈ restL l x → b.Pod.Name ≠ l[x].Pod.Name := by
    have := (hp.map (·.Pod.Name)).nodup_iff.1 hnd
    rw [List.map_append, List.nodup_append] at this
    refine ⟨this.1, fun b hb q => ?_⟩
    exact this.2.2 b.Pod.Name (List.mem_map.2 ⟨b, hb, rfl⟩) l[x].Pod.Name (by simp) q
  have hrE : podsRight (restL l x) := fun b hb => hr b (rest_sub.subset hb)
  intro b hb m hm hme
  refine why_perm hs.symm ?_ ?_
  · rcases List.mem_append.1 (hs.mem_iff.1 hb) with hb | hb
    · exact hsp b (rest_sub.subset hb)
    · have : b = ⟨l[x].Pod, m0.Name⟩ := by simpa using hb
      rw [this]
      show l[x].Pod.Spread.length = 0
      exact hsp _ hxm
  · rcases List.mem_append.1 (hs.mem_iff.1 hb) with hb | hb
    · have hbl := rest_sub.subset hb
      have h1 := toE (hsp b hbl) hm (hf b hbl m hm hme)
      have h2 := toE (hsp _ hxm) hm0 h0
      exact why_put_other hndE.1 (needs_of hrE) (by have := (hr _ hxm).2; omega) hb (by have := (hr b hbl).2; omega) (hsp b hbl) hndE.2 hme (hne m hm) (fun q => hu m m0 hm hm0 q) h2 h1
    · have hbe : b = ⟨l[x].Pod, m0.Name⟩ := by simpa using hb
      rw [hbe] at hme ⊢
      have := hu m m0 hm hm0 hme
      subst this
      exact why_put_self (toE (hsp _ hxm) hm0 h0)

/-! what has changed -/
def cntD : List T_api_Bound → List T_api_Bound → Nat
  | a :: l, b :: m => (if a.On = b.On then 0 else 1) + cntD l m
  | _, _ => 0
theorem cntD_self : ∀ l : List T_api_Bound, cntD l l = 0
  | [] => rfl
  | a :: l => by rw [cntD, if_pos rfl, cntD_self l]
theorem cntD_set (l : List T_api_Bound) : ∀ (m : List T_api_Bound) (x : Nat) (v : T_api_Bound) (h : x < l.length) (h' : x < m.length), l[x].On = m[x].On → v.On ≠ m[x].On → cntD (l.set x v) m = cntD l m + 1 := by
  induction l with
  | nil => intro m x v h; simp at h
  | cons a l ih =>
    intro m x v h h' h1 h2
    cases m with
    | nil => simp at h'
    | cons b m =>
      cases x with
      | zero =>
        simp only [List.getElem_cons_zero] at h1 h2
        rw [List.set_cons_zero, cntD, cntD, if_neg h2, if_pos h1]; omega
      | succ x =>
        simp only [List.getElem_cons_succ] at h1 h2
        rw [List.set_cons_succ, cntD, cntD, ih m x v (by simpa using h) (by simpa using h') h1 h2]; omega
theorem cntD_le : ∀ l m : List T_api_Bound, cntD l m ≤ l.length
  | [], _ => by simp [cntD]
  | a :: l, [] => by simp [cntD]
  | a :: l, b :: m => by
    have := cntD_le l m
    rw [cntD, List.length_cons]
    split <;> omega

/-- What holds at each step. -/
structure SI (ms : List T_api_Machine) (bs out : List T_api_Bound) (mv : List T_api_Move) : Prop where
  len : out.length = bs.length
  pod : ∀ k (h : k < out.length) (h' : k < bs.length), out[k].Pod = bs[k].Pod
  old : ∀ k (h : k < out.length) (h' : k < bs.length), bs[k].On ≠ ⟨#[]⟩ → out[k].On = bs[k].On
  onm : ∀ k (h : k < out.length), out[k].On ≠ ⟨#[]⟩ → ∃ m, m ∈ ms ∧ m.Name = out[k].On
  cnt : mv.length = cntD out bs

theorem si_mem {ms : List T_api_Machine} {bs out : List T_api_Bound} {mv : List T_api_Move} (h : SI ms bs out mv) {P : T_api_Pod → Prop} (hb : ∀ b, b ∈ bs → P b.Pod) : ∀ b, b ∈ out → P b.Pod := fun b hbo => by
  obtain ⟨i, hi, rfl⟩ := List.getElem_of_mem hbo
  have hi' : i < bs.length := by rw [← h.len]; exact hi
  rw [h.pod i hi hi']
  exact hb _ (List.getElem_mem hi')

theorem si_set {ms : List T_api_Machine} {bs out : List T_api_Bound} {mv : List T_api_Move} (h : SI ms bs out mv) {x : Nat} (hx : x < out.length) (ho : out[x].On = ⟨#[]⟩) {m : T_api_Machine} (hm : m ∈ ms) (hne : m.Name ≠ ⟨#[]⟩) (v : T_api_Move) : SI ms bs (out.set x ⟨out[x].Pod, m.Name⟩) (mv ++ [v]) := by
  have hxb : x < bs.length := by rw [← h.len]; exact hx
  have hbx : bs[x].On = ⟨#[]⟩ := by
    by_cases e : bs[x].On = ⟨#[]⟩
    · exact e
    · have := h.old x hx hxb e
      rw [ho] at this
      exact this.symm
  refine ⟨by rw [List.length_set]; exact h.len, fun k hk hk' => ?_, fun k hk hk' hne' => ?_, fun k hk hne' => ?_, ?_⟩
  · rw [List.getElem_set]
    split
    · rename_i e; subst e; exact h.pod x hx hxb
    · exact h.pod k (by simpa using hk) hk'
  · rw [List.getElem_set]
    split
    · rename_i e; subst e; exact absurd hbx hne'
    · exact h.old k (by simpa using hk) hk' hne'
  · rw [List.getElem_set] at hne' ⊢
    split
    · exact ⟨m, hm, rfl⟩
    · rename_i e
      rw [if_neg e] at hne'
      exact h.onm k (by simpa using hk) hne'
  · rw [cntD_set out bs x _ hx hxb (by rw [ho, hbx]) (by rw [hbx]; exact hne), List.length_append, h.cnt]; rfl

/-- The loop of a step. -/
theorem step_loop {ms : List T_api_Machine} {bs : List T_api_Bound} (hl : ms.length ≤ 400) (hbl : bs.length ≤ 400) (hms : ∀ m, m ∈ ms → LM m) (hn : (ms.map (·.Name)).Nodup) (hne : ∀ m, m ∈ ms → m.Name ≠ ⟨#[]⟩) (hb : ∀ b, b ∈ bs → LP b.Pod) (J : List T_api_Bound → List T_api_Move → List Int → Prop)
    (hJ : ∀ (x : Nat) (l : List Int) (out : List T_api_Bound) (mv : List T_api_Move) (hx : x < out.length), SI ms bs out mv → out[x].On = ⟨#[]⟩ → (x : Int) ∉ l → J out mv ((x : Int) :: l) → (okM ms out out[x].Pod = [] → J out mv l) ∧ (∀ m0, m0 ∈ ms → whyV ms out out[x].Pod m0 = 0 → m0.Name = bestV ms out out[x].Pod → J (out.set x ⟨out[x].Pod, m0.Name⟩) (mv ++ [⟨out[x].Pod.Name, m0.Name⟩]) l)) :
    ∀ (l : List Int) (k : Nat) (out : List T_api_Bound) (mv : List T_api_Move), l.Nodup → (∀ x, x ∈ l → ∃ i : Nat, x = (i : Int) ∧ ∃ h : i < out.length, out[i].On = ⟨#[]⟩) → SI ms bs out mv → J out mv l →
      ∃ out' mv', sched_Step.l1 ms l k out mv = some (out', mv') ∧ SI ms bs out' mv' ∧ J out' mv' [] := by
  intro l
  induction l with
  | nil => intro k out mv _ _ hs hj; exact ⟨out, mv, rfl, hs, hj⟩
  | cons x l ih =>
    intro k out mv hnd hx hs hj
    rw [List.nodup_cons] at hnd
    obtain ⟨i, rfl, hi, ho⟩ := hx x (List.mem_cons_self ..)
    have hol : out.length ≤ 400 := by rw [hs.len]; exact hbl
    have hlp := si_mem hs (P := LP) hb
    have hcl := cntD_le out bs
    rw [sched_Step.l1, glk hi]
    simp only [Option.bind_some]
    rw [best_P hl hol hms hn hlp (hlp _ (List.getElem_mem hi))]
    simp only [Option.bind_some, seq_eq]
    obtain ⟨j1, j2⟩ := hJ i l out mv hi hs ho hnd.1 hj
    rcases bestL_mem (scoreV out out[i].Pod) (okM ms out out[i].Pod) (fun m h => hne m (List.mem_filter.1 h).1) with ⟨e1, e2⟩ | ⟨m, e1, e2, e3⟩
    · have hbe : bestV ms out out[i].Pod = ⟨#[]⟩ := e2
      rw [if_neg (by simp [hbe])]
      exact ih (k + 1) out mv hnd.2 (fun y hy => hx y (List.mem_cons_of_mem _ hy)) hs (j1 e1)
    · have hbe : ¬ bestV ms out out[i].Pod = ⟨#[]⟩ := e3
      have hbn : m.Name = bestV ms out out[i].Pod := e2
      have hm := List.mem_filter.1 e1
      have hw : whyV ms out out[i].Pod m = 0 := by simpa using hm.2
      have hmv : mv.length ≤ 400 := by rw [hs.cnt]; omega
      rw [if_pos (by simpa using hbe), ap_ok (by omega) (by simp; omega)]
      simp only [Option.bind_some]
      rw [← hbn, show ((i : Int)).toNat = i by omega]
      refine ih (k + 1) _ _ hnd.2 (fun y hy => ?_) (si_set hs hi ho hm.1 (hne m hm.1) _) (j2 m hm.1 hw hbn)
      obtain ⟨i', rfl, hi', ho'⟩ := hx y (List.mem_cons_of_mem _ hy)
      refine ⟨i', rfl, by simpa using hi', ?_⟩
      rw [List.getElem_set]
      split
      · rename_i e; subst e; exact absurd hy hnd.1
      · exact ho'

theorem Step_ok {ms : List T_api_Machine} {bs : List T_api_Bound} (hl : ms.length ≤ 400) (hbl : bs.length ≤ 400) (hms : ∀ m, m ∈ ms → LM m) (hn : (ms.map (·.Name)).Nodup) (hne : ∀ m, m ∈ ms → m.Name ≠ ⟨#[]⟩) (hb : ∀ b, b ∈ bs → LP b.Pod) (hon : ∀ k (h : k < bs.length), bs[k].On ≠ ⟨#[]⟩ → ∃ m, m ∈ ms ∧ m.Name = bs[k].On) (J : List T_api_Bound → List T_api_Move → List Int → Prop)
    (hJ : ∀ (x : Nat) (l : List Int) (out : List T_api_Bound) (mv : List T_api_Move) (hx : x < out.length), SI ms bs out mv → out[x].On = ⟨#[]⟩ → (x : Int) ∉ l → J out mv ((x : Int) :: l) → (okM ms out out[x].Pod = [] → J out mv l) ∧ (∀ m0, m0 ∈ ms → whyV ms out out[x].Pod m0 = 0 → m0.Name = bestV ms out out[x].Pod → J (out.set x ⟨out[x].Pod, m0.Name⟩) (mv ++ [⟨out[x].Pod.Name, m0.Name⟩]) l))
    (h0 : ∀ r : List Int, sched_Order bs = some r → r.Perm (pendL bs 0) → J bs [] r) : ∃ out mv, sched_Step ms bs = some (out, mv) ∧ SI ms bs out mv ∧ J out mv [] := by
  unfold sched_Step
  obtain ⟨r, h1, h2, h3⟩ := Order_ok (bs := bs) hbl
  rw [ap_ok (by omega) (by simp; omega), h1]
  simp only [Option.bind_some, List.nil_append]
  have hmem : ∀ x, x ∈ r → ∃ i : Nat, x = (i : Int) ∧ ∃ h : i < bs.length, bs[i].On = ⟨#[]⟩ := fun x hx => by
    have hx' := h2.mem_iff.1 hx
    have hge := pendL_ge bs 0 x hx'
    obtain ⟨i, rfl⟩ : ∃ i : Nat, x = (i : Int) := ⟨x.toNat, by omega⟩
    have := (pendL_mem bs 0 i).1 (by rw [Nat.zero_add]; exact hx')
    exact ⟨i, rfl, this⟩
  have hnd : r.Nodup := h2.nodup_iff.2 ((pendL_inc bs 0).imp (fun h e => by omega))
  obtain ⟨out, mv, s1, s2, s3⟩ := step_loop hl hbl hms hn hne hb J hJ r 0 bs [] hnd hmem ⟨rfl, fun _ _ _ => rfl, fun _ _ _ _ => rfl, hon, by rw [cntD_self]; rfl⟩ (h0 r h1 h2)
  rw [s1]
  exact ⟨out, mv, rfl, s2, s3⟩
end Go.Proofs.YtbkdglcedgiogaaGreat.M

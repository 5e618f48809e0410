/-
  Printed by a program of this session out of the loaded functions: models and their proofs. Own text.
-/
import Derived.Test.YtmpkpnclmihdnaaGreatPPut
/-
  Plain laws: the same pods, in another order; a pod that is put stays feasible. Own text.
-/
namespace Go.Proofs.YtmpkpnclmihdnaaGreat.M
open Go Go.Proofs Go.Proofs.YtmpkpnclmihdnaaGreat.V
set_option linter.unusedVariables false

/-! the same pods, in another order -/
theorem total_perm {l m : List T_api_Pod} (h : l.Perm m) : total l = total m := by
  induction h with
  | nil => rfl
  | cons x _ ih => rw [total, total, ih]
  | swap x y l =>
    rw [total, total, total, total, ← radd_assoc, ← radd_assoc]
    congr 1
    unfold radd
    congr 1 <;> omega
  | trans _ _ ih1 ih2 => rw [ih1, ih2]
theorem needs_perm {l m : List T_api_Pod} (h : l.Perm m) : needsOK l = needsOK m := by
  unfold needsOK
  rw [Bool.eq_iff_iff, List.all_eq_true, List.all_eq_true]
  exact ⟨fun a x hx => a x (h.mem_iff.2 hx), fun a x hx => a x (h.mem_iff.1 hx)⟩
theorem used_perm {l m : List T_api_Pod} (h : l.Perm m) : usedS l = usedS m := by
  unfold usedS; rw [needs_perm h, total_perm h]
theorem on_perm {bs cs : List T_api_Bound} (h : bs.Perm cs) (n k : ByteArray) : (onS (othersS bs n) k).Perm (onS (othersS cs n) k) := by
  unfold onS othersS
  exact ((h.filter _).filter _).map _
theorem why_perm {ms : List T_api_Machine} {bs cs : List T_api_Bound} (h : bs.Perm cs) {q : T_api_Pod} (hq : q.Spread.length = 0) {m : T_api_Machine} (hw : whyV ms bs q m = 0) : whyV ms cs q m = 0 := by
  rw [whyV_zero] at hw ⊢
  obtain ⟨h1, h2, h3, h4⟩ := hw
  refine ⟨h1, ?_, ?_, many_none _ _ _ _ hq⟩
  · rw [roomS_zero] at h2 ⊢
    have hp := on_perm h q.Name m.Name
    rw [← used_perm hp]
    exact ⟨h2.1, h2.2.1, h2.2.2.1, fun x hx => h2.2.2.2 x (hp.mem_iff.2 hx)⟩
  · unfold nearB at h3 ⊢
    rw [List.any_eq_false] at h3 ⊢
    exact fun x hx => h3 x (h.mem_iff.2 hx)
/-- A pod that pends is not seen. -/
theorem on_pend {bs : List T_api_Bound} {p : T_api_Pod} {n k : ByteArray} (hk : k ≠ ⟨#[]⟩) : onS (othersS (bs ++ [⟨p, ⟨#[]⟩⟩]) n) k = onS (othersS bs n) k := by
  unfold onS othersS
  rw [List.filter_append, List.filter_append, List.map_append]
  have : (List.filter (fun b : T_api_Bound => decide (b.On = k)) (List.filter (fun b : T_api_Bound => decide (b.Pod.Name ≠ n)) [⟨p, ⟨#[]⟩⟩])) = [] := by
    rw [List.filter_eq_nil_iff]
    intro b hb
    have hb' : b = ⟨p, ⟨#[]⟩⟩ := by simpa using (List.mem_filter.1 hb).1
    rw [hb']
    simpa using fun e => hk e.symm
  rw [this]
  simp
theorem near_pend {zs : List (ByteArray × ByteArray)} {bs : List T_api_Bound} {p q : T_api_Pod} {k : ByteArray} : nearB zs (bs ++ [⟨p, ⟨#[]⟩⟩]) q k = nearB zs bs q k := by
  unfold nearB
  rw [List.any_append]
  simp [nearQ, seq_eq]
theorem why_pend {ms : List T_api_Machine} {bs : List T_api_Bound} {p q : T_api_Pod} (hq : q.Spread.length = 0) {m : T_api_Machine} (hm : m.Name ≠ ⟨#[]⟩) : whyV ms (bs ++ [⟨p, ⟨#[]⟩⟩]) q m = 0 ↔ whyV ms bs q m = 0 := by
  rw [whyV_zero, whyV_zero, roomS_zero, roomS_zero, on_pend hm, near_pend, many_none _ _ _ _ hq, many_none _ _ _ _ hq]

/-! a pod, put where it pended -/
def restL (l : List T_api_Bound) (x : Nat) : List T_api_Bound := l.take x ++ l.drop (x + 1)
theorem rest_perm {l : List T_api_Bound} {x : Nat} (h : x < l.length) : l.Perm (restL l x ++ [l[x]]) := by
  unfold restL
  have e : l = l.take x ++ l[x] :: l.drop (x + 1) := by rw [← List.drop_eq_getElem_cons h, List.take_append_drop]
  have h1 : (l.take x ++ l[x] :: l.drop (x + 1)).Perm (l[x] :: (l.take x ++ l.drop (x + 1))) := List.perm_middle
  have h2 : (l[x] :: (l.take x ++ l.drop (x + 1))).Perm ((l.take x ++ l.drop (x + 1)) ++ [l[x]]) := (List.perm_append_comm (l₁ := [l[x]]))
  have h3 := h1.trans h2
  rw [← e] at h3
  exact h3
theorem set_perm {l : List T_api_Bound} {x : Nat} (h : x < l.length) (v : T_api_Bound) : (l.set x v).Perm (restL l x ++ [v]) := by
  unfold restL
  rw [List.set_eq_take_append_cons_drop, if_pos h]
  exact List.perm_middle.trans (List.perm_append_comm (l₁ := [v]))
theorem rest_sub {l : List T_api_Bound} {x : Nat} : (restL l x).Sublist l := fewer_sub l x

def podsRight (l : List T_api_Bound) : Prop := ∀ b, b ∈ l → resOK b.Pod.Need = true ∧ b.Pod.Need.Pods = 1
theorem needs_of {l : List T_api_Bound} (h : podsRight l) (n k : ByteArray) : needsOK (onS (othersS l n) k) = true := by
  unfold needsOK
  rw [List.all_eq_true]
  intro q hq
  unfold onS othersS at hq
  obtain ⟨b, h1, rfl⟩ := List.mem_map.1 hq
  exact (h b (List.mem_filter.1 (List.mem_filter.1 h1).1).1).1

/-- More that is bound leaves no more possible. -/
theorem why_before {ms : List T_api_Machine} {l : List T_api_Bound} {x : Nat} (h : x < l.length) (hx : l[x].On = ⟨#[]⟩) (hr : podsRight l) {n : ByteArray} {q : T_api_Pod} (hq : q.Spread.length = 0) (hqn : q.Need.Pods = 1) {m : T_api_Machine} (hm : m.Name ≠ ⟨#[]⟩) (hw : whyV ms (l.set x ⟨l[x].Pod, n⟩) q m = 0) : whyV ms l q m = 0 := by
  have h1 := why_perm (set_perm h ⟨l[x].Pod, n⟩) hq hw
  have hr' : podsRight (restL l x ++ [⟨l[x].Pod, n⟩]) := fun b hb => by
    rcases List.mem_append.1 hb with hb | hb
    · exact hr b (rest_sub.subset hb)
    · have : b = ⟨l[x].Pod, n⟩ := by simpa using hb
      rw [this]
      show resOK l[x].Pod.Need = true ∧ l[x].Pod.Need.Pods = 1
      exact hr _ (List.getElem_mem h)
  have h2 := why_fewer (List.sublist_append_left (restL l x) [⟨l[x].Pod, n⟩]) (needs_of hr') (by omega) hq h1
  have h3 := (why_pend (p := l[x].Pod) hq hm).2 h2
  have hp := (rest_perm h).symm
  have e : l[x] = (⟨l[x].Pod, ⟨#[]⟩⟩ : T_api_Bound) := by rw [← hx]
  have hp' : (restL l x ++ [(⟨l[x].Pod, ⟨#[]⟩⟩ : T_api_Bound)]).Perm l := by rwa [e] at hp
  exact why_perm hp' hq h3

def feasP (ms : List T_api_Machine) (l : List T_api_Bound) : Prop := ∀ b, b ∈ l → ∀ m, m ∈ ms → m.Name = b.On → whyV ms l b.Pod m = 0
theorem feas_put {ms : List T_api_Machine} {l : List T_api_Bound} {x : Nat} (h : x < l.length) (hx : l[x].On = ⟨#[]⟩) (hr : podsRight l) (hsp : ∀ b, b ∈ l → b.Pod.Spread.length = 0) (hnd : (l.map (·.Pod.Name)).Nodup) (hne : ∀ m, m ∈ ms → m.Name ≠ ⟨#[]⟩)
    (hu : ∀ m m', m ∈ ms → m' ∈ ms → m.Name = m'.Name → m = m') {m0 : T_api_Machine} (hm0 : m0 ∈ ms) (h0 : whyV ms l l[x].Pod m0 = 0) (hf : feasP ms l) : feasP ms (l.set x ⟨l[x].Pod, m0.Name⟩) := by
  have hxm := List.getElem_mem h
  have e : l[x] = ⟨l[x].Pod, ⟨#[]⟩⟩ := by rw [← hx]
  have hp : l.Perm (restL l x ++ [⟨l[x].Pod, ⟨#[]⟩⟩]) := by
    have := rest_perm h
    rwa [e] at this
  have hs := set_perm h ⟨l[x].Pod, m0.Name⟩
  have toE : ∀ {q m}, q.Spread.length = 0 → m ∈ ms → whyV ms l q m = 0 → whyV ms (restL l x) q m = 0 := fun {q m} hq hm hw => (why_pend (p := l[x].Pod) hq (hne m hm)).1 (why_perm hp hq hw)
  have hndE : ((restL l x).map (·.Pod.Name)).Nodup ∧ ∀ b, b ∈ restL l x → b.Pod.Name ≠ l[x].Pod.Name := by
    have := (hp.map (·.Pod.Name)).nodup_iff.1 hnd
    rw [List.map_append, List.nodup_append] at this
    refine ⟨this.1, fun b hb q => ?_⟩
    exact this.2.2 b.Pod.Name (List.mem_map.2 ⟨b, hb, rfl⟩) l[x].Pod.Name (by simp) q
  have hrE : podsRight (restL l x) := fun b hb => hr b (rest_sub.subset hb)
  intro b hb m hm hme
  refine why_perm hs.symm ?_ ?_
  · rcases List.mem_append.1 (hs.mem_iff.1 hb) with hb | hb
    · exact hsp b (rest_sub.subset hb)
    · have : b = ⟨l[x].Pod, m0.Name⟩ := by simpa using hb
      rw [this]
      show l[x].Pod.Spread.length = 0
      exact hsp _ hxm
  · rcases List.mem_append.1 (hs.mem_iff.1 hb) with hb | hb
    · have hbl := rest_sub.subset hb
      have h1 := toE (hsp b hbl) hm (hf b hbl m hm hme)
      have h2 := toE (hsp _ hxm) hm0 h0
      exact why_put_other hndE.1 (needs_of hrE) (by have := (hr _ hxm).2; omega) hb (by have := (hr b hbl).2; omega) (hsp b hbl) hndE.2 hme (hne m hm) (fun q => hu m m0 hm hm0 q) h2 h1
    · have hbe : b = ⟨l[x].Pod, m0.Name⟩ := by simpa using hb
      rw [hbe] at hme ⊢
      have := hu m m0 hm hm0 hme
      subst this
      exact why_put_self (toE (hsp _ hxm) hm0 h0)

/-! what has changed -/
end Go.Proofs.YtmpkpnclmihdnaaGreat.M
/-
  Plain laws: where a pod can be. Own text.
-/
namespace Go.Proofs.YtmpkpnclmihdnaaGreat.M
open Go Go.Proofs Go.Proofs.YtmpkpnclmihdnaaGreat.V
set_option linter.unusedVariables false
set_option maxRecDepth 20000
set_option maxHeartbeats 4000000

theorem where_V {ms : List T_api_Machine} {bs : List T_api_Bound} {p : T_api_Pod} (hl : ms.length ≤ 1000) (hn : bs.length ≤ 1000) (hms : ∀ m, m ∈ ms → LM m) (hb : ∀ b, b ∈ bs → LP b.Pod) (hp : LP p) :
    fit_Where ms bs p = some ((ms.filter fun m => decide (whyV ms bs p m = 0)).map (·.Name)) := by
  unfold fit_Where fit_each_fit_asker_why_fit_Where_1
  have key : ∀ (l : List T_api_Machine) (k : Nat) (acc : List ByteArray), (∀ m, m ∈ l → m ∈ ms) → l.length + acc.length ≤ 1000 → fit_each_fit_asker_why_fit_Where_1.l1 ⟨ms, bs, p⟩ l k acc = some (acc ++ (l.filter fun m => decide (whyV ms bs p m = 0)).map (·.Name)) := by
    intro l
    induction l with
    | nil => intro k acc _ _; simp [fit_each_fit_asker_why_fit_Where_1.l1]
    | cons x l ih =>
      intro k acc hx h
      rw [List.length_cons] at h
      have hxm := hx x (List.mem_cons_self ..)
      rw [fit_each_fit_asker_why_fit_Where_1.l1, asker_V hl hn hxm (hms x hxm) hp hb]
      simp only [Option.bind_some]
      unfold fit_Where_1
      by_cases e : whyV ms bs p x = 0
      · rw [if_pos (by simpa using e), ap_ok (by omega) (by simp; omega)]
        simp only [Option.bind_some]
        rw [ih (k + 1) _ (fun m hm => hx m (List.mem_cons_of_mem _ hm)) (by simp; omega), List.filter_cons_of_pos (by simpa using e)]
        simp
      · rw [if_neg (by simpa using e)]
        simp only [Option.bind_some]
        rw [ih (k + 1) _ (fun m hm => hx m (List.mem_cons_of_mem _ hm)) (by omega), List.filter_cons_of_neg (by simpa using e)]
  rw [key ms 0 [] (fun _ h => h) (by simpa using hl)]
  rfl
end Go.Proofs.YtmpkpnclmihdnaaGreat.M
/-
  Plain laws: which taints are borne. Own text.
-/
namespace Go.Proofs.YtmpkpnclmihdnaaGreat.M
open Go Go.Proofs Go.Proofs.YtmpkpnclmihdnaaGreat.V
set_option linter.unusedVariables false

def bearB (t : T_api_Toleration) (x : T_api_Taint) : Bool := ((decide (t.Effect = 0) || decide (t.Effect = x.Effect)) && (decide (t.Key = ⟨#[]⟩) || decide (t.Key = x.Key))) && (t.Any || decide (t.Val = x.Val))
theorem tbear_eq (t : T_api_Toleration) (x : T_api_Taint) : taints_Bears t x = some (bearB t x) := by
  unfold taints_Bears bearB
  simp only [seq_eq]
  by_cases a : t.Effect = 0 <;> by_cases b : t.Effect = x.Effect <;> by_cases c : t.Key = ⟨#[]⟩ <;> by_cases d : t.Key = x.Key <;> simp [a, b, c, d]
def borneB (l : List T_api_Toleration) (x : T_api_Taint) : Bool := l.any fun t => bearB t x
theorem borne_eq (l : List T_api_Toleration) (x : T_api_Taint) : taints_borne l x = some (borneB l x) := by
  unfold taints_borne borneB
  have key : ∀ (l : List T_api_Toleration) (k : Nat), taints_borne.l1 x l k = some (if (l.any fun t => bearB t x) = true then Out.ret true else Out.go ()) := by
    intro l
    induction l with
    | nil => intro k; rfl
    | cons t l ih =>
      intro k
      rw [taints_borne.l1, ih, List.any_cons, tbear_eq]
      cases bearB t x <;> rfl
  rw [key]
  cases l.any fun t => bearB t x <;> rfl
theorem Unborne_eq (l : List T_api_Toleration) (ts : List T_api_Taint) (e : Int) (h : ts.length ≤ 1000) : taints_Unborne l ts e = some (ts.filter fun x => (decide (e = 0) || decide (x.Effect = e)) && !borneB l x) := by
  unfold taints_Unborne taints_some_taints_Unborne_1
  have key : ∀ (ts : List T_api_Taint) (k : Nat) (acc : List T_api_Taint), ts.length + acc.length ≤ 1000 → taints_some_taints_Unborne_1.l1 e l ts k acc = some (acc ++ ts.filter fun x => (decide (e = 0) || decide (x.Effect = e)) && !borneB l x) := by
    intro ts
    induction ts with
    | nil => intro k acc _; simp [taints_some_taints_Unborne_1.l1]
    | cons x ts ih =>
      intro k acc h
      rw [List.length_cons] at h
      have hq : taints_Unborne_1 x e l = some ((decide (e = 0) || decide (x.Effect = e)) && !borneB l x) := by
        unfold taints_Unborne_1 taints_of
        rw [borne_eq]
        by_cases a : e = 0 <;> by_cases b : x.Effect = e <;> simp [a, b]
      rw [taints_some_taints_Unborne_1.l1, hq]
      simp only [Option.bind_some]
      cases hc : ((decide (e = 0) || decide (x.Effect = e)) && !borneB l x) with
      | true =>
        rw [if_pos rfl, ap_ok (by omega) (by simp; omega)]
        simp only [Option.bind_some]
        rw [ih (k + 1) _ (by simp; omega)]
        simp only [List.filter_cons, hc, if_true]
        simp
      | false =>
        rw [if_neg (by simp), ih (k + 1) _ (by omega)]
        simp only [List.filter_cons, hc, Bool.false_eq_true, if_false]
  rw [key ts 0 [] (by simpa using h)]
  rfl
end Go.Proofs.YtmpkpnclmihdnaaGreat.M

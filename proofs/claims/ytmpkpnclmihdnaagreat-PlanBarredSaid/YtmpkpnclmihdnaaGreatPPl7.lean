/-
  Printed by a program of this session out of the loaded functions: models and their proofs. Own text.
-/
import Derived.Test.YtmpkpnclmihdnaaGreatPPl5
import Derived.Test.YtmpkpnclmihdnaaGreatPRef4
/-
  Plain laws of the plan: plans for several machines, told alike. Own text.
-/
namespace Go.Proofs.YtmpkpnclmihdnaaGreat.M
open Go Go.Proofs Go.Proofs.YtmpkpnclmihdnaaGreat.V
open Go.IntKind (i64)
set_option linter.unusedVariables false
set_option maxRecDepth 20000

def putM (now : List T_api_Bound) (v : T_api_Move) : List T_api_Bound :=
  if h : plcN now v.Pod < now.length then now.set (plcN now v.Pod) ⟨now[plcN now v.Pod].Pod, v.To⟩ else now
def putAll (now : List T_api_Bound) (l : List T_api_Move) : List T_api_Bound := l.foldl putM now
def manyL (ms : List T_api_Machine) (L : List T_api_Budget) (most : Int) : List ByteArray → List T_api_Bound → List T_api_Plan → List ByteArray → List ByteArray → List T_api_Plan × List T_api_Bound
  | [], now, plans, barred, goals => (plans, now)
  | x :: l, now, plans, barred, goals =>
    if (plans.length : Int) ≥ most then (plans, now)
    else if (mB x barred || mB x goals) = true then manyL ms L most l now plans barred goals
    else if whyE L now x ≠ 0 then manyL ms L most l now plans barred goals
    else match oneS ms now x barred with
      | none => manyL ms L most l now plans barred goals
      | some r => manyL ms L most l (putAll now r.1) (plans ++ [⟨x, r.1⟩]) (barred ++ [x]) (goals ++ r.1.map (·.To))

theorem put_pods (now : List T_api_Bound) (v : T_api_Move) : (putM now v).map (·.Pod) = now.map (·.Pod) := by
  unfold putM
  split
  · rename_i h
    rw [List.map_set]
    apply List.ext_getElem (by simp)
    intro i h1 h2
    rw [List.getElem_set]
    split
    · rename_i e; subst e; simp
    · rfl
  · rfl
theorem putAll_pods : ∀ (l : List T_api_Move) (now : List T_api_Bound), (putAll now l).map (·.Pod) = now.map (·.Pod)
  | [], _ => rfl
  | v :: l, now => (putAll_pods l (putM now v)).trans (put_pods now v)
theorem plc_found {bs : List T_api_Bound} {name : ByteArray} (h : name ∈ bs.map (·.Pod.Name)) : plcN bs name < bs.length := by
  obtain ⟨b, hb, e⟩ := List.mem_map.1 h
  exact List.findIdx_lt_length_of_exists ⟨b, hb, by simpa using e⟩
theorem names_of {a b : List T_api_Bound} (h : a.map (·.Pod) = b.map (·.Pod)) : a.map (·.Pod.Name) = b.map (·.Pod.Name) := by
  have := congrArg (List.map fun p : T_api_Pod => p.Name) h
  rw [List.map_map, List.map_map] at this
  exact this
theorem pods_of {a b : List T_api_Bound} (h : a.map (·.Pod) = b.map (·.Pod)) {Q : T_api_Pod → Prop} (hb : ∀ x, x ∈ b → Q x.Pod) : ∀ x, x ∈ a → Q x.Pod := fun x hx => by
  have : x.Pod ∈ b.map (·.Pod) := h ▸ List.mem_map.2 ⟨x, hx, rfl⟩
  obtain ⟨y, hy, e⟩ := List.mem_map.1 this
  exact e ▸ hb y hy
theorem len_of {a b : List T_api_Bound} (h : a.map (·.Pod) = b.map (·.Pod)) : a.length = b.length := by
  have := congrArg List.length h
  simpa using this

theorem oneL_pods {ms : List T_api_Machine} {barred : List ByteArray} : ∀ (l : List T_api_Pod) (now : List T_api_Bound) (mv : List T_api_Move) (r : List T_api_Move × List T_api_Bound), oneL ms barred l now mv = some r → r.1.map (·.Pod) = mv.map (·.Pod) ++ l.map (·.Name)
  | [], now, mv, r, h => by
    simp only [oneL, Option.some.injEq] at h; subst h; simp
  | p :: l, now, mv, r, h => by
    rw [oneL] at h
    split at h
    · cases h
    · rw [oneL_pods l _ _ r h]; simp
theorem oneS_pods {ms : List T_api_Machine} {bs : List T_api_Bound} {name : ByteArray} {barred : List ByteArray} {r : List T_api_Move × List T_api_Bound} (h : oneS ms bs name barred = some r) : r.1.map (·.Pod) = (movS bs name).map (·.Name) := by
  unfold oneS at h
  split at h
  · exact oneL_pods _ _ _ _ h
  · cases h
theorem mov_names {bs : List T_api_Bound} {n : ByteArray} {p : T_api_Pod} (h : p ∈ movS bs n) : p.Name ∈ bs.map (·.Pod.Name) := by
  obtain ⟨_, b, hb, _, rfl⟩ := movS_mem.1 h
  exact List.mem_map.2 ⟨b, hb, rfl⟩

/-- The loop that puts the moves, of the program and of the document. -/
theorem put_loop {F : Nat → List T_api_Bound → List ByteArray → Int → Option (List T_api_Bound × List ByteArray)} {l : List T_api_Move}
    (hs : ∀ n now g (k : Nat) (hk : k < l.length), now.length ≤ 400 → g.length ≤ 1500 → plcN now l[k].Pod < now.length → F (n + 1) now g (k : Int) = F n (putM now l[k]) (g ++ [l[k].To]) ((k + 1 : Nat) : Int))
    (he : ∀ n now g, F (n + 1) now g (l.length : Int) = some (now, g)) :
    ∀ (m k f : Nat) (now : List T_api_Bound) (g : List ByteArray), l.length - k ≤ m → m < f → k ≤ l.length → now.length ≤ 400 → g.length + (l.length - k) ≤ 1500 → (∀ v, v ∈ l → v.Pod ∈ now.map (·.Pod.Name)) → F f now g (k : Int) = some (putAll now (l.drop k), g ++ (l.drop k).map (·.To)) := by
  intro m
  induction m with
  | zero =>
    intro k f now g h1 h2 h3 _ _ _
    obtain ⟨f, rfl⟩ : ∃ q, f = q + 1 := ⟨f - 1, by omega⟩
    obtain rfl : k = l.length := by omega
    rw [he, List.drop_length]; simp [putAll]
  | succ m ih =>
    intro k f now g h1 h2 h3 h4 h5 h6
    obtain ⟨f, rfl⟩ : ∃ q, f = q + 1 := ⟨f - 1, by omega⟩
    by_cases hk : k < l.length
    · have hp := put_pods now l[k]
      rw [hs f now g k hk h4 (by omega) (plc_found (h6 _ (List.getElem_mem hk))), ih (k + 1) f _ _ (by omega) (by omega) (by omega) (by rw [len_of hp]; exact h4) (by simp; omega) (fun v hv => by rw [names_of hp]; exact h6 v hv), List.drop_eq_getElem_cons hk]
      simp only [putAll, List.foldl_cons, List.map_cons, List.append_assoc, List.singleton_append]
    · obtain rfl : k = l.length := by omega
      rw [he, List.drop_length]; simp [putAll]

theorem l2_P (r : List T_api_Move × Bool) {now : List T_api_Bound} {g : List ByteArray} (h1 : now.length ≤ 400) (h2 : g.length + r.1.length ≤ 1500) (h3 : ∀ v, v ∈ r.1 → v.Pod ∈ now.map (·.Pod.Name)) :
    plan_Many.l2 r FU now g 0 = some (putAll now r.1, g ++ r.1.map (·.To)) := by
  have := put_loop (F := fun n now g i => plan_Many.l2 r n now g i) (l := r.1) (fun n now g k hk a b c => by
    rw [plan_Many.l2, if_pos (dlt hk), glk hk, wk1 (by omega)]
    simp only [Option.bind_some]
    rw [Place_P _ _ (by omega), plc_pos c]
    simp only [Option.bind_some]
    rw [glk c, ap_ok (by omega) (by simp; omega)]
    simp only [Option.bind_some]
    unfold putM
    rw [dif_pos c]
    rfl) (fun n now g => by rw [plan_Many.l2, if_neg dnl]) r.1.length 0 FU now g (by omega) (by unfold FU; omega) (Nat.zero_le _) h1 (by omega) h3
  simpa using this
theorem l2_R (r : List T_api_Move × Bool) {now : List T_api_Bound} {g : List ByteArray} (h1 : now.length ≤ 400) (h2 : g.length + r.1.length ≤ 1500) (h3 : ∀ v, v ∈ r.1 → v.Pod ∈ now.map (·.Pod.Name)) :
    ref26_Many.l2 r FU now g 0 = some (putAll now r.1, g ++ r.1.map (·.To)) := by
  have := put_loop (F := fun n now g i => ref26_Many.l2 r n now g i) (l := r.1) (fun n now g k hk a b c => by
    rw [ref26_Many.l2, if_pos (dlt hk), glk hk, wk1 (by omega)]
    simp only [Option.bind_some]
    rw [Place_R _ _ (by omega), plc_pos c]
    simp only [Option.bind_some]
    rw [glk c, ap_ok (by omega) (by simp; omega)]
    simp only [Option.bind_some]
    unfold putM
    rw [dif_pos c]
    rfl) (fun n now g => by rw [ref26_Many.l2, if_neg dnl]) r.1.length 0 FU now g (by omega) (by unfold FU; omega) (Nat.zero_le _) h1 (by omega) h3
  simpa using this

/-- What the guard gives. -/
structure PC (ms : List T_api_Machine) (bs : List T_api_Bound) (L : List T_api_Budget) : Prop where
  nm : ms.length ≤ 20
  nb : bs.length ≤ 40
  nl : L.length ≤ 30
  gm : ∀ m, m ∈ ms → GM m
  gb : ∀ b, b ∈ bs → GP b.Pod
  gl : ∀ b, b ∈ L → GB b
  mu : (ms.map (·.Name)).Nodup
  bu : (bs.map (·.Pod.Name)).Nodup

theorem Many_P {ms : List T_api_Machine} {bs : List T_api_Bound} {L : List T_api_Budget} (h : PC ms bs L) {names : List ByteArray} (hn : names.length ≤ 20) (most : Int) :
    plan_Many ms bs L names most = some (manyL ms L most names bs [] [] []) := by
  unfold plan_Many
  have hbl := h.nb
  have hml := h.nm
  rw [ap_ok (by omega) (by simp; omega)]
  simp only [Option.bind_some, List.nil_append]
  have key : ∀ (l : List ByteArray) (k : Nat) (now : List T_api_Bound) (plans : List T_api_Plan) (barred goals : List ByteArray), now.map (·.Pod) = bs.map (·.Pod) → plans.length + l.length ≤ 20 → barred.length = plans.length → goals.length ≤ 40 * plans.length →
      plan_Many.l1 ms L most l k now plans barred goals = some ((manyL ms L most l now plans barred goals).2, (manyL ms L most l now plans barred goals).1) := by
    intro l
    induction l with
    | nil => intro k now plans barred goals _ _ _ _; rfl
    | cons x l ih =>
      intro k now plans barred goals h1 h2 h3 h4
      rw [List.length_cons] at h2
      have hlen := len_of h1
      rw [plan_Many.l1, manyL]
      by_cases e1 : (plans.length : Int) ≥ most
      · rw [if_pos (by simpa using e1), if_pos e1]
      · rw [if_neg (by simpa using e1), if_neg e1]
        unfold plan_Many_1
        rw [among_P]
        simp only [Option.bind_some]
        rw [show (if mB x barred = true then some true else (plan_among goals x).bind fun r2 => some r2) = some (mB x barred || mB x goals) by rw [among_P]; cases mB x barred <;> rfl]
        simp only [Option.bind_some]
        cases e2 : mB x barred || mB x goals with
        | true =>
          simp only [if_true, Option.bind_some]
          exact ih (k + 1) _ _ _ _ h1 (by omega) h3 h4
        | false =>
          obtain ⟨s, hw⟩ := Why_P h.gl (bs := now) (by omega) x
          simp only [Bool.false_eq_true, if_false, hw, Option.bind_some]
          by_cases e3 : whyE L now x = 0
          · rw [if_neg (by simpa using e3), if_neg (by simpa using e3), One_P x barred (by omega) (by omega) (fun m hm => (h.gm m hm).lm) h.mu (fun b hb => (pods_of h1 h.gb b hb).lp) (names_of h1 ▸ h.bu)]
            simp only [Option.bind_some]
            cases e4 : oneS ms now x barred with
            | none =>
              simp only [ansO, Bool.not_false, if_true]
              exact ih (k + 1) _ _ _ _ h1 (by omega) h3 h4
            | some r =>
              have hp := oneS_pods e4
              have hrl : r.1.length ≤ 40 := by
                have := congrArg List.length hp
                simp only [List.length_map] at this
                have h5 := movS_len now x
                have h6 := onS_len now x
                omega
              have hrm : ∀ v, v ∈ r.1 → v.Pod ∈ now.map (·.Pod.Name) := fun v hv => by
                have : v.Pod ∈ r.1.map (·.Pod) := List.mem_map.2 ⟨v, hv, rfl⟩
                rw [hp] at this
                obtain ⟨p, hpm, e⟩ := List.mem_map.1 this
                exact e ▸ mov_names hpm
              simp only [ansO, Bool.not_true, Bool.false_eq_true, if_false]
              rw [l2_P (r.1, true) (by omega) (show goals.length + r.1.length ≤ 1500 by omega) hrm]
              simp only [Option.bind_some]
              rw [ap_ok (by omega) (by simp; omega)]
              simp only [Option.bind_some]
              rw [ap_ok (by omega) (by simp; omega)]
              simp only [Option.bind_some]
              exact ih (k + 1) _ _ _ _ ((putAll_pods _ _).trans h1) (by simp; omega) (by simp [h3]) (by simp; omega)
          · rw [if_pos (by simpa using e3), if_pos (by simpa using e3)]
            simp only [Option.bind_some, Bool.not_false, if_true]
            exact ih (k + 1) _ _ _ _ h1 (by omega) h3 h4
  rw [key names 0 bs [] [] [] rfl (by simpa using hn) rfl (by simp)]
  rfl

theorem Many_R {ms : List T_api_Machine} {bs : List T_api_Bound} {L : List T_api_Budget} (h : PC ms bs L) {names : List ByteArray} (hn : names.length ≤ 20) (most : Int) :
    ref26_Many ms bs L names most = some (manyL ms L most names bs [] [] []) := by
  unfold ref26_Many
  have hbl := h.nb
  have hml := h.nm
  rw [ap_ok (by omega) (by simp; omega)]
  simp only [Option.bind_some, List.nil_append]
  have key : ∀ (m k f : Nat) (now : List T_api_Bound) (plans : List T_api_Plan) (barred goals : List ByteArray), names.length - k ≤ m → m < f → k ≤ names.length → now.map (·.Pod) = bs.map (·.Pod) → plans.length ≤ k → barred.length = plans.length → goals.length ≤ 40 * plans.length →
      ref26_Many.l1 ms L names most f now plans barred goals (k : Int) = some ((manyL ms L most (names.drop k) now plans barred goals).2, (manyL ms L most (names.drop k) now plans barred goals).1) := by
    intro m
    induction m with
    | zero =>
      intro k f now plans barred goals h1 h2 h3 _ _ _ _
      obtain ⟨f, rfl⟩ : ∃ q, f = q + 1 := ⟨f - 1, by omega⟩
      rw [ref26_Many.l1, if_neg (by simp; omega), List.drop_eq_nil_of_le (by omega)]; rfl
    | succ m ih =>
      intro k f now plans barred goals h1 h2 h3 h4 h5 h6 h7
      obtain ⟨f, rfl⟩ : ∃ q, f = q + 1 := ⟨f - 1, by omega⟩
      by_cases hk : k < names.length
      · have hlen := len_of h4
        rw [ref26_Many.l1, dlt hk, Bool.true_and, List.drop_eq_getElem_cons hk, manyL]
        by_cases e1 : (plans.length : Int) ≥ most
        · rw [if_neg (by simpa using e1), if_pos e1]
        · rw [if_pos (by simpa using e1), if_neg e1, glk hk, wk1 (by omega)]
          simp only [Option.bind_some]
          obtain ⟨r0, _, f1, f2⟩ := find_c (ms := ms) names[k] (by omega)
          rw [among_R _ (by omega), among_R _ (by omega), f1]
          simp only [Option.bind_some]
          rw [show (if mB names[k] barred = true then some true else some (mB names[k] goals)) = some (mB names[k] barred || mB names[k] goals) by cases mB names[k] barred <;> rfl]
          simp only [Option.bind_some]
          cases e2 : mB names[k] barred || mB names[k] goals with
          | true =>
            simp only [if_true, Option.bind_some]
            exact ih (k + 1) f _ _ _ _ (by omega) (by omega) (by omega) h4 (by omega) h6 h7
          | false =>
            obtain ⟨s, hw⟩ := Why_R h.nl h.gl (bs := now) (by omega) (pods_of h4 h.gb) names[k]
            simp only [Bool.false_eq_true, if_false, hw, Option.bind_some]
            have hone := One_R names[k] (barred := barred) (by omega) (show ms.length ≤ 400 by omega) (show now.length ≤ 400 by omega) h.gm h.mu (pods_of h4 h.gb) (names_of h4 ▸ h.bu)
            by_cases e5 : r0 < 0
            · have : oneS ms now names[k] barred = none := by unfold oneS; rw [mB_not.2 (f2.1 e5)]; rfl
              rw [if_pos (by simpa using e5), this]
              simp only [ite_self]
              exact ih (k + 1) f _ _ _ _ (by omega) (by omega) (by omega) h4 (by omega) h6 h7
            · rw [if_neg (by simpa using e5), hone]
              simp only [Option.bind_some]
              by_cases e3 : whyE L now names[k] = 0
              · rw [if_neg (show ¬ whyE L now names[k] ≠ 0 by simpa using e3), e3]
                cases e4 : oneS ms now names[k] barred with
                | none =>
                  simp only [ansO]
                  exact ih (k + 1) f _ _ _ _ (by omega) (by omega) (by omega) h4 (by omega) h6 h7
                | some r =>
                  have hp := oneS_pods e4
                  have hrl : r.1.length ≤ 40 := by
                    have := congrArg List.length hp
                    simp only [List.length_map] at this
                    have h5 := movS_len now names[k]
                    have h6 := onS_len now names[k]
                    omega
                  have hrm : ∀ v, v ∈ r.1 → v.Pod ∈ now.map (·.Pod.Name) := fun v hv => by
                    have : v.Pod ∈ r.1.map (·.Pod) := List.mem_map.2 ⟨v, hv, rfl⟩
                    rw [hp] at this
                    obtain ⟨p, hpm, e⟩ := List.mem_map.1 this
                    exact e ▸ mov_names hpm
                  rw [if_neg (show ¬ ((s, (0 : Int)).2 != 0 || !(ansO (some r)).2) = true by simp [ansO])]
                  simp only [ansO]
                  rw [l2_R (r.1, true) (by omega) (show goals.length + r.1.length ≤ 1500 by omega) hrm]
                  simp only [Option.bind_some]
                  rw [ap_ok (by omega) (by simp; omega)]
                  simp only [Option.bind_some]
                  rw [ap_ok (by omega) (by simp; omega)]
                  simp only [Option.bind_some]
                  exact ih (k + 1) f _ _ _ _ (by omega) (by omega) (by omega) ((putAll_pods _ _).trans h4) (by simp; omega) (by simp [h6]) (by simp; omega)
              · rw [if_pos (by simp [e3]), if_pos (show whyE L now names[k] ≠ 0 from e3)]
                exact ih (k + 1) f _ _ _ _ (by omega) (by omega) (by omega) h4 (by omega) h6 h7
      · rw [ref26_Many.l1, if_neg (by simp; omega), List.drop_eq_nil_of_le (by omega)]; rfl
  rw [show (0 : Int) = ((0 : Nat) : Int) from rfl, key names.length 0 FU bs [] [] [] (by omega) (by unfold FU; omega) (Nat.zero_le _) rfl (Nat.le_refl _) rfl (by simp), List.drop_zero]
  rfl
end Go.Proofs.YtmpkpnclmihdnaaGreat.M
/- Plain law: what is shown of a pod ends, whatever it is; a pod, a machine, and a yard are the same as themselves. Own work. -/
namespace Go.Proofs.YtmpkpnclmihdnaaGreat.M
open Go Go.Proofs Go.Proofs.YtmpkpnclmihdnaaGreat.V
open Go.IntKind (i64)
set_option linter.unusedVariables false
set_option maxRecDepth 20000
set_option maxHeartbeats 4000000

def isB (o : Option ByteArray) (n : Nat) : Prop := ∃ r, o = some r ∧ r.size ≤ n
theorem isB.s {o : Option ByteArray} {n : Nat} (h : isB o n) : isS o := by obtain ⟨r, h, _⟩ := h; exact ⟨r, h⟩
theorem isB.mono {o : Option ByteArray} {n m : Nat} (h : isB o n) (k : n ≤ m) : isB o m := by obtain ⟨r, h, j⟩ := h; exact ⟨r, h, by omega⟩
theorem isB.bind {α : Type} {o : Option α} {f : α → Option ByteArray} {n : Nat} (h : isS o) (k : ∀ x, o = some x → isB (f x) n) : isB (o.bind f) n := by obtain ⟨x, rfl⟩ := h; exact k x rfl
theorem isB.bindB {o : Option ByteArray} {f : ByteArray → Option ByteArray} {n m : Nat} (h : isB o m) (k : ∀ x : ByteArray, x.size ≤ m → isB (f x) n) : isB (o.bind f) n := by obtain ⟨x, rfl, e⟩ := h; exact k x e
theorem isB.ite {c : Prop} [Decidable c] {a b : Option ByteArray} {n : Nat} (h : c → isB a n) (k : ¬c → isB b n) : isB (if c then a else b) n := by
  split
  · exact h ‹_›
  · exact k ‹_›
theorem isB.pure {x : ByteArray} {n : Nat} (h : x.size ≤ n) : isB (some x) n := ⟨x, rfl, h⟩
theorem isB.cat {s t : ByteArray} {f : ByteArray → Option ByteArray} {n i j : Nat} (hs : s.size ≤ i) (ht : t.size ≤ j) (hb : i + j ≤ 1000000000) (k : ∀ r : ByteArray, r.size ≤ i + j → isB (f r) n) : isB ((V.cat s t).bind f) n := by
  unfold V.cat; rw [if_pos (by unfold maxLen; omega)]
  exact k _ (by rw [ByteArray.size_append]; omega)
theorem isB.on {o : Option (Out ByteArray Unit)} {f : Unit → Option ByteArray} {n : Nat} (h : ∃ x, o = Option.some x ∧ ∀ r, x = Out.ret r → r.size ≤ n) (k : isB (f ()) n) : isB (o.bind fun x => x.on f) n := by
  obtain ⟨x, rfl, h⟩ := h
  cases x with
  | ret r => exact ⟨r, rfl, h r rfl⟩
  | go u => exact k

/-- A loop that lengthens a text. -/
theorem isB.loop {α : Type} {F : Nat → ByteArray → Int → Option ByteArray} {l : List α} (c : Nat) (hl : l.length ≤ 1000)
    (hs : ∀ n (k : Nat) (hk : k < l.length) (s : ByteArray) (b : Nat), s.size ≤ b → b + c ≤ 100000000 → (∀ r : ByteArray, r.size ≤ b + c → isB (F n r (((k : Nat) : Int) + 1)) (b + c + (l.length - (k + 1)) * c)) → isB (F (n + 1) s (k : Int)) (b + c + (l.length - (k + 1)) * c))
    (he : ∀ n s, F (n + 1) s (l.length : Int) = some s) : ∀ {s : ByteArray} {b : Nat}, s.size ≤ b → b + l.length * c ≤ 100000000 → isB (F FU s 0) (b + l.length * c) := by
  have key : ∀ (m k n : Nat) (s : ByteArray) (b : Nat), l.length - k ≤ m → m < n → k ≤ l.length → s.size ≤ b → b + (l.length - k) * c ≤ 100000000 → isB (F n s (k : Int)) (b + (l.length - k) * c) := by
    intro m
    induction m with
    | zero =>
      intro k n s b h1 h2 h3 h4 _
      obtain ⟨n, rfl⟩ : ∃ n', n = n' + 1 := ⟨n - 1, by omega⟩
      have : k = l.length := by omega
      subst this
      rw [he]; exact ⟨s, rfl, by omega⟩
    | succ m ih =>
      intro k n s b h1 h2 h3 h4 h5
      obtain ⟨n, rfl⟩ : ∃ n', n = n' + 1 := ⟨n - 1, by omega⟩
      by_cases hk : k < l.length
      · have e : l.length - k = (l.length - (k + 1)) + 1 := by omega
        have e2 : (l.length - k) * c = c + (l.length - (k + 1)) * c := by rw [e, Nat.add_mul]; omega
        rw [e2, ← Nat.add_assoc]
        refine hs n k hk s b h4 (by have : 0 ≤ (l.length - (k + 1)) * c := Nat.zero_le _; omega) fun r hr => ?_
        have := ih (k + 1) n r (b + c) (by omega) (by omega) (by omega) hr (by omega)
        exact this
      · have : k = l.length := by omega
        subst this
        rw [he]; exact ⟨s, rfl, by omega⟩
  intro s b h1 h2
  have := key l.length 0 FU s b (by omega) (by unfold FU; omega) (by omega) h1 (by omega)
  simpa using this

theorem numsz (x : Int) : (strOfNums [x]).size = 1 := rfl
theorem digits_B : ∀ (d f : Nat) (n : Int), n < (10 : Int) ^ (d + 1) → n < 9223372036854775808 → d < f → d < 1000 → isB (ref01_Digits f n) (d + 1) := by
  intro d
  induction d with
  | zero =>
    intro f n h1 _ h2 _
    obtain ⟨f, rfl⟩ : ∃ n', f = n' + 1 := ⟨f - 1, by omega⟩
    rw [ref01_Digits, if_pos (by simp only [decide_eq_true_eq]; omega)]
    exact ⟨_, rfl, by rw [numsz]; omega⟩
  | succ d ih =>
    intro f n h1 h3 h2 h4
    obtain ⟨f, rfl⟩ : ∃ n', f = n' + 1 := ⟨f - 1, by omega⟩
    rw [ref01_Digits]
    refine isB.ite (fun _ => ⟨_, rfl, by rw [numsz]; omega⟩) fun hn => ?_
    have hn : 10 ≤ n := by simpa using hn
    have hq : V.quo n 10 = some (n / 10) := by unfold V.quo; rw [if_neg (by omega), Int.tdiv_eq_ediv_of_nonneg (by omega)]
    have hr : V.rem n 10 = some (n % 10) := by unfold V.rem; rw [if_neg (by omega), Int.tmod_eq_emod_of_nonneg (by omega)]
    rw [hq, hr]
    simp only [Option.bind_some]
    have e : (10 : Int) ^ (d + 1 + 1) = 10 * (10 : Int) ^ (d + 1) := by rw [Int.pow_succ]; omega
    rw [w_eq (by omega) (by omega)]
    refine isB.bindB (ih f _ (by omega) (by omega) (by omega) (by omega)) fun r hr => ?_
    exact isB.cat (j := 1) hr (by rw [numsz]; omega) (by omega) fun r hr => ⟨r, rfl, by omega⟩
theorem wlt (n : Int) : i64.wrap n < 9223372036854775808 := by rw [IntKind.wrap_i64]; omega
theorem Digits_B (n : Int) : isB (ref01_Digits FU n) 21 := by
  obtain ⟨f, hf⟩ : ∃ f, FU = f + 30 := ⟨1152921504606846946, rfl⟩
  rw [hf]
  by_cases hn : n < 10
  · exact (digits_B 0 (f + 30) n (by omega) (by omega) (by omega) (by omega)).mono (by omega)
  · rw [ref01_Digits, if_neg (by simpa using hn)]
    have hq : V.quo n 10 = some (n / 10) := by unfold V.quo; rw [if_neg (by omega), Int.tdiv_eq_ediv_of_nonneg (by omega)]
    have hr : V.rem n 10 = some (n % 10) := by unfold V.rem; rw [if_neg (by omega), Int.tmod_eq_emod_of_nonneg (by omega)]
    rw [hq, hr]
    simp only [Option.bind_some]
    refine isB.bindB (digits_B 19 (f + 29) _ (by have := wlt (n / 10); omega) (wlt _) (by omega) (by omega)) fun r hr => ?_
    exact isB.cat (j := 1) hr (by rw [numsz]; omega) (by omega) fun r hr => ⟨r, rfl, by omega⟩
theorem lit1 {k : Nat} {a : Array UInt8} (k0 : (a.size).ble k = true) : (ByteArray.mk a).size ≤ k := Nat.le_of_ble_eq_true k0
theorem Milli_B (n : Int) : isB (ref03_ShowMilli n) 30 := by
  unfold ref03_ShowMilli
  refine isB.ite (fun _ => ⟨_, rfl, lit1 rfl⟩) fun hn => ?_
  refine isB.bind ⟨_, rfl⟩ fun v _ => isB.ite (fun _ => ?_) fun _ => ?_
  · exact isB.bind ⟨_, rfl⟩ fun v _ => isB.bindB (Digits_B _) fun r hr => ⟨r, rfl, by omega⟩
  · exact isB.bindB (Digits_B _) fun r hr => isB.cat hr (lit1 (k := 1) rfl) (by omega) fun r hr => ⟨r, rfl, by omega⟩
theorem show3_step (n v : Int) (hv : v ≠ 0) (x : ByteArray) (hx : x.size ≤ 2) (rest : Option (Out ByteArray Unit)) :
    (∃ r, ((if decide (n > 0) = true then (V.rem n v).bind fun v2 => some (v2 == 0) else some false).bind fun c => if c = true then (V.quo n v).bind fun v3 => (some x : Option ByteArray).bind fun x => (ref01_Digits FU (i64.wrap v3)).bind fun r => (V.cat r x).bind fun v4 => some (Out.ret v4) else rest) = some (Out.ret r) ∧ r.size ≤ 30) ∨
    (((if decide (n > 0) = true then (V.rem n v).bind fun v2 => some (v2 == 0) else some false).bind fun c => if c = true then (V.quo n v).bind fun v3 => (some x : Option ByteArray).bind fun x => (ref01_Digits FU (i64.wrap v3)).bind fun r => (V.cat r x).bind fun v4 => some (Out.ret v4) else rest) = rest ∧ True) := by
  obtain ⟨c, hc⟩ : isS (if decide (n > 0) = true then (V.rem n v).bind fun v2 => some (v2 == 0) else some false) := T.ite (fun _ => T.bind ⟨_, by unfold V.rem; rw [if_neg hv]⟩ fun _ _ => ⟨_, rfl⟩) fun _ => ⟨_, rfl⟩
  rw [hc]
  simp only [Option.bind_some]
  cases c with
  | false => exact .inr ⟨rfl, trivial⟩
  | true =>
    left
    obtain ⟨r, h1, h2⟩ := Digits_B (i64.wrap (n.tdiv v))
    refine ⟨r ++ x, ?_, by rw [ByteArray.size_append]; omega⟩
    rw [if_pos rfl, show V.quo n v = some (n.tdiv v) by unfold V.quo; rw [if_neg hv]]
    simp only [Option.bind_some]
    rw [h1]
    simp only [Option.bind_some]
    unfold V.cat
    rw [if_pos (by unfold maxLen; omega)]
    rfl
theorem Show3_B (n : Int) : isB (ref03_Show n) 30 := by
  unfold ref03_Show
  refine isB.ite (fun _ => ⟨_, rfl, lit1 rfl⟩) fun hn => isB.on ?_ (isB.bindB (Digits_B _) fun r hr => ⟨r, rfl, by omega⟩)
  rcases loopI (F := fun f i => ref03_Show.l1 n f i) (Q := fun r => r.size ≤ 30) (S := fun k => True) (len := 4) (by omega) (fun f k hk => by
      rw [ref03_Show.l1, if_pos (by simp; omega), wk1 (by omega)]
      rcases (by omega : k = 0 ∨ k = 1 ∨ k = 2 ∨ k = 3) with rfl | rfl | rfl | rfl
      · exact show3_step n 1099511627776 (by omega) _ (lit1 rfl) _
      · exact show3_step n 1073741824 (by omega) _ (lit1 rfl) _
      · exact show3_step n 1048576 (by omega) _ (lit1 rfl) _
      · exact show3_step n 1024 (by omega) _ (lit1 rfl) _) (fun f => by rw [ref03_Show.l1, if_neg (by simp)]) with ⟨r, h1, h2⟩ | ⟨h1, _⟩
  · exact ⟨_, h1, fun r' e => by injection e with e; rw [← e]; exact h2⟩
  · exact ⟨_, h1, fun r' e => by cases e⟩

theorem atom_B {s : ByteArray} {n : Nat} (h : s.size ≤ n) (h2 : 2 ≤ n) : isB (ref07_atom s) n := by
  unfold ref07_atom
  exact isB.ite (fun _ => ⟨_, rfl, Nat.le_trans (lit1 (k := 2) rfl) h2⟩) fun _ => ⟨_, rfl, h⟩
theorem number_B (name : ByteArray) (h : name.size ≤ 20) (n : Int) : isB (ref07_number name n) 100 := by
  unfold ref07_number
  refine isB.ite (fun _ => ⟨_, rfl, lit1 rfl⟩) fun _ => ?_
  exact isB.cat (lit1 (k := 2) rfl) h (by omega) fun r hr => isB.cat hr (lit1 (k := 1) rfl) (by omega) fun r hr => isB.bindB (Digits_B n) fun d hd => isB.cat hr hd (by omega) fun r hr => isB.cat hr (lit1 (k := 1) rfl) (by omega) fun r hr => ⟨r, rfl, by omega⟩
theorem flag_B (name : ByteArray) (h : name.size ≤ 20) (b : Bool) : isB (ref07_flag name b) 100 := by
  unfold ref07_flag
  refine isB.ite (fun _ => ?_) fun _ => ⟨_, rfl, lit1 rfl⟩
  exact isB.cat (lit1 (k := 1) rfl) h (by omega) fun r hr => ⟨r, rfl, by omega⟩
theorem pairs_B (name : ByteArray) (h : name.size ≤ 20) {l : List T_api_Label} (hl : LL l) : isB (ref07_pairs name l) 40000 := by
  unfold ref07_pairs
  have hn := hl.1
  have := isB.loop (F := fun f s i => ref07_pairs.l1 name l f s i) (l := l) 700 (by omega) (fun n k hk s b hs hb c => by
      rw [ref07_pairs.l1, if_pos (dlt hk)]
      obtain ⟨h1, h2⟩ := hl.2 k hk
      refine isB.cat hs (lit1 (k := 2) rfl) (by omega) fun r hr => isB.cat hr h (by omega) fun r hr => isB.cat hr (lit1 (k := 1) rfl) (by omega) fun r hr => ?_
      rw [glk hk]
      simp only [Option.bind_some]
      refine isB.cat hr h1 (by omega) fun r hr => isB.cat hr (lit1 (k := 1) rfl) (by omega) fun r hr => isB.bindB (atom_B h2 (by omega)) fun a ha => isB.cat hr ha (by omega) fun r hr => isB.cat hr (lit1 (k := 1) rfl) (by omega) fun r hr => ?_
      rw [w_eq (by omega) (by omega)]
      exact c r (by omega)) (fun n s => by rw [ref07_pairs.l1, if_neg dnl]) (s := ⟨#[]⟩) (b := 0) (lit1 rfl) (by omega)
  exact isB.bindB (this.mono (by omega)) fun r hr => ⟨r, rfl, hr⟩

/-- A right pod's tolerations have known effects. -/
theorem bears_of {l : List T_api_Toleration} (hl : LB l) (h : ref06_RightBears l = some true) : ∀ k (hk : k < l.length), 0 ≤ l[k].Effect ∧ l[k].Effect ≤ 3 := by
  have hn := hl.1
  unfold ref06_RightBears at h
  split at h
  · cases h
  rcases loopI (F := fun n i => ref06_RightBears.l1 l n i) (Q := fun r => r = false) (S := fun k => ∀ hk : k < l.length, 0 ≤ l[k].Effect ∧ l[k].Effect ≤ 3) (len := l.length) (by omega) (fun n k hk => by
      rw [ref06_RightBears.l1, if_pos (dlt hk), glk hk, wk1 (by omega)]
      simp only [Option.bind_some]
      obtain ⟨c, hc⟩ : isS (if (!true) = true then some true else some false) := ⟨_, rfl⟩
      obtain ⟨a, ha⟩ := maybe6_tot (hl.2 k hk).1
      obtain ⟨b, hb⟩ := maybe6_tot (hl.2 k hk).2
      rw [ha, hb]
      simp only [Option.bind_some]
      cases a with
      | false => exact .inl ⟨false, rfl, rfl⟩
      | true =>
        cases b with
        | false => exact .inl ⟨false, rfl, rfl⟩
        | true =>
          simp only [Bool.not_true, Bool.false_eq_true, if_false, Option.bind_some]
          unfold ref06_effect
          by_cases he : l[k].Effect = 0
          · rw [show (l[k].Effect != 0) = false by simp [he]]
            simp only [Bool.false_eq_true, if_false, Option.bind_some, Bool.false_or]
            cases ((l[k].Any && !V.seq l[k].Val ⟨#[]⟩) || (V.seq l[k].Key ⟨#[]⟩ && !l[k].Any))
            · exact .inr ⟨rfl, fun _ => by omega⟩
            · exact .inl ⟨false, rfl, rfl⟩
          · rw [show (l[k].Effect != 0) = true by simp [he]]
            simp only [if_true, Option.bind_some]
            by_cases h1 : l[k].Effect ≥ 1 ∧ l[k].Effect ≤ 3
            · rw [decide_eq_true h1.1, decide_eq_true h1.2]
              simp only [Bool.and_self, Bool.not_true, Bool.false_or]
              cases ((l[k].Any && !V.seq l[k].Val ⟨#[]⟩) || (V.seq l[k].Key ⟨#[]⟩ && !l[k].Any))
              · exact .inr ⟨rfl, fun _ => by omega⟩
              · exact .inl ⟨false, rfl, rfl⟩
            · rw [show (decide (l[k].Effect ≥ 1) && decide (l[k].Effect ≤ 3)) = false by rw [← Bool.decide_and]; exact decide_eq_false h1]
              exact .inl ⟨false, rfl, rfl⟩) (fun n => by rw [ref06_RightBears.l1, if_neg dnl]) with ⟨r, h1, h2⟩ | ⟨h1, h2⟩
  · rw [h1, h2] at h; cases h
  · exact fun k hk => h2 k hk hk

theorem bears7 {p : T_api_Pod} (hp : LP p) (h : ref07_RightPod p = some true) : ref06_RightBears p.Bears = some true := by
  unfold ref07_RightPod at h
  obtain ⟨_, _, h⟩ := Option.bind_eq_some_iff.1 h
  obtain ⟨_, _, h⟩ := Option.bind_eq_some_iff.1 h
  obtain ⟨_, _, h⟩ := Option.bind_eq_some_iff.1 h
  obtain ⟨_, _, h⟩ := Option.bind_eq_some_iff.1 h
  split at h
  · cases h
  obtain ⟨o, ho, h⟩ := Option.bind_eq_some_iff.1 h
  cases o with
  | ret r =>
    exfalso
    have hn := hp.nterms
    simp only [Out.on, Option.some.injEq] at h
    rcases loopI (F := fun n i => ref07_RightPod.l1 p n i) (Q := fun r => r = false) (S := fun k => True) (len := p.Terms.length) (by omega) (fun n k hk => by
        rw [ref07_RightPod.l1, if_pos (dlt hk), glk hk, wk1 (by omega)]
        simp only [Option.bind_some]
        obtain ⟨b, hb⟩ := Term5_tot (hp.terms k hk)
        rw [hb]
        cases b with
        | false => exact .inl ⟨false, rfl, rfl⟩
        | true => exact .inr ⟨rfl, trivial⟩) (fun n => by rw [ref07_RightPod.l1, if_neg dnl]) with ⟨r', h1, h2⟩ | ⟨h1, _⟩
    · rw [h1] at ho
      injection ho with ho
      injection ho with ho
      rw [← ho, h2] at h
      cases h
    · rw [h1] at ho; cases ho
  | go u =>
    simp only [Out.on] at h
    obtain ⟨o, ho, h⟩ := Option.bind_eq_some_iff.1 h
    cases o with
    | ret r =>
      exfalso
      have hn := hp.nports
      simp only [Option.some.injEq] at h
      rcases loopI (F := fun n i => ref07_RightPod.l2 p n i) (Q := fun r => r = false) (S := fun k => True) (len := p.Ports.length) (by omega) (fun n k hk => by
          rw [ref07_RightPod.l2, if_pos (dlt hk), glk hk, wk1 (by omega)]
          simp only [Option.bind_some, ref07_in]
          by_cases h0 : 0 < k
          · have h0' : (decide ((k : Int) > 0)) = true := by simp; omega
            simp only [h0', if_true, glp hk h0 (by omega), Option.bind_some]
            cases (decide (p.Ports[k] ≥ (1 : Int)) && decide (p.Ports[k] ≤ (65535 : Int)))
            · exact .inl ⟨false, rfl, rfl⟩
            · by_cases hle : p.Ports[k] ≤ p.Ports[k - 1]
              · rw [decide_eq_true hle]; exact .inl ⟨false, rfl, rfl⟩
              · rw [decide_eq_false hle]; exact .inr ⟨rfl, trivial⟩
          · have h0' : (decide ((k : Int) > 0)) = false := by simp; omega
            simp only [h0', Bool.false_eq_true, if_false, Option.bind_some]
            cases (decide (p.Ports[k] ≥ (1 : Int)) && decide (p.Ports[k] ≤ (65535 : Int)))
            · exact .inl ⟨false, rfl, rfl⟩
            · exact .inr ⟨rfl, trivial⟩) (fun n => by rw [ref07_RightPod.l2, if_neg dnl]) with ⟨r', h1, h2⟩ | ⟨h1, _⟩
      · rw [h1] at ho
        injection ho with ho
        injection ho with ho
        rw [← ho, h2] at h
        cases h
      · rw [h1] at ho; cases ho
    | go u =>
      simp only at h
      obtain ⟨_, _, h⟩ := Option.bind_eq_some_iff.1 h
      split at h
      · cases h
      obtain ⟨_, _, h⟩ := Option.bind_eq_some_iff.1 h
      obtain ⟨_, _, h⟩ := Option.bind_eq_some_iff.1 h
      obtain ⟨_, _, h⟩ := Option.bind_eq_some_iff.1 h
      obtain ⟨_, _, h⟩ := Option.bind_eq_some_iff.1 h
      obtain ⟨c, hc, h⟩ := Option.bind_eq_some_iff.1 h
      simp only [Option.some.injEq] at h
      subst h
      split at hc
      · obtain ⟨d, hd, hc⟩ := Option.bind_eq_some_iff.1 hc
        simp only [Option.some.injEq] at hc
        rw [hd, hc]
      · cases hc

theorem ShowPod_B {p : T_api_Pod} (h : LP p) : isB (ref07_ShowPod p) 10000000 := by
  have hnt := h.nterms
  have hnp := h.nports
  have hnb := h.bears.1
  obtain ⟨b, hb⟩ := RPod_tot h
  unfold ref07_ShowPod
  rw [hb]
  cases b with
  | false => exact ⟨_, rfl, lit1 rfl⟩
  | true =>
    have hg := gp_of h hb
    have hbe := bears_of h.bears (bears7 h hb)
    rw [Option.bind_some, if_neg (by decide)]
    refine isB.cat (lit1 (k := 100) rfl) h.name (by omega) fun r hr => isB.cat hr (lit1 (k := 100) rfl) (by omega) fun r hr => ?_
    refine isB.bindB (Milli_B _) fun d hd => isB.cat hr hd (by omega) fun r hr => isB.cat hr (lit1 (k := 100) rfl) (by omega) fun r hr => ?_
    refine isB.bindB (Show3_B _) fun d hd => isB.cat hr hd (by omega) fun r hr => isB.cat hr (lit1 (k := 100) rfl) (by omega) fun r hr => ?_
    refine isB.bindB (Show3_B _) fun d hd => isB.cat hr hd (by omega) fun r hr => isB.cat hr (lit1 (k := 100) rfl) (by omega) fun r hr => ?_
    refine isB.bindB (Digits_B _) fun d hd => isB.cat hr hd (by omega) fun r hr => isB.cat hr (lit1 (k := 100) rfl) (by omega) fun r hr => ?_
    refine isB.bindB (pairs_B _ (lit1 rfl) h.labels) fun d hd => isB.cat hr hd (by omega) fun r hr => ?_
    refine isB.bindB (pairs_B _ (lit1 rfl) h.select) fun d hd => isB.cat hr hd (by omega) fun r hr => ?_
    refine isB.bindB (pairs_B _ (lit1 rfl) h.apart) fun d hd => isB.cat hr hd (by omega) fun r hr => ?_
    have hr1 : r.size ≤ 200000 := by omega
    refine isB.bindB (m := 1000000) ?_ fun r hr => ?_
    · refine (isB.loop (F := fun f s i => ref07_ShowPod.l1 p f s i) (l := p.Terms) 20000 (by omega) (fun n k hk s b hs hb c => ?_) (fun n s => by rw [ref07_ShowPod.l1, if_neg dnl]) hr1 (by omega)).mono (by omega)
      obtain ⟨hv, hk1, hk2⟩ := h.terms k hk
      obtain ⟨ho, _⟩ := term_right (h.terms k hk) (hg.terms k hk)
      rw [ref07_ShowPod.l1, if_pos (dlt hk), glk hk, Option.bind_some]
      refine isB.cat hs (lit1 (k := 100) rfl) (by omega) fun r hr => isB.cat hr hk1 (by omega) fun r hr => isB.cat hr (lit1 (k := 100) rfl) (by omega) fun r hr => ?_
      rw [show ref07_ops = some _ from rfl, Option.bind_some]
      refine isB.bindB (m := 100) (by rcases ho with e | e | e | e | e | e <;> rw [e] <;> exact ⟨_, rfl, lit1 rfl⟩) fun d hd => isB.cat hr hd (by omega) fun r hr => ?_
      refine isB.bindB (m := b + 19000) ?_ fun r hr => isB.cat hr (lit1 (k := 100) rfl) (by omega) fun r hr => by rw [w_eq (by omega) (by omega)]; exact c r (by omega)
      refine ((isB.loop (F := fun f s i => ref07_ShowPod.l2 p.Terms[k] f s i) (l := p.Terms[k].Vals) 400 (by omega) (fun n j hj s b hs hb c => ?_) (fun n s => by rw [ref07_ShowPod.l2, if_neg dnl]) hr (by omega)).mono (by omega))
      rw [ref07_ShowPod.l2, if_pos (dlt hj)]
      refine isB.cat hs (lit1 (k := 10) rfl) (by omega) fun r hr => ?_
      rw [glk hj, Option.bind_some]
      refine isB.bindB (atom_B (hk2 j hj) (by omega)) fun d hd => isB.cat hr hd (by omega) fun r hr => by rw [w_eq (by omega) (by omega)]; exact c r (by omega)
    refine isB.bindB (m := 1200000) ?_ fun r hr => ?_
    · refine (isB.loop (F := fun f s i => ref07_ShowPod.l3 p f s i) (l := p.Bears) 2000 (by omega) (fun n k hk s b hs hb c => ?_) (fun n s => by rw [ref07_ShowPod.l3, if_neg dnl]) hr (by omega)).mono (by omega)
      obtain ⟨hk1, hk2⟩ := h.bears.2 k hk
      obtain ⟨e0, e3⟩ := hbe k hk
      rw [ref07_ShowPod.l3, if_pos (dlt hk), glk hk, Option.bind_some]
      have he : ∀ r : ByteArray, isB (V.gl ([(⟨#[97, 110, 121]⟩ : ByteArray), (⟨#[110, 111]⟩ : ByteArray), (⟨#[112, 114, 101, 102, 101, 114]⟩ : ByteArray), (⟨#[111, 117, 116]⟩ : ByteArray)]) p.Bears[k].Effect) 100 := fun _ => by
        rcases (by omega : p.Bears[k].Effect = 0 ∨ p.Bears[k].Effect = 1 ∨ p.Bears[k].Effect = 2 ∨ p.Bears[k].Effect = 3) with e | e | e | e <;> rw [e] <;> exact ⟨_, rfl, lit1 rfl⟩
      refine isB.ite (fun _ => ?_) fun _ => ?_
      · refine isB.cat hs (lit1 (k := 100) rfl) (by omega) fun r hr => isB.bindB (atom_B hk1 (by omega)) fun d hd => isB.cat hr hd (by omega) fun r hr => isB.cat hr (lit1 (k := 100) rfl) (by omega) fun r hr => ?_
        rw [show ref07_effects = some _ from rfl, Option.bind_some]
        refine isB.bindB (he r) fun d hd => isB.cat hr hd (by omega) fun r hr => isB.cat hr (lit1 (k := 100) rfl) (by omega) fun r hr => by rw [w_eq (by omega) (by omega)]; exact c r (by omega)
      · refine isB.cat hs (lit1 (k := 100) rfl) (by omega) fun r hr => isB.bindB (atom_B hk1 (by omega)) fun d hd => isB.cat hr hd (by omega) fun r hr => isB.cat hr (lit1 (k := 100) rfl) (by omega) fun r hr => isB.bindB (atom_B hk2 (by omega)) fun d hd => isB.cat hr hd (by omega) fun r hr => isB.cat hr (lit1 (k := 100) rfl) (by omega) fun r hr => ?_
        rw [show ref07_effects = some _ from rfl, Option.bind_some]
        refine isB.bindB (he r) fun d hd => isB.cat hr hd (by omega) fun r hr => isB.cat hr (lit1 (k := 100) rfl) (by omega) fun r hr => by rw [w_eq (by omega) (by omega)]; exact c r (by omega)
    refine isB.bindB (m := 1300000) ?_ fun r hr => ?_
    · refine (isB.loop (F := fun f s i => ref07_ShowPod.l4 p f s i) (l := p.Ports) 200 (by omega) (fun n k hk s b hs hb c => ?_) (fun n s => by rw [ref07_ShowPod.l4, if_neg dnl]) hr (by omega)).mono (by omega)
      rw [ref07_ShowPod.l4, if_pos (dlt hk), glk hk, Option.bind_some]
      refine isB.bindB (number_B _ (lit1 rfl) _) fun d hd => isB.cat hs hd (by omega) fun r hr => by rw [w_eq (by omega) (by omega)]; exact c r (by omega)
    refine isB.bindB (number_B _ (lit1 rfl) _) fun d hd => isB.cat hr hd (by omega) fun r hr => ?_
    refine isB.bindB (pairs_B _ (lit1 rfl) h.spread) fun d hd => isB.cat hr hd (by omega) fun r hr => ?_
    refine isB.bindB (number_B _ (lit1 rfl) _) fun d hd => isB.cat hr hd (by omega) fun r hr => ?_
    have tail : ∀ (r : ByteArray), r.size ≤ 2000000 → isB ((ref07_flag (⟨#[119, 105, 100, 101]⟩ : ByteArray) p.Wide).bind fun r20 => (V.cat r r20).bind fun v40 => (ref07_flag (⟨#[100, 97, 101, 109, 111, 110]⟩ : ByteArray) p.Daemon).bind fun r21 => (V.cat v40 r21).bind fun v41 => (ref07_flag (⟨#[112, 105, 110, 110, 101, 100]⟩ : ByteArray) p.Pinned).bind fun r22 => (V.cat v41 r22).bind fun v42 => (ref07_flag (⟨#[108, 111, 99, 97, 108]⟩ : ByteArray) p.Local).bind fun r23 => (V.cat v42 r23).bind fun v43 => (V.cat v43 (⟨#[41]⟩ : ByteArray)).bind fun v44 => some v44) 10000000 := fun r hr =>
      isB.bindB (flag_B _ (lit1 rfl) _) fun d hd => isB.cat hr hd (by omega) fun r hr => isB.bindB (flag_B _ (lit1 rfl) _) fun d hd => isB.cat hr hd (by omega) fun r hr => isB.bindB (flag_B _ (lit1 rfl) _) fun d hd => isB.cat hr hd (by omega) fun r hr => isB.bindB (flag_B _ (lit1 rfl) _) fun d hd => isB.cat hr hd (by omega) fun r hr => isB.cat hr (lit1 (k := 100) rfl) (by omega) fun r hr => ⟨r, rfl, by omega⟩
    refine isB.ite (fun _ => ?_) fun _ => tail r (by omega)
    exact isB.cat hr (lit1 (k := 100) rfl) (by omega) fun r hr => isB.cat hr h.owner (by omega) fun r hr => isB.cat hr (lit1 (k := 100) rfl) (by omega) fun r hr => tail r (by omega)

theorem SamePod_self {p : T_api_Pod} (h : LP p) : ref07_SamePod p p = some true := by
  unfold ref07_SamePod
  obtain ⟨r, hr, _⟩ := ShowPod_B h
  rw [hr]
  simp [seq_eq]
theorem Same9_self {bs : List T_api_Bound} (hn : bs.length ≤ 1000) (h : ∀ b, b ∈ bs → LP b.Pod) : ref09_Same [] bs [] bs = some true := by
  unfold ref09_Same
  rw [if_neg (by simp)]
  rw [show ref09_Same.l1 [] [] FU 0 = some (Out.go ()) from rfl]
  simp only [Option.bind_some, Out.on]
  rcases loopI (F := fun n i => ref09_Same.l2 bs bs n i) (Q := fun r => False) (S := fun k => True) (len := bs.length) (by omega) (fun n k hk => by
      rw [ref09_Same.l2, if_pos (dlt hk), glk hk, wk1 (by omega)]
      simp only [Option.bind_some, seq_eq]
      rw [SamePod_self (h _ (List.getElem_mem hk))]
      right
      simp) (fun n => by rw [ref09_Same.l2, if_neg dnl]) with ⟨r, _, h2⟩ | ⟨h1, _⟩
  · exact h2.elim
  · rw [h1]; rfl
end Go.Proofs.YtmpkpnclmihdnaaGreat.M
/-
  Plain laws of the plan: what the guard gives; rows of plans that are the same. Own text.
-/
namespace Go.Proofs.YtmpkpnclmihdnaaGreat.M
open Go Go.Proofs Go.Proofs.YtmpkpnclmihdnaaGreat.V
open Go.IntKind (i64)
set_option linter.unusedVariables false
set_option maxRecDepth 20000

theorem ba_beq (a : ByteArray) : (a == a) = true := by
  obtain ⟨a⟩ := a
  show (a == a) = true
  simp
theorem Moves_self {l : List T_api_Move} (hl : l.length ≤ 1000) : ref14_Moves l l = some true := by
  unfold ref14_Moves
  rw [if_neg (by simp)]
  rcases loopI (F := fun n i => ref14_Moves.l1 l l n i) (Q := fun r => False) (S := fun k => True) (len := l.length) (by omega) (fun n k hk => by
      rw [ref14_Moves.l1, if_pos (dlt hk), glk hk, wk1 (by omega)]
      right; simp [ba_beq]) (fun n => by rw [ref14_Moves.l1, if_neg dnl]) with ⟨r, _, h2⟩ | ⟨h1, _⟩
  · exact h2.elim
  · rw [h1]; rfl

theorem SameL_self {l : List T_api_Label} (hl : l.length ≤ 1000) : ref05_Same l l = some true := by
  unfold ref05_Same
  rw [if_neg (by simp)]
  rcases loopI (F := fun n i => ref05_Same.l1 l l n i) (Q := fun r => False) (S := fun k => True) (len := l.length) (by omega) (fun n k hk => by
      rw [ref05_Same.l1, if_pos (dlt hk), glk hk, wk1 (by omega)]
      right; simp [ba_beq]) (fun n => by rw [ref05_Same.l1, if_neg dnl]) with ⟨r, _, h2⟩ | ⟨h1, _⟩
  · exact h2.elim
  · rw [h1]; rfl
theorem SameT_self {l : List T_api_Taint} (hl : l.length ≤ 1000) : ref06_Same l l = some true := by
  unfold ref06_Same
  rw [if_neg (by simp)]
  rcases loopI (F := fun n i => ref06_Same.l1 l l n i) (Q := fun r => False) (S := fun k => True) (len := l.length) (by omega) (fun n k hk => by
      rw [ref06_Same.l1, if_pos (dlt hk), glk hk, wk1 (by omega)]
      right; simp [ba_beq]) (fun n => by rw [ref06_Same.l1, if_neg dnl]) with ⟨r, _, h2⟩ | ⟨h1, _⟩
  · exact h2.elim
  · rw [h1]; rfl
theorem SameMachine_self {m : T_api_Machine} (h : LM m) : ref07_SameMachine m m = some true := by
  have h1 := h.labels.1
  have h2 := h.taints.1
  unfold ref07_SameMachine
  rw [SameL_self (by omega), SameT_self (by omega)]
  simp [seq_eq]
theorem Same9_ms {ms : List T_api_Machine} (hn : ms.length ≤ 1000) (h : ∀ m, m ∈ ms → LM m) : ref09_Same ms [] ms [] = some true := by
  unfold ref09_Same
  rw [if_neg (by simp)]
  rcases loopI (F := fun n i => ref09_Same.l1 ms ms n i) (Q := fun r => False) (S := fun k => True) (len := ms.length) (by omega) (fun n k hk => by
      rw [ref09_Same.l1, if_pos (dlt hk), glk hk, wk1 (by omega)]
      simp only [Option.bind_some]
      rw [SameMachine_self (h _ (List.getElem_mem hk))]
      right
      simp) (fun n => by rw [ref09_Same.l1, if_neg dnl]) with ⟨r, _, h2⟩ | ⟨h1, _⟩
  · exact h2.elim
  · rw [h1]; rfl

theorem known26_true : law26_known = some true := by kernel_rfl

structure GC (c : T_law26_Case) : Prop where
  ly : LY c.Ms c.Bs
  ry : RY c.Ms c.Bs
  pc : PC c.Ms c.Bs c.L
  nn : c.Names.length ≤ 20
  nb : c.Barred.length ≤ 20

theorem right26 (c : T_law26_Case) : ∃ b, law26_right c = some b ∧ (b = true → GC c) := by
  unfold law26_right
  by_cases h : (c.Names.length : Int) > 20 ∨ (c.Barred.length : Int) > 20
  · rw [if_pos (by simpa using h)]; exact ⟨false, rfl, fun h => by cases h⟩
  · rw [if_neg (by simpa using h)]
    obtain ⟨b, e, f⟩ := ref09_Light_eq c.Ms c.Bs
    rw [e]
    cases b with
    | false => exact ⟨false, rfl, fun h => by cases h⟩
    | true =>
      have hy := f rfl
      obtain ⟨b2, e2, f2⟩ := light15 c.L
      simp only [Option.bind_some, if_true, e2]
      cases b2 with
      | false => exact ⟨false, rfl, fun h => by cases h⟩
      | true =>
        obtain ⟨g1, g2⟩ := f2 rfl
        obtain ⟨r, e3, f3⟩ := Check9_eq hy
        simp only [Option.bind_some, if_true, e3]
        by_cases h0 : r = 0
        · rw [if_pos (by simpa using h0)]
          obtain ⟨b4, e4, f4⟩ := right15 g1 g2
          rw [e4]
          refine ⟨b4, rfl, fun hb => ?_⟩
          have hr := f3 h0
          have hbu : (c.Bs.map (·.Pod.Name)).Nodup := by
            rw [show (c.Bs.map (·.Pod.Name)).Nodup ↔ _ from List.pairwise_iff_getElem]
            intro i j hi hj hij e
            rw [List.length_map] at hi hj
            have := hr.bu i j hi hj (by simpa using e)
            omega
          exact ⟨hy, hr, ⟨hy.nm, hy.nb, g1, gms hy hr, gbs hy hr, f4 hb, names_nodup hr, hbu⟩, by omega, by omega⟩
        · rw [if_neg (by simpa using h0)]; exact ⟨false, rfl, fun h => by cases h⟩

/-- What is so of plans all along. -/
theorem manyL_ind {ms : List T_api_Machine} {L : List T_api_Budget} {most : Int} (I : List T_api_Bound → List T_api_Plan → List ByteArray → List ByteArray → Prop)
    (hs : ∀ x now plans barred goals r, I now plans barred goals → (plans.length : Int) < most → x ∉ barred → x ∉ goals → whyE L now x = 0 → oneS ms now x barred = some r → I (putAll now r.1) (plans ++ [⟨x, r.1⟩]) (barred ++ [x]) (goals ++ r.1.map (·.To))) :
    ∀ (names : List ByteArray) now plans barred goals, I now plans barred goals → ∃ barred' goals', I (manyL ms L most names now plans barred goals).2 (manyL ms L most names now plans barred goals).1 barred' goals'
  | [], now, plans, barred, goals, h => ⟨barred, goals, h⟩
  | x :: l, now, plans, barred, goals, h => by
    rw [manyL]
    by_cases e1 : (plans.length : Int) ≥ most
    · rw [if_pos e1]; exact ⟨barred, goals, h⟩
    · rw [if_neg e1]
      cases e2 : mB x barred || mB x goals with
      | true => simp only [if_true]; exact manyL_ind I hs l _ _ _ _ h
      | false =>
        simp only [Bool.false_eq_true, if_false]
        rw [Bool.or_eq_false_iff] at e2
        by_cases e3 : whyE L now x = 0
        · rw [if_neg (by simpa using e3)]
          cases e4 : oneS ms now x barred with
          | none => exact manyL_ind I hs l _ _ _ _ h
          | some r => exact manyL_ind I hs l _ _ _ _ (hs x now plans barred goals r h (by omega) (mB_not.1 e2.1) (mB_not.1 e2.2) e3 e4)
        · rw [if_pos e3]; exact manyL_ind I hs l _ _ _ _ h
theorem manyL_len {ms : List T_api_Machine} {L : List T_api_Budget} {most : Int} : ∀ (names : List ByteArray) now plans barred goals, (manyL ms L most names now plans barred goals).1.length ≤ plans.length + names.length
  | [], now, plans, barred, goals => Nat.le_refl _
  | x :: l, now, plans, barred, goals => by
    have ih := fun now plans barred goals => manyL_len (ms := ms) (L := L) (most := most) l now plans barred goals
    rw [manyL, List.length_cons]
    split
    · simp only; omega
    · split
      · have := ih now plans barred goals; omega
      · split
        · have := ih now plans barred goals; omega
        · split
          · have := ih now plans barred goals; omega
          · rename_i r _
            have := ih (putAll now r.1) (plans ++ [⟨x, r.1⟩]) (barred ++ [x]) (goals ++ r.1.map (·.To))
            simp only [List.length_append, List.length_cons, List.length_nil] at this
            omega

theorem oneS_len {ms : List T_api_Machine} {bs : List T_api_Bound} {name : ByteArray} {barred : List ByteArray} {r : List T_api_Move × List T_api_Bound} (h : oneS ms bs name barred = some r) : r.1.length ≤ bs.length := by
  have := congrArg List.length (oneS_pods h)
  simp only [List.length_map] at this
  have h5 := movS_len bs name
  have h6 := onS_len bs name
  omega

/-- The pods stay; each plan has not too many moves. -/
theorem many_inv {c : T_law26_Case} (h : GC c) (most : Int) : (manyL c.Ms c.L most c.Names c.Bs [] [] []).2.map (·.Pod) = c.Bs.map (·.Pod) ∧ (∀ p, p ∈ (manyL c.Ms c.L most c.Names c.Bs [] [] []).1 → p.Moves.length ≤ 40) ∧ (manyL c.Ms c.L most c.Names c.Bs [] [] []).1.length ≤ 20 := by
  have hb := h.pc.nb
  obtain ⟨_, _, h1, h2⟩ := manyL_ind (ms := c.Ms) (L := c.L) (most := most) (fun now plans _ _ => now.map (·.Pod) = c.Bs.map (·.Pod) ∧ ∀ p, p ∈ plans → p.Moves.length ≤ 40) (fun x now plans barred goals r hi _ _ _ _ ho => by
    refine ⟨(putAll_pods _ _).trans hi.1, fun p hp => ?_⟩
    rcases List.mem_append.1 hp with hp | hp
    · exact hi.2 p hp
    · rw [List.mem_singleton] at hp
      subst hp
      have := oneS_len ho
      have := len_of hi.1
      simp only; omega) c.Names c.Bs [] [] [] ⟨rfl, fun p hp => by cases hp⟩
  refine ⟨h1, h2, ?_⟩
  have := manyL_len (ms := c.Ms) (L := c.L) (most := most) c.Names c.Bs [] [] []
  have := h.nn
  simp only [List.length_nil] at *
  omega

theorem Same26_self {l : List T_api_Plan} (hl : l.length ≤ 1000) (h : ∀ p, p ∈ l → p.Moves.length ≤ 40) : ref26_Same l l = some true := by
  unfold ref26_Same
  rw [if_neg (by simp)]
  rcases loopI (F := fun n i => ref26_Same.l1 l l n i) (Q := fun r => False) (S := fun k => True) (len := l.length) (by omega) (fun n k hk => by
      have := h _ (List.getElem_mem hk)
      rw [ref26_Same.l1, if_pos (dlt hk), glk hk, wk1 (by omega)]
      simp only [Option.bind_some, seq_eq]
      rw [Moves_self (by omega)]
      right
      simp) (fun n => by rw [ref26_Same.l1, if_neg dnl]) with ⟨r, _, h2⟩ | ⟨h1, _⟩
  · exact h2.elim
  · rw [h1]; rfl

theorem ans_len {c : T_law26_Case} (h : GC c) {name : ByteArray} {barred : List ByteArray} : (ansO (oneS c.Ms c.Bs name barred)).1.length ≤ 40 := by
  cases e : oneS c.Ms c.Bs name barred with
  | none => simp [ansO]
  | some r => have := oneS_len e; have := h.pc.nb; simp only [ansO]; omega

theorem spoil26 : ∀ (m n k : Nat) (a : List T_api_Bound), a.length - k ≤ m → m < n → k ≤ a.length → a.length ≤ 1000 → law26_PlanTells.l2 n a (k : Int) = some () := by
  intro m
  induction m with
  | zero =>
    intro n k a h1 h2 h3 _
    obtain ⟨n, rfl⟩ : ∃ n', n = n' + 1 := ⟨n - 1, by omega⟩
    have : k = a.length := by omega
    subst this
    rw [law26_PlanTells.l2, if_neg dnl]
  | succ m ih =>
    intro n k a h1 h2 h3 h4
    obtain ⟨n, rfl⟩ : ∃ n', n = n' + 1 := ⟨n - 1, by omega⟩
    by_cases hk : k < a.length
    · rw [law26_PlanTells.l2, if_pos (dlt hk), glk hk, wk1 (by omega)]
      simp only [Option.bind_some]
      exact ih n (k + 1) _ (by rw [List.length_set]; omega) (by omega) (by rw [List.length_set]; omega) (by rw [List.length_set]; omega)
    · have : k = a.length := by omega
      subst this
      rw [law26_PlanTells.l2, if_neg dnl]

theorem PlanTells_true {p : Prop} (c : T_law26_Case) (_ : p) : law26_PlanTells c = some true := by
  unfold law26_PlanTells
  obtain ⟨b, hb, hr⟩ := right26 c
  rw [hb, known26_true]
  cases b with
  | false => rfl
  | true =>
    have h := hr rfl
    have hpc := h.pc
    have hm := hpc.nm
    have hn := hpc.nb
    have hnn := h.nn
    have hnb := h.nb
    simp only [Option.bind_some, Bool.not_true, Bool.false_eq_true, if_false]
    rcases loopI (F := fun n i => law26_PlanTells.l1 c n i) (Q := fun r => False) (S := fun k => True) (len := c.Names.length) (by omega) (fun n k hk => by
      rw [law26_PlanTells.l1, if_pos (dlt hk), glk hk, wk1 (by omega)]
      simp only [Option.bind_some]
      rw [One_P _ _ (by omega) (by omega) (fun m hm => (hpc.gm m hm).lm) hpc.mu (fun b hb => (hpc.gb b hb).lp) hpc.bu, One_R _ (by omega) (by omega) (by omega) hpc.gm hpc.mu hpc.gb hpc.bu]
      have := ans_len h (name := c.Names[k]) (barred := c.Barred)
      simp only [Option.bind_some]
      rw [Moves_self (by omega)]
      right
      simp) (fun n => by rw [law26_PlanTells.l1, if_neg dnl]) with ⟨r, _, h2⟩ | ⟨h1, _⟩
    · exact h2.elim
    · obtain ⟨i1, i2, i3⟩ := many_inv h c.Most
      rw [h1, ap_ok (by omega) (by simp; omega)]
      simp only [Option.bind_some, Out.on, List.nil_append]
      rw [Many_P hpc hnn, Many_R hpc hnn]
      simp only [Option.bind_some]
      have hlen := len_of i1
      rw [Same26_self (by omega) i2, Same9_self (by omega) (pods_of i1 fun b hb => (hpc.gb b hb).lp), Without_P _ (by omega), Without_R (by omega) (by omega)]
      have hw := (wo_sub c.Ms c.Barred).length_le
      simp only [Option.bind_some, if_true]
      rw [Same9_ms (by omega) fun m hm => (hpc.gm m (wo_mem.1 hm).1).lm, show (0 : Int) = ((0 : Nat) : Int) from rfl, spoil26 _ FU 0 _ (Nat.le_refl _) (by rw [Nat.sub_zero]; unfold FU; omega) (Nat.zero_le _) (by omega), Same9_self (by omega) fun b hb => (hpc.gb b hb).lp]
      rfl
end Go.Proofs.YtmpkpnclmihdnaaGreat.M

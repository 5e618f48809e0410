/-
  Plain laws: the document's checks of yards, machines and pods tell something of what is light. Own text.
-/
import Derived.Test.YtmpkpnclmihdnaaGreatPTot
namespace Go.Proofs.YtmpkpnclmihdnaaGreat.M
open Go Go.Proofs Go.Proofs.YtmpkpnclmihdnaaGreat.V
set_option linter.unusedVariables false

theorem glp {α : Type} {l : List α} {k : Nat} (h : k < l.length) (h0 : 0 < k) (hb : l.length < 1000000000000) : V.gl l (IntKind.i64.wrap ((k : Int) - 1)) = some (l[k - 1]'(by omega)) := by
  rw [w_eq (by omega) (by omega), show (k : Int) - 1 = ((k - 1 : Nat) : Int) by omega, glk (by omega)]

theorem maybe5_tot {s : ByteArray} (h : s.size ≤ 300) : isS (ref05_maybe s) := by
  unfold ref05_maybe
  exact T.bind (T.ite (fun _ => T.pure _) (fun _ => T.bind (Word_tot (by omega)) (fun _ _ => T.pure _))) (fun _ _ => T.pure _)
theorem maybe6_tot {s : ByteArray} (h : s.size ≤ 300) : isS (ref06_maybe s) := by
  unfold ref06_maybe
  exact T.bind (T.ite (fun _ => T.pure _) (fun _ => T.bind (Word_tot (by omega)) (fun _ _ => T.pure _))) (fun _ _ => T.pure _)
theorem maybe7_tot {s : ByteArray} (h : s.size ≤ 300) : isS (ref07_maybe s) := by
  unfold ref07_maybe
  exact T.bind (T.ite (fun _ => T.pure _) (fun _ => T.bind (Word_tot (by omega)) (fun _ _ => T.pure _))) (fun _ _ => T.pure _)

theorem Less_tot {a b : ByteArray} (ha : a.size ≤ 300) (hb : b.size ≤ 300) : isS (ref05_Less a b) := by
  unfold ref05_Less
  refine T.bind (T.loop (F := fun n i => ref05_Less.l1 a b n i) (len := min a.size b.size) (by omega) (fun n k hk ih => ?_) (fun n => ?_)) (fun o _ => T.on o (fun _ => T.pure _))
  · rw [ref05_Less.l1, if_pos (by simp; omega), gi_nat (by omega), gi_nat (by omega), wk1 (by omega)]
    simp only [Option.bind_some]
    exact T.ite (fun _ => T.pure _) (fun _ => ih)
  · rw [ref05_Less.l1, if_neg (by simp; omega)]
    exact T.pure _

theorem Right5_tot {l : List T_api_Label} (h : LL l) : isS (ref05_Right l) := by
  unfold ref05_Right
  refine T.ite (fun _ => T.pure _) (fun _ => T.bind (T.loop (F := fun n i => ref05_Right.l1 l n i) (len := l.length) (by have := h.1; omega) (fun n k hk ih => ?_) (fun n => ?_)) (fun o _ => T.on o (fun _ => T.pure _)))
  · have hs := h.2 k hk
    have hl := h.1
    rw [ref05_Right.l1, if_pos (dlt hk), glk hk, wk1 (by omega)]
    simp only [Option.bind_some]
    refine T.bind (Word_tot (by omega)) fun r _ => T.bind (T.ite (fun _ => T.pure _) fun _ => T.bind (maybe5_tot hs.2) fun _ _ => T.pure _) fun c _ => ?_
    refine T.bind (T.ite (fun _ => T.pure _) fun _ => T.bind (T.ite (fun h0 => ?_) fun _ => T.pure _) fun _ _ => T.pure _) fun _ _ => T.ite (fun _ => T.pure _) fun _ => ih
    have h0' : 0 < k := by simpa using h0
    rw [glp hk h0' (by omega)]
    simp only [Option.bind_some]
    exact T.bind (Less_tot (h.2 (k - 1) (by omega)).1 hs.1) fun _ _ => T.pure _
  · rw [ref05_Right.l1, if_neg dnl]; exact T.pure _

theorem Right6_tot {l : List T_api_Taint} (h : LX l) : isS (ref06_Right l) := by
  unfold ref06_Right
  refine T.ite (fun _ => T.pure _) (fun _ => T.bind (T.loop (F := fun n i => ref06_Right.l1 l n i) (len := l.length) (by have := h.1; omega) (fun n k hk ih => ?_) (fun n => ?_)) (fun o _ => T.on o (fun _ => T.pure _)))
  · have hs := h.2 k hk
    have hl := h.1
    rw [ref06_Right.l1, if_pos (dlt hk), glk hk, wk1 (by omega)]
    simp only [Option.bind_some]
    refine T.bind (Word_tot (by omega)) fun r _ => T.bind (T.ite (fun _ => T.pure _) fun _ => T.bind (maybe6_tot hs.2) fun _ _ => T.pure _) fun c _ => ?_
    refine T.bind (T.ite (fun _ => T.pure _) fun _ => T.bind ⟨_, rfl⟩ fun _ _ => T.pure _) fun _ _ => T.ite (fun _ => T.pure _) fun _ => ?_
    refine T.bind (T.loop (F := fun n i => ref06_Right.l2 l (k : Int) n i) (len := k) (by omega) (fun n2 j hj ih2 => ?_) (fun n2 => ?_)) fun o _ => T.on o (fun _ => ih)
    · rw [ref06_Right.l2, if_pos (by simp; omega), glk (by omega), glk hk, wk1 (by omega)]
      simp only [Option.bind_some]
      exact T.bind (T.ite (fun _ => T.pure _) fun _ => T.pure _) fun _ _ => T.ite (fun _ => T.pure _) fun _ => ih2
    · rw [ref06_Right.l2, if_neg (by simp)]; exact T.pure _
  · rw [ref06_Right.l1, if_neg dnl]; exact T.pure _

theorem Bears6_tot {l : List T_api_Toleration} (h : LB l) : isS (ref06_RightBears l) := by
  unfold ref06_RightBears
  refine T.ite (fun _ => T.pure _) (fun _ => T.bind (T.loop (F := fun n i => ref06_RightBears.l1 l n i) (len := l.length) (by have := h.1; omega) (fun n k hk ih => ?_) (fun n => ?_)) (fun o _ => T.on o (fun _ => T.pure _)))
  · have hs := h.2 k hk
    have hl := h.1
    rw [ref06_RightBears.l1, if_pos (dlt hk), glk hk, wk1 (by omega)]
    simp only [Option.bind_some]
    refine T.bind (maybe6_tot hs.1) fun r _ => T.bind (T.ite (fun _ => T.pure _) fun _ => T.bind (maybe6_tot hs.2) fun _ _ => T.pure _) fun c _ => ?_
    exact T.bind (T.ite (fun _ => T.pure _) fun _ => T.bind (T.ite (fun _ => T.bind ⟨_, rfl⟩ fun _ _ => T.pure _) fun _ => T.pure _) fun _ _ => T.pure _) fun _ _ => T.ite (fun _ => T.pure _) fun _ => ih
  · rw [ref06_RightBears.l1, if_neg dnl]; exact T.pure _

theorem Number3_tot {s : ByteArray} (h : s.size ≤ 300) : isS (ref03_Number s) := by
  unfold ref03_Number
  refine T.bind (T.ite (fun _ => T.pure _) fun _ => T.bind ?_ fun _ _ => T.pure _) fun c _ => T.ite (fun _ => T.pure _) fun _ => T.bind ?_ fun _ _ => T.ite (fun _ => T.pure _) fun _ => T.pure _
  · unfold ref03_digits
    refine T.bind (T.loop (F := fun n i => ref03_digits.l1 s n i) (len := s.size) (by omega) (fun n k hk ih => ?_) (fun n => ?_)) fun _ _ => T.pure _
    · rw [ref03_digits.l1, if_pos (by simp; omega), gi_nat hk, wk1 (by omega)]
      simp only [Option.bind_some]
      exact T.bind (T.bind ⟨_, rfl⟩ fun _ _ => T.pure _) fun _ _ => T.ite (fun _ => ih) fun _ => T.pure _
    · rw [ref03_digits.l1, if_neg (by simp)]
      exact T.bind (T.pure _) fun _ _ => T.ite (fun h => by simp_all) fun _ => T.pure _
  · unfold ref03_value
    refine T.bind (T.loop2 (F := fun n c i => ref03_value.l1 s n c i) (len := s.size) (by omega) (fun n c k hk ih => ?_) (fun n c => ?_) 0) fun _ _ => T.pure _
    · rw [ref03_value.l1, if_pos (by simp; omega), gi_nat hk, wk1 (by omega)]
      simp only [Option.bind_some]
      exact ih _
    · rw [ref03_value.l1, if_neg (by simp)]; exact T.pure _

theorem Term5_tot {t : T_api_Term} (h : LT t) : isS (ref05_RightTerm t) := by
  obtain ⟨h1, h2, h3⟩ := h
  unfold ref05_RightTerm
  refine T.bind (Word_tot (by omega)) fun r _ => T.ite (fun _ => T.pure _) fun _ => T.bind (T.ite (fun _ => T.pure _) fun _ => T.pure _) fun v _ => T.ite (fun _ => ?_) fun _ => ?_
  · refine T.bind (T.loop (F := fun n i => ref05_RightTerm.l1 t n i) (len := t.Vals.length) (by omega) (fun n k hk ih => ?_) (fun n => ?_)) fun o _ => T.on o (fun _ => T.pure _)
    · rw [ref05_RightTerm.l1, if_pos (dlt hk), glk hk, wk1 (by omega)]
      simp only [Option.bind_some]
      exact T.bind (maybe5_tot (h3 k hk)) fun _ _ => T.ite (fun _ => T.pure _) fun _ => ih
    · rw [ref05_RightTerm.l1, if_neg dnl]; exact T.pure _
  · refine T.bind (T.ite (fun _ => T.pure _) fun _ => T.pure _) fun v _ => T.ite (fun _ => T.pure _) fun _ => T.bind (T.ite (fun _ => T.pure _) fun _ => T.pure _) fun v _ => T.ite (fun _ => T.ite (fun _ => T.pure _) fun hv => ?_) fun _ => T.pure _
    have hlen : t.Vals.length = 1 := by
      have : ¬ ¬ ((t.Vals.length : Int) = 1) := by simpa using hv
      omega
    rw [show (0 : Int) = ((0 : Nat) : Int) from rfl, glk (by omega)]
    simp only [Option.bind_some]
    exact T.bind (Number3_tot (h3 0 (by omega))) fun _ _ => T.pure _

theorem RMach_tot {m : T_api_Machine} (h : LM m) : isS (ref07_RightMachine m) := by
  unfold ref07_RightMachine
  rw [ref04_Right_eq]
  exact T.bind (maybe7_tot h.name) fun _ _ => T.bind (T.ite (fun _ => T.bind (maybe7_tot h.group) fun _ _ => T.pure _) fun _ => T.pure _) fun _ _ => T.bind (T.ite (fun _ => T.bind (T.pure _) fun _ _ => T.pure _) fun _ => T.pure _) fun _ _ =>
    T.bind (T.ite (fun _ => T.bind (Right5_tot h.labels) fun _ _ => T.pure _) fun _ => T.pure _) fun _ _ => T.bind (T.ite (fun _ => T.bind (Right6_tot h.taints) fun _ _ => T.pure _) fun _ => T.pure _) fun _ _ => T.pure _
theorem RMach_has {m : T_api_Machine} (h : LM m) (hr : ref07_RightMachine m = some true) : resOK m.Has = true := by
  unfold ref07_RightMachine at hr
  obtain ⟨a, ha⟩ := maybe7_tot h.name
  obtain ⟨b, hb⟩ := maybe7_tot h.group
  rw [ref04_Right_eq, ha, hb] at hr
  cases hm : resOK m.Has with
  | true => rfl
  | false =>
    rw [hm] at hr
    cases a <;> cases b <;> simp at hr

theorem RPod_tot {p : T_api_Pod} (h : LP p) : isS (ref07_RightPod p) := by
  have hn := h.nterms
  have hp := h.nports
  have hnm := h.name
  unfold ref07_RightPod
  rw [ref04_Right_eq]
  refine T.bind (Word_tot (by omega)) fun _ _ => T.bind (T.ite (fun _ => T.pure _) fun _ => T.bind (T.pure _) fun _ _ => T.pure _) fun _ _ => T.bind (T.ite (fun _ => T.pure _) fun _ => T.bind (maybe7_tot h.owner) fun _ _ => T.pure _) fun _ _ =>
    T.bind (T.ite (fun _ => T.pure _) fun _ => T.bind ⟨_, rfl⟩ fun _ _ => T.pure _) fun _ _ => T.ite (fun _ => T.pure _) fun _ => T.bind ?_ fun o _ => T.on o fun _ => T.bind ?_ fun o _ => T.on o fun _ => ?_
  · refine T.loop (F := fun n i => ref07_RightPod.l1 p n i) (len := p.Terms.length) (by omega) (fun n k hk ih => ?_) (fun n => ?_)
    · rw [ref07_RightPod.l1, if_pos (dlt hk), glk hk, wk1 (by omega)]
      simp only [Option.bind_some]
      exact T.bind (Term5_tot (h.terms k hk)) fun _ _ => T.ite (fun _ => T.pure _) fun _ => ih
    · rw [ref07_RightPod.l1, if_neg dnl]; exact T.pure _
  · refine T.loop (F := fun n i => ref07_RightPod.l2 p n i) (len := p.Ports.length) (by omega) (fun n k hk ih => ?_) (fun n => ?_)
    · rw [ref07_RightPod.l2, if_pos (dlt hk), glk hk, wk1 (by omega)]
      simp only [Option.bind_some]
      refine T.bind ⟨_, rfl⟩ fun _ _ => T.bind (T.ite (fun _ => T.pure _) fun _ => T.bind (T.ite (fun h0 => ?_) fun _ => T.pure _) fun _ _ => T.pure _) fun _ _ => T.ite (fun _ => T.pure _) fun _ => ih
      have h0' : 0 < k := by simpa using h0
      rw [glp hk h0' (by omega)]
      exact T.bind (T.pure _) fun _ _ => T.pure _
    · rw [ref07_RightPod.l2, if_neg dnl]; exact T.pure _
  · refine T.bind (T.ite (fun _ => T.pure _) fun _ => T.bind (T.ite (fun _ => T.bind ⟨_, rfl⟩ fun _ _ => T.pure _) fun _ => T.pure _) fun _ _ => T.pure _) fun _ _ => T.ite (fun _ => T.pure _) fun _ => ?_
    exact T.bind (Right5_tot h.labels) fun _ _ => T.bind (T.ite (fun _ => T.bind (Right5_tot h.select) fun _ _ => T.pure _) fun _ => T.pure _) fun _ _ => T.bind (T.ite (fun _ => T.bind (Right5_tot h.apart) fun _ _ => T.pure _) fun _ => T.pure _) fun _ _ =>
      T.bind (T.ite (fun _ => T.bind (Right5_tot h.spread) fun _ _ => T.pure _) fun _ => T.pure _) fun _ _ => T.bind (T.ite (fun _ => T.bind (Bears6_tot h.bears) fun _ _ => T.pure _) fun _ => T.pure _) fun _ _ => T.pure _
theorem RPod_need {p : T_api_Pod} (h : LP p) (hr : ref07_RightPod p = some true) : resOK p.Need = true ∧ p.Need.Pods = 1 := by
  have hnm := h.name
  unfold ref07_RightPod at hr
  obtain ⟨a, ha⟩ := Word_tot (s := p.Name) (by omega)
  rw [ref04_Right_eq, ha] at hr
  cases a with
  | false => simp at hr
  | true =>
    cases hm : resOK p.Need with
    | false => rw [hm] at hr; simp at hr
    | true =>
      refine ⟨rfl, ?_⟩
      by_cases hp : p.Need.Pods = 1
      · exact hp
      · have e : (p.Need.Pods != 1) = true := by simpa using hp
        rw [hm, e] at hr
        simp at hr
end Go.Proofs.YtmpkpnclmihdnaaGreat.M

/-
  Plain laws of yard: what is on a machine, used there, and left. Own text.
-/
import Derived.Test.YtcblmlkpcplkfaaPChk
namespace Go.Proofs.Ytcblmlkpcplkfaa.M
open Go Go.Proofs Go.Proofs.Ytcblmlkpcplkfaa.V
set_option linter.unusedVariables false

theorem ap_ok {α : Type} {b : Nat} {l m : List α} (hb : b ≤ 1000) (h : l.length + m.length ≤ 1000000) : V.ap b l m = some (l ++ m) := by
  unfold V.ap
  rw [if_pos]
  refine ⟨by unfold maxLen; omega, ?_⟩
  have : (l.length + m.length) * b ≤ 1000000 * 1000 := Nat.mul_le_mul h hb
  omega

def onS (bs : List T_api_Bound) (name : ByteArray) : List T_api_Pod := (bs.filter fun b => decide (b.On = name)).map (·.Pod)

theorem On_eq (bs : List T_api_Bound) (name : ByteArray) (hl : bs.length ≤ 1000) : yard_On bs name = some (onS bs name) := by
  have key : ∀ (l : List T_api_Bound) (k : Nat) (acc : List T_api_Pod), l.length + acc.length ≤ 1000 → yard_On.l1 name l k acc = some (acc ++ onS l name) := by
    intro l
    induction l with
    | nil => intro k acc h; simp [yard_On.l1, onS]
    | cons x l ih =>
      intro k acc h
      simp only [List.length_cons] at h
      rw [yard_On.l1, seq_eq]
      by_cases hx : x.On = name
      · rw [if_pos (by simp [hx]), ap_ok (by omega) (by simp; omega)]
        simp only [Option.bind_some]
        rw [ih _ _ (by simp; omega)]
        simp [onS, hx]
      · rw [if_neg (by simp [hx]), ih _ _ (by omega)]
        simp [onS, hx]
  unfold yard_On
  rw [key bs 0 [] (by simp; omega)]
  simp

theorem onS_len (bs : List T_api_Bound) (name : ByteArray) : (onS bs name).length ≤ bs.length := by
  unfold onS; rw [List.length_map]; exact List.length_filter_le _ _
/-- All that pods need. -/
def total : List T_api_Pod → T_api_Res
  | [] => r0
  | p :: l => radd p.Need (total l)
def needsOK (l : List T_api_Pod) : Bool := l.all fun p => resOK p.Need
def usedS (l : List T_api_Pod) : T_api_Res × Int := if needsOK l = true then (if resOK (total l) = true then (total l, 0) else (r0, 10)) else (r0, 12)

theorem total_nn {l : List T_api_Pod} (h : needsOK l = true) : 0 ≤ (total l).Cpu ∧ 0 ≤ (total l).Mem ∧ 0 ≤ (total l).Disk ∧ 0 ≤ (total l).Pods ∧ 0 ≤ (total l).Dev := by
  induction l with
  | nil => simp [total, r0]
  | cons p l ih =>
    unfold needsOK at h
    simp only [List.all_cons, Bool.and_eq_true] at h
    have h1 := (resOK_iff _).1 h.1
    have h2 := ih h.2
    simp only [total, radd]
    omega

theorem radd_r0 (a : T_api_Res) : radd r0 a = a := by cases a; simp [radd, r0]
theorem radd_assoc (a b c : T_api_Res) : radd (radd a b) c = radd a (radd b c) := by
  simp only [radd, T_api_Res.mk.injEq]; omega

theorem Used_loop {l : List T_api_Pod} (h : needsOK l = true) : ∀ (k : Nat) (s : T_api_Res), resOK s = true → yard_Used.l1 l k s = some (if resOK (radd s (total l)) = true then Out.go (radd s (total l)) else Out.ret (r0, 10)) := by
  induction l with
  | nil =>
    intro k s hs
    have e : radd s (total []) = s := by cases s; simp [radd, total, r0]
    rw [yard_Used.l1, e, if_pos hs]
  | cons p l ih =>
    intro k s hs
    have h0 := h
    unfold needsOK at h
    simp only [List.all_cons, Bool.and_eq_true] at h
    have hl : needsOK l = true := h.2
    have hp := h.1
    have hnn := total_nn hl
    rw [yard_Used.l1, res_Add_eq, hs, hp]
    simp only [Bool.and_self, if_true, Option.bind_some]
    by_cases hq : resOK (radd s p.Need) = true
    · rw [if_pos hq]
      simp only [bne_self_eq_false, Bool.false_eq_true, if_false]
      rw [ih hl _ _ hq, radd_assoc]
      rfl
    · rw [if_neg hq]
      rw [if_neg (show ¬ resOK (radd s (total (p :: l))) = true from ?_)]
      · rfl
      · intro hc
        apply hq
        rw [resOK_iff] at hc hs hp ⊢
        simp only [radd, total] at hc ⊢
        omega

theorem first_needs {l : List T_api_Pod} (hl : l.length ≤ 1000) : ∃ r, yard_first_yard_Used_1 (l.length : Int) l = some r ∧ (r = -1 ↔ needsOK l = true) := by
  obtain ⟨r, hr, hf⟩ := loopF (F := fun n i => yard_first_yard_Used_1.l1 (l.length : Int) l n i) (len := l.length) (p := fun k => ∃ h : k < l.length, resOK l[k].Need = false) (by omega) (fun n k hk => by
      rw [yard_first_yard_Used_1.l1, if_pos (dlt hk), wk1 (by omega)]
      unfold yard_Used_1
      rw [glk hk]
      simp only [Option.bind_some, res_Right_eq]
      cases h : resOK l[k].Need with
      | false => exact .inl ⟨rfl, hk, h⟩
      | true => exact .inr ⟨rfl, fun ⟨_, h'⟩ => by rw [h] at h'; cases h'⟩) (fun n => by rw [yard_first_yard_Used_1.l1, if_neg dnl])
  refine ⟨r, hr, ?_⟩
  unfold needsOK
  rw [List.all_eq_true]
  rcases hf with ⟨q, rfl, a, ⟨b, c⟩, d⟩ | ⟨rfl, a⟩
  · refine ⟨fun h => by omega, fun h => ?_⟩
    have := h l[q] (List.getElem_mem _)
    rw [c] at this; cases this
  · refine ⟨fun _ x hx => ?_, fun _ => rfl⟩
    obtain ⟨i, hi, rfl⟩ := List.getElem_of_mem hx
    cases h : resOK l[i].Need with
    | true => rfl
    | false => exact absurd ⟨hi, h⟩ (a i hi)

theorem Used_eq (bs : List T_api_Bound) (name : ByteArray) (hl : bs.length ≤ 1000) : yard_Used bs name = some (usedS (onS bs name)) := by
  have hlen := onS_len bs name
  unfold yard_Used usedS
  rw [On_eq bs name hl]
  simp only [Option.bind_some]
  obtain ⟨r, hr, hf⟩ := first_needs (l := onS bs name) (by omega)
  rw [hr]
  simp only [Option.bind_some]
  cases hn : needsOK (onS bs name) with
  | false =>
    have : r ≠ -1 := fun e => by rw [hf.1 e] at hn; cases hn
    rw [if_pos (by simpa using this)]; rfl
  | true =>
    rw [if_neg (by simp [hf.2 hn]), show (⟨0, 0, 0, 0, 0⟩ : T_api_Res) = r0 from rfl, Used_loop hn 0 r0 (by decide), radd_r0]
    simp only [if_true]
    cases resOK (total (onS bs name)) <;> rfl

/-- What is left. -/
def leftS (has : T_api_Res) (u : T_api_Res × Int) : T_api_Res := if u.2 = 0 ∧ resOK has = true then rsub has (rmin u.1 has) else r0

theorem usedS_ok (l : List T_api_Pod) (h : (usedS l).2 = 0) : resOK (usedS l).1 = true ∧ (usedS l).1 = total l ∧ needsOK l = true ∧ resOK (total l) = true := by
  unfold usedS at h ⊢
  cases hn : needsOK l with
  | false => rw [hn] at h; simp at h
  | true =>
    rw [hn] at h
    simp only [if_true] at h ⊢
    cases ht : resOK (total l) with
    | false => rw [ht] at h; simp at h
    | true => simp [ht]

theorem Left_eq (m : T_api_Machine) (bs : List T_api_Bound) (hl : bs.length ≤ 1000) : yard_Left m bs = some (leftS m.Has (usedS (onS bs m.Name))) := by
  unfold yard_Left leftS
  rw [Used_eq bs m.Name hl]
  simp only [Option.bind_some]
  by_cases h0 : (usedS (onS bs m.Name)).2 = 0
  · rw [if_neg (by simpa using h0), res_Least_eq]
    obtain ⟨h1, _⟩ := usedS_ok _ h0
    rw [h1]
    simp only [Option.bind_some, Bool.true_and, res_Sub_eq]
    by_cases h2 : resOK m.Has = true
    · have h2' : resOK (rmin (usedS (onS bs m.Name)).1 m.Has) = true := resOK_min h1 h2
      have : resOK (rsub m.Has (rmin (usedS (onS bs m.Name)).1 m.Has)) = true := by
        rw [resOK_sub h2 (resOK_min h1 h2), rle_iff]
        simp only [rmin]
        omega
      simp only [h0, h2, h2', Bool.and_self, if_true, this, and_self]
    · have h2' : resOK m.Has = false := by simpa using h2
      rw [if_neg (by rw [h2']; simp), h2']
      simp
  · rw [if_pos (by simpa using h0), if_neg (by simp [h0])]
    rfl

end Go.Proofs.Ytcblmlkpcplkfaa.M

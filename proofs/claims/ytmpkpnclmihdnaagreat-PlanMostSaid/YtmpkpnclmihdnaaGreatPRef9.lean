/-
  Printed by a program of this session out of the loaded functions: models and their proofs. Own text.
-/
import Derived.Test.YtmpkpnclmihdnaaGreatPPut
import Derived.Test.YtmpkpnclmihdnaaGreatPFit0
/-
  Plain laws: shares. Own text.
-/
namespace Go.Proofs.YtmpkpnclmihdnaaGreat.M
open Go Go.Proofs Go.Proofs.YtmpkpnclmihdnaaGreat.V
set_option linter.unusedVariables false

theorem part_tot (a b : Int) : isS (res_part a b) := by
  unfold res_part
  by_cases h : b > 0
  · rw [if_pos (by simpa using h)]
    unfold V.quo
    rw [if_neg (by omega)]
    exact ⟨_, rfl⟩
  · rw [if_neg (by simpa using h)]
    exact T.ite (fun _ => T.pure _) fun _ => T.pure _
theorem Share_tot (a b : T_api_Res) : isS (res_Share a b) := by
  unfold res_Share
  simp only [res_Right_eq, Option.bind_some]
  exact T.bind (T.ite (fun _ => T.pure _) fun _ => T.pure _) fun _ _ => T.ite (fun _ => T.pure _) fun _ => T.bind (part_tot _ _) fun _ _ => T.bind (part_tot _ _) fun _ _ => T.pure _
def shareV (a b : T_api_Res) : Int := (res_Share a b).getD 0
theorem share_V (a b : T_api_Res) : res_Share a b = some (shareV a b) := isD (Share_tot a b) 0
end Go.Proofs.YtmpkpnclmihdnaaGreat.M
/-
  Plain laws: what the document says is on a machine. Own text.
-/
namespace Go.Proofs.YtmpkpnclmihdnaaGreat.M
open Go Go.Proofs Go.Proofs.YtmpkpnclmihdnaaGreat.V
set_option linter.unusedVariables false

theorem onS_cons (x : T_api_Bound) (l : List T_api_Bound) (n : ByteArray) : onS (x :: l) n = if x.On = n then x.Pod :: onS l n else onS l n := by
  unfold onS
  by_cases h : x.On = n <;> simp [h]

theorem On9_eq (bs : List T_api_Bound) (name : ByteArray) (hl : bs.length ≤ 1000) : ref09_On bs name = some (onS bs name) := by
  have key : ∀ (m k f : Nat) (acc : List T_api_Pod), bs.length - k ≤ m → m < f → k ≤ bs.length → acc.length ≤ k → ref09_On.l1 bs name f acc (k : Int) = some (acc ++ onS (bs.drop k) name) := by
    intro m
    induction m with
    | zero =>
      intro k f acc h1 h2 h3 h4
      obtain ⟨f, rfl⟩ : ∃ q, f = q + 1 := ⟨f - 1, by omega⟩
      rw [ref09_On.l1, if_neg (by simp; omega), List.drop_eq_nil_of_le (by omega)]
      simp [onS]
    | succ m ih =>
      intro k f acc h1 h2 h3 h4
      obtain ⟨f, rfl⟩ : ∃ q, f = q + 1 := ⟨f - 1, by omega⟩
      by_cases hk : k < bs.length
      · rw [ref09_On.l1, if_pos (dlt hk), glk hk, wk1 (by omega), List.drop_eq_getElem_cons hk, onS_cons]
        simp only [Option.bind_some, seq_eq]
        by_cases h : bs[k].On = name
        · rw [if_pos (by simpa using h), if_pos h, ap_ok (by omega) (by simp; omega)]
          simp only [Option.bind_some]
          rw [ih (k + 1) f _ (by omega) (by omega) (by omega) (by simp; omega)]
          simp
        · rw [if_neg (by simpa using h), if_neg h]
          exact ih (k + 1) f _ (by omega) (by omega) (by omega) (by omega)
      · rw [ref09_On.l1, if_neg (by simp; omega), List.drop_eq_nil_of_le (by omega)]
        simp [onS]
  have := key bs.length 0 FU [] (by omega) (by unfold FU; omega) (by omega) (by simp)
  have this' : ref09_On.l1 bs name FU [] 0 = some ([] ++ onS (bs.drop 0) name) := this
  unfold ref09_On
  rw [this']
  simp
end Go.Proofs.YtmpkpnclmihdnaaGreat.M
/-
  Plain laws: what the document says is on a machine, used there, and left. Own text.
-/
namespace Go.Proofs.YtmpkpnclmihdnaaGreat.M
open Go Go.Proofs Go.Proofs.YtmpkpnclmihdnaaGreat.V
set_option linter.unusedVariables false

theorem Add9_eq (a b : T_api_Res) : ref04_Add a b = some (if (resOK a && resOK b) = true then (if resOK (radd a b) = true then (radd a b, 0) else (r0, 10)) else (r0, 1)) := by
  unfold ref04_Add
  simp only [ref04_Right_eq, Option.bind_some]
  cases ha : resOK a with
  | false => rfl
  | true =>
    cases hb : resOK b with
    | false => rfl
    | true =>
      obtain ⟨a1, a2, a3, a4, a5⟩ := resOK_split ha
      obtain ⟨b1, b2, b3, b4, b5⟩ := resOK_split hb
      simp only [Bool.not_true, Bool.false_eq_true, if_false, Option.bind_some, w_add a1 b1, w_add a2 b2, w_add a3 b3, w_add a4 b4, w_add a5 b5, Bool.and_self, if_true]
      show (if (!resOK (radd a b)) = true then some (r0, (10 : Int)) else some (radd a b, 0)) = _
      cases resOK (radd a b) <;> rfl

theorem Used9_loop {l : List T_api_Pod} (h : needsOK l = true) (hl : l.length ≤ 1000) : ∀ (m k f : Nat) (s : T_api_Res), l.length - k ≤ m → m < f → k ≤ l.length → resOK s = true →
    ref09_Used.l2 l f s (k : Int) = some (if resOK (radd s (total (l.drop k))) = true then Out.go (radd s (total (l.drop k))) else Out.ret (r0, 10)) := by
  have hr0 : ∀ s : T_api_Res, radd s (total []) = s := fun s => by cases s; simp [radd, total, r0]
  intro m
  induction m with
  | zero =>
    intro k f s h1 h2 h3 hs
    obtain ⟨f, rfl⟩ : ∃ q, f = q + 1 := ⟨f - 1, by omega⟩
    rw [ref09_Used.l2, if_neg (by simp; omega), List.drop_eq_nil_of_le (by omega), hr0, if_pos hs]
  | succ m ih =>
    intro k f s h1 h2 h3 hs
    obtain ⟨f, rfl⟩ : ∃ q, f = q + 1 := ⟨f - 1, by omega⟩
    by_cases hk : k < l.length
    · have hp : resOK l[k].Need = true := by
        unfold needsOK at h
        rw [List.all_eq_true] at h
        exact h _ (List.getElem_mem _)
      have hd : needsOK (l.drop (k + 1)) = true := by
        unfold needsOK at h ⊢
        rw [List.all_eq_true] at h ⊢
        exact fun x hx => h x (List.mem_of_mem_drop hx)
      have hnn := total_nn hd
      rw [ref09_Used.l2, if_pos (dlt hk), glk hk, wk1 (by omega), List.drop_eq_getElem_cons hk]
      simp only [Option.bind_some]
      rw [Add9_eq, hs, hp]
      simp only [Bool.and_self, if_true, Option.bind_some]
      by_cases hq : resOK (radd s l[k].Need) = true
      · rw [if_pos hq]
        simp only [bne_self_eq_false, Bool.false_eq_true, if_false]
        rw [ih (k + 1) f _ (by omega) (by omega) (by omega) hq, radd_assoc]
        rfl
      · rw [if_neg hq]
        rw [if_neg (show ¬ resOK (radd s (total (l[k] :: l.drop (k + 1)))) = true from ?_)]
        · rfl
        · intro hc
          apply hq
          rw [resOK_iff] at hc hs hp ⊢
          simp only [radd, total] at hc ⊢
          omega
    · rw [ref09_Used.l2, if_neg (by simp; omega), List.drop_eq_nil_of_le (by omega), hr0, if_pos hs]

theorem Used9_eq (bs : List T_api_Bound) (name : ByteArray) (hl : bs.length ≤ 1000) : ref09_Used bs name = some (usedS (onS bs name)) := by
  have hlen := onS_len bs name
  unfold ref09_Used usedS
  rw [On9_eq bs name hl]
  simp only [Option.bind_some]
  generalize onS bs name = l at hlen
  rcases loopI (F := fun n i => ref09_Used.l1 l n i) (Q := fun r => r = (r0, 12) ∧ needsOK l = false) (S := fun k => ∀ h : k < l.length, resOK l[k].Need = true) (len := l.length) (by omega) (fun n k hk => by
      rw [ref09_Used.l1, if_pos (dlt hk), glk hk, wk1 (by omega)]
      simp only [Option.bind_some, ref04_Right_eq]
      cases h : resOK l[k].Need with
      | false =>
        refine .inl ⟨_, rfl, rfl, ?_⟩
        unfold needsOK
        rw [List.all_eq_false]
        exact ⟨l[k], List.getElem_mem _, by simp [h]⟩
      | true => exact .inr ⟨rfl, fun _ => h⟩) (fun n => by rw [ref09_Used.l1, if_neg dnl]) with ⟨r, h1, rfl, h3⟩ | ⟨h1, h2⟩
  · rw [h1, if_neg (by rw [h3]; simp)]; rfl
  · have hn : needsOK l = true := by
      unfold needsOK
      rw [List.all_eq_true]
      intro x hx
      obtain ⟨i, hi, rfl⟩ := List.getElem_of_mem hx
      exact h2 i hi hi
    have h3 := Used9_loop hn (by omega) l.length 0 FU r0 (by omega) (by unfold FU; omega) (by omega) (by decide)
    have h3' : ref09_Used.l2 l FU (⟨0, 0, 0, 0, 0⟩ : T_api_Res) 0 = _ := h3
    rw [h1, if_pos hn]
    simp only [Option.bind_some, Out.on]
    rw [h3', List.drop_zero, radd_r0]
    cases resOK (total l) <;> rfl

theorem Left9_eq (m : T_api_Machine) (bs : List T_api_Bound) (hl : bs.length ≤ 1000) : ref09_Left m bs = some (leftS m.Has (usedS (onS bs m.Name))) := by
  unfold ref09_Left leftS
  rw [Used9_eq bs m.Name hl, ref04_Right_eq]
  simp only [Option.bind_some]
  by_cases h0 : (usedS (onS bs m.Name)).2 = 0
  · rw [if_neg (by simpa using h0)]
    obtain ⟨h1, _⟩ := usedS_ok _ h0
    by_cases h2 : resOK m.Has = true
    · rw [if_pos ⟨h0, h2⟩, h2]
      simp only [Option.bind_some, Bool.not_true, Bool.false_eq_true, if_false]
      obtain ⟨a1, a2, a3, a4, a5⟩ := resOK_split h2
      obtain ⟨b1, b2, b3, b4, b5⟩ := resOK_split h1
      rw [w_sub a1 b1, w_sub a2 b2, w_sub a3 b3, w_sub a4 b4, w_sub a5 b5]
      simp only [rsub, rmin, Option.some.injEq, T_api_Res.mk.injEq]
      rw [resOK_iff] at h1 h2
      omega
    · have h2' : resOK m.Has = false := by simpa using h2
      rw [if_neg (by simp [h2']), h2']
      rfl
  · rw [if_pos (by simpa using h0), if_neg (by simp [h0])]
    rfl

theorem Fits9_eq (a b : T_api_Res) : ref04_Fits a b = some (resOK a && resOK b && rle a b) := by
  unfold ref04_Fits
  rw [ref04_Right_eq, ref04_Right_eq]
  simp only [Option.bind_some]
  unfold rle
  cases resOK a with
  | false => simp
  | true =>
    simp only [if_true, Option.bind_some, Bool.true_and, Option.some.injEq, Bool.and_assoc]

theorem first_neg {len : Nat} {p : Nat → Prop} {r : Int} (h : firstAt len p r) (hr : ¬ r ≥ 0) : ∀ j, j < len → ¬ p j := by
  rcases h with ⟨q, rfl, _⟩ | ⟨_, h⟩
  · omega
  · exact h

theorem others_all {bs : List T_api_Bound} {n : ByteArray} (h : ∀ k (hk : k < bs.length), bs[k].Pod.Name ≠ n) : othersS bs n = bs := by
  unfold othersS
  rw [List.filter_eq_self]
  intro b hb
  obtain ⟨i, hi, rfl⟩ := List.getElem_of_mem hb
  simpa using h i hi

end Go.Proofs.YtmpkpnclmihdnaaGreat.M

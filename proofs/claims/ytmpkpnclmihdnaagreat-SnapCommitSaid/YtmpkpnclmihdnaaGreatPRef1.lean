/-
  Printed by a program of this session out of the loaded functions: models and their proofs. Own text.
-/
import Derived.Test.YtmpkpnclmihdnaaGreatPOn9
import Derived.Test.YtmpkpnclmihdnaaGreatPLess
import Derived.Test.YtmpkpnclmihdnaaGreatPYard
/-
  Plain laws: what the document says is on a machine, used there, and left. Own text.
-/
namespace Go.Proofs.YtmpkpnclmihdnaaGreat.M
open Go Go.Proofs Go.Proofs.YtmpkpnclmihdnaaGreat.V
set_option linter.unusedVariables false

theorem Add9_eq (a b : T_api_Res) : ref04_Add a b = some (if (resOK a && resOK b) = true then (if resOK (radd a b) = true then (radd a b, 0) else (r0, 10)) else (r0, 1)) := by
  unfold ref04_Add
  simp only [ref04_Right_eq, Option.bind_some]
  cases ha : resOK a with
  | false => rfl
  | true =>
    cases hb : resOK b with
    | false => rfl
    | true =>
      obtain ⟨a1, a2, a3, a4, a5⟩ := resOK_split ha
      obtain ⟨b1, b2, b3, b4, b5⟩ := resOK_split hb
      simp only [Bool.not_true, Bool.false_eq_true, if_false, Option.bind_some, w_add a1 b1, w_add a2 b2, w_add a3 b3, w_add a4 b4, w_add a5 b5, Bool.and_self, if_true]
      show (if (!resOK (radd a b)) = true then some (r0, (10 : Int)) else some (radd a b, 0)) = _
      cases resOK (radd a b) <;> rfl

theorem Used9_loop {l : List T_api_Pod} (h : needsOK l = true) (hl : l.length ≤ 1000) : ∀ (m k f : Nat) (s : T_api_Res), l.length - k ≤ m → m < f → k ≤ l.length → resOK s = true →
    ref09_Used.l2 l f s (k : Int) = some (if resOK (radd s (total (l.drop k))) = true then Out.go (radd s (total (l.drop k))) else Out.ret (r0, 10)) := by
  have hr0 : ∀ s : T_api_Res, radd s (total []) = s := fun s => by cases s; simp [radd, total, r0]
  intro m
  induction m with
  | zero =>
    intro k f s h1 h2 h3 hs
    obtain ⟨f, rfl⟩ : ∃ q, f = q + 1 := ⟨f - 1, by omega⟩
    rw [ref09_Used.l2, if_neg (by simp; omega), List.drop_eq_nil_of_le (by omega), hr0, if_pos hs]
  | succ m ih =>
    intro k f s h1 h2 h3 hs
    obtain ⟨f, rfl⟩ : ∃ q, f = q + 1 := ⟨f - 1, by omega⟩
    by_cases hk : k < l.length
    · have hp : resOK l[k].Need = true := by
        unfold needsOK at h
        rw [List.all_eq_true] at h
        exact h _ (List.getElem_mem _)
      have hd : needsOK (l.drop (k + 1)) = true := by
        unfold needsOK at h ⊢
        rw [List.all_eq_true] at h ⊢
        exact fun x hx => h x (List.mem_of_mem_drop hx)
      have hnn := total_nn hd
      rw [ref09_Used.l2, if_pos (dlt hk), glk hk, wk1 (by omega), List.drop_eq_getElem_cons hk]
      simp only [Option.bind_some]
      rw [Add9_eq, hs, hp]
      simp only [Bool.and_self, if_true, Option.bind_some]
      by_cases hq : resOK (radd s l[k].Need) = true
      · rw [if_pos hq]
        simp only [bne_self_eq_false, Bool.false_eq_true, if_false]
        rw [ih (k + 1) f _ (by omega) (by omega) (by omega) hq, radd_assoc]
        rfl
      · rw [if_neg hq]
        rw [if_neg (show ¬ resOK (radd s (total (l[k] :: l.drop (k + 1)))) = true from ?_)]
        · rfl
        · intro hc
          apply hq
          rw [resOK_iff] at hc hs hp ⊢
          simp only [radd, total] at hc ⊢
          omega
    · rw [ref09_Used.l2, if_neg (by simp; omega), List.drop_eq_nil_of_le (by omega), hr0, if_pos hs]

theorem Used9_eq (bs : List T_api_Bound) (name : ByteArray) (hl : bs.length ≤ 1000) : ref09_Used bs name = some (usedS (onS bs name)) := by
  have hlen := onS_len bs name
  unfold ref09_Used usedS
  rw [On9_eq bs name hl]
  simp only [Option.bind_some]
  generalize onS bs name = l at hlen
  rcases loopI (F := fun n i => ref09_Used.l1 l n i) (Q := fun r => r = (r0, 12) ∧ needsOK l = false) (S := fun k => ∀ h : k < l.length, resOK l[k].Need = true) (len := l.length) (by omega) (fun n k hk => by
      rw [ref09_Used.l1, if_pos (dlt hk), glk hk, wk1 (by omega)]
      simp only [Option.bind_some, ref04_Right_eq]
      cases h : resOK l[k].Need with
      | false =>
        refine .inl ⟨_, rfl, rfl, ?_⟩
        unfold needsOK
        rw [List.all_eq_false]
        exact ⟨l[k], List.getElem_mem _, by simp [h]⟩
      | true => exact .inr ⟨rfl, fun _ => h⟩) (fun n => by rw [ref09_Used.l1, if_neg dnl]) with ⟨r, h1, rfl, h3⟩ | ⟨h1, h2⟩
  · rw [h1, if_neg (by rw [h3]; simp)]; rfl
  · have hn : needsOK l = true := by
      unfold needsOK
      rw [List.all_eq_true]
      intro x hx
      obtain ⟨i, hi, rfl⟩ := List.getElem_of_mem hx
      exact h2 i hi hi
    have h3 := Used9_loop hn (by omega) l.length 0 FU r0 (by omega) (by unfold FU; omega) (by omega) (by decide)
    have h3' : ref09_Used.l2 l FU (⟨0, 0, 0, 0, 0⟩ : T_api_Res) 0 = _ := h3
    rw [h1, if_pos hn]
    simp only [Option.bind_some, Out.on]
    rw [h3', List.drop_zero, radd_r0]
    cases resOK (total l) <;> rfl

theorem Left9_eq (m : T_api_Machine) (bs : List T_api_Bound) (hl : bs.length ≤ 1000) : ref09_Left m bs = some (leftS m.Has (usedS (onS bs m.Name))) := by
  unfold ref09_Left leftS
  rw [Used9_eq bs m.Name hl, ref04_Right_eq]
  simp only [Option.bind_some]
  by_cases h0 : (usedS (onS bs m.Name)).2 = 0
  · rw [if_neg (by simpa using h0)]
    obtain ⟨h1, _⟩ := usedS_ok _ h0
    by_cases h2 : resOK m.Has = true
    · rw [if_pos ⟨h0, h2⟩, h2]
      simp only [Option.bind_some, Bool.not_true, Bool.false_eq_true, if_false]
      obtain ⟨a1, a2, a3, a4, a5⟩ := resOK_split h2
      obtain ⟨b1, b2, b3, b4, b5⟩ := resOK_split h1
      rw [w_sub a1 b1, w_sub a2 b2, w_sub a3 b3, w_sub a4 b4, w_sub a5 b5]
      simp only [rsub, rmin, Option.some.injEq, T_api_Res.mk.injEq]
      rw [resOK_iff] at h1 h2
      omega
    · have h2' : resOK m.Has = false := by simpa using h2
      rw [if_neg (by simp [h2']), h2']
      rfl
  · rw [if_pos (by simpa using h0), if_neg (by simp [h0])]
    rfl

theorem Fits9_eq (a b : T_api_Res) : ref04_Fits a b = some (resOK a && resOK b && rle a b) := by
  unfold ref04_Fits
  rw [ref04_Right_eq, ref04_Right_eq]
  simp only [Option.bind_some]
  unfold rle
  cases resOK a with
  | false => simp
  | true =>
    simp only [if_true, Option.bind_some, Bool.true_and, Option.some.injEq, Bool.and_assoc]

theorem first_neg {len : Nat} {p : Nat → Prop} {r : Int} (h : firstAt len p r) (hr : ¬ r ≥ 0) : ∀ j, j < len → ¬ p j := by
  rcases h with ⟨q, rfl, _⟩ | ⟨_, h⟩
  · omega
  · exact h

theorem others_all {bs : List T_api_Bound} {n : ByteArray} (h : ∀ k (hk : k < bs.length), bs[k].Pod.Name ≠ n) : othersS bs n = bs := by
  unfold othersS
  rw [List.filter_eq_self]
  intro b hb
  obtain ⟨i, hi, rfl⟩ := List.getElem_of_mem hb
  simpa using h i hi

end Go.Proofs.YtmpkpnclmihdnaaGreat.M
/-
  Plain laws: which taints are borne. Own text.
-/
namespace Go.Proofs.YtmpkpnclmihdnaaGreat.M
open Go Go.Proofs Go.Proofs.YtmpkpnclmihdnaaGreat.V
set_option linter.unusedVariables false

def bearB (t : T_api_Toleration) (x : T_api_Taint) : Bool := ((decide (t.Effect = 0) || decide (t.Effect = x.Effect)) && (decide (t.Key = ⟨#[]⟩) || decide (t.Key = x.Key))) && (t.Any || decide (t.Val = x.Val))
theorem tbear_eq (t : T_api_Toleration) (x : T_api_Taint) : taints_Bears t x = some (bearB t x) := by
  unfold taints_Bears bearB
  simp only [seq_eq]
  by_cases a : t.Effect = 0 <;> by_cases b : t.Effect = x.Effect <;> by_cases c : t.Key = ⟨#[]⟩ <;> by_cases d : t.Key = x.Key <;> simp [a, b, c, d]
def borneB (l : List T_api_Toleration) (x : T_api_Taint) : Bool := l.any fun t => bearB t x
theorem borne_eq (l : List T_api_Toleration) (x : T_api_Taint) : taints_borne l x = some (borneB l x) := by
  unfold taints_borne borneB
  have key : ∀ (l : List T_api_Toleration) (k : Nat), taints_borne.l1 x l k = some (if (l.any fun t => bearB t x) = true then Out.ret true else Out.go ()) := by
    intro l
    induction l with
    | nil => intro k; rfl
    | cons t l ih =>
      intro k
      rw [taints_borne.l1, ih, List.any_cons, tbear_eq]
      cases bearB t x <;> rfl
  rw [key]
  cases l.any fun t => bearB t x <;> rfl
theorem Unborne_eq (l : List T_api_Toleration) (ts : List T_api_Taint) (e : Int) (h : ts.length ≤ 1000) : taints_Unborne l ts e = some (ts.filter fun x => (decide (e = 0) || decide (x.Effect = e)) && !borneB l x) := by
  unfold taints_Unborne taints_some_taints_Unborne_1
  have key : ∀ (ts : List T_api_Taint) (k : Nat) (acc : List T_api_Taint), ts.length + acc.length ≤ 1000 → taints_some_taints_Unborne_1.l1 e l ts k acc = some (acc ++ ts.filter fun x => (decide (e = 0) || decide (x.Effect = e)) && !borneB l x) := by
    intro ts
    induction ts with
    | nil => intro k acc _; simp [taints_some_taints_Unborne_1.l1]
    | cons x ts ih =>
      intro k acc h
      rw [List.length_cons] at h
      have hq : taints_Unborne_1 x e l = some ((decide (e = 0) || decide (x.Effect = e)) && !borneB l x) := by
        unfold taints_Unborne_1 taints_of
        rw [borne_eq]
        by_cases a : e = 0 <;> by_cases b : x.Effect = e <;> simp [a, b]
      rw [taints_some_taints_Unborne_1.l1, hq]
      simp only [Option.bind_some]
      cases hc : ((decide (e = 0) || decide (x.Effect = e)) && !borneB l x) with
      | true =>
        rw [if_pos rfl, ap_ok (by omega) (by simp; omega)]
        simp only [Option.bind_some]
        rw [ih (k + 1) _ (by simp; omega)]
        simp only [List.filter_cons, hc, if_true]
        simp
      | false =>
        rw [if_neg (by simp), ih (k + 1) _ (by omega)]
        simp only [List.filter_cons, hc, Bool.false_eq_true, if_false]
  rw [key ts 0 [] (by simpa using h)]
  rfl
end Go.Proofs.YtmpkpnclmihdnaaGreat.M
/-
  Plain laws: labels, terms, taints, and whether a pod suits a machine, told alike by the program and the document. Own text.
-/
namespace Go.Proofs.YtmpkpnclmihdnaaGreat.M
open Go Go.Proofs Go.Proofs.YtmpkpnclmihdnaaGreat.V
set_option linter.unusedVariables false

/-! loops that gather -/
theorem idxFoldL {α σ τ : Type} {F : Nat → σ → Int → Option τ} {l : List α} (f : σ → α → σ) (h : σ → τ) (I : Nat → σ → Prop) (hl : l.length < 1000000000000)
    (hs : ∀ n s (k : Nat) (hk : k < l.length), I k s → F (n + 1) s (k : Int) = F n (f s l[k]) ((k + 1 : Nat) : Int) ∧ I (k + 1) (f s l[k])) (he : ∀ n s, F (n + 1) s (l.length : Int) = some (h s)) (s0 : σ) (h0 : I 0 s0) :
    F FU s0 0 = some (h (l.foldl f s0)) := by
  have key : ∀ (m k n : Nat) (s : σ), l.length - k ≤ m → m < n → k ≤ l.length → I k s → F n s (k : Int) = some (h ((l.drop k).foldl f s)) := by
    intro m
    induction m with
    | zero =>
      intro k n s h1 h2 h3 h4
      obtain ⟨n, rfl⟩ : ∃ q, n = q + 1 := ⟨n - 1, by omega⟩
      obtain rfl : k = l.length := by omega
      rw [he, List.drop_eq_nil_of_le (Nat.le_refl _)]; rfl
    | succ m ih =>
      intro k n s h1 h2 h3 h4
      obtain ⟨n, rfl⟩ : ∃ q, n = q + 1 := ⟨n - 1, by omega⟩
      by_cases hk : k < l.length
      · obtain ⟨a, b⟩ := hs n s k hk h4
        rw [a, ih (k + 1) n _ (by omega) (by omega) (by omega) b, List.drop_eq_getElem_cons hk]; rfl
      · obtain rfl : k = l.length := by omega
        rw [he, List.drop_eq_nil_of_le (Nat.le_refl _)]; rfl
  have := key l.length 0 FU s0 (by omega) (by unfold FU; omega) (Nat.zero_le _) h0
  rw [List.drop_zero] at this
  exact this

theorem idxFindL {α ρ : Type} {F : Nat → Int → Option (Out ρ Unit)} {l : List α} (q : α → Bool) (v : α → ρ) (hl : l.length < 1000000000000)
    (hs : ∀ n (k : Nat) (hk : k < l.length), F (n + 1) (k : Int) = if q l[k] = true then some (Out.ret (v l[k])) else F n ((k + 1 : Nat) : Int)) (he : ∀ n, F (n + 1) (l.length : Int) = some (Out.go ())) :
    F FU 0 = some (match l.find? q with | some x => Out.ret (v x) | none => Out.go ()) := by
  have key : ∀ (m k n : Nat), l.length - k ≤ m → m < n → k ≤ l.length → F n (k : Int) = some (match (l.drop k).find? q with | some x => Out.ret (v x) | none => Out.go ()) := by
    intro m
    induction m with
    | zero =>
      intro k n h1 h2 h3
      obtain ⟨n, rfl⟩ : ∃ q, n = q + 1 := ⟨n - 1, by omega⟩
      obtain rfl : k = l.length := by omega
      rw [he, List.drop_eq_nil_of_le (Nat.le_refl _)]; rfl
    | succ m ih =>
      intro k n h1 h2 h3
      obtain ⟨n, rfl⟩ : ∃ q, n = q + 1 := ⟨n - 1, by omega⟩
      by_cases hk : k < l.length
      · rw [hs n k hk, List.drop_eq_getElem_cons hk, List.find?_cons]
        cases hq : q l[k] with
        | true => rfl
        | false => rw [if_neg (by simp), ih (k + 1) n (by omega) (by omega) (by omega)]
      · obtain rfl : k = l.length := by omega
        rw [he, List.drop_eq_nil_of_le (Nat.le_refl _)]; rfl
  have := key l.length 0 FU (by omega) (by unfold FU; omega) (Nat.zero_le _)
  rw [List.drop_zero] at this
  exact this

/-- Labels in order. -/
def sortedL (l : List T_api_Label) : Prop := l.Pairwise fun a b => V.slt a.Key b.Key = true

theorem sorted_of {l : List T_api_Label} (h : LL l) (hr : ref05_Right l = some true) : sortedL l := by
  obtain ⟨hl, hs⟩ := h
  unfold ref05_Right at hr
  split at hr
  · cases hr
  have hstep : ∀ k (hk : k < l.length), 0 < k → V.slt (l[k - 1]'(by omega)).Key l[k].Key = true := by
    rcases loopI (F := fun n i => ref05_Right.l1 l n i) (Q := fun r => r = false) (S := fun k => ∀ hk : k < l.length, 0 < k → V.slt (l[k - 1]'(by omega)).Key l[k].Key = true) (len := l.length) (by omega) (fun n k hk => by
        have hsk := hs k hk
        rw [ref05_Right.l1, if_pos (dlt hk), glk hk, wk1 (by omega)]
        simp only [Option.bind_some]
        obtain ⟨w, hw⟩ := Word_tot (s := l[k].Key) (by omega)
        obtain ⟨mb, hmb⟩ := maybe5_tot hsk.2
        rw [hw]
        simp only [Option.bind_some, hmb]
        by_cases h0 : 0 < k
        · have h0' : (decide ((k : Int) > 0)) = true := by simp; omega
          simp only [h0', if_true, glp hk h0 (by omega), Option.bind_some]
          rw [Less_eq (hs (k - 1) (by omega)).1 hsk.1]
          cases hlt : V.slt (l[k - 1]'(by omega)).Key l[k].Key with
          | false => left; cases w <;> cases mb <;> exact ⟨false, rfl, rfl⟩
          | true =>
            cases w
            · exact .inl ⟨false, rfl, rfl⟩
            · cases mb
              · exact .inl ⟨false, rfl, rfl⟩
              · exact .inr ⟨rfl, fun _ _ => hlt⟩
        · have h0' : (decide ((k : Int) > 0)) = false := by simp; omega
          simp only [h0', Bool.false_eq_true, if_false, Option.bind_some]
          cases w
          · exact .inl ⟨false, rfl, rfl⟩
          · cases mb
            · exact .inl ⟨false, rfl, rfl⟩
            · exact .inr ⟨rfl, fun _ q => absurd q h0⟩) (fun n => by rw [ref05_Right.l1, if_neg dnl]) with ⟨r, h1, rfl⟩ | ⟨h1, h2⟩
    · rw [h1] at hr; cases hr
    · exact fun k hk h0 => h2 k hk hk h0
  unfold sortedL
  rw [List.pairwise_iff_getElem]
  have key : ∀ (d i j : Nat) (hi : i < l.length) (hj : j < l.length), j = i + d + 1 → V.slt l[i].Key l[j].Key = true := by
    intro d
    induction d with
    | zero =>
      intro i j hi hj e
      subst e
      have := hstep (i + 1) hj (by omega)
      exact this
    | succ d ih =>
      intro i j hi hj e
      have h1 := ih i (j - 1) hi (by omega) (by omega)
      have h2 := hstep j hj (by omega)
      exact slt_trans h1 h2
  intro i j hi hj hij
  exact key (j - i - 1) i j hi hj (by omega)

def getS (l : List T_api_Label) (key : ByteArray) : ByteArray × Bool := match l.find? (fun x => decide (x.Key = key)) with | some x => (x.Val, true) | none => (⟨#[]⟩, false)
theorem Get5_eq {l : List T_api_Label} (hl : l.length ≤ 1000) (key : ByteArray) : ref05_Get l key = some (getS l key) := by
  unfold ref05_Get getS
  have := idxFindL (F := fun n i => ref05_Get.l1 l key n i) (l := l) (fun x => decide (x.Key = key)) (fun x => (x.Val, true)) (by omega) (fun n k hk => by
    rw [ref05_Get.l1, if_pos (dlt hk), glk hk, wk1 (by omega)]
    simp only [Option.bind_some, seq_eq]) (fun n => by rw [ref05_Get.l1, if_neg dnl])
  rw [show ref05_Get.l1 l key FU 0 = _ from this]
  cases l.find? (fun x => decide (x.Key = key)) <;> rfl
theorem labels_Get_eq {l : List T_api_Label} (hs : sortedL l) (key : ByteArray) : labels_Get l key = some (getS l key) := by
  unfold labels_Get labels_at
  have hat : ∀ (l2 : List T_api_Label) (k : Nat), l.drop k = l2 → sortedL l2 → ((labels_at.l1 key l2 k).bind fun o => o.on fun j => some ((l.length : Int), false)).bind (fun r => if (!r.2) = true then some ((⟨#[]⟩ : ByteArray), false) else (V.gl l r.1).bind fun x => some (x.Val, true)) = some (getS l2 key) := by
    intro l2
    induction l2 with
    | nil => intro k _ _; rfl
    | cons x l2 ih =>
      intro k hd hs
      have hk : k < l.length := by
        have := congrArg List.length hd
        rw [List.length_drop, List.length_cons] at this
        omega
      have hx : l[k] = x := by
        rw [List.drop_eq_getElem_cons hk] at hd
        exact (List.cons.inj hd).1
      have hd2 : l.drop (k + 1) = l2 := by
        rw [List.drop_eq_getElem_cons hk] at hd
        exact (List.cons.inj hd).2
      rw [labels_at.l1]
      unfold sortedL at hs
      rw [List.pairwise_cons] at hs
      cases h : V.slt x.Key key with
      | true =>
        rw [if_neg (by simp), ih (k + 1) hd2 hs.2]
        unfold getS
        have : ¬ x.Key = key := fun e => by rw [e, slt_irr] at h; cases h
        rw [List.find?_cons, show decide (x.Key = key) = false by simpa using this]
      | false =>
        rw [if_pos (by simp)]
        simp only [Option.bind_some, Out.on, seq_eq]
        unfold getS
        rw [List.find?_cons]
        by_cases e : x.Key = key
        · rw [show decide (x.Key = key) = true by simpa using e]
          simp only [Bool.not_true, Bool.false_eq_true, if_false, glk hk, Option.bind_some, hx]
        · rw [show decide (x.Key = key) = false by simpa using e]
          have : l2.find? (fun x => decide (x.Key = key)) = none := List.find?_eq_none.2 fun y hy => by
            have h1 := hs.1 y hy
            have : ¬ y.Key = key := fun e2 => by
              rw [e2] at h1
              rw [h1] at h; cases h
            simpa using this
          rw [this]
          rfl
  exact hat l 0 rfl hs

theorem Has5_l1 {l s : List T_api_Label} (hl : l.length ≤ 1000) (hs : s.length ≤ 1000) : ref05_Has l s = some (s.all fun x => (getS l x.Key).2 && decide ((getS l x.Key).1 = x.Val)) := by
  unfold ref05_Has
  have := idxAll (F := fun n i => ref05_Has.l1 l s n i) (len := s.length) (r0 := false) (fun k => if hk : k < s.length then (getS l s[k].Key).2 && decide ((getS l s[k].Key).1 = s[k].Val) else true) (by omega) (fun n k hk => by
    rw [ref05_Has.l1, if_pos (dlt hk), glk hk, wk1 (by omega), dif_pos hk]
    simp only [Option.bind_some, Get5_eq hl, seq_eq]
    cases (getS l s[k].Key).2 <;> cases decide ((getS l s[k].Key).1 = s[k].Val) <;> rfl) (fun n => by rw [ref05_Has.l1, if_neg dnl])
  rw [show ref05_Has.l1 l s FU 0 = _ from this]
  have e : allN s.length (fun k => if hk : k < s.length then (getS l s[k].Key).2 && decide ((getS l s[k].Key).1 = s[k].Val) else true) = s.all fun x => (getS l x.Key).2 && decide ((getS l x.Key).1 = x.Val) := by
    rw [Bool.eq_iff_iff, allN_iff, List.all_eq_true]
    constructor
    · intro h x hx
      obtain ⟨i, hi, rfl⟩ := List.getElem_of_mem hx
      have := h i hi
      rw [dif_pos hi] at this
      exact this
    · intro h k hk
      rw [dif_pos hk]
      exact h _ (List.getElem_mem hk)
  rw [e]
  cases s.all fun x => (getS l x.Key).2 && decide ((getS l x.Key).1 = x.Val) <;> rfl
theorem labels_Has_eq {l : List T_api_Label} (hs : sortedL l) (s : List T_api_Label) : labels_Has l s = some (s.all fun x => (getS l x.Key).2 && decide ((getS l x.Key).1 = x.Val)) := by
  unfold labels_Has
  have key : ∀ (s : List T_api_Label) (k : Nat), labels_Has.l1 l s k = some (if (s.all fun x => (getS l x.Key).2 && decide ((getS l x.Key).1 = x.Val)) = true then Out.go () else Out.ret false) := by
    intro s
    induction s with
    | nil => intro k; rfl
    | cons x s ih =>
      intro k
      rw [labels_Has.l1, labels_Get_eq hs, ih, List.all_cons]
      simp only [Option.bind_some, seq_eq]
      cases (getS l x.Key).2 <;> cases decide ((getS l x.Key).1 = x.Val) <;> rfl
  rw [key]
  cases s.all fun x => (getS l x.Key).2 && decide ((getS l x.Key).1 = x.Val) <;> rfl
/-- Whether all of some are among labels, told alike. -/
theorem Has_same {l s : List T_api_Label} (hl : l.length ≤ 1000) (hn : s.length ≤ 1000) (hs : sortedL l) : ref05_Has l s = labels_Has l s := by rw [Has5_l1 hl hn, labels_Has_eq hs]
theorem Has5_B {l s : List T_api_Label} (hl : l.length ≤ 1000) (hn : s.length ≤ 1000) (hs : sortedL l) : ref05_Has l s = some (hasB l s) := by rw [Has_same hl hn hs, has_B]

/-! terms -/
def amongS (l : List ByteArray) (s : ByteArray) : Bool := l.any fun x => decide (x = s)
theorem among_eq (l : List ByteArray) (s : ByteArray) : labels_among l s = some (amongS l s) := by
  unfold labels_among amongS
  have key : ∀ (l : List ByteArray) (k : Nat), labels_among.l1 s l k = some (if (l.any fun x => decide (x = s)) = true then Out.ret true else Out.go ()) := by
    intro l
    induction l with
    | nil => intro k; rfl
    | cons x l ih =>
      intro k
      rw [labels_among.l1, ih, List.any_cons, seq_eq]
      cases decide (x = s) <;> rfl
  rw [key]
  cases l.any fun x => decide (x = s) <;> rfl
theorem in5_eq {t : T_api_Term} (r : ByteArray × Bool) (hl : t.Vals.length ≤ 1000) : ref05_Meets.l1 t r FU false 0 = some (r.2 && amongS t.Vals r.1) := by
  have := idxFoldL (F := fun n s i => ref05_Meets.l1 t r n s i) (l := t.Vals) (fun b x => b || (r.2 && decide (x = r.1))) id (fun _ _ => True) (by omega) (fun n s k hk _ => by
    refine ⟨?_, trivial⟩
    rw [ref05_Meets.l1, if_pos (dlt hk), glk hk, wk1 (by omega)]
    simp only [Option.bind_some, seq_eq]
    cases s <;> cases r.2 <;> cases decide (t.Vals[k] = r.1) <;> rfl) (fun n s => by rw [ref05_Meets.l1, if_neg dnl]; rfl) false trivial
  rw [show ref05_Meets.l1 t r FU false 0 = _ from this]
  congr 1
  show t.Vals.foldl (fun b x => b || (r.2 && decide (x = r.1))) false = _
  have key : ∀ (l : List ByteArray) (b : Bool), l.foldl (fun b x => b || (r.2 && decide (x = r.1))) b = (b || (r.2 && amongS l r.1)) := by
    intro l
    induction l with
    | nil => intro b; unfold amongS; simp
    | cons x l ih =>
      intro b
      rw [List.foldl_cons, ih]
      unfold amongS
      rw [List.any_cons]
      cases b <;> cases r.2 <;> cases decide (x = r.1) <;> rfl
  rw [key]
  rfl

/-- What a right term has. -/
theorem term_right {t : T_api_Term} (ht : LT t) (hr : ref05_RightTerm t = some true) : (t.Op = 1 ∨ t.Op = 2 ∨ t.Op = 3 ∨ t.Op = 4 ∨ t.Op = 5 ∨ t.Op = 6) ∧ ((t.Op = 5 ∨ t.Op = 6) → t.Vals.length = 1) := by
  unfold ref05_RightTerm at hr
  obtain ⟨w, _, hr⟩ := Option.bind_eq_some_iff.1 hr
  split at hr
  · cases hr
  by_cases o1 : t.Op = 1
  · rw [o1]; omega
  by_cases o2 : t.Op = 2
  · rw [o2]; omega
  by_cases o3 : t.Op = 3
  · rw [o3]; omega
  by_cases o4 : t.Op = 4
  · rw [o4]; omega
  have e1 : (t.Op == 1) = false := by simpa using o1
  have e2 : (t.Op == 2) = false := by simpa using o2
  have e3 : (t.Op == 3) = false := by simpa using o3
  have e4 : (t.Op == 4) = false := by simpa using o4
  simp only [e1, e2, e3, e4, Bool.false_eq_true, if_false, Option.bind_some] at hr
  by_cases hv : t.Vals.length = 1
  · by_cases o5 : t.Op = 5
    · rw [o5]; omega
    by_cases o6 : t.Op = 6
    · rw [o6]; omega
    have e5 : (t.Op == 5) = false := by simpa using o5
    have e6 : (t.Op == 6) = false := by simpa using o6
    simp only [e5, e6, Bool.false_eq_true, if_false, Option.bind_some] at hr
    cases hr
  · have ev : ((t.Vals.length : Int) != 1) = true := by
      have : ¬ (t.Vals.length : Int) = 1 := by omega
      simpa using this
    rw [ev] at hr
    by_cases o5 : t.Op = 5
    · rw [o5] at hr; simp at hr
    by_cases o6 : t.Op = 6
    · rw [o6] at hr; simp at hr
    have e5 : (t.Op == 5) = false := by simpa using o5
    have e6 : (t.Op == 6) = false := by simpa using o6
    simp only [e5, e6, Bool.false_eq_true, if_false, Option.bind_some] at hr
    cases hr

theorem getS_size {l : List T_api_Label} (h : LL l) (key : ByteArray) : (getS l key).1.size ≤ 300 := by
  unfold getS
  cases e : l.find? (fun x => decide (x.Key = key)) with
  | none => exact Nat.zero_le _
  | some x =>
    have := List.mem_of_find?_eq_some e
    obtain ⟨i, hi, rfl⟩ := List.getElem_of_mem this
    exact (h.2 i hi).2

theorem Meets_same {l : List T_api_Label} (h : LL l) (hs : sortedL l) {t : T_api_Term} (ht : LT t) (hr : ref05_RightTerm t = some true) : ref05_Meets l t = labels_Meets l t := by
  obtain ⟨hop, hv⟩ := term_right ht hr
  have hl := h.1
  have hvl := ht.1
  unfold ref05_Meets labels_Meets
  rw [Get5_eq (by omega), labels_Get_eq hs]
  simp only [Option.bind_some, in5_eq (t := t) (getS l t.Key) (show t.Vals.length ≤ 1000 by omega), among_eq]
  have hsz := getS_size h t.Key
  rcases hop with o | o | o | o | o | o
  · rw [o]; cases (getS l t.Key).2 <;> cases amongS t.Vals (getS l t.Key).1 <;> rfl
  · rw [o]; cases (getS l t.Key).2 <;> cases amongS t.Vals (getS l t.Key).1 <;> rfl
  · rw [o]; rfl
  · rw [o]; rfl
  · have hv1 := hv (.inl o)
    have hg : V.gl t.Vals 0 = some (t.Vals[0]'(by omega)) := by rw [show (0 : Int) = ((0 : Nat) : Int) from rfl, glk (by omega)]
    have hz : (t.Vals[0]'(by omega)).size ≤ 300 := ht.2.2 0 (by omega)
    unfold labels_number
    rw [o, hg, Number_same hsz]
    simp only [Option.bind_some]
    rw [Number_same hz]
    obtain ⟨a, ha⟩ := Number3_tot hsz
    obtain ⟨b, hb⟩ := Number3_tot hz
    rw [ha, hb]
    have e1 : ((t.Vals.length : Int) != 1) = false := by rw [hv1]; rfl
    rw [e1]
    simp only [Option.bind_some]
    have e2 : (a.2 != 0) = !(a.2 == 0) := rfl
    rw [e2]
    cases (getS l t.Key).2 <;> cases (a.2 == 0) <;> simp
  · have hv1 := hv (.inr o)
    have hg : V.gl t.Vals 0 = some (t.Vals[0]'(by omega)) := by rw [show (0 : Int) = ((0 : Nat) : Int) from rfl, glk (by omega)]
    have hz : (t.Vals[0]'(by omega)).size ≤ 300 := ht.2.2 0 (by omega)
    unfold labels_number
    rw [o, hg, Number_same hsz]
    simp only [Option.bind_some]
    rw [Number_same hz]
    obtain ⟨a, ha⟩ := Number3_tot hsz
    obtain ⟨b, hb⟩ := Number3_tot hz
    rw [ha, hb]
    have e1 : ((t.Vals.length : Int) != 1) = false := by rw [hv1]; rfl
    rw [e1]
    simp only [Option.bind_some]
    have e2 : (a.2 != 0) = !(a.2 == 0) := rfl
    rw [e2]
    cases (getS l t.Key).2 <;> cases (a.2 == 0) <;> simp

theorem All_same {l : List T_api_Label} (h : LL l) (hs : sortedL l) {ts : List T_api_Term} (hn : ts.length ≤ 1000) (ht : ∀ k (hk : k < ts.length), LT ts[k] ∧ ref05_RightTerm ts[k] = some true) : ref05_All l ts = labels_All l ts := by
  have hme : ∀ t, t ∈ ts → ref05_Meets l t = labels_Meets l t := fun t hm => by
    obtain ⟨i, hi, rfl⟩ := List.getElem_of_mem hm
    exact Meets_same h hs (ht i hi).1 (ht i hi).2
  have htot : ∀ t, t ∈ ts → labels_Meets l t = some ((labels_Meets l t).getD false) := fun t hm => by
    obtain ⟨i, hi, rfl⟩ := List.getElem_of_mem hm
    exact isD (Meets_tot h (ht i hi).1) false
  unfold ref05_All labels_All
  have hP : labels_All.l1 l ts 0 = some (if allN ts.length (fun k => (labels_Meets l (ts.getD k ⟨⟨#[]⟩, 0, []⟩)).getD false) = true then Out.go () else Out.ret false) :=
    rowAll (G := fun x k => labels_All.l1 l x k) (l := ts) (r0 := false) (fun k => (labels_Meets l (ts.getD k ⟨⟨#[]⟩, 0, []⟩)).getD false) (fun k hk => by
      show labels_All.l1 l (ts[k] :: ts.drop (k + 1)) k = _
      have e : ts.getD k ⟨⟨#[]⟩, 0, []⟩ = ts[k] := by simp [hk]
      rw [labels_All.l1, htot ts[k] (List.getElem_mem _), e]
      simp only [Option.bind_some, Option.getD_some]
      cases (labels_Meets l ts[k]).getD false <;> rfl) (fun k => rfl)
  have hR : ref05_All.l1 l ts FU 0 = some (if allN ts.length (fun k => (labels_Meets l (ts.getD k ⟨⟨#[]⟩, 0, []⟩)).getD false) = true then Out.go () else Out.ret false) :=
    idxAll (F := fun n i => ref05_All.l1 l ts n i) (len := ts.length) (r0 := false) (fun k => (labels_Meets l (ts.getD k ⟨⟨#[]⟩, 0, []⟩)).getD false) (by omega) (fun n k hk => by
      have e : ts.getD k ⟨⟨#[]⟩, 0, []⟩ = ts[k] := by simp [hk]
      rw [ref05_All.l1, if_pos (dlt hk), glk hk, wk1 (by omega), e]
      simp only [Option.bind_some]
      rw [hme ts[k] (List.getElem_mem _), htot ts[k] (List.getElem_mem _)]
      simp only [Option.bind_some, Option.getD_some]
      cases (labels_Meets l ts[k]).getD false <;> rfl) (fun n => by rw [ref05_All.l1, if_neg dnl])
  rw [hP, hR]

/-! taints -/
theorem bear6_eq (t : T_api_Toleration) (x : T_api_Taint) : ref06_Bears t x = some (bearB t x) := by
  unfold ref06_Bears bearB
  simp only [seq_eq]
  rfl
theorem Unborne6_eq (l : List T_api_Toleration) (ts : List T_api_Taint) (h : ts.length ≤ 1000) (hl : l.length ≤ 1000) : ref06_Unborne l ts 0 = some (ts.filter fun x => !borneB l x) := by
  unfold ref06_Unborne
  have := idxFoldL (F := fun n s i => ref06_Unborne.l1 l ts 0 n s i) (l := ts) (fun acc x => if borneB l x = true then acc else acc ++ [x]) id (fun k s => s.length ≤ k) (by omega) (fun n s k hk hI => by
    rw [ref06_Unborne.l1, if_pos (dlt hk), glk hk, wk1 (by omega)]
    have hin : ref06_Unborne.l2 l ts (k : Int) FU false 0 = some (borneB l ts[k]) := by
      have := idxFoldL (F := fun n s i => ref06_Unborne.l2 l ts (k : Int) n s i) (l := l) (fun b t => b || bearB t ts[k]) id (fun _ _ => True) (by omega) (fun n s j hj _ => by
        refine ⟨?_, trivial⟩
        rw [ref06_Unborne.l2, if_pos (dlt hj), glk hj, glk hk, wk1 (by omega)]
        simp only [Option.bind_some, bear6_eq]
        cases s <;> rfl) (fun n s => by rw [ref06_Unborne.l2, if_neg dnl]; rfl) false trivial
      rw [show ref06_Unborne.l2 l ts (k : Int) FU false 0 = _ from this]
      congr 1
      have key : ∀ (l : List T_api_Toleration) (b : Bool), l.foldl (fun b t => b || bearB t ts[k]) b = (b || borneB l ts[k]) := by
        intro l
        induction l with
        | nil => intro b; unfold borneB; simp
        | cons t l ih => intro b; rw [List.foldl_cons, ih]; unfold borneB; rw [List.any_cons, Bool.or_assoc]
      show l.foldl (fun b t => b || bearB t ts[k]) false = _
      rw [key, Bool.false_or]
    rw [if_neg (show ¬ (((0 : Int) != (0 : Int)) = true) by decide)]
    simp only [Option.bind_some, hin]
    cases hb : borneB l ts[k] with
    | true => rw [if_neg (by simp), if_pos rfl]; exact ⟨rfl, by omega⟩
    | false =>
      rw [if_pos (by simp), if_neg (by simp), ap_ok (by omega) (by simp; omega)]
      exact ⟨rfl, by simp; omega⟩) (fun n s => by rw [ref06_Unborne.l1, if_neg dnl]; rfl) [] (by simp)
  rw [show ref06_Unborne.l1 l ts 0 FU [] 0 = _ from this]
  simp only [Option.bind_some, id]
  congr 1
  have key : ∀ (ts acc : List T_api_Taint), ts.foldl (fun acc x => if borneB l x = true then acc else acc ++ [x]) acc = acc ++ ts.filter fun x => !borneB l x := by
    intro ts
    induction ts with
    | nil => intro acc; simp
    | cons x ts ih =>
      intro acc
      rw [List.foldl_cons, ih]
      cases hb : borneB l x with
      | true => rw [if_pos rfl, List.filter_cons_of_neg (by simp [hb])]
      | false => rw [if_neg (by simp), List.filter_cons_of_pos (by simp [hb])]; simp
  rw [key, List.nil_append]

theorem Allows_same (l : List T_api_Toleration) (ts : List T_api_Taint) (h : ts.length ≤ 1000) (hl : l.length ≤ 1000) : ref06_Allows l ts = taints_Allows l ts := by
  have hP : taints_Allows l ts = some (!(ts.any fun x => !borneB l x && (decide (x.Effect = 1) || decide (x.Effect = 3)))) := by
    unfold taints_Allows
    rw [Unborne_eq l ts 1 h, Unborne_eq l ts 3 h]
    simp only [Option.bind_some]
    congr 1
    have l1 := List.length_filter_le (fun x => (decide ((1 : Int) = 0) || decide (x.Effect = 1)) && !borneB l x) ts
    have l2 := List.length_filter_le (fun x => (decide ((3 : Int) = 0) || decide (x.Effect = 3)) && !borneB l x) ts
    rw [w_eq (by omega) (by omega)]
    cases ha : ts.any fun x => !borneB l x && (decide (x.Effect = 1) || decide (x.Effect = 3)) with
    | true =>
      obtain ⟨x, hx, hq⟩ := List.any_eq_true.1 ha
      simp only [Bool.and_eq_true, Bool.or_eq_true, decide_eq_true_eq, Bool.not_eq_true'] at hq
      rcases hq.2 with e | e
      · have : x ∈ ts.filter fun x => (decide ((1 : Int) = 0) || decide (x.Effect = 1)) && !borneB l x := List.mem_filter.2 ⟨hx, by simp [e, hq.1]⟩
        have := List.length_pos_of_mem this
        have hne : ¬ (((ts.filter fun x => (decide ((1 : Int) = 0) || decide (x.Effect = 1)) && !borneB l x).length : Int) + ((ts.filter fun x => (decide ((3 : Int) = 0) || decide (x.Effect = 3)) && !borneB l x).length : Int)) = 0 := by omega
        simpa using hne
      · have : x ∈ ts.filter fun x => (decide ((3 : Int) = 0) || decide (x.Effect = 3)) && !borneB l x := List.mem_filter.2 ⟨hx, by simp [e, hq.1]⟩
        have := List.length_pos_of_mem this
        have hne : ¬ (((ts.filter fun x => (decide ((1 : Int) = 0) || decide (x.Effect = 1)) && !borneB l x).length : Int) + ((ts.filter fun x => (decide ((3 : Int) = 0) || decide (x.Effect = 3)) && !borneB l x).length : Int)) = 0 := by omega
        simpa using hne
    | false =>
      have e1 : (ts.filter fun x => (decide ((1 : Int) = 0) || decide (x.Effect = 1)) && !borneB l x) = [] := List.filter_eq_nil_iff.2 fun x hx => by
        have := List.any_eq_false.1 ha x hx
        intro q
        simp only [Bool.and_eq_true, Bool.or_eq_true, decide_eq_true_eq, Bool.not_eq_true'] at q
        apply this
        rcases q.1 with z | z
        · omega
        · simp [q.2, z]
      have e2 : (ts.filter fun x => (decide ((3 : Int) = 0) || decide (x.Effect = 3)) && !borneB l x) = [] := List.filter_eq_nil_iff.2 fun x hx => by
        have := List.any_eq_false.1 ha x hx
        intro q
        simp only [Bool.and_eq_true, Bool.or_eq_true, decide_eq_true_eq, Bool.not_eq_true'] at q
        apply this
        rcases q.1 with z | z
        · omega
        · simp [q.2, z]
      rw [e1, e2]
      rfl
  rw [hP]
  unfold ref06_Allows
  rw [Unborne6_eq l ts h hl]
  simp only [Option.bind_some]
  have hlen : (ts.filter fun x => !borneB l x).length ≤ 1000 := by
    have := List.length_filter_le (fun x => !borneB l x) ts
    omega
  have := idxFindL (F := fun n i => ref06_Allows.l1 (ts.filter fun x => !borneB l x) n i) (l := ts.filter fun x => !borneB l x) (fun x => (x.Effect == 1) || (x.Effect == 3)) (fun _ => false) (by omega) (fun n k hk => by
    rw [ref06_Allows.l1, if_pos (dlt hk), glk hk, wk1 (by omega)]
    rfl) (fun n => by rw [ref06_Allows.l1, if_neg dnl])
  rw [show ref06_Allows.l1 (ts.filter fun x => !borneB l x) FU 0 = _ from this, List.find?_filter]
  have e : ts.any (fun x => !borneB l x && (decide (x.Effect = 1) || decide (x.Effect = 3))) = (ts.find? fun a => decide ((!borneB l a) = true ∧ ((a.Effect == 1) || (a.Effect == 3)) = true)).isSome := by
    rw [Bool.eq_iff_iff, List.any_eq_true, List.find?_isSome]
    simp
  rw [e]
  cases ts.find? fun a => decide ((!borneB l a) = true ∧ ((a.Effect == 1) || (a.Effect == 3)) = true) <;> rfl
end Go.Proofs.YtmpkpnclmihdnaaGreat.M

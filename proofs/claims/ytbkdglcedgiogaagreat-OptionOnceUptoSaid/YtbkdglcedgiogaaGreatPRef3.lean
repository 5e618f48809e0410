/-
  Printed by a program of this session out of the loaded functions: models and their proofs. Own text.
-/
import Derived.Test.YtbkdglcedgiogaaGreatPRef9
import Derived.Test.YtbkdglcedgiogaaGreatPFitW
import Derived.Test.YtbkdglcedgiogaaGreatPBor
import Derived.Test.YtbkdglcedgiogaaGreatPRk
/-
  Plain laws: labels, terms, taints, and whether a pod suits a machine, told alike by the program and the document. Own text.
-/
namespace Go.Proofs.YtbkdglcedgiogaaGreat.M
open Go Go.Proofs Go.Proofs.YtbkdglcedgiogaaGreat.V
set_option linter.unusedVariables false

/-! loops that gather -/
theorem idxFoldL {α σ τ : Type} {F : Nat → σ → Int → Option τ} {l : List α} (f : σ → α → σ) (h : σ → τ) (I : Nat → σ → Prop) (hl : l.length < 1000000000000)
    (hs : ∀ n s (k : Nat) (hk : k < l.length), I k s → F (n + 1) s (k : Int) = F n (f s l[k]) ((k + 1 : Nat) : Int) ∧ I (k + 1) (f s l[k])) (he : ∀ n s, F (n + 1) s (l.length : Int) = some (h s)) (s0 : σ) (h0 : I 0 s0) :
    F FU s0 0 = some (h (l.foldl f s0)) := by
  have key : ∀ (m k n : Nat) (s : σ), l.length - k ≤ m → m < n → k ≤ l.length → I k s → F n s (k : Int) = some (h ((l.drop k).foldl f s)) := by
    intro m
    induction m with
    | zero =>
      intro k n s h1 h2 h3 h4
      obtain ⟨n, rfl⟩ : ∃ q, n = q + 1 := ⟨n - 1, by omega⟩
      obtain rfl : k = l.length := by omega
      rw [he, List.drop_eq_nil_of_le (Nat.le_refl _)]; rfl
    | succ m ih =>
      intro k n s h1 h2 h3 h4
      obtain ⟨n, rfl⟩ : ∃ q, n = q + 1 := ⟨n - 1, by omega⟩
      by_cases hk : k < l.length
      · obtain ⟨a, b⟩ := hs n s k hk h4
        rw [a, ih (k + 1) n _ (by omega) (by omega) (by omega) b, List.drop_eq_getElem_cons hk]; rfl
      · obtain rfl : k = l.length := by omega
        rw [he, List.drop_eq_nil_of_le (Nat.le_refl _)]; rfl
  have := key l.length 0 FU s0 (by omega) (by unfold FU; omega) (Nat.zero_le _) h0
  rw [List.drop_zero] at this
  exact this

theorem idxFindL {α ρ : Type} {F : Nat → Int → Option (Out ρ Unit)} {l : List α} (q : α → Bool) (v : α → ρ) (hl : l.length < 1000000000000)
    (hs : ∀ n (k : Nat) (hk : k < l.length), F (n + 1) (k : Int) = if q l[k] = true then some (Out.ret (v l[k])) else F n ((k + 1 : Nat) : Int)) (he : ∀ n, F (n + 1) (l.length : Int) = some (Out.go ())) :
    F FU 0 = some (match l.find? q with | some x => Out.ret (v x) | none => Out.go ()) := by
  have key : ∀ (m k n : Nat), l.length - k ≤ m → m < n → k ≤ l.length → F n (k : Int) = some (match (l.drop k).find? q with | some x => Out.ret (v x) | none => Out.go ()) := by
    intro m
    induction m with
    | zero =>
      intro k n h1 h2 h3
      obtain ⟨n, rfl⟩ : ∃ q, n = q + 1 := ⟨n - 1, by omega⟩
      obtain rfl : k = l.length := by omega
      rw [he, List.drop_eq_nil_of_le (Nat.le_refl _)]; rfl
    | succ m ih =>
      intro k n h1 h2 h3
      obtain ⟨n, rfl⟩ : ∃ q, n = q + 1 := ⟨n - 1, by omega⟩
      by_cases hk : k < l.length
      · rw [hs n k hk, List.drop_eq_getElem_cons hk, List.find?_cons]
        cases hq : q l[k] with
        | true => rfl
        | false => rw [if_neg (by simp), ih (k + 1) n (by omega) (by omega) (by omega)]
      · obtain rfl : k = l.length := by omega
        rw [he, List.drop_eq_nil_of_le (Nat.le_refl _)]; rfl
  have := key l.length 0 FU (by omega) (by unfold FU; omega) (Nat.zero_le _)
  rw [List.drop_zero] at this
  exact this

/-- Labels in order. -/
def sortedL (l : List T_api_Label) : Prop := l.Pairwise fun a b => V.slt a.Key b.Key = true

theorem sorted_of {l : List T_api_Label} (h : LL l) (hr : ref05_Right l = some true) : sortedL l := by
  obtain ⟨hl, hs⟩ := h
  unfold ref05_Right at hr
  split at hr
  · cases hr
  have hstep : ∀ k (hk : k < l.length), 0 < k → V.slt (l[k - 1]'(by omega)).Key l[k].Key = true := by
    rcases loopI (F := fun n i => ref05_Right.l1 l n i) (Q := fun r => r = false) (S := fun k => ∀ hk : k < l.length, 0 < k → V.slt (l[k - 1]'(by omega)).Key l[k].Key = true) (len := l.length) (by omega) (fun n k hk => by
        have hsk := hs k hk
        rw [ref05_Right.l1, if_pos (dlt hk), glk hk, wk1 (by omega)]
        simp only [Option.bind_some]
        obtain ⟨w, hw⟩ := Word_tot (s := l[k].Key) (by omega)
        obtain ⟨mb, hmb⟩ := maybe5_tot hsk.2
        rw [hw]
        simp only [Option.bind_some, hmb]
        by_cases h0 : 0 < k
        · have h0' : (decide ((k : Int) > 0)) = true := by simp; omega
          simp only [h0', if_true, glp hk h0 (by omega), Option.bind_some]
          rw [Less_eq (hs (k - 1) (by omega)).1 hsk.1]
          cases hlt : V.slt (l[k - 1]'(by omega)).Key l[k].Key with
          | false => left; cases w <;> cases mb <;> exact ⟨false, rfl, rfl⟩
          | true =>
            cases w
            · exact .inl ⟨false, rfl, rfl⟩
            · cases mb
              · exact .inl ⟨false, rfl, rfl⟩
              · exact .inr ⟨rfl, fun _ _ => hlt⟩
        · have h0' : (decide ((k : Int) > 0)) = false := by simp; omega
          simp only [h0', Bool.false_eq_true, if_false, Option.bind_some]
          cases w
          · exact .inl ⟨false, rfl, rfl⟩
          · cases mb
            · exact .inl ⟨false, rfl, rfl⟩
            · exact .inr ⟨rfl, fun _ q => absurd q h0⟩) (fun n => by rw [ref05_Right.l1, if_neg dnl]) with ⟨r, h1, rfl⟩ | ⟨h1, h2⟩
    · rw [h1] at hr; cases hr
    · exact fun k hk h0 => h2 k hk hk h0
  unfold sortedL
  rw [List.pairwise_iff_getElem]
  have key : ∀ (d i j : Nat) (hi : i < l.length) (hj : j < l.length), j = i + d + 1 → V.slt l[i].Key l[j].Key = true := by
    intro d
    induction d with
    | zero =>
      intro i j hi hj e
      subst e
      have := hstep (i + 1) hj (by omega)
      exact this
    | succ d ih =>
      intro i j hi hj e
      have h1 := ih i (j - 1) hi (by omega) (by omega)
      have h2 := hstep j hj (by omega)
      exact slt_trans h1 h2
  intro i j hi hj hij
  exact key (j - i - 1) i j hi hj (by omega)

def getS (l : List T_api_Label) (key : ByteArray) : ByteArray × Bool := match l.find? (fun x => decide (x.Key = key)) with | some x => (x.Val, true) | none => (⟨#[]⟩, false)
theorem Get5_eq {l : List T_api_Label} (hl : l.length ≤ 1000) (key : ByteArray) : ref05_Get l key = some (getS l key) := by
  unfold ref05_Get getS
  have := idxFindL (F := fun n i => ref05_Get.l1 l key n i) (l := l) (fun x => decide (x.Key = key)) (fun x => (x.Val, true)) (by omega) (fun n k hk => by
    rw [ref05_Get.l1, if_pos (dlt hk), glk hk, wk1 (by omega)]
    simp only [Option.bind_some, seq_eq]) (fun n => by rw [ref05_Get.l1, if_neg dnl])
  rw [show ref05_Get.l1 l key FU 0 = _ from this]
  cases l.find? (fun x => decide (x.Key = key)) <;> rfl
theorem labels_Get_eq {l : List T_api_Label} (hs : sortedL l) (key : ByteArray) : labels_Get l key = some (getS l key) := by
  unfold labels_Get labels_at
  have hat : ∀ (l2 : List T_api_Label) (k : Nat), l.drop k = l2 → sortedL l2 → ((labels_at.l1 key l2 k).bind fun o => o.on fun j => some ((l.length : Int), false)).bind (fun r => if (!r.2) = true then some ((⟨#[]⟩ : ByteArray), false) else (V.gl l r.1).bind fun x => some (x.Val, true)) = some (getS l2 key) := by
    intro l2
    induction l2 with
    | nil => intro k _ _; rfl
    | cons x l2 ih =>
      intro k hd hs
      have hk : k < l.length := by
        have := congrArg List.length hd
        rw [List.length_drop, List.length_cons] at this
        omega
      have hx : l[k] = x := by
        rw [List.drop_eq_getElem_cons hk] at hd
        exact (List.cons.inj hd).1
      have hd2 : l.drop (k + 1) = l2 := by
        rw [List.drop_eq_getElem_cons hk] at hd
        exact (List.cons.inj hd).2
      rw [labels_at.l1]
      unfold sortedL at hs
      rw [List.pairwise_cons] at hs
      cases h : V.slt x.Key key with
      | true =>
        rw [if_neg (by simp), ih (k + 1) hd2 hs.2]
        unfold getS
        have : ¬ x.Key = key := fun e => by rw [e, slt_irr] at h; cases h
        rw [List.find?_cons, show decide (x.Key = key) = false by simpa using this]
      | false =>
        rw [if_pos (by simp)]
        simp only [Option.bind_some, Out.on, seq_eq]
        unfold getS
        rw [List.find?_cons]
        by_cases e : x.Key = key
        · rw [show decide (x.Key = key) = true by simpa using e]
          simp only [Bool.not_true, Bool.false_eq_true, if_false, glk hk, Option.bind_some, hx]
        · rw [show decide (x.Key = key) = false by simpa using e]
          have : l2.find? (fun x => decide (x.Key = key)) = none := List.find?_eq_none.2 fun y hy => by
            have h1 := hs.1 y hy
            have : ¬ y.Key = key := fun e2 => by
              rw [e2] at h1
              rw [h1] at h; cases h
            simpa using this
          rw [this]
          rfl
  exact hat l 0 rfl hs

theorem Has5_l1 {l s : List T_api_Label} (hl : l.length ≤ 1000) (hs : s.length ≤ 1000) : ref05_Has l s = some (s.all fun x => (getS l x.Key).2 && decide ((getS l x.Key).1 = x.Val)) := by
  unfold ref05_Has
  have := idxAll (F := fun n i => ref05_Has.l1 l s n i) (len := s.length) (r0 := false) (fun k => if hk : k < s.length then (getS l s[k].Key).2 && decide ((getS l s[k].Key).1 = s[k].Val) else true) (by omega) (fun n k hk => by
    rw [ref05_Has.l1, if_pos (dlt hk), glk hk, wk1 (by omega), dif_pos hk]
    simp only [Option.bind_some, Get5_eq hl, seq_eq]
    cases (getS l s[k].Key).2 <;> cases decide ((getS l s[k].Key).1 = s[k].Val) <;> rfl) (fun n => by rw [ref05_Has.l1, if_neg dnl])
  rw [show ref05_Has.l1 l s FU 0 = _ from this]
  have e : allN s.length (fun k => if hk : k < s.length then (getS l s[k].Key).2 && decide ((getS l s[k].Key).1 = s[k].Val) else true) = s.all fun x => (getS l x.Key).2 && decide ((getS l x.Key).1 = x.Val) := by
    rw [Bool.eq_iff_iff, allN_iff, List.all_eq_true]
    constructor
    · intro h x hx
      obtain ⟨i, hi, rfl⟩ := List.getElem_of_mem hx
      have := h i hi
      rw [dif_pos hi] at this
      exact this
    · intro h k hk
      rw [dif_pos hk]
      exact h _ (List.getElem_mem hk)
  rw [e]
  cases s.all fun x => (getS l x.Key).2 && decide ((getS l x.Key).1 = x.Val) <;> rfl
theorem labels_Has_eq {l : List T_api_Label} (hs : sortedL l) (s : List T_api_Label) : labels_Has l s = some (s.all fun x => (getS l x.Key).2 && decide ((getS l x.Key).1 = x.Val)) := by
  unfold labels_Has
  have key : ∀ (s : List T_api_Label) (k : Nat), labels_Has.l1 l s k = some (if (s.all fun x => (getS l x.Key).2 && decide ((getS l x.Key).1 = x.Val)) = true then Out.go () else Out.ret false) := by
    intro s
    induction s with
    | nil => intro k; rfl
    | cons x s ih =>
      intro k
      rw [labels_Has.l1, labels_Get_eq hs, ih, List.all_cons]
      simp only [Option.bind_some, seq_eq]
      cases (getS l x.Key).2 <;> cases decide ((getS l x.Key).1 = x.Val) <;> rfl
  rw [key]
  cases s.all fun x => (getS l x.Key).2 && decide ((getS l x.Key).1 = x.Val) <;> rfl
/-- Whether all of some are among labels, told alike. -/
theorem Has_same {l s : List T_api_Label} (hl : l.length ≤ 1000) (hn : s.length ≤ 1000) (hs : sortedL l) : ref05_Has l s = labels_Has l s := by rw [Has5_l1 hl hn, labels_Has_eq hs]
theorem Has5_B {l s : List T_api_Label} (hl : l.length ≤ 1000) (hn : s.length ≤ 1000) (hs : sortedL l) : ref05_Has l s = some (hasB l s) := by rw [Has_same hl hn hs, has_B]

/-! terms -/
def amongS (l : List ByteArray) (s : ByteArray) : Bool := l.any fun x => decide (x = s)
theorem among_eq (l : List ByteArray) (s : ByteArray) : labels_among l s = some (amongS l s) := by
  unfold labels_among amongS
  have key : ∀ (l : List ByteArray) (k : Nat), labels_among.l1 s l k = some (if (l.any fun x => decide (x = s)) = true then Out.ret true else Out.go ()) := by
    intro l
    induction l with
    | nil => intro k; rfl
    | cons x l ih =>
      intro k
      rw [labels_among.l1, ih, List.any_cons, seq_eq]
      cases decide (x = s) <;> rfl
  rw [key]
  cases l.any fun x => decide (x = s) <;> rfl
theorem in5_eq {t : T_api_Term} (r : ByteArray × Bool) (hl : t.Vals.length ≤ 1000) : ref05_Meets.l1 t r FU false 0 = some (r.2 && amongS t.Vals r.1) := by
  have := idxFoldL (F := fun n s i => ref05_Meets.l1 t r n s i) (l := t.Vals) (fun b x => b || (r.2 && decide (x = r.1))) id (fun _ _ => True) (by omega) (fun n s k hk _ => by
    refine ⟨?_, trivial⟩
    rw [ref05_Meets.l1, if_pos (dlt hk), glk hk, wk1 (by omega)]
    simp only [Option.bind_some, seq_eq]
    cases s <;> cases r.2 <;> cases decide (t.Vals[k] = r.1) <;> rfl) (fun n s => by rw [ref05_Meets.l1, if_neg dnl]; rfl) false trivial
  rw [show ref05_Meets.l1 t r FU false 0 = _ from this]
  congr 1
  show t.Vals.foldl (fun b x => b || (r.2 && decide (x = r.1))) false = _
  have key : ∀ (l : List ByteArray) (b : Bool), l.foldl (fun b x => b || (r.2 && decide (x = r.1))) b = (b || (r.2 && amongS l r.1)) := by
    intro l
    induction l with
    | nil => intro b; unfold amongS; simp
    | cons x l ih =>
      intro b
      rw [List.foldl_cons, ih]
      unfold amongS
      rw [List.any_cons]
      cases b <;> cases r.2 <;> cases decide (x = r.1) <;> rfl
  rw [key]
  rfl

/-- What a right term has. -/
theorem term_right {t : T_api_Term} (ht : LT t) (hr : ref05_RightTerm t = some true) : (t.Op = 1 ∨ t.Op = 2 ∨ t.Op = 3 ∨ t.Op = 4 ∨ t.Op = 5 ∨ t.Op = 6) ∧ ((t.Op = 5 ∨ t.Op = 6) → t.Vals.length = 1) := by
  unfold ref05_RightTerm at hr
  obtain ⟨w, _, hr⟩ := Option.bind_eq_some_iff.1 hr
  split at hr
  · cases hr
  by_cases o1 : t.Op = 1
  · rw [o1]; omega
  by_cases o2 : t.Op = 2
  · rw [o2]; omega
  by_cases o3 : t.Op = 3
  · rw [o3]; omega
  by_cases o4 : t.Op = 4
  · rw [o4]; omega
  have e1 : (t.Op == 1) = false := by simpa using o1
  have e2 : (t.Op == 2) = false := by simpa using o2
  have e3 : (t.Op == 3) = false := by simpa using o3
  have e4 : (t.Op == 4) = false := by simpa using o4
  simp only [e1, e2, e3, e4, Bool.false_eq_true, if_false, Option.bind_some] at hr
  by_cases hv : t.Vals.length = 1
  · by_cases o5 : t.Op = 5
    · rw [o5]; omega
    by_cases o6 : t.Op = 6
    · rw [o6]; omega
    have e5 : (t.Op == 5) = false := by simpa using o5
    have e6 : (t.Op == 6) = false := by simpa using o6
    simp only [e5, e6, Bool.false_eq_true, if_false, Option.bind_some] at hr
    cases hr
  · have ev : ((t.Vals.length : Int) != 1) = true := by
      have : ¬ (t.Vals.length : Int) = 1 := by omega
      simpa using this
    rw [ev] at hr
    by_cases o5 : t.Op = 5
    · rw [o5] at hr; simp at hr
    by_cases o6 : t.Op = 6
    · rw [o6] at hr; simp at hr
    have e5 : (t.Op == 5) = false := by simpa using o5
    have e6 : (t.Op == 6) = false := by simpa using o6
    simp only [e5, e6, Bool.false_eq_true, if_false, Option.bind_some] at hr
    cases hr

theorem getS_size {l : List T_api_Label} (h : LL l) (key : ByteArray) : (getS l key).1.size ≤ 300 := by
  unfold getS
  cases e : l.find? (fun x => decide (x.Key = key)) with
  | none => exact Nat.zero_le _
  | some x =>
    have := List.mem_of_find?_eq_some e
    obtain ⟨i, hi, rfl⟩ := List.getElem_of_mem this
    exact (h.2 i hi).2

theorem Meets_same {l : List T_api_Label} (h : LL l) (hs : sortedL l) {t : T_api_Term} (ht : LT t) (hr : ref05_RightTerm t = some true) : ref05_Meets l t = labels_Meets l t := by
  obtain ⟨hop, hv⟩ := term_right ht hr
  have hl := h.1
  have hvl := ht.1
  unfold ref05_Meets labels_Meets
  rw [Get5_eq (by omega), labels_Get_eq hs]
  simp only [Option.bind_some, in5_eq (t := t) (getS l t.Key) (show t.Vals.length ≤ 1000 by omega), among_eq]
  have hsz := getS_size h t.Key
  rcases hop with o | o | o | o | o | o
  · rw [o]; cases (getS l t.Key).2 <;> cases amongS t.Vals (getS l t.Key).1 <;> rfl
  · rw [o]; cases (getS l t.Key).2 <;> cases amongS t.Vals (getS l t.Key).1 <;> rfl
  · rw [o]; rfl
  · rw [o]; rfl
  · have hv1 := hv (.inl o)
    have hg : V.gl t.Vals 0 = some (t.Vals[0]'(by omega)) := by rw [show (0 : Int) = ((0 : Nat) : Int) from rfl, glk (by omega)]
    have hz : (t.Vals[0]'(by omega)).size ≤ 300 := ht.2.2 0 (by omega)
    unfold labels_number
    rw [o, hg, Number_same hsz]
    simp only [Option.bind_some]
    rw [Number_same hz]
    obtain ⟨a, ha⟩ := Number3_tot hsz
    obtain ⟨b, hb⟩ := Number3_tot hz
    rw [ha, hb]
    have e1 : ((t.Vals.length : Int) != 1) = false := by rw [hv1]; rfl
    rw [e1]
    simp only [Option.bind_some]
    have e2 : (a.2 != 0) = !(a.2 == 0) := rfl
    rw [e2]
    cases (getS l t.Key).2 <;> cases (a.2 == 0) <;> simp
  · have hv1 := hv (.inr o)
    have hg : V.gl t.Vals 0 = some (t.Vals[0]'(by omega)) := by rw [show (0 : Int) = ((0 : Nat) : Int) from rfl, glk (by omega)]
    have hz : (t.Vals[0]'(by omega)).size ≤ 300 := ht.2.2 0 (by omega)
    unfold labels_number
    rw [o, hg, Number_same hsz]
    simp only [Option.bind_some]
    rw [Number_same hz]
    obtain ⟨a, ha⟩ := Number3_tot hsz
    obtain ⟨b, hb⟩ := Number3_tot hz
    rw [ha, hb]
    have e1 : ((t.Vals.length : Int) != 1) = false := by rw [hv1]; rfl
    rw [e1]
    simp only [Option.bind_some]
    have e2 : (a.2 != 0) = !(a.2 == 0) := rfl
    rw [e2]
    cases (getS l t.Key).2 <;> cases (a.2 == 0) <;> simp

theorem All_same {l : List T_api_Label} (h : LL l) (hs : sortedL l) {ts : List T_api_Term} (hn : ts.length ≤ 1000) (ht : ∀ k (hk : k < ts.length), LT ts[k] ∧ ref05_RightTerm ts[k] = some true) : ref05_All l ts = labels_All l ts := by
  have hme : ∀ t, t ∈ ts → ref05_Meets l t = labels_Meets l t := fun t hm => by
    obtain ⟨i, hi, rfl⟩ := List.getElem_of_mem hm
    exact Meets_same h hs (ht i hi).1 (ht i hi).2
  have htot : ∀ t, t ∈ ts → labels_Meets l t = some ((labels_Meets l t).getD false) := fun t hm => by
    obtain ⟨i, hi, rfl⟩ := List.getElem_of_mem hm
    exact isD (Meets_tot h (ht i hi).1) false
  unfold ref05_All labels_All
  have hP : labels_All.l1 l ts 0 = some (if allN ts.length (fun k => (labels_Meets l (ts.getD k ⟨⟨#[]⟩, 0, []⟩)).getD false) = true then Out.go () else Out.ret false) :=
    rowAll (G := fun x k => labels_All.l1 l x k) (l := ts) (r0 := false) (fun k => (labels_Meets l (ts.getD k ⟨⟨#[]⟩, 0, []⟩)).getD false) (fun k hk => by
      show labels_All.l1 l (ts[k] :: ts.drop (k + 1)) k = _
      have e : ts.getD k ⟨⟨#[]⟩, 0, []⟩ = ts[k] := by simp [hk]
      rw [labels_All.l1, htot ts[k] (List.getElem_mem _), e]
      simp only [Option.bind_some, Option.getD_some]
      cases (labels_Meets l ts[k]).getD false <;> rfl) (fun k => rfl)
  have hR : ref05_All.l1 l ts FU 0 = some (if allN ts.length (fun k => (labels_Meets l (ts.getD k ⟨⟨#[]⟩, 0, []⟩)).getD false) = true then Out.go () else Out.ret false) :=
    idxAll (F := fun n i => ref05_All.l1 l ts n i) (len := ts.length) (r0 := false) (fun k => (labels_Meets l (ts.getD k ⟨⟨#[]⟩, 0, []⟩)).getD false) (by omega) (fun n k hk => by
      have e : ts.getD k ⟨⟨#[]⟩, 0, []⟩ = ts[k] := by simp [hk]
      rw [ref05_All.l1, if_pos (dlt hk), glk hk, wk1 (by omega), e]
      simp only [Option.bind_some]
      rw [hme ts[k] (List.getElem_mem _), htot ts[k] (List.getElem_mem _)]
      simp only [Option.bind_some, Option.getD_some]
      cases (labels_Meets l ts[k]).getD false <;> rfl) (fun n => by rw [ref05_All.l1, if_neg dnl])
  rw [hP, hR]

/-! taints -/
theorem bear6_eq (t : T_api_Toleration) (x : T_api_Taint) : ref06_Bears t x = some (bearB t x) := by
  unfold ref06_Bears bearB
  simp only [seq_eq]
  rfl
theorem Unborne6_eq (l : List T_api_Toleration) (ts : List T_api_Taint) (h : ts.length ≤ 1000) (hl : l.length ≤ 1000) : ref06_Unborne l ts 0 = some (ts.filter fun x => !borneB l x) := by
  unfold ref06_Unborne
  have := idxFoldL (F := fun n s i => ref06_Unborne.l1 l ts 0 n s i) (l := ts) (fun acc x => if borneB l x = true then acc else acc ++ [x]) id (fun k s => s.length ≤ k) (by omega) (fun n s k hk hI => by
    rw [ref06_Unborne.l1, if_pos (dlt hk), glk hk, wk1 (by omega)]
    have hin : ref06_Unborne.l2 l ts (k : Int) FU false 0 = some (borneB l ts[k]) := by
      have := idxFoldL (F := fun n s i => ref06_Unborne.l2 l ts (k : Int) n s i) (l := l) (fun b t => b || bearB t ts[k]) id (fun _ _ => True) (by omega) (fun n s j hj _ => by
        refine ⟨?_, trivial⟩
        rw [ref06_Unborne.l2, if_pos (dlt hj), glk hj, glk hk, wk1 (by omega)]
        simp only [Option.bind_some, bear6_eq]
        cases s <;> rfl) (fun n s => by rw [ref06_Unborne.l2, if_neg dnl]; rfl) false trivial
      rw [show ref06_Unborne.l2 l ts (k : Int) FU false 0 = _ from this]
      congr 1
      have key : ∀ (l : List T_api_Toleration) (b : Bool), l.foldl (fun b t => b || bearB t ts[k]) b = (b || borneB l ts[k]) := by
        intro l
        induction l with
        | nil => intro b; unfold borneB; simp
        | cons t l ih => intro b; rw [List.foldl_cons, ih]; unfold borneB; rw [List.any_cons, Bool.or_assoc]
      show l.foldl (fun b t => b || bearB t ts[k]) false = _
      rw [key, Bool.false_or]
    rw [if_neg (show ¬ (((0 : Int) != (0 : Int)) = true) by decide)]
    simp only [Option.bind_some, hin]
    cases hb : borneB l ts[k] with
    | true => rw [if_neg (by simp), if_pos rfl]; exact ⟨rfl, by omega⟩
    | false =>
      rw [if_pos (by simp), if_neg (by simp), ap_ok (by omega) (by simp; omega)]
      exact ⟨rfl, by simp; omega⟩) (fun n s => by rw [ref06_Unborne.l1, if_neg dnl]; rfl) [] (by simp)
  rw [show ref06_Unborne.l1 l ts 0 FU [] 0 = _ from this]
  simp only [Option.bind_some, id]
  congr 1
  have key : ∀ (ts acc : List T_api_Taint), ts.foldl (fun acc x => if borneB l x = true then acc else acc ++ [x]) acc = acc ++ ts.filter fun x => !borneB l x := by
    intro ts
    induction ts with
    | nil => intro acc; simp
    | cons x ts ih =>
      intro acc
      rw [List.foldl_cons, ih]
      cases hb : borneB l x with
      | true => rw [if_pos rfl, List.filter_cons_of_neg (by simp [hb])]
      | false => rw [if_neg (by simp), List.filter_cons_of_pos (by simp [hb])]; simp
  rw [key, List.nil_append]

theorem Allows_same (l : List T_api_Toleration) (ts : List T_api_Taint) (h : ts.length ≤ 1000) (hl : l.length ≤ 1000) : ref06_Allows l ts = taints_Allows l ts := by
  have hP : taints_Allows l ts = some (!(ts.any fun x => !borneB l x && (decide (x.Effect = 1) || decide (x.Effect = 3)))) := by
    unfold taints_Allows
    rw [Unborne_eq l ts 1 h, Unborne_eq l ts 3 h]
    simp only [Option.bind_some]
    congr 1
    have l1 := List.length_filter_le (fun x => (decide ((1 : Int) = 0) || decide (x.Effect = 1)) && !borneB l x) ts
    have l2 := List.length_filter_le (fun x => (decide ((3 : Int) = 0) || decide (x.Effect = 3)) && !borneB l x) ts
    rw [w_eq (by omega) (by omega)]
    cases ha : ts.any fun x => !borneB l x && (decide (x.Effect = 1) || decide (x.Effect = 3)) with
    | true =>
      obtain ⟨x, hx, hq⟩ := List.any_eq_true.1 ha
      simp only [Bool.and_eq_true, Bool.or_eq_true, decide_eq_true_eq, Bool.not_eq_true'] at hq
      rcases hq.2 with e | e
      · have : x ∈ ts.filter fun x => (decide ((1 : Int) = 0) || decide (x.Effect = 1)) && !borneB l x := List.mem_filter.2 ⟨hx, by simp [e, hq.1]⟩
        have := List.length_pos_of_mem this
        have hne : ¬ (((ts.filter fun x => (decide ((1 : Int) = 0) || decide (x.Effect = 1)) && !borneB l x).length : Int) + ((ts.filter fun x => (decide ((3 : Int) = 0) || decide (x.Effect = 3)) && !borneB l x).length : Int)) = 0 := by omega
        simpa using hne
      · have : x ∈ ts.filter fun x => (decide ((3 : Int) = 0) || decide (x.Effect = 3)) && !borneB l x := List.mem_filter.2 ⟨hx, by simp [e, hq.1]⟩
        have := List.length_pos_of_mem this
        have hne : ¬ (((ts.filter fun x => (decide ((1 : Int) = 0) || decide (x.Effect = 1)) && !borneB l x).length : Int) + ((ts.filter fun x => (decide ((3 : Int) = 0) || decide (x.Effect = 3)) && !borneB l x).length : Int)) = 0 := by omega
        simpa using hne
    | false =>
      have e1 : (ts.filter fun x => (decide ((1 : Int) = 0) || decide (x.Effect = 1)) && !borneB l x) = [] := List.filter_eq_nil_iff.2 fun x hx => by
        have := List.any_eq_false.1 ha x hx
        intro q
        simp only [Bool.and_eq_true, Bool.or_eq_true, decide_eq_true_eq, Bool.not_eq_true'] at q
        apply this
        rcases q.1 with z | z
        · omega
        · simp [q.2, z]
      have e2 : (ts.filter fun x => (decide ((3 : Int) = 0) || decide (x.Effect = 3)) && !borneB l x) = [] := List.filter_eq_nil_iff.2 fun x hx => by
        have := List.any_eq_false.1 ha x hx
        intro q
        simp only [Bool.and_eq_true, Bool.or_eq_true, decide_eq_true_eq, Bool.not_eq_true'] at q
        apply this
        rcases q.1 with z | z
        · omega
        · simp [q.2, z]
      rw [e1, e2]
      rfl
  rw [hP]
  unfold ref06_Allows
  rw [Unborne6_eq l ts h hl]
  simp only [Option.bind_some]
  have hlen : (ts.filter fun x => !borneB l x).length ≤ 1000 := by
    have := List.length_filter_le (fun x => !borneB l x) ts
    omega
  have := idxFindL (F := fun n i => ref06_Allows.l1 (ts.filter fun x => !borneB l x) n i) (l := ts.filter fun x => !borneB l x) (fun x => (x.Effect == 1) || (x.Effect == 3)) (fun _ => false) (by omega) (fun n k hk => by
    rw [ref06_Allows.l1, if_pos (dlt hk), glk hk, wk1 (by omega)]
    rfl) (fun n => by rw [ref06_Allows.l1, if_neg dnl])
  rw [show ref06_Allows.l1 (ts.filter fun x => !borneB l x) FU 0 = _ from this, List.find?_filter]
  have e : ts.any (fun x => !borneB l x && (decide (x.Effect = 1) || decide (x.Effect = 3))) = (ts.find? fun a => decide ((!borneB l a) = true ∧ ((a.Effect == 1) || (a.Effect == 3)) = true)).isSome := by
    rw [Bool.eq_iff_iff, List.any_eq_true, List.find?_isSome]
    simp
  rw [e]
  cases ts.find? fun a => decide ((!borneB l a) = true ∧ ((a.Effect == 1) || (a.Effect == 3)) = true) <;> rfl
end Go.Proofs.YtbkdglcedgiogaaGreat.M
/-
  Plain laws: why a pod cannot run on a machine, told alike by the program and the document. Own text.
-/
namespace Go.Proofs.YtbkdglcedgiogaaGreat.M
open Go Go.Proofs Go.Proofs.YtbkdglcedgiogaaGreat.V
set_option linter.unusedVariables false

/-! right machines and pods, as far as it matters here -/
structure GM (m : T_api_Machine) : Prop where
  lm : LM m
  so : sortedL m.Labels
structure GP (p : T_api_Pod) : Prop where
  lp : LP p
  labels : sortedL p.Labels
  select : sortedL p.Select
  terms : ∀ k (h : k < p.Terms.length), ref05_RightTerm p.Terms[k] = some true
  skew : p.Spread.length ≠ 0 → 1 ≤ p.Skew ∧ p.Skew ≤ 100
  ports : p.Ports.Pairwise (· < ·)

theorem gm_of {m : T_api_Machine} (h : LM m) (hr : ref07_RightMachine m = some true) : GM m := by
  refine ⟨h, ?_⟩
  obtain ⟨a, ha⟩ := maybe7_tot h.name
  obtain ⟨b, hb⟩ := maybe7_tot h.group
  obtain ⟨c, hc⟩ := Right5_tot h.labels
  unfold ref07_RightMachine at hr
  rw [ref04_Right_eq, ha, hb, hc] at hr
  refine sorted_of h.labels ?_
  rw [hc]
  cases c with
  | true => rfl
  | false => cases a <;> cases b <;> cases resOK m.Has <;> simp at hr

theorem gp_of {p : T_api_Pod} (h : LP p) (hr : ref07_RightPod p = some true) : GP p := by
  have hn := h.name
  have hnt := h.nterms
  obtain ⟨w, hw⟩ := Word_tot (s := p.Name) (by omega)
  obtain ⟨o, ho⟩ := maybe7_tot h.owner
  obtain ⟨c1, hc1⟩ := Right5_tot h.labels
  obtain ⟨c2, hc2⟩ := Right5_tot h.select
  unfold ref07_RightPod at hr
  rw [ref04_Right_eq, hw, ho, hc1, hc2] at hr
  simp only [Option.bind_some] at hr
  obtain ⟨c3, e3, hr⟩ := Option.bind_eq_some_iff.1 hr
  obtain ⟨c4, e4, hr⟩ := Option.bind_eq_some_iff.1 hr
  obtain ⟨c5, e5, hr⟩ := Option.bind_eq_some_iff.1 hr
  split at hr
  · cases hr
  obtain ⟨o1, e6, hr⟩ := Option.bind_eq_some_iff.1 hr
  have hterms : ∀ k (hk : k < p.Terms.length), o1 = Out.go () → ref05_RightTerm p.Terms[k] = some true := by
    intro k hk ho1
    rcases loopI (F := fun n i => ref07_RightPod.l1 p n i) (Q := fun r => r = false) (S := fun k => ∀ h : k < p.Terms.length, ref05_RightTerm p.Terms[k] = some true) (len := p.Terms.length) (by omega) (fun n k hk => by
        rw [ref07_RightPod.l1, if_pos (dlt hk), glk hk, wk1 (by omega)]
        simp only [Option.bind_some]
        obtain ⟨b, hb⟩ := Term5_tot (h.terms k hk)
        rw [hb]
        cases b with
        | false => exact .inl ⟨false, rfl, rfl⟩
        | true => exact .inr ⟨rfl, fun _ => hb⟩) (fun n => by rw [ref07_RightPod.l1, if_neg dnl]) with ⟨r, h1, _⟩ | ⟨_, h2⟩
    · rw [h1, ho1] at e6; cases e6
    · exact h2 k hk hk
  cases o1 with
  | ret r =>
    simp only [Out.on] at hr
    have hrl : r = false := by
      rcases loopI (F := fun n i => ref07_RightPod.l1 p n i) (Q := fun r => r = false) (S := fun k => True) (len := p.Terms.length) (by omega) (fun n k hk => by
          rw [ref07_RightPod.l1, if_pos (dlt hk), glk hk, wk1 (by omega)]
          simp only [Option.bind_some]
          obtain ⟨b, hb⟩ := Term5_tot (h.terms k hk)
          rw [hb]
          cases b with
          | false => exact .inl ⟨false, rfl, rfl⟩
          | true => exact .inr ⟨rfl, trivial⟩) (fun n => by rw [ref07_RightPod.l1, if_neg dnl]) with ⟨r', h1, h2⟩ | ⟨h1, _⟩
      · rw [h1] at e6
        injection e6 with e6
        injection e6 with e6
        rw [← e6]; exact h2
      · rw [h1] at e6; cases e6
    rw [hrl] at hr; cases hr
  | go u =>
    simp only [Out.on] at hr
    obtain ⟨o2, e7, hr⟩ := Option.bind_eq_some_iff.1 hr
    have hnp := h.nports
    have hl2 : (o2 = Out.go () ∧ ∀ k (hk : k < p.Ports.length), 0 < k → p.Ports[k - 1]'(by omega) < p.Ports[k]) ∨ o2 = Out.ret false := by
      rcases loopI (F := fun n i => ref07_RightPod.l2 p n i) (Q := fun r => r = false) (S := fun k => ∀ (hk : k < p.Ports.length), 0 < k → p.Ports[k - 1]'(by omega) < p.Ports[k]) (len := p.Ports.length) (by omega) (fun n k hk => by
          rw [ref07_RightPod.l2, if_pos (dlt hk), glk hk, wk1 (by omega)]
          simp only [Option.bind_some, ref07_in]
          by_cases h0 : 0 < k
          · have h0' : (decide ((k : Int) > 0)) = true := by simp; omega
            simp only [h0', if_true, glp hk h0 (by omega), Option.bind_some]
            cases (decide (p.Ports[k] ≥ (1 : Int)) && decide (p.Ports[k] ≤ (65535 : Int)))
            · exact .inl ⟨false, rfl, rfl⟩
            · by_cases hle : p.Ports[k] ≤ p.Ports[k - 1]
              · rw [decide_eq_true hle]; exact .inl ⟨false, rfl, rfl⟩
              · rw [decide_eq_false hle]; exact .inr ⟨rfl, fun _ _ => by omega⟩
          · have h0' : (decide ((k : Int) > 0)) = false := by simp; omega
            simp only [h0', Bool.false_eq_true, if_false, Option.bind_some]
            cases (decide (p.Ports[k] ≥ (1 : Int)) && decide (p.Ports[k] ≤ (65535 : Int)))
            · exact .inl ⟨false, rfl, rfl⟩
            · exact .inr ⟨rfl, fun _ q => absurd q h0⟩) (fun n => by rw [ref07_RightPod.l2, if_neg dnl]) with ⟨r', h1, h2⟩ | ⟨h1, h2⟩
      · rw [h1] at e7; injection e7 with e7; rw [← e7, h2]; exact .inr rfl
      · rw [h1] at e7; injection e7 with e7; exact .inl ⟨e7.symm, fun k hk h0 => h2 k hk hk h0⟩
    rcases hl2 with ⟨rfl, hinc⟩ | rfl
    · simp only at hr
      obtain ⟨c7, e8, hr⟩ := Option.bind_eq_some_iff.1 hr
      split at hr
      · cases hr
      · rename_i hc7
        have hskew : p.Spread.length ≠ 0 → 1 ≤ p.Skew ∧ p.Skew ≤ 100 := by
          intro hne
          have hc7' : c7 = false := by simpa using hc7
          rw [hc7'] at e8
          split at e8
          · cases e8
          · rw [if_pos (by rw [decide_eq_true_eq]; omega)] at e8
            unfold ref07_in at e8
            simp only [Option.bind_some, Option.some.injEq, Bool.not_eq_false', Bool.and_eq_true, decide_eq_true_eq] at e8
            omega
        have h1 : c1 = true := by
          cases c1 with
          | true => rfl
          | false =>
            exfalso
            simp only [Bool.false_eq_true, if_false, Option.bind_some] at hr
            cases hr
        have h2 : c2 = true := by
          cases c2 with
          | true => rfl
          | false =>
            exfalso
            rw [h1] at hr
            simp only [Bool.false_eq_true, if_false, if_true, Option.bind_some] at hr
            cases hr
        exact ⟨h, sorted_of h.labels (by rw [hc1, h1]), sorted_of h.select (by rw [hc2, h2]), fun k hk => hterms k hk rfl, hskew, by
          rw [List.pairwise_iff_getElem]
          have key : ∀ (d i j : Nat) (hi : i < p.Ports.length) (hj : j < p.Ports.length), j = i + d + 1 → p.Ports[i] < p.Ports[j] := by
            intro d
            induction d with
            | zero => intro i j hi hj e; subst e; exact hinc (i + 1) hj (by omega)
            | succ d ih =>
              intro i j hi hj e
              have h1 := ih i (j - 1) hi (by omega) (by omega)
              have h2 := hinc j hj (by omega)
              omega
          intro i j hi hj hij
          exact key (j - i - 1) i j hi hj (by omega)⟩
    · cases hr

theorem gms {ms : List T_api_Machine} {bs : List T_api_Bound} (hy : LY ms bs) (hr : RY ms bs) : ∀ m, m ∈ ms → GM m := fun m h => by
  obtain ⟨i, hi, rfl⟩ := List.getElem_of_mem h; exact gm_of (hy.ms i hi) (hr.rm i hi).2
theorem gbs {ms : List T_api_Machine} {bs : List T_api_Bound} (hy : LY ms bs) (hr : RY ms bs) : ∀ b, b ∈ bs → GP b.Pod := fun m h => by
  obtain ⟨i, hi, rfl⟩ := List.getElem_of_mem h; exact gp_of (hy.bs i hi).1 (hr.rb i hi)

/-! whether it suits -/
theorem Place_ref {m : T_api_Machine} {p : T_api_Pod} (hm : GM m) (hp : GP p) : ref10_Place m p = some (placeV m p) := by
  rw [← (place_V hm.lm hp.lp).1]
  have h1 := hm.lm.labels.1
  have h2 := hp.lp.select.1
  have h3 := hp.lp.nterms
  have h4 := hm.lm.taints.1
  have h5 := hp.lp.bears.1
  unfold ref10_Place suit_Place
  rw [Has_same (by omega) (by omega) hm.so, All_same hm.lm.labels hm.so (by omega) (fun k hk => ⟨hp.lp.terms k hk, hp.terms k hk⟩), Allows_same _ _ (by omega) (by omega)]

theorem Others_ref (bs : List T_api_Bound) (name : ByteArray) (hl : bs.length ≤ 1000) : ref10_Others bs name = some (othersS bs name) := by
  unfold ref10_Others othersS
  have := idxFoldL (F := fun n s i => ref10_Others.l1 bs name n s i) (l := bs) (fun acc x => if decide (x.Pod.Name ≠ name) = true then acc ++ [x] else acc) id (fun k s => s.length ≤ k) (by omega) (fun n s k hk hI => by
    rw [ref10_Others.l1, if_pos (dlt hk), glk hk, wk1 (by omega)]
    simp only [Option.bind_some, seq_eq]
    by_cases h : bs[k].Pod.Name = name
    · rw [if_neg (by simp [h]), if_neg (by simp [h])]; exact ⟨rfl, by omega⟩
    · rw [if_pos (by simp [h]), if_pos (by simp [h]), ap_ok (by omega) (by simp; omega)]; exact ⟨rfl, by simp; omega⟩) (fun n s => by rw [ref10_Others.l1, if_neg dnl]; rfl) [] (by simp)
  rw [show ref10_Others.l1 bs name FU [] 0 = _ from this]
  simp only [Option.bind_some, id]
  congr 1
  have key : ∀ (l acc : List T_api_Bound), l.foldl (fun acc x => if decide (x.Pod.Name ≠ name) = true then acc ++ [x] else acc) acc = acc ++ l.filter fun b => decide (b.Pod.Name ≠ name) := by
    intro l
    induction l with
    | nil => intro acc; simp
    | cons x l ih =>
      intro acc
      rw [List.foldl_cons, ih, List.filter_cons]
      split <;> simp
  rw [key, List.nil_append]

/-- Ports in order, that are in common. -/
theorem hit_mem : ∀ (a b : List Int), a.Pairwise (· < ·) → b.Pairwise (· < ·) → (hit a b = true ↔ ∃ x, x ∈ a ∧ x ∈ b) := by
  intro a b
  induction a, b using hit.induct with
  | case1 b => intro _ _; rw [hit]; simp
  | case2 a l => intro _ _; rw [hit_nil_r]; simp
  | case3 a l m => intro _ _; rw [hit, if_pos rfl]; simp
  | case4 a l b m h1 h2 ih =>
    intro ha hb
    rw [hit, if_neg h1, if_pos h2, ih (List.pairwise_cons.1 ha).2 hb]
    constructor
    · rintro ⟨x, h3, h4⟩; exact ⟨x, List.mem_cons_of_mem _ h3, h4⟩
    · rintro ⟨x, h3, h4⟩
      rcases List.mem_cons.1 h3 with rfl | h3
      · rcases List.mem_cons.1 h4 with h5 | h4
        · exact absurd h5 h1
        · have := (List.pairwise_cons.1 hb).1 x h4
          omega
      · exact ⟨x, h3, h4⟩
  | case5 a l b m h1 h2 ih =>
    intro ha hb
    rw [hit, if_neg h1, if_neg h2, ih ha (List.pairwise_cons.1 hb).2]
    constructor
    · rintro ⟨x, h3, h4⟩; exact ⟨x, h3, List.mem_cons_of_mem _ h4⟩
    · rintro ⟨x, h3, h4⟩
      rcases List.mem_cons.1 h4 with rfl | h4
      · rcases List.mem_cons.1 h3 with h5 | h3
        · exact absurd h5.symm h1
        · have := (List.pairwise_cons.1 ha).1 x h3
          omega
      · exact ⟨x, h3, h4⟩

def comB (p q : T_api_Pod) : Bool := q.Ports.any fun x => p.Ports.any fun y => decide (x = y)
theorem com_hit {p q : T_api_Pod} (hp : GP p) (hq : GP q) : comB p q = hit p.Ports q.Ports := by
  rw [Bool.eq_iff_iff, hit_mem _ _ hp.ports hq.ports]
  unfold comB
  simp only [List.any_eq_true, decide_eq_true_eq]
  constructor
  · rintro ⟨x, h1, y, h2, rfl⟩; exact ⟨x, h2, h1⟩
  · rintro ⟨x, h1, h2⟩; exact ⟨x, h2, x, h1, rfl⟩

theorem Room_ref {m : T_api_Machine} {bs : List T_api_Bound} {p : T_api_Pod} (hp : GP p) (hl : bs.length ≤ 1000) (hb : ∀ b, b ∈ bs → GP b.Pod) : ref10_Room m bs p = some (roomS m bs p) := by
  have hlo : (othersS bs p.Name).length ≤ 1000 := by
    have := List.length_filter_le (fun b : T_api_Bound => decide (b.Pod.Name ≠ p.Name)) bs
    unfold othersS; omega
  have hol := onS_len (othersS bs p.Name) m.Name
  unfold ref10_Room roomS
  rw [Others_ref bs p.Name hl]
  simp only [Option.bind_some]
  rw [Left9_eq m _ hlo]
  simp only [Option.bind_some]
  rw [Fits9_eq]
  simp only [Option.bind_some]
  have hcomm : (resOK p.Need && resOK (leftS m.Has (usedS (onS (othersS bs p.Name) m.Name))) && rle p.Need (leftS m.Has (usedS (onS (othersS bs p.Name) m.Name)))) = (resOK (leftS m.Has (usedS (onS (othersS bs p.Name) m.Name))) && resOK p.Need && rle p.Need (leftS m.Has (usedS (onS (othersS bs p.Name) m.Name)))) := by
    rw [Bool.and_comm (resOK p.Need)]
  rw [hcomm]
  cases (resOK (leftS m.Has (usedS (onS (othersS bs p.Name) m.Name))) && resOK p.Need && rle p.Need (leftS m.Has (usedS (onS (othersS bs p.Name) m.Name)))) with
  | false => rfl
  | true =>
    simp only [Bool.not_true, Bool.false_eq_true, if_false, if_true]
    rw [On9_eq _ _ hlo]
    simp only [Option.bind_some]
    have hgp : ∀ q, q ∈ onS (othersS bs p.Name) m.Name → GP q := fun q hq => by
      unfold onS othersS at hq
      obtain ⟨b, h1, rfl⟩ := List.mem_map.1 hq
      exact hb b (List.mem_filter.1 (List.mem_filter.1 h1).1).1
    generalize onS (othersS bs p.Name) m.Name = ps at *
    have hl1 := idxFindL (F := fun n i => ref10_Room.l1 p ps n i) (l := ps) (fun q => comB p q) (fun _ => (3 : Int)) (by omega) (fun n k hk => by
      rw [ref10_Room.l1, if_pos (dlt hk), wk1 (by omega)]
      have hpl := hp.lp.nports
      have hql := (hgp ps[k] (List.getElem_mem _)).lp.nports
      have hl2 := idxFindL (F := fun n i => ref10_Room.l2 p ps (k : Int) n i) (l := ps[k].Ports) (fun x => p.Ports.any fun y => decide (x = y)) (fun _ => Out.ret (3 : Int)) (by omega) (fun n j hj => by
        rw [ref10_Room.l2, glk hk]
        simp only [Option.bind_some]
        rw [if_pos (dlt hj), wk1 (by omega)]
        have hl3 := idxFindL (F := fun n i => ref10_Room.l3 p ps (k : Int) (j : Int) n i) (l := p.Ports) (fun y => decide (ps[k].Ports[j] = y)) (fun _ => Out.ret (Out.ret (3 : Int))) (by omega) (fun n i hi => by
          rw [ref10_Room.l3, if_pos (dlt hi), glk hk, wk1 (by omega)]
          simp only [Option.bind_some]
          rw [glk hj, glk hi]
          simp only [Option.bind_some]
          by_cases e : ps[k].Ports[j] = p.Ports[i] <;> simp [e]) (fun n => by rw [ref10_Room.l3, if_neg dnl])
        rw [show ref10_Room.l3 p ps (k : Int) (j : Int) FU 0 = _ from hl3]
        have e : (p.Ports.any fun y => decide (ps[k].Ports[j] = y)) = (p.Ports.find? fun y => decide (ps[k].Ports[j] = y)).isSome := by
          rw [Bool.eq_iff_iff, List.any_eq_true, List.find?_isSome]
        rw [e]
        cases p.Ports.find? fun y => decide (ps[k].Ports[j] = y) <;> rfl) (fun n => by rw [ref10_Room.l2, glk hk]; simp only [Option.bind_some]; rw [if_neg dnl])
      rw [show ref10_Room.l2 p ps (k : Int) FU 0 = _ from hl2]
      have e : comB p ps[k] = (ps[k].Ports.find? fun x => p.Ports.any fun y => decide (x = y)).isSome := by
        unfold comB
        rw [Bool.eq_iff_iff, List.any_eq_true, List.find?_isSome]
      rw [e]
      cases ps[k].Ports.find? fun x => p.Ports.any fun y => decide (x = y) <;> rfl) (fun n => by rw [ref10_Room.l1, if_neg dnl])
    rw [show ref10_Room.l1 p ps FU 0 = _ from hl1]
    have e : (ps.any fun q => hit p.Ports q.Ports) = (ps.find? fun q => comB p q).isSome := by
      rw [Bool.eq_iff_iff, List.any_eq_true, List.find?_isSome]
      constructor
      · rintro ⟨q, h1, h2⟩; exact ⟨q, h1, by rw [com_hit hp (hgp q h1)]; exact h2⟩
      · rintro ⟨q, h1, h2⟩; exact ⟨q, h1, by rw [← com_hit hp (hgp q h1)]; exact h2⟩
    rw [e]
    cases ps.find? fun q => comB p q <;> rfl

theorem Suits_ref {m : T_api_Machine} {bs : List T_api_Bound} {p : T_api_Pod} (hm : GM m) (hp : GP p) (hl : bs.length ≤ 1000) (hb : ∀ b, b ∈ bs → GP b.Pod) : ref10_Suits m bs p = some (suitV m bs p) := by
  unfold ref10_Suits suitV
  rw [Place_ref hm hp]
  simp only [Option.bind_some]
  by_cases h : placeV m p = 0
  · rw [if_neg (by simp [h]), if_pos h, Room_ref hp hl hb]; rfl
  · rw [if_pos (by simpa using h), if_neg h]

/-! zones -/
def zoneK : ByteArray := ⟨#[122, 111, 110, 101]⟩
/-- The zone of a machine, by its name. -/
def zoneS (ms : List T_api_Machine) (name : ByteArray) : Option ByteArray := match ms.find? (fun m => decide (m.Name = name)) with | some m => (if (getS m.Labels zoneK).2 = true then some (getS m.Labels zoneK).1 else none) | none => none

theorem find_of_first {ms : List T_api_Machine} {name : ByteArray} {r : Int} (h : firstAt ms.length (fun k => ∃ h : k < ms.length, ms[k].Name = name) r) :
    (∃ k : Nat, ∃ hk : k < ms.length, r = (k : Int) ∧ ms.find? (fun m => decide (m.Name = name)) = some ms[k]) ∨ (r = -1 ∧ ms.find? (fun m => decide (m.Name = name)) = none) := by
  rcases h with ⟨q, rfl, b, ⟨c, d⟩, e⟩ | ⟨rfl, b⟩
  · refine .inl ⟨q, c, rfl, ?_⟩
    rw [List.find?_eq_some_iff_getElem]
    refine ⟨by simpa using d, q, c, rfl, fun j hj => ?_⟩
    have : ¬ ms[j].Name = name := fun h => e j hj ⟨by omega, h⟩
    simpa using this
  · refine .inr ⟨rfl, List.find?_eq_none.2 fun m hm => ?_⟩
    obtain ⟨i, hi, rfl⟩ := List.getElem_of_mem hm
    have : ¬ ms[i].Name = name := fun h => b i hi ⟨hi, h⟩
    simpa using this

theorem zone11_eq {ms : List T_api_Machine} (name : ByteArray) (hl : ms.length ≤ 1000) (hm : ∀ m, m ∈ ms → GM m) : ref11_zone ms name = some (((zoneS ms name).getD ⟨#[]⟩), (zoneS ms name).isSome) := by
  unfold ref11_zone zoneS
  obtain ⟨r, hr, hf⟩ := Find9_eq ms name (by omega)
  rw [hr]
  simp only [Option.bind_some]
  rcases find_of_first hf with ⟨k, hk, rfl, h2⟩ | ⟨rfl, h2⟩
  · rw [if_neg (by simp), glk hk, h2]
    have := (hm ms[k] (List.getElem_mem _)).lm.labels.1
    simp only [Option.bind_some]
    rw [Get5_eq (by omega)]
    simp only [Option.bind_some]
    show some ((getS ms[k].Labels zoneK).1, (getS ms[k].Labels zoneK).2) = _
    cases h : (getS ms[k].Labels zoneK).2 with
    | true => rfl
    | false =>
      have : (getS ms[k].Labels zoneK).1 = ⟨#[]⟩ := by
        unfold getS at h ⊢
        split at h
        · cases h
        · rfl
      rw [this]; rfl
  · rw [h2]; rfl

end Go.Proofs.YtbkdglcedgiogaaGreat.M
/-
  Plain laws: what bars a pod from a machine for other pods, told alike by the program and the document. Own text.
-/
namespace Go.Proofs.YtbkdglcedgiogaaGreat.M
open Go Go.Proofs Go.Proofs.YtbkdglcedgiogaaGreat.V
set_option linter.unusedVariables false

theorem idxFoldK {α σ τ : Type} {F : Nat → σ → Int → Option τ} {l : List α} (f : σ → α → σ) (h : σ → τ) (k0 : Nat)
    (hs : ∀ n s (k : Nat) (hk : k < l.length), k0 ≤ k → F (n + 1) s (k : Int) = F n (f s l[k]) ((k + 1 : Nat) : Int)) (he : ∀ n s, F (n + 1) s (l.length : Int) = some (h s)) :
    ∀ (m k n : Nat) (s : σ), l.length - k ≤ m → m < n → k ≤ l.length → k0 ≤ k → F n s (k : Int) = some (h ((l.drop k).foldl f s)) := by
  intro m
  induction m with
  | zero =>
    intro k n s h1 h2 h3 h4
    obtain ⟨n, rfl⟩ : ∃ q, n = q + 1 := ⟨n - 1, by omega⟩
    obtain rfl : k = l.length := by omega
    rw [he, List.drop_eq_nil_of_le (Nat.le_refl _)]; rfl
  | succ m ih =>
    intro k n s h1 h2 h3 h4
    obtain ⟨n, rfl⟩ : ∃ q, n = q + 1 := ⟨n - 1, by omega⟩
    by_cases hk : k < l.length
    · rw [hs n s k hk h4, ih (k + 1) n _ (by omega) (by omega) (by omega) (by omega), List.drop_eq_getElem_cons hk]; rfl
    · obtain rfl : k = l.length := by omega
      rw [he, List.drop_eq_nil_of_le (Nat.le_refl _)]; rfl

theorem zoneS_cons (x : T_api_Machine) (l : List T_api_Machine) (name : ByteArray) : zoneS (x :: l) name = if x.Name = name then (if (getS x.Labels zoneK).2 = true then some (getS x.Labels zoneK).1 else none) else zoneS l name := by
  unfold zoneS
  rw [List.find?_cons]
  by_cases h : x.Name = name
  · rw [if_pos h, show decide (x.Name = name) = true by simpa using h]
  · rw [if_neg h, show decide (x.Name = name) = false by simpa using h]
theorem zoneS_none : ∀ (l : List T_api_Machine) (name : ByteArray), (∀ m, m ∈ l → m.Name ≠ name) → zoneS l name = none
  | [], _, _ => rfl
  | x :: l, name, h => by rw [zoneS_cons, if_neg (h x (List.mem_cons_self ..)), zoneS_none l name fun m hm => h m (List.mem_cons_of_mem _ hm)]

theorem zones_mg {ms : List T_api_Machine} (hm : ∀ m, m ∈ ms → GM m) (hn : (ms.map (·.Name)).Nodup) (name : ByteArray) : V.mg (zonesV ms) name = zoneS ms name := by
  have key : ∀ (l : List T_api_Machine) (k : Nat) (out : List (ByteArray × ByteArray)), (∀ m, m ∈ l → GM m) → (l.map (·.Name)).Nodup → ∃ z, apart_zones.l1 l k out = some z ∧ ∀ name, V.mg z name = (zoneS l name).or (V.mg out name) := by
    intro l
    induction l with
    | nil => intro k out _ _; exact ⟨out, rfl, fun name => by simp [zoneS]⟩
    | cons x l ih =>
      intro k out hm hn
      rw [List.map_cons, List.nodup_cons] at hn
      have hx := hm x (List.mem_cons_self ..)
      rw [apart_zones.l1, labels_Get_eq hx.so]
      simp only [Option.bind_some]
      show ∃ z, (if (getS x.Labels zoneK).2 = true then apart_zones.l1 l (k + 1) (V.mp out x.Name (getS x.Labels zoneK).1) else apart_zones.l1 l (k + 1) out) = some z ∧ _
      have hnone : zoneS l x.Name = none := zoneS_none l x.Name fun m hml e => hn.1 (List.mem_map.2 ⟨m, hml, e⟩)
      by_cases h : (getS x.Labels zoneK).2 = true
      · rw [if_pos h]
        obtain ⟨z, h1, h2⟩ := ih (k + 1) (V.mp out x.Name (getS x.Labels zoneK).1) (fun m h => hm m (List.mem_cons_of_mem _ h)) hn.2
        refine ⟨z, h1, fun name => ?_⟩
        rw [h2, zoneS_cons, mg_mp]
        by_cases e : x.Name = name
        · subst e; rw [hnone, if_pos rfl, if_pos rfl, if_pos h]; rfl
        · rw [if_neg e, if_neg (fun q => e q.symm)]
      · rw [if_neg h]
        obtain ⟨z, h1, h2⟩ := ih (k + 1) out (fun m h => hm m (List.mem_cons_of_mem _ h)) hn.2
        refine ⟨z, h1, fun name => ?_⟩
        rw [h2, zoneS_cons]
        by_cases e : x.Name = name
        · subst e; rw [hnone, if_pos rfl, if_neg h]
        · rw [if_neg e]
  obtain ⟨z, h1, h2⟩ := key ms 0 [] hm hn
  have hz : zonesV ms = z := by
    have := zones_V ms
    unfold apart_zones at this
    rw [h1] at this
    injection this with this
    exact this.symm
  rw [hz, h2]
  cases zoneS ms name <;> rfl

theorem tog_eq {ms : List T_api_Machine} (hl : ms.length ≤ 1000) (hm : ∀ m, m ∈ ms → GM m) (hn : (ms.map (·.Name)).Nodup) (a b : ByteArray) (w : Bool) : ref11_together ms a b w = some (oneB (zonesV ms) a b w) := by
  unfold ref11_together oneB
  rw [zone11_eq a hl hm, zone11_eq b hl hm, zones_mg hm hn, zones_mg hm hn]
  simp only [Option.bind_some, seq_eq]
  by_cases e : a = b
  · rw [if_pos (by simpa using e), if_pos (by simp [e])]; simp [e]
  · rw [if_neg (by simpa using e)]
    cases w with
    | false => rw [if_pos (by simp)]; simp [e]
    | true => rw [if_neg (by simp [e])]; simp

/-! near -/
theorem near_ref {ms : List T_api_Machine} {bs : List T_api_Bound} {p : T_api_Pod} {m : T_api_Machine} (hl : ms.length ≤ 1000) (hbl : bs.length ≤ 1000) (hmg : ∀ m, m ∈ ms → GM m) (hn : (ms.map (·.Name)).Nodup) (hb : ∀ b, b ∈ bs → GP b.Pod) (hp : GP p) (hm : m ∈ ms) :
    ref11_Near ms bs p m.Name = some (nearB (zonesV ms) bs p m.Name) := by
  unfold ref11_Near nearB
  obtain ⟨r, hr, hf⟩ := Find9_eq ms m.Name (by omega)
  have hr0 : ¬ r < 0 := by
    rcases hf with ⟨q, rfl, _⟩ | ⟨rfl, b⟩
    · omega
    · obtain ⟨i, hi, rfl⟩ := List.getElem_of_mem hm
      exact absurd ⟨hi, rfl⟩ (b i hi)
  rw [hr]
  simp only [Option.bind_some]
  rw [if_neg (by simpa using hr0)]
  have hlp := hp.lp.labels.1
  have hap := hp.lp.apart.1
  have hl1 := idxFindL (F := fun n i => ref11_Near.l1 ms bs p m.Name n i) (l := bs) (nearQ (zonesV ms) p m.Name) (fun _ => true) (by omega) (fun n k hk => by
    have hbk := hb bs[k] (List.getElem_mem _)
    have h1 := hbk.lp.labels.1
    have h2 := hbk.lp.apart.1
    rw [ref11_Near.l1, if_pos (dlt hk), glk hk, wk1 (by omega)]
    simp only [Option.bind_some]
    rw [Has5_B (by omega) (by omega) hbk.labels, Has5_B (by omega) (by omega) hp.labels, tog_eq hl hmg hn, tog_eq hl hmg hn]
    have hsym : ∀ w, oneB (zonesV ms) m.Name bs[k].On w = oneB (zonesV ms) bs[k].On m.Name w := fun w => by
      unfold oneB
      simp only [seq_eq]
      rw [show decide (m.Name = bs[k].On) = decide (bs[k].On = m.Name) by rw [decide_eq_decide]; exact eq_comm, show ∀ x y : ByteArray, decide (x = y) = decide (y = x) from fun x y => by rw [decide_eq_decide]; exact eq_comm]
      rw [show decide ((V.mg (zonesV ms) bs[k].On).getD ⟨#[]⟩ = (V.mg (zonesV ms) m.Name).getD ⟨#[]⟩) = decide ((V.mg (zonesV ms) m.Name).getD ⟨#[]⟩ = (V.mg (zonesV ms) bs[k].On).getD ⟨#[]⟩) by rw [decide_eq_decide]; exact eq_comm]
      rw [Bool.and_comm (V.mg (zonesV ms) m.Name).isSome]
    unfold nearQ barsB
    rw [← hsym]
    cases V.seq bs[k].Pod.Name p.Name <;> cases V.seq bs[k].On ⟨#[]⟩ <;> cases decide ((p.Apart.length : Int) > 0) <;> cases hasB bs[k].Pod.Labels p.Apart <;> cases oneB (zonesV ms) m.Name bs[k].On p.Wide <;>
      cases decide ((bs[k].Pod.Apart.length : Int) > 0) <;> cases hasB p.Labels bs[k].Pod.Apart <;> cases oneB (zonesV ms) m.Name bs[k].On bs[k].Pod.Wide <;> rfl) (fun n => by rw [ref11_Near.l1, if_neg dnl])
  rw [show ref11_Near.l1 ms bs p m.Name FU 0 = _ from hl1]
  have e : bs.any (nearQ (zonesV ms) p m.Name) = (bs.find? (nearQ (zonesV ms) p m.Name)).isSome := by rw [Bool.eq_iff_iff, List.any_eq_true, List.find?_isSome]
  rw [e]
  cases bs.find? (nearQ (zonesV ms) p m.Name) <;> rfl
end Go.Proofs.YtbkdglcedgiogaaGreat.M

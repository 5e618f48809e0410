/-
  Plain laws of suit: what the program's functions tell, by definition; SuitTolerant, SuitLess. Own text.
-/
import Derived.Test.YtbkdglcedgiogaaPChk
namespace Go.Proofs.Ytbkdglcedgiogaa.M
open Go Go.Proofs Go.Proofs.Ytbkdglcedgiogaa.V
set_option linter.unusedVariables false

theorem res_Fits_eq (a b : T_api_Res) : res_Fits a b = some (resOK b && resOK a && rle a b) := by
  unfold res_Fits
  rw [res_Sub_eq]
  simp only [Option.bind_some]
  cases hb : resOK b with
  | false => rfl
  | true =>
    cases ha : resOK a with
    | false => rfl
    | true =>
      simp only [Bool.and_self, if_true, Bool.true_and]
      rw [resOK_sub hb ha]
      cases rle a b <;> rfl

theorem ap_ok {α : Type} {b : Nat} {l m : List α} (hb : b ≤ 1000) (h : l.length + m.length ≤ 1000000) : V.ap b l m = some (l ++ m) := by
  unfold V.ap
  rw [if_pos]
  refine ⟨by unfold maxLen; omega, ?_⟩
  have : (l.length + m.length) * b ≤ 1000000 * 1000 := Nat.mul_le_mul h hb
  omega

/-- The others. -/
def othersS (bs : List T_api_Bound) (name : ByteArray) : List T_api_Bound := bs.filter fun b => decide (b.Pod.Name ≠ name)
def onS (bs : List T_api_Bound) (name : ByteArray) : List T_api_Pod := (bs.filter fun b => decide (b.On = name)).map (·.Pod)

theorem others_eq (bs : List T_api_Bound) (name : ByteArray) (hl : bs.length ≤ 1000) : suit_others bs name = some (othersS bs name) := by
  have key : ∀ (l : List T_api_Bound) (k : Nat) (acc : List T_api_Bound), l.length + acc.length ≤ 1000 → suit_others.l1 name l k acc = some (acc ++ othersS l name) := by
    intro l
    induction l with
    | nil => intro k acc h; simp [suit_others.l1, othersS]
    | cons x l ih =>
      intro k acc h
      simp only [List.length_cons] at h
      rw [suit_others.l1, seq_eq]
      by_cases hx : x.Pod.Name = name
      · rw [if_neg (by simp [hx]), ih _ _ (by omega)]
        simp [othersS, hx]
      · rw [if_pos (by simp [hx]), ap_ok (by omega) (by simp; omega)]
        simp only [Option.bind_some]
        rw [ih _ _ (by simp; omega)]
        simp [othersS, hx]
  unfold suit_others
  rw [key bs 0 [] (by simp; omega)]
  simp

theorem On_eq (bs : List T_api_Bound) (name : ByteArray) (hl : bs.length ≤ 1000) : yard_On bs name = some (onS bs name) := by
  have key : ∀ (l : List T_api_Bound) (k : Nat) (acc : List T_api_Pod), l.length + acc.length ≤ 1000 → yard_On.l1 name l k acc = some (acc ++ onS l name) := by
    intro l
    induction l with
    | nil => intro k acc h; simp [yard_On.l1, onS]
    | cons x l ih =>
      intro k acc h
      simp only [List.length_cons] at h
      rw [yard_On.l1, seq_eq]
      by_cases hx : x.On = name
      · rw [if_pos (by simp [hx]), ap_ok (by omega) (by simp; omega)]
        simp only [Option.bind_some]
        rw [ih _ _ (by simp; omega)]
        simp [onS, hx]
      · rw [if_neg (by simp [hx]), ih _ _ (by omega)]
        simp [onS, hx]
  unfold yard_On
  rw [key bs 0 [] (by simp; omega)]
  simp

theorem onS_len (bs : List T_api_Bound) (name : ByteArray) : (onS bs name).length ≤ bs.length := by
  unfold onS; rw [List.length_map]; exact List.length_filter_le _ _
theorem othersS_len (bs : List T_api_Bound) (name : ByteArray) : (othersS bs name).length ≤ bs.length := List.length_filter_le _ _

/-- All that pods need. -/
def total : List T_api_Pod → T_api_Res
  | [] => r0
  | p :: l => radd p.Need (total l)
def needsOK (l : List T_api_Pod) : Bool := l.all fun p => resOK p.Need
def usedS (l : List T_api_Pod) : T_api_Res × Int := if needsOK l = true then (if resOK (total l) = true then (total l, 0) else (r0, 10)) else (r0, 12)

theorem total_nn {l : List T_api_Pod} (h : needsOK l = true) : 0 ≤ (total l).Cpu ∧ 0 ≤ (total l).Mem ∧ 0 ≤ (total l).Disk ∧ 0 ≤ (total l).Pods ∧ 0 ≤ (total l).Dev := by
  induction l with
  | nil => simp [total, r0]
  | cons p l ih =>
    unfold needsOK at h
    simp only [List.all_cons, Bool.and_eq_true] at h
    have h1 := (resOK_iff _).1 h.1
    have h2 := ih h.2
    simp only [total, radd]
    omega

theorem radd_r0 (a : T_api_Res) : radd r0 a = a := by cases a; simp [radd, r0]
theorem radd_assoc (a b c : T_api_Res) : radd (radd a b) c = radd a (radd b c) := by
  simp only [radd, T_api_Res.mk.injEq]; omega

theorem Used_loop {l : List T_api_Pod} (h : needsOK l = true) : ∀ (k : Nat) (s : T_api_Res), resOK s = true → yard_Used.l1 l k s = some (if resOK (radd s (total l)) = true then Out.go (radd s (total l)) else Out.ret (r0, 10)) := by
  induction l with
  | nil =>
    intro k s hs
    have e : radd s (total []) = s := by cases s; simp [radd, total, r0]
    rw [yard_Used.l1, e, if_pos hs]
  | cons p l ih =>
    intro k s hs
    have h0 := h
    unfold needsOK at h
    simp only [List.all_cons, Bool.and_eq_true] at h
    have hl : needsOK l = true := h.2
    have hp := h.1
    have hnn := total_nn hl
    rw [yard_Used.l1, res_Add_eq, hs, hp]
    simp only [Bool.and_self, if_true, Option.bind_some]
    by_cases hq : resOK (radd s p.Need) = true
    · rw [if_pos hq]
      simp only [bne_self_eq_false, Bool.false_eq_true, if_false]
      rw [ih hl _ _ hq, radd_assoc]
      rfl
    · rw [if_neg hq]
      rw [if_neg (show ¬ resOK (radd s (total (p :: l))) = true from ?_)]
      · rfl
      · intro hc
        apply hq
        rw [resOK_iff] at hc hs hp ⊢
        simp only [radd, total] at hc ⊢
        omega

theorem first_needs {l : List T_api_Pod} (hl : l.length ≤ 1000) : ∃ r, yard_first_yard_Used_1 (l.length : Int) l = some r ∧ (r = -1 ↔ needsOK l = true) := by
  obtain ⟨r, hr, hf⟩ := loopF (F := fun n i => yard_first_yard_Used_1.l1 (l.length : Int) l n i) (len := l.length) (p := fun k => ∃ h : k < l.length, resOK l[k].Need = false) (by omega) (fun n k hk => by
      rw [yard_first_yard_Used_1.l1, if_pos (dlt hk), wk1 (by omega)]
      unfold yard_Used_1
      rw [glk hk]
      simp only [Option.bind_some, res_Right_eq]
      cases h : resOK l[k].Need with
      | false => exact .inl ⟨rfl, hk, h⟩
      | true => exact .inr ⟨rfl, fun ⟨_, h'⟩ => by rw [h] at h'; cases h'⟩) (fun n => by rw [yard_first_yard_Used_1.l1, if_neg dnl])
  refine ⟨r, hr, ?_⟩
  unfold needsOK
  rw [List.all_eq_true]
  rcases hf with ⟨q, rfl, a, ⟨b, c⟩, d⟩ | ⟨rfl, a⟩
  · refine ⟨fun h => by omega, fun h => ?_⟩
    have := h l[q] (List.getElem_mem _)
    rw [c] at this; cases this
  · refine ⟨fun _ x hx => ?_, fun _ => rfl⟩
    obtain ⟨i, hi, rfl⟩ := List.getElem_of_mem hx
    cases h : resOK l[i].Need with
    | true => rfl
    | false => exact absurd ⟨hi, h⟩ (a i hi)

theorem Used_eq (bs : List T_api_Bound) (name : ByteArray) (hl : bs.length ≤ 1000) : yard_Used bs name = some (usedS (onS bs name)) := by
  have hlen := onS_len bs name
  unfold yard_Used usedS
  rw [On_eq bs name hl]
  simp only [Option.bind_some]
  obtain ⟨r, hr, hf⟩ := first_needs (l := onS bs name) (by omega)
  rw [hr]
  simp only [Option.bind_some]
  cases hn : needsOK (onS bs name) with
  | false =>
    have : r ≠ -1 := fun e => by rw [hf.1 e] at hn; cases hn
    rw [if_pos (by simpa using this)]; rfl
  | true =>
    rw [if_neg (by simp [hf.2 hn]), show (⟨0, 0, 0, 0, 0⟩ : T_api_Res) = r0 from rfl, Used_loop hn 0 r0 (by decide), radd_r0]
    simp only [if_true]
    cases resOK (total (onS bs name)) <;> rfl

/-- What is left. -/
def leftS (has : T_api_Res) (u : T_api_Res × Int) : T_api_Res := if u.2 = 0 ∧ resOK has = true then rsub has (rmin u.1 has) else r0

theorem usedS_ok (l : List T_api_Pod) (h : (usedS l).2 = 0) : resOK (usedS l).1 = true ∧ (usedS l).1 = total l ∧ needsOK l = true ∧ resOK (total l) = true := by
  unfold usedS at h ⊢
  cases hn : needsOK l with
  | false => rw [hn] at h; simp at h
  | true =>
    rw [hn] at h
    simp only [if_true] at h ⊢
    cases ht : resOK (total l) with
    | false => rw [ht] at h; simp at h
    | true => simp [ht]

theorem Left_eq (m : T_api_Machine) (bs : List T_api_Bound) (hl : bs.length ≤ 1000) : yard_Left m bs = some (leftS m.Has (usedS (onS bs m.Name))) := by
  unfold yard_Left leftS
  rw [Used_eq bs m.Name hl]
  simp only [Option.bind_some]
  by_cases h0 : (usedS (onS bs m.Name)).2 = 0
  · rw [if_neg (by simpa using h0), res_Least_eq]
    obtain ⟨h1, _⟩ := usedS_ok _ h0
    rw [h1]
    simp only [Option.bind_some, Bool.true_and, res_Sub_eq]
    by_cases h2 : resOK m.Has = true
    · have h2' : resOK (rmin (usedS (onS bs m.Name)).1 m.Has) = true := resOK_min h1 h2
      have : resOK (rsub m.Has (rmin (usedS (onS bs m.Name)).1 m.Has)) = true := by
        rw [resOK_sub h2 (resOK_min h1 h2), rle_iff]
        simp only [rmin]
        omega
      simp only [h0, h2, h2', Bool.and_self, if_true, this, and_self]
    · have h2' : resOK m.Has = false := by simpa using h2
      rw [if_neg (by rw [h2']; simp), h2']
      simp
  · rw [if_pos (by simpa using h0), if_neg (by simp [h0])]
    rfl

/-! ports -/
def hit : List Int → List Int → Bool
  | [], _ => false
  | _ :: _, [] => false
  | a :: l, b :: m => if a = b then true else if a < b then hit l (b :: m) else hit (a :: l) m
termination_by l m => l.length + m.length

theorem hit_nil_r (l : List Int) : hit l [] = false := by cases l <;> simp [hit]
theorem sl_tail {α : Type} (a : α) (l : List α) (hl : l.length < 1000000) : V.sl (a :: l) (some 1) none = some l := by
  unfold V.sl
  rw [if_pos]
  · simp [lowN, highN]
  · simp [lowN, highN]

theorem common_eq (a b : List Int) (ha : a.length ≤ 1000) (hb : b.length ≤ 1000) : suit_common a b = some (hit a b) := by
  have key : ∀ (m : Nat) (a b : List Int) (f : Nat), a.length + b.length ≤ m → m < f → a.length ≤ 1000 → b.length ≤ 1000 → (suit_common.l1 f a b).bind (fun o => o.on fun _ => some false) = some (hit a b) := by
    intro m
    induction m with
    | zero =>
      intro a b f h1 h2 ha hb
      obtain ⟨f, rfl⟩ : ∃ q, f = q + 1 := ⟨f - 1, by omega⟩
      obtain rfl : a = [] := List.eq_nil_of_length_eq_zero (by omega)
      rw [suit_common.l1, if_neg (by simp)]
      simp [hit, Out.on]
    | succ m ih =>
      intro a b f h1 h2 ha hb
      obtain ⟨f, rfl⟩ : ∃ q, f = q + 1 := ⟨f - 1, by omega⟩
      cases a with
      | nil => rw [suit_common.l1, if_neg (by simp)]; simp [hit, Out.on]
      | cons x a =>
        cases b with
        | nil => rw [suit_common.l1, if_neg (by simp)]; simp [hit, Out.on]
        | cons y b =>
          simp only [List.length_cons] at h1 ha hb
          have g1 : V.gl (x :: a) 0 = some x := rfl
          have g2 : V.gl (y :: b) 0 = some y := rfl
          rw [suit_common.l1, if_pos (by simp), g1, g2, hit]
          simp only [Option.bind_some]
          by_cases h3 : x = y
          · rw [if_pos (by simpa using h3), if_pos h3]; rfl
          · rw [if_neg (by simpa using h3), if_neg h3]
            by_cases h4 : x < y
            · rw [if_pos (by simpa using h4), if_pos h4, sl_tail x a (by omega)]
              simp only [Option.bind_some]
              exact ih a (y :: b) f (by simp only [List.length_cons]; omega) (by omega) (by omega) (by simp only [List.length_cons]; omega)
            · rw [if_neg (by simpa using h4), if_neg h4, sl_tail y b (by omega)]
              simp only [Option.bind_some]
              exact ih (x :: a) b f (by simp only [List.length_cons]; omega) (by omega) (by simp only [List.length_cons]; omega) (by omega)
  unfold suit_common
  exact key (a.length + b.length) a b FU (Nat.le_refl _) (by unfold FU; omega) ha hb

/-- Is there room? -/
def roomS (m : T_api_Machine) (bs : List T_api_Bound) (p : T_api_Pod) : Int :=
  if (resOK (leftS m.Has (usedS (onS (othersS bs p.Name) m.Name))) && resOK p.Need && rle p.Need (leftS m.Has (usedS (onS (othersS bs p.Name) m.Name)))) = true then
    (bif (onS (othersS bs p.Name) m.Name).any (fun q => hit p.Ports q.Ports) then 3 else 0) else 2

theorem Room_eq (m : T_api_Machine) (bs : List T_api_Bound) (p : T_api_Pod) (hl : bs.length ≤ 1000) (hp : p.Ports.length ≤ 1000) (hb : ∀ b, b ∈ bs → b.Pod.Ports.length ≤ 1000) : suit_Room m bs p = some (roomS m bs p) := by
  have hlo := othersS_len bs p.Name
  unfold suit_Room roomS
  rw [others_eq bs p.Name hl]
  simp only [Option.bind_some]
  rw [Left_eq m _ (by omega)]
  simp only [Option.bind_some, res_Fits_eq]
  cases hf : (resOK (leftS m.Has (usedS (onS (othersS bs p.Name) m.Name))) && resOK p.Need && rle p.Need (leftS m.Has (usedS (onS (othersS bs p.Name) m.Name)))) with
  | false => rfl
  | true =>
    simp only [Bool.not_true, Bool.false_eq_true, if_false, if_true]
    rw [On_eq _ _ (by omega)]
    simp only [Option.bind_some]
    have hports : ∀ q, q ∈ onS (othersS bs p.Name) m.Name → q.Ports.length ≤ 1000 := by
      intro q hq
      unfold onS othersS at hq
      obtain ⟨b, h1, rfl⟩ := List.mem_map.1 hq
      exact hb b (List.mem_filter.1 (List.mem_filter.1 h1).1).1
    generalize onS (othersS bs p.Name) m.Name = l at hports
    have key : ∀ (l : List T_api_Pod) (k : Nat), (∀ q, q ∈ l → q.Ports.length ≤ 1000) → (suit_Room.l1 p l k).bind (fun o => o.on fun _ => some (0 : Int)) = some (bif l.any (fun q => hit p.Ports q.Ports) then 3 else 0) := by
      intro l
      induction l with
      | nil => intro k _; rfl
      | cons x l ih =>
        intro k h
        rw [suit_Room.l1, common_eq _ _ hp (h x (by simp))]
        simp only [Option.bind_some, List.any_cons]
        by_cases hx : hit p.Ports x.Ports = true
        · rw [if_pos hx, hx]; rfl
        · have hx' : hit p.Ports x.Ports = false := by simpa using hx
          rw [if_neg hx, hx', Bool.false_or]
          exact ih (k + 1) (fun q hq => h q (by simp [hq]))
    exact key l 0 hports
end Go.Proofs.Ytbkdglcedgiogaa.M

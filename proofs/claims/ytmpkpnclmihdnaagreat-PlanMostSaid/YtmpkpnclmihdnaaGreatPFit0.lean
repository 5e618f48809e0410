/-
  Printed by a program of this session out of the loaded functions: models and their proofs. Own text.
-/
import Derived.Test.YtmpkpnclmihdnaaGreatPTot2
/-
  Plain laws: what the document's check of a yard says of it. Own text.
-/
namespace Go.Proofs.YtmpkpnclmihdnaaGreat.M
open Go Go.Proofs Go.Proofs.YtmpkpnclmihdnaaGreat.V
set_option linter.unusedVariables false

/-- The first place of something, or -1. -/
def firstAt (len : Nat) (p : Nat → Prop) (r : Int) : Prop := (∃ k : Nat, r = (k : Int) ∧ k < len ∧ p k ∧ ∀ j, j < k → ¬ p j) ∨ (r = -1 ∧ ∀ j, j < len → ¬ p j)

theorem loopF {F : Nat → Int → Option (Out Int Unit)} {len : Nat} {p : Nat → Prop} (hl : len < 1000000000000)
    (hs : ∀ n (k : Nat), k < len → (F (n + 1) (k : Int) = some (Out.ret (k : Int)) ∧ p k) ∨ (F (n + 1) (k : Int) = F n ((k + 1 : Nat) : Int) ∧ ¬ p k))
    (he : ∀ n, F (n + 1) (len : Int) = some (Out.go ())) : ∃ r, ((F FU 0).bind fun o => o.on fun _ => some (-1 : Int)) = some r ∧ firstAt len p r := by
  have key : ∀ (m k f : Nat), len - k ≤ m → m < f → k ≤ len → (∃ q : Nat, F f (k : Int) = some (Out.ret (q : Int)) ∧ k ≤ q ∧ q < len ∧ p q ∧ ∀ j, k ≤ j → j < q → ¬ p j) ∨ (F f (k : Int) = some (Out.go ()) ∧ ∀ j, k ≤ j → j < len → ¬ p j) := by
    intro m
    induction m with
    | zero =>
      intro k f h1 h2 h3
      obtain ⟨f, rfl⟩ : ∃ q, f = q + 1 := ⟨f - 1, by omega⟩
      obtain rfl : k = len := by omega
      exact .inr ⟨he f, fun j h4 h5 => by omega⟩
    | succ m ih =>
      intro k f h1 h2 h3
      obtain ⟨f, rfl⟩ : ∃ q, f = q + 1 := ⟨f - 1, by omega⟩
      by_cases hk : k < len
      · rcases hs f k hk with ⟨h4, h5⟩ | ⟨h4, h5⟩
        · exact .inl ⟨k, h4, Nat.le_refl _, hk, h5, fun j a b => by omega⟩
        · rw [h4]
          rcases ih (k + 1) f (by omega) (by omega) (by omega) with ⟨q, a, b, c, d, e⟩ | ⟨h6, h7⟩
          · exact .inl ⟨q, a, by omega, c, d, fun j x y => by
              by_cases ee : j = k
              · subst ee; exact h5
              · exact e j (by omega) y⟩
          · exact .inr ⟨h6, fun j x y => by
              by_cases ee : j = k
              · subst ee; exact h5
              · exact h7 j (by omega) y⟩
      · obtain rfl : k = len := by omega
        exact .inr ⟨he f, fun j h4 h5 => by omega⟩
  rcases key len 0 FU (by omega) (by unfold FU; omega) (Nat.zero_le _) with ⟨q, a, b, c, d, e⟩ | ⟨h1, h2⟩
  · have a' : F FU 0 = some (Out.ret (q : Int)) := a
    exact ⟨(q : Int), by rw [a']; rfl, .inl ⟨q, rfl, c, d, fun j hj => e j (Nat.zero_le _) hj⟩⟩
  · have a' : F FU 0 = some (Out.go ()) := h1
    exact ⟨-1, by rw [a']; rfl, .inr ⟨rfl, fun j hj => h2 j (Nat.zero_le _) hj⟩⟩

theorem Find9_eq (ms : List T_api_Machine) (name : ByteArray) (hl : ms.length < 1000000000000) : ∃ r, ref09_Find ms name = some r ∧ firstAt ms.length (fun k => ∃ h : k < ms.length, ms[k].Name = name) r := by
  unfold ref09_Find
  refine loopF (F := fun n i => ref09_Find.l1 ms name n i) hl (fun n k hk => ?_) (fun n => by rw [ref09_Find.l1, if_neg dnl])
  rw [ref09_Find.l1, if_pos (dlt hk), glk hk, wk1 (by omega)]
  simp only [Option.bind_some, seq_eq]
  by_cases h : ms[k].Name = name
  · rw [if_pos (by simpa using h)]; exact .inl ⟨rfl, hk, h⟩
  · rw [if_neg (by simpa using h)]; exact .inr ⟨rfl, fun ⟨_, h'⟩ => h h'⟩
theorem Place9_eq (bs : List T_api_Bound) (name : ByteArray) (hl : bs.length < 1000000000000) : ∃ r, ref09_Place bs name = some r ∧ firstAt bs.length (fun k => ∃ h : k < bs.length, bs[k].Pod.Name = name) r := by
  unfold ref09_Place
  refine loopF (F := fun n i => ref09_Place.l1 bs name n i) hl (fun n k hk => ?_) (fun n => by rw [ref09_Place.l1, if_neg dnl])
  rw [ref09_Place.l1, if_pos (dlt hk), glk hk, wk1 (by omega)]
  simp only [Option.bind_some, seq_eq]
  by_cases h : bs[k].Pod.Name = name
  · rw [if_pos (by simpa using h)]; exact .inl ⟨rfl, hk, h⟩
  · rw [if_neg (by simpa using h)]; exact .inr ⟨rfl, fun ⟨_, h'⟩ => h h'⟩

/-- A right yard. -/
structure RY (ms : List T_api_Machine) (bs : List T_api_Bound) : Prop where
  rm : ∀ k (h : k < ms.length), ms[k].Name ≠ ⟨#[]⟩ ∧ ref07_RightMachine ms[k] = some true
  rb : ∀ k (h : k < bs.length), ref07_RightPod bs[k].Pod = some true
  mu : ∀ j k (h : j < ms.length) (h' : k < ms.length), ms[j].Name = ms[k].Name → j = k
  bu : ∀ j k (h : j < bs.length) (h' : k < bs.length), bs[j].Pod.Name = bs[k].Pod.Name → j = k
  on : ∀ k (h : k < bs.length), bs[k].On ≠ ⟨#[]⟩ → ∃ j, ∃ h' : j < ms.length, ms[j].Name = bs[k].On

theorem first_self {len : Nat} {p : Nat → Nat → Prop} {k : Nat} {r : Int} (hk : k < len) (hp : p k k) (h : firstAt len (fun j => p j k) r) : (r = (k : Int) ∧ ∀ j, j < k → ¬ p j k) ∨ (r ≠ (k : Int)) := by
  rcases h with ⟨q, rfl, h1, h2, h3⟩ | ⟨rfl, h1⟩
  · by_cases e : q = k
    · subst e; exact .inl ⟨rfl, h3⟩
    · exact .inr (by omega)
  · exact absurd hp (h1 k hk)

theorem Check9_eq {ms : List T_api_Machine} {bs : List T_api_Bound} (hy : LY ms bs) : ∃ r, ref09_Check ms bs = some r ∧ (r = 0 → RY ms bs) := by
  have hnm := hy.nm
  have hnb := hy.nb
  unfold ref09_Check
  rw [if_neg (by simp; omega)]
  rcases loopI (F := fun n i => ref09_Check.l1 ms n i) (Q := fun r => r = 12) (S := fun k => ∀ h : k < ms.length, ms[k].Name ≠ ⟨#[]⟩ ∧ ref07_RightMachine ms[k] = some true) (len := ms.length) (by omega) (fun n k hk => by
      rw [ref09_Check.l1, if_pos (dlt hk), glk hk, wk1 (by omega)]
      simp only [Option.bind_some, seq_eq]
      obtain ⟨b, hb⟩ := RMach_tot (hy.ms k hk)
      by_cases h : ms[k].Name = ⟨#[]⟩
      · rw [if_pos (by simpa using h)]; exact .inl ⟨12, rfl, rfl⟩
      · rw [if_neg (by simpa using h), hb]
        cases b with
        | false => exact .inl ⟨12, rfl, rfl⟩
        | true => exact .inr ⟨rfl, fun _ => ⟨h, hb⟩⟩) (fun n => by rw [ref09_Check.l1, if_neg dnl]) with ⟨r, h1, rfl⟩ | ⟨h1, g1⟩
  · rw [h1]; exact ⟨12, rfl, fun h => absurd h (by decide)⟩
  rw [h1]
  simp only [Option.bind_some, Out.on]
  rcases loopI (F := fun n i => ref09_Check.l2 bs n i) (Q := fun r => r = 12) (S := fun k => ∀ h : k < bs.length, ref07_RightPod bs[k].Pod = some true) (len := bs.length) (by omega) (fun n k hk => by
      rw [ref09_Check.l2, if_pos (dlt hk), glk hk, wk1 (by omega)]
      simp only [Option.bind_some]
      obtain ⟨b, hb⟩ := RPod_tot (hy.bs k hk).1
      rw [hb]
      cases b with
      | false => exact .inl ⟨12, rfl, rfl⟩
      | true => exact .inr ⟨rfl, fun _ => hb⟩) (fun n => by rw [ref09_Check.l2, if_neg dnl]) with ⟨r, h2, rfl⟩ | ⟨h2, g2⟩
  · rw [h2]; exact ⟨12, rfl, fun h => absurd h (by decide)⟩
  rw [h2]
  simp only [Option.bind_some]
  rcases loopI (F := fun n i => ref09_Check.l3 ms n i) (Q := fun r => r = 15) (S := fun k => ∀ h : k < ms.length, ∀ j (h' : j < ms.length), j < k → ms[j].Name ≠ ms[k].Name) (len := ms.length) (by omega) (fun n k hk => by
      rw [ref09_Check.l3, if_pos (dlt hk), glk hk, wk1 (by omega)]
      simp only [Option.bind_some]
      obtain ⟨r, hr, hf⟩ := Find9_eq ms ms[k].Name (by omega)
      rw [hr]
      simp only [Option.bind_some]
      rcases first_self (p := fun j k => ∃ (h : j < ms.length) (h' : k < ms.length), ms[j].Name = ms[k].Name) hk ⟨hk, hk, rfl⟩ (by
        refine (show firstAt ms.length _ r → firstAt ms.length _ r from fun h => ?_) hf
        rcases h with ⟨q, a, b, ⟨c, d⟩, e⟩ | ⟨a, b⟩
        · exact .inl ⟨q, a, b, ⟨c, hk, d⟩, fun j hj ⟨x, _, y⟩ => e j hj ⟨x, y⟩⟩
        · exact .inr ⟨a, fun j hj ⟨x, _, y⟩ => b j hj ⟨x, y⟩⟩) with ⟨rfl, h⟩ | h
      · rw [if_neg (by simp)]; exact .inr ⟨rfl, fun _ j hj hjk e => h j hjk ⟨hj, hk, e⟩⟩
      · rw [if_pos (by simpa using h)]; exact .inl ⟨15, rfl, rfl⟩) (fun n => by rw [ref09_Check.l3, if_neg dnl]) with ⟨r, h3, rfl⟩ | ⟨h3, g3⟩
  · rw [h3]; exact ⟨15, rfl, fun h => absurd h (by decide)⟩
  rw [h3]
  simp only [Option.bind_some]
  rcases loopI (F := fun n i => ref09_Check.l4 bs n i) (Q := fun r => r = 15) (S := fun k => ∀ h : k < bs.length, ∀ j (h' : j < bs.length), j < k → bs[j].Pod.Name ≠ bs[k].Pod.Name) (len := bs.length) (by omega) (fun n k hk => by
      rw [ref09_Check.l4, if_pos (dlt hk), glk hk, wk1 (by omega)]
      simp only [Option.bind_some]
      obtain ⟨r, hr, hf⟩ := Place9_eq bs bs[k].Pod.Name (by omega)
      rw [hr]
      simp only [Option.bind_some]
      rcases first_self (p := fun j k => ∃ (h : j < bs.length) (h' : k < bs.length), bs[j].Pod.Name = bs[k].Pod.Name) hk ⟨hk, hk, rfl⟩ (by
        refine (show firstAt bs.length _ r → firstAt bs.length _ r from fun h => ?_) hf
        rcases h with ⟨q, a, b, ⟨c, d⟩, e⟩ | ⟨a, b⟩
        · exact .inl ⟨q, a, b, ⟨c, hk, d⟩, fun j hj ⟨x, _, y⟩ => e j hj ⟨x, y⟩⟩
        · exact .inr ⟨a, fun j hj ⟨x, _, y⟩ => b j hj ⟨x, y⟩⟩) with ⟨rfl, h⟩ | h
      · rw [if_neg (by simp)]; exact .inr ⟨rfl, fun _ j hj hjk e => h j hjk ⟨hj, hk, e⟩⟩
      · rw [if_pos (by simpa using h)]; exact .inl ⟨15, rfl, rfl⟩) (fun n => by rw [ref09_Check.l4, if_neg dnl]) with ⟨r, h4, rfl⟩ | ⟨h4, g4⟩
  · rw [h4]; exact ⟨15, rfl, fun h => absurd h (by decide)⟩
  rw [h4]
  simp only [Option.bind_some]
  rcases loopI (F := fun n i => ref09_Check.l5 ms bs n i) (Q := fun r => r = 16) (S := fun k => ∀ h : k < bs.length, bs[k].On ≠ ⟨#[]⟩ → ∃ j, ∃ h' : j < ms.length, ms[j].Name = bs[k].On) (len := bs.length) (by omega) (fun n k hk => by
      rw [ref09_Check.l5, if_pos (dlt hk), glk hk, wk1 (by omega)]
      simp only [Option.bind_some, seq_eq]
      obtain ⟨r, hr, hf⟩ := Find9_eq ms bs[k].On (by omega)
      by_cases h : bs[k].On = ⟨#[]⟩
      · rw [if_neg (by simpa using h)]; exact .inr ⟨rfl, fun _ h' => absurd h h'⟩
      · rw [if_pos (by simpa using h), hr]
        simp only [Option.bind_some]
        rcases hf with ⟨q, rfl, b, ⟨c, d⟩, e⟩ | ⟨rfl, b⟩
        · rw [if_neg (by simp)]; exact .inr ⟨rfl, fun _ _ => ⟨q, c, d⟩⟩
        · exact .inl ⟨16, rfl, rfl⟩) (fun n => by rw [ref09_Check.l5, if_neg dnl]) with ⟨r, h5, rfl⟩ | ⟨h5, g5⟩
  · rw [h5]; exact ⟨16, rfl, fun h => absurd h (by decide)⟩
  rw [h5]
  refine ⟨0, rfl, fun _ => ⟨fun k hk => g1 k hk hk, fun k hk => g2 k hk hk, fun j k hj hk e => ?_, fun j k hj hk e => ?_, fun k hk => g5 k hk hk⟩⟩
  · by_cases h1 : j < k
    · exact absurd e (g3 k hk hk j hj h1)
    · by_cases h2 : k < j
      · exact absurd e.symm (g3 j hj hj k hk h2)
      · omega
  · by_cases h1 : j < k
    · exact absurd e (g4 k hk hk j hj h1)
    · by_cases h2 : k < j
      · exact absurd e.symm (g4 j hj hj k hk h2)
      · omega
end Go.Proofs.YtmpkpnclmihdnaaGreat.M
/-
  Plain laws of suit: what the program's functions tell, by definition; SuitTolerant, SuitLess. Own text.
-/
namespace Go.Proofs.YtmpkpnclmihdnaaGreat.M
open Go Go.Proofs Go.Proofs.YtmpkpnclmihdnaaGreat.V
set_option linter.unusedVariables false

theorem res_Fits_eq (a b : T_api_Res) : res_Fits a b = some (resOK b && resOK a && rle a b) := by
  unfold res_Fits
  rw [res_Sub_eq]
  simp only [Option.bind_some]
  cases hb : resOK b with
  | false => rfl
  | true =>
    cases ha : resOK a with
    | false => rfl
    | true =>
      simp only [Bool.and_self, if_true, Bool.true_and]
      rw [resOK_sub hb ha]
      cases rle a b <;> rfl

theorem ap_ok {α : Type} {b : Nat} {l m : List α} (hb : b ≤ 1000) (h : l.length + m.length ≤ 1000000) : V.ap b l m = some (l ++ m) := by
  unfold V.ap
  rw [if_pos]
  refine ⟨by unfold maxLen; omega, ?_⟩
  have : (l.length + m.length) * b ≤ 1000000 * 1000 := Nat.mul_le_mul h hb
  omega

/-- The others. -/
def othersS (bs : List T_api_Bound) (name : ByteArray) : List T_api_Bound := bs.filter fun b => decide (b.Pod.Name ≠ name)
def onS (bs : List T_api_Bound) (name : ByteArray) : List T_api_Pod := (bs.filter fun b => decide (b.On = name)).map (·.Pod)

theorem others_eq (bs : List T_api_Bound) (name : ByteArray) (hl : bs.length ≤ 1000) : suit_others bs name = some (othersS bs name) := by
  have key : ∀ (l : List T_api_Bound) (k : Nat) (acc : List T_api_Bound), l.length + acc.length ≤ 1000 → suit_others.l1 name l k acc = some (acc ++ othersS l name) := by
    intro l
    induction l with
    | nil => intro k acc h; simp [suit_others.l1, othersS]
    | cons x l ih =>
      intro k acc h
      simp only [List.length_cons] at h
      rw [suit_others.l1, seq_eq]
      by_cases hx : x.Pod.Name = name
      · rw [if_neg (by simp [hx]), ih _ _ (by omega)]
        simp [othersS, hx]
      · rw [if_pos (by simp [hx]), ap_ok (by omega) (by simp; omega)]
        simp only [Option.bind_some]
        rw [ih _ _ (by simp; omega)]
        simp [othersS, hx]
  unfold suit_others
  rw [key bs 0 [] (by simp; omega)]
  simp

theorem On_eq (bs : List T_api_Bound) (name : ByteArray) (hl : bs.length ≤ 1000) : yard_On bs name = some (onS bs name) := by
  have key : ∀ (l : List T_api_Bound) (k : Nat) (acc : List T_api_Pod), l.length + acc.length ≤ 1000 → yard_On.l1 name l k acc = some (acc ++ onS l name) := by
    intro l
    induction l with
    | nil => intro k acc h; simp [yard_On.l1, onS]
    | cons x l ih =>
      intro k acc h
      simp only [List.length_cons] at h
      rw [yard_On.l1, seq_eq]
      by_cases hx : x.On = name
      · rw [if_pos (by simp [hx]), ap_ok (by omega) (by simp; omega)]
        simp only [Option.bind_some]
        rw [ih _ _ (by simp; omega)]
        simp [onS, hx]
      · rw [if_neg (by simp [hx]), ih _ _ (by omega)]
        simp [onS, hx]
  unfold yard_On
  rw [key bs 0 [] (by simp; omega)]
  simp

theorem onS_len (bs : List T_api_Bound) (name : ByteArray) : (onS bs name).length ≤ bs.length := by
  unfold onS; rw [List.length_map]; exact List.length_filter_le _ _
theorem othersS_len (bs : List T_api_Bound) (name : ByteArray) : (othersS bs name).length ≤ bs.length := List.length_filter_le _ _

/-- All that pods need. -/
def total : List T_api_Pod → T_api_Res
  | [] => r0
  | p :: l => radd p.Need (total l)
def needsOK (l : List T_api_Pod) : Bool := l.all fun p => resOK p.Need
def usedS (l : List T_api_Pod) : T_api_Res × Int := if needsOK l = true then (if resOK (total l) = true then (total l, 0) else (r0, 10)) else (r0, 12)

theorem total_nn {l : List T_api_Pod} (h : needsOK l = true) : 0 ≤ (total l).Cpu ∧ 0 ≤ (total l).Mem ∧ 0 ≤ (total l).Disk ∧ 0 ≤ (total l).Pods ∧ 0 ≤ (total l).Dev := by
  induction l with
  | nil => simp [total, r0]
  | cons p l ih =>
    unfold needsOK at h
    simp only [List.all_cons, Bool.and_eq_true] at h
    have h1 := (resOK_iff _).1 h.1
    have h2 := ih h.2
    simp only [total, radd]
    omega

theorem radd_r0 (a : T_api_Res) : radd r0 a = a := by cases a; simp [radd, r0]
theorem radd_assoc (a b c : T_api_Res) : radd (radd a b) c = radd a (radd b c) := by
  simp only [radd, T_api_Res.mk.injEq]; omega

theorem Used_loop {l : List T_api_Pod} (h : needsOK l = true) : ∀ (k : Nat) (s : T_api_Res), resOK s = true → yard_Used.l1 l k s = some (if resOK (radd s (total l)) = true then Out.go (radd s (total l)) else Out.ret (r0, 10)) := by
  induction l with
  | nil =>
    intro k s hs
    have e : radd s (total []) = s := by cases s; simp [radd, total, r0]
    rw [yard_Used.l1, e, if_pos hs]
  | cons p l ih =>
    intro k s hs
    have h0 := h
    unfold needsOK at h
    simp only [List.all_cons, Bool.and_eq_true] at h
    have hl : needsOK l = true := h.2
    have hp := h.1
    have hnn := total_nn hl
    rw [yard_Used.l1, res_Add_eq, hs, hp]
    simp only [Bool.and_self, if_true, Option.bind_some]
    by_cases hq : resOK (radd s p.Need) = true
    · rw [if_pos hq]
      simp only [bne_self_eq_false, Bool.false_eq_true, if_false]
      rw [ih hl _ _ hq, radd_assoc]
      rfl
    · rw [if_neg hq]
      rw [if_neg (show ¬ resOK (radd s (total (p :: l))) = true from ?_)]
      · rfl
      · intro hc
        apply hq
        rw [resOK_iff] at hc hs hp ⊢
        simp only [radd, total] at hc ⊢
        omega

theorem first_needs {l : List T_api_Pod} (hl : l.length ≤ 1000) : ∃ r, yard_first_yard_Used_1 (l.length : Int) l = some r ∧ (r = -1 ↔ needsOK l = true) := by
  obtain ⟨r, hr, hf⟩ := loopF (F := fun n i => yard_first_yard_Used_1.l1 (l.length : Int) l n i) (len := l.length) (p := fun k => ∃ h : k < l.length, resOK l[k].Need = false) (by omega) (fun n k hk => by
      rw [yard_first_yard_Used_1.l1, if_pos (dlt hk), wk1 (by omega)]
      unfold yard_Used_1
      rw [glk hk]
      simp only [Option.bind_some, res_Right_eq]
      cases h : resOK l[k].Need with
      | false => exact .inl ⟨rfl, hk, h⟩
      | true => exact .inr ⟨rfl, fun ⟨_, h'⟩ => by rw [h] at h'; cases h'⟩) (fun n => by rw [yard_first_yard_Used_1.l1, if_neg dnl])
  refine ⟨r, hr, ?_⟩
  unfold needsOK
  rw [List.all_eq_true]
  rcases hf with ⟨q, rfl, a, ⟨b, c⟩, d⟩ | ⟨rfl, a⟩
  · refine ⟨fun h => by omega, fun h => ?_⟩
    have := h l[q] (List.getElem_mem _)
    rw [c] at this; cases this
  · refine ⟨fun _ x hx => ?_, fun _ => rfl⟩
    obtain ⟨i, hi, rfl⟩ := List.getElem_of_mem hx
    cases h : resOK l[i].Need with
    | true => rfl
    | false => exact absurd ⟨hi, h⟩ (a i hi)

theorem Used_eq (bs : List T_api_Bound) (name : ByteArray) (hl : bs.length ≤ 1000) : yard_Used bs name = some (usedS (onS bs name)) := by
  have hlen := onS_len bs name
  unfold yard_Used usedS
  rw [On_eq bs name hl]
  simp only [Option.bind_some]
  obtain ⟨r, hr, hf⟩ := first_needs (l := onS bs name) (by omega)
  rw [hr]
  simp only [Option.bind_some]
  cases hn : needsOK (onS bs name) with
  | false =>
    have : r ≠ -1 := fun e => by rw [hf.1 e] at hn; cases hn
    rw [if_pos (by simpa using this)]; rfl
  | true =>
    rw [if_neg (by simp [hf.2 hn]), show (⟨0, 0, 0, 0, 0⟩ : T_api_Res) = r0 from rfl, Used_loop hn 0 r0 (by decide), radd_r0]
    simp only [if_true]
    cases resOK (total (onS bs name)) <;> rfl

/-- What is left. -/
def leftS (has : T_api_Res) (u : T_api_Res × Int) : T_api_Res := if u.2 = 0 ∧ resOK has = true then rsub has (rmin u.1 has) else r0

theorem usedS_ok (l : List T_api_Pod) (h : (usedS l).2 = 0) : resOK (usedS l).1 = true ∧ (usedS l).1 = total l ∧ needsOK l = true ∧ resOK (total l) = true := by
  unfold usedS at h ⊢
  cases hn : needsOK l with
  | false => rw [hn] at h; simp at h
  | true =>
    rw [hn] at h
    simp only [if_true] at h ⊢
    cases ht : resOK (total l) with
    | false => rw [ht] at h; simp at h
    | true => simp [ht]

theorem Left_eq (m : T_api_Machine) (bs : List T_api_Bound) (hl : bs.length ≤ 1000) : yard_Left m bs = some (leftS m.Has (usedS (onS bs m.Name))) := by
  unfold yard_Left leftS
  rw [Used_eq bs m.Name hl]
  simp only [Option.bind_some]
  by_cases h0 : (usedS (onS bs m.Name)).2 = 0
  · rw [if_neg (by simpa using h0), res_Least_eq]
    obtain ⟨h1, _⟩ := usedS_ok _ h0
    rw [h1]
    simp only [Option.bind_some, Bool.true_and, res_Sub_eq]
    by_cases h2 : resOK m.Has = true
    · have h2' : resOK (rmin (usedS (onS bs m.Name)).1 m.Has) = true := resOK_min h1 h2
      have : resOK (rsub m.Has (rmin (usedS (onS bs m.Name)).1 m.Has)) = true := by
        rw [resOK_sub h2 (resOK_min h1 h2), rle_iff]
        simp only [rmin]
        omega
      simp only [h0, h2, h2', Bool.and_self, if_true, this, and_self]
    · have h2' : resOK m.Has = false := by simpa using h2
      rw [if_neg (by rw [h2']; simp), h2']
      simp
  · rw [if_pos (by simpa using h0), if_neg (by simp [h0])]
    rfl

/-! ports -/
def hit : List Int → List Int → Bool
  | [], _ => false
  | _ :: _, [] => false
  | a :: l, b :: m => if a = b then true else if a < b then hit l (b :: m) else hit (a :: l) m
termination_by l m => l.length + m.length

theorem hit_nil_r (l : List Int) : hit l [] = false := by cases l <;> simp [hit]
theorem sl_tail {α : Type} (a : α) (l : List α) (hl : l.length < 1000000) : V.sl (a :: l) (some 1) none = some l := by
  unfold V.sl
  rw [if_pos]
  · simp [lowN, highN]
  · simp [lowN, highN]

theorem common_eq (a b : List Int) (ha : a.length ≤ 1000) (hb : b.length ≤ 1000) : suit_common a b = some (hit a b) := by
  have key : ∀ (m : Nat) (a b : List Int) (f : Nat), a.length + b.length ≤ m → m < f → a.length ≤ 1000 → b.length ≤ 1000 → (suit_common.l1 f a b).bind (fun o => o.on fun _ => some false) = some (hit a b) := by
    intro m
    induction m with
    | zero =>
      intro a b f h1 h2 ha hb
      obtain ⟨f, rfl⟩ : ∃ q, f = q + 1 := ⟨f - 1, by omega⟩
      obtain rfl : a = [] := List.eq_nil_of_length_eq_zero (by omega)
      rw [suit_common.l1, if_neg (by simp)]
      simp [hit, Out.on]
    | succ m ih =>
      intro a b f h1 h2 ha hb
      obtain ⟨f, rfl⟩ : ∃ q, f = q + 1 := ⟨f - 1, by omega⟩
      cases a with
      | nil => rw [suit_common.l1, if_neg (by simp)]; simp [hit, Out.on]
      | cons x a =>
        cases b with
        | nil => rw [suit_common.l1, if_neg (by simp)]; simp [hit, Out.on]
        | cons y b =>
          simp only [List.length_cons] at h1 ha hb
          have g1 : V.gl (x :: a) 0 = some x := rfl
          have g2 : V.gl (y :: b) 0 = some y := rfl
          rw [suit_common.l1, if_pos (by simp), g1, g2, hit]
          simp only [Option.bind_some]
          by_cases h3 : x = y
          · rw [if_pos (by simpa using h3), if_pos h3]; rfl
          · rw [if_neg (by simpa using h3), if_neg h3]
            by_cases h4 : x < y
            · rw [if_pos (by simpa using h4), if_pos h4, sl_tail x a (by omega)]
              simp only [Option.bind_some]
              exact ih a (y :: b) f (by simp only [List.length_cons]; omega) (by omega) (by omega) (by simp only [List.length_cons]; omega)
            · rw [if_neg (by simpa using h4), if_neg h4, sl_tail y b (by omega)]
              simp only [Option.bind_some]
              exact ih (x :: a) b f (by simp only [List.length_cons]; omega) (by omega) (by simp only [List.length_cons]; omega) (by omega)
  unfold suit_common
  exact key (a.length + b.length) a b FU (Nat.le_refl _) (by unfold FU; omega) ha hb

/-- Is there room? -/
def roomS (m : T_api_Machine) (bs : List T_api_Bound) (p : T_api_Pod) : Int :=
  if (resOK (leftS m.Has (usedS (onS (othersS bs p.Name) m.Name))) && resOK p.Need && rle p.Need (leftS m.Has (usedS (onS (othersS bs p.Name) m.Name)))) = true then
    (bif (onS (othersS bs p.Name) m.Name).any (fun q => hit p.Ports q.Ports) then 3 else 0) else 2

theorem Room_eq (m : T_api_Machine) (bs : List T_api_Bound) (p : T_api_Pod) (hl : bs.length ≤ 1000) (hp : p.Ports.length ≤ 1000) (hb : ∀ b, b ∈ bs → b.Pod.Ports.length ≤ 1000) : suit_Room m bs p = some (roomS m bs p) := by
  have hlo := othersS_len bs p.Name
  unfold suit_Room roomS
  rw [others_eq bs p.Name hl]
  simp only [Option.bind_some]
  rw [Left_eq m _ (by omega)]
  simp only [Option.bind_some, res_Fits_eq]
  cases hf : (resOK (leftS m.Has (usedS (onS (othersS bs p.Name) m.Name))) && resOK p.Need && rle p.Need (leftS m.Has (usedS (onS (othersS bs p.Name) m.Name)))) with
  | false => rfl
  | true =>
    simp only [Bool.not_true, Bool.false_eq_true, if_false, if_true]
    rw [On_eq _ _ (by omega)]
    simp only [Option.bind_some]
    have hports : ∀ q, q ∈ onS (othersS bs p.Name) m.Name → q.Ports.length ≤ 1000 := by
      intro q hq
      unfold onS othersS at hq
      obtain ⟨b, h1, rfl⟩ := List.mem_map.1 hq
      exact hb b (List.mem_filter.1 (List.mem_filter.1 h1).1).1
    generalize onS (othersS bs p.Name) m.Name = l at hports
    have key : ∀ (l : List T_api_Pod) (k : Nat), (∀ q, q ∈ l → q.Ports.length ≤ 1000) → (suit_Room.l1 p l k).bind (fun o => o.on fun _ => some (0 : Int)) = some (bif l.any (fun q => hit p.Ports q.Ports) then 3 else 0) := by
      intro l
      induction l with
      | nil => intro k _; rfl
      | cons x l ih =>
        intro k h
        rw [suit_Room.l1, common_eq _ _ hp (h x (by simp))]
        simp only [Option.bind_some, List.any_cons]
        by_cases hx : hit p.Ports x.Ports = true
        · rw [if_pos hx, hx]; rfl
        · have hx' : hit p.Ports x.Ports = false := by simpa using hx
          rw [if_neg hx, hx', Bool.false_or]
          exact ih (k + 1) (fun q hq => h q (by simp [hq]))
    exact key l 0 hports
end Go.Proofs.YtmpkpnclmihdnaaGreat.M
/-
  Plain laws: whether a pod suits a machine, out of its parts; what fewer pods leave. Own text.
-/
namespace Go.Proofs.YtmpkpnclmihdnaaGreat.M
open Go Go.Proofs Go.Proofs.YtmpkpnclmihdnaaGreat.V
set_option linter.unusedVariables false

theorem Number_tot {s : ByteArray} (h : s.size ≤ 300) : isS (quant_Number s) := by
  unfold quant_Number
  refine T.bind (T.ite (fun _ => T.pure _) fun _ => T.bind ?_ fun _ _ => T.pure _) fun c _ => T.ite (fun _ => T.pure _) fun _ => T.bind ?_ fun _ _ => T.ite (fun _ => T.pure _) fun _ => T.pure _
  · unfold quant_head
    refine T.bind (T.loop (F := fun n i => quant_head.l1 s n i) (len := s.size) (by omega) (fun n k hk ih => ?_) (fun n => ?_)) fun _ _ => T.pure _
    · rw [quant_head.l1, if_pos (by simp; omega), gi_nat hk, wk1 (by omega)]
      simp only [Option.bind_some]
      exact T.bind (T.ite (fun _ => T.pure _) fun _ => T.pure _) fun _ _ => T.ite (fun _ => ih) fun _ => T.pure _
    · rw [quant_head.l1, if_neg (by simp)]
      simp only [Option.bind_some, Bool.false_eq_true, if_false]
      exact T.pure _
  · unfold quant_value
    refine T.bind (T.loop2 (F := fun n c i => quant_value.l1 s 1125899906842624 n c i) (len := s.size) (by omega) (fun n c k hk ih => ?_) (fun n c => ?_) 0) fun o _ => T.on o fun _ => T.pure _
    · rw [quant_value.l1, if_pos (by simp; omega), gi_nat hk, wk1 (by omega)]
      simp only [Option.bind_some]
      refine T.bind ⟨_, by unfold V.quo; rw [if_neg (by decide)]⟩ fun _ _ => T.ite (fun _ => T.pure _) fun _ => ih _
    · rw [quant_value.l1, if_neg (by simp)]; exact T.pure _

theorem at_tot (l : List T_api_Label) (key : ByteArray) : ∃ r, labels_at l key = some r ∧ (r.2 = true → ∃ k : Nat, r.1 = (k : Int) ∧ k < l.length) := by
  have h : ∀ (l2 : List T_api_Label) (k : Nat), (labels_at.l1 key l2 k = some (Out.go ())) ∨ ∃ q : Nat, ∃ b, labels_at.l1 key l2 k = some (Out.ret ((q : Int), b)) ∧ q < k + l2.length := by
    intro l2
    induction l2 with
    | nil => intro k; exact .inl rfl
    | cons x l2 ih =>
      intro k
      rw [labels_at.l1]
      by_cases hx : (!(V.slt x.Key key)) = true
      · rw [if_pos hx]; exact .inr ⟨k, _, rfl, by simp⟩
      · rw [if_neg hx]
        rcases ih (k + 1) with h | ⟨q, b, h1, h2⟩
        · exact .inl h
        · exact .inr ⟨q, b, h1, by simp only [List.length_cons]; omega⟩
  unfold labels_at
  rcases h l 0 with h | ⟨q, b, h1, h2⟩
  · rw [h]; exact ⟨_, rfl, by simp⟩
  · rw [h1]; exact ⟨_, rfl, fun _ => ⟨q, rfl, by omega⟩⟩

theorem Get_tot (l : List T_api_Label) (key : ByteArray) : isS (labels_Get l key) := by
  obtain ⟨r, hr, hk⟩ := at_tot l key
  unfold labels_Get
  rw [hr]
  simp only [Option.bind_some]
  refine T.ite (fun _ => T.pure _) fun h => ?_
  obtain ⟨k, e, hl⟩ := hk (by simpa using h)
  rw [e, glk hl]
  exact T.pure _

theorem Get_val {l : List T_api_Label} (hl : LL l) {key : ByteArray} {r : ByteArray × Bool} (h : labels_Get l key = some r) : r.1.size ≤ 300 := by
  obtain ⟨q, hq, hk⟩ := at_tot l key
  unfold labels_Get at h
  rw [hq] at h
  simp only [Option.bind_some] at h
  by_cases h2 : q.2 = true
  · obtain ⟨k, e, hlk⟩ := hk h2
    rw [if_neg (by simp [h2]), e, glk hlk] at h
    simp only [Option.bind_some, Option.some.injEq] at h
    subst h
    exact (hl.2 k hlk).2
  · rw [if_pos (by simpa using h2)] at h
    simp only [Option.some.injEq] at h
    subst h
    exact Nat.zero_le _

theorem Has_tot (l s : List T_api_Label) : isS (labels_Has l s) := by
  have h : ∀ (s : List T_api_Label) (k : Nat), isS (labels_Has.l1 l s k) := by
    intro s
    induction s with
    | nil => intro k; exact T.pure _
    | cons x s ih =>
      intro k
      rw [labels_Has.l1]
      exact T.bind (Get_tot l x.Key) fun _ _ => T.ite (fun _ => T.pure _) fun _ => ih (k + 1)
  unfold labels_Has
  exact T.bind (h s 0) fun o _ => T.on o fun _ => T.pure _

theorem among_tot (l : List ByteArray) (s : ByteArray) : isS (labels_among l s) := by
  have h : ∀ (l : List ByteArray) (k : Nat), isS (labels_among.l1 s l k) := by
    intro l
    induction l with
    | nil => intro k; exact T.pure _
    | cons x l ih =>
      intro k
      rw [labels_among.l1]
      exact T.ite (fun _ => T.pure _) fun _ => ih (k + 1)
  unfold labels_among
  exact T.bind (h l 0) fun o _ => T.on o fun _ => T.pure _

theorem Meets_tot {l : List T_api_Label} {t : T_api_Term} (hl : LL l) (ht : LT t) : isS (labels_Meets l t) := by
  unfold labels_Meets
  refine T.bind (Get_tot l t.Key) fun r hr => T.ite (fun _ => T.bind (T.ite (fun _ => T.bind (among_tot _ _) fun _ _ => T.pure _) fun _ => T.pure _) fun _ _ => T.pure _) fun _ => T.ite (fun _ => T.bind (T.ite (fun _ => T.pure _) fun _ => T.bind (among_tot _ _) fun _ _ => T.pure _) fun _ _ => T.pure _) fun _ =>
    T.ite (fun _ => T.pure _) fun _ => T.ite (fun _ => T.pure _) fun _ => T.ite (fun _ => T.pure _) fun hv => ?_
  have hlen : t.Vals.length = 1 := by
    have : ¬ (¬ ((t.Vals.length : Int) = 1)) := fun h => hv (by simp [h])
    omega
  have hval := Get_val hl hr
  rw [show (0 : Int) = ((0 : Nat) : Int) from rfl, glk (by omega)]
  unfold labels_number
  exact T.bind (T.bind (Number_tot hval) fun _ _ => T.pure _) fun _ _ => T.bind (T.pure _) fun x hx => T.bind (T.bind (Number_tot (by
    simp only [Option.some.injEq] at hx
    subst hx
    exact ht.2.2 0 (by omega))) fun _ _ => T.pure _) fun _ _ => T.ite (fun _ => T.pure _) fun _ => T.pure _

theorem All_tot {l : List T_api_Label} {ts : List T_api_Term} (hl : LL l) (ht : ∀ t, t ∈ ts → LT t) : isS (labels_All l ts) := by
  have h : ∀ (s : List T_api_Term) (k : Nat), (∀ t, t ∈ s → LT t) → isS (labels_All.l1 l s k) := by
    intro s
    induction s with
    | nil => intro k _; exact T.pure _
    | cons x s ih =>
      intro k h
      rw [labels_All.l1]
      exact T.bind (Meets_tot hl (h x (by simp))) fun _ _ => T.ite (fun _ => T.pure _) fun _ => ih (k + 1) (fun t ht => h t (by simp [ht]))
  unfold labels_All
  exact T.bind (h ts 0 ht) fun o _ => T.on o fun _ => T.pure _

theorem TBears_tot (t : T_api_Toleration) (x : T_api_Taint) : isS (taints_Bears t x) := by
  unfold taints_Bears
  exact T.ite (fun _ => T.pure _) fun _ => T.ite (fun _ => T.pure _) fun _ => T.pure _
theorem borne_tot (l : List T_api_Toleration) (x : T_api_Taint) : isS (taints_borne l x) := by
  have h : ∀ (l : List T_api_Toleration) (k : Nat), isS (taints_borne.l1 x l k) := by
    intro l
    induction l with
    | nil => intro k; exact T.pure _
    | cons y l ih =>
      intro k
      rw [taints_borne.l1]
      exact T.bind (TBears_tot y x) fun _ _ => T.ite (fun _ => T.pure _) fun _ => ih (k + 1)
  unfold taints_borne
  exact T.bind (h l 0) fun o _ => T.on o fun _ => T.pure _
theorem Unb1_tot (x : T_api_Taint) (e : Int) (l : List T_api_Toleration) : isS (taints_Unborne_1 x e l) := by
  unfold taints_Unborne_1
  exact T.bind ⟨_, rfl⟩ fun _ _ => T.bind (T.ite (fun _ => T.bind (borne_tot l x) fun _ _ => T.pure _) fun _ => T.pure _) fun _ _ => T.pure _
theorem Unborne_tot (l : List T_api_Toleration) (ts : List T_api_Taint) (e : Int) (h : ts.length ≤ 1000) : ∃ r, taints_Unborne l ts e = some r ∧ r.length ≤ ts.length := by
  have key : ∀ (s : List T_api_Taint) (k : Nat) (acc : List T_api_Taint), s.length + acc.length ≤ 1000 → ∃ r, taints_some_taints_Unborne_1.l1 e l s k acc = some r ∧ r.length ≤ s.length + acc.length := by
    intro s
    induction s with
    | nil => intro k acc h; exact ⟨acc, rfl, by simp⟩
    | cons x s ih =>
      intro k acc h
      simp only [List.length_cons] at h
      rw [taints_some_taints_Unborne_1.l1]
      obtain ⟨b, hb⟩ := Unb1_tot x e l
      rw [hb]
      simp only [Option.bind_some]
      cases b with
      | true =>
        rw [if_pos rfl, ap_ok (by omega) (by simp; omega)]
        simp only [Option.bind_some]
        obtain ⟨r, h1, h2⟩ := ih (k + 1) (acc ++ [x]) (by simp; omega)
        exact ⟨r, h1, by simp only [List.length_append, List.length_cons, List.length_nil] at h2 ⊢; omega⟩
      | false =>
        rw [if_neg (by simp)]
        obtain ⟨r, h1, h2⟩ := ih (k + 1) acc (by omega)
        exact ⟨r, h1, by simp only [List.length_cons]; omega⟩
  obtain ⟨r, h1, h2⟩ := key ts 0 [] (by simpa using h)
  unfold taints_Unborne taints_some_taints_Unborne_1
  rw [h1]
  exact ⟨r, rfl, by simpa using h2⟩
theorem Allows_tot (l : List T_api_Toleration) (ts : List T_api_Taint) (h : ts.length ≤ 1000) : isS (taints_Allows l ts) := by
  unfold taints_Allows
  obtain ⟨a, ha, _⟩ := Unborne_tot l ts 1 h
  obtain ⟨b, hb, _⟩ := Unborne_tot l ts 3 h
  rw [ha, hb]
  exact T.pure _

theorem Place_tot {m : T_api_Machine} {p : T_api_Pod} (hm : LM m) (hp : LP p) : isS (suit_Place m p) := by
  unfold suit_Place
  exact T.ite (fun _ => T.pure _) fun _ => T.bind (Has_tot _ _) fun _ _ => T.ite (fun _ => T.pure _) fun _ => T.bind (All_tot hm.labels (fun t ht => by
    obtain ⟨i, hi, rfl⟩ := List.getElem_of_mem ht
    exact hp.terms i hi)) fun _ _ => T.ite (fun _ => T.pure _) fun _ => T.bind (Allows_tot _ _ (by have := hm.taints.1; omega)) fun _ _ => T.ite (fun _ => T.pure _) fun _ => T.pure _

/-- Whether it suits, out of its two parts. -/
theorem Suits_eq {m : T_api_Machine} {bs : List T_api_Bound} {p : T_api_Pod} {w : Int} (hw : suit_Place m p = some w) (hl : bs.length ≤ 1000) (hp : p.Ports.length ≤ 1000) (hb : ∀ b, b ∈ bs → b.Pod.Ports.length ≤ 1000) :
    suit_Suits m bs p = some (if w = 1 ∨ w = 4 ∨ w = 5 ∨ w = 6 then w else roomS m bs p) := by
  unfold suit_Suits
  rw [hw]
  simp only [Option.bind_some]
  by_cases h1 : w = 1
  · subst h1; rfl
  rw [if_neg (by simpa using h1)]
  by_cases h2 : w = 4
  · subst h2; rfl
  rw [if_neg (by simpa using h2)]
  by_cases h3 : w = 5
  · subst h3; rfl
  rw [if_neg (by simpa using h3)]
  by_cases h4 : w = 6
  · subst h4; rfl
  rw [if_neg (by simpa using h4), if_neg (by omega), Room_eq m bs p hl hp hb]
  rfl
/-- Fewer pods: what is used is no more, and what is left no less. -/
theorem total_sub {l m : List T_api_Pod} (h : l.Sublist m) (hm : needsOK m = true) : needsOK l = true ∧ (total l).Cpu ≤ (total m).Cpu ∧ (total l).Mem ≤ (total m).Mem ∧ (total l).Disk ≤ (total m).Disk ∧ (total l).Pods ≤ (total m).Pods ∧ (total l).Dev ≤ (total m).Dev := by
  induction h with
  | slnil => exact ⟨hm, by simp⟩
  | cons a h ih =>
    unfold needsOK at hm
    simp only [List.all_cons, Bool.and_eq_true] at hm
    have h1 := (resOK_iff _).1 hm.1
    obtain ⟨k1, k2⟩ := ih hm.2
    refine ⟨k1, ?_⟩
    simp only [total, radd]
    omega
  | cons_cons a h ih =>
    unfold needsOK at hm
    simp only [List.all_cons, Bool.and_eq_true] at hm
    obtain ⟨k1, k2⟩ := ih hm.2
    refine ⟨by unfold needsOK; simp only [List.all_cons, hm.1, Bool.true_and]; exact k1, ?_⟩
    simp only [total, radd]
    omega

theorem left_sub {l m : List T_api_Pod} (h : l.Sublist m) (hm : needsOK m = true) (has need : T_api_Res) (h1 : resOK (leftS has (usedS m)) = true) (h2 : rle need (leftS has (usedS m)) = true) (hn : need.Pods ≥ 1) : resOK (leftS has (usedS l)) = true ∧ rle need (leftS has (usedS l)) = true := by
  obtain ⟨k1, k2⟩ := total_sub h hm
  have hu : (usedS m).2 = 0 ∧ resOK has = true := by
    by_cases hc : (usedS m).2 = 0 ∧ resOK has = true
    · exact hc
    · unfold leftS at h2
      rw [if_neg hc, rle_iff] at h2
      simp only [r0] at h2
      omega
  obtain ⟨u1, u2, u3, u4⟩ := usedS_ok m hu.1
  have hnn := total_nn k1
  have hl : usedS l = (total l, 0) := by
    unfold usedS
    have : resOK (total l) = true := by
      rw [resOK_iff] at u4 ⊢
      omega
    rw [if_pos k1, if_pos this]
  have ho : resOK (total l) = true := by
    rw [resOK_iff] at u4 ⊢
    omega
  have hh := (resOK_iff _).1 hu.2
  unfold leftS at h1 h2 ⊢
  rw [if_pos hu, u2] at h1 h2
  rw [hl, if_pos ⟨rfl, hu.2⟩]
  rw [rle_iff] at h2 ⊢
  rw [resOK_iff] at h1 ⊢
  simp only [rsub, rmin] at h1 h2 ⊢
  omega

theorem others_sub {bs cs : List T_api_Bound} (h : bs.Sublist cs) (n k : ByteArray) : (onS (othersS bs n) k).Sublist (onS (othersS cs n) k) := by
  unfold onS othersS
  exact (((h.filter _).filter _).map _)

theorem roomS_zero {m : T_api_Machine} {bs : List T_api_Bound} {p : T_api_Pod} : roomS m bs p = 0 ↔ resOK (leftS m.Has (usedS (onS (othersS bs p.Name) m.Name))) = true ∧ resOK p.Need = true ∧ rle p.Need (leftS m.Has (usedS (onS (othersS bs p.Name) m.Name))) = true ∧
    ∀ q, q ∈ onS (othersS bs p.Name) m.Name → hit p.Ports q.Ports = false := by
  unfold roomS
  by_cases h : (resOK (leftS m.Has (usedS (onS (othersS bs p.Name) m.Name))) && resOK p.Need && rle p.Need (leftS m.Has (usedS (onS (othersS bs p.Name) m.Name)))) = true
  · rw [if_pos h]
    simp only [Bool.and_eq_true] at h
    cases ha : (onS (othersS bs p.Name) m.Name).any (fun q => hit p.Ports q.Ports) with
    | true =>
      simp only [cond_true]
      obtain ⟨q, h1, h2⟩ := List.any_eq_true.1 ha
      constructor
      · intro h; omega
      · rintro ⟨_, _, _, h3⟩
        rw [h3 q h1] at h2
        cases h2
    | false =>
      simp only [cond_false, true_iff]
      exact ⟨h.1.1, h.1.2, h.2, fun q hq => by
        have := List.any_eq_false.1 ha q hq
        simpa using this⟩
  · rw [if_neg h]
    simp only [Bool.and_eq_true] at h
    constructor
    · intro h; omega
    · rintro ⟨h1, h2, h3, _⟩
      exact absurd ⟨⟨h1, h2⟩, h3⟩ h

theorem needs_ry {ms : List T_api_Machine} {bs : List T_api_Bound} (hy : LY ms bs) (hr : RY ms bs) (n k : ByteArray) : needsOK (onS (othersS bs n) k) = true := by
  unfold needsOK
  rw [List.all_eq_true]
  intro q hq
  unfold onS othersS at hq
  obtain ⟨b, h1, rfl⟩ := List.mem_map.1 hq
  obtain ⟨i, hi, rfl⟩ := List.getElem_of_mem (List.mem_filter.1 (List.mem_filter.1 h1).1).1
  exact (RPod_need (hy.bs i hi).1 (hr.rb i hi)).1

theorem Place_same {m : T_api_Machine} {p q : T_api_Pod} (h1 : p.Select = q.Select) (h2 : p.Terms = q.Terms) (h3 : p.Bears = q.Bears) : suit_Place m p = suit_Place m q := by
  unfold suit_Place; rw [h1, h2, h3]

theorem Suits_zero {m : T_api_Machine} {bs : List T_api_Bound} {p : T_api_Pod} {w : Int} (hw : suit_Place m p = some w) (hl : bs.length ≤ 1000) (hp : p.Ports.length ≤ 1000) (hb : ∀ b, b ∈ bs → b.Pod.Ports.length ≤ 1000) {r : Int} (hr : suit_Suits m bs p = some r) :
    r = 0 ↔ (¬ (w = 1 ∨ w = 4 ∨ w = 5 ∨ w = 6)) ∧ roomS m bs p = 0 := by
  rw [Suits_eq hw hl hp hb] at hr
  simp only [Option.some.injEq] at hr
  subst hr
  by_cases h : w = 1 ∨ w = 4 ∨ w = 5 ∨ w = 6
  · rw [if_pos h]; constructor
    · intro h0; omega
    · rintro ⟨h1, _⟩; exact absurd h h1
  · rw [if_neg h]; exact ⟨fun h0 => ⟨h, h0⟩, fun h0 => h0.2⟩

theorem sl_pre {α : Type} {l : List α} {k : Nat} (h : k ≤ l.length) : V.sl l none (some (k : Int)) = some (l.take k) := by
  unfold V.sl
  rw [if_pos ⟨⟨by simp, by simp⟩, by simp [lowN, highN], by simpa [highN] using h⟩]
  simp [lowN, highN]
theorem sl_suf {α : Type} {l : List α} {k : Nat} (h : k ≤ l.length) : V.sl l (some (k : Int)) none = some (l.drop k) := by
  unfold V.sl
  rw [if_pos ⟨⟨by simp, by simp⟩, by simpa [lowN, highN] using h, by simp [highN]⟩]
  simp [lowN, highN]
end Go.Proofs.YtmpkpnclmihdnaaGreat.M

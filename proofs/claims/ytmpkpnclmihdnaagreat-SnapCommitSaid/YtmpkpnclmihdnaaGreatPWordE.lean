/-
  Printed by a program of this session out of the loaded functions: models and their proofs. Own text.
-/
import Derived.Test.YtmpkpnclmihdnaaGreatPTot2
import Derived.Test.YtmpkpnclmihdnaaGreatPLoop
/-
  Plain laws: what the document's check of a yard says of it. Own text.
-/
namespace Go.Proofs.YtmpkpnclmihdnaaGreat.M
open Go Go.Proofs Go.Proofs.YtmpkpnclmihdnaaGreat.V
set_option linter.unusedVariables false

/-- The first place of something, or -1. -/
def firstAt (len : Nat) (p : Nat → Prop) (r : Int) : Prop := (∃ k : Nat, r = (k : Int) ∧ k < len ∧ p k ∧ ∀ j, j < k → ¬ p j) ∨ (r = -1 ∧ ∀ j, j < len → ¬ p j)

theorem loopF {F : Nat → Int → Option (Out Int Unit)} {len : Nat} {p : Nat → Prop} (hl : len < 1000000000000)
    (hs : ∀ n (k : Nat), k < len → (F (n + 1) (k : Int) = some (Out.ret (k : Int)) ∧ p k) ∨ (F (n + 1) (k : Int) = F n ((k + 1 : Nat) : Int) ∧ ¬ p k))
    (he : ∀ n, F (n + 1) (len : Int) = some (Out.go ())) : ∃ r, ((F FU 0).bind fun o => o.on fun _ => some (-1 : Int)) = some r ∧ firstAt len p r := by
  have key : ∀ (m k f : Nat), len - k ≤ m → m < f → k ≤ len → (∃ q : Nat, F f (k : Int) = some (Out.ret (q : Int)) ∧ k ≤ q ∧ q < len ∧ p q ∧ ∀ j, k ≤ j → j < q → ¬ p j) ∨ (F f (k : Int) = some (Out.go ()) ∧ ∀ j, k ≤ j → j < len → ¬ p j) := by
    intro m
    induction m with
    | zero =>
      intro k f h1 h2 h3
      obtain ⟨f, rfl⟩ : ∃ q, f = q + 1 := ⟨f - 1, by omega⟩
      obtain rfl : k = len := by omega
      exact .inr ⟨he f, fun j h4 h5 => by omega⟩
    | succ m ih =>
      intro k f h1 h2 h3
      obtain ⟨f, rfl⟩ : ∃ q, f = q + 1 := ⟨f - 1, by omega⟩
      by_cases hk : k < len
      · rcases hs f k hk with ⟨h4, h5⟩ | ⟨h4, h5⟩
        · exact .inl ⟨k, h4, Nat.le_refl _, hk, h5, fun j a b => by omega⟩
        · rw [h4]
          rcases ih (k + 1) f (by omega) (by omega) (by omega) with ⟨q, a, b, c, d, e⟩ | ⟨h6, h7⟩
          · exact .inl ⟨q, a, by omega, c, d, fun j x y => by
              by_cases ee : j = k
              · subst ee; exact h5
              · exact e j (by omega) y⟩
          · exact .inr ⟨h6, fun j x y => by
              by_cases ee : j = k
              · subst ee; exact h5
              · exact h7 j (by omega) y⟩
      · obtain rfl : k = len := by omega
        exact .inr ⟨he f, fun j h4 h5 => by omega⟩
  rcases key len 0 FU (by omega) (by unfold FU; omega) (Nat.zero_le _) with ⟨q, a, b, c, d, e⟩ | ⟨h1, h2⟩
  · have a' : F FU 0 = some (Out.ret (q : Int)) := a
    exact ⟨(q : Int), by rw [a']; rfl, .inl ⟨q, rfl, c, d, fun j hj => e j (Nat.zero_le _) hj⟩⟩
  · have a' : F FU 0 = some (Out.go ()) := h1
    exact ⟨-1, by rw [a']; rfl, .inr ⟨rfl, fun j hj => h2 j (Nat.zero_le _) hj⟩⟩

theorem Find9_eq (ms : List T_api_Machine) (name : ByteArray) (hl : ms.length < 1000000000000) : ∃ r, ref09_Find ms name = some r ∧ firstAt ms.length (fun k => ∃ h : k < ms.length, ms[k].Name = name) r := by
  unfold ref09_Find
  refine loopF (F := fun n i => ref09_Find.l1 ms name n i) hl (fun n k hk => ?_) (fun n => by rw [ref09_Find.l1, if_neg dnl])
  rw [ref09_Find.l1, if_pos (dlt hk), glk hk, wk1 (by omega)]
  simp only [Option.bind_some, seq_eq]
  by_cases h : ms[k].Name = name
  · rw [if_pos (by simpa using h)]; exact .inl ⟨rfl, hk, h⟩
  · rw [if_neg (by simpa using h)]; exact .inr ⟨rfl, fun ⟨_, h'⟩ => h h'⟩
theorem Place9_eq (bs : List T_api_Bound) (name : ByteArray) (hl : bs.length < 1000000000000) : ∃ r, ref09_Place bs name = some r ∧ firstAt bs.length (fun k => ∃ h : k < bs.length, bs[k].Pod.Name = name) r := by
  unfold ref09_Place
  refine loopF (F := fun n i => ref09_Place.l1 bs name n i) hl (fun n k hk => ?_) (fun n => by rw [ref09_Place.l1, if_neg dnl])
  rw [ref09_Place.l1, if_pos (dlt hk), glk hk, wk1 (by omega)]
  simp only [Option.bind_some, seq_eq]
  by_cases h : bs[k].Pod.Name = name
  · rw [if_pos (by simpa using h)]; exact .inl ⟨rfl, hk, h⟩
  · rw [if_neg (by simpa using h)]; exact .inr ⟨rfl, fun ⟨_, h'⟩ => h h'⟩

/-- A right yard. -/
structure RY (ms : List T_api_Machine) (bs : List T_api_Bound) : Prop where
  rm : ∀ k (h : k < ms.length), ms[k].Name ≠ ⟨#[]⟩ ∧ ref07_RightMachine ms[k] = some true
  rb : ∀ k (h : k < bs.length), ref07_RightPod bs[k].Pod = some true
  mu : ∀ j k (h : j < ms.length) (h' : k < ms.length), ms[j].Name = ms[k].Name → j = k
  bu : ∀ j k (h : j < bs.length) (h' : k < bs.length), bs[j].Pod.Name = bs[k].Pod.Name → j = k
  on : ∀ k (h : k < bs.length), bs[k].On ≠ ⟨#[]⟩ → ∃ j, ∃ h' : j < ms.length, ms[j].Name = bs[k].On

theorem first_self {len : Nat} {p : Nat → Nat → Prop} {k : Nat} {r : Int} (hk : k < len) (hp : p k k) (h : firstAt len (fun j => p j k) r) : (r = (k : Int) ∧ ∀ j, j < k → ¬ p j k) ∨ (r ≠ (k : Int)) := by
  rcases h with ⟨q, rfl, h1, h2, h3⟩ | ⟨rfl, h1⟩
  · by_cases e : q = k
    · subst e; exact .inl ⟨rfl, h3⟩
    · exact .inr (by omega)
  · exact absurd hp (h1 k hk)

theorem Check9_eq {ms : List T_api_Machine} {bs : List T_api_Bound} (hy : LY ms bs) : ∃ r, ref09_Check ms bs = some r ∧ (r = 0 → RY ms bs) := by
  have hnm := hy.nm
  have hnb := hy.nb
  unfold ref09_Check
  rw [if_neg (by simp; omega)]
  rcases loopI (F := fun n i => ref09_Check.l1 ms n i) (Q := fun r => r = 12) (S := fun k => ∀ h : k < ms.length, ms[k].Name ≠ ⟨#[]⟩ ∧ ref07_RightMachine ms[k] = some true) (len := ms.length) (by omega) (fun n k hk => by
      rw [ref09_Check.l1, if_pos (dlt hk), glk hk, wk1 (by omega)]
      simp only [Option.bind_some, seq_eq]
      obtain ⟨b, hb⟩ := RMach_tot (hy.ms k hk)
      by_cases h : ms[k].Name = ⟨#[]⟩
      · rw [if_pos (by simpa using h)]; exact .inl ⟨12, rfl, rfl⟩
      · rw [if_neg (by simpa using h), hb]
        cases b with
        | false => exact .inl ⟨12, rfl, rfl⟩
        | true => exact .inr ⟨rfl, fun _ => ⟨h, hb⟩⟩) (fun n => by rw [ref09_Check.l1, if_neg dnl]) with ⟨r, h1, rfl⟩ | ⟨h1, g1⟩
  · rw [h1]; exact ⟨12, rfl, fun h => absurd h (by decide)⟩
  rw [h1]
  simp only [Option.bind_some, Out.on]
  rcases loopI (F := fun n i => ref09_Check.l2 bs n i) (Q := fun r => r = 12) (S := fun k => ∀ h : k < bs.length, ref07_RightPod bs[k].Pod = some true) (len := bs.length) (by omega) (fun n k hk => by
      rw [ref09_Check.l2, if_pos (dlt hk), glk hk, wk1 (by omega)]
      simp only [Option.bind_some]
      obtain ⟨b, hb⟩ := RPod_tot (hy.bs k hk).1
      rw [hb]
      cases b with
      | false => exact .inl ⟨12, rfl, rfl⟩
      | true => exact .inr ⟨rfl, fun _ => hb⟩) (fun n => by rw [ref09_Check.l2, if_neg dnl]) with ⟨r, h2, rfl⟩ | ⟨h2, g2⟩
  · rw [h2]; exact ⟨12, rfl, fun h => absurd h (by decide)⟩
  rw [h2]
  simp only [Option.bind_some]
  rcases loopI (F := fun n i => ref09_Check.l3 ms n i) (Q := fun r => r = 15) (S := fun k => ∀ h : k < ms.length, ∀ j (h' : j < ms.length), j < k → ms[j].Name ≠ ms[k].Name) (len := ms.length) (by omega) (fun n k hk => by
      rw [ref09_Check.l3, if_pos (dlt hk), glk hk, wk1 (by omega)]
      simp only [Option.bind_some]
      obtain ⟨r, hr, hf⟩ := Find9_eq ms ms[k].Name (by omega)
      rw [hr]
      simp only [Option.bind_some]
      rcases first_self (p := fun j k => ∃ (h : j < ms.length) (h' : k < ms.length), ms[j].Name = ms[k].Name) hk ⟨hk, hk, rfl⟩ (by
        refine (show firstAt ms.length _ r → firstAt ms.length _ r from fun h => ?_) hf
        rcases h with ⟨q, a, b, ⟨c, d⟩, e⟩ | ⟨a, b⟩
        · exact .inl ⟨q, a, b, ⟨c, hk, d⟩, fun j hj ⟨x, _, y⟩ => e j hj ⟨x, y⟩⟩
        · exact .inr ⟨a, fun j hj ⟨x, _, y⟩ => b j hj ⟨x, y⟩⟩) with ⟨rfl, h⟩ | h
      · rw [if_neg (by simp)]; exact .inr ⟨rfl, fun _ j hj hjk e => h j hjk ⟨hj, hk, e⟩⟩
      · rw [if_pos (by simpa using h)]; exact .inl ⟨15, rfl, rfl⟩) (fun n => by rw [ref09_Check.l3, if_neg dnl]) with ⟨r, h3, rfl⟩ | ⟨h3, g3⟩
  · rw [h3]; exact ⟨15, rfl, fun h => absurd h (by decide)⟩
  rw [h3]
  simp only [Option.bind_some]
  rcases loopI (F := fun n i => ref09_Check.l4 bs n i) (Q := fun r => r = 15) (S := fun k => ∀ h : k < bs.length, ∀ j (h' : j < bs.length), j < k → bs[j].Pod.Name ≠ bs[k].Pod.Name) (len := bs.length) (by omega) (fun n k hk => by
      rw [ref09_Check.l4, if_pos (dlt hk), glk hk, wk1 (by omega)]
      simp only [Option.bind_some]
      obtain ⟨r, hr, hf⟩ := Place9_eq bs bs[k].Pod.Name (by omega)
      rw [hr]
      simp only [Option.bind_some]
      rcases first_self (p := fun j k => ∃ (h : j < bs.length) (h' : k < bs.length), bs[j].Pod.Name = bs[k].Pod.Name) hk ⟨hk, hk, rfl⟩ (by
        refine (show firstAt bs.length _ r → firstAt bs.length _ r from fun h => ?_) hf
        rcases h with ⟨q, a, b, ⟨c, d⟩, e⟩ | ⟨a, b⟩
        · exact .inl ⟨q, a, b, ⟨c, hk, d⟩, fun j hj ⟨x, _, y⟩ => e j hj ⟨x, y⟩⟩
        · exact .inr ⟨a, fun j hj ⟨x, _, y⟩ => b j hj ⟨x, y⟩⟩) with ⟨rfl, h⟩ | h
      · rw [if_neg (by simp)]; exact .inr ⟨rfl, fun _ j hj hjk e => h j hjk ⟨hj, hk, e⟩⟩
      · rw [if_pos (by simpa using h)]; exact .inl ⟨15, rfl, rfl⟩) (fun n => by rw [ref09_Check.l4, if_neg dnl]) with ⟨r, h4, rfl⟩ | ⟨h4, g4⟩
  · rw [h4]; exact ⟨15, rfl, fun h => absurd h (by decide)⟩
  rw [h4]
  simp only [Option.bind_some]
  rcases loopI (F := fun n i => ref09_Check.l5 ms bs n i) (Q := fun r => r = 16) (S := fun k => ∀ h : k < bs.length, bs[k].On ≠ ⟨#[]⟩ → ∃ j, ∃ h' : j < ms.length, ms[j].Name = bs[k].On) (len := bs.length) (by omega) (fun n k hk => by
      rw [ref09_Check.l5, if_pos (dlt hk), glk hk, wk1 (by omega)]
      simp only [Option.bind_some, seq_eq]
      obtain ⟨r, hr, hf⟩ := Find9_eq ms bs[k].On (by omega)
      by_cases h : bs[k].On = ⟨#[]⟩
      · rw [if_neg (by simpa using h)]; exact .inr ⟨rfl, fun _ h' => absurd h h'⟩
      · rw [if_pos (by simpa using h), hr]
        simp only [Option.bind_some]
        rcases hf with ⟨q, rfl, b, ⟨c, d⟩, e⟩ | ⟨rfl, b⟩
        · rw [if_neg (by simp)]; exact .inr ⟨rfl, fun _ _ => ⟨q, c, d⟩⟩
        · exact .inl ⟨16, rfl, rfl⟩) (fun n => by rw [ref09_Check.l5, if_neg dnl]) with ⟨r, h5, rfl⟩ | ⟨h5, g5⟩
  · rw [h5]; exact ⟨16, rfl, fun h => absurd h (by decide)⟩
  rw [h5]
  refine ⟨0, rfl, fun _ => ⟨fun k hk => g1 k hk hk, fun k hk => g2 k hk hk, fun j k hj hk e => ?_, fun j k hj hk e => ?_, fun k hk => g5 k hk hk⟩⟩
  · by_cases h1 : j < k
    · exact absurd e (g3 k hk hk j hj h1)
    · by_cases h2 : k < j
      · exact absurd e.symm (g3 j hj hj k hk h2)
      · omega
  · by_cases h1 : j < k
    · exact absurd e (g4 k hk hk j hj h1)
    · by_cases h2 : k < j
      · exact absurd e.symm (g4 j hj hj k hk h2)
      · omega
end Go.Proofs.YtmpkpnclmihdnaaGreat.M
/-
  Plain laws of the snapshot: what is light; SnapNil. Own text.
-/
namespace Go.Proofs.YtmpkpnclmihdnaaGreat.M
open Go Go.Proofs Go.Proofs.YtmpkpnclmihdnaaGreat.V
open Go.IntKind (i64)
set_option linter.unusedVariables false
set_option maxRecDepth 20000

theorem known13_true : law13_known = some true := by kernel_rfl

theorem light13 (o : T_law13_Op) : ∃ b, law13_light o = some b ∧ (b = true → LM o.M ∧ LP o.P_ ∧ o.Name.size ≤ 300) := by
  unfold law13_light
  obtain ⟨b1, e1, f1⟩ := ref07_LightMachine_eq o.M
  obtain ⟨b2, e2, f2⟩ := ref07_LightPod_eq o.P_
  rw [e1, e2]
  cases b1 with
  | false => exact ⟨false, rfl, fun h => by cases h⟩
  | true =>
    cases b2 with
    | false => exact ⟨false, rfl, fun h => by cases h⟩
    | true => exact ⟨_, rfl, fun h => ⟨f1 rfl, f2 rfl, by
        have : decide ((o.Name.size : Int) ≤ 300) = true := by simpa using h
        have := of_decide_eq_true this
        omega⟩⟩

theorem nil_l1 (z : T_snap_Snap) : law13_SnapNil.l1 23 (23, z) 23 23 (23, z) 23 23 (23, z) 23 (23, z) 23 FU 0 = some (Out.go ()) := by
  have key : ∀ (m k f : Nat), 11 - k ≤ m → m < f → k ≤ 11 → law13_SnapNil.l1 23 (23, z) 23 23 (23, z) 23 23 (23, z) 23 (23, z) 23 f (k : Int) = some (Out.go ()) := by
    intro m
    induction m with
    | zero =>
      intro k f h1 h2 h3
      obtain ⟨f, rfl⟩ : ∃ q, f = q + 1 := ⟨f - 1, by omega⟩
      obtain rfl : k = 11 := by omega
      rw [law13_SnapNil.l1]; rfl
    | succ m ih =>
      intro k f h1 h2 h3
      obtain ⟨f, rfl⟩ : ∃ q, f = q + 1 := ⟨f - 1, by omega⟩
      by_cases hk : k < 11
      · rw [law13_SnapNil.l1, if_pos (by simp; omega)]
        have hg : V.gl ([23, 23, 23, 23, 23, 23, 23, 23, 23, 23, 23] : List Int) (k : Int) = some 23 := by
          rw [glk (by simpa using hk)]
          have hall : ∀ x, x ∈ ([23, 23, 23, 23, 23, 23, 23, 23, 23, 23, 23] : List Int) → x = 23 := by decide
          exact congrArg some (hall _ (List.getElem_mem _))
        rw [hg]
        simp only [Option.bind_some]
        rw [if_neg (by decide), wk1 (by omega)]
        exact ih (k + 1) f (by omega) (by omega) (by omega)
      · obtain rfl : k = 11 := by omega
        rw [law13_SnapNil.l1]; rfl
  exact key 11 0 FU (by omega) (by unfold FU; omega) (by omega)
def zs0 : T_snap_Snap := ⟨none, [], 0⟩
theorem n1 (m : T_api_Machine) : snap_Snap_Add m = some 23 := by unfold snap_Snap_Add snap_Snap_change_snap_Snap_Add_1 snap_Snap_there; simp
theorem n2 (m : T_api_Machine) : snap_Snap_Add_x zs0 m = some (23, zs0) := by unfold snap_Snap_Add_x snap_Snap_change_snap_Snap_Add_1_x snap_Snap_there_x zs0; simp
theorem n3 (n : ByteArray) : snap_Snap_Drop n = some 23 := by unfold snap_Snap_Drop snap_Snap_change_snap_Snap_Drop_1 snap_Snap_there; simp
theorem n4 (p : T_api_Pod) (n : ByteArray) : snap_Snap_Put p n = some 23 := by unfold snap_Snap_Put snap_Snap_change_snap_Snap_Put_1 snap_Snap_there; simp
theorem n5 (p : T_api_Pod) (n : ByteArray) : snap_Snap_Put_x zs0 p n = some (23, zs0) := by unfold snap_Snap_Put_x snap_Snap_change_snap_Snap_Put_1_x snap_Snap_there_x zs0; simp
theorem n6 (n : ByteArray) : snap_Snap_Take n = some 23 := by unfold snap_Snap_Take snap_Snap_change_snap_Snap_Take_1 snap_Snap_there; simp
theorem n7 : snap_Snap_Fork = some 23 := by unfold snap_Snap_Fork snap_Snap_there; simp
theorem n8 : snap_Snap_Fork_x zs0 = some (23, zs0) := by unfold snap_Snap_Fork_x snap_Snap_there_x zs0; simp
theorem n9 : snap_Snap_Commit = some 23 := by unfold snap_Snap_Commit snap_Snap_pop_snap_Snap_forget snap_Snap_there; simp
theorem n10 : snap_Snap_Commit_x zs0 = some (23, zs0) := by unfold snap_Snap_Commit_x snap_Snap_pop_snap_Snap_forget_x snap_Snap_there_x zs0; simp
theorem n11 : snap_Snap_Revert = some 23 := by unfold snap_Snap_Revert snap_Snap_pop_snap_Snap_restore snap_Snap_there; simp
theorem n12 : snap_Snap_Machines = some [] := by unfold snap_Snap_Machines snap_Snap_there; simp
theorem n13 : snap_Snap_Bounds_x zs0 = some [] := by unfold snap_Snap_Bounds_x snap_Snap_there_x zs0; simp
theorem n14 : snap_Snap_Depth = some 0 := by unfold snap_Snap_Depth snap_Snap_there; simp
theorem n15 (p : T_api_Pod) (n : ByteArray) : snap_Snap_Why p n = some 1 := by unfold snap_Snap_Why snap_Snap_there; simp
theorem n16 (p : T_api_Pod) (n : ByteArray) : snap_Snap_Why_x zs0 p n = some 1 := by unfold snap_Snap_Why_x snap_Snap_there_x zs0; simp
theorem SnapNil_true {a b : Prop} (m : T_api_Machine) (p : T_api_Pod) (name : ByteArray) (_ : a) (_ : b) : law13_SnapNil m p name = some true := by
  unfold law13_SnapNil
  obtain ⟨b, e, _⟩ := light13 ⟨0, m, p, name⟩
  rw [e, known13_true]
  cases b with
  | false => rfl
  | true =>
    rw [show (⟨none, [], 0⟩ : T_snap_Snap) = zs0 from rfl]
    simp only [Option.bind_some, Bool.not_true, Bool.false_eq_true, if_false, n1, n2, n3, n4, n5, n6, n7, n8, n9, n10, n11, nil_l1, Out.on, n12, n13, n14, n15, n16, List.length_nil]
    rfl
end Go.Proofs.YtmpkpnclmihdnaaGreat.M
/-
  Plain laws of words: the program's and the document's are alike. Own text.
-/
namespace Go.Proofs.YtmpkpnclmihdnaaGreat.M
open Go Go.Proofs Go.Proofs.YtmpkpnclmihdnaaGreat.V
set_option linter.unusedVariables false

/-- What a range tells of a place, and whether a right rune stands there. -/
theorem right_eq {s : ByteArray} {i : Nat} (h : i < s.size) (hs : s.size < 281474976710656) : lex_right s (i : Int) ((Utf8.decode s i).1 : Int) = some (rune s i).isSome := by
  have b0 := bt_range s i
  have b1 := bt_range s (i + 1)
  have b2 := bt_range s (i + 2)
  have b3 := bt_range s (i + 3)
  have e1 : IntKind.i64.wrap ((i : Int) + 1) = ((i + 1 : Nat) : Int) := by rw [w_eq (by omega) (by omega)]; omega
  have e2 : IntKind.i64.wrap ((i : Int) + 2) = ((i + 2 : Nat) : Int) := by rw [w_eq (by omega) (by omega)]; omega
  have g1 : goes s (i + 1) = true → _ := goes_spec
  have g2 : goes s (i + 2) = true → _ := goes_spec
  have g3 : goes s (i + 3) = true → _ := goes_spec
  -- the three bytes of the rune that a decoder tells for what is wrong
  have key : lex_right s (i : Int) 65533 = some (decide (i + 2 < s.size ∧ bt s i = 239 ∧ bt s (i + 1) = 191 ∧ bt s (i + 2) = 189)) := by
    unfold lex_right
    simp only [e1, e2, bne_self_eq_false, Bool.false_eq_true, if_false]
    by_cases q : i + 2 < s.size
    · have q1 : i + 1 < s.size := by omega
      simp only [show (((i + 2 : Nat) : Int) < (s.size : Int)) by omega, decide_true, if_true, gi_nat h, gi_nat q, gi_nat q1, Option.bind_some, q, true_and]
      by_cases z0 : bt s i = 239 <;> by_cases z1 : bt s (i + 1) = 191 <;> by_cases z2 : bt s (i + 2) = 189 <;> simp [z0, z1, z2]
    · simp only [show ¬ (((i + 2 : Nat) : Int) < (s.size : Int)) by omega, decide_false, Bool.false_eq_true, if_false, Option.bind_some, q, false_and]
  cases hr : rune s i with
  | none =>
    rw [decode_rune, hr]
    show lex_right s (i : Int) 65533 = _
    rw [key]
    simp only [Option.isSome_none, Option.some.injEq, decide_eq_false_iff_not]
    rintro ⟨q, z0, z1, z2⟩
    have c1 : goes s (i + 1) = true := by unfold goes; simp; omega
    have c2 : goes s (i + 2) = true := by unfold goes; simp; omega
    unfold rune runeN at hr
    simp [z0, z1, z2, c1, c2] at hr
  | some p =>
    obtain ⟨c, w⟩ := p
    have hc := rune_some h hr
    rw [decode_rune, hr]
    show lex_right s (i : Int) ((c.toNat : Nat) : Int) = _
    rw [Int.toNat_of_nonneg hc.1]
    by_cases z : c = 65533
    · subst z
      rw [key]
      simp only [Option.isSome_some, Option.some.injEq, decide_eq_true_eq]
      unfold rune runeN at hr
      split at hr
      · simp only [Option.some.injEq, Prod.mk.injEq] at hr; omega
      split at hr
      · rename_i q
        have := g1 q.2.2
        split at hr
        · simp only [Option.some.injEq, Prod.mk.injEq] at hr; omega
        · cases hr
      split at hr
      · rename_i q
        have := g1 q.2.2.1
        have := g2 q.2.2.2
        split at hr
        · simp only [Option.some.injEq, Prod.mk.injEq] at hr; omega
        · cases hr
      split at hr
      · rename_i q
        have := g1 q.2.2.1
        have := g2 q.2.2.2.1
        have := g3 q.2.2.2.2
        split at hr
        · simp only [Option.some.injEq, Prod.mk.injEq] at hr; omega
        · cases hr
      · cases hr
    · unfold lex_right
      simp [z]

theorem plain_eq (c : Int) : lex_plain c = ref01_plain c := by
  unfold lex_plain ref01_plain
  by_cases h1 : c = 40
  · subst h1; rfl
  by_cases h2 : c = 41
  · subst h2; rfl
  by_cases h3 : c = 34
  · subst h3; rfl
  by_cases h4 : c = 59
  · subst h4; rfl
  by_cases h5 : c = 127
  · subst h5; rfl
  have e1 : (c != 40) = true := by simpa using h1
  have e2 : (c != 41) = true := by simpa using h2
  have e3 : (c != 34) = true := by simpa using h3
  have e4 : (c != 59) = true := by simpa using h4
  have e5 : (c != 127) = true := by simpa using h5
  simp only [e1, e2, e3, e4, e5, Bool.and_true]
  simp [h1, h2, h3, h4, h5]

/-- The head of a text, its word, its runes: one walk. -/
theorem Word_loop {s : ByteArray} (hs : s.size < 281474976710656) : ∀ (k pos : Nat) (n : Int) (f1 f2 f3 : Nat), s.size - pos ≤ k → k < f1 → k < f2 → k < f3 → pos ≤ s.size → 0 ≤ n → n + k < 4611686018427387904 →
    (∃ m : Nat, lex_head_lex_plain.l1 s f1 pos = some (Out.go ()) ∧ ref01_Word.l1 s f2 n (pos : Int) = some (Out.go (n + m)) ∧ lex_Runes.l1 s f3 n pos = some (Out.go (n + m)) ∧ (pos < s.size → 1 ≤ m) ∧ (pos = s.size → m = 0)) ∨
    (∃ p b, lex_head_lex_plain.l1 s f1 pos = some (Out.ret (p, b)) ∧ (b = false ∨ p < s.size) ∧ ref01_Word.l1 s f2 n (pos : Int) = some (Out.ret false)) := by
  intro k
  induction k with
  | zero =>
    intro pos n f1 f2 f3 h1 h2 h3 h4 h5 h6 h7
    obtain ⟨f1, rfl⟩ : ∃ q, f1 = q + 1 := ⟨f1 - 1, by omega⟩
    obtain ⟨f2, rfl⟩ : ∃ q, f2 = q + 1 := ⟨f2 - 1, by omega⟩
    obtain ⟨f3, rfl⟩ : ∃ q, f3 = q + 1 := ⟨f3 - 1, by omega⟩
    refine .inl ⟨0, ?_, ?_, ?_, by omega, by omega⟩
    · rw [lex_head_lex_plain.l1, if_neg (by omega)]
    · rw [ref01_Word.l1, if_neg (by simp; omega)]; simp
    · rw [lex_Runes.l1, if_neg (by omega)]; simp
  | succ k ih =>
    intro pos n f1 f2 f3 h1 h2 h3 h4 h5 h6 h7
    obtain ⟨f1, rfl⟩ : ∃ q, f1 = q + 1 := ⟨f1 - 1, by omega⟩
    obtain ⟨f2, rfl⟩ : ∃ q, f2 = q + 1 := ⟨f2 - 1, by omega⟩
    obtain ⟨f3, rfl⟩ : ∃ q, f3 = q + 1 := ⟨f3 - 1, by omega⟩
    by_cases hp : pos < s.size
    · rw [lex_head_lex_plain.l1, ref01_Word.l1, lex_Runes.l1, if_pos hp, if_pos (show (decide ((pos : Int) < (s.size : Int))) = true by simp; omega), if_pos hp, right_eq hp hs, Rune_eq hp hs, decode_rune]
      cases hr : rune s pos with
      | none => exact .inr ⟨_, _, rfl, .inl rfl, rfl⟩
      | some p =>
        obtain ⟨c, w⟩ := p
        have hw := rune_some hp hr
        have e : IntKind.i64.wrap ((pos : Int) + (w : Int)) = ((pos + w : Nat) : Int) := by rw [w_eq (by omega) (by omega)]; omega
        have en : IntKind.i64.wrap (n + 1) = n + 1 := w_eq (by omega) (by omega)
        have ec : ((c.toNat : Nat) : Int) = c := Int.toNat_of_nonneg hw.1
        simp only [rdv, rv, Option.isSome_some, Option.bind_some, Bool.not_true, Bool.false_eq_true, if_false, ec, rv2 hp hr, plain_eq, e, en]
        obtain ⟨b, hb⟩ : ∃ b, ref01_plain c = some b := ⟨_, rfl⟩
        simp only [hb, Option.bind_some]
        cases b with
        | false => exact .inr ⟨_, _, rfl, .inr (by simpa using hp), rfl⟩
        | true =>
          simp only [Bool.not_true, Bool.false_eq_true, if_false]
          rcases ih (pos + w) (n + 1) f1 f2 f3 (by omega) (by omega) (by omega) (by omega) (by omega) (by omega) (by omega) with ⟨m, g1, g2, g3, g4, g5⟩ | ⟨p, b, g1, g2, g3⟩
          · refine .inl ⟨m + 1, g1, ?_, ?_, by omega, by omega⟩
            · rw [g2, show n + 1 + (m : Int) = n + ((m + 1 : Nat) : Int) by omega]
            · rw [g3, show n + 1 + (m : Int) = n + ((m + 1 : Nat) : Int) by omega]
          · exact .inr ⟨p, b, g1, g2, g3⟩
    · refine .inl ⟨0, ?_, ?_, ?_, by omega, by omega⟩
      · rw [lex_head_lex_plain.l1, if_neg hp]
      · rw [ref01_Word.l1, if_neg (by simp; omega)]; simp
      · rw [lex_Runes.l1, if_neg hp]; simp

theorem Word_eq {s : ByteArray} (hs : s.size < 281474976710656) : ∃ b, lex_Word s = some b ∧ ref01_Word s = some b := by
  have hz : (0 : Int) = ((0 : Nat) : Int) := rfl
  unfold lex_Word ref01_Word lex_head_lex_plain lex_Runes
  rcases Word_loop hs s.size 0 0 FU FU FU (by omega) (by unfold FU; omega) (by unfold FU; omega) (by unfold FU; omega) (by omega) (by omega) (by omega) with ⟨m, g1, g2, g3, g4, g5⟩ | ⟨p, b, g1, g2, g3⟩
  · have g2' : ref01_Word.l1 s FU 0 0 = some (Out.go (0 + (m : Int))) := g2
    rw [g1, g2', g3]
    simp only [Option.bind_some, Out.on, beq_self_eq_true, Bool.and_true, Bool.true_and]
    by_cases hp : 0 < s.size
    · have := g4 hp
      refine ⟨decide ((m : Int) ≤ 64), ?_, ?_⟩
      · simp [hp]
      · simp; omega
    · have := g5 (by omega)
      refine ⟨false, ?_, ?_⟩
      · simp [hp]
      · simp [this]
  · have g3' : ref01_Word.l1 s FU 0 0 = some (Out.ret false) := g3
    rw [g1, g3']
    simp only [Option.bind_some, Out.on]
    refine ⟨false, ?_, rfl⟩
    rcases g2 with rfl | g2
    · simp
    · simp [show ¬ p = (s.size : Int) by omega]

end Go.Proofs.YtmpkpnclmihdnaaGreat.M

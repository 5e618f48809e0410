/-
  Printed by a program of this session out of the loaded functions: models and their proofs. Own text.
-/
import Derived.Test.YtmpkpnclmihdnaaGreatPYard
import Derived.Test.YtmpkpnclmihdnaaGreatPWordE
/-
  Plain law: what is wrong of machines and bound pods is told alike by the program and the document. Own text.
-/
namespace Go.Proofs.YtmpkpnclmihdnaaGreat.M
open Go Go.Proofs Go.Proofs.YtmpkpnclmihdnaaGreat.V
set_option linter.unusedVariables false

def inB (y : ByteArray) (l : List ByteArray) : Bool := l.any fun a => decide (y = a)
theorem inB_iff {y : ByteArray} {l : List ByteArray} : inB y l = true ↔ y ∈ l := by
  unfold inB
  rw [List.any_eq_true]
  constructor
  · rintro ⟨a, h1, h2⟩; rw [of_decide_eq_true h2]; exact h1
  · intro h; exact ⟨y, h, by simp⟩
theorem inB_cons {y x : ByteArray} {l : List ByteArray} : inB y (x :: l) = (decide (y = x) || inB y l) := rfl

/-! maps that count -/
theorem mp_len {κ υ : Type} [DecidableEq κ] : ∀ (l : List (κ × υ)) (k : κ) (v : υ), (V.mp l k v).length = if V.mg l k = none then l.length + 1 else l.length
  | [], k, v => by rw [V.mp, V.mg, if_pos rfl]; rfl
  | (a, b) :: r, k, v => by
    rw [V.mp, V.mg]
    by_cases h : k = a
    · rw [if_pos h, if_pos h, if_neg (by simp)]; rfl
    · rw [if_neg h, if_neg h, List.length_cons, mp_len r k v]
      by_cases g : V.mg r k = none
      · rw [if_pos g, if_pos g]; rfl
      · rw [if_neg g, if_neg g]; rfl

def cntB (B : Int) (m : List (ByteArray × Int)) : Prop := ∀ x v, V.mg m x = some v → 1 ≤ v ∧ v ≤ B
def cntN (m : List (ByteArray × Int)) (x : ByteArray) : List (ByteArray × Int) := V.mp m x (IntKind.i64.wrap (((V.mg m x).getD 0) + 1))
def cntL : List ByteArray → List (ByteArray × Int) → List (ByteArray × Int)
  | [], m => m
  | x :: l, m => cntL l (cntN m x)

theorem cntN_ok {m : List (ByteArray × Int)} {B : Int} {x : ByteArray} (h : cntB B m) (hB : 0 ≤ B ∧ B ≤ 1000000) : cntB (B + 1) (cntN m x) ∧ (∀ y, (V.mg (cntN m x) y).isSome = (decide (y = x) || (V.mg m y).isSome)) ∧ (cntN m x).length = if V.mg m x = none then m.length + 1 else m.length := by
  refine ⟨fun y v hv => ?_, fun y => ?_, mp_len _ _ _⟩
  · unfold cntN at hv
    rw [mg_mp] at hv
    by_cases e : y = x
    · rw [if_pos e] at hv
      cases hg : V.mg m x with
      | none =>
        rw [hg] at hv
        have : v = 1 := by injection hv with q; rw [← q]; rfl
        omega
      | some c =>
        rw [hg] at hv
        have hc := h x c hg
        have : v = c + 1 := by
          injection hv with q
          rw [← q, Option.getD_some, w_eq (by omega) (by omega)]
        omega
    · rw [if_neg e] at hv
      have := h y v hv
      omega
  · unfold cntN
    rw [mg_mp]
    by_cases e : y = x <;> simp [e]

theorem cntL_ok : ∀ (l : List ByteArray) (m : List (ByteArray × Int)) (B : Int), cntB B m → 0 ≤ B → B + (l.length : Int) ≤ 1000000 → cntB (B + (l.length : Int)) (cntL l m) ∧ (∀ y, (V.mg (cntL l m) y).isSome = (inB y l || (V.mg m y).isSome)) ∧
    (cntL l m).length ≤ m.length + l.length ∧ ((cntL l m).length = m.length + l.length ↔ l.Nodup ∧ ∀ x, x ∈ l → V.mg m x = none)
  | [], m, B, h, h0, hB => by
    refine ⟨by simpa [cntL] using h, fun y => by simp [cntL, inB], by simp [cntL], by simp [cntL]⟩
  | x :: l, m, B, h, h0, hB => by
    rw [List.length_cons] at hB
    obtain ⟨a1, a2, a3⟩ := cntN_ok (x := x) h ⟨h0, by omega⟩
    obtain ⟨i1, i2, i3, i4⟩ := cntL_ok l (cntN m x) (B + 1) a1 (by omega) (by omega)
    rw [cntL]
    refine ⟨?_, fun y => ?_, ?_, ?_⟩
    · have : B + 1 + (l.length : Int) = B + ((x :: l).length : Int) := by rw [List.length_cons]; omega
      rw [← this]; exact i1
    · rw [i2, a2, inB_cons]
      cases decide (y = x) <;> cases inB y l <;> cases (V.mg m y).isSome <;> rfl
    · rw [List.length_cons]
      by_cases g : V.mg m x = none
      · rw [if_pos g] at a3; omega
      · rw [if_neg g] at a3; omega
    · rw [List.length_cons]
      by_cases g : V.mg m x = none
      · rw [if_pos g] at a3
        have : ((cntL l (cntN m x)).length = m.length + (l.length + 1)) ↔ (cntL l (cntN m x)).length = (cntN m x).length + l.length := by omega
        rw [this, i4]
        have hz : ∀ y, V.mg (cntN m x) y = none ↔ (¬ y = x ∧ V.mg m y = none) := fun y => by
          have := a2 y
          cases q : V.mg (cntN m x) y with
          | none =>
            rw [q] at this
            simp only [Option.isSome_none] at this
            have t := this.symm
            rw [Bool.or_eq_false_iff] at t
            exact ⟨fun _ => ⟨by simpa using t.1, by simpa using t.2⟩, fun _ => rfl⟩
          | some v =>
            rw [q] at this
            refine ⟨fun c => (by cases c), fun ⟨c1, c2⟩ => ?_⟩
            rw [c2] at this
            simp [c1] at this
        rw [List.nodup_cons]
        constructor
        · rintro ⟨n1, n2⟩
          refine ⟨⟨fun hx => ((hz x).1 (n2 x hx)).1 rfl, n1⟩, fun y hy => ?_⟩
          rcases List.mem_cons.1 hy with rfl | hy
          · exact g
          · exact ((hz y).1 (n2 y hy)).2
        · rintro ⟨⟨n1, n2⟩, n3⟩
          exact ⟨n2, fun y hy => (hz y).2 ⟨fun e => n1 (e ▸ hy), n3 y (List.mem_cons_of_mem _ hy)⟩⟩
      · rw [if_neg g] at a3
        constructor
        · intro h; omega
        · rintro ⟨_, n3⟩
          exact absurd (n3 x (List.mem_cons_self ..)) g

theorem yard_l1 : ∀ (l : List T_api_Machine) (k : Nat) (m : List (ByteArray × Int)), yard_Check.l1 l k m = some (cntL (l.map (·.Name)) m)
  | [], k, m => rfl
  | x :: l, k, m => by rw [yard_Check.l1, yard_l1 l]; rfl
theorem yard_l2 : ∀ (l : List T_api_Bound) (k : Nat) (m : List (ByteArray × Int)), yard_Check.l2 l k m = some (cntL (l.map (·.Pod.Name)) m)
  | [], k, m => rfl
  | x :: l, k, m => by rw [yard_Check.l2, yard_l2 l]; rfl

theorem cnt_len {l : List ByteArray} (h : l.length ≤ 1000) : (decide (((cntL l []).length : Int) < (l.length : Int))) = !decide l.Nodup := by
  obtain ⟨_, _, h3, h4⟩ := cntL_ok l [] 0 (fun x v hv => by cases hv) (by omega) (by omega)
  rw [List.length_nil, Nat.zero_add] at h3 h4
  by_cases g : l.Nodup
  · have : (cntL l []).length = l.length := h4.2 ⟨g, fun _ _ => rfl⟩
    simp [g, this]
  · have : ¬ (cntL l []).length = l.length := fun e => g (h4.1 e).1
    simp [g]; omega
theorem cnt_has {l : List ByteArray} (h : l.length ≤ 1000) (x : ByteArray) : (((V.mg (cntL l []) x).getD (0 : Int)) == (0 : Int)) = !inB x l := by
  obtain ⟨h1, h2, _, _⟩ := cntL_ok l [] 0 (fun x v hv => by cases hv) (by omega) (by omega)
  have := h2 x
  rw [show V.mg ([] : List (ByteArray × Int)) x = none from rfl, Option.isSome_none, Bool.or_false] at this
  rw [← this]
  cases q : V.mg (cntL l []) x with
  | none => rfl
  | some v =>
    have := h1 x v q
    have h0 : ¬ v = 0 := by omega
    simp [h0]

/-! what is first -/
theorem first_all {len : Nat} {q : Nat → Bool} {r : Int} (h : firstAt len (fun k => q k = false) r) : (r != (-1 : Int)) = !allN len q := by
  rcases h with ⟨k, rfl, h1, h2, h3⟩ | ⟨rfl, h1⟩
  · rw [allN_not.2 ⟨k, h1, h2⟩]
    have : ¬ (k : Int) = -1 := by omega
    simp [this]
  · rw [allN_iff.2 fun k hk => by simpa using h1 k hk]; rfl

def m0 : T_api_Machine := ⟨⟨#[]⟩, ⟨#[]⟩, r0, [], [], false⟩
def p0 : T_api_Pod := ⟨⟨#[]⟩, r0, [], [], [], [], [], [], false, [], 0, 0, ⟨#[]⟩, false, false, false⟩
def b0 : T_api_Bound := ⟨p0, ⟨#[]⟩⟩
def msQ (ms : List T_api_Machine) (k : Nat) : Bool := !decide ((ms.getD k m0).Name = ⟨#[]⟩) && machB (ms.getD k m0)
def bsQ (bs : List T_api_Bound) (k : Nat) : Bool := podB (bs.getD k b0).Pod
def onQ (ms : List T_api_Machine) (bs : List T_api_Bound) (k : Nat) : Bool := decide ((bs.getD k b0).On = ⟨#[]⟩) || inB (bs.getD k b0).On (ms.map (·.Name))

def checkB (ms : List T_api_Machine) (bs : List T_api_Bound) : Int :=
  if allN ms.length (msQ ms) = true then
    (if allN bs.length (bsQ bs) = true then
      (if (ms.map (·.Name)).Nodup ∧ (bs.map (·.Pod.Name)).Nodup then (if allN bs.length (onQ ms bs) = true then 0 else 16) else 15) else 12) else 12

theorem first_2 {ms : List T_api_Machine} (hl : ms.length ≤ 1000) (hm : ∀ k (h : k < ms.length), LM ms[k]) : yard_Check_1_yard_Check_2 (ms.length : Int) ms = some (!allN ms.length (msQ ms)) := by
  unfold yard_Check_1_yard_Check_2 yard_first_yard_Check_2
  obtain ⟨r, h1, h2⟩ := loopF (F := fun n i => yard_first_yard_Check_2.l1 (ms.length : Int) ms n i) (len := ms.length) (p := fun k => msQ ms k = false) (by omega) (fun n k hk => by
    rw [yard_first_yard_Check_2.l1, if_pos (by simp; omega), wk1 (by omega)]
    unfold yard_Check_2 msQ
    rw [glk hk, getD_d hk]
    simp only [Option.bind_some, seq_eq, spec_Mach_eq (hm k hk)]
    cases decide (ms[k].Name = ⟨#[]⟩) <;> cases machB ms[k]
    · exact .inl ⟨rfl, rfl⟩
    · exact .inr ⟨rfl, by simp⟩
    · exact .inl ⟨rfl, rfl⟩
    · exact .inl ⟨rfl, rfl⟩) (fun n => by rw [yard_first_yard_Check_2.l1, if_neg (by simp)])
  rw [h1]
  simp only [Option.bind_some, first_all h2]
theorem first_3 {bs : List T_api_Bound} (hl : bs.length ≤ 1000) (hm : ∀ k (h : k < bs.length), LP bs[k].Pod) : yard_Check_1_yard_Check_3 (bs.length : Int) bs = some (!allN bs.length (bsQ bs)) := by
  unfold yard_Check_1_yard_Check_3 yard_first_yard_Check_3
  obtain ⟨r, h1, h2⟩ := loopF (F := fun n i => yard_first_yard_Check_3.l1 (bs.length : Int) bs n i) (len := bs.length) (p := fun k => bsQ bs k = false) (by omega) (fun n k hk => by
    rw [yard_first_yard_Check_3.l1, if_pos (by simp; omega), wk1 (by omega)]
    unfold yard_Check_3 bsQ
    rw [glk hk, getD_d hk]
    simp only [Option.bind_some, spec_Pod_eq (hm k hk)]
    cases podB bs[k].Pod
    · exact .inl ⟨rfl, rfl⟩
    · exact .inr ⟨rfl, by simp⟩) (fun n => by rw [yard_first_yard_Check_3.l1, if_neg (by simp)])
  rw [h1]
  simp only [Option.bind_some, first_all h2]
theorem first_4 {ms : List T_api_Machine} {bs : List T_api_Bound} (hn : ms.length ≤ 1000) (hl : bs.length ≤ 1000) : yard_Check_1_yard_Check_4 (bs.length : Int) bs (cntL (ms.map (·.Name)) []) = some (!allN bs.length (onQ ms bs)) := by
  unfold yard_Check_1_yard_Check_4 yard_first_yard_Check_4
  obtain ⟨r, h1, h2⟩ := loopF (F := fun n i => yard_first_yard_Check_4.l1 (bs.length : Int) bs (cntL (ms.map (·.Name)) []) n i) (len := bs.length) (p := fun k => onQ ms bs k = false) (by omega) (fun n k hk => by
    rw [yard_first_yard_Check_4.l1, if_pos (by simp; omega), wk1 (by omega)]
    unfold yard_Check_4 onQ
    rw [glk hk, getD_d hk]
    simp only [Option.bind_some, seq_eq, cnt_has (l := ms.map (·.Name)) (by simpa using hn)]
    cases decide (bs[k].On = ⟨#[]⟩) <;> cases inB bs[k].On (ms.map (·.Name))
    · exact .inl ⟨rfl, rfl⟩
    · exact .inr ⟨rfl, by simp⟩
    · exact .inr ⟨rfl, by simp⟩
    · exact .inr ⟨rfl, by simp⟩) (fun n => by rw [yard_first_yard_Check_4.l1, if_neg (by simp)])
  rw [h1]
  simp only [Option.bind_some, first_all h2]

theorem yard_Check_eq {ms : List T_api_Machine} {bs : List T_api_Bound} (hy : LY ms bs) : yard_Check ms bs = some (checkB ms bs) := by
  have hnm := hy.nm
  have hnb := hy.nb
  unfold yard_Check checkB
  rw [if_neg (by simp; omega), first_2 (by omega) hy.ms, first_3 (by omega) (fun k h => (hy.bs k h).1), yard_l1, yard_l2]
  simp only [Option.bind_some]
  rw [first_4 (by omega) (by omega)]
  have c1 := cnt_len (l := ms.map (·.Name)) (by simp; omega)
  have c2 := cnt_len (l := bs.map (·.Pod.Name)) (by simp; omega)
  rw [List.length_map] at c1 c2
  rw [c1, c2]
  cases allN ms.length (msQ ms); · rfl
  cases allN bs.length (bsQ bs); · rfl
  by_cases n1 : (ms.map (·.Name)).Nodup <;> by_cases n2 : (bs.map (·.Pod.Name)).Nodup <;> cases allN bs.length (onQ ms bs) <;> simp [n1, n2]

theorem nodup_iff {l : List ByteArray} : l.Nodup ↔ ∀ i j (hi : i < l.length) (hj : j < l.length), i < j → l[i] ≠ l[j] := List.pairwise_iff_getElem

theorem find_self {ms : List T_api_Machine} (hl : ms.length ≤ 1000) {k : Nat} (hk : k < ms.length) : ∃ r, ref09_Find ms ms[k].Name = some r ∧ ((r != (k : Int)) = true ↔ ∃ j, ∃ hj : j < ms.length, j < k ∧ ms[j].Name = ms[k].Name) := by
  obtain ⟨r, hr, hf⟩ := Find9_eq ms ms[k].Name (by omega)
  refine ⟨r, hr, ?_⟩
  rcases hf with ⟨q, rfl, b, ⟨c, d⟩, e⟩ | ⟨rfl, b⟩
  · have hqk : q ≤ k := Nat.le_of_not_lt fun h => e k h ⟨hk, rfl⟩
    constructor
    · intro h
      have : ¬ (q : Int) = (k : Int) := by simpa using h
      exact ⟨q, b, by omega, d⟩
    · rintro ⟨j, hj, hjk, hje⟩
      have : ¬ (q : Int) = (k : Int) := fun h => e j (by omega) ⟨hj, hje⟩
      simpa using this
  · exact absurd ⟨hk, rfl⟩ (b k hk)
theorem place_self {bs : List T_api_Bound} (hl : bs.length ≤ 1000) {k : Nat} (hk : k < bs.length) : ∃ r, ref09_Place bs bs[k].Pod.Name = some r ∧ ((r != (k : Int)) = true ↔ ∃ j, ∃ hj : j < bs.length, j < k ∧ bs[j].Pod.Name = bs[k].Pod.Name) := by
  obtain ⟨r, hr, hf⟩ := Place9_eq bs bs[k].Pod.Name (by omega)
  refine ⟨r, hr, ?_⟩
  rcases hf with ⟨q, rfl, b, ⟨c, d⟩, e⟩ | ⟨rfl, b⟩
  · have hqk : q ≤ k := Nat.le_of_not_lt fun h => e k h ⟨hk, rfl⟩
    constructor
    · intro h
      have : ¬ (q : Int) = (k : Int) := by simpa using h
      exact ⟨q, b, by omega, d⟩
    · rintro ⟨j, hj, hjk, hje⟩
      have : ¬ (q : Int) = (k : Int) := fun h => e j (by omega) ⟨hj, hje⟩
      simpa using this
  · exact absurd ⟨hk, rfl⟩ (b k hk)

theorem ref09_Check_eq {ms : List T_api_Machine} {bs : List T_api_Bound} (hy : LY ms bs) : ref09_Check ms bs = some (checkB ms bs) := by
  classical
  have hnm := hy.nm
  have hnb := hy.nb
  unfold ref09_Check checkB
  rw [if_neg (by simp; omega)]
  have l1 : ref09_Check.l1 ms FU 0 = some (if allN ms.length (msQ ms) = true then Out.go () else Out.ret 12) := by
    refine idxAll (F := fun n i => ref09_Check.l1 ms n i) (len := ms.length) (msQ ms) (by omega) (fun n k hk => ?_) (fun n => by rw [ref09_Check.l1, if_neg dnl])
    rw [ref09_Check.l1, if_pos (dlt hk), glk hk, wk1 (by omega)]
    unfold msQ
    simp only [Option.bind_some, seq_eq, ref07_Mach_eq (hy.ms k hk), getD_d hk]
    cases decide (ms[k].Name = ⟨#[]⟩) <;> cases machB ms[k] <;> rfl
  have l2 : ref09_Check.l2 bs FU 0 = some (if allN bs.length (bsQ bs) = true then Out.go () else Out.ret 12) := by
    refine idxAll (F := fun n i => ref09_Check.l2 bs n i) (len := bs.length) (bsQ bs) (by omega) (fun n k hk => ?_) (fun n => by rw [ref09_Check.l2, if_neg dnl])
    rw [ref09_Check.l2, if_pos (dlt hk), glk hk, wk1 (by omega)]
    unfold bsQ
    simp only [Option.bind_some, ref07_Pod_eq (hy.bs k hk).1, getD_d hk]
    cases podB bs[k].Pod <;> rfl
  have l3 : ref09_Check.l3 ms FU 0 = some (if allN ms.length (fun k => !decide (∃ j, ∃ hj : j < ms.length, ∃ hk : k < ms.length, j < k ∧ ms[j].Name = ms[k].Name)) = true then Out.go () else Out.ret 15) := by
    refine idxAll (F := fun n i => ref09_Check.l3 ms n i) (len := ms.length) (fun k => !decide (∃ j, ∃ hj : j < ms.length, ∃ hk : k < ms.length, j < k ∧ ms[j].Name = ms[k].Name)) (by omega) (fun n k hk => ?_) (fun n => by rw [ref09_Check.l3, if_neg dnl])
    obtain ⟨r, hr, hf⟩ := find_self (by omega) hk
    rw [ref09_Check.l3, if_pos (dlt hk), glk hk, wk1 (by omega)]
    simp only [Option.bind_some, hr]
    by_cases c : ∃ j, ∃ hj : j < ms.length, ∃ hk : k < ms.length, j < k ∧ ms[j].Name = ms[k].Name
    · obtain ⟨j, hj, hk', a, b⟩ := c
      rw [if_pos (hf.2 ⟨j, hj, a, b⟩), if_neg]
      simp only [Bool.not_eq_true', decide_eq_false_iff_not, Classical.not_not]
      exact ⟨j, hj, hk', a, b⟩
    · rw [if_neg (fun q => c (by obtain ⟨j, hj, a, b⟩ := hf.1 q; exact ⟨j, hj, hk, a, b⟩)), if_pos (by simpa using c)]
  have l4 : ref09_Check.l4 bs FU 0 = some (if allN bs.length (fun k => !decide (∃ j, ∃ hj : j < bs.length, ∃ hk : k < bs.length, j < k ∧ bs[j].Pod.Name = bs[k].Pod.Name)) = true then Out.go () else Out.ret 15) := by
    refine idxAll (F := fun n i => ref09_Check.l4 bs n i) (len := bs.length) (fun k => !decide (∃ j, ∃ hj : j < bs.length, ∃ hk : k < bs.length, j < k ∧ bs[j].Pod.Name = bs[k].Pod.Name)) (by omega) (fun n k hk => ?_) (fun n => by rw [ref09_Check.l4, if_neg dnl])
    obtain ⟨r, hr, hf⟩ := place_self (by omega) hk
    rw [ref09_Check.l4, if_pos (dlt hk), glk hk, wk1 (by omega)]
    simp only [Option.bind_some, hr]
    by_cases c : ∃ j, ∃ hj : j < bs.length, ∃ hk : k < bs.length, j < k ∧ bs[j].Pod.Name = bs[k].Pod.Name
    · obtain ⟨j, hj, hk', a, b⟩ := c
      rw [if_pos (hf.2 ⟨j, hj, a, b⟩), if_neg]
      simp only [Bool.not_eq_true', decide_eq_false_iff_not, Classical.not_not]
      exact ⟨j, hj, hk', a, b⟩
    · rw [if_neg (fun q => c (by obtain ⟨j, hj, a, b⟩ := hf.1 q; exact ⟨j, hj, hk, a, b⟩)), if_pos (by simpa using c)]
  have l5 : ref09_Check.l5 ms bs FU 0 = some (if allN bs.length (onQ ms bs) = true then Out.go () else Out.ret 16) := by
    refine idxAll (F := fun n i => ref09_Check.l5 ms bs n i) (len := bs.length) (onQ ms bs) (by omega) (fun n k hk => ?_) (fun n => by rw [ref09_Check.l5, if_neg dnl])
    rw [ref09_Check.l5, if_pos (dlt hk), glk hk, wk1 (by omega)]
    obtain ⟨r, hr, hf⟩ := Find9_eq ms bs[k].On (by omega)
    unfold onQ
    simp only [Option.bind_some, seq_eq, hr, getD_d hk]
    have hmem : decide (r < (0 : Int)) = !inB bs[k].On (ms.map (·.Name)) := by
      rcases hf with ⟨q, rfl, b, ⟨c, d⟩, e⟩ | ⟨rfl, b⟩
      · have : bs[k].On ∈ ms.map (·.Name) := List.mem_map.2 ⟨ms[q], List.getElem_mem _, d⟩
        rw [inB_iff.2 this]
        simp
      · have : ¬ bs[k].On ∈ ms.map (·.Name) := fun h => by
          obtain ⟨m, h1, h2⟩ := List.mem_map.1 h
          obtain ⟨i, hi, rfl⟩ := List.getElem_of_mem h1
          exact b i hi ⟨hi, h2⟩
        rw [show inB bs[k].On (ms.map (·.Name)) = false from by cases q : inB bs[k].On (ms.map (·.Name)) with | false => rfl | true => exact absurd (inB_iff.1 q) this]
        rfl
    rw [hmem]
    cases decide (bs[k].On = ⟨#[]⟩) <;> cases inB bs[k].On (ms.map (·.Name)) <;> rfl
  have n1 : (allN ms.length (fun k => !decide (∃ j, ∃ hj : j < ms.length, ∃ hk : k < ms.length, j < k ∧ ms[j].Name = ms[k].Name)) = true) ↔ (ms.map (·.Name)).Nodup := by
    rw [allN_iff, nodup_iff]
    constructor
    · intro h i j hi hj hij e
      rw [List.length_map] at hi hj
      have := h j hj
      simp only [Bool.not_eq_true', decide_eq_false_iff_not] at this
      exact this ⟨i, hi, hj, hij, by simpa using e⟩
    · intro h k hk
      simp only [Bool.not_eq_true', decide_eq_false_iff_not]
      rintro ⟨j, hj, hk', hjk, e⟩
      exact h j k (by simpa using hj) (by simpa using hk) hjk (by simpa using e)
  have n2 : (allN bs.length (fun k => !decide (∃ j, ∃ hj : j < bs.length, ∃ hk : k < bs.length, j < k ∧ bs[j].Pod.Name = bs[k].Pod.Name)) = true) ↔ (bs.map (·.Pod.Name)).Nodup := by
    rw [allN_iff, nodup_iff]
    constructor
    · intro h i j hi hj hij e
      rw [List.length_map] at hi hj
      have := h j hj
      simp only [Bool.not_eq_true', decide_eq_false_iff_not] at this
      exact this ⟨i, hi, hj, hij, by simpa using e⟩
    · intro h k hk
      simp only [Bool.not_eq_true', decide_eq_false_iff_not]
      rintro ⟨j, hj, hk', hjk, e⟩
      exact h j k (by simpa using hj) (by simpa using hk) hjk (by simpa using e)
  rw [l1, l2, l3, l4, l5]
  simp only [n1, n2]
  cases allN ms.length (msQ ms); · rfl
  cases allN bs.length (bsQ bs); · rfl
  by_cases k1 : (ms.map (·.Name)).Nodup <;> by_cases k2 : (bs.map (·.Pod.Name)).Nodup <;> cases allN bs.length (onQ ms bs) <;> simp [k1, k2, Out.on]
end Go.Proofs.YtmpkpnclmihdnaaGreat.M
/-
  Plain laws of suit: what the program's functions tell, by definition; SuitTolerant, SuitLess. Own text.
-/
namespace Go.Proofs.YtmpkpnclmihdnaaGreat.M
open Go Go.Proofs Go.Proofs.YtmpkpnclmihdnaaGreat.V
set_option linter.unusedVariables false

theorem res_Fits_eq (a b : T_api_Res) : res_Fits a b = some (resOK b && resOK a && rle a b) := by
  unfold res_Fits
  rw [res_Sub_eq]
  simp only [Option.bind_some]
  cases hb : resOK b with
  | false => rfl
  | true =>
    cases ha : resOK a with
    | false => rfl
    | true =>
      simp only [Bool.and_self, if_true, Bool.true_and]
      rw [resOK_sub hb ha]
      cases rle a b <;> rfl

theorem ap_ok {α : Type} {b : Nat} {l m : List α} (hb : b ≤ 1000) (h : l.length + m.length ≤ 1000000) : V.ap b l m = some (l ++ m) := by
  unfold V.ap
  rw [if_pos]
  refine ⟨by unfold maxLen; omega, ?_⟩
  have : (l.length + m.length) * b ≤ 1000000 * 1000 := Nat.mul_le_mul h hb
  omega

/-- The others. -/
def othersS (bs : List T_api_Bound) (name : ByteArray) : List T_api_Bound := bs.filter fun b => decide (b.Pod.Name ≠ name)
def onS (bs : List T_api_Bound) (name : ByteArray) : List T_api_Pod := (bs.filter fun b => decide (b.On = name)).map (·.Pod)

theorem others_eq (bs : List T_api_Bound) (name : ByteArray) (hl : bs.length ≤ 1000) : suit_others bs name = some (othersS bs name) := by
  have key : ∀ (l : List T_api_Bound) (k : Nat) (acc : List T_api_Bound), l.length + acc.length ≤ 1000 → suit_others.l1 name l k acc = some (acc ++ othersS l name) := by
    intro l
    induction l with
    | nil => intro k acc h; simp [suit_others.l1, othersS]
    | cons x l ih =>
      intro k acc h
      simp only [List.length_cons] at h
      rw [suit_others.l1, seq_eq]
      by_cases hx : x.Pod.Name = name
      · rw [if_neg (by simp [hx]), ih _ _ (by omega)]
        simp [othersS, hx]
      · rw [if_pos (by simp [hx]), ap_ok (by omega) (by simp; omega)]
        simp only [Option.bind_some]
        rw [ih _ _ (by simp; omega)]
        simp [othersS, hx]
  unfold suit_others
  rw [key bs 0 [] (by simp; omega)]
  simp

theorem On_eq (bs : List T_api_Bound) (name : ByteArray) (hl : bs.length ≤ 1000) : yard_On bs name = some (onS bs name) := by
  have key : ∀ (l : List T_api_Bound) (k : Nat) (acc : List T_api_Pod), l.length + acc.length ≤ 1000 → yard_On.l1 name l k acc = some (acc ++ onS l name) := by
    intro l
    induction l with
    | nil => intro k acc h; simp [yard_On.l1, onS]
    | cons x l ih =>
      intro k acc h
      simp only [List.length_cons] at h
      rw [yard_On.l1, seq_eq]
      by_cases hx : x.On = name
      · rw [if_pos (by simp [hx]), ap_ok (by omega) (by simp; omega)]
        simp only [Option.bind_some]
        rw [ih _ _ (by simp; omega)]
        simp [onS, hx]
      · rw [if_neg (by simp [hx]), ih _ _ (by omega)]
        simp [onS, hx]
  unfold yard_On
  rw [key bs 0 [] (by simp; omega)]
  simp

theorem onS_len (bs : List T_api_Bound) (name : ByteArray) : (onS bs name).length ≤ bs.length := by
  unfold onS; rw [List.length_map]; exact List.length_filter_le _ _
theorem othersS_len (bs : List T_api_Bound) (name : ByteArray) : (othersS bs name).length ≤ bs.length := List.length_filter_le _ _

/-- All that pods need. -/
def total : List T_api_Pod → T_api_Res
  | [] => r0
  | p :: l => radd p.Need (total l)
def needsOK (l : List T_api_Pod) : Bool := l.all fun p => resOK p.Need
def usedS (l : List T_api_Pod) : T_api_Res × Int := if needsOK l = true then (if resOK (total l) = true then (total l, 0) else (r0, 10)) else (r0, 12)

theorem total_nn {l : List T_api_Pod} (h : needsOK l = true) : 0 ≤ (total l).Cpu ∧ 0 ≤ (total l).Mem ∧ 0 ≤ (total l).Disk ∧ 0 ≤ (total l).Pods ∧ 0 ≤ (total l).Dev := by
  induction l with
  | nil => simp [total, r0]
  | cons p l ih =>
    unfold needsOK at h
    simp only [List.all_cons, Bool.and_eq_true] at h
    have h1 := (resOK_iff _).1 h.1
    have h2 := ih h.2
    simp only [total, radd]
    omega

theorem radd_r0 (a : T_api_Res) : radd r0 a = a := by cases a; simp [radd, r0]
theorem radd_assoc (a b c : T_api_Res) : radd (radd a b) c = radd a (radd b c) := by
  simp only [radd, T_api_Res.mk.injEq]; omega

theorem Used_loop {l : List T_api_Pod} (h : needsOK l = true) : ∀ (k : Nat) (s : T_api_Res), resOK s = true → yard_Used.l1 l k s = some (if resOK (radd s (total l)) = true then Out.go (radd s (total l)) else Out.ret (r0, 10)) := by
  induction l with
  | nil =>
    intro k s hs
    have e : radd s (total []) = s := by cases s; simp [radd, total, r0]
    rw [yard_Used.l1, e, if_pos hs]
  | cons p l ih =>
    intro k s hs
    have h0 := h
    unfold needsOK at h
    simp only [List.all_cons, Bool.and_eq_true] at h
    have hl : needsOK l = true := h.2
    have hp := h.1
    have hnn := total_nn hl
    rw [yard_Used.l1, res_Add_eq, hs, hp]
    simp only [Bool.and_self, if_true, Option.bind_some]
    by_cases hq : resOK (radd s p.Need) = true
    · rw [if_pos hq]
      simp only [bne_self_eq_false, Bool.false_eq_true, if_false]
      rw [ih hl _ _ hq, radd_assoc]
      rfl
    · rw [if_neg hq]
      rw [if_neg (show ¬ resOK (radd s (total (p :: l))) = true from ?_)]
      · rfl
      · intro hc
        apply hq
        rw [resOK_iff] at hc hs hp ⊢
        simp only [radd, total] at hc ⊢
        omega

theorem first_needs {l : List T_api_Pod} (hl : l.length ≤ 1000) : ∃ r, yard_first_yard_Used_1 (l.length : Int) l = some r ∧ (r = -1 ↔ needsOK l = true) := by
  obtain ⟨r, hr, hf⟩ := loopF (F := fun n i => yard_first_yard_Used_1.l1 (l.length : Int) l n i) (len := l.length) (p := fun k => ∃ h : k < l.length, resOK l[k].Need = false) (by omega) (fun n k hk => by
      rw [yard_first_yard_Used_1.l1, if_pos (dlt hk), wk1 (by omega)]
      unfold yard_Used_1
      rw [glk hk]
      simp only [Option.bind_some, res_Right_eq]
      cases h : resOK l[k].Need with
      | false => exact .inl ⟨rfl, hk, h⟩
      | true => exact .inr ⟨rfl, fun ⟨_, h'⟩ => by rw [h] at h'; cases h'⟩) (fun n => by rw [yard_first_yard_Used_1.l1, if_neg dnl])
  refine ⟨r, hr, ?_⟩
  unfold needsOK
  rw [List.all_eq_true]
  rcases hf with ⟨q, rfl, a, ⟨b, c⟩, d⟩ | ⟨rfl, a⟩
  · refine ⟨fun h => by omega, fun h => ?_⟩
    have := h l[q] (List.getElem_mem _)
    rw [c] at this; cases this
  · refine ⟨fun _ x hx => ?_, fun _ => rfl⟩
    obtain ⟨i, hi, rfl⟩ := List.getElem_of_mem hx
    cases h : resOK l[i].Need with
    | true => rfl
    | false => exact absurd ⟨hi, h⟩ (a i hi)

theorem Used_eq (bs : List T_api_Bound) (name : ByteArray) (hl : bs.length ≤ 1000) : yard_Used bs name = some (usedS (onS bs name)) := by
  have hlen := onS_len bs name
  unfold yard_Used usedS
  rw [On_eq bs name hl]
  simp only [Option.bind_some]
  obtain ⟨r, hr, hf⟩ := first_needs (l := onS bs name) (by omega)
  rw [hr]
  simp only [Option.bind_some]
  cases hn : needsOK (onS bs name) with
  | false =>
    have : r ≠ -1 := fun e => by rw [hf.1 e] at hn; cases hn
    rw [if_pos (by simpa using this)]; rfl
  | true =>
    rw [if_neg (by simp [hf.2 hn]), show (⟨0, 0, 0, 0, 0⟩ : T_api_Res) = r0 from rfl, Used_loop hn 0 r0 (by decide), radd_r0]
    simp only [if_true]
    cases resOK (total (onS bs name)) <;> rfl

/-- What is left. -/
def leftS (has : T_api_Res) (u : T_api_Res × Int) : T_api_Res := if u.2 = 0 ∧ resOK has = true then rsub has (rmin u.1 has) else r0

theorem usedS_ok (l : List T_api_Pod) (h : (usedS l).2 = 0) : resOK (usedS l).1 = true ∧ (usedS l).1 = total l ∧ needsOK l = true ∧ resOK (total l) = true := by
  unfold usedS at h ⊢
  cases hn : needsOK l with
  | false => rw [hn] at h; simp at h
  | true =>
    rw [hn] at h
    simp only [if_true] at h ⊢
    cases ht : resOK (total l) with
    | false => rw [ht] at h; simp at h
    | true => simp [ht]

theorem Left_eq (m : T_api_Machine) (bs : List T_api_Bound) (hl : bs.length ≤ 1000) : yard_Left m bs = some (leftS m.Has (usedS (onS bs m.Name))) := by
  unfold yard_Left leftS
  rw [Used_eq bs m.Name hl]
  simp only [Option.bind_some]
  by_cases h0 : (usedS (onS bs m.Name)).2 = 0
  · rw [if_neg (by simpa using h0), res_Least_eq]
    obtain ⟨h1, _⟩ := usedS_ok _ h0
    rw [h1]
    simp only [Option.bind_some, Bool.true_and, res_Sub_eq]
    by_cases h2 : resOK m.Has = true
    · have h2' : resOK (rmin (usedS (onS bs m.Name)).1 m.Has) = true := resOK_min h1 h2
      have : resOK (rsub m.Has (rmin (usedS (onS bs m.Name)).1 m.Has)) = true := by
        rw [resOK_sub h2 (resOK_min h1 h2), rle_iff]
        simp only [rmin]
        omega
      simp only [h0, h2, h2', Bool.and_self, if_true, this, and_self]
    · have h2' : resOK m.Has = false := by simpa using h2
      rw [if_neg (by rw [h2']; simp), h2']
      simp
  · rw [if_pos (by simpa using h0), if_neg (by simp [h0])]
    rfl

/-! ports -/
def hit : List Int → List Int → Bool
  | [], _ => false
  | _ :: _, [] => false
  | a :: l, b :: m => if a = b then true else if a < b then hit l (b :: m) else hit (a :: l) m
termination_by l m => l.length + m.length

theorem hit_nil_r (l : List Int) : hit l [] = false := by cases l <;> simp [hit]
theorem sl_tail {α : Type} (a : α) (l : List α) (hl : l.length < 1000000) : V.sl (a :: l) (some 1) none = some l := by
  unfold V.sl
  rw [if_pos]
  · simp [lowN, highN]
  · simp [lowN, highN]

theorem common_eq (a b : List Int) (ha : a.length ≤ 1000) (hb : b.length ≤ 1000) : suit_common a b = some (hit a b) := by
  have key : ∀ (m : Nat) (a b : List Int) (f : Nat), a.length + b.length ≤ m → m < f → a.length ≤ 1000 → b.length ≤ 1000 → (suit_common.l1 f a b).bind (fun o => o.on fun _ => some false) = some (hit a b) := by
    intro m
    induction m with
    | zero =>
      intro a b f h1 h2 ha hb
      obtain ⟨f, rfl⟩ : ∃ q, f = q + 1 := ⟨f - 1, by omega⟩
      obtain rfl : a = [] := List.eq_nil_of_length_eq_zero (by omega)
      rw [suit_common.l1, if_neg (by simp)]
      simp [hit, Out.on]
    | succ m ih =>
      intro a b f h1 h2 ha hb
      obtain ⟨f, rfl⟩ : ∃ q, f = q + 1 := ⟨f - 1, by omega⟩
      cases a with
      | nil => rw [suit_common.l1, if_neg (by simp)]; simp [hit, Out.on]
      | cons x a =>
        cases b with
        | nil => rw [suit_common.l1, if_neg (by simp)]; simp [hit, Out.on]
        | cons y b =>
          simp only [List.length_cons] at h1 ha hb
          have g1 : V.gl (x :: a) 0 = some x := rfl
          have g2 : V.gl (y :: b) 0 = some y := rfl
          rw [suit_common.l1, if_pos (by simp), g1, g2, hit]
          simp only [Option.bind_some]
          by_cases h3 : x = y
          · rw [if_pos (by simpa using h3), if_pos h3]; rfl
          · rw [if_neg (by simpa using h3), if_neg h3]
            by_cases h4 : x < y
            · rw [if_pos (by simpa using h4), if_pos h4, sl_tail x a (by omega)]
              simp only [Option.bind_some]
              exact ih a (y :: b) f (by simp only [List.length_cons]; omega) (by omega) (by omega) (by simp only [List.length_cons]; omega)
            · rw [if_neg (by simpa using h4), if_neg h4, sl_tail y b (by omega)]
              simp only [Option.bind_some]
              exact ih (x :: a) b f (by simp only [List.length_cons]; omega) (by omega) (by simp only [List.length_cons]; omega) (by omega)
  unfold suit_common
  exact key (a.length + b.length) a b FU (Nat.le_refl _) (by unfold FU; omega) ha hb

/-- Is there room? -/
def roomS (m : T_api_Machine) (bs : List T_api_Bound) (p : T_api_Pod) : Int :=
  if (resOK (leftS m.Has (usedS (onS (othersS bs p.Name) m.Name))) && resOK p.Need && rle p.Need (leftS m.Has (usedS (onS (othersS bs p.Name) m.Name)))) = true then
    (bif (onS (othersS bs p.Name) m.Name).any (fun q => hit p.Ports q.Ports) then 3 else 0) else 2

theorem Room_eq (m : T_api_Machine) (bs : List T_api_Bound) (p : T_api_Pod) (hl : bs.length ≤ 1000) (hp : p.Ports.length ≤ 1000) (hb : ∀ b, b ∈ bs → b.Pod.Ports.length ≤ 1000) : suit_Room m bs p = some (roomS m bs p) := by
  have hlo := othersS_len bs p.Name
  unfold suit_Room roomS
  rw [others_eq bs p.Name hl]
  simp only [Option.bind_some]
  rw [Left_eq m _ (by omega)]
  simp only [Option.bind_some, res_Fits_eq]
  cases hf : (resOK (leftS m.Has (usedS (onS (othersS bs p.Name) m.Name))) && resOK p.Need && rle p.Need (leftS m.Has (usedS (onS (othersS bs p.Name) m.Name)))) with
  | false => rfl
  | true =>
    simp only [Bool.not_true, Bool.false_eq_true, if_false, if_true]
    rw [On_eq _ _ (by omega)]
    simp only [Option.bind_some]
    have hports : ∀ q, q ∈ onS (othersS bs p.Name) m.Name → q.Ports.length ≤ 1000 := by
      intro q hq
      unfold onS othersS at hq
      obtain ⟨b, h1, rfl⟩ := List.mem_map.1 hq
      exact hb b (List.mem_filter.1 (List.mem_filter.1 h1).1).1
    generalize onS (othersS bs p.Name) m.Name = l at hports
    have key : ∀ (l : List T_api_Pod) (k : Nat), (∀ q, q ∈ l → q.Ports.length ≤ 1000) → (suit_Room.l1 p l k).bind (fun o => o.on fun _ => some (0 : Int)) = some (bif l.any (fun q => hit p.Ports q.Ports) then 3 else 0) := by
      intro l
      induction l with
      | nil => intro k _; rfl
      | cons x l ih =>
        intro k h
        rw [suit_Room.l1, common_eq _ _ hp (h x (by simp))]
        simp only [Option.bind_some, List.any_cons]
        by_cases hx : hit p.Ports x.Ports = true
        · rw [if_pos hx, hx]; rfl
        · have hx' : hit p.Ports x.Ports = false := by simpa using hx
          rw [if_neg hx, hx', Bool.false_or]
          exact ih (k + 1) (fun q hq => h q (by simp [hq]))
    exact key l 0 hports
end Go.Proofs.YtmpkpnclmihdnaaGreat.M
/-
  Plain laws: whether a pod suits a machine, out of its parts; what fewer pods leave. Own text.
-/
namespace Go.Proofs.YtmpkpnclmihdnaaGreat.M
open Go Go.Proofs Go.Proofs.YtmpkpnclmihdnaaGreat.V
set_option linter.unusedVariables false

theorem Number_tot {s : ByteArray} (h : s.size ≤ 300) : isS (quant_Number s) := by
  unfold quant_Number
  refine T.bind (T.ite (fun _ => T.pure _) fun _ => T.bind ?_ fun _ _ => T.pure _) fun c _ => T.ite (fun _ => T.pure _) fun _ => T.bind ?_ fun _ _ => T.ite (fun _ => T.pure _) fun _ => T.pure _
  · unfold quant_head
    refine T.bind (T.loop (F := fun n i => quant_head.l1 s n i) (len := s.size) (by omega) (fun n k hk ih => ?_) (fun n => ?_)) fun _ _ => T.pure _
    · rw [quant_head.l1, if_pos (by simp; omega), gi_nat hk, wk1 (by omega)]
      simp only [Option.bind_some]
      exact T.bind (T.ite (fun _ => T.pure _) fun _ => T.pure _) fun _ _ => T.ite (fun _ => ih) fun _ => T.pure _
    · rw [quant_head.l1, if_neg (by simp)]
      simp only [Option.bind_some, Bool.false_eq_true, if_false]
      exact T.pure _
  · unfold quant_value
    refine T.bind (T.loop2 (F := fun n c i => quant_value.l1 s 1125899906842624 n c i) (len := s.size) (by omega) (fun n c k hk ih => ?_) (fun n c => ?_) 0) fun o _ => T.on o fun _ => T.pure _
    · rw [quant_value.l1, if_pos (by simp; omega), gi_nat hk, wk1 (by omega)]
      simp only [Option.bind_some]
      refine T.bind ⟨_, by unfold V.quo; rw [if_neg (by decide)]⟩ fun _ _ => T.ite (fun _ => T.pure _) fun _ => ih _
    · rw [quant_value.l1, if_neg (by simp)]; exact T.pure _

theorem at_tot (l : List T_api_Label) (key : ByteArray) : ∃ r, labels_at l key = some r ∧ (r.2 = true → ∃ k : Nat, r.1 = (k : Int) ∧ k < l.length) := by
  have h : ∀ (l2 : List T_api_Label) (k : Nat), (labels_at.l1 key l2 k = some (Out.go ())) ∨ ∃ q : Nat, ∃ b, labels_at.l1 key l2 k = some (Out.ret ((q : Int), b)) ∧ q < k + l2.length := by
    intro l2
    induction l2 with
    | nil => intro k; exact .inl rfl
    | cons x l2 ih =>
      intro k
      rw [labels_at.l1]
      by_cases hx : (!(V.slt x.Key key)) = true
      · rw [if_pos hx]; exact .inr ⟨k, _, rfl, by simp⟩
      · rw [if_neg hx]
        rcases ih (k + 1) with h | ⟨q, b, h1, h2⟩
        · exact .inl h
        · exact .inr ⟨q, b, h1, by simp only [List.length_cons]; omega⟩
  unfold labels_at
  rcases h l 0 with h | ⟨q, b, h1, h2⟩
  · rw [h]; exact ⟨_, rfl, by simp⟩
  · rw [h1]; exact ⟨_, rfl, fun _ => ⟨q, rfl, by omega⟩⟩

theorem Get_tot (l : List T_api_Label) (key : ByteArray) : isS (labels_Get l key) := by
  obtain ⟨r, hr, hk⟩ := at_tot l key
  unfold labels_Get
  rw [hr]
  simp only [Option.bind_some]
  refine T.ite (fun _ => T.pure _) fun h => ?_
  obtain ⟨k, e, hl⟩ := hk (by simpa using h)
  rw [e, glk hl]
  exact T.pure _

theorem Get_val {l : List T_api_Label} (hl : LL l) {key : ByteArray} {r : ByteArray × Bool} (h : labels_Get l key = some r) : r.1.size ≤ 300 := by
  obtain ⟨q, hq, hk⟩ := at_tot l key
  unfold labels_Get at h
  rw [hq] at h
  simp only [Option.bind_some] at h
  by_cases h2 : q.2 = true
  · obtain ⟨k, e, hlk⟩ := hk h2
    rw [if_neg (by simp [h2]), e, glk hlk] at h
    simp only [Option.bind_some, Option.some.injEq] at h
    subst h
    exact (hl.2 k hlk).2
  · rw [if_pos (by simpa using h2)] at h
    simp only [Option.some.injEq] at h
    subst h
    exact Nat.zero_le _

theorem Has_tot (l s : List T_api_Label) : isS (labels_Has l s) := by
  have h : ∀ (s : List T_api_Label) (k : Nat), isS (labels_Has.l1 l s k) := by
    intro s
    induction s with
    | nil => intro k; exact T.pure _
    | cons x s ih =>
      intro k
      rw [labels_Has.l1]
      exact T.bind (Get_tot l x.Key) fun _ _ => T.ite (fun _ => T.pure _) fun _ => ih (k + 1)
  unfold labels_Has
  exact T.bind (h s 0) fun o _ => T.on o fun _ => T.pure _

theorem among_tot (l : List ByteArray) (s : ByteArray) : isS (labels_among l s) := by
  have h : ∀ (l : List ByteArray) (k : Nat), isS (labels_among.l1 s l k) := by
    intro l
    induction l with
    | nil => intro k; exact T.pure _
    | cons x l ih =>
      intro k
      rw [labels_among.l1]
      exact T.ite (fun _ => T.pure _) fun _ => ih (k + 1)
  unfold labels_among
  exact T.bind (h l 0) fun o _ => T.on o fun _ => T.pure _

theorem Meets_tot {l : List T_api_Label} {t : T_api_Term} (hl : LL l) (ht : LT t) : isS (labels_Meets l t) := by
  unfold labels_Meets
  refine T.bind (Get_tot l t.Key) fun r hr => T.ite (fun _ => T.bind (T.ite (fun _ => T.bind (among_tot _ _) fun _ _ => T.pure _) fun _ => T.pure _) fun _ _ => T.pure _) fun _ => T.ite (fun _ => T.bind (T.ite (fun _ => T.pure _) fun _ => T.bind (among_tot _ _) fun _ _ => T.pure _) fun _ _ => T.pure _) fun _ =>
    T.ite (fun _ => T.pure _) fun _ => T.ite (fun _ => T.pure _) fun _ => T.ite (fun _ => T.pure _) fun hv => ?_
  have hlen : t.Vals.length = 1 := by
    have : ¬ (¬ ((t.Vals.length : Int) = 1)) := fun h => hv (by simp [h])
    omega
  have hval := Get_val hl hr
  rw [show (0 : Int) = ((0 : Nat) : Int) from rfl, glk (by omega)]
  unfold labels_number
  exact T.bind (T.bind (Number_tot hval) fun _ _ => T.pure _) fun _ _ => T.bind (T.pure _) fun x hx => T.bind (T.bind (Number_tot (by
    simp only [Option.some.injEq] at hx
    subst hx
    exact ht.2.2 0 (by omega))) fun _ _ => T.pure _) fun _ _ => T.ite (fun _ => T.pure _) fun _ => T.pure _

theorem All_tot {l : List T_api_Label} {ts : List T_api_Term} (hl : LL l) (ht : ∀ t, t ∈ ts → LT t) : isS (labels_All l ts) := by
  have h : ∀ (s : List T_api_Term) (k : Nat), (∀ t, t ∈ s → LT t) → isS (labels_All.l1 l s k) := by
    intro s
    induction s with
    | nil => intro k _; exact T.pure _
    | cons x s ih =>
      intro k h
      rw [labels_All.l1]
      exact T.bind (Meets_tot hl (h x (by simp))) fun _ _ => T.ite (fun _ => T.pure _) fun _ => ih (k + 1) (fun t ht => h t (by simp [ht]))
  unfold labels_All
  exact T.bind (h ts 0 ht) fun o _ => T.on o fun _ => T.pure _

theorem TBears_tot (t : T_api_Toleration) (x : T_api_Taint) : isS (taints_Bears t x) := by
  unfold taints_Bears
  exact T.ite (fun _ => T.pure _) fun _ => T.ite (fun _ => T.pure _) fun _ => T.pure _
theorem borne_tot (l : List T_api_Toleration) (x : T_api_Taint) : isS (taints_borne l x) := by
  have h : ∀ (l : List T_api_Toleration) (k : Nat), isS (taints_borne.l1 x l k) := by
    intro l
    induction l with
    | nil => intro k; exact T.pure _
    | cons y l ih =>
      intro k
      rw [taints_borne.l1]
      exact T.bind (TBears_tot y x) fun _ _ => T.ite (fun _ => T.pure _) fun _ => ih (k + 1)
  unfold taints_borne
  exact T.bind (h l 0) fun o _ => T.on o fun _ => T.pure _
theorem Unb1_tot (x : T_api_Taint) (e : Int) (l : List T_api_Toleration) : isS (taints_Unborne_1 x e l) := by
  unfold taints_Unborne_1
  exact T.bind ⟨_, rfl⟩ fun _ _ => T.bind (T.ite (fun _ => T.bind (borne_tot l x) fun _ _ => T.pure _) fun _ => T.pure _) fun _ _ => T.pure _
theorem Unborne_tot (l : List T_api_Toleration) (ts : List T_api_Taint) (e : Int) (h : ts.length ≤ 1000) : ∃ r, taints_Unborne l ts e = some r ∧ r.length ≤ ts.length := by
  have key : ∀ (s : List T_api_Taint) (k : Nat) (acc : List T_api_Taint), s.length + acc.length ≤ 1000 → ∃ r, taints_some_taints_Unborne_1.l1 e l s k acc = some r ∧ r.length ≤ s.length + acc.length := by
    intro s
    induction s with
    | nil => intro k acc h; exact ⟨acc, rfl, by simp⟩
    | cons x s ih =>
      intro k acc h
      simp only [List.length_cons] at h
      rw [taints_some_taints_Unborne_1.l1]
      obtain ⟨b, hb⟩ := Unb1_tot x e l
      rw [hb]
      simp only [Option.bind_some]
      cases b with
      | true =>
        rw [if_pos rfl, ap_ok (by omega) (by simp; omega)]
        simp only [Option.bind_some]
        obtain ⟨r, h1, h2⟩ := ih (k + 1) (acc ++ [x]) (by simp; omega)
        exact ⟨r, h1, by simp only [List.length_append, List.length_cons, List.length_nil] at h2 ⊢; omega⟩
      | false =>
        rw [if_neg (by simp)]
        obtain ⟨r, h1, h2⟩ := ih (k + 1) acc (by omega)
        exact ⟨r, h1, by simp only [List.length_cons]; omega⟩
  obtain ⟨r, h1, h2⟩ := key ts 0 [] (by simpa using h)
  unfold taints_Unborne taints_some_taints_Unborne_1
  rw [h1]
  exact ⟨r, rfl, by simpa using h2⟩
theorem Allows_tot (l : List T_api_Toleration) (ts : List T_api_Taint) (h : ts.length ≤ 1000) : isS (taints_Allows l ts) := by
  unfold taints_Allows
  obtain ⟨a, ha, _⟩ := Unborne_tot l ts 1 h
  obtain ⟨b, hb, _⟩ := Unborne_tot l ts 3 h
  rw [ha, hb]
  exact T.pure _

theorem Place_tot {m : T_api_Machine} {p : T_api_Pod} (hm : LM m) (hp : LP p) : isS (suit_Place m p) := by
  unfold suit_Place
  exact T.ite (fun _ => T.pure _) fun _ => T.bind (Has_tot _ _) fun _ _ => T.ite (fun _ => T.pure _) fun _ => T.bind (All_tot hm.labels (fun t ht => by
    obtain ⟨i, hi, rfl⟩ := List.getElem_of_mem ht
    exact hp.terms i hi)) fun _ _ => T.ite (fun _ => T.pure _) fun _ => T.bind (Allows_tot _ _ (by have := hm.taints.1; omega)) fun _ _ => T.ite (fun _ => T.pure _) fun _ => T.pure _

/-- Whether it suits, out of its two parts. -/
theorem Suits_eq {m : T_api_Machine} {bs : List T_api_Bound} {p : T_api_Pod} {w : Int} (hw : suit_Place m p = some w) (hl : bs.length ≤ 1000) (hp : p.Ports.length ≤ 1000) (hb : ∀ b, b ∈ bs → b.Pod.Ports.length ≤ 1000) :
    suit_Suits m bs p = some (if w = 1 ∨ w = 4 ∨ w = 5 ∨ w = 6 then w else roomS m bs p) := by
  unfold suit_Suits
  rw [hw]
  simp only [Option.bind_some]
  by_cases h1 : w = 1
  · subst h1; rfl
  rw [if_neg (by simpa using h1)]
  by_cases h2 : w = 4
  · subst h2; rfl
  rw [if_neg (by simpa using h2)]
  by_cases h3 : w = 5
  · subst h3; rfl
  rw [if_neg (by simpa using h3)]
  by_cases h4 : w = 6
  · subst h4; rfl
  rw [if_neg (by simpa using h4), if_neg (by omega), Room_eq m bs p hl hp hb]
  rfl
/-- Fewer pods: what is used is no more, and what is left no less. -/
theorem total_sub {l m : List T_api_Pod} (h : l.Sublist m) (hm : needsOK m = true) : needsOK l = true ∧ (total l).Cpu ≤ (total m).Cpu ∧ (total l).Mem ≤ (total m).Mem ∧ (total l).Disk ≤ (total m).Disk ∧ (total l).Pods ≤ (total m).Pods ∧ (total l).Dev ≤ (total m).Dev := by
  induction h with
  | slnil => exact ⟨hm, by simp⟩
  | cons a h ih =>
    unfold needsOK at hm
    simp only [List.all_cons, Bool.and_eq_true] at hm
    have h1 := (resOK_iff _).1 hm.1
    obtain ⟨k1, k2⟩ := ih hm.2
    refine ⟨k1, ?_⟩
    simp only [total, radd]
    omega
  | cons_cons a h ih =>
    unfold needsOK at hm
    simp only [List.all_cons, Bool.and_eq_true] at hm
    obtain ⟨k1, k2⟩ := ih hm.2
    refine ⟨by unfold needsOK; simp only [List.all_cons, hm.1, Bool.true_and]; exact k1, ?_⟩
    simp only [total, radd]
    omega

theorem left_sub {l m : List T_api_Pod} (h : l.Sublist m) (hm : needsOK m = true) (has need : T_api_Res) (h1 : resOK (leftS has (usedS m)) = true) (h2 : rle need (leftS has (usedS m)) = true) (hn : need.Pods ≥ 1) : resOK (leftS has (usedS l)) = true ∧ rle need (leftS has (usedS l)) = true := by
  obtain ⟨k1, k2⟩ := total_sub h hm
  have hu : (usedS m).2 = 0 ∧ resOK has = true := by
    by_cases hc : (usedS m).2 = 0 ∧ resOK has = true
    · exact hc
    · unfold leftS at h2
      rw [if_neg hc, rle_iff] at h2
      simp only [r0] at h2
      omega
  obtain ⟨u1, u2, u3, u4⟩ := usedS_ok m hu.1
  have hnn := total_nn k1
  have hl : usedS l = (total l, 0) := by
    unfold usedS
    have : resOK (total l) = true := by
      rw [resOK_iff] at u4 ⊢
      omega
    rw [if_pos k1, if_pos this]
  have ho : resOK (total l) = true := by
    rw [resOK_iff] at u4 ⊢
    omega
  have hh := (resOK_iff _).1 hu.2
  unfold leftS at h1 h2 ⊢
  rw [if_pos hu, u2] at h1 h2
  rw [hl, if_pos ⟨rfl, hu.2⟩]
  rw [rle_iff] at h2 ⊢
  rw [resOK_iff] at h1 ⊢
  simp only [rsub, rmin] at h1 h2 ⊢
  omega

theorem others_sub {bs cs : List T_api_Bound} (h : bs.Sublist cs) (n k : ByteArray) : (onS (othersS bs n) k).Sublist (onS (othersS cs n) k) := by
  unfold onS othersS
  exact (((h.filter _).filter _).map _)

theorem roomS_zero {m : T_api_Machine} {bs : List T_api_Bound} {p : T_api_Pod} : roomS m bs p = 0 ↔ resOK (leftS m.Has (usedS (onS (othersS bs p.Name) m.Name))) = true ∧ resOK p.Need = true ∧ rle p.Need (leftS m.Has (usedS (onS (othersS bs p.Name) m.Name))) = true ∧
    ∀ q, q ∈ onS (othersS bs p.Name) m.Name → hit p.Ports q.Ports = false := by
  unfold roomS
  by_cases h : (resOK (leftS m.Has (usedS (onS (othersS bs p.Name) m.Name))) && resOK p.Need && rle p.Need (leftS m.Has (usedS (onS (othersS bs p.Name) m.Name)))) = true
  · rw [if_pos h]
    simp only [Bool.and_eq_true] at h
    cases ha : (onS (othersS bs p.Name) m.Name).any (fun q => hit p.Ports q.Ports) with
    | true =>
      simp only [cond_true]
      obtain ⟨q, h1, h2⟩ := List.any_eq_true.1 ha
      constructor
      · intro h; omega
      · rintro ⟨_, _, _, h3⟩
        rw [h3 q h1] at h2
        cases h2
    | false =>
      simp only [cond_false, true_iff]
      exact ⟨h.1.1, h.1.2, h.2, fun q hq => by
        have := List.any_eq_false.1 ha q hq
        simpa using this⟩
  · rw [if_neg h]
    simp only [Bool.and_eq_true] at h
    constructor
    · intro h; omega
    · rintro ⟨h1, h2, h3, _⟩
      exact absurd ⟨⟨h1, h2⟩, h3⟩ h

theorem needs_ry {ms : List T_api_Machine} {bs : List T_api_Bound} (hy : LY ms bs) (hr : RY ms bs) (n k : ByteArray) : needsOK (onS (othersS bs n) k) = true := by
  unfold needsOK
  rw [List.all_eq_true]
  intro q hq
  unfold onS othersS at hq
  obtain ⟨b, h1, rfl⟩ := List.mem_map.1 hq
  obtain ⟨i, hi, rfl⟩ := List.getElem_of_mem (List.mem_filter.1 (List.mem_filter.1 h1).1).1
  exact (RPod_need (hy.bs i hi).1 (hr.rb i hi)).1

theorem Place_same {m : T_api_Machine} {p q : T_api_Pod} (h1 : p.Select = q.Select) (h2 : p.Terms = q.Terms) (h3 : p.Bears = q.Bears) : suit_Place m p = suit_Place m q := by
  unfold suit_Place; rw [h1, h2, h3]

theorem Suits_zero {m : T_api_Machine} {bs : List T_api_Bound} {p : T_api_Pod} {w : Int} (hw : suit_Place m p = some w) (hl : bs.length ≤ 1000) (hp : p.Ports.length ≤ 1000) (hb : ∀ b, b ∈ bs → b.Pod.Ports.length ≤ 1000) {r : Int} (hr : suit_Suits m bs p = some r) :
    r = 0 ↔ (¬ (w = 1 ∨ w = 4 ∨ w = 5 ∨ w = 6)) ∧ roomS m bs p = 0 := by
  rw [Suits_eq hw hl hp hb] at hr
  simp only [Option.some.injEq] at hr
  subst hr
  by_cases h : w = 1 ∨ w = 4 ∨ w = 5 ∨ w = 6
  · rw [if_pos h]; constructor
    · intro h0; omega
    · rintro ⟨h1, _⟩; exact absurd h h1
  · rw [if_neg h]; exact ⟨fun h0 => ⟨h, h0⟩, fun h0 => h0.2⟩

theorem sl_pre {α : Type} {l : List α} {k : Nat} (h : k ≤ l.length) : V.sl l none (some (k : Int)) = some (l.take k) := by
  unfold V.sl
  rw [if_pos ⟨⟨by simp, by simp⟩, by simp [lowN, highN], by simpa [highN] using h⟩]
  simp [lowN, highN]
theorem sl_suf {α : Type} {l : List α} {k : Nat} (h : k ≤ l.length) : V.sl l (some (k : Int)) none = some (l.drop k) := by
  unfold V.sl
  rw [if_pos ⟨⟨by simp, by simp⟩, by simpa [lowN, highN] using h, by simp [highN]⟩]
  simp [lowN, highN]
end Go.Proofs.YtmpkpnclmihdnaaGreat.M

/-
  Plain law: what is wrong of machines and bound pods is told alike by the program and the document. Own text.
-/
import Derived.Test.YtcblmlkpcplkfaaPYard
namespace Go.Proofs.Ytcblmlkpcplkfaa.M
open Go Go.Proofs Go.Proofs.Ytcblmlkpcplkfaa.V
set_option linter.unusedVariables false

def inB (y : ByteArray) (l : List ByteArray) : Bool := l.any fun a => decide (y = a)
theorem inB_iff {y : ByteArray} {l : List ByteArray} : inB y l = true ↔ y ∈ l := by
  unfold inB
  rw [List.any_eq_true]
  constructor
  · rintro ⟨a, h1, h2⟩; rw [of_decide_eq_true h2]; exact h1
  · intro h; exact ⟨y, h, by simp⟩
theorem inB_cons {y x : ByteArray} {l : List ByteArray} : inB y (x :: l) = (decide (y = x) || inB y l) := rfl

/-! maps that count -/
theorem mp_len {κ υ : Type} [DecidableEq κ] : ∀ (l : List (κ × υ)) (k : κ) (v : υ), (V.mp l k v).length = if V.mg l k = none then l.length + 1 else l.length
  | [], k, v => by rw [V.mp, V.mg, if_pos rfl]; rfl
  | (a, b) :: r, k, v => by
    rw [V.mp, V.mg]
    by_cases h : k = a
    · rw [if_pos h, if_pos h, if_neg (by simp)]; rfl
    · rw [if_neg h, if_neg h, List.length_cons, mp_len r k v]
      by_cases g : V.mg r k = none
      · rw [if_pos g, if_pos g]; rfl
      · rw [if_neg g, if_neg g]; rfl

def cntB (B : Int) (m : List (ByteArray × Int)) : Prop := ∀ x v, V.mg m x = some v → 1 ≤ v ∧ v ≤ B
def cntN (m : List (ByteArray × Int)) (x : ByteArray) : List (ByteArray × Int) := V.mp m x (IntKind.i64.wrap (((V.mg m x).getD 0) + 1))
def cntL : List ByteArray → List (ByteArray × Int) → List (ByteArray × Int)
  | [], m => m
  | x :: l, m => cntL l (cntN m x)

theorem cntN_ok {m : List (ByteArray × Int)} {B : Int} {x : ByteArray} (h : cntB B m) (hB : 0 ≤ B ∧ B ≤ 1000000) : cntB (B + 1) (cntN m x) ∧ (∀ y, (V.mg (cntN m x) y).isSome = (decide (y = x) || (V.mg m y).isSome)) ∧ (cntN m x).length = if V.mg m x = none then m.length + 1 else m.length := by
  refine ⟨fun y v hv => ?_, fun y => ?_, mp_len _ _ _⟩
  · unfold cntN at hv
    rw [mg_mp] at hv
    by_cases e : y = x
    · rw [if_pos e] at hv
      cases hg : V.mg m x with
      | none =>
        rw [hg] at hv
        have : v = 1 := by injection hv with q; rw [← q]; rfl
        omega
      | some c =>
        rw [hg] at hv
        have hc := h x c hg
        have : v = c + 1 := by
          injection hv with q
          rw [← q, Option.getD_some, w_eq (by omega) (by omega)]
        omega
    · rw [if_neg e] at hv
      have := h y v hv
      omega
  · unfold cntN
    rw [mg_mp]
    by_cases e : y = x <;> simp [e]

theorem cntL_ok : ∀ (l : List ByteArray) (m : List (ByteArray × Int)) (B : Int), cntB B m → 0 ≤ B → B + (l.length : Int) ≤ 1000000 → cntB (B + (l.length : Int)) (cntL l m) ∧ (∀ y, (V.mg (cntL l m) y).isSome = (inB y l || (V.mg m y).isSome)) ∧
    (cntL l m).length ≤ m.length + l.length ∧ ((cntL l m).length = m.length + l.length ↔ l.Nodup ∧ ∀ x, x ∈ l → V.mg m x = none)
  | [], m, B, h, h0, hB => by
    refine ⟨by simpa [cntL] using h, fun y => by simp [cntL, inB], by simp [cntL], by simp [cntL]⟩
  | x :: l, m, B, h, h0, hB => by
    rw [List.length_cons] at hB
    obtain ⟨a1, a2, a3⟩ := cntN_ok (x := x) h ⟨h0, by omega⟩
    obtain ⟨i1, i2, i3, i4⟩ := cntL_ok l (cntN m x) (B + 1) a1 (by omega) (by omega)
    rw [cntL]
    refine ⟨?_, fun y => ?_, ?_, ?_⟩
    · have : B + 1 + (l.length : Int) = B + ((x :: l).length : Int) := by rw [List.length_cons]; omega
      rw [← this]; exact i1
    · rw [i2, a2, inB_cons]
      cases decide (y = x) <;> cases inB y l <;> cases (V.mg m y).isSome <;> rfl
    · rw [List.length_cons]
      by_cases g : V.mg m x = none
      · rw [if_pos g] at a3; omega
      · rw [if_neg g] at a3; omega
    · rw [List.length_cons]
      by_cases g : V.mg m x = none
      · rw [if_pos g] at a3
        have : ((cntL l (cntN m x)).length = m.length + (l.length + 1)) ↔ (cntL l (cntN m x)).length = (cntN m x).length + l.length := by omega
        rw [this, i4]
        have hz : ∀ y, V.mg (cntN m x) y = none ↔ (¬ y = x ∧ V.mg m y = none) := fun y => by
          have := a2 y
          cases q : V.mg (cntN m x) y with
          | none =>
            rw [q] at this
            simp only [Option.isSome_none] at this
            have t := this.symm
            rw [Bool.or_eq_false_iff] at t
            exact ⟨fun _ => ⟨by simpa using t.1, by simpa using t.2⟩, fun _ => rfl⟩
          | some v =>
            rw [q] at this
            refine ⟨fun c => (by cases c), fun ⟨c1, c2⟩ => ?_⟩
            rw [c2] at this
            simp [c1] at this
        rw [List.nodup_cons]
        constructor
        · rintro ⟨n1, n2⟩
          refine ⟨⟨fun hx => ((hz x).1 (n2 x hx)).1 rfl, n1⟩, fun y hy => ?_⟩
          rcases List.mem_cons.1 hy with rfl | hy
          · exact g
          · exact ((hz y).1 (n2 y hy)).2
        · rintro ⟨⟨n1, n2⟩, n3⟩
          exact ⟨n2, fun y hy => (hz y).2 ⟨fun e => n1 (e ▸ hy), n3 y (List.mem_cons_of_mem _ hy)⟩⟩
      · rw [if_neg g] at a3
        constructor
        · intro h; omega
        · rintro ⟨_, n3⟩
          exact absurd (n3 x (List.mem_cons_self ..)) g

theorem yard_l1 : ∀ (l : List T_api_Machine) (k : Nat) (m : List (ByteArray × Int)), yard_Check.l1 l k m = some (cntL (l.map (·.Name)) m)
  | [], k, m => rfl
  | x :: l, k, m => by rw [yard_Check.l1, yard_l1 l]; rfl
theorem yard_l2 : ∀ (l : List T_api_Bound) (k : Nat) (m : List (ByteArray × Int)), yard_Check.l2 l k m = some (cntL (l.map (·.Pod.Name)) m)
  | [], k, m => rfl
  | x :: l, k, m => by rw [yard_Check.l2, yard_l2 l]; rfl

theorem cnt_len {l : List ByteArray} (h : l.length ≤ 1000) : (decide (((cntL l []).length : Int) < (l.length : Int))) = !decide l.Nodup := by
  obtain ⟨_, _, h3, h4⟩ := cntL_ok l [] 0 (fun x v hv => by cases hv) (by omega) (by omega)
  rw [List.length_nil, Nat.zero_add] at h3 h4
  by_cases g : l.Nodup
  · have : (cntL l []).length = l.length := h4.2 ⟨g, fun _ _ => rfl⟩
    simp [g, this]
  · have : ¬ (cntL l []).length = l.length := fun e => g (h4.1 e).1
    simp [g]; omega
theorem cnt_has {l : List ByteArray} (h : l.length ≤ 1000) (x : ByteArray) : (((V.mg (cntL l []) x).getD (0 : Int)) == (0 : Int)) = !inB x l := by
  obtain ⟨h1, h2, _, _⟩ := cntL_ok l [] 0 (fun x v hv => by cases hv) (by omega) (by omega)
  have := h2 x
  rw [show V.mg ([] : List (ByteArray × Int)) x = none from rfl, Option.isSome_none, Bool.or_false] at this
  rw [← this]
  cases q : V.mg (cntL l []) x with
  | none => rfl
  | some v =>
    have := h1 x v q
    have h0 : ¬ v = 0 := by omega
    simp [h0]

/-! what is first -/
theorem first_all {len : Nat} {q : Nat → Bool} {r : Int} (h : firstAt len (fun k => q k = false) r) : (r != (-1 : Int)) = !allN len q := by
  rcases h with ⟨k, rfl, h1, h2, h3⟩ | ⟨rfl, h1⟩
  · rw [allN_not.2 ⟨k, h1, h2⟩]
    have : ¬ (k : Int) = -1 := by omega
    simp [this]
  · rw [allN_iff.2 fun k hk => by simpa using h1 k hk]; rfl

def m0 : T_api_Machine := ⟨⟨#[]⟩, ⟨#[]⟩, r0, [], [], false⟩
def p0 : T_api_Pod := ⟨⟨#[]⟩, r0, [], [], [], [], [], [], false, [], 0, 0, ⟨#[]⟩, false, false, false⟩
def b0 : T_api_Bound := ⟨p0, ⟨#[]⟩⟩
def msQ (ms : List T_api_Machine) (k : Nat) : Bool := !decide ((ms.getD k m0).Name = ⟨#[]⟩) && machB (ms.getD k m0)
def bsQ (bs : List T_api_Bound) (k : Nat) : Bool := podB (bs.getD k b0).Pod
def onQ (ms : List T_api_Machine) (bs : List T_api_Bound) (k : Nat) : Bool := decide ((bs.getD k b0).On = ⟨#[]⟩) || inB (bs.getD k b0).On (ms.map (·.Name))

def checkB (ms : List T_api_Machine) (bs : List T_api_Bound) : Int :=
  if allN ms.length (msQ ms) = true then
    (if allN bs.length (bsQ bs) = true then
      (if (ms.map (·.Name)).Nodup ∧ (bs.map (·.Pod.Name)).Nodup then (if allN bs.length (onQ ms bs) = true then 0 else 16) else 15) else 12) else 12

theorem first_2 {ms : List T_api_Machine} (hl : ms.length ≤ 1000) (hm : ∀ k (h : k < ms.length), LM ms[k]) : yard_Check_1_yard_Check_2 (ms.length : Int) ms = some (!allN ms.length (msQ ms)) := by
  unfold yard_Check_1_yard_Check_2 yard_first_yard_Check_2
  obtain ⟨r, h1, h2⟩ := loopF (F := fun n i => yard_first_yard_Check_2.l1 (ms.length : Int) ms n i) (len := ms.length) (p := fun k => msQ ms k = false) (by omega) (fun n k hk => by
    rw [yard_first_yard_Check_2.l1, if_pos (by simp; omega), wk1 (by omega)]
    unfold yard_Check_2 msQ
    rw [glk hk, getD_d hk]
    simp only [Option.bind_some, seq_eq, spec_Mach_eq (hm k hk)]
    cases decide (ms[k].Name = ⟨#[]⟩) <;> cases machB ms[k]
    · exact .inl ⟨rfl, rfl⟩
    · exact .inr ⟨rfl, by simp⟩
    · exact .inl ⟨rfl, rfl⟩
    · exact .inl ⟨rfl, rfl⟩) (fun n => by rw [yard_first_yard_Check_2.l1, if_neg (by simp)])
  rw [h1]
  simp only [Option.bind_some, first_all h2]
theorem first_3 {bs : List T_api_Bound} (hl : bs.length ≤ 1000) (hm : ∀ k (h : k < bs.length), LP bs[k].Pod) : yard_Check_1_yard_Check_3 (bs.length : Int) bs = some (!allN bs.length (bsQ bs)) := by
  unfold yard_Check_1_yard_Check_3 yard_first_yard_Check_3
  obtain ⟨r, h1, h2⟩ := loopF (F := fun n i => yard_first_yard_Check_3.l1 (bs.length : Int) bs n i) (len := bs.length) (p := fun k => bsQ bs k = false) (by omega) (fun n k hk => by
    rw [yard_first_yard_Check_3.l1, if_pos (by simp; omega), wk1 (by omega)]
    unfold yard_Check_3 bsQ
    rw [glk hk, getD_d hk]
    simp only [Option.bind_some, spec_Pod_eq (hm k hk)]
    cases podB bs[k].Pod
    · exact .inl ⟨rfl, rfl⟩
    · exact .inr ⟨rfl, by simp⟩) (fun n => by rw [yard_first_yard_Check_3.l1, if_neg (by simp)])
  rw [h1]
  simp only [Option.bind_some, first_all h2]
theorem first_4 {ms : List T_api_Machine} {bs : List T_api_Bound} (hn : ms.length ≤ 1000) (hl : bs.length ≤ 1000) : yard_Check_1_yard_Check_4 (bs.length : Int) bs (cntL (ms.map (·.Name)) []) = some (!allN bs.length (onQ ms bs)) := by
  unfold yard_Check_1_yard_Check_4 yard_first_yard_Check_4
  obtain ⟨r, h1, h2⟩ := loopF (F := fun n i => yard_first_yard_Check_4.l1 (bs.length : Int) bs (cntL (ms.map (·.Name)) []) n i) (len := bs.length) (p := fun k => onQ ms bs k = false) (by omega) (fun n k hk => by
    rw [yard_first_yard_Check_4.l1, if_pos (by simp; omega), wk1 (by omega)]
    unfold yard_Check_4 onQ
    rw [glk hk, getD_d hk]
    simp only [Option.bind_some, seq_eq, cnt_has (l := ms.map (·.Name)) (by simpa using hn)]
    cases decide (bs[k].On = ⟨#[]⟩) <;> cases inB bs[k].On (ms.map (·.Name))
    · exact .inl ⟨rfl, rfl⟩
    · exact .inr ⟨rfl, by simp⟩
    · exact .inr ⟨rfl, by simp⟩
    · exact .inr ⟨rfl, by simp⟩) (fun n => by rw [yard_first_yard_Check_4.l1, if_neg (by simp)])
  rw [h1]
  simp only [Option.bind_some, first_all h2]

theorem yard_Check_eq {ms : List T_api_Machine} {bs : List T_api_Bound} (hy : LY ms bs) : yard_Check ms bs = some (checkB ms bs) := by
  have hnm := hy.nm
  have hnb := hy.nb
  unfold yard_Check checkB
  rw [if_neg (by simp; omega), first_2 (by omega) hy.ms, first_3 (by omega) (fun k h => (hy.bs k h).1), yard_l1, yard_l2]
  simp only [Option.bind_some]
  rw [first_4 (by omega) (by omega)]
  have c1 := cnt_len (l := ms.map (·.Name)) (by simp; omega)
  have c2 := cnt_len (l := bs.map (·.Pod.Name)) (by simp; omega)
  rw [List.length_map] at c1 c2
  rw [c1, c2]
  cases allN ms.length (msQ ms); · rfl
  cases allN bs.length (bsQ bs); · rfl
  by_cases n1 : (ms.map (·.Name)).Nodup <;> by_cases n2 : (bs.map (·.Pod.Name)).Nodup <;> cases allN bs.length (onQ ms bs) <;> simp [n1, n2]

theorem nodup_iff {l : List ByteArray} : l.Nodup ↔ ∀ i j (hi : i < l.length) (hj : j < l.length), i < j → l[i] ≠ l[j] := List.pairwise_iff_getElem

theorem find_self {ms : List T_api_Machine} (hl : ms.length ≤ 1000) {k : Nat} (hk : k < ms.length) : ∃ r, ref09_Find ms ms[k].Name = some r ∧ ((r != (k : Int)) = true ↔ ∃ j, ∃ hj : j < ms.length, j < k ∧ ms[j].Name = ms[k].Name) := by
  obtain ⟨r, hr, hf⟩ := Find9_eq ms ms[k].Name (by omega)
  refine ⟨r, hr, ?_⟩
  rcases hf with ⟨q, rfl, b, ⟨c, d⟩, e⟩ | ⟨rfl, b⟩
  · have hqk : q ≤ k := Nat.le_of_not_lt fun h => e k h ⟨hk, rfl⟩
    constructor
    · intro h
      have : ¬ (q : Int) = (k : Int) := by simpa using h
      exact ⟨q, b, by omega, d⟩
    · rintro ⟨j, hj, hjk, hje⟩
      have : ¬ (q : Int) = (k : Int) := fun h => e j (by omega) ⟨hj, hje⟩
      simpa using this
  · exact absurd ⟨hk, rfl⟩ (b k hk)
theorem place_self {bs : List T_api_Bound} (hl : bs.length ≤ 1000) {k : Nat} (hk : k < bs.length) : ∃ r, ref09_Place bs bs[k].Pod.Name = some r ∧ ((r != (k : Int)) = true ↔ ∃ j, ∃ hj : j < bs.length, j < k ∧ bs[j].Pod.Name = bs[k].Pod.Name) := by
  obtain ⟨r, hr, hf⟩ := Place9_eq bs bs[k].Pod.Name (by omega)
  refine ⟨r, hr, ?_⟩
  rcases hf with ⟨q, rfl, b, ⟨c, d⟩, e⟩ | ⟨rfl, b⟩
  · have hqk : q ≤ k := Nat.le_of_not_lt fun h => e k h ⟨hk, rfl⟩
    constructor
    · intro h
      have : ¬ (q : Int) = (k : Int) := by simpa using h
      exact ⟨q, b, by omega, d⟩
    · rintro ⟨j, hj, hjk, hje⟩
      have : ¬ (q : Int) = (k : Int) := fun h => e j (by omega) ⟨hj, hje⟩
      simpa using this
  · exact absurd ⟨hk, rfl⟩ (b k hk)

theorem ref09_Check_eq {ms : List T_api_Machine} {bs : List T_api_Bound} (hy : LY ms bs) : ref09_Check ms bs = some (checkB ms bs) := by
  classical
  have hnm := hy.nm
  have hnb := hy.nb
  unfold ref09_Check checkB
  rw [if_neg (by simp; omega)]
  have l1 : ref09_Check.l1 ms FU 0 = some (if allN ms.length (msQ ms) = true then Out.go () else Out.ret 12) := by
    refine idxAll (F := fun n i => ref09_Check.l1 ms n i) (len := ms.length) (msQ ms) (by omega) (fun n k hk => ?_) (fun n => by rw [ref09_Check.l1, if_neg dnl])
    rw [ref09_Check.l1, if_pos (dlt hk), glk hk, wk1 (by omega)]
    unfold msQ
    simp only [Option.bind_some, seq_eq, ref07_Mach_eq (hy.ms k hk), getD_d hk]
    cases decide (ms[k].Name = ⟨#[]⟩) <;> cases machB ms[k] <;> rfl
  have l2 : ref09_Check.l2 bs FU 0 = some (if allN bs.length (bsQ bs) = true then Out.go () else Out.ret 12) := by
    refine idxAll (F := fun n i => ref09_Check.l2 bs n i) (len := bs.length) (bsQ bs) (by omega) (fun n k hk => ?_) (fun n => by rw [ref09_Check.l2, if_neg dnl])
    rw [ref09_Check.l2, if_pos (dlt hk), glk hk, wk1 (by omega)]
    unfold bsQ
    simp only [Option.bind_some, ref07_Pod_eq (hy.bs k hk).1, getD_d hk]
    cases podB bs[k].Pod <;> rfl
  have l3 : ref09_Check.l3 ms FU 0 = some (if allN ms.length (fun k => !decide (∃ j, ∃ hj : j < ms.length, ∃ hk : k < ms.length, j < k ∧ ms[j].Name = ms[k].Name)) = true then Out.go () else Out.ret 15) := by
    refine idxAll (F := fun n i => ref09_Check.l3 ms n i) (len := ms.length) (fun k => !decide (∃ j, ∃ hj : j < ms.length, ∃ hk : k < ms.length, j < k ∧ ms[j].Name = ms[k].Name)) (by omega) (fun n k hk => ?_) (fun n => by rw [ref09_Check.l3, if_neg dnl])
    obtain ⟨r, hr, hf⟩ := find_self (by omega) hk
    rw [ref09_Check.l3, if_pos (dlt hk), glk hk, wk1 (by omega)]
    simp only [Option.bind_some, hr]
    by_cases c : ∃ j, ∃ hj : j < ms.length, ∃ hk : k < ms.length, j < k ∧ ms[j].Name = ms[k].Name
    · obtain ⟨j, hj, hk', a, b⟩ := c
      rw [if_pos (hf.2 ⟨j, hj, a, b⟩), if_neg]
      simp only [Bool.not_eq_true', decide_eq_false_iff_not, Classical.not_not]
      exact ⟨j, hj, hk', a, b⟩
    · rw [if_neg (fun q => c (by obtain ⟨j, hj, a, b⟩ := hf.1 q; exact ⟨j, hj, hk, a, b⟩)), if_pos (by simpa using c)]
  have l4 : ref09_Check.l4 bs FU 0 = some (if allN bs.length (fun k => !decide (∃ j, ∃ hj : j < bs.length, ∃ hk : k < bs.length, j < k ∧ bs[j].Pod.Name = bs[k].Pod.Name)) = true then Out.go () else Out.ret 15) := by
    refine idxAll (F := fun n i => ref09_Check.l4 bs n i) (len := bs.length) (fun k => !decide (∃ j, ∃ hj : j < bs.length, ∃ hk : k < bs.length, j < k ∧ bs[j].Pod.Name = bs[k].Pod.Name)) (by omega) (fun n k hk => ?_) (fun n => by rw [ref09_Check.l4, if_neg dnl])
    obtain ⟨r, hr, hf⟩ := place_self (by omega) hk
    rw [ref09_Check.l4, if_pos (dlt hk), glk hk, wk1 (by omega)]
    simp only [Option.bind_some, hr]
    by_cases c : ∃ j, ∃ hj : j < bs.length, ∃ hk : k < bs.length, j < k ∧ bs[j].Pod.Name = bs[k].Pod.Name
    · obtain ⟨j, hj, hk', a, b⟩ := c
      rw [if_pos (hf.2 ⟨j, hj, a, b⟩), if_neg]
      simp only [Bool.not_eq_true', decide_eq_false_iff_not, Classical.not_not]
      exact ⟨j, hj, hk', a, b⟩
    · rw [if_neg (fun q => c (by obtain ⟨j, hj, a, b⟩ := hf.1 q; exact ⟨j, hj, hk, a, b⟩)), if_pos (by simpa using c)]
  have l5 : ref09_Check.l5 ms bs FU 0 = some (if allN bs.length (onQ ms bs) = true then Out.go () else Out.ret 16) := by
    refine idxAll (F := fun n i => ref09_Check.l5 ms bs n i) (len := bs.length) (onQ ms bs) (by omega) (fun n k hk => ?_) (fun n => by rw [ref09_Check.l5, if_neg dnl])
    rw [ref09_Check.l5, if_pos (dlt hk), glk hk, wk1 (by omega)]
    obtain ⟨r, hr, hf⟩ := Find9_eq ms bs[k].On (by omega)
    unfold onQ
    simp only [Option.bind_some, seq_eq, hr, getD_d hk]
    have hmem : decide (r < (0 : Int)) = !inB bs[k].On (ms.map (·.Name)) := by
      rcases hf with ⟨q, rfl, b, ⟨c, d⟩, e⟩ | ⟨rfl, b⟩
      · have : bs[k].On ∈ ms.map (·.Name) := List.mem_map.2 ⟨ms[q], List.getElem_mem _, d⟩
        rw [inB_iff.2 this]
        simp
      · have : ¬ bs[k].On ∈ ms.map (·.Name) := fun h => by
          obtain ⟨m, h1, h2⟩ := List.mem_map.1 h
          obtain ⟨i, hi, rfl⟩ := List.getElem_of_mem h1
          exact b i hi ⟨hi, h2⟩
        rw [show inB bs[k].On (ms.map (·.Name)) = false from by cases q : inB bs[k].On (ms.map (·.Name)) with | false => rfl | true => exact absurd (inB_iff.1 q) this]
        rfl
    rw [hmem]
    cases decide (bs[k].On = ⟨#[]⟩) <;> cases inB bs[k].On (ms.map (·.Name)) <;> rfl
  have n1 : (allN ms.length (fun k => !decide (∃ j, ∃ hj : j < ms.length, ∃ hk : k < ms.length, j < k ∧ ms[j].Name = ms[k].Name)) = true) ↔ (ms.map (·.Name)).Nodup := by
    rw [allN_iff, nodup_iff]
    constructor
    · intro h i j hi hj hij e
      rw [List.length_map] at hi hj
      have := h j hj
      simp only [Bool.not_eq_true', decide_eq_false_iff_not] at this
      exact this ⟨i, hi, hj, hij, by simpa using e⟩
    · intro h k hk
      simp only [Bool.not_eq_true', decide_eq_false_iff_not]
      rintro ⟨j, hj, hk', hjk, e⟩
      exact h j k (by simpa using hj) (by simpa using hk) hjk (by simpa using e)
  have n2 : (allN bs.length (fun k => !decide (∃ j, ∃ hj : j < bs.length, ∃ hk : k < bs.length, j < k ∧ bs[j].Pod.Name = bs[k].Pod.Name)) = true) ↔ (bs.map (·.Pod.Name)).Nodup := by
    rw [allN_iff, nodup_iff]
    constructor
    · intro h i j hi hj hij e
      rw [List.length_map] at hi hj
      have := h j hj
      simp only [Bool.not_eq_true', decide_eq_false_iff_not] at this
      exact this ⟨i, hi, hj, hij, by simpa using e⟩
    · intro h k hk
      simp only [Bool.not_eq_true', decide_eq_false_iff_not]
      rintro ⟨j, hj, hk', hjk, e⟩
      exact h j k (by simpa using hj) (by simpa using hk) hjk (by simpa using e)
  rw [l1, l2, l3, l4, l5]
  simp only [n1, n2]
  cases allN ms.length (msQ ms); · rfl
  cases allN bs.length (bsQ bs); · rfl
  by_cases k1 : (ms.map (·.Name)).Nodup <;> by_cases k2 : (bs.map (·.Pod.Name)).Nodup <;> cases allN bs.length (onQ ms bs) <;> simp [k1, k2, Out.on]
end Go.Proofs.Ytcblmlkpcplkfaa.M

/-
  Printed by a program of this session out of the loaded functions: models and their proofs. Own text.
-/
import Derived.Test.YtmpkpnclmihdnaaGreatPRef1
/-
  Plain laws: why a pod cannot run on a machine, told alike by the program and the document. Own text.
-/
namespace Go.Proofs.YtmpkpnclmihdnaaGreat.M
open Go Go.Proofs Go.Proofs.YtmpkpnclmihdnaaGreat.V
set_option linter.unusedVariables false

/-! right machines and pods, as far as it matters here -/
structure GM (m : T_api_Machine) : Prop where
  lm : LM m
  so : sortedL m.Labels
structure GP (p : T_api_Pod) : Prop where
  lp : LP p
  labels : sortedL p.Labels
  select : sortedL p.Select
  terms : ∀ k (h : k < p.Terms.length), ref05_RightTerm p.Terms[k] = some true
  skew : p.Spread.length ≠ 0 → 1 ≤ p.Skew ∧ p.Skew ≤ 100
  ports : p.Ports.Pairwise (· < ·)

theorem gm_of {m : T_api_Machine} (h : LM m) (hr : ref07_RightMachine m = some true) : GM m := by
  refine ⟨h, ?_⟩
  obtain ⟨a, ha⟩ := maybe7_tot h.name
  obtain ⟨b, hb⟩ := maybe7_tot h.group
  obtain ⟨c, hc⟩ := Right5_tot h.labels
  unfold ref07_RightMachine at hr
  rw [ref04_Right_eq, ha, hb, hc] at hr
  refine sorted_of h.labels ?_
  rw [hc]
  cases c with
  | true => rfl
  | false => cases a <;> cases b <;> cases resOK m.Has <;> simp at hr

theorem gp_of {p : T_api_Pod} (h : LP p) (hr : ref07_RightPod p = some true) : GP p := by
  have hn := h.name
  have hnt := h.nterms
  obtain ⟨w, hw⟩ := Word_tot (s := p.Name) (by omega)
  obtain ⟨o, ho⟩ := maybe7_tot h.owner
  obtain ⟨c1, hc1⟩ := Right5_tot h.labels
  obtain ⟨c2, hc2⟩ := Right5_tot h.select
  unfold ref07_RightPod at hr
  rw [ref04_Right_eq, hw, ho, hc1, hc2] at hr
  simp only [Option.bind_some] at hr
  obtain ⟨c3, e3, hr⟩ := Option.bind_eq_some_iff.1 hr
  obtain ⟨c4, e4, hr⟩ := Option.bind_eq_some_iff.1 hr
  obtain ⟨c5, e5, hr⟩ := Option.bind_eq_some_iff.1 hr
  split at hr
  · cases hr
  obtain ⟨o1, e6, hr⟩ := Option.bind_eq_some_iff.1 hr
  have hterms : ∀ k (hk : k < p.Terms.length), o1 = Out.go () → ref05_RightTerm p.Terms[k] = some true := by
    intro k hk ho1
    rcases loopI (F := fun n i => ref07_RightPod.l1 p n i) (Q := fun r => r = false) (S := fun k => ∀ h : k < p.Terms.length, ref05_RightTerm p.Terms[k] = some true) (len := p.Terms.length) (by omega) (fun n k hk => by
        rw [ref07_RightPod.l1, if_pos (dlt hk), glk hk, wk1 (by omega)]
        simp only [Option.bind_some]
        obtain ⟨b, hb⟩ := Term5_tot (h.terms k hk)
        rw [hb]
        cases b with
        | false => exact .inl ⟨false, rfl, rfl⟩
        | true => exact .inr ⟨rfl, fun _ => hb⟩) (fun n => by rw [ref07_RightPod.l1, if_neg dnl]) with ⟨r, h1, _⟩ | ⟨_, h2⟩
    · rw [h1, ho1] at e6; cases e6
    · exact h2 k hk hk
  cases o1 with
  | ret r =>
    simp only [Out.on] at hr
    have hrl : r = false := by
      rcases loopI (F := fun n i => ref07_RightPod.l1 p n i) (Q := fun r => r = false) (S := fun k => True) (len := p.Terms.length) (by omega) (fun n k hk => by
          rw [ref07_RightPod.l1, if_pos (dlt hk), glk hk, wk1 (by omega)]
          simp only [Option.bind_some]
          obtain ⟨b, hb⟩ := Term5_tot (h.terms k hk)
          rw [hb]
          cases b with
          | false => exact .inl ⟨false, rfl, rfl⟩
          | true => exact .inr ⟨rfl, trivial⟩) (fun n => by rw [ref07_RightPod.l1, if_neg dnl]) with ⟨r', h1, h2⟩ | ⟨h1, _⟩
      · rw [h1] at e6
        injection e6 with e6
        injection e6 with e6
        rw [← e6]; exact h2
      · rw [h1] at e6; cases e6
    rw [hrl] at hr; cases hr
  | go u =>
    simp only [Out.on] at hr
    obtain ⟨o2, e7, hr⟩ := Option.bind_eq_some_iff.1 hr
    have hnp := h.nports
    have hl2 : (o2 = Out.go () ∧ ∀ k (hk : k < p.Ports.length), 0 < k → p.Ports[k - 1]'(by omega) < p.Ports[k]) ∨ o2 = Out.ret false := by
      rcases loopI (F := fun n i => ref07_RightPod.l2 p n i) (Q := fun r => r = false) (S := fun k => ∀ (hk : k < p.Ports.length), 0 < k → p.Ports[k - 1]'(by omega) < p.Ports[k]) (len := p.Ports.length) (by omega) (fun n k hk => by
          rw [ref07_RightPod.l2, if_pos (dlt hk), glk hk, wk1 (by omega)]
          simp only [Option.bind_some, ref07_in]
          by_cases h0 : 0 < k
          · have h0' : (decide ((k : Int) > 0)) = true := by simp; omega
            simp only [h0', if_true, glp hk h0 (by omega), Option.bind_some]
            cases (decide (p.Ports[k] ≥ (1 : Int)) && decide (p.Ports[k] ≤ (65535 : Int)))
            · exact .inl ⟨false, rfl, rfl⟩
            · by_cases hle : p.Ports[k] ≤ p.Ports[k - 1]
              · rw [decide_eq_true hle]; exact .inl ⟨false, rfl, rfl⟩
              · rw [decide_eq_false hle]; exact .inr ⟨rfl, fun _ _ => by omega⟩
          · have h0' : (decide ((k : Int) > 0)) = false := by simp; omega
            simp only [h0', Bool.false_eq_true, if_false, Option.bind_some]
            cases (decide (p.Ports[k] ≥ (1 : Int)) && decide (p.Ports[k] ≤ (65535 : Int)))
            · exact .inl ⟨false, rfl, rfl⟩
            · exact .inr ⟨rfl, fun _ q => absurd q h0⟩) (fun n => by rw [ref07_RightPod.l2, if_neg dnl]) with ⟨r', h1, h2⟩ | ⟨h1, h2⟩
      · rw [h1] at e7; injection e7 with e7; rw [← e7, h2]; exact .inr rfl
      · rw [h1] at e7; injection e7 with e7; exact .inl ⟨e7.symm, fun k hk h0 => h2 k hk hk h0⟩
    rcases hl2 with ⟨rfl, hinc⟩ | rfl
    · simp only at hr
      obtain ⟨c7, e8, hr⟩ := Option.bind_eq_some_iff.1 hr
      split at hr
      · cases hr
      · rename_i hc7
        have hskew : p.Spread.length ≠ 0 → 1 ≤ p.Skew ∧ p.Skew ≤ 100 := by
          intro hne
          have hc7' : c7 = false := by simpa using hc7
          rw [hc7'] at e8
          split at e8
          · cases e8
          · rw [if_pos (by rw [decide_eq_true_eq]; omega)] at e8
            unfold ref07_in at e8
            simp only [Option.bind_some, Option.some.injEq, Bool.not_eq_false', Bool.and_eq_true, decide_eq_true_eq] at e8
            omega
        have h1 : c1 = true := by
          cases c1 with
          | true => rfl
          | false =>
            exfalso
            simp only [Bool.false_eq_true, if_false, Option.bind_some] at hr
            cases hr
        have h2 : c2 = true := by
          cases c2 with
          | true => rfl
          | false =>
            exfalso
            rw [h1] at hr
            simp only [Bool.false_eq_true, if_false, if_true, Option.bind_some] at hr
            cases hr
        exact ⟨h, sorted_of h.labels (by rw [hc1, h1]), sorted_of h.select (by rw [hc2, h2]), fun k hk => hterms k hk rfl, hskew, by
          rw [List.pairwise_iff_getElem]
          have key : ∀ (d i j : Nat) (hi : i < p.Ports.length) (hj : j < p.Ports.length), j = i + d + 1 → p.Ports[i] < p.Ports[j] := by
            intro d
            induction d with
            | zero => intro i j hi hj e; subst e; exact hinc (i + 1) hj (by omega)
            | succ d ih =>
              intro i j hi hj e
              have h1 := ih i (j - 1) hi (by omega) (by omega)
              have h2 := hinc j hj (by omega)
              omega
          intro i j hi hj hij
          exact key (j - i - 1) i j hi hj (by omega)⟩
    · cases hr

theorem gms {ms : List T_api_Machine} {bs : List T_api_Bound} (hy : LY ms bs) (hr : RY ms bs) : ∀ m, m ∈ ms → GM m := fun m h => by
  obtain ⟨i, hi, rfl⟩ := List.getElem_of_mem h; exact gm_of (hy.ms i hi) (hr.rm i hi).2
theorem gbs {ms : List T_api_Machine} {bs : List T_api_Bound} (hy : LY ms bs) (hr : RY ms bs) : ∀ b, b ∈ bs → GP b.Pod := fun m h => by
  obtain ⟨i, hi, rfl⟩ := List.getElem_of_mem h; exact gp_of (hy.bs i hi).1 (hr.rb i hi)

/-! whether it suits -/
theorem Place_ref {m : T_api_Machine} {p : T_api_Pod} (hm : GM m) (hp : GP p) : ref10_Place m p = some (placeV m p) := by
  rw [← (place_V hm.lm hp.lp).1]
  have h1 := hm.lm.labels.1
  have h2 := hp.lp.select.1
  have h3 := hp.lp.nterms
  have h4 := hm.lm.taints.1
  have h5 := hp.lp.bears.1
  unfold ref10_Place suit_Place
  rw [Has_same (by omega) (by omega) hm.so, All_same hm.lm.labels hm.so (by omega) (fun k hk => ⟨hp.lp.terms k hk, hp.terms k hk⟩), Allows_same _ _ (by omega) (by omega)]

theorem Others_ref (bs : List T_api_Bound) (name : ByteArray) (hl : bs.length ≤ 1000) : ref10_Others bs name = some (othersS bs name) := by
  unfold ref10_Others othersS
  have := idxFoldL (F := fun n s i => ref10_Others.l1 bs name n s i) (l := bs) (fun acc x => if decide (x.Pod.Name ≠ name) = true then acc ++ [x] else acc) id (fun k s => s.length ≤ k) (by omega) (fun n s k hk hI => by
    rw [ref10_Others.l1, if_pos (dlt hk), glk hk, wk1 (by omega)]
    simp only [Option.bind_some, seq_eq]
    by_cases h : bs[k].Pod.Name = name
    · rw [if_neg (by simp [h]), if_neg (by simp [h])]; exact ⟨rfl, by omega⟩
    · rw [if_pos (by simp [h]), if_pos (by simp [h]), ap_ok (by omega) (by simp; omega)]; exact ⟨rfl, by simp; omega⟩) (fun n s => by rw [ref10_Others.l1, if_neg dnl]; rfl) [] (by simp)
  rw [show ref10_Others.l1 bs name FU [] 0 = _ from this]
  simp only [Option.bind_some, id]
  congr 1
  have key : ∀ (l acc : List T_api_Bound), l.foldl (fun acc x => if decide (x.Pod.Name ≠ name) = true then acc ++ [x] else acc) acc = acc ++ l.filter fun b => decide (b.Pod.Name ≠ name) := by
    intro l
    induction l with
    | nil => intro acc; simp
    | cons x l ih =>
      intro acc
      rw [List.foldl_cons, ih, List.filter_cons]
      split <;> simp
  rw [key, List.nil_append]

/-- Ports in order, that are in common. -/
theorem hit_mem : ∀ (a b : List Int), a.Pairwise (· < ·) → b.Pairwise (· < ·) → (hit a b = true ↔ ∃ x, x ∈ a ∧ x ∈ b) := by
  intro a b
  induction a, b using hit.induct with
  | case1 b => intro _ _; rw [hit]; simp
  | case2 a l => intro _ _; rw [hit_nil_r]; simp
  | case3 a l m => intro _ _; rw [hit, if_pos rfl]; simp
  | case4 a l b m h1 h2 ih =>
    intro ha hb
    rw [hit, if_neg h1, if_pos h2, ih (List.pairwise_cons.1 ha).2 hb]
    constructor
    · rintro ⟨x, h3, h4⟩; exact ⟨x, List.mem_cons_of_mem _ h3, h4⟩
    · rintro ⟨x, h3, h4⟩
      rcases List.mem_cons.1 h3 with rfl | h3
      · rcases List.mem_cons.1 h4 with h5 | h4
        · exact absurd h5 h1
        · have := (List.pairwise_cons.1 hb).1 x h4
          omega
      · exact ⟨x, h3, h4⟩
  | case5 a l b m h1 h2 ih =>
    intro ha hb
    rw [hit, if_neg h1, if_neg h2, ih ha (List.pairwise_cons.1 hb).2]
    constructor
    · rintro ⟨x, h3, h4⟩; exact ⟨x, h3, List.mem_cons_of_mem _ h4⟩
    · rintro ⟨x, h3, h4⟩
      rcases List.mem_cons.1 h4 with rfl | h4
      · rcases List.mem_cons.1 h3 with h5 | h3
        · exact absurd h5.symm h1
        · have := (List.pairwise_cons.1 ha).1 x h3
          omega
      · exact ⟨x, h3, h4⟩

def comB (p q : T_api_Pod) : Bool := q.Ports.any fun x => p.Ports.any fun y => decide (x = y)
theorem com_hit {p q : T_api_Pod} (hp : GP p) (hq : GP q) : comB p q = hit p.Ports q.Ports := by
  rw [Bool.eq_iff_iff, hit_mem _ _ hp.ports hq.ports]
  unfold comB
  simp only [List.any_eq_true, decide_eq_true_eq]
  constructor
  · rintro ⟨x, h1, y, h2, rfl⟩; exact ⟨x, h2, h1⟩
  · rintro ⟨x, h1, h2⟩; exact ⟨x, h2, x, h1, rfl⟩

theorem Room_ref {m : T_api_Machine} {bs : List T_api_Bound} {p : T_api_Pod} (hp : GP p) (hl : bs.length ≤ 1000) (hb : ∀ b, b ∈ bs → GP b.Pod) : ref10_Room m bs p = some (roomS m bs p) := by
  have hlo : (othersS bs p.Name).length ≤ 1000 := by
    have := List.length_filter_le (fun b : T_api_Bound => decide (b.Pod.Name ≠ p.Name)) bs
    unfold othersS; omega
  have hol := onS_len (othersS bs p.Name) m.Name
  unfold ref10_Room roomS
  rw [Others_ref bs p.Name hl]
  simp only [Option.bind_some]
  rw [Left9_eq m _ hlo]
  simp only [Option.bind_some]
  rw [Fits9_eq]
  simp only [Option.bind_some]
  have hcomm : (resOK p.Need && resOK (leftS m.Has (usedS (onS (othersS bs p.Name) m.Name))) && rle p.Need (leftS m.Has (usedS (onS (othersS bs p.Name) m.Name)))) = (resOK (leftS m.Has (usedS (onS (othersS bs p.Name) m.Name))) && resOK p.Need && rle p.Need (leftS m.Has (usedS (onS (othersS bs p.Name) m.Name)))) := by
    rw [Bool.and_comm (resOK p.Need)]
  rw [hcomm]
  cases (resOK (leftS m.Has (usedS (onS (othersS bs p.Name) m.Name))) && resOK p.Need && rle p.Need (leftS m.Has (usedS (onS (othersS bs p.Name) m.Name)))) with
  | false => rfl
  | true =>
    simp only [Bool.not_true, Bool.false_eq_true, if_false, if_true]
    rw [On9_eq _ _ hlo]
    simp only [Option.bind_some]
    have hgp : ∀ q, q ∈ onS (othersS bs p.Name) m.Name → GP q := fun q hq => by
      unfold onS othersS at hq
      obtain ⟨b, h1, rfl⟩ := List.mem_map.1 hq
      exact hb b (List.mem_filter.1 (List.mem_filter.1 h1).1).1
    generalize onS (othersS bs p.Name) m.Name = ps at *
    have hl1 := idxFindL (F := fun n i => ref10_Room.l1 p ps n i) (l := ps) (fun q => comB p q) (fun _ => (3 : Int)) (by omega) (fun n k hk => by
      rw [ref10_Room.l1, if_pos (dlt hk), wk1 (by omega)]
      have hpl := hp.lp.nports
      have hql := (hgp ps[k] (List.getElem_mem _)).lp.nports
      have hl2 := idxFindL (F := fun n i => ref10_Room.l2 p ps (k : Int) n i) (l := ps[k].Ports) (fun x => p.Ports.any fun y => decide (x = y)) (fun _ => Out.ret (3 : Int)) (by omega) (fun n j hj => by
        rw [ref10_Room.l2, glk hk]
        simp only [Option.bind_some]
        rw [if_pos (dlt hj), wk1 (by omega)]
        have hl3 := idxFindL (F := fun n i => ref10_Room.l3 p ps (k : Int) (j : Int) n i) (l := p.Ports) (fun y => decide (ps[k].Ports[j] = y)) (fun _ => Out.ret (Out.ret (3 : Int))) (by omega) (fun n i hi => by
          rw [ref10_Room.l3, if_pos (dlt hi), glk hk, wk1 (by omega)]
          simp only [Option.bind_some]
          rw [glk hj, glk hi]
          simp only [Option.bind_some]
          by_cases e : ps[k].Ports[j] = p.Ports[i] <;> simp [e]) (fun n => by rw [ref10_Room.l3, if_neg dnl])
        rw [show ref10_Room.l3 p ps (k : Int) (j : Int) FU 0 = _ from hl3]
        have e : (p.Ports.any fun y => decide (ps[k].Ports[j] = y)) = (p.Ports.find? fun y => decide (ps[k].Ports[j] = y)).isSome := by
          rw [Bool.eq_iff_iff, List.any_eq_true, List.find?_isSome]
        rw [e]
        cases p.Ports.find? fun y => decide (ps[k].Ports[j] = y) <;> rfl) (fun n => by rw [ref10_Room.l2, glk hk]; simp only [Option.bind_some]; rw [if_neg dnl])
      rw [show ref10_Room.l2 p ps (k : Int) FU 0 = _ from hl2]
      have e : comB p ps[k] = (ps[k].Ports.find? fun x => p.Ports.any fun y => decide (x = y)).isSome := by
        unfold comB
        rw [Bool.eq_iff_iff, List.any_eq_true, List.find?_isSome]
      rw [e]
      cases ps[k].Ports.find? fun x => p.Ports.any fun y => decide (x = y) <;> rfl) (fun n => by rw [ref10_Room.l1, if_neg dnl])
    rw [show ref10_Room.l1 p ps FU 0 = _ from hl1]
    have e : (ps.any fun q => hit p.Ports q.Ports) = (ps.find? fun q => comB p q).isSome := by
      rw [Bool.eq_iff_iff, List.any_eq_true, List.find?_isSome]
      constructor
      · rintro ⟨q, h1, h2⟩; exact ⟨q, h1, by rw [com_hit hp (hgp q h1)]; exact h2⟩
      · rintro ⟨q, h1, h2⟩; exact ⟨q, h1, by rw [← com_hit hp (hgp q h1)]; exact h2⟩
    rw [e]
    cases ps.find? fun q => comB p q <;> rfl

theorem Suits_ref {m : T_api_Machine} {bs : List T_api_Bound} {p : T_api_Pod} (hm : GM m) (hp : GP p) (hl : bs.length ≤ 1000) (hb : ∀ b, b ∈ bs → GP b.Pod) : ref10_Suits m bs p = some (suitV m bs p) := by
  unfold ref10_Suits suitV
  rw [Place_ref hm hp]
  simp only [Option.bind_some]
  by_cases h : placeV m p = 0
  · rw [if_neg (by simp [h]), if_pos h, Room_ref hp hl hb]; rfl
  · rw [if_pos (by simpa using h), if_neg h]

/-! zones -/
def zoneK : ByteArray := ⟨#[122, 111, 110, 101]⟩
/-- The zone of a machine, by its name. -/
def zoneS (ms : List T_api_Machine) (name : ByteArray) : Option ByteArray := match ms.find? (fun m => decide (m.Name = name)) with | some m => (if (getS m.Labels zoneK).2 = true then some (getS m.Labels zoneK).1 else none) | none => none

theorem find_of_first {ms : List T_api_Machine} {name : ByteArray} {r : Int} (h : firstAt ms.length (fun k => ∃ h : k < ms.length, ms[k].Name = name) r) :
    (∃ k : Nat, ∃ hk : k < ms.length, r = (k : Int) ∧ ms.find? (fun m => decide (m.Name = name)) = some ms[k]) ∨ (r = -1 ∧ ms.find? (fun m => decide (m.Name = name)) = none) := by
  rcases h with ⟨q, rfl, b, ⟨c, d⟩, e⟩ | ⟨rfl, b⟩
  · refine .inl ⟨q, c, rfl, ?_⟩
    rw [List.find?_eq_some_iff_getElem]
    refine ⟨by simpa using d, q, c, rfl, fun j hj => ?_⟩
    have : ¬ ms[j].Name = name := fun h => e j hj ⟨by omega, h⟩
    simpa using this
  · refine .inr ⟨rfl, List.find?_eq_none.2 fun m hm => ?_⟩
    obtain ⟨i, hi, rfl⟩ := List.getElem_of_mem hm
    have : ¬ ms[i].Name = name := fun h => b i hi ⟨hi, h⟩
    simpa using this

theorem zone11_eq {ms : List T_api_Machine} (name : ByteArray) (hl : ms.length ≤ 1000) (hm : ∀ m, m ∈ ms → GM m) : ref11_zone ms name = some (((zoneS ms name).getD ⟨#[]⟩), (zoneS ms name).isSome) := by
  unfold ref11_zone zoneS
  obtain ⟨r, hr, hf⟩ := Find9_eq ms name (by omega)
  rw [hr]
  simp only [Option.bind_some]
  rcases find_of_first hf with ⟨k, hk, rfl, h2⟩ | ⟨rfl, h2⟩
  · rw [if_neg (by simp), glk hk, h2]
    have := (hm ms[k] (List.getElem_mem _)).lm.labels.1
    simp only [Option.bind_some]
    rw [Get5_eq (by omega)]
    simp only [Option.bind_some]
    show some ((getS ms[k].Labels zoneK).1, (getS ms[k].Labels zoneK).2) = _
    cases h : (getS ms[k].Labels zoneK).2 with
    | true => rfl
    | false =>
      have : (getS ms[k].Labels zoneK).1 = ⟨#[]⟩ := by
        unfold getS at h ⊢
        split at h
        · cases h
        · rfl
      rw [this]; rfl
  · rw [h2]; rfl

end Go.Proofs.YtmpkpnclmihdnaaGreat.M
/-
  Plain laws: what bars a pod from a machine for other pods, told alike by the program and the document. Own text.
-/
namespace Go.Proofs.YtmpkpnclmihdnaaGreat.M
open Go Go.Proofs Go.Proofs.YtmpkpnclmihdnaaGreat.V
set_option linter.unusedVariables false

theorem idxFoldK {α σ τ : Type} {F : Nat → σ → Int → Option τ} {l : List α} (f : σ → α → σ) (h : σ → τ) (k0 : Nat)
    (hs : ∀ n s (k : Nat) (hk : k < l.length), k0 ≤ k → F (n + 1) s (k : Int) = F n (f s l[k]) ((k + 1 : Nat) : Int)) (he : ∀ n s, F (n + 1) s (l.length : Int) = some (h s)) :
    ∀ (m k n : Nat) (s : σ), l.length - k ≤ m → m < n → k ≤ l.length → k0 ≤ k → F n s (k : Int) = some (h ((l.drop k).foldl f s)) := by
  intro m
  induction m with
  | zero =>
    intro k n s h1 h2 h3 h4
    obtain ⟨n, rfl⟩ : ∃ q, n = q + 1 := ⟨n - 1, by omega⟩
    obtain rfl : k = l.length := by omega
    rw [he, List.drop_eq_nil_of_le (Nat.le_refl _)]; rfl
  | succ m ih =>
    intro k n s h1 h2 h3 h4
    obtain ⟨n, rfl⟩ : ∃ q, n = q + 1 := ⟨n - 1, by omega⟩
    by_cases hk : k < l.length
    · rw [hs n s k hk h4, ih (k + 1) n _ (by omega) (by omega) (by omega) (by omega), List.drop_eq_getElem_cons hk]; rfl
    · obtain rfl : k = l.length := by omega
      rw [he, List.drop_eq_nil_of_le (Nat.le_refl _)]; rfl

theorem zoneS_cons (x : T_api_Machine) (l : List T_api_Machine) (name : ByteArray) : zoneS (x :: l) name = if x.Name = name then (if (getS x.Labels zoneK).2 = true then some (getS x.Labels zoneK).1 else none) else zoneS l name := by
  unfold zoneS
  rw [List.find?_cons]
  by_cases h : x.Name = name
  · rw [if_pos h, show decide (x.Name = name) = true by simpa using h]
  · rw [if_neg h, show decide (x.Name = name) = false by simpa using h]
theorem zoneS_none : ∀ (l : List T_api_Machine) (name : ByteArray), (∀ m, m ∈ l → m.Name ≠ name) → zoneS l name = none
  | [], _, _ => rfl
  | x :: l, name, h => by rw [zoneS_cons, if_neg (h x (List.mem_cons_self ..)), zoneS_none l name fun m hm => h m (List.mem_cons_of_mem _ hm)]

theorem zones_mg {ms : List T_api_Machine} (hm : ∀ m, m ∈ ms → GM m) (hn : (ms.map (·.Name)).Nodup) (name : ByteArray) : V.mg (zonesV ms) name = zoneS ms name := by
  have key : ∀ (l : List T_api_Machine) (k : Nat) (out : List (ByteArray × ByteArray)), (∀ m, m ∈ l → GM m) → (l.map (·.Name)).Nodup → ∃ z, apart_zones.l1 l k out = some z ∧ ∀ name, V.mg z name = (zoneS l name).or (V.mg out name) := by
    intro l
    induction l with
    | nil => intro k out _ _; exact ⟨out, rfl, fun name => by simp [zoneS]⟩
    | cons x l ih =>
      intro k out hm hn
      rw [List.map_cons, List.nodup_cons] at hn
      have hx := hm x (List.mem_cons_self ..)
      rw [apart_zones.l1, labels_Get_eq hx.so]
      simp only [Option.bind_some]
      show ∃ z, (if (getS x.Labels zoneK).2 = true then apart_zones.l1 l (k + 1) (V.mp out x.Name (getS x.Labels zoneK).1) else apart_zones.l1 l (k + 1) out) = some z ∧ _
      have hnone : zoneS l x.Name = none := zoneS_none l x.Name fun m hml e => hn.1 (List.mem_map.2 ⟨m, hml, e⟩)
      by_cases h : (getS x.Labels zoneK).2 = true
      · rw [if_pos h]
        obtain ⟨z, h1, h2⟩ := ih (k + 1) (V.mp out x.Name (getS x.Labels zoneK).1) (fun m h => hm m (List.mem_cons_of_mem _ h)) hn.2
        refine ⟨z, h1, fun name => ?_⟩
        rw [h2, zoneS_cons, mg_mp]
        by_cases e : x.Name = name
        · subst e; rw [hnone, if_pos rfl, if_pos rfl, if_pos h]; rfl
        · rw [if_neg e, if_neg (fun q => e q.symm)]
      · rw [if_neg h]
        obtain ⟨z, h1, h2⟩ := ih (k + 1) out (fun m h => hm m (List.mem_cons_of_mem _ h)) hn.2
        refine ⟨z, h1, fun name => ?_⟩
        rw [h2, zoneS_cons]
        by_cases e : x.Name = name
        · subst e; rw [hnone, if_pos rfl, if_neg h]
        · rw [if_neg e]
  obtain ⟨z, h1, h2⟩ := key ms 0 [] hm hn
  have hz : zonesV ms = z := by
    have := zones_V ms
    unfold apart_zones at this
    rw [h1] at this
    injection this with this
    exact this.symm
  rw [hz, h2]
  cases zoneS ms name <;> rfl

theorem tog_eq {ms : List T_api_Machine} (hl : ms.length ≤ 1000) (hm : ∀ m, m ∈ ms → GM m) (hn : (ms.map (·.Name)).Nodup) (a b : ByteArray) (w : Bool) : ref11_together ms a b w = some (oneB (zonesV ms) a b w) := by
  unfold ref11_together oneB
  rw [zone11_eq a hl hm, zone11_eq b hl hm, zones_mg hm hn, zones_mg hm hn]
  simp only [Option.bind_some, seq_eq]
  by_cases e : a = b
  · rw [if_pos (by simpa using e), if_pos (by simp [e])]; simp [e]
  · rw [if_neg (by simpa using e)]
    cases w with
    | false => rw [if_pos (by simp)]; simp [e]
    | true => rw [if_neg (by simp [e])]; simp

/-! near -/
theorem near_ref {ms : List T_api_Machine} {bs : List T_api_Bound} {p : T_api_Pod} {m : T_api_Machine} (hl : ms.length ≤ 1000) (hbl : bs.length ≤ 1000) (hmg : ∀ m, m ∈ ms → GM m) (hn : (ms.map (·.Name)).Nodup) (hb : ∀ b, b ∈ bs → GP b.Pod) (hp : GP p) (hm : m ∈ ms) :
    ref11_Near ms bs p m.Name = some (nearB (zonesV ms) bs p m.Name) := by
  unfold ref11_Near nearB
  obtain ⟨r, hr, hf⟩ := Find9_eq ms m.Name (by omega)
  have hr0 : ¬ r < 0 := by
    rcases hf with ⟨q, rfl, _⟩ | ⟨rfl, b⟩
    · omega
    · obtain ⟨i, hi, rfl⟩ := List.getElem_of_mem hm
      exact absurd ⟨hi, rfl⟩ (b i hi)
  rw [hr]
  simp only [Option.bind_some]
  rw [if_neg (by simpa using hr0)]
  have hlp := hp.lp.labels.1
  have hap := hp.lp.apart.1
  have hl1 := idxFindL (F := fun n i => ref11_Near.l1 ms bs p m.Name n i) (l := bs) (nearQ (zonesV ms) p m.Name) (fun _ => true) (by omega) (fun n k hk => by
    have hbk := hb bs[k] (List.getElem_mem _)
    have h1 := hbk.lp.labels.1
    have h2 := hbk.lp.apart.1
    rw [ref11_Near.l1, if_pos (dlt hk), glk hk, wk1 (by omega)]
    simp only [Option.bind_some]
    rw [Has5_B (by omega) (by omega) hbk.labels, Has5_B (by omega) (by omega) hp.labels, tog_eq hl hmg hn, tog_eq hl hmg hn]
    have hsym : ∀ w, oneB (zonesV ms) m.Name bs[k].On w = oneB (zonesV ms) bs[k].On m.Name w := fun w => by
      unfold oneB
      simp only [seq_eq]
      rw [show decide (m.Name = bs[k].On) = decide (bs[k].On = m.Name) by rw [decide_eq_decide]; exact eq_comm, show ∀ x y : ByteArray, decide (x = y) = decide (y = x) from fun x y => by rw [decide_eq_decide]; exact eq_comm]
      rw [show decide ((V.mg (zonesV ms) bs[k].On).getD ⟨#[]⟩ = (V.mg (zonesV ms) m.Name).getD ⟨#[]⟩) = decide ((V.mg (zonesV ms) m.Name).getD ⟨#[]⟩ = (V.mg (zonesV ms) bs[k].On).getD ⟨#[]⟩) by rw [decide_eq_decide]; exact eq_comm]
      rw [Bool.and_comm (V.mg (zonesV ms) m.Name).isSome]
    unfold nearQ barsB
    rw [← hsym]
    cases V.seq bs[k].Pod.Name p.Name <;> cases V.seq bs[k].On ⟨#[]⟩ <;> cases decide ((p.Apart.length : Int) > 0) <;> cases hasB bs[k].Pod.Labels p.Apart <;> cases oneB (zonesV ms) m.Name bs[k].On p.Wide <;>
      cases decide ((bs[k].Pod.Apart.length : Int) > 0) <;> cases hasB p.Labels bs[k].Pod.Apart <;> cases oneB (zonesV ms) m.Name bs[k].On bs[k].Pod.Wide <;> rfl) (fun n => by rw [ref11_Near.l1, if_neg dnl])
  rw [show ref11_Near.l1 ms bs p m.Name FU 0 = _ from hl1]
  have e : bs.any (nearQ (zonesV ms) p m.Name) = (bs.find? (nearQ (zonesV ms) p m.Name)).isSome := by rw [Bool.eq_iff_iff, List.any_eq_true, List.find?_isSome]
  rw [e]
  cases bs.find? (nearQ (zonesV ms) p m.Name) <;> rfl
end Go.Proofs.YtmpkpnclmihdnaaGreat.M
/-
  Plain laws: how many stand in each zone, and why a pod cannot run, told alike by the program and the document. Own text.
-/
namespace Go.Proofs.YtmpkpnclmihdnaaGreat.M
open Go Go.Proofs Go.Proofs.YtmpkpnclmihdnaaGreat.V
set_option linter.unusedVariables false

def inL (y : ByteArray) (l : List ByteArray) : Bool := l.any fun a => decide (a = y)
/-- The zones, each once. -/
def zstep (acc : List ByteArray) (m : T_api_Machine) : List ByteArray := if ((getS m.Labels zoneK).2 && m.Ready && !inL (getS m.Labels zoneK).1 acc) = true then acc ++ [(getS m.Labels zoneK).1] else acc
def zonesL (ms : List T_api_Machine) : List ByteArray := ms.foldl zstep []

theorem zstep_len (acc : List ByteArray) (m : T_api_Machine) : (zstep acc m).length ≤ acc.length + 1 := by
  unfold zstep
  split
  · simp
  · omega
theorem zonesL_len (ms : List T_api_Machine) : (zonesL ms).length ≤ ms.length := by
  have key : ∀ (l : List T_api_Machine) (acc : List ByteArray), (l.foldl zstep acc).length ≤ acc.length + l.length := by
    intro l
    induction l with
    | nil => intro acc; exact Nat.le_refl _
    | cons x l ih =>
      intro acc
      have h1 := ih (zstep acc x)
      have h2 := zstep_len acc x
      rw [List.foldl_cons, List.length_cons]
      omega
  have := key ms []
  simpa [zonesL] using this

theorem Zones9_eq {ms : List T_api_Machine} (hl : ms.length ≤ 1000) (hm : ∀ m, m ∈ ms → GM m) : ref09_Zones ms = some (zonesL ms) := by
  unfold ref09_Zones zonesL
  have := idxFoldL (F := fun n s i => ref09_Zones.l1 ms n s i) (l := ms) zstep id (fun k s => s.length ≤ k) (by omega) (fun n s k hk hI => by
    have hg := (hm ms[k] (List.getElem_mem _)).lm.labels.1
    rw [ref09_Zones.l1, if_pos (dlt hk), glk hk, wk1 (by omega)]
    simp only [Option.bind_some]
    rw [show (⟨#[122, 111, 110, 101]⟩ : ByteArray) = zoneK from rfl, Get5_eq (by omega)]
    simp only [Option.bind_some]
    have hin : ref09_Zones.l2 s (getS ms[k].Labels zoneK) FU (getS ms[k].Labels zoneK).2 0 = some ((getS ms[k].Labels zoneK).2 && !inL (getS ms[k].Labels zoneK).1 s) := by
      have := idxFoldL (F := fun n b i => ref09_Zones.l2 s (getS ms[k].Labels zoneK) n b i) (l := s) (fun b x => b && !decide (x = (getS ms[k].Labels zoneK).1)) id (fun _ _ => True) (by omega) (fun n b j hj _ => by
        refine ⟨?_, trivial⟩
        rw [ref09_Zones.l2, if_pos (dlt hj), glk hj, wk1 (by omega)]
        simp only [Option.bind_some, seq_eq]
        cases b <;> rfl) (fun n b => by rw [ref09_Zones.l2, if_neg dnl]; rfl) (getS ms[k].Labels zoneK).2 trivial
      rw [show ref09_Zones.l2 s (getS ms[k].Labels zoneK) FU (getS ms[k].Labels zoneK).2 0 = _ from this]
      congr 1
      have key : ∀ (l : List ByteArray) (b : Bool), l.foldl (fun b x => b && !decide (x = (getS ms[k].Labels zoneK).1)) b = (b && !inL (getS ms[k].Labels zoneK).1 l) := by
        intro l
        induction l with
        | nil => intro b; unfold inL; simp
        | cons x l ih => intro b; rw [List.foldl_cons, ih]; unfold inL; rw [List.any_cons, Bool.not_or, Bool.and_assoc]
      exact key s _
    rw [hin]
    simp only [Option.bind_some]
    have hlen := zstep_len s ms[k]
    unfold zstep at hlen ⊢
    cases h1 : (getS ms[k].Labels zoneK).2 <;> cases h2 : inL (getS ms[k].Labels zoneK).1 s <;> cases h3 : ms[k].Ready <;> simp only [Bool.and_true, Bool.true_and, Bool.false_and, Bool.and_false, Bool.not_true, Bool.not_false, Bool.false_eq_true, if_false, if_true, Option.bind_some] <;> first | exact ⟨trivial, by omega⟩ | exact ⟨rfl, by omega⟩ | skip
    rw [ap_ok (by omega) (by simp; omega)]
    exact ⟨rfl, by simp; omega⟩) (fun n s => by rw [ref09_Zones.l1, if_neg dnl]; rfl) [] (by simp)
  rw [show ref09_Zones.l1 ms FU [] 0 = _ from this]
  rfl

theorem yZones_eq {ms : List T_api_Machine} (hl : ms.length ≤ 1000) (hm : ∀ m, m ∈ ms → GM m) : yard_Zones ms = some (zonesL ms) := by
  unfold yard_Zones zonesL
  have key : ∀ (l : List T_api_Machine) (k : Nat) (had : List (ByteArray × Int)) (acc : List ByteArray) (B : Int), (∀ m, m ∈ l → GM m) → l.length + acc.length ≤ 1000 → 0 ≤ B → B + (l.length : Int) ≤ 1000 →
      (∀ z, (V.mg had z).isSome = inL z acc ∧ ∀ v, V.mg had z = some v → 1 ≤ v ∧ v ≤ B) → yard_Zones.l1 l k had acc = some (l.foldl zstep acc) := by
    intro l
    induction l with
    | nil => intro k had acc B _ _ _ _ _; rfl
    | cons x l ih =>
      intro k had acc B hm hlen h0 hB hI
      rw [List.length_cons] at hlen hB
      have hx := hm x (List.mem_cons_self ..)
      rw [yard_Zones.l1, show (⟨#[122, 111, 110, 101]⟩ : ByteArray) = zoneK from rfl, labels_Get_eq hx.so, List.foldl_cons]
      simp only [Option.bind_some, mg_mp, if_true, Option.getD_some]
      have hml : ∀ m, m ∈ l → GM m := fun m h => hm m (List.mem_cons_of_mem _ h)
      obtain ⟨i1, i2⟩ := hI (getS x.Labels zoneK).1
      by_cases hc : ((getS x.Labels zoneK).2 && x.Ready) = true
      · have hc' : ((!(getS x.Labels zoneK).2) || (!x.Ready)) = false := by
          simp only [Bool.and_eq_true] at hc
          rw [hc.1, hc.2]; rfl
        rw [hc']
        simp only [Bool.false_eq_true, if_false]
        have hnext : ∀ acc', (∀ z, inL z acc' = (decide (z = (getS x.Labels zoneK).1) || inL z acc)) → ∀ z, (V.mg (V.mp had (getS x.Labels zoneK).1 (IntKind.i64.wrap (((V.mg had (getS x.Labels zoneK).1).getD 0) + 1))) z).isSome = inL z acc' ∧ ∀ v, V.mg (V.mp had (getS x.Labels zoneK).1 (IntKind.i64.wrap (((V.mg had (getS x.Labels zoneK).1).getD 0) + 1))) z = some v → 1 ≤ v ∧ v ≤ B + 1 := by
          intro acc' ha z
          rw [mg_mp, ha]
          by_cases e : z = (getS x.Labels zoneK).1
          · rw [if_pos e]
            refine ⟨by simp [e], fun v hv => ?_⟩
            injection hv with hv
            rw [← hv]
            cases hg : V.mg had (getS x.Labels zoneK).1 with
            | none => rw [Option.getD_none, w_eq (by omega) (by omega)]; omega
            | some c =>
              have := i2 c hg
              rw [Option.getD_some, w_eq (by omega) (by omega)]; omega
          · rw [if_neg e]
            refine ⟨by rw [(hI z).1]; simp [e], fun v hv => ?_⟩
            have := (hI z).2 v hv
            omega
        unfold zstep
        cases hin : inL (getS x.Labels zoneK).1 acc with
        | true =>
          rw [hin] at i1
          obtain ⟨c, hg⟩ := Option.isSome_iff_exists.1 i1
          have hcr := i2 c hg
          rw [hg] at hnext ⊢
          rw [Option.getD_some] at hnext ⊢
          rw [if_neg (show ¬ (IntKind.i64.wrap (c + 1) == 1) = true by rw [w_eq (by omega) (by omega)]; simp; omega), if_neg (show ¬ ((getS x.Labels zoneK).2 && x.Ready && !true) = true by simp)]
          exact ih (k + 1) _ acc (B + 1) hml (by omega) (by omega) (by omega) (hnext acc fun z => by
            by_cases e : z = (getS x.Labels zoneK).1
            · rw [e, hin]; simp
            · simp [e])
        | false =>
          rw [hin] at i1
          have hg : V.mg had (getS x.Labels zoneK).1 = none := by
            cases hg : V.mg had (getS x.Labels zoneK).1 with
            | none => rfl
            | some c => rw [hg] at i1; simp at i1
          rw [hg] at hnext ⊢
          rw [Option.getD_none] at hnext ⊢
          rw [if_pos (show (IntKind.i64.wrap (0 + 1) == 1) = true by decide), if_pos (show ((getS x.Labels zoneK).2 && x.Ready && !false) = true by rw [hc]; rfl), ap_ok (by omega) (by simp; omega)]
          simp only [Option.bind_some]
          exact ih (k + 1) _ (acc ++ [(getS x.Labels zoneK).1]) (B + 1) hml (by simp; omega) (by omega) (by omega) (hnext _ fun z => by
            unfold inL
            rw [List.any_append, Bool.or_comm]
            congr 1
            simp [eq_comm])
      · have hc' : ((!(getS x.Labels zoneK).2) || (!x.Ready)) = true := by
          cases h1 : (getS x.Labels zoneK).2 <;> cases h2 : x.Ready <;> simp [h1, h2] at hc ⊢
        rw [hc']
        simp only [if_true]
        unfold zstep
        have hc2 : ((getS x.Labels zoneK).2 && x.Ready) = false := by simpa using hc
        rw [hc2, Bool.false_and, if_neg (by simp)]
        exact ih (k + 1) had acc B hml (by omega) h0 (by omega) hI
  rw [key ms 0 [] [] 0 hm (by simpa using hl) (Int.le_refl 0) (by omega) (fun z => ⟨rfl, fun v hv => by cases hv⟩)]
  rfl

/-! counts -/
def inZ (ms : List T_api_Machine) (p : T_api_Pod) (z : ByteArray) (b : T_api_Bound) : Bool := (!decide (b.On = ⟨#[]⟩) && !decide (b.Pod.Name = p.Name)) && (decide (zoneS ms b.On = some z) && hasB b.Pod.Labels p.Spread)
def cntZ (ms : List T_api_Machine) (bs : List T_api_Bound) (p : T_api_Pod) (z : ByteArray) : Int := ((bs.filter (inZ ms p z)).length : Int)
theorem cntZ_range (ms : List T_api_Machine) (bs : List T_api_Bound) (p : T_api_Pod) (z : ByteArray) : 0 ≤ cntZ ms bs p z ∧ cntZ ms bs p z ≤ (bs.length : Int) := by
  have := List.length_filter_le (inZ ms p z) bs
  unfold cntZ
  omega

theorem tally_cnt {ms : List T_api_Machine} {bs : List T_api_Bound} (p : T_api_Pod) (hbl : bs.length ≤ 1000) (hm : ∀ m, m ∈ ms → GM m) (hn : (ms.map (·.Name)).Nodup) : ∃ t, apart_tally ms bs p = some t ∧ ∀ z, (V.mg t z).getD 0 = cntZ ms bs p z := by
  unfold apart_tally
  rw [zones_V]
  simp only [Option.bind_some]
  have key : ∀ (l : List T_api_Bound) (k : Nat) (n : List (ByteArray × Int)) (B : Int), 0 ≤ B → B + (l.length : Int) ≤ 1000 → (∀ z, 0 ≤ (V.mg n z).getD 0 ∧ (V.mg n z).getD 0 ≤ B) → ∃ t, apart_tally.l1 p (zonesV ms) l k n = some t ∧ ∀ z, (V.mg t z).getD 0 = (V.mg n z).getD 0 + ((l.filter (inZ ms p z)).length : Int) := by
    intro l
    induction l with
    | nil => intro k n B _ _ _; exact ⟨n, rfl, fun z => by simp⟩
    | cons x l ih =>
      intro k n B h0 hB hI
      rw [List.length_cons] at hB
      rw [apart_tally.l1, has_B, zones_mg hm hn]
      simp only [seq_eq, Option.bind_some]
      by_cases hc : ((((zoneS ms x.On).isSome && !decide (x.On = ⟨#[]⟩)) && !decide (x.Pod.Name = p.Name)) && hasB x.Pod.Labels p.Spread) = true
      · simp only [Bool.and_eq_true] at hc
        obtain ⟨⟨⟨c1, c2⟩, c3⟩, c4⟩ := hc
        obtain ⟨zz, hz⟩ := Option.isSome_iff_exists.1 c1
        rw [if_pos (show (((zoneS ms x.On).isSome && !decide (x.On = ⟨#[]⟩)) && !decide (x.Pod.Name = p.Name)) = true by rw [c1, c2, c3]; rfl)]
        simp only [Option.bind_some]
        rw [if_pos c4, hz, Option.getD_some]
        have hv := hI zz
        obtain ⟨t, h1, h2⟩ := ih (k + 1) (V.mp n zz (IntKind.i64.wrap (((V.mg n zz).getD 0) + 1))) (B + 1) (by omega) (by omega) (fun z => by
          rw [mg_mp]
          by_cases e : z = zz
          · rw [if_pos e, Option.getD_some, w_eq (by omega) (by omega)]; omega
          · rw [if_neg e]; have := hI z; omega)
        refine ⟨t, h1, fun z => ?_⟩
        rw [h2, mg_mp, List.filter_cons]
        by_cases e : z = zz
        · subst e
          rw [if_pos rfl, if_pos (show inZ ms p z x = true by unfold inZ; rw [c2, c3, c4, hz]; simp), Option.getD_some, w_eq (by omega) (by omega), List.length_cons]
          omega
        · rw [if_neg e, if_neg (show ¬ inZ ms p z x = true by
            unfold inZ
            rw [hz]
            have : ¬ zz = z := fun q => e q.symm
            simp [this])]
      · have hstep : ((if (((zoneS ms x.On).isSome && !decide (x.On = ⟨#[]⟩)) && !decide (x.Pod.Name = p.Name)) = true then some (hasB x.Pod.Labels p.Spread) else some false).bind fun c => if c = true then apart_tally.l1 p (zonesV ms) l (k + 1) (V.mp n ((zoneS ms x.On).getD ⟨#[]⟩) (IntKind.i64.wrap (((V.mg n ((zoneS ms x.On).getD ⟨#[]⟩)).getD (0 : Int)) + (1 : Int)))) else apart_tally.l1 p (zonesV ms) l (k + 1) n) = apart_tally.l1 p (zonesV ms) l (k + 1) n := by
          cases c1 : (((zoneS ms x.On).isSome && !decide (x.On = ⟨#[]⟩)) && !decide (x.Pod.Name = p.Name)) with
          | false => rfl
          | true =>
            cases c2 : hasB x.Pod.Labels p.Spread with
            | false => rfl
            | true => rw [c1, c2] at hc; exact absurd rfl hc
        rw [hstep]
        obtain ⟨t, h1, h2⟩ := ih (k + 1) n B h0 (by omega) hI
        refine ⟨t, h1, fun z => ?_⟩
        rw [h2, List.filter_cons, if_neg]
        intro hz
        apply hc
        unfold inZ at hz
        simp only [Bool.and_eq_true, decide_eq_true_eq] at hz
        rw [hz.2.1, hz.1.1, hz.1.2, hz.2.2]
        rfl
  obtain ⟨t, h1, h2⟩ := key bs 0 [] 0 (Int.le_refl 0) (by omega) (fun z => by simp [V.mg])
  refine ⟨t, by rw [h1]; rfl, fun z => ?_⟩
  rw [h2]
  unfold cntZ
  simp [V.mg]

theorem Counts_eq {ms : List T_api_Machine} {bs : List T_api_Bound} (p : T_api_Pod) (hl : ms.length ≤ 1000) (hbl : bs.length ≤ 1000) (hm : ∀ m, m ∈ ms → GM m) (hn : (ms.map (·.Name)).Nodup) : apart_Counts ms bs p = some (zonesL ms, (zonesL ms).map (cntZ ms bs p)) := by
  unfold apart_Counts
  obtain ⟨t, ht, hc⟩ := tally_cnt (bs := bs) p hbl hm hn
  have hzl := zonesL_len ms
  rw [ht, yZones_eq hl hm]
  simp only [Option.bind_some]
  have key : ∀ (l : List ByteArray) (k : Nat) (acc : List Int), l.length + acc.length ≤ 1000 → apart_Counts.l1 t l k acc = some (acc ++ l.map (cntZ ms bs p)) := by
    intro l
    induction l with
    | nil => intro k acc _; simp [apart_Counts.l1]
    | cons x l ih =>
      intro k acc h
      rw [List.length_cons] at h
      rw [apart_Counts.l1, hc, ap_ok (by omega) (by simp; omega)]
      simp only [Option.bind_some]
      rw [ih (k + 1) _ (by simp; omega)]
      simp
  rw [key _ 0 [] (by simp; omega)]
  rfl

theorem Counts11_eq {ms : List T_api_Machine} {bs : List T_api_Bound} {p : T_api_Pod} (hl : ms.length ≤ 1000) (hbl : bs.length ≤ 1000) (hm : ∀ m, m ∈ ms → GM m) (hb : ∀ b, b ∈ bs → GP b.Pod) (hp : GP p) : ref11_Counts ms bs p = some (zonesL ms, (zonesL ms).map (cntZ ms bs p)) := by
  unfold ref11_Counts
  have hzl := zonesL_len ms
  have hsp := hp.lp.spread.1
  rw [Zones9_eq hl hm]
  simp only [Option.bind_some]
  generalize zonesL ms = zl at *
  have := idxFoldL (F := fun n s i => ref11_Counts.l1 ms bs p zl n s i) (l := zl) (fun acc z => acc ++ [cntZ ms bs p z]) id (fun k s => s.length ≤ k) (by omega) (fun n s i hi hI => by
    rw [ref11_Counts.l1, if_pos (dlt hi), wk1 (by omega)]
    have hin : ref11_Counts.l2 ms bs p zl (i : Int) FU 0 0 = some (cntZ ms bs p zl[i]) := by
      have := idxFoldL (F := fun n s j => ref11_Counts.l2 ms bs p zl (i : Int) n s j) (l := bs) (fun c b => if inZ ms p zl[i] b = true then c + 1 else c) id (fun k s => 0 ≤ s ∧ s ≤ (k : Int)) (by omega) (fun n s j hj hI => by
        have hg := hb bs[j] (List.getElem_mem _)
        have h1 := hg.lp.labels.1
        rw [ref11_Counts.l2, if_pos (dlt hj), glk hj, wk1 (by omega)]
        simp only [Option.bind_some]
        rw [zone11_eq bs[j].On hl hm, Has5_B (by omega) (by omega) hg.labels, glk hi]
        simp only [Option.bind_some, seq_eq]
        have hq : ((if (!decide (bs[j].On = ⟨#[]⟩)) = true then some (!decide (bs[j].Pod.Name = p.Name)) else some false).bind fun c => (if (c && (zoneS ms bs[j].On).isSome) = true then some (decide ((zoneS ms bs[j].On).getD ⟨#[]⟩ = zl[i])) else some false).bind fun c2 => if c2 = true then some (hasB bs[j].Pod.Labels p.Spread) else some false) = some (inZ ms p zl[i] bs[j]) := by
          unfold inZ
          cases h1 : decide (bs[j].On = ⟨#[]⟩) <;> cases h2 : decide (bs[j].Pod.Name = p.Name) <;> cases h3 : zoneS ms bs[j].On with
          | none => simp
          | some zz => by_cases h4 : zz = zl[i] <;> cases h5 : hasB bs[j].Pod.Labels p.Spread <;> simp [h4]
        have hbind : ∀ (X : Bool → Option Int), ((if (!decide (bs[j].On = ⟨#[]⟩)) = true then some (!decide (bs[j].Pod.Name = p.Name)) else some false).bind fun c => (if (c && (zoneS ms bs[j].On).isSome) = true then some (decide ((zoneS ms bs[j].On).getD ⟨#[]⟩ = zl[i])) else some false).bind fun c2 => (if c2 = true then some (hasB bs[j].Pod.Labels p.Spread) else some false).bind X) = X (inZ ms p zl[i] bs[j]) := fun X => by
          have := congrArg (fun o => o.bind X) hq
          simp only [Option.bind_some] at this
          rw [← this, Option.bind_assoc]
          congr 1
          funext c
          rw [Option.bind_assoc]
        rw [hbind]
        cases inZ ms p zl[i] bs[j] with
        | true => rw [if_pos rfl, if_pos rfl, w_eq (by omega) (by omega)]; exact ⟨rfl, by omega⟩
        | false => rw [if_neg (by simp), if_neg (by simp)]; exact ⟨rfl, by omega⟩) (fun n s => by rw [ref11_Counts.l2, if_neg dnl]; rfl) 0 (by simp)
      rw [show ref11_Counts.l2 ms bs p zl (i : Int) FU 0 0 = _ from this]
      congr 1
      have key : ∀ (l : List T_api_Bound) (c : Int), l.foldl (fun c b => if inZ ms p zl[i] b = true then c + 1 else c) c = c + ((l.filter (inZ ms p zl[i])).length : Int) := by
        intro l
        induction l with
        | nil => intro c; simp
        | cons x l ih =>
          intro c
          rw [List.foldl_cons, ih, List.filter_cons]
          cases inZ ms p zl[i] x with
          | true => rw [if_pos rfl, if_pos rfl, List.length_cons]; omega
          | false => rw [if_neg (by simp), if_neg (by simp)]
      unfold cntZ
      show bs.foldl (fun c b => if inZ ms p zl[i] b = true then c + 1 else c) 0 = _
      rw [key]; omega
    rw [hin]
    simp only [Option.bind_some]
    rw [ap_ok (by omega) (by simp; omega)]
    exact ⟨rfl, by simp; omega⟩) (fun n s => by rw [ref11_Counts.l1, if_neg dnl]; rfl) [] (by simp)
  rw [show ref11_Counts.l1 ms bs p zl FU [] 0 = _ from this]
  simp only [Option.bind_some, id]
  have key : ∀ (l : List ByteArray) (acc : List Int), l.foldl (fun acc z => acc ++ [cntZ ms bs p z]) acc = acc ++ l.map (cntZ ms bs p) := by
    intro l
    induction l with
    | nil => intro acc; simp
    | cons x l ih => intro acc; rw [List.foldl_cons, ih]; simp
  rw [key, List.nil_append]
end Go.Proofs.YtmpkpnclmihdnaaGreat.M

/-
  Plain laws: why a pod cannot run on a machine, told alike by the program and the document. Own text.
-/
import Derived.Test.YtbkdglcedgiogaaGreatPRef1
namespace Go.Proofs.YtbkdglcedgiogaaGreat.M
open Go Go.Proofs Go.Proofs.YtbkdglcedgiogaaGreat.V
set_option linter.unusedVariables false

/-! right machines and pods, as far as it matters here -/
structure GM (m : T_api_Machine) : Prop where
  lm : LM m
  so : sortedL m.Labels
structure GP (p : T_api_Pod) : Prop where
  lp : LP p
  labels : sortedL p.Labels
  select : sortedL p.Select
  terms : ∀ k (h : k < p.Terms.length), ref05_RightTerm p.Terms[k] = some true
  skew : p.Spread.length ≠ 0 → 1 ≤ p.Skew ∧ p.Skew ≤ 100
  ports : p.Ports.Pairwise (· < ·)

theorem gm_of {m : T_api_Machine} (h : LM m) (hr : ref07_RightMachine m = some true) : GM m := by
  refine ⟨h, ?_⟩
  obtain ⟨a, ha⟩ := maybe7_tot h.name
  obtain ⟨b, hb⟩ := maybe7_tot h.group
  obtain ⟨c, hc⟩ := Right5_tot h.labels
  unfold ref07_RightMachine at hr
  rw [ref04_Right_eq, ha, hb, hc] at hr
  refine sorted_of h.labels ?_
  rw [hc]
  cases c with
  | true => rfl
  | false => cases a <;> cases b <;> cases resOK m.Has <;> simp at hr

theorem gp_of {p : T_api_Pod} (h : LP p) (hr : ref07_RightPod p = some true) : GP p := by
  have hn := h.name
  have hnt := h.nterms
  obtain ⟨w, hw⟩ := Word_tot (s := p.Name) (by omega)
  obtain ⟨o, ho⟩ := maybe7_tot h.owner
  obtain ⟨c1, hc1⟩ := Right5_tot h.labels
  obtain ⟨c2, hc2⟩ := Right5_tot h.select
  unfold ref07_RightPod at hr
  rw [ref04_Right_eq, hw, ho, hc1, hc2] at hr
  simp only [Option.bind_some] at hr
  obtain ⟨c3, e3, hr⟩ := Option.bind_eq_some_iff.1 hr
  obtain ⟨c4, e4, hr⟩ := Option.bind_eq_some_iff.1 hr
  obtain ⟨c5, e5, hr⟩ := Option.bind_eq_some_iff.1 hr
  split at hr
  · cases hr
  obtain ⟨o1, e6, hr⟩ := Option.bind_eq_some_iff.1 hr
  have hterms : ∀ k (hk : k < p.Terms.length), o1 = Out.go () → ref05_RightTerm p.Terms[k] = some true := by
    intro k hk ho1
    rcases loopI (F := fun n i => ref07_RightPod.l1 p n i) (Q := fun r => r = false) (S := fun k => ∀ h : k < p.Terms.length, ref05_RightTerm p.Terms[k] = some true) (len := p.Terms.length) (by omega) (fun n k hk => by
        rw [ref07_RightPod.l1, if_pos (dlt hk), glk hk, wk1 (by omega)]
        simp only [Option.bind_some]
        obtain ⟨b, hb⟩ := Term5_tot (h.terms k hk)
        rw [hb]
        cases b with
        | false => exact .inl ⟨false, rfl, rfl⟩
        | true => exact .inr ⟨rfl, fun _ => hb⟩) (fun n => by rw [ref07_RightPod.l1, if_neg dnl]) with ⟨r, h1, _⟩ | ⟨_, h2⟩
    · rw [h1, ho1] at e6; cases e6
    · exact h2 k hk hk
  cases o1 with
  | ret r =>
    simp only [Out.on] at hr
    have hrl : r = false := by
      rcases loopI (F := fun n i => ref07_RightPod.l1 p n i) (Q := fun r => r = false) (S := fun k => True) (len := p.Terms.length) (by omega) (fun n k hk => by
          rw [ref07_RightPod.l1, if_pos (dlt hk), glk hk, wk1 (by omega)]
          simp only [Option.bind_some]
          obtain ⟨b, hb⟩ := Term5_tot (h.terms k hk)
          rw [hb]
          cases b with
          | false => exact .inl ⟨false, rfl, rfl⟩
          | true => exact .inr ⟨rfl, trivial⟩) (fun n => by rw [ref07_RightPod.l1, if_neg dnl]) with ⟨r', h1, h2⟩ | ⟨h1, _⟩
      · rw [h1] at e6
        injection e6 with e6
        injection e6 with e6
        rw [← e6]; exact h2
      · rw [h1] at e6; cases e6
    rw [hrl] at hr; cases hr
  | go u =>
    simp only [Out.on] at hr
    obtain ⟨o2, e7, hr⟩ := Option.bind_eq_some_iff.1 hr
    have hnp := h.nports
    have hl2 : (o2 = Out.go () ∧ ∀ k (hk : k < p.Ports.length), 0 < k → p.Ports[k - 1]'(by omega) < p.Ports[k]) ∨ o2 = Out.ret false := by
      rcases loopI (F := fun n i => ref07_RightPod.l2 p n i) (Q := fun r => r = false) (S := fun k => ∀ (hk : k < p.Ports.length), 0 < k → p.Ports[k - 1]'(by omega) < p.Ports[k]) (len := p.Ports.length) (by omega) (fun n k hk => by
          rw [ref07_RightPod.l2, if_pos (dlt hk), glk hk, wk1 (by omega)]
          simp only [Option.bind_some, ref07_in]
          by_cases h0 : 0 < k
          · have h0' : (decide ((k : Int) > 0)) = true := by simp; omega
            simp only [h0', if_true, glp hk h0 (by omega), Option.bind_some]
            cases (decide (p.Ports[k] ≥ (1 : Int)) && decide (p.Ports[k] ≤ (65535 : Int)))
            · exact .inl ⟨false, rfl, rfl⟩
            · by_cases hle : p.Ports[k] ≤ p.Ports[k - 1]
              · rw [decide_eq_true hle]; exact .inl ⟨false, rfl, rfl⟩
              · rw [decide_eq_false hle]; exact .inr ⟨rfl, fun _ _ => by omega⟩
          · have h0' : (decide ((k : Int) > 0)) = false := by simp; omega
            simp only [h0', Bool.false_eq_true, if_false, Option.bind_some]
            cases (decide (p.Ports[k] ≥ (1 : Int)) && decide (p.Ports[k] ≤ (65535 : Int)))
            · exact .inl ⟨false, rfl, rfl⟩
            · exact .inr ⟨rfl, fun _ q => absurd q h0⟩) (fun n => by rw [ref07_RightPod.l2, if_neg dnl]) with ⟨r', h1, h2⟩ | ⟨h1, h2⟩
      · rw [h1] at e7; injection e7 with e7; rw [← e7, h2]; exact .inr rfl
      · rw [h1] at e7; injection e7 with e7; exact .inl ⟨e7.symm, fun k hk h0 => h2 k hk hk h0⟩
    rcases hl2 with ⟨rfl, hinc⟩ | rfl
    · simp only at hr
      obtain ⟨c7, e8, hr⟩ := Option.bind_eq_some_iff.1 hr
      split at hr
      · cases hr
      · rename_i hc7
        have hskew : p.Spread.length ≠ 0 → 1 ≤ p.Skew ∧ p.Skew ≤ 100 := by
          intro hne
          have hc7' : c7 = false := by simpa using hc7
          rw [hc7'] at e8
          split at e8
          · cases e8
          · rw [if_pos (by rw [decide_eq_true_eq]; omega)] at e8
            unfold ref07_in at e8
            simp only [Option.bind_some, Option.some.injEq, Bool.not_eq_false', Bool.and_eq_true, decide_eq_true_eq] at e8
            omega
        have h1 : c1 = true := by
          cases c1 with
          | true => rfl
          | false =>
            exfalso
            simp only [Bool.false_eq_true, if_false, Option.bind_some] at hr
            cases hr
        have h2 : c2 = true := by
          cases c2 with
          | true => rfl
          | false =>
            exfalso
            rw [h1] at hr
            simp only [Bool.false_eq_true, if_false, if_true, Option.bind_some] at hr
            cases hr
        exact ⟨h, sorted_of h.labels (by rw [hc1, h1]), sorted_of h.select (by rw [hc2, h2]), fun k hk => hterms k hk rfl, hskew, by
          rw [List.pairwise_iff_getElem]
          have key : ∀ (d i j : Nat) (hi : i < p.Ports.length) (hj : j < p.Ports.length), j = i + d + 1 → p.Ports[i] < p.Ports[j] := by
            intro d
            induction d with
            | zero => intro i j hi hj e; subst e; exact hinc (i + 1) hj (by omega)
            | succ d ih =>
              intro i j hi hj e
              have h1 := ih i (j - 1) hi (by omega) (by omega)
              have h2 := hinc j hj (by omega)
              omega
          intro i j hi hj hij
          exact key (j - i - 1) i j hi hj (by omega)⟩
    · cases hr

theorem gms {ms : List T_api_Machine} {bs : List T_api_Bound} (hy : LY ms bs) (hr : RY ms bs) : ∀ m, m ∈ ms → GM m := fun m h => by
  obtain ⟨i, hi, rfl⟩ := List.getElem_of_mem h; exact gm_of (hy.ms i hi) (hr.rm i hi).2
theorem gbs {ms : List T_api_Machine} {bs : List T_api_Bound} (hy : LY ms bs) (hr : RY ms bs) : ∀ b, b ∈ bs → GP b.Pod := fun m h => by
  obtain ⟨i, hi, rfl⟩ := List.getElem_of_mem h; exact gp_of (hy.bs i hi).1 (hr.rb i hi)

/-! whether it suits -/
theorem Place_ref {m : T_api_Machine} {p : T_api_Pod} (hm : GM m) (hp : GP p) : ref10_Place m p = some (placeV m p) := by
  rw [← (place_V hm.lm hp.lp).1]
  have h1 := hm.lm.labels.1
  have h2 := hp.lp.select.1
  have h3 := hp.lp.nterms
  have h4 := hm.lm.taints.1
  have h5 := hp.lp.bears.1
  unfold ref10_Place suit_Place
  rw [Has_same (by omega) (by omega) hm.so, All_same hm.lm.labels hm.so (by omega) (fun k hk => ⟨hp.lp.terms k hk, hp.terms k hk⟩), Allows_same _ _ (by omega) (by omega)]

theorem Others_ref (bs : List T_api_Bound) (name : ByteArray) (hl : bs.length ≤ 1000) : ref10_Others bs name = some (othersS bs name) := by
  unfold ref10_Others othersS
  have := idxFoldL (F := fun n s i => ref10_Others.l1 bs name n s i) (l := bs) (fun acc x => if decide (x.Pod.Name ≠ name) = true then acc ++ [x] else acc) id (fun k s => s.length ≤ k) (by omega) (fun n s k hk hI => by
    rw [ref10_Others.l1, if_pos (dlt hk), glk hk, wk1 (by omega)]
    simp only [Option.bind_some, seq_eq]
    by_cases h : bs[k].Pod.Name = name
    · rw [if_neg (by simp [h]), if_neg (by simp [h])]; exact ⟨rfl, by omega⟩
    · rw [if_pos (by simp [h]), if_pos (by simp [h]), ap_ok (by omega) (by simp; omega)]; exact ⟨rfl, by simp; omega⟩) (fun n s => by rw [ref10_Others.l1, if_neg dnl]; rfl) [] (by simp)
  rw [show ref10_Others.l1 bs name FU [] 0 = _ from this]
  simp only [Option.bind_some, id]
  congr 1
  have key : ∀ (l acc : List T_api_Bound), l.foldl (fun acc x => if decide (x.Pod.Name ≠ name) = true then acc ++ [x] else acc) acc = acc ++ l.filter fun b => decide (b.Pod.Name ≠ name) := by
    intro l
    induction l with
    | nil => intro acc; simp
    | cons x l ih =>
      intro acc
      rw [List.foldl_cons, ih, List.filter_cons]
      split <;> simp
  rw [key, List.nil_append]

/-- Ports in order, that are in common. -/
theorem hit_mem : ∀ (a b : List Int), a.Pairwise (· < ·) → b.Pairwise (· < ·) → (hit a b = true ↔ ∃ x, x ∈ a ∧ x ∈ b) := by
  intro a b
  induction a, b using hit.induct with
  | case1 b => intro _ _; rw [hit]; simp
  | case2 a l => intro _ _; rw [hit_nil_r]; simp
  | case3 a l m => intro _ _; rw [hit, if_pos rfl]; simp
  | case4 a l b m h1 h2 ih =>
    intro ha hb
    rw [hit, if_neg h1, if_pos h2, ih (List.pairwise_cons.1 ha).2 hb]
    constructor
    · rintro ⟨x, h3, h4⟩; exact ⟨x, List.mem_cons_of_mem _ h3, h4⟩
    · rintro ⟨x, h3, h4⟩
      rcases List.mem_cons.1 h3 with rfl | h3
      · rcases List.mem_cons.1 h4 with h5 | h4
        · exact absurd h5 h1
        · have := (List.pairwise_cons.1 hb).1 x h4
          omega
      · exact ⟨x, h3, h4⟩
  | case5 a l b m h1 h2 ih =>
    intro ha hb
    rw [hit, if_neg h1, if_neg h2, ih ha (List.pairwise_cons.1 hb).2]
    constructor
    · rintro ⟨x, h3, h4⟩; exact ⟨x, h3, List.mem_cons_of_mem _ h4⟩
    · rintro ⟨x, h3, h4⟩
      rcases List.mem_cons.1 h4 with rfl | h4
      · rcases List.mem_cons.1 h3 with h5 | h3
        · exact absurd h5.symm h1
        · have := (List.pairwise_cons.1 ha).1 x h3
          omega
      · exact ⟨x, h3, h4⟩

def comB (p q : T_api_Pod) : Bool := q.Ports.any fun x => p.Ports.any fun y => decide (x = y)
theorem com_hit {p q : T_api_Pod} (hp : GP p) (hq : GP q) : comB p q = hit p.Ports q.Ports := by
  rw [Bool.eq_iff_iff, hit_mem _ _ hp.ports hq.ports]
  unfold comB
  simp only [List.any_eq_true, decide_eq_true_eq]
  constructor
  · rintro ⟨x, h1, y, h2, rfl⟩; exact ⟨x, h2, h1⟩
  · rintro ⟨x, h1, h2⟩; exact ⟨x, h2, x, h1, rfl⟩

theorem Room_ref {m : T_api_Machine} {bs : List T_api_Bound} {p : T_api_Pod} (hp : GP p) (hl : bs.length ≤ 1000) (hb : ∀ b, b ∈ bs → GP b.Pod) : ref10_Room m bs p = some (roomS m bs p) := by
  have hlo : (othersS bs p.Name).length ≤ 1000 := by
    have := List.length_filter_le (fun b : T_api_Bound => decide (b.Pod.Name ≠ p.Name)) bs
    unfold othersS; omega
  have hol := onS_len (othersS bs p.Name) m.Name
  unfold ref10_Room roomS
  rw [Others_ref bs p.Name hl]
  simp only [Option.bind_some]
  rw [Left9_eq m _ hlo]
  simp only [Option.bind_some]
  rw [Fits9_eq]
  simp only [Option.bind_some]
  have hcomm : (resOK p.Need && resOK (leftS m.Has (usedS (onS (othersS bs p.Name) m.Name))) && rle p.Need (leftS m.Has (usedS (onS (othersS bs p.Name) m.Name)))) = (resOK (leftS m.Has (usedS (onS (othersS bs p.Name) m.Name))) && resOK p.Need && rle p.Need (leftS m.Has (usedS (onS (othersS bs p.Name) m.Name)))) := by
    rw [Bool.and_comm (resOK p.Need)]
  rw [hcomm]
  cases (resOK (leftS m.Has (usedS (onS (othersS bs p.Name) m.Name))) && resOK p.Need && rle p.Need (leftS m.Has (usedS (onS (othersS bs p.Name) m.Name)))) with
  | false => rfl
  | true =>
    simp only [Bool.not_true, Bool.false_eq_true, if_false, if_true]
    rw [On9_eq _ _ hlo]
    simp only [Option.bind_some]
    have hgp : ∀ q, q ∈ onS (othersS bs p.Name) m.Name → GP q := fun q hq => by
      unfold onS othersS at hq
      obtain ⟨b, h1, rfl⟩ := List.mem_map.1 hq
      exact hb b (List.mem_filter.1 (List.mem_filter.1 h1).1).1
    generalize onS (othersS bs p.Name) m.Name = ps at *
    have hl1 := idxFindL (F := fun n i => ref10_Room.l1 p ps n i) (l := ps) (fun q => comB p q) (fun _ => (3 : Int)) (by omega) (fun n k hk => by
      rw [ref10_Room.l1, if_pos (dlt hk), wk1 (by omega)]
      have hpl := hp.lp.nports
      have hql := (hgp ps[k] (List.getElem_mem _)).lp.nports
      have hl2 := idxFindL (F := fun n i => ref10_Room.l2 p ps (k : Int) n i) (l := ps[k].Ports) (fun x => p.Ports.any fun y => decide (x = y)) (fun _ => Out.ret (3 : Int)) (by omega) (fun n j hj => by
        rw [ref10_Room.l2, glk hk]
        simp only [Option.bind_some]
        rw [if_pos (dlt hj), wk1 (by omega)]
        have hl3 := idxFindL (F := fun n i => ref10_Room.l3 p ps (k : Int) (j : Int) n i) (l := p.Ports) (fun y => decide (ps[k].Ports[j] = y)) (fun _ => Out.ret (Out.ret (3 : Int))) (by omega) (fun n i hi => by
          rw [ref10_Room.l3, if_pos (dlt hi), glk hk, wk1 (by omega)]
          simp only [Option.bind_some]
          rw [glk hj, glk hi]
          simp only [Option.bind_some]
          by_cases e : ps[k].Ports[j] = p.Ports[i] <;> simp [e]) (fun n => by rw [ref10_Room.l3, if_neg dnl])
        rw [show ref10_Room.l3 p ps (k : Int) (j : Int) FU 0 = _ from hl3]
        have e : (p.Ports.any fun y => decide (ps[k].Ports[j] = y)) = (p.Ports.find? fun y => decide (ps[k].Ports[j] = y)).isSome := by
          rw [Bool.eq_iff_iff, List.any_eq_true, List.find?_isSome]
        rw [e]
        cases p.Ports.find? fun y => decide (ps[k].Ports[j] = y) <;> rfl) (fun n => by rw [ref10_Room.l2, glk hk]; simp only [Option.bind_some]; rw [if_neg dnl])
      rw [show ref10_Room.l2 p ps (k : Int) FU 0 = _ from hl2]
      have e : comB p ps[k] = (ps[k].Ports.find? fun x => p.Ports.any fun y => decide (x = y)).isSome := by
        unfold comB
        rw [Bool.eq_iff_iff, List.any_eq_true, List.find?_isSome]
      rw [e]
      cases ps[k].Ports.find? fun x => p.Ports.any fun y => decide (x = y) <;> rfl) (fun n => by rw [ref10_Room.l1, if_neg dnl])
    rw [show ref10_Room.l1 p ps FU 0 = _ from hl1]
    have e : (ps.any fun q => hit p.Ports q.Ports) = (ps.find? fun q => comB p q).isSome := by
      rw [Bool.eq_iff_iff, List.any_eq_true, List.find?_isSome]
      constructor
      · rintro ⟨q, h1, h2⟩; exact ⟨q, h1, by rw [com_hit hp (hgp q h1)]; exact h2⟩
      · rintro ⟨q, h1, h2⟩; exact ⟨q, h1, by rw [← com_hit hp (hgp q h1)]; exact h2⟩
    rw [e]
    cases ps.find? fun q => comB p q <;> rfl

theorem Suits_ref {m : T_api_Machine} {bs : List T_api_Bound} {p : T_api_Pod} (hm : GM m) (hp : GP p) (hl : bs.length ≤ 1000) (hb : ∀ b, b ∈ bs → GP b.Pod) : ref10_Suits m bs p = some (suitV m bs p) := by
  unfold ref10_Suits suitV
  rw [Place_ref hm hp]
  simp only [Option.bind_some]
  by_cases h : placeV m p = 0
  · rw [if_neg (by simp [h]), if_pos h, Room_ref hp hl hb]; rfl
  · rw [if_pos (by simpa using h), if_neg h]

/-! zones -/
def zoneK : ByteArray := ⟨#[122, 111, 110, 101]⟩
/-- The zone of a machine, by its name. -/
def zoneS (ms : List T_api_Machine) (name : ByteArray) : Option ByteArray := match ms.find? (fun m => decide (m.Name = name)) with | some m => (if (getS m.Labels zoneK).2 = true then some (getS m.Labels zoneK).1 else none) | none => none

theorem find_of_first {ms : List T_api_Machine} {name : ByteArray} {r : Int} (h : firstAt ms.length (fun k => ∃ h : k < ms.length, ms[k].Name = name) r) :
    (∃ k : Nat, ∃ hk : k < ms.length, r = (k : Int) ∧ ms.find? (fun m => decide (m.Name = name)) = some ms[k]) ∨ (r = -1 ∧ ms.find? (fun m => decide (m.Name = name)) = none) := by
  rcases h with ⟨q, rfl, b, ⟨c, d⟩, e⟩ | ⟨rfl, b⟩
  · refine .inl ⟨q, c, rfl, ?_⟩
    rw [List.find?_eq_some_iff_getElem]
    refine ⟨by simpa using d, q, c, rfl, fun j hj => ?_⟩
    have : ¬ ms[j].Name = name := fun h => e j hj ⟨by omega, h⟩
    simpa using this
  · refine .inr ⟨rfl, List.find?_eq_none.2 fun m hm => ?_⟩
    obtain ⟨i, hi, rfl⟩ := List.getElem_of_mem hm
    have : ¬ ms[i].Name = name := fun h => b i hi ⟨hi, h⟩
    simpa using this

theorem zone11_eq {ms : List T_api_Machine} (name : ByteArray) (hl : ms.length ≤ 1000) (hm : ∀ m, m ∈ ms → GM m) : ref11_zone ms name = some (((zoneS ms name).getD ⟨#[]⟩), (zoneS ms name).isSome) := by
  unfold ref11_zone zoneS
  obtain ⟨r, hr, hf⟩ := Find9_eq ms name (by omega)
  rw [hr]
  simp only [Option.bind_some]
  rcases find_of_first hf with ⟨k, hk, rfl, h2⟩ | ⟨rfl, h2⟩
  · rw [if_neg (by simp), glk hk, h2]
    have := (hm ms[k] (List.getElem_mem _)).lm.labels.1
    simp only [Option.bind_some]
    rw [Get5_eq (by omega)]
    simp only [Option.bind_some]
    show some ((getS ms[k].Labels zoneK).1, (getS ms[k].Labels zoneK).2) = _
    cases h : (getS ms[k].Labels zoneK).2 with
    | true => rfl
    | false =>
      have : (getS ms[k].Labels zoneK).1 = ⟨#[]⟩ := by
        unfold getS at h ⊢
        split at h
        · cases h
        · rfl
      rw [this]; rfl
  · rw [h2]; rfl

end Go.Proofs.YtbkdglcedgiogaaGreat.M

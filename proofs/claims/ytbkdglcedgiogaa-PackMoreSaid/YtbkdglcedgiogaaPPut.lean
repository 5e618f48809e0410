/-
  Plain laws: what fewer pods leave possible, and what a pod that is put where it can be leaves possible. Own text.
-/
import Derived.Test.YtbkdglcedgiogaaPFit1
namespace Go.Proofs.Ytbkdglcedgiogaa.M
open Go Go.Proofs Go.Proofs.Ytbkdglcedgiogaa.V
set_option linter.unusedVariables false

theorem whyV_zero {ms : List T_api_Machine} {bs : List T_api_Bound} {p : T_api_Pod} {m : T_api_Machine} : whyV ms bs p m = 0 ↔ placeV m p = 0 ∧ roomS m bs p = 0 ∧ nearB (zonesV ms) bs p m.Name = false ∧ manyV ms bs p m.Name = false := by
  unfold whyV suitV
  by_cases h1 : placeV m p = 0
  · by_cases h2 : roomS m bs p = 0
    · cases nearB (zonesV ms) bs p m.Name <;> cases manyV ms bs p m.Name <;> simp [h1, h2]
    · simp [h1, h2]
  · simp [h1]

theorem hit_comm : ∀ (a b : List Int), hit a b = hit b a := by
  intro a b
  induction a, b using hit.induct with
  | case1 b => rw [hit, hit_nil_r]
  | case2 a l => rw [hit_nil_r]; rw [hit]
  | case3 a l m => rw [hit, hit]; simp
  | case4 a l b m h1 h2 ih => rw [hit, if_neg h1, if_pos h2, ih, hit, if_neg (fun e => h1 e.symm), if_neg (by omega)]
  | case5 a l b m h1 h2 ih => rw [hit, if_neg h1, if_neg h2, ih, hit, if_neg (fun e => h1 e.symm), if_pos (by omega)]

theorem total_append (l m : List T_api_Pod) : total (l ++ m) = radd (total l) (total m) := by
  induction l with
  | nil => rw [List.nil_append]; show _ = radd r0 _; rw [radd_r0]
  | cons x l ih => rw [List.cons_append, total, total, ih, radd_assoc]

/-- All that is on a machine: one of them, and the others. -/
theorem total_split {k : ByteArray} {b : T_api_Bound} : ∀ {bs : List T_api_Bound}, (bs.map (·.Pod.Name)).Nodup → b ∈ bs → b.On = k → total (onS bs k) = radd (total (onS (othersS bs b.Pod.Name) k)) b.Pod.Need
  | x :: bs, hn, hb, hk => by
    rw [List.map_cons, List.nodup_cons] at hn
    have c1 : ∀ (y : T_api_Bound) (l : List T_api_Bound), onS (y :: l) k = (if y.On = k then [y.Pod] else []) ++ onS l k := fun y l => by
      unfold onS
      by_cases e : y.On = k
      · rw [if_pos e, List.filter_cons_of_pos (by simpa using e)]; rfl
      · rw [if_neg e, List.filter_cons_of_neg (by simpa using e)]; rfl
    have c2 : ∀ (y : T_api_Bound) (l : List T_api_Bound), othersS (y :: l) b.Pod.Name = (if y.Pod.Name = b.Pod.Name then [] else [y]) ++ othersS l b.Pod.Name := fun y l => by
      unfold othersS
      by_cases e : y.Pod.Name = b.Pod.Name
      · rw [if_pos e, List.filter_cons_of_neg (by simpa using e)]; rfl
      · rw [if_neg e, List.filter_cons_of_pos (by simpa using e)]; rfl
    rcases List.mem_cons.1 hb with rfl | hb
    · have : othersS bs b.Pod.Name = bs := by
        unfold othersS
        refine List.filter_eq_self.2 fun y hy => ?_
        have : y.Pod.Name ≠ b.Pod.Name := fun e => hn.1 (List.mem_map.2 ⟨y, hy, e⟩)
        simpa using this
      rw [c1, if_pos hk, c2, if_pos rfl, this, total_append, List.nil_append]
      show radd (radd b.Pod.Need r0) _ = _
      unfold radd r0
      congr 1 <;> simp only <;> omega
    · have hne : ¬ x.Pod.Name = b.Pod.Name := fun e => hn.1 (List.mem_map.2 ⟨b, hb, e.symm⟩)
      rw [c1, c2, if_neg hne, total_append, total_split hn.2 hb hk]
      show _ = radd (total (onS (x :: othersS bs b.Pod.Name) k)) _
      rw [c1, total_append, radd_assoc]

theorem fewer_sub {α : Type} (l : List α) (k : Nat) : (l.take k ++ l.drop (k + 1)).Sublist l := by
  have h : (l.take k ++ l.drop k) = l := List.take_append_drop k l
  have h2 : (l.drop (k + 1)).Sublist (l.drop k) := by
    rw [← List.drop_drop]
    exact List.drop_sublist _ _
  have := (List.Sublist.refl (l.take k)).append h2
  rw [h] at this
  exact this

theorem left_parts {has need : T_api_Res} {l : List T_api_Pod} (hn : need.Pods ≥ 1) (h : rle need (leftS has (usedS l)) = true) : (usedS l).2 = 0 ∧ resOK has = true := by
  by_cases hc : (usedS l).2 = 0 ∧ resOK has = true
  · exact hc
  · unfold leftS at h
    rw [if_neg hc, rle_iff] at h
    simp only [r0] at h
    omega

/-- With fewer pods what could be can be. -/
theorem why_fewer {ms : List T_api_Machine} {bs cs : List T_api_Bound} (hs : cs.Sublist bs) (hneeds : ∀ n k, needsOK (onS (othersS bs n) k) = true) {p : T_api_Pod} (hp : p.Need.Pods ≥ 1) (hsp : p.Spread.length = 0) {m : T_api_Machine} (h : whyV ms bs p m = 0) : whyV ms cs p m = 0 := by
  rw [whyV_zero] at h ⊢
  obtain ⟨h1, h2, h3, h4⟩ := h
  refine ⟨h1, ?_, ?_, many_none _ _ _ _ hsp⟩
  · rw [roomS_zero] at h2 ⊢
    obtain ⟨a, b, c, d⟩ := h2
    have hsub := others_sub hs p.Name m.Name
    obtain ⟨e, f⟩ := left_sub hsub (hneeds _ _) m.Has p.Need a c hp
    exact ⟨e, b, f, fun q hq => d q (hsub.subset hq)⟩
  · unfold nearB at h3 ⊢
    rw [List.any_eq_false] at h3 ⊢
    exact fun x hx => h3 x (hs.subset hx)

theorem tally_skip (zs : List (ByteArray × ByteArray)) (p : T_api_Pod) (x : T_api_Bound) (hx : x.Pod.Name = p.Name) : ∀ (l : List T_api_Bound) (k : Nat) (n : List (ByteArray × Int)), apart_tally.l1 p zs (l ++ [x]) k n = apart_tally.l1 p zs l k n
  | [], k, n => by
    rw [List.nil_append]
    simp only [apart_tally.l1, seq_eq, hx, decide_true, Bool.not_true, Bool.and_false, Bool.false_eq_true, if_false, Option.bind_some]
  | y :: l, k, n => by
    rw [List.cons_append, apart_tally.l1, apart_tally.l1]
    simp only [tally_skip zs p x hx l]
theorem many_skip (ms : List T_api_Machine) (bs : List T_api_Bound) (p : T_api_Pod) (x : T_api_Bound) (hx : x.Pod.Name = p.Name) (on : ByteArray) : manyV ms (bs ++ [x]) p on = manyV ms bs p on := by
  unfold manyV apart_Many apart_Counts apart_tally
  rw [zones_V]
  simp only [Option.bind_some, tally_skip (zonesV ms) p x hx]

/-- With a pod put where it can be: it can be there still. -/
theorem why_put_self {ms : List T_api_Machine} {bs : List T_api_Bound} {p : T_api_Pod} {n : ByteArray} {m : T_api_Machine} (h : whyV ms bs p m = 0) : whyV ms (bs ++ [⟨p, n⟩]) p m = 0 := by
  rw [whyV_zero] at h ⊢
  obtain ⟨h1, h2, h3, h4⟩ := h
  have ho : othersS (bs ++ [⟨p, n⟩]) p.Name = othersS bs p.Name := by unfold othersS; rw [List.filter_append]; simp
  refine ⟨h1, ?_, ?_, by rw [many_skip ms bs p ⟨p, n⟩ rfl]; exact h4⟩
  · rw [roomS_zero] at h2 ⊢
    rw [ho]; exact h2
  · unfold nearB at h3 ⊢
    rw [List.any_append, h3]
    simp [nearQ, seq_eq]

/-- .. and the others too. -/
theorem why_put_other {ms : List T_api_Machine} {bs : List T_api_Bound} (hnd : (bs.map (·.Pod.Name)).Nodup) (hneeds : ∀ n k, needsOK (onS (othersS bs n) k) = true) {p : T_api_Pod} (hpn : p.Need.Pods ≥ 1) {b : T_api_Bound} (hb : b ∈ bs) (hbn : b.Pod.Need.Pods ≥ 1) (hbs : b.Pod.Spread.length = 0)
    (hpos : ∀ x, x ∈ bs → x.Pod.Name ≠ p.Name) {m m0 : T_api_Machine} (hm : m.Name = b.On) (hne : m.Name ≠ ⟨#[]⟩) (huniq : m.Name = m0.Name → m = m0) (h0 : whyV ms bs p m0 = 0) (h : whyV ms bs b.Pod m = 0) : whyV ms (bs ++ [⟨p, m0.Name⟩]) b.Pod m = 0 := by
  rw [whyV_zero] at h h0 ⊢
  obtain ⟨h1, h2, h3, h4⟩ := h
  obtain ⟨g1, g2, g3, g4⟩ := h0
  have hpb : ¬ p.Name = b.Pod.Name := fun e => hpos b hb e.symm
  refine ⟨h1, ?_, ?_, many_none _ _ _ _ hbs⟩
  · have ho : othersS (bs ++ [⟨p, m0.Name⟩]) b.Pod.Name = othersS bs b.Pod.Name ++ [⟨p, m0.Name⟩] := by unfold othersS; rw [List.filter_append]; simp [hpb]
    have hop : othersS bs p.Name = bs := by
      unfold othersS
      exact List.filter_eq_self.2 fun y hy => by simpa using hpos y hy
    rw [roomS_zero] at h2 g2 ⊢
    rw [ho]
    have hon : onS (othersS bs b.Pod.Name ++ [⟨p, m0.Name⟩]) m.Name = onS (othersS bs b.Pod.Name) m.Name ++ (if m0.Name = m.Name then [p] else []) := by
      unfold onS
      rw [List.filter_append, List.map_append]
      by_cases e : m0.Name = m.Name <;> simp [e]
    rw [hon]
    obtain ⟨a1, a2, a3, a4⟩ := h2
    by_cases e : m0.Name = m.Name
    · have em := huniq e.symm
      subst em
      rw [if_pos rfl]
      rw [hop] at g2
      obtain ⟨b1, b2, b3, b4⟩ := g2
      obtain ⟨u1, u2⟩ := left_parts hbn a3
      obtain ⟨v1, v2⟩ := left_parts hpn b3
      obtain ⟨w1, w2, w3, w4⟩ := usedS_ok _ u1
      obtain ⟨x1, x2, x3, x4⟩ := usedS_ok _ v1
      have hts := total_split hnd hb hm.symm
      have hnn := total_nn w3
      generalize hA : onS (othersS bs b.Pod.Name) m.Name = A at *
      have hh := (resOK_iff _).1 u2
      have hpn' := (resOK_iff _).1 b2
      have hbn' := (resOK_iff _).1 a2
      have hta := (resOK_iff _).1 w4
      unfold leftS at a3 b3
      rw [if_pos ⟨u1, u2⟩, w2, rle_iff] at a3
      rw [if_pos ⟨v1, v2⟩, x2, hts, rle_iff] at b3
      simp only [rsub, rmin, radd] at a3 b3
      have htot : total (A ++ [p]) = radd (total A) p.Need := by
        rw [total_append]
        show radd _ (radd p.Need r0) = _
        unfold radd r0
        congr 1 <;> simp
      have hok : resOK (total (A ++ [p])) = true := by
        rw [htot, resOK_iff]
        simp only [radd]
        omega
      have hneed : needsOK (A ++ [p]) = true := by
        unfold needsOK at w3 ⊢
        rw [List.all_append, w3]
        simp [b2]
      have hus : usedS (A ++ [p]) = (total (A ++ [p]), 0) := by unfold usedS; rw [if_pos hneed, if_pos hok]
      rw [hus]
      unfold leftS
      rw [if_pos ⟨rfl, u2⟩]
      refine ⟨?_, a2, ?_, fun q hq => ?_⟩
      · rw [resOK_iff, htot]
        simp only [rsub, rmin, radd]
        omega
      · rw [rle_iff, htot]
        simp only [rsub, rmin, radd]
        omega
      · rcases List.mem_append.1 hq with hq | hq
        · exact a4 q hq
        · have : q = p := by simpa using hq
          subst this
          rw [hit_comm]
          refine b4 b.Pod ?_
          unfold onS
          exact List.mem_map.2 ⟨b, List.mem_filter.2 ⟨hb, by simp [hm]⟩, rfl⟩
    · rw [if_neg e, List.append_nil]
      exact ⟨a1, a2, a3, a4⟩
  · unfold nearB at h3 g3 ⊢
    rw [List.any_append, h3]
    have hq := List.any_eq_false.1 g3 b hb
    unfold nearQ at hq
    simp only [seq_eq, ← hm] at hq
    simp only [List.any_cons, List.any_nil, Bool.or_false, Bool.false_or]
    unfold nearQ
    simp only [seq_eq]
    have e1 : decide (m.Name = (⟨#[]⟩ : ByteArray)) = false := by simpa using hne
    have e2 : decide (b.Pod.Name = p.Name) = false := by simpa using hpos b hb
    rw [e1, e2] at hq
    cases c1 : barsB (zonesV ms) p b.Pod m0.Name m.Name with
    | true => rw [c1] at hq; simp at hq
    | false =>
      cases c2 : barsB (zonesV ms) b.Pod p m.Name m0.Name with
      | true => rw [c1, c2] at hq; simp at hq
      | false => simp
end Go.Proofs.Ytbkdglcedgiogaa.M

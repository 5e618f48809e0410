/-
  Plain laws of suit: SuitLess. Own text.
-/
import Derived.Test.YtcblmlkpcplkfaaPSuit2
namespace Go.Proofs.Ytcblmlkpcplkfaa.M
open Go Go.Proofs Go.Proofs.Ytcblmlkpcplkfaa.V
set_option linter.unusedVariables false

/-- Fewer pods: what is used is no more, and what is left no less. -/
theorem total_sub {l m : List T_api_Pod} (h : l.Sublist m) (hm : needsOK m = true) : needsOK l = true ∧ (total l).Cpu ≤ (total m).Cpu ∧ (total l).Mem ≤ (total m).Mem ∧ (total l).Disk ≤ (total m).Disk ∧ (total l).Pods ≤ (total m).Pods ∧ (total l).Dev ≤ (total m).Dev := by
  induction h with
  | slnil => exact ⟨hm, by simp⟩
  | cons a h ih =>
    unfold needsOK at hm
    simp only [List.all_cons, Bool.and_eq_true] at hm
    have h1 := (resOK_iff _).1 hm.1
    obtain ⟨k1, k2⟩ := ih hm.2
    refine ⟨k1, ?_⟩
    simp only [total, radd]
    omega
  | cons_cons a h ih =>
    unfold needsOK at hm
    simp only [List.all_cons, Bool.and_eq_true] at hm
    obtain ⟨k1, k2⟩ := ih hm.2
    refine ⟨by unfold needsOK; simp only [List.all_cons, hm.1, Bool.true_and]; exact k1, ?_⟩
    simp only [total, radd]
    omega

theorem left_sub {l m : List T_api_Pod} (h : l.Sublist m) (hm : needsOK m = true) (has need : T_api_Res) (h1 : resOK (leftS has (usedS m)) = true) (h2 : rle need (leftS has (usedS m)) = true) (hn : need.Pods ≥ 1) : resOK (leftS has (usedS l)) = true ∧ rle need (leftS has (usedS l)) = true := by
  obtain ⟨k1, k2⟩ := total_sub h hm
  have hu : (usedS m).2 = 0 ∧ resOK has = true := by
    by_cases hc : (usedS m).2 = 0 ∧ resOK has = true
    · exact hc
    · unfold leftS at h2
      rw [if_neg hc, rle_iff] at h2
      simp only [r0] at h2
      omega
  obtain ⟨u1, u2, u3, u4⟩ := usedS_ok m hu.1
  have hnn := total_nn k1
  have hl : usedS l = (total l, 0) := by
    unfold usedS
    have : resOK (total l) = true := by
      rw [resOK_iff] at u4 ⊢
      omega
    rw [if_pos k1, if_pos this]
  have ho : resOK (total l) = true := by
    rw [resOK_iff] at u4 ⊢
    omega
  have hh := (resOK_iff _).1 hu.2
  unfold leftS at h1 h2 ⊢
  rw [if_pos hu, u2] at h1 h2
  rw [hl, if_pos ⟨rfl, hu.2⟩]
  rw [rle_iff] at h2 ⊢
  rw [resOK_iff] at h1 ⊢
  simp only [rsub, rmin] at h1 h2 ⊢
  omega

theorem others_sub {bs cs : List T_api_Bound} (h : bs.Sublist cs) (n k : ByteArray) : (onS (othersS bs n) k).Sublist (onS (othersS cs n) k) := by
  unfold onS othersS
  exact (((h.filter _).filter _).map _)

theorem roomS_zero {m : T_api_Machine} {bs : List T_api_Bound} {p : T_api_Pod} : roomS m bs p = 0 ↔ resOK (leftS m.Has (usedS (onS (othersS bs p.Name) m.Name))) = true ∧ resOK p.Need = true ∧ rle p.Need (leftS m.Has (usedS (onS (othersS bs p.Name) m.Name))) = true ∧
    ∀ q, q ∈ onS (othersS bs p.Name) m.Name → hit p.Ports q.Ports = false := by
  unfold roomS
  by_cases h : (resOK (leftS m.Has (usedS (onS (othersS bs p.Name) m.Name))) && resOK p.Need && rle p.Need (leftS m.Has (usedS (onS (othersS bs p.Name) m.Name)))) = true
  · rw [if_pos h]
    simp only [Bool.and_eq_true] at h
    cases ha : (onS (othersS bs p.Name) m.Name).any (fun q => hit p.Ports q.Ports) with
    | true =>
      simp only [cond_true]
      obtain ⟨q, h1, h2⟩ := List.any_eq_true.1 ha
      constructor
      · intro h; omega
      · rintro ⟨_, _, _, h3⟩
        rw [h3 q h1] at h2
        cases h2
    | false =>
      simp only [cond_false, true_iff]
      exact ⟨h.1.1, h.1.2, h.2, fun q hq => by
        have := List.any_eq_false.1 ha q hq
        simpa using this⟩
  · rw [if_neg h]
    simp only [Bool.and_eq_true] at h
    constructor
    · intro h; omega
    · rintro ⟨h1, h2, h3, _⟩
      exact absurd ⟨⟨h1, h2⟩, h3⟩ h

theorem needs_ry {ms : List T_api_Machine} {bs : List T_api_Bound} (hy : LY ms bs) (hr : RY ms bs) (n k : ByteArray) : needsOK (onS (othersS bs n) k) = true := by
  unfold needsOK
  rw [List.all_eq_true]
  intro q hq
  unfold onS othersS at hq
  obtain ⟨b, h1, rfl⟩ := List.mem_map.1 hq
  obtain ⟨i, hi, rfl⟩ := List.getElem_of_mem (List.mem_filter.1 (List.mem_filter.1 h1).1).1
  exact (RPod_need (hy.bs i hi).1 (hr.rb i hi)).1

theorem Place_same {m : T_api_Machine} {p q : T_api_Pod} (h1 : p.Select = q.Select) (h2 : p.Terms = q.Terms) (h3 : p.Bears = q.Bears) : suit_Place m p = suit_Place m q := by
  unfold suit_Place; rw [h1, h2, h3]

theorem Suits_zero {m : T_api_Machine} {bs : List T_api_Bound} {p : T_api_Pod} {w : Int} (hw : suit_Place m p = some w) (hl : bs.length ≤ 1000) (hp : p.Ports.length ≤ 1000) (hb : ∀ b, b ∈ bs → b.Pod.Ports.length ≤ 1000) {r : Int} (hr : suit_Suits m bs p = some r) :
    r = 0 ↔ (¬ (w = 1 ∨ w = 4 ∨ w = 5 ∨ w = 6)) ∧ roomS m bs p = 0 := by
  rw [Suits_eq hw hl hp hb] at hr
  simp only [Option.some.injEq] at hr
  subst hr
  by_cases h : w = 1 ∨ w = 4 ∨ w = 5 ∨ w = 6
  · rw [if_pos h]; constructor
    · intro h0; omega
    · rintro ⟨h1, _⟩; exact absurd h h1
  · rw [if_neg h]; exact ⟨fun h0 => ⟨h, h0⟩, fun h0 => h0.2⟩

theorem sl_pre {α : Type} {l : List α} {k : Nat} (h : k ≤ l.length) : V.sl l none (some (k : Int)) = some (l.take k) := by
  unfold V.sl
  rw [if_pos ⟨⟨by simp, by simp⟩, by simp [lowN, highN], by simpa [highN] using h⟩]
  simp [lowN, highN]
theorem sl_suf {α : Type} {l : List α} {k : Nat} (h : k ≤ l.length) : V.sl l (some (k : Int)) none = some (l.drop k) := by
  unfold V.sl
  rw [if_pos ⟨⟨by simp, by simp⟩, by simpa [lowN, highN] using h, by simp [highN]⟩]
  simp [lowN, highN]

theorem SuitLess_true (c : T_law10_Case) (_ : T_law10_Case.ok c) : law10_SuitLess c = some true := by
  unfold law10_SuitLess
  refine guard10 _ _ _ _ _ (by rw [known10_true]; rfl) fun hy hp hr hrp => ?_
  have hm : LM c.M := hy.ms 0 (by simp)
  have hnb := hy.nb
  have hports : ∀ b, b ∈ c.Bs → b.Pod.Ports.length ≤ 1000 := fun b hb => by
    obtain ⟨i, hi, rfl⟩ := List.getElem_of_mem hb
    have := (hy.bs i hi).1.nports
    omega
  have hpp : c.P_.Ports.length ≤ 1000 := by have := hp.nports; omega
  obtain ⟨w, hw⟩ := Place_tot hm hp
  have hs := Suits_eq (bs := c.Bs) hw (by omega) hpp hports
  obtain ⟨hneed, hone⟩ := RPod_need hp hrp
  rw [hs]
  simp only [Option.bind_some]
  by_cases h0 : (if w = 1 ∨ w = 4 ∨ w = 5 ∨ w = 6 then w else roomS c.M c.Bs c.P_) = 0
  · rw [if_neg (by simpa using h0)]
    have hz := (Suits_zero hw (by omega) hpp hports hs).1 h0
    obtain ⟨hnw, hroom⟩ := hz
    obtain ⟨z1, z2, z3, z4⟩ := roomS_zero.1 hroom
    -- with less need, without ports
    have hq : ∀ need : T_api_Res, resOK need = true → rle need c.P_.Need = true → suit_Suits c.M c.Bs (⟨c.P_.Name, need, c.P_.Labels, c.P_.Select, c.P_.Terms, c.P_.Bears, ([] : List Int), c.P_.Apart, c.P_.Wide, c.P_.Spread, c.P_.Skew, c.P_.Rank, c.P_.Owner, c.P_.Daemon, c.P_.Pinned, c.P_.Local⟩ : T_api_Pod) = some 0 := by
      intro need h1 h2
      rw [Suits_eq (w := w) (by rw [← hw]; exact Place_same rfl rfl rfl) (by omega) (by simp) hports, if_neg hnw]
      congr 1
      refine roomS_zero.2 ⟨z1, h1, ?_, fun q _ => by simp [hit]⟩
      rw [rle_iff] at h2 z3 ⊢
      exact ⟨Int.le_trans h2.1 z3.1, Int.le_trans h2.2.1 z3.2.1, Int.le_trans h2.2.2.1 z3.2.2.1, Int.le_trans h2.2.2.2.1 z3.2.2.2.1, Int.le_trans h2.2.2.2.2 z3.2.2.2.2⟩
    have hsome : ∃ q : T_api_Pod, ((ref04_Right c.Less).bind fun r8 => if r8 = true then (ref04_Least c.P_.Need c.Less).bind fun r9 =>
        some (⟨c.P_.Name, (⟨r9.Cpu, r9.Mem, r9.Disk, (1 : Int), r9.Dev⟩ : T_api_Res), c.P_.Labels, c.P_.Select, c.P_.Terms, c.P_.Bears, ([] : List Int), c.P_.Apart, c.P_.Wide, c.P_.Spread, c.P_.Skew, c.P_.Rank, c.P_.Owner, c.P_.Daemon, c.P_.Pinned, c.P_.Local⟩ : T_api_Pod)
      else some (⟨c.P_.Name, c.P_.Need, c.P_.Labels, c.P_.Select, c.P_.Terms, c.P_.Bears, ([] : List Int), c.P_.Apart, c.P_.Wide, c.P_.Spread, c.P_.Skew, c.P_.Rank, c.P_.Owner, c.P_.Daemon, c.P_.Pinned, c.P_.Local⟩ : T_api_Pod)) = some q ∧ suit_Suits c.M c.Bs q = some 0 := by
      rw [ref04_Right_eq]
      simp only [Option.bind_some]
      by_cases hl : resOK c.Less = true
      · rw [if_pos hl]
        have e : ref04_Least c.P_.Need c.Less = some (rmin c.P_.Need c.Less) := by
          unfold ref04_Least
          rw [ref04_Right_eq, ref04_Right_eq, hneed, hl]
          rfl
        rw [e]
        refine ⟨_, rfl, hq _ ?_ ?_⟩
        · rw [resOK_iff] at hneed hl ⊢
          simp only [rmin]
          omega
        · rw [rle_iff]
          simp only [rmin]
          omega
      · rw [if_neg hl]
        exact ⟨_, rfl, hq _ hneed (by rw [rle_iff]; omega)⟩
    obtain ⟨q, q1, q2⟩ := hsome
    rw [q1]
    simp only [Option.bind_some, q2, bne_self_eq_false, Bool.false_eq_true, if_false]
    -- with fewer pods
    rcases loopI (F := fun n i => law10_SuitLess.l1 c n i) (Q := fun _ => False) (S := fun _ => True) (len := c.Bs.length) (by omega) (fun n k hk => by
        right
        have hsub : (c.Bs.take k ++ c.Bs.drop (k + 1)).Sublist c.Bs := by
          have e : c.Bs = c.Bs.take k ++ c.Bs.drop k := (List.take_append_drop _ _).symm
          conv => rhs; rw [e]
          refine List.Sublist.append (List.Sublist.refl _) ?_
          rw [← List.drop_drop]
          exact List.drop_sublist _ _
        have hlen : (c.Bs.take k ++ c.Bs.drop (k + 1)).length ≤ 1000 := by have := hsub.length_le; omega
        rw [law10_SuitLess.l1, if_pos (dlt hk), sl_pre (by omega), wk1 (by omega), sl_suf (by omega)]
        simp only [Option.bind_some]
        rw [ap_ok (by omega) (by simp; omega)]
        simp only [Option.bind_some, List.nil_append]
        rw [ap_ok (by omega) (by simp; omega)]
        simp only [Option.bind_some]
        rw [Suits_eq hw hlen hpp (fun b hb => hports b (hsub.subset hb)), if_neg hnw]
        have : roomS c.M (c.Bs.take k ++ c.Bs.drop (k + 1)) c.P_ = 0 := by
          have hs2 := others_sub hsub c.P_.Name c.M.Name
          obtain ⟨y1, y2⟩ := left_sub hs2 (needs_ry hy hr _ _) c.M.Has c.P_.Need z1 z3 (by omega)
          exact roomS_zero.2 ⟨y1, z2, y2, fun q hq => z4 q (hs2.subset hq)⟩
        rw [this]
        exact ⟨rfl, trivial⟩) (fun n => by rw [law10_SuitLess.l1, if_neg dnl]) with ⟨r, h1, h2⟩ | ⟨h1, _⟩
    · exact absurd h2 id
    · rw [h1, known10_true]; rfl
  · rw [if_pos (by simpa using h0), known10_true]; rfl
end Go.Proofs.Ytcblmlkpcplkfaa.M

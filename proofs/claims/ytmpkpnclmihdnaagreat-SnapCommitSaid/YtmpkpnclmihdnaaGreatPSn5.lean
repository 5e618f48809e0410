/-
  Printed by a program of this session out of the loaded functions: models and their proofs. Own text.
-/
import Derived.Test.YtmpkpnclmihdnaaGreatPSn2
/-
  Plain laws of the snapshot: what is done, by the program and by the document, alike. Own text.
-/
namespace Go.Proofs.YtmpkpnclmihdnaaGreat.M
open Go Go.Proofs Go.Proofs.YtmpkpnclmihdnaaGreat.V
open Go.IntKind (i64)
set_option linter.unusedVariables false
set_option maxRecDepth 20000

/-- A right yard, that is not too large. -/
structure YI (a b : Nat) (ms : List T_api_Machine) (bs : List T_api_Bound) : Prop where
  nm : ms.length ≤ a
  nb : bs.length ≤ b
  gm : ∀ m, m ∈ ms → LM m ∧ m.Name ≠ ⟨#[]⟩ ∧ ref07_RightMachine m = some true
  gb : ∀ x, x ∈ bs → LP x.Pod ∧ ref07_RightPod x.Pod = some true
  mu : (ms.map (·.Name)).Nodup
  bu : (bs.map (·.Pod.Name)).Nodup
  on : ∀ x, x ∈ bs → x.On ≠ ⟨#[]⟩ → x.On ∈ ms.map (·.Name)

theorem YI.more {a b a' b' : Nat} {ms : List T_api_Machine} {bs : List T_api_Bound} (h : YI a b ms bs) (ha : a ≤ a') (hb : b ≤ b') : YI a' b' ms bs := ⟨Nat.le_trans h.nm ha, Nat.le_trans h.nb hb, h.gm, h.gb, h.mu, h.bu, h.on⟩

theorem nd_at {α β : Type} {f : α → β} {l : List α} (h : (l.map f).Nodup) (j k : Nat) (hj : j < l.length) (hk : k < l.length) (e : f l[j] = f l[k]) : j = k := by
  have hp := (show (l.map f).Nodup ↔ _ from List.pairwise_iff_getElem).1 h
  by_cases q : j = k
  · exact q
  · exfalso
    rcases Nat.lt_or_gt_of_ne q with hlt | hlt
    · exact hp j k (by simpa using hj) (by simpa using hk) hlt (by simpa using e)
    · exact hp k j (by simpa using hk) (by simpa using hj) hlt (by simpa using e.symm)
theorem at_nd {α β : Type} {f : α → β} {l : List α} (h : ∀ j k (hj : j < l.length) (hk : k < l.length), f l[j] = f l[k] → j = k) : (l.map f).Nodup := by
  rw [show (l.map f).Nodup ↔ _ from List.pairwise_iff_getElem]
  intro i j hi hj hij e
  rw [List.length_map] at hi hj
  have := h i j hi hj (by simpa using e)
  omega

theorem YI.ry {a b : Nat} {ms : List T_api_Machine} {bs : List T_api_Bound} (h : YI a b ms bs) : RY ms bs :=
  ⟨fun k hk => (h.gm _ (List.getElem_mem hk)).2, fun k hk => (h.gb _ (List.getElem_mem hk)).2, fun j k hj hk e => nd_at h.mu j k hj hk e, fun j k hj hk e => nd_at (f := fun x : T_api_Bound => x.Pod.Name) h.bu j k hj hk e, fun k hk e => by
    obtain ⟨m, hm, e2⟩ := List.mem_map.1 (h.on _ (List.getElem_mem hk) e)
    obtain ⟨j, hj, rfl⟩ := List.getElem_of_mem hm
    exact ⟨j, hj, e2⟩⟩
theorem YI.of {ms : List T_api_Machine} {bs : List T_api_Bound} (hy : LY ms bs) (hr : RY ms bs) : YI 20 40 ms bs := by
  refine ⟨hy.nm, hy.nb, fun m hm => ?_, fun x hx => ?_, at_nd fun j k hj hk e => hr.mu j k hj hk e, at_nd (f := fun x : T_api_Bound => x.Pod.Name) fun j k hj hk e => hr.bu j k hj hk e, fun x hx e => ?_⟩
  · obtain ⟨i, hi, rfl⟩ := List.getElem_of_mem hm
    exact ⟨hy.ms i hi, hr.rm i hi⟩
  · obtain ⟨i, hi, rfl⟩ := List.getElem_of_mem hx
    exact ⟨(hy.bs i hi).1, hr.rb i hi⟩
  · obtain ⟨i, hi, rfl⟩ := List.getElem_of_mem hx
    obtain ⟨j, hj, e2⟩ := hr.on i hi e
    exact e2 ▸ List.mem_map.2 ⟨_, List.getElem_mem hj, rfl⟩

/-- The program's snapshot is the document's. -/
structure SR (s : T_snap_Snap) (r : T_ref13_Snap) : Prop where
  now : s.now = some ⟨r.Y.Ms, r.Y.Bs⟩
  kept : s.kept = r.Kept.map fun y => ⟨y.Ms, y.Bs⟩
structure SI (a b : Nat) (r : T_ref13_Snap) : Prop where
  y : YI a b r.Y.Ms r.Y.Bs
  k : ∀ y, y ∈ r.Kept → YI a b y.Ms y.Bs
  n : r.Kept.length ≤ 20
theorem SI.more {a b a' b' : Nat} {r : T_ref13_Snap} (h : SI a b r) (ha : a ≤ a') (hb : b ≤ b') : SI a' b' r := ⟨h.y.more ha hb, fun y hy => (h.k y hy).more ha hb, h.n⟩

def restL {α : Type} (l : List α) (k : Nat) : List α := l.take k ++ l.drop (k + 1)
theorem restL_sub {α : Type} (l : List α) (k : Nat) : (restL l k).Sublist l := by
  unfold restL
  have h : (l.take k ++ l.drop (k + 1)).Sublist (l.take k ++ l.drop k) := List.Sublist.append_left (by
    rw [← List.drop_drop]
    exact List.drop_sublist 1 _) _
  rwa [List.take_append_drop] at h
theorem restL_mem {α : Type} {l : List α} {k : Nat} (hk : k < l.length) {x : α} (hx : x ∈ l) : x = l[k] ∨ x ∈ restL l k := by
  obtain ⟨i, hi, rfl⟩ := List.getElem_of_mem hx
  unfold restL
  rcases Nat.lt_trichotomy i k with h | h | h
  · right; refine List.mem_append.2 (.inl ?_)
    rw [List.mem_iff_getElem]
    exact ⟨i, by simp; omega, by simp⟩
  · left; subst h; rfl
  · right; refine List.mem_append.2 (.inr ?_)
    rw [List.mem_iff_getElem]
    exact ⟨i - (k + 1), by simp; omega, by simp [show k + 1 + (i - (k + 1)) = i by omega]⟩
theorem cut_P {α : Type} {b : Nat} (hb : b ≤ 1000) {l : List α} (hl : l.length ≤ 1000) {k : Nat} (hk : k < l.length) {β : Type} (f : List α → Option β) : ((V.sl l none (some (k : Int))).bind fun v => (V.sl l (some (i64.wrap ((k : Int) + 1))) none).bind fun v2 => (V.ap b v v2).bind f) = f (restL l k) := by
  rw [sl_pre (by omega), wk1 (by omega), sl_suf (by omega)]
  simp only [Option.bind_some]
  rw [ap_ok hb (by simp; omega)]
  rfl
theorem cut_R {α : Type} {b : Nat} (hb : b ≤ 1000) {l : List α} (hl : l.length ≤ 1000) {k : Nat} (hk : k < l.length) {β : Type} (f : List α → Option β) : ((V.sl l none (some (k : Int))).bind fun v => (V.ap b [] v).bind fun u => (V.sl l (some (i64.wrap ((k : Int) + 1))) none).bind fun v2 => (V.ap b u v2).bind f) = f (restL l k) := by
  rw [sl_pre (by omega), wk1 (by omega), sl_suf (by omega)]
  simp only [Option.bind_some]
  rw [ap_ok hb (by simp; omega)]
  simp only [Option.bind_some, List.nil_append]
  rw [ap_ok hb (by simp; omega)]
  rfl

/-- What an operation on the yard answers, and leaves. -/
theorem add_d {a b : Nat} (K : List T_ref13_Yard) (ha : a ≤ 100) (hb : b ≤ 200) {ms : List T_api_Machine} {bs : List T_api_Bound} (h : YI a b ms bs) {m : T_api_Machine} (hm : LM m) :
    ∃ e ms', YI (a + 1) b ms' bs ∧ snap_Snap_Add_1 ⟨ms, bs⟩ m = some (e, ⟨ms', bs⟩) ∧ (e ≠ 0 → ms' = ms) ∧ ref13_Snap_Add ⟨⟨ms, bs⟩, K⟩ m = some (e, ⟨⟨ms', bs⟩, K⟩) := by
  have h1 := h.nm
  have h0 := h.more (Nat.le_succ a) (Nat.le_refl b)
  unfold snap_Snap_Add_1 ref13_Snap_Add
  simp only [seq_eq, spec_Mach_eq hm, ref07_Mach_eq hm, Option.bind_some]
  by_cases e1 : m.Name = ⟨#[]⟩
  · simp only [e1, decide_true, if_true, Option.bind_some]
    exact ⟨12, ms, h0, rfl, fun _ => rfl, rfl⟩
  · simp only [e1, decide_false, Bool.false_eq_true, if_false, Option.bind_some]
    cases e2 : machB m with
    | false => exact ⟨12, ms, h0, rfl, fun _ => rfl, rfl⟩
    | true =>
      simp only [Bool.not_true, Bool.false_eq_true, if_false]
      obtain ⟨r, f1, f2, f3⟩ := find_d ms m.Name (by omega)
      rw [f1, f2]
      simp only [Option.bind_some]
      rcases f3 with ⟨rfl, f4⟩ | ⟨k, rfl, f4, f5⟩
      · rw [if_neg (by decide), if_neg (by simp; omega), if_neg (by decide), if_neg (by simp; omega), sl_pre (Nat.le_refl _), List.take_length, snap_mach hm]
        simp only [Option.bind_some]
        rw [ap_ok (by omega) (by simp; omega), ap_ok (by omega) (by simp; omega)]
        simp only [Option.bind_some, List.nil_append]
        rw [ap_ok (by omega) (by simp; omega)]
        refine ⟨0, ms ++ [m], ⟨by simp; omega, h.nb, fun x hx => ?_, h.gb, ?_, h.bu, fun x hx e => ?_⟩, rfl, fun q => absurd rfl q, rfl⟩
        · rcases List.mem_append.1 hx with hx | hx
          · exact h.gm x hx
          · rw [List.mem_singleton.1 hx]
            exact ⟨hm, e1, by rw [ref07_Mach_eq hm, e2]⟩
        · rw [List.map_append, List.nodup_append]
          refine ⟨h.mu, by simp, fun x hx y hy q => ?_⟩
          simp only [List.map_cons, List.map_nil, List.mem_singleton] at hy
          subst hy; subst q
          exact f4 hx
        · rw [List.map_append]; exact List.mem_append.2 (.inl (h.on x hx e))
      · rw [if_pos (by simp), if_pos (by simp)]
        exact ⟨15, ms, h0, rfl, fun _ => rfl, rfl⟩

theorem drop_d {a b : Nat} (K : List T_ref13_Yard) (ha : a ≤ 100) (hb : b ≤ 200) {ms : List T_api_Machine} {bs : List T_api_Bound} (h : YI a b ms bs) (name : ByteArray) :
    ∃ e ms', YI a b ms' bs ∧ snap_Snap_Drop_1 ⟨ms, bs⟩ name = some (e, ⟨ms', bs⟩) ∧ (e ≠ 0 → ms' = ms) ∧ ref13_Snap_Drop ⟨⟨ms, bs⟩, K⟩ name = some (e, ⟨⟨ms', bs⟩, K⟩) := by
  have h1 := h.nm
  have h2 := h.nb
  unfold snap_Snap_Drop_1 ref13_Snap_Drop
  simp only
  obtain ⟨r, f1, f2, f3⟩ := find_d ms name (by omega)
  rw [f1, f2, On_eq bs name (by omega), On9_eq bs name (by omega)]
  simp only [Option.bind_some]
  rcases f3 with ⟨rfl, f4⟩ | ⟨k, rfl, f4, f5⟩
  · rw [if_pos (by decide), if_pos (by decide)]
    exact ⟨16, ms, h, rfl, fun _ => rfl, rfl⟩
  · rw [show (decide ((k : Int) < 0)) = false by simp]
    simp only [Bool.false_eq_true, if_false]
    by_cases e : (onS bs name).length = 0
    · rw [show (decide (((onS bs name).length : Int) > 0)) = false by simp [e]]
      simp only [Bool.false_eq_true, if_false]
      rw [cut_P (by omega) (by omega) f4, cut_R (by omega) (by omega) f4]
      have hnil : onS bs name = [] := List.eq_nil_of_length_eq_zero e
      refine ⟨0, restL ms k, ⟨Nat.le_trans (restL_sub ms k).length_le h1, h2, fun x hx => h.gm x ((restL_sub ms k).subset hx), h.gb, h.mu.sublist ((restL_sub ms k).map _), h.bu, fun x hx q => ?_⟩, rfl, fun q => absurd rfl q, rfl⟩
      obtain ⟨m, hm, hme⟩ := List.mem_map.1 (h.on x hx q)
      rcases restL_mem f4 hm with rfl | hm
      · exfalso
        have : x.Pod ∈ onS bs name := by
          unfold onS
          exact List.mem_map.2 ⟨x, List.mem_filter.2 ⟨hx, by simpa using hme.symm.trans f5⟩, rfl⟩
        rw [hnil] at this
        cases this
      · exact List.mem_map.2 ⟨m, hm, hme⟩
    · rw [show (decide (((onS bs name).length : Int) > 0)) = true by simp; omega]
      simp only [if_true]
      exact ⟨22, ms, h, rfl, fun _ => rfl, rfl⟩

theorem put_d {a b : Nat} (K : List T_ref13_Yard) (ha : a ≤ 100) (hb : b ≤ 200) {ms : List T_api_Machine} {bs : List T_api_Bound} (h : YI a b ms bs) {p : T_api_Pod} (hp : LP p) (on : ByteArray) :
    ∃ e bs', YI a (b + 1) ms bs' ∧ snap_Snap_Put_1 ⟨ms, bs⟩ p on = some (e, ⟨ms, bs'⟩) ∧ (e ≠ 0 → bs' = bs) ∧ ref13_Snap_Put ⟨⟨ms, bs⟩, K⟩ p on = some (e, ⟨⟨ms, bs'⟩, K⟩) := by
  have h1 := h.nm
  have h2 := h.nb
  have h0 := h.more (Nat.le_refl a) (Nat.le_succ b)
  unfold snap_Snap_Put_1 ref13_Snap_Put
  simp only [seq_eq, spec_Pod_eq hp, ref07_Pod_eq hp, Option.bind_some]
  cases e2 : podB p with
  | false => exact ⟨12, bs, h0, rfl, fun _ => rfl, rfl⟩
  | true =>
    simp only [Bool.not_true, Bool.false_eq_true, if_false]
    obtain ⟨r, f1, f2, f3⟩ := find_d ms on (by omega)
    rw [f1, f2]
    simp only [Option.bind_some]
    have hdone : (on = ⟨#[]⟩ ∨ on ∈ ms.map (·.Name)) → ∃ e bs', YI a (b + 1) ms bs' ∧ ((if (decide ((bs.length : Int) ≥ 400)) = true then (yard_Place bs p.Name).bind fun r3 => some (decide (r3 < 0)) else some false).bind fun c2 => if c2 = true then some ((7 : Int), (⟨ms, bs⟩ : T_snap_state)) else (snap_pod p).bind fun r4 => (fit_Put bs r4 on).bind fun r5 => some (0, ⟨ms, r5⟩)) = some (e, ⟨ms, bs'⟩) ∧ (e ≠ 0 → bs' = bs) ∧
        ((if (decide ((bs.length : Int) ≥ 400)) = true then (ref09_Place bs p.Name).bind fun r3 => some (decide (r3 < 0)) else some false).bind fun c2 => if c2 = true then some ((7 : Int), (⟨⟨ms, bs⟩, K⟩ : T_ref13_Snap)) else (ref12_Put bs p on).bind fun r4 => some (0, ⟨⟨ms, r4⟩, K⟩)) = some (e, ⟨⟨ms, bs'⟩, K⟩) := by
      intro hon
      obtain ⟨g1, g2⟩ := fit_put bs p on (by omega)
      rw [if_neg (by simp; omega), if_neg (by simp; omega), snap_pod_eq hp]
      simp only [Option.bind_some, Bool.false_eq_true, if_false, g1, g2]
      have hol : (othersS bs p.Name).length ≤ bs.length := List.length_filter_le _ _
      have hos : (othersS bs p.Name).Sublist bs := List.filter_sublist
      refine ⟨0, othersS bs p.Name ++ [⟨p, on⟩], ⟨h1, by simp; omega, h.gm, fun x hx => ?_, h.mu, ?_, fun x hx q => ?_⟩, rfl, fun q => absurd rfl q, rfl⟩
      · rcases List.mem_append.1 hx with hx | hx
        · exact h.gb x (hos.subset hx)
        · rw [List.mem_singleton.1 hx]; exact ⟨hp, by rw [ref07_Pod_eq hp, e2]⟩
      · rw [List.map_append, List.nodup_append]
        refine ⟨h.bu.sublist (hos.map _), by simp, fun x hx y hy q => ?_⟩
        simp only [List.map_cons, List.map_nil, List.mem_singleton] at hy
        subst hy; subst q
        obtain ⟨z, hz, hze⟩ := List.mem_map.1 hx
        unfold othersS at hz
        exact (by simpa using (List.mem_filter.1 hz).2 : z.Pod.Name ≠ p.Name) hze
      · rcases List.mem_append.1 hx with hx | hx
        · exact h.on x (hos.subset hx) q
        · rw [List.mem_singleton.1 hx] at q ⊢
          rcases hon with hon | hon
          · exact absurd hon q
          · exact hon
    by_cases e3 : on = ⟨#[]⟩
    · simp only [e3, decide_true, Bool.not_true, Bool.false_eq_true, if_false, Option.bind_some]
      rw [← e3]
      exact hdone (.inl e3)
    · simp only [e3, decide_false, Bool.not_false, if_true, Option.bind_some]
      rcases f3 with ⟨rfl, f4⟩ | ⟨k, rfl, f4, f5⟩
      · exact ⟨16, bs, h0, rfl, fun _ => rfl, rfl⟩
      · rw [show (decide ((k : Int) < 0)) = false by simp]
        exact hdone (.inr (f5 ▸ List.mem_map.2 ⟨_, List.getElem_mem f4, rfl⟩))

theorem take_d {a b : Nat} (K : List T_ref13_Yard) (ha : a ≤ 100) (hb : b ≤ 200) {ms : List T_api_Machine} {bs : List T_api_Bound} (h : YI a b ms bs) (name : ByteArray) :
    ∃ e bs', YI a b ms bs' ∧ snap_Snap_Take_1 ⟨ms, bs⟩ name = some (e, ⟨ms, bs'⟩) ∧ (e ≠ 0 → bs' = bs) ∧ ref13_Snap_Take ⟨⟨ms, bs⟩, K⟩ name = some (e, ⟨⟨ms, bs'⟩, K⟩) := by
  have h1 := h.nm
  have h2 := h.nb
  unfold snap_Snap_Take_1 ref13_Snap_Take
  simp only
  obtain ⟨r, f1, f2, f3⟩ := place_d bs name (by omega)
  rw [f1, f2]
  simp only [Option.bind_some]
  rcases f3 with ⟨rfl, f4⟩ | ⟨k, rfl, f4, f5⟩
  · rw [if_pos (by decide), if_pos (by decide)]
    exact ⟨16, bs, h, rfl, fun _ => rfl, rfl⟩
  · rw [show (decide ((k : Int) < 0)) = false by simp]
    simp only [Bool.false_eq_true, if_false]
    rw [cut_P (by omega) (by omega) f4, cut_R (by omega) (by omega) f4]
    exact ⟨0, restL bs k, ⟨h1, Nat.le_trans (restL_sub bs k).length_le h2, h.gm, fun x hx => h.gb x ((restL_sub bs k).subset hx), h.mu, h.bu.sublist ((restL_sub bs k).map _), fun x hx => h.on x ((restL_sub bs k).subset hx)⟩, rfl, fun q => absurd rfl q, rfl⟩
end Go.Proofs.YtmpkpnclmihdnaaGreat.M
/-
  Plain laws of the snapshot: SnapPlays. Own text.
-/
namespace Go.Proofs.YtmpkpnclmihdnaaGreat.M
open Go Go.Proofs Go.Proofs.YtmpkpnclmihdnaaGreat.V
open Go.IntKind (i64)
set_option linter.unusedVariables false
set_option maxRecDepth 20000

/-- What a change leaves. -/
def chg (s : T_snap_Snap) (e : Int) (x : T_snap_state) : T_snap_Snap := if e = 0 then ⟨some x, s.kept, i64.wrap (s.tried + 1)⟩ else ⟨s.now, s.kept, i64.wrap (s.tried + 1)⟩
theorem change_1 (s : T_snap_Snap) (e : Int) (x : T_snap_state) : snap_Snap_change_1 s e x = some (chg s e x) := by
  unfold snap_Snap_change_1 chg
  by_cases h : e = 0
  · rw [if_pos (by simpa using h), if_pos h]
  · rw [if_neg (by simpa using h), if_neg h]
theorem there_x {s : T_snap_Snap} {x : T_snap_state} (h : s.now = some x) : snap_Snap_there_x s = some true := by
  unfold snap_Snap_there_x; rw [h]; rfl
theorem add_x {s : T_snap_Snap} {x x' : T_snap_state} {m : T_api_Machine} {e : Int} (h : s.now = some x) (h1 : snap_Snap_Add_1 x m = some (e, x')) : snap_Snap_Add_x s m = some (e, chg s e x') := by
  unfold snap_Snap_Add_x snap_Snap_change_snap_Snap_Add_1_x
  rw [there_x h]
  simp only [Option.bind_some, Bool.not_true, Bool.false_eq_true, if_false, h, h1, change_1]
theorem drop_x {s : T_snap_Snap} {x x' : T_snap_state} {n : ByteArray} {e : Int} (h : s.now = some x) (h1 : snap_Snap_Drop_1 x n = some (e, x')) : snap_Snap_Drop_x s n = some (e, chg s e x') := by
  unfold snap_Snap_Drop_x snap_Snap_change_snap_Snap_Drop_1_x
  rw [there_x h]
  simp only [Option.bind_some, Bool.not_true, Bool.false_eq_true, if_false, h, h1, change_1]
theorem put_x {s : T_snap_Snap} {x x' : T_snap_state} {p : T_api_Pod} {n : ByteArray} {e : Int} (h : s.now = some x) (h1 : snap_Snap_Put_1 x p n = some (e, x')) : snap_Snap_Put_x s p n = some (e, chg s e x') := by
  unfold snap_Snap_Put_x snap_Snap_change_snap_Snap_Put_1_x
  rw [there_x h]
  simp only [Option.bind_some, Bool.not_true, Bool.false_eq_true, if_false, h, h1, change_1]
theorem take_x {s : T_snap_Snap} {x x' : T_snap_state} {n : ByteArray} {e : Int} (h : s.now = some x) (h1 : snap_Snap_Take_1 x n = some (e, x')) : snap_Snap_Take_x s n = some (e, chg s e x') := by
  unfold snap_Snap_Take_x snap_Snap_change_snap_Snap_Take_1_x
  rw [there_x h]
  simp only [Option.bind_some, Bool.not_true, Bool.false_eq_true, if_false, h, h1, change_1]

theorem chg_now {s : T_snap_Snap} {e : Int} {x x' : T_snap_state} (h : s.now = some x) (hx : e ≠ 0 → x' = x) : (chg s e x').now = some x' ∧ (chg s e x').kept = s.kept := by
  unfold chg
  by_cases q : e = 0
  · rw [if_pos q]; exact ⟨rfl, rfl⟩
  · rw [if_neg q, hx q]; exact ⟨h, rfl⟩

theorem does_ok {a b : Nat} (ha : a ≤ 100) (hb : b ≤ 200) {s : T_snap_Snap} {r : T_ref13_Snap} (hs : SR s r) (hi : SI a b r) {o : T_law13_Op} (hm : LM o.M) (hp : LP o.P_) : ∃ s' r', law13_does_x s r o = some (true, s', r') ∧ SR s' r' ∧ SI (a + 1) (b + 1) r' := by
  obtain ⟨⟨ms, bs⟩, K⟩ := r
  have hnow := hs.now
  have hkept := hs.kept
  have hy := hi.y
  have hk : ∀ y, y ∈ K → YI (a + 1) (b + 1) y.Ms y.Bs := fun y hy => (hi.k y hy).more (by omega) (by omega)
  have hn := hi.n
  simp only at hnow hkept hy hn
  unfold law13_does_x
  by_cases k0 : o.Kind = 0
  · rw [if_pos (by simpa using k0)]
    obtain ⟨e, ms', g1, g2, g3, g4⟩ := add_d K ha hb hy hm
    rw [add_x hnow g2, g4]
    obtain ⟨c1, c2⟩ := chg_now (e := e) (x' := ⟨ms', bs⟩) hnow (fun q => by rw [g3 q])
    exact ⟨chg s e ⟨ms', bs⟩, ⟨⟨ms', bs⟩, K⟩, by simp, ⟨c1, c2.trans hkept⟩, ⟨g1.more (by omega) (by omega), hk, hn⟩⟩
  rw [if_neg (by simpa using k0)]
  by_cases k1 : o.Kind = 1
  · rw [if_pos (by simpa using k1)]
    obtain ⟨e, ms', g1, g2, g3, g4⟩ := drop_d K ha hb hy o.Name
    rw [drop_x hnow g2, g4]
    obtain ⟨c1, c2⟩ := chg_now (e := e) (x' := ⟨ms', bs⟩) hnow (fun q => by rw [g3 q])
    exact ⟨chg s e ⟨ms', bs⟩, ⟨⟨ms', bs⟩, K⟩, by simp, ⟨c1, c2.trans hkept⟩, ⟨g1.more (by omega) (by omega), hk, hn⟩⟩
  rw [if_neg (by simpa using k1)]
  by_cases k2 : o.Kind = 2
  · rw [if_pos (by simpa using k2)]
    obtain ⟨e, bs', g1, g2, g3, g4⟩ := put_d K ha hb hy hp o.Name
    rw [put_x hnow g2, g4]
    obtain ⟨c1, c2⟩ := chg_now (e := e) (x' := ⟨ms, bs'⟩) hnow (fun q => by rw [g3 q])
    exact ⟨chg s e ⟨ms, bs'⟩, ⟨⟨ms, bs'⟩, K⟩, by simp, ⟨c1, c2.trans hkept⟩, ⟨g1.more (by omega) (by omega), hk, hn⟩⟩
  rw [if_neg (by simpa using k2)]
  by_cases k3 : o.Kind = 3
  · rw [if_pos (by simpa using k3)]
    obtain ⟨e, bs', g1, g2, g3, g4⟩ := take_d K ha hb hy o.Name
    rw [take_x hnow g2, g4]
    obtain ⟨c1, c2⟩ := chg_now (e := e) (x' := ⟨ms, bs'⟩) hnow (fun q => by rw [g3 q])
    exact ⟨chg s e ⟨ms, bs'⟩, ⟨⟨ms, bs'⟩, K⟩, by simp, ⟨c1, c2.trans hkept⟩, ⟨g1.more (by omega) (by omega), hk, hn⟩⟩
  rw [if_neg (by simpa using k3)]
  have hkl : s.kept.length = K.length := by rw [hkept, List.length_map]
  by_cases k4 : o.Kind = 4
  · rw [if_pos (by simpa using k4)]
    unfold snap_Snap_Fork_x ref13_Snap_Fork
    rw [there_x hnow]
    simp only [Option.bind_some, Bool.not_true, Bool.false_eq_true, if_false, hkl]
    by_cases q : (K.length : Int) ≥ 20
    · rw [if_pos (by simpa using q), if_pos (by simpa using q)]
      exact ⟨s, ⟨⟨ms, bs⟩, K⟩, by simp, ⟨hnow, hkept⟩, ⟨hy.more (by omega) (by omega), hk, hn⟩⟩
    · rw [if_neg (by simpa using q), if_neg (by simpa using q), hnow]
      simp only [Option.bind_some]
      rw [ap_ok (by omega) (by simp; omega), ap_ok (by omega) (by simp; omega)]
      simp only [Option.bind_some, List.nil_append]
      rw [ap_ok (by omega) (by simp; omega)]
      refine ⟨⟨some ⟨ms, bs⟩, s.kept ++ [⟨ms, bs⟩], s.tried⟩, ⟨⟨ms, bs⟩, K ++ [⟨ms, bs⟩]⟩, by simp, ⟨rfl, ?_⟩, ⟨hy.more (by omega) (by omega), fun y hy' => ?_, by simp; omega⟩⟩
      · simp only [hkept, List.map_append, List.map_cons, List.map_nil]
      · rcases List.mem_append.1 hy' with hy' | hy'
        · exact hk y hy'
        · rw [List.mem_singleton.1 hy']; exact hy.more (by omega) (by omega)
  rw [if_neg (by simpa using k4)]
  have hsub : ∀ n : Nat, K.length = n + 1 → IntKind.i64.wrap ((K.length : Int) - 1) = (n : Int) := fun n h => by rw [w_eq (by omega) (by omega)]; omega
  by_cases k5 : o.Kind = 5
  · rw [if_pos (by simpa using k5)]
    unfold snap_Snap_Commit_x snap_Snap_pop_snap_Snap_forget_x ref13_Snap_Commit snap_Snap_forget
    rw [there_x hnow]
    simp only [Option.bind_some, Bool.not_true, Bool.false_eq_true, if_false, hkl]
    cases hq : K.length with
    | zero =>
      rw [if_pos (by simp), if_pos (by simp)]
      exact ⟨s, ⟨⟨ms, bs⟩, K⟩, by simp, ⟨hnow, hkept⟩, ⟨hy.more (by omega) (by omega), hk, hn⟩⟩
    | succ n =>
      rw [if_neg (by simp; omega), if_neg (by simp; omega), show i64.wrap (((n + 1 : Nat) : Int) - 1) = (n : Int) by rw [w_eq (by omega) (by omega)]; omega, glk (show n < s.kept.length by omega), sl_pre (show n ≤ s.kept.length by omega), sl_pre (show n ≤ K.length by omega)]
      refine ⟨⟨s.now, s.kept.take n, s.tried⟩, ⟨⟨ms, bs⟩, K.take n⟩, by simp, ⟨hnow, ?_⟩, ⟨hy.more (by omega) (by omega), fun y hy' => hk y (List.mem_of_mem_take hy'), by simp; omega⟩⟩
      simp only [hkept, List.map_take]
  · rw [if_neg (by simpa using k5)]
    unfold snap_Snap_Revert_x snap_Snap_pop_snap_Snap_restore_x ref13_Snap_Revert snap_Snap_restore
    rw [there_x hnow]
    simp only [Option.bind_some, Bool.not_true, Bool.false_eq_true, if_false, hkl]
    cases hq : K.length with
    | zero =>
      rw [if_pos (by simp), if_pos (by simp)]
      exact ⟨s, ⟨⟨ms, bs⟩, K⟩, by simp, ⟨hnow, hkept⟩, ⟨hy.more (by omega) (by omega), hk, hn⟩⟩
    | succ n =>
      rw [if_neg (by simp; omega), if_neg (by simp; omega), show i64.wrap (((n + 1 : Nat) : Int) - 1) = (n : Int) by rw [w_eq (by omega) (by omega)]; omega, glk (show n < s.kept.length by omega), glk (show n < K.length by omega)]
      simp only [Option.bind_some]
      rw [sl_pre (show n ≤ s.kept.length by omega), sl_pre (show n ≤ K.length by omega)]
      have hlast : s.kept[n]'(by omega) = ⟨(K[n]'(by omega)).Ms, (K[n]'(by omega)).Bs⟩ := by
        have := List.getElem_of_eq hkept (i := n) (by omega)
        simpa using this
      refine ⟨⟨some (s.kept[n]'(by omega)), s.kept.take n, s.tried⟩, ⟨K[n]'(by omega), K.take n⟩, by simp, ⟨by rw [hlast], ?_⟩, ⟨(hk _ (List.getElem_mem _)), fun y hy' => hk y (List.mem_of_mem_take hy'), by simp; omega⟩⟩
      simp only [hkept, List.map_take]

theorem why_same {a b : Nat} (ha : a ≤ 100) (hb : b ≤ 200) {s : T_snap_Snap} {r : T_ref13_Snap} (hs : SR s r) (hi : SI a b r) {p : T_api_Pod} (hp : LP p) (on : ByteArray) : ∃ w, snap_Snap_Why_x s p on = some w ∧ ref13_Snap_Why r p on = some w := by
  have hy := hi.y
  have h1 := hy.nm
  have h2 := hy.nb
  unfold snap_Snap_Why_x ref13_Snap_Why
  rw [there_x hs.now, spec_Pod_eq hp, ref07_Pod_eq hp]
  simp only [Option.bind_some, Bool.not_true, Bool.false_eq_true, if_false]
  cases e : podB p with
  | false => exact ⟨1, rfl, rfl⟩
  | true =>
    simp only [Bool.not_true, Bool.false_eq_true, if_false, hs.now, Option.bind_some]
    obtain ⟨q, f1, f2, f3⟩ := find_d r.Y.Ms on (by omega)
    rcases f3 with ⟨rfl, f4⟩ | ⟨k, rfl, f4, f5⟩
    · unfold fit_Why ref12_Why
      rw [f1, f2]
      exact ⟨1, rfl, rfl⟩
    · subst f5
      have hgm : ∀ m, m ∈ r.Y.Ms → GM m := fun m hm => gm_of (hy.gm m hm).1 (hy.gm m hm).2.2
      have hgb : ∀ x, x ∈ r.Y.Bs → GP x.Pod := fun x hx => gp_of (hy.gb x hx).1 (hy.gb x hx).2
      have hgp : GP p := gp_of hp (by rw [ref07_Pod_eq hp, e])
      rw [why_at (by omega) (by omega) (fun m hm => (hy.gm m hm).1) (fun x hx => (hy.gb x hx).1) hp (fun j k hj hk e => nd_at hy.mu j k hj hk e) (List.getElem_mem f4), Why12_eq (by omega) (by omega) hgm hy.mu hgb hgp (List.getElem_mem f4)]
      exact ⟨_, rfl, rfl⟩

theorem told_x {a b : Nat} (ha : a ≤ 100) (hb : b ≤ 200) {s : T_snap_Snap} {r : T_ref13_Snap} (hs : SR s r) (hi : SI a b r) : snap_Snap_Machines_x s = some r.Y.Ms ∧ snap_Snap_Bounds_x s = some r.Y.Bs ∧ snap_Snap_Depth_x s = some (r.Kept.length : Int) := by
  have hy := hi.y
  have h1 := hy.nm
  have h2 := hy.nb
  unfold snap_Snap_Machines_x snap_Snap_Bounds_x snap_Snap_Depth_x
  rw [there_x hs.now]
  simp only [Option.bind_some, Bool.not_true, Bool.false_eq_true, if_false, hs.now]
  rw [snap_ms (by omega) (fun m hm => (hy.gm m hm).1), snap_bs (by omega) (fun x hx => (hy.gb x hx).1), hs.kept, List.length_map]
  exact ⟨rfl, rfl, rfl⟩

theorem New_x {ms : List T_api_Machine} {bs : List T_api_Bound} (hy : LY ms bs) : snap_New ms bs = some (if checkB ms bs = 0 then (some ⟨some ⟨ms, bs⟩, [], 0⟩, 0) else (none, checkB ms bs)) := by
  have h1 := hy.nm
  have h2 := hy.nb
  unfold snap_New
  rw [yard_Check_eq hy]
  simp only [Option.bind_some]
  by_cases e : checkB ms bs = 0
  · rw [if_neg (by simpa using e), if_pos e, snap_ms (by omega) (fun m hm => by obtain ⟨i, hi, rfl⟩ := List.getElem_of_mem hm; exact hy.ms i hi), snap_bs (by omega) (fun x hx => by obtain ⟨i, hi, rfl⟩ := List.getElem_of_mem hx; exact (hy.bs i hi).1)]
    rfl
  · rw [if_pos (by simpa using e), if_neg e]
theorem New_y {ms : List T_api_Machine} {bs : List T_api_Bound} (hy : LY ms bs) : ref13_New ms bs = some (if checkB ms bs = 0 then (⟨⟨ms, bs⟩, []⟩, 0) else (⟨⟨[], []⟩, []⟩, checkB ms bs)) := by
  unfold ref13_New
  rw [ref09_Check_eq hy]
  simp only [Option.bind_some]
  by_cases e : checkB ms bs = 0
  · rw [if_neg (by simpa using e), if_pos e]
  · rw [if_pos (by simpa using e), if_neg e]
theorem ry_of {ms : List T_api_Machine} {bs : List T_api_Bound} (hy : LY ms bs) (h : checkB ms bs = 0) : RY ms bs := by
  obtain ⟨r, h1, h2⟩ := Check9_eq hy
  rw [ref09_Check_eq hy, Option.some.injEq] at h1
  exact h2 (h1 ▸ h)

theorem SnapPlays_true {p q t : Prop} (ms : List T_api_Machine) (bs : List T_api_Bound) (script : List T_law13_Op) (_ : p) (_ : q) (_ : t) : law13_SnapPlays ms bs script = some true := by
  unfold law13_SnapPlays
  obtain ⟨b, e, f⟩ := ref09_Light_eq ms bs
  rw [e, known13_true]
  cases b with
  | false => rfl
  | true =>
    have hy := f rfl
    simp only [Option.bind_some, Bool.not_true, Bool.false_eq_true, if_false]
    rw [New_x hy, New_y hy]
    simp only [Option.bind_some]
    by_cases hc : checkB ms bs = 0
    · rw [if_pos hc, if_pos hc]
      simp only [po]
      rw [if_neg (by simp)]
      have hr := ry_of hy hc
      have key : ∀ (m k f : Nat) (s : T_snap_Snap) (r : T_ref13_Snap), 30 - k ≤ m → m < f → k ≤ 30 → SR s r → SI (20 + k) (40 + k) r → law13_SnapPlays.l2 script f s r (k : Int) = some (Out.go ()) := by
        intro m
        induction m with
        | zero =>
          intro k f s r h1 h2 h3 _ _
          obtain ⟨f, rfl⟩ : ∃ q, f = q + 1 := ⟨f - 1, by omega⟩
          rw [law13_SnapPlays.l2, if_neg (by simp; omega)]
        | succ m ih =>
          intro k f s r h1 h2 h3 hs hi
          obtain ⟨f, rfl⟩ : ∃ q, f = q + 1 := ⟨f - 1, by omega⟩
          by_cases hk : k < script.length ∧ k < 30
          · obtain ⟨b, e, g⟩ := light13 script[k]
            rw [law13_SnapPlays.l2, if_pos (by simp; omega)]
            simp only [glk hk.1, Option.bind_some, e, wk1 (show k < 1000000000000 by omega)]
            cases b with
            | false =>
              simp only [Bool.not_false, if_true]
              exact ih (k + 1) f s r (by omega) (by omega) (by omega) hs (hi.more (by omega) (by omega))
            | true =>
              obtain ⟨g1, g2, g3⟩ := g rfl
              simp only [Bool.not_true, Bool.false_eq_true, if_false]
              obtain ⟨s', r', d1, d2, d3⟩ := does_ok (by omega) (by omega) hs hi g1 g2
              obtain ⟨t1, t2, t3⟩ := told_x (by omega) (by omega) d2 d3
              obtain ⟨w, w1, w2⟩ := why_same (by omega) (by omega) d2 d3 g2 script[k].Name
              have hy' := d3.y
              have y1 := hy'.nm
              have y2 := hy'.nb
              rw [d1]
              simp only [Option.bind_some, Bool.not_true, Bool.false_eq_true, if_false, t1, t2, t3, w1, w2, Same9_all (show r'.Y.Ms.length ≤ 1000 by omega) (show r'.Y.Bs.length ≤ 1000 by omega) (fun m hm => (hy'.gm m hm).1) (fun x hx => (hy'.gb x hx).1), Check9_zero (show r'.Y.Ms.length ≤ 200 by omega) (show r'.Y.Bs.length ≤ 400 by omega) hy'.ry, bne_self_eq_false]
              exact ih (k + 1) f s' r' (by omega) (by omega) (by omega) d2 d3
          · rw [law13_SnapPlays.l2, if_neg (by simp; omega)]
      rw [show law13_SnapPlays.l2 script FU ⟨some ⟨ms, bs⟩, [], 0⟩ ⟨⟨ms, bs⟩, []⟩ 0 = _ from key 30 0 FU ⟨some ⟨ms, bs⟩, [], 0⟩ ⟨⟨ms, bs⟩, []⟩ (by omega) (by unfold FU; omega) (by omega) ⟨rfl, rfl⟩ ⟨YI.of hy hr, fun y hy => (by cases hy), by simp⟩]
      rfl
    · rw [if_neg hc, if_neg hc]
      simp only [po]
      rw [if_neg (by simp [hc])]
      have hl : law13_SnapPlays.l1 script FU ⟨⟨[], []⟩, []⟩ 0 = some (Out.go ()) := by
        obtain ⟨f, hf⟩ : ∃ f, FU = f + 1 := ⟨FU - 1, by unfold FU; omega⟩
        rw [hf, law13_SnapPlays.l1, if_neg (by simp)]
      rw [hl]
      rfl
end Go.Proofs.YtmpkpnclmihdnaaGreat.M
/-
  Plain laws of the snapshot: SnapCommit. Own text.
-/
namespace Go.Proofs.YtmpkpnclmihdnaaGreat.M
open Go Go.Proofs Go.Proofs.YtmpkpnclmihdnaaGreat.V
open Go.IntKind (i64)
set_option linter.unusedVariables false
set_option maxRecDepth 20000

/-- Two snapshots of one yard: something is kept by the first, nothing by the second. -/
structure TW (a b : Nat) (z : T_ref13_Yard) (s t : T_snap_Snap) : Prop where
  y : ∃ ms bs, YI a b ms bs ∧ s.now = some ⟨ms, bs⟩ ∧ t.now = some ⟨ms, bs⟩
  sk : s.kept = [⟨z.Ms, z.Bs⟩]
  tk : t.kept = []
theorem TW.more {a b a' b' : Nat} {z : T_ref13_Yard} {s t : T_snap_Snap} (h : TW a b z s t) (ha : a ≤ a') (hb : b ≤ b') : TW a' b' z s t :=
  let ⟨ms, bs, h1, h2⟩ := h.y; ⟨⟨ms, bs, h1.more ha hb, h2⟩, h.sk, h.tk⟩

theorem commit_l4 {script : List T_law13_Op} {z : T_ref13_Yard} : ∀ (m k f : Nat) (s t : T_snap_Snap), 20 - k ≤ m → m < f → k ≤ 20 → TW (20 + k) (40 + k) z s t → ∃ s' t', law13_SnapCommit.l4 script f s t (k : Int) = some (Out.go (s', t')) ∧ TW 100 200 z s' t' := by
  intro m
  induction m with
  | zero =>
    intro k f s t h1 h2 h3 h4
    obtain ⟨f, rfl⟩ : ∃ q, f = q + 1 := ⟨f - 1, by omega⟩
    rw [law13_SnapCommit.l4, if_neg (by simp; omega)]
    exact ⟨s, t, rfl, h4.more (by omega) (by omega)⟩
  | succ m ih =>
    intro k f s t h1 h2 h3 h4
    obtain ⟨f, rfl⟩ : ∃ q, f = q + 1 := ⟨f - 1, by omega⟩
    by_cases hk : k < script.length ∧ k < 20
    · obtain ⟨b, e, g⟩ := light13 script[k]
      rw [law13_SnapCommit.l4, if_pos (by simp; omega)]
      simp only [glk hk.1, Option.bind_some, e, wk1 (show k < 1000000000000 by omega)]
      cases b with
      | false =>
        simp only [Bool.not_false, if_true]
        exact ih (k + 1) f s t (by omega) (by omega) (by omega) (h4.more (by omega) (by omega))
      | true =>
        obtain ⟨g1, g2, g3⟩ := g rfl
        simp only [Bool.not_true, Bool.false_eq_true, if_false]
        obtain ⟨ms, bs, y1, y2, y3⟩ := h4.y
        by_cases k0 : script[k].Kind = 0
        · rw [if_pos (by simpa using k0)]
          obtain ⟨e, ms', q1, q2, q3, _⟩ := add_d [] (by omega) (by omega) y1 g1
          rw [add_x y2 q2, add_x y3 q2]
          simp only [Option.bind_some, bne_self_eq_false, Bool.false_eq_true, if_false]
          obtain ⟨c1, c2⟩ := chg_now (e := e) (x' := ⟨ms', bs⟩) y2 (fun q => by rw [q3 q])
          obtain ⟨c3, c4⟩ := chg_now (e := e) (x' := ⟨ms', bs⟩) y3 (fun q => by rw [q3 q])
          exact ih (k + 1) f _ _ (by omega) (by omega) (by omega) ⟨⟨ms', bs, q1.more (by omega) (by omega), c1, c3⟩, c2.trans h4.sk, c4.trans h4.tk⟩
        rw [if_neg (by simpa using k0)]
        by_cases k1 : script[k].Kind = 1
        · rw [if_pos (by simpa using k1)]
          obtain ⟨e, ms', q1, q2, q3, _⟩ := drop_d [] (by omega) (by omega) y1 script[k].Name
          rw [drop_x y2 q2, drop_x y3 q2]
          simp only [Option.bind_some, bne_self_eq_false, Bool.false_eq_true, if_false]
          obtain ⟨c1, c2⟩ := chg_now (e := e) (x' := ⟨ms', bs⟩) y2 (fun q => by rw [q3 q])
          obtain ⟨c3, c4⟩ := chg_now (e := e) (x' := ⟨ms', bs⟩) y3 (fun q => by rw [q3 q])
          exact ih (k + 1) f _ _ (by omega) (by omega) (by omega) ⟨⟨ms', bs, q1.more (by omega) (by omega), c1, c3⟩, c2.trans h4.sk, c4.trans h4.tk⟩
        rw [if_neg (by simpa using k1)]
        by_cases k2 : script[k].Kind = 2
        · rw [if_pos (by simpa using k2)]
          obtain ⟨e, bs', q1, q2, q3, _⟩ := put_d [] (by omega) (by omega) y1 g2 script[k].Name
          rw [put_x y2 q2, put_x y3 q2]
          simp only [Option.bind_some, bne_self_eq_false, Bool.false_eq_true, if_false]
          obtain ⟨c1, c2⟩ := chg_now (e := e) (x' := ⟨ms, bs'⟩) y2 (fun q => by rw [q3 q])
          obtain ⟨c3, c4⟩ := chg_now (e := e) (x' := ⟨ms, bs'⟩) y3 (fun q => by rw [q3 q])
          exact ih (k + 1) f _ _ (by omega) (by omega) (by omega) ⟨⟨ms, bs', q1.more (by omega) (by omega), c1, c3⟩, c2.trans h4.sk, c4.trans h4.tk⟩
        rw [if_neg (by simpa using k2)]
        by_cases k3 : script[k].Kind = 3
        · rw [if_pos (by simpa using k3)]
          obtain ⟨e, bs', q1, q2, q3, _⟩ := take_d [] (by omega) (by omega) y1 script[k].Name
          rw [take_x y2 q2, take_x y3 q2]
          simp only [Option.bind_some, bne_self_eq_false, Bool.false_eq_true, if_false]
          obtain ⟨c1, c2⟩ := chg_now (e := e) (x' := ⟨ms, bs'⟩) y2 (fun q => by rw [q3 q])
          obtain ⟨c3, c4⟩ := chg_now (e := e) (x' := ⟨ms, bs'⟩) y3 (fun q => by rw [q3 q])
          exact ih (k + 1) f _ _ (by omega) (by omega) (by omega) ⟨⟨ms, bs', q1.more (by omega) (by omega), c1, c3⟩, c2.trans h4.sk, c4.trans h4.tk⟩
        rw [if_neg (by simpa using k3)]
        exact ih (k + 1) f s t (by omega) (by omega) (by omega) (h4.more (by omega) (by omega))
    · rw [law13_SnapCommit.l4, if_neg (by simp; omega)]
      exact ⟨s, t, rfl, h4.more (by omega) (by omega)⟩

theorem SnapCommit_true {p q t : Prop} (ms : List T_api_Machine) (bs : List T_api_Bound) (script : List T_law13_Op) (_ : p) (_ : q) (_ : t) : law13_SnapCommit ms bs script = some true := by
  unfold law13_SnapCommit
  obtain ⟨b, e, f⟩ := ref09_Light_eq ms bs
  rw [e, known13_true]
  cases b with
  | false => rfl
  | true =>
    have hy := f rfl
    simp only [Option.bind_some, Bool.not_true, Bool.false_eq_true, if_false]
    rw [ref09_Check_eq hy, New_x hy]
    simp only [Option.bind_some]
    by_cases hc : checkB ms bs = 0
    · rw [if_neg (by simp [hc]), if_pos hc]
      simp only [po]
      rw [if_neg (by simp)]
      have hr := ry_of hy hc
      have hfork : snap_Snap_Fork_x ⟨some ⟨ms, bs⟩, [], 0⟩ = some (0, ⟨some ⟨ms, bs⟩, [⟨ms, bs⟩], 0⟩) := by
        unfold snap_Snap_Fork_x
        rw [there_x rfl]
        simp only [Option.bind_some, Bool.not_true, Bool.false_eq_true, if_false]
        rw [if_neg (by simp), ap_ok (by omega) (by simp)]
        rfl
      rw [hfork]
      simp only [Option.bind_some]
      rw [if_neg (by simp)]
      obtain ⟨s', t', l1, l2⟩ := commit_l4 (script := script) (z := ⟨ms, bs⟩) 20 0 FU ⟨some ⟨ms, bs⟩, [⟨ms, bs⟩], 0⟩ ⟨some ⟨ms, bs⟩, [], 0⟩ (by omega) (by unfold FU; omega) (by omega) ⟨⟨ms, bs, YI.of hy hr, rfl, rfl⟩, rfl, rfl⟩
      rw [show law13_SnapCommit.l4 script FU ⟨some ⟨ms, bs⟩, [⟨ms, bs⟩], 0⟩ ⟨some ⟨ms, bs⟩, [], 0⟩ 0 = _ from l1]
      simp only [Option.bind_some, Out.on]
      obtain ⟨ms', bs', y1, y2, y3⟩ := l2.y
      have hcm : snap_Snap_Commit_x s' = some (0, ⟨s'.now, [], s'.tried⟩) := by
        unfold snap_Snap_Commit_x snap_Snap_pop_snap_Snap_forget_x snap_Snap_forget
        rw [there_x y2, l2.sk]
        rfl
      rw [hcm]
      have hs2 : SR ⟨s'.now, [], s'.tried⟩ ⟨⟨ms', bs'⟩, []⟩ := ⟨y2, rfl⟩
      have ht2 : SR t' ⟨⟨ms', bs'⟩, []⟩ := ⟨y3, l2.tk⟩
      have hi2 : SI 100 200 ⟨⟨ms', bs'⟩, []⟩ := ⟨y1, fun y hy => (by cases hy), by simp⟩
      obtain ⟨t1, t2, t3⟩ := told_x (by omega) (by omega) hs2 hi2
      obtain ⟨u1, u2, _⟩ := told_x (by omega) (by omega) ht2 hi2
      have n1 := y1.nm
      have n2 := y1.nb
      simp only [Option.bind_some, t1, t2, t3, u1, u2]
      rw [Same9_all (show ms'.length ≤ 1000 by omega) (show bs'.length ≤ 1000 by omega) (fun m hm => (y1.gm m hm).1) (fun x hx => (y1.gb x hx).1)]
      rfl
    · rw [if_pos (by simpa using hc)]
end Go.Proofs.YtmpkpnclmihdnaaGreat.M

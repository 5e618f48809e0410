/-
  Plain laws: whether a pod suits a machine, out of its parts; what fewer pods leave. Own text.
-/
import Derived.Test.YtbkdglcedgiogaaPSuit
namespace Go.Proofs.Ytbkdglcedgiogaa.M
open Go Go.Proofs Go.Proofs.Ytbkdglcedgiogaa.V
set_option linter.unusedVariables false

theorem Number_tot {s : ByteArray} (h : s.size ≤ 300) : isS (quant_Number s) := by
  unfold quant_Number
  refine T.bind (T.ite (fun _ => T.pure _) fun _ => T.bind ?_ fun _ _ => T.pure _) fun c _ => T.ite (fun _ => T.pure _) fun _ => T.bind ?_ fun _ _ => T.ite (fun _ => T.pure _) fun _ => T.pure _
  · unfold quant_head
    refine T.bind (T.loop (F := fun n i => quant_head.l1 s n i) (len := s.size) (by omega) (fun n k hk ih => ?_) (fun n => ?_)) fun _ _ => T.pure _
    · rw [quant_head.l1, if_pos (by simp; omega), gi_nat hk, wk1 (by omega)]
      simp only [Option.bind_some]
      exact T.bind (T.ite (fun _ => T.pure _) fun _ => T.pure _) fun _ _ => T.ite (fun _ => ih) fun _ => T.pure _
    · rw [quant_head.l1, if_neg (by simp)]
      simp only [Option.bind_some, Bool.false_eq_true, if_false]
      exact T.pure _
  · unfold quant_value
    refine T.bind (T.loop2 (F := fun n c i => quant_value.l1 s 1125899906842624 n c i) (len := s.size) (by omega) (fun n c k hk ih => ?_) (fun n c => ?_) 0) fun o _ => T.on o fun _ => T.pure _
    · rw [quant_value.l1, if_pos (by simp; omega), gi_nat hk, wk1 (by omega)]
      simp only [Option.bind_some]
      refine T.bind ⟨_, by unfold V.quo; rw [if_neg (by decide)]⟩ fun _ _ => T.ite (fun _ => T.pure _) fun _ => ih _
    · rw [quant_value.l1, if_neg (by simp)]; exact T.pure _

theorem at_tot (l : List T_api_Label) (key : ByteArray) : ∃ r, labels_at l key = some r ∧ (r.2 = true → ∃ k : Nat, r.1 = (k : Int) ∧ k < l.length) := by
  have h : ∀ (l2 : List T_api_Label) (k : Nat), (labels_at.l1 key l2 k = some (Out.go ())) ∨ ∃ q : Nat, ∃ b, labels_at.l1 key l2 k = some (Out.ret ((q : Int), b)) ∧ q < k + l2.length := by
    intro l2
    induction l2 with
    | nil => intro k; exact .inl rfl
    | cons x l2 ih =>
      intro k
      rw [labels_at.l1]
      by_cases hx : (!(V.slt x.Key key)) = true
      · rw [if_pos hx]; exact .inr ⟨k, _, rfl, by simp⟩
      · rw [if_neg hx]
        rcases ih (k + 1) with h | ⟨q, b, h1, h2⟩
        · exact .inl h
        · exact .inr ⟨q, b, h1, by simp only [List.length_cons]; omega⟩
  unfold labels_at
  rcases h l 0 with h | ⟨q, b, h1, h2⟩
  · rw [h]; exact ⟨_, rfl, by simp⟩
  · rw [h1]; exact ⟨_, rfl, fun _ => ⟨q, rfl, by omega⟩⟩

theorem Get_tot (l : List T_api_Label) (key : ByteArray) : isS (labels_Get l key) := by
  obtain ⟨r, hr, hk⟩ := at_tot l key
  unfold labels_Get
  rw [hr]
  simp only [Option.bind_some]
  refine T.ite (fun _ => T.pure _) fun h => ?_
  obtain ⟨k, e, hl⟩ := hk (by simpa using h)
  rw [e, glk hl]
  exact T.pure _

theorem Get_val {l : List T_api_Label} (hl : LL l) {key : ByteArray} {r : ByteArray × Bool} (h : labels_Get l key = some r) : r.1.size ≤ 300 := by
  obtain ⟨q, hq, hk⟩ := at_tot l key
  unfold labels_Get at h
  rw [hq] at h
  simp only [Option.bind_some] at h
  by_cases h2 : q.2 = true
  · obtain ⟨k, e, hlk⟩ := hk h2
    rw [if_neg (by simp [h2]), e, glk hlk] at h
    simp only [Option.bind_some, Option.some.injEq] at h
    subst h
    exact (hl.2 k hlk).2
  · rw [if_pos (by simpa using h2)] at h
    simp only [Option.some.injEq] at h
    subst h
    exact Nat.zero_le _

theorem Has_tot (l s : List T_api_Label) : isS (labels_Has l s) := by
  have h : ∀ (s : List T_api_Label) (k : Nat), isS (labels_Has.l1 l s k) := by
    intro s
    induction s with
    | nil => intro k; exact T.pure _
    | cons x s ih =>
      intro k
      rw [labels_Has.l1]
      exact T.bind (Get_tot l x.Key) fun _ _ => T.ite (fun _ => T.pure _) fun _ => ih (k + 1)
  unfold labels_Has
  exact T.bind (h s 0) fun o _ => T.on o fun _ => T.pure _

theorem among_tot (l : List ByteArray) (s : ByteArray) : isS (labels_among l s) := by
  have h : ∀ (l : List ByteArray) (k : Nat), isS (labels_among.l1 s l k) := by
    intro l
    induction l with
    | nil => intro k; exact T.pure _
    | cons x l ih =>
      intro k
      rw [labels_among.l1]
      exact T.ite (fun _ => T.pure _) fun _ => ih (k + 1)
  unfold labels_among
  exact T.bind (h l 0) fun o _ => T.on o fun _ => T.pure _

theorem Meets_tot {l : List T_api_Label} {t : T_api_Term} (hl : LL l) (ht : LT t) : isS (labels_Meets l t) := by
  unfold labels_Meets
  refine T.bind (Get_tot l t.Key) fun r hr => T.ite (fun _ => T.bind (T.ite (fun _ => T.bind (among_tot _ _) fun _ _ => T.pure _) fun _ => T.pure _) fun _ _ => T.pure _) fun _ => T.ite (fun _ => T.bind (T.ite (fun _ => T.pure _) fun _ => T.bind (among_tot _ _) fun _ _ => T.pure _) fun _ _ => T.pure _) fun _ =>
    T.ite (fun _ => T.pure _) fun _ => T.ite (fun _ => T.pure _) fun _ => T.ite (fun _ => T.pure _) fun hv => ?_
  have hlen : t.Vals.length = 1 := by
    have : ¬ (¬ ((t.Vals.length : Int) = 1)) := fun h => hv (by simp [h])
    omega
  have hval := Get_val hl hr
  rw [show (0 : Int) = ((0 : Nat) : Int) from rfl, glk (by omega)]
  unfold labels_number
  exact T.bind (T.bind (Number_tot hval) fun _ _ => T.pure _) fun _ _ => T.bind (T.pure _) fun x hx => T.bind (T.bind (Number_tot (by
    simp only [Option.some.injEq] at hx
    subst hx
    exact ht.2.2 0 (by omega))) fun _ _ => T.pure _) fun _ _ => T.ite (fun _ => T.pure _) fun _ => T.pure _

theorem All_tot {l : List T_api_Label} {ts : List T_api_Term} (hl : LL l) (ht : ∀ t, t ∈ ts → LT t) : isS (labels_All l ts) := by
  have h : ∀ (s : List T_api_Term) (k : Nat), (∀ t, t ∈ s → LT t) → isS (labels_All.l1 l s k) := by
    intro s
    induction s with
    | nil => intro k _; exact T.pure _
    | cons x s ih =>
      intro k h
      rw [labels_All.l1]
      exact T.bind (Meets_tot hl (h x (by simp))) fun _ _ => T.ite (fun _ => T.pure _) fun _ => ih (k + 1) (fun t ht => h t (by simp [ht]))
  unfold labels_All
  exact T.bind (h ts 0 ht) fun o _ => T.on o fun _ => T.pure _

theorem TBears_tot (t : T_api_Toleration) (x : T_api_Taint) : isS (taints_Bears t x) := by
  unfold taints_Bears
  exact T.ite (fun _ => T.pure _) fun _ => T.ite (fun _ => T.pure _) fun _ => T.pure _
theorem borne_tot (l : List T_api_Toleration) (x : T_api_Taint) : isS (taints_borne l x) := by
  have h : ∀ (l : List T_api_Toleration) (k : Nat), isS (taints_borne.l1 x l k) := by
    intro l
    induction l with
    | nil => intro k; exact T.pure _
    | cons y l ih =>
      intro k
      rw [taints_borne.l1]
      exact T.bind (TBears_tot y x) fun _ _ => T.ite (fun _ => T.pure _) fun _ => ih (k + 1)
  unfold taints_borne
  exact T.bind (h l 0) fun o _ => T.on o fun _ => T.pure _
theorem Unb1_tot (x : T_api_Taint) (e : Int) (l : List T_api_Toleration) : isS (taints_Unborne_1 x e l) := by
  unfold taints_Unborne_1
  exact T.bind ⟨_, rfl⟩ fun _ _ => T.bind (T.ite (fun _ => T.bind (borne_tot l x) fun _ _ => T.pure _) fun _ => T.pure _) fun _ _ => T.pure _
theorem Unborne_tot (l : List T_api_Toleration) (ts : List T_api_Taint) (e : Int) (h : ts.length ≤ 1000) : ∃ r, taints_Unborne l ts e = some r ∧ r.length ≤ ts.length := by
  have key : ∀ (s : List T_api_Taint) (k : Nat) (acc : List T_api_Taint), s.length + acc.length ≤ 1000 → ∃ r, taints_some_taints_Unborne_1.l1 e l s k acc = some r ∧ r.length ≤ s.length + acc.length := by
    intro s
    induction s with
    | nil => intro k acc h; exact ⟨acc, rfl, by simp⟩
    | cons x s ih =>
      intro k acc h
      simp only [List.length_cons] at h
      rw [taints_some_taints_Unborne_1.l1]
      obtain ⟨b, hb⟩ := Unb1_tot x e l
      rw [hb]
      simp only [Option.bind_some]
      cases b with
      | true =>
        rw [if_pos rfl, ap_ok (by omega) (by simp; omega)]
        simp only [Option.bind_some]
        obtain ⟨r, h1, h2⟩ := ih (k + 1) (acc ++ [x]) (by simp; omega)
        exact ⟨r, h1, by simp only [List.length_append, List.length_cons, List.length_nil] at h2 ⊢; omega⟩
      | false =>
        rw [if_neg (by simp)]
        obtain ⟨r, h1, h2⟩ := ih (k + 1) acc (by omega)
        exact ⟨r, h1, by simp only [List.length_cons]; omega⟩
  obtain ⟨r, h1, h2⟩ := key ts 0 [] (by simpa using h)
  unfold taints_Unborne taints_some_taints_Unborne_1
  rw [h1]
  exact ⟨r, rfl, by simpa using h2⟩
theorem Allows_tot (l : List T_api_Toleration) (ts : List T_api_Taint) (h : ts.length ≤ 1000) : isS (taints_Allows l ts) := by
  unfold taints_Allows
  obtain ⟨a, ha, _⟩ := Unborne_tot l ts 1 h
  obtain ⟨b, hb, _⟩ := Unborne_tot l ts 3 h
  rw [ha, hb]
  exact T.pure _

theorem Place_tot {m : T_api_Machine} {p : T_api_Pod} (hm : LM m) (hp : LP p) : isS (suit_Place m p) := by
  unfold suit_Place
  exact T.ite (fun _ => T.pure _) fun _ => T.bind (Has_tot _ _) fun _ _ => T.ite (fun _ => T.pure _) fun _ => T.bind (All_tot hm.labels (fun t ht => by
    obtain ⟨i, hi, rfl⟩ := List.getElem_of_mem ht
    exact hp.terms i hi)) fun _ _ => T.ite (fun _ => T.pure _) fun _ => T.bind (Allows_tot _ _ (by have := hm.taints.1; omega)) fun _ _ => T.ite (fun _ => T.pure _) fun _ => T.pure _

/-- Whether it suits, out of its two parts. -/
theorem Suits_eq {m : T_api_Machine} {bs : List T_api_Bound} {p : T_api_Pod} {w : Int} (hw : suit_Place m p = some w) (hl : bs.length ≤ 1000) (hp : p.Ports.length ≤ 1000) (hb : ∀ b, b ∈ bs → b.Pod.Ports.length ≤ 1000) :
    suit_Suits m bs p = some (if w = 1 ∨ w = 4 ∨ w = 5 ∨ w = 6 then w else roomS m bs p) := by
  unfold suit_Suits
  rw [hw]
  simp only [Option.bind_some]
  by_cases h1 : w = 1
  · subst h1; rfl
  rw [if_neg (by simpa using h1)]
  by_cases h2 : w = 4
  · subst h2; rfl
  rw [if_neg (by simpa using h2)]
  by_cases h3 : w = 5
  · subst h3; rfl
  rw [if_neg (by simpa using h3)]
  by_cases h4 : w = 6
  · subst h4; rfl
  rw [if_neg (by simpa using h4), if_neg (by omega), Room_eq m bs p hl hp hb]
  rfl
/-- Fewer pods: what is used is no more, and what is left no less. -/
theorem total_sub {l m : List T_api_Pod} (h : l.Sublist m) (hm : needsOK m = true) : needsOK l = true ∧ (total l).Cpu ≤ (total m).Cpu ∧ (total l).Mem ≤ (total m).Mem ∧ (total l).Disk ≤ (total m).Disk ∧ (total l).Pods ≤ (total m).Pods ∧ (total l).Dev ≤ (total m).Dev := by
  induction h with
  | slnil => exact ⟨hm, by simp⟩
  | cons a h ih =>
    unfold needsOK at hm
    simp only [List.all_cons, Bool.and_eq_true] at hm
    have h1 := (resOK_iff _).1 hm.1
    obtain ⟨k1, k2⟩ := ih hm.2
    refine ⟨k1, ?_⟩
    simp only [total, radd]
    omega
  | cons_cons a h ih =>
    unfold needsOK at hm
    simp only [List.all_cons, Bool.and_eq_true] at hm
    obtain ⟨k1, k2⟩ := ih hm.2
    refine ⟨by unfold needsOK; simp only [List.all_cons, hm.1, Bool.true_and]; exact k1, ?_⟩
    simp only [total, radd]
    omega

theorem left_sub {l m : List T_api_Pod} (h : l.Sublist m) (hm : needsOK m = true) (has need : T_api_Res) (h1 : resOK (leftS has (usedS m)) = true) (h2 : rle need (leftS has (usedS m)) = true) (hn : need.Pods ≥ 1) : resOK (leftS has (usedS l)) = true ∧ rle need (leftS has (usedS l)) = true := by
  obtain ⟨k1, k2⟩ := total_sub h hm
  have hu : (usedS m).2 = 0 ∧ resOK has = true := by
    by_cases hc : (usedS m).2 = 0 ∧ resOK has = true
    · exact hc
    · unfold leftS at h2
      rw [if_neg hc, rle_iff] at h2
      simp only [r0] at h2
      omega
  obtain ⟨u1, u2, u3, u4⟩ := usedS_ok m hu.1
  have hnn := total_nn k1
  have hl : usedS l = (total l, 0) := by
    unfold usedS
    have : resOK (total l) = true := by
      rw [resOK_iff] at u4 ⊢
      omega
    rw [if_pos k1, if_pos this]
  have ho : resOK (total l) = true := by
    rw [resOK_iff] at u4 ⊢
    omega
  have hh := (resOK_iff _).1 hu.2
  unfold leftS at h1 h2 ⊢
  rw [if_pos hu, u2] at h1 h2
  rw [hl, if_pos ⟨rfl, hu.2⟩]
  rw [rle_iff] at h2 ⊢
  rw [resOK_iff] at h1 ⊢
  simp only [rsub, rmin] at h1 h2 ⊢
  omega

theorem others_sub {bs cs : List T_api_Bound} (h : bs.Sublist cs) (n k : ByteArray) : (onS (othersS bs n) k).Sublist (onS (othersS cs n) k) := by
  unfold onS othersS
  exact (((h.filter _).filter _).map _)

theorem roomS_zero {m : T_api_Machine} {bs : List T_api_Bound} {p : T_api_Pod} : roomS m bs p = 0 ↔ resOK (leftS m.Has (usedS (onS (othersS bs p.Name) m.Name))) = true ∧ resOK p.Need = true ∧ rle p.Need (leftS m.Has (usedS (onS (othersS bs p.Name) m.Name))) = true ∧
    ∀ q, q ∈ onS (othersS bs p.Name) m.Name → hit p.Ports q.Ports = false := by
  unfold roomS
  by_cases h : (resOK (leftS m.Has (usedS (onS (othersS bs p.Name) m.Name))) && resOK p.Need && rle p.Need (leftS m.Has (usedS (onS (othersS bs p.Name) m.Name)))) = true
  · rw [if_pos h]
    simp only [Bool.and_eq_true] at h
    cases ha : (onS (othersS bs p.Name) m.Name).any (fun q => hit p.Ports q.Ports) with
    | true =>
      simp only [cond_true]
      obtain ⟨q, h1, h2⟩ := List.any_eq_true.1 ha
      constructor
      · intro h; omega
      · rintro ⟨_, _, _, h3⟩
        rw [h3 q h1] at h2
        cases h2
    | false =>
      simp only [cond_false, true_iff]
      exact ⟨h.1.1, h.1.2, h.2, fun q hq => by
        have := List.any_eq_false.1 ha q hq
        simpa using this⟩
  · rw [if_neg h]
    simp only [Bool.and_eq_true] at h
    constructor
    · intro h; omega
    · rintro ⟨h1, h2, h3, _⟩
      exact absurd ⟨⟨h1, h2⟩, h3⟩ h

theorem needs_ry {ms : List T_api_Machine} {bs : List T_api_Bound} (hy : LY ms bs) (hr : RY ms bs) (n k : ByteArray) : needsOK (onS (othersS bs n) k) = true := by
  unfold needsOK
  rw [List.all_eq_true]
  intro q hq
  unfold onS othersS at hq
  obtain ⟨b, h1, rfl⟩ := List.mem_map.1 hq
  obtain ⟨i, hi, rfl⟩ := List.getElem_of_mem (List.mem_filter.1 (List.mem_filter.1 h1).1).1
  exact (RPod_need (hy.bs i hi).1 (hr.rb i hi)).1

theorem Place_same {m : T_api_Machine} {p q : T_api_Pod} (h1 : p.Select = q.Select) (h2 : p.Terms = q.Terms) (h3 : p.Bears = q.Bears) : suit_Place m p = suit_Place m q := by
  unfold suit_Place; rw [h1, h2, h3]

theorem Suits_zero {m : T_api_Machine} {bs : List T_api_Bound} {p : T_api_Pod} {w : Int} (hw : suit_Place m p = some w) (hl : bs.length ≤ 1000) (hp : p.Ports.length ≤ 1000) (hb : ∀ b, b ∈ bs → b.Pod.Ports.length ≤ 1000) {r : Int} (hr : suit_Suits m bs p = some r) :
    r = 0 ↔ (¬ (w = 1 ∨ w = 4 ∨ w = 5 ∨ w = 6)) ∧ roomS m bs p = 0 := by
  rw [Suits_eq hw hl hp hb] at hr
  simp only [Option.some.injEq] at hr
  subst hr
  by_cases h : w = 1 ∨ w = 4 ∨ w = 5 ∨ w = 6
  · rw [if_pos h]; constructor
    · intro h0; omega
    · rintro ⟨h1, _⟩; exact absurd h h1
  · rw [if_neg h]; exact ⟨fun h0 => ⟨h, h0⟩, fun h0 => h0.2⟩

theorem sl_pre {α : Type} {l : List α} {k : Nat} (h : k ≤ l.length) : V.sl l none (some (k : Int)) = some (l.take k) := by
  unfold V.sl
  rw [if_pos ⟨⟨by simp, by simp⟩, by simp [lowN, highN], by simpa [highN] using h⟩]
  simp [lowN, highN]
theorem sl_suf {α : Type} {l : List α} {k : Nat} (h : k ≤ l.length) : V.sl l (some (k : Int)) none = some (l.drop k) := by
  unfold V.sl
  rw [if_pos ⟨⟨by simp, by simp⟩, by simpa [lowN, highN] using h, by simp [highN]⟩]
  simp [lowN, highN]
end Go.Proofs.Ytbkdglcedgiogaa.M

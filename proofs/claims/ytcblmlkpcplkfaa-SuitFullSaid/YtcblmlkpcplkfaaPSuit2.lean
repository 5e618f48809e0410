/-
  Plain laws of suit: whether a pod suits a machine by itself is told; SuitTolerant, SuitLess. Own text.
-/
import Derived.Test.YtcblmlkpcplkfaaPSuit
import Derived.Test.YtcblmlkpcplkfaaR2O
namespace Go.Proofs.Ytcblmlkpcplkfaa.M
open Go Go.Proofs Go.Proofs.Ytcblmlkpcplkfaa.V
set_option linter.unusedVariables false

theorem Number_tot {s : ByteArray} (h : s.size ≤ 300) : isS (quant_Number s) := by
  unfold quant_Number
  refine T.bind (T.ite (fun _ => T.pure _) fun _ => T.bind ?_ fun _ _ => T.pure _) fun c _ => T.ite (fun _ => T.pure _) fun _ => T.bind ?_ fun _ _ => T.ite (fun _ => T.pure _) fun _ => T.pure _
  · unfold quant_head
    refine T.bind (T.loop (F := fun n i => quant_head.l1 s n i) (len := s.size) (by omega) (fun n k hk ih => ?_) (fun n => ?_)) fun _ _ => T.pure _
    · rw [quant_head.l1, if_pos (by simp; omega), gi_nat hk, wk1 (by omega)]
      simp only [Option.bind_some]
      exact T.bind (T.ite (fun _ => T.pure _) fun _ => T.pure _) fun _ _ => T.ite (fun _ => ih) fun _ => T.pure _
    · rw [quant_head.l1, if_neg (by simp)]
      simp only [Option.bind_some, Bool.false_eq_true, if_false]
      exact T.pure _
  · unfold quant_value
    refine T.bind (T.loop2 (F := fun n c i => quant_value.l1 s 1125899906842624 n c i) (len := s.size) (by omega) (fun n c k hk ih => ?_) (fun n c => ?_) 0) fun o _ => T.on o fun _ => T.pure _
    · rw [quant_value.l1, if_pos (by simp; omega), gi_nat hk, wk1 (by omega)]
      simp only [Option.bind_some]
      refine T.bind ⟨_, by unfold V.quo; rw [if_neg (by decide)]⟩ fun _ _ => T.ite (fun _ => T.pure _) fun _ => ih _
    · rw [quant_value.l1, if_neg (by simp)]; exact T.pure _

theorem at_tot (l : List T_api_Label) (key : ByteArray) : ∃ r, labels_at l key = some r ∧ (r.2 = true → ∃ k : Nat, r.1 = (k : Int) ∧ k < l.length) := by
  have h : ∀ (l2 : List T_api_Label) (k : Nat), (labels_at.l1 key l2 k = some (Out.go ())) ∨ ∃ q : Nat, ∃ b, labels_at.l1 key l2 k = some (Out.ret ((q : Int), b)) ∧ q < k + l2.length := by
    intro l2
    induction l2 with
    | nil => intro k; exact .inl rfl
    | cons x l2 ih =>
      intro k
      rw [labels_at.l1]
      by_cases hx : (!(V.slt x.Key key)) = true
      · rw [if_pos hx]; exact .inr ⟨k, _, rfl, by simp⟩
      · rw [if_neg hx]
        rcases ih (k + 1) with h | ⟨q, b, h1, h2⟩
        · exact .inl h
        · exact .inr ⟨q, b, h1, by simp only [List.length_cons]; omega⟩
  unfold labels_at
  rcases h l 0 with h | ⟨q, b, h1, h2⟩
  · rw [h]; exact ⟨_, rfl, by simp⟩
  · rw [h1]; exact ⟨_, rfl, fun _ => ⟨q, rfl, by omega⟩⟩

theorem Get_tot (l : List T_api_Label) (key : ByteArray) : isS (labels_Get l key) := by
  obtain ⟨r, hr, hk⟩ := at_tot l key
  unfold labels_Get
  rw [hr]
  simp only [Option.bind_some]
  refine T.ite (fun _ => T.pure _) fun h => ?_
  obtain ⟨k, e, hl⟩ := hk (by simpa using h)
  rw [e, glk hl]
  exact T.pure _

theorem Get_val {l : List T_api_Label} (hl : LL l) {key : ByteArray} {r : ByteArray × Bool} (h : labels_Get l key = some r) : r.1.size ≤ 300 := by
  obtain ⟨q, hq, hk⟩ := at_tot l key
  unfold labels_Get at h
  rw [hq] at h
  simp only [Option.bind_some] at h
  by_cases h2 : q.2 = true
  · obtain ⟨k, e, hlk⟩ := hk h2
    rw [if_neg (by simp [h2]), e, glk hlk] at h
    simp only [Option.bind_some, Option.some.injEq] at h
    subst h
    exact (hl.2 k hlk).2
  · rw [if_pos (by simpa using h2)] at h
    simp only [Option.some.injEq] at h
    subst h
    exact Nat.zero_le _

theorem Has_tot (l s : List T_api_Label) : isS (labels_Has l s) := by
  have h : ∀ (s : List T_api_Label) (k : Nat), isS (labels_Has.l1 l s k) := by
    intro s
    induction s with
    | nil => intro k; exact T.pure _
    | cons x s ih =>
      intro k
      rw [labels_Has.l1]
      exact T.bind (Get_tot l x.Key) fun _ _ => T.ite (fun _ => T.pure _) fun _ => ih (k + 1)
  unfold labels_Has
  exact T.bind (h s 0) fun o _ => T.on o fun _ => T.pure _

theorem among_tot (l : List ByteArray) (s : ByteArray) : isS (labels_among l s) := by
  have h : ∀ (l : List ByteArray) (k : Nat), isS (labels_among.l1 s l k) := by
    intro l
    induction l with
    | nil => intro k; exact T.pure _
    | cons x l ih =>
      intro k
      rw [labels_among.l1]
      exact T.ite (fun _ => T.pure _) fun _ => ih (k + 1)
  unfold labels_among
  exact T.bind (h l 0) fun o _ => T.on o fun _ => T.pure _

theorem Meets_tot {l : List T_api_Label} {t : T_api_Term} (hl : LL l) (ht : LT t) : isS (labels_Meets l t) := by
  unfold labels_Meets
  refine T.bind (Get_tot l t.Key) fun r hr => T.ite (fun _ => T.bind (T.ite (fun _ => T.bind (among_tot _ _) fun _ _ => T.pure _) fun _ => T.pure _) fun _ _ => T.pure _) fun _ => T.ite (fun _ => T.bind (T.ite (fun _ => T.pure _) fun _ => T.bind (among_tot _ _) fun _ _ => T.pure _) fun _ _ => T.pure _) fun _ =>
    T.ite (fun _ => T.pure _) fun _ => T.ite (fun _ => T.pure _) fun _ => T.ite (fun _ => T.pure _) fun hv => ?_
  have hlen : t.Vals.length = 1 := by
    have : ¬ (¬ ((t.Vals.length : Int) = 1)) := fun h => hv (by simp [h])
    omega
  have hval := Get_val hl hr
  rw [show (0 : Int) = ((0 : Nat) : Int) from rfl, glk (by omega)]
  unfold labels_number
  exact T.bind (T.bind (Number_tot hval) fun _ _ => T.pure _) fun _ _ => T.bind (T.pure _) fun x hx => T.bind (T.bind (Number_tot (by
    simp only [Option.some.injEq] at hx
    subst hx
    exact ht.2.2 0 (by omega))) fun _ _ => T.pure _) fun _ _ => T.ite (fun _ => T.pure _) fun _ => T.pure _

theorem All_tot {l : List T_api_Label} {ts : List T_api_Term} (hl : LL l) (ht : ∀ t, t ∈ ts → LT t) : isS (labels_All l ts) := by
  have h : ∀ (s : List T_api_Term) (k : Nat), (∀ t, t ∈ s → LT t) → isS (labels_All.l1 l s k) := by
    intro s
    induction s with
    | nil => intro k _; exact T.pure _
    | cons x s ih =>
      intro k h
      rw [labels_All.l1]
      exact T.bind (Meets_tot hl (h x (by simp))) fun _ _ => T.ite (fun _ => T.pure _) fun _ => ih (k + 1) (fun t ht => h t (by simp [ht]))
  unfold labels_All
  exact T.bind (h ts 0 ht) fun o _ => T.on o fun _ => T.pure _

theorem TBears_tot (t : T_api_Toleration) (x : T_api_Taint) : isS (taints_Bears t x) := by
  unfold taints_Bears
  exact T.ite (fun _ => T.pure _) fun _ => T.ite (fun _ => T.pure _) fun _ => T.pure _
theorem borne_tot (l : List T_api_Toleration) (x : T_api_Taint) : isS (taints_borne l x) := by
  have h : ∀ (l : List T_api_Toleration) (k : Nat), isS (taints_borne.l1 x l k) := by
    intro l
    induction l with
    | nil => intro k; exact T.pure _
    | cons y l ih =>
      intro k
      rw [taints_borne.l1]
      exact T.bind (TBears_tot y x) fun _ _ => T.ite (fun _ => T.pure _) fun _ => ih (k + 1)
  unfold taints_borne
  exact T.bind (h l 0) fun o _ => T.on o fun _ => T.pure _
theorem Unb1_tot (x : T_api_Taint) (e : Int) (l : List T_api_Toleration) : isS (taints_Unborne_1 x e l) := by
  unfold taints_Unborne_1
  exact T.bind ⟨_, rfl⟩ fun _ _ => T.bind (T.ite (fun _ => T.bind (borne_tot l x) fun _ _ => T.pure _) fun _ => T.pure _) fun _ _ => T.pure _
theorem Unborne_tot (l : List T_api_Toleration) (ts : List T_api_Taint) (e : Int) (h : ts.length ≤ 1000) : ∃ r, taints_Unborne l ts e = some r ∧ r.length ≤ ts.length := by
  have key : ∀ (s : List T_api_Taint) (k : Nat) (acc : List T_api_Taint), s.length + acc.length ≤ 1000 → ∃ r, taints_some_taints_Unborne_1.l1 e l s k acc = some r ∧ r.length ≤ s.length + acc.length := by
    intro s
    induction s with
    | nil => intro k acc h; exact ⟨acc, rfl, by simp⟩
    | cons x s ih =>
      intro k acc h
      simp only [List.length_cons] at h
      rw [taints_some_taints_Unborne_1.l1]
      obtain ⟨b, hb⟩ := Unb1_tot x e l
      rw [hb]
      simp only [Option.bind_some]
      cases b with
      | true =>
        rw [if_pos rfl, ap_ok (by omega) (by simp; omega)]
        simp only [Option.bind_some]
        obtain ⟨r, h1, h2⟩ := ih (k + 1) (acc ++ [x]) (by simp; omega)
        exact ⟨r, h1, by simp only [List.length_append, List.length_cons, List.length_nil] at h2 ⊢; omega⟩
      | false =>
        rw [if_neg (by simp)]
        obtain ⟨r, h1, h2⟩ := ih (k + 1) acc (by omega)
        exact ⟨r, h1, by simp only [List.length_cons]; omega⟩
  obtain ⟨r, h1, h2⟩ := key ts 0 [] (by simpa using h)
  unfold taints_Unborne taints_some_taints_Unborne_1
  rw [h1]
  exact ⟨r, rfl, by simpa using h2⟩
theorem Allows_tot (l : List T_api_Toleration) (ts : List T_api_Taint) (h : ts.length ≤ 1000) : isS (taints_Allows l ts) := by
  unfold taints_Allows
  obtain ⟨a, ha, _⟩ := Unborne_tot l ts 1 h
  obtain ⟨b, hb, _⟩ := Unborne_tot l ts 3 h
  rw [ha, hb]
  exact T.pure _

theorem Place_tot {m : T_api_Machine} {p : T_api_Pod} (hm : LM m) (hp : LP p) : isS (suit_Place m p) := by
  unfold suit_Place
  exact T.ite (fun _ => T.pure _) fun _ => T.bind (Has_tot _ _) fun _ _ => T.ite (fun _ => T.pure _) fun _ => T.bind (All_tot hm.labels (fun t ht => by
    obtain ⟨i, hi, rfl⟩ := List.getElem_of_mem ht
    exact hp.terms i hi)) fun _ _ => T.ite (fun _ => T.pure _) fun _ => T.bind (Allows_tot _ _ (by have := hm.taints.1; omega)) fun _ _ => T.ite (fun _ => T.pure _) fun _ => T.pure _

/-- Whether it suits, out of its two parts. -/
theorem Suits_eq {m : T_api_Machine} {bs : List T_api_Bound} {p : T_api_Pod} {w : Int} (hw : suit_Place m p = some w) (hl : bs.length ≤ 1000) (hp : p.Ports.length ≤ 1000) (hb : ∀ b, b ∈ bs → b.Pod.Ports.length ≤ 1000) :
    suit_Suits m bs p = some (if w = 1 ∨ w = 4 ∨ w = 5 ∨ w = 6 then w else roomS m bs p) := by
  unfold suit_Suits
  rw [hw]
  simp only [Option.bind_some]
  by_cases h1 : w = 1
  · subst h1; rfl
  rw [if_neg (by simpa using h1)]
  by_cases h2 : w = 4
  · subst h2; rfl
  rw [if_neg (by simpa using h2)]
  by_cases h3 : w = 5
  · subst h3; rfl
  rw [if_neg (by simpa using h3)]
  by_cases h4 : w = 6
  · subst h4; rfl
  rw [if_neg (by simpa using h4), if_neg (by omega), Room_eq m bs p hl hp hb]
  rfl

/-- The guard of the laws of suit. -/
theorem guard10 (ms : List T_api_Machine) (bs : List T_api_Bound) (p : T_api_Pod) (X Y : Option Bool) (hX : X = some true) (hY : LY ms bs → LP p → RY ms bs → ref07_RightPod p = some true → Y = some true) :
    ((ref09_Light ms bs).bind fun r => (if (!r) = true then some true else (ref07_LightPod p).bind fun r2 => some (!r2)).bind fun c2 => (if c2 = true then some true else (ref09_Check ms bs).bind fun r3 => some (r3 != (0 : Int))).bind fun c3 =>
      (if c3 = true then some true else (ref07_RightPod p).bind fun r4 => some (!r4)).bind fun c4 => if c4 = true then X else Y) = some true := by
  obtain ⟨b, e, f⟩ := ref09_Light_eq ms bs
  rw [e]
  cases b with
  | false => exact hX
  | true =>
    have hy := f rfl
    simp only [Option.bind_some, Bool.not_true, Bool.false_eq_true, if_false]
    obtain ⟨b, e, f⟩ := ref07_LightPod_eq p
    rw [e]
    cases b with
    | false => exact hX
    | true =>
      have hp := f rfl
      simp only [Option.bind_some, Bool.not_true, Bool.false_eq_true, if_false]
      obtain ⟨r, e, f⟩ := Check9_eq hy
      rw [e]
      simp only [Option.bind_some]
      by_cases h : r = 0
      · have hr := f h
        rw [if_neg (by simp [h])]
        obtain ⟨b, e⟩ := RPod_tot hp
        rw [e]
        cases b with
        | false => exact hX
        | true => exact hY hy hp hr e
      · rw [if_pos (by simpa using h)]; exact hX

theorem known10_true : law10_known = some true := by kernel_rfl

def anyT : T_api_Toleration := ⟨⟨#[]⟩, ⟨#[]⟩, true, 0⟩
theorem Unborne_any (ts : List T_api_Taint) (e : Int) : taints_Unborne [anyT] ts e = some [] := by
  have h1 : ∀ x, taints_borne [anyT] x = some true := fun x => by
    unfold taints_borne
    rw [taints_borne.l1]
    have : taints_Bears anyT x = some true := by
      unfold taints_Bears
      rw [if_neg (by simp [anyT]), if_neg (by simp [anyT, seq_eq])]
      rfl
    rw [this]
    rfl
  have h2 : ∀ x, taints_Unborne_1 x e [anyT] = some false := fun x => by
    unfold taints_Unborne_1
    rw [h1]
    obtain ⟨b, hb⟩ : ∃ b, taints_of x e = some b := ⟨_, rfl⟩
    rw [hb]
    cases b <;> rfl
  have key : ∀ (s : List T_api_Taint) (k : Nat), taints_some_taints_Unborne_1.l1 e [anyT] s k [] = some [] := by
    intro s
    induction s with
    | nil => intro k; rfl
    | cons x s ih =>
      intro k
      rw [taints_some_taints_Unborne_1.l1, h2]
      exact ih (k + 1)
  unfold taints_Unborne taints_some_taints_Unborne_1
  rw [key]
  rfl
theorem Allows_any (ts : List T_api_Taint) : taints_Allows [anyT] ts = some true := by
  unfold taints_Allows
  rw [Unborne_any, Unborne_any]
  rfl

theorem Place_any {m : T_api_Machine} {p : T_api_Pod} (hb : p.Bears = [anyT]) {w : Int} (h : suit_Place m p = some w) : w ≠ 6 := by
  unfold suit_Place at h
  rw [hb, Allows_any] at h
  split at h
  · cases h; decide
  · obtain ⟨a, _, h⟩ := Option.bind_eq_some_iff.1 h
    split at h
    · cases h; decide
    · obtain ⟨a, _, h⟩ := Option.bind_eq_some_iff.1 h
      split at h
      · cases h; decide
      · simp at h; omega

theorem SuitTolerant_true (c : T_law10_Case) (_ : T_law10_Case.ok c) : law10_SuitTolerant c = some true := by
  unfold law10_SuitTolerant
  refine guard10 _ _ _ _ _ (by rw [known10_true]; rfl) fun hy hp hr hrp => ?_
  have hm : LM c.M := hy.ms 0 (by simp)
  have hnb := hy.nb
  have hports : ∀ b, b ∈ c.Bs → b.Pod.Ports.length ≤ 1000 := fun b hb => by
    obtain ⟨i, hi, rfl⟩ := List.getElem_of_mem hb
    have := (hy.bs i hi).1.nports
    omega
  have hp1 : LP (⟨c.P_.Name, c.P_.Need, c.P_.Labels, c.P_.Select, c.P_.Terms, [anyT], c.P_.Ports, c.P_.Apart, c.P_.Wide, c.P_.Spread, c.P_.Skew, c.P_.Rank, c.P_.Owner, c.P_.Daemon, c.P_.Pinned, c.P_.Local⟩ : T_api_Pod) :=
    ⟨hp.name, hp.owner, hp.nterms, hp.nports, hp.labels, hp.select, hp.apart, hp.spread, ⟨by simp, fun k hk => by
      have : k = 0 := by simp at hk; omega
      subst this
      exact ⟨Nat.zero_le _, Nat.zero_le _⟩⟩, hp.terms⟩
  obtain ⟨w, hw⟩ := Place_tot hm hp1
  have hw' := hw
  unfold anyT at hw'
  rw [hw']
  have hw6 := Place_any rfl hw
  simp only [Option.bind_some]
  rw [if_neg (by simpa using hw6)]
  have hpref : ∀ p : T_api_Pod, p.Bears = [anyT] → suit_Prefers c.M p = some 0 := fun p h => by
    unfold suit_Prefers taints_Prefers
    rw [h, Unborne_any]
    rfl
  rw [hpref _ rfl]
  simp only [Option.bind_some, bne_self_eq_false, Bool.false_eq_true, if_false]
  have hplace : ∀ m p, m.Ready = true → p.Select = [] → p.Terms = [] → p.Bears = [anyT] → suit_Place m p = some 0 := fun m p h1 h2 h3 h4 => by
    unfold suit_Place
    rw [h1, h2, h3, h4, Allows_any]
    rfl
  have h0 := hplace (⟨c.M.Name, c.M.Group, c.M.Has, c.M.Labels, c.M.Taints, true⟩ : T_api_Machine) (⟨c.P_.Name, c.P_.Need, c.P_.Labels, ([] : List T_api_Label), ([] : List T_api_Term), [anyT], c.P_.Ports, c.P_.Apart, c.P_.Wide, c.P_.Spread, c.P_.Skew, c.P_.Rank, c.P_.Owner, c.P_.Daemon, c.P_.Pinned, c.P_.Local⟩ : T_api_Pod) rfl rfl rfl rfl
  have hs := Suits_eq (bs := c.Bs) h0 (by omega) (by have := hp.nports; show c.P_.Ports.length ≤ 1000; omega) hports
  have hroom := Room_eq (⟨c.M.Name, c.M.Group, c.M.Has, c.M.Labels, c.M.Taints, true⟩ : T_api_Machine) c.Bs (⟨c.P_.Name, c.P_.Need, c.P_.Labels, ([] : List T_api_Label), ([] : List T_api_Term), [anyT], c.P_.Ports, c.P_.Apart, c.P_.Wide, c.P_.Spread, c.P_.Skew, c.P_.Rank, c.P_.Owner, c.P_.Daemon, c.P_.Pinned, c.P_.Local⟩ : T_api_Pod) (by omega) (by have := hp.nports; show c.P_.Ports.length ≤ 1000; omega) hports
  unfold anyT at h0 hs hroom
  rw [h0, hs, hroom, known10_true]
  simp
end Go.Proofs.Ytcblmlkpcplkfaa.M

/-
  Printed by a program of this session out of the loaded functions: models and their proofs. Own text.
-/
import Derived.Test.YtbkdglcedgiogaaGreatPPk2
import Derived.Test.YtbkdglcedgiogaaGreatPFit0
/- Plain law: an estimate, and its order. Own work. -/
namespace Go.Proofs.YtbkdglcedgiogaaGreat.M
open Go Go.Proofs Go.Proofs.YtbkdglcedgiogaaGreat.V
open Go.IntKind (i64)
set_option linter.unusedVariables false
set_option maxRecDepth 20000
set_option maxHeartbeats 4000000

theorem gap_put (out : List Int) (at_ : Nat) (h : at_ ≤ out.length) (i : Int) : List.set (V.cpy (out ++ [0]) (at_ + 1, out.length + 1) (at_, out.length + 1)) at_ i = out.take at_ ++ i :: out.drop at_ := by
  obtain ⟨a, b, rfl, rfl⟩ : ∃ a b, out = a ++ b ∧ at_ = a.length := ⟨out.take at_, out.drop at_, (List.take_append_drop _ _).symm, by rw [List.length_take]; omega⟩
  have e : V.cpy (a ++ b ++ [0]) (a.length + 1, (a ++ b).length + 1) (a.length, (a ++ b).length + 1) = a ++ ((b ++ [0]).take 1 ++ b) := by
    unfold V.cpy V.cpn
    simp only [List.length_append]
    rw [show min (a.length + b.length + 1 - a.length) (a.length + b.length + 1 - (a.length + 1)) = b.length by omega, List.append_assoc, List.drop_left, List.take_length_add_append, List.drop_eq_nil_of_le (by simp; omega), List.take_left, List.append_nil, List.append_assoc]
  rw [e, List.take_left, List.drop_left, List.set_append_right _ _ (Nat.le_refl _), Nat.sub_self]
  cases b with
  | nil => rfl
  | cons y b => simp

def rk19 (l : List T_api_Pod) (like : T_api_Machine) (x : Int) : Int := ((l[x.toNat]?).map fun p => shareV p.Need like.Has).getD 0
theorem rk19_at {l : List T_api_Pod} {like : T_api_Machine} {k : Nat} (h : k < l.length) : rk19 l like (k : Int) = shareV l[k].Need like.Has := by
  unfold rk19; rw [Int.toNat_natCast, List.getElem?_eq_getElem h]; rfl
theorem ord1 {l : List T_api_Pod} {like : T_api_Machine} {k : Nat} (h : k < l.length) : pack_Order_1 (k : Int) l like = some (rk19 l like (k : Int)) := by
  unfold pack_Order_1
  rw [glk h, Option.bind_some, share_V, Option.bind_some, rk19_at h]

/-- Where a pod goes in. -/
theorem order_l2 {l : List T_api_Pod} {like : T_api_Machine} {out : List Int} {v : Nat} (hv : v < l.length) (ho : out.length ≤ 1000) (hi : ∀ x, x ∈ out → ∃ k : Nat, x = (k : Int) ∧ k < l.length) :
    ∀ (at_ f : Nat), at_ < f → at_ ≤ out.length → ∃ a : Nat, pack_Order.l2 l like out (v : Int) f (at_ : Int) = some (a : Int) ∧ a ≤ at_ ∧ (∀ j (h : j < out.length), a ≤ j → j < at_ → rk19 l like out[j] < rk19 l like (v : Int)) ∧ (∀ j (h : j < out.length), j + 1 = a → ¬ rk19 l like out[j] < rk19 l like (v : Int)) := by
  intro at_
  induction at_ with
  | zero =>
    intro f h1 h2
    obtain ⟨f, rfl⟩ : ∃ n', f = n' + 1 := ⟨f - 1, by omega⟩
    rw [pack_Order.l2, if_neg (by simp)]
    exact ⟨0, rfl, by omega, fun j _ _ _ => by omega, fun j _ _ => by omega⟩
  | succ at_ ih =>
    intro f h1 h2
    obtain ⟨f, rfl⟩ : ∃ n', f = n' + 1 := ⟨f - 1, by omega⟩
    have hl : at_ < out.length := by omega
    obtain ⟨k, hk, hk2⟩ := hi _ (List.getElem_mem hl)
    rw [pack_Order.l2, if_pos (by simp only [decide_eq_true_eq]; omega), show i64.wrap (((at_ + 1 : Nat) : Int) - 1) = (at_ : Int) by rw [w_eq (by omega) (by omega)]; omega, glk hl, hk]
    simp only [Option.bind_some]
    rw [ord1 hk2, ord1 hv]
    simp only [Option.bind_some]
    by_cases e : rk19 l like (k : Int) < rk19 l like (v : Int)
    · rw [if_pos (by simpa using e)]
      obtain ⟨a, q1, q2, q3, q4⟩ := ih f (by omega) (by omega)
      refine ⟨a, q1, by omega, fun j h q5 q6 => ?_, q4⟩
      by_cases ej : j = at_
      · subst ej; rw [hk]; exact e
      · exact q3 j h q5 (by omega)
    · rw [if_neg (by simpa using e)]
      refine ⟨at_ + 1, rfl, by omega, fun j h q5 q6 => by omega, fun j h q5 => ?_⟩
      have : j = at_ := by omega
      subst this
      rw [hk]; exact e

theorem Order19_P {l : List T_api_Pod} {like : T_api_Machine} (hl : l.length ≤ 400) : ∃ r, pack_Order l like = some r ∧ r.Perm (idxs l.length) ∧ r.Pairwise (Rk (rk19 l like)) := by
  unfold pack_Order
  have key : ∀ (m k n : Nat) (out : List Int), l.length - k ≤ m → m < n → k ≤ l.length → out.Perm (idxs k) → out.Pairwise (Rk (rk19 l like)) → ∃ r, pack_Order.l1 l like n out (k : Int) = some r ∧ r.Perm (idxs l.length) ∧ r.Pairwise (Rk (rk19 l like)) := by
    intro m
    induction m with
    | zero =>
      intro k n out h1 h2 h3 h4 h5
      obtain ⟨n, rfl⟩ : ∃ n', n = n' + 1 := ⟨n - 1, by omega⟩
      have : k = l.length := by omega
      subst this
      rw [pack_Order.l1, if_neg dnl]
      exact ⟨out, rfl, h4, h5⟩
    | succ m ih =>
      intro k n out h1 h2 h3 h4 h5
      obtain ⟨n, rfl⟩ : ∃ n', n = n' + 1 := ⟨n - 1, by omega⟩
      by_cases hk : k < l.length
      · have hol : out.length = k := by rw [h4.length_eq]; simp [idxs]
        have hmem : ∀ x, x ∈ out → ∃ j : Nat, x = (j : Int) ∧ j < k := fun x hx => idxs_mem (h4.mem_iff.1 hx)
        rw [pack_Order.l1, if_pos (dlt hk), wk1 (by omega)]
        obtain ⟨a, q1, q2, q3, q4⟩ := order_l2 (like := like) hk (out := out) (by omega) (fun x hx => by obtain ⟨j, e, hj⟩ := hmem x hx; exact ⟨j, e, by omega⟩) out.length FU (by unfold FU; omega) (by omega)
        rw [q1]
        simp only [Option.bind_some]
        rw [ap_ok (by omega) (by simp; omega)]
        simp only [Option.bind_some]
        rw [w_eq (by omega) (by omega)]
        have hr3 : V.rng (out ++ [0]).length (some ((a : Int) + 1)) none = some (a + 1, out.length + 1) := by
          unfold V.rng
          rw [if_pos ⟨⟨by simp; omega, by simp⟩, by simp [lowN, highN]; omega, by simp [highN]⟩]
          simp [lowN, highN]
        have hr4 : V.rng (out ++ [0]).length (some (a : Int)) none = some (a, out.length + 1) := by
          unfold V.rng
          rw [if_pos ⟨⟨by simp, by simp⟩, by simp [lowN, highN]; omega, by simp [highN]⟩]
          simp [lowN, highN]
        rw [hr3, hr4]
        simp only [Option.bind_some]
        have hcl : (V.cpy (out ++ [0]) (a + 1, out.length + 1) (a, out.length + 1)).length = out.length + 1 := by
          rw [cpy_len (by simp; omega) (by simp; omega)]; simp
        rw [glk (by omega : a < (V.cpy (out ++ [0]) (a + 1, out.length + 1) (a, out.length + 1)).length)]
        simp only [Option.bind_some]
        rw [Int.toNat_natCast, gap_put out a q2]
        have hperm : (out.take a ++ (k : Int) :: out.drop a).Perm (idxs (k + 1)) := by
          rw [idxs_succ]
          refine List.perm_middle.trans ?_
          rw [List.take_append_drop]
          exact (List.perm_append_singleton _ _).symm.trans (List.Perm.append_right _ h4)
        refine ih (k + 1) n _ (by omega) (by omega) (by omega) hperm ?_
        have hd : (out.take a ++ out.drop a).Pairwise (Rk (rk19 l like)) := by rw [List.take_append_drop]; exact h5
        rw [List.pairwise_append] at hd ⊢
        obtain ⟨g1, g2, g3⟩ := hd
        refine ⟨g1, List.pairwise_cons.2 ⟨fun y hy => ?_, g2⟩, fun x hx y hy => ?_⟩
        · obtain ⟨j, hj, rfl⟩ := List.mem_iff_getElem.1 hy
          rw [List.getElem_drop]
          rw [List.length_drop] at hj
          exact .inl (q3 (a + j) (by omega) (by omega) (by omega))
        · rcases List.mem_cons.1 hy with rfl | hy
          · obtain ⟨j, hj, rfl⟩ := List.mem_iff_getElem.1 hx
            rw [List.length_take] at hj
            rw [List.getElem_take]
            have hx1 := hmem _ (List.getElem_mem (show j < out.length by omega))
            obtain ⟨jj, ej, hjj⟩ := hx1
            have hge : ¬ rk19 l like out[j] < rk19 l like (k : Int) := by
              by_cases e : j + 1 = a
              · exact q4 j (by omega) e
              · have h6 := q4 (a - 1) (by omega) (by omega)
                have h7 := (List.pairwise_iff_getElem.1 h5) j (a - 1) (by omega) (by omega) (by omega)
                rcases h7 with h7 | ⟨h7, _⟩ <;> omega
            unfold Rk
            rw [ej] at hge ⊢
            omega
          · exact g3 x hx y hy
      · have : k = l.length := by omega
        subst this
        rw [pack_Order.l1, if_neg dnl]
        exact ⟨out, rfl, h4, h5⟩
  exact (by
    obtain ⟨r, h1, h2, h3⟩ := key l.length 0 FU [] (by omega) (by unfold FU; omega) (by omega) (by simp [idxs]) .nil
    rw [show ((0 : Nat) : Int) = 0 from rfl] at h1
    rw [h1]
    exact ⟨r, rfl, h2, h3⟩)


theorem RE.ep {ms : List T_api_Machine} {bs : List T_api_Bound} {l : List T_api_Pod} {k : T_api_Machine} (h : RE ms bs l k) : EP ms k :=
  ⟨h.ly.nm, ms_mem h.ly, by
    rw [List.nodup_iff_pairwise_ne, List.pairwise_map, List.pairwise_iff_getElem]
    intro i j hi hj hij e
    have := h.ry.mu i j hi hj e
    omega, h.like, group_size h.like h.right, h.plus⟩
theorem RE.ei {ms : List T_api_Machine} {bs : List T_api_Bound} {l ps : List T_api_Pod} {k : T_api_Machine} (h : RE ms bs l k) (hp : ps.Perm l) : EI ⟨bs, [], 0⟩ ps := by
  have hb := h.ly.nb
  have hpl : (pendA l).length = l.length := by simp [pendA]
  rw [List.length_append, hpl] at hb
  have hnd : ((bs ++ pendA l).map (·.Pod.Name)).Nodup := by
    rw [List.nodup_iff_pairwise_ne, List.pairwise_map, List.pairwise_iff_getElem]
    intro i j hi hj hij e
    have := h.ry.bu i j hi hj e
    omega
  have hm : (pendA l).map (·.Pod.Name) = l.map (·.Name) := by simp [pendA, Function.comp_def]
  rw [List.map_append, hm, List.nodup_append] at hnd
  refine ⟨by simp, by simp only [List.length_nil]; rw [hp.length_eq]; omega, by rw [hp.length_eq]; show bs.length + l.length ≤ 80; omega, fun b hb => bs_mem h.ly b (List.mem_append.2 (.inl hb)), fun p hpp => ?_, (hp.map _).nodup_iff.2 hnd.2.1, fun b hb p hpp => ?_⟩
  · exact bs_mem h.ly ⟨p, ⟨#[]⟩⟩ (List.mem_append.2 (.inr (List.mem_map.2 ⟨p, hp.mem_iff.1 hpp, rfl⟩)))
  · exact hnd.2.2 _ (List.mem_map.2 ⟨b, hb, rfl⟩) _ (List.mem_map.2 ⟨p, hp.mem_iff.1 hpp, rfl⟩)

/-- What the program answers. -/
theorem Est_P {ms : List T_api_Machine} {bs : List T_api_Bound} {l : List T_api_Pod} {k : T_api_Machine} (h : RE ms bs l k) : ∃ (r : List Int) (ps : List T_api_Pod), pack_Order l k = some r ∧ r.Perm (idxs l.length) ∧ r.Pairwise (Rk (rk19 l k)) ∧ r.map (V.gl l) = ps.map some ∧ ps.Perm l ∧
    ∀ limit, pack_Estimate ms bs l k limit = some ((ps.foldl (stepE ms k limit) ⟨bs, [], 0⟩).mv, ((ps.foldl (stepE ms k limit) ⟨bs, [], 0⟩).n : Int)) := by
  have hb := h.ly.nb
  have hpl : (pendA l).length = l.length := by simp [pendA]
  rw [List.length_append, hpl] at hb
  obtain ⟨r, h1, h2, h3⟩ := Order19_P (l := l) (like := k) (by omega)
  obtain ⟨ps, h4, h5⟩ := order_pods h2
  refine ⟨r, ps, h1, h2, h3, h4, h5, fun limit => ?_⟩
  unfold pack_Estimate
  have := est_P (limit := limit) h.ep l ps r 0 ⟨bs, [], 0⟩ h4 (h.ei h5)
  unfold packX at this
  simp only [allM_zero] at this
  rw [h1, Option.bind_some]
  rw [show (namesM k 0) = [] from rfl] at this
  rw [this]
  simp only [Option.bind_some, namesM_len]

/-! pods that are alike -/
structure Alike (p q : T_api_Pod) : Prop where
  need : p.Need = q.Need
  labels : p.Labels = q.Labels
  select : p.Select = q.Select
  terms : p.Terms = q.Terms
  bears : p.Bears = q.Bears
  ports : p.Ports = q.Ports
  apart : p.Apart = q.Apart
  wide : p.Wide = q.Wide
  s1 : p.Spread.length = 0
  s2 : q.Spread.length = 0
theorem others_none {bs : List T_api_Bound} {n : ByteArray} (h : ∀ b, b ∈ bs → b.Pod.Name ≠ n) : othersS bs n = bs := by
  unfold othersS
  rw [List.filter_eq_self]
  exact fun b hb => by simpa using h b hb
theorem why_alike {ms : List T_api_Machine} {bs : List T_api_Bound} {p q : T_api_Pod} (h : Alike p q) (hp : ∀ b, b ∈ bs → b.Pod.Name ≠ p.Name) (hq : ∀ b, b ∈ bs → b.Pod.Name ≠ q.Name) (m : T_api_Machine) : whyV ms bs p m = whyV ms bs q m := by
  have h1 : placeV m p = placeV m q := by unfold placeV; rw [Place_same h.select h.terms h.bears]
  have h2 : roomS m bs p = roomS m bs q := by unfold roomS; rw [others_none hp, others_none hq, h.need, h.ports]
  have h3 : nearB (zonesV ms) bs p m.Name = nearB (zonesV ms) bs q m.Name := by
    unfold nearB
    rw [Bool.eq_iff_iff, List.any_eq_true, List.any_eq_true]
    have key : ∀ x, x ∈ bs → nearQ (zonesV ms) p m.Name x = nearQ (zonesV ms) q m.Name x := fun x hx => by
      unfold nearQ barsB
      rw [seq_eq, seq_eq, seq_eq, decide_eq_false (hp x hx), decide_eq_false (hq x hx), h.apart, h.labels, h.wide]
    exact ⟨fun ⟨x, hx, e⟩ => ⟨x, hx, by rw [← key x hx]; exact e⟩, fun ⟨x, hx, e⟩ => ⟨x, hx, by rw [key x hx]; exact e⟩⟩
  unfold whyV suitV
  rw [h1, h2, h3, many_none _ _ _ _ h.s1, many_none _ _ _ _ h.s2]

theorem fits_alike {ms : List T_api_Machine} {like : T_api_Machine} {n : Nat} {bs : List T_api_Bound} {p q : T_api_Pod} (h : Alike p q) (hp : ∀ b, b ∈ bs → b.Pod.Name ≠ p.Name) (hq : ∀ b, b ∈ bs → b.Pod.Name ≠ q.Name) : fitsK ms like n bs p = fitsK ms like n bs q := by
  funext k; unfold fitsK; rw [why_alike h hp hq]

theorem step_mono {ms : List T_api_Machine} {like : T_api_Machine} {limit : Int} (s : ES) (p : T_api_Pod) : s.mv.length ≤ (stepE ms like limit s p).mv.length ∧ s.n ≤ (stepE ms like limit s p).n := by
  unfold stepE
  split
  · simp only [putE, List.length_append]; omega
  · omega
theorem fold_mono {ms : List T_api_Machine} {like : T_api_Machine} {limit : Int} : ∀ (ps : List T_api_Pod) (s : ES), s.mv.length ≤ (ps.foldl (stepE ms like limit) s).mv.length ∧ s.n ≤ (ps.foldl (stepE ms like limit) s).n
  | [], s => by simp
  | p :: ps, s => by
    have h1 := step_mono (ms := ms) (like := like) (limit := limit) s p
    have h2 := fold_mono (ms := ms) (like := like) (limit := limit) ps (stepE ms like limit s p)
    rw [List.foldl_cons]
    omega

/-- Where no machine may be added any more, and one did not fit, none like it does. -/
theorem stuck_fold {ms : List T_api_Machine} {like : T_api_Machine} {limit : Int} {s : ES} {p : T_api_Pod} (hlim : ¬ (s.n : Int) < limit) (hp : ∀ b, b ∈ s.bs → b.Pod.Name ≠ p.Name) (hf : (List.range s.n).find? (fitsK ms like s.n s.bs p) = none) :
    ∀ (ps : List T_api_Pod), (∀ q, q ∈ ps → Alike p q ∧ ∀ b, b ∈ s.bs → b.Pod.Name ≠ q.Name) → ps.foldl (stepE ms like limit) s = s := by
  intro ps
  induction ps with
  | nil => intro _; rfl
  | cons q ps ih =>
    intro h
    have hq := h q (List.mem_cons_self ..)
    have : stepE ms like limit s q = s := by
      unfold stepE pick
      rw [← fits_alike hq.1 hp hq.2, hf]
      simp only [if_neg hlim]
    rw [List.foldl_cons, this]
    exact ih fun q' hq' => h q' (List.mem_cons_of_mem _ hq')

theorem more_fold {ms : List T_api_Machine} {like : T_api_Machine} {a b : Int} (hab : a ≤ b) : ∀ (ps : List T_api_Pod) (s : ES), EI s ps → (∀ p, p ∈ ps → ∀ q, q ∈ ps → Alike p q) →
    (ps.foldl (stepE ms like a) s).mv.length ≤ (ps.foldl (stepE ms like b) s).mv.length ∧ (ps.foldl (stepE ms like a) s).n ≤ (ps.foldl (stepE ms like b) s).n := by
  intro ps
  induction ps with
  | nil => intro s _ _; simp
  | cons p ps ih =>
    intro s hi hal
    have hal' : ∀ p, p ∈ ps → ∀ q, q ∈ ps → Alike p q := fun p hp q hq => hal p (List.mem_cons_of_mem _ hp) q (List.mem_cons_of_mem _ hq)
    rw [List.foldl_cons, List.foldl_cons]
    by_cases hst : stepE ms like a s p = stepE ms like b s p
    · rw [← hst]
      exact ih _ hi.step hal'
    · -- the limit is what keeps it away
      have hpk : ¬ pick ms like a s p = pick ms like b s p := fun e => hst (by unfold stepE; rw [e])
      have hf : (List.range s.n).find? (fitsK ms like s.n s.bs p) = none := by
        cases hf : (List.range s.n).find? (fitsK ms like s.n s.bs p) with
        | none => rfl
        | some k => exact absurd (by unfold pick; rw [hf]) hpk
      have hlim : ¬ (s.n : Int) < a := fun q => hpk (by unfold pick; rw [hf]; simp only [if_pos q, if_pos (show (s.n : Int) < b by omega)])
      have hne : ∀ x, x ∈ s.bs → x.Pod.Name ≠ p.Name := fun x hx => hi.ne x hx p (List.mem_cons_self ..)
      have ha : stepE ms like a s p = s := by
        unfold stepE pick; rw [hf]; simp only [if_neg hlim]
      rw [ha, stuck_fold hlim hne hf ps fun q hq => ⟨hal p (List.mem_cons_self ..) q (List.mem_cons_of_mem _ hq), fun x hx => hi.ne x hx q (List.mem_cons_of_mem _ hq)⟩]
      have h1 := step_mono (ms := ms) (like := like) (limit := b) s p
      have h2 := fold_mono (ms := ms) (like := like) (limit := b) ps (stepE ms like b s p)
      omega

theorem zero_fold {ms : List T_api_Machine} {like : T_api_Machine} {a : Int} (ha : a ≤ 0) (bs : List T_api_Bound) : ∀ (ps : List T_api_Pod), ps.foldl (stepE ms like a) ⟨bs, [], 0⟩ = ⟨bs, [], 0⟩
  | [] => rfl
  | p :: ps => by
    have : stepE ms like a ⟨bs, [], 0⟩ p = ⟨bs, [], 0⟩ := by
      unfold stepE pick
      simp only [List.range_zero, List.find?_nil]
      rw [if_neg (by omega)]
    rw [List.foldl_cons, this]
    exact zero_fold ha bs ps

end Go.Proofs.YtbkdglcedgiogaaGreat.M
/-
  Plain laws: what the document says is on a machine. Own text.
-/
namespace Go.Proofs.YtbkdglcedgiogaaGreat.M
open Go Go.Proofs Go.Proofs.YtbkdglcedgiogaaGreat.V
set_option linter.unusedVariables false

theorem onS_cons (x : T_api_Bound) (l : List T_api_Bound) (n : ByteArray) : onS (x :: l) n = if x.On = n then x.Pod :: onS l n else onS l n := by
  unfold onS
  by_cases h : x.On = n <;> simp [h]

theorem On9_eq (bs : List T_api_Bound) (name : ByteArray) (hl : bs.length ≤ 1000) : ref09_On bs name = some (onS bs name) := by
  have key : ∀ (m k f : Nat) (acc : List T_api_Pod), bs.length - k ≤ m → m < f → k ≤ bs.length → acc.length ≤ k → ref09_On.l1 bs name f acc (k : Int) = some (acc ++ onS (bs.drop k) name) := by
    intro m
    induction m with
    | zero =>
      intro k f acc h1 h2 h3 h4
      obtain ⟨f, rfl⟩ : ∃ q, f = q + 1 := ⟨f - 1, by omega⟩
      rw [ref09_On.l1, if_neg (by simp; omega), List.drop_eq_nil_of_le (by omega)]
      simp [onS]
    | succ m ih =>
      intro k f acc h1 h2 h3 h4
      obtain ⟨f, rfl⟩ : ∃ q, f = q + 1 := ⟨f - 1, by omega⟩
      by_cases hk : k < bs.length
      · rw [ref09_On.l1, if_pos (dlt hk), glk hk, wk1 (by omega), List.drop_eq_getElem_cons hk, onS_cons]
        simp only [Option.bind_some, seq_eq]
        by_cases h : bs[k].On = name
        · rw [if_pos (by simpa using h), if_pos h, ap_ok (by omega) (by simp; omega)]
          simp only [Option.bind_some]
          rw [ih (k + 1) f _ (by omega) (by omega) (by omega) (by simp; omega)]
          simp
        · rw [if_neg (by simpa using h), if_neg h]
          exact ih (k + 1) f _ (by omega) (by omega) (by omega) (by omega)
      · rw [ref09_On.l1, if_neg (by simp; omega), List.drop_eq_nil_of_le (by omega)]
        simp [onS]
  have := key bs.length 0 FU [] (by omega) (by unfold FU; omega) (by omega) (by simp)
  have this' : ref09_On.l1 bs name FU [] 0 = some ([] ++ onS (bs.drop 0) name) := this
  unfold ref09_On
  rw [this']
  simp
end Go.Proofs.YtbkdglcedgiogaaGreat.M
/-
  Plain laws: what the document says is on a machine, used there, and left. Own text.
-/
namespace Go.Proofs.YtbkdglcedgiogaaGreat.M
open Go Go.Proofs Go.Proofs.YtbkdglcedgiogaaGreat.V
set_option linter.unusedVariables false

theorem Add9_eq (a b : T_api_Res) : ref04_Add a b = some (if (resOK a && resOK b) = true then (if resOK (radd a b) = true then (radd a b, 0) else (r0, 10)) else (r0, 1)) := by
  unfold ref04_Add
  simp only [ref04_Right_eq, Option.bind_some]
  cases ha : resOK a with
  | false => rfl
  | true =>
    cases hb : resOK b with
    | false => rfl
    | true =>
      obtain ⟨a1, a2, a3, a4, a5⟩ := resOK_split ha
      obtain ⟨b1, b2, b3, b4, b5⟩ := resOK_split hb
      simp only [Bool.not_true, Bool.false_eq_true, if_false, Option.bind_some, w_add a1 b1, w_add a2 b2, w_add a3 b3, w_add a4 b4, w_add a5 b5, Bool.and_self, if_true]
      show (if (!resOK (radd a b)) = true then some (r0, (10 : Int)) else some (radd a b, 0)) = _
      cases resOK (radd a b) <;> rfl

theorem Used9_loop {l : List T_api_Pod} (h : needsOK l = true) (hl : l.length ≤ 1000) : ∀ (m k f : Nat) (s : T_api_Res), l.length - k ≤ m → m < f → k ≤ l.length → resOK s = true →
    ref09_Used.l2 l f s (k : Int) = some (if resOK (radd s (total (l.drop k))) = true then Out.go (radd s (total (l.drop k))) else Out.ret (r0, 10)) := by
  have hr0 : ∀ s : T_api_Res, radd s (total []) = s := fun s => by cases s; simp [radd, total, r0]
  intro m
  induction m with
  | zero =>
    intro k f s h1 h2 h3 hs
    obtain ⟨f, rfl⟩ : ∃ q, f = q + 1 := ⟨f - 1, by omega⟩
    rw [ref09_Used.l2, if_neg (by simp; omega), List.drop_eq_nil_of_le (by omega), hr0, if_pos hs]
  | succ m ih =>
    intro k f s h1 h2 h3 hs
    obtain ⟨f, rfl⟩ : ∃ q, f = q + 1 := ⟨f - 1, by omega⟩
    by_cases hk : k < l.length
    · have hp : resOK l[k].Need = true := by
        unfold needsOK at h
        rw [List.all_eq_true] at h
        exact h _ (List.getElem_mem _)
      have hd : needsOK (l.drop (k + 1)) = true := by
        unfold needsOK at h ⊢
        rw [List.all_eq_true] at h ⊢
        exact fun x hx => h x (List.mem_of_mem_drop hx)
      have hnn := total_nn hd
      rw [ref09_Used.l2, if_pos (dlt hk), glk hk, wk1 (by omega), List.drop_eq_getElem_cons hk]
      simp only [Option.bind_some]
      rw [Add9_eq, hs, hp]
      simp only [Bool.and_self, if_true, Option.bind_some]
      by_cases hq : resOK (radd s l[k].Need) = true
      · rw [if_pos hq]
        simp only [bne_self_eq_false, Bool.false_eq_true, if_false]
        rw [ih (k + 1) f _ (by omega) (by omega) (by omega) hq, radd_assoc]
        rfl
      · rw [if_neg hq]
        rw [if_neg (show ¬ resOK (radd s (total (l[k] :: l.drop (k + 1)))) = true from ?_)]
        · rfl
        · intro hc
          apply hq
          rw [resOK_iff] at hc hs hp ⊢
          simp only [radd, total] at hc ⊢
          omega
    · rw [ref09_Used.l2, if_neg (by simp; omega), List.drop_eq_nil_of_le (by omega), hr0, if_pos hs]

theorem Used9_eq (bs : List T_api_Bound) (name : ByteArray) (hl : bs.length ≤ 1000) : ref09_Used bs name = some (usedS (onS bs name)) := by
  have hlen := onS_len bs name
  unfold ref09_Used usedS
  rw [On9_eq bs name hl]
  simp only [Option.bind_some]
  generalize onS bs name = l at hlen
  rcases loopI (F := fun n i => ref09_Used.l1 l n i) (Q := fun r => r = (r0, 12) ∧ needsOK l = false) (S := fun k => ∀ h : k < l.length, resOK l[k].Need = true) (len := l.length) (by omega) (fun n k hk => by
      rw [ref09_Used.l1, if_pos (dlt hk), glk hk, wk1 (by omega)]
      simp only [Option.bind_some, ref04_Right_eq]
      cases h : resOK l[k].Need with
      | false =>
        refine .inl ⟨_, rfl, rfl, ?_⟩
        unfold needsOK
        rw [List.all_eq_false]
        exact ⟨l[k], List.getElem_mem _, by simp [h]⟩
      | true => exact .inr ⟨rfl, fun _ => h⟩) (fun n => by rw [ref09_Used.l1, if_neg dnl]) with ⟨r, h1, rfl, h3⟩ | ⟨h1, h2⟩
  · rw [h1, if_neg (by rw [h3]; simp)]; rfl
  · have hn : needsOK l = true := by
      unfold needsOK
      rw [List.all_eq_true]
      intro x hx
      obtain ⟨i, hi, rfl⟩ := List.getElem_of_mem hx
      exact h2 i hi hi
    have h3 := Used9_loop hn (by omega) l.length 0 FU r0 (by omega) (by unfold FU; omega) (by omega) (by decide)
    have h3' : ref09_Used.l2 l FU (⟨0, 0, 0, 0, 0⟩ : T_api_Res) 0 = _ := h3
    rw [h1, if_pos hn]
    simp only [Option.bind_some, Out.on]
    rw [h3', List.drop_zero, radd_r0]
    cases resOK (total l) <;> rfl

theorem Left9_eq (m : T_api_Machine) (bs : List T_api_Bound) (hl : bs.length ≤ 1000) : ref09_Left m bs = some (leftS m.Has (usedS (onS bs m.Name))) := by
  unfold ref09_Left leftS
  rw [Used9_eq bs m.Name hl, ref04_Right_eq]
  simp only [Option.bind_some]
  by_cases h0 : (usedS (onS bs m.Name)).2 = 0
  · rw [if_neg (by simpa using h0)]
    obtain ⟨h1, _⟩ := usedS_ok _ h0
    by_cases h2 : resOK m.Has = true
    · rw [if_pos ⟨h0, h2⟩, h2]
      simp only [Option.bind_some, Bool.not_true, Bool.false_eq_true, if_false]
      obtain ⟨a1, a2, a3, a4, a5⟩ := resOK_split h2
      obtain ⟨b1, b2, b3, b4, b5⟩ := resOK_split h1
      rw [w_sub a1 b1, w_sub a2 b2, w_sub a3 b3, w_sub a4 b4, w_sub a5 b5]
      simp only [rsub, rmin, Option.some.injEq, T_api_Res.mk.injEq]
      rw [resOK_iff] at h1 h2
      omega
    · have h2' : resOK m.Has = false := by simpa using h2
      rw [if_neg (by simp [h2']), h2']
      rfl
  · rw [if_pos (by simpa using h0), if_neg (by simp [h0])]
    rfl

theorem Fits9_eq (a b : T_api_Res) : ref04_Fits a b = some (resOK a && resOK b && rle a b) := by
  unfold ref04_Fits
  rw [ref04_Right_eq, ref04_Right_eq]
  simp only [Option.bind_some]
  unfold rle
  cases resOK a with
  | false => simp
  | true =>
    simp only [if_true, Option.bind_some, Bool.true_and, Option.some.injEq, Bool.and_assoc]

theorem first_neg {len : Nat} {p : Nat → Prop} {r : Int} (h : firstAt len p r) (hr : ¬ r ≥ 0) : ∀ j, j < len → ¬ p j := by
  rcases h with ⟨q, rfl, _⟩ | ⟨_, h⟩
  · omega
  · exact h

theorem others_all {bs : List T_api_Bound} {n : ByteArray} (h : ∀ k (hk : k < bs.length), bs[k].Pod.Name ≠ n) : othersS bs n = bs := by
  unfold othersS
  rw [List.filter_eq_self]
  intro b hb
  obtain ⟨i, hi, rfl⟩ := List.getElem_of_mem hb
  simpa using h i hi

end Go.Proofs.YtbkdglcedgiogaaGreat.M

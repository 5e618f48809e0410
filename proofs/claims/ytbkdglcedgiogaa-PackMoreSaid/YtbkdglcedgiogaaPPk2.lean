/- Plain law: an estimate, step by step, as the program makes it. Own work. -/
import Derived.Test.YtbkdglcedgiogaaPPk1
import Derived.Test.YtbkdglcedgiogaaPPut
namespace Go.Proofs.Ytbkdglcedgiogaa.M
open Go Go.Proofs Go.Proofs.Ytbkdglcedgiogaa.V
open Go.IntKind (i64)
set_option linter.unusedVariables false
set_option maxRecDepth 20000
set_option maxHeartbeats 4000000

def allM (ms : List T_api_Machine) (like : T_api_Machine) (n : Nat) : List T_api_Machine := ms ++ (List.range n).map fun k => freshM like (k + 1)
def namesM (like : T_api_Machine) (n : Nat) : List ByteArray := (List.range n).map fun k => (freshM like (k + 1)).Name
theorem allM_zero (ms : List T_api_Machine) (like : T_api_Machine) : allM ms like 0 = ms := by simp [allM]
theorem allM_succ (ms : List T_api_Machine) (like : T_api_Machine) (n : Nat) : allM ms like (n + 1) = allM ms like n ++ [freshM like (n + 1)] := by simp [allM, List.range_succ]
theorem namesM_succ (like : T_api_Machine) (n : Nat) : namesM like (n + 1) = namesM like n ++ [(freshM like (n + 1)).Name] := by simp [namesM, List.range_succ]
theorem allM_len (ms : List T_api_Machine) (like : T_api_Machine) (n : Nat) : (allM ms like n).length = ms.length + n := by simp [allM]
theorem namesM_len (like : T_api_Machine) (n : Nat) : (namesM like n).length = n := by simp [namesM]
theorem allM_mem {ms : List T_api_Machine} {like : T_api_Machine} {n : Nat} {m : T_api_Machine} (h : m ∈ allM ms like n) : m ∈ ms ∨ ∃ k, k < n ∧ m = freshM like (k + 1) := by
  unfold allM at h
  rcases List.mem_append.1 h with h | h
  · exact .inl h
  · obtain ⟨k, hk, rfl⟩ := List.mem_map.1 h
    exact .inr ⟨k, List.mem_range.1 hk, rfl⟩
theorem allM_new {ms : List T_api_Machine} {like : T_api_Machine} {n k : Nat} (h : k < n) : freshM like (k + 1) ∈ allM ms like n := by
  unfold allM
  exact List.mem_append.2 (.inr (List.mem_map.2 ⟨k, List.mem_range.2 h, rfl⟩))

structure EP (ms : List T_api_Machine) (like : T_api_Machine) : Prop where
  nm : ms.length ≤ 20
  lm : ∀ m, m ∈ ms → LM m
  nd : (ms.map (·.Name)).Nodup
  lk : LM like
  gr : like.Group.size ≤ 256
  pl : ∀ m, m ∈ ms → ¬ (43 : UInt8) ∈ m.Name.data.toList

theorem allM_LM {ms : List T_api_Machine} {like : T_api_Machine} (h : EP ms like) {n : Nat} (hn : n < 59) : ∀ m, m ∈ allM ms like n → LM m := fun m hm => by
  rcases allM_mem hm with hm | ⟨k, hk, rfl⟩
  · exact h.lm m hm
  · exact fresh_LM h.lk h.gr (by omega)
theorem allM_nd {ms : List T_api_Machine} {like : T_api_Machine} (h : EP ms like) : ∀ {n : Nat}, n < 59 → ((allM ms like n).map (·.Name)).Nodup := by
  intro n
  induction n with
  | zero => intro _; rw [allM_zero]; exact h.nd
  | succ n ih =>
    intro hn
    rw [allM_succ, List.map_append, List.nodup_append]
    refine ⟨ih (by omega), by simp, fun a ha b hb e => ?_⟩
    simp only [List.map_cons, List.map_nil, List.mem_singleton] at hb
    obtain ⟨m, hm, rfl⟩ := List.mem_map.1 ha
    subst hb
    rcases allM_mem hm with hm | ⟨k, hk, rfl⟩
    · exact h.pl m hm (by rw [e]; exact fresh_plus like _)
    · have := fresh_inj (by omega) (by omega) e
      omega
theorem nd_idx {l : List T_api_Machine} (h : (l.map (·.Name)).Nodup) : ∀ j k (hj : j < l.length) (hk : k < l.length), l[j].Name = l[k].Name → j = k := fun j k hj hk e => by
  rcases Nat.lt_trichotomy j k with q | q | q
  · exact absurd (by rw [List.getElem_map, List.getElem_map]; exact e) ((List.pairwise_iff_getElem.1 h) j k (by simpa using hj) (by simpa using hk) q)
  · exact q
  · exact absurd (by rw [List.getElem_map, List.getElem_map]; exact e.symm) ((List.pairwise_iff_getElem.1 h) k j (by simpa using hk) (by simpa using hj) q)

structure ES where
  bs : List T_api_Bound
  mv : List T_api_Move
  n : Nat
def fitsK (ms : List T_api_Machine) (like : T_api_Machine) (n : Nat) (bs : List T_api_Bound) (p : T_api_Pod) (k : Nat) : Bool := decide (whyV (allM ms like n) bs p (freshM like (k + 1)) = 0)
def pick (ms : List T_api_Machine) (like : T_api_Machine) (limit : Int) (s : ES) (p : T_api_Pod) : Option Nat :=
  match (List.range s.n).find? (fitsK ms like s.n s.bs p) with
  | some k => some (k + 1)
  | none => if (s.n : Int) < limit then (if fitsK ms like (s.n + 1) s.bs p s.n = true then some (s.n + 1) else none) else none
def putE (like : T_api_Machine) (s : ES) (p : T_api_Pod) (k : Nat) : ES := ⟨s.bs ++ [⟨p, (freshM like k).Name⟩], s.mv ++ [⟨p.Name, (freshM like k).Name⟩], max s.n k⟩
def stepE (ms : List T_api_Machine) (like : T_api_Machine) (limit : Int) (s : ES) (p : T_api_Pod) : ES := match pick ms like limit s p with | some k => putE like s p k | none => s
theorem pick_lt {ms : List T_api_Machine} {like : T_api_Machine} {limit : Int} {s : ES} {p : T_api_Pod} {k : Nat} (h : pick ms like limit s p = some k) : 1 ≤ k ∧ k ≤ s.n + 1 := by
  unfold pick at h
  split at h
  · rename_i j hj
    have := List.mem_range.1 (List.mem_of_find?_eq_some hj)
    simp only [Option.some.injEq] at h
    omega
  · split at h
    · split at h
      · simp only [Option.some.injEq] at h; omega
      · cases h
    · cases h

theorem find_loop {ρ : Type} {F : Nat → Int → Option (Out ρ Unit)} {n : Nat} (q : Nat → Bool) (v : Nat → ρ) (hn : n ≤ 1000) (hs : ∀ f k, k < n → F (f + 1) (k : Int) = if q k = true then some (Out.ret (v k)) else F f ((k + 1 : Nat) : Int)) (he : ∀ f, F (f + 1) (n : Int) = some (Out.go ())) :
    F FU 0 = some (match (List.range n).find? q with | some k => Out.ret (v k) | none => Out.go ()) := by
  have key : ∀ (m k f : Nat), n - k ≤ m → m < f → k ≤ n → F f (k : Int) = some (match ((List.range n).drop k).find? q with | some k => Out.ret (v k) | none => Out.go ()) := by
    intro m
    induction m with
    | zero =>
      intro k f h1 h2 h3
      obtain ⟨f, rfl⟩ : ∃ n', f = n' + 1 := ⟨f - 1, by omega⟩
      have : k = n := by omega
      subst this
      rw [he, List.drop_eq_nil_of_le (by simp)]; rfl
    | succ m ih =>
      intro k f h1 h2 h3
      obtain ⟨f, rfl⟩ : ∃ n', f = n' + 1 := ⟨f - 1, by omega⟩
      by_cases hk : k < n
      · rw [hs f k hk, List.drop_eq_getElem_cons (by simpa using hk), List.getElem_range, List.find?_cons]
        cases hq : q k with
        | true => rfl
        | false => exact ih (k + 1) f (by omega) (by omega) (by omega)
      · have : k = n := by omega
        subst this
        rw [he, List.drop_eq_nil_of_le (by simp)]; rfl
  exact key n 0 FU (by omega) (by unfold FU; omega) (by omega)

def packX (ms : List T_api_Machine) (like : T_api_Machine) (limit : Int) (s : ES) : T_pack_packer := ⟨allM ms like s.n, s.bs, like, namesM like s.n, limit⟩
theorem name_ne (like : T_api_Machine) (k : Nat) : (freshM like k).Name ≠ ⟨#[]⟩ := fun e => by
  have := fresh_plus like k
  rw [e] at this
  cases this
theorem place_P {ms : List T_api_Machine} {like : T_api_Machine} {limit : Int} (h : EP ms like) {s : ES} {p : T_api_Pod} (hn : s.n < 50) (hb : s.bs.length ≤ 500) (hlb : ∀ b, b ∈ s.bs → LP b.Pod) (hp : LP p) :
    pack_packer_place (packX ms like limit s) p = some (match pick ms like limit s p with | some k => ((freshM like k).Name, ⟨allM ms like (max s.n k), s.bs, like, namesM like (max s.n k), limit⟩) | none => (⟨#[]⟩, packX ms like limit s)) := by
  unfold pack_packer_place packX
  have hnm := h.nm
  have hwhy : ∀ (n : Nat), n ≤ s.n + 1 → ∀ k, k < n → fit_Why (allM ms like n) s.bs p (freshM like (k + 1)).Name = some (whyV (allM ms like n) s.bs p (freshM like (k + 1))) := fun n hn' k hk =>
    why_at (by rw [allM_len]; omega) (by omega) (allM_LM h (by omega)) hlb hp (nd_idx (allM_nd h (by omega))) (allM_new hk)
  rw [find_loop (F := fun f i => pack_packer_place.l1 ⟨allM ms like s.n, s.bs, like, namesM like s.n, limit⟩ p f i) (n := s.n) (fitsK ms like s.n s.bs p) (fun k => ((freshM like (k + 1)).Name, (⟨allM ms like s.n, s.bs, like, namesM like s.n, limit⟩ : T_pack_packer))) (by omega) (fun f k hk => by
      have hk' : k < (namesM like s.n).length := by rw [namesM_len]; exact hk
      rw [pack_packer_place.l1, if_pos (dlt hk'), glk hk', wk1 (by omega)]
      simp only [Option.bind_some]
      have hg : (namesM like s.n)[k] = (freshM like (k + 1)).Name := by simp [namesM]
      rw [hg, hwhy s.n (by omega) k hk]
      simp only [Option.bind_some]
      unfold fitsK
      by_cases e : whyV (allM ms like s.n) s.bs p (freshM like (k + 1)) = 0
      · rw [e]; rfl
      · rw [if_neg (by simpa using e), if_neg (by simpa using e)]) (fun f => by
      rw [pack_packer_place.l1, if_neg (by rw [namesM_len]; simp)])]
  unfold pick
  cases hf : (List.range s.n).find? (fitsK ms like s.n s.bs p) with
  | some k =>
    have hk := List.mem_range.1 (List.mem_of_find?_eq_some hf)
    simp only [Option.bind_some, Out.on]
    rw [show max s.n (k + 1) = s.n by omega]
  | none =>
    simp only [Option.bind_some, Out.on, namesM_len]
    by_cases hl : (s.n : Int) < limit
    · rw [if_neg (by simp only [decide_eq_true_eq]; omega), if_pos hl, wk1 (by omega), Fresh_P h.lk (by omega)]
      simp only [Option.bind_some]
      rw [sl_pre (Nat.le_refl _), List.take_length]
      simp only [Option.bind_some]
      rw [ap_ok (by omega) (by rw [allM_len]; simp; omega)]
      simp only [Option.bind_some]
      rw [← allM_succ, hwhy (s.n + 1) (by omega) s.n (by omega)]
      simp only [Option.bind_some]
      unfold fitsK
      by_cases e : whyV (allM ms like (s.n + 1)) s.bs p (freshM like (s.n + 1)) = 0
      · rw [if_neg (by simp [e]), if_pos (by simpa using e), ap_ok (by omega) (by rw [namesM_len]; simp; omega)]
        simp only [Option.bind_some]
        rw [← namesM_succ, show max s.n (s.n + 1) = s.n + 1 by omega]
      · rw [if_pos (by simpa using e), if_neg (by simpa using e)]
    · rw [if_pos (by simp only [decide_eq_true_eq]; omega), if_neg hl]

theorem put_P (bs : List T_api_Bound) (p : T_api_Pod) (n : ByteArray) (hl : bs.length ≤ 1000) (hpos : ∀ x, x ∈ bs → x.Pod.Name ≠ p.Name) : fit_Put bs p n = some (bs ++ [⟨p, n⟩]) := by
  unfold fit_Put
  have key : ∀ (l : List T_api_Bound) (k : Nat) (acc : List T_api_Bound), (∀ x, x ∈ l → x.Pod.Name ≠ p.Name) → l.length + acc.length ≤ 2000 → fit_Put.l1 p l k acc = some (acc ++ l) := by
    intro l
    induction l with
    | nil => intro k acc _ _; simp [fit_Put.l1]
    | cons x l ih =>
      intro k acc h1 h2
      rw [List.length_cons] at h2
      rw [fit_Put.l1, if_pos (by rw [seq_eq]; simpa using h1 x (List.mem_cons_self ..)), ap_ok (by omega) (by simp; omega)]
      simp only [Option.bind_some]
      rw [ih (k + 1) _ (fun y hy => h1 y (List.mem_cons_of_mem _ hy)) (by simp; omega)]
      simp
  rw [key bs 0 [] hpos (by simp; omega)]
  simp only [Option.bind_some, List.nil_append]
  rw [ap_ok (by omega) (by simp; omega)]
  rfl

/-- What holds of a state, and of the pods still to go. -/
structure EI (s : ES) (ps : List T_api_Pod) : Prop where
  n : s.n ≤ s.mv.length
  c : s.mv.length + ps.length ≤ 40
  b : s.bs.length + ps.length ≤ 80
  lb : ∀ b, b ∈ s.bs → LP b.Pod
  lp : ∀ p, p ∈ ps → LP p
  nd : (ps.map (·.Name)).Nodup
  ne : ∀ b, b ∈ s.bs → ∀ p, p ∈ ps → b.Pod.Name ≠ p.Name
theorem EI.put {like : T_api_Machine} {s : ES} {p : T_api_Pod} {ps : List T_api_Pod} (h : EI s (p :: ps)) {k : Nat} (hk : k ≤ s.n + 1) : EI (putE like s p k) ps := by
  obtain ⟨h1, h2, h3, h4, h5, h6, h7⟩ := h
  rw [List.length_cons] at h2 h3
  rw [List.map_cons, List.nodup_cons] at h6
  refine ⟨by simp only [putE, List.length_append, List.length_singleton]; omega, by simp only [putE, List.length_append, List.length_singleton]; omega, by simp only [putE, List.length_append, List.length_singleton]; omega, fun b hb => ?_, fun q hq => h5 q (List.mem_cons_of_mem _ hq), h6.2, fun b hb q hq => ?_⟩
  · rcases List.mem_append.1 hb with hb | hb
    · exact h4 b hb
    · rw [List.mem_singleton.1 hb]; exact h5 p (List.mem_cons_self ..)
  · rcases List.mem_append.1 hb with hb | hb
    · exact h7 b hb q (List.mem_cons_of_mem _ hq)
    · rw [List.mem_singleton.1 hb]
      intro e
      exact h6.1 (List.mem_map.2 ⟨q, hq, e.symm⟩)
theorem EI.skip {s : ES} {p : T_api_Pod} {ps : List T_api_Pod} (h : EI s (p :: ps)) : EI s ps := by
  obtain ⟨h1, h2, h3, h4, h5, h6, h7⟩ := h
  rw [List.length_cons] at h2 h3
  rw [List.map_cons, List.nodup_cons] at h6
  exact ⟨h1, by omega, by omega, h4, fun q hq => h5 q (List.mem_cons_of_mem _ hq), h6.2, fun b hb q hq => h7 b hb q (List.mem_cons_of_mem _ hq)⟩
theorem EI.step {ms : List T_api_Machine} {like : T_api_Machine} {limit : Int} {s : ES} {p : T_api_Pod} {ps : List T_api_Pod} (h : EI s (p :: ps)) : EI (stepE ms like limit s p) ps := by
  unfold stepE
  split
  · rename_i k hk
    exact h.put (pick_lt hk).2
  · exact h.skip

theorem est_P {ms : List T_api_Machine} {like : T_api_Machine} {limit : Int} (h : EP ms like) (l : List T_api_Pod) : ∀ (ps : List T_api_Pod) (r : List Int) (k : Nat) (s : ES), r.map (V.gl l) = ps.map some → EI s ps →
    pack_Estimate.l1 l r k (packX ms like limit s) s.mv = some (packX ms like limit (ps.foldl (stepE ms like limit) s), (ps.foldl (stepE ms like limit) s).mv) := by
  intro ps
  induction ps with
  | nil =>
    intro r k s hr hi
    have : r = [] := by simpa using hr
    subst this
    rfl
  | cons p ps ih =>
    intro r k s hr hi
    cases r with
    | nil => simp at hr
    | cons x r =>
      simp only [List.map_cons, List.cons.injEq] at hr
      obtain ⟨hx, hr⟩ := hr
      have h2 := hi.c
      have h3 := hi.b
      have hn := hi.n
      rw [List.length_cons] at h2 h3
      rw [pack_Estimate.l1, hx]
      simp only [Option.bind_some]
      rw [place_P h (by omega) (by omega) hi.lb (hi.lp p (List.mem_cons_self ..)), List.foldl_cons]
      simp only [Option.bind_some, seq_eq]
      have hst := hi.step (ms := ms) (like := like) (limit := limit)
      have ih' := ih r (k + 1) (stepE ms like limit s p) hr hst
      revert ih'
      unfold stepE
      cases hk : pick ms like limit s p with
      | none =>
        intro ih'
        simp only [decide_true, Bool.not_true, Bool.false_eq_true, if_false]
        exact ih'
      | some j =>
        intro ih'
        simp only
        rw [if_pos (by simpa using name_ne like j), put_P _ _ _ (by omega) fun b hb => hi.ne b hb p (List.mem_cons_self ..)]
        simp only [Option.bind_some]
        rw [ap_ok (by omega) (by simp; omega)]
        simp only [Option.bind_some]
        exact ih'

def idxs (n : Nat) : List Int := (List.range n).map fun k : Nat => (k : Int)
theorem idxs_succ (n : Nat) : idxs (n + 1) = idxs n ++ [(n : Int)] := by simp [idxs, List.range_succ]
theorem idxs_mem {n : Nat} {x : Int} (h : x ∈ idxs n) : ∃ k : Nat, x = (k : Int) ∧ k < n := by
  obtain ⟨k, hk, rfl⟩ := List.mem_map.1 h
  exact ⟨k, rfl, List.mem_range.1 hk⟩
theorem idxs_gl (l : List T_api_Pod) : (idxs l.length).map (V.gl l) = l.map some := by
  apply List.ext_getElem
  · simp [idxs]
  · intro i h1 h2
    have hi : i < l.length := by simpa [idxs] using h1
    simp [idxs, glk hi]
/-- The pods in any order. -/
theorem order_pods {l : List T_api_Pod} {r : List Int} (h : r.Perm (idxs l.length)) : ∃ ps : List T_api_Pod, r.map (V.gl l) = ps.map some ∧ ps.Perm l := by
  refine ⟨(r.map (V.gl l)).filterMap id, ?_, ?_⟩
  · have : ∀ (r : List Int), (∀ x, x ∈ r → ∃ p, V.gl l x = some p) → r.map (V.gl l) = ((r.map (V.gl l)).filterMap id).map some := by
      intro r
      induction r with
      | nil => intro _; rfl
      | cons x r ih =>
        intro hx
        obtain ⟨p, hp⟩ := hx x (List.mem_cons_self ..)
        simp only [List.map_cons, hp, List.filterMap_cons, id]
        rw [← ih fun y hy => hx y (List.mem_cons_of_mem _ hy)]
    refine this r fun x hx => ?_
    obtain ⟨k, rfl, hk⟩ := idxs_mem (h.mem_iff.1 hx)
    exact ⟨_, glk hk⟩
  · have h1 := (h.map (V.gl l)).filterMap id
    rw [idxs_gl] at h1
    simpa [List.filterMap_map] using h1
end Go.Proofs.Ytbkdglcedgiogaa.M

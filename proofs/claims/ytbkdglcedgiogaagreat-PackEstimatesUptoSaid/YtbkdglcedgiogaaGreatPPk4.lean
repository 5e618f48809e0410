/-
  Printed by a program of this session out of the loaded functions: models and their proofs. Own text.
-/
import Derived.Test.YtbkdglcedgiogaaGreatPRef9
import Derived.Test.YtbkdglcedgiogaaGreatPSchP
import Derived.Test.YtbkdglcedgiogaaGreatPSch0
import Derived.Test.YtbkdglcedgiogaaGreatPSch6
import Derived.Test.YtbkdglcedgiogaaGreatRKO
/- Plain law: PackEstimates. Own work. -/
namespace Go.Proofs.YtbkdglcedgiogaaGreat.M
open Go Go.Proofs Go.Proofs.YtbkdglcedgiogaaGreat.V
open Go.IntKind (i64)
set_option linter.unusedVariables false
set_option maxRecDepth 20000
set_option maxHeartbeats 4000000

theorem dgR_all : ((List.range 60).all fun k => decide (ref01_Digits FU (k : Int) = some (dg k))) = true := by kernel_rfl
theorem dgR {k : Nat} (h : k < 60) : ref01_Digits FU (k : Int) = some (dg k) := by
  have := (List.all_eq_true.1 dgR_all) k (List.mem_range.2 h)
  simpa using this
theorem Fresh_R {like : T_api_Machine} (hl : LM like) {k : Nat} (h : k < 60) : ref19_Fresh like (k : Int) = some (freshM like k) := by
  have hg := hl.group
  have hd := (dg_ok h).2.1
  unfold ref19_Fresh
  rw [if_neg (by simp), cat7 (by have : (ByteArray.mk #[43]).size = 1 := rfl; omega), dgR h]
  simp only [Option.bind_some]
  rw [cat7 (by have : (ByteArray.mk #[43]).size = 1 := rfl; rw [ByteArray.size_append]; omega)]
  rfl

theorem Order19_R {l : List T_api_Pod} {like : T_api_Machine} (hl : l.length ≤ 400) : ∃ r, ref19_Order l like = some r ∧ r.Perm (idxs l.length) ∧ r.Pairwise (Rk (rk19 l like)) := by
  unfold ref19_Order
  have key : ∀ (m k n : Nat) (out : List Int), l.length - k ≤ m → m < n → k ≤ l.length → out.Perm (idxs k) → out.Pairwise (Rk (rk19 l like)) → ∃ r, ref19_Order.l1 l like n out (k : Int) = some r ∧ r.Perm (idxs l.length) ∧ r.Pairwise (Rk (rk19 l like)) := by
    intro m
    induction m with
    | zero =>
      intro k n out h1 h2 h3 h4 h5
      obtain ⟨n, rfl⟩ : ∃ n', n = n' + 1 := ⟨n - 1, by omega⟩
      have : k = l.length := by omega
      subst this
      rw [ref19_Order.l1, if_neg dnl]
      exact ⟨out, rfl, h4, h5⟩
    | succ m ih =>
      intro k n out h1 h2 h3 h4 h5
      obtain ⟨n, rfl⟩ : ∃ n', n = n' + 1 := ⟨n - 1, by omega⟩
      by_cases hk : k < l.length
      · have hol : out.length = k := by rw [h4.length_eq]; simp [idxs]
        have hmem : ∀ x, x ∈ out → ∃ j : Nat, x = (j : Int) ∧ j < k := fun x hx => idxs_mem (h4.mem_iff.1 hx)
        rw [ref19_Order.l1, if_pos (dlt hk), wk1 (by omega)]
        rw [ins_loop (F := fun f j next => ref19_Order.l2 l like out (k : Int) f j next) (l := out) (rk := rk19 l like) (i := (k : Int)) (by omega) (fun n j hj next hn => by
            obtain ⟨q, hq, hqk⟩ := hmem _ (List.getElem_mem hj)
            have hq' : q < l.length := by omega
            rw [ref19_Order.l2, if_pos (dlt hj), glk hj, Option.bind_some, hq, glk hq', Option.bind_some, glk hk, Option.bind_some, share_R, share_R, Option.bind_some, Option.bind_some, Option.bind_some, wk1 (by omega), rk19_at hq', rk19_at hk]
            by_cases hd : shareV l[q].Need like.Has ≥ shareV l[k].Need like.Has
            · rw [decide_eq_true hd, if_pos rfl, if_pos hd, Option.bind_some, ap_ok (by omega) (by simp; omega), Option.bind_some]
            · rw [decide_eq_false hd, if_neg (by decide), if_neg hd]) (fun n next => by rw [ref19_Order.l2, if_neg dnl]; rfl)]
        simp only [Option.bind_some]
        have htw : (out.takeWhile (insQ (rk19 l like) (k : Int))).length ≤ out.length := (List.takeWhile_sublist _).length_le
        rw [ap_ok (by omega) (by simp; omega)]
        simp only [Option.bind_some]
        rw [sl_suf htw]
        simp only [Option.bind_some]
        rw [ap_ok (by omega) (by simp; omega)]
        simp only [Option.bind_some]
        rw [ins_put]
        refine ih (k + 1) n _ (by omega) (by omega) (by omega) ?_ (insL_sorted h5 fun x hx => ?_)
        · rw [idxs_succ]
          exact (insL_perm _ _ _).trans (List.Perm.append_right _ h4)
        · obtain ⟨j, rfl, hj⟩ := hmem x hx
          omega
      · have : k = l.length := by omega
        subst this
        rw [ref19_Order.l1, if_neg dnl]
        exact ⟨out, rfl, h4, h5⟩
  obtain ⟨r, h1, h2, h3⟩ := key l.length 0 FU [] (by omega) (by unfold FU; omega) (by omega) (by simp [idxs]) .nil
  rw [show ((0 : Nat) : Int) = 0 from rfl] at h1
  rw [h1]
  exact ⟨r, rfl, h2, h3⟩

theorem find_from {q : Nat → Bool} {n : Nat} : ∀ (m k : Nat), n - k ≤ m → k ≤ n → ((List.range n).drop k).find? q = if h : k < n then (if q k = true then some k else ((List.range n).drop (k + 1)).find? q) else none := by
  intro m k _ hk
  by_cases h : k < n
  · rw [dif_pos h, List.drop_eq_getElem_cons (by simpa using h), List.getElem_range, List.find?_cons]
    cases q k <;> rfl
  · rw [dif_neg h, List.drop_eq_nil_of_le (by simp; omega)]; rfl

/-- What is sought, as the document seeks it. -/
theorem seek_R {ms : List T_api_Machine} {like : T_api_Machine} {n : Nat} {bs : List T_api_Bound} {p : T_api_Pod} (hn : n < 50) (hl : LM like)
    (hw : ∀ k, k < n → ref12_Why (allM ms like n) bs p (freshM like (k + 1)).Name = some (whyV (allM ms like n) bs p (freshM like (k + 1)))) :
    ref19_Estimate.l2 like bs (allM ms like n) (n : Int) p FU (⟨#[]⟩ : ByteArray) (1 : Int) = some (match (List.range n).find? (fitsK ms like n bs p) with | some k => (freshM like (k + 1)).Name | none => ⟨#[]⟩) := by
  have stop : ∀ (f k : Nat) (on_ : ByteArray), 0 < f → on_ ≠ ⟨#[]⟩ → ref19_Estimate.l2 like bs (allM ms like n) (n : Int) p f on_ (k : Int) = some on_ := by
    intro f k on_ hf ho
    obtain ⟨f, rfl⟩ : ∃ n', f = n' + 1 := ⟨f - 1, by omega⟩
    rw [ref19_Estimate.l2, if_neg (by rw [seq_eq]; simp [ho])]
  have key : ∀ (m k f : Nat), n - k ≤ m → m + 1 < f → k ≤ n → ref19_Estimate.l2 like bs (allM ms like n) (n : Int) p f (⟨#[]⟩ : ByteArray) ((k + 1 : Nat) : Int) = some (match ((List.range n).drop k).find? (fitsK ms like n bs p) with | some k => (freshM like (k + 1)).Name | none => ⟨#[]⟩) := by
    intro m
    induction m with
    | zero =>
      intro k f h1 h2 h3
      obtain ⟨f, rfl⟩ : ∃ n', f = n' + 1 := ⟨f - 1, by omega⟩
      have : k = n := by omega
      subst this
      rw [ref19_Estimate.l2, if_neg (by simp; omega), List.drop_eq_nil_of_le (by simp)]; rfl
    | succ m ih =>
      intro k f h1 h2 h3
      obtain ⟨f, rfl⟩ : ∃ n', f = n' + 1 := ⟨f - 1, by omega⟩
      by_cases hk : k < n
      · rw [ref19_Estimate.l2, if_pos (by rw [seq_eq]; simp; omega), Fresh_R hl (by omega), Option.bind_some, hw k hk, Option.bind_some, wk1 (by omega), find_from (n - k) k (by omega) h3, dif_pos hk]
        by_cases e : whyV (allM ms like n) bs p (freshM like (k + 1)) = 0
        · rw [if_pos (by simpa using e), stop f (k + 1 + 1) _ (by omega) (name_ne like _), if_pos (by unfold fitsK; simpa using e)]
        · rw [if_neg (by simpa using e), if_neg (by unfold fitsK; simpa using e)]
          exact ih (k + 1) f (by omega) (by omega) (by omega)
      · have : k = n := by omega
        subst this
        rw [ref19_Estimate.l2, if_neg (by simp; omega), List.drop_eq_nil_of_le (by simp)]; rfl
  exact key n 0 FU (by omega) (by unfold FU; omega) (by omega)

theorem put_R (bs : List T_api_Bound) (p : T_api_Pod) (n : ByteArray) (hl : bs.length ≤ 1000) (hpos : ∀ x, x ∈ bs → x.Pod.Name ≠ p.Name) : ref12_Put bs p n = some (bs ++ [⟨p, n⟩]) := by
  unfold ref12_Put
  rw [Others_ref bs p.Name (by omega), others_none hpos]
  simp only [Option.bind_some]
  rw [ap_ok (by omega) (by simp; omega)]
  rfl

theorem est_R {ms : List T_api_Machine} {like : T_api_Machine} {limit : Int} (h : EP ms like) (hgm : ∀ m, m ∈ ms → GM m) (hgl : sortedL like.Labels) (l : List T_api_Pod) (R : List Int) (hR : R.length ≤ 100) : ∀ (ps : List T_api_Pod) (r : List Int) (k f : Nat) (s : ES), R.drop k = r → k ≤ R.length → r.length < f → r.map (V.gl l) = ps.map some → EI s ps → (∀ b, b ∈ s.bs → GP b.Pod) → (∀ p, p ∈ ps → GP p) →
    ref19_Estimate.l1 l like limit R f s.bs s.mv (allM ms like s.n) (s.n : Int) (k : Int) = some ((ps.foldl (stepE ms like limit) s).mv, ((ps.foldl (stepE ms like limit) s).n : Int)) := by
  intro ps
  induction ps with
  | nil =>
    intro r k f s hd hkl hf hr hi _ _
    have : r = [] := by simpa using hr
    subst this
    obtain ⟨f, rfl⟩ : ∃ n', f = n' + 1 := ⟨f - 1, by omega⟩
    have hk : R.length ≤ k := by simpa using hd
    have e : k = R.length := by omega
    subst e
    rw [ref19_Estimate.l1, if_neg dnl]
    rfl
  | cons p ps ih =>
    intro r k f s hd hkl hf hr hi hgb hgp
    cases r with
    | nil => simp at hr
    | cons x r =>
      obtain ⟨f, rfl⟩ : ∃ n', f = n' + 1 := ⟨f - 1, by omega⟩
      simp only [List.map_cons, List.cons.injEq] at hr
      obtain ⟨hx, hr⟩ := hr
      have hk : k < R.length := by
        have := congrArg List.length hd; rw [List.length_drop, List.length_cons] at this; omega
      have hdd := List.drop_eq_getElem_cons hk
      rw [hd] at hdd
      injection hdd with hx1 hdd
      have h2 := hi.c
      have h3 := hi.b
      have hn := hi.n
      have hnm := h.nm
      rw [List.length_cons] at h2 h3 hf
      have hgall : ∀ n, n < 59 → ∀ m, m ∈ allM ms like n → GM m := fun n hn m hm => by
        rcases allM_mem hm with hm | ⟨j, hj, rfl⟩
        · exact hgm m hm
        · exact ⟨fresh_LM h.lk h.gr (by omega), hgl⟩
      have hwhy : ∀ (n : Nat), n ≤ s.n + 1 → ∀ k, k < n → ref12_Why (allM ms like n) s.bs p (freshM like (k + 1)).Name = some (whyV (allM ms like n) s.bs p (freshM like (k + 1))) := fun n hn' k hk =>
        Why12_eq (by rw [allM_len]; omega) (by omega) (hgall n (by omega)) (allM_nd h (by omega)) hgb (hgp p (List.mem_cons_self ..)) (allM_new hk)
      rw [ref19_Estimate.l1, if_pos (dlt hk), glk hk, ← hx1, Option.bind_some, hx, Option.bind_some, wk1 (k := k) (by omega), seek_R (by omega) h.lk (hwhy s.n (by omega)), Option.bind_some, List.foldl_cons]
      have hst := hi.step (ms := ms) (like := like) (limit := limit)
      have hpt : ∀ (j : Nat), j ≤ s.n + 1 → stepE ms like limit s p = putE like s p j →
          ((ref12_Put s.bs p (freshM like j).Name).bind fun r6 => (V.ap 32 s.mv [(⟨p.Name, (freshM like j).Name⟩ : T_api_Move)]).bind fun moves4 => ref19_Estimate.l1 l like limit R f r6 moves4 (allM ms like (max s.n j)) ((max s.n j : Nat) : Int) ((k + 1 : Nat) : Int)) = some ((ps.foldl (stepE ms like limit) (stepE ms like limit s p)).mv, ((ps.foldl (stepE ms like limit) (stepE ms like limit s p)).n : Int)) := fun j hj he => by
        rw [put_R _ _ _ (by omega) fun b hb => hi.ne b hb p (List.mem_cons_self ..), Option.bind_some, ap_ok (by omega) (by simp; omega), Option.bind_some]
        rw [he] at hst ⊢
        refine ih r (k + 1) f (putE like s p j) hdd.symm (by omega) (by omega) hr hst (fun b hb => ?_) fun q hq => hgp q (List.mem_cons_of_mem _ hq)
        rcases List.mem_append.1 hb with hb | hb
        · exact hgb b hb
        · rw [List.mem_singleton.1 hb]; exact hgp p (List.mem_cons_self ..)
      have hskip : stepE ms like limit s p = s → ref19_Estimate.l1 l like limit R f s.bs s.mv (allM ms like s.n) (s.n : Int) ((k + 1 : Nat) : Int) = some ((ps.foldl (stepE ms like limit) (stepE ms like limit s p)).mv, ((ps.foldl (stepE ms like limit) (stepE ms like limit s p)).n : Int)) := fun he => by
        rw [he]
        rw [he] at hst
        exact ih r (k + 1) f s hdd.symm (by omega) (by omega) hr hst hgb fun q hq => hgp q (List.mem_cons_of_mem _ hq)
      cases hf1 : (List.range s.n).find? (fitsK ms like s.n s.bs p) with
      | some j =>
        have hj := List.mem_range.1 (List.mem_of_find?_eq_some hf1)
        have hne := name_ne like (j + 1)
        simp only [seq_eq, decide_eq_false hne, Bool.false_and, Bool.false_eq_true, if_false, Option.bind_some, Bool.not_false, if_true]
        have := hpt (j + 1) (by omega) (by unfold stepE pick; rw [hf1])
        rw [show max s.n (j + 1) = s.n by omega] at this
        exact this
      | none =>
        simp only [seq_eq, decide_true, Bool.true_and]
        by_cases hlim : (s.n : Int) < limit
        · rw [decide_eq_true hlim, if_pos rfl, wk1 (by omega), Fresh_R h.lk (by omega), Option.bind_some, ap_ok (by omega) (by rw [allM_len]; simp; omega), Option.bind_some, List.nil_append, ap_ok (by omega) (by rw [allM_len]; simp; omega), Option.bind_some, ← allM_succ, hwhy (s.n + 1) (by omega) s.n (by omega), Option.bind_some]
          by_cases e : whyV (allM ms like (s.n + 1)) s.bs p (freshM like (s.n + 1)) = 0
          · rw [if_pos (by simpa using e), Option.bind_some]
            have hne := name_ne like (s.n + 1)
            simp only [decide_eq_false hne, Bool.not_false, if_true]
            have := hpt (s.n + 1) (by omega) (by unfold stepE pick; rw [hf1]; simp only [if_pos hlim]; rw [if_pos (by unfold fitsK; simpa using e)])
            rw [show max s.n (s.n + 1) = s.n + 1 by omega] at this
            exact this
          · rw [if_neg (by simpa using e), Option.bind_some]
            simp only [decide_true, Bool.not_true, Bool.false_eq_true, if_false]
            exact hskip (by unfold stepE pick; rw [hf1]; simp only [if_pos hlim]; rw [if_neg (by unfold fitsK; simpa using e)])
        · rw [decide_eq_false hlim, if_neg (by decide), Option.bind_some]
          simp only [decide_true, Bool.not_true, Bool.false_eq_true, if_false]
          exact hskip (by unfold stepE pick; rw [hf1]; simp only [if_neg hlim])

theorem SameL_self {l : List T_api_Label} (hl : l.length ≤ 1000) : ref05_Same l l = some true := by
  unfold ref05_Same
  rw [if_neg (by simp)]
  rcases loopI (F := fun n i => ref05_Same.l1 l l n i) (Q := fun r => False) (S := fun k => True) (len := l.length) (by omega) (fun n k hk => by
      rw [ref05_Same.l1, if_pos (dlt hk), glk hk, wk1 (by omega)]
      right; simp [ba_beq]) (fun n => by rw [ref05_Same.l1, if_neg dnl]) with ⟨r, _, h2⟩ | ⟨h1, _⟩
  · exact h2.elim
  · rw [h1]; rfl
theorem SameT_self {l : List T_api_Taint} (hl : l.length ≤ 1000) : ref06_Same l l = some true := by
  unfold ref06_Same
  rw [if_neg (by simp)]
  rcases loopI (F := fun n i => ref06_Same.l1 l l n i) (Q := fun r => False) (S := fun k => True) (len := l.length) (by omega) (fun n k hk => by
      rw [ref06_Same.l1, if_pos (dlt hk), glk hk, wk1 (by omega)]
      right; simp [ba_beq]) (fun n => by rw [ref06_Same.l1, if_neg dnl]) with ⟨r, _, h2⟩ | ⟨h1, _⟩
  · exact h2.elim
  · rw [h1]; rfl
theorem SameMachine_self {m : T_api_Machine} (h : LM m) : ref07_SameMachine m m = some true := by
  have h1 := h.labels.1
  have h2 := h.taints.1
  unfold ref07_SameMachine
  rw [SameL_self (by omega), SameT_self (by omega)]
  simp [seq_eq]

theorem fold_mv {ms : List T_api_Machine} {like : T_api_Machine} {limit : Int} : ∀ (ps : List T_api_Pod) (s : ES), (ps.foldl (stepE ms like limit) s).mv.length ≤ s.mv.length + ps.length
  | [], s => by simp
  | p :: ps, s => by
    have h2 := fold_mv (ms := ms) (like := like) (limit := limit) ps (stepE ms like limit s p)
    have h1 : (stepE ms like limit s p).mv.length ≤ s.mv.length + 1 := by
      unfold stepE
      split
      · simp [putE]
      · omega
    rw [List.foldl_cons, List.length_cons]
    omega

theorem PackEstimates_true {a p : Prop} (c : T_law19_Case) (_ : a) (_ : p) (hB : c.Bs.length ≤ 1048576) (hL : c.L.length ≤ 1048576) : law19_PackEstimates c = some true := by
  unfold law19_PackEstimates
  rw [known19_true]
  obtain ⟨b, hb, hr⟩ := Right19 c.Ms c.Bs c.L c.Like (by omega)
  rw [hb]
  cases b with
  | false => rfl
  | true =>
    have hr := hr rfl
    have hlen := hr.ly.nb
    have hpl : (pendA c.L).length = c.L.length := by simp [pendA]
    rw [List.length_append, hpl] at hlen
    simp only [Option.bind_some, Bool.not_true, Bool.false_eq_true, if_false]
    obtain ⟨r, ps, e1, e2, e3, e4, e5, e6⟩ := Est_P hr
    obtain ⟨r', g1, g2, g3⟩ := Order19_R (l := c.L) (like := c.Like) (by omega)
    have hrr : r' = r := sorted_unique (R := Rk (rk19 c.L c.Like)) (fun a h => by unfold Rk at h; omega) (fun a b h k => by unfold Rk at h k; omega) g3 e3 (g2.trans e2.symm)
    subst hrr
    have hgm := gms hr.ly hr.ry
    have hgb := gbs hr.ly hr.ry
    have hgl := gm_of hr.like hr.right
    have hrl : r'.length = c.L.length := by rw [e2.length_eq]; simp [idxs]
    have hR : ref19_Estimate c.Ms c.Bs c.L c.Like c.Limit = some ((ps.foldl (stepE c.Ms c.Like c.Limit) ⟨c.Bs, [], 0⟩).mv, ((ps.foldl (stepE c.Ms c.Like c.Limit) ⟨c.Bs, [], 0⟩).n : Int)) := by
      unfold ref19_Estimate
      have hnm := hr.ep.nm
      rw [ap_ok (by omega) (by simp; omega), Option.bind_some, g1, Option.bind_some, List.nil_append]
      have := est_R (limit := c.Limit) hr.ep hgm hgl.so c.L r' (by omega) ps r' 0 FU ⟨c.Bs, [], 0⟩ rfl (by omega) (by unfold FU; omega) e4 (hr.ei e5) (fun b hb => hgb b (List.mem_append.2 (.inl hb))) (fun p hp => hgb ⟨p, ⟨#[]⟩⟩ (List.mem_append.2 (.inr (List.mem_map.2 ⟨p, e5.mem_iff.1 hp, rfl⟩))))
      simp only [allM_zero] at this
      rw [show ((0 : Nat) : Int) = 0 from rfl] at this
      rw [this]
      rfl
    have hmv := fold_mv (ms := c.Ms) (like := c.Like) (limit := c.Limit) ps ⟨c.Bs, [], 0⟩
    have hpsl := e5.length_eq
    simp only [List.length_nil] at hmv
    rw [e6, hR, Option.bind_some, Option.bind_some, Fresh_P hr.like (by omega), Option.bind_some, Moves_self (show (ps.foldl (stepE c.Ms c.Like c.Limit) ⟨c.Bs, [], 0⟩).mv.length ≤ 1000 by omega), Option.bind_some]
    simp only [BEq.rfl, Bool.and_self, if_true]
    rw [e1, g1, Option.bind_some, Option.bind_some, Ints_self (by omega), Option.bind_some, Option.bind_some]
    simp only [if_true]
    rw [Fresh_R hr.like (by omega), Option.bind_some, SameMachine_self (fresh_LM hr.like (group_size hr.like hr.right) (by omega))]
    rfl
end Go.Proofs.YtbkdglcedgiogaaGreat.M

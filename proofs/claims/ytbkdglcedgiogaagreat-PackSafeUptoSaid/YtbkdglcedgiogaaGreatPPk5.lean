/-
  Printed by a program of this session out of the loaded functions: models and their proofs. Own text.
-/
import Derived.Test.YtbkdglcedgiogaaGreatPRef9
import Derived.Test.YtbkdglcedgiogaaGreatPSchP
import Derived.Test.YtbkdglcedgiogaaGreatPSch0
import Derived.Test.YtbkdglcedgiogaaGreatPSch6
import Derived.Test.YtbkdglcedgiogaaGreatRKO
/- Plain law: PackEstimates. Own work. -/
namespace Go.Proofs.YtbkdglcedgiogaaGreat.M
open Go Go.Proofs Go.Proofs.YtbkdglcedgiogaaGreat.V
open Go.IntKind (i64)
set_option linter.unusedVariables false
set_option maxRecDepth 20000
set_option maxHeartbeats 4000000

theorem dgR_all : ((List.range 60).all fun k => decide (ref01_Digits FU (k : Int) = some (dg k))) = true := by kernel_rfl
theorem dgR {k : Nat} (h : k < 60) : ref01_Digits FU (k : Int) = some (dg k) := by
  have := (List.all_eq_true.1 dgR_all) k (List.mem_range.2 h)
  simpa using this
theorem Fresh_R {like : T_api_Machine} (hl : LM like) {k : Nat} (h : k < 60) : ref19_Fresh like (k : Int) = some (freshM like k) := by
  have hg := hl.group
  have hd := (dg_ok h).2.1
  unfold ref19_Fresh
  rw [if_neg (by simp), cat7 (by have : (ByteArray.mk #[43]).size = 1 := rfl; omega), dgR h]
  simp only [Option.bind_some]
  rw [cat7 (by have : (ByteArray.mk #[43]).size = 1 := rfl; rw [ByteArray.size_append]; omega)]
  rfl

theorem Order19_R {l : List T_api_Pod} {like : T_api_Machine} (hl : l.length ≤ 400) : ∃ r, ref19_Order l like = some r ∧ r.Perm (idxs l.length) ∧ r.Pairwise (Rk (rk19 l like)) := by
  unfold ref19_Order
  have key : ∀ (m k n : Nat) (out : List Int), l.length - k ≤ m → m < n → k ≤ l.length → out.Perm (idxs k) → out.Pairwise (Rk (rk19 l like)) → ∃ r, ref19_Order.l1 l like n out (k : Int) = some r ∧ r.Perm (idxs l.length) ∧ r.Pairwise (Rk (rk19 l like)) := by
    intro m
    induction m with
    | zero =>
      intro k n out h1 h2 h3 h4 h5
      obtain ⟨n, rfl⟩ : ∃ n', n = n' + 1 := ⟨n - 1, by omega⟩
      have : k = l.length := by omega
      subst this
      rw [ref19_Order.l1, if_neg dnl]
      exact ⟨out, rfl, h4, h5⟩
    | succ m ih =>
      intro k n out h1 h2 h3 h4 h5
      obtain ⟨n, rfl⟩ : ∃ n', n = n' + 1 := ⟨n - 1, by omega⟩
      by_cases hk : k < l.length
      · have hol : out.length = k := by rw [h4.length_eq]; simp [idxs]
        have hmem : ∀ x, x ∈ out → ∃ j : Nat, x = (j : Int) ∧ j < k := fun x hx => idxs_mem (h4.mem_iff.1 hx)
        rw [ref19_Order.l1, if_pos (dlt hk), wk1 (by omega)]
        rw [ins_loop (F := fun f j next => ref19_Order.l2 l like out (k : Int) f j next) (l := out) (rk := rk19 l like) (i := (k : Int)) (by omega) (fun n j hj next hn => by
            obtain ⟨q, hq, hqk⟩ := hmem _ (List.getElem_mem hj)
            have hq' : q < l.length := by omega
            rw [ref19_Order.l2, if_pos (dlt hj), glk hj, Option.bind_some, hq, glk hq', Option.bind_some, glk hk, Option.bind_some, share_R, share_R, Option.bind_some, Option.bind_some, Option.bind_some, wk1 (by omega), rk19_at hq', rk19_at hk]
            by_cases hd : shareV l[q].Need like.Has ≥ shareV l[k].Need like.Has
            · rw [decide_eq_true hd, if_pos rfl, if_pos hd, Option.bind_some, ap_ok (by omega) (by simp; omega), Option.bind_some]
            · rw [decide_eq_false hd, if_neg (by decide), if_neg hd]) (fun n next => by rw [ref19_Order.l2, if_neg dnl]; rfl)]
        simp only [Option.bind_some]
        have htw : (out.takeWhile (insQ (rk19 l like) (k : Int))).length ≤ out.length := (List.takeWhile_sublist _).length_le
        rw [ap_ok (by omega) (by simp; omega)]
        simp only [Option.bind_some]
        rw [sl_suf htw]
        simp only [Option.bind_some]
        rw [ap_ok (by omega) (by simp; omega)]
        simp only [Option.bind_some]
        rw [ins_put]
        refine ih (k + 1) n _ (by omega) (by omega) (by omega) ?_ (insL_sorted h5 fun x hx => ?_)
        · rw [idxs_succ]
          exact (insL_perm _ _ _).trans (List.Perm.append_right _ h4)
        · obtain ⟨j, rfl, hj⟩ := hmem x hx
          omega
      · have : k = l.length := by omega
        subst this
        rw [ref19_Order.l1, if_neg dnl]
        exact ⟨out, rfl, h4, h5⟩
  obtain ⟨r, h1, h2, h3⟩ := key l.length 0 FU [] (by omega) (by unfold FU; omega) (by omega) (by simp [idxs]) .nil
  rw [show ((0 : Nat) : Int) = 0 from rfl] at h1
  rw [h1]
  exact ⟨r, rfl, h2, h3⟩

theorem find_from {q : Nat → Bool} {n : Nat} : ∀ (m k : Nat), n - k ≤ m → k ≤ n → ((List.range n).drop k).find? q = if h : k < n then (if q k = true then some k else ((List.range n).drop (k + 1)).find? q) else none := by
  intro m k _ hk
  by_cases h : k < n
  · rw [dif_pos h, List.drop_eq_getElem_cons (by simpa using h), List.getElem_range, List.find?_cons]
    cases q k <;> rfl
  · rw [dif_neg h, List.drop_eq_nil_of_le (by simp; omega)]; rfl

/-- What is sought, as the document seeks it. -/
theorem seek_R {ms : List T_api_Machine} {like : T_api_Machine} {n : Nat} {bs : List T_api_Bound} {p : T_api_Pod} (hn : n < 50) (hl : LM like)
    (hw : ∀ k, k < n → ref12_Why (allM ms like n) bs p (freshM like (k + 1)).Name = some (whyV (allM ms like n) bs p (freshM like (k + 1)))) :
    ref19_Estimate.l2 like bs (allM ms like n) (n : Int) p FU (⟨#[]⟩ : ByteArray) (1 : Int) = some (match (List.range n).find? (fitsK ms like n bs p) with | some k => (freshM like (k + 1)).Name | none => ⟨#[]⟩) := by
  have stop : ∀ (f k : Nat) (on_ : ByteArray), 0 < f → on_ ≠ ⟨#[]⟩ → ref19_Estimate.l2 like bs (allM ms like n) (n : Int) p f on_ (k : Int) = some on_ := by
    intro f k on_ hf ho
    obtain ⟨f, rfl⟩ : ∃ n', f = n' + 1 := ⟨f - 1, by omega⟩
    rw [ref19_Estimate.l2, if_neg (by rw [seq_eq]; simp [ho])]
  have key : ∀ (m k f : Nat), n - k ≤ m → m + 1 < f → k ≤ n → ref19_Estimate.l2 like bs (allM ms like n) (n : Int) p f (⟨#[]⟩ : ByteArray) ((k + 1 : Nat) : Int) = some (match ((List.range n).drop k).find? (fitsK ms like n bs p) with | some k => (freshM like (k + 1)).Name | none => ⟨#[]⟩) := by
    intro m
    induction m with
    | zero =>
      intro k f h1 h2 h3
      obtain ⟨f, rfl⟩ : ∃ n', f = n' + 1 := ⟨f - 1, by omega⟩
      have : k = n := by omega
      subst this
      rw [ref19_Estimate.l2, if_neg (by simp; omega), List.drop_eq_nil_of_le (by simp)]; rfl
    | succ m ih =>
      intro k f h1 h2 h3
      obtain ⟨f, rfl⟩ : ∃ n', f = n' + 1 := ⟨f - 1, by omega⟩
      by_cases hk : k < n
      · rw [ref19_Estimate.l2, if_pos (by rw [seq_eq]; simp; omega), Fresh_R hl (by omega), Option.bind_some, hw k hk, Option.bind_some, wk1 (by omega), find_from (n - k) k (by omega) h3, dif_pos hk]
        by_cases e : whyV (allM ms like n) bs p (freshM like (k + 1)) = 0
        · rw [if_pos (by simpa using e), stop f (k + 1 + 1) _ (by omega) (name_ne like _), if_pos (by unfold fitsK; simpa using e)]
        · rw [if_neg (by simpa using e), if_neg (by unfold fitsK; simpa using e)]
          exact ih (k + 1) f (by omega) (by omega) (by omega)
      · have : k = n := by omega
        subst this
        rw [ref19_Estimate.l2, if_neg (by simp; omega), List.drop_eq_nil_of_le (by simp)]; rfl
  exact key n 0 FU (by omega) (by unfold FU; omega) (by omega)

theorem put_R (bs : List T_api_Bound) (p : T_api_Pod) (n : ByteArray) (hl : bs.length ≤ 1000) (hpos : ∀ x, x ∈ bs → x.Pod.Name ≠ p.Name) : ref12_Put bs p n = some (bs ++ [⟨p, n⟩]) := by
  unfold ref12_Put
  rw [Others_ref bs p.Name (by omega), others_none hpos]
  simp only [Option.bind_some]
  rw [ap_ok (by omega) (by simp; omega)]
  rfl

theorem est_R {ms : List T_api_Machine} {like : T_api_Machine} {limit : Int} (h : EP ms like) (hgm : ∀ m, m ∈ ms → GM m) (hgl : sortedL like.Labels) (l : List T_api_Pod) (R : List Int) (hR : R.length ≤ 100) : ∀ (ps : List T_api_Pod) (r : List Int) (k f : Nat) (s : ES), R.drop k = r → k ≤ R.length → r.length < f → r.map (V.gl l) = ps.map some → EI s ps → (∀ b, b ∈ s.bs → GP b.Pod) → (∀ p, p ∈ ps → GP p) →
    ref19_Estimate.l1 l like limit R f s.bs s.mv (allM ms like s.n) (s.n : Int) (k : Int) = some ((ps.foldl (stepE ms like limit) s).mv, ((ps.foldl (stepE ms like limit) s).n : Int)) := by
  intro ps
  induction ps with
  | nil =>
    intro r k f s hd hkl hf hr hi _ _
    have : r = [] := by simpa using hr
    subst this
    obtain ⟨f, rfl⟩ : ∃ n', f = n' + 1 := ⟨f - 1, by omega⟩
    have hk : R.length ≤ k := by simpa using hd
    have e : k = R.length := by omega
    subst e
    rw [ref19_Estimate.l1, if_neg dnl]
    rfl
  | cons p ps ih =>
    intro r k f s hd hkl hf hr hi hgb hgp
    cases r with
    | nil => simp at hr
    | cons x r =>
      obtain ⟨f, rfl⟩ : ∃ n', f = n' + 1 := ⟨f - 1, by omega⟩
      simp only [List.map_cons, List.cons.injEq] at hr
      obtain ⟨hx, hr⟩ := hr
      have hk : k < R.length := by
        have := congrArg List.length hd; rw [List.length_drop, List.length_cons] at this; omega
      have hdd := List.drop_eq_getElem_cons hk
      rw [hd] at hdd
      injection hdd with hx1 hdd
      have h2 := hi.c
      have h3 := hi.b
      have hn := hi.n
      have hnm := h.nm
      rw [List.length_cons] at h2 h3 hf
      have hgall : ∀ n, n < 59 → ∀ m, m ∈ allM ms like n → GM m := fun n hn m hm => by
        rcases allM_mem hm with hm | ⟨j, hj, rfl⟩
        · exact hgm m hm
        · exact ⟨fresh_LM h.lk h.gr (by omega), hgl⟩
      have hwhy : ∀ (n : Nat), n ≤ s.n + 1 → ∀ k, k < n → ref12_Why (allM ms like n) s.bs p (freshM like (k + 1)).Name = some (whyV (allM ms like n) s.bs p (freshM like (k + 1))) := fun n hn' k hk =>
        Why12_eq (by rw [allM_len]; omega) (by omega) (hgall n (by omega)) (allM_nd h (by omega)) hgb (hgp p (List.mem_cons_self ..)) (allM_new hk)
      rw [ref19_Estimate.l1, if_pos (dlt hk), glk hk, ← hx1, Option.bind_some, hx, Option.bind_some, wk1 (k := k) (by omega), seek_R (by omega) h.lk (hwhy s.n (by omega)), Option.bind_some, List.foldl_cons]
      have hst := hi.step (ms := ms) (like := like) (limit := limit)
      have hpt : ∀ (j : Nat), j ≤ s.n + 1 → stepE ms like limit s p = putE like s p j →
          ((ref12_Put s.bs p (freshM like j).Name).bind fun r6 => (V.ap 32 s.mv [(⟨p.Name, (freshM like j).Name⟩ : T_api_Move)]).bind fun moves4 => ref19_Estimate.l1 l like limit R f r6 moves4 (allM ms like (max s.n j)) ((max s.n j : Nat) : Int) ((k + 1 : Nat) : Int)) = some ((ps.foldl (stepE ms like limit) (stepE ms like limit s p)).mv, ((ps.foldl (stepE ms like limit) (stepE ms like limit s p)).n : Int)) := fun j hj he => by
        rw [put_R _ _ _ (by omega) fun b hb => hi.ne b hb p (List.mem_cons_self ..), Option.bind_some, ap_ok (by omega) (by simp; omega), Option.bind_some]
        rw [he] at hst ⊢
        refine ih r (k + 1) f (putE like s p j) hdd.symm (by omega) (by omega) hr hst (fun b hb => ?_) fun q hq => hgp q (List.mem_cons_of_mem _ hq)
        rcases List.mem_append.1 hb with hb | hb
        · exact hgb b hb
        · rw [List.mem_singleton.1 hb]; exact hgp p (List.mem_cons_self ..)
      have hskip : stepE ms like limit s p = s → ref19_Estimate.l1 l like limit R f s.bs s.mv (allM ms like s.n) (s.n : Int) ((k + 1 : Nat) : Int) = some ((ps.foldl (stepE ms like limit) (stepE ms like limit s p)).mv, ((ps.foldl (stepE ms like limit) (stepE ms like limit s p)).n : Int)) := fun he => by
        rw [he]
        rw [he] at hst
        exact ih r (k + 1) f s hdd.symm (by omega) (by omega) hr hst hgb fun q hq => hgp q (List.mem_cons_of_mem _ hq)
      cases hf1 : (List.range s.n).find? (fitsK ms like s.n s.bs p) with
      | some j =>
        have hj := List.mem_range.1 (List.mem_of_find?_eq_some hf1)
        have hne := name_ne like (j + 1)
        simp only [seq_eq, decide_eq_false hne, Bool.false_and, Bool.false_eq_true, if_false, Option.bind_some, Bool.not_false, if_true]
        have := hpt (j + 1) (by omega) (by unfold stepE pick; rw [hf1])
        rw [show max s.n (j + 1) = s.n by omega] at this
        exact this
      | none =>
        simp only [seq_eq, decide_true, Bool.true_and]
        by_cases hlim : (s.n : Int) < limit
        · rw [decide_eq_true hlim, if_pos rfl, wk1 (by omega), Fresh_R h.lk (by omega), Option.bind_some, ap_ok (by omega) (by rw [allM_len]; simp; omega), Option.bind_some, List.nil_append, ap_ok (by omega) (by rw [allM_len]; simp; omega), Option.bind_some, ← allM_succ, hwhy (s.n + 1) (by omega) s.n (by omega), Option.bind_some]
          by_cases e : whyV (allM ms like (s.n + 1)) s.bs p (freshM like (s.n + 1)) = 0
          · rw [if_pos (by simpa using e), Option.bind_some]
            have hne := name_ne like (s.n + 1)
            simp only [decide_eq_false hne, Bool.not_false, if_true]
            have := hpt (s.n + 1) (by omega) (by unfold stepE pick; rw [hf1]; simp only [if_pos hlim]; rw [if_pos (by unfold fitsK; simpa using e)])
            rw [show max s.n (s.n + 1) = s.n + 1 by omega] at this
            exact this
          · rw [if_neg (by simpa using e), Option.bind_some]
            simp only [decide_true, Bool.not_true, Bool.false_eq_true, if_false]
            exact hskip (by unfold stepE pick; rw [hf1]; simp only [if_pos hlim]; rw [if_neg (by unfold fitsK; simpa using e)])
        · rw [decide_eq_false hlim, if_neg (by decide), Option.bind_some]
          simp only [decide_true, Bool.not_true, Bool.false_eq_true, if_false]
          exact hskip (by unfold stepE pick; rw [hf1]; simp only [if_neg hlim])

theorem SameL_self {l : List T_api_Label} (hl : l.length ≤ 1000) : ref05_Same l l = some true := by
  unfold ref05_Same
  rw [if_neg (by simp)]
  rcases loopI (F := fun n i => ref05_Same.l1 l l n i) (Q := fun r => False) (S := fun k => True) (len := l.length) (by omega) (fun n k hk => by
      rw [ref05_Same.l1, if_pos (dlt hk), glk hk, wk1 (by omega)]
      right; simp [ba_beq]) (fun n => by rw [ref05_Same.l1, if_neg dnl]) with ⟨r, _, h2⟩ | ⟨h1, _⟩
  · exact h2.elim
  · rw [h1]; rfl
theorem SameT_self {l : List T_api_Taint} (hl : l.length ≤ 1000) : ref06_Same l l = some true := by
  unfold ref06_Same
  rw [if_neg (by simp)]
  rcases loopI (F := fun n i => ref06_Same.l1 l l n i) (Q := fun r => False) (S := fun k => True) (len := l.length) (by omega) (fun n k hk => by
      rw [ref06_Same.l1, if_pos (dlt hk), glk hk, wk1 (by omega)]
      right; simp [ba_beq]) (fun n => by rw [ref06_Same.l1, if_neg dnl]) with ⟨r, _, h2⟩ | ⟨h1, _⟩
  · exact h2.elim
  · rw [h1]; rfl
theorem SameMachine_self {m : T_api_Machine} (h : LM m) : ref07_SameMachine m m = some true := by
  have h1 := h.labels.1
  have h2 := h.taints.1
  unfold ref07_SameMachine
  rw [SameL_self (by omega), SameT_self (by omega)]
  simp [seq_eq]

theorem fold_mv {ms : List T_api_Machine} {like : T_api_Machine} {limit : Int} : ∀ (ps : List T_api_Pod) (s : ES), (ps.foldl (stepE ms like limit) s).mv.length ≤ s.mv.length + ps.length
  | [], s => by simp
  | p :: ps, s => by
    have h2 := fold_mv (ms := ms) (like := like) (limit := limit) ps (stepE ms like limit s p)
    have h1 : (stepE ms like limit s p).mv.length ≤ s.mv.length + 1 := by
      unfold stepE
      split
      · simp [putE]
      · omega
    rw [List.foldl_cons, List.length_cons]
    omega

theorem PackEstimates_true {a p : Prop} (c : T_law19_Case) (_ : a) (_ : p) (hB : c.Bs.length ≤ 1048576) (hL : c.L.length ≤ 1048576) : law19_PackEstimates c = some true := by
  unfold law19_PackEstimates
  rw [known19_true]
  obtain ⟨b, hb, hr⟩ := Right19 c.Ms c.Bs c.L c.Like (by omega)
  rw [hb]
  cases b with
  | false => rfl
  | true =>
    have hr := hr rfl
    have hlen := hr.ly.nb
    have hpl : (pendA c.L).length = c.L.length := by simp [pendA]
    rw [List.length_append, hpl] at hlen
    simp only [Option.bind_some, Bool.not_true, Bool.false_eq_true, if_false]
    obtain ⟨r, ps, e1, e2, e3, e4, e5, e6⟩ := Est_P hr
    obtain ⟨r', g1, g2, g3⟩ := Order19_R (l := c.L) (like := c.Like) (by omega)
    have hrr : r' = r := sorted_unique (R := Rk (rk19 c.L c.Like)) (fun a h => by unfold Rk at h; omega) (fun a b h k => by unfold Rk at h k; omega) g3 e3 (g2.trans e2.symm)
    subst hrr
    have hgm := gms hr.ly hr.ry
    have hgb := gbs hr.ly hr.ry
    have hgl := gm_of hr.like hr.right
    have hrl : r'.length = c.L.length := by rw [e2.length_eq]; simp [idxs]
    have hR : ref19_Estimate c.Ms c.Bs c.L c.Like c.Limit = some ((ps.foldl (stepE c.Ms c.Like c.Limit) ⟨c.Bs, [], 0⟩).mv, ((ps.foldl (stepE c.Ms c.Like c.Limit) ⟨c.Bs, [], 0⟩).n : Int)) := by
      unfold ref19_Estimate
      have hnm := hr.ep.nm
      rw [ap_ok (by omega) (by simp; omega), Option.bind_some, g1, Option.bind_some, List.nil_append]
      have := est_R (limit := c.Limit) hr.ep hgm hgl.so c.L r' (by omega) ps r' 0 FU ⟨c.Bs, [], 0⟩ rfl (by omega) (by unfold FU; omega) e4 (hr.ei e5) (fun b hb => hgb b (List.mem_append.2 (.inl hb))) (fun p hp => hgb ⟨p, ⟨#[]⟩⟩ (List.mem_append.2 (.inr (List.mem_map.2 ⟨p, e5.mem_iff.1 hp, rfl⟩))))
      simp only [allM_zero] at this
      rw [show ((0 : Nat) : Int) = 0 from rfl] at this
      rw [this]
      rfl
    have hmv := fold_mv (ms := c.Ms) (like := c.Like) (limit := c.Limit) ps ⟨c.Bs, [], 0⟩
    have hpsl := e5.length_eq
    simp only [List.length_nil] at hmv
    rw [e6, hR, Option.bind_some, Option.bind_some, Fresh_P hr.like (by omega), Option.bind_some, Moves_self (show (ps.foldl (stepE c.Ms c.Like c.Limit) ⟨c.Bs, [], 0⟩).mv.length ≤ 1000 by omega), Option.bind_some]
    simp only [BEq.rfl, Bool.and_self, if_true]
    rw [e1, g1, Option.bind_some, Option.bind_some, Ints_self (by omega), Option.bind_some, Option.bind_some]
    simp only [if_true]
    rw [Fresh_R hr.like (by omega), Option.bind_some, SameMachine_self (fresh_LM hr.like (group_size hr.like hr.right) (by omega))]
    rfl
end Go.Proofs.YtbkdglcedgiogaaGreat.M
/-
  Plain laws: whether all are where they can be, as the document says. Own text.
-/
namespace Go.Proofs.YtbkdglcedgiogaaGreat.M
open Go Go.Proofs Go.Proofs.YtbkdglcedgiogaaGreat.V
set_option linter.unusedVariables false

theorem feas12 {ms : List T_api_Machine} {bs : List T_api_Bound} (hl : ms.length ≤ 400) (hbl : bs.length ≤ 400) (hms : ∀ m, m ∈ ms → GM m) (hn : (ms.map (·.Name)).Nodup) (hb : ∀ b, b ∈ bs → GP b.Pod) (hne : ∀ m, m ∈ ms → m.Name ≠ ⟨#[]⟩)
    (hu : ∀ m m', m ∈ ms → m' ∈ ms → m.Name = m'.Name → m = m') (hon : ∀ k (h : k < bs.length), bs[k].On ≠ ⟨#[]⟩ → ∃ m, m ∈ ms ∧ m.Name = bs[k].On) : ∃ r, ref12_Feasible ms bs = some r ∧ (r = true ↔ feasP ms bs) := by
  unfold ref12_Feasible
  rcases loopI (F := fun n i => ref12_Feasible.l1 ms bs n i) (Q := fun r => r = false ∧ ¬ feasP ms bs) (S := fun k => ∀ h : k < bs.length, ∀ m, m ∈ ms → m.Name = bs[k].On → whyV ms bs bs[k].Pod m = 0) (len := bs.length) (by omega) (fun n k hk => by
      rw [ref12_Feasible.l1, if_pos (dlt hk), glk hk, wk1 (by omega)]
      simp only [Option.bind_some, seq_eq]
      by_cases e : bs[k].On = ⟨#[]⟩
      · rw [if_neg (by simp [e])]
        exact .inr ⟨rfl, fun _ m hm q => absurd (q.trans e) (hne m hm)⟩
      · rw [if_pos (by simpa using e)]
        obtain ⟨m, hm, hme⟩ := hon k hk e
        rw [← hme, Why12_eq hl hbl hms hn hb (hb _ (List.getElem_mem hk)) hm]
        simp only [Option.bind_some]
        by_cases z : whyV ms bs bs[k].Pod m = 0
        · rw [if_neg (by simp [z])]
          refine .inr ⟨rfl, fun _ m' hm' q => ?_⟩
          have := hu m' m hm' hm (q.trans hme.symm)
          subst this
          exact z
        · rw [if_pos (by simpa using z)]
          exact .inl ⟨false, rfl, rfl, fun h => z (h _ (List.getElem_mem hk) m hm hme)⟩) (fun n => by rw [ref12_Feasible.l1, if_neg dnl]) with ⟨r, h1, rfl, h2⟩ | ⟨h1, h2⟩
  · rw [h1]; exact ⟨false, rfl, fun h => (by cases h), fun h => absurd h h2⟩
  · rw [h1]
    refine ⟨true, rfl, fun _ b hb m hm e => ?_, fun _ => rfl⟩
    obtain ⟨i, hi, rfl⟩ := List.getElem_of_mem hb
    exact h2 i hi hi m hm e
end Go.Proofs.YtbkdglcedgiogaaGreat.M
/- Plain law: PackSafe. Own work. -/
namespace Go.Proofs.YtbkdglcedgiogaaGreat.M
open Go Go.Proofs Go.Proofs.YtbkdglcedgiogaaGreat.V
open Go.IntKind (i64)
set_option linter.unusedVariables false
set_option maxRecDepth 20000
set_option maxHeartbeats 4000000

theorem zoneS_add {ms : List T_api_Machine} {x : T_api_Machine} {n : ByteArray} (h : ∃ m, m ∈ ms ∧ m.Name = n) : zoneS (ms ++ [x]) n = zoneS ms n := by
  unfold zoneS
  rw [List.find?_append]
  obtain ⟨m, hm, hn⟩ := h
  cases hf : ms.find? (fun m => decide (m.Name = n)) with
  | some y => rfl
  | none => exact absurd hn (by simpa using List.find?_eq_none.1 hf m hm)

/-- A machine more changes nothing for what is bound elsewhere. -/
theorem why_add {ms : List T_api_Machine} {x : T_api_Machine} {bs : List T_api_Bound} {q : T_api_Pod} {m : T_api_Machine} (hg : ∀ m, m ∈ ms ++ [x] → GM m) (hn : ((ms ++ [x]).map (·.Name)).Nodup) (hm : m ∈ ms) (hon : ∀ b, b ∈ bs → b.On ≠ ⟨#[]⟩ → ∃ m, m ∈ ms ∧ m.Name = b.On) (hq : q.Spread.length = 0) : whyV (ms ++ [x]) bs q m = whyV ms bs q m := by
  have hg' : ∀ m, m ∈ ms → GM m := fun m hm => hg m (List.mem_append.2 (.inl hm))
  have hn' : (ms.map (·.Name)).Nodup := by rw [List.map_append, List.nodup_append] at hn; exact hn.1
  have h1 : nearB (zonesV (ms ++ [x])) bs q m.Name = nearB (zonesV ms) bs q m.Name := by
    unfold nearB
    have key : ∀ b, b ∈ bs → nearQ (zonesV (ms ++ [x])) q m.Name b = nearQ (zonesV ms) q m.Name b := fun b hb => by
      unfold nearQ barsB oneB
      by_cases e : b.On = ⟨#[]⟩
      · rw [e]; simp [seq_eq]
      · rw [zones_mg hg hn, zones_mg hg hn, zones_mg hg' hn', zones_mg hg' hn', zoneS_add ⟨m, hm, rfl⟩, zoneS_add (hon b hb e)]
    rw [Bool.eq_iff_iff, List.any_eq_true, List.any_eq_true]
    exact ⟨fun ⟨b, hb, e⟩ => ⟨b, hb, by rw [← key b hb]; exact e⟩, fun ⟨b, hb, e⟩ => ⟨b, hb, by rw [key b hb]; exact e⟩⟩
  unfold whyV suitV
  rw [h1, many_none _ _ _ _ hq, many_none _ _ _ _ hq]

theorem feas_add {ms : List T_api_Machine} {x : T_api_Machine} {bs : List T_api_Bound} (hg : ∀ m, m ∈ ms ++ [x] → GM m) (hn : ((ms ++ [x]).map (·.Name)).Nodup) (hx : x.Name ≠ ⟨#[]⟩) (hon : ∀ b, b ∈ bs → b.On ≠ ⟨#[]⟩ → ∃ m, m ∈ ms ∧ m.Name = b.On) (hq : ∀ b, b ∈ bs → b.Pod.Spread.length = 0) (h : feasP ms bs) : feasP (ms ++ [x]) bs := fun b hb m hm e => by
  rcases List.mem_append.1 hm with hm | hm
  · rw [why_add hg hn hm hon (hq b hb)]
    exact h b hb m hm e
  · exfalso
    rw [List.mem_singleton.1 hm] at e
    obtain ⟨m', hm', e'⟩ := hon b hb (by rw [← e]; exact hx)
    rw [List.map_append, List.nodup_append] at hn
    exact hn.2.2 _ (List.mem_map.2 ⟨m', hm', rfl⟩) x.Name (by simp) (e'.trans e.symm)

theorem feas_more {ms : List T_api_Machine} {bs : List T_api_Bound} {p : T_api_Pod} {m0 : T_api_Machine} (hn : (ms.map (·.Name)).Nodup) (hne : ∀ m, m ∈ ms → m.Name ≠ ⟨#[]⟩) (hnd : (bs.map (·.Pod.Name)).Nodup) (hr : podsRight bs) (hp : p.Need.Pods = 1) (hq : ∀ b, b ∈ bs → b.Pod.Spread.length = 0) (hpos : ∀ x, x ∈ bs → x.Pod.Name ≠ p.Name)
    (hm0 : m0 ∈ ms) (h0 : whyV ms bs p m0 = 0) (h : feasP ms bs) : feasP ms (bs ++ [⟨p, m0.Name⟩]) := fun b hb m hm e => by
  have hu : m.Name = m0.Name → m = m0 := fun e => by
    obtain ⟨i, hi, rfl⟩ := List.getElem_of_mem hm
    obtain ⟨j, hj, rfl⟩ := List.getElem_of_mem hm0
    have := nd_idx hn i j hi hj e
    subst this; rfl
  rcases List.mem_append.1 hb with hb | hb
  · exact why_put_other hnd (fun n k => needs_of hr n k) (by omega) hb (by have := (hr b hb).2; omega) (hq b hb) hpos e (hne m hm) hu h0 (h b hb m hm e)
  · rw [List.mem_singleton.1 hb] at e ⊢
    have := hu e
    subst this
    exact why_put_self h0

/-- What an estimate leaves. -/
structure SE (ms : List T_api_Machine) (like : T_api_Machine) (limit : Int) (bs : List T_api_Bound) (l : List T_api_Pod) (s : ES) (pl : List T_api_Bound) : Prop where
  eb : s.bs = bs ++ pl
  em : s.mv = pl.map fun b => ⟨b.Pod.Name, b.On⟩
  mem : ∀ b, b ∈ pl → b.Pod ∈ l
  on : ∀ b, b ∈ pl → ∃ k, k < s.n ∧ b.On = (freshM like (k + 1)).Name
  all : ∀ k, k < s.n → ∃ b, b ∈ pl ∧ b.On = (freshM like (k + 1)).Name
  lim : (s.n : Int) ≤ max limit 0
  nd : (s.bs.map (·.Pod.Name)).Nodup
  fe : (∀ b, b ∈ s.bs → b.Pod.Spread.length = 0) → feasP ms bs → feasP (allM ms like s.n) s.bs

theorem allM_name_ne {ms : List T_api_Machine} {like : T_api_Machine} (hne : ∀ m, m ∈ ms → m.Name ≠ ⟨#[]⟩) {n : Nat} : ∀ m, m ∈ allM ms like n → m.Name ≠ ⟨#[]⟩ := fun m hm => by
  rcases allM_mem hm with hm | ⟨k, _, rfl⟩
  · exact hne m hm
  · exact name_ne like _

theorem SE.step {ms : List T_api_Machine} {like : T_api_Machine} {limit : Int} {bs : List T_api_Bound} {l : List T_api_Pod} {s : ES} {pl : List T_api_Bound} {p : T_api_Pod} {ps : List T_api_Pod} (h : EP ms like) (hgm : ∀ m, m ∈ ms → GM m) (hgl : sortedL like.Labels) (hne : ∀ m, m ∈ ms → m.Name ≠ ⟨#[]⟩) (hon : ∀ b, b ∈ bs → b.On ≠ ⟨#[]⟩ → ∃ m, m ∈ ms ∧ m.Name = b.On)
    (hr : podsRight bs) (hrl : ∀ p, p ∈ l → resOK p.Need = true ∧ p.Need.Pods = 1) (hi : EI s (p :: ps)) (hs : SE ms like limit bs l s pl) (hp : p ∈ l) : ∃ pl', SE ms like limit bs l (stepE ms like limit s p) pl' := by
  unfold stepE
  cases hk : pick ms like limit s p with
  | none => exact ⟨pl, hs⟩
  | some k =>
    have hlt := pick_lt hk
    have hc := hi.c
    have hin := hi.n
    rw [List.length_cons] at hc
    have hpos : ∀ b, b ∈ s.bs → b.Pod.Name ≠ p.Name := fun b hb => hi.ne b hb p (List.mem_cons_self ..)
    have hallg : ∀ n, n < 59 → ∀ m, m ∈ allM ms like n → GM m := fun n hn m hm => by
      rcases allM_mem hm with hm | ⟨j, hj, rfl⟩
      · exact hgm m hm
      · exact ⟨fresh_LM h.lk h.gr (by omega), hgl⟩
    have hsr : podsRight s.bs := fun b hb => by
      rw [hs.eb] at hb
      rcases List.mem_append.1 hb with hb | hb
      · exact hr b hb
      · exact hrl _ (hs.mem b hb)
    have hson : ∀ b, b ∈ s.bs → b.On ≠ ⟨#[]⟩ → ∃ m, m ∈ allM ms like s.n ∧ m.Name = b.On := fun b hb e => by
      rw [hs.eb] at hb
      rcases List.mem_append.1 hb with hb | hb
      · obtain ⟨m, hm, q⟩ := hon b hb e
        exact ⟨m, List.mem_append.2 (.inl hm), q⟩
      · obtain ⟨j, hj, q⟩ := hs.on b hb
        exact ⟨_, allM_new hj, q.symm⟩
    -- what was picked: it fits there, and the limit is kept
    have hpk : (k ≤ s.n ∨ (k = s.n + 1 ∧ (s.n : Int) < limit)) ∧ whyV (allM ms like (max s.n k)) s.bs p (freshM like k) = 0 := by
      unfold pick at hk
      split at hk
      · rename_i j hj
        have hjn := List.mem_range.1 (List.mem_of_find?_eq_some hj)
        have hq := List.find?_some hj
        simp only [Option.some.injEq] at hk
        subst hk
        refine ⟨.inl (by omega), ?_⟩
        rw [show max s.n (j + 1) = s.n by omega]
        unfold fitsK at hq
        simpa using hq
      · split at hk
        · rename_i hlim
          split at hk
          · rename_i hq
            simp only [Option.some.injEq] at hk
            subst hk
            refine ⟨.inr ⟨rfl, hlim⟩, ?_⟩
            rw [show max s.n (s.n + 1) = s.n + 1 by omega]
            unfold fitsK at hq
            simpa using hq
          · cases hk
        · cases hk
    obtain ⟨hkn, hwy⟩ := hpk
    refine ⟨pl ++ [⟨p, (freshM like k).Name⟩], ?_⟩
    constructor
    · show s.bs ++ _ = _
      rw [hs.eb, List.append_assoc]
    · show s.mv ++ _ = _
      rw [hs.em, List.map_append]; rfl
    · intro b hb
      rcases List.mem_append.1 hb with hb | hb
      · exact hs.mem b hb
      · rw [List.mem_singleton.1 hb]; exact hp
    · intro b hb
      rcases List.mem_append.1 hb with hb | hb
      · obtain ⟨j, hj, q⟩ := hs.on b hb
        exact ⟨j, by show j < max s.n k; omega, q⟩
      · rw [List.mem_singleton.1 hb]
        exact ⟨k - 1, by show k - 1 < max s.n k; omega, by rw [show k - 1 + 1 = k by omega]⟩
    · intro j hj
      have hj : j < max s.n k := hj
      by_cases e : j < s.n
      · obtain ⟨b, hb, q⟩ := hs.all j e
        exact ⟨b, List.mem_append.2 (.inl hb), q⟩
      · exact ⟨_, List.mem_append.2 (.inr (List.mem_singleton.2 rfl)), by show (freshM like k).Name = _; rw [show j + 1 = k by omega]⟩
    · show ((max s.n k : Nat) : Int) ≤ _
      have := hs.lim
      rcases hkn with q | ⟨q1, q2⟩ <;> omega
    · show ((s.bs ++ [(⟨p, (freshM like k).Name⟩ : T_api_Bound)]).map (·.Pod.Name)).Nodup
      rw [List.map_append, List.nodup_append]
      refine ⟨hs.nd, by simp, fun a ha b hb e => ?_⟩
      simp only [List.map_cons, List.map_nil, List.mem_singleton] at hb
      obtain ⟨x, hx, rfl⟩ := List.mem_map.1 ha
      exact hpos x hx (e.trans hb)
    · intro hsp hf
      have hsp' : ∀ b, b ∈ s.bs → b.Pod.Spread.length = 0 := fun b hb => hsp b (List.mem_append.2 (.inl hb))
      have hf1 := hs.fe hsp' hf
      have hf2 : feasP (allM ms like (max s.n k)) s.bs := by
        rcases hkn with q | ⟨rfl, _⟩
        · rw [show max s.n k = s.n by omega]; exact hf1
        · rw [show max s.n (s.n + 1) = s.n + 1 by omega, allM_succ]
          exact feas_add (by rw [← allM_succ]; exact hallg _ (by omega)) (by rw [← allM_succ]; exact allM_nd h (by omega)) (name_ne like _) hson hsp' hf1
      have hmem : freshM like k ∈ allM ms like (max s.n k) := by
        have := allM_new (ms := ms) (like := like) (n := max s.n k) (k := k - 1) (by omega)
        rw [show k - 1 + 1 = k by omega] at this
        exact this
      show feasP (allM ms like (max s.n k)) (s.bs ++ [⟨p, (freshM like k).Name⟩])
      exact feas_more (allM_nd h (by omega)) (allM_name_ne hne) hs.nd hsr (hrl p hp).2 hsp' hpos hmem hwy hf2

theorem SE.fold {ms : List T_api_Machine} {like : T_api_Machine} {limit : Int} {bs : List T_api_Bound} {l : List T_api_Pod} (h : EP ms like) (hgm : ∀ m, m ∈ ms → GM m) (hgl : sortedL like.Labels) (hne : ∀ m, m ∈ ms → m.Name ≠ ⟨#[]⟩) (hon : ∀ b, b ∈ bs → b.On ≠ ⟨#[]⟩ → ∃ m, m ∈ ms ∧ m.Name = b.On)
    (hr : podsRight bs) (hrl : ∀ p, p ∈ l → resOK p.Need = true ∧ p.Need.Pods = 1) : ∀ (ps : List T_api_Pod) (s : ES) (pl : List T_api_Bound), EI s ps → SE ms like limit bs l s pl → (∀ p, p ∈ ps → p ∈ l) → ∃ pl', SE ms like limit bs l (ps.foldl (stepE ms like limit) s) pl' ∧ EI (ps.foldl (stepE ms like limit) s) [] := by
  intro ps
  induction ps with
  | nil => intro s pl hi hs _; exact ⟨pl, hs, hi⟩
  | cons p ps ih =>
    intro s pl hi hs hp
    obtain ⟨pl', hs'⟩ := hs.step h hgm hgl hne hon hr hrl hi (hp p (List.mem_cons_self ..))
    exact ih _ pl' hi.step hs' fun q hq => hp q (List.mem_cons_of_mem _ hq)

/-! the law's loops -/
theorem safe_all {c : T_law19_Case} {r3 : List T_api_Move × Int} {n : Nat} (hr : r3.2 = (n : Int)) (hn : n < 59) (hl : LM c.Like) (hm : c.Ms.length ≤ 20) : ∀ (m k f : Nat), n - k ≤ m → m < f → k ≤ n → law19_PackSafe.l1 c r3 f (allM c.Ms c.Like k) ((k + 1 : Nat) : Int) = some (allM c.Ms c.Like n) := by
  intro m
  induction m with
  | zero =>
    intro k f h1 h2 h3
    obtain ⟨f, rfl⟩ : ∃ n', f = n' + 1 := ⟨f - 1, by omega⟩
    have : k = n := by omega
    subst this
    rw [law19_PackSafe.l1, if_neg (by rw [hr]; simp only [decide_eq_true_eq]; omega)]
  | succ m ih =>
    intro k f h1 h2 h3
    obtain ⟨f, rfl⟩ : ∃ n', f = n' + 1 := ⟨f - 1, by omega⟩
    by_cases hk : k < n
    · rw [law19_PackSafe.l1, if_pos (by rw [hr]; simp only [decide_eq_true_eq]; omega), Fresh_R hl (by omega), Option.bind_some, ap_ok (by omega) (by rw [allM_len]; simp; omega), Option.bind_some, wk1 (by omega), ← allM_succ]
      exact ih (k + 1) f (by omega) (by omega) (by omega)
    · have : k = n := by omega
      subst this
      rw [law19_PackSafe.l1, if_neg (by rw [hr]; simp only [decide_eq_true_eq]; omega)]

def noS (p : T_api_Pod) : Bool := decide (p.Spread.length = 0)
theorem noS_eq (p : T_api_Pod) : ((p.Spread.length : Int) == 0) = noS p := by unfold noS; rw [Bool.eq_iff_iff]; simp
theorem safe_free {c : T_law19_Case} (hb : c.Bs.length ≤ 1000) : law19_PackSafe.l2 c FU true 0 = some (c.Bs.all fun b => noS b.Pod) := by
  have key : ∀ (m k f : Nat) (fr : Bool), c.Bs.length - k ≤ m → m < f → k ≤ c.Bs.length → law19_PackSafe.l2 c f fr (k : Int) = some (fr && (c.Bs.drop k).all fun b => noS b.Pod) := by
    intro m
    induction m with
    | zero =>
      intro k f fr h1 h2 h3
      obtain ⟨f, rfl⟩ : ∃ n', f = n' + 1 := ⟨f - 1, by omega⟩
      have : k = c.Bs.length := by omega
      subst this
      rw [law19_PackSafe.l2, if_neg dnl, List.drop_eq_nil_of_le (Nat.le_refl _)]; simp
    | succ m ih =>
      intro k f fr h1 h2 h3
      obtain ⟨f, rfl⟩ : ∃ n', f = n' + 1 := ⟨f - 1, by omega⟩
      by_cases hk : k < c.Bs.length
      · rw [law19_PackSafe.l2, if_pos (dlt hk), glk hk, Option.bind_some, wk1 (by omega), noS_eq, List.drop_eq_getElem_cons hk, List.all_cons]
        cases fr with
        | false =>
          rw [if_neg (by decide), Option.bind_some, ih (k + 1) f false (by omega) (by omega) (by omega)]; rfl
        | true =>
          rw [if_pos rfl, Option.bind_some, ih (k + 1) f _ (by omega) (by omega) (by omega)]; rfl
      · have : k = c.Bs.length := by omega
        subst this
        rw [law19_PackSafe.l2, if_neg dnl, List.drop_eq_nil_of_le (Nat.le_refl _)]; simp
  have := key c.Bs.length 0 FU true (by omega) (by unfold FU; omega) (by omega)
  simpa using this

/-- None of those that went is met again. -/
theorem safe_had {r3 : List T_api_Move × Int} {had : List ByteArray} {i : Nat} (hi : i < r3.1.length) (hh : had.length ≤ 1000) (h : ∀ x, x ∈ had → x ≠ r3.1[i].Pod) : law19_PackSafe.l4 r3 had (i : Int) FU 0 = some (Out.go ()) := by
  rcases loopI (F := fun n k => law19_PackSafe.l4 r3 had (i : Int) n k) (Q := fun r => False) (S := fun k => True) (len := had.length) (by omega) (fun n k hk => by
      rw [law19_PackSafe.l4, if_pos (dlt hk), glk hk, glk hi, wk1 (by omega)]
      right
      simp only [Option.bind_some, seq_eq]
      rw [if_neg (by simpa using h _ (List.getElem_mem hk))]
      exact ⟨rfl, trivial⟩) (fun n => by rw [law19_PackSafe.l4, if_neg dnl]) with ⟨r, _, h2⟩ | ⟨h1, _⟩
  · exact h2.elim
  · exact h1

/-- The pod of a move is found, once, and put. -/
theorem safe_met {c : T_law19_Case} {r3 : List T_api_Move × Int} {i : Nat} (hi : i < r3.1.length) (hl : c.L.length ≤ 400) (hnd : (c.L.map (·.Name)).Nodup) {p : T_api_Pod} (hp : p ∈ c.L) (hpn : r3.1[i].Pod = p.Name) {bs : List T_api_Bound} (hb : bs.length ≤ 400) (hne : ∀ b, b ∈ bs → b.Pod.Name ≠ p.Name) (fr : Bool) :
    law19_PackSafe.l5 c r3 (i : Int) FU bs fr false 0 = some (bs ++ [⟨p, r3.1[i].To⟩], fr && noS p, true) := by
  have key : ∀ (m k f : Nat) (met : Bool) (bs' : List T_api_Bound) (fr' : Bool), c.L.length - k ≤ m → m < f → k ≤ c.L.length → (p ∈ c.L.drop k ∧ met = false ∧ bs' = bs ∧ fr' = fr ∨ ¬ p ∈ c.L.drop k ∧ met = true ∧ bs' = bs ++ [⟨p, r3.1[i].To⟩] ∧ fr' = (fr && noS p)) →
      law19_PackSafe.l5 c r3 (i : Int) f bs' fr' met (k : Int) = some (bs ++ [⟨p, r3.1[i].To⟩], fr && noS p, true) := by
    intro m
    induction m with
    | zero =>
      intro k f met bs' fr' h1 h2 h3 h4
      obtain ⟨f, rfl⟩ : ∃ n', f = n' + 1 := ⟨f - 1, by omega⟩
      have : k = c.L.length := by omega
      subst this
      rw [law19_PackSafe.l5, if_neg dnl]
      rcases h4 with ⟨q, _⟩ | ⟨_, rfl, rfl, rfl⟩
      · rw [List.drop_eq_nil_of_le (Nat.le_refl _)] at q; cases q
      · rfl
    | succ m ih =>
      intro k f met bs' fr' h1 h2 h3 h4
      obtain ⟨f, rfl⟩ : ∃ n', f = n' + 1 := ⟨f - 1, by omega⟩
      by_cases hk : k < c.L.length
      · have hd := List.drop_eq_getElem_cons hk
        have hnk : ¬ c.L[k] ∈ c.L.drop (k + 1) := fun q => by
          obtain ⟨j, hj, e⟩ := List.mem_iff_getElem.1 q
          rw [List.getElem_drop] at e
          rw [List.length_drop] at hj
          exact (List.pairwise_iff_getElem.1 hnd) k (k + 1 + j) (by simpa using hk) (by simp; omega) (by omega) (by rw [List.getElem_map, List.getElem_map, e])
        rw [law19_PackSafe.l5, if_pos (dlt hk), glk hk, glk hi, wk1 (by omega)]
        simp only [Option.bind_some, seq_eq]
        by_cases e : c.L[k].Name = r3.1[i].Pod
        · have hpk : c.L[k] = p := by
            obtain ⟨j, hj, ej⟩ := List.getElem_of_mem hp
            have ne : ∀ a b (ha : a < c.L.length) (hb : b < c.L.length), a < b → c.L[a].Name ≠ c.L[b].Name := fun a b ha hb hab q =>
              (List.pairwise_iff_getElem.1 hnd) a b (by simpa using ha) (by simpa using hb) hab (by rw [List.getElem_map, List.getElem_map]; exact q)
            have e2 : c.L[k].Name = c.L[j].Name := by rw [e, hpn, ej]
            rcases Nat.lt_trichotomy k j with q | q | q
            · exact absurd e2 (ne k j hk hj q)
            · subst q; exact ej
            · exact absurd e2.symm (ne j k hj hk q)
          rw [if_pos (by simpa using e)]
          rcases h4 with ⟨_, rfl, rfl, rfl⟩ | ⟨q, _⟩
          · rw [noS_eq, hpk]
            have hc : (if fr' = true then some (noS p) else some false) = some (fr' && noS p) := by cases fr' <;> rfl
            rw [hc, Option.bind_some, put_R _ _ _ (by omega) hne, Option.bind_some]
            refine ih (k + 1) f true _ _ (by omega) (by omega) (by omega) (.inr ⟨by rw [← hpk]; exact hnk, rfl, rfl, rfl⟩)
          · exact absurd (by rw [hd, hpk]; exact List.mem_cons_self ..) q
        · rw [if_neg (by simpa using e)]
          have hpk : p ≠ c.L[k] := fun q => e (by rw [← q, hpn])
          refine ih (k + 1) f met bs' fr' (by omega) (by omega) (by omega) ?_
          rw [hd, List.mem_cons] at h4
          rcases h4 with ⟨q | q, r⟩ | ⟨q, r⟩
          · exact absurd q hpk
          · exact .inl ⟨q, r⟩
          · exact .inr ⟨fun z => q (.inr z), r⟩
      · have : k = c.L.length := by omega
        subst this
        rw [law19_PackSafe.l5, if_neg dnl]
        rcases h4 with ⟨q, _⟩ | ⟨_, rfl, rfl, rfl⟩
        · rw [List.drop_eq_nil_of_le (Nat.le_refl _)] at q; cases q
        · rfl
  have := key c.L.length 0 FU false bs fr (by omega) (by unfold FU; omega) (by omega) (.inl ⟨by simpa using hp, rfl, rfl, rfl⟩)
  simpa using this

/-- The machine of a move is one that was added. -/
theorem safe_used {c : T_law19_Case} {r3 : List T_api_Move × Int} {i n : Nat} (hr : r3.2 = (n : Int)) (hn : n < 59) (hi : i < r3.1.length) (hl : LM c.Like) {j : Nat} (hj : 1 ≤ j ∧ j ≤ n) (hto : r3.1[i].To = (freshM c.Like j).Name) {used : List Int} (hu : used.length = n + 1) (hv : 0 ≤ used[j] ∧ used[j] ≤ 1000000) :
    law19_PackSafe.l6 c r3 (i : Int) FU used false 1 = some (used.set j (used[j] + 1), true) := by
  have key : ∀ (m k f : Nat) (us : List Int) (on_ : Bool), n - k ≤ m → m < f → k ≤ n → (k < j ∧ on_ = false ∧ us = used ∨ j ≤ k ∧ on_ = true ∧ us = used.set j (used[j] + 1)) → law19_PackSafe.l6 c r3 (i : Int) f us on_ ((k + 1 : Nat) : Int) = some (used.set j (used[j] + 1), true) := by
    intro m
    induction m with
    | zero =>
      intro k f us on_ h1 h2 h3 h4
      obtain ⟨f, rfl⟩ : ∃ n', f = n' + 1 := ⟨f - 1, by omega⟩
      rw [law19_PackSafe.l6, if_neg (by rw [hr]; simp only [decide_eq_true_eq]; omega)]
      rcases h4 with ⟨q, _⟩ | ⟨_, rfl, rfl⟩
      · omega
      · rfl
    | succ m ih =>
      intro k f us on_ h1 h2 h3 h4
      obtain ⟨f, rfl⟩ : ∃ n', f = n' + 1 := ⟨f - 1, by omega⟩
      by_cases hk : k < n
      · rw [law19_PackSafe.l6, if_pos (by rw [hr]; simp only [decide_eq_true_eq]; omega), glk hi, Option.bind_some, Fresh_R hl (by omega), Option.bind_some, wk1 (by omega), seq_eq, hto]
        by_cases e : k + 1 = j
        · subst e
          rcases h4 with ⟨_, rfl, rfl⟩ | ⟨q, _⟩
          · rw [if_pos (by simp), glk (by omega), Option.bind_some, Option.bind_some, w_eq (by omega) (by omega), show (((k + 1 : Nat) : Int)).toNat = k + 1 by omega]
            exact ih (k + 1) f _ true (by omega) (by omega) (by omega) (.inr ⟨by omega, rfl, rfl⟩)
          · omega
        · rw [if_neg (by simp only [decide_eq_true_eq]; exact fun q => e (fresh_inj (by omega) (by omega) q))]
          refine ih (k + 1) f us on_ (by omega) (by omega) (by omega) ?_
          rcases h4 with ⟨q, r⟩ | ⟨q, r⟩
          · exact .inl ⟨by omega, r⟩
          · exact .inr ⟨by omega, r⟩
      · rw [law19_PackSafe.l6, if_neg (by rw [hr]; simp only [decide_eq_true_eq]; omega)]
        rcases h4 with ⟨q, _⟩ | ⟨_, rfl, rfl⟩
        · omega
        · rfl
  exact key n 0 FU used false (by omega) (by unfold FU; omega) (by omega) (.inl ⟨by omega, rfl, rfl⟩)

/-- What the law counts, one move behind the other. -/
theorem safe_moves {c : T_law19_Case} {pl : List T_api_Bound} {r3 : List T_api_Move × Int} {n : Nat} (hr : r3.2 = (n : Int)) (hn : n < 59) (hm : r3.1 = pl.map fun b => ⟨b.Pod.Name, b.On⟩) (hpl : pl.length ≤ 100) (hl : LM c.Like) (hL : c.L.length ≤ 100) (hB : c.Bs.length ≤ 100) (hnd : (c.L.map (·.Name)).Nodup)
    (hall : ((c.Bs ++ pl).map (·.Pod.Name)).Nodup) (hmem : ∀ b, b ∈ pl → b.Pod ∈ c.L) (hon : ∀ b, b ∈ pl → ∃ k, k < n ∧ b.On = (freshM c.Like (k + 1)).Name) :
    ∀ (m i f : Nat) (used : List Int) (fr : Bool) (had : List ByteArray), pl.length - i ≤ m → m < f → i ≤ pl.length → used.length = n + 1 → (∀ j (h : j < used.length), 0 ≤ used[j] ∧ used[j] ≤ (i : Int)) → had = (pl.take i).map (·.Pod.Name) →
      (∀ j (h : j < used.length), (∃ b, b ∈ pl.take i ∧ 1 ≤ j ∧ b.On = (freshM c.Like j).Name) → 0 < used[j]) →
      ∃ used', law19_PackSafe.l3 c r3 f used (c.Bs ++ pl.take i) fr had (i : Int) = some (Out.go (used', c.Bs ++ pl, fr && (pl.drop i).all fun b => noS b.Pod)) ∧ used'.length = n + 1 ∧ ∀ j (h : j < used'.length), (∃ b, b ∈ pl ∧ 1 ≤ j ∧ b.On = (freshM c.Like j).Name) → 0 < used'[j] := by
  have hml : r3.1.length = pl.length := by rw [hm, List.length_map]
  intro m
  induction m with
  | zero =>
    intro i f used fr had h1 h2 h3 h4 h5 h6 h7
    obtain ⟨f, rfl⟩ : ∃ n', f = n' + 1 := ⟨f - 1, by omega⟩
    have : i = pl.length := by omega
    subst this
    rw [law19_PackSafe.l3, if_neg (by rw [hml]; simp), List.take_length, List.drop_eq_nil_of_le (Nat.le_refl _)]
    rw [List.take_length] at h7
    exact ⟨used, by simp, h4, h7⟩
  | succ m ih =>
    intro i f used fr had h1 h2 h3 h4 h5 h6 h7
    obtain ⟨f, rfl⟩ : ∃ n', f = n' + 1 := ⟨f - 1, by omega⟩
    by_cases hi : i < pl.length
    · have hi' : i < r3.1.length := by omega
      have hmi : r3.1[i] = ⟨pl[i].Pod.Name, pl[i].On⟩ := by simp only [hm, List.getElem_map]
      have hsplit : pl = pl.take i ++ pl[i] :: pl.drop (i + 1) := by rw [← List.drop_eq_getElem_cons hi, List.take_append_drop]
      have hnames : ∀ b, b ∈ c.Bs ++ pl.take i → b.Pod.Name ≠ pl[i].Pod.Name := fun b hb e => by
        rw [hsplit, ← List.append_assoc, List.map_append, List.nodup_append] at hall
        exact hall.2.2 _ (List.mem_map.2 ⟨b, hb, rfl⟩) _ (List.mem_map.2 ⟨pl[i], List.mem_cons_self .., rfl⟩) e
      obtain ⟨j0, hj0, hjon⟩ := hon _ (List.getElem_mem hi)
      have hju : j0 + 1 < used.length := by omega
      have htl : (pl.take i).length = i := by rw [List.length_take]; omega
      rw [law19_PackSafe.l3, if_pos (dlt hi'), safe_had hi' (by rw [h6, List.length_map, htl]; omega) (fun x hx => by
        rw [h6] at hx
        obtain ⟨b, hb, rfl⟩ := List.mem_map.1 hx
        rw [hmi]
        exact hnames b (List.mem_append.2 (.inr hb)))]
      simp only [Option.bind_some, Out.on]
      rw [glk hi', Option.bind_some, ap_ok (by omega) (by rw [h6, List.length_map, htl]; simp; omega), Option.bind_some]
      rw [safe_met hi' (by omega) hnd (hmem _ (List.getElem_mem hi)) (by rw [hmi]) (by rw [List.length_append, htl]; omega) hnames fr, Option.bind_some]
      rw [safe_used hr hn hi' hl (j := j0 + 1) (by omega) (by rw [hmi]; exact hjon) h4 (by have := h5 (j0 + 1) hju; omega), Option.bind_some, wk1 (by omega)]
      simp only [Bool.not_true, Bool.or_self, Bool.false_eq_true, if_false]
      have hnext : c.Bs ++ pl.take i ++ [(⟨pl[i].Pod, r3.1[i].To⟩ : T_api_Bound)] = c.Bs ++ pl.take (i + 1) := by
        rw [hmi, List.append_assoc, List.take_succ_eq_append_getElem hi]
      rw [hnext]
      obtain ⟨used', g1, g2, g3⟩ := ih (i + 1) f (used.set (j0 + 1) (used[j0 + 1] + 1)) (fr && noS pl[i].Pod) (had ++ [r3.1[i].Pod]) (by omega) (by omega) (by omega) (by rw [List.length_set]; exact h4) (fun j h => by
          rw [List.length_set] at h
          rw [List.getElem_set]
          have q1 := h5 j h
          have q2 := h5 (j0 + 1) hju
          split <;> omega) (by rw [h6, List.take_succ_eq_append_getElem hi, List.map_append, hmi]; rfl) (fun j h => by
          rintro ⟨b, hb, hj1, hbo⟩
          rw [List.length_set] at h
          rw [List.getElem_set]
          have q2 := h5 (j0 + 1) hju
          split
          · omega
          · rename_i hne
            rw [List.take_succ_eq_append_getElem hi] at hb
            rcases List.mem_append.1 hb with hb | hb
            · exact h7 j h ⟨b, hb, hj1, hbo⟩
            · exfalso
              rw [List.mem_singleton.1 hb, hjon] at hbo
              exact hne (fresh_inj (by omega) (by omega) hbo))
      refine ⟨used', ?_, g2, g3⟩
      rw [g1, List.drop_eq_getElem_cons hi, List.all_cons, Bool.and_assoc]
    · have : i = pl.length := by omega
      subst this
      rw [law19_PackSafe.l3, if_neg (by rw [hml]; simp), List.take_length, List.drop_eq_nil_of_le (Nat.le_refl _)]
      rw [List.take_length] at h7
      exact ⟨used, by simp, h4, h7⟩

theorem safe_each {r3 : List T_api_Move × Int} {j : List Int × List T_api_Bound × Bool} {n : Nat} (hr : r3.2 = (n : Int)) (hn : n < 59) (hl : j.1.length = n + 1) (h : ∀ k (hk : k < j.1.length), 1 ≤ k → 0 < j.1[k]) : law19_PackSafe.l7 r3 j FU 1 = some (Out.go ()) := by
  have key : ∀ (m k f : Nat), n - k ≤ m → m < f → k ≤ n → law19_PackSafe.l7 r3 j f ((k + 1 : Nat) : Int) = some (Out.go ()) := by
    intro m
    induction m with
    | zero =>
      intro k f h1 h2 h3
      obtain ⟨f, rfl⟩ : ∃ n', f = n' + 1 := ⟨f - 1, by omega⟩
      rw [law19_PackSafe.l7, if_neg (by rw [hr]; simp only [decide_eq_true_eq]; omega)]
    | succ m ih =>
      intro k f h1 h2 h3
      obtain ⟨f, rfl⟩ : ∃ n', f = n' + 1 := ⟨f - 1, by omega⟩
      by_cases hk : k < n
      · have hkl : k + 1 < j.1.length := by omega
        have := h (k + 1) hkl (by omega)
        rw [law19_PackSafe.l7, if_pos (by rw [hr]; simp only [decide_eq_true_eq]; omega), glk hkl, Option.bind_some, wk1 (by omega), if_neg (by simp only [beq_iff_eq]; omega)]
        exact ih (k + 1) f (by omega) (by omega) (by omega)
      · rw [law19_PackSafe.l7, if_neg (by rw [hr]; simp only [decide_eq_true_eq]; omega)]
  exact key n 0 FU (by omega) (by unfold FU; omega) (by omega)

theorem PackSafe_true {a p : Prop} (c : T_law19_Case) (_ : a) (_ : p) (hB : c.Bs.length ≤ 1048576) (hL : c.L.length ≤ 1048576) : law19_PackSafe c = some true := by
  unfold law19_PackSafe
  rw [known19_true]
  obtain ⟨b, hb, hr⟩ := Right19 c.Ms c.Bs c.L c.Like (by omega)
  rw [hb]
  cases b with
  | false => rfl
  | true =>
    have hr := hr rfl
    have hlen := hr.ly.nb
    have hpl : (pendA c.L).length = c.L.length := by simp [pendA]
    rw [List.length_append, hpl] at hlen
    simp only [Option.bind_some, Bool.not_true, Bool.false_eq_true, if_false]
    obtain ⟨r, ps, e1, e2, e3, e4, e5, e6⟩ := Est_P hr
    have hgm := gms hr.ly hr.ry
    have hgb := gbs hr.ly hr.ry
    have hgl := gm_of hr.like hr.right
    have hnm := hr.ep.nm
    have hne := names_ne hr.ry
    have hbl : ∀ b, b ∈ c.Bs → b ∈ c.Bs ++ pendA c.L := fun b hb => List.mem_append.2 (.inl hb)
    have hll : ∀ p, p ∈ c.L → (⟨p, ⟨#[]⟩⟩ : T_api_Bound) ∈ c.Bs ++ pendA c.L := fun p hp => List.mem_append.2 (.inr (List.mem_map.2 ⟨p, hp, rfl⟩))
    have hneed : ∀ b, b ∈ c.Bs ++ pendA c.L → resOK b.Pod.Need = true ∧ b.Pod.Need.Pods = 1 := fun b hb => by
      obtain ⟨i, hi, rfl⟩ := List.getElem_of_mem hb
      exact RPod_need (hr.ly.bs i hi).1 (hr.ry.rb i hi)
    have hon : ∀ b, b ∈ c.Bs → b.On ≠ ⟨#[]⟩ → ∃ m, m ∈ c.Ms ∧ m.Name = b.On := fun b hb e => by
      obtain ⟨i, hi, rfl⟩ := List.getElem_of_mem (hbl b hb)
      obtain ⟨j, hj, e2⟩ := hr.ry.on i hi e
      exact ⟨c.Ms[j], List.getElem_mem hj, e2⟩
    have hndall : ((c.Bs ++ pendA c.L).map (·.Pod.Name)).Nodup := by
      rw [List.nodup_iff_pairwise_ne, List.pairwise_map, List.pairwise_iff_getElem]
      intro i j hi hj hij e
      have := hr.ry.bu i j hi hj e
      omega
    have hm : (pendA c.L).map (·.Pod.Name) = c.L.map (·.Name) := by simp [pendA, Function.comp_def]
    rw [List.map_append, hm, List.nodup_append] at hndall
    obtain ⟨pl, hs, hfin⟩ := SE.fold (limit := c.Limit) (bs := c.Bs) (l := c.L) hr.ep hgm hgl.so hne hon (fun b hb => hneed b (hbl b hb)) (fun p hp => hneed _ (hll p hp)) ps ⟨c.Bs, [], 0⟩ [] (hr.ei e5)
      ⟨by simp, rfl, fun b hb => (by cases hb), fun b hb => (by cases hb), fun k hk => (by cases hk), (by show ((0 : Nat) : Int) ≤ _; omega), hndall.1, fun _ hf => (by rw [allM_zero]; exact hf)⟩ (fun p hp => e5.mem_iff.1 hp)
    have hmv := fold_mv (ms := c.Ms) (like := c.Like) (limit := c.Limit) ps ⟨c.Bs, [], 0⟩
    have hpsl := e5.length_eq
    have hfn := hfin.n
    simp only [List.length_nil] at hmv
    rw [e6, Option.bind_some]
    generalize hS : ps.foldl (stepE c.Ms c.Like c.Limit) ⟨c.Bs, [], 0⟩ = S at hs hmv hfn
    have hlim := hs.lim
    have hmvl : S.mv.length = pl.length := by rw [hs.em, List.length_map]
    have hn59 : S.n < 59 := by omega
    rw [if_neg (by simp only [Bool.or_eq_true, decide_eq_true_eq]; omega), ap_ok (by omega) (by simp; omega), Option.bind_some, List.nil_append]
    have hmk : V.mk 8 (0 : Int) (i64.wrap ((S.n : Int) + 1)) = some (List.replicate (S.n + 1) 0) := by
      rw [wk1 (by omega)]
      unfold V.mk
      rw [if_pos (by unfold maxLen; omega), Int.toNat_natCast]
    rw [hmk, Option.bind_some]
    have hA : law19_PackSafe.l1 c (S.mv, (S.n : Int)) FU c.Ms 1 = some (allM c.Ms c.Like S.n) := by
      have := safe_all (c := c) (r3 := (S.mv, (S.n : Int))) (n := S.n) rfl hn59 hr.like hnm S.n 0 FU (by omega) (by unfold FU; omega) (by omega)
      rw [allM_zero] at this
      exact this
    rw [hA, Option.bind_some, safe_free (by omega), Option.bind_some]
    have hndbs := hs.nd
    rw [hs.eb] at hndbs
    obtain ⟨used', g1, g2, g3⟩ := safe_moves (c := c) (pl := pl) (r3 := (S.mv, (S.n : Int))) (n := S.n) rfl hn59 hs.em (by omega) hr.like (by omega) (by omega) hndall.2.1 hndbs hs.mem hs.on pl.length 0 FU (List.replicate (S.n + 1) 0) (c.Bs.all fun b => noS b.Pod) [] (by omega) (by unfold FU; omega) (by omega) (by simp) (fun j h => by simp) rfl (fun j h => by rintro ⟨b, hb, _⟩; cases hb)
    simp only [List.take_zero, List.append_nil, List.drop_zero] at g1
    rw [show ((0 : Nat) : Int) = 0 from rfl] at g1
    rw [g1, Option.bind_some]
    simp only [Out.on]
    rw [safe_each (n := S.n) rfl hn59 g2 (fun k hk h1 => by
      have hk' : k < used'.length := hk
      obtain ⟨b, hb, hbo⟩ := hs.all (k - 1) (by omega)
      rw [show k - 1 + 1 = k by omega] at hbo
      exact g3 k hk' ⟨b, hb, h1, hbo⟩), Option.bind_some]
    simp only
    -- what fits
    have hGall : ∀ m, m ∈ allM c.Ms c.Like S.n → GM m := fun m hm => by
      rcases allM_mem hm with hm | ⟨j, hj, rfl⟩
      · exact hgm m hm
      · exact ⟨fresh_LM hr.like hr.ep.gr (by omega), hgl.so⟩
    have hun : ∀ ms : List T_api_Machine, (ms.map (·.Name)).Nodup → ∀ m m', m ∈ ms → m' ∈ ms → m.Name = m'.Name → m = m' := fun ms hn m m' hm hm' e => by
      obtain ⟨i, hi, rfl⟩ := List.getElem_of_mem hm
      obtain ⟨j, hj, rfl⟩ := List.getElem_of_mem hm'
      have := nd_idx hn i j hi hj e
      subst this; rfl
    obtain ⟨f1, q1, q2⟩ := feas12 (ms := c.Ms) (bs := c.Bs) (by omega) (by omega) hgm hr.ep.nd (fun b hb => hgb b (hbl b hb)) hne (hun _ hr.ep.nd) (fun k h e => hon _ (List.getElem_mem h) e)
    have hplb : ∀ b, b ∈ pl → GP b.Pod := fun b hb => hgb ⟨b.Pod, ⟨#[]⟩⟩ (hll _ (hs.mem b hb))
    obtain ⟨f2, q3, q4⟩ := feas12 (ms := allM c.Ms c.Like S.n) (bs := c.Bs ++ pl) (by rw [allM_len]; omega) (by rw [List.length_append]; omega) hGall (allM_nd hr.ep hn59) (fun b hb => by
        rcases List.mem_append.1 hb with hb | hb
        · exact hgb b (hbl b hb)
        · exact hplb b hb) (allM_name_ne hne) (hun _ (allM_nd hr.ep hn59)) (fun k h e => by
        rcases List.mem_append.1 (List.getElem_mem h) with hb | hb
        · obtain ⟨m, hm, q⟩ := hon _ hb e
          exact ⟨m, List.mem_append.2 (.inl hm), q⟩
        · obtain ⟨j, hj, q⟩ := hs.on _ hb
          exact ⟨_, allM_new hj, q.symm⟩)
    rw [q1, q3]
    cases hfr : ((c.Bs.all fun b => noS b.Pod) && pl.all fun b => noS b.Pod) with
    | false => rfl
    | true =>
      simp only [Bool.not_true, Bool.false_eq_true, if_false, Option.bind_some]
      cases f1 with
      | false => rfl
      | true =>
        have hsp : ∀ b, b ∈ S.bs → b.Pod.Spread.length = 0 := fun b hb => by
          rw [hs.eb] at hb
          simp only [Bool.and_eq_true, List.all_eq_true] at hfr
          rcases List.mem_append.1 hb with hb | hb
          · have := hfr.1 b hb; unfold noS at this; simpa using this
          · have := hfr.2 b hb; unfold noS at this; simpa using this
        have hf := hs.fe hsp (q2.1 rfl)
        rw [hs.eb] at hf
        rw [q4.2 hf]
        rfl
end Go.Proofs.YtbkdglcedgiogaaGreat.M

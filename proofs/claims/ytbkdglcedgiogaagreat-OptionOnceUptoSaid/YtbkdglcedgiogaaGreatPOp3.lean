/-
  Printed by a program of this session out of the loaded functions: models and their proofs. Own text.
-/
import Derived.Test.YtbkdglcedgiogaaGreatPRef9
import Derived.Test.YtbkdglcedgiogaaGreatPShareR
import Derived.Test.YtbkdglcedgiogaaGreatPRk
import Derived.Test.YtbkdglcedgiogaaGreatPBor
import Derived.Test.YtbkdglcedgiogaaGreatRXO
/- Plain law: an estimate, as the document makes it. Own work. -/
namespace Go.Proofs.YtbkdglcedgiogaaGreat.M
open Go Go.Proofs Go.Proofs.YtbkdglcedgiogaaGreat.V
open Go.IntKind (i64)
set_option linter.unusedVariables false
set_option maxRecDepth 20000
set_option maxHeartbeats 4000000

theorem dgR_all : ((List.range 60).all fun k => decide (ref01_Digits FU (k : Int) = some (dg k))) = true := by kernel_rfl
theorem dgR {k : Nat} (h : k < 60) : ref01_Digits FU (k : Int) = some (dg k) := by
  have := (List.all_eq_true.1 dgR_all) k (List.mem_range.2 h)
  simpa using this
theorem Fresh_R {like : T_api_Machine} (hl : LM like) {k : Nat} (h : k < 60) : ref19_Fresh like (k : Int) = some (freshM like k) := by
  have hg := hl.group
  have hd := (dg_ok h).2.1
  unfold ref19_Fresh
  rw [if_neg (by simp), cat7 (by have : (ByteArray.mk #[43]).size = 1 := rfl; omega), dgR h]
  simp only [Option.bind_some]
  rw [cat7 (by have : (ByteArray.mk #[43]).size = 1 := rfl; rw [ByteArray.size_append]; omega)]
  rfl

theorem Order19_R {l : List T_api_Pod} {like : T_api_Machine} (hl : l.length ≤ 400) : ∃ r, ref19_Order l like = some r ∧ r.Perm (idxs l.length) ∧ r.Pairwise (Rk (rk19 l like)) := by
  unfold ref19_Order
  have key : ∀ (m k n : Nat) (out : List Int), l.length - k ≤ m → m < n → k ≤ l.length → out.Perm (idxs k) → out.Pairwise (Rk (rk19 l like)) → ∃ r, ref19_Order.l1 l like n out (k : Int) = some r ∧ r.Perm (idxs l.length) ∧ r.Pairwise (Rk (rk19 l like)) := by
    intro m
    induction m with
    | zero =>
      intro k n out h1 h2 h3 h4 h5
      obtain ⟨n, rfl⟩ : ∃ n', n = n' + 1 := ⟨n - 1, by omega⟩
      have : k = l.length := by omega
      subst this
      rw [ref19_Order.l1, if_neg dnl]
      exact ⟨out, rfl, h4, h5⟩
    | succ m ih =>
      intro k n out h1 h2 h3 h4 h5
      obtain ⟨n, rfl⟩ : ∃ n', n = n' + 1 := ⟨n - 1, by omega⟩
      by_cases hk : k < l.length
      · have hol : out.length = k := by rw [h4.length_eq]; simp [idxs]
        have hmem : ∀ x, x ∈ out → ∃ j : Nat, x = (j : Int) ∧ j < k := fun x hx => idxs_mem (h4.mem_iff.1 hx)
        rw [ref19_Order.l1, if_pos (dlt hk), wk1 (by omega)]
        rw [ins_loop (F := fun f j next => ref19_Order.l2 l like out (k : Int) f j next) (l := out) (rk := rk19 l like) (i := (k : Int)) (by omega) (fun n j hj next hn => by
            obtain ⟨q, hq, hqk⟩ := hmem _ (List.getElem_mem hj)
            have hq' : q < l.length := by omega
            rw [ref19_Order.l2, if_pos (dlt hj), glk hj, Option.bind_some, hq, glk hq', Option.bind_some, glk hk, Option.bind_some, share_R, share_R, Option.bind_some, Option.bind_some, Option.bind_some, wk1 (by omega), rk19_at hq', rk19_at hk]
            by_cases hd : shareV l[q].Need like.Has ≥ shareV l[k].Need like.Has
            · rw [decide_eq_true hd, if_pos rfl, if_pos hd, Option.bind_some, ap_ok (by omega) (by simp; omega), Option.bind_some]
            · rw [decide_eq_false hd, if_neg (by decide), if_neg hd]) (fun n next => by rw [ref19_Order.l2, if_neg dnl]; rfl)]
        simp only [Option.bind_some]
        have htw : (out.takeWhile (insQ (rk19 l like) (k : Int))).length ≤ out.length := (List.takeWhile_sublist _).length_le
        rw [ap_ok (by omega) (by simp; omega)]
        simp only [Option.bind_some]
        rw [sl_suf htw]
        simp only [Option.bind_some]
        rw [ap_ok (by omega) (by simp; omega)]
        simp only [Option.bind_some]
        rw [ins_put]
        refine ih (k + 1) n _ (by omega) (by omega) (by omega) ?_ (insL_sorted h5 fun x hx => ?_)
        · rw [idxs_succ]
          exact (insL_perm _ _ _).trans (List.Perm.append_right _ h4)
        · obtain ⟨j, rfl, hj⟩ := hmem x hx
          omega
      · have : k = l.length := by omega
        subst this
        rw [ref19_Order.l1, if_neg dnl]
        exact ⟨out, rfl, h4, h5⟩
  obtain ⟨r, h1, h2, h3⟩ := key l.length 0 FU [] (by omega) (by unfold FU; omega) (by omega) (by simp [idxs]) .nil
  rw [show ((0 : Nat) : Int) = 0 from rfl] at h1
  rw [h1]
  exact ⟨r, rfl, h2, h3⟩

theorem find_from {q : Nat → Bool} {n : Nat} : ∀ (m k : Nat), n - k ≤ m → k ≤ n → ((List.range n).drop k).find? q = if h : k < n then (if q k = true then some k else ((List.range n).drop (k + 1)).find? q) else none := by
  intro m k _ hk
  by_cases h : k < n
  · rw [dif_pos h, List.drop_eq_getElem_cons (by simpa using h), List.getElem_range, List.find?_cons]
    cases q k <;> rfl
  · rw [dif_neg h, List.drop_eq_nil_of_le (by simp; omega)]; rfl

/-- What is sought, as the document seeks it. -/
theorem seek_R {ms : List T_api_Machine} {like : T_api_Machine} {n : Nat} {bs : List T_api_Bound} {p : T_api_Pod} (hn : n < 50) (hl : LM like)
    (hw : ∀ k, k < n → ref12_Why (allM ms like n) bs p (freshM like (k + 1)).Name = some (whyV (allM ms like n) bs p (freshM like (k + 1)))) :
    ref19_Estimate.l2 like bs (allM ms like n) (n : Int) p FU (⟨#[]⟩ : ByteArray) (1 : Int) = some (match (List.range n).find? (fitsK ms like n bs p) with | some k => (freshM like (k + 1)).Name | none => ⟨#[]⟩) := by
  have stop : ∀ (f k : Nat) (on_ : ByteArray), 0 < f → on_ ≠ ⟨#[]⟩ → ref19_Estimate.l2 like bs (allM ms like n) (n : Int) p f on_ (k : Int) = some on_ := by
    intro f k on_ hf ho
    obtain ⟨f, rfl⟩ : ∃ n', f = n' + 1 := ⟨f - 1, by omega⟩
    rw [ref19_Estimate.l2, if_neg (by rw [seq_eq]; simp [ho])]
  have key : ∀ (m k f : Nat), n - k ≤ m → m + 1 < f → k ≤ n → ref19_Estimate.l2 like bs (allM ms like n) (n : Int) p f (⟨#[]⟩ : ByteArray) ((k + 1 : Nat) : Int) = some (match ((List.range n).drop k).find? (fitsK ms like n bs p) with | some k => (freshM like (k + 1)).Name | none => ⟨#[]⟩) := by
    intro m
    induction m with
    | zero =>
      intro k f h1 h2 h3
      obtain ⟨f, rfl⟩ : ∃ n', f = n' + 1 := ⟨f - 1, by omega⟩
      have : k = n := by omega
      subst this
      rw [ref19_Estimate.l2, if_neg (by simp; omega), List.drop_eq_nil_of_le (by simp)]; rfl
    | succ m ih =>
      intro k f h1 h2 h3
      obtain ⟨f, rfl⟩ : ∃ n', f = n' + 1 := ⟨f - 1, by omega⟩
      by_cases hk : k < n
      · rw [ref19_Estimate.l2, if_pos (by rw [seq_eq]; simp; omega), Fresh_R hl (by omega), Option.bind_some, hw k hk, Option.bind_some, wk1 (by omega), find_from (n - k) k (by omega) h3, dif_pos hk]
        by_cases e : whyV (allM ms like n) bs p (freshM like (k + 1)) = 0
        · rw [if_pos (by simpa using e), stop f (k + 1 + 1) _ (by omega) (name_ne like _), if_pos (by unfold fitsK; simpa using e)]
        · rw [if_neg (by simpa using e), if_neg (by unfold fitsK; simpa using e)]
          exact ih (k + 1) f (by omega) (by omega) (by omega)
      · have : k = n := by omega
        subst this
        rw [ref19_Estimate.l2, if_neg (by simp; omega), List.drop_eq_nil_of_le (by simp)]; rfl
  exact key n 0 FU (by omega) (by unfold FU; omega) (by omega)

theorem put_R (bs : List T_api_Bound) (p : T_api_Pod) (n : ByteArray) (hl : bs.length ≤ 1000) (hpos : ∀ x, x ∈ bs → x.Pod.Name ≠ p.Name) : ref12_Put bs p n = some (bs ++ [⟨p, n⟩]) := by
  unfold ref12_Put
  rw [Others_ref bs p.Name (by omega), others_none hpos]
  simp only [Option.bind_some]
  rw [ap_ok (by omega) (by simp; omega)]
  rfl

theorem est_R {ms : List T_api_Machine} {like : T_api_Machine} {limit : Int} (h : EP ms like) (hgm : ∀ m, m ∈ ms → GM m) (hgl : sortedL like.Labels) (l : List T_api_Pod) (R : List Int) (hR : R.length ≤ 100) : ∀ (ps : List T_api_Pod) (r : List Int) (k f : Nat) (s : ES), R.drop k = r → k ≤ R.length → r.length < f → r.map (V.gl l) = ps.map some → EI s ps → (∀ b, b ∈ s.bs → GP b.Pod) → (∀ p, p ∈ ps → GP p) →
    ref19_Estimate.l1 l like limit R f s.bs s.mv (allM ms like s.n) (s.n : Int) (k : Int) = some ((ps.foldl (stepE ms like limit) s).mv, ((ps.foldl (stepE ms like limit) s).n : Int)) := by
  intro ps
  induction ps with
  | nil =>
    intro r k f s hd hkl hf hr hi _ _
    have : r = [] := by simpa using hr
    subst this
    obtain ⟨f, rfl⟩ : ∃ n', f = n' + 1 := ⟨f - 1, by omega⟩
    have hk : R.length ≤ k := by simpa using hd
    have e : k = R.length := by omega
    subst e
    rw [ref19_Estimate.l1, if_neg dnl]
    rfl
  | cons p ps ih =>
    intro r k f s hd hkl hf hr hi hgb hgp
    cases r with
    | nil => simp at hr
    | cons x r =>
      obtain ⟨f, rfl⟩ : ∃ n', f = n' + 1 := ⟨f - 1, by omega⟩
      simp only [List.map_cons, List.cons.injEq] at hr
      obtain ⟨hx, hr⟩ := hr
      have hk : k < R.length := by
        have := congrArg List.length hd; rw [List.length_drop, List.length_cons] at this; omega
      have hdd := List.drop_eq_getElem_cons hk
      rw [hd] at hdd
      injection hdd with hx1 hdd
      have h2 := hi.c
      have h3 := hi.b
      have hn := hi.n
      have hnm := h.nm
      rw [List.length_cons] at h2 h3 hf
      have hgall : ∀ n, n < 59 → ∀ m, m ∈ allM ms like n → GM m := fun n hn m hm => by
        rcases allM_mem hm with hm | ⟨j, hj, rfl⟩
        · exact hgm m hm
        · exact ⟨fresh_LM h.lk h.gr (by omega), hgl⟩
      have hwhy : ∀ (n : Nat), n ≤ s.n + 1 → ∀ k, k < n → ref12_Why (allM ms like n) s.bs p (freshM like (k + 1)).Name = some (whyV (allM ms like n) s.bs p (freshM like (k + 1))) := fun n hn' k hk =>
        Why12_eq (by rw [allM_len]; omega) (by omega) (hgall n (by omega)) (allM_nd h (by omega)) hgb (hgp p (List.mem_cons_self ..)) (allM_new hk)
      rw [ref19_Estimate.l1, if_pos (dlt hk), glk hk, ← hx1, Option.bind_some, hx, Option.bind_some, wk1 (k := k) (by omega), seek_R (by omega) h.lk (hwhy s.n (by omega)), Option.bind_some, List.foldl_cons]
      have hst := hi.step (ms := ms) (like := like) (limit := limit)
      have hpt : ∀ (j : Nat), j ≤ s.n + 1 → stepE ms like limit s p = putE like s p j →
          ((ref12_Put s.bs p (freshM like j).Name).bind fun r6 => (V.ap 32 s.mv [(⟨p.Name, (freshM like j).Name⟩ : T_api_Move)]).bind fun moves4 => ref19_Estimate.l1 l like limit R f r6 moves4 (allM ms like (max s.n j)) ((max s.n j : Nat) : Int) ((k + 1 : Nat) : Int)) = some ((ps.foldl (stepE ms like limit) (stepE ms like limit s p)).mv, ((ps.foldl (stepE ms like limit) (stepE ms like limit s p)).n : Int)) := fun j hj he => by
        rw [put_R _ _ _ (by omega) fun b hb => hi.ne b hb p (List.mem_cons_self ..), Option.bind_some, ap_ok (by omega) (by simp; omega), Option.bind_some]
        rw [he] at hst ⊢
        refine ih r (k + 1) f (putE like s p j) hdd.symm (by omega) (by omega) hr hst (fun b hb => ?_) fun q hq => hgp q (List.mem_cons_of_mem _ hq)
        rcases List.mem_append.1 hb with hb | hb
        · exact hgb b hb
        · rw [List.mem_singleton.1 hb]; exact hgp p (List.mem_cons_self ..)
      have hskip : stepE ms like limit s p = s → ref19_Estimate.l1 l like limit R f s.bs s.mv (allM ms like s.n) (s.n : Int) ((k + 1 : Nat) : Int) = some ((ps.foldl (stepE ms like limit) (stepE ms like limit s p)).mv, ((ps.foldl (stepE ms like limit) (stepE ms like limit s p)).n : Int)) := fun he => by
        rw [he]
        rw [he] at hst
        exact ih r (k + 1) f s hdd.symm (by omega) (by omega) hr hst hgb fun q hq => hgp q (List.mem_cons_of_mem _ hq)
      cases hf1 : (List.range s.n).find? (fitsK ms like s.n s.bs p) with
      | some j =>
        have hj := List.mem_range.1 (List.mem_of_find?_eq_some hf1)
        have hne := name_ne like (j + 1)
        simp only [seq_eq, decide_eq_false hne, Bool.false_and, Bool.false_eq_true, if_false, Option.bind_some, Bool.not_false, if_true]
        have := hpt (j + 1) (by omega) (by unfold stepE pick; rw [hf1])
        rw [show max s.n (j + 1) = s.n by omega] at this
        exact this
      | none =>
        simp only [seq_eq, decide_true, Bool.true_and]
        by_cases hlim : (s.n : Int) < limit
        · rw [decide_eq_true hlim, if_pos rfl, wk1 (by omega), Fresh_R h.lk (by omega), Option.bind_some, ap_ok (by omega) (by rw [allM_len]; simp; omega), Option.bind_some, List.nil_append, ap_ok (by omega) (by rw [allM_len]; simp; omega), Option.bind_some, ← allM_succ, hwhy (s.n + 1) (by omega) s.n (by omega), Option.bind_some]
          by_cases e : whyV (allM ms like (s.n + 1)) s.bs p (freshM like (s.n + 1)) = 0
          · rw [if_pos (by simpa using e), Option.bind_some]
            have hne := name_ne like (s.n + 1)
            simp only [decide_eq_false hne, Bool.not_false, if_true]
            have := hpt (s.n + 1) (by omega) (by unfold stepE pick; rw [hf1]; simp only [if_pos hlim]; rw [if_pos (by unfold fitsK; simpa using e)])
            rw [show max s.n (s.n + 1) = s.n + 1 by omega] at this
            exact this
          · rw [if_neg (by simpa using e), Option.bind_some]
            simp only [decide_true, Bool.not_true, Bool.false_eq_true, if_false]
            exact hskip (by unfold stepE pick; rw [hf1]; simp only [if_pos hlim]; rw [if_neg (by unfold fitsK; simpa using e)])
        · rw [decide_eq_false hlim, if_neg (by decide), Option.bind_some]
          simp only [decide_true, Bool.not_true, Bool.false_eq_true, if_false]
          exact hskip (by unfold stepE pick; rw [hf1]; simp only [if_neg hlim])

theorem fold_mv {ms : List T_api_Machine} {like : T_api_Machine} {limit : Int} : ∀ (ps : List T_api_Pod) (s : ES), (ps.foldl (stepE ms like limit) s).mv.length ≤ s.mv.length + ps.length
  | [], s => by simp
  | p :: ps, s => by
    have h2 := fold_mv (ms := ms) (like := like) (limit := limit) ps (stepE ms like limit s p)
    have h1 : (stepE ms like limit s p).mv.length ≤ s.mv.length + 1 := by
      unfold stepE
      split
      · simp [putE]
      · omega
    rw [List.foldl_cons, List.length_cons]
    omega

end Go.Proofs.YtbkdglcedgiogaaGreat.M
/- Plain law: OptionTells. Own work. -/
namespace Go.Proofs.YtbkdglcedgiogaaGreat.M
open Go Go.Proofs Go.Proofs.YtbkdglcedgiogaaGreat.V
open Go.IntKind (i64)
set_option linter.unusedVariables false
set_option maxRecDepth 20000
set_option maxHeartbeats 4000000

structure GG (g : T_api_Group) : Prop where
  lm : LM g.Like
  rm : ref07_RightMachine g.Like = some true
  price : 0 ≤ g.Price ∧ g.Price ≤ 1125899906842624

theorem RGroup {g : T_api_Group} (hn : g.Name.size ≤ 300) (hl : LM g.Like) : ∃ b, ref07_RightGroup g = some b ∧ (b = true → GG g) := by
  unfold ref07_RightGroup ref07_in
  obtain ⟨a, ha⟩ := Word_tot (s := g.Name) (by omega)
  obtain ⟨b, hb⟩ := RMach_tot hl
  rw [ha, hb]
  simp only [Option.bind_some]
  cases a with
  | false => exact ⟨_, rfl, fun h => by simp at h⟩
  | true =>
    simp only [if_true, Option.bind_some]
    by_cases h1 : (decide (g.Max ≥ 1) && decide (g.Max ≤ 200)) = true
    · rw [h1]
      simp only [if_true, Option.bind_some]
      by_cases h2 : (decide (g.Min ≥ 0) && decide (g.Min ≤ g.Max)) = true
      · rw [h2]
        simp only [if_true, Option.bind_some]
        by_cases h3 : (decide (g.Price ≥ 0) && decide (g.Price ≤ 1125899906842624)) = true
        · rw [h3]
          simp only [if_true, Option.bind_some]
          by_cases h4 : (decide (g.Rank ≥ 0) && decide (g.Rank ≤ 1000)) = true
          · rw [h4]
            simp only [if_true, Option.bind_some]
            refine ⟨_, rfl, fun h => ?_⟩
            simp only [Bool.and_eq_true] at h
            rw [h.1.1.1] at hb
            simp only [Bool.and_eq_true, decide_eq_true_eq] at h3
            exact ⟨hl, hb, h3⟩
          · rw [Bool.not_eq_true] at h4; rw [h4]; exact ⟨_, rfl, fun h => by simp at h⟩
        · rw [Bool.not_eq_true] at h3; rw [h3]; exact ⟨_, rfl, fun h => by simp at h⟩
      · rw [Bool.not_eq_true] at h2; rw [h2]; exact ⟨_, rfl, fun h => by simp at h⟩
    · rw [Bool.not_eq_true] at h1; rw [h1]; exact ⟨_, rfl, fun h => by simp at h⟩

theorem Light16 (l : List T_api_Group) : ∃ b, ref16_Light l = some b ∧ (b = true → l.length ≤ 20 ∧ ∀ k (h : k < l.length), l[k].Name.size ≤ 300 ∧ LM l[k].Like) := by
  unfold ref16_Light
  by_cases h : (l.length : Int) > 20
  · rw [if_pos (by simpa using h)]; exact ⟨false, rfl, fun h => by cases h⟩
  · rw [if_neg (by simpa using h)]
    rcases loopI (F := fun n i => ref16_Light.l1 l n i) (Q := fun r => r = false) (S := fun k => ∀ h : k < l.length, l[k].Name.size ≤ 300 ∧ LM l[k].Like) (len := l.length) (by omega) (fun n k hk => by
        rw [ref16_Light.l1, if_pos (dlt hk), glk hk, wk1 (by omega)]
        simp only [Option.bind_some]
        by_cases hs : (l[k].Name.size : Int) > 300
        · rw [if_pos (by simpa using hs)]; exact .inl ⟨false, rfl, rfl⟩
        · rw [if_neg (by simpa using hs)]
          obtain ⟨b, hb, hl⟩ := ref07_LightMachine_eq l[k].Like
          rw [hb]
          cases b with
          | false => exact .inl ⟨false, rfl, rfl⟩
          | true => exact .inr ⟨rfl, fun _ => ⟨by omega, hl rfl⟩⟩) (fun n => by rw [ref16_Light.l1, if_neg dnl]) with ⟨r, g1, g2⟩ | ⟨g1, g2⟩
    · rw [g1, g2]; exact ⟨false, rfl, fun h => by cases h⟩
    · rw [g1]; exact ⟨true, rfl, fun _ => ⟨by omega, fun k hk => g2 k hk hk⟩⟩

theorem Find16 (l : List T_api_Group) (name : ByteArray) (hl : l.length ≤ 100) : ∃ r, ref16_Find l name = some r := by
  unfold ref16_Find
  rcases loopI (F := fun n i => ref16_Find.l1 l name n i) (Q := fun r => True) (S := fun k => True) (len := l.length) (by omega) (fun n k hk => by
      rw [ref16_Find.l1, if_pos (dlt hk), glk hk, wk1 (by omega)]
      simp only [Option.bind_some]
      by_cases e : (V.seq l[k].Name name) = true
      · rw [if_pos e]; exact .inl ⟨_, rfl, trivial⟩
      · rw [if_neg e]; exact .inr ⟨rfl, trivial⟩) (fun n => by rw [ref16_Find.l1, if_neg dnl]) with ⟨r, g1, _⟩ | ⟨g1, _⟩
  · rw [g1]; exact ⟨_, rfl⟩
  · rw [g1]; exact ⟨_, rfl⟩

theorem Right16 {l : List T_api_Group} (hl : l.length ≤ 20) (h : ∀ k (h : k < l.length), l[k].Name.size ≤ 300 ∧ LM l[k].Like) : ∃ b, ref16_Right l = some b ∧ (b = true → l.length ≤ 16 ∧ ∀ k (h : k < l.length), GG l[k]) := by
  unfold ref16_Right
  by_cases hh : (l.length : Int) > 16
  · rw [if_pos (by simpa using hh)]; exact ⟨false, rfl, fun h => by cases h⟩
  · rw [if_neg (by simpa using hh)]
    rcases loopI (F := fun n i => ref16_Right.l1 l n i) (Q := fun r => r = false) (S := fun k => ∀ h : k < l.length, GG l[k]) (len := l.length) (by omega) (fun n k hk => by
        rw [ref16_Right.l1, if_pos (dlt hk), glk hk, wk1 (by omega)]
        simp only [Option.bind_some]
        obtain ⟨b, hb, hg⟩ := RGroup (h k hk).1 (h k hk).2
        rw [hb]
        cases b with
        | false => exact .inl ⟨false, rfl, rfl⟩
        | true =>
          simp only [Option.bind_some, Bool.not_true, Bool.false_eq_true, if_false]
          by_cases hs : (l[k].Name.size : Int) > 48
          · rw [decide_eq_true hs]; exact .inl ⟨false, rfl, rfl⟩
          · rw [decide_eq_false hs]
            simp only [Bool.false_eq_true, if_false]
            obtain ⟨r, hr⟩ := Find16 l l[k].Name (by omega)
            rw [hr]
            simp only [Option.bind_some]
            cases (r != (k : Int))
            · exact .inr ⟨rfl, fun _ => hg rfl⟩
            · exact .inl ⟨false, rfl, rfl⟩) (fun n => by rw [ref16_Right.l1, if_neg dnl]) with ⟨r, g1, g2⟩ | ⟨g1, g2⟩
    · rw [g1, g2]; exact ⟨false, rfl, fun h => by cases h⟩
    · rw [g1]; exact ⟨true, rfl, fun _ => ⟨by omega, fun k hk => g2 k hk hk⟩⟩

theorem RE.like' {ms : List T_api_Machine} {bs : List T_api_Bound} {l : List T_api_Pod} {k k' : T_api_Machine} (h : RE ms bs l k) (hl : LM k') (hr : ref07_RightMachine k' = some true) : RE ms bs l k' := ⟨h.ly, h.ry, hl, hr, h.plus⟩
theorem Right20 (ms : List T_api_Machine) (bs : List T_api_Bound) (l : List T_api_Pod) (gs : List T_api_Group) (h : (bs.length + l.length) * 288 ≤ 140737488355328) : ∃ b, ref20_Right ms bs l gs = some b ∧ (b = true → gs.length ≤ 6 ∧ (∀ g, g ∈ gs → GG g) ∧ ∃ k, RE ms bs l k) := by
  unfold ref20_Right
  obtain ⟨b, hb, h1⟩ := Light16 gs
  rw [hb]
  cases b with
  | false => exact ⟨false, rfl, fun h => by cases h⟩
  | true =>
    obtain ⟨h1, h2⟩ := h1 rfl
    simp only [Option.bind_some, Bool.not_true, Bool.false_eq_true, if_false]
    obtain ⟨b, hb, h3⟩ := Right16 h1 h2
    rw [hb]
    cases b with
    | false => exact ⟨false, rfl, fun h => by cases h⟩
    | true =>
      obtain ⟨h3, h4⟩ := h3 rfl
      simp only [Option.bind_some, Bool.not_true, Bool.false_or]
      by_cases h6 : (gs.length : Int) > 6
      · rw [if_pos (by simpa using h6)]; exact ⟨false, rfl, fun h => by cases h⟩
      · rw [if_neg (by simpa using h6)]
        obtain ⟨b, hb, hr⟩ := Right19 ms bs l ⟨⟨#[]⟩, ⟨#[]⟩, ⟨0, 0, 0, 0, 0⟩, [], [], false⟩ h
        rw [hb]
        exact ⟨b, rfl, fun e => ⟨by omega, fun g hg => by
          obtain ⟨i, hi, rfl⟩ := List.getElem_of_mem hg
          exact h4 i hi, _, hr e⟩⟩

/-! a group's way -/
def mvd (mv : List T_api_Move) (n : ByteArray) : Bool := mv.any fun m => decide (m.Pod = n)
def cntM (mv : List T_api_Move) (n : ByteArray) : Nat := (mv.filter fun m => decide (m.Pod = n)).length
theorem cnt_pos (mv : List T_api_Move) (n : ByteArray) : (0 < cntM mv n) ↔ mvd mv n = true := by
  unfold cntM mvd
  rw [List.length_pos_iff, ne_eq, List.filter_eq_nil_iff, List.any_eq_true]
  constructor
  · intro h
    apply Classical.byContradiction
    intro q
    exact h fun a ha e => q ⟨a, ha, e⟩
  · rintro ⟨a, ha, e⟩ h
    exact h a ha e
def optZ : T_api_Option := ⟨⟨#[]⟩, 0, [], 0, 0, 0⟩
def someL (mv : List T_api_Move) (l : List T_api_Pod) : List T_api_Pod := l.filter fun p => mvd mv p.Name
def optV (g : T_api_Group) (l : List T_api_Pod) (mv : List T_api_Move) (n : Nat) : T_api_Option := ⟨g.Name, (n : Int), (someL mv l).map (·.Name), (wasteN (someL mv l) g.Like.Has n : Nat), min ((n : Int) * g.Price) 1125899906842624, g.Rank⟩
def ofV (g : T_api_Group) (l : List T_api_Pod) (mv : List T_api_Move) (n : Nat) : T_api_Option × Bool := if n = 0 then (optZ, false) else (optV g l mv n, true)

theorem of_went {mv : List T_api_Move} {n : Int} (hl : mv.length ≤ 1000) : ∀ (m k f : Nat) (w : List (ByteArray × Int)), mv.length - k ≤ m → m < f → k ≤ mv.length → (∀ x, (V.mg w x).getD 0 = (cntM (mv.take k) x : Int)) → ∃ w', option_Of.l1 (mv, n) f w (k : Int) = some w' ∧ ∀ x, (V.mg w' x).getD 0 = (cntM mv x : Int) := by
  intro m
  induction m with
  | zero =>
    intro k f w h1 h2 h3 h4
    obtain ⟨f, rfl⟩ : ∃ n', f = n' + 1 := ⟨f - 1, by omega⟩
    have : k = mv.length := by omega
    subst this
    rw [List.take_length] at h4
    rw [option_Of.l1, if_neg dnl]
    exact ⟨w, rfl, h4⟩
  | succ m ih =>
    intro k f w h1 h2 h3 h4
    obtain ⟨f, rfl⟩ : ∃ n', f = n' + 1 := ⟨f - 1, by omega⟩
    by_cases hk : k < mv.length
    · rw [option_Of.l1, if_pos (dlt hk), glk hk, wk1 (by omega)]
      simp only [Option.bind_some]
      have hc : cntM (mv.take k) mv[k].Pod ≤ 1000 := by
        unfold cntM
        have := List.length_filter_le (fun m => decide (m.Pod = mv[k].Pod)) (mv.take k)
        rw [List.length_take] at this; omega
      refine ih (k + 1) f _ (by omega) (by omega) (by omega) fun x => ?_
      rw [mg_mp, List.take_succ_eq_append_getElem hk]
      have hx := h4 x
      have hcx : cntM (mv.take k ++ [mv[k]]) x = cntM (mv.take k) x + (if mv[k].Pod = x then 1 else 0) := by
        unfold cntM
        rw [List.filter_append, List.length_append]
        by_cases e : mv[k].Pod = x
        · rw [if_pos e]; simp [e]
        · rw [if_neg e]; simp [e]
      rw [hcx]
      by_cases e : x = mv[k].Pod
      · rw [if_pos e, if_pos e.symm, ← e, hx]
        rw [← e] at hc
        show i64.wrap _ = _
        rw [w_eq (by omega) (by omega)]; omega
      · rw [if_neg e, if_neg (fun q => e q.symm), hx]; rfl
    · have : k = mv.length := by omega
      subst this
      rw [List.take_length] at h4
      rw [option_Of.l1, if_neg dnl]
      exact ⟨w, rfl, h4⟩
theorem of_some {mv : List T_api_Move} {w : List (ByteArray × Int)} (hw : ∀ x, (V.mg w x).getD 0 = (cntM mv x : Int)) : ∀ (l : List T_api_Pod) (k : Nat) (o : T_api_Option) (so : List T_api_Pod), so.length + l.length ≤ 1000 → o.Pods.length + l.length ≤ 1000 → option_Of.l2 w l k o so = some (⟨o.Group, o.Count, o.Pods ++ (someL mv l).map (·.Name), o.Waste, o.Price, o.Rank⟩, so ++ someL mv l) := by
  intro l
  induction l with
  | nil => intro k o so _ _; rw [option_Of.l2]; simp [someL]
  | cons p l ih =>
    intro k o so h1 h2
    rw [List.length_cons] at h1 h2
    rw [option_Of.l2, hw p.Name]
    have hc := cnt_pos mv p.Name
    by_cases e : mvd mv p.Name = true
    · rw [if_pos (by simp only [decide_eq_true_eq]; have := hc.2 e; omega), ap_ok (by omega) (by simp; omega), Option.bind_some, ap_ok (by omega) (by simp; omega), Option.bind_some, ih (k + 1) _ _ (by simp; omega) (by simp; omega)]
      simp [someL, e]
    · have h0 : ¬ 0 < cntM mv p.Name := fun q => e (hc.1 q)
      rw [if_neg (by simp only [decide_eq_true_eq]; omega), ih (k + 1) _ _ (by omega) (by omega)]
      simp [someL, e]
end Go.Proofs.YtbkdglcedgiogaaGreat.M
/- Plain law: OptionTells. Own work. -/
namespace Go.Proofs.YtbkdglcedgiogaaGreat.M
open Go Go.Proofs Go.Proofs.YtbkdglcedgiogaaGreat.V
open Go.IntKind (i64)
set_option linter.unusedVariables false
set_option maxRecDepth 20000
set_option maxHeartbeats 4000000

theorem mv_fold {ms : List T_api_Machine} {like : T_api_Machine} {limit : Int} : ∀ (ps : List T_api_Pod) (s : ES), (ps.map (·.Name)).Nodup → (s.mv.map (·.Pod)).Nodup → (∀ m, m ∈ s.mv → ∀ p, p ∈ ps → m.Pod ≠ p.Name) → ((ps.foldl (stepE ms like limit) s).mv.map (·.Pod)).Nodup := by
  intro ps
  induction ps with
  | nil => intro s _ h _; exact h
  | cons p ps ih =>
    intro s h1 h2 h3
    rw [List.map_cons, List.nodup_cons] at h1
    rw [List.foldl_cons]
    unfold stepE
    split
    · rename_i k hk
      refine ih _ h1.2 ?_ fun m hm q hq => ?_
      · show ((s.mv ++ [(⟨p.Name, _⟩ : T_api_Move)]).map (·.Pod)).Nodup
        rw [List.map_append, List.nodup_append]
        refine ⟨h2, by simp, fun a ha b hb e => ?_⟩
        simp only [List.map_cons, List.map_nil, List.mem_singleton] at hb
        obtain ⟨m, hm, rfl⟩ := List.mem_map.1 ha
        exact h3 m hm p (List.mem_cons_self ..) (e.trans hb)
      · rcases List.mem_append.1 hm with hm | hm
        · exact h3 m hm q (List.mem_cons_of_mem _ hq)
        · rw [List.mem_singleton.1 hm]
          intro e
          exact h1.1 (List.mem_map.2 ⟨q, hq, e.symm⟩)
    · exact ih s h1.2 h2 fun m hm q hq => h3 m hm q (List.mem_cons_of_mem _ hq)

theorem one_move {mv : List T_api_Move} (h : (mv.map (·.Pod)).Nodup) (n : ByteArray) {α : Type} (x : α) : (mv.filter fun m => decide (m.Pod = n)).map (fun _ => x) = if mvd mv n = true then [x] else [] := by
  induction mv with
  | nil => rfl
  | cons m mv ih =>
    rw [List.map_cons, List.nodup_cons] at h
    have ih' := ih h.2
    rw [List.filter_cons]
    unfold mvd at *
    rw [List.any_cons]
    by_cases e : m.Pod = n
    · have hno : (mv.any fun m => decide (m.Pod = n)) = false := by
        rw [List.any_eq_false]
        intro y hy q
        exact h.1 (List.mem_map.2 ⟨y, hy, by rw [e]; simpa using q⟩)
      rw [if_pos (by simpa using e), List.map_cons, ih', hno]
      simp [e]
    · rw [if_neg (by simpa using e), ih']
      simp [e]
theorem ofR_l2 {l : List T_api_Pod} {mv : List T_api_Move} {n : Int} {i : Nat} (hi : i < l.length) (hm : mv.length ≤ 100) : ∀ (m k f : Nat) (o : T_api_Option) (so : List T_api_Pod), mv.length - k ≤ m → m < f → k ≤ mv.length → o.Pods.length + so.length + 2 * (mv.length - k) ≤ 10000 →
    ref20_Of.l2 l (mv, n) (i : Int) f o so (k : Int) = some (⟨o.Group, o.Count, o.Pods ++ ((mv.drop k).filter fun m => decide (m.Pod = l[i].Name)).map (fun _ => l[i].Name), o.Waste, o.Price, o.Rank⟩, so ++ ((mv.drop k).filter fun m => decide (m.Pod = l[i].Name)).map (fun _ => l[i])) := by
  intro m
  induction m with
  | zero =>
    intro k f o so h1 h2 h3 _
    obtain ⟨f, rfl⟩ : ∃ n', f = n' + 1 := ⟨f - 1, by omega⟩
    have : k = mv.length := by omega
    subst this
    rw [ref20_Of.l2, if_neg dnl, List.drop_eq_nil_of_le (Nat.le_refl _)]; simp
  | succ m ih =>
    intro k f o so h1 h2 h3 h4
    obtain ⟨f, rfl⟩ : ∃ n', f = n' + 1 := ⟨f - 1, by omega⟩
    by_cases hk : k < mv.length
    · rw [ref20_Of.l2, if_pos (dlt hk), glk hk, Option.bind_some, glk hi, Option.bind_some, wk1 (k := k) (by omega), seq_eq, List.drop_eq_getElem_cons hk, List.filter_cons]
      by_cases e : mv[k].Pod = l[i].Name
      · rw [if_pos (by simpa using e), if_pos (by simpa using e), Option.bind_some, ap_ok (by omega) (by simp; omega), Option.bind_some, Option.bind_some, ap_ok (by omega) (by simp; omega), Option.bind_some, ih (k + 1) f _ _ (by omega) (by omega) (by omega) (by simp; omega)]
        simp
      · rw [if_neg (by simpa using e), if_neg (by simpa using e), ih (k + 1) f _ _ (by omega) (by omega) (by omega) (by omega)]
    · have : k = mv.length := by omega
      subst this
      rw [ref20_Of.l2, if_neg dnl, List.drop_eq_nil_of_le (Nat.le_refl _)]; simp
theorem someL_cons (mv : List T_api_Move) (p : T_api_Pod) (l : List T_api_Pod) : someL mv (p :: l) = if mvd mv p.Name = true then p :: someL mv l else someL mv l := by
  unfold someL; rw [List.filter_cons]
theorem ofR_l1 {l : List T_api_Pod} {mv : List T_api_Move} {n : Int} (hm : mv.length ≤ 100) (hl : l.length ≤ 100) (hnd : (mv.map (·.Pod)).Nodup) : ∀ (m k f : Nat) (o : T_api_Option) (so : List T_api_Pod), l.length - k ≤ m → m < f → k ≤ l.length → o.Pods.length ≤ k → so.length ≤ k →
    ref20_Of.l1 l (mv, n) f o so (k : Int) = some (⟨o.Group, o.Count, o.Pods ++ (someL mv (l.drop k)).map (·.Name), o.Waste, o.Price, o.Rank⟩, so ++ someL mv (l.drop k)) := by
  intro m
  induction m with
  | zero =>
    intro k f o so h1 h2 h3 _ _
    obtain ⟨f, rfl⟩ : ∃ n', f = n' + 1 := ⟨f - 1, by omega⟩
    have : k = l.length := by omega
    subst this
    rw [ref20_Of.l1, if_neg dnl, List.drop_eq_nil_of_le (Nat.le_refl _)]; simp [someL]
  | succ m ih =>
    intro k f o so h1 h2 h3 h4 h5
    obtain ⟨f, rfl⟩ : ∃ n', f = n' + 1 := ⟨f - 1, by omega⟩
    by_cases hk : k < l.length
    · have h2' := ofR_l2 (n := n) hk hm mv.length 0 FU o so (by omega) (by unfold FU; omega) (by omega) (by omega)
      rw [show ((0 : Nat) : Int) = 0 from rfl] at h2'
      rw [List.drop_zero, one_move hnd, one_move hnd] at h2'
      rw [ref20_Of.l1, if_pos (dlt hk), wk1 (k := k) (by omega), h2', Option.bind_some]
      simp only
      rw [List.drop_eq_getElem_cons hk]
      by_cases e : mvd mv l[k].Name = true
      · rw [if_pos e, if_pos e, ih (k + 1) f _ _ (by omega) (by omega) (by omega) (by simp; omega) (by simp; omega), someL_cons, if_pos e]
        simp only [List.map_cons, List.append_assoc, List.singleton_append]
      · rw [if_neg e, if_neg e, ih (k + 1) f _ _ (by omega) (by omega) (by omega) (by simp; omega) (by simp; omega), someL_cons, if_neg e]
        simp only [List.append_nil]
    · have : k = l.length := by omega
      subst this
      rw [ref20_Of.l1, if_neg dnl, List.drop_eq_nil_of_le (Nat.le_refl _)]; simp [someL]

/-- A group's way, and as the document says. -/
theorem Of_same {ms : List T_api_Machine} {bs : List T_api_Bound} {l : List T_api_Pod} {g : T_api_Group} (h : RE ms bs l g.Like) (hp : 0 ≤ g.Price ∧ g.Price ≤ 1125899906842624) (room : Int) : ∃ mv n, option_Of ms bs l g room = some (ofV g l mv n) ∧ ref20_Of ms bs l g room = some (ofV g l mv n) ∧ ((n : Int) ≤ max room 0) ∧ ∃ ps : List T_api_Pod, ps.Perm l ∧ mv = (ps.foldl (stepE ms g.Like room) ⟨bs, [], 0⟩).mv ∧ n = (ps.foldl (stepE ms g.Like room) ⟨bs, [], 0⟩).n := by
  have hlen := h.ly.nb
  have hpl : (pendA l).length = l.length := by simp [pendA]
  rw [List.length_append, hpl] at hlen
  obtain ⟨r, ps, e1, e2, e3, e4, e5, e6⟩ := Est_P h
  obtain ⟨r', g1, g2, g3⟩ := Order19_R (l := l) (like := g.Like) (by omega)
  have hrr : r' = r := sorted_unique (R := Rk (rk19 l g.Like)) (fun a h => by unfold Rk at h; omega) (fun a b h k => by unfold Rk at h k; omega) g3 e3 (g2.trans e2.symm)
  subst hrr
  have hgm := gms h.ly h.ry
  have hgb := gbs h.ly h.ry
  have hgl := gm_of h.like h.right
  have hrl : r'.length = l.length := by rw [e2.length_eq]; simp [idxs]
  have hei := h.ei e5
  have hR : ref19_Estimate ms bs l g.Like room = some ((ps.foldl (stepE ms g.Like room) ⟨bs, [], 0⟩).mv, ((ps.foldl (stepE ms g.Like room) ⟨bs, [], 0⟩).n : Int)) := by
    unfold ref19_Estimate
    have hnm := h.ep.nm
    rw [ap_ok (by omega) (by simp; omega), Option.bind_some, g1, Option.bind_some, List.nil_append]
    have := est_R (limit := room) h.ep hgm hgl.so l r' (by omega) ps r' 0 FU ⟨bs, [], 0⟩ rfl (by omega) (by unfold FU; omega) e4 hei (fun b hb => hgb b (List.mem_append.2 (.inl hb))) (fun p hp => hgb ⟨p, ⟨#[]⟩⟩ (List.mem_append.2 (.inr (List.mem_map.2 ⟨p, e5.mem_iff.1 hp, rfl⟩))))
    simp only [allM_zero] at this
    rw [show ((0 : Nat) : Int) = 0 from rfl] at this
    rw [this]
    rfl
  have hmv := fold_mv (ms := ms) (like := g.Like) (limit := room) ps ⟨bs, [], 0⟩
  have hnd := mv_fold (ms := ms) (like := g.Like) (limit := room) ps ⟨bs, [], 0⟩ hei.nd (by simp) (fun m hm => by cases hm)
  have hnm : ∀ (ps : List T_api_Pod) (s : ES), EI s ps → (s.n : Int) ≤ max room 0 → (ps.foldl (stepE ms g.Like room) s).n ≤ (ps.foldl (stepE ms g.Like room) s).mv.length ∧ (((ps.foldl (stepE ms g.Like room) s).n : Nat) : Int) ≤ max room 0 := by
    intro ps
    induction ps with
    | nil => intro s hi hl; exact ⟨hi.n, hl⟩
    | cons p ps ih =>
      intro s hi hl
      refine ih _ hi.step ?_
      unfold stepE
      split
      · rename_i k hk
        show ((max s.n k : Nat) : Int) ≤ _
        unfold pick at hk
        split at hk
        · rename_i j hj
          have := List.mem_range.1 (List.mem_of_find?_eq_some hj)
          simp only [Option.some.injEq] at hk
          omega
        · split at hk
          · split at hk
            · simp only [Option.some.injEq] at hk; omega
            · cases hk
          · cases hk
      · exact hl
  obtain ⟨hnn, hlim⟩ := hnm ps ⟨bs, [], 0⟩ hei (by show ((0 : Nat) : Int) ≤ _; omega)
  have hpsl := e5.length_eq
  simp only [List.length_nil] at hmv
  have hE := e6 room
  generalize hS : ps.foldl (stepE ms g.Like room) ⟨bs, [], 0⟩ = S at *
  have hneed : ∀ p, p ∈ someL S.mv l → resOK p.Need = true := fun p hp => by
    have hpl : p ∈ l := (List.mem_filter.1 hp).1
    obtain ⟨i, hi, e⟩ := List.getElem_of_mem (List.mem_append.2 (.inr (List.mem_map.2 ⟨p, hpl, rfl⟩)) : (⟨p, ⟨#[]⟩⟩ : T_api_Bound) ∈ bs ++ pendA l)
    have h1 := (h.ly.bs i hi).1
    have h2 := h.ry.rb i hi
    rw [e] at h1 h2
    exact (RPod_need h1 h2).1
  have hsl : (someL S.mv l).length ≤ 60 := by have := List.length_filter_le (fun p : T_api_Pod => mvd S.mv p.Name) l; unfold someL; omega
  have hhas := RMach_has h.like h.right
  refine ⟨S.mv, S.n, ?_, ?_, hlim, ps, e5, by rw [hS], by rw [hS]⟩
  · unfold option_Of
    rw [hE, Option.bind_some]
    unfold ofV
    by_cases h0 : S.n = 0
    · rw [if_pos (by simp [h0]), if_pos h0]; rfl
    · rw [if_neg (by simpa using h0), if_neg h0]
      obtain ⟨w', w1, w2⟩ := of_went (mv := S.mv) (n := (S.n : Int)) (by omega) S.mv.length 0 FU [] (by omega) (by unfold FU; omega) (by omega) (fun x => rfl)
      rw [show ((0 : Nat) : Int) = 0 from rfl] at w1
      rw [w1, Option.bind_some, of_some w2 l 0 _ _ (by simp; omega) (by simp; omega), Option.bind_some]
      simp only [List.nil_append]
      rw [Waste_P hsl hneed hhas (by omega) (by omega), Option.bind_some]
      have hpr : i64.wrap ((S.n : Int) * g.Price) = (S.n : Int) * g.Price := by
        have := (nhas (n := S.n) (by omega) hp)
        rw [this.1]
        rw [Int.natCast_mul, Int.toNat_of_nonneg hp.1]
      rw [hpr]
      rfl
  · unfold ref20_Of
    rw [hR, Option.bind_some]
    unfold ofV
    by_cases h0 : S.n = 0
    · rw [if_pos (by simp [h0]), if_pos h0]; rfl
    · rw [if_neg (by simpa using h0), if_neg h0]
      have w1 := ofR_l1 (l := l) (mv := S.mv) (n := (S.n : Int)) (by omega) (by omega) hnd l.length 0 FU ⟨g.Name, (S.n : Int), [], 0, 0, g.Rank⟩ [] (by omega) (by unfold FU; omega) (by omega) (by simp) (by simp)
      rw [show ((0 : Nat) : Int) = 0 from rfl] at w1
      rw [w1, Option.bind_some]
      simp only [List.nil_append, List.drop_zero]
      rw [Waste_R hsl hneed hhas (by omega) (by omega), Option.bind_some]
      have hpr : i64.wrap ((S.n : Int) * g.Price) = (S.n : Int) * g.Price := by
        have := (nhas (n := S.n) (by omega) hp)
        rw [this.1]
        rw [Int.natCast_mul, Int.toNat_of_nonneg hp.1]
      rw [hpr]
      rfl
end Go.Proofs.YtbkdglcedgiogaaGreat.M

/-
  Printed by a program of this session out of the loaded functions: models and their proofs. Own text.
-/
import Derived.Test.YtbkdglcedgiogaaGreatPSchP
import Derived.Test.YtbkdglcedgiogaaGreatPWord
import Derived.Test.YtbkdglcedgiogaaGreatPFit0
/-
  Plain laws: the machine for a pod, told alike by the program and the document. Own text.
-/
namespace Go.Proofs.YtbkdglcedgiogaaGreat.M
open Go Go.Proofs Go.Proofs.YtbkdglcedgiogaaGreat.V
set_option linter.unusedVariables false

/-! shares -/
theorem part_same {a b : Int} (ha : rOK a = true) (hb : rOK b = true) : res_part a b = ref04_part a b ∧ isS (ref04_part a b) := by
  rw [rOK_iff] at ha hb
  unfold res_part ref04_part
  by_cases h0 : b = 0
  · subst h0
    by_cases h1 : a = 0
    · subst h1; exact ⟨rfl, 0, rfl⟩
    · rw [if_neg (by decide), if_pos (by rw [decide_eq_true_eq]; omega), if_pos (by rfl), if_neg (by simpa using h1)]
      exact ⟨rfl, _, rfl⟩
  · rw [if_pos (by rw [decide_eq_true_eq]; omega), if_neg (by simpa using h0)]
    refine ⟨rfl, ?_⟩
    unfold V.quo
    rw [if_neg h0]
    exact ⟨_, rfl⟩
theorem Share_same (a b : T_api_Res) : ref04_Share a b = res_Share a b ∧ isS (res_Share a b) := by
  unfold ref04_Share res_Share
  simp only [ref04_Right_eq, res_Right_eq, Option.bind_some]
  cases ha : resOK a with
  | false => exact ⟨rfl, _, rfl⟩
  | true =>
    cases hb : resOK b with
    | false => exact ⟨rfl, _, rfl⟩
    | true =>
      obtain ⟨a1, a2, _⟩ := resOK_split ha
      obtain ⟨b1, b2, _⟩ := resOK_split hb
      obtain ⟨c1, x, c2⟩ := part_same a1 b1
      obtain ⟨d1, y, d2⟩ := part_same a2 b2
      simp only [Bool.not_true, Bool.false_eq_true, if_false, Option.bind_some]
      rw [c1, d1, c2, d2]
      exact ⟨rfl, _, rfl⟩
theorem share_R (a b : T_api_Res) : ref04_Share a b = some (shareV a b) := by rw [(Share_same a b).1, share_V]

theorem Unborne6_e (l : List T_api_Toleration) (ts : List T_api_Taint) {e : Int} (he : e ≠ 0) (h : ts.length ≤ 1000) (hl : l.length ≤ 1000) : ref06_Unborne l ts e = some (ts.filter fun x => decide (x.Effect = e) && !borneB l x) := by
  unfold ref06_Unborne
  have := idxFoldL (F := fun n s i => ref06_Unborne.l1 l ts e n s i) (l := ts) (fun acc x => if (decide (x.Effect = e) && !borneB l x) = true then acc ++ [x] else acc) id (fun k s => s.length ≤ k) (by omega) (fun n s k hk hI => by
    rw [ref06_Unborne.l1, if_pos (dlt hk), glk hk, wk1 (by omega)]
    have hin : ∀ b0 : Bool, ref06_Unborne.l2 l ts (k : Int) FU b0 0 = some (b0 || borneB l ts[k]) := by
      intro b0
      have := idxFoldL (F := fun n s i => ref06_Unborne.l2 l ts (k : Int) n s i) (l := l) (fun b t => b || bearB t ts[k]) id (fun _ _ => True) (by omega) (fun n s j hj _ => by
        refine ⟨?_, trivial⟩
        rw [ref06_Unborne.l2, if_pos (dlt hj), glk hj, glk hk, wk1 (by omega)]
        simp only [Option.bind_some, bear6_eq]
        cases s <;> rfl) (fun n s => by rw [ref06_Unborne.l2, if_neg dnl]; rfl) b0 trivial
      rw [show ref06_Unborne.l2 l ts (k : Int) FU b0 0 = _ from this]
      congr 1
      have key : ∀ (l : List T_api_Toleration) (b : Bool), l.foldl (fun b t => b || bearB t ts[k]) b = (b || borneB l ts[k]) := by
        intro l
        induction l with
        | nil => intro b; unfold borneB; simp
        | cons t l ih => intro b; rw [List.foldl_cons, ih]; unfold borneB; rw [List.any_cons, Bool.or_assoc]
      exact key l b0
    rw [if_pos (show (e != (0 : Int)) = true by simpa using he)]
    simp only [Option.bind_some, hin]
    have hne : (ts[k].Effect != e) = !decide (ts[k].Effect = e) := by by_cases q : ts[k].Effect = e <;> simp [q]
    rw [hne]
    cases h1 : decide (ts[k].Effect = e) <;> cases h2 : borneB l ts[k]
    · exact ⟨rfl, by show s.length ≤ k + 1; omega⟩
    · exact ⟨rfl, by show s.length ≤ k + 1; omega⟩
    · simp only [Bool.not_true, Bool.or_false, Bool.not_false, if_true, Bool.and_self]
      rw [ap_ok (by omega) (by simp; omega)]
      exact ⟨rfl, by simp; omega⟩
    · exact ⟨rfl, by show s.length ≤ k + 1; omega⟩) (fun n s => by rw [ref06_Unborne.l1, if_neg dnl]; rfl) [] (by simp)
  rw [show ref06_Unborne.l1 l ts e FU [] 0 = _ from this]
  simp only [Option.bind_some, id]
  congr 1
  have key : ∀ (ts acc : List T_api_Taint), ts.foldl (fun acc x => if (decide (x.Effect = e) && !borneB l x) = true then acc ++ [x] else acc) acc = acc ++ ts.filter fun x => decide (x.Effect = e) && !borneB l x := by
    intro ts
    induction ts with
    | nil => intro acc; simp
    | cons x ts ih =>
      intro acc
      rw [List.foldl_cons, ih, List.filter_cons]
      split <;> simp
  rw [key, List.nil_append]
theorem pref_R {m : T_api_Machine} {p : T_api_Pod} (hm : LM m) (hp : LP p) : ref10_Prefers m p = some (prefV m p) := by
  have := hm.taints.1
  have := hp.bears.1
  unfold ref10_Prefers ref06_Prefers prefV
  rw [Unborne6_e _ _ (by decide) (by omega) (by omega)]
  rfl

theorem best_R {ms : List T_api_Machine} {bs : List T_api_Bound} {p : T_api_Pod} (hl : ms.length ≤ 400) (hbl : bs.length ≤ 400) (hms : ∀ m, m ∈ ms → GM m) (hn : (ms.map (·.Name)).Nodup) (hb : ∀ b, b ∈ bs → GP b.Pod) (hp : GP p) :
    ref14_Best ms bs p = some (bestV ms bs p) := by
  unfold ref14_Best bestV bestL ref14_Among
  rw [Where12_eq hl hbl hms hn hb hp]
  simp only [Option.bind_some]
  show ((ref14_Among.l1 ms bs p ((okM ms bs p).map (·.Name)) FU ⟨#[]⟩ 0 0 0).bind fun best32 => some best32).bind (fun r2 => some r2) = _
  have hokl : (okM ms bs p).length ≤ ms.length := List.length_filter_le _ _
  have hokm : ∀ m, m ∈ okM ms bs p → m ∈ ms := fun m h => (List.mem_filter.1 h).1
  generalize okM ms bs p = ok at *
  have hol := othersS_len2 bs p.Name
  have key : ∀ (m k f : Nat) (b : ByteArray) (s : T_sched_score), ok.length - k ≤ m → m < f → k ≤ ok.length → ref14_Among.l1 ms bs p (ok.map (·.Name)) f b s.prefers s.share (k : Int) = some ((ok.drop k).foldl (bstep (scoreV bs p)) (b, s)).1 := by
    intro m
    induction m with
    | zero =>
      intro k f b s h1 h2 h3
      obtain ⟨f, rfl⟩ : ∃ q, f = q + 1 := ⟨f - 1, by omega⟩
      rw [ref14_Among.l1, if_neg (by simp; omega), List.drop_eq_nil_of_le (by omega)]; rfl
    | succ m ih =>
      intro k f b s h1 h2 h3
      obtain ⟨f, rfl⟩ : ∃ q, f = q + 1 := ⟨f - 1, by omega⟩
      by_cases hk : k < ok.length
      · have hxm := hokm ok[k] (List.getElem_mem hk)
        have hk' : k < (ok.map (·.Name)).length := by simpa using hk
        obtain ⟨r, h4, h5⟩ := Find9_eq ms ok[k].Name (by omega)
        rw [ref14_Among.l1, if_pos (dlt hk'), glk hk', wk1 (by omega)]
        simp only [Option.bind_some, List.getElem_map, h4, find_mem (by omega) hn hxm h5, pref_R (hms _ hxm).lm hp.lp, Others_ref bs p.Name (show bs.length ≤ 1000 by omega)]
        rw [Used9_eq _ _ (by omega)]
        simp only [Option.bind_some, share_R, seq_eq]
        rw [List.drop_eq_getElem_cons hk, List.foldl_cons]
        have hcond : ((decide (b = ⟨#[]⟩) || decide (prefV ok[k] p < s.prefers)) || ((prefV ok[k] p == s.prefers) && decide (shareV (usedS (onS (othersS bs p.Name) ok[k].Name)).1 ok[k].Has < s.share))) = (decide (b = ⟨#[]⟩) || lessB (scoreV bs p ok[k]) s) := by
          unfold lessB scoreV
          simp only
          by_cases q : prefV ok[k] p = s.prefers
          · rw [if_pos q, q]; simp
          · rw [if_neg q, show (prefV ok[k] p == s.prefers) = false by simpa using q]; simp
        rw [hcond]
        unfold bstep
        simp only
        cases (decide (b = ⟨#[]⟩) || lessB (scoreV bs p ok[k]) s) with
        | true =>
          simp only [if_true]
          exact ih (k + 1) f ok[k].Name (scoreV bs p ok[k]) (by omega) (by omega) (by omega)
        | false =>
          simp only [Bool.false_eq_true, if_false]
          exact ih (k + 1) f b s (by omega) (by omega) (by omega)
      · rw [ref14_Among.l1, if_neg (by simp; omega), List.drop_eq_nil_of_le (by omega)]; rfl
  have := key ok.length 0 FU ⟨#[]⟩ ⟨0, 0⟩ (by omega) (by unfold FU; omega) (Nat.zero_le _)
  rw [List.drop_zero] at this
  rw [show ref14_Among.l1 ms bs p (ok.map (·.Name)) FU ⟨#[]⟩ 0 0 0 = _ from this]
  rfl

end Go.Proofs.YtbkdglcedgiogaaGreat.M
/-
  Plain laws: the order in which pods are bound. Own text.
-/
namespace Go.Proofs.YtbkdglcedgiogaaGreat.M
open Go Go.Proofs Go.Proofs.YtbkdglcedgiogaaGreat.V
set_option linter.unusedVariables false

/-- Two rows, merged: the second's first one goes ahead where it is greater. -/
def mrg (rk : Int → Int) : List Int → List Int → List Int
  | [], b => b
  | x :: a, [] => x :: a
  | x :: a, y :: b => if rk y > rk x then y :: mrg rk (x :: a) b else x :: mrg rk a (y :: b)
termination_by a b => a.length + b.length
theorem mrg_nil (rk : Int → Int) (a : List Int) : mrg rk a [] = a := by cases a <;> rw [mrg]
theorem mrg_perm (rk : Int → Int) : ∀ (a b : List Int), (mrg rk a b).Perm (a ++ b) := by
  intro a b
  induction a, b using mrg.induct rk with
  | case1 b => rw [mrg]; exact .refl _
  | case2 x a => rw [mrg, List.append_nil]
  | case3 x a y b h ih =>
    rw [mrg, if_pos h]
    exact (List.Perm.cons y ih).trans (List.perm_middle (l₁ := x :: a)).symm
  | case4 x a y b h ih =>
    rw [mrg, if_neg h]
    exact List.Perm.cons x ih

theorem mrg_sorted (rk : Int → Int) : ∀ (a b : List Int), a.Pairwise (Rk rk) → b.Pairwise (Rk rk) → (∀ x, x ∈ a → ∀ y, y ∈ b → x < y) → (mrg rk a b).Pairwise (Rk rk) := by
  intro a b
  induction a, b using mrg.induct rk with
  | case1 b => intro _ hb _; rw [mrg]; exact hb
  | case2 x a => intro ha _ _; rw [mrg]; exact ha
  | case3 x a y b h ih =>
    intro ha hb hab
    rw [mrg, if_pos h, List.pairwise_cons]
    refine ⟨fun z hz => ?_, ih ha (List.pairwise_cons.1 hb).2 fun u hu v hv => hab u hu v (List.mem_cons_of_mem _ hv)⟩
    rcases List.mem_append.1 ((mrg_perm rk (x :: a) b).mem_iff.1 hz) with hz | hz
    · left
      rcases List.mem_cons.1 hz with rfl | hz
      · exact h
      · rcases (List.pairwise_cons.1 ha).1 z hz with q | ⟨q, _⟩ <;> omega
    · exact (List.pairwise_cons.1 hb).1 z hz
  | case4 x a y b h ih =>
    intro ha hb hab
    rw [mrg, if_neg h, List.pairwise_cons]
    refine ⟨fun z hz => ?_, ih (List.pairwise_cons.1 ha).2 hb fun u hu v hv => hab u (List.mem_cons_of_mem _ hu) v hv⟩
    rcases List.mem_append.1 ((mrg_perm rk a (y :: b)).mem_iff.1 hz) with hz | hz
    · exact (List.pairwise_cons.1 ha).1 z hz
    · have hlt := hab x (List.mem_cons_self ..) z hz
      unfold Rk
      rcases List.mem_cons.1 hz with rfl | hz
      · omega
      · rcases (List.pairwise_cons.1 hb).1 z hz with q | ⟨q, _⟩ <;> omega

/-! the program's order -/
def rkB (bs : List T_api_Bound) (x : Int) : Int := ((bs[x.toNat]?).map (·.Pod.Rank)).getD 0
theorem ord1_eq {bs : List T_api_Bound} {a b : Int} (ha : 0 ≤ a ∧ a < (bs.length : Int)) (hb : 0 ≤ b ∧ b < (bs.length : Int)) : sched_Order_1 a b bs = some (decide (rkB bs a > rkB bs b)) := by
  obtain ⟨i, rfl⟩ : ∃ i : Nat, a = (i : Int) := ⟨a.toNat, by omega⟩
  obtain ⟨j, rfl⟩ : ∃ j : Nat, b = (j : Int) := ⟨b.toNat, by omega⟩
  unfold sched_Order_1 rkB
  rw [glk (by omega), glk (by omega)]
  simp [show i < bs.length by omega, show j < bs.length by omega]

theorem gl0 {α : Type} (x : α) (l : List α) : V.gl (x :: l) 0 = some x := rfl
theorem sl1 {α : Type} (a : α) (l : List α) (hl : l.length < 1000000) : V.sl (a :: l) (some 1) none = some l := sl_tail a l hl

theorem merge_l1 {bs : List T_api_Bound} : ∀ (n : Nat) (a b out : List Int) (f : Nat), a.length + b.length ≤ n → n < f → out.length + a.length + b.length ≤ 1000 → (∀ x, x ∈ a → 0 ≤ x ∧ x < (bs.length : Int)) → (∀ x, x ∈ b → 0 ≤ x ∧ x < (bs.length : Int)) →
    ∃ a' b' o, sched_sorted_sched_Order_1.l1 bs f a b out = some (a', b', o) ∧ o ++ a' ++ b' = out ++ mrg (rkB bs) a b ∧ (a' = [] ∨ b' = []) ∧ o.length + a'.length + b'.length = out.length + a.length + b.length := by
  intro n
  induction n with
  | zero =>
    intro a b out f h1 h2 h3 ha hb
    obtain ⟨f, rfl⟩ : ∃ q, f = q + 1 := ⟨f - 1, by omega⟩
    obtain rfl : a = [] := List.eq_nil_of_length_eq_zero (by omega)
    exact ⟨[], b, out, by rw [sched_sorted_sched_Order_1.l1]; rfl, by rw [mrg]; simp, .inl rfl, rfl⟩
  | succ n ih =>
    intro a b out f h1 h2 h3 ha hb
    obtain ⟨f, rfl⟩ : ∃ q, f = q + 1 := ⟨f - 1, by omega⟩
    cases a with
    | nil => exact ⟨[], b, out, by rw [sched_sorted_sched_Order_1.l1]; rfl, by rw [mrg]; simp, .inl rfl, rfl⟩
    | cons x a =>
      cases b with
      | nil => exact ⟨x :: a, [], out, by rw [sched_sorted_sched_Order_1.l1, if_neg (by simp)], by rw [mrg]; simp, .inr rfl, rfl⟩
      | cons y b =>
        simp only [List.length_cons] at h1 h3
        rw [sched_sorted_sched_Order_1.l1, if_pos (by simp), gl0, gl0]
        simp only [Option.bind_some]
        rw [ord1_eq (hb y (List.mem_cons_self ..)) (ha x (List.mem_cons_self ..)), mrg]
        simp only [Option.bind_some]
        by_cases h : rkB bs y > rkB bs x
        · rw [if_pos (by simpa using h), if_pos h, ap_ok (by omega) (by simp; omega), sl1 y b (by omega)]
          simp only [Option.bind_some]
          obtain ⟨a', b', o, e1, e2, e3, e4⟩ := ih (x :: a) b (out ++ [y]) f (by simp only [List.length_cons]; omega) (by omega) (by simp only [List.length_append, List.length_cons, List.length_nil]; omega) ha (fun z hz => hb z (List.mem_cons_of_mem _ hz))
          exact ⟨a', b', o, e1, by rw [e2]; simp, e3, by rw [e4]; simp only [List.length_append, List.length_cons, List.length_nil]; omega⟩
        · rw [if_neg (by simpa using h), if_neg h, ap_ok (by omega) (by simp; omega), sl1 x a (by omega)]
          simp only [Option.bind_some]
          obtain ⟨a', b', o, e1, e2, e3, e4⟩ := ih a (y :: b) (out ++ [x]) f (by simp only [List.length_cons]; omega) (by omega) (by simp only [List.length_append, List.length_cons, List.length_nil]; omega) (fun z hz => ha z (List.mem_cons_of_mem _ hz)) hb
          exact ⟨a', b', o, e1, by rw [e2]; simp, e3, by rw [e4]; simp only [List.length_append, List.length_cons, List.length_nil]; omega⟩

theorem sorted_ok {bs : List T_api_Bound} : ∀ (n : Nat) (l : List Int) (f : Nat), l.length ≤ n → n < f → l.length ≤ 400 → (∀ x, x ∈ l → 0 ≤ x ∧ x < (bs.length : Int)) → l.Pairwise (· < ·) → ∃ r, sched_sorted_sched_Order_1 f l bs = some r ∧ r.Perm l ∧ r.Pairwise (Rk (rkB bs)) := by
  intro n
  induction n with
  | zero =>
    intro l f h1 h2 h3 hl hs
    obtain ⟨f, rfl⟩ : ∃ q, f = q + 1 := ⟨f - 1, by omega⟩
    obtain rfl : l = [] := List.eq_nil_of_length_eq_zero (by omega)
    exact ⟨[], rfl, .refl _, List.Pairwise.nil⟩
  | succ n ih =>
    intro l f h1 h2 h3 hl hs
    obtain ⟨f, rfl⟩ : ∃ q, f = q + 1 := ⟨f - 1, by omega⟩
    rw [sched_sorted_sched_Order_1]
    by_cases h : l.length < 2
    · rw [if_pos (by rw [decide_eq_true_eq]; omega)]
      refine ⟨l, rfl, .refl _, ?_⟩
      match l, h with
      | [], _ => exact List.Pairwise.nil
      | [x], _ => exact List.pairwise_singleton _ _
    · rw [if_neg (by rw [decide_eq_true_eq]; omega)]
      have hq : V.quo (l.length : Int) 2 = some ((l.length / 2 : Nat) : Int) := by
        unfold V.quo
        rw [if_neg (by decide)]
        congr 1
      rw [hq]
      simp only [Option.bind_some]
      rw [w_eq (x := ((l.length / 2 : Nat) : Int)) (by omega) (by omega)]
      have e1 : V.sl l none (some ((l.length / 2 : Nat) : Int)) = some (l.take (l.length / 2)) := sl_pre (by omega)
      have e2 : V.sl l (some ((l.length / 2 : Nat) : Int)) none = some (l.drop (l.length / 2)) := sl_suf (by omega)
      rw [e1, e2]
      simp only [Option.bind_some]
      obtain ⟨a, a1, a2, a3⟩ := ih (l.take (l.length / 2)) f (by rw [List.length_take]; omega) (by omega) (by rw [List.length_take]; omega) (fun x hx => hl x (List.mem_of_mem_take hx)) (hs.sublist (List.take_sublist _ _))
      obtain ⟨b, b1, b2, b3⟩ := ih (l.drop (l.length / 2)) f (by rw [List.length_drop]; omega) (by omega) (by rw [List.length_drop]; omega) (fun x hx => hl x (List.mem_of_mem_drop hx)) (hs.sublist (List.drop_sublist _ _))
      rw [a1, b1]
      simp only [Option.bind_some]
      have hal := a2.length_eq
      have hbl := b2.length_eq
      rw [List.length_take] at hal
      rw [List.length_drop] at hbl
      obtain ⟨a', b', o, m1, m2, m3, m4⟩ := merge_l1 (bs := bs) (a.length + b.length) a b [] FU (Nat.le_refl _) (by unfold FU; omega) (by simp only [List.length_nil]; omega) (fun x hx => hl x (List.mem_of_mem_take (a2.mem_iff.1 hx))) (fun x hx => hl x (List.mem_of_mem_drop (b2.mem_iff.1 hx)))
      rw [m1]
      simp only [Option.bind_some, List.length_nil] at m4 ⊢
      rw [ap_ok (by omega) (by omega)]
      simp only [Option.bind_some]
      rw [ap_ok (by omega) (by rw [List.length_append]; omega)]
      refine ⟨o ++ a' ++ b', rfl, ?_, ?_⟩
      · rw [m2, List.nil_append]
        have := (mrg_perm (rkB bs) a b).trans (a2.append b2)
        rwa [List.take_append_drop] at this
      · rw [m2, List.nil_append]
        refine mrg_sorted _ _ _ a3 b3 fun x hx y hy => ?_
        have hx' := a2.mem_iff.1 hx
        have hy' := b2.mem_iff.1 hy
        have := hs
        rw [← List.take_append_drop (l.length / 2) l, List.pairwise_append] at this
        exact this.2.2 x hx' y hy'

def pendL : List T_api_Bound → Nat → List Int
  | [], _ => []
  | x :: l, k => if x.On = ⟨#[]⟩ then (k : Int) :: pendL l (k + 1) else pendL l (k + 1)
theorem pendL_ge : ∀ (l : List T_api_Bound) (k : Nat) (x : Int), x ∈ pendL l k → (k : Int) ≤ x ∧ x < (k : Int) + (l.length : Int)
  | [], k, x, h => by cases h
  | y :: l, k, x, h => by
    rw [pendL] at h
    rw [List.length_cons]
    by_cases e : y.On = ⟨#[]⟩
    · rw [if_pos e] at h
      rcases List.mem_cons.1 h with rfl | h
      · omega
      · have := pendL_ge l (k + 1) x h; omega
    · rw [if_neg e] at h
      have := pendL_ge l (k + 1) x h; omega
theorem pendL_inc : ∀ (l : List T_api_Bound) (k : Nat), (pendL l k).Pairwise (· < ·)
  | [], _ => List.Pairwise.nil
  | y :: l, k => by
    rw [pendL]
    by_cases e : y.On = ⟨#[]⟩
    · rw [if_pos e, List.pairwise_cons]
      exact ⟨fun x hx => by have := pendL_ge l (k + 1) x hx; omega, pendL_inc l (k + 1)⟩
    · rw [if_neg e]; exact pendL_inc l (k + 1)
theorem pendL_len : ∀ (l : List T_api_Bound) (k : Nat), (pendL l k).length ≤ l.length
  | [], _ => Nat.le_refl _
  | y :: l, k => by
    have := pendL_len l (k + 1)
    rw [pendL, List.length_cons]
    split
    · rw [List.length_cons]; omega
    · omega
theorem pendL_mem : ∀ (l : List T_api_Bound) (k : Nat) (i : Nat), (((k + i : Nat) : Int) ∈ pendL l k ↔ ∃ h : i < l.length, l[i].On = ⟨#[]⟩)
  | [], k, i => by simp [pendL]
  | y :: l, k, i => by
    rw [pendL]
    cases i with
    | zero =>
      by_cases e : y.On = ⟨#[]⟩
      · rw [if_pos e]; simp [e]
      · rw [if_neg e]
        constructor
        · intro h
          have := pendL_ge l (k + 1) _ h
          omega
        · rintro ⟨_, h⟩
          exact absurd h e
    | succ i =>
      have ih := pendL_mem l (k + 1) i
      have e1 : ((k + 1 + i : Nat) : Int) = ((k + (i + 1) : Nat) : Int) := by omega
      rw [e1] at ih
      by_cases e : y.On = ⟨#[]⟩
      · rw [if_pos e, List.mem_cons, ih]
        constructor
        · rintro (h | ⟨h1, h2⟩)
          · omega
          · exact ⟨by simp; omega, by simpa using h2⟩
        · rintro ⟨h1, h2⟩
          exact .inr ⟨by simpa using h1, by simpa using h2⟩
      · rw [if_neg e, ih]
        constructor
        · rintro ⟨h1, h2⟩
          exact ⟨by simp; omega, by simpa using h2⟩
        · rintro ⟨h1, h2⟩
          exact ⟨by simpa using h1, by simpa using h2⟩

/-- The order: of all that pend, each once, a greater rank first, else the first one first. -/
theorem Order_ok {bs : List T_api_Bound} (hl : bs.length ≤ 400) : ∃ r, sched_Order bs = some r ∧ r.Perm (pendL bs 0) ∧ r.Pairwise (Rk (rkB bs)) := by
  unfold sched_Order
  have key : ∀ (l : List T_api_Bound) (k : Nat) (acc : List Int), l.length + acc.length ≤ 1000 → sched_Order.l1 l k acc = some (acc ++ pendL l k) := by
    intro l
    induction l with
    | nil => intro k acc _; simp [sched_Order.l1, pendL]
    | cons x l ih =>
      intro k acc h
      rw [List.length_cons] at h
      rw [sched_Order.l1, pendL, seq_eq]
      by_cases e : x.On = ⟨#[]⟩
      · rw [if_pos (by simpa using e), if_pos e, ap_ok (by omega) (by simp; omega)]
        simp only [Option.bind_some]
        rw [ih (k + 1) _ (by simp; omega)]
        simp
      · rw [if_neg (by simpa using e), if_neg e, ih (k + 1) acc (by omega)]
  rw [key bs 0 [] (by simp; omega), List.nil_append]
  simp only [Option.bind_some]
  have hpl := pendL_len bs 0
  obtain ⟨r, h1, h2, h3⟩ := sorted_ok (bs := bs) (pendL bs 0).length (pendL bs 0) FU (Nat.le_refl _) (by unfold FU; omega) (by omega) (fun x hx => by have := pendL_ge bs 0 x hx; omega) (pendL_inc bs 0)
  rw [h1]
  exact ⟨r, rfl, h2, h3⟩
end Go.Proofs.YtbkdglcedgiogaaGreat.M
/-
  Plain laws of the scheduler: what its guards give. Own text.
-/
namespace Go.Proofs.YtbkdglcedgiogaaGreat.M
open Go Go.Proofs Go.Proofs.YtbkdglcedgiogaaGreat.V
set_option linter.unusedVariables false

theorem known14_true : law14_known = some true := by kernel_rfl

theorem right14 (ms : List T_api_Machine) (bs : List T_api_Bound) : ∃ b, law14_right ms bs = some b ∧ (b = true → LY ms bs ∧ RY ms bs) := by
  unfold law14_right
  obtain ⟨b, e, f⟩ := ref09_Light_eq ms bs
  rw [e]
  cases b with
  | false => exact ⟨false, rfl, fun h => by cases h⟩
  | true =>
    have hy := f rfl
    simp only [Option.bind_some, if_true]
    obtain ⟨r, e, f⟩ := Check9_eq hy
    rw [e]
    refine ⟨r == 0, rfl, fun h => ⟨hy, f (by simpa using h)⟩⟩

theorem names_nodup {ms : List T_api_Machine} {bs : List T_api_Bound} (hr : RY ms bs) : (ms.map (·.Name)).Nodup := by
  rw [show (ms.map (·.Name)).Nodup ↔ _ from List.pairwise_iff_getElem]
  intro i j hi hj hij e
  rw [List.length_map] at hi hj
  have := hr.mu i j hi hj (by simpa using e)
  omega
theorem names_ne {ms : List T_api_Machine} {bs : List T_api_Bound} (hr : RY ms bs) : ∀ m, m ∈ ms → m.Name ≠ ⟨#[]⟩ := fun m h => by
  obtain ⟨i, hi, rfl⟩ := List.getElem_of_mem h
  exact (hr.rm i hi).1
end Go.Proofs.YtbkdglcedgiogaaGreat.M

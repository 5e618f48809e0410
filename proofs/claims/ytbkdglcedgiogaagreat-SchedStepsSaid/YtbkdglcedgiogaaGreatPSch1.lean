/-
  Plain laws: the machine for a pod, told alike by the program and the document. Own text.
-/
import Derived.Test.YtbkdglcedgiogaaGreatPRef5
import Derived.Test.YtbkdglcedgiogaaGreatPSchP
namespace Go.Proofs.YtbkdglcedgiogaaGreat.M
open Go Go.Proofs Go.Proofs.YtbkdglcedgiogaaGreat.V
set_option linter.unusedVariables false

/-! shares -/
theorem part_same {a b : Int} (ha : rOK a = true) (hb : rOK b = true) : res_part a b = ref04_part a b ∧ isS (ref04_part a b) := by
  rw [rOK_iff] at ha hb
  unfold res_part ref04_part
  by_cases h0 : b = 0
  · subst h0
    by_cases h1 : a = 0
    · subst h1; exact ⟨rfl, 0, rfl⟩
    · rw [if_neg (by decide), if_pos (by rw [decide_eq_true_eq]; omega), if_pos (by rfl), if_neg (by simpa using h1)]
      exact ⟨rfl, _, rfl⟩
  · rw [if_pos (by rw [decide_eq_true_eq]; omega), if_neg (by simpa using h0)]
    refine ⟨rfl, ?_⟩
    unfold V.quo
    rw [if_neg h0]
    exact ⟨_, rfl⟩
theorem Share_same (a b : T_api_Res) : ref04_Share a b = res_Share a b ∧ isS (res_Share a b) := by
  unfold ref04_Share res_Share
  simp only [ref04_Right_eq, res_Right_eq, Option.bind_some]
  cases ha : resOK a with
  | false => exact ⟨rfl, _, rfl⟩
  | true =>
    cases hb : resOK b with
    | false => exact ⟨rfl, _, rfl⟩
    | true =>
      obtain ⟨a1, a2, _⟩ := resOK_split ha
      obtain ⟨b1, b2, _⟩ := resOK_split hb
      obtain ⟨c1, x, c2⟩ := part_same a1 b1
      obtain ⟨d1, y, d2⟩ := part_same a2 b2
      simp only [Bool.not_true, Bool.false_eq_true, if_false, Option.bind_some]
      rw [c1, d1, c2, d2]
      exact ⟨rfl, _, rfl⟩
theorem share_R (a b : T_api_Res) : ref04_Share a b = some (shareV a b) := by rw [(Share_same a b).1, share_V]

theorem Unborne6_e (l : List T_api_Toleration) (ts : List T_api_Taint) {e : Int} (he : e ≠ 0) (h : ts.length ≤ 1000) (hl : l.length ≤ 1000) : ref06_Unborne l ts e = some (ts.filter fun x => decide (x.Effect = e) && !borneB l x) := by
  unfold ref06_Unborne
  have := idxFoldL (F := fun n s i => ref06_Unborne.l1 l ts e n s i) (l := ts) (fun acc x => if (decide (x.Effect = e) && !borneB l x) = true then acc ++ [x] else acc) id (fun k s => s.length ≤ k) (by omega) (fun n s k hk hI => by
    rw [ref06_Unborne.l1, if_pos (dlt hk), glk hk, wk1 (by omega)]
    have hin : ∀ b0 : Bool, ref06_Unborne.l2 l ts (k : Int) FU b0 0 = some (b0 || borneB l ts[k]) := by
      intro b0
      have := idxFoldL (F := fun n s i => ref06_Unborne.l2 l ts (k : Int) n s i) (l := l) (fun b t => b || bearB t ts[k]) id (fun _ _ => True) (by omega) (fun n s j hj _ => by
        refine ⟨?_, trivial⟩
        rw [ref06_Unborne.l2, if_pos (dlt hj), glk hj, glk hk, wk1 (by omega)]
        simp only [Option.bind_some, bear6_eq]
        cases s <;> rfl) (fun n s => by rw [ref06_Unborne.l2, if_neg dnl]; rfl) b0 trivial
      rw [show ref06_Unborne.l2 l ts (k : Int) FU b0 0 = _ from this]
      congr 1
      have key : ∀ (l : List T_api_Toleration) (b : Bool), l.foldl (fun b t => b || bearB t ts[k]) b = (b || borneB l ts[k]) := by
        intro l
        induction l with
        | nil => intro b; unfold borneB; simp
        | cons t l ih => intro b; rw [List.foldl_cons, ih]; unfold borneB; rw [List.any_cons, Bool.or_assoc]
      exact key l b0
    rw [if_pos (show (e != (0 : Int)) = true by simpa using he)]
    simp only [Option.bind_some, hin]
    have hne : (ts[k].Effect != e) = !decide (ts[k].Effect = e) := by by_cases q : ts[k].Effect = e <;> simp [q]
    rw [hne]
    cases h1 : decide (ts[k].Effect = e) <;> cases h2 : borneB l ts[k]
    · exact ⟨rfl, by show s.length ≤ k + 1; omega⟩
    · exact ⟨rfl, by show s.length ≤ k + 1; omega⟩
    · simp only [Bool.not_true, Bool.or_false, Bool.not_false, if_true, Bool.and_self]
      rw [ap_ok (by omega) (by simp; omega)]
      exact ⟨rfl, by simp; omega⟩
    · exact ⟨rfl, by show s.length ≤ k + 1; omega⟩) (fun n s => by rw [ref06_Unborne.l1, if_neg dnl]; rfl) [] (by simp)
  rw [show ref06_Unborne.l1 l ts e FU [] 0 = _ from this]
  simp only [Option.bind_some, id]
  congr 1
  have key : ∀ (ts acc : List T_api_Taint), ts.foldl (fun acc x => if (decide (x.Effect = e) && !borneB l x) = true then acc ++ [x] else acc) acc = acc ++ ts.filter fun x => decide (x.Effect = e) && !borneB l x := by
    intro ts
    induction ts with
    | nil => intro acc; simp
    | cons x ts ih =>
      intro acc
      rw [List.foldl_cons, ih, List.filter_cons]
      split <;> simp
  rw [key, List.nil_append]
theorem pref_R {m : T_api_Machine} {p : T_api_Pod} (hm : LM m) (hp : LP p) : ref10_Prefers m p = some (prefV m p) := by
  have := hm.taints.1
  have := hp.bears.1
  unfold ref10_Prefers ref06_Prefers prefV
  rw [Unborne6_e _ _ (by decide) (by omega) (by omega)]
  rfl

theorem best_R {ms : List T_api_Machine} {bs : List T_api_Bound} {p : T_api_Pod} (hl : ms.length ≤ 400) (hbl : bs.length ≤ 400) (hms : ∀ m, m ∈ ms → GM m) (hn : (ms.map (·.Name)).Nodup) (hb : ∀ b, b ∈ bs → GP b.Pod) (hp : GP p) :
    ref14_Best ms bs p = some (bestV ms bs p) := by
  unfold ref14_Best bestV bestL ref14_Among
  rw [Where12_eq hl hbl hms hn hb hp]
  simp only [Option.bind_some]
  show ((ref14_Among.l1 ms bs p ((okM ms bs p).map (·.Name)) FU ⟨#[]⟩ 0 0 0).bind fun best32 => some best32).bind (fun r2 => some r2) = _
  have hokl : (okM ms bs p).length ≤ ms.length := List.length_filter_le _ _
  have hokm : ∀ m, m ∈ okM ms bs p → m ∈ ms := fun m h => (List.mem_filter.1 h).1
  generalize okM ms bs p = ok at *
  have hol := othersS_len2 bs p.Name
  have key : ∀ (m k f : Nat) (b : ByteArray) (s : T_sched_score), ok.length - k ≤ m → m < f → k ≤ ok.length → ref14_Among.l1 ms bs p (ok.map (·.Name)) f b s.prefers s.share (k : Int) = some ((ok.drop k).foldl (bstep (scoreV bs p)) (b, s)).1 := by
    intro m
    induction m with
    | zero =>
      intro k f b s h1 h2 h3
      obtain ⟨f, rfl⟩ : ∃ q, f = q + 1 := ⟨f - 1, by omega⟩
      rw [ref14_Among.l1, if_neg (by simp; omega), List.drop_eq_nil_of_le (by omega)]; rfl
    | succ m ih =>
      intro k f b s h1 h2 h3
      obtain ⟨f, rfl⟩ : ∃ q, f = q + 1 := ⟨f - 1, by omega⟩
      by_cases hk : k < ok.length
      · have hxm := hokm ok[k] (List.getElem_mem hk)
        have hk' : k < (ok.map (·.Name)).length := by simpa using hk
        obtain ⟨r, h4, h5⟩ := Find9_eq ms ok[k].Name (by omega)
        rw [ref14_Among.l1, if_pos (dlt hk'), glk hk', wk1 (by omega)]
        simp only [Option.bind_some, List.getElem_map, h4, find_mem (by omega) hn hxm h5, pref_R (hms _ hxm).lm hp.lp, Others_ref bs p.Name (show bs.length ≤ 1000 by omega)]
        rw [Used9_eq _ _ (by omega)]
        simp only [Option.bind_some, share_R, seq_eq]
        rw [List.drop_eq_getElem_cons hk, List.foldl_cons]
        have hcond : ((decide (b = ⟨#[]⟩) || decide (prefV ok[k] p < s.prefers)) || ((prefV ok[k] p == s.prefers) && decide (shareV (usedS (onS (othersS bs p.Name) ok[k].Name)).1 ok[k].Has < s.share))) = (decide (b = ⟨#[]⟩) || lessB (scoreV bs p ok[k]) s) := by
          unfold lessB scoreV
          simp only
          by_cases q : prefV ok[k] p = s.prefers
          · rw [if_pos q, q]; simp
          · rw [if_neg q, show (prefV ok[k] p == s.prefers) = false by simpa using q]; simp
        rw [hcond]
        unfold bstep
        simp only
        cases (decide (b = ⟨#[]⟩) || lessB (scoreV bs p ok[k]) s) with
        | true =>
          simp only [if_true]
          exact ih (k + 1) f ok[k].Name (scoreV bs p ok[k]) (by omega) (by omega) (by omega)
        | false =>
          simp only [Bool.false_eq_true, if_false]
          exact ih (k + 1) f b s (by omega) (by omega) (by omega)
      · rw [ref14_Among.l1, if_neg (by simp; omega), List.drop_eq_nil_of_le (by omega)]; rfl
  have := key ok.length 0 FU ⟨#[]⟩ ⟨0, 0⟩ (by omega) (by unfold FU; omega) (Nat.zero_le _)
  rw [List.drop_zero] at this
  rw [show ref14_Among.l1 ms bs p (ok.map (·.Name)) FU ⟨#[]⟩ 0 0 0 = _ from this]
  rfl

end Go.Proofs.YtbkdglcedgiogaaGreat.M

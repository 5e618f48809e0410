/-
  Printed by a program of this session out of the loaded functions: models and their proofs. Own text.
-/
import Derived.Test.YtbkdglcedgiogaaGreatPOp6
import Derived.Test.YtbkdglcedgiogaaGreatRXO
/- Plain law: OptionOnce. Own work. -/
namespace Go.Proofs.YtbkdglcedgiogaaGreat.M
open Go Go.Proofs Go.Proofs.YtbkdglcedgiogaaGreat.V
open Go.IntKind (i64)
set_option linter.unusedVariables false
set_option maxRecDepth 20000
set_option maxHeartbeats 4000000

theorem once_free {c : T_law20_Case} (hb : c.L.length ≤ 1000) : law20_OptionOnce.l1 c FU true 0 = some (c.L.all fun p => decide (p.Spread.length = 0)) := by
  have key : ∀ (m k f : Nat) (fr : Bool), c.L.length - k ≤ m → m < f → k ≤ c.L.length → law20_OptionOnce.l1 c f fr (k : Int) = some (fr && (c.L.drop k).all fun p => decide (p.Spread.length = 0)) := by
    intro m
    induction m with
    | zero =>
      intro k f fr h1 h2 h3
      obtain ⟨f, rfl⟩ : ∃ n', f = n' + 1 := ⟨f - 1, by omega⟩
      have : k = c.L.length := by omega
      subst this
      rw [law20_OptionOnce.l1, if_neg dnl, List.drop_eq_nil_of_le (Nat.le_refl _)]; simp
    | succ m ih =>
      intro k f fr h1 h2 h3
      obtain ⟨f, rfl⟩ : ∃ n', f = n' + 1 := ⟨f - 1, by omega⟩
      by_cases hk : k < c.L.length
      · have e : ((c.L[k].Spread.length : Int) == 0) = decide (c.L[k].Spread.length = 0) := by rw [Bool.eq_iff_iff]; simp
        rw [law20_OptionOnce.l1, if_pos (dlt hk), glk hk, Option.bind_some, wk1 (by omega), e, List.drop_eq_getElem_cons hk, List.all_cons]
        cases fr with
        | false => rw [if_neg (by decide), Option.bind_some, ih (k + 1) f false (by omega) (by omega) (by omega)]; rfl
        | true => rw [if_pos rfl, Option.bind_some, ih (k + 1) f _ (by omega) (by omega) (by omega)]; rfl
      · have : k = c.L.length := by omega
        subst this
        rw [law20_OptionOnce.l1, if_neg dnl, List.drop_eq_nil_of_le (Nat.le_refl _)]; simp
  have := key c.L.length 0 FU true (by omega) (by unfold FU; omega) (by omega)
  simpa using this

/-- The group of an option is found. -/
theorem once_group {c : T_law20_Case} {r3 : List T_api_Option} {i k : Nat} (hi : i < r3.length) (hk : k < c.G.length) (hg : r3[i].Group = c.G[k].Name) (hd : ∀ j (h : j < k), (c.G[j]'(by omega)).Name ≠ c.G[k].Name) (hl : c.G.length ≤ 100) : ∀ (m a f : Nat), k - a ≤ m → m + 1 < f → a ≤ k → law20_OptionOnce.l3 c r3 (i : Int) f (a : Int) = some (k : Int) := by
  intro m
  induction m with
  | zero =>
    intro a f h1 h2 h3
    obtain ⟨f, rfl⟩ : ∃ n', f = n' + 1 := ⟨f - 1, by omega⟩
    have : a = k := by omega
    subst this
    rw [law20_OptionOnce.l3, if_pos (dlt hk), glk hk, Option.bind_some, glk hi, Option.bind_some, Option.bind_some, seq_eq, if_neg (by simp [hg])]
  | succ m ih =>
    intro a f h1 h2 h3
    obtain ⟨f, rfl⟩ : ∃ n', f = n' + 1 := ⟨f - 1, by omega⟩
    by_cases e : a = k
    · subst e
      rw [law20_OptionOnce.l3, if_pos (dlt hk), glk hk, Option.bind_some, glk hi, Option.bind_some, Option.bind_some, seq_eq, if_neg (by simp [hg])]
    · have ha : a < c.G.length := by omega
      rw [law20_OptionOnce.l3, if_pos (dlt ha), glk ha, Option.bind_some, glk hi, Option.bind_some, Option.bind_some, seq_eq, if_pos (by rw [hg]; simpa using hd a (by omega)), wk1 (by omega)]
      exact ih (a + 1) f (by omega) (by omega) (by omega)

/-- The next pod is found behind the last one. -/
theorem once_next {c : T_law20_Case} {r3 : List T_api_Option} {i k2 : Nat} (hi : i < r3.length) (hk2 : k2 < r3[i].Pods.length) {p : T_api_Pod} (hp : r3[i].Pods[k2] = p.Name) {rest : List T_api_Pod} (hl : c.L.length ≤ 1000) : ∀ (m st f : Nat), c.L.length - st ≤ m → m < f → st ≤ c.L.length → (p :: rest).Sublist (c.L.drop st) → ∃ n : Nat, law20_OptionOnce.l5 c r3 (i : Int) (k2 : Int) f (st : Int) = some (n : Int) ∧ n < c.L.length ∧ rest.Sublist (c.L.drop (n + 1)) := by
  intro m
  induction m with
  | zero =>
    intro st f h1 h2 h3 h4
    rw [List.drop_eq_nil_of_le (by omega)] at h4
    cases h4
  | succ m ih =>
    intro st f h1 h2 h3 h4
    obtain ⟨f, rfl⟩ : ∃ n', f = n' + 1 := ⟨f - 1, by omega⟩
    by_cases hs : st < c.L.length
    · rw [List.drop_eq_getElem_cons hs] at h4
      rw [law20_OptionOnce.l5, if_pos (dlt hs), glk hs, Option.bind_some, glk hi, Option.bind_some, glk hk2, Option.bind_some, Option.bind_some, seq_eq, hp]
      by_cases e : c.L[st].Name = p.Name
      · rw [if_neg (by simp [e])]
        refine ⟨st, rfl, hs, ?_⟩
        cases h4 with
        | cons _ q => exact (List.sublist_cons_self p rest).trans q
        | cons_cons _ q => exact q
      · rw [if_pos (by simpa using e), wk1 (by omega)]
        refine ih (st + 1) f (by omega) (by omega) (by omega) ?_
        cases h4 with
        | cons _ q => exact q
        | cons_cons _ q => exact absurd rfl e
    · rw [List.drop_eq_nil_of_le (by omega)] at h4
      cases h4

theorem once_hope {r3 : List T_api_Option} {r4 : List ByteArray} {fr : Bool} {i k2 : Nat} (hi : i < r3.length) (hk2 : k2 < r3[i].Pods.length) (hl : r4.length ≤ 1000) (h : fr = true → ∀ x, x ∈ r4 → x ≠ r3[i].Pods[k2]) : law20_OptionOnce.l6 r3 r4 fr (i : Int) (k2 : Int) FU 0 = some (Out.go ()) := by
  rcases loopI (F := fun n j => law20_OptionOnce.l6 r3 r4 fr (i : Int) (k2 : Int) n j) (Q := fun r => False) (S := fun k => True) (len := r4.length) (by omega) (fun n k hk => by
      right
      rw [law20_OptionOnce.l6, if_pos (dlt hk), wk1 (by omega)]
      cases fr with
      | false => exact ⟨rfl, trivial⟩
      | true =>
        rw [if_pos rfl, glk hk, Option.bind_some, glk hi, Option.bind_some, glk hk2, Option.bind_some, Option.bind_some, seq_eq, if_neg (by simpa using h rfl _ (List.getElem_mem hk))]
        exact ⟨rfl, trivial⟩) (fun n => by rw [law20_OptionOnce.l6, if_neg dnl]) with ⟨r, _, h2⟩ | ⟨h1, _⟩
  · exact h2.elim
  · exact h1

theorem once_pods {c : T_law20_Case} {r3 : List T_api_Option} {r4 : List ByteArray} {fr : Bool} {i : Nat} (hi : i < r3.length) {so : List T_api_Pod} (hso : r3[i].Pods = so.map (·.Name)) (hl : c.L.length ≤ 1000) (hl4 : r4.length ≤ 1000) (h : fr = true → ∀ p, p ∈ so → ∀ x, x ∈ r4 → x ≠ p.Name) : ∀ (m k2 f st : Nat), so.length - k2 ≤ m → m < f → k2 ≤ so.length → st ≤ c.L.length → so.length ≤ 1000 → (so.drop k2).Sublist (c.L.drop st) → law20_OptionOnce.l4 c r3 r4 fr (i : Int) f ((st : Int) - 1) (k2 : Int) = some (Out.go ()) := by
  have hpl : r3[i].Pods.length = so.length := by rw [hso, List.length_map]
  intro m
  induction m with
  | zero =>
    intro k2 f st h1 h2 h3 h4 h5 h6
    obtain ⟨f, rfl⟩ : ∃ n', f = n' + 1 := ⟨f - 1, by omega⟩
    rw [law20_OptionOnce.l4, glk hi, Option.bind_some, if_neg (by rw [hpl]; simp only [decide_eq_true_eq]; omega)]
  | succ m ih =>
    intro k2 f st h1 h2 h3 h4 h5 h6
    obtain ⟨f, rfl⟩ : ∃ n', f = n' + 1 := ⟨f - 1, by omega⟩
    by_cases hk : k2 < so.length
    · have hk2 : k2 < r3[i].Pods.length := by omega
      have hp : r3[i].Pods[k2] = so[k2].Name := by simp only [hso, List.getElem_map]
      rw [List.drop_eq_getElem_cons hk] at h6
      obtain ⟨n, g1, g2, g3⟩ := once_next hi hk2 hp hl c.L.length st FU (by omega) (by unfold FU; omega) h4 h6
      rw [law20_OptionOnce.l4, glk hi, Option.bind_some, if_pos (by rw [hpl]; simp only [decide_eq_true_eq]; omega), show (st : Int) - 1 + 1 = (st : Int) by omega, w_eq (by omega) (by omega), g1, Option.bind_some, if_neg (by simp only [beq_iff_eq]; omega), once_hope hi hk2 hl4 (fun hf x hx => by rw [hp]; exact h hf _ (List.getElem_mem hk) x hx)]
      simp only [Option.bind_some, Out.on]
      rw [wk1 (by omega), show (n : Int) = ((n + 1 : Nat) : Int) - 1 by omega]
      exact ih (k2 + 1) f (n + 1) (by omega) (by omega) (by omega) (by omega) h5 g3
    · rw [law20_OptionOnce.l4, glk hi, Option.bind_some, if_neg (by rw [hpl]; simp only [decide_eq_true_eq]; omega)]
end Go.Proofs.YtbkdglcedgiogaaGreat.M
/- Plain law: OptionOnce. Own work. -/
namespace Go.Proofs.YtbkdglcedgiogaaGreat.M
open Go Go.Proofs Go.Proofs.YtbkdglcedgiogaaGreat.V
open Go.IntKind (i64)
set_option linter.unusedVariables false
set_option maxRecDepth 20000
set_option maxHeartbeats 4000000

theorem find16_first {l : List T_api_Group} {name : ByteArray} (hl : l.length ≤ 1000) {k : Nat} (h : ref16_Find l name = some (k : Int)) : ∀ j (hj : j < l.length), j < k → l[j].Name ≠ name := by
  have key : ∀ (m i f : Nat), l.length - i ≤ m → m < f → i ≤ l.length → (∀ j (hj : j < l.length), j < i → l[j].Name ≠ name) → ref16_Find.l1 l name f (i : Int) = some (Out.go ()) ∨ ∃ q : Nat, ref16_Find.l1 l name f (i : Int) = some (Out.ret (q : Int)) ∧ ∀ j (hj : j < l.length), j < q → l[j].Name ≠ name := by
    intro m
    induction m with
    | zero =>
      intro i f h1 h2 h3 h4
      obtain ⟨f, rfl⟩ : ∃ n', f = n' + 1 := ⟨f - 1, by omega⟩
      have : i = l.length := by omega
      subst this
      rw [ref16_Find.l1, if_neg dnl]; exact .inl rfl
    | succ m ih =>
      intro i f h1 h2 h3 h4
      obtain ⟨f, rfl⟩ : ∃ n', f = n' + 1 := ⟨f - 1, by omega⟩
      by_cases hi : i < l.length
      · rw [ref16_Find.l1, if_pos (dlt hi), glk hi, wk1 (by omega), Option.bind_some, seq_eq]
        by_cases e : l[i].Name = name
        · rw [if_pos (by simpa using e)]; exact .inr ⟨i, rfl, h4⟩
        · rw [if_neg (by simpa using e)]
          refine ih (i + 1) f (by omega) (by omega) (by omega) fun j hj hji => ?_
          by_cases q : j = i
          · subst q; exact e
          · exact h4 j hj (by omega)
      · have : i = l.length := by omega
        subst this
        rw [ref16_Find.l1, if_neg dnl]; exact .inl rfl
  unfold ref16_Find at h
  rcases key l.length 0 FU (by omega) (by unfold FU; omega) (by omega) (fun j _ hj => by omega) with q | ⟨q, q1, q2⟩
  · rw [show ((0 : Nat) : Int) = 0 from rfl] at q
    rw [q] at h
    simp only [Option.bind_some, Out.on, Option.some.injEq] at h
    omega
  · rw [show ((0 : Nat) : Int) = 0 from rfl] at q1
    rw [q1] at h
    simp only [Option.bind_some, Out.on, Option.some.injEq] at h
    have : q = k := by omega
    subst this
    exact q2
theorem names16 {l : List T_api_Group} (hl : l.length ≤ 20) (h : ∀ k (h : k < l.length), l[k].Name.size ≤ 300 ∧ LM l[k].Like) (hr : ref16_Right l = some true) : ∀ j k (hj : j < l.length) (hk : k < l.length), j < k → l[j].Name ≠ l[k].Name := by
  unfold ref16_Right at hr
  split at hr
  · cases hr
  rcases loopI (F := fun n i => ref16_Right.l1 l n i) (Q := fun r => r = false) (S := fun k => ∀ (hk : k < l.length) j (hj : j < l.length), j < k → l[j].Name ≠ l[k].Name) (len := l.length) (by omega) (fun n k hk => by
      rw [ref16_Right.l1, if_pos (dlt hk), glk hk, wk1 (by omega)]
      simp only [Option.bind_some]
      obtain ⟨b, hb, hg⟩ := RGroup (h k hk).1 (h k hk).2
      rw [hb]
      cases b with
      | false => exact .inl ⟨false, rfl, rfl⟩
      | true =>
        simp only [Option.bind_some, Bool.not_true, Bool.false_eq_true, if_false]
        by_cases hs : (l[k].Name.size : Int) > 48
        · rw [decide_eq_true hs]; exact .inl ⟨false, rfl, rfl⟩
        · rw [decide_eq_false hs]
          simp only [Bool.false_eq_true, if_false]
          obtain ⟨r, hr⟩ := Find16 l l[k].Name (by omega)
          rw [hr]
          simp only [Option.bind_some]
          by_cases e : r = (k : Int)
          · rw [e] at hr ⊢
            rw [show ((k : Int) != (k : Int)) = false by simp]
            exact .inr ⟨rfl, fun _ j hj hjk => find16_first (by omega) hr j hj hjk⟩
          · rw [show (r != (k : Int)) = true by simp [e]]
            exact .inl ⟨false, rfl, rfl⟩) (fun n => by rw [ref16_Right.l1, if_neg dnl]) with ⟨r, g1, g2⟩ | ⟨g1, g2⟩
  · rw [g1, g2] at hr; cases hr
  · exact fun j k hj hk hjk => g2 k hk hk j hj hjk

theorem once_loop {c : T_law20_Case} {r4 : List ByteArray} {fr : Bool} (h : RO c.Ms c.Bs c.L c.G) (hnm : ∀ j k (hj : j < c.G.length) (hk : k < c.G.length), j < k → c.G[j].Name ≠ c.G[k].Name) (hl : c.L.length ≤ 100) (hl4 : r4.length ≤ 1000)
    (hh : fr = true → ∀ p, p ∈ c.L → hopeB c.Ms c.Bs c.G p = true → ∀ x, x ∈ r4 → x ≠ p.Name) (hfree : fr = true → ∀ p, p ∈ c.L → p.Spread.length = 0) (r3 : List T_api_Option) (hr3 : r3.length ≤ 100) :
    ∀ (m k a i f : Nat), c.G.length - k ≤ m → m + 1 < f → k ≤ c.G.length → a ≤ k → i ≤ r3.length → r3.drop i = allV c.Ms c.Bs c.L c.Rooms (c.G.drop k) k → law20_OptionOnce.l2 c r3 r4 fr f (a : Int) (i : Int) = some (Out.go ()) := by
  have hng := h.ng
  have fin : ∀ (f a i : Nat), i ≤ r3.length → r3.drop i = [] → law20_OptionOnce.l2 c r3 r4 fr (f + 1) (a : Int) (i : Int) = some (Out.go ()) := fun f a i h1 h2 => by
    have : r3.length ≤ i := by simpa using h2
    rw [law20_OptionOnce.l2, if_neg (by simp only [decide_eq_true_eq]; omega)]
  intro m
  induction m with
  | zero =>
    intro k a i f h1 h2 h3 h4 h5 h6
    obtain ⟨f, rfl⟩ : ∃ n', f = n' + 1 := ⟨f - 1, by omega⟩
    rw [List.drop_eq_nil_of_le (by omega : c.G.length ≤ k), allV] at h6
    exact fin f a i h5 h6
  | succ m ih =>
    intro k a i f h1 h2 h3 h4 h5 h6
    by_cases hk : k < c.G.length
    · rw [List.drop_eq_getElem_cons hk, allV] at h6
      split at h6
      · rename_i hroom
        split at h6
        · rename_i hof
          obtain ⟨f, rfl⟩ : ∃ n', f = n' + 1 := ⟨f - 1, by omega⟩
          have hi : i < r3.length := by
            have := congrArg List.length h6; rw [List.length_drop, List.length_cons] at this; omega
          have hd := List.drop_eq_getElem_cons hi
          rw [h6] at hd
          injection hd with ho hd
          have hg := List.getElem_mem hk
          obtain ⟨so, w1, w2, w3, w4, w5, w6, w7⟩ := way h hg c.Rooms[k] hof
          rw [ho] at w2 w3 w4 w5 w6
          have hsl := w1.length_le
          have hpl : r3[i].Pods.length = so.length := by rw [w2, List.length_map]
          rw [law20_OptionOnce.l2, if_pos (dlt hi), once_group hi hk w3 (fun j hj => hnm j k (by omega) hk hj) (by omega) k a FU (by omega) (by unfold FU; omega) h4, Option.bind_some]
          rw [if_neg (by simp only [Bool.or_eq_true, beq_iff_eq, decide_eq_true_eq]; omega), glk hi, Option.bind_some, Option.bind_some, decide_eq_false (by omega : ¬ r3[i].Count < 1)]
          try simp only [Bool.false_eq_true, if_false]
          rw [glk hroom]
          simp only [Option.bind_some]
          rw [decide_eq_false (by omega : ¬ r3[i].Count > c.Rooms[k])]
          try simp only [Bool.false_eq_true, if_false]
          rw [decide_eq_false (by omega : ¬ (r3[i].Pods.length : Int) < r3[i].Count)]
          try simp only [Bool.false_eq_true, if_false]
          have hp := once_pods (c := c) (r3 := r3) (r4 := r4) (fr := fr) hi w2 (by omega) hl4 (fun hf p hp x hx => hh hf p (w1.subset hp) (by
              unfold hopeB
              exact List.any_eq_true.2 ⟨c.G[k], hg, w7 p hp (hfree hf p (w1.subset hp))⟩) x hx) so.length 0 FU 0 (by omega) (by unfold FU; omega) (by omega) (by omega) (by omega) (by simpa using w1)
          rw [show (((0 : Nat) : Int) - 1) = -1 from rfl, show ((0 : Nat) : Int) = 0 from rfl] at hp
          rw [hp, Option.bind_some]
          simp only [Out.on]
          rw [wk1 (by omega)]
          exact ih (k + 1) k (i + 1) f (by omega) (by omega) (by omega) (by omega) (by omega) hd.symm
        · exact ih (k + 1) a i f (by omega) (by omega) (by omega) (by omega) h5 h6
      · obtain ⟨f, rfl⟩ : ∃ n', f = n' + 1 := ⟨f - 1, by omega⟩
        exact fin f a i h5 h6
    · obtain ⟨f, rfl⟩ : ∃ n', f = n' + 1 := ⟨f - 1, by omega⟩
      rw [List.drop_eq_nil_of_le (by omega : c.G.length ≤ k), allV] at h6
      exact fin f a i h5 h6

theorem OptionOnce_true {a p q : Prop} (c : T_law20_Case) (_ : a) (_ : p) (hB : c.Bs.length ≤ 1048576) (hL : c.L.length ≤ 1048576) (_ : q) {q2 : Prop} (_ : q2) : law20_OptionOnce c = some true := by
  unfold law20_OptionOnce
  rw [known20_true]
  obtain ⟨b, hb, hr⟩ := Right20 c.Ms c.Bs c.L c.G (by omega)
  rw [hb]
  cases b with
  | false => rfl
  | true =>
    obtain ⟨h1, h2, k, hre⟩ := hr rfl
    have hlen := hre.ly.nb
    have hpl : (pendA c.L).length = c.L.length := by simp [pendA]
    rw [List.length_append, hpl] at hlen
    have hro : RO c.Ms c.Bs c.L c.G := ⟨h1, h2, fun g hg => hre.like' (h2 g hg).lm (h2 g hg).rm⟩
    have hone : ∀ p, p ∈ c.L → RO c.Ms c.Bs [p] c.G := fun p hp => ⟨h1, h2, fun g hg => (hre.one hp).like' (h2 g hg).lm (h2 g hg).rm⟩
    have hnames : ∀ j k (hj : j < c.G.length) (hk : k < c.G.length), j < k → c.G[j].Name ≠ c.G[k].Name := by
      unfold ref20_Right at hb
      obtain ⟨b1, hb1, l1⟩ := Light16 c.G
      rw [hb1] at hb
      cases b1 with
      | false => cases hb
      | true =>
        obtain ⟨l1, l2⟩ := l1 rfl
        obtain ⟨b2, hb2, _⟩ := Right16 l1 l2
        simp only [Option.bind_some, Bool.not_true, Bool.false_eq_true, if_false] at hb
        rw [hb2] at hb
        cases b2 with
        | false => cases hb
        | true => exact names16 l1 l2 hb2
    simp only [Option.bind_some, Bool.not_true, Bool.false_eq_true, if_false]
    have hal := allV_len c.Ms c.Bs c.L c.Rooms c.G 0
    have hhl : (hopelessV c.Ms c.Bs c.L c.G).length ≤ 1000 := by
      unfold hopelessV; rw [List.length_map]; have := List.length_filter_le (fun p => !hopeB c.Ms c.Bs c.G p) c.L; omega
    have hlnd : (c.L.map (·.Name)).Nodup := (hre.ei (List.Perm.refl _)).nd
    rw [(All20_same hro c.Rooms).1, Hopeless_P (by omega) h1 hone, Option.bind_some, Option.bind_some, once_free (by omega), Option.bind_some]
    have := once_loop (c := c) (r4 := hopelessV c.Ms c.Bs c.L c.G) (fr := c.L.all fun p => decide (p.Spread.length = 0)) hro hnames (by omega) hhl (fun _ p hp hope x hx e => by
        unfold hopelessV at hx
        obtain ⟨q, hq, rfl⟩ := List.mem_map.1 hx
        obtain ⟨hq1, hq2⟩ := List.mem_filter.1 hq
        have : q = p := by
          obtain ⟨i, hi, rfl⟩ := List.getElem_of_mem hq1
          obtain ⟨j, hj, rfl⟩ := List.getElem_of_mem hp
          have ne : ∀ a b (ha : a < c.L.length) (hb : b < c.L.length), a < b → c.L[a].Name ≠ c.L[b].Name := fun a b ha hb hab q =>
            (List.pairwise_iff_getElem.1 hlnd) a b (by simpa using ha) (by simpa using hb) hab (by rw [List.getElem_map, List.getElem_map]; exact q)
          rcases Nat.lt_trichotomy i j with q | q | q
          · exact absurd e (ne i j hi hj q)
          · subst q; rfl
          · exact absurd e.symm (ne j i hj hi q)
        rw [this, hope] at hq2
        cases hq2) (fun hf p hp => by simpa using (List.all_eq_true.1 hf) p hp) (allV c.Ms c.Bs c.L c.Rooms c.G 0) (by omega) c.G.length 0 0 0 FU (by omega) (by unfold FU; omega) (by omega) (by omega) (by omega) (by simp)
    rw [show ((0 : Nat) : Int) = 0 from rfl] at this
    rw [this]
    rfl
end Go.Proofs.YtbkdglcedgiogaaGreat.M

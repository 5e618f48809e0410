/-
  Plain laws of trees: what is wrong of nodes: as the document says. Own text.
-/
import Derived.Test.YtbnohlgchjcjhaaPTree7
namespace Go.Proofs.Ytbnohlgchjcjhaa.M
open Go Go.Proofs Go.Proofs.Ytbnohlgchjcjhaa.V
set_option linter.unusedVariables false

theorem wf_of : ∀ (f : Fo), (∀ x, x ∈ f.flat → fitP x) → f.wf
  | .nil, _ => trivial
  | .nd k s a c r, h => by
    have h0 := h ⟨k, s, (c.cnt : Int), a⟩ (by rw [Fo.flat]; simp)
    refine ⟨?_, wf_of c (fun x hx => h x (by rw [Fo.flat]; simp [hx])), wf_of r (fun x hx => h x (by rw [Fo.flat]; simp [hx]))⟩
    obtain ⟨_, q⟩ := h0
    rcases q with ⟨q1, q2⟩ | ⟨q1, q2, _⟩ | ⟨q1, q2, _⟩
    · exact .inl ⟨q1, q2⟩
    · exact .inr ⟨.inl q1, cnt_zero (by simp only at q2; omega)⟩
    · exact .inr ⟨.inr q1, cnt_zero (by simp only at q2; omega)⟩

theorem wordL_GT {x : List Int} (h : wordL x = true) : GT (3, x) := by
  unfold wordL at h
  simp only [Bool.and_eq_true, beq_iff_eq, decide_eq_true_eq, Bool.not_eq_true'] at h
  obtain ⟨⟨⟨h1, h2⟩, h3⟩, h4⟩ := h
  refine .word x ?_ (fun e => by subst e; simp [headL_nil] at h3) h4
  rw [← h1, ← h2]
theorem GT_wordL {x : List Int} (h : GT (3, x)) : wordL x = true := by
  cases h with
  | word _ h1 h2 h3 =>
    unfold wordL
    have : 0 < x.length := List.length_pos_iff.2 h2
    simp [h1, h3, this]
theorem GT_good {x : List Int} (h : GT (4, x)) : good x := by
  cases h with
  | text _ h => exact h

theorem toks_GT : ∀ (f : Fo), (∀ x, x ∈ f.flat → fitP x) → ∀ t, t ∈ f.toks → GT t
  | .nil, _, t, h => by cases h
  | .nd k s a c r, h, t, ht => by
    have h0 := h ⟨k, s, (c.cnt : Int), a⟩ (by rw [Fo.flat]; simp)
    have ic := toks_GT c (fun x hx => h x (by rw [Fo.flat]; simp [hx]))
    have ir := toks_GT r (fun x hx => h x (by rw [Fo.flat]; simp [hx]))
    rw [Fo.toks] at ht
    obtain ⟨_, q⟩ := h0
    simp only at q
    split at ht
    · rcases List.mem_cons.1 ht with rfl | ht
      · exact .opn
      · rcases List.mem_append.1 ht with ht | ht
        · exact ic t ht
        · rcases List.mem_cons.1 ht with rfl | ht
          · exact .cls
          · exact ir t ht
    · rename_i h5
      rcases List.mem_cons.1 ht with rfl | ht
      · rcases q with ⟨q1, q2⟩ | ⟨q1, q2, q3⟩ | ⟨q1, q2, q3⟩
        · exact absurd q1 h5
        · subst q1; exact wordL_GT q3
        · subst q1; exact .text _ q3
      · exact ir t ht

/-- Nodes that were read have what their kinds ask. -/
theorem fit_of : ∀ (f : Fo), f.wf → (∀ t, t ∈ f.toks → GT t) → f.atP (fun a => 0 ≤ a) → ∀ x, x ∈ f.flat → fitP x
  | .nil, _, _, _, x, h => by cases h
  | .nd k s a c r, hw, hg, ha, x, hx => by
    rw [Fo.toks] at hg
    rw [Fo.flat] at hx
    have hgr : ∀ t, t ∈ r.toks → GT t := fun t ht => hg t (by split <;> simp [ht])
    have hgc : ∀ t, t ∈ c.toks → GT t := fun t ht => by
      rcases hw.1 with ⟨h5, _⟩ | ⟨_, hc⟩
      · exact hg t (by rw [if_pos h5]; simp [ht])
      · subst hc; cases ht
    rcases List.mem_cons.1 hx with rfl | hx
    · refine ⟨ha.1, ?_⟩
      rcases hw.1 with ⟨h5, hs⟩ | ⟨h34, hc⟩
      · exact .inl ⟨h5, hs⟩
      · subst hc
        have h5 : ¬ k = 5 := by omega
        rw [if_neg h5] at hg
        have h0 := hg (k, bytesL s) (by simp)
        rcases h34 with rfl | rfl
        · exact .inr (.inl ⟨rfl, rfl, GT_wordL h0⟩)
        · exact .inr (.inr ⟨rfl, rfl, GT_good h0⟩)
    · rcases List.mem_append.1 hx with hx | hx
      · exact fit_of c hw.2.1 hgc ha.2.1 x hx
      · exact fit_of r hw.2.2 hgr ha.2.2 x hx

theorem dep_le : ∀ (f : Fo), f.dep ≤ f.flat.length
  | .nil => Nat.le_refl _
  | .nd k s a c r => by
    have := dep_le c
    have := dep_le r
    rw [Fo.dep, Fo.flat, List.length_cons, List.length_append]
    split <;> omega

/-- How deep trees are, by the document. -/
theorem deep_l1 : ∀ (f : Fo), f.wf → ∀ (pre post l : List T_api_Node) (n m : Nat) (A : List Int) (n0 : Nat), l = pre ++ (f.flat ++ post) → l.length ≤ 1000000 → f.flat.length < n → f.cnt < m → A.length + f.cnt ≤ 1000000 →
    ref02_deep.l1 (ref02_deep n) l (A ++ posF pre.length f) m (n0 : Int) (A.length : Int) = some ((max n0 f.dep : Nat) : Int)
  | .nil, _, pre, post, l, n, m, A, n0, hl, h1, h2, h3, h4 => by
    obtain ⟨m, rfl⟩ : ∃ q, m = q + 1 := ⟨m - 1, by omega⟩
    rw [ref02_deep.l1, if_neg (by simp [posF])]
    simp [Fo.dep]
  | .nd k s a c r, hw, pre, post, l, n, m, A, n0, hl, h1, h2, h3, h4 => by
    obtain ⟨m, rfl⟩ : ∃ q, m = q + 1 := ⟨m - 1, by omega⟩
    have hfl : (Fo.nd k s a c r).flat.length = c.flat.length + r.flat.length + 1 := by simp [Fo.flat]
    rw [hfl] at h2
    rw [Fo.cnt] at h3 h4
    obtain ⟨n, rfl⟩ : ∃ q, n = q + 1 := ⟨n - 1, by omega⟩
    have e1 : l = pre ++ ((Fo.nd k s a c .nil).flat ++ (r.flat ++ post)) := by rw [hl]; simp [Fo.flat]
    have hpl : pre.length < l.length := by rw [hl]; simp [Fo.flat]
    have hget : l[pre.length] = ⟨k, s, (c.cnt : Int), a⟩ := by simp [hl, Fo.flat]
    have hone : ref02_deep (n + 1) l (pre.length : Int) = some (((if k = 5 then c.dep + 1 else 0 : Nat)) : Int) := by
      rw [ref02_deep, glk hpl, hget]
      simp only [Option.bind_some]
      by_cases h5 : k = 5
      · subst h5
        rw [if_neg (by simp), if_pos rfl, rKids_flat e1 h1]
        simp only [Option.bind_some]
        have e2 : l = (pre ++ [⟨5, s, (c.cnt : Int), a⟩]) ++ (c.flat ++ (r.flat ++ post)) := by rw [hl]; simp [Fo.flat]
        have hp1 : (pre ++ [(⟨5, s, (c.cnt : Int), a⟩ : T_api_Node)]).length = pre.length + 1 := by simp
        have hcc := Fo.cnt_flat c
        have hdl := dep_le c
        have hll : c.flat.length ≤ l.length := by rw [e2]; simp; omega
        have := deep_l1 c hw.2.1 _ _ l n FU [] 0 e2 h1 (by omega) (by unfold FU; omega) (by simp; omega)
        rw [hp1, List.nil_append] at this
        rw [show ref02_deep.l1 (ref02_deep n) l (posF (pre.length + 1) c) FU 0 0 = _ from this]
        simp only [Option.bind_some]
        rw [w_eq (by omega) (by omega)]
        first
          | rfl
          | (congr 1; omega)
      · rw [if_pos (by simpa using h5), if_neg h5]; rfl
    have hA : A.length < (A ++ posF pre.length (Fo.nd k s a c r)).length := by rw [posF]; simp
    rw [ref02_deep.l1, if_pos (dlt hA), glk hA]
    have hAg : (A ++ posF pre.length (Fo.nd k s a c r))[A.length] = (pre.length : Int) := by simp [posF]
    rw [hAg]
    simp only [Option.bind_some]
    rw [hone]
    simp only [Option.bind_some]
    rw [wk1 (by omega)]
    have e3 : l = (pre ++ (⟨k, s, (c.cnt : Int), a⟩ :: c.flat)) ++ (r.flat ++ post) := by rw [hl]; simp [Fo.flat]
    have hp2 : (pre ++ ((⟨k, s, (c.cnt : Int), a⟩ : T_api_Node) :: c.flat)).length = pre.length + 1 + c.flat.length := by simp; omega
    have := deep_l1 r hw.2.2 _ post l (n + 1) m (A ++ [(pre.length : Int)]) (max n0 (if k = 5 then c.dep + 1 else 0)) e3 h1 (by omega) (by omega) (by simp; omega)
    rw [hp2, List.append_assoc, List.singleton_append] at this
    rw [posF, show (max (n0 : Int) (((if k = 5 then c.dep + 1 else 0 : Nat)) : Int)) = ((max n0 (if k = 5 then c.dep + 1 else 0) : Nat) : Int) by omega]
    rw [show (A ++ [(pre.length : Int)]).length = A.length + 1 by simp] at this
    rw [this]
    have hcd : k ≠ 5 → c.dep = 0 := fun h5 => by
      rcases hw.1 with ⟨h, _⟩ | ⟨_, hc⟩
      · exact absurd h h5
      · subst hc; rfl
    congr 2
    rw [Fo.dep]
    by_cases h5 : k = 5
    · rw [if_pos h5, if_pos h5]; omega
    · rw [if_neg h5, if_neg h5]
      have := hcd h5
      omega

theorem deep_one {k : Int} {s : ByteArray} {a : Int} {c r : Fo} (hw : (Fo.nd k s a c r).wf) {pre post l : List T_api_Node} (hl : l = pre ++ ((Fo.nd k s a c r).flat ++ post)) (h1 : l.length ≤ 1000000) :
    ref02_deep FU l (pre.length : Int) = some ((Fo.nd k s a c .nil).dep : Int) := by
  have e1 : l = pre ++ ((Fo.nd k s a c .nil).flat ++ (r.flat ++ post)) := by rw [hl]; simp [Fo.flat]
  have hll : (Fo.nd k s a c .nil).flat.length ≤ l.length := by rw [e1]; simp only [List.length_append]; omega
  have := deep_l1 (.nd k s a c .nil) ⟨hw.1, hw.2.1, trivial⟩ pre (r.flat ++ post) l FU 2 [] 0 e1 h1 (by unfold FU; omega) (by simp [Fo.cnt]) (by simp [Fo.cnt])
  rw [List.nil_append, ref02_deep.l1, if_pos (by simp [posF])] at this
  have hg : V.gl (posF pre.length (Fo.nd k s a c .nil)) ((List.length ([] : List Int) : Nat) : Int) = some (pre.length : Int) := by
    rw [glk (by simp [posF])]; simp [posF]
  rw [hg] at this
  simp only [Option.bind_some] at this
  cases hd : ref02_deep FU l (pre.length : Int) with
  | none => rw [hd] at this; cases this
  | some q =>
    rw [hd] at this
    simp only [Option.bind_some] at this
    rw [show IntKind.i64.wrap (((List.length ([] : List Int) : Nat) : Int) + 1) = 1 by decide, ref02_deep.l1, if_neg (by simp [posF])] at this
    have h2 := Option.some.inj this
    -- it is not below 0
    have hq0 : 0 ≤ q := by
      have hpl : pre.length < l.length := by rw [hl]; simp [Fo.flat]
      have hget : l[pre.length] = ⟨k, s, (c.cnt : Int), a⟩ := by simp [hl, Fo.flat]
      obtain ⟨N, hN⟩ : ∃ N, FU = N + 1 := ⟨FU - 1, by unfold FU; omega⟩
      have hNl : l.length < N := by unfold FU at hN; omega
      rw [hN, ref02_deep, glk hpl, hget] at hd
      simp only [Option.bind_some] at hd
      by_cases h5 : k = 5
      · subst h5
        rw [if_neg (by simp), rKids_flat e1 h1] at hd
        simp only [Option.bind_some] at hd
        have e2 : l = (pre ++ [⟨5, s, (c.cnt : Int), a⟩]) ++ (c.flat ++ (r.flat ++ post)) := by rw [hl]; simp [Fo.flat]
        have hp1 : (pre ++ [(⟨5, s, (c.cnt : Int), a⟩ : T_api_Node)]).length = pre.length + 1 := by simp
        have hcc := Fo.cnt_flat c
        have hdl := dep_le c
        have hll : c.flat.length ≤ l.length := by rw [e2]; simp; omega
        have := deep_l1 c hw.2.1 _ _ l N FU [] 0 e2 h1 (by omega) (by unfold FU; omega) (by simp; omega)
        rw [hp1, List.nil_append] at this
        rw [show ref02_deep.l1 (ref02_deep N) l (posF (pre.length + 1) c) FU 0 0 = _ from this] at hd
        simp only [Option.bind_some] at hd
        rw [w_eq (by omega) (by omega)] at hd
        have := Option.some.inj hd
        omega
      · rw [if_pos (by simpa using h5)] at hd
        have := Option.some.inj hd
        omega
    congr 1
    omega

theorem rcheck_l2 : ∀ (f : Fo), f.wf → ∀ (pre post l : List T_api_Node) (m : Nat) (A : List Int), l = pre ++ (f.flat ++ post) → l.length ≤ 1000000 → f.cnt < m → A.length + f.cnt ≤ 1000000 →
    ref02_Check.l2 l (A ++ posF pre.length f) m (A.length : Int) = some (if f.dep ≤ 20 then Out.go () else Out.ret 12)
  | .nil, _, pre, post, l, m, A, hl, h1, h3, h4 => by
    obtain ⟨m, rfl⟩ : ∃ q, m = q + 1 := ⟨m - 1, by omega⟩
    rw [ref02_Check.l2, if_neg (by simp [posF]), if_pos (by simp [Fo.dep])]
  | .nd k s a c r, hw, pre, post, l, m, A, hl, h1, h3, h4 => by
    obtain ⟨m, rfl⟩ : ∃ q, m = q + 1 := ⟨m - 1, by omega⟩
    rw [Fo.cnt] at h3 h4
    have hA : A.length < (A ++ posF pre.length (Fo.nd k s a c r)).length := by rw [posF]; simp
    have hAg : (A ++ posF pre.length (Fo.nd k s a c r))[A.length] = (pre.length : Int) := by simp [posF]
    rw [ref02_Check.l2, if_pos (dlt hA), glk hA, hAg]
    simp only [Option.bind_some]
    rw [deep_one hw hl h1]
    simp only [Option.bind_some]
    have hdd : (Fo.nd k s a c r).dep = max (Fo.nd k s a c .nil).dep r.dep := by
      rw [Fo.dep, Fo.dep, Fo.dep]; omega
    by_cases hd : (Fo.nd k s a c .nil).dep ≤ 20
    · rw [if_neg (by rw [decide_eq_true_eq]; omega), wk1 (by omega)]
      have e3 : l = (pre ++ (⟨k, s, (c.cnt : Int), a⟩ :: c.flat)) ++ (r.flat ++ post) := by rw [hl]; simp [Fo.flat]
      have hp2 : (pre ++ ((⟨k, s, (c.cnt : Int), a⟩ : T_api_Node) :: c.flat)).length = pre.length + 1 + c.flat.length := by simp; omega
      have := rcheck_l2 r hw.2.2 _ post l m (A ++ [(pre.length : Int)]) e3 h1 (by omega) (by simp; omega)
      rw [hp2, List.append_assoc, List.singleton_append, show (A ++ [(pre.length : Int)]).length = A.length + 1 by simp] at this
      rw [posF, this]
      by_cases hr : r.dep ≤ 20
      · rw [if_pos hr, if_pos (by omega)]
      · rw [if_neg hr, if_neg (by omega)]
    · rw [if_pos (by rw [decide_eq_true_eq]; omega), if_neg (by omega)]

open Classical in
theorem chk_l1 (l : List T_api_Node) (h : ∀ x, x ∈ l → x.Text.size ≤ 30000) : tree_Check.l1 l 0 = some (if ∀ x, x ∈ l → fitP x then Out.go () else Out.ret 12) := by
  have := rowAll (G := fun l k => tree_Check.l1 l k) (l := l) (r0 := (12 : Int)) (fun k => if hk : k < l.length then decide (fitP l[k]) else true) (fun k hk => by
    obtain ⟨b, b1, b2, b3⟩ := fits_ok l[k] (h _ (List.getElem_mem hk))
    rw [tree_Check.l1, b1, dif_pos hk]
    simp only [Option.bind_some]
    cases b with
    | true => rw [if_neg (by simp), if_pos (by simpa using b3.1 rfl)]
    | false => rw [if_pos (show (!false) = true from rfl), if_neg (by simpa using fun q => absurd (b3.2 q) (by simp))]) (fun k => rfl)
  rw [this]
  congr 1
  by_cases hall : ∀ x, x ∈ l → fitP x
  · rw [if_pos hall, if_pos]
    refine allN_iff.2 fun k hk => ?_
    rw [dif_pos hk]; exact decide_eq_true (hall _ (List.getElem_mem hk))
  · rw [if_neg hall, if_neg]
    intro q
    apply hall
    intro x hx
    obtain ⟨k, hk, rfl⟩ := List.getElem_of_mem hx
    have := allN_iff.1 q k hk
    rw [dif_pos hk] at this
    exact of_decide_eq_true this

open Classical in
theorem rchk_l1 (l : List T_api_Node) (hl : l.length ≤ 1000000) (h : ∀ x, x ∈ l → x.Text.size ≤ 30000) : ref02_Check.l1 l FU 0 = some (if ∀ x, x ∈ l → fitP x then Out.go () else Out.ret 12) := by
  have := idxAll (F := fun n i => ref02_Check.l1 l n i) (len := l.length) (r0 := (12 : Int)) (fun k => if hk : k < l.length then decide (fitP l[k]) else true) (by omega) (fun n k hk => by
    obtain ⟨b, b1, b2, b3⟩ := fits_ok l[k] (h _ (List.getElem_mem hk))
    rw [ref02_Check.l1, if_pos (dlt hk), glk hk]
    simp only [Option.bind_some]
    rw [b2, dif_pos hk, wk1 (by omega)]
    simp only [Option.bind_some]
    cases b with
    | true => rw [if_neg (by simp), if_pos (by simpa using b3.1 rfl)]
    | false => rw [if_pos (show (!false) = true from rfl), if_neg (by simpa using fun q => absurd (b3.2 q) (by simp))]) (fun n => by rw [ref02_Check.l1, if_neg dnl])
  rw [show ref02_Check.l1 l FU 0 = _ from this]
  congr 1
  by_cases hall : ∀ x, x ∈ l → fitP x
  · rw [if_pos hall, if_pos]
    refine allN_iff.2 fun k hk => ?_
    rw [dif_pos hk]; exact decide_eq_true (hall _ (List.getElem_mem hk))
  · rw [if_neg hall, if_neg]
    intro q
    apply hall
    intro x hx
    obtain ⟨k, hk, rfl⟩ := List.getElem_of_mem hx
    have := allN_iff.1 q k hk
    rw [dif_pos hk] at this
    exact of_decide_eq_true this

/-- What is wrong of nodes. -/
theorem Check_dec (l : List T_api_Node) (hl : l.length ≤ 4000) (h : ∀ x, x ∈ l → x.Text.size ≤ 30000) :
    (∃ f : Fo, l = f.flat ∧ f.wf ∧ (∀ x, x ∈ l → fitP x) ∧ f.dep ≤ 20 ∧ tree_Check l = some 0 ∧ ref02_Check l = some 0 ∧ ref02_Tops l = some (posF 0 f)) ∨
    (tree_Check l = some 12 ∧ ref02_Check l = some 12) := by
  have hb : decide ((l.length : Int) > 4000) = false := by simp; omega
  unfold tree_Check ref02_Check
  rw [chk_l1 l h, rchk_l1 l (by omega) h, hb]
  simp only [Bool.false_eq_true, if_false, Bool.false_or]
  rcases nodes_dec l (by omega) with ⟨f, e, h1, h2, h3⟩ | ⟨h0, h1, h2, h3⟩
  · have hcf := Fo.cnt_flat f
    rw [h2, h3]
    simp only [Option.bind_some, Bool.not_true, Bool.false_eq_true, if_false]
    have hz : (decide ((l.length : Int) > 0) && ((posF 0 f).length : Int) == 0) = false := by
      rw [posF_len]
      cases f with
      | nil => subst e; simp [Fo.flat]
      | nd => simp [Fo.cnt]; omega
    simp only [hz, Bool.false_eq_true, if_false]
    by_cases hall : ∀ x, x ∈ l → fitP x
    · rw [if_pos hall]
      simp only [Option.bind_some, Out.on]
      have hw := wf_of f (fun x hx => hall x (by rw [e]; exact hx))
      have hlf : tree_lists l = some (f.dep : Int) := by rw [e]; exact lists_fo hw (by rw [← e]; exact hl)
      have h2' := rcheck_l2 f hw [] [] l FU [] (by simp [e]) (by omega) (by rw [e] at hl; unfold FU; omega) (by rw [e] at hl; simp; omega)
      rw [List.nil_append] at h2'
      rw [hlf, show ref02_Check.l2 l (posF 0 f) FU 0 = _ from h2']
      simp only [Option.bind_some]
      by_cases hd : f.dep ≤ 20
      · rw [if_neg (by rw [decide_eq_true_eq]; omega), if_pos hd]
        exact .inl ⟨f, e, hw, hall, hd, rfl, rfl, rfl⟩
      · rw [if_pos (by rw [decide_eq_true_eq]; omega), if_neg hd]
        exact .inr ⟨rfl, rfl⟩
    · rw [if_neg hall]
      exact .inr ⟨rfl, rfl⟩
  · rw [h2, h3]
    have hz : (decide ((l.length : Int) > 0) && ((List.length ([] : List Int)) : Int) == 0) = true := by simp; omega
    simp only [Option.bind_some, Bool.not_false, if_true]
    rw [hz, if_pos rfl]
    refine .inr ⟨?_, ?_⟩ <;> first | rfl | trivial
end Go.Proofs.Ytbnohlgchjcjhaa.M

/-
  Plain laws of trees: trees as text, by the program and by the document; what is shown is read again. Own text.
-/
import Derived.Test.YtbnohlgchjcjhaaPTree8
namespace Go.Proofs.Ytbnohlgchjcjhaa.M
open Go Go.Proofs Go.Proofs.Ytbnohlgchjcjhaa.V
set_option linter.unusedVariables false

/-- A tree as text. -/
theorem one_tree {k : Int} {s : ByteArray} {a : Int} {c r : Fo} (hw : (Fo.nd k s a c r).wf) (hg : ∀ t, t ∈ (Fo.nd k s a c r).toks → GT t) {pre post l : List T_api_Node} {n : Nat} (hl : l = pre ++ ((Fo.nd k s a c r).flat ++ post)) (h1 : l.length ≤ 1000000)
    (hn : c.flat.length < n) (hsz : 2 * s.size + 6 + c.wt + 10 ≤ 1000000) : ∃ t, tree_one (n + 1) l (pre.length : Int) = some t ∧ bytesL t = (Fo.nd k s a c r).oneT ∧ t.size ≤ 2 * s.size + 2 + c.wt := by
  have e1 : l = pre ++ ((Fo.nd k s a c .nil).flat ++ (r.flat ++ post)) := by rw [hl]; simp [Fo.flat]
  have hpl : pre.length < l.length := by rw [hl]; simp [Fo.flat]
  have hget : l[pre.length] = ⟨k, s, (c.cnt : Int), a⟩ := by simp [hl, Fo.flat]
  have hkl := kids_len c
  have hbl := body_len (k, bytesL s)
  simp only [bytesL_length] at hbl
  rw [tree_one, glk hpl, hget]
  simp only [Option.bind_some]
  rw [Fo.oneT]
  rcases hw.1 with ⟨h5, hs⟩ | ⟨h34, hc⟩
  · subst h5
    rw [if_neg (by decide), if_neg (by decide), Kids_flat e1 h1]
    simp only [Option.bind_some]
    have hgc : ∀ t, t ∈ c.toks → GT t := fun t ht => hg t (by rw [Fo.toks, if_pos rfl]; simp [ht])
    have e2 : l = (pre ++ [⟨5, s, (c.cnt : Int), a⟩]) ++ (c.flat ++ (r.flat ++ post)) := by rw [hl]; simp [Fo.flat]
    have hp1 : (pre ++ [(⟨5, s, (c.cnt : Int), a⟩ : T_api_Node)]).length = pre.length + 1 := by simp
    obtain ⟨t, t1, t2⟩ := one_ok c hw.2.1 hgc (pre ++ [⟨5, s, (c.cnt : Int), a⟩]) (r.flat ++ post) l n 0 ⟨#[]⟩ e2 h1 (by omega) (by show 0 + _ + _ ≤ _; omega)
    rw [hp1] at t1
    have hbt : bytesL t = c.kidsT := by
      rw [t2]
      by_cases hc0 : c.cnt = 0
      · have := cnt_zero hc0
        subst this
        rfl
      · rw [if_neg hc0, if_pos rfl]; rfl
    have hts : t.size = c.kidsT.length := by rw [← hbt, bytesL_length]
    have z1 : (⟨#[40]⟩ : ByteArray).size = 1 := rfl
    have z2 : (⟨#[41]⟩ : ByteArray).size = 1 := rfl
    rw [t1]
    simp only [Option.bind_some]
    rw [cat_ok2 (by rw [z1]; omega)]
    simp only [Option.bind_some]
    rw [cat_ok2 (by rw [ByteArray.size_append, z1, z2]; omega)]
    refine ⟨_, rfl, ?_, by rw [ByteArray.size_append, ByteArray.size_append, z1, z2]; omega⟩
    rw [b_cat, b_cat, hbt]
    first
      | rw [if_pos rfl]; rfl
      | rw [if_pos trivial]; rfl
  · rcases h34 with rfl | rfl
    · rw [if_pos (by rfl), if_neg (by decide)]
      exact ⟨s, rfl, rfl, by omega⟩
    · rw [if_neg (by decide), if_pos (by rfl), if_neg (by decide)]
      obtain ⟨q, q1, q2, q3⟩ := Quote_list (s := s) (by omega)
      rw [q1]
      exact ⟨q, rfl, by rw [q2]; rfl, by omega⟩

theorem oneT_eq (k : Int) (s : ByteArray) (a : Int) (c r : Fo) : (Fo.nd k s a c r).topsT = (Fo.nd k s a c r).oneT ++ 10 :: r.topsT := rfl

theorem swalk_fo : ∀ (f : Fo), f.wf → (∀ t, t ∈ f.toks → GT t) → ∀ (pre l : List T_api_Node) (n : Nat) (s0 : ByteArray), l = pre ++ f.flat → l.length ≤ 1000000 → f.cnt < n → s0.size + f.wt + 20 ≤ 1000000 →
    ∃ t, tree_walk_tree_Show_1.l1 l (l.length : Int) l n (pre.length : Int) s0 = some (Out.go t) ∧ bytesL t = bytesL s0 ++ f.topsT
  | .nil, _, _, pre, l, n, s0, hl, h1, h2, h3 => by
    obtain ⟨n, rfl⟩ : ∃ q, n = q + 1 := ⟨n - 1, by omega⟩
    rw [tree_walk_tree_Show_1.l1, if_neg (by simp [hl, Fo.flat])]
    exact ⟨s0, rfl, by simp [Fo.topsT]⟩
  | .nd k s a c r, hw, hg, pre, l, n, s0, hl, h1, h2, h3 => by
    obtain ⟨n, rfl⟩ : ∃ q, n = q + 1 := ⟨n - 1, by omega⟩
    rw [Fo.cnt] at h2
    rw [Fo.wt] at h3
    have hlen : l.length = pre.length + (c.flat.length + r.flat.length + 1) := by rw [hl]; simp [Fo.flat]
    have e1 : l = pre ++ ((Fo.nd k s a c .nil).flat ++ r.flat) := by rw [hl]; simp [Fo.flat]
    have hgr : ∀ t, t ∈ r.toks → GT t := fun t ht => hg t (by rw [Fo.toks]; split <;> simp [ht])
    rw [tree_walk_tree_Show_1.l1, if_pos (by rw [decide_eq_true_eq, hlen]; omega), End_tree e1 h1]
    simp only [Option.bind_some]
    rw [if_neg (by rw [decide_eq_true_eq]; omega)]
    obtain ⟨N, hN⟩ : ∃ N, FU = N + 1 := ⟨FU - 1, by unfold FU; omega⟩
    have hNl : l.length < N := by unfold FU at hN; omega
    obtain ⟨t, t1, t2, t3⟩ := one_tree (n := N) hw hg (post := []) (by rw [List.append_nil]; exact hl) h1 (by omega) (by omega)
    have z : (⟨#[10]⟩ : ByteArray).size = 1 := rfl
    unfold tree_Show_1
    rw [hN, t1]
    simp only [Option.bind_some]
    rw [cat_ok2 (by rw [z]; omega)]
    simp only [Option.bind_some]
    rw [cat_ok2 (by rw [ByteArray.size_append, z]; omega)]
    simp only [Option.bind_some]
    have e3 : l = (pre ++ (⟨k, s, (c.cnt : Int), a⟩ :: c.flat)) ++ r.flat := by rw [hl]; simp [Fo.flat]
    have hp2 : (pre ++ ((⟨k, s, (c.cnt : Int), a⟩ : T_api_Node) :: c.flat)).length = pre.length + (c.flat.length + 1) := by simp
    obtain ⟨u, u1, u2⟩ := swalk_fo r hw.2.2 hgr _ l n (s0 ++ (t ++ (⟨#[10]⟩ : ByteArray))) e3 h1 (by omega) (by rw [ByteArray.size_append, ByteArray.size_append, z]; omega)
    rw [hp2] at u1
    refine ⟨u, u1, ?_⟩
    rw [u2, b_cat, b_cat, t2, oneT_eq]
    simp [show bytesL (⟨#[10]⟩ : ByteArray) = [10] from rfl]

/-- Trees as text, by the document. -/
theorem rshow_l1 : ∀ (f : Fo), f.wf → (∀ t, t ∈ f.toks → GT t) → ∀ (pre post l : List T_api_Node) (n m : Nat) (A : List Int) (s0 : ByteArray), l = pre ++ (f.flat ++ post) → l.length ≤ 1000000 → f.flat.length < n → f.cnt < m → A.length + f.cnt ≤ 1000000 → s0.size + f.wt + 10 ≤ 1000000 →
    ∃ t, ref02_show.l1 (ref02_show n) l (A ++ posF pre.length f) m s0 (A.length : Int) = some t ∧ bytesL t = bytesL s0 ++ (if f.cnt = 0 then [] else (if A.length = 0 then f.kidsT else 32 :: f.kidsT))
  | .nil, _, _, pre, post, l, n, m, A, s0, hl, h1, h2, h3, h4, h5 => by
    obtain ⟨m, rfl⟩ : ∃ q, m = q + 1 := ⟨m - 1, by omega⟩
    rw [ref02_show.l1, if_neg (by simp [posF])]
    exact ⟨s0, rfl, by simp [Fo.cnt]⟩
  | .nd k s a c r, hw, hg, pre, post, l, n, m, A, s0, hl, h1, h2, h3, h4, h5 => by
    obtain ⟨m, rfl⟩ : ∃ q, m = q + 1 := ⟨m - 1, by omega⟩
    obtain ⟨n, rfl⟩ : ∃ q, n = q + 1 := ⟨n - 1, by omega⟩
    have hfl : (Fo.nd k s a c r).flat.length = c.flat.length + r.flat.length + 1 := by simp [Fo.flat]
    rw [hfl] at h2
    rw [Fo.cnt] at h3 h4
    rw [Fo.wt] at h5
    have e1 : l = pre ++ ((Fo.nd k s a c .nil).flat ++ (r.flat ++ post)) := by rw [hl]; simp [Fo.flat]
    have hpl : pre.length < l.length := by rw [hl]; simp [Fo.flat]
    have hget : l[pre.length] = ⟨k, s, (c.cnt : Int), a⟩ := by simp [hl, Fo.flat]
    have hgr : ∀ t, t ∈ r.toks → GT t := fun t ht => hg t (by rw [Fo.toks]; split <;> simp [ht])
    have hkl := kids_len c
    have hbl := body_len (k, bytesL s)
    simp only [bytesL_length] at hbl
    have hone : ∃ t, ref02_show (n + 1) l (pre.length : Int) = some t ∧ bytesL t = (Fo.nd k s a c r).oneT ∧ t.size ≤ 2 * s.size + 2 + c.wt := by
      rw [ref02_show, glk hpl, hget]
      simp only [Option.bind_some]
      rw [Fo.oneT]
      rcases hw.1 with ⟨h5, hs⟩ | ⟨h34, hc⟩
      · subst h5
        rw [if_neg (by decide), if_neg (by decide), rKids_flat e1 h1]
        simp only [Option.bind_some]
        have hgc : ∀ t, t ∈ c.toks → GT t := fun t ht => hg t (by rw [Fo.toks, if_pos rfl]; simp [ht])
        have e2 : l = (pre ++ [⟨5, s, (c.cnt : Int), a⟩]) ++ (c.flat ++ (r.flat ++ post)) := by rw [hl]; simp [Fo.flat]
        have hp1 : (pre ++ [(⟨5, s, (c.cnt : Int), a⟩ : T_api_Node)]).length = pre.length + 1 := by simp
        have hcc := Fo.cnt_flat c
        have hll : c.flat.length ≤ l.length := by rw [e2]; simp; omega
        obtain ⟨t, t1, t2⟩ := rshow_l1 c hw.2.1 hgc (pre ++ [⟨5, s, (c.cnt : Int), a⟩]) (r.flat ++ post) l n FU [] ⟨#[40]⟩ e2 h1 (by omega) (by unfold FU; omega) (by simp; omega) (by show 1 + _ + _ ≤ _; omega)
        rw [hp1, List.nil_append] at t1
        rw [show ref02_show.l1 (ref02_show n) l (posF (pre.length + 1) c) FU (⟨#[40]⟩ : ByteArray) 0 = _ from t1]
        have hbt : bytesL t = 40 :: c.kidsT := by
          rw [t2]
          by_cases hc0 : c.cnt = 0
          · have := cnt_zero hc0
            subst this
            rfl
          · rw [if_neg hc0, if_pos (show (List.length ([] : List Int)) = 0 from rfl)]; rfl
        have hts : t.size = c.kidsT.length + 1 := by rw [← bytesL_length, hbt]; simp
        have z2 : (⟨#[41]⟩ : ByteArray).size = 1 := rfl
        simp only [Option.bind_some]
        rw [cat_ok2 (by rw [z2]; omega)]
        refine ⟨_, rfl, ?_, by rw [ByteArray.size_append, z2]; omega⟩
        rw [b_cat, hbt]
        first
          | rw [if_pos rfl]; rfl
          | rw [if_pos trivial]; rfl
      · rcases h34 with rfl | rfl
        · rw [if_pos (by rfl), if_neg (by decide)]
          exact ⟨s, rfl, rfl, by omega⟩
        · rw [if_neg (by decide), if_pos (by rfl), if_neg (by decide)]
          obtain ⟨q, q1, q2, q3⟩ := Quote_list (s := s) (by omega)
          obtain ⟨q', q4, q5⟩ := Quote_eq (s := s) (by omega)
          rw [q1] at q4
          obtain rfl := Option.some.inj q4
          rw [q5]
          exact ⟨q, rfl, by rw [q2]; rfl, by omega⟩
    obtain ⟨t, t1, t2, t3⟩ := hone
    have hT : (Fo.nd k s a c r).kidsT = (Fo.nd k s a c r).oneT ++ (if r.cnt = 0 then [] else 32 :: r.kidsT) := rfl
    have hA : A.length < (A ++ posF pre.length (Fo.nd k s a c r)).length := by rw [posF]; simp
    have hAg : (A ++ posF pre.length (Fo.nd k s a c r))[A.length] = (pre.length : Int) := by simp [posF]
    rw [ref02_show.l1, if_pos (dlt hA), glk hA, hAg]
    simp only [Option.bind_some]
    have e3 : l = (pre ++ (⟨k, s, (c.cnt : Int), a⟩ :: c.flat)) ++ (r.flat ++ post) := by rw [hl]; simp [Fo.flat]
    have hp2 : (pre ++ ((⟨k, s, (c.cnt : Int), a⟩ : T_api_Node) :: c.flat)).length = pre.length + 1 + c.flat.length := by simp; omega
    have hA1 : (A ++ [(pre.length : Int)]).length = A.length + 1 := by simp
    have z : (⟨#[32]⟩ : ByteArray).size = 1 := rfl
    by_cases hj0 : A.length = 0
    · rw [if_neg (by rw [decide_eq_true_eq]; omega), t1]
      simp only [Option.bind_some]
      rw [cat_ok2 (by omega), wk1 (by omega)]
      simp only [Option.bind_some]
      obtain ⟨u, u1, u2⟩ := rshow_l1 r hw.2.2 hgr _ post l (n + 1) m (A ++ [(pre.length : Int)]) (s0 ++ t) e3 h1 (by omega) (by omega) (by rw [hA1]; omega) (by rw [ByteArray.size_append]; omega)
      rw [hp2, List.append_assoc, List.singleton_append, hA1] at u1
      refine ⟨u, u1, ?_⟩
      rw [u2, b_cat, t2, Fo.cnt, if_neg (show ¬ (r.cnt + 1 = 0) by omega), if_pos hj0, hA1, hT]
      by_cases hr : r.cnt = 0 <;> simp [hr]
    · rw [if_pos (by rw [decide_eq_true_eq]; omega), cat_ok2 (by rw [z]; omega)]
      simp only [Option.bind_some, t1]
      rw [cat_ok2 (by rw [ByteArray.size_append, z]; omega), wk1 (by omega)]
      simp only [Option.bind_some]
      obtain ⟨u, u1, u2⟩ := rshow_l1 r hw.2.2 hgr _ post l (n + 1) m (A ++ [(pre.length : Int)]) (s0 ++ (⟨#[32]⟩ : ByteArray) ++ t) e3 h1 (by omega) (by omega) (by rw [hA1]; omega) (by rw [ByteArray.size_append, ByteArray.size_append, z]; omega)
      rw [hp2, List.append_assoc, List.singleton_append, hA1] at u1
      refine ⟨u, u1, ?_⟩
      rw [u2, b_cat, b_cat, t2, Fo.cnt, if_neg (show ¬ (r.cnt + 1 = 0) by omega), if_neg hj0, hA1, hT, show bytesL (⟨#[32]⟩ : ByteArray) = [32] from rfl]
      by_cases hr : r.cnt = 0 <;> simp [hr]

theorem rone_tree {k : Int} {s : ByteArray} {a : Int} {c r : Fo} (hw : (Fo.nd k s a c r).wf) (hg : ∀ t, t ∈ (Fo.nd k s a c r).toks → GT t) {pre post l : List T_api_Node} (hl : l = pre ++ ((Fo.nd k s a c r).flat ++ post)) (h1 : l.length ≤ 1000000)
    (hsz : 2 * s.size + 6 + c.wt + 10 ≤ 1000000) : ∃ t, ref02_show FU l (pre.length : Int) = some t ∧ bytesL t = (Fo.nd k s a c r).oneT ∧ t.size ≤ 2 * s.size + 2 + c.wt := by
  have e1 : l = pre ++ ((Fo.nd k s a c .nil).flat ++ (r.flat ++ post)) := by rw [hl]; simp [Fo.flat]
  have hll : (Fo.nd k s a c .nil).flat.length ≤ l.length := by rw [e1]; simp only [List.length_append]; omega
  have hg1 : ∀ t, t ∈ (Fo.nd k s a c .nil).toks → GT t := fun t ht => hg t (by
    rw [Fo.toks] at ht ⊢
    split at ht
    · rename_i h5
      rw [if_pos h5]
      simp only [Fo.toks, List.mem_cons, List.mem_append, List.not_mem_nil, or_false] at ht ⊢
      rcases ht with ht | ht | ht <;> simp [ht]
    · rename_i h5
      rw [if_neg h5]
      simp only [Fo.toks, List.mem_cons, List.not_mem_nil, or_false] at ht ⊢
      exact .inl ht)
  obtain ⟨t, t1, t2⟩ := rshow_l1 (.nd k s a c .nil) ⟨hw.1, hw.2.1, trivial⟩ hg1 pre (r.flat ++ post) l FU 2 [] ⟨#[]⟩ e1 h1 (by unfold FU; omega) (by simp [Fo.cnt]) (by simp [Fo.cnt]) (by show 0 + _ + _ ≤ _; rw [Fo.wt, Fo.wt]; omega)
  have hg2 : V.gl (posF pre.length (Fo.nd k s a c .nil)) ((List.length ([] : List Int) : Nat) : Int) = some (pre.length : Int) := by
    rw [glk (by simp [posF])]; simp [posF]
  rw [List.nil_append, ref02_show.l1, if_pos (by simp [posF]), if_neg (by simp), hg2] at t1
  simp only [Option.bind_some] at t1
  cases hd : ref02_show FU l (pre.length : Int) with
  | none => rw [hd] at t1; cases t1
  | some q =>
    rw [hd] at t1
    simp only [Option.bind_some] at t1
    have he : V.cat (⟨#[]⟩ : ByteArray) q = some q ∨ V.cat (⟨#[]⟩ : ByteArray) q = none := by
      unfold V.cat
      split
      · left
        have : (⟨#[]⟩ : ByteArray) ++ q = q := bytesL_inj (by rw [b_cat]; rfl)
        rw [this]
      · exact .inr rfl
    rcases he with he | he
    · rw [he] at t1
      simp only [Option.bind_some] at t1
      rw [show IntKind.i64.wrap (((List.length ([] : List Int) : Nat) : Int) + 1) = 1 by decide, ref02_show.l1, if_neg (by simp [posF])] at t1
      obtain rfl := Option.some.inj t1
      have hb : bytesL q = (Fo.nd k s a c r).oneT := by
        rw [t2, if_neg (by simp [Fo.cnt]), if_pos (show (List.length ([] : List Int)) = 0 from rfl), Fo.kidsT, Fo.oneT]
        simp [Fo.cnt, show bytesL (⟨#[]⟩ : ByteArray) = [] from rfl]
      refine ⟨q, rfl, hb, ?_⟩
      rw [← bytesL_length, hb, Fo.oneT]
      have hkl := kids_len c
      have hbl := body_len (k, bytesL s)
      simp only [bytesL_length] at hbl
      split
      · simp only [List.length_cons, List.length_append, List.length_nil]; omega
      · omega
    · rw [he] at t1; cases t1

theorem rShow_l1 : ∀ (f : Fo), f.wf → (∀ t, t ∈ f.toks → GT t) → ∀ (pre l : List T_api_Node) (m : Nat) (A : List Int) (s0 : ByteArray), l = pre ++ f.flat → l.length ≤ 1000000 → f.cnt < m → A.length + f.cnt ≤ 1000000 → s0.size + f.wt + 20 ≤ 1000000 →
    ∃ t, ref02_Show.l1 l (A ++ posF pre.length f) m s0 (A.length : Int) = some t ∧ bytesL t = bytesL s0 ++ f.topsT
  | .nil, _, _, pre, l, m, A, s0, hl, h1, h3, h4, h5 => by
    obtain ⟨m, rfl⟩ : ∃ q, m = q + 1 := ⟨m - 1, by omega⟩
    rw [ref02_Show.l1, if_neg (by simp [posF])]
    exact ⟨s0, rfl, by simp [Fo.topsT]⟩
  | .nd k s a c r, hw, hg, pre, l, m, A, s0, hl, h1, h3, h4, h5 => by
    obtain ⟨m, rfl⟩ : ∃ q, m = q + 1 := ⟨m - 1, by omega⟩
    rw [Fo.cnt] at h3 h4
    rw [Fo.wt] at h5
    have hgr : ∀ t, t ∈ r.toks → GT t := fun t ht => hg t (by rw [Fo.toks]; split <;> simp [ht])
    have hA : A.length < (A ++ posF pre.length (Fo.nd k s a c r)).length := by rw [posF]; simp
    have hAg : (A ++ posF pre.length (Fo.nd k s a c r))[A.length] = (pre.length : Int) := by simp [posF]
    obtain ⟨t, t1, t2, t3⟩ := rone_tree hw hg (post := []) (by rw [List.append_nil]; exact hl) h1 (by omega)
    have z : (⟨#[10]⟩ : ByteArray).size = 1 := rfl
    rw [ref02_Show.l1, if_pos (dlt hA), glk hA, hAg]
    simp only [Option.bind_some]
    rw [t1]
    simp only [Option.bind_some]
    rw [cat_ok2 (by omega)]
    simp only [Option.bind_some]
    rw [cat_ok2 (by rw [ByteArray.size_append, z]; omega), wk1 (by omega)]
    simp only [Option.bind_some]
    have e3 : l = (pre ++ (⟨k, s, (c.cnt : Int), a⟩ :: c.flat)) ++ r.flat := by rw [hl]; simp [Fo.flat]
    have hp2 : (pre ++ ((⟨k, s, (c.cnt : Int), a⟩ : T_api_Node) :: c.flat)).length = pre.length + 1 + c.flat.length := by simp; omega
    have hA1 : (A ++ [(pre.length : Int)]).length = A.length + 1 := by simp
    obtain ⟨u, u1, u2⟩ := rShow_l1 r hw.2.2 hgr _ l m (A ++ [(pre.length : Int)]) (s0 ++ t ++ (⟨#[10]⟩ : ByteArray)) e3 h1 (by omega) (by rw [hA1]; omega) (by rw [ByteArray.size_append, ByteArray.size_append, z]; omega)
    rw [hp2, List.append_assoc, List.singleton_append, hA1] at u1
    refine ⟨u, u1, ?_⟩
    rw [u2, b_cat, b_cat, t2, oneT_eq]
    simp [show bytesL (⟨#[10]⟩ : ByteArray) = [10] from rfl]

/-- What is shown of right nodes. -/
theorem Show_fo {f : Fo} (hw : f.wf) (hg : ∀ t, t ∈ f.toks → GT t) (h1 : f.flat.length ≤ 4000) (h2 : f.wt ≤ 900000) (hc : tree_Check f.flat = some 0) : ∃ t, tree_Show f.flat = some t ∧ bytesL t = f.topsT := by
  have hcf := Fo.cnt_flat f
  unfold tree_Show
  rw [hc]
  simp only [Option.bind_some]
  rw [if_neg (by simp)]
  unfold tree_walk_tree_Show_1
  obtain ⟨t, t1, t2⟩ := swalk_fo f hw hg [] f.flat FU ⟨#[]⟩ (by simp) (by omega) (by unfold FU; omega) (by show 0 + _ + _ ≤ _; omega)
  rw [show tree_walk_tree_Show_1.l1 f.flat (f.flat.length : Int) f.flat FU 0 (⟨#[]⟩ : ByteArray) = _ from t1]
  exact ⟨t, rfl, by rw [t2]; rfl⟩
theorem rShow_fo {f : Fo} (hw : f.wf) (hg : ∀ t, t ∈ f.toks → GT t) (h1 : f.flat.length ≤ 4000) (h2 : f.wt ≤ 900000) (hc : ref02_Check f.flat = some 0) (ht : ref02_Tops f.flat = some (posF 0 f)) : ∃ t, ref02_Show f.flat = some t ∧ bytesL t = f.topsT := by
  have hcf := Fo.cnt_flat f
  unfold ref02_Show
  rw [hc, ht]
  simp only [Option.bind_some]
  rw [if_neg (by simp)]
  obtain ⟨t, t1, t2⟩ := rShow_l1 f hw hg [] f.flat FU [] ⟨#[]⟩ (by simp) (by omega) (by unfold FU; omega) (by simp; omega) (by show 0 + _ + _ ≤ _; omega)
  rw [List.nil_append] at t1
  rw [show ref02_Show.l1 f.flat (posF 0 f) FU (⟨#[]⟩ : ByteArray) 0 = _ from t1]
  exact ⟨t, rfl, by rw [t2]; rfl⟩

theorem wt_le (m : Nat) : ∀ (f : Fo), (∀ x, x ∈ f.flat → x.Text.size ≤ m) → f.wt ≤ (2 * m + 6) * f.flat.length
  | .nil, _ => Nat.zero_le _
  | .nd k s a c r, h => by
    have h0 := h ⟨k, s, (c.cnt : Int), a⟩ (by rw [Fo.flat]; simp)
    have ic := wt_le m c (fun x hx => h x (by rw [Fo.flat]; simp [hx]))
    have ir := wt_le m r (fun x hx => h x (by rw [Fo.flat]; simp [hx]))
    simp only at h0
    rw [Fo.wt, Fo.flat, List.length_cons, List.length_append, Nat.mul_add, Nat.mul_add, Nat.mul_one]
    omega
theorem wt_room : ∀ (f : Fo), f.wf → f.wt ≤ 6 * room f.toks
  | .nil, _ => Nat.zero_le _
  | .nd k s a c r, hw => by
    have ic := wt_room c hw.2.1
    have ir := wt_room r hw.2.2
    have ha : ∀ u v : List (Int × List Int), room (u ++ v) = room u + room v := fun u v => by
      induction u with
      | nil => simp [room]
      | cons t u ih => rw [List.cons_append, room_drop, room_drop, ih]; omega
    rw [Fo.wt, Fo.toks]
    rcases hw.1 with ⟨h5, hs⟩ | ⟨h34, hc⟩
    · have z : s.size = 0 := by rw [hs]; rfl
      rw [if_pos h5, room_drop, ha, room_drop, z]
      simp only [List.length_cons, List.length_nil]
      omega
    · have h5 : ¬ k = 5 := by omega
      subst hc
      rw [if_neg h5, room_drop]
      simp only [bytesL_length, Fo.wt]
      omega
theorem size_wt : ∀ (f : Fo), ∀ x, x ∈ f.flat → 2 * x.Text.size + 6 ≤ f.wt
  | .nil, x, h => by cases h
  | .nd k s a c r, x, h => by
    rw [Fo.flat] at h
    rw [Fo.wt]
    rcases List.mem_cons.1 h with rfl | h
    · simp only; omega
    · rcases List.mem_append.1 h with h | h
      · have := size_wt c x h; omega
      · have := size_wt r x h; omega

theorem IntsR (a : List Int) (hl : a.length ≤ 1000000) : ref02_Ints a a = some true := by
  unfold ref02_Ints
  rw [if_neg (by simp)]
  have := idxAll (F := fun n i => ref02_Ints.l1 a a n i) (len := a.length) (r0 := false) (fun _ => true) (by omega) (fun n k hk => by
    rw [ref02_Ints.l1, if_pos (dlt hk), glk hk, wk1 (by omega)]
    simp) (fun n => by rw [ref02_Ints.l1, if_neg dnl])
  rw [show ref02_Ints.l1 a a FU 0 = _ from this, if_pos (allN_iff.2 fun _ _ => rfl)]
  rfl

theorem Light_dec (l : List T_api_Node) : ref02_Light l = some false ∨ (l.length ≤ 300 ∧ (∀ x, x ∈ l → x.Text.size ≤ 300) ∧ ref02_Light l = some true) := by
  unfold ref02_Light
  by_cases h0 : l.length > 300
  · rw [if_pos (by rw [decide_eq_true_eq]; omega)]; exact .inl rfl
  · rw [if_neg (by rw [decide_eq_true_eq]; omega)]
    rcases loopI (F := fun n i => ref02_Light.l1 l n i) (len := l.length) (Q := fun r => r = false) (S := fun k => ∀ hk : k < l.length, l[k].Text.size ≤ 300) (by omega) (fun n k hk => by
      rw [ref02_Light.l1, if_pos (dlt hk), glk hk, wk1 (by omega)]
      simp only [Option.bind_some]
      by_cases h : l[k].Text.size > 300
      · rw [if_pos (by rw [decide_eq_true_eq]; omega)]; exact .inl ⟨_, rfl, rfl⟩
      · rw [if_neg (by rw [decide_eq_true_eq]; omega)]; exact .inr ⟨rfl, fun _ => by omega⟩) (fun n => by rw [ref02_Light.l1, if_neg dnl]) with ⟨r, h1, rfl⟩ | ⟨h1, h2⟩
    · rw [show ref02_Light.l1 l FU 0 = _ from h1]; exact .inl rfl
    · rw [show ref02_Light.l1 l FU 0 = _ from h1]
      refine .inr ⟨by omega, fun x hx => ?_, rfl⟩
      obtain ⟨k, hk, rfl⟩ := List.getElem_of_mem hx
      exact h2 k hk hk

theorem seqR (a : ByteArray) : V.seq a a = true := by rw [seq_iff]; simp

theorem TreeShows_true (l : List T_api_Node) (i : Int) {p q : Prop} (_ : p) (_ : q) : law02_TreeShows l i = some true := by
  unfold law02_TreeShows
  rw [known02_true]
  rcases Light_dec l with h | ⟨h1, h2, h⟩
  · rw [h]; rfl
  · rw [h]
    simp only [Option.bind_some, Bool.not_true, Bool.false_eq_true, if_false]
    obtain ⟨e1, e2⟩ := End_dec l (by omega) i
    obtain ⟨e, he⟩ : ∃ e, tree_End l i = some e := by
      rcases e2 with e2 | ⟨_, _, _, _, _, _, _, _, e2⟩
      · exact ⟨_, e2⟩
      · exact ⟨_, e2⟩
    obtain ⟨kr, k1, k2, k3⟩ := Kids_same l (by omega) i
    have htops : ∃ tr, tree_Tops l = some tr ∧ ref02_Tops l = some tr ∧ tr.length ≤ 1000000 := by
      rcases nodes_dec l (by omega) with ⟨f, q, q1, q2, q3⟩ | ⟨_, q1, q2, _⟩
      · have := Fo.cnt_flat f
        exact ⟨_, q1, q2, by rw [posF_len]; rw [q] at h1; omega⟩
      · exact ⟨_, q1, q2, by simp⟩
    obtain ⟨tr, t1, t2, t3⟩ := htops
    have hshow : ∃ c s, tree_Check l = some c ∧ ref02_Check l = some c ∧ tree_Show l = some s ∧ ref02_Show l = some s := by
      rcases Check_dec l (by omega) (fun x hx => by have := h2 x hx; omega) with ⟨f, q, qw, qf, qd, c1, c2, c3⟩ | ⟨c1, c2⟩
      · have hg := toks_GT f (fun x hx => qf x (by rw [q]; exact hx))
        have hwt := wt_le 300 f (fun x hx => h2 x (by rw [q]; exact hx))
        subst q
        obtain ⟨s, s1, s2⟩ := Show_fo qw hg (by omega) (by omega) c1
        obtain ⟨s', s3, s4⟩ := rShow_fo qw hg (by omega) (by omega) c2 c3
        have : s' = s := bytesL_inj (by rw [s2, s4])
        subst this
        exact ⟨0, s', c1, c2, s1, s3⟩
      · refine ⟨12, ⟨#[]⟩, c1, c2, ?_, ?_⟩
        · unfold tree_Show; rw [c1]; rfl
        · unfold ref02_Show; rw [c2]; rfl
    obtain ⟨c, s, c1, c2, s1, s2⟩ := hshow
    simp only [c1, c2, s1, s2, e1, he, k1, k2, t1, t2, Option.bind_some, beq_self_eq_true, if_true, seqR, IntsR kr k3, IntsR tr t3]

theorem TreeBack_true (l : List T_api_Node) {p : Prop} (_ : p) : law02_TreeBack l = some true := by
  unfold law02_TreeBack
  rw [known02_true]
  rcases Light_dec l with h | ⟨h1, h2, h⟩
  · rw [h]; rfl
  · rw [h]
    simp only [Option.bind_some, Bool.not_true, Bool.false_eq_true, if_false]
    rcases Check_dec l (by omega) (fun x hx => by have := h2 x hx; omega) with ⟨f, q, qw, qf, qd, c1, c2, c3⟩ | ⟨c1, c2⟩
    · have hg := toks_GT f (fun x hx => qf x (by rw [q]; exact hx))
      have hwt := wt_le 300 f (fun x hx => h2 x (by rw [q]; exact hx))
      subst q
      obtain ⟨s, s1, s2⟩ := Show_fo qw hg (by omega) (by omega) c1
      rw [c1, s1]
      simp only [Option.bind_some, bne_self_eq_false, Bool.false_eq_true, if_false]
      by_cases hs : s.size ≤ 65536
      · obtain ⟨φ', p1, p2⟩ := Parse_of hs (by rw [s2]; exact scan_tops f qw hg) qw qd (by omega)
        have hz := Fo.strip_flat φ' f p1
        have hlen : φ'.flat.length = f.flat.length := by simpa using congrArg List.length hz
        rw [p2]
        simp only [Option.bind_some]
        rw [if_neg (by rw [decide_eq_true_eq]; omega), if_pos (by rfl), SameN hz (by omega)]
        rfl
      · have hp : ∃ r, tree_Parse s = some r := by
          unfold tree_Parse lex_Scan
          rw [if_pos (by rw [decide_eq_true_eq]; omega)]
          exact ⟨_, rfl⟩
        obtain ⟨r, hr⟩ := hp
        rw [hr]
        simp only [Option.bind_some]
        rw [if_pos (by rw [decide_eq_true_eq]; omega)]
        rfl
    · have hs : tree_Show l = some ⟨#[]⟩ := by unfold tree_Show; rw [c1]; rfl
      rw [c1, hs]
      simp only [Option.bind_some, seqR]
      rfl

theorem TreeRight_true (s : ByteArray) : law02_TreeRight s = some true := by
  unfold law02_TreeRight
  rw [known02_true]
  by_cases hsz : s.size > 3000
  · rw [if_pos (by rw [decide_eq_true_eq]; omega)]; rfl
  · rw [if_neg (by rw [decide_eq_true_eq]; omega)]
    rcases Parse_ok (s := s) (by omega) with ⟨φ, a1, a2, a3, a4, a5, a6, a7⟩ | ⟨e, x, he, hx1, hx2, hp⟩
    · rw [a7]
      simp only [Option.bind_some, bne_self_eq_false, Bool.false_eq_true, if_false]
      obtain ⟨hg, hroom⟩ := scan_good _ a1
      rw [bytesL_length] at hroom
      have hwt := wt_room φ a2
      have hfit := fit_of φ a2 hg a6
      have hsize := size_wt φ
      have hc : tree_Check φ.flat = some 0 := by
        rcases Check_dec φ.flat a4 (fun x hx => by have := hsize x hx; omega) with ⟨f, q, qw, qf, qd, c1, c2, c3⟩ | ⟨c1, c2⟩
        · exact c1
        · exfalso
          unfold tree_Check at c1
          have hb : decide ((φ.flat.length : Int) > 4000) = false := by simp; omega
          rw [hb] at c1
          have hcw : tree_walk_tree_Check_1 φ.flat 0 (φ.flat.length : Int) = some true := by
            unfold tree_walk_tree_Check_1
            have hcf := Fo.cnt_flat φ
            have := cwalk_fo φ [] [] φ.flat FU (by simp) (by omega) (by unfold FU; omega)
            rw [List.length_nil, Nat.zero_add] at this
            rw [show tree_walk_tree_Check_1.l1 φ.flat (φ.flat.length : Int) FU 0 = _ from this]; rfl
          rw [hcw, chk_l1 _ (fun x hx => by have := hsize x hx; omega), if_pos hfit, lists_fo a2 a4] at c1
          simp only [Option.bind_some, Bool.not_true, Bool.false_eq_true, if_false, Out.on] at c1
          rw [if_neg (by rw [decide_eq_true_eq]; omega)] at c1
          cases c1
      obtain ⟨t, s1, s2⟩ := Show_fo a2 hg a4 (by omega) hc
      have hts : t.size ≤ 65536 := by
        have := tops_len φ
        rw [← bytesL_length, s2]; omega
      obtain ⟨φ', p1, p2⟩ := Parse_of hts (by rw [s2]; exact scan_tops φ a2 hg) a2 a3 a4
      have hz := Fo.strip_flat φ φ' p1.symm
      rw [s1, hc]
      simp only [Option.bind_some, p2, beq_self_eq_true, Bool.and_self, if_true]
      rw [SameN hz (by omega)]
      rfl
    · rw [hp]
      simp only [Option.bind_some]
      rw [if_pos (by simp [he]), if_pos (by simp [hx1, hx2])]
      rfl
end Go.Proofs.Ytbnohlgchjcjhaa.M

/-
  Plain laws of trees: a forest as text, and what its tokens are. Own text.
-/
import Derived.Test.YtbnohlgchjcjhaaPTree4
namespace Go.Proofs.Ytbnohlgchjcjhaa.M
open Go Go.Proofs Go.Proofs.Ytbnohlgchjcjhaa.V
set_option linter.unusedVariables false

theorem Res.map_map {α β γ : Type} (f : α → β) (g : β → γ) (r : Res α) : (r.map f).map g = r.map (fun x => g (f x)) := by cases r <;> rfl

theorem scan_body {t : Int × List Int} (ht : GT t) {m : List Int} (hm : stops plainB m) : scanL (body t ++ m) = (scanL m).map (t :: ·) := by
  cases ht with
  | opn => show scanL (40 :: m) = _; rw [scanL_open]
  | cls => show scanL (41 :: m) = _; rw [scanL_close]
  | word x h hx hl =>
    show scanL (x ++ m) = _
    have e := headL_app hm _ x x.length (Nat.le_refl _) h
    cases hr : rl x with
    | none => rw [headL_none hx hr] at h; exact absurd (congrArg Prod.snd h) (by simp)
    | some q =>
      obtain ⟨c, w⟩ := q
      have hp : plainB c = true := by
        cases hp : plainB c with
        | true => rfl
        | false =>
          rw [headL_stop hr hp] at h
          have := congrArg Prod.fst h
          simp only at this
          exact absurd (List.eq_nil_of_length_eq_zero this.symm) hx
      obtain ⟨b, t, rfl, hb⟩ := plain_first hr hp
      have e1 : (b :: (t ++ m)).take (b :: t).length = b :: t := by rw [← List.cons_append, List.take_left']; rfl
      have e2 : (b :: (t ++ m)).drop (b :: t).length = m := by rw [← List.cons_append, List.drop_left']; rfl
      rw [List.cons_append] at e
      rw [List.cons_append, scanL_word hb, e]
      simp only
      rw [if_neg (by simp), e1, e2, hl]
      rfl
  | text x h =>
    show scanL (34 :: (quoteL x ++ [34]) ++ m) = _
    rw [List.cons_append, List.append_assoc, scanL_text]
    have := text_quote _ x m (Nat.le_refl _) h
    rw [show [34] ++ m = 34 :: m from rfl, this]
    simp only
    rw [show quoteL x ++ 34 :: m = (quoteL x ++ [34]) ++ m by simp, List.drop_left' (by simp)]

/-- A forest's trees, with blanks between. -/
def Fo.kidsT : Fo → List Int
  | .nil => []
  | .nd k s _ c r => (if k = 5 then 40 :: (c.kidsT ++ [41]) else body (k, bytesL s)) ++ (if r.cnt = 0 then [] else 32 :: r.kidsT)
/-- .. each with a line's end. -/
def Fo.topsT : Fo → List Int
  | .nil => []
  | .nd k s _ c r => (if k = 5 then 40 :: (c.kidsT ++ [41]) else body (k, bytesL s)) ++ 10 :: r.topsT
def Fo.oneT : Fo → List Int
  | .nil => []
  | .nd k s _ c _ => if k = 5 then 40 :: (c.kidsT ++ [41]) else body (k, bytesL s)

theorem stops_c {b : Int} {m : List Int} (h1 : b < 128) (h2 : plainB b = false) : stops plainB (b :: m) := .inr ⟨b, m, rfl, h1, h2⟩

theorem scan_kids : ∀ (f : Fo), f.wf → (∀ t, t ∈ f.toks → GT t) → ∀ (m : List Int), stops plainB m → scanL (f.kidsT ++ m) = (scanL m).map (f.toks ++ ·)
  | .nil, _, _, m, _ => by rw [Fo.kidsT, Fo.toks, List.nil_append]; cases scanL m <;> rfl
  | .nd k s a c r, hw, hg, m, hm => by
    rw [Fo.kidsT, Fo.toks]
    rw [Fo.toks] at hg
    -- what stands behind the first tree
    have hrest : ∀ (hgr : ∀ t, t ∈ r.toks → GT t), stops plainB ((if r.cnt = 0 then [] else 32 :: r.kidsT) ++ m) ∧ scanL ((if r.cnt = 0 then [] else 32 :: r.kidsT) ++ m) = (scanL m).map (r.toks ++ ·) := fun hgr => by
      by_cases hr : r.cnt = 0
      · have := cnt_zero hr
        subst this
        refine ⟨by simpa [Fo.cnt] using hm, ?_⟩
        simp only [Fo.cnt, if_true, List.nil_append, Fo.toks]
        cases scanL m <;> rfl
      · rw [if_neg hr, List.cons_append]
        refine ⟨stops_c (by decide) rfl, ?_⟩
        rw [scanL_blank (by rfl)]
        exact scan_kids r hw.2.2 hgr m hm
    by_cases h5 : k = 5
    · rw [if_pos h5] at hg ⊢
      obtain ⟨q1, q2⟩ := hrest (fun t ht => hg t (by simp [ht]))
      rw [if_pos h5, List.cons_append, List.cons_append, scanL_open]
      have ih := scan_kids c hw.2.1 (fun t ht => hg t (by simp [ht])) (41 :: ((if r.cnt = 0 then [] else 32 :: r.kidsT) ++ m)) (stops_c (by decide) rfl)
      rw [show c.kidsT ++ [41] ++ (if r.cnt = 0 then [] else 32 :: r.kidsT) ++ m = c.kidsT ++ 41 :: ((if r.cnt = 0 then [] else 32 :: r.kidsT) ++ m) by simp, ih, scanL_close, q2]
      cases scanL m with
      | err e => rfl
      | ok ts => simp [Res.map]
    · rw [if_neg h5] at hg ⊢
      obtain ⟨q1, q2⟩ := hrest (fun t ht => hg t (by simp [ht]))
      rw [if_neg h5, List.append_assoc, scan_body (hg _ (by simp)) q1, q2]
      cases scanL m with
      | err e => rfl
      | ok ts => simp [Res.map]

theorem scan_tops : ∀ (f : Fo), f.wf → (∀ t, t ∈ f.toks → GT t) → scanL f.topsT = .ok f.toks
  | .nil, _, _ => scanL_nil
  | .nd k s a c r, hw, hg => by
    rw [Fo.topsT, Fo.toks]
    rw [Fo.toks] at hg
    by_cases h5 : k = 5
    · rw [if_pos h5] at hg ⊢
      have ih := scan_tops r hw.2.2 (fun t ht => hg t (by simp [ht]))
      rw [if_pos h5, List.cons_append, scanL_open]
      have ik := scan_kids c hw.2.1 (fun t ht => hg t (by simp [ht])) (41 :: 10 :: r.topsT) (stops_c (by decide) rfl)
      rw [show c.kidsT ++ [41] ++ 10 :: r.topsT = c.kidsT ++ 41 :: 10 :: r.topsT by simp, ik, scanL_close, scanL_blank (by rfl), ih]
      rfl
    · rw [if_neg h5] at hg ⊢
      have ih := scan_tops r hw.2.2 (fun t ht => hg t (by simp [ht]))
      rw [if_neg h5, scan_body (hg _ (by simp)) (stops_c (by decide) rfl), scanL_blank (by rfl), ih]
      rfl

/-! how long it is -/
def Fo.wt : Fo → Nat
  | .nil => 0
  | .nd _ s _ c r => 2 * s.size + 6 + c.wt + r.wt
theorem body_len (t : Int × List Int) : (body t).length ≤ 2 * t.2.length + 2 := by
  have hq := quoteL_len t.2
  unfold body
  split
  · simp
  · split
    · simp
    · split
      · simp only [List.length_cons, List.length_append, List.length_nil]; omega
      · omega
theorem kids_len : ∀ (f : Fo), f.kidsT.length ≤ f.wt
  | .nil => Nat.le_refl _
  | .nd k s a c r => by
    have h1 := kids_len c
    have h2 := kids_len r
    have h3 := body_len (k, bytesL s)
    simp only [bytesL_length] at h3
    rw [Fo.kidsT, Fo.wt, List.length_append]
    have e1 : (if k = 5 then 40 :: (c.kidsT ++ [41]) else body (k, bytesL s)).length ≤ 2 * s.size + 2 + c.wt := by
      split
      · simp only [List.length_cons, List.length_append, List.length_nil]; omega
      · omega
    have e2 : (if r.cnt = 0 then [] else 32 :: r.kidsT).length ≤ 1 + r.wt := by
      split
      · simp
      · simp only [List.length_cons]; omega
    omega
theorem tops_len : ∀ (f : Fo), f.topsT.length ≤ f.wt
  | .nil => Nat.le_refl _
  | .nd k s a c r => by
    have h1 := kids_len c
    have h2 := tops_len r
    have h3 := body_len (k, bytesL s)
    simp only [bytesL_length] at h3
    rw [Fo.topsT, Fo.wt, List.length_append, List.length_cons]
    have e1 : (if k = 5 then 40 :: (c.kidsT ++ [41]) else body (k, bytesL s)).length ≤ 2 * s.size + 2 + c.wt := by
      split
      · simp only [List.length_cons, List.length_append, List.length_nil]; omega
      · omega
    omega

/-! the program's text -/
theorem Kids_flat {k : Int} {s : ByteArray} {a : Int} {c : Fo} {pre post l : List T_api_Node} (hl : l = pre ++ ((Fo.nd k s a c .nil).flat ++ post)) (h1 : l.length ≤ 1000000) : tree_Kids l (pre.length : Int) = some (posF (pre.length + 1) c) := by
  unfold tree_Kids
  have hlen : l.length = pre.length + (c.flat.length + 1) + post.length := by rw [hl]; simp [Fo.flat]; omega
  rw [End_tree hl h1]
  simp only [Option.bind_some]
  rw [if_neg (by rw [decide_eq_true_eq]; omega), wk1 (by omega)]
  unfold tree_places tree_walk_tree_places_1
  have hcc := Fo.cnt_flat c
  have e2 : l = (pre ++ [⟨k, s, (c.cnt : Int), a⟩]) ++ (c.flat ++ post) := by rw [hl]; simp [Fo.flat]
  have hp1 : (pre ++ [(⟨k, s, (c.cnt : Int), a⟩ : T_api_Node)]).length = pre.length + 1 := by simp
  have := walk_pos c (pre ++ [⟨k, s, (c.cnt : Int), a⟩]) post l FU [] e2 h1 (by simp; omega) (by unfold FU; omega)
  rw [hp1, show pre.length + 1 + c.flat.length = pre.length + (c.flat.length + 1) by omega] at this
  rw [this]
  rfl

theorem b_cat (a b : ByteArray) : bytesL (a ++ b) = bytesL a ++ bytesL b := bytesL_append a b
theorem b1 (x : UInt8) : bytesL (⟨#[x]⟩ : ByteArray) = [(x.toNat : Int)] := rfl

/-- A tree as text, and trees behind what was shown. -/
theorem one_ok : ∀ (f : Fo), f.wf → (∀ t, t ∈ f.toks → GT t) → ∀ (pre post l : List T_api_Node) (n j : Nat) (s0 : ByteArray), l = pre ++ (f.flat ++ post) → l.length ≤ 1000000 → f.flat.length < n → s0.size + f.wt + 10 ≤ 1000000 →
    ∃ t, tree_one.l1 (tree_one n) l (posF pre.length f) j s0 = some t ∧ bytesL t = bytesL s0 ++ (if f.cnt = 0 then [] else (if j = 0 then f.kidsT else 32 :: f.kidsT))
  | .nil, _, _, pre, post, l, n, j, s0, _, _, _, _ => ⟨s0, rfl, by simp [Fo.cnt]⟩
  | .nd k s a c r, hw, hg, pre, post, l, n, j, s0, hl, h1, hn, hsz => by
    obtain ⟨n, rfl⟩ : ∃ q, n = q + 1 := ⟨n - 1, by omega⟩
    have hfl : (Fo.nd k s a c r).flat.length = c.flat.length + r.flat.length + 1 := by simp [Fo.flat]
    rw [hfl] at hn
    rw [Fo.wt] at hsz
    have hkl := kids_len c
    have hbl := body_len (k, bytesL s)
    simp only [bytesL_length] at hbl
    have e1 : l = pre ++ ((Fo.nd k s a c .nil).flat ++ (r.flat ++ post)) := by rw [hl]; simp [Fo.flat]
    have hpl : pre.length < l.length := by rw [hl]; simp [Fo.flat]
    have hget : l[pre.length] = ⟨k, s, (c.cnt : Int), a⟩ := by simp [hl, Fo.flat]
    have hgr : ∀ t, t ∈ r.toks → GT t := fun t ht => hg t (by
      rw [Fo.toks]; split <;> simp [ht])
    -- the first one
    have hone : ∃ t, tree_one (n + 1) l (pre.length : Int) = some t ∧ bytesL t = (Fo.nd k s a c r).oneT ∧ t.size ≤ 2 * s.size + 2 + c.wt := by
      rw [tree_one, glk hpl, hget]
      simp only [Option.bind_some]
      rw [Fo.oneT]
      rcases hw.1 with ⟨h5, hs⟩ | ⟨h34, hc⟩
      · subst h5
        rw [if_neg (by decide), if_neg (by decide), Kids_flat e1 h1]
        simp only [Option.bind_some]
        have hgc : ∀ t, t ∈ c.toks → GT t := fun t ht => hg t (by rw [Fo.toks, if_pos rfl]; simp [ht])
        have e2 : l = (pre ++ [⟨5, s, (c.cnt : Int), a⟩]) ++ (c.flat ++ (r.flat ++ post)) := by rw [hl]; simp [Fo.flat]
        have hp1 : (pre ++ [(⟨5, s, (c.cnt : Int), a⟩ : T_api_Node)]).length = pre.length + 1 := by simp
        obtain ⟨t, t1, t2⟩ := one_ok c hw.2.1 hgc (pre ++ [⟨5, s, (c.cnt : Int), a⟩]) (r.flat ++ post) l n 0 ⟨#[]⟩ e2 h1 (by omega) (by show 0 + _ + _ ≤ _; omega)
        rw [hp1] at t1
        have hbt : bytesL t = c.kidsT := by
          rw [t2]
          by_cases hc0 : c.cnt = 0
          · have := cnt_zero hc0
            subst this
            rfl
          · rw [if_neg hc0, if_pos rfl]; rfl
        have hts : t.size = c.kidsT.length := by rw [← hbt, bytesL_length]
        have z1 : (⟨#[40]⟩ : ByteArray).size = 1 := rfl
        have z2 : (⟨#[41]⟩ : ByteArray).size = 1 := rfl
        rw [t1]
        simp only [Option.bind_some]
        rw [cat_ok2 (by rw [z1]; omega)]
        simp only [Option.bind_some]
        rw [cat_ok2 (by rw [ByteArray.size_append, z1, z2]; omega)]
        refine ⟨_, rfl, ?_, by rw [ByteArray.size_append, ByteArray.size_append, z1, z2]; omega⟩
        rw [b_cat, b_cat, hbt]
        first
          | rw [if_pos rfl]; rfl
          | rw [if_pos trivial]; rfl
      · rcases h34 with rfl | rfl
        · rw [if_pos (by rfl), if_neg (by decide)]
          exact ⟨s, rfl, rfl, by omega⟩
        · rw [if_neg (by decide), if_pos (by rfl), if_neg (by decide)]
          obtain ⟨q, q1, q2, q3⟩ := Quote_list (s := s) (by omega)
          rw [q1]
          exact ⟨q, rfl, by rw [q2]; rfl, by omega⟩
    obtain ⟨t, t1, t2, t3⟩ := hone
    have hT : (Fo.nd k s a c r).kidsT = (Fo.nd k s a c r).oneT ++ (if r.cnt = 0 then [] else 32 :: r.kidsT) := rfl
    rw [posF, tree_one.l1]
    have e3 : l = (pre ++ (⟨k, s, (c.cnt : Int), a⟩ :: c.flat)) ++ (r.flat ++ post) := by rw [hl]; simp [Fo.flat]
    have hp2 : (pre ++ ((⟨k, s, (c.cnt : Int), a⟩ : T_api_Node) :: c.flat)).length = pre.length + 1 + c.flat.length := by simp; omega
    have z : (⟨#[32]⟩ : ByteArray).size = 1 := rfl
    by_cases hj0 : j = 0
    · subst hj0
      rw [if_neg (by simp), t1]
      simp only [Option.bind_some]
      rw [cat_ok2 (by omega)]
      simp only [Option.bind_some]
      obtain ⟨u, u1, u2⟩ := one_ok r hw.2.2 hgr (pre ++ (⟨k, s, (c.cnt : Int), a⟩ :: c.flat)) post l (n + 1) (0 + 1) (s0 ++ t) e3 h1 (by omega) (by rw [ByteArray.size_append]; omega)
      rw [hp2] at u1
      refine ⟨u, u1, ?_⟩
      rw [u2, b_cat, t2, Fo.cnt, if_neg (show ¬ (r.cnt + 1 = 0) by omega), hT]
      by_cases hr : r.cnt = 0 <;> simp [hr]
    · rw [if_pos (by rw [decide_eq_true_eq]; omega), cat_ok2 (by rw [z]; omega)]
      simp only [Option.bind_some, t1]
      rw [cat_ok2 (by rw [ByteArray.size_append, z]; omega)]
      simp only [Option.bind_some]
      obtain ⟨u, u1, u2⟩ := one_ok r hw.2.2 hgr (pre ++ (⟨k, s, (c.cnt : Int), a⟩ :: c.flat)) post l (n + 1) (j + 1) (s0 ++ (⟨#[32]⟩ : ByteArray) ++ t) e3 h1 (by omega) (by rw [ByteArray.size_append, ByteArray.size_append, z]; omega)
      rw [hp2] at u1
      refine ⟨u, u1, ?_⟩
      rw [u2, b_cat, b_cat, t2, Fo.cnt, if_neg (show ¬ (r.cnt + 1 = 0) by omega), if_neg hj0, hT, show bytesL (⟨#[32]⟩ : ByteArray) = [32] from rfl]
      by_cases hr : r.cnt = 0 <;> simp [hr]
end Go.Proofs.Ytbnohlgchjcjhaa.M

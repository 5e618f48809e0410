/-
  Plain laws of trees: any nodes, and the forests that stand in them; the document's places. Own text.
-/
import Derived.Test.YtbnohlgchjcjhaaPTree6
namespace Go.Proofs.Ytbnohlgchjcjhaa.M
open Go Go.Proofs Go.Proofs.Ytbnohlgchjcjhaa.V
set_option linter.unusedVariables false

theorem Fo.split : ∀ (f : Fo) (n : Nat), n ≤ f.cnt → ∃ g h : Fo, f = g.app h ∧ g.cnt = n
  | f, 0, _ => ⟨.nil, f, rfl, rfl⟩
  | .nil, n + 1, h => by simp [Fo.cnt] at h
  | .nd k s a c r, n + 1, h => by
    rw [Fo.cnt] at h
    obtain ⟨g, h', e, q⟩ := Fo.split r n (by omega)
    exact ⟨.nd k s a c g, h', by rw [Fo.app, ← e], by rw [Fo.cnt, q]⟩

/-- Where a tree ends: as the document says; behind it stand trees. -/
theorem end_dec (l : List T_api_Node) (h : l.length ≤ 1000000) : ∀ (m i w n n' : Nat), l.length ≤ i + m → m < n → m < n' → 1 ≤ w → w + m * 1000000 ≤ 1000000000000000 →
    ref02_End.l1 l n' (w : Int) (i : Int) = tree_End.l1 l n (i : Int) (w : Int) ∧
    (tree_End.l1 l n (i : Int) (w : Int) = some (Out.go ()) ∨ tree_End.l1 l n (i : Int) (w : Int) = some (Out.ret (-1)) ∨
      ∃ (f : Fo) (pre post : List T_api_Node), l = pre ++ (f.flat ++ post) ∧ pre.length = i ∧ f.cnt = w ∧ tree_End.l1 l n (i : Int) (w : Int) = some (Out.ret ((i + f.flat.length : Nat) : Int))) := by
  intro m
  induction m with
  | zero =>
    intro i w n n' h1 h2 h3 h4 h5
    obtain ⟨n, rfl⟩ : ∃ q, n = q + 1 := ⟨n - 1, by omega⟩
    obtain ⟨n', rfl⟩ : ∃ q, n' = q + 1 := ⟨n' - 1, by omega⟩
    rw [ref02_End.l1, tree_End.l1, if_neg (by simp; omega), if_neg (by simp; omega)]
    exact ⟨rfl, .inl rfl⟩
  | succ m ih =>
    intro i w n n' h1 h2 h3 h4 h5
    obtain ⟨n, rfl⟩ : ∃ q, n = q + 1 := ⟨n - 1, by omega⟩
    obtain ⟨n', rfl⟩ : ∃ q, n' = q + 1 := ⟨n' - 1, by omega⟩
    by_cases hi : i < l.length
    · rw [ref02_End.l1, tree_End.l1, if_pos (dlt hi), if_pos (dlt hi), glk hi]
      simp only [Option.bind_some]
      generalize hx : l[i] = x
      have hl : l = l.take i ++ x :: l.drop (i + 1) := by rw [← hx, ← List.drop_eq_getElem_cons hi, List.take_append_drop]
      have htl : (l.take i).length = i := by rw [List.length_take]; omega
      by_cases h0 : x.Kids < 0
      · have a1 : decide (x.Kids < 0) = true := by simpa using h0
        rw [a1]
        exact ⟨rfl, .inr (.inl rfl)⟩
      · have a1 : decide (x.Kids < 0) = false := by simpa using h0
        simp only [a1, Bool.false_or, Bool.false_eq_true, if_false, Option.bind_some]
        by_cases h0' : x.Kids > (l.length : Int)
        · have a2 : decide (x.Kids > (l.length : Int)) = true := by simpa using h0'
          simp only [a2, if_true]
          exact ⟨trivial, .inr (.inl trivial)⟩
        · have a2 : decide (x.Kids > (l.length : Int)) = false := by simpa using h0'
          simp only [a2, Bool.false_eq_true, if_false]
          obtain ⟨c, hc⟩ : ∃ c : Nat, x.Kids = (c : Int) := ⟨x.Kids.toNat, by omega⟩
          rw [hc, wk1 (by omega), w_eq (x := (w : Int) - 1) (by omega) (by omega), w_eq (x := (w : Int) - 1 + (c : Int)) (by omega) (by omega), w_eq (x := (c : Int) - 1) (by omega) (by omega), w_eq (x := (w : Int) + ((c : Int) - 1)) (by omega) (by omega)]
          have e1 : (w : Int) - 1 + (c : Int) = ((w - 1 + c : Nat) : Int) := by omega
          have e2 : (w : Int) + ((c : Int) - 1) = ((w - 1 + c : Nat) : Int) := by omega
          rw [e1, e2]
          by_cases hz : w - 1 + c = 0
          · have b1 : (((w - 1 + c : Nat) : Int) == 0) = true := by simp; omega
            simp only [b1, if_true]
            refine ⟨trivial, .inr (.inr ⟨.nd x.Kind x.Text x.At .nil .nil, l.take i, l.drop (i + 1), ?_, htl, by simp only [Fo.cnt]; omega, by simp [Fo.flat]⟩)⟩
            have : x = ⟨x.Kind, x.Text, ((Fo.nil.cnt : Nat) : Int), x.At⟩ := by
              have : x.Kids = ((Fo.nil.cnt : Nat) : Int) := by rw [hc]; simp only [Fo.cnt]; omega
              rw [← this]
            simp only [Fo.flat, List.append_nil]
            rw [List.singleton_append, ← this]
            exact hl
          · have b1 : (((w - 1 + c : Nat) : Int) == 0) = false := by simp; omega
            simp only [b1, Bool.false_eq_true, if_false]
            obtain ⟨g1, g2⟩ := ih (i + 1) (w - 1 + c) n n' (by omega) (by omega) (by omega) (by omega) (by omega)
            refine ⟨g1, ?_⟩
            rcases g2 with g2 | g2 | ⟨f, pre, post, p1, p2, p3, p4⟩
            · exact .inl g2
            · exact .inr (.inl g2)
            · obtain ⟨g, r, rfl, hg⟩ := Fo.split f c (by omega)
              rw [Fo.cnt_app] at p3
              refine .inr (.inr ⟨.nd x.Kind x.Text x.At g r, l.take i, post, ?_, htl, by rw [Fo.cnt]; omega, ?_⟩)
              · have hx' : x = ⟨x.Kind, x.Text, (g.cnt : Int), x.At⟩ := by rw [hg, ← hc]
                have e3 : l.drop (i + 1) = (g.app r).flat ++ post := by
                  have : l.drop (i + 1) = (pre ++ ((g.app r).flat ++ post)).drop pre.length := by rw [← p1, p2]
                  rw [this, List.drop_left']
                  rfl
                rw [Fo.flat, ← hx', List.cons_append, ← Fo.flat_app, ← e3]
                exact hl
              · rw [p4, Fo.flat_app, Fo.flat]
                congr 3
                simp only [List.length_append, List.length_cons]
                omega
    · rw [ref02_End.l1, tree_End.l1, if_neg (by simp; omega), if_neg (by simp; omega)]
      exact ⟨rfl, .inl rfl⟩

/-- Where a tree ends. -/
theorem End_dec (l : List T_api_Node) (h : l.length ≤ 1000000) (i : Int) : ref02_End l i = tree_End l i ∧ (tree_End l i = some (-1) ∨
    ∃ (k : Int) (s : ByteArray) (a : Int) (c : Fo) (pre post : List T_api_Node), l = pre ++ ((Fo.nd k s a c .nil).flat ++ post) ∧ i = (pre.length : Int) ∧ tree_End l i = some ((pre.length + (c.flat.length + 1) : Nat) : Int)) := by
  unfold ref02_End tree_End
  by_cases h0 : i < 0
  · rw [if_pos (by simpa using h0), if_pos (by simpa using h0)]
    exact ⟨rfl, .inl rfl⟩
  · rw [if_neg (by simpa using h0), if_neg (by simpa using h0)]
    obtain ⟨i, rfl⟩ : ∃ j : Nat, i = (j : Int) := ⟨i.toNat, by omega⟩
    obtain ⟨g1, g2⟩ := end_dec l h l.length i 1 FU FU (by omega) (by unfold FU; omega) (by unfold FU; omega) (by omega) (by omega)
    have g1' : ref02_End.l1 l FU 1 (i : Int) = tree_End.l1 l FU (i : Int) 1 := g1
    rw [g1']
    refine ⟨rfl, ?_⟩
    rcases g2 with g2 | g2 | ⟨f, pre, post, p1, p2, p3, p4⟩
    · have g2' : tree_End.l1 l FU (i : Int) 1 = _ := g2
      rw [g2']; exact .inl rfl
    · have g2' : tree_End.l1 l FU (i : Int) 1 = _ := g2
      rw [g2']; exact .inl rfl
    · have p4' : tree_End.l1 l FU (i : Int) 1 = _ := p4
      rw [p4']
      right
      cases f with
      | nil => simp [Fo.cnt] at p3
      | nd k s a c r =>
        rw [Fo.cnt] at p3
        have : r = .nil := cnt_zero (by omega)
        subst this
        refine ⟨k, s, a, c, pre, post, p1, by omega, ?_⟩
        rw [← p2]
        simp [Fo.flat, Out.on]

/-! kids -/
theorem rkids_l1 (l : List T_api_Node) (h : l.length ≤ 1000000) (i : Int) (x : T_api_Node) (hx : V.gl l i = some x) : ∀ (r : Fo) (pre post : List T_api_Node) (n kk : Nat) (acc : List Int), x.Kids = ((kk + r.cnt : Nat) : Int) → l = pre ++ (r.flat ++ post) → acc.length + r.cnt ≤ 10000000 → r.cnt < n → kk + r.cnt ≤ 10000000 →
    ref02_Kids.l1 l i n acc (pre.length : Int) (kk : Int) = some (acc ++ posF pre.length r)
  | .nil, pre, post, n, kk, acc, h1, h2, h3, h4, h5 => by
    obtain ⟨n, rfl⟩ : ∃ q, n = q + 1 := ⟨n - 1, by omega⟩
    rw [ref02_Kids.l1, hx]
    simp only [Option.bind_some]
    rw [if_neg (by rw [h1]; simp [Fo.cnt]), posF, List.append_nil]
  | .nd k s a c r, pre, post, n, kk, acc, h1, h2, h3, h4, h5 => by
    obtain ⟨n, rfl⟩ : ∃ q, n = q + 1 := ⟨n - 1, by omega⟩
    rw [Fo.cnt] at h1 h3 h4 h5
    have e1 : l = pre ++ ((Fo.nd k s a c .nil).flat ++ (r.flat ++ post)) := by rw [h2]; simp [Fo.flat]
    rw [ref02_Kids.l1, hx]
    simp only [Option.bind_some]
    rw [if_pos (by rw [h1, decide_eq_true_eq]; omega)]
    have hap : V.ap 8 acc [(pre.length : Int)] = some (acc ++ [(pre.length : Int)]) := by
      unfold V.ap
      rw [if_pos ⟨by simp only [List.length_cons, List.length_nil]; unfold maxLen; omega, by simp only [List.length_cons, List.length_nil]; omega⟩]
    rw [hap]
    simp only [Option.bind_some]
    rw [(End_dec l h _).1, End_tree e1 h]
    simp only [Option.bind_some]
    rw [wk1 (by omega)]
    have e2 : l = (pre ++ (⟨k, s, (c.cnt : Int), a⟩ :: c.flat)) ++ (r.flat ++ post) := by rw [h2]; simp [Fo.flat]
    have hp2 : (pre ++ ((⟨k, s, (c.cnt : Int), a⟩ : T_api_Node) :: c.flat)).length = pre.length + (c.flat.length + 1) := by simp
    have := rkids_l1 l h i x hx r _ post n (kk + 1) (acc ++ [(pre.length : Int)]) (by rw [h1]; omega) e2 (by simp; omega) (by omega) (by omega)
    rw [hp2] at this
    rw [this, posF, List.append_assoc, List.singleton_append, show pre.length + (c.flat.length + 1) = pre.length + 1 + c.flat.length by omega]

theorem rKids_flat {k : Int} {s : ByteArray} {a : Int} {c : Fo} {pre post l : List T_api_Node} (hl : l = pre ++ ((Fo.nd k s a c .nil).flat ++ post)) (h1 : l.length ≤ 1000000) : ref02_Kids l (pre.length : Int) = some (posF (pre.length + 1) c) := by
  unfold ref02_Kids
  have hlen : l.length = pre.length + (c.flat.length + 1) + post.length := by rw [hl]; simp [Fo.flat]; omega
  rw [(End_dec l h1 _).1, End_tree hl h1]
  simp only [Option.bind_some]
  rw [if_neg (by rw [decide_eq_true_eq]; omega), wk1 (by omega)]
  have hcc := Fo.cnt_flat c
  have hg : V.gl l (pre.length : Int) = some ⟨k, s, (c.cnt : Int), a⟩ := by
    rw [glk (by omega)]; simp [hl, Fo.flat]
  have e2 : l = (pre ++ [⟨k, s, (c.cnt : Int), a⟩]) ++ (c.flat ++ post) := by rw [hl]; simp [Fo.flat]
  have hp1 : (pre ++ [(⟨k, s, (c.cnt : Int), a⟩ : T_api_Node)]).length = pre.length + 1 := by simp
  have := rkids_l1 l h1 _ _ hg c _ post FU 0 [] (by simp) e2 (by simp; omega) (by unfold FU; omega) (by omega)
  rw [hp1] at this
  rw [show ref02_Kids.l1 l (pre.length : Int) FU [] ((pre.length + 1 : Nat) : Int) 0 = _ from this]
  rfl

/-- A node's kids: as the document says. -/
theorem Kids_same (l : List T_api_Node) (h : l.length ≤ 1000000) (i : Int) : ∃ r, tree_Kids l i = some r ∧ ref02_Kids l i = some r ∧ r.length ≤ 1000000 := by
  obtain ⟨g1, g2⟩ := End_dec l h i
  rcases g2 with g2 | ⟨k, s, a, c, pre, post, p1, p2, p3⟩
  · refine ⟨[], ?_, ?_, by simp⟩
    · unfold tree_Kids; rw [g2]; rfl
    · unfold ref02_Kids; rw [g1, g2]; rfl
  · subst p2
    have hcc := Fo.cnt_flat c
    have hlen : l.length = pre.length + (c.flat.length + 1) + post.length := by rw [p1]; simp [Fo.flat]; omega
    exact ⟨_, Kids_flat p1 h, rKids_flat p1 h, by rw [posF_len]; omega⟩

/-! trees, one behind the other -/
theorem cwalk_fo : ∀ (f : Fo) (pre post l : List T_api_Node) (n : Nat), l = pre ++ (f.flat ++ post) → l.length ≤ 1000000 → f.cnt < n →
    tree_walk_tree_Check_1.l1 l ((pre.length + f.flat.length : Nat) : Int) n (pre.length : Int) = some (Out.go ())
  | .nil, pre, post, l, n, hl, h1, h3 => by
    obtain ⟨n, rfl⟩ : ∃ q, n = q + 1 := ⟨n - 1, by omega⟩
    rw [tree_walk_tree_Check_1.l1, if_neg (by simp [Fo.flat])]
  | .nd k s a c r, pre, post, l, n, hl, h1, h3 => by
    obtain ⟨n, rfl⟩ : ∃ q, n = q + 1 := ⟨n - 1, by omega⟩
    have hfl : (Fo.nd k s a c r).flat.length = c.flat.length + r.flat.length + 1 := by simp [Fo.flat]
    rw [Fo.cnt] at h3
    have e1 : l = pre ++ ((Fo.nd k s a c .nil).flat ++ (r.flat ++ post)) := by rw [hl]; simp [Fo.flat]
    rw [tree_walk_tree_Check_1.l1, if_pos (by rw [decide_eq_true_eq, hfl]; omega), End_tree e1 h1]
    simp only [Option.bind_some]
    rw [if_neg (by rw [decide_eq_true_eq]; omega)]
    show (some ()).bind _ = _
    simp only [Option.bind_some]
    have e2 : l = (pre ++ (⟨k, s, (c.cnt : Int), a⟩ :: c.flat)) ++ (r.flat ++ post) := by rw [hl]; simp [Fo.flat]
    have hp2 : (pre ++ ((⟨k, s, (c.cnt : Int), a⟩ : T_api_Node) :: c.flat)).length = pre.length + (c.flat.length + 1) := by simp
    have ih := cwalk_fo r _ post l n e2 h1 (by omega)
    rw [hp2] at ih
    rw [hfl, show pre.length + (c.flat.length + r.flat.length + 1) = pre.length + (c.flat.length + 1) + r.flat.length by omega, ih]

theorem rtops_fo : ∀ (f : Fo) (pre l : List T_api_Node) (n : Nat) (acc : List Int), l = pre ++ f.flat → l.length ≤ 1000000 → f.cnt < n → acc.length + f.cnt ≤ 10000000 →
    ref02_Tops.l1 l n acc (pre.length : Int) = some (Out.go (acc ++ posF pre.length f))
  | .nil, pre, l, n, acc, hl, h1, h3, h4 => by
    obtain ⟨n, rfl⟩ : ∃ q, n = q + 1 := ⟨n - 1, by omega⟩
    rw [ref02_Tops.l1, if_neg (by simp [hl, Fo.flat]), posF, List.append_nil]
  | .nd k s a c r, pre, l, n, acc, hl, h1, h3, h4 => by
    obtain ⟨n, rfl⟩ : ∃ q, n = q + 1 := ⟨n - 1, by omega⟩
    rw [Fo.cnt] at h3 h4
    have hlen : l.length = pre.length + (c.flat.length + r.flat.length + 1) := by rw [hl]; simp [Fo.flat]
    have e1 : l = pre ++ ((Fo.nd k s a c .nil).flat ++ r.flat) := by rw [hl]; simp [Fo.flat]
    rw [ref02_Tops.l1, if_pos (by rw [decide_eq_true_eq, hlen]; omega), (End_dec l h1 _).1, End_tree e1 h1]
    simp only [Option.bind_some]
    rw [if_neg (by rw [decide_eq_true_eq]; omega)]
    have hap : V.ap 8 acc [(pre.length : Int)] = some (acc ++ [(pre.length : Int)]) := by
      unfold V.ap
      rw [if_pos ⟨by simp only [List.length_cons, List.length_nil]; unfold maxLen; omega, by simp only [List.length_cons, List.length_nil]; omega⟩]
    rw [hap]
    simp only [Option.bind_some]
    have e2 : l = (pre ++ (⟨k, s, (c.cnt : Int), a⟩ :: c.flat)) ++ r.flat := by rw [hl]; simp [Fo.flat]
    have hp2 : (pre ++ ((⟨k, s, (c.cnt : Int), a⟩ : T_api_Node) :: c.flat)).length = pre.length + (c.flat.length + 1) := by simp
    have ih := rtops_fo r _ l n (acc ++ [(pre.length : Int)]) e2 h1 (by omega) (by simp; omega)
    rw [hp2] at ih
    rw [ih, posF, List.append_assoc, List.singleton_append, show pre.length + (c.flat.length + 1) = pre.length + 1 + c.flat.length by omega]

theorem walk_dec (l : List T_api_Node) (h : l.length ≤ 1000000) : ∀ (m p : Nat), p ≤ l.length → l.length ≤ p + m → (∃ (f : Fo) (pre : List T_api_Node), l = pre ++ f.flat ∧ pre.length = p) ∨
    (p < l.length ∧ ∀ (n : Nat) (acc : List Int), m < n → acc.length + m ≤ 10000000 → (∃ acc', tree_walk_tree_places_1.l1 l (l.length : Int) n (p : Int) acc = some (Out.ret (false, acc'))) ∧ tree_walk_tree_Check_1.l1 l (l.length : Int) n (p : Int) = some (Out.ret false) ∧ ref02_Tops.l1 l n acc (p : Int) = some (Out.ret [])) := by
  intro m
  induction m with
  | zero =>
    intro p h1 h2
    exact .inl ⟨.nil, l, by simp [Fo.flat], by omega⟩
  | succ m ih =>
    intro p h1 h2
    by_cases hp : p < l.length
    · obtain ⟨g1, g2⟩ := End_dec l h (p : Int)
      rcases g2 with g2 | ⟨k, s, a, c, pre, post, p1, p2, p3⟩
      · right
        refine ⟨hp, fun n acc hn hacc => ?_⟩
        obtain ⟨n, rfl⟩ : ∃ q, n = q + 1 := ⟨n - 1, by omega⟩
        rw [tree_walk_tree_places_1.l1, tree_walk_tree_Check_1.l1, ref02_Tops.l1, if_pos (dlt hp), if_pos (dlt hp), if_pos (dlt hp), g1, g2]
        exact ⟨⟨acc, rfl⟩, rfl, rfl⟩
      · have hpl : pre.length = p := by omega
        subst hpl
        have hlen : l.length = pre.length + (c.flat.length + 1) + post.length := by rw [p1]; simp [Fo.flat]; omega
        have hfl : (Fo.nd k s a c .nil).flat.length = c.flat.length + 1 := by simp [Fo.flat]
        rcases ih (pre.length + (c.flat.length + 1)) (by omega) (by omega) with ⟨f, pre', q1, q2⟩ | ⟨q1, q2⟩
        · left
          have : post = f.flat := by
            have e : l.drop (pre.length + (c.flat.length + 1)) = f.flat := by
              rw [← q2, q1, List.drop_left']; rfl
            rw [← e, p1, ← List.append_assoc, List.drop_left' (by rw [List.length_append, hfl])]
          refine ⟨.nd k s a c f, pre, ?_, rfl⟩
          rw [p1, this]
          simp [Fo.flat]
        · right
          refine ⟨hp, fun n acc hn hacc => ?_⟩
          obtain ⟨n, rfl⟩ : ∃ q, n = q + 1 := ⟨n - 1, by omega⟩
          rw [tree_walk_tree_places_1.l1, tree_walk_tree_Check_1.l1, ref02_Tops.l1, if_pos (dlt hp), if_pos (dlt hp), if_pos (dlt hp), g1, p3]
          simp only [Option.bind_some]
          rw [if_neg (by rw [decide_eq_true_eq]; omega)]
          have hap : V.ap 8 acc [(pre.length : Int)] = some (acc ++ [(pre.length : Int)]) := by
            unfold V.ap
            rw [if_pos ⟨by simp only [List.length_cons, List.length_nil]; unfold maxLen; omega, by simp only [List.length_cons, List.length_nil]; omega⟩]
          unfold tree_places_1
          rw [hap]
          simp only [Option.bind_some]
          obtain ⟨⟨acc', r1⟩, r2, r3⟩ := q2 n (acc ++ [(pre.length : Int)]) (by omega) (by simp; omega)
          exact ⟨⟨acc', r1⟩, r2, r3⟩
    · exact .inl ⟨.nil, l, by simp [Fo.flat], by omega⟩

/-- Any nodes: a forest's, or no trees. -/
theorem nodes_dec (l : List T_api_Node) (h : l.length ≤ 1000000) :
    (∃ f : Fo, l = f.flat ∧ tree_Tops l = some (posF 0 f) ∧ ref02_Tops l = some (posF 0 f) ∧ tree_walk_tree_Check_1 l 0 (l.length : Int) = some true) ∨
    (0 < l.length ∧ tree_Tops l = some [] ∧ ref02_Tops l = some [] ∧ tree_walk_tree_Check_1 l 0 (l.length : Int) = some false) := by
  rcases walk_dec l h l.length 0 (Nat.zero_le _) (by omega) with ⟨f, pre, h1, h2⟩ | ⟨h1, h2⟩
  · left
    obtain rfl : pre = [] := List.eq_nil_of_length_eq_zero h2
    rw [List.nil_append] at h1
    subst h1
    have hc := Fo.cnt_flat f
    refine ⟨f, rfl, Tops_flat f h, ?_, ?_⟩
    · unfold ref02_Tops
      have := rtops_fo f [] f.flat FU [] (by simp) h (by unfold FU; omega) (by simp; omega)
      rw [show ref02_Tops.l1 f.flat FU [] 0 = _ from this]; rfl
    · unfold tree_walk_tree_Check_1
      have := cwalk_fo f [] [] f.flat FU (by simp) h (by unfold FU; omega)
      rw [List.length_nil, Nat.zero_add] at this
      rw [show tree_walk_tree_Check_1.l1 f.flat (f.flat.length : Int) FU 0 = _ from this]; rfl
  · right
    obtain ⟨⟨acc', r1⟩, r2, r3⟩ := h2 FU [] (by unfold FU; omega) (by simp; omega)
    refine ⟨h1, ?_, ?_, ?_⟩
    · unfold tree_Tops tree_places tree_walk_tree_places_1
      rw [show tree_walk_tree_places_1.l1 l (l.length : Int) FU 0 [] = _ from r1]; rfl
    · unfold ref02_Tops
      rw [show ref02_Tops.l1 l FU [] 0 = _ from r3]; rfl
    · unfold tree_walk_tree_Check_1
      rw [show tree_walk_tree_Check_1.l1 l (l.length : Int) FU 0 = _ from r2]; rfl
end Go.Proofs.Ytbnohlgchjcjhaa.M

/-
  Plain laws of trees: how deep lists stand in one another. Own text.
-/
import Derived.Test.YtbnohlgchjcjhaaPTree3
namespace Go.Proofs.Ytbnohlgchjcjhaa.M
open Go Go.Proofs Go.Proofs.Ytbnohlgchjcjhaa.V
set_option linter.unusedVariables false

/-- What is open, the innermost first: lists that are whole are let go. -/
def nrm : List Nat → List Nat
  | [] => []
  | v :: S => if v = 1 then (match S with | [] => [] | u :: T => nrm ((u - 1) :: T)) else v :: S
termination_by S => S.length
theorem nrm_nil : nrm [] = [] := by rw [nrm]
theorem nrm_one : nrm [1] = [] := by rw [nrm]; rfl
theorem nrm_pop (u : Nat) (T : List Nat) : nrm (1 :: u :: T) = nrm ((u - 1) :: T) := by rw [nrm]; rfl
theorem nrm_stay {v : Nat} (h : v ≠ 1) (S : List Nat) : nrm (v :: S) = v :: S := by rw [nrm.eq_def]; simp only [if_neg h]
def opI (S : List Nat) : List Int := (List.map (fun v : Nat => (v : Int)) S).reverse
theorem opI_cons (v : Nat) (S : List Nat) : opI (v :: S) = opI S ++ [(v : Int)] := by simp [opI]
theorem opI_len (S : List Nat) : (opI S).length = S.length := by simp [opI]

theorem len_last {l : List Int} {x : Int} (hl : l.length < 1000000) : IntKind.i64.wrap (((l ++ [x]).length : Int) - 1) = (l.length : Int) := by
  have e : ((l ++ [x]).length : Int) - 1 = (l.length : Int) := by simp
  rw [e, w_eq (by omega) (by omega)]
theorem gl_last {l : List Int} {x : Int} (hl : l.length < 1000000) : V.gl (l ++ [x]) (IntKind.i64.wrap (((l ++ [x]).length : Int) - 1)) = some x := by
  rw [len_last hl, glk (by simp)]
  simp
theorem sl_last {l : List Int} {x : Int} (hl : l.length < 1000000) : V.sl (l ++ [x]) none (some (IntKind.i64.wrap (((l ++ [x]).length : Int) - 1))) = some l := by
  rw [len_last hl]
  unfold V.sl
  rw [if_pos ⟨⟨by simp, by simp⟩, by simp [lowN, highN], by simp [highN]⟩]
  simp [lowN, highN]
theorem set_last {l : List Int} {x y : Int} (hl : l.length < 1000000) : List.set (l ++ [x]) (IntKind.i64.wrap (((l ++ [x]).length : Int) - 1)).toNat y = l ++ [y] := by
  rw [len_last hl, show ((l.length : Nat) : Int).toNat = l.length by simp]
  rw [List.set_append_right _ _ (Nat.le_refl _)]; simp

theorem lists_l2 : ∀ (m : Nat) (S : List Nat) (n : Nat), S.length ≤ m → m < n → S.length < 1000000 → (∀ v, v ∈ S → 1 ≤ v ∧ v ≤ 1000000000) → (∀ v, v ∈ S.tail → 2 ≤ v) → tree_lists.l2 n (opI S) = some (opI (nrm S)) := by
  intro m
  induction m with
  | zero =>
    intro S n h1 h2 h3 h4 h5
    obtain ⟨n, rfl⟩ : ∃ q, n = q + 1 := ⟨n - 1, by omega⟩
    obtain rfl : S = [] := List.eq_nil_of_length_eq_zero (by omega)
    rw [nrm_nil, tree_lists.l2, if_neg (by simp [opI])]; rfl
  | succ m ih =>
    intro S n h1 h2 h3 h4 h5
    obtain ⟨n, rfl⟩ : ∃ q, n = q + 1 := ⟨n - 1, by omega⟩
    cases S with
    | nil => rw [nrm_nil, tree_lists.l2, if_neg (by simp [opI])]; rfl
    | cons v S =>
      rw [List.length_cons] at h1 h3
      have hol := opI_len S
      rw [opI_cons, tree_lists.l2, if_pos (by simp), gl_last (by omega)]
      simp only [Option.bind_some]
      by_cases hv : v = 1
      · subst hv
        rw [if_pos (by simp), sl_last (by omega)]
        simp only [Option.bind_some]
        cases S with
        | nil =>
          rw [nrm_one, if_neg (by simp [opI])]
          exact ih [] n (by simp) (by omega) (by simp) (by simp) (by simp) |>.trans (by rw [nrm_nil])
        | cons u T =>
          have hT := opI_len T
          simp only [List.length_cons] at h1 h3
          have hu := h4 u (by simp)
          have hu2 := h5 u (by simp)
          rw [opI_cons, if_pos (by simp), gl_last (by omega)]
          simp only [Option.bind_some]
          rw [set_last (by omega), w_eq (x := (u : Int) - 1) (by omega) (by omega), show (u : Int) - 1 = ((u - 1 : Nat) : Int) by omega, ← opI_cons, nrm_pop]
          refine ih ((u - 1) :: T) n (by simp; omega) (by omega) (by simp; omega) (fun w hw => ?_) (fun w hw => h5 w (by simp; exact .inr hw))
          rcases List.mem_cons.1 hw with rfl | hw
          · omega
          · exact h4 w (by simp [hw])
      · rw [if_neg (by rw [beq_iff_eq]; omega), nrm_stay hv, opI_cons]

def decT : List Nat → List Nat
  | [] => []
  | v :: S => (v - 1) :: S
/-- One node more. -/
def stepS (p : List Nat × Nat) (x : T_api_Node) : List Nat × Nat :=
  if x.Kind = 5 then (nrm ((x.Kids.toNat + 1) :: p.1), max p.2 (p.1.length + 1))
  else (nrm (decT p.1), p.2)
def okS (S : List Nat) : Prop := ∀ v, v ∈ S → 2 ≤ v ∧ v ≤ 1000000000
theorem nrm_ok : ∀ (m : Nat) (S : List Nat), S.length ≤ m → (∀ v, v ∈ S → 1 ≤ v ∧ v ≤ 1000000000) → (∀ v, v ∈ S.tail → 2 ≤ v) → okS (nrm S) ∧ (nrm S).length ≤ S.length := by
  intro m
  induction m with
  | zero =>
    intro S h1 h2 h3
    obtain rfl : S = [] := List.eq_nil_of_length_eq_zero (by omega)
    rw [nrm_nil]; exact ⟨fun v hv => (by cases hv), Nat.le_refl _⟩
  | succ m ih =>
    intro S h1 h2 h3
    cases S with
    | nil => rw [nrm_nil]; exact ⟨fun v hv => (by cases hv), Nat.le_refl _⟩
    | cons v S =>
      by_cases hv : v = 1
      · subst hv
        cases S with
        | nil => rw [nrm_one]; exact ⟨fun v hv => (by cases hv), by simp⟩
        | cons u T =>
          rw [nrm_pop]
          have hu := h2 u (by simp)
          have hu2 := h3 u (by simp)
          obtain ⟨i1, i2⟩ := ih ((u - 1) :: T) (by simp at h1 ⊢; omega) (fun w hw => by
            rcases List.mem_cons.1 hw with rfl | hw
            · omega
            · exact h2 w (by simp [hw])) (fun w hw => h3 w (by simp; exact .inr hw))
          exact ⟨i1, by simp at i2 ⊢; omega⟩
      · rw [nrm_stay hv]
        refine ⟨fun w hw => ?_, Nat.le_refl _⟩
        have hw' := h2 w hw
        rcases List.mem_cons.1 hw with rfl | hw
        · omega
        · have := h3 w (by simpa using hw); omega

theorem lists_l1 : ∀ (l : List T_api_Node) (k : Nat) (S : List Nat) (m : Nat), okS S → S.length + l.length ≤ 100000 → m ≤ 1000000 → (∀ x, x ∈ l → 0 ≤ x.Kids ∧ x.Kids ≤ 100000) → tree_lists.l1 l k (opI S) (m : Int) = some ((l.foldl stepS (S, m)).2 : Int)
  | [], k, S, m, _, _, _, _ => rfl
  | x :: l, k, S, m, hS, hl, hm, hk => by
    rw [List.length_cons] at hl
    have hx := hk x (List.mem_cons_self ..)
    have hkl : ∀ y, y ∈ l → 0 ≤ y.Kids ∧ y.Kids ≤ 100000 := fun y hy => hk y (List.mem_cons_of_mem _ hy)
    have hol := opI_len S
    rw [tree_lists.l1, List.foldl_cons]
    by_cases h5 : x.Kind = 5
    · rw [if_pos (by simpa using h5)]
      have hap : V.ap 8 (opI S) [(IntKind.i64.wrap (x.Kids + (1 : Int)))] = some (opI ((x.Kids.toNat + 1) :: S)) := by
        unfold V.ap
        rw [if_pos ⟨by simp only [List.length_cons, List.length_nil]; unfold maxLen; omega, by simp only [List.length_cons, List.length_nil]; omega⟩, opI_cons, w_eq (by omega) (by omega)]
        congr 3
        omega
      rw [hap]
      simp only [Option.bind_some]
      have hok1 : ∀ v, v ∈ (x.Kids.toNat + 1) :: S → 1 ≤ v ∧ v ≤ 1000000000 := fun v hv => by
        rcases List.mem_cons.1 hv with rfl | hv
        · omega
        · have := hS v hv; omega
      have hok2 : ∀ v, v ∈ ((x.Kids.toNat + 1) :: S).tail → 2 ≤ v := fun v hv => (hS v (by simpa using hv)).1
      rw [lists_l2 ((x.Kids.toNat + 1) :: S).length _ FU (Nat.le_refl _) (by simp; unfold FU; omega) (by simp; omega) hok1 hok2]
      simp only [Option.bind_some]
      obtain ⟨n1, n2⟩ := nrm_ok _ _ (Nat.le_refl _) hok1 hok2
      have e : max (m : Int) ((opI ((x.Kids.toNat + 1) :: S)).length : Int) = ((max m (S.length + 1) : Nat) : Int) := by rw [opI_len]; simp; omega
      rw [e, lists_l1 l (k + 1) _ _ n1 (by simp at n2; omega) (by omega) hkl]
      unfold stepS
      rw [if_pos h5]
    · rw [if_neg (by simpa using h5)]
      have hdec : (if (decide (((opI S).length : Int) > (0 : Int))) = true then
          (V.gl (opI S) (IntKind.i64.wrap (((opI S).length : Int) - (1 : Int)))).bind fun x2 => (V.gl (opI S) (IntKind.i64.wrap (((opI S).length : Int) - (1 : Int)))).bind fun x3 =>
          some ((List.set (opI S) ((IntKind.i64.wrap (((opI S).length : Int) - (1 : Int)))).toNat (IntKind.i64.wrap (x2 - (1 : Int)))), (m : Int)) else some (opI S, (m : Int))) = some (opI (decT S), (m : Int)) := by
        cases S with
        | nil => rw [if_neg (by simp [opI])]; rfl
        | cons v S =>
          rw [List.length_cons] at hl
          have hv := hS v (by simp)
          have hoS := opI_len S
          rw [opI_cons, if_pos (by simp), gl_last (by omega)]
          simp only [Option.bind_some]
          rw [set_last (by omega), w_eq (x := (v : Int) - 1) (by omega) (by omega), show (v : Int) - 1 = ((v - 1 : Nat) : Int) by omega, ← opI_cons]
          rfl
      rw [hdec]
      simp only [Option.bind_some]
      have hok1 : ∀ v, v ∈ (decT S) → 1 ≤ v ∧ v ≤ 1000000000 := fun v hv => by
        cases S with
        | nil => cases hv
        | cons u S =>
          rcases List.mem_cons.1 hv with rfl | hv
          · have := hS u (by simp); omega
          · have := hS v (by simp [hv]); omega
      have hok2 : ∀ v, v ∈ (decT S).tail → 2 ≤ v := fun v hv => by
        cases S with
        | nil => cases hv
        | cons u S => exact (hS v (List.mem_cons_of_mem _ (show v ∈ S from hv))).1
      have hlenS : (decT S).length = S.length := by cases S <;> rfl
      rw [lists_l2 (decT S).length _ FU (Nat.le_refl _) (by rw [hlenS]; unfold FU; omega) (by rw [hlenS]; omega) hok1 hok2]
      simp only [Option.bind_some]
      obtain ⟨n1, n2⟩ := nrm_ok _ _ (Nat.le_refl _) hok1 hok2
      rw [lists_l1 l (k + 1) _ _ n1 (by rw [hlenS] at n2; omega) hm hkl]
      unfold stepS
      rw [if_neg h5]

def aft : List Nat → Nat → List Nat
  | [], _ => []
  | v :: S, c => nrm ((v - c) :: S)
def lv (n d : Nat) : Nat := if d = 0 then 0 else n + d
theorem cnt_zero {f : Fo} (h : f.cnt = 0) : f = .nil := by
  cases f with
  | nil => rfl
  | nd => simp [Fo.cnt] at h

theorem fold_fo : ∀ (f : Fo), f.wf → f.flat.length ≤ 100000 → ∀ (S : List Nat) (m : Nat), okS S → (∀ v, v ∈ S.head? → f.cnt + 1 ≤ v) → f.flat.foldl stepS (S, m) = (aft S f.cnt, max m (lv S.length f.dep))
  | .nil, _, _, S, m, hS, hv => by
    cases S with
    | nil => simp [Fo.flat, aft, Fo.dep, lv]
    | cons v S =>
      have := hS v (by simp)
      simp [Fo.flat, aft, Fo.dep, lv, Fo.cnt, nrm_stay (show v ≠ 1 by omega)]
  | .nd k s a c r, hw, hfl, S, m, hS, hv => by
    have hcf := Fo.cnt_flat c
    have hfl2 : c.flat.length + r.flat.length + 1 ≤ 100000 := by simpa [Fo.flat] using hfl
    rw [Fo.flat, List.foldl_cons, List.foldl_append, Fo.cnt]
    -- behind the first tree
    have hfirst : c.flat.foldl stepS (stepS (S, m) ⟨k, s, (c.cnt : Int), a⟩) = (aft S 1, max m (lv S.length (Fo.nd k s a c .nil).dep)) := by
      by_cases h5 : k = 5
      · have hst : stepS (S, m) ⟨k, s, (c.cnt : Int), a⟩ = (nrm ((c.cnt + 1) :: S), max m (S.length + 1)) := by
          unfold stepS
          rw [if_pos h5]
          rfl
        rw [hst]
        have hd : (Fo.nd k s a c .nil).dep = c.dep + 1 := by rw [Fo.dep, if_pos h5]; simp [Fo.dep]
        rw [hd]
        by_cases hc : c.cnt = 0
        · have := cnt_zero hc
          subst this
          have e1 : nrm ((Fo.nil.cnt + 1) :: S) = aft S 1 := by
            cases S with
            | nil => exact nrm_one
            | cons v S => exact nrm_pop v S
          rw [e1]
          simp [Fo.flat, Fo.dep, lv]
        · rw [nrm_stay (by omega)]
          have hS1 : okS ((c.cnt + 1) :: S) := fun v hv' => by
            rcases List.mem_cons.1 hv' with rfl | hv'
            · omega
            · exact hS v hv'
          rw [fold_fo c hw.2.1 (by omega) ((c.cnt + 1) :: S) _ hS1 (by simp)]
          have e1 : aft ((c.cnt + 1) :: S) c.cnt = aft S 1 := by
            rw [aft, show c.cnt + 1 - c.cnt = 1 by omega]
            cases S with
            | nil => exact nrm_one
            | cons v S => exact nrm_pop v S
          rw [e1]
          congr 1
          unfold lv
          rw [List.length_cons]
          split <;> simp <;> omega
      · have hst : stepS (S, m) ⟨k, s, (c.cnt : Int), a⟩ = (nrm (decT S), m) := by
          unfold stepS
          rw [if_neg h5]
        rw [hst]
        have hc : c = .nil := by
          rcases hw.1 with h | h
          · exact absurd h.1 h5
          · exact h.2
        subst hc
        have hd : (Fo.nd k s a .nil .nil).dep = 0 := by rw [Fo.dep, if_neg h5]; simp [Fo.dep]
        rw [hd]
        simp only [Fo.flat, List.foldl_nil]
        congr 1
        · cases S with
          | nil => exact nrm_nil
          | cons v S => rfl
        · simp [lv]
    rw [hfirst]
    have hdep : (Fo.nd k s a c r).dep = max (Fo.nd k s a c .nil).dep r.dep := by
      rw [Fo.dep, Fo.dep]; simp [Fo.dep]
    rw [hdep]
    -- the others
    cases S with
    | nil =>
      rw [aft, fold_fo r hw.2.2 (by omega) [] _ hS (by simp)]
      unfold lv
      simp only [aft, List.length_nil, Prod.mk.injEq, true_and]
      (repeat' split) <;> omega
    | cons v S =>
      have hvv := hv v (by simp)
      rw [Fo.cnt] at hvv
      have hv2 := hS v (by simp)
      by_cases hr : r.cnt = 0
      · have := cnt_zero hr
        subst this
        simp only [Fo.flat, List.foldl_nil, Fo.cnt, Nat.zero_add, Fo.dep, Nat.max_zero]
      · have e1 : aft (v :: S) 1 = (v - 1) :: S := by rw [aft, nrm_stay (by omega)]
        have hS1 : okS ((v - 1) :: S) := fun w hw' => by
          rcases List.mem_cons.1 hw' with rfl | hw'
          · omega
          · exact hS w (by simp [hw'])
        rw [e1, fold_fo r hw.2.2 (by omega) ((v - 1) :: S) _ hS1 (by simp; omega)]
        rw [aft, aft, show v - 1 - r.cnt = v - (r.cnt + 1) by omega]
        unfold lv
        simp only [List.length_cons, Prod.mk.injEq, true_and]
        (repeat' split) <;> omega

theorem flat_kids : ∀ (f : Fo) (x : T_api_Node), x ∈ f.flat → 0 ≤ x.Kids ∧ x.Kids ≤ (f.flat.length : Int)
  | .nil, x, h => by cases h
  | .nd k s a c r, x, h => by
    have hcf := Fo.cnt_flat c
    rw [Fo.flat] at h ⊢
    rw [List.length_cons, List.length_append]
    rcases List.mem_cons.1 h with rfl | h
    · simp only; omega
    · rcases List.mem_append.1 h with h | h
      · have := flat_kids c x h; omega
      · have := flat_kids r x h; omega

/-- How deep a forest is. -/
theorem lists_fo {f : Fo} (hw : f.wf) (hl : f.flat.length ≤ 4000) : tree_lists f.flat = some (f.dep : Int) := by
  unfold tree_lists
  have := lists_l1 f.flat 0 [] 0 (fun v hv => by cases hv) (by simp; omega) (by omega) (fun x hx => by have := flat_kids f x hx; omega)
  rw [show tree_lists.l1 f.flat 0 [] 0 = _ from this, fold_fo f hw (by omega) [] 0 (fun v hv => by cases hv) (by simp)]
  simp only [Option.bind_some, List.length_nil]
  congr 2
  unfold lv
  split <;> omega
end Go.Proofs.Ytbnohlgchjcjhaa.M

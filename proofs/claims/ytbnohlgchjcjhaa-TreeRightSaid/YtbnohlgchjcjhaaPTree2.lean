/-
  Plain laws of trees: what is read of tokens. Own text.
-/
import Derived.Test.YtbnohlgchjcjhaaPTree1
namespace Go.Proofs.Ytbnohlgchjcjhaa.M
open Go Go.Proofs Go.Proofs.Ytbnohlgchjcjhaa.V
set_option linter.unusedVariables false

/-- Nodes so far: of the lists that are open, from the innermost one, what stood ahead of each, and its place; and the innermost forest. -/
def encR : List (Fo × Int) → Fo → Nat → List T_api_Node
  | [], f, _ => f.flat
  | (g, a) :: Z, f, e => encR Z g 1 ++ (⟨5, ⟨#[]⟩, ((f.cnt + e : Nat) : Int), a⟩ :: f.flat)
def openR : List (Fo × Int) → List Int
  | [] => []
  | (g, a) :: Z => openR Z ++ [((encR Z g 1).length : Int)]
def toksR : List (Fo × Int) → Fo → List (Int × List Int)
  | [], f => f.toks
  | (g, a) :: Z, f => toksR Z g ++ (1, [40]) :: f.toks
def depR : List (Fo × Int) → Fo → Prop
  | [], f => f.dep ≤ 20
  | (g, a) :: Z, f => f.dep + (Z.length + 1) ≤ 20 ∧ depR Z g
def wfR : List (Fo × Int) → Fo → Prop
  | [], f => f.wf
  | (g, a) :: Z, f => f.wf ∧ wfR Z g
theorem openR_len : ∀ Z : List (Fo × Int), (openR Z).length = Z.length
  | [] => rfl
  | (g, a) :: Z => by rw [openR, List.length_append, openR_len Z]; rfl
theorem encR_len (Z : List (Fo × Int)) (f : Fo) (e e' : Nat) : (encR Z f e).length = (encR Z f e').length := by
  cases Z with
  | nil => rfl
  | cons p Z => obtain ⟨g, a⟩ := p; simp [encR]

/-- A tree behind the others of the innermost forest. -/
theorem encR_snoc (Z : List (Fo × Int)) (f t : Fo) (ht : t.cnt = 1) (e : Nat) : encR Z (f.app t) e = encR Z f (e + 1) ++ t.flat := by
  cases Z with
  | nil => rw [encR, encR, Fo.flat_app]
  | cons p Z => obtain ⟨g, a⟩ := p; rw [encR, encR, Fo.flat_app, Fo.cnt_app, ht]; simp; omega
theorem toksR_snoc (Z : List (Fo × Int)) (f t : Fo) : toksR Z (f.app t) = toksR Z f ++ t.toks := by
  cases Z with
  | nil => rw [toksR, toksR, Fo.toks_app]
  | cons p Z => obtain ⟨g, a⟩ := p; rw [toksR, toksR, Fo.toks_app]; simp
theorem depR_snoc (Z : List (Fo × Int)) (f t : Fo) (h : depR Z f) (ht : t.dep + Z.length ≤ 20) : depR Z (f.app t) := by
  cases Z with
  | nil => rw [depR, Fo.dep_app] at *; simp at ht; omega
  | cons p Z => obtain ⟨g, a⟩ := p; rw [depR, Fo.dep_app] at *; simp at ht; exact ⟨by omega, h.2⟩
theorem wfR_snoc (Z : List (Fo × Int)) (f t : Fo) (h : wfR Z f) (ht : t.wf) : wfR Z (f.app t) := by
  cases Z with
  | nil => exact Fo.wf_app f t h ht
  | cons p Z => obtain ⟨g, a⟩ := p; exact ⟨Fo.wf_app f t h.1 ht, h.2⟩

/-- One token more; none: it cannot be. -/
def pstep (Z : List (Fo × Int)) (f : Fo) (t : T_api_Token) : Option (List (Fo × Int) × Fo) :=
  if t.Kind = 2 then (match Z with | [] => none | (g, a) :: Z' => some (Z', g.app (.nd 5 ⟨#[]⟩ a f .nil)))
  else if (encR Z f 0).length = 4000 ∨ (t.Kind = 1 ∧ Z.length = 20) then none
  else if t.Kind = 1 then some ((f, t.At) :: Z, .nil)
  else some (Z, f.app (.nd t.Kind t.Text t.At .nil .nil))
def prun : List T_api_Token → List (Fo × Int) → Fo → Option (List (Fo × Int) × Fo)
  | [], Z, f => some (Z, f)
  | t :: ts, Z, f => match pstep Z f t with | none => none | some p => prun ts p.1 p.2

theorem close_enc (Z : List (Fo × Int)) (g f : Fo) (a : Int) : encR ((g, a) :: Z) f 0 = encR Z (g.app (.nd 5 ⟨#[]⟩ a f .nil)) 0 := by
  rw [encR_snoc Z g _ (by simp [Fo.cnt]), encR]
  simp [Fo.flat]

theorem set_mid {α : Type} (u v : List α) (x y : α) : (u ++ x :: v).set u.length y = u ++ y :: v := by
  rw [List.set_append_right _ _ (Nat.le_refl _)]; simp

theorem parse_l1 (r : List T_api_Token × Int × Int) : ∀ (ts : List T_api_Token) (k n : Nat) (Z : List (Fo × Int)) (f : Fo), r.1.drop k = ts → ts.length < n → (encR Z f 0).length + ts.length ≤ 1000000 → Z.length ≤ 20 → r.1.length ≤ 1000000 →
    (∃ Z' f', prun ts Z f = some (Z', f') ∧ Z'.length ≤ 20 ∧ tree_Parse.l1 r n (encR Z f 0) (openR Z) (k : Int) = some (Out.go (encR Z' f' 0, openR Z'))) ∨
    (prun ts Z f = none ∧ ∃ e t, e ≠ 0 ∧ t ∈ ts ∧ tree_Parse.l1 r n (encR Z f 0) (openR Z) (k : Int) = some (Out.ret ([], e, t.At))) := by
  intro ts
  induction ts with
  | nil =>
    intro k n Z f hd hn hl hZ hr
    obtain ⟨n, rfl⟩ : ∃ q, n = q + 1 := ⟨n - 1, by omega⟩
    have : r.1.length ≤ k := List.drop_eq_nil_iff.1 hd
    exact .inl ⟨Z, f, rfl, hZ, by rw [tree_Parse.l1, if_neg (by simp; omega)]⟩
  | cons t ts ih =>
    intro k n Z f hd hn hl hZ hr
    obtain ⟨n, rfl⟩ : ∃ q, n = q + 1 := ⟨n - 1, by omega⟩
    rw [List.length_cons] at hn hl
    have hk : k < r.1.length := by
      have := congrArg List.length hd
      rw [List.length_drop, List.length_cons] at this
      omega
    have hx : r.1[k] = t := by
      rw [List.drop_eq_getElem_cons hk] at hd
      exact (List.cons.inj hd).1
    have hd2 : r.1.drop (k + 1) = ts := by
      rw [List.drop_eq_getElem_cons hk] at hd
      exact (List.cons.inj hd).2
    have hol := openR_len Z
    rw [tree_Parse.l1, if_pos (dlt hk), glk hk, hx, wk1 (by omega)]
    simp only [Option.bind_some]
    rw [prun]
    unfold pstep
    by_cases h2 : t.Kind = 2
    · rw [if_pos h2]
      cases Z with
      | nil =>
        rw [if_pos (by simp [h2, openR])]
        exact .inr ⟨rfl, 6, t, by decide, List.mem_cons_self .., rfl⟩
      | cons p Z =>
        obtain ⟨g, a⟩ := p
        have hz : ((openR ((g, a) :: Z)).length : Int) = (Z.length : Int) + 1 := by rw [hol]; simp
        rw [if_neg (by rw [hz]; simp; intro _; omega), if_pos (by simp [h2]), hz]
        have hsl : V.sl (openR ((g, a) :: Z)) none (some (IntKind.i64.wrap ((Z.length : Int) + 1 - 1))) = some (openR Z) := by
          rw [List.length_cons] at hZ
          rw [w_eq (by omega) (by omega), show (Z.length : Int) + 1 - 1 = (Z.length : Int) by omega]
          unfold V.sl
          rw [if_pos ⟨⟨by simp, by simp⟩, by simp [lowN, highN], by simp only [highN]; rw [hol]; simp⟩]
          simp [lowN, highN, openR, ← openR_len Z]
        rw [hsl]
        simp only [Option.bind_some]
        rw [close_enc]
        simp only [List.length_cons] at hZ
        rcases ih (k + 1) n Z (g.app (.nd 5 ⟨#[]⟩ a f .nil)) hd2 (by omega) (by rw [← close_enc]; omega) (by omega) hr with ⟨Z', f', h3, h4, h5⟩ | ⟨h3, e, t', h4, h5, h6⟩
        · exact .inl ⟨Z', f', h3, h4, h5⟩
        · exact .inr ⟨h3, e, t', h4, List.mem_cons_of_mem _ h5, h6⟩
    · have b2 : (t.Kind == 2) = false := by simpa using h2
      rw [if_neg h2]
      simp only [b2, Bool.false_and, Bool.false_eq_true, if_false]
      by_cases hbig : (encR Z f 0).length = 4000 ∨ (t.Kind = 1 ∧ Z.length = 20)
      · rw [if_pos hbig, if_pos]
        · exact .inr ⟨rfl, 7, t, by decide, List.mem_cons_self .., rfl⟩
        · rw [hol]
          simp only [Bool.or_eq_true, Bool.and_eq_true, beq_iff_eq]
          rcases hbig with h | ⟨h, h'⟩
          · left; omega
          · right; exact ⟨h, by omega⟩
      · have hb : ((((encR Z f 0).length : Int) == (4000 : Int)) || ((t.Kind == (1 : Int)) && (((openR Z).length : Int) == (20 : Int)))) = false := by
          rw [hol, ← Bool.not_eq_true]
          intro q
          apply hbig
          simp only [Bool.or_eq_true, Bool.and_eq_true, beq_iff_eq] at q
          rcases q with q | ⟨q, q'⟩
          · left; omega
          · right; exact ⟨q, by omega⟩
        rw [if_neg hbig, hb]
        simp only [Bool.false_eq_true, if_false]
        · -- the last open list counts one kid more
          have hset : (if (decide (((openR Z).length : Int) > (0 : Int))) = true then
              (V.gl (openR Z) (IntKind.i64.wrap (((openR Z).length : Int) - (1 : Int)))).bind fun x2 => (V.gl (encR Z f 0) x2).bind fun x3 => (V.gl (encR Z f 0) x2).bind fun x4 =>
              some (List.set (encR Z f 0) (x2).toNat (⟨x4.Kind, x4.Text, (IntKind.i64.wrap (x3.Kids + (1 : Int))), x4.At⟩ : T_api_Node)) else some (encR Z f 0)) = some (encR Z f 1) := by
            cases Z with
            | nil => rw [if_neg (by simp [openR])]; rfl
            | cons p Z =>
              obtain ⟨g, a⟩ := p
              have hz : ((openR ((g, a) :: Z)).length : Int) = (Z.length : Int) + 1 := by rw [hol]; simp
              rw [if_pos (by rw [hz, decide_eq_true_eq]; omega), hz]
              rw [List.length_cons] at hZ
              rw [w_eq (by omega) (by omega), show (Z.length : Int) + 1 - 1 = ((openR Z).length : Int) by rw [openR_len]; omega]
              have g1 : V.gl (openR ((g, a) :: Z)) ((openR Z).length : Int) = some ((encR Z g 1).length : Int) := by
                rw [glk (by rw [openR]; simp)]
                simp [openR]
              have hlen : (encR Z g 1).length < (encR ((g, a) :: Z) f 0).length := by simp [encR]
              have g2 : V.gl (encR ((g, a) :: Z) f 0) ((encR Z g 1).length : Int) = some ⟨5, ⟨#[]⟩, ((f.cnt + 0 : Nat) : Int), a⟩ := by
                rw [glk hlen]
                simp [encR]
              rw [g1]
              simp only [Option.bind_some, g2]
              have hcf := Fo.cnt_flat f
              have hfl : f.flat.length < (encR ((g, a) :: Z) f 0).length := by simp [encR]; omega
              rw [show ((encR Z g 1).length : Int).toNat = (encR Z g 1).length by omega, encR, set_mid, w_eq (by omega) (by omega), encR]
              congr 4
          have hset' := hset
          rw [hset']
          simp only [Option.bind_some]
          have hl1 : (encR Z f 1).length = (encR Z f 0).length := encR_len ..
          by_cases h1 : t.Kind = 1
          · rw [if_pos h1, if_pos (by simpa using h1)]
            have hap1 : V.ap 8 (openR Z) [((encR Z f 1).length : Int)] = some (openR ((f, t.At) :: Z)) := by
              unfold V.ap
              rw [if_pos ⟨by simp only [List.length_cons, List.length_nil]; unfold maxLen; omega, by simp only [List.length_cons, List.length_nil]; omega⟩, openR]
            have hap2 : V.ap 40 (encR Z f 1) [(⟨(5 : Int), (⟨#[]⟩ : ByteArray), (0 : Int), t.At⟩ : T_api_Node)] = some (encR ((f, t.At) :: Z) .nil 0) := by
              unfold V.ap
              rw [if_pos ⟨by simp only [List.length_cons, List.length_nil]; unfold maxLen; omega, by simp only [List.length_cons, List.length_nil]; omega⟩, encR]
              rfl
            rw [hap1, hap2]
            simp only [Option.bind_some]
            have hZ20 : Z.length ≠ 20 := fun q => hbig (.inr ⟨h1, q⟩)
            rcases ih (k + 1) n ((f, t.At) :: Z) .nil hd2 (by omega) (by simp [encR, hl1, Fo.flat]; omega) (by simp; omega) hr with ⟨Z', f', h3, h4, h5⟩ | ⟨h3, e, t', h4, h5, h6⟩
            · exact .inl ⟨Z', f', h3, h4, h5⟩
            · exact .inr ⟨h3, e, t', h4, List.mem_cons_of_mem _ h5, h6⟩
          · rw [if_neg h1, if_neg (by simpa using h1)]
            have hap2 : V.ap 40 (encR Z f 1) [(⟨t.Kind, t.Text, (0 : Int), t.At⟩ : T_api_Node)] = some (encR Z (f.app (.nd t.Kind t.Text t.At .nil .nil)) 0) := by
              unfold V.ap
              rw [if_pos ⟨by simp only [List.length_cons, List.length_nil]; unfold maxLen; omega, by simp only [List.length_cons, List.length_nil]; omega⟩, encR_snoc Z f _ (by simp [Fo.cnt])]
              rfl
            rw [hap2]
            simp only [Option.bind_some]
            rcases ih (k + 1) n Z (f.app (.nd t.Kind t.Text t.At .nil .nil)) hd2 (by omega) (by rw [encR_snoc Z f _ (by simp [Fo.cnt])]; simp [Fo.flat, encR_len Z f (0 + 1) 0]; omega) hZ hr with ⟨Z', f', h3, h4, h5⟩ | ⟨h3, e, t', h4, h5, h6⟩
            · exact .inl ⟨Z', f', h3, h4, h5⟩
            · exact .inr ⟨h3, e, t', h4, List.mem_cons_of_mem _ h5, h6⟩

/-! what was read are the tokens of a forest -/
def okTok (t : T_api_Token) : Prop := (t.Kind = 1 ∧ tk t = (1, [40])) ∨ (t.Kind = 2 ∧ tk t = (2, [41])) ∨ t.Kind = 3 ∨ t.Kind = 4
theorem prun_sound : ∀ (ts : List T_api_Token) (Z : List (Fo × Int)) (f : Fo) (Z' : List (Fo × Int)) (f' : Fo), (∀ t, t ∈ ts → okTok t) → prun ts Z f = some (Z', f') → wfR Z f → depR Z f → Z.length ≤ 20 →
    toksR Z' f' = toksR Z f ++ ts.map tk ∧ wfR Z' f' ∧ depR Z' f' ∧ (encR Z' f' 0).length ≤ (encR Z f 0).length + ts.length ∧ ((encR Z f 0).length ≤ 4000 → (encR Z' f' 0).length ≤ 4000)
  | [], Z, f, Z', f', _, h, h1, h2, _ => by
    simp only [prun, Option.some.injEq, Prod.mk.injEq] at h
    obtain ⟨rfl, rfl⟩ := h
    simp [h1, h2]
  | t :: ts, Z, f, Z', f', hok, h, hw, hdp, hZ => by
    rw [prun] at h
    have hts : ∀ t, t ∈ ts → okTok t := fun x hx => hok x (List.mem_cons_of_mem _ hx)
    have ht := hok t (List.mem_cons_self ..)
    unfold pstep at h
    by_cases h2 : t.Kind = 2
    · rw [if_pos h2] at h
      cases Z with
      | nil => simp at h
      | cons p Z =>
        obtain ⟨g, a⟩ := p
        simp only at h
        rw [List.length_cons] at hZ
        have htk : tk t = (2, [41]) := by
          rcases ht with ht | ht | ht | ht <;> first | omega | skip
          exact ht.2
        obtain ⟨i1, i2, i3, i4, i5⟩ := prun_sound ts Z _ Z' f' hts h (wfR_snoc Z g _ hw.2 ⟨.inl ⟨rfl, rfl⟩, hw.1, trivial⟩) (depR_snoc Z g _ hdp.2 (by simp only [Fo.dep, if_pos]; have := hdp.1; omega)) (by omega)
        rw [← close_enc] at i4 i5
        refine ⟨?_, i2, i3, by rw [List.length_cons]; omega, i5⟩
        rw [i1, toksR_snoc, toksR, List.map_cons, htk]
        simp [Fo.toks]
    · rw [if_neg h2] at h
      by_cases hbig : (encR Z f 0).length = 4000 ∨ (t.Kind = 1 ∧ Z.length = 20)
      · rw [if_pos hbig] at h; simp at h
      · rw [if_neg hbig] at h
        by_cases h1 : t.Kind = 1
        · rw [if_pos h1] at h
          simp only at h
          have htk : tk t = (1, [40]) := by
            rcases ht with ht | ht | ht | ht <;> first | omega | skip
            exact ht.2
          have hZ20 : Z.length ≠ 20 := fun q => hbig (.inr ⟨h1, q⟩)
          obtain ⟨i1, i2, i3, i4, i5⟩ := prun_sound ts ((f, t.At) :: Z) .nil Z' f' hts h ⟨trivial, hw⟩ ⟨by simp [Fo.dep]; omega, hdp⟩ (by simp; omega)
          have hlen : (encR ((f, t.At) :: Z) .nil 0).length = (encR Z f 0).length + 1 := by simp [encR, Fo.flat, encR_len Z f 1 0]
          rw [hlen] at i4 i5
          refine ⟨?_, i2, i3, by rw [List.length_cons]; omega, fun q => i5 (by
            have : (encR Z f 0).length ≠ 4000 := fun q => hbig (.inl q)
            omega)⟩
          rw [i1, toksR, List.map_cons, htk]
          simp [Fo.toks]
        · rw [if_neg h1] at h
          simp only at h
          have hk : t.Kind = 3 ∨ t.Kind = 4 := by
            rcases ht with ht | ht | ht | ht <;> first | omega | skip
          obtain ⟨i1, i2, i3, i4, i5⟩ := prun_sound ts Z _ Z' f' hts h (wfR_snoc Z f _ hw ⟨.inr ⟨hk, rfl⟩, trivial, trivial⟩) (depR_snoc Z f _ hdp (by simp [Fo.dep]; split <;> omega)) hZ
          have hlen : (encR Z (f.app (.nd t.Kind t.Text t.At .nil .nil)) 0).length = (encR Z f 0).length + 1 := by rw [encR_snoc Z f _ (by simp [Fo.cnt])]; simp [Fo.flat, encR_len Z f (0 + 1) 0]
          rw [hlen] at i4 i5
          refine ⟨?_, i2, i3, by rw [List.length_cons]; omega, fun q => i5 (by
            have : (encR Z f 0).length ≠ 4000 := fun q => hbig (.inl q)
            omega)⟩
          have hk5 : ¬ t.Kind = 5 := by omega
          rw [i1, toksR_snoc, List.map_cons]
          simp [Fo.toks, hk5, tk]

/-! and any forest's tokens are read as it -/
theorem prun_app (ts us : List T_api_Token) : ∀ (Z : List (Fo × Int)) (f : Fo) (Z' : List (Fo × Int)) (f' : Fo), prun ts Z f = some (Z', f') → prun (ts ++ us) Z f = prun us Z' f' := by
  induction ts with
  | nil => intro Z f Z' f' h; simp only [prun, Option.some.injEq, Prod.mk.injEq] at h; rw [List.nil_append, h.1, h.2]
  | cons t ts ih =>
    intro Z f Z' f' h
    rw [List.cons_append, prun]
    rw [prun] at h
    cases hp : pstep Z f t with
    | none => rw [hp] at h; simp at h
    | some p => rw [hp] at h; exact ih p.1 p.2 Z' f' h

theorem app_nil (f : Fo) : f.app .nil = f := by
  induction f with
  | nil => rfl
  | nd k s a c r _ ih => rw [Fo.app, ih]
theorem app_assoc (f g h : Fo) : (f.app g).app h = f.app (g.app h) := by
  induction f with
  | nil => rfl
  | nd k s a c r _ ih => rw [Fo.app, Fo.app, Fo.app, ih]

theorem prun_complete : ∀ (φ : Fo), φ.wf → ∀ (ts : List T_api_Token) (Z : List (Fo × Int)) (g : Fo), ts.map tk = φ.toks → φ.dep + Z.length ≤ 20 → (encR Z g 0).length + φ.flat.length ≤ 4000 → ∃ φ', φ'.strip = φ.strip ∧ prun ts Z g = some (Z, g.app φ')
  | .nil, _, ts, Z, g, ht, _, _ => by
    have : ts = [] := by simpa [Fo.toks] using ht
    subst this
    exact ⟨.nil, rfl, by rw [app_nil]; rfl⟩
  | .nd k s a c r, hw, ts, Z, g, ht, hd, hl => by
    have hfl : (Fo.nd k s a c r).flat.length = c.flat.length + r.flat.length + 1 := by simp [Fo.flat]
    rw [hfl] at hl
    rw [Fo.toks] at ht
    rw [Fo.dep] at hd
    by_cases h5 : k = 5
    · rw [if_pos h5] at ht hd
      obtain ⟨t0, ts0, rfl, e0, e1⟩ := List.map_eq_cons_iff.1 ht
      obtain ⟨tc, ts1, rfl, e2, e3⟩ := List.map_eq_append_iff.1 e1
      obtain ⟨t2, tr, rfl, e4, e5⟩ := List.map_eq_cons_iff.1 e3
      have hk0 : t0.Kind = 1 := congrArg Prod.fst e0
      have hk2 : t2.Kind = 2 := congrArg Prod.fst e4
      have hs : s = ⟨#[]⟩ := by
        rcases hw.1 with h | h
        · exact h.2
        · omega
      have hlen : (encR ((g, t0.At) :: Z) .nil 0).length = (encR Z g 0).length + 1 := by simp [encR, Fo.flat, encR_len Z g 1 0]
      obtain ⟨c', hc1, hc2⟩ := prun_complete c hw.2.1 tc ((g, t0.At) :: Z) .nil e2 (by simp; omega) (by rw [hlen]; omega)
      have hcc : c'.flat.length = c.flat.length := by simpa using congrArg List.length (Fo.strip_flat c' c hc1)
      have hlen2 : (encR Z (g.app (.nd 5 ⟨#[]⟩ t0.At c' .nil)) 0).length = (encR Z g 0).length + 1 + c.flat.length := by
        rw [encR_snoc Z g _ (by simp [Fo.cnt])]; simp [Fo.flat, encR_len Z g (0 + 1) 0, hcc]; omega
      obtain ⟨r', hr1, hr2⟩ := prun_complete r hw.2.2 tr Z (g.app (.nd 5 ⟨#[]⟩ t0.At c' .nil)) e5 (by omega) (by rw [hlen2]; omega)
      refine ⟨.nd 5 ⟨#[]⟩ t0.At c' r', by rw [Fo.strip, Fo.strip, hc1, hr1, h5, hs], ?_⟩
      rw [prun]
      have p0 : pstep Z g t0 = some ((g, t0.At) :: Z, .nil) := by
        unfold pstep
        rw [if_neg (by omega), if_neg (by rintro (q | ⟨_, q⟩) <;> omega), if_pos hk0]
      rw [p0]
      simp only
      rw [prun_app tc (t2 :: tr) _ _ _ _ hc2, prun]
      have p2 : pstep ((g, t0.At) :: Z) (Fo.nil.app c') t2 = some (Z, g.app (.nd 5 ⟨#[]⟩ t0.At c' .nil)) := by
        unfold pstep
        rw [if_pos hk2]
        rfl
      rw [p2]
      simp only
      rw [hr2, app_assoc]
      rfl
    · rw [if_neg h5] at ht hd
      obtain ⟨t0, tr, rfl, e0, e1⟩ := List.map_eq_cons_iff.1 ht
      have hk0 : t0.Kind = k := congrArg Prod.fst e0
      have hs0 : t0.Text = s := bytesL_inj (congrArg Prod.snd e0)
      have hk : (k = 3 ∨ k = 4) ∧ c = .nil := by
        rcases hw.1 with h | h
        · exact absurd h.1 h5
        · exact h
      have hlen2 : (encR Z (g.app (.nd k s t0.At .nil .nil)) 0).length = (encR Z g 0).length + 1 := by
        rw [encR_snoc Z g _ (by simp [Fo.cnt])]; simp [Fo.flat, encR_len Z g (0 + 1) 0]
      obtain ⟨r', hr1, hr2⟩ := prun_complete r hw.2.2 tr Z (g.app (.nd k s t0.At .nil .nil)) e1 (by omega) (by rw [hlen2]; omega)
      refine ⟨.nd k s t0.At .nil r', by simp only [Fo.strip, hr1, hk.2], ?_⟩
      rw [prun]
      have p0 : pstep Z g t0 = some (Z, g.app (.nd k s t0.At .nil .nil)) := by
        unfold pstep
        rw [if_neg (by omega), if_neg (by rintro (q | ⟨_, q⟩) <;> omega), if_neg (by omega), hk0, hs0]
      rw [p0]
      simp only
      rw [hr2, app_assoc]
      rfl
end Go.Proofs.Ytbnohlgchjcjhaa.M

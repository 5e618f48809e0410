/-
  Plain law: TreeJoins answers true; what a text is read as. Own text.
-/
import Derived.Test.YtbnohlgchjcjhaaPTree2
namespace Go.Proofs.Ytbnohlgchjcjhaa.M
open Go Go.Proofs Go.Proofs.Ytbnohlgchjcjhaa.V
set_option linter.unusedVariables false

theorem known02_true : law02_known = some true := by kernel_rfl

def Fo.atP (P : Int → Prop) : Fo → Prop
  | .nil => True
  | .nd _ _ a c r => P a ∧ c.atP P ∧ r.atP P
def atR (P : Int → Prop) : List (Fo × Int) → Fo → Prop
  | [], f => f.atP P
  | (g, a) :: Z, f => P a ∧ f.atP P ∧ atR P Z g
theorem Fo.atP_app (P : Int → Prop) : ∀ (f g : Fo), f.atP P → g.atP P → (f.app g).atP P
  | .nil, g, _, h => h
  | .nd k s a c r, g, h1, h2 => ⟨h1.1, h1.2.1, Fo.atP_app P r g h1.2.2 h2⟩
theorem atR_snoc (P : Int → Prop) (Z : List (Fo × Int)) (f t : Fo) (h : atR P Z f) (ht : t.atP P) : atR P Z (f.app t) := by
  cases Z with
  | nil => exact Fo.atP_app P f t h ht
  | cons p Z => obtain ⟨g, a⟩ := p; exact ⟨h.1, Fo.atP_app P f t h.2.1 ht, h.2.2⟩
theorem prun_at (P : Int → Prop) : ∀ (ts : List T_api_Token) (Z : List (Fo × Int)) (f : Fo) (Z' : List (Fo × Int)) (f' : Fo), (∀ t, t ∈ ts → P t.At) → prun ts Z f = some (Z', f') → atR P Z f → atR P Z' f'
  | [], Z, f, Z', f', _, h, h1 => by
    simp only [prun, Option.some.injEq, Prod.mk.injEq] at h
    obtain ⟨rfl, rfl⟩ := h
    exact h1
  | t :: ts, Z, f, Z', f', hp, h, h1 => by
    rw [prun] at h
    have hts : ∀ t, t ∈ ts → P t.At := fun x hx => hp x (List.mem_cons_of_mem _ hx)
    have ht := hp t (List.mem_cons_self ..)
    unfold pstep at h
    by_cases h2 : t.Kind = 2
    · rw [if_pos h2] at h
      cases Z with
      | nil => simp at h
      | cons p Z =>
        obtain ⟨g, a⟩ := p
        exact prun_at P ts Z _ Z' f' hts h (atR_snoc P Z g _ h1.2.2 ⟨h1.1, h1.2.1, trivial⟩)
    · rw [if_neg h2] at h
      by_cases hbig : (encR Z f 0).length = 4000 ∨ (t.Kind = 1 ∧ Z.length = 20)
      · rw [if_pos hbig] at h; simp at h
      · rw [if_neg hbig] at h
        by_cases h1' : t.Kind = 1
        · rw [if_pos h1'] at h
          exact prun_at P ts _ _ Z' f' hts h ⟨ht, trivial, h1⟩
        · rw [if_neg h1'] at h
          exact prun_at P ts _ _ Z' f' hts h (atR_snoc P Z f _ h1 ⟨ht, trivial, trivial⟩)

theorem Ch_at {s : ByteArray} {x : T_lex_scanner} {i : Nat} {ts : List T_api_Token} (h : Ch s x i ts) : ∀ t, t ∈ ts → 0 ≤ t.At ∧ t.At ≤ (s.size : Int) := by
  induction h with
  | nil => intro t ht; cases ht
  | cons x x0 x' i i0 i' t ts h0 h1 s0 n0 s1 n1 ha hl hc h ih =>
    intro y hy
    rcases List.mem_cons.1 hy with rfl | hy
    · have := s0.le
      rw [ha]; omega
    · exact ih y hy

theorem okTok_of {l : List Int} {ts : List T_api_Token} (h : scanL l = .ok (ts.map tk)) : ∀ t, t ∈ ts → okTok t := fun t ht => by
  have := (scan_good _ h).1 (tk t) (List.mem_map.2 ⟨t, ht, rfl⟩)
  unfold okTok
  generalize hk : tk t = q at this
  have hkk : t.Kind = q.1 := by rw [← hk]; rfl
  cases this with
  | opn => exact .inl ⟨hkk, rfl⟩
  | cls => exact .inr (.inl ⟨hkk, rfl⟩)
  | word => exact .inr (.inr (.inl hkk))
  | text => exact .inr (.inr (.inr hkk))

/-- What a text is read as. -/
theorem Parse_ok {s : ByteArray} (hs : s.size ≤ 65536) :
    (∃ φ : Fo, scanL (bytesL s) = .ok φ.toks ∧ φ.wf ∧ φ.dep ≤ 20 ∧ φ.flat.length ≤ 4000 ∧ φ.flat.length ≤ s.size ∧ φ.atP (fun a => 0 ≤ a) ∧ tree_Parse s = some (φ.flat, 0, 0)) ∨
    (∃ e a, e ≠ 0 ∧ 0 ≤ a ∧ a ≤ (s.size : Int) ∧ tree_Parse s = some ([], e, a)) := by
  unfold tree_Parse
  rcases Scan_ok hs with ⟨ts, h1, h2, h3⟩ | ⟨e, he, a, ha, h1, _⟩
  · have hlen := Ch_len h3 (Nat.zero_le _)
    have hat := Ch_at h3
    have hok := okTok_of h2
    rw [h1]
    simp only [Option.bind_some]
    rw [if_neg (by simp)]
    rcases parse_l1 (ts, 0, 0) ts 0 FU [] .nil (by simp) (by unfold FU; omega) (by simp [encR, Fo.flat]; omega) (by simp) (by show ts.length ≤ 1000000; omega) with ⟨Z', f', p1, p2, p3⟩ | ⟨p1, e, t, p2, p3, p4⟩
    · have p3' : tree_Parse.l1 (ts, 0, 0) FU [] [] 0 = some (Out.go (encR Z' f' 0, openR Z')) := p3
      rw [p3']
      simp only [Option.bind_some, Out.on]
      obtain ⟨q1, q2, q3, q4, q5⟩ := prun_sound ts [] .nil Z' f' hok p1 trivial (by simp [depR, Fo.dep]) (by simp)
      have q6 := prun_at (fun a => 0 ≤ a ∧ a ≤ (s.size : Int)) ts [] .nil Z' f' hat p1 trivial
      cases Z' with
      | nil =>
        left
        have hat0 : ∀ f : Fo, f.atP (fun a => 0 ≤ a ∧ a ≤ (s.size : Int)) → f.atP (fun a => 0 ≤ a) := by
          intro f
          induction f with
          | nil => intro _; trivial
          | nd k s a c r ihc ihr => intro h; exact ⟨h.1.1, ihc h.2.1, ihr h.2.2⟩
        refine ⟨f', ?_, q2, q3, ?_, ?_, hat0 f' q6, by rw [if_neg (by simp [openR])]; rfl⟩
        · have e : f'.toks = ts.map tk := by simpa [toksR, Fo.toks] using q1
          rw [h2, e]
        · exact q5 (by simp [encR, Fo.flat])
        · have : f'.flat.length ≤ ts.length := by simpa [encR, Fo.flat] using q4
          omega
      | cons p Z =>
        obtain ⟨g, a⟩ := p
        right
        have hz : ((openR ((g, a) :: Z)).length : Int) = (Z.length : Int) + 1 := by rw [openR_len]; simp
        rw [List.length_cons] at p2
        rw [if_pos (by rw [hz, decide_eq_true_eq]; omega), hz, w_eq (by omega) (by omega), show (Z.length : Int) + 1 - 1 = ((openR Z).length : Int) by rw [openR_len]; omega]
        have g1 : V.gl (openR ((g, a) :: Z)) ((openR Z).length : Int) = some ((encR Z g 1).length : Int) := by
          rw [glk (by rw [openR]; simp)]
          simp [openR]
        have g2 : V.gl (encR ((g, a) :: Z) f' 0) ((encR Z g 1).length : Int) = some ⟨5, ⟨#[]⟩, ((f'.cnt + 0 : Nat) : Int), a⟩ := by
          rw [glk (by simp [encR])]
          simp [encR]
        rw [g1]
        simp only [Option.bind_some, g2]
        exact ⟨5, a, by decide, q6.1.1, q6.1.2, rfl⟩
    · right
      have p4' : tree_Parse.l1 (ts, 0, 0) FU [] [] 0 = some (Out.ret ([], e, t.At)) := p4
      rw [p4']
      exact ⟨e, t.At, p2, (hat t p3).1, (hat t p3).2, rfl⟩
  · right
    rw [h1]
    simp only [Option.bind_some]
    rw [if_pos (by simpa using he)]
    exact ⟨e, a, he, by omega, by omega, rfl⟩

/-- A text whose tokens are a forest's is read as it. -/
theorem Parse_of {s : ByteArray} (hs : s.size ≤ 65536) {φ : Fo} (h : scanL (bytesL s) = .ok φ.toks) (hw : φ.wf) (hd : φ.dep ≤ 20) (hl : φ.flat.length ≤ 4000) : ∃ φ' : Fo, φ'.strip = φ.strip ∧ tree_Parse s = some (φ'.flat, 0, 0) := by
  unfold tree_Parse
  rcases Scan_ok hs with ⟨ts, h1, h2, h3⟩ | ⟨e, he, a, ha, h1, h2⟩
  · have hlen := Ch_len h3 (Nat.zero_le _)
    rw [h1]
    simp only [Option.bind_some]
    rw [if_neg (by simp)]
    rw [h] at h2
    injection h2 with h2
    obtain ⟨φ', r1, r2⟩ := prun_complete φ hw ts [] .nil h2.symm (by simpa using hd) (by simpa [encR, Fo.flat] using hl)
    refine ⟨φ', r1, ?_⟩
    rcases parse_l1 (ts, 0, 0) ts 0 FU [] .nil (by simp) (by unfold FU; omega) (by simp [encR, Fo.flat]; omega) (by simp) (by show ts.length ≤ 1000000; omega) with ⟨Z', f', p1, p2, p3⟩ | ⟨p1, _⟩
    · rw [r2] at p1
      simp only [Option.some.injEq, Prod.mk.injEq] at p1
      obtain ⟨rfl, rfl⟩ := p1
      have p3' : tree_Parse.l1 (ts, 0, 0) FU [] [] 0 = some (Out.go (φ'.flat, [])) := p3
      rw [p3']
      rfl
    · rw [r2] at p1; cases p1
  · rw [h] at h2; cases h2

theorem cat_ok2 {a b : ByteArray} (h : a.size + b.size ≤ 1000000) : V.cat a b = some (a ++ b) := by
  unfold V.cat
  rw [if_pos (by unfold maxLen; omega)]
theorem ap_40 {l m : List T_api_Node} (h : l.length + m.length ≤ 1000000) : V.ap 40 l m = some (l ++ m) := by
  unfold V.ap
  rw [if_pos ⟨by unfold maxLen; omega, by omega⟩]

def isS' {α : Type} (o : Option α) : Prop := ∃ r, o = some r
theorem TreeJoins_true (a b : ByteArray) : law02_TreeJoins a b = some true := by
  unfold law02_TreeJoins
  rw [known02_true]
  by_cases hsz : a.size > 1500 ∨ b.size > 1500
  · rw [if_pos (by simp; omega)]; rfl
  · rw [if_neg (by simp; omega)]
    rcases Parse_ok (s := a) (by omega) with ⟨φa, a1, a2, a3, a4, a5, a6, a7⟩ | ⟨e, x, he, _, _, hp⟩
    · rcases Parse_ok (s := b) (by omega) with ⟨φb, b1, b2, b3, b4, b5, b6, b7⟩ | ⟨e, x, he, _, _, hp⟩
      · rw [a7, b7]
        simp only [Option.bind_some]
        rw [if_neg (by simp)]
        have hs1 : (⟨#[10]⟩ : ByteArray).size = 1 := rfl
        rw [cat_ok2 (by rw [hs1]; omega)]
        simp only [Option.bind_some]
        have hsv : (a ++ (⟨#[10]⟩ : ByteArray)).size = a.size + 1 := by rw [ByteArray.size_append, hs1]
        rw [cat_ok2 (by rw [hsv]; omega)]
        simp only [Option.bind_some]
        have hbytes : bytesL (a ++ (⟨#[10]⟩ : ByteArray) ++ b) = bytesL a ++ 10 :: bytesL b := by
          rw [bytesL_append, bytesL_append]
          have : bytesL (⟨#[10]⟩ : ByteArray) = [10] := rfl
          rw [this]; simp
        have hscan : scanL (bytesL (a ++ (⟨#[10]⟩ : ByteArray) ++ b)) = .ok (φa.app φb).toks := by
          rw [hbytes, scan_join _ _ a1, b1, Fo.toks_app]; rfl
        obtain ⟨φ', p1, p2⟩ := Parse_of (s := a ++ (⟨#[10]⟩ : ByteArray) ++ b) (by rw [ByteArray.size_append, hsv]; omega) hscan (Fo.wf_app _ _ a2 b2) (by rw [Fo.dep_app]; omega) (by rw [Fo.flat_app, List.length_append]; omega)
        rw [p2]
        simp only [Option.bind_some]
        rw [ap_40 (by simp; omega)]
        simp only [Option.bind_some, List.nil_append]
        rw [ap_40 (by omega)]
        simp only [Option.bind_some]
        have hz := Fo.strip_flat φ' (φa.app φb) p1
        rw [Fo.flat_app] at hz
        have hlen : φ'.flat.length = φa.flat.length + φb.flat.length := by simpa using congrArg List.length hz
        have hcnt := Fo.strip_cnt φ' (φa.app φb) p1
        rw [Fo.cnt_app] at hcnt
        have hca := Fo.cnt_flat φa
        have hcb := Fo.cnt_flat φb
        rw [SameN hz (by omega), Tops_flat φ' (by omega), Tops_flat φa (by omega), Tops_flat φb (by omega)]
        simp only [Option.bind_some, posF_len]
        rw [w_eq (by omega) (by omega), hcnt]
        simp
      · rw [a7, hp]
        simp only [Option.bind_some]
        rw [if_pos (by simp [he])]
    · have : isS' (tree_Parse b) := by
        rcases Parse_ok (s := b) (by omega) with ⟨φb, _, _, _, _, _, _, b7⟩ | ⟨e, x, _, _, _, hp⟩
        · exact ⟨_, b7⟩
        · exact ⟨_, hp⟩
      obtain ⟨r, hr⟩ := this
      rw [hp, hr]
      simp only [Option.bind_some]
      rw [if_pos (by simp [he])]
end Go.Proofs.Ytbnohlgchjcjhaa.M

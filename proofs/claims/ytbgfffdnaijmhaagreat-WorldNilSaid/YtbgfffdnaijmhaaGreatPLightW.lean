/-
  Plain laws: what the document's checks of lightness tell, of pods, machines, labels and taints. Own text.
-/
import Derived.Test.YtbgfffdnaijmhaaGreatWNF
import Derived.Test.YtbgfffdnaijmhaaGreatPLoop
namespace Go.Proofs.YtbgfffdnaijmhaaGreat.M
open Go Go.Proofs Go.Proofs.YtbgfffdnaijmhaaGreat.V
set_option linter.unusedVariables false

/-- Something is told. -/
def isS {α : Type} (o : Option α) : Prop := ∃ r, o = some r
theorem T.pure {α : Type} (x : α) : isS (some x) := ⟨x, rfl⟩
theorem T.bind {α β : Type} {o : Option α} {f : α → Option β} (h : isS o) (k : ∀ x, o = some x → isS (f x)) : isS (o.bind f) := by
  obtain ⟨r, rfl⟩ := h; exact k r rfl
theorem T.ite {α : Type} {c : Prop} [Decidable c] {a b : Option α} (h : c → isS a) (k : ¬c → isS b) : isS (if c then a else b) := by
  by_cases hc : c
  · rw [if_pos hc]; exact h hc
  · rw [if_neg hc]; exact k hc
theorem T.on {ρ σ : Type} (o : Out ρ σ) {f : σ → Option ρ} (h : ∀ s, isS (f s)) : isS (o.on f) := by
  cases o with
  | ret r => exact ⟨r, rfl⟩
  | go s => exact h s
theorem T.loop {ρ : Type} {F : Nat → Int → Option ρ} {len : Nat} (hl : len < 1000000000000) (hs : ∀ n (k : Nat), k < len → isS (F n ((k + 1 : Nat) : Int)) → isS (F (n + 1) (k : Int))) (he : ∀ n, isS (F (n + 1) (len : Int))) : isS (F FU 0) := by
  have key : ∀ (m k f : Nat), len - k ≤ m → m < f → k ≤ len → isS (F f (k : Int)) := by
    intro m
    induction m with
    | zero =>
      intro k f h1 h2 h3
      obtain ⟨f, rfl⟩ : ∃ q, f = q + 1 := ⟨f - 1, by omega⟩
      obtain rfl : k = len := by omega
      exact he f
    | succ m ih =>
      intro k f h1 h2 h3
      obtain ⟨f, rfl⟩ : ∃ q, f = q + 1 := ⟨f - 1, by omega⟩
      by_cases hk : k < len
      · exact hs f k hk (ih (k + 1) f (by omega) (by omega) (by omega))
      · obtain rfl : k = len := by omega
        exact he f
  exact key len 0 FU (by omega) (by unfold FU; omega) (Nat.zero_le _)
/-- .. with a number that is carried along. -/
theorem T.loop2 {ρ σ : Type} {F : Nat → σ → Int → Option ρ} {len : Nat} (hl : len < 1000000000000) (hs : ∀ n s (k : Nat), k < len → (∀ s', isS (F n s' ((k + 1 : Nat) : Int))) → isS (F (n + 1) s (k : Int))) (he : ∀ n s, isS (F (n + 1) s (len : Int))) (s : σ) : isS (F FU s 0) := by
  classical
  have := T.loop (F := fun n i => (if ∀ s, isS (F n s i) then some () else none)) hl (fun n k hk h => by
    obtain ⟨r, hr⟩ := h
    split at hr
    · rename_i h; rw [if_pos (fun s => hs n s k hk h)]; exact ⟨_, rfl⟩
    · cases hr) (fun n => by rw [if_pos (fun s => he n s)]; exact ⟨_, rfl⟩)
  obtain ⟨r, hr⟩ := this
  split at hr
  · rename_i h; exact h s
  · cases hr

theorem gl1 {α : Type} {l : List α} (h : (l.length : Int) = 1) : isS (V.gl l 0) := by
  match l, h with
  | [x], _ => exact ⟨x, rfl⟩
  | [], h => simp at h
  | x :: y :: r, h => simp at h; omega

/-! what is light -/
def LL (l : List T_api_Label) : Prop := l.length ≤ 40 ∧ ∀ k (h : k < l.length), l[k].Key.size ≤ 300 ∧ l[k].Val.size ≤ 300
def LT (t : T_api_Term) : Prop := t.Vals.length ≤ 40 ∧ t.Key.size ≤ 300 ∧ ∀ k (h : k < t.Vals.length), t.Vals[k].size ≤ 300
def LB (l : List T_api_Toleration) : Prop := l.length ≤ 40 ∧ ∀ k (h : k < l.length), l[k].Key.size ≤ 300 ∧ l[k].Val.size ≤ 300
def LX (l : List T_api_Taint) : Prop := l.length ≤ 40 ∧ ∀ k (h : k < l.length), l[k].Key.size ≤ 300 ∧ l[k].Val.size ≤ 300
structure LM (m : T_api_Machine) : Prop where
  name : m.Name.size ≤ 300
  group : m.Group.size ≤ 300
  labels : LL m.Labels
  taints : LX m.Taints
structure LP (p : T_api_Pod) : Prop where
  name : p.Name.size ≤ 300
  owner : p.Owner.size ≤ 300
  nterms : p.Terms.length ≤ 30
  nports : p.Ports.length ≤ 30
  labels : LL p.Labels
  select : LL p.Select
  apart : LL p.Apart
  spread : LL p.Spread
  bears : LB p.Bears
  terms : ∀ k (h : k < p.Terms.length), LT p.Terms[k]
structure LY (ms : List T_api_Machine) (bs : List T_api_Bound) : Prop where
  nm : ms.length ≤ 20
  nb : bs.length ≤ 40
  ms : ∀ k (h : k < ms.length), LM ms[k]
  bs : ∀ k (h : k < bs.length), LP bs[k].Pod ∧ bs[k].On.size ≤ 300

theorem ref05_Light_eq (l : List T_api_Label) : ∃ b, ref05_Light l = some b ∧ (b = true → LL l) := by
  unfold ref05_Light
  by_cases h : (l.length : Int) > 40
  · rw [if_pos (by simpa using h)]; exact ⟨false, rfl, by simp⟩
  · rw [if_neg (by simpa using h)]
    have hl : l.length ≤ 40 := by omega
    rcases loopI (F := fun n i => ref05_Light.l1 l n i) (Q := fun r => r = false) (S := fun k => ∀ h : k < l.length, l[k].Key.size ≤ 300 ∧ l[k].Val.size ≤ 300) (len := l.length) (by omega) (fun n k hk => by
        rw [ref05_Light.l1, if_pos (dlt hk), glk hk, wk1 (by omega)]
        simp only [Option.bind_some]
        by_cases h1 : (l[k].Key.size : Int) > 300
        · rw [if_pos (by simpa using h1)]; exact .inl ⟨false, rfl, rfl⟩
        · rw [if_neg (by simpa using h1)]
          simp only [Option.bind_some]
          by_cases h2 : (l[k].Val.size : Int) > 300
          · rw [if_pos (by simpa using h2)]; exact .inl ⟨false, rfl, rfl⟩
          · rw [if_neg (by simpa using h2)]; exact .inr ⟨rfl, fun _ => by omega⟩) (fun n => by rw [ref05_Light.l1, if_neg dnl]) with ⟨r, h1, rfl⟩ | ⟨h1, h2⟩
    · rw [h1]; exact ⟨false, rfl, by simp⟩
    · rw [h1]; exact ⟨true, rfl, fun _ => ⟨hl, fun k hk => h2 k hk hk⟩⟩

theorem ref06_Light_eq (l : List T_api_Toleration) (x : List T_api_Taint) : ∃ b, ref06_Light l x = some b ∧ (b = true → LB l ∧ LX x) := by
  unfold ref06_Light
  by_cases h : (l.length : Int) > 40 ∨ (x.length : Int) > 40
  · rw [if_pos (by simpa using h)]; exact ⟨false, rfl, by simp⟩
  · rw [if_neg (by simpa using h)]
    have hl : l.length ≤ 40 := by omega
    have hx : x.length ≤ 40 := by omega
    rcases loopI (F := fun n i => ref06_Light.l1 l n i) (Q := fun r => r = false) (S := fun k => ∀ h : k < l.length, l[k].Key.size ≤ 300 ∧ l[k].Val.size ≤ 300) (len := l.length) (by omega) (fun n k hk => by
        rw [ref06_Light.l1, if_pos (dlt hk), glk hk, wk1 (by omega)]
        simp only [Option.bind_some]
        by_cases h1 : (l[k].Key.size : Int) > 300
        · rw [if_pos (by simpa using h1)]; exact .inl ⟨false, rfl, rfl⟩
        · rw [if_neg (by simpa using h1)]
          simp only [Option.bind_some]
          by_cases h2 : (l[k].Val.size : Int) > 300
          · rw [if_pos (by simpa using h2)]; exact .inl ⟨false, rfl, rfl⟩
          · rw [if_neg (by simpa using h2)]; exact .inr ⟨rfl, fun _ => by omega⟩) (fun n => by rw [ref06_Light.l1, if_neg dnl]) with ⟨r, h1, rfl⟩ | ⟨h1, h2⟩
    · rw [h1]; exact ⟨false, rfl, by simp⟩
    · rw [h1]
      simp only [Option.bind_some, Out.on]
      rcases loopI (F := fun n i => ref06_Light.l2 x n i) (Q := fun r => r = false) (S := fun k => ∀ h : k < x.length, x[k].Key.size ≤ 300 ∧ x[k].Val.size ≤ 300) (len := x.length) (by omega) (fun n k hk => by
          rw [ref06_Light.l2, if_pos (dlt hk), glk hk, wk1 (by omega)]
          simp only [Option.bind_some]
          by_cases h1 : (x[k].Key.size : Int) > 300
          · rw [if_pos (by simpa using h1)]; exact .inl ⟨false, rfl, rfl⟩
          · rw [if_neg (by simpa using h1)]
            simp only [Option.bind_some]
            by_cases h2 : (x[k].Val.size : Int) > 300
            · rw [if_pos (by simpa using h2)]; exact .inl ⟨false, rfl, rfl⟩
            · rw [if_neg (by simpa using h2)]; exact .inr ⟨rfl, fun _ => by omega⟩) (fun n => by rw [ref06_Light.l2, if_neg dnl]) with ⟨r, h3, rfl⟩ | ⟨h3, h4⟩
      · rw [h3]; exact ⟨false, rfl, by simp⟩
      · rw [h3]; exact ⟨true, rfl, fun _ => ⟨⟨hl, fun k hk => h2 k hk hk⟩, ⟨hx, fun k hk => h4 k hk hk⟩⟩⟩

theorem ref05_LightTerm_eq (t : T_api_Term) : ∃ b, ref05_LightTerm t = some b ∧ (b = true → LT t) := by
  unfold ref05_LightTerm
  by_cases h : (t.Vals.length : Int) > 40 ∨ (t.Key.size : Int) > 300
  · rw [if_pos (by simpa using h)]; exact ⟨false, rfl, by simp⟩
  · rw [if_neg (by simpa using h)]
    rcases loopI (F := fun n i => ref05_LightTerm.l1 t n i) (Q := fun r => r = false) (S := fun k => ∀ h : k < t.Vals.length, t.Vals[k].size ≤ 300) (len := t.Vals.length) (by omega) (fun n k hk => by
        rw [ref05_LightTerm.l1, if_pos (dlt hk), glk hk, wk1 (by omega)]
        simp only [Option.bind_some]
        by_cases h1 : (t.Vals[k].size : Int) > 300
        · rw [if_pos (by simpa using h1)]; exact .inl ⟨false, rfl, rfl⟩
        · rw [if_neg (by simpa using h1)]; exact .inr ⟨rfl, fun _ => by omega⟩) (fun n => by rw [ref05_LightTerm.l1, if_neg dnl]) with ⟨r, h1, rfl⟩ | ⟨h1, h2⟩
    · rw [h1]; exact ⟨false, rfl, by simp⟩
    · rw [h1]; exact ⟨true, rfl, fun _ => ⟨by omega, by omega, fun k hk => h2 k hk hk⟩⟩

theorem ref07_LightPod_eq (p : T_api_Pod) : ∃ b, ref07_LightPod p = some b ∧ (b = true → LP p) := by
  unfold ref07_LightPod
  obtain ⟨b1, e1, f1⟩ := ref05_Light_eq p.Labels
  obtain ⟨b2, e2, f2⟩ := ref05_Light_eq p.Select
  obtain ⟨b3, e3, f3⟩ := ref05_Light_eq p.Apart
  obtain ⟨b4, e4, f4⟩ := ref05_Light_eq p.Spread
  obtain ⟨b5, e5, f5⟩ := ref06_Light_eq p.Bears []
  rw [e1, e2, e3, e4, e5]
  by_cases h : (p.Name.size : Int) > 300 ∨ (p.Owner.size : Int) > 300 ∨ (p.Terms.length : Int) > 30 ∨ (p.Ports.length : Int) > 30
  · rw [if_pos (by simpa [or_assoc] using h)]
    exact ⟨false, rfl, by simp⟩
  · rw [if_neg (by simpa [or_assoc] using h)]
    cases b1 with
    | false => exact ⟨false, rfl, by simp⟩
    | true =>
    cases b2 with
    | false => exact ⟨false, rfl, by simp⟩
    | true =>
    cases b3 with
    | false => exact ⟨false, rfl, by simp⟩
    | true =>
    cases b4 with
    | false => exact ⟨false, rfl, by simp⟩
    | true =>
    cases b5 with
    | false => exact ⟨false, rfl, by simp⟩
    | true =>
      simp only [Option.bind_some, Bool.not_true, Bool.false_eq_true, if_false]
      rcases loopI (F := fun n i => ref07_LightPod.l1 p n i) (Q := fun r => r = false) (S := fun k => ∀ h : k < p.Terms.length, LT p.Terms[k]) (len := p.Terms.length) (by omega) (fun n k hk => by
          rw [ref07_LightPod.l1, if_pos (dlt hk), glk hk, wk1 (by omega)]
          simp only [Option.bind_some]
          obtain ⟨b, e, f⟩ := ref05_LightTerm_eq p.Terms[k]
          rw [e]
          cases b with
          | false => exact .inl ⟨false, rfl, rfl⟩
          | true => exact .inr ⟨rfl, fun _ => f rfl⟩) (fun n => by rw [ref07_LightPod.l1, if_neg dnl]) with ⟨r, h1, rfl⟩ | ⟨h1, h2⟩
      · rw [h1]; exact ⟨false, rfl, by simp⟩
      · rw [h1]
        exact ⟨true, rfl, fun _ => ⟨by omega, by omega, by omega, by omega, f1 rfl, f2 rfl, f3 rfl, f4 rfl, (f5 rfl).1, fun k hk => h2 k hk hk⟩⟩

end Go.Proofs.YtbgfffdnaijmhaaGreat.M

/- Plain law: what is shown of a pod ends, whatever it is; a pod, a machine, and a yard are the same as themselves. Own work. -/
import Derived.Test.YtbkdglcedgiogaaGreatPRef2
namespace Go.Proofs.YtbkdglcedgiogaaGreat.M
open Go Go.Proofs Go.Proofs.YtbkdglcedgiogaaGreat.V
open Go.IntKind (i64)
set_option linter.unusedVariables false
set_option maxRecDepth 20000
set_option maxHeartbeats 4000000

def isB (o : Option ByteArray) (n : Nat) : Prop := ∃ r, o = some r ∧ r.size ≤ n
theorem isB.s {o : Option ByteArray} {n : Nat} (h : isB o n) : isS o := by obtain ⟨r, h, _⟩ := h; exact ⟨r, h⟩
theorem isB.mono {o : Option ByteArray} {n m : Nat} (h : isB o n) (k : n ≤ m) : isB o m := by obtain ⟨r, h, j⟩ := h; exact ⟨r, h, by omega⟩
theorem isB.bind {α : Type} {o : Option α} {f : α → Option ByteArray} {n : Nat} (h : isS o) (k : ∀ x, o = some x → isB (f x) n) : isB (o.bind f) n := by obtain ⟨x, rfl⟩ := h; exact k x rfl
theorem isB.bindB {o : Option ByteArray} {f : ByteArray → Option ByteArray} {n m : Nat} (h : isB o m) (k : ∀ x : ByteArray, x.size ≤ m → isB (f x) n) : isB (o.bind f) n := by obtain ⟨x, rfl, e⟩ := h; exact k x e
theorem isB.ite {c : Prop} [Decidable c] {a b : Option ByteArray} {n : Nat} (h : c → isB a n) (k : ¬c → isB b n) : isB (if c then a else b) n := by
  split
  · exact h ‹_›
  · exact k ‹_›
theorem isB.pure {x : ByteArray} {n : Nat} (h : x.size ≤ n) : isB (some x) n := ⟨x, rfl, h⟩
theorem isB.cat {s t : ByteArray} {f : ByteArray → Option ByteArray} {n i j : Nat} (hs : s.size ≤ i) (ht : t.size ≤ j) (hb : i + j ≤ 1000000000) (k : ∀ r : ByteArray, r.size ≤ i + j → isB (f r) n) : isB ((V.cat s t).bind f) n := by
  unfold V.cat; rw [if_pos (by unfold maxLen; omega)]
  exact k _ (by rw [ByteArray.size_append]; omega)
theorem isB.on {o : Option (Out ByteArray Unit)} {f : Unit → Option ByteArray} {n : Nat} (h : ∃ x, o = Option.some x ∧ ∀ r, x = Out.ret r → r.size ≤ n) (k : isB (f ()) n) : isB (o.bind fun x => x.on f) n := by
  obtain ⟨x, rfl, h⟩ := h
  cases x with
  | ret r => exact ⟨r, rfl, h r rfl⟩
  | go u => exact k

/-- A loop that lengthens a text. -/
theorem isB.loop {α : Type} {F : Nat → ByteArray → Int → Option ByteArray} {l : List α} (c : Nat) (hl : l.length ≤ 1000)
    (hs : ∀ n (k : Nat) (hk : k < l.length) (s : ByteArray) (b : Nat), s.size ≤ b → b + c ≤ 100000000 → (∀ r : ByteArray, r.size ≤ b + c → isB (F n r (((k : Nat) : Int) + 1)) (b + c + (l.length - (k + 1)) * c)) → isB (F (n + 1) s (k : Int)) (b + c + (l.length - (k + 1)) * c))
    (he : ∀ n s, F (n + 1) s (l.length : Int) = some s) : ∀ {s : ByteArray} {b : Nat}, s.size ≤ b → b + l.length * c ≤ 100000000 → isB (F FU s 0) (b + l.length * c) := by
  have key : ∀ (m k n : Nat) (s : ByteArray) (b : Nat), l.length - k ≤ m → m < n → k ≤ l.length → s.size ≤ b → b + (l.length - k) * c ≤ 100000000 → isB (F n s (k : Int)) (b + (l.length - k) * c) := by
    intro m
    induction m with
    | zero =>
      intro k n s b h1 h2 h3 h4 _
      obtain ⟨n, rfl⟩ : ∃ n', n = n' + 1 := ⟨n - 1, by omega⟩
      have : k = l.length := by omega
      subst this
      rw [he]; exact ⟨s, rfl, by omega⟩
    | succ m ih =>
      intro k n s b h1 h2 h3 h4 h5
      obtain ⟨n, rfl⟩ : ∃ n', n = n' + 1 := ⟨n - 1, by omega⟩
      by_cases hk : k < l.length
      · have e : l.length - k = (l.length - (k + 1)) + 1 := by omega
        have e2 : (l.length - k) * c = c + (l.length - (k + 1)) * c := by rw [e, Nat.add_mul]; omega
        rw [e2, ← Nat.add_assoc]
        refine hs n k hk s b h4 (by have : 0 ≤ (l.length - (k + 1)) * c := Nat.zero_le _; omega) fun r hr => ?_
        have := ih (k + 1) n r (b + c) (by omega) (by omega) (by omega) hr (by omega)
        exact this
      · have : k = l.length := by omega
        subst this
        rw [he]; exact ⟨s, rfl, by omega⟩
  intro s b h1 h2
  have := key l.length 0 FU s b (by omega) (by unfold FU; omega) (by omega) h1 (by omega)
  simpa using this

theorem numsz (x : Int) : (strOfNums [x]).size = 1 := rfl
theorem digits_B : ∀ (d f : Nat) (n : Int), n < (10 : Int) ^ (d + 1) → n < 9223372036854775808 → d < f → d < 1000 → isB (ref01_Digits f n) (d + 1) := by
  intro d
  induction d with
  | zero =>
    intro f n h1 _ h2 _
    obtain ⟨f, rfl⟩ : ∃ n', f = n' + 1 := ⟨f - 1, by omega⟩
    rw [ref01_Digits, if_pos (by simp only [decide_eq_true_eq]; omega)]
    exact ⟨_, rfl, by rw [numsz]; omega⟩
  | succ d ih =>
    intro f n h1 h3 h2 h4
    obtain ⟨f, rfl⟩ : ∃ n', f = n' + 1 := ⟨f - 1, by omega⟩
    rw [ref01_Digits]
    refine isB.ite (fun _ => ⟨_, rfl, by rw [numsz]; omega⟩) fun hn => ?_
    have hn : 10 ≤ n := by simpa using hn
    have hq : V.quo n 10 = some (n / 10) := by unfold V.quo; rw [if_neg (by omega), Int.tdiv_eq_ediv_of_nonneg (by omega)]
    have hr : V.rem n 10 = some (n % 10) := by unfold V.rem; rw [if_neg (by omega), Int.tmod_eq_emod_of_nonneg (by omega)]
    rw [hq, hr]
    simp only [Option.bind_some]
    have e : (10 : Int) ^ (d + 1 + 1) = 10 * (10 : Int) ^ (d + 1) := by rw [Int.pow_succ]; omega
    rw [w_eq (by omega) (by omega)]
    refine isB.bindB (ih f _ (by omega) (by omega) (by omega) (by omega)) fun r hr => ?_
    exact isB.cat (j := 1) hr (by rw [numsz]; omega) (by omega) fun r hr => ⟨r, rfl, by omega⟩
theorem wlt (n : Int) : i64.wrap n < 9223372036854775808 := by rw [IntKind.wrap_i64]; omega
theorem Digits_B (n : Int) : isB (ref01_Digits FU n) 21 := by
  obtain ⟨f, hf⟩ : ∃ f, FU = f + 30 := ⟨1152921504606846946, rfl⟩
  rw [hf]
  by_cases hn : n < 10
  · exact (digits_B 0 (f + 30) n (by omega) (by omega) (by omega) (by omega)).mono (by omega)
  · rw [ref01_Digits, if_neg (by simpa using hn)]
    have hq : V.quo n 10 = some (n / 10) := by unfold V.quo; rw [if_neg (by omega), Int.tdiv_eq_ediv_of_nonneg (by omega)]
    have hr : V.rem n 10 = some (n % 10) := by unfold V.rem; rw [if_neg (by omega), Int.tmod_eq_emod_of_nonneg (by omega)]
    rw [hq, hr]
    simp only [Option.bind_some]
    refine isB.bindB (digits_B 19 (f + 29) _ (by have := wlt (n / 10); omega) (wlt _) (by omega) (by omega)) fun r hr => ?_
    exact isB.cat (j := 1) hr (by rw [numsz]; omega) (by omega) fun r hr => ⟨r, rfl, by omega⟩
theorem lit1 {k : Nat} {a : Array UInt8} (k0 : (a.size).ble k = true) : (ByteArray.mk a).size ≤ k := Nat.le_of_ble_eq_true k0
theorem Milli_B (n : Int) : isB (ref03_ShowMilli n) 30 := by
  unfold ref03_ShowMilli
  refine isB.ite (fun _ => ⟨_, rfl, lit1 rfl⟩) fun hn => ?_
  refine isB.bind ⟨_, rfl⟩ fun v _ => isB.ite (fun _ => ?_) fun _ => ?_
  · exact isB.bind ⟨_, rfl⟩ fun v _ => isB.bindB (Digits_B _) fun r hr => ⟨r, rfl, by omega⟩
  · exact isB.bindB (Digits_B _) fun r hr => isB.cat hr (lit1 (k := 1) rfl) (by omega) fun r hr => ⟨r, rfl, by omega⟩
theorem show3_step (n v : Int) (hv : v ≠ 0) (x : ByteArray) (hx : x.size ≤ 2) (rest : Option (Out ByteArray Unit)) :
    (∃ r, ((if decide (n > 0) = true then (V.rem n v).bind fun v2 => some (v2 == 0) else some false).bind fun c => if c = true then (V.quo n v).bind fun v3 => (some x : Option ByteArray).bind fun x => (ref01_Digits FU (i64.wrap v3)).bind fun r => (V.cat r x).bind fun v4 => some (Out.ret v4) else rest) = some (Out.ret r) ∧ r.size ≤ 30) ∨
    (((if decide (n > 0) = true then (V.rem n v).bind fun v2 => some (v2 == 0) else some false).bind fun c => if c = true then (V.quo n v).bind fun v3 => (some x : Option ByteArray).bind fun x => (ref01_Digits FU (i64.wrap v3)).bind fun r => (V.cat r x).bind fun v4 => some (Out.ret v4) else rest) = rest ∧ True) := by
  obtain ⟨c, hc⟩ : isS (if decide (n > 0) = true then (V.rem n v).bind fun v2 => some (v2 == 0) else some false) := T.ite (fun _ => T.bind ⟨_, by unfold V.rem; rw [if_neg hv]⟩ fun _ _ => ⟨_, rfl⟩) fun _ => ⟨_, rfl⟩
  rw [hc]
  simp only [Option.bind_some]
  cases c with
  | false => exact .inr ⟨rfl, trivial⟩
  | true =>
    left
    obtain ⟨r, h1, h2⟩ := Digits_B (i64.wrap (n.tdiv v))
    refine ⟨r ++ x, ?_, by rw [ByteArray.size_append]; omega⟩
    rw [if_pos rfl, show V.quo n v = some (n.tdiv v) by unfold V.quo; rw [if_neg hv]]
    simp only [Option.bind_some]
    rw [h1]
    simp only [Option.bind_some]
    unfold V.cat
    rw [if_pos (by unfold maxLen; omega)]
    rfl
theorem Show3_B (n : Int) : isB (ref03_Show n) 30 := by
  unfold ref03_Show
  refine isB.ite (fun _ => ⟨_, rfl, lit1 rfl⟩) fun hn => isB.on ?_ (isB.bindB (Digits_B _) fun r hr => ⟨r, rfl, by omega⟩)
  rcases loopI (F := fun f i => ref03_Show.l1 n f i) (Q := fun r => r.size ≤ 30) (S := fun k => True) (len := 4) (by omega) (fun f k hk => by
      rw [ref03_Show.l1, if_pos (by simp; omega), wk1 (by omega)]
      rcases (by omega : k = 0 ∨ k = 1 ∨ k = 2 ∨ k = 3) with rfl | rfl | rfl | rfl
      · exact show3_step n 1099511627776 (by omega) _ (lit1 rfl) _
      · exact show3_step n 1073741824 (by omega) _ (lit1 rfl) _
      · exact show3_step n 1048576 (by omega) _ (lit1 rfl) _
      · exact show3_step n 1024 (by omega) _ (lit1 rfl) _) (fun f => by rw [ref03_Show.l1, if_neg (by simp)]) with ⟨r, h1, h2⟩ | ⟨h1, _⟩
  · exact ⟨_, h1, fun r' e => by injection e with e; rw [← e]; exact h2⟩
  · exact ⟨_, h1, fun r' e => by cases e⟩

theorem atom_B {s : ByteArray} {n : Nat} (h : s.size ≤ n) (h2 : 2 ≤ n) : isB (ref07_atom s) n := by
  unfold ref07_atom
  exact isB.ite (fun _ => ⟨_, rfl, Nat.le_trans (lit1 (k := 2) rfl) h2⟩) fun _ => ⟨_, rfl, h⟩
theorem number_B (name : ByteArray) (h : name.size ≤ 20) (n : Int) : isB (ref07_number name n) 100 := by
  unfold ref07_number
  refine isB.ite (fun _ => ⟨_, rfl, lit1 rfl⟩) fun _ => ?_
  exact isB.cat (lit1 (k := 2) rfl) h (by omega) fun r hr => isB.cat hr (lit1 (k := 1) rfl) (by omega) fun r hr => isB.bindB (Digits_B n) fun d hd => isB.cat hr hd (by omega) fun r hr => isB.cat hr (lit1 (k := 1) rfl) (by omega) fun r hr => ⟨r, rfl, by omega⟩
theorem flag_B (name : ByteArray) (h : name.size ≤ 20) (b : Bool) : isB (ref07_flag name b) 100 := by
  unfold ref07_flag
  refine isB.ite (fun _ => ?_) fun _ => ⟨_, rfl, lit1 rfl⟩
  exact isB.cat (lit1 (k := 1) rfl) h (by omega) fun r hr => ⟨r, rfl, by omega⟩
theorem pairs_B (name : ByteArray) (h : name.size ≤ 20) {l : List T_api_Label} (hl : LL l) : isB (ref07_pairs name l) 40000 := by
  unfold ref07_pairs
  have hn := hl.1
  have := isB.loop (F := fun f s i => ref07_pairs.l1 name l f s i) (l := l) 700 (by omega) (fun n k hk s b hs hb c => by
      rw [ref07_pairs.l1, if_pos (dlt hk)]
      obtain ⟨h1, h2⟩ := hl.2 k hk
      refine isB.cat hs (lit1 (k := 2) rfl) (by omega) fun r hr => isB.cat hr h (by omega) fun r hr => isB.cat hr (lit1 (k := 1) rfl) (by omega) fun r hr => ?_
      rw [glk hk]
      simp only [Option.bind_some]
      refine isB.cat hr h1 (by omega) fun r hr => isB.cat hr (lit1 (k := 1) rfl) (by omega) fun r hr => isB.bindB (atom_B h2 (by omega)) fun a ha => isB.cat hr ha (by omega) fun r hr => isB.cat hr (lit1 (k := 1) rfl) (by omega) fun r hr => ?_
      rw [w_eq (by omega) (by omega)]
      exact c r (by omega)) (fun n s => by rw [ref07_pairs.l1, if_neg dnl]) (s := ⟨#[]⟩) (b := 0) (lit1 rfl) (by omega)
  exact isB.bindB (this.mono (by omega)) fun r hr => ⟨r, rfl, hr⟩

/-- A right pod's tolerations have known effects. -/
theorem bears_of {l : List T_api_Toleration} (hl : LB l) (h : ref06_RightBears l = some true) : ∀ k (hk : k < l.length), 0 ≤ l[k].Effect ∧ l[k].Effect ≤ 3 := by
  have hn := hl.1
  unfold ref06_RightBears at h
  split at h
  · cases h
  rcases loopI (F := fun n i => ref06_RightBears.l1 l n i) (Q := fun r => r = false) (S := fun k => ∀ hk : k < l.length, 0 ≤ l[k].Effect ∧ l[k].Effect ≤ 3) (len := l.length) (by omega) (fun n k hk => by
      rw [ref06_RightBears.l1, if_pos (dlt hk), glk hk, wk1 (by omega)]
      simp only [Option.bind_some]
      obtain ⟨c, hc⟩ : isS (if (!true) = true then some true else some false) := ⟨_, rfl⟩
      obtain ⟨a, ha⟩ := maybe6_tot (hl.2 k hk).1
      obtain ⟨b, hb⟩ := maybe6_tot (hl.2 k hk).2
      rw [ha, hb]
      simp only [Option.bind_some]
      cases a with
      | false => exact .inl ⟨false, rfl, rfl⟩
      | true =>
        cases b with
        | false => exact .inl ⟨false, rfl, rfl⟩
        | true =>
          simp only [Bool.not_true, Bool.false_eq_true, if_false, Option.bind_some]
          unfold ref06_effect
          by_cases he : l[k].Effect = 0
          · rw [show (l[k].Effect != 0) = false by simp [he]]
            simp only [Bool.false_eq_true, if_false, Option.bind_some, Bool.false_or]
            cases ((l[k].Any && !V.seq l[k].Val ⟨#[]⟩) || (V.seq l[k].Key ⟨#[]⟩ && !l[k].Any))
            · exact .inr ⟨rfl, fun _ => by omega⟩
            · exact .inl ⟨false, rfl, rfl⟩
          · rw [show (l[k].Effect != 0) = true by simp [he]]
            simp only [if_true, Option.bind_some]
            by_cases h1 : l[k].Effect ≥ 1 ∧ l[k].Effect ≤ 3
            · rw [decide_eq_true h1.1, decide_eq_true h1.2]
              simp only [Bool.and_self, Bool.not_true, Bool.false_or]
              cases ((l[k].Any && !V.seq l[k].Val ⟨#[]⟩) || (V.seq l[k].Key ⟨#[]⟩ && !l[k].Any))
              · exact .inr ⟨rfl, fun _ => by omega⟩
              · exact .inl ⟨false, rfl, rfl⟩
            · rw [show (decide (l[k].Effect ≥ 1) && decide (l[k].Effect ≤ 3)) = false by rw [← Bool.decide_and]; exact decide_eq_false h1]
              exact .inl ⟨false, rfl, rfl⟩) (fun n => by rw [ref06_RightBears.l1, if_neg dnl]) with ⟨r, h1, h2⟩ | ⟨h1, h2⟩
  · rw [h1, h2] at h; cases h
  · exact fun k hk => h2 k hk hk

theorem bears7 {p : T_api_Pod} (hp : LP p) (h : ref07_RightPod p = some true) : ref06_RightBears p.Bears = some true := by
  unfold ref07_RightPod at h
  obtain ⟨_, _, h⟩ := Option.bind_eq_some_iff.1 h
  obtain ⟨_, _, h⟩ := Option.bind_eq_some_iff.1 h
  obtain ⟨_, _, h⟩ := Option.bind_eq_some_iff.1 h
  obtain ⟨_, _, h⟩ := Option.bind_eq_some_iff.1 h
  split at h
  · cases h
  obtain ⟨o, ho, h⟩ := Option.bind_eq_some_iff.1 h
  cases o with
  | ret r =>
    exfalso
    have hn := hp.nterms
    simp only [Out.on, Option.some.injEq] at h
    rcases loopI (F := fun n i => ref07_RightPod.l1 p n i) (Q := fun r => r = false) (S := fun k => True) (len := p.Terms.length) (by omega) (fun n k hk => by
        rw [ref07_RightPod.l1, if_pos (dlt hk), glk hk, wk1 (by omega)]
        simp only [Option.bind_some]
        obtain ⟨b, hb⟩ := Term5_tot (hp.terms k hk)
        rw [hb]
        cases b with
        | false => exact .inl ⟨false, rfl, rfl⟩
        | true => exact .inr ⟨rfl, trivial⟩) (fun n => by rw [ref07_RightPod.l1, if_neg dnl]) with ⟨r', h1, h2⟩ | ⟨h1, _⟩
    · rw [h1] at ho
      injection ho with ho
      injection ho with ho
      rw [← ho, h2] at h
      cases h
    · rw [h1] at ho; cases ho
  | go u =>
    simp only [Out.on] at h
    obtain ⟨o, ho, h⟩ := Option.bind_eq_some_iff.1 h
    cases o with
    | ret r =>
      exfalso
      have hn := hp.nports
      simp only [Option.some.injEq] at h
      rcases loopI (F := fun n i => ref07_RightPod.l2 p n i) (Q := fun r => r = false) (S := fun k => True) (len := p.Ports.length) (by omega) (fun n k hk => by
          rw [ref07_RightPod.l2, if_pos (dlt hk), glk hk, wk1 (by omega)]
          simp only [Option.bind_some, ref07_in]
          by_cases h0 : 0 < k
          · have h0' : (decide ((k : Int) > 0)) = true := by simp; omega
            simp only [h0', if_true, glp hk h0 (by omega), Option.bind_some]
            cases (decide (p.Ports[k] ≥ (1 : Int)) && decide (p.Ports[k] ≤ (65535 : Int)))
            · exact .inl ⟨false, rfl, rfl⟩
            · by_cases hle : p.Ports[k] ≤ p.Ports[k - 1]
              · rw [decide_eq_true hle]; exact .inl ⟨false, rfl, rfl⟩
              · rw [decide_eq_false hle]; exact .inr ⟨rfl, trivial⟩
          · have h0' : (decide ((k : Int) > 0)) = false := by simp; omega
            simp only [h0', Bool.false_eq_true, if_false, Option.bind_some]
            cases (decide (p.Ports[k] ≥ (1 : Int)) && decide (p.Ports[k] ≤ (65535 : Int)))
            · exact .inl ⟨false, rfl, rfl⟩
            · exact .inr ⟨rfl, trivial⟩) (fun n => by rw [ref07_RightPod.l2, if_neg dnl]) with ⟨r', h1, h2⟩ | ⟨h1, _⟩
      · rw [h1] at ho
        injection ho with ho
        injection ho with ho
        rw [← ho, h2] at h
        cases h
      · rw [h1] at ho; cases ho
    | go u =>
      simp only at h
      obtain ⟨_, _, h⟩ := Option.bind_eq_some_iff.1 h
      split at h
      · cases h
      obtain ⟨_, _, h⟩ := Option.bind_eq_some_iff.1 h
      obtain ⟨_, _, h⟩ := Option.bind_eq_some_iff.1 h
      obtain ⟨_, _, h⟩ := Option.bind_eq_some_iff.1 h
      obtain ⟨_, _, h⟩ := Option.bind_eq_some_iff.1 h
      obtain ⟨c, hc, h⟩ := Option.bind_eq_some_iff.1 h
      simp only [Option.some.injEq] at h
      subst h
      split at hc
      · obtain ⟨d, hd, hc⟩ := Option.bind_eq_some_iff.1 hc
        simp only [Option.some.injEq] at hc
        rw [hd, hc]
      · cases hc

theorem ShowPod_B {p : T_api_Pod} (h : LP p) : isB (ref07_ShowPod p) 10000000 := by
  have hnt := h.nterms
  have hnp := h.nports
  have hnb := h.bears.1
  obtain ⟨b, hb⟩ := RPod_tot h
  unfold ref07_ShowPod
  rw [hb]
  cases b with
  | false => exact ⟨_, rfl, lit1 rfl⟩
  | true =>
    have hg := gp_of h hb
    have hbe := bears_of h.bears (bears7 h hb)
    rw [Option.bind_some, if_neg (by decide)]
    refine isB.cat (lit1 (k := 100) rfl) h.name (by omega) fun r hr => isB.cat hr (lit1 (k := 100) rfl) (by omega) fun r hr => ?_
    refine isB.bindB (Milli_B _) fun d hd => isB.cat hr hd (by omega) fun r hr => isB.cat hr (lit1 (k := 100) rfl) (by omega) fun r hr => ?_
    refine isB.bindB (Show3_B _) fun d hd => isB.cat hr hd (by omega) fun r hr => isB.cat hr (lit1 (k := 100) rfl) (by omega) fun r hr => ?_
    refine isB.bindB (Show3_B _) fun d hd => isB.cat hr hd (by omega) fun r hr => isB.cat hr (lit1 (k := 100) rfl) (by omega) fun r hr => ?_
    refine isB.bindB (Digits_B _) fun d hd => isB.cat hr hd (by omega) fun r hr => isB.cat hr (lit1 (k := 100) rfl) (by omega) fun r hr => ?_
    refine isB.bindB (pairs_B _ (lit1 rfl) h.labels) fun d hd => isB.cat hr hd (by omega) fun r hr => ?_
    refine isB.bindB (pairs_B _ (lit1 rfl) h.select) fun d hd => isB.cat hr hd (by omega) fun r hr => ?_
    refine isB.bindB (pairs_B _ (lit1 rfl) h.apart) fun d hd => isB.cat hr hd (by omega) fun r hr => ?_
    have hr1 : r.size ≤ 200000 := by omega
    refine isB.bindB (m := 1000000) ?_ fun r hr => ?_
    · refine (isB.loop (F := fun f s i => ref07_ShowPod.l1 p f s i) (l := p.Terms) 20000 (by omega) (fun n k hk s b hs hb c => ?_) (fun n s => by rw [ref07_ShowPod.l1, if_neg dnl]) hr1 (by omega)).mono (by omega)
      obtain ⟨hv, hk1, hk2⟩ := h.terms k hk
      obtain ⟨ho, _⟩ := term_right (h.terms k hk) (hg.terms k hk)
      rw [ref07_ShowPod.l1, if_pos (dlt hk), glk hk, Option.bind_some]
      refine isB.cat hs (lit1 (k := 100) rfl) (by omega) fun r hr => isB.cat hr hk1 (by omega) fun r hr => isB.cat hr (lit1 (k := 100) rfl) (by omega) fun r hr => ?_
      rw [show ref07_ops = some _ from rfl, Option.bind_some]
      refine isB.bindB (m := 100) (by rcases ho with e | e | e | e | e | e <;> rw [e] <;> exact ⟨_, rfl, lit1 rfl⟩) fun d hd => isB.cat hr hd (by omega) fun r hr => ?_
      refine isB.bindB (m := b + 19000) ?_ fun r hr => isB.cat hr (lit1 (k := 100) rfl) (by omega) fun r hr => by rw [w_eq (by omega) (by omega)]; exact c r (by omega)
      refine ((isB.loop (F := fun f s i => ref07_ShowPod.l2 p.Terms[k] f s i) (l := p.Terms[k].Vals) 400 (by omega) (fun n j hj s b hs hb c => ?_) (fun n s => by rw [ref07_ShowPod.l2, if_neg dnl]) hr (by omega)).mono (by omega))
      rw [ref07_ShowPod.l2, if_pos (dlt hj)]
      refine isB.cat hs (lit1 (k := 10) rfl) (by omega) fun r hr => ?_
      rw [glk hj, Option.bind_some]
      refine isB.bindB (atom_B (hk2 j hj) (by omega)) fun d hd => isB.cat hr hd (by omega) fun r hr => by rw [w_eq (by omega) (by omega)]; exact c r (by omega)
    refine isB.bindB (m := 1200000) ?_ fun r hr => ?_
    · refine (isB.loop (F := fun f s i => ref07_ShowPod.l3 p f s i) (l := p.Bears) 2000 (by omega) (fun n k hk s b hs hb c => ?_) (fun n s => by rw [ref07_ShowPod.l3, if_neg dnl]) hr (by omega)).mono (by omega)
      obtain ⟨hk1, hk2⟩ := h.bears.2 k hk
      obtain ⟨e0, e3⟩ := hbe k hk
      rw [ref07_ShowPod.l3, if_pos (dlt hk), glk hk, Option.bind_some]
      have he : ∀ r : ByteArray, isB (V.gl ([(⟨#[97, 110, 121]⟩ : ByteArray), (⟨#[110, 111]⟩ : ByteArray), (⟨#[112, 114, 101, 102, 101, 114]⟩ : ByteArray), (⟨#[111, 117, 116]⟩ : ByteArray)]) p.Bears[k].Effect) 100 := fun _ => by
        rcases (by omega : p.Bears[k].Effect = 0 ∨ p.Bears[k].Effect = 1 ∨ p.Bears[k].Effect = 2 ∨ p.Bears[k].Effect = 3) with e | e | e | e <;> rw [e] <;> exact ⟨_, rfl, lit1 rfl⟩
      refine isB.ite (fun _ => ?_) fun _ => ?_
      · refine isB.cat hs (lit1 (k := 100) rfl) (by omega) fun r hr => isB.bindB (atom_B hk1 (by omega)) fun d hd => isB.cat hr hd (by omega) fun r hr => isB.cat hr (lit1 (k := 100) rfl) (by omega) fun r hr => ?_
        rw [show ref07_effects = some _ from rfl, Option.bind_some]
        refine isB.bindB (he r) fun d hd => isB.cat hr hd (by omega) fun r hr => isB.cat hr (lit1 (k := 100) rfl) (by omega) fun r hr => by rw [w_eq (by omega) (by omega)]; exact c r (by omega)
      · refine isB.cat hs (lit1 (k := 100) rfl) (by omega) fun r hr => isB.bindB (atom_B hk1 (by omega)) fun d hd => isB.cat hr hd (by omega) fun r hr => isB.cat hr (lit1 (k := 100) rfl) (by omega) fun r hr => isB.bindB (atom_B hk2 (by omega)) fun d hd => isB.cat hr hd (by omega) fun r hr => isB.cat hr (lit1 (k := 100) rfl) (by omega) fun r hr => ?_
        rw [show ref07_effects = some _ from rfl, Option.bind_some]
        refine isB.bindB (he r) fun d hd => isB.cat hr hd (by omega) fun r hr => isB.cat hr (lit1 (k := 100) rfl) (by omega) fun r hr => by rw [w_eq (by omega) (by omega)]; exact c r (by omega)
    refine isB.bindB (m := 1300000) ?_ fun r hr => ?_
    · refine (isB.loop (F := fun f s i => ref07_ShowPod.l4 p f s i) (l := p.Ports) 200 (by omega) (fun n k hk s b hs hb c => ?_) (fun n s => by rw [ref07_ShowPod.l4, if_neg dnl]) hr (by omega)).mono (by omega)
      rw [ref07_ShowPod.l4, if_pos (dlt hk), glk hk, Option.bind_some]
      refine isB.bindB (number_B _ (lit1 rfl) _) fun d hd => isB.cat hs hd (by omega) fun r hr => by rw [w_eq (by omega) (by omega)]; exact c r (by omega)
    refine isB.bindB (number_B _ (lit1 rfl) _) fun d hd => isB.cat hr hd (by omega) fun r hr => ?_
    refine isB.bindB (pairs_B _ (lit1 rfl) h.spread) fun d hd => isB.cat hr hd (by omega) fun r hr => ?_
    refine isB.bindB (number_B _ (lit1 rfl) _) fun d hd => isB.cat hr hd (by omega) fun r hr => ?_
    have tail : ∀ (r : ByteArray), r.size ≤ 2000000 → isB ((ref07_flag (⟨#[119, 105, 100, 101]⟩ : ByteArray) p.Wide).bind fun r20 => (V.cat r r20).bind fun v40 => (ref07_flag (⟨#[100, 97, 101, 109, 111, 110]⟩ : ByteArray) p.Daemon).bind fun r21 => (V.cat v40 r21).bind fun v41 => (ref07_flag (⟨#[112, 105, 110, 110, 101, 100]⟩ : ByteArray) p.Pinned).bind fun r22 => (V.cat v41 r22).bind fun v42 => (ref07_flag (⟨#[108, 111, 99, 97, 108]⟩ : ByteArray) p.Local).bind fun r23 => (V.cat v42 r23).bind fun v43 => (V.cat v43 (⟨#[41]⟩ : ByteArray)).bind fun v44 => some v44) 10000000 := fun r hr =>
      isB.bindB (flag_B _ (lit1 rfl) _) fun d hd => isB.cat hr hd (by omega) fun r hr => isB.bindB (flag_B _ (lit1 rfl) _) fun d hd => isB.cat hr hd (by omega) fun r hr => isB.bindB (flag_B _ (lit1 rfl) _) fun d hd => isB.cat hr hd (by omega) fun r hr => isB.bindB (flag_B _ (lit1 rfl) _) fun d hd => isB.cat hr hd (by omega) fun r hr => isB.cat hr (lit1 (k := 100) rfl) (by omega) fun r hr => ⟨r, rfl, by omega⟩
    refine isB.ite (fun _ => ?_) fun _ => tail r (by omega)
    exact isB.cat hr (lit1 (k := 100) rfl) (by omega) fun r hr => isB.cat hr h.owner (by omega) fun r hr => isB.cat hr (lit1 (k := 100) rfl) (by omega) fun r hr => tail r (by omega)

theorem SamePod_self {p : T_api_Pod} (h : LP p) : ref07_SamePod p p = some true := by
  unfold ref07_SamePod
  obtain ⟨r, hr, _⟩ := ShowPod_B h
  rw [hr]
  simp [seq_eq]
theorem Same9_self {bs : List T_api_Bound} (hn : bs.length ≤ 1000) (h : ∀ b, b ∈ bs → LP b.Pod) : ref09_Same [] bs [] bs = some true := by
  unfold ref09_Same
  rw [if_neg (by simp)]
  rw [show ref09_Same.l1 [] [] FU 0 = some (Out.go ()) from rfl]
  simp only [Option.bind_some, Out.on]
  rcases loopI (F := fun n i => ref09_Same.l2 bs bs n i) (Q := fun r => False) (S := fun k => True) (len := bs.length) (by omega) (fun n k hk => by
      rw [ref09_Same.l2, if_pos (dlt hk), glk hk, wk1 (by omega)]
      simp only [Option.bind_some, seq_eq]
      rw [SamePod_self (h _ (List.getElem_mem hk))]
      right
      simp) (fun n => by rw [ref09_Same.l2, if_neg dnl]) with ⟨r, _, h2⟩ | ⟨h1, _⟩
  · exact h2.elim
  · rw [h1]; rfl
end Go.Proofs.YtbkdglcedgiogaaGreat.M

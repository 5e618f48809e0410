/-
  Plain laws: whether labels and terms can be is told alike by the program and the document. Own text.
-/
import Derived.Test.YtcblmlkpcplkfaaPNum
namespace Go.Proofs.Ytcblmlkpcplkfaa.M
open Go Go.Proofs Go.Proofs.Ytcblmlkpcplkfaa.V
set_option linter.unusedVariables false

/-- A loop by an index over a list, that goes on while something is so. -/
theorem loopL {α ρ : Type} {F : Nat → Int → Option (Out ρ Unit)} {l : List α} {r0 : ρ} (q : α → Bool) (hl : l.length < 1000000000000) (hs : ∀ n (k : Nat) (hk : k < l.length), F (n + 1) (k : Int) = if q l[k] = true then F n ((k + 1 : Nat) : Int) else some (Out.ret r0))
    (he : ∀ n, F (n + 1) (l.length : Int) = some (Out.go ())) : F FU 0 = some (if l.all q = true then Out.go () else Out.ret r0) := by
  rcases loopI (Q := fun r => r = r0 ∧ l.all q = false) (S := fun k => ∀ hk : k < l.length, q l[k] = true) hl (fun n k hk => by
      rw [hs n k hk]
      cases h : q l[k] with
      | true => exact .inr ⟨rfl, fun _ => h⟩
      | false => exact .inl ⟨_, rfl, rfl, List.all_eq_false.2 ⟨l[k], List.getElem_mem _, by simp [h]⟩⟩) he with ⟨r, h1, rfl, h3⟩ | ⟨h1, h2⟩
  · rw [h1, if_neg (by rw [h3]; simp)]
  · rw [h1, if_pos]
    rw [List.all_eq_true]
    intro x hx
    obtain ⟨i, hi, rfl⟩ := List.getElem_of_mem hx
    exact h2 i hi hi

theorem Term_same {t : T_api_Term} (h : LT t) : labels_RightTerm t = ref05_RightTerm t := by
  obtain ⟨h1, h2, h3⟩ := h
  unfold labels_RightTerm ref05_RightTerm
  rw [Word_same (by omega)]
  obtain ⟨w, hw⟩ := Word_tot (s := t.Key) (by omega)
  rw [hw]
  simp only [Option.bind_some]
  cases w with
  | false => rfl
  | true =>
    simp only [Bool.not_true, Bool.false_eq_true, if_false]
    -- the loop over values
    obtain ⟨mb, hmb⟩ : ∃ mb : ByteArray → Bool, ∀ s : ByteArray, s.size ≤ 300 → ref05_maybe s = some (mb s) := ⟨fun s => (ref05_maybe s).getD false, fun s hs => by
      obtain ⟨b, hb⟩ := maybe5_tot hs
      simp [hb]⟩
    have hP : labels_RightTerm.l1 t.Vals 0 = some (if t.Vals.all mb = true then Out.go () else Out.ret (Out.ret false)) := by
      have key : ∀ (l : List ByteArray) (k : Nat), (∀ s, s ∈ l → s.size ≤ 300) → labels_RightTerm.l1 l k = some (if l.all mb = true then Out.go () else Out.ret (Out.ret false)) := by
        intro l
        induction l with
        | nil => intro k _; rfl
        | cons x l ih =>
          intro k hx
          rw [labels_RightTerm.l1, lmaybe_same (hx x (by simp)), hmb x (hx x (by simp)), ih (k + 1) (fun s hs => hx s (by simp [hs]))]
          simp only [Option.bind_some, List.all_cons]
          by_cases hb : mb x = true <;> simp [hb]
      exact key t.Vals 0 (fun s hs => by
        obtain ⟨i, hi, rfl⟩ := List.getElem_of_mem hs
        exact h3 i hi)
    have hR : ref05_RightTerm.l1 t FU 0 = some (if t.Vals.all mb = true then Out.go () else Out.ret false) := by
      refine loopL (F := fun n i => ref05_RightTerm.l1 t n i) mb (by omega) (fun n k hk => ?_) (fun n => by rw [ref05_RightTerm.l1, if_neg dnl])
      rw [ref05_RightTerm.l1, if_pos (dlt hk), glk hk, wk1 (by omega)]
      simp only [Option.bind_some]
      rw [hmb _ (h3 k hk)]
      cases mb t.Vals[k] <;> rfl
    have hnum : t.Vals.length = 1 → ∃ x, V.gl t.Vals 0 = some x ∧ x.size ≤ 300 := fun e => ⟨t.Vals[0]'(by omega), by
      rw [show (0 : Int) = ((0 : Nat) : Int) from rfl, glk (by omega)], h3 0 (by omega)⟩
    have hN : (if ((t.Vals.length : Int) == (1 : Int)) = true then (V.gl t.Vals (0 : Int)).bind fun x => (labels_number x).bind fun r2 => some r2.2 else some false) =
        (if ((t.Vals.length : Int) != (1 : Int)) = true then some false else (V.gl t.Vals (0 : Int)).bind fun x2 => (ref03_Number x2).bind fun r3 => some (r3.2 == (0 : Int))) := by
      by_cases e : t.Vals.length = 1
      · obtain ⟨x, g1, g2⟩ := hnum e
        rw [if_pos (by simp [e]), if_neg (by simp [e]), g1]
        simp only [Option.bind_some]
        unfold labels_number
        rw [Number_same g2]
        cases ref03_Number x <;> rfl
      · have e' : ¬ (t.Vals.length : Int) = 1 := by omega
        rw [if_neg (by simpa using e'), if_pos (by simpa using e')]
    by_cases o1 : t.Op = 1
    · rw [o1, hP, hR]
      cases t.Vals.all mb <;> rfl
    by_cases o2 : t.Op = 2
    · rw [o2, hP, hR]
      cases t.Vals.all mb <;> rfl
    by_cases o3 : t.Op = 3
    · rw [o3]; rfl
    by_cases o4 : t.Op = 4
    · rw [o4]; rfl
    by_cases o5 : t.Op = 5
    · rw [o5, hN]
      simp only [show ((5 : Int) == 1) = false from rfl, show ((5 : Int) == 2) = false from rfl, show ((5 : Int) == 3) = false from rfl, show ((5 : Int) == 4) = false from rfl, show ((5 : Int) == 5) = true from rfl, Bool.false_eq_true, if_false, if_true, Option.bind_some]
      cases (if ((t.Vals.length : Int) != (1 : Int)) = true then some false else (V.gl t.Vals (0 : Int)).bind fun x2 => (ref03_Number x2).bind fun r3 => some (r3.2 == (0 : Int))) <;> rfl
    by_cases o6 : t.Op = 6
    · rw [o6, hN]
      simp only [show ((6 : Int) == 1) = false from rfl, show ((6 : Int) == 2) = false from rfl, show ((6 : Int) == 3) = false from rfl, show ((6 : Int) == 4) = false from rfl, show ((6 : Int) == 5) = false from rfl, show ((6 : Int) == 6) = true from rfl, Bool.false_eq_true, if_false, if_true, Option.bind_some]
      cases (if ((t.Vals.length : Int) != (1 : Int)) = true then some false else (V.gl t.Vals (0 : Int)).bind fun x2 => (ref03_Number x2).bind fun r3 => some (r3.2 == (0 : Int))) <;> rfl
    have e1 : (t.Op == 1) = false := by simpa using o1
    have e2 : (t.Op == 2) = false := by simpa using o2
    have e3 : (t.Op == 3) = false := by simpa using o3
    have e4 : (t.Op == 4) = false := by simpa using o4
    have e5 : (t.Op == 5) = false := by simpa using o5
    have e6 : (t.Op == 6) = false := by simpa using o6
    simp only [e1, e2, e3, e4, e5, e6, Bool.false_eq_true, if_false, Option.bind_some]
    rfl

/-! texts, by their order -/
theorem bl_irr : ∀ a : List UInt8, Op.bytesLess a a = false
  | [] => rfl
  | a :: x => by rw [Op.bytesLess, bl_irr x]; simp
theorem bl_trans : ∀ {a b c : List UInt8}, Op.bytesLess a b = true → Op.bytesLess b c = true → Op.bytesLess a c = true
  | _, [], _, h, _ => by simp [Op.bytesLess] at h
  | _, _ :: _, [], _, h => by simp [Op.bytesLess] at h
  | [], _ :: _, _ :: _, _, _ => rfl
  | a :: x, b :: y, c :: z, h, k => by
    rw [Op.bytesLess] at h k ⊢
    simp only [Bool.or_eq_true, Bool.and_eq_true, decide_eq_true_eq, beq_iff_eq] at h k ⊢
    rcases h with h | ⟨rfl, h⟩
    · rcases k with k | ⟨rfl, k⟩
      · exact .inl (UInt8.lt_trans h k)
      · exact .inl h
    · rcases k with k | ⟨rfl, k⟩
      · exact .inl k
      · exact .inr ⟨rfl, bl_trans h k⟩
theorem bl_tri : ∀ {a b : List UInt8}, Op.bytesLess a b = false → Op.bytesLess b a = false → a = b
  | [], [], _, _ => rfl
  | [], _ :: _, h, _ => by simp [Op.bytesLess] at h
  | _ :: _, [], _, h => by simp [Op.bytesLess] at h
  | a :: x, b :: y, h, k => by
    rw [Op.bytesLess] at h k
    simp only [Bool.or_eq_false_iff, Bool.and_eq_false_iff, decide_eq_false_iff_not, beq_eq_false_iff_ne, ne_eq] at h k
    have hab : a = b := by
      have h1 := h.1
      have h2 := k.1
      rw [UInt8.not_lt] at h1 h2
      exact UInt8.le_antisymm h2 h1
    subst hab
    have h1 : Op.bytesLess x y = false := by rcases h.2 with h | h; exact absurd rfl h; exact h
    have h2 : Op.bytesLess y x = false := by rcases k.2 with h | h; exact absurd rfl h; exact h
    rw [bl_tri h1 h2]

theorem slt_irr (a : ByteArray) : V.slt a a = false := bl_irr _
theorem slt_trans {a b c : ByteArray} (h : V.slt a b = true) (k : V.slt b c = true) : V.slt a c = true := bl_trans h k
theorem slt_tri {a b : ByteArray} (h : V.slt a b = false) (k : V.slt b a = false) : a = b := toList_inj (bl_tri h k)

theorem toList_data (a : ByteArray) : a.toList = a.data.toList := by simp [ByteArray.toList_eq]

theorem Less_eq {a b : ByteArray} (ha : a.size ≤ 300) (hb : b.size ≤ 300) : ref05_Less a b = some (V.slt a b) := by
  have key : ∀ (m k f : Nat), min a.size b.size - k ≤ m → m < f → k ≤ min a.size b.size → (ref05_Less.l1 a b f (k : Int)).bind (fun o => o.on fun _ => some (decide ((a.size : Int) < (b.size : Int)))) = some (Op.bytesLess (a.data.toList.drop k) (b.data.toList.drop k)) := by
    have hla : a.data.toList.length = a.size := by simp
    have hlb : b.data.toList.length = b.size := by simp
    have hend : ∀ k f, k = min a.size b.size → (ref05_Less.l1 a b (f + 1) (k : Int)).bind (fun o => o.on fun _ => some (decide ((a.size : Int) < (b.size : Int)))) = some (Op.bytesLess (a.data.toList.drop k) (b.data.toList.drop k)) := by
      intro k f hk
      rw [ref05_Less.l1, if_neg (by simp; omega)]
      simp only [Option.bind_some, Out.on, Option.some.injEq]
      by_cases h : a.size < b.size
      · rw [List.drop_eq_nil_of_le (show a.data.toList.length ≤ k by omega)]
        have : (b.data.toList.drop k) ≠ [] := by
          intro e
          have := congrArg List.length e
          rw [List.length_drop] at this
          simp at this
          omega
        obtain ⟨y, ys, hy⟩ := List.exists_cons_of_ne_nil this
        rw [hy]
        simp [Op.bytesLess, h]
      · rw [List.drop_eq_nil_of_le (show b.data.toList.length ≤ k by omega)]
        simp [Op.bytesLess, h]
    intro m
    induction m with
    | zero =>
      intro k f h1 h2 h3
      obtain ⟨f, rfl⟩ : ∃ q, f = q + 1 := ⟨f - 1, by omega⟩
      exact hend k f (by omega)
    | succ m ih =>
      intro k f h1 h2 h3
      obtain ⟨f, rfl⟩ : ∃ q, f = q + 1 := ⟨f - 1, by omega⟩
      by_cases hk : k < min a.size b.size
      · have hka : k < a.data.toList.length := by omega
        have hkb : k < b.data.toList.length := by omega
        have ea : bt a k = ((a.data.toList[k]).toNat : Int) := by
          unfold bt; rw [List.getD_eq_getElem?_getD, List.getElem?_eq_getElem hka]; rfl
        have eb : bt b k = ((b.data.toList[k]).toNat : Int) := by
          unfold bt; rw [List.getD_eq_getElem?_getD, List.getElem?_eq_getElem hkb]; rfl
        rw [ref05_Less.l1, if_pos (by simp; omega), gi_nat (by omega), gi_nat (by omega), wk1 (by omega), List.drop_eq_getElem_cons hka, List.drop_eq_getElem_cons hkb, Op.bytesLess]
        simp only [Option.bind_some]
        by_cases h : bt a k = bt b k
        · rw [if_neg (by simpa using h), ih (k + 1) f (by omega) (by omega) (by omega)]
          have e : a.data.toList[k] = b.data.toList[k] := by
            rw [ea, eb] at h
            exact UInt8.toNat_inj.1 (by omega)
          rw [e]
          simp
        · rw [if_pos (by simpa using h)]
          have e : ¬ a.data.toList[k] = b.data.toList[k] := fun q => h (by rw [ea, eb, q])
          simp only [Option.bind_some, Out.on, Option.some.injEq]
          have e2 : (a.data.toList[k] == b.data.toList[k]) = false := by simpa using e
          rw [e2, Bool.false_and, Bool.or_false, ea, eb]
          rw [decide_eq_decide, UInt8.lt_iff_toNat_lt]
          omega
      · exact hend k f (by omega)
  have := key (min a.size b.size) 0 FU (by omega) (by unfold FU; omega) (by omega)
  unfold ref05_Less V.slt
  rw [toList_data, toList_data]
  exact this

/-! maps -/
theorem mg_mp {κ υ : Type} [DecidableEq κ] : ∀ (l : List (κ × υ)) (k k' : κ) (v : υ), V.mg (V.mp l k v) k' = if k' = k then some v else V.mg l k'
  | [], k, k', v => by
    rw [V.mp, V.mg]
    by_cases h : k' = k <;> simp [V.mg, h]
  | (a, b) :: r, k, k', v => by
    rw [V.mp]
    by_cases h : k = a
    · subst h
      rw [if_pos rfl, V.mg, V.mg]
      by_cases h2 : k' = k <;> simp [h2]
    · rw [if_neg h, V.mg, V.mg, mg_mp r k k' v]
      by_cases h2 : k' = a
      · subst h2
        have h3 : ¬ k' = k := fun e => h e.symm
        rw [if_pos rfl, if_pos rfl, if_neg h3]
      · rw [if_neg h2, if_neg h2]

theorem LabelsRight_same {l : List T_api_Label} (h : LL l) : labels_Right l = ref05_Right l := by
  obtain ⟨hl, hs⟩ := h
  -- the rounds are alike
  have key : ∀ (l2 : List T_api_Label) (k : Nat) (had : List (ByteArray × Int)) (f : Nat), l.drop k = l2 → l2.length < f → (∀ key, V.mg had key = if (∃ j, ∃ hj : j < l.length, j < k ∧ l[j].Key = key) then some 1 else none) →
      (∀ j (hj : j < l.length) (hk : 0 < k) (hkl : k - 1 < l.length), j < k → l[j].Key = l[k - 1].Key ∨ V.slt l[j].Key l[k - 1].Key = true) →
      labels_Right.l1 l l2 k had = ref05_Right.l1 l f (k : Int) := by
    intro l2
    induction l2 with
    | nil =>
      intro k had f hd hf hm ho
      obtain ⟨f, rfl⟩ : ∃ q, f = q + 1 := ⟨f - 1, by simp at hf; omega⟩
      have : l.length ≤ k := List.drop_eq_nil_iff.1 hd
      rw [labels_Right.l1, ref05_Right.l1, if_neg (by simp; omega)]
    | cons x l2 ih =>
      intro k had f hd hf hm ho
      obtain ⟨f, rfl⟩ : ∃ q, f = q + 1 := ⟨f - 1, by simp at hf; omega⟩
      have hk : k < l.length := by
        have := congrArg List.length hd
        rw [List.length_drop, List.length_cons] at this
        omega
      have hx : l[k] = x := by
        rw [List.drop_eq_getElem_cons hk] at hd
        exact (List.cons.inj hd).1
      have hd2 : l.drop (k + 1) = l2 := by
        rw [List.drop_eq_getElem_cons hk] at hd
        exact (List.cons.inj hd).2
      have hsx := hs k hk
      rw [hx] at hsx
      obtain ⟨w, hw⟩ := Word_tot (s := x.Key) (by omega)
      obtain ⟨mb, hmb⟩ := maybe5_tot hsx.2
      rw [labels_Right.l1, ref05_Right.l1, if_pos (dlt hk), glk hk, wk1 (by omega), hx, Word_same hsx.1, lmaybe_same hsx.2, hw, hmb]
      simp only [Option.bind_some, mg_mp, if_true, Option.getD_some]
      -- what stands ahead
      by_cases hdup : ∃ j, ∃ hj : j < l.length, j < k ∧ l[j].Key = x.Key
      · -- twice
        have hm1 : V.mg had x.Key = some 1 := by rw [hm, if_pos hdup]
        rw [hm1]
        simp only [Option.getD_some]
        obtain ⟨j, hj, hjk, hje⟩ := hdup
        have hk0 : 0 < k := by omega
        rw [if_pos (show (decide (IntKind.i64.wrap ((1 : Int) + 1) > 1)) = true by decide)]
        simp only [Option.bind_some, if_true]
        -- the document: not less
        have hnl : V.slt l[k - 1].Key x.Key = false := by
          rcases ho j hj hk0 (by omega) hjk with e | e
          · rw [← e, hje]; exact slt_irr _
          · cases hc : V.slt l[k - 1].Key x.Key with
            | false => rfl
            | true =>
              rw [hje] at e
              have := slt_trans e hc
              rw [slt_irr] at this; cases this
        rw [if_pos (show (decide ((k : Int) > 0)) = true by simp; omega), glp hk hk0 (by omega)]
        simp only [Option.bind_some]
        rw [Less_eq (hs (k - 1) (by omega)).1 hsx.1, hnl, hw]
        simp only [Option.bind_some, hmb]
        cases w <;> cases mb <;> rfl
      · have hm1 : V.mg had x.Key = none := by rw [hm, if_neg hdup]
        rw [hm1]
        simp only [Option.getD_none]
        rw [if_neg (show ¬ (decide (IntKind.i64.wrap ((0 : Int) + 1) > 1)) = true by decide)]
        have hnext : ∀ (hlt : k = 0 ∨ ∃ h0 : 0 < k, V.slt (l[k - 1]'(by omega)).Key x.Key = true), labels_Right.l1 l l2 (k + 1) (V.mp had x.Key (IntKind.i64.wrap ((0 : Int) + 1))) = ref05_Right.l1 l f ((k + 1 : Nat) : Int) := by
          intro hlt
          refine ih (k + 1) _ f hd2 (by simp only [List.length_cons] at hf; omega) (fun key => ?_) (fun j hj h0 hkl hjk => ?_)
          · rw [mg_mp]
            by_cases hkey : key = x.Key
            · subst hkey
              rw [if_pos rfl, if_pos ⟨k, hk, by omega, by rw [hx]⟩]
              rfl
            · rw [if_neg hkey, hm]
              have : (∃ j, ∃ hj : j < l.length, j < k + 1 ∧ l[j].Key = key) ↔ (∃ j, ∃ hj : j < l.length, j < k ∧ l[j].Key = key) := by
                constructor
                · rintro ⟨j, hj, hjk, e⟩
                  by_cases ejk : j = k
                  · subst ejk; rw [hx] at e; exact absurd e.symm hkey
                  · exact ⟨j, hj, by omega, e⟩
                · rintro ⟨j, hj, hjk, e⟩; exact ⟨j, hj, by omega, e⟩
              by_cases hc : ∃ j, ∃ hj : j < l.length, j < k ∧ l[j].Key = key
              · rw [if_pos hc, if_pos (this.2 hc)]
              · rw [if_neg hc, if_neg (fun q => hc (this.1 q))]
          · simp only [Nat.add_sub_cancel, hx]
            by_cases ejk : j = k
            · subst ejk; rw [hx]; exact .inl rfl
            · right
              rcases hlt with h | ⟨h0, h⟩
              · omega
              · rcases ho j hj h0 (by omega) (by omega) with e | e
                · rw [e]; exact h
                · exact slt_trans e h
        rw [hw]
        simp only [Option.bind_some, hmb]
        by_cases hk0 : 0 < k
        · simp only [show (decide ((k : Int) > 0)) = true by simp; omega, if_true, glp hk hk0 (by omega), Option.bind_some]
          rw [Less_eq (hs (k - 1) (by omega)).1 hsx.1, seq_eq]
          have hne : ¬ l[k - 1].Key = x.Key := fun e => hdup ⟨k - 1, by omega, by omega, e⟩
          have hdec : decide (l[k - 1].Key = x.Key) = false := by simpa using hne
          rw [hdec, Bool.or_false]
          cases hlt : V.slt l[k - 1].Key x.Key with
          | false => cases w <;> cases mb <;> rfl
          | true =>
            have hn := hnext (.inr ⟨hk0, hlt⟩)
            cases w with
            | false => rfl
            | true =>
              cases mb with
              | false => rfl
              | true => exact hn
        · simp only [show (decide ((k : Int) > 0)) = false by simp; omega, Bool.false_eq_true, if_false, Option.bind_some]
          have hn := hnext (.inl (by omega))
          cases w with
          | false => rfl
          | true =>
            cases mb with
            | false => rfl
            | true => exact hn
  have hk := key l 0 [] FU rfl (by unfold FU; omega) (fun key => by
    rw [if_neg]
    · rfl
    · rintro ⟨j, _, hj, _⟩; omega) (fun j hj h0 => by omega)
  have hk' : labels_Right.l1 l l 0 [] = ref05_Right.l1 l FU 0 := hk
  unfold labels_Right ref05_Right
  rw [hk']
  by_cases h16 : (l.length : Int) > 16
  · rw [if_pos (by simpa using h16)]
    obtain ⟨o, ho⟩ : isS (ref05_Right.l1 l FU 0) := by
      refine T.loop (F := fun n i => ref05_Right.l1 l n i) (len := l.length) (by omega) (fun n k hk ih => ?_) (fun n => ?_)
      · have hsk := hs k hk
        rw [ref05_Right.l1, if_pos (dlt hk), glk hk, wk1 (by omega)]
        simp only [Option.bind_some]
        refine T.bind (Word_tot (by omega)) fun r _ => T.bind (T.ite (fun _ => T.pure _) fun _ => T.bind (maybe5_tot hsk.2) fun _ _ => T.pure _) fun c _ => ?_
        refine T.bind (T.ite (fun _ => T.pure _) fun _ => T.bind (T.ite (fun h0 => ?_) fun _ => T.pure _) fun _ _ => T.pure _) fun _ _ => T.ite (fun _ => T.pure _) fun _ => ih
        have h0' : 0 < k := by simpa using h0
        rw [glp hk h0' (by omega)]
        simp only [Option.bind_some]
        exact T.bind (Less_tot (hs (k - 1) (by omega)).1 hsk.1) fun _ _ => T.pure _
      · rw [ref05_Right.l1, if_neg dnl]; exact T.pure _
    rw [ho]
    have hret : ∀ r, ref05_Right.l1 l FU 0 = some (Out.ret r) → r = false := by
      intro r hr
      have key2 : ∀ (m k f : Nat), l.length - k ≤ m → m < f → ∀ r, ref05_Right.l1 l f (k : Int) = some (Out.ret r) → r = false := by
        intro m
        induction m with
        | zero =>
          intro k f h1 h2 r hr
          obtain ⟨f, rfl⟩ : ∃ q, f = q + 1 := ⟨f - 1, by omega⟩
          rw [ref05_Right.l1, if_neg (by simp; omega)] at hr
          cases hr
        | succ m ih =>
          intro k f h1 h2 r hr
          obtain ⟨f, rfl⟩ : ∃ q, f = q + 1 := ⟨f - 1, by omega⟩
          by_cases hk : k < l.length
          · rw [ref05_Right.l1, if_pos (dlt hk), wk1 (by omega)] at hr
            obtain ⟨_, _, hr⟩ := Option.bind_eq_some_iff.1 hr
            obtain ⟨_, _, hr⟩ := Option.bind_eq_some_iff.1 hr
            obtain ⟨_, _, hr⟩ := Option.bind_eq_some_iff.1 hr
            obtain ⟨_, _, hr⟩ := Option.bind_eq_some_iff.1 hr
            split at hr
            · cases hr; rfl
            · exact ih (k + 1) f (by omega) (by omega) r hr
          · rw [ref05_Right.l1, if_neg (by simp; omega)] at hr
            cases hr
      exact key2 l.length 0 FU (by omega) (by unfold FU; omega) r hr
    cases o with
    | ret r =>
      rw [hret r ho]; rfl
    | go j =>
      show some (decide ((l.length : Int) ≤ 16)) = some false
      congr 1
      simp; omega
  · rw [if_neg (by simpa using h16)]
    cases ref05_Right.l1 l FU 0 with
    | none => rfl
    | some o =>
      cases o with
      | ret r => rfl
      | go j =>
        show some (decide ((l.length : Int) ≤ 16)) = some true
        congr 1
        simp; omega
end Go.Proofs.Ytcblmlkpcplkfaa.M

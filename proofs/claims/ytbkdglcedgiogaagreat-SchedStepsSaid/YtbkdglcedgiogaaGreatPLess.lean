/-
  Plain laws: texts by their order; maps. Own text.
-/
import Derived.Test.YtbkdglcedgiogaaGreatPRes
namespace Go.Proofs.YtbkdglcedgiogaaGreat.M
open Go Go.Proofs Go.Proofs.YtbkdglcedgiogaaGreat.V
set_option linter.unusedVariables false

/-! texts, by their order -/
theorem bl_irr : ∀ a : List UInt8, Op.bytesLess a a = false
  | [] => rfl
  | a :: x => by rw [Op.bytesLess, bl_irr x]; simp
theorem bl_trans : ∀ {a b c : List UInt8}, Op.bytesLess a b = true → Op.bytesLess b c = true → Op.bytesLess a c = true
  | _, [], _, h, _ => by simp [Op.bytesLess] at h
  | _, _ :: _, [], _, h => by simp [Op.bytesLess] at h
  | [], _ :: _, _ :: _, _, _ => rfl
  | a :: x, b :: y, c :: z, h, k => by
    rw [Op.bytesLess] at h k ⊢
    simp only [Bool.or_eq_true, Bool.and_eq_true, decide_eq_true_eq, beq_iff_eq] at h k ⊢
    rcases h with h | ⟨rfl, h⟩
    · rcases k with k | ⟨rfl, k⟩
      · exact .inl (UInt8.lt_trans h k)
      · exact .inl h
    · rcases k with k | ⟨rfl, k⟩
      · exact .inl k
      · exact .inr ⟨rfl, bl_trans h k⟩
theorem bl_tri : ∀ {a b : List UInt8}, Op.bytesLess a b = false → Op.bytesLess b a = false → a = b
  | [], [], _, _ => rfl
  | [], _ :: _, h, _ => by simp [Op.bytesLess] at h
  | _ :: _, [], _, h => by simp [Op.bytesLess] at h
  | a :: x, b :: y, h, k => by
    rw [Op.bytesLess] at h k
    simp only [Bool.or_eq_false_iff, Bool.and_eq_false_iff, decide_eq_false_iff_not, beq_eq_false_iff_ne, ne_eq] at h k
    have hab : a = b := by
      have h1 := h.1
      have h2 := k.1
      rw [UInt8.not_lt] at h1 h2
      exact UInt8.le_antisymm h2 h1
    subst hab
    have h1 : Op.bytesLess x y = false := by rcases h.2 with h | h; exact absurd rfl h; exact h
    have h2 : Op.bytesLess y x = false := by rcases k.2 with h | h; exact absurd rfl h; exact h
    rw [bl_tri h1 h2]

theorem slt_irr (a : ByteArray) : V.slt a a = false := bl_irr _
theorem slt_trans {a b c : ByteArray} (h : V.slt a b = true) (k : V.slt b c = true) : V.slt a c = true := bl_trans h k
theorem slt_tri {a b : ByteArray} (h : V.slt a b = false) (k : V.slt b a = false) : a = b := toList_inj (bl_tri h k)

theorem toList_data (a : ByteArray) : a.toList = a.data.toList := by simp [ByteArray.toList_eq]

theorem Less_eq {a b : ByteArray} (ha : a.size ≤ 300) (hb : b.size ≤ 300) : ref05_Less a b = some (V.slt a b) := by
  have key : ∀ (m k f : Nat), min a.size b.size - k ≤ m → m < f → k ≤ min a.size b.size → (ref05_Less.l1 a b f (k : Int)).bind (fun o => o.on fun _ => some (decide ((a.size : Int) < (b.size : Int)))) = some (Op.bytesLess (a.data.toList.drop k) (b.data.toList.drop k)) := by
    have hla : a.data.toList.length = a.size := by simp
    have hlb : b.data.toList.length = b.size := by simp
    have hend : ∀ k f, k = min a.size b.size → (ref05_Less.l1 a b (f + 1) (k : Int)).bind (fun o => o.on fun _ => some (decide ((a.size : Int) < (b.size : Int)))) = some (Op.bytesLess (a.data.toList.drop k) (b.data.toList.drop k)) := by
      intro k f hk
      rw [ref05_Less.l1, if_neg (by simp; omega)]
      simp only [Option.bind_some, Out.on, Option.some.injEq]
      by_cases h : a.size < b.size
      · rw [List.drop_eq_nil_of_le (show a.data.toList.length ≤ k by omega)]
        have : (b.data.toList.drop k) ≠ [] := by
          intro e
          have := congrArg List.length e
          rw [List.length_drop] at this
          simp at this
          omega
        obtain ⟨y, ys, hy⟩ := List.exists_cons_of_ne_nil this
        rw [hy]
        simp [Op.bytesLess, h]
      · rw [List.drop_eq_nil_of_le (show b.data.toList.length ≤ k by omega)]
        simp [Op.bytesLess, h]
    intro m
    induction m with
    | zero =>
      intro k f h1 h2 h3
      obtain ⟨f, rfl⟩ : ∃ q, f = q + 1 := ⟨f - 1, by omega⟩
      exact hend k f (by omega)
    | succ m ih =>
      intro k f h1 h2 h3
      obtain ⟨f, rfl⟩ : ∃ q, f = q + 1 := ⟨f - 1, by omega⟩
      by_cases hk : k < min a.size b.size
      · have hka : k < a.data.toList.length := by omega
        have hkb : k < b.data.toList.length := by omega
        have ea : bt a k = ((a.data.toList[k]).toNat : Int) := by
          unfold bt; rw [List.getD_eq_getElem?_getD, List.getElem?_eq_getElem hka]; rfl
        have eb : bt b k = ((b.data.toList[k]).toNat : Int) := by
          unfold bt; rw [List.getD_eq_getElem?_getD, List.getElem?_eq_getElem hkb]; rfl
        rw [ref05_Less.l1, if_pos (by simp; omega), gi_nat (by omega), gi_nat (by omega), wk1 (by omega), List.drop_eq_getElem_cons hka, List.drop_eq_getElem_cons hkb, Op.bytesLess]
        simp only [Option.bind_some]
        by_cases h : bt a k = bt b k
        · rw [if_neg (by simpa using h), ih (k + 1) f (by omega) (by omega) (by omega)]
          have e : a.data.toList[k] = b.data.toList[k] := by
            rw [ea, eb] at h
            exact UInt8.toNat_inj.1 (by omega)
          rw [e]
          simp
        · rw [if_pos (by simpa using h)]
          have e : ¬ a.data.toList[k] = b.data.toList[k] := fun q => h (by rw [ea, eb, q])
          simp only [Option.bind_some, Out.on, Option.some.injEq]
          have e2 : (a.data.toList[k] == b.data.toList[k]) = false := by simpa using e
          rw [e2, Bool.false_and, Bool.or_false, ea, eb]
          rw [decide_eq_decide, UInt8.lt_iff_toNat_lt]
          omega
      · exact hend k f (by omega)
  have := key (min a.size b.size) 0 FU (by omega) (by unfold FU; omega) (by omega)
  unfold ref05_Less V.slt
  rw [toList_data, toList_data]
  exact this

/-! maps -/
theorem mg_mp {κ υ : Type} [DecidableEq κ] : ∀ (l : List (κ × υ)) (k k' : κ) (v : υ), V.mg (V.mp l k v) k' = if k' = k then some v else V.mg l k'
  | [], k, k', v => by
    rw [V.mp, V.mg]
    by_cases h : k' = k <;> simp [V.mg, h]
  | (a, b) :: r, k, k', v => by
    rw [V.mp]
    by_cases h : k = a
    · subst h
      rw [if_pos rfl, V.mg, V.mg]
      by_cases h2 : k' = k <;> simp [h2]
    · rw [if_neg h, V.mg, V.mg, mg_mp r k k' v]
      by_cases h2 : k' = a
      · subst h2
        have h3 : ¬ k' = k := fun e => h e.symm
        rw [if_pos rfl, if_pos rfl, if_neg h3]
      · rw [if_neg h2, if_neg h2]

end Go.Proofs.YtbkdglcedgiogaaGreat.M

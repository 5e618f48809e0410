/-
  How heavy an argument's rows are. Own text.
-/
import Derived.Test.YtbkdglcedgiogaaGreatVOpen
import Derived.SizedLaws
namespace Go.Proofs.YtbkdglcedgiogaaGreat.V
open Go Go.Proofs
set_option linter.unusedVariables false

section
variable {P : Program} {W : World}

theorem Rd.len {D : Nat → TypeId → Prop} {w : World} {a : Option Addr} {n c : Nat} {e : TypeId} {l : List VV} (h : Rd P D w (.slice a n c) (.list e l)) : l.length = n := by
  cases h <;> rfl

theorem weights_in {H : Type} (P : Program) : ∀ (ts : List TypeId) (ds : List (DataW H)) (i : Nat) (t : TypeId) (d : DataW H), ts[i]? = some t → ds[i]? = some d → ∀ n, n ∈ d.weights P t → n ∈ DataW.weightsEach P ts ds
  | [], _, i, _, _, h, _, _, _ => by simp at h
  | _ :: _, [], i, _, _, _, h, _, _ => by simp at h
  | t0 :: ts, d0 :: ds, 0, t, d, h, k, n, hn => by
    simp only [List.getElem?_cons_zero, Option.some.injEq] at h k
    subst h; subst k
    simp only [DataW.weightsEach, List.mem_append]
    exact .inl hn
  | t0 :: ts, d0 :: ds, i + 1, t, d, h, k, n, hn => by
    simp only [DataW.weightsEach, List.mem_append]
    exact .inr (weights_in P ts ds i t d (by simpa using h) (by simpa using k) n hn)

/-- A row's weight. -/
theorem wt_row {H : Type} {enc : TypeId × Value → H} {fuel : Nat} {t e : TypeId} {v : Value} {x : DataW H × List MemPlace} {l : List VV} {n : Nat} (ht : P.underlying t = some (.slice e))
    (h : DataW.trod enc P W 0 (fun _ => true) true fuel t [v] = some x) (y : Rd P (DW W) W v (.list e l)) (hw : (x.1.weights P t).all (· ≤ reachBytes) = true) (hb : P.bytesOf e = n) : l.length * n ≤ 140737488351232 := by
  subst hb
  rcases DataW.trod_slice ht h with ⟨h1, _⟩ | ⟨a, len, cap, elems, rest, m, rfl, h1, rfl, _, h2, h3, h4, _⟩
  · injection h1 with h1 _
    subst h1
    rw [Rd.len y]; omega
  · injection h1 with h1 _
    subst h1
    rw [Rd.len y]
    simp only [DataW.weights, ht, List.all_cons, Bool.and_eq_true, decide_eq_true_eq, List.length_map] at hw
    have h5 := hw.1
    unfold reachBytes at h5
    rw [h4] at h5
    have : len * P.bytesOf e ≤ (len + rest.length) * P.bytesOf e := Nat.mul_le_mul_right _ (by omega)
    omega

/-- A row's weight, of an argument's field. -/
theorem wt_field {H : Type} {enc : TypeId × Value → H} {t e : TypeId} {v : Value} {d : DataW H} {ps : List MemPlace} {ys : List VV} {l : List VV} (i off : Nat) (ft : TypeId) {n : Nat} {r : Reach} {b0 : Nat}
    (hf : fldB P t i off 1 ft = true) (ht : P.underlying ft = some (.slice e)) (hv : Value.okWide P W r b0 t v)
    (h : DataW.Trod enc P W 0 (fun _ => true) true t v d ps) (y : Rd P (DW W) W v (.agg ys)) (hy : ys[off]? = some (.list e l)) (hw : (d.weights P t).all (· ≤ reachBytes) = true) (hb : P.bytesOf e = n) : l.length * n ≤ 140737488351232 := by
  unfold fldB at hf
  split at hf
  · rename_i fs hu
    split at hf
    · rename_i f hfi
      simp only [Bool.and_eq_true, beq_iff_eq] at hf
      obtain ⟨⟨hf1, hf2⟩, hf3⟩ := hf
      unfold Value.okWide at hv
      rw [hu] at hv
      obtain ⟨cs, rfl, _, _⟩ := hv
      obtain ⟨fuel, h⟩ := h
      obtain ⟨xs, m, rfl, hx, hl, hxl, hfs⟩ := DataW.trod_struct hu h
      have hx1 : d = .agg (xs.map (·.1)) := congrArg Prod.fst hx
      subst hx1
      have hi := hfs i f hfi
      rw [hf1, hf2, hf3] at hi
      cases y with
      | agg _ _ hs hr =>
        have hoff : off < cs.size := by rw [hs]; exact (List.getElem?_eq_some_iff.1 hy).1
        have hc : (cs.toList.drop off).take 1 = [cs[off]] := by
          have : off < cs.toList.length := by simpa using hoff
          rw [List.drop_eq_getElem_cons this]; simp
        have hrd := hr off cs[off] _ (by simp [hoff]) hy
        simp only [Value.cells] at hi
        rw [hc] at hi
        have hil : i < xs.length := by rw [hxl]; exact (Array.getElem?_eq_some_iff.1 hfi).1
        rw [List.getElem?_eq_getElem hil] at hi
        refine wt_row ht hi hrd ?_ hb
        simp only [DataW.weights, hu, List.all_eq_true] at hw ⊢
        intro z hz
        refine hw z (weights_in P _ _ i ft xs[i].1 ?_ ?_ z hz)
        · have : fs.toList[i]? = some f := by simpa using hfi
          rw [List.getElem?_map, this, Option.map_some, hf2]
        · rw [List.getElem?_map, List.getElem?_eq_getElem hil]; rfl
    · cases hf
  · cases hf
/-- What a row's reading is. -/
theorem row_form {H : Type} {enc : TypeId × Value → H} {fuel : Nat} {t e : TypeId} {v : Value} {x : DataW H × List MemPlace} {l : List VV} (ht : P.underlying t = some (.slice e))
    (h : DataW.trod enc P W 0 (fun _ => true) true fuel t [v] = some x) (y : Rd P (DW W) W v (.list e l)) : l.length = 0 ∨ ∃ elems spare, x.1 = .slice elems spare ∧ elems.length = l.length := by
  rcases DataW.trod_slice ht h with ⟨h1, _⟩ | ⟨a, len, cap, elems, rest, m, rfl, h1, rfl, _, h2, h3, h4, _⟩
  · injection h1 with h1 _
    subst h1
    exact .inl (Rd.len y)
  · injection h1 with h1 _
    subst h1
    exact .inr ⟨_, _, rfl, by rw [List.length_map, h4, Rd.len y]⟩
/-- What an argument's field's reading is. -/
theorem field_form {H : Type} {enc : TypeId × Value → H} {t e : TypeId} {v : Value} {d : DataW H} {ps : List MemPlace} {ys : List VV} {l : List VV} (i off : Nat) (ft : TypeId) {r : Reach} {b0 : Nat}
    (hf : fldB P t i off 1 ft = true) (ht : P.underlying ft = some (.slice e)) (hv : Value.okWide P W r b0 t v)
    (h : DataW.Trod enc P W 0 (fun _ => true) true t v d ps) (y : Rd P (DW W) W v (.agg ys)) (hy : ys[off]? = some (.list e l)) : l.length = 0 ∨ ∃ parts elems spare, d = .agg parts ∧ DataW.slice elems spare ∈ parts ∧ elems.length = l.length := by
  unfold fldB at hf
  split at hf
  · rename_i fs hu
    split at hf
    · rename_i f hfi
      simp only [Bool.and_eq_true, beq_iff_eq] at hf
      obtain ⟨⟨hf1, hf2⟩, hf3⟩ := hf
      unfold Value.okWide at hv
      rw [hu] at hv
      obtain ⟨cs, rfl, _, _⟩ := hv
      obtain ⟨fuel, h⟩ := h
      obtain ⟨xs, m, rfl, hx, hl, hxl, hfs⟩ := DataW.trod_struct hu h
      have hx1 : d = .agg (xs.map (·.1)) := congrArg Prod.fst hx
      subst hx1
      have hi := hfs i f hfi
      rw [hf1, hf2, hf3] at hi
      cases y with
      | agg _ _ hs hr =>
        have hoff : off < cs.size := by rw [hs]; exact (List.getElem?_eq_some_iff.1 hy).1
        have hc : (cs.toList.drop off).take 1 = [cs[off]] := by
          have : off < cs.toList.length := by simpa using hoff
          rw [List.drop_eq_getElem_cons this]; simp
        have hrd := hr off cs[off] _ (by simp [hoff]) hy
        simp only [Value.cells] at hi
        rw [hc] at hi
        have hil : i < xs.length := by rw [hxl]; exact (Array.getElem?_eq_some_iff.1 hfi).1
        rw [List.getElem?_eq_getElem hil] at hi
        rcases row_form ht hi hrd with q | ⟨elems, spare, q1, q2⟩
        · exact .inl q
        · exact .inr ⟨_, elems, spare, rfl, List.mem_map.2 ⟨xs[i], List.getElem_mem hil, q1⟩, q2⟩
    · cases hf
  · cases hf
end
end Go.Proofs.YtbkdglcedgiogaaGreat.V

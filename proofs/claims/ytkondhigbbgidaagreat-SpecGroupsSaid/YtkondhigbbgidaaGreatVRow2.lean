/-
  The logic over plain values: literals, stores into rows, pieces, and what may be forgotten. Own text.
-/
import Derived.Test.YtkondhigbbgidaaGreatVRow
namespace Go.Proofs.YtkondhigbbgidaaGreat.V
open Go
set_option linter.unusedVariables false
section
variable {P : Program} {N : Nat} {env : Env} {H : List HE} {K : VV → List HE → Prop} {D : Cx} {w : World}
variable {dst : Option Tmp} {ty : TypeId} {pos : String} {aft : Array Edge} {g : Option (Nat × Bool)}
def RdA (P : Program) (D : Cx) (w : World) (arr : Array Value) (cs : List VV) : Prop :=
  arr.size = cs.length ∧ ∀ (j : Nat) (v : Value) (x : VV), arr[j]? = some v → cs[j]? = some x → Rd P D w v x
theorem list_set_run (l : List Value) : ∀ (off : Nat) (cs : Array Value) (k : Nat), off + k + l.length ≤ cs.size →
    (l.zipIdx k).foldl (fun (cs : Array Value) (p : Value × Nat) => cs.setIfInBounds (off + p.2) p.1) cs = (cs.toList.take (off + k) ++ l ++ cs.toList.drop (off + k + l.length)).toArray := by
  induction l with
  | nil => intro off cs k h; simp
  | cons v r ih =>
    intro off cs k h
    simp only [List.length_cons] at h
    simp only [List.zipIdx_cons, List.foldl_cons]
    rw [ih off _ (k + 1) (by simp; omega)]
    congr 1
    have e := list_seg_step cs.toList (off + k) v r (by simp; omega)
    simpa [Array.toList_setIfInBounds, Nat.add_assoc, Nat.add_comm 1] using e
theorem fill_step {arr : Array Value} {cs : List VV} {v : Value} {z : VV} {off n : Nat} (h : RdA P D w arr cs) (hz : Rd P D w v z) (ho : z.told = true) (hn : z.cells.length = n) (hfit : off + n ≤ cs.length) :
    v.cells.size = n ∧ RdA P D w (v.cells.zipIdx.foldl (fun (cs : Array Value) (p : Value × Nat) => cs.setIfInBounds (off + p.2) p.1) arr) (splice cs off z.cells) := by
  obtain ⟨h1, h2, h3⟩ := rd_cells hz ho
  have hv : v.cells.size = n := by rw [h1, hn]
  refine ⟨hv, ?_⟩
  have hr := list_set_run v.cells.toList off arr 0 (by simp [hv, h.1]; exact hfit)
  have e : v.cells.zipIdx.foldl (fun (cs : Array Value) (p : Value × Nat) => cs.setIfInBounds (off + p.2) p.1) arr = (arr.toList.take off ++ v.cells.toList ++ arr.toList.drop (off + n)).toArray := by
    rw [← Array.foldl_toList, Array.toList_zipIdx, hr]
    simp [hv]
  rw [e]
  exact splice_rd h.1 h.2 hz ho hn hfit
def vfill (place : Nat → Option (Nat × Nat)) (cs : List VV) : List (Nat × VV) → Option (List VV)
  | [] => some cs
  | (i, z) :: r => match place i with
    | none => none
    | some (off, size) => if z.told && z.cells.length == size && Nat.ble (off + size) cs.length then vfill place (splice cs off z.cells) r else none
theorem fill_rel {place : Nat → Option (Nat × Nat)} : ∀ {vs : List (Nat × Value)} {zs : List (Nat × VV)} {arr : Array Value} {cs cs' : List VV}, RdA P D w arr cs → vs.length = zs.length →
    (∀ (j : Nat) (p : Nat × Value) (q : Nat × VV), vs[j]? = some p → zs[j]? = some q → p.1 = q.1 ∧ Rd P D w p.2 q.2) → vfill place cs zs = some cs' → ∃ arr', Instr.fill place arr vs = some arr' ∧ RdA P D w arr' cs'
  | [], [], arr, cs, cs', h, _, _, hf => by simp [vfill] at hf; subst hf; exact ⟨arr, rfl, h⟩
  | (i, v) :: vs, (i', z) :: zs, arr, cs, cs', h, hl, hall, hf => by
    obtain ⟨rfl, hz⟩ := hall 0 (i, v) (i', z) rfl rfl
    simp only at hf hz
    unfold vfill at hf
    cases hp : place i with
    | none => simp [hp] at hf
    | some p =>
      obtain ⟨off, size⟩ := p
      simp only [hp] at hf
      split at hf
      · rename_i hc
        simp only [Bool.and_eq_true, beq_iff_eq, Nat.ble_eq] at hc
        obtain ⟨⟨c1, c2⟩, c3⟩ := hc
        obtain ⟨s1, s2⟩ := fill_step h hz c1 c2 c3
        obtain ⟨arr', g1, g2⟩ := fill_rel s2 (by simpa using hl) (fun j p q hp hq => hall (j + 1) p q (by simpa using hp) (by simpa using hq)) hf
        refine ⟨arr', ?_, g2⟩
        unfold Instr.fill
        simp only [hp]
        rw [if_neg (by simp [s1, h.1]; exact c3)]
        exact g1
      · cases hf
def evs (env : Env) : List (Nat × Operand) → Option (List (Nat × VV))
  | [] => some []
  | (i, x) :: r => match ev env x, evs env r with
    | some z, some zs => some ((i, z) :: zs)
    | _, _ => none
theorem evs_rel {a : Act} (hr : RE P D w env a.tmps) : ∀ {l : List (Nat × Operand)} {zs : List (Nat × VV)}, evs env l = some zs →
    (l.map fun p => (p.1, a.eval p.2)).length = zs.length ∧ ∀ (j : Nat) (p : Nat × Value) (q : Nat × VV), (l.map fun p => (p.1, a.eval p.2))[j]? = some p → zs[j]? = some q → p.1 = q.1 ∧ Rd P D w p.2 q.2
  | [], zs, h => by simp [evs] at h; subst h; simp
  | (i, x) :: l, zs, h => by
    unfold evs at h
    split at h
    · rename_i z zs' hz hzs
      simp only [Option.some.injEq] at h
      subst h
      obtain ⟨h1, h2⟩ := evs_rel hr hzs
      refine ⟨by simpa using h1, fun j p q hp hq => ?_⟩
      cases j with
      | zero => simp at hp hq; subst hp; subst hq; exact ⟨rfl, ev_rd hz hr⟩
      | succ j => exact h2 j p q (by simpa using hp) (by simpa using hq)
    · cases h
def plV (P : Program) (t : TypeId) : Option ((Nat → Option (Nat × Nat)) × List VV) :=
  match P.info? t, P.underlying t with
  | some it, some (.array _ e) => (match zV P t, P.info? e with
    | some z, some ie => some (fun i => some (i * ie.size, ie.size), z)
    | _, _ => none)
  | some it, some (.struct fields) => (match zV P t, fields.toList.mapM (fun f => (P.info? f.type).map fun i => (f.offset, i.size)) with
    | some z, some places => some (fun i => places.toArray[i]?, z)
    | _, _ => none)
  | _, _ => none
def vbuild (P : Program) (t : TypeId) (parts : List (Nat × VV)) : Option (List VV) :=
  match plV P t with
  | some (pl, z) => vfill pl z parts
  | none => none
theorem VP.build {t : TypeId} {parts : Array (Nat × Operand)} {zs : List (Nat × VV)} {cs : List VV} (hp : evs env parts.toList = some zs) (hb : vbuild P t zs = some cs) :
    VP P N ⟨dst, .build t parts, ty, pos, aft, g⟩ env H (.agg cs) :=
  fun D w a hs hr hi => by
    obtain ⟨h1, h2⟩ := evs_rel (P := P) (D := D) (w := w) hr hp
    unfold vbuild at hb
    cases hpl : plV P t with
    | none => simp [hpl] at hb
    | some q =>
      obtain ⟨pl, z⟩ := q
      simp only [hpl] at hb
      have key : ∃ z0, zV P t = some z ∧ (∀ w : World, (zeroValue t).run P w = .ok z0 w) ∧ z0.cells.size = z.length ∧ (∀ D w (j : Nat) (v : Value) (x : VV), z0.cells[j]? = some v → z[j]? = some x → Rd P D w v x) ∧
          ∀ vs : List (Nat × Value), P.built t vs = Instr.fill pl z0.cells vs := by
        unfold plV at hpl
        cases hit : P.info? t with
        | none => simp [hit] at hpl
        | some it =>
          cases hu : P.underlying t with
          | none => simp [hit, hu] at hpl
          | some d =>
            cases d <;> try (simp [hit, hu] at hpl; done)
            case array n e =>
              cases hzv : zV P t with
              | none => simp [hit, hu, hzv] at hpl
              | some z' =>
                cases hie : P.info? e with
                | none => simp [hit, hu, hzv, hie] at hpl
                | some ie =>
                  simp only [hit, hu, hzv, hie, Option.some.injEq, Prod.mk.injEq] at hpl
                  obtain ⟨rfl, rfl⟩ := hpl
                  obtain ⟨z0, g1, g2, g3⟩ := zV_run hzv
                  refine ⟨z0, rfl, g1, g2, g3, fun vs => ?_⟩
                  have hz0 : it.zero = some z0 := by
                    have := g1 default
                    simp only [zeroValue, typeInfo, Sem.run_bind, run_program, Result.andThen_ok, hit, Sem.run_pure] at this
                    cases hq : it.zero with
                    | none => simp [hq] at this
                    | some q => simp [hq] at this; rw [this]
                  simp [Program.built, hit, hu, hz0, hie]
            case struct fields =>
              cases hzv : zV P t with
              | none => simp [hit, hu, hzv] at hpl
              | some z' =>
                cases hpp : fields.toList.mapM (fun f => (P.info? f.type).map fun i => (f.offset, i.size)) with
                | none => simp [hit, hu, hzv, hpp] at hpl
                | some places =>
                  simp only [hit, hu, hzv, hpp, Option.some.injEq, Prod.mk.injEq] at hpl
                  obtain ⟨rfl, rfl⟩ := hpl
                  obtain ⟨z0, g1, g2, g3⟩ := zV_run hzv
                  refine ⟨z0, rfl, g1, g2, g3, fun vs => ?_⟩
                  have hz0 : it.zero = some z0 := by
                    have := g1 default
                    simp only [zeroValue, typeInfo, Sem.run_bind, run_program, Result.andThen_ok, hit, Sem.run_pure] at this
                    cases hq : it.zero with
                    | none => simp [hq] at this
                    | some q => simp [hq] at this; rw [this]
                  simp [Program.built, hit, hu, hz0, hpp]
      obtain ⟨z0, _, g1, g2, g3, g4⟩ := key
      obtain ⟨arr', f1, f2⟩ := fill_rel (P := P) (D := D) (w := w) (arr := z0.cells) ⟨g2, fun j v x hv hx => g3 D w j v x hv hx⟩ h1 h2 hb
      refine ⟨.agg arr', fun w1 hp1 => ?_, .agg _ _ f2.1 f2.2⟩
      have hrun := run_build w1 t (parts.map fun p => (p.1, a.eval p.2)) arr' (by rw [g4, Array.toList_map]; exact f1)
      simp only [execOp, Sem.run_bind, hrun, Result.andThen_ok]
      rfl
def fullB : List (Nat × VV) → Nat → Bool
  | [], _ => true
  | (i, _) :: r, k => i == k && fullB r (k + 1)
theorem VO.buildSlice {t e : TypeId} {n : Nat} {parts : Array (Nat × Operand)} {zs : List (Nat × VV)} {sz by_ : Nat} (ht : apB P t e sz by_ = true) (hp : evs env parts.toList = some zs) (hfull : fullB zs 0 = true) (hn : zs.length = n)
    (hbig' : Nat.ble (n * sz) 16777216 = true) (hel : zs.all (fun p => p.2.told && p.2.cells.length == sz && p.2.cells.all VV.one) = true) (k : ∀ b, K (.sl (some b) n n) (.row (some b) e n (zs.map (·.2)) :: H)) :
    VO P N ⟨dst, .buildSlice t n parts, ty, pos, aft, g⟩ env H K := by
  intro D w a hs hr hi next Qx hnext
  have hbig := Nat.le_of_ble_eq_true hbig'
  obtain ⟨i, z, hie, hz, hsz, hby, hzs, hpos⟩ := apB_info ht
  obtain ⟨h1, h2⟩ := evs_rel (P := P) (D := D) (w := w) hr hp
  have hu := elB_und (apB_el ht)
  have hall : ∀ p ∈ zs, p.2.told = true ∧ p.2.cells.length = sz ∧ ∀ y ∈ p.2.cells, y.one = true := by
    intro p hpm
    have := List.all_eq_true.1 hel p hpm
    simp only [Bool.and_eq_true, beq_iff_eq, List.all_eq_true] at this
    exact ⟨this.1.1, this.1.2, this.2⟩
  -- the cells, laid one element behind the other
  have key : ∀ (vs : List (Nat × Value)) (qs : List (Nat × VV)) (m : Nat) (arr : Array Value) (pre : List VV), vs.length = qs.length → fullB qs m = true → (∀ p ∈ qs, p ∈ zs) →
      (∀ (j : Nat) (p : Nat × Value) (q : Nat × VV), vs[j]? = some p → qs[j]? = some q → p.1 = q.1 ∧ Rd P D w p.2 q.2) → arr.size = (m + qs.length) * sz → pre.length = m * sz →
      (∀ (j : Nat) (u : Value) (y : VV), arr[j]? = some u → pre[j]? = some y → Rd P D w u y) →
      ∃ arr', Instr.fill (fun i => some (i * sz, sz)) arr vs = some arr' ∧ arr'.size = (m + qs.length) * sz ∧ ∀ (j : Nat) (u : Value) (y : VV), arr'[j]? = some u → (pre ++ flat (qs.map (·.2)))[j]? = some y → Rd P D w u y := by
    intro vs
    induction vs with
    | nil =>
      intro qs m arr pre hl _ _ _ ha _ hpre
      have : qs = [] := List.eq_nil_of_length_eq_zero hl.symm
      subst this
      exact ⟨arr, rfl, ha, by simpa [flat] using hpre⟩
    | cons v vs ih =>
      intro qs m arr pre hl hfl hmem hvq ha hpl hpre
      cases qs with
      | nil => simp at hl
      | cons q qs =>
        obtain ⟨iv, vv⟩ := v
        obtain ⟨iq, zq⟩ := q
        obtain ⟨e1, e2⟩ := hvq 0 _ _ rfl rfl
        simp only at e1 e2
        subst e1
        simp only [fullB, Bool.and_eq_true, beq_iff_eq] at hfl
        obtain ⟨rfl, hfl⟩ := hfl
        obtain ⟨t1, t2, t3⟩ := hall (iv, zq) (hmem (iv, zq) (by simp))
        simp only at t1 t2 t3
        obtain ⟨c1, c2, c3⟩ := rd_cells e2 t1
        rw [t2] at c1
        have hfit : iv * sz + sz ≤ arr.size := by
          rw [ha]; simp only [List.length_cons]
          have : (iv + 1) * sz ≤ (iv + (qs.length + 1)) * sz := Nat.mul_le_mul_right _ (by omega)
          rw [Nat.add_mul, Nat.one_mul] at this
          exact this
        have hset := list_set_run vv.cells.toList (iv * sz) arr 0 (by simp [c1]; omega)
        have eset : vv.cells.zipIdx.foldl (fun (cs : Array Value) (p : Value × Nat) => cs.setIfInBounds (iv * sz + p.2) p.1) arr = (arr.toList.take (iv * sz) ++ vv.cells.toList ++ arr.toList.drop (iv * sz + sz)).toArray := by
          rw [← Array.foldl_toList, Array.toList_zipIdx, hset]
          simp [c1]
        obtain ⟨arr', g1, g2, g3⟩ := ih qs (iv + 1) (arr.toList.take (iv * sz) ++ vv.cells.toList ++ arr.toList.drop (iv * sz + sz)).toArray (pre ++ zq.cells) (by simpa using hl) hfl (fun p hp => hmem p (by simp [hp]))
          (fun j p q hp hq => hvq (j + 1) p q (by simpa using hp) (by simpa using hq))
          (by simp only [List.size_toArray, List.length_append, List.length_take, List.length_drop, Array.length_toList, c1, ha, List.length_cons]
              rw [ha] at hfit
              simp only [List.length_cons] at hfit
              rw [show iv + 1 + qs.length = iv + (qs.length + 1) by omega]
              omega)
          (by rw [List.length_append, hpl, t2, Nat.add_mul, Nat.one_mul])
          (by
            intro j u y hu hy
            rw [List.getElem?_toArray] at hu
            by_cases hj : j < iv * sz
            · rw [List.append_assoc, List.getElem?_append_left (by simp; omega), List.getElem?_take_of_lt hj] at hu
              rw [List.getElem?_append_left (by omega)] at hy
              exact hpre j u y (by simpa using hu) hy
            · rw [List.getElem?_append_right (by omega)] at hy
              have hjl : j - pre.length < sz := by rw [← t2]; exact (List.getElem?_eq_some_iff.1 hy).1
              rw [List.append_assoc, List.getElem?_append_right (by simp; omega), List.getElem?_append_left (by simp [c1]; omega)] at hu
              have e3 : (arr.toList.take (iv * sz)).length = pre.length := by simp; omega
              rw [e3] at hu
              exact c3 _ u y (by simpa using hu) hy)
        refine ⟨arr', ?_, by simpa [Nat.add_assoc, Nat.add_comm 1] using g2, fun j u y hu hy => g3 j u y hu ?_⟩
        · unfold Instr.fill
          simp only
          rw [if_neg (by simp [c1]; omega)]
          rw [eset]
          exact g1
        · simp only [List.map_cons, flat_cons] at hy
          rw [List.append_assoc]
          exact hy
  have hlen : (parts.toList.map fun p => (p.1, a.eval p.2)).length = zs.length := h1
  obtain ⟨arr, f1, f2, f3⟩ := key (parts.toList.map fun p => (p.1, a.eval p.2)) zs 0 ((Array.range (n * sz)).map fun i => z.cells[i % z.cells.size]!) [] hlen hfull (fun _ h => h) h2 (by simp [hn]) (by simp) (by simp)
  simp only [Nat.zero_add, List.nil_append] at f2 f3
  rw [hn] at f2
  have hrun : (execOp a.eval ⟨dst, .buildSlice t n parts, ty, pos, aft, g⟩).run P w = .ok (.value (.slice (some ⟨w.heap.size, 0, none⟩) n n)) (w.alloc (.cells arr e)) := by
    have hz' : ∀ w : World, (zeroValue e).run P w = .ok z w := fun w => by simp [zeroValue, typeInfo, hie, hz]
    have hsz' : ∀ w : World, (sizeOf e).run P w = .ok sz w := fun w => by simp [sizeOf, typeInfo, hie, hsz]
    have hm : (parts.map fun (x : Nat × Operand) => (x.1, a.eval x.2)).toList = parts.toList.map fun p => (p.1, a.eval p.2) := by simp
    have hb : ¬ n * sz > 2 ^ 24 := by have := hbig; omega
    by_cases h0 : n * sz = 0
    · have hn0 : n = 0 := by rcases Nat.mul_eq_zero.1 h0 with h | h <;> omega
      subst hn0
      have hzs0 : zs = [] := List.eq_nil_of_length_eq_zero hn
      subst hzs0
      have hp0 : parts.toList = [] := List.eq_nil_of_length_eq_zero (by simpa using h1)
      have hpa : parts = #[] := by apply Array.ext'; simpa using hp0
      subst hpa
      have harr : arr = #[] := Array.eq_empty_of_size_eq_zero (by rw [f2, h0])
      subst harr
      simp [execOp, Instr.buildSlice, run_underlying hu, hsz', Instr.fill, newRow, Array.range_zero']
    · simp only [execOp, Instr.buildSlice, Sem.run_bind, run_underlying hu, Result.andThen_ok, hsz', if_neg hb, if_neg h0, hz', Sem.run_pure, hm, f1]
      simp [newRow]
  refine wp_value_of hrun ?_
  have hD : ∀ b e', D b e' → (w.alloc (.cells arr e)).heap[b]? = w.heap[b]? := fun b e' hd => alloc_old w _ b (hi.dlt b e' hd)
  have hc := elB_cells (apB_el ht)
  obtain ⟨hI, hF⟩ := hi.alloc (o := .cells arr e) (h := .row (some w.heap.size) e n (zs.map (·.2))) rfl ⟨arr, alloc_new w _, .inl (by rw [hc]; exact f2), by simp [hn], by
      unfold maxLen
      have : n * 1 ≤ n * sz := Nat.mul_le_mul_left _ hpos
      omega, by
      intro x hx
      obtain ⟨p, hp', rfl⟩ := List.mem_map.1 hx
      rw [hc]
      exact ⟨(hall p hp').2.1, (hall p hp').2.2⟩, fun j v x hv hx => (f3 j v x hv hx).mono (fun _ _ h => h) (fun _ _ _ h => h) hD⟩
  exact hnext _ _ _ _ _ (k _) (.sl _ _ _) hI hF
end
end Go.Proofs.YtkondhigbbgidaaGreat.V

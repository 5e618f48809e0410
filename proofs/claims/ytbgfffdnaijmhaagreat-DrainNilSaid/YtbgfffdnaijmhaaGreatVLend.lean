/-
  The logic over plain values: rows that are lent to a call that hands back a row of its own, in which nothing of them stands. Own text.
-/
import Derived.Test.YtbgfffdnaijmhaaGreatVBits
namespace Go.Proofs.YtbgfffdnaijmhaaGreat.V
open Go
set_option linter.unusedVariables false

section
variable {P : Program} {N : Nat} {env : Env} {H : List HE} {K : VV → List HE → Prop} {dst : Option Tmp} {ty : TypeId} {pos : String} {aft : Array Edge} {g : Option (Nat × Bool)}
variable {ρ β : Type}

theorem Shift.cst {F : VV → List HE} {x y : VV} (e : x = y) : Shift P env (F x) env (F y) := by
  subst e
  exact fun D w t hr hi => ⟨D, hr, hi, Fr.refl D w _⟩

/-- No address of what is read stands in it; a slice of a row of one's own may. -/
def rf1 : VV → Bool
  | .sl _ _ _ => true
  | x => flV x
def rfV : VV → Bool
  | .tup cs => cs.all rf1
  | x => rf1 x
def flH : HE → Bool
  | .row _ _ _ xs => flVs xs
  | _ => false

theorem rf1_rd {P : Program} {D D' : Cx} {w w' : World} {x : VV} (h : rf1 x = true) {v : Value} (r : Rd P D w v x) : Rd P D' w' v x := by
  cases x with
  | sl b l c => cases r with
    | slNil => exact .slNil
    | sl b l c => exact .sl b l c
  | _ => exact flV_rd _ h r
theorem rfV_rd {P : Program} {D D' : Cx} {w w' : World} {x : VV} (h : rfV x = true) {v : Value} (r : Rd P D w v x) : Rd P D' w' v x := by
  cases x with
  | tup cs =>
    cases r with
    | tup vs _ hs hr =>
      refine .tup _ _ hs fun j v x hj hx => ?_
      simp only [rfV, List.all_eq_true] at h
      exact rf1_rd (h x (List.mem_of_getElem? hx)) (hr j v x hj hx)
  | _ => exact rf1_rd (by exact h) r

theorem flVs_cells {x : VV} (h : flV x = true) : ∀ y, y ∈ x.cells → flV y = true := by
  intro y hy
  cases x with
  | agg cs => unfold flV at h; exact flVs_mem h y hy
  | _ => simp only [VV.cells, List.mem_singleton] at hy; subst hy; exact h

theorem flH_rel {D D' : Cx} {w : World} {h : HE} (hf : flH h = true) (r : HR P D w h) : HR P D' w h := by
  cases h with
  | row b e cap xs =>
    cases b with
    | none => exact r
    | some b =>
      obtain ⟨arr, h1, h2, h3, h4, h5, h6⟩ := r
      refine ⟨arr, h1, h2, h3, h4, h5, fun j v y hv hy => ?_⟩
      obtain ⟨x, hx, hyx⟩ := List.mem_flatMap.1 (List.mem_of_getElem? hy)
      exact flV_rd y (flVs_cells (flVs_mem hf x hx) y hyx) (h6 j v y hv hy)
  | _ => simp [flH] at hf

theorem flH_row {α : Type} {f : α → VV} {b : Option Nat} {e cap : Nat} (h : ∀ x, flV (f x) = true) : ∀ (l : List α), flH (.row b e cap (l.map f)) = true
  | [] => rfl
  | x :: l => by
    have := flH_row (b := b) (e := e) (cap := cap) h l
    simp only [flH] at this
    simp [flH, flVs, h x, this]

theorem flH1 {α : Type} {f : α → VV} {b : Option Nat} {e cap : Nat} {l : List α} (h : ∀ x, flV (f x) = true) : ∀ q, q ∈ [HE.row b e cap (l.map f)] → flH q = true := fun q hq => by
  simp only [List.mem_singleton] at hq
  subst hq
  exact flH_row h l

theorem VO.callL2 {env' : Env} {H' : List HE} (hsh : Shift P env H env' H') (ns : List Hn) {f : FuncId} {fo : Operand} {args : Array Operand} {ats : Array TypeId} {fi ca xs : List VV} {R : VV → List HE → Prop} (hfo : ev env' fo = some (.clo (.func f) fi ca)) (hf : fnB P f = true)
    (hx : evlN env' ns args.toList = some xs) (hc : VC P f (fi ++ xs ++ ca) [] R) (kk : ∀ x H1, R x H1 → rfV x = true ∧ (∀ h, h ∈ H1 → flH h = true) ∧ K x (H1 ++ H)) : VO P N ⟨dst, .call ⟨.value fo, args, ats⟩, ty, pos, aft, g⟩ env H K := by
  intro D w a hs hr hi next Qx hn
  obtain ⟨D1, hr1, hi1, _⟩ := hsh D w a.tmps hr hi
  obtain ⟨h1, h2⟩ := evlN_rel (P := P) (D := D1) (w := w) hr1 ns _ _ hx
  have hrd := ev_rd hfo hr1
  generalize hv : a.eval fo = v at hrd
  cases hrd with
  | clo fn fa cs _ _ hs1 hr1 hs2 hr2 =>
    have hrun : (execOp a.eval ⟨dst, .call ⟨.value fo, args, ats⟩, ty, pos, aft, g⟩).run P w = .ok (.enter f (fa ++ args.map a.eval ++ cs)) w := by
      simp only [execOp, resolve, hv, Deferred.ofValue, Sem.run_bind, Sem.run_pure, Result.andThen_ok, invoke]
      exact run_callFunc hf _ w
    have hargs : ∀ (j : Nat) (v : Value) (x : VV), (fa ++ args.map a.eval ++ cs)[j]? = some v → (fi ++ xs ++ ca)[j]? = some x → Rd P D1 w v x := by
      intro j v x hj hjx
      have e1 : fa.size = fi.length := hs1
      have e2 : (args.map a.eval).size = xs.length := by simpa using h1
      by_cases ha : j < fa.size
      · rw [Array.append_assoc, Array.getElem?_append_left ha] at hj
        rw [List.append_assoc, List.getElem?_append_left (by omega)] at hjx
        exact hr1 j v x hj hjx
      · by_cases hb : j < fa.size + (args.map a.eval).size
        · rw [Array.getElem?_append_left (by rw [Array.size_append]; exact hb), Array.getElem?_append_right (by omega)] at hj
          rw [List.getElem?_append_left (by rw [List.length_append]; omega), List.getElem?_append_right (by omega)] at hjx
          rw [e1] at hj
          simp only [Array.getElem?_map, Option.map_eq_some_iff] at hj
          obtain ⟨o, ho, rfl⟩ := hj
          exact h2 _ o x (by simpa using ho) hjx
        · rw [Array.getElem?_append_right (by rw [Array.size_append]; omega)] at hj
          rw [List.getElem?_append_right (by rw [List.length_append]; omega)] at hjx
          have e3 : (fa ++ args.map a.eval).size = (fi ++ xs).length := by rw [Array.size_append, List.length_append]; omega
          rw [e3] at hj
          exact hr2 _ v x hj hjx
    unfold Oper.wp
    rw [hrun]
    have hi0 : Inv P D1 w ([] ++ H') := hi1
    refine Calls.mono (hc D1 w _ ?_ hargs hi0.sub) ?_
    · simp only [Array.size_append, List.length_append, Array.size_map]
      rw [Array.length_toList] at h1
      omega
    · rintro e w' ⟨v, x, H1, D', rfl, hR, hrv, hi', hf'⟩
      obtain ⟨hfl, hall, hK⟩ := kk x H1 hR
      have hnw : ∀ b, b ∈ blks H1 → w.heap.size ≤ b := fun b hb => by
        rcases hf'.hnew b hb with h | h
        · cases h
        · exact h
      have hF0 : Fr D w [] D w' H1 := ⟨hf'.size, fun b hb hm => hf'.prot b hb hm, fun _ _ h => h, fun _ _ h => .inl h, fun b hb => .inr (hnw b hb), hf'.os, hf'.tape, hf'.output, fun _ _ _ h => h, fun _ _ _ h => .inl h, hf'.anew⟩
      have hI0 : Inv P D w' H1 := ⟨hi'.nodup, hi'.lt, fun b e hd hb => by have := hi.dlt b e hd; have := hnw b hb; omega, fun b e hd => Nat.lt_of_lt_of_le (hi.dlt b e hd) hf'.size, fun h hh => flH_rel (hall h hh) (hi'.rel h hh), hi'.arn⟩
      have hi2 : Inv P D w ([] ++ H) := hi
      obtain ⟨hI, hF⟩ := hi2.frame hI0 hF0
      exact hn v x (H1 ++ H) D w' hK (rfV_rd hfl hrv) hI hF

theorem VO.ce2 {F : Option ρ} {kf : ρ → Option β} {z : β} {V : ρ → Option Nat → Nat → VV} {Hf : ρ → Option Nat → Nat → List HE} (hm : F.bind kf = some z) {env' : Env} {H' : List HE} (hsh : Shift P env H env' H') (ns : List Hn) {f : FuncId} {fo : Operand} {args : Array Operand} {ats : Array TypeId} {fi ca xs : List VV} (hfo : ev env' fo = some (.clo (.func f) fi ca)) (hf : fnB P f = true)
    (hx : evlN env' ns args.toList = some xs) (hc : VS2 P f F (fi ++ xs ++ ca) [] V Hf) (hv : ∀ r a c, rfV (V r a c) = true) (hz : ∀ r a c h, h ∈ Hf r a c → flH h = true) (kk : ∀ r a c, kf r = some z → K (V r a c) (Hf r a c ++ H)) : VO P N ⟨dst, .call ⟨.value fo, args, ats⟩, ty, pos, aft, g⟩ env H K := by
  obtain ⟨r, a, b⟩ := bnd hm
  exact VO.callL2 hsh ns hfo hf hx (hc r a) fun x H1 ⟨p, q, e1, e2⟩ => by subst e1; subst e2; exact ⟨hv r p q, hz r p q, kk r p q b⟩
end
end Go.Proofs.YtbgfffdnaijmhaaGreat.V

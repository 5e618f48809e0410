/-
  The logic over plain values: arrays compared. Own text.
-/
import Derived.Test.YtbgfffdnaijmhaaGreatVMap
namespace Go.Proofs.YtbgfffdnaijmhaaGreat.V
open Go Go.Lib
set_option linter.unusedVariables false

 mutual
/-- A value that tells of no memory. -/
def flV : VV → Bool
  | .any => true
  | .bool _ => true
  | .int _ _ => true
  | .str _ => true
  | .agg cs => flVs cs
  | .tup cs => flVs cs
  | _ => false
def flVs : List VV → Bool
  | [] => true
  | x :: r => flV x && flVs r
end
theorem flVs_mem : ∀ {l : List VV}, flVs l = true → ∀ x, x ∈ l → flV x = true
  | [], _, _, h => by cases h
  | y :: l, h, x, hx => by
    unfold flVs at h
    rw [Bool.and_eq_true] at h
    rcases List.mem_cons.1 hx with rfl | hx
    · exact h.1
    · exact flVs_mem h.2 x hx
theorem flV_rd {P : Program} {D D' : Cx} {w w' : World} : ∀ (x : VV), flV x = true → ∀ {v : Value}, Rd P D w v x → Rd P D' w' v x
  | .any, _, _, _ => .any _
  | .bool _, _, _, h => by cases h; exact .bool _
  | .int _ _, _, _, h => by cases h; exact .int _ _
  | .str _, _, _, h => by cases h with | str _ hs => exact .str _ hs
  | .agg cs, hf, _, h => by
    unfold flV at hf
    cases h with
    | agg vs _ hs hr =>
      refine .agg _ _ hs fun j v x hj hx => ?_
      have hm := List.mem_of_getElem? hx
      exact flV_rd x (flVs_mem hf x hm) (hr j v x hj hx)
  | .tup cs, hf, _, h => by
    unfold flV at hf
    cases h with
    | tup vs _ hs hr =>
      refine .tup _ _ hs fun j v x hj hx => ?_
      have hm := List.mem_of_getElem? hx
      exact flV_rd x (flVs_mem hf x hm) (hr j v x hj hx)
termination_by x => SizeOf.sizeOf x
decreasing_by
  all_goals
    have := List.sizeOf_lt_of_mem hm
    simp only [VV.agg.sizeOf_spec, VV.tup.sizeOf_spec]
    omega

/-- A short name, for printed proofs. -/
theorem R {α : Sort _} {a : α} : a = a := rfl

/-- Whether the elements are alike, one beside the other. -/
def eqAr (s : Shp) (n : Nat) (agg : Bool) (xs ys : List VV) : List Nat → Option Bool
  | [] => some true
  | i :: is =>
    if (Nat.ble n (xs.drop (i * n)).length && Nat.ble n (ys.drop (i * n)).length) = true then
      (eqSh s (whole agg n (xs.drop (i * n))) (whole agg n (ys.drop (i * n)))).bind fun a => (eqAr s n agg xs ys is).bind fun b => some (a && b)
    else none

def shaB (P : Program) (s : Shp) (n : Nat) (agg : Bool) (e len : Nat) (t : TypeId) : Bool := (match P.underlying t with | some (.array l e') => l == len && e' == e | _ => false) && ldB P e n agg && shB P s e && Nat.ble s.ht 9997

section
variable {P : Program} {N : Nat} {env : Env} {H : List HE} {K : VV → List HE → Prop} {D : Cx} {w : World}
variable {dst : Option Tmp} {ty : TypeId} {pos : String} {aft : Array Edge} {g : Option (Nat × Bool)}

def eqArr (d : Nat) (elem : TypeId) (n : Nat) (xs ys : Array Value) : List Nat → Sem Bool
  | [] => pure true
  | i :: is => do
    let a ← part elem xs (i * n)
    let b ← part elem ys (i * n)
    let r ← Op.equalIn d elem a b
    if (!r) = true then pure false else eqArr d elem n xs ys is

theorem run_equalIn_array (w : World) (d : Nat) (t elem : TypeId) (len n : Nat) (xs ys : Array Value) (ht : P.underlying t = some (.array len elem)) (hn : ∀ w, (sizeOf elem).run P w = .ok n w) :
    (Op.equalIn (d + 1) t (.agg xs) (.agg ys)).run P w = (eqArr d elem n xs ys (List.range' 0 len)).run P w := by
  simp only [Op.equalIn, Sem.run_bind, run_underlying ht, Result.andThen_ok, hn]
  rw [Std.Legacy.Range.forIn_eq_forIn_range']
  simp only [Std.Legacy.Range.size]
  have : (len - 0 + 1 - 1) / 1 = len := by simp
  rw [this]
  generalize List.range' 0 len 1 = fs
  clear ht
  induction fs generalizing w with
  | nil => simp [eqArr]
  | cons f fs ih =>
    simp only [List.forIn_cons, eqArr, Sem.run_bind, Sem.run_ite]
    generalize (part elem xs (f * n)).run P w = r1
    cases r1 with
    | ok a w1 =>
      simp only [Result.andThen_ok]
      generalize (part elem ys (f * n)).run P w1 = r2
      cases r2 with
      | ok b w2 =>
        simp only [Result.andThen_ok]
        generalize (Op.equalIn d elem a b).run P w2 = r3
        cases r3 with
        | ok r w3 =>
          cases r
          · simp only [Result.andThen_ok, Bool.not_false, if_true, Sem.run_pure]
          · simp only [Result.andThen_ok, Bool.not_true, Bool.false_eq_true, if_false, Sem.run_pure]
            exact ih w3
        | halt x w3 => simp [Result.andThen]
      | halt x w2 => simp [Result.andThen]
    | halt x w1 => simp [Result.andThen]

theorem eqAr_run {s : Shp} {n d : Nat} {agg : Bool} {elem : TypeId} {cs cs' : Array Value} {xs ys : List VV} (hl : ldB P elem n agg = true) (hs : shB P s elem = true) (hd : s.ht < d)
    (h1 : cs.size = xs.length) (h2 : ∀ (j : Nat) (v : Value) (x : VV), cs[j]? = some v → xs[j]? = some x → Rd P D w v x) (h3 : cs'.size = ys.length) (h4 : ∀ (j : Nat) (v : Value) (x : VV), cs'[j]? = some v → ys[j]? = some x → Rd P D w v x) :
    ∀ (is : List Nat) (r : Bool), eqAr s n agg xs ys is = some r → ∀ w1, (eqArr d elem n cs cs' is).run P w1 = .ok r w1
  | [], r, he, w1 => by simp only [eqAr, Option.some.injEq] at he; subst he; simp [eqArr]
  | i :: is, r, he, w1 => by
    unfold eqAr at he
    split at he
    · rename_i hb
      simp only [Bool.and_eq_true] at hb
      obtain ⟨a, ha, he⟩ := bnd he
      obtain ⟨b, hb', he⟩ := bnd he
      simp only [Option.some.injEq] at he
      subst he
      obtain ⟨v, p1, p2⟩ := run_part hl h1 h2 (Nat.le_of_ble_eq_true hb.1)
      obtain ⟨v', p3, p4⟩ := run_part hl h3 h4 (Nat.le_of_ble_eq_true hb.2)
      have e1 := eqSh_run s elem d v v' _ _ a hs hd p2 p4 ha w1
      have e2 := eqAr_run hl hs hd h1 h2 h3 h4 is b hb' w1
      rw [eqArr]
      simp only [Sem.run_bind, p1, p3, e1, Result.andThen_ok]
      cases a
      · simp
      · simpa using e2
    · cases he

theorem VP.eqA (s : Shp) (n : Nat) (agg : Bool) (e len : Nat) {bo : BinOp} {xt yt : TypeId} {x y : Operand} {xs ys : List VV} {r : Bool} {z : VV} (hs : (shaB P s n agg e len xt && noif P xt) = true) (hx : ev env x = some (.agg xs)) (hy : ev env y = some (.agg ys)) (he : eqAr s n agg xs ys (List.range' 0 len) = some r)
    (hz : V.boolop bo r true = some z) : VP P N ⟨dst, .binOp bo xt x y yt, ty, pos, aft, g⟩ env H z := fun D w a hs' hr hi => by
  simp only [Bool.and_eq_true] at hs
  obtain ⟨h1, h2⟩ := hs
  unfold shaB at h1
  simp only [Bool.and_eq_true] at h1
  obtain ⟨⟨⟨ht, hl⟩, hsh⟩, h3⟩ := h1
  have h3 := Nat.le_of_ble_eq_true h3
  have hty : P.underlying xt = some (.array len e) := by
    split at ht
    · rename_i l e' hu
      simp only [Bool.and_eq_true, beq_iff_eq] at ht
      rw [hu, ht.1, ht.2]
    · cases ht
  have hvx := ev_rd hx hr
  have hvy := ev_rd hy hr
  have key : ∀ w1, (Op.equalIn Op.maxDepth xt (a.eval x) (a.eval y)).run P w1 = .ok r w1 := by
    intro w1
    generalize a.eval x = u at *
    generalize a.eval y = u' at *
    cases hvx with
    | agg cs _ g1 g2 =>
      cases hvy with
      | agg cs' _ g3 g4 =>
        rw [show Op.maxDepth = (Op.maxDepth - 1) + 1 from rfl, run_equalIn_array w1 _ xt e len n cs cs' hty (ldB_size hl)]
        exact eqAr_run hl hsh (by unfold Op.maxDepth; omega) g1 g2 g3 g4 _ r he w1
  have hg : ∀ o w1, (eqGuard o xt x y (a.eval x) (a.eval y)).run P w1 = .ok () w1 := by
    intro o w1
    generalize a.eval x = u at *
    generalize a.eval y = u' at *
    cases hvx with
    | agg cs _ _ _ =>
      cases hvy with
      | agg cs' _ _ _ =>
        unfold noif at h2
        have h2' : P.eqGuardType P.depth xt = false := by simpa using h2
        unfold eqGuard
        cases o <;> simp [h2']
  have hag : ∃ cs, a.eval x = .agg cs := by
    generalize a.eval x = u at *
    cases hvx with
    | agg cs _ _ _ => exact ⟨cs, rfl⟩
  have hag' : ∃ cs, a.eval y = .agg cs := by
    generalize a.eval y = u at *
    cases hvy with
    | agg cs _ _ _ => exact ⟨cs, rfl⟩
  obtain ⟨cs, hcs⟩ := hag
  obtain ⟨cs', hcs'⟩ := hag'
  rw [hcs, hcs'] at key
  have hg' : ∀ o w1, (eqGuard o xt x y (.agg cs) (.agg cs')).run P w1 = .ok () w1 := fun o w1 => by have := hg o w1; rw [hcs, hcs'] at this; exact this
  cases bo <;> simp only [V.boolop, Option.some.injEq, reduceCtorEq] at hz <;> subst hz
  · refine ⟨.bool (r == true), fun w1 _ => ?_, .bool _⟩
    simp only [execOp, hcs, hcs', Sem.run_bind, hg', Result.andThen_ok, binOp, Op.equal]
    simp [key]
  · refine ⟨.bool (!(r == true)), fun w1 _ => ?_, .bool _⟩
    simp only [execOp, hcs, hcs', Sem.run_bind, hg', Result.andThen_ok, binOp, Op.equal]
    simp [key]

/-! a call to which rows of one's own are lent, and that answers nothing that tells of memory -/
theorem VO.callL {env' : Env} {H' : List HE} (hsh : Shift P env H env' H') (ns : List Hn) {f : FuncId} {fo : Operand} {args : Array Operand} {ats : Array TypeId} {fi ca xs : List VV} {R : VV → List HE → Prop} (hfo : ev env' fo = some (.clo (.func f) fi ca)) (hf : fnB P f = true)
    (hx : evlN env' ns args.toList = some xs) (hc : VC P f (fi ++ xs ++ ca) [] R) (kk : ∀ x H1, R x H1 → flV x = true ∧ H1 = [] ∧ K x H) : VO P N ⟨dst, .call ⟨.value fo, args, ats⟩, ty, pos, aft, g⟩ env H K := by
  intro D w a hs hr hi next Qx hn
  obtain ⟨D1, hr1, hi1, _⟩ := hsh D w a.tmps hr hi
  obtain ⟨h1, h2⟩ := evlN_rel (P := P) (D := D1) (w := w) hr1 ns _ _ hx
  have hrd := ev_rd hfo hr1
  generalize hv : a.eval fo = v at hrd
  cases hrd with
  | clo fn fa cs _ _ hs1 hr1 hs2 hr2 =>
    have hrun : (execOp a.eval ⟨dst, .call ⟨.value fo, args, ats⟩, ty, pos, aft, g⟩).run P w = .ok (.enter f (fa ++ args.map a.eval ++ cs)) w := by
      simp only [execOp, resolve, hv, Deferred.ofValue, Sem.run_bind, Sem.run_pure, Result.andThen_ok, invoke]
      exact run_callFunc hf _ w
    have hargs : ∀ (j : Nat) (v : Value) (x : VV), (fa ++ args.map a.eval ++ cs)[j]? = some v → (fi ++ xs ++ ca)[j]? = some x → Rd P D1 w v x := by
      intro j v x hj hjx
      have e1 : fa.size = fi.length := hs1
      have e2 : (args.map a.eval).size = xs.length := by simpa using h1
      by_cases ha : j < fa.size
      · rw [Array.append_assoc, Array.getElem?_append_left ha] at hj
        rw [List.append_assoc, List.getElem?_append_left (by omega)] at hjx
        exact hr1 j v x hj hjx
      · by_cases hb : j < fa.size + (args.map a.eval).size
        · rw [Array.getElem?_append_left (by rw [Array.size_append]; exact hb), Array.getElem?_append_right (by omega)] at hj
          rw [List.getElem?_append_left (by rw [List.length_append]; omega), List.getElem?_append_right (by omega)] at hjx
          rw [e1] at hj
          simp only [Array.getElem?_map, Option.map_eq_some_iff] at hj
          obtain ⟨o, ho, rfl⟩ := hj
          exact h2 _ o x (by simpa using ho) hjx
        · rw [Array.getElem?_append_right (by rw [Array.size_append]; omega)] at hj
          rw [List.getElem?_append_right (by rw [List.length_append]; omega)] at hjx
          have e3 : (fa ++ args.map a.eval).size = (fi ++ xs).length := by rw [Array.size_append, List.length_append]; omega
          rw [e3] at hj
          exact hr2 _ v x hj hjx
    unfold Oper.wp
    rw [hrun]
    have hi0 : Inv P D1 w ([] ++ H') := hi1
    refine Calls.mono (hc D1 w _ ?_ hargs hi0.sub) ?_
    · simp only [Array.size_append, List.length_append, Array.size_map]
      rw [Array.length_toList] at h1
      omega
    · rintro e w' ⟨v, x, H1, D', rfl, hR, hrv, _, hf'⟩
      obtain ⟨hfl, _, hK⟩ := kk x H1 hR
      have hF0 : Fr D w [] D w' [] := ⟨hf'.size, fun b hb hm => hf'.prot b hb hm, fun _ _ h => h, fun _ _ h => .inl h, fun _ h => .inl h, hf'.os, hf'.tape, hf'.output, fun _ _ _ h => h, fun _ _ _ h => .inl h, fun _ h => h⟩
      have hI0 : Inv P D w' [] := ⟨List.nodup_nil, fun b hb => (by cases hb), fun b e _ hb => (by cases hb), fun b e hd => Nat.lt_of_lt_of_le (hi.dlt b e hd) hf'.size, fun h hh => (by cases hh), List.nodup_nil⟩
      have hi2 : Inv P D w ([] ++ H) := hi
      obtain ⟨hI, hF⟩ := hi2.frame hI0 hF0
      exact hn v x H D w' hK (flV_rd _ hfl hrv) hI hF

/-- Bytes of a list that is only read, as text. -/
theorem VP.convBL {src dt e : TypeId} {x : Operand} {l : List Int} (hs : elB P src e 1 = true) (he : P.underlying e = some (.int .u8)) (ht : P.underlying dt = some .string) (hx : ev env x = some (.list e (l.map (VV.int .u8)))) :
    VP P N ⟨dst, .convert src dt x, ty, pos, aft, g⟩ env H (.str (strOfNums l)) := by
  refine fun D w a hz hr hinv => ?_
  have hrd := ev_rd hx hr
  have hu := elB_und hs
  have hc := elB_cells hs
  generalize hq : a.eval x = v at hrd
  have hmm : ∀ {v : Value} {ys : List VV}, ys = l.map (VV.int .u8) → Rd P D w v (.list e ys) → l.length ≤ maxLen ∧ ∀ w1, Prot D w H w1 → (convert src dt v).run P w1 = .ok (.string (strOfNums l)) w1 := by
    intro v ys hys hrd
    cases hrd with
    | listNil _ ad =>
      have : l = [] := by cases l with | nil => rfl | cons _ _ => simp at hys
      subst this
      refine ⟨Nat.zero_le _, fun w1 _ => ?_⟩
      cases ad with
      | none => rw [run_convert_bytes_nil (P := P) w1 src e hu he 0 0 dt ht]; rfl
      | some ad =>
        rw [run_convert_bytes_string w1 src dt e _ 0 0 hu he ht, run_bytesToString w1 ad 0 0 [] (by simp [loadCells, loadCellsFrom])]
        rfl
    | list _ _ b off c f h1 h2 hD h3 hv hrr =>
      subst hys
      simp only [List.length_map] at h1
      refine ⟨by omega, fun w1 hp1 => ?_⟩
      rw [List.length_map]
      refine run_convert_bytes_arg (P := P) w1 src e hu he b off l.length c l rfl (fun i hi => ?_) dt ht
      have hg : (l.map (VV.int .u8))[i]? = some (.int .u8 l[i]) := by simp [hi]
      have h4 := hv i _ hg 0 (.int .u8 l[i]) rfl
      have h5 := rd_int (hrr i _ hg 0 (.int .u8 l[i]) rfl)
      rw [hc, Nat.mul_one, Nat.add_zero] at h4
      rw [cell_of_block (hp1 b (.inl ⟨e, hD⟩)), h4, h5]
      simp [List.getD, hi]
  obtain ⟨m1, m2⟩ := hmm rfl hrd
  refine ⟨.string (strOfNums l), fun w1 hp1 => ?_, .str _ (by rw [strOfNums_size]; exact m1)⟩
  have := m2 w1 hp1
  simp only [execOp, hq, Sem.run_bind, this, Result.andThen_ok]
  rfl
end
end Go.Proofs.YtbgfffdnaijmhaaGreat.V

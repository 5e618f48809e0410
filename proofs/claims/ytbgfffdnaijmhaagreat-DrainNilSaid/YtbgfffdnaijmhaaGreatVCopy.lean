/-
  The logic over plain values: shifts, pieces of rows, copies, lists without room, rows of zeros. Own text.
-/
import Derived.Test.YtbgfffdnaijmhaaGreatVRun
import Derived.Laws.CopyRow
import Derived.Laws.IdiomCopy
import Derived.Laws.OwnMore
import Derived.Deep.AppendSrc
import Derived.Deep.Upon
namespace Go.Proofs.YtbgfffdnaijmhaaGreat.V
open Go
set_option linter.unusedVariables false

def shl (k : IntKind) (n m : Int) : Option Int := if m < 0 then none else some (k.wrap (n * 2 ^ (min m.toNat k.bits)))
/-- A piece's bounds. -/
def rng (n : Nat) (l h : Option Int) : Option (Nat × Nat) := if (0 ≤ l.getD 0 ∧ 0 ≤ h.getD 0) ∧ lowN l ≤ highN n h ∧ highN n h ≤ n then some (lowN l, highN n h) else none
theorem rng_some {n : Nat} {l h : Option Int} {r : Nat × Nat} (hh : rng n l h = some r) : (nonneg l ∧ nonneg h) ∧ (lowN l ≤ highN n h ∧ highN n h ≤ n) ∧ r = (lowN l, highN n h) := by
  unfold rng at hh; split at hh
  · rename_i q
    simp only [Option.some.injEq] at hh
    exact ⟨⟨nn q.1.1, nn q.1.2⟩, q.2, hh.symm⟩
  · cases hh
theorem rng_le {n : Nat} {l h : Option Int} {r : Nat × Nat} (hh : rng n l h = some r) : r.1 ≤ r.2 ∧ r.2 ≤ n := by
  obtain ⟨_, h1, rfl⟩ := rng_some hh
  exact h1
/-- How many go over, and what comes of it. -/
def cpn (r s : Nat × Nat) : Nat := min (s.2 - s.1) (r.2 - r.1)
def cpy {α : Type} (l : List α) (r s : Nat × Nat) : List α := l.take r.1 ++ ((l.drop s.1).take (cpn r s) ++ l.drop (r.1 + cpn r s))
theorem cpy_len {α : Type} {l : List α} {r q : Nat × Nat} (hr : r.1 ≤ r.2 ∧ r.2 ≤ l.length) (hq : q.1 ≤ q.2 ∧ q.2 ≤ l.length) : (cpy l r q).length = l.length := by
  obtain ⟨h1, h2⟩ := hr
  obtain ⟨h3, h4⟩ := hq
  have hnd : cpn r q ≤ r.2 - r.1 := Nat.min_le_right _ _
  have hns : cpn r q ≤ q.2 - q.1 := Nat.min_le_left _ _
  unfold cpy
  rw [List.length_append, List.length_append, List.length_take, List.length_take, List.length_drop, List.length_drop]
  omega
/-- A row of zeros. -/
def mk {α : Type} (by_ : Nat) (z : α) (n : Int) : Option (List α) := if 0 ≤ n ∧ n ≤ maxLen ∧ by_ * n.toNat ≤ 281474976710656 then some (List.replicate n.toNat z) else none

section
variable {P : Program} {N : Nat} {env : Env} {H : List HE} {K : VV → List HE → Prop}
variable {dst : Option Tmp} {ty : TypeId} {pos : String} {aft : Array Edge} {g : Option (Nat × Bool)}

theorem VP.shlT {xt yt : TypeId} {x y : Operand} {k k' : IntKind} {n m c : Int} (hx : ev env x = some (.int k n)) (hy : ev env y = some (.int k' m)) (h : V.shl k n m = some c) : VP P N ⟨dst, .binOp .shl xt x y yt, ty, pos, aft, g⟩ env H (.int k c) := by
  intro D w a hs hr hi
  have h1 := rd_int (ev_rd hx hr)
  have h2 := rd_int (ev_rd hy hr)
  unfold V.shl at h
  split at h
  · cases h
  · rename_i hm
    cases h
    refine ⟨_, fun w1 _ => ?_, .int _ _⟩
    simp only [execOp, h1, h2]
    simp [eqGuard, binOp_shl, Op.shift, hm]

/-- A value that no memory turns. -/
def VPH (P : Program) (N : Nat) (o : Oper) (env : Env) (H : List HE) (x : VV) : Prop := ∀ (D : Cx) (w : World) (a : Act), a.tmps.size = N → RE P D w env a.tmps → Inv P D w H → ∃ v, (∀ w', (execOp a.eval o).run P w' = .ok (.value v) w') ∧ Rd P D w v x
theorem VA.pH {ops : Array Oper} {Hm Hp : List HE} {L : Env → List HE → Prop} (i : Nat) {dn : List Nat} {o : Oper} {x : VV} (hi : ops[i]? = some o) (hd : dok N o.dst = true) (hg : o.guard = none) (ht : tkB ops dn i = true) (h : VPH P N o env (Hm ++ Hp) x)
    (k : VA P N ops L (i :: dn) (putd env o.dst x) Hm Hp) : VA P N ops L dn env Hm Hp := by
  intro D w a hs hr hinv KK hk
  unfold tkB at ht
  simp only [Bool.and_eq_true] at ht
  obtain ⟨⟨⟨t1, t2⟩, t3⟩, t4⟩ := ht
  have t4 : dn.length < ops.size := by have := t4; simp [Nat.blt] at this; omega
  obtain ⟨v, y1, y2⟩ := h D w a hs hr hinv
  have e1 : ops.size - dn.length = (ops.size - (i :: dn).length) + 1 := by simp; omega
  rw [e1]
  refine wpAnyH_take hi t1 t2 t3 (fun c a w h => by cases h.1) (.inl ⟨by unfold Region.wanted; rw [hg], fun w' _ => y1 w'⟩) (Prot.refl D w Hp) ?_
  rw [← lst_cons]
  refine k D w (a.put o.dst v) ((put_size ..).trans hs) (hr.putd hs hd y2) hinv KK ?_
  intro a' w' env' H' D' h1 h2 h3 h4 h5 h6
  exact hk a' w' env' H' D' h1 (h2.trans (put_defers ..)) h3 h4 h5 h6
/-- A piece of a row of one's own. -/
theorem VPH.subR {t e : TypeId} {sz : Nat} {x : Operand} {lo hi : Option Operand} {ob : Option Nat} {cap n : Nat} {l h : Option Int} {r : Nat × Nat} (i : Nat) {xs : List VV} (ht : elB P t e sz = true) (hx : ev env x = some (.sl ob n cap)) (hh : H[i]? = some (.row ob e cap xs)) (hn : n = xs.length)
    (hl : evO env lo = some l) (hhi : evO env hi = some h) (hr : rng n l h = some r) : VPH P N ⟨dst, .slice t x lo hi none, ty, pos, aft, g⟩ env H (.sub ob sz r.1 (r.2 - r.1) (cap - r.1)) := fun D w a hs hre hinv => by
  obtain ⟨⟨l0, h0⟩, ⟨h1, h2⟩, rfl⟩ := rng_some hr
  obtain ⟨j, hi1, hi2⟩ := elB_info ht
  have hu := elB_und ht
  have hsz : ∀ w : World, (sizeOf e).run P w = .ok sz w := fun w => by simp [sizeOf, typeInfo, hi1, hi2]
  have hrow := hinv.rel _ (List.mem_of_getElem? hh)
  have hrd := ev_rd hx hre
  generalize hq : a.eval x = v at hrd
  cases ob with
  | none =>
    obtain ⟨e1, e2⟩ := hrow
    subst e1; subst e2
    simp only [List.length_nil] at hn
    subst hn
    cases hrd
    have hb := run_bounds (P := P) (isSlice := true) (len := 0) (cap := 0) (bnd_lo hl hre l0) (bnd_hi hhi hre h0) h1 (by omega) (.inr (by omega))
    have z1 : highN 0 h = 0 := by omega
    have z2 : lowN l = 0 := by omega
    refine ⟨.slice none 0 0, fun w1 => ?_, by rw [z1, z2]; exact .subNil _ _ _ _ _⟩
    simp only [execOp, Instr.sliceAt, Sem.run_bind, run_underlying hu, Result.andThen_ok, hq, Instr.slice, Option.map_none, hb, hsz, Sem.run_pure, z1, z2]
    simp
  | some b =>
    obtain ⟨arr, r1, r2, r3, r4, r5, r6⟩ := hrow
    cases hrd with
    | sl b len cap =>
      have hb := run_bounds (P := P) (isSlice := true) (len := n) (cap := cap) (bnd_lo hl hre l0) (bnd_hi hhi hre h0) h1 (by omega) (.inr (by omega))
      by_cases hcl : cap = lowN l
      · have hh0 : highN n h - lowN l = 0 := by omega
        refine ⟨.slice (some ⟨b, 0, none⟩) (highN n h - lowN l) (cap - lowN l), fun w1 => ?_, by rw [hh0]; exact .subNil _ _ _ _ _⟩
        simp only [execOp, Instr.sliceAt, Sem.run_bind, run_underlying hu, Result.andThen_ok, hq, Instr.slice, Option.map_none, hb, hsz, Sem.run_pure]
        rw [if_pos hcl]
      · refine ⟨.slice (some ⟨b, lowN l * sz, none⟩) (highN n h - lowN l) (cap - lowN l), fun w1 => ?_, .sub _ _ _ _ _⟩
        simp only [execOp, Instr.sliceAt, Sem.run_bind, run_underlying hu, Result.andThen_ok, hq, Instr.slice, Option.map_none, hb, hsz, Sem.run_pure]
        rw [if_neg hcl]; simp [Addr.add_mk]

theorem VPH.subT {α : Type} {f : α → VV} {xs : List α} {t e : TypeId} {sz : Nat} {x : Operand} {lo hi : Option Operand} {ob : Option Nat} {cap : Nat} {l h : Option Int} {r : Nat × Nat} (i : Nat) (ht : elB P t e sz = true) (hx : ev env x = some (.sl ob (xs.map f).length cap)) (hh : H[i]? = some (.row ob e cap (xs.map f)))
    (hl : evO env lo = some l) (hhi : evO env hi = some h) (hr : rng xs.length l h = some r) : VPH P N ⟨dst, .slice t x lo hi none, ty, pos, aft, g⟩ env H (.sub ob sz r.1 (r.2 - r.1) (cap - r.1)) := VPH.subR i ht hx hh rfl hl hhi (by rw [List.length_map]; exact hr)

theorem VP.subT {α : Type} {f : α → VV} {xs : List α} {t e : TypeId} {sz : Nat} {x : Operand} {lo hi : Option Operand} {ob : Option Nat} {cap : Nat} {l h : Option Int} {r : Nat × Nat} (i : Nat) (ht : elB P t e sz = true) (hx : ev env x = some (.sl ob (xs.map f).length cap)) (hh : H[i]? = some (.row ob e cap (xs.map f)))
    (hl : evO env lo = some l) (hhi : evO env hi = some h) (hrg : rng xs.length l h = some r) : VP P N ⟨dst, .slice t x lo hi none, ty, pos, aft, g⟩ env H (.sub ob sz r.1 (r.2 - r.1) (cap - r.1)) := fun D w a hs hr hv => let ⟨v, h1, h2⟩ := VPH.subT i ht hx hh hl hhi hrg D w a hs hr hv; ⟨v, fun w' _ => h1 w', h2⟩

theorem flat_ones {α : Type} {f : α → VV} (h1 : ∀ a, (f a).cells = [f a]) : ∀ l : List α, flat (l.map f) = l.map f
  | [] => rfl
  | a :: l => by rw [List.map_cons, flat_cons, h1, flat_ones h1 l]; rfl

theorem rd_sub {D : Cx} {w : World} {v : Value} {ob : Option Nat} {sz o l c : Nat} (h : Rd P D w v (.sub ob sz o l c)) : (∃ a, v = .slice a 0 c ∧ l = 0) ∨ ∃ b, ob = some b ∧ v = .slice (some ⟨b, o * sz, none⟩) l c := by
  cases h with
  | sub => exact .inr ⟨_, rfl, rfl⟩
  | subNil a => exact .inl ⟨a, rfl, rfl⟩

/-- Elements of a row of one's own go over within it. -/
theorem VO.copyR {α : Type} {f : α → VV} {l : List α} (i : Nat) {t t' e : TypeId} {d s : Operand} {ob : Option Nat} {cap c1 c2 : Nat} {r q : Nat × Nat} (ht : elB P t e 1 = true) (hd : ev env d = some (.sub ob 1 r.1 (r.2 - r.1) c1)) (hs : ev env s = some (.sub ob 1 q.1 (q.2 - q.1) c2))
    (hh : H[i]? = some (.row ob e cap (l.map f))) (hr : r.1 ≤ r.2 ∧ r.2 ≤ l.length) (hq : q.1 ≤ q.2 ∧ q.2 ≤ l.length) (h1 : ∀ a, (f a).cells = [f a] ∧ (f a).one = true)
    (k : K (.int .i64 (cpn r q : Nat)) (H.set i (.row ob e cap ((cpy l r q).map f)))) : VO P N ⟨dst, .call ⟨.builtin .copy, #[d, s], #[t, t']⟩, ty, pos, aft, g⟩ env H K := by
  intro D w a hsz hre hi next Qx hnext
  obtain ⟨j, hi1, hi2⟩ := elB_info ht
  have hu := elB_und ht
  have hc := elB_cells ht
  have hrow := hi.rel _ (List.mem_of_getElem? hh)
  have hd1 := rd_sub (ev_rd hd hre)
  have hs1 := rd_sub (ev_rd hs hre)
  have hinfo : (P.info? e).map (·.size) = some 1 := by rw [hi1]; simp [hi2]
  by_cases h0 : cpn r q = 0
  · have hrun : (execOp a.eval ⟨dst, .call ⟨.builtin .copy, #[d, s], #[t, t']⟩, ty, pos, aft, g⟩).run P w = .ok (.value (goInt 0)) w := by
      have e1 : ∃ x m c, a.eval d = .slice x m c ∧ m = r.2 - r.1 := by
        rcases hd1 with ⟨x, h, h'⟩ | h
        · exact ⟨_, _, _, h, h'.symm⟩
        · exact ⟨_, _, _, h.choose_spec.2, rfl⟩
      have e2 : ∃ x m c, a.eval s = .slice x m c ∧ m = q.2 - q.1 := by
        rcases hs1 with ⟨x, h, h'⟩ | h
        · exact ⟨_, _, _, h, h'.symm⟩
        · exact ⟨_, _, _, h.choose_spec.2, rfl⟩
      obtain ⟨x, m, c, e1, rfl⟩ := e1
      obtain ⟨x', m', c', e2, rfl⟩ := e2
      have := run_copy_none (P := P) w t t' ty e x x' (r.2 - r.1) c (q.2 - q.1) c' hu hinfo h0
      simp [execOp, resolve, invoke, builtin, e1, e2, this]
    refine wp_value_of hrun ?_
    have e3 : cpy l r q = l := by unfold cpy; rw [h0]; simp
    rw [e3, h0] at k
    have e4 : H.set i (.row ob e cap (l.map f)) = H := by
      obtain ⟨hil, he⟩ := List.getElem?_eq_some_iff.1 hh
      rw [← he, List.set_getElem_self]
    rw [e4] at k
    exact hnext _ _ H D w k (.int _ _) hi (Fr.refl D w H)
  · have hn0 : 0 < cpn r q := Nat.pos_of_ne_zero h0
    have hnd : cpn r q ≤ r.2 - r.1 := Nat.min_le_right _ _
    have hns : cpn r q ≤ q.2 - q.1 := Nat.min_le_left _ _
    have e0 : ∃ b, ob = some b := by
      rcases hd1 with ⟨x, h, h'⟩ | ⟨b, h, _⟩
      · omega
      · exact ⟨b, h⟩
    obtain ⟨b, rfl⟩ := e0
    have e1 : a.eval d = .slice (some ⟨b, r.1, none⟩) (r.2 - r.1) c1 := by
      rcases hd1 with ⟨x, h, h'⟩ | ⟨b', hb, h⟩
      · omega
      · cases hb; rw [h, Nat.mul_one]
    have e2 : a.eval s = .slice (some ⟨b, q.1, none⟩) (q.2 - q.1) c2 := by
      rcases hs1 with ⟨x, h, h'⟩ | ⟨b', hb, h⟩
      · omega
      · cases hb; rw [h, Nat.mul_one]
    obtain ⟨arr, r1, r2, r3, r4, r5, r6⟩ := hrow
    have r2 := row_exact hc rfl (show HR P D w (.row (some b) e cap (l.map f)) from ⟨arr, r1, r2, r3, r4, r5, r6⟩) b arr rfl r1
    rw [Nat.mul_one] at r2
    rw [flat_ones (fun a => (h1 a).1)] at r6
    simp only [List.length_map] at r3
    clear hd1 hs1
    obtain ⟨hr1, hr2⟩ := hr
    obtain ⟨hq1, hq2⟩ := hq
    have hcs : ((arr.toList.drop q.1).take (cpn r q)).length = cpn r q := by
      rw [List.length_take, List.length_drop, Array.length_toList]; omega
    have hget : ∀ (p : Nat) (v : Value), ((arr.toList.drop q.1).take (cpn r q))[p]? = some v → p < cpn r q ∧ arr[q.1 + p]? = some v := by
      intro p v hv
      have hp : p < cpn r q := by
        have := (List.getElem?_eq_some_iff.1 hv).1
        omega
      rw [List.getElem?_take, if_pos hp, List.getElem?_drop] at hv
      exact ⟨hp, by simpa using hv⟩
    have hone : ∀ v, v ∈ (arr.toList.drop q.1).take (cpn r q) → v.oneCell' = true := by
      intro v hv
      obtain ⟨p, hp, rfl⟩ := List.getElem_of_mem hv
      obtain ⟨hp1, hp2⟩ := hget p _ (List.getElem?_eq_getElem hp)
      have hx : (l.map f)[q.1 + p]? = some (f (l[q.1 + p]'(by omega))) := by rw [List.getElem?_map, List.getElem?_eq_getElem (by omega)]; rfl
      exact (one_cell (r6 _ _ _ hp2 hx) (h1 _).2).1
    have hrun := run_copy_row (P := P) w t t' ty e b r.1 (r.2 - r.1) c1 ⟨b, q.1, none⟩ (q.2 - q.1) c2 arr e ((arr.toList.drop q.1).take (cpn r q)) hu hinfo r1 hcs
      (fun p v hv => by
        obtain ⟨hp1, hp2⟩ := hget p v hv
        rw [Addr.add_mk]
        simp [World.cell?, r1, hp2]) (by rw [hcs]; omega) hone
    have hrun2 : (execOp a.eval ⟨dst, .call ⟨.builtin .copy, #[d, s], #[t, t']⟩, ty, pos, aft, g⟩).run P w = .ok (.value (goInt (cpn r q))) (w.setRow b (arr.toList.take r.1 ++ (arr.toList.drop q.1).take (cpn r q) ++ arr.toList.drop (r.1 + cpn r q)).toArray) := by
      rw [hcs] at hrun
      simp [execOp, resolve, invoke, builtin, e1, e2, hrun]
    refine wp_value_of hrun2 ?_
    have hD : ∀ b' e', D b' e' → (w.setRow b (arr.toList.take r.1 ++ (arr.toList.drop q.1).take (cpn r q) ++ arr.toList.drop (r.1 + cpn r q)).toArray).heap[b']? = w.heap[b']? := fun b' e' hd =>
      setRow_other w b b' _ (fun e'' => hi.apart b' e' hd (by subst e''; exact mem_blks (List.mem_of_getElem? hh) (by simp [HE.bl])))
    have hlen : (cpy l r q).length = l.length := by
      unfold cpy
      rw [List.length_append, List.length_append, List.length_take, List.length_take, List.length_drop, List.length_drop]
      omega
    have hsz2 : (arr.toList.take r.1 ++ (arr.toList.drop q.1).take (cpn r q) ++ arr.toList.drop (r.1 + cpn r q)).toArray.size = cap * P.cellsOf e := by
      rw [hc, Nat.mul_one, List.size_toArray, List.length_append, List.length_append, hcs, List.length_take, List.length_drop, Array.length_toList]
      omega
    obtain ⟨hI, hF⟩ := hi.turnAt (w' := w.setRow b (arr.toList.take r.1 ++ (arr.toList.drop q.1).take (cpn r q) ++ arr.toList.drop (r.1 + cpn r q)).toArray) (h' := .row (some b) e cap ((cpy l r q).map f)) hh (by simp) rfl rfl rfl
      (fun k _ hk => setRow_other w b k _ (fun e => hk (by subst e; rfl)))
      (fun b' hb' => by simp only [HE.blk, Option.some.injEq] at hb'; subst hb'; exact ⟨.inl rfl, by simpa using (Array.getElem?_eq_some_iff.1 r1).1⟩)
      ⟨_, setRow_heap w b arr _ e (0, 0) r1, .inl hsz2, by rw [List.length_map, hlen]; exact r3, r4, fun x hx => by
          obtain ⟨y, _, rfl⟩ := List.mem_map.1 hx
          rw [hc]
          exact ⟨by rw [(h1 y).1]; rfl, fun z hz => by rw [(h1 y).1] at hz; simp at hz; rw [hz]; exact (h1 y).2⟩,
        fun p u x' hu hx' => by
          rw [flat_ones (fun a => (h1 a).1)] at hx'
          refine Rd.mono ?_ (fun _ _ h => h) (fun _ _ _ h => h) hD
          have hu' : (arr.toList.take r.1 ++ ((arr.toList.drop q.1).take (cpn r q) ++ arr.toList.drop (r.1 + cpn r q)))[p]? = some u := by
            rw [List.append_assoc] at hu
            simpa using hu
          unfold cpy at hx'
          rw [List.map_append, List.map_append] at hx'
          have lt1 : ((l.take r.1).map f).length = (arr.toList.take r.1).length := by
            clear hu hu' hx'
            rw [List.length_map, List.length_take, List.length_take, show arr.toList.length = cap by rw [← r2]; rfl]
            omega
          have lt2 : (((l.drop q.1).take (cpn r q)).map f).length = ((arr.toList.drop q.1).take (cpn r q)).length := by rw [List.length_map, hcs, List.length_take, List.length_drop]; omega
          by_cases p1 : p < (arr.toList.take r.1).length
          · rw [List.getElem?_append_left p1, List.getElem?_take] at hu'
            rw [List.getElem?_append_left (by omega), List.map_take, List.getElem?_take] at hx'
            rw [List.length_take] at p1
            rw [if_pos (by omega)] at hu' hx'
            exact r6 p u x' (by simpa using hu') hx'
          · rw [List.getElem?_append_right (by omega)] at hu'
            rw [List.getElem?_append_right (by omega), lt1] at hx'
            by_cases p2 : p - (arr.toList.take r.1).length < ((arr.toList.drop q.1).take (cpn r q)).length
            · rw [List.getElem?_append_left p2] at hu'
              rw [List.getElem?_append_left (by omega), List.map_take, List.map_drop, List.getElem?_take] at hx'
              obtain ⟨g1, g2⟩ := hget _ _ hu'
              rw [if_pos g1, List.getElem?_drop] at hx'
              exact r6 _ u x' g2 hx'
            · rw [List.getElem?_append_right (by omega)] at hu'
              rw [List.getElem?_append_right (by omega), lt2, List.map_drop] at hx'
              rw [List.getElem?_drop] at hu' hx'
              exact r6 _ u x' (by simpa using hu') hx'⟩
    exact hnext _ _ _ D _ k (.int _ _) hI hF

/-- A list without room behind it. -/
theorem VP.slice3 {α : Type} {f : α → VV} {xs u : List α} {t e : TypeId} {sz : Nat} {x : Operand} {lo : Option Operand} {hi mx : Operand} {k k' : IntKind} {n m : Int} {l : Option Int} (ht : elB P t e sz = true) (hx : ev env x = some (.list e (xs.map f))) (hl : evO env lo = some l) (hh : ev env hi = some (.int k n)) (hm : ev env mx = some (.int k' m)) (hnm : m = n)
    (hs : V.sl xs l (some n) = some u) : VP P N ⟨dst, .slice t x lo (some hi) (some mx), ty, pos, aft, g⟩ env H (.fl e (u.map f)) := fun D w a hsz hr hinv => by
  subst hnm
  obtain ⟨⟨l0, h0⟩, ⟨h1, h2⟩, rfl⟩ := sl_some hs
  simp only [highN] at h1 h2
  have h0 : 0 ≤ m := h0
  obtain ⟨i, hi1, hi2⟩ := elB_info ht
  have hu := elB_und ht
  have hc := elB_cells ht
  have hsz : ∀ w : World, (sizeOf e).run P w = .ok sz w := fun w => by simp [sizeOf, typeInfo, hi1, hi2]
  have hev := rd_int (ev_rd hh hr)
  have hevm := rd_int (ev_rd hm hr)
  have hb : ∀ c, m.toNat ≤ c → ∀ w1 : World, (Instr.sliceBounds true (xs.map f).length c (lo.map a.eval) (some (.int k m)) (some (.int k' m))).run P w1 = .ok (lowN l, m.toNat, m.toNat) w1 := by
    intro c hcc w1
    rcases bnd_lo hl hr l0 with ⟨q1, q2⟩ | ⟨k2, n2, q1, q2, q3⟩
    · simp only [Instr.sliceBounds, q1, Sem.run_bind, Sem.run_pure, Result.andThen_ok, Instr.sliceBound, asIntOf, Option.isSome_some, if_true]
      rw [if_pos ⟨h0, by omega⟩]
      simp only [Sem.run_pure, Result.andThen_ok]
      rw [if_pos ⟨h0, by omega⟩]
      simp [q2]
    · simp only [Instr.sliceBounds, q1, Sem.run_bind, Sem.run_pure, Result.andThen_ok, Instr.sliceBound, asIntOf, Option.isSome_some, if_true]
      rw [if_pos ⟨h0, by omega⟩]
      simp only [Sem.run_pure, Result.andThen_ok]
      rw [if_pos ⟨h0, by omega⟩]
      simp only [Sem.run_pure, Result.andThen_ok]
      rw [if_pos ⟨q2, by omega⟩]
      simp [q3]
  have hlen : (((xs.take m.toNat).drop (lowN l)).map f).length = m.toNat - lowN l := by simp; omega
  rcases rd_list (ev_rd hx hr) with ⟨⟨a0, q1⟩, q2⟩ | ⟨b, off, c, q1, q2, q3, q4, fc, q5, q6⟩
  · have hx0 : xs = [] := by simpa using q2
    subst hx0
    simp only [List.length_nil] at h2
    have hm0 : m.toNat = 0 := by omega
    have hl0 : lowN l = 0 := by omega
    refine ⟨.slice a0 0 0, fun w1 _ => ?_, ?_⟩
    · have := hb 0 (by omega) w1
      simp only [List.map_nil, List.length_nil] at this
      simp only [execOp, Instr.sliceAt, Sem.run_bind, run_underlying hu, Result.andThen_ok, q1, Instr.slice, Option.map_some, hev, hevm, this, hsz, Sem.run_pure]
      rw [if_pos (by omega), hm0, hl0]
    · simp only [highN, List.take_nil, List.drop_nil, List.map_nil]
      exact .fl e [] a0 0 rfl (.listNil e a0)
  · simp only [List.length_map] at q2
    by_cases hcl : m.toNat = lowN l
    · refine ⟨.slice (some ⟨b, off, none⟩) 0 0, fun w1 _ => ?_, ?_⟩
      · simp only [execOp, Instr.sliceAt, Sem.run_bind, run_underlying hu, Result.andThen_ok, q1, Instr.slice, Option.map_some, hev, hevm, hb c (by omega) w1, hsz, Sem.run_pure]
        rw [if_pos hcl]
        simp [hcl]
      · have hnil : ((xs.take (highN xs.length (some m))).drop (lowN l)).map f = [] := List.eq_nil_of_length_eq_zero (by simp only [highN]; rw [hlen]; omega)
        rw [hnil]
        exact .fl e [] _ 0 rfl (.listNil e _)
    · refine ⟨.slice (some ⟨b, off + lowN l * sz, none⟩) (m.toNat - lowN l) (m.toNat - lowN l), fun w1 _ => ?_, ?_⟩
      · simp only [execOp, Instr.sliceAt, Sem.run_bind, run_underlying hu, Result.andThen_ok, q1, Instr.slice, Option.map_some, hev, hevm, hb c (by omega) w1, hsz, Sem.run_pure]
        rw [if_neg hcl]; simp [Addr.add_mk]
      · simp only [highN]
        refine .fl e _ _ _ hlen.symm ?_
        rw [← hlen]
        have hmem : ∀ x, x ∈ ((xs.take m.toNat).drop (lowN l)).map f → x ∈ xs.map f := fun x hx => by
          obtain ⟨y, hy, rfl⟩ := List.mem_map.1 hx
          exact List.mem_map.2 ⟨y, List.mem_of_mem_take (List.mem_of_mem_drop hy), rfl⟩
        have hidx : ∀ (i : Nat) (x : VV), (((xs.take m.toNat).drop (lowN l)).map f)[i]? = some x → (xs.map f)[lowN l + i]? = some x := by
          intro i x hx
          rw [List.map_drop, List.map_take, List.getElem?_drop, List.getElem?_take] at hx
          split at hx
          · exact hx
          · cases hx
        refine .list e _ b (off + lowN l * sz) _ (fun i j => fc (lowN l + i) j) (Nat.le_refl _) (by rw [hlen]; omega) q3 (fun x hx => q4 x (hmem x hx)) ?_ ?_
        · intro i x hx j y hy
          have := q5 _ _ (hidx i x hx) _ _ hy
          rw [hc] at this ⊢
          rw [← this]
          congr 2
          rw [Nat.add_mul]; omega
        · intro i x hx j y hy
          exact q6 _ _ (hidx i x hx) _ _ hy

/-- append onto a list without room: a list again. -/
theorem VO.appFl {α : Type} {f : α → VV} {xs l2 u : List α} {t e : TypeId} {s x : Operand} {sz by_ : Nat} (ht : apB P t e sz by_ = true) (hs : ev env s = some (.fl e (xs.map f))) (hx : ∀ (D : Cx) (w : World) (a : Act), RE P D w env a.tmps → Inv P D w H → SrcV P D w sz (a.eval x) (l2.map f))
    (hap : ap by_ xs l2 = some u) (k : K (.list e (u.map f)) H) : VO P N ⟨dst, .call ⟨.builtin .append, #[s, x], #[t, t]⟩, ty, pos, aft, g⟩ env H K := by
  intro D w a hsz hr hi next Qx hn
  obtain ⟨⟨m1, m2⟩, rfl⟩ := ap_some hap
  have hut := elB_und (apB_el ht)
  have hsc := elB_cells (apB_el ht)
  obtain ⟨i, z, hie, hz, hs1, hb, hzs, hpos⟩ := apB_info ht
  -- what it is, and its cells
  have hfl : ∃ base, a.eval s = .slice base xs.length xs.length ∧ Rd P D w (.slice base xs.length xs.length) (.list e (xs.map f)) := by
    have h0 := ev_rd hs hr
    generalize a.eval s = v at h0 ⊢
    generalize hq : VV.fl e (xs.map f) = q at h0
    cases h0 <;> simp only [VV.fl.injEq, reduceCtorEq] at hq
    · obtain ⟨rfl, h1⟩ := hq
      have : xs = [] := by simpa using h1
      subst this
      exact ⟨none, rfl, .listNil _ none⟩
    · rename_i e' xs' a' n hn' h'
      obtain ⟨rfl, rfl⟩ := hq
      simp only [List.length_map] at hn'
      subst hn'
      exact ⟨a', rfl, h'⟩
  obtain ⟨base, hv, hbase⟩ := hfl
  obtain ⟨news, q1, q2, q3⟩ := src_of hut (hx D w a hr hi)
  rw [List.length_map] at q1
  by_cases h0 : l2 = []
  · subst h0
    have hnw : news = [] := List.eq_nil_of_length_eq_zero (by have hl := q1.newsLen; simpa using hl)
    subst hnw
    have hrun0 := run_append_nothing (P := P) w t t ty e i hut hie base xs.length xs.length (Nat.le_refl _) (a.eval x) (by rw [hs1]; exact q1)
    have hrun : (execOp a.eval ⟨dst, .call ⟨.builtin .append, #[s, x], #[t, t]⟩, ty, pos, aft, g⟩).run P w = .ok (.value (.slice base xs.length xs.length)) w := by
      simp [execOp, resolve, invoke, builtin, hv, hrun0]
    refine wp_value_of hrun ?_
    rw [List.append_nil] at k
    exact hn _ _ H D w k hbase hi (Fr.refl D w H)
  · have hl2 : 0 < l2.length := List.length_pos_iff.2 h0
    have hold := srcList hsc hpos hbase
    obtain ⟨olds, o1, o2, o3⟩ := src_of (P := P) hut hold
    rw [List.length_map] at o1
    have hcellsD := o1.cellsD
    have hrun0 := run_append_grow_src (P := P) (w := w) t t ty e i z hut hie hz base xs.length xs.length olds (by rw [hs1]; simpa using hcellsD) (a.eval x) l2.length news (by rw [hs1]; exact q1) (by omega) (by unfold maxLen at m1; omega) (by rw [hb]; exact growslice_fits (by omega) (by omega))
    have hrun : (execOp a.eval ⟨dst, .call ⟨.builtin .append, #[s, x], #[t, t]⟩, ty, pos, aft, g⟩).run P w = .ok (.value (.slice (some ⟨w.heap.size, 0, none⟩) (xs.length + l2.length) (grownCap w (xs.length + l2.length) xs.length e))) (w.drew.alloc (.cells ((olds ++ news).toArray ++ Builtin.zeroCells z.cells (grownCap w (xs.length + l2.length) xs.length e - (xs.length + l2.length))) e)) := by
      simp [execOp, resolve, invoke, builtin, hv, hrun0]
    refine wp_value_of hrun ?_
    have hge := grownCap_ge w (xs.length + l2.length) xs.length e
    have hle := grownCap_le_maxLen w (xs.length + l2.length) xs.length e m1
    have hel : ∀ y, y ∈ (xs ++ l2).map f → y.el sz := fun y hy => by
      rw [List.map_append] at hy
      rcases List.mem_append.1 hy with h | h
      · exact o2 y h
      · exact q2 y h
    have hol : olds.length = (flat (xs.map f)).length := by rw [flat_length o2, List.length_map]; exact o1.newsLen
    have hnl : news.length = (flat (l2.map f)).length := by rw [flat_length q2, List.length_map]; exact q1.newsLen
    have hfl : (flat ((xs ++ l2).map f)).length = (olds ++ news).length := by rw [List.map_append, flat_append, List.length_append, List.length_append, hol, hnl]
    have hi1 : Inv P D w.drew H := hi.drawn
    have hrow : HR P D (w.drew.alloc (.cells ((olds ++ news).toArray ++ Builtin.zeroCells z.cells (grownCap w (xs.length + l2.length) xs.length e - (xs.length + l2.length))) e)) (.row (some w.drew.heap.size) e (grownCap w (xs.length + l2.length) xs.length e) ((xs ++ l2).map f)) := by
      refine ⟨_, alloc_new w.drew _, .inl ?_, by rw [List.length_map, List.length_append]; exact hge, hle, by rw [hsc]; exact hel, ?_⟩
      · rw [Array.size_append, size_zeroCells, hzs, hsc]
        have h2 : (olds ++ news).toArray.size = (xs.length + l2.length) * sz := by
          rw [List.size_toArray, List.length_append, hol, hnl, flat_length o2, flat_length q2, List.length_map, List.length_map, Nat.add_mul]
        rw [h2, ← Nat.add_mul]
        congr 1
        omega
      · intro j v y hj hy
        have hjl : j < (olds ++ news).length := by rw [← hfl]; exact (List.getElem?_eq_some_iff.1 hy).1
        have hj2 : (olds ++ news)[j]? = some v := by
          rw [Array.getElem?_append_left (by simpa using hjl)] at hj
          simpa using hj
        have hk' : Rd P D w v y := by
          rw [List.map_append, flat_append] at hy
          by_cases p : j < olds.length
          · rw [List.getElem?_append_left p] at hj2
            rw [List.getElem?_append_left (by omega)] at hy
            exact o3 j v y hj2 hy
          · rw [List.getElem?_append_right (by omega)] at hj2
            rw [List.getElem?_append_right (by omega), ← hol] at hy
            exact q3 _ v y hj2 hy
        exact hk'.mono (fun _ _ h => h) (fun _ _ _ h => h) (fun b' e' hd => by
          have := hi.dlt b' e' hd
          exact alloc_old w.drew _ _ this)
    obtain ⟨hI, hF⟩ := hi1.alloc (h := .row (some w.drew.heap.size) e (grownCap w (xs.length + l2.length) xs.length e) ((xs ++ l2).map f)) rfl hrow
    obtain ⟨D', d1, d2, d3, d4⟩ := freeze_core (i := 0) rfl hI
    have hF0 : Fr D w H D w.drew H := ⟨Nat.le_refl _, fun _ _ _ => rfl, fun _ _ h => h, fun _ _ h => .inl h, fun _ h => .inl h, rfl, rfl, rfl, fun _ _ _ h => h, fun _ _ _ h => .inl h, fun _ h => h⟩
    have hrd := d4 (.slice (some ⟨w.drew.heap.size, 0, none⟩) ((xs ++ l2).map f).length (grownCap w (xs.length + l2.length) xs.length e)) (.sl _ _ _)
    rw [List.length_map, List.length_append] at hrd
    exact hn _ _ H D' _ k hrd d2 ((hF0.trans hF).trans d3)

/-- A row of zeros. -/
theorem VO.makeS {α : Type} {f : α → VV} {u : List α} (z0 : α) {t e : TypeId} {x y : Operand} {by_ : Nat} {kd kd' : IntKind} {n n' : Int} {zv : Value} (ht : apB P t e 1 by_ = true) (hz' : (P.info? e).bind (·.zero) = some zv) (hzr : ∀ (D : Cx) (w : World), Rd P D w zv (f z0)) (h1 : ∀ a, (f a).cells = [f a] ∧ (f a).one = true)
    (hx : ev env x = some (.int kd n)) (hy : ev env y = some (.int kd' n')) (hnn : n' = n) (hm : V.mk by_ z0 n = some u) (k : ∀ b, K (.sl (some b) (u.map f).length u.length) (.row (some b) e u.length (u.map f) :: H)) : VO P N ⟨dst, .makeSlice t x y, ty, pos, aft, g⟩ env H K := by
  subst hnn
  intro D w a hsz hr hi next Qx hnx
  unfold V.mk at hm
  split at hm
  · rename_i hc
    obtain ⟨c0, c1, c2⟩ := hc
    cases hm
    obtain ⟨i, z, hie, hz, hs1, hb, hzs, hpos⟩ := apB_info ht
    have hut := elB_und (apB_el ht)
    have hcl := elB_cells (apB_el ht)
    have hzz : z = zv := by simpa [hie, hz] using hz'
    subst hzz
    obtain ⟨m, rfl⟩ : ∃ m : Nat, n' = (m : Int) := ⟨n'.toNat, by omega⟩
    simp only [Int.toNat_natCast] at c2 k
    obtain ⟨w', g1, g2, g3⟩ := run_make_full (P := P) w 0 t e i z 1 hut hie hz hs1 kd kd' m (by rw [hb]; exact c2) (by omega) (Nat.zero_le _)
    have h2 := rd_int (ev_rd hx hr)
    have h3 := rd_int (ev_rd hy hr)
    have hrun : (execOp a.eval ⟨dst, .makeSlice t x y, ty, pos, aft, g⟩).run P w = .ok (.value (.slice (some ⟨w.heap.size, 0, none⟩) m m)) w' := by
      simp [execOp, h2, h3, g1]
    refine wp_value_of hrun ?_
    have hzc : z.cells = #[z] := (one_cell (hzr D w) (h1 z0).2).2.1
    have hD : ∀ b e', D b e' → w'.heap[b]? = w.heap[b]? := fun b e' hd => g3.block b (hi.dlt b e' hd) (by simp)
    obtain ⟨cap, r1, r2, r3⟩ := owns_row (P := P) (D := D) hcl g2 (xs := (List.replicate m z0).map f) (by simp) (fun q hq => by
      obtain ⟨q', _, rfl⟩ := List.mem_map.1 hq
      exact ⟨by rw [(h1 q').1]; rfl, fun p hp => by rw [(h1 q').1] at hp; simp at hp; rw [hp]; exact (h1 q').2⟩) (fun j q p hq hp => by
        rw [flat_ones (fun a => (h1 a).1)] at hp
        have e1 : p = f z0 := by
          rw [List.map_replicate, List.getElem?_replicate] at hp
          split at hp
          · cases hp; rfl
          · cases hp
        subst e1
        have e2 : q = z := by
          unfold madeCells at hq
          rw [hzc] at hq
          simp only [List.size_toArray, List.length_cons, List.length_nil, Nat.zero_add, Nat.mod_one] at hq
          rw [Array.getElem?_toList, Array.getElem?_map] at hq
          simp only [Option.map_eq_some_iff] at hq
          obtain ⟨p, _, hq⟩ := hq
          exact hq.symm
        subst e2
        exact hzr D w')
    have hcap : m = cap := by
      have h0 := r2
      rw [show Value.ownBlock (.slice (some ⟨w.heap.size, 0, none⟩) m m) = some w.heap.size from rfl] at h0
      generalize hv : Value.slice (some ⟨w.heap.size, 0, none⟩) m m = v at h0
      cases h0
      simpa using hv
    subst hcap
    have hbl : Value.ownBlock (.slice (some ⟨w.heap.size, 0, none⟩) m m) = some w.heap.size := rfl
    rw [hbl] at r1 r2
    have hi0 : Inv P D w (.row none e 0 [] :: H) := by
      exact ⟨hi.nodup, hi.lt, hi.apart, hi.dlt, fun q hq => by
        rcases List.mem_cons.1 hq with rfl | hq
        · exact ⟨rfl, rfl⟩
        · exact hi.rel q hq, hi.arn⟩
    obtain ⟨hI, hF⟩ := hi0.turnAt (i := 0) (w' := w') (h' := .row (some w.heap.size) e m ((List.replicate m z0).map f)) rfl g3.size g3.os g3.tape g3.output (fun k' hk hne => g3.block k' hk (by simp))
      (fun b hb => ⟨.inr (by simp only [HE.blk, Option.some.injEq] at hb; omega), r3 b hb⟩) r1
    have kk := k w.heap.size
    simp only [List.length_replicate, List.length_map] at kk
    have r2' : Rd P D w' (.slice (some ⟨w.heap.size, 0, none⟩) m m) (.sl (some w.heap.size) m m) := .sl _ _ _
    exact hnx _ _ _ D w' kk r2' hI ⟨hF.size, hF.prot, hF.dmono, hF.dnew, hF.hnew, hF.os, hF.tape, hF.output, hF.nmono, hF.nnew, hF.anew⟩
  · cases hm
end
end Go.Proofs.YtbgfffdnaijmhaaGreat.V

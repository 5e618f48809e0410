/-
  The logic over plain values: variables that nobody writes any more, pointers held against nil, pointers that are handed back. Own text.
-/
import Derived.Test.YtbgfffdnaijmhaaGreatVLend
namespace Go.Proofs.YtbgfffdnaijmhaaGreat.V
open Go
set_option linter.unusedVariables false

section
variable {P : Program} {N : Nat} {env : Env} {H : List HE} {K : VV → List HE → Prop} {D : Cx} {w : World}
variable {dst : Option Tmp} {ty : TypeId} {pos : String} {aft : Array Edge} {g : Option (Nat × Bool)}

/-- The same value, told otherwise. -/
theorem VP.as {o : Oper} {z z' : VV} (h : VP P N o env H z) (e : z = z') : VP P N o env H z' := e ▸ h

theorem VO.storePf {t : TypeId} {x y : Operand} {b off i : Nat} {bt : TypeId} {cs : List VV} {z : VV} (hx : ev env x = some (.ptr b off)) (hy : ev env y = some z) (hh : H[i]? = some (.box b bt cs))
    (ht : ldB P t 1 false = true) (ho : z.told = true ∧ z.cells = [z]) (hfit' : Nat.ble (off + 1) cs.length = true) (k : K .any (H.set i (.box b bt (splice cs off [z])))) : VO P N ⟨dst, .store t x y, ty, pos, aft, g⟩ env H K :=
  VO.storeP hx hy hh ht ho.1 (by rw [ho.2]; rfl) hfit' (by rw [ho.2]; exact k)
/-- The same memory, in another order, for one operation. -/
theorem VO.shift {o : Oper} {H' : List HE} (hs : Shift P env H env H') (h : VO P N o env H' K) : VO P N o env H K := by
  intro D w a hz hr hi next Qx hn
  obtain ⟨D1, h1, h2, h3⟩ := hs D w a.tmps hr hi
  exact h D1 w a hz h1 h2 next Qx fun v x H1 D2 w2 hx hrd hi2 hf => hn v x H1 D2 w2 hx hrd hi2 (h3.trans hf)
/-- Is it none? -/
def nilB : VV → Option Bool
  | .nilptr => some true
  | .ptr _ _ => some false
  | .eref _ _ => some false
  | .rref _ _ _ _ => some false
  | .aptr _ n _ => some (n == 0)
  | _ => none

theorem nilB_rd {v : Value} {x : VV} {b : Bool} (h : nilB x = some b) (r : Rd P D w v x) : ∃ o, v = .pointer o ∧ o.isNone = b := by
  cases r <;> simp only [nilB, Option.some.injEq, reduceCtorEq] at h
  all_goals subst h
  all_goals exact ⟨_, rfl, rfl⟩

theorem VP.isNil {xt yt : TypeId} {x : Operand} {e : TypeId} {z : VV} {b : Bool} (hu : P.underlying xt = some (.pointer e)) (hx : ev env x = some z) (hn : nilB z = some b) :
    VP P N ⟨dst, .binOp .eql xt x (.const (.pointer none)) yt, ty, pos, aft, g⟩ env H (.bool b) := fun D w a hs hr hi => by
  obtain ⟨o, h1, h2⟩ := nilB_rd hn (ev_rd hx hr)
  have he : ∀ w1 : World, (Op.equal xt (.pointer o) (.pointer none)).run P w1 = .ok b w1 := fun w1 => by
    show (Op.equalIn Op.maxDepth xt (.pointer o) (.pointer none)).run P w1 = _
    have : ∃ n, Op.maxDepth = n + 1 := ⟨Op.maxDepth - 1, by decide⟩
    obtain ⟨n, hn⟩ := this
    rw [hn]
    unfold Op.equalIn
    simp only [Sem.run_bind, run_underlying hu, Result.andThen_ok]
    cases o with
    | none => subst h2; rfl
    | some q => subst h2; rfl
  refine ⟨.bool b, fun w1 _ => ?_, .bool _⟩
  simp only [execOp, h1, show a.eval (.const (.pointer none)) = .pointer none from rfl]
  simp [eqGuard, binOp, he]
theorem VP.isNot {xt yt : TypeId} {x : Operand} {e : TypeId} {z : VV} {b : Bool} (hu : P.underlying xt = some (.pointer e)) (hx : ev env x = some z) (hn : nilB z = some b) :
    VP P N ⟨dst, .binOp .neq xt x (.const (.pointer none)) yt, ty, pos, aft, g⟩ env H (.bool (!b)) := fun D w a hs hr hi => by
  obtain ⟨o, h1, h2⟩ := nilB_rd hn (ev_rd hx hr)
  have he : ∀ w1 : World, (Op.equal xt (.pointer o) (.pointer none)).run P w1 = .ok b w1 := fun w1 => by
    show (Op.equalIn Op.maxDepth xt (.pointer o) (.pointer none)).run P w1 = _
    have : ∃ n, Op.maxDepth = n + 1 := ⟨Op.maxDepth - 1, by decide⟩
    obtain ⟨n, hn⟩ := this
    rw [hn]
    unfold Op.equalIn
    simp only [Sem.run_bind, run_underlying hu, Result.andThen_ok]
    cases o with
    | none => subst h2; rfl
    | some q => subst h2; rfl
  refine ⟨.bool (!b), fun w1 _ => ?_, .bool _⟩
  simp only [execOp, h1, show a.eval (.const (.pointer none)) = .pointer none from rfl]
  simp [eqGuard, binOp, he]

/-- A variable that is written no more: what pointed to it, points to memory that nobody writes. -/
theorem Shift.freezeB (i s : Nat) {b t : Nat} {cs : List VV} (hh : H[i]? = some (.box b t cs)) (hs : get env s = some (.ptr b 0)) : Shift P env H ((s, .eref t cs) :: env) (H.eraseIdx i) := by
  intro D w tmps hr hi
  obtain ⟨arr, h1, h2, h3⟩ := hi.rel _ (List.mem_of_getElem? hh)
  obtain ⟨e1, _⟩ := split_at hh (.row none 0 0 [])
  have hsub : (H.eraseIdx i).Sublist H := List.eraseIdx_sublist ..
  have hb := blks_sub hsub
  have hbm : b ∈ blks H := mem_blks (List.mem_of_getElem? hh) (by simp [HE.bl])
  have hbn : b ∉ blks (H.eraseIdx i) := by
    have nd := hi.nodup
    rw [e1, blks_append, blks_cons] at nd
    rw [eraseIdx_split hh, blks_append]
    simp only [HE.bl, List.singleton_append, List.nodup_append, List.nodup_cons] at nd
    intro hm
    rcases List.mem_append.1 hm with hm | hm
    · exact nd.2.2 b hm b (by simp) rfl
    · exact nd.2.1.1 hm
  let D' : Cx := ⟨fun b' e' => D b' e' ∨ (b' = b ∧ e' = t), D.nm⟩
  have hDD : ∀ b e, D b e → D' b e := fun b e h => .inl h
  have hmono : ∀ {v : Value} {x : VV}, Rd P D w v x → Rd P D' w v x := fun h => h.mono hDD (fun _ _ _ h => h) (fun _ _ _ => rfl)
  refine ⟨D', fun s' x hx => ?_, ⟨hi.nodup.sublist hb, fun b hm => hi.lt b (hb.subset hm), ?_, ?_, ?_, hi.arn.sublist (ars_sub hsub)⟩, ⟨Nat.le_refl _, fun _ _ _ => rfl, hDD, ?_, fun b hm => .inl (hb.subset hm), rfl, rfl, rfl, fun _ _ _ h => h, fun _ _ _ h => .inl h, fun a ha => (ars_sub hsub).subset ha⟩⟩
  · simp only [get] at hx
    split at hx
    · rename_i e'
      have e2 : s' = s := by simpa using e'
      subst e2
      simp only [Option.some.injEq] at hx
      subst hx
      obtain ⟨v, hv, hrd⟩ := hr s' _ hs
      refine ⟨v, hv, ?_⟩
      cases hrd
      have key : ∀ (j : Nat) (y : VV), cs[j]? = some y → arr[j]? = some (arr.getD j undef) := fun j y hy => by
        have hlt : j < arr.size := by rw [h2]; exact (List.getElem?_eq_some_iff.1 hy).1
        simp [Array.getD_eq_getD_getElem?, hlt]
      refine .eref t cs b 0 (fun j => arr.getD j undef) (.inr ⟨rfl, rfl⟩) (fun j y hy => ?_) (fun j y hy => hmono (h3 j _ y (key j y hy) hy))
      rw [cell_of_row w b _ arr t (0, 0) h1, Nat.zero_add]
      exact key j y hy
    · obtain ⟨v, hv, hrd⟩ := hr s' x hx
      exact ⟨v, hv, hmono hrd⟩
  · intro b' e' hd hm
    rcases hd with hd | ⟨rfl, rfl⟩
    · exact hi.apart b' e' hd (hb.subset hm)
    · exact hbn hm
  · intro b' e' hd
    rcases hd with hd | ⟨rfl, rfl⟩
    · exact hi.dlt b' e' hd
    · exact hi.lt b' hbm
  · intro x hx
    exact (hi.rel x (hsub.subset hx)).keep (fun _ _ => rfl) hDD (fun _ _ _ h => h) (fun _ _ _ _ h => h) (fun _ _ _ => rfl)
  · intro b' e' hd
    rcases hd with hd | ⟨rfl, rfl⟩
    · exact .inl hd
    · exact .inr (.inl hbm)

/-- What comes of a pointer that may be none. -/
def po {α β : Type} (o : Option α) (a : β) (f : α → β) : β := match o with | none => a | some x => f x
theorem po_or {α β : Type} {o : Option α} {a : β} {f : α → β} {z : β} (h : po o a f = z) : (o = none ∧ a = z) ∨ ∃ x, o = some x ∧ f x = z := by
  cases o with
  | none => exact .inl ⟨rfl, h⟩
  | some x => exact .inr ⟨x, rfl, h⟩
end
end Go.Proofs.YtbgfffdnaijmhaaGreat.V

/-
  The logic over plain values: arrays compared. Own text.
-/
import Derived.Test.YtcblmlkpcplkfaaGreatVMap
namespace Go.Proofs.YtcblmlkpcplkfaaGreat.V
open Go Go.Lib
set_option linter.unusedVariables false

/-- Whether the elements are alike, one beside the other. -/
def eqAr (s : Shp) (n : Nat) (agg : Bool) (xs ys : List VV) : List Nat → Option Bool
  | [] => some true
  | i :: is =>
    if (Nat.ble n (xs.drop (i * n)).length && Nat.ble n (ys.drop (i * n)).length) = true then
      (eqSh s (whole agg n (xs.drop (i * n))) (whole agg n (ys.drop (i * n)))).bind fun a => (eqAr s n agg xs ys is).bind fun b => some (a && b)
    else none

def shaB (P : Program) (s : Shp) (n : Nat) (agg : Bool) (e len : Nat) (t : TypeId) : Bool := (match P.underlying t with | some (.array l e') => l == len && e' == e | _ => false) && ldB P e n agg && shB P s e && Nat.ble s.ht 9997

section
variable {P : Program} {N : Nat} {env : Env} {H : List HE} {K : VV → List HE → Prop} {D : Nat → TypeId → Prop} {w : World}
variable {dst : Option Tmp} {ty : TypeId} {pos : String} {aft : Array Edge} {g : Option (Nat × Bool)}

def eqArr (d : Nat) (elem : TypeId) (n : Nat) (xs ys : Array Value) : List Nat → Sem Bool
  | [] => pure true
  | i :: is => do
    let a ← part elem xs (i * n)
    let b ← part elem ys (i * n)
    let r ← Op.equalIn d elem a b
    if (!r) = true then pure false else eqArr d elem n xs ys is

theorem run_equalIn_array (w : World) (d : Nat) (t elem : TypeId) (len n : Nat) (xs ys : Array Value) (ht : P.underlying t = some (.array len elem)) (hn : ∀ w, (sizeOf elem).run P w = .ok n w) :
    (Op.equalIn (d + 1) t (.agg xs) (.agg ys)).run P w = (eqArr d elem n xs ys (List.range' 0 len)).run P w := by
  simp only [Op.equalIn, Sem.run_bind, run_underlying ht, Result.andThen_ok, hn]
  rw [Std.Legacy.Range.forIn_eq_forIn_range']
  simp only [Std.Legacy.Range.size]
  have : (len - 0 + 1 - 1) / 1 = len := by simp
  rw [this]
  generalize List.range' 0 len 1 = fs
  clear ht
  induction fs generalizing w with
  | nil => simp [eqArr]
  | cons f fs ih =>
    simp only [List.forIn_cons, eqArr, Sem.run_bind, Sem.run_ite]
    generalize (part elem xs (f * n)).run P w = r1
    cases r1 with
    | ok a w1 =>
      simp only [Result.andThen_ok]
      generalize (part elem ys (f * n)).run P w1 = r2
      cases r2 with
      | ok b w2 =>
        simp only [Result.andThen_ok]
        generalize (Op.equalIn d elem a b).run P w2 = r3
        cases r3 with
        | ok r w3 =>
          cases r
          · simp only [Result.andThen_ok, Bool.not_false, if_true, Sem.run_pure]
          · simp only [Result.andThen_ok, Bool.not_true, Bool.false_eq_true, if_false, Sem.run_pure]
            exact ih w3
        | halt x w3 => simp [Result.andThen]
      | halt x w2 => simp [Result.andThen]
    | halt x w1 => simp [Result.andThen]

theorem eqAr_run {s : Shp} {n d : Nat} {agg : Bool} {elem : TypeId} {cs cs' : Array Value} {xs ys : List VV} (hl : ldB P elem n agg = true) (hs : shB P s elem = true) (hd : s.ht < d)
    (h1 : cs.size = xs.length) (h2 : ∀ (j : Nat) (v : Value) (x : VV), cs[j]? = some v → xs[j]? = some x → Rd P D w v x) (h3 : cs'.size = ys.length) (h4 : ∀ (j : Nat) (v : Value) (x : VV), cs'[j]? = some v → ys[j]? = some x → Rd P D w v x) :
    ∀ (is : List Nat) (r : Bool), eqAr s n agg xs ys is = some r → ∀ w1, (eqArr d elem n cs cs' is).run P w1 = .ok r w1
  | [], r, he, w1 => by simp only [eqAr, Option.some.injEq] at he; subst he; simp [eqArr]
  | i :: is, r, he, w1 => by
    unfold eqAr at he
    split at he
    · rename_i hb
      simp only [Bool.and_eq_true] at hb
      obtain ⟨a, ha, he⟩ := bnd he
      obtain ⟨b, hb', he⟩ := bnd he
      simp only [Option.some.injEq] at he
      subst he
      obtain ⟨v, p1, p2⟩ := run_part hl h1 h2 (Nat.le_of_ble_eq_true hb.1)
      obtain ⟨v', p3, p4⟩ := run_part hl h3 h4 (Nat.le_of_ble_eq_true hb.2)
      have e1 := eqSh_run s elem d v v' _ _ a hs hd p2 p4 ha w1
      have e2 := eqAr_run hl hs hd h1 h2 h3 h4 is b hb' w1
      rw [eqArr]
      simp only [Sem.run_bind, p1, p3, e1, Result.andThen_ok]
      cases a
      · simp
      · simpa using e2
    · cases he

theorem VP.eqA (s : Shp) (n : Nat) (agg : Bool) (e len : Nat) {bo : BinOp} {xt yt : TypeId} {x y : Operand} {xs ys : List VV} {r : Bool} {z : VV} (hs : (shaB P s n agg e len xt && noif P xt) = true) (hx : ev env x = some (.agg xs)) (hy : ev env y = some (.agg ys)) (he : eqAr s n agg xs ys (List.range' 0 len) = some r)
    (hz : V.boolop bo r true = some z) : VP P N ⟨dst, .binOp bo xt x y yt, ty, pos, aft, g⟩ env H z := fun D w a hs' hr hi => by
  simp only [Bool.and_eq_true] at hs
  obtain ⟨h1, h2⟩ := hs
  unfold shaB at h1
  simp only [Bool.and_eq_true] at h1
  obtain ⟨⟨⟨ht, hl⟩, hsh⟩, h3⟩ := h1
  have h3 := Nat.le_of_ble_eq_true h3
  have hty : P.underlying xt = some (.array len e) := by
    split at ht
    · rename_i l e' hu
      simp only [Bool.and_eq_true, beq_iff_eq] at ht
      rw [hu, ht.1, ht.2]
    · cases ht
  have hvx := ev_rd hx hr
  have hvy := ev_rd hy hr
  have key : ∀ w1, (Op.equalIn Op.maxDepth xt (a.eval x) (a.eval y)).run P w1 = .ok r w1 := by
    intro w1
    generalize a.eval x = u at *
    generalize a.eval y = u' at *
    cases hvx with
    | agg cs _ g1 g2 =>
      cases hvy with
      | agg cs' _ g3 g4 =>
        rw [show Op.maxDepth = (Op.maxDepth - 1) + 1 from rfl, run_equalIn_array w1 _ xt e len n cs cs' hty (ldB_size hl)]
        exact eqAr_run hl hsh (by unfold Op.maxDepth; omega) g1 g2 g3 g4 _ r he w1
  have hg : ∀ o w1, (eqGuard o xt x y (a.eval x) (a.eval y)).run P w1 = .ok () w1 := by
    intro o w1
    generalize a.eval x = u at *
    generalize a.eval y = u' at *
    cases hvx with
    | agg cs _ _ _ =>
      cases hvy with
      | agg cs' _ _ _ =>
        unfold noif at h2
        have h2' : P.eqGuardType P.depth xt = false := by simpa using h2
        unfold eqGuard
        cases o <;> simp [h2']
  have hag : ∃ cs, a.eval x = .agg cs := by
    generalize a.eval x = u at *
    cases hvx with
    | agg cs _ _ _ => exact ⟨cs, rfl⟩
  have hag' : ∃ cs, a.eval y = .agg cs := by
    generalize a.eval y = u at *
    cases hvy with
    | agg cs _ _ _ => exact ⟨cs, rfl⟩
  obtain ⟨cs, hcs⟩ := hag
  obtain ⟨cs', hcs'⟩ := hag'
  rw [hcs, hcs'] at key
  have hg' : ∀ o w1, (eqGuard o xt x y (.agg cs) (.agg cs')).run P w1 = .ok () w1 := fun o w1 => by have := hg o w1; rw [hcs, hcs'] at this; exact this
  cases bo <;> simp only [V.boolop, Option.some.injEq, reduceCtorEq] at hz <;> subst hz
  · refine ⟨.bool (r == true), fun w1 _ => ?_, .bool _⟩
    simp only [execOp, hcs, hcs', Sem.run_bind, hg', Result.andThen_ok, binOp, Op.equal]
    simp [key]
  · refine ⟨.bool (!(r == true)), fun w1 _ => ?_, .bool _⟩
    simp only [execOp, hcs, hcs', Sem.run_bind, hg', Result.andThen_ok, binOp, Op.equal]
    simp [key]
end
end Go.Proofs.YtcblmlkpcplkfaaGreat.V

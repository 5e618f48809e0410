/-
  Plain laws: which taints are borne. Own text.
-/
import Derived.Test.YtbkdglcedgiogaaGreatPFit1
namespace Go.Proofs.YtbkdglcedgiogaaGreat.M
open Go Go.Proofs Go.Proofs.YtbkdglcedgiogaaGreat.V
set_option linter.unusedVariables false

def bearB (t : T_api_Toleration) (x : T_api_Taint) : Bool := ((decide (t.Effect = 0) || decide (t.Effect = x.Effect)) && (decide (t.Key = ⟨#[]⟩) || decide (t.Key = x.Key))) && (t.Any || decide (t.Val = x.Val))
theorem tbear_eq (t : T_api_Toleration) (x : T_api_Taint) : taints_Bears t x = some (bearB t x) := by
  unfold taints_Bears bearB
  simp only [seq_eq]
  by_cases a : t.Effect = 0 <;> by_cases b : t.Effect = x.Effect <;> by_cases c : t.Key = ⟨#[]⟩ <;> by_cases d : t.Key = x.Key <;> simp [a, b, c, d]
def borneB (l : List T_api_Toleration) (x : T_api_Taint) : Bool := l.any fun t => bearB t x
theorem borne_eq (l : List T_api_Toleration) (x : T_api_Taint) : taints_borne l x = some (borneB l x) := by
  unfold taints_borne borneB
  have key : ∀ (l : List T_api_Toleration) (k : Nat), taints_borne.l1 x l k = some (if (l.any fun t => bearB t x) = true then Out.ret true else Out.go ()) := by
    intro l
    induction l with
    | nil => intro k; rfl
    | cons t l ih =>
      intro k
      rw [taints_borne.l1, ih, List.any_cons, tbear_eq]
      cases bearB t x <;> rfl
  rw [key]
  cases l.any fun t => bearB t x <;> rfl
theorem Unborne_eq (l : List T_api_Toleration) (ts : List T_api_Taint) (e : Int) (h : ts.length ≤ 1000) : taints_Unborne l ts e = some (ts.filter fun x => (decide (e = 0) || decide (x.Effect = e)) && !borneB l x) := by
  unfold taints_Unborne taints_some_taints_Unborne_1
  have key : ∀ (ts : List T_api_Taint) (k : Nat) (acc : List T_api_Taint), ts.length + acc.length ≤ 1000 → taints_some_taints_Unborne_1.l1 e l ts k acc = some (acc ++ ts.filter fun x => (decide (e = 0) || decide (x.Effect = e)) && !borneB l x) := by
    intro ts
    induction ts with
    | nil => intro k acc _; simp [taints_some_taints_Unborne_1.l1]
    | cons x ts ih =>
      intro k acc h
      rw [List.length_cons] at h
      have hq : taints_Unborne_1 x e l = some ((decide (e = 0) || decide (x.Effect = e)) && !borneB l x) := by
        unfold taints_Unborne_1 taints_of
        rw [borne_eq]
        by_cases a : e = 0 <;> by_cases b : x.Effect = e <;> simp [a, b]
      rw [taints_some_taints_Unborne_1.l1, hq]
      simp only [Option.bind_some]
      cases hc : ((decide (e = 0) || decide (x.Effect = e)) && !borneB l x) with
      | true =>
        rw [if_pos rfl, ap_ok (by omega) (by simp; omega)]
        simp only [Option.bind_some]
        rw [ih (k + 1) _ (by simp; omega)]
        simp only [List.filter_cons, hc, if_true]
        simp
      | false =>
        rw [if_neg (by simp), ih (k + 1) _ (by omega)]
        simp only [List.filter_cons, hc, Bool.false_eq_true, if_false]
  rw [key ts 0 [] (by simpa using h)]
  rfl
end Go.Proofs.YtbkdglcedgiogaaGreat.M

/-
  The law OptionOnce holds of every input: its row, out of the model's plain law. No condition.
-/
import Derived.Test.YtbkdglcedgiogaaGreatRXO
import Derived.Test.YtbkdglcedgiogaaGreatPOp8
import Derived.Test.YtbkdglcedgiogaaGreatVWt
import Derived.Test.YtbkdglcedgiogaaGreatRows
import Derived.WalkKit
import Derived.ProofKit
import Derived.OpenShut
import Derived.ShutString
import Derived.ChangeOld
import Derived.Below
import Derived.SizedLaws
import Derived.Carry
import Derived.JoinedCond
namespace Go.Proofs.YtbkdglcedgiogaaGreat.optionOnce
open Go.ChangeShapes Go.WideShapes Go.ChangeAt Go.RowKit
open Go.ChangeMaps (open_string shut_string)
open Go.Proofs.YtbkdglcedgiogaaGreat.V Go.Proofs.YtbkdglcedgiogaaGreat.M
set_option linter.unusedVariables false
theorem own : ownKnob Tryz.prog.godebug = none := by kernel_rfl
theorem laidOut : laidOutB Tryz.prog = true := by kernel_rfl
theorem one_le {H : Type} (d : DataW H) : 1 ≤ Rows.uptoBulk d := by
  cases d with
  | lit l => cases l <;> simp [Rows.uptoBulk]
  | nil => simp [Rows.uptoBulk]
  | ptr d => simp [Rows.uptoBulk]
  | slice elems spare => simp [Rows.uptoBulk]
  | agg parts => simp [Rows.uptoBulk]
  | iface t d => simp [Rows.uptoBulk]
  | map entries => simp [Rows.uptoBulk]
  | held h => simp [Rows.uptoBulk]
theorem part_le {H : Type} {d : DataW H} {l : List (DataW H)} (h : d ∈ l) : Rows.uptoBulk d ≤ Rows.uptoBulkAll l := by
  induction l with
  | nil => cases h
  | cons x r ih =>
    simp only [Rows.uptoBulkAll]
    cases List.mem_cons.1 h with
    | inl e => subst e; omega
    | inr e => have := ih e; omega
theorem length_le {H : Type} (l : List (DataW H)) : l.length ≤ Rows.uptoBulkAll l := by
  induction l with
  | nil => simp [Rows.uptoBulkAll]
  | cons x r ih => have := one_le x; simp only [Rows.uptoBulkAll, List.length_cons]; omega
theorem field_len {H : Type} {ds : List (DataW H)} {d : DataW H} {n : Nat} (hk : Rows.uptoBulkAll ds ≤ 1048576) (hd : d ∈ ds) (h : n = 0 ∨ ∃ parts elems spare, d = .agg parts ∧ DataW.slice elems spare ∈ parts ∧ elems.length = n) : n ≤ 1048576 := by
  rcases h with h | ⟨parts, elems, spare, rfl, h1, rfl⟩
  · omega
  · have q1 := part_le hd
    have q2 := part_le h1
    have q3 := length_le elems
    simp only [Rows.uptoBulk] at q1 q2
    omega
theorem row_len {H : Type} {ds : List (DataW H)} {d : DataW H} {n : Nat} (hk : Rows.uptoBulkAll ds ≤ 1048576) (hd : d ∈ ds) (h : n = 0 ∨ ∃ elems spare, d = .slice elems spare ∧ elems.length = n) : n ≤ 1048576 := by
  rcases h with h | ⟨elems, spare, rfl, rfl⟩
  · omega
  · have q1 := part_le hd
    have q3 := length_le elems
    simp only [Rows.uptoBulk] at q1
    omega
set_option maxRecDepth 100000 in
theorem contract (H : Type) (enc : TypeId × Value → H) (W : World) (base : Nat) (args : Array Value) (ds gs : List (DataW H)) (before : List MemPlace)
    (hval0 : ∀ (j : Nat) t v, Tryz.f10.params[j]? = some t → args[j]? = some v → Value.okWide Tryz.prog W .any base t v)
    (hW : DataW.Whole enc Tryz.prog Tryz.f10.params.toList Rows.optionOnceSpec.vars false W args.toList ds gs before) (hsz0 : Rows.uptoSmall H (ds ++ gs) = true) :
    Calls Tryz.prog 10 args W fun e W' => ∃ v, e = .returned v ∧ Rows.optionOnceSpec.post enc Tryz.prog Tryz.f10 false true false false W args v W' := by
  have hval : ∀ (j : Nat) t v, Tryz.f10.params[j]? = some t → args[j]? = some v → Value.okWide Tryz.prog W .any base t v := hval0
  have hW' := hW
  obtain ⟨p, q, hA0, hV, rfl, hfz, hnd⟩ := hW
  have hA : DataW.TrodAll enc Tryz.prog W 0 (fun _ => true) true Tryz.f10.params.toList args.toList ds p := hA0
  rw [Tryz.params10] at hA hval
  obtain ⟨v0, vs0, d0, ds0, p0, q0, hargs, rfl, rfl, h0, r0⟩ := trodAll_cons hA
  obtain ⟨rfl, rfl, rfl⟩ := trodAll_nil r0
  obtain rfl : args = #[v0] := by cases args; simp_all
  obtain ⟨rfl, rfl⟩ := trodVars_none hV
  obtain ⟨a0, k0, y0⟩ := (op69 W).argS (sz := 5) (by kernel_rfl) (hval 0 69 v0 rfl rfl) h0
  have hub : Rows.uptoBulkAll [d0] ≤ 1048576 := of_decide_eq_true hsz0
  have w0_0 : a0.Ms.length ≤ 1048576 := by
    have q := field_len hub (by simp) (field_form 0 0 22 (by kernel_rfl) Tryz.underlying22 (hval 0 69 v0 rfl rfl) h0 y0 rfl)
    rwa [List.length_map] at q
  have w0_1 : a0.Bs.length ≤ 1048576 := by
    have q := field_len hub (by simp) (field_form 1 1 23 (by kernel_rfl) Tryz.underlying23 (hval 0 69 v0 rfl rfl) h0 y0 rfl)
    rwa [List.length_map] at q
  have w0_2 : a0.L.length ≤ 1048576 := by
    have q := field_len hub (by simp) (field_form 2 2 24 (by kernel_rfl) Tryz.underlying24 (hval 0 69 v0 rfl rfl) h0 y0 rfl)
    rwa [List.length_map] at q
  have w0_3 : a0.G.length ≤ 1048576 := by
    have q := field_len hub (by simp) (field_form 3 3 67 (by kernel_rfl) Tryz.underlying67 (hval 0 69 v0 rfl rfl) h0 y0 rfl)
    rwa [List.length_map] at q
  have w0_4 : a0.Rooms.length ≤ 1048576 := by
    have q := field_len hub (by simp) (field_form 4 4 41 (by kernel_rfl) Tryz.underlying41 (hval 0 69 v0 rfl rfl) h0 y0 rfl)
    rwa [List.length_map] at q
  clear hA0 hval0 hsz0
  refine (VC.law (law20_OptionOnce_ok a0 true (OptionOnce_true a0 k0 w0_0 w0_1 w0_2 w0_3 w0_4)) rfl (argsA (argsL y0 argsN))).mono fun e W' ⟨he, bel⟩ => ?_
  subst he
  exact ⟨_, rfl, _, _, _, [], _, [], hW', trodAll_mk1 (shut_bool Tryz.underlying4 _), (trodAll_cons_mk (Below.trod laidOut (by kernel_rfl) (of_decide_eq_true (by kernel_rfl)) h0 bel (trod_blk h0)) trodAll_mk0), rfl, bel.frame _, fun h => by cases h⟩
set_option maxRecDepth 100000 in
theorem lifted (os : Os) (started : os.Started) (H : Type) (enc : TypeId × Value → H) (F : Stop.Interp) :
    ReturnsInHanded {} Tryz.checked os 10 .any ((Rows.OpenSpec.upto Rows.optionOnceSpec).pre6 enc Tryz.prog Tryz.f10 Rows.optionOnceUptoRow.domain false) (((Rows.OpenSpec.upto Rows.optionOnceSpec).at F).post enc Tryz.prog Tryz.f10 false true false false) := by
  refine returnsInHanded_of_cond (C := Tryz.checked) (s := (Rows.OpenSpec.upto Rows.optionOnceSpec)) (k := Rows.uptoSmall) rfl own started (by kernel_rfl) Tryz.func10
    (OpenSpec.witness (enc := enc) (C := Tryz.checked) (s := (Rows.OpenSpec.upto Rows.optionOnceSpec)) (k := Rows.uptoSmall) rfl false ⟨#[], #[.agg #[.slice none 0 0, .slice none 0 0, .slice none 0 0, .slice none 0 0, .slice none 0 0]], []⟩ 8 (by kernel_rfl) (by kernel_rfl) (by kernel_rfl)
      (x := ([.agg [.nil, .nil, .nil, .nil, .nil]], [], [])) (by kernel_rfl) rfl (by kernel_rfl)) ?_
  intro W base args ds gs before hval hW _ hk _
  exact contract H enc W base args ds gs before hval hW hk
theorem over : Rows.optionOnceUptoRow.holds Tryz.pinned (Rows.OpenSpec.upto Rows.optionOnceSpec) :=
  OpenClaim.holds_of_cond 10 Tryz.f10 rfl rfl rfl rfl rfl rfl rfl ⟨rfl, rfl, rfl, rfl, rfl⟩ rfl rfl rfl rfl rfl (by kernel_rfl) Tryz.func10 (by kernel_rfl)
    (of_decide_eq_true (by kernel_rfl)) (by unfold Func.isWrapper; first | (rw [if_pos (by decide +kernel)]; kernel_rfl) | (rw [if_neg (by decide +kernel)]; exact ⟨rfl, rfl⟩))
    (fun os started H enc _ F => lifted os started H enc F)
end Go.Proofs.YtbkdglcedgiogaaGreat.optionOnce
namespace Go.Proofs.YtbkdglcedgiogaaGreat
/-- The row, under a short name, for the claim. -/
theorem optionOnce_holds : Rows.OptionOnceUptoSaid := optionOnce.over
end Go.Proofs.YtbkdglcedgiogaaGreat

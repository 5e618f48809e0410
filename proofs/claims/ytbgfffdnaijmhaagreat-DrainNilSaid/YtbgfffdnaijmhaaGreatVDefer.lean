/-
  The logic over plain values: a function that defers a call. Own text.
-/
import Derived.Test.YtbgfffdnaijmhaaGreatVFroz
import Derived.Defers
namespace Go.Proofs.YtbgfffdnaijmhaaGreat.V
open Go
set_option linter.unusedVariables false

section
variable {P : Program} {N : Nat} {env : Env} {H : List HE} {D : Cx} {w : World} {zs : List VV}
variable {ρ β : Type}

/-- A deferred call, told: a function value without arguments. -/
def DR (P : Program) (D : Cx) (w : World) (d : Deferred) (z : VV) : Prop := ∃ fn fa cs, d = { target := .fn fn cs, args := fa } ∧ Rd P D w (.func fn fa cs) z
def DRs (P : Program) (D : Cx) (w : World) : List Deferred → List VV → Prop
  | [], [] => True
  | d :: ds, z :: zs => DR P D w d z ∧ DRs P D w ds zs
  | _, _ => False
theorem DRs.keep {D' : Cx} {w' : World} {H' : List HE} (hI : Inv P D w H) (hF : Fr D w H D' w' H') : ∀ {ds : List Deferred} {zs : List VV}, DRs P D w ds zs → DRs P D' w' ds zs
  | [], [], _ => trivial
  | d :: ds, z :: zs, ⟨⟨fn, fa, cs, h1, h2⟩, h3⟩ => ⟨⟨fn, fa, cs, h1, h2.keep hI hF⟩, DRs.keep hI hF h3⟩
  | [], _ :: _, h => h.elim
  | _ :: _, [], h => h.elim

abbrev PostD := Exit → Env → List HE → List VV → Prop
def EndsD (P : Program) (N : Nat) (D : Cx) (w : World) (H : List HE) (Q : PostD) : Exit → Act → World → Prop :=
  fun e a' w' => a'.tmps.size = N ∧ ∃ env' H' D' zs, Q e env' H' zs ∧ DRs P D' w' a'.defers zs ∧ RE P D' w' env' a'.tmps ∧ Inv P D' w' H' ∧ Fr D w H D' w' H'
def VD (P : Program) (N : Nat) (c : Code) (Q : PostD) (env : Env) (H : List HE) (zs : List VV) : Prop :=
  ∀ D w a, a.tmps.size = N → DRs P D w a.defers zs → RE P D w env a.tmps → Inv P D w H → c.wp P (EndsD P N D w H Q) a w

/-- Code that defers nothing. -/
theorem VD.of {c : Code} {Q : PostD} (h : VW P N c (fun e env' H' => Q e env' H' zs) env H) : VD P N c Q env H zs := fun D w a hs hd hr hi =>
  wp_mono (h D w a hs hr hi) fun _ _ _ ⟨h1, h2, env', H', D', h3, h4, h5, h6⟩ => ⟨h1, env', H', D', zs, h3, by rw [h2]; exact hd.keep hi h6, h4, h5, h6⟩

def PostD.then (K : Env → List HE → List VV → Prop) (Q : PostD) : PostD
  | .normal, env, H, zs => K env H zs
  | e, env, H, zs => Q e env H zs

theorem VD.seq {x y : Code} {Q : PostD} (h : VD P N x (PostD.then (VD P N y Q) Q) env H zs) : VD P N (.seq x y) Q env H zs := by
  intro D w a hs hd hr hi
  refine wp_seq (wp_mono (h D w a hs hd hr hi) ?_)
  rintro e a' w' ⟨h1, env', H', D', zs', h3, h4, h5, h6, h7⟩
  cases e with
  | normal =>
    refine wp_mono (h3 D' w' a' h1 h4 h5 h6) ?_
    rintro e2 a2 w2 ⟨g1, env2, H2, D2, zs2, g3, g4, g5, g6, g7⟩
    exact ⟨g1, env2, H2, D2, zs2, g3, g4, g5, g6, h7.trans g7⟩
  | exit id => exact ⟨h1, env', H', D', zs', h3, h4, h5, h6, h7⟩
  | goto l => exact ⟨h1, env', H', D', zs', h3, h4, h5, h6, h7⟩
  | ret => exact ⟨h1, env', H', D', zs', h3, h4, h5, h6, h7⟩
  | panic c => exact ⟨h1, env', H', D', zs', h3, h4, h5, h6, h7⟩
  | outgrown => exact ⟨h1, env', H', D', zs', h3, h4, h5, h6, h7⟩

theorem VD.if_ {t : Nat} {b : Bool} {x y : Code} {Q : PostD} {m1 m2 : Option β} {z : β} (hm : (if b = true then m1 else m2) = some z) (hb : get env t = some (.bool b)) (h1 : b = true → m1 = some z → VD P N x Q env H zs) (h2 : b = false → m2 = some z → VD P N y Q env H zs) : VD P N (.cond (.tmp t) x y) Q env H zs := by
  intro D w a hs hd hr hi
  obtain ⟨v, hv, hrd⟩ := hr t _ hb
  cases hrd
  refine wp_cond (t := b) (by simp [Act.eval, Array.getD_eq_getD_getElem?, hv]) ?_
  cases b with
  | true => exact h1 rfl (by simpa using hm) D w a hs hd hr hi
  | false => exact h2 rfl (by simpa using hm) D w a hs hd hr hi

/-- A function value is made, and deferred. -/
theorem VD.dfr {id : Nat} {o1 : Oper} {fo : Operand} {ty : TypeId} {pos : String} {aft : Array Edge} {ats : Array TypeId} {Q : PostD} {fn : Fn} {fi ca : List VV} (hd : dok N o1.dst = true) (hg : o1.guard = none)
    (h : VO P N o1 env H fun x H' => ev (putd env o1.dst x) fo = some (.clo fn fi ca) ∧ Q .normal (putd env o1.dst x) H' (.clo fn fi ca :: zs)) :
    VD P N (.region id #[o1, ⟨none, .defer ⟨.value fo, #[], ats⟩, ty, pos, aft, none⟩] false) Q env H zs := by
  intro D w a hs hds hr hi
  refine wp_region_lit (wpList_plain hg fun K' hK => ?_)
  refine h D w a hs hr hi K' _ fun v x H' D' w' ⟨hx1, hx2⟩ hrd hi' hf => hK _ _ ?_
  have hr' := (hr.keep hi hf).putd hs hd hrd
  refine wpList_plain rfl fun K2 hK2 => ?_
  have hfv := ev_rd hx1 hr'
  generalize hv : (a.put o1.dst v).eval fo = u at hfv
  cases hfv with
  | clo fn fa cs _ _ q1 q2 q3 q4 =>
    have hrun : (execOp (a.put o1.dst v).eval ⟨none, .defer ⟨.value fo, #[], ats⟩, ty, pos, aft, none⟩).run P w' = .ok (.defer { target := .fn fn cs, args := fa ++ #[] }) w' := by
      simp only [execOp, resolve, hv, Deferred.ofValue, Sem.run_bind, Sem.run_pure, Result.andThen_ok]
      simp
    unfold Oper.wp
    rw [hrun]
    refine hK2 _ _ (wpList_nil ?_)
    refine ⟨(put_size ..).trans ((put_size ..).trans hs), _, _, D', _, hx2, ⟨⟨fn, fa, cs, by simp, .clo fn fa cs _ _ q1 q2 q3 q4⟩, ?_⟩, ?_, hi', hf⟩
    · show DRs P D' w' (a.put o1.dst v).defers zs
      rw [put_defers]
      exact hds.keep hi hf
    · exact hr'

/-- What a deferred function comes to. -/
def VCd (P : Program) (f : FuncId) (args : List VV) (H : List HE) (R : VV → List HE → Prop) : Prop :=
  ∀ (D : Cx) (w : World) (vs : Array Value) (u : FrameMode), vs.size = args.length → (∀ (j : Nat) (v : Value) (x : VV), vs[j]? = some v → args[j]? = some x → Rd P D w v x) → Inv P D w H →
    CallsD P f vs u w fun e u' w' => u' = u ∧ ∃ v x H' D', e = .returned v ∧ R x H' ∧ Rd P D' w' v x ∧ Inv P D' w' H' ∧ Fr D w H D' w' H'

theorem VCd.run {f : FuncId} {fn : Func} {c : Code} {args : List VV} {rs : List ResultVar} {R : VV → List HE → Prop} (hf : P.funcs[f]? = some fn) (hb : fn.body = some c) (hrs : fn.results = rs.toArray) (hn' : Nat.ble args.length fn.ntmps = true)
    (h : VW P fn.ntmps c (Fin' P rs R) (env0 args) H) : VCd P f args H R := by
  have hn := Nat.le_of_ble_eq_true hn'
  intro D w vs u hs hr hi
  refine callsD_of_wp hf hb (R := fun e w' => ∃ v x H' D', e = .returned v ∧ R x H' ∧ Rd P D' w' v x ∧ Inv P D' w' H' ∧ Fr D w H D' w' H') (wp_mono (h D w _ ?_ ?_ hi) ?_)
  · simp [hs]; omega
  · intro s x hx
    have := get_env0 args 0 s
    simp only [Nat.zero_le, if_true, Nat.sub_zero] at this
    unfold env0 at hx
    rw [this] at hx
    have hlt : s < args.length := (List.getElem?_eq_some_iff.1 hx).1
    have hlv : s < vs.size := by omega
    exact ⟨vs[s], by simp [Array.getElem?_append_left hlv], hr s _ x (Array.getElem?_eq_getElem hlv) hx⟩
  · rintro e a' w' ⟨h1, h2, env', H', D', ⟨he, xs, hres, idx, H'', hp, hR⟩, hre, hi', hf'⟩
    obtain ⟨v, hv, hrd⟩ := results_run hrs hres hre hi'
    obtain ⟨D2, b1, b2, b3⟩ := (Shift.pick (P := P) (env := [(0, resV xs)]) (env' := [(0, resV xs)]) idx hp ⟨rfl, trivial⟩) D' w' #[v] (fun s y hy => by
      simp only [get] at hy
      split at hy
      · rename_i e'
        have e2 : s = 0 := by simpa using e'
        subst e2
        cases hy
        exact ⟨v, rfl, hrd⟩
      · cases hy) hi'
    obtain ⟨v2, hv2, hrd2⟩ := b1 0 (resV xs) rfl
    have : v2 = v := by simpa using hv2.symm
    subst this
    rcases he with rfl | rfl
    · exact ⟨h2, v2, hv, v2, _, H'', D2, rfl, hR, hrd2, b2, hf'.trans b3⟩
    · exact ⟨h2, v2, hv, v2, _, H'', D2, rfl, hR, hrd2, b2, hf'.trans b3⟩

/-- Where a function ends that may have deferred a call. -/
def Gd (P : Program) (rs : List ResultVar) (R : VV → List HE → Prop) (z : VV) (env : Env) (H : List HE) : Prop :=
  ∃ f fi ca, z = .clo (.func f) fi ca ∧ fnB P f = true ∧ ∃ k R', VCd P f (fi ++ ca) (H.take k) R' ∧ ∀ x H1, R' x H1 → ∃ xs, ResA P env (H1 ++ H.drop k) rs xs ∧ ∃ idx H'', pick idx (H1 ++ H.drop k) = some H'' ∧ R (resV xs) H''
def FinD (P : Program) (rs : List ResultVar) (R : VV → List HE → Prop) : PostD
  | e, env, H, [] => Fin' P rs R e env H
  | e, env, H, [z] => (e = .ret ∨ e = .normal) ∧ ∃ H0, Shift P env H env H0 ∧ Gd P rs R z env H0
  | _, _, _, _ => False

theorem VC.runD {f : FuncId} {fn : Func} {c : Code} {args : List VV} {rs : List ResultVar} {R : VV → List HE → Prop} (hf : P.funcs[f]? = some fn) (hb : fn.body = some c) (hrs : fn.results = rs.toArray) (hn' : Nat.ble args.length fn.ntmps = true)
    (h : VD P fn.ntmps c (FinD P rs R) (env0 args) H []) : VC P f args H R := by
  have hn := Nat.le_of_ble_eq_true hn'
  intro D w vs hs hr hi
  have fin : ∀ {v : Value} {xs : List VV} {H' H'' : List HE} {D' : Cx} {w' : World} {idx : List Nat}, Rd P D' w' v (resV xs) → Inv P D' w' H' → Fr D w H D' w' H' → pick idx H' = some H'' → R (resV xs) H'' →
      ∃ v' x H' D', Ending.returned v = .returned v' ∧ R x H' ∧ Rd P D' w' v' x ∧ Inv P D' w' H' ∧ Fr D w H D' w' H' := by
    intro v xs H' H'' D' w' idx hrd hi' hf' hp hR
    obtain ⟨D2, b1, b2, b3⟩ := (Shift.pick (P := P) (env := [(0, resV xs)]) (env' := [(0, resV xs)]) idx hp ⟨rfl, trivial⟩) D' w' #[v] (fun s y hy => by
      simp only [get] at hy
      split at hy
      · rename_i e'
        have e2 : s = 0 := by simpa using e'
        subst e2
        cases hy
        exact ⟨v, rfl, hrd⟩
      · cases hy) hi'
    obtain ⟨v2, hv2, hrd2⟩ := b1 0 (resV xs) rfl
    have : v2 = v := by simpa using hv2.symm
    subst this
    exact ⟨v2, _, H'', D2, rfl, hR, hrd2, b2, hf'.trans b3⟩
  refine calls_of_wp_defers hf hb (wp_mono (h D w _ ?_ trivial ?_ hi) ?_)
  · simp [hs]; omega
  · intro s x hx
    have := get_env0 args 0 s
    simp only [Nat.zero_le, if_true, Nat.sub_zero] at this
    unfold env0 at hx
    rw [this] at hx
    have hlt : s < args.length := (List.getElem?_eq_some_iff.1 hx).1
    have hlv : s < vs.size := by omega
    exact ⟨vs[s], by simp [Array.getElem?_append_left hlv], hr s _ x (Array.getElem?_eq_getElem hlv) hx⟩
  · rintro e a' w' ⟨h1, env', H', D', zs', hQ, hds, hre, hi', hf'⟩
    match zs', hQ with
    | [], ⟨he, xs, hres, idx, H'', hp, hR⟩ =>
      have hd0 : a'.defers = [] := by
        cases hq : a'.defers with
        | nil => rfl
        | cons d ds => rw [hq] at hds; exact hds.elim
      obtain ⟨v, hv, hrd⟩ := results_run hrs hres hre hi'
      have hfin := fin hrd hi' hf' hp hR
      rcases he with rfl | rfl <;> (show Leaves P fn a'.tmps _ a'.defers .returning w'; rw [hd0]; exact ⟨v, hv, hfin⟩)
    | [z], ⟨he, H0, hsh0, f', fi, ca, hz, hfb, k, R', hvc, hrest⟩ =>
      subst hz
      obtain ⟨D0, hre0, hi0, hf0⟩ := hsh0 D' w' a'.tmps hre hi'
      have hds := hds.keep hi' hf0
      have hre := hre0
      have hi' := hi0
      have hf' := hf'.trans hf0
      generalize H0 = H' at *
      generalize D0 = D' at *
      have hd1 : ∃ d, a'.defers = [d] ∧ DR P D' w' d (.clo (.func f') fi ca) := by
        cases hq : a'.defers with
        | nil => rw [hq] at hds; exact hds.elim
        | cons d ds =>
          rw [hq] at hds
          cases ds with
          | nil => exact ⟨d, rfl, hds.1⟩
          | cons d2 ds => exact hds.2.elim
      obtain ⟨d, hd, fn', fa, cs, rfl, hrd⟩ := hd1
      cases hrd with
      | clo _ _ _ _ _ q1 q2 q3 q4 =>
        have hsplit : H' = H'.take k ++ H'.drop k := (List.take_append_drop k H').symm
        have hi2 : Inv P D' w' (H'.take k ++ H'.drop k) := hsplit ▸ hi'
        have hinv : (invoke (.fn (.func f') cs) fa).run P w' = .ok (.enter f' (fa ++ cs)) w' := by
          simp only [invoke]
          exact run_callFunc hfb _ w'
        have hcall := hvc D' w' (fa ++ cs) .returning (by simp only [Array.size_append, List.length_append]; omega) (fun j v x hj hx => by
          by_cases hlt : j < fa.size
          · rw [Array.getElem?_append_left hlt] at hj
            rw [List.getElem?_append_left (by omega)] at hx
            exact q2 j v x hj hx
          · rw [Array.getElem?_append_right (by omega)] at hj
            rw [List.getElem?_append_right (by omega), ← q1] at hx
            exact q4 _ v x hj hx) hi2.sub
        have hleave : Leaves P fn a'.tmps (fun e w' => ∃ v x H' D', e = .returned v ∧ R x H' ∧ Rd P D' w' v x ∧ Inv P D' w' H' ∧ Fr D w H D' w' H') a'.defers .returning w' := by
          rw [hd]
          refine leaves_cons (by simp) hinv (hcall.mono ?_)
          rintro e2 u2 w2 ⟨rfl, v, x, H1, D2, rfl, hR', _, hi3, hf3⟩
          obtain ⟨xs, hres, idx, H'', hp, hR⟩ := hrest x H1 hR'
          obtain ⟨hI, hF⟩ := hi2.frame hi3 hf3
          have hF0 : Fr D' w' H' D2 w2 (H1 ++ H'.drop k) := by
            have := hF
            rw [← hsplit] at this
            exact this
          obtain ⟨v3, hv3, hrd3⟩ := results_run hrs hres (hre.keep hi' hF0) hI
          exact ⟨v3, hv3, fin hrd3 hI (hf'.trans hF0) hp hR⟩
        rcases he with rfl | rfl <;> exact hleave
    | _ :: _ :: _, hQ => exact hQ.elim

theorem VS.runD {f : FuncId} {fn : Func} {c : Code} {args : List VV} {F : Option ρ} {V : ρ → VV} {Hf : ρ → List HE} (rs : List ResultVar) (hf : P.funcs[f]? = some fn) (hb : fn.body = some c) (hrs : fn.results = rs.toArray) (hn' : Nat.ble args.length fn.ntmps = true)
    (h : ∀ r, F = some r → VD P fn.ntmps c (FinD P rs (Po V Hf r)) (env0 args) H []) : VS P f F args H V Hf := fun r hm => VC.runD hf hb hrs hn' (h r hm)
theorem VS1.runD {f : FuncId} {fn : Func} {c : Code} {args : List VV} {F : Option ρ} {V : ρ → Nat → VV} {Hf : ρ → Nat → List HE} (rs : List ResultVar) (hf : P.funcs[f]? = some fn) (hb : fn.body = some c) (hrs : fn.results = rs.toArray) (hn' : Nat.ble args.length fn.ntmps = true)
    (h : ∀ r, F = some r → VD P fn.ntmps c (FinD P rs (Po1 V Hf r)) (env0 args) H []) : VS1 P f F args H V Hf := fun r hm => VC.runD hf hb hrs hn' (h r hm)
theorem VS2.runD {f : FuncId} {fn : Func} {c : Code} {args : List VV} {F : Option ρ} {V : ρ → Option Nat → Nat → VV} {Hf : ρ → Option Nat → Nat → List HE} (rs : List ResultVar) (hf : P.funcs[f]? = some fn) (hb : fn.body = some c) (hrs : fn.results = rs.toArray) (hn' : Nat.ble args.length fn.ntmps = true)
    (h : ∀ r, F = some r → VD P fn.ntmps c (FinD P rs (Po2 V Hf r)) (env0 args) H []) : VS2 P f F args H V Hf := fun r hm => VC.runD hf hb hrs hn' (h r hm)

/-- The deferred function's contract, as it is printed. -/
def VS2d (P : Program) (f : FuncId) {ρ : Type} (F : Option ρ) (args : List VV) (H : List HE) (V : ρ → Option Nat → Nat → VV) (Hf : ρ → Option Nat → Nat → List HE) : Prop := ∀ r, F = some r → VCd P f args H (Po2 V Hf r)
def VSd (P : Program) (f : FuncId) {ρ : Type} (F : Option ρ) (args : List VV) (H : List HE) (V : ρ → VV) (Hf : ρ → List HE) : Prop := ∀ r, F = some r → VCd P f args H (Po V Hf r)
theorem VS2d.run {f : FuncId} {fn : Func} {c : Code} {args : List VV} {F : Option ρ} {V : ρ → Option Nat → Nat → VV} {Hf : ρ → Option Nat → Nat → List HE} (rs : List ResultVar) (hf : P.funcs[f]? = some fn) (hb : fn.body = some c) (hrs : fn.results = rs.toArray) (hn' : Nat.ble args.length fn.ntmps = true)
    (h : ∀ r, F = some r → VW P fn.ntmps c (Fin' P rs (Po2 V Hf r)) (env0 args) H) : VS2d P f F args H V Hf := fun r hm => VCd.run hf hb hrs hn' (h r hm)
theorem VSd.run {f : FuncId} {fn : Func} {c : Code} {args : List VV} {F : Option ρ} {V : ρ → VV} {Hf : ρ → List HE} (rs : List ResultVar) (hf : P.funcs[f]? = some fn) (hb : fn.body = some c) (hrs : fn.results = rs.toArray) (hn' : Nat.ble args.length fn.ntmps = true)
    (h : ∀ r, F = some r → VW P fn.ntmps c (Fin' P rs (Po V Hf r)) (env0 args) H) : VSd P f F args H V Hf := fun r hm => VCd.run hf hb hrs hn' (h r hm)

/-- Two ways, each told to its end. -/
theorem VR.cs {ops : Array Oper} {l : List Oper} {L : Env → List HE → Prop} {b : Bool} {m1 m2 : Option β} {z : β} (hm : (if b = true then m1 else m2) = some z) (t : Nat) (hb : get env t = some (.bool b))
    (h1 : b = true → m1 = some z → VR P N ops l L ((t, .bool true) :: env) H) (h2 : b = false → m2 = some z → VR P N ops l L ((t, .bool false) :: env) H) : VR P N ops l L env H := by
  cases hc : b with
  | true => subst hc; exact VR.known hb rfl (h1 rfl (by simpa using hm))
  | false => subst hc; exact VR.known hb rfl (h2 rfl (by simpa using hm))
theorem VD.df {id : Nat} {o1 : Oper} {fo : Operand} {ty : TypeId} {pos : String} {aft : Array Edge} {ats : Array TypeId} {Q : PostD} {fn : Fn} {fi ca : List VV} (hd : dok N o1.dst = true) (hg : o1.guard = none)
    (hx : VP P N o1 env H (.clo fn fi ca)) (he : ev (putd env o1.dst (.clo fn fi ca)) fo = some (.clo fn fi ca)) (h : Q .normal (putd env o1.dst (.clo fn fi ca)) H (.clo fn fi ca :: zs)) :
    VD P N (.region id #[o1, ⟨none, .defer ⟨.value fo, #[], ats⟩, ty, pos, aft, none⟩] false) Q env H zs := VD.dfr hd hg (VP.vo hx ⟨he, h⟩)

theorem FinD.c0 {rs : List ResultVar} {R : VV → List HE → Prop} {f : FuncId} {fi ca : List VV} {H0 : List HE} {F : Option ρ} {kf : ρ → Option β} {z : β} {V : ρ → VV} {Hf : ρ → List HE} {e : Exit} (he : e = .ret ∨ e = .normal) (hm : F.bind kf = some z) (sh : Shift P env H env H0) (k : Nat) (hf : fnB P f = true) (hc : VSd P f F (fi ++ ca) (H0.take k) V Hf)
    (kk : ∀ r, kf r = some z → Fin' P rs R .normal env (Hf r ++ H0.drop k)) : FinD P rs R e env H [.clo (.func f) fi ca] := by
  obtain ⟨r, a, b⟩ := bnd hm
  exact ⟨he, H0, sh, f, fi, ca, rfl, hf, k, _, hc r a, fun x H1 ⟨e1, e2⟩ => by subst e1; subst e2; exact (kk r b).2⟩
theorem FinD.c2 {rs : List ResultVar} {R : VV → List HE → Prop} {f : FuncId} {fi ca : List VV} {H0 : List HE} {F : Option ρ} {kf : ρ → Option β} {z : β} {V : ρ → Option Nat → Nat → VV} {Hf : ρ → Option Nat → Nat → List HE} {e : Exit} (he : e = .ret ∨ e = .normal) (hm : F.bind kf = some z) (sh : Shift P env H env H0) (k : Nat) (hf : fnB P f = true) (hc : VS2d P f F (fi ++ ca) (H0.take k) V Hf)
    (kk : ∀ r a c, kf r = some z → Fin' P rs R .normal env (Hf r a c ++ H0.drop k)) : FinD P rs R e env H [.clo (.func f) fi ca] := by
  obtain ⟨r, a, b⟩ := bnd hm
  exact ⟨he, H0, sh, f, fi, ca, rfl, hf, k, _, hc r a, fun x H1 ⟨p, q, e1, e2⟩ => by subst e1; subst e2; exact (kk r p q b).2⟩
end
end Go.Proofs.YtbgfffdnaijmhaaGreat.V

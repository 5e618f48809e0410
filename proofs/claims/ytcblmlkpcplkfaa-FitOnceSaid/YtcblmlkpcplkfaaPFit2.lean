/-
  Plain laws: FitOnce, FitReady answer true. Own text.
-/
import Derived.Test.YtcblmlkpcplkfaaPFit1
import Derived.Test.YtcblmlkpcplkfaaR2O
namespace Go.Proofs.Ytcblmlkpcplkfaa.M
open Go Go.Proofs Go.Proofs.Ytcblmlkpcplkfaa.V
set_option linter.unusedVariables false

theorem known12_true : law12_known = some true := by kernel_rfl

theorem right12 (ms : List T_api_Machine) (bs : List T_api_Bound) (p : T_api_Pod) : ∃ b, law12_right ms bs p = some b ∧ (b = true → LY ms bs ∧ LP p ∧ RY ms bs ∧ ref07_RightPod p = some true) := by
  unfold law12_right
  obtain ⟨b, e, f⟩ := ref09_Light_eq ms bs
  rw [e]
  cases b with
  | false => exact ⟨false, rfl, fun h => by cases h⟩
  | true =>
    have hy := f rfl
    simp only [Option.bind_some, if_true]
    obtain ⟨b, e, f⟩ := ref07_LightPod_eq p
    rw [e]
    cases b with
    | false => exact ⟨false, rfl, fun h => by cases h⟩
    | true =>
      have hp := f rfl
      simp only [Option.bind_some, if_true]
      obtain ⟨r, e, f⟩ := Check9_eq hy
      rw [e]
      simp only [Option.bind_some]
      by_cases h : r = 0
      · have hr := f h
        obtain ⟨b, e⟩ := RPod_tot hp
        rw [if_pos (by simp [h]), e]
        exact ⟨b, by cases b <;> rfl, fun hb => ⟨hy, hp, hr, by rw [hb]⟩⟩
      · rw [if_neg (by simpa using h)]; exact ⟨false, rfl, fun h => by cases h⟩

/-! tallies -/
def ok9 (B : Int) (a : Arr9_Int) : Prop := (0 ≤ a.x0 ∧ a.x0 ≤ B) ∧ (0 ≤ a.x1 ∧ a.x1 ≤ B) ∧ (0 ≤ a.x2 ∧ a.x2 ≤ B) ∧ (0 ≤ a.x3 ∧ a.x3 ≤ B) ∧ (0 ≤ a.x4 ∧ a.x4 ≤ B) ∧ (0 ≤ a.x5 ∧ a.x5 ≤ B) ∧ (0 ≤ a.x6 ∧ a.x6 ≤ B) ∧ (0 ≤ a.x7 ∧ a.x7 ≤ B) ∧ (0 ≤ a.x8 ∧ a.x8 ≤ B)
def sum9 (a : Arr9_Int) : Int := a.x0 + a.x1 + a.x2 + a.x3 + a.x4 + a.x5 + a.x6 + a.x7 + a.x8

theorem tally_step {B : Int} {a : Arr9_Int} (nm : ByteArray) {w : Int} (h : ok9 B a) (hB : 0 ≤ B ∧ B ≤ 1000000) (h0 : 0 ≤ w) (h8 : w ≤ 8) :
    ∃ a', fit_Tally_1 nm w a = some a' ∧ ok9 (B + 1) a' ∧ sum9 a' = sum9 a + 1 ∧ a'.x0 = a.x0 + (if w = 0 then 1 else 0) ∧ a'.x1 = a.x1 + (if w = 1 then 1 else 0) := by
  obtain ⟨a0, a1, a2, a3, a4, a5, a6, a7, a8⟩ := a
  unfold ok9 at h
  simp only at h
  have hw : w = 0 ∨ w = 1 ∨ w = 2 ∨ w = 3 ∨ w = 4 ∨ w = 5 ∨ w = 6 ∨ w = 7 ∨ w = 8 := by omega
  rcases hw with rfl | rfl | rfl | rfl | rfl | rfl | rfl | rfl | rfl
  · refine ⟨⟨IntKind.i64.wrap (a0 + 1), a1, a2, a3, a4, a5, a6, a7, a8⟩, rfl, ?_⟩
    rw [w_eq (by omega) (by omega)]
    unfold ok9 sum9; simp only; refine ⟨by omega, by omega, by simp, by simp⟩
  · refine ⟨⟨a0, IntKind.i64.wrap (a1 + 1), a2, a3, a4, a5, a6, a7, a8⟩, rfl, ?_⟩
    rw [w_eq (by omega) (by omega)]
    unfold ok9 sum9; simp only; refine ⟨by omega, by omega, by simp, by simp⟩
  · refine ⟨⟨a0, a1, IntKind.i64.wrap (a2 + 1), a3, a4, a5, a6, a7, a8⟩, rfl, ?_⟩
    rw [w_eq (by omega) (by omega)]
    unfold ok9 sum9; simp only; refine ⟨by omega, by omega, by simp, by simp⟩
  · refine ⟨⟨a0, a1, a2, IntKind.i64.wrap (a3 + 1), a4, a5, a6, a7, a8⟩, rfl, ?_⟩
    rw [w_eq (by omega) (by omega)]
    unfold ok9 sum9; simp only; refine ⟨by omega, by omega, by simp, by simp⟩
  · refine ⟨⟨a0, a1, a2, a3, IntKind.i64.wrap (a4 + 1), a5, a6, a7, a8⟩, rfl, ?_⟩
    rw [w_eq (by omega) (by omega)]
    unfold ok9 sum9; simp only; refine ⟨by omega, by omega, by simp, by simp⟩
  · refine ⟨⟨a0, a1, a2, a3, a4, IntKind.i64.wrap (a5 + 1), a6, a7, a8⟩, rfl, ?_⟩
    rw [w_eq (by omega) (by omega)]
    unfold ok9 sum9; simp only; refine ⟨by omega, by omega, by simp, by simp⟩
  · refine ⟨⟨a0, a1, a2, a3, a4, a5, IntKind.i64.wrap (a6 + 1), a7, a8⟩, rfl, ?_⟩
    rw [w_eq (by omega) (by omega)]
    unfold ok9 sum9; simp only; refine ⟨by omega, by omega, by simp, by simp⟩
  · refine ⟨⟨a0, a1, a2, a3, a4, a5, a6, IntKind.i64.wrap (a7 + 1), a8⟩, rfl, ?_⟩
    rw [w_eq (by omega) (by omega)]
    unfold ok9 sum9; simp only; refine ⟨by omega, by omega, by simp, by simp⟩
  · refine ⟨⟨a0, a1, a2, a3, a4, a5, a6, a7, IntKind.i64.wrap (a8 + 1)⟩, rfl, ?_⟩
    rw [w_eq (by omega) (by omega)]
    unfold ok9 sum9; simp only; refine ⟨by omega, by omega, by simp, by simp⟩

theorem tally_V {ms : List T_api_Machine} {bs : List T_api_Bound} {p : T_api_Pod} (hl : ms.length ≤ 1000) (hn : bs.length ≤ 1000) (hms : ∀ m, m ∈ ms → LM m) (hb : ∀ b, b ∈ bs → LP b.Pod) (hp : LP p) :
    ∃ a, fit_Tally ms bs p = some a ∧ ok9 (ms.length : Int) a ∧ sum9 a = (ms.length : Int) ∧ a.x0 = ((ms.filter fun m => decide (whyV ms bs p m = 0)).length : Int) ∧ a.x1 = ((ms.filter fun m => decide (whyV ms bs p m = 1)).length : Int) := by
  unfold fit_Tally fit_each_fit_asker_why_fit_Tally_1
  have key : ∀ (l : List T_api_Machine) (k : Nat) (a : Arr9_Int) (B : Int), (∀ m, m ∈ l → m ∈ ms) → 0 ≤ B → B + (l.length : Int) ≤ 1000 → ok9 B a → ∃ a', fit_each_fit_asker_why_fit_Tally_1.l1 ⟨ms, bs, p⟩ l k a = some a' ∧ ok9 (B + (l.length : Int)) a' ∧ sum9 a' = sum9 a + (l.length : Int) ∧
      a'.x0 = a.x0 + ((l.filter fun m => decide (whyV ms bs p m = 0)).length : Int) ∧ a'.x1 = a.x1 + ((l.filter fun m => decide (whyV ms bs p m = 1)).length : Int) := by
    intro l
    induction l with
    | nil => intro k a B _ h0 h ha; exact ⟨a, rfl, by simpa using ha, by simp, by simp, by simp⟩
    | cons x l ih =>
      intro k a B hx h0 h ha
      rw [List.length_cons] at h
      have hxm := hx x (List.mem_cons_self ..)
      rw [fit_each_fit_asker_why_fit_Tally_1.l1, asker_V hl hn hxm (hms x hxm) hp hb]
      simp only [Option.bind_some]
      obtain ⟨r1, r2⟩ := whyV_range (ms := ms) (bs := bs) (hms x hxm) hp
      obtain ⟨a', e1, e2, e3, e4, e5⟩ := tally_step x.Name ha ⟨h0, by omega⟩ r1 r2
      rw [e1]
      simp only [Option.bind_some]
      obtain ⟨a'', f1, f2, f3, f4, f5⟩ := ih (k + 1) a' (B + 1) (fun m hm => hx m (List.mem_cons_of_mem _ hm)) (by omega) (by omega) e2
      refine ⟨a'', f1, ?_, ?_, ?_, ?_⟩
      · rw [List.length_cons, show B + ((l.length + 1 : Nat) : Int) = B + 1 + (l.length : Int) by omega]; exact f2
      · rw [List.length_cons]; omega
      · rw [f4, e4]
        by_cases e : whyV ms bs p x = 0
        · rw [if_pos e, List.filter_cons_of_pos (by simpa using e), List.length_cons]; omega
        · rw [if_neg e, List.filter_cons_of_neg (by simpa using e)]; omega
      · rw [f5, e5]
        by_cases e : whyV ms bs p x = 1
        · rw [if_pos e, List.filter_cons_of_pos (by simpa using e), List.length_cons]; omega
        · rw [if_neg e, List.filter_cons_of_neg (by simpa using e)]; omega
  obtain ⟨a, h1, h2, h3, h4, h5⟩ := key ms 0 ⟨0, 0, 0, 0, 0, 0, 0, 0, 0⟩ 0 (fun _ h => h) (Int.le_refl 0) (by omega) (by unfold ok9; simp)
  refine ⟨a, by rw [h1]; rfl, by simpa using h2, by rw [h3]; simp [sum9], by simpa using h4, by simpa using h5⟩

theorem sum_l1 {a : Arr9_Int} {B : Int} (h : ok9 B a) (hB : B ≤ 1000) : law12_FitOnce.l1 a FU 0 0 = some (sum9 a) := by
  obtain ⟨n, hn⟩ : ∃ n, FU = n + 10 := ⟨1152921504606846966, rfl⟩
  obtain ⟨a0, a1, a2, a3, a4, a5, a6, a7, a8⟩ := a
  unfold ok9 at h
  simp only at h
  rw [hn]
  have e : law12_FitOnce.l1 ⟨a0, a1, a2, a3, a4, a5, a6, a7, a8⟩ (n + 10) 0 0 = some (IntKind.i64.wrap (IntKind.i64.wrap (IntKind.i64.wrap (IntKind.i64.wrap (IntKind.i64.wrap (IntKind.i64.wrap (IntKind.i64.wrap (IntKind.i64.wrap (IntKind.i64.wrap (0 + a0) + a1) + a2) + a3) + a4) + a5) + a6) + a7) + a8)) := rfl
  rw [e, w_eq (x := 0 + a0) (by omega) (by omega), w_eq (x := 0 + a0 + a1) (by omega) (by omega), w_eq (x := 0 + a0 + a1 + a2) (by omega) (by omega), w_eq (x := 0 + a0 + a1 + a2 + a3) (by omega) (by omega), w_eq (x := 0 + a0 + a1 + a2 + a3 + a4) (by omega) (by omega), w_eq (x := 0 + a0 + a1 + a2 + a3 + a4 + a5) (by omega) (by omega), w_eq (x := 0 + a0 + a1 + a2 + a3 + a4 + a5 + a6) (by omega) (by omega), w_eq (x := 0 + a0 + a1 + a2 + a3 + a4 + a5 + a6 + a7) (by omega) (by omega), w_eq (x := 0 + a0 + a1 + a2 + a3 + a4 + a5 + a6 + a7 + a8) (by omega) (by omega)]
  unfold sum9
  simp only
  congr 1
  omega

theorem FitOnce_true (ms : List T_api_Machine) (bs : List T_api_Bound) (p : T_api_Pod) (_ : ms.length ≤ maxLen ∧ ∀ a ∈ ms, T_api_Machine.ok a) (_ : bs.length ≤ maxLen ∧ ∀ a ∈ bs, T_api_Bound.ok a) (_ : T_api_Pod.ok p) : law12_FitOnce ms bs p = some true := by
  unfold law12_FitOnce
  obtain ⟨b, hb, hr⟩ := right12 ms bs p
  rw [hb, known12_true]
  cases b with
  | false => rfl
  | true =>
    obtain ⟨hy, hp, hr, hrp⟩ := hr rfl
    have hnm := hy.nm
    have hnb := hy.nb
    simp only [Option.bind_some, Bool.not_true, Bool.false_eq_true, if_false]
    obtain ⟨a, h1, h2, h3, h4, h5⟩ := tally_V (p := p) (show ms.length ≤ 1000 by omega) (show bs.length ≤ 1000 by omega) (ms_mem hy) (bs_mem hy) hp
    rw [h1]
    simp only [Option.bind_some]
    rw [sum_l1 h2 (by omega), where_V (show ms.length ≤ 1000 by omega) (show bs.length ≤ 1000 by omega) (ms_mem hy) (bs_mem hy) hp]
    simp only [Option.bind_some]
    have hlen : ((ms.filter fun m => decide (whyV ms bs p m = 0)).map (·.Name)).length ≤ ms.length := by
      rw [List.length_map]; exact List.length_filter_le _ _
    have hloop := idxAll (F := fun n i => law12_FitOnce.l2 ms bs p ((ms.filter fun m => decide (whyV ms bs p m = 0)).map (·.Name)) n i) (len := ((ms.filter fun m => decide (whyV ms bs p m = 0)).map (·.Name)).length) (r0 := false) (fun _ => true) (by omega) (fun n k hk => by
      rw [law12_FitOnce.l2, if_pos (dlt hk), glk hk, wk1 (by omega)]
      simp only [Option.bind_some, List.getElem_map]
      have hk' : k < (ms.filter fun m => decide (whyV ms bs p m = 0)).length := by simpa using hk
      have hm : (ms.filter fun m => decide (whyV ms bs p m = 0))[k] ∈ ms.filter fun m => decide (whyV ms bs p m = 0) := List.getElem_mem _
      rw [List.mem_filter] at hm
      rw [why_at (by omega) (by omega) (ms_mem hy) (bs_mem hy) hp hr.mu hm.1]
      have h0 : whyV ms bs p (ms.filter fun m => decide (whyV ms bs p m = 0))[k] = 0 := by simpa using hm.2
      rw [h0]
      rfl) (fun n => by rw [law12_FitOnce.l2, if_neg dnl])
    rw [show law12_FitOnce.l2 ms bs p ((ms.filter fun m => decide (whyV ms bs p m = 0)).map (·.Name)) FU 0 = _ from hloop, if_pos (allN_iff.2 fun _ _ => rfl)]
    simp only [Option.bind_some, Out.on]
    rw [if_pos (by rw [h3, h4, List.length_map]; simp)]
    rfl

def downM (m : T_api_Machine) : T_api_Machine := ⟨m.Name, m.Group, m.Has, m.Labels, m.Taints, false⟩
theorem FitReady_true (ms : List T_api_Machine) (bs : List T_api_Bound) (p : T_api_Pod) (_ : ms.length ≤ maxLen ∧ ∀ a ∈ ms, T_api_Machine.ok a) (_ : bs.length ≤ maxLen ∧ ∀ a ∈ bs, T_api_Bound.ok a) (_ : T_api_Pod.ok p) : law12_FitReady ms bs p = some true := by
  unfold law12_FitReady
  obtain ⟨b, hb, hr⟩ := right12 ms bs p
  rw [hb, known12_true]
  cases b with
  | false => rfl
  | true =>
    obtain ⟨hy, hp, hr, hrp⟩ := hr rfl
    have hnm := hy.nm
    have hnb := hy.nb
    simp only [Option.bind_some, Bool.not_true, Bool.false_eq_true, if_false]
    have hloop : ∀ (m k f : Nat), ms.length - k ≤ m → m < f → k ≤ ms.length → law12_FitReady.l1 ms bs p f ((ms.take k).map downM) (k : Int) = some (Out.go (ms.map downM)) := by
      intro m
      induction m with
      | zero =>
        intro k f h1 h2 h3
        obtain ⟨f, rfl⟩ : ∃ q, f = q + 1 := ⟨f - 1, by omega⟩
        rw [law12_FitReady.l1, if_neg (by simp; omega), List.take_of_length_le (by omega)]
      | succ m ih =>
        intro k f h1 h2 h3
        obtain ⟨f, rfl⟩ : ∃ q, f = q + 1 := ⟨f - 1, by omega⟩
        by_cases hk : k < ms.length
        · rw [law12_FitReady.l1, if_pos (dlt hk), glk hk, wk1 (by omega)]
          simp only [Option.bind_some]
          rw [ap_ok (by omega) (by simp; omega)]
          have hnext := ih (k + 1) f (by omega) (by omega) (by omega)
          have htake : (ms.take k).map downM ++ [downM ms[k]] = (ms.take (k + 1)).map downM := by rw [List.take_succ_eq_append_getElem hk, List.map_append]; rfl
          simp only [Option.bind_some]
          rw [show (⟨ms[k].Name, ms[k].Group, ms[k].Has, ms[k].Labels, ms[k].Taints, false⟩ : T_api_Machine) = downM ms[k] from rfl, htake, hnext]
          by_cases hmem : ms[k].Has.Mem < 1125899906842624
          · rw [if_pos (by simpa using hmem)]
            have hp' : LP (⟨p.Name, (⟨p.Need.Cpu, (1125899906842624 : Int), p.Need.Disk, p.Need.Pods, p.Need.Dev⟩ : T_api_Res), p.Labels, p.Select, p.Terms, p.Bears, p.Ports, p.Apart, p.Wide, p.Spread, p.Skew, p.Rank, p.Owner, p.Daemon, p.Pinned, p.Local⟩ : T_api_Pod) :=
              ⟨hp.name, hp.owner, hp.nterms, hp.nports, hp.labels, hp.select, hp.apart, hp.spread, hp.bears, hp.terms⟩
            rw [why_at (by omega) (by omega) (ms_mem hy) (bs_mem hy) hp' hr.mu (List.getElem_mem hk)]
            simp only [Option.bind_some]
            rw [if_neg]
            simp only [beq_iff_eq]
            have hs : suitV ms[k] bs (⟨p.Name, (⟨p.Need.Cpu, (1125899906842624 : Int), p.Need.Disk, p.Need.Pods, p.Need.Dev⟩ : T_api_Res), p.Labels, p.Select, p.Terms, p.Bears, p.Ports, p.Apart, p.Wide, p.Spread, p.Skew, p.Rank, p.Owner, p.Daemon, p.Pinned, p.Local⟩ : T_api_Pod) ≠ 0 := by
              unfold suitV
              split
              · intro h0
                obtain ⟨_, _, h3, _⟩ := roomS_zero.1 h0
                rw [rle_iff] at h3
                have h3 := h3.2.1
                simp only at h3
                unfold leftS at h3
                split at h3
                · rename_i hc
                  have hu := (resOK_iff _).1 (usedS_ok _ hc.1).1
                  have hm := (resOK_iff _).1 hc.2
                  simp only [rsub, rmin] at h3
                  omega
                · simp only [r0] at h3
                  omega
              · assumption
            unfold whyV
            rw [if_neg hs]
            exact hs
          · rw [if_neg (by simpa using hmem)]; rfl
        · rw [law12_FitReady.l1, if_neg (by simp; omega), List.take_of_length_le (by omega)]
    have h0 := hloop ms.length 0 FU (by omega) (by unfold FU; omega) (Nat.zero_le _)
    have h0' : law12_FitReady.l1 ms bs p FU [] 0 = some (Out.go (ms.map downM)) := h0
    rw [h0']
    simp only [Option.bind_some, Out.on]
    have hdl : (ms.map downM).length ≤ 1000 := by simp; omega
    have hdm : ∀ m, m ∈ ms.map downM → LM m := fun m h => by
      obtain ⟨x, hx, rfl⟩ := List.mem_map.1 h
      obtain ⟨n1, n2, n3, n4⟩ := ms_mem hy x hx
      exact ⟨n1, n2, n3, n4⟩
    have h1 : ∀ m, m ∈ ms.map downM → whyV (ms.map downM) bs p m = 1 := fun m h => by
      obtain ⟨x, hx, rfl⟩ := List.mem_map.1 h
      have : placeV (downM x) p = 1 := rfl
      unfold whyV suitV
      rw [this]
      rfl
    obtain ⟨a, t1, _, _, _, t5⟩ := tally_V (p := p) hdl (show bs.length ≤ 1000 by omega) hdm (bs_mem hy) hp
    rw [t1, where_V hdl (show bs.length ≤ 1000 by omega) hdm (bs_mem hy) hp]
    have f0 : ((ms.map downM).filter fun m => decide (whyV (ms.map downM) bs p m = 0)) = [] := List.filter_eq_nil_iff.2 fun m hm => by rw [h1 m hm]; decide
    have f1 : ((ms.map downM).filter fun m => decide (whyV (ms.map downM) bs p m = 1)) = ms.map downM := List.filter_eq_self.2 fun m hm => by rw [h1 m hm]; decide
    rw [f0]
    rw [f1, List.length_map] at t5
    have hw := where_V (ms := []) (bs := []) (p := p) (by simp) (by simp) (fun m h => by cases h) (fun m h => by cases h) hp
    rw [hw]
    simp [t5]
end Go.Proofs.Ytcblmlkpcplkfaa.M

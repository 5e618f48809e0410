/-
  Printed by a program of this session out of the loaded functions: models and their proofs. Own text.
-/
import Derived.Test.YtbgfffdnaijmhaaGreatPWk9
/-
  The plain law of WorldKeeps: whatever is done in a world, no pod is lost but those dropped, none comes from nowhere. No program in sight.
-/
namespace Go.Proofs.YtbgfffdnaijmhaaGreat.M
open Go Go.Proofs Go.Proofs.YtbgfffdnaijmhaaGreat.V
open Go.IntKind (i64)
set_option linter.unusedVariables false
set_option maxRecDepth 100000
theorem Machines_ok {G : List T_api_Group} {BB : Nat} {w : T_world_World} {want : List ByteArray} (h : WI G BB w want) (c : T_cloud_Cloud) : world_World_Machines_x w c = some w.ms := by
  have hml := h.ml
  unfold world_World_Machines_x world_World_there_x
  obtain ⟨s, h1, h2⟩ := idxInv (len := w.ms.length) (F := fun f s i => world_World_Machines_x.l1 w f s i) (fun k s => s = w.ms.take k) (by omega)
    (fun f s k hk i1 => by
      subst i1
      rw [world_World_Machines_x.l1, if_pos (dlt hk), glk hk]
      simp only [Option.bind_some]
      rw [machine_eq (h.mg _ (List.getElem_mem hk)).lm]
      simp only [Option.bind_some]
      rw [ap_ok (by omega) (by simp; omega)]
      simp only [Option.bind_some]
      rw [wk1 (by omega)]
      exact ⟨_, rfl, (List.take_succ_eq_append_getElem hk).symm⟩)
    (fun f s => by rw [world_World_Machines_x.l1, if_neg dnl]) (s := []) (by simp)
  rw [List.take_length] at h2
  subst h2
  have h1' : world_World_Machines_x.l1 w FU [] 0 = some w.ms := h1
  simp only [Option.bind_some]
  rw [h1']
  rfl
theorem Bounds_ok {G : List T_api_Group} {BB : Nat} {w : T_world_World} {want : List ByteArray} (h : WI G BB w want) (hB : BB ≤ 400) (c : T_cloud_Cloud) : world_World_Bounds_x w c = some w.bs := by
  have hbl := h.bl
  unfold world_World_Bounds_x world_World_there_x
  obtain ⟨s, h1, h2⟩ := idxInv (len := w.bs.length) (F := fun f s i => world_World_Bounds_x.l1 w f s i) (fun k s => s = w.bs.take k) (by omega)
    (fun f s k hk i1 => by
      subst i1
      rw [world_World_Bounds_x.l1, if_pos (dlt hk), glk hk]
      simp only [Option.bind_some]
      rw [pod_eq (h.bp _ (List.getElem_mem hk)).1]
      simp only [Option.bind_some]
      rw [ap_ok (by omega) (by simp; omega)]
      simp only [Option.bind_some]
      rw [wk1 (by omega)]
      exact ⟨_, rfl, (List.take_succ_eq_append_getElem hk).symm⟩)
    (fun f s => by rw [world_World_Bounds_x.l1, if_neg dnl]) (s := []) (by simp)
  rw [List.take_length] at h2
  subst h2
  have h1' : world_World_Bounds_x.l1 w FU [] 0 = some w.bs := h1
  simp only [Option.bind_some]
  rw [h1']
  rfl
theorem OpLight_eq (o : T_law18_Op) : ∃ b, law18_Op_Light o = some b ∧ (b = true → LP o.P_) := by
  unfold law18_Op_Light
  obtain ⟨b1, e1, f1⟩ := ref07_LightPod_eq o.P_
  obtain ⟨b2, e2, _⟩ := ref06_Light_eq [] [o.X]
  rw [e1, e2]
  simp only [Option.bind_some]
  by_cases h : (b1 && decide ((o.Name.size : Int) ≤ 300)) = true
  · rw [if_pos h]
    simp only [Bool.and_eq_true] at h
    exact ⟨b2, rfl, fun _ => f1 h.1⟩
  · rw [if_neg h]; exact ⟨false, rfl, fun q => by cases q⟩
theorem keep2 (want : List ByteArray) (x : T_law18_Op) (hl : want.length ≤ 1000) : law18_WorldKeeps.l2 want x FU [] 0 = some (want.filter fun s => !decide (s = x.Name)) := by
  obtain ⟨s, h1, h2⟩ := idxInv (len := want.length) (F := fun f s i => law18_WorldKeeps.l2 want x f s i) (fun k s => s = (want.take k).filter fun s => !decide (s = x.Name)) (by omega)
    (fun f s k hk i1 => by
      subst i1
      have ht : want.take (k + 1) = want.take k ++ [want[k]] := List.take_succ_eq_append_getElem hk
      have l1 : ((want.take k).filter fun s => !decide (s = x.Name)).length ≤ k := by refine Nat.le_trans (List.length_filter_le _ _) ?_; rw [List.length_take]; omega
      rw [law18_WorldKeeps.l2, if_pos (dlt hk), glk hk]
      simp only [Option.bind_some, seq_eq]
      by_cases q : want[k] = x.Name
      · rw [if_neg (by simp [q]), wk1 (by omega)]
        refine ⟨_, rfl, ?_⟩
        rw [ht, List.filter_append]
        simp [q]
      · rw [if_pos (by simp [q]), ap_ok (by omega) (by simp only [List.length_cons, List.length_nil]; omega)]
        simp only [Option.bind_some]
        rw [wk1 (by omega)]
        refine ⟨_, rfl, ?_⟩
        rw [ht, List.filter_append]
        simp [q])
    (fun f s => by rw [law18_WorldKeeps.l2, if_neg dnl]) (s := []) (by simp)
  rw [List.take_length] at h2
  rw [← h2]
  exact h1
abbrev KS := T_world_World × T_cloud_Cloud × List ByteArray × List T_cloud_pool × List T_cloud_inst
structure KI (G : List T_api_Group) (k : Nat) (s : KS) : Prop where
  wi : WI G k s.1 s.2.2.1
  ci : CI G (120 + 200 * k) (120 + 200 * k) s.2.1 s.2.2.2.1 s.2.2.2.2
  len : s.2.2.1.length ≤ k
theorem WI.mono {G : List T_api_Group} {BB BB' : Nat} {w : T_world_World} {want : List ByteArray} (h : WI G BB w want) (hb : BB ≤ BB') : WI G BB' w want :=
  ⟨h.grp, h.held, h.bud, h.ml, h.mg, h.mnd, by have := h.bl; omega, h.bp, h.bnd, h.on, h.want⟩
theorem KI.next {G : List T_api_Group} {k : Nat} {s : KS} (h : KI G k s) : KI G (k + 1) s :=
  ⟨h.wi.mono (by omega), h.ci.mono (by omega) (by omega), by have := h.len; omega⟩
theorem keep_loop {c : T_law18_Case} {G : List T_api_Group} (hr : GR G) (hsm : smax G ≤ 200) {s : KS} (h0 : KI G 0 s) : ∃ s', law18_WorldKeeps.l1 c FU s.1 s.2.1 s.2.2.1 0 s.2.2.2.1 s.2.2.2.2 = some s' ∧ KI G (min c.L.length 30) s' := by
  refine idxInv (σ := KS) (len := min c.L.length 30) (F := fun f s i => law18_WorldKeeps.l1 c f s.1 s.2.1 s.2.2.1 i s.2.2.2.1 s.2.2.2.2) (fun k s => KI G k s) (by omega) (fun f s k hk h => ?_) (fun f s => ?_) h0
  · obtain ⟨w, cl, want, ps, xs⟩ := s
    obtain ⟨hw, hc, hlen⟩ := h
    simp only at hw hc hlen
    have hkl : k < c.L.length := by omega
    have hwn := hw.want.length_eq
    show ∃ s', law18_WorldKeeps.l1 c (f + 1) w cl want (k : Int) ps xs = _ ∧ _
    rw [law18_WorldKeeps.l1, if_pos (by simp; omega), glk hkl]
    simp only [Option.bind_some]
    obtain ⟨b, hb, hlp⟩ := OpLight_eq c.L[k]
    rw [hb]
    simp only [Option.bind_some]
    rw [Machines_ok hw cl, wk1 (by omega)]
    have skip : ∃ s', law18_WorldKeeps.l1 c f w cl want ((k + 1 : Nat) : Int) ps xs = law18_WorldKeeps.l1 c f s'.1 s'.2.1 s'.2.2.1 ((k + 1 : Nat) : Int) s'.2.2.2.1 s'.2.2.2.2 ∧ KI G (k + 1) s' := ⟨(w, cl, want, ps, xs), rfl, KI.next ⟨hw, hc, hlen⟩⟩
    cases b with
    | false => exact skip
    | true =>
      simp only [Bool.not_true, Bool.false_eq_true, if_false, Option.bind_some]
      have hp := hlp rfl
      by_cases hm : decide ((w.ms.length : Int) > 30) = true
      · rw [if_pos hm]; exact skip
      · rw [if_neg hm]
        by_cases k0 : (c.L[k].Kind == 0) = true
        · rw [if_pos k0]
          rcases AddPod_ok hw (by omega) cl hp with ⟨e, he, h1⟩ | ⟨w', h1, h2⟩
          · rw [h1]
            simp only [Option.bind_some]
            rw [if_neg (by simp [he])]
            exact skip
          · rw [h1]
            simp only [Option.bind_some]
            by_cases hd : c.L[k].P_.Daemon = true
            · rw [if_neg (by simp [hd])]
              rw [if_pos hd] at h2
              exact ⟨(w', cl, want, ps, xs), rfl, h2, hc.mono (by omega) (by omega), by show want.length ≤ _; omega⟩
            · rw [if_pos (by simp [hd]), ap_ok (by omega) (by simp; omega)]
              rw [if_neg hd] at h2
              exact ⟨(w', cl, want ++ [c.L[k].P_.Name], ps, xs), rfl, h2, hc.mono (by omega) (by omega), by show (want ++ [_]).length ≤ _; simp; omega⟩
        · rw [if_neg k0]
          by_cases k1 : (c.L[k].Kind == 1) = true
          · rw [if_pos k1]
            rcases DropPod_ok hw (by omega) cl c.L[k].Name with ⟨e, he, h1⟩ | ⟨w', h1, h2⟩
            · rw [h1]
              simp only [Option.bind_some]
              rw [if_neg (by simp [he])]
              exact skip
            · rw [h1]
              simp only [Option.bind_some]
              rw [if_pos (by decide), keep2 want c.L[k] (by omega)]
              exact ⟨(w', cl, want.filter fun s => !decide (s = c.L[k].Name), ps, xs), rfl, h2.mono (by omega), hc.mono (by omega) (by omega), by show (want.filter _).length ≤ _; have := List.length_filter_le (fun s => !decide (s = c.L[k].Name)) want; omega⟩
          · rw [if_neg k1]
            by_cases k2 : (c.L[k].Kind == 2) = true
            · rw [if_pos k2]
              obtain ⟨e, w', h1, h2⟩ := Ready_ok hw cl c.L[k].Name c.L[k].Is
              rw [h1]
              exact ⟨(w', cl, want, ps, xs), rfl, h2.mono (by omega), hc.mono (by omega) (by omega), by show want.length ≤ _; omega⟩
            · rw [if_neg k2]
              by_cases k6 : (c.L[k].Kind == 6) = true
              · rw [if_pos k6]
                obtain ⟨e, w', h1, h2⟩ := Evict_ok hw (by omega) cl c.L[k].Name
                rw [h1]
                exact ⟨(w', cl, want, ps, xs), rfl, h2.mono (by omega), hc.mono (by omega) (by omega), by show want.length ≤ _; omega⟩
              · rw [if_neg k6]
                by_cases k8 : (c.L[k].Kind == 8) = true
                · rw [if_pos k8]
                  obtain ⟨e, c', ps', xs', h1, h2⟩ := Increase_ok hr hc (by omega) (by omega) c.L[k].Name c.L[k].N_
                  rw [h1]
                  exact ⟨(w, c', want, ps', xs'), rfl, hw.mono (by omega), h2.mono (by omega) (by omega), by show want.length ≤ _; omega⟩
                · rw [if_neg k8]
                  by_cases k9 : (c.L[k].Kind == 9) = true
                  · rw [if_pos k9]
                    obtain ⟨e, c', ps', xs', h1, h2⟩ := Delete_ok hr hc (by omega) c.L[k].Name
                    rw [h1]
                    exact ⟨(w, c', want, ps', xs'), rfl, hw.mono (by omega), h2.mono (by omega) (by omega), by show want.length ≤ _; omega⟩
                  · rw [if_neg k9]
                    obtain ⟨w', c', xs', h1, h2, h3, _⟩ := Pass_ok hr hsm hc (by omega) (by omega) (by omega) hw
                    rw [h1]
                    exact ⟨(w', c', want, ps, xs'), rfl, h2.mono (by omega), h3.mono (by omega) (by omega), by show want.length ≤ _; omega⟩
  · obtain ⟨w, cl, want, ps, xs⟩ := s
    show law18_WorldKeeps.l1 c (f + 1) w cl want _ ps xs = _
    rw [law18_WorldKeeps.l1, if_neg (by simp; omega)]
theorem WI.ry {G : List T_api_Group} {BB : Nat} {w : T_world_World} {want : List ByteArray} (h : WI G BB w want) : RY w.ms w.bs := by
  refine ⟨fun k hk => ?_, fun k hk => ?_, fun j k hj hk e => ?_, fun j k hj hk e => ?_, fun k hk e => ?_⟩
  · have q := h.mg _ (List.getElem_mem hk)
    exact ⟨q.ne, by rw [ref07_Mach_eq q.lm, q.mb]⟩
  · have q := h.bp _ (List.getElem_mem hk)
    rw [ref07_Pod_eq q.1, q.2]
  · exact nodup_get h.mnd hj hk e
  · exact nodup_get (f := fun b : T_api_Bound => b.Pod.Name) h.bnd hj hk e
  · rcases h.on _ (List.getElem_mem hk) with q | ⟨m, hm, q⟩
    · exact absurd q e
    · obtain ⟨j, hj, rfl⟩ := List.getElem_of_mem hm
      exact ⟨j, hj, q⟩
theorem keep3 (bs : List T_api_Bound) (hl : bs.length ≤ 1000) : law18_WorldKeeps.l3 bs FU 0 0 = some (((bs.filter nonD).length : Nat) : Int) := by
  obtain ⟨s, h1, h2⟩ := idxInv (len := bs.length) (F := fun f s i => law18_WorldKeeps.l3 bs f s i) (fun k s => s = ((((bs.take k).filter nonD).length : Nat) : Int)) (by omega)
    (fun f s k hk i1 => by
      subst i1
      have ht : bs.take (k + 1) = bs.take k ++ [bs[k]] := List.take_succ_eq_append_getElem hk
      have l1 : ((bs.take k).filter nonD).length ≤ k := by refine Nat.le_trans (List.length_filter_le _ _) ?_; rw [List.length_take]; omega
      rw [law18_WorldKeeps.l3, if_pos (dlt hk), glk hk]
      simp only [Option.bind_some]
      rw [wk1 (k := k) (by omega)]
      by_cases q : bs[k].Pod.Daemon = true
      · rw [if_neg (by simp [q])]
        refine ⟨_, rfl, ?_⟩
        rw [ht, List.filter_append]
        simp [nonD, q]
      · rw [if_pos (by simp [q]), wk1 (by omega)]
        refine ⟨_, rfl, ?_⟩
        rw [ht, List.filter_append]
        simp [nonD, q])
    (fun f s => by rw [law18_WorldKeeps.l3, if_neg dnl]) (s := 0) (by simp)
  rw [List.take_length] at h2
  rw [← h2]
  exact h1
theorem keep6 (ms : List T_api_Machine) (l : List T_api_Inst) {i : Nat} (hi : i < ms.length) (hl : l.length ≤ 100000) (b0 : Bool) : ∃ b, law18_WorldKeeps.l6 ms l (i : Int) FU b0 0 = some b ∧ ((∃ x, x ∈ l ∧ x.Name = ms[i].Name) → b = true) := by
  obtain ⟨s, h1, h2⟩ := idxInv (len := l.length) (F := fun f s j => law18_WorldKeeps.l6 ms l (i : Int) f s j) (fun k s => (∃ x, x ∈ l.take k ∧ x.Name = ms[i].Name) → s = true) (by omega)
    (fun f s k hk i1 => by
      have ht : l.take (k + 1) = l.take k ++ [l[k]] := List.take_succ_eq_append_getElem hk
      rw [law18_WorldKeeps.l6, if_pos (dlt hk), wk1 (by omega)]
      cases s with
      | true =>
        rw [if_pos rfl]
        exact ⟨true, rfl, fun _ => rfl⟩
      | false =>
        rw [if_neg (by decide), glk hk, glk hi]
        simp only [Option.bind_some, seq_eq]
        refine ⟨_, rfl, ?_⟩
        rintro ⟨x, hx, e⟩
        rw [ht] at hx
        rcases List.mem_append.1 hx with hx | hx
        · exact absurd (i1 ⟨x, hx, e⟩) (by decide)
        · rw [List.mem_singleton] at hx
          subst hx
          simpa using e)
    (fun f s => by rw [law18_WorldKeeps.l6, if_neg dnl]) (s := b0) (by simp)
  rw [List.take_length] at h2
  exact ⟨s, h1, h2⟩
theorem known18k : (law18_known ([] : List T_cloud_pool) ([] : List T_cloud_inst)).bind (fun r => some r.1) = some true := by kernel_rfl
theorem made_eq (c : T_law18_Case) : (∃ ps xs, law18_made c [] [] = some (none, ps, xs)) ∨ (∃ G w cl ps xs, GR G ∧ smax G ≤ 200 ∧ law18_made c [] [] = some (some (w, cl), ps, xs) ∧ CI G 120 120 cl ps xs ∧ WI G 0 w []) := by
  unfold law18_made law18_fits
  obtain ⟨b1, e1, f1⟩ := Light16_eq c.G
  obtain ⟨b2, e2, f2⟩ := Light15_eq c.B
  rw [e1, e2]
  simp only [Option.bind_some]
  cases b1 with
  | false => exact .inl ⟨[], [], rfl⟩
  | true =>
  cases b2 with
  | false => exact .inl ⟨[], [], rfl⟩
  | true =>
    obtain ⟨g1, g2⟩ := f1 rfl
    obtain ⟨q1, q2⟩ := f2 rfl
    simp only [if_true, Option.bind_some, Bool.not_true, Bool.false_or]
    by_cases h4 : decide ((c.G.length : Int) > 4) = true
    · rw [if_pos h4]; exact .inl ⟨[], [], rfl⟩
    · rw [if_neg h4]
      rcases loopI (F := fun n i => law18_made.l1 c [] [] n i) (Q := fun r => r = (none, [], [])) (S := fun k => ∀ h : k < c.G.length, c.G[k].Min ≤ 6) (len := c.G.length) (by omega) (fun n k hk => by
          rw [law18_made.l1, if_pos (dlt hk), glk hk, wk1 (by omega)]
          simp only [Option.bind_some]
          by_cases h6 : c.G[k].Min > 6
          · rw [if_pos (by simpa using h6)]; exact .inl ⟨_, rfl, rfl⟩
          · rw [if_neg (by simpa using h6)]; exact .inr ⟨rfl, fun _ => by omega⟩) (fun n => by rw [law18_made.l1, if_neg dnl]) with ⟨r, h1, rfl⟩ | ⟨h1, h2⟩
      · rw [h1]; exact .inl ⟨[], [], rfl⟩
      · rw [h1]
        simp only [Option.bind_some, Out.on]
        have hm : ∀ g, g ∈ c.G → g.Min ≤ 6 := fun g hg => by
          obtain ⟨i, hi, rfl⟩ := List.getElem_of_mem hg
          exact h2 i hi hi
        rcases wNew_eq g1 g2 hm q1 q2 c.Delay with ⟨e, ps, xs, he, h3⟩ | ⟨hr, hs, w, cl, ps, xs, h3, h5, h6⟩
        · rw [h3]
          simp only [Option.bind_some, po]
          rw [if_pos (by simpa using he)]
          exact .inl ⟨ps, xs, rfl⟩
        · rw [h3]
          simp only [Option.bind_some, po]
          rw [if_neg (by decide)]
          exact .inr ⟨c.G, w, cl, ps, xs, hr, hs, rfl, h5, h6⟩
theorem WorldKeeps_true (c : T_law18_Case) {p : Prop} (_ : p) : law18_WorldKeeps c = some true := by
  have hk := known18k
  unfold law18_WorldKeeps
  generalize law18_known ([] : List T_cloud_pool) ([] : List T_cloud_inst) = K at hk ⊢
  rcases made_eq c with ⟨ps, xs, h1⟩ | ⟨G, w, cl, ps, xs, hr, hs, h1, hc, hw⟩
  · rw [h1]
    exact hk
  · rw [h1]
    simp only [Option.bind_some, po]
    obtain ⟨s, h2, h3⟩ := keep_loop (c := c) hr hs (s := (w, cl, [], ps, xs)) ⟨hw, hc, by simp⟩
    obtain ⟨w2, cl2, want, ps2, xs2⟩ := s
    obtain ⟨i1, i2, i3⟩ := h3
    simp only at h2 i1 i2 i3
    rw [h2]
    simp only [Option.bind_some]
    have hmin : min c.L.length 30 ≤ 30 := Nat.min_le_right _ _
    obtain ⟨w3, c3, xs3, p1, p2, p3, p4⟩ := Pass_ok hr hs i2 (by omega) (by omega) (by omega) i1
    rw [p1]
    simp only [Option.bind_some]
    rw [Bounds_ok p2 (by omega) c3]
    simp only [Option.bind_some]
    have hbl := p2.bl
    have hml := p2.ml
    rw [keep3 w3.bs (by omega)]
    simp only [Option.bind_some]
    have hcount : ((w3.bs.filter nonD).length : Int) = (want.length : Int) := by
      have := p2.want.length_eq
      unfold podNs at this
      rw [List.length_map] at this
      omega
    have l4 : law18_WorldKeeps.l4 (w2, cl2, want, ps2, xs2) w3.bs FU 0 = some (.go ()) := by
      rcases loopI (F := fun n i => law18_WorldKeeps.l4 (w2, cl2, want, ps2, xs2) w3.bs n i) (Q := fun r => False) (S := fun _ => True) (len := want.length) (by omega) (fun n k hk => by
          have hk' : k < ((w2, cl2, want, ps2, xs2) : KS).2.2.1.length := hk
          rw [law18_WorldKeeps.l4, if_pos (dlt hk'), glk hk', wk1 (by omega)]
          simp only [Option.bind_some]
          obtain ⟨r, _, r2, r3⟩ := place_d w3.bs want[k] (by omega)
          rw [r2]
          simp only [Option.bind_some]
          have hmem : want[k] ∈ w3.bs.map (·.Pod.Name) := by
            have : want[k] ∈ podNs (w3.bs.filter nonD) := p2.want.mem_iff.2 (List.getElem_mem hk)
            obtain ⟨b, hb, e⟩ := List.mem_map.1 this
            rw [← e]
            exact List.mem_map_of_mem (List.mem_filter.1 hb).1
          rcases r3 with ⟨_, q⟩ | ⟨q, rfl, _⟩
          · exact absurd hmem q
          · rw [if_neg (by simp)]; exact .inr ⟨rfl, trivial⟩) (fun n => by
            have : ((w2, cl2, want, ps2, xs2) : KS).2.2.1 = want := rfl
            rw [law18_WorldKeeps.l4, if_neg (by rw [this]; exact dnl)]) with ⟨r, _, h⟩ | ⟨h, _⟩
      · exact h.elim
      · exact h
    rw [l4]
    simp only [Option.bind_some, Out.on]
    rw [Machines_ok p2 c3]
    simp only [Option.bind_some]
    rw [Insts_ok p3 (by omega)]
    simp only [Option.bind_some]
    have hil := p3.ilen
    have l5 : law18_WorldKeeps.l5 w3.ms (instsV c3 ps2 xs3) FU 0 = some (.go ()) := by
      rcases loopI (F := fun n i => law18_WorldKeeps.l5 w3.ms (instsV c3 ps2 xs3) n i) (Q := fun r => False) (S := fun _ => True) (len := w3.ms.length) (by omega) (fun n k hk => by
          rw [law18_WorldKeeps.l5, if_pos (dlt hk), glk hk, wk1 (by omega)]
          simp only [Option.bind_some]
          obtain ⟨b, b1, b2⟩ := keep6 w3.ms (instsV c3 ps2 xs3) hk (by unfold instsV; simp; omega) (V.seq w3.ms[k].Group (⟨#[]⟩ : ByteArray))
          rw [b1]
          simp only [Option.bind_some]
          obtain ⟨i, q1, q2⟩ := p4 _ (List.getElem_mem hk)
          rw [b2 ⟨_, List.mem_map_of_mem q1, q2⟩]
          rw [if_neg (by decide)]
          exact .inr ⟨rfl, trivial⟩) (fun n => by rw [law18_WorldKeeps.l5, if_neg dnl]) with ⟨r, _, h⟩ | ⟨h, _⟩
      · exact h.elim
      · exact h
    rw [l5]
    simp only [Option.bind_some]
    rw [if_pos (by simpa using hcount), Check9_zero p2.ml (by omega) p2.ry]
    exact hk
end Go.Proofs.YtbgfffdnaijmhaaGreat.M

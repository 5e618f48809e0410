/-
  Plain laws: how many stand in each zone, and why a pod cannot run, told alike by the program and the document. Own text.
-/
import Derived.Test.YtbkdglcedgiogaaGreatPRef3
namespace Go.Proofs.YtbkdglcedgiogaaGreat.M
open Go Go.Proofs Go.Proofs.YtbkdglcedgiogaaGreat.V
set_option linter.unusedVariables false

def inL (y : ByteArray) (l : List ByteArray) : Bool := l.any fun a => decide (a = y)
/-- The zones, each once. -/
def zstep (acc : List ByteArray) (m : T_api_Machine) : List ByteArray := if ((getS m.Labels zoneK).2 && m.Ready && !inL (getS m.Labels zoneK).1 acc) = true then acc ++ [(getS m.Labels zoneK).1] else acc
def zonesL (ms : List T_api_Machine) : List ByteArray := ms.foldl zstep []

theorem zstep_len (acc : List ByteArray) (m : T_api_Machine) : (zstep acc m).length ≤ acc.length + 1 := by
  unfold zstep
  split
  · simp
  · omega
theorem zonesL_len (ms : List T_api_Machine) : (zonesL ms).length ≤ ms.length := by
  have key : ∀ (l : List T_api_Machine) (acc : List ByteArray), (l.foldl zstep acc).length ≤ acc.length + l.length := by
    intro l
    induction l with
    | nil => intro acc; exact Nat.le_refl _
    | cons x l ih =>
      intro acc
      have h1 := ih (zstep acc x)
      have h2 := zstep_len acc x
      rw [List.foldl_cons, List.length_cons]
      omega
  have := key ms []
  simpa [zonesL] using this

theorem Zones9_eq {ms : List T_api_Machine} (hl : ms.length ≤ 1000) (hm : ∀ m, m ∈ ms → GM m) : ref09_Zones ms = some (zonesL ms) := by
  unfold ref09_Zones zonesL
  have := idxFoldL (F := fun n s i => ref09_Zones.l1 ms n s i) (l := ms) zstep id (fun k s => s.length ≤ k) (by omega) (fun n s k hk hI => by
    have hg := (hm ms[k] (List.getElem_mem _)).lm.labels.1
    rw [ref09_Zones.l1, if_pos (dlt hk), glk hk, wk1 (by omega)]
    simp only [Option.bind_some]
    rw [show (⟨#[122, 111, 110, 101]⟩ : ByteArray) = zoneK from rfl, Get5_eq (by omega)]
    simp only [Option.bind_some]
    have hin : ref09_Zones.l2 s (getS ms[k].Labels zoneK) FU (getS ms[k].Labels zoneK).2 0 = some ((getS ms[k].Labels zoneK).2 && !inL (getS ms[k].Labels zoneK).1 s) := by
      have := idxFoldL (F := fun n b i => ref09_Zones.l2 s (getS ms[k].Labels zoneK) n b i) (l := s) (fun b x => b && !decide (x = (getS ms[k].Labels zoneK).1)) id (fun _ _ => True) (by omega) (fun n b j hj _ => by
        refine ⟨?_, trivial⟩
        rw [ref09_Zones.l2, if_pos (dlt hj), glk hj, wk1 (by omega)]
        simp only [Option.bind_some, seq_eq]
        cases b <;> rfl) (fun n b => by rw [ref09_Zones.l2, if_neg dnl]; rfl) (getS ms[k].Labels zoneK).2 trivial
      rw [show ref09_Zones.l2 s (getS ms[k].Labels zoneK) FU (getS ms[k].Labels zoneK).2 0 = _ from this]
      congr 1
      have key : ∀ (l : List ByteArray) (b : Bool), l.foldl (fun b x => b && !decide (x = (getS ms[k].Labels zoneK).1)) b = (b && !inL (getS ms[k].Labels zoneK).1 l) := by
        intro l
        induction l with
        | nil => intro b; unfold inL; simp
        | cons x l ih => intro b; rw [List.foldl_cons, ih]; unfold inL; rw [List.any_cons, Bool.not_or, Bool.and_assoc]
      exact key s _
    rw [hin]
    simp only [Option.bind_some]
    have hlen := zstep_len s ms[k]
    unfold zstep at hlen ⊢
    cases h1 : (getS ms[k].Labels zoneK).2 <;> cases h2 : inL (getS ms[k].Labels zoneK).1 s <;> cases h3 : ms[k].Ready <;> simp only [Bool.and_true, Bool.true_and, Bool.false_and, Bool.and_false, Bool.not_true, Bool.not_false, Bool.false_eq_true, if_false, if_true, Option.bind_some] <;> first | exact ⟨trivial, by omega⟩ | exact ⟨rfl, by omega⟩ | skip
    rw [ap_ok (by omega) (by simp; omega)]
    exact ⟨rfl, by simp; omega⟩) (fun n s => by rw [ref09_Zones.l1, if_neg dnl]; rfl) [] (by simp)
  rw [show ref09_Zones.l1 ms FU [] 0 = _ from this]
  rfl

theorem yZones_eq {ms : List T_api_Machine} (hl : ms.length ≤ 1000) (hm : ∀ m, m ∈ ms → GM m) : yard_Zones ms = some (zonesL ms) := by
  unfold yard_Zones zonesL
  have key : ∀ (l : List T_api_Machine) (k : Nat) (had : List (ByteArray × Int)) (acc : List ByteArray) (B : Int), (∀ m, m ∈ l → GM m) → l.length + acc.length ≤ 1000 → 0 ≤ B → B + (l.length : Int) ≤ 1000 →
      (∀ z, (V.mg had z).isSome = inL z acc ∧ ∀ v, V.mg had z = some v → 1 ≤ v ∧ v ≤ B) → yard_Zones.l1 l k had acc = some (l.foldl zstep acc) := by
    intro l
    induction l with
    | nil => intro k had acc B _ _ _ _ _; rfl
    | cons x l ih =>
      intro k had acc B hm hlen h0 hB hI
      rw [List.length_cons] at hlen hB
      have hx := hm x (List.mem_cons_self ..)
      rw [yard_Zones.l1, show (⟨#[122, 111, 110, 101]⟩ : ByteArray) = zoneK from rfl, labels_Get_eq hx.so, List.foldl_cons]
      simp only [Option.bind_some, mg_mp, if_true, Option.getD_some]
      have hml : ∀ m, m ∈ l → GM m := fun m h => hm m (List.mem_cons_of_mem _ h)
      obtain ⟨i1, i2⟩ := hI (getS x.Labels zoneK).1
      by_cases hc : ((getS x.Labels zoneK).2 && x.Ready) = true
      · have hc' : ((!(getS x.Labels zoneK).2) || (!x.Ready)) = false := by
          simp only [Bool.and_eq_true] at hc
          rw [hc.1, hc.2]; rfl
        rw [hc']
        simp only [Bool.false_eq_true, if_false]
        have hnext : ∀ acc', (∀ z, inL z acc' = (decide (z = (getS x.Labels zoneK).1) || inL z acc)) → ∀ z, (V.mg (V.mp had (getS x.Labels zoneK).1 (IntKind.i64.wrap (((V.mg had (getS x.Labels zoneK).1).getD 0) + 1))) z).isSome = inL z acc' ∧ ∀ v, V.mg (V.mp had (getS x.Labels zoneK).1 (IntKind.i64.wrap (((V.mg had (getS x.Labels zoneK).1).getD 0) + 1))) z = some v → 1 ≤ v ∧ v ≤ B + 1 := by
          intro acc' ha z
          rw [mg_mp, ha]
          by_cases e : z = (getS x.Labels zoneK).1
          · rw [if_pos e]
            refine ⟨by simp [e], fun v hv => ?_⟩
            injection hv with hv
            rw [← hv]
            cases hg : V.mg had (getS x.Labels zoneK).1 with
            | none => rw [Option.getD_none, w_eq (by omega) (by omega)]; omega
            | some c =>
              have := i2 c hg
              rw [Option.getD_some, w_eq (by omega) (by omega)]; omega
          · rw [if_neg e]
            refine ⟨by rw [(hI z).1]; simp [e], fun v hv => ?_⟩
            have := (hI z).2 v hv
            omega
        unfold zstep
        cases hin : inL (getS x.Labels zoneK).1 acc with
        | true =>
          rw [hin] at i1
          obtain ⟨c, hg⟩ := Option.isSome_iff_exists.1 i1
          have hcr := i2 c hg
          rw [hg] at hnext ⊢
          rw [Option.getD_some] at hnext ⊢
          rw [if_neg (show ¬ (IntKind.i64.wrap (c + 1) == 1) = true by rw [w_eq (by omega) (by omega)]; simp; omega), if_neg (show ¬ ((getS x.Labels zoneK).2 && x.Ready && !true) = true by simp)]
          exact ih (k + 1) _ acc (B + 1) hml (by omega) (by omega) (by omega) (hnext acc fun z => by
            by_cases e : z = (getS x.Labels zoneK).1
            · rw [e, hin]; simp
            · simp [e])
        | false =>
          rw [hin] at i1
          have hg : V.mg had (getS x.Labels zoneK).1 = none := by
            cases hg : V.mg had (getS x.Labels zoneK).1 with
            | none => rfl
            | some c => rw [hg] at i1; simp at i1
          rw [hg] at hnext ⊢
          rw [Option.getD_none] at hnext ⊢
          rw [if_pos (show (IntKind.i64.wrap (0 + 1) == 1) = true by decide), if_pos (show ((getS x.Labels zoneK).2 && x.Ready && !false) = true by rw [hc]; rfl), ap_ok (by omega) (by simp; omega)]
          simp only [Option.bind_some]
          exact ih (k + 1) _ (acc ++ [(getS x.Labels zoneK).1]) (B + 1) hml (by simp; omega) (by omega) (by omega) (hnext _ fun z => by
            unfold inL
            rw [List.any_append, Bool.or_comm]
            congr 1
            simp [eq_comm])
      · have hc' : ((!(getS x.Labels zoneK).2) || (!x.Ready)) = true := by
          cases h1 : (getS x.Labels zoneK).2 <;> cases h2 : x.Ready <;> simp [h1, h2] at hc ⊢
        rw [hc']
        simp only [if_true]
        unfold zstep
        have hc2 : ((getS x.Labels zoneK).2 && x.Ready) = false := by simpa using hc
        rw [hc2, Bool.false_and, if_neg (by simp)]
        exact ih (k + 1) had acc B hml (by omega) h0 (by omega) hI
  rw [key ms 0 [] [] 0 hm (by simpa using hl) (Int.le_refl 0) (by omega) (fun z => ⟨rfl, fun v hv => by cases hv⟩)]
  rfl

/-! counts -/
def inZ (ms : List T_api_Machine) (p : T_api_Pod) (z : ByteArray) (b : T_api_Bound) : Bool := (!decide (b.On = ⟨#[]⟩) && !decide (b.Pod.Name = p.Name)) && (decide (zoneS ms b.On = some z) && hasB b.Pod.Labels p.Spread)
def cntZ (ms : List T_api_Machine) (bs : List T_api_Bound) (p : T_api_Pod) (z : ByteArray) : Int := ((bs.filter (inZ ms p z)).length : Int)
theorem cntZ_range (ms : List T_api_Machine) (bs : List T_api_Bound) (p : T_api_Pod) (z : ByteArray) : 0 ≤ cntZ ms bs p z ∧ cntZ ms bs p z ≤ (bs.length : Int) := by
  have := List.length_filter_le (inZ ms p z) bs
  unfold cntZ
  omega

theorem tally_cnt {ms : List T_api_Machine} {bs : List T_api_Bound} (p : T_api_Pod) (hbl : bs.length ≤ 1000) (hm : ∀ m, m ∈ ms → GM m) (hn : (ms.map (·.Name)).Nodup) : ∃ t, apart_tally ms bs p = some t ∧ ∀ z, (V.mg t z).getD 0 = cntZ ms bs p z := by
  unfold apart_tally
  rw [zones_V]
  simp only [Option.bind_some]
  have key : ∀ (l : List T_api_Bound) (k : Nat) (n : List (ByteArray × Int)) (B : Int), 0 ≤ B → B + (l.length : Int) ≤ 1000 → (∀ z, 0 ≤ (V.mg n z).getD 0 ∧ (V.mg n z).getD 0 ≤ B) → ∃ t, apart_tally.l1 p (zonesV ms) l k n = some t ∧ ∀ z, (V.mg t z).getD 0 = (V.mg n z).getD 0 + ((l.filter (inZ ms p z)).length : Int) := by
    intro l
    induction l with
    | nil => intro k n B _ _ _; exact ⟨n, rfl, fun z => by simp⟩
    | cons x l ih =>
      intro k n B h0 hB hI
      rw [List.length_cons] at hB
      rw [apart_tally.l1, has_B, zones_mg hm hn]
      simp only [seq_eq, Option.bind_some]
      by_cases hc : ((((zoneS ms x.On).isSome && !decide (x.On = ⟨#[]⟩)) && !decide (x.Pod.Name = p.Name)) && hasB x.Pod.Labels p.Spread) = true
      · simp only [Bool.and_eq_true] at hc
        obtain ⟨⟨⟨c1, c2⟩, c3⟩, c4⟩ := hc
        obtain ⟨zz, hz⟩ := Option.isSome_iff_exists.1 c1
        rw [if_pos (show (((zoneS ms x.On).isSome && !decide (x.On = ⟨#[]⟩)) && !decide (x.Pod.Name = p.Name)) = true by rw [c1, c2, c3]; rfl)]
        simp only [Option.bind_some]
        rw [if_pos c4, hz, Option.getD_some]
        have hv := hI zz
        obtain ⟨t, h1, h2⟩ := ih (k + 1) (V.mp n zz (IntKind.i64.wrap (((V.mg n zz).getD 0) + 1))) (B + 1) (by omega) (by omega) (fun z => by
          rw [mg_mp]
          by_cases e : z = zz
          · rw [if_pos e, Option.getD_some, w_eq (by omega) (by omega)]; omega
          · rw [if_neg e]; have := hI z; omega)
        refine ⟨t, h1, fun z => ?_⟩
        rw [h2, mg_mp, List.filter_cons]
        by_cases e : z = zz
        · subst e
          rw [if_pos rfl, if_pos (show inZ ms p z x = true by unfold inZ; rw [c2, c3, c4, hz]; simp), Option.getD_some, w_eq (by omega) (by omega), List.length_cons]
          omega
        · rw [if_neg e, if_neg (show ¬ inZ ms p z x = true by
            unfold inZ
            rw [hz]
            have : ¬ zz = z := fun q => e q.symm
            simp [this])]
      · have hstep : ((if (((zoneS ms x.On).isSome && !decide (x.On = ⟨#[]⟩)) && !decide (x.Pod.Name = p.Name)) = true then some (hasB x.Pod.Labels p.Spread) else some false).bind fun c => if c = true then apart_tally.l1 p (zonesV ms) l (k + 1) (V.mp n ((zoneS ms x.On).getD ⟨#[]⟩) (IntKind.i64.wrap (((V.mg n ((zoneS ms x.On).getD ⟨#[]⟩)).getD (0 : Int)) + (1 : Int)))) else apart_tally.l1 p (zonesV ms) l (k + 1) n) = apart_tally.l1 p (zonesV ms) l (k + 1) n := by
          cases c1 : (((zoneS ms x.On).isSome && !decide (x.On = ⟨#[]⟩)) && !decide (x.Pod.Name = p.Name)) with
          | false => rfl
          | true =>
            cases c2 : hasB x.Pod.Labels p.Spread with
            | false => rfl
            | true => rw [c1, c2] at hc; exact absurd rfl hc
        rw [hstep]
        obtain ⟨t, h1, h2⟩ := ih (k + 1) n B h0 (by omega) hI
        refine ⟨t, h1, fun z => ?_⟩
        rw [h2, List.filter_cons, if_neg]
        intro hz
        apply hc
        unfold inZ at hz
        simp only [Bool.and_eq_true, decide_eq_true_eq] at hz
        rw [hz.2.1, hz.1.1, hz.1.2, hz.2.2]
        rfl
  obtain ⟨t, h1, h2⟩ := key bs 0 [] 0 (Int.le_refl 0) (by omega) (fun z => by simp [V.mg])
  refine ⟨t, by rw [h1]; rfl, fun z => ?_⟩
  rw [h2]
  unfold cntZ
  simp [V.mg]

theorem Counts_eq {ms : List T_api_Machine} {bs : List T_api_Bound} (p : T_api_Pod) (hl : ms.length ≤ 1000) (hbl : bs.length ≤ 1000) (hm : ∀ m, m ∈ ms → GM m) (hn : (ms.map (·.Name)).Nodup) : apart_Counts ms bs p = some (zonesL ms, (zonesL ms).map (cntZ ms bs p)) := by
  unfold apart_Counts
  obtain ⟨t, ht, hc⟩ := tally_cnt (bs := bs) p hbl hm hn
  have hzl := zonesL_len ms
  rw [ht, yZones_eq hl hm]
  simp only [Option.bind_some]
  have key : ∀ (l : List ByteArray) (k : Nat) (acc : List Int), l.length + acc.length ≤ 1000 → apart_Counts.l1 t l k acc = some (acc ++ l.map (cntZ ms bs p)) := by
    intro l
    induction l with
    | nil => intro k acc _; simp [apart_Counts.l1]
    | cons x l ih =>
      intro k acc h
      rw [List.length_cons] at h
      rw [apart_Counts.l1, hc, ap_ok (by omega) (by simp; omega)]
      simp only [Option.bind_some]
      rw [ih (k + 1) _ (by simp; omega)]
      simp
  rw [key _ 0 [] (by simp; omega)]
  rfl

theorem Counts11_eq {ms : List T_api_Machine} {bs : List T_api_Bound} {p : T_api_Pod} (hl : ms.length ≤ 1000) (hbl : bs.length ≤ 1000) (hm : ∀ m, m ∈ ms → GM m) (hb : ∀ b, b ∈ bs → GP b.Pod) (hp : GP p) : ref11_Counts ms bs p = some (zonesL ms, (zonesL ms).map (cntZ ms bs p)) := by
  unfold ref11_Counts
  have hzl := zonesL_len ms
  have hsp := hp.lp.spread.1
  rw [Zones9_eq hl hm]
  simp only [Option.bind_some]
  generalize zonesL ms = zl at *
  have := idxFoldL (F := fun n s i => ref11_Counts.l1 ms bs p zl n s i) (l := zl) (fun acc z => acc ++ [cntZ ms bs p z]) id (fun k s => s.length ≤ k) (by omega) (fun n s i hi hI => by
    rw [ref11_Counts.l1, if_pos (dlt hi), wk1 (by omega)]
    have hin : ref11_Counts.l2 ms bs p zl (i : Int) FU 0 0 = some (cntZ ms bs p zl[i]) := by
      have := idxFoldL (F := fun n s j => ref11_Counts.l2 ms bs p zl (i : Int) n s j) (l := bs) (fun c b => if inZ ms p zl[i] b = true then c + 1 else c) id (fun k s => 0 ≤ s ∧ s ≤ (k : Int)) (by omega) (fun n s j hj hI => by
        have hg := hb bs[j] (List.getElem_mem _)
        have h1 := hg.lp.labels.1
        rw [ref11_Counts.l2, if_pos (dlt hj), glk hj, wk1 (by omega)]
        simp only [Option.bind_some]
        rw [zone11_eq bs[j].On hl hm, Has5_B (by omega) (by omega) hg.labels, glk hi]
        simp only [Option.bind_some, seq_eq]
        have hq : ((if (!decide (bs[j].On = ⟨#[]⟩)) = true then some (!decide (bs[j].Pod.Name = p.Name)) else some false).bind fun c => (if (c && (zoneS ms bs[j].On).isSome) = true then some (decide ((zoneS ms bs[j].On).getD ⟨#[]⟩ = zl[i])) else some false).bind fun c2 => if c2 = true then some (hasB bs[j].Pod.Labels p.Spread) else some false) = some (inZ ms p zl[i] bs[j]) := by
          unfold inZ
          cases h1 : decide (bs[j].On = ⟨#[]⟩) <;> cases h2 : decide (bs[j].Pod.Name = p.Name) <;> cases h3 : zoneS ms bs[j].On with
          | none => simp
          | some zz => by_cases h4 : zz = zl[i] <;> cases h5 : hasB bs[j].Pod.Labels p.Spread <;> simp [h4]
        have hbind : ∀ (X : Bool → Option Int), ((if (!decide (bs[j].On = ⟨#[]⟩)) = true then some (!decide (bs[j].Pod.Name = p.Name)) else some false).bind fun c => (if (c && (zoneS ms bs[j].On).isSome) = true then some (decide ((zoneS ms bs[j].On).getD ⟨#[]⟩ = zl[i])) else some false).bind fun c2 => (if c2 = true then some (hasB bs[j].Pod.Labels p.Spread) else some false).bind X) = X (inZ ms p zl[i] bs[j]) := fun X => by
          have := congrArg (fun o => o.bind X) hq
          simp only [Option.bind_some] at this
          rw [← this, Option.bind_assoc]
          congr 1
          funext c
          rw [Option.bind_assoc]
        rw [hbind]
        cases inZ ms p zl[i] bs[j] with
        | true => rw [if_pos rfl, if_pos rfl, w_eq (by omega) (by omega)]; exact ⟨rfl, by omega⟩
        | false => rw [if_neg (by simp), if_neg (by simp)]; exact ⟨rfl, by omega⟩) (fun n s => by rw [ref11_Counts.l2, if_neg dnl]; rfl) 0 (by simp)
      rw [show ref11_Counts.l2 ms bs p zl (i : Int) FU 0 0 = _ from this]
      congr 1
      have key : ∀ (l : List T_api_Bound) (c : Int), l.foldl (fun c b => if inZ ms p zl[i] b = true then c + 1 else c) c = c + ((l.filter (inZ ms p zl[i])).length : Int) := by
        intro l
        induction l with
        | nil => intro c; simp
        | cons x l ih =>
          intro c
          rw [List.foldl_cons, ih, List.filter_cons]
          cases inZ ms p zl[i] x with
          | true => rw [if_pos rfl, if_pos rfl, List.length_cons]; omega
          | false => rw [if_neg (by simp), if_neg (by simp)]
      unfold cntZ
      show bs.foldl (fun c b => if inZ ms p zl[i] b = true then c + 1 else c) 0 = _
      rw [key]; omega
    rw [hin]
    simp only [Option.bind_some]
    rw [ap_ok (by omega) (by simp; omega)]
    exact ⟨rfl, by simp; omega⟩) (fun n s => by rw [ref11_Counts.l1, if_neg dnl]; rfl) [] (by simp)
  rw [show ref11_Counts.l1 ms bs p zl FU [] 0 = _ from this]
  simp only [Option.bind_some, id]
  have key : ∀ (l : List ByteArray) (acc : List Int), l.foldl (fun acc z => acc ++ [cntZ ms bs p z]) acc = acc ++ l.map (cntZ ms bs p) := by
    intro l
    induction l with
    | nil => intro acc; simp
    | cons x l ih => intro acc; rw [List.foldl_cons, ih]; simp
  rw [key, List.nil_append]
end Go.Proofs.YtbkdglcedgiogaaGreat.M

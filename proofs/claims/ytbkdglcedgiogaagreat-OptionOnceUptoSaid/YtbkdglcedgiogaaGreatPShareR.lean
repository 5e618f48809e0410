/-
  Printed by a program of this session out of the loaded functions: models and their proofs. Own text.
-/
import Derived.Test.YtbkdglcedgiogaaGreatPRef3
import Derived.Test.YtbkdglcedgiogaaGreatPFitW
/-
  Plain laws: how many stand in each zone, and why a pod cannot run, told alike by the program and the document. Own text.
-/
namespace Go.Proofs.YtbkdglcedgiogaaGreat.M
open Go Go.Proofs Go.Proofs.YtbkdglcedgiogaaGreat.V
set_option linter.unusedVariables false

def inL (y : ByteArray) (l : List ByteArray) : Bool := l.any fun a => decide (a = y)
/-- The zones, each once. -/
def zstep (acc : List ByteArray) (m : T_api_Machine) : List ByteArray := if ((getS m.Labels zoneK).2 && m.Ready && !inL (getS m.Labels zoneK).1 acc) = true then acc ++ [(getS m.Labels zoneK).1] else acc
def zonesL (ms : List T_api_Machine) : List ByteArray := ms.foldl zstep []

theorem zstep_len (acc : List ByteArray) (m : T_api_Machine) : (zstep acc m).length ≤ acc.length + 1 := by
  unfold zstep
  split
  · simp
  · omega
theorem zonesL_len (ms : List T_api_Machine) : (zonesL ms).length ≤ ms.length := by
  have key : ∀ (l : List T_api_Machine) (acc : List ByteArray), (l.foldl zstep acc).length ≤ acc.length + l.length := by
    intro l
    induction l with
    | nil => intro acc; exact Nat.le_refl _
    | cons x l ih =>
      intro acc
      have h1 := ih (zstep acc x)
      have h2 := zstep_len acc x
      rw [List.foldl_cons, List.length_cons]
      omega
  have := key ms []
  simpa [zonesL] using this

theorem Zones9_eq {ms : List T_api_Machine} (hl : ms.length ≤ 1000) (hm : ∀ m, m ∈ ms → GM m) : ref09_Zones ms = some (zonesL ms) := by
  unfold ref09_Zones zonesL
  have := idxFoldL (F := fun n s i => ref09_Zones.l1 ms n s i) (l := ms) zstep id (fun k s => s.length ≤ k) (by omega) (fun n s k hk hI => by
    have hg := (hm ms[k] (List.getElem_mem _)).lm.labels.1
    rw [ref09_Zones.l1, if_pos (dlt hk), glk hk, wk1 (by omega)]
    simp only [Option.bind_some]
    rw [show (⟨#[122, 111, 110, 101]⟩ : ByteArray) = zoneK from rfl, Get5_eq (by omega)]
    simp only [Option.bind_some]
    have hin : ref09_Zones.l2 s (getS ms[k].Labels zoneK) FU (getS ms[k].Labels zoneK).2 0 = some ((getS ms[k].Labels zoneK).2 && !inL (getS ms[k].Labels zoneK).1 s) := by
      have := idxFoldL (F := fun n b i => ref09_Zones.l2 s (getS ms[k].Labels zoneK) n b i) (l := s) (fun b x => b && !decide (x = (getS ms[k].Labels zoneK).1)) id (fun _ _ => True) (by omega) (fun n b j hj _ => by
        refine ⟨?_, trivial⟩
        rw [ref09_Zones.l2, if_pos (dlt hj), glk hj, wk1 (by omega)]
        simp only [Option.bind_some, seq_eq]
        cases b <;> rfl) (fun n b => by rw [ref09_Zones.l2, if_neg dnl]; rfl) (getS ms[k].Labels zoneK).2 trivial
      rw [show ref09_Zones.l2 s (getS ms[k].Labels zoneK) FU (getS ms[k].Labels zoneK).2 0 = _ from this]
      congr 1
      have key : ∀ (l : List ByteArray) (b : Bool), l.foldl (fun b x => b && !decide (x = (getS ms[k].Labels zoneK).1)) b = (b && !inL (getS ms[k].Labels zoneK).1 l) := by
        intro l
        induction l with
        | nil => intro b; unfold inL; simp
        | cons x l ih => intro b; rw [List.foldl_cons, ih]; unfold inL; rw [List.any_cons, Bool.not_or, Bool.and_assoc]
      exact key s _
    rw [hin]
    simp only [Option.bind_some]
    have hlen := zstep_len s ms[k]
    unfold zstep at hlen ⊢
    cases h1 : (getS ms[k].Labels zoneK).2 <;> cases h2 : inL (getS ms[k].Labels zoneK).1 s <;> cases h3 : ms[k].Ready <;> simp only [Bool.and_true, Bool.true_and, Bool.false_and, Bool.and_false, Bool.not_true, Bool.not_false, Bool.false_eq_true, if_false, if_true, Option.bind_some] <;> first | exact ⟨trivial, by omega⟩ | exact ⟨rfl, by omega⟩ | skip
    rw [ap_ok (by omega) (by simp; omega)]
    exact ⟨rfl, by simp; omega⟩) (fun n s => by rw [ref09_Zones.l1, if_neg dnl]; rfl) [] (by simp)
  rw [show ref09_Zones.l1 ms FU [] 0 = _ from this]
  rfl

theorem yZones_eq {ms : List T_api_Machine} (hl : ms.length ≤ 1000) (hm : ∀ m, m ∈ ms → GM m) : yard_Zones ms = some (zonesL ms) := by
  unfold yard_Zones zonesL
  have key : ∀ (l : List T_api_Machine) (k : Nat) (had : List (ByteArray × Int)) (acc : List ByteArray) (B : Int), (∀ m, m ∈ l → GM m) → l.length + acc.length ≤ 1000 → 0 ≤ B → B + (l.length : Int) ≤ 1000 →
      (∀ z, (V.mg had z).isSome = inL z acc ∧ ∀ v, V.mg had z = some v → 1 ≤ v ∧ v ≤ B) → yard_Zones.l1 l k had acc = some (l.foldl zstep acc) := by
    intro l
    induction l with
    | nil => intro k had acc B _ _ _ _ _; rfl
    | cons x l ih =>
      intro k had acc B hm hlen h0 hB hI
      rw [List.length_cons] at hlen hB
      have hx := hm x (List.mem_cons_self ..)
      rw [yard_Zones.l1, show (⟨#[122, 111, 110, 101]⟩ : ByteArray) = zoneK from rfl, labels_Get_eq hx.so, List.foldl_cons]
      simp only [Option.bind_some, mg_mp, if_true, Option.getD_some]
      have hml : ∀ m, m ∈ l → GM m := fun m h => hm m (List.mem_cons_of_mem _ h)
      obtain ⟨i1, i2⟩ := hI (getS x.Labels zoneK).1
      by_cases hc : ((getS x.Labels zoneK).2 && x.Ready) = true
      · have hc' : ((!(getS x.Labels zoneK).2) || (!x.Ready)) = false := by
          simp only [Bool.and_eq_true] at hc
          rw [hc.1, hc.2]; rfl
        rw [hc']
        simp only [Bool.false_eq_true, if_false]
        have hnext : ∀ acc', (∀ z, inL z acc' = (decide (z = (getS x.Labels zoneK).1) || inL z acc)) → ∀ z, (V.mg (V.mp had (getS x.Labels zoneK).1 (IntKind.i64.wrap (((V.mg had (getS x.Labels zoneK).1).getD 0) + 1))) z).isSome = inL z acc' ∧ ∀ v, V.mg (V.mp had (getS x.Labels zoneK).1 (IntKind.i64.wrap (((V.mg had (getS x.Labels zoneK).1).getD 0) + 1))) z = some v → 1 ≤ v ∧ v ≤ B + 1 := by
          intro acc' ha z
          rw [mg_mp, ha]
          by_cases e : z = (getS x.Labels zoneK).1
          · rw [if_pos e]
            refine ⟨by simp [e], fun v hv => ?_⟩
            injection hv with hv
            rw [← hv]
            cases hg : V.mg had (getS x.Labels zoneK).1 with
            | none => rw [Option.getD_none, w_eq (by omega) (by omega)]; omega
            | some c =>
              have := i2 c hg
              rw [Option.getD_some, w_eq (by omega) (by omega)]; omega
          · rw [if_neg e]
            refine ⟨by rw [(hI z).1]; simp [e], fun v hv => ?_⟩
            have := (hI z).2 v hv
            omega
        unfold zstep
        cases hin : inL (getS x.Labels zoneK).1 acc with
        | true =>
          rw [hin] at i1
          obtain ⟨c, hg⟩ := Option.isSome_iff_exists.1 i1
          have hcr := i2 c hg
          rw [hg] at hnext ⊢
          rw [Option.getD_some] at hnext ⊢
          rw [if_neg (show ¬ (IntKind.i64.wrap (c + 1) == 1) = true by rw [w_eq (by omega) (by omega)]; simp; omega), if_neg (show ¬ ((getS x.Labels zoneK).2 && x.Ready && !true) = true by simp)]
          exact ih (k + 1) _ acc (B + 1) hml (by omega) (by omega) (by omega) (hnext acc fun z => by
            by_cases e : z = (getS x.Labels zoneK).1
            · rw [e, hin]; simp
            · simp [e])
        | false =>
          rw [hin] at i1
          have hg : V.mg had (getS x.Labels zoneK).1 = none := by
            cases hg : V.mg had (getS x.Labels zoneK).1 with
            | none => rfl
            | some c => rw [hg] at i1; simp at i1
          rw [hg] at hnext ⊢
          rw [Option.getD_none] at hnext ⊢
          rw [if_pos (show (IntKind.i64.wrap (0 + 1) == 1) = true by decide), if_pos (show ((getS x.Labels zoneK).2 && x.Ready && !false) = true by rw [hc]; rfl), ap_ok (by omega) (by simp; omega)]
          simp only [Option.bind_some]
          exact ih (k + 1) _ (acc ++ [(getS x.Labels zoneK).1]) (B + 1) hml (by simp; omega) (by omega) (by omega) (hnext _ fun z => by
            unfold inL
            rw [List.any_append, Bool.or_comm]
            congr 1
            simp [eq_comm])
      · have hc' : ((!(getS x.Labels zoneK).2) || (!x.Ready)) = true := by
          cases h1 : (getS x.Labels zoneK).2 <;> cases h2 : x.Ready <;> simp [h1, h2] at hc ⊢
        rw [hc']
        simp only [if_true]
        unfold zstep
        have hc2 : ((getS x.Labels zoneK).2 && x.Ready) = false := by simpa using hc
        rw [hc2, Bool.false_and, if_neg (by simp)]
        exact ih (k + 1) had acc B hml (by omega) h0 (by omega) hI
  rw [key ms 0 [] [] 0 hm (by simpa using hl) (Int.le_refl 0) (by omega) (fun z => ⟨rfl, fun v hv => by cases hv⟩)]
  rfl

/-! counts -/
def inZ (ms : List T_api_Machine) (p : T_api_Pod) (z : ByteArray) (b : T_api_Bound) : Bool := (!decide (b.On = ⟨#[]⟩) && !decide (b.Pod.Name = p.Name)) && (decide (zoneS ms b.On = some z) && hasB b.Pod.Labels p.Spread)
def cntZ (ms : List T_api_Machine) (bs : List T_api_Bound) (p : T_api_Pod) (z : ByteArray) : Int := ((bs.filter (inZ ms p z)).length : Int)
theorem cntZ_range (ms : List T_api_Machine) (bs : List T_api_Bound) (p : T_api_Pod) (z : ByteArray) : 0 ≤ cntZ ms bs p z ∧ cntZ ms bs p z ≤ (bs.length : Int) := by
  have := List.length_filter_le (inZ ms p z) bs
  unfold cntZ
  omega

theorem tally_cnt {ms : List T_api_Machine} {bs : List T_api_Bound} (p : T_api_Pod) (hbl : bs.length ≤ 1000) (hm : ∀ m, m ∈ ms → GM m) (hn : (ms.map (·.Name)).Nodup) : ∃ t, apart_tally ms bs p = some t ∧ ∀ z, (V.mg t z).getD 0 = cntZ ms bs p z := by
  unfold apart_tally
  rw [zones_V]
  simp only [Option.bind_some]
  have key : ∀ (l : List T_api_Bound) (k : Nat) (n : List (ByteArray × Int)) (B : Int), 0 ≤ B → B + (l.length : Int) ≤ 1000 → (∀ z, 0 ≤ (V.mg n z).getD 0 ∧ (V.mg n z).getD 0 ≤ B) → ∃ t, apart_tally.l1 p (zonesV ms) l k n = some t ∧ ∀ z, (V.mg t z).getD 0 = (V.mg n z).getD 0 + ((l.filter (inZ ms p z)).length : Int) := by
    intro l
    induction l with
    | nil => intro k n B _ _ _; exact ⟨n, rfl, fun z => by simp⟩
    | cons x l ih =>
      intro k n B h0 hB hI
      rw [List.length_cons] at hB
      rw [apart_tally.l1, has_B, zones_mg hm hn]
      simp only [seq_eq, Option.bind_some]
      by_cases hc : ((((zoneS ms x.On).isSome && !decide (x.On = ⟨#[]⟩)) && !decide (x.Pod.Name = p.Name)) && hasB x.Pod.Labels p.Spread) = true
      · simp only [Bool.and_eq_true] at hc
        obtain ⟨⟨⟨c1, c2⟩, c3⟩, c4⟩ := hc
        obtain ⟨zz, hz⟩ := Option.isSome_iff_exists.1 c1
        rw [if_pos (show (((zoneS ms x.On).isSome && !decide (x.On = ⟨#[]⟩)) && !decide (x.Pod.Name = p.Name)) = true by rw [c1, c2, c3]; rfl)]
        simp only [Option.bind_some]
        rw [if_pos c4, hz, Option.getD_some]
        have hv := hI zz
        obtain ⟨t, h1, h2⟩ := ih (k + 1) (V.mp n zz (IntKind.i64.wrap (((V.mg n zz).getD 0) + 1))) (B + 1) (by omega) (by omega) (fun z => by
          rw [mg_mp]
          by_cases e : z = zz
          · rw [if_pos e, Option.getD_some, w_eq (by omega) (by omega)]; omega
          · rw [if_neg e]; have := hI z; omega)
        refine ⟨t, h1, fun z => ?_⟩
        rw [h2, mg_mp, List.filter_cons]
        by_cases e : z = zz
        · subst e
          rw [if_pos rfl, if_pos (show inZ ms p z x = true by unfold inZ; rw [c2, c3, c4, hz]; simp), Option.getD_some, w_eq (by omega) (by omega), List.length_cons]
          omega
        · rw [if_neg e, if_neg (show ¬ inZ ms p z x = true by
            unfold inZ
            rw [hz]
            have : ¬ zz = z := fun q => e q.symm
            simp [this])]
      · have hstep : ((if (((zoneS ms x.On).isSome && !decide (x.On = ⟨#[]⟩)) && !decide (x.Pod.Name = p.Name)) = true then some (hasB x.Pod.Labels p.Spread) else some false).bind fun c => if c = true then apart_tally.l1 p (zonesV ms) l (k + 1) (V.mp n ((zoneS ms x.On).getD ⟨#[]⟩) (IntKind.i64.wrap (((V.mg n ((zoneS ms x.On).getD ⟨#[]⟩)).getD (0 : Int)) + (1 : Int)))) else apart_tally.l1 p (zonesV ms) l (k + 1) n) = apart_tally.l1 p (zonesV ms) l (k + 1) n := by
          cases c1 : (((zoneS ms x.On).isSome && !decide (x.On = ⟨#[]⟩)) && !decide (x.Pod.Name = p.Name)) with
          | false => rfl
          | true =>
            cases c2 : hasB x.Pod.Labels p.Spread with
            | false => rfl
            | true => rw [c1, c2] at hc; exact absurd rfl hc
        rw [hstep]
        obtain ⟨t, h1, h2⟩ := ih (k + 1) n B h0 (by omega) hI
        refine ⟨t, h1, fun z => ?_⟩
        rw [h2, List.filter_cons, if_neg]
        intro hz
        apply hc
        unfold inZ at hz
        simp only [Bool.and_eq_true, decide_eq_true_eq] at hz
        rw [hz.2.1, hz.1.1, hz.1.2, hz.2.2]
        rfl
  obtain ⟨t, h1, h2⟩ := key bs 0 [] 0 (Int.le_refl 0) (by omega) (fun z => by simp [V.mg])
  refine ⟨t, by rw [h1]; rfl, fun z => ?_⟩
  rw [h2]
  unfold cntZ
  simp [V.mg]

theorem Counts_eq {ms : List T_api_Machine} {bs : List T_api_Bound} (p : T_api_Pod) (hl : ms.length ≤ 1000) (hbl : bs.length ≤ 1000) (hm : ∀ m, m ∈ ms → GM m) (hn : (ms.map (·.Name)).Nodup) : apart_Counts ms bs p = some (zonesL ms, (zonesL ms).map (cntZ ms bs p)) := by
  unfold apart_Counts
  obtain ⟨t, ht, hc⟩ := tally_cnt (bs := bs) p hbl hm hn
  have hzl := zonesL_len ms
  rw [ht, yZones_eq hl hm]
  simp only [Option.bind_some]
  have key : ∀ (l : List ByteArray) (k : Nat) (acc : List Int), l.length + acc.length ≤ 1000 → apart_Counts.l1 t l k acc = some (acc ++ l.map (cntZ ms bs p)) := by
    intro l
    induction l with
    | nil => intro k acc _; simp [apart_Counts.l1]
    | cons x l ih =>
      intro k acc h
      rw [List.length_cons] at h
      rw [apart_Counts.l1, hc, ap_ok (by omega) (by simp; omega)]
      simp only [Option.bind_some]
      rw [ih (k + 1) _ (by simp; omega)]
      simp
  rw [key _ 0 [] (by simp; omega)]
  rfl

theorem Counts11_eq {ms : List T_api_Machine} {bs : List T_api_Bound} {p : T_api_Pod} (hl : ms.length ≤ 1000) (hbl : bs.length ≤ 1000) (hm : ∀ m, m ∈ ms → GM m) (hb : ∀ b, b ∈ bs → GP b.Pod) (hp : GP p) : ref11_Counts ms bs p = some (zonesL ms, (zonesL ms).map (cntZ ms bs p)) := by
  unfold ref11_Counts
  have hzl := zonesL_len ms
  have hsp := hp.lp.spread.1
  rw [Zones9_eq hl hm]
  simp only [Option.bind_some]
  generalize zonesL ms = zl at *
  have := idxFoldL (F := fun n s i => ref11_Counts.l1 ms bs p zl n s i) (l := zl) (fun acc z => acc ++ [cntZ ms bs p z]) id (fun k s => s.length ≤ k) (by omega) (fun n s i hi hI => by
    rw [ref11_Counts.l1, if_pos (dlt hi), wk1 (by omega)]
    have hin : ref11_Counts.l2 ms bs p zl (i : Int) FU 0 0 = some (cntZ ms bs p zl[i]) := by
      have := idxFoldL (F := fun n s j => ref11_Counts.l2 ms bs p zl (i : Int) n s j) (l := bs) (fun c b => if inZ ms p zl[i] b = true then c + 1 else c) id (fun k s => 0 ≤ s ∧ s ≤ (k : Int)) (by omega) (fun n s j hj hI => by
        have hg := hb bs[j] (List.getElem_mem _)
        have h1 := hg.lp.labels.1
        rw [ref11_Counts.l2, if_pos (dlt hj), glk hj, wk1 (by omega)]
        simp only [Option.bind_some]
        rw [zone11_eq bs[j].On hl hm, Has5_B (by omega) (by omega) hg.labels, glk hi]
        simp only [Option.bind_some, seq_eq]
        have hq : ((if (!decide (bs[j].On = ⟨#[]⟩)) = true then some (!decide (bs[j].Pod.Name = p.Name)) else some false).bind fun c => (if (c && (zoneS ms bs[j].On).isSome) = true then some (decide ((zoneS ms bs[j].On).getD ⟨#[]⟩ = zl[i])) else some false).bind fun c2 => if c2 = true then some (hasB bs[j].Pod.Labels p.Spread) else some false) = some (inZ ms p zl[i] bs[j]) := by
          unfold inZ
          cases h1 : decide (bs[j].On = ⟨#[]⟩) <;> cases h2 : decide (bs[j].Pod.Name = p.Name) <;> cases h3 : zoneS ms bs[j].On with
          | none => simp
          | some zz => by_cases h4 : zz = zl[i] <;> cases h5 : hasB bs[j].Pod.Labels p.Spread <;> simp [h4]
        have hbind : ∀ (X : Bool → Option Int), ((if (!decide (bs[j].On = ⟨#[]⟩)) = true then some (!decide (bs[j].Pod.Name = p.Name)) else some false).bind fun c => (if (c && (zoneS ms bs[j].On).isSome) = true then some (decide ((zoneS ms bs[j].On).getD ⟨#[]⟩ = zl[i])) else some false).bind fun c2 => (if c2 = true then some (hasB bs[j].Pod.Labels p.Spread) else some false).bind X) = X (inZ ms p zl[i] bs[j]) := fun X => by
          have := congrArg (fun o => o.bind X) hq
          simp only [Option.bind_some] at this
          rw [← this, Option.bind_assoc]
          congr 1
          funext c
          rw [Option.bind_assoc]
        rw [hbind]
        cases inZ ms p zl[i] bs[j] with
        | true => rw [if_pos rfl, if_pos rfl, w_eq (by omega) (by omega)]; exact ⟨rfl, by omega⟩
        | false => rw [if_neg (by simp), if_neg (by simp)]; exact ⟨rfl, by omega⟩) (fun n s => by rw [ref11_Counts.l2, if_neg dnl]; rfl) 0 (by simp)
      rw [show ref11_Counts.l2 ms bs p zl (i : Int) FU 0 0 = _ from this]
      congr 1
      have key : ∀ (l : List T_api_Bound) (c : Int), l.foldl (fun c b => if inZ ms p zl[i] b = true then c + 1 else c) c = c + ((l.filter (inZ ms p zl[i])).length : Int) := by
        intro l
        induction l with
        | nil => intro c; simp
        | cons x l ih =>
          intro c
          rw [List.foldl_cons, ih, List.filter_cons]
          cases inZ ms p zl[i] x with
          | true => rw [if_pos rfl, if_pos rfl, List.length_cons]; omega
          | false => rw [if_neg (by simp), if_neg (by simp)]
      unfold cntZ
      show bs.foldl (fun c b => if inZ ms p zl[i] b = true then c + 1 else c) 0 = _
      rw [key]; omega
    rw [hin]
    simp only [Option.bind_some]
    rw [ap_ok (by omega) (by simp; omega)]
    exact ⟨rfl, by simp; omega⟩) (fun n s => by rw [ref11_Counts.l1, if_neg dnl]; rfl) [] (by simp)
  rw [show ref11_Counts.l1 ms bs p zl FU [] 0 = _ from this]
  simp only [Option.bind_some, id]
  have key : ∀ (l : List ByteArray) (acc : List Int), l.foldl (fun acc z => acc ++ [cntZ ms bs p z]) acc = acc ++ l.map (cntZ ms bs p) := by
    intro l
    induction l with
    | nil => intro acc; simp
    | cons x l ih => intro acc; rw [List.foldl_cons, ih]; simp
  rw [key, List.nil_append]
end Go.Proofs.YtbkdglcedgiogaaGreat.M
/-
  Plain laws: whether too many would stand in a zone, and why a pod cannot run, told alike by the program and the document. Own text.
-/
namespace Go.Proofs.YtbkdglcedgiogaaGreat.M
open Go Go.Proofs Go.Proofs.YtbkdglcedgiogaaGreat.V
set_option linter.unusedVariables false

/-- The least count, and that of one's own zone. -/
def mstep (my : Option ByteArray) (cnt : ByteArray → Int) (s : Bool × Int × Int) (z : ByteArray) : Bool × Int × Int := if my = some z then (true, cnt z, min s.2.2 (cnt z)) else (s.1, s.2.1, min s.2.2 (cnt z))

theorem many_fold (my : Option ByteArray) (cnt : ByteArray → Int) : ∀ (l : List ByteArray) (s : Bool × Int × Int), (l.foldl (mstep my cnt) s).1 = (s.1 || l.any fun z => decide (my = some z)) ∧ (l.foldl (mstep my cnt) s).2.2 = l.foldl (fun a z => min a (cnt z)) s.2.2 ∧
    (l.foldl (mstep my cnt) s).2.1 = (if (l.any fun z => decide (my = some z)) = true then cnt (my.getD ⟨#[]⟩) else s.2.1)
  | [], s => by simp
  | z :: l, s => by
    obtain ⟨h1, h2, h3⟩ := many_fold my cnt l (mstep my cnt s z)
    rw [List.foldl_cons, h1, h2, h3, List.any_cons, List.foldl_cons]
    unfold mstep
    by_cases e : my = some z
    · rw [if_pos e]
      simp [e]
    · rw [if_neg e]
      have e' : decide (my = some z) = false := by simpa using e
      rw [e', Bool.false_or]
      exact ⟨rfl, rfl, rfl⟩

theorem min_fold {cnt : ByteArray → Int} (l : List ByteArray) : ∀ (a : Int), (l.foldl (fun a z => min a (cnt z)) a) ≤ a ∧ (∀ z, z ∈ l → (l.foldl (fun a z => min a (cnt z)) a) ≤ cnt z) ∧ ((l.foldl (fun a z => min a (cnt z)) a) = a ∨ ∃ z, z ∈ l ∧ (l.foldl (fun a z => min a (cnt z)) a) = cnt z) := by
  induction l with
  | nil => intro a; exact ⟨Int.le_refl _, fun z h => (by cases h), .inl rfl⟩
  | cons x l ih =>
    intro a
    obtain ⟨h1, h2, h3⟩ := ih (min a (cnt x))
    rw [List.foldl_cons]
    generalize List.foldl (fun a z => min a (cnt z)) (min a (cnt x)) l = R at *
    refine ⟨by omega, fun z hz => ?_, ?_⟩
    · rcases List.mem_cons.1 hz with rfl | hz
      · omega
      · exact h2 z hz
    · rcases h3 with h3 | ⟨z, hz, h3⟩
      · by_cases e : a ≤ cnt x
        · left; omega
        · right; exact ⟨x, List.mem_cons_self .., by omega⟩
      · right; exact ⟨z, List.mem_cons_of_mem _ hz, h3⟩

theorem Many_ref {ms : List T_api_Machine} {bs : List T_api_Bound} {p : T_api_Pod} (on : ByteArray) (hl : ms.length ≤ 400) (hbl : bs.length ≤ 400) (hm : ∀ m, m ∈ ms → GM m) (hn : (ms.map (·.Name)).Nodup) (hb : ∀ b, b ∈ bs → GP b.Pod) (hp : GP p) : ref11_Many ms bs p on = some (manyV ms bs p on) := by
  rw [← many_V bs p on (by omega)]
  unfold ref11_Many apart_Many
  obtain ⟨r, hr, hf⟩ := Find9_eq ms on (by omega)
  obtain ⟨r', hr', hf'⟩ := Find_first ms on (by omega)
  have hrr : decide (r < (0 : Int)) = decide (r' < (0 : Int)) := by
    rw [decide_eq_decide]
    rcases hf with ⟨q, rfl, b, c, e⟩ | ⟨rfl, b⟩
    · rcases hf' with ⟨q', rfl, b', c', e'⟩ | ⟨rfl, b'⟩
      · omega
      · exact absurd c (b' q b)
    · rcases hf' with ⟨q', rfl, b', c', e'⟩ | ⟨rfl, b'⟩
      · exact absurd c' (b q' b')
      · exact Iff.rfl
  rw [hr, hr']
  simp only [Option.bind_some, hrr]
  have hlp := hp.lp.labels.1
  have hsp := hp.lp.spread.1
  by_cases hs : p.Spread.length = 0
  · rw [hs]; rfl
  have hs' : ((p.Spread.length : Int) == 0) = false := by
    have : ¬ (p.Spread.length : Int) = 0 := by omega
    simpa using this
  rw [hs']
  simp only [Bool.false_eq_true, if_false, Option.bind_some]
  by_cases hneg : r' < 0
  · rw [if_pos (by simpa using hneg), if_pos (by simpa using hneg)]
  rw [if_neg (by simpa using hneg), if_neg (by simpa using hneg)]
  rw [zone11_eq on (by omega) hm, Counts11_eq (by omega) (by omega) hm hb hp, zones_V, Counts_eq p (by omega) (by omega) hm hn, Has5_B (by omega) (by omega) hp.labels, has_B]
  simp only [Option.bind_some]
  have hcr := cntZ_range ms bs p
  have hzl := zonesL_len ms
  have hsk := hp.skew hs
  have hzmg : V.mg (zonesV ms) on = zoneS ms on := zones_mg hm hn on
  generalize hcnt : cntZ ms bs p = cnt at *
  generalize hzz : zonesL ms = zl at *
  -- the program's round
  have hP : ∀ (l : List ByteArray) (k : Nat) (s : Bool × Int × Int), zl.drop k = l → apart_Many.l1 on (zonesV ms) (zl, zl.map cnt) l k s.1 s.2.1 s.2.2 = some (l.foldl (mstep (zoneS ms on) cnt) s) := by
    intro l
    induction l with
    | nil => intro k s _; rfl
    | cons z l ih =>
      intro k s hd
      have hk : k < zl.length := by
        have := congrArg List.length hd
        rw [List.length_drop, List.length_cons] at this
        omega
      have hx : zl[k] = z := by
        rw [List.drop_eq_getElem_cons hk] at hd
        exact (List.cons.inj hd).1
      have hd2 : zl.drop (k + 1) = l := by
        rw [List.drop_eq_getElem_cons hk] at hd
        exact (List.cons.inj hd).2
      have hg : V.gl (zl.map cnt) (k : Int) = some (cnt z) := by rw [glk (by simpa using hk)]; simp [hx]
      rw [apart_Many.l1]
      simp only [hg, Option.bind_some, hzmg, seq_eq]
      rw [List.foldl_cons]
      cases hz : zoneS ms on with
      | none =>
        simp only [Option.isSome_none, Bool.false_and, Bool.false_eq_true, if_false]
        rw [hz] at ih
        have := ih (k + 1) (mstep none cnt s z) hd2
        unfold mstep at this ⊢
        rw [if_neg (by simp)] at this ⊢
        exact this
      | some y =>
        rw [hz] at ih
        have := ih (k + 1) (mstep (some y) cnt s z) hd2
        simp only [Option.isSome_some, Bool.true_and, Option.getD_some]
        unfold mstep at this ⊢
        by_cases e : z = y
        · subst e
          rw [if_pos (by simp)]
          rw [if_pos rfl] at this ⊢
          exact this
        · have e' : ¬ (some y = some z) := fun q => e (by injection q with q; exact q.symm)
          rw [if_neg (by simpa using e)]
          rw [if_neg e'] at this ⊢
          exact this
  rw [show apart_Many.l1 on (zonesV ms) (zl, zl.map cnt) zl 0 false 0 401 = _ from hP zl 0 (false, 0, 401) rfl]
  -- the document's
  have hstep : ∀ (n : Nat) (s : Bool × Int × Int) (k : Nat) (hk : k < zl.length), 1 ≤ k → ref11_Many.l1 ((zoneS ms on).getD ⟨#[]⟩, (zoneS ms on).isSome) (zl, zl.map cnt) (n + 1) s.2.1 s.2.2 (k : Int) = ref11_Many.l1 ((zoneS ms on).getD ⟨#[]⟩, (zoneS ms on).isSome) (zl, zl.map cnt) n (mstep (zoneS ms on) cnt s zl[k]).2.1 (mstep (zoneS ms on) cnt s zl[k]).2.2 ((k + 1 : Nat) : Int) := by
    intro n s k hk h1
    have hg : V.gl (zl.map cnt) (k : Int) = some (cnt zl[k]) := by rw [glk (by simpa using hk)]; simp
    rw [ref11_Many.l1, if_pos (dlt hk), wk1 (by omega)]
    have hk0 : ((k : Int) == 0) = false := by
      have : ¬ (k : Int) = 0 := by omega
      simpa using this
    simp only [hk0, hg, glk hk, Bool.false_eq_true, if_false, Option.bind_some, seq_eq]
    unfold mstep
    cases hz : zoneS ms on with
    | none =>
      simp only [Option.isSome_none, Bool.false_eq_true, if_false, Option.bind_some]
      rw [if_neg (show ¬ ((none : Option ByteArray) = some zl[k]) by simp)]
      by_cases hlt : cnt zl[k] < s.2.2
      · rw [if_pos (by simpa using hlt), show min s.2.2 (cnt zl[k]) = cnt zl[k] by omega]
      · rw [if_neg (by simpa using hlt), show min s.2.2 (cnt zl[k]) = s.2.2 by omega]
    | some y =>
      simp only [Option.isSome_some, if_true, Option.bind_some, Option.getD_some]
      by_cases e : zl[k] = y
      · subst e
        rw [if_pos rfl]
        by_cases hlt : cnt zl[k] < s.2.2
        · simp only [hlt, decide_true, if_true]; rw [show min s.2.2 (cnt zl[k]) = cnt zl[k] by omega]
        · simp only [hlt, decide_false, Bool.false_eq_true, if_false, decide_true, if_true]; rw [show min s.2.2 (cnt zl[k]) = s.2.2 by omega]
      · have e' : ¬ (some y = some zl[k]) := fun q => e (by injection q with q; exact q.symm)
        rw [if_neg e']
        by_cases hlt : cnt zl[k] < s.2.2
        · simp only [hlt, e, decide_true, decide_false, Bool.false_eq_true, if_true, if_false]; rw [show min s.2.2 (cnt zl[k]) = cnt zl[k] by omega]
        · simp only [hlt, e, decide_false, Bool.false_eq_true, if_false]; rw [show min s.2.2 (cnt zl[k]) = s.2.2 by omega]
  have hend : ∀ n a b, ref11_Many.l1 ((zoneS ms on).getD ⟨#[]⟩, (zoneS ms on).isSome) (zl, zl.map cnt) (n + 1) a b (zl.length : Int) = some (a, b) := fun n a b => by rw [ref11_Many.l1, if_neg dnl]
  cases hzl0 : zl with
  | nil =>
    have h0 : ref11_Many.l1 ((zoneS ms on).getD ⟨#[]⟩, (zoneS ms on).isSome) ([], [].map cnt) FU (-1) 0 0 = some (-1, 0) := rfl
    rw [h0]
    simp only [Option.bind_some]
    rw [if_pos (by decide)]
    cases hasB p.Labels p.Spread <;> rfl
  | cons z zs =>
    have hpos : 0 < zl.length := by rw [hzl0]; simp
    have hz0 : zl[0] = z := by simp [hzl0]
    obtain ⟨F, hF⟩ : ∃ F, FU = F + 1 := ⟨FU - 1, rfl⟩
    -- the first round
    have hfirst : ref11_Many.l1 ((zoneS ms on).getD ⟨#[]⟩, (zoneS ms on).isSome) (zl, zl.map cnt) FU (-1) 0 0 = ref11_Many.l1 ((zoneS ms on).getD ⟨#[]⟩, (zoneS ms on).isSome) (zl, zl.map cnt) F (mstep (zoneS ms on) cnt (false, -1, cnt z) z).2.1 (mstep (zoneS ms on) cnt (false, -1, cnt z) z).2.2 ((0 + 1 : Nat) : Int) := by
      have hg : V.gl (zl.map cnt) ((0 : Nat) : Int) = some (cnt z) := by rw [glk (by simpa using hpos)]; simp [hz0]
      have hg' : V.gl zl ((0 : Nat) : Int) = some z := by rw [glk hpos, hz0]
      rw [hF, show (0 : Int) = ((0 : Nat) : Int) from rfl, ref11_Many.l1, if_pos (dlt hpos), wk1 (by omega)]
      have hk0 : (((0 : Nat) : Int) == ((0 : Nat) : Int)) = true := by simp
      have hk1 : (((0 : Nat) : Int) == (0 : Int)) = true := rfl
      simp only [hk0, hk1, hg, hg', if_true, Option.bind_some, seq_eq]
      unfold mstep
      cases hz : zoneS ms on with
      | none =>
        simp only [Option.isSome_none, Bool.false_eq_true, if_false, Option.bind_some]
        rw [if_neg (show ¬ ((none : Option ByteArray) = some z) by simp), show min (cnt z) (cnt z) = cnt z by omega]
      | some y =>
        simp only [Option.isSome_some, if_true, Option.bind_some, Option.getD_some]
        by_cases e : z = y
        · subst e
          simp only [decide_true, if_true]; rw [show min (cnt z) (cnt z) = cnt z by omega]
        · have e' : ¬ (some y = some z) := fun q => e (by injection q with q; exact q.symm)
          rw [if_neg e']
          simp only [e, decide_false, Bool.false_eq_true, if_false]; rw [show min (cnt z) (cnt z) = cnt z by omega]
    have hrest : ∀ (m k n : Nat) (s : Bool × Int × Int), zl.length - k ≤ m → m < n → k ≤ zl.length → 1 ≤ k → ref11_Many.l1 ((zoneS ms on).getD ⟨#[]⟩, (zoneS ms on).isSome) (zl, zl.map cnt) n s.2.1 s.2.2 (k : Int) = some (((zl.drop k).foldl (mstep (zoneS ms on) cnt) s).2.1, ((zl.drop k).foldl (mstep (zoneS ms on) cnt) s).2.2) := by
      intro m
      induction m with
      | zero =>
        intro k n s h1 h2 h3 h4
        obtain ⟨n, rfl⟩ : ∃ q, n = q + 1 := ⟨n - 1, by omega⟩
        obtain rfl : k = zl.length := by omega
        rw [hend, List.drop_eq_nil_of_le (Nat.le_refl _)]; rfl
      | succ m ih =>
        intro k n s h1 h2 h3 h4
        obtain ⟨n, rfl⟩ : ∃ q, n = q + 1 := ⟨n - 1, by omega⟩
        by_cases hk : k < zl.length
        · rw [hstep n s k hk h4, ih (k + 1) n _ (by omega) (by omega) (by omega) (by omega), List.drop_eq_getElem_cons hk]; rfl
        · obtain rfl : k = zl.length := by omega
          rw [hend, List.drop_eq_nil_of_le (Nat.le_refl _)]; rfl
    have hFU : zl.length < F := by
      have : F = FU - 1 := by omega
      rw [this]; unfold FU; omega
    have hdoc := hrest zl.length 1 F (mstep (zoneS ms on) cnt (false, -1, cnt z) z) (by omega) hFU (by omega) (Nat.le_refl _)
    have hd1 : zl.drop 1 = zs := by rw [hzl0]; rfl
    rw [hd1] at hdoc
    rw [← hzl0, hfirst, show ((0 + 1 : Nat) : Int) = ((1 : Nat) : Int) from rfl, hdoc]
    rw [show zs.foldl (mstep (zoneS ms on) cnt) (mstep (zoneS ms on) cnt (false, -1, cnt z) z) = zl.foldl (mstep (zoneS ms on) cnt) (false, -1, cnt z) by rw [hzl0]; rfl]
    simp only [Option.bind_some]
    obtain ⟨a1, a2, a3⟩ := many_fold (zoneS ms on) cnt zl (false, 0, 401)
    obtain ⟨b1, b2, b3⟩ := many_fold (zoneS ms on) cnt zl (false, -1, cnt z)
    simp only at a1 a2 a3 b1 b2 b3
    rw [a1, a2, a3, b2, b3, Bool.false_or]
    have hle : ∀ y, cnt y ≤ 400 := fun y => by have := (hcr y).2; omega
    have hmin : zl.foldl (fun a z => min a (cnt z)) 401 = zl.foldl (fun a z => min a (cnt z)) (cnt z) := by
      obtain ⟨u1, u2, u3⟩ := min_fold (cnt := cnt) zl 401
      obtain ⟨v1, v2, v3⟩ := min_fold (cnt := cnt) zl (cnt z)
      have hzin : z ∈ zl := by rw [hzl0]; exact List.mem_cons_self ..
      have w1 := u2 z hzin
      have w2 := hle z
      rcases u3 with u3 | ⟨y, hy, u3⟩
      · omega
      · have := v2 y hy
        rcases v3 with v3 | ⟨y', hy', v3⟩
        · omega
        · have := u2 y' hy'
          omega
    rw [hmin]
    have hLr : 0 ≤ zl.foldl (fun a z => min a (cnt z)) (cnt z) ∧ zl.foldl (fun a z => min a (cnt z)) (cnt z) ≤ 400 := by
      obtain ⟨v1, v2, v3⟩ := min_fold (cnt := cnt) zl (cnt z)
      have := hle z
      refine ⟨?_, by omega⟩
      rcases v3 with v3 | ⟨y', _, v3⟩
      · have := (hcr z).1; omega
      · have := (hcr y').1; omega
    generalize zl.foldl (fun a z => min a (cnt z)) (cnt z) = L at *
    cases hmet : zl.any fun z => decide (zoneS ms on = some z) with
    | false =>
      simp only [Bool.false_eq_true, if_false]
      rw [if_pos (by decide)]
      cases hasB p.Labels p.Spread <;> rfl
    | true =>
      simp only [if_true]
      have hmr := hcr ((zoneS ms on).getD ⟨#[]⟩)
      have hml := hle ((zoneS ms on).getD ⟨#[]⟩)
      generalize cnt ((zoneS ms on).getD ⟨#[]⟩) = M at *
      rw [if_neg (by simp; omega), w_eq (x := M + 1) (by omega) (by omega), w_eq (x := M + 1 - L) (by omega) (by omega), w_eq (x := M - L) (by omega) (by omega), w_eq (x := L + p.Skew) (by omega) (by omega)]
      have e1 : decide (M + 1 - L > p.Skew) = decide (M + 1 > L + p.Skew) := by rw [decide_eq_decide]; omega
      have e2 : decide (M - L > p.Skew) = decide (M > L + p.Skew) := by rw [decide_eq_decide]; omega
      rw [e1, e2]
      cases hasB p.Labels p.Spread <;> simp

theorem Why12_eq {ms : List T_api_Machine} {bs : List T_api_Bound} {p : T_api_Pod} {m : T_api_Machine} (hl : ms.length ≤ 400) (hbl : bs.length ≤ 400) (hms : ∀ m, m ∈ ms → GM m) (hn : (ms.map (·.Name)).Nodup) (hb : ∀ b, b ∈ bs → GP b.Pod) (hp : GP p) (hm : m ∈ ms) :
    ref12_Why ms bs p m.Name = some (whyV ms bs p m) := by
  unfold ref12_Why
  obtain ⟨r, hr, hf⟩ := Find9_eq ms m.Name (by omega)
  rw [hr]
  simp only [Option.bind_some]
  rcases hf with ⟨k, rfl, hk, ⟨_, he⟩, _⟩ | ⟨rfl, b⟩
  · have hmk : ms[k] = m := by
      obtain ⟨i, hi, rfl⟩ := List.getElem_of_mem hm
      by_cases e : k = i
      · subst e; rfl
      · exfalso
        have hnd := (show (ms.map (·.Name)).Nodup ↔ _ from List.pairwise_iff_getElem).1 hn
        by_cases hlt : k < i
        · exact hnd k i (by simpa using hk) (by simpa using hi) hlt (by simpa using he)
        · exact hnd i k (by simpa using hi) (by simpa using hk) (by omega) (by simpa using he.symm)
    rw [if_neg (by simp), glk hk, hmk]
    simp only [Option.bind_some]
    rw [Suits_ref (hms m hm) hp (by omega) hb]
    unfold whyV
    simp only [Option.bind_some]
    by_cases h : suitV m bs p = 0
    · rw [if_neg (by simp [h]), if_pos h]
      unfold ref11_Why
      rw [near_ref (by omega) (by omega) hms hn hb hp hm, Many_ref m.Name hl hbl hms hn hb hp]
      cases nearB (zonesV ms) bs p m.Name <;> cases manyV ms bs p m.Name <;> rfl
    · rw [if_pos (by simpa using h), if_neg h]
  · obtain ⟨i, hi, rfl⟩ := List.getElem_of_mem hm
    exact absurd ⟨hi, rfl⟩ (b i hi)

end Go.Proofs.YtbkdglcedgiogaaGreat.M
/-
  Plain laws: shares, as the document says. Own text.
-/
namespace Go.Proofs.YtbkdglcedgiogaaGreat.M
open Go Go.Proofs Go.Proofs.YtbkdglcedgiogaaGreat.V
open Go.IntKind (i64)
set_option linter.unusedVariables false
set_option maxRecDepth 20000
set_option maxHeartbeats 4000000

theorem part_same {a b : Int} (ha : rOK a = true) (hb : rOK b = true) : res_part a b = ref04_part a b ∧ isS (ref04_part a b) := by
  rw [rOK_iff] at ha hb
  unfold res_part ref04_part
  by_cases h0 : b = 0
  · subst h0
    by_cases h1 : a = 0
    · subst h1; exact ⟨rfl, 0, rfl⟩
    · rw [if_neg (by decide), if_pos (by rw [decide_eq_true_eq]; omega), if_pos (by rfl), if_neg (by simpa using h1)]
      exact ⟨rfl, _, rfl⟩
  · rw [if_pos (by rw [decide_eq_true_eq]; omega), if_neg (by simpa using h0)]
    refine ⟨rfl, ?_⟩
    unfold V.quo
    rw [if_neg h0]
    exact ⟨_, rfl⟩
theorem Share_same (a b : T_api_Res) : ref04_Share a b = res_Share a b ∧ isS (res_Share a b) := by
  unfold ref04_Share res_Share
  simp only [ref04_Right_eq, res_Right_eq, Option.bind_some]
  cases ha : resOK a with
  | false => exact ⟨rfl, _, rfl⟩
  | true =>
    cases hb : resOK b with
    | false => exact ⟨rfl, _, rfl⟩
    | true =>
      obtain ⟨a1, a2, _⟩ := resOK_split ha
      obtain ⟨b1, b2, _⟩ := resOK_split hb
      obtain ⟨c1, x, c2⟩ := part_same a1 b1
      obtain ⟨d1, y, d2⟩ := part_same a2 b2
      simp only [Bool.not_true, Bool.false_eq_true, if_false, Option.bind_some]
      rw [c1, d1, c2, d2]
      exact ⟨rfl, _, rfl⟩
theorem share_R (a b : T_api_Res) : ref04_Share a b = some (shareV a b) := by rw [(Share_same a b).1, share_V]
end Go.Proofs.YtbkdglcedgiogaaGreat.M

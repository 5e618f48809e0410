/-
  Plain laws: what bars a pod from a machine for other pods, told alike by the program and the document. Own text.
-/
import Derived.Test.YtbkdglcedgiogaaGreatPRef2
namespace Go.Proofs.YtbkdglcedgiogaaGreat.M
open Go Go.Proofs Go.Proofs.YtbkdglcedgiogaaGreat.V
set_option linter.unusedVariables false

theorem idxFoldK {α σ τ : Type} {F : Nat → σ → Int → Option τ} {l : List α} (f : σ → α → σ) (h : σ → τ) (k0 : Nat)
    (hs : ∀ n s (k : Nat) (hk : k < l.length), k0 ≤ k → F (n + 1) s (k : Int) = F n (f s l[k]) ((k + 1 : Nat) : Int)) (he : ∀ n s, F (n + 1) s (l.length : Int) = some (h s)) :
    ∀ (m k n : Nat) (s : σ), l.length - k ≤ m → m < n → k ≤ l.length → k0 ≤ k → F n s (k : Int) = some (h ((l.drop k).foldl f s)) := by
  intro m
  induction m with
  | zero =>
    intro k n s h1 h2 h3 h4
    obtain ⟨n, rfl⟩ : ∃ q, n = q + 1 := ⟨n - 1, by omega⟩
    obtain rfl : k = l.length := by omega
    rw [he, List.drop_eq_nil_of_le (Nat.le_refl _)]; rfl
  | succ m ih =>
    intro k n s h1 h2 h3 h4
    obtain ⟨n, rfl⟩ : ∃ q, n = q + 1 := ⟨n - 1, by omega⟩
    by_cases hk : k < l.length
    · rw [hs n s k hk h4, ih (k + 1) n _ (by omega) (by omega) (by omega) (by omega), List.drop_eq_getElem_cons hk]; rfl
    · obtain rfl : k = l.length := by omega
      rw [he, List.drop_eq_nil_of_le (Nat.le_refl _)]; rfl

theorem zoneS_cons (x : T_api_Machine) (l : List T_api_Machine) (name : ByteArray) : zoneS (x :: l) name = if x.Name = name then (if (getS x.Labels zoneK).2 = true then some (getS x.Labels zoneK).1 else none) else zoneS l name := by
  unfold zoneS
  rw [List.find?_cons]
  by_cases h : x.Name = name
  · rw [if_pos h, show decide (x.Name = name) = true by simpa using h]
  · rw [if_neg h, show decide (x.Name = name) = false by simpa using h]
theorem zoneS_none : ∀ (l : List T_api_Machine) (name : ByteArray), (∀ m, m ∈ l → m.Name ≠ name) → zoneS l name = none
  | [], _, _ => rfl
  | x :: l, name, h => by rw [zoneS_cons, if_neg (h x (List.mem_cons_self ..)), zoneS_none l name fun m hm => h m (List.mem_cons_of_mem _ hm)]

theorem zones_mg {ms : List T_api_Machine} (hm : ∀ m, m ∈ ms → GM m) (hn : (ms.map (·.Name)).Nodup) (name : ByteArray) : V.mg (zonesV ms) name = zoneS ms name := by
  have key : ∀ (l : List T_api_Machine) (k : Nat) (out : List (ByteArray × ByteArray)), (∀ m, m ∈ l → GM m) → (l.map (·.Name)).Nodup → ∃ z, apart_zones.l1 l k out = some z ∧ ∀ name, V.mg z name = (zoneS l name).or (V.mg out name) := by
    intro l
    induction l with
    | nil => intro k out _ _; exact ⟨out, rfl, fun name => by simp [zoneS]⟩
    | cons x l ih =>
      intro k out hm hn
      rw [List.map_cons, List.nodup_cons] at hn
      have hx := hm x (List.mem_cons_self ..)
      rw [apart_zones.l1, labels_Get_eq hx.so]
      simp only [Option.bind_some]
      show ∃ z, (if (getS x.Labels zoneK).2 = true then apart_zones.l1 l (k + 1) (V.mp out x.Name (getS x.Labels zoneK).1) else apart_zones.l1 l (k + 1) out) = some z ∧ _
      have hnone : zoneS l x.Name = none := zoneS_none l x.Name fun m hml e => hn.1 (List.mem_map.2 ⟨m, hml, e⟩)
      by_cases h : (getS x.Labels zoneK).2 = true
      · rw [if_pos h]
        obtain ⟨z, h1, h2⟩ := ih (k + 1) (V.mp out x.Name (getS x.Labels zoneK).1) (fun m h => hm m (List.mem_cons_of_mem _ h)) hn.2
        refine ⟨z, h1, fun name => ?_⟩
        rw [h2, zoneS_cons, mg_mp]
        by_cases e : x.Name = name
        · subst e; rw [hnone, if_pos rfl, if_pos rfl, if_pos h]; rfl
        · rw [if_neg e, if_neg (fun q => e q.symm)]
      · rw [if_neg h]
        obtain ⟨z, h1, h2⟩ := ih (k + 1) out (fun m h => hm m (List.mem_cons_of_mem _ h)) hn.2
        refine ⟨z, h1, fun name => ?_⟩
        rw [h2, zoneS_cons]
        by_cases e : x.Name = name
        · subst e; rw [hnone, if_pos rfl, if_neg h]
        · rw [if_neg e]
  obtain ⟨z, h1, h2⟩ := key ms 0 [] hm hn
  have hz : zonesV ms = z := by
    have := zones_V ms
    unfold apart_zones at this
    rw [h1] at this
    injection this with this
    exact this.symm
  rw [hz, h2]
  cases zoneS ms name <;> rfl

theorem tog_eq {ms : List T_api_Machine} (hl : ms.length ≤ 1000) (hm : ∀ m, m ∈ ms → GM m) (hn : (ms.map (·.Name)).Nodup) (a b : ByteArray) (w : Bool) : ref11_together ms a b w = some (oneB (zonesV ms) a b w) := by
  unfold ref11_together oneB
  rw [zone11_eq a hl hm, zone11_eq b hl hm, zones_mg hm hn, zones_mg hm hn]
  simp only [Option.bind_some, seq_eq]
  by_cases e : a = b
  · rw [if_pos (by simpa using e), if_pos (by simp [e])]; simp [e]
  · rw [if_neg (by simpa using e)]
    cases w with
    | false => rw [if_pos (by simp)]; simp [e]
    | true => rw [if_neg (by simp [e])]; simp

/-! near -/
theorem near_ref {ms : List T_api_Machine} {bs : List T_api_Bound} {p : T_api_Pod} {m : T_api_Machine} (hl : ms.length ≤ 1000) (hbl : bs.length ≤ 1000) (hmg : ∀ m, m ∈ ms → GM m) (hn : (ms.map (·.Name)).Nodup) (hb : ∀ b, b ∈ bs → GP b.Pod) (hp : GP p) (hm : m ∈ ms) :
    ref11_Near ms bs p m.Name = some (nearB (zonesV ms) bs p m.Name) := by
  unfold ref11_Near nearB
  obtain ⟨r, hr, hf⟩ := Find9_eq ms m.Name (by omega)
  have hr0 : ¬ r < 0 := by
    rcases hf with ⟨q, rfl, _⟩ | ⟨rfl, b⟩
    · omega
    · obtain ⟨i, hi, rfl⟩ := List.getElem_of_mem hm
      exact absurd ⟨hi, rfl⟩ (b i hi)
  rw [hr]
  simp only [Option.bind_some]
  rw [if_neg (by simpa using hr0)]
  have hlp := hp.lp.labels.1
  have hap := hp.lp.apart.1
  have hl1 := idxFindL (F := fun n i => ref11_Near.l1 ms bs p m.Name n i) (l := bs) (nearQ (zonesV ms) p m.Name) (fun _ => true) (by omega) (fun n k hk => by
    have hbk := hb bs[k] (List.getElem_mem _)
    have h1 := hbk.lp.labels.1
    have h2 := hbk.lp.apart.1
    rw [ref11_Near.l1, if_pos (dlt hk), glk hk, wk1 (by omega)]
    simp only [Option.bind_some]
    rw [Has5_B (by omega) (by omega) hbk.labels, Has5_B (by omega) (by omega) hp.labels, tog_eq hl hmg hn, tog_eq hl hmg hn]
    have hsym : ∀ w, oneB (zonesV ms) m.Name bs[k].On w = oneB (zonesV ms) bs[k].On m.Name w := fun w => by
      unfold oneB
      simp only [seq_eq]
      rw [show decide (m.Name = bs[k].On) = decide (bs[k].On = m.Name) by rw [decide_eq_decide]; exact eq_comm, show ∀ x y : ByteArray, decide (x = y) = decide (y = x) from fun x y => by rw [decide_eq_decide]; exact eq_comm]
      rw [show decide ((V.mg (zonesV ms) bs[k].On).getD ⟨#[]⟩ = (V.mg (zonesV ms) m.Name).getD ⟨#[]⟩) = decide ((V.mg (zonesV ms) m.Name).getD ⟨#[]⟩ = (V.mg (zonesV ms) bs[k].On).getD ⟨#[]⟩) by rw [decide_eq_decide]; exact eq_comm]
      rw [Bool.and_comm (V.mg (zonesV ms) m.Name).isSome]
    unfold nearQ barsB
    rw [← hsym]
    cases V.seq bs[k].Pod.Name p.Name <;> cases V.seq bs[k].On ⟨#[]⟩ <;> cases decide ((p.Apart.length : Int) > 0) <;> cases hasB bs[k].Pod.Labels p.Apart <;> cases oneB (zonesV ms) m.Name bs[k].On p.Wide <;>
      cases decide ((bs[k].Pod.Apart.length : Int) > 0) <;> cases hasB p.Labels bs[k].Pod.Apart <;> cases oneB (zonesV ms) m.Name bs[k].On bs[k].Pod.Wide <;> rfl) (fun n => by rw [ref11_Near.l1, if_neg dnl])
  rw [show ref11_Near.l1 ms bs p m.Name FU 0 = _ from hl1]
  have e : bs.any (nearQ (zonesV ms) p m.Name) = (bs.find? (nearQ (zonesV ms) p m.Name)).isSome := by rw [Bool.eq_iff_iff, List.any_eq_true, List.find?_isSome]
  rw [e]
  cases bs.find? (nearQ (zonesV ms) p m.Name) <;> rfl
end Go.Proofs.YtbkdglcedgiogaaGreat.M

/-
  Printed by a program of this session out of the loaded functions: models and their proofs. Own text.
-/
import Derived.Test.YtmpkpnclmihdnaaGreatPBor
import Derived.Test.YtmpkpnclmihdnaaGreatPRef9
import Derived.Test.YtmpkpnclmihdnaaGreatPShareR
/-
  Plain laws of the plan: the best one of some machines. Own text.
-/
namespace Go.Proofs.YtmpkpnclmihdnaaGreat.M
open Go Go.Proofs Go.Proofs.YtmpkpnclmihdnaaGreat.V
set_option linter.unusedVariables false

/-- How a machine is told from others: what is liked less there, how full it is. -/
structure Sc where
  prefers : Int
  share : Int
def prefV (m : T_api_Machine) (p : T_api_Pod) : Int := ((m.Taints.filter fun x => decide (x.Effect = 2) && !borneB p.Bears x).length : Int)
theorem pref_V {m : T_api_Machine} {p : T_api_Pod} (hm : LM m) : suit_Prefers m p = some (prefV m p) := by
  have := hm.taints.1
  unfold suit_Prefers taints_Prefers prefV
  rw [Unborne_eq _ _ 2 (by omega)]
  simp
theorem othersS_len2 (bs : List T_api_Bound) (n : ByteArray) : (othersS bs n).length ≤ bs.length := List.length_filter_le _ _
def lessB (a b : Sc) : Bool := if a.prefers = b.prefers then decide (a.share < b.share) else decide (a.prefers < b.prefers)
def bstep (sc : T_api_Machine → Sc) (s : ByteArray × Sc) (m : T_api_Machine) : ByteArray × Sc := if (decide (s.1 = ⟨#[]⟩) || lessB (sc m) s.2) = true then (m.Name, sc m) else s
def bestL (sc : T_api_Machine → Sc) (l : List T_api_Machine) : ByteArray := (l.foldl (bstep sc) (⟨#[]⟩, ⟨0, 0⟩)).1
def okM (ms : List T_api_Machine) (bs : List T_api_Bound) (p : T_api_Pod) : List T_api_Machine := ms.filter fun m => decide (whyV ms bs p m = 0)
theorem find_mem {ms : List T_api_Machine} (hl : ms.length ≤ 1000) (hu : (ms.map (·.Name)).Nodup) {m : T_api_Machine} (hm : m ∈ ms) {r : Int} (hf : firstAt ms.length (fun k => ∃ h : k < ms.length, ms[k].Name = m.Name) r) : V.gl ms r = some m := by
  obtain ⟨i, hi, rfl⟩ := List.getElem_of_mem hm
  rcases hf with ⟨q, rfl, b, ⟨c, d⟩, e⟩ | ⟨rfl, b⟩
  · have : q = i := by
      by_cases h1 : q = i
      · exact h1
      · exfalso
        have hnd := (show (ms.map (·.Name)).Nodup ↔ _ from List.pairwise_iff_getElem).1 hu
        by_cases hlt : q < i
        · exact hnd q i (by simpa using c) (by simpa using hi) hlt (by simpa using d)
        · exact hnd i q (by simpa using hi) (by simpa using c) (by omega) (by simpa using d.symm)
    subst this
    rw [glk c]
  · exact absurd ⟨hi, rfl⟩ (b i hi)

theorem bestL_mem (sc : T_api_Machine → Sc) (l : List T_api_Machine) (hne : ∀ m, m ∈ l → m.Name ≠ ⟨#[]⟩) : (l = [] ∧ bestL sc l = ⟨#[]⟩) ∨ (∃ m, m ∈ l ∧ m.Name = bestL sc l ∧ bestL sc l ≠ ⟨#[]⟩) := by
  have key : ∀ (l : List T_api_Machine) (s : ByteArray × Sc), (∀ m, m ∈ l → m.Name ≠ ⟨#[]⟩) → s.1 ≠ ⟨#[]⟩ → (l.foldl (bstep sc) s).1 = s.1 ∨ ∃ m, m ∈ l ∧ m.Name = (l.foldl (bstep sc) s).1 := by
    intro l
    induction l with
    | nil => intro s _ _; exact .inl rfl
    | cons x l ih =>
      intro s hx hs
      have hxn := hx x (List.mem_cons_self ..)
      rw [List.foldl_cons]
      by_cases hc : (decide (s.1 = ⟨#[]⟩) || lessB (sc x) s.2) = true
      · have e : bstep sc s x = (x.Name, sc x) := by unfold bstep; rw [if_pos hc]
        rw [e]
        rcases ih (x.Name, sc x) (fun m h => hx m (List.mem_cons_of_mem _ h)) hxn with h | ⟨m, h1, h2⟩
        · exact .inr ⟨x, List.mem_cons_self .., h.symm⟩
        · exact .inr ⟨m, List.mem_cons_of_mem _ h1, h2⟩
      · have e : bstep sc s x = s := by unfold bstep; rw [if_neg hc]
        rw [e]
        rcases ih s (fun m h => hx m (List.mem_cons_of_mem _ h)) hs with h | ⟨m, h1, h2⟩
        · exact .inl h
        · exact .inr ⟨m, List.mem_cons_of_mem _ h1, h2⟩
  cases l with
  | nil => exact .inl ⟨rfl, rfl⟩
  | cons x l =>
    right
    have hxn := hne x (List.mem_cons_self ..)
    unfold bestL
    rw [List.foldl_cons]
    have e : bstep sc (⟨#[]⟩, ⟨0, 0⟩) x = (x.Name, sc x) := by unfold bstep; rw [if_pos (by simp)]
    rw [e]
    rcases key l (x.Name, sc x) (fun m h => hne m (List.mem_cons_of_mem _ h)) hxn with h | ⟨m, h1, h2⟩
    · rw [h]; exact ⟨x, List.mem_cons_self .., rfl, hxn⟩
    · refine ⟨m, List.mem_cons_of_mem _ h1, h2, ?_⟩
      rw [← h2]
      exact hne m (List.mem_cons_of_mem _ h1)
theorem Unborne6_e (l : List T_api_Toleration) (ts : List T_api_Taint) {e : Int} (he : e ≠ 0) (h : ts.length ≤ 1000) (hl : l.length ≤ 1000) : ref06_Unborne l ts e = some (ts.filter fun x => decide (x.Effect = e) && !borneB l x) := by
  unfold ref06_Unborne
  have := idxFoldL (F := fun n s i => ref06_Unborne.l1 l ts e n s i) (l := ts) (fun acc x => if (decide (x.Effect = e) && !borneB l x) = true then acc ++ [x] else acc) id (fun k s => s.length ≤ k) (by omega) (fun n s k hk hI => by
    rw [ref06_Unborne.l1, if_pos (dlt hk), glk hk, wk1 (by omega)]
    have hin : ∀ b0 : Bool, ref06_Unborne.l2 l ts (k : Int) FU b0 0 = some (b0 || borneB l ts[k]) := by
      intro b0
      have := idxFoldL (F := fun n s i => ref06_Unborne.l2 l ts (k : Int) n s i) (l := l) (fun b t => b || bearB t ts[k]) id (fun _ _ => True) (by omega) (fun n s j hj _ => by
        refine ⟨?_, trivial⟩
        rw [ref06_Unborne.l2, if_pos (dlt hj), glk hj, glk hk, wk1 (by omega)]
        simp only [Option.bind_some, bear6_eq]
        cases s <;> rfl) (fun n s => by rw [ref06_Unborne.l2, if_neg dnl]; rfl) b0 trivial
      rw [show ref06_Unborne.l2 l ts (k : Int) FU b0 0 = _ from this]
      congr 1
      have key : ∀ (l : List T_api_Toleration) (b : Bool), l.foldl (fun b t => b || bearB t ts[k]) b = (b || borneB l ts[k]) := by
        intro l
        induction l with
        | nil => intro b; unfold borneB; simp
        | cons t l ih => intro b; rw [List.foldl_cons, ih]; unfold borneB; rw [List.any_cons, Bool.or_assoc]
      exact key l b0
    rw [if_pos (show (e != (0 : Int)) = true by simpa using he)]
    simp only [Option.bind_some, hin]
    have hne : (ts[k].Effect != e) = !decide (ts[k].Effect = e) := by by_cases q : ts[k].Effect = e <;> simp [q]
    rw [hne]
    cases h1 : decide (ts[k].Effect = e) <;> cases h2 : borneB l ts[k]
    · exact ⟨rfl, by show s.length ≤ k + 1; omega⟩
    · exact ⟨rfl, by show s.length ≤ k + 1; omega⟩
    · simp only [Bool.not_true, Bool.or_false, Bool.not_false, if_true, Bool.and_self]
      rw [ap_ok (by omega) (by simp; omega)]
      exact ⟨rfl, by simp; omega⟩
    · exact ⟨rfl, by show s.length ≤ k + 1; omega⟩) (fun n s => by rw [ref06_Unborne.l1, if_neg dnl]; rfl) [] (by simp)
  rw [show ref06_Unborne.l1 l ts e FU [] 0 = _ from this]
  simp only [Option.bind_some, id]
  congr 1
  have key : ∀ (ts acc : List T_api_Taint), ts.foldl (fun acc x => if (decide (x.Effect = e) && !borneB l x) = true then acc ++ [x] else acc) acc = acc ++ ts.filter fun x => decide (x.Effect = e) && !borneB l x := by
    intro ts
    induction ts with
    | nil => intro acc; simp
    | cons x ts ih =>
      intro acc
      rw [List.foldl_cons, ih, List.filter_cons]
      split <;> simp
  rw [key, List.nil_append]
theorem pref_R {m : T_api_Machine} {p : T_api_Pod} (hm : LM m) (hp : LP p) : ref10_Prefers m p = some (prefV m p) := by
  have := hm.taints.1
  have := hp.bears.1
  unfold ref10_Prefers ref06_Prefers prefV
  rw [Unborne6_e _ _ (by decide) (by omega) (by omega)]
  rfl

theorem names_nodup {ms : List T_api_Machine} {bs : List T_api_Bound} (hr : RY ms bs) : (ms.map (·.Name)).Nodup := by
  rw [show (ms.map (·.Name)).Nodup ↔ _ from List.pairwise_iff_getElem]
  intro i j hi hj hij e
  rw [List.length_map] at hi hj
  have := hr.mu i j hi hj (by simpa using e)
  omega
theorem names_ne {ms : List T_api_Machine} {bs : List T_api_Bound} (hr : RY ms bs) : ∀ m, m ∈ ms → m.Name ≠ ⟨#[]⟩ := fun m h => by
  obtain ⟨i, hi, rfl⟩ := List.getElem_of_mem h
  exact (hr.rm i hi).1
end Go.Proofs.YtmpkpnclmihdnaaGreat.M
/-
  Plain laws of the plan: machines that are not barred, movable pods, the best machine of those that are open. Own text.
-/
namespace Go.Proofs.YtmpkpnclmihdnaaGreat.M
open Go Go.Proofs Go.Proofs.YtmpkpnclmihdnaaGreat.V
open Go.IntKind (i64)
set_option linter.unusedVariables false
set_option maxRecDepth 20000

/-! loops that pick -/
theorem refFilter {α : Type} {F : Nat → List α → Int → Option (List α)} {l : List α} (q : α → Bool) (hl : l.length ≤ 1000)
    (hs : ∀ n s (k : Nat) (hk : k < l.length), s.length ≤ k → F (n + 1) s (k : Int) = F n (if q l[k] = true then s ++ [l[k]] else s) ((k + 1 : Nat) : Int))
    (he : ∀ n s, F (n + 1) s (l.length : Int) = some s) : F FU [] 0 = some (l.filter q) := by
  have key : ∀ (m k f : Nat) (s : List α), l.length - k ≤ m → m < f → k ≤ l.length → s.length ≤ k → F f s (k : Int) = some (s ++ (l.drop k).filter q) := by
    intro m
    induction m with
    | zero =>
      intro k f s h1 h2 h3 h4
      obtain ⟨f, rfl⟩ : ∃ g, f = g + 1 := ⟨f - 1, by omega⟩
      obtain rfl : k = l.length := by omega
      rw [he, List.drop_length]; simp
    | succ m ih =>
      intro k f s h1 h2 h3 h4
      obtain ⟨f, rfl⟩ : ∃ g, f = g + 1 := ⟨f - 1, by omega⟩
      by_cases hk : k < l.length
      · rw [hs f s k hk h4, List.drop_eq_getElem_cons hk]
        by_cases hq : q l[k] = true
        · rw [if_pos hq, ih (k + 1) f _ (by omega) (by omega) (by omega) (by simp; omega), List.filter_cons_of_pos hq]; simp
        · rw [if_neg hq, ih (k + 1) f _ (by omega) (by omega) (by omega) (by omega), List.filter_cons_of_neg hq]
      · obtain rfl : k = l.length := by omega
        rw [he, List.drop_length]; simp
  have := key l.length 0 FU [] (by omega) (by unfold FU; omega) (Nat.zero_le _) (Nat.zero_le _)
  simpa using this

theorem rowFilter {α : Type} {G : List α → Nat → List α → Option (List α)} (q : α → Bool)
    (hs : ∀ x r k s, s.length ≤ 1000 → G (x :: r) k s = G r (k + 1) (if q x = true then s ++ [x] else s))
    (he : ∀ k s, G [] k s = some s) : ∀ (l : List α) (k : Nat) (s : List α), s.length + l.length ≤ 1000 → G l k s = some (s ++ l.filter q)
  | [], k, s, _ => by rw [he]; simp
  | x :: l, k, s, h => by
    simp only [List.length_cons] at h
    rw [hs x l k s (by omega)]
    by_cases hq : q x = true
    · rw [if_pos hq, rowFilter q hs he l (k + 1) _ (by simp; omega), List.filter_cons_of_pos hq]; simp
    · rw [if_neg hq, rowFilter q hs he l (k + 1) _ (by omega), List.filter_cons_of_neg hq]

/-! one of some -/
def mB (s : ByteArray) (l : List ByteArray) : Bool := l.any fun a => decide (a = s)
theorem mB_iff {s : ByteArray} {l : List ByteArray} : mB s l = true ↔ s ∈ l := by
  unfold mB; rw [List.any_eq_true]; exact ⟨fun ⟨x, h, e⟩ => by rw [← of_decide_eq_true e]; exact h, fun h => ⟨s, h, by simp⟩⟩
theorem mB_not {s : ByteArray} {l : List ByteArray} : mB s l = false ↔ s ∉ l := by
  rw [← mB_iff]; simp
theorem among_P (l : List ByteArray) (s : ByteArray) : plan_among l s = some (mB s l) := by
  unfold plan_among
  have key : ∀ (l : List ByteArray) (k : Nat), plan_among.l1 s l k = some (if mB s l = true then Out.ret true else Out.go ()) := by
    intro l
    induction l with
    | nil => intro k; rfl
    | cons x l ih =>
      intro k
      rw [plan_among.l1, seq_eq]
      by_cases h : x = s
      · rw [if_pos (by simpa using h), if_pos (by simp [mB, h])]
      · rw [if_neg (by simpa using h), ih]
        have : mB s (x :: l) = mB s l := by simp [mB, h]
        rw [this]
  rw [key]
  cases mB s l <;> rfl
theorem among_R {l : List ByteArray} (s : ByteArray) (hl : l.length ≤ 2000) : ref26_among l s = some (mB s l) := by
  unfold ref26_among
  rcases loopI (F := fun n i => ref26_among.l1 l s n i) (Q := fun r => r = true ∧ s ∈ l) (S := fun k => ∀ h : k < l.length, l[k] ≠ s) (len := l.length) (by omega) (fun n k hk => by
      rw [ref26_among.l1, if_pos (dlt hk), glk hk, wk1 (by omega)]
      simp only [Option.bind_some, seq_eq]
      by_cases e : l[k] = s
      · rw [if_pos (by simpa using e)]; exact .inl ⟨true, rfl, rfl, e ▸ List.getElem_mem hk⟩
      · rw [if_neg (by simpa using e)]; exact .inr ⟨rfl, fun _ => e⟩) (fun n => by rw [ref26_among.l1, if_neg dnl]) with ⟨r, h1, rfl, h2⟩ | ⟨h1, h2⟩
  · rw [h1, mB_iff.2 h2]; rfl
  · rw [h1]
    have : s ∉ l := fun h => by
      obtain ⟨i, hi, e⟩ := List.getElem_of_mem h
      exact h2 i hi hi e
    rw [mB_not.2 this]; rfl

/-- Machines that are not barred. -/
def wo (ms : List T_api_Machine) (barred : List ByteArray) : List T_api_Machine := ms.filter fun m => !mB m.Name barred
theorem Without_P {ms : List T_api_Machine} (barred : List ByteArray) (hl : ms.length ≤ 1000) : plan_Without ms barred = some (wo ms barred) := by
  unfold plan_Without
  rw [rowFilter (G := fun l k s => plan_Without.l1 barred l k s) (fun m => !mB m.Name barred) (fun x r k s hs => by
    rw [plan_Without.l1, among_P]
    simp only [Option.bind_some]
    cases h : mB x.Name barred with
    | true => rfl
    | false =>
      simp only [Bool.not_false, if_true]
      rw [ap_ok (by omega) (by simp; omega)]; rfl) (fun k s => rfl) ms 0 [] (by simpa using hl)]
  rfl
theorem Without_R {ms : List T_api_Machine} {barred : List ByteArray} (hl : ms.length ≤ 1000) (hb : barred.length ≤ 2000) : ref26_Without ms barred = some (wo ms barred) := by
  unfold ref26_Without
  rw [refFilter (F := fun n s i => ref26_Without.l1 ms barred n s i) (fun m => !mB m.Name barred) hl (fun n s k hk hs => by
    rw [ref26_Without.l1, if_pos (dlt hk), glk hk, wk1 (by omega)]
    simp only [Option.bind_some, among_R _ hb]
    cases h : mB ms[k].Name barred with
    | true => rfl
    | false =>
      simp only [Bool.not_false, if_true]
      rw [ap_ok (by omega) (by simp; omega)]; rfl) (fun n s => by rw [ref26_Without.l1, if_neg dnl])]
  rfl
theorem wo_sub (ms : List T_api_Machine) (barred : List ByteArray) : (wo ms barred).Sublist ms := List.filter_sublist
theorem wo_mem {ms : List T_api_Machine} {barred : List ByteArray} {m : T_api_Machine} : m ∈ wo ms barred ↔ m ∈ ms ∧ m.Name ∉ barred := by
  unfold wo; rw [List.mem_filter, ← mB_not]; simp

/-- The pods of a machine that are no Daemons. -/
def movS (bs : List T_api_Bound) (name : ByteArray) : List T_api_Pod := (onS bs name).filter fun p => !p.Daemon
theorem Movable_P (bs : List T_api_Bound) (name : ByteArray) (hl : bs.length ≤ 1000) : block_Movable bs name = some (movS bs name) := by
  unfold block_Movable
  have := onS_len bs name
  rw [On_eq bs name (by omega)]
  simp only [Option.bind_some]
  rw [rowFilter (G := fun l k s => block_Movable.l1 l k s) (fun p => !p.Daemon) (fun x r k s hs => by
    rw [block_Movable.l1]
    cases x.Daemon with
    | true => rfl
    | false => simp only [Bool.not_false, if_true]; rw [ap_ok (by omega) (by simp; omega)]; rfl) (fun k s => rfl) (onS bs name) 0 [] (by simp; omega)]
  rfl
theorem Movable_R (bs : List T_api_Bound) (name : ByteArray) (hl : bs.length ≤ 1000) : ref25_Movable bs name = some (movS bs name) := by
  unfold ref25_Movable
  have := onS_len bs name
  rw [On9_eq bs name hl]
  simp only [Option.bind_some]
  rw [refFilter (F := fun n s i => ref25_Movable.l1 (onS bs name) n s i) (l := onS bs name) (fun p => !p.Daemon) (by omega) (fun n s k hk hs => by
    rw [ref25_Movable.l1, if_pos (dlt hk), glk hk, wk1 (by omega)]
    simp only [Option.bind_some]
    cases (onS bs name)[k].Daemon with
    | true => rfl
    | false => simp only [Bool.not_false, if_true]; rw [ap_ok (by omega) (by simp; omega)]; rfl) (fun n s => by rw [ref25_Movable.l1, if_neg dnl])]
  rfl

/-- Whether a machine is there. -/
theorem find_c {ms : List T_api_Machine} (name : ByteArray) (hl : ms.length ≤ 1000) : ∃ r, yard_Find ms name = some r ∧ ref09_Find ms name = some r ∧ (r < 0 ↔ name ∉ ms.map (·.Name)) := by
  obtain ⟨r, h1, h2⟩ := Find_first ms name hl
  obtain ⟨r', h3, h4⟩ := Find9_eq ms name (by omega)
  have e : r = r' := by
    rcases h2 with ⟨q, rfl, q1, q2, q3⟩ | ⟨rfl, q1⟩ <;> rcases h4 with ⟨q', rfl, q4, q5, q6⟩ | ⟨rfl, q4⟩
    · have : ¬ q < q' := fun h => q6 q h q2
      have : ¬ q' < q := fun h => q3 q' h q5
      omega
    · exact absurd q2 (q4 q q1)
    · exact absurd q5 (q1 q' q4)
    · rfl
  subst e
  refine ⟨r, h1, h3, ?_⟩
  rcases h2 with ⟨q, rfl, q1, ⟨q2, q3⟩, _⟩ | ⟨rfl, q1⟩
  · constructor
    · intro h; omega
    · intro h; exact absurd (List.mem_map.2 ⟨ms[q], List.getElem_mem q2, q3⟩) h
  · constructor
    · intro _ h
      obtain ⟨m, hm, e⟩ := List.mem_map.1 h
      obtain ⟨i, hi, rfl⟩ := List.getElem_of_mem hm
      exact q1 i hi ⟨hi, e⟩
    · intro _; decide
end Go.Proofs.YtmpkpnclmihdnaaGreat.M
/-
  Plain laws of the plan: the best machine of those that are open. Own text.
-/
namespace Go.Proofs.YtmpkpnclmihdnaaGreat.M
open Go Go.Proofs Go.Proofs.YtmpkpnclmihdnaaGreat.V
open Go.IntKind (i64)
set_option linter.unusedVariables false
set_option maxRecDepth 20000

def scO (bs : List T_api_Bound) (p : T_api_Pod) (m : T_api_Machine) : Sc := ⟨prefV m p, shareV (usedS (onS bs m.Name)).1 m.Has⟩
def openM (ms : List T_api_Machine) (bs : List T_api_Bound) (barred : List ByteArray) (p : T_api_Pod) : List T_api_Machine := (okM ms bs p).filter fun m => !mB m.Name barred
def bestO (ms : List T_api_Machine) (bs : List T_api_Bound) (barred : List ByteArray) (p : T_api_Pod) : ByteArray := bestL (scO bs p) (openM ms bs barred p)

theorem full_P (bs : List T_api_Bound) (ms : List T_api_Machine) (barred : List ByteArray) (m : T_api_Machine) (hl : bs.length ≤ 1000) : plan_planner_full ⟨ms, bs, barred⟩ m = some (shareV (usedS (onS bs m.Name)).1 m.Has) := by
  unfold plan_planner_full
  rw [Used_eq _ _ hl]
  simp only [Option.bind_some, share_V]

theorem best_PO {ms : List T_api_Machine} {bs : List T_api_Bound} {barred : List ByteArray} {p : T_api_Pod} (hl : ms.length ≤ 400) (hbl : bs.length ≤ 400) (hms : ∀ m, m ∈ ms → LM m) (hn : (ms.map (·.Name)).Nodup) (hb : ∀ b, b ∈ bs → LP b.Pod) (hp : LP p) :
    plan_planner_best ⟨ms, bs, barred⟩ p = some (bestO ms bs barred p) := by
  unfold plan_planner_best bestO bestL openM
  simp only
  rw [where_V (by omega) (by omega) hms hb hp]
  simp only [Option.bind_some]
  have key : ∀ (l : List T_api_Machine) (k : Nat) (b : ByteArray) (s : Sc), (∀ m, m ∈ l → m ∈ ms) → plan_planner_best.l1 ⟨ms, bs, barred⟩ p (l.map (·.Name)) k b s.prefers s.share = some ((l.filter fun m => !mB m.Name barred).foldl (bstep (scO bs p)) (b, s)).1 := by
    intro l
    induction l with
    | nil => intro k b s _; rfl
    | cons x l ih =>
      intro k b s hx
      have hxm := hx x (List.mem_cons_self ..)
      have hml : ∀ m, m ∈ l → m ∈ ms := fun m h => hx m (List.mem_cons_of_mem _ h)
      obtain ⟨r, h1, h2⟩ := Find_first ms x.Name (by omega)
      rw [List.map_cons, plan_planner_best.l1, among_P]
      simp only [Option.bind_some]
      cases hbx : mB x.Name barred with
      | true =>
        rw [if_pos rfl, ih _ _ _ hml, List.filter_cons_of_neg (by simp [hbx])]
      | false =>
        rw [if_neg (by simp), h1]
        simp only [Option.bind_some, find_mem (by omega) hn hxm h2, pref_V (hms x hxm), full_P bs ms barred x (by omega), seq_eq]
        rw [List.filter_cons_of_pos (by simp [hbx]), List.foldl_cons]
        have hcond : ((decide (b = ⟨#[]⟩) || decide (prefV x p < s.prefers)) || ((prefV x p == s.prefers) && decide (shareV (usedS (onS bs x.Name)).1 x.Has < s.share))) = (decide (b = ⟨#[]⟩) || lessB (scO bs p x) s) := by
          unfold lessB scO
          simp only
          by_cases q : prefV x p = s.prefers
          · rw [if_pos q, q]; simp
          · rw [if_neg q, show (prefV x p == s.prefers) = false by simpa using q]; simp
        rw [hcond]
        unfold bstep
        simp only
        cases (decide (b = ⟨#[]⟩) || lessB (scO bs p x) s) with
        | true => simp only [if_true]; exact ih (k + 1) x.Name (scO bs p x) hml
        | false => simp only [Bool.false_eq_true, if_false]; exact ih (k + 1) b s hml
  show ((plan_planner_best.l1 ⟨ms, bs, barred⟩ p ((okM ms bs p).map (·.Name)) 0 ⟨#[]⟩ (0 : Int) (0 : Int)).bind fun best32 => some best32) = _
  rw [show plan_planner_best.l1 ⟨ms, bs, barred⟩ p ((okM ms bs p).map (·.Name)) 0 ⟨#[]⟩ (0 : Int) (0 : Int) = _ from key (okM ms bs p) 0 ⟨#[]⟩ ⟨0, 0⟩ (fun m h => (List.mem_filter.1 h).1)]
  rfl

theorem among_O {ms : List T_api_Machine} {bs : List T_api_Bound} {p : T_api_Pod} (hl : ms.length ≤ 400) (hbl : bs.length ≤ 400) (hms : ∀ m, m ∈ ms → GM m) (hn : (ms.map (·.Name)).Nodup) (hp : GP p) (ho : othersS bs p.Name = bs)
    (ok : List T_api_Machine) (hokl : ok.length ≤ ms.length) (hokm : ∀ m, m ∈ ok → m ∈ ms) : ref14_Among ms bs p (ok.map (·.Name)) = some (bestL (scO bs p) ok) := by
  unfold ref14_Among bestL
  have key : ∀ (m k f : Nat) (b : ByteArray) (s : Sc), ok.length - k ≤ m → m < f → k ≤ ok.length → ref14_Among.l1 ms bs p (ok.map (·.Name)) f b s.prefers s.share (k : Int) = some ((ok.drop k).foldl (bstep (scO bs p)) (b, s)).1 := by
    intro m
    induction m with
    | zero =>
      intro k f b s h1 h2 h3
      obtain ⟨f, rfl⟩ : ∃ q, f = q + 1 := ⟨f - 1, by omega⟩
      rw [ref14_Among.l1, if_neg (by simp; omega), List.drop_eq_nil_of_le (by omega)]; rfl
    | succ m ih =>
      intro k f b s h1 h2 h3
      obtain ⟨f, rfl⟩ : ∃ q, f = q + 1 := ⟨f - 1, by omega⟩
      by_cases hk : k < ok.length
      · have hxm := hokm ok[k] (List.getElem_mem hk)
        have hk' : k < (ok.map (·.Name)).length := by simpa using hk
        obtain ⟨r, h4, h5⟩ := Find9_eq ms ok[k].Name (by omega)
        rw [ref14_Among.l1, if_pos (dlt hk'), glk hk', wk1 (by omega)]
        simp only [Option.bind_some, List.getElem_map, h4, find_mem (by omega) hn hxm h5, pref_R (hms _ hxm).lm hp.lp, Others_ref bs p.Name (show bs.length ≤ 1000 by omega), ho]
        rw [Used9_eq _ _ (by omega)]
        simp only [Option.bind_some, share_R, seq_eq]
        rw [List.drop_eq_getElem_cons hk, List.foldl_cons]
        have hcond : ((decide (b = ⟨#[]⟩) || decide (prefV ok[k] p < s.prefers)) || ((prefV ok[k] p == s.prefers) && decide (shareV (usedS (onS bs ok[k].Name)).1 ok[k].Has < s.share))) = (decide (b = ⟨#[]⟩) || lessB (scO bs p ok[k]) s) := by
          unfold lessB scO
          simp only
          by_cases q : prefV ok[k] p = s.prefers
          · rw [if_pos q, q]; simp
          · rw [if_neg q, show (prefV ok[k] p == s.prefers) = false by simpa using q]; simp
        rw [hcond]
        unfold bstep
        simp only
        cases (decide (b = ⟨#[]⟩) || lessB (scO bs p ok[k]) s) with
        | true =>
          simp only [if_true]
          exact ih (k + 1) f ok[k].Name (scO bs p ok[k]) (by omega) (by omega) (by omega)
        | false =>
          simp only [Bool.false_eq_true, if_false]
          exact ih (k + 1) f b s (by omega) (by omega) (by omega)
      · rw [ref14_Among.l1, if_neg (by simp; omega), List.drop_eq_nil_of_le (by omega)]; rfl
  have := key ok.length 0 FU ⟨#[]⟩ ⟨0, 0⟩ (by omega) (by unfold FU; omega) (Nat.zero_le _)
  rw [List.drop_zero] at this
  rw [show ref14_Among.l1 ms bs p (ok.map (·.Name)) FU ⟨#[]⟩ 0 0 0 = _ from this]
  rfl

theorem best_RO {ms : List T_api_Machine} {bs : List T_api_Bound} {barred : List ByteArray} {p : T_api_Pod} (hl : ms.length ≤ 400) (hbl : bs.length ≤ 400) (hms : ∀ m, m ∈ ms → GM m) (hn : (ms.map (·.Name)).Nodup) (hb : ∀ b, b ∈ bs → GP b.Pod) (hp : GP p) (ho : othersS bs p.Name = bs) (hbr : barred.length ≤ 2000) :
    ref26_best ms bs p barred = some (bestO ms bs barred p) := by
  unfold ref26_best
  rw [Where12_eq hl hbl hms hn hb hp]
  simp only [Option.bind_some]
  have hokl : (okM ms bs p).length ≤ ms.length := List.length_filter_le _ _
  show ((ref26_best.l1 barred ((okM ms bs p).map (·.Name)) FU [] 0).bind _) = _
  rw [refFilter (F := fun n s i => ref26_best.l1 barred ((okM ms bs p).map (·.Name)) n s i) (l := (okM ms bs p).map (·.Name)) (fun n => !mB n barred) (by rw [List.length_map]; omega) (fun n s k hk hs => by
    rw [ref26_best.l1, if_pos (dlt hk), glk hk, wk1 (by rw [List.length_map] at hk; omega)]
    simp only [Option.bind_some, among_R _ hbr]
    rw [List.length_map] at hk
    cases h : mB ((okM ms bs p).map (·.Name))[k] barred with
    | true => rfl
    | false =>
      simp only [Bool.not_false, if_true]
      rw [ap_ok (by omega) (by simp; omega)]; rfl) (fun n s => by rw [ref26_best.l1, if_neg dnl])]
  simp only [Option.bind_some]
  rw [List.filter_map, among_O hl hbl hms hn hp ho ((okM ms bs p).filter ((fun n => !mB n barred) ∘ fun x => x.Name)) (Nat.le_trans (List.length_filter_le _ _) hokl) (fun m h => (List.mem_filter.1 (List.mem_filter.1 h).1).1)]
  rfl
end Go.Proofs.YtmpkpnclmihdnaaGreat.M

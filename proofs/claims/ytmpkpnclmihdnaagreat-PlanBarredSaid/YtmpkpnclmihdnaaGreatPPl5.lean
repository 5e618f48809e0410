/-
  Printed by a program of this session out of the loaded functions: models and their proofs. Own text.
-/
import Derived.Test.YtmpkpnclmihdnaaGreatPPl2
/-
  Plain laws of the plan: where a machine's pods could go. Own text.
-/
namespace Go.Proofs.YtmpkpnclmihdnaaGreat.M
open Go Go.Proofs Go.Proofs.YtmpkpnclmihdnaaGreat.V
open Go.IntKind (i64)
set_option linter.unusedVariables false
set_option maxRecDepth 20000

theorem map_inj {α β : Type} {f : α → β} : ∀ {l : List α}, (l.map f).Nodup → ∀ {x y : α}, x ∈ l → y ∈ l → f x = f y → x = y
  | [], _, _, _, h, _, _ => by cases h
  | a :: l, hn, x, y, hx, hy, e => by
    rw [List.map_cons, List.nodup_cons] at hn
    rcases List.mem_cons.1 hx with e1 | h1 <;> rcases List.mem_cons.1 hy with e2 | h2
    · rw [e1, e2]
    · exact absurd (List.mem_map.2 ⟨y, h2, by rw [← e, e1]⟩) hn.1
    · exact absurd (List.mem_map.2 ⟨x, h1, by rw [e, e2]⟩) hn.1
    · exact map_inj hn.2 h1 h2 e

def oneL (ms : List T_api_Machine) (barred : List ByteArray) : List T_api_Pod → List T_api_Bound → List T_api_Move → Option (List T_api_Move × List T_api_Bound)
  | [], now, mv => some (mv, now)
  | p :: l, now, mv => if bestO ms now barred p = ⟨#[]⟩ then none else oneL ms barred l (now ++ [⟨p, bestO ms now barred p⟩]) (mv ++ [⟨p.Name, bestO ms now barred p⟩])
def notS (bs : List T_api_Bound) (name : ByteArray) : List T_api_Bound := bs.filter fun b => !decide (b.On = name)
def oneS (ms : List T_api_Machine) (bs : List T_api_Bound) (name : ByteArray) (barred : List ByteArray) : Option (List T_api_Move × List T_api_Bound) :=
  if mB name (ms.map (·.Name)) = true then oneL (wo ms [name]) barred (movS bs name) (notS bs name) [] else none
def ansO : Option (List T_api_Move × List T_api_Bound) → List T_api_Move × Bool
  | some r => (r.1, true)
  | none => ([], false)

theorem notS_len (bs : List T_api_Bound) (n : ByteArray) : (notS bs n).length + (onS bs n).length = bs.length := by
  unfold notS onS
  rw [List.length_map]
  induction bs with
  | nil => rfl
  | cons x l ih => by_cases h : x.On = n <;> simp [h] <;> omega
theorem movS_len (bs : List T_api_Bound) (n : ByteArray) : (movS bs n).length ≤ (onS bs n).length := List.length_filter_le _ _
theorem movS_mem {bs : List T_api_Bound} {n : ByteArray} {p : T_api_Pod} : p ∈ movS bs n ↔ p.Daemon = false ∧ ∃ b, b ∈ bs ∧ b.On = n ∧ b.Pod = p := by
  unfold movS onS
  rw [List.mem_filter, List.mem_map]
  constructor
  · rintro ⟨⟨b, h1, h2⟩, h3⟩
    rw [List.mem_filter] at h1
    exact ⟨by simpa using h3, b, h1.1, by simpa using h1.2, h2⟩
  · rintro ⟨h1, b, h2, h3, h4⟩
    exact ⟨⟨b, List.mem_filter.2 ⟨h2, by simpa using h3⟩, h4⟩, by simpa using h1⟩
theorem notS_mem {bs : List T_api_Bound} {n : ByteArray} {b : T_api_Bound} : b ∈ notS bs n ↔ b ∈ bs ∧ b.On ≠ n := by
  unfold notS; rw [List.mem_filter]; simp
theorem names_app {bs : List T_api_Bound} {n : ByteArray} (hn : (bs.map (·.Pod.Name)).Nodup) : ((notS bs n).map (·.Pod.Name) ++ (movS bs n).map (·.Name)).Nodup := by
  rw [List.nodup_append]
  refine ⟨hn.sublist (List.filter_sublist.map _), ?_, ?_⟩
  · have h1 : ((onS bs n).map (·.Name)).Nodup := by
      unfold onS; rw [List.map_map]; exact hn.sublist (List.filter_sublist.map _)
    exact h1.sublist (List.filter_sublist.map _)
  · intro a ha b hb e
    obtain ⟨x, hx, rfl⟩ := List.mem_map.1 ha
    obtain ⟨p, hp, rfl⟩ := List.mem_map.1 hb
    obtain ⟨hx1, hx2⟩ := notS_mem.1 hx
    obtain ⟨_, y, hy1, hy2, rfl⟩ := movS_mem.1 hp
    have := map_inj hn hx1 hy1 e
    subst this
    exact hx2 hy2

/-- What is so at each step. -/
structure OI (Q : T_api_Pod → Prop) (l : List T_api_Pod) (now : List T_api_Bound) : Prop where
  len : now.length + l.length ≤ 400
  q1 : ∀ b, b ∈ now → Q b.Pod
  q2 : ∀ p, p ∈ l → Q p
  nd : (now.map (·.Pod.Name) ++ l.map (·.Name)).Nodup
theorem OI.next {Q : T_api_Pod → Prop} {p : T_api_Pod} {l : List T_api_Pod} {now : List T_api_Bound} (h : OI Q (p :: l) now) (on : ByteArray) : OI Q l (now ++ [⟨p, on⟩]) := by
  obtain ⟨h1, h2, h3, h4⟩ := h
  rw [List.length_cons] at h1
  refine ⟨by rw [List.length_append]; simp only [List.length_cons, List.length_nil]; omega, fun b hb => ?_, fun q hq => h3 q (List.mem_cons_of_mem _ hq), ?_⟩
  · rcases List.mem_append.1 hb with hb | hb
    · exact h2 b hb
    · rw [List.mem_singleton] at hb; subst hb; exact h3 p (List.mem_cons_self ..)
  · simpa using h4
theorem OI.self {Q : T_api_Pod → Prop} {p : T_api_Pod} {l : List T_api_Pod} {now : List T_api_Bound} (h : OI Q (p :: l) now) : othersS now p.Name = now := by
  refine others_all fun k hk e => ?_
  have := h.nd
  rw [List.nodup_append] at this
  exact this.2.2 now[k].Pod.Name (List.mem_map.2 ⟨_, List.getElem_mem hk, rfl⟩) p.Name (by simp) e
theorem OI.start {Q : T_api_Pod → Prop} {bs : List T_api_Bound} (hl : bs.length ≤ 400) (hq : ∀ b, b ∈ bs → Q b.Pod) (hn : (bs.map (·.Pod.Name)).Nodup) (n : ByteArray) : OI Q (movS bs n) (notS bs n) := by
  have h1 := notS_len bs n
  have h2 := movS_len bs n
  refine ⟨by omega, fun b hb => hq b (notS_mem.1 hb).1, fun p hp => ?_, names_app hn⟩
  obtain ⟨_, b, hb, _, rfl⟩ := movS_mem.1 hp
  exact hq b hb

theorem names_wo {ms : List T_api_Machine} (hn : (ms.map (·.Name)).Nodup) (barred : List ByteArray) : ((wo ms barred).map (·.Name)).Nodup := hn.sublist ((wo_sub ms barred).map _)

theorem One_P {ms : List T_api_Machine} {bs : List T_api_Bound} (name : ByteArray) (barred : List ByteArray) (hl : ms.length ≤ 400) (hbl : bs.length ≤ 400) (hms : ∀ m, m ∈ ms → LM m) (hn : (ms.map (·.Name)).Nodup) (hb : ∀ b, b ∈ bs → LP b.Pod) (hbn : (bs.map (·.Pod.Name)).Nodup) :
    plan_One ms bs name barred = some (ansO (oneS ms bs name barred)) := by
  unfold plan_One oneS
  obtain ⟨r, h1, _, h2⟩ := find_c (ms := ms) name (by omega)
  rw [h1]
  simp only [Option.bind_some]
  by_cases hr : r < 0
  · rw [if_pos (by simpa using hr), mB_not.2 (h2.1 hr)]; rfl
  · rw [if_neg (by simpa using hr), if_pos (mB_iff.2 (Classical.not_not.1 fun h => hr (h2.2 h))), Without_P _ (by omega)]
    simp only [Option.bind_some]
    have hwl := (wo_sub ms [name]).length_le
    have hwm : ∀ m, m ∈ wo ms [name] → m ∈ ms := fun m h => (wo_mem.1 h).1
    have hwn := names_wo hn [name]
    generalize wo ms [name] = w at *
    have k1 : ∀ (l : List T_api_Bound) (k : Nat) (s : List T_api_Bound), s.length + l.length ≤ 1000 → plan_One.l1 name l k ⟨w, s, barred⟩ = some ⟨w, s ++ notS l name, barred⟩ := by
      intro l
      induction l with
      | nil => intro k s _; simp [plan_One.l1, notS]
      | cons x l ih =>
        intro k s hs
        rw [List.length_cons] at hs
        rw [plan_One.l1, seq_eq]
        unfold notS at ih ⊢
        by_cases e : x.On = name
        · rw [if_neg (by simp [e]), ih _ _ (by omega), List.filter_cons_of_neg (by simp [e])]
        · rw [if_pos (by simp [e]), ap_ok (by omega) (by simp; omega)]
          simp only [Option.bind_some]
          rw [ih _ _ (by simp; omega), List.filter_cons_of_pos (by simp [e])]
          simp
    rw [k1 bs 0 [] (by simp; omega), Movable_P _ _ (by omega)]
    simp only [Option.bind_some, List.nil_append]
    have k2 : ∀ (l : List T_api_Pod) (k : Nat) (now : List T_api_Bound) (mv : List T_api_Move), OI LP l now → mv.length + l.length ≤ 400 → plan_One.l2 l k ⟨w, now, barred⟩ mv = some (match oneL w barred l now mv with | some r => Out.go r.1 | none => Out.ret ([], false)) := by
      intro l
      induction l with
      | nil => intro k now mv _ _; rfl
      | cons p l ih =>
        intro k now mv hi hm
        rw [List.length_cons] at hm
        have hlen := hi.len
        rw [List.length_cons] at hlen
        rw [plan_One.l2, best_PO (by omega) (by omega) (fun m h => hms m (hwm m h)) hwn hi.q1 (hi.q2 p (List.mem_cons_self ..)), oneL]
        simp only [Option.bind_some, seq_eq]
        by_cases e : bestO w now barred p = ⟨#[]⟩
        · rw [if_pos (by simpa using e), if_pos e]
        · rw [if_neg (by simpa using e), if_neg e, ap_ok (by omega) (by simp; omega)]
          simp only [Option.bind_some]
          rw [ap_ok (by omega) (by simp; omega)]
          simp only [Option.bind_some]
          exact ih (k + 1) _ _ (hi.next _) (by simp; omega)
    have h3 := notS_len bs name
    have h4 := movS_len bs name
    rw [k2 _ 0 _ [] (OI.start hbl hb hbn name) (by simp; omega)]
    cases oneL w barred (movS bs name) (notS bs name) [] with
    | none => rfl
    | some r => rfl

theorem One_R {ms : List T_api_Machine} {bs : List T_api_Bound} (name : ByteArray) {barred : List ByteArray} (hbr : barred.length ≤ 2000) (hl : ms.length ≤ 400) (hbl : bs.length ≤ 400) (hms : ∀ m, m ∈ ms → GM m) (hn : (ms.map (·.Name)).Nodup) (hb : ∀ b, b ∈ bs → GP b.Pod) (hbn : (bs.map (·.Pod.Name)).Nodup) :
    ref26_One ms bs name barred = some (ansO (oneS ms bs name barred)) := by
  unfold ref26_One oneS
  obtain ⟨r, _, h1, h2⟩ := find_c (ms := ms) name (by omega)
  rw [h1]
  simp only [Option.bind_some]
  by_cases hr : r < 0
  · rw [if_pos (by simpa using hr), mB_not.2 (h2.1 hr)]; rfl
  · rw [if_neg (by simpa using hr), if_pos (mB_iff.2 (Classical.not_not.1 fun h => hr (h2.2 h))), Without_R (by omega) (by simp)]
    simp only [Option.bind_some]
    have hwl := (wo_sub ms [name]).length_le
    have hwm : ∀ m, m ∈ wo ms [name] → m ∈ ms := fun m h => (wo_mem.1 h).1
    have hwn := names_wo hn [name]
    generalize wo ms [name] = w at *
    rw [refFilter (F := fun n s i => ref26_One.l1 bs name n s i) (l := bs) (fun b => !decide (b.On = name)) (by omega) (fun n s k hk hs => by
      rw [ref26_One.l1, if_pos (dlt hk), glk hk, wk1 (by omega)]
      simp only [Option.bind_some, seq_eq]
      by_cases h : bs[k].On = name
      · rw [if_neg (by simp [h]), if_neg (by simp [h])]
      · rw [if_pos (by simp [h]), if_pos (by simp [h]), ap_ok (by omega) (by simp; omega)]; rfl) (fun n s => by rw [ref26_One.l1, if_neg dnl]), Movable_R _ _ (by omega)]
    simp only [Option.bind_some]
    have h3 := notS_len bs name
    have h4 := movS_len bs name
    have hst := OI.start (Q := GP) hbl hb hbn name
    show (Option.bind (ref26_One.l2 barred w (movS bs name) FU (notS bs name) [] 0) _) = _
    have hL : (movS bs name).length ≤ 400 := by omega
    generalize movS bs name = L at *
    have k2 : ∀ (m k f : Nat) (now : List T_api_Bound) (mv : List T_api_Move), L.length - k ≤ m → m < f → k ≤ L.length → OI GP (L.drop k) now → mv.length ≤ k → ref26_One.l2 barred w L f now mv (k : Int) = some (match oneL w barred (L.drop k) now mv with | some r => Out.go r.1 | none => Out.ret ([], false)) := by
      intro m
      induction m with
      | zero =>
        intro k f now mv h1 h2 h3 _ _
        obtain ⟨f, rfl⟩ : ∃ q, f = q + 1 := ⟨f - 1, by omega⟩
        rw [ref26_One.l2, if_neg (by simp; omega), List.drop_eq_nil_of_le (by omega)]; rfl
      | succ m ih =>
        intro k f now mv h1 h2 h3 hi hm
        obtain ⟨f, rfl⟩ : ∃ q, f = q + 1 := ⟨f - 1, by omega⟩
        by_cases hk : k < L.length
        · have hi' := hi
          rw [List.drop_eq_getElem_cons hk] at hi' ⊢
          have hlen := hi'.len
          rw [List.length_cons] at hlen
          rw [ref26_One.l2, if_pos (dlt hk), glk hk, wk1 (by omega)]
          simp only [Option.bind_some]
          rw [best_RO (by omega) (by omega) (fun m h => hms m (hwm m h)) hwn hi'.q1 (hi'.q2 _ (List.mem_cons_self ..)) hi'.self hbr, oneL]
          simp only [Option.bind_some, seq_eq]
          by_cases e : bestO w now barred L[k] = ⟨#[]⟩
          · rw [if_pos (by simpa using e), if_pos e]
          · rw [if_neg (by simpa using e), if_neg e, ap_ok (by omega) (by simp; omega)]
            simp only [Option.bind_some]
            rw [ap_ok (by omega) (by simp; omega)]
            simp only [Option.bind_some]
            exact ih (k + 1) f _ _ (by omega) (by omega) (by omega) (hi'.next _) (by simp; omega)
        · rw [ref26_One.l2, if_neg (by simp; omega), List.drop_eq_nil_of_le (by omega)]; rfl
    rw [show (0 : Int) = ((0 : Nat) : Int) from rfl, k2 L.length 0 FU _ [] (by omega) (by unfold FU; omega) (Nat.zero_le _) (by rw [List.drop_zero]; exact hst) (by simp), List.drop_zero]
    simp only [Option.bind_some]
    cases oneL w barred L (notS bs name) [] with
    | none => rfl
    | some r => rfl
end Go.Proofs.YtmpkpnclmihdnaaGreat.M
/-
  Plain laws of the plan: budgets, and why a machine cannot be emptied. Own text.
-/
namespace Go.Proofs.YtmpkpnclmihdnaaGreat.M
open Go Go.Proofs Go.Proofs.YtmpkpnclmihdnaaGreat.V
open Go.IntKind (i64)
set_option linter.unusedVariables false
set_option maxRecDepth 20000

/-- A budget that is light, and right as far as it matters here. -/
structure GB (b : T_api_Budget) : Prop where
  mt : LL b.Match
  lo : 0 ≤ b.Least
  hi : b.Least ≤ 400

theorem light15 (l : List T_api_Budget) : ∃ r, ref15_Light l = some r ∧ (r = true → l.length ≤ 30 ∧ ∀ k (h : k < l.length), l[k].Name.size ≤ 300 ∧ LL l[k].Match) := by
  unfold ref15_Light
  by_cases h : (l.length : Int) > 30
  · rw [if_pos (by simpa using h)]; exact ⟨false, rfl, by simp⟩
  · rw [if_neg (by simpa using h)]
    have hl : l.length ≤ 30 := by omega
    rcases loopI (F := fun n i => ref15_Light.l1 l n i) (Q := fun r => r = false) (S := fun k => ∀ h : k < l.length, l[k].Name.size ≤ 300 ∧ LL l[k].Match) (len := l.length) (by omega) (fun n k hk => by
        rw [ref15_Light.l1, if_pos (dlt hk), glk hk, wk1 (by omega)]
        simp only [Option.bind_some]
        by_cases h1 : (l[k].Name.size : Int) > 300
        · rw [if_pos (by simpa using h1)]; exact .inl ⟨false, rfl, rfl⟩
        · rw [if_neg (by simpa using h1)]
          obtain ⟨b, e, f⟩ := ref05_Light_eq l[k].Match
          rw [e]
          cases b with
          | false => exact .inl ⟨false, rfl, rfl⟩
          | true => exact .inr ⟨rfl, fun _ => ⟨by omega, f rfl⟩⟩) (fun n => by rw [ref15_Light.l1, if_neg dnl]) with ⟨r, h1, rfl⟩ | ⟨h1, h2⟩
    · rw [h1]; exact ⟨false, rfl, by simp⟩
    · rw [h1]; exact ⟨true, rfl, fun _ => ⟨hl, fun k hk => h2 k hk hk⟩⟩

theorem right15 {l : List T_api_Budget} (hl : l.length ≤ 30) (hb : ∀ k (h : k < l.length), l[k].Name.size ≤ 300 ∧ LL l[k].Match) : ∃ r, ref15_Right l = some r ∧ (r = true → ∀ b, b ∈ l → GB b) := by
  unfold ref15_Right
  by_cases h : (l.length : Int) > 16
  · rw [if_pos (by simpa using h)]; exact ⟨false, rfl, by simp⟩
  · rw [if_neg (by simpa using h)]
    rcases loopI (F := fun n i => ref15_Right.l1 l n i) (Q := fun r => r = false) (S := fun k => ∀ h : k < l.length, 0 ≤ l[k].Least ∧ l[k].Least ≤ 400) (len := l.length) (by omega) (fun n k hk => by
        obtain ⟨w, hw⟩ := Word_tot (s := l[k].Name) (by have := (hb k hk).1; omega)
        obtain ⟨q, hq⟩ := Right5_tot (hb k hk).2
        rw [ref15_Right.l1, if_pos (dlt hk), glk hk, wk1 (by omega)]
        simp only [Option.bind_some, hw, hq]
        cases w with
        | false => exact .inl ⟨false, rfl, rfl⟩
        | true =>
          simp only [Bool.not_true, Bool.false_eq_true, if_false, Option.bind_some]
          by_cases e : l[k].Match.length = 0
          · rw [show ((l[k].Match.length : Int) == 0) = true by simpa using e]; exact .inl ⟨false, rfl, rfl⟩
          · rw [show ((l[k].Match.length : Int) == 0) = false by simpa using e]
            cases q with
            | false => exact .inl ⟨false, rfl, rfl⟩
            | true =>
              simp only [Bool.not_true, Bool.false_eq_true, if_false, Option.bind_some]
              by_cases e1 : l[k].Least < 0
              · simp only [e1, decide_true, if_true, Option.bind_some]; exact .inl ⟨false, rfl, rfl⟩
              · simp only [e1, decide_false, Bool.false_eq_true, if_false, Option.bind_some]
                by_cases e2 : l[k].Least > 400
                · rw [if_pos (by simpa using e2)]; exact .inl ⟨false, rfl, rfl⟩
                · rw [if_neg (by simpa using e2)]
                  rcases loopI (F := fun n i => ref15_Right.l2 l (k : Int) n i) (Q := fun r => r = Out.ret false) (S := fun _ => True) (len := k) (by omega) (fun n j hj => by
                      rw [ref15_Right.l2, if_pos (by simpa using hj), glk (show j < l.length by omega), glk hk, wk1 (by omega)]
                      simp only [Option.bind_some]
                      cases V.seq l[j].Name l[k].Name with
                      | true => exact .inl ⟨_, rfl, rfl⟩
                      | false => exact .inr ⟨rfl, trivial⟩) (fun n => by rw [ref15_Right.l2, if_neg (by simp)]) with ⟨r, h1, rfl⟩ | ⟨h1, h2⟩
                  · rw [h1]; exact .inl ⟨false, rfl, rfl⟩
                  · rw [h1]; exact .inr ⟨rfl, fun _ => ⟨by omega, by omega⟩⟩) (fun n => by rw [ref15_Right.l1, if_neg dnl]) with ⟨r, h1, rfl⟩ | ⟨h1, h2⟩
    · rw [h1]; exact ⟨false, rfl, by simp⟩
    · rw [h1]
      refine ⟨true, rfl, fun _ b hbm => ?_⟩
      obtain ⟨i, hi, rfl⟩ := List.getElem_of_mem hbm
      exact ⟨(hb i hi).2, (h2 i hi hi).1, (h2 i hi hi).2⟩

/-- Where a pod stands; the length: nowhere. -/
def plcN (bs : List T_api_Bound) (name : ByteArray) : Nat := bs.findIdx fun b => decide (b.Pod.Name = name)
def plcI (bs : List T_api_Bound) (name : ByteArray) : Int := if plcN bs name < bs.length then (plcN bs name : Int) else -1
theorem plc_first {bs : List T_api_Bound} {name : ByteArray} {r : Int} (h : firstAt bs.length (fun k => ∃ h : k < bs.length, bs[k].Pod.Name = name) r) : r = plcI bs name := by
  unfold plcI plcN
  rcases h with ⟨q, rfl, q1, ⟨q2, q3⟩, q4⟩ | ⟨rfl, q1⟩
  · have : bs.findIdx (fun b => decide (b.Pod.Name = name)) = q := by
      rw [List.findIdx_eq q1]
      refine ⟨by simpa using q3, fun j hj => ?_⟩
      have := q4 j hj
      simpa using fun e => this ⟨by omega, e⟩
    rw [this, if_pos q1]
  · have : bs.findIdx (fun b => decide (b.Pod.Name = name)) = bs.length := by
      rw [List.findIdx_eq_length]
      intro b hb
      obtain ⟨i, hi, rfl⟩ := List.getElem_of_mem hb
      simpa using fun e => q1 i hi ⟨hi, e⟩
    rw [this, if_neg (Nat.lt_irrefl _)]
theorem Place_R (bs : List T_api_Bound) (name : ByteArray) (hl : bs.length ≤ 1000) : ref09_Place bs name = some (plcI bs name) := by
  obtain ⟨r, h1, h2⟩ := Place9_eq bs name (by omega)
  rw [h1, plc_first h2]
theorem Place_P (bs : List T_api_Bound) (name : ByteArray) (hl : bs.length ≤ 1000) : yard_Place bs name = some (plcI bs name) := by
  unfold yard_Place yard_first_yard_Place_1
  obtain ⟨r, h1, h2⟩ := loopF (p := fun k => ∃ h : k < bs.length, bs[k].Pod.Name = name) (F := fun n i => yard_first_yard_Place_1.l1 (bs.length : Int) bs name n i) (len := bs.length) (by omega) (fun n k hk => by
    rw [yard_first_yard_Place_1.l1, if_pos (dlt hk), wk1 (by omega)]
    unfold yard_Place_1
    rw [glk hk]
    simp only [Option.bind_some, seq_eq]
    by_cases h : bs[k].Pod.Name = name
    · rw [if_pos (by simpa using h)]; exact .inl ⟨rfl, hk, h⟩
    · rw [if_neg (by simpa using h)]; exact .inr ⟨rfl, fun ⟨_, h'⟩ => h h'⟩) (fun n => by rw [yard_first_yard_Place_1.l1, if_neg dnl])
  exact (congrArg (fun o => Option.bind o fun r => some r) h1).trans (by rw [plc_first h2]; rfl)

/-- How many of a budget's pods are on machines. -/
def cntV (b : T_api_Budget) (bs : List T_api_Bound) : Nat := (bs.filter fun x => !decide (x.On = ⟨#[]⟩) && hasB x.Pod.Labels b.Match).length
def spareV (b : T_api_Budget) (bs : List T_api_Bound) : Int := (cntV b bs : Int) - b.Least
theorem cntV_le (b : T_api_Budget) (bs : List T_api_Bound) : cntV b bs ≤ bs.length := List.length_filter_le _ _
theorem cntV_cons (b : T_api_Budget) (x : T_api_Bound) (l : List T_api_Bound) : cntV b (x :: l) = (if (!decide (x.On = ⟨#[]⟩) && hasB x.Pod.Labels b.Match) = true then 1 else 0) + cntV b l := by
  unfold cntV
  rw [List.filter_cons]
  split <;> simp <;> omega
theorem Spare_P {b : T_api_Budget} (hb : GB b) {bs : List T_api_Bound} (hl : bs.length ≤ 400) : budget_Spare b bs = some (spareV b bs) := by
  unfold budget_Spare spareV
  have h1 := hb.lo
  have h2 := hb.hi
  have key : ∀ (l : List T_api_Bound) (k : Nat) (n : Int), -400 ≤ n → n + (l.length : Int) ≤ 1000 → budget_Spare.l1 b l k n = some (n + (cntV b l : Int)) := by
    intro l
    induction l with
    | nil => intro k n _ _; simp [budget_Spare.l1, cntV]
    | cons x l ih =>
      intro k n hn hn2
      simp only [List.length_cons] at hn2
      rw [budget_Spare.l1, seq_eq, cntV_cons]
      unfold budget_counts
      rw [has_B]
      simp only [Option.bind_some]
      by_cases e : x.On = ⟨#[]⟩
      · simp only [e, decide_true, Bool.not_true, Bool.false_eq_true, if_false, Option.bind_some, Bool.false_and]
        rw [ih _ _ hn (by omega)]; simp
      · simp only [e, decide_false, Bool.not_false, if_true, Option.bind_some, Bool.true_and]
        cases hasB x.Pod.Labels b.Match with
        | false => simp only [Bool.false_eq_true, if_false]; rw [ih _ _ hn (by omega)]; simp
        | true =>
          simp only [if_true]
          rw [w_eq (by omega) (by omega), ih _ _ (by omega) (by omega)]
          congr 1; omega
  rw [w_eq (by omega) (by omega), key bs 0 _ (by omega) (by omega)]
  simp only [Option.bind_some]
  congr 1; omega
theorem Spare_R {b : T_api_Budget} (hb : GB b) {bs : List T_api_Bound} (hl : bs.length ≤ 400) (hp : ∀ x, x ∈ bs → GP x.Pod) : ref15_Spare b bs = some (spareV b bs) := by
  unfold ref15_Spare spareV
  have h1 := hb.lo
  have h2 := hb.hi
  have hm := hb.mt.1
  have key : ∀ (m k f : Nat) (n : Nat), bs.length - k ≤ m → m < f → k ≤ bs.length → n ≤ k → ref15_Spare.l1 b bs f (n : Int) (k : Int) = some ((n + cntV b (bs.drop k) : Nat) : Int) := by
    intro m
    induction m with
    | zero =>
      intro k f n h1 h2 h3 h4
      obtain ⟨f, rfl⟩ : ∃ q, f = q + 1 := ⟨f - 1, by omega⟩
      rw [ref15_Spare.l1, if_neg (by simp; omega), List.drop_eq_nil_of_le (by omega)]; rfl
    | succ m ih =>
      intro k f n h1 h2 h3 h4
      obtain ⟨f, rfl⟩ : ∃ q, f = q + 1 := ⟨f - 1, by omega⟩
      by_cases hk : k < bs.length
      · have hg := hp _ (List.getElem_mem hk)
        rw [ref15_Spare.l1, if_pos (dlt hk), glk hk, wk1 (k := k) (by omega), List.drop_eq_getElem_cons hk, cntV_cons]
        simp only [Option.bind_some, seq_eq]
        rw [Has5_B (by have := hg.lp.labels.1; omega) (by omega) hg.labels]
        simp only [Option.bind_some]
        by_cases e : bs[k].On = ⟨#[]⟩
        · simp only [e, decide_true, Bool.not_true, Bool.false_eq_true, if_false, Option.bind_some, Bool.false_and]
          rw [ih _ _ _ (by omega) (by omega) (by omega) (by omega)]; simp
        · simp only [e, decide_false, Bool.not_false, if_true, Option.bind_some, Bool.true_and]
          cases hasB bs[k].Pod.Labels b.Match with
          | false => simp only [Bool.false_eq_true, if_false]; rw [ih _ _ _ (by omega) (by omega) (by omega) (by omega)]; simp
          | true =>
            simp only [if_true]
            rw [wk1 (k := n) (by omega), ih _ _ (n + 1) (by omega) (by omega) (by omega) (by omega)]
            congr 2; omega
      · rw [ref15_Spare.l1, if_neg (by simp; omega), List.drop_eq_nil_of_le (by omega)]; rfl
  have := key bs.length 0 FU 0 (by omega) (by unfold FU; omega) (Nat.zero_le _) (Nat.zero_le _)
  have hc := cntV_le b bs
  rw [List.drop_zero, Nat.zero_add] at this
  rw [show ref15_Spare.l1 b bs FU 0 0 = _ from this]
  simp only [Option.bind_some]
  rw [w_eq (by omega) (by omega)]
end Go.Proofs.YtmpkpnclmihdnaaGreat.M
/-
  Plain laws of the plan: why a machine cannot be emptied, told alike. Own text.
-/
namespace Go.Proofs.YtmpkpnclmihdnaaGreat.M
open Go Go.Proofs Go.Proofs.YtmpkpnclmihdnaaGreat.V
open Go.IntKind (i64)
set_option linter.unusedVariables false
set_option maxRecDepth 20000

theorem plc_lt {bs : List T_api_Bound} {name : ByteArray} : plcI bs name < 0 ↔ ¬ plcN bs name < bs.length := by
  unfold plcI
  split <;> omega
theorem plc_pos {bs : List T_api_Bound} {name : ByteArray} (h : plcN bs name < bs.length) : plcI bs name = (plcN bs name : Int) := by unfold plcI; rw [if_pos h]

def mayV (L : List T_api_Budget) (bs : List T_api_Bound) (name : ByteArray) : Int :=
  if h : plcN bs name < bs.length then
    if bs[plcN bs name].On = ⟨#[]⟩ then 22
    else if (L.any fun b => hasB bs[plcN bs name].Pod.Labels b.Match && decide (spareV b bs ≤ 0)) = true then 20 else 0
  else 16
def evictS (bs : List T_api_Bound) (name : ByteArray) : List T_api_Bound :=
  if h : plcN bs name < bs.length then bs.set (plcN bs name) ⟨bs[plcN bs name].Pod, ⟨#[]⟩⟩ else bs
theorem evict_len (bs : List T_api_Bound) (name : ByteArray) : (evictS bs name).length = bs.length := by
  unfold evictS; split <;> simp
theorem evict_pods {Q : T_api_Pod → Prop} {bs : List T_api_Bound} (h : ∀ b, b ∈ bs → Q b.Pod) (name : ByteArray) : ∀ b, b ∈ evictS bs name → Q b.Pod := by
  intro b hb
  unfold evictS at hb
  split at hb
  · rename_i hl
    rcases List.mem_or_eq_of_mem_set hb with hb | rfl
    · exact h b hb
    · exact h bs[plcN bs name] (List.getElem_mem hl)
  · exact h b hb

theorem May_P {L : List T_api_Budget} (hL : ∀ b, b ∈ L → GB b) {bs : List T_api_Bound} (hl : bs.length ≤ 400) (name : ByteArray) : budget_May L bs name = some (mayV L bs name) := by
  unfold budget_May mayV
  rw [Place_P _ _ (by omega)]
  simp only [Option.bind_some]
  by_cases h : plcN bs name < bs.length
  · rw [if_neg (by simpa using fun q => (plc_lt.1 q) h), dif_pos h, plc_pos h, glk h]
    simp only [Option.bind_some, seq_eq]
    by_cases e : bs[plcN bs name].On = ⟨#[]⟩
    · rw [if_pos (by simpa using e), if_pos e]
    · rw [if_neg (by simpa using e), if_neg e]
      have key : ∀ (l : List T_api_Budget) (k : Nat), (∀ b, b ∈ l → GB b) → budget_May.l1 bs (plcN bs name : Int) l k = some (if (l.any fun b => hasB bs[plcN bs name].Pod.Labels b.Match && decide (spareV b bs ≤ 0)) = true then Out.ret 20 else Out.go ()) := by
        intro l
        induction l with
        | nil => intro k _; rfl
        | cons x l ih =>
          intro k hx
          rw [budget_May.l1, glk h]
          unfold budget_counts
          simp only [Option.bind_some]
          rw [has_B, Spare_P (hx x (List.mem_cons_self ..)) hl, ih _ (fun b hb => hx b (List.mem_cons_of_mem _ hb)), List.any_cons]
          simp only [Option.bind_some]
          cases hasB bs[plcN bs name].Pod.Labels x.Match with
          | false => simp
          | true => cases decide (spareV x bs ≤ 0) <;> simp
      rw [key L 0 hL]
      split <;> rfl
  · rw [if_pos (by simpa using plc_lt.2 h), dif_neg h]

theorem May_R {L : List T_api_Budget} (hLl : L.length ≤ 30) (hL : ∀ b, b ∈ L → GB b) {bs : List T_api_Bound} (hl : bs.length ≤ 400) (hp : ∀ x, x ∈ bs → GP x.Pod) (name : ByteArray) : ref15_May L bs name = some (mayV L bs name) := by
  unfold ref15_May mayV
  rw [Place_R _ _ (by omega)]
  simp only [Option.bind_some]
  by_cases h : plcN bs name < bs.length
  · rw [if_neg (by simpa using fun q => (plc_lt.1 q) h), dif_pos h, plc_pos h, glk h]
    simp only [Option.bind_some, seq_eq]
    by_cases e : bs[plcN bs name].On = ⟨#[]⟩
    · rw [if_pos (by simpa using e), if_pos e]
    · rw [if_neg (by simpa using e), if_neg e]
      have hg := hp _ (List.getElem_mem h)
      rcases loopI (F := fun n i => ref15_May.l1 L bs (plcN bs name : Int) n i) (Q := fun r => r = 20 ∧ ∃ b, b ∈ L ∧ (hasB bs[plcN bs name].Pod.Labels b.Match && decide (spareV b bs ≤ 0)) = true) (S := fun k => ∀ q : k < L.length, (hasB bs[plcN bs name].Pod.Labels L[k].Match && decide (spareV L[k] bs ≤ 0)) = false) (len := L.length) (by omega) (fun n k hk => by
          have hb := hL _ (List.getElem_mem hk)
          rw [ref15_May.l1, if_pos (dlt hk), glk h, glk hk, wk1 (by omega)]
          simp only [Option.bind_some]
          rw [Has5_B (by have := hg.lp.labels.1; omega) (by have := hb.mt.1; omega) hg.labels, Spare_R hb hl hp]
          simp only [Option.bind_some]
          cases e1 : hasB bs[plcN bs name].Pod.Labels L[k].Match with
          | false => exact .inr ⟨rfl, fun _ => by rw [e1]; rfl⟩
          | true =>
            simp only [if_true, Option.bind_some]
            by_cases e2 : spareV L[k] bs ≤ 0
            · rw [if_pos (by simpa using e2)]; exact .inl ⟨20, rfl, rfl, L[k], List.getElem_mem hk, by simp [e1, e2]⟩
            · rw [if_neg (by simpa using e2)]; exact .inr ⟨rfl, fun _ => by simp [e2]⟩) (fun n => by rw [ref15_May.l1, if_neg dnl]) with ⟨r, h1, rfl, b, h2, h3⟩ | ⟨h1, h2⟩
      · rw [h1, if_pos (List.any_eq_true.2 ⟨b, h2, h3⟩)]; rfl
      · rw [h1, if_neg]
        · rfl
        · rw [List.any_eq_true]
          rintro ⟨b, hb, hc⟩
          obtain ⟨i, hi, rfl⟩ := List.getElem_of_mem hb
          rw [h2 i hi hi] at hc
          cases hc
  · rw [if_pos (by simpa using plc_lt.2 h), dif_neg h]

theorem may_zero {L : List T_api_Budget} {bs : List T_api_Bound} {name : ByteArray} (h : mayV L bs name = 0) : ∃ q : plcN bs name < bs.length, bs[plcN bs name].On ≠ ⟨#[]⟩ := by
  unfold mayV at h
  split at h
  · rename_i q
    refine ⟨q, fun e => ?_⟩
    rw [if_pos e] at h
    exact absurd h (by decide)
  · exact absurd h (by decide)

theorem Evict_P {L : List T_api_Budget} (hL : ∀ b, b ∈ L → GB b) {bs : List T_api_Bound} (hl : bs.length ≤ 400) (name : ByteArray) : budget_Evict L bs name = some (if mayV L bs name = 0 then (evictS bs name, 0) else ([], mayV L bs name)) := by
  unfold budget_Evict
  rw [May_P hL hl]
  simp only [Option.bind_some]
  by_cases h : mayV L bs name = 0
  · obtain ⟨q, _⟩ := may_zero h
    rw [if_neg (by simpa using h), if_pos h, ap_ok (by omega) (by simp; omega), Place_P _ _ (by omega), plc_pos q]
    simp only [Option.bind_some, List.nil_append]
    rw [glk q]
    unfold evictS
    rw [dif_pos q]
    rfl
  · rw [if_pos (by simpa using h), if_neg h]
theorem Evict_R {L : List T_api_Budget} (hLl : L.length ≤ 30) (hL : ∀ b, b ∈ L → GB b) {bs : List T_api_Bound} (hl : bs.length ≤ 400) (hp : ∀ x, x ∈ bs → GP x.Pod) (name : ByteArray) : ref15_Evict L bs name = some (if mayV L bs name = 0 then (evictS bs name, 0) else ([], mayV L bs name)) := by
  unfold ref15_Evict
  rw [May_R hLl hL hl hp]
  simp only [Option.bind_some]
  by_cases h : mayV L bs name = 0
  · obtain ⟨q, _⟩ := may_zero h
    rw [if_neg (by simpa using h), if_pos h, ap_ok (by omega) (by simp; omega), Place_R _ _ (by omega), plc_pos q]
    simp only [Option.bind_some, List.nil_append]
    rw [glk q]
    unfold evictS
    rw [dif_pos q]
    rfl
  · rw [if_pos (by simpa using h), if_neg h]

def blkB (p : T_api_Pod) : Bool := p.Pinned || (p.Local || decide (p.Owner = ⟨#[]⟩))
def whyL (L : List T_api_Budget) : List T_api_Pod → List T_api_Bound → Int
  | [], _ => 0
  | p :: l, now => if mayV L now p.Name = 0 then whyL L l (evictS now p.Name) else mayV L now p.Name
def whyE (L : List T_api_Budget) (bs : List T_api_Bound) (name : ByteArray) : Int := if (movS bs name).any blkB = true then 22 else whyL L (movS bs name) bs

theorem blocks_eq (p : T_api_Pod) : block_blocks p = some (blkB p) := by
  unfold block_blocks block_one blkB
  rw [seq_eq]
  cases p.Pinned <;> cases p.Local <;> cases decide (p.Owner = ⟨#[]⟩) <;> rfl

theorem Why_P {L : List T_api_Budget} (hL : ∀ b, b ∈ L → GB b) {bs : List T_api_Bound} (hl : bs.length ≤ 400) (name : ByteArray) : ∃ s, block_Why bs L name = some (s, whyE L bs name) := by
  unfold block_Why whyE
  rw [Movable_P _ _ (by omega)]
  simp only [Option.bind_some]
  generalize movS bs name = M
  have k1 : ∀ (l : List T_api_Pod) (k : Nat), (l.any blkB = true → ∃ s, block_Why.l1 l k = some (Out.ret (s, 22))) ∧ (l.any blkB = false → block_Why.l1 l k = some (Out.go ())) := by
    intro l
    induction l with
    | nil => intro k; exact ⟨fun h => by simp at h, fun _ => rfl⟩
    | cons x l ih =>
      intro k
      rw [block_Why.l1, blocks_eq]
      simp only [Option.bind_some, List.any_cons]
      cases blkB x with
      | true => exact ⟨fun _ => ⟨x.Name, rfl⟩, fun h => by simp at h⟩
      | false => exact ih (k + 1)
  have k2 : ∀ (l : List T_api_Pod) (k : Nat) (now : List T_api_Bound), now.length ≤ 400 → (whyL L l now = 0 → block_Why.l2 L l k now = some (Out.go ())) ∧ (whyL L l now ≠ 0 → ∃ s, block_Why.l2 L l k now = some (Out.ret (s, whyL L l now))) := by
    intro l
    induction l with
    | nil => intro k now _; exact ⟨fun _ => rfl, fun h => absurd rfl h⟩
    | cons x l ih =>
      intro k now hn
      rw [block_Why.l2, Evict_P hL hn, whyL]
      simp only [Option.bind_some]
      by_cases e : mayV L now x.Name = 0
      · simp only [if_pos e]
        rw [if_neg (by simp)]
        exact ih (k + 1) _ (by rw [evict_len]; exact hn)
      · simp only [if_neg e]
        rw [if_pos (by simpa using e)]
        exact ⟨fun h => absurd h e, fun _ => ⟨_, rfl⟩⟩
  cases h : M.any blkB with
  | true =>
    obtain ⟨s, e⟩ := (k1 M 0).1 h
    rw [e]; exact ⟨s, rfl⟩
  | false =>
    rw [(k1 M 0).2 h]
    simp only [Option.bind_some, Out.on, Bool.false_eq_true, if_false]
    by_cases e : whyL L M bs = 0
    · rw [(k2 M 0 bs hl).1 e, e]; exact ⟨_, rfl⟩
    · obtain ⟨s, e2⟩ := (k2 M 0 bs hl).2 e
      rw [e2]; exact ⟨s, rfl⟩

theorem Why_R {L : List T_api_Budget} (hLl : L.length ≤ 30) (hL : ∀ b, b ∈ L → GB b) {bs : List T_api_Bound} (hl : bs.length ≤ 400) (hp : ∀ x, x ∈ bs → GP x.Pod) (name : ByteArray) : ∃ s, ref25_Why bs L name = some (s, whyE L bs name) := by
  unfold ref25_Why whyE
  have hml := movS_len bs name
  have hol := onS_len bs name
  rw [Movable_R _ _ (by omega)]
  simp only [Option.bind_some]
  generalize movS bs name = M at *
  have k2 : ∀ (m k f : Nat) (now : List T_api_Bound), M.length - k ≤ m → m < f → k ≤ M.length → now.length ≤ 400 → (∀ x, x ∈ now → GP x.Pod) → (whyL L (M.drop k) now = 0 → ref25_Why.l2 L M f now (k : Int) = some (Out.go ())) ∧ (whyL L (M.drop k) now ≠ 0 → ∃ s, ref25_Why.l2 L M f now (k : Int) = some (Out.ret (s, whyL L (M.drop k) now))) := by
    intro m
    induction m with
    | zero =>
      intro k f now h1 h2 h3 _ _
      obtain ⟨f, rfl⟩ : ∃ q, f = q + 1 := ⟨f - 1, by omega⟩
      rw [ref25_Why.l2, if_neg (by simp; omega), List.drop_eq_nil_of_le (by omega)]
      exact ⟨fun _ => rfl, fun h => absurd rfl h⟩
    | succ m ih =>
      intro k f now h1 h2 h3 hn hg
      obtain ⟨f, rfl⟩ : ∃ q, f = q + 1 := ⟨f - 1, by omega⟩
      by_cases hk : k < M.length
      · rw [ref25_Why.l2, if_pos (dlt hk), glk hk, wk1 (by omega), List.drop_eq_getElem_cons hk, whyL]
        simp only [Option.bind_some]
        rw [Evict_R hLl hL hn hg]
        simp only [Option.bind_some]
        by_cases e : mayV L now M[k].Name = 0
        · simp only [if_pos e]
          rw [if_neg (by simp)]
          exact ih (k + 1) f _ (by omega) (by omega) (by omega) (by rw [evict_len]; exact hn) (evict_pods hg _)
        · simp only [if_neg e]
          rw [if_pos (by simpa using e)]
          exact ⟨fun h => absurd h e, fun _ => ⟨_, rfl⟩⟩
      · rw [ref25_Why.l2, if_neg (by simp; omega), List.drop_eq_nil_of_le (by omega)]
        exact ⟨fun _ => rfl, fun h => absurd rfl h⟩
  rcases loopI (F := fun n i => ref25_Why.l1 M n i) (Q := fun r => r.2 = 22 ∧ M.any blkB = true) (S := fun k => ∀ h : k < M.length, blkB M[k] = false) (len := M.length) (by omega) (fun n k hk => by
      rw [ref25_Why.l1, if_pos (dlt hk), glk hk, wk1 (by omega)]
      simp only [Option.bind_some, seq_eq]
      have hin : blkB M[k] = true → M.any blkB = true := fun h => List.any_eq_true.2 ⟨_, List.getElem_mem hk, h⟩
      unfold blkB at hin ⊢
      cases h1 : M[k].Pinned with
      | true => exact .inl ⟨_, rfl, rfl, hin (by rw [h1]; rfl)⟩
      | false =>
        cases h2 : M[k].Local with
        | true => exact .inl ⟨_, rfl, rfl, hin (by rw [h1, h2]; rfl)⟩
        | false =>
          cases h : decide (M[k].Owner = ⟨#[]⟩) with
          | true => exact .inl ⟨_, rfl, rfl, hin (by rw [h1, h2, h]; rfl)⟩
          | false => exact .inr ⟨rfl, fun _ => by rw [h1, h2]; exact h⟩) (fun n => by rw [ref25_Why.l1, if_neg dnl]) with ⟨⟨s, r⟩, h1, h2, h3⟩ | ⟨h1, h2⟩
  · simp only at h2
    subst h2
    rw [h1, if_pos h3]; exact ⟨s, rfl⟩
  · have : M.any blkB = false := by
      rw [Bool.eq_false_iff]
      intro h
      obtain ⟨b, hb, hc⟩ := List.any_eq_true.1 h
      obtain ⟨i, hi, rfl⟩ := List.getElem_of_mem hb
      rw [h2 i hi hi] at hc; cases hc
    rw [h1, this]
    simp only [Option.bind_some, Out.on, Bool.false_eq_true, if_false]
    have k3 := k2 M.length 0 FU bs (by omega) (by unfold FU; omega) (Nat.zero_le _) hl hp
    rw [List.drop_zero] at k3
    by_cases e : whyL L M bs = 0
    · rw [show ref25_Why.l2 L M FU bs 0 = _ from k3.1 e, e]; exact ⟨_, rfl⟩
    · obtain ⟨s, e2⟩ := k3.2 e
      rw [show ref25_Why.l2 L M FU bs 0 = _ from e2]; exact ⟨s, rfl⟩
end Go.Proofs.YtmpkpnclmihdnaaGreat.M

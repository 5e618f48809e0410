/-
  Printed by a program of this session out of the loaded functions: models and their proofs. Own text.
-/
import Derived.Test.YtmpkpnclmihdnaaGreatPLoop
import Derived.Test.YtmpkpnclmihdnaaGreatPFit0
/-
  Plain Lean: loops that go on while something is so. Own text.
-/
namespace Go.Proofs.YtmpkpnclmihdnaaGreat.M
open Go Go.Proofs Go.Proofs.YtmpkpnclmihdnaaGreat.V
set_option linter.unusedVariables false

def allN (n : Nat) (q : Nat → Bool) : Bool := (List.range n).all q
theorem allN_iff {n : Nat} {q : Nat → Bool} : allN n q = true ↔ ∀ k, k < n → q k = true := by simp [allN]
theorem allN_not {n : Nat} {q : Nat → Bool} : allN n q = false ↔ ∃ k, k < n ∧ q k = false := by simp [allN]

/-- A loop by an index, that goes on while something is so. -/
theorem idxAll {ρ : Type} {F : Nat → Int → Option (Out ρ Unit)} {len : Nat} {r0 : ρ} (q : Nat → Bool) (hl : len < 1000000000000)
    (hs : ∀ n (k : Nat), k < len → F (n + 1) (k : Int) = if q k = true then F n ((k + 1 : Nat) : Int) else some (Out.ret r0))
    (he : ∀ n, F (n + 1) (len : Int) = some (Out.go ())) : F FU 0 = some (if allN len q = true then Out.go () else Out.ret r0) := by
  rcases loopI (Q := fun r => r = r0 ∧ allN len q = false) (S := fun k => k < len → q k = true) hl (fun n k hk => by
      rw [hs n k hk]
      cases h : q k with
      | true => exact .inr ⟨rfl, fun _ => rfl⟩
      | false => exact .inl ⟨_, rfl, rfl, allN_not.2 ⟨k, hk, h⟩⟩) he with ⟨r, h1, rfl, h3⟩ | ⟨h1, h2⟩
  · rw [h1, if_neg (by rw [h3]; simp)]
  · rw [h1, if_pos (allN_iff.2 fun k hk => h2 k hk hk)]

/-- A loop over a row. -/
theorem rowAll {α ρ : Type} {G : List α → Nat → Option (Out ρ Unit)} {l : List α} {r0 : ρ} (q : Nat → Bool)
    (hs : ∀ (k : Nat) (hk : k < l.length), G (l[k] :: l.drop (k + 1)) k = if q k = true then G (l.drop (k + 1)) (k + 1) else some (Out.ret r0))
    (he : ∀ k, G [] k = some (Out.go ())) : G l 0 = some (if allN l.length q = true then Out.go () else Out.ret r0) := by
  have key : ∀ (m k : Nat), l.length - k = m → ((∀ j, k ≤ j → j < l.length → q j = true) → G (l.drop k) k = some (Out.go ())) ∧ ((∃ j, k ≤ j ∧ j < l.length ∧ q j = false) → G (l.drop k) k = some (Out.ret r0)) := by
    intro m
    induction m with
    | zero =>
      intro k hk
      refine ⟨fun _ => ?_, fun ⟨j, h1, h2, _⟩ => by omega⟩
      rw [List.drop_eq_nil_of_le (by omega)]; exact he k
    | succ m ih =>
      intro k hk
      have hkl : k < l.length := by omega
      obtain ⟨i1, i2⟩ := ih (k + 1) (by omega)
      rw [List.drop_eq_getElem_cons hkl, hs k hkl]
      refine ⟨fun h => ?_, fun ⟨j, h1, h2, h3⟩ => ?_⟩
      · rw [if_pos (h k (Nat.le_refl _) hkl)]
        exact i1 fun j a b => h j (by omega) b
      · by_cases hq : q k = true
        · rw [if_pos hq]
          refine i2 ⟨j, ?_, h2, h3⟩
          by_cases e : j = k
          · subst e; rw [hq] at h3; cases h3
          · omega
        · rw [if_neg hq]
  obtain ⟨h1, h2⟩ := key l.length 0 rfl
  rw [List.drop_zero] at h1 h2
  cases h : allN l.length q with
  | true => rw [if_pos rfl]; exact h1 fun j _ hj => allN_iff.1 h j hj
  | false => obtain ⟨k, a, b⟩ := allN_not.1 h; rw [if_neg (by simp)]; exact h2 ⟨k, Nat.zero_le _, a, b⟩

end Go.Proofs.YtmpkpnclmihdnaaGreat.M
/-
  Plain laws of fit: why a pod cannot run on a machine, told out of its parts. Own text.
-/
namespace Go.Proofs.YtmpkpnclmihdnaaGreat.M
open Go Go.Proofs Go.Proofs.YtmpkpnclmihdnaaGreat.V
set_option linter.unusedVariables false

theorem isD {α : Type} {o : Option α} (h : isS o) (d : α) : o = some (o.getD d) := by obtain ⟨r, rfl⟩ := h; rfl

def hasB (l s : List T_api_Label) : Bool := (labels_Has l s).getD false
theorem has_B (l s : List T_api_Label) : labels_Has l s = some (hasB l s) := isD (Has_tot l s) false
def placeV (m : T_api_Machine) (p : T_api_Pod) : Int := (suit_Place m p).getD 0
def suitV (m : T_api_Machine) (bs : List T_api_Bound) (p : T_api_Pod) : Int := if placeV m p = 0 then roomS m bs p else placeV m p
def zonesV (ms : List T_api_Machine) : List (ByteArray × ByteArray) := (apart_zones ms).getD []
def oneB (zs : List (ByteArray × ByteArray)) (a b : ByteArray) (wide : Bool) : Bool :=
  if V.seq a b || !wide then V.seq a b else ((V.mg zs a).isSome && (V.mg zs b).isSome) && V.seq ((V.mg zs a).getD ⟨#[]⟩) ((V.mg zs b).getD ⟨#[]⟩)
def barsB (zs : List (ByteArray × ByteArray)) (p q : T_api_Pod) (a b : ByteArray) : Bool := (decide ((p.Apart.length : Int) > (0 : Int)) && hasB q.Labels p.Apart) && oneB zs a b p.Wide
def nearQ (zs : List (ByteArray × ByteArray)) (p : T_api_Pod) (on : ByteArray) (x : T_api_Bound) : Bool :=
  !(V.seq x.On ⟨#[]⟩ || V.seq x.Pod.Name p.Name) && (barsB zs p x.Pod on x.On || barsB zs x.Pod p x.On on)
def nearB (zs : List (ByteArray × ByteArray)) (bs : List T_api_Bound) (p : T_api_Pod) (on : ByteArray) : Bool := bs.any (nearQ zs p on)
def manyV (ms : List T_api_Machine) (bs : List T_api_Bound) (p : T_api_Pod) (on : ByteArray) : Bool := (apart_Many ms bs p on).getD false
def whyV (ms : List T_api_Machine) (bs : List T_api_Bound) (p : T_api_Pod) (m : T_api_Machine) : Int :=
  if suitV m bs p = 0 then (if nearB (zonesV ms) bs p m.Name = true then 7 else if manyV ms bs p m.Name = true then 8 else 0) else suitV m bs p

theorem place_V {m : T_api_Machine} {p : T_api_Pod} (hm : LM m) (hp : LP p) : suit_Place m p = some (placeV m p) ∧ (placeV m p = 0 ∨ placeV m p = 1 ∨ placeV m p = 4 ∨ placeV m p = 5 ∨ placeV m p = 6) := by
  refine ⟨isD (Place_tot hm hp) 0, ?_⟩
  have h : suit_Place m p = some (placeV m p) := isD (Place_tot hm hp) 0
  generalize placeV m p = w at *
  unfold suit_Place at h
  split at h
  · injection h with h; omega
  obtain ⟨_, _, h⟩ := Option.bind_eq_some_iff.1 h
  split at h
  · injection h with h; omega
  obtain ⟨_, _, h⟩ := Option.bind_eq_some_iff.1 h
  split at h
  · injection h with h; omega
  obtain ⟨_, _, h⟩ := Option.bind_eq_some_iff.1 h
  split at h
  · injection h with h; omega
  · injection h with h; omega

theorem suit_V {m : T_api_Machine} {bs : List T_api_Bound} {p : T_api_Pod} (hm : LM m) (hp : LP p) (hl : bs.length ≤ 1000) (hb : ∀ b, b ∈ bs → LP b.Pod) : suit_Suits m bs p = some (suitV m bs p) := by
  obtain ⟨h1, h2⟩ := place_V hm hp
  rw [Suits_eq h1 hl (by have := hp.nports; omega) (fun b h => by have := (hb b h).nports; omega)]
  unfold suitV
  congr 1
  rcases h2 with h | h | h | h | h <;> rw [h] <;> simp

theorem roomS_cases (m : T_api_Machine) (bs : List T_api_Bound) (p : T_api_Pod) : roomS m bs p = 0 ∨ roomS m bs p = 2 ∨ roomS m bs p = 3 := by
  unfold roomS
  split
  · cases (onS (othersS bs p.Name) m.Name).any (fun q => hit p.Ports q.Ports) <;> simp
  · simp

theorem zones_V (ms : List T_api_Machine) : apart_zones ms = some (zonesV ms) := by
  have : isS (apart_zones ms) := by
    unfold apart_zones
    have key : ∀ (l : List T_api_Machine) k z, isS (apart_zones.l1 l k z) := by
      intro l
      induction l with
      | nil => intro k z; exact T.pure _
      | cons x l ih =>
        intro k z
        rw [apart_zones.l1]
        exact T.bind (Get_tot _ _) fun _ _ => T.ite (fun _ => ih _ _) fun _ => ih _ _
    exact T.bind (key ms 0 []) fun _ _ => T.pure _
  exact isD this []

theorem one_B (zs : List (ByteArray × ByteArray)) (a b : ByteArray) (w : Bool) : apart_place_one ⟨zs⟩ a b w = some (oneB zs a b w) := by
  unfold apart_place_one oneB
  split <;> simp
theorem bars_B (zs : List (ByteArray × ByteArray)) (p q : T_api_Pod) (a b : ByteArray) : apart_place_bars ⟨zs⟩ p q a b = some (barsB zs p q a b) := by
  unfold apart_place_bars barsB
  rw [has_B, one_B]
  cases decide ((p.Apart.length : Int) > (0 : Int)) <;> cases hasB q.Labels p.Apart <;> rfl

theorem near_l1 (zs : List (ByteArray × ByteArray)) (p : T_api_Pod) (on : ByteArray) : ∀ (l : List T_api_Bound) (k : Nat), apart_Near.l1 p on zs l k = some (if l.any (nearQ zs p on) = true then Out.ret true else Out.go ())
  | [], _ => rfl
  | x :: l, k => by
    rw [apart_Near.l1, bars_B, bars_B, near_l1 zs p on l, List.any_cons]
    unfold nearQ
    cases (V.seq x.On ⟨#[]⟩ || V.seq x.Pod.Name p.Name) <;> cases barsB zs p x.Pod on x.On <;> cases barsB zs x.Pod p x.On on <;> rfl

/-- Where a machine is. -/
theorem Find_first (ms : List T_api_Machine) (name : ByteArray) (hl : ms.length ≤ 1000) : ∃ r, yard_Find ms name = some r ∧ firstAt ms.length (fun k => ∃ h : k < ms.length, ms[k].Name = name) r := by
  unfold yard_Find yard_first_yard_Find_1
  obtain ⟨r, h1, h2⟩ := loopF (F := fun n i => yard_first_yard_Find_1.l1 (ms.length : Int) ms name n i) (len := ms.length) (p := fun j => ∃ h : j < ms.length, ms[j].Name = name) (by omega) (fun n j hj => by
    rw [yard_first_yard_Find_1.l1, if_pos (by simp; omega), wk1 (by omega)]
    unfold yard_Find_1
    rw [glk hj]
    simp only [Option.bind_some, seq_eq]
    by_cases h : ms[j].Name = name
    · rw [if_pos (by simpa using h)]; exact .inl ⟨rfl, hj, h⟩
    · rw [if_neg (by simpa using h)]; exact .inr ⟨rfl, fun ⟨_, h'⟩ => h h'⟩) (fun n => by rw [yard_first_yard_Find_1.l1, if_neg (by simp)])
  exact ⟨r, by rw [h1]; rfl, h2⟩
theorem Find_in {ms : List T_api_Machine} {m : T_api_Machine} (hl : ms.length ≤ 1000) (hm : m ∈ ms) : ∃ k : Nat, yard_Find ms m.Name = some (k : Int) ∧ ∃ h : k < ms.length, ms[k].Name = m.Name := by
  obtain ⟨r, h1, h2⟩ := Find_first ms m.Name hl
  rcases h2 with ⟨q, rfl, b, ⟨c, d⟩, e⟩ | ⟨rfl, b⟩
  · exact ⟨q, h1, c, d⟩
  · obtain ⟨i, hi, rfl⟩ := List.getElem_of_mem hm
    exact absurd ⟨hi, rfl⟩ (b i hi)

theorem near_B {ms : List T_api_Machine} {m : T_api_Machine} (bs : List T_api_Bound) (p : T_api_Pod) (hl : ms.length ≤ 1000) (hm : m ∈ ms) : apart_Near ms bs p m.Name = some (nearB (zonesV ms) bs p m.Name) := by
  obtain ⟨k, h1, _⟩ := Find_in hl hm
  unfold apart_Near nearB
  rw [h1, zones_V]
  simp only [Option.bind_some]
  rw [if_neg (by simp), near_l1]
  cases bs.any (nearQ (zonesV ms) p m.Name) <;> rfl

theorem tally_tot (ms : List T_api_Machine) (bs : List T_api_Bound) (p : T_api_Pod) : isS (apart_tally ms bs p) := by
  unfold apart_tally
  rw [zones_V]
  have key : ∀ (l : List T_api_Bound) k n, isS (apart_tally.l1 p (zonesV ms) l k n) := by
    intro l
    induction l with
    | nil => intro k n; exact T.pure _
    | cons x l ih =>
      intro k n
      rw [apart_tally.l1]
      exact T.bind (T.ite (fun _ => T.bind (Has_tot _ _) fun _ _ => T.pure _) fun _ => T.pure _) fun _ _ => T.ite (fun _ => ih _ _) fun _ => ih _ _
  simp only [Option.bind_some]
  exact T.bind (key bs 0 []) fun _ _ => T.pure _
theorem yzones_tot (ms : List T_api_Machine) (hl : ms.length ≤ 1000) : ∃ r, yard_Zones ms = some r ∧ r.length ≤ 1000 := by
  unfold yard_Zones
  have key : ∀ (l : List T_api_Machine) k n acc, l.length + acc.length ≤ 1000 → ∃ r, yard_Zones.l1 l k n acc = some r ∧ r.length ≤ 1000 := by
    intro l
    induction l with
    | nil => intro k n acc h; exact ⟨acc, rfl, by simpa using h⟩
    | cons x l ih =>
      intro k n acc h
      rw [List.length_cons] at h
      rw [yard_Zones.l1]
      obtain ⟨g, hg⟩ := Get_tot x.Labels ⟨#[122, 111, 110, 101]⟩
      rw [hg]
      simp only [Option.bind_some]
      split
      · exact ih _ _ _ (by omega)
      · split
        · rw [ap_ok (by omega) (by simp; omega)]
          exact ih _ _ _ (by simp; omega)
        · exact ih _ _ _ (by omega)
  obtain ⟨r, h1, h2⟩ := key ms 0 [] [] (by simpa using hl)
  exact ⟨r, by rw [h1]; rfl, h2⟩
theorem counts_tot (ms : List T_api_Machine) (bs : List T_api_Bound) (p : T_api_Pod) (hl : ms.length ≤ 1000) : ∃ r, apart_Counts ms bs p = some r ∧ r.2.length = r.1.length := by
  unfold apart_Counts
  obtain ⟨t, ht⟩ := tally_tot ms bs p
  obtain ⟨z, hz, hzl⟩ := yzones_tot ms hl
  rw [ht, hz]
  simp only [Option.bind_some]
  have key : ∀ (l : List ByteArray) k acc, l.length + acc.length ≤ 1000 → ∃ r, apart_Counts.l1 t l k acc = some r ∧ r.length = l.length + acc.length := by
    intro l
    induction l with
    | nil => intro k acc h; exact ⟨acc, rfl, by simp⟩
    | cons x l ih =>
      intro k acc h
      rw [List.length_cons] at h
      rw [apart_Counts.l1, ap_ok (by omega) (by simp; omega)]
      obtain ⟨r, h1, h2⟩ := ih (k + 1) (acc ++ [((V.mg t x).getD (0 : Int))]) (by simp; omega)
      exact ⟨r, h1, by rw [h2]; simp; omega⟩
  obtain ⟨r, h1, h2⟩ := key z 0 [] (by simpa using hzl)
  rw [h1]
  exact ⟨(z, r), rfl, by simpa using h2⟩
theorem many_V {ms : List T_api_Machine} (bs : List T_api_Bound) (p : T_api_Pod) (on : ByteArray) (hl : ms.length ≤ 1000) : apart_Many ms bs p on = some (manyV ms bs p on) := by
  have : isS (apart_Many ms bs p on) := by
    unfold apart_Many
    obtain ⟨r, hr, _⟩ := Find_first ms on hl
    obtain ⟨c, hc, hcl⟩ := counts_tot ms bs p hl
    rw [hr, zones_V, hc]
    have key : ∀ (l : List ByteArray) (k : Nat) a b d, k + l.length ≤ c.2.length → isS (apart_Many.l1 on (zonesV ms) c l k a b d) := by
      intro l
      induction l with
      | nil => intro k a b d h; exact T.pure _
      | cons x l ih =>
        intro k a b d h
        rw [List.length_cons] at h
        rw [apart_Many.l1, glk (by omega)]
        simp only [Option.bind_some]
        exact T.ite (fun _ => ih _ _ _ _ (by omega)) fun _ => ih _ _ _ _ (by omega)
    simp only [Option.bind_some]
    exact T.bind (T.ite (fun _ => T.pure _) fun _ => T.pure _) fun _ _ => T.ite (fun _ => T.pure _) fun _ => T.bind (key c.1 0 _ _ _ (by omega)) fun _ _ => T.bind (Has_tot _ _) fun _ _ => T.ite (fun _ => T.pure _) fun _ => T.pure _
  exact isD this false
theorem many_none (ms : List T_api_Machine) (bs : List T_api_Bound) (p : T_api_Pod) (on : ByteArray) (h : p.Spread.length = 0) : manyV ms bs p on = false := by
  unfold manyV apart_Many
  rw [h]
  rfl

theorem asker_V {ms : List T_api_Machine} {bs : List T_api_Bound} {p : T_api_Pod} {m : T_api_Machine} (hl : ms.length ≤ 1000) (hn : bs.length ≤ 1000) (hm : m ∈ ms) (h1 : LM m) (hp : LP p) (hb : ∀ b, b ∈ bs → LP b.Pod) :
    fit_asker_why ⟨ms, bs, p⟩ m = some (whyV ms bs p m) := by
  unfold fit_asker_why
  rw [suit_V h1 hp hn hb]
  unfold whyV
  by_cases h : suitV m bs p = 0
  · rw [if_pos h, h]
    unfold apart_Why
    show ((apart_Near ms bs p m.Name).bind _).bind _ = _
    rw [near_B bs p hl hm, many_V bs p m.Name hl]
    cases nearB (zonesV ms) bs p m.Name <;> cases manyV ms bs p m.Name <;> rfl
  · rw [if_neg h]
    simp only [Option.bind_some]
    rw [if_pos (by simpa using h)]

theorem whyV_range {ms : List T_api_Machine} {bs : List T_api_Bound} {p : T_api_Pod} {m : T_api_Machine} (h1 : LM m) (hp : LP p) : 0 ≤ whyV ms bs p m ∧ whyV ms bs p m ≤ 8 := by
  obtain ⟨_, h2⟩ := place_V h1 hp
  have h3 := roomS_cases m bs p
  unfold whyV suitV
  (repeat' split) <;> omega

/-! a guard alike in all laws of fit -/
theorem ms_mem {ms : List T_api_Machine} {bs : List T_api_Bound} (hy : LY ms bs) : ∀ m, m ∈ ms → LM m := fun m h => by
  obtain ⟨i, hi, rfl⟩ := List.getElem_of_mem h; exact hy.ms i hi
theorem bs_mem {ms : List T_api_Machine} {bs : List T_api_Bound} (hy : LY ms bs) : ∀ b, b ∈ bs → LP b.Pod := fun m h => by
  obtain ⟨i, hi, rfl⟩ := List.getElem_of_mem h; exact (hy.bs i hi).1

end Go.Proofs.YtmpkpnclmihdnaaGreat.M
/-
  Plain laws: what fewer pods leave possible, and what a pod that is put where it can be leaves possible. Own text.
-/
namespace Go.Proofs.YtmpkpnclmihdnaaGreat.M
open Go Go.Proofs Go.Proofs.YtmpkpnclmihdnaaGreat.V
set_option linter.unusedVariables false

theorem whyV_zero {ms : List T_api_Machine} {bs : List T_api_Bound} {p : T_api_Pod} {m : T_api_Machine} : whyV ms bs p m = 0 ↔ placeV m p = 0 ∧ roomS m bs p = 0 ∧ nearB (zonesV ms) bs p m.Name = false ∧ manyV ms bs p m.Name = false := by
  unfold whyV suitV
  by_cases h1 : placeV m p = 0
  · by_cases h2 : roomS m bs p = 0
    · cases nearB (zonesV ms) bs p m.Name <;> cases manyV ms bs p m.Name <;> simp [h1, h2]
    · simp [h1, h2]
  · simp [h1]

theorem hit_comm : ∀ (a b : List Int), hit a b = hit b a := by
  intro a b
  induction a, b using hit.induct with
  | case1 b => rw [hit, hit_nil_r]
  | case2 a l => rw [hit_nil_r]; rw [hit]
  | case3 a l m => rw [hit, hit]; simp
  | case4 a l b m h1 h2 ih => rw [hit, if_neg h1, if_pos h2, ih, hit, if_neg (fun e => h1 e.symm), if_neg (by omega)]
  | case5 a l b m h1 h2 ih => rw [hit, if_neg h1, if_neg h2, ih, hit, if_neg (fun e => h1 e.symm), if_pos (by omega)]

theorem total_append (l m : List T_api_Pod) : total (l ++ m) = radd (total l) (total m) := by
  induction l with
  | nil => rw [List.nil_append]; show _ = radd r0 _; rw [radd_r0]
  | cons x l ih => rw [List.cons_append, total, total, ih, radd_assoc]

/-- All that is on a machine: one of them, and the others. -/
theorem total_split {k : ByteArray} {b : T_api_Bound} : ∀ {bs : List T_api_Bound}, (bs.map (·.Pod.Name)).Nodup → b ∈ bs → b.On = k → total (onS bs k) = radd (total (onS (othersS bs b.Pod.Name) k)) b.Pod.Need
  | x :: bs, hn, hb, hk => by
    rw [List.map_cons, List.nodup_cons] at hn
    have c1 : ∀ (y : T_api_Bound) (l : List T_api_Bound), onS (y :: l) k = (if y.On = k then [y.Pod] else []) ++ onS l k := fun y l => by
      unfold onS
      by_cases e : y.On = k
      · rw [if_pos e, List.filter_cons_of_pos (by simpa using e)]; rfl
      · rw [if_neg e, List.filter_cons_of_neg (by simpa using e)]; rfl
    have c2 : ∀ (y : T_api_Bound) (l : List T_api_Bound), othersS (y :: l) b.Pod.Name = (if y.Pod.Name = b.Pod.Name then [] else [y]) ++ othersS l b.Pod.Name := fun y l => by
      unfold othersS
      by_cases e : y.Pod.Name = b.Pod.Name
      · rw [if_pos e, List.filter_cons_of_neg (by simpa using e)]; rfl
      · rw [if_neg e, List.filter_cons_of_pos (by simpa using e)]; rfl
    rcases List.mem_cons.1 hb with rfl | hb
    · have : othersS bs b.Pod.Name = bs := by
        unfold othersS
        refine List.filter_eq_self.2 fun y hy => ?_
        have : y.Pod.Name ≠ b.Pod.Name := fun e => hn.1 (List.mem_map.2 ⟨y, hy, e⟩)
        simpa using this
      rw [c1, if_pos hk, c2, if_pos rfl, this, total_append, List.nil_append]
      show radd (radd b.Pod.Need r0) _ = _
      unfold radd r0
      congr 1 <;> simp only <;> omega
    · have hne : ¬ x.Pod.Name = b.Pod.Name := fun e => hn.1 (List.mem_map.2 ⟨b, hb, e.symm⟩)
      rw [c1, c2, if_neg hne, total_append, total_split hn.2 hb hk]
      show _ = radd (total (onS (x :: othersS bs b.Pod.Name) k)) _
      rw [c1, total_append, radd_assoc]

theorem fewer_sub {α : Type} (l : List α) (k : Nat) : (l.take k ++ l.drop (k + 1)).Sublist l := by
  have h : (l.take k ++ l.drop k) = l := List.take_append_drop k l
  have h2 : (l.drop (k + 1)).Sublist (l.drop k) := by
    rw [← List.drop_drop]
    exact List.drop_sublist _ _
  have := (List.Sublist.refl (l.take k)).append h2
  rw [h] at this
  exact this

theorem left_parts {has need : T_api_Res} {l : List T_api_Pod} (hn : need.Pods ≥ 1) (h : rle need (leftS has (usedS l)) = true) : (usedS l).2 = 0 ∧ resOK has = true := by
  by_cases hc : (usedS l).2 = 0 ∧ resOK has = true
  · exact hc
  · unfold leftS at h
    rw [if_neg hc, rle_iff] at h
    simp only [r0] at h
    omega

/-- With fewer pods what could be can be. -/
theorem why_fewer {ms : List T_api_Machine} {bs cs : List T_api_Bound} (hs : cs.Sublist bs) (hneeds : ∀ n k, needsOK (onS (othersS bs n) k) = true) {p : T_api_Pod} (hp : p.Need.Pods ≥ 1) (hsp : p.Spread.length = 0) {m : T_api_Machine} (h : whyV ms bs p m = 0) : whyV ms cs p m = 0 := by
  rw [whyV_zero] at h ⊢
  obtain ⟨h1, h2, h3, h4⟩ := h
  refine ⟨h1, ?_, ?_, many_none _ _ _ _ hsp⟩
  · rw [roomS_zero] at h2 ⊢
    obtain ⟨a, b, c, d⟩ := h2
    have hsub := others_sub hs p.Name m.Name
    obtain ⟨e, f⟩ := left_sub hsub (hneeds _ _) m.Has p.Need a c hp
    exact ⟨e, b, f, fun q hq => d q (hsub.subset hq)⟩
  · unfold nearB at h3 ⊢
    rw [List.any_eq_false] at h3 ⊢
    exact fun x hx => h3 x (hs.subset hx)

theorem tally_skip (zs : List (ByteArray × ByteArray)) (p : T_api_Pod) (x : T_api_Bound) (hx : x.Pod.Name = p.Name) : ∀ (l : List T_api_Bound) (k : Nat) (n : List (ByteArray × Int)), apart_tally.l1 p zs (l ++ [x]) k n = apart_tally.l1 p zs l k n
  | [], k, n => by
    rw [List.nil_append]
    simp only [apart_tally.l1, seq_eq, hx, decide_true, Bool.not_true, Bool.and_false, Bool.false_eq_true, if_false, Option.bind_some]
  | y :: l, k, n => by
    rw [List.cons_append, apart_tally.l1, apart_tally.l1]
    simp only [tally_skip zs p x hx l]
theorem many_skip (ms : List T_api_Machine) (bs : List T_api_Bound) (p : T_api_Pod) (x : T_api_Bound) (hx : x.Pod.Name = p.Name) (on : ByteArray) : manyV ms (bs ++ [x]) p on = manyV ms bs p on := by
  unfold manyV apart_Many apart_Counts apart_tally
  rw [zones_V]
  simp only [Option.bind_some, tally_skip (zonesV ms) p x hx]

/-- With a pod put where it can be: it can be there still. -/
theorem why_put_self {ms : List T_api_Machine} {bs : List T_api_Bound} {p : T_api_Pod} {n : ByteArray} {m : T_api_Machine} (h : whyV ms bs p m = 0) : whyV ms (bs ++ [⟨p, n⟩]) p m = 0 := by
  rw [whyV_zero] at h ⊢
  obtain ⟨h1, h2, h3, h4⟩ := h
  have ho : othersS (bs ++ [⟨p, n⟩]) p.Name = othersS bs p.Name := by unfold othersS; rw [List.filter_append]; simp
  refine ⟨h1, ?_, ?_, by rw [many_skip ms bs p ⟨p, n⟩ rfl]; exact h4⟩
  · rw [roomS_zero] at h2 ⊢
    rw [ho]; exact h2
  · unfold nearB at h3 ⊢
    rw [List.any_append, h3]
    simp [nearQ, seq_eq]

/-- .. and the others too. -/
theorem why_put_other {ms : List T_api_Machine} {bs : List T_api_Bound} (hnd : (bs.map (·.Pod.Name)).Nodup) (hneeds : ∀ n k, needsOK (onS (othersS bs n) k) = true) {p : T_api_Pod} (hpn : p.Need.Pods ≥ 1) {b : T_api_Bound} (hb : b ∈ bs) (hbn : b.Pod.Need.Pods ≥ 1) (hbs : b.Pod.Spread.length = 0)
    (hpos : ∀ x, x ∈ bs → x.Pod.Name ≠ p.Name) {m m0 : T_api_Machine} (hm : m.Name = b.On) (hne : m.Name ≠ ⟨#[]⟩) (huniq : m.Name = m0.Name → m = m0) (h0 : whyV ms bs p m0 = 0) (h : whyV ms bs b.Pod m = 0) : whyV ms (bs ++ [⟨p, m0.Name⟩]) b.Pod m = 0 := by
  rw [whyV_zero] at h h0 ⊢
  obtain ⟨h1, h2, h3, h4⟩ := h
  obtain ⟨g1, g2, g3, g4⟩ := h0
  have hpb : ¬ p.Name = b.Pod.Name := fun e => hpos b hb e.symm
  refine ⟨h1, ?_, ?_, many_none _ _ _ _ hbs⟩
  · have ho : othersS (bs ++ [⟨p, m0.Name⟩]) b.Pod.Name = othersS bs b.Pod.Name ++ [⟨p, m0.Name⟩] := by unfold othersS; rw [List.filter_append]; simp [hpb]
    have hop : othersS bs p.Name = bs := by
      unfold othersS
      exact List.filter_eq_self.2 fun y hy => by simpa using hpos y hy
    rw [roomS_zero] at h2 g2 ⊢
    rw [ho]
    have hon : onS (othersS bs b.Pod.Name ++ [⟨p, m0.Name⟩]) m.Name = onS (othersS bs b.Pod.Name) m.Name ++ (if m0.Name = m.Name then [p] else []) := by
      unfold onS
      rw [List.filter_append, List.map_append]
      by_cases e : m0.Name = m.Name <;> simp [e]
    rw [hon]
    obtain ⟨a1, a2, a3, a4⟩ := h2
    by_cases e : m0.Name = m.Name
    · have em := huniq e.symm
      subst em
      rw [if_pos rfl]
      rw [hop] at g2
      obtain ⟨b1, b2, b3, b4⟩ := g2
      obtain ⟨u1, u2⟩ := left_parts hbn a3
      obtain ⟨v1, v2⟩ := left_parts hpn b3
      obtain ⟨w1, w2, w3, w4⟩ := usedS_ok _ u1
      obtain ⟨x1, x2, x3, x4⟩ := usedS_ok _ v1
      have hts := total_split hnd hb hm.symm
      have hnn := total_nn w3
      generalize hA : onS (othersS bs b.Pod.Name) m.Name = A at *
      have hh := (resOK_iff _).1 u2
      have hpn' := (resOK_iff _).1 b2
      have hbn' := (resOK_iff _).1 a2
      have hta := (resOK_iff _).1 w4
      unfold leftS at a3 b3
      rw [if_pos ⟨u1, u2⟩, w2, rle_iff] at a3
      rw [if_pos ⟨v1, v2⟩, x2, hts, rle_iff] at b3
      simp only [rsub, rmin, radd] at a3 b3
      have htot : total (A ++ [p]) = radd (total A) p.Need := by
        rw [total_append]
        show radd _ (radd p.Need r0) = _
        unfold radd r0
        congr 1 <;> simp
      have hok : resOK (total (A ++ [p])) = true := by
        rw [htot, resOK_iff]
        simp only [radd]
        omega
      have hneed : needsOK (A ++ [p]) = true := by
        unfold needsOK at w3 ⊢
        rw [List.all_append, w3]
        simp [b2]
      have hus : usedS (A ++ [p]) = (total (A ++ [p]), 0) := by unfold usedS; rw [if_pos hneed, if_pos hok]
      rw [hus]
      unfold leftS
      rw [if_pos ⟨rfl, u2⟩]
      refine ⟨?_, a2, ?_, fun q hq => ?_⟩
      · rw [resOK_iff, htot]
        simp only [rsub, rmin, radd]
        omega
      · rw [rle_iff, htot]
        simp only [rsub, rmin, radd]
        omega
      · rcases List.mem_append.1 hq with hq | hq
        · exact a4 q hq
        · have : q = p := by simpa using hq
          subst this
          rw [hit_comm]
          refine b4 b.Pod ?_
          unfold onS
          exact List.mem_map.2 ⟨b, List.mem_filter.2 ⟨hb, by simp [hm]⟩, rfl⟩
    · rw [if_neg e, List.append_nil]
      exact ⟨a1, a2, a3, a4⟩
  · unfold nearB at h3 g3 ⊢
    rw [List.any_append, h3]
    have hq := List.any_eq_false.1 g3 b hb
    unfold nearQ at hq
    simp only [seq_eq, ← hm] at hq
    simp only [List.any_cons, List.any_nil, Bool.or_false, Bool.false_or]
    unfold nearQ
    simp only [seq_eq]
    have e1 : decide (m.Name = (⟨#[]⟩ : ByteArray)) = false := by simpa using hne
    have e2 : decide (b.Pod.Name = p.Name) = false := by simpa using hpos b hb
    rw [e1, e2] at hq
    cases c1 : barsB (zonesV ms) p b.Pod m0.Name m.Name with
    | true => rw [c1] at hq; simp at hq
    | false =>
      cases c2 : barsB (zonesV ms) b.Pod p m.Name m0.Name with
      | true => rw [c1, c2] at hq; simp at hq
      | false => simp
end Go.Proofs.YtmpkpnclmihdnaaGreat.M

/-
  Printed by a program of this session out of the loaded functions: models and their proofs. Own text.
-/
import Derived.Test.YtbkdglcedgiogaaGreatPFit0
import Derived.Test.YtbkdglcedgiogaaGreatPFitW
import Derived.Test.YtbkdglcedgiogaaGreatPBits2
/- Plain law: further machines' names, and whether an estimate can be asked for. Own work. -/
namespace Go.Proofs.YtbkdglcedgiogaaGreat.M
open Go Go.Proofs Go.Proofs.YtbkdglcedgiogaaGreat.V
open Go.IntKind (i64)
set_option linter.unusedVariables false
set_option maxRecDepth 20000
set_option maxHeartbeats 4000000

theorem word_size {s : ByteArray} (hs : s.size < 281474976710656) (h : ref01_Word s = some true) : s.size ≤ 256 := by
  unfold ref01_Word at h
  have key : ∀ (m i n f : Nat), s.size - i ≤ m → m < f → i ≤ s.size → i ≤ 4 * n → n ≤ i → ∃ o, ref01_Word.l1 s f (n : Int) (i : Int) = some o ∧ (o = Out.ret false ∨ ∃ q : Nat, o = Out.go (q : Int) ∧ s.size ≤ 4 * q) := by
    intro m
    induction m with
    | zero =>
      intro i n f h1 h2 h3 h4 h5
      obtain ⟨f, rfl⟩ : ∃ n', f = n' + 1 := ⟨f - 1, by omega⟩
      rw [ref01_Word.l1, if_neg (by simp; omega)]
      exact ⟨_, rfl, .inr ⟨n, rfl, by omega⟩⟩
    | succ m ih =>
      intro i n f h1 h2 h3 h4 h5
      obtain ⟨f, rfl⟩ : ∃ n', f = n' + 1 := ⟨f - 1, by omega⟩
      by_cases hi : i < s.size
      · rw [ref01_Word.l1, if_pos (by simp; omega), Rune_eq hi hs]
        simp only [Option.bind_some]
        cases hr : rune s i with
        | none => exact ⟨_, rfl, .inl rfl⟩
        | some cw =>
          obtain ⟨c, w⟩ := cw
          obtain ⟨_, _, w1, w4, w5⟩ := rune_some hi hr
          rw [show (rv (some (c, w))).2 = (w : Int) from rfl, rv2 hi hr, if_neg (by decide)]
          obtain ⟨b, hb⟩ : ∃ b, ref01_plain (rv (some (c, w))).1 = some b := ⟨_, rfl⟩
          rw [hb]
          simp only [Option.bind_some]
          cases b with
          | false => exact ⟨_, rfl, .inl rfl⟩
          | true =>
            simp only [Bool.not_true, Bool.false_eq_true, if_false]
            rw [w_eq (by omega) (by omega), w_eq (by omega) (by omega)]
            exact ih (i + w) (n + 1) f (by omega) (by omega) (by omega) (by omega) (by omega)
      · rw [ref01_Word.l1, if_neg (by simp; omega)]
        exact ⟨_, rfl, .inr ⟨n, rfl, by omega⟩⟩
  obtain ⟨o, h1, h2⟩ := key s.size 0 0 FU (by omega) (by unfold FU; omega) (by omega) (by omega) (by omega)
  rw [show ((0 : Nat) : Int) = 0 from rfl] at h1
  rw [h1] at h
  rcases h2 with rfl | ⟨q, rfl, hq⟩
  · cases h
  · simp only [Option.bind_some, Out.on, Option.some.injEq, Bool.and_eq_true, decide_eq_true_eq] at h
    omega

/-- A small number's digits. -/
def dg (k : Nat) : ByteArray := (pack_decimal FU (k : Int)).getD ⟨#[]⟩
def dgv (s : ByteArray) : Nat := s.data.toList.foldl (fun a c => 10 * a + (c.toNat - 48)) 0
theorem dg_all : ((List.range 60).all fun k => decide (pack_decimal FU (k : Int) = some (dg k)) && decide ((dg k).size ≤ 3) && decide (dgv (dg k) = k)) = true := by kernel_rfl
theorem dg_ok {k : Nat} (h : k < 60) : pack_decimal FU (k : Int) = some (dg k) ∧ (dg k).size ≤ 3 ∧ dgv (dg k) = k := by
  have := (List.all_eq_true.1 dg_all) k (List.mem_range.2 h)
  simp only [Bool.and_eq_true, decide_eq_true_eq] at this
  exact ⟨this.1.1, this.1.2, this.2⟩
theorem dg_inj {j k : Nat} (hj : j < 60) (hk : k < 60) (h : dg j = dg k) : j = k := by rw [← (dg_ok hj).2.2, ← (dg_ok hk).2.2, h]

def plusB : ByteArray := ⟨#[43]⟩
def freshM (like : T_api_Machine) (k : Nat) : T_api_Machine := ⟨like.Group ++ plusB ++ dg k, like.Group, like.Has, like.Labels, like.Taints, like.Ready⟩
theorem fresh_name (like : T_api_Machine) (k : Nat) : (freshM like k).Name = like.Group ++ plusB ++ dg k := rfl
theorem cat7 {s t : ByteArray} (h : s.size + t.size ≤ 1000000) : V.cat s t = some (s ++ t) := by unfold V.cat; rw [if_pos (by unfold maxLen; omega)]
theorem Fresh_P {like : T_api_Machine} (hl : LM like) {k : Nat} (h : k < 60) : pack_Fresh like (k : Int) = some (freshM like k) := by
  have hg := hl.group
  have h1 := hl.labels.1
  have h2 := hl.taints.1
  have hd := (dg_ok h).2.1
  unfold pack_Fresh
  rw [cat7 (by have : (ByteArray.mk #[43]).size = 1 := rfl; omega), (dg_ok h).1]
  simp only [Option.bind_some]
  rw [cat7 (by have : (ByteArray.mk #[43]).size = 1 := rfl; rw [ByteArray.size_append]; omega), ap_ok (by omega) (by simp; omega), ap_ok (by omega) (by simp; omega)]
  rfl
theorem toL_append (a b : ByteArray) : (a ++ b).data.toList = a.data.toList ++ b.data.toList := by simp
theorem ba_ext {a b : ByteArray} (h : a.data.toList = b.data.toList) : a = b := by
  obtain ⟨⟨a⟩⟩ := a; obtain ⟨⟨b⟩⟩ := b; simpa using h
theorem fresh_inj {like : T_api_Machine} {j k : Nat} (hj : j < 60) (hk : k < 60) (h : (freshM like j).Name = (freshM like k).Name) : j = k := by
  apply dg_inj hj hk
  have := congrArg (fun s : ByteArray => s.data.toList) h
  simp only [fresh_name, toL_append] at this
  exact ba_ext (List.append_cancel_left this)
theorem fresh_plus (like : T_api_Machine) (k : Nat) : (43 : UInt8) ∈ (freshM like k).Name.data.toList := by
  rw [fresh_name, toL_append, toL_append]
  simp [plusB]
theorem fresh_LM {like : T_api_Machine} (hl : LM like) (hg : like.Group.size ≤ 256) {k : Nat} (h : k < 60) : LM (freshM like k) := by
  have hd := (dg_ok h).2.1
  exact ⟨by rw [fresh_name, ByteArray.size_append, ByteArray.size_append]; have : plusB.size = 1 := rfl; omega, hl.group, hl.labels, hl.taints⟩

theorem group_size {m : T_api_Machine} (h : LM m) (hr : ref07_RightMachine m = some true) : m.Group.size ≤ 256 := by
  obtain ⟨a, ha⟩ := maybe7_tot h.name
  obtain ⟨b, hb⟩ := maybe7_tot h.group
  have hs := h.group
  unfold ref07_RightMachine at hr
  rw [ha, hb] at hr
  cases a with
  | false =>
    exfalso
    simp only [Option.bind_some, Bool.false_eq_true, if_false] at hr
    cases hr
  | true =>
    cases b with
    | false =>
      exfalso
      simp only [Option.bind_some, Bool.false_eq_true, if_false, if_true] at hr
      cases hr
    | true =>
      unfold ref07_maybe at hb
      rw [seq_eq] at hb
      by_cases e : m.Group = ⟨#[]⟩
      · rw [e]; exact Nat.zero_le _
      · rw [if_neg (by simpa using e)] at hb
        obtain ⟨w, hw⟩ := Word_tot (s := m.Group) (by omega)
        rw [hw] at hb
        simp only [Option.bind_some, Option.some.injEq] at hb
        subst hb
        exact word_size (by omega) hw

theorem plus_eq {s : ByteArray} (hs : s.size ≤ 1000) : ∃ b, ref19_plus s = some b ∧ (b = false → ¬ (43 : UInt8) ∈ s.data.toList) := by
  unfold ref19_plus
  rcases loopI (F := fun n i => ref19_plus.l1 s n i) (Q := fun r => r = true) (S := fun k => ∀ h : k < s.size, bt s k ≠ 43) (len := s.size) (by omega) (fun n k hk => by
      rw [ref19_plus.l1, if_pos (by simp; omega), gi_nat hk, wk1 (by omega)]
      simp only [Option.bind_some]
      by_cases e : bt s k = 43
      · left; rw [e]; exact ⟨true, rfl, rfl⟩
      · right; rw [if_neg (by simpa using e)]; exact ⟨rfl, fun _ => e⟩) (fun n => by rw [ref19_plus.l1, if_neg (by simp)]) with ⟨r, h1, h2⟩ | ⟨h1, h2⟩
  · rw [h1, h2]; exact ⟨true, rfl, fun h => by cases h⟩
  · rw [h1]
    refine ⟨false, rfl, fun _ hm => ?_⟩
    obtain ⟨k, hk, e⟩ := List.mem_iff_getElem.1 hm
    have hk' : k < s.size := by simpa using hk
    refine h2 k hk' hk' ?_
    rw [← bt_get s k hk']
    have e2 : s.get! k = 43 := by
      rw [← e]
      obtain ⟨⟨a⟩⟩ := s
      show (Array.mk a)[k]! = a[k]
      have : k < a.length := hk
      simp [this]
    rw [e2]; rfl

def pendA (l : List T_api_Pod) : List T_api_Bound := l.map fun p => ⟨p, ⟨#[]⟩⟩
structure RE (ms : List T_api_Machine) (bs : List T_api_Bound) (l : List T_api_Pod) (k : T_api_Machine) : Prop where
  ly : LY ms (bs ++ pendA l)
  ry : RY ms (bs ++ pendA l)
  like : LM k
  right : ref07_RightMachine k = some true
  plus : ∀ m, m ∈ ms → ¬ (43 : UInt8) ∈ m.Name.data.toList

theorem right19_l1 (l : List T_api_Pod) (hl : l.length ≤ 500000000000) : ∀ (m k n : Nat) (acc : List T_api_Bound), l.length - k ≤ m → m < n → k ≤ l.length → (acc.length + (l.length - k)) * 288 ≤ 140737488355328 → ref19_Right.l1 l n acc (k : Int) = some (acc ++ pendA (l.drop k)) := by
  intro m
  induction m with
  | zero =>
    intro k n acc h1 h2 h3 h4
    obtain ⟨n, rfl⟩ : ∃ n', n = n' + 1 := ⟨n - 1, by omega⟩
    have : k = l.length := by omega
    subst this
    rw [ref19_Right.l1, if_neg dnl]; simp [pendA]
  | succ m ih =>
    intro k n acc h1 h2 h3 h4
    obtain ⟨n, rfl⟩ : ∃ n', n = n' + 1 := ⟨n - 1, by omega⟩
    by_cases hk : k < l.length
    · rw [ref19_Right.l1, if_pos (dlt hk), glk hk, wk1 (by omega)]
      simp only [Option.bind_some]
      unfold V.ap
      rw [if_pos (by unfold maxLen; simp only [List.length_cons, List.length_nil]; constructor <;> omega)]
      simp only [Option.bind_some]
      rw [ih (k + 1) n _ (by omega) (by omega) (by omega) (by rw [List.length_append, List.length_singleton]; omega)]
      conv => rhs; rw [List.drop_eq_getElem_cons hk]
      simp only [pendA, List.map_cons, List.append_assoc, List.singleton_append]
    · have : k = l.length := by omega
      subst this
      rw [ref19_Right.l1, if_neg dnl]; simp [pendA]

theorem Right19 (ms : List T_api_Machine) (bs : List T_api_Bound) (l : List T_api_Pod) (like : T_api_Machine) (h : (bs.length + l.length) * 288 ≤ 140737488355328) : ∃ b, ref19_Right ms bs l like = some b ∧ (b = true → RE ms bs l like) := by
  unfold ref19_Right
  have ha : V.ap 288 ([] : List T_api_Bound) bs = some bs := by
    unfold V.ap
    rw [if_pos (by unfold maxLen; simp only [List.length_nil]; constructor <;> omega)]; rfl
  have hl1 : ref19_Right.l1 l FU bs 0 = some (bs ++ pendA l) := right19_l1 l (by omega) l.length 0 FU bs (by omega) (by unfold FU; omega) (by omega) (by omega)
  rw [ha, Option.bind_some, hl1, Option.bind_some]
  obtain ⟨b, hb, hy⟩ := ref09_Light_eq ms (bs ++ pendA l)
  rw [hb]
  cases b with
  | false => exact ⟨false, rfl, fun e => by cases e⟩
  | true =>
    have hy := hy rfl
    simp only [Option.bind_some, Bool.not_true, Bool.false_eq_true, if_false]
    obtain ⟨b, hb, hl⟩ := ref07_LightMachine_eq like
    rw [hb]
    cases b with
    | false => exact ⟨false, rfl, fun e => by cases e⟩
    | true =>
      have hl := hl rfl
      simp only [Option.bind_some, Bool.not_true, Bool.false_eq_true, if_false]
      obtain ⟨b, hr⟩ := RMach_tot hl
      rw [hr]
      cases b with
      | false => exact ⟨false, rfl, fun e => by cases e⟩
      | true =>
        simp only [Option.bind_some, Bool.not_true, Bool.false_eq_true, if_false]
        obtain ⟨r, e, f⟩ := Check9_eq hy
        rw [e]
        simp only [Option.bind_some]
        by_cases hr0 : r = 0
        · rw [show (r != 0) = false by simp [hr0]]
          simp only [Bool.false_eq_true, if_false]
          have hn := hy.nm
          rcases loopI (F := fun n i => ref19_Right.l2 ms n i) (Q := fun r => r = false) (S := fun k => ∀ h : k < ms.length, ¬ (43 : UInt8) ∈ ms[k].Name.data.toList) (len := ms.length) (by omega) (fun n k hk => by
              rw [ref19_Right.l2, if_pos (dlt hk), glk hk, wk1 (by omega)]
              simp only [Option.bind_some]
              obtain ⟨b, hb, hp⟩ := plus_eq (s := ms[k].Name) (by have := (hy.ms k hk).name; omega)
              rw [hb]
              cases b with
              | true => exact .inl ⟨false, rfl, rfl⟩
              | false => exact .inr ⟨rfl, fun _ => hp rfl⟩) (fun n => by rw [ref19_Right.l2, if_neg dnl]) with ⟨q, h1, h2⟩ | ⟨h1, h2⟩
          · rw [h1, h2]; exact ⟨false, rfl, fun e => by cases e⟩
          · rw [h1]
            exact ⟨true, rfl, fun _ => ⟨hy, f hr0, hl, hr, fun m hm => by
              obtain ⟨k, hk, rfl⟩ := List.getElem_of_mem hm
              exact h2 k hk hk⟩⟩
        · rw [show (r != 0) = true by simp [hr0]]
          exact ⟨false, rfl, fun e => by cases e⟩
end Go.Proofs.YtbkdglcedgiogaaGreat.M
/-
  Plain laws: what fewer pods leave possible, and what a pod that is put where it can be leaves possible. Own text.
-/
namespace Go.Proofs.YtbkdglcedgiogaaGreat.M
open Go Go.Proofs Go.Proofs.YtbkdglcedgiogaaGreat.V
set_option linter.unusedVariables false

theorem whyV_zero {ms : List T_api_Machine} {bs : List T_api_Bound} {p : T_api_Pod} {m : T_api_Machine} : whyV ms bs p m = 0 ↔ placeV m p = 0 ∧ roomS m bs p = 0 ∧ nearB (zonesV ms) bs p m.Name = false ∧ manyV ms bs p m.Name = false := by
  unfold whyV suitV
  by_cases h1 : placeV m p = 0
  · by_cases h2 : roomS m bs p = 0
    · cases nearB (zonesV ms) bs p m.Name <;> cases manyV ms bs p m.Name <;> simp [h1, h2]
    · simp [h1, h2]
  · simp [h1]

theorem hit_comm : ∀ (a b : List Int), hit a b = hit b a := by
  intro a b
  induction a, b using hit.induct with
  | case1 b => rw [hit, hit_nil_r]
  | case2 a l => rw [hit_nil_r]; rw [hit]
  | case3 a l m => rw [hit, hit]; simp
  | case4 a l b m h1 h2 ih => rw [hit, if_neg h1, if_pos h2, ih, hit, if_neg (fun e => h1 e.symm), if_neg (by omega)]
  | case5 a l b m h1 h2 ih => rw [hit, if_neg h1, if_neg h2, ih, hit, if_neg (fun e => h1 e.symm), if_pos (by omega)]

theorem total_append (l m : List T_api_Pod) : total (l ++ m) = radd (total l) (total m) := by
  induction l with
  | nil => rw [List.nil_append]; show _ = radd r0 _; rw [radd_r0]
  | cons x l ih => rw [List.cons_append, total, total, ih, radd_assoc]

/-- All that is on a machine: one of them, and the others. -/
theorem total_split {k : ByteArray} {b : T_api_Bound} : ∀ {bs : List T_api_Bound}, (bs.map (·.Pod.Name)).Nodup → b ∈ bs → b.On = k → total (onS bs k) = radd (total (onS (othersS bs b.Pod.Name) k)) b.Pod.Need
  | x :: bs, hn, hb, hk => by
    rw [List.map_cons, List.nodup_cons] at hn
    have c1 : ∀ (y : T_api_Bound) (l : List T_api_Bound), onS (y :: l) k = (if y.On = k then [y.Pod] else []) ++ onS l k := fun y l => by
      unfold onS
      by_cases e : y.On = k
      · rw [if_pos e, List.filter_cons_of_pos (by simpa using e)]; rfl
      · rw [if_neg e, List.filter_cons_of_neg (by simpa using e)]; rfl
    have c2 : ∀ (y : T_api_Bound) (l : List T_api_Bound), othersS (y :: l) b.Pod.Name = (if y.Pod.Name = b.Pod.Name then [] else [y]) ++ othersS l b.Pod.Name := fun y l => by
      unfold othersS
      by_cases e : y.Pod.Name = b.Pod.Name
      · rw [if_pos e, List.filter_cons_of_neg (by simpa using e)]; rfl
      · rw [if_neg e, List.filter_cons_of_pos (by simpa using e)]; rfl
    rcases List.mem_cons.1 hb with rfl | hb
    · have : othersS bs b.Pod.Name = bs := by
        unfold othersS
        refine List.filter_eq_self.2 fun y hy => ?_
        have : y.Pod.Name ≠ b.Pod.Name := fun e => hn.1 (List.mem_map.2 ⟨y, hy, e⟩)
        simpa using this
      rw [c1, if_pos hk, c2, if_pos rfl, this, total_append, List.nil_append]
      show radd (radd b.Pod.Need r0) _ = _
      unfold radd r0
      congr 1 <;> simp only <;> omega
    · have hne : ¬ x.Pod.Name = b.Pod.Name := fun e => hn.1 (List.mem_map.2 ⟨b, hb, e.symm⟩)
      rw [c1, c2, if_neg hne, total_append, total_split hn.2 hb hk]
      show _ = radd (total (onS (x :: othersS bs b.Pod.Name) k)) _
      rw [c1, total_append, radd_assoc]

theorem fewer_sub {α : Type} (l : List α) (k : Nat) : (l.take k ++ l.drop (k + 1)).Sublist l := by
  have h : (l.take k ++ l.drop k) = l := List.take_append_drop k l
  have h2 : (l.drop (k + 1)).Sublist (l.drop k) := by
    rw [← List.drop_drop]
    exact List.drop_sublist _ _
  have := (List.Sublist.refl (l.take k)).append h2
  rw [h] at this
  exact this

theorem left_parts {has need : T_api_Res} {l : List T_api_Pod} (hn : need.Pods ≥ 1) (h : rle need (leftS has (usedS l)) = true) : (usedS l).2 = 0 ∧ resOK has = true := by
  by_cases hc : (usedS l).2 = 0 ∧ resOK has = true
  · exact hc
  · unfold leftS at h
    rw [if_neg hc, rle_iff] at h
    simp only [r0] at h
    omega

/-- With fewer pods what could be can be. -/
theorem why_fewer {ms : List T_api_Machine} {bs cs : List T_api_Bound} (hs : cs.Sublist bs) (hneeds : ∀ n k, needsOK (onS (othersS bs n) k) = true) {p : T_api_Pod} (hp : p.Need.Pods ≥ 1) (hsp : p.Spread.length = 0) {m : T_api_Machine} (h : whyV ms bs p m = 0) : whyV ms cs p m = 0 := by
  rw [whyV_zero] at h ⊢
  obtain ⟨h1, h2, h3, h4⟩ := h
  refine ⟨h1, ?_, ?_, many_none _ _ _ _ hsp⟩
  · rw [roomS_zero] at h2 ⊢
    obtain ⟨a, b, c, d⟩ := h2
    have hsub := others_sub hs p.Name m.Name
    obtain ⟨e, f⟩ := left_sub hsub (hneeds _ _) m.Has p.Need a c hp
    exact ⟨e, b, f, fun q hq => d q (hsub.subset hq)⟩
  · unfold nearB at h3 ⊢
    rw [List.any_eq_false] at h3 ⊢
    exact fun x hx => h3 x (hs.subset hx)

theorem tally_skip (zs : List (ByteArray × ByteArray)) (p : T_api_Pod) (x : T_api_Bound) (hx : x.Pod.Name = p.Name) : ∀ (l : List T_api_Bound) (k : Nat) (n : List (ByteArray × Int)), apart_tally.l1 p zs (l ++ [x]) k n = apart_tally.l1 p zs l k n
  | [], k, n => by
    rw [List.nil_append]
    simp only [apart_tally.l1, seq_eq, hx, decide_true, Bool.not_true, Bool.and_false, Bool.false_eq_true, if_false, Option.bind_some]
  | y :: l, k, n => by
    rw [List.cons_append, apart_tally.l1, apart_tally.l1]
    simp only [tally_skip zs p x hx l]
theorem many_skip (ms : List T_api_Machine) (bs : List T_api_Bound) (p : T_api_Pod) (x : T_api_Bound) (hx : x.Pod.Name = p.Name) (on : ByteArray) : manyV ms (bs ++ [x]) p on = manyV ms bs p on := by
  unfold manyV apart_Many apart_Counts apart_tally
  rw [zones_V]
  simp only [Option.bind_some, tally_skip (zonesV ms) p x hx]

/-- With a pod put where it can be: it can be there still. -/
theorem why_put_self {ms : List T_api_Machine} {bs : List T_api_Bound} {p : T_api_Pod} {n : ByteArray} {m : T_api_Machine} (h : whyV ms bs p m = 0) : whyV ms (bs ++ [⟨p, n⟩]) p m = 0 := by
  rw [whyV_zero] at h ⊢
  obtain ⟨h1, h2, h3, h4⟩ := h
  have ho : othersS (bs ++ [⟨p, n⟩]) p.Name = othersS bs p.Name := by unfold othersS; rw [List.filter_append]; simp
  refine ⟨h1, ?_, ?_, by rw [many_skip ms bs p ⟨p, n⟩ rfl]; exact h4⟩
  · rw [roomS_zero] at h2 ⊢
    rw [ho]; exact h2
  · unfold nearB at h3 ⊢
    rw [List.any_append, h3]
    simp [nearQ, seq_eq]

/-- .. and the others too. -/
theorem why_put_other {ms : List T_api_Machine} {bs : List T_api_Bound} (hnd : (bs.map (·.Pod.Name)).Nodup) (hneeds : ∀ n k, needsOK (onS (othersS bs n) k) = true) {p : T_api_Pod} (hpn : p.Need.Pods ≥ 1) {b : T_api_Bound} (hb : b ∈ bs) (hbn : b.Pod.Need.Pods ≥ 1) (hbs : b.Pod.Spread.length = 0)
    (hpos : ∀ x, x ∈ bs → x.Pod.Name ≠ p.Name) {m m0 : T_api_Machine} (hm : m.Name = b.On) (hne : m.Name ≠ ⟨#[]⟩) (huniq : m.Name = m0.Name → m = m0) (h0 : whyV ms bs p m0 = 0) (h : whyV ms bs b.Pod m = 0) : whyV ms (bs ++ [⟨p, m0.Name⟩]) b.Pod m = 0 := by
  rw [whyV_zero] at h h0 ⊢
  obtain ⟨h1, h2, h3, h4⟩ := h
  obtain ⟨g1, g2, g3, g4⟩ := h0
  have hpb : ¬ p.Name = b.Pod.Name := fun e => hpos b hb e.symm
  refine ⟨h1, ?_, ?_, many_none _ _ _ _ hbs⟩
  · have ho : othersS (bs ++ [⟨p, m0.Name⟩]) b.Pod.Name = othersS bs b.Pod.Name ++ [⟨p, m0.Name⟩] := by unfold othersS; rw [List.filter_append]; simp [hpb]
    have hop : othersS bs p.Name = bs := by
      unfold othersS
      exact List.filter_eq_self.2 fun y hy => by simpa using hpos y hy
    rw [roomS_zero] at h2 g2 ⊢
    rw [ho]
    have hon : onS (othersS bs b.Pod.Name ++ [⟨p, m0.Name⟩]) m.Name = onS (othersS bs b.Pod.Name) m.Name ++ (if m0.Name = m.Name then [p] else []) := by
      unfold onS
      rw [List.filter_append, List.map_append]
      by_cases e : m0.Name = m.Name <;> simp [e]
    rw [hon]
    obtain ⟨a1, a2, a3, a4⟩ := h2
    by_cases e : m0.Name = m.Name
    · have em := huniq e.symm
      subst em
      rw [if_pos rfl]
      rw [hop] at g2
      obtain ⟨b1, b2, b3, b4⟩ := g2
      obtain ⟨u1, u2⟩ := left_parts hbn a3
      obtain ⟨v1, v2⟩ := left_parts hpn b3
      obtain ⟨w1, w2, w3, w4⟩ := usedS_ok _ u1
      obtain ⟨x1, x2, x3, x4⟩ := usedS_ok _ v1
      have hts := total_split hnd hb hm.symm
      have hnn := total_nn w3
      generalize hA : onS (othersS bs b.Pod.Name) m.Name = A at *
      have hh := (resOK_iff _).1 u2
      have hpn' := (resOK_iff _).1 b2
      have hbn' := (resOK_iff _).1 a2
      have hta := (resOK_iff _).1 w4
      unfold leftS at a3 b3
      rw [if_pos ⟨u1, u2⟩, w2, rle_iff] at a3
      rw [if_pos ⟨v1, v2⟩, x2, hts, rle_iff] at b3
      simp only [rsub, rmin, radd] at a3 b3
      have htot : total (A ++ [p]) = radd (total A) p.Need := by
        rw [total_append]
        show radd _ (radd p.Need r0) = _
        unfold radd r0
        congr 1 <;> simp
      have hok : resOK (total (A ++ [p])) = true := by
        rw [htot, resOK_iff]
        simp only [radd]
        omega
      have hneed : needsOK (A ++ [p]) = true := by
        unfold needsOK at w3 ⊢
        rw [List.all_append, w3]
        simp [b2]
      have hus : usedS (A ++ [p]) = (total (A ++ [p]), 0) := by unfold usedS; rw [if_pos hneed, if_pos hok]
      rw [hus]
      unfold leftS
      rw [if_pos ⟨rfl, u2⟩]
      refine ⟨?_, a2, ?_, fun q hq => ?_⟩
      · rw [resOK_iff, htot]
        simp only [rsub, rmin, radd]
        omega
      · rw [rle_iff, htot]
        simp only [rsub, rmin, radd]
        omega
      · rcases List.mem_append.1 hq with hq | hq
        · exact a4 q hq
        · have : q = p := by simpa using hq
          subst this
          rw [hit_comm]
          refine b4 b.Pod ?_
          unfold onS
          exact List.mem_map.2 ⟨b, List.mem_filter.2 ⟨hb, by simp [hm]⟩, rfl⟩
    · rw [if_neg e, List.append_nil]
      exact ⟨a1, a2, a3, a4⟩
  · unfold nearB at h3 g3 ⊢
    rw [List.any_append, h3]
    have hq := List.any_eq_false.1 g3 b hb
    unfold nearQ at hq
    simp only [seq_eq, ← hm] at hq
    simp only [List.any_cons, List.any_nil, Bool.or_false, Bool.false_or]
    unfold nearQ
    simp only [seq_eq]
    have e1 : decide (m.Name = (⟨#[]⟩ : ByteArray)) = false := by simpa using hne
    have e2 : decide (b.Pod.Name = p.Name) = false := by simpa using hpos b hb
    rw [e1, e2] at hq
    cases c1 : barsB (zonesV ms) p b.Pod m0.Name m.Name with
    | true => rw [c1] at hq; simp at hq
    | false =>
      cases c2 : barsB (zonesV ms) b.Pod p m.Name m0.Name with
      | true => rw [c1, c2] at hq; simp at hq
      | false => simp
end Go.Proofs.YtbkdglcedgiogaaGreat.M
/- Plain law: an estimate, step by step, as the program makes it. Own work. -/
namespace Go.Proofs.YtbkdglcedgiogaaGreat.M
open Go Go.Proofs Go.Proofs.YtbkdglcedgiogaaGreat.V
open Go.IntKind (i64)
set_option linter.unusedVariables false
set_option maxRecDepth 20000
set_option maxHeartbeats 4000000

def allM (ms : List T_api_Machine) (like : T_api_Machine) (n : Nat) : List T_api_Machine := ms ++ (List.range n).map fun k => freshM like (k + 1)
def namesM (like : T_api_Machine) (n : Nat) : List ByteArray := (List.range n).map fun k => (freshM like (k + 1)).Name
theorem allM_zero (ms : List T_api_Machine) (like : T_api_Machine) : allM ms like 0 = ms := by simp [allM]
theorem allM_succ (ms : List T_api_Machine) (like : T_api_Machine) (n : Nat) : allM ms like (n + 1) = allM ms like n ++ [freshM like (n + 1)] := by simp [allM, List.range_succ]
theorem namesM_succ (like : T_api_Machine) (n : Nat) : namesM like (n + 1) = namesM like n ++ [(freshM like (n + 1)).Name] := by simp [namesM, List.range_succ]
theorem allM_len (ms : List T_api_Machine) (like : T_api_Machine) (n : Nat) : (allM ms like n).length = ms.length + n := by simp [allM]
theorem namesM_len (like : T_api_Machine) (n : Nat) : (namesM like n).length = n := by simp [namesM]
theorem allM_mem {ms : List T_api_Machine} {like : T_api_Machine} {n : Nat} {m : T_api_Machine} (h : m ∈ allM ms like n) : m ∈ ms ∨ ∃ k, k < n ∧ m = freshM like (k + 1) := by
  unfold allM at h
  rcases List.mem_append.1 h with h | h
  · exact .inl h
  · obtain ⟨k, hk, rfl⟩ := List.mem_map.1 h
    exact .inr ⟨k, List.mem_range.1 hk, rfl⟩
theorem allM_new {ms : List T_api_Machine} {like : T_api_Machine} {n k : Nat} (h : k < n) : freshM like (k + 1) ∈ allM ms like n := by
  unfold allM
  exact List.mem_append.2 (.inr (List.mem_map.2 ⟨k, List.mem_range.2 h, rfl⟩))

structure EP (ms : List T_api_Machine) (like : T_api_Machine) : Prop where
  nm : ms.length ≤ 20
  lm : ∀ m, m ∈ ms → LM m
  nd : (ms.map (·.Name)).Nodup
  lk : LM like
  gr : like.Group.size ≤ 256
  pl : ∀ m, m ∈ ms → ¬ (43 : UInt8) ∈ m.Name.data.toList

theorem allM_LM {ms : List T_api_Machine} {like : T_api_Machine} (h : EP ms like) {n : Nat} (hn : n < 59) : ∀ m, m ∈ allM ms like n → LM m := fun m hm => by
  rcases allM_mem hm with hm | ⟨k, hk, rfl⟩
  · exact h.lm m hm
  · exact fresh_LM h.lk h.gr (by omega)
theorem allM_nd {ms : List T_api_Machine} {like : T_api_Machine} (h : EP ms like) : ∀ {n : Nat}, n < 59 → ((allM ms like n).map (·.Name)).Nodup := by
  intro n
  induction n with
  | zero => intro _; rw [allM_zero]; exact h.nd
  | succ n ih =>
    intro hn
    rw [allM_succ, List.map_append, List.nodup_append]
    refine ⟨ih (by omega), by simp, fun a ha b hb e => ?_⟩
    simp only [List.map_cons, List.map_nil, List.mem_singleton] at hb
    obtain ⟨m, hm, rfl⟩ := List.mem_map.1 ha
    subst hb
    rcases allM_mem hm with hm | ⟨k, hk, rfl⟩
    · exact h.pl m hm (by rw [e]; exact fresh_plus like _)
    · have := fresh_inj (by omega) (by omega) e
      omega
theorem nd_idx {l : List T_api_Machine} (h : (l.map (·.Name)).Nodup) : ∀ j k (hj : j < l.length) (hk : k < l.length), l[j].Name = l[k].Name → j = k := fun j k hj hk e => by
  rcases Nat.lt_trichotomy j k with q | q | q
  · exact absurd (by rw [List.getElem_map, List.getElem_map]; exact e) ((List.pairwise_iff_getElem.1 h) j k (by simpa using hj) (by simpa using hk) q)
  · exact q
  · exact absurd (by rw [List.getElem_map, List.getElem_map]; exact e.symm) ((List.pairwise_iff_getElem.1 h) k j (by simpa using hk) (by simpa using hj) q)

structure ES where
  bs : List T_api_Bound
  mv : List T_api_Move
  n : Nat
def fitsK (ms : List T_api_Machine) (like : T_api_Machine) (n : Nat) (bs : List T_api_Bound) (p : T_api_Pod) (k : Nat) : Bool := decide (whyV (allM ms like n) bs p (freshM like (k + 1)) = 0)
def pick (ms : List T_api_Machine) (like : T_api_Machine) (limit : Int) (s : ES) (p : T_api_Pod) : Option Nat :=
  match (List.range s.n).find? (fitsK ms like s.n s.bs p) with
  | some k => some (k + 1)
  | none => if (s.n : Int) < limit then (if fitsK ms like (s.n + 1) s.bs p s.n = true then some (s.n + 1) else none) else none
def putE (like : T_api_Machine) (s : ES) (p : T_api_Pod) (k : Nat) : ES := ⟨s.bs ++ [⟨p, (freshM like k).Name⟩], s.mv ++ [⟨p.Name, (freshM like k).Name⟩], max s.n k⟩
def stepE (ms : List T_api_Machine) (like : T_api_Machine) (limit : Int) (s : ES) (p : T_api_Pod) : ES := match pick ms like limit s p with | some k => putE like s p k | none => s
theorem pick_lt {ms : List T_api_Machine} {like : T_api_Machine} {limit : Int} {s : ES} {p : T_api_Pod} {k : Nat} (h : pick ms like limit s p = some k) : 1 ≤ k ∧ k ≤ s.n + 1 := by
  unfold pick at h
  split at h
  · rename_i j hj
    have := List.mem_range.1 (List.mem_of_find?_eq_some hj)
    simp only [Option.some.injEq] at h
    omega
  · split at h
    · split at h
      · simp only [Option.some.injEq] at h; omega
      · cases h
    · cases h

theorem find_loop {ρ : Type} {F : Nat → Int → Option (Out ρ Unit)} {n : Nat} (q : Nat → Bool) (v : Nat → ρ) (hn : n ≤ 1000) (hs : ∀ f k, k < n → F (f + 1) (k : Int) = if q k = true then some (Out.ret (v k)) else F f ((k + 1 : Nat) : Int)) (he : ∀ f, F (f + 1) (n : Int) = some (Out.go ())) :
    F FU 0 = some (match (List.range n).find? q with | some k => Out.ret (v k) | none => Out.go ()) := by
  have key : ∀ (m k f : Nat), n - k ≤ m → m < f → k ≤ n → F f (k : Int) = some (match ((List.range n).drop k).find? q with | some k => Out.ret (v k) | none => Out.go ()) := by
    intro m
    induction m with
    | zero =>
      intro k f h1 h2 h3
      obtain ⟨f, rfl⟩ : ∃ n', f = n' + 1 := ⟨f - 1, by omega⟩
      have : k = n := by omega
      subst this
      rw [he, List.drop_eq_nil_of_le (by simp)]; rfl
    | succ m ih =>
      intro k f h1 h2 h3
      obtain ⟨f, rfl⟩ : ∃ n', f = n' + 1 := ⟨f - 1, by omega⟩
      by_cases hk : k < n
      · rw [hs f k hk, List.drop_eq_getElem_cons (by simpa using hk), List.getElem_range, List.find?_cons]
        cases hq : q k with
        | true => rfl
        | false => exact ih (k + 1) f (by omega) (by omega) (by omega)
      · have : k = n := by omega
        subst this
        rw [he, List.drop_eq_nil_of_le (by simp)]; rfl
  exact key n 0 FU (by omega) (by unfold FU; omega) (by omega)

def packX (ms : List T_api_Machine) (like : T_api_Machine) (limit : Int) (s : ES) : T_pack_packer := ⟨allM ms like s.n, s.bs, like, namesM like s.n, limit⟩
theorem name_ne (like : T_api_Machine) (k : Nat) : (freshM like k).Name ≠ ⟨#[]⟩ := fun e => by
  have := fresh_plus like k
  rw [e] at this
  cases this
theorem place_P {ms : List T_api_Machine} {like : T_api_Machine} {limit : Int} (h : EP ms like) {s : ES} {p : T_api_Pod} (hn : s.n < 50) (hb : s.bs.length ≤ 500) (hlb : ∀ b, b ∈ s.bs → LP b.Pod) (hp : LP p) :
    pack_packer_place (packX ms like limit s) p = some (match pick ms like limit s p with | some k => ((freshM like k).Name, ⟨allM ms like (max s.n k), s.bs, like, namesM like (max s.n k), limit⟩) | none => (⟨#[]⟩, packX ms like limit s)) := by
  unfold pack_packer_place packX
  have hnm := h.nm
  have hwhy : ∀ (n : Nat), n ≤ s.n + 1 → ∀ k, k < n → fit_Why (allM ms like n) s.bs p (freshM like (k + 1)).Name = some (whyV (allM ms like n) s.bs p (freshM like (k + 1))) := fun n hn' k hk =>
    why_at (by rw [allM_len]; omega) (by omega) (allM_LM h (by omega)) hlb hp (nd_idx (allM_nd h (by omega))) (allM_new hk)
  rw [find_loop (F := fun f i => pack_packer_place.l1 ⟨allM ms like s.n, s.bs, like, namesM like s.n, limit⟩ p f i) (n := s.n) (fitsK ms like s.n s.bs p) (fun k => ((freshM like (k + 1)).Name, (⟨allM ms like s.n, s.bs, like, namesM like s.n, limit⟩ : T_pack_packer))) (by omega) (fun f k hk => by
      have hk' : k < (namesM like s.n).length := by rw [namesM_len]; exact hk
      rw [pack_packer_place.l1, if_pos (dlt hk'), glk hk', wk1 (by omega)]
      simp only [Option.bind_some]
      have hg : (namesM like s.n)[k] = (freshM like (k + 1)).Name := by simp [namesM]
      rw [hg, hwhy s.n (by omega) k hk]
      simp only [Option.bind_some]
      unfold fitsK
      by_cases e : whyV (allM ms like s.n) s.bs p (freshM like (k + 1)) = 0
      · rw [e]; rfl
      · rw [if_neg (by simpa using e), if_neg (by simpa using e)]) (fun f => by
      rw [pack_packer_place.l1, if_neg (by rw [namesM_len]; simp)])]
  unfold pick
  cases hf : (List.range s.n).find? (fitsK ms like s.n s.bs p) with
  | some k =>
    have hk := List.mem_range.1 (List.mem_of_find?_eq_some hf)
    simp only [Option.bind_some, Out.on]
    rw [show max s.n (k + 1) = s.n by omega]
  | none =>
    simp only [Option.bind_some, Out.on, namesM_len]
    by_cases hl : (s.n : Int) < limit
    · rw [if_neg (by simp only [decide_eq_true_eq]; omega), if_pos hl, wk1 (by omega), Fresh_P h.lk (by omega)]
      simp only [Option.bind_some]
      rw [sl_pre (Nat.le_refl _), List.take_length]
      simp only [Option.bind_some]
      rw [ap_ok (by omega) (by rw [allM_len]; simp; omega)]
      simp only [Option.bind_some]
      rw [← allM_succ, hwhy (s.n + 1) (by omega) s.n (by omega)]
      simp only [Option.bind_some]
      unfold fitsK
      by_cases e : whyV (allM ms like (s.n + 1)) s.bs p (freshM like (s.n + 1)) = 0
      · rw [if_neg (by simp [e]), if_pos (by simpa using e), ap_ok (by omega) (by rw [namesM_len]; simp; omega)]
        simp only [Option.bind_some]
        rw [← namesM_succ, show max s.n (s.n + 1) = s.n + 1 by omega]
      · rw [if_pos (by simpa using e), if_neg (by simpa using e)]
    · rw [if_pos (by simp only [decide_eq_true_eq]; omega), if_neg hl]

theorem put_P (bs : List T_api_Bound) (p : T_api_Pod) (n : ByteArray) (hl : bs.length ≤ 1000) (hpos : ∀ x, x ∈ bs → x.Pod.Name ≠ p.Name) : fit_Put bs p n = some (bs ++ [⟨p, n⟩]) := by
  unfold fit_Put
  have key : ∀ (l : List T_api_Bound) (k : Nat) (acc : List T_api_Bound), (∀ x, x ∈ l → x.Pod.Name ≠ p.Name) → l.length + acc.length ≤ 2000 → fit_Put.l1 p l k acc = some (acc ++ l) := by
    intro l
    induction l with
    | nil => intro k acc _ _; simp [fit_Put.l1]
    | cons x l ih =>
      intro k acc h1 h2
      rw [List.length_cons] at h2
      rw [fit_Put.l1, if_pos (by rw [seq_eq]; simpa using h1 x (List.mem_cons_self ..)), ap_ok (by omega) (by simp; omega)]
      simp only [Option.bind_some]
      rw [ih (k + 1) _ (fun y hy => h1 y (List.mem_cons_of_mem _ hy)) (by simp; omega)]
      simp
  rw [key bs 0 [] hpos (by simp; omega)]
  simp only [Option.bind_some, List.nil_append]
  rw [ap_ok (by omega) (by simp; omega)]
  rfl

/-- What holds of a state, and of the pods still to go. -/
structure EI (s : ES) (ps : List T_api_Pod) : Prop where
  n : s.n ≤ s.mv.length
  c : s.mv.length + ps.length ≤ 40
  b : s.bs.length + ps.length ≤ 80
  lb : ∀ b, b ∈ s.bs → LP b.Pod
  lp : ∀ p, p ∈ ps → LP p
  nd : (ps.map (·.Name)).Nodup
  ne : ∀ b, b ∈ s.bs → ∀ p, p ∈ ps → b.Pod.Name ≠ p.Name
theorem EI.put {like : T_api_Machine} {s : ES} {p : T_api_Pod} {ps : List T_api_Pod} (h : EI s (p :: ps)) {k : Nat} (hk : k ≤ s.n + 1) : EI (putE like s p k) ps := by
  obtain ⟨h1, h2, h3, h4, h5, h6, h7⟩ := h
  rw [List.length_cons] at h2 h3
  rw [List.map_cons, List.nodup_cons] at h6
  refine ⟨by simp only [putE, List.length_append, List.length_singleton]; omega, by simp only [putE, List.length_append, List.length_singleton]; omega, by simp only [putE, List.length_append, List.length_singleton]; omega, fun b hb => ?_, fun q hq => h5 q (List.mem_cons_of_mem _ hq), h6.2, fun b hb q hq => ?_⟩
  · rcases List.mem_append.1 hb with hb | hb
    · exact h4 b hb
    · rw [List.mem_singleton.1 hb]; exact h5 p (List.mem_cons_self ..)
  · rcases List.mem_append.1 hb with hb | hb
    · exact h7 b hb q (List.mem_cons_of_mem _ hq)
    · rw [List.mem_singleton.1 hb]
      intro e
      exact h6.1 (List.mem_map.2 ⟨q, hq, e.symm⟩)
theorem EI.skip {s : ES} {p : T_api_Pod} {ps : List T_api_Pod} (h : EI s (p :: ps)) : EI s ps := by
  obtain ⟨h1, h2, h3, h4, h5, h6, h7⟩ := h
  rw [List.length_cons] at h2 h3
  rw [List.map_cons, List.nodup_cons] at h6
  exact ⟨h1, by omega, by omega, h4, fun q hq => h5 q (List.mem_cons_of_mem _ hq), h6.2, fun b hb q hq => h7 b hb q (List.mem_cons_of_mem _ hq)⟩
theorem EI.step {ms : List T_api_Machine} {like : T_api_Machine} {limit : Int} {s : ES} {p : T_api_Pod} {ps : List T_api_Pod} (h : EI s (p :: ps)) : EI (stepE ms like limit s p) ps := by
  unfold stepE
  split
  · rename_i k hk
    exact h.put (pick_lt hk).2
  · exact h.skip

theorem est_P {ms : List T_api_Machine} {like : T_api_Machine} {limit : Int} (h : EP ms like) (l : List T_api_Pod) : ∀ (ps : List T_api_Pod) (r : List Int) (k : Nat) (s : ES), r.map (V.gl l) = ps.map some → EI s ps →
    pack_Estimate.l1 l r k (packX ms like limit s) s.mv = some (packX ms like limit (ps.foldl (stepE ms like limit) s), (ps.foldl (stepE ms like limit) s).mv) := by
  intro ps
  induction ps with
  | nil =>
    intro r k s hr hi
    have : r = [] := by simpa using hr
    subst this
    rfl
  | cons p ps ih =>
    intro r k s hr hi
    cases r with
    | nil => simp at hr
    | cons x r =>
      simp only [List.map_cons, List.cons.injEq] at hr
      obtain ⟨hx, hr⟩ := hr
      have h2 := hi.c
      have h3 := hi.b
      have hn := hi.n
      rw [List.length_cons] at h2 h3
      rw [pack_Estimate.l1, hx]
      simp only [Option.bind_some]
      rw [place_P h (by omega) (by omega) hi.lb (hi.lp p (List.mem_cons_self ..)), List.foldl_cons]
      simp only [Option.bind_some, seq_eq]
      have hst := hi.step (ms := ms) (like := like) (limit := limit)
      have ih' := ih r (k + 1) (stepE ms like limit s p) hr hst
      revert ih'
      unfold stepE
      cases hk : pick ms like limit s p with
      | none =>
        intro ih'
        simp only [decide_true, Bool.not_true, Bool.false_eq_true, if_false]
        exact ih'
      | some j =>
        intro ih'
        simp only
        rw [if_pos (by simpa using name_ne like j), put_P _ _ _ (by omega) fun b hb => hi.ne b hb p (List.mem_cons_self ..)]
        simp only [Option.bind_some]
        rw [ap_ok (by omega) (by simp; omega)]
        simp only [Option.bind_some]
        exact ih'

def idxs (n : Nat) : List Int := (List.range n).map fun k : Nat => (k : Int)
theorem idxs_succ (n : Nat) : idxs (n + 1) = idxs n ++ [(n : Int)] := by simp [idxs, List.range_succ]
theorem idxs_mem {n : Nat} {x : Int} (h : x ∈ idxs n) : ∃ k : Nat, x = (k : Int) ∧ k < n := by
  obtain ⟨k, hk, rfl⟩ := List.mem_map.1 h
  exact ⟨k, rfl, List.mem_range.1 hk⟩
theorem idxs_gl (l : List T_api_Pod) : (idxs l.length).map (V.gl l) = l.map some := by
  apply List.ext_getElem
  · simp [idxs]
  · intro i h1 h2
    have hi : i < l.length := by simpa [idxs] using h1
    simp [idxs, glk hi]
/-- The pods in any order. -/
theorem order_pods {l : List T_api_Pod} {r : List Int} (h : r.Perm (idxs l.length)) : ∃ ps : List T_api_Pod, r.map (V.gl l) = ps.map some ∧ ps.Perm l := by
  refine ⟨(r.map (V.gl l)).filterMap id, ?_, ?_⟩
  · have : ∀ (r : List Int), (∀ x, x ∈ r → ∃ p, V.gl l x = some p) → r.map (V.gl l) = ((r.map (V.gl l)).filterMap id).map some := by
      intro r
      induction r with
      | nil => intro _; rfl
      | cons x r ih =>
        intro hx
        obtain ⟨p, hp⟩ := hx x (List.mem_cons_self ..)
        simp only [List.map_cons, hp, List.filterMap_cons, id]
        rw [← ih fun y hy => hx y (List.mem_cons_of_mem _ hy)]
    refine this r fun x hx => ?_
    obtain ⟨k, rfl, hk⟩ := idxs_mem (h.mem_iff.1 hx)
    exact ⟨_, glk hk⟩
  · have h1 := (h.map (V.gl l)).filterMap id
    rw [idxs_gl] at h1
    simpa [List.filterMap_map] using h1
end Go.Proofs.YtbkdglcedgiogaaGreat.M

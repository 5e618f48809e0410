/- Plain law: further machines' names, and whether an estimate can be asked for. Own work. -/
import Derived.Test.YtbkdglcedgiogaaPIns
import Derived.Test.YtbkdglcedgiogaaPShare
import Derived.Test.YtbkdglcedgiogaaPChk
import Derived.Test.YtbkdglcedgiogaaPFitW
namespace Go.Proofs.Ytbkdglcedgiogaa.M
open Go Go.Proofs Go.Proofs.Ytbkdglcedgiogaa.V
open Go.IntKind (i64)
set_option linter.unusedVariables false
set_option maxRecDepth 20000
set_option maxHeartbeats 4000000

theorem word_size {s : ByteArray} (hs : s.size < 281474976710656) (h : ref01_Word s = some true) : s.size ≤ 256 := by
  unfold ref01_Word at h
  have key : ∀ (m i n f : Nat), s.size - i ≤ m → m < f → i ≤ s.size → i ≤ 4 * n → n ≤ i → ∃ o, ref01_Word.l1 s f (n : Int) (i : Int) = some o ∧ (o = Out.ret false ∨ ∃ q : Nat, o = Out.go (q : Int) ∧ s.size ≤ 4 * q) := by
    intro m
    induction m with
    | zero =>
      intro i n f h1 h2 h3 h4 h5
      obtain ⟨f, rfl⟩ : ∃ n', f = n' + 1 := ⟨f - 1, by omega⟩
      rw [ref01_Word.l1, if_neg (by simp; omega)]
      exact ⟨_, rfl, .inr ⟨n, rfl, by omega⟩⟩
    | succ m ih =>
      intro i n f h1 h2 h3 h4 h5
      obtain ⟨f, rfl⟩ : ∃ n', f = n' + 1 := ⟨f - 1, by omega⟩
      by_cases hi : i < s.size
      · rw [ref01_Word.l1, if_pos (by simp; omega), Rune_eq hi hs]
        simp only [Option.bind_some]
        cases hr : rune s i with
        | none => exact ⟨_, rfl, .inl rfl⟩
        | some cw =>
          obtain ⟨c, w⟩ := cw
          obtain ⟨_, _, w1, w4, w5⟩ := rune_some hi hr
          rw [show (rv (some (c, w))).2 = (w : Int) from rfl, rv2 hi hr, if_neg (by decide)]
          obtain ⟨b, hb⟩ : ∃ b, ref01_plain (rv (some (c, w))).1 = some b := ⟨_, rfl⟩
          rw [hb]
          simp only [Option.bind_some]
          cases b with
          | false => exact ⟨_, rfl, .inl rfl⟩
          | true =>
            simp only [Bool.not_true, Bool.false_eq_true, if_false]
            rw [w_eq (by omega) (by omega), w_eq (by omega) (by omega)]
            exact ih (i + w) (n + 1) f (by omega) (by omega) (by omega) (by omega) (by omega)
      · rw [ref01_Word.l1, if_neg (by simp; omega)]
        exact ⟨_, rfl, .inr ⟨n, rfl, by omega⟩⟩
  obtain ⟨o, h1, h2⟩ := key s.size 0 0 FU (by omega) (by unfold FU; omega) (by omega) (by omega) (by omega)
  rw [show ((0 : Nat) : Int) = 0 from rfl] at h1
  rw [h1] at h
  rcases h2 with rfl | ⟨q, rfl, hq⟩
  · cases h
  · simp only [Option.bind_some, Out.on, Option.some.injEq, Bool.and_eq_true, decide_eq_true_eq] at h
    omega

/-- A small number's digits. -/
def dg (k : Nat) : ByteArray := (pack_decimal FU (k : Int)).getD ⟨#[]⟩
def dgv (s : ByteArray) : Nat := s.data.toList.foldl (fun a c => 10 * a + (c.toNat - 48)) 0
theorem dg_all : ((List.range 60).all fun k => decide (pack_decimal FU (k : Int) = some (dg k)) && decide ((dg k).size ≤ 3) && decide (dgv (dg k) = k)) = true := by kernel_rfl
theorem dg_ok {k : Nat} (h : k < 60) : pack_decimal FU (k : Int) = some (dg k) ∧ (dg k).size ≤ 3 ∧ dgv (dg k) = k := by
  have := (List.all_eq_true.1 dg_all) k (List.mem_range.2 h)
  simp only [Bool.and_eq_true, decide_eq_true_eq] at this
  exact ⟨this.1.1, this.1.2, this.2⟩
theorem dg_inj {j k : Nat} (hj : j < 60) (hk : k < 60) (h : dg j = dg k) : j = k := by rw [← (dg_ok hj).2.2, ← (dg_ok hk).2.2, h]

def plusB : ByteArray := ⟨#[43]⟩
def freshM (like : T_api_Machine) (k : Nat) : T_api_Machine := ⟨like.Group ++ plusB ++ dg k, like.Group, like.Has, like.Labels, like.Taints, like.Ready⟩
theorem fresh_name (like : T_api_Machine) (k : Nat) : (freshM like k).Name = like.Group ++ plusB ++ dg k := rfl
theorem cat7 {s t : ByteArray} (h : s.size + t.size ≤ 1000000) : V.cat s t = some (s ++ t) := by unfold V.cat; rw [if_pos (by unfold maxLen; omega)]
theorem Fresh_P {like : T_api_Machine} (hl : LM like) {k : Nat} (h : k < 60) : pack_Fresh like (k : Int) = some (freshM like k) := by
  have hg := hl.group
  have h1 := hl.labels.1
  have h2 := hl.taints.1
  have hd := (dg_ok h).2.1
  unfold pack_Fresh
  rw [cat7 (by have : (ByteArray.mk #[43]).size = 1 := rfl; omega), (dg_ok h).1]
  simp only [Option.bind_some]
  rw [cat7 (by have : (ByteArray.mk #[43]).size = 1 := rfl; rw [ByteArray.size_append]; omega), ap_ok (by omega) (by simp; omega), ap_ok (by omega) (by simp; omega)]
  rfl
theorem toL_append (a b : ByteArray) : (a ++ b).data.toList = a.data.toList ++ b.data.toList := by simp
theorem ba_ext {a b : ByteArray} (h : a.data.toList = b.data.toList) : a = b := by
  obtain ⟨⟨a⟩⟩ := a; obtain ⟨⟨b⟩⟩ := b; simpa using h
theorem fresh_inj {like : T_api_Machine} {j k : Nat} (hj : j < 60) (hk : k < 60) (h : (freshM like j).Name = (freshM like k).Name) : j = k := by
  apply dg_inj hj hk
  have := congrArg (fun s : ByteArray => s.data.toList) h
  simp only [fresh_name, toL_append] at this
  exact ba_ext (List.append_cancel_left this)
theorem fresh_plus (like : T_api_Machine) (k : Nat) : (43 : UInt8) ∈ (freshM like k).Name.data.toList := by
  rw [fresh_name, toL_append, toL_append]
  simp [plusB]
theorem fresh_LM {like : T_api_Machine} (hl : LM like) (hg : like.Group.size ≤ 256) {k : Nat} (h : k < 60) : LM (freshM like k) := by
  have hd := (dg_ok h).2.1
  exact ⟨by rw [fresh_name, ByteArray.size_append, ByteArray.size_append]; have : plusB.size = 1 := rfl; omega, hl.group, hl.labels, hl.taints⟩

theorem group_size {m : T_api_Machine} (h : LM m) (hr : ref07_RightMachine m = some true) : m.Group.size ≤ 256 := by
  obtain ⟨a, ha⟩ := maybe7_tot h.name
  obtain ⟨b, hb⟩ := maybe7_tot h.group
  have hs := h.group
  unfold ref07_RightMachine at hr
  rw [ha, hb] at hr
  cases a with
  | false =>
    exfalso
    simp only [Option.bind_some, Bool.false_eq_true, if_false] at hr
    cases hr
  | true =>
    cases b with
    | false =>
      exfalso
      simp only [Option.bind_some, Bool.false_eq_true, if_false, if_true] at hr
      cases hr
    | true =>
      unfold ref07_maybe at hb
      rw [seq_eq] at hb
      by_cases e : m.Group = ⟨#[]⟩
      · rw [e]; exact Nat.zero_le _
      · rw [if_neg (by simpa using e)] at hb
        obtain ⟨w, hw⟩ := Word_tot (s := m.Group) (by omega)
        rw [hw] at hb
        simp only [Option.bind_some, Option.some.injEq] at hb
        subst hb
        exact word_size (by omega) hw

theorem plus_eq {s : ByteArray} (hs : s.size ≤ 1000) : ∃ b, ref19_plus s = some b ∧ (b = false → ¬ (43 : UInt8) ∈ s.data.toList) := by
  unfold ref19_plus
  rcases loopI (F := fun n i => ref19_plus.l1 s n i) (Q := fun r => r = true) (S := fun k => ∀ h : k < s.size, bt s k ≠ 43) (len := s.size) (by omega) (fun n k hk => by
      rw [ref19_plus.l1, if_pos (by simp; omega), gi_nat hk, wk1 (by omega)]
      simp only [Option.bind_some]
      by_cases e : bt s k = 43
      · left; rw [e]; exact ⟨true, rfl, rfl⟩
      · right; rw [if_neg (by simpa using e)]; exact ⟨rfl, fun _ => e⟩) (fun n => by rw [ref19_plus.l1, if_neg (by simp)]) with ⟨r, h1, h2⟩ | ⟨h1, h2⟩
  · rw [h1, h2]; exact ⟨true, rfl, fun h => by cases h⟩
  · rw [h1]
    refine ⟨false, rfl, fun _ hm => ?_⟩
    obtain ⟨k, hk, e⟩ := List.mem_iff_getElem.1 hm
    have hk' : k < s.size := by simpa using hk
    refine h2 k hk' hk' ?_
    rw [← bt_get s k hk']
    have e2 : s.get! k = 43 := by
      rw [← e]
      obtain ⟨⟨a⟩⟩ := s
      show (Array.mk a)[k]! = a[k]
      have : k < a.length := hk
      simp [this]
    rw [e2]; rfl

def pendA (l : List T_api_Pod) : List T_api_Bound := l.map fun p => ⟨p, ⟨#[]⟩⟩
structure RE (ms : List T_api_Machine) (bs : List T_api_Bound) (l : List T_api_Pod) (k : T_api_Machine) : Prop where
  ly : LY ms (bs ++ pendA l)
  ry : RY ms (bs ++ pendA l)
  like : LM k
  right : ref07_RightMachine k = some true
  plus : ∀ m, m ∈ ms → ¬ (43 : UInt8) ∈ m.Name.data.toList

theorem right19_l1 (l : List T_api_Pod) (hl : l.length ≤ 500000000000) : ∀ (m k n : Nat) (acc : List T_api_Bound), l.length - k ≤ m → m < n → k ≤ l.length → (acc.length + (l.length - k)) * 288 ≤ 140737488355328 → ref19_Right.l1 l n acc (k : Int) = some (acc ++ pendA (l.drop k)) := by
  intro m
  induction m with
  | zero =>
    intro k n acc h1 h2 h3 h4
    obtain ⟨n, rfl⟩ : ∃ n', n = n' + 1 := ⟨n - 1, by omega⟩
    have : k = l.length := by omega
    subst this
    rw [ref19_Right.l1, if_neg dnl]; simp [pendA]
  | succ m ih =>
    intro k n acc h1 h2 h3 h4
    obtain ⟨n, rfl⟩ : ∃ n', n = n' + 1 := ⟨n - 1, by omega⟩
    by_cases hk : k < l.length
    · rw [ref19_Right.l1, if_pos (dlt hk), glk hk, wk1 (by omega)]
      simp only [Option.bind_some]
      unfold V.ap
      rw [if_pos (by unfold maxLen; simp only [List.length_cons, List.length_nil]; constructor <;> omega)]
      simp only [Option.bind_some]
      rw [ih (k + 1) n _ (by omega) (by omega) (by omega) (by rw [List.length_append, List.length_singleton]; omega)]
      conv => rhs; rw [List.drop_eq_getElem_cons hk]
      simp only [pendA, List.map_cons, List.append_assoc, List.singleton_append]
    · have : k = l.length := by omega
      subst this
      rw [ref19_Right.l1, if_neg dnl]; simp [pendA]

theorem Right19 (ms : List T_api_Machine) (bs : List T_api_Bound) (l : List T_api_Pod) (like : T_api_Machine) (h : (bs.length + l.length) * 288 ≤ 140737488355328) : ∃ b, ref19_Right ms bs l like = some b ∧ (b = true → RE ms bs l like) := by
  unfold ref19_Right
  have ha : V.ap 288 ([] : List T_api_Bound) bs = some bs := by
    unfold V.ap
    rw [if_pos (by unfold maxLen; simp only [List.length_nil]; constructor <;> omega)]; rfl
  have hl1 : ref19_Right.l1 l FU bs 0 = some (bs ++ pendA l) := right19_l1 l (by omega) l.length 0 FU bs (by omega) (by unfold FU; omega) (by omega) (by omega)
  rw [ha, Option.bind_some, hl1, Option.bind_some]
  obtain ⟨b, hb, hy⟩ := ref09_Light_eq ms (bs ++ pendA l)
  rw [hb]
  cases b with
  | false => exact ⟨false, rfl, fun e => by cases e⟩
  | true =>
    have hy := hy rfl
    simp only [Option.bind_some, Bool.not_true, Bool.false_eq_true, if_false]
    obtain ⟨b, hb, hl⟩ := ref07_LightMachine_eq like
    rw [hb]
    cases b with
    | false => exact ⟨false, rfl, fun e => by cases e⟩
    | true =>
      have hl := hl rfl
      simp only [Option.bind_some, Bool.not_true, Bool.false_eq_true, if_false]
      obtain ⟨b, hr⟩ := RMach_tot hl
      rw [hr]
      cases b with
      | false => exact ⟨false, rfl, fun e => by cases e⟩
      | true =>
        simp only [Option.bind_some, Bool.not_true, Bool.false_eq_true, if_false]
        obtain ⟨r, e, f⟩ := Check9_eq hy
        rw [e]
        simp only [Option.bind_some]
        by_cases hr0 : r = 0
        · rw [show (r != 0) = false by simp [hr0]]
          simp only [Bool.false_eq_true, if_false]
          have hn := hy.nm
          rcases loopI (F := fun n i => ref19_Right.l2 ms n i) (Q := fun r => r = false) (S := fun k => ∀ h : k < ms.length, ¬ (43 : UInt8) ∈ ms[k].Name.data.toList) (len := ms.length) (by omega) (fun n k hk => by
              rw [ref19_Right.l2, if_pos (dlt hk), glk hk, wk1 (by omega)]
              simp only [Option.bind_some]
              obtain ⟨b, hb, hp⟩ := plus_eq (s := ms[k].Name) (by have := (hy.ms k hk).name; omega)
              rw [hb]
              cases b with
              | true => exact .inl ⟨false, rfl, rfl⟩
              | false => exact .inr ⟨rfl, fun _ => hp rfl⟩) (fun n => by rw [ref19_Right.l2, if_neg dnl]) with ⟨q, h1, h2⟩ | ⟨h1, h2⟩
          · rw [h1, h2]; exact ⟨false, rfl, fun e => by cases e⟩
          · rw [h1]
            exact ⟨true, rfl, fun _ => ⟨hy, f hr0, hl, hr, fun m hm => by
              obtain ⟨k, hk, rfl⟩ := List.getElem_of_mem hm
              exact h2 k hk hk⟩⟩
        · rw [show (r != 0) = true by simp [hr0]]
          exact ⟨false, rfl, fun e => by cases e⟩
end Go.Proofs.Ytbkdglcedgiogaa.M

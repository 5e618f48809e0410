/-
  Plain laws: YardChecks, YardLeft, YardOnce answer true. Own text.
-/
import Derived.Test.YtcblmlkpcplkfaaPYard2
import Derived.Test.YtcblmlkpcplkfaaPUsed
import Derived.Test.YtcblmlkpcplkfaaR2O
namespace Go.Proofs.Ytcblmlkpcplkfaa.M
open Go Go.Proofs Go.Proofs.Ytcblmlkpcplkfaa.V
set_option linter.unusedVariables false

theorem known09_true : law09_known = some true := by kernel_rfl

theorem YardChecks_true (ms : List T_api_Machine) (bs : List T_api_Bound) (_ : ms.length ≤ maxLen ∧ ∀ a ∈ ms, T_api_Machine.ok a) (_ : bs.length ≤ maxLen ∧ ∀ a ∈ bs, T_api_Bound.ok a) : law09_YardChecks ms bs = some true := by
  unfold law09_YardChecks
  obtain ⟨b, hb, hy⟩ := ref09_Light_eq ms bs
  rw [hb, known09_true]
  cases b with
  | false => rfl
  | true =>
    have hy := hy rfl
    simp only [Option.bind_some, Bool.not_true, Bool.false_eq_true, if_false]
    rw [yard_Check_eq hy, ref09_Check_eq hy]
    simp

/-- What the guard of the other laws gives. -/
theorem guard09 {ms : List T_api_Machine} {bs : List T_api_Bound} {X : Option Bool} (h : LY ms bs → RY ms bs → checkB ms bs = 0 → X = some true) :
    ((ref09_Light ms bs).bind fun r => (if (!r) = true then some true else (yard_Check ms bs).bind fun r2 => some (r2 != (0 : Int))).bind fun c => if c = true then (law09_known).bind fun r3 => some r3 else X) = some true := by
  obtain ⟨b, hb, hy⟩ := ref09_Light_eq ms bs
  rw [hb]
  cases b with
  | false => rw [known09_true]; rfl
  | true =>
    have hy := hy rfl
    simp only [Option.bind_some, Bool.not_true, Bool.false_eq_true, if_false]
    rw [yard_Check_eq hy]
    simp only [Option.bind_some]
    by_cases hc : checkB ms bs = 0
    · rw [if_neg (by simp [hc])]
      obtain ⟨r, hr, hf⟩ := Check9_eq hy
      rw [ref09_Check_eq hy] at hr
      refine h hy (hf ?_) hc
      injection hr with e
      rw [← e, hc]
    · rw [if_pos (by simpa using hc), known09_true]; rfl

theorem Add9_eq (a b : T_api_Res) : ref04_Add a b = some (if (resOK a && resOK b) = true then (if resOK (radd a b) = true then (radd a b, 0) else (r0, 10)) else (r0, 1)) := by
  unfold ref04_Add
  simp only [ref04_Right_eq, Option.bind_some]
  cases ha : resOK a with
  | false => rfl
  | true =>
    cases hb : resOK b with
    | false => rfl
    | true =>
      simp only [Option.bind_some, Bool.not_true, Bool.false_eq_true, if_false, Bool.and_self, if_true]
      obtain ⟨a1, a2, a3, a4, a5⟩ := resOK_split ha
      obtain ⟨b1, b2, b3, b4, b5⟩ := resOK_split hb
      rw [w_add a1 b1, w_add a2 b2, w_add a3 b3, w_add a4 b4, w_add a5 b5]
      cases h : resOK (radd a b) with
      | true => rw [show resOK (⟨a.Cpu + b.Cpu, a.Mem + b.Mem, a.Disk + b.Disk, a.Pods + b.Pods, a.Dev + b.Dev⟩ : T_api_Res) = true from h]; rfl
      | false => rw [show resOK (⟨a.Cpu + b.Cpu, a.Mem + b.Mem, a.Disk + b.Disk, a.Pods + b.Pods, a.Dev + b.Dev⟩ : T_api_Res) = false from h]; rfl
theorem Fits9_eq (a b : T_api_Res) : ref04_Fits a b = some ((resOK a && resOK b) && rle a b) := by
  unfold ref04_Fits rle
  simp only [ref04_Right_eq, Option.bind_some]
  cases resOK a <;> cases resOK b <;> simp [Bool.and_assoc]

theorem YardLeft_true (ms : List T_api_Machine) (bs : List T_api_Bound) (_ : ms.length ≤ maxLen ∧ ∀ a ∈ ms, T_api_Machine.ok a) (_ : bs.length ≤ maxLen ∧ ∀ a ∈ bs, T_api_Bound.ok a) : law09_YardLeft ms bs = some true := by
  unfold law09_YardLeft
  refine guard09 fun hy hr _ => ?_
  have hnm := hy.nm
  have hnb := hy.nb
  have hl := idxAll (F := fun n i => law09_YardLeft.l1 ms bs n i) (len := ms.length) (r0 := false) (fun _ => true) (by omega) (fun n k hk => by
    rw [law09_YardLeft.l1, if_pos (dlt hk), glk hk, wk1 (by omega)]
    simp only [Option.bind_some, Used_eq bs ms[k].Name (by omega), Left_eq ms[k] bs (by omega), ref04_Right_eq, Fits9_eq, Add9_eq]
    by_cases h0 : (usedS (onS bs ms[k].Name)).2 = 0
    · rw [if_neg (by simpa using h0)]
      have hm : resOK ms[k].Has = true := RMach_has (hy.ms k hk) (hr.rm k hk).2
      obtain ⟨h1, _⟩ := usedS_ok _ h0
      generalize (usedS (onS bs ms[k].Name)) = u at *
      have hleft : leftS ms[k].Has u = rsub ms[k].Has (rmin u.1 ms[k].Has) := by unfold leftS; rw [if_pos ⟨h0, hm⟩]
      rw [hleft]
      have hu := (resOK_iff _).1 h1
      have hh := (resOK_iff _).1 hm
      have hmin : resOK (rmin u.1 ms[k].Has) = true := resOK_min h1 hm
      have ok : resOK (rsub ms[k].Has (rmin u.1 ms[k].Has)) = true := by
        rw [resOK_sub hm hmin, rle_iff]
        simp only [rmin]
        omega
      have le : rle (rsub ms[k].Has (rmin u.1 ms[k].Has)) ms[k].Has = true := by
        rw [rle_iff]
        simp only [rmin, rsub]
        omega
      simp only [ok, hm, le, h1, Bool.and_self, Bool.not_true, Bool.false_eq_true, if_false, if_true, Option.bind_some, Bool.true_and]
      cases hf : rle u.1 ms[k].Has with
      | false => rfl
      | true =>
        rw [rle_iff] at hf
        have e : radd (rsub ms[k].Has (rmin u.1 ms[k].Has)) u.1 = ms[k].Has := by
          rcases hq : ms[k].Has with ⟨a1, a2, a3, a4, a5⟩
          rw [hq] at hf
          simp only [radd, rsub, rmin] at hf ⊢
          simp only [Int.min_eq_left hf.1, Int.min_eq_left hf.2.1, Int.min_eq_left hf.2.2.1, Int.min_eq_left hf.2.2.2.1, Int.min_eq_left hf.2.2.2.2, Int.sub_add_cancel]
        simp [e, hm]
    · rw [if_pos (by simpa using h0)]; rfl) (fun n => by rw [law09_YardLeft.l1, if_neg dnl])
  rw [show law09_YardLeft.l1 ms bs FU 0 = _ from hl, known09_true, if_pos (allN_iff.2 fun _ _ => rfl)]
  rfl

/-! each pod once -/
def sumOn (bs : List T_api_Bound) : List ByteArray → Nat
  | [] => 0
  | x :: l => (onS bs x).length + sumOn bs l
def hits (y : ByteArray) : List ByteArray → Nat
  | [] => 0
  | x :: l => (if y = x then 1 else 0) + hits y l
theorem sumOn_nil : ∀ l : List ByteArray, sumOn [] l = 0
  | [] => rfl
  | x :: l => by rw [sumOn, sumOn_nil l]; rfl
theorem sumOn_cons (b : T_api_Bound) (bs : List T_api_Bound) : ∀ l : List ByteArray, sumOn (b :: bs) l = hits b.On l + sumOn bs l
  | [] => rfl
  | x :: l => by
    rw [sumOn, sumOn, hits, sumOn_cons b bs l]
    have : (onS (b :: bs) x).length = (if b.On = x then 1 else 0) + (onS bs x).length := by
      unfold onS
      by_cases e : b.On = x
      · rw [if_pos e, List.filter_cons_of_pos (by simpa using e)]; simp; omega
      · rw [if_neg e, List.filter_cons_of_neg (by simpa using e)]; omega
    omega
theorem hits_0 (y : ByteArray) : ∀ l : List ByteArray, y ∉ l → hits y l = 0
  | [], _ => rfl
  | x :: l, h => by
    rw [hits, if_neg (fun e => h (by rw [e]; exact List.mem_cons_self ..)), hits_0 y l (fun q => h (List.mem_cons_of_mem _ q))]
theorem hits_1 (y : ByteArray) : ∀ l : List ByteArray, l.Nodup → y ∈ l → hits y l = 1
  | x :: l, hn, h => by
    rw [List.nodup_cons] at hn
    rw [hits]
    by_cases e : y = x
    · subst e
      rw [if_pos rfl, hits_0 y l hn.1]
    · rw [if_neg e, hits_1 y l hn.2 (by
        rcases List.mem_cons.1 h with q | q
        · exact absurd q e
        · exact q)]
theorem sumOn_all : ∀ (bs : List T_api_Bound) (l : List ByteArray), l.Nodup → (∀ b, b ∈ bs → b.On ∈ l) → sumOn bs l = bs.length
  | [], l, _, _ => sumOn_nil l
  | b :: bs, l, hn, h => by
    rw [sumOn_cons, hits_1 _ l hn (h b (List.mem_cons_self ..)), sumOn_all bs l hn (fun c hc => h c (List.mem_cons_of_mem _ hc)), List.length_cons]
    omega

theorem Find_self {ms : List T_api_Machine} {k : Nat} (hl : ms.length ≤ 1000) (hk : k < ms.length) (hu : ∀ j k (h : j < ms.length) (h' : k < ms.length), ms[j].Name = ms[k].Name → j = k) : yard_Find ms ms[k].Name = some (k : Int) := by
  unfold yard_Find yard_first_yard_Find_1
  obtain ⟨r, h1, h2⟩ := loopF (F := fun n i => yard_first_yard_Find_1.l1 (ms.length : Int) ms ms[k].Name n i) (len := ms.length) (p := fun j => ∃ h : j < ms.length, ms[j].Name = ms[k].Name) (by omega) (fun n j hj => by
    rw [yard_first_yard_Find_1.l1, if_pos (by simp; omega), wk1 (by omega)]
    unfold yard_Find_1
    rw [glk hj]
    simp only [Option.bind_some, seq_eq]
    by_cases h : ms[j].Name = ms[k].Name
    · rw [if_pos (by simpa using h)]; exact .inl ⟨rfl, hj, h⟩
    · rw [if_neg (by simpa using h)]; exact .inr ⟨rfl, fun ⟨_, h'⟩ => h h'⟩) (fun n => by rw [yard_first_yard_Find_1.l1, if_neg (by simp)])
  rw [h1]
  rcases h2 with ⟨q, rfl, b, ⟨c, d⟩, e⟩ | ⟨rfl, b⟩
  · rw [hu q k c hk d]; rfl
  · exact absurd ⟨hk, rfl⟩ (b k hk)

theorem YardOnce_true (ms : List T_api_Machine) (bs : List T_api_Bound) (_ : ms.length ≤ maxLen ∧ ∀ a ∈ ms, T_api_Machine.ok a) (_ : bs.length ≤ maxLen ∧ ∀ a ∈ bs, T_api_Bound.ok a) : law09_YardOnce ms bs = some true := by
  unfold law09_YardOnce
  refine guard09 fun hy hr hc => ?_
  have hnm := hy.nm
  have hnb := hy.nb
  rw [On_eq bs _ (by omega)]
  simp only [Option.bind_some]
  have key : ∀ (m k f : Nat) (n : Nat), ms.length - k ≤ m → m < f → k ≤ ms.length → n + 40 * m ≤ 10000 → law09_YardOnce.l1 ms bs f (n : Int) (k : Int) = some (Out.go ((n + sumOn bs ((ms.drop k).map (·.Name)) : Nat) : Int)) := by
    intro m
    induction m with
    | zero =>
      intro k f n h1 h2 h3 h4
      obtain ⟨f, rfl⟩ : ∃ q, f = q + 1 := ⟨f - 1, by omega⟩
      rw [law09_YardOnce.l1, if_neg (by simp; omega), List.drop_eq_nil_of_le (by omega)]
      simp [sumOn]
    | succ m ih =>
      intro k f n h1 h2 h3 h4
      obtain ⟨f, rfl⟩ : ∃ q, f = q + 1 := ⟨f - 1, by omega⟩
      by_cases hk : k < ms.length
      · have hlen := onS_len bs ms[k].Name
        rw [law09_YardOnce.l1, if_pos (dlt hk), glk hk, wk1 (by omega)]
        simp only [Option.bind_some, On_eq bs ms[k].Name (by omega), Find_self (by omega) hk hr.mu]
        rw [if_neg (by simp), show IntKind.i64.wrap ((n : Int) + ((onS bs ms[k].Name).length : Int)) = ((n + (onS bs ms[k].Name).length : Nat) : Int) by rw [w_eq (by omega) (by omega)]; omega]
        rw [ih (k + 1) f (n + (onS bs ms[k].Name).length) (by omega) (by omega) (by omega) (by omega), List.drop_eq_getElem_cons hk, List.map_cons, sumOn]
        congr 3
        omega
      · rw [law09_YardOnce.l1, if_neg (by simp; omega), List.drop_eq_nil_of_le (by omega)]
        simp [sumOn]
  have hlen := onS_len bs ⟨#[]⟩
  have h0 := key ms.length 0 FU (onS bs ⟨#[]⟩).length (by omega) (by unfold FU; omega) (Nat.zero_le _) (by omega)
  rw [List.drop_zero] at h0
  have hnames : (ms.map (·.Name)).Nodup := by
    rw [nodup_iff]
    intro i j hi hj hij e
    rw [List.length_map] at hi hj
    have := hr.mu i j hi hj (by simpa using e)
    omega
  have hall : (onS bs ⟨#[]⟩).length + sumOn bs (ms.map (·.Name)) = bs.length := by
    refine sumOn_all bs (⟨#[]⟩ :: ms.map (·.Name)) (List.nodup_cons.2 ⟨fun h => ?_, hnames⟩) (fun b hb => ?_)
    · obtain ⟨m, h1, h2⟩ := List.mem_map.1 h
      obtain ⟨i, hi, rfl⟩ := List.getElem_of_mem h1
      exact (hr.rm i hi).1 h2
    · obtain ⟨i, hi, rfl⟩ := List.getElem_of_mem hb
      by_cases e : bs[i].On = ⟨#[]⟩
      · rw [e]; exact List.mem_cons_self ..
      · obtain ⟨j, hj, q⟩ := hr.on i hi e
        exact List.mem_cons_of_mem _ (List.mem_map.2 ⟨ms[j], List.getElem_mem _, q⟩)
  rw [hall] at h0
  have hne : LY ms [] := ⟨hnm, by simp, hy.ms, fun k hk => by simp at hk⟩
  have hc0 : checkB ms [] = 0 := by
    unfold checkB at hc ⊢
    cases h1 : allN ms.length (msQ ms) with
    | false => rw [h1] at hc; simp at hc
    | true => simp [allN, hnames]
  have h0' : law09_YardOnce.l1 ms bs FU ((onS bs ⟨#[]⟩).length : Int) 0 = some (Out.go (bs.length : Int)) := h0
  rw [h0', yard_Check_eq hne, hc0, known09_true]
  simp [Out.on]
end Go.Proofs.Ytcblmlkpcplkfaa.M

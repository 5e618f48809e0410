/-
  Plain laws of suit: SuitFull. Own text.
-/
import Derived.Test.YtcblmlkpcplkfaaPSuit3
namespace Go.Proofs.Ytcblmlkpcplkfaa.M
open Go Go.Proofs Go.Proofs.Ytcblmlkpcplkfaa.V
set_option linter.unusedVariables false

theorem onS_cons (x : T_api_Bound) (l : List T_api_Bound) (n : ByteArray) : onS (x :: l) n = if x.On = n then x.Pod :: onS l n else onS l n := by
  unfold onS
  by_cases h : x.On = n <;> simp [h]

theorem On9_eq (bs : List T_api_Bound) (name : ByteArray) (hl : bs.length ≤ 1000) : ref09_On bs name = some (onS bs name) := by
  have key : ∀ (m k f : Nat) (acc : List T_api_Pod), bs.length - k ≤ m → m < f → k ≤ bs.length → acc.length ≤ k → ref09_On.l1 bs name f acc (k : Int) = some (acc ++ onS (bs.drop k) name) := by
    intro m
    induction m with
    | zero =>
      intro k f acc h1 h2 h3 h4
      obtain ⟨f, rfl⟩ : ∃ q, f = q + 1 := ⟨f - 1, by omega⟩
      rw [ref09_On.l1, if_neg (by simp; omega), List.drop_eq_nil_of_le (by omega)]
      simp [onS]
    | succ m ih =>
      intro k f acc h1 h2 h3 h4
      obtain ⟨f, rfl⟩ : ∃ q, f = q + 1 := ⟨f - 1, by omega⟩
      by_cases hk : k < bs.length
      · rw [ref09_On.l1, if_pos (dlt hk), glk hk, wk1 (by omega), List.drop_eq_getElem_cons hk, onS_cons]
        simp only [Option.bind_some, seq_eq]
        by_cases h : bs[k].On = name
        · rw [if_pos (by simpa using h), if_pos h, ap_ok (by omega) (by simp; omega)]
          simp only [Option.bind_some]
          rw [ih (k + 1) f _ (by omega) (by omega) (by omega) (by simp; omega)]
          simp
        · rw [if_neg (by simpa using h), if_neg h]
          exact ih (k + 1) f _ (by omega) (by omega) (by omega) (by omega)
      · rw [ref09_On.l1, if_neg (by simp; omega), List.drop_eq_nil_of_le (by omega)]
        simp [onS]
  have := key bs.length 0 FU [] (by omega) (by unfold FU; omega) (by omega) (by simp)
  have this' : ref09_On.l1 bs name FU [] 0 = some ([] ++ onS (bs.drop 0) name) := this
  unfold ref09_On
  rw [this']
  simp

theorem Add9_eq (a b : T_api_Res) : ref04_Add a b = some (if (resOK a && resOK b) = true then (if resOK (radd a b) = true then (radd a b, 0) else (r0, 10)) else (r0, 1)) := by
  unfold ref04_Add
  simp only [ref04_Right_eq, Option.bind_some]
  cases ha : resOK a with
  | false => rfl
  | true =>
    cases hb : resOK b with
    | false => rfl
    | true =>
      obtain ⟨a1, a2, a3, a4, a5⟩ := resOK_split ha
      obtain ⟨b1, b2, b3, b4, b5⟩ := resOK_split hb
      simp only [Bool.not_true, Bool.false_eq_true, if_false, Option.bind_some, w_add a1 b1, w_add a2 b2, w_add a3 b3, w_add a4 b4, w_add a5 b5, Bool.and_self, if_true]
      show (if (!resOK (radd a b)) = true then some (r0, (10 : Int)) else some (radd a b, 0)) = _
      cases resOK (radd a b) <;> rfl

theorem Used9_loop {l : List T_api_Pod} (h : needsOK l = true) (hl : l.length ≤ 1000) : ∀ (m k f : Nat) (s : T_api_Res), l.length - k ≤ m → m < f → k ≤ l.length → resOK s = true →
    ref09_Used.l2 l f s (k : Int) = some (if resOK (radd s (total (l.drop k))) = true then Out.go (radd s (total (l.drop k))) else Out.ret (r0, 10)) := by
  have hr0 : ∀ s : T_api_Res, radd s (total []) = s := fun s => by cases s; simp [radd, total, r0]
  intro m
  induction m with
  | zero =>
    intro k f s h1 h2 h3 hs
    obtain ⟨f, rfl⟩ : ∃ q, f = q + 1 := ⟨f - 1, by omega⟩
    rw [ref09_Used.l2, if_neg (by simp; omega), List.drop_eq_nil_of_le (by omega), hr0, if_pos hs]
  | succ m ih =>
    intro k f s h1 h2 h3 hs
    obtain ⟨f, rfl⟩ : ∃ q, f = q + 1 := ⟨f - 1, by omega⟩
    by_cases hk : k < l.length
    · have hp : resOK l[k].Need = true := by
        unfold needsOK at h
        rw [List.all_eq_true] at h
        exact h _ (List.getElem_mem _)
      have hd : needsOK (l.drop (k + 1)) = true := by
        unfold needsOK at h ⊢
        rw [List.all_eq_true] at h ⊢
        exact fun x hx => h x (List.mem_of_mem_drop hx)
      have hnn := total_nn hd
      rw [ref09_Used.l2, if_pos (dlt hk), glk hk, wk1 (by omega), List.drop_eq_getElem_cons hk]
      simp only [Option.bind_some]
      rw [Add9_eq, hs, hp]
      simp only [Bool.and_self, if_true, Option.bind_some]
      by_cases hq : resOK (radd s l[k].Need) = true
      · rw [if_pos hq]
        simp only [bne_self_eq_false, Bool.false_eq_true, if_false]
        rw [ih (k + 1) f _ (by omega) (by omega) (by omega) hq, radd_assoc]
        rfl
      · rw [if_neg hq]
        rw [if_neg (show ¬ resOK (radd s (total (l[k] :: l.drop (k + 1)))) = true from ?_)]
        · rfl
        · intro hc
          apply hq
          rw [resOK_iff] at hc hs hp ⊢
          simp only [radd, total] at hc ⊢
          omega
    · rw [ref09_Used.l2, if_neg (by simp; omega), List.drop_eq_nil_of_le (by omega), hr0, if_pos hs]

theorem Used9_eq (bs : List T_api_Bound) (name : ByteArray) (hl : bs.length ≤ 1000) : ref09_Used bs name = some (usedS (onS bs name)) := by
  have hlen := onS_len bs name
  unfold ref09_Used usedS
  rw [On9_eq bs name hl]
  simp only [Option.bind_some]
  generalize onS bs name = l at hlen
  rcases loopI (F := fun n i => ref09_Used.l1 l n i) (Q := fun r => r = (r0, 12) ∧ needsOK l = false) (S := fun k => ∀ h : k < l.length, resOK l[k].Need = true) (len := l.length) (by omega) (fun n k hk => by
      rw [ref09_Used.l1, if_pos (dlt hk), glk hk, wk1 (by omega)]
      simp only [Option.bind_some, ref04_Right_eq]
      cases h : resOK l[k].Need with
      | false =>
        refine .inl ⟨_, rfl, rfl, ?_⟩
        unfold needsOK
        rw [List.all_eq_false]
        exact ⟨l[k], List.getElem_mem _, by simp [h]⟩
      | true => exact .inr ⟨rfl, fun _ => h⟩) (fun n => by rw [ref09_Used.l1, if_neg dnl]) with ⟨r, h1, rfl, h3⟩ | ⟨h1, h2⟩
  · rw [h1, if_neg (by rw [h3]; simp)]; rfl
  · have hn : needsOK l = true := by
      unfold needsOK
      rw [List.all_eq_true]
      intro x hx
      obtain ⟨i, hi, rfl⟩ := List.getElem_of_mem hx
      exact h2 i hi hi
    have h3 := Used9_loop hn (by omega) l.length 0 FU r0 (by omega) (by unfold FU; omega) (by omega) (by decide)
    have h3' : ref09_Used.l2 l FU (⟨0, 0, 0, 0, 0⟩ : T_api_Res) 0 = _ := h3
    rw [h1, if_pos hn]
    simp only [Option.bind_some, Out.on]
    rw [h3', List.drop_zero, radd_r0]
    cases resOK (total l) <;> rfl

theorem Left9_eq (m : T_api_Machine) (bs : List T_api_Bound) (hl : bs.length ≤ 1000) : ref09_Left m bs = some (leftS m.Has (usedS (onS bs m.Name))) := by
  unfold ref09_Left leftS
  rw [Used9_eq bs m.Name hl, ref04_Right_eq]
  simp only [Option.bind_some]
  by_cases h0 : (usedS (onS bs m.Name)).2 = 0
  · rw [if_neg (by simpa using h0)]
    obtain ⟨h1, _⟩ := usedS_ok _ h0
    by_cases h2 : resOK m.Has = true
    · rw [if_pos ⟨h0, h2⟩, h2]
      simp only [Option.bind_some, Bool.not_true, Bool.false_eq_true, if_false]
      obtain ⟨a1, a2, a3, a4, a5⟩ := resOK_split h2
      obtain ⟨b1, b2, b3, b4, b5⟩ := resOK_split h1
      rw [w_sub a1 b1, w_sub a2 b2, w_sub a3 b3, w_sub a4 b4, w_sub a5 b5]
      simp only [rsub, rmin, Option.some.injEq, T_api_Res.mk.injEq]
      rw [resOK_iff] at h1 h2
      omega
    · have h2' : resOK m.Has = false := by simpa using h2
      rw [if_neg (by simp [h2']), h2']
      rfl
  · rw [if_pos (by simpa using h0), if_neg (by simp [h0])]
    rfl

def rtwo (a : T_api_Res) : T_api_Res := radd a a
theorem Times9_eq {a : T_api_Res} (ha : resOK a = true) : ref04_Times a 2 = some (if resOK (rtwo a) = true then (rtwo a, 0) else (r0, 10)) := by
  obtain ⟨n, hn⟩ := fu6
  obtain ⟨a1, a2, a3, a4, a5⟩ := resOK_split ha
  have w2 : ∀ {x : Int}, rOK x = true → IntKind.i64.wrap (x * 2) = x + x := fun {x} h => by
    rw [rOK_iff] at h
    rw [w_eq (by omega) (by omega)]; omega
  unfold ref04_Times
  rw [ref04_Right_eq, ha]
  simp only [Option.bind_some, Bool.not_true, Bool.false_or]
  rw [if_neg (by decide), hn]
  have e : ref04_Times.l1 2 (n + 6) [a.Cpu, a.Mem, a.Disk, a.Pods, a.Dev] 0 =
      if (decide (a.Cpu > (562949953421312 : Int))) = true then some (Out.ret (r0, 10)) else
      if (decide (a.Mem > (562949953421312 : Int))) = true then some (Out.ret (r0, 10)) else
      if (decide (a.Disk > (562949953421312 : Int))) = true then some (Out.ret (r0, 10)) else
      if (decide (a.Pods > (562949953421312 : Int))) = true then some (Out.ret (r0, 10)) else
      if (decide (a.Dev > (562949953421312 : Int))) = true then some (Out.ret (r0, 10)) else some (Out.go [IntKind.i64.wrap (a.Cpu * 2), IntKind.i64.wrap (a.Mem * 2), IntKind.i64.wrap (a.Disk * 2), IntKind.i64.wrap (a.Pods * 2), IntKind.i64.wrap (a.Dev * 2)]) := rfl
  rw [e, w2 a1, w2 a2, w2 a3, w2 a4, w2 a5]
  have hok := resOK_iff (rtwo a)
  simp only [rtwo, radd] at hok
  rw [resOK_iff] at ha
  by_cases h1 : a.Cpu > 562949953421312
  · rw [if_pos (by simpa using h1), if_neg (by rw [rtwo, radd, hok]; omega)]; rfl
  rw [if_neg (by simpa using h1)]
  by_cases h2 : a.Mem > 562949953421312
  · rw [if_pos (by simpa using h2), if_neg (by rw [rtwo, radd, hok]; omega)]; rfl
  rw [if_neg (by simpa using h2)]
  by_cases h3 : a.Disk > 562949953421312
  · rw [if_pos (by simpa using h3), if_neg (by rw [rtwo, radd, hok]; omega)]; rfl
  rw [if_neg (by simpa using h3)]
  by_cases h4 : a.Pods > 562949953421312
  · rw [if_pos (by simpa using h4), if_neg (by rw [rtwo, radd, hok]; omega)]; rfl
  rw [if_neg (by simpa using h4)]
  by_cases h5 : a.Dev > 562949953421312
  · rw [if_pos (by simpa using h5), if_neg (by rw [rtwo, radd, hok]; omega)]; rfl
  rw [if_neg (by simpa using h5), if_pos (by rw [rtwo, radd, hok]; omega)]
  rfl

theorem Fits9_eq (a b : T_api_Res) : ref04_Fits a b = some (resOK a && resOK b && rle a b) := by
  unfold ref04_Fits
  rw [ref04_Right_eq, ref04_Right_eq]
  simp only [Option.bind_some]
  unfold rle
  cases resOK a with
  | false => simp
  | true =>
    simp only [if_true, Option.bind_some, Bool.true_and, Option.some.injEq, Bool.and_assoc]

theorem first_neg {len : Nat} {p : Nat → Prop} {r : Int} (h : firstAt len p r) (hr : ¬ r ≥ 0) : ∀ j, j < len → ¬ p j := by
  rcases h with ⟨q, rfl, _⟩ | ⟨_, h⟩
  · omega
  · exact h

theorem others_all {bs : List T_api_Bound} {n : ByteArray} (h : ∀ k (hk : k < bs.length), bs[k].Pod.Name ≠ n) : othersS bs n = bs := by
  unfold othersS
  rw [List.filter_eq_self]
  intro b hb
  obtain ⟨i, hi, rfl⟩ := List.getElem_of_mem hb
  simpa using h i hi

theorem hit_self (l : List Int) : hit l l = decide (0 < l.length) := by
  cases l with
  | nil => simp [hit]
  | cons a l => rw [hit, if_pos rfl]; simp

theorem total_snoc (l : List T_api_Pod) (p : T_api_Pod) : total (l ++ [p]) = radd (total l) p.Need := by
  induction l with
  | nil => simp [total, radd, r0]
  | cons x l ih => rw [List.cons_append, total, ih, total, radd_assoc]

def secondN : ByteArray := ⟨#[115, 101, 99, 111, 110, 100]⟩

theorem SuitFull_true (m : T_api_Machine) (bs : List T_api_Bound) (p : T_api_Pod) (_ : T_api_Machine.ok m) (_ : bs.length ≤ maxLen ∧ ∀ a, a ∈ bs → T_api_Bound.ok a) (_ : T_api_Pod.ok p) : law10_SuitFull m bs p = some true := by
  have hK : (law10_known.bind fun r => some r) = some true := by rw [known10_true]; rfl
  unfold law10_SuitFull
  -- the guard
  obtain ⟨b, e, f⟩ := ref09_Light_eq [m] bs
  rw [e]
  cases b with
  | false => exact hK
  | true =>
  have hy := f rfl
  simp only [Option.bind_some, Bool.not_true, Bool.false_eq_true, if_false]
  obtain ⟨b, e, f⟩ := ref07_LightPod_eq p
  rw [e]
  cases b with
  | false => exact hK
  | true =>
  have hp := f rfl
  simp only [Option.bind_some, Bool.not_true, Bool.false_eq_true, if_false]
  obtain ⟨r, e, f⟩ := Check9_eq hy
  rw [e]
  simp only [Option.bind_some]
  by_cases h : r = 0
  rotate_left
  · rw [if_pos (by simpa using h)]; exact hK
  have hr := f h
  rw [if_neg (by simp [h])]
  obtain ⟨b, e⟩ := RPod_tot hp
  rw [e]
  cases b with
  | false => exact hK
  | true =>
  have hrp := e
  simp only [Option.bind_some, Bool.not_true, Bool.false_eq_true, if_false]
  have hnb := hy.nb
  obtain ⟨pl, e, hpl⟩ := Place9_eq bs p.Name (by omega)
  rw [e]
  simp only [Option.bind_some]
  by_cases hpl0 : pl ≥ 0
  · rw [if_pos (by simpa using hpl0)]; exact hK
  rw [if_neg (by simpa using hpl0)]
  have hnew : ∀ k (hk : k < bs.length), bs[k].Pod.Name ≠ p.Name := fun k hk h => first_neg hpl hpl0 k hk ⟨hk, h⟩
  -- it suits
  have hm : LM m := hy.ms 0 (by simp)
  have hports : ∀ b, b ∈ bs → b.Pod.Ports.length ≤ 1000 := fun b hb => by
    obtain ⟨i, hi, rfl⟩ := List.getElem_of_mem hb
    have := (hy.bs i hi).1.nports
    omega
  have hpp : p.Ports.length ≤ 1000 := by have := hp.nports; omega
  obtain ⟨w, hw⟩ := Place_tot hm hp
  have hs := Suits_eq (bs := bs) hw (by omega) hpp hports
  obtain ⟨hneed, hone⟩ := RPod_need hp hrp
  rw [hs]
  simp only [Option.bind_some]
  by_cases h0 : (if w = 1 ∨ w = 4 ∨ w = 5 ∨ w = 6 then w else roomS m bs p) = 0
  rotate_left
  · rw [if_pos (by simpa using h0)]; exact hK
  rw [if_neg (by simpa using h0)]
  obtain ⟨hnw, hroom⟩ := (Suits_zero hw (by omega) hpp hports hs).1 h0
  obtain ⟨z1, z2, z3, z4⟩ := roomS_zero.1 hroom
  rw [others_all hnew] at z1 z3 z4
  rw [Left9_eq m bs (by omega)]
  simp only [Option.bind_some]
  rw [ap_ok (by omega) (by simp; omega)]
  simp only [Option.bind_some, List.nil_append]
  rw [ap_ok (by omega) (by simp; omega)]
  simp only [Option.bind_some]
  obtain ⟨sl, e, hsl⟩ := Place9_eq (bs ++ [(⟨p, m.Name⟩ : T_api_Bound)]) secondN (by simp; omega)
  unfold secondN at e hsl
  rw [e]
  simp only [Option.bind_some]
  by_cases hsl0 : sl ≥ 0
  · rw [if_pos (by simpa using hsl0)]; exact hK
  rw [if_neg (by simpa using hsl0), Times9_eq hneed]
  have hsec : ∀ k (hk : k < (bs ++ [(⟨p, m.Name⟩ : T_api_Bound)]).length), (bs ++ [(⟨p, m.Name⟩ : T_api_Bound)])[k].Pod.Name ≠ (⟨#[115, 101, 99, 111, 110, 100]⟩ : ByteArray) := fun k hk h => first_neg hsl hsl0 k hk ⟨hk, h⟩
  have hmore : ∀ b, b ∈ bs ++ [(⟨p, m.Name⟩ : T_api_Bound)] → b.Pod.Ports.length ≤ 1000 := fun b hb => by
    rcases List.mem_append.1 hb with hb | hb
    · exact hports b hb
    · simp at hb; subst hb; exact hpp
  have hml : (bs ++ [(⟨p, m.Name⟩ : T_api_Bound)]).length ≤ 1000 := by simp; omega
  -- again where it is: as it was
  have hs1 := Suits_eq (bs := bs ++ [(⟨p, m.Name⟩ : T_api_Bound)]) hw hml hpp hmore
  have ho1 : othersS (bs ++ [(⟨p, m.Name⟩ : T_api_Bound)]) p.Name = bs := by
    have h1 : othersS (bs ++ [(⟨p, m.Name⟩ : T_api_Bound)]) p.Name = othersS bs p.Name ++ [] := by
      unfold othersS
      rw [List.filter_append]
      simp
    rw [h1, others_all hnew, List.append_nil]
  have hr1 : roomS m (bs ++ [(⟨p, m.Name⟩ : T_api_Bound)]) p = 0 := roomS_zero.2 (by rw [ho1]; exact ⟨z1, z2, z3, z4⟩)
  rw [if_neg hnw, hr1] at hs1
  -- a second one
  have hs2 := Suits_eq (bs := bs ++ [(⟨p, m.Name⟩ : T_api_Bound)]) (p := (⟨(⟨#[115, 101, 99, 111, 110, 100]⟩ : ByteArray), p.Need, p.Labels, p.Select, p.Terms, p.Bears, p.Ports, p.Apart, p.Wide, p.Spread, p.Skew, p.Rank, p.Owner, p.Daemon, p.Pinned, p.Local⟩ : T_api_Pod)) (w := w)
    (by rw [← hw]; exact Place_same rfl rfl rfl) hml hpp hmore
  rw [if_neg hnw] at hs2
  have hon : onS (bs ++ [(⟨p, m.Name⟩ : T_api_Bound)]) m.Name = onS bs m.Name ++ [p] := by
    unfold onS
    rw [List.filter_append, List.map_append]
    simp
  -- what is left then
  have hu0 : (usedS (onS bs m.Name)).2 = 0 ∧ resOK m.Has = true := by
    by_cases hc : (usedS (onS bs m.Name)).2 = 0 ∧ resOK m.Has = true
    · exact hc
    · unfold leftS at z3
      rw [if_neg hc, rle_iff] at z3
      simp only [r0] at z3
      omega
  obtain ⟨u1, u2, u3, u4⟩ := usedS_ok _ hu0.1
  have hL : leftS m.Has (usedS (onS bs m.Name)) = rsub m.Has (rmin (total (onS bs m.Name)) m.Has) := by
    unfold leftS; rw [if_pos hu0, u2]
  rw [hL] at z1 z3 ⊢
  have hn2 : needsOK (onS bs m.Name ++ [p]) = true := by
    unfold needsOK at u3 ⊢
    rw [List.all_append, u3]
    simp [hneed]
  have hhas := (resOK_iff _).1 hu0.2
  have hneed' := (resOK_iff _).1 hneed
  have hu4 := (resOK_iff _).1 u4
  have hz3 := (rle_iff _ _).1 z3
  simp only [rsub, rmin] at hz3
  have ht2 : resOK (total (onS bs m.Name ++ [p])) = true := by
    rw [total_snoc, resOK_iff]
    simp only [radd]
    omega
  have hU2 : usedS (onS bs m.Name ++ [p]) = (total (onS bs m.Name ++ [p]), 0) := by
    unfold usedS; rw [if_pos hn2, if_pos ht2]
  have hL2 : leftS m.Has (usedS (onS bs m.Name ++ [p])) = rsub (rsub m.Has (rmin (total (onS bs m.Name)) m.Has)) p.Need := by
    unfold leftS
    rw [hU2, if_pos ⟨rfl, hu0.2⟩, total_snoc]
    simp only [rsub, rmin, radd, T_api_Res.mk.injEq]
    omega
  have hL2ok : resOK (rsub (rsub m.Has (rmin (total (onS bs m.Name)) m.Has)) p.Need) = true := by
    rw [resOK_sub z1 hneed]; exact z3
  have hroom2 : roomS m (bs ++ [(⟨p, m.Name⟩ : T_api_Bound)]) (⟨(⟨#[115, 101, 99, 111, 110, 100]⟩ : ByteArray), p.Need, p.Labels, p.Select, p.Terms, p.Bears, p.Ports, p.Apart, p.Wide, p.Spread, p.Skew, p.Rank, p.Owner, p.Daemon, p.Pinned, p.Local⟩ : T_api_Pod) =
      if rle p.Need (rsub (rsub m.Has (rmin (total (onS bs m.Name)) m.Has)) p.Need) = true then (if 0 < p.Ports.length then 3 else 0) else 2 := by
    unfold roomS
    simp only
    rw [others_all hsec, hon, hL2, hL2ok, hneed]
    simp only [Bool.and_self, Bool.true_and]
    by_cases hq : rle p.Need (rsub (rsub m.Has (rmin (total (onS bs m.Name)) m.Has)) p.Need) = true
    · rw [if_pos hq, if_pos hq, List.any_append]
      have : (onS bs m.Name).any (fun q => hit p.Ports q.Ports) = false := by
        rw [List.any_eq_false]
        intro q hq
        simp [z4 q hq]
      rw [this]
      simp only [List.any_cons, List.any_nil, Bool.or_false, Bool.false_or, hit_self]
      by_cases hpz : 0 < p.Ports.length
      · simp [hpz]
      · simp [hpz]
    · rw [if_neg hq, if_neg hq]
  rw [hroom2] at hs2
  -- enough
  have hen : (resOK (rtwo p.Need) && (resOK (rsub m.Has (rmin (total (onS bs m.Name)) m.Has)) && rle (rtwo p.Need) (rsub m.Has (rmin (total (onS bs m.Name)) m.Has)))) = rle p.Need (rsub (rsub m.Has (rmin (total (onS bs m.Name)) m.Has)) p.Need) := by
    rw [z1, Bool.true_and, Bool.eq_iff_iff, Bool.and_eq_true, resOK_iff, rle_iff, rle_iff]
    have z1' := (resOK_iff _).1 z1
    simp only [rtwo, radd, rsub, rmin] at z1' ⊢
    omega
  generalize rsub m.Has (rmin (total (onS bs m.Name)) m.Has) = L at *
  have hc5 : (((some (if resOK (rtwo p.Need) = true then (rtwo p.Need, (0 : Int)) else (r0, 10))).bind fun r12 => (if (r12.2 == (0 : Int)) = true then (ref04_Fits r12.1 L).bind fun r13 => some r13 else some false)) = some (rle p.Need (rsub L p.Need))) := by
    rw [← hen]
    cases ht : resOK (rtwo p.Need) with
    | false => rfl
    | true =>
      simp only [if_true, Option.bind_some, beq_self_eq_true, Fits9_eq, ht, Bool.true_and]
  rw [← Option.bind_assoc, hc5]
  simp only [Option.bind_some]
  rw [hs1, hs2, known10_true]
  cases hq : rle p.Need (rsub L p.Need) with
  | false => rfl
  | true =>
    simp only [Bool.not_true, Bool.false_eq_true, if_false, if_true]
    by_cases hpz : 0 < p.Ports.length
    · simp [hpz]
    · simp [hpz]
end Go.Proofs.Ytcblmlkpcplkfaa.M

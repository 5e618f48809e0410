/-
  Printed by a program of this session out of the loaded functions: models and their proofs. Own text.
-/
import Derived.Test.YtbkdglcedgiogaaGreatPOp3
import Derived.Test.YtbkdglcedgiogaaGreatRXO
import Derived.Test.YtbkdglcedgiogaaGreatPPk2
import Derived.Test.YtbkdglcedgiogaaGreatPRef3
/- Plain law: OptionTells. Own work. -/
namespace Go.Proofs.YtbkdglcedgiogaaGreat.M
open Go Go.Proofs Go.Proofs.YtbkdglcedgiogaaGreat.V
open Go.IntKind (i64)
set_option linter.unusedVariables false
set_option maxRecDepth 20000
set_option maxHeartbeats 4000000

def ofR (ms : List T_api_Machine) (bs : List T_api_Bound) (l : List T_api_Pod) (g : T_api_Group) (room : Int) : T_api_Option × Bool := (option_Of ms bs l g room).getD (optZ, false)
/-- A yard, pods and groups for which options can be asked for. -/
structure RO (ms : List T_api_Machine) (bs : List T_api_Bound) (l : List T_api_Pod) (gs : List T_api_Group) : Prop where
  ng : gs.length ≤ 6
  gg : ∀ g, g ∈ gs → GG g
  re : ∀ g, g ∈ gs → RE ms bs l g.Like
theorem RO.of {ms : List T_api_Machine} {bs : List T_api_Bound} {l : List T_api_Pod} {gs : List T_api_Group} (h : RO ms bs l gs) {g : T_api_Group} (hg : g ∈ gs) (room : Int) : option_Of ms bs l g room = some (ofR ms bs l g room) ∧ ref20_Of ms bs l g room = some (ofR ms bs l g room) ∧ (room ≤ 0 → (ofR ms bs l g room).2 = false) ∧ ∃ mv n, ofR ms bs l g room = ofV g l mv n ∧ (n : Int) ≤ max room 0 ∧ ∃ ps : List T_api_Pod, ps.Perm l ∧ mv = (ps.foldl (stepE ms g.Like room) ⟨bs, [], 0⟩).mv ∧ n = (ps.foldl (stepE ms g.Like room) ⟨bs, [], 0⟩).n := by
  obtain ⟨mv, n, h1, h2, h3, h4⟩ := Of_same (h.re g hg) (h.gg g hg).price room
  have e : ofR ms bs l g room = ofV g l mv n := by unfold ofR; rw [h1]; rfl
  rw [e]
  refine ⟨h1, h2, fun hr => ?_, mv, n, rfl, h3, h4⟩
  unfold ofV
  rw [if_pos (by omega)]
def allV (ms : List T_api_Machine) (bs : List T_api_Bound) (l : List T_api_Pod) (rooms : List Int) : List T_api_Group → Nat → List T_api_Option
  | [], _ => []
  | g :: gs, k => if h : k < rooms.length then (if (ofR ms bs l g rooms[k]).2 = true then (ofR ms bs l g rooms[k]).1 :: allV ms bs l rooms gs (k + 1) else allV ms bs l rooms gs (k + 1)) else []
theorem allV_len (ms : List T_api_Machine) (bs : List T_api_Bound) (l : List T_api_Pod) (rooms : List Int) : ∀ (gs : List T_api_Group) (k : Nat), (allV ms bs l rooms gs k).length ≤ gs.length
  | [], k => by simp [allV]
  | g :: gs, k => by
    have := allV_len ms bs l rooms gs (k + 1)
    rw [allV, List.length_cons]
    split
    · split
      · rw [List.length_cons]; omega
      · omega
    · simp
theorem All_P {ms : List T_api_Machine} {bs : List T_api_Bound} {l : List T_api_Pod} {gs0 : List T_api_Group} (h : RO ms bs l gs0) (rooms : List Int) : ∀ (gs : List T_api_Group) (k : Nat) (out : List T_api_Option), (∀ g, g ∈ gs → g ∈ gs0) → out.length + gs.length ≤ 100 → option_All.l1 ms bs l rooms gs k out = some (out ++ allV ms bs l rooms gs k) := by
  intro gs
  induction gs with
  | nil => intro k out _ _; rw [option_All.l1, allV, List.append_nil]
  | cons g gs ih =>
    intro k out hm hl
    rw [List.length_cons] at hl
    rw [option_All.l1, allV]
    by_cases hk : k < rooms.length
    · rw [if_neg (by simp only [decide_eq_true_eq]; omega), dif_pos hk, glk hk, Option.bind_some, (h.of (hm g (List.mem_cons_self ..)) _).1, Option.bind_some]
      have hm' : ∀ g, g ∈ gs → g ∈ gs0 := fun x hx => hm x (List.mem_cons_of_mem _ hx)
      by_cases e : (ofR ms bs l g rooms[k]).2 = true
      · rw [if_pos e, if_pos e, ap_ok (by omega) (by simp; omega), Option.bind_some, ih (k + 1) _ hm' (by simp; omega)]
        simp
      · rw [if_neg e, if_neg e, ih (k + 1) out hm' (by omega)]
    · rw [if_pos (by simp only [decide_eq_true_eq]; omega), dif_neg hk, List.append_nil]
theorem All_R {ms : List T_api_Machine} {bs : List T_api_Bound} {l : List T_api_Pod} {gs : List T_api_Group} (h : RO ms bs l gs) (rooms : List Int) : ∀ (m k f : Nat) (out : List T_api_Option), gs.length - k ≤ m → m < f → k ≤ gs.length → out.length ≤ k → ref20_All.l1 ms bs l gs rooms f out (k : Int) = some (out ++ allV ms bs l rooms (gs.drop k) k) := by
  have hng := h.ng
  have fin : ∀ (f : Nat) (out : List T_api_Option), ref20_All.l1 ms bs l gs rooms (f + 1) out (gs.length : Int) = some (out ++ allV ms bs l rooms (gs.drop gs.length) gs.length) := fun f out => by
    rw [ref20_All.l1, if_neg dnl, List.drop_eq_nil_of_le (Nat.le_refl _), allV, List.append_nil]
  intro m
  induction m with
  | zero =>
    intro k f out h1 h2 h3 _
    obtain ⟨f, rfl⟩ : ∃ n', f = n' + 1 := ⟨f - 1, by omega⟩
    have : k = gs.length := by omega
    subst this
    exact fin f out
  | succ m ih =>
    intro k f out h1 h2 h3 h4
    obtain ⟨f, rfl⟩ : ∃ n', f = n' + 1 := ⟨f - 1, by omega⟩
    by_cases hk : k < gs.length
    · have hg := List.getElem_mem hk
      rw [ref20_All.l1, if_pos (dlt hk), wk1 (k := k) (by omega)]
      rw [List.drop_eq_getElem_cons hk, allV]
      by_cases hr : k < rooms.length
      · rw [if_pos (dlt hr), glk hr, dif_pos hr]
        simp only [Option.bind_some]
        rw [glk hk, Option.bind_some, (h.of hg _).2.1, Option.bind_some]
        by_cases e : (ofR ms bs l gs[k] rooms[k]).2 = true
        · rw [if_pos e, if_pos e, ap_ok (by omega) (by simp; omega), Option.bind_some, ih (k + 1) f _ (by omega) (by omega) (by omega) (by simp; omega)]
          simp
        · rw [if_neg e, if_neg e, ih (k + 1) f out (by omega) (by omega) (by omega) (by omega)]
      · rw [if_neg (by simp only [decide_eq_true_eq]; omega), dif_neg hr]
        simp only [Option.bind_some]
        rw [glk hk, Option.bind_some, (h.of hg _).2.1, Option.bind_some]
        have h0 := (h.of hg 0).2.2.1 (by omega)
        rw [if_neg (by rw [h0]; decide), ih (k + 1) f out (by omega) (by omega) (by omega) (by omega)]
        have : allV ms bs l rooms (gs.drop (k + 1)) (k + 1) = [] := by
          cases gs.drop (k + 1) with
          | nil => rfl
          | cons y ys => rw [allV, dif_neg (by omega)]
        rw [this]
    · have : k = gs.length := by omega
      subst this
      exact fin f out
theorem All20_same {ms : List T_api_Machine} {bs : List T_api_Bound} {l : List T_api_Pod} {gs : List T_api_Group} (h : RO ms bs l gs) (rooms : List Int) : option_All ms bs l gs rooms = some (allV ms bs l rooms gs 0) ∧ ref20_All ms bs l gs rooms = some (allV ms bs l rooms gs 0) := by
  have hng := h.ng
  constructor
  · unfold option_All
    rw [All_P h rooms gs 0 [] (fun g hg => hg) (by simp; omega)]; rfl
  · unfold ref20_All
    have := All_R h rooms gs.length 0 FU [] (by omega) (by unfold FU; omega) (by omega) (by simp)
    rw [show ((0 : Nat) : Int) = 0 from rfl] at this
    rw [this]; rfl

/-! pods without hope -/
def onesL (n : Nat) : List Int := List.replicate n 1
theorem allV_ones {ms : List T_api_Machine} {bs : List T_api_Bound} {l : List T_api_Pod} (n : Nat) : ∀ (gs : List T_api_Group) (k : Nat), k + gs.length ≤ n → (((allV ms bs l (onesL n) gs k).length = 0) ↔ gs.any (fun g => (ofR ms bs l g 1).2) = false)
  | [], k, _ => by simp [allV]
  | g :: gs, k, h => by
    rw [List.length_cons] at h
    have hk : k < (onesL n).length := by unfold onesL; rw [List.length_replicate]; omega
    have he : (onesL n)[k] = 1 := List.getElem_replicate _
    have ih := allV_ones (ms := ms) (bs := bs) (l := l) n gs (k + 1) (by omega)
    rw [allV, dif_pos hk, he, List.any_cons]
    cases (ofR ms bs l g 1).2
    · simp only [Bool.false_eq_true, if_false, Bool.false_or]; exact ih
    · simp
def hopeB (ms : List T_api_Machine) (bs : List T_api_Bound) (gs : List T_api_Group) (p : T_api_Pod) : Bool := gs.any fun g => (ofR ms bs [p] g 1).2
def hopelessV (ms : List T_api_Machine) (bs : List T_api_Bound) (l : List T_api_Pod) (gs : List T_api_Group) : List ByteArray := (l.filter fun p => !hopeB ms bs gs p).map (·.Name)

theorem ones_loop {n : Nat} (hn : n ≤ 6) : option_Hopeless.l1 (List.replicate n 0) FU (List.replicate n 0) 0 = some (onesL n) := by
  rcases (by omega : n = 0 ∨ n = 1 ∨ n = 2 ∨ n = 3 ∨ n = 4 ∨ n = 5 ∨ n = 6) with rfl | rfl | rfl | rfl | rfl | rfl | rfl <;> kernel_rfl

theorem Hopeless_P {ms : List T_api_Machine} {bs : List T_api_Bound} {l : List T_api_Pod} {gs : List T_api_Group} (hl : l.length ≤ 100) (hg : gs.length ≤ 6) (h : ∀ p, p ∈ l → RO ms bs [p] gs) : option_Hopeless ms bs l gs = some (hopelessV ms bs l gs) := by
  unfold option_Hopeless
  have hmk : V.mk 8 (0 : Int) (gs.length : Int) = some (List.replicate gs.length 0) := by
    unfold V.mk
    rw [if_pos (by unfold maxLen; omega), Int.toNat_natCast]
  rw [hmk, Option.bind_some, ones_loop hg, Option.bind_some]
  have key : ∀ (l2 : List T_api_Pod) (k : Nat) (out : List ByteArray), l.drop k = l2 → k ≤ l.length → out.length ≤ k → option_Hopeless.l2 ms bs l gs (onesL gs.length) l2 k out = some (out ++ (l2.filter fun p => !hopeB ms bs gs p).map (·.Name)) := by
    intro l2
    induction l2 with
    | nil => intro k out _ _ _; rw [option_Hopeless.l2]; simp
    | cons p l2 ih =>
      intro k out hd hk ho
      have hkl : k < l.length := by
        have := congrArg List.length hd; rw [List.length_drop, List.length_cons] at this; omega
      have hdd := List.drop_eq_getElem_cons hkl
      rw [hd] at hdd
      injection hdd with hp hdd
      have hs : V.sl l (some (k : Int)) (some ((k + 1 : Nat) : Int)) = some [p] := by
        unfold V.sl
        rw [if_pos ⟨⟨by simp, by simp; omega⟩, by simp [lowN, highN], by simp [highN]; omega⟩]
        simp only [lowN, highN, Int.toNat_natCast]
        congr 1
        rw [hp]
        have : (l.take (k + 1)).drop k = [l[k]] := by
          rw [List.take_succ_eq_append_getElem hkl, List.drop_append_of_le_length (by rw [List.length_take]; omega), List.drop_eq_nil_of_le (by rw [List.length_take]; omega)]
          rfl
        exact this
      have hro := h p (by rw [hp]; exact List.getElem_mem hkl)
      rw [option_Hopeless.l2, wk1 (k := k) (by omega), hs, Option.bind_some, (All20_same hro (onesL gs.length)).1, Option.bind_some, List.filter_cons]
      have hq := allV_ones (ms := ms) (bs := bs) (l := [p]) gs.length gs 0 (by omega)
      by_cases e : hopeB ms bs gs p = true
      · have hne : ¬ (allV ms bs [p] (onesL gs.length) gs 0).length = 0 := fun z => by
          have := hq.1 z
          unfold hopeB at e; rw [e] at this; cases this
        rw [if_neg (by simp only [beq_iff_eq]; omega), if_neg (by simp [e]), ih (k + 1) out hdd.symm (by omega) (by omega)]
      · rw [Bool.not_eq_true] at e
        have hz := hq.2 e
        rw [if_pos (by simp only [beq_iff_eq]; omega), if_pos (by simp [e]), ap_ok (by omega) (by simp; omega), Option.bind_some, ih (k + 1) _ hdd.symm (by omega) (by simp; omega)]
        simp
  rw [key l 0 [] rfl (by omega) (by simp)]
  rfl
theorem Hopeless_R {ms : List T_api_Machine} {bs : List T_api_Bound} {l : List T_api_Pod} {gs : List T_api_Group} (hl : l.length ≤ 100) (hg : gs.length ≤ 6) (h : ∀ p, p ∈ l → RO ms bs [p] gs) : ref20_Hopeless ms bs l gs = some (hopelessV ms bs l gs) := by
  unfold ref20_Hopeless
  have inner : ∀ (i : Nat) (hi : i < l.length) (m k f : Nat) (hope : Bool), gs.length - k ≤ m → m < f → k ≤ gs.length → ref20_Hopeless.l2 ms bs l gs (i : Int) f hope (k : Int) = some (hope || (gs.drop k).any fun g => (ofR ms bs [l[i]] g 1).2) := by
    intro i hi m
    induction m with
    | zero =>
      intro k f hope h1 h2 h3
      obtain ⟨f, rfl⟩ : ∃ n', f = n' + 1 := ⟨f - 1, by omega⟩
      have : k = gs.length := by omega
      subst this
      rw [ref20_Hopeless.l2, if_neg dnl, List.drop_eq_nil_of_le (Nat.le_refl _)]; simp
    | succ m ih =>
      intro k f hope h1 h2 h3
      obtain ⟨f, rfl⟩ : ∃ n', f = n' + 1 := ⟨f - 1, by omega⟩
      by_cases hk : k < gs.length
      · have hro := h _ (List.getElem_mem hi)
        rw [ref20_Hopeless.l2, if_pos (dlt hk), glk hi, Option.bind_some, glk hk, Option.bind_some, (hro.of (List.getElem_mem hk) 1).2.1, Option.bind_some, wk1 (k := k) (by omega), ih (k + 1) f _ (by omega) (by omega) (by omega), List.drop_eq_getElem_cons hk, List.any_cons, Bool.or_assoc]
      · have : k = gs.length := by omega
        subst this
        rw [ref20_Hopeless.l2, if_neg dnl, List.drop_eq_nil_of_le (Nat.le_refl _)]; simp
  have key : ∀ (m k f : Nat) (out : List ByteArray), l.length - k ≤ m → m < f → k ≤ l.length → out.length ≤ k → ref20_Hopeless.l1 ms bs l gs f out (k : Int) = some (out ++ ((l.drop k).filter fun p => !hopeB ms bs gs p).map (·.Name)) := by
    intro m
    induction m with
    | zero =>
      intro k f out h1 h2 h3 _
      obtain ⟨f, rfl⟩ : ∃ n', f = n' + 1 := ⟨f - 1, by omega⟩
      have : k = l.length := by omega
      subst this
      rw [ref20_Hopeless.l1, if_neg dnl, List.drop_eq_nil_of_le (Nat.le_refl _)]; simp
    | succ m ih =>
      intro k f out h1 h2 h3 h4
      obtain ⟨f, rfl⟩ : ∃ n', f = n' + 1 := ⟨f - 1, by omega⟩
      by_cases hk : k < l.length
      · have hin := inner k hk gs.length 0 FU false (by omega) (by unfold FU; omega) (by omega)
        rw [show ((0 : Nat) : Int) = 0 from rfl, List.drop_zero, Bool.false_or] at hin
        rw [ref20_Hopeless.l1, if_pos (dlt hk), hin, Option.bind_some, wk1 (k := k) (by omega), List.drop_eq_getElem_cons hk, List.filter_cons]
        by_cases e : hopeB ms bs gs l[k] = true
        · have e' : (gs.any fun g => (ofR ms bs [l[k]] g 1).2) = true := e
          rw [e', if_neg (by decide), if_neg (by simp [e]), ih (k + 1) f out (by omega) (by omega) (by omega) (by omega)]
        · rw [Bool.not_eq_true] at e
          have e' : (gs.any fun g => (ofR ms bs [l[k]] g 1).2) = false := e
          rw [e', if_pos (by decide), if_pos (by simp [e]), glk hk, Option.bind_some, ap_ok (by omega) (by simp; omega), Option.bind_some, ih (k + 1) f _ (by omega) (by omega) (by omega) (by simp; omega)]
          simp
      · have : k = l.length := by omega
        subst this
        rw [ref20_Hopeless.l1, if_neg dnl, List.drop_eq_nil_of_le (Nat.le_refl _)]; simp
  have := key l.length 0 FU [] (by omega) (by unfold FU; omega) (by omega) (by simp)
  rw [show ((0 : Nat) : Int) = 0 from rfl, List.drop_zero, List.nil_append] at this
  rw [this]
  rfl

/-- One pod of them. -/
theorem RE.one {ms : List T_api_Machine} {bs : List T_api_Bound} {l : List T_api_Pod} {k : T_api_Machine} (h : RE ms bs l k) {p : T_api_Pod} (hp : p ∈ l) : RE ms bs [p] k := by
  have hsub : (bs ++ pendA [p]).Sublist (bs ++ pendA l) := by
    refine List.Sublist.append_left ?_ bs
    exact List.Sublist.map _ (List.singleton_sublist.2 hp)
  have hmem : ∀ b, b ∈ bs ++ pendA [p] → b ∈ bs ++ pendA l := fun b hb => hsub.subset hb
  have hnd : ((bs ++ pendA l).map (·.Pod.Name)).Nodup := by
    rw [List.nodup_iff_pairwise_ne, List.pairwise_map, List.pairwise_iff_getElem]
    intro i j hi hj hij e
    have := h.ry.bu i j hi hj e
    omega
  have hnd' : ((bs ++ pendA [p]).map (·.Pod.Name)).Nodup := (hsub.map _).nodup hnd
  have ne : ∀ a b (ha : a < (bs ++ pendA [p]).length) (hb : b < (bs ++ pendA [p]).length), a < b → (bs ++ pendA [p])[a].Pod.Name ≠ (bs ++ pendA [p])[b].Pod.Name := fun a b ha hb hab q =>
    (List.pairwise_iff_getElem.1 hnd') a b (by simpa using ha) (by simpa using hb) hab (by rw [List.getElem_map, List.getElem_map]; exact q)
  refine ⟨⟨h.ly.nm, Nat.le_trans hsub.length_le h.ly.nb, h.ly.ms, fun i hi => ?_⟩, ⟨h.ry.rm, fun i hi => ?_, h.ry.mu, fun a b ha hb e => ?_, fun i hi e => ?_⟩, h.like, h.right, h.plus⟩
  · obtain ⟨j, hj, e⟩ := List.getElem_of_mem (hmem _ (List.getElem_mem hi))
    rw [← e]; exact h.ly.bs j hj
  · obtain ⟨j, hj, e⟩ := List.getElem_of_mem (hmem _ (List.getElem_mem hi))
    rw [← e]; exact h.ry.rb j hj
  · rcases Nat.lt_trichotomy a b with q | q | q
    · exact absurd e (ne a b ha hb q)
    · exact q
    · exact absurd e.symm (ne b a hb ha q)
  · obtain ⟨j, hj, e2⟩ := List.getElem_of_mem (hmem _ (List.getElem_mem hi))
    rw [← e2] at e ⊢
    exact h.ry.on j hj e

theorem baBeq (a : ByteArray) : (a == a) = true := by
  obtain ⟨a⟩ := a
  show (a == a) = true
  simp
theorem Same20_self {o : T_api_Option} (hl : o.Pods.length ≤ 1000) : ref20_Same o o = some true := by
  unfold ref20_Same
  rw [if_neg (by simp [seq_eq])]
  rcases loopI (F := fun n i => ref20_Same.l1 o o n i) (Q := fun r => False) (S := fun k => True) (len := o.Pods.length) (by omega) (fun n k hk => by
      rw [ref20_Same.l1, if_pos (dlt hk), glk hk, wk1 (by omega)]
      right; simp [seq_eq]) (fun n => by rw [ref20_Same.l1, if_neg dnl]) with ⟨r, _, h2⟩ | ⟨h1, _⟩
  · exact h2.elim
  · rw [h1]; rfl
theorem Sames_self {l : List T_api_Option} (hl : l.length ≤ 1000) (h : ∀ o, o ∈ l → o.Pods.length ≤ 1000) : ref20_Sames l l = some true := by
  unfold ref20_Sames
  rw [if_neg (by simp)]
  rcases loopI (F := fun n i => ref20_Sames.l1 l l n i) (Q := fun r => False) (S := fun k => True) (len := l.length) (by omega) (fun n k hk => by
      rw [ref20_Sames.l1, if_pos (dlt hk), glk hk, wk1 (by omega)]
      right
      simp only [Option.bind_some]
      rw [Same20_self (h _ (List.getElem_mem hk))]
      exact ⟨rfl, trivial⟩) (fun n => by rw [ref20_Sames.l1, if_neg dnl]) with ⟨r, _, h2⟩ | ⟨h1, _⟩
  · exact h2.elim
  · rw [h1]; rfl
theorem Texts_selfO {l : List ByteArray} (hl : l.length ≤ 1000) : ref09_Texts l l = some true := by
  unfold ref09_Texts
  rw [if_neg (by simp)]
  rcases loopI (F := fun n i => ref09_Texts.l1 l l n i) (Q := fun r => False) (S := fun k => True) (len := l.length) (by omega) (fun n k hk => by
      rw [ref09_Texts.l1, if_pos (dlt hk), glk hk, wk1 (by omega)]
      right; simp [seq_eq]) (fun n => by rw [ref09_Texts.l1, if_neg dnl]) with ⟨r, _, h2⟩ | ⟨h1, _⟩
  · exact h2.elim
  · rw [h1]; rfl
theorem allV_pods {ms : List T_api_Machine} {bs : List T_api_Bound} {l : List T_api_Pod} {gs0 : List T_api_Group} (h : RO ms bs l gs0) (rooms : List Int) (hl : l.length ≤ 1000) : ∀ (gs : List T_api_Group) (k : Nat), (∀ g, g ∈ gs → g ∈ gs0) → ∀ o, o ∈ allV ms bs l rooms gs k → o.Pods.length ≤ 1000 := by
  intro gs
  induction gs with
  | nil => intro k _ o ho; simp [allV] at ho
  | cons g gs ih =>
    intro k hm o ho
    have hm' : ∀ g, g ∈ gs → g ∈ gs0 := fun x hx => hm x (List.mem_cons_of_mem _ hx)
    rw [allV] at ho
    split at ho
    · rename_i hk
      split at ho
      · rcases List.mem_cons.1 ho with rfl | ho
        · obtain ⟨_, _, _, mv, n, e, _⟩ := h.of (hm g (List.mem_cons_self ..)) rooms[k]
          rw [e]
          unfold ofV
          split
          · exact Nat.zero_le _
          · show ((someL mv l).map _).length ≤ 1000
            rw [List.length_map]
            have := List.length_filter_le (fun p : T_api_Pod => mvd mv p.Name) l
            unfold someL; omega
        · exact ih (k + 1) hm' o ho
      · exact ih (k + 1) hm' o ho
    · cases ho

theorem OptionTells_true {a p q : Prop} (c : T_law20_Case) (_ : a) (_ : p) (hB : c.Bs.length ≤ 1048576) (hL : c.L.length ≤ 1048576) (_ : q) {q2 : Prop} (_ : q2) : law20_OptionTells c = some true := by
  unfold law20_OptionTells
  rw [known20_true]
  obtain ⟨b, hb, hr⟩ := Right20 c.Ms c.Bs c.L c.G (by omega)
  rw [hb]
  cases b with
  | false => rfl
  | true =>
    obtain ⟨h1, h2, k, hre⟩ := hr rfl
    have hlen := hre.ly.nb
    have hpl : (pendA c.L).length = c.L.length := by simp [pendA]
    rw [List.length_append, hpl] at hlen
    have hro : RO c.Ms c.Bs c.L c.G := ⟨h1, h2, fun g hg => hre.like' (h2 g hg).lm (h2 g hg).rm⟩
    have hone : ∀ p, p ∈ c.L → RO c.Ms c.Bs [p] c.G := fun p hp => ⟨h1, h2, fun g hg => (hre.one hp).like' (h2 g hg).lm (h2 g hg).rm⟩
    simp only [Option.bind_some, Bool.not_true, Bool.false_eq_true, if_false]
    have hal := allV_len c.Ms c.Bs c.L c.Rooms c.G 0
    rw [(All20_same hro c.Rooms).1, (All20_same hro c.Rooms).2, Option.bind_some, Option.bind_some, Sames_self (by omega) (allV_pods hro c.Rooms (by omega) c.G 0 fun g hg => hg), Option.bind_some]
    simp only [if_true]
    rw [Hopeless_P (by omega) h1 hone, Hopeless_R (by omega) h1 hone, Option.bind_some, Option.bind_some, Texts_selfO (by unfold hopelessV; rw [List.length_map]; have := List.length_filter_le (fun p => !hopeB c.Ms c.Bs c.G p) c.L; omega)]
    rfl
end Go.Proofs.YtbkdglcedgiogaaGreat.M
/- Plain law: a pod that goes with others goes alone. Own work. -/
namespace Go.Proofs.YtbkdglcedgiogaaGreat.M
open Go Go.Proofs Go.Proofs.YtbkdglcedgiogaaGreat.V
open Go.IntKind (i64)
set_option linter.unusedVariables false
set_option maxRecDepth 20000
set_option maxHeartbeats 4000000

theorem zoneS_in {ms xs : List T_api_Machine} {n : ByteArray} (h : ∃ m, m ∈ ms ∧ m.Name = n) : zoneS (ms ++ xs) n = zoneS ms n := by
  unfold zoneS
  rw [List.find?_append]
  obtain ⟨m, hm, hn⟩ := h
  cases hf : ms.find? (fun m => decide (m.Name = n)) with
  | some y => rfl
  | none => exact absurd hn (by simpa using List.find?_eq_none.1 hf m hm)
theorem zoneS_fresh {ms : List T_api_Machine} {like : T_api_Machine} (h : EP ms like) {n k : Nat} (hk : k < n) (hn : n < 59) : zoneS (allM ms like n) (freshM like (k + 1)).Name = if (getS like.Labels zoneK).2 = true then some (getS like.Labels zoneK).1 else none := by
  unfold zoneS
  have hmem := allM_new (ms := ms) (like := like) hk
  cases hf : (allM ms like n).find? (fun m => decide (m.Name = (freshM like (k + 1)).Name)) with
  | none => exact absurd (List.find?_eq_none.1 hf _ hmem) (by simp)
  | some y =>
    have hy := List.find?_some hf
    have hym := List.mem_of_find?_eq_some hf
    simp only [decide_eq_true_eq] at hy
    have : y = freshM like (k + 1) := by
      obtain ⟨i, hi, rfl⟩ := List.getElem_of_mem hym
      obtain ⟨j, hj, e⟩ := List.getElem_of_mem hmem
      rw [← e] at hy ⊢
      have := nd_idx (allM_nd h hn) i j hi hj hy
      subst this; rfl
    rw [this]
    rfl
theorem place_names (m : T_api_Machine) (a : ByteArray) (p : T_api_Pod) : suit_Place ⟨a, m.Group, m.Has, m.Labels, m.Taints, m.Ready⟩ p = suit_Place m p := by
  unfold suit_Place; rfl
theorem place_fresh (like : T_api_Machine) (j k : Nat) (p : T_api_Pod) : placeV (freshM like j) p = placeV (freshM like k) p := by
  have key : ∀ j, placeV (freshM like j) p = placeV like p := fun j => by
    unfold placeV freshM
    rw [place_names like]
  rw [key j, key k]

theorem alone {ms : List T_api_Machine} {like : T_api_Machine} (h : EP ms like) (hgm : ∀ m, m ∈ ms → GM m) (hgl : sortedL like.Labels) {bs pl : List T_api_Bound} {p : T_api_Pod} {n k : Nat} (hk : k < n) (hn : n < 59) (hsp : p.Spread.length = 0) (hpn : p.Need.Pods ≥ 1) (hneed : ∀ b, b ∈ bs ++ pl → resOK b.Pod.Need = true)
    (hon : ∀ b, b ∈ bs → b.On ≠ ⟨#[]⟩ → ∃ m, m ∈ ms ∧ m.Name = b.On) (hw : whyV (allM ms like n) (bs ++ pl) p (freshM like (k + 1)) = 0) : whyV (allM ms like 1) bs p (freshM like 1) = 0 := by
  have hG : ∀ n, n < 59 → ∀ m, m ∈ allM ms like n → GM m := fun n hn m hm => by
    rcases allM_mem hm with hm | ⟨j, hj, rfl⟩
    · exact hgm m hm
    · exact ⟨fresh_LM h.lk h.gr (by omega), hgl⟩
  rw [whyV_zero] at hw ⊢
  obtain ⟨w1, w2, w3, w4⟩ := hw
  have hno : ∀ j, onS (othersS bs p.Name) (freshM like j).Name = [] := fun j => by
    unfold onS othersS
    rw [List.map_eq_nil_iff, List.filter_eq_nil_iff]
    intro b hb e
    have hb := (List.mem_filter.1 hb).1
    have e : b.On = (freshM like j).Name := by simpa using e
    obtain ⟨m, hm, q⟩ := hon b hb (by rw [e]; exact name_ne like j)
    exact h.pl m hm (by rw [q, e]; exact fresh_plus like j)
  refine ⟨by rw [place_fresh like 1 (k + 1)]; exact w1, ?_, ?_, many_none _ _ _ _ hsp⟩
  · rw [roomS_zero] at w2 ⊢
    obtain ⟨r1, r2, r3, r4⟩ := w2
    rw [hno 1]
    have hok : needsOK (onS (othersS (bs ++ pl) p.Name) (freshM like (k + 1)).Name) = true := by
      unfold needsOK
      rw [List.all_eq_true]
      intro q hq
      unfold onS othersS at hq
      obtain ⟨b, h1, rfl⟩ := List.mem_map.1 hq
      exact hneed b (List.mem_filter.1 (List.mem_filter.1 h1).1).1
    obtain ⟨l1, l2⟩ := left_sub (List.nil_sublist _) hok like.Has p.Need r1 r3 hpn
    exact ⟨l1, r2, l2, fun q hq => by cases hq⟩
  · unfold nearB at w3 ⊢
    rw [List.any_eq_false] at w3 ⊢
    intro b hb
    have hq := w3 b (List.mem_append.2 (.inl hb))
    unfold nearQ at hq ⊢
    rw [seq_eq, seq_eq] at hq ⊢
    by_cases e1 : b.On = ⟨#[]⟩
    · simp [e1]
    · by_cases e2 : b.Pod.Name = p.Name
      · simp [e2]
      · obtain ⟨m, hm, q⟩ := hon b hb e1
        have hnk : ∀ j, (freshM like j).Name ≠ b.On := fun j e => h.pl m hm (by rw [q, ← e]; exact fresh_plus like j)
        have one : ∀ (x y : T_api_Pod) (w : Bool), oneB (zonesV (allM ms like 1)) (freshM like 1).Name b.On w = oneB (zonesV (allM ms like n)) (freshM like (k + 1)).Name b.On w ∧ oneB (zonesV (allM ms like 1)) b.On (freshM like 1).Name w = oneB (zonesV (allM ms like n)) b.On (freshM like (k + 1)).Name w := fun _ _ w => by
          have z1 : ∀ n, zoneS (allM ms like n) b.On = zoneS ms b.On := fun n => zoneS_in ⟨m, hm, q⟩
          have z2 := zoneS_fresh h (n := n) (k := k) hk hn
          have z3 := zoneS_fresh h (n := 1) (k := 0) (by omega) (by omega)
          rw [Nat.zero_add] at z3
          unfold oneB
          rw [zones_mg (hG n hn) (allM_nd h hn), zones_mg (hG n hn) (allM_nd h hn), zones_mg (hG 1 (by omega)) (allM_nd h (by omega)), zones_mg (hG 1 (by omega)) (allM_nd h (by omega)), z1, z1, z2, z3]
          simp only [seq_eq, decide_eq_false (hnk 1), decide_eq_false (hnk (k + 1)), decide_eq_false (Ne.symm (hnk 1)), decide_eq_false (Ne.symm (hnk (k + 1)))]
          exact ⟨trivial, trivial⟩
        unfold barsB at hq ⊢
        rw [(one p p _).1, (one p p _).2]
        exact hq
end Go.Proofs.YtbkdglcedgiogaaGreat.M
/- Plain law: what an option's pods are. Own work. -/
namespace Go.Proofs.YtbkdglcedgiogaaGreat.M
open Go Go.Proofs Go.Proofs.YtbkdglcedgiogaaGreat.V
open Go.IntKind (i64)
set_option linter.unusedVariables false
set_option maxRecDepth 20000
set_option maxHeartbeats 4000000

/-- It goes somewhere, beside others. -/
def Wn (ms : List T_api_Machine) (like : T_api_Machine) (bs : List T_api_Bound) (p : T_api_Pod) : Prop := ∃ (pl : List T_api_Bound) (n k : Nat), k < n ∧ n < 59 ∧ (∀ b, b ∈ pl → resOK b.Pod.Need = true) ∧ whyV (allM ms like n) (bs ++ pl) p (freshM like (k + 1)) = 0
theorem pick_fits {ms : List T_api_Machine} {like : T_api_Machine} {limit : Int} {s : ES} {p : T_api_Pod} {k : Nat} (h : pick ms like limit s p = some k) : 1 ≤ k ∧ k ≤ s.n + 1 ∧ whyV (allM ms like (max s.n k)) s.bs p (freshM like k) = 0 := by
  obtain ⟨h1, h2⟩ := pick_lt h
  refine ⟨h1, h2, ?_⟩
  unfold pick at h
  split at h
  · rename_i j hj
    have hjn := List.mem_range.1 (List.mem_of_find?_eq_some hj)
    have hq := List.find?_some hj
    simp only [Option.some.injEq] at h
    subst h
    rw [show max s.n (j + 1) = s.n by omega]
    unfold fitsK at hq
    simpa using hq
  · split at h
    · split at h
      · rename_i hq
        simp only [Option.some.injEq] at h
        subst h
        rw [show max s.n (s.n + 1) = s.n + 1 by omega]
        unfold fitsK at hq
        simpa using hq
      · cases h
    · cases h
theorem fold_W {ms : List T_api_Machine} {like : T_api_Machine} {limit : Int} {bs : List T_api_Bound} {l : List T_api_Pod} (hl : ∀ p, p ∈ l → resOK p.Need = true) : ∀ (ps : List T_api_Pod) (s : ES) (pl : List T_api_Bound), EI s ps → s.bs = bs ++ pl → (∀ b, b ∈ pl → resOK b.Pod.Need = true) → (∀ p, p ∈ ps → p ∈ l) → (∀ m, m ∈ s.mv → ∃ p, p ∈ l ∧ m.Pod = p.Name ∧ Wn ms like bs p) →
    ∀ m, m ∈ (ps.foldl (stepE ms like limit) s).mv → ∃ p, p ∈ l ∧ m.Pod = p.Name ∧ Wn ms like bs p := by
  intro ps
  induction ps with
  | nil => intro s pl _ _ _ _ h; exact h
  | cons p ps ih =>
    intro s pl hi hb hpl hp h
    have hst := hi.step (ms := ms) (like := like) (limit := limit)
    rw [List.foldl_cons]
    have hc := hi.c
    have hin := hi.n
    rw [List.length_cons] at hc
    have hpm := hp p (List.mem_cons_self ..)
    have hp' : ∀ q, q ∈ ps → q ∈ l := fun q hq => hp q (List.mem_cons_of_mem _ hq)
    cases hk : pick ms like limit s p with
    | none =>
      have e : stepE ms like limit s p = s := by unfold stepE; rw [hk]
      rw [e] at hst ⊢
      exact ih s pl hst hb hpl hp' h
    | some k =>
      have e : stepE ms like limit s p = putE like s p k := by unfold stepE; rw [hk]
      rw [e] at hst ⊢
      obtain ⟨k1, k2, hw⟩ := pick_fits hk
      refine ih (putE like s p k) (pl ++ [⟨p, (freshM like k).Name⟩]) hst (by show s.bs ++ _ = _; rw [hb, List.append_assoc]) (fun b hb => ?_) hp' fun m hm => ?_
      · rcases List.mem_append.1 hb with hb | hb
        · exact hpl b hb
        · rw [List.mem_singleton.1 hb]; exact hl p hpm
      · rcases List.mem_append.1 hm with hm | hm
        · exact h m hm
        · rw [List.mem_singleton.1 hm]
          refine ⟨p, hpm, rfl, pl, max s.n k, k - 1, by omega, by omega, hpl, ?_⟩
          rw [show k - 1 + 1 = k by omega, ← hb]
          exact hw

/-- So many pods go as are moved. -/
theorem some_len {mv : List T_api_Move} {l : List T_api_Pod} (h1 : (mv.map (·.Pod)).Nodup) (h2 : (l.map (·.Name)).Nodup) (h3 : ∀ m, m ∈ mv → ∃ p, p ∈ l ∧ m.Pod = p.Name) : (someL mv l).length = mv.length := by
  have hnd : ((someL mv l).map (·.Name)).Nodup := (List.Sublist.map _ (List.filter_sublist)).nodup h2
  have hp : ((someL mv l).map (·.Name)).Perm (mv.map (·.Pod)) := by
    rw [List.perm_ext_iff_of_nodup hnd h1]
    intro x
    constructor
    · intro hx
      obtain ⟨p, hp, rfl⟩ := List.mem_map.1 hx
      have := (List.mem_filter.1 hp).2
      unfold mvd at this
      obtain ⟨m, hm, e⟩ := List.any_eq_true.1 this
      exact List.mem_map.2 ⟨m, hm, by simpa using e⟩
    · intro hx
      obtain ⟨m, hm, rfl⟩ := List.mem_map.1 hx
      obtain ⟨p, hp, e⟩ := h3 m hm
      refine List.mem_map.2 ⟨p, List.mem_filter.2 ⟨hp, ?_⟩, e.symm⟩
      unfold mvd
      exact List.any_eq_true.2 ⟨m, hm, by simpa using e⟩
  have := hp.length_eq
  simpa using this

/-- A group's way: at least as many pods as machines, no more machines than there is room, and no pod without hope. -/
theorem way {ms : List T_api_Machine} {bs : List T_api_Bound} {l : List T_api_Pod} {gs : List T_api_Group} (h : RO ms bs l gs) {g : T_api_Group} (hg : g ∈ gs) (room : Int) (hr : (ofR ms bs l g room).2 = true) :
    ∃ so : List T_api_Pod, so.Sublist l ∧ (ofR ms bs l g room).1.Pods = so.map (·.Name) ∧ (ofR ms bs l g room).1.Group = g.Name ∧ 1 ≤ (ofR ms bs l g room).1.Count ∧ (ofR ms bs l g room).1.Count ≤ room ∧ (ofR ms bs l g room).1.Count ≤ (so.length : Int) ∧ ∀ p, p ∈ so → p.Spread.length = 0 → (ofR ms bs [p] g 1).2 = true := by
  obtain ⟨_, _, _, mv, n, e, hn, ps, hps, hmv, hnn⟩ := h.of hg room
  have hre := h.re g hg
  have hei := hre.ei hps
  have n0 : n ≠ 0 := fun z => by
    rw [e] at hr; unfold ofV at hr; rw [if_pos z] at hr; cases hr
  have hlp : ∀ p, p ∈ l → LP p ∧ ref07_RightPod p = some true := fun p hp => by
    obtain ⟨i, hi, e⟩ := List.getElem_of_mem (List.mem_append.2 (.inr (List.mem_map.2 ⟨p, hp, rfl⟩)) : (⟨p, ⟨#[]⟩⟩ : T_api_Bound) ∈ bs ++ pendA l)
    have h1 := (hre.ly.bs i hi).1
    have h2 := hre.ry.rb i hi
    rw [e] at h1 h2
    exact ⟨h1, h2⟩
  have hneed : ∀ p, p ∈ l → resOK p.Need = true ∧ p.Need.Pods = 1 := fun p hp => RPod_need (hlp p hp).1 (hlp p hp).2
  have hW := fold_W (ms := ms) (like := g.Like) (limit := room) (bs := bs) (l := l) (fun p hp => (hneed p hp).1) ps ⟨bs, [], 0⟩ [] hei (by simp) (fun b hb => by cases hb) (fun p hp => hps.mem_iff.1 hp) (fun m hm => by cases hm)
  rw [← hmv] at hW
  have hnd := mv_fold (ms := ms) (like := g.Like) (limit := room) ps ⟨bs, [], 0⟩ hei.nd (by simp) (fun m hm => by cases hm)
  rw [← hmv] at hnd
  have hfin : ∀ (ps : List T_api_Pod) (s : ES), EI s ps → (ps.foldl (stepE ms g.Like room) s).n ≤ (ps.foldl (stepE ms g.Like room) s).mv.length := by
    intro ps
    induction ps with
    | nil => intro s hi; exact hi.n
    | cons p ps ih => intro s hi; exact ih _ hi.step
  have hnm := hfin ps ⟨bs, [], 0⟩ hei
  rw [← hmv, ← hnn] at hnm
  have hlnd : (l.map (·.Name)).Nodup := (hps.map _).nodup_iff.1 hei.nd
  have hsl := some_len hnd hlnd fun m hm => by
    obtain ⟨p, hp, e, _⟩ := hW m hm
    exact ⟨p, hp, e⟩
  have hof : ofR ms bs l g room = (optV g l mv n, true) := by rw [e]; unfold ofV; rw [if_neg n0]
  rw [hof]
  refine ⟨someL mv l, List.filter_sublist, rfl, rfl, by show (1 : Int) ≤ (n : Int); omega, by show (n : Int) ≤ room; omega, by show (n : Int) ≤ _; omega, fun p hp hsp => ?_⟩
  have hpl : p ∈ l := (List.mem_filter.1 hp).1
  have hmd := (List.mem_filter.1 hp).2
  unfold mvd at hmd
  obtain ⟨m, hm, em⟩ := List.any_eq_true.1 hmd
  obtain ⟨p', hp', e', pl, n', k, k1, k2, k3, k4⟩ := hW m hm
  have hpp : p' = p := by
    have em : m.Pod = p.Name := by simpa using em
    obtain ⟨i, hi, rfl⟩ := List.getElem_of_mem hp'
    obtain ⟨j, hj, rfl⟩ := List.getElem_of_mem hpl
    have en : l[i].Name = l[j].Name := by rw [← e', em]
    have ne : ∀ a b (ha : a < l.length) (hb : b < l.length), a < b → l[a].Name ≠ l[b].Name := fun a b ha hb hab q =>
      (List.pairwise_iff_getElem.1 hlnd) a b (by simpa using ha) (by simpa using hb) hab (by rw [List.getElem_map, List.getElem_map]; exact q)
    rcases Nat.lt_trichotomy i j with q | q | q
    · exact absurd en (ne i j hi hj q)
    · subst q; rfl
    · exact absurd en.symm (ne j i hj hi q)
  subst hpp
  have hbneed : ∀ b, b ∈ bs ++ pl → resOK b.Pod.Need = true := fun b hb => by
    rcases List.mem_append.1 hb with hb | hb
    · obtain ⟨i, hi, e⟩ := List.getElem_of_mem (List.mem_append.2 (.inl hb) : b ∈ bs ++ pendA l)
      have h1 := (hre.ly.bs i hi).1
      have h2 := hre.ry.rb i hi
      rw [e] at h1 h2
      exact (RPod_need h1 h2).1
    · exact k3 b hb
  have hon : ∀ b, b ∈ bs → b.On ≠ ⟨#[]⟩ → ∃ m, m ∈ ms ∧ m.Name = b.On := fun b hb e => by
    obtain ⟨i, hi, e1⟩ := List.getElem_of_mem (List.mem_append.2 (.inl hb) : b ∈ bs ++ pendA l)
    obtain ⟨j, hj, e2⟩ := hre.ry.on i hi (by rw [e1]; exact e)
    exact ⟨ms[j], List.getElem_mem hj, by rw [e2, e1]⟩
  have hal := alone hre.ep (gms hre.ly hre.ry) (gm_of hre.like hre.right).so k1 k2 hsp (by have := (hneed p' hp').2; omega) hbneed hon k4
  -- alone
  have hone : RO ms bs [p'] gs := ⟨h.ng, h.gg, fun g hg => (h.re g hg).one hp'⟩
  obtain ⟨_, _, _, mv1, n1, e1, _, ps1, hps1, _, hn1⟩ := hone.of hg 1
  have : ps1 = [p'] := List.perm_singleton.1 hps1
  subst this
  have hpk : pick ms g.Like 1 ⟨bs, [], 0⟩ p' = some 1 := by
    unfold pick
    simp only [List.range_zero, List.find?_nil]
    rw [if_pos (by omega), if_pos (by unfold fitsK; simpa using hal)]
  have hn1' : n1 = 1 := by
    rw [hn1]
    show (stepE ms g.Like 1 ⟨bs, [], 0⟩ p').n = 1
    unfold stepE; rw [hpk]; rfl
  rw [e1]
  unfold ofV
  rw [if_neg (by omega)]
end Go.Proofs.YtbkdglcedgiogaaGreat.M
